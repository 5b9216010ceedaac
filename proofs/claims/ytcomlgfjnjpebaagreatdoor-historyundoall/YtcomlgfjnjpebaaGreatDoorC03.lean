/- For the claim of HistoryUndoAll: parts VL15, VL16, VL17, VL18, VL19, VL20, VL21, VL22, VL24, VL23, VL25. -/
import Derived.Test.YtcomlgfjnjpebaaGreatDoorC02
import Derived.LoopN
set_option linter.unusedSimpArgs false
set_option linter.unusedVariables false
section
namespace Go.VL
theorem Am {X Y:Nat->Bool}:∀ (L:List Done) (i:Nat) (t:List AV),(∀ k,k<L.length->X (i+k)=Y (i+k))->eQ X L i t=eQ Y L i t
 | [],_,_,_=>rfl
 | (d,r)::L,i,t,h=>by
   simp only [eQ]
   have h0:=h 0 (by simp)
   rw [Nat.add_zero] at h0
   rw [h0]
   exact Am L (i+1) _ (fun k hk=>by rw [show i+1+k=i+(k+1) from by omega];exact h (k+1) (by simpa using hk))
theorem Ao {X Y:Nat->Bool}:∀ (L:List Done) (i:Nat) (σ : aa),(∀ k,k<L.length->X (i+k)=Y (i+k))->gu X L i σ = gu Y L i σ
 | [],_,_,_=>rfl
 | (d,r)::L,i,t,h=>by
   simp only [gu]
   have h0:=h 0 (by simp)
   rw [Nat.add_zero] at h0
   rw [h0]
   exact Ao L (i+1) _ (fun k hk=>by rw [show i+1+k=i+(k+1) from by omega];exact h (k+1) (by simpa using hk))
theorem EP {X Y:Nat->Bool} {i:Nat} (hX:X i=false) (hY:Y i=true) (hXY:∀ k,X k=true->Y k=true):∀ (l:List Nat),i∈l->l.countP X<l.countP Y
 | [],h=>by simp at h
 | a :: l,h=>by
   have hle:l.countP X<=l.countP Y:=List.countP_mono_left fun x _ hx=>hXY x hx
   simp only [List.countP_cons]
   rcases List.mem_cons.1 h with rfl | h
   . simp [hX,hY];omega
   . have:=EP hX hY hXY l h
     by_cases ha:X a=true
     . simp [ha,hXY a ha];omega
     . simp [ha];split<;>omega
theorem CF {X:Nat->Bool}:∀ (l:List Nat),l.length<=l.countP X->∀ i∈l,X i=true
 | [],_,i,h=>by simp at h
 | a :: l,hc,i,h=>by
   have hle:=List.countP_le_length (p:=X) (l:=l)
   simp only [List.countP_cons,List.length_cons] at hc
   by_cases ha:X a=true
   . simp only [ha,if_true] at hc
     rcases List.mem_cons.1 h with rfl | h
     . exact ha
     . exact CF l (by omega) i h
   . simp [ha] at hc;omega
section
variable {P:Program} {G:Nat->Option (List AV)} {own:Nat->Prop}
theorem yD {n i j:Nat} (Kg:i<j) (hj:j<n):(i,j)∈yq n:=by
 unfold yq
 rw [List.mem_flatMap]
 exact ⟨j,List.mem_range.2 hj,List.mem_map.2 ⟨i,List.mem_range.2 Kg,rfl⟩⟩
structure Mid (G:Nat->Option (List AV)) (π : Id) (own:Nat->Prop) (L:List Done) (base n:Nat) (t0:List AV) (σ0:aa) (a0:Act) (E0:Env) (w0:World) (X:Nat->Bool) (E:Env) (w:World) (a:Act):Prop where
 frame:cn E w (eQ X L 0 t0) a
 inv:Inv G own E w (gu X L 0 σ0)
 Cr:kC own π E0 E w0 w
 free:∀ i,i<n->X i=false->∀ j,((base+i) :: π) <:+ j->E.μ j=none
 more:xL E π (base+n)
 defers:a.defers=a0.defers
theorem NG {ops:Array Oper} {vs:List bp} (Lz:ops.toList.mapM (xn P ops)=some vs) (PN:B8 vs (ops.toList.map xp)=true)
   {π : Id} {base:Nat} {t0:List AV} {σ0:aa} {rs:List dN} (Zr:rs.length=vs.length)
   (hst:∀ k o r,vs[k]? = some o->rs[k]? = some r->yB P G π base o (0+k) (eQ (fun m=>m<0+k) ((vs.map (·.dst)).zip rs) 0 t0) (gu (fun m=>m<0+k) ((vs.map (·.dst)).zip rs) 0 σ0) r)
   (zZ:ar rs (wI vs (ops.toList.map xp))) {a0:Act} {E0:Env} {w0:World} {Q:Exit->Act->World->Prop}
   (hQ:∀ a E w,Mid G π own ((vs.map (·.dst)).zip rs) base ops.size t0 σ0 a0 E0 w0 (fun _=>true) E w a->Q .normal a w) :
   ∀ (fuel:Nat) (listed:Array Bool) (a:Act) (E:Env) (w:World),listed.size=ops.size->ops.size<=(List.range ops.size).countP (fun i=>listed.getD i false)+fuel ->
     (∀ k,k<ops.size->listed.getD k false=true->∀ e∈(ops.toList.map xp).getD k [],listed.getD e false=true) ->
     Mid G π own ((vs.map (·.dst)).zip rs) base ops.size t0 σ0 a0 E0 w0 (fun i=>listed.getD i false) E w a->wpAny P .any ops Q fuel listed a w:=by
 have uG:vs.length=ops.size:=by have:=gQ Lz;simpa using this
 generalize hL:(vs.map (·.dst)).zip rs=L at *
 have hLl:L.length=ops.size:=by rw [<- hL];simp [Zr,uG]
 have LB:∀ (k:Nat) (d:Option Nat) (r:dN),L[k]? = some (d,r)↔∃ o:bp,vs[k]? = some o/\o.dst=d/\rs[k]? = some r:=by
   intro k d r
   rw [<- hL,List.getElem?_zip_eq_some]
   simp only [List.getElem?_map,Option.map_eq_some_iff]
   constructor
   . rintro ⟨⟨o,h1,h2⟩,h3⟩;exact ⟨o,h1,h2,h3⟩
   . rintro ⟨o,h1,h2,h3⟩;exact ⟨⟨o,h1,h2⟩,h3⟩
 generalize Zs:ops.toList.map xp=pz at *
 have agx:pz.length=ops.size:=by rw [<- Zs];simp
 unfold B8 at PN
 simp only [Bool.and_eq_true,List.all_eq_true] at PN
 obtain ⟨⟨_,hlt⟩,WR⟩:=PN
 have WS:∀ j,j<ops.size->∀ e∈pz.getD j [],e<j:=by
   intro j hj e he
   have:=hlt j (List.mem_range.2 (by rw [uG];exact hj)) e he
   simpa using this
 have uU:∀ (i j:Nat) (a b:bp),i<j->vs[i]? = some a->vs[j]? = some b->Bb a b=true->((jG pz []).getD j 0).testBit i=true:=by
   intro i j a b Kg ha hb hc
   have hj:j<vs.length:=(List.getElem?_eq_some_iff.1 hb).1
   have:=WR (i,j) (yD Kg hj)
   simp only [ha,hb,hc,Bool.not_true,Bool.false_or] at this
   exact this
 have yC:∀ (i j:Nat) (a b:bp),i<j->vs[i]? = some a->vs[j]? = some b->a.op.pure=false->b.op.pure=false->(a.op.rq&&b.op.rq)=false->((jG pz []).getD j 0).testBit i=false->∀ (x y:dN),rs[i]? = some x->rs[j]? = some y->apart x y:=by
   intro i j a b Kg ha hb hpa hpb Tg hm x y hx hy
   have hj:j<vs.length:=(List.getElem?_eq_some_iff.1 hb).1
   refine zZ (i,j) ?_ x y hx hy
   unfold wI
   rw [List.mem_filter]
   exact ⟨yD Kg hj,by simp only [ha,hb,hpa,hpb,Tg,hm];rfl⟩
 -- an operation that touches a block is not pure
 have touch:∀ (k:Nat) (o:bp) (r:dN),vs[k]? = some o->rs[k]? = some r->(r.rd≠[]∨r.up≠[])->o.op.pure=false:=by
   intro k o r ho hr hne
   cases hp:o.op.pure with
   | false=>rfl
   | true =>
     rcases hst k o r ho hr with ⟨_,rfl⟩ | ⟨_,hs⟩
     . simp at hne
     . obtain ⟨h1,h2⟩:=ND hp hs
       simp [h1,h2] at hne
 have PO:∀ (k:Nat) (o:bp) (r:dN),vs[k]? = some o->rs[k]? = some r->r.up≠[]->o.op.rq=false:=by
   intro k o r ho hr hne
   cases hp:o.op.rq with
   | false=>rfl
   | true =>
     rcases hst k o r ho hr with ⟨_,rfl⟩ | ⟨_,hs⟩
     . simp at hne
     . exact absurd (NF hp hs) hne
 intro fuel
 induction fuel with
 | zero =>
   intro listed a E w xN Zt Hm hm
   have cz:∀ i,i<ops.size->listed.getD i false=true:=by
     intro i hi
     have:=CF (X:=fun i=>listed.getD i false) (List.range ops.size) (by simpa using Zt) i (List.mem_range.2 hi)
     exact this
   refine ⟨?_,hQ a E w ?_⟩
   . apply List.eq_nil_iff_forall_not_mem.2
     intro j hj
     obtain ⟨h1,o,h2,_⟩:=mem_ready.1 hj
     have nL:j<ops.size:=(Array.getElem?_eq_some_iff.1 h2).1
     have:=cz j nL
     rw [Array.getD_eq_getD_getElem?] at h1 this
     cases hh:listed[j]? with
     | none=>simp [hh] at this
     | some b=>simp [hh] at h1 this;simp [h1] at this
   . have e1:eQ (fun i=>listed.getD i false) L 0 t0=eQ (fun _=>true) L 0 t0:=Am L 0 t0 (fun k hk=>by rw [Nat.zero_add];exact cz k (by omega))
     have e2:gu (fun i=>listed.getD i false) L 0 σ0=gu (fun _=>true) L 0 σ0:=Ao L 0 σ0 (fun k hk=>by rw [Nat.zero_add];exact cz k (by omega))
     exact ⟨e1▸hm.frame,e2▸hm.inv,hm.Cr,by simp,hm.more,hm.defers⟩
 | succ fuel ih =>
   intro listed a E w xN Zt Hm hm
   have Zu:∀ i,i<ops.size->listed.getD i true=listed.getD i false:=by
     intro i hi
     rw [Array.getD_eq_getD_getElem?,Array.getD_eq_getD_getElem?,Array.getElem?_eq_getElem (by omega)]
     rfl
   have VF:∀ (j:Nat) (o:Oper),ops[j]? = some o->pz.getD j []=xp o:=by
     intro j o ho
     rw [<- Zs]
     have hj:j<ops.size:=(Array.getElem?_eq_some_iff.1 ho).1
     have he:ops[j]=o:=(Array.getElem?_eq_some_iff.1 ho).2
     simp [List.getD,hj,he]
   refine ⟨?_, ?_⟩
   . -- nothing is ready: all is done
     intro yE
     have cz : ∀ i,i<ops.size->listed.getD i false=true:=by
       intro i
       induction i using Nat.strongRecOn with
       | _ i ihi =>
         intro hi
         cases hh:listed.getD i false with
         | true=>rfl
         | false =>
           exfalso
           have vA:i∈Region.ready .any ops listed:=by
             refine mem_ready.2 ⟨(Zu i hi).trans hh,ops[i],by simp [hi], ?_⟩
             intro e he hb
             have TN:e.on∈pz.getD i []:=by
               rw [VF i ops[i] (by simp [hi])]
               unfold xp
               exact List.mem_map.2 ⟨e,List.mem_filter.2 ⟨by simpa using he,hb⟩,rfl⟩
             have:=WS i hi e.on TN
             exact ihi e.on this (by omega)
           rw [yE] at vA
           simp at vA
     have e1:eQ (fun i=>listed.getD i false) L 0 t0=eQ (fun _=>true) L 0 t0:=Am L 0 t0 (fun k hk=>by rw [Nat.zero_add];exact cz k (by omega))
     have e2:gu (fun i=>listed.getD i false) L 0 σ0=gu (fun _=>true) L 0 σ0:=Ao L 0 σ0 (fun k hk=>by rw [Nat.zero_add];exact cz k (by omega))
     exact hQ a E w ⟨e1▸hm.frame,e2▸hm.inv,hm.Cr,by simp,hm.more,hm.defers⟩
   . intro j hj
     obtain ⟨h1,o,ho,Zv⟩:=mem_ready.1 hj
     have J0:j<ops.size:=(Array.getElem?_eq_some_iff.1 ho).1
     have YQ:listed.getD j false=false:=(Zu j J0).symm.trans h1
     generalize hX:(fun i=>listed.getD i false)=X at *
     have hXd:∀ i,listed.getD i false=X i:=fun i=>by rw [<- hX]
     simp only [hXd] at Hm YQ
     have xJ:∀ e∈pz.getD j [],X e=true:=by
       intro e he
       rw [VF j o ho] at he
       unfold xp at he
       obtain ⟨ed,hed,rfl⟩:=List.mem_map.1 he
       obtain ⟨h3,h4⟩:=List.mem_filter.1 hed
       rw [<- hXd]
       exact Zv ed (by simpa using h3) h4
     have pre:∀ i,((jG pz []).getD j 0).testBit i=true->X i=true:=Bf WS Hm j J0 xJ
     have post:∀ k,k<ops.size->X k=true->((jG pz []).getD k 0).testBit j=false:=by
       intro k hk BQ
       cases hb:((jG pz []).getD k 0).testBit j with
       | false=>rfl
       | true=>have:=Bf WS Hm k hk (Hm k hk BQ) j hb;simp [YQ] at this
     -- the operation
     have xM:∃ vo,vs[j]? = some vo/\xn P ops o=some vo:=by
       have hjv:j<vs.length:=by omega
       obtain ⟨o',h3,h4⟩:=mapM_some_get Lz j vs[j] (by simp [hjv])
       have:o'=o:=by
         have h5:ops.toList[j]? = some o:=by simpa using ho
         rw [h5] at h3;simpa using h3.symm
       subst this
       exact ⟨vs[j],by simp [hjv],h4⟩
     obtain ⟨vo,CG,xM⟩:=xM
     obtain ⟨hop,PL⟩:=Hh xM
     have hrj:j<rs.length:=by omega
     obtain ⟨r,hr⟩:∃ r,rs[j]? = some r:=⟨rs[j],by simp [hrj]⟩
     have hsc:=hst j vo r CG hr
     rw [Nat.zero_add] at hsc
     -- a slot that it names
     have slot:∀ s∈vo.names,(eQ X L 0 t0)[s]? = (eQ (fun m=>m<j) L 0 t0)[s]? := by
       intro s hs
       refine qV L 0 t0 t0 rfl ?_
       intro k d r' hk hne hds
       rw [Nat.zero_add] at hne
       obtain ⟨ok,h3,h4,h5⟩:=(LB k d r').1 hk
       subst hds
       have TF:k<ops.size:=by have:=(List.getElem?_eq_some_iff.1 h3).1;omega
       rcases Nat.lt_trichotomy k j with rA | rfl | Zw
       . have BQ:X k=false:=by
           cases hh:X k with
           | false=>rfl
           | true=>simp [hh,rA] at hne
         have hc:Bb ok vo=true:=by unfold Bb;simp [h4,hs]
         have:=pre k (uU k j ok vo rA h3 CG hc)
         simp [BQ] at this
       . simp [YQ] at hne
       . have BQ:X k=true:=by
           cases hh:X k with
           | true=>rfl
           | false=>simp [hh,Nat.not_lt.2 (Nat.le_of_lt Zw)] at hne
         have hc:Bb vo ok=true:=by unfold Bb;simp [h4,hs]
         have:=uU j k vo ok Zw CG h3 hc
         rw [post k TF BQ] at this
         simp at this
     have acZ:vo.op.map (aT.ev G (eQ X L 0 t0))=vo.op.map (aT.ev G (eQ (fun m=>m<j) L 0 t0)):=by
       refine gB.map_congr _ fun x hx=>PM x fun s hs=>slot s ?_
       unfold bp.names
       exact List.mem_append_left _ (List.mem_filterMap.2 ⟨x,hx,hs⟩)
     have VG:eP (eQ X L 0 t0) vo.guard=eP (eQ (fun m=>m<j) L 0 t0) vo.guard:=by
       cases hg:vo.guard with
       | none=>rfl
       | some q =>
         obtain ⟨s,want⟩:=q
         have:=slot s (by unfold bp.names;simp [hg])
         simp only [eP,this]
     have Np:∀ id∈r.rd,gu X L 0 σ0 id=gu (fun m=>m<j) L 0 σ0 id:=by
       intro id hid
       refine qW L 0 σ0 σ0 rfl ?_
       intro k d r' hk hne vA
       rw [Nat.zero_add] at hne
       obtain ⟨ok,h3,h4,h5⟩:=(LB k d r').1 hk
       have TF:k<ops.size:=by have:=(List.getElem?_eq_some_iff.1 h3).1;omega
       have WT:ok.op.pure=false:=touch k ok r' h3 h5 (.inr (by intro e;simp [e] at vA))
       have hpj:vo.op.pure=false:=touch j vo r CG hr (.inl (by intro e;simp [e] at hid))
       have WU:ok.op.rq=false:=PO k ok r' h3 h5 (by intro e;simp [e] at vA)
       obtain ⟨x,hx,rfl⟩:=List.mem_map.1 vA
       rcases Nat.lt_trichotomy k j with rA | rfl | Zw
       . have BQ:X k=false:=by
           cases hh:X k with
           | false=>rfl
           | true=>simp [hh,rA] at hne
         have hb:((jG pz []).getD j 0).testBit k=false:=by
           cases hb:((jG pz []).getD j 0).testBit k with
           | false=>rfl
           | true=>have:=pre k hb;simp [BQ] at this
         exact ((yC k j ok vo rA h3 CG WT hpj (by simp [WU]) hb r' r h5 hr).1 x hx).1 hid
       . simp [YQ] at hne
       . have BQ:X k=true:=by
           cases hh:X k with
           | true=>rfl
           | false=>simp [hh,Nat.not_lt.2 (Nat.le_of_lt Zw)] at hne
         exact (yC j k vo ok Zw CG h3 hpj WT (by simp [WU]) (post k TF BQ) r r' hr h5).2 x hx hid
     -- behind it
     generalize hX':(fun i=>if i=j then true else X i)=X' at *
     have Th:∀ i,X' i=if i=j then true else X i:=fun i=>by rw [<- hX']
     have later:∀ (k:Nat) (d:Option Nat) (r':dN),L[k]? = some (d,r')->j<k->X' k=true->∃ ok:bp,vs[k]? = some ok/\ok.dst=d/\rs[k]? = some r'/\k<ops.size/\X k=true:=by
       intro k d r' hk rA BQ
       obtain ⟨ok,h3,h4,h5⟩:=(LB k d r').1 hk
       refine ⟨ok,h3,h4,h5,by have:=(List.getElem?_eq_some_iff.1 h3).1;omega, ?_⟩
       rw [Th] at BQ
       simpa [show k≠j from by omega] using BQ
     have hLj:L[j]? = some (vo.dst,r):=(LB j _ _).2 ⟨vo,CG,rfl,hr⟩
     have tEq:fK (eQ X L 0 t0) vo.dst r.val=eQ X' L 0 t0:=by
       apply List.ext_getElem?
       intro s
       rw [sD]
       by_cases hd:vo.dst=some s
       . rw [if_pos hd]
         rw [CB L 0 j t0 (by rw [hLj,hd]) (by rw [Nat.zero_add,Th];simp) ?_,EK]
         intro k d r' hk rA BQ hds
         rw [Nat.zero_add] at BQ
         obtain ⟨ok,h3,h4,h5,TF,WV⟩:=later k d r' hk rA BQ
         have hc:Bb vo ok=true:=by unfold Bb;simp [hd,h4,hds]
         have:=uU j k vo ok rA CG h3 hc
         rw [post k TF WV] at this
         simp at this
       . rw [if_neg hd]
         refine qV L 0 t0 t0 rfl ?_
         intro k d r' hk hne
         rw [Nat.zero_add,Th] at hne
         have YR:k=j:=by
           apply Classical.byContradiction;intro h;simp [h] at hne
         subst YR
         rw [hLj] at hk
         simp only [Option.some.injEq,Prod.mk.injEq] at hk
         rw [<- hk.1];exact hd
     have sEq:(gu X L 0 σ0).app r.up=gu X' L 0 σ0:=by
       funext id
       by_cases vA:id∈r.up.map (·.1)
       . symm
         refine CC L 0 j σ0 hLj (by rw [Nat.zero_add,Th];simp) vA ?_
         intro k d r' hk rA BQ Zx
         rw [Nat.zero_add] at BQ
         obtain ⟨ok,h3,h4,h5,TF,WV⟩:=later k d r' hk rA BQ
         have WT:ok.op.pure=false:=touch k ok r' h3 h5 (.inr (by intro e;simp [e] at Zx))
         have hpj:vo.op.pure=false:=touch j vo r CG hr (.inr (by intro e;simp [e] at vA))
         have hlj:vo.op.rq=false:=PO j vo r CG hr (by intro e;simp [e] at vA)
         obtain ⟨x,hx,rfl⟩:=List.mem_map.1 vA
         exact ((yC j k vo ok rA CG h3 hpj WT (by simp [hlj]) (post k TF WV) r r' hr h5).1 x hx).2 Zx
       . rw [aa.wL vA]
         refine qW L 0 σ0 σ0 rfl ?_
         intro k d r' hk hne
         rw [Nat.zero_add,Th] at hne
         have YR:k=j:=by
           apply Classical.byContradiction;intro h;simp [h] at hne
         subst YR
         rw [hLj] at hk
         simp only [Option.some.injEq,Prod.mk.injEq] at hk
         rw [<- hk.2];exact vA
     -- going on
     have hXl:∀ i,(listed.setIfInBounds j true).getD i false=X' i:=by
       intro i
       rw [Th]
       by_cases e:i=j
       . subst e
         rw [Array.getD_eq_getD_getElem?]
         simp [xN,J0]
       . rw [if_neg e,getD_set_ne false (fun h=>e h.symm),hXd]
     have go : ∀ (a':Act) (E':Env) (w':World),cn E' w' (eQ X' L 0 t0) a'->Inv G own E' w' (gu X' L 0 σ0)->kC own π E E' w w'->(∀ i:Id, ¬ ((base+j) :: π) <:+ i->E'.μ i=E.μ i)->a'.defers=a.defers ->
         wpAny P .any ops Q fuel (listed.setIfInBounds j true) a' w':=by
       intro a' E' w' Tr jc had TM Zq
       have F9:(fun i=>(listed.setIfInBounds j true).getD i false)=X':=funext hXl
       refine ih _ a' E' w' (by simpa using xN) ?_ ?_ ?_
       . rw [F9]
         have:=EP (X:=X) (Y:=X') (i:=j) YQ (by rw [Th];simp) (fun k hk=>by rw [Th];split<;>simp [hk]) (List.range ops.size) (List.mem_range.2 J0)
         omega
       . intro k hk BQ e he
         rw [hXl] at BQ ⊢
         rw [Th] at BQ ⊢
         split
         . rfl
         . by_cases YR:k=j
           . subst YR;exact xJ e he
           . rw [if_neg YR] at BQ
             exact Hm k hk BQ e he
       . rw [F9]
         refine ⟨Tr,jc,hm.Cr.trans had, ?_, ?_,Zq.trans hm.defers⟩
         . intro i hi hxi j'
           rw [Th] at hxi
           have Kg:i≠j:=by rintro rfl;simp at hxi
           rw [if_neg Kg] at hxi
           intro hj'
           rw [TM _ (Hj hj' (by omega))]
           exact hm.free i hi hxi j' hj'
         . intro j' hj' hq
           rw [TM _ (hq (base+j) (by omega))]
           exact hm.more j' hj' hq
     unfold wpOp
     rw [ho]
     simp only []
     rcases hsc with ⟨Kh,rfl⟩ | ⟨uK,hsr⟩
     . rw [tD xM hm.frame (VG.trans Kh)]
       simp only [Bool.false_eq_true,if_false]
       refine go _ E w ?_ ?_ (kC.refl own π E w) (fun _ _=>rfl) (qX _ _ _)
       . rw [<- tEq, <- PL];exact EM hm.frame _
       . rw [<- sEq];exact hm.inv
     . rw [tD xM hm.frame (VG.trans uK)]
       simp only [if_true]
       left
       rw [<- acZ] at hsr
       refine CA hm.inv (hm.free j J0 YQ) hm.frame hop (Eh hsr Np) ?_
       intro v w' E' hp
       refine go _ E' w' ?_ ?_ hp.Zp hp.ids (qX _ _ _)
       . rw [<- tEq, <- PL];exact hp.frame hm.frame _
       . rw [<- sEq];exact hp.inv
end
end Go.VL
end

section
namespace Go.VL
inductive cD where
 | normal
 | exit (id:Nat)
 | ret
def cD.real:cD->Exit
 | .normal => .normal
 | .exit id => .exit id
 | .ret => .ret
structure VS where
 t:List AV
 σ : aa
 n:Nat
structure je (G:Nat->Option (List AV)) (π : Id) (own:Nat->Prop) (E:Env) (w:World) (s:VS) (a:Act):Prop where
 frame:cn E w s.t a
 inv:Inv G own E w s.σ
 free:xL E π s.n
 defers:a.defers=[]
def Wk (G:Nat->Option (List AV)) (π : Id) (s s':VS):Prop:=∀ own E w a,je G π own E w s a->∃ E',kC own π E E' w w/\je G π own E' w s' a
def VW (P:Program) (G:Nat->Option (List AV)) (π : Id) (vc:bX) (Q:cD->VS->Prop) (s:VS):Prop :=
 ∀ c,eD P c=some vc->∀ own E w a (R:Exit->Act->World->Prop),je G π own E w s a ->
   (∀ e s' E' w' a',Q e s'->kC own π E E' w w'->je G π own E' w' s' a'->R e.real a' w')->c.wp P R a w
section
variable {P:Program} {G:Nat->Option (List AV)} {π : Id} {Q:cD->VS->Prop} {s:VS}
theorem Wk.refl (G:Nat->Option (List AV)) (π : Id) (s:VS):Wk G π s s:=fun own E w _ h=>⟨E,kC.refl own π E w,h⟩
theorem Wk.trans {s s' YS:VS} (h:Wk G π s s') (k:Wk G π s' YS):Wk G π s YS:=fun own E w a hm=>by
 obtain ⟨E1,a1,m1⟩:=h own E w a hm
 obtain ⟨E2,a2,m2⟩:=k own E1 w a m1
 exact ⟨E2,a1.trans a2,m2⟩
theorem VW.wk {vc:bX} {s':VS} (h:Wk G π s s') (k:VW P G π vc Q s'):VW P G π vc Q s:=by
 intro c hc own E w a R hm hR
 obtain ⟨E1,a1,m1⟩:=h own E w a hm
 exact k c hc own E1 w a R m1 fun e s2 E2 w2 a2 hq ad mm=>hR e s2 E2 w2 a2 hq (a1.trans ad) mm
theorem VW.mono {vc:bX} {Q':cD->VS->Prop} (h:VW P G π vc Q s) (hq:∀ e s,Q e s->Q' e s):VW P G π vc Q' s :=
 fun c hc own E w a R hm hR=>h c hc own E w a R hm fun e s2 E2 w2 a2 NH=>hR e s2 E2 w2 a2 (hq e s2 NH)
theorem VW.skip (h:Q .normal s):VW P G π .skip Q s:=by
 intro c hc own E w a R hm hR
 cases c<;>simp only [eD,Option.some.injEq,reduceCtorEq] at hc
 . exact wp_skip (hR .normal s E w a h (kC.refl own π E w) hm)
 . exfalso;revert hc;unfold lI;(repeat' split)<;>simp
 all_goals (exfalso;revert hc;(repeat' split)<;>simp)
theorem yF {c:Code} {ps:Option (List (Nat × Nat))} {vs:List bp} (hc:eD P c=some (.reg ps vs)):∃ id ops draw,c = .region id ops draw/\ops.toList.mapM (xn P ops)=some vs /\
   ((draw=false/\ps=none)∨(draw=true/\ps=some (wI vs (ops.toList.map xp))/\B8 vs (ops.toList.map xp)=true/\P.follows .mixedOrders=true)):=by
 cases c with
 | region id ops draw =>
   simp only [eD,lI] at hc
   cases hm:ops.toList.mapM (xn P ops) with
   | none=>simp [hm] at hc
   | some vs' =>
     simp only [hm] at hc
     split at hc
     . rename_i hd
       split at hc
       . rename_i ho
         simp only [Option.some.injEq,bX.reg.injEq] at hc
         obtain ⟨rfl,rfl⟩:=hc
         simp only [Bool.and_eq_true] at ho
         exact ⟨id,ops,draw,rfl,hm, .inr ⟨hd,rfl,ho.1,ho.2⟩⟩
       . simp at hc
     . rename_i hd
       simp only [Option.some.injEq,bX.reg.injEq] at hc
       obtain ⟨rfl,rfl⟩:=hc
       exact ⟨id,ops,draw,rfl,hm, .inl ⟨by simpa using hd,rfl⟩⟩
 | _=>exfalso;revert hc;simp only [eD];(repeat' split)<;>simp
theorem VW.PQ {vs:List bp} (h:yz P G π s.n (fun t σ => Q .normal ⟨t, σ,s.n+vs.length⟩) vs 0 s.t s.σ):VW P G π (.reg none vs) Q s:=by
 intro c hc own E w a R hm hR
 obtain ⟨id,ops,draw,rfl,Lz,Td⟩:=yF hc
 have hd:draw=false:=by
   rcases Td with ⟨h,_⟩ | ⟨_,h,_⟩
   . exact h
   . simp at h
 subst hd
 have hl:ops.toList.length=vs.length:=(gQ Lz).symm
 refine wp_region ?_
 have:=CE (P:=P) (G:=G) (own:=own) (ops:=ops) (Q:=R) ops.toList 0 (fun k=>by simp) vs Lz s.t s.σ a E w h hm.frame hm.inv hm.free (by
   intro t' σ' a' E' w' hk had hf hi D8 Zq
   refine hR .normal ⟨t', σ',s.n+vs.length⟩ E' w' a' hk had ⟨hf,hi,by have h:=D8;simp only [Nat.add_zero,hl] at h;exact h,Zq.trans hm.defers⟩)
 rw [List.range_eq_range']
 simpa using this
theorem VW.PR {ps:List (Nat × Nat)} {vs:List bp} (h:yA P G π s.n (fun rs t σ => ar rs ps/\Q .normal ⟨t, σ,s.n+vs.length⟩) vs 0 [] s.t s.σ):VW P G π (.reg (some ps) vs) Q s:=by
 intro c hc own E w a R hm hR
 obtain ⟨id,ops,draw,rfl,Lz,Td⟩:=yF hc
 rcases Td with ⟨_,h2⟩ | ⟨hd,JT,PN,hmx⟩
 . simp at h2
 . subst hd
   simp only [Option.some.injEq] at JT
   have hl:vs.length=ops.size:=by have:=gQ Lz;simpa using this
   obtain ⟨rs,Zr,hst,zZ,hq⟩:=EL h
   refine wp_region_any hmx ?_
   have WW:Mid G π own ((vs.map (·.dst)).zip rs) s.n ops.size s.t s.σ a E w (fun i=>(Array.replicate ops.size false).getD i false) E w.drew a:=by
     have hX:∀ i,(Array.replicate ops.size false).getD i false=false:=by intro i;rw [Array.getD_eq_getD_getElem?];simp [Array.getElem?_replicate];split<;>rfl
     have e1:eQ (fun i=>(Array.replicate ops.size false).getD i false) ((vs.map (·.dst)).zip rs) 0 s.t=s.t:=ru _ _ _ fun k _=>hX _
     have e2:gu (fun i=>(Array.replicate ops.size false).getD i false) ((vs.map (·.dst)).zip rs) 0 s.σ = s.σ := ry _ _ _ fun k _=>hX _
     exact ⟨by rw [e1];exact hm.frame.keep (Adv.drew (own:=own) E w).step,by rw [e2];exact hm.inv.drew,⟨Adv.drew E w,fun _ _=>rfl⟩,fun i _ _ j hj=>hm.free.at (by omega) hj,hm.free.mono (by omega),rfl⟩
   refine NG Lz PN Zr hst (by rw [<- JT];simpa using zZ) (Q:=R) (a0:=a) (E0:=E) (w0:=w) ?_ ops.size (Array.replicate ops.size false) a E w.drew (by simp) (by simp) ?_ WW
   . intro a' E' w' Zy
     refine hR .normal _ E' w' a' hq Zy.Cr ⟨Zy.frame,Zy.inv,by rw [hl];exact Zy.more,Zy.defers.trans hm.defers⟩
   . intro k hk hx
     rw [Array.getD_eq_getD_getElem?] at hx
     simp [hk] at hx
theorem VW.seq {x y:bX} (h:VW P G π x (fun e s'=>match e with | .normal=>VW P G π y Q s' | e=>Q e s') s):VW P G π (.seq x y) Q s:=by
 intro c hc own E w a R hm hR
 cases c<;>simp only [eD,Option.some.injEq,reduceCtorEq] at hc
 case seq ca cb =>
   cases h1:eD P ca with
   | none=>simp [h1] at hc
   | some va =>
   cases h2:eD P cb with
   | none=>simp [h1,h2] at hc
   | some vb =>
     simp only [h1,h2,Option.some.injEq,bX.seq.injEq] at hc
     obtain ⟨rfl,rfl⟩:=hc
     refine wp_seq (h ca h1 own E w a _ hm ?_)
     intro e s' E' w' a' hq had sw
     cases e with
     | normal=>exact hq cb h2 own E' w' a' R sw fun e2 s2 E2 w2 a2 NH NI mm2=>hR e2 s2 E2 w2 a2 NH (had.trans NI) mm2
     | exit id=>exact hR (.exit id) s' E' w' a' hq had sw
     | ret=>exact hR .ret s' E' w' a' hq had sw
 case region=>exfalso;revert hc;unfold lI;(repeat' split)<;>simp
 all_goals (exfalso;revert hc;(repeat' split)<;>simp)
theorem VW.cond {vc:aT} {x y:bX} {b:Bool} (hb:vc.ev G s.t = .bool b) (h:if b then VW P G π x Q s else VW P G π y Q s):VW P G π (.cond vc x y) Q s:=by
 intro c hc own E w a R hm hR
 cases c<;>simp only [eD,Option.some.injEq,reduceCtorEq] at hc
 case cond cc ca cb =>
   cases h0:cL cc with
   | none=>simp [h0] at hc
   | some vcc =>
   cases h1:eD P ca with
   | none=>simp [h0,h1] at hc
   | some va =>
   cases h2:eD P cb with
   | none=>simp [h0,h1,h2] at hc
   | some vb =>
     simp only [h0,h1,h2,Option.some.injEq,bX.cond.injEq] at hc
     obtain ⟨rfl,rfl,rfl⟩:=hc
     have hr:=aZ hm.frame hm.inv h0
     rw [hb] at hr
     simp only [aL] at hr
     refine wp_cond hr ?_
     cases b with
     | true=>simp only [if_true] at h ⊢;exact h ca h1 own E w a R hm hR
     | false=>simp only [Bool.false_eq_true,if_false] at h ⊢;exact h cb h2 own E w a R hm hR
 case region=>exfalso;revert hc;unfold lI;(repeat' split)<;>simp
 all_goals (exfalso;revert hc;(repeat' split)<;>simp)
theorem VW.TP {vc:aT} {x y:bX} (hb:vc.ev G s.t = .anyb) (h1:VW P G π x Q s) (h2:VW P G π y Q s):VW P G π (.cond vc x y) Q s:=by
 intro c hc own E w a R hm hR
 cases c<;>simp only [eD,Option.some.injEq,reduceCtorEq] at hc
 case cond cc ca cb =>
   cases h0:cL cc with
   | none=>simp [h0] at hc
   | some vcc =>
   cases h3:eD P ca with
   | none=>simp [h0,h3] at hc
   | some va =>
   cases h4:eD P cb with
   | none=>simp [h0,h3,h4] at hc
   | some vb =>
     simp only [h0,h3,h4,Option.some.injEq,bX.cond.injEq] at hc
     obtain ⟨rfl,rfl,rfl⟩:=hc
     have hr:=aZ hm.frame hm.inv h0
     rw [hb] at hr
     simp only [aL] at hr
     obtain ⟨b,hr⟩:=hr
     refine wp_cond hr ?_
     cases b with
     | true=>exact h1 ca h3 own E w a R hm hR
     | false=>exact h2 cb h4 own E w a R hm hR
 case region=>exfalso;revert hc;unfold lI;(repeat' split)<;>simp
 all_goals (exfalso;revert hc;(repeat' split)<;>simp)
theorem VW.block {id:Nat} {x:bX} (h:VW P G π x (fun e s'=>match e with | .exit i=>if i=id then Q .normal s' else Q (.exit i) s' | e=>Q e s') s):VW P G π (.block id x) Q s:=by
 intro c hc own E w a R hm hR
 cases c<;>simp only [eD,Option.some.injEq,reduceCtorEq] at hc
 case block i cb =>
   cases h1:eD P cb with
   | none=>simp [h1] at hc
   | some vb =>
     simp only [h1,Option.map_some,Option.some.injEq,bX.block.injEq] at hc
     obtain ⟨rfl,rfl⟩:=hc
     refine wp_block (h cb h1 own E w a _ hm ?_)
     intro e s' E' w' a' hq had sw
     cases e with
     | normal=>exact hR .normal s' E' w' a' hq had sw
     | exit j =>
       simp only [cD.real,Exit.inBlock]
       split
       . rename_i hj;simp only [hj,if_true] at hq;exact hR .normal s' E' w' a' hq had sw
       . rename_i hj;simp only [hj,if_false] at hq;exact hR (.exit j) s' E' w' a' hq had sw
     | ret=>exact hR .ret s' E' w' a' hq had sw
 case region=>exfalso;revert hc;unfold lI;(repeat' split)<;>simp
 all_goals (exfalso;revert hc;(repeat' split)<;>simp)
theorem VW.exit {id:Nat} (h:Q (.exit id) s):VW P G π (.exit id) Q s:=by
 intro c hc own E w a R hm hR
 cases c<;>simp only [eD,Option.some.injEq,reduceCtorEq] at hc
 case exit i =>
   simp only [bX.exit.injEq] at hc;subst hc
   exact wp_exit (hR (.exit i) s E w a h (kC.refl own π E w) hm)
 case region=>exfalso;revert hc;unfold lI;(repeat' split)<;>simp
 all_goals (exfalso;revert hc;(repeat' split)<;>simp)
theorem VW.ret (h:Q .ret s):VW P G π .ret Q s:=by
 intro c hc own E w a R hm hR
 cases c<;>simp only [eD,Option.some.injEq,reduceCtorEq] at hc
 case ret=>exact wp_ret (hR .ret s E w a h (kC.refl own π E w) hm)
 case region=>exfalso;revert hc;unfold lI;(repeat' split)<;>simp
 all_goals (exfalso;revert hc;(repeat' split)<;>simp)
theorem vE {α : Type} {c:Code} {R:Exit->Act->World->Prop} (I : α -> Act->World->Prop) (μ : α -> Nat) {x : α} {a:Act} {w:World} (h₀:I x a w)
   (round:∀ x a w,I x a w->c.wp P (Exit.then (fun a' w'=>∃ x',I x' a' w' /\ μ x' < μ x) R) a w):(Code.loop c).wp P R a w:=by
 intro b k cs
 have key:∀ n x a w, μ x=n->I x a w ->
     ∃ e a' w',R e a' w'/\Arrives P (lone (b.at a (.code c :: .inLoop c::k)) cs w) b k cs e a' w':=by
   intro n
   induction n using Nat.strongRecOn with
   | _ n ih =>
     intro x a w hn hI
     obtain ⟨e,a₁,w₁,hq,Hn⟩:=round x a w hI b (.inLoop c::k) cs
     cases e with
     | normal =>
       obtain ⟨x₁,Zz,hlt⟩:=hq
       obtain ⟨e₂,a₂,w₂,ZA,TQ⟩:=ih (μ x₁) (hn▸hlt) x₁ a₁ w₁ rfl Zz
       exact ⟨e₂,a₂,w₂,ZA, .of_steps (Steps.trans Hn (.one step_inLoop)) TQ⟩
     | exit id=>exact ⟨_,a₁,w₁,hq, .pass (x := .inLoop c) rfl (fun _ _ => .inl (by simp)) Hn⟩
     | goto l=>exact ⟨_,a₁,w₁,hq, .pass (x := .inLoop c) rfl (fun _ _ => .inl (by simp)) Hn⟩
     | ret=>exact ⟨_,a₁,w₁,hq, .pass (x := .inLoop c) rfl (fun _ _ => .inl (by simp)) Hn⟩
     | panic ch=>exact ⟨_,a₁,w₁,hq, .pass (x := .inLoop c) rfl (fun _ _ => .inl (by simp)) Hn⟩
     | outgrown=>exact ⟨_,a₁,w₁,hq, .pass (x := .inLoop c) rfl (fun _ _ => .inl (by simp)) Hn⟩
 obtain ⟨e,a',w',hq,Hn⟩:=key _ x a w rfl h₀
 exact ⟨e,a',w',hq, .of_steps (.one step_loop) Hn⟩
theorem VW.loop {x:bX} (I:VS->Prop) (m:VS->Nat) (h0:∃ s',Wk G π s s'/\I s')
   (h:∀ s,I s->VW P G π x (fun e s'=>match e with | .normal=>∃ YS,Wk G π s' YS/\I YS/\m YS<m s | e=>Q e s') s):VW P G π (.loop x) Q s:=by
 obtain ⟨s1,uK,hI1⟩:=h0
 refine VW.wk uK ?_
 intro c hc own E w a R hm hR
 cases c<;>simp only [eD,Option.some.injEq,reduceCtorEq] at hc
 case loop cb =>
   cases h1:eD P cb with
   | none=>simp [h1] at hc
   | some vb =>
     simp only [h1,Option.map_some,Option.some.injEq,bX.loop.injEq] at hc
     subst hc
     refine vE (α := VS) (fun s' a' w'=>I s'/\∃ E',kC own π E E' w w'/\je G π own E' w' s' a') m (x:=s1) ⟨hI1,E,kC.refl own π E w,hm⟩ ?_
     rintro s2 a2 w2 ⟨TR,E2,NI,tp⟩
     refine h s2 TR cb h1 own E2 w2 a2 _ tp ?_
     intro e s' E' w' a' hq had sw
     cases e with
     | normal =>
       obtain ⟨s3,WX,ZB,hlt⟩:=hq
       obtain ⟨E3,ZC,ZD⟩:=WX own E' w' a' sw
       exact ⟨s3,⟨ZB,E3,(NI.trans had).trans ZC,ZD⟩,hlt⟩
     | exit id=>exact hR (.exit id) s' E' w' a' hq (NI.trans had) sw
     | ret=>exact hR .ret s' E' w' a' hq (NI.trans had) sw
 case region=>exfalso;revert hc;unfold lI;(repeat' split)<;>simp
 all_goals (exfalso;revert hc;(repeat' split)<;>simp)
def Then (k:VS->Prop) (Q:cD->VS->Prop):cD->VS->Prop
 | .normal,s=>k s
 | .exit i,s=>Q (.exit i) s
 | .ret,s=>Q .ret s
def NJ (id:Nat) (Q:cD->VS->Prop):cD->VS->Prop
 | .normal,s=>Q .normal s
 | .exit i,s=>if i=id then Q .normal s else Q (.exit i) s
 | .ret,s=>Q .ret s
theorem qY (k:VS->Prop) (Q:cD->VS->Prop) (s:VS):Then k Q .normal s=k s:=(rfl)
theorem ER (k:VS->Prop) (Q:cD->VS->Prop) (i:Nat) (s:VS):Then k Q (.exit i) s=Q (.exit i) s:=(rfl)
theorem Ho (k:VS->Prop) (Q:cD->VS->Prop) (s:VS):Then k Q .ret s=Q .ret s:=(rfl)
theorem Bh (id:Nat) (Q:cD->VS->Prop) (s:VS):NJ id Q .normal s=Q .normal s:=(rfl)
theorem wM (id:Nat) (Q:cD->VS->Prop) (i:Nat) (s:VS):NJ id Q (.exit i) s=if i=id then Q .normal s else Q (.exit i) s:=(rfl)
theorem Hp (id:Nat) (Q:cD->VS->Prop) (s:VS):NJ id Q .ret s=Q .ret s:=(rfl)
def sy (P:Program) (G:Nat->Option (List AV)) (π : Id):bX->(cD->VS->Prop)->VS->Prop
 | .skip,Q,s=>Q .normal s
 | .reg none vs,Q,s=>yz P G π s.n (fun t σ => Q .normal ⟨t, σ,s.n+vs.length⟩) vs 0 s.t s.σ
 | .reg (some ps) vs,Q,s=>yA P G π s.n (fun rs t σ => ar rs ps/\Q .normal ⟨t, σ,s.n+vs.length⟩) vs 0 [] s.t s.σ
 | .seq x y,Q,s=>sy P G π x (Then (sy P G π y Q) Q) s
 | .cond c x y,Q,s=>match c.ev G s.t with
   | .bool b=>if b then sy P G π x Q s else sy P G π y Q s
   | .anyb=>sy P G π x Q s/\sy P G π y Q s
   | _=>False
 | .block id x,Q,s=>sy P G π x (NJ id Q) s
 | .loop x,Q,s=>VW P G π (.loop x) Q s
 | .exit id,Q,s=>Q (.exit id) s
 | .ret,Q,s=>Q .ret s
theorem VW.of:∀ {vc:bX} {Q:cD->VS->Prop} {s:VS},sy P G π vc Q s->VW P G π vc Q s
 | .skip,_,_,h=>VW.skip h
 | .reg none _,_,_,h=>VW.PQ h
 | .reg (some _) _,_,_,h=>VW.PR h
 | .seq x y,Q,s,h=>by
   refine VW.seq (VW.mono (VW.of (vc:=x) h) ?_)
   intro e s' hq
   cases e with
   | normal=>exact VW.of (vc:=y) hq
   | exit id=>exact hq
   | ret=>exact hq
 | .cond c x y,Q,s,h=>by
   simp only [sy] at h
   split at h
   . rename_i b hb
     refine VW.cond hb ?_
     cases b with
     | true=>exact VW.of (vc:=x) h
     | false=>exact VW.of (vc:=y) h
   . rename_i hb
     exact VW.TP hb (VW.of (vc:=x) h.1) (VW.of (vc:=y) h.2)
   . exact h.elim
 | .block id x,Q,s,h=>by
   refine VW.block (VW.mono (VW.of (vc:=x) h) ?_)
   intro e s' hq
   cases e with
   | normal=>exact hq
   | exit i=>exact hq
   | ret=>exact hq
 | .loop x,Q,s,h=>h
 | .exit id,_,_,h=>VW.exit h
 | .ret,_,_,h=>VW.ret h
end
end Go.VL
end

section
namespace Go.VL
section
variable {P:Program} {G:Nat->Option (List AV)} {own:Nat->Prop} {E:Env} {w:World} {σ : aa}
def af (c:AV):Prop:=∀ E w v,aL E w c v->aL E.bare w c v
theorem af.bool (b:Bool):af (.bool b):=fun _ _ _ h=>by simpa [aL] using h
theorem af.int (k:IntKind) (n:Int):af (.int k n):=fun _ _ _ h=>by simpa [aL] using h
theorem af.str (l:List UInt8):af (.str l):=fun _ _ _ h=>by simpa [aL] using h
theorem af.nilp:af .nilp:=fun _ _ _ h=>by simpa [aL] using h
theorem af.nilf:af .nilf:=fun _ _ _ h=>by simpa [aL] using h
theorem af.nils:af .nils:=fun _ _ _ h=>by simpa [aL] using h
theorem af.rB {cs:List AV} (h:∀ c∈cs,af c):∀ {vs:List Value},aM E w cs vs->aM E.bare w cs vs:=by
 induction cs with
 | nil=>intro vs hr;simpa [aM] using hr
 | cons c cs ih =>
   intro vs hr
   simp only [aM] at hr ⊢
   obtain ⟨v,rest,e,h1,h2⟩:=hr
   exact ⟨v,rest,e,h c (by simp) _ _ _ h1,ih (fun x hx=>h x (by simp [hx])) h2⟩
theorem af.Bi {cs:List AV} (h:∀ c∈cs,af c) {b o:Nat} (hr:gP E w b o cs):gP E.bare w b o cs :=
 fun j c hj=>let ⟨v,hv,wW⟩:=hr j c hj;⟨v,hv,h c (List.mem_of_getElem? hj) _ _ _ wW⟩
theorem af.agg {cs:List AV} (h:∀ c∈cs,af c):af (.agg cs):=fun E w v hr=>by
 simp only [aL] at hr ⊢;obtain ⟨xs,e,hr⟩:=hr;exact ⟨xs,e,af.rB h hr⟩
theorem af.tup {cs:List AV} (h:∀ c∈cs,af c):af (.tup cs):=fun E w v hr=>by
 simp only [aL] at hr ⊢;obtain ⟨xs,e,hr⟩:=hr;exact ⟨xs,e,af.rB h hr⟩
theorem af.fn {f:Fn} {a c:List AV} (ha:∀ x∈a,af x) (hc:∀ x∈c,af x):af (.fn f a c):=fun E w v hr=>by
 simp only [aL] at hr ⊢;obtain ⟨xs,ys,e,h1,h2⟩:=hr;exact ⟨xs,ys,e,af.rB ha h1,af.rB hc h2⟩
theorem af.sl {k:Nat} {es:List AV} (h:∀ c∈flat es,af c):af (.sl k es):=fun E w v hr=>by
 simp only [aL] at hr ⊢
 obtain ⟨a,cap,e,h1,h2,h3,h4⟩:=hr
 exact ⟨a,cap,e,h1,h2,h3,h4.imp id fun ⟨b,o,ea,hb,hr⟩=>⟨b,o,ea,hb,dG.2 (af.Bi h (dG.1 hr))⟩⟩
theorem af.tsl {k:Nat} {es:List AV} (h:∀ c∈flat es,af c):af (.tsl k es):=fun E w v hr=>by
 simp only [aL] at hr ⊢
 obtain ⟨a,e,h2,h3,h4⟩:=hr
 exact ⟨a,e,h2,h3,h4.imp id fun ⟨b,o,ea,hb,hr⟩=>⟨b,o,ea,hb,dG.2 (af.Bi h (dG.1 hr))⟩⟩
theorem af.ep {cs:List AV} {o:Nat} (h:∀ c∈cs,af c):af (.ep cs o):=fun E w v hr=>by
 simp only [aL] at hr ⊢
 obtain ⟨b,q,e,hb,hr⟩:=hr
 exact ⟨b,q,e,hb,gA.2 (af.Bi h (gA.1 hr))⟩
def b7 (c:AV):Prop:=∀ E w E' w' v,aL E w c v->aL E' w' c v
theorem b7.bool (b:Bool):b7 (.bool b):=fun _ _ _ _ _ h=>by simpa [aL] using h
theorem b7.int (k:IntKind) (n:Int):b7 (.int k n):=fun _ _ _ _ _ h=>by simpa [aL] using h
theorem b7.str (l:List UInt8):b7 (.str l):=fun _ _ _ _ _ h=>by simpa [aL] using h
theorem b7.rB {cs:List AV} (h:∀ c∈cs,b7 c) {E E':Env} {w w':World}:∀ {vs:List Value},aM E w cs vs->aM E' w' cs vs:=by
 induction cs with
 | nil=>intro vs hr;simpa [aM] using hr
 | cons c cs ih =>
   intro vs hr
   simp only [aM] at hr ⊢
   obtain ⟨v,rest,e,h1,h2⟩:=hr
   exact ⟨v,rest,e,h c (by simp) _ _ _ _ _ h1,ih (fun x hx=>h x (by simp [hx])) h2⟩
theorem b7.tup {cs:List AV} (h:∀ c∈cs,b7 c):b7 (.tup cs):=fun _ _ _ _ _ hr=>by
 simp only [aL] at hr ⊢;obtain ⟨xs,e,hr⟩:=hr;exact ⟨xs,e,b7.rB h hr⟩
theorem b7.agg {cs:List AV} (h:∀ c∈cs,b7 c):b7 (.agg cs):=fun _ _ _ _ _ hr=>by
 simp only [aL] at hr ⊢;obtain ⟨xs,e,hr⟩:=hr;exact ⟨xs,e,b7.rB h hr⟩
def Env.froze (E:Env) (σ : aa):Env:=⟨fun _=>none,fun b=>E.ok b∨∃ id bk k N, σ id=some bk/\E.μ id=some (b,k,N)⟩
def View (σ : aa) (c d:AV):Prop:=∀ G own E w v,Inv G own E w σ -> aL E w c v->aL (E.froze σ) w d v
def aW (σ : aa) (cs ds:List AV):Prop:=cs.length=ds.length/\∀ (j:Nat) (c d:AV),cs[j]? = some c->ds[j]? = some d->View σ c d
theorem Step.froze (E:Env) (σ : aa) (w:World):Step E.bare (E.froze σ) w w:=⟨fun _ _ h=>by simp [Env.bare] at h,fun _ h => .inl h,fun _ _=>rfl⟩
theorem View.pure {c:AV} (h:af c):View σ c c:=fun _ _ E w v _ hr=>aL.keep (Step.froze E σ w) c v (h E w v hr)
theorem aW.pure {cs:List AV} (h:∀ c∈cs,af c):aW σ cs cs :=
 ⟨rfl,fun j c d hc hd=>by rw [hc] at hd;simp only [Option.some.injEq] at hd;subst hd;exact View.pure (h c (List.mem_of_getElem? hc))⟩
theorem aW.nil:aW σ [] []:=⟨rfl,by simp⟩
theorem aW.cons {c d:AV} {cs ds:List AV} (h:View σ c d) (hl:aW σ cs ds):aW σ (c::cs) (d::ds) :=
 ⟨by simp [hl.1],fun j x y hx hy=>by
   cases j with
   | zero=>simp at hx hy;subst hx;subst hy;exact h
   | succ j=>exact hl.2 j x y (by simpa using hx) (by simpa using hy)⟩
theorem aW.rB {cs ds:List AV} (h:aW σ cs ds) (hi:Inv G own E w σ) {vs:List Value} (hr:aM E w cs vs):aM (E.froze σ) w ds vs:=by
 obtain ⟨hl,hp⟩:=bz.1 hr
 refine bz.2 ⟨by rw [hl,h.1],fun j d hd => ?_⟩
 have hj:j<cs.length:=by rw [h.1];exact (List.getElem?_eq_some_iff.1 hd).1
 obtain ⟨v,hv,wW⟩:=hp j cs[j] (by simp [hj])
 exact ⟨v,hv,h.2 j _ d (by simp [hj]) hd G own E w v hi wW⟩
theorem aW.Bi {cs ds:List AV} (h:aW σ cs ds) (hi:Inv G own E w σ) {b o:Nat} (hr:gP E w b o cs):gP (E.froze σ) w b o ds:=by
 intro j d hd
 have hj:j<cs.length:=by rw [h.1];exact (List.getElem?_eq_some_iff.1 hd).1
 obtain ⟨v,hv,wW⟩:=hr j cs[j] (by simp [hj])
 exact ⟨v,hv,h.2 j _ d (by simp [hj]) hd G own E w v hi wW⟩
theorem View.agg {cs ds:List AV} (h:aW σ cs ds):View σ (.agg cs) (.agg ds):=fun G own E w v hi hr=>by
 simp only [aL] at hr ⊢;obtain ⟨xs,e,hr⟩:=hr;exact ⟨xs,e,h.rB hi hr⟩
theorem View.tup {cs ds:List AV} (h:aW σ cs ds):View σ (.tup cs) (.tup ds):=fun G own E w v hi hr=>by
 simp only [aL] at hr ⊢;obtain ⟨xs,e,hr⟩:=hr;exact ⟨xs,e,h.rB hi hr⟩
theorem View.nils (k:Nat):View σ .nils (.sl k []):=fun G own E w v hi hr=>by
 simp only [aL] at hr ⊢;exact ⟨none,0,hr,Nat.le_refl _,Nat.zero_le _,by simp, .inl trivial⟩
theorem View.PS (k:Nat):View σ (.tsl k []) (.sl k []):=fun G own E w v hi hr=>by
 simp only [aL] at hr ⊢
 obtain ⟨a,e,_⟩:=hr
 exact ⟨a,0,e,Nat.le_refl _,Nat.zero_le _,by simp, .inl trivial⟩
theorem View.sl {k:Nat} {es ds:List AV} (h:aW σ (flat es) (flat ds)) (hl:es.length=ds.length) (hk:∀ d∈ds,d.size=k):View σ (.sl k es) (.sl k ds):=fun G own E w v hi hr=>by
 simp only [aL] at hr ⊢
 obtain ⟨a,cap,e,h1,h2,h3,h4⟩:=hr
 refine ⟨a,cap,by rw [<- hl];exact e,by rw [<- hl];exact h1,h2,hk, ?_⟩
 rcases h4 with h4 | ⟨b,o,ea,hb,hr⟩
 . left;subst h4;simpa using hl.symm
 . right;exact ⟨b,o,ea, .inl hb,dG.2 (h.Bi hi (dG.1 hr))⟩
theorem View.tsl {k:Nat} {es ds:List AV} (h:aW σ (flat es) (flat ds)) (hl:es.length=ds.length) (hk:∀ d∈ds,d.size=k):View σ (.tsl k es) (.sl k ds):=fun G own E w v hi hr=>by
 simp only [aL] at hr ⊢
 obtain ⟨a,e,h2,h3,h4⟩:=hr
 refine ⟨a,es.length,by rw [<- hl];exact e,by rw [<- hl];exact Nat.le_refl _,h2,hk, ?_⟩
 rcases h4 with h4 | ⟨b,o,ea,hb,hr⟩
 . left;subst h4;simpa using hl.symm
 . right;exact ⟨b,o,ea, .inl hb,dG.2 (h.Bi hi (dG.1 hr))⟩
theorem View.osl {id:Id} {bk:dC} {k off len:Nat} {t:Bool} {ds:List AV} (hσ : σ id=some bk) (hk:bk.k=k) (hle:off+len<=bk.els.length)
   (h:aW σ (flat ((bk.els.drop off).take len)) (flat ds)) (hl:ds.length=len) (hkd:∀ d∈ds,d.size=k):View σ (.osl id k off len t) (.sl k ds):=fun G own E w v hi hr=>by
 obtain ⟨g,N,cur,ty,hB⟩:=hi.blk id bk hσ
 simp only [aL] at hr ⊢
 obtain ⟨g',N',cap,hm,e,h1,h2,h3,_⟩:=hr
 rw [hB.μ] at hm
 simp only [Option.some.injEq,Prod.mk.injEq] at hm
 obtain ⟨rfl,_,rfl⟩:=hm
 refine ⟨_,cap,by rw [hl];exact e,by rw [hl];exact h1,by omega,hkd, .inr ⟨g,off*k,rfl, .inr ⟨id,bk,bk.k,N,hσ,hB.μ⟩, ?_⟩⟩
 refine dG.2 (h.Bi hi ?_)
 have:=pM (l:=off) (r:=off+len) hB.k hB.row (by omega) hle
 rw [Nat.zero_add,hk] at this
 have e2:(bk.els.take (off+len)).drop off=(bk.els.drop off).take len:=by rw [List.drop_take];congr 1;omega
 rwa [e2] at this
def VP (P:Program) (G:Nat->Option (List AV)) (f:FuncId) (args:List AV) (r:AV):Prop :=
 (∃ fn,P.funcs[f]? = some fn/\(fn.name == "runtime.NumGoroutine")=false/\fn.body.isSome=true) /\
 ∀ w vs ok,Inv G (fun k=>w.heap.size<=k) ⟨fun _=>none,ok⟩ w (fun _=>none)->aM ⟨fun _=>none,ok⟩ w args vs ->
   Calls P f vs.toArray w fun e w'=>∃ v ok',e = .returned v/\Adv (fun k=>w.heap.size<=k) ⟨fun _=>none,ok⟩ ⟨fun _=>none,ok'⟩ w w'/\(∀ b,ok' b->b<w'.heap.size)/\aL ⟨fun _=>none,ok'⟩ w' r v
theorem aB.PT {f:FuncId} {args:List AV} {r:AV} (h:VP P G f args r) (hp:∀ c∈args,af c) (p:Id):aB P G f args p [] { val:=r }:=by
 refine ⟨h.1,fun own E w σ vs _ hi hr hμ => ?_⟩
 have WY:Inv G (fun k=>w.heap.size<=k) ⟨fun _=>none,E.ok⟩ w (fun _=>none):=⟨hi.okb,fun id bk h=>by simp at h,fun i j x y h=>absurd rfl h,hi.glob,fun k hk=>hk⟩
 refine (h.2 w vs E.ok WY (af.rB hp hr)).mono fun e w' he => ?_
 obtain ⟨v,ok',rfl,had,mo,hv⟩:=he
 have gr:Adv own E ⟨E.μ,ok'⟩ w w' :=
   ⟨⟨fun _ _ h=>h,had.step.ok,had.step.same⟩,had.os,had.tape,had.output,had.size,fun k hk _=>had.block k hk (by omega),fun b hb=>(had.Tq b hb).imp id fun h=>hi.new b h⟩
 refine ⟨v,⟨E.μ,ok'⟩,rfl,gr, ?_, ?_,fun _ _=>rfl⟩
 . refine hi.keep gr rfl mo fun id bk g N hs hm => ?_
   obtain ⟨g',N',cur,ty,hB⟩:=hi.blk id bk hs
   rw [hB.μ] at hm
   simp only [Option.some.injEq,Prod.mk.injEq] at hm
   obtain ⟨rfl,_,rfl⟩:=hm
   have hg:=dH hB.heap
   exact ⟨had.block _ hg (by omega),fun hf hb=>(had.Tq _ hb).elim (hB.no hf) (fun h=>by omega)⟩
 . exact aL.keep (⟨fun _ _ h=>by simp at h,fun _ h=>h,fun _ _=>rfl⟩:Step ⟨fun _=>none,ok'⟩ ⟨E.μ,ok'⟩ w' w') r v hv
def cu (s:VS):xI->Option AV
 | .tmp t=>some (s.t.getD t (.tup []))
 | .cell x agg n=>(gh s.σ agg n (s.t.getD x (.tup []))).map (·.val)
def bP (rs:List xI) (s:VS):Option AV :=
 match rs.mapM (cu s) with
 | some [v]=>some v
 | some vs=>some (.tup vs)
 | none=>none
theorem Hq {α β : Type} {f : α -> Sem β}:∀ (l:List α) (vs:List β),vs.length=l.length->(∀ (i:Nat) (a : α) (v : β),l[i]? = some a->vs[i]? = some v->(f a).run P w = .ok v w)->(l.mapM f).run P w = .ok vs w
 | [],vs,hl,_=>by
   have:vs=[]:=List.eq_nil_of_length_eq_zero hl
   subst this;rfl
 | a::l,[],hl,_=>by simp at hl
 | a::l,v::vs,hl,h=>by
   have h0:=h 0 a v rfl rfl
   have ih:=Hq l vs (by simpa using hl) (fun i x y hx hy=>h (i+1) x y (by simpa using hx) (by simpa using hy))
   simp [List.mapM_cons,h0,ih]
theorem TS {π : Id} {s:VS} {a:Act} (hm:je G π own E w s a) {rv:ResultVar} {vr:xI} (hc:Pp P rv=some vr) {c:AV} (h:cu s vr=some c) :
   ∃ v,(match rv with | .tmp t=>(pure (a.tmps.getD t undef):Sem Value) | .cell x t=>do loadVar t (<- asAddr (a.tmps.getD x undef))).run P w = .ok v w/\aL E w c v:=by
 cases rv with
 | tmp t =>
   simp only [Pp,Option.some.injEq] at hc;subst hc
   simp only [cu,Option.some.injEq] at h;subst h
   exact ⟨_,rfl,hm.frame.get t⟩
 | cell x t =>
   simp only [Pp] at hc
   cases ha:nO P t with
   | none=>simp [ha] at hc
   | some g =>
   cases BO:P.info? t with
   | none=>simp [ha,BO] at hc
   | some i =>
     simp only [ha,BO] at hc
     split at hc
     . simp only [Option.some.injEq] at hc;subst hc
       simp only [cu,Option.map_eq_some_iff] at h
       obtain ⟨r,hr,rfl⟩:=h
       obtain ⟨⟨v,h1,h2⟩,_,ad,had⟩:=ED hm.inv ha BO (hm.frame.get x) hr
       refine ⟨v, ?_,h2⟩
       simp only []
       rw [had] at h1 ⊢
       simpa [Instr.loadAt,Instr.sureAddr,asAddr] using h1
     . simp at hc
theorem Bj {π : Id} {s:VS} {a:Act} (hm:je G π own E w s a) {fn:Func} {rs:List xI} (hc:fn.results.toList.mapM (Pp P)=some rs) {c:AV} (h:bP rs s=some c) :
   ∃ v,(results fn a.tmps).run P w = .ok v w/\aL E w c v:=by
 unfold bP at h
 cases hcs:rs.mapM (cu s) with
 | none=>simp [hcs] at h
 | some cs =>
   have hlen:cs.length=fn.results.toList.length:=by rw [gQ hcs,gQ hc]
   let F:ResultVar->Sem Value:=fun rv=>match rv with | .tmp t=>(pure (a.tmps.getD t undef):Sem Value) | .cell x t=>do loadVar t (<- asAddr (a.tmps.getD x undef))
   have hex:∀ j,j<cs.length->∃ v,(∀ rv,fn.results.toList[j]? = some rv->(F rv).run P w = .ok v w)/\∀ c,cs[j]? = some c->aL E w c v:=by
     intro j hj
     obtain ⟨vr,h1,h2⟩:=mapM_some_get hcs j cs[j] (by simp [hj])
     obtain ⟨rv,h3,h4⟩:=mapM_some_get hc j vr h1
     obtain ⟨v,h5,h6⟩:=TS hm h4 h2
     refine ⟨v,fun rv' wW => ?_,fun c hc => ?_⟩
     . rw [h3] at wW;simp only [Option.some.injEq] at wW;subst wW;exact h5
     . simp only [hj,List.getElem?_eq_getElem,Option.some.injEq] at hc;subst hc;exact h6
   let val:Nat->Value:=fun j=>if hj:j<cs.length then Classical.choose (hex j hj) else undef
   have hval:∀ j (hj:j<cs.length),(∀ rv,fn.results.toList[j]? = some rv->(F rv).run P w = .ok (val j) w)/\∀ c,cs[j]? = some c->aL E w c (val j):=by
     intro j hj
     simp only [val,hj,dif_pos]
     exact Classical.choose_spec (hex j hj)
   let vs:List Value:=(List.range cs.length).map val
   have uG:vs.length=cs.length:=by simp [vs]
   have hrun:(fn.results.toList.mapM F).run P w = .ok vs w:=by
     refine Hq _ vs (by rw [uG,hlen]) fun i rv v wW hv => ?_
     have hi:i<cs.length:=by have:=(List.getElem?_eq_some_iff.1 hv).1;omega
     have:v=val i:=by simp [vs,hi] at hv;exact hv.symm
     subst this
     exact (hval i hi).1 rv wW
   have NK:aM E w cs vs:=bz.2 ⟨uG,fun j c hj=>by
     have nL:=(List.getElem?_eq_some_iff.1 hj).1
     exact ⟨val j,by simp [vs,nL],(hval j nL).2 c hj⟩⟩
   have BP:(results fn a.tmps).run P w=(pure (if h:vs.toArray.size=1 then vs.toArray[0] else .tuple vs.toArray):Sem Value).run P w:=by
     unfold results
     rw [Array.mapM_eq_mapM_toList]
     simp only [Sem.run_bind,Sem.run_map]
     exact congrArg (fun x:Result (List Value)=>(x.andThen fun b w'=>Result.ok b.toArray w').andThen fun b w'=>Sem.run P (pure (if h:b.size=1 then b[0] else Value.tuple b)) w') hrun
   rw [BP]
   refine ⟨_,rfl, ?_⟩
   simp only [hcs] at h
   split at h
   . rename_i c0 heq
     simp only [Option.some.injEq] at heq h
     subst h
     have l7:vs.toArray.size=1:=by simp [uG,heq]
     rw [dif_pos l7]
     rw [heq] at NK
     simp only [aM] at NK
     obtain ⟨v,rest,hv,h1,rfl⟩:=NK
     simpa [hv] using h1
   . rename_i fW hne heq
     simp only [Option.some.injEq] at heq h
     subst h;subst heq
     have l7 : ¬ vs.toArray.size=1:=by
       intro e
       simp [uG] at e
       obtain ⟨x,hx⟩:=List.length_eq_one_iff.1 e
       exact hne x (by rw [hx])
     rw [dif_neg l7]
     simp only [aL]
     exact ⟨_,rfl,by simpa using NK⟩
   . simp at *
theorem VP.VH {f:FuncId} {fn:Func} {vf:ay} (hf:P.funcs[f]? = some fn) (hc:cX P fn=some vf) {args:List AV} {r:AV}
   (h:VW P G [] vf.body (fun e s'=>(e = .normal∨e = .ret)/\∃ r0,bP vf.results s'=some r0/\View s'.σ r0 r) ⟨args++List.replicate (vf.nt-args.length) (.tup []),fun _=>none,0⟩):VP P G f args r:=by
 unfold cX at hc
 split at hc
 . simp at hc
 . rename_i sC
   split at hc
   . rename_i c rs hb J3
     simp only [Option.map_eq_some_iff] at hc
     obtain ⟨vb,hvb,rfl⟩:=hc
     refine ⟨⟨fn,hf,by simpa using sC,by simp [hb]⟩,fun w vs ok hi hr => ?_⟩
     refine calls_of_wp hf hb ?_
     have Gg:vs.length=args.length:=aM.len hr
     have hm:je G [] (fun k=>w.heap.size<=k) ⟨fun _=>none,ok⟩ w ⟨args++List.replicate (fn.ntmps-args.length) (.tup []),fun _=>none,0⟩
         { tmps:=vs.toArray++Array.replicate (fn.ntmps-vs.toArray.size) undef,defers:=[] }:=by
       refine ⟨?_,hi,fun _ _ _=>rfl,rfl⟩
       show aM _ w _ _
       simp only [Array.toList_append,Array.toList_replicate,List.size_toArray,Gg]
       refine aM.append hr (bz.2 ⟨by simp,fun j c hj => ?_⟩)
       have nL:j<fn.ntmps-args.length:=by have:=(List.getElem?_eq_some_iff.1 hj).1;simpa using this
       simp only [List.getElem?_replicate,nL,if_true,Option.some.injEq] at hj ⊢
       subst hj
       exact ⟨undef,rfl,by simp only [aL,undef];exact ⟨#[],rfl,by simp [aM]⟩⟩
     refine h c hvb _ _ w _ _ hm ?_
     intro e s' E' w' a' hq had sw
     obtain ⟨he,r0,VI,LC⟩:=hq
     obtain ⟨v,px,tr⟩:=Bj sw J3 VI
     have fin:∃ v,(results fn a'.tmps).run P w' = .ok v w'/\∃ v' ok',Ending.returned v = .returned v'/\Adv (fun k=>w.heap.size<=k) ⟨fun _=>none,ok⟩ ⟨fun _=>none,ok'⟩ w w'/\(∀ b,ok' b->b<w'.heap.size)/\aL ⟨fun _=>none,ok'⟩ w' r v':=by
       refine ⟨v,px,v,(E'.froze s'.σ).ok,rfl, ?_, ?_, ?_⟩
       . refine ⟨⟨fun _ _ h=>by simp at h,fun b hb => .inl (had.step.ok b hb),had.step.same⟩,had.os,had.tape,had.output,had.size,had.block, ?_⟩
         rintro b (hb | ⟨id,bk,k,N,hs,WZ⟩)
         . exact had.Tq b hb
         . obtain ⟨g,N',cur,ty,hB⟩:=sw.inv.blk id bk hs
           rw [hB.μ] at WZ
           simp only [Option.some.injEq,Prod.mk.injEq] at WZ
           right;rw [<- WZ.1];exact hB.own
       . rintro b (hb | ⟨id,bk,k,N,hs,WZ⟩)
         . exact sw.inv.okb b hb
         . obtain ⟨g,N',cur,ty,hB⟩:=sw.inv.blk id bk hs
           rw [hB.μ] at WZ
           simp only [Option.some.injEq,Prod.mk.injEq] at WZ
           rw [<- WZ.1];exact dH hB.heap
       . exact LC G _ E' w' v sw.inv tr
     rcases he with rfl | rfl
     . exact ⟨sw.defers,fin⟩
     . exact ⟨sw.defers,fin⟩
   . simp at hc
end
end Go.VL
end

section
namespace Go.VL
section
variable {P:Program} {G:Nat->Option (List AV)} {π : Id} {Q:cD->VS->Prop} {s:VS}
def Fg:List AV->List AV->Prop
 | [],[]=>True
 | c::cs,d::ds=>(d = .top∨d=c)/\Fg cs ds
 | _,_=>False
theorem Fg.rep {E:Env} {w:World}:∀ {cs ds:List AV} {vs:List Value},Fg cs ds->aM E w cs vs->aM E w ds vs
 | [],[],_,_,h=>h
 | c::cs,d::ds,vs,hf,h=>by
   simp only [Fg] at hf
   simp only [aM] at h ⊢
   obtain ⟨v,rest,e,h1,h2⟩:=h
   refine ⟨v,rest,e, ?_,Fg.rep hf.2 h2⟩
   rcases hf.1 with rfl | rfl
   . simp [aL]
   . exact h1
 | [],_::_,_,h,_=>by simp [Fg] at h
 | _::_,[],_,h,_=>by simp [Fg] at h
theorem Wk.forget {t t':List AV} {σ σ':aa} {n n':Nat} (ht:Fg t t') (hs:∀ id, σ' id=none ∨ σ' id = σ id) (hn:n<=n'):Wk G π ⟨t, σ,n⟩ ⟨t', σ',n'⟩ :=
 fun own E w _ hm=>⟨E,kC.refl own π E w,ht.rep hm.frame,hm.inv.sub hs,hm.free.mono hn,hm.defers⟩
theorem Wk.slots {t t':List AV} {σ : aa} {n n':Nat} (ht:Fg t t') (hn:n<=n'):Wk G π ⟨t, σ,n⟩ ⟨t', σ,n'⟩:=Wk.forget ht (fun _ => .inr rfl) hn
def VRd (P:Program) (G:Nat->Option (List AV)) (π : Id) (x:bX) (Q:cD->VS->Prop):Nat->VS->Prop
 | 0,_=>False
 | n+1,s=>VW P G π x (Then (VRd P G π x Q n) Q) s
theorem VW.rounds {x:bX} (n:Nat) (h:VRd P G π x Q n s):VW P G π (.loop x) Q s:=by
 intro c hc own E w a R hm hR
 cases c<;>simp only [eD,Option.some.injEq,reduceCtorEq] at hc
 case loop cb =>
   cases h1:eD P cb with
   | none=>simp [h1] at hc
   | some vb =>
     simp only [h1,Option.map_some,Option.some.injEq,bX.loop.injEq] at hc
     subst hc
     refine wp_loop_rounds n ?_
     have key:∀ n s E2 w2 a2,VRd P G π vb Q n s->kC own π E E2 w w2->je G π own E2 w2 s a2->Code.rounds P cb R n a2 w2:=by
       intro n
       induction n with
       | zero=>intro s E2 w2 a2 h _ _;exact h.elim
       | succ n ih =>
         intro s E2 w2 a2 h ad hm
         refine h cb h1 own E2 w2 a2 _ hm ?_
         intro e s' E' w' a' hq had sw
         cases e with
         | normal=>exact ih s' E' w' a' hq (ad.trans had) sw
         | exit id=>exact hR (.exit id) s' E' w' a' hq (ad.trans had) sw
         | ret=>exact hR .ret s' E' w' a' hq (ad.trans had) sw
     exact key n s E w a h (kC.refl own π E w) hm
 case region=>exfalso;revert hc;unfold lI;(repeat' split)<;>simp
 all_goals (exfalso;revert hc;(repeat' split)<;>simp)
end
end Go.VL
end

section
namespace Go.VL
def gB.vF {α : Type}:gB α -> Bool
 | .call _ _=>true
 | _=>false
def ES (G:Nat->Option (List AV)) (σ : aa) (p:Id) (d:Option Nat) (op:gB aT) (g:Option (Nat × Bool)) (t:List AV):Option (List AV × dN × aa) :=
 match eP t g with
 | none=>none
 | some false=>some (fK t d (.tup []),{ val := .tup [] }, σ)
 | some true=>match b8 σ p (op.map (aT.ev G t)) with
   | some r=>some (fK t d r.val,r, σ.app r.up)
   | none=>none
section
variable (P:Program) (G:Nat->Option (List AV)) (π : Id)
def vs (base:Nat) (Q:cD->VS->Prop) (n:Nat) (os:List bp) (i:Nat) (t:List AV) (σ : aa):Prop :=
 yz P G π base (fun t σ => Q .normal ⟨t, σ,n⟩) os i t σ
def vd (base:Nat) (Q:cD->VS->Prop) (n:Nat) (ps:List (Nat × Nat)) (os:List bp) (i:Nat) (acc:List dN) (t:List AV) (σ : aa):Prop :=
 yA P G π base (fun rs t σ => ar rs ps/\Q .normal ⟨t, σ,n⟩) os i acc t σ
def ZE (base:Nat) (Q:cD->VS->Prop) (n:Nat) (os:List bp) (i:Nat):Option (List AV × dN × aa)->Prop
 | some (t,_, σ)=>vs P G π base Q n os i t σ
 | none=>False
def ZF (base:Nat) (Q:cD->VS->Prop) (n:Nat) (ps:List (Nat × Nat)) (os:List bp) (i:Nat) (acc:List dN):Option (List AV × dN × aa)->Prop
 | some (t,r, σ)=>vd P G π base Q n ps os i (r::acc) t σ
 | none=>False
def pT (base:Nat) (Q:cD->VS->Prop) (n:Nat) (d:Option Nat) (os:List bp) (i:Nat) (t:List AV) (σ : aa) (f:FuncId) (args:List AV):Prop :=
 ∃ S r,aB P G f args ((base+i) :: π) S r/\(∀ x∈S, σ x.1=some x.2)/\(∀ x∈S,x.1∈r.rd)/\vs P G π base Q n os (i+1) (fK t d r.val) (σ.app r.up)
def Gh (base:Nat) (Q:cD->VS->Prop) (n:Nat) (ps:List (Nat × Nat)) (d:Option Nat) (os:List bp) (i:Nat) (acc:List dN) (t:List AV) (σ : aa) (f:FuncId) (args:List AV):Prop :=
 ∃ S r,aB P G f args ((base+i) :: π) S r/\(∀ x∈S, σ x.1=some x.2)/\(∀ x∈S,x.1∈r.rd)/\vd P G π base Q n ps os (i+1) (r::acc) (fK t d r.val) (σ.app r.up)
def LD (base:Nat) (Q:cD->VS->Prop) (n:Nat) (d:Option Nat) (os:List bp) (i:Nat) (t:List AV) (σ : aa):Option Bool->AV->List AV->Prop
 | some true, .fn (.func f) first cap,l=>pT P G π base Q n d os i t σ f (first++l++cap)
 | some false,_,_=>vs P G π base Q n os (i+1) (fK t d (.tup [])) σ
 | _,_,_=>False
def LF (base:Nat) (Q:cD->VS->Prop) (n:Nat) (ps:List (Nat × Nat)) (d:Option Nat) (os:List bp) (i:Nat) (acc:List dN) (t:List AV) (σ : aa):Option Bool->AV->List AV->Prop
 | some true, .fn (.func f) first cap,l=>Gh P G π base Q n ps d os i acc t σ f (first++l++cap)
 | some false,_,_=>vd P G π base Q n ps os (i+1) ({ val := .tup [] }::acc) (fK t d (.tup [])) σ
 | _,_,_=>False
variable {P} {G} {π}
variable {base:Nat} {Q:cD->VS->Prop} {n:Nat} {ps:List (Nat × Nat)} {d:Option Nat} {g:Option (Nat × Bool)} {os:List bp} {i:Nat} {acc:List dN} {t:List AV} {σ : aa}
theorem PU:vs P G π base Q n [] i t σ = Q .normal ⟨t, σ,n⟩:=(rfl)
theorem PV:vd P G π base Q n ps [] i acc t σ = (ar acc.reverse ps/\Q .normal ⟨t, σ,n⟩):=(rfl)
theorem Hr {σ : aa} {p:Id} {op:gB AV} {K:dN->Prop} (h:op.vF=false):yy P G σ p op K=(match b8 σ p op with | some r=>K r | none=>False):=by
 cases op<;>first | rfl | simp [gB.vF] at h
theorem CH {op:gB aT} {f:aT->AV}:(op.map f).vF=op.vF:=by cases op<;>rfl
theorem ZG {op:gB aT} (h:op.vF=false):vs P G π base Q n (⟨d,op,g⟩::os) i t σ = ZE P G π base Q n os (i+1) (ES G σ ((base+i) :: π) d op g t):=by
 unfold vs
 simp only [yz,ES]
 cases hw:eP t g with
 | none=>rfl
 | some b =>
   cases b with
   | false=>rfl
   | true =>
     simp only []
     rw [Hr (by rw [CH];exact h)]
     cases b8 σ ((base+i) :: π) (op.map (aT.ev G t))<;>rfl
theorem ZH {op:gB aT} (h:op.vF=false):vd P G π base Q n ps (⟨d,op,g⟩::os) i acc t σ = ZF P G π base Q n ps os (i+1) acc (ES G σ ((base+i) :: π) d op g t):=by
 unfold vd
 simp only [yA,ES]
 cases hw:eP t g with
 | none=>rfl
 | some b =>
   cases b with
   | false=>rfl
   | true =>
     simp only []
     rw [Hr (by rw [CH];exact h)]
     cases b8 σ ((base+i) :: π) (op.map (aT.ev G t))<;>rfl
theorem TT {f:aT} {l:List aT}:vs P G π base Q n (⟨d, .call f l,g⟩::os) i t σ = LD P G π base Q n d os i t σ (eP t g) (f.ev G t) (l.map (aT.ev G t)):=by
 unfold vs LD
 simp only [yz]
 cases hw:eP t g with
 | none=>rfl
 | some b =>
   cases b with
   | false=>rfl
   | true =>
     simp only [gB.map,yy]
     cases hf:f.ev G t<;>try rfl
     rename_i fn a c
     cases fn<;>rfl
theorem TU {f:aT} {l:List aT}:vd P G π base Q n ps (⟨d, .call f l,g⟩::os) i acc t σ = LF P G π base Q n ps d os i acc t σ (eP t g) (f.ev G t) (l.map (aT.ev G t)):=by
 unfold vd LF
 simp only [yA]
 cases hw:eP t g with
 | none=>rfl
 | some b =>
   cases b with
   | false=>rfl
   | true =>
     simp only [gB.map,yy]
     cases hf:f.ev G t<;>try rfl
     rename_i fn a c
     cases fn<;>rfl
theorem CI {f:FuncId} {first cap l:List AV}:LD P G π base Q n d os i t σ (some true) (.fn (.func f) first cap) l=pT P G π base Q n d os i t σ f (first++l++cap):=(rfl)
theorem CJ {f:FuncId} {first cap l:List AV}:LF P G π base Q n ps d os i acc t σ (some true) (.fn (.func f) first cap) l=Gh P G π base Q n ps d os i acc t σ f (first++l++cap):=(rfl)
theorem aj {f:FuncId} {args:List AV} {r:AV} (h:VP P G f args r) (hp:∀ c∈args,af c) (k:vs P G π base Q n os (i+1) (fK t d r) σ):pT P G π base Q n d os i t σ f args :=
 ⟨[],{ val:=r },aB.PT h hp _,by simp,by simp,k⟩
theorem ax {f:FuncId} {args:List AV} {r:AV} (h:VP P G f args r) (hp:∀ c∈args,af c) (k:vd P G π base Q n ps os (i+1) ({ val:=r }::acc) (fK t d r) σ):Gh P G π base Q n ps d os i acc t σ f args :=
 ⟨[],{ val:=r },aB.PT h hp _,by simp,by simp,k⟩
def Hs (P:Program) (G:Nat->Option (List AV)) (π : Id) (x y:bX) (Q:cD->VS->Prop) (s:VS):AV->Prop
 | .bool b=>if b then sy P G π x Q s else sy P G π y Q s
 | .anyb=>sy P G π x Q s/\sy P G π y Q s
 | _=>False
theorem CK {x y:bX} {s:VS}:Hs P G π x y Q s (.bool true)=sy P G π x Q s:=(rfl)
theorem Bk {x y:bX} {s:VS}:Hs P G π x y Q s (.bool false)=sy P G π y Q s:=(rfl)
theorem ET {x y:bX} {s:VS}:Hs P G π x y Q s .anyb=(sy P G π x Q s/\sy P G π y Q s):=(rfl)
theorem Ht {s:VS}:sy P G π .skip Q s=Q .normal s:=(rfl)
theorem CL {os:List bp} {n:Nat}:sy P G π (.reg none os) Q ⟨t, σ,n⟩=vs P G π n Q (n+os.length) os 0 t σ := (rfl)
theorem CM {os:List bp} {n:Nat}:sy P G π (.reg (some ps) os) Q ⟨t, σ,n⟩=vd P G π n Q (n+os.length) ps os 0 [] t σ := (rfl)
theorem LG {x y:bX} {s:VS}:sy P G π (.seq x y) Q s=sy P G π x (Then (sy P G π y Q) Q) s:=(rfl)
theorem Hu {c:aT} {x y:bX} {n:Nat}:sy P G π (.cond c x y) Q ⟨t, σ,n⟩=Hs P G π x y Q ⟨t, σ,n⟩ (c.ev G t):=by
 simp only [sy,Hs]<;>cases c.ev G t<;>rfl
theorem Ap {id:Nat} {x:bX} {s:VS}:sy P G π (.block id x) Q s=sy P G π x (NJ id Q) s:=(rfl)
theorem aC {x:bX} {s:VS}:sy P G π (.loop x) Q s=VW P G π (.loop x) Q s:=(rfl)
theorem Hv {id:Nat} {s:VS}:sy P G π (.exit id) Q s=Q (.exit id) s:=(rfl)
theorem LI {s:VS}:sy P G π .ret Q s=Q .ret s:=(rfl)
def Hw (rs:List xI) (r:AV) (e:cD) (s:VS):Prop:=(e = .normal∨e = .ret)/\∃ r0,bP rs s=some r0/\View s.σ r0 r
theorem ag {rs:List xI} {r:AV} {s:VS}:Hw rs r .ret s=∃ r0,bP rs s=some r0/\View s.σ r0 r:=by simp [Hw]
theorem Bl {rs:List xI} {r:AV} {s:VS}:Hw rs r .normal s=∃ r0,bP rs s=some r0/\View s.σ r0 r:=by simp [Hw]
def Hx {α : Type} (G:Nat->Option (List AV)) (π : Id) (st : α -> VS) (Pr : α -> Prop) (m : α -> Nat) (a : α) (Q:cD->VS->Prop):cD->VS->Prop
 | .normal,s'=>∃ a',Pr a'/\m a'<m a/\Wk G π s' (st a')
 | .exit i,s'=>Q (.exit i) s'
 | .ret,s'=>Q .ret s'
theorem yG {α : Type} {st : α -> VS} {Pr : α -> Prop} {m : α -> Nat} {a : α} {s':VS}:Hx G π st Pr m a Q .normal s'=∃ a',Pr a'/\m a'<m a/\Wk G π s' (st a'):=(rfl)
theorem CN {α : Type} {st : α -> VS} {Pr : α -> Prop} {m : α -> Nat} {a : α} {s':VS} {j:Nat}:Hx G π st Pr m a Q (.exit j) s'=Q (.exit j) s':=(rfl)
theorem EU {α : Type} {st : α -> VS} {Pr : α -> Prop} {m : α -> Nat} {a : α} {s':VS}:Hx G π st Pr m a Q .ret s'=Q .ret s':=(rfl)
theorem VW.bJ {α : Type} {x:bX} {s:VS} (st : α -> VS) (Pr : α -> Prop) (m : α -> Nat) (x0 : α) (hw:Wk G π s (st x0)) (h0:Pr x0)
   (h:∀ a,Pr a->sy P G π x (Hx G π st Pr m a Q) (st a)):VW P G π (.loop x) Q s:=by
 refine VW.wk hw ?_
 intro c hc own E w a R hm hR
 cases c<;>simp only [eD,Option.some.injEq,reduceCtorEq] at hc
 case loop cb =>
   cases h1:eD P cb with
   | none=>simp [h1] at hc
   | some vb =>
     simp only [h1,Option.map_some,Option.some.injEq,bX.loop.injEq] at hc
     subst hc
     refine vE (α := α) (fun g a' w'=>Pr g/\∃ E',kC own π E E' w w'/\je G π own E' w' (st g) a') m (x:=x0) ⟨h0,E,kC.refl own π E w,hm⟩ ?_
     rintro g a2 w2 ⟨TR,E2,NI,tp⟩
     refine VW.of (h g TR) cb h1 own E2 w2 a2 _ tp ?_
     intro e s' E' w' a' hq had sw
     cases e with
     | normal =>
       obtain ⟨g',ZB,hlt,WX⟩:=hq
       obtain ⟨E3,ZC,ZD⟩:=WX own E' w' a' sw
       exact ⟨g',⟨ZB,E3,(NI.trans had).trans ZC,ZD⟩,hlt⟩
     | exit id=>exact hR (.exit id) s' E' w' a' hq (NI.trans had) sw
     | ret=>exact hR .ret s' E' w' a' hq (NI.trans had) sw
 case region=>exfalso;revert hc;unfold lI;(repeat' split)<;>simp
 all_goals (exfalso;revert hc;(repeat' split)<;>simp)
theorem VP.of {f:FuncId} {fn:Func} {vf:ay} (hf:P.funcs[f]? = some fn) (hc:cX P fn=some vf) {args:List AV} {r:AV}
   (h:sy P G [] vf.body (Hw vf.results r) ⟨args++List.replicate (vf.nt-args.length) (.tup []),fun _=>none,0⟩):VP P G f args r :=
 VP.VH hf hc (VW.of h)
end
end Go.VL
end

section
namespace Go.VL
def aa.of (S:List (Id × dC)):aa:=fun i=>S.lookup i
theorem gn {S:List (Id × dC)} {i:Id} {b:dC}:S.lookup i=some b->(i,b)∈S:=by
 induction S with
 | nil=>intro h;simp at h
 | cons x S ih =>
   intro h
   obtain ⟨j,c⟩:=x
   simp only [List.lookup_cons] at h
   split at h
   . rename_i he
     have:i=j:=by simpa using he
     subst this
     simp only [Option.some.injEq] at h;subst h;simp
   . exact List.mem_cons_of_mem _ (ih h)
theorem aa.vG {S:List (Id × dC)} {σ : aa} (h:∀ x∈S, σ x.1=some x.2) (i:Id):aa.of S i=none∨aa.of S i = σ i:=by
 cases hl:S.lookup i with
 | none=>exact .inl hl
 | some b=>right;show S.lookup i = σ i;rw [hl];exact (h _ (gn hl)).symm
theorem aa.Ki (up:List (Id × Option dC)) (σ σ':aa) (i:Id) (h:(∃ x∈up,x.1=i) ∨ σ i = σ' i) : σ.app up i = σ'.app up i:=by
 induction up generalizing σ σ' with
 | nil =>
   rcases h with ⟨x,hx,_⟩ | h
   . simp at hx
   . exact h
 | cons x up ih =>
   obtain ⟨j,b⟩:=x
   simp only [aa.app]
   apply ih
   by_cases hj:i=j
   . right;subst hj;simp [aa.put]
   . rcases h with ⟨y,hy,he⟩ | h
     . simp only [List.mem_cons] at hy
       rcases hy with rfl | hy
       . exact absurd he.symm hj
       . exact .inl ⟨y,hy,he⟩
     . right;simp [aa.put,hj,h]
theorem aa.TV (up:List (Id × Option dC)) (σ : aa) (i:Id) (h:∀ x∈up,x.1≠i) : σ.app up i = σ i:=by
 induction up generalizing σ with
 | nil=>rfl
 | cons x up ih =>
   obtain ⟨j,b⟩:=x
   simp only [aa.app]
   rw [ih _ fun y hy=>h y (List.mem_cons_of_mem _ hy),aa.bg]
   exact fun e=>h (j,b) (by simp) e.symm
section
variable {P:Program} {G:Nat->Option (List AV)}
def Fin (G:Nat->Option (List AV)) (p:Id) (S:List (Id × dC)) (σ':aa) (r0:AV) (r:dN):Prop :=
 ∀ own E w v,Inv G own E w σ'->aL E w r0 v->E.μ p=none->∃ E',kC own p E E' w w/\Inv G own E' w ((aa.of S).app r.up)/\aL E' w r.val v
def NL (G:Nat->Option (List AV)) (p:Id) (S:List (Id × dC)) (rs:List xI) (r:dN) (e:cD) (s:VS):Prop :=
 (e = .normal∨e = .ret)/\∃ r0,bP rs s=some r0/\Fin G p S s.σ r0 r
theorem aB.VJ {f:FuncId} {fn:Func} {vf:ay} (hf:P.funcs[f]? = some fn) (hc:cX P fn=some vf) {args:List AV} {p:Id} {S:List (Id × dC)} {r:dN}
   (h:VW P G p vf.body (NL G p S vf.results r) ⟨args++List.replicate (vf.nt-args.length) (.tup []),aa.of S,0⟩):aB P G f args p S r:=by
 unfold cX at hc
 split at hc
 . simp at hc
 . rename_i sC
   split at hc
   . rename_i c rs hb J3
     simp only [Option.map_eq_some_iff] at hc
     obtain ⟨vb,hvb,rfl⟩:=hc
     refine ⟨⟨fn,hf,by simpa using sC,by simp [hb]⟩,fun own E w σ vs hS hi hr hμ => ?_⟩
     refine calls_of_wp hf hb ?_
     have Gg:vs.length=args.length:=aM.len hr
     let Ei:Nat->Prop:=fun g=>(∃ x∈S,∃ y,E.μ x.1=some y/\y.1=g)∨w.heap.size<=g
     have xK:∀ i,aa.of S i=none∨aa.of S i = σ i:=aa.vG hS
     have NM:∀ g,Ei g->own g:=by
       rintro g (⟨x,hx,y,hy,rfl⟩ | hg)
       . obtain ⟨g,N,cur,ty,hB⟩:=hi.blk _ _ (hS x hx)
         have:=hB.μ.symm.trans hy
         simp only [Option.some.injEq] at this
         subst this
         exact hB.own
       . exact hi.new g hg
     have WY:Inv G Ei E w (aa.of S):=by
       refine ⟨hi.okb,fun id bk hs => ?_,(hi.sub xK).inj,hi.glob,fun k hk => .inr hk⟩
       have hm:=gn hs
       obtain ⟨g,N,cur,ty,hB⟩:=hi.blk _ _ (hS _ hm)
       exact ⟨g,N,cur,ty,hB.μ,hB.heap,hB.size,hB.len,hB.most, .inl ⟨_,hm,_,hB.μ,rfl⟩,hB.ok,hB.no,hB.k,hB.row⟩
     have hm:je G p Ei E w ⟨args++List.replicate (fn.ntmps-args.length) (.tup []),aa.of S,0⟩
         { tmps:=vs.toArray++Array.replicate (fn.ntmps-vs.toArray.size) undef,defers:=[] }:=by
       refine ⟨?_,WY,fun j hj _=>hμ j hj,rfl⟩
       show aM _ w _ _
       simp only [Array.toList_append,Array.toList_replicate,List.size_toArray,Gg]
       refine aM.append hr (bz.2 ⟨by simp,fun j c hj => ?_⟩)
       have nL:j<fn.ntmps-args.length:=by have:=(List.getElem?_eq_some_iff.1 hj).1;simpa using this
       simp only [List.getElem?_replicate,nL,if_true,Option.some.injEq] at hj ⊢
       subst hj
       exact ⟨undef,rfl,by simp only [aL,undef];exact ⟨#[],rfl,by simp [aM]⟩⟩
     refine h c hvb Ei E w _ _ hm ?_
     intro e s' E' w' a' hq had sw
     obtain ⟨he,r0,VI,uW⟩:=hq
     obtain ⟨v,px,tr⟩:=Bj sw J3 VI
     obtain ⟨E2,Gf,EH,hv3⟩:=uW Ei E' w' v sw.inv tr sw.free.self
     have gr:kC Ei p E E2 w w':=had.trans Gf
     have ZI:Adv own E E2 w w' :=
       ⟨gr.step,gr.os,gr.tape,gr.output,gr.size,fun k hk ho=>gr.block k hk fun h=>ho (NM k h),fun b hb=>(gr.Tq b hb).imp id (NM b)⟩
     -- a block of the caller that the function did not have
     have key:∀ i bk, σ i=some bk->aa.of S i=none->∀ g N cur ty,xl E own w i bk g N cur ty -> ¬ Ei g:=by
       intro i bk hs hn g N cur ty hB
       rintro (⟨x,hx,y,hy,he⟩ | hg)
       . refine hi.inj x.1 i y (g,bk.k,N) (by simp [hS x hx]) (by simp [hs]) ?_ hy hB.μ he
         intro e
         have:=hS x hx
         have h1:(aa.of S) x.1≠none:=by
           show S.lookup x.1≠none
           intro hl
           rw [List.lookup_eq_none_iff] at hl
           have:=hl x hx
           simp at this
         rw [e] at h1
         exact h1 hn
       . have:=dH hB.heap;omega
     have fin:∃ v',Ending.returned v = .returned v'/\kY G own E w σ p r v' E2 w':=by
       refine ⟨v,rfl,ZI, ?_,hv3,gr.ids⟩
       -- the invariant of the caller's store
       have Aq:∀ i,(σ.app r.up i=(aa.of S).app r.up i)∨(σ.app r.up i = σ i/\(aa.of S i=none)):=by
         intro i
         by_cases h:(∃ x∈r.up,x.1=i) ∨ σ i=aa.of S i
         . exact .inl (aa.Ki r.up σ (aa.of S) i h)
         . right
           have h1:∀ x∈r.up,x.1≠i:=fun x hx e=>h (.inl ⟨x,hx,e⟩)
           refine ⟨aa.TV r.up σ i h1, ?_⟩
           rcases xK i with h2 | h2
           . exact h2
           . exact absurd (.inr h2.symm) h
       have hold:∀ i bk, σ i=some bk->aa.of S i=none->∃ g N cur ty,xl E own w i bk g N cur ty/\xl E2 own w' i bk g N cur ty /\ ¬ Ei g:=by
         intro i bk hs hn
         obtain ⟨g,N,cur,ty,hB⟩:=hi.blk i bk hs
         have hno:=key i bk hs hn g N cur ty hB
         refine ⟨g,N,cur,ty,hB,hB.keep gr.step (gr.block g (dH hB.heap) hno) (fun hf mo => ?_),hno⟩
         exact (gr.Tq g mo).elim (hB.no hf) hno
       refine ⟨EH.okb,fun i bk hs => ?_,fun i j x y jc hj' hne hx hy => ?_,EH.glob,fun k hk=>hi.new k (Nat.le_trans gr.size hk)⟩
       . rcases Aq i with h1 | ⟨h1,h2⟩
         . rw [h1] at hs
           obtain ⟨g,N,cur,ty,hB⟩:=EH.blk i bk hs
           exact ⟨g,N,cur,ty,hB.μ,hB.heap,hB.size,hB.len,hB.most,NM g hB.own,hB.ok,hB.no,hB.k,hB.row⟩
         . rw [h1] at hs
           obtain ⟨g,N,cur,ty,_,hB,_⟩:=hold i bk hs h2
           exact ⟨g,N,cur,ty,hB⟩
       . have new:∀ i x, σ.app r.up i≠none -> σ.app r.up i=(aa.of S).app r.up i->E2.μ i=some x->Ei x.1:=by
           intro i x hn he hx
           rw [he] at hn
           cases hb:(aa.of S).app r.up i with
           | none=>exact absurd hb hn
           | some bk =>
             obtain ⟨g,N,cur,ty,hB⟩:=EH.blk i bk hb
             have:=hB.μ.symm.trans hx
             simp only [Option.some.injEq] at this
             subst this
             exact hB.own
         have old:∀ i x, σ.app r.up i≠none -> σ.app r.up i = σ i->aa.of S i=none->E2.μ i=some x -> ¬ Ei x.1:=by
           intro i x hn he hs hx
           rw [he] at hn
           cases hb : σ i with
           | none=>exact absurd hb hn
           | some bk =>
             obtain ⟨g,N,cur,ty,_,hB,hno⟩:=hold i bk hb hs
             have:=hB.μ.symm.trans hx
             simp only [Option.some.injEq] at this
             subst this
             exact hno
         rcases Aq i with h1 | ⟨h1,h2⟩<;>rcases Aq j with h3 | ⟨h3,h4⟩
         . exact EH.inj i j x y (h1▸jc) (h3▸hj') hne hx hy
         . intro e;exact old j y hj' h3 h4 hy (e▸new i x jc h1 hx)
         . intro e;exact old i x jc h1 h2 hx (e▸new j y hj' h3 hy)
         . have lift:∀ i x, σ.app r.up i≠none -> σ.app r.up i = σ i->aa.of S i=none->E2.μ i=some x->E.μ i=some x:=by
             intro i x hn he hs hx
             rw [he] at hn
             cases hb : σ i with
             | none=>exact absurd hb hn
             | some bk =>
               obtain ⟨g,N,cur,ty,hB,uJ,hno⟩:=hold i bk hb hs
               rw [hB.μ, <- uJ.μ,hx]
           exact hi.inj i j x y (h1▸jc) (h3▸hj') hne (lift i x jc h1 h2 hx) (lift j y hj' h3 h4 hy)
     have ZJ:∃ v0,(results fn a'.tmps).run P w' = .ok v0 w'/\∃ v' E',Ending.returned v0 = .returned v'/\kY G own E w σ p r v' E' w':=by
       obtain ⟨v',h1,h2⟩:=fin
       exact ⟨v,px,v',E2,h1,h2⟩
     rcases he with rfl | rfl
     . exact ⟨sw.defers,ZJ⟩
     . exact ⟨sw.defers,ZJ⟩
   . simp at hc
theorem Fin.same {p:Id} {S:List (Id × dC)} {σ':aa} {r0:AV} {r:dN} (hv:r.val=r0) (hs:∀ i,(aa.of S).app r.up i=none∨(aa.of S).app r.up i = σ' i):Fin G p S σ' r0 r :=
 fun own E w _ hi hr _=>⟨E,kC.refl own p E w,hi.sub hs,hv▸hr⟩
end
end Go.VL
end

section
namespace Go.VL
abbrev aK:=List (Id × dC × Bool)
def aK.find:aK->Id->Option dC
 | [],_=>none
 | (j,b,_)::L,i=>if i=j then some b else aK.find L i
def aK.del:aK->Id->aK
 | [],_=>[]
 | x::L,i=>if i=x.1 then aK.del L i else x::aK.del L i
def aK.to (L:aK):aa:=fun i=>L.find i
def aK.one (L:aK):Id × Option dC->aK
 | (i,some b)=>(i,b,true)::L.del i
 | (i,none)=>L.del i
def aK.app (L:aK):List (Id × Option dC)->aK
 | []=>L
 | x::up=>(L.one x).app up
theorem aK.Hy (L:aK) (i j:Id):(L.del i).find j=if j=i then none else L.find j:=by
 induction L with
 | nil=>simp [aK.del,aK.find]
 | cons x L ih =>
   obtain ⟨a,b,c⟩:=x
   simp only [aK.del]
   by_cases h:i=a
   . subst h
     simp only [if_true,ih,aK.find]
     by_cases h2:j=i
     . simp [h2]
     . simp [h2]
   . simp only [if_neg h,aK.find,ih]
     by_cases h2:j=a
     . subst h2
       have : ¬ j=i:=fun e=>h e.symm
       simp [this]
     . simp [h2]
theorem aK.W0 (L:aK) (x:Id × Option dC):(L.one x).to=L.to.put x.1 x.2:=by
 obtain ⟨i,b⟩:=x
 funext j
 cases b with
 | none=>simp only [aK.one,aK.to,aK.Hy,aa.put]
 | some b =>
   simp only [aK.one,aK.to,aK.find,aK.Hy,aa.put]
   split<;>simp_all
theorem aK.PW (up:List (Id × Option dC)):∀ L:aK,(L.app up).to=L.to.app up:=by
 induction up with
 | nil=>intro L;rfl
 | cons x up ih=>intro L;simp only [aK.app,ih,aK.W0,aa.app]
mutual
def AV.ids:AV->List Id
 | .fn _ a c=>Hz a++Hz c
 | .agg cs | .tup cs | .sl _ cs | .tsl _ cs | .ep cs _=>Hz cs
 | .osl i _ _ _ _ | .ref i _ _=>[i]
 | _=>[]
def Hz:List AV->List Id
 | []=>[]
 | c::cs=>c.ids++Hz cs
end
def reach:Nat->aK->List Id->List (Id × dC)->List (Id × dC)
 | 0,_,_,S=>S
 | _+1,_,[],S=>S
 | n + 1,L,i::is,S=>match S.lookup i with
   | some _=>reach n L is S
   | none=>match L.find i with
     | some b=>reach n L (Hz b.els++is) ((i,b)::S)
     | none=>reach n L is S
theorem sE {L:aK}:∀ (n:Nat) (is:List Id) (S:List (Id × dC)),(∀ x∈S,L.to x.1=some x.2)->∀ x∈reach n L is S,L.to x.1=some x.2
 | 0,_,_,h=>h
 | _+1,[],_,h=>by simpa [reach] using h
 | n + 1,i::is,S,h=>by
   simp only [reach]
   split
   . exact sE n is S h
   . split
     . rename_i b hb
       refine sE n _ _ fun x hx => ?_
       rcases List.mem_cons.1 hx with rfl | hx
       . exact hb
       . exact h x hx
     . exact sE n is S h
inductive HA where
 | leaf
 | node (k:Nat) (v:ay) (l r:HA)
def HA.find:HA->Nat->Option ay
 | .leaf,_=>none
 | .node k v l r,f=>if f=k then some v else if f<k then l.find f else r.find f
def HA.Of (P:Program):HA->Prop
 | .leaf=>True
 | .node k v l r=>(∃ fn,P.funcs[k]? = some fn/\cX P fn=some v)/\l.Of P/\r.Of P
theorem HA.Gi {P:Program} {f:Nat} {vf:ay}:∀ {T:HA},T.Of P->T.find f=some vf->∃ fn,P.funcs[f]? = some fn/\cX P fn=some vf
 | .leaf,_,h=>by simp [HA.find] at h
 | .node k v l r,ho,h=>by
   simp only [HA.find] at h
   split at h
   . rename_i e
     simp only [Option.some.injEq] at h
     subst h;subst e
     exact ho.1
   . split at h
     . exact HA.Gi ho.2.1 h
     . exact HA.Gi ho.2.2 h
section
variable (G:Nat->Option (List AV))
def Kj (C:FuncId->List AV->Id->aK->Option dN) (L:aK) (p:Id) (op:gB AV):Option dN :=
 match op with
 | .call f as=>match f with
   | .fn (.func f) first cap=>C f (first++as++cap) p L
   | _=>none
 | op=>b8 L.to p op
def uL (C:FuncId->List AV->Id->aK->Option dN) (π : Id) (base:Nat):List bp->Nat->List dN->List AV->aK->Option (List dN × List AV × aK)
 | [],_,acc,t,L=>some (acc,t,L)
 | o :: os,i,acc,t,L=>match eP t o.guard with
   | none=>none
   | some false=>uL C π base os (i+1) ({ val := .tup [] }::acc) (fK t o.dst (.tup [])) L
   | some true=>match Kj C L ((base+i) :: π) (o.op.map (aT.ev G t)) with
     | none=>none
     | some r=>uL C π base os (i+1) (r::acc) (fK t o.dst r.val) (L.app r.up)
def CO (a b:List Id):Bool:=a.all fun i => !b.contains i
def PX (a b:dN):Bool:=CO (a.up.map (·.1)) b.rd&&CO (a.up.map (·.1)) (b.up.map (·.1))&&CO (b.up.map (·.1)) a.rd
def Ar (rs:List dN) (ps:List (Nat × Nat)):Bool:=ps.all fun q=>match rs[q.1]?,rs[q.2]? with
 | some a,some b=>PX a b
 | _,_=>true
structure LS where
 t:List AV
 L:aK
 n:Nat
def LS.to (s:LS):VS:=⟨s.t,s.L.to,s.n⟩
def aK.live (L:aK) (K:List (Id × dC)):aK:=L.filter fun x=>(K.lookup x.1).isSome
def ups (S:List (Id × dC)) (L:aK):List (Id × Option dC) :=
 (S.filter fun x=>(L.find x.1).isNone).map (fun x=>(x.1,none))++(L.filter fun x=>x.2.2).map fun x=>(x.1,some x.2.1)
def xO (X:FuncId->List AV->Id->aK->Option dN) (R:bX->Id->LS->Option (cD × LS)) (T:HA) (f:FuncId) (args:List AV) (p:Id) (L:aK):Option dN :=
 match X f args p L with
 | some r=>some r
 | none =>
 match T.find f with
 | none=>none
 | some vf =>
   let S:=reach 1000 L (Hz args) []
   match R vf.body p ⟨args++List.replicate (vf.nt-args.length) (.tup []),S.map fun x=>(x.1,x.2,false),0⟩ with
   | some (.normal,s) | some (.ret,s)=>match bP vf.results s.to with
     | some r0=>some { val:=r0,rd:=S.map (·.1),up:=ups S (s.L.live (reach 1000 s.L (r0.ids++S.map (·.1)) [])) }
     | none=>none
   | _=>none
def run (X:FuncId->List AV->Id->aK->Option dN) (T:HA):Nat->bX->Id->LS->Option (cD × LS)
 | 0,_,_,_=>none
 | m + 1,c, π,s=>match c with
   | .skip=>some (.normal,s)
   | .ret=>some (.ret,s)
   | .exit i=>some (.exit i,s)
   | .seq a b=>match run X T m a π s with
     | some (.normal,s')=>run X T m b π s'
     | r=>r
   | .cond c a b=>match c.ev G s.t with
     | .bool true=>run X T m a π s
     | .bool false=>run X T m b π s
     | _=>none
   | .block i c=>match run X T m c π s with
     | some (.exit j,s')=>if j=i then some (.normal,s') else some (.exit j,s')
     | r=>r
   | .loop c=>match run X T m c π s with
     | some (.normal,s')=>run X T m (.loop c) π s'
     | r=>r
   | .reg ps os=>match uL G (xO X (run X T m) T) π s.n os 0 [] s.t s.L with
     | none=>none
     | some (rs,t,L)=>match ps with
       | none=>some (.normal,⟨t,L,s.n+os.length⟩)
       | some ps=>if Ar rs.reverse ps then some (.normal,⟨t,L,s.n+os.length⟩) else none
end
section
variable {P:Program} {G:Nat->Option (List AV)} {X:FuncId->List AV->Id->aK->Option dN} {T:HA}
def k6 (P:Program) (G:Nat->Option (List AV)) (C:FuncId->List AV->Id->aK->Option dN):Prop :=
 ∀ f args p L r,C f args p L=some r->∃ S,aB P G f args p S r/\(∀ x∈S,L.to x.1=some x.2)/\∀ x∈S,x.1∈r.rd
theorem yH {C:FuncId->List AV->Id->aK->Option dN} (hC:k6 P G C) {L:aK} {p:Id} {op:gB AV} {r:dN} (h:Kj C L p op=some r) {K:dN->Prop} (hK:K r):yy P G L.to p op K:=by
 unfold Kj at h
 unfold yy
 cases op with
 | call f as =>
   simp only [] at h ⊢
   split at h
   . obtain ⟨S,h1,h2,h3⟩:=hC _ _ _ _ _ h
     exact ⟨S,r,h1,h2,h3,hK⟩
   . simp at h
 | _=>simp only [] at h ⊢;rw [h];exact hK
theorem Au {C:FuncId->List AV->Id->aK->Option dN} (hC:k6 P G C) {π : Id} {base:Nat} {rs:List dN} {t':List AV} {L':aK} {K:List dN->List AV->aa->Prop} (hK:K rs.reverse t' L'.to) :
   ∀ (os:List bp) (i:Nat) (acc:List dN) (t:List AV) (L:aK),uL G C π base os i acc t L=some (rs,t',L')->yA P G π base K os i acc t L.to
 | [],i,acc,t,L,h=>by
   simp only [uL,Option.some.injEq,Prod.mk.injEq] at h
   obtain ⟨rfl,rfl,rfl⟩:=h
   exact hK
 | o :: os,i,acc,t,L,h=>by
   simp only [uL] at h
   simp only [yA]
   split at h
   . simp at h
   . rename_i hw;rw [hw];exact Au hC hK os _ _ _ _ h
   . rename_i hw
     rw [hw]
     split at h
     . simp at h
     . rename_i r hr
       have:=Au hC hK os _ _ _ _ h
       rw [aK.PW] at this
       exact yH hC hr this
theorem Av {C:FuncId->List AV->Id->aK->Option dN} (hC:k6 P G C) {π : Id} {base:Nat} {rs:List dN} {t':List AV} {L':aK} {K:List AV->aa->Prop} (hK:K t' L'.to) :
   ∀ (os:List bp) (i:Nat) (acc:List dN) (t:List AV) (L:aK),uL G C π base os i acc t L=some (rs,t',L')->yz P G π base K os i t L.to
 | [],i,acc,t,L,h=>by
   simp only [uL,Option.some.injEq,Prod.mk.injEq] at h
   obtain ⟨rfl,rfl,rfl⟩:=h
   exact hK
 | o :: os,i,acc,t,L,h=>by
   simp only [uL] at h
   simp only [yz]
   split at h
   . simp at h
   . rename_i hw;rw [hw];exact Av hC hK os _ _ _ _ h
   . rename_i hw
     rw [hw]
     split at h
     . simp at h
     . rename_i r hr
       have:=Av hC hK os _ _ _ _ h
       rw [aK.PW] at this
       exact yH hC hr this
theorem vH {a b:List Id} (h:CO a b=true) {i:Id} (hi:i∈a):i ∉ b:=by
 simp only [CO,List.all_eq_true,Bool.not_eq_true',List.contains_eq_mem,decide_eq_false_iff_not] at h
 exact h i hi
theorem CP {rs:List dN} {ps:List (Nat × Nat)} (h:Ar rs ps=true):ar rs ps:=by
 intro q hq a b ha hb
 simp only [Ar,List.all_eq_true] at h
 have:=h q hq
 rw [ha,hb] at this
 simp only [PX,Bool.and_eq_true] at this
 obtain ⟨⟨h1,h2⟩,h3⟩:=this
 exact ⟨fun x hx=>⟨vH h1 (List.mem_map.2 ⟨x,hx,rfl⟩),vH h2 (List.mem_map.2 ⟨x,hx,rfl⟩)⟩,fun x hx=>vH h3 (List.mem_map.2 ⟨x,hx,rfl⟩)⟩
theorem EW (S:List (Id × dC)) (i:Id):(aK.find (S.map fun x=>(x.1,x.2,false)) i)=S.lookup i:=by
 induction S with
 | nil=>rfl
 | cons x S ih =>
   obtain ⟨j,b⟩:=x
   simp only [List.map_cons,aK.find,ih,List.lookup_cons]
   by_cases h:i=j
   . simp [h]
   . have:(i==j)=false:=by simpa using h
     simp [h,this]
theorem CQ {L:aK} {i:Id} {b:dC} (h:L.find i=some b):∃ d,(i,b,d)∈L:=by
 induction L with
 | nil=>simp [aK.find] at h
 | cons x L ih =>
   obtain ⟨j,c,d⟩:=x
   simp only [aK.find] at h
   split at h
   . rename_i e;subst e;simp only [Option.some.injEq] at h;subst h;exact ⟨d,by simp⟩
   . obtain ⟨d',hd⟩:=ih h;exact ⟨d',by simp [hd]⟩
def Clean (S:List (Id × dC)) (L:aK):Prop:=(∀ i b,(i,b,false)∈L->S.lookup i=some b)/\(L.map (·.1)).Nodup
theorem Clean.del {S:List (Id × dC)} {L:aK} (h:Clean S L) (i:Id):Clean S (L.del i)/\i ∉ (L.del i).map (·.1)/\∀ x∈L.del i,x∈L:=by
 have sub:∀ L:aK,(∀ x∈L.del i,x∈L)/\i ∉ (L.del i).map (·.1)/\(L.del i).Sublist L:=by
   intro L
   induction L with
   | nil=>simp [aK.del]
   | cons x L ih =>
     simp only [aK.del]
     split
     . exact ⟨fun y hy=>List.mem_cons_of_mem _ (ih.1 y hy),ih.2.1,ih.2.2.cons _⟩
     . rename_i hne
       refine ⟨fun y hy => ?_, ?_,ih.2.2.cons_cons _⟩
       . rcases List.mem_cons.1 hy with rfl | hy
         . simp
         . exact List.mem_cons_of_mem _ (ih.1 y hy)
       . simp only [List.map_cons,List.mem_cons,not_or]
         exact ⟨hne,ih.2.1⟩
 exact ⟨⟨fun j b hj=>h.1 j b ((sub L).1 _ hj),h.2.sublist ((sub L).2.2.map _)⟩,(sub L).2.1,(sub L).1⟩
theorem Clean.live {S:List (Id × dC)} {L:aK} (h:Clean S L) (K:List (Id × dC)):Clean S (L.live K) :=
 ⟨fun i b hi=>h.1 i b (List.mem_filter.1 hi).1,h.2.sublist (List.filter_sublist.map _)⟩
theorem aK.NN (L:aK) (K:List (Id × dC)) (i:Id):(L.live K).find i=none∨(L.live K).find i=L.find i:=by
 induction L with
 | nil=>exact .inl rfl
 | cons x L ih =>
   obtain ⟨j,b,d⟩:=x
   unfold aK.live at ih ⊢
   by_cases hk:(K.lookup j).isSome=true
   . rw [List.filter_cons_of_pos (by exact hk)]
     simp only [aK.find]
     by_cases h:i=j
     . simp [h]
     . simp only [if_neg h];exact ih
   . rw [List.filter_cons_of_neg (by exact hk)]
     by_cases h:i=j
     . subst h
       left
       cases hf:aK.find (L.filter fun x=>(K.lookup x.1).isSome) i with
       | none=>rfl
       | some c =>
         obtain ⟨d',hd⟩:=CQ hf
         have:=(List.mem_filter.1 hd).2
         exact absurd this hk
     . simp only [aK.find,if_neg h];exact ih
theorem Clean.one {S:List (Id × dC)} {L:aK} (h:Clean S L) (x:Id × Option dC):Clean S (L.one x):=by
 obtain ⟨i,b⟩:=x
 have hd:=h.del i
 cases b with
 | none=>exact hd.1
 | some b =>
   refine ⟨fun j c hj => ?_, ?_⟩
   . simp only [aK.one,List.mem_cons,Prod.mk.injEq,Bool.false_eq_true,and_false,false_or] at hj
     exact hd.1.1 j c hj
   . simp only [aK.one,List.map_cons,List.nodup_cons]
     exact ⟨hd.2.1,hd.1.2⟩
theorem Clean.app {S:List (Id × dC)}:∀ (up:List (Id × Option dC)) {L:aK},Clean S L->Clean S (L.app up)
 | [],_,h=>h
 | x::up,_,h=>Clean.app up (h.one x)
theorem vI {S:List (Id × dC)} {C:FuncId->List AV->Id->aK->Option dN} {π : Id} {base:Nat} {rs:List dN} {t':List AV} {L':aK} :
   ∀ (os:List bp) (i:Nat) (acc:List dN) (t:List AV) (L:aK),uL G C π base os i acc t L=some (rs,t',L')->Clean S L->Clean S L'
 | [],i,acc,t,L,h,hc=>by
   simp only [uL,Option.some.injEq,Prod.mk.injEq] at h
   obtain ⟨rfl,rfl,rfl⟩:=h
   exact hc
 | o :: os,i,acc,t,L,h,hc=>by
   simp only [uL] at h
   split at h
   . simp at h
   . exact vI os _ _ _ _ h hc
   . split at h
     . simp at h
     . exact vI os _ _ _ _ h (hc.app _)
theorem iz {S:List (Id × dC)}:∀ (m:Nat) (c:bX) (π : Id) (s s':LS) (e:cD),run G X T m c π s=some (e,s')->Clean S s.L->Clean S s'.L
 | 0,_,_,_,_,_,h,_=>by simp [run] at h
 | m + 1,c, π,s,s',e,h,hc=>by
   cases c with
   | skip=>simp only [run,Option.some.injEq,Prod.mk.injEq] at h;obtain ⟨_,rfl⟩:=h;exact hc
   | ret=>simp only [run,Option.some.injEq,Prod.mk.injEq] at h;obtain ⟨_,rfl⟩:=h;exact hc
   | exit i=>simp only [run,Option.some.injEq,Prod.mk.injEq] at h;obtain ⟨_,rfl⟩:=h;exact hc
   | seq a b =>
     simp only [run] at h
     split at h
     . rename_i s1 h1
       exact iz m b π s1 s' e h (iz m a π s s1 _ h1 hc)
     . exact iz m a π s s' e h hc
   | cond c a b =>
     simp only [run] at h
     split at h
     . exact iz m a π s s' e h hc
     . exact iz m b π s s' e h hc
     . simp at h
   | block i c =>
     simp only [run] at h
     split at h
     . rename_i j s1 h1
       have:=iz m c π s s1 _ h1 hc
       split at h<;>(simp only [Option.some.injEq,Prod.mk.injEq] at h;obtain ⟨_,rfl⟩:=h;exact this)
     . exact iz m c π s s' e h hc
   | loop c =>
     simp only [run] at h
     split at h
     . rename_i s1 h1
       exact iz m (.loop c) π s1 s' e h (iz m c π s s1 _ h1 hc)
     . exact iz m c π s s' e h hc
   | reg ps os =>
     simp only [run] at h
     split at h
     . simp at h
     . rename_i rs t L h1
       have:=vI os _ _ _ _ h1 hc
       split at h
       . simp only [Option.some.injEq,Prod.mk.injEq] at h;obtain ⟨_,rfl⟩:=h;exact this
       . split at h
         . simp only [Option.some.injEq,Prod.mk.injEq] at h;obtain ⟨_,rfl⟩:=h;exact this
         . simp at h
open Classical in
theorem PY {S:List (Id × dC)} {L:aK} (hc:Clean S L) (i:Id):(aa.of S).app (ups S L) i=L.to i:=by
 have tF:∀ (a b:List (Id × Option dC)) (σ : aa), σ.app (a++b)=(σ.app a).app b:=by
   intro a
   induction a with
   | nil=>intro b σ;rfl
   | cons x a ih=>intro b σ;simp only [List.cons_append,aa.app];exact ih b _
 unfold ups
 rw [tF]
 generalize hσ : (aa.of S).app ((S.filter fun x=>(L.find x.1).isNone).map (fun x=>(x.1,none))) = σ1
 have PZ:∀ (l:List Id) (σ : aa), σ.app (l.map fun i=>(i,none)) i=if i∈l then none else σ i:=by
   intro l
   induction l with
   | nil=>intro σ;simp [aa.app]
   | cons j l ih =>
     intro σ
     simp only [List.map_cons,aa.app,ih,aa.put]
     by_cases h1:i∈l
     . simp [h1]
     . by_cases h2:i=j<;>simp [h1,h2]
 have h1 : σ1 i=if (∃ b,(i,b)∈S)/\L.find i=none then none else S.lookup i:=by
   rw [<- hσ]
   have:=PZ ((S.filter fun x=>(L.find x.1).isNone).map (·.1)) (aa.of S)
   rw [List.map_map] at this
   have e:((fun i=>(i,(none:Option dC))) ∘ fun x:Id × dC=>x.1)=fun x=>(x.1,none):=rfl
   rw [e] at this
   rw [this]
   have e2:(i∈((S.filter fun x=>(L.find x.1).isNone).map (·.1)))↔((∃ b,(i,b)∈S)/\L.find i=none):=by
     simp only [List.mem_map,List.mem_filter,Option.isNone_iff_eq_none]
     constructor
     . rintro ⟨⟨j,b⟩,⟨h1,h2⟩,rfl⟩;exact ⟨⟨b,h1⟩,h2⟩
     . rintro ⟨⟨b,hb⟩,h2⟩;exact ⟨(i,b),⟨hb,h2⟩,rfl⟩
   by_cases h:(∃ b,(i,b)∈S)/\L.find i=none
   . rw [if_pos h,if_pos (e2.2 h)]
   . rw [if_neg h,if_neg fun hh=>h (e2.1 hh)];rfl
 clear hσ
 -- the written ones
 have key:∀ (L0:aK) (σ : aa),(L0.map (·.1)).Nodup ->
     σ.app ((L0.filter fun x=>x.2.2).map fun x=>(x.1,some x.2.1)) i=match L0.find i with
       | some b=>if (i,b,true)∈L0 then some b else σ i
       | none => σ i:=by
   intro L0
   induction L0 with
   | nil=>intro σ _;rfl
   | cons x L0 ih =>
     intro σ hn
     obtain ⟨j,b,d⟩:=x
     simp only [List.map_cons,List.nodup_cons] at hn
     have ZK:∀ b d,(j,b,d) ∉ L0:=fun b d hm=>hn.1 (List.mem_map.2 ⟨_,hm,rfl⟩)
     have hfj:aK.find L0 j=none:=by
       cases h:aK.find L0 j with
       | none=>rfl
       | some c=>obtain ⟨d,hd⟩:=CQ h;exact absurd hd (ZK c d)
     cases d with
     | false =>
       simp only [Bool.false_eq_true,not_false_eq_true,List.filter_cons_of_neg]
       rw [ih σ hn.2]
       simp only [aK.find]
       by_cases h:i=j
       . subst h
         rw [hfj]
         simp [ZK]
       . simp [h]
     | true =>
       simp only [List.filter_cons_of_pos,List.map_cons,aa.app]
       rw [ih _ hn.2]
       simp only [aK.find]
       by_cases h:i=j
       . subst h
         rw [hfj]
         simp [aa.put]
       . simp [h,aa.put]
 rw [key L σ1 hc.2,h1]
 show _=L.find i
 cases hf:L.find i with
 | none =>
   simp only [and_true]
   split
   . rfl
   . rename_i h
     cases hl:S.lookup i with
     | none=>rfl
     | some b=>exact absurd ⟨b,gn hl⟩ h
 | some b =>
   simp only [reduceCtorEq,and_false,if_false]
   split
   . rfl
   . rename_i h
     obtain ⟨d,hd⟩:=CQ hf
     cases d with
     | true=>exact absurd hd h
     | false=>exact hc.1 i b hd
theorem yI:∀ {S:List (Id × dC)} {x:Id × dC},(S.map (·.1)).Nodup->x∈S->S.lookup x.1=some x.2
 | [],x,_,hx=>by simp at hx
 | (j,c)::S,x,Aw,hx=>by
   simp only [List.map_cons,List.nodup_cons] at Aw
   rcases List.mem_cons.1 hx with rfl | hx
   . simp
   . have hne:x.1≠j:=fun e=>Aw.1 (List.mem_map.2 ⟨x,hx,e⟩)
     rw [List.lookup_cons]
     have:(x.1==j)=false:=by simpa using hne
     rw [this]
     exact yI Aw.2 hx
theorem yJ (hX : k6 P G X) (hT:T.Of P) {R:bX->Id->LS->Option (cD × LS)}
   (hR:∀ c π s e s',R c π s=some (e,s')->VW P G π c (fun e' s2=>e'=e/\s2=s'.to) s.to) (hRc:∀ S c π s e s',R c π s=some (e,s')->Clean S s.L->Clean S s'.L) :
   k6 P G (xO X R T):=by
 intro f args p L r h
 unfold xO at h
 split at h
 . rename_i r' Ag;simp only [Option.some.injEq] at h;subst h;exact hX _ _ _ _ _ Ag
 split at h
 . simp at h
 . rename_i vf hvf
   obtain ⟨fn,hf,hc⟩:=HA.Gi hT hvf
   simp only [] at h
   generalize hS:reach 1000 L (Hz args) []=S at h
   have hSL:∀ x∈S,L.to x.1=some x.2:=by rw [<- hS];exact sE 1000 _ _ (by simp)
   have Aw : (S.map (·.1)).Nodup:=by
     rw [<- hS]
     have:∀ (n:Nat) (is:List Id) (S:List (Id × dC)),(S.map (·.1)).Nodup->((reach n L is S).map (·.1)).Nodup:=by
       intro n
       induction n with
       | zero=>intro is S h;exact h
       | succ n ih =>
         intro is S h
         cases is with
         | nil=>simpa [reach] using h
         | cons i is =>
           simp only [reach]
           split
           . exact ih is S h
           . rename_i hl
             split
             . refine ih _ _ ?_
               simp only [List.map_cons,List.nodup_cons]
               refine ⟨fun hm => ?_,h⟩
               obtain ⟨x,hx,he⟩:=List.mem_map.1 hm
               rw [List.lookup_eq_none_iff] at hl
               have:=hl x hx
               simp [he] at this
             . exact ih is S h
     exact this _ _ _ (by simp)
   have J5:Clean S (S.map fun x=>(x.1,x.2,false)):=by
     refine ⟨fun i b hm => ?_,by simpa [List.map_map,Function.comp_def] using Aw⟩
     obtain ⟨x,hx,he⟩:=List.mem_map.1 hm
     simp only [Prod.mk.injEq,and_true] at he
     obtain ⟨rfl,rfl⟩:=he
     exact yI Aw hx
   have hto:(aK.to (S.map fun x=>(x.1,x.2,false)))=aa.of S:=funext fun i=>EW S i
   have fin:∀ e s,(e=cD.normal∨e = .ret)->R vf.body p ⟨args++List.replicate (vf.nt-args.length) (.tup []),S.map fun x=>(x.1,x.2,false),0⟩=some (e,s) ->
       (match bP vf.results s.to with | some r0=>some ({ val:=r0,rd:=S.map (·.1),up:=ups S (s.L.live (reach 1000 s.L (r0.ids++S.map (·.1)) [])) }:dN) | none=>none)=some r ->
       ∃ S,aB P G f args p S r/\(∀ x∈S,L.to x.1=some x.2)/\∀ x∈S,x.1∈r.rd:=by
     intro e s he hrun CR
     split at CR
     . rename_i r0 VI
       simp only [Option.some.injEq] at CR
       refine ⟨S,aB.VJ hf hc ?_,hSL,fun x hx=>by rw [<- CR];exact List.mem_map.2 ⟨x,hx,rfl⟩⟩
       have hv:=hR _ _ _ _ _ hrun
       have e0:(LS.to ⟨args++List.replicate (vf.nt-args.length) (.tup []),S.map fun x=>(x.1,x.2,false),0⟩)=⟨args++List.replicate (vf.nt-args.length) (.tup []),aa.of S,0⟩:=by
         simp only [LS.to,hto]
       rw [e0] at hv
       refine hv.mono fun e' s2 hq => ?_
       obtain ⟨rfl,rfl⟩:=hq
       refine ⟨he,r0,VI,Fin.same (by rw [<- CR]) fun i => ?_⟩
       rw [<- CR]
       have uU:=hRc S _ _ _ _ _ hrun J5
       have h1:=PY (uU.live (reach 1000 s.L (r0.ids++S.map (·.1)) [])) i
       rw [h1]
       rcases aK.NN s.L (reach 1000 s.L (r0.ids++S.map (·.1)) []) i with h | h
       . exact .inl h
       . exact .inr h
     . simp at CR
   split at h
   . rename_i s hs;exact fin _ s (.inl rfl) hs h
   . rename_i s hs;exact fin _ s (.inr rfl) hs h
   . simp at h
theorem CS {c:bX} {π : Id}:∀ (m:Nat),(∀ m'<m,∀ s s' e,run G X T m' c π s=some (e,s')->VW P G π c (fun e' s2=>e'=e/\s2=s'.to) s.to) ->
   ∀ s s' e,run G X T m (.loop c) π s=some (e,s')->∃ n,VRd P G π c (fun e' s2=>e'=e/\s2=s'.to) n s.to
 | 0,_,_,_,_,h=>by simp [run] at h
 | m + 1,hb,s,s',e,h=>by
   simp only [run] at h
   split at h
   . rename_i s1 h1
     obtain ⟨n,hn⟩:=CS m (fun m' hm=>hb m' (by omega)) s1 s' e h
     refine ⟨n+1,(hb m (by omega) s s1 _ h1).mono fun e' s2 hq => ?_⟩
     obtain ⟨rfl,rfl⟩:=hq
     exact hn
   . rename_i h1
     refine ⟨1,(hb m (by omega) s s' e h).mono fun e' s2 hq => ?_⟩
     obtain ⟨rfl,rfl⟩:=hq
     cases e' with
     | normal=>exact absurd h (h1 _)
     | exit i=>exact ⟨rfl,rfl⟩
     | ret=>exact ⟨rfl,rfl⟩
theorem kv (hX:k6 P G X) (hT:T.Of P):∀ (m:Nat) (c:bX) (π : Id) (s s':LS) (e:cD),run G X T m c π s=some (e,s')->VW P G π c (fun e' s2=>e'=e/\s2=s'.to) s.to
 | 0,_,_,_,_,_,h=>by simp [run] at h
 | m + 1,c, π,s,s',e,h=>by
   cases c with
   | skip=>simp only [run,Option.some.injEq,Prod.mk.injEq] at h;obtain ⟨rfl,rfl⟩:=h;exact VW.skip ⟨rfl,rfl⟩
   | ret=>simp only [run,Option.some.injEq,Prod.mk.injEq] at h;obtain ⟨rfl,rfl⟩:=h;exact VW.ret ⟨rfl,rfl⟩
   | exit i=>simp only [run,Option.some.injEq,Prod.mk.injEq] at h;obtain ⟨rfl,rfl⟩:=h;exact VW.exit ⟨rfl,rfl⟩
   | seq a b =>
     simp only [run] at h
     refine VW.seq ?_
     split at h
     . rename_i s1 h1
       refine (kv hX hT m a π s s1 _ h1).mono fun e' s2 hq => ?_
       obtain ⟨rfl,rfl⟩:=hq
       exact kv hX hT m b π s1 s' e h
     . rename_i h1
       refine (kv hX hT m a π s s' e h).mono fun e' s2 hq => ?_
       obtain ⟨rfl,rfl⟩:=hq
       cases e' with
       | normal=>exact absurd h (h1 _)
       | exit i=>exact ⟨rfl,rfl⟩
       | ret=>exact ⟨rfl,rfl⟩
   | cond c a b =>
     simp only [run] at h
     split at h
     . rename_i hb;exact VW.cond hb (by simpa using kv hX hT m a π s s' e h)
     . rename_i hb;exact VW.cond hb (by simpa using kv hX hT m b π s s' e h)
     . simp at h
   | block i c =>
     simp only [run] at h
     refine VW.block ?_
     split at h
     . rename_i j s1 h1
       refine (kv hX hT m c π s s1 _ h1).mono fun e' s2 hq => ?_
       obtain ⟨rfl,rfl⟩:=hq
       simp only []
       split at h
       . rename_i hj;simp only [Option.some.injEq,Prod.mk.injEq] at h;obtain ⟨rfl,rfl⟩:=h;simp [hj]
       . rename_i hj;simp only [Option.some.injEq,Prod.mk.injEq] at h;obtain ⟨rfl,rfl⟩:=h;simp [hj]
     . rename_i h1
       refine (kv hX hT m c π s s' e h).mono fun e' s2 hq => ?_
       obtain ⟨rfl,rfl⟩:=hq
       cases e' with
       | normal=>exact ⟨rfl,rfl⟩
       | exit i=>exact absurd h (h1 _ _)
       | ret=>exact ⟨rfl,rfl⟩
   | loop c =>
     obtain ⟨n,hn⟩:=CS (m+1) (fun m' hm s s' e hr=>kv hX hT m' c π s s' e hr) s s' e h
     exact VW.rounds n hn
   | reg ps os =>
     simp only [run] at h
     have hC:k6 P G (xO X (run G X T m) T):=yJ hX hT (fun c π s e s' hr=>kv hX hT m c π s s' e hr) (fun _ c π s e s' hr=>iz m c π s s' e hr)
     split at h
     . simp at h
     . rename_i rs t L h1
       cases ps with
       | none =>
         simp only [Option.some.injEq,Prod.mk.injEq] at h
         obtain ⟨rfl,rfl⟩:=h
         exact VW.PQ (Av hC ⟨rfl,rfl⟩ os _ _ _ _ h1)
       | some ps =>
         simp only [] at h
         split at h
         . rename_i zZ
           simp only [Option.some.injEq,Prod.mk.injEq] at h
           obtain ⟨rfl,rfl⟩:=h
           exact VW.PR (Au hC ⟨CP zZ,rfl,rfl⟩ os _ _ _ _ h1)
         . simp at h
 termination_by m=>m
theorem P0 (hX:k6 P G X) (hT:T.Of P) (m:Nat) {f:FuncId} {args:List AV} {p:Id} {L:aK} {r:dN} (h:xO X (run G X T m) T f args p L=some r) :
   ∃ S,aB P G f args p S r/\(∀ x∈S,L.to x.1=some x.2)/\∀ x∈S,x.1∈r.rd :=
 yJ hX hT (fun c π s e s' hr=>kv hX hT m c π s s' e hr) (fun _ c π s e s' hr=>iz m c π s s' e hr) f args p L r h
end
end Go.VL
end

section
namespace Go.VL
open Go.RowKit
theorem aB.vJ {P:Program} {G:Nat->Option (List AV)} {f:FuncId} {fn:Func} (hf:P.funcs[f]? = some fn) (sC:(fn.name == "runtime.NumGoroutine")=false) (hb:fn.body.isSome=true) {args:List AV} {p:Id} {S:List (Id × dC)} {val:AV} {rd:List Id}
   (h:∀ own E w σ vs,(∀ x∈S, σ x.1=some x.2)->Inv G own E w σ -> aM E w args vs->Calls P f vs.toArray w fun e w'=>∃ v,e = .returned v/\Below w.heap.size w w'/\Lw val v) :
   aB P G f args p S { val,rd }:=by
 refine ⟨⟨fn,hf,sC,hb⟩,fun own E w σ vs hS hi hr _=>(h own E w σ vs hS hi hr).mono fun e w' he => ?_⟩
 obtain ⟨v,rfl,hB,hv⟩:=he
 have gr:Adv own E E w w':=⟨⟨fun _ _ h=>h,fun _ h=>h,fun b hb=>hB.block b (hi.okb b hb)⟩,hB.os,hB.tape,hB.output,hB.size,fun k hk _=>hB.block k hk,fun _ h => .inl h⟩
 refine ⟨v,E,rfl,gr, ?_,hv E w',fun _ _=>rfl⟩
 refine hi.keep gr rfl (fun b hb=>Nat.lt_of_lt_of_le (hi.okb b hb) hB.size) fun id bk g N hs hm => ?_
 obtain ⟨g',N',cur,ty,uJ⟩:=hi.blk id bk hs
 rw [uJ.μ] at hm
 simp only [Option.some.injEq,Prod.mk.injEq] at hm
 obtain ⟨rfl,_,rfl⟩:=hm
 exact ⟨hB.block _ (dH uJ.heap),uJ.no⟩
theorem P1 {G:Nat->Option (List AV)} {own:Nat->Prop} {E:Env} {w:World} {σ : aa} (hi:Inv G own E w σ) {x:AV} {v:Value} (hx:aL E w x v) {k:IntKind} {zs:List Int} {rd:List Id} (h:dA σ 1 x=some (zs.map (AV.int k),rd)) :
   ∃ a cap,v = .slice a zs.length cap/\zs.length<=cap/\(zs=[]∨∃ b o,a=some ⟨b,o,none⟩/\b<w.heap.size/\∀ j,j<zs.length->w.cell? ⟨b,o+j,none⟩=some (.int k (zs[j]?.getD 0))):=by
 obtain ⟨_,a,cap,rfl,hle,hr⟩:=wK hi hx h
 refine ⟨a,cap,by simp,by simpa using hle, ?_⟩
 rcases hr with hr | ⟨b,o,rfl,hr⟩
 . left;simpa using hr
 . cases zs with
   | nil=>exact .inl rfl
   | cons z zs =>
     right
     have Cp:flat ((z::zs).map (AV.int k))=(z::zs).map (AV.int k):=by
       generalize z::zs=l
       induction l with
       | nil=>rfl
       | cons y l ih=>simp only [List.map_cons,flat,List.flatMap_cons,AV.cells] at ih ⊢;rw [ih];rfl
     rw [Cp] at hr
     have hc:∀ j,j<(z::zs).length->w.cell? ⟨b,o+j,none⟩=some (.int k ((z::zs)[j]?.getD 0)):=by
       intro j hj
       obtain ⟨v,h1,h2⟩:=hr j (.int k (z::zs)[j]) (by rw [List.getElem?_map,List.getElem?_eq_getElem hj];rfl)
       simp only [aL] at h2
       subst h2
       rw [h1,List.getElem?_eq_getElem hj];rfl
     refine ⟨b,o,rfl, ?_,hc⟩
     have:=hc 0 (by simp)
     cases hh:w.heap[b]? with
     | none=>simp [World.cell?,hh] at this
     | some ob=>exact (Array.getElem?_eq_some_iff.1 hh).1
end Go.VL
end

section
namespace Go.VL
def dC.fz (b:dC):dC:={ b with fr:=true }
def rC (S:List (Id × dC)):List (Id × Option dC):=S.map fun x=>(x.1,some x.2.fz)
open Classical in
theorem Ca {σ : aa} (i:Id):∀ (S:List (Id × dC)) (σ0:aa),(∀ x∈S, σ x.1=some x.2) -> σ0.app (rC S) i=if ∃ x∈S,x.1=i then (σ i).map dC.fz else σ0 i
 | [], σ0,_=>by simp [rC,aa.app]
 | x :: S, σ0,h=>by
   show aa.app (σ0.put x.1 (some x.2.fz)) (rC S) i=_
   rw [Ca i S _ fun y hy=>h y (List.mem_cons_of_mem _ hy)]
   by_cases h1:∃ y∈S,y.1=i
   . rw [if_pos h1,if_pos]
     obtain ⟨y,hy,e⟩:=h1
     exact ⟨y,List.mem_cons_of_mem _ hy,e⟩
   . rw [if_neg h1]
     by_cases h2:i=x.1
     . subst h2
       rw [if_pos ⟨x,by simp,rfl⟩,h x (by simp),aa.a8];rfl
     . rw [if_neg,aa.bg _ _ _ h2]
       rintro ⟨y,hy,e⟩
       rcases List.mem_cons.1 hy with rfl | hy
       . exact h2 e.symm
       . exact h1 ⟨y,hy,e⟩
theorem Ax {S:List (Id × dC)} {σ : aa} (hS:∀ x∈S, σ x.1=some x.2) {x:Id × dC} (hx:x∈S):aa.of S x.1=some x.2:=by
 cases hl:S.lookup x.1 with
 | none =>
   rw [List.lookup_eq_none_iff] at hl
   have:=hl x hx
   simp at this
 | some b =>
   have:=hS _ (gn hl)
   rw [hS x hx] at this
   show S.lookup x.1=_
   rw [hl];exact this.symm
section
variable {P:Program} {G:Nat->Option (List AV)}
theorem Inv.froze {own:Nat->Prop} {E:Env} {w:World} {σ : aa} {S:List (Id × dC)} (hi:Inv G own E w σ) (hS:∀ x∈S, σ x.1=some x.2) :
   Inv G (fun k=>w.heap.size<=k) (E.froze (aa.of S)) w (fun _=>none) where
 okb := by
   rintro b (hb | ⟨id,bk,k,N,hs,hm⟩)
   . exact hi.okb b hb
   . obtain ⟨g,N',cur,ty,hB⟩:=hi.blk id bk (hS _ (gn hs))
     rw [hB.μ] at hm
     simp only [Option.some.injEq,Prod.mk.injEq] at hm
     rw [<- hm.1];exact dH hB.heap
 blk:=fun id bk h=>by simp at h
 inj:=fun i j x y h=>absurd rfl h
 glob:=fun g cs hg=>by
   obtain ⟨h1,h2⟩:=hi.glob g cs hg
   exact ⟨.inl h1,cm.keep (⟨fun _ _ h=>h,fun _ h => .inl h,fun _ _=>rfl⟩:Step E.bare (E.froze (aa.of S)).bare w w) rfl cs 0 h2⟩
 new:=fun k hk=>hk
theorem aB.LJ {f:FuncId} {args gv:List AV} {r:AV} {p:Id} {S:List (Id × dC)} (h:VP P G f gv r) (hv:aW (aa.of S) args gv) :
   aB P G f args p S { val:=r,rd:=S.map (·.1),up:=rC S }:=by
 refine ⟨h.1,fun own E w σ vs hS hi hr hμ => ?_⟩
 have Ag:=hv.rB (hi.sub (aa.vG hS)) hr
 refine (h.2 w vs _ (hi.froze hS) Ag).mono fun e w' he => ?_
 obtain ⟨v,ok',rfl,had,mo,hv'⟩:=he
 have gr:Adv own E ⟨E.μ,ok'⟩ w w':=by
   refine ⟨⟨fun _ _ h=>h,fun b hb=>had.step.ok b (.inl hb),fun b hb=>had.step.same b (.inl hb)⟩,had.os,had.tape,had.output,had.size,fun k hk _=>had.block k hk (by omega),fun b hb => ?_⟩
   rcases had.Tq b hb with (h1 | ⟨id,bk,k,N,hs,hm⟩) | h1
   . exact .inl h1
   . obtain ⟨g,N',cur,ty,hB⟩:=hi.blk id bk (hS _ (gn hs))
     rw [hB.μ] at hm
     simp only [Option.some.injEq,Prod.mk.injEq] at hm
     rw [<- hm.1];exact .inr hB.own
   . exact .inr (hi.new b h1)
 refine ⟨v,⟨E.μ,ok'⟩,rfl,gr, ?_,aL.keep (⟨fun _ _ h=>by simp at h,fun _ h=>h,fun _ _=>rfl⟩:Step ⟨fun _=>none,ok'⟩ ⟨E.μ,ok'⟩ w' w') r v hv',fun _ _=>rfl⟩
 have Ej:=fun i=>Ca (σ := σ) i S σ hS
 refine ⟨mo,fun id bk hs => ?_,fun i j x y jc hj' hne hx hy => ?_,fun g cs hg => ?_,fun k hk=>hi.new k (Nat.le_trans had.size hk)⟩
 . have l8 : σ.app (rC S) id=some bk:=hs
   rw [Ej id] at l8
   split at l8
   . rename_i vA
     obtain ⟨x,hx,rfl⟩:=vA
     rw [hS x hx] at l8
     simp only [Option.map_some,Option.some.injEq] at l8
     subst l8
     obtain ⟨g,N,cur,ty,hB⟩:=hi.blk _ _ (hS x hx)
     have hb:=had.block g (dH hB.heap) (by have:=dH hB.heap;omega)
     exact ⟨g,N,cur,ty,hB.μ,hb.trans hB.heap,hB.size,hB.len,hB.most,hB.own,fun _=>had.step.ok g (.inr ⟨x.1,x.2,x.2.k,N,Ax hS hx,hB.μ⟩),fun hf=>by simp [dC.fz] at hf,hB.k,gP.keep gr.step hb hB.row⟩
   . rename_i P2
     obtain ⟨g,N,cur,ty,hB⟩:=hi.blk _ _ l8
     have hg:=dH hB.heap
     refine ⟨g,N,cur,ty,hB.keep gr.step (had.block g hg (by omega)) fun hf hb => ?_⟩
     rcases had.Tq g hb with (h1 | ⟨VE,bk2,k2,N2,z6,tp⟩) | h1
     . exact hB.no hf h1
     . have hm:=gn z6
       refine hi.inj id VE _ _ (by simp [l8]) (by simp [hS _ hm]) ?_ hB.μ tp rfl
       rintro rfl
       exact P2 ⟨_,hm,rfl⟩
     . omega
 . have keep:∀ i, σ.app (rC S) i≠none -> σ i≠none:=by
     intro i hn he
     apply hn
     rw [Ej i,he]
     split<;>rfl
   exact hi.inj i j x y (keep i jc) (keep j hj') hne hx hy
 . obtain ⟨h1,h2⟩:=hi.glob g cs hg
   exact ⟨gr.step.ok g h1,cm.keep gr.step.bare (gr.step.same g h1) cs 0 h2⟩
theorem aB.of_flat {f:FuncId} {args gv:List AV} {r:AV} {p:Id} {S:List (Id × dC)} (h:VP P G f gv r) (hv:aW (aa.of S) args gv) (hf:b7 r) :
   aB P G f args p S { val:=r,rd:=S.map (·.1) }:=by
 refine ⟨h.1,fun own E w σ vs hS hi hr hμ => ?_⟩
 have Ag:=hv.rB (hi.sub (aa.vG hS)) hr
 refine (h.2 w vs _ (hi.froze hS) Ag).mono fun e w' he => ?_
 obtain ⟨v,ok',rfl,had,mo,hv'⟩:=he
 have gr:Adv own E E w w':=⟨⟨fun _ _ h=>h,fun b hb=>hb,fun b hb=>had.step.same b (.inl hb)⟩,had.os,had.tape,had.output,had.size,fun k hk _=>had.block k hk (by omega),fun b hb => .inl hb⟩
 refine ⟨v,E,rfl,gr, ?_,hf _ _ _ _ _ hv',fun _ _=>rfl⟩
 refine hi.keep gr rfl (fun b hb=>Nat.lt_of_lt_of_le (hi.okb b hb) had.size) fun id bk g N hs hm => ?_
 obtain ⟨g',N',cur,ty,uJ⟩:=hi.blk id bk hs
 rw [uJ.μ] at hm
 simp only [Option.some.injEq,Prod.mk.injEq] at hm
 obtain ⟨rfl,_,rfl⟩:=hm
 have hg:=dH uJ.heap
 exact ⟨had.block _ hg (by omega),uJ.no⟩
def NP (S:List (Id × dC)):List AV->List AV->Prop
 | [],[]=>True
 | c::cs,d::ds=>(d = .top∨d=c∨View (aa.of S) c d)/\NP S cs ds
 | _,_=>False
theorem NP.rep {own:Nat->Prop} {E:Env} {w:World} {S:List (Id × dC)} (hi:Inv G own E w (aa.of S)):∀ {cs ds:List AV} {vs:List Value},NP S cs ds->aM E w cs vs->aM ⟨E.μ,(E.froze (aa.of S)).ok⟩ w ds vs
 | [],[],_,_,h=>by simpa [aM] using h
 | c::cs,d::ds,vs,hf,h=>by
   simp only [NP] at hf
   simp only [aM] at h ⊢
   obtain ⟨v,rest,e,h1,h2⟩:=h
   refine ⟨v,rest,e, ?_,NP.rep hi hf.2 h2⟩
   rcases hf.1 with rfl | rfl | hv
   . simp [aL]
   . exact aL.keep (⟨fun _ _ h=>h,fun _ h => .inl h,fun _ _=>rfl⟩:Step E ⟨E.μ,(E.froze (aa.of S)).ok⟩ w w) _ v h1
   . exact aL.keep (⟨fun _ _ h=>by simp [Env.froze] at h,fun _ h=>h,fun _ _=>rfl⟩:Step (E.froze (aa.of S)) ⟨E.μ,(E.froze (aa.of S)).ok⟩ w w) _ v (hv _ _ _ _ _ hi h1)
 | [],_::_,_,h,_=>by simp [NP] at h
 | _::_,[],_,h,_=>by simp [NP] at h
theorem Wk.freeze {π : Id} {t t':List AV} {σ σ':aa} {n n':Nat} (S:List (Id × dC)) (hS:∀ x∈S, σ x.1=some x.2) (ht:NP S t t')
   (hs:∀ id, σ' id=none ∨ σ' id = σ.app (rC S) id) (hn:n<=n'):Wk G π ⟨t, σ,n⟩ ⟨t', σ',n'⟩:=fun own E w a hm=>by
 have hi:=hm.inv
 let E':Env:=⟨E.μ,(E.froze (aa.of S)).ok⟩
 have gr:Adv own E E' w w:=by
   refine ⟨⟨fun _ _ h=>h,fun b hb => .inl hb,fun b hb=>rfl⟩,rfl,rfl,rfl,Nat.le_refl _,fun k hk _=>rfl,fun b hb => ?_⟩
   rcases hb with h1 | ⟨id,bk,k,N,hs,hm⟩
   . exact .inl h1
   . obtain ⟨g,N',cur,ty,hB⟩:=hi.blk id bk (hS _ (gn hs))
     rw [hB.μ] at hm
     simp only [Option.some.injEq,Prod.mk.injEq] at hm
     rw [<- hm.1];exact .inr hB.own
 refine ⟨E',⟨gr,fun _ _=>rfl⟩,ht.rep (hi.sub (aa.vG hS)) hm.frame, ?_,hm.free.mono hn,hm.defers⟩
 refine Inv.sub (σ := σ.app (rC S)) ?_ hs
 have Ej:=fun i=>Ca (σ := σ) i S σ hS
 refine ⟨(hi.froze hS).okb,fun id bk hs => ?_,fun i j x y jc hj' hne hx hy => ?_,fun g cs hg => ?_,hi.new⟩
 . have l8 : σ.app (rC S) id=some bk:=hs
   rw [Ej id] at l8
   split at l8
   . rename_i vA
     obtain ⟨x,hx,rfl⟩:=vA
     rw [hS x hx] at l8
     simp only [Option.map_some,Option.some.injEq] at l8
     subst l8
     obtain ⟨g,N,cur,ty,hB⟩:=hi.blk _ _ (hS x hx)
     exact ⟨g,N,cur,ty,hB.μ,hB.heap,hB.size,hB.len,hB.most,hB.own,fun _ => .inr ⟨x.1,x.2,x.2.k,N,Ax hS hx,hB.μ⟩,fun hf=>by simp [dC.fz] at hf,hB.k,gP.keep gr.step rfl hB.row⟩
   . rename_i P2
     obtain ⟨g,N,cur,ty,hB⟩:=hi.blk _ _ l8
     have hg:=dH hB.heap
     refine ⟨g,N,cur,ty,hB.keep gr.step rfl fun hf hb => ?_⟩
     rcases hb with h1 | ⟨VE,bk2,k2,N2,z6,tp⟩
     . exact hB.no hf h1
     . have hm:=gn z6
       refine hi.inj id VE _ _ (by simp [l8]) (by simp [hS _ hm]) ?_ hB.μ tp rfl
       rintro rfl
       exact P2 ⟨_,hm,rfl⟩
 . have keep:∀ i, σ.app (rC S) i≠none -> σ i≠none:=by
     intro i hn he
     apply hn
     rw [Ej i,he]
     split<;>rfl
   exact hi.inj i j x y (keep i jc) (keep j hj') hne hx hy
 . obtain ⟨h1,h2⟩:=hi.glob g cs hg
   exact ⟨gr.step.ok g h1,cm.keep gr.step.bare (gr.step.same g h1) cs 0 h2⟩
end
end Go.VL
end

section
namespace Go.VL
def fnB:Fn->Fn->Bool
 | .func a, .func b=>a==b
 | _,_=>false
theorem W6:∀ {a b:Fn},fnB a b=true->a=b:=by
 intro a b h
 cases a<;>cases b<;>simp [fnB] at h
 subst h;rfl
mutual
def EY:AV->AV->Bool
 | .bool a, .bool b=>a==b
 | .int k n, .int k' n'=>decide (k=k')&&n==n'
 | .str a, .str b=>a==b
 | .nilp, .nilp=>true
 | .nilf, .nilf=>true
 | .fn f a c, .fn f' a' c'=>fnB f f'&&yK a a'&&yK c c'
 | .agg a, .agg b=>yK a b
 | .tup a, .tup b=>yK a b
 | .sl k a, .sl k' b=>k==k'&&yK a b
 | .tsl k a, .tsl k' b=>k==k'&&yK a b
 | .nils, .nils=>true
 | .osl i k o l t, .osl i' k' o' l' t'=>i==i'&&k==k'&&o==o'&&l==l'&&t==t'
 | .ref i e o, .ref i' e' o'=>i==i'&&e==e'&&o==o'
 | .ep a o, .ep b o'=>yK a b&&o==o'
 | .top, .top=>true
 | .anyb, .anyb=>true
 | .ige n, .ige m=>n==m
 | _,_=>false
def yK:List AV->List AV->Bool
 | [],[]=>true
 | a::as,b::bs=>EY a b&&yK as bs
 | _,_=>false
end
mutual
theorem P3:∀ {a b:AV},EY a b=true->a=b
 | .bool a,b,h=>by cases b<;>simp [EY] at h;subst h;rfl
 | .int k n,b,h=>by cases b<;>simp [EY] at h;obtain ⟨rfl,rfl⟩:=h;rfl
 | .str a,b,h=>by cases b<;>simp [EY] at h;subst h;rfl
 | .nilp,b,h=>by cases b<;>simp [EY] at h;rfl
 | .nilf,b,h=>by cases b<;>simp [EY] at h;rfl
 | .fn f a c,b,h=>by
   cases b<;>simp [EY] at h
   obtain ⟨⟨h1,h2⟩,h3⟩:=h
   rw [W6 h1,oo h2,oo h3]
 | .agg a,b,h=>by cases b<;>simp [EY] at h;rw [oo h]
 | .tup a,b,h=>by cases b<;>simp [EY] at h;rw [oo h]
 | .sl k a,b,h=>by cases b<;>simp [EY] at h;obtain ⟨rfl,h⟩:=h;rw [oo h]
 | .tsl k a,b,h=>by cases b<;>simp [EY] at h;obtain ⟨rfl,h⟩:=h;rw [oo h]
 | .nils,b,h=>by cases b<;>simp [EY] at h;rfl
 | .osl i k o l t,b,h=>by cases b<;>simp [EY] at h;obtain ⟨⟨⟨⟨rfl,rfl⟩,rfl⟩,rfl⟩,rfl⟩:=h;rfl
 | .ref i e o,b,h=>by cases b<;>simp [EY] at h;obtain ⟨⟨rfl,rfl⟩,rfl⟩:=h;rfl
 | .ep a o,b,h=>by cases b<;>simp [EY] at h;obtain ⟨h,rfl⟩:=h;rw [oo h]
 | .top,b,h=>by cases b<;>simp [EY] at h;rfl
 | .anyb,b,h=>by cases b<;>simp [EY] at h;rfl
 | .ige n,b,h=>by cases b<;>simp [EY] at h;subst h;rfl
theorem oo:∀ {a b:List AV},yK a b=true->a=b
 | [],[],_=>rfl
 | x::xs,y::ys,h=>by simp only [yK,Bool.and_eq_true] at h;rw [P3 h.1,oo h.2]
 | [],_::_,h=>by simp [yK] at h
 | _::_,[],h=>by simp [yK] at h
end
def TW (a b:dC):Bool:=yK a.els b.els&&a.k==b.k&&a.fr==b.fr
theorem LK {a b:dC} (h:TW a b=true):a=b:=by
 obtain ⟨x,y,z⟩:=a;obtain ⟨x',y',z'⟩:=b
 simp only [TW,Bool.and_eq_true,beq_iff_eq] at h
 obtain ⟨⟨h1,rfl⟩,rfl⟩:=h
 rw [oo h1]
def YT:List (Id × dC)->List (Id × dC)->Bool
 | [],[]=>true
 | (i,a)::as,(j,b)::bs=>i==j&&TW a b&&YT as bs
 | _,_=>false
theorem P4:∀ {a b:List (Id × dC)},YT a b=true->a=b
 | [],[],_=>rfl
 | (i,x)::xs,(j,y)::ys,h=>by
   simp only [YT,Bool.and_eq_true,beq_iff_eq] at h
   obtain ⟨⟨rfl,h1⟩,h2⟩:=h
   rw [LK h1,P4 h2]
 | [],_::_,h=>by simp [YT] at h
 | _::_,[],h=>by simp [YT] at h
structure HB where
 f:FuncId
 p:Id
 args:List AV
 S:List (Id × dC)
 r:dN
def yL (ms:List HB) (f:FuncId) (args:List AV) (p:Id) (L:aK):Option dN :=
 match ms with
 | []=>none
 | m::ms=>if m.f=f/\m.p=p/\yK m.args args=true/\YT m.S (reach 1000 L (Hz args) [])=true then some m.r else yL ms f args p L
def xP (P:Program) (G:Nat->Option (List AV)) (m:HB):Prop:=∃ S,aB P G m.f m.args m.p S m.r/\(∀ x∈S,aa.of m.S x.1=some x.2)/\∀ x∈S,x.1∈m.r.rd
theorem CT {P:Program} {G:Nat->Option (List AV)}:∀ {ms:List HB},(∀ m∈ms,xP P G m)->k6 P G (yL ms)
 | [],_,_,_,_,_,_,h=>by simp [yL] at h
 | m :: ms,hm,f,args,p,L,r,h=>by
   simp only [yL] at h
   split at h
   . rename_i hh
     obtain ⟨rfl,rfl,h1,h2⟩:=hh
     simp only [Option.some.injEq] at h;subst h
     have e1:=oo h1;subst e1
     have e2:=P4 h2
     obtain ⟨S,h3,h4,h5⟩:=hm m (by simp)
     exact ⟨S,h3,fun x hx=>by have:=gn (h4 x hx);rw [e2] at this;exact sE 1000 _ _ (by simp) _ this,h5⟩
   . exact CT (fun x hx=>hm x (List.mem_cons_of_mem _ hx)) f args p L r h
def P5:List (Id × Option dC)->List (Id × Option dC)->Bool
 | [],[]=>true
 | (i,some a)::as,(j,some b)::bs=>i==j&&TW a b&&P5 as bs
 | (i,none)::as,(j,none)::bs=>i==j&&P5 as bs
 | _,_=>false
theorem Kk:∀ {a b:List (Id × Option dC)},P5 a b=true->a=b
 | [],[],_=>rfl
 | (i,some x)::xs,(j,some y)::ys,h=>by
   simp only [P5,Bool.and_eq_true,beq_iff_eq] at h
   obtain ⟨⟨rfl,h1⟩,h2⟩:=h
   rw [LK h1,Kk h2]
 | (i,none)::xs,(j,none)::ys,h=>by
   simp only [P5,Bool.and_eq_true,beq_iff_eq] at h
   obtain ⟨rfl,h2⟩:=h
   rw [Kk h2]
 | (_,some _)::_,(_,none)::_,h=>by simp [P5] at h
 | (_,none)::_,(_,some _)::_,h=>by simp [P5] at h
 | [],_::_,h=>by simp [P5] at h
 | (_,some _)::_,[],h=>by simp [P5] at h
 | (_,none)::_,[],h=>by simp [P5] at h
def TX (o:Option dN) (r:dN):Bool:=match o with
 | some x=>EY x.val r.val&&x.rd==r.rd&&P5 x.up r.up
 | none=>false
theorem TY {o:Option dN} {r:dN} (h:TX o r=true):o=some r:=by
 unfold TX at h
 split at h
 . rename_i x
   obtain ⟨a,b,c⟩:=x;obtain ⟨a',b',c'⟩:=r
   simp only [Bool.and_eq_true,beq_iff_eq] at h
   obtain ⟨⟨h1,rfl⟩,h3⟩:=h
   rw [P3 h1,Kk h3]
 . simp at h
theorem xP.run {P:Program} {G:Nat->Option (List AV)} {X:FuncId->List AV->Id->aK->Option dN} (hX:k6 P G X) {T:HA} (hT:T.Of P) (n:Nat) (m:HB)
   (h:TX (xO X (run G X T n) T m.f m.args m.p (m.S.map fun x=>(x.1,x.2,false))) m.r=true):xP P G m:=by
 obtain ⟨S,h1,h2,h3⟩:=P0 hX hT n (TY h)
 exact ⟨S,h1,fun x hx=>by have:=h2 x hx;rwa [show aK.to (m.S.map fun x=>(x.1,x.2,false))=aa.of m.S from funext fun i=>EW m.S i] at this,h3⟩
theorem k6.or {P:Program} {G:Nat->Option (List AV)} {A B:FuncId->List AV->Id->aK->Option dN} (ha:k6 P G A) (hb:k6 P G B) :
   k6 P G fun f args p L=>match A f args p L with | some r=>some r | none=>B f args p L:=by
 intro f args p L r h
 simp only [] at h
 split at h
 . rename_i r' hr;simp only [Option.some.injEq] at h;subst h;exact ha _ _ _ _ _ hr
 . exact hb _ _ _ _ _ h
end Go.VL
end

section
namespace Go.VL
section
variable {P:Program} {G:Nat->Option (List AV)}
theorem VP.wN {f:FuncId} {args:List AV} {r:dN} (h:aB P G f args [] [] r) (hf:b7 r.val):VP P G f args r.val:=by
 refine ⟨h.1,fun w vs ok hi hr => ?_⟩
 refine (h.2 _ _ w _ vs (by simp) hi hr (fun _ _=>rfl)).mono fun e w' he => ?_
 obtain ⟨v,E',rfl,hp⟩:=he
 refine ⟨v,ok,rfl,⟨⟨fun _ _ h=>h,fun _ h=>h,hp.Cr.step.same⟩,hp.Cr.os,hp.Cr.tape,hp.Cr.output,hp.Cr.size,hp.Cr.block,fun _ h => .inl h⟩,fun b hb => ?_,hf _ _ _ _ _ hp.rep⟩
 exact Nat.lt_of_lt_of_le (hi.okb b hb) hp.Cr.size
theorem VP.TZ {m:HB} (h:xP P G m) (hS:m.S=[]) (hp:m.p=[]) (hf:b7 m.r.val):VP P G m.f m.args m.r.val:=by
 obtain ⟨S,h1,h2,_⟩:=h
 have:S=[]:=by
   cases S with
   | nil=>rfl
   | cons x S=>have:=h2 x (by simp);rw [hS] at this;simp [aa.of] at this
 subst this
 rw [hp] at h1
 exact VP.wN h1 hf
end
end Go.VL
end
