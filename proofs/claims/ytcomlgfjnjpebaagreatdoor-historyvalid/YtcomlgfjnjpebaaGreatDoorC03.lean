/- For the claim of HistoryValid: parts VL15, VL16, VL17, VL18, VL19, VL20, VL21, VL22, VL24, VL23, VL25. -/
import Derived.Test.YtcomlgfjnjpebaaGreatDoorC02
import Derived.LoopN
set_option linter.unusedSimpArgs false
set_option linter.unusedVariables false
section
namespace Go.VL
theorem Aa {X Y:Nat->Bool}:∀ (L:List Done) (i:Nat) (t:List AV),(∀ k,k<L.length->X (i+k)=Y (i+k))->eP X L i t=eP Y L i t
 | [],_,_,_=>rfl
 | (d,r)::L,i,t,h=>by
   simp only [eP]
   have h0:=h 0 (by simp)
   rw [Nat.add_zero] at h0
   rw [h0]
   exact Aa L (i+1) _ (fun k hk=>by rw [show i+1+k=i+(k+1) from by omega];exact h (k+1) (by simpa using hk))
theorem Ab {X Y:Nat->Bool}:∀ (L:List Done) (i:Nat) (σ : aa),(∀ k,k<L.length->X (i+k)=Y (i+k))->gu X L i σ = gu Y L i σ
 | [],_,_,_=>rfl
 | (d,r)::L,i,t,h=>by
   simp only [gu]
   have h0:=h 0 (by simp)
   rw [Nat.add_zero] at h0
   rw [h0]
   exact Ab L (i+1) _ (fun k hk=>by rw [show i+1+k=i+(k+1) from by omega];exact h (k+1) (by simpa using hk))
theorem EE {X Y:Nat->Bool} {i:Nat} (hX:X i=false) (hY:Y i=true) (hXY:∀ k,X k=true->Y k=true):∀ (l:List Nat),i∈l->l.countP X<l.countP Y
 | [],h=>by simp at h
 | a :: l,h=>by
   have hle:l.countP X<=l.countP Y:=List.countP_mono_left fun x _ hx=>hXY x hx
   simp only [List.countP_cons]
   rcases List.mem_cons.1 h with rfl | h
   . simp [hX,hY];omega
   . have:=EE hX hY hXY l h
     by_cases ha:X a=true
     . simp [ha,hXY a ha];omega
     . simp [ha];split<;>omega
theorem Cv {X:Nat->Bool}:∀ (l:List Nat),l.length<=l.countP X->∀ i∈l,X i=true
 | [],_,i,h=>by simp at h
 | a :: l,hc,i,h=>by
   have hle:=List.countP_le_length (p:=X) (l:=l)
   simp only [List.countP_cons,List.length_cons] at hc
   by_cases ha:X a=true
   . simp only [ha,if_true] at hc
     rcases List.mem_cons.1 h with rfl | h
     . exact ha
     . exact Cv l (by omega) i h
   . simp [ha] at hc;omega
section
variable {P:Program} {G:Nat->Option (List AV)} {own:Nat->Prop}
theorem yA {n i j:Nat} (Ka:i<j) (hj:j<n):(i,j)∈yn n:=by
 unfold yn
 rw [List.mem_flatMap]
 exact ⟨j,List.mem_range.2 hj,List.mem_map.2 ⟨i,List.mem_range.2 Ka,rfl⟩⟩
structure Mid (G:Nat->Option (List AV)) (π : Id) (own:Nat->Prop) (L:List Done) (base n:Nat) (t0:List AV) (σ0:aa) (a0:Act) (E0:Env) (w0:World) (X:Nat->Bool) (E:Env) (w:World) (a:Act):Prop where
 frame:cn E w (eP X L 0 t0) a
 inv:Inv G own E w (gu X L 0 σ0)
 Ch:ky own π E0 E w0 w
 free:∀ i,i<n->X i=false->∀ j,((base+i) :: π) <:+ j->E.μ j=none
 more:xJ E π (base+n)
 defers:a.defers=a0.defers
theorem Nz {ops:Array Oper} {vs:List bp} (Lu:ops.toList.mapM (xl P ops)=some vs) (PI:BZ vs (ops.toList.map xm)=true)
   {π : Id} {base:Nat} {t0:List AV} {σ0:aa} {rs:List dN} (Zl:rs.length=vs.length)
   (hst:∀ k o r,vs[k]? = some o->rs[k]? = some r->yy P G π base o (0+k) (eP (fun m=>m<0+k) ((vs.map (·.dst)).zip rs) 0 t0) (gu (fun m=>m<0+k) ((vs.map (·.dst)).zip rs) 0 σ0) r)
   (zO:ar rs (wE vs (ops.toList.map xm))) {a0:Act} {E0:Env} {w0:World} {Q:Exit->Act->World->Prop}
   (hQ:∀ a E w,Mid G π own ((vs.map (·.dst)).zip rs) base ops.size t0 σ0 a0 E0 w0 (fun _=>true) E w a->Q .normal a w) :
   ∀ (fuel:Nat) (listed:Array Bool) (a:Act) (E:Env) (w:World),listed.size=ops.size->ops.size<=(List.range ops.size).countP (fun i=>listed.getD i false)+fuel ->
     (∀ k,k<ops.size->listed.getD k false=true->∀ e∈(ops.toList.map xm).getD k [],listed.getD e false=true) ->
     Mid G π own ((vs.map (·.dst)).zip rs) base ops.size t0 σ0 a0 E0 w0 (fun i=>listed.getD i false) E w a->wpAny P .any ops Q fuel listed a w:=by
 have uF:vs.length=ops.size:=by have:=gQ Lu;simpa using this
 generalize hL:(vs.map (·.dst)).zip rs=L at *
 have hLl:L.length=ops.size:=by rw [<- hL];simp [Zl,uF]
 have Lv:∀ (k:Nat) (d:Option Nat) (r:dN),L[k]? = some (d,r)↔∃ o:bp,vs[k]? = some o/\o.dst=d/\rs[k]? = some r:=by
   intro k d r
   rw [<- hL,List.getElem?_zip_eq_some]
   simp only [List.getElem?_map,Option.map_eq_some_iff]
   constructor
   . rintro ⟨⟨o,h1,h2⟩,h3⟩;exact ⟨o,h1,h2,h3⟩
   . rintro ⟨o,h1,h2,h3⟩;exact ⟨⟨o,h1,h2⟩,h3⟩
 generalize Zm:ops.toList.map xm=po at *
 have agq:po.length=ops.size:=by rw [<- Zm];simp
 unfold BZ at PI
 simp only [Bool.and_eq_true,List.all_eq_true] at PI
 obtain ⟨⟨_,hlt⟩,WJ⟩:=PI
 have WK:∀ j,j<ops.size->∀ e∈po.getD j [],e<j:=by
   intro j hj e he
   have:=hlt j (List.mem_range.2 (by rw [uF];exact hj)) e he
   simpa using this
 have uT:∀ (i j:Nat) (a b:bp),i<j->vs[i]? = some a->vs[j]? = some b->A2 a b=true->((jE po []).getD j 0).testBit i=true:=by
   intro i j a b Ka ha hb hc
   have hj:j<vs.length:=(List.getElem?_eq_some_iff.1 hb).1
   have:=WJ (i,j) (yA Ka hj)
   simp only [ha,hb,hc,Bool.not_true,Bool.false_or] at this
   exact this
 have yz:∀ (i j:Nat) (a b:bp),i<j->vs[i]? = some a->vs[j]? = some b->a.op.pure=false->b.op.pure=false->(a.op.rf&&b.op.rf)=false->((jE po []).getD j 0).testBit i=false->∀ (x y:dN),rs[i]? = some x->rs[j]? = some y->apart x y:=by
   intro i j a b Ka ha hb hpa hpb Tc hm x y hx hy
   have hj:j<vs.length:=(List.getElem?_eq_some_iff.1 hb).1
   refine zO (i,j) ?_ x y hx hy
   unfold wE
   rw [List.mem_filter]
   exact ⟨yA Ka hj,by simp only [ha,hb,hpa,hpb,Tc,hm];rfl⟩
 -- an operation that touches a block is not pure
 have touch:∀ (k:Nat) (o:bp) (r:dN),vs[k]? = some o->rs[k]? = some r->(r.rd≠[]∨r.up≠[])->o.op.pure=false:=by
   intro k o r ho hr hne
   cases hp:o.op.pure with
   | false=>rfl
   | true =>
     rcases hst k o r ho hr with ⟨_,rfl⟩ | ⟨_,hs⟩
     . simp at hne
     . obtain ⟨h1,h2⟩:=Nx hp hs
       simp [h1,h2] at hne
 have PJ:∀ (k:Nat) (o:bp) (r:dN),vs[k]? = some o->rs[k]? = some r->r.up≠[]->o.op.rf=false:=by
   intro k o r ho hr hne
   cases hp:o.op.rf with
   | false=>rfl
   | true =>
     rcases hst k o r ho hr with ⟨_,rfl⟩ | ⟨_,hs⟩
     . simp at hne
     . exact absurd (Ny hp hs) hne
 intro fuel
 induction fuel with
 | zero =>
   intro listed a E w xL Zn G8 hm
   have cz:∀ i,i<ops.size->listed.getD i false=true:=by
     intro i hi
     have:=Cv (X:=fun i=>listed.getD i false) (List.range ops.size) (by simpa using Zn) i (List.mem_range.2 hi)
     exact this
   refine ⟨?_,hQ a E w ?_⟩
   . apply List.eq_nil_iff_forall_not_mem.2
     intro j hj
     obtain ⟨h1,o,h2,_⟩:=mem_ready.1 hj
     have nH:j<ops.size:=(Array.getElem?_eq_some_iff.1 h2).1
     have:=cz j nH
     rw [Array.getD_eq_getD_getElem?] at h1 this
     cases hh:listed[j]? with
     | none=>simp [hh] at this
     | some b=>simp [hh] at h1 this;simp [h1] at this
   . have e1:eP (fun i=>listed.getD i false) L 0 t0=eP (fun _=>true) L 0 t0:=Aa L 0 t0 (fun k hk=>by rw [Nat.zero_add];exact cz k (by omega))
     have e2:gu (fun i=>listed.getD i false) L 0 σ0=gu (fun _=>true) L 0 σ0:=Ab L 0 σ0 (fun k hk=>by rw [Nat.zero_add];exact cz k (by omega))
     exact ⟨e1▸hm.frame,e2▸hm.inv,hm.Ch,by simp,hm.more,hm.defers⟩
 | succ fuel ih =>
   intro listed a E w xL Zn G8 hm
   have Zo:∀ i,i<ops.size->listed.getD i true=listed.getD i false:=by
     intro i hi
     rw [Array.getD_eq_getD_getElem?,Array.getD_eq_getD_getElem?,Array.getElem?_eq_getElem (by omega)]
     rfl
   have Vw:∀ (j:Nat) (o:Oper),ops[j]? = some o->po.getD j []=xm o:=by
     intro j o ho
     rw [<- Zm]
     have hj:j<ops.size:=(Array.getElem?_eq_some_iff.1 ho).1
     have he:ops[j]=o:=(Array.getElem?_eq_some_iff.1 ho).2
     simp [List.getD,hj,he]
   refine ⟨?_, ?_⟩
   . -- nothing is ready: all is done
     intro yB
     have cz : ∀ i,i<ops.size->listed.getD i false=true:=by
       intro i
       induction i using Nat.strongRecOn with
       | _ i ihi =>
         intro hi
         cases hh:listed.getD i false with
         | true=>rfl
         | false =>
           exfalso
           have vA:i∈Region.ready .any ops listed:=by
             refine mem_ready.2 ⟨(Zo i hi).trans hh,ops[i],by simp [hi], ?_⟩
             intro e he hb
             have acQ:e.on∈po.getD i []:=by
               rw [Vw i ops[i] (by simp [hi])]
               unfold xm
               exact List.mem_map.2 ⟨e,List.mem_filter.2 ⟨by simpa using he,hb⟩,rfl⟩
             have:=WK i hi e.on acQ
             exact ihi e.on this (by omega)
           rw [yB] at vA
           simp at vA
     have e1:eP (fun i=>listed.getD i false) L 0 t0=eP (fun _=>true) L 0 t0:=Aa L 0 t0 (fun k hk=>by rw [Nat.zero_add];exact cz k (by omega))
     have e2:gu (fun i=>listed.getD i false) L 0 σ0=gu (fun _=>true) L 0 σ0:=Ab L 0 σ0 (fun k hk=>by rw [Nat.zero_add];exact cz k (by omega))
     exact hQ a E w ⟨e1▸hm.frame,e2▸hm.inv,hm.Ch,by simp,hm.more,hm.defers⟩
   . intro j hj
     obtain ⟨h1,o,ho,Zp⟩:=mem_ready.1 hj
     have JU:j<ops.size:=(Array.getElem?_eq_some_iff.1 ho).1
     have YK:listed.getD j false=false:=(Zo j JU).symm.trans h1
     generalize hX:(fun i=>listed.getD i false)=X at *
     have hXd:∀ i,listed.getD i false=X i:=fun i=>by rw [<- hX]
     simp only [hXd] at G8 YK
     have xH:∀ e∈po.getD j [],X e=true:=by
       intro e he
       rw [Vw j o ho] at he
       unfold xm at he
       obtain ⟨ed,hed,rfl⟩:=List.mem_map.1 he
       obtain ⟨h3,h4⟩:=List.mem_filter.1 hed
       rw [<- hXd]
       exact Zp ed (by simpa using h3) h4
     have pre:∀ i,((jE po []).getD j 0).testBit i=true->X i=true:=A6 WK G8 j JU xH
     have post:∀ k,k<ops.size->X k=true->((jE po []).getD k 0).testBit j=false:=by
       intro k hk BG
       cases hb:((jE po []).getD k 0).testBit j with
       | false=>rfl
       | true=>have:=A6 WK G8 k hk (G8 k hk BG) j hb;simp [YK] at this
     -- the operation
     have xK:∃ vo,vs[j]? = some vo/\xl P ops o=some vo:=by
       have hjv:j<vs.length:=by omega
       obtain ⟨o',h3,h4⟩:=mapM_some_get Lu j vs[j] (by simp [hjv])
       have:o'=o:=by
         have h5:ops.toList[j]? = some o:=by simpa using ho
         rw [h5] at h3;simpa using h3.symm
       subst this
       exact ⟨vs[j],by simp [hjv],h4⟩
     obtain ⟨vo,Cw,xK⟩:=xK
     obtain ⟨hop,PF⟩:=G3 xK
     have hrj:j<rs.length:=by omega
     obtain ⟨r,hr⟩:∃ r,rs[j]? = some r:=⟨rs[j],by simp [hrj]⟩
     have hsc:=hst j vo r Cw hr
     rw [Nat.zero_add] at hsc
     -- a slot that it names
     have slot:∀ s∈vo.names,(eP X L 0 t0)[s]? = (eP (fun m=>m<j) L 0 t0)[s]? := by
       intro s hs
       refine qN L 0 t0 t0 rfl ?_
       intro k d r' hk hne hds
       rw [Nat.zero_add] at hne
       obtain ⟨ok,h3,h4,h5⟩:=(Lv k d r').1 hk
       subst hds
       have TC:k<ops.size:=by have:=(List.getElem?_eq_some_iff.1 h3).1;omega
       rcases Nat.lt_trichotomy k j with rn | rfl | Zq
       . have BG:X k=false:=by
           cases hh:X k with
           | false=>rfl
           | true=>simp [hh,rn] at hne
         have hc:A2 ok vo=true:=by unfold A2;simp [h4,hs]
         have:=pre k (uT k j ok vo rn h3 Cw hc)
         simp [BG] at this
       . simp [YK] at hne
       . have BG:X k=true:=by
           cases hh:X k with
           | true=>rfl
           | false=>simp [hh,Nat.not_lt.2 (Nat.le_of_lt Zq)] at hne
         have hc:A2 vo ok=true:=by unfold A2;simp [h4,hs]
         have:=uT j k vo ok Zq Cw h3 hc
         rw [post k TC BG] at this
         simp at this
     have acT:vo.op.map (aS.ev G (eP X L 0 t0))=vo.op.map (aS.ev G (eP (fun m=>m<j) L 0 t0)):=by
       refine gB.map_congr _ fun x hx=>PG x fun s hs=>slot s ?_
       unfold bp.names
       exact List.mem_append_left _ (List.mem_filterMap.2 ⟨x,hx,hs⟩)
     have Vx:eO (eP X L 0 t0) vo.guard=eO (eP (fun m=>m<j) L 0 t0) vo.guard:=by
       cases hg:vo.guard with
       | none=>rfl
       | some q =>
         obtain ⟨s,want⟩:=q
         have:=slot s (by unfold bp.names;simp [hg])
         simp only [eO,this]
     have Nh:∀ id∈r.rd,gu X L 0 σ0 id=gu (fun m=>m<j) L 0 σ0 id:=by
       intro id hid
       refine qO L 0 σ0 σ0 rfl ?_
       intro k d r' hk hne vA
       rw [Nat.zero_add] at hne
       obtain ⟨ok,h3,h4,h5⟩:=(Lv k d r').1 hk
       have TC:k<ops.size:=by have:=(List.getElem?_eq_some_iff.1 h3).1;omega
       have WL:ok.op.pure=false:=touch k ok r' h3 h5 (.inr (by intro e;simp [e] at vA))
       have hpj:vo.op.pure=false:=touch j vo r Cw hr (.inl (by intro e;simp [e] at hid))
       have WM:ok.op.rf=false:=PJ k ok r' h3 h5 (by intro e;simp [e] at vA)
       obtain ⟨x,hx,rfl⟩:=List.mem_map.1 vA
       rcases Nat.lt_trichotomy k j with rn | rfl | Zq
       . have BG:X k=false:=by
           cases hh:X k with
           | false=>rfl
           | true=>simp [hh,rn] at hne
         have hb:((jE po []).getD j 0).testBit k=false:=by
           cases hb:((jE po []).getD j 0).testBit k with
           | false=>rfl
           | true=>have:=pre k hb;simp [BG] at this
         exact ((yz k j ok vo rn h3 Cw WL hpj (by simp [WM]) hb r' r h5 hr).1 x hx).1 hid
       . simp [YK] at hne
       . have BG:X k=true:=by
           cases hh:X k with
           | true=>rfl
           | false=>simp [hh,Nat.not_lt.2 (Nat.le_of_lt Zq)] at hne
         exact (yz j k vo ok Zq Cw h3 hpj WL (by simp [WM]) (post k TC BG) r r' hr h5).2 x hx hid
     -- behind it
     generalize hX':(fun i=>if i=j then true else X i)=X' at *
     have Td:∀ i,X' i=if i=j then true else X i:=fun i=>by rw [<- hX']
     have later:∀ (k:Nat) (d:Option Nat) (r':dN),L[k]? = some (d,r')->j<k->X' k=true->∃ ok:bp,vs[k]? = some ok/\ok.dst=d/\rs[k]? = some r'/\k<ops.size/\X k=true:=by
       intro k d r' hk rn BG
       obtain ⟨ok,h3,h4,h5⟩:=(Lv k d r').1 hk
       refine ⟨ok,h3,h4,h5,by have:=(List.getElem?_eq_some_iff.1 h3).1;omega, ?_⟩
       rw [Td] at BG
       simpa [show k≠j from by omega] using BG
     have hLj:L[j]? = some (vo.dst,r):=(Lv j _ _).2 ⟨vo,Cw,rfl,hr⟩
     have tEq:fG (eP X L 0 t0) vo.dst r.val=eP X' L 0 t0:=by
       apply List.ext_getElem?
       intro s
       rw [sy]
       by_cases hd:vo.dst=some s
       . rw [if_pos hd]
         rw [Cr L 0 j t0 (by rw [hLj,hd]) (by rw [Nat.zero_add,Td];simp) ?_,Ez]
         intro k d r' hk rn BG hds
         rw [Nat.zero_add] at BG
         obtain ⟨ok,h3,h4,h5,TC,WN⟩:=later k d r' hk rn BG
         have hc:A2 vo ok=true:=by unfold A2;simp [hd,h4,hds]
         have:=uT j k vo ok rn Cw h3 hc
         rw [post k TC WN] at this
         simp at this
       . rw [if_neg hd]
         refine qN L 0 t0 t0 rfl ?_
         intro k d r' hk hne
         rw [Nat.zero_add,Td] at hne
         have YL:k=j:=by
           apply Classical.byContradiction;intro h;simp [h] at hne
         subst YL
         rw [hLj] at hk
         simp only [Option.some.injEq,Prod.mk.injEq] at hk
         rw [<- hk.1];exact hd
     have sEq:(gu X L 0 σ0).app r.up=gu X' L 0 σ0:=by
       funext id
       by_cases vA:id∈r.up.map (·.1)
       . symm
         refine Cs L 0 j σ0 hLj (by rw [Nat.zero_add,Td];simp) vA ?_
         intro k d r' hk rn BG Zr
         rw [Nat.zero_add] at BG
         obtain ⟨ok,h3,h4,h5,TC,WN⟩:=later k d r' hk rn BG
         have WL:ok.op.pure=false:=touch k ok r' h3 h5 (.inr (by intro e;simp [e] at Zr))
         have hpj:vo.op.pure=false:=touch j vo r Cw hr (.inr (by intro e;simp [e] at vA))
         have hlj:vo.op.rf=false:=PJ j vo r Cw hr (by intro e;simp [e] at vA)
         obtain ⟨x,hx,rfl⟩:=List.mem_map.1 vA
         exact ((yz j k vo ok rn Cw h3 hpj WL (by simp [hlj]) (post k TC WN) r r' hr h5).1 x hx).2 Zr
       . rw [aa.wH vA]
         refine qO L 0 σ0 σ0 rfl ?_
         intro k d r' hk hne
         rw [Nat.zero_add,Td] at hne
         have YL:k=j:=by
           apply Classical.byContradiction;intro h;simp [h] at hne
         subst YL
         rw [hLj] at hk
         simp only [Option.some.injEq,Prod.mk.injEq] at hk
         rw [<- hk.2];exact vA
     -- going on
     have hXl:∀ i,(listed.setIfInBounds j true).getD i false=X' i:=by
       intro i
       rw [Td]
       by_cases e:i=j
       . subst e
         rw [Array.getD_eq_getD_getElem?]
         simp [xL,JU]
       . rw [if_neg e,getD_set_ne false (fun h=>e h.symm),hXd]
     have go : ∀ (a':Act) (E':Env) (w':World),cn E' w' (eP X' L 0 t0) a'->Inv G own E' w' (gu X' L 0 σ0)->ky own π E E' w w'->(∀ i:Id, ¬ ((base+j) :: π) <:+ i->E'.μ i=E.μ i)->a'.defers=a.defers ->
         wpAny P .any ops Q fuel (listed.setIfInBounds j true) a' w':=by
       intro a' E' w' Tn jc had TI Zk
       have FU:(fun i=>(listed.setIfInBounds j true).getD i false)=X':=funext hXl
       refine ih _ a' E' w' (by simpa using xL) ?_ ?_ ?_
       . rw [FU]
         have:=EE (X:=X) (Y:=X') (i:=j) YK (by rw [Td];simp) (fun k hk=>by rw [Td];split<;>simp [hk]) (List.range ops.size) (List.mem_range.2 JU)
         omega
       . intro k hk BG e he
         rw [hXl] at BG ⊢
         rw [Td] at BG ⊢
         split
         . rfl
         . by_cases YL:k=j
           . subst YL;exact xH e he
           . rw [if_neg YL] at BG
             exact G8 k hk BG e he
       . rw [FU]
         refine ⟨Tn,jc,hm.Ch.trans had, ?_, ?_,Zk.trans hm.defers⟩
         . intro i hi hxi j'
           rw [Td] at hxi
           have Ka:i≠j:=by rintro rfl;simp at hxi
           rw [if_neg Ka] at hxi
           intro hj'
           rw [TI _ (G5 hj' (by omega))]
           exact hm.free i hi hxi j' hj'
         . intro j' hj' hq
           rw [TI _ (hq (base+j) (by omega))]
           exact hm.more j' hj' hq
     unfold wpOp
     rw [ho]
     simp only []
     rcases hsc with ⟨Kb,rfl⟩ | ⟨uJ,hsr⟩
     . rw [tw xK hm.frame (Vx.trans Kb)]
       simp only [Bool.false_eq_true,if_false]
       refine go _ E w ?_ ?_ (ky.refl own π E w) (fun _ _=>rfl) (qP _ _ _)
       . rw [<- tEq, <- PF];exact EB hm.frame _
       . rw [<- sEq];exact hm.inv
     . rw [tw xK hm.frame (Vx.trans uJ)]
       simp only [if_true]
       left
       rw [<- acT] at hsr
       refine Cq hm.inv (hm.free j JU YK) hm.frame hop (D8 hsr Nh) ?_
       intro v w' E' hp
       refine go _ E' w' ?_ ?_ hp.Zj hp.ids (qP _ _ _)
       . rw [<- tEq, <- PF];exact hp.frame hm.frame _
       . rw [<- sEq];exact hp.inv
end
end Go.VL
end

section
namespace Go.VL
inductive cD where
 | normal
 | exit (id:Nat)
 | ret
def cD.real:cD->Exit
 | .normal => .normal
 | .exit id => .exit id
 | .ret => .ret
structure VS where
 t:List AV
 σ : aa
 n:Nat
structure je (G:Nat->Option (List AV)) (π : Id) (own:Nat->Prop) (E:Env) (w:World) (s:VS) (a:Act):Prop where
 frame:cn E w s.t a
 inv:Inv G own E w s.σ
 free:xJ E π s.n
 defers:a.defers=[]
def Wk (G:Nat->Option (List AV)) (π : Id) (s s':VS):Prop:=∀ own E w a,je G π own E w s a->∃ E',ky own π E E' w w/\je G π own E' w s' a
def VW (P:Program) (G:Nat->Option (List AV)) (π : Id) (vc:bW) (Q:cD->VS->Prop) (s:VS):Prop :=
 ∀ c,eC P c=some vc->∀ own E w a (R:Exit->Act->World->Prop),je G π own E w s a ->
   (∀ e s' E' w' a',Q e s'->ky own π E E' w w'->je G π own E' w' s' a'->R e.real a' w')->c.wp P R a w
section
variable {P:Program} {G:Nat->Option (List AV)} {π : Id} {Q:cD->VS->Prop} {s:VS}
theorem Wk.refl (G:Nat->Option (List AV)) (π : Id) (s:VS):Wk G π s s:=fun own E w _ h=>⟨E,ky.refl own π E w,h⟩
theorem Wk.trans {s s' YM:VS} (h:Wk G π s s') (k:Wk G π s' YM):Wk G π s YM:=fun own E w a hm=>by
 obtain ⟨E1,a1,m1⟩:=h own E w a hm
 obtain ⟨E2,a2,m2⟩:=k own E1 w a m1
 exact ⟨E2,a1.trans a2,m2⟩
theorem VW.wk {vc:bW} {s':VS} (h:Wk G π s s') (k:VW P G π vc Q s'):VW P G π vc Q s:=by
 intro c hc own E w a R hm hR
 obtain ⟨E1,a1,m1⟩:=h own E w a hm
 exact k c hc own E1 w a R m1 fun e s2 E2 w2 a2 hq ad mm=>hR e s2 E2 w2 a2 hq (a1.trans ad) mm
theorem VW.mono {vc:bW} {Q':cD->VS->Prop} (h:VW P G π vc Q s) (hq:∀ e s,Q e s->Q' e s):VW P G π vc Q' s :=
 fun c hc own E w a R hm hR=>h c hc own E w a R hm fun e s2 E2 w2 a2 NA=>hR e s2 E2 w2 a2 (hq e s2 NA)
theorem VW.skip (h:Q .normal s):VW P G π .skip Q s:=by
 intro c hc own E w a R hm hR
 cases c<;>simp only [eC,Option.some.injEq,reduceCtorEq] at hc
 . exact wp_skip (hR .normal s E w a h (ky.refl own π E w) hm)
 . exfalso;revert hc;unfold lD;(repeat' split)<;>simp
 all_goals (exfalso;revert hc;(repeat' split)<;>simp)
theorem yC {c:Code} {ps:Option (List (Nat × Nat))} {vs:List bp} (hc:eC P c=some (.reg ps vs)):∃ id ops draw,c = .region id ops draw/\ops.toList.mapM (xl P ops)=some vs /\
   ((draw=false/\ps=none)∨(draw=true/\ps=some (wE vs (ops.toList.map xm))/\BZ vs (ops.toList.map xm)=true/\P.follows .mixedOrders=true)):=by
 cases c with
 | region id ops draw =>
   simp only [eC,lD] at hc
   cases hm:ops.toList.mapM (xl P ops) with
   | none=>simp [hm] at hc
   | some vs' =>
     simp only [hm] at hc
     split at hc
     . rename_i hd
       split at hc
       . rename_i ho
         simp only [Option.some.injEq,bW.reg.injEq] at hc
         obtain ⟨rfl,rfl⟩:=hc
         simp only [Bool.and_eq_true] at ho
         exact ⟨id,ops,draw,rfl,hm, .inr ⟨hd,rfl,ho.1,ho.2⟩⟩
       . simp at hc
     . rename_i hd
       simp only [Option.some.injEq,bW.reg.injEq] at hc
       obtain ⟨rfl,rfl⟩:=hc
       exact ⟨id,ops,draw,rfl,hm, .inl ⟨by simpa using hd,rfl⟩⟩
 | _=>exfalso;revert hc;simp only [eC];(repeat' split)<;>simp
theorem VW.PK {vs:List bp} (h:yw P G π s.n (fun t σ => Q .normal ⟨t, σ,s.n+vs.length⟩) vs 0 s.t s.σ):VW P G π (.reg none vs) Q s:=by
 intro c hc own E w a R hm hR
 obtain ⟨id,ops,draw,rfl,Lu,S9⟩:=yC hc
 have hd:draw=false:=by
   rcases S9 with ⟨h,_⟩ | ⟨_,h,_⟩
   . exact h
   . simp at h
 subst hd
 have hl:ops.toList.length=vs.length:=(gQ Lu).symm
 refine wp_region ?_
 have:=Cu (P:=P) (G:=G) (own:=own) (ops:=ops) (Q:=R) ops.toList 0 (fun k=>by simp) vs Lu s.t s.σ a E w h hm.frame hm.inv hm.free (by
   intro t' σ' a' E' w' hk had hf hi DZ Zk
   refine hR .normal ⟨t', σ',s.n+vs.length⟩ E' w' a' hk had ⟨hf,hi,by have h:=DZ;simp only [Nat.add_zero,hl] at h;exact h,Zk.trans hm.defers⟩)
 rw [List.range_eq_range']
 simpa using this
theorem VW.PL {ps:List (Nat × Nat)} {vs:List bp} (h:yx P G π s.n (fun rs t σ => ar rs ps/\Q .normal ⟨t, σ,s.n+vs.length⟩) vs 0 [] s.t s.σ):VW P G π (.reg (some ps) vs) Q s:=by
 intro c hc own E w a R hm hR
 obtain ⟨id,ops,draw,rfl,Lu,S9⟩:=yC hc
 rcases S9 with ⟨_,h2⟩ | ⟨hd,JM,PI,hmx⟩
 . simp at h2
 . subst hd
   simp only [Option.some.injEq] at JM
   have hl:vs.length=ops.size:=by have:=gQ Lu;simpa using this
   obtain ⟨rs,Zl,hst,zO,hq⟩:=EA h
   refine wp_region_any hmx ?_
   have WO:Mid G π own ((vs.map (·.dst)).zip rs) s.n ops.size s.t s.σ a E w (fun i=>(Array.replicate ops.size false).getD i false) E w.drew a:=by
     have hX:∀ i,(Array.replicate ops.size false).getD i false=false:=by intro i;rw [Array.getD_eq_getD_getElem?];simp [Array.getElem?_replicate];split<;>rfl
     have e1:eP (fun i=>(Array.replicate ops.size false).getD i false) ((vs.map (·.dst)).zip rs) 0 s.t=s.t:=ri _ _ _ fun k _=>hX _
     have e2:gu (fun i=>(Array.replicate ops.size false).getD i false) ((vs.map (·.dst)).zip rs) 0 s.σ = s.σ := rj _ _ _ fun k _=>hX _
     exact ⟨by rw [e1];exact hm.frame.keep (Adv.drew (own:=own) E w).step,by rw [e2];exact hm.inv.drew,⟨Adv.drew E w,fun _ _=>rfl⟩,fun i _ _ j hj=>hm.free.at (by omega) hj,hm.free.mono (by omega),rfl⟩
   refine Nz Lu PI Zl hst (by rw [<- JM];simpa using zO) (Q:=R) (a0:=a) (E0:=E) (w0:=w) ?_ ops.size (Array.replicate ops.size false) a E w.drew (by simp) (by simp) ?_ WO
   . intro a' E' w' Zs
     refine hR .normal _ E' w' a' hq Zs.Ch ⟨Zs.frame,Zs.inv,by rw [hl];exact Zs.more,Zs.defers.trans hm.defers⟩
   . intro k hk hx
     rw [Array.getD_eq_getD_getElem?] at hx
     simp [hk] at hx
theorem VW.seq {x y:bW} (h:VW P G π x (fun e s'=>match e with | .normal=>VW P G π y Q s' | e=>Q e s') s):VW P G π (.seq x y) Q s:=by
 intro c hc own E w a R hm hR
 cases c<;>simp only [eC,Option.some.injEq,reduceCtorEq] at hc
 case seq ca cb =>
   cases h1:eC P ca with
   | none=>simp [h1] at hc
   | some va =>
   cases h2:eC P cb with
   | none=>simp [h1,h2] at hc
   | some vb =>
     simp only [h1,h2,Option.some.injEq,bW.seq.injEq] at hc
     obtain ⟨rfl,rfl⟩:=hc
     refine wp_seq (h ca h1 own E w a _ hm ?_)
     intro e s' E' w' a' hq had qx
     cases e with
     | normal=>exact hq cb h2 own E' w' a' R qx fun e2 s2 E2 w2 a2 NA NB mm2=>hR e2 s2 E2 w2 a2 NA (had.trans NB) mm2
     | exit id=>exact hR (.exit id) s' E' w' a' hq had qx
     | ret=>exact hR .ret s' E' w' a' hq had qx
 case region=>exfalso;revert hc;unfold lD;(repeat' split)<;>simp
 all_goals (exfalso;revert hc;(repeat' split)<;>simp)
theorem VW.cond {vc:aS} {x y:bW} {b:Bool} (hb:vc.ev G s.t = .bool b) (h:if b then VW P G π x Q s else VW P G π y Q s):VW P G π (.cond vc x y) Q s:=by
 intro c hc own E w a R hm hR
 cases c<;>simp only [eC,Option.some.injEq,reduceCtorEq] at hc
 case cond cc ca cb =>
   cases h0:cL cc with
   | none=>simp [h0] at hc
   | some vcc =>
   cases h1:eC P ca with
   | none=>simp [h0,h1] at hc
   | some va =>
   cases h2:eC P cb with
   | none=>simp [h0,h1,h2] at hc
   | some vb =>
     simp only [h0,h1,h2,Option.some.injEq,bW.cond.injEq] at hc
     obtain ⟨rfl,rfl,rfl⟩:=hc
     have hr:=aZ hm.frame hm.inv h0
     rw [hb] at hr
     simp only [aL] at hr
     refine wp_cond hr ?_
     cases b with
     | true=>simp only [if_true] at h ⊢;exact h ca h1 own E w a R hm hR
     | false=>simp only [Bool.false_eq_true,if_false] at h ⊢;exact h cb h2 own E w a R hm hR
 case region=>exfalso;revert hc;unfold lD;(repeat' split)<;>simp
 all_goals (exfalso;revert hc;(repeat' split)<;>simp)
theorem VW.TJ {vc:aS} {x y:bW} (hb:vc.ev G s.t = .anyb) (h1:VW P G π x Q s) (h2:VW P G π y Q s):VW P G π (.cond vc x y) Q s:=by
 intro c hc own E w a R hm hR
 cases c<;>simp only [eC,Option.some.injEq,reduceCtorEq] at hc
 case cond cc ca cb =>
   cases h0:cL cc with
   | none=>simp [h0] at hc
   | some vcc =>
   cases h3:eC P ca with
   | none=>simp [h0,h3] at hc
   | some va =>
   cases h4:eC P cb with
   | none=>simp [h0,h3,h4] at hc
   | some vb =>
     simp only [h0,h3,h4,Option.some.injEq,bW.cond.injEq] at hc
     obtain ⟨rfl,rfl,rfl⟩:=hc
     have hr:=aZ hm.frame hm.inv h0
     rw [hb] at hr
     simp only [aL] at hr
     obtain ⟨b,hr⟩:=hr
     refine wp_cond hr ?_
     cases b with
     | true=>exact h1 ca h3 own E w a R hm hR
     | false=>exact h2 cb h4 own E w a R hm hR
 case region=>exfalso;revert hc;unfold lD;(repeat' split)<;>simp
 all_goals (exfalso;revert hc;(repeat' split)<;>simp)
theorem VW.block {id:Nat} {x:bW} (h:VW P G π x (fun e s'=>match e with | .exit i=>if i=id then Q .normal s' else Q (.exit i) s' | e=>Q e s') s):VW P G π (.block id x) Q s:=by
 intro c hc own E w a R hm hR
 cases c<;>simp only [eC,Option.some.injEq,reduceCtorEq] at hc
 case block i cb =>
   cases h1:eC P cb with
   | none=>simp [h1] at hc
   | some vb =>
     simp only [h1,Option.map_some,Option.some.injEq,bW.block.injEq] at hc
     obtain ⟨rfl,rfl⟩:=hc
     refine wp_block (h cb h1 own E w a _ hm ?_)
     intro e s' E' w' a' hq had qx
     cases e with
     | normal=>exact hR .normal s' E' w' a' hq had qx
     | exit j =>
       simp only [cD.real,Exit.inBlock]
       split
       . rename_i hj;simp only [hj,if_true] at hq;exact hR .normal s' E' w' a' hq had qx
       . rename_i hj;simp only [hj,if_false] at hq;exact hR (.exit j) s' E' w' a' hq had qx
     | ret=>exact hR .ret s' E' w' a' hq had qx
 case region=>exfalso;revert hc;unfold lD;(repeat' split)<;>simp
 all_goals (exfalso;revert hc;(repeat' split)<;>simp)
theorem VW.exit {id:Nat} (h:Q (.exit id) s):VW P G π (.exit id) Q s:=by
 intro c hc own E w a R hm hR
 cases c<;>simp only [eC,Option.some.injEq,reduceCtorEq] at hc
 case exit i =>
   simp only [bW.exit.injEq] at hc;subst hc
   exact wp_exit (hR (.exit i) s E w a h (ky.refl own π E w) hm)
 case region=>exfalso;revert hc;unfold lD;(repeat' split)<;>simp
 all_goals (exfalso;revert hc;(repeat' split)<;>simp)
theorem VW.ret (h:Q .ret s):VW P G π .ret Q s:=by
 intro c hc own E w a R hm hR
 cases c<;>simp only [eC,Option.some.injEq,reduceCtorEq] at hc
 case ret=>exact wp_ret (hR .ret s E w a h (ky.refl own π E w) hm)
 case region=>exfalso;revert hc;unfold lD;(repeat' split)<;>simp
 all_goals (exfalso;revert hc;(repeat' split)<;>simp)
theorem vE {α : Type} {c:Code} {R:Exit->Act->World->Prop} (I : α -> Act->World->Prop) (μ : α -> Nat) {x : α} {a:Act} {w:World} (h₀:I x a w)
   (round:∀ x a w,I x a w->c.wp P (Exit.then (fun a' w'=>∃ x',I x' a' w' /\ μ x' < μ x) R) a w):(Code.loop c).wp P R a w:=by
 intro b k cs
 have key:∀ n x a w, μ x=n->I x a w ->
     ∃ e a' w',R e a' w'/\Arrives P (lone (b.at a (.code c :: .inLoop c::k)) cs w) b k cs e a' w':=by
   intro n
   induction n using Nat.strongRecOn with
   | _ n ih =>
     intro x a w hn hI
     obtain ⟨e,a₁,w₁,hq,G9⟩:=round x a w hI b (.inLoop c::k) cs
     cases e with
     | normal =>
       obtain ⟨x₁,Zt,hlt⟩:=hq
       obtain ⟨e₂,a₂,w₂,Zu,TK⟩:=ih (μ x₁) (hn▸hlt) x₁ a₁ w₁ rfl Zt
       exact ⟨e₂,a₂,w₂,Zu, .of_steps (Steps.trans G9 (.one step_inLoop)) TK⟩
     | exit id=>exact ⟨_,a₁,w₁,hq, .pass (x := .inLoop c) rfl (fun _ _ => .inl (by simp)) G9⟩
     | goto l=>exact ⟨_,a₁,w₁,hq, .pass (x := .inLoop c) rfl (fun _ _ => .inl (by simp)) G9⟩
     | ret=>exact ⟨_,a₁,w₁,hq, .pass (x := .inLoop c) rfl (fun _ _ => .inl (by simp)) G9⟩
     | panic ch=>exact ⟨_,a₁,w₁,hq, .pass (x := .inLoop c) rfl (fun _ _ => .inl (by simp)) G9⟩
     | outgrown=>exact ⟨_,a₁,w₁,hq, .pass (x := .inLoop c) rfl (fun _ _ => .inl (by simp)) G9⟩
 obtain ⟨e,a',w',hq,G9⟩:=key _ x a w rfl h₀
 exact ⟨e,a',w',hq, .of_steps (.one step_loop) G9⟩
theorem VW.loop {x:bW} (I:VS->Prop) (m:VS->Nat) (h0:∃ s',Wk G π s s'/\I s')
   (h:∀ s,I s->VW P G π x (fun e s'=>match e with | .normal=>∃ YM,Wk G π s' YM/\I YM/\m YM<m s | e=>Q e s') s):VW P G π (.loop x) Q s:=by
 obtain ⟨s1,uJ,hI1⟩:=h0
 refine VW.wk uJ ?_
 intro c hc own E w a R hm hR
 cases c<;>simp only [eC,Option.some.injEq,reduceCtorEq] at hc
 case loop cb =>
   cases h1:eC P cb with
   | none=>simp [h1] at hc
   | some vb =>
     simp only [h1,Option.map_some,Option.some.injEq,bW.loop.injEq] at hc
     subst hc
     refine vE (α := VS) (fun s' a' w'=>I s'/\∃ E',ky own π E E' w w'/\je G π own E' w' s' a') m (x:=s1) ⟨hI1,E,ky.refl own π E w,hm⟩ ?_
     rintro s2 a2 w2 ⟨Ha,E2,NB,ti⟩
     refine h s2 Ha cb h1 own E2 w2 a2 _ ti ?_
     intro e s' E' w' a' hq had qx
     cases e with
     | normal =>
       obtain ⟨s3,WQ,Zv,hlt⟩:=hq
       obtain ⟨E3,Zw,Zx⟩:=WQ own E' w' a' qx
       exact ⟨s3,⟨Zv,E3,(NB.trans had).trans Zw,Zx⟩,hlt⟩
     | exit id=>exact hR (.exit id) s' E' w' a' hq (NB.trans had) qx
     | ret=>exact hR .ret s' E' w' a' hq (NB.trans had) qx
 case region=>exfalso;revert hc;unfold lD;(repeat' split)<;>simp
 all_goals (exfalso;revert hc;(repeat' split)<;>simp)
def Then (k:VS->Prop) (Q:cD->VS->Prop):cD->VS->Prop
 | .normal,s=>k s
 | .exit i,s=>Q (.exit i) s
 | .ret,s=>Q .ret s
def NC (id:Nat) (Q:cD->VS->Prop):cD->VS->Prop
 | .normal,s=>Q .normal s
 | .exit i,s=>if i=id then Q .normal s else Q (.exit i) s
 | .ret,s=>Q .ret s
theorem qQ (k:VS->Prop) (Q:cD->VS->Prop) (s:VS):Then k Q .normal s=k s:=(rfl)
theorem EF (k:VS->Prop) (Q:cD->VS->Prop) (i:Nat) (s:VS):Then k Q (.exit i) s=Q (.exit i) s:=(rfl)
theorem Hb (k:VS->Prop) (Q:cD->VS->Prop) (s:VS):Then k Q .ret s=Q .ret s:=(rfl)
theorem A8 (id:Nat) (Q:cD->VS->Prop) (s:VS):NC id Q .normal s=Q .normal s:=(rfl)
theorem wI (id:Nat) (Q:cD->VS->Prop) (i:Nat) (s:VS):NC id Q (.exit i) s=if i=id then Q .normal s else Q (.exit i) s:=(rfl)
theorem Hc (id:Nat) (Q:cD->VS->Prop) (s:VS):NC id Q .ret s=Q .ret s:=(rfl)
def sq (P:Program) (G:Nat->Option (List AV)) (π : Id):bW->(cD->VS->Prop)->VS->Prop
 | .skip,Q,s=>Q .normal s
 | .reg none vs,Q,s=>yw P G π s.n (fun t σ => Q .normal ⟨t, σ,s.n+vs.length⟩) vs 0 s.t s.σ
 | .reg (some ps) vs,Q,s=>yx P G π s.n (fun rs t σ => ar rs ps/\Q .normal ⟨t, σ,s.n+vs.length⟩) vs 0 [] s.t s.σ
 | .seq x y,Q,s=>sq P G π x (Then (sq P G π y Q) Q) s
 | .cond c x y,Q,s=>match c.ev G s.t with
   | .bool b=>if b then sq P G π x Q s else sq P G π y Q s
   | .anyb=>sq P G π x Q s/\sq P G π y Q s
   | _=>False
 | .block id x,Q,s=>sq P G π x (NC id Q) s
 | .loop x,Q,s=>VW P G π (.loop x) Q s
 | .exit id,Q,s=>Q (.exit id) s
 | .ret,Q,s=>Q .ret s
theorem VW.of:∀ {vc:bW} {Q:cD->VS->Prop} {s:VS},sq P G π vc Q s->VW P G π vc Q s
 | .skip,_,_,h=>VW.skip h
 | .reg none _,_,_,h=>VW.PK h
 | .reg (some _) _,_,_,h=>VW.PL h
 | .seq x y,Q,s,h=>by
   refine VW.seq (VW.mono (VW.of (vc:=x) h) ?_)
   intro e s' hq
   cases e with
   | normal=>exact VW.of (vc:=y) hq
   | exit id=>exact hq
   | ret=>exact hq
 | .cond c x y,Q,s,h=>by
   simp only [sq] at h
   split at h
   . rename_i b hb
     refine VW.cond hb ?_
     cases b with
     | true=>exact VW.of (vc:=x) h
     | false=>exact VW.of (vc:=y) h
   . rename_i hb
     exact VW.TJ hb (VW.of (vc:=x) h.1) (VW.of (vc:=y) h.2)
   . exact h.elim
 | .block id x,Q,s,h=>by
   refine VW.block (VW.mono (VW.of (vc:=x) h) ?_)
   intro e s' hq
   cases e with
   | normal=>exact hq
   | exit i=>exact hq
   | ret=>exact hq
 | .loop x,Q,s,h=>h
 | .exit id,_,_,h=>VW.exit h
 | .ret,_,_,h=>VW.ret h
end
end Go.VL
end

section
namespace Go.VL
section
variable {P:Program} {G:Nat->Option (List AV)} {own:Nat->Prop} {E:Env} {w:World} {σ : aa}
def af (c:AV):Prop:=∀ E w v,aL E w c v->aL E.bare w c v
theorem af.bool (b:Bool):af (.bool b):=fun _ _ _ h=>by simpa [aL] using h
theorem af.int (k:IntKind) (n:Int):af (.int k n):=fun _ _ _ h=>by simpa [aL] using h
theorem af.str (l:List UInt8):af (.str l):=fun _ _ _ h=>by simpa [aL] using h
theorem af.nilp:af .nilp:=fun _ _ _ h=>by simpa [aL] using h
theorem af.nilf:af .nilf:=fun _ _ _ h=>by simpa [aL] using h
theorem af.nils:af .nils:=fun _ _ _ h=>by simpa [aL] using h
theorem af.rp {cs:List AV} (h:∀ c∈cs,af c):∀ {vs:List Value},aM E w cs vs->aM E.bare w cs vs:=by
 induction cs with
 | nil=>intro vs hr;simpa [aM] using hr
 | cons c cs ih =>
   intro vs hr
   simp only [aM] at hr ⊢
   obtain ⟨v,rest,e,h1,h2⟩:=hr
   exact ⟨v,rest,e,h c (by simp) _ _ _ h1,ih (fun x hx=>h x (by simp [hx])) h2⟩
theorem af.A9 {cs:List AV} (h:∀ c∈cs,af c) {b o:Nat} (hr:gP E w b o cs):gP E.bare w b o cs :=
 fun j c hj=>let ⟨v,hv,wT⟩:=hr j c hj;⟨v,hv,h c (List.mem_of_getElem? hj) _ _ _ wT⟩
theorem af.agg {cs:List AV} (h:∀ c∈cs,af c):af (.agg cs):=fun E w v hr=>by
 simp only [aL] at hr ⊢;obtain ⟨xs,e,hr⟩:=hr;exact ⟨xs,e,af.rp h hr⟩
theorem af.tup {cs:List AV} (h:∀ c∈cs,af c):af (.tup cs):=fun E w v hr=>by
 simp only [aL] at hr ⊢;obtain ⟨xs,e,hr⟩:=hr;exact ⟨xs,e,af.rp h hr⟩
theorem af.fn {f:Fn} {a c:List AV} (ha:∀ x∈a,af x) (hc:∀ x∈c,af x):af (.fn f a c):=fun E w v hr=>by
 simp only [aL] at hr ⊢;obtain ⟨xs,ys,e,h1,h2⟩:=hr;exact ⟨xs,ys,e,af.rp ha h1,af.rp hc h2⟩
theorem af.sl {k:Nat} {es:List AV} (h:∀ c∈flat es,af c):af (.sl k es):=fun E w v hr=>by
 simp only [aL] at hr ⊢
 obtain ⟨a,cap,e,h1,h2,h3,h4⟩:=hr
 exact ⟨a,cap,e,h1,h2,h3,h4.imp id fun ⟨b,o,ea,hb,hr⟩=>⟨b,o,ea,hb,dG.2 (af.A9 h (dG.1 hr))⟩⟩
theorem af.tsl {k:Nat} {es:List AV} (h:∀ c∈flat es,af c):af (.tsl k es):=fun E w v hr=>by
 simp only [aL] at hr ⊢
 obtain ⟨a,e,h2,h3,h4⟩:=hr
 exact ⟨a,e,h2,h3,h4.imp id fun ⟨b,o,ea,hb,hr⟩=>⟨b,o,ea,hb,dG.2 (af.A9 h (dG.1 hr))⟩⟩
theorem af.ep {cs:List AV} {o:Nat} (h:∀ c∈cs,af c):af (.ep cs o):=fun E w v hr=>by
 simp only [aL] at hr ⊢
 obtain ⟨b,q,e,hb,hr⟩:=hr
 exact ⟨b,q,e,hb,gA.2 (af.A9 h (gA.1 hr))⟩
def b7 (c:AV):Prop:=∀ E w E' w' v,aL E w c v->aL E' w' c v
theorem b7.bool (b:Bool):b7 (.bool b):=fun _ _ _ _ _ h=>by simpa [aL] using h
theorem b7.int (k:IntKind) (n:Int):b7 (.int k n):=fun _ _ _ _ _ h=>by simpa [aL] using h
theorem b7.str (l:List UInt8):b7 (.str l):=fun _ _ _ _ _ h=>by simpa [aL] using h
theorem b7.rp {cs:List AV} (h:∀ c∈cs,b7 c) {E E':Env} {w w':World}:∀ {vs:List Value},aM E w cs vs->aM E' w' cs vs:=by
 induction cs with
 | nil=>intro vs hr;simpa [aM] using hr
 | cons c cs ih =>
   intro vs hr
   simp only [aM] at hr ⊢
   obtain ⟨v,rest,e,h1,h2⟩:=hr
   exact ⟨v,rest,e,h c (by simp) _ _ _ _ _ h1,ih (fun x hx=>h x (by simp [hx])) h2⟩
theorem b7.tup {cs:List AV} (h:∀ c∈cs,b7 c):b7 (.tup cs):=fun _ _ _ _ _ hr=>by
 simp only [aL] at hr ⊢;obtain ⟨xs,e,hr⟩:=hr;exact ⟨xs,e,b7.rp h hr⟩
theorem b7.agg {cs:List AV} (h:∀ c∈cs,b7 c):b7 (.agg cs):=fun _ _ _ _ _ hr=>by
 simp only [aL] at hr ⊢;obtain ⟨xs,e,hr⟩:=hr;exact ⟨xs,e,b7.rp h hr⟩
def Env.froze (E:Env) (σ : aa):Env:=⟨fun _=>none,fun b=>E.ok b∨∃ id bk k N, σ id=some bk/\E.μ id=some (b,k,N)⟩
def View (σ : aa) (c d:AV):Prop:=∀ G own E w v,Inv G own E w σ -> aL E w c v->aL (E.froze σ) w d v
def aW (σ : aa) (cs ds:List AV):Prop:=cs.length=ds.length/\∀ (j:Nat) (c d:AV),cs[j]? = some c->ds[j]? = some d->View σ c d
theorem Step.froze (E:Env) (σ : aa) (w:World):Step E.bare (E.froze σ) w w:=⟨fun _ _ h=>by simp [Env.bare] at h,fun _ h => .inl h,fun _ _=>rfl⟩
theorem View.pure {c:AV} (h:af c):View σ c c:=fun _ _ E w v _ hr=>aL.keep (Step.froze E σ w) c v (h E w v hr)
theorem aW.pure {cs:List AV} (h:∀ c∈cs,af c):aW σ cs cs :=
 ⟨rfl,fun j c d hc hd=>by rw [hc] at hd;simp only [Option.some.injEq] at hd;subst hd;exact View.pure (h c (List.mem_of_getElem? hc))⟩
theorem aW.nil:aW σ [] []:=⟨rfl,by simp⟩
theorem aW.cons {c d:AV} {cs ds:List AV} (h:View σ c d) (hl:aW σ cs ds):aW σ (c::cs) (d::ds) :=
 ⟨by simp [hl.1],fun j x y hx hy=>by
   cases j with
   | zero=>simp at hx hy;subst hx;subst hy;exact h
   | succ j=>exact hl.2 j x y (by simpa using hx) (by simpa using hy)⟩
theorem aW.rp {cs ds:List AV} (h:aW σ cs ds) (hi:Inv G own E w σ) {vs:List Value} (hr:aM E w cs vs):aM (E.froze σ) w ds vs:=by
 obtain ⟨hl,hp⟩:=bz.1 hr
 refine bz.2 ⟨by rw [hl,h.1],fun j d hd => ?_⟩
 have hj:j<cs.length:=by rw [h.1];exact (List.getElem?_eq_some_iff.1 hd).1
 obtain ⟨v,hv,wT⟩:=hp j cs[j] (by simp [hj])
 exact ⟨v,hv,h.2 j _ d (by simp [hj]) hd G own E w v hi wT⟩
theorem aW.A9 {cs ds:List AV} (h:aW σ cs ds) (hi:Inv G own E w σ) {b o:Nat} (hr:gP E w b o cs):gP (E.froze σ) w b o ds:=by
 intro j d hd
 have hj:j<cs.length:=by rw [h.1];exact (List.getElem?_eq_some_iff.1 hd).1
 obtain ⟨v,hv,wT⟩:=hr j cs[j] (by simp [hj])
 exact ⟨v,hv,h.2 j _ d (by simp [hj]) hd G own E w v hi wT⟩
theorem View.agg {cs ds:List AV} (h:aW σ cs ds):View σ (.agg cs) (.agg ds):=fun G own E w v hi hr=>by
 simp only [aL] at hr ⊢;obtain ⟨xs,e,hr⟩:=hr;exact ⟨xs,e,h.rp hi hr⟩
theorem View.tup {cs ds:List AV} (h:aW σ cs ds):View σ (.tup cs) (.tup ds):=fun G own E w v hi hr=>by
 simp only [aL] at hr ⊢;obtain ⟨xs,e,hr⟩:=hr;exact ⟨xs,e,h.rp hi hr⟩
theorem View.nils (k:Nat):View σ .nils (.sl k []):=fun G own E w v hi hr=>by
 simp only [aL] at hr ⊢;exact ⟨none,0,hr,Nat.le_refl _,Nat.zero_le _,by simp, .inl trivial⟩
theorem View.PM (k:Nat):View σ (.tsl k []) (.sl k []):=fun G own E w v hi hr=>by
 simp only [aL] at hr ⊢
 obtain ⟨a,e,_⟩:=hr
 exact ⟨a,0,e,Nat.le_refl _,Nat.zero_le _,by simp, .inl trivial⟩
theorem View.sl {k:Nat} {es ds:List AV} (h:aW σ (flat es) (flat ds)) (hl:es.length=ds.length) (hk:∀ d∈ds,d.size=k):View σ (.sl k es) (.sl k ds):=fun G own E w v hi hr=>by
 simp only [aL] at hr ⊢
 obtain ⟨a,cap,e,h1,h2,h3,h4⟩:=hr
 refine ⟨a,cap,by rw [<- hl];exact e,by rw [<- hl];exact h1,h2,hk, ?_⟩
 rcases h4 with h4 | ⟨b,o,ea,hb,hr⟩
 . left;subst h4;simpa using hl.symm
 . right;exact ⟨b,o,ea, .inl hb,dG.2 (h.A9 hi (dG.1 hr))⟩
theorem View.tsl {k:Nat} {es ds:List AV} (h:aW σ (flat es) (flat ds)) (hl:es.length=ds.length) (hk:∀ d∈ds,d.size=k):View σ (.tsl k es) (.sl k ds):=fun G own E w v hi hr=>by
 simp only [aL] at hr ⊢
 obtain ⟨a,e,h2,h3,h4⟩:=hr
 refine ⟨a,es.length,by rw [<- hl];exact e,by rw [<- hl];exact Nat.le_refl _,h2,hk, ?_⟩
 rcases h4 with h4 | ⟨b,o,ea,hb,hr⟩
 . left;subst h4;simpa using hl.symm
 . right;exact ⟨b,o,ea, .inl hb,dG.2 (h.A9 hi (dG.1 hr))⟩
theorem View.osl {id:Id} {bk:dC} {k off len:Nat} {t:Bool} {ds:List AV} (hσ : σ id=some bk) (hk:bk.k=k) (hle:off+len<=bk.els.length)
   (h:aW σ (flat ((bk.els.drop off).take len)) (flat ds)) (hl:ds.length=len) (hkd:∀ d∈ds,d.size=k):View σ (.osl id k off len t) (.sl k ds):=fun G own E w v hi hr=>by
 obtain ⟨g,N,cur,ty,hB⟩:=hi.blk id bk hσ
 simp only [aL] at hr ⊢
 obtain ⟨g',N',cap,hm,e,h1,h2,h3,_⟩:=hr
 rw [hB.μ] at hm
 simp only [Option.some.injEq,Prod.mk.injEq] at hm
 obtain ⟨rfl,_,rfl⟩:=hm
 refine ⟨_,cap,by rw [hl];exact e,by rw [hl];exact h1,by omega,hkd, .inr ⟨g,off*k,rfl, .inr ⟨id,bk,bk.k,N,hσ,hB.μ⟩, ?_⟩⟩
 refine dG.2 (h.A9 hi ?_)
 have:=pH (l:=off) (r:=off+len) hB.k hB.row (by omega) hle
 rw [Nat.zero_add,hk] at this
 have e2:(bk.els.take (off+len)).drop off=(bk.els.drop off).take len:=by rw [List.drop_take];congr 1;omega
 rwa [e2] at this
def VP (P:Program) (G:Nat->Option (List AV)) (f:FuncId) (args:List AV) (r:AV):Prop :=
 (∃ fn,P.funcs[f]? = some fn/\(fn.name == "runtime.NumGoroutine")=false/\fn.body.isSome=true) /\
 ∀ w vs ok,Inv G (fun k=>w.heap.size<=k) ⟨fun _=>none,ok⟩ w (fun _=>none)->aM ⟨fun _=>none,ok⟩ w args vs ->
   Calls P f vs.toArray w fun e w'=>∃ v ok',e = .returned v/\Adv (fun k=>w.heap.size<=k) ⟨fun _=>none,ok⟩ ⟨fun _=>none,ok'⟩ w w'/\(∀ b,ok' b->b<w'.heap.size)/\aL ⟨fun _=>none,ok'⟩ w' r v
theorem aB.PN {f:FuncId} {args:List AV} {r:AV} (h:VP P G f args r) (hp:∀ c∈args,af c) (p:Id):aB P G f args p [] { val:=r }:=by
 refine ⟨h.1,fun own E w σ vs _ hi hr hμ => ?_⟩
 have WR:Inv G (fun k=>w.heap.size<=k) ⟨fun _=>none,E.ok⟩ w (fun _=>none):=⟨hi.okb,fun id bk h=>by simp at h,fun i j x y h=>absurd rfl h,hi.glob,fun k hk=>hk⟩
 refine (h.2 w vs E.ok WR (af.rp hp hr)).mono fun e w' he => ?_
 obtain ⟨v,ok',rfl,had,mh,hv⟩:=he
 have gr:Adv own E ⟨E.μ,ok'⟩ w w' :=
   ⟨⟨fun _ _ h=>h,had.step.ok,had.step.same⟩,had.os,had.tape,had.output,had.size,fun k hk _=>had.block k hk (by omega),fun b hb=>(had.Tm b hb).imp id fun h=>hi.new b h⟩
 refine ⟨v,⟨E.μ,ok'⟩,rfl,gr, ?_, ?_,fun _ _=>rfl⟩
 . refine hi.keep gr rfl mh fun id bk g N hs hm => ?_
   obtain ⟨g',N',cur,ty,hB⟩:=hi.blk id bk hs
   rw [hB.μ] at hm
   simp only [Option.some.injEq,Prod.mk.injEq] at hm
   obtain ⟨rfl,_,rfl⟩:=hm
   have hg:=dH hB.heap
   exact ⟨had.block _ hg (by omega),fun hf hb=>(had.Tm _ hb).elim (hB.no hf) (fun h=>by omega)⟩
 . exact aL.keep (⟨fun _ _ h=>by simp at h,fun _ h=>h,fun _ _=>rfl⟩:Step ⟨fun _=>none,ok'⟩ ⟨E.μ,ok'⟩ w' w') r v hv
def cv (s:VS):xG->Option AV
 | .tmp t=>some (s.t.getD t (.tup []))
 | .cell x agg n=>(gh s.σ agg n (s.t.getD x (.tup []))).map (·.val)
def bR (rs:List xG) (s:VS):Option AV :=
 match rs.mapM (cv s) with
 | some [v]=>some v
 | some vs=>some (.tup vs)
 | none=>none
theorem Hd {α β : Type} {f : α -> Sem β}:∀ (l:List α) (vs:List β),vs.length=l.length->(∀ (i:Nat) (a : α) (v : β),l[i]? = some a->vs[i]? = some v->(f a).run P w = .ok v w)->(l.mapM f).run P w = .ok vs w
 | [],vs,hl,_=>by
   have:vs=[]:=List.eq_nil_of_length_eq_zero hl
   subst this;rfl
 | a::l,[],hl,_=>by simp at hl
 | a::l,v::vs,hl,h=>by
   have h0:=h 0 a v rfl rfl
   have ih:=Hd l vs (by simpa using hl) (fun i x y hx hy=>h (i+1) x y (by simpa using hx) (by simpa using hy))
   simp [List.mapM_cons,h0,ih]
theorem TL {π : Id} {s:VS} {a:Act} (hm:je G π own E w s a) {rv:ResultVar} {vr:xG} (hc:Pk P rv=some vr) {c:AV} (h:cv s vr=some c) :
   ∃ v,(match rv with | .tmp t=>(pure (a.tmps.getD t undef):Sem Value) | .cell x t=>do loadVar t (<- asAddr (a.tmps.getD x undef))).run P w = .ok v w/\aL E w c v:=by
 cases rv with
 | tmp t =>
   simp only [Pk,Option.some.injEq] at hc;subst hc
   simp only [cv,Option.some.injEq] at h;subst h
   exact ⟨_,rfl,hm.frame.get t⟩
 | cell x t =>
   simp only [Pk] at hc
   cases ha:nK P t with
   | none=>simp [ha] at hc
   | some g =>
   cases BD:P.info? t with
   | none=>simp [ha,BD] at hc
   | some i =>
     simp only [ha,BD] at hc
     split at hc
     . simp only [Option.some.injEq] at hc;subst hc
       simp only [cv,Option.map_eq_some_iff] at h
       obtain ⟨r,hr,rfl⟩:=h
       obtain ⟨⟨v,h1,h2⟩,_,ad,had⟩:=Et hm.inv ha BD (hm.frame.get x) hr
       refine ⟨v, ?_,h2⟩
       simp only []
       rw [had] at h1 ⊢
       simpa [Instr.loadAt,Instr.sureAddr,asAddr] using h1
     . simp at hc
theorem Ba {π : Id} {s:VS} {a:Act} (hm:je G π own E w s a) {fn:Func} {rs:List xG} (hc:fn.results.toList.mapM (Pk P)=some rs) {c:AV} (h:bR rs s=some c) :
   ∃ v,(results fn a.tmps).run P w = .ok v w/\aL E w c v:=by
 unfold bR at h
 cases hcs:rs.mapM (cv s) with
 | none=>simp [hcs] at h
 | some cs =>
   have hlen:cs.length=fn.results.toList.length:=by rw [gQ hcs,gQ hc]
   let F:ResultVar->Sem Value:=fun rv=>match rv with | .tmp t=>(pure (a.tmps.getD t undef):Sem Value) | .cell x t=>do loadVar t (<- asAddr (a.tmps.getD x undef))
   have hex:∀ j,j<cs.length->∃ v,(∀ rv,fn.results.toList[j]? = some rv->(F rv).run P w = .ok v w)/\∀ c,cs[j]? = some c->aL E w c v:=by
     intro j hj
     obtain ⟨vr,h1,h2⟩:=mapM_some_get hcs j cs[j] (by simp [hj])
     obtain ⟨rv,h3,h4⟩:=mapM_some_get hc j vr h1
     obtain ⟨v,h5,h6⟩:=TL hm h4 h2
     refine ⟨v,fun rv' wT => ?_,fun c hc => ?_⟩
     . rw [h3] at wT;simp only [Option.some.injEq] at wT;subst wT;exact h5
     . simp only [hj,List.getElem?_eq_getElem,Option.some.injEq] at hc;subst hc;exact h6
   let val:Nat->Value:=fun j=>if hj:j<cs.length then Classical.choose (hex j hj) else undef
   have hval:∀ j (hj:j<cs.length),(∀ rv,fn.results.toList[j]? = some rv->(F rv).run P w = .ok (val j) w)/\∀ c,cs[j]? = some c->aL E w c (val j):=by
     intro j hj
     simp only [val,hj,dif_pos]
     exact Classical.choose_spec (hex j hj)
   let vs:List Value:=(List.range cs.length).map val
   have uF:vs.length=cs.length:=by simp [vs]
   have hrun:(fn.results.toList.mapM F).run P w = .ok vs w:=by
     refine Hd _ vs (by rw [uF,hlen]) fun i rv v wT hv => ?_
     have hi:i<cs.length:=by have:=(List.getElem?_eq_some_iff.1 hv).1;omega
     have:v=val i:=by simp [vs,hi] at hv;exact hv.symm
     subst this
     exact (hval i hi).1 rv wT
   have ND:aM E w cs vs:=bz.2 ⟨uF,fun j c hj=>by
     have nH:=(List.getElem?_eq_some_iff.1 hj).1
     exact ⟨val j,by simp [vs,nH],(hval j nH).2 c hj⟩⟩
   have BF:(results fn a.tmps).run P w=(pure (if h:vs.toArray.size=1 then vs.toArray[0] else .tuple vs.toArray):Sem Value).run P w:=by
     unfold results
     rw [Array.mapM_eq_mapM_toList]
     simp only [Sem.run_bind,Sem.run_map]
     exact congrArg (fun x:Result (List Value)=>(x.andThen fun b w'=>Result.ok b.toArray w').andThen fun b w'=>Sem.run P (pure (if h:b.size=1 then b[0] else Value.tuple b)) w') hrun
   rw [BF]
   refine ⟨_,rfl, ?_⟩
   simp only [hcs] at h
   split at h
   . rename_i c0 heq
     simp only [Option.some.injEq] at heq h
     subst h
     have lX:vs.toArray.size=1:=by simp [uF,heq]
     rw [dif_pos lX]
     rw [heq] at ND
     simp only [aM] at ND
     obtain ⟨v,rest,hv,h1,rfl⟩:=ND
     simpa [hv] using h1
   . rename_i fU hne heq
     simp only [Option.some.injEq] at heq h
     subst h;subst heq
     have lX : ¬ vs.toArray.size=1:=by
       intro e
       simp [uF] at e
       obtain ⟨x,hx⟩:=List.length_eq_one_iff.1 e
       exact hne x (by rw [hx])
     rw [dif_neg lX]
     simp only [aL]
     exact ⟨_,rfl,by simpa using ND⟩
   . simp at *
theorem VP.Vy {f:FuncId} {fn:Func} {vf:ay} (hf:P.funcs[f]? = some fn) (hc:cY P fn=some vf) {args:List AV} {r:AV}
   (h:VW P G [] vf.body (fun e s'=>(e = .normal∨e = .ret)/\∃ r0,bR vf.results s'=some r0/\View s'.σ r0 r) ⟨args++List.replicate (vf.nt-args.length) (.tup []),fun _=>none,0⟩):VP P G f args r:=by
 unfold cY at hc
 split at hc
 . simp at hc
 . rename_i sw
   split at hc
   . rename_i c rs hb JX
     simp only [Option.map_eq_some_iff] at hc
     obtain ⟨vb,hvb,rfl⟩:=hc
     refine ⟨⟨fn,hf,by simpa using sw,by simp [hb]⟩,fun w vs ok hi hr => ?_⟩
     refine calls_of_wp hf hb ?_
     have GK:vs.length=args.length:=aM.len hr
     have hm:je G [] (fun k=>w.heap.size<=k) ⟨fun _=>none,ok⟩ w ⟨args++List.replicate (fn.ntmps-args.length) (.tup []),fun _=>none,0⟩
         { tmps:=vs.toArray++Array.replicate (fn.ntmps-vs.toArray.size) undef,defers:=[] }:=by
       refine ⟨?_,hi,fun _ _ _=>rfl,rfl⟩
       show aM _ w _ _
       simp only [Array.toList_append,Array.toList_replicate,List.size_toArray,GK]
       refine aM.append hr (bz.2 ⟨by simp,fun j c hj => ?_⟩)
       have nH:j<fn.ntmps-args.length:=by have:=(List.getElem?_eq_some_iff.1 hj).1;simpa using this
       simp only [List.getElem?_replicate,nH,if_true,Option.some.injEq] at hj ⊢
       subst hj
       exact ⟨undef,rfl,by simp only [aL,undef];exact ⟨#[],rfl,by simp [aM]⟩⟩
     refine h c hvb _ _ w _ _ hm ?_
     intro e s' E' w' a' hq had qx
     obtain ⟨he,r0,Vz,Lw⟩:=hq
     obtain ⟨v,pj,tk⟩:=Ba qx JX Vz
     have fin:∃ v,(results fn a'.tmps).run P w' = .ok v w'/\∃ v' ok',Ending.returned v = .returned v'/\Adv (fun k=>w.heap.size<=k) ⟨fun _=>none,ok⟩ ⟨fun _=>none,ok'⟩ w w'/\(∀ b,ok' b->b<w'.heap.size)/\aL ⟨fun _=>none,ok'⟩ w' r v':=by
       refine ⟨v,pj,v,(E'.froze s'.σ).ok,rfl, ?_, ?_, ?_⟩
       . refine ⟨⟨fun _ _ h=>by simp at h,fun b hb => .inl (had.step.ok b hb),had.step.same⟩,had.os,had.tape,had.output,had.size,had.block, ?_⟩
         rintro b (hb | ⟨id,bk,k,N,hs,WS⟩)
         . exact had.Tm b hb
         . obtain ⟨g,N',cur,ty,hB⟩:=qx.inv.blk id bk hs
           rw [hB.μ] at WS
           simp only [Option.some.injEq,Prod.mk.injEq] at WS
           right;rw [<- WS.1];exact hB.own
       . rintro b (hb | ⟨id,bk,k,N,hs,WS⟩)
         . exact qx.inv.okb b hb
         . obtain ⟨g,N',cur,ty,hB⟩:=qx.inv.blk id bk hs
           rw [hB.μ] at WS
           simp only [Option.some.injEq,Prod.mk.injEq] at WS
           rw [<- WS.1];exact dH hB.heap
       . exact Lw G _ E' w' v qx.inv tk
     rcases he with rfl | rfl
     . exact ⟨qx.defers,fin⟩
     . exact ⟨qx.defers,fin⟩
   . simp at hc
end
end Go.VL
end

section
namespace Go.VL
section
variable {P:Program} {G:Nat->Option (List AV)} {π : Id} {Q:cD->VS->Prop} {s:VS}
def Fg:List AV->List AV->Prop
 | [],[]=>True
 | c::cs,d::ds=>(d = .top∨d=c)/\Fg cs ds
 | _,_=>False
theorem Fg.rep {E:Env} {w:World}:∀ {cs ds:List AV} {vs:List Value},Fg cs ds->aM E w cs vs->aM E w ds vs
 | [],[],_,_,h=>h
 | c::cs,d::ds,vs,hf,h=>by
   simp only [Fg] at hf
   simp only [aM] at h ⊢
   obtain ⟨v,rest,e,h1,h2⟩:=h
   refine ⟨v,rest,e, ?_,Fg.rep hf.2 h2⟩
   rcases hf.1 with rfl | rfl
   . simp [aL]
   . exact h1
 | [],_::_,_,h,_=>by simp [Fg] at h
 | _::_,[],_,h,_=>by simp [Fg] at h
theorem Wk.forget {t t':List AV} {σ σ':aa} {n n':Nat} (ht:Fg t t') (hs:∀ id, σ' id=none ∨ σ' id = σ id) (hn:n<=n'):Wk G π ⟨t, σ,n⟩ ⟨t', σ',n'⟩ :=
 fun own E w _ hm=>⟨E,ky.refl own π E w,ht.rep hm.frame,hm.inv.sub hs,hm.free.mono hn,hm.defers⟩
theorem Wk.slots {t t':List AV} {σ : aa} {n n':Nat} (ht:Fg t t') (hn:n<=n'):Wk G π ⟨t, σ,n⟩ ⟨t', σ,n'⟩:=Wk.forget ht (fun _ => .inr rfl) hn
def VRd (P:Program) (G:Nat->Option (List AV)) (π : Id) (x:bW) (Q:cD->VS->Prop):Nat->VS->Prop
 | 0,_=>False
 | n+1,s=>VW P G π x (Then (VRd P G π x Q n) Q) s
theorem VW.rounds {x:bW} (n:Nat) (h:VRd P G π x Q n s):VW P G π (.loop x) Q s:=by
 intro c hc own E w a R hm hR
 cases c<;>simp only [eC,Option.some.injEq,reduceCtorEq] at hc
 case loop cb =>
   cases h1:eC P cb with
   | none=>simp [h1] at hc
   | some vb =>
     simp only [h1,Option.map_some,Option.some.injEq,bW.loop.injEq] at hc
     subst hc
     refine wp_loop_rounds n ?_
     have key:∀ n s E2 w2 a2,VRd P G π vb Q n s->ky own π E E2 w w2->je G π own E2 w2 s a2->Code.rounds P cb R n a2 w2:=by
       intro n
       induction n with
       | zero=>intro s E2 w2 a2 h _ _;exact h.elim
       | succ n ih =>
         intro s E2 w2 a2 h ad hm
         refine h cb h1 own E2 w2 a2 _ hm ?_
         intro e s' E' w' a' hq had qx
         cases e with
         | normal=>exact ih s' E' w' a' hq (ad.trans had) qx
         | exit id=>exact hR (.exit id) s' E' w' a' hq (ad.trans had) qx
         | ret=>exact hR .ret s' E' w' a' hq (ad.trans had) qx
     exact key n s E w a h (ky.refl own π E w) hm
 case region=>exfalso;revert hc;unfold lD;(repeat' split)<;>simp
 all_goals (exfalso;revert hc;(repeat' split)<;>simp)
end
end Go.VL
end

section
namespace Go.VL
def gB.vF {α : Type}:gB α -> Bool
 | .call _ _=>true
 | _=>false
def EG (G:Nat->Option (List AV)) (σ : aa) (p:Id) (d:Option Nat) (op:gB aS) (g:Option (Nat × Bool)) (t:List AV):Option (List AV × dN × aa) :=
 match eO t g with
 | none=>none
 | some false=>some (fG t d (.tup []),{ val := .tup [] }, σ)
 | some true=>match b8 σ p (op.map (aS.ev G t)) with
   | some r=>some (fG t d r.val,r, σ.app r.up)
   | none=>none
section
variable (P:Program) (G:Nat->Option (List AV)) (π : Id)
def vs (base:Nat) (Q:cD->VS->Prop) (n:Nat) (os:List bp) (i:Nat) (t:List AV) (σ : aa):Prop :=
 yw P G π base (fun t σ => Q .normal ⟨t, σ,n⟩) os i t σ
def vd (base:Nat) (Q:cD->VS->Prop) (n:Nat) (ps:List (Nat × Nat)) (os:List bp) (i:Nat) (acc:List dN) (t:List AV) (σ : aa):Prop :=
 yx P G π base (fun rs t σ => ar rs ps/\Q .normal ⟨t, σ,n⟩) os i acc t σ
def Zy (base:Nat) (Q:cD->VS->Prop) (n:Nat) (os:List bp) (i:Nat):Option (List AV × dN × aa)->Prop
 | some (t,_, σ)=>vs P G π base Q n os i t σ
 | none=>False
def Zz (base:Nat) (Q:cD->VS->Prop) (n:Nat) (ps:List (Nat × Nat)) (os:List bp) (i:Nat) (acc:List dN):Option (List AV × dN × aa)->Prop
 | some (t,r, σ)=>vd P G π base Q n ps os i (r::acc) t σ
 | none=>False
def pO (base:Nat) (Q:cD->VS->Prop) (n:Nat) (d:Option Nat) (os:List bp) (i:Nat) (t:List AV) (σ : aa) (f:FuncId) (args:List AV):Prop :=
 ∃ S r,aB P G f args ((base+i) :: π) S r/\(∀ x∈S, σ x.1=some x.2)/\(∀ x∈S,x.1∈r.rd)/\vs P G π base Q n os (i+1) (fG t d r.val) (σ.app r.up)
def F2 (base:Nat) (Q:cD->VS->Prop) (n:Nat) (ps:List (Nat × Nat)) (d:Option Nat) (os:List bp) (i:Nat) (acc:List dN) (t:List AV) (σ : aa) (f:FuncId) (args:List AV):Prop :=
 ∃ S r,aB P G f args ((base+i) :: π) S r/\(∀ x∈S, σ x.1=some x.2)/\(∀ x∈S,x.1∈r.rd)/\vd P G π base Q n ps os (i+1) (r::acc) (fG t d r.val) (σ.app r.up)
def Lx (base:Nat) (Q:cD->VS->Prop) (n:Nat) (d:Option Nat) (os:List bp) (i:Nat) (t:List AV) (σ : aa):Option Bool->AV->List AV->Prop
 | some true, .fn (.func f) first cap,l=>pO P G π base Q n d os i t σ f (first++l++cap)
 | some false,_,_=>vs P G π base Q n os (i+1) (fG t d (.tup [])) σ
 | _,_,_=>False
def Ly (base:Nat) (Q:cD->VS->Prop) (n:Nat) (ps:List (Nat × Nat)) (d:Option Nat) (os:List bp) (i:Nat) (acc:List dN) (t:List AV) (σ : aa):Option Bool->AV->List AV->Prop
 | some true, .fn (.func f) first cap,l=>F2 P G π base Q n ps d os i acc t σ f (first++l++cap)
 | some false,_,_=>vd P G π base Q n ps os (i+1) ({ val := .tup [] }::acc) (fG t d (.tup [])) σ
 | _,_,_=>False
variable {P} {G} {π}
variable {base:Nat} {Q:cD->VS->Prop} {n:Nat} {ps:List (Nat × Nat)} {d:Option Nat} {g:Option (Nat × Bool)} {os:List bp} {i:Nat} {acc:List dN} {t:List AV} {σ : aa}
theorem PO:vs P G π base Q n [] i t σ = Q .normal ⟨t, σ,n⟩:=(rfl)
theorem PQ:vd P G π base Q n ps [] i acc t σ = (ar acc.reverse ps/\Q .normal ⟨t, σ,n⟩):=(rfl)
theorem He {σ : aa} {p:Id} {op:gB AV} {K:dN->Prop} (h:op.vF=false):yv P G σ p op K=(match b8 σ p op with | some r=>K r | none=>False):=by
 cases op<;>first | rfl | simp [gB.vF] at h
theorem Cx {op:gB aS} {f:aS->AV}:(op.map f).vF=op.vF:=by cases op<;>rfl
theorem ZA {op:gB aS} (h:op.vF=false):vs P G π base Q n (⟨d,op,g⟩::os) i t σ = Zy P G π base Q n os (i+1) (EG G σ ((base+i) :: π) d op g t):=by
 unfold vs
 simp only [yw,EG]
 cases hw:eO t g with
 | none=>rfl
 | some b =>
   cases b with
   | false=>rfl
   | true =>
     simp only []
     rw [He (by rw [Cx];exact h)]
     cases b8 σ ((base+i) :: π) (op.map (aS.ev G t))<;>rfl
theorem ZB {op:gB aS} (h:op.vF=false):vd P G π base Q n ps (⟨d,op,g⟩::os) i acc t σ = Zz P G π base Q n ps os (i+1) acc (EG G σ ((base+i) :: π) d op g t):=by
 unfold vd
 simp only [yx,EG]
 cases hw:eO t g with
 | none=>rfl
 | some b =>
   cases b with
   | false=>rfl
   | true =>
     simp only []
     rw [He (by rw [Cx];exact h)]
     cases b8 σ ((base+i) :: π) (op.map (aS.ev G t))<;>rfl
theorem TM {f:aS} {l:List aS}:vs P G π base Q n (⟨d, .call f l,g⟩::os) i t σ = Lx P G π base Q n d os i t σ (eO t g) (f.ev G t) (l.map (aS.ev G t)):=by
 unfold vs Lx
 simp only [yw]
 cases hw:eO t g with
 | none=>rfl
 | some b =>
   cases b with
   | false=>rfl
   | true =>
     simp only [gB.map,yv]
     cases hf:f.ev G t<;>try rfl
     rename_i fn a c
     cases fn<;>rfl
theorem TN {f:aS} {l:List aS}:vd P G π base Q n ps (⟨d, .call f l,g⟩::os) i acc t σ = Ly P G π base Q n ps d os i acc t σ (eO t g) (f.ev G t) (l.map (aS.ev G t)):=by
 unfold vd Ly
 simp only [yx]
 cases hw:eO t g with
 | none=>rfl
 | some b =>
   cases b with
   | false=>rfl
   | true =>
     simp only [gB.map,yv]
     cases hf:f.ev G t<;>try rfl
     rename_i fn a c
     cases fn<;>rfl
theorem Cy {f:FuncId} {first cap l:List AV}:Lx P G π base Q n d os i t σ (some true) (.fn (.func f) first cap) l=pO P G π base Q n d os i t σ f (first++l++cap):=(rfl)
theorem Cz {f:FuncId} {first cap l:List AV}:Ly P G π base Q n ps d os i acc t σ (some true) (.fn (.func f) first cap) l=F2 P G π base Q n ps d os i acc t σ f (first++l++cap):=(rfl)
theorem aj {f:FuncId} {args:List AV} {r:AV} (h:VP P G f args r) (hp:∀ c∈args,af c) (k:vs P G π base Q n os (i+1) (fG t d r) σ):pO P G π base Q n d os i t σ f args :=
 ⟨[],{ val:=r },aB.PN h hp _,by simp,by simp,k⟩
theorem ax {f:FuncId} {args:List AV} {r:AV} (h:VP P G f args r) (hp:∀ c∈args,af c) (k:vd P G π base Q n ps os (i+1) ({ val:=r }::acc) (fG t d r) σ):F2 P G π base Q n ps d os i acc t σ f args :=
 ⟨[],{ val:=r },aB.PN h hp _,by simp,by simp,k⟩
def Hf (P:Program) (G:Nat->Option (List AV)) (π : Id) (x y:bW) (Q:cD->VS->Prop) (s:VS):AV->Prop
 | .bool b=>if b then sq P G π x Q s else sq P G π y Q s
 | .anyb=>sq P G π x Q s/\sq P G π y Q s
 | _=>False
theorem CA {x y:bW} {s:VS}:Hf P G π x y Q s (.bool true)=sq P G π x Q s:=(rfl)
theorem Bb {x y:bW} {s:VS}:Hf P G π x y Q s (.bool false)=sq P G π y Q s:=(rfl)
theorem EH {x y:bW} {s:VS}:Hf P G π x y Q s .anyb=(sq P G π x Q s/\sq P G π y Q s):=(rfl)
theorem Hg {s:VS}:sq P G π .skip Q s=Q .normal s:=(rfl)
theorem CB {os:List bp} {n:Nat}:sq P G π (.reg none os) Q ⟨t, σ,n⟩=vs P G π n Q (n+os.length) os 0 t σ := (rfl)
theorem CC {os:List bp} {n:Nat}:sq P G π (.reg (some ps) os) Q ⟨t, σ,n⟩=vd P G π n Q (n+os.length) ps os 0 [] t σ := (rfl)
theorem Lz {x y:bW} {s:VS}:sq P G π (.seq x y) Q s=sq P G π x (Then (sq P G π y Q) Q) s:=(rfl)
theorem Hh {c:aS} {x y:bW} {n:Nat}:sq P G π (.cond c x y) Q ⟨t, σ,n⟩=Hf P G π x y Q ⟨t, σ,n⟩ (c.ev G t):=by
 simp only [sq,Hf]<;>cases c.ev G t<;>rfl
theorem Ac {id:Nat} {x:bW} {s:VS}:sq P G π (.block id x) Q s=sq P G π x (NC id Q) s:=(rfl)
theorem aD {x:bW} {s:VS}:sq P G π (.loop x) Q s=VW P G π (.loop x) Q s:=(rfl)
theorem Hi {id:Nat} {s:VS}:sq P G π (.exit id) Q s=Q (.exit id) s:=(rfl)
theorem LA {s:VS}:sq P G π .ret Q s=Q .ret s:=(rfl)
def Hj (rs:List xG) (r:AV) (e:cD) (s:VS):Prop:=(e = .normal∨e = .ret)/\∃ r0,bR rs s=some r0/\View s.σ r0 r
theorem ag {rs:List xG} {r:AV} {s:VS}:Hj rs r .ret s=∃ r0,bR rs s=some r0/\View s.σ r0 r:=by simp [Hj]
theorem Bc {rs:List xG} {r:AV} {s:VS}:Hj rs r .normal s=∃ r0,bR rs s=some r0/\View s.σ r0 r:=by simp [Hj]
def Hk {α : Type} (G:Nat->Option (List AV)) (π : Id) (st : α -> VS) (Pr : α -> Prop) (m : α -> Nat) (a : α) (Q:cD->VS->Prop):cD->VS->Prop
 | .normal,s'=>∃ a',Pr a'/\m a'<m a/\Wk G π s' (st a')
 | .exit i,s'=>Q (.exit i) s'
 | .ret,s'=>Q .ret s'
theorem yD {α : Type} {st : α -> VS} {Pr : α -> Prop} {m : α -> Nat} {a : α} {s':VS}:Hk G π st Pr m a Q .normal s'=∃ a',Pr a'/\m a'<m a/\Wk G π s' (st a'):=(rfl)
theorem CD {α : Type} {st : α -> VS} {Pr : α -> Prop} {m : α -> Nat} {a : α} {s':VS} {j:Nat}:Hk G π st Pr m a Q (.exit j) s'=Q (.exit j) s':=(rfl)
theorem EI {α : Type} {st : α -> VS} {Pr : α -> Prop} {m : α -> Nat} {a : α} {s':VS}:Hk G π st Pr m a Q .ret s'=Q .ret s':=(rfl)
theorem VW.bL {α : Type} {x:bW} {s:VS} (st : α -> VS) (Pr : α -> Prop) (m : α -> Nat) (x0 : α) (hw:Wk G π s (st x0)) (h0:Pr x0)
   (h:∀ a,Pr a->sq P G π x (Hk G π st Pr m a Q) (st a)):VW P G π (.loop x) Q s:=by
 refine VW.wk hw ?_
 intro c hc own E w a R hm hR
 cases c<;>simp only [eC,Option.some.injEq,reduceCtorEq] at hc
 case loop cb =>
   cases h1:eC P cb with
   | none=>simp [h1] at hc
   | some vb =>
     simp only [h1,Option.map_some,Option.some.injEq,bW.loop.injEq] at hc
     subst hc
     refine vE (α := α) (fun g a' w'=>Pr g/\∃ E',ky own π E E' w w'/\je G π own E' w' (st g) a') m (x:=x0) ⟨h0,E,ky.refl own π E w,hm⟩ ?_
     rintro g a2 w2 ⟨Ha,E2,NB,ti⟩
     refine VW.of (h g Ha) cb h1 own E2 w2 a2 _ ti ?_
     intro e s' E' w' a' hq had qx
     cases e with
     | normal =>
       obtain ⟨g',Zv,hlt,WQ⟩:=hq
       obtain ⟨E3,Zw,Zx⟩:=WQ own E' w' a' qx
       exact ⟨g',⟨Zv,E3,(NB.trans had).trans Zw,Zx⟩,hlt⟩
     | exit id=>exact hR (.exit id) s' E' w' a' hq (NB.trans had) qx
     | ret=>exact hR .ret s' E' w' a' hq (NB.trans had) qx
 case region=>exfalso;revert hc;unfold lD;(repeat' split)<;>simp
 all_goals (exfalso;revert hc;(repeat' split)<;>simp)
theorem VP.of {f:FuncId} {fn:Func} {vf:ay} (hf:P.funcs[f]? = some fn) (hc:cY P fn=some vf) {args:List AV} {r:AV}
   (h:sq P G [] vf.body (Hj vf.results r) ⟨args++List.replicate (vf.nt-args.length) (.tup []),fun _=>none,0⟩):VP P G f args r :=
 VP.Vy hf hc (VW.of h)
end
end Go.VL
end

section
namespace Go.VL
def aa.of (S:List (Id × dC)):aa:=fun i=>S.lookup i
theorem gn {S:List (Id × dC)} {i:Id} {b:dC}:S.lookup i=some b->(i,b)∈S:=by
 induction S with
 | nil=>intro h;simp at h
 | cons x S ih =>
   intro h
   obtain ⟨j,c⟩:=x
   simp only [List.lookup_cons] at h
   split at h
   . rename_i he
     have:i=j:=by simpa using he
     subst this
     simp only [Option.some.injEq] at h;subst h;simp
   . exact List.mem_cons_of_mem _ (ih h)
theorem aa.vG {S:List (Id × dC)} {σ : aa} (h:∀ x∈S, σ x.1=some x.2) (i:Id):aa.of S i=none∨aa.of S i = σ i:=by
 cases hl:S.lookup i with
 | none=>exact .inl hl
 | some b=>right;show S.lookup i = σ i;rw [hl];exact (h _ (gn hl)).symm
theorem aa.Kc (up:List (Id × Option dC)) (σ σ':aa) (i:Id) (h:(∃ x∈up,x.1=i) ∨ σ i = σ' i) : σ.app up i = σ'.app up i:=by
 induction up generalizing σ σ' with
 | nil =>
   rcases h with ⟨x,hx,_⟩ | h
   . simp at hx
   . exact h
 | cons x up ih =>
   obtain ⟨j,b⟩:=x
   simp only [aa.app]
   apply ih
   by_cases hj:i=j
   . right;subst hj;simp [aa.put]
   . rcases h with ⟨y,hy,he⟩ | h
     . simp only [List.mem_cons] at hy
       rcases hy with rfl | hy
       . exact absurd he.symm hj
       . exact .inl ⟨y,hy,he⟩
     . right;simp [aa.put,hj,h]
theorem aa.TP (up:List (Id × Option dC)) (σ : aa) (i:Id) (h:∀ x∈up,x.1≠i) : σ.app up i = σ i:=by
 induction up generalizing σ with
 | nil=>rfl
 | cons x up ih =>
   obtain ⟨j,b⟩:=x
   simp only [aa.app]
   rw [ih _ fun y hy=>h y (List.mem_cons_of_mem _ hy),aa.bd]
   exact fun e=>h (j,b) (by simp) e.symm
section
variable {P:Program} {G:Nat->Option (List AV)}
def Fin (G:Nat->Option (List AV)) (p:Id) (S:List (Id × dC)) (σ':aa) (r0:AV) (r:dN):Prop :=
 ∀ own E w v,Inv G own E w σ'->aL E w r0 v->E.μ p=none->∃ E',ky own p E E' w w/\Inv G own E' w ((aa.of S).app r.up)/\aL E' w r.val v
def NF (G:Nat->Option (List AV)) (p:Id) (S:List (Id × dC)) (rs:List xG) (r:dN) (e:cD) (s:VS):Prop :=
 (e = .normal∨e = .ret)/\∃ r0,bR rs s=some r0/\Fin G p S s.σ r0 r
theorem aB.VA {f:FuncId} {fn:Func} {vf:ay} (hf:P.funcs[f]? = some fn) (hc:cY P fn=some vf) {args:List AV} {p:Id} {S:List (Id × dC)} {r:dN}
   (h:VW P G p vf.body (NF G p S vf.results r) ⟨args++List.replicate (vf.nt-args.length) (.tup []),aa.of S,0⟩):aB P G f args p S r:=by
 unfold cY at hc
 split at hc
 . simp at hc
 . rename_i sw
   split at hc
   . rename_i c rs hb JX
     simp only [Option.map_eq_some_iff] at hc
     obtain ⟨vb,hvb,rfl⟩:=hc
     refine ⟨⟨fn,hf,by simpa using sw,by simp [hb]⟩,fun own E w σ vs hS hi hr hμ => ?_⟩
     refine calls_of_wp hf hb ?_
     have GK:vs.length=args.length:=aM.len hr
     let D9:Nat->Prop:=fun g=>(∃ x∈S,∃ y,E.μ x.1=some y/\y.1=g)∨w.heap.size<=g
     have xI:∀ i,aa.of S i=none∨aa.of S i = σ i:=aa.vG hS
     have NG:∀ g,D9 g->own g:=by
       rintro g (⟨x,hx,y,hy,rfl⟩ | hg)
       . obtain ⟨g,N,cur,ty,hB⟩:=hi.blk _ _ (hS x hx)
         have:=hB.μ.symm.trans hy
         simp only [Option.some.injEq] at this
         subst this
         exact hB.own
       . exact hi.new g hg
     have WR:Inv G D9 E w (aa.of S):=by
       refine ⟨hi.okb,fun id bk hs => ?_,(hi.sub xI).inj,hi.glob,fun k hk => .inr hk⟩
       have hm:=gn hs
       obtain ⟨g,N,cur,ty,hB⟩:=hi.blk _ _ (hS _ hm)
       exact ⟨g,N,cur,ty,hB.μ,hB.heap,hB.size,hB.len,hB.most, .inl ⟨_,hm,_,hB.μ,rfl⟩,hB.ok,hB.no,hB.k,hB.row⟩
     have hm:je G p D9 E w ⟨args++List.replicate (fn.ntmps-args.length) (.tup []),aa.of S,0⟩
         { tmps:=vs.toArray++Array.replicate (fn.ntmps-vs.toArray.size) undef,defers:=[] }:=by
       refine ⟨?_,WR,fun j hj _=>hμ j hj,rfl⟩
       show aM _ w _ _
       simp only [Array.toList_append,Array.toList_replicate,List.size_toArray,GK]
       refine aM.append hr (bz.2 ⟨by simp,fun j c hj => ?_⟩)
       have nH:j<fn.ntmps-args.length:=by have:=(List.getElem?_eq_some_iff.1 hj).1;simpa using this
       simp only [List.getElem?_replicate,nH,if_true,Option.some.injEq] at hj ⊢
       subst hj
       exact ⟨undef,rfl,by simp only [aL,undef];exact ⟨#[],rfl,by simp [aM]⟩⟩
     refine h c hvb D9 E w _ _ hm ?_
     intro e s' E' w' a' hq had qx
     obtain ⟨he,r0,Vz,uV⟩:=hq
     obtain ⟨v,pj,tk⟩:=Ba qx JX Vz
     obtain ⟨E2,F1,Ew,hv3⟩:=uV D9 E' w' v qx.inv tk qx.free.self
     have gr:ky D9 p E E2 w w':=had.trans F1
     have ZC:Adv own E E2 w w' :=
       ⟨gr.step,gr.os,gr.tape,gr.output,gr.size,fun k hk ho=>gr.block k hk fun h=>ho (NG k h),fun b hb=>(gr.Tm b hb).imp id (NG b)⟩
     -- a block of the caller that the function did not have
     have key:∀ i bk, σ i=some bk->aa.of S i=none->∀ g N cur ty,xj E own w i bk g N cur ty -> ¬ D9 g:=by
       intro i bk hs hn g N cur ty hB
       rintro (⟨x,hx,y,hy,he⟩ | hg)
       . refine hi.inj x.1 i y (g,bk.k,N) (by simp [hS x hx]) (by simp [hs]) ?_ hy hB.μ he
         intro e
         have:=hS x hx
         have h1:(aa.of S) x.1≠none:=by
           show S.lookup x.1≠none
           intro hl
           rw [List.lookup_eq_none_iff] at hl
           have:=hl x hx
           simp at this
         rw [e] at h1
         exact h1 hn
       . have:=dH hB.heap;omega
     have fin:∃ v',Ending.returned v = .returned v'/\kU G own E w σ p r v' E2 w':=by
       refine ⟨v,rfl,ZC, ?_,hv3,gr.ids⟩
       -- the invariant of the caller's store
       have Ad:∀ i,(σ.app r.up i=(aa.of S).app r.up i)∨(σ.app r.up i = σ i/\(aa.of S i=none)):=by
         intro i
         by_cases h:(∃ x∈r.up,x.1=i) ∨ σ i=aa.of S i
         . exact .inl (aa.Kc r.up σ (aa.of S) i h)
         . right
           have h1:∀ x∈r.up,x.1≠i:=fun x hx e=>h (.inl ⟨x,hx,e⟩)
           refine ⟨aa.TP r.up σ i h1, ?_⟩
           rcases xI i with h2 | h2
           . exact h2
           . exact absurd (.inr h2.symm) h
       have hold:∀ i bk, σ i=some bk->aa.of S i=none->∃ g N cur ty,xj E own w i bk g N cur ty/\xj E2 own w' i bk g N cur ty /\ ¬ D9 g:=by
         intro i bk hs hn
         obtain ⟨g,N,cur,ty,hB⟩:=hi.blk i bk hs
         have hno:=key i bk hs hn g N cur ty hB
         refine ⟨g,N,cur,ty,hB,hB.keep gr.step (gr.block g (dH hB.heap) hno) (fun hf mh => ?_),hno⟩
         exact (gr.Tm g mh).elim (hB.no hf) hno
       refine ⟨Ew.okb,fun i bk hs => ?_,fun i j x y jc hj' hne hx hy => ?_,Ew.glob,fun k hk=>hi.new k (Nat.le_trans gr.size hk)⟩
       . rcases Ad i with h1 | ⟨h1,h2⟩
         . rw [h1] at hs
           obtain ⟨g,N,cur,ty,hB⟩:=Ew.blk i bk hs
           exact ⟨g,N,cur,ty,hB.μ,hB.heap,hB.size,hB.len,hB.most,NG g hB.own,hB.ok,hB.no,hB.k,hB.row⟩
         . rw [h1] at hs
           obtain ⟨g,N,cur,ty,_,hB,_⟩:=hold i bk hs h2
           exact ⟨g,N,cur,ty,hB⟩
       . have new:∀ i x, σ.app r.up i≠none -> σ.app r.up i=(aa.of S).app r.up i->E2.μ i=some x->D9 x.1:=by
           intro i x hn he hx
           rw [he] at hn
           cases hb:(aa.of S).app r.up i with
           | none=>exact absurd hb hn
           | some bk =>
             obtain ⟨g,N,cur,ty,hB⟩:=Ew.blk i bk hb
             have:=hB.μ.symm.trans hx
             simp only [Option.some.injEq] at this
             subst this
             exact hB.own
         have old:∀ i x, σ.app r.up i≠none -> σ.app r.up i = σ i->aa.of S i=none->E2.μ i=some x -> ¬ D9 x.1:=by
           intro i x hn he hs hx
           rw [he] at hn
           cases hb : σ i with
           | none=>exact absurd hb hn
           | some bk =>
             obtain ⟨g,N,cur,ty,_,hB,hno⟩:=hold i bk hb hs
             have:=hB.μ.symm.trans hx
             simp only [Option.some.injEq] at this
             subst this
             exact hno
         rcases Ad i with h1 | ⟨h1,h2⟩<;>rcases Ad j with h3 | ⟨h3,h4⟩
         . exact Ew.inj i j x y (h1▸jc) (h3▸hj') hne hx hy
         . intro e;exact old j y hj' h3 h4 hy (e▸new i x jc h1 hx)
         . intro e;exact old i x jc h1 h2 hx (e▸new j y hj' h3 hy)
         . have lift:∀ i x, σ.app r.up i≠none -> σ.app r.up i = σ i->aa.of S i=none->E2.μ i=some x->E.μ i=some x:=by
             intro i x hn he hs hx
             rw [he] at hn
             cases hb : σ i with
             | none=>exact absurd hb hn
             | some bk =>
               obtain ⟨g,N,cur,ty,hB,uI,hno⟩:=hold i bk hb hs
               rw [hB.μ, <- uI.μ,hx]
           exact hi.inj i j x y (h1▸jc) (h3▸hj') hne (lift i x jc h1 h2 hx) (lift j y hj' h3 h4 hy)
     have ZD:∃ v0,(results fn a'.tmps).run P w' = .ok v0 w'/\∃ v' E',Ending.returned v0 = .returned v'/\kU G own E w σ p r v' E' w':=by
       obtain ⟨v',h1,h2⟩:=fin
       exact ⟨v,pj,v',E2,h1,h2⟩
     rcases he with rfl | rfl
     . exact ⟨qx.defers,ZD⟩
     . exact ⟨qx.defers,ZD⟩
   . simp at hc
theorem Fin.same {p:Id} {S:List (Id × dC)} {σ':aa} {r0:AV} {r:dN} (hv:r.val=r0) (hs:∀ i,(aa.of S).app r.up i=none∨(aa.of S).app r.up i = σ' i):Fin G p S σ' r0 r :=
 fun own E w _ hi hr _=>⟨E,ky.refl own p E w,hi.sub hs,hv▸hr⟩
end
end Go.VL
end

section
namespace Go.VL
abbrev aK:=List (Id × dC × Bool)
def aK.find:aK->Id->Option dC
 | [],_=>none
 | (j,b,_)::L,i=>if i=j then some b else aK.find L i
def aK.del:aK->Id->aK
 | [],_=>[]
 | x::L,i=>if i=x.1 then aK.del L i else x::aK.del L i
def aK.to (L:aK):aa:=fun i=>L.find i
def aK.one (L:aK):Id × Option dC->aK
 | (i,some b)=>(i,b,true)::L.del i
 | (i,none)=>L.del i
def aK.app (L:aK):List (Id × Option dC)->aK
 | []=>L
 | x::up=>(L.one x).app up
theorem aK.Hl (L:aK) (i j:Id):(L.del i).find j=if j=i then none else L.find j:=by
 induction L with
 | nil=>simp [aK.del,aK.find]
 | cons x L ih =>
   obtain ⟨a,b,c⟩:=x
   simp only [aK.del]
   by_cases h:i=a
   . subst h
     simp only [if_true,ih,aK.find]
     by_cases h2:j=i
     . simp [h2]
     . simp [h2]
   . simp only [if_neg h,aK.find,ih]
     by_cases h2:j=a
     . subst h2
       have : ¬ j=i:=fun e=>h e.symm
       simp [this]
     . simp [h2]
theorem aK.WT (L:aK) (x:Id × Option dC):(L.one x).to=L.to.put x.1 x.2:=by
 obtain ⟨i,b⟩:=x
 funext j
 cases b with
 | none=>simp only [aK.one,aK.to,aK.Hl,aa.put]
 | some b =>
   simp only [aK.one,aK.to,aK.find,aK.Hl,aa.put]
   split<;>simp_all
theorem aK.PR (up:List (Id × Option dC)):∀ L:aK,(L.app up).to=L.to.app up:=by
 induction up with
 | nil=>intro L;rfl
 | cons x up ih=>intro L;simp only [aK.app,ih,aK.WT,aa.app]
mutual
def AV.ids:AV->List Id
 | .fn _ a c=>Hm a++Hm c
 | .agg cs | .tup cs | .sl _ cs | .tsl _ cs | .ep cs _=>Hm cs
 | .osl i _ _ _ _ | .ref i _ _=>[i]
 | _=>[]
def Hm:List AV->List Id
 | []=>[]
 | c::cs=>c.ids++Hm cs
end
def reach:Nat->aK->List Id->List (Id × dC)->List (Id × dC)
 | 0,_,_,S=>S
 | _+1,_,[],S=>S
 | n + 1,L,i::is,S=>match S.lookup i with
   | some _=>reach n L is S
   | none=>match L.find i with
     | some b=>reach n L (Hm b.els++is) ((i,b)::S)
     | none=>reach n L is S
theorem sA {L:aK}:∀ (n:Nat) (is:List Id) (S:List (Id × dC)),(∀ x∈S,L.to x.1=some x.2)->∀ x∈reach n L is S,L.to x.1=some x.2
 | 0,_,_,h=>h
 | _+1,[],_,h=>by simpa [reach] using h
 | n + 1,i::is,S,h=>by
   simp only [reach]
   split
   . exact sA n is S h
   . split
     . rename_i b hb
       refine sA n _ _ fun x hx => ?_
       rcases List.mem_cons.1 hx with rfl | hx
       . exact hb
       . exact h x hx
     . exact sA n is S h
inductive Hn where
 | leaf
 | node (k:Nat) (v:ay) (l r:Hn)
def Hn.find:Hn->Nat->Option ay
 | .leaf,_=>none
 | .node k v l r,f=>if f=k then some v else if f<k then l.find f else r.find f
def Hn.Of (P:Program):Hn->Prop
 | .leaf=>True
 | .node k v l r=>(∃ fn,P.funcs[k]? = some fn/\cY P fn=some v)/\l.Of P/\r.Of P
theorem Hn.F3 {P:Program} {f:Nat} {vf:ay}:∀ {T:Hn},T.Of P->T.find f=some vf->∃ fn,P.funcs[f]? = some fn/\cY P fn=some vf
 | .leaf,_,h=>by simp [Hn.find] at h
 | .node k v l r,ho,h=>by
   simp only [Hn.find] at h
   split at h
   . rename_i e
     simp only [Option.some.injEq] at h
     subst h;subst e
     exact ho.1
   . split at h
     . exact Hn.F3 ho.2.1 h
     . exact Hn.F3 ho.2.2 h
section
variable (G:Nat->Option (List AV))
def Kd (C:FuncId->List AV->Id->aK->Option dN) (L:aK) (p:Id) (op:gB AV):Option dN :=
 match op with
 | .call f as=>match f with
   | .fn (.func f) first cap=>C f (first++as++cap) p L
   | _=>none
 | op=>b8 L.to p op
def uK (C:FuncId->List AV->Id->aK->Option dN) (π : Id) (base:Nat):List bp->Nat->List dN->List AV->aK->Option (List dN × List AV × aK)
 | [],_,acc,t,L=>some (acc,t,L)
 | o :: os,i,acc,t,L=>match eO t o.guard with
   | none=>none
   | some false=>uK C π base os (i+1) ({ val := .tup [] }::acc) (fG t o.dst (.tup [])) L
   | some true=>match Kd C L ((base+i) :: π) (o.op.map (aS.ev G t)) with
     | none=>none
     | some r=>uK C π base os (i+1) (r::acc) (fG t o.dst r.val) (L.app r.up)
def CE (a b:List Id):Bool:=a.all fun i => !b.contains i
def PS (a b:dN):Bool:=CE (a.up.map (·.1)) b.rd&&CE (a.up.map (·.1)) (b.up.map (·.1))&&CE (b.up.map (·.1)) a.rd
def Ae (rs:List dN) (ps:List (Nat × Nat)):Bool:=ps.all fun q=>match rs[q.1]?,rs[q.2]? with
 | some a,some b=>PS a b
 | _,_=>true
structure LS where
 t:List AV
 L:aK
 n:Nat
def LS.to (s:LS):VS:=⟨s.t,s.L.to,s.n⟩
def aK.live (L:aK) (K:List (Id × dC)):aK:=L.filter fun x=>(K.lookup x.1).isSome
def ups (S:List (Id × dC)) (L:aK):List (Id × Option dC) :=
 (S.filter fun x=>(L.find x.1).isNone).map (fun x=>(x.1,none))++(L.filter fun x=>x.2.2).map fun x=>(x.1,some x.2.1)
def xM (X:FuncId->List AV->Id->aK->Option dN) (R:bW->Id->LS->Option (cD × LS)) (T:Hn) (f:FuncId) (args:List AV) (p:Id) (L:aK):Option dN :=
 match X f args p L with
 | some r=>some r
 | none =>
 match T.find f with
 | none=>none
 | some vf =>
   let S:=reach 1000 L (Hm args) []
   match R vf.body p ⟨args++List.replicate (vf.nt-args.length) (.tup []),S.map fun x=>(x.1,x.2,false),0⟩ with
   | some (.normal,s) | some (.ret,s)=>match bR vf.results s.to with
     | some r0=>some { val:=r0,rd:=S.map (·.1),up:=ups S (s.L.live (reach 1000 s.L (r0.ids++S.map (·.1)) [])) }
     | none=>none
   | _=>none
def run (X:FuncId->List AV->Id->aK->Option dN) (T:Hn):Nat->bW->Id->LS->Option (cD × LS)
 | 0,_,_,_=>none
 | m + 1,c, π,s=>match c with
   | .skip=>some (.normal,s)
   | .ret=>some (.ret,s)
   | .exit i=>some (.exit i,s)
   | .seq a b=>match run X T m a π s with
     | some (.normal,s')=>run X T m b π s'
     | r=>r
   | .cond c a b=>match c.ev G s.t with
     | .bool true=>run X T m a π s
     | .bool false=>run X T m b π s
     | _=>none
   | .block i c=>match run X T m c π s with
     | some (.exit j,s')=>if j=i then some (.normal,s') else some (.exit j,s')
     | r=>r
   | .loop c=>match run X T m c π s with
     | some (.normal,s')=>run X T m (.loop c) π s'
     | r=>r
   | .reg ps os=>match uK G (xM X (run X T m) T) π s.n os 0 [] s.t s.L with
     | none=>none
     | some (rs,t,L)=>match ps with
       | none=>some (.normal,⟨t,L,s.n+os.length⟩)
       | some ps=>if Ae rs.reverse ps then some (.normal,⟨t,L,s.n+os.length⟩) else none
end
section
variable {P:Program} {G:Nat->Option (List AV)} {X:FuncId->List AV->Id->aK->Option dN} {T:Hn}
def kW (P:Program) (G:Nat->Option (List AV)) (C:FuncId->List AV->Id->aK->Option dN):Prop :=
 ∀ f args p L r,C f args p L=some r->∃ S,aB P G f args p S r/\(∀ x∈S,L.to x.1=some x.2)/\∀ x∈S,x.1∈r.rd
theorem yE {C:FuncId->List AV->Id->aK->Option dN} (hC:kW P G C) {L:aK} {p:Id} {op:gB AV} {r:dN} (h:Kd C L p op=some r) {K:dN->Prop} (hK:K r):yv P G L.to p op K:=by
 unfold Kd at h
 unfold yv
 cases op with
 | call f as =>
   simp only [] at h ⊢
   split at h
   . obtain ⟨S,h1,h2,h3⟩:=hC _ _ _ _ _ h
     exact ⟨S,r,h1,h2,h3,hK⟩
   . simp at h
 | _=>simp only [] at h ⊢;rw [h];exact hK
theorem Af {C:FuncId->List AV->Id->aK->Option dN} (hC:kW P G C) {π : Id} {base:Nat} {rs:List dN} {t':List AV} {L':aK} {K:List dN->List AV->aa->Prop} (hK:K rs.reverse t' L'.to) :
   ∀ (os:List bp) (i:Nat) (acc:List dN) (t:List AV) (L:aK),uK G C π base os i acc t L=some (rs,t',L')->yx P G π base K os i acc t L.to
 | [],i,acc,t,L,h=>by
   simp only [uK,Option.some.injEq,Prod.mk.injEq] at h
   obtain ⟨rfl,rfl,rfl⟩:=h
   exact hK
 | o :: os,i,acc,t,L,h=>by
   simp only [uK] at h
   simp only [yx]
   split at h
   . simp at h
   . rename_i hw;rw [hw];exact Af hC hK os _ _ _ _ h
   . rename_i hw
     rw [hw]
     split at h
     . simp at h
     . rename_i r hr
       have:=Af hC hK os _ _ _ _ h
       rw [aK.PR] at this
       exact yE hC hr this
theorem Ag {C:FuncId->List AV->Id->aK->Option dN} (hC:kW P G C) {π : Id} {base:Nat} {rs:List dN} {t':List AV} {L':aK} {K:List AV->aa->Prop} (hK:K t' L'.to) :
   ∀ (os:List bp) (i:Nat) (acc:List dN) (t:List AV) (L:aK),uK G C π base os i acc t L=some (rs,t',L')->yw P G π base K os i t L.to
 | [],i,acc,t,L,h=>by
   simp only [uK,Option.some.injEq,Prod.mk.injEq] at h
   obtain ⟨rfl,rfl,rfl⟩:=h
   exact hK
 | o :: os,i,acc,t,L,h=>by
   simp only [uK] at h
   simp only [yw]
   split at h
   . simp at h
   . rename_i hw;rw [hw];exact Ag hC hK os _ _ _ _ h
   . rename_i hw
     rw [hw]
     split at h
     . simp at h
     . rename_i r hr
       have:=Ag hC hK os _ _ _ _ h
       rw [aK.PR] at this
       exact yE hC hr this
theorem vH {a b:List Id} (h:CE a b=true) {i:Id} (hi:i∈a):i ∉ b:=by
 simp only [CE,List.all_eq_true,Bool.not_eq_true',List.contains_eq_mem,decide_eq_false_iff_not] at h
 exact h i hi
theorem CF {rs:List dN} {ps:List (Nat × Nat)} (h:Ae rs ps=true):ar rs ps:=by
 intro q hq a b ha hb
 simp only [Ae,List.all_eq_true] at h
 have:=h q hq
 rw [ha,hb] at this
 simp only [PS,Bool.and_eq_true] at this
 obtain ⟨⟨h1,h2⟩,h3⟩:=this
 exact ⟨fun x hx=>⟨vH h1 (List.mem_map.2 ⟨x,hx,rfl⟩),vH h2 (List.mem_map.2 ⟨x,hx,rfl⟩)⟩,fun x hx=>vH h3 (List.mem_map.2 ⟨x,hx,rfl⟩)⟩
theorem EJ (S:List (Id × dC)) (i:Id):(aK.find (S.map fun x=>(x.1,x.2,false)) i)=S.lookup i:=by
 induction S with
 | nil=>rfl
 | cons x S ih =>
   obtain ⟨j,b⟩:=x
   simp only [List.map_cons,aK.find,ih,List.lookup_cons]
   by_cases h:i=j
   . simp [h]
   . have:(i==j)=false:=by simpa using h
     simp [h,this]
theorem CG {L:aK} {i:Id} {b:dC} (h:L.find i=some b):∃ d,(i,b,d)∈L:=by
 induction L with
 | nil=>simp [aK.find] at h
 | cons x L ih =>
   obtain ⟨j,c,d⟩:=x
   simp only [aK.find] at h
   split at h
   . rename_i e;subst e;simp only [Option.some.injEq] at h;subst h;exact ⟨d,by simp⟩
   . obtain ⟨d',hd⟩:=ih h;exact ⟨d',by simp [hd]⟩
def Clean (S:List (Id × dC)) (L:aK):Prop:=(∀ i b,(i,b,false)∈L->S.lookup i=some b)/\(L.map (·.1)).Nodup
theorem Clean.del {S:List (Id × dC)} {L:aK} (h:Clean S L) (i:Id):Clean S (L.del i)/\i ∉ (L.del i).map (·.1)/\∀ x∈L.del i,x∈L:=by
 have sub:∀ L:aK,(∀ x∈L.del i,x∈L)/\i ∉ (L.del i).map (·.1)/\(L.del i).Sublist L:=by
   intro L
   induction L with
   | nil=>simp [aK.del]
   | cons x L ih =>
     simp only [aK.del]
     split
     . exact ⟨fun y hy=>List.mem_cons_of_mem _ (ih.1 y hy),ih.2.1,ih.2.2.cons _⟩
     . rename_i hne
       refine ⟨fun y hy => ?_, ?_,ih.2.2.cons_cons _⟩
       . rcases List.mem_cons.1 hy with rfl | hy
         . simp
         . exact List.mem_cons_of_mem _ (ih.1 y hy)
       . simp only [List.map_cons,List.mem_cons,not_or]
         exact ⟨hne,ih.2.1⟩
 exact ⟨⟨fun j b hj=>h.1 j b ((sub L).1 _ hj),h.2.sublist ((sub L).2.2.map _)⟩,(sub L).2.1,(sub L).1⟩
theorem Clean.live {S:List (Id × dC)} {L:aK} (h:Clean S L) (K:List (Id × dC)):Clean S (L.live K) :=
 ⟨fun i b hi=>h.1 i b (List.mem_filter.1 hi).1,h.2.sublist (List.filter_sublist.map _)⟩
theorem aK.NH (L:aK) (K:List (Id × dC)) (i:Id):(L.live K).find i=none∨(L.live K).find i=L.find i:=by
 induction L with
 | nil=>exact .inl rfl
 | cons x L ih =>
   obtain ⟨j,b,d⟩:=x
   unfold aK.live at ih ⊢
   by_cases hk:(K.lookup j).isSome=true
   . rw [List.filter_cons_of_pos (by exact hk)]
     simp only [aK.find]
     by_cases h:i=j
     . simp [h]
     . simp only [if_neg h];exact ih
   . rw [List.filter_cons_of_neg (by exact hk)]
     by_cases h:i=j
     . subst h
       left
       cases hf:aK.find (L.filter fun x=>(K.lookup x.1).isSome) i with
       | none=>rfl
       | some c =>
         obtain ⟨d',hd⟩:=CG hf
         have:=(List.mem_filter.1 hd).2
         exact absurd this hk
     . simp only [aK.find,if_neg h];exact ih
theorem Clean.one {S:List (Id × dC)} {L:aK} (h:Clean S L) (x:Id × Option dC):Clean S (L.one x):=by
 obtain ⟨i,b⟩:=x
 have hd:=h.del i
 cases b with
 | none=>exact hd.1
 | some b =>
   refine ⟨fun j c hj => ?_, ?_⟩
   . simp only [aK.one,List.mem_cons,Prod.mk.injEq,Bool.false_eq_true,and_false,false_or] at hj
     exact hd.1.1 j c hj
   . simp only [aK.one,List.map_cons,List.nodup_cons]
     exact ⟨hd.2.1,hd.1.2⟩
theorem Clean.app {S:List (Id × dC)}:∀ (up:List (Id × Option dC)) {L:aK},Clean S L->Clean S (L.app up)
 | [],_,h=>h
 | x::up,_,h=>Clean.app up (h.one x)
theorem vI {S:List (Id × dC)} {C:FuncId->List AV->Id->aK->Option dN} {π : Id} {base:Nat} {rs:List dN} {t':List AV} {L':aK} :
   ∀ (os:List bp) (i:Nat) (acc:List dN) (t:List AV) (L:aK),uK G C π base os i acc t L=some (rs,t',L')->Clean S L->Clean S L'
 | [],i,acc,t,L,h,hc=>by
   simp only [uK,Option.some.injEq,Prod.mk.injEq] at h
   obtain ⟨rfl,rfl,rfl⟩:=h
   exact hc
 | o :: os,i,acc,t,L,h,hc=>by
   simp only [uK] at h
   split at h
   . simp at h
   . exact vI os _ _ _ _ h hc
   . split at h
     . simp at h
     . exact vI os _ _ _ _ h (hc.app _)
theorem iw {S:List (Id × dC)}:∀ (m:Nat) (c:bW) (π : Id) (s s':LS) (e:cD),run G X T m c π s=some (e,s')->Clean S s.L->Clean S s'.L
 | 0,_,_,_,_,_,h,_=>by simp [run] at h
 | m + 1,c, π,s,s',e,h,hc=>by
   cases c with
   | skip=>simp only [run,Option.some.injEq,Prod.mk.injEq] at h;obtain ⟨_,rfl⟩:=h;exact hc
   | ret=>simp only [run,Option.some.injEq,Prod.mk.injEq] at h;obtain ⟨_,rfl⟩:=h;exact hc
   | exit i=>simp only [run,Option.some.injEq,Prod.mk.injEq] at h;obtain ⟨_,rfl⟩:=h;exact hc
   | seq a b =>
     simp only [run] at h
     split at h
     . rename_i s1 h1
       exact iw m b π s1 s' e h (iw m a π s s1 _ h1 hc)
     . exact iw m a π s s' e h hc
   | cond c a b =>
     simp only [run] at h
     split at h
     . exact iw m a π s s' e h hc
     . exact iw m b π s s' e h hc
     . simp at h
   | block i c =>
     simp only [run] at h
     split at h
     . rename_i j s1 h1
       have:=iw m c π s s1 _ h1 hc
       split at h<;>(simp only [Option.some.injEq,Prod.mk.injEq] at h;obtain ⟨_,rfl⟩:=h;exact this)
     . exact iw m c π s s' e h hc
   | loop c =>
     simp only [run] at h
     split at h
     . rename_i s1 h1
       exact iw m (.loop c) π s1 s' e h (iw m c π s s1 _ h1 hc)
     . exact iw m c π s s' e h hc
   | reg ps os =>
     simp only [run] at h
     split at h
     . simp at h
     . rename_i rs t L h1
       have:=vI os _ _ _ _ h1 hc
       split at h
       . simp only [Option.some.injEq,Prod.mk.injEq] at h;obtain ⟨_,rfl⟩:=h;exact this
       . split at h
         . simp only [Option.some.injEq,Prod.mk.injEq] at h;obtain ⟨_,rfl⟩:=h;exact this
         . simp at h
open Classical in
theorem PT {S:List (Id × dC)} {L:aK} (hc:Clean S L) (i:Id):(aa.of S).app (ups S L) i=L.to i:=by
 have tC:∀ (a b:List (Id × Option dC)) (σ : aa), σ.app (a++b)=(σ.app a).app b:=by
   intro a
   induction a with
   | nil=>intro b σ;rfl
   | cons x a ih=>intro b σ;simp only [List.cons_append,aa.app];exact ih b _
 unfold ups
 rw [tC]
 generalize hσ : (aa.of S).app ((S.filter fun x=>(L.find x.1).isNone).map (fun x=>(x.1,none))) = σ1
 have PU:∀ (l:List Id) (σ : aa), σ.app (l.map fun i=>(i,none)) i=if i∈l then none else σ i:=by
   intro l
   induction l with
   | nil=>intro σ;simp [aa.app]
   | cons j l ih =>
     intro σ
     simp only [List.map_cons,aa.app,ih,aa.put]
     by_cases h1:i∈l
     . simp [h1]
     . by_cases h2:i=j<;>simp [h1,h2]
 have h1 : σ1 i=if (∃ b,(i,b)∈S)/\L.find i=none then none else S.lookup i:=by
   rw [<- hσ]
   have:=PU ((S.filter fun x=>(L.find x.1).isNone).map (·.1)) (aa.of S)
   rw [List.map_map] at this
   have e:((fun i=>(i,(none:Option dC))) ∘ fun x:Id × dC=>x.1)=fun x=>(x.1,none):=rfl
   rw [e] at this
   rw [this]
   have e2:(i∈((S.filter fun x=>(L.find x.1).isNone).map (·.1)))↔((∃ b,(i,b)∈S)/\L.find i=none):=by
     simp only [List.mem_map,List.mem_filter,Option.isNone_iff_eq_none]
     constructor
     . rintro ⟨⟨j,b⟩,⟨h1,h2⟩,rfl⟩;exact ⟨⟨b,h1⟩,h2⟩
     . rintro ⟨⟨b,hb⟩,h2⟩;exact ⟨(i,b),⟨hb,h2⟩,rfl⟩
   by_cases h:(∃ b,(i,b)∈S)/\L.find i=none
   . rw [if_pos h,if_pos (e2.2 h)]
   . rw [if_neg h,if_neg fun hh=>h (e2.1 hh)];rfl
 clear hσ
 -- the written ones
 have key:∀ (L0:aK) (σ : aa),(L0.map (·.1)).Nodup ->
     σ.app ((L0.filter fun x=>x.2.2).map fun x=>(x.1,some x.2.1)) i=match L0.find i with
       | some b=>if (i,b,true)∈L0 then some b else σ i
       | none => σ i:=by
   intro L0
   induction L0 with
   | nil=>intro σ _;rfl
   | cons x L0 ih =>
     intro σ hn
     obtain ⟨j,b,d⟩:=x
     simp only [List.map_cons,List.nodup_cons] at hn
     have ZE:∀ b d,(j,b,d) ∉ L0:=fun b d hm=>hn.1 (List.mem_map.2 ⟨_,hm,rfl⟩)
     have hfj:aK.find L0 j=none:=by
       cases h:aK.find L0 j with
       | none=>rfl
       | some c=>obtain ⟨d,hd⟩:=CG h;exact absurd hd (ZE c d)
     cases d with
     | false =>
       simp only [Bool.false_eq_true,not_false_eq_true,List.filter_cons_of_neg]
       rw [ih σ hn.2]
       simp only [aK.find]
       by_cases h:i=j
       . subst h
         rw [hfj]
         simp [ZE]
       . simp [h]
     | true =>
       simp only [List.filter_cons_of_pos,List.map_cons,aa.app]
       rw [ih _ hn.2]
       simp only [aK.find]
       by_cases h:i=j
       . subst h
         rw [hfj]
         simp [aa.put]
       . simp [h,aa.put]
 rw [key L σ1 hc.2,h1]
 show _=L.find i
 cases hf:L.find i with
 | none =>
   simp only [and_true]
   split
   . rfl
   . rename_i h
     cases hl:S.lookup i with
     | none=>rfl
     | some b=>exact absurd ⟨b,gn hl⟩ h
 | some b =>
   simp only [reduceCtorEq,and_false,if_false]
   split
   . rfl
   . rename_i h
     obtain ⟨d,hd⟩:=CG hf
     cases d with
     | true=>exact absurd hd h
     | false=>exact hc.1 i b hd
theorem yF:∀ {S:List (Id × dC)} {x:Id × dC},(S.map (·.1)).Nodup->x∈S->S.lookup x.1=some x.2
 | [],x,_,hx=>by simp at hx
 | (j,c)::S,x,Ah,hx=>by
   simp only [List.map_cons,List.nodup_cons] at Ah
   rcases List.mem_cons.1 hx with rfl | hx
   . simp
   . have hne:x.1≠j:=fun e=>Ah.1 (List.mem_map.2 ⟨x,hx,e⟩)
     rw [List.lookup_cons]
     have:(x.1==j)=false:=by simpa using hne
     rw [this]
     exact yF Ah.2 hx
theorem yG (hX : kW P G X) (hT:T.Of P) {R:bW->Id->LS->Option (cD × LS)}
   (hR:∀ c π s e s',R c π s=some (e,s')->VW P G π c (fun e' s2=>e'=e/\s2=s'.to) s.to) (hRc:∀ S c π s e s',R c π s=some (e,s')->Clean S s.L->Clean S s'.L) :
   kW P G (xM X R T):=by
 intro f args p L r h
 unfold xM at h
 split at h
 . rename_i r' zX;simp only [Option.some.injEq] at h;subst h;exact hX _ _ _ _ _ zX
 split at h
 . simp at h
 . rename_i vf hvf
   obtain ⟨fn,hf,hc⟩:=Hn.F3 hT hvf
   simp only [] at h
   generalize hS:reach 1000 L (Hm args) []=S at h
   have hSL:∀ x∈S,L.to x.1=some x.2:=by rw [<- hS];exact sA 1000 _ _ (by simp)
   have Ah : (S.map (·.1)).Nodup:=by
     rw [<- hS]
     have:∀ (n:Nat) (is:List Id) (S:List (Id × dC)),(S.map (·.1)).Nodup->((reach n L is S).map (·.1)).Nodup:=by
       intro n
       induction n with
       | zero=>intro is S h;exact h
       | succ n ih =>
         intro is S h
         cases is with
         | nil=>simpa [reach] using h
         | cons i is =>
           simp only [reach]
           split
           . exact ih is S h
           . rename_i hl
             split
             . refine ih _ _ ?_
               simp only [List.map_cons,List.nodup_cons]
               refine ⟨fun hm => ?_,h⟩
               obtain ⟨x,hx,he⟩:=List.mem_map.1 hm
               rw [List.lookup_eq_none_iff] at hl
               have:=hl x hx
               simp [he] at this
             . exact ih is S h
     exact this _ _ _ (by simp)
   have JZ:Clean S (S.map fun x=>(x.1,x.2,false)):=by
     refine ⟨fun i b hm => ?_,by simpa [List.map_map,Function.comp_def] using Ah⟩
     obtain ⟨x,hx,he⟩:=List.mem_map.1 hm
     simp only [Prod.mk.injEq,and_true] at he
     obtain ⟨rfl,rfl⟩:=he
     exact yF Ah hx
   have hto:(aK.to (S.map fun x=>(x.1,x.2,false)))=aa.of S:=funext fun i=>EJ S i
   have fin:∀ e s,(e=cD.normal∨e = .ret)->R vf.body p ⟨args++List.replicate (vf.nt-args.length) (.tup []),S.map fun x=>(x.1,x.2,false),0⟩=some (e,s) ->
       (match bR vf.results s.to with | some r0=>some ({ val:=r0,rd:=S.map (·.1),up:=ups S (s.L.live (reach 1000 s.L (r0.ids++S.map (·.1)) [])) }:dN) | none=>none)=some r ->
       ∃ S,aB P G f args p S r/\(∀ x∈S,L.to x.1=some x.2)/\∀ x∈S,x.1∈r.rd:=by
     intro e s he hrun CH
     split at CH
     . rename_i r0 Vz
       simp only [Option.some.injEq] at CH
       refine ⟨S,aB.VA hf hc ?_,hSL,fun x hx=>by rw [<- CH];exact List.mem_map.2 ⟨x,hx,rfl⟩⟩
       have hv:=hR _ _ _ _ _ hrun
       have e0:(LS.to ⟨args++List.replicate (vf.nt-args.length) (.tup []),S.map fun x=>(x.1,x.2,false),0⟩)=⟨args++List.replicate (vf.nt-args.length) (.tup []),aa.of S,0⟩:=by
         simp only [LS.to,hto]
       rw [e0] at hv
       refine hv.mono fun e' s2 hq => ?_
       obtain ⟨rfl,rfl⟩:=hq
       refine ⟨he,r0,Vz,Fin.same (by rw [<- CH]) fun i => ?_⟩
       rw [<- CH]
       have uT:=hRc S _ _ _ _ _ hrun JZ
       have h1:=PT (uT.live (reach 1000 s.L (r0.ids++S.map (·.1)) [])) i
       rw [h1]
       rcases aK.NH s.L (reach 1000 s.L (r0.ids++S.map (·.1)) []) i with h | h
       . exact .inl h
       . exact .inr h
     . simp at CH
   split at h
   . rename_i s hs;exact fin _ s (.inl rfl) hs h
   . rename_i s hs;exact fin _ s (.inr rfl) hs h
   . simp at h
theorem CI {c:bW} {π : Id}:∀ (m:Nat),(∀ m'<m,∀ s s' e,run G X T m' c π s=some (e,s')->VW P G π c (fun e' s2=>e'=e/\s2=s'.to) s.to) ->
   ∀ s s' e,run G X T m (.loop c) π s=some (e,s')->∃ n,VRd P G π c (fun e' s2=>e'=e/\s2=s'.to) n s.to
 | 0,_,_,_,_,h=>by simp [run] at h
 | m + 1,hb,s,s',e,h=>by
   simp only [run] at h
   split at h
   . rename_i s1 h1
     obtain ⟨n,hn⟩:=CI m (fun m' hm=>hb m' (by omega)) s1 s' e h
     refine ⟨n+1,(hb m (by omega) s s1 _ h1).mono fun e' s2 hq => ?_⟩
     obtain ⟨rfl,rfl⟩:=hq
     exact hn
   . rename_i h1
     refine ⟨1,(hb m (by omega) s s' e h).mono fun e' s2 hq => ?_⟩
     obtain ⟨rfl,rfl⟩:=hq
     cases e' with
     | normal=>exact absurd h (h1 _)
     | exit i=>exact ⟨rfl,rfl⟩
     | ret=>exact ⟨rfl,rfl⟩
theorem kr (hX:kW P G X) (hT:T.Of P):∀ (m:Nat) (c:bW) (π : Id) (s s':LS) (e:cD),run G X T m c π s=some (e,s')->VW P G π c (fun e' s2=>e'=e/\s2=s'.to) s.to
 | 0,_,_,_,_,_,h=>by simp [run] at h
 | m + 1,c, π,s,s',e,h=>by
   cases c with
   | skip=>simp only [run,Option.some.injEq,Prod.mk.injEq] at h;obtain ⟨rfl,rfl⟩:=h;exact VW.skip ⟨rfl,rfl⟩
   | ret=>simp only [run,Option.some.injEq,Prod.mk.injEq] at h;obtain ⟨rfl,rfl⟩:=h;exact VW.ret ⟨rfl,rfl⟩
   | exit i=>simp only [run,Option.some.injEq,Prod.mk.injEq] at h;obtain ⟨rfl,rfl⟩:=h;exact VW.exit ⟨rfl,rfl⟩
   | seq a b =>
     simp only [run] at h
     refine VW.seq ?_
     split at h
     . rename_i s1 h1
       refine (kr hX hT m a π s s1 _ h1).mono fun e' s2 hq => ?_
       obtain ⟨rfl,rfl⟩:=hq
       exact kr hX hT m b π s1 s' e h
     . rename_i h1
       refine (kr hX hT m a π s s' e h).mono fun e' s2 hq => ?_
       obtain ⟨rfl,rfl⟩:=hq
       cases e' with
       | normal=>exact absurd h (h1 _)
       | exit i=>exact ⟨rfl,rfl⟩
       | ret=>exact ⟨rfl,rfl⟩
   | cond c a b =>
     simp only [run] at h
     split at h
     . rename_i hb;exact VW.cond hb (by simpa using kr hX hT m a π s s' e h)
     . rename_i hb;exact VW.cond hb (by simpa using kr hX hT m b π s s' e h)
     . simp at h
   | block i c =>
     simp only [run] at h
     refine VW.block ?_
     split at h
     . rename_i j s1 h1
       refine (kr hX hT m c π s s1 _ h1).mono fun e' s2 hq => ?_
       obtain ⟨rfl,rfl⟩:=hq
       simp only []
       split at h
       . rename_i hj;simp only [Option.some.injEq,Prod.mk.injEq] at h;obtain ⟨rfl,rfl⟩:=h;simp [hj]
       . rename_i hj;simp only [Option.some.injEq,Prod.mk.injEq] at h;obtain ⟨rfl,rfl⟩:=h;simp [hj]
     . rename_i h1
       refine (kr hX hT m c π s s' e h).mono fun e' s2 hq => ?_
       obtain ⟨rfl,rfl⟩:=hq
       cases e' with
       | normal=>exact ⟨rfl,rfl⟩
       | exit i=>exact absurd h (h1 _ _)
       | ret=>exact ⟨rfl,rfl⟩
   | loop c =>
     obtain ⟨n,hn⟩:=CI (m+1) (fun m' hm s s' e hr=>kr hX hT m' c π s s' e hr) s s' e h
     exact VW.rounds n hn
   | reg ps os =>
     simp only [run] at h
     have hC:kW P G (xM X (run G X T m) T):=yG hX hT (fun c π s e s' hr=>kr hX hT m c π s s' e hr) (fun _ c π s e s' hr=>iw m c π s s' e hr)
     split at h
     . simp at h
     . rename_i rs t L h1
       cases ps with
       | none =>
         simp only [Option.some.injEq,Prod.mk.injEq] at h
         obtain ⟨rfl,rfl⟩:=h
         exact VW.PK (Ag hC ⟨rfl,rfl⟩ os _ _ _ _ h1)
       | some ps =>
         simp only [] at h
         split at h
         . rename_i zO
           simp only [Option.some.injEq,Prod.mk.injEq] at h
           obtain ⟨rfl,rfl⟩:=h
           exact VW.PL (Af hC ⟨CF zO,rfl,rfl⟩ os _ _ _ _ h1)
         . simp at h
 termination_by m=>m
theorem PV (hX:kW P G X) (hT:T.Of P) (m:Nat) {f:FuncId} {args:List AV} {p:Id} {L:aK} {r:dN} (h:xM X (run G X T m) T f args p L=some r) :
   ∃ S,aB P G f args p S r/\(∀ x∈S,L.to x.1=some x.2)/\∀ x∈S,x.1∈r.rd :=
 yG hX hT (fun c π s e s' hr=>kr hX hT m c π s s' e hr) (fun _ c π s e s' hr=>iw m c π s s' e hr) f args p L r h
end
end Go.VL
end

section
namespace Go.VL
open Go.RowKit
theorem aB.vJ {P:Program} {G:Nat->Option (List AV)} {f:FuncId} {fn:Func} (hf:P.funcs[f]? = some fn) (sw:(fn.name == "runtime.NumGoroutine")=false) (hb:fn.body.isSome=true) {args:List AV} {p:Id} {S:List (Id × dC)} {val:AV} {rd:List Id}
   (h:∀ own E w σ vs,(∀ x∈S, σ x.1=some x.2)->Inv G own E w σ -> aM E w args vs->Calls P f vs.toArray w fun e w'=>∃ v,e = .returned v/\Below w.heap.size w w'/\Lr val v) :
   aB P G f args p S { val,rd }:=by
 refine ⟨⟨fn,hf,sw,hb⟩,fun own E w σ vs hS hi hr _=>(h own E w σ vs hS hi hr).mono fun e w' he => ?_⟩
 obtain ⟨v,rfl,hB,hv⟩:=he
 have gr:Adv own E E w w':=⟨⟨fun _ _ h=>h,fun _ h=>h,fun b hb=>hB.block b (hi.okb b hb)⟩,hB.os,hB.tape,hB.output,hB.size,fun k hk _=>hB.block k hk,fun _ h => .inl h⟩
 refine ⟨v,E,rfl,gr, ?_,hv E w',fun _ _=>rfl⟩
 refine hi.keep gr rfl (fun b hb=>Nat.lt_of_lt_of_le (hi.okb b hb) hB.size) fun id bk g N hs hm => ?_
 obtain ⟨g',N',cur,ty,uI⟩:=hi.blk id bk hs
 rw [uI.μ] at hm
 simp only [Option.some.injEq,Prod.mk.injEq] at hm
 obtain ⟨rfl,_,rfl⟩:=hm
 exact ⟨hB.block _ (dH uI.heap),uI.no⟩
theorem PW {G:Nat->Option (List AV)} {own:Nat->Prop} {E:Env} {w:World} {σ : aa} (hi:Inv G own E w σ) {x:AV} {v:Value} (hx:aL E w x v) {k:IntKind} {zs:List Int} {rd:List Id} (h:dA σ 1 x=some (zs.map (AV.int k),rd)) :
   ∃ a cap,v = .slice a zs.length cap/\zs.length<=cap/\(zs=[]∨∃ b o,a=some ⟨b,o,none⟩/\b<w.heap.size/\∀ j,j<zs.length->w.cell? ⟨b,o+j,none⟩=some (.int k (zs[j]?.getD 0))):=by
 obtain ⟨_,a,cap,rfl,hle,hr⟩:=wG hi hx h
 refine ⟨a,cap,by simp,by simpa using hle, ?_⟩
 rcases hr with hr | ⟨b,o,rfl,hr⟩
 . left;simpa using hr
 . cases zs with
   | nil=>exact .inl rfl
   | cons z zs =>
     right
     have Cf:flat ((z::zs).map (AV.int k))=(z::zs).map (AV.int k):=by
       generalize z::zs=l
       induction l with
       | nil=>rfl
       | cons y l ih=>simp only [List.map_cons,flat,List.flatMap_cons,AV.cells] at ih ⊢;rw [ih];rfl
     rw [Cf] at hr
     have hc:∀ j,j<(z::zs).length->w.cell? ⟨b,o+j,none⟩=some (.int k ((z::zs)[j]?.getD 0)):=by
       intro j hj
       obtain ⟨v,h1,h2⟩:=hr j (.int k (z::zs)[j]) (by rw [List.getElem?_map,List.getElem?_eq_getElem hj];rfl)
       simp only [aL] at h2
       subst h2
       rw [h1,List.getElem?_eq_getElem hj];rfl
     refine ⟨b,o,rfl, ?_,hc⟩
     have:=hc 0 (by simp)
     cases hh:w.heap[b]? with
     | none=>simp [World.cell?,hh] at this
     | some ob=>exact (Array.getElem?_eq_some_iff.1 hh).1
end Go.VL
end

section
namespace Go.VL
def dC.fz (b:dC):dC:={ b with fr:=true }
def rq (S:List (Id × dC)):List (Id × Option dC):=S.map fun x=>(x.1,some x.2.fz)
open Classical in
theorem B1 {σ : aa} (i:Id):∀ (S:List (Id × dC)) (σ0:aa),(∀ x∈S, σ x.1=some x.2) -> σ0.app (rq S) i=if ∃ x∈S,x.1=i then (σ i).map dC.fz else σ0 i
 | [], σ0,_=>by simp [rq,aa.app]
 | x :: S, σ0,h=>by
   show aa.app (σ0.put x.1 (some x.2.fz)) (rq S) i=_
   rw [B1 i S _ fun y hy=>h y (List.mem_cons_of_mem _ hy)]
   by_cases h1:∃ y∈S,y.1=i
   . rw [if_pos h1,if_pos]
     obtain ⟨y,hy,e⟩:=h1
     exact ⟨y,List.mem_cons_of_mem _ hy,e⟩
   . rw [if_neg h1]
     by_cases h2:i=x.1
     . subst h2
       rw [if_pos ⟨x,by simp,rfl⟩,h x (by simp),aa.bb];rfl
     . rw [if_neg,aa.bd _ _ _ h2]
       rintro ⟨y,hy,e⟩
       rcases List.mem_cons.1 hy with rfl | hy
       . exact h2 e.symm
       . exact h1 ⟨y,hy,e⟩
theorem Ai {S:List (Id × dC)} {σ : aa} (hS:∀ x∈S, σ x.1=some x.2) {x:Id × dC} (hx:x∈S):aa.of S x.1=some x.2:=by
 cases hl:S.lookup x.1 with
 | none =>
   rw [List.lookup_eq_none_iff] at hl
   have:=hl x hx
   simp at this
 | some b =>
   have:=hS _ (gn hl)
   rw [hS x hx] at this
   show S.lookup x.1=_
   rw [hl];exact this.symm
section
variable {P:Program} {G:Nat->Option (List AV)}
theorem Inv.froze {own:Nat->Prop} {E:Env} {w:World} {σ : aa} {S:List (Id × dC)} (hi:Inv G own E w σ) (hS:∀ x∈S, σ x.1=some x.2) :
   Inv G (fun k=>w.heap.size<=k) (E.froze (aa.of S)) w (fun _=>none) where
 okb := by
   rintro b (hb | ⟨id,bk,k,N,hs,hm⟩)
   . exact hi.okb b hb
   . obtain ⟨g,N',cur,ty,hB⟩:=hi.blk id bk (hS _ (gn hs))
     rw [hB.μ] at hm
     simp only [Option.some.injEq,Prod.mk.injEq] at hm
     rw [<- hm.1];exact dH hB.heap
 blk:=fun id bk h=>by simp at h
 inj:=fun i j x y h=>absurd rfl h
 glob:=fun g cs hg=>by
   obtain ⟨h1,h2⟩:=hi.glob g cs hg
   exact ⟨.inl h1,cm.keep (⟨fun _ _ h=>h,fun _ h => .inl h,fun _ _=>rfl⟩:Step E.bare (E.froze (aa.of S)).bare w w) rfl cs 0 h2⟩
 new:=fun k hk=>hk
theorem aB.LB {f:FuncId} {args gv:List AV} {r:AV} {p:Id} {S:List (Id × dC)} (h:VP P G f gv r) (hv:aW (aa.of S) args gv) :
   aB P G f args p S { val:=r,rd:=S.map (·.1),up:=rq S }:=by
 refine ⟨h.1,fun own E w σ vs hS hi hr hμ => ?_⟩
 have zX:=hv.rp (hi.sub (aa.vG hS)) hr
 refine (h.2 w vs _ (hi.froze hS) zX).mono fun e w' he => ?_
 obtain ⟨v,ok',rfl,had,mh,hv'⟩:=he
 have gr:Adv own E ⟨E.μ,ok'⟩ w w':=by
   refine ⟨⟨fun _ _ h=>h,fun b hb=>had.step.ok b (.inl hb),fun b hb=>had.step.same b (.inl hb)⟩,had.os,had.tape,had.output,had.size,fun k hk _=>had.block k hk (by omega),fun b hb => ?_⟩
   rcases had.Tm b hb with (h1 | ⟨id,bk,k,N,hs,hm⟩) | h1
   . exact .inl h1
   . obtain ⟨g,N',cur,ty,hB⟩:=hi.blk id bk (hS _ (gn hs))
     rw [hB.μ] at hm
     simp only [Option.some.injEq,Prod.mk.injEq] at hm
     rw [<- hm.1];exact .inr hB.own
   . exact .inr (hi.new b h1)
 refine ⟨v,⟨E.μ,ok'⟩,rfl,gr, ?_,aL.keep (⟨fun _ _ h=>by simp at h,fun _ h=>h,fun _ _=>rfl⟩:Step ⟨fun _=>none,ok'⟩ ⟨E.μ,ok'⟩ w' w') r v hv',fun _ _=>rfl⟩
 have Ea:=fun i=>B1 (σ := σ) i S σ hS
 refine ⟨mh,fun id bk hs => ?_,fun i j x y jc hj' hne hx hy => ?_,fun g cs hg => ?_,fun k hk=>hi.new k (Nat.le_trans had.size hk)⟩
 . have lY : σ.app (rq S) id=some bk:=hs
   rw [Ea id] at lY
   split at lY
   . rename_i vA
     obtain ⟨x,hx,rfl⟩:=vA
     rw [hS x hx] at lY
     simp only [Option.map_some,Option.some.injEq] at lY
     subst lY
     obtain ⟨g,N,cur,ty,hB⟩:=hi.blk _ _ (hS x hx)
     have hb:=had.block g (dH hB.heap) (by have:=dH hB.heap;omega)
     exact ⟨g,N,cur,ty,hB.μ,hb.trans hB.heap,hB.size,hB.len,hB.most,hB.own,fun _=>had.step.ok g (.inr ⟨x.1,x.2,x.2.k,N,Ai hS hx,hB.μ⟩),fun hf=>by simp [dC.fz] at hf,hB.k,gP.keep gr.step hb hB.row⟩
   . rename_i PX
     obtain ⟨g,N,cur,ty,hB⟩:=hi.blk _ _ lY
     have hg:=dH hB.heap
     refine ⟨g,N,cur,ty,hB.keep gr.step (had.block g hg (by omega)) fun hf hb => ?_⟩
     rcases had.Tm g hb with (h1 | ⟨Vv,bk2,k2,N2,zP,ti⟩) | h1
     . exact hB.no hf h1
     . have hm:=gn zP
       refine hi.inj id Vv _ _ (by simp [lY]) (by simp [hS _ hm]) ?_ hB.μ ti rfl
       rintro rfl
       exact PX ⟨_,hm,rfl⟩
     . omega
 . have keep:∀ i, σ.app (rq S) i≠none -> σ i≠none:=by
     intro i hn he
     apply hn
     rw [Ea i,he]
     split<;>rfl
   exact hi.inj i j x y (keep i jc) (keep j hj') hne hx hy
 . obtain ⟨h1,h2⟩:=hi.glob g cs hg
   exact ⟨gr.step.ok g h1,cm.keep gr.step.bare (gr.step.same g h1) cs 0 h2⟩
theorem aB.of_flat {f:FuncId} {args gv:List AV} {r:AV} {p:Id} {S:List (Id × dC)} (h:VP P G f gv r) (hv:aW (aa.of S) args gv) (hf:b7 r) :
   aB P G f args p S { val:=r,rd:=S.map (·.1) }:=by
 refine ⟨h.1,fun own E w σ vs hS hi hr hμ => ?_⟩
 have zX:=hv.rp (hi.sub (aa.vG hS)) hr
 refine (h.2 w vs _ (hi.froze hS) zX).mono fun e w' he => ?_
 obtain ⟨v,ok',rfl,had,mh,hv'⟩:=he
 have gr:Adv own E E w w':=⟨⟨fun _ _ h=>h,fun b hb=>hb,fun b hb=>had.step.same b (.inl hb)⟩,had.os,had.tape,had.output,had.size,fun k hk _=>had.block k hk (by omega),fun b hb => .inl hb⟩
 refine ⟨v,E,rfl,gr, ?_,hf _ _ _ _ _ hv',fun _ _=>rfl⟩
 refine hi.keep gr rfl (fun b hb=>Nat.lt_of_lt_of_le (hi.okb b hb) had.size) fun id bk g N hs hm => ?_
 obtain ⟨g',N',cur,ty,uI⟩:=hi.blk id bk hs
 rw [uI.μ] at hm
 simp only [Option.some.injEq,Prod.mk.injEq] at hm
 obtain ⟨rfl,_,rfl⟩:=hm
 have hg:=dH uI.heap
 exact ⟨had.block _ hg (by omega),uI.no⟩
def NI (S:List (Id × dC)):List AV->List AV->Prop
 | [],[]=>True
 | c::cs,d::ds=>(d = .top∨d=c∨View (aa.of S) c d)/\NI S cs ds
 | _,_=>False
theorem NI.rep {own:Nat->Prop} {E:Env} {w:World} {S:List (Id × dC)} (hi:Inv G own E w (aa.of S)):∀ {cs ds:List AV} {vs:List Value},NI S cs ds->aM E w cs vs->aM ⟨E.μ,(E.froze (aa.of S)).ok⟩ w ds vs
 | [],[],_,_,h=>by simpa [aM] using h
 | c::cs,d::ds,vs,hf,h=>by
   simp only [NI] at hf
   simp only [aM] at h ⊢
   obtain ⟨v,rest,e,h1,h2⟩:=h
   refine ⟨v,rest,e, ?_,NI.rep hi hf.2 h2⟩
   rcases hf.1 with rfl | rfl | hv
   . simp [aL]
   . exact aL.keep (⟨fun _ _ h=>h,fun _ h => .inl h,fun _ _=>rfl⟩:Step E ⟨E.μ,(E.froze (aa.of S)).ok⟩ w w) _ v h1
   . exact aL.keep (⟨fun _ _ h=>by simp [Env.froze] at h,fun _ h=>h,fun _ _=>rfl⟩:Step (E.froze (aa.of S)) ⟨E.μ,(E.froze (aa.of S)).ok⟩ w w) _ v (hv _ _ _ _ _ hi h1)
 | [],_::_,_,h,_=>by simp [NI] at h
 | _::_,[],_,h,_=>by simp [NI] at h
theorem Wk.freeze {π : Id} {t t':List AV} {σ σ':aa} {n n':Nat} (S:List (Id × dC)) (hS:∀ x∈S, σ x.1=some x.2) (ht:NI S t t')
   (hs:∀ id, σ' id=none ∨ σ' id = σ.app (rq S) id) (hn:n<=n'):Wk G π ⟨t, σ,n⟩ ⟨t', σ',n'⟩:=fun own E w a hm=>by
 have hi:=hm.inv
 let E':Env:=⟨E.μ,(E.froze (aa.of S)).ok⟩
 have gr:Adv own E E' w w:=by
   refine ⟨⟨fun _ _ h=>h,fun b hb => .inl hb,fun b hb=>rfl⟩,rfl,rfl,rfl,Nat.le_refl _,fun k hk _=>rfl,fun b hb => ?_⟩
   rcases hb with h1 | ⟨id,bk,k,N,hs,hm⟩
   . exact .inl h1
   . obtain ⟨g,N',cur,ty,hB⟩:=hi.blk id bk (hS _ (gn hs))
     rw [hB.μ] at hm
     simp only [Option.some.injEq,Prod.mk.injEq] at hm
     rw [<- hm.1];exact .inr hB.own
 refine ⟨E',⟨gr,fun _ _=>rfl⟩,ht.rep (hi.sub (aa.vG hS)) hm.frame, ?_,hm.free.mono hn,hm.defers⟩
 refine Inv.sub (σ := σ.app (rq S)) ?_ hs
 have Ea:=fun i=>B1 (σ := σ) i S σ hS
 refine ⟨(hi.froze hS).okb,fun id bk hs => ?_,fun i j x y jc hj' hne hx hy => ?_,fun g cs hg => ?_,hi.new⟩
 . have lY : σ.app (rq S) id=some bk:=hs
   rw [Ea id] at lY
   split at lY
   . rename_i vA
     obtain ⟨x,hx,rfl⟩:=vA
     rw [hS x hx] at lY
     simp only [Option.map_some,Option.some.injEq] at lY
     subst lY
     obtain ⟨g,N,cur,ty,hB⟩:=hi.blk _ _ (hS x hx)
     exact ⟨g,N,cur,ty,hB.μ,hB.heap,hB.size,hB.len,hB.most,hB.own,fun _ => .inr ⟨x.1,x.2,x.2.k,N,Ai hS hx,hB.μ⟩,fun hf=>by simp [dC.fz] at hf,hB.k,gP.keep gr.step rfl hB.row⟩
   . rename_i PX
     obtain ⟨g,N,cur,ty,hB⟩:=hi.blk _ _ lY
     have hg:=dH hB.heap
     refine ⟨g,N,cur,ty,hB.keep gr.step rfl fun hf hb => ?_⟩
     rcases hb with h1 | ⟨Vv,bk2,k2,N2,zP,ti⟩
     . exact hB.no hf h1
     . have hm:=gn zP
       refine hi.inj id Vv _ _ (by simp [lY]) (by simp [hS _ hm]) ?_ hB.μ ti rfl
       rintro rfl
       exact PX ⟨_,hm,rfl⟩
 . have keep:∀ i, σ.app (rq S) i≠none -> σ i≠none:=by
     intro i hn he
     apply hn
     rw [Ea i,he]
     split<;>rfl
   exact hi.inj i j x y (keep i jc) (keep j hj') hne hx hy
 . obtain ⟨h1,h2⟩:=hi.glob g cs hg
   exact ⟨gr.step.ok g h1,cm.keep gr.step.bare (gr.step.same g h1) cs 0 h2⟩
end
end Go.VL
end

section
namespace Go.VL
def fnB:Fn->Fn->Bool
 | .func a, .func b=>a==b
 | _,_=>false
theorem WU:∀ {a b:Fn},fnB a b=true->a=b:=by
 intro a b h
 cases a<;>cases b<;>simp [fnB] at h
 subst h;rfl
mutual
def EK:AV->AV->Bool
 | .bool a, .bool b=>a==b
 | .int k n, .int k' n'=>decide (k=k')&&n==n'
 | .str a, .str b=>a==b
 | .nilp, .nilp=>true
 | .nilf, .nilf=>true
 | .fn f a c, .fn f' a' c'=>fnB f f'&&yH a a'&&yH c c'
 | .agg a, .agg b=>yH a b
 | .tup a, .tup b=>yH a b
 | .sl k a, .sl k' b=>k==k'&&yH a b
 | .tsl k a, .tsl k' b=>k==k'&&yH a b
 | .nils, .nils=>true
 | .osl i k o l t, .osl i' k' o' l' t'=>i==i'&&k==k'&&o==o'&&l==l'&&t==t'
 | .ref i e o, .ref i' e' o'=>i==i'&&e==e'&&o==o'
 | .ep a o, .ep b o'=>yH a b&&o==o'
 | .top, .top=>true
 | .anyb, .anyb=>true
 | .ige n, .ige m=>n==m
 | _,_=>false
def yH:List AV->List AV->Bool
 | [],[]=>true
 | a::as,b::bs=>EK a b&&yH as bs
 | _,_=>false
end
mutual
theorem PY:∀ {a b:AV},EK a b=true->a=b
 | .bool a,b,h=>by cases b<;>simp [EK] at h;subst h;rfl
 | .int k n,b,h=>by cases b<;>simp [EK] at h;obtain ⟨rfl,rfl⟩:=h;rfl
 | .str a,b,h=>by cases b<;>simp [EK] at h;subst h;rfl
 | .nilp,b,h=>by cases b<;>simp [EK] at h;rfl
 | .nilf,b,h=>by cases b<;>simp [EK] at h;rfl
 | .fn f a c,b,h=>by
   cases b<;>simp [EK] at h
   obtain ⟨⟨h1,h2⟩,h3⟩:=h
   rw [WU h1,oe h2,oe h3]
 | .agg a,b,h=>by cases b<;>simp [EK] at h;rw [oe h]
 | .tup a,b,h=>by cases b<;>simp [EK] at h;rw [oe h]
 | .sl k a,b,h=>by cases b<;>simp [EK] at h;obtain ⟨rfl,h⟩:=h;rw [oe h]
 | .tsl k a,b,h=>by cases b<;>simp [EK] at h;obtain ⟨rfl,h⟩:=h;rw [oe h]
 | .nils,b,h=>by cases b<;>simp [EK] at h;rfl
 | .osl i k o l t,b,h=>by cases b<;>simp [EK] at h;obtain ⟨⟨⟨⟨rfl,rfl⟩,rfl⟩,rfl⟩,rfl⟩:=h;rfl
 | .ref i e o,b,h=>by cases b<;>simp [EK] at h;obtain ⟨⟨rfl,rfl⟩,rfl⟩:=h;rfl
 | .ep a o,b,h=>by cases b<;>simp [EK] at h;obtain ⟨h,rfl⟩:=h;rw [oe h]
 | .top,b,h=>by cases b<;>simp [EK] at h;rfl
 | .anyb,b,h=>by cases b<;>simp [EK] at h;rfl
 | .ige n,b,h=>by cases b<;>simp [EK] at h;subst h;rfl
theorem oe:∀ {a b:List AV},yH a b=true->a=b
 | [],[],_=>rfl
 | x::xs,y::ys,h=>by simp only [yH,Bool.and_eq_true] at h;rw [PY h.1,oe h.2]
 | [],_::_,h=>by simp [yH] at h
 | _::_,[],h=>by simp [yH] at h
end
def TQ (a b:dC):Bool:=yH a.els b.els&&a.k==b.k&&a.fr==b.fr
theorem LC {a b:dC} (h:TQ a b=true):a=b:=by
 obtain ⟨x,y,z⟩:=a;obtain ⟨x',y',z'⟩:=b
 simp only [TQ,Bool.and_eq_true,beq_iff_eq] at h
 obtain ⟨⟨h1,rfl⟩,rfl⟩:=h
 rw [oe h1]
def YN:List (Id × dC)->List (Id × dC)->Bool
 | [],[]=>true
 | (i,a)::as,(j,b)::bs=>i==j&&TQ a b&&YN as bs
 | _,_=>false
theorem PZ:∀ {a b:List (Id × dC)},YN a b=true->a=b
 | [],[],_=>rfl
 | (i,x)::xs,(j,y)::ys,h=>by
   simp only [YN,Bool.and_eq_true,beq_iff_eq] at h
   obtain ⟨⟨rfl,h1⟩,h2⟩:=h
   rw [LC h1,PZ h2]
 | [],_::_,h=>by simp [YN] at h
 | _::_,[],h=>by simp [YN] at h
structure Ho where
 f:FuncId
 p:Id
 args:List AV
 S:List (Id × dC)
 r:dN
def yI (ms:List Ho) (f:FuncId) (args:List AV) (p:Id) (L:aK):Option dN :=
 match ms with
 | []=>none
 | m::ms=>if m.f=f/\m.p=p/\yH m.args args=true/\YN m.S (reach 1000 L (Hm args) [])=true then some m.r else yI ms f args p L
def xN (P:Program) (G:Nat->Option (List AV)) (m:Ho):Prop:=∃ S,aB P G m.f m.args m.p S m.r/\(∀ x∈S,aa.of m.S x.1=some x.2)/\∀ x∈S,x.1∈m.r.rd
theorem CJ {P:Program} {G:Nat->Option (List AV)}:∀ {ms:List Ho},(∀ m∈ms,xN P G m)->kW P G (yI ms)
 | [],_,_,_,_,_,_,h=>by simp [yI] at h
 | m :: ms,hm,f,args,p,L,r,h=>by
   simp only [yI] at h
   split at h
   . rename_i hh
     obtain ⟨rfl,rfl,h1,h2⟩:=hh
     simp only [Option.some.injEq] at h;subst h
     have e1:=oe h1;subst e1
     have e2:=PZ h2
     obtain ⟨S,h3,h4,h5⟩:=hm m (by simp)
     exact ⟨S,h3,fun x hx=>by have:=gn (h4 x hx);rw [e2] at this;exact sA 1000 _ _ (by simp) _ this,h5⟩
   . exact CJ (fun x hx=>hm x (List.mem_cons_of_mem _ hx)) f args p L r h
def P0:List (Id × Option dC)->List (Id × Option dC)->Bool
 | [],[]=>true
 | (i,some a)::as,(j,some b)::bs=>i==j&&TQ a b&&P0 as bs
 | (i,none)::as,(j,none)::bs=>i==j&&P0 as bs
 | _,_=>false
theorem Ke:∀ {a b:List (Id × Option dC)},P0 a b=true->a=b
 | [],[],_=>rfl
 | (i,some x)::xs,(j,some y)::ys,h=>by
   simp only [P0,Bool.and_eq_true,beq_iff_eq] at h
   obtain ⟨⟨rfl,h1⟩,h2⟩:=h
   rw [LC h1,Ke h2]
 | (i,none)::xs,(j,none)::ys,h=>by
   simp only [P0,Bool.and_eq_true,beq_iff_eq] at h
   obtain ⟨rfl,h2⟩:=h
   rw [Ke h2]
 | (_,some _)::_,(_,none)::_,h=>by simp [P0] at h
 | (_,none)::_,(_,some _)::_,h=>by simp [P0] at h
 | [],_::_,h=>by simp [P0] at h
 | (_,some _)::_,[],h=>by simp [P0] at h
 | (_,none)::_,[],h=>by simp [P0] at h
def TR (o:Option dN) (r:dN):Bool:=match o with
 | some x=>EK x.val r.val&&x.rd==r.rd&&P0 x.up r.up
 | none=>false
theorem TS {o:Option dN} {r:dN} (h:TR o r=true):o=some r:=by
 unfold TR at h
 split at h
 . rename_i x
   obtain ⟨a,b,c⟩:=x;obtain ⟨a',b',c'⟩:=r
   simp only [Bool.and_eq_true,beq_iff_eq] at h
   obtain ⟨⟨h1,rfl⟩,h3⟩:=h
   rw [PY h1,Ke h3]
 . simp at h
theorem xN.run {P:Program} {G:Nat->Option (List AV)} {X:FuncId->List AV->Id->aK->Option dN} (hX:kW P G X) {T:Hn} (hT:T.Of P) (n:Nat) (m:Ho)
   (h:TR (xM X (run G X T n) T m.f m.args m.p (m.S.map fun x=>(x.1,x.2,false))) m.r=true):xN P G m:=by
 obtain ⟨S,h1,h2,h3⟩:=PV hX hT n (TS h)
 exact ⟨S,h1,fun x hx=>by have:=h2 x hx;rwa [show aK.to (m.S.map fun x=>(x.1,x.2,false))=aa.of m.S from funext fun i=>EJ m.S i] at this,h3⟩
theorem kW.or {P:Program} {G:Nat->Option (List AV)} {A B:FuncId->List AV->Id->aK->Option dN} (ha:kW P G A) (hb:kW P G B) :
   kW P G fun f args p L=>match A f args p L with | some r=>some r | none=>B f args p L:=by
 intro f args p L r h
 simp only [] at h
 split at h
 . rename_i r' hr;simp only [Option.some.injEq] at h;subst h;exact ha _ _ _ _ _ hr
 . exact hb _ _ _ _ _ h
end Go.VL
end

section
namespace Go.VL
section
variable {P:Program} {G:Nat->Option (List AV)}
theorem VP.wJ {f:FuncId} {args:List AV} {r:dN} (h:aB P G f args [] [] r) (hf:b7 r.val):VP P G f args r.val:=by
 refine ⟨h.1,fun w vs ok hi hr => ?_⟩
 refine (h.2 _ _ w _ vs (by simp) hi hr (fun _ _=>rfl)).mono fun e w' he => ?_
 obtain ⟨v,E',rfl,hp⟩:=he
 refine ⟨v,ok,rfl,⟨⟨fun _ _ h=>h,fun _ h=>h,hp.Ch.step.same⟩,hp.Ch.os,hp.Ch.tape,hp.Ch.output,hp.Ch.size,hp.Ch.block,fun _ h => .inl h⟩,fun b hb => ?_,hf _ _ _ _ _ hp.rep⟩
 exact Nat.lt_of_lt_of_le (hi.okb b hb) hp.Ch.size
theorem VP.TT {m:Ho} (h:xN P G m) (hS:m.S=[]) (hp:m.p=[]) (hf:b7 m.r.val):VP P G m.f m.args m.r.val:=by
 obtain ⟨S,h1,h2,_⟩:=h
 have:S=[]:=by
   cases S with
   | nil=>rfl
   | cons x S=>have:=h2 x (by simp);rw [hS] at this;simp [aa.of] at this
 subst this
 rw [hp] at h1
 exact VP.wJ h1 hf
end
end Go.VL
end
