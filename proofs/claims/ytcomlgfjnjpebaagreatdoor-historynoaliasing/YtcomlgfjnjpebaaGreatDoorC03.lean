/- For the claim of HistoryNoAliasing: parts VL15, VL16, VL17, VL18, VL19, VL20, VL22, VL24, VL25, VL26, VLA, VLS, VL27, VL28. -/
import Derived.Test.YtcomlgfjnjpebaaGreatDoorC02
import Derived.LoopN
set_option linter.unusedSimpArgs false
set_option linter.unusedVariables false
set_option maxRecDepth 100000
namespace Go.VL
theorem yP {X Y:Nat->Bool}:∀ (L:List Done) (i:Nat) (t:List AV),(∀ k,k<L.length->X (i+k)=Y (i+k))->eQ X L i t=eQ Y L i t
 | [],_,_,_=>rfl
 | (d,r)::L,i,t,h=>by
   simp only [eQ]
   have h0:=h 0 (by simp)
   rw [Nat.add_zero] at h0
   rw [h0]
   exact yP L (i+1) _ (fun k hk=>by rw [show i+1+k=i+(k+1) from by omega];exact h (k+1) (by simpa using hk))
theorem yQ {X Y:Nat->Bool}:∀ (L:List Done) (i:Nat) (σ : aa),(∀ k,k<L.length->X (i+k)=Y (i+k))->gw X L i σ = gw Y L i σ
 | [],_,_,_=>rfl
 | (d,r)::L,i,t,h=>by
   simp only [gw]
   have h0:=h 0 (by simp)
   rw [Nat.add_zero] at h0
   rw [h0]
   exact yQ L (i+1) _ (fun k hk=>by rw [show i+1+k=i+(k+1) from by omega];exact h (k+1) (by simpa using hk))
theorem D3 {X Y:Nat->Bool} {i:Nat} (hX:X i=false) (hY:Y i=true) (hXY:∀ k,X k=true->Y k=true):∀ (l:List Nat),i∈l->l.countP X<l.countP Y
 | [],h=>by simp at h
 | a :: l,h=>by
   have hle:l.countP X<=l.countP Y:=List.countP_mono_left fun x _ hx=>hXY x hx
   simp only [List.countP_cons]
   rcases List.mem_cons.1 h with rfl | h
   . simp [hX,hY];omega
   . have:=D3 hX hY hXY l h
     by_cases ha:X a=true
     . simp [ha,hXY a ha];omega
     . simp [ha];split<;>omega
theorem Bw {X:Nat->Bool}:∀ (l:List Nat),l.length<=l.countP X->∀ i∈l,X i=true
 | [],_,i,h=>by simp at h
 | a :: l,hc,i,h=>by
   have hle:=List.countP_le_length (p:=X) (l:=l)
   simp only [List.countP_cons,List.length_cons] at hc
   by_cases ha:X a=true
   . simp only [ha,if_true] at hc
     rcases List.mem_cons.1 h with rfl | h
     . exact ha
     . exact Bw l (by omega) i h
   . simp [ha] at hc;omega
section
variable {P:Program} {G:Nat->Option (List AV)} {own:Nat->Prop}
theorem xf {n i j:Nat} (Kf:i<j) (hj:j<n):(i,j)∈wU n:=by
 unfold wU
 rw [List.mem_flatMap]
 exact ⟨j,List.mem_range.2 hj,List.mem_map.2 ⟨i,List.mem_range.2 Kf,rfl⟩⟩
structure Mid (G:Nat->Option (List AV)) (π : Id) (own:Nat->Prop) (L:List Done) (base n:Nat) (t0:List AV) (σ0:aa) (a0:Act) (E0:Env) (w0:World) (X:Nat->Bool) (E:Env) (w:World) (a:Act):Prop where
 frame:b9 E w (eQ X L 0 t0) a
 inv:Inv G own E w (gw X L 0 σ0)
 yG:j7 own π E0 E w0 w
 free:∀ i,i<n->X i=false->∀ j,((base+i) :: π) <:+ j->E.μ j=none
 more:uP E π (base+n)
 defers:a.defers=a0.defers
theorem NZ {ops:Array Oper} {vs:List bg} (JO:ops.toList.mapM (u9 P ops)=some vs) (Qj:AQ vs (ops.toList.map ve)=true)
   {π : Id} {base:Nat} {t0:List AV} {σ0:aa} {rs:List eB} (hrl:rs.length=vs.length)
   (hst:∀ k o r,vs[k]? = some o->rs[k]? = some r->xe P G π base o (0+k) (eQ (fun m=>m<0+k) ((vs.map (·.dst)).zip rs) 0 t0) (gw (fun m=>m<0+k) ((vs.map (·.dst)).zip rs) 0 σ0) r)
   (yD:aJ rs (uv vs (ops.toList.map ve))) {a0:Act} {E0:Env} {w0:World} {Q:Exit->Act->World->Prop}
   (hQ:∀ a E w,Mid G π own ((vs.map (·.dst)).zip rs) base ops.size t0 σ0 a0 E0 w0 (fun _=>true) E w a->Q .normal a w) :
   ∀ (fuel:Nat) (listed:Array Bool) (a:Act) (E:Env) (w:World),listed.size=ops.size->ops.size<=(List.range ops.size).countP (fun i=>listed.getD i false)+fuel ->
     (∀ k,k<ops.size->listed.getD k false=true->∀ e∈(ops.toList.map ve).getD k [],listed.getD e false=true) ->
     Mid G π own ((vs.map (·.dst)).zip rs) base ops.size t0 σ0 a0 E0 w0 (fun i=>listed.getD i false) E w a->wpAny P .any ops Q fuel listed a w:=by
 have o7:vs.length=ops.size:=by have:=gK JO;simpa using this
 generalize hL:(vs.map (·.dst)).zip rs=L at *
 have hLl:L.length=ops.size:=by rw [<- hL];simp [hrl,o7]
 have LH:∀ (k:Nat) (d:Option Nat) (r:eB),L[k]? = some (d,r)↔∃ o:bg,vs[k]? = some o/\o.dst=d/\rs[k]? = some r:=by
   intro k d r
   rw [<- hL,List.getElem?_zip_eq_some]
   simp only [List.getElem?_map,Option.map_eq_some_iff]
   constructor
   . rintro ⟨⟨o,h1,h2⟩,h3⟩;exact ⟨o,h1,h2,h3⟩
   . rintro ⟨o,h1,h2,h3⟩;exact ⟨⟨o,h1,h2⟩,h3⟩
 generalize aak:ops.toList.map ve=nw at *
 have aie:nw.length=ops.size:=by rw [<- aak];simp
 unfold AQ at Qj
 simp only [Bool.and_eq_true,List.all_eq_true] at Qj
 obtain ⟨⟨_,hlt⟩,Xt⟩:=Qj
 have Xu:∀ j,j<ops.size->∀ e∈nw.getD j [],e<j:=by
   intro j hj e he
   have:=hlt j (List.mem_range.2 (by rw [o7];exact hj)) e he
   simpa using this
 have o8:∀ (i j:Nat) (a b:bg),i<j->vs[i]? = some a->vs[j]? = some b->zJ a b=true->((jc nw []).getD j 0).testBit i=true:=by
   intro i j a b Kf ha hb hc
   have hj:j<vs.length:=(List.getElem?_eq_some_iff.1 hb).1
   have:=Xt (i,j) (xf Kf hj)
   simp only [ha,hb,hc,Bool.not_true,Bool.false_or] at this
   exact this
 have pj:∀ (i j:Nat) (a b:bg),i<j->vs[i]? = some a->vs[j]? = some b->a.op.pure=false->b.op.pure=false->(a.op.pP&&b.op.pP)=false->((jc nw []).getD j 0).testBit i=false->∀ (x y:eB),rs[i]? = some x->rs[j]? = some y->apart x y:=by
   intro i j a b Kf ha hb hpa hpb Kg hm x y hx hy
   have hj:j<vs.length:=(List.getElem?_eq_some_iff.1 hb).1
   refine yD (i,j) ?_ x y hx hy
   unfold uv
   rw [List.mem_filter]
   exact ⟨xf Kf hj,by simp only [ha,hb,hpa,hpb,Kg,hm];rfl⟩
 -- an operation that touches a block is not pure
 have touch:∀ (k:Nat) (o:bg) (r:eB),vs[k]? = some o->rs[k]? = some r->(r.rd≠[]∨r.up≠[])->o.op.pure=false:=by
   intro k o r ho hr hne
   cases hp:o.op.pure with
   | false=>rfl
   | true =>
     rcases hst k o r ho hr with ⟨_,rfl⟩ | ⟨_,hs⟩
     . simp at hne
     . obtain ⟨h1,h2⟩:=NW hp hs
       simp [h1,h2] at hne
 have Qk:∀ (k:Nat) (o:bg) (r:eB),vs[k]? = some o->rs[k]? = some r->r.up≠[]->o.op.pP=false:=by
   intro k o r ho hr hne
   cases hp:o.op.pP with
   | false=>rfl
   | true =>
     rcases hst k o r ho hr with ⟨_,rfl⟩ | ⟨_,hs⟩
     . simp at hne
     . exact absurd (NY hp hs) hne
 intro fuel
 induction fuel with
 | zero =>
   intro listed a E w qA aal G9 hm
   have cx:∀ i,i<ops.size->listed.getD i false=true:=by
     intro i hi
     have:=Bw (X:=fun i=>listed.getD i false) (List.range ops.size) (by simpa using aal) i (List.mem_range.2 hi)
     exact this
   refine ⟨?_,hQ a E w ?_⟩
   . apply List.eq_nil_iff_forall_not_mem.2
     intro j hj
     obtain ⟨h1,o,h2,_⟩:=mem_ready.1 hj
     have l9:j<ops.size:=(Array.getElem?_eq_some_iff.1 h2).1
     have:=cx j l9
     rw [Array.getD_eq_getD_getElem?] at h1 this
     cases hh:listed[j]? with
     | none=>simp [hh] at this
     | some b=>simp [hh] at h1 this;simp [h1] at this
   . have e1:eQ (fun i=>listed.getD i false) L 0 t0=eQ (fun _=>true) L 0 t0:=yP L 0 t0 (fun k hk=>by rw [Nat.zero_add];exact cx k (by omega))
     have e2:gw (fun i=>listed.getD i false) L 0 σ0=gw (fun _=>true) L 0 σ0:=yQ L 0 σ0 (fun k hk=>by rw [Nat.zero_add];exact cx k (by omega))
     exact ⟨e1▸hm.frame,e2▸hm.inv,hm.yG,by simp,hm.more,hm.defers⟩
 | succ fuel ih =>
   intro listed a E w qA aal G9 hm
   have aam:∀ i,i<ops.size->listed.getD i true=listed.getD i false:=by
     intro i hi
     rw [Array.getD_eq_getD_getElem?,Array.getD_eq_getD_getElem?,Array.getElem?_eq_getElem (by omega)]
     rfl
   have V3:∀ (j:Nat) (o:Oper),ops[j]? = some o->nw.getD j []=ve o:=by
     intro j o ho
     rw [<- aak]
     have hj:j<ops.size:=(Array.getElem?_eq_some_iff.1 ho).1
     have he:ops[j]=o:=(Array.getElem?_eq_some_iff.1 ho).2
     simp [List.getD,hj,he]
   refine ⟨?_, ?_⟩
   . -- nothing is ready: all is done
     intro xg
     have cx : ∀ i,i<ops.size->listed.getD i false=true:=by
       intro i
       induction i using Nat.strongRecOn with
       | _ i ihi =>
         intro hi
         cases hh:listed.getD i false with
         | true=>rfl
         | false =>
           exfalso
           have pc:i∈Region.ready .any ops listed:=by
             refine mem_ready.2 ⟨(aam i hi).trans hh,ops[i],by simp [hi], ?_⟩
             intro e he hb
             have aea:e.on∈nw.getD i []:=by
               rw [V3 i ops[i] (by simp [hi])]
               unfold ve
               exact List.mem_map.2 ⟨e,List.mem_filter.2 ⟨by simpa using he,hb⟩,rfl⟩
             have:=Xu i hi e.on aea
             exact ihi e.on this (by omega)
           rw [xg] at pc
           simp at pc
     have e1:eQ (fun i=>listed.getD i false) L 0 t0=eQ (fun _=>true) L 0 t0:=yP L 0 t0 (fun k hk=>by rw [Nat.zero_add];exact cx k (by omega))
     have e2:gw (fun i=>listed.getD i false) L 0 σ0=gw (fun _=>true) L 0 σ0:=yQ L 0 σ0 (fun k hk=>by rw [Nat.zero_add];exact cx k (by omega))
     exact hQ a E w ⟨e1▸hm.frame,e2▸hm.inv,hm.yG,by simp,hm.more,hm.defers⟩
   . intro j hj
     obtain ⟨h1,o,ho,aan⟩:=mem_ready.1 hj
     have JZ:j<ops.size:=(Array.getElem?_eq_some_iff.1 ho).1
     have ZH:listed.getD j false=false:=(aam j JZ).symm.trans h1
     generalize hX:(fun i=>listed.getD i false)=X at *
     have hXd:∀ i,listed.getD i false=X i:=fun i=>by rw [<- hX]
     simp only [hXd] at G9 ZH
     have tk:∀ e∈nw.getD j [],X e=true:=by
       intro e he
       rw [V3 j o ho] at he
       unfold ve at he
       obtain ⟨ed,hed,rfl⟩:=List.mem_map.1 he
       obtain ⟨h3,h4⟩:=List.mem_filter.1 hed
       rw [<- hXd]
       exact aan ed (by simpa using h3) h4
     have pre:∀ i,((jc nw []).getD j 0).testBit i=true->X i=true:=zN Xu G9 j JZ tk
     have post:∀ k,k<ops.size->X k=true->((jc nw []).getD k 0).testBit j=false:=by
       intro k hk Ax
       cases hb:((jc nw []).getD k 0).testBit j with
       | false=>rfl
       | true=>have:=zN Xu G9 k hk (G9 k hk Ax) j hb;simp [ZH] at this
     -- the operation
     have vQ:∃ vo,vs[j]? = some vo/\u9 P ops o=some vo:=by
       have hjv:j<vs.length:=by omega
       obtain ⟨o',h3,h4⟩:=mapM_some_get JO j vs[j] (by simp [hjv])
       have:o'=o:=by
         have h5:ops.toList[j]? = some o:=by simpa using ho
         rw [h5] at h3;simpa using h3.symm
       subst this
       exact ⟨vs[j],by simp [hjv],h4⟩
     obtain ⟨vo,Bx,vQ⟩:=vQ
     obtain ⟨hop,Qh⟩:=G4 vQ
     have hrj:j<rs.length:=by omega
     obtain ⟨r,hr⟩:∃ r,rs[j]? = some r:=⟨rs[j],by simp [hrj]⟩
     have hsc:=hst j vo r Bx hr
     rw [Nat.zero_add] at hsc
     -- a slot that it names
     have slot:∀ s∈vo.names,(eQ X L 0 t0)[s]? = (eQ (fun m=>m<j) L 0 t0)[s]? := by
       intro s hs
       refine pb L 0 t0 t0 rfl ?_
       intro k d r' hk hne hds
       rw [Nat.zero_add] at hne
       obtain ⟨ok,h3,h4,h5⟩:=(LH k d r').1 hk
       subst hds
       have T6:k<ops.size:=by have:=(List.getElem?_eq_some_iff.1 h3).1;omega
       rcases Nat.lt_trichotomy k j with pV | rfl | hgt
       . have Ax:X k=false:=by
           cases hh:X k with
           | false=>rfl
           | true=>simp [hh,pV] at hne
         have hc:zJ ok vo=true:=by unfold zJ;simp [h4,hs]
         have:=pre k (o8 k j ok vo pV h3 Bx hc)
         simp [Ax] at this
       . simp [ZH] at hne
       . have Ax:X k=true:=by
           cases hh:X k with
           | true=>rfl
           | false=>simp [hh,Nat.not_lt.2 (Nat.le_of_lt hgt)] at hne
         have hc:zJ vo ok=true:=by unfold zJ;simp [h4,hs]
         have:=o8 j k vo ok hgt Bx h3 hc
         rw [post k T6 Ax] at this
         simp at this
     have Xv:vo.op.map (aO.ev G (eQ X L 0 t0))=vo.op.map (aO.ev G (eQ (fun m=>m<j) L 0 t0)):=by
       refine gj.map_congr _ fun x hx=>Qi x fun s hs=>slot s ?_
       unfold bg.names
       exact List.mem_append_left _ (List.mem_filterMap.2 ⟨x,hx,hs⟩)
     have V4:eP (eQ X L 0 t0) vo.guard=eP (eQ (fun m=>m<j) L 0 t0) vo.guard:=by
       cases hg:vo.guard with
       | none=>rfl
       | some q =>
         obtain ⟨s,want⟩:=q
         have:=slot s (by unfold bg.names;simp [hg])
         simp only [eP,this]
     have J0:∀ id∈r.rd,gw X L 0 σ0 id=gw (fun m=>m<j) L 0 σ0 id:=by
       intro id hid
       refine pe L 0 σ0 σ0 rfl ?_
       intro k d r' hk hne pc
       rw [Nat.zero_add] at hne
       obtain ⟨ok,h3,h4,h5⟩:=(LH k d r').1 hk
       have T6:k<ops.size:=by have:=(List.getElem?_eq_some_iff.1 h3).1;omega
       have Xw:ok.op.pure=false:=touch k ok r' h3 h5 (.inr (by intro e;simp [e] at pc))
       have hpj:vo.op.pure=false:=touch j vo r Bx hr (.inl (by intro e;simp [e] at hid))
       have TC:ok.op.pP=false:=Qk k ok r' h3 h5 (by intro e;simp [e] at pc)
       obtain ⟨x,hx,rfl⟩:=List.mem_map.1 pc
       rcases Nat.lt_trichotomy k j with pV | rfl | hgt
       . have Ax:X k=false:=by
           cases hh:X k with
           | false=>rfl
           | true=>simp [hh,pV] at hne
         have hb:((jc nw []).getD j 0).testBit k=false:=by
           cases hb:((jc nw []).getD j 0).testBit k with
           | false=>rfl
           | true=>have:=pre k hb;simp [Ax] at this
         exact ((pj k j ok vo pV h3 Bx Xw hpj (by simp [TC]) hb r' r h5 hr).1 x hx).1 hid
       . simp [ZH] at hne
       . have Ax:X k=true:=by
           cases hh:X k with
           | true=>rfl
           | false=>simp [hh,Nat.not_lt.2 (Nat.le_of_lt hgt)] at hne
         exact (pj j k vo ok hgt Bx h3 hpj Xw (by simp [TC]) (post k T6 Ax) r r' hr h5).2 x hx hid
     -- behind it
     generalize hX':(fun i=>if i=j then true else X i)=X' at *
     have TD:∀ i,X' i=if i=j then true else X i:=fun i=>by rw [<- hX']
     have later:∀ (k:Nat) (d:Option Nat) (r':eB),L[k]? = some (d,r')->j<k->X' k=true->∃ ok:bg,vs[k]? = some ok/\ok.dst=d/\rs[k]? = some r'/\k<ops.size/\X k=true:=by
       intro k d r' hk pV Ax
       obtain ⟨ok,h3,h4,h5⟩:=(LH k d r').1 hk
       refine ⟨ok,h3,h4,h5,by have:=(List.getElem?_eq_some_iff.1 h3).1;omega, ?_⟩
       rw [TD] at Ax
       simpa [show k≠j from by omega] using Ax
     have hLj:L[j]? = some (vo.dst,r):=(LH j _ _).2 ⟨vo,Bx,rfl,hr⟩
     have tEq:fL (eQ X L 0 t0) vo.dst r.val=eQ X' L 0 t0:=by
       apply List.ext_getElem?
       intro s
       rw [qz]
       by_cases hd:vo.dst=some s
       . rw [if_pos hd]
         rw [Br L 0 j t0 (by rw [hLj,hd]) (by rw [Nat.zero_add,TD];simp) ?_,DY]
         intro k d r' hk pV Ax hds
         rw [Nat.zero_add] at Ax
         obtain ⟨ok,h3,h4,h5,T6,Xx⟩:=later k d r' hk pV Ax
         have hc:zJ vo ok=true:=by unfold zJ;simp [hd,h4,hds]
         have:=o8 j k vo ok pV Bx h3 hc
         rw [post k T6 Xx] at this
         simp at this
       . rw [if_neg hd]
         refine pb L 0 t0 t0 rfl ?_
         intro k d r' hk hne
         rw [Nat.zero_add,TD] at hne
         have ZI:k=j:=by
           apply Classical.byContradiction;intro h;simp [h] at hne
         subst ZI
         rw [hLj] at hk
         simp only [Option.some.injEq,Prod.mk.injEq] at hk
         rw [<- hk.1];exact hd
     have sEq:(gw X L 0 σ0).app r.up=gw X' L 0 σ0:=by
       funext id
       by_cases pc:id∈r.up.map (·.1)
       . symm
         refine Bt L 0 j σ0 hLj (by rw [Nat.zero_add,TD];simp) pc ?_
         intro k d r' hk pV Ax aap
         rw [Nat.zero_add] at Ax
         obtain ⟨ok,h3,h4,h5,T6,Xx⟩:=later k d r' hk pV Ax
         have Xw:ok.op.pure=false:=touch k ok r' h3 h5 (.inr (by intro e;simp [e] at aap))
         have hpj:vo.op.pure=false:=touch j vo r Bx hr (.inr (by intro e;simp [e] at pc))
         have TE:vo.op.pP=false:=Qk j vo r Bx hr (by intro e;simp [e] at pc)
         obtain ⟨x,hx,rfl⟩:=List.mem_map.1 pc
         exact ((pj j k vo ok pV Bx h3 hpj Xw (by simp [TE]) (post k T6 Xx) r r' hr h5).1 x hx).2 aap
       . rw [aa.uy pc]
         refine pe L 0 σ0 σ0 rfl ?_
         intro k d r' hk hne
         rw [Nat.zero_add,TD] at hne
         have ZI:k=j:=by
           apply Classical.byContradiction;intro h;simp [h] at hne
         subst ZI
         rw [hLj] at hk
         simp only [Option.some.injEq,Prod.mk.injEq] at hk
         rw [<- hk.2];exact pc
     -- going on
     have hXl:∀ i,(listed.setIfInBounds j true).getD i false=X' i:=by
       intro i
       rw [TD]
       by_cases e:i=j
       . subst e
         rw [Array.getD_eq_getD_getElem?]
         simp [qA,JZ]
       . rw [if_neg e,getD_set_ne false (fun h=>e h.symm),hXd]
     have go : ∀ (a':Act) (E':Env) (w':World),b9 E' w' (eQ X' L 0 t0) a'->Inv G own E' w' (gw X' L 0 σ0)->j7 own π E E' w w'->(∀ i:Id, ¬ ((base+j) :: π) <:+ i->E'.μ i=E.μ i)->a'.defers=a.defers ->
         wpAny P .any ops Q fuel (listed.setIfInBounds j true) a' w':=by
       intro a' E' w' TQ fK had Uc hde
       have FB:(fun i=>(listed.setIfInBounds j true).getD i false)=X':=funext hXl
       refine ih _ a' E' w' (by simpa using qA) ?_ ?_ ?_
       . rw [FB]
         have:=D3 (X:=X) (Y:=X') (i:=j) ZH (by rw [TD];simp) (fun k hk=>by rw [TD];split<;>simp [hk]) (List.range ops.size) (List.mem_range.2 JZ)
         omega
       . intro k hk Ax e he
         rw [hXl] at Ax ⊢
         rw [TD] at Ax ⊢
         split
         . rfl
         . by_cases ZI:k=j
           . subst ZI;exact tk e he
           . rw [if_neg ZI] at Ax
             exact G9 k hk Ax e he
       . rw [FB]
         refine ⟨TQ,fK,hm.yG.trans had, ?_, ?_,hde.trans hm.defers⟩
         . intro i hi hxi j'
           rw [TD] at hxi
           have Kf:i≠j:=by rintro rfl;simp at hxi
           rw [if_neg Kf] at hxi
           intro hj'
           rw [Uc _ (G6 hj' (by omega))]
           exact hm.free i hi hxi j' hj'
         . intro j' hj' hq
           rw [Uc _ (hq (base+j) (by omega))]
           exact hm.more j' hj' hq
     unfold wpOp
     rw [ho]
     simp only []
     rcases hsc with ⟨Ha,rfl⟩ | ⟨mW,hsr⟩
     . rw [rA vQ hm.frame (V4.trans Ha)]
       simp only [Bool.false_eq_true,if_false]
       refine go _ E w ?_ ?_ (j7.refl own π E w) (fun _ _=>rfl) (pg _ _ _)
       . rw [<- tEq, <- Qh];exact D0 hm.frame _
       . rw [<- sEq];exact hm.inv
     . rw [rA vQ hm.frame (V4.trans mW)]
       simp only [if_true]
       left
       rw [<- Xv] at hsr
       refine Bq hm.inv (hm.free j JZ ZH) hm.frame hop (Dn hsr J0) ?_
       intro v w' E' hp
       refine go _ E' w' ?_ ?_ hp.aah hp.ids (pg _ _ _)
       . rw [<- tEq, <- Qh];exact hp.frame hm.frame _
       . rw [<- sEq];exact hp.inv
end
inductive bB where
 | normal
 | exit (id:Nat)
 | ret
def bB.real:bB->Exit
 | .normal => .normal
 | .exit id => .exit id
 | .ret => .ret
structure VS where
 t:List AV
 σ : aa
 n:Nat
structure ib (G:Nat->Option (List AV)) (π : Id) (own:Nat->Prop) (E:Env) (w:World) (s:VS) (a:Act):Prop where
 frame:b9 E w s.t a
 inv:Inv G own E w s.σ
 free:uP E π s.n
 defers:a.defers=[]
def Wk (G:Nat->Option (List AV)) (π : Id) (s s':VS):Prop:=∀ own E w a,ib G π own E w s a->∃ E',j7 own π E E' w w/\ib G π own E' w s' a
def VW (P:Program) (G:Nat->Option (List AV)) (π : Id) (vc:bA) (Q:bB->VS->Prop) (s:VS):Prop :=
 ∀ c,eL P c=some vc->∀ own E w a (R:Exit->Act->World->Prop),ib G π own E w s a ->
   (∀ e s' E' w' a',Q e s'->j7 own π E E' w w'->ib G π own E' w' s' a'->R e.real a' w')->c.wp P R a w
section
variable {P:Program} {G:Nat->Option (List AV)} {π : Id} {Q:bB->VS->Prop} {s:VS}
theorem Wk.refl (G:Nat->Option (List AV)) (π : Id) (s:VS):Wk G π s s:=fun own E w _ h=>⟨E,j7.refl own π E w,h⟩
theorem Wk.trans {s s' s'':VS} (h:Wk G π s s') (k:Wk G π s' s''):Wk G π s s'':=fun own E w a hm=>by
 obtain ⟨E1,a1,m1⟩:=h own E w a hm
 obtain ⟨E2,a2,m2⟩:=k own E1 w a m1
 exact ⟨E2,a1.trans a2,m2⟩
theorem VW.wk {vc:bA} {s':VS} (h:Wk G π s s') (k:VW P G π vc Q s'):VW P G π vc Q s:=by
 intro c hc own E w a R hm hR
 obtain ⟨E1,a1,m1⟩:=h own E w a hm
 exact k c hc own E1 w a R m1 fun e s2 E2 w2 a2 hq ad mm=>hR e s2 E2 w2 a2 hq (a1.trans ad) mm
theorem VW.mono {vc:bA} {Q':bB->VS->Prop} (h:VW P G π vc Q s) (hq:∀ e s,Q e s->Q' e s):VW P G π vc Q' s :=
 fun c hc own E w a R hm hR=>h c hc own E w a R hm fun e s2 E2 w2 a2 N3=>hR e s2 E2 w2 a2 (hq e s2 N3)
theorem VW.skip (h:Q .normal s):VW P G π .skip Q s:=by
 intro c hc own E w a R hm hR
 cases c<;>simp only [eL,Option.some.injEq,reduceCtorEq] at hc
 . exact wp_skip (hR .normal s E w a h (j7.refl own π E w) hm)
 . exfalso;revert hc;unfold kZ;(repeat' split)<;>simp
 all_goals (exfalso;revert hc;(repeat' split)<;>simp)
theorem xh {c:Code} {ps:Option (List (Nat × Nat))} {vs:List bg} (hc:eL P c=some (.reg ps vs)):∃ id ops draw,c = .region id ops draw/\ops.toList.mapM (u9 P ops)=some vs /\
   ((draw=false/\ps=none)∨(draw=true/\ps=some (uv vs (ops.toList.map ve))/\AQ vs (ops.toList.map ve)=true/\P.follows .mixedOrders=true)):=by
 cases c with
 | region id ops draw =>
   simp only [eL,kZ] at hc
   cases hm:ops.toList.mapM (u9 P ops) with
   | none=>simp [hm] at hc
   | some vs' =>
     simp only [hm] at hc
     split at hc
     . rename_i hd
       split at hc
       . rename_i ho
         simp only [Option.some.injEq,bA.reg.injEq] at hc
         obtain ⟨rfl,rfl⟩:=hc
         simp only [Bool.and_eq_true] at ho
         exact ⟨id,ops,draw,rfl,hm, .inr ⟨hd,rfl,ho.1,ho.2⟩⟩
       . simp at hc
     . rename_i hd
       simp only [Option.some.injEq,bA.reg.injEq] at hc
       obtain ⟨rfl,rfl⟩:=hc
       exact ⟨id,ops,draw,rfl,hm, .inl ⟨by simpa using hd,rfl⟩⟩
 | _=>exfalso;revert hc;simp only [eL];(repeat' split)<;>simp
theorem VW.Ql {vs:List bg} (h:xc P G π s.n (fun t σ => Q .normal ⟨t, σ,s.n+vs.length⟩) vs 0 s.t s.σ):VW P G π (.reg none vs) Q s:=by
 intro c hc own E w a R hm hR
 obtain ⟨id,ops,draw,rfl,JO,Tz⟩:=xh hc
 have hd:draw=false:=by
   rcases Tz with ⟨h,_⟩ | ⟨_,h,_⟩
   . exact h
   . simp at h
 subst hd
 have hl:ops.toList.length=vs.length:=(gK JO).symm
 refine wp_region ?_
 have:=Bv (P:=P) (G:=G) (own:=own) (ops:=ops) (Q:=R) ops.toList 0 (fun k=>by simp) vs JO s.t s.σ a E w h hm.frame hm.inv hm.free (by
   intro t' σ' a' E' w' hk had hf hi Bf hde
   refine hR .normal ⟨t', σ',s.n+vs.length⟩ E' w' a' hk had ⟨hf,hi,by have h:=Bf;simp only [Nat.add_zero,hl] at h;exact h,hde.trans hm.defers⟩)
 rw [List.range_eq_range']
 simpa using this
theorem VW.Qm {ps:List (Nat × Nat)} {vs:List bg} (h:xd P G π s.n (fun rs t σ => aJ rs ps/\Q .normal ⟨t, σ,s.n+vs.length⟩) vs 0 [] s.t s.σ):VW P G π (.reg (some ps) vs) Q s:=by
 intro c hc own E w a R hm hR
 obtain ⟨id,ops,draw,rfl,JO,Tz⟩:=xh hc
 rcases Tz with ⟨_,h2⟩ | ⟨hd,JL,Qj,hmx⟩
 . simp at h2
 . subst hd
   simp only [Option.some.injEq] at JL
   have hl:vs.length=ops.size:=by have:=gK JO;simpa using this
   obtain ⟨rs,hrl,hst,yD,hq⟩:=DZ h
   refine wp_region_any hmx ?_
   have aed:Mid G π own ((vs.map (·.dst)).zip rs) s.n ops.size s.t s.σ a E w (fun i=>(Array.replicate ops.size false).getD i false) E w.drew a:=by
     have hX:∀ i,(Array.replicate ops.size false).getD i false=false:=by intro i;rw [Array.getD_eq_getD_getElem?];simp [Array.getElem?_replicate];split<;>rfl
     have e1:eQ (fun i=>(Array.replicate ops.size false).getD i false) ((vs.map (·.dst)).zip rs) 0 s.t=s.t:=pR _ _ _ fun k _=>hX _
     have e2:gw (fun i=>(Array.replicate ops.size false).getD i false) ((vs.map (·.dst)).zip rs) 0 s.σ = s.σ := pS _ _ _ fun k _=>hX _
     exact ⟨by rw [e1];exact hm.frame.keep (Adv.drew (own:=own) E w).step,by rw [e2];exact hm.inv.drew,⟨Adv.drew E w,fun _ _=>rfl⟩,fun i _ _ j hj=>hm.free.at (by omega) hj,hm.free.mono (by omega),rfl⟩
   refine NZ JO Qj hrl hst (by rw [<- JL];simpa using yD) (Q:=R) (a0:=a) (E0:=E) (w0:=w) ?_ ops.size (Array.replicate ops.size false) a E w.drew (by simp) (by simp) ?_ aed
   . intro a' E' w' hmd
     refine hR .normal _ E' w' a' hq hmd.yG ⟨hmd.frame,hmd.inv,by rw [hl];exact hmd.more,hmd.defers.trans hm.defers⟩
   . intro k hk hx
     rw [Array.getD_eq_getD_getElem?] at hx
     simp [hk] at hx
theorem VW.seq {x y:bA} (h:VW P G π x (fun e s'=>match e with | .normal=>VW P G π y Q s' | e=>Q e s') s):VW P G π (.seq x y) Q s:=by
 intro c hc own E w a R hm hR
 cases c<;>simp only [eL,Option.some.injEq,reduceCtorEq] at hc
 case seq ca cb =>
   cases h1:eL P ca with
   | none=>simp [h1] at hc
   | some va =>
   cases h2:eL P cb with
   | none=>simp [h1,h2] at hc
   | some vb =>
     simp only [h1,h2,Option.some.injEq,bA.seq.injEq] at hc
     obtain ⟨rfl,rfl⟩:=hc
     refine wp_seq (h ca h1 own E w a _ hm ?_)
     intro e s' E' w' a' hq had mL
     cases e with
     | normal=>exact hq cb h2 own E' w' a' R mL fun e2 s2 E2 w2 a2 N3 Ud mm2=>hR e2 s2 E2 w2 a2 N3 (had.trans Ud) mm2
     | exit id=>exact hR (.exit id) s' E' w' a' hq had mL
     | ret=>exact hR .ret s' E' w' a' hq had mL
 case region=>exfalso;revert hc;unfold kZ;(repeat' split)<;>simp
 all_goals (exfalso;revert hc;(repeat' split)<;>simp)
theorem VW.cond {vc:aO} {x y:bA} {b:Bool} (hb:vc.ev G s.t = .bool b) (h:if b then VW P G π x Q s else VW P G π y Q s):VW P G π (.cond vc x y) Q s:=by
 intro c hc own E w a R hm hR
 cases c<;>simp only [eL,Option.some.injEq,reduceCtorEq] at hc
 case cond cc ca cb =>
   cases h0:cC cc with
   | none=>simp [h0] at hc
   | some vcc =>
   cases h1:eL P ca with
   | none=>simp [h0,h1] at hc
   | some va =>
   cases h2:eL P cb with
   | none=>simp [h0,h1,h2] at hc
   | some vb =>
     simp only [h0,h1,h2,Option.some.injEq,bA.cond.injEq] at hc
     obtain ⟨rfl,rfl,rfl⟩:=hc
     have hr:=aP hm.frame hm.inv h0
     rw [hb] at hr
     simp only [aD] at hr
     refine wp_cond hr ?_
     cases b with
     | true=>simp only [if_true] at h ⊢;exact h ca h1 own E w a R hm hR
     | false=>simp only [Bool.false_eq_true,if_false] at h ⊢;exact h cb h2 own E w a R hm hR
 case region=>exfalso;revert hc;unfold kZ;(repeat' split)<;>simp
 all_goals (exfalso;revert hc;(repeat' split)<;>simp)
theorem VW.Ue {vc:aO} {x y:bA} (hb:vc.ev G s.t = .anyb) (h1:VW P G π x Q s) (h2:VW P G π y Q s):VW P G π (.cond vc x y) Q s:=by
 intro c hc own E w a R hm hR
 cases c<;>simp only [eL,Option.some.injEq,reduceCtorEq] at hc
 case cond cc ca cb =>
   cases h0:cC cc with
   | none=>simp [h0] at hc
   | some vcc =>
   cases h3:eL P ca with
   | none=>simp [h0,h3] at hc
   | some va =>
   cases h4:eL P cb with
   | none=>simp [h0,h3,h4] at hc
   | some vb =>
     simp only [h0,h3,h4,Option.some.injEq,bA.cond.injEq] at hc
     obtain ⟨rfl,rfl,rfl⟩:=hc
     have hr:=aP hm.frame hm.inv h0
     rw [hb] at hr
     simp only [aD] at hr
     obtain ⟨b,hr⟩:=hr
     refine wp_cond hr ?_
     cases b with
     | true=>exact h1 ca h3 own E w a R hm hR
     | false=>exact h2 cb h4 own E w a R hm hR
 case region=>exfalso;revert hc;unfold kZ;(repeat' split)<;>simp
 all_goals (exfalso;revert hc;(repeat' split)<;>simp)
theorem VW.block {id:Nat} {x:bA} (h:VW P G π x (fun e s'=>match e with | .exit i=>if i=id then Q .normal s' else Q (.exit i) s' | e=>Q e s') s):VW P G π (.block id x) Q s:=by
 intro c hc own E w a R hm hR
 cases c<;>simp only [eL,Option.some.injEq,reduceCtorEq] at hc
 case block i cb =>
   cases h1:eL P cb with
   | none=>simp [h1] at hc
   | some vb =>
     simp only [h1,Option.map_some,Option.some.injEq,bA.block.injEq] at hc
     obtain ⟨rfl,rfl⟩:=hc
     refine wp_block (h cb h1 own E w a _ hm ?_)
     intro e s' E' w' a' hq had mL
     cases e with
     | normal=>exact hR .normal s' E' w' a' hq had mL
     | exit j =>
       simp only [bB.real,Exit.inBlock]
       split
       . rename_i hj;simp only [hj,if_true] at hq;exact hR .normal s' E' w' a' hq had mL
       . rename_i hj;simp only [hj,if_false] at hq;exact hR (.exit j) s' E' w' a' hq had mL
     | ret=>exact hR .ret s' E' w' a' hq had mL
 case region=>exfalso;revert hc;unfold kZ;(repeat' split)<;>simp
 all_goals (exfalso;revert hc;(repeat' split)<;>simp)
theorem VW.exit {id:Nat} (h:Q (.exit id) s):VW P G π (.exit id) Q s:=by
 intro c hc own E w a R hm hR
 cases c<;>simp only [eL,Option.some.injEq,reduceCtorEq] at hc
 case exit i =>
   simp only [bA.exit.injEq] at hc;subst hc
   exact wp_exit (hR (.exit i) s E w a h (j7.refl own π E w) hm)
 case region=>exfalso;revert hc;unfold kZ;(repeat' split)<;>simp
 all_goals (exfalso;revert hc;(repeat' split)<;>simp)
theorem VW.ret (h:Q .ret s):VW P G π .ret Q s:=by
 intro c hc own E w a R hm hR
 cases c<;>simp only [eL,Option.some.injEq,reduceCtorEq] at hc
 case ret=>exact wp_ret (hR .ret s E w a h (j7.refl own π E w) hm)
 case region=>exfalso;revert hc;unfold kZ;(repeat' split)<;>simp
 all_goals (exfalso;revert hc;(repeat' split)<;>simp)
theorem zP {α : Type} {c:Code} {R:Exit->Act->World->Prop} (I : α -> Act->World->Prop) (μ : α -> Nat) {x : α} {a:Act} {w:World} (h₀:I x a w)
   (round:∀ x a w,I x a w->c.wp P (Exit.then (fun a' w'=>∃ x',I x' a' w' /\ μ x' < μ x) R) a w):(Code.loop c).wp P R a w:=by
 intro b k cs
 have key:∀ n x a w, μ x=n->I x a w ->
     ∃ e a' w',R e a' w'/\Arrives P (lone (b.at a (.code c :: .inLoop c::k)) cs w) b k cs e a' w':=by
   intro n
   induction n using Nat.strongRecOn with
   | _ n ih =>
     intro x a w hn hI
     obtain ⟨e,a₁,w₁,hq,Hb⟩:=round x a w hI b (.inLoop c::k) cs
     cases e with
     | normal =>
       obtain ⟨x₁,hI₁,hlt⟩:=hq
       obtain ⟨e₂,a₂,w₂,hq₂,Uf⟩:=ih (μ x₁) (hn▸hlt) x₁ a₁ w₁ rfl hI₁
       exact ⟨e₂,a₂,w₂,hq₂, .of_steps (Steps.trans Hb (.one step_inLoop)) Uf⟩
     | exit id=>exact ⟨_,a₁,w₁,hq, .pass (x := .inLoop c) rfl (fun _ _ => .inl (by simp)) Hb⟩
     | goto l=>exact ⟨_,a₁,w₁,hq, .pass (x := .inLoop c) rfl (fun _ _ => .inl (by simp)) Hb⟩
     | ret=>exact ⟨_,a₁,w₁,hq, .pass (x := .inLoop c) rfl (fun _ _ => .inl (by simp)) Hb⟩
     | panic ch=>exact ⟨_,a₁,w₁,hq, .pass (x := .inLoop c) rfl (fun _ _ => .inl (by simp)) Hb⟩
     | outgrown=>exact ⟨_,a₁,w₁,hq, .pass (x := .inLoop c) rfl (fun _ _ => .inl (by simp)) Hb⟩
 obtain ⟨e,a',w',hq,Hb⟩:=key _ x a w rfl h₀
 exact ⟨e,a',w',hq, .of_steps (.one step_loop) Hb⟩
def Then (k:VS->Prop) (Q:bB->VS->Prop):bB->VS->Prop
 | .normal,s=>k s
 | .exit i,s=>Q (.exit i) s
 | .ret,s=>Q .ret s
def N4 (id:Nat) (Q:bB->VS->Prop):bB->VS->Prop
 | .normal,s=>Q .normal s
 | .exit i,s=>if i=id then Q .normal s else Q (.exit i) s
 | .ret,s=>Q .ret s
theorem pn (k:VS->Prop) (Q:bB->VS->Prop) (s:VS):Then k Q .normal s=k s:=(rfl)
theorem D4 (k:VS->Prop) (Q:bB->VS->Prop) (i:Nat) (s:VS):Then k Q (.exit i) s=Q (.exit i) s:=(rfl)
theorem Hc (k:VS->Prop) (Q:bB->VS->Prop) (s:VS):Then k Q .ret s=Q .ret s:=(rfl)
theorem zQ (id:Nat) (Q:bB->VS->Prop) (s:VS):N4 id Q .normal s=Q .normal s:=(rfl)
theorem uz (id:Nat) (Q:bB->VS->Prop) (i:Nat) (s:VS):N4 id Q (.exit i) s=if i=id then Q .normal s else Q (.exit i) s:=(rfl)
theorem Hd (id:Nat) (Q:bB->VS->Prop) (s:VS):N4 id Q .ret s=Q .ret s:=(rfl)
def sF (P:Program) (G:Nat->Option (List AV)) (π : Id):bA->(bB->VS->Prop)->VS->Prop
 | .skip,Q,s=>Q .normal s
 | .reg none vs,Q,s=>xc P G π s.n (fun t σ => Q .normal ⟨t, σ,s.n+vs.length⟩) vs 0 s.t s.σ
 | .reg (some ps) vs,Q,s=>xd P G π s.n (fun rs t σ => aJ rs ps/\Q .normal ⟨t, σ,s.n+vs.length⟩) vs 0 [] s.t s.σ
 | .seq x y,Q,s=>sF P G π x (Then (sF P G π y Q) Q) s
 | .cond c x y,Q,s=>match c.ev G s.t with
   | .bool b=>if b then sF P G π x Q s else sF P G π y Q s
   | .anyb=>sF P G π x Q s/\sF P G π y Q s
   | _=>False
 | .block id x,Q,s=>sF P G π x (N4 id Q) s
 | .loop x,Q,s=>VW P G π (.loop x) Q s
 | .exit id,Q,s=>Q (.exit id) s
 | .ret,Q,s=>Q .ret s
theorem VW.of:∀ {vc:bA} {Q:bB->VS->Prop} {s:VS},sF P G π vc Q s->VW P G π vc Q s
 | .skip,_,_,h=>VW.skip h
 | .reg none _,_,_,h=>VW.Ql h
 | .reg (some _) _,_,_,h=>VW.Qm h
 | .seq x y,Q,s,h=>by
   refine VW.seq (VW.mono (VW.of (vc:=x) h) ?_)
   intro e s' hq
   cases e with
   | normal=>exact VW.of (vc:=y) hq
   | exit id=>exact hq
   | ret=>exact hq
 | .cond c x y,Q,s,h=>by
   simp only [sF] at h
   split at h
   . rename_i b hb
     refine VW.cond hb ?_
     cases b with
     | true=>exact VW.of (vc:=x) h
     | false=>exact VW.of (vc:=y) h
   . rename_i hb
     exact VW.Ue hb (VW.of (vc:=x) h.1) (VW.of (vc:=y) h.2)
   . exact h.elim
 | .block id x,Q,s,h=>by
   refine VW.block (VW.mono (VW.of (vc:=x) h) ?_)
   intro e s' hq
   cases e with
   | normal=>exact hq
   | exit i=>exact hq
   | ret=>exact hq
 | .loop x,Q,s,h=>h
 | .exit id,_,_,h=>VW.exit h
 | .ret,_,_,h=>VW.ret h
end
section
variable {P:Program} {G:Nat->Option (List AV)} {own:Nat->Prop} {E:Env} {w:World} {σ : aa}
def af (c:AV):Prop:=∀ E w v,aD E w c v->aD E.bare w c v
theorem af.bool (b:Bool):af (.bool b):=fun _ _ _ h=>by simpa [aD] using h
theorem af.int (k:IntKind) (n:Int):af (.int k n):=fun _ _ _ h=>by simpa [aD] using h
theorem af.str (l:List UInt8):af (.str l):=fun _ _ _ h=>by simpa [aD] using h
theorem af.nilp:af .nilp:=fun _ _ _ h=>by simpa [aD] using h
theorem af.nilf:af .nilf:=fun _ _ _ h=>by simpa [aD] using h
theorem af.nils:af .nils:=fun _ _ _ h=>by simpa [aD] using h
theorem af.tw {cs:List AV} (h:∀ c∈cs,af c):∀ {vs:List Value},aF E w cs vs->aF E.bare w cs vs:=by
 induction cs with
 | nil=>intro vs hr;simpa [aF] using hr
 | cons c cs ih =>
   intro vs hr
   simp only [aF] at hr ⊢
   obtain ⟨v,rest,e,h1,h2⟩:=hr
   exact ⟨v,rest,e,h c (by simp) _ _ _ h1,ih (fun x hx=>h x (by simp [hx])) h2⟩
theorem af.D5 {cs:List AV} (h:∀ c∈cs,af c) {b o:Nat} (hr:eh E w b o cs):eh E.bare w b o cs :=
 fun j c hj=>let ⟨v,hv,uO⟩:=hr j c hj;⟨v,hv,h c (List.mem_of_getElem? hj) _ _ _ uO⟩
theorem af.agg {cs:List AV} (h:∀ c∈cs,af c):af (.agg cs):=fun E w v hr=>by
 simp only [aD] at hr ⊢;obtain ⟨xs,e,hr⟩:=hr;exact ⟨xs,e,af.tw h hr⟩
theorem af.tup {cs:List AV} (h:∀ c∈cs,af c):af (.tup cs):=fun E w v hr=>by
 simp only [aD] at hr ⊢;obtain ⟨xs,e,hr⟩:=hr;exact ⟨xs,e,af.tw h hr⟩
theorem af.fn {f:Fn} {a c:List AV} (ha:∀ x∈a,af x) (hc:∀ x∈c,af x):af (.fn f a c):=fun E w v hr=>by
 simp only [aD] at hr ⊢;obtain ⟨xs,ys,e,h1,h2⟩:=hr;exact ⟨xs,ys,e,af.tw ha h1,af.tw hc h2⟩
theorem af.sl {k:Nat} {es:List AV} (h:∀ c∈flat es,af c):af (.sl k es):=fun E w v hr=>by
 simp only [aD] at hr ⊢
 obtain ⟨a,cap,e,h1,h2,h3,h4⟩:=hr
 exact ⟨a,cap,e,h1,h2,h3,h4.imp id fun ⟨b,o,ea,hb,hr⟩=>⟨b,o,ea,hb,eN.2 (af.D5 h (eN.1 hr))⟩⟩
theorem af.tsl {k:Nat} {es:List AV} (h:∀ c∈flat es,af c):af (.tsl k es):=fun E w v hr=>by
 simp only [aD] at hr ⊢
 obtain ⟨a,e,h2,h3,h4⟩:=hr
 exact ⟨a,e,h2,h3,h4.imp id fun ⟨b,o,ea,hb,hr⟩=>⟨b,o,ea,hb,eN.2 (af.D5 h (eN.1 hr))⟩⟩
theorem af.ep {cs:List AV} {o:Nat} (h:∀ c∈cs,af c):af (.ep cs o):=fun E w v hr=>by
 simp only [aD] at hr ⊢
 obtain ⟨b,q,e,hb,hr⟩:=hr
 exact ⟨b,q,e,hb,dP.2 (af.D5 h (dP.1 hr))⟩
def aS (c:AV):Prop:=∀ E w E' w' v,aD E w c v->aD E' w' c v
theorem aS.bool (b:Bool):aS (.bool b):=fun _ _ _ _ _ h=>by simpa [aD] using h
theorem aS.int (k:IntKind) (n:Int):aS (.int k n):=fun _ _ _ _ _ h=>by simpa [aD] using h
def Env.froze (E:Env) (σ : aa):Env:=⟨fun _=>none,fun b=>E.ok b∨∃ id bk k N, σ id=some bk/\E.μ id=some (b,k,N)⟩
def View (σ : aa) (c d:AV):Prop:=∀ G own E w v,Inv G own E w σ -> aD E w c v->aD (E.froze σ) w d v
def aI (σ : aa) (cs ds:List AV):Prop:=cs.length=ds.length/\∀ (j:Nat) (c d:AV),cs[j]? = some c->ds[j]? = some d->View σ c d
theorem Step.froze (E:Env) (σ : aa) (w:World):Step E.bare (E.froze σ) w w:=⟨fun _ _ h=>by simp [Env.bare] at h,fun _ h => .inl h,fun _ _=>rfl⟩
theorem View.pure {c:AV} (h:af c):View σ c c:=fun _ _ E w v _ hr=>aD.keep (Step.froze E σ w) c v (h E w v hr)
theorem aI.pure {cs:List AV} (h:∀ c∈cs,af c):aI σ cs cs :=
 ⟨rfl,fun j c d hc hd=>by rw [hc] at hd;simp only [Option.some.injEq] at hd;subst hd;exact View.pure (h c (List.mem_of_getElem? hc))⟩
theorem aI.nil:aI σ [] []:=⟨rfl,by simp⟩
theorem aI.cons {c d:AV} {cs ds:List AV} (h:View σ c d) (hl:aI σ cs ds):aI σ (c::cs) (d::ds) :=
 ⟨by simp [hl.1],fun j x y hx hy=>by
   cases j with
   | zero=>simp at hx hy;subst hx;subst hy;exact h
   | succ j=>exact hl.2 j x y (by simpa using hx) (by simpa using hy)⟩
theorem aI.tw {cs ds:List AV} (h:aI σ cs ds) (hi:Inv G own E w σ) {vs:List Value} (hr:aF E w cs vs):aF (E.froze σ) w ds vs:=by
 obtain ⟨hl,hp⟩:=bj.1 hr
 refine bj.2 ⟨by rw [hl,h.1],fun j d hd => ?_⟩
 have hj:j<cs.length:=by rw [h.1];exact (List.getElem?_eq_some_iff.1 hd).1
 obtain ⟨v,hv,uO⟩:=hp j cs[j] (by simp [hj])
 exact ⟨v,hv,h.2 j _ d (by simp [hj]) hd G own E w v hi uO⟩
theorem aI.D5 {cs ds:List AV} (h:aI σ cs ds) (hi:Inv G own E w σ) {b o:Nat} (hr:eh E w b o cs):eh (E.froze σ) w b o ds:=by
 intro j d hd
 have hj:j<cs.length:=by rw [h.1];exact (List.getElem?_eq_some_iff.1 hd).1
 obtain ⟨v,hv,uO⟩:=hr j cs[j] (by simp [hj])
 exact ⟨v,hv,h.2 j _ d (by simp [hj]) hd G own E w v hi uO⟩
theorem View.agg {cs ds:List AV} (h:aI σ cs ds):View σ (.agg cs) (.agg ds):=fun G own E w v hi hr=>by
 simp only [aD] at hr ⊢;obtain ⟨xs,e,hr⟩:=hr;exact ⟨xs,e,h.tw hi hr⟩
theorem View.tup {cs ds:List AV} (h:aI σ cs ds):View σ (.tup cs) (.tup ds):=fun G own E w v hi hr=>by
 simp only [aD] at hr ⊢;obtain ⟨xs,e,hr⟩:=hr;exact ⟨xs,e,h.tw hi hr⟩
theorem View.nils (k:Nat):View σ .nils (.sl k []):=fun G own E w v hi hr=>by
 simp only [aD] at hr ⊢;exact ⟨none,0,hr,Nat.le_refl _,Nat.zero_le _,by simp, .inl trivial⟩
theorem View.FK (k:Nat):View σ (.tsl k []) (.sl k []):=fun G own E w v hi hr=>by
 simp only [aD] at hr ⊢
 obtain ⟨a,e,_⟩:=hr
 exact ⟨a,0,e,Nat.le_refl _,Nat.zero_le _,by simp, .inl trivial⟩
theorem View.osl {id:Id} {bk:a8} {k off len:Nat} {t:Bool} {ds:List AV} (hσ : σ id=some bk) (hk:bk.k=k) (hle:off+len<=bk.els.length)
   (h:aI σ (flat ((bk.els.drop off).take len)) (flat ds)) (hl:ds.length=len) (hkd:∀ d∈ds,d.size=k):View σ (.osl id k off len t) (.sl k ds):=fun G own E w v hi hr=>by
 obtain ⟨g,N,cur,ty,hB⟩:=hi.blk id bk hσ
 simp only [aD] at hr ⊢
 obtain ⟨g',N',cap,hm,e,h1,h2,h3,_⟩:=hr
 rw [hB.μ] at hm
 simp only [Option.some.injEq,Prod.mk.injEq] at hm
 obtain ⟨rfl,_,rfl⟩:=hm
 refine ⟨_,cap,by rw [hl];exact e,by rw [hl];exact h1,by omega,hkd, .inr ⟨g,off*k,rfl, .inr ⟨id,bk,bk.k,N,hσ,hB.μ⟩, ?_⟩⟩
 refine eN.2 (h.D5 hi ?_)
 have:=nN (l:=off) (r:=off+len) hB.k hB.row (by omega) hle
 rw [Nat.zero_add,hk] at this
 have e2:(bk.els.take (off+len)).drop off=(bk.els.drop off).take len:=by rw [List.drop_take];congr 1;omega
 rwa [e2] at this
def VP (P:Program) (G:Nat->Option (List AV)) (f:FuncId) (args:List AV) (r:AV):Prop :=
 (∃ fn,P.funcs[f]? = some fn/\(fn.name == "runtime.NumGoroutine")=false/\fn.body.isSome=true) /\
 ∀ w vs ok,Inv G (fun k=>w.heap.size<=k) ⟨fun _=>none,ok⟩ w (fun _=>none)->aF ⟨fun _=>none,ok⟩ w args vs ->
   Calls P f vs.toArray w fun e w'=>∃ v ok',e = .returned v/\Adv (fun k=>w.heap.size<=k) ⟨fun _=>none,ok⟩ ⟨fun _=>none,ok'⟩ w w'/\(∀ b,ok' b->b<w'.heap.size)/\aD ⟨fun _=>none,ok'⟩ w' r v
theorem aq.LI {f:FuncId} {args:List AV} {r:AV} (h:VP P G f args r) (hp:∀ c∈args,af c) (p:Id):aq P G f args p [] { val:=r }:=by
 refine ⟨h.1,fun own E w σ vs _ hi hr hμ => ?_⟩
 have N5:Inv G (fun k=>w.heap.size<=k) ⟨fun _=>none,E.ok⟩ w (fun _=>none):=⟨hi.okb,fun id bk h=>by simp at h,fun i j x y h=>absurd rfl h,hi.glob,fun k hk=>hk⟩
 refine (h.2 w vs E.ok N5 (af.tw hp hr)).mono fun e w' he => ?_
 obtain ⟨v,ok',rfl,had,dI,hv⟩:=he
 have dS:Adv own E ⟨E.μ,ok'⟩ w w' :=
   ⟨⟨fun _ _ h=>h,had.step.ok,had.step.same⟩,had.os,had.tape,had.output,had.size,fun k hk _=>had.block k hk (by omega),fun b hb=>(had.PB b hb).imp id fun h=>hi.new b h⟩
 refine ⟨v,⟨E.μ,ok'⟩,rfl,dS, ?_, ?_,fun _ _=>rfl⟩
 . refine hi.keep dS rfl dI fun id bk g N hs hm => ?_
   obtain ⟨g',N',cur,ty,hB⟩:=hi.blk id bk hs
   rw [hB.μ] at hm
   simp only [Option.some.injEq,Prod.mk.injEq] at hm
   obtain ⟨rfl,_,rfl⟩:=hm
   have hg:=cV hB.heap
   exact ⟨had.block _ hg (by omega),fun hf hb=>(had.PB _ hb).elim (hB.no hf) (fun h=>by omega)⟩
 . exact aD.keep (⟨fun _ _ h=>by simp at h,fun _ h=>h,fun _ _=>rfl⟩:Step ⟨fun _=>none,ok'⟩ ⟨E.μ,ok'⟩ w' w') r v hv
def iR (s:VS):pO->Option AV
 | .tmp t=>some (s.t.getD t (.tup []))
 | .cell x agg n=>(fX s.σ agg n (s.t.getD x (.tup []))).map (·.val)
def fY (rs:List pO) (s:VS):Option AV :=
 match rs.mapM (iR s) with
 | some [v]=>some v
 | some vs=>some (.tup vs)
 | none=>none
theorem He {α β : Type} {f : α -> Sem β}:∀ (l:List α) (vs:List β),vs.length=l.length->(∀ (i:Nat) (a : α) (v : β),l[i]? = some a->vs[i]? = some v->(f a).run P w = .ok v w)->(l.mapM f).run P w = .ok vs w
 | [],vs,hl,_=>by
   have:vs=[]:=List.eq_nil_of_length_eq_zero hl
   subst this;rfl
 | a::l,[],hl,_=>by simp at hl
 | a::l,v::vs,hl,h=>by
   have h0:=h 0 a v rfl rfl
   have ih:=He l vs (by simpa using hl) (fun i x y hx hy=>h (i+1) x y (by simpa using hx) (by simpa using hy))
   simp [List.mapM_cons,h0,ih]
theorem Ug {π : Id} {s:VS} {a:Act} (hm:ib G π own E w s a) {rv:ResultVar} {vr:pO} (hc:PT P rv=some vr) {c:AV} (h:iR s vr=some c) :
   ∃ v,(match rv with | .tmp t=>(pure (a.tmps.getD t undef):Sem Value) | .cell x t=>do loadVar t (<- asAddr (a.tmps.getD x undef))).run P w = .ok v w/\aD E w c v:=by
 cases rv with
 | tmp t =>
   simp only [PT,Option.some.injEq] at hc;subst hc
   simp only [iR,Option.some.injEq] at h;subst h
   exact ⟨_,rfl,hm.frame.get t⟩
 | cell x t =>
   simp only [PT] at hc
   cases ha:mc P t with
   | none=>simp [ha] at hc
   | some g =>
   cases Av:P.info? t with
   | none=>simp [ha,Av] at hc
   | some i =>
     simp only [ha,Av] at hc
     split at hc
     . simp only [Option.some.injEq] at hc;subst hc
       simp only [iR,Option.map_eq_some_iff] at h
       obtain ⟨r,hr,rfl⟩:=h
       obtain ⟨⟨v,h1,h2⟩,_,ad,had⟩:=DN hm.inv ha Av (hm.frame.get x) hr
       refine ⟨v, ?_,h2⟩
       simp only []
       rw [had] at h1 ⊢
       simpa [Instr.loadAt,Instr.sureAddr,asAddr] using h1
     . simp at hc
theorem zR {π : Id} {s:VS} {a:Act} (hm:ib G π own E w s a) {fn:Func} {rs:List pO} (hc:fn.results.toList.mapM (PT P)=some rs) {c:AV} (h:fY rs s=some c) :
   ∃ v,(results fn a.tmps).run P w = .ok v w/\aD E w c v:=by
 unfold fY at h
 cases hcs:rs.mapM (iR s) with
 | none=>simp [hcs] at h
 | some cs =>
   have hlen:cs.length=fn.results.toList.length:=by rw [gK hcs,gK hc]
   let F:ResultVar->Sem Value:=fun rv=>match rv with | .tmp t=>(pure (a.tmps.getD t undef):Sem Value) | .cell x t=>do loadVar t (<- asAddr (a.tmps.getD x undef))
   have hex:∀ j,j<cs.length->∃ v,(∀ rv,fn.results.toList[j]? = some rv->(F rv).run P w = .ok v w)/\∀ c,cs[j]? = some c->aD E w c v:=by
     intro j hj
     obtain ⟨vr,h1,h2⟩:=mapM_some_get hcs j cs[j] (by simp [hj])
     obtain ⟨rv,h3,h4⟩:=mapM_some_get hc j vr h1
     obtain ⟨v,h5,h6⟩:=Ug hm h4 h2
     refine ⟨v,fun rv' uO => ?_,fun c hc => ?_⟩
     . rw [h3] at uO;simp only [Option.some.injEq] at uO;subst uO;exact h5
     . simp only [hj,List.getElem?_eq_getElem,Option.some.injEq] at hc;subst hc;exact h6
   let val:Nat->Value:=fun j=>if hj:j<cs.length then Classical.choose (hex j hj) else undef
   have hval:∀ j (hj:j<cs.length),(∀ rv,fn.results.toList[j]? = some rv->(F rv).run P w = .ok (val j) w)/\∀ c,cs[j]? = some c->aD E w c (val j):=by
     intro j hj
     simp only [val,hj,dif_pos]
     exact Classical.choose_spec (hex j hj)
   let vs:List Value:=(List.range cs.length).map val
   have o7:vs.length=cs.length:=by simp [vs]
   have hrun:(fn.results.toList.mapM F).run P w = .ok vs w:=by
     refine He _ vs (by rw [o7,hlen]) fun i rv v uO hv => ?_
     have hi:i<cs.length:=by have:=(List.getElem?_eq_some_iff.1 hv).1;omega
     have:v=val i:=by simp [vs,hi] at hv;exact hv.symm
     subst this
     exact (hval i hi).1 rv uO
   have N6:aF E w cs vs:=bj.2 ⟨o7,fun j c hj=>by
     have l9:=(List.getElem?_eq_some_iff.1 hj).1
     exact ⟨val j,by simp [vs,l9],(hval j l9).2 c hj⟩⟩
   have Aw:(results fn a.tmps).run P w=(pure (if h:vs.toArray.size=1 then vs.toArray[0] else .tuple vs.toArray):Sem Value).run P w:=by
     unfold results
     rw [Array.mapM_eq_mapM_toList]
     simp only [Sem.run_bind,Sem.run_map]
     exact congrArg (fun x:Result (List Value)=>(x.andThen fun b w'=>Result.ok b.toArray w').andThen fun b w'=>Sem.run P (pure (if h:b.size=1 then b[0] else Value.tuple b)) w') hrun
   rw [Aw]
   refine ⟨_,rfl, ?_⟩
   simp only [hcs] at h
   split at h
   . rename_i c0 heq
     simp only [Option.some.injEq] at heq h
     subst h
     have ic:vs.toArray.size=1:=by simp [o7,heq]
     rw [dif_pos ic]
     rw [heq] at N6
     simp only [aF] at N6
     obtain ⟨v,rest,hv,h1,rfl⟩:=N6
     simpa [hv] using h1
   . rename_i fA hne heq
     simp only [Option.some.injEq] at heq h
     subst h;subst heq
     have ic : ¬ vs.toArray.size=1:=by
       intro e
       simp [o7] at e
       obtain ⟨x,hx⟩:=List.length_eq_one_iff.1 e
       exact hne x (by rw [hx])
     rw [dif_neg ic]
     simp only [aD]
     exact ⟨_,rfl,by simpa using N6⟩
   . simp at *
theorem VP.LJ {f:FuncId} {fn:Func} {vf:aL} (hf:P.funcs[f]? = some fn) (hc:Bi P fn=some vf) {args:List AV} {r:AV}
   (h:VW P G [] vf.body (fun e s'=>(e = .normal∨e = .ret)/\∃ r0,fY vf.results s'=some r0/\View s'.σ r0 r) ⟨args++List.replicate (vf.nt-args.length) (.tup []),fun _=>none,0⟩):VP P G f args r:=by
 unfold Bi at hc
 split at hc
 . simp at hc
 . rename_i qy
   split at hc
   . rename_i c rs hb J2
     simp only [Option.map_eq_some_iff] at hc
     obtain ⟨vb,hvb,rfl⟩:=hc
     refine ⟨⟨fn,hf,by simpa using qy,by simp [hb]⟩,fun w vs ok hi hr => ?_⟩
     refine calls_of_wp hf hb ?_
     have GN:vs.length=args.length:=aF.len hr
     have hm:ib G [] (fun k=>w.heap.size<=k) ⟨fun _=>none,ok⟩ w ⟨args++List.replicate (fn.ntmps-args.length) (.tup []),fun _=>none,0⟩
         { tmps:=vs.toArray++Array.replicate (fn.ntmps-vs.toArray.size) undef,defers:=[] }:=by
       refine ⟨?_,hi,fun _ _ _=>rfl,rfl⟩
       show aF _ w _ _
       simp only [Array.toList_append,Array.toList_replicate,List.size_toArray,GN]
       refine aF.append hr (bj.2 ⟨by simp,fun j c hj => ?_⟩)
       have l9:j<fn.ntmps-args.length:=by have:=(List.getElem?_eq_some_iff.1 hj).1;simpa using this
       simp only [List.getElem?_replicate,l9,if_true,Option.some.injEq] at hj ⊢
       subst hj
       exact ⟨undef,rfl,by simp only [aD,undef];exact ⟨#[],rfl,by simp [aF]⟩⟩
     refine h c hvb _ _ w _ _ hm ?_
     intro e s' E' w' a' hq had mL
     obtain ⟨he,r0,ZJ,D6⟩:=hq
     obtain ⟨v,l0,oG⟩:=zR mL J2 ZJ
     have fin:∃ v,(results fn a'.tmps).run P w' = .ok v w'/\∃ v' ok',Ending.returned v = .returned v'/\Adv (fun k=>w.heap.size<=k) ⟨fun _=>none,ok⟩ ⟨fun _=>none,ok'⟩ w w'/\(∀ b,ok' b->b<w'.heap.size)/\aD ⟨fun _=>none,ok'⟩ w' r v':=by
       refine ⟨v,l0,v,(E'.froze s'.σ).ok,rfl, ?_, ?_, ?_⟩
       . refine ⟨⟨fun _ _ h=>by simp at h,fun b hb => .inl (had.step.ok b hb),had.step.same⟩,had.os,had.tape,had.output,had.size,had.block, ?_⟩
         rintro b (hb | ⟨id,bk,k,N,hs,Xy⟩)
         . exact had.PB b hb
         . obtain ⟨g,N',cur,ty,hB⟩:=mL.inv.blk id bk hs
           rw [hB.μ] at Xy
           simp only [Option.some.injEq,Prod.mk.injEq] at Xy
           right;rw [<- Xy.1];exact hB.own
       . rintro b (hb | ⟨id,bk,k,N,hs,Xy⟩)
         . exact mL.inv.okb b hb
         . obtain ⟨g,N',cur,ty,hB⟩:=mL.inv.blk id bk hs
           rw [hB.μ] at Xy
           simp only [Option.some.injEq,Prod.mk.injEq] at Xy
           rw [<- Xy.1];exact cV hB.heap
       . exact D6 G _ E' w' v mL.inv oG
     rcases he with rfl | rfl
     . exact ⟨mL.defers,fin⟩
     . exact ⟨mL.defers,fin⟩
   . simp at hc
end
section
variable {P:Program} {G:Nat->Option (List AV)} {π : Id} {Q:bB->VS->Prop} {s:VS}
def Fg:List AV->List AV->Prop
 | [],[]=>True
 | c::cs,d::ds=>(d = .top∨d=c)/\Fg cs ds
 | _,_=>False
theorem Fg.rep {E:Env} {w:World}:∀ {cs ds:List AV} {vs:List Value},Fg cs ds->aF E w cs vs->aF E w ds vs
 | [],[],_,_,h=>h
 | c::cs,d::ds,vs,hf,h=>by
   simp only [Fg] at hf
   simp only [aF] at h ⊢
   obtain ⟨v,rest,e,h1,h2⟩:=h
   refine ⟨v,rest,e, ?_,Fg.rep hf.2 h2⟩
   rcases hf.1 with rfl | rfl
   . simp [aD]
   . exact h1
 | [],_::_,_,h,_=>by simp [Fg] at h
 | _::_,[],_,h,_=>by simp [Fg] at h
theorem Wk.forget {t t':List AV} {σ σ':aa} {n n':Nat} (ht:Fg t t') (hs:∀ id, σ' id=none ∨ σ' id = σ id) (hn:n<=n'):Wk G π ⟨t, σ,n⟩ ⟨t', σ',n'⟩ :=
 fun own E w _ hm=>⟨E,j7.refl own π E w,ht.rep hm.frame,hm.inv.sub hs,hm.free.mono hn,hm.defers⟩
theorem Wk.slots {t t':List AV} {σ : aa} {n n':Nat} (ht:Fg t t') (hn:n<=n'):Wk G π ⟨t, σ,n⟩ ⟨t', σ,n'⟩:=Wk.forget ht (fun _ => .inr rfl) hn
def VRd (P:Program) (G:Nat->Option (List AV)) (π : Id) (x:bA) (Q:bB->VS->Prop):Nat->VS->Prop
 | 0,_=>False
 | n+1,s=>VW P G π x (Then (VRd P G π x Q n) Q) s
theorem VW.rounds {x:bA} (n:Nat) (h:VRd P G π x Q n s):VW P G π (.loop x) Q s:=by
 intro c hc own E w a R hm hR
 cases c<;>simp only [eL,Option.some.injEq,reduceCtorEq] at hc
 case loop cb =>
   cases h1:eL P cb with
   | none=>simp [h1] at hc
   | some vb =>
     simp only [h1,Option.map_some,Option.some.injEq,bA.loop.injEq] at hc
     subst hc
     refine wp_loop_rounds n ?_
     have key:∀ n s E2 w2 a2,VRd P G π vb Q n s->j7 own π E E2 w w2->ib G π own E2 w2 s a2->Code.rounds P cb R n a2 w2:=by
       intro n
       induction n with
       | zero=>intro s E2 w2 a2 h _ _;exact h.elim
       | succ n ih =>
         intro s E2 w2 a2 h ad hm
         refine h cb h1 own E2 w2 a2 _ hm ?_
         intro e s' E' w' a' hq had mL
         cases e with
         | normal=>exact ih s' E' w' a' hq (ad.trans had) mL
         | exit id=>exact hR (.exit id) s' E' w' a' hq (ad.trans had) mL
         | ret=>exact hR .ret s' E' w' a' hq (ad.trans had) mL
     exact key n s E w a h (j7.refl own π E w) hm
 case region=>exfalso;revert hc;unfold kZ;(repeat' split)<;>simp
 all_goals (exfalso;revert hc;(repeat' split)<;>simp)
end
def gj.pW {α : Type}:gj α -> Bool
 | .call _ _=>true
 | _=>false
def D7 (G:Nat->Option (List AV)) (σ : aa) (p:Id) (d:Option Nat) (op:gj aO) (g:Option (Nat × Bool)) (t:List AV):Option (List AV × eB × aa) :=
 match eP t g with
 | none=>none
 | some false=>some (fL t d (.tup []),{ val := .tup [] }, σ)
 | some true=>match bu σ p (op.map (aO.ev G t)) with
   | some r=>some (fL t d r.val,r, σ.app r.up)
   | none=>none
section
variable (P:Program) (G:Nat->Option (List AV)) (π : Id)
def vs (base:Nat) (Q:bB->VS->Prop) (n:Nat) (os:List bg) (i:Nat) (t:List AV) (σ : aa):Prop :=
 xc P G π base (fun t σ => Q .normal ⟨t, σ,n⟩) os i t σ
def vd (base:Nat) (Q:bB->VS->Prop) (n:Nat) (ps:List (Nat × Nat)) (os:List bg) (i:Nat) (acc:List eB) (t:List AV) (σ : aa):Prop :=
 xd P G π base (fun rs t σ => aJ rs ps/\Q .normal ⟨t, σ,n⟩) os i acc t σ
def aat (base:Nat) (Q:bB->VS->Prop) (n:Nat) (os:List bg) (i:Nat):Option (List AV × eB × aa)->Prop
 | some (t,_, σ)=>vs P G π base Q n os i t σ
 | none=>False
def aau (base:Nat) (Q:bB->VS->Prop) (n:Nat) (ps:List (Nat × Nat)) (os:List bg) (i:Nat) (acc:List eB):Option (List AV × eB × aa)->Prop
 | some (t,r, σ)=>vd P G π base Q n ps os i (r::acc) t σ
 | none=>False
def nW (base:Nat) (Q:bB->VS->Prop) (n:Nat) (d:Option Nat) (os:List bg) (i:Nat) (t:List AV) (σ : aa) (f:FuncId) (args:List AV):Prop :=
 ∃ S r,aq P G f args ((base+i) :: π) S r/\(∀ x∈S, σ x.1=some x.2)/\(∀ x∈S,x.1∈r.rd)/\vs P G π base Q n os (i+1) (fL t d r.val) (σ.app r.up)
def FL (base:Nat) (Q:bB->VS->Prop) (n:Nat) (ps:List (Nat × Nat)) (d:Option Nat) (os:List bg) (i:Nat) (acc:List eB) (t:List AV) (σ : aa) (f:FuncId) (args:List AV):Prop :=
 ∃ S r,aq P G f args ((base+i) :: π) S r/\(∀ x∈S, σ x.1=some x.2)/\(∀ x∈S,x.1∈r.rd)/\vd P G π base Q n ps os (i+1) (r::acc) (fL t d r.val) (σ.app r.up)
def LK (base:Nat) (Q:bB->VS->Prop) (n:Nat) (d:Option Nat) (os:List bg) (i:Nat) (t:List AV) (σ : aa):Option Bool->AV->List AV->Prop
 | some true, .fn (.func f) first cap,l=>nW P G π base Q n d os i t σ f (first++l++cap)
 | some false,_,_=>vs P G π base Q n os (i+1) (fL t d (.tup [])) σ
 | _,_,_=>False
def LL (base:Nat) (Q:bB->VS->Prop) (n:Nat) (ps:List (Nat × Nat)) (d:Option Nat) (os:List bg) (i:Nat) (acc:List eB) (t:List AV) (σ : aa):Option Bool->AV->List AV->Prop
 | some true, .fn (.func f) first cap,l=>FL P G π base Q n ps d os i acc t σ f (first++l++cap)
 | some false,_,_=>vd P G π base Q n ps os (i+1) ({ val := .tup [] }::acc) (fL t d (.tup [])) σ
 | _,_,_=>False
variable {P} {G} {π}
variable {base:Nat} {Q:bB->VS->Prop} {n:Nat} {ps:List (Nat × Nat)} {d:Option Nat} {g:Option (Nat × Bool)} {os:List bg} {i:Nat} {acc:List eB} {t:List AV} {σ : aa}
theorem Qn:vs P G π base Q n [] i t σ = Q .normal ⟨t, σ,n⟩:=(rfl)
theorem Qo:vd P G π base Q n ps [] i acc t σ = (aJ acc.reverse ps/\Q .normal ⟨t, σ,n⟩):=(rfl)
theorem qB {σ : aa} {p:Id} {op:gj AV} {K:eB->Prop} (h:op.pW=false):tu P G σ p op K=(match bu σ p op with | some r=>K r | none=>False):=by
 cases op<;>first | rfl | simp [gj.pW] at h
theorem Bz {op:gj aO} {f:aO->AV}:(op.map f).pW=op.pW:=by cases op<;>rfl
theorem aav {op:gj aO} (h:op.pW=false):vs P G π base Q n (⟨d,op,g⟩::os) i t σ = aat P G π base Q n os (i+1) (D7 G σ ((base+i) :: π) d op g t):=by
 unfold vs
 simp only [xc,D7]
 cases hw:eP t g with
 | none=>rfl
 | some b =>
   cases b with
   | false=>rfl
   | true =>
     simp only []
     rw [qB (by rw [Bz];exact h)]
     cases bu σ ((base+i) :: π) (op.map (aO.ev G t))<;>rfl
theorem aaw {op:gj aO} (h:op.pW=false):vd P G π base Q n ps (⟨d,op,g⟩::os) i acc t σ = aau P G π base Q n ps os (i+1) acc (D7 G σ ((base+i) :: π) d op g t):=by
 unfold vd
 simp only [xd,D7]
 cases hw:eP t g with
 | none=>rfl
 | some b =>
   cases b with
   | false=>rfl
   | true =>
     simp only []
     rw [qB (by rw [Bz];exact h)]
     cases bu σ ((base+i) :: π) (op.map (aO.ev G t))<;>rfl
theorem Uh {f:aO} {l:List aO}:vs P G π base Q n (⟨d, .call f l,g⟩::os) i t σ = LK P G π base Q n d os i t σ (eP t g) (f.ev G t) (l.map (aO.ev G t)):=by
 unfold vs LK
 simp only [xc]
 cases hw:eP t g with
 | none=>rfl
 | some b =>
   cases b with
   | false=>rfl
   | true =>
     simp only [gj.map,tu]
     cases hf:f.ev G t<;>try rfl
     rename_i fn a c
     cases fn<;>rfl
theorem Ui {f:aO} {l:List aO}:vd P G π base Q n ps (⟨d, .call f l,g⟩::os) i acc t σ = LL P G π base Q n ps d os i acc t σ (eP t g) (f.ev G t) (l.map (aO.ev G t)):=by
 unfold vd LL
 simp only [xd]
 cases hw:eP t g with
 | none=>rfl
 | some b =>
   cases b with
   | false=>rfl
   | true =>
     simp only [gj.map,tu]
     cases hf:f.ev G t<;>try rfl
     rename_i fn a c
     cases fn<;>rfl
theorem BA {f:FuncId} {first cap l:List AV}:LK P G π base Q n d os i t σ (some true) (.fn (.func f) first cap) l=nW P G π base Q n d os i t σ f (first++l++cap):=(rfl)
theorem BB {f:FuncId} {first cap l:List AV}:LL P G π base Q n ps d os i acc t σ (some true) (.fn (.func f) first cap) l=FL P G π base Q n ps d os i acc t σ f (first++l++cap):=(rfl)
theorem aj {f:FuncId} {args:List AV} {r:AV} (h:VP P G f args r) (hp:∀ c∈args,af c) (k:vs P G π base Q n os (i+1) (fL t d r) σ):nW P G π base Q n d os i t σ f args :=
 ⟨[],{ val:=r },aq.LI h hp _,by simp,by simp,k⟩
theorem dG {f:FuncId} {args:List AV} {r:AV} (h:VP P G f args r) (hp:∀ c∈args,af c) (k:vd P G π base Q n ps os (i+1) ({ val:=r }::acc) (fL t d r) σ):FL P G π base Q n ps d os i acc t σ f args :=
 ⟨[],{ val:=r },aq.LI h hp _,by simp,by simp,k⟩
def Hf (P:Program) (G:Nat->Option (List AV)) (π : Id) (x y:bA) (Q:bB->VS->Prop) (s:VS):AV->Prop
 | .bool b=>if b then sF P G π x Q s else sF P G π y Q s
 | .anyb=>sF P G π x Q s/\sF P G π y Q s
 | _=>False
theorem BC {x y:bA} {s:VS}:Hf P G π x y Q s (.bool true)=sF P G π x Q s:=(rfl)
theorem zS {x y:bA} {s:VS}:Hf P G π x y Q s (.bool false)=sF P G π y Q s:=(rfl)
theorem D8 {x y:bA} {s:VS}:Hf P G π x y Q s .anyb=(sF P G π x Q s/\sF P G π y Q s):=(rfl)
theorem Hg {s:VS}:sF P G π .skip Q s=Q .normal s:=(rfl)
theorem BD {os:List bg} {n:Nat}:sF P G π (.reg none os) Q ⟨t, σ,n⟩=vs P G π n Q (n+os.length) os 0 t σ := (rfl)
theorem BF {os:List bg} {n:Nat}:sF P G π (.reg (some ps) os) Q ⟨t, σ,n⟩=vd P G π n Q (n+os.length) ps os 0 [] t σ := (rfl)
theorem LM {x y:bA} {s:VS}:sF P G π (.seq x y) Q s=sF P G π x (Then (sF P G π y Q) Q) s:=(rfl)
theorem Hh {c:aO} {x y:bA} {n:Nat}:sF P G π (.cond c x y) Q ⟨t, σ,n⟩=Hf P G π x y Q ⟨t, σ,n⟩ (c.ev G t):=by
 simp only [sF,Hf]<;>cases c.ev G t<;>rfl
theorem yR {id:Nat} {x:bA} {s:VS}:sF P G π (.block id x) Q s=sF P G π x (N4 id Q) s:=(rfl)
theorem az {x:bA} {s:VS}:sF P G π (.loop x) Q s=VW P G π (.loop x) Q s:=(rfl)
theorem Hi {id:Nat} {s:VS}:sF P G π (.exit id) Q s=Q (.exit id) s:=(rfl)
theorem LO {s:VS}:sF P G π .ret Q s=Q .ret s:=(rfl)
def Dp (rs:List pO) (r:AV) (e:bB) (s:VS):Prop:=(e = .normal∨e = .ret)/\∃ r0,fY rs s=some r0/\View s.σ r0 r
theorem ah {rs:List pO} {r:AV} {s:VS}:Dp rs r .ret s=∃ r0,fY rs s=some r0/\View s.σ r0 r:=by simp [Dp]
theorem zT {rs:List pO} {r:AV} {s:VS}:Dp rs r .normal s=∃ r0,fY rs s=some r0/\View s.σ r0 r:=by simp [Dp]
def Hj {α : Type} (G:Nat->Option (List AV)) (π : Id) (st : α -> VS) (Pr : α -> Prop) (m : α -> Nat) (a : α) (Q:bB->VS->Prop):bB->VS->Prop
 | .normal,s'=>∃ a',Pr a'/\m a'<m a/\Wk G π s' (st a')
 | .exit i,s'=>Q (.exit i) s'
 | .ret,s'=>Q .ret s'
theorem xi {α : Type} {st : α -> VS} {Pr : α -> Prop} {m : α -> Nat} {a : α} {s':VS}:Hj G π st Pr m a Q .normal s'=∃ a',Pr a'/\m a'<m a/\Wk G π s' (st a'):=(rfl)
theorem BG {α : Type} {st : α -> VS} {Pr : α -> Prop} {m : α -> Nat} {a : α} {s':VS} {j:Nat}:Hj G π st Pr m a Q (.exit j) s'=Q (.exit j) s':=(rfl)
theorem D9 {α : Type} {st : α -> VS} {Pr : α -> Prop} {m : α -> Nat} {a : α} {s':VS}:Hj G π st Pr m a Q .ret s'=Q .ret s':=(rfl)
theorem VW.bG {α : Type} {x:bA} {s:VS} (st : α -> VS) (Pr : α -> Prop) (m : α -> Nat) (x0 : α) (hw:Wk G π s (st x0)) (h0:Pr x0)
   (h:∀ a,Pr a->sF P G π x (Hj G π st Pr m a Q) (st a)):VW P G π (.loop x) Q s:=by
 refine VW.wk hw ?_
 intro c hc own E w a R hm hR
 cases c<;>simp only [eL,Option.some.injEq,reduceCtorEq] at hc
 case loop cb =>
   cases h1:eL P cb with
   | none=>simp [h1] at hc
   | some vb =>
     simp only [h1,Option.map_some,Option.some.injEq,bA.loop.injEq] at hc
     subst hc
     refine zP (α := α) (fun g a' w'=>Pr g/\∃ E',j7 own π E E' w w'/\ib G π own E' w' (st g) a') m (x:=x0) ⟨h0,E,j7.refl own π E w,hm⟩ ?_
     rintro g a2 w2 ⟨hI2,E2,Ud,sQ⟩
     refine VW.of (h g hI2) cb h1 own E2 w2 a2 _ sQ ?_
     intro e s' E' w' a' hq had mL
     cases e with
     | normal =>
       obtain ⟨g',hI3,hlt,hw3⟩:=hq
       obtain ⟨E3,ad3,hm3⟩:=hw3 own E' w' a' mL
       exact ⟨g',⟨hI3,E3,(Ud.trans had).trans ad3,hm3⟩,hlt⟩
     | exit id=>exact hR (.exit id) s' E' w' a' hq (Ud.trans had) mL
     | ret=>exact hR .ret s' E' w' a' hq (Ud.trans had) mL
 case region=>exfalso;revert hc;unfold kZ;(repeat' split)<;>simp
 all_goals (exfalso;revert hc;(repeat' split)<;>simp)
theorem VP.of {f:FuncId} {fn:Func} {vf:aL} (hf:P.funcs[f]? = some fn) (hc:Bi P fn=some vf) {args:List AV} {r:AV}
   (h:sF P G [] vf.body (Dp vf.results r) ⟨args++List.replicate (vf.nt-args.length) (.tup []),fun _=>none,0⟩):VP P G f args r :=
 VP.LJ hf hc (VW.of h)
end
def aa.of (S:List (Id × a8)):aa:=fun i=>S.lookup i
theorem eR {S:List (Id × a8)} {i:Id} {b:a8}:S.lookup i=some b->(i,b)∈S:=by
 induction S with
 | nil=>intro h;simp at h
 | cons x S ih =>
   intro h
   obtain ⟨j,c⟩:=x
   simp only [List.lookup_cons] at h
   split at h
   . rename_i he
     have:i=j:=by simpa using he
     subst this
     simp only [Option.some.injEq] at h;subst h;simp
   . exact List.mem_cons_of_mem _ (ih h)
theorem aa.mf {S:List (Id × a8)} {σ : aa} (h:∀ x∈S, σ x.1=some x.2) (i:Id):aa.of S i=none∨aa.of S i = σ i:=by
 cases hl:S.lookup i with
 | none=>exact .inl hl
 | some b=>right;show S.lookup i = σ i;rw [hl];exact (h _ (eR hl)).symm
theorem aa.Kh (up:List (Id × Option a8)) (σ σ':aa) (i:Id) (h:(∃ x∈up,x.1=i) ∨ σ i = σ' i) : σ.app up i = σ'.app up i:=by
 induction up generalizing σ σ' with
 | nil =>
   rcases h with ⟨x,hx,_⟩ | h
   . simp at hx
   . exact h
 | cons x up ih =>
   obtain ⟨j,b⟩:=x
   simp only [aa.app]
   apply ih
   by_cases hj:i=j
   . right;subst hj;simp [aa.put]
   . rcases h with ⟨y,hy,he⟩ | h
     . simp only [List.mem_cons] at hy
       rcases hy with rfl | hy
       . exact absurd he.symm hj
       . exact .inl ⟨y,hy,he⟩
     . right;simp [aa.put,hj,h]
theorem aa.FM (up:List (Id × Option a8)) (σ : aa) (i:Id) (h:∀ x∈up,x.1≠i) : σ.app up i = σ i:=by
 induction up generalizing σ with
 | nil=>rfl
 | cons x up ih =>
   obtain ⟨j,b⟩:=x
   simp only [aa.app]
   rw [ih _ fun y hy=>h y (List.mem_cons_of_mem _ hy),aa.bb]
   exact fun e=>h (j,b) (by simp) e.symm
section
variable {P:Program} {G:Nat->Option (List AV)}
def Fin (G:Nat->Option (List AV)) (p:Id) (S:List (Id × a8)) (σ':aa) (r0:AV) (r:eB):Prop :=
 ∀ own E w v,Inv G own E w σ'->aD E w r0 v->E.μ p=none->∃ E',j7 own p E E' w w/\Inv G own E' w ((aa.of S).app r.up)/\aD E' w r.val v
def N7 (G:Nat->Option (List AV)) (p:Id) (S:List (Id × a8)) (rs:List pO) (r:eB) (e:bB) (s:VS):Prop :=
 (e = .normal∨e = .ret)/\∃ r0,fY rs s=some r0/\Fin G p S s.σ r0 r
theorem aq.V5 {f:FuncId} {fn:Func} {vf:aL} (hf:P.funcs[f]? = some fn) (hc:Bi P fn=some vf) {args:List AV} {p:Id} {S:List (Id × a8)} {r:eB}
   (h:VW P G p vf.body (N7 G p S vf.results r) ⟨args++List.replicate (vf.nt-args.length) (.tup []),aa.of S,0⟩):aq P G f args p S r:=by
 unfold Bi at hc
 split at hc
 . simp at hc
 . rename_i qy
   split at hc
   . rename_i c rs hb J2
     simp only [Option.map_eq_some_iff] at hc
     obtain ⟨vb,hvb,rfl⟩:=hc
     refine ⟨⟨fn,hf,by simpa using qy,by simp [hb]⟩,fun own E w σ vs hS hi hr hμ => ?_⟩
     refine calls_of_wp hf hb ?_
     have GN:vs.length=args.length:=aF.len hr
     let Dq:Nat->Prop:=fun g=>(∃ x∈S,∃ y,E.μ x.1=some y/\y.1=g)∨w.heap.size<=g
     have vO:∀ i,aa.of S i=none∨aa.of S i = σ i:=aa.mf hS
     have N8:∀ g,Dq g->own g:=by
       rintro g (⟨x,hx,y,hy,rfl⟩ | hg)
       . obtain ⟨g,N,cur,ty,hB⟩:=hi.blk _ _ (hS x hx)
         have:=hB.μ.symm.trans hy
         simp only [Option.some.injEq] at this
         subst this
         exact hB.own
       . exact hi.new g hg
     have N5:Inv G Dq E w (aa.of S):=by
       refine ⟨hi.okb,fun id bk hs => ?_,(hi.sub vO).inj,hi.glob,fun k hk => .inr hk⟩
       have hm:=eR hs
       obtain ⟨g,N,cur,ty,hB⟩:=hi.blk _ _ (hS _ hm)
       exact ⟨g,N,cur,ty,hB.μ,hB.heap,hB.size,hB.len,hB.most, .inl ⟨_,hm,_,hB.μ,rfl⟩,hB.ok,hB.no,hB.k,hB.row⟩
     have hm:ib G p Dq E w ⟨args++List.replicate (fn.ntmps-args.length) (.tup []),aa.of S,0⟩
         { tmps:=vs.toArray++Array.replicate (fn.ntmps-vs.toArray.size) undef,defers:=[] }:=by
       refine ⟨?_,N5,fun j hj _=>hμ j hj,rfl⟩
       show aF _ w _ _
       simp only [Array.toList_append,Array.toList_replicate,List.size_toArray,GN]
       refine aF.append hr (bj.2 ⟨by simp,fun j c hj => ?_⟩)
       have l9:j<fn.ntmps-args.length:=by have:=(List.getElem?_eq_some_iff.1 hj).1;simpa using this
       simp only [List.getElem?_replicate,l9,if_true,Option.some.injEq] at hj ⊢
       subst hj
       exact ⟨undef,rfl,by simp only [aD,undef];exact ⟨#[],rfl,by simp [aF]⟩⟩
     refine h c hvb Dq E w _ _ hm ?_
     intro e s' E' w' a' hq had mL
     obtain ⟨he,r0,ZJ,xj⟩:=hq
     obtain ⟨v,l0,oG⟩:=zR mL J2 ZJ
     obtain ⟨E2,FJ,DU,hv3⟩:=xj Dq E' w' v mL.inv oG mL.free.self
     have dS:j7 Dq p E E2 w w':=had.trans FJ
     have aaz:Adv own E E2 w w' :=
       ⟨dS.step,dS.os,dS.tape,dS.output,dS.size,fun k hk ho=>dS.block k hk fun h=>ho (N8 k h),fun b hb=>(dS.PB b hb).imp id (N8 b)⟩
     -- a block of the caller that the function did not have
     have key:∀ i bk, σ i=some bk->aa.of S i=none->∀ g N cur ty,o6 E own w i bk g N cur ty -> ¬ Dq g:=by
       intro i bk hs hn g N cur ty hB
       rintro (⟨x,hx,y,hy,he⟩ | hg)
       . refine hi.inj x.1 i y (g,bk.k,N) (by simp [hS x hx]) (by simp [hs]) ?_ hy hB.μ he
         intro e
         have:=hS x hx
         have h1:(aa.of S) x.1≠none:=by
           show S.lookup x.1≠none
           intro hl
           rw [List.lookup_eq_none_iff] at hl
           have:=hl x hx
           simp at this
         rw [e] at h1
         exact h1 hn
       . have:=cV hB.heap;omega
     have fin:∃ v',Ending.returned v = .returned v'/\j5 G own E w σ p r v' E2 w':=by
       refine ⟨v,rfl,aaz, ?_,hv3,dS.ids⟩
       -- the invariant of the caller's store
       have yS:∀ i,(σ.app r.up i=(aa.of S).app r.up i)∨(σ.app r.up i = σ i/\(aa.of S i=none)):=by
         intro i
         by_cases h:(∃ x∈r.up,x.1=i) ∨ σ i=aa.of S i
         . exact .inl (aa.Kh r.up σ (aa.of S) i h)
         . right
           have h1:∀ x∈r.up,x.1≠i:=fun x hx e=>h (.inl ⟨x,hx,e⟩)
           refine ⟨aa.FM r.up σ i h1, ?_⟩
           rcases vO i with h2 | h2
           . exact h2
           . exact absurd (.inr h2.symm) h
       have hold:∀ i bk, σ i=some bk->aa.of S i=none->∃ g N cur ty,o6 E own w i bk g N cur ty/\o6 E2 own w' i bk g N cur ty /\ ¬ Dq g:=by
         intro i bk hs hn
         obtain ⟨g,N,cur,ty,hB⟩:=hi.blk i bk hs
         have hno:=key i bk hs hn g N cur ty hB
         refine ⟨g,N,cur,ty,hB,hB.keep dS.step (dS.block g (cV hB.heap) hno) (fun hf dI => ?_),hno⟩
         exact (dS.PB g dI).elim (hB.no hf) hno
       refine ⟨DU.okb,fun i bk hs => ?_,fun i j x y fK hj' hne hx hy => ?_,DU.glob,fun k hk=>hi.new k (Nat.le_trans dS.size hk)⟩
       . rcases yS i with h1 | ⟨h1,h2⟩
         . rw [h1] at hs
           obtain ⟨g,N,cur,ty,hB⟩:=DU.blk i bk hs
           exact ⟨g,N,cur,ty,hB.μ,hB.heap,hB.size,hB.len,hB.most,N8 g hB.own,hB.ok,hB.no,hB.k,hB.row⟩
         . rw [h1] at hs
           obtain ⟨g,N,cur,ty,_,hB,_⟩:=hold i bk hs h2
           exact ⟨g,N,cur,ty,hB⟩
       . have new:∀ i x, σ.app r.up i≠none -> σ.app r.up i=(aa.of S).app r.up i->E2.μ i=some x->Dq x.1:=by
           intro i x hn he hx
           rw [he] at hn
           cases hb:(aa.of S).app r.up i with
           | none=>exact absurd hb hn
           | some bk =>
             obtain ⟨g,N,cur,ty,hB⟩:=DU.blk i bk hb
             have:=hB.μ.symm.trans hx
             simp only [Option.some.injEq] at this
             subst this
             exact hB.own
         have old:∀ i x, σ.app r.up i≠none -> σ.app r.up i = σ i->aa.of S i=none->E2.μ i=some x -> ¬ Dq x.1:=by
           intro i x hn he hs hx
           rw [he] at hn
           cases hb : σ i with
           | none=>exact absurd hb hn
           | some bk =>
             obtain ⟨g,N,cur,ty,_,hB,hno⟩:=hold i bk hb hs
             have:=hB.μ.symm.trans hx
             simp only [Option.some.injEq] at this
             subst this
             exact hno
         rcases yS i with h1 | ⟨h1,h2⟩<;>rcases yS j with h3 | ⟨h3,h4⟩
         . exact DU.inj i j x y (h1▸fK) (h3▸hj') hne hx hy
         . intro e;exact old j y hj' h3 h4 hy (e▸new i x fK h1 hx)
         . intro e;exact old i x fK h1 h2 hx (e▸new j y hj' h3 hy)
         . have lift:∀ i x, σ.app r.up i≠none -> σ.app r.up i = σ i->aa.of S i=none->E2.μ i=some x->E.μ i=some x:=by
             intro i x hn he hs hx
             rw [he] at hn
             cases hb : σ i with
             | none=>exact absurd hb hn
             | some bk =>
               obtain ⟨g,N,cur,ty,hB,ny,hno⟩:=hold i bk hb hs
               rw [hB.μ, <- ny.μ,hx]
           exact hi.inj i j x y (h1▸fK) (h3▸hj') hne (lift i x fK h1 h2 hx) (lift j y hj' h3 h4 hy)
     have aaA:∃ v0,(results fn a'.tmps).run P w' = .ok v0 w'/\∃ v' E',Ending.returned v0 = .returned v'/\j5 G own E w σ p r v' E' w':=by
       obtain ⟨v',h1,h2⟩:=fin
       exact ⟨v,l0,v',E2,h1,h2⟩
     rcases he with rfl | rfl
     . exact ⟨mL.defers,aaA⟩
     . exact ⟨mL.defers,aaA⟩
   . simp at hc
theorem Fin.same {p:Id} {S:List (Id × a8)} {σ':aa} {r0:AV} {r:eB} (hv:r.val=r0) (hs:∀ i,(aa.of S).app r.up i=none∨(aa.of S).app r.up i = σ' i):Fin G p S σ' r0 r :=
 fun own E w _ hi hr _=>⟨E,j7.refl own p E w,hi.sub hs,hv▸hr⟩
end
section
open Go.RowKit
theorem aq.tz {P:Program} {G:Nat->Option (List AV)} {f:FuncId} {fn:Func} (hf:P.funcs[f]? = some fn) (qy:(fn.name == "runtime.NumGoroutine")=false) (hb:fn.body.isSome=true) {args:List AV} {p:Id} {S:List (Id × a8)} {val:AV} {rd:List Id}
   (h:∀ own E w σ vs,(∀ x∈S, σ x.1=some x.2)->Inv G own E w σ -> aF E w args vs->Calls P f vs.toArray w fun e w'=>∃ v,e = .returned v/\Below w.heap.size w w'/\LB val v) :
   aq P G f args p S { val,rd }:=by
 refine ⟨⟨fn,hf,qy,hb⟩,fun own E w σ vs hS hi hr _=>(h own E w σ vs hS hi hr).mono fun e w' he => ?_⟩
 obtain ⟨v,rfl,hB,hv⟩:=he
 have dS:Adv own E E w w':=⟨⟨fun _ _ h=>h,fun _ h=>h,fun b hb=>hB.block b (hi.okb b hb)⟩,hB.os,hB.tape,hB.output,hB.size,fun k hk _=>hB.block k hk,fun _ h => .inl h⟩
 refine ⟨v,E,rfl,dS, ?_,hv E w',fun _ _=>rfl⟩
 refine hi.keep dS rfl (fun b hb=>Nat.lt_of_lt_of_le (hi.okb b hb) hB.size) fun id bk g N hs hm => ?_
 obtain ⟨g',N',cur,ty,ny⟩:=hi.blk id bk hs
 rw [ny.μ] at hm
 simp only [Option.some.injEq,Prod.mk.injEq] at hm
 obtain ⟨rfl,_,rfl⟩:=hm
 exact ⟨hB.block _ (cV ny.heap),ny.no⟩
theorem Qp {G:Nat->Option (List AV)} {own:Nat->Prop} {E:Env} {w:World} {σ : aa} (hi:Inv G own E w σ) {x:AV} {v:Value} (hx:aD E w x v) {k:IntKind} {zs:List Int} {rd:List Id} (h:dB σ 1 x=some (zs.map (AV.int k),rd)) :
   ∃ a cap,v = .slice a zs.length cap/\zs.length<=cap/\(zs=[]∨∃ b o,a=some ⟨b,o,none⟩/\b<w.heap.size/\∀ j,j<zs.length->w.cell? ⟨b,o+j,none⟩=some (.int k (zs[j]?.getD 0))):=by
 obtain ⟨_,a,cap,rfl,hle,hr⟩:=ux hi hx h
 refine ⟨a,cap,by simp,by simpa using hle, ?_⟩
 rcases hr with hr | ⟨b,o,rfl,hr⟩
 . left;simpa using hr
 . cases zs with
   | nil=>exact .inl rfl
   | cons z zs =>
     right
     have Bg:flat ((z::zs).map (AV.int k))=(z::zs).map (AV.int k):=by
       generalize z::zs=l
       induction l with
       | nil=>rfl
       | cons y l ih=>simp only [List.map_cons,flat,List.flatMap_cons,AV.cells] at ih ⊢;rw [ih];rfl
     rw [Bg] at hr
     have hc:∀ j,j<(z::zs).length->w.cell? ⟨b,o+j,none⟩=some (.int k ((z::zs)[j]?.getD 0)):=by
       intro j hj
       obtain ⟨v,h1,h2⟩:=hr j (.int k (z::zs)[j]) (by rw [List.getElem?_map,List.getElem?_eq_getElem hj];rfl)
       simp only [aD] at h2
       subst h2
       rw [h1,List.getElem?_eq_getElem hj];rfl
     refine ⟨b,o,rfl, ?_,hc⟩
     have:=hc 0 (by simp)
     cases hh:w.heap[b]? with
     | none=>simp [World.cell?,hh] at this
     | some ob=>exact (Array.getElem?_eq_some_iff.1 hh).1
end
def a8.fz (b:a8):a8:={ b with fr:=true }
def nX (S:List (Id × a8)):List (Id × Option a8):=S.map fun x=>(x.1,some x.2.fz)
open Classical in
theorem uA {σ : aa} (i:Id):∀ (S:List (Id × a8)) (σ0:aa),(∀ x∈S, σ x.1=some x.2) -> σ0.app (nX S) i=if ∃ x∈S,x.1=i then (σ i).map a8.fz else σ0 i
 | [], σ0,_=>by simp [nX,aa.app]
 | x :: S, σ0,h=>by
   show aa.app (σ0.put x.1 (some x.2.fz)) (nX S) i=_
   rw [uA i S _ fun y hy=>h y (List.mem_cons_of_mem _ hy)]
   by_cases h1:∃ y∈S,y.1=i
   . rw [if_pos h1,if_pos]
     obtain ⟨y,hy,e⟩:=h1
     exact ⟨y,List.mem_cons_of_mem _ hy,e⟩
   . rw [if_neg h1]
     by_cases h2:i=x.1
     . subst h2
       rw [if_pos ⟨x,by simp,rfl⟩,h x (by simp),aa.a6];rfl
     . rw [if_neg,aa.bb _ _ _ h2]
       rintro ⟨y,hy,e⟩
       rcases List.mem_cons.1 hy with rfl | hy
       . exact h2 e.symm
       . exact h1 ⟨y,hy,e⟩
theorem yT {S:List (Id × a8)} {σ : aa} (hS:∀ x∈S, σ x.1=some x.2) {x:Id × a8} (hx:x∈S):aa.of S x.1=some x.2:=by
 cases hl:S.lookup x.1 with
 | none =>
   rw [List.lookup_eq_none_iff] at hl
   have:=hl x hx
   simp at this
 | some b =>
   have:=hS _ (eR hl)
   rw [hS x hx] at this
   show S.lookup x.1=_
   rw [hl];exact this.symm
section
variable {P:Program} {G:Nat->Option (List AV)}
theorem Inv.froze {own:Nat->Prop} {E:Env} {w:World} {σ : aa} {S:List (Id × a8)} (hi:Inv G own E w σ) (hS:∀ x∈S, σ x.1=some x.2) :
   Inv G (fun k=>w.heap.size<=k) (E.froze (aa.of S)) w (fun _=>none) where
 okb := by
   rintro b (hb | ⟨id,bk,k,N,hs,hm⟩)
   . exact hi.okb b hb
   . obtain ⟨g,N',cur,ty,hB⟩:=hi.blk id bk (hS _ (eR hs))
     rw [hB.μ] at hm
     simp only [Option.some.injEq,Prod.mk.injEq] at hm
     rw [<- hm.1];exact cV hB.heap
 blk:=fun id bk h=>by simp at h
 inj:=fun i j x y h=>absurd rfl h
 glob:=fun g cs hg=>by
   obtain ⟨h1,h2⟩:=hi.glob g cs hg
   exact ⟨.inl h1,aX.keep (⟨fun _ _ h=>h,fun _ h => .inl h,fun _ _=>rfl⟩:Step E.bare (E.froze (aa.of S)).bare w w) rfl cs 0 h2⟩
 new:=fun k hk=>hk
theorem aq.AR {f:FuncId} {args eD:List AV} {r:AV} {p:Id} {S:List (Id × a8)} (h:VP P G f eD r) (hv:aI (aa.of S) args eD) :
   aq P G f args p S { val:=r,rd:=S.map (·.1),up:=nX S }:=by
 refine ⟨h.1,fun own E w σ vs hS hi hr hμ => ?_⟩
 have yK:=hv.tw (hi.sub (aa.mf hS)) hr
 refine (h.2 w vs _ (hi.froze hS) yK).mono fun e w' he => ?_
 obtain ⟨v,ok',rfl,had,dI,hv'⟩:=he
 have dS:Adv own E ⟨E.μ,ok'⟩ w w':=by
   refine ⟨⟨fun _ _ h=>h,fun b hb=>had.step.ok b (.inl hb),fun b hb=>had.step.same b (.inl hb)⟩,had.os,had.tape,had.output,had.size,fun k hk _=>had.block k hk (by omega),fun b hb => ?_⟩
   rcases had.PB b hb with (h1 | ⟨id,bk,k,N,hs,hm⟩) | h1
   . exact .inl h1
   . obtain ⟨g,N',cur,ty,hB⟩:=hi.blk id bk (hS _ (eR hs))
     rw [hB.μ] at hm
     simp only [Option.some.injEq,Prod.mk.injEq] at hm
     rw [<- hm.1];exact .inr hB.own
   . exact .inr (hi.new b h1)
 refine ⟨v,⟨E.μ,ok'⟩,rfl,dS, ?_,aD.keep (⟨fun _ _ h=>by simp at h,fun _ h=>h,fun _ _=>rfl⟩:Step ⟨fun _=>none,ok'⟩ ⟨E.μ,ok'⟩ w' w') r v hv',fun _ _=>rfl⟩
 have sP:=fun i=>uA (σ := σ) i S σ hS
 refine ⟨dI,fun id bk hs => ?_,fun i j x y fK hj' hne hx hy => ?_,fun g cs hg => ?_,fun k hk=>hi.new k (Nat.le_trans had.size hk)⟩
 . have dr : σ.app (nX S) id=some bk:=hs
   rw [sP id] at dr
   split at dr
   . rename_i pc
     obtain ⟨x,hx,rfl⟩:=pc
     rw [hS x hx] at dr
     simp only [Option.map_some,Option.some.injEq] at dr
     subst dr
     obtain ⟨g,N,cur,ty,hB⟩:=hi.blk _ _ (hS x hx)
     have hb:=had.block g (cV hB.heap) (by have:=cV hB.heap;omega)
     exact ⟨g,N,cur,ty,hB.μ,hb.trans hB.heap,hB.size,hB.len,hB.most,hB.own,fun _=>had.step.ok g (.inr ⟨x.1,x.2,x.2.k,N,yT hS hx,hB.μ⟩),fun hf=>by simp [a8.fz] at hf,hB.k,eh.keep dS.step hb hB.row⟩
   . rename_i FN
     obtain ⟨g,N,cur,ty,hB⟩:=hi.blk _ _ dr
     have hg:=cV hB.heap
     refine ⟨g,N,cur,ty,hB.keep dS.step (had.block g hg (by omega)) fun hf hb => ?_⟩
     rcases had.PB g hb with (h1 | ⟨GL,ZF,k2,N2,mV,sQ⟩) | h1
     . exact hB.no hf h1
     . have hm:=eR mV
       refine hi.inj id GL _ _ (by simp [dr]) (by simp [hS _ hm]) ?_ hB.μ sQ rfl
       rintro rfl
       exact FN ⟨_,hm,rfl⟩
     . omega
 . have keep:∀ i, σ.app (nX S) i≠none -> σ i≠none:=by
     intro i hn he
     apply hn
     rw [sP i,he]
     split<;>rfl
   exact hi.inj i j x y (keep i fK) (keep j hj') hne hx hy
 . obtain ⟨h1,h2⟩:=hi.glob g cs hg
   exact ⟨dS.step.ok g h1,aX.keep dS.step.bare (dS.step.same g h1) cs 0 h2⟩
theorem aq.of_flat {f:FuncId} {args eD:List AV} {r:AV} {p:Id} {S:List (Id × a8)} (h:VP P G f eD r) (hv:aI (aa.of S) args eD) (hf:aS r) :
   aq P G f args p S { val:=r,rd:=S.map (·.1) }:=by
 refine ⟨h.1,fun own E w σ vs hS hi hr hμ => ?_⟩
 have yK:=hv.tw (hi.sub (aa.mf hS)) hr
 refine (h.2 w vs _ (hi.froze hS) yK).mono fun e w' he => ?_
 obtain ⟨v,ok',rfl,had,dI,hv'⟩:=he
 have dS:Adv own E E w w':=⟨⟨fun _ _ h=>h,fun b hb=>hb,fun b hb=>had.step.same b (.inl hb)⟩,had.os,had.tape,had.output,had.size,fun k hk _=>had.block k hk (by omega),fun b hb => .inl hb⟩
 refine ⟨v,E,rfl,dS, ?_,hf _ _ _ _ _ hv',fun _ _=>rfl⟩
 refine hi.keep dS rfl (fun b hb=>Nat.lt_of_lt_of_le (hi.okb b hb) had.size) fun id bk g N hs hm => ?_
 obtain ⟨g',N',cur,ty,ny⟩:=hi.blk id bk hs
 rw [ny.μ] at hm
 simp only [Option.some.injEq,Prod.mk.injEq] at hm
 obtain ⟨rfl,_,rfl⟩:=hm
 have hg:=cV ny.heap
 exact ⟨had.block _ hg (by omega),ny.no⟩
def N9 (S:List (Id × a8)):List AV->List AV->Prop
 | [],[]=>True
 | c::cs,d::ds=>(d = .top∨d=c∨View (aa.of S) c d)/\N9 S cs ds
 | _,_=>False
theorem N9.rep {own:Nat->Prop} {E:Env} {w:World} {S:List (Id × a8)} (hi:Inv G own E w (aa.of S)):∀ {cs ds:List AV} {vs:List Value},N9 S cs ds->aF E w cs vs->aF ⟨E.μ,(E.froze (aa.of S)).ok⟩ w ds vs
 | [],[],_,_,h=>by simpa [aF] using h
 | c::cs,d::ds,vs,hf,h=>by
   simp only [N9] at hf
   simp only [aF] at h ⊢
   obtain ⟨v,rest,e,h1,h2⟩:=h
   refine ⟨v,rest,e, ?_,N9.rep hi hf.2 h2⟩
   rcases hf.1 with rfl | rfl | hv
   . simp [aD]
   . exact aD.keep (⟨fun _ _ h=>h,fun _ h => .inl h,fun _ _=>rfl⟩:Step E ⟨E.μ,(E.froze (aa.of S)).ok⟩ w w) _ v h1
   . exact aD.keep (⟨fun _ _ h=>by simp [Env.froze] at h,fun _ h=>h,fun _ _=>rfl⟩:Step (E.froze (aa.of S)) ⟨E.μ,(E.froze (aa.of S)).ok⟩ w w) _ v (hv _ _ _ _ _ hi h1)
 | [],_::_,_,h,_=>by simp [N9] at h
 | _::_,[],_,h,_=>by simp [N9] at h
theorem Wk.freeze {π : Id} {t t':List AV} {σ σ':aa} {n n':Nat} (S:List (Id × a8)) (hS:∀ x∈S, σ x.1=some x.2) (ht:N9 S t t')
   (hs:∀ id, σ' id=none ∨ σ' id = σ.app (nX S) id) (hn:n<=n'):Wk G π ⟨t, σ,n⟩ ⟨t', σ',n'⟩:=fun own E w a hm=>by
 have hi:=hm.inv
 let E':Env:=⟨E.μ,(E.froze (aa.of S)).ok⟩
 have dS:Adv own E E' w w:=by
   refine ⟨⟨fun _ _ h=>h,fun b hb => .inl hb,fun b hb=>rfl⟩,rfl,rfl,rfl,Nat.le_refl _,fun k hk _=>rfl,fun b hb => ?_⟩
   rcases hb with h1 | ⟨id,bk,k,N,hs,hm⟩
   . exact .inl h1
   . obtain ⟨g,N',cur,ty,hB⟩:=hi.blk id bk (hS _ (eR hs))
     rw [hB.μ] at hm
     simp only [Option.some.injEq,Prod.mk.injEq] at hm
     rw [<- hm.1];exact .inr hB.own
 refine ⟨E',⟨dS,fun _ _=>rfl⟩,ht.rep (hi.sub (aa.mf hS)) hm.frame, ?_,hm.free.mono hn,hm.defers⟩
 refine Inv.sub (σ := σ.app (nX S)) ?_ hs
 have sP:=fun i=>uA (σ := σ) i S σ hS
 refine ⟨(hi.froze hS).okb,fun id bk hs => ?_,fun i j x y fK hj' hne hx hy => ?_,fun g cs hg => ?_,hi.new⟩
 . have dr : σ.app (nX S) id=some bk:=hs
   rw [sP id] at dr
   split at dr
   . rename_i pc
     obtain ⟨x,hx,rfl⟩:=pc
     rw [hS x hx] at dr
     simp only [Option.map_some,Option.some.injEq] at dr
     subst dr
     obtain ⟨g,N,cur,ty,hB⟩:=hi.blk _ _ (hS x hx)
     exact ⟨g,N,cur,ty,hB.μ,hB.heap,hB.size,hB.len,hB.most,hB.own,fun _ => .inr ⟨x.1,x.2,x.2.k,N,yT hS hx,hB.μ⟩,fun hf=>by simp [a8.fz] at hf,hB.k,eh.keep dS.step rfl hB.row⟩
   . rename_i FN
     obtain ⟨g,N,cur,ty,hB⟩:=hi.blk _ _ dr
     have hg:=cV hB.heap
     refine ⟨g,N,cur,ty,hB.keep dS.step rfl fun hf hb => ?_⟩
     rcases hb with h1 | ⟨GL,ZF,k2,N2,mV,sQ⟩
     . exact hB.no hf h1
     . have hm:=eR mV
       refine hi.inj id GL _ _ (by simp [dr]) (by simp [hS _ hm]) ?_ hB.μ sQ rfl
       rintro rfl
       exact FN ⟨_,hm,rfl⟩
 . have keep:∀ i, σ.app (nX S) i≠none -> σ i≠none:=by
     intro i hn he
     apply hn
     rw [sP i,he]
     split<;>rfl
   exact hi.inj i j x y (keep i fK) (keep j hj') hne hx hy
 . obtain ⟨h1,h2⟩:=hi.glob g cs hg
   exact ⟨dS.step.ok g h1,aX.keep dS.step.bare (dS.step.same g h1) cs 0 h2⟩
end
section
variable {P:Program} {G:Nat->Option (List AV)}
theorem VP.xk {f:FuncId} {args:List AV} {r:eB} (h:aq P G f args [] [] r) (hf:aS r.val):VP P G f args r.val:=by
 refine ⟨h.1,fun w vs ok hi hr => ?_⟩
 refine (h.2 _ _ w _ vs (by simp) hi hr (fun _ _=>rfl)).mono fun e w' he => ?_
 obtain ⟨v,E',rfl,hp⟩:=he
 refine ⟨v,ok,rfl,⟨⟨fun _ _ h=>h,fun _ h=>h,hp.yG.step.same⟩,hp.yG.os,hp.yG.tape,hp.yG.output,hp.yG.size,hp.yG.block,fun _ h => .inl h⟩,fun b hb => ?_,hf _ _ _ _ _ hp.rep⟩
 exact Nat.lt_of_lt_of_le (hi.okb b hb) hp.yG.size
end
def vw:AV->Bool->Option Bool
 | .bool b,want=>some (b==want)
 | .top,_=>none
 | .anyb,_=>none
 | _,_=>some false
theorem LP {b want:Bool}:vw (.bool b) want=some (b==want):=(rfl)
theorem Qq {l:List AV} {want:Bool}:vw (.tup l) want=some false:=(rfl)
section
variable (P:Program) (G:Nat->Option (List AV)) (π : Id)
def sG (base:Nat) (Q:bB->VS->Prop) (n:Nat) (d:Option Nat) (os:List bg) (i:Nat) (t:List AV) (σ : aa):Option eB->Prop
 | some r=>vs P G π base Q n os (i+1) (fL t d r.val) (σ.app r.up)
 | none=>False
def vsV (base:Nat) (Q:bB->VS->Prop) (n:Nat) (d:Option Nat) (os:List bg) (i:Nat) (t:List AV) (σ : aa):Option AV->Prop
 | some v=>vs P G π base Q n os (i+1) (fL t d v) σ
 | none=>False
def vsG (base:Nat) (Q:bB->VS->Prop) (n:Nat) (o:bg) (os:List bg) (i:Nat) (t:List AV) (σ : aa):Option Bool->Prop
 | some true=>vs P G π base Q n (⟨o.dst,o.op,none⟩::os) i t σ
 | some false=>vs P G π base Q n os (i+1) (fL t o.dst (.tup [])) σ
 | none=>False
def sH (base:Nat) (Q:bB->VS->Prop) (n:Nat) (ps:List (Nat × Nat)) (d:Option Nat) (os:List bg) (i:Nat) (acc:List eB) (t:List AV) (σ : aa):Option eB->Prop
 | some r=>vd P G π base Q n ps os (i+1) (r::acc) (fL t d r.val) (σ.app r.up)
 | none=>False
def vdV (base:Nat) (Q:bB->VS->Prop) (n:Nat) (ps:List (Nat × Nat)) (d:Option Nat) (os:List bg) (i:Nat) (acc:List eB) (t:List AV) (σ : aa):Option AV->Prop
 | some v=>vd P G π base Q n ps os (i+1) ({ val:=v }::acc) (fL t d v) σ
 | none=>False
def vdG (base:Nat) (Q:bB->VS->Prop) (n:Nat) (ps:List (Nat × Nat)) (o:bg) (os:List bg) (i:Nat) (acc:List eB) (t:List AV) (σ : aa):Option Bool->Prop
 | some true=>vd P G π base Q n ps (⟨o.dst,o.op,none⟩::os) i acc t σ
 | some false=>vd P G π base Q n ps os (i+1) ({ val := .tup [] }::acc) (fL t o.dst (.tup [])) σ
 | none=>False
variable {P} {G} {π}
variable {base:Nat} {Q:bB->VS->Prop} {n:Nat} {ps:List (Nat × Nat)} {d:Option Nat} {os:List bg} {i:Nat} {acc:List eB} {t:List AV} {σ : aa}
theorem Hk {r:eB}:sG P G π base Q n d os i t σ (some r)=vs P G π base Q n os (i+1) (fL t d r.val) (σ.app r.up):=(rfl)
theorem Hl {v:AV}:vsV P G π base Q n d os i t σ (some v)=vs P G π base Q n os (i+1) (fL t d v) σ := (rfl)
theorem Hm {r:eB}:sH P G π base Q n ps d os i acc t σ (some r)=vd P G π base Q n ps os (i+1) (r::acc) (fL t d r.val) (σ.app r.up):=(rfl)
theorem Ho {v:AV}:vdV P G π base Q n ps d os i acc t σ (some v)=vd P G π base Q n ps os (i+1) ({ val:=v }::acc) (fL t d v) σ := (rfl)
theorem Ea {o:Option AV}:sG P G π base Q n d os i t σ (bo o)=vsV P G π base Q n d os i t σ o:=by cases o<;>rfl
theorem Eb {o:Option AV}:sH P G π base Q n ps d os i acc t σ (bo o)=vdV P G π base Q n ps d os i acc t σ o:=by cases o<;>rfl
theorem Hp {o:bg}:vsG P G π base Q n o os i t σ (some true)=vs P G π base Q n (⟨o.dst,o.op,none⟩::os) i t σ := (rfl)
theorem Ec {o:bg}:vsG P G π base Q n o os i t σ (some false)=vs P G π base Q n os (i+1) (fL t o.dst (.tup [])) σ := (rfl)
theorem Hq {o:bg}:vdG P G π base Q n ps o os i acc t σ (some true)=vd P G π base Q n ps (⟨o.dst,o.op,none⟩::os) i acc t σ := (rfl)
theorem Ed {o:bg}:vdG P G π base Q n ps o os i acc t σ (some false)=vd P G π base Q n ps os (i+1) ({ val := .tup [] }::acc) (fL t o.dst (.tup [])) σ := (rfl)
theorem BH {j:Nat} {want:Bool}:eP t (some (j,want))=vw (t.getD j (.tup [])) want:=by
 rw [List.getD_eq_getElem?_getD]
 show (match t[j]? with | some (.bool b)=>some (b==want) | some .top | some .anyb=>none | _=>some false)=_
 cases t[j]? with
 | none=>rfl
 | some c=>cases c<;>rfl
theorem Ee {d:Nat} {v:AV}:fL t (some d) v=t.set d v:=(rfl)
theorem Ef {v:AV}:fL t none v=t:=(rfl)
theorem aaB {j:Nat}:(aO.t j).ev G t=t.getD j (.tup []):=(rfl)
theorem aaC {a:AV}:(aO.c a).ev G t=a:=(rfl)
theorem aaD {f:Nat}:(aO.f f).ev G t = .fn (.func f) [] []:=(rfl)
theorem LQ : σ.app [] = σ := (rfl)
theorem Hr {x:Id × Option a8} {l:List (Id × Option a8)} : σ.app (x::l)=(σ.put x.1 x.2).app l:=(rfl)
theorem sg {op:gj aO} {j:Nat} {want:Bool}:vs P G π base Q n (⟨d,op,some (j,want)⟩::os) i t σ = vsG P G π base Q n ⟨d,op,none⟩ os i t σ (vw (t.getD j (.tup [])) want):=by
 rw [<- BH]
 unfold vs vsG
 simp only [xc]
 cases eP t (some (j,want)) with
 | none=>rfl
 | some b=>cases b<;>rfl
theorem dg {op:gj aO} {j:Nat} {want:Bool}:vd P G π base Q n ps (⟨d,op,some (j,want)⟩::os) i acc t σ = vdG P G π base Q n ps ⟨d,op,none⟩ os i acc t σ (vw (t.getD j (.tup [])) want):=by
 rw [<- BH]
 unfold vd vdG
 simp only [xd]
 cases eP t (some (j,want)) with
 | none=>rfl
 | some b=>cases b<;>rfl
theorem dK {op:gj aO} (h:op.pW=false):vs P G π base Q n (⟨d,op,none⟩::os) i t σ = sG P G π base Q n d os i t σ (bu σ ((base+i) :: π) (op.map (aO.ev G t))):=by
 rw [aav h];unfold D7;simp only [eP];cases bu σ ((base+i) :: π) (op.map (aO.ev G t))<;>rfl
theorem dL {op:gj aO} (h:op.pW=false):vd P G π base Q n ps (⟨d,op,none⟩::os) i acc t σ = sH P G π base Q n ps d os i acc t σ (bu σ ((base+i) :: π) (op.map (aO.ev G t))):=by
 rw [aaw h];unfold D7;simp only [eP];cases bu σ ((base+i) :: π) (op.map (aO.ev G t))<;>rfl
theorem aaE {x:aO}:vs P G π base Q n (⟨d, .mv x,none⟩::os) i t σ = sG P G π base Q n d os i t σ (bu σ ((base+i) :: π) (.mv (x.ev G t))):=dK rfl
theorem aaF {x:aO}:vd P G π base Q n ps (⟨d, .mv x,none⟩::os) i acc t σ = sH P G π base Q n ps d os i acc t σ (bu σ ((base+i) :: π) (.mv (x.ev G t))):=dL rfl
theorem Qr {c a b:aO}:vs P G π base Q n (⟨d, .pick c a b,none⟩::os) i t σ = sG P G π base Q n d os i t σ (bu σ ((base+i) :: π) (.pick (c.ev G t) (a.ev G t) (b.ev G t))):=dK rfl
theorem Qs {c a b:aO}:vd P G π base Q n ps (⟨d, .pick c a b,none⟩::os) i acc t σ = sH P G π base Q n ps d os i acc t σ (bu σ ((base+i) :: π) (.pick (c.ev G t) (a.ev G t) (b.ev G t))):=dL rfl
theorem V6 {x:aO}:vs P G π base Q n (⟨d, .box x,none⟩::os) i t σ = sG P G π base Q n d os i t σ (bu σ ((base+i) :: π) (.box (x.ev G t))):=dK rfl
theorem V7 {x:aO}:vd P G π base Q n ps (⟨d, .box x,none⟩::os) i acc t σ = sH P G π base Q n ps d os i acc t σ (bu σ ((base+i) :: π) (.box (x.ev G t))):=dL rfl
theorem LR {z:List AV} {l:List (Nat × Nat × aO)}:vs P G π base Q n (⟨d, .build z l,none⟩::os) i t σ = sG P G π base Q n d os i t σ (bu σ ((base+i) :: π) (.build z (l.map fun p=>(p.1,p.2.1,p.2.2.ev G t)))):=dK rfl
theorem LS {z:List AV} {l:List (Nat × Nat × aO)}:vd P G π base Q n ps (⟨d, .build z l,none⟩::os) i acc t σ = sH P G π base Q n ps d os i acc t σ (bu σ ((base+i) :: π) (.build z (l.map fun p=>(p.1,p.2.1,p.2.2.ev G t)))):=dL rfl
theorem Eg {k m:Nat} {z:AV} {l:List (Nat × aO)}:vs P G π base Q n (⟨d, .buildSl k m z l,none⟩::os) i t σ = sG P G π base Q n d os i t σ (bu σ ((base+i) :: π) (.buildSl k m z (l.map fun p=>(p.1,p.2.ev G t)))):=dK rfl
theorem Eh {k m:Nat} {z:AV} {l:List (Nat × aO)}:vd P G π base Q n ps (⟨d, .buildSl k m z l,none⟩::os) i acc t σ = sH P G π base Q n ps d os i acc t σ (bu σ ((base+i) :: π) (.buildSl k m z (l.map fun p=>(p.1,p.2.ev G t)))):=dL rfl
theorem Qt {a:Bool} {m:Nat} {x:aO}:vs P G π base Q n (⟨d, .load a m x,none⟩::os) i t σ = sG P G π base Q n d os i t σ (bu σ ((base+i) :: π) (.load a m (x.ev G t))):=dK rfl
theorem Qu {a:Bool} {m:Nat} {x:aO}:vd P G π base Q n ps (⟨d, .load a m x,none⟩::os) i acc t σ = sH P G π base Q n ps d os i acc t σ (bu σ ((base+i) :: π) (.load a m (x.ev G t))):=dL rfl
theorem LU {m:Nat} {x v:aO}:vs P G π base Q n (⟨d, .store m x v,none⟩::os) i t σ = sG P G π base Q n d os i t σ (bu σ ((base+i) :: π) (.store m (x.ev G t) (v.ev G t))):=dK rfl
theorem LV {m:Nat} {x v:aO}:vd P G π base Q n ps (⟨d, .store m x v,none⟩::os) i acc t σ = sH P G π base Q n ps d os i acc t σ (bu σ ((base+i) :: π) (.store m (x.ev G t) (v.ev G t))):=dL rfl
theorem LW {x:aO}:vs P G π base Q n (⟨d, .nilck x,none⟩::os) i t σ = sG P G π base Q n d os i t σ (bu σ ((base+i) :: π) (.nilck (x.ev G t))):=dK rfl
theorem LX {x:aO}:vd P G π base Q n ps (⟨d, .nilck x,none⟩::os) i acc t σ = sH P G π base Q n ps d os i acc t σ (bu σ ((base+i) :: π) (.nilck (x.ev G t))):=dL rfl
theorem V8 {o:BinOp} {sh:Sh} {x y:aO}:vs P G π base Q n (⟨d, .bin o sh x y,none⟩::os) i t σ = sG P G π base Q n d os i t σ (bu σ ((base+i) :: π) (.bin o sh (x.ev G t) (y.ev G t))):=dK rfl
theorem V9 {o:BinOp} {sh:Sh} {x y:aO}:vd P G π base Q n ps (⟨d, .bin o sh x y,none⟩::os) i acc t σ = sH P G π base Q n ps d os i acc t σ (bu σ ((base+i) :: π) (.bin o sh (x.ev G t) (y.ev G t))):=dL rfl
theorem aaG {o:UnOp} {x:aO}:vs P G π base Q n (⟨d, .un o x,none⟩::os) i t σ = sG P G π base Q n d os i t σ (bu σ ((base+i) :: π) (.un o (x.ev G t))):=dK rfl
theorem aaH {o:UnOp} {x:aO}:vd P G π base Q n ps (⟨d, .un o x,none⟩::os) i acc t σ = sH P G π base Q n ps d os i acc t σ (bu σ ((base+i) :: π) (.un o (x.ev G t))):=dL rfl
theorem LY {k:IntKind} {x:aO}:vs P G π base Q n (⟨d, .toInt k x,none⟩::os) i t σ = sG P G π base Q n d os i t σ (bu σ ((base+i) :: π) (.toInt k (x.ev G t))):=dK rfl
theorem LZ {k:IntKind} {x:aO}:vd P G π base Q n ps (⟨d, .toInt k x,none⟩::os) i acc t σ = sH P G π base Q n ps d os i acc t σ (bu σ ((base+i) :: π) (.toInt k (x.ev G t))):=dL rfl
theorem L0 {x:aO}:vs P G π base Q n (⟨d, .idStr x,none⟩::os) i t σ = sG P G π base Q n d os i t σ (bu σ ((base+i) :: π) (.idStr (x.ev G t))):=dK rfl
theorem L1 {x:aO}:vd P G π base Q n ps (⟨d, .idStr x,none⟩::os) i acc t σ = sH P G π base Q n ps d os i acc t σ (bu σ ((base+i) :: π) (.idStr (x.ev G t))):=dL rfl
theorem BI {x:aO}:vs P G π base Q n (⟨d, .bytesStr x,none⟩::os) i t σ = sG P G π base Q n d os i t σ (bu σ ((base+i) :: π) (.bytesStr (x.ev G t))):=dK rfl
theorem BJ {x:aO}:vd P G π base Q n ps (⟨d, .bytesStr x,none⟩::os) i acc t σ = sH P G π base Q n ps d os i acc t σ (bu σ ((base+i) :: π) (.bytesStr (x.ev G t))):=dL rfl
theorem Wa {x c:aO}:vs P G π base Q n (⟨d, .idx x c,none⟩::os) i t σ = sG P G π base Q n d os i t σ (bu σ ((base+i) :: π) (.idx (x.ev G t) (c.ev G t))):=dK rfl
theorem Wb {x c:aO}:vd P G π base Q n ps (⟨d, .idx x c,none⟩::os) i acc t σ = sH P G π base Q n ps d os i acc t σ (bu σ ((base+i) :: π) (.idx (x.ev G t) (c.ev G t))):=dL rfl
theorem Wc {x y:aO}:vs P G π base Q n (⟨d, .ovl x y,none⟩::os) i t σ = sG P G π base Q n d os i t σ (bu σ ((base+i) :: π) (.ovl (x.ev G t) (y.ev G t))):=dK rfl
theorem We {x y:aO}:vd P G π base Q n ps (⟨d, .ovl x y,none⟩::os) i acc t σ = sH P G π base Q n ps d os i acc t σ (bu σ ((base+i) :: π) (.ovl (x.ev G t) (y.ev G t))):=dL rfl
theorem Qv {fn:Fn} {a c:List aO}:vs P G π base Q n (⟨d, .mkfn fn a c,none⟩::os) i t σ = sG P G π base Q n d os i t σ (bu σ ((base+i) :: π) (.mkfn fn (a.map (aO.ev G t)) (c.map (aO.ev G t)))):=dK rfl
theorem Qw {fn:Fn} {a c:List aO}:vd P G π base Q n ps (⟨d, .mkfn fn a c,none⟩::os) i acc t σ = sH P G π base Q n ps d os i acc t σ (bu σ ((base+i) :: π) (.mkfn fn (a.map (aO.ev G t)) (c.map (aO.ev G t)))):=dL rfl
theorem Qx {k b:Nat} {z:AV} {l c:aO}:vs P G π base Q n (⟨d, .mksl k b z l c,none⟩::os) i t σ = sG P G π base Q n d os i t σ (bu σ ((base+i) :: π) (.mksl k b z (l.ev G t) (c.ev G t))):=dK rfl
theorem Qy {k b:Nat} {z:AV} {l c:aO}:vd P G π base Q n ps (⟨d, .mksl k b z l c,none⟩::os) i acc t σ = sH P G π base Q n ps d os i acc t σ (bu σ ((base+i) :: π) (.mksl k b z (l.ev G t) (c.ev G t))):=dL rfl
theorem L3 {k:Nat} {x:aO} {lo hi mx:Option aO}:vs P G π base Q n (⟨d, .slice k x lo hi mx,none⟩::os) i t σ = sG P G π base Q n d os i t σ (bu σ ((base+i) :: π) (.slice k (x.ev G t) (lo.map (aO.ev G t)) (hi.map (aO.ev G t)) (mx.map (aO.ev G t)))):=dK rfl
theorem L4 {k:Nat} {x:aO} {lo hi mx:Option aO}:vd P G π base Q n ps (⟨d, .slice k x lo hi mx,none⟩::os) i acc t σ = sH P G π base Q n ps d os i acc t σ (bu σ ((base+i) :: π) (.slice k (x.ev G t) (lo.map (aO.ev G t)) (hi.map (aO.ev G t)) (mx.map (aO.ev G t)))):=dL rfl
theorem Hs {x:aO} {lo hi:Option aO}:vs P G π base Q n (⟨d, .sliceS x lo hi,none⟩::os) i t σ = sG P G π base Q n d os i t σ (bu σ ((base+i) :: π) (.sliceS (x.ev G t) (lo.map (aO.ev G t)) (hi.map (aO.ev G t)))):=dK rfl
theorem Ht {x:aO} {lo hi:Option aO}:vd P G π base Q n ps (⟨d, .sliceS x lo hi,none⟩::os) i acc t σ = sH P G π base Q n ps d os i acc t σ (bu σ ((base+i) :: π) (.sliceS (x.ev G t) (lo.map (aO.ev G t)) (hi.map (aO.ev G t)))):=dL rfl
theorem L5 {o:Nat} {x:aO}:vs P G π base Q n (⟨d, .faddr o x,none⟩::os) i t σ = sG P G π base Q n d os i t σ (bu σ ((base+i) :: π) (.faddr o (x.ev G t))):=dK rfl
theorem L6 {o:Nat} {x:aO}:vd P G π base Q n ps (⟨d, .faddr o x,none⟩::os) i acc t σ = sH P G π base Q n ps d os i acc t σ (bu σ ((base+i) :: π) (.faddr o (x.ev G t))):=dL rfl
theorem L8 {a:Bool} {o m:Nat} {x:aO}:vs P G π base Q n (⟨d, .field a o m x,none⟩::os) i t σ = sG P G π base Q n d os i t σ (bu σ ((base+i) :: π) (.field a o m (x.ev G t))):=dK rfl
theorem L9 {a:Bool} {o m:Nat} {x:aO}:vd P G π base Q n ps (⟨d, .field a o m x,none⟩::os) i acc t σ = sH P G π base Q n ps d os i acc t σ (bu σ ((base+i) :: π) (.field a o m (x.ev G t))):=dL rfl
theorem Hu {k:Nat} {x j:aO}:vs P G π base Q n (⟨d, .iaddrS k x j,none⟩::os) i t σ = sG P G π base Q n d os i t σ (bu σ ((base+i) :: π) (.iaddrS k (x.ev G t) (j.ev G t))):=dK rfl
theorem Hv {k:Nat} {x j:aO}:vd P G π base Q n ps (⟨d, .iaddrS k x j,none⟩::os) i acc t σ = sH P G π base Q n ps d os i acc t σ (bu σ ((base+i) :: π) (.iaddrS k (x.ev G t) (j.ev G t))):=dL rfl
theorem Hw {m k:Nat} {x j:aO}:vs P G π base Q n (⟨d, .iaddrA m k x j,none⟩::os) i t σ = sG P G π base Q n d os i t σ (bu σ ((base+i) :: π) (.iaddrA m k (x.ev G t) (j.ev G t))):=dK rfl
theorem Hx {m k:Nat} {x j:aO}:vd P G π base Q n ps (⟨d, .iaddrA m k x j,none⟩::os) i acc t σ = sH P G π base Q n ps d os i acc t σ (bu σ ((base+i) :: π) (.iaddrA m k (x.ev G t) (j.ev G t))):=dL rfl
theorem Hy {x j:aO}:vs P G π base Q n (⟨d, .indexS x j,none⟩::os) i t σ = sG P G π base Q n d os i t σ (bu σ ((base+i) :: π) (.indexS (x.ev G t) (j.ev G t))):=dK rfl
theorem Hz {x j:aO}:vd P G π base Q n ps (⟨d, .indexS x j,none⟩::os) i acc t σ = sH P G π base Q n ps d os i acc t σ (bu σ ((base+i) :: π) (.indexS (x.ev G t) (j.ev G t))):=dL rfl
theorem HA {a:Bool} {m k:Nat} {x j:aO}:vs P G π base Q n (⟨d, .indexA a m k x j,none⟩::os) i t σ = sG P G π base Q n d os i t σ (bu σ ((base+i) :: π) (.indexA a m k (x.ev G t) (j.ev G t))):=dK rfl
theorem HB {a:Bool} {m k:Nat} {x j:aO}:vd P G π base Q n ps (⟨d, .indexA a m k x j,none⟩::os) i acc t σ = sH P G π base Q n ps d os i acc t σ (bu σ ((base+i) :: π) (.indexA a m k (x.ev G t) (j.ev G t))):=dL rfl
theorem Ei {x:aO} {j:Nat}:vs P G π base Q n (⟨d, .extract x j,none⟩::os) i t σ = sG P G π base Q n d os i t σ (bu σ ((base+i) :: π) (.extract (x.ev G t) j)):=dK rfl
theorem Ej {x:aO} {j:Nat}:vd P G π base Q n ps (⟨d, .extract x j,none⟩::os) i acc t σ = sH P G π base Q n ps d os i acc t σ (bu σ ((base+i) :: π) (.extract (x.ev G t) j)):=dL rfl
theorem Wf {b:Bool} {x:aO}:vs P G π base Q n (⟨d, .len b x,none⟩::os) i t σ = sG P G π base Q n d os i t σ (bu σ ((base+i) :: π) (.len b (x.ev G t))):=dK rfl
theorem Wh {b:Bool} {x:aO}:vd P G π base Q n ps (⟨d, .len b x,none⟩::os) i acc t σ = sH P G π base Q n ps d os i acc t σ (bu σ ((base+i) :: π) (.len b (x.ev G t))):=dL rfl
theorem Qz {m:Nat} {x:aO}:vs P G π base Q n (⟨d, .lenN m x,none⟩::os) i t σ = sG P G π base Q n d os i t σ (bu σ ((base+i) :: π) (.lenN m (x.ev G t))):=dK rfl
theorem QA {m:Nat} {x:aO}:vd P G π base Q n ps (⟨d, .lenN m x,none⟩::os) i acc t σ = sH P G π base Q n ps d os i acc t σ (bu σ ((base+i) :: π) (.lenN m (x.ev G t))):=dL rfl
theorem HD {k b:Nat} {s x:aO}:vs P G π base Q n (⟨d, .append k b s x,none⟩::os) i t σ = sG P G π base Q n d os i t σ (bu σ ((base+i) :: π) (.append k b (s.ev G t) (x.ev G t))):=dK rfl
theorem HE {k b:Nat} {s x:aO}:vd P G π base Q n ps (⟨d, .append k b s x,none⟩::os) i acc t σ = sH P G π base Q n ps d os i acc t σ (bu σ ((base+i) :: π) (.append k b (s.ev G t) (x.ev G t))):=dL rfl
theorem Wi {x y:aO}:vs P G π base Q n (⟨d, .min x y,none⟩::os) i t σ = sG P G π base Q n d os i t σ (bu σ ((base+i) :: π) (.min (x.ev G t) (y.ev G t))):=dK rfl
theorem Wj {x y:aO}:vd P G π base Q n ps (⟨d, .min x y,none⟩::os) i acc t σ = sH P G π base Q n ps d os i acc t σ (bu σ ((base+i) :: π) (.min (x.ev G t) (y.ev G t))):=dL rfl
theorem Wl {x y:aO}:vs P G π base Q n (⟨d, .max x y,none⟩::os) i t σ = sG P G π base Q n d os i t σ (bu σ ((base+i) :: π) (.max (x.ev G t) (y.ev G t))):=dK rfl
theorem Wm {x y:aO}:vd P G π base Q n ps (⟨d, .max x y,none⟩::os) i acc t σ = sH P G π base Q n ps d os i acc t σ (bu σ ((base+i) :: π) (.max (x.ev G t) (y.ev G t))):=dL rfl
theorem Wn {x:aO}:vs P G π base Q n (⟨d, .cap x,none⟩::os) i t σ = sG P G π base Q n d os i t σ (bu σ ((base+i) :: π) (.cap (x.ev G t))):=dK rfl
theorem Wo {x:aO}:vd P G π base Q n ps (⟨d, .cap x,none⟩::os) i acc t σ = sH P G π base Q n ps d os i acc t σ (bu σ ((base+i) :: π) (.cap (x.ev G t))):=dL rfl
theorem Ma {k:Nat} {z:AV} {x:aO}:vs P G π base Q n (⟨d, .clear k z x,none⟩::os) i t σ = sG P G π base Q n d os i t σ (bu σ ((base+i) :: π) (.clear k z (x.ev G t))):=dK rfl
theorem Mb {k:Nat} {z:AV} {x:aO}:vd P G π base Q n ps (⟨d, .clear k z x,none⟩::os) i acc t σ = sH P G π base Q n ps d os i acc t σ (bu σ ((base+i) :: π) (.clear k z (x.ev G t))):=dL rfl
theorem QB {k:Nat} {e x:aO}:vs P G π base Q n (⟨d, .copy k e x,none⟩::os) i t σ = sG P G π base Q n d os i t σ (bu σ ((base+i) :: π) (.copy k (e.ev G t) (x.ev G t))):=dK rfl
theorem QC {k:Nat} {e x:aO}:vd P G π base Q n ps (⟨d, .copy k e x,none⟩::os) i acc t σ = sH P G π base Q n ps d os i acc t σ (bu σ ((base+i) :: π) (.copy k (e.ev G t) (x.ev G t))):=dL rfl
theorem QD {k b:Nat} {z:AV} {s m:aO}:vs P G π base Q n (⟨d, .appz k b z s m,none⟩::os) i t σ = sG P G π base Q n d os i t σ (bu σ ((base+i) :: π) (.appz k b z (s.ev G t) (m.ev G t))):=dK rfl
theorem QE {k b:Nat} {z:AV} {s m:aO}:vd P G π base Q n ps (⟨d, .appz k b z s m,none⟩::os) i acc t σ = sH P G π base Q n ps d os i acc t σ (bu σ ((base+i) :: π) (.appz k b z (s.ev G t) (m.ev G t))):=dL rfl
theorem s_call {f:aO} {l:List aO}:vs P G π base Q n (⟨d, .call f l,none⟩::os) i t σ = LK P G π base Q n d os i t σ (some true) (f.ev G t) (l.map (aO.ev G t)):=Uh
theorem QF {f:aO} {l:List aO}:vd P G π base Q n ps (⟨d, .call f l,none⟩::os) i acc t σ = LL P G π base Q n ps d os i acc t σ (some true) (f.ev G t) (l.map (aO.ev G t)):=Ui
end
section
variable {σ : aa} {p:Id}
theorem QG {x:AV}:bu σ p (.mv x)=bo (some x):=(rfl)
theorem HF {b:Bool} {x y:AV}:bu σ p (.pick (.bool b) x y)=bo (some (if b then x else y)):=(rfl)
theorem Mc {x:AV}:bu σ p (.box x)=if x.cells.all AV.one=true then some { val := .ref p 0 0,up:=[(p,some ⟨[x],x.size,false⟩)] } else none:=(rfl)
theorem Ek {z:List AV} {l:List (Nat × Nat × AV)}:bu σ p (.build z l)=bo ((sA z l).map .agg):=(rfl)
theorem tC {k n:Nat} {z:AV} {ps:List (Nat × AV)}:bu σ p (.buildSl k n z ps)=(match jD k (List.replicate n z) ps with
   | some es=>if z.size=k/\z.cells.all AV.one=true then (if n=0 then some { val := .tsl k [] } else some { val := .osl p k 0 n false,up:=[(p,some ⟨es,k,false⟩)] }) else none
   | none=>none):=(rfl)
theorem HG {a:Bool} {n:Nat} {x:AV}:bu σ p (.load a n x)=fX σ a n x:=(rfl)
theorem El {n:Nat} {x v:AV}:bu σ p (.store n x v)=eO σ n x v:=(rfl)
theorem Md {o:BinOp} {sh:Sh} {x y:AV}:bu σ p (.bin o sh x y)=bo (bn o sh x y):=(rfl)
theorem QH {o:UnOp} {x:AV}:bu σ p (.un o x)=bo (ZB o x):=(rfl)
theorem Em {k k':IntKind} {n:Int}:bu σ p (.toInt k (.int k' n))=bo (some (.int k (k.wrap n))):=(rfl)
theorem En {s:List UInt8}:bu σ p (.idStr (.str s))=bo (some (.str s)):=(rfl)
theorem xl {x:AV}:bu σ p (.bytesStr x)=lq σ x:=(rfl)
theorem HI {fn:Fn} {a c:List AV}:bu σ p (.mkfn fn a c)=bo (some (.fn fn a c)):=(rfl)
theorem HJ {k b:Nat} {z l c:AV}:bu σ p (.mksl k b z l c)=j4 p k b z l c:=(rfl)
theorem Eo {k:Nat} {x:AV} {lo hi mx:Option AV}:bu σ p (.slice k x lo hi mx)=jW σ k x lo hi mx (bR k x lo hi mx):=(rfl)
theorem xm {k:Nat} {x:AV} {lo hi mx:Option AV} {v:AV}:jW σ k x lo hi mx (some v)=bo (some v):=(rfl)
theorem BL {x:AV} {lo hi:Option AV}:bu σ p (.sliceS x lo hi)=bo (o9 x lo hi):=(rfl)
theorem vv {o:Nat} {id:Id} {e q:Nat}:bu σ p (.faddr o (.ref id e q))=bo (some (.ref id e (q+o))):=(rfl)
theorem xn {o:Nat} {cs:List AV} {q:Nat}:bu σ p (.faddr o (.ep cs q))=bo (some (.ep cs (q+o))):=(rfl)
theorem Ep {a:Bool} {o n:Nat} {cs:List AV}:bu σ p (.field a o n (.agg cs))=bo (part a cs o n):=(rfl)
theorem BM {k:Nat} {x i:AV}:bu σ p (.iaddrS k x i)=bo (aV k x i):=(rfl)
theorem BN {n k:Nat} {x i:AV}:bu σ p (.iaddrA n k x i)=bo (AP n k x i):=(rfl)
theorem vR {s:List UInt8} {k:IntKind} {i:Int}:bu σ p (.indexS (.str s) (.int k i))=if 0<=i then bo ((s[i.toNat]?).map fun b => .int .u8 b.toNat) else none:=(rfl)
theorem BO {a:Bool} {n k:Nat} {cs:List AV} {k':IntKind} {i:Int}:bu σ p (.indexA a n k (.agg cs) (.int k' i))=if 0<=i/\i<n then bo (part a cs (i.toNat*k) k) else none:=(rfl)
theorem zU {l:List AV} {i:Nat}:bu σ p (.extract (.tup l) i)=bo l[i]? := (rfl)
theorem Me {b:Bool} {x:AV}:bu σ p (.len b x)=bo (ky b x):=(rfl)
theorem HK {n:Nat} {x:AV}:bu σ p (.lenN n x)=bo (some (.int .i64 n)):=(rfl)
theorem BP {k b:Nat} {s x:AV}:bu σ p (.append k b s x)=bQ σ p k b s x:=(rfl)
theorem Mf {k k':IntKind} {a b:Int}:bu σ p (.min (.int k a) (.int k' b))=bo (some (.int k (if b<a then b else a))):=(rfl)
theorem Mg {k k':IntKind} {a b:Int}:bu σ p (.max (.int k a) (.int k' b))=bo (some (.int k (if b>a then b else a))):=(rfl)
theorem Mh {x:AV}:bu σ p (.cap x)=wR σ x (NB x):=(rfl)
theorem BQ {x v:AV}:wR σ x (some v)=bo (some v):=(rfl)
theorem Mi {x c:AV}:bu σ p (.idx x c)=bo (PQ x c):=(rfl)
theorem HL {s:List UInt8} {c:Int}:PQ (.str s) (.int .u8 c)=some (.int .i64 (pa s c.toNat.toUInt8)):=(rfl)
theorem Mj {x y:AV}:bu σ p (.ovl x y)=GU σ x y:=(rfl)
theorem Er {k:Nat} {z x:AV}:bu σ p (.clear k z x)=vL σ k z x:=(rfl)
theorem HM {k:Nat} {d x:AV}:bu σ p (.copy k d x)=wQ σ k d x:=(rfl)
theorem HN {k b:Nat} {z s n:AV}:bu σ p (.appz k b z s n)=Lv p k b z s n:=(rfl)
theorem vz {id:Id} {e o:Nat}:bu σ p (.nilck (.ref id e o))=bo (some (.ref id e o)):=(rfl)
theorem xp {cs:List AV} {o:Nat}:bu σ p (.nilck (.ep cs o))=bo (some (.ep cs o)):=(rfl)
theorem xq {f:FuncId} {a c:List AV}:bu σ p (.nilck (.fn (.func f) a c))=bo (some (.fn (.func f) a c)):=(rfl)
theorem Mk {k:IntKind} {a b:Int}:bn .add .int (.int k a) (.int k b)=some (.int k (k.wrap (a+b))):=by simp only [bn];rw [show j3 .add .int (.int k a) (.int k b)=some (.int k (k.wrap (a+b))) from by simp [j3,qw]]
theorem Ml {k:IntKind} {a b:Int}:bn .sub .int (.int k a) (.int k b)=some (.int k (k.wrap (a-b))):=by simp only [bn];rw [show j3 .sub .int (.int k a) (.int k b)=some (.int k (k.wrap (a-b))) from by simp [j3,qw]]
theorem Mm {k:IntKind} {a b:Int}:bn .mul .int (.int k a) (.int k b)=some (.int k (k.wrap (a*b))):=by simp only [bn];rw [show j3 .mul .int (.int k a) (.int k b)=some (.int k (k.wrap (a*b))) from by simp [j3,qw]]
theorem Mn {k:IntKind} {a b:Int} (h:b≠0):bn .quo .int (.int k a) (.int k b)=some (.int k (k.wrap (a.tdiv b))):=by simp only [bn];rw [show j3 .quo .int (.int k a) (.int k b)=some (.int k (k.wrap (a.tdiv b))) from by simp [j3,qw,h]]
theorem Uj {k:IntKind} {a b:Int} (h:b≠0):bn .rem .int (.int k a) (.int k b)=some (.int k (a.tmod b)):=by simp only [bn];rw [show j3 .rem .int (.int k a) (.int k b)=some (.int k (a.tmod b)) from by simp [j3,qw,h]]
theorem Mo {k:IntKind} {a b:Int}:bn .eql .int (.int k a) (.int k b)=some (.bool (decide (a=b))):=by simp only [bn];rw [show j3 .eql .int (.int k a) (.int k b)=some (.bool (decide (a=b))) from by simp only [j3,qw,or_true,if_true];rfl]
theorem Mp {k:IntKind} {a b:Int}:bn .neq .int (.int k a) (.int k b)=some (.bool (decide (a≠b))):=by simp only [bn];rw [show j3 .neq .int (.int k a) (.int k b)=some (.bool (decide (a≠b))) from by simp [j3,qw,bne,Int.instDecidableEq];rfl]
theorem Mq {k:IntKind} {a b:Int}:bn .lss .int (.int k a) (.int k b)=some (.bool (decide (a<b))):=by simp only [bn];rw [show j3 .lss .int (.int k a) (.int k b)=some (.bool (decide (a<b))) from by simp [j3,qw]]
theorem Mr {k:IntKind} {a b:Int}:bn .leq .int (.int k a) (.int k b)=some (.bool (decide (a<=b))):=by simp only [bn];rw [show j3 .leq .int (.int k a) (.int k b)=some (.bool (decide (a<=b))) from by simp [j3,qw]]
theorem Ms {k:IntKind} {a b:Int}:bn .gtr .int (.int k a) (.int k b)=some (.bool (decide (b<a))):=by simp only [bn];rw [show j3 .gtr .int (.int k a) (.int k b)=some (.bool (decide (b<a))) from by simp [j3,qw]]
theorem Mt {k:IntKind} {a b:Int}:bn .geq .int (.int k a) (.int k b)=some (.bool (decide (b<=a))):=by simp only [bn];rw [show j3 .geq .int (.int k a) (.int k b)=some (.bool (decide (b<=a))) from by simp [j3,qw]]
theorem Mu {k k':IntKind} {a b:Int} (h:0<=b):bn .shl .int (.int k a) (.int k' b)=some (.int k (k.wrap (a*2 ^ (min b.toNat k.bits)))):=by simp only [bn];rw [show j3 .shl .int (.int k a) (.int k' b)=some (.int k (k.wrap (a*2 ^ (min b.toNat k.bits)))) from by simp [j3,qw,Int.not_lt.2 h]]
theorem po {k k':IntKind} {a b:Int} (h:0<=b):bn .shr .int (.int k a) (.int k' b)=some (.int k (a.fdiv (2 ^ (min b.toNat k.bits)))):=by simp only [bn];rw [show j3 .shr .int (.int k a) (.int k' b)=some (.int k (a.fdiv (2 ^ (min b.toNat k.bits)))) from by simp [j3,qw,Int.not_lt.2 h]]
theorem zV {a b:List UInt8}:bn .eql .str (.str a) (.str b)=some (.bool (a==b)):=(rfl)
theorem zW {a b:List UInt8}:bn .neq .str (.str a) (.str b)=some (.bool !(a==b)):=(rfl)
theorem xr {a b:Bool}:bn .eql .bool (.bool a) (.bool b)=some (.bool (a==b)):=(rfl)
theorem xt {a b:Bool}:bn .neq .bool (.bool a) (.bool b)=some (.bool !(a==b)):=(rfl)
theorem HO {k:Nat}:bn .eql .slice (.sl k []) .nils=some .anyb:=(rfl)
theorem HP {k:Nat} {e:AV} {es:List AV}:bn .eql .slice (.sl k (e::es)) .nils=some (.bool false):=(rfl)
theorem HQ {id:Id} {k o l:Nat} {t:Bool}:bn .eql .slice (.osl id k o l t) .nils=some (.bool false):=(rfl)
theorem HR:bn .eql .slice .nils .nils=some (.bool true):=(rfl)
theorem HS {id:Id} {e o:Nat}:bn .eql .ptr (.ref id e o) .nilp=some (.bool false):=(rfl)
theorem QI {a:Bool}:ZB .not (.bool a)=some (.bool !a):=(rfl)
theorem QJ {k:IntKind} {a:Int}:ZB .neg (.int k a)=some (.int k (k.wrap (0-a))):=(rfl)
theorem HT:ky false .nils=some (.int .i64 0):=(rfl)
theorem QK {k:Nat} {es:List AV}:ky false (.sl k es)=some (.int .i64 es.length):=(rfl)
theorem Mv {k:Nat} {es:List AV}:ky false (.tsl k es)=some (.int .i64 es.length):=(rfl)
theorem Mw {id:Id} {k o l:Nat} {b:Bool}:ky false (.osl id k o l b)=some (.int .i64 l):=(rfl)
theorem Mx {s:List UInt8}:ky true (.str s)=some (.int .i64 s.length):=(rfl)
end
abbrev oM (d x:Nat):bg:=⟨some d, .mv (.t x),none⟩
abbrev oI (d:Nat) (z:Int):bg:=⟨some d, .mv (.c (.int .i64 z)),none⟩
abbrev oB (d:Nat) (b:Bool):bg:=⟨some d, .mv (.c (.bool b)),none⟩
abbrev oZ (d:Nat):bg:=⟨some d, .mv (.c .nils),none⟩
abbrev oL (d n x:Nat):bg:=⟨some d, .load false n (.t x),none⟩
abbrev jJ (d n x:Nat):bg:=⟨some d, .load true n (.t x),none⟩
abbrev oF (d o x:Nat):bg:=⟨some d, .faddr o (.t x),none⟩
abbrev oA (d n x y:Nat):bg:=⟨some d, .iaddrS n (.t x) (.t y),none⟩
abbrev oN (d x:Nat):bg:=⟨some d, .len false (.t x),none⟩
abbrev oS (n x y:Nat):bg:=⟨none, .store n (.t x) (.t y),none⟩
abbrev oX (d x:Nat):bg:=⟨some d, .box (.t x),none⟩
abbrev oE (d x j:Nat):bg:=⟨some d, .extract (.t x) j,none⟩
abbrev xu (d x:Nat):bg:=⟨some d, .un .not (.t x),none⟩
abbrev HU (d x:Nat):bg:=⟨some d, .nilck (.t x),none⟩
abbrev nY (d x y:Nat):bg:=⟨some d, .pick (.t x) (.t y) (.c (.bool false)),none⟩
abbrev tf (d x y:Nat):bg:=⟨some d, .pick (.t x) (.c (.bool true)) (.t y),none⟩
abbrev oC (d f x:Nat):bg:=⟨some d, .call (.f f) [.t x],none⟩
abbrev qC (d f x y:Nat):bg:=⟨some d, .call (.f f) [.t x, .t y],none⟩
abbrev oK (d:Nat) (k:IntKind) (x:Nat):bg:=⟨some d, .toInt k (.t x),none⟩
abbrev Es (d k b x y:Nat):bg:=⟨some d, .append k b (.t x) (.t y),none⟩
abbrev oT (d:Nat) (o:BinOp) (x y:Nat):bg:=⟨some d, .bin o .int (.t x) (.t y),none⟩
abbrev da (d:Nat) (o:BinOp) (x:Nat) (z:Int):bg:=⟨some d, .bin o .int (.t x) (.c (.int .i64 z)),none⟩
abbrev gM (d x g:Nat) (b:Bool):bg:=⟨some d, .mv (.t x),some (g,b)⟩
abbrev gL (d n x g:Nat) (b:Bool):bg:=⟨some d, .load false n (.t x),some (g,b)⟩
abbrev Et (d n x g:Nat) (b:Bool):bg:=⟨some d, .load true n (.t x),some (g,b)⟩
abbrev gF (d o x g:Nat) (b:Bool):bg:=⟨some d, .faddr o (.t x),some (g,b)⟩
abbrev gN (d x g:Nat) (b:Bool):bg:=⟨some d, .len false (.t x),some (g,b)⟩
abbrev gT (d:Nat) (o:BinOp) (x y g:Nat) (b:Bool):bg:=⟨some d, .bin o .int (.t x) (.t y),some (g,b)⟩
abbrev cS (l:List bg) (c:bA):bA := .seq (.reg none l) c
abbrev cR (l:List bg):bA := .reg none l
theorem SS:(((((((type_of% @Hg)/\(type_of% @LM))/\((type_of% @BD)/\((type_of% @Hh)/\(type_of% @BC))))/\(((type_of% @zS)/\(type_of% @D8))/\((type_of% @yR)/\((type_of% @Hi)/\(type_of% @LO)))))/\((((type_of% @pn)/\(type_of% @D4))/\((type_of% @Hc)/\((type_of% @zQ)/\(type_of% @uz))))/\(((type_of% @Hd)/\(type_of% @xi))/\((type_of% @BG)/\((type_of% @D9)/\(type_of% @Qn))))))/\(((((type_of% @aaE)/\(type_of% @Qr))/\((type_of% @V6)/\((type_of% @LR)/\(type_of% @Eg))))/\(((type_of% @Qt)/\(type_of% @LU))/\((type_of% @LW)/\((type_of% @V8)/\(type_of% @aaG)))))/\((((type_of% @LY)/\(type_of% @L0))/\((type_of% @BI)/\((type_of% @Wa)/\(type_of% @Wc))))/\(((type_of% @Qv)/\(type_of% @Qx))/\((type_of% @L3)/\((type_of% @Hs)/\(type_of% @L5)))))))/\((((((type_of% @L8)/\(type_of% @Hu))/\((type_of% @Hw)/\((type_of% @Hy)/\(type_of% @HA))))/\(((type_of% @Ei)/\(type_of% @Wf))/\((type_of% @Qz)/\((type_of% @HD)/\(type_of% @Wi)))))/\((((type_of% @Wl)/\(type_of% @Wn))/\((type_of% @Ma)/\((type_of% @QB)/\(type_of% @QD))))/\(((type_of% @s_call)/\(type_of% @sg))/\((type_of% @Hk)/\((type_of% @Hl)/\(type_of% @Ea))))))/\(((((type_of% @Hp)/\(type_of% @Ec))/\((type_of% @LP)/\((type_of% @Qq)/\(type_of% @Ee))))/\(((type_of% @Ef)/\(type_of% @aaB))/\((type_of% @aaC)/\((type_of% @aaD)/\(type_of% @LQ)))))/\((((type_of% @Hr)/\(type_of% @QG))/\((type_of% @HF)/\((type_of% @Mc)/\(type_of% @Ek))))/\(((type_of% @HG)/\((type_of% @El)/\(type_of% @Md)))/\((type_of% @QH)/\((type_of% @Em)/\(type_of% @En))))))))/\(((((((type_of% @xl)/\(type_of% @Mi))/\((type_of% @Mj)/\((type_of% @HI)/\(type_of% @HJ))))/\(((type_of% @Eo)/\(type_of% @BL))/\((type_of% @vv)/\((type_of% @xn)/\(type_of% @Ep)))))/\((((type_of% @BM)/\(type_of% @BN))/\((type_of% @vR)/\((type_of% @BO)/\(type_of% @zU))))/\(((type_of% @Me)/\(type_of% @HK))/\((type_of% @BP)/\((type_of% @Mf)/\(type_of% @Mg))))))/\(((((type_of% @Mh)/\(type_of% @Er))/\((type_of% @HM)/\((type_of% @HN)/\(type_of% @vz))))/\(((type_of% @xp)/\(type_of% @xq))/\((type_of% @Mk)/\((type_of% @Ml)/\(type_of% @Mm)))))/\((((type_of% @Mo)/\(type_of% @Mp))/\((type_of% @Mq)/\((type_of% @Mr)/\(type_of% @Ms))))/\(((type_of% @Mt)/\((type_of% @zV)/\(type_of% @zW)))/\((type_of% @xr)/\((type_of% @xt)/\(type_of% @HO)))))))/\((((((type_of% @HP)/\(type_of% @HQ))/\((type_of% @HR)/\((type_of% @HS)/\(type_of% @xm))))/\(((type_of% @BQ)/\(type_of% @HL))/\((type_of% @QI)/\((type_of% @QJ)/\(type_of% @HT)))))/\((((type_of% @QK)/\(type_of% @Mv))/\((type_of% @Mw)/\((type_of% @Mx)/\(type_of% @List.getD_cons_zero.{0}))))/\(((type_of% @List.getD_cons_succ.{0})/\(type_of% @List.set_cons_zero.{0}))/\((type_of% @List.set_cons_succ.{0})/\((type_of% @List.map_cons.{0,0})/\(type_of% @List.map_nil.{0,0}))))))/\(((((type_of% @Option.map_some.{0,0})/\(type_of% @Option.map_none.{0,0}))/\((type_of% @List.length_cons.{0})/\((type_of% @List.length_nil.{0})/\(type_of% @beq_self_eq_true.{0}))))/\(((type_of% @if_true.{1})/\(type_of% @if_false.{1}))/\((type_of% @BA)/\((type_of% @List.append_nil.{0})/\(type_of% @List.nil_append.{0})))))/\((((type_of% @List.cons_append.{0})/\(type_of% @Bool.true_beq))/\((type_of% @Bool.false_beq)/\((type_of% @beq_true)/\(type_of% @beq_false))))/\(((type_of% @Bool.not_true)/\((type_of% @Bool.not_false)/\(type_of% @Nat.zero_add)))/\((type_of% @Bool.false_eq_true)/\((type_of% @List.replicate_succ.{0})/\(type_of% @List.replicate_zero.{0})))))))) :=
 ⟨⟨⟨⟨⟨⟨⟨@Hg, @LM⟩,⟨@BD,⟨@Hh, @BC⟩⟩⟩,⟨⟨@zS, @D8⟩,⟨@yR,⟨@Hi, @LO⟩⟩⟩⟩,⟨⟨⟨@pn, @D4⟩,⟨@Hc,⟨@zQ, @uz⟩⟩⟩,⟨⟨@Hd, @xi⟩,⟨@BG,⟨@D9, @Qn⟩⟩⟩⟩⟩,⟨⟨⟨⟨@aaE, @Qr⟩,⟨@V6,⟨@LR, @Eg⟩⟩⟩,⟨⟨@Qt, @LU⟩,⟨@LW,⟨@V8, @aaG⟩⟩⟩⟩,⟨⟨⟨@LY, @L0⟩,⟨@BI,⟨@Wa, @Wc⟩⟩⟩,⟨⟨@Qv, @Qx⟩,⟨@L3,⟨@Hs, @L5⟩⟩⟩⟩⟩⟩,⟨⟨⟨⟨⟨@L8, @Hu⟩,⟨@Hw,⟨@Hy, @HA⟩⟩⟩,⟨⟨@Ei, @Wf⟩,⟨@Qz,⟨@HD, @Wi⟩⟩⟩⟩,⟨⟨⟨@Wl, @Wn⟩,⟨@Ma,⟨@QB, @QD⟩⟩⟩,⟨⟨@s_call, @sg⟩,⟨@Hk,⟨@Hl, @Ea⟩⟩⟩⟩⟩,⟨⟨⟨⟨@Hp, @Ec⟩,⟨@LP,⟨@Qq, @Ee⟩⟩⟩,⟨⟨@Ef, @aaB⟩,⟨@aaC,⟨@aaD, @LQ⟩⟩⟩⟩,⟨⟨⟨@Hr, @QG⟩,⟨@HF,⟨@Mc, @Ek⟩⟩⟩,⟨⟨@HG,⟨@El, @Md⟩⟩,⟨@QH,⟨@Em, @En⟩⟩⟩⟩⟩⟩⟩,⟨⟨⟨⟨⟨⟨@xl, @Mi⟩,⟨@Mj,⟨@HI, @HJ⟩⟩⟩,⟨⟨@Eo, @BL⟩,⟨@vv,⟨@xn, @Ep⟩⟩⟩⟩,⟨⟨⟨@BM, @BN⟩,⟨@vR,⟨@BO, @zU⟩⟩⟩,⟨⟨@Me, @HK⟩,⟨@BP,⟨@Mf, @Mg⟩⟩⟩⟩⟩,⟨⟨⟨⟨@Mh, @Er⟩,⟨@HM,⟨@HN, @vz⟩⟩⟩,⟨⟨@xp, @xq⟩,⟨@Mk,⟨@Ml, @Mm⟩⟩⟩⟩,⟨⟨⟨@Mo, @Mp⟩,⟨@Mq,⟨@Mr, @Ms⟩⟩⟩,⟨⟨@Mt,⟨@zV, @zW⟩⟩,⟨@xr,⟨@xt, @HO⟩⟩⟩⟩⟩⟩,⟨⟨⟨⟨⟨@HP, @HQ⟩,⟨@HR,⟨@HS, @xm⟩⟩⟩,⟨⟨@BQ, @HL⟩,⟨@QI,⟨@QJ, @HT⟩⟩⟩⟩,⟨⟨⟨@QK, @Mv⟩,⟨@Mw,⟨@Mx, @List.getD_cons_zero.{0}⟩⟩⟩,⟨⟨@List.getD_cons_succ.{0}, @List.set_cons_zero.{0}⟩,⟨@List.set_cons_succ.{0},⟨@List.map_cons.{0,0}, @List.map_nil.{0,0}⟩⟩⟩⟩⟩,⟨⟨⟨⟨@Option.map_some.{0,0}, @Option.map_none.{0,0}⟩,⟨@List.length_cons.{0},⟨@List.length_nil.{0}, @beq_self_eq_true.{0}⟩⟩⟩,⟨⟨@if_true.{1}, @if_false.{1}⟩,⟨@BA,⟨@List.append_nil.{0}, @List.nil_append.{0}⟩⟩⟩⟩,⟨⟨⟨@List.cons_append.{0}, @Bool.true_beq⟩,⟨@Bool.false_beq,⟨@beq_true, @beq_false⟩⟩⟩,⟨⟨@Bool.not_true,⟨@Bool.not_false, @Nat.zero_add⟩⟩,⟨@Bool.false_eq_true,⟨@List.replicate_succ.{0}, @List.replicate_zero.{0}⟩⟩⟩⟩⟩⟩⟩⟩
theorem DD:(((((type_of% @BF)/\(type_of% @Qo))/\((type_of% @aaF)/\((type_of% @Qs)/\(type_of% @V7))))/\(((type_of% @LS)/\((type_of% @Eh)/\(type_of% @Qu)))/\((type_of% @LV)/\((type_of% @LX)/\(type_of% @V9)))))/\((((type_of% @aaH)/\(type_of% @LZ))/\((type_of% @L1)/\((type_of% @BJ)/\(type_of% @Wb))))/\(((type_of% @We)/\((type_of% @Qw)/\(type_of% @Qy)))/\((type_of% @L4)/\((type_of% @Ht)/\(type_of% @L6))))))/\(((((type_of% @L9)/\(type_of% @Hv))/\((type_of% @Hx)/\((type_of% @Hz)/\(type_of% @HB))))/\(((type_of% @Ej)/\((type_of% @Wh)/\(type_of% @QA)))/\((type_of% @HE)/\((type_of% @Wj)/\(type_of% @Wm)))))/\((((type_of% @Wo)/\((type_of% @Mb)/\(type_of% @QC)))/\((type_of% @QE)/\((type_of% @QF)/\(type_of% @dg))))/\(((type_of% @Hm)/\((type_of% @Ho)/\(type_of% @Eb)))/\((type_of% @Hq)/\((type_of% @Ed)/\(type_of% @BB)))))) :=
 ⟨⟨⟨⟨⟨@BF, @Qo⟩,⟨@aaF,⟨@Qs, @V7⟩⟩⟩,⟨⟨@LS,⟨@Eh, @Qu⟩⟩,⟨@LV,⟨@LX, @V9⟩⟩⟩⟩,⟨⟨⟨@aaH, @LZ⟩,⟨@L1,⟨@BJ, @Wb⟩⟩⟩,⟨⟨@We,⟨@Qw, @Qy⟩⟩,⟨@L4,⟨@Ht, @L6⟩⟩⟩⟩⟩,⟨⟨⟨⟨@L9, @Hv⟩,⟨@Hx,⟨@Hz, @HB⟩⟩⟩,⟨⟨@Ej,⟨@Wh, @QA⟩⟩,⟨@HE,⟨@Wj, @Wm⟩⟩⟩⟩,⟨⟨⟨@Wo,⟨@Mb, @QC⟩⟩,⟨@QE,⟨@QF, @dg⟩⟩⟩,⟨⟨@Hm,⟨@Ho, @Eb⟩⟩,⟨@Hq,⟨@Ed, @BB⟩⟩⟩⟩⟩⟩
theorem RS:(((type_of% @ah)/\(type_of% @zT))/\((type_of% @List.mapM_cons.{0,0,0})/\((type_of% @List.mapM_nil.{0,0,0})/\(type_of% @List.getD_cons_zero.{0}))))/\(((type_of% @List.getD_cons_succ.{0})/\(type_of% @Option.pure_def.{0}))/\((type_of% @Option.bind_eq_bind.{0})/\((type_of% @Option.bind_some.{0,0})/\(type_of% @Option.map_some.{0,0})))) :=
 ⟨⟨⟨@ah, @zT⟩,⟨@List.mapM_cons.{0,0,0},⟨@List.mapM_nil.{0,0,0}, @List.getD_cons_zero.{0}⟩⟩⟩,⟨⟨@List.getD_cons_succ.{0}, @Option.pure_def.{0}⟩,⟨@Option.bind_eq_bind.{0},⟨@Option.bind_some.{0,0}, @Option.map_some.{0,0}⟩⟩⟩⟩
def Has (P:Program) (f:FuncId) (vf:aL):Prop:=∃ fn,P.funcs[f]? = some fn/\Bi P fn=some vf
section
variable {P:Program} {G:Nat->Option (List AV)}
theorem VP.has {f:FuncId} {vf:aL} (h:Has P f vf) {args:List AV} {r:AV} (k:sF P G [] vf.body (Dp vf.results r) ⟨args++List.replicate (vf.nt-args.length) (.tup []),fun _=>none,0⟩):VP P G f args r:=by
 obtain ⟨fn,h1,h2⟩:=h
 exact VP.of h1 h2 k
theorem aq.has {f:FuncId} {vf:aL} (h:Has P f vf) {args:List AV} {p:Id} {S:List (Id × a8)} {r:eB}
   (k:sF P G p vf.body (N7 G p S vf.results r) ⟨args++List.replicate (vf.nt-args.length) (.tup []),aa.of S,0⟩):aq P G f args p S r:=by
 obtain ⟨fn,h1,h2⟩:=h
 exact aq.V5 h1 h2 (VW.of k)
theorem cW {π : Id} {base:Nat} {Q:bB->VS->Prop} {n:Nat} {d:Option Nat} {os:List bg} {i:Nat} {t:List AV} {σ : aa} {f:FuncId} {args eD:List AV} {r:AV} (S:List (Id × a8))
   (h:VP P G f eD r) (hv:aI (aa.of S) args eD) (hS:∀ x∈S, σ x.1=some x.2) (k:vs P G π base Q n os (i+1) (fL t d r) (σ.app (nX S))):nW P G π base Q n d os i t σ f args :=
 ⟨S,_,aq.AR h hv,hS,fun x hx=>List.mem_map.2 ⟨x,hx,rfl⟩,k⟩
theorem ig {π : Id} {base:Nat} {Q:bB->VS->Prop} {n:Nat} {d:Option Nat} {os:List bg} {i:Nat} {t:List AV} {σ : aa} {f:FuncId} {args eD:List AV} {r:AV} (S:List (Id × a8))
   (h:VP P G f eD r) (hv:aI (aa.of S) args eD) (hf:aS r) (hS:∀ x∈S, σ x.1=some x.2) (k:vs P G π base Q n os (i+1) (fL t d r) σ):nW P G π base Q n d os i t σ f args :=
 ⟨S,_,aq.of_flat h hv hf,hS,fun x hx=>List.mem_map.2 ⟨x,hx,rfl⟩,k⟩
theorem ae {rs:List pO} {r:AV} {s:VS} (h:fY rs s=some r) (hp:af r):∃ r0,fY rs s=some r0/\View s.σ r0 r:=⟨r,h,View.pure hp⟩
end
theorem gO {σ : aa} {agg:Bool} {n e o:Nat} {id:Id} {bk:a8} {el:AV} (h : σ id=some bk) (he:bk.els[e]? = some el):fX σ agg n (.ref id e o)=(part agg el.cells o n).map fun v=>{ val:=v,rd:=[id] }:=by
 simp [fX,h,he]
theorem ax {σ : aa} {agg:Bool} {n o:Nat} {cs:List AV}:fX σ agg n (.ep cs o)=(part agg cs o n).map fun v=>{ val:=v }:=rfl
section
variable {P:Program} {G:Nat->Option (List AV)} {own:Nat->Prop} {E:Env} {w:World} {σ : aa}
theorem View.fn {σ : aa} {f:Fn} {a c a' c':List AV} (ha:aI σ a a') (hc:aI σ c c'):View σ (.fn f a c) (.fn f a' c'):=fun G own E w v hi hr=>by
 simp only [aD] at hr ⊢
 obtain ⟨xs,ys,e,h1,h2⟩:=hr
 exact ⟨xs,ys,e,ha.tw hi h1,hc.tw hi h2⟩
theorem View.ref {σ : aa} {id:Id} {bk:a8} {e o:Nat} {el:AV} {cs:List AV} (hσ : σ id=some bk) (he:bk.els[e]? = some el) (h:aI σ el.cells cs):View σ (.ref id e o) (.ep cs o):=fun G own E w v hi hr=>by
 obtain ⟨g,N,cur,ty,hB⟩:=hi.blk id bk hσ
 simp only [aD] at hr ⊢
 obtain ⟨g',k',N',hm,rfl⟩:=hr
 rw [hB.μ] at hm
 simp only [Option.some.injEq,Prod.mk.injEq] at hm
 obtain ⟨rfl,rfl,rfl⟩:=hm
 refine ⟨g,e*bk.k,rfl, .inr ⟨id,bk,bk.k,N,hσ,hB.μ⟩, ?_⟩
 refine dP.2 (h.D5 hi ?_)
 have hlt:=(List.getElem?_eq_some_iff.1 he).1
 have:=nN (l:=e) (r:=e+1) hB.k hB.row (by omega) (by omega)
 rw [Nat.zero_add] at this
 have e2:(bk.els.take (e+1)).drop e=[el]:=by
   rw [List.drop_take,show e+1-e=1 from by omega,List.drop_eq_getElem_cons hlt]
   obtain ⟨_,VY⟩:=List.getElem?_eq_some_iff.1 he
   simp [VY]
 rw [e2] at this
 simpa [flat] using this
def cX (F:List (Id × a8)) (c d:AV):Prop:=∀ G own E w v,Inv G own E w (aa.of F)->aD E w c v->aD ⟨E.μ,(E.froze (aa.of F)).ok⟩ w d v
def dU (F:List (Id × a8)):List AV->List AV->Prop
 | [],[]=>True
 | c::cs,d::ds=>cX F c d/\dU F cs ds
 | _,_=>False
theorem cX.same (F:List (Id × a8)) (c:AV):cX F c c:=fun _ _ E w v _ hr =>
 aD.keep (⟨fun _ _ h=>h,fun _ h => .inl h,fun _ _=>rfl⟩:Step E ⟨E.μ,(E.froze (aa.of F)).ok⟩ w w) _ v hr
theorem cX.top (F:List (Id × a8)) (c:AV):cX F c .top:=fun _ _ _ _ _ _ _=>by simp [aD]
theorem cX.view {F:List (Id × a8)} {c d:AV} (h:View (aa.of F) c d):cX F c d:=fun _ _ E w v hi hr =>
 aD.keep (⟨fun _ _ h=>by simp [Env.froze] at h,fun _ h=>h,fun _ _=>rfl⟩:Step (E.froze (aa.of F)) ⟨E.μ,(E.froze (aa.of F)).ok⟩ w w) _ v (h _ _ _ _ _ hi hr)
theorem dU.same (F:List (Id × a8)):∀ cs:List AV,dU F cs cs
 | []=>trivial
 | c::cs=>⟨cX.same F c,dU.same F cs⟩
theorem dU.tw {F:List (Id × a8)} (hi:Inv G own E w (aa.of F)):∀ {cs ds:List AV} {vs:List Value},dU F cs ds->aF E w cs vs->aF ⟨E.μ,(E.froze (aa.of F)).ok⟩ w ds vs
 | [],[],_,_,h=>by simpa [aF] using h
 | c::cs,d::ds,vs,hf,h=>by
   simp only [dU] at hf
   simp only [aF] at h ⊢
   obtain ⟨v,rest,e,h1,h2⟩:=h
   exact ⟨v,rest,e,hf.1 _ _ _ _ _ hi h1,dU.tw hi hf.2 h2⟩
 | [],_::_,_,h,_=>by simp [dU] at h
 | _::_,[],_,h,_=>by simp [dU] at h
theorem dU.get {F:List (Id × a8)}:∀ {cs ds:List AV},dU F cs ds->∀ (j:Nat) (d:AV),ds[j]? = some d->∃ c,cs[j]? = some c/\cX F c d
 | [],[],_,j,d,h=>by simp at h
 | c::cs,d::ds,hf,0,d',h=>by simp at h;subst h;exact ⟨c,rfl,hf.1⟩
 | c::cs,d::ds,hf,j+1,d',h=>by simpa using dU.get hf.2 j d' (by simpa using h)
 | [],_::_,h,_,_,_=>by simp [dU] at h
 | _::_,[],h,_,_,_=>by simp [dU] at h
theorem cX.agg {F:List (Id × a8)} {cs ds:List AV} (h:dU F cs ds):cX F (.agg cs) (.agg ds):=fun _ _ E w v hi hr=>by
 simp only [aD] at hr ⊢;obtain ⟨xs,e,hr⟩:=hr;exact ⟨xs,e,h.tw hi hr⟩
structure Xz (F:List (Id × a8)) (i:Id) (bk Ar:a8):Prop where
 k:Ar.k=bk.k
 fr:Ar.fr=bk.fr∨(Ar.fr=true/\(i,bk)∈F)
 no:Ar.fr=false->∀ x∈F,x.1≠i
 len:Ar.els.length=bk.els.length
 sz:∀ e∈Ar.els,e.size=bk.k
 els:dU F (flat bk.els) (flat Ar.els)
theorem mM {p:Id} {σ σ':aa} (F:List (Id × a8)) (hF:∀ x∈F, σ x.1=some x.2) (hs:∀ i, σ' i=none∨∃ bk Ar, σ i=some bk /\ σ' i=some Ar/\Xz F i bk Ar) (hi:Inv G own E w σ) :
   j7 own p E ⟨E.μ,(E.froze (aa.of F)).ok⟩ w w/\Inv G own ⟨E.μ,(E.froze (aa.of F)).ok⟩ w σ':=by
 have hiF:Inv G own E w (aa.of F):=hi.sub (aa.mf hF)
 have dS:Adv own E ⟨E.μ,(E.froze (aa.of F)).ok⟩ w w:=by
   refine ⟨⟨fun _ _ h=>h,fun b hb => .inl hb,fun b hb=>rfl⟩,rfl,rfl,rfl,Nat.le_refl _,fun k hk _=>rfl,fun b hb => ?_⟩
   rcases hb with h1 | ⟨id,bk,k,N,hs,hm⟩
   . exact .inl h1
   . obtain ⟨g,N',cur,ty,hB⟩:=hi.blk id bk (hF _ (eR hs))
     rw [hB.μ] at hm
     simp only [Option.some.injEq,Prod.mk.injEq] at hm
     rw [<- hm.1];exact .inr hB.own
 refine ⟨⟨dS,fun _ _=>rfl⟩,(hi.froze hF).okb,fun id Ar PD => ?_,fun i j x y fK hj' hne hx hy => ?_,fun g cs hg => ?_,hi.new⟩
 . rcases hs id with h | ⟨bk,ZF,h1,h2,hR⟩
   . rw [h] at PD;simp at PD
   . rw [h2] at PD
     simp only [Option.some.injEq] at PD;subst PD
     obtain ⟨g,N,cur,ty,hB⟩:=hi.blk id bk h1
     refine ⟨g,N,cur,ty,by rw [hR.k];exact hB.μ,hB.heap,by rw [hR.k];exact hB.size,by rw [hR.len];exact hB.len,hB.most,hB.own,fun hf => ?_,fun hf dI => ?_,by rw [hR.k];exact hR.sz, ?_⟩
     . rcases hR.fr with h | ⟨_,h⟩
       . exact .inl (hB.ok (h▸hf))
       . exact .inr ⟨id,bk,bk.k,N,yT hF h,hB.μ⟩
     . have hbf:bk.fr=false:=by
         rcases hR.fr with h | ⟨h,_⟩
         . rw [<- h];exact hf
         . rw [hf] at h;simp at h
       rcases dI with h | ⟨GL,ZF,k2,N2,mV,sQ⟩
       . exact hB.no hbf h
       . have hm:=eR mV
         exact hi.inj id GL _ _ (by simp [h1]) (by simp [hF _ hm]) (fun e=>hR.no hf _ hm e.symm) hB.μ sQ rfl
     . intro j d hd
       obtain ⟨c,hc,hv⟩:=hR.els.get j d hd
       obtain ⟨v,l0,oG⟩:=hB.row j c hc
       exact ⟨v,l0,hv _ _ _ _ _ hiF oG⟩
 . have keep:∀ i, σ' i≠none -> σ i≠none:=by
     intro i hn he
     rcases hs i with h | ⟨bk,ZF,h1,_⟩
     . exact hn h
     . rw [he] at h1;simp at h1
   exact hi.inj i j x y (keep i fK) (keep j hj') hne hx hy
 . obtain ⟨h1,h2⟩:=hi.glob g cs hg
   exact ⟨.inl h1,aX.keep dS.step.bare rfl cs 0 h2⟩
theorem Wk.nX {π : Id} {t t':List AV} {σ σ':aa} {n n':Nat} (F:List (Id × a8)) (hF:∀ x∈F, σ x.1=some x.2) (ht:dU F t t')
   (hs:∀ i, σ' i=none∨∃ bk Ar, σ i=some bk /\ σ' i=some Ar/\Xz F i bk Ar) (hn:n<=n'):Wk G π ⟨t, σ,n⟩ ⟨t', σ',n'⟩:=fun own E w a hm=>by
 obtain ⟨h1,h2⟩:=mM (p := π) F hF hs hm.inv
 exact ⟨_,h1,ht.tw (hm.inv.sub (aa.mf hF)) hm.frame,h2,hm.free.mono hn,hm.defers⟩
theorem Fin.nX {p:Id} {S:List (Id × a8)} {σ':aa} {r0:AV} {r:eB} (F:List (Id × a8)) (hF:∀ x∈F, σ' x.1=some x.2) (hv:cX F r0 r.val)
   (hs:∀ i,(aa.of S).app r.up i=none∨∃ bk Ar, σ' i=some bk/\(aa.of S).app r.up i=some Ar/\Xz F i bk Ar):Fin G p S σ' r0 r :=
 fun own E w v hi hr _=>by
   obtain ⟨h1,h2⟩:=mM (p:=p) F hF hs hi
   exact ⟨_,h1,h2,hv _ _ _ _ _ (hi.sub (aa.mf hF)) hr⟩
end
end Go.VL
