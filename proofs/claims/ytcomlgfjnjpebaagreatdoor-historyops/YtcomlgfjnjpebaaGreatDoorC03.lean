/- For the claim of HistoryOps: parts VL15, VL16, VL17, VL18, VL19, VL20, VL21, VL22, VL24, VL23, VL25. -/
import Derived.Test.YtcomlgfjnjpebaaGreatDoorC02
import Derived.LoopN
set_option linter.unusedSimpArgs false
set_option linter.unusedVariables false
section
namespace Go.VL
theorem zY {X Y:Nat->Bool}:∀ (L:List yn) (i:Nat) (t:List AV),(∀ k,k<L.length->X (i+k)=Y (i+k))->eT X L i t=eT Y L i t
 | [],_,_,_=>rfl
 | (d,r)::L,i,t,h=>by
   simp only [eT]
   have h0:=h 0 (by simp)
   rw [Nat.add_zero] at h0
   rw [h0]
   exact zY L (i+1) _ (fun k hk=>by rw [show i+1+k=i+(k+1) from by omega];exact h (k+1) (by simpa using hk))
theorem zZ {X Y:Nat->Bool}:∀ (L:List yn) (i:Nat) (σ : aa),(∀ k,k<L.length->X (i+k)=Y (i+k))->gv X L i σ = gv Y L i σ
 | [],_,_,_=>rfl
 | (d,r)::L,i,t,h=>by
   simp only [gv]
   have h0:=h 0 (by simp)
   rw [Nat.add_zero] at h0
   rw [h0]
   exact zZ L (i+1) _ (fun k hk=>by rw [show i+1+k=i+(k+1) from by omega];exact h (k+1) (by simpa using hk))
theorem Ew {X Y:Nat->Bool} {i:Nat} (hX:X i=false) (hY:Y i=true) (hXY:∀ k,X k=true->Y k=true):∀ (l:List Nat),i∈l->l.countP X<l.countP Y
 | [],h=>by simp at h
 | a :: l,h=>by
   have hle:l.countP X<=l.countP Y:=List.countP_mono_left fun x _ hx=>hXY x hx
   simp only [List.countP_cons]
   rcases List.mem_cons.1 h with rfl | h
   . simp [hX,hY];omega
   . have:=Ew hX hY hXY l h
     by_cases ha:X a=true
     . simp [ha,hXY a ha];omega
     . simp [ha];split<;>omega
theorem Cu {X:Nat->Bool}:∀ (l:List Nat),l.length<=l.countP X->∀ i∈l,X i=true
 | [],_,i,h=>by simp at h
 | a :: l,hc,i,h=>by
   have hle:=List.countP_le_length (p:=X) (l:=l)
   simp only [List.countP_cons,List.length_cons] at hc
   by_cases ha:X a=true
   . simp only [ha,if_true] at hc
     rcases List.mem_cons.1 h with rfl | h
     . exact ha
     . exact Cu l (by omega) i h
   . simp [ha] at hc;omega
section
variable {P:Program} {G:Nat->Option (List AV)} {own:Nat->Prop}
theorem yu {n i j:Nat} (J1:i<j) (hj:j<n):(i,j)∈yg n:=by
 unfold yg
 rw [List.mem_flatMap]
 exact ⟨j,List.mem_range.2 hj,List.mem_map.2 ⟨i,List.mem_range.2 J1,rfl⟩⟩
structure Mid (G:Nat->Option (List AV)) (π : Id) (own:Nat->Prop) (L:List yn) (base n:Nat) (t0:List AV) (σ0:aa) (a0:Act) (E0:Env) (w0:World) (X:Nat->Bool) (E:Env) (w:World) (a:Act):Prop where
 frame:cw E w (eT X L 0 t0) a
 inv:Inv G own E w (gv X L 0 σ0)
 Ce:kD own π E0 E w0 w
 free:∀ i,i<n->X i=false->∀ j,((base+i) :: π) <:+ j->E.μ j=none
 more:xB E π (base+n)
 defers:a.defers=a0.defers
theorem Nj {ops:Array Oper} {vs:List bu} (Lg:ops.toList.mapM (xd P ops)=some vs) (Pu:BV vs (ops.toList.map xe)=true)
   {π : Id} {base:Nat} {t0:List AV} {σ0:aa} {rs:List dQ} (Y6:rs.length=vs.length)
   (pK:∀ k o r,vs[k]? = some o->rs[k]? = some r->yr P G π base o (0+k) (eT (fun m=>m<0+k) ((vs.map (·.dst)).zip rs) 0 t0) (gv (fun m=>m<0+k) ((vs.map (·.dst)).zip rs) 0 σ0) r)
   (zJ:ar rs (wv vs (ops.toList.map xe))) {a0:Act} {E0:Env} {w0:World} {Q:Exit->Act->World->Prop}
   (hQ:∀ a E w,Mid G π own ((vs.map (·.dst)).zip rs) base ops.size t0 σ0 a0 E0 w0 (fun _=>true) E w a->Q .normal a w) :
   ∀ (fuel:Nat) (listed:Array Bool) (a:Act) (E:Env) (w:World),listed.size=ops.size->ops.size<=(List.range ops.size).countP (fun i=>listed.getD i false)+fuel ->
     (∀ k,k<ops.size->listed.getD k false=true->∀ e∈(ops.toList.map xe).getD k [],listed.getD e false=true) ->
     Mid G π own ((vs.map (·.dst)).zip rs) base ops.size t0 σ0 a0 E0 w0 (fun i=>listed.getD i false) E w a->wpAny P .any ops Q fuel listed a w:=by
 have uA:vs.length=ops.size:=by have:=gR Lg;simpa using this
 generalize hL:(vs.map (·.dst)).zip rs=L at *
 have hLl:L.length=ops.size:=by rw [<- hL];simp [Y6,uA]
 have Li:∀ (k:Nat) (d:Option Nat) (r:dQ),L[k]? = some (d,r)↔∃ o:bu,vs[k]? = some o/\o.dst=d/\rs[k]? = some r:=by
   intro k d r
   rw [<- hL,List.getElem?_zip_eq_some]
   simp only [List.getElem?_map,Option.map_eq_some_iff]
   constructor
   . rintro ⟨⟨o,h1,h2⟩,h3⟩;exact ⟨o,h1,h2,h3⟩
   . rintro ⟨o,h1,h2,h3⟩;exact ⟨⟨o,h1,h2⟩,h3⟩
 generalize Y7:ops.toList.map xe=pj at *
 have agQ:pj.length=ops.size:=by rw [<- Y7];simp
 unfold BV at Pu
 simp only [Bool.and_eq_true,List.all_eq_true] at Pu
 obtain ⟨⟨_,aN⟩,Wu⟩:=Pu
 have Wv:∀ j,j<ops.size->∀ e∈pj.getD j [],e<j:=by
   intro j hj e he
   have:=aN j (List.mem_range.2 (by rw [uA];exact hj)) e he
   simpa using this
 have uP:∀ (i j:Nat) (a b:bu),i<j->vs[i]? = some a->vs[j]? = some b->AU a b=true->((jH pj []).getD j 0).testBit i=true:=by
   intro i j a b J1 ha hb hc
   have hj:j<vs.length:=(List.getElem?_eq_some_iff.1 hb).1
   have:=Wu (i,j) (yu J1 hj)
   simp only [ha,hb,hc,Bool.not_true,Bool.false_or] at this
   exact this
 have yt:∀ (i j:Nat) (a b:bu),i<j->vs[i]? = some a->vs[j]? = some b->a.op.pure=false->b.op.pure=false->(a.op.re&&b.op.re)=false->((jH pj []).getD j 0).testBit i=false->∀ (x y:dQ),rs[i]? = some x->rs[j]? = some y->apart x y:=by
   intro i j a b J1 ha hb hpa hpb S0 hm x y hx hy
   have hj:j<vs.length:=(List.getElem?_eq_some_iff.1 hb).1
   refine zJ (i,j) ?_ x y hx hy
   unfold wv
   rw [List.mem_filter]
   exact ⟨yu J1 hj,by simp only [ha,hb,hpa,hpb,S0,hm];rfl⟩
 -- an operation that touches a block is not pure
 have Lj:∀ (k:Nat) (o:bu) (r:dQ),vs[k]? = some o->rs[k]? = some r->(r.rd≠[]∨r.up≠[])->o.op.pure=false:=by
   intro k o r ho hr bY
   cases hp:o.op.pure with
   | false=>rfl
   | true =>
     rcases pK k o r ho hr with ⟨_,rfl⟩ | ⟨_,hs⟩
     . simp at bY
     . obtain ⟨h1,h2⟩:=Nh hp hs
       simp [h1,h2] at bY
 have Pv:∀ (k:Nat) (o:bu) (r:dQ),vs[k]? = some o->rs[k]? = some r->r.up≠[]->o.op.re=false:=by
   intro k o r ho hr bY
   cases hp:o.op.re with
   | false=>rfl
   | true =>
     rcases pK k o r ho hr with ⟨_,rfl⟩ | ⟨_,hs⟩
     . simp at bY
     . exact absurd (Ni hp hs) bY
 intro fuel
 induction fuel with
 | zero =>
   intro listed a E w xD Y8 G4 hm
   have cD:∀ i,i<ops.size->listed.getD i false=true:=by
     intro i hi
     have:=Cu (X:=fun i=>listed.getD i false) (List.range ops.size) (by simpa using Y8) i (List.mem_range.2 hi)
     exact this
   refine ⟨?_,hQ a E w ?_⟩
   . apply List.eq_nil_iff_forall_not_mem.2
     intro j hj
     obtain ⟨h1,o,h2,_⟩:=mem_ready.1 hj
     have nH:j<ops.size:=(Array.getElem?_eq_some_iff.1 h2).1
     have:=cD j nH
     rw [Array.getD_eq_getD_getElem?] at h1 this
     cases hh:listed[j]? with
     | none=>simp [hh] at this
     | some b=>simp [hh] at h1 this;simp [h1] at this
   . have e1:eT (fun i=>listed.getD i false) L 0 t0=eT (fun _=>true) L 0 t0:=zY L 0 t0 (fun k hk=>by rw [Nat.zero_add];exact cD k (by omega))
     have e2:gv (fun i=>listed.getD i false) L 0 σ0=gv (fun _=>true) L 0 σ0:=zZ L 0 σ0 (fun k hk=>by rw [Nat.zero_add];exact cD k (by omega))
     exact ⟨e1▸hm.frame,e2▸hm.inv,hm.Ce,by simp,hm.more,hm.defers⟩
 | succ fuel ih =>
   intro listed a E w xD Y8 G4 hm
   have Y9:∀ i,i<ops.size->listed.getD i true=listed.getD i false:=by
     intro i hi
     rw [Array.getD_eq_getD_getElem?,Array.getD_eq_getD_getElem?,Array.getElem?_eq_getElem (by omega)]
     rfl
   have Vj:∀ (j:Nat) (o:Oper),ops[j]? = some o->pj.getD j []=xe o:=by
     intro j o ho
     rw [<- Y7]
     have hj:j<ops.size:=(Array.getElem?_eq_some_iff.1 ho).1
     have he:ops[j]=o:=(Array.getElem?_eq_some_iff.1 ho).2
     simp [List.getD,hj,he]
   refine ⟨?_, ?_⟩
   . -- nothing is ready: all is done
     intro yv
     have cD : ∀ i,i<ops.size->listed.getD i false=true:=by
       intro i
       induction i using Nat.strongRecOn with
       | _ i ihi =>
         intro hi
         cases hh:listed.getD i false with
         | true=>rfl
         | false =>
           exfalso
           have vp:i∈Region.ready .any ops listed:=by
             refine mem_ready.2 ⟨(Y9 i hi).trans hh,ops[i],by simp [hi], ?_⟩
             intro e he hb
             have acH:e.on∈pj.getD i []:=by
               rw [Vj i ops[i] (by simp [hi])]
               unfold xe
               exact List.mem_map.2 ⟨e,List.mem_filter.2 ⟨by simpa using he,hb⟩,rfl⟩
             have:=Wv i hi e.on acH
             exact ihi e.on this (by omega)
           rw [yv] at vp
           simp at vp
     have e1:eT (fun i=>listed.getD i false) L 0 t0=eT (fun _=>true) L 0 t0:=zY L 0 t0 (fun k hk=>by rw [Nat.zero_add];exact cD k (by omega))
     have e2:gv (fun i=>listed.getD i false) L 0 σ0=gv (fun _=>true) L 0 σ0:=zZ L 0 σ0 (fun k hk=>by rw [Nat.zero_add];exact cD k (by omega))
     exact hQ a E w ⟨e1▸hm.frame,e2▸hm.inv,hm.Ce,by simp,hm.more,hm.defers⟩
   . intro j hj
     obtain ⟨h1,o,ho,Za⟩:=mem_ready.1 hj
     have JL:j<ops.size:=(Array.getElem?_eq_some_iff.1 ho).1
     have Yt:listed.getD j false=false:=(Y9 j JL).symm.trans h1
     generalize hX:(fun i=>listed.getD i false)=X at *
     have hXd:∀ i,listed.getD i false=X i:=fun i=>by rw [<- hX]
     simp only [hXd] at G4 Yt
     have xz:∀ e∈pj.getD j [],X e=true:=by
       intro e he
       rw [Vj j o ho] at he
       unfold xe at he
       obtain ⟨ed,hed,rfl⟩:=List.mem_map.1 he
       obtain ⟨h3,h4⟩:=List.mem_filter.1 hed
       rw [<- hXd]
       exact Za ed (by simpa using h3) h4
     have pre:∀ i,((jH pj []).getD j 0).testBit i=true->X i=true:=AZ Wv G4 j JL xz
     have post:∀ k,k<ops.size->X k=true->((jH pj []).getD k 0).testBit j=false:=by
       intro k hk BC
       cases hb:((jH pj []).getD k 0).testBit j with
       | false=>rfl
       | true=>have:=AZ Wv G4 k hk (G4 k hk BC) j hb;simp [Yt] at this
     -- the operation
     have xC:∃ vo,vs[j]? = some vo/\xd P ops o=some vo:=by
       have hjv:j<vs.length:=by omega
       obtain ⟨o',h3,h4⟩:=mapM_some_get Lg j vs[j] (by simp [hjv])
       have:o'=o:=by
         have h5:ops.toList[j]? = some o:=by simpa using ho
         rw [h5] at h3;simpa using h3.symm
       subst this
       exact ⟨vs[j],by simp [hjv],h4⟩
     obtain ⟨vo,Cv,xC⟩:=xC
     obtain ⟨BX,Ps⟩:=GZ xC
     have hrj:j<rs.length:=by omega
     obtain ⟨r,hr⟩:∃ r,rs[j]? = some r:=⟨rs[j],by simp [hrj]⟩
     have hsc:=pK j vo r Cv hr
     rw [Nat.zero_add] at hsc
     -- a slot that it names
     have slot:∀ s∈vo.names,(eT X L 0 t0)[s]? = (eT (fun m=>m<j) L 0 t0)[s]? := by
       intro s hs
       refine qN L 0 t0 t0 rfl ?_
       intro k d r' hk bY hds
       rw [Nat.zero_add] at bY
       obtain ⟨ok,h3,h4,h5⟩:=(Li k d r').1 hk
       subst hds
       have Tq:k<ops.size:=by have:=(List.getElem?_eq_some_iff.1 h3).1;omega
       rcases Nat.lt_trichotomy k j with rk | rfl | Zb
       . have BC:X k=false:=by
           cases hh:X k with
           | false=>rfl
           | true=>simp [hh,rk] at bY
         have hc:AU ok vo=true:=by unfold AU;simp [h4,hs]
         have:=pre k (uP k j ok vo rk h3 Cv hc)
         simp [BC] at this
       . simp [Yt] at bY
       . have BC:X k=true:=by
           cases hh:X k with
           | true=>rfl
           | false=>simp [hh,Nat.not_lt.2 (Nat.le_of_lt Zb)] at bY
         have hc:AU vo ok=true:=by unfold AU;simp [h4,hs]
         have:=uP j k vo ok Zb Cv h3 hc
         rw [post k Tq BC] at this
         simp at this
     have acK:vo.op.map (aV.ev G (eT X L 0 t0))=vo.op.map (aV.ev G (eT (fun m=>m<j) L 0 t0)):=by
       refine gB.map_congr _ fun x hx=>Pt x fun s hs=>slot s ?_
       unfold bu.names
       exact List.mem_append_left _ (List.mem_filterMap.2 ⟨x,hx,hs⟩)
     have Vk:eS (eT X L 0 t0) vo.guard=eS (eT (fun m=>m<j) L 0 t0) vo.guard:=by
       cases hg:vo.guard with
       | none=>rfl
       | some q =>
         obtain ⟨s,want⟩:=q
         have:=slot s (by unfold bu.names;simp [hg])
         simp only [eS,this]
     have M1:∀ id∈r.rd,gv X L 0 σ0 id=gv (fun m=>m<j) L 0 σ0 id:=by
       intro id hid
       refine qO L 0 σ0 σ0 rfl ?_
       intro k d r' hk bY vp
       rw [Nat.zero_add] at bY
       obtain ⟨ok,h3,h4,h5⟩:=(Li k d r').1 hk
       have Tq:k<ops.size:=by have:=(List.getElem?_eq_some_iff.1 h3).1;omega
       have Ww:ok.op.pure=false:=Lj k ok r' h3 h5 (.inr (by intro e;simp [e] at vp))
       have hpj:vo.op.pure=false:=Lj j vo r Cv hr (.inl (by intro e;simp [e] at hid))
       have Wx:ok.op.re=false:=Pv k ok r' h3 h5 (by intro e;simp [e] at vp)
       obtain ⟨x,hx,rfl⟩:=List.mem_map.1 vp
       rcases Nat.lt_trichotomy k j with rk | rfl | Zb
       . have BC:X k=false:=by
           cases hh:X k with
           | false=>rfl
           | true=>simp [hh,rk] at bY
         have hb:((jH pj []).getD j 0).testBit k=false:=by
           cases hb:((jH pj []).getD j 0).testBit k with
           | false=>rfl
           | true=>have:=pre k hb;simp [BC] at this
         exact ((yt k j ok vo rk h3 Cv Ww hpj (by simp [Wx]) hb r' r h5 hr).1 x hx).1 hid
       . simp [Yt] at bY
       . have BC:X k=true:=by
           cases hh:X k with
           | true=>rfl
           | false=>simp [hh,Nat.not_lt.2 (Nat.le_of_lt Zb)] at bY
         exact (yt j k vo ok Zb Cv h3 hpj Ww (by simp [Wx]) (post k Tq BC) r r' hr h5).2 x hx hid
     -- behind it
     generalize hX':(fun i=>if i=j then true else X i)=X' at *
     have S1:∀ i,X' i=if i=j then true else X i:=fun i=>by rw [<- hX']
     have later:∀ (k:Nat) (d:Option Nat) (r':dQ),L[k]? = some (d,r')->j<k->X' k=true->∃ ok:bu,vs[k]? = some ok/\ok.dst=d/\rs[k]? = some r'/\k<ops.size/\X k=true:=by
       intro k d r' hk rk BC
       obtain ⟨ok,h3,h4,h5⟩:=(Li k d r').1 hk
       refine ⟨ok,h3,h4,h5,by have:=(List.getElem?_eq_some_iff.1 h3).1;omega, ?_⟩
       rw [S1] at BC
       simpa [show k≠j from by omega] using BC
     have hLj:L[j]? = some (vo.dst,r):=(Li j _ _).2 ⟨vo,Cv,rfl,hr⟩
     have tEq:fK (eT X L 0 t0) vo.dst r.val=eT X' L 0 t0:=by
       apply List.ext_getElem?
       intro s
       rw [sn]
       by_cases hd:vo.dst=some s
       . rw [if_pos hd]
         rw [Cq L 0 j t0 (by rw [hLj,hd]) (by rw [Nat.zero_add,S1];simp) ?_,Er]
         intro k d r' hk rk BC hds
         rw [Nat.zero_add] at BC
         obtain ⟨ok,h3,h4,h5,Tq,Wy⟩:=later k d r' hk rk BC
         have hc:AU vo ok=true:=by unfold AU;simp [hd,h4,hds]
         have:=uP j k vo ok rk Cv h3 hc
         rw [post k Tq Wy] at this
         simp at this
       . rw [if_neg hd]
         refine qN L 0 t0 t0 rfl ?_
         intro k d r' hk bY
         rw [Nat.zero_add,S1] at bY
         have Yu:k=j:=by
           apply Classical.byContradiction;intro h;simp [h] at bY
         subst Yu
         rw [hLj] at hk
         simp only [Option.some.injEq,Prod.mk.injEq] at hk
         rw [<- hk.1];exact hd
     have sEq:(gv X L 0 σ0).app r.up=gv X' L 0 σ0:=by
       funext id
       by_cases vp:id∈r.up.map (·.1)
       . symm
         refine Cr L 0 j σ0 hLj (by rw [Nat.zero_add,S1];simp) vp ?_
         intro k d r' hk rk BC Zc
         rw [Nat.zero_add] at BC
         obtain ⟨ok,h3,h4,h5,Tq,Wy⟩:=later k d r' hk rk BC
         have Ww:ok.op.pure=false:=Lj k ok r' h3 h5 (.inr (by intro e;simp [e] at Zc))
         have hpj:vo.op.pure=false:=Lj j vo r Cv hr (.inr (by intro e;simp [e] at vp))
         have hlj:vo.op.re=false:=Pv j vo r Cv hr (by intro e;simp [e] at vp)
         obtain ⟨x,hx,rfl⟩:=List.mem_map.1 vp
         exact ((yt j k vo ok rk Cv h3 hpj Ww (by simp [hlj]) (post k Tq Wy) r r' hr h5).1 x hx).2 Zc
       . rw [aa.wA vp]
         refine qO L 0 σ0 σ0 rfl ?_
         intro k d r' hk bY
         rw [Nat.zero_add,S1] at bY
         have Yu:k=j:=by
           apply Classical.byContradiction;intro h;simp [h] at bY
         subst Yu
         rw [hLj] at hk
         simp only [Option.some.injEq,Prod.mk.injEq] at hk
         rw [<- hk.2];exact vp
     -- going on
     have hXl:∀ i,(listed.setIfInBounds j true).getD i false=X' i:=by
       intro i
       rw [S1]
       by_cases e:i=j
       . subst e
         rw [Array.getD_eq_getD_getElem?]
         simp [xD,JL]
       . rw [if_neg e,getD_set_ne false (fun h=>e h.symm),hXd]
     have go : ∀ (a':Act) (E':Env) (w':World),cw E' w' (eT X' L 0 t0) a'->Inv G own E' w' (gv X' L 0 σ0)->kD own π E E' w w'->(∀ i:Id, ¬ ((base+j) :: π) <:+ i->E'.μ i=E.μ i)->a'.defers=a.defers ->
         wpAny P .any ops Q fuel (listed.setIfInBounds j true) a' w':=by
       intro a' E' w' Tc jf gu Tw Y5
       have FN:(fun i=>(listed.setIfInBounds j true).getD i false)=X':=funext hXl
       refine ih _ a' E' w' (by simpa using xD) ?_ ?_ ?_
       . rw [FN]
         have:=Ew (X:=X) (Y:=X') (i:=j) Yt (by rw [S1];simp) (fun k hk=>by rw [S1];split<;>simp [hk]) (List.range ops.size) (List.mem_range.2 JL)
         omega
       . intro k hk BC e he
         rw [hXl] at BC ⊢
         rw [S1] at BC ⊢
         split
         . rfl
         . by_cases Yu:k=j
           . subst Yu;exact xz e he
           . rw [if_neg Yu] at BC
             exact G4 k hk BC e he
       . rw [FN]
         refine ⟨Tc,jf,hm.Ce.trans gu, ?_, ?_,Y5.trans hm.defers⟩
         . intro i hi hxi j'
           rw [S1] at hxi
           have J1:i≠j:=by rintro rfl;simp at hxi
           rw [if_neg J1] at hxi
           intro BZ
           rw [Tw _ (G1 BZ (by omega))]
           exact hm.free i hi hxi j' BZ
         . intro j' BZ hq
           rw [Tw _ (hq (base+j) (by omega))]
           exact hm.more j' BZ hq
     unfold wpOp
     rw [ho]
     simp only []
     rcases hsc with ⟨J2,rfl⟩ | ⟨uF,hsr⟩
     . rw [tk xC hm.frame (Vk.trans J2)]
       simp only [Bool.false_eq_true,if_false]
       refine go _ E w ?_ ?_ (kD.refl own π E w) (fun _ _=>rfl) (qP _ _ _)
       . rw [<- tEq, <- Ps];exact Et hm.frame _
       . rw [<- sEq];exact hm.inv
     . rw [tk xC hm.frame (Vk.trans uF)]
       simp only [if_true]
       left
       rw [<- acK] at hsr
       refine Cp hm.inv (hm.free j JL Yt) hm.frame BX (DZ hsr M1) ?_
       intro v w' E' hp
       refine go _ E' w' ?_ ?_ hp.Y4 hp.ids (qP _ _ _)
       . rw [<- tEq, <- Ps];exact hp.frame hm.frame _
       . rw [<- sEq];exact hp.inv
end
end Go.VL
end

section
namespace Go.VL
inductive cH where
 | normal
 | exit (id:Nat)
 | ret
def cH.real:cH->Exit
 | .normal => .normal
 | .exit id => .exit id
 | .ret => .ret
structure VS where
 t:List AV
 σ : aa
 n:Nat
structure jh (G:Nat->Option (List AV)) (π : Id) (own:Nat->Prop) (E:Env) (w:World) (s:VS) (a:Act):Prop where
 frame:cw E w s.t a
 inv:Inv G own E w s.σ
 free:xB E π s.n
 defers:a.defers=[]
def Wk (G:Nat->Option (List AV)) (π : Id) (s s':VS):Prop:=∀ own E w a,jh G π own E w s a->∃ E',kD own π E E' w w/\jh G π own E' w s' a
def VW (P:Program) (G:Nat->Option (List AV)) (π : Id) (vc:b8) (Q:cH->VS->Prop) (s:VS):Prop :=
 ∀ c,eF P c=some vc->∀ own E w a (R:Exit->Act->World->Prop),jh G π own E w s a ->
   (∀ e s' E' w' a',Q e s'->kD own π E E' w w'->jh G π own E' w' s' a'->R e.real a' w')->c.wp P R a w
section
variable {P:Program} {G:Nat->Option (List AV)} {π : Id} {Q:cH->VS->Prop} {s:VS}
theorem Wk.refl (G:Nat->Option (List AV)) (π : Id) (s:VS):Wk G π s s:=fun own E w _ h=>⟨E,kD.refl own π E w,h⟩
theorem Wk.trans {s s' Yv:VS} (h:Wk G π s s') (k:Wk G π s' Yv):Wk G π s Yv:=fun own E w a hm=>by
 obtain ⟨E1,a1,m1⟩:=h own E w a hm
 obtain ⟨E2,a2,m2⟩:=k own E1 w a m1
 exact ⟨E2,a1.trans a2,m2⟩
theorem VW.wk {vc:b8} {s':VS} (h:Wk G π s s') (k:VW P G π vc Q s'):VW P G π vc Q s:=by
 intro c hc own E w a R hm hR
 obtain ⟨E1,a1,m1⟩:=h own E w a hm
 exact k c hc own E1 w a R m1 fun e s2 E2 w2 a2 hq ad mm=>hR e s2 E2 w2 a2 hq (a1.trans ad) mm
theorem VW.mono {vc:b8} {Q':cH->VS->Prop} (h:VW P G π vc Q s) (hq:∀ e s,Q e s->Q' e s):VW P G π vc Q' s :=
 fun c hc own E w a R hm hR=>h c hc own E w a R hm fun e s2 E2 w2 a2 Nk=>hR e s2 E2 w2 a2 (hq e s2 Nk)
theorem VW.skip (h:Q .normal s):VW P G π .skip Q s:=by
 intro c hc own E w a R hm hR
 cases c<;>simp only [eF,Option.some.injEq,reduceCtorEq] at hc
 . exact wp_skip (hR .normal s E w a h (kD.refl own π E w) hm)
 . exfalso;revert hc;unfold lH;(repeat' split)<;>simp
 all_goals (exfalso;revert hc;(repeat' split)<;>simp)
theorem yw {c:Code} {ps:Option (List (Nat × Nat))} {vs:List bu} (hc:eF P c=some (.reg ps vs)):∃ id ops draw,c = .region id ops draw/\ops.toList.mapM (xd P ops)=some vs /\
   ((draw=false/\ps=none)∨(draw=true/\ps=some (wv vs (ops.toList.map xe))/\BV vs (ops.toList.map xe)=true/\P.follows .mixedOrders=true)):=by
 cases c with
 | region id ops draw =>
   simp only [eF,lH] at hc
   cases hm:ops.toList.mapM (xd P ops) with
   | none=>simp [hm] at hc
   | some vs' =>
     simp only [hm] at hc
     split at hc
     . rename_i hd
       split at hc
       . rename_i ho
         simp only [Option.some.injEq,b8.reg.injEq] at hc
         obtain ⟨rfl,rfl⟩:=hc
         simp only [Bool.and_eq_true] at ho
         exact ⟨id,ops,draw,rfl,hm, .inr ⟨hd,rfl,ho.1,ho.2⟩⟩
       . simp at hc
     . rename_i hd
       simp only [Option.some.injEq,b8.reg.injEq] at hc
       obtain ⟨rfl,rfl⟩:=hc
       exact ⟨id,ops,draw,rfl,hm, .inl ⟨by simpa using hd,rfl⟩⟩
 | _=>exfalso;revert hc;simp only [eF];(repeat' split)<;>simp
theorem VW.Pw {vs:List bu} (h:yp P G π s.n (fun t σ => Q .normal ⟨t, σ,s.n+vs.length⟩) vs 0 s.t s.σ):VW P G π (.reg none vs) Q s:=by
 intro c hc own E w a R hm hR
 obtain ⟨id,ops,draw,rfl,Lg,SX⟩:=yw hc
 have hd:draw=false:=by
   rcases SX with ⟨h,_⟩ | ⟨_,h,_⟩
   . exact h
   . simp at h
 subst hd
 have hl:ops.toList.length=vs.length:=(gR Lg).symm
 refine wp_region ?_
 have:=Ct (P:=P) (G:=G) (own:=own) (ops:=ops) (Q:=R) ops.toList 0 (fun k=>by simp) vs Lg s.t s.σ a E w h hm.frame hm.inv hm.free (by
   intro t' σ' a' E' w' hk gu hf hi DQ Y5
   refine hR .normal ⟨t', σ',s.n+vs.length⟩ E' w' a' hk gu ⟨hf,hi,by have h:=DQ;simp only [Nat.add_zero,hl] at h;exact h,Y5.trans hm.defers⟩)
 rw [List.range_eq_range']
 simpa using this
theorem VW.Px {ps:List (Nat × Nat)} {vs:List bu} (h:yq P G π s.n (fun rs t σ => ar rs ps/\Q .normal ⟨t, σ,s.n+vs.length⟩) vs 0 [] s.t s.σ):VW P G π (.reg (some ps) vs) Q s:=by
 intro c hc own E w a R hm hR
 obtain ⟨id,ops,draw,rfl,Lg,SX⟩:=yw hc
 rcases SX with ⟨_,h2⟩ | ⟨hd,JE,Pu,FG⟩
 . simp at h2
 . subst hd
   simp only [Option.some.injEq] at JE
   have hl:vs.length=ops.size:=by have:=gR Lg;simpa using this
   obtain ⟨rs,Y6,pK,zJ,hq⟩:=Es h
   refine wp_region_any FG ?_
   have Wz:Mid G π own ((vs.map (·.dst)).zip rs) s.n ops.size s.t s.σ a E w (fun i=>(Array.replicate ops.size false).getD i false) E w.drew a:=by
     have hX:∀ i,(Array.replicate ops.size false).getD i false=false:=by intro i;rw [Array.getD_eq_getD_getElem?];simp [Array.getElem?_replicate];split<;>rfl
     have e1:eT (fun i=>(Array.replicate ops.size false).getD i false) ((vs.map (·.dst)).zip rs) 0 s.t=s.t:=rh _ _ _ fun k _=>hX _
     have e2:gv (fun i=>(Array.replicate ops.size false).getD i false) ((vs.map (·.dst)).zip rs) 0 s.σ = s.σ := ri _ _ _ fun k _=>hX _
     exact ⟨by rw [e1];exact hm.frame.keep (Adv.drew (own:=own) E w).step,by rw [e2];exact hm.inv.drew,⟨Adv.drew E w,fun _ _=>rfl⟩,fun i _ _ j hj=>hm.free.at (by omega) hj,hm.free.mono (by omega),rfl⟩
   refine Nj Lg Pu Y6 pK (by rw [<- JE];simpa using zJ) (Q:=R) (a0:=a) (E0:=E) (w0:=w) ?_ ops.size (Array.replicate ops.size false) a E w.drew (by simp) (by simp) ?_ Wz
   . intro a' E' w' Zd
     refine hR .normal _ E' w' a' hq Zd.Ce ⟨Zd.frame,Zd.inv,by rw [hl];exact Zd.more,Zd.defers.trans hm.defers⟩
   . intro k hk hx
     rw [Array.getD_eq_getD_getElem?] at hx
     simp [hk] at hx
theorem VW.seq {x y:b8} (h:VW P G π x (fun e s'=>match e with | .normal=>VW P G π y Q s' | e=>Q e s') s):VW P G π (.seq x y) Q s:=by
 intro c hc own E w a R hm hR
 cases c<;>simp only [eF,Option.some.injEq,reduceCtorEq] at hc
 case seq ca cb =>
   cases h1:eF P ca with
   | none=>simp [h1] at hc
   | some va =>
   cases h2:eF P cb with
   | none=>simp [h1,h2] at hc
   | some vb =>
     simp only [h1,h2,Option.some.injEq,b8.seq.injEq] at hc
     obtain ⟨rfl,rfl⟩:=hc
     refine wp_seq (h ca h1 own E w a _ hm ?_)
     intro e s' E' w' a' hq gu sc
     cases e with
     | normal=>exact hq cb h2 own E' w' a' R sc fun e2 s2 E2 w2 a2 Nk Nl mm2=>hR e2 s2 E2 w2 a2 Nk (gu.trans Nl) mm2
     | exit id=>exact hR (.exit id) s' E' w' a' hq gu sc
     | ret=>exact hR .ret s' E' w' a' hq gu sc
 case region=>exfalso;revert hc;unfold lH;(repeat' split)<;>simp
 all_goals (exfalso;revert hc;(repeat' split)<;>simp)
theorem VW.cond {vc:aV} {x y:b8} {b:Bool} (hb:vc.ev G s.t = .bool b) (h:if b then VW P G π x Q s else VW P G π y Q s):VW P G π (.cond vc x y) Q s:=by
 intro c hc own E w a R hm hR
 cases c<;>simp only [eF,Option.some.injEq,reduceCtorEq] at hc
 case cond cc ca cb =>
   cases h0:cP cc with
   | none=>simp [h0] at hc
   | some vcc =>
   cases h1:eF P ca with
   | none=>simp [h0,h1] at hc
   | some va =>
   cases h2:eF P cb with
   | none=>simp [h0,h1,h2] at hc
   | some vb =>
     simp only [h0,h1,h2,Option.some.injEq,b8.cond.injEq] at hc
     obtain ⟨rfl,rfl,rfl⟩:=hc
     have hr:=a7 hm.frame hm.inv h0
     rw [hb] at hr
     simp only [aM] at hr
     refine wp_cond hr ?_
     cases b with
     | true=>simp only [if_true] at h ⊢;exact h ca h1 own E w a R hm hR
     | false=>simp only [Bool.false_eq_true,if_false] at h ⊢;exact h cb h2 own E w a R hm hR
 case region=>exfalso;revert hc;unfold lH;(repeat' split)<;>simp
 all_goals (exfalso;revert hc;(repeat' split)<;>simp)
theorem VW.Tx {vc:aV} {x y:b8} (hb:vc.ev G s.t = .anyb) (h1:VW P G π x Q s) (h2:VW P G π y Q s):VW P G π (.cond vc x y) Q s:=by
 intro c hc own E w a R hm hR
 cases c<;>simp only [eF,Option.some.injEq,reduceCtorEq] at hc
 case cond cc ca cb =>
   cases h0:cP cc with
   | none=>simp [h0] at hc
   | some vcc =>
   cases h3:eF P ca with
   | none=>simp [h0,h3] at hc
   | some va =>
   cases h4:eF P cb with
   | none=>simp [h0,h3,h4] at hc
   | some vb =>
     simp only [h0,h3,h4,Option.some.injEq,b8.cond.injEq] at hc
     obtain ⟨rfl,rfl,rfl⟩:=hc
     have hr:=a7 hm.frame hm.inv h0
     rw [hb] at hr
     simp only [aM] at hr
     obtain ⟨b,hr⟩:=hr
     refine wp_cond hr ?_
     cases b with
     | true=>exact h1 ca h3 own E w a R hm hR
     | false=>exact h2 cb h4 own E w a R hm hR
 case region=>exfalso;revert hc;unfold lH;(repeat' split)<;>simp
 all_goals (exfalso;revert hc;(repeat' split)<;>simp)
theorem VW.block {id:Nat} {x:b8} (h:VW P G π x (fun e s'=>match e with | .exit i=>if i=id then Q .normal s' else Q (.exit i) s' | e=>Q e s') s):VW P G π (.block id x) Q s:=by
 intro c hc own E w a R hm hR
 cases c<;>simp only [eF,Option.some.injEq,reduceCtorEq] at hc
 case block i cb =>
   cases h1:eF P cb with
   | none=>simp [h1] at hc
   | some vb =>
     simp only [h1,Option.map_some,Option.some.injEq,b8.block.injEq] at hc
     obtain ⟨rfl,rfl⟩:=hc
     refine wp_block (h cb h1 own E w a _ hm ?_)
     intro e s' E' w' a' hq gu sc
     cases e with
     | normal=>exact hR .normal s' E' w' a' hq gu sc
     | exit j =>
       simp only [cH.real,Exit.inBlock]
       split
       . rename_i hj;simp only [hj,if_true] at hq;exact hR .normal s' E' w' a' hq gu sc
       . rename_i hj;simp only [hj,if_false] at hq;exact hR (.exit j) s' E' w' a' hq gu sc
     | ret=>exact hR .ret s' E' w' a' hq gu sc
 case region=>exfalso;revert hc;unfold lH;(repeat' split)<;>simp
 all_goals (exfalso;revert hc;(repeat' split)<;>simp)
theorem VW.exit {id:Nat} (h:Q (.exit id) s):VW P G π (.exit id) Q s:=by
 intro c hc own E w a R hm hR
 cases c<;>simp only [eF,Option.some.injEq,reduceCtorEq] at hc
 case exit i =>
   simp only [b8.exit.injEq] at hc;subst hc
   exact wp_exit (hR (.exit i) s E w a h (kD.refl own π E w) hm)
 case region=>exfalso;revert hc;unfold lH;(repeat' split)<;>simp
 all_goals (exfalso;revert hc;(repeat' split)<;>simp)
theorem VW.ret (h:Q .ret s):VW P G π .ret Q s:=by
 intro c hc own E w a R hm hR
 cases c<;>simp only [eF,Option.some.injEq,reduceCtorEq] at hc
 case ret=>exact wp_ret (hR .ret s E w a h (kD.refl own π E w) hm)
 case region=>exfalso;revert hc;unfold lH;(repeat' split)<;>simp
 all_goals (exfalso;revert hc;(repeat' split)<;>simp)
theorem vv {α : Type} {c:Code} {R:Exit->Act->World->Prop} (I : α -> Act->World->Prop) (μ : α -> Nat) {x : α} {a:Act} {w:World} (h₀:I x a w)
   (round:∀ x a w,I x a w->c.wp P (Exit.then (fun a' w'=>∃ x',I x' a' w' /\ μ x' < μ x) R) a w):(Code.loop c).wp P R a w:=by
 intro b k cs
 have key:∀ n x a w, μ x=n->I x a w ->
     ∃ e a' w',R e a' w'/\Arrives P (lone (b.at a (.code c :: .inLoop c::k)) cs w) b k cs e a' w':=by
   intro n
   induction n using Nat.strongRecOn with
   | _ n ih =>
     intro x a w hn hI
     obtain ⟨e,a₁,w₁,hq,G5⟩:=round x a w hI b (.inLoop c::k) cs
     cases e with
     | normal =>
       obtain ⟨x₁,Ze,aN⟩:=hq
       obtain ⟨e₂,a₂,w₂,Zf,Ty⟩:=ih (μ x₁) (hn▸aN) x₁ a₁ w₁ rfl Ze
       exact ⟨e₂,a₂,w₂,Zf, .of_steps (Steps.trans G5 (.one step_inLoop)) Ty⟩
     | exit id=>exact ⟨_,a₁,w₁,hq, .pass (x := .inLoop c) rfl (fun _ _ => .inl (by simp)) G5⟩
     | goto l=>exact ⟨_,a₁,w₁,hq, .pass (x := .inLoop c) rfl (fun _ _ => .inl (by simp)) G5⟩
     | ret=>exact ⟨_,a₁,w₁,hq, .pass (x := .inLoop c) rfl (fun _ _ => .inl (by simp)) G5⟩
     | panic ch=>exact ⟨_,a₁,w₁,hq, .pass (x := .inLoop c) rfl (fun _ _ => .inl (by simp)) G5⟩
     | outgrown=>exact ⟨_,a₁,w₁,hq, .pass (x := .inLoop c) rfl (fun _ _ => .inl (by simp)) G5⟩
 obtain ⟨e,a',w',hq,G5⟩:=key _ x a w rfl h₀
 exact ⟨e,a',w',hq, .of_steps (.one step_loop) G5⟩
theorem VW.loop {x:b8} (I:VS->Prop) (m:VS->Nat) (h0:∃ s',Wk G π s s'/\I s')
   (h:∀ s,I s->VW P G π x (fun e s'=>match e with | .normal=>∃ Yv,Wk G π s' Yv/\I Yv/\m Yv<m s | e=>Q e s') s):VW P G π (.loop x) Q s:=by
 obtain ⟨s1,uF,hI1⟩:=h0
 refine VW.wk uF ?_
 intro c hc own E w a R hm hR
 cases c<;>simp only [eF,Option.some.injEq,reduceCtorEq] at hc
 case loop cb =>
   cases h1:eF P cb with
   | none=>simp [h1] at hc
   | some vb =>
     simp only [h1,Option.map_some,Option.some.injEq,b8.loop.injEq] at hc
     subst hc
     refine vv (α := VS) (fun s' a' w'=>I s'/\∃ E',kD own π E E' w w'/\jh G π own E' w' s' a') m (x:=s1) ⟨hI1,E,kD.refl own π E w,hm⟩ ?_
     rintro s2 a2 w2 ⟨Tz,E2,Nl,tc⟩
     refine h s2 Tz cb h1 own E2 w2 a2 _ tc ?_
     intro e s' E' w' a' hq gu sc
     cases e with
     | normal =>
       obtain ⟨s3,WA,Zg,aN⟩:=hq
       obtain ⟨E3,Zh,Zi⟩:=WA own E' w' a' sc
       exact ⟨s3,⟨Zg,E3,(Nl.trans gu).trans Zh,Zi⟩,aN⟩
     | exit id=>exact hR (.exit id) s' E' w' a' hq (Nl.trans gu) sc
     | ret=>exact hR .ret s' E' w' a' hq (Nl.trans gu) sc
 case region=>exfalso;revert hc;unfold lH;(repeat' split)<;>simp
 all_goals (exfalso;revert hc;(repeat' split)<;>simp)
def BD (k:VS->Prop) (Q:cH->VS->Prop):cH->VS->Prop
 | .normal,s=>k s
 | .exit i,s=>Q (.exit i) s
 | .ret,s=>Q .ret s
def Nn (id:Nat) (Q:cH->VS->Prop):cH->VS->Prop
 | .normal,s=>Q .normal s
 | .exit i,s=>if i=id then Q .normal s else Q (.exit i) s
 | .ret,s=>Q .ret s
theorem qQ (k:VS->Prop) (Q:cH->VS->Prop) (s:VS):BD k Q .normal s=k s:=(rfl)
theorem Ex (k:VS->Prop) (Q:cH->VS->Prop) (i:Nat) (s:VS):BD k Q (.exit i) s=Q (.exit i) s:=(rfl)
theorem G6 (k:VS->Prop) (Q:cH->VS->Prop) (s:VS):BD k Q .ret s=Q .ret s:=(rfl)
theorem A2 (id:Nat) (Q:cH->VS->Prop) (s:VS):Nn id Q .normal s=Q .normal s:=(rfl)
theorem wB (id:Nat) (Q:cH->VS->Prop) (i:Nat) (s:VS):Nn id Q (.exit i) s=if i=id then Q .normal s else Q (.exit i) s:=(rfl)
theorem G7 (id:Nat) (Q:cH->VS->Prop) (s:VS):Nn id Q .ret s=Q .ret s:=(rfl)
def sd (P:Program) (G:Nat->Option (List AV)) (π : Id):b8->(cH->VS->Prop)->VS->Prop
 | .skip,Q,s=>Q .normal s
 | .reg none vs,Q,s=>yp P G π s.n (fun t σ => Q .normal ⟨t, σ,s.n+vs.length⟩) vs 0 s.t s.σ
 | .reg (some ps) vs,Q,s=>yq P G π s.n (fun rs t σ => ar rs ps/\Q .normal ⟨t, σ,s.n+vs.length⟩) vs 0 [] s.t s.σ
 | .seq x y,Q,s=>sd P G π x (BD (sd P G π y Q) Q) s
 | .cond c x y,Q,s=>match c.ev G s.t with
   | .bool b=>if b then sd P G π x Q s else sd P G π y Q s
   | .anyb=>sd P G π x Q s/\sd P G π y Q s
   | _=>False
 | .block id x,Q,s=>sd P G π x (Nn id Q) s
 | .loop x,Q,s=>VW P G π (.loop x) Q s
 | .exit id,Q,s=>Q (.exit id) s
 | .ret,Q,s=>Q .ret s
theorem VW.of:∀ {vc:b8} {Q:cH->VS->Prop} {s:VS},sd P G π vc Q s->VW P G π vc Q s
 | .skip,_,_,h=>VW.skip h
 | .reg none _,_,_,h=>VW.Pw h
 | .reg (some _) _,_,_,h=>VW.Px h
 | .seq x y,Q,s,h=>by
   refine VW.seq (VW.mono (VW.of (vc:=x) h) ?_)
   intro e s' hq
   cases e with
   | normal=>exact VW.of (vc:=y) hq
   | exit id=>exact hq
   | ret=>exact hq
 | .cond c x y,Q,s,h=>by
   simp only [sd] at h
   split at h
   . rename_i b hb
     refine VW.cond hb ?_
     cases b with
     | true=>exact VW.of (vc:=x) h
     | false=>exact VW.of (vc:=y) h
   . rename_i hb
     exact VW.Tx hb (VW.of (vc:=x) h.1) (VW.of (vc:=y) h.2)
   . exact h.elim
 | .block id x,Q,s,h=>by
   refine VW.block (VW.mono (VW.of (vc:=x) h) ?_)
   intro e s' hq
   cases e with
   | normal=>exact hq
   | exit i=>exact hq
   | ret=>exact hq
 | .loop x,Q,s,h=>h
 | .exit id,_,_,h=>VW.exit h
 | .ret,_,_,h=>VW.ret h
end
end Go.VL
end

section
namespace Go.VL
section
variable {P:Program} {G:Nat->Option (List AV)} {own:Nat->Prop} {E:Env} {w:World} {σ : aa}
def af (c:AV):Prop:=∀ E w v,aM E w c v->aM E.bare w c v
theorem af.bool (b:Bool):af (.bool b):=fun _ _ _ h=>by simpa [aM] using h
theorem af.int (k:IntKind) (n:Int):af (.int k n):=fun _ _ _ h=>by simpa [aM] using h
theorem af.str (l:List UInt8):af (.str l):=fun _ _ _ h=>by simpa [aM] using h
theorem af.nilp:af .nilp:=fun _ _ _ h=>by simpa [aM] using h
theorem af.nilf:af .nilf:=fun _ _ _ h=>by simpa [aM] using h
theorem af.nils:af .nils:=fun _ _ _ h=>by simpa [aM] using h
theorem af.rl {cs:List AV} (h:∀ c∈cs,af c):∀ {vs:List Value},aO E w cs vs->aO E.bare w cs vs:=by
 induction cs with
 | nil=>intro vs hr;simpa [aO] using hr
 | cons c cs ih =>
   intro vs hr
   simp only [aO] at hr ⊢
   obtain ⟨v,rest,e,h1,h2⟩:=hr
   exact ⟨v,rest,e,h c (by simp) _ _ _ h1,ih (fun x hx=>h x (by simp [hx])) h2⟩
theorem af.A3 {cs:List AV} (h:∀ c∈cs,af c) {b o:Nat} (hr:gQ E w b o cs):gQ E.bare w b o cs :=
 fun j c hj=>let ⟨v,hv,wM⟩:=hr j c hj;⟨v,hv,h c (List.mem_of_getElem? hj) _ _ _ wM⟩
theorem af.agg {cs:List AV} (h:∀ c∈cs,af c):af (.agg cs):=fun E w v hr=>by
 simp only [aM] at hr ⊢;obtain ⟨xs,e,hr⟩:=hr;exact ⟨xs,e,af.rl h hr⟩
theorem af.tup {cs:List AV} (h:∀ c∈cs,af c):af (.tup cs):=fun E w v hr=>by
 simp only [aM] at hr ⊢;obtain ⟨xs,e,hr⟩:=hr;exact ⟨xs,e,af.rl h hr⟩
theorem af.fn {f:Fn} {a c:List AV} (ha:∀ x∈a,af x) (hc:∀ x∈c,af x):af (.fn f a c):=fun E w v hr=>by
 simp only [aM] at hr ⊢;obtain ⟨xs,ys,e,h1,h2⟩:=hr;exact ⟨xs,ys,e,af.rl ha h1,af.rl hc h2⟩
theorem af.sl {k:Nat} {es:List AV} (h:∀ c∈flat es,af c):af (.sl k es):=fun E w v hr=>by
 simp only [aM] at hr ⊢
 obtain ⟨a,cap,e,h1,h2,h3,h4⟩:=hr
 exact ⟨a,cap,e,h1,h2,h3,h4.imp id fun ⟨b,o,ea,hb,hr⟩=>⟨b,o,ea,hb,dJ.2 (af.A3 h (dJ.1 hr))⟩⟩
theorem af.tsl {k:Nat} {es:List AV} (h:∀ c∈flat es,af c):af (.tsl k es):=fun E w v hr=>by
 simp only [aM] at hr ⊢
 obtain ⟨a,e,h2,h3,h4⟩:=hr
 exact ⟨a,e,h2,h3,h4.imp id fun ⟨b,o,ea,hb,hr⟩=>⟨b,o,ea,hb,dJ.2 (af.A3 h (dJ.1 hr))⟩⟩
theorem af.ep {cs:List AV} {o:Nat} (h:∀ c∈cs,af c):af (.ep cs o):=fun E w v hr=>by
 simp only [aM] at hr ⊢
 obtain ⟨b,q,e,hb,hr⟩:=hr
 exact ⟨b,q,e,hb,gA.2 (af.A3 h (gA.1 hr))⟩
def cj (c:AV):Prop:=∀ E w E' w' v,aM E w c v->aM E' w' c v
theorem cj.bool (b:Bool):cj (.bool b):=fun _ _ _ _ _ h=>by simpa [aM] using h
theorem cj.int (k:IntKind) (n:Int):cj (.int k n):=fun _ _ _ _ _ h=>by simpa [aM] using h
theorem cj.str (l:List UInt8):cj (.str l):=fun _ _ _ _ _ h=>by simpa [aM] using h
theorem cj.rl {cs:List AV} (h:∀ c∈cs,cj c) {E E':Env} {w w':World}:∀ {vs:List Value},aO E w cs vs->aO E' w' cs vs:=by
 induction cs with
 | nil=>intro vs hr;simpa [aO] using hr
 | cons c cs ih =>
   intro vs hr
   simp only [aO] at hr ⊢
   obtain ⟨v,rest,e,h1,h2⟩:=hr
   exact ⟨v,rest,e,h c (by simp) _ _ _ _ _ h1,ih (fun x hx=>h x (by simp [hx])) h2⟩
theorem cj.tup {cs:List AV} (h:∀ c∈cs,cj c):cj (.tup cs):=fun _ _ _ _ _ hr=>by
 simp only [aM] at hr ⊢;obtain ⟨xs,e,hr⟩:=hr;exact ⟨xs,e,cj.rl h hr⟩
theorem cj.agg {cs:List AV} (h:∀ c∈cs,cj c):cj (.agg cs):=fun _ _ _ _ _ hr=>by
 simp only [aM] at hr ⊢;obtain ⟨xs,e,hr⟩:=hr;exact ⟨xs,e,cj.rl h hr⟩
def Env.froze (E:Env) (σ : aa):Env:=⟨fun _=>none,fun b=>E.ok b∨∃ id bk k N, σ id=some bk/\E.μ id=some (b,k,N)⟩
def View (σ : aa) (c d:AV):Prop:=∀ G own E w v,Inv G own E w σ -> aM E w c v->aM (E.froze σ) w d v
def aY (σ : aa) (cs ds:List AV):Prop:=cs.length=ds.length/\∀ (j:Nat) (c d:AV),cs[j]? = some c->ds[j]? = some d->View σ c d
theorem Step.froze (E:Env) (σ : aa) (w:World):Step E.bare (E.froze σ) w w:=⟨fun _ _ h=>by simp [Env.bare] at h,fun _ h => .inl h,fun _ _=>rfl⟩
theorem View.pure {c:AV} (h:af c):View σ c c:=fun _ _ E w v _ hr=>aM.keep (Step.froze E σ w) c v (h E w v hr)
theorem aY.pure {cs:List AV} (h:∀ c∈cs,af c):aY σ cs cs :=
 ⟨rfl,fun j c d hc hd=>by rw [hc] at hd;simp only [Option.some.injEq] at hd;subst hd;exact View.pure (h c (List.mem_of_getElem? hc))⟩
theorem aY.nil:aY σ [] []:=⟨rfl,by simp⟩
theorem aY.cons {c d:AV} {cs ds:List AV} (h:View σ c d) (hl:aY σ cs ds):aY σ (c::cs) (d::ds) :=
 ⟨by simp [hl.1],fun j x y hx hy=>by
   cases j with
   | zero=>simp at hx hy;subst hx;subst hy;exact h
   | succ j=>exact hl.2 j x y (by simpa using hx) (by simpa using hy)⟩
theorem aY.rl {cs ds:List AV} (h:aY σ cs ds) (hi:Inv G own E w σ) {vs:List Value} (hr:aO E w cs vs):aO (E.froze σ) w ds vs:=by
 obtain ⟨hl,hp⟩:=bC.1 hr
 refine bC.2 ⟨by rw [hl,h.1],fun j d hd => ?_⟩
 have hj:j<cs.length:=by rw [h.1];exact (List.getElem?_eq_some_iff.1 hd).1
 obtain ⟨v,hv,wM⟩:=hp j cs[j] (by simp [hj])
 exact ⟨v,hv,h.2 j _ d (by simp [hj]) hd G own E w v hi wM⟩
theorem aY.A3 {cs ds:List AV} (h:aY σ cs ds) (hi:Inv G own E w σ) {b o:Nat} (hr:gQ E w b o cs):gQ (E.froze σ) w b o ds:=by
 intro j d hd
 have hj:j<cs.length:=by rw [h.1];exact (List.getElem?_eq_some_iff.1 hd).1
 obtain ⟨v,hv,wM⟩:=hr j cs[j] (by simp [hj])
 exact ⟨v,hv,h.2 j _ d (by simp [hj]) hd G own E w v hi wM⟩
theorem View.agg {cs ds:List AV} (h:aY σ cs ds):View σ (.agg cs) (.agg ds):=fun G own E w v hi hr=>by
 simp only [aM] at hr ⊢;obtain ⟨xs,e,hr⟩:=hr;exact ⟨xs,e,h.rl hi hr⟩
theorem View.tup {cs ds:List AV} (h:aY σ cs ds):View σ (.tup cs) (.tup ds):=fun G own E w v hi hr=>by
 simp only [aM] at hr ⊢;obtain ⟨xs,e,hr⟩:=hr;exact ⟨xs,e,h.rl hi hr⟩
theorem View.nils (k:Nat):View σ .nils (.sl k []):=fun G own E w v hi hr=>by
 simp only [aM] at hr ⊢;exact ⟨none,0,hr,Nat.le_refl _,Nat.zero_le _,by simp, .inl trivial⟩
theorem View.Py (k:Nat):View σ (.tsl k []) (.sl k []):=fun G own E w v hi hr=>by
 simp only [aM] at hr ⊢
 obtain ⟨a,e,_⟩:=hr
 exact ⟨a,0,e,Nat.le_refl _,Nat.zero_le _,by simp, .inl trivial⟩
theorem View.sl {k:Nat} {es ds:List AV} (h:aY σ (flat es) (flat ds)) (hl:es.length=ds.length) (hk:∀ d∈ds,d.size=k):View σ (.sl k es) (.sl k ds):=fun G own E w v hi hr=>by
 simp only [aM] at hr ⊢
 obtain ⟨a,cap,e,h1,h2,h3,h4⟩:=hr
 refine ⟨a,cap,by rw [<- hl];exact e,by rw [<- hl];exact h1,h2,hk, ?_⟩
 rcases h4 with h4 | ⟨b,o,ea,hb,hr⟩
 . left;subst h4;simpa using hl.symm
 . right;exact ⟨b,o,ea, .inl hb,dJ.2 (h.A3 hi (dJ.1 hr))⟩
theorem View.tsl {k:Nat} {es ds:List AV} (h:aY σ (flat es) (flat ds)) (hl:es.length=ds.length) (hk:∀ d∈ds,d.size=k):View σ (.tsl k es) (.sl k ds):=fun G own E w v hi hr=>by
 simp only [aM] at hr ⊢
 obtain ⟨a,e,h2,h3,h4⟩:=hr
 refine ⟨a,es.length,by rw [<- hl];exact e,by rw [<- hl];exact Nat.le_refl _,h2,hk, ?_⟩
 rcases h4 with h4 | ⟨b,o,ea,hb,hr⟩
 . left;subst h4;simpa using hl.symm
 . right;exact ⟨b,o,ea, .inl hb,dJ.2 (h.A3 hi (dJ.1 hr))⟩
theorem View.osl {id:Id} {bk:dF} {k off len:Nat} {t:Bool} {ds:List AV} (hσ : σ id=some bk) (hk:bk.k=k) (hle:off+len<=bk.els.length)
   (h:aY σ (flat ((bk.els.drop off).take len)) (flat ds)) (hl:ds.length=len) (hkd:∀ d∈ds,d.size=k):View σ (.osl id k off len t) (.sl k ds):=fun G own E w v hi hr=>by
 obtain ⟨g,N,cur,ty,hB⟩:=hi.blk id bk hσ
 simp only [aM] at hr ⊢
 obtain ⟨g',N',cap,hm,e,h1,h2,h3,_⟩:=hr
 rw [hB.μ] at hm
 simp only [Option.some.injEq,Prod.mk.injEq] at hm
 obtain ⟨rfl,_,rfl⟩:=hm
 refine ⟨_,cap,by rw [hl];exact e,by rw [hl];exact h1,by omega,hkd, .inr ⟨g,off*k,rfl, .inr ⟨id,bk,bk.k,N,hσ,hB.μ⟩, ?_⟩⟩
 refine dJ.2 (h.A3 hi ?_)
 have:=pD (l:=off) (r:=off+len) hB.k hB.row (by omega) hle
 rw [Nat.zero_add,hk] at this
 have e2:(bk.els.take (off+len)).drop off=(bk.els.drop off).take len:=by rw [List.drop_take];congr 1;omega
 rwa [e2] at this
def VP (P:Program) (G:Nat->Option (List AV)) (f:FuncId) (args:List AV) (r:AV):Prop :=
 (∃ fn,P.funcs[f]? = some fn/\(fn.name == "runtime.NumGoroutine")=false/\fn.body.isSome=true) /\
 ∀ w vs ok,Inv G (fun k=>w.heap.size<=k) ⟨fun _=>none,ok⟩ w (fun _=>none)->aO ⟨fun _=>none,ok⟩ w args vs ->
   Calls P f vs.toArray w fun e w'=>∃ v GD,e = .returned v/\Adv (fun k=>w.heap.size<=k) ⟨fun _=>none,ok⟩ ⟨fun _=>none,GD⟩ w w'/\(∀ b,GD b->b<w'.heap.size)/\aM ⟨fun _=>none,GD⟩ w' r v
theorem aB.Pz {f:FuncId} {args:List AV} {r:AV} (h:VP P G f args r) (hp:∀ c∈args,af c) (p:Id):aB P G f args p [] { val:=r }:=by
 refine ⟨h.1,fun own E w σ vs _ hi hr hμ => ?_⟩
 have WB:Inv G (fun k=>w.heap.size<=k) ⟨fun _=>none,E.ok⟩ w (fun _=>none):=⟨hi.okb,fun id bk h=>by simp at h,fun i j x y h=>absurd rfl h,hi.glob,fun k hk=>hk⟩
 refine (h.2 w vs E.ok WB (af.rl hp hr)).mono fun e w' he => ?_
 obtain ⟨v,GD,rfl,gu,ml,hv⟩:=he
 have gr:Adv own E ⟨E.μ,GD⟩ w w' :=
   ⟨⟨fun _ _ h=>h,gu.step.ok,gu.step.same⟩,gu.os,gu.tape,gu.output,gu.size,fun k hk _=>gu.block k hk (by omega),fun b hb=>(gu.Tb b hb).imp id fun h=>hi.new b h⟩
 refine ⟨v,⟨E.μ,GD⟩,rfl,gr, ?_, ?_,fun _ _=>rfl⟩
 . refine hi.keep gr rfl ml fun id bk g N hs hm => ?_
   obtain ⟨g',N',cur,ty,hB⟩:=hi.blk id bk hs
   rw [hB.μ] at hm
   simp only [Option.some.injEq,Prod.mk.injEq] at hm
   obtain ⟨rfl,_,rfl⟩:=hm
   have hg:=dK hB.heap
   exact ⟨gu.block _ hg (by omega),fun hf hb=>(gu.Tb _ hb).elim (hB.no hf) (fun h=>by omega)⟩
 . exact aM.keep (⟨fun _ _ h=>by simp at h,fun _ h=>h,fun _ _=>rfl⟩:Step ⟨fun _=>none,GD⟩ ⟨E.μ,GD⟩ w' w') r v hv
def cy (s:VS):xy->Option AV
 | .tmp t=>some (s.t.getD t (.tup []))
 | .cell x agg n=>(gi s.σ agg n (s.t.getD x (.tup []))).map (·.val)
def bU (rs:List xy) (s:VS):Option AV :=
 match rs.mapM (cy s) with
 | some [v]=>some v
 | some vs=>some (.tup vs)
 | none=>none
theorem G8 {α β : Type} {f : α -> Sem β}:∀ (l:List α) (vs:List β),vs.length=l.length->(∀ (i:Nat) (a : α) (v : β),l[i]? = some a->vs[i]? = some v->(f a).run P w = .ok v w)->(l.mapM f).run P w = .ok vs w
 | [],vs,hl,_=>by
   have:vs=[]:=List.eq_nil_of_length_eq_zero hl
   subst this;rfl
 | a::l,[],hl,_=>by simp at hl
 | a::l,v::vs,hl,h=>by
   have h0:=h 0 a v rfl rfl
   have ih:=G8 l vs (by simpa using hl) (fun i x y hx hy=>h (i+1) x y (by simpa using hx) (by simpa using hy))
   simp [List.mapM_cons,h0,ih]
theorem TA {π : Id} {s:VS} {a:Act} (hm:jh G π own E w s a) {rv:ResultVar} {vr:xy} (hc:O6 P rv=some vr) {c:AV} (h:cy s vr=some c) :
   ∃ v,(match rv with | .tmp t=>(pure (a.tmps.getD t undef):Sem Value) | .cell x t=>do loadVar t (<- asAddr (a.tmps.getD x undef))).run P w = .ok v w/\aM E w c v:=by
 cases rv with
 | tmp t =>
   simp only [O6,Option.some.injEq] at hc;subst hc
   simp only [cy,Option.some.injEq] at h;subst h
   exact ⟨_,rfl,hm.frame.get t⟩
 | cell x t =>
   simp only [O6] at hc
   cases ha:nJ P t with
   | none=>simp [ha] at hc
   | some g =>
   cases Bz:P.info? t with
   | none=>simp [ha,Bz] at hc
   | some i =>
     simp only [ha,Bz] at hc
     split at hc
     . simp only [Option.some.injEq] at hc;subst hc
       simp only [cy,Option.map_eq_some_iff] at h
       obtain ⟨r,hr,rfl⟩:=h
       obtain ⟨⟨v,h1,h2⟩,_,ad,gu⟩:=Ek hm.inv ha Bz (hm.frame.get x) hr
       refine ⟨v, ?_,h2⟩
       simp only []
       rw [gu] at h1 ⊢
       simpa [Instr.loadAt,Instr.sureAddr,asAddr] using h1
     . simp at hc
theorem A4 {π : Id} {s:VS} {a:Act} (hm:jh G π own E w s a) {fn:Func} {rs:List xy} (hc:fn.results.toList.mapM (O6 P)=some rs) {c:AV} (h:bU rs s=some c) :
   ∃ v,(results fn a.tmps).run P w = .ok v w/\aM E w c v:=by
 unfold bU at h
 cases BA:rs.mapM (cy s) with
 | none=>simp [BA] at h
 | some cs =>
   have hlen:cs.length=fn.results.toList.length:=by rw [gR BA,gR hc]
   let F:ResultVar->Sem Value:=fun rv=>match rv with | .tmp t=>(pure (a.tmps.getD t undef):Sem Value) | .cell x t=>do loadVar t (<- asAddr (a.tmps.getD x undef))
   have hex:∀ j,j<cs.length->∃ v,(∀ rv,fn.results.toList[j]? = some rv->(F rv).run P w = .ok v w)/\∀ c,cs[j]? = some c->aM E w c v:=by
     intro j hj
     obtain ⟨vr,h1,h2⟩:=mapM_some_get BA j cs[j] (by simp [hj])
     obtain ⟨rv,h3,h4⟩:=mapM_some_get hc j vr h1
     obtain ⟨v,h5,h6⟩:=TA hm h4 h2
     refine ⟨v,fun rv' wM => ?_,fun c hc => ?_⟩
     . rw [h3] at wM;simp only [Option.some.injEq] at wM;subst wM;exact h5
     . simp only [hj,List.getElem?_eq_getElem,Option.some.injEq] at hc;subst hc;exact h6
   let val:Nat->Value:=fun j=>if hj:j<cs.length then Classical.choose (hex j hj) else undef
   have kX:∀ j (hj:j<cs.length),(∀ rv,fn.results.toList[j]? = some rv->(F rv).run P w = .ok (val j) w)/\∀ c,cs[j]? = some c->aM E w c (val j):=by
     intro j hj
     simp only [val,hj,dif_pos]
     exact Classical.choose_spec (hex j hj)
   let vs:List Value:=(List.range cs.length).map val
   have uA:vs.length=cs.length:=by simp [vs]
   have eH:(fn.results.toList.mapM F).run P w = .ok vs w:=by
     refine G8 _ vs (by rw [uA,hlen]) fun i rv v wM hv => ?_
     have hi:i<cs.length:=by have:=(List.getElem?_eq_some_iff.1 hv).1;omega
     have:v=val i:=by simp [vs,hi] at hv;exact hv.symm
     subst this
     exact (kX i hi).1 rv wM
   have Np:aO E w cs vs:=bC.2 ⟨uA,fun j c hj=>by
     have nH:=(List.getElem?_eq_some_iff.1 hj).1
     exact ⟨val j,by simp [vs,nH],(kX j nH).2 c hj⟩⟩
   have BB:(results fn a.tmps).run P w=(pure (if h:vs.toArray.size=1 then vs.toArray[0] else .tuple vs.toArray):Sem Value).run P w:=by
     unfold results
     rw [Array.mapM_eq_mapM_toList]
     simp only [Sem.run_bind,Sem.run_map]
     exact congrArg (fun x:Result (List Value)=>(x.andThen fun b w'=>Result.ok b.toArray w').andThen fun b w'=>Sem.run P (pure (if h:b.size=1 then b[0] else Value.tuple b)) w') eH
   rw [BB]
   refine ⟨_,rfl, ?_⟩
   simp only [BA] at h
   split at h
   . rename_i c0 heq
     simp only [Option.some.injEq] at heq h
     subst h
     have l5:vs.toArray.size=1:=by simp [uA,heq]
     rw [dif_pos l5]
     rw [heq] at Np
     simp only [aO] at Np
     obtain ⟨v,rest,hv,h1,rfl⟩:=Np
     simpa [hv] using h1
   . rename_i fX bY heq
     simp only [Option.some.injEq] at heq h
     subst h;subst heq
     have l5 : ¬ vs.toArray.size=1:=by
       intro e
       simp [uA] at e
       obtain ⟨x,hx⟩:=List.length_eq_one_iff.1 e
       exact bY x (by rw [hx])
     rw [dif_neg l5]
     simp only [aM]
     exact ⟨_,rfl,by simpa using Np⟩
   . simp at *
theorem VP.Vl {f:FuncId} {fn:Func} {vf:ay} (hf:P.funcs[f]? = some fn) (hc:de P fn=some vf) {args:List AV} {r:AV}
   (h:VW P G [] vf.body (fun e s'=>(e = .normal∨e = .ret)/\∃ r0,bU vf.results s'=some r0/\View s'.σ r0 r) ⟨args++List.replicate (vf.nt-args.length) (.tup []),fun _=>none,0⟩):VP P G f args r:=by
 unfold de at hc
 split at hc
 . simp at hc
 . rename_i sk
   split at hc
   . rename_i c rs hb JO
     simp only [Option.map_eq_some_iff] at hc
     obtain ⟨vb,hvb,rfl⟩:=hc
     refine ⟨⟨fn,hf,by simpa using sk,by simp [hb]⟩,fun w vs ok hi hr => ?_⟩
     refine calls_of_wp hf hb ?_
     have GF:vs.length=args.length:=aO.len hr
     have hm:jh G [] (fun k=>w.heap.size<=k) ⟨fun _=>none,ok⟩ w ⟨args++List.replicate (fn.ntmps-args.length) (.tup []),fun _=>none,0⟩
         { tmps:=vs.toArray++Array.replicate (fn.ntmps-vs.toArray.size) undef,defers:=[] }:=by
       refine ⟨?_,hi,fun _ _ _=>rfl,rfl⟩
       show aO _ w _ _
       simp only [Array.toList_append,Array.toList_replicate,List.size_toArray,GF]
       refine aO.append hr (bC.2 ⟨by simp,fun j c hj => ?_⟩)
       have nH:j<fn.ntmps-args.length:=by have:=(List.getElem?_eq_some_iff.1 hj).1;simpa using this
       simp only [List.getElem?_replicate,nH,if_true,Option.some.injEq] at hj ⊢
       subst hj
       exact ⟨undef,rfl,by simp only [aM,undef];exact ⟨#[],rfl,by simp [aO]⟩⟩
     refine h c hvb _ _ w _ _ hm ?_
     intro e s' E' w' a' hq gu sc
     obtain ⟨he,r0,Vm,Lk⟩:=hq
     obtain ⟨v,pf,te⟩:=A4 sc JO Vm
     have fin:∃ v,(results fn a'.tmps).run P w' = .ok v w'/\∃ v' GD,Ending.returned v = .returned v'/\Adv (fun k=>w.heap.size<=k) ⟨fun _=>none,ok⟩ ⟨fun _=>none,GD⟩ w w'/\(∀ b,GD b->b<w'.heap.size)/\aM ⟨fun _=>none,GD⟩ w' r v':=by
       refine ⟨v,pf,v,(E'.froze s'.σ).ok,rfl, ?_, ?_, ?_⟩
       . refine ⟨⟨fun _ _ h=>by simp at h,fun b hb => .inl (gu.step.ok b hb),gu.step.same⟩,gu.os,gu.tape,gu.output,gu.size,gu.block, ?_⟩
         rintro b (hb | ⟨id,bk,k,N,hs,WC⟩)
         . exact gu.Tb b hb
         . obtain ⟨g,N',cur,ty,hB⟩:=sc.inv.blk id bk hs
           rw [hB.μ] at WC
           simp only [Option.some.injEq,Prod.mk.injEq] at WC
           right;rw [<- WC.1];exact hB.own
       . rintro b (hb | ⟨id,bk,k,N,hs,WC⟩)
         . exact sc.inv.okb b hb
         . obtain ⟨g,N',cur,ty,hB⟩:=sc.inv.blk id bk hs
           rw [hB.μ] at WC
           simp only [Option.some.injEq,Prod.mk.injEq] at WC
           rw [<- WC.1];exact dK hB.heap
       . exact Lk G _ E' w' v sc.inv te
     rcases he with rfl | rfl
     . exact ⟨sc.defers,fin⟩
     . exact ⟨sc.defers,fin⟩
   . simp at hc
end
end Go.VL
end

section
namespace Go.VL
section
variable {P:Program} {G:Nat->Option (List AV)} {π : Id} {Q:cH->VS->Prop} {s:VS}
def Fg:List AV->List AV->Prop
 | [],[]=>True
 | c::cs,d::ds=>(d = .top∨d=c)/\Fg cs ds
 | _,_=>False
theorem Fg.rep {E:Env} {w:World}:∀ {cs ds:List AV} {vs:List Value},Fg cs ds->aO E w cs vs->aO E w ds vs
 | [],[],_,_,h=>h
 | c::cs,d::ds,vs,hf,h=>by
   simp only [Fg] at hf
   simp only [aO] at h ⊢
   obtain ⟨v,rest,e,h1,h2⟩:=h
   refine ⟨v,rest,e, ?_,Fg.rep hf.2 h2⟩
   rcases hf.1 with rfl | rfl
   . simp [aM]
   . exact h1
 | [],_::_,_,h,_=>by simp [Fg] at h
 | _::_,[],_,h,_=>by simp [Fg] at h
theorem Wk.forget {t t':List AV} {σ σ':aa} {n n':Nat} (ht:Fg t t') (hs:∀ id, σ' id=none ∨ σ' id = σ id) (hn:n<=n'):Wk G π ⟨t, σ,n⟩ ⟨t', σ',n'⟩ :=
 fun own E w _ hm=>⟨E,kD.refl own π E w,ht.rep hm.frame,hm.inv.sub hs,hm.free.mono hn,hm.defers⟩
theorem Wk.bc {t t':List AV} {σ : aa} {n n':Nat} (ht:Fg t t') (hn:n<=n'):Wk G π ⟨t, σ,n⟩ ⟨t', σ,n'⟩:=Wk.forget ht (fun _ => .inr rfl) hn
def VRd (P:Program) (G:Nat->Option (List AV)) (π : Id) (x:b8) (Q:cH->VS->Prop):Nat->VS->Prop
 | 0,_=>False
 | n+1,s=>VW P G π x (BD (VRd P G π x Q n) Q) s
theorem VW.rounds {x:b8} (n:Nat) (h:VRd P G π x Q n s):VW P G π (.loop x) Q s:=by
 intro c hc own E w a R hm hR
 cases c<;>simp only [eF,Option.some.injEq,reduceCtorEq] at hc
 case loop cb =>
   cases h1:eF P cb with
   | none=>simp [h1] at hc
   | some vb =>
     simp only [h1,Option.map_some,Option.some.injEq,b8.loop.injEq] at hc
     subst hc
     refine wp_loop_rounds n ?_
     have key:∀ n s E2 w2 a2,VRd P G π vb Q n s->kD own π E E2 w w2->jh G π own E2 w2 s a2->Code.rounds P cb R n a2 w2:=by
       intro n
       induction n with
       | zero=>intro s E2 w2 a2 h _ _;exact h.elim
       | succ n ih =>
         intro s E2 w2 a2 h ad hm
         refine h cb h1 own E2 w2 a2 _ hm ?_
         intro e s' E' w' a' hq gu sc
         cases e with
         | normal=>exact ih s' E' w' a' hq (ad.trans gu) sc
         | exit id=>exact hR (.exit id) s' E' w' a' hq (ad.trans gu) sc
         | ret=>exact hR .ret s' E' w' a' hq (ad.trans gu) sc
     exact key n s E w a h (kD.refl own π E w) hm
 case region=>exfalso;revert hc;unfold lH;(repeat' split)<;>simp
 all_goals (exfalso;revert hc;(repeat' split)<;>simp)
end
end Go.VL
end

section
namespace Go.VL
def gB.vz {α : Type}:gB α -> Bool
 | .call _ _=>true
 | _=>false
def Ey (G:Nat->Option (List AV)) (σ : aa) (p:Id) (d:Option Nat) (op:gB aV) (g:Option (Nat × Bool)) (t:List AV):Option (List AV × dQ × aa) :=
 match eS t g with
 | none=>none
 | some false=>some (fK t d (.tup []),{ val := .tup [] }, σ)
 | some true=>match cl σ p (op.map (aV.ev G t)) with
   | some r=>some (fK t d r.val,r, σ.app r.up)
   | none=>none
section
variable (P:Program) (G:Nat->Option (List AV)) (π : Id)
def vs (base:Nat) (Q:cH->VS->Prop) (n:Nat) (os:List bu) (i:Nat) (t:List AV) (σ : aa):Prop :=
 yp P G π base (fun t σ => Q .normal ⟨t, σ,n⟩) os i t σ
def vd (base:Nat) (Q:cH->VS->Prop) (n:Nat) (ps:List (Nat × Nat)) (os:List bu) (i:Nat) (acc:List dQ) (t:List AV) (σ : aa):Prop :=
 yq P G π base (fun rs t σ => ar rs ps/\Q .normal ⟨t, σ,n⟩) os i acc t σ
def Zj (base:Nat) (Q:cH->VS->Prop) (n:Nat) (os:List bu) (i:Nat):Option (List AV × dQ × aa)->Prop
 | some (t,_, σ)=>vs P G π base Q n os i t σ
 | none=>False
def Zk (base:Nat) (Q:cH->VS->Prop) (n:Nat) (ps:List (Nat × Nat)) (os:List bu) (i:Nat) (acc:List dQ):Option (List AV × dQ × aa)->Prop
 | some (t,r, σ)=>vd P G π base Q n ps os i (r::acc) t σ
 | none=>False
def pM (base:Nat) (Q:cH->VS->Prop) (n:Nat) (d:Option Nat) (os:List bu) (i:Nat) (t:List AV) (σ : aa) (f:FuncId) (args:List AV):Prop :=
 ∃ S r,aB P G f args ((base+i) :: π) S r/\(∀ x∈S, σ x.1=some x.2)/\(∀ x∈S,x.1∈r.rd)/\vs P G π base Q n os (i+1) (fK t d r.val) (σ.app r.up)
def FV (base:Nat) (Q:cH->VS->Prop) (n:Nat) (ps:List (Nat × Nat)) (d:Option Nat) (os:List bu) (i:Nat) (acc:List dQ) (t:List AV) (σ : aa) (f:FuncId) (args:List AV):Prop :=
 ∃ S r,aB P G f args ((base+i) :: π) S r/\(∀ x∈S, σ x.1=some x.2)/\(∀ x∈S,x.1∈r.rd)/\vd P G π base Q n ps os (i+1) (r::acc) (fK t d r.val) (σ.app r.up)
def Ll (base:Nat) (Q:cH->VS->Prop) (n:Nat) (d:Option Nat) (os:List bu) (i:Nat) (t:List AV) (σ : aa):Option Bool->AV->List AV->Prop
 | some true, .fn (.func f) first cap,l=>pM P G π base Q n d os i t σ f (first++l++cap)
 | some false,_,_=>vs P G π base Q n os (i+1) (fK t d (.tup [])) σ
 | _,_,_=>False
def Lm (base:Nat) (Q:cH->VS->Prop) (n:Nat) (ps:List (Nat × Nat)) (d:Option Nat) (os:List bu) (i:Nat) (acc:List dQ) (t:List AV) (σ : aa):Option Bool->AV->List AV->Prop
 | some true, .fn (.func f) first cap,l=>FV P G π base Q n ps d os i acc t σ f (first++l++cap)
 | some false,_,_=>vd P G π base Q n ps os (i+1) ({ val := .tup [] }::acc) (fK t d (.tup [])) σ
 | _,_,_=>False
variable {P} {G} {π}
variable {base:Nat} {Q:cH->VS->Prop} {n:Nat} {ps:List (Nat × Nat)} {d:Option Nat} {g:Option (Nat × Bool)} {os:List bu} {i:Nat} {acc:List dQ} {t:List AV} {σ : aa}
theorem PA:vs P G π base Q n [] i t σ = Q .normal ⟨t, σ,n⟩:=(rfl)
theorem PB:vd P G π base Q n ps [] i acc t σ = (ar acc.reverse ps/\Q .normal ⟨t, σ,n⟩):=(rfl)
theorem G9 {σ : aa} {p:Id} {op:gB AV} {K:dQ->Prop} (h:op.vz=false):yo P G σ p op K=(match cl σ p op with | some r=>K r | none=>False):=by
 cases op<;>first | rfl | simp [gB.vz] at h
theorem Cw {op:gB aV} {f:aV->AV}:(op.map f).vz=op.vz:=by cases op<;>rfl
theorem Zl {op:gB aV} (h:op.vz=false):vs P G π base Q n (⟨d,op,g⟩::os) i t σ = Zj P G π base Q n os (i+1) (Ey G σ ((base+i) :: π) d op g t):=by
 unfold vs
 simp only [yp,Ey]
 cases hw:eS t g with
 | none=>rfl
 | some b =>
   cases b with
   | false=>rfl
   | true =>
     simp only []
     rw [G9 (by rw [Cw];exact h)]
     cases cl σ ((base+i) :: π) (op.map (aV.ev G t))<;>rfl
theorem Zm {op:gB aV} (h:op.vz=false):vd P G π base Q n ps (⟨d,op,g⟩::os) i acc t σ = Zk P G π base Q n ps os (i+1) acc (Ey G σ ((base+i) :: π) d op g t):=by
 unfold vd
 simp only [yq,Ey]
 cases hw:eS t g with
 | none=>rfl
 | some b =>
   cases b with
   | false=>rfl
   | true =>
     simp only []
     rw [G9 (by rw [Cw];exact h)]
     cases cl σ ((base+i) :: π) (op.map (aV.ev G t))<;>rfl
theorem TB {f:aV} {l:List aV}:vs P G π base Q n (⟨d, .call f l,g⟩::os) i t σ = Ll P G π base Q n d os i t σ (eS t g) (f.ev G t) (l.map (aV.ev G t)):=by
 unfold vs Ll
 simp only [yp]
 cases hw:eS t g with
 | none=>rfl
 | some b =>
   cases b with
   | false=>rfl
   | true =>
     simp only [gB.map,yo]
     cases hf:f.ev G t<;>try rfl
     rename_i fn a c
     cases fn<;>rfl
theorem TC {f:aV} {l:List aV}:vd P G π base Q n ps (⟨d, .call f l,g⟩::os) i acc t σ = Lm P G π base Q n ps d os i acc t σ (eS t g) (f.ev G t) (l.map (aV.ev G t)):=by
 unfold vd Lm
 simp only [yq]
 cases hw:eS t g with
 | none=>rfl
 | some b =>
   cases b with
   | false=>rfl
   | true =>
     simp only [gB.map,yo]
     cases hf:f.ev G t<;>try rfl
     rename_i fn a c
     cases fn<;>rfl
theorem Cx {f:FuncId} {first cap l:List AV}:Ll P G π base Q n d os i t σ (some true) (.fn (.func f) first cap) l=pM P G π base Q n d os i t σ f (first++l++cap):=(rfl)
theorem Cy {f:FuncId} {first cap l:List AV}:Lm P G π base Q n ps d os i acc t σ (some true) (.fn (.func f) first cap) l=FV P G π base Q n ps d os i acc t σ f (first++l++cap):=(rfl)
theorem aj {f:FuncId} {args:List AV} {r:AV} (h:VP P G f args r) (hp:∀ c∈args,af c) (k:vs P G π base Q n os (i+1) (fK t d r) σ):pM P G π base Q n d os i t σ f args :=
 ⟨[],{ val:=r },aB.Pz h hp _,by simp,by simp,k⟩
theorem ax {f:FuncId} {args:List AV} {r:AV} (h:VP P G f args r) (hp:∀ c∈args,af c) (k:vd P G π base Q n ps os (i+1) ({ val:=r }::acc) (fK t d r) σ):FV P G π base Q n ps d os i acc t σ f args :=
 ⟨[],{ val:=r },aB.Pz h hp _,by simp,by simp,k⟩
def Ha (P:Program) (G:Nat->Option (List AV)) (π : Id) (x y:b8) (Q:cH->VS->Prop) (s:VS):AV->Prop
 | .bool b=>if b then sd P G π x Q s else sd P G π y Q s
 | .anyb=>sd P G π x Q s/\sd P G π y Q s
 | _=>False
theorem Cz {x y:b8} {s:VS}:Ha P G π x y Q s (.bool true)=sd P G π x Q s:=(rfl)
theorem A5 {x y:b8} {s:VS}:Ha P G π x y Q s (.bool false)=sd P G π y Q s:=(rfl)
theorem Ez {x y:b8} {s:VS}:Ha P G π x y Q s .anyb=(sd P G π x Q s/\sd P G π y Q s):=(rfl)
theorem Hb {s:VS}:sd P G π .skip Q s=Q .normal s:=(rfl)
theorem CA {os:List bu} {n:Nat}:sd P G π (.reg none os) Q ⟨t, σ,n⟩=vs P G π n Q (n+os.length) os 0 t σ := (rfl)
theorem CB {os:List bu} {n:Nat}:sd P G π (.reg (some ps) os) Q ⟨t, σ,n⟩=vd P G π n Q (n+os.length) ps os 0 [] t σ := (rfl)
theorem Ln {x y:b8} {s:VS}:sd P G π (.seq x y) Q s=sd P G π x (BD (sd P G π y Q) Q) s:=(rfl)
theorem Hc {c:aV} {x y:b8} {n:Nat}:sd P G π (.cond c x y) Q ⟨t, σ,n⟩=Ha P G π x y Q ⟨t, σ,n⟩ (c.ev G t):=by
 simp only [sd,Ha]<;>cases c.ev G t<;>rfl
theorem z6 {id:Nat} {x:b8} {s:VS}:sd P G π (.block id x) Q s=sd P G π x (Nn id Q) s:=(rfl)
theorem aE {x:b8} {s:VS}:sd P G π (.loop x) Q s=VW P G π (.loop x) Q s:=(rfl)
theorem Hd {id:Nat} {s:VS}:sd P G π (.exit id) Q s=Q (.exit id) s:=(rfl)
theorem Lo {s:VS}:sd P G π .ret Q s=Q .ret s:=(rfl)
def He (rs:List xy) (r:AV) (e:cH) (s:VS):Prop:=(e = .normal∨e = .ret)/\∃ r0,bU rs s=some r0/\View s.σ r0 r
theorem ag {rs:List xy} {r:AV} {s:VS}:He rs r .ret s=∃ r0,bU rs s=some r0/\View s.σ r0 r:=by simp [He]
theorem A6 {rs:List xy} {r:AV} {s:VS}:He rs r .normal s=∃ r0,bU rs s=some r0/\View s.σ r0 r:=by simp [He]
def Hf {α : Type} (G:Nat->Option (List AV)) (π : Id) (st : α -> VS) (Pr : α -> Prop) (m : α -> Nat) (a : α) (Q:cH->VS->Prop):cH->VS->Prop
 | .normal,s'=>∃ a',Pr a'/\m a'<m a/\Wk G π s' (st a')
 | .exit i,s'=>Q (.exit i) s'
 | .ret,s'=>Q .ret s'
theorem yx {α : Type} {st : α -> VS} {Pr : α -> Prop} {m : α -> Nat} {a : α} {s':VS}:Hf G π st Pr m a Q .normal s'=∃ a',Pr a'/\m a'<m a/\Wk G π s' (st a'):=(rfl)
theorem CC {α : Type} {st : α -> VS} {Pr : α -> Prop} {m : α -> Nat} {a : α} {s':VS} {j:Nat}:Hf G π st Pr m a Q (.exit j) s'=Q (.exit j) s':=(rfl)
theorem EA {α : Type} {st : α -> VS} {Pr : α -> Prop} {m : α -> Nat} {a : α} {s':VS}:Hf G π st Pr m a Q .ret s'=Q .ret s':=(rfl)
theorem VW.bR {α : Type} {x:b8} {s:VS} (st : α -> VS) (Pr : α -> Prop) (m : α -> Nat) (x0 : α) (hw:Wk G π s (st x0)) (h0:Pr x0)
   (h:∀ a,Pr a->sd P G π x (Hf G π st Pr m a Q) (st a)):VW P G π (.loop x) Q s:=by
 refine VW.wk hw ?_
 intro c hc own E w a R hm hR
 cases c<;>simp only [eF,Option.some.injEq,reduceCtorEq] at hc
 case loop cb =>
   cases h1:eF P cb with
   | none=>simp [h1] at hc
   | some vb =>
     simp only [h1,Option.map_some,Option.some.injEq,b8.loop.injEq] at hc
     subst hc
     refine vv (α := α) (fun g a' w'=>Pr g/\∃ E',kD own π E E' w w'/\jh G π own E' w' (st g) a') m (x:=x0) ⟨h0,E,kD.refl own π E w,hm⟩ ?_
     rintro g a2 w2 ⟨Tz,E2,Nl,tc⟩
     refine VW.of (h g Tz) cb h1 own E2 w2 a2 _ tc ?_
     intro e s' E' w' a' hq gu sc
     cases e with
     | normal =>
       obtain ⟨g',Zg,aN,WA⟩:=hq
       obtain ⟨E3,Zh,Zi⟩:=WA own E' w' a' sc
       exact ⟨g',⟨Zg,E3,(Nl.trans gu).trans Zh,Zi⟩,aN⟩
     | exit id=>exact hR (.exit id) s' E' w' a' hq (Nl.trans gu) sc
     | ret=>exact hR .ret s' E' w' a' hq (Nl.trans gu) sc
 case region=>exfalso;revert hc;unfold lH;(repeat' split)<;>simp
 all_goals (exfalso;revert hc;(repeat' split)<;>simp)
theorem VP.of {f:FuncId} {fn:Func} {vf:ay} (hf:P.funcs[f]? = some fn) (hc:de P fn=some vf) {args:List AV} {r:AV}
   (h:sd P G [] vf.body (He vf.results r) ⟨args++List.replicate (vf.nt-args.length) (.tup []),fun _=>none,0⟩):VP P G f args r :=
 VP.Vl hf hc (VW.of h)
end
end Go.VL
end

section
namespace Go.VL
def aa.of (S:List (Id × dF)):aa:=fun i=>S.lookup i
theorem gn {S:List (Id × dF)} {i:Id} {b:dF}:S.lookup i=some b->(i,b)∈S:=by
 induction S with
 | nil=>intro h;simp at h
 | cons x S ih =>
   intro h
   obtain ⟨j,c⟩:=x
   simp only [List.lookup_cons] at h
   split at h
   . rename_i he
     have:i=j:=by simpa using he
     subst this
     simp only [Option.some.injEq] at h;subst h;simp
   . exact List.mem_cons_of_mem _ (ih h)
theorem aa.vA {S:List (Id × dF)} {σ : aa} (h:∀ x∈S, σ x.1=some x.2) (i:Id):aa.of S i=none∨aa.of S i = σ i:=by
 cases hl:S.lookup i with
 | none=>exact .inl hl
 | some b=>right;show S.lookup i = σ i;rw [hl];exact (h _ (gn hl)).symm
theorem aa.J3 (up:List (Id × Option dF)) (σ σ':aa) (i:Id) (h:(∃ x∈up,x.1=i) ∨ σ i = σ' i) : σ.app up i = σ'.app up i:=by
 induction up generalizing σ σ' with
 | nil => rcases h with ⟨x,hx,_⟩ | h
          . simp at hx
          . exact h
 | cons x up ih =>
   obtain ⟨j,b⟩:=x
   simp only [aa.app]
   apply ih
   by_cases hj:i=j
   . right;subst hj;simp [aa.put]
   . rcases h with ⟨y,hy,he⟩ | h
     . simp only [List.mem_cons] at hy
       rcases hy with rfl | hy
       . exact absurd he.symm hj
       . exact .inl ⟨y,hy,he⟩
     . right;simp [aa.put,hj,h]
theorem aa.TD (up:List (Id × Option dF)) (σ : aa) (i:Id) (h:∀ x∈up,x.1≠i) : σ.app up i = σ i:=by
 induction up generalizing σ with
 | nil=>rfl
 | cons x up ih =>
   obtain ⟨j,b⟩:=x
   simp only [aa.app]
   rw [ih _ fun y hy=>h y (List.mem_cons_of_mem _ hy),aa.bj]
   exact fun e=>h (j,b) (by simp) e.symm
section
variable {P:Program} {G:Nat->Option (List AV)}
def Fin (G:Nat->Option (List AV)) (p:Id) (S:List (Id × dF)) (σ':aa) (r0:AV) (r:dQ):Prop :=
 ∀ own E w v,Inv G own E w σ'->aM E w r0 v->E.μ p=none->∃ E',kD own p E E' w w/\Inv G own E' w ((aa.of S).app r.up)/\aM E' w r.val v
def Nq (G:Nat->Option (List AV)) (p:Id) (S:List (Id × dF)) (rs:List xy) (r:dQ) (e:cH) (s:VS):Prop :=
 (e = .normal∨e = .ret)/\∃ r0,bU rs s=some r0/\Fin G p S s.σ r0 r
theorem aB.Vn {f:FuncId} {fn:Func} {vf:ay} (hf:P.funcs[f]? = some fn) (hc:de P fn=some vf) {args:List AV} {p:Id} {S:List (Id × dF)} {r:dQ}
   (h:VW P G p vf.body (Nq G p S vf.results r) ⟨args++List.replicate (vf.nt-args.length) (.tup []),aa.of S,0⟩):aB P G f args p S r:=by
 unfold de at hc
 split at hc
 . simp at hc
 . rename_i sk
   split at hc
   . rename_i c rs hb JO
     simp only [Option.map_eq_some_iff] at hc
     obtain ⟨vb,hvb,rfl⟩:=hc
     refine ⟨⟨fn,hf,by simpa using sk,by simp [hb]⟩,fun own E w σ vs hS hi hr hμ => ?_⟩
     refine calls_of_wp hf hb ?_
     have GF:vs.length=args.length:=aO.len hr
     let D0:Nat->Prop:=fun g=>(∃ x∈S,∃ y,E.μ x.1=some y/\y.1=g)∨w.heap.size<=g
     have xA:∀ i,aa.of S i=none∨aa.of S i = σ i:=aa.vA hS
     have Nr:∀ g,D0 g->own g:=by
       rintro g (⟨x,hx,y,hy,rfl⟩ | hg)
       . obtain ⟨g,N,cur,ty,hB⟩:=hi.blk _ _ (hS x hx)
         have:=hB.μ.symm.trans hy
         simp only [Option.some.injEq] at this
         subst this
         exact hB.own
       . exact hi.new g hg
     have WB:Inv G D0 E w (aa.of S):=by
       refine ⟨hi.okb,fun id bk hs => ?_,(hi.sub xA).inj,hi.glob,fun k hk => .inr hk⟩
       have hm:=gn hs
       obtain ⟨g,N,cur,ty,hB⟩:=hi.blk _ _ (hS _ hm)
       exact ⟨g,N,cur,ty,hB.μ,hB.heap,hB.size,hB.len,hB.most, .inl ⟨_,hm,_,hB.μ,rfl⟩,hB.ok,hB.no,hB.k,hB.row⟩
     have hm:jh G p D0 E w ⟨args++List.replicate (fn.ntmps-args.length) (.tup []),aa.of S,0⟩
         { tmps:=vs.toArray++Array.replicate (fn.ntmps-vs.toArray.size) undef,defers:=[] }:=by
       refine ⟨?_,WB,fun j hj _=>hμ j hj,rfl⟩
       show aO _ w _ _
       simp only [Array.toList_append,Array.toList_replicate,List.size_toArray,GF]
       refine aO.append hr (bC.2 ⟨by simp,fun j c hj => ?_⟩)
       have nH:j<fn.ntmps-args.length:=by have:=(List.getElem?_eq_some_iff.1 hj).1;simpa using this
       simp only [List.getElem?_replicate,nH,if_true,Option.some.injEq] at hj ⊢
       subst hj
       exact ⟨undef,rfl,by simp only [aM,undef];exact ⟨#[],rfl,by simp [aO]⟩⟩
     refine h c hvb D0 E w _ _ hm ?_
     intro e s' E' w' a' hq gu sc
     obtain ⟨he,r0,Vm,uR⟩:=hq
     obtain ⟨v,pf,te⟩:=A4 sc JO Vm
     obtain ⟨E2,FU,En,hv3⟩:=uR D0 E' w' v sc.inv te sc.free.self
     have gr:kD D0 p E E2 w w':=gu.trans FU
     have Zn:Adv own E E2 w w' :=
       ⟨gr.step,gr.os,gr.tape,gr.output,gr.size,fun k hk ho=>gr.block k hk fun h=>ho (Nr k h),fun b hb=>(gr.Tb b hb).imp id (Nr b)⟩
     -- a block of the caller that the function did not have
     have key:∀ i bk, σ i=some bk->aa.of S i=none->∀ g N cur ty,w9 E own w i bk g N cur ty -> ¬ D0 g:=by
       intro i bk hs hn g N cur ty hB
       rintro (⟨x,hx,y,hy,he⟩ | hg)
       . refine hi.inj x.1 i y (g,bk.k,N) (by simp [hS x hx]) (by simp [hs]) ?_ hy hB.μ he
         intro e
         have:=hS x hx
         have h1:(aa.of S) x.1≠none:=by
           show S.lookup x.1≠none
           intro hl
           rw [List.lookup_eq_none_iff] at hl
           have:=hl x hx
           simp at this
         rw [e] at h1
         exact h1 hn
       . have:=dK hB.heap;omega
     have fin:∃ v',Ending.returned v = .returned v'/\k7 G own E w σ p r v' E2 w':=by
       refine ⟨v,rfl,Zn, ?_,hv3,gr.ids⟩
       -- the invariant of the caller's store
       have z7:∀ i,(σ.app r.up i=(aa.of S).app r.up i)∨(σ.app r.up i = σ i/\(aa.of S i=none)):=by
         intro i
         by_cases h:(∃ x∈r.up,x.1=i) ∨ σ i=aa.of S i
         . exact .inl (aa.J3 r.up σ (aa.of S) i h)
         . right
           have h1:∀ x∈r.up,x.1≠i:=fun x hx e=>h (.inl ⟨x,hx,e⟩)
           refine ⟨aa.TD r.up σ i h1, ?_⟩
           rcases xA i with h2 | h2
           . exact h2
           . exact absurd (.inr h2.symm) h
       have hold:∀ i bk, σ i=some bk->aa.of S i=none->∃ g N cur ty,w9 E own w i bk g N cur ty/\w9 E2 own w' i bk g N cur ty /\ ¬ D0 g:=by
         intro i bk hs hn
         obtain ⟨g,N,cur,ty,hB⟩:=hi.blk i bk hs
         have qy:=key i bk hs hn g N cur ty hB
         refine ⟨g,N,cur,ty,hB,hB.keep gr.step (gr.block g (dK hB.heap) qy) (fun hf ml => ?_),qy⟩
         exact (gr.Tb g ml).elim (hB.no hf) qy
       refine ⟨En.okb,fun i bk hs => ?_,fun i j x y jf BZ bY hx hy => ?_,En.glob,fun k hk=>hi.new k (Nat.le_trans gr.size hk)⟩
       . rcases z7 i with h1 | ⟨h1,h2⟩
         . rw [h1] at hs
           obtain ⟨g,N,cur,ty,hB⟩:=En.blk i bk hs
           exact ⟨g,N,cur,ty,hB.μ,hB.heap,hB.size,hB.len,hB.most,Nr g hB.own,hB.ok,hB.no,hB.k,hB.row⟩
         . rw [h1] at hs
           obtain ⟨g,N,cur,ty,_,hB,_⟩:=hold i bk hs h2
           exact ⟨g,N,cur,ty,hB⟩
       . have new:∀ i x, σ.app r.up i≠none -> σ.app r.up i=(aa.of S).app r.up i->E2.μ i=some x->D0 x.1:=by
           intro i x hn he hx
           rw [he] at hn
           cases hb:(aa.of S).app r.up i with
           | none=>exact absurd hb hn
           | some bk =>
             obtain ⟨g,N,cur,ty,hB⟩:=En.blk i bk hb
             have:=hB.μ.symm.trans hx
             simp only [Option.some.injEq] at this
             subst this
             exact hB.own
         have old:∀ i x, σ.app r.up i≠none -> σ.app r.up i = σ i->aa.of S i=none->E2.μ i=some x -> ¬ D0 x.1:=by
           intro i x hn he hs hx
           rw [he] at hn
           cases hb : σ i with
           | none=>exact absurd hb hn
           | some bk =>
             obtain ⟨g,N,cur,ty,_,hB,qy⟩:=hold i bk hb hs
             have:=hB.μ.symm.trans hx
             simp only [Option.some.injEq] at this
             subst this
             exact qy
         rcases z7 i with h1 | ⟨h1,h2⟩<;>rcases z7 j with h3 | ⟨h3,h4⟩
         . exact En.inj i j x y (h1▸jf) (h3▸BZ) bY hx hy
         . intro e;exact old j y BZ h3 h4 hy (e▸new i x jf h1 hx)
         . intro e;exact old i x jf h1 h2 hx (e▸new j y BZ h3 hy)
         . have lift:∀ i x, σ.app r.up i≠none -> σ.app r.up i = σ i->aa.of S i=none->E2.μ i=some x->E.μ i=some x:=by
             intro i x hn he hs hx
             rw [he] at hn
             cases hb : σ i with
             | none=>exact absurd hb hn
             | some bk =>
               obtain ⟨g,N,cur,ty,hB,uE,qy⟩:=hold i bk hb hs
               rw [hB.μ, <- uE.μ,hx]
           exact hi.inj i j x y (h1▸jf) (h3▸BZ) bY (lift i x jf h1 h2 hx) (lift j y BZ h3 h4 hy)
     have Zo:∃ v0,(results fn a'.tmps).run P w' = .ok v0 w'/\∃ v' E',Ending.returned v0 = .returned v'/\k7 G own E w σ p r v' E' w':=by
       obtain ⟨v',h1,h2⟩:=fin
       exact ⟨v,pf,v',E2,h1,h2⟩
     rcases he with rfl | rfl
     . exact ⟨sc.defers,Zo⟩
     . exact ⟨sc.defers,Zo⟩
   . simp at hc
theorem Fin.same {p:Id} {S:List (Id × dF)} {σ':aa} {r0:AV} {r:dQ} (hv:r.val=r0) (hs:∀ i,(aa.of S).app r.up i=none∨(aa.of S).app r.up i = σ' i):Fin G p S σ' r0 r :=
 fun own E w _ hi hr _=>⟨E,kD.refl own p E w,hi.sub hs,hv▸hr⟩
end
end Go.VL
end

section
namespace Go.VL
abbrev aL:=List (Id × dF × Bool)
def aL.find:aL->Id->Option dF
 | [],_=>none
 | (j,b,_)::L,i=>if i=j then some b else aL.find L i
def aL.del:aL->Id->aL
 | [],_=>[]
 | x::L,i=>if i=x.1 then aL.del L i else x::aL.del L i
def aL.to (L:aL):aa:=fun i=>L.find i
def aL.one (L:aL):Id × Option dF->aL
 | (i,some b)=>(i,b,true)::L.del i
 | (i,none)=>L.del i
def aL.app (L:aL):List (Id × Option dF)->aL
 | []=>L
 | x::up=>(L.one x).app up
theorem aL.Hg (L:aL) (i j:Id):(L.del i).find j=if j=i then none else L.find j:=by
 induction L with
 | nil=>simp [aL.del,aL.find]
 | cons x L ih =>
   obtain ⟨a,b,c⟩:=x
   simp only [aL.del]
   by_cases h:i=a
   . subst h
     simp only [if_true,ih,aL.find]
     by_cases h2:j=i
     . simp [h2]
     . simp [h2]
   . simp only [if_neg h,aL.find,ih]
     by_cases h2:j=a
     . subst h2
       have : ¬ j=i:=fun e=>h e.symm
       simp [this]
     . simp [h2]
theorem aL.WD (L:aL) (x:Id × Option dF):(L.one x).to=L.to.put x.1 x.2:=by
 obtain ⟨i,b⟩:=x
 funext j
 cases b with
 | none=>simp only [aL.one,aL.to,aL.Hg,aa.put]
 | some b =>
   simp only [aL.one,aL.to,aL.find,aL.Hg,aa.put]
   split<;>simp_all
theorem aL.PC (up:List (Id × Option dF)):∀ L:aL,(L.app up).to=L.to.app up:=by
 induction up with
 | nil=>intro L;rfl
 | cons x up ih=>intro L;simp only [aL.app,ih,aL.WD,aa.app]
mutual
def AV.ids:AV->List Id
 | .fn _ a c=>Hh a++Hh c
 | .agg cs | .tup cs | .sl _ cs | .tsl _ cs | .ep cs _=>Hh cs
 | .osl i _ _ _ _ | .ref i _ _=>[i]
 | _=>[]
def Hh:List AV->List Id
 | []=>[]
 | c::cs=>c.ids++Hh cs
end
def reach:Nat->aL->List Id->List (Id × dF)->List (Id × dF)
 | 0,_,_,S=>S
 | _+1,_,[],S=>S
 | n + 1,L,i::is,S=>match S.lookup i with
   | some _=>reach n L is S
   | none=>match L.find i with
     | some b=>reach n L (Hh b.els++is) ((i,b)::S)
     | none=>reach n L is S
theorem so {L:aL}:∀ (n:Nat) (is:List Id) (S:List (Id × dF)),(∀ x∈S,L.to x.1=some x.2)->∀ x∈reach n L is S,L.to x.1=some x.2
 | 0,_,_,h=>h
 | _+1,[],_,h=>by simpa [reach] using h
 | n + 1,i::is,S,h=>by
   simp only [reach]
   split
   . exact so n is S h
   . split
     . rename_i b hb
       refine so n _ _ fun x hx => ?_
       rcases List.mem_cons.1 hx with rfl | hx
       . exact hb
       . exact h x hx
     . exact so n is S h
inductive Hi where
 | leaf
 | node (k:Nat) (v:ay) (l r:Hi)
def Hi.find:Hi->Nat->Option ay
 | .leaf,_=>none
 | .node k v l r,f=>if f=k then some v else if f<k then l.find f else r.find f
def Hi.Of (P:Program):Hi->Prop
 | .leaf=>True
 | .node k v l r=>(∃ fn,P.funcs[k]? = some fn/\de P fn=some v)/\l.Of P/\r.Of P
theorem Hi.FW {P:Program} {f:Nat} {vf:ay}:∀ {T:Hi},T.Of P->T.find f=some vf->∃ fn,P.funcs[f]? = some fn/\de P fn=some vf
 | .leaf,_,h=>by simp [Hi.find] at h
 | .node k v l r,ho,h=>by
   simp only [Hi.find] at h
   split at h
   . rename_i e
     simp only [Option.some.injEq] at h
     subst h;subst e
     exact ho.1
   . split at h
     . exact Hi.FW ho.2.1 h
     . exact Hi.FW ho.2.2 h
section
variable (G:Nat->Option (List AV))
def J4 (C:FuncId->List AV->Id->aL->Option dQ) (L:aL) (p:Id) (op:gB AV):Option dQ :=
 match op with
 | .call f as=>match f with
   | .fn (.func f) first cap=>C f (first++as++cap) p L
   | _=>none
 | op=>cl L.to p op
def uG (C:FuncId->List AV->Id->aL->Option dQ) (π : Id) (base:Nat):List bu->Nat->List dQ->List AV->aL->Option (List dQ × List AV × aL)
 | [],_,acc,t,L=>some (acc,t,L)
 | o :: os,i,acc,t,L=>match eS t o.guard with
   | none=>none
   | some false=>uG C π base os (i+1) ({ val := .tup [] }::acc) (fK t o.dst (.tup [])) L
   | some true=>match J4 C L ((base+i) :: π) (o.op.map (aV.ev G t)) with
     | none=>none
     | some r=>uG C π base os (i+1) (r::acc) (fK t o.dst r.val) (L.app r.up)
def CD (a b:List Id):Bool:=a.all fun i => !b.contains i
def PD (a b:dQ):Bool:=CD (a.up.map (·.1)) b.rd&&CD (a.up.map (·.1)) (b.up.map (·.1))&&CD (b.up.map (·.1)) a.rd
def z8 (rs:List dQ) (ps:List (Nat × Nat)):Bool:=ps.all fun q=>match rs[q.1]?,rs[q.2]? with
 | some a,some b=>PD a b
 | _,_=>true
structure LS where
 t:List AV
 L:aL
 n:Nat
def LS.to (s:LS):VS:=⟨s.t,s.L.to,s.n⟩
def aL.live (L:aL) (K:List (Id × dF)):aL:=L.filter fun x=>(K.lookup x.1).isSome
def ups (S:List (Id × dF)) (L:aL):List (Id × Option dF) :=
 (S.filter fun x=>(L.find x.1).isNone).map (fun x=>(x.1,none))++(L.filter fun x=>x.2.2).map fun x=>(x.1,some x.2.1)
def xE (X:FuncId->List AV->Id->aL->Option dQ) (R:b8->Id->LS->Option (cH × LS)) (T:Hi) (f:FuncId) (args:List AV) (p:Id) (L:aL):Option dQ :=
 match X f args p L with
 | some r=>some r
 | none =>
 match T.find f with
 | none=>none
 | some vf =>
   let S:=reach 1000 L (Hh args) []
   match R vf.body p ⟨args++List.replicate (vf.nt-args.length) (.tup []),S.map fun x=>(x.1,x.2,false),0⟩ with
   | some (.normal,s) | some (.ret,s)=>match bU vf.results s.to with
     | some r0=>some { val:=r0,rd:=S.map (·.1),up:=ups S (s.L.live (reach 1000 s.L (r0.ids++S.map (·.1)) [])) }
     | none=>none
   | _=>none
def run (X:FuncId->List AV->Id->aL->Option dQ) (T:Hi):Nat->b8->Id->LS->Option (cH × LS)
 | 0,_,_,_=>none
 | m + 1,c, π,s=>match c with
   | .skip=>some (.normal,s)
   | .ret=>some (.ret,s)
   | .exit i=>some (.exit i,s)
   | .seq a b=>match run X T m a π s with
     | some (.normal,s')=>run X T m b π s'
     | r=>r
   | .cond c a b=>match c.ev G s.t with
     | .bool true=>run X T m a π s
     | .bool false=>run X T m b π s
     | _=>none
   | .block i c=>match run X T m c π s with
     | some (.exit j,s')=>if j=i then some (.normal,s') else some (.exit j,s')
     | r=>r
   | .loop c=>match run X T m c π s with
     | some (.normal,s')=>run X T m (.loop c) π s'
     | r=>r
   | .reg ps os=>match uG G (xE X (run X T m) T) π s.n os 0 [] s.t s.L with
     | none=>none
     | some (rs,t,L)=>match ps with
       | none=>some (.normal,⟨t,L,s.n+os.length⟩)
       | some ps=>if z8 rs.reverse ps then some (.normal,⟨t,L,s.n+os.length⟩) else none
end
section
variable {P:Program} {G:Nat->Option (List AV)} {X:FuncId->List AV->Id->aL->Option dQ} {T:Hi}
def k9 (P:Program) (G:Nat->Option (List AV)) (C:FuncId->List AV->Id->aL->Option dQ):Prop :=
 ∀ f args p L r,C f args p L=some r->∃ S,aB P G f args p S r/\(∀ x∈S,L.to x.1=some x.2)/\∀ x∈S,x.1∈r.rd
theorem yy {C:FuncId->List AV->Id->aL->Option dQ} (hC:k9 P G C) {L:aL} {p:Id} {op:gB AV} {r:dQ} (h:J4 C L p op=some r) {K:dQ->Prop} (hK:K r):yo P G L.to p op K:=by
 unfold J4 at h
 unfold yo
 cases op with
 | call f as =>
   simp only [] at h ⊢
   split at h
   . obtain ⟨S,h1,h2,h3⟩:=hC _ _ _ _ _ h
     exact ⟨S,r,h1,h2,h3,hK⟩
   . simp at h
 | _=>simp only [] at h ⊢;rw [h];exact hK
theorem Aa {C:FuncId->List AV->Id->aL->Option dQ} (hC:k9 P G C) {π : Id} {base:Nat} {rs:List dQ} {t':List AV} {L':aL} {K:List dQ->List AV->aa->Prop} (hK:K rs.reverse t' L'.to) :
   ∀ (os:List bu) (i:Nat) (acc:List dQ) (t:List AV) (L:aL),uG G C π base os i acc t L=some (rs,t',L')->yq P G π base K os i acc t L.to
 | [],i,acc,t,L,h=>by
   simp only [uG,Option.some.injEq,Prod.mk.injEq] at h
   obtain ⟨rfl,rfl,rfl⟩:=h
   exact hK
 | o :: os,i,acc,t,L,h=>by
   simp only [uG] at h
   simp only [yq]
   split at h
   . simp at h
   . rename_i hw;rw [hw];exact Aa hC hK os _ _ _ _ h
   . rename_i hw
     rw [hw]
     split at h
     . simp at h
     . rename_i r hr
       have:=Aa hC hK os _ _ _ _ h
       rw [aL.PC] at this
       exact yy hC hr this
theorem Ab {C:FuncId->List AV->Id->aL->Option dQ} (hC:k9 P G C) {π : Id} {base:Nat} {rs:List dQ} {t':List AV} {L':aL} {K:List AV->aa->Prop} (hK:K t' L'.to) :
   ∀ (os:List bu) (i:Nat) (acc:List dQ) (t:List AV) (L:aL),uG G C π base os i acc t L=some (rs,t',L')->yp P G π base K os i t L.to
 | [],i,acc,t,L,h=>by
   simp only [uG,Option.some.injEq,Prod.mk.injEq] at h
   obtain ⟨rfl,rfl,rfl⟩:=h
   exact hK
 | o :: os,i,acc,t,L,h=>by
   simp only [uG] at h
   simp only [yp]
   split at h
   . simp at h
   . rename_i hw;rw [hw];exact Ab hC hK os _ _ _ _ h
   . rename_i hw
     rw [hw]
     split at h
     . simp at h
     . rename_i r hr
       have:=Ab hC hK os _ _ _ _ h
       rw [aL.PC] at this
       exact yy hC hr this
theorem vB {a b:List Id} (h:CD a b=true) {i:Id} (hi:i∈a):i ∉ b:=by
 simp only [CD,List.all_eq_true,Bool.not_eq_true',List.contains_eq_mem,decide_eq_false_iff_not] at h
 exact h i hi
theorem CE {rs:List dQ} {ps:List (Nat × Nat)} (h:z8 rs ps=true):ar rs ps:=by
 intro q hq a b ha hb
 simp only [z8,List.all_eq_true] at h
 have:=h q hq
 rw [ha,hb] at this
 simp only [PD,Bool.and_eq_true] at this
 obtain ⟨⟨h1,h2⟩,h3⟩:=this
 exact ⟨fun x hx=>⟨vB h1 (List.mem_map.2 ⟨x,hx,rfl⟩),vB h2 (List.mem_map.2 ⟨x,hx,rfl⟩)⟩,fun x hx=>vB h3 (List.mem_map.2 ⟨x,hx,rfl⟩)⟩
theorem EB (S:List (Id × dF)) (i:Id):(aL.find (S.map fun x=>(x.1,x.2,false)) i)=S.lookup i:=by
 induction S with
 | nil=>rfl
 | cons x S ih =>
   obtain ⟨j,b⟩:=x
   simp only [List.map_cons,aL.find,ih,List.lookup_cons]
   by_cases h:i=j
   . simp [h]
   . have:(i==j)=false:=by simpa using h
     simp [h,this]
theorem CF {L:aL} {i:Id} {b:dF} (h:L.find i=some b):∃ d,(i,b,d)∈L:=by
 induction L with
 | nil=>simp [aL.find] at h
 | cons x L ih =>
   obtain ⟨j,c,d⟩:=x
   simp only [aL.find] at h
   split at h
   . rename_i e;subst e;simp only [Option.some.injEq] at h;subst h;exact ⟨d,by simp⟩
   . obtain ⟨d',hd⟩:=ih h;exact ⟨d',by simp [hd]⟩
def Clean (S:List (Id × dF)) (L:aL):Prop:=(∀ i b,(i,b,false)∈L->S.lookup i=some b)/\(L.map (·.1)).Nodup
theorem Clean.del {S:List (Id × dF)} {L:aL} (h:Clean S L) (i:Id):Clean S (L.del i)/\i ∉ (L.del i).map (·.1)/\∀ x∈L.del i,x∈L:=by
 have sub:∀ L:aL,(∀ x∈L.del i,x∈L)/\i ∉ (L.del i).map (·.1)/\(L.del i).Sublist L:=by
   intro L
   induction L with
   | nil=>simp [aL.del]
   | cons x L ih =>
     simp only [aL.del]
     split
     . exact ⟨fun y hy=>List.mem_cons_of_mem _ (ih.1 y hy),ih.2.1,ih.2.2.cons _⟩
     . rename_i bY
       refine ⟨fun y hy => ?_, ?_,ih.2.2.cons_cons _⟩
       . rcases List.mem_cons.1 hy with rfl | hy
         . simp
         . exact List.mem_cons_of_mem _ (ih.1 y hy)
       . simp only [List.map_cons,List.mem_cons,not_or]
         exact ⟨bY,ih.2.1⟩
 exact ⟨⟨fun j b hj=>h.1 j b ((sub L).1 _ hj),h.2.sublist ((sub L).2.2.map _)⟩,(sub L).2.1,(sub L).1⟩
theorem Clean.live {S:List (Id × dF)} {L:aL} (h:Clean S L) (K:List (Id × dF)):Clean S (L.live K) :=
 ⟨fun i b hi=>h.1 i b (List.mem_filter.1 hi).1,h.2.sublist (List.filter_sublist.map _)⟩
theorem aL.Ns (L:aL) (K:List (Id × dF)) (i:Id):(L.live K).find i=none∨(L.live K).find i=L.find i:=by
 induction L with
 | nil=>exact .inl rfl
 | cons x L ih =>
   obtain ⟨j,b,d⟩:=x
   unfold aL.live at ih ⊢
   by_cases hk:(K.lookup j).isSome=true
   . rw [List.filter_cons_of_pos (by exact hk)]
     simp only [aL.find]
     by_cases h:i=j
     . simp [h]
     . simp only [if_neg h];exact ih
   . rw [List.filter_cons_of_neg (by exact hk)]
     by_cases h:i=j
     . subst h
       left
       cases hf:aL.find (L.filter fun x=>(K.lookup x.1).isSome) i with
       | none=>rfl
       | some c =>
         obtain ⟨d',hd⟩:=CF hf
         have:=(List.mem_filter.1 hd).2
         exact absurd this hk
     . simp only [aL.find,if_neg h];exact ih
theorem Clean.one {S:List (Id × dF)} {L:aL} (h:Clean S L) (x:Id × Option dF):Clean S (L.one x):=by
 obtain ⟨i,b⟩:=x
 have hd:=h.del i
 cases b with
 | none=>exact hd.1
 | some b =>
   refine ⟨fun j c hj => ?_, ?_⟩
   . simp only [aL.one,List.mem_cons,Prod.mk.injEq,Bool.false_eq_true,and_false,false_or] at hj
     exact hd.1.1 j c hj
   . simp only [aL.one,List.map_cons,List.nodup_cons]
     exact ⟨hd.2.1,hd.1.2⟩
theorem Clean.app {S:List (Id × dF)}:∀ (up:List (Id × Option dF)) {L:aL},Clean S L->Clean S (L.app up)
 | [],_,h=>h
 | x::up,_,h=>Clean.app up (h.one x)
theorem vC {S:List (Id × dF)} {C:FuncId->List AV->Id->aL->Option dQ} {π : Id} {base:Nat} {rs:List dQ} {t':List AV} {L':aL} :
   ∀ (os:List bu) (i:Nat) (acc:List dQ) (t:List AV) (L:aL),uG G C π base os i acc t L=some (rs,t',L')->Clean S L->Clean S L'
 | [],i,acc,t,L,h,hc=>by
   simp only [uG,Option.some.injEq,Prod.mk.injEq] at h
   obtain ⟨rfl,rfl,rfl⟩:=h
   exact hc
 | o :: os,i,acc,t,L,h,hc=>by
   simp only [uG] at h
   split at h
   . simp at h
   . exact vC os _ _ _ _ h hc
   . split at h
     . simp at h
     . exact vC os _ _ _ _ h (hc.app _)
theorem iA {S:List (Id × dF)}:∀ (m:Nat) (c:b8) (π : Id) (s s':LS) (e:cH),run G X T m c π s=some (e,s')->Clean S s.L->Clean S s'.L
 | 0,_,_,_,_,_,h,_=>by simp [run] at h
 | m + 1,c, π,s,s',e,h,hc=>by
   cases c with
   | skip=>simp only [run,Option.some.injEq,Prod.mk.injEq] at h;obtain ⟨_,rfl⟩:=h;exact hc
   | ret=>simp only [run,Option.some.injEq,Prod.mk.injEq] at h;obtain ⟨_,rfl⟩:=h;exact hc
   | exit i=>simp only [run,Option.some.injEq,Prod.mk.injEq] at h;obtain ⟨_,rfl⟩:=h;exact hc
   | seq a b =>
     simp only [run] at h
     split at h
     . rename_i s1 h1
       exact iA m b π s1 s' e h (iA m a π s s1 _ h1 hc)
     . exact iA m a π s s' e h hc
   | cond c a b =>
     simp only [run] at h
     split at h
     . exact iA m a π s s' e h hc
     . exact iA m b π s s' e h hc
     . simp at h
   | block i c =>
     simp only [run] at h
     split at h
     . rename_i j s1 h1
       have:=iA m c π s s1 _ h1 hc
       split at h<;>(simp only [Option.some.injEq,Prod.mk.injEq] at h;obtain ⟨_,rfl⟩:=h;exact this)
     . exact iA m c π s s' e h hc
   | loop c =>
     simp only [run] at h
     split at h
     . rename_i s1 h1
       exact iA m (.loop c) π s1 s' e h (iA m c π s s1 _ h1 hc)
     . exact iA m c π s s' e h hc
   | reg ps os =>
     simp only [run] at h
     split at h
     . simp at h
     . rename_i rs t L h1
       have:=vC os _ _ _ _ h1 hc
       split at h
       . simp only [Option.some.injEq,Prod.mk.injEq] at h;obtain ⟨_,rfl⟩:=h;exact this
       . split at h
         . simp only [Option.some.injEq,Prod.mk.injEq] at h;obtain ⟨_,rfl⟩:=h;exact this
         . simp at h
open Classical in
theorem PE {S:List (Id × dF)} {L:aL} (hc:Clean S L) (i:Id):(aa.of S).app (ups S L) i=L.to i:=by
 have tq:∀ (a b:List (Id × Option dF)) (σ : aa), σ.app (a++b)=(σ.app a).app b:=by
   intro a
   induction a with
   | nil=>intro b σ;rfl
   | cons x a ih=>intro b σ;simp only [List.cons_append,aa.app];exact ih b _
 unfold ups
 rw [tq]
 generalize hσ : (aa.of S).app ((S.filter fun x=>(L.find x.1).isNone).map (fun x=>(x.1,none))) = σ1
 have PF:∀ (l:List Id) (σ : aa), σ.app (l.map fun i=>(i,none)) i=if i∈l then none else σ i:=by
   intro l
   induction l with
   | nil=>intro σ;simp [aa.app]
   | cons j l ih =>
     intro σ
     simp only [List.map_cons,aa.app,ih,aa.put]
     by_cases h1:i∈l
     . simp [h1]
     . by_cases h2:i=j<;>simp [h1,h2]
 have h1 : σ1 i=if (∃ b,(i,b)∈S)/\L.find i=none then none else S.lookup i:=by
   rw [<- hσ]
   have:=PF ((S.filter fun x=>(L.find x.1).isNone).map (·.1)) (aa.of S)
   rw [List.map_map] at this
   have e:((fun i=>(i,(none:Option dF))) ∘ fun x:Id × dF=>x.1)=fun x=>(x.1,none):=rfl
   rw [e] at this
   rw [this]
   have e2:(i∈((S.filter fun x=>(L.find x.1).isNone).map (·.1)))↔((∃ b,(i,b)∈S)/\L.find i=none):=by
     simp only [List.mem_map,List.mem_filter,Option.isNone_iff_eq_none]
     constructor
     . rintro ⟨⟨j,b⟩,⟨h1,h2⟩,rfl⟩;exact ⟨⟨b,h1⟩,h2⟩
     . rintro ⟨⟨b,hb⟩,h2⟩;exact ⟨(i,b),⟨hb,h2⟩,rfl⟩
   by_cases h:(∃ b,(i,b)∈S)/\L.find i=none
   . rw [if_pos h,if_pos (e2.2 h)]
   . rw [if_neg h,if_neg fun hh=>h (e2.1 hh)];rfl
 clear hσ
 -- the written ones
 have key:∀ (L0:aL) (σ : aa),(L0.map (·.1)).Nodup ->
     σ.app ((L0.filter fun x=>x.2.2).map fun x=>(x.1,some x.2.1)) i=match L0.find i with
       | some b=>if (i,b,true)∈L0 then some b else σ i
       | none => σ i:=by
   intro L0
   induction L0 with
   | nil=>intro σ _;rfl
   | cons x L0 ih =>
     intro σ hn
     obtain ⟨j,b,d⟩:=x
     simp only [List.map_cons,List.nodup_cons] at hn
     have Zp:∀ b d,(j,b,d) ∉ L0:=fun b d hm=>hn.1 (List.mem_map.2 ⟨_,hm,rfl⟩)
     have hfj:aL.find L0 j=none:=by
       cases h:aL.find L0 j with
       | none=>rfl
       | some c=>obtain ⟨d,hd⟩:=CF h;exact absurd hd (Zp c d)
     cases d with
     | false =>
       simp only [Bool.false_eq_true,not_false_eq_true,List.filter_cons_of_neg]
       rw [ih σ hn.2]
       simp only [aL.find]
       by_cases h:i=j
       . subst h
         rw [hfj]
         simp [Zp]
       . simp [h]
     | true =>
       simp only [List.filter_cons_of_pos,List.map_cons,aa.app]
       rw [ih _ hn.2]
       simp only [aL.find]
       by_cases h:i=j
       . subst h
         rw [hfj]
         simp [aa.put]
       . simp [h,aa.put]
 rw [key L σ1 hc.2,h1]
 show _=L.find i
 cases hf:L.find i with
 | none =>
   simp only [and_true]
   split
   . rfl
   . rename_i h
     cases hl:S.lookup i with
     | none=>rfl
     | some b=>exact absurd ⟨b,gn hl⟩ h
 | some b =>
   simp only [reduceCtorEq,and_false,if_false]
   split
   . rfl
   . rename_i h
     obtain ⟨d,hd⟩:=CF hf
     cases d with
     | true=>exact absurd hd h
     | false=>exact hc.1 i b hd
theorem yz:∀ {S:List (Id × dF)} {x:Id × dF},(S.map (·.1)).Nodup->x∈S->S.lookup x.1=some x.2
 | [],x,_,hx=>by simp at hx
 | (j,c)::S,x,Ac,hx=>by
   simp only [List.map_cons,List.nodup_cons] at Ac
   rcases List.mem_cons.1 hx with rfl | hx
   . simp
   . have bY:x.1≠j:=fun e=>Ac.1 (List.mem_map.2 ⟨x,hx,e⟩)
     rw [List.lookup_cons]
     have:(x.1==j)=false:=by simpa using bY
     rw [this]
     exact yz Ac.2 hx
theorem yA (hX : k9 P G X) (hT:T.Of P) {R:b8->Id->LS->Option (cH × LS)}
   (hR:∀ c π s e s',R c π s=some (e,s')->VW P G π c (fun e' s2=>e'=e/\s2=s'.to) s.to) (hRc:∀ S c π s e s',R c π s=some (e,s')->Clean S s.L->Clean S s'.L) :
   k9 P G (xE X R T):=by
 intro f args p L r h
 unfold xE at h
 split at h
 . rename_i r' zS;simp only [Option.some.injEq] at h;subst h;exact hX _ _ _ _ _ zS
 split at h
 . simp at h
 . rename_i vf hvf
   obtain ⟨fn,hf,hc⟩:=Hi.FW hT hvf
   simp only [] at h
   generalize hS:reach 1000 L (Hh args) []=S at h
   have hSL:∀ x∈S,L.to x.1=some x.2:=by rw [<- hS];exact so 1000 _ _ (by simp)
   have Ac : (S.map (·.1)).Nodup:=by
     rw [<- hS]
     have:∀ (n:Nat) (is:List Id) (S:List (Id × dF)),(S.map (·.1)).Nodup->((reach n L is S).map (·.1)).Nodup:=by
       intro n
       induction n with
       | zero=>intro is S h;exact h
       | succ n ih =>
         intro is S h
         cases is with
         | nil=>simpa [reach] using h
         | cons i is =>
           simp only [reach]
           split
           . exact ih is S h
           . rename_i hl
             split
             . refine ih _ _ ?_
               simp only [List.map_cons,List.nodup_cons]
               refine ⟨fun hm => ?_,h⟩
               obtain ⟨x,hx,he⟩:=List.mem_map.1 hm
               rw [List.lookup_eq_none_iff] at hl
               have:=hl x hx
               simp [he] at this
             . exact ih is S h
     exact this _ _ _ (by simp)
   have JQ:Clean S (S.map fun x=>(x.1,x.2,false)):=by
     refine ⟨fun i b hm => ?_,by simpa [List.map_map,Function.comp_def] using Ac⟩
     obtain ⟨x,hx,he⟩:=List.mem_map.1 hm
     simp only [Prod.mk.injEq,and_true] at he
     obtain ⟨rfl,rfl⟩:=he
     exact yz Ac hx
   have hto:(aL.to (S.map fun x=>(x.1,x.2,false)))=aa.of S:=funext fun i=>EB S i
   have fin:∀ e s,(e=cH.normal∨e = .ret)->R vf.body p ⟨args++List.replicate (vf.nt-args.length) (.tup []),S.map fun x=>(x.1,x.2,false),0⟩=some (e,s) ->
       (match bU vf.results s.to with | some r0=>some ({ val:=r0,rd:=S.map (·.1),up:=ups S (s.L.live (reach 1000 s.L (r0.ids++S.map (·.1)) [])) }:dQ) | none=>none)=some r ->
       ∃ S,aB P G f args p S r/\(∀ x∈S,L.to x.1=some x.2)/\∀ x∈S,x.1∈r.rd:=by
     intro e s he eH CG
     split at CG
     . rename_i r0 Vm
       simp only [Option.some.injEq] at CG
       refine ⟨S,aB.Vn hf hc ?_,hSL,fun x hx=>by rw [<- CG];exact List.mem_map.2 ⟨x,hx,rfl⟩⟩
       have hv:=hR _ _ _ _ _ eH
       have e0:(LS.to ⟨args++List.replicate (vf.nt-args.length) (.tup []),S.map fun x=>(x.1,x.2,false),0⟩)=⟨args++List.replicate (vf.nt-args.length) (.tup []),aa.of S,0⟩:=by
         simp only [LS.to,hto]
       rw [e0] at hv
       refine hv.mono fun e' s2 hq => ?_
       obtain ⟨rfl,rfl⟩:=hq
       refine ⟨he,r0,Vm,Fin.same (by rw [<- CG]) fun i => ?_⟩
       rw [<- CG]
       have uP:=hRc S _ _ _ _ _ eH JQ
       have h1:=PE (uP.live (reach 1000 s.L (r0.ids++S.map (·.1)) [])) i
       rw [h1]
       rcases aL.Ns s.L (reach 1000 s.L (r0.ids++S.map (·.1)) []) i with h | h
       . exact .inl h
       . exact .inr h
     . simp at CG
   split at h
   . rename_i s hs;exact fin _ s (.inl rfl) hs h
   . rename_i s hs;exact fin _ s (.inr rfl) hs h
   . simp at h
theorem CH {c:b8} {π : Id}:∀ (m:Nat),(∀ m'<m,∀ s s' e,run G X T m' c π s=some (e,s')->VW P G π c (fun e' s2=>e'=e/\s2=s'.to) s.to) ->
   ∀ s s' e,run G X T m (.loop c) π s=some (e,s')->∃ n,VRd P G π c (fun e' s2=>e'=e/\s2=s'.to) n s.to
 | 0,_,_,_,_,h=>by simp [run] at h
 | m + 1,hb,s,s',e,h=>by
   simp only [run] at h
   split at h
   . rename_i s1 h1
     obtain ⟨n,hn⟩:=CH m (fun m' hm=>hb m' (by omega)) s1 s' e h
     refine ⟨n+1,(hb m (by omega) s s1 _ h1).mono fun e' s2 hq => ?_⟩
     obtain ⟨rfl,rfl⟩:=hq
     exact hn
   . rename_i h1
     refine ⟨1,(hb m (by omega) s s' e h).mono fun e' s2 hq => ?_⟩
     obtain ⟨rfl,rfl⟩:=hq
     cases e' with
     | normal=>exact absurd h (h1 _)
     | exit i=>exact ⟨rfl,rfl⟩
     | ret=>exact ⟨rfl,rfl⟩
theorem kx (hX:k9 P G X) (hT:T.Of P):∀ (m:Nat) (c:b8) (π : Id) (s s':LS) (e:cH),run G X T m c π s=some (e,s')->VW P G π c (fun e' s2=>e'=e/\s2=s'.to) s.to
 | 0,_,_,_,_,_,h=>by simp [run] at h
 | m + 1,c, π,s,s',e,h=>by
   cases c with
   | skip=>simp only [run,Option.some.injEq,Prod.mk.injEq] at h;obtain ⟨rfl,rfl⟩:=h;exact VW.skip ⟨rfl,rfl⟩
   | ret=>simp only [run,Option.some.injEq,Prod.mk.injEq] at h;obtain ⟨rfl,rfl⟩:=h;exact VW.ret ⟨rfl,rfl⟩
   | exit i=>simp only [run,Option.some.injEq,Prod.mk.injEq] at h;obtain ⟨rfl,rfl⟩:=h;exact VW.exit ⟨rfl,rfl⟩
   | seq a b =>
     simp only [run] at h
     refine VW.seq ?_
     split at h
     . rename_i s1 h1
       refine (kx hX hT m a π s s1 _ h1).mono fun e' s2 hq => ?_
       obtain ⟨rfl,rfl⟩:=hq
       exact kx hX hT m b π s1 s' e h
     . rename_i h1
       refine (kx hX hT m a π s s' e h).mono fun e' s2 hq => ?_
       obtain ⟨rfl,rfl⟩:=hq
       cases e' with
       | normal=>exact absurd h (h1 _)
       | exit i=>exact ⟨rfl,rfl⟩
       | ret=>exact ⟨rfl,rfl⟩
   | cond c a b =>
     simp only [run] at h
     split at h
     . rename_i hb;exact VW.cond hb (by simpa using kx hX hT m a π s s' e h)
     . rename_i hb;exact VW.cond hb (by simpa using kx hX hT m b π s s' e h)
     . simp at h
   | block i c =>
     simp only [run] at h
     refine VW.block ?_
     split at h
     . rename_i j s1 h1
       refine (kx hX hT m c π s s1 _ h1).mono fun e' s2 hq => ?_
       obtain ⟨rfl,rfl⟩:=hq
       simp only []
       split at h
       . rename_i hj;simp only [Option.some.injEq,Prod.mk.injEq] at h;obtain ⟨rfl,rfl⟩:=h;simp [hj]
       . rename_i hj;simp only [Option.some.injEq,Prod.mk.injEq] at h;obtain ⟨rfl,rfl⟩:=h;simp [hj]
     . rename_i h1
       refine (kx hX hT m c π s s' e h).mono fun e' s2 hq => ?_
       obtain ⟨rfl,rfl⟩:=hq
       cases e' with
       | normal=>exact ⟨rfl,rfl⟩
       | exit i=>exact absurd h (h1 _ _)
       | ret=>exact ⟨rfl,rfl⟩
   | loop c =>
     obtain ⟨n,hn⟩:=CH (m+1) (fun m' hm s s' e hr=>kx hX hT m' c π s s' e hr) s s' e h
     exact VW.rounds n hn
   | reg ps os =>
     simp only [run] at h
     have hC:k9 P G (xE X (run G X T m) T):=yA hX hT (fun c π s e s' hr=>kx hX hT m c π s s' e hr) (fun _ c π s e s' hr=>iA m c π s s' e hr)
     split at h
     . simp at h
     . rename_i rs t L h1
       cases ps with
       | none =>
         simp only [Option.some.injEq,Prod.mk.injEq] at h
         obtain ⟨rfl,rfl⟩:=h
         exact VW.Pw (Ab hC ⟨rfl,rfl⟩ os _ _ _ _ h1)
       | some ps =>
         simp only [] at h
         split at h
         . rename_i zJ
           simp only [Option.some.injEq,Prod.mk.injEq] at h
           obtain ⟨rfl,rfl⟩:=h
           exact VW.Px (Aa hC ⟨CE zJ,rfl,rfl⟩ os _ _ _ _ h1)
         . simp at h
 termination_by m=>m
theorem PG (hX:k9 P G X) (hT:T.Of P) (m:Nat) {f:FuncId} {args:List AV} {p:Id} {L:aL} {r:dQ} (h:xE X (run G X T m) T f args p L=some r) :
   ∃ S,aB P G f args p S r/\(∀ x∈S,L.to x.1=some x.2)/\∀ x∈S,x.1∈r.rd :=
 yA hX hT (fun c π s e s' hr=>kx hX hT m c π s s' e hr) (fun _ c π s e s' hr=>iA m c π s s' e hr) f args p L r h
end
end Go.VL
end

section
namespace Go.VL
open Go.RowKit
theorem aB.vD {P:Program} {G:Nat->Option (List AV)} {f:FuncId} {fn:Func} (hf:P.funcs[f]? = some fn) (sk:(fn.name == "runtime.NumGoroutine")=false) (hb:fn.body.isSome=true) {args:List AV} {p:Id} {S:List (Id × dF)} {val:AV} {rd:List Id}
   (h:∀ own E w σ vs,(∀ x∈S, σ x.1=some x.2)->Inv G own E w σ -> aO E w args vs->Calls P f vs.toArray w fun e w'=>∃ v,e = .returned v/\Below w.heap.size w w'/\Ld val v) :
   aB P G f args p S { val,rd }:=by
 refine ⟨⟨fn,hf,sk,hb⟩,fun own E w σ vs hS hi hr _=>(h own E w σ vs hS hi hr).mono fun e w' he => ?_⟩
 obtain ⟨v,rfl,hB,hv⟩:=he
 have gr:Adv own E E w w':=⟨⟨fun _ _ h=>h,fun _ h=>h,fun b hb=>hB.block b (hi.okb b hb)⟩,hB.os,hB.tape,hB.output,hB.size,fun k hk _=>hB.block k hk,fun _ h => .inl h⟩
 refine ⟨v,E,rfl,gr, ?_,hv E w',fun _ _=>rfl⟩
 refine hi.keep gr rfl (fun b hb=>Nat.lt_of_lt_of_le (hi.okb b hb) hB.size) fun id bk g N hs hm => ?_
 obtain ⟨g',N',cur,ty,uE⟩:=hi.blk id bk hs
 rw [uE.μ] at hm
 simp only [Option.some.injEq,Prod.mk.injEq] at hm
 obtain ⟨rfl,_,rfl⟩:=hm
 exact ⟨hB.block _ (dK uE.heap),uE.no⟩
theorem PI {G:Nat->Option (List AV)} {own:Nat->Prop} {E:Env} {w:World} {σ : aa} (hi:Inv G own E w σ) {x:AV} {v:Value} (hx:aM E w x v) {k:IntKind} {zs:List Int} {rd:List Id} (h:dD σ 1 x=some (zs.map (AV.int k),rd)) :
   ∃ a cap,v = .slice a zs.length cap/\zs.length<=cap/\(zs=[]∨∃ b o,a=some ⟨b,o,none⟩/\b<w.heap.size/\∀ j,j<zs.length->w.cell? ⟨b,o+j,none⟩=some (.int k (zs[j]?.getD 0))):=by
 obtain ⟨_,a,cap,rfl,hle,hr⟩:=wy hi hx h
 refine ⟨a,cap,by simp,by simpa using hle, ?_⟩
 rcases hr with hr | ⟨b,o,rfl,hr⟩
 . left;simpa using hr
 . cases zs with
   | nil=>exact .inl rfl
   | cons z zs =>
     right
     have Cc:flat ((z::zs).map (AV.int k))=(z::zs).map (AV.int k):=by
       generalize z::zs=l
       induction l with
       | nil=>rfl
       | cons y l ih=>simp only [List.map_cons,flat,List.flatMap_cons,AV.cells] at ih ⊢;rw [ih];rfl
     rw [Cc] at hr
     have hc:∀ j,j<(z::zs).length->w.cell? ⟨b,o+j,none⟩=some (.int k ((z::zs)[j]?.getD 0)):=by
       intro j hj
       obtain ⟨v,h1,h2⟩:=hr j (.int k (z::zs)[j]) (by rw [List.getElem?_map,List.getElem?_eq_getElem hj];rfl)
       simp only [aM] at h2
       subst h2
       rw [h1,List.getElem?_eq_getElem hj];rfl
     refine ⟨b,o,rfl, ?_,hc⟩
     have:=hc 0 (by simp)
     cases hh:w.heap[b]? with
     | none=>simp [World.cell?,hh] at this
     | some ob=>exact (Array.getElem?_eq_some_iff.1 hh).1
end Go.VL
end

section
namespace Go.VL
def dF.fz (b:dF):dF:={ b with fr:=true }
def rm (S:List (Id × dF)):List (Id × Option dF):=S.map fun x=>(x.1,some x.2.fz)
open Classical in
theorem B0 {σ : aa} (i:Id):∀ (S:List (Id × dF)) (σ0:aa),(∀ x∈S, σ x.1=some x.2) -> σ0.app (rm S) i=if ∃ x∈S,x.1=i then (σ i).map dF.fz else σ0 i
 | [], σ0,_=>by simp [rm,aa.app]
 | x :: S, σ0,h=>by
   show aa.app (σ0.put x.1 (some x.2.fz)) (rm S) i=_
   rw [B0 i S _ fun y hy=>h y (List.mem_cons_of_mem _ hy)]
   by_cases h1:∃ y∈S,y.1=i
   . rw [if_pos h1,if_pos]
     obtain ⟨y,hy,e⟩:=h1
     exact ⟨y,List.mem_cons_of_mem _ hy,e⟩
   . rw [if_neg h1]
     by_cases h2:i=x.1
     . subst h2
       rw [if_pos ⟨x,by simp,rfl⟩,h x (by simp),aa.bd];rfl
     . rw [if_neg,aa.bj _ _ _ h2]
       rintro ⟨y,hy,e⟩
       rcases List.mem_cons.1 hy with rfl | hy
       . exact h2 e.symm
       . exact h1 ⟨y,hy,e⟩
theorem Ad {S:List (Id × dF)} {σ : aa} (hS:∀ x∈S, σ x.1=some x.2) {x:Id × dF} (hx:x∈S):aa.of S x.1=some x.2:=by
 cases hl:S.lookup x.1 with
 | none =>
   rw [List.lookup_eq_none_iff] at hl
   have:=hl x hx
   simp at this
 | some b =>
   have:=hS _ (gn hl)
   rw [hS x hx] at this
   show S.lookup x.1=_
   rw [hl];exact this.symm
section
variable {P:Program} {G:Nat->Option (List AV)}
theorem Inv.froze {own:Nat->Prop} {E:Env} {w:World} {σ : aa} {S:List (Id × dF)} (hi:Inv G own E w σ) (hS:∀ x∈S, σ x.1=some x.2) :
   Inv G (fun k=>w.heap.size<=k) (E.froze (aa.of S)) w (fun _=>none) where
 okb := by
   rintro b (hb | ⟨id,bk,k,N,hs,hm⟩)
   . exact hi.okb b hb
   . obtain ⟨g,N',cur,ty,hB⟩:=hi.blk id bk (hS _ (gn hs))
     rw [hB.μ] at hm
     simp only [Option.some.injEq,Prod.mk.injEq] at hm
     rw [<- hm.1];exact dK hB.heap
 blk:=fun id bk h=>by simp at h
 inj:=fun i j x y h=>absurd rfl h
 glob:=fun g cs hg=>by
   obtain ⟨h1,h2⟩:=hi.glob g cs hg
   exact ⟨.inl h1,cv.keep (⟨fun _ _ h=>h,fun _ h => .inl h,fun _ _=>rfl⟩:Step E.bare (E.froze (aa.of S)).bare w w) rfl cs 0 h2⟩
 new:=fun k hk=>hk
theorem aB.Lp {f:FuncId} {args gw:List AV} {r:AV} {p:Id} {S:List (Id × dF)} (h:VP P G f gw r) (hv:aY (aa.of S) args gw) :
   aB P G f args p S { val:=r,rd:=S.map (·.1),up:=rm S }:=by
 refine ⟨h.1,fun own E w σ vs hS hi hr hμ => ?_⟩
 have zS:=hv.rl (hi.sub (aa.vA hS)) hr
 refine (h.2 w vs _ (hi.froze hS) zS).mono fun e w' he => ?_
 obtain ⟨v,GD,rfl,gu,ml,nA⟩:=he
 have gr:Adv own E ⟨E.μ,GD⟩ w w':=by
   refine ⟨⟨fun _ _ h=>h,fun b hb=>gu.step.ok b (.inl hb),fun b hb=>gu.step.same b (.inl hb)⟩,gu.os,gu.tape,gu.output,gu.size,fun k hk _=>gu.block k hk (by omega),fun b hb => ?_⟩
   rcases gu.Tb b hb with (h1 | ⟨id,bk,k,N,hs,hm⟩) | h1
   . exact .inl h1
   . obtain ⟨g,N',cur,ty,hB⟩:=hi.blk id bk (hS _ (gn hs))
     rw [hB.μ] at hm
     simp only [Option.some.injEq,Prod.mk.injEq] at hm
     rw [<- hm.1];exact .inr hB.own
   . exact .inr (hi.new b h1)
 refine ⟨v,⟨E.μ,GD⟩,rfl,gr, ?_,aM.keep (⟨fun _ _ h=>by simp at h,fun _ h=>h,fun _ _=>rfl⟩:Step ⟨fun _=>none,GD⟩ ⟨E.μ,GD⟩ w' w') r v nA,fun _ _=>rfl⟩
 have D1:=fun i=>B0 (σ := σ) i S σ hS
 refine ⟨ml,fun id bk hs => ?_,fun i j x y jf BZ bY hx hy => ?_,fun g cs hg => ?_,fun k hk=>hi.new k (Nat.le_trans gu.size hk)⟩
 . have l7 : σ.app (rm S) id=some bk:=hs
   rw [D1 id] at l7
   split at l7
   . rename_i vp
     obtain ⟨x,hx,rfl⟩:=vp
     rw [hS x hx] at l7
     simp only [Option.map_some,Option.some.injEq] at l7
     subst l7
     obtain ⟨g,N,cur,ty,hB⟩:=hi.blk _ _ (hS x hx)
     have hb:=gu.block g (dK hB.heap) (by have:=dK hB.heap;omega)
     exact ⟨g,N,cur,ty,hB.μ,hb.trans hB.heap,hB.size,hB.len,hB.most,hB.own,fun _=>gu.step.ok g (.inr ⟨x.1,x.2,x.2.k,N,Ad hS hx,hB.μ⟩),fun hf=>by simp [dF.fz] at hf,hB.k,gQ.keep gr.step hb hB.row⟩
   . rename_i PJ
     obtain ⟨g,N,cur,ty,hB⟩:=hi.blk _ _ l7
     have hg:=dK hB.heap
     refine ⟨g,N,cur,ty,hB.keep gr.step (gu.block g hg (by omega)) fun hf hb => ?_⟩
     rcases gu.Tb g hb with (h1 | ⟨Vi,bk2,k2,N2,zK,tc⟩) | h1
     . exact hB.no hf h1
     . have hm:=gn zK
       refine hi.inj id Vi _ _ (by simp [l7]) (by simp [hS _ hm]) ?_ hB.μ tc rfl
       rintro rfl
       exact PJ ⟨_,hm,rfl⟩
     . omega
 . have keep:∀ i, σ.app (rm S) i≠none -> σ i≠none:=by
     intro i hn he
     apply hn
     rw [D1 i,he]
     split<;>rfl
   exact hi.inj i j x y (keep i jf) (keep j BZ) bY hx hy
 . obtain ⟨h1,h2⟩:=hi.glob g cs hg
   exact ⟨gr.step.ok g h1,cv.keep gr.step.bare (gr.step.same g h1) cs 0 h2⟩
theorem aB.of_flat {f:FuncId} {args gw:List AV} {r:AV} {p:Id} {S:List (Id × dF)} (h:VP P G f gw r) (hv:aY (aa.of S) args gw) (hf:cj r) :
   aB P G f args p S { val:=r,rd:=S.map (·.1) }:=by
 refine ⟨h.1,fun own E w σ vs hS hi hr hμ => ?_⟩
 have zS:=hv.rl (hi.sub (aa.vA hS)) hr
 refine (h.2 w vs _ (hi.froze hS) zS).mono fun e w' he => ?_
 obtain ⟨v,GD,rfl,gu,ml,nA⟩:=he
 have gr:Adv own E E w w':=⟨⟨fun _ _ h=>h,fun b hb=>hb,fun b hb=>gu.step.same b (.inl hb)⟩,gu.os,gu.tape,gu.output,gu.size,fun k hk _=>gu.block k hk (by omega),fun b hb => .inl hb⟩
 refine ⟨v,E,rfl,gr, ?_,hf _ _ _ _ _ nA,fun _ _=>rfl⟩
 refine hi.keep gr rfl (fun b hb=>Nat.lt_of_lt_of_le (hi.okb b hb) gu.size) fun id bk g N hs hm => ?_
 obtain ⟨g',N',cur,ty,uE⟩:=hi.blk id bk hs
 rw [uE.μ] at hm
 simp only [Option.some.injEq,Prod.mk.injEq] at hm
 obtain ⟨rfl,_,rfl⟩:=hm
 have hg:=dK uE.heap
 exact ⟨gu.block _ hg (by omega),uE.no⟩
def Nt (S:List (Id × dF)):List AV->List AV->Prop
 | [],[]=>True
 | c::cs,d::ds=>(d = .top∨d=c∨View (aa.of S) c d)/\Nt S cs ds
 | _,_=>False
theorem Nt.rep {own:Nat->Prop} {E:Env} {w:World} {S:List (Id × dF)} (hi:Inv G own E w (aa.of S)):∀ {cs ds:List AV} {vs:List Value},Nt S cs ds->aO E w cs vs->aO ⟨E.μ,(E.froze (aa.of S)).ok⟩ w ds vs
 | [],[],_,_,h=>by simpa [aO] using h
 | c::cs,d::ds,vs,hf,h=>by
   simp only [Nt] at hf
   simp only [aO] at h ⊢
   obtain ⟨v,rest,e,h1,h2⟩:=h
   refine ⟨v,rest,e, ?_,Nt.rep hi hf.2 h2⟩
   rcases hf.1 with rfl | rfl | hv
   . simp [aM]
   . exact aM.keep (⟨fun _ _ h=>h,fun _ h => .inl h,fun _ _=>rfl⟩:Step E ⟨E.μ,(E.froze (aa.of S)).ok⟩ w w) _ v h1
   . exact aM.keep (⟨fun _ _ h=>by simp [Env.froze] at h,fun _ h=>h,fun _ _=>rfl⟩:Step (E.froze (aa.of S)) ⟨E.μ,(E.froze (aa.of S)).ok⟩ w w) _ v (hv _ _ _ _ _ hi h1)
 | [],_::_,_,h,_=>by simp [Nt] at h
 | _::_,[],_,h,_=>by simp [Nt] at h
theorem Wk.freeze {π : Id} {t t':List AV} {σ σ':aa} {n n':Nat} (S:List (Id × dF)) (hS:∀ x∈S, σ x.1=some x.2) (ht:Nt S t t')
   (hs:∀ id, σ' id=none ∨ σ' id = σ.app (rm S) id) (hn:n<=n'):Wk G π ⟨t, σ,n⟩ ⟨t', σ',n'⟩:=fun own E w a hm=>by
 have hi:=hm.inv
 let E':Env:=⟨E.μ,(E.froze (aa.of S)).ok⟩
 have gr:Adv own E E' w w:=by
   refine ⟨⟨fun _ _ h=>h,fun b hb => .inl hb,fun b hb=>rfl⟩,rfl,rfl,rfl,Nat.le_refl _,fun k hk _=>rfl,fun b hb => ?_⟩
   rcases hb with h1 | ⟨id,bk,k,N,hs,hm⟩
   . exact .inl h1
   . obtain ⟨g,N',cur,ty,hB⟩:=hi.blk id bk (hS _ (gn hs))
     rw [hB.μ] at hm
     simp only [Option.some.injEq,Prod.mk.injEq] at hm
     rw [<- hm.1];exact .inr hB.own
 refine ⟨E',⟨gr,fun _ _=>rfl⟩,ht.rep (hi.sub (aa.vA hS)) hm.frame, ?_,hm.free.mono hn,hm.defers⟩
 refine Inv.sub (σ := σ.app (rm S)) ?_ hs
 have D1:=fun i=>B0 (σ := σ) i S σ hS
 refine ⟨(hi.froze hS).okb,fun id bk hs => ?_,fun i j x y jf BZ bY hx hy => ?_,fun g cs hg => ?_,hi.new⟩
 . have l7 : σ.app (rm S) id=some bk:=hs
   rw [D1 id] at l7
   split at l7
   . rename_i vp
     obtain ⟨x,hx,rfl⟩:=vp
     rw [hS x hx] at l7
     simp only [Option.map_some,Option.some.injEq] at l7
     subst l7
     obtain ⟨g,N,cur,ty,hB⟩:=hi.blk _ _ (hS x hx)
     exact ⟨g,N,cur,ty,hB.μ,hB.heap,hB.size,hB.len,hB.most,hB.own,fun _ => .inr ⟨x.1,x.2,x.2.k,N,Ad hS hx,hB.μ⟩,fun hf=>by simp [dF.fz] at hf,hB.k,gQ.keep gr.step rfl hB.row⟩
   . rename_i PJ
     obtain ⟨g,N,cur,ty,hB⟩:=hi.blk _ _ l7
     have hg:=dK hB.heap
     refine ⟨g,N,cur,ty,hB.keep gr.step rfl fun hf hb => ?_⟩
     rcases hb with h1 | ⟨Vi,bk2,k2,N2,zK,tc⟩
     . exact hB.no hf h1
     . have hm:=gn zK
       refine hi.inj id Vi _ _ (by simp [l7]) (by simp [hS _ hm]) ?_ hB.μ tc rfl
       rintro rfl
       exact PJ ⟨_,hm,rfl⟩
 . have keep:∀ i, σ.app (rm S) i≠none -> σ i≠none:=by
     intro i hn he
     apply hn
     rw [D1 i,he]
     split<;>rfl
   exact hi.inj i j x y (keep i jf) (keep j BZ) bY hx hy
 . obtain ⟨h1,h2⟩:=hi.glob g cs hg
   exact ⟨gr.step.ok g h1,cv.keep gr.step.bare (gr.step.same g h1) cs 0 h2⟩
end
end Go.VL
end

section
namespace Go.VL
def fnB:Fn->Fn->Bool
 | .func a, .func b=>a==b
 | _,_=>false
theorem WE:∀ {a b:Fn},fnB a b=true->a=b:=by
 intro a b h
 cases a<;>cases b<;>simp [fnB] at h
 subst h;rfl
mutual
def EC:AV->AV->Bool
 | .bool a, .bool b=>a==b
 | .int k n, .int k' n'=>decide (k=k')&&n==n'
 | .str a, .str b=>a==b
 | .nilp, .nilp=>true
 | .nilf, .nilf=>true
 | .fn f a c, .fn f' a' c'=>fnB f f'&&yB a a'&&yB c c'
 | .agg a, .agg b=>yB a b
 | .tup a, .tup b=>yB a b
 | .sl k a, .sl k' b=>k==k'&&yB a b
 | .tsl k a, .tsl k' b=>k==k'&&yB a b
 | .nils, .nils=>true
 | .osl i k o l t, .osl i' k' o' l' t'=>i==i'&&k==k'&&o==o'&&l==l'&&t==t'
 | .ref i e o, .ref i' e' o'=>i==i'&&e==e'&&o==o'
 | .ep a o, .ep b o'=>yB a b&&o==o'
 | .top, .top=>true
 | .anyb, .anyb=>true
 | .ige n, .ige m=>n==m
 | _,_=>false
def yB:List AV->List AV->Bool
 | [],[]=>true
 | a::as,b::bs=>EC a b&&yB as bs
 | _,_=>false
end
mutual
theorem PK:∀ {a b:AV},EC a b=true->a=b
 | .bool a,b,h=>by cases b<;>simp [EC] at h;subst h;rfl
 | .int k n,b,h=>by cases b<;>simp [EC] at h;obtain ⟨rfl,rfl⟩:=h;rfl
 | .str a,b,h=>by cases b<;>simp [EC] at h;subst h;rfl
 | .nilp,b,h=>by cases b<;>simp [EC] at h;rfl
 | .nilf,b,h=>by cases b<;>simp [EC] at h;rfl
 | .fn f a c,b,h=>by
   cases b<;>simp [EC] at h
   obtain ⟨⟨h1,h2⟩,h3⟩:=h
   rw [WE h1,od h2,od h3]
 | .agg a,b,h=>by cases b<;>simp [EC] at h;rw [od h]
 | .tup a,b,h=>by cases b<;>simp [EC] at h;rw [od h]
 | .sl k a,b,h=>by cases b<;>simp [EC] at h;obtain ⟨rfl,h⟩:=h;rw [od h]
 | .tsl k a,b,h=>by cases b<;>simp [EC] at h;obtain ⟨rfl,h⟩:=h;rw [od h]
 | .nils,b,h=>by cases b<;>simp [EC] at h;rfl
 | .osl i k o l t,b,h=>by cases b<;>simp [EC] at h;obtain ⟨⟨⟨⟨rfl,rfl⟩,rfl⟩,rfl⟩,rfl⟩:=h;rfl
 | .ref i e o,b,h=>by cases b<;>simp [EC] at h;obtain ⟨⟨rfl,rfl⟩,rfl⟩:=h;rfl
 | .ep a o,b,h=>by cases b<;>simp [EC] at h;obtain ⟨h,rfl⟩:=h;rw [od h]
 | .top,b,h=>by cases b<;>simp [EC] at h;rfl
 | .anyb,b,h=>by cases b<;>simp [EC] at h;rfl
 | .ige n,b,h=>by cases b<;>simp [EC] at h;subst h;rfl
theorem od:∀ {a b:List AV},yB a b=true->a=b
 | [],[],_=>rfl
 | x::xs,y::ys,h=>by simp only [yB,Bool.and_eq_true] at h;rw [PK h.1,od h.2]
 | [],_::_,h=>by simp [yB] at h
 | _::_,[],h=>by simp [yB] at h
end
def TE (a b:dF):Bool:=yB a.els b.els&&a.k==b.k&&a.fr==b.fr
theorem Lq {a b:dF} (h:TE a b=true):a=b:=by
 obtain ⟨x,y,z⟩:=a;obtain ⟨x',y',z'⟩:=b
 simp only [TE,Bool.and_eq_true,beq_iff_eq] at h
 obtain ⟨⟨h1,rfl⟩,rfl⟩:=h
 rw [od h1]
def Yw:List (Id × dF)->List (Id × dF)->Bool
 | [],[]=>true
 | (i,a)::as,(j,b)::bs=>i==j&&TE a b&&Yw as bs
 | _,_=>false
theorem PL:∀ {a b:List (Id × dF)},Yw a b=true->a=b
 | [],[],_=>rfl
 | (i,x)::xs,(j,y)::ys,h=>by
   simp only [Yw,Bool.and_eq_true,beq_iff_eq] at h
   obtain ⟨⟨rfl,h1⟩,h2⟩:=h
   rw [Lq h1,PL h2]
 | [],_::_,h=>by simp [Yw] at h
 | _::_,[],h=>by simp [Yw] at h
structure Hj where
 f:FuncId
 p:Id
 args:List AV
 S:List (Id × dF)
 r:dQ
def yC (ms:List Hj) (f:FuncId) (args:List AV) (p:Id) (L:aL):Option dQ :=
 match ms with
 | []=>none
 | m::ms=>if m.f=f/\m.p=p/\yB m.args args=true/\Yw m.S (reach 1000 L (Hh args) [])=true then some m.r else yC ms f args p L
def xF (P:Program) (G:Nat->Option (List AV)) (m:Hj):Prop:=∃ S,aB P G m.f m.args m.p S m.r/\(∀ x∈S,aa.of m.S x.1=some x.2)/\∀ x∈S,x.1∈m.r.rd
theorem CI {P:Program} {G:Nat->Option (List AV)}:∀ {ms:List Hj},(∀ m∈ms,xF P G m)->k9 P G (yC ms)
 | [],_,_,_,_,_,_,h=>by simp [yC] at h
 | m :: ms,hm,f,args,p,L,r,h=>by
   simp only [yC] at h
   split at h
   . rename_i hh
     obtain ⟨rfl,rfl,h1,h2⟩:=hh
     simp only [Option.some.injEq] at h;subst h
     have e1:=od h1;subst e1
     have e2:=PL h2
     obtain ⟨S,h3,h4,h5⟩:=hm m (by simp)
     exact ⟨S,h3,fun x hx=>by have:=gn (h4 x hx);rw [e2] at this;exact so 1000 _ _ (by simp) _ this,h5⟩
   . exact CI (fun x hx=>hm x (List.mem_cons_of_mem _ hx)) f args p L r h
def PM:List (Id × Option dF)->List (Id × Option dF)->Bool
 | [],[]=>true
 | (i,some a)::as,(j,some b)::bs=>i==j&&TE a b&&PM as bs
 | (i,none)::as,(j,none)::bs=>i==j&&PM as bs
 | _,_=>false
theorem J5:∀ {a b:List (Id × Option dF)},PM a b=true->a=b
 | [],[],_=>rfl
 | (i,some x)::xs,(j,some y)::ys,h=>by
   simp only [PM,Bool.and_eq_true,beq_iff_eq] at h
   obtain ⟨⟨rfl,h1⟩,h2⟩:=h
   rw [Lq h1,J5 h2]
 | (i,none)::xs,(j,none)::ys,h=>by
   simp only [PM,Bool.and_eq_true,beq_iff_eq] at h
   obtain ⟨rfl,h2⟩:=h
   rw [J5 h2]
 | (_,some _)::_,(_,none)::_,h=>by simp [PM] at h
 | (_,none)::_,(_,some _)::_,h=>by simp [PM] at h
 | [],_::_,h=>by simp [PM] at h
 | (_,some _)::_,[],h=>by simp [PM] at h
 | (_,none)::_,[],h=>by simp [PM] at h
def TF (o:Option dQ) (r:dQ):Bool:=match o with
 | some x=>EC x.val r.val&&x.rd==r.rd&&PM x.up r.up
 | none=>false
theorem TG {o:Option dQ} {r:dQ} (h:TF o r=true):o=some r:=by
 unfold TF at h
 split at h
 . rename_i x
   obtain ⟨a,b,c⟩:=x;obtain ⟨a',b',c'⟩:=r
   simp only [Bool.and_eq_true,beq_iff_eq] at h
   obtain ⟨⟨h1,rfl⟩,h3⟩:=h
   rw [PK h1,J5 h3]
 . simp at h
theorem xF.run {P:Program} {G:Nat->Option (List AV)} {X:FuncId->List AV->Id->aL->Option dQ} (hX:k9 P G X) {T:Hi} (hT:T.Of P) (n:Nat) (m:Hj)
   (h:TF (xE X (run G X T n) T m.f m.args m.p (m.S.map fun x=>(x.1,x.2,false))) m.r=true):xF P G m:=by
 obtain ⟨S,h1,h2,h3⟩:=PG hX hT n (TG h)
 exact ⟨S,h1,fun x hx=>by have:=h2 x hx;rwa [show aL.to (m.S.map fun x=>(x.1,x.2,false))=aa.of m.S from funext fun i=>EB m.S i] at this,h3⟩
theorem k9.or {P:Program} {G:Nat->Option (List AV)} {A B:FuncId->List AV->Id->aL->Option dQ} (ha:k9 P G A) (hb:k9 P G B) :
   k9 P G fun f args p L=>match A f args p L with | some r=>some r | none=>B f args p L:=by
 intro f args p L r h
 simp only [] at h
 split at h
 . rename_i r' hr;simp only [Option.some.injEq] at h;subst h;exact ha _ _ _ _ _ hr
 . exact hb _ _ _ _ _ h
end Go.VL
end

section
namespace Go.VL
section
variable {P:Program} {G:Nat->Option (List AV)}
theorem VP.wC {f:FuncId} {args:List AV} {r:dQ} (h:aB P G f args [] [] r) (hf:cj r.val):VP P G f args r.val:=by
 refine ⟨h.1,fun w vs ok hi hr => ?_⟩
 refine (h.2 _ _ w _ vs (by simp) hi hr (fun _ _=>rfl)).mono fun e w' he => ?_
 obtain ⟨v,E',rfl,hp⟩:=he
 refine ⟨v,ok,rfl,⟨⟨fun _ _ h=>h,fun _ h=>h,hp.Ce.step.same⟩,hp.Ce.os,hp.Ce.tape,hp.Ce.output,hp.Ce.size,hp.Ce.block,fun _ h => .inl h⟩,fun b hb => ?_,hf _ _ _ _ _ hp.rep⟩
 exact Nat.lt_of_lt_of_le (hi.okb b hb) hp.Ce.size
theorem VP.TH {m:Hj} (h:xF P G m) (hS:m.S=[]) (hp:m.p=[]) (hf:cj m.r.val):VP P G m.f m.args m.r.val:=by
 obtain ⟨S,h1,h2,_⟩:=h
 have:S=[]:=by
   cases S with
   | nil=>rfl
   | cons x S=>have:=h2 x (by simp);rw [hS] at this;simp [aa.of] at this
 subst this
 rw [hp] at h1
 exact VP.wC h1 hf
end
end Go.VL
end
