/- For the claim of FeatureLimits: parts VL15, VL16, VL17, VL18, VL19, VL20, VL22, VL24, VL25, VL26, VLA, VLS, VL27, GA, GF. -/
import Derived.Test.YtchdghnpcekegaaGreatDoorC02
import Derived.LoopN
set_option linter.unusedSimpArgs false
set_option linter.unusedVariables false
section
namespace Go.VL
theorem Dd {X Y:Nat->Bool}:∀ (L:List Done) (i:Nat) (t:List AV),(∀ k,k<L.length->X (i+k)=Y (i+k))->eW X L i t=eW Y L i t
 | [],_,_,_=>rfl
 | (d,r)::L,i,t,h=>by
   simp only [eW]
   have h0:=h 0 (by simp)
   rw [Nat.add_zero] at h0
   rw [h0]
   exact Dd L (i+1) _ (fun k hk=>by rw [show i+1+k=i+(k+1) from by omega];exact h (k+1) (by simpa using hk))
theorem De {X Y:Nat->Bool}:∀ (L:List Done) (i:Nat) (σ : af),(∀ k,k<L.length->X (i+k)=Y (i+k))->gG X L i σ = gG Y L i σ
 | [],_,_,_=>rfl
 | (d,r)::L,i,t,h=>by
   simp only [gG]
   have h0:=h 0 (by simp)
   rw [Nat.add_zero] at h0
   rw [h0]
   exact De L (i+1) _ (fun k hk=>by rw [show i+1+k=i+(k+1) from by omega];exact h (k+1) (by simpa using hk))
theorem Iu {X Y:Nat->Bool} {i:Nat} (hX:X i=false) (hY:Y i=true) (hXY:∀ k,X k=true->Y k=true):∀ (l:List Nat),i∈l->l.countP X<l.countP Y
 | [],h=>by simp at h
 | a :: l,h=>by
   have hle:l.countP X<=l.countP Y:=List.countP_mono_left fun x _ hx=>hXY x hx
   simp only [List.countP_cons]
   rcases List.mem_cons.1 h with rfl | h
   . simp [hX,hY];omega
   . have:=Iu hX hY hXY l h
     by_cases ha:X a=true
     . simp [ha,hXY a ha];omega
     . simp [ha];split<;>omega
theorem FU {X:Nat->Bool}:∀ (l:List Nat),l.length<=l.countP X->∀ i∈l,X i=true
 | [],_,i,h=>by simp at h
 | a :: l,hc,i,h=>by
   have hle:=List.countP_le_length (p:=X) (l:=l)
   simp only [List.countP_cons,List.length_cons] at hc
   by_cases ha:X a=true
   . simp only [ha,if_true] at hc
     rcases List.mem_cons.1 h with rfl | h
     . exact ha
     . exact FU l (by omega) i h
   . simp [ha] at hc;omega
section
variable {P:Program} {G:Nat->Option (List AV)} {own:Nat->Prop}
theorem BB {n i j:Nat} (QZ:i<j) (hj:j<n):(i,j)∈Bp n:=by
 unfold Bp
 rw [List.mem_flatMap]
 exact ⟨j,List.mem_range.2 hj,List.mem_map.2 ⟨i,List.mem_range.2 QZ,rfl⟩⟩
structure Mid (G:Nat->Option (List AV)) (π : Id) (own:Nat->Prop) (L:List Done) (base n:Nat) (t0:List AV) (σ0:af) (a0:Act) (E0:Env) (w0:World) (X:Nat->Bool) (E:Env) (w:World) (a:Act):Prop where
 frame:cj E w (eW X L 0 t0) a
 inv:Inv G own E w (gG X L 0 σ0)
 Hq:mQ own π E0 E w0 w
 free:∀ i,i<n->X i=false->∀ j,((base+i) :: π) <:+ j->E.μ j=none
 more:zT E π (base+n)
 defers:a.defers=a0.defers
theorem Q1 {ops:Array Oper} {vs:List bq} (Na:ops.toList.mapM (Ad P ops)=some vs) (To:Fc vs (ops.toList.map Ae)=true)
   {π : Id} {base:Nat} {t0:List AV} {σ0:af} {rs:List eP} (hrl:rs.length=vs.length)
   (hst:∀ k o r,vs[k]? = some o->rs[k]? = some r->BA P G π base o (0+k) (eW (fun m=>m<0+k) ((vs.map (·.dst)).zip rs) 0 t0) (gG (fun m=>m<0+k) ((vs.map (·.dst)).zip rs) 0 σ0) r)
   (hap:ab rs (zz vs (ops.toList.map Ae))) {a0:Act} {E0:Env} {w0:World} {Q:Exit->Act->World->Prop}
   (hQ:∀ a E w,Mid G π own ((vs.map (·.dst)).zip rs) base ops.size t0 σ0 a0 E0 w0 (fun _=>true) E w a->Q .normal a w) :
   ∀ (fuel:Nat) (listed:Array Bool) (a:Act) (E:Env) (w:World),listed.size=ops.size->ops.size<=(List.range ops.size).countP (fun i=>listed.getD i false)+fuel ->
     (∀ k,k<ops.size->listed.getD k false=true->∀ e∈(ops.toList.map Ae).getD k [],listed.getD e false=true) ->
     Mid G π own ((vs.map (·.dst)).zip rs) base ops.size t0 σ0 a0 E0 w0 (fun i=>listed.getD i false) E w a->wpAny P .any ops Q fuel listed a w:=by
 have xJ:vs.length=ops.size:=by have:=hZ Na;simpa using this
 generalize hL:(vs.map (·.dst)).zip rs=L at *
 have hLl:L.length=ops.size:=by rw [<- hL];simp [hrl,xJ]
 have OY:∀ (k:Nat) (d:Option Nat) (r:eP),L[k]? = some (d,r)↔∃ o:bq,vs[k]? = some o/\o.dst=d/\rs[k]? = some r:=by
   intro k d r
   rw [<- hL,List.getElem?_zip_eq_some]
   simp only [List.getElem?_map,Option.map_eq_some_iff]
   constructor
   . rintro ⟨⟨o,h1,h2⟩,h3⟩;exact ⟨o,h1,h2,h3⟩
   . rintro ⟨o,h1,h2,h3⟩;exact ⟨⟨o,h1,h2⟩,h3⟩
 generalize ac9:ops.toList.map Ae=qw at *
 have ala:qw.length=ops.size:=by rw [<- ac9];simp
 unfold Fc at To
 simp only [Bool.and_eq_true,List.all_eq_true] at To
 obtain ⟨⟨_,hlt⟩,aaC⟩:=To
 have Tp:∀ j,j<ops.size->∀ e∈qw.getD j [],e<j:=by
   intro j hj e he
   have:=hlt j (List.mem_range.2 (by rw [xJ];exact hj)) e he
   simpa using this
 have Hu:∀ (i j:Nat) (a b:bq),i<j->vs[i]? = some a->vs[j]? = some b->D4 a b=true->((jT qw []).getD j 0).testBit i=true:=by
   intro i j a b QZ ha hb hc
   have hj:j<vs.length:=(List.getElem?_eq_some_iff.1 hb).1
   have:=aaC (i,j) (BB QZ hj)
   simp only [ha,hb,hc,Bool.not_true,Bool.false_or] at this
   exact this
 have pS:∀ (i j:Nat) (a b:bq),i<j->vs[i]? = some a->vs[j]? = some b->a.op.pure=false->b.op.pure=false->(a.op.sY&&b.op.sY)=false->((jT qw []).getD j 0).testBit i=false->∀ (x y:eP),rs[i]? = some x->rs[j]? = some y->apart x y:=by
   intro i j a b QZ ha hb hpa hpb hll hm x y hx hy
   have hj:j<vs.length:=(List.getElem?_eq_some_iff.1 hb).1
   refine hap (i,j) ?_ x y hx hy
   unfold zz
   rw [List.mem_filter]
   exact ⟨BB QZ hj,by simp only [ha,hb,hpa,hpb,hll,hm];rfl⟩
 -- an operation that touches a block is not pure
 have touch:∀ (k:Nat) (o:bq) (r:eP),vs[k]? = some o->rs[k]? = some r->(r.rd≠[]∨r.up≠[])->o.op.pure=false:=by
   intro k o r ho hr hne
   cases hp:o.op.pure with
   | false=>rfl
   | true =>
     rcases hst k o r ho hr with ⟨_,rfl⟩ | ⟨_,hs⟩
     . simp at hne
     . obtain ⟨h1,h2⟩:=QX hp hs
       simp [h1,h2] at hne
 have Tq:∀ (k:Nat) (o:bq) (r:eP),vs[k]? = some o->rs[k]? = some r->r.up≠[]->o.op.sY=false:=by
   intro k o r ho hr hne
   cases hp:o.op.sY with
   | false=>rfl
   | true =>
     rcases hst k o r ho hr with ⟨_,rfl⟩ | ⟨_,hs⟩
     . simp at hne
     . exact absurd (QY hp hs) hne
 intro fuel
 induction fuel with
 | zero =>
   intro listed a E w hls ada Nb hm
   have KU:∀ i,i<ops.size->listed.getD i false=true:=by
     intro i hi
     have:=FU (X:=fun i=>listed.getD i false) (List.range ops.size) (by simpa using ada) i (List.mem_range.2 hi)
     exact this
   refine ⟨?_,hQ a E w ?_⟩
   . apply List.eq_nil_iff_forall_not_mem.2
     intro j hj
     obtain ⟨h1,o,h2,_⟩:=mem_ready.1 hj
     have yd:j<ops.size:=(Array.getElem?_eq_some_iff.1 h2).1
     have:=KU j yd
     rw [Array.getD_eq_getD_getElem?] at h1 this
     cases hh:listed[j]? with
     | none=>simp [hh] at this
     | some b=>simp [hh] at h1 this;simp [h1] at this
   . have e1:eW (fun i=>listed.getD i false) L 0 t0=eW (fun _=>true) L 0 t0:=Dd L 0 t0 (fun k hk=>by rw [Nat.zero_add];exact KU k (by omega))
     have e2:gG (fun i=>listed.getD i false) L 0 σ0=gG (fun _=>true) L 0 σ0:=De L 0 σ0 (fun k hk=>by rw [Nat.zero_add];exact KU k (by omega))
     exact ⟨e1▸hm.frame,e2▸hm.inv,hm.Hq,by simp,hm.more,hm.defers⟩
 | succ fuel ih =>
   intro listed a E w hls ada Nb hm
   have adb:∀ i,i<ops.size->listed.getD i true=listed.getD i false:=by
     intro i hi
     rw [Array.getD_eq_getD_getElem?,Array.getD_eq_getD_getElem?,Array.getElem?_eq_getElem (by omega)]
     rfl
   have Zg:∀ (j:Nat) (o:Oper),ops[j]? = some o->qw.getD j []=Ae o:=by
     intro j o ho
     rw [<- ac9]
     have hj:j<ops.size:=(Array.getElem?_eq_some_iff.1 ho).1
     have he:ops[j]=o:=(Array.getElem?_eq_some_iff.1 ho).2
     simp [List.getD,hj,he]
   refine ⟨?_, ?_⟩
   . -- nothing is ready: all is done
     intro BC
     have KU : ∀ i,i<ops.size->listed.getD i false=true:=by
       intro i
       induction i using Nat.strongRecOn with
       | _ i ihi =>
         intro hi
         cases hh:listed.getD i false with
         | true=>rfl
         | false =>
           exfalso
           have p9:i∈Region.ready .any ops listed:=by
             refine mem_ready.2 ⟨(adb i hi).trans hh,ops[i],by simp [hi], ?_⟩
             intro e he hb
             have agN:e.on∈qw.getD i []:=by
               rw [Zg i ops[i] (by simp [hi])]
               unfold Ae
               exact List.mem_map.2 ⟨e,List.mem_filter.2 ⟨by simpa using he,hb⟩,rfl⟩
             have:=Tp i hi e.on agN
             exact ihi e.on this (by omega)
           rw [BC] at p9
           simp at p9
     have e1:eW (fun i=>listed.getD i false) L 0 t0=eW (fun _=>true) L 0 t0:=Dd L 0 t0 (fun k hk=>by rw [Nat.zero_add];exact KU k (by omega))
     have e2:gG (fun i=>listed.getD i false) L 0 σ0=gG (fun _=>true) L 0 σ0:=De L 0 σ0 (fun k hk=>by rw [Nat.zero_add];exact KU k (by omega))
     exact hQ a E w ⟨e1▸hm.frame,e2▸hm.inv,hm.Hq,by simp,hm.more,hm.defers⟩
   . intro j hj
     obtain ⟨h1,o,ho,ade⟩:=mem_ready.1 hj
     have QC:j<ops.size:=(Array.getElem?_eq_some_iff.1 ho).1
     have hXj:listed.getD j false=false:=(adb j QC).symm.trans h1
     generalize hX:(fun i=>listed.getD i false)=X at *
     have hXd:∀ i,listed.getD i false=X i:=fun i=>by rw [<- hX]
     simp only [hXd] at Nb hXj
     have vE:∀ e∈qw.getD j [],X e=true:=by
       intro e he
       rw [Zg j o ho] at he
       unfold Ae at he
       obtain ⟨ed,hed,rfl⟩:=List.mem_map.1 he
       obtain ⟨h3,h4⟩:=List.mem_filter.1 hed
       rw [<- hXd]
       exact ade ed (by simpa using h3) h4
     have pre:∀ i,((jT qw []).getD j 0).testBit i=true->X i=true:=Ea Tp Nb j QC vE
     have post:∀ k,k<ops.size->X k=true->((jT qw []).getD k 0).testBit j=false:=by
       intro k hk EF
       cases hb:((jT qw []).getD k 0).testBit j with
       | false=>rfl
       | true=>have:=Ea Tp Nb k hk (Nb k hk EF) j hb;simp [hXj] at this
     -- the operation
     have AA:∃ vo,vs[j]? = some vo/\Ad P ops o=some vo:=by
       have hjv:j<vs.length:=by omega
       obtain ⟨o',h3,h4⟩:=mapM_some_get Na j vs[j] (by simp [hjv])
       have:o'=o:=by
         have h5:ops.toList[j]? = some o:=by simpa using ho
         rw [h5] at h3;simpa using h3.symm
       subst this
       exact ⟨vs[j],by simp [hjv],h4⟩
     obtain ⟨vo,FV,AA⟩:=AA
     obtain ⟨hop,Tm⟩:=KP AA
     have hrj:j<rs.length:=by omega
     obtain ⟨r,hr⟩:∃ r,rs[j]? = some r:=⟨rs[j],by simp [hrj]⟩
     have hsc:=hst j vo r FV hr
     rw [Nat.zero_add] at hsc
     -- a slot that it names
     have slot:∀ s∈vo.names,(eW X L 0 t0)[s]? = (eW (fun m=>m<j) L 0 t0)[s]? := by
       intro s hs
       refine sy L 0 t0 t0 rfl ?_
       intro k d r' hk hne hds
       rw [Nat.zero_add] at hne
       obtain ⟨ok,h3,h4,h5⟩:=(OY k d r').1 hk
       subst hds
       have WZ:k<ops.size:=by have:=(List.getElem?_eq_some_iff.1 h3).1;omega
       rcases Nat.lt_trichotomy k j with ym | rfl | hgt
       . have EF:X k=false:=by
           cases hh:X k with
           | false=>rfl
           | true=>simp [hh,ym] at hne
         have hc:D4 ok vo=true:=by unfold D4;simp [h4,hs]
         have:=pre k (Hu k j ok vo ym h3 FV hc)
         simp [EF] at this
       . simp [hXj] at hne
       . have EF:X k=true:=by
           cases hh:X k with
           | true=>rfl
           | false=>simp [hh,Nat.not_lt.2 (Nat.le_of_lt hgt)] at hne
         have hc:D4 vo ok=true:=by unfold D4;simp [h4,hs]
         have:=Hu j k vo ok hgt FV h3 hc
         rw [post k WZ EF] at this
         simp at this
     have aaD:vo.op.map (a6.ev G (eW X L 0 t0))=vo.op.map (a6.ev G (eW (fun m=>m<j) L 0 t0)):=by
       refine gv.map_congr _ fun x hx=>Tn x fun s hs=>slot s ?_
       unfold bq.names
       exact List.mem_append_left _ (List.mem_filterMap.2 ⟨x,hx,hs⟩)
     have Zh:eT (eW X L 0 t0) vo.guard=eT (eW (fun m=>m<j) L 0 t0) vo.guard:=by
       cases hg:vo.guard with
       | none=>rfl
       | some q =>
         obtain ⟨s,want⟩:=q
         have:=slot s (by unfold bq.names;simp [hg])
         simp only [eT,this]
     have hrd:∀ id∈r.rd,gG X L 0 σ0 id=gG (fun m=>m<j) L 0 σ0 id:=by
       intro id jS
       refine sC L 0 σ0 σ0 rfl ?_
       intro k d r' hk hne p9
       rw [Nat.zero_add] at hne
       obtain ⟨ok,h3,h4,h5⟩:=(OY k d r').1 hk
       have WZ:k<ops.size:=by have:=(List.getElem?_eq_some_iff.1 h3).1;omega
       have hpk:ok.op.pure=false:=touch k ok r' h3 h5 (.inr (by intro e;simp [e] at p9))
       have hpj:vo.op.pure=false:=touch j vo r FV hr (.inl (by intro e;simp [e] at jS))
       have Xa:ok.op.sY=false:=Tq k ok r' h3 h5 (by intro e;simp [e] at p9)
       obtain ⟨x,hx,rfl⟩:=List.mem_map.1 p9
       rcases Nat.lt_trichotomy k j with ym | rfl | hgt
       . have EF:X k=false:=by
           cases hh:X k with
           | false=>rfl
           | true=>simp [hh,ym] at hne
         have hb:((jT qw []).getD j 0).testBit k=false:=by
           cases hb:((jT qw []).getD j 0).testBit k with
           | false=>rfl
           | true=>have:=pre k hb;simp [EF] at this
         exact ((pS k j ok vo ym h3 FV hpk hpj (by simp [Xa]) hb r' r h5 hr).1 x hx).1 jS
       . simp [hXj] at hne
       . have EF:X k=true:=by
           cases hh:X k with
           | true=>rfl
           | false=>simp [hh,Nat.not_lt.2 (Nat.le_of_lt hgt)] at hne
         exact (pS j k vo ok hgt FV h3 hpj hpk (by simp [Xa]) (post k WZ EF) r r' hr h5).2 x hx jS
     -- behind it
     generalize hX':(fun i=>if i=j then true else X i)=X' at *
     have Ww:∀ i,X' i=if i=j then true else X i:=fun i=>by rw [<- hX']
     have later:∀ (k:Nat) (d:Option Nat) (r':eP),L[k]? = some (d,r')->j<k->X' k=true->∃ ok:bq,vs[k]? = some ok/\ok.dst=d/\rs[k]? = some r'/\k<ops.size/\X k=true:=by
       intro k d r' hk ym EF
       obtain ⟨ok,h3,h4,h5⟩:=(OY k d r').1 hk
       refine ⟨ok,h3,h4,h5,by have:=(List.getElem?_eq_some_iff.1 h3).1;omega, ?_⟩
       rw [Ww] at EF
       simpa [show k≠j from by omega] using EF
     have hLj:L[j]? = some (vo.dst,r):=(OY j _ _).2 ⟨vo,FV,rfl,hr⟩
     have tEq:fU (eW X L 0 t0) vo.dst r.val=eW X' L 0 t0:=by
       apply List.ext_getElem?
       intro s
       rw [uj]
       by_cases hd:vo.dst=some s
       . rw [if_pos hd]
         rw [FP L 0 j t0 (by rw [hLj,hd]) (by rw [Nat.zero_add,Ww];simp) ?_,Io]
         intro k d r' hk ym EF hds
         rw [Nat.zero_add] at EF
         obtain ⟨ok,h3,h4,h5,WZ,aaE⟩:=later k d r' hk ym EF
         have hc:D4 vo ok=true:=by unfold D4;simp [hd,h4,hds]
         have:=Hu j k vo ok ym FV h3 hc
         rw [post k WZ aaE] at this
         simp at this
       . rw [if_neg hd]
         refine sy L 0 t0 t0 rfl ?_
         intro k d r' hk hne
         rw [Nat.zero_add,Ww] at hne
         have hkj:k=j:=by
           apply Classical.byContradiction;intro h;simp [h] at hne
         subst hkj
         rw [hLj] at hk
         simp only [Option.some.injEq,Prod.mk.injEq] at hk
         rw [<- hk.1];exact hd
     have sEq:(gG X L 0 σ0).app r.up=gG X' L 0 σ0:=by
       funext id
       by_cases p9:id∈r.up.map (·.1)
       . symm
         refine FQ L 0 j σ0 hLj (by rw [Nat.zero_add,Ww];simp) p9 ?_
         intro k d r' hk ym EF adh
         rw [Nat.zero_add] at EF
         obtain ⟨ok,h3,h4,h5,WZ,aaE⟩:=later k d r' hk ym EF
         have hpk:ok.op.pure=false:=touch k ok r' h3 h5 (.inr (by intro e;simp [e] at adh))
         have hpj:vo.op.pure=false:=touch j vo r FV hr (.inr (by intro e;simp [e] at p9))
         have hlj:vo.op.sY=false:=Tq j vo r FV hr (by intro e;simp [e] at p9)
         obtain ⟨x,hx,rfl⟩:=List.mem_map.1 p9
         exact ((pS j k vo ok ym FV h3 hpj hpk (by simp [hlj]) (post k WZ aaE) r r' hr h5).1 x hx).2 adh
       . rw [af.zE p9]
         refine sC L 0 σ0 σ0 rfl ?_
         intro k d r' hk hne
         rw [Nat.zero_add,Ww] at hne
         have hkj:k=j:=by
           apply Classical.byContradiction;intro h;simp [h] at hne
         subst hkj
         rw [hLj] at hk
         simp only [Option.some.injEq,Prod.mk.injEq] at hk
         rw [<- hk.2];exact p9
     -- going on
     have hXl:∀ i,(listed.setIfInBounds j true).getD i false=X' i:=by
       intro i
       rw [Ww]
       by_cases e:i=j
       . subst e
         rw [Array.getD_eq_getD_getElem?]
         simp [hls,QC]
       . rw [if_neg e,getD_set_ne false (fun h=>e h.symm),hXd]
     have go : ∀ (a':Act) (E':Env) (w':World),cj E' w' (eW X' L 0 t0) a'->Inv G own E' w' (gG X' L 0 σ0)->mQ own π E E' w w'->(∀ i:Id, ¬ ((base+j) :: π) <:+ i->E'.μ i=E.μ i)->a'.defers=a.defers ->
         wpAny P .any ops Q fuel (listed.setIfInBounds j true) a' w':=by
       intro a' E' w' WH pM had W9 hde
       have Ik:(fun i=>(listed.setIfInBounds j true).getD i false)=X':=funext hXl
       refine ih _ a' E' w' (by simpa using hls) ?_ ?_ ?_
       . rw [Ik]
         have:=Iu (X:=X) (Y:=X') (i:=j) hXj (by rw [Ww];simp) (fun k hk=>by rw [Ww];split<;>simp [hk]) (List.range ops.size) (List.mem_range.2 QC)
         omega
       . intro k hk EF e he
         rw [hXl] at EF ⊢
         rw [Ww] at EF ⊢
         split
         . rfl
         . by_cases hkj:k=j
           . subst hkj;exact vE e he
           . rw [if_neg hkj] at EF
             exact Nb k hk EF e he
       . rw [Ik]
         refine ⟨WH,pM,hm.Hq.trans had, ?_, ?_,hde.trans hm.defers⟩
         . intro i hi hxi j'
           rw [Ww] at hxi
           have QZ:i≠j:=by rintro rfl;simp at hxi
           rw [if_neg QZ] at hxi
           intro hj'
           rw [W9 _ (KR hj' (by omega))]
           exact hm.free i hi hxi j' hj'
         . intro j' hj' hq
           rw [W9 _ (hq (base+j) (by omega))]
           exact hm.more j' hj' hq
     unfold wpOp
     rw [ho]
     simp only []
     rcases hsc with ⟨Nv,rfl⟩ | ⟨Wx,hsr⟩
     . rw [vG AA hm.frame (Zh.trans Nv)]
       simp only [Bool.false_eq_true,if_false]
       refine go _ E w ?_ ?_ (mQ.refl own π E w) (fun _ _=>rfl) (sD _ _ _)
       . rw [<- tEq, <- Tm];exact Iq hm.frame _
       . rw [<- sEq];exact hm.inv
     . rw [vG AA hm.frame (Zh.trans Wx)]
       simp only [if_true]
       left
       rw [<- aaD] at hsr
       refine FO hm.inv (hm.free j QC hXj) hm.frame hop (HE hsr hrd) ?_
       intro v w' E' hp
       refine go _ E' w' ?_ ?_ hp.ac7 hp.ids (sD _ _ _)
       . rw [<- tEq, <- Tm];exact hp.frame hm.frame _
       . rw [<- sEq];exact hp.inv
end
end Go.VL
end

section
namespace Go.VL
inductive bX where
 | normal
 | exit (id:Nat)
 | ret
def bX.real:bX->Exit
 | .normal => .normal
 | .exit id => .exit id
 | .ret => .ret
structure VS where
 t:List AV
 σ : af
 n:Nat
structure mE (G:Nat->Option (List AV)) (π : Id) (own:Nat->Prop) (E:Env) (w:World) (s:VS) (a:Act):Prop where
 frame:cj E w s.t a
 inv:Inv G own E w s.σ
 free:zT E π s.n
 defers:a.defers=[]
def Wk (G:Nat->Option (List AV)) (π : Id) (s s':VS):Prop:=∀ own E w a,mE G π own E w s a->∃ E',mQ own π E E' w w/\mE G π own E' w s' a
def VW (P:Program) (G:Nat->Option (List AV)) (π : Id) (vc:cg) (Q:bX->VS->Prop) (s:VS):Prop :=
 ∀ c,gE P c=some vc->∀ own E w a (R:Exit->Act->World->Prop),mE G π own E w s a ->
   (∀ e s' E' w' a',Q e s'->mQ own π E E' w w'->mE G π own E' w' s' a'->R e.real a' w')->c.wp P R a w
section
variable {P:Program} {G:Nat->Option (List AV)} {π : Id} {Q:bX->VS->Prop} {s:VS}
theorem Wk.refl (G:Nat->Option (List AV)) (π : Id) (s:VS):Wk G π s s:=fun own E w _ h=>⟨E,mQ.refl own π E w,h⟩
theorem Wk.trans {s s' s'':VS} (h:Wk G π s s') (k:Wk G π s' s''):Wk G π s s'':=fun own E w a hm=>by
 obtain ⟨E1,a1,m1⟩:=h own E w a hm
 obtain ⟨E2,a2,m2⟩:=k own E1 w a m1
 exact ⟨E2,a1.trans a2,m2⟩
theorem VW.wk {vc:cg} {s':VS} (h:Wk G π s s') (k:VW P G π vc Q s'):VW P G π vc Q s:=by
 intro c hc own E w a R hm hR
 obtain ⟨E1,a1,m1⟩:=h own E w a hm
 exact k c hc own E1 w a R m1 fun e s2 E2 w2 a2 hq ad mm=>hR e s2 E2 w2 a2 hq (a1.trans ad) mm
theorem VW.mono {vc:cg} {Q':bX->VS->Prop} (h:VW P G π vc Q s) (hq:∀ e s,Q e s->Q' e s):VW P G π vc Q' s :=
 fun c hc own E w a R hm hR=>h c hc own E w a R hm fun e s2 E2 w2 a2 KV=>hR e s2 E2 w2 a2 (hq e s2 KV)
theorem VW.skip (h:Q .normal s):VW P G π .skip Q s:=by
 intro c hc own E w a R hm hR
 cases c<;>simp only [gE,Option.some.injEq,reduceCtorEq] at hc
 . exact wp_skip (hR .normal s E w a h (mQ.refl own π E w) hm)
 . exfalso;revert hc;unfold mD;(repeat' split)<;>simp
 all_goals (exfalso;revert hc;(repeat' split)<;>simp)
theorem BD {c:Code} {ps:Option (List (Nat × Nat))} {vs:List bq} (hc:gE P c=some (.reg ps vs)):∃ id ops draw,c = .region id ops draw/\ops.toList.mapM (Ad P ops)=some vs /\
   ((draw=false/\ps=none)∨(draw=true/\ps=some (zz vs (ops.toList.map Ae))/\Fc vs (ops.toList.map Ae)=true/\P.follows .mixedOrders=true)):=by
 cases c with
 | region id ops draw =>
   simp only [gE,mD] at hc
   cases hm:ops.toList.mapM (Ad P ops) with
   | none=>simp [hm] at hc
   | some vs' =>
     simp only [hm] at hc
     split at hc
     . rename_i hd
       split at hc
       . rename_i ho
         simp only [Option.some.injEq,cg.reg.injEq] at hc
         obtain ⟨rfl,rfl⟩:=hc
         simp only [Bool.and_eq_true] at ho
         exact ⟨id,ops,draw,rfl,hm, .inr ⟨hd,rfl,ho.1,ho.2⟩⟩
       . simp at hc
     . rename_i hd
       simp only [Option.some.injEq,cg.reg.injEq] at hc
       obtain ⟨rfl,rfl⟩:=hc
       exact ⟨id,ops,draw,rfl,hm, .inl ⟨by simpa using hd,rfl⟩⟩
 | _=>exfalso;revert hc;simp only [gE];(repeat' split)<;>simp
theorem VW.Tr {vs:List bq} (h:Bx P G π s.n (fun t σ => Q .normal ⟨t, σ,s.n+vs.length⟩) vs 0 s.t s.σ):VW P G π (.reg none vs) Q s:=by
 intro c hc own E w a R hm hR
 obtain ⟨id,ops,draw,rfl,Na,Wu⟩:=BD hc
 have hd:draw=false:=by
   rcases Wu with ⟨h,_⟩ | ⟨_,h,_⟩
   . exact h
   . simp at h
 subst hd
 have hl:ops.toList.length=vs.length:=(hZ Na).symm
 refine wp_region ?_
 have:=FT (P:=P) (G:=G) (own:=own) (ops:=ops) (Q:=R) ops.toList 0 (fun k=>by simp) vs Na s.t s.σ a E w h hm.frame hm.inv hm.free (by
   intro t' σ' a' E' w' hk had hf hi Hp hde
   refine hR .normal ⟨t', σ',s.n+vs.length⟩ E' w' a' hk had ⟨hf,hi,by have h:=Hp;simp only [Nat.add_zero,hl] at h;exact h,hde.trans hm.defers⟩)
 rw [List.range_eq_range']
 simpa using this
theorem VW.Ts {ps:List (Nat × Nat)} {vs:List bq} (h:Bz P G π s.n (fun rs t σ => ab rs ps/\Q .normal ⟨t, σ,s.n+vs.length⟩) vs 0 [] s.t s.σ):VW P G π (.reg (some ps) vs) Q s:=by
 intro c hc own E w a R hm hR
 obtain ⟨id,ops,draw,rfl,Na,Wu⟩:=BD hc
 rcases Wu with ⟨_,h2⟩ | ⟨hd,Ii,To,hmx⟩
 . simp at h2
 . subst hd
   simp only [Option.some.injEq] at Ii
   have hl:vs.length=ops.size:=by have:=hZ Na;simpa using this
   obtain ⟨rs,hrl,hst,hap,hq⟩:=Ip h
   refine wp_region_any hmx ?_
   have agQ:Mid G π own ((vs.map (·.dst)).zip rs) s.n ops.size s.t s.σ a E w (fun i=>(Array.replicate ops.size false).getD i false) E w.drew a:=by
     have hX:∀ i,(Array.replicate ops.size false).getD i false=false:=by intro i;rw [Array.getD_eq_getD_getElem?];simp [Array.getElem?_replicate];split<;>rfl
     have e1:eW (fun i=>(Array.replicate ops.size false).getD i false) ((vs.map (·.dst)).zip rs) 0 s.t=s.t:=sZ _ _ _ fun k _=>hX _
     have e2:gG (fun i=>(Array.replicate ops.size false).getD i false) ((vs.map (·.dst)).zip rs) 0 s.σ = s.σ := s4 _ _ _ fun k _=>hX _
     exact ⟨by rw [e1];exact hm.frame.keep (Adv.drew (own:=own) E w).step,by rw [e2];exact hm.inv.drew,⟨Adv.drew E w,fun _ _=>rfl⟩,fun i _ _ j hj=>hm.free.at (by omega) hj,hm.free.mono (by omega),rfl⟩
   refine Q1 Na To hrl hst (by rw [<- Ii];simpa using hap) (Q:=R) (a0:=a) (E0:=E) (w0:=w) ?_ ops.size (Array.replicate ops.size false) a E w.drew (by simp) (by simp) ?_ agQ
   . intro a' E' w' Zi
     refine hR .normal _ E' w' a' hq Zi.Hq ⟨Zi.frame,Zi.inv,by rw [hl];exact Zi.more,Zi.defers.trans hm.defers⟩
   . intro k hk hx
     rw [Array.getD_eq_getD_getElem?] at hx
     simp [hk] at hx
theorem VW.seq {x y:cg} (h:VW P G π x (fun e s'=>match e with | .normal=>VW P G π y Q s' | e=>Q e s') s):VW P G π (.seq x y) Q s:=by
 intro c hc own E w a R hm hR
 cases c<;>simp only [gE,Option.some.injEq,reduceCtorEq] at hc
 case seq ca cb =>
   cases h1:gE P ca with
   | none=>simp [h1] at hc
   | some va =>
   cases h2:gE P cb with
   | none=>simp [h1,h2] at hc
   | some vb =>
     simp only [h1,h2,Option.some.injEq,cg.seq.injEq] at hc
     obtain ⟨rfl,rfl⟩:=hc
     refine wp_seq (h ca h1 own E w a _ hm ?_)
     intro e s' E' w' a' hq had qG
     cases e with
     | normal=>exact hq cb h2 own E' w' a' R qG fun e2 s2 E2 w2 a2 KV Q3 mm2=>hR e2 s2 E2 w2 a2 KV (had.trans Q3) mm2
     | exit id=>exact hR (.exit id) s' E' w' a' hq had qG
     | ret=>exact hR .ret s' E' w' a' hq had qG
 case region=>exfalso;revert hc;unfold mD;(repeat' split)<;>simp
 all_goals (exfalso;revert hc;(repeat' split)<;>simp)
theorem VW.cond {vc:a6} {x y:cg} {b:Bool} (hb:vc.ev G s.t = .bool b) (h:if b then VW P G π x Q s else VW P G π y Q s):VW P G π (.cond vc x y) Q s:=by
 intro c hc own E w a R hm hR
 cases c<;>simp only [gE,Option.some.injEq,reduceCtorEq] at hc
 case cond cc ca cb =>
   cases h0:cH cc with
   | none=>simp [h0] at hc
   | some vcc =>
   cases h1:gE P ca with
   | none=>simp [h0,h1] at hc
   | some va =>
   cases h2:gE P cb with
   | none=>simp [h0,h1,h2] at hc
   | some vb =>
     simp only [h0,h1,h2,Option.some.injEq,cg.cond.injEq] at hc
     obtain ⟨rfl,rfl,rfl⟩:=hc
     have hr:=bc hm.frame hm.inv h0
     rw [hb] at hr
     simp only [aT] at hr
     refine wp_cond hr ?_
     cases b with
     | true=>simp only [if_true] at h ⊢;exact h ca h1 own E w a R hm hR
     | false=>simp only [Bool.false_eq_true,if_false] at h ⊢;exact h cb h2 own E w a R hm hR
 case region=>exfalso;revert hc;unfold mD;(repeat' split)<;>simp
 all_goals (exfalso;revert hc;(repeat' split)<;>simp)
theorem VW.Xb {vc:a6} {x y:cg} (hb:vc.ev G s.t = .anyb) (h1:VW P G π x Q s) (h2:VW P G π y Q s):VW P G π (.cond vc x y) Q s:=by
 intro c hc own E w a R hm hR
 cases c<;>simp only [gE,Option.some.injEq,reduceCtorEq] at hc
 case cond cc ca cb =>
   cases h0:cH cc with
   | none=>simp [h0] at hc
   | some vcc =>
   cases h3:gE P ca with
   | none=>simp [h0,h3] at hc
   | some va =>
   cases h4:gE P cb with
   | none=>simp [h0,h3,h4] at hc
   | some vb =>
     simp only [h0,h3,h4,Option.some.injEq,cg.cond.injEq] at hc
     obtain ⟨rfl,rfl,rfl⟩:=hc
     have hr:=bc hm.frame hm.inv h0
     rw [hb] at hr
     simp only [aT] at hr
     obtain ⟨b,hr⟩:=hr
     refine wp_cond hr ?_
     cases b with
     | true=>exact h1 ca h3 own E w a R hm hR
     | false=>exact h2 cb h4 own E w a R hm hR
 case region=>exfalso;revert hc;unfold mD;(repeat' split)<;>simp
 all_goals (exfalso;revert hc;(repeat' split)<;>simp)
theorem VW.block {id:Nat} {x:cg} (h:VW P G π x (fun e s'=>match e with | .exit i=>if i=id then Q .normal s' else Q (.exit i) s' | e=>Q e s') s):VW P G π (.block id x) Q s:=by
 intro c hc own E w a R hm hR
 cases c<;>simp only [gE,Option.some.injEq,reduceCtorEq] at hc
 case block i cb =>
   cases h1:gE P cb with
   | none=>simp [h1] at hc
   | some vb =>
     simp only [h1,Option.map_some,Option.some.injEq,cg.block.injEq] at hc
     obtain ⟨rfl,rfl⟩:=hc
     refine wp_block (h cb h1 own E w a _ hm ?_)
     intro e s' E' w' a' hq had qG
     cases e with
     | normal=>exact hR .normal s' E' w' a' hq had qG
     | exit j =>
       simp only [bX.real,Exit.inBlock]
       split
       . rename_i hj;simp only [hj,if_true] at hq;exact hR .normal s' E' w' a' hq had qG
       . rename_i hj;simp only [hj,if_false] at hq;exact hR (.exit j) s' E' w' a' hq had qG
     | ret=>exact hR .ret s' E' w' a' hq had qG
 case region=>exfalso;revert hc;unfold mD;(repeat' split)<;>simp
 all_goals (exfalso;revert hc;(repeat' split)<;>simp)
theorem VW.exit {id:Nat} (h:Q (.exit id) s):VW P G π (.exit id) Q s:=by
 intro c hc own E w a R hm hR
 cases c<;>simp only [gE,Option.some.injEq,reduceCtorEq] at hc
 case exit i =>
   simp only [cg.exit.injEq] at hc;subst hc
   exact wp_exit (hR (.exit i) s E w a h (mQ.refl own π E w) hm)
 case region=>exfalso;revert hc;unfold mD;(repeat' split)<;>simp
 all_goals (exfalso;revert hc;(repeat' split)<;>simp)
theorem VW.ret (h:Q .ret s):VW P G π .ret Q s:=by
 intro c hc own E w a R hm hR
 cases c<;>simp only [gE,Option.some.injEq,reduceCtorEq] at hc
 case ret=>exact wp_ret (hR .ret s E w a h (mQ.refl own π E w) hm)
 case region=>exfalso;revert hc;unfold mD;(repeat' split)<;>simp
 all_goals (exfalso;revert hc;(repeat' split)<;>simp)
theorem yn {α : Type} {c:Code} {R:Exit->Act->World->Prop} (I : α -> Act->World->Prop) (μ : α -> Nat) {x : α} {a:Act} {w:World} (h₀:I x a w)
   (round:∀ x a w,I x a w->c.wp P (Exit.then (fun a' w'=>∃ x',I x' a' w' /\ μ x' < μ x) R) a w):(Code.loop c).wp P R a w:=by
 intro b k cs
 have key:∀ n x a w, μ x=n->I x a w ->
     ∃ e a' w',R e a' w'/\Arrives P (lone (b.at a (.code c :: .inLoop c::k)) cs w) b k cs e a' w':=by
   intro n
   induction n using Nat.strongRecOn with
   | _ n ih =>
     intro x a w hn hI
     obtain ⟨e,a₁,w₁,hq,KW⟩:=round x a w hI b (.inLoop c::k) cs
     cases e with
     | normal =>
       obtain ⟨x₁,hI₁,hlt⟩:=hq
       obtain ⟨e₂,a₂,w₂,hq₂,Xc⟩:=ih (μ x₁) (hn▸hlt) x₁ a₁ w₁ rfl hI₁
       exact ⟨e₂,a₂,w₂,hq₂, .of_steps (Steps.trans KW (.one step_inLoop)) Xc⟩
     | exit id=>exact ⟨_,a₁,w₁,hq, .pass (x := .inLoop c) rfl (fun _ _ => .inl (by simp)) KW⟩
     | goto l=>exact ⟨_,a₁,w₁,hq, .pass (x := .inLoop c) rfl (fun _ _ => .inl (by simp)) KW⟩
     | ret=>exact ⟨_,a₁,w₁,hq, .pass (x := .inLoop c) rfl (fun _ _ => .inl (by simp)) KW⟩
     | panic ch=>exact ⟨_,a₁,w₁,hq, .pass (x := .inLoop c) rfl (fun _ _ => .inl (by simp)) KW⟩
     | outgrown=>exact ⟨_,a₁,w₁,hq, .pass (x := .inLoop c) rfl (fun _ _ => .inl (by simp)) KW⟩
 obtain ⟨e,a',w',hq,KW⟩:=key _ x a w rfl h₀
 exact ⟨e,a',w',hq, .of_steps (.one step_loop) KW⟩
theorem VW.loop {x:cg} (I:VS->Prop) (m:VS->Nat) (h0:∃ s',Wk G π s s'/\I s')
   (h:∀ s,I s->VW P G π x (fun e s'=>match e with | .normal=>∃ s'',Wk G π s' s''/\I s''/\m s''<m s | e=>Q e s') s):VW P G π (.loop x) Q s:=by
 obtain ⟨s1,Wx,hI1⟩:=h0
 refine VW.wk Wx ?_
 intro c hc own E w a R hm hR
 cases c<;>simp only [gE,Option.some.injEq,reduceCtorEq] at hc
 case loop cb =>
   cases h1:gE P cb with
   | none=>simp [h1] at hc
   | some vb =>
     simp only [h1,Option.map_some,Option.some.injEq,cg.loop.injEq] at hc
     subst hc
     refine yn (α := VS) (fun s' a' w'=>I s'/\∃ E',mQ own π E E' w w'/\mE G π own E' w' s' a') m (x:=s1) ⟨hI1,E,mQ.refl own π E w,hm⟩ ?_
     rintro s2 a2 w2 ⟨hI2,E2,Q3,Bu⟩
     refine h s2 hI2 cb h1 own E2 w2 a2 _ Bu ?_
     intro e s' E' w' a' hq had qG
     cases e with
     | normal =>
       obtain ⟨s3,hw3,hI3,hlt⟩:=hq
       obtain ⟨E3,ad3,hm3⟩:=hw3 own E' w' a' qG
       exact ⟨s3,⟨hI3,E3,(Q3.trans had).trans ad3,hm3⟩,hlt⟩
     | exit id=>exact hR (.exit id) s' E' w' a' hq (Q3.trans had) qG
     | ret=>exact hR .ret s' E' w' a' hq (Q3.trans had) qG
 case region=>exfalso;revert hc;unfold mD;(repeat' split)<;>simp
 all_goals (exfalso;revert hc;(repeat' split)<;>simp)
def Then (k:VS->Prop) (Q:bX->VS->Prop):bX->VS->Prop
 | .normal,s=>k s
 | .exit i,s=>Q (.exit i) s
 | .ret,s=>Q .ret s
def Q4 (id:Nat) (Q:bX->VS->Prop):bX->VS->Prop
 | .normal,s=>Q .normal s
 | .exit i,s=>if i=id then Q .normal s else Q (.exit i) s
 | .ret,s=>Q .ret s
theorem yo (k:VS->Prop) (Q:bX->VS->Prop) (s:VS):Then k Q .normal s=k s:=(rfl)
theorem Iv (k:VS->Prop) (Q:bX->VS->Prop) (i:Nat) (s:VS):Then k Q (.exit i) s=Q (.exit i) s:=(rfl)
theorem KX (k:VS->Prop) (Q:bX->VS->Prop) (s:VS):Then k Q .ret s=Q .ret s:=(rfl)
theorem Ec (id:Nat) (Q:bX->VS->Prop) (s:VS):Q4 id Q .normal s=Q .normal s:=(rfl)
theorem Df (id:Nat) (Q:bX->VS->Prop) (i:Nat) (s:VS):Q4 id Q (.exit i) s=if i=id then Q .normal s else Q (.exit i) s:=(rfl)
theorem KY (id:Nat) (Q:bX->VS->Prop) (s:VS):Q4 id Q .ret s=Q .ret s:=(rfl)
def xL (P:Program) (G:Nat->Option (List AV)) (π : Id):cg->(bX->VS->Prop)->VS->Prop
 | .skip,Q,s=>Q .normal s
 | .reg none vs,Q,s=>Bx P G π s.n (fun t σ => Q .normal ⟨t, σ,s.n+vs.length⟩) vs 0 s.t s.σ
 | .reg (some ps) vs,Q,s=>Bz P G π s.n (fun rs t σ => ab rs ps/\Q .normal ⟨t, σ,s.n+vs.length⟩) vs 0 [] s.t s.σ
 | .seq x y,Q,s=>xL P G π x (Then (xL P G π y Q) Q) s
 | .cond c x y,Q,s=>match c.ev G s.t with
   | .bool b=>if b then xL P G π x Q s else xL P G π y Q s
   | .anyb=>xL P G π x Q s/\xL P G π y Q s
   | _=>False
 | .block id x,Q,s=>xL P G π x (Q4 id Q) s
 | .loop x,Q,s=>VW P G π (.loop x) Q s
 | .exit id,Q,s=>Q (.exit id) s
 | .ret,Q,s=>Q .ret s
theorem VW.of:∀ {vc:cg} {Q:bX->VS->Prop} {s:VS},xL P G π vc Q s->VW P G π vc Q s
 | .skip,_,_,h=>VW.skip h
 | .reg none _,_,_,h=>VW.Tr h
 | .reg (some _) _,_,_,h=>VW.Ts h
 | .seq x y,Q,s,h=>by
   refine VW.seq (VW.mono (VW.of (vc:=x) h) ?_)
   intro e s' hq
   cases e with
   | normal=>exact VW.of (vc:=y) hq
   | exit id=>exact hq
   | ret=>exact hq
 | .cond c x y,Q,s,h=>by
   simp only [xL] at h
   split at h
   . rename_i b hb
     refine VW.cond hb ?_
     cases b with
     | true=>exact VW.of (vc:=x) h
     | false=>exact VW.of (vc:=y) h
   . rename_i hb
     exact VW.Xb hb (VW.of (vc:=x) h.1) (VW.of (vc:=y) h.2)
   . exact h.elim
 | .block id x,Q,s,h=>by
   refine VW.block (VW.mono (VW.of (vc:=x) h) ?_)
   intro e s' hq
   cases e with
   | normal=>exact hq
   | exit i=>exact hq
   | ret=>exact hq
 | .loop x,Q,s,h=>h
 | .exit id,_,_,h=>VW.exit h
 | .ret,_,_,h=>VW.ret h
end
end Go.VL
end

section
namespace Go.VL
section
variable {P:Program} {G:Nat->Option (List AV)} {own:Nat->Prop} {E:Env} {w:World} {σ : af}
def aa (c:AV):Prop:=∀ E w v,aT E w c v->aT E.bare w c v
theorem aa.bool (b:Bool):aa (.bool b):=fun _ _ _ h=>by simpa [aT] using h
theorem aa.int (k:IntKind) (n:Int):aa (.int k n):=fun _ _ _ h=>by simpa [aT] using h
theorem aa.str (l:List UInt8):aa (.str l):=fun _ _ _ h=>by simpa [aT] using h
theorem aa.nilp:aa .nilp:=fun _ _ _ h=>by simpa [aT] using h
theorem aa.nilf:aa .nilf:=fun _ _ _ h=>by simpa [aT] using h
theorem aa.nils:aa .nils:=fun _ _ _ h=>by simpa [aT] using h
theorem aa.uk {cs:List AV} (h:∀ c∈cs,aa c):∀ {vs:List Value},bd E w cs vs->bd E.bare w cs vs:=by
 induction cs with
 | nil=>intro vs hr;simpa [bd] using hr
 | cons c cs ih =>
   intro vs hr
   simp only [bd] at hr ⊢
   obtain ⟨v,rest,e,h1,h2⟩:=hr
   exact ⟨v,rest,e,h c (by simp) _ _ _ h1,ih (fun x hx=>h x (by simp [hx])) h2⟩
theorem aa.Ed {cs:List AV} (h:∀ c∈cs,aa c) {b o:Nat} (hr:eH E w b o cs):eH E.bare w b o cs :=
 fun j c hj=>let ⟨v,hv,FG⟩:=hr j c hj;⟨v,hv,h c (List.mem_of_getElem? hj) _ _ _ FG⟩
theorem aa.agg {cs:List AV} (h:∀ c∈cs,aa c):aa (.agg cs):=fun E w v hr=>by
 simp only [aT] at hr ⊢;obtain ⟨xs,e,hr⟩:=hr;exact ⟨xs,e,aa.uk h hr⟩
theorem aa.tup {cs:List AV} (h:∀ c∈cs,aa c):aa (.tup cs):=fun E w v hr=>by
 simp only [aT] at hr ⊢;obtain ⟨xs,e,hr⟩:=hr;exact ⟨xs,e,aa.uk h hr⟩
theorem aa.fn {f:Fn} {a c:List AV} (ha:∀ x∈a,aa x) (hc:∀ x∈c,aa x):aa (.fn f a c):=fun E w v hr=>by
 simp only [aT] at hr ⊢;obtain ⟨xs,ys,e,h1,h2⟩:=hr;exact ⟨xs,ys,e,aa.uk ha h1,aa.uk hc h2⟩
theorem aa.sl {k:Nat} {es:List AV} (h:∀ c∈flat es,aa c):aa (.sl k es):=fun E w v hr=>by
 simp only [aT] at hr ⊢
 obtain ⟨a,cap,e,h1,h2,h3,h4⟩:=hr
 exact ⟨a,cap,e,h1,h2,h3,h4.imp id fun ⟨b,o,ea,hb,hr⟩=>⟨b,o,ea,hb,dI.2 (aa.Ed h (dI.1 hr))⟩⟩
theorem aa.tsl {k:Nat} {es:List AV} (h:∀ c∈flat es,aa c):aa (.tsl k es):=fun E w v hr=>by
 simp only [aT] at hr ⊢
 obtain ⟨a,e,h2,h3,h4⟩:=hr
 exact ⟨a,e,h2,h3,h4.imp id fun ⟨b,o,ea,hb,hr⟩=>⟨b,o,ea,hb,dI.2 (aa.Ed h (dI.1 hr))⟩⟩
theorem aa.ep {cs:List AV} {o:Nat} (h:∀ c∈cs,aa c):aa (.ep cs o):=fun E w v hr=>by
 simp only [aT] at hr ⊢
 obtain ⟨b,q,e,hb,hr⟩:=hr
 exact ⟨b,q,e,hb,eR.2 (aa.Ed h (eR.1 hr))⟩
def jx (c:AV):Prop:=∀ E w E' w' v,aT E w c v->aT E' w' c v
theorem jx.bool (b:Bool):jx (.bool b):=fun _ _ _ _ _ h=>by simpa [aT] using h
theorem jx.int (k:IntKind) (n:Int):jx (.int k n):=fun _ _ _ _ _ h=>by simpa [aT] using h
theorem jx.str (l:List UInt8):jx (.str l):=fun _ _ _ _ _ h=>by simpa [aT] using h
theorem jx.uk {cs:List AV} (h:∀ c∈cs,jx c) {E E':Env} {w w':World}:∀ {vs:List Value},bd E w cs vs->bd E' w' cs vs:=by
 induction cs with
 | nil=>intro vs hr;simpa [bd] using hr
 | cons c cs ih =>
   intro vs hr
   simp only [bd] at hr ⊢
   obtain ⟨v,rest,e,h1,h2⟩:=hr
   exact ⟨v,rest,e,h c (by simp) _ _ _ _ _ h1,ih (fun x hx=>h x (by simp [hx])) h2⟩
theorem jx.tup {cs:List AV} (h:∀ c∈cs,jx c):jx (.tup cs):=fun _ _ _ _ _ hr=>by
 simp only [aT] at hr ⊢;obtain ⟨xs,e,hr⟩:=hr;exact ⟨xs,e,jx.uk h hr⟩
theorem jx.agg {cs:List AV} (h:∀ c∈cs,jx c):jx (.agg cs):=fun _ _ _ _ _ hr=>by
 simp only [aT] at hr ⊢;obtain ⟨xs,e,hr⟩:=hr;exact ⟨xs,e,jx.uk h hr⟩
def Env.jU (E:Env) (σ : af):Env:=⟨fun _=>none,fun b=>E.ok b∨∃ id bk k N, σ id=some bk/\E.μ id=some (b,k,N)⟩
def View (σ : af) (c d:AV):Prop:=∀ G own E w v,Inv G own E w σ -> aT E w c v->aT (E.jU σ) w d v
def aF (σ : af) (cs ds:List AV):Prop:=cs.length=ds.length/\∀ (j:Nat) (c d:AV),cs[j]? = some c->ds[j]? = some d->View σ c d
theorem Step.jU (E:Env) (σ : af) (w:World):Step E.bare (E.jU σ) w w:=⟨fun _ _ h=>by simp [Env.bare] at h,fun _ h => .inl h,fun _ _=>rfl⟩
theorem View.pure {c:AV} (h:aa c):View σ c c:=fun _ _ E w v _ hr=>aT.keep (Step.jU E σ w) c v (h E w v hr)
theorem aF.pure {cs:List AV} (h:∀ c∈cs,aa c):aF σ cs cs :=
 ⟨rfl,fun j c d hc hd=>by rw [hc] at hd;simp only [Option.some.injEq] at hd;subst hd;exact View.pure (h c (List.mem_of_getElem? hc))⟩
theorem aF.nil:aF σ [] []:=⟨rfl,by simp⟩
theorem aF.cons {c d:AV} {cs ds:List AV} (h:View σ c d) (hl:aF σ cs ds):aF σ (c::cs) (d::ds) :=
 ⟨by simp [hl.1],fun j x y hx hy=>by
   cases j with
   | zero=>simp at hx hy;subst hx;subst hy;exact h
   | succ j=>exact hl.2 j x y (by simpa using hx) (by simpa using hy)⟩
theorem aF.uk {cs ds:List AV} (h:aF σ cs ds) (hi:Inv G own E w σ) {vs:List Value} (hr:bd E w cs vs):bd (E.jU σ) w ds vs:=by
 obtain ⟨hl,hp⟩:=bI.1 hr
 refine bI.2 ⟨by rw [hl,h.1],fun j d hd => ?_⟩
 have hj:j<cs.length:=by rw [h.1];exact (List.getElem?_eq_some_iff.1 hd).1
 obtain ⟨v,hv,FG⟩:=hp j cs[j] (by simp [hj])
 exact ⟨v,hv,h.2 j _ d (by simp [hj]) hd G own E w v hi FG⟩
theorem aF.Ed {cs ds:List AV} (h:aF σ cs ds) (hi:Inv G own E w σ) {b o:Nat} (hr:eH E w b o cs):eH (E.jU σ) w b o ds:=by
 intro j d hd
 have hj:j<cs.length:=by rw [h.1];exact (List.getElem?_eq_some_iff.1 hd).1
 obtain ⟨v,hv,FG⟩:=hr j cs[j] (by simp [hj])
 exact ⟨v,hv,h.2 j _ d (by simp [hj]) hd G own E w v hi FG⟩
theorem View.agg {cs ds:List AV} (h:aF σ cs ds):View σ (.agg cs) (.agg ds):=fun G own E w v hi hr=>by
 simp only [aT] at hr ⊢;obtain ⟨xs,e,hr⟩:=hr;exact ⟨xs,e,h.uk hi hr⟩
theorem View.tup {cs ds:List AV} (h:aF σ cs ds):View σ (.tup cs) (.tup ds):=fun G own E w v hi hr=>by
 simp only [aT] at hr ⊢;obtain ⟨xs,e,hr⟩:=hr;exact ⟨xs,e,h.uk hi hr⟩
theorem View.nils (k:Nat):View σ .nils (.sl k []):=fun G own E w v hi hr=>by
 simp only [aT] at hr ⊢;exact ⟨none,0,hr,Nat.le_refl _,Nat.zero_le _,by simp, .inl trivial⟩
theorem View.adp (k:Nat):View σ (.tsl k []) (.sl k []):=fun G own E w v hi hr=>by
 simp only [aT] at hr ⊢
 obtain ⟨a,e,_⟩:=hr
 exact ⟨a,0,e,Nat.le_refl _,Nat.zero_le _,by simp, .inl trivial⟩
theorem View.sl {k:Nat} {es ds:List AV} (h:aF σ (flat es) (flat ds)) (hl:es.length=ds.length) (hk:∀ d∈ds,d.size=k):View σ (.sl k es) (.sl k ds):=fun G own E w v hi hr=>by
 simp only [aT] at hr ⊢
 obtain ⟨a,cap,e,h1,h2,h3,h4⟩:=hr
 refine ⟨a,cap,by rw [<- hl];exact e,by rw [<- hl];exact h1,h2,hk, ?_⟩
 rcases h4 with h4 | ⟨b,o,ea,hb,hr⟩
 . left;subst h4;simpa using hl.symm
 . right;exact ⟨b,o,ea, .inl hb,dI.2 (h.Ed hi (dI.1 hr))⟩
theorem View.tsl {k:Nat} {es ds:List AV} (h:aF σ (flat es) (flat ds)) (hl:es.length=ds.length) (hk:∀ d∈ds,d.size=k):View σ (.tsl k es) (.sl k ds):=fun G own E w v hi hr=>by
 simp only [aT] at hr ⊢
 obtain ⟨a,e,h2,h3,h4⟩:=hr
 refine ⟨a,es.length,by rw [<- hl];exact e,by rw [<- hl];exact Nat.le_refl _,h2,hk, ?_⟩
 rcases h4 with h4 | ⟨b,o,ea,hb,hr⟩
 . left;subst h4;simpa using hl.symm
 . right;exact ⟨b,o,ea, .inl hb,dI.2 (h.Ed hi (dI.1 hr))⟩
theorem View.osl {id:Id} {bk:da} {k off len:Nat} {t:Bool} {ds:List AV} (hσ : σ id=some bk) (hk:bk.k=k) (hle:off+len<=bk.els.length)
   (h:aF σ (flat ((bk.els.drop off).take len)) (flat ds)) (hl:ds.length=len) (hkd:∀ d∈ds,d.size=k):View σ (.osl id k off len t) (.sl k ds):=fun G own E w v hi hr=>by
 obtain ⟨g,N,cur,ty,hB⟩:=hi.blk id bk hσ
 simp only [aT] at hr ⊢
 obtain ⟨g',N',cap,hm,e,h1,h2,h3,_⟩:=hr
 rw [hB.μ] at hm
 simp only [Option.some.injEq,Prod.mk.injEq] at hm
 obtain ⟨rfl,_,rfl⟩:=hm
 refine ⟨_,cap,by rw [hl];exact e,by rw [hl];exact h1,by omega,hkd, .inr ⟨g,off*k,rfl, .inr ⟨id,bk,bk.k,N,hσ,hB.μ⟩, ?_⟩⟩
 refine dI.2 (h.Ed hi ?_)
 have:=qQ (l:=off) (r:=off+len) hB.k hB.row (by omega) hle
 rw [Nat.zero_add,hk] at this
 have e2:(bk.els.take (off+len)).drop off=(bk.els.drop off).take len:=by rw [List.drop_take];congr 1;omega
 rwa [e2] at this
def VP (P:Program) (G:Nat->Option (List AV)) (f:FuncId) (args:List AV) (r:AV):Prop :=
 (∃ fn,P.funcs[f]? = some fn/\(fn.name == "runtime.NumGoroutine")=false/\fn.body.isSome=true) /\
 ∀ w vs ok,Inv G (fun k=>w.heap.size<=k) ⟨fun _=>none,ok⟩ w (fun _=>none)->bd ⟨fun _=>none,ok⟩ w args vs ->
   Calls P f vs.toArray w fun e w'=>∃ v ok',e = .returned v/\Adv (fun k=>w.heap.size<=k) ⟨fun _=>none,ok⟩ ⟨fun _=>none,ok'⟩ w w'/\(∀ b,ok' b->b<w'.heap.size)/\aT ⟨fun _=>none,ok'⟩ w' r v
theorem aW.OZ {f:FuncId} {args:List AV} {r:AV} (h:VP P G f args r) (hp:∀ c∈args,aa c) (p:Id):aW P G f args p [] { val:=r }:=by
 refine ⟨h.1,fun own E w σ vs _ hi hr hμ => ?_⟩
 have O0:Inv G (fun k=>w.heap.size<=k) ⟨fun _=>none,E.ok⟩ w (fun _=>none):=⟨hi.okb,fun id bk h=>by simp at h,fun i j x y h=>absurd rfl h,hi.glob,fun k hk=>hk⟩
 refine (h.2 w vs E.ok O0 (aa.uk hp hr)).mono fun e w' he => ?_
 obtain ⟨v,ok',rfl,had,gK,hv⟩:=he
 have gD:Adv own E ⟨E.μ,ok'⟩ w w' :=
   ⟨⟨fun _ _ h=>h,had.step.ok,had.step.same⟩,had.os,had.tape,had.output,had.size,fun k hk _=>had.block k hk (by omega),fun b hb=>(had.Ws b hb).imp id fun h=>hi.new b h⟩
 refine ⟨v,⟨E.μ,ok'⟩,rfl,gD, ?_, ?_,fun _ _=>rfl⟩
 . refine hi.keep gD rfl gK fun id bk g N hs hm => ?_
   obtain ⟨g',N',cur,ty,hB⟩:=hi.blk id bk hs
   rw [hB.μ] at hm
   simp only [Option.some.injEq,Prod.mk.injEq] at hm
   obtain ⟨rfl,_,rfl⟩:=hm
   have hg:=gC hB.heap
   exact ⟨had.block _ hg (by omega),fun hf hb=>(had.Ws _ hb).elim (hB.no hf) (fun h=>by omega)⟩
 . exact aT.keep (⟨fun _ _ h=>by simp at h,fun _ h=>h,fun _ _=>rfl⟩:Step ⟨fun _=>none,ok'⟩ ⟨E.μ,ok'⟩ w' w') r v hv
def a7 (s:VS):ug->Option AV
 | .tmp t=>some (s.t.getD t (.tup []))
 | .cell x agg n=>(jl s.σ agg n (s.t.getD x (.tup []))).map (·.val)
def aY (rs:List ug) (s:VS):Option AV :=
 match rs.mapM (a7 s) with
 | some [v]=>some v
 | some vs=>some (.tup vs)
 | none=>none
theorem KZ {α β : Type} {f : α -> Sem β}:∀ (l:List α) (vs:List β),vs.length=l.length->(∀ (i:Nat) (a : α) (v : β),l[i]? = some a->vs[i]? = some v->(f a).run P w = .ok v w)->(l.mapM f).run P w = .ok vs w
 | [],vs,hl,_=>by
   have:vs=[]:=List.eq_nil_of_length_eq_zero hl
   subst this;rfl
 | a::l,[],hl,_=>by simp at hl
 | a::l,v::vs,hl,h=>by
   have h0:=h 0 a v rfl rfl
   have ih:=KZ l vs (by simpa using hl) (fun i x y hx hy=>h (i+1) x y (by simpa using hx) (by simpa using hy))
   simp [List.mapM_cons,h0,ih]
theorem Xd {π : Id} {s:VS} {a:Act} (hm:mE G π own E w s a) {rv:ResultVar} {vr:ug} (hc:S3 P rv=some vr) {c:AV} (h:a7 s vr=some c) :
   ∃ v,(match rv with | .tmp t=>(pure (a.tmps.getD t undef):Sem Value) | .cell x t=>do loadVar t (<- asAddr (a.tmps.getD x undef))).run P w = .ok v w/\aT E w c v:=by
 cases rv with
 | tmp t =>
   simp only [S3,Option.some.injEq] at hc;subst hc
   simp only [a7,Option.some.injEq] at h;subst h
   exact ⟨_,rfl,hm.frame.get t⟩
 | cell x t =>
   simp only [S3] at hc
   cases ha:pa P t with
   | none=>simp [ha] at hc
   | some g =>
   cases ED:P.info? t with
   | none=>simp [ha,ED] at hc
   | some i =>
     simp only [ha,ED] at hc
     split at hc
     . simp only [Option.some.injEq] at hc;subst hc
       simp only [a7,Option.map_eq_some_iff] at h
       obtain ⟨r,hr,rfl⟩:=h
       obtain ⟨⟨v,h1,h2⟩,_,ad,had⟩:=Ig hm.inv ha ED (hm.frame.get x) hr
       refine ⟨v, ?_,h2⟩
       simp only []
       rw [had] at h1 ⊢
       simpa [Instr.loadAt,Instr.sureAddr,asAddr] using h1
     . simp at hc
theorem Ee {π : Id} {s:VS} {a:Act} (hm:mE G π own E w s a) {fn:Func} {rs:List ug} (hc:fn.results.toList.mapM (S3 P)=some rs) {c:AV} (h:aY rs s=some c) :
   ∃ v,(results fn a.tmps).run P w = .ok v w/\aT E w c v:=by
 unfold aY at h
 cases hcs:rs.mapM (a7 s) with
 | none=>simp [hcs] at h
 | some cs =>
   have hlen:cs.length=fn.results.toList.length:=by rw [hZ hcs,hZ hc]
   let F:ResultVar->Sem Value:=fun rv=>match rv with | .tmp t=>(pure (a.tmps.getD t undef):Sem Value) | .cell x t=>do loadVar t (<- asAddr (a.tmps.getD x undef))
   have hex:∀ j,j<cs.length->∃ v,(∀ rv,fn.results.toList[j]? = some rv->(F rv).run P w = .ok v w)/\∀ c,cs[j]? = some c->aT E w c v:=by
     intro j hj
     obtain ⟨vr,h1,h2⟩:=mapM_some_get hcs j cs[j] (by simp [hj])
     obtain ⟨rv,h3,h4⟩:=mapM_some_get hc j vr h1
     obtain ⟨v,h5,h6⟩:=Xd hm h4 h2
     refine ⟨v,fun rv' FG => ?_,fun c hc => ?_⟩
     . rw [h3] at FG;simp only [Option.some.injEq] at FG;subst FG;exact h5
     . simp only [hj,List.getElem?_eq_getElem,Option.some.injEq] at hc;subst hc;exact h6
   let val:Nat->Value:=fun j=>if hj:j<cs.length then Classical.choose (hex j hj) else undef
   have hval:∀ j (hj:j<cs.length),(∀ rv,fn.results.toList[j]? = some rv->(F rv).run P w = .ok (val j) w)/\∀ c,cs[j]? = some c->aT E w c (val j):=by
     intro j hj
     simp only [val,hj,dif_pos]
     exact Classical.choose_spec (hex j hj)
   let vs:List Value:=(List.range cs.length).map val
   have xJ:vs.length=cs.length:=by simp [vs]
   have hrun:(fn.results.toList.mapM F).run P w = .ok vs w:=by
     refine KZ _ vs (by rw [xJ,hlen]) fun i rv v FG hv => ?_
     have hi:i<cs.length:=by have:=(List.getElem?_eq_some_iff.1 hv).1;omega
     have:v=val i:=by simp [vs,hi] at hv;exact hv.symm
     subst this
     exact (hval i hi).1 rv FG
   have Q5:bd E w cs vs:=bI.2 ⟨xJ,fun j c hj=>by
     have yd:=(List.getElem?_eq_some_iff.1 hj).1
     exact ⟨val j,by simp [vs,yd],(hval j yd).2 c hj⟩⟩
   have KO:(results fn a.tmps).run P w=(pure (if h:vs.toArray.size=1 then vs.toArray[0] else .tuple vs.toArray):Sem Value).run P w:=by
     unfold results
     rw [Array.mapM_eq_mapM_toList]
     simp only [Sem.run_bind,Sem.run_map]
     exact congrArg (fun x:Result (List Value)=>(x.andThen fun b w'=>Result.ok b.toArray w').andThen fun b w'=>Sem.run P (pure (if h:b.size=1 then b[0] else Value.tuple b)) w') hrun
   rw [KO]
   refine ⟨_,rfl, ?_⟩
   simp only [hcs] at h
   split at h
   . rename_i c0 heq
     simp only [Option.some.injEq] at heq h
     subst h
     have jq:vs.toArray.size=1:=by simp [xJ,heq]
     rw [dif_pos jq]
     rw [heq] at Q5
     simp only [bd] at Q5
     obtain ⟨v,rest,hv,h1,rfl⟩:=Q5
     simpa [hv] using h1
   . rename_i CZ hne heq
     simp only [Option.some.injEq] at heq h
     subst h;subst heq
     have jq : ¬ vs.toArray.size=1:=by
       intro e
       simp [xJ] at e
       obtain ⟨x,hx⟩:=List.length_eq_one_iff.1 e
       exact hne x (by rw [hx])
     rw [dif_neg jq]
     simp only [aT]
     exact ⟨_,rfl,by simpa using Q5⟩
   . simp at *
theorem VP.Tt {f:FuncId} {fn:Func} {vf:aB} (hf:P.funcs[f]? = some fn) (hc:Ia P fn=some vf) {args:List AV} {r:AV}
   (h:VW P G [] vf.body (fun e s'=>(e = .normal∨e = .ret)/\∃ r0,aY vf.results s'=some r0/\View s'.σ r0 r) ⟨args++List.replicate (vf.nt-args.length) (.tup []),fun _=>none,0⟩):VP P G f args r:=by
 unfold Ia at hc
 split at hc
 . simp at hc
 . rename_i ui
   split at hc
   . rename_i c rs hb Te
     simp only [Option.map_eq_some_iff] at hc
     obtain ⟨vb,hvb,rfl⟩:=hc
     refine ⟨⟨fn,hf,by simpa using ui,by simp [hb]⟩,fun w vs ok hi hr => ?_⟩
     refine calls_of_wp hf hb ?_
     have hal:vs.length=args.length:=bd.len hr
     have hm:mE G [] (fun k=>w.heap.size<=k) ⟨fun _=>none,ok⟩ w ⟨args++List.replicate (fn.ntmps-args.length) (.tup []),fun _=>none,0⟩
         { tmps:=vs.toArray++Array.replicate (fn.ntmps-vs.toArray.size) undef,defers:=[] }:=by
       refine ⟨?_,hi,fun _ _ _=>rfl,rfl⟩
       show bd _ w _ _
       simp only [Array.toList_append,Array.toList_replicate,List.size_toArray,hal]
       refine bd.append hr (bI.2 ⟨by simp,fun j c hj => ?_⟩)
       have yd:j<fn.ntmps-args.length:=by have:=(List.getElem?_eq_some_iff.1 hj).1;simpa using this
       simp only [List.getElem?_replicate,yd,if_true,Option.some.injEq] at hj ⊢
       subst hj
       exact ⟨undef,rfl,by simp only [aT,undef];exact ⟨#[],rfl,by simp [bd]⟩⟩
     refine h c hvb _ _ w _ _ hm ?_
     intro e s' E' w' a' hq had qG
     obtain ⟨he,r0,hr0,lF⟩:=hq
     obtain ⟨v,qT,yg⟩:=Ee qG Te hr0
     have fin:∃ v,(results fn a'.tmps).run P w' = .ok v w'/\∃ v' ok',Ending.returned v = .returned v'/\Adv (fun k=>w.heap.size<=k) ⟨fun _=>none,ok⟩ ⟨fun _=>none,ok'⟩ w w'/\(∀ b,ok' b->b<w'.heap.size)/\aT ⟨fun _=>none,ok'⟩ w' r v':=by
       refine ⟨v,qT,v,(E'.jU s'.σ).ok,rfl, ?_, ?_, ?_⟩
       . refine ⟨⟨fun _ _ h=>by simp at h,fun b hb => .inl (had.step.ok b hb),had.step.same⟩,had.os,had.tape,had.output,had.size,had.block, ?_⟩
         rintro b (hb | ⟨id,bk,k,N,hs,hmu⟩)
         . exact had.Ws b hb
         . obtain ⟨g,N',cur,ty,hB⟩:=qG.inv.blk id bk hs
           rw [hB.μ] at hmu
           simp only [Option.some.injEq,Prod.mk.injEq] at hmu
           right;rw [<- hmu.1];exact hB.own
       . rintro b (hb | ⟨id,bk,k,N,hs,hmu⟩)
         . exact qG.inv.okb b hb
         . obtain ⟨g,N',cur,ty,hB⟩:=qG.inv.blk id bk hs
           rw [hB.μ] at hmu
           simp only [Option.some.injEq,Prod.mk.injEq] at hmu
           rw [<- hmu.1];exact gC hB.heap
       . exact lF G _ E' w' v qG.inv yg
     rcases he with rfl | rfl
     . exact ⟨qG.defers,fin⟩
     . exact ⟨qG.defers,fin⟩
   . simp at hc
end
end Go.VL
end

section
namespace Go.VL
section
variable {P:Program} {G:Nat->Option (List AV)} {π : Id} {Q:bX->VS->Prop} {s:VS}
def Fg:List AV->List AV->Prop
 | [],[]=>True
 | c::cs,d::ds=>(d = .top∨d=c)/\Fg cs ds
 | _,_=>False
theorem Fg.rep {E:Env} {w:World}:∀ {cs ds:List AV} {vs:List Value},Fg cs ds->bd E w cs vs->bd E w ds vs
 | [],[],_,_,h=>h
 | c::cs,d::ds,vs,hf,h=>by
   simp only [Fg] at hf
   simp only [bd] at h ⊢
   obtain ⟨v,rest,e,h1,h2⟩:=h
   refine ⟨v,rest,e, ?_,Fg.rep hf.2 h2⟩
   rcases hf.1 with rfl | rfl
   . simp [aT]
   . exact h1
 | [],_::_,_,h,_=>by simp [Fg] at h
 | _::_,[],_,h,_=>by simp [Fg] at h
theorem Wk.forget {t t':List AV} {σ σ':af} {n n':Nat} (ht:Fg t t') (hs:∀ id, σ' id=none ∨ σ' id = σ id) (hn:n<=n'):Wk G π ⟨t, σ,n⟩ ⟨t', σ',n'⟩ :=
 fun own E w _ hm=>⟨E,mQ.refl own π E w,ht.rep hm.frame,hm.inv.sub hs,hm.free.mono hn,hm.defers⟩
theorem Wk.slots {t t':List AV} {σ : af} {n n':Nat} (ht:Fg t t') (hn:n<=n'):Wk G π ⟨t, σ,n⟩ ⟨t', σ,n'⟩:=Wk.forget ht (fun _ => .inr rfl) hn
def bW (P:Program) (G:Nat->Option (List AV)) (π : Id) (x:cg) (Q:bX->VS->Prop):Nat->VS->Prop
 | 0,_=>False
 | n+1,s=>VW P G π x (Then (bW P G π x Q n) Q) s
theorem VW.rounds {x:cg} (n:Nat) (h:bW P G π x Q n s):VW P G π (.loop x) Q s:=by
 intro c hc own E w a R hm hR
 cases c<;>simp only [gE,Option.some.injEq,reduceCtorEq] at hc
 case loop cb =>
   cases h1:gE P cb with
   | none=>simp [h1] at hc
   | some vb =>
     simp only [h1,Option.map_some,Option.some.injEq,cg.loop.injEq] at hc
     subst hc
     refine wp_loop_rounds n ?_
     have key:∀ n s E2 w2 a2,bW P G π vb Q n s->mQ own π E E2 w w2->mE G π own E2 w2 s a2->Code.rounds P cb R n a2 w2:=by
       intro n
       induction n with
       | zero=>intro s E2 w2 a2 h _ _;exact h.elim
       | succ n ih =>
         intro s E2 w2 a2 h ad hm
         refine h cb h1 own E2 w2 a2 _ hm ?_
         intro e s' E' w' a' hq had qG
         cases e with
         | normal=>exact ih s' E' w' a' hq (ad.trans had) qG
         | exit id=>exact hR (.exit id) s' E' w' a' hq (ad.trans had) qG
         | ret=>exact hR .ret s' E' w' a' hq (ad.trans had) qG
     exact key n s E w a h (mQ.refl own π E w) hm
 case region=>exfalso;revert hc;unfold mD;(repeat' split)<;>simp
 all_goals (exfalso;revert hc;(repeat' split)<;>simp)
end
end Go.VL
end

section
namespace Go.VL
def gv.s6 {α : Type}:gv α -> Bool
 | .call _ _=>true
 | _=>false
def Iw (G:Nat->Option (List AV)) (σ : af) (p:Id) (d:Option Nat) (op:gv a6) (g:Option (Nat × Bool)) (t:List AV):Option (List AV × eP × af) :=
 match eT t g with
 | none=>none
 | some false=>some (fU t d (.tup []),{ val := .tup [] }, σ)
 | some true=>match bU σ p (op.map (a6.ev G t)) with
   | some r=>some (fU t d r.val,r, σ.app r.up)
   | none=>none
section
variable (P:Program) (G:Nat->Option (List AV)) (π : Id)
def vs (base:Nat) (Q:bX->VS->Prop) (n:Nat) (os:List bq) (i:Nat) (t:List AV) (σ : af):Prop :=
 Bx P G π base (fun t σ => Q .normal ⟨t, σ,n⟩) os i t σ
def vd (base:Nat) (Q:bX->VS->Prop) (n:Nat) (ps:List (Nat × Nat)) (os:List bq) (i:Nat) (acc:List eP) (t:List AV) (σ : af):Prop :=
 Bz P G π base (fun rs t σ => ab rs ps/\Q .normal ⟨t, σ,n⟩) os i acc t σ
def adq (base:Nat) (Q:bX->VS->Prop) (n:Nat) (os:List bq) (i:Nat):Option (List AV × eP × af)->Prop
 | some (t,_, σ)=>vs P G π base Q n os i t σ
 | none=>False
def adr (base:Nat) (Q:bX->VS->Prop) (n:Nat) (ps:List (Nat × Nat)) (os:List bq) (i:Nat) (acc:List eP):Option (List AV × eP × af)->Prop
 | some (t,r, σ)=>vd P G π base Q n ps os i (r::acc) t σ
 | none=>False
def yp (base:Nat) (Q:bX->VS->Prop) (n:Nat) (d:Option Nat) (os:List bq) (i:Nat) (t:List AV) (σ : af) (f:FuncId) (args:List AV):Prop :=
 ∃ S r,aW P G f args ((base+i) :: π) S r/\(∀ x∈S, σ x.1=some x.2)/\(∀ x∈S,x.1∈r.rd)/\vs P G π base Q n os (i+1) (fU t d r.val) (σ.app r.up)
def Dg (base:Nat) (Q:bX->VS->Prop) (n:Nat) (ps:List (Nat × Nat)) (d:Option Nat) (os:List bq) (i:Nat) (acc:List eP) (t:List AV) (σ : af) (f:FuncId) (args:List AV):Prop :=
 ∃ S r,aW P G f args ((base+i) :: π) S r/\(∀ x∈S, σ x.1=some x.2)/\(∀ x∈S,x.1∈r.rd)/\vd P G π base Q n ps os (i+1) (r::acc) (fU t d r.val) (σ.app r.up)
def O1 (base:Nat) (Q:bX->VS->Prop) (n:Nat) (d:Option Nat) (os:List bq) (i:Nat) (t:List AV) (σ : af):Option Bool->AV->List AV->Prop
 | some true, .fn (.func f) first cap,l=>yp P G π base Q n d os i t σ f (first++l++cap)
 | some false,_,_=>vs P G π base Q n os (i+1) (fU t d (.tup [])) σ
 | _,_,_=>False
def O2 (base:Nat) (Q:bX->VS->Prop) (n:Nat) (ps:List (Nat × Nat)) (d:Option Nat) (os:List bq) (i:Nat) (acc:List eP) (t:List AV) (σ : af):Option Bool->AV->List AV->Prop
 | some true, .fn (.func f) first cap,l=>Dg P G π base Q n ps d os i acc t σ f (first++l++cap)
 | some false,_,_=>vd P G π base Q n ps os (i+1) ({ val := .tup [] }::acc) (fU t d (.tup [])) σ
 | _,_,_=>False
variable {P} {G} {π}
variable {base:Nat} {Q:bX->VS->Prop} {n:Nat} {ps:List (Nat × Nat)} {d:Option Nat} {g:Option (Nat × Bool)} {os:List bq} {i:Nat} {acc:List eP} {t:List AV} {σ : af}
theorem Tu:vs P G π base Q n [] i t σ = Q .normal ⟨t, σ,n⟩:=(rfl)
theorem Tv:vd P G π base Q n ps [] i acc t σ = (ab acc.reverse ps/\Q .normal ⟨t, σ,n⟩):=(rfl)
theorem um {σ : af} {p:Id} {op:gv AV} {K:eP->Prop} (h:op.s6=false):yl P G σ p op K=(match bU σ p op with | some r=>K r | none=>False):=by
 cases op<;>first | rfl | simp [gv.s6] at h
theorem FW {op:gv a6} {f:a6->AV}:(op.map f).s6=op.s6:=by cases op<;>rfl
theorem ads {op:gv a6} (h:op.s6=false):vs P G π base Q n (⟨d,op,g⟩::os) i t σ = adq P G π base Q n os (i+1) (Iw G σ ((base+i) :: π) d op g t):=by
 unfold vs
 simp only [Bx,Iw]
 cases hw:eT t g with
 | none=>rfl
 | some b =>
   cases b with
   | false=>rfl
   | true =>
     simp only []
     rw [um (by rw [FW];exact h)]
     cases bU σ ((base+i) :: π) (op.map (a6.ev G t))<;>rfl
theorem adt {op:gv a6} (h:op.s6=false):vd P G π base Q n ps (⟨d,op,g⟩::os) i acc t σ = adr P G π base Q n ps os (i+1) acc (Iw G σ ((base+i) :: π) d op g t):=by
 unfold vd
 simp only [Bz,Iw]
 cases hw:eT t g with
 | none=>rfl
 | some b =>
   cases b with
   | false=>rfl
   | true =>
     simp only []
     rw [um (by rw [FW];exact h)]
     cases bU σ ((base+i) :: π) (op.map (a6.ev G t))<;>rfl
theorem Xe {f:a6} {l:List a6}:vs P G π base Q n (⟨d, .call f l,g⟩::os) i t σ = O1 P G π base Q n d os i t σ (eT t g) (f.ev G t) (l.map (a6.ev G t)):=by
 unfold vs O1
 simp only [Bx]
 cases hw:eT t g with
 | none=>rfl
 | some b =>
   cases b with
   | false=>rfl
   | true =>
     simp only [gv.map,yl]
     cases hf:f.ev G t<;>try rfl
     rename_i fn a c
     cases fn<;>rfl
theorem Xf {f:a6} {l:List a6}:vd P G π base Q n ps (⟨d, .call f l,g⟩::os) i acc t σ = O2 P G π base Q n ps d os i acc t σ (eT t g) (f.ev G t) (l.map (a6.ev G t)):=by
 unfold vd O2
 simp only [Bz]
 cases hw:eT t g with
 | none=>rfl
 | some b =>
   cases b with
   | false=>rfl
   | true =>
     simp only [gv.map,yl]
     cases hf:f.ev G t<;>try rfl
     rename_i fn a c
     cases fn<;>rfl
theorem FX {f:FuncId} {first cap l:List AV}:O1 P G π base Q n d os i t σ (some true) (.fn (.func f) first cap) l=yp P G π base Q n d os i t σ f (first++l++cap):=(rfl)
theorem FY {f:FuncId} {first cap l:List AV}:O2 P G π base Q n ps d os i acc t σ (some true) (.fn (.func f) first cap) l=Dg P G π base Q n ps d os i acc t σ f (first++l++cap):=(rfl)
theorem ah {f:FuncId} {args:List AV} {r:AV} (h:VP P G f args r) (hp:∀ c∈args,aa c) (k:vs P G π base Q n os (i+1) (fU t d r) σ):yp P G π base Q n d os i t σ f args :=
 ⟨[],{ val:=r },aW.OZ h hp _,by simp,by simp,k⟩
theorem aj {f:FuncId} {args:List AV} {r:AV} (h:VP P G f args r) (hp:∀ c∈args,aa c) (k:vd P G π base Q n ps os (i+1) ({ val:=r }::acc) (fU t d r) σ):Dg P G π base Q n ps d os i acc t σ f args :=
 ⟨[],{ val:=r },aW.OZ h hp _,by simp,by simp,k⟩
def K1 (P:Program) (G:Nat->Option (List AV)) (π : Id) (x y:cg) (Q:bX->VS->Prop) (s:VS):AV->Prop
 | .bool b=>if b then xL P G π x Q s else xL P G π y Q s
 | .anyb=>xL P G π x Q s/\xL P G π y Q s
 | _=>False
theorem FZ {x y:cg} {s:VS}:K1 P G π x y Q s (.bool true)=xL P G π x Q s:=(rfl)
theorem Ef {x y:cg} {s:VS}:K1 P G π x y Q s (.bool false)=xL P G π y Q s:=(rfl)
theorem Ix {x y:cg} {s:VS}:K1 P G π x y Q s .anyb=(xL P G π x Q s/\xL P G π y Q s):=(rfl)
theorem K2 {s:VS}:xL P G π .skip Q s=Q .normal s:=(rfl)
theorem F0 {os:List bq} {n:Nat}:xL P G π (.reg none os) Q ⟨t, σ,n⟩=vs P G π n Q (n+os.length) os 0 t σ := (rfl)
theorem F1 {os:List bq} {n:Nat}:xL P G π (.reg (some ps) os) Q ⟨t, σ,n⟩=vd P G π n Q (n+os.length) ps os 0 [] t σ := (rfl)
theorem O3 {x y:cg} {s:VS}:xL P G π (.seq x y) Q s=xL P G π x (Then (xL P G π y Q) Q) s:=(rfl)
theorem K3 {c:a6} {x y:cg} {n:Nat}:xL P G π (.cond c x y) Q ⟨t, σ,n⟩=K1 P G π x y Q ⟨t, σ,n⟩ (c.ev G t):=by
 simp only [xL,K1]<;>cases c.ev G t<;>rfl
theorem Iy {id:Nat} {x:cg} {s:VS}:xL P G π (.block id x) Q s=xL P G π x (Q4 id Q) s:=(rfl)
theorem aK {x:cg} {s:VS}:xL P G π (.loop x) Q s=VW P G π (.loop x) Q s:=(rfl)
theorem K4 {id:Nat} {s:VS}:xL P G π (.exit id) Q s=Q (.exit id) s:=(rfl)
theorem O4 {s:VS}:xL P G π .ret Q s=Q .ret s:=(rfl)
def Q6 (rs:List ug) (r:AV) (e:bX) (s:VS):Prop:=(e = .normal∨e = .ret)/\∃ r0,aY rs s=some r0/\View s.σ r0 r
theorem ak {rs:List ug} {r:AV} {s:VS}:Q6 rs r .ret s=∃ r0,aY rs s=some r0/\View s.σ r0 r:=by simp [Q6]
theorem Eg {rs:List ug} {r:AV} {s:VS}:Q6 rs r .normal s=∃ r0,aY rs s=some r0/\View s.σ r0 r:=by simp [Q6]
def Iz {α : Type} (G:Nat->Option (List AV)) (π : Id) (st : α -> VS) (Pr : α -> Prop) (m : α -> Nat) (a : α) (Q:bX->VS->Prop):bX->VS->Prop
 | .normal,s'=>∃ a',Pr a'/\m a'<m a/\Wk G π s' (st a')
 | .exit i,s'=>Q (.exit i) s'
 | .ret,s'=>Q .ret s'
theorem BF {α : Type} {st : α -> VS} {Pr : α -> Prop} {m : α -> Nat} {a : α} {s':VS}:Iz G π st Pr m a Q .normal s'=∃ a',Pr a'/\m a'<m a/\Wk G π s' (st a'):=(rfl)
theorem F2 {α : Type} {st : α -> VS} {Pr : α -> Prop} {m : α -> Nat} {a : α} {s':VS} {j:Nat}:Iz G π st Pr m a Q (.exit j) s'=Q (.exit j) s':=(rfl)
theorem IA {α : Type} {st : α -> VS} {Pr : α -> Prop} {m : α -> Nat} {a : α} {s':VS}:Iz G π st Pr m a Q .ret s'=Q .ret s':=(rfl)
theorem VW.dQ {α : Type} {x:cg} {s:VS} (st : α -> VS) (Pr : α -> Prop) (m : α -> Nat) (x0 : α) (hw:Wk G π s (st x0)) (h0:Pr x0)
   (h:∀ a,Pr a->xL P G π x (Iz G π st Pr m a Q) (st a)):VW P G π (.loop x) Q s:=by
 refine VW.wk hw ?_
 intro c hc own E w a R hm hR
 cases c<;>simp only [gE,Option.some.injEq,reduceCtorEq] at hc
 case loop cb =>
   cases h1:gE P cb with
   | none=>simp [h1] at hc
   | some vb =>
     simp only [h1,Option.map_some,Option.some.injEq,cg.loop.injEq] at hc
     subst hc
     refine yn (α := α) (fun g a' w'=>Pr g/\∃ E',mQ own π E E' w w'/\mE G π own E' w' (st g) a') m (x:=x0) ⟨h0,E,mQ.refl own π E w,hm⟩ ?_
     rintro g a2 w2 ⟨hI2,E2,Q3,Bu⟩
     refine VW.of (h g hI2) cb h1 own E2 w2 a2 _ Bu ?_
     intro e s' E' w' a' hq had qG
     cases e with
     | normal =>
       obtain ⟨g',hI3,hlt,hw3⟩:=hq
       obtain ⟨E3,ad3,hm3⟩:=hw3 own E' w' a' qG
       exact ⟨g',⟨hI3,E3,(Q3.trans had).trans ad3,hm3⟩,hlt⟩
     | exit id=>exact hR (.exit id) s' E' w' a' hq (Q3.trans had) qG
     | ret=>exact hR .ret s' E' w' a' hq (Q3.trans had) qG
 case region=>exfalso;revert hc;unfold mD;(repeat' split)<;>simp
 all_goals (exfalso;revert hc;(repeat' split)<;>simp)
theorem VP.of {f:FuncId} {fn:Func} {vf:aB} (hf:P.funcs[f]? = some fn) (hc:Ia P fn=some vf) {args:List AV} {r:AV}
   (h:xL P G [] vf.body (Q6 vf.results r) ⟨args++List.replicate (vf.nt-args.length) (.tup []),fun _=>none,0⟩):VP P G f args r :=
 VP.Tt hf hc (VW.of h)
end
end Go.VL
end

section
namespace Go.VL
def af.of (S:List (Id × da)):af:=fun i=>S.lookup i
theorem gw {S:List (Id × da)} {i:Id} {b:da}:S.lookup i=some b->(i,b)∈S:=by
 induction S with
 | nil=>intro h;simp at h
 | cons x S ih =>
   intro h
   obtain ⟨j,c⟩:=x
   simp only [List.lookup_cons] at h
   split at h
   . rename_i he
     have:i=j:=by simpa using he
     subst this
     simp only [Option.some.injEq] at h;subst h;simp
   . exact List.mem_cons_of_mem _ (ih h)
theorem af.vH {S:List (Id × da)} {σ : af} (h:∀ x∈S, σ x.1=some x.2) (i:Id):af.of S i=none∨af.of S i = σ i:=by
 cases hl:S.lookup i with
 | none=>exact .inl hl
 | some b=>right;show S.lookup i = σ i;rw [hl];exact (h _ (gw hl)).symm
theorem af.aaG (up:List (Id × Option da)) (σ σ':af) (i:Id) (h:(∃ x∈up,x.1=i) ∨ σ i = σ' i) : σ.app up i = σ'.app up i:=by
 induction up generalizing σ σ' with
 | nil =>
   rcases h with ⟨x,hx,_⟩ | h
   . simp at hx
   . exact h
 | cons x up ih =>
   obtain ⟨j,b⟩:=x
   simp only [af.app]
   apply ih
   by_cases hj:i=j
   . right;subst hj;simp [af.put]
   . rcases h with ⟨y,hy,he⟩ | h
     . simp only [List.mem_cons] at hy
       rcases hy with rfl | hy
       . exact absurd he.symm hj
       . exact .inl ⟨y,hy,he⟩
     . right;simp [af.put,hj,h]
theorem af.JD (up:List (Id × Option da)) (σ : af) (i:Id) (h:∀ x∈up,x.1≠i) : σ.app up i = σ i:=by
 induction up generalizing σ with
 | nil=>rfl
 | cons x up ih =>
   obtain ⟨j,b⟩:=x
   simp only [af.app]
   rw [ih _ fun y hy=>h y (List.mem_cons_of_mem _ hy),af.cB]
   exact fun e=>h (j,b) (by simp) e.symm
section
variable {P:Program} {G:Nat->Option (List AV)}
def Fin (G:Nat->Option (List AV)) (p:Id) (S:List (Id × da)) (σ':af) (r0:AV) (r:eP):Prop :=
 ∀ own E w v,Inv G own E w σ'->aT E w r0 v->E.μ p=none->∃ E',mQ own p E E' w w/\Inv G own E' w ((af.of S).app r.up)/\aT E' w r.val v
def Q7 (G:Nat->Option (List AV)) (p:Id) (S:List (Id × da)) (rs:List ug) (r:eP) (e:bX) (s:VS):Prop :=
 (e = .normal∨e = .ret)/\∃ r0,aY rs s=some r0/\Fin G p S s.σ r0 r
theorem aW.Zj {f:FuncId} {fn:Func} {vf:aB} (hf:P.funcs[f]? = some fn) (hc:Ia P fn=some vf) {args:List AV} {p:Id} {S:List (Id × da)} {r:eP}
   (h:VW P G p vf.body (Q7 G p S vf.results r) ⟨args++List.replicate (vf.nt-args.length) (.tup []),af.of S,0⟩):aW P G f args p S r:=by
 unfold Ia at hc
 split at hc
 . simp at hc
 . rename_i ui
   split at hc
   . rename_i c rs hb Te
     simp only [Option.map_eq_some_iff] at hc
     obtain ⟨vb,hvb,rfl⟩:=hc
     refine ⟨⟨fn,hf,by simpa using ui,by simp [hb]⟩,fun own E w σ vs hS hi hr hμ => ?_⟩
     refine calls_of_wp hf hb ?_
     have hal:vs.length=args.length:=bd.len hr
     let HF:Nat->Prop:=fun g=>(∃ x∈S,∃ y,E.μ x.1=some y/\y.1=g)∨w.heap.size<=g
     have FL:∀ i,af.of S i=none∨af.of S i = σ i:=af.vH hS
     have aaH:∀ g,HF g->own g:=by
       rintro g (⟨x,hx,y,hy,rfl⟩ | hg)
       . obtain ⟨g,N,cur,ty,hB⟩:=hi.blk _ _ (hS x hx)
         have:=hB.μ.symm.trans hy
         simp only [Option.some.injEq] at this
         subst this
         exact hB.own
       . exact hi.new g hg
     have O0:Inv G HF E w (af.of S):=by
       refine ⟨hi.okb,fun id bk hs => ?_,(hi.sub FL).inj,hi.glob,fun k hk => .inr hk⟩
       have hm:=gw hs
       obtain ⟨g,N,cur,ty,hB⟩:=hi.blk _ _ (hS _ hm)
       exact ⟨g,N,cur,ty,hB.μ,hB.heap,hB.size,hB.len,hB.most, .inl ⟨_,hm,_,hB.μ,rfl⟩,hB.ok,hB.no,hB.k,hB.row⟩
     have hm:mE G p HF E w ⟨args++List.replicate (fn.ntmps-args.length) (.tup []),af.of S,0⟩
         { tmps:=vs.toArray++Array.replicate (fn.ntmps-vs.toArray.size) undef,defers:=[] }:=by
       refine ⟨?_,O0,fun j hj _=>hμ j hj,rfl⟩
       show bd _ w _ _
       simp only [Array.toList_append,Array.toList_replicate,List.size_toArray,hal]
       refine bd.append hr (bI.2 ⟨by simp,fun j c hj => ?_⟩)
       have yd:j<fn.ntmps-args.length:=by have:=(List.getElem?_eq_some_iff.1 hj).1;simpa using this
       simp only [List.getElem?_replicate,yd,if_true,Option.some.injEq] at hj ⊢
       subst hj
       exact ⟨undef,rfl,by simp only [aT,undef];exact ⟨#[],rfl,by simp [bd]⟩⟩
     refine h c hvb HF E w _ _ hm ?_
     intro e s' E' w' a' hq had qG
     obtain ⟨he,r0,hr0,JE⟩:=hq
     obtain ⟨v,qT,yg⟩:=Ee qG Te hr0
     obtain ⟨E2,aaA,QL,hv3⟩:=JE HF E' w' v qG.inv yg qG.free.self
     have gD:mQ HF p E E2 w w':=had.trans aaA
     have adu:Adv own E E2 w w' :=
       ⟨gD.step,gD.os,gD.tape,gD.output,gD.size,fun k hk ho=>gD.block k hk fun h=>ho (aaH k h),fun b hb=>(gD.Ws b hb).imp id (aaH b)⟩
     -- a block of the caller that the function did not have
     have key:∀ i bk, σ i=some bk->af.of S i=none->∀ g N cur ty,xt E own w i bk g N cur ty -> ¬ HF g:=by
       intro i bk hs hn g N cur ty hB
       rintro (⟨x,hx,y,hy,he⟩ | hg)
       . refine hi.inj x.1 i y (g,bk.k,N) (by simp [hS x hx]) (by simp [hs]) ?_ hy hB.μ he
         intro e
         have:=hS x hx
         have h1:(af.of S) x.1≠none:=by
           show S.lookup x.1≠none
           intro hl
           rw [List.lookup_eq_none_iff] at hl
           have:=hl x hx
           simp at this
         rw [e] at h1
         exact h1 hn
       . have:=gC hB.heap;omega
     have fin:∃ v',Ending.returned v = .returned v'/\lD G own E w σ p r v' E2 w':=by
       refine ⟨v,rfl,adu, ?_,hv3,gD.ids⟩
       -- the invariant of the caller's store
       have Dh:∀ i,(σ.app r.up i=(af.of S).app r.up i)∨(σ.app r.up i = σ i/\(af.of S i=none)):=by
         intro i
         by_cases h:(∃ x∈r.up,x.1=i) ∨ σ i=af.of S i
         . exact .inl (af.aaG r.up σ (af.of S) i h)
         . right
           have h1:∀ x∈r.up,x.1≠i:=fun x hx e=>h (.inl ⟨x,hx,e⟩)
           refine ⟨af.JD r.up σ i h1, ?_⟩
           rcases FL i with h2 | h2
           . exact h2
           . exact absurd (.inr h2.symm) h
       have hold:∀ i bk, σ i=some bk->af.of S i=none->∃ g N cur ty,xt E own w i bk g N cur ty/\xt E2 own w' i bk g N cur ty /\ ¬ HF g:=by
         intro i bk hs hn
         obtain ⟨g,N,cur,ty,hB⟩:=hi.blk i bk hs
         have hno:=key i bk hs hn g N cur ty hB
         refine ⟨g,N,cur,ty,hB,hB.keep gD.step (gD.block g (gC hB.heap) hno) (fun hf gK => ?_),hno⟩
         exact (gD.Ws g gK).elim (hB.no hf) hno
       refine ⟨QL.okb,fun i bk hs => ?_,fun i j x y pM hj' hne hx hy => ?_,QL.glob,fun k hk=>hi.new k (Nat.le_trans gD.size hk)⟩
       . rcases Dh i with h1 | ⟨h1,h2⟩
         . rw [h1] at hs
           obtain ⟨g,N,cur,ty,hB⟩:=QL.blk i bk hs
           exact ⟨g,N,cur,ty,hB.μ,hB.heap,hB.size,hB.len,hB.most,aaH g hB.own,hB.ok,hB.no,hB.k,hB.row⟩
         . rw [h1] at hs
           obtain ⟨g,N,cur,ty,_,hB,_⟩:=hold i bk hs h2
           exact ⟨g,N,cur,ty,hB⟩
       . have new:∀ i x, σ.app r.up i≠none -> σ.app r.up i=(af.of S).app r.up i->E2.μ i=some x->HF x.1:=by
           intro i x hn he hx
           rw [he] at hn
           cases hb:(af.of S).app r.up i with
           | none=>exact absurd hb hn
           | some bk =>
             obtain ⟨g,N,cur,ty,hB⟩:=QL.blk i bk hb
             have:=hB.μ.symm.trans hx
             simp only [Option.some.injEq] at this
             subst this
             exact hB.own
         have old:∀ i x, σ.app r.up i≠none -> σ.app r.up i = σ i->af.of S i=none->E2.μ i=some x -> ¬ HF x.1:=by
           intro i x hn he hs hx
           rw [he] at hn
           cases hb : σ i with
           | none=>exact absurd hb hn
           | some bk =>
             obtain ⟨g,N,cur,ty,_,hB,hno⟩:=hold i bk hb hs
             have:=hB.μ.symm.trans hx
             simp only [Option.some.injEq] at this
             subst this
             exact hno
         rcases Dh i with h1 | ⟨h1,h2⟩<;>rcases Dh j with h3 | ⟨h3,h4⟩
         . exact QL.inj i j x y (h1▸pM) (h3▸hj') hne hx hy
         . intro e;exact old j y hj' h3 h4 hy (e▸new i x pM h1 hx)
         . intro e;exact old i x pM h1 h2 hx (e▸new j y hj' h3 hy)
         . have lift:∀ i x, σ.app r.up i≠none -> σ.app r.up i = σ i->af.of S i=none->E2.μ i=some x->E.μ i=some x:=by
             intro i x hn he hs hx
             rw [he] at hn
             cases hb : σ i with
             | none=>exact absurd hb hn
             | some bk =>
               obtain ⟨g,N,cur,ty,hB,OX,hno⟩:=hold i bk hb hs
               rw [hB.μ, <- OX.μ,hx]
           exact hi.inj i j x y (h1▸pM) (h3▸hj') hne (lift i x pM h1 h2 hx) (lift j y hj' h3 h4 hy)
     have adw:∃ v0,(results fn a'.tmps).run P w' = .ok v0 w'/\∃ v' E',Ending.returned v0 = .returned v'/\lD G own E w σ p r v' E' w':=by
       obtain ⟨v',h1,h2⟩:=fin
       exact ⟨v,qT,v',E2,h1,h2⟩
     rcases he with rfl | rfl
     . exact ⟨qG.defers,adw⟩
     . exact ⟨qG.defers,adw⟩
   . simp at hc
theorem Fin.same {p:Id} {S:List (Id × da)} {σ':af} {r0:AV} {r:eP} (hv:r.val=r0) (hs:∀ i,(af.of S).app r.up i=none∨(af.of S).app r.up i = σ' i):Fin G p S σ' r0 r :=
 fun own E w _ hi hr _=>⟨E,mQ.refl own p E w,hi.sub hs,hv▸hr⟩
end
end Go.VL
end

section
namespace Go.VL
open Go.RowKit
theorem aW.Tw {P:Program} {G:Nat->Option (List AV)} {f:FuncId} {fn:Func} (hf:P.funcs[f]? = some fn) (ui:(fn.name == "runtime.NumGoroutine")=false) (hb:fn.body.isSome=true) {args:List AV} {p:Id} {S:List (Id × da)} {val:AV} {rd:List Id}
   (h:∀ own E w σ vs,(∀ x∈S, σ x.1=some x.2)->Inv G own E w σ -> bd E w args vs->Calls P f vs.toArray w fun e w'=>∃ v,e = .returned v/\Below w.heap.size w w'/\OT val v) :
   aW P G f args p S { val,rd }:=by
 refine ⟨⟨fn,hf,ui,hb⟩,fun own E w σ vs hS hi hr _=>(h own E w σ vs hS hi hr).mono fun e w' he => ?_⟩
 obtain ⟨v,rfl,hB,hv⟩:=he
 have gD:Adv own E E w w':=⟨⟨fun _ _ h=>h,fun _ h=>h,fun b hb=>hB.block b (hi.okb b hb)⟩,hB.os,hB.tape,hB.output,hB.size,fun k hk _=>hB.block k hk,fun _ h => .inl h⟩
 refine ⟨v,E,rfl,gD, ?_,hv E w',fun _ _=>rfl⟩
 refine hi.keep gD rfl (fun b hb=>Nat.lt_of_lt_of_le (hi.okb b hb) hB.size) fun id bk g N hs hm => ?_
 obtain ⟨g',N',cur,ty,OX⟩:=hi.blk id bk hs
 rw [OX.μ] at hm
 simp only [Option.some.injEq,Prod.mk.injEq] at hm
 obtain ⟨rfl,_,rfl⟩:=hm
 exact ⟨hB.block _ (gC OX.heap),OX.no⟩
theorem Tx {G:Nat->Option (List AV)} {own:Nat->Prop} {E:Env} {w:World} {σ : af} (hi:Inv G own E w σ) {x:AV} {v:Value} (hx:aT E w x v) {k:IntKind} {zs:List Int} {rd:List Id} (h:fT σ 1 x=some (zs.map (AV.int k),rd)) :
   ∃ a cap,v = .slice a zs.length cap/\zs.length<=cap/\(zs=[]∨∃ b o,a=some ⟨b,o,none⟩/\b<w.heap.size/\∀ j,j<zs.length->w.cell? ⟨b,o+j,none⟩=some (.int k (zs[j]?.getD 0))):=by
 obtain ⟨_,a,cap,rfl,hle,hr⟩:=zD hi hx h
 refine ⟨a,cap,by simp,by simpa using hle, ?_⟩
 rcases hr with hr | ⟨b,o,rfl,hr⟩
 . left;simpa using hr
 . cases zs with
   | nil=>exact .inl rfl
   | cons z zs =>
     right
     have FB:flat ((z::zs).map (AV.int k))=(z::zs).map (AV.int k):=by
       generalize z::zs=l
       induction l with
       | nil=>rfl
       | cons y l ih=>simp only [List.map_cons,flat,List.flatMap_cons,AV.cells] at ih ⊢;rw [ih];rfl
     rw [FB] at hr
     have hc:∀ j,j<(z::zs).length->w.cell? ⟨b,o+j,none⟩=some (.int k ((z::zs)[j]?.getD 0)):=by
       intro j hj
       obtain ⟨v,h1,h2⟩:=hr j (.int k (z::zs)[j]) (by rw [List.getElem?_map,List.getElem?_eq_getElem hj];rfl)
       simp only [aT] at h2
       subst h2
       rw [h1,List.getElem?_eq_getElem hj];rfl
     refine ⟨b,o,rfl, ?_,hc⟩
     have:=hc 0 (by simp)
     cases hh:w.heap[b]? with
     | none=>simp [World.cell?,hh] at this
     | some ob=>exact (Array.getElem?_eq_some_iff.1 hh).1
end Go.VL
end

section
namespace Go.VL
def da.fz (b:da):da:={ b with fr:=true }
def Di (S:List (Id × da)):List (Id × Option da):=S.map fun x=>(x.1,some x.2.fz)
open Classical in
theorem JF {σ : af} (i:Id):∀ (S:List (Id × da)) (σ0:af),(∀ x∈S, σ x.1=some x.2) -> σ0.app (Di S) i=if ∃ x∈S,x.1=i then (σ i).map da.fz else σ0 i
 | [], σ0,_=>by simp [Di,af.app]
 | x :: S, σ0,h=>by
   show af.app (σ0.put x.1 (some x.2.fz)) (Di S) i=_
   rw [JF i S _ fun y hy=>h y (List.mem_cons_of_mem _ hy)]
   by_cases h1:∃ y∈S,y.1=i
   . rw [if_pos h1,if_pos]
     obtain ⟨y,hy,e⟩:=h1
     exact ⟨y,List.mem_cons_of_mem _ hy,e⟩
   . rw [if_neg h1]
     by_cases h2:i=x.1
     . subst h2
       rw [if_pos ⟨x,by simp,rfl⟩,h x (by simp),af.dA];rfl
     . rw [if_neg,af.cB _ _ _ h2]
       rintro ⟨y,hy,e⟩
       rcases List.mem_cons.1 hy with rfl | hy
       . exact h2 e.symm
       . exact h1 ⟨y,hy,e⟩
theorem Dj {S:List (Id × da)} {σ : af} (hS:∀ x∈S, σ x.1=some x.2) {x:Id × da} (hx:x∈S):af.of S x.1=some x.2:=by
 cases hl:S.lookup x.1 with
 | none =>
   rw [List.lookup_eq_none_iff] at hl
   have:=hl x hx
   simp at this
 | some b =>
   have:=hS _ (gw hl)
   rw [hS x hx] at this
   show S.lookup x.1=_
   rw [hl];exact this.symm
section
variable {P:Program} {G:Nat->Option (List AV)}
theorem Inv.jU {own:Nat->Prop} {E:Env} {w:World} {σ : af} {S:List (Id × da)} (hi:Inv G own E w σ) (hS:∀ x∈S, σ x.1=some x.2) :
   Inv G (fun k=>w.heap.size<=k) (E.jU (af.of S)) w (fun _=>none) where
 okb := by
   rintro b (hb | ⟨id,bk,k,N,hs,hm⟩)
   . exact hi.okb b hb
   . obtain ⟨g,N',cur,ty,hB⟩:=hi.blk id bk (hS _ (gw hs))
     rw [hB.μ] at hm
     simp only [Option.some.injEq,Prod.mk.injEq] at hm
     rw [<- hm.1];exact gC hB.heap
 blk:=fun id bk h=>by simp at h
 inj:=fun i j x y h=>absurd rfl h
 glob:=fun g cs hg=>by
   obtain ⟨h1,h2⟩:=hi.glob g cs hg
   exact ⟨.inl h1,bm.keep (⟨fun _ _ h=>h,fun _ h => .inl h,fun _ _=>rfl⟩:Step E.bare (E.jU (af.of S)).bare w w) rfl cs 0 h2⟩
 new:=fun k hk=>hk
theorem aW.JG {f:FuncId} {args lG:List AV} {r:AV} {p:Id} {S:List (Id × da)} (h:VP P G f lG r) (hv:aF (af.of S) args lG) :
   aW P G f args p S { val:=r,rd:=S.map (·.1),up:=Di S }:=by
 refine ⟨h.1,fun own E w σ vs hS hi hr hμ => ?_⟩
 have FH:=hv.uk (hi.sub (af.vH hS)) hr
 refine (h.2 w vs _ (hi.jU hS) FH).mono fun e w' he => ?_
 obtain ⟨v,ok',rfl,had,gK,hv'⟩:=he
 have gD:Adv own E ⟨E.μ,ok'⟩ w w':=by
   refine ⟨⟨fun _ _ h=>h,fun b hb=>had.step.ok b (.inl hb),fun b hb=>had.step.same b (.inl hb)⟩,had.os,had.tape,had.output,had.size,fun k hk _=>had.block k hk (by omega),fun b hb => ?_⟩
   rcases had.Ws b hb with (h1 | ⟨id,bk,k,N,hs,hm⟩) | h1
   . exact .inl h1
   . obtain ⟨g,N',cur,ty,hB⟩:=hi.blk id bk (hS _ (gw hs))
     rw [hB.μ] at hm
     simp only [Option.some.injEq,Prod.mk.injEq] at hm
     rw [<- hm.1];exact .inr hB.own
   . exact .inr (hi.new b h1)
 refine ⟨v,⟨E.μ,ok'⟩,rfl,gD, ?_,aT.keep (⟨fun _ _ h=>by simp at h,fun _ h=>h,fun _ _=>rfl⟩:Step ⟨fun _=>none,ok'⟩ ⟨E.μ,ok'⟩ w' w') r v hv',fun _ _=>rfl⟩
 have Ty:=fun i=>JF (σ := σ) i S σ hS
 refine ⟨gK,fun id bk hs => ?_,fun i j x y pM hj' hne hx hy => ?_,fun g cs hg => ?_,fun k hk=>hi.new k (Nat.le_trans had.size hk)⟩
 . have eE : σ.app (Di S) id=some bk:=hs
   rw [Ty id] at eE
   split at eE
   . rename_i p9
     obtain ⟨x,hx,rfl⟩:=p9
     rw [hS x hx] at eE
     simp only [Option.map_some,Option.some.injEq] at eE
     subst eE
     obtain ⟨g,N,cur,ty,hB⟩:=hi.blk _ _ (hS x hx)
     have hb:=had.block g (gC hB.heap) (by have:=gC hB.heap;omega)
     exact ⟨g,N,cur,ty,hB.μ,hb.trans hB.heap,hB.size,hB.len,hB.most,hB.own,fun _=>had.step.ok g (.inr ⟨x.1,x.2,x.2.k,N,Dj hS hx,hB.μ⟩),fun hf=>by simp [da.fz] at hf,hB.k,eH.keep gD.step hb hB.row⟩
   . rename_i aaI
     obtain ⟨g,N,cur,ty,hB⟩:=hi.blk _ _ eE
     have hg:=gC hB.heap
     refine ⟨g,N,cur,ty,hB.keep gD.step (had.block g hg (by omega)) fun hf hb => ?_⟩
     rcases had.Ws g hb with (h1 | ⟨D9,bk2,k2,N2,Tz,Bu⟩) | h1
     . exact hB.no hf h1
     . have hm:=gw Tz
       refine hi.inj id D9 _ _ (by simp [eE]) (by simp [hS _ hm]) ?_ hB.μ Bu rfl
       rintro rfl
       exact aaI ⟨_,hm,rfl⟩
     . omega
 . have keep:∀ i, σ.app (Di S) i≠none -> σ i≠none:=by
     intro i hn he
     apply hn
     rw [Ty i,he]
     split<;>rfl
   exact hi.inj i j x y (keep i pM) (keep j hj') hne hx hy
 . obtain ⟨h1,h2⟩:=hi.glob g cs hg
   exact ⟨gD.step.ok g h1,bm.keep gD.step.bare (gD.step.same g h1) cs 0 h2⟩
theorem aW.of_flat {f:FuncId} {args lG:List AV} {r:AV} {p:Id} {S:List (Id × da)} (h:VP P G f lG r) (hv:aF (af.of S) args lG) (hf:jx r) :
   aW P G f args p S { val:=r,rd:=S.map (·.1) }:=by
 refine ⟨h.1,fun own E w σ vs hS hi hr hμ => ?_⟩
 have FH:=hv.uk (hi.sub (af.vH hS)) hr
 refine (h.2 w vs _ (hi.jU hS) FH).mono fun e w' he => ?_
 obtain ⟨v,ok',rfl,had,gK,hv'⟩:=he
 have gD:Adv own E E w w':=⟨⟨fun _ _ h=>h,fun b hb=>hb,fun b hb=>had.step.same b (.inl hb)⟩,had.os,had.tape,had.output,had.size,fun k hk _=>had.block k hk (by omega),fun b hb => .inl hb⟩
 refine ⟨v,E,rfl,gD, ?_,hf _ _ _ _ _ hv',fun _ _=>rfl⟩
 refine hi.keep gD rfl (fun b hb=>Nat.lt_of_lt_of_le (hi.okb b hb) had.size) fun id bk g N hs hm => ?_
 obtain ⟨g',N',cur,ty,OX⟩:=hi.blk id bk hs
 rw [OX.μ] at hm
 simp only [Option.some.injEq,Prod.mk.injEq] at hm
 obtain ⟨rfl,_,rfl⟩:=hm
 have hg:=gC OX.heap
 exact ⟨had.block _ hg (by omega),OX.no⟩
def Zk (S:List (Id × da)):List AV->List AV->Prop
 | [],[]=>True
 | c::cs,d::ds=>(d = .top∨d=c∨View (af.of S) c d)/\Zk S cs ds
 | _,_=>False
theorem Zk.rep {own:Nat->Prop} {E:Env} {w:World} {S:List (Id × da)} (hi:Inv G own E w (af.of S)):∀ {cs ds:List AV} {vs:List Value},Zk S cs ds->bd E w cs vs->bd ⟨E.μ,(E.jU (af.of S)).ok⟩ w ds vs
 | [],[],_,_,h=>by simpa [bd] using h
 | c::cs,d::ds,vs,hf,h=>by
   simp only [Zk] at hf
   simp only [bd] at h ⊢
   obtain ⟨v,rest,e,h1,h2⟩:=h
   refine ⟨v,rest,e, ?_,Zk.rep hi hf.2 h2⟩
   rcases hf.1 with rfl | rfl | hv
   . simp [aT]
   . exact aT.keep (⟨fun _ _ h=>h,fun _ h => .inl h,fun _ _=>rfl⟩:Step E ⟨E.μ,(E.jU (af.of S)).ok⟩ w w) _ v h1
   . exact aT.keep (⟨fun _ _ h=>by simp [Env.jU] at h,fun _ h=>h,fun _ _=>rfl⟩:Step (E.jU (af.of S)) ⟨E.μ,(E.jU (af.of S)).ok⟩ w w) _ v (hv _ _ _ _ _ hi h1)
 | [],_::_,_,h,_=>by simp [Zk] at h
 | _::_,[],_,h,_=>by simp [Zk] at h
theorem Wk.freeze {π : Id} {t t':List AV} {σ σ':af} {n n':Nat} (S:List (Id × da)) (hS:∀ x∈S, σ x.1=some x.2) (ht:Zk S t t')
   (hs:∀ id, σ' id=none ∨ σ' id = σ.app (Di S) id) (hn:n<=n'):Wk G π ⟨t, σ,n⟩ ⟨t', σ',n'⟩:=fun own E w a hm=>by
 have hi:=hm.inv
 let E':Env:=⟨E.μ,(E.jU (af.of S)).ok⟩
 have gD:Adv own E E' w w:=by
   refine ⟨⟨fun _ _ h=>h,fun b hb => .inl hb,fun b hb=>rfl⟩,rfl,rfl,rfl,Nat.le_refl _,fun k hk _=>rfl,fun b hb => ?_⟩
   rcases hb with h1 | ⟨id,bk,k,N,hs,hm⟩
   . exact .inl h1
   . obtain ⟨g,N',cur,ty,hB⟩:=hi.blk id bk (hS _ (gw hs))
     rw [hB.μ] at hm
     simp only [Option.some.injEq,Prod.mk.injEq] at hm
     rw [<- hm.1];exact .inr hB.own
 refine ⟨E',⟨gD,fun _ _=>rfl⟩,ht.rep (hi.sub (af.vH hS)) hm.frame, ?_,hm.free.mono hn,hm.defers⟩
 refine Inv.sub (σ := σ.app (Di S)) ?_ hs
 have Ty:=fun i=>JF (σ := σ) i S σ hS
 refine ⟨(hi.jU hS).okb,fun id bk hs => ?_,fun i j x y pM hj' hne hx hy => ?_,fun g cs hg => ?_,hi.new⟩
 . have eE : σ.app (Di S) id=some bk:=hs
   rw [Ty id] at eE
   split at eE
   . rename_i p9
     obtain ⟨x,hx,rfl⟩:=p9
     rw [hS x hx] at eE
     simp only [Option.map_some,Option.some.injEq] at eE
     subst eE
     obtain ⟨g,N,cur,ty,hB⟩:=hi.blk _ _ (hS x hx)
     exact ⟨g,N,cur,ty,hB.μ,hB.heap,hB.size,hB.len,hB.most,hB.own,fun _ => .inr ⟨x.1,x.2,x.2.k,N,Dj hS hx,hB.μ⟩,fun hf=>by simp [da.fz] at hf,hB.k,eH.keep gD.step rfl hB.row⟩
   . rename_i aaI
     obtain ⟨g,N,cur,ty,hB⟩:=hi.blk _ _ eE
     have hg:=gC hB.heap
     refine ⟨g,N,cur,ty,hB.keep gD.step rfl fun hf hb => ?_⟩
     rcases hb with h1 | ⟨D9,bk2,k2,N2,Tz,Bu⟩
     . exact hB.no hf h1
     . have hm:=gw Tz
       refine hi.inj id D9 _ _ (by simp [eE]) (by simp [hS _ hm]) ?_ hB.μ Bu rfl
       rintro rfl
       exact aaI ⟨_,hm,rfl⟩
 . have keep:∀ i, σ.app (Di S) i≠none -> σ i≠none:=by
     intro i hn he
     apply hn
     rw [Ty i,he]
     split<;>rfl
   exact hi.inj i j x y (keep i pM) (keep j hj') hne hx hy
 . obtain ⟨h1,h2⟩:=hi.glob g cs hg
   exact ⟨gD.step.ok g h1,bm.keep gD.step.bare (gD.step.same g h1) cs 0 h2⟩
end
end Go.VL
end

section
namespace Go.VL
section
variable {P:Program} {G:Nat->Option (List AV)}
theorem VP.Xg {f:FuncId} {args:List AV} {r:eP} (h:aW P G f args [] [] r) (hf:jx r.val):VP P G f args r.val:=by
 refine ⟨h.1,fun w vs ok hi hr => ?_⟩
 refine (h.2 _ _ w _ vs (by simp) hi hr (fun _ _=>rfl)).mono fun e w' he => ?_
 obtain ⟨v,E',rfl,hp⟩:=he
 refine ⟨v,ok,rfl,⟨⟨fun _ _ h=>h,fun _ h=>h,hp.Hq.step.same⟩,hp.Hq.os,hp.Hq.tape,hp.Hq.output,hp.Hq.size,hp.Hq.block,fun _ h => .inl h⟩,fun b hb => ?_,hf _ _ _ _ _ hp.rep⟩
 exact Nat.lt_of_lt_of_le (hi.okb b hb) hp.Hq.size
end
end Go.VL
end

section
namespace Go.VL
def vw:AV->Bool->Option Bool
 | .bool b,want=>some (b==want)
 | .top,_=>none
 | .anyb,_=>none
 | _,_=>some false
theorem O5 {b want:Bool}:vw (.bool b) want=some (b==want):=(rfl)
theorem TA {l:List AV} {want:Bool}:vw (.tup l) want=some false:=(rfl)
section
variable (P:Program) (G:Nat->Option (List AV)) (π : Id)
def xu (base:Nat) (Q:bX->VS->Prop) (n:Nat) (d:Option Nat) (os:List bq) (i:Nat) (t:List AV) (σ : af):Option eP->Prop
 | some r=>vs P G π base Q n os (i+1) (fU t d r.val) (σ.app r.up)
 | none=>False
def vsV (base:Nat) (Q:bX->VS->Prop) (n:Nat) (d:Option Nat) (os:List bq) (i:Nat) (t:List AV) (σ : af):Option AV->Prop
 | some v=>vs P G π base Q n os (i+1) (fU t d v) σ
 | none=>False
def vsG (base:Nat) (Q:bX->VS->Prop) (n:Nat) (o:bq) (os:List bq) (i:Nat) (t:List AV) (σ : af):Option Bool->Prop
 | some true=>vs P G π base Q n (⟨o.dst,o.op,none⟩::os) i t σ
 | some false=>vs P G π base Q n os (i+1) (fU t o.dst (.tup [])) σ
 | none=>False
def xv (base:Nat) (Q:bX->VS->Prop) (n:Nat) (ps:List (Nat × Nat)) (d:Option Nat) (os:List bq) (i:Nat) (acc:List eP) (t:List AV) (σ : af):Option eP->Prop
 | some r=>vd P G π base Q n ps os (i+1) (r::acc) (fU t d r.val) (σ.app r.up)
 | none=>False
def vdV (base:Nat) (Q:bX->VS->Prop) (n:Nat) (ps:List (Nat × Nat)) (d:Option Nat) (os:List bq) (i:Nat) (acc:List eP) (t:List AV) (σ : af):Option AV->Prop
 | some v=>vd P G π base Q n ps os (i+1) ({ val:=v }::acc) (fU t d v) σ
 | none=>False
def vdG (base:Nat) (Q:bX->VS->Prop) (n:Nat) (ps:List (Nat × Nat)) (o:bq) (os:List bq) (i:Nat) (acc:List eP) (t:List AV) (σ : af):Option Bool->Prop
 | some true=>vd P G π base Q n ps (⟨o.dst,o.op,none⟩::os) i acc t σ
 | some false=>vd P G π base Q n ps os (i+1) ({ val := .tup [] }::acc) (fU t o.dst (.tup [])) σ
 | none=>False
variable {P} {G} {π}
variable {base:Nat} {Q:bX->VS->Prop} {n:Nat} {ps:List (Nat × Nat)} {d:Option Nat} {os:List bq} {i:Nat} {acc:List eP} {t:List AV} {σ : af}
theorem K5 {r:eP}:xu P G π base Q n d os i t σ (some r)=vs P G π base Q n os (i+1) (fU t d r.val) (σ.app r.up):=(rfl)
theorem K6 {v:AV}:vsV P G π base Q n d os i t σ (some v)=vs P G π base Q n os (i+1) (fU t d v) σ := (rfl)
theorem K7 {r:eP}:xv P G π base Q n ps d os i acc t σ (some r)=vd P G π base Q n ps os (i+1) (r::acc) (fU t d r.val) (σ.app r.up):=(rfl)
theorem K8 {v:AV}:vdV P G π base Q n ps d os i acc t σ (some v)=vd P G π base Q n ps os (i+1) ({ val:=v }::acc) (fU t d v) σ := (rfl)
theorem IB {o:Option AV}:xu P G π base Q n d os i t σ (bu o)=vsV P G π base Q n d os i t σ o:=by cases o<;>rfl
theorem IC {o:Option AV}:xv P G π base Q n ps d os i acc t σ (bu o)=vdV P G π base Q n ps d os i acc t σ o:=by cases o<;>rfl
theorem K9 {o:bq}:vsG P G π base Q n o os i t σ (some true)=vs P G π base Q n (⟨o.dst,o.op,none⟩::os) i t σ := (rfl)
theorem ID {o:bq}:vsG P G π base Q n o os i t σ (some false)=vs P G π base Q n os (i+1) (fU t o.dst (.tup [])) σ := (rfl)
theorem La {o:bq}:vdG P G π base Q n ps o os i acc t σ (some true)=vd P G π base Q n ps (⟨o.dst,o.op,none⟩::os) i acc t σ := (rfl)
theorem IE {o:bq}:vdG P G π base Q n ps o os i acc t σ (some false)=vd P G π base Q n ps os (i+1) ({ val := .tup [] }::acc) (fU t o.dst (.tup [])) σ := (rfl)
theorem F3 {j:Nat} {want:Bool}:eT t (some (j,want))=vw (t.getD j (.tup [])) want:=by
 rw [List.getD_eq_getElem?_getD]
 show (match t[j]? with | some (.bool b)=>some (b==want) | some .top | some .anyb=>none | _=>some false)=_
 cases t[j]? with
 | none=>rfl
 | some c=>cases c<;>rfl
theorem IF {d:Nat} {v:AV}:fU t (some d) v=t.set d v:=(rfl)
theorem IG {v:AV}:fU t none v=t:=(rfl)
theorem adx {j:Nat}:(a6.t j).ev G t=t.getD j (.tup []):=(rfl)
theorem ady {a:AV}:(a6.c a).ev G t=a:=(rfl)
theorem adz {f:Nat}:(a6.f f).ev G t = .fn (.func f) [] []:=(rfl)
theorem O6 : σ.app [] = σ := (rfl)
theorem Lc {x:Id × Option da} {l:List (Id × Option da)} : σ.app (x::l)=(σ.put x.1 x.2).app l:=(rfl)
theorem sg {op:gv a6} {j:Nat} {want:Bool}:vs P G π base Q n (⟨d,op,some (j,want)⟩::os) i t σ = vsG P G π base Q n ⟨d,op,none⟩ os i t σ (vw (t.getD j (.tup [])) want):=by
 rw [<- F3]
 unfold vs vsG
 simp only [Bx]
 cases eT t (some (j,want)) with
 | none=>rfl
 | some b=>cases b<;>rfl
theorem dg {op:gv a6} {j:Nat} {want:Bool}:vd P G π base Q n ps (⟨d,op,some (j,want)⟩::os) i acc t σ = vdG P G π base Q n ps ⟨d,op,none⟩ os i acc t σ (vw (t.getD j (.tup [])) want):=by
 rw [<- F3]
 unfold vd vdG
 simp only [Bz]
 cases eT t (some (j,want)) with
 | none=>rfl
 | some b=>cases b<;>rfl
theorem dJ {op:gv a6} (h:op.s6=false):vs P G π base Q n (⟨d,op,none⟩::os) i t σ = xu P G π base Q n d os i t σ (bU σ ((base+i) :: π) (op.map (a6.ev G t))):=by
 rw [ads h];unfold Iw;simp only [eT];cases bU σ ((base+i) :: π) (op.map (a6.ev G t))<;>rfl
theorem dK {op:gv a6} (h:op.s6=false):vd P G π base Q n ps (⟨d,op,none⟩::os) i acc t σ = xv P G π base Q n ps d os i acc t σ (bU σ ((base+i) :: π) (op.map (a6.ev G t))):=by
 rw [adt h];unfold Iw;simp only [eT];cases bU σ ((base+i) :: π) (op.map (a6.ev G t))<;>rfl
theorem adA {x:a6}:vs P G π base Q n (⟨d, .mv x,none⟩::os) i t σ = xu P G π base Q n d os i t σ (bU σ ((base+i) :: π) (.mv (x.ev G t))):=dJ rfl
theorem adB {x:a6}:vd P G π base Q n ps (⟨d, .mv x,none⟩::os) i acc t σ = xv P G π base Q n ps d os i acc t σ (bU σ ((base+i) :: π) (.mv (x.ev G t))):=dK rfl
theorem TB {c a b:a6}:vs P G π base Q n (⟨d, .pick c a b,none⟩::os) i t σ = xu P G π base Q n d os i t σ (bU σ ((base+i) :: π) (.pick (c.ev G t) (a.ev G t) (b.ev G t))):=dJ rfl
theorem TC {c a b:a6}:vd P G π base Q n ps (⟨d, .pick c a b,none⟩::os) i acc t σ = xv P G π base Q n ps d os i acc t σ (bU σ ((base+i) :: π) (.pick (c.ev G t) (a.ev G t) (b.ev G t))):=dK rfl
theorem Zl {x:a6}:vs P G π base Q n (⟨d, .box x,none⟩::os) i t σ = xu P G π base Q n d os i t σ (bU σ ((base+i) :: π) (.box (x.ev G t))):=dJ rfl
theorem Zm {x:a6}:vd P G π base Q n ps (⟨d, .box x,none⟩::os) i acc t σ = xv P G π base Q n ps d os i acc t σ (bU σ ((base+i) :: π) (.box (x.ev G t))):=dK rfl
theorem O7 {z:List AV} {l:List (Nat × Nat × a6)}:vs P G π base Q n (⟨d, .build z l,none⟩::os) i t σ = xu P G π base Q n d os i t σ (bU σ ((base+i) :: π) (.build z (l.map fun p=>(p.1,p.2.1,p.2.2.ev G t)))):=dJ rfl
theorem O8 {z:List AV} {l:List (Nat × Nat × a6)}:vd P G π base Q n ps (⟨d, .build z l,none⟩::os) i acc t σ = xv P G π base Q n ps d os i acc t σ (bU σ ((base+i) :: π) (.build z (l.map fun p=>(p.1,p.2.1,p.2.2.ev G t)))):=dK rfl
theorem IH {k m:Nat} {z:AV} {l:List (Nat × a6)}:vs P G π base Q n (⟨d, .buildSl k m z l,none⟩::os) i t σ = xu P G π base Q n d os i t σ (bU σ ((base+i) :: π) (.buildSl k m z (l.map fun p=>(p.1,p.2.ev G t)))):=dJ rfl
theorem II {k m:Nat} {z:AV} {l:List (Nat × a6)}:vd P G π base Q n ps (⟨d, .buildSl k m z l,none⟩::os) i acc t σ = xv P G π base Q n ps d os i acc t σ (bU σ ((base+i) :: π) (.buildSl k m z (l.map fun p=>(p.1,p.2.ev G t)))):=dK rfl
theorem TD {a:Bool} {m:Nat} {x:a6}:vs P G π base Q n (⟨d, .load a m x,none⟩::os) i t σ = xu P G π base Q n d os i t σ (bU σ ((base+i) :: π) (.load a m (x.ev G t))):=dJ rfl
theorem TE {a:Bool} {m:Nat} {x:a6}:vd P G π base Q n ps (⟨d, .load a m x,none⟩::os) i acc t σ = xv P G π base Q n ps d os i acc t σ (bU σ ((base+i) :: π) (.load a m (x.ev G t))):=dK rfl
theorem O9 {m:Nat} {x v:a6}:vs P G π base Q n (⟨d, .store m x v,none⟩::os) i t σ = xu P G π base Q n d os i t σ (bU σ ((base+i) :: π) (.store m (x.ev G t) (v.ev G t))):=dJ rfl
theorem Pa {m:Nat} {x v:a6}:vd P G π base Q n ps (⟨d, .store m x v,none⟩::os) i acc t σ = xv P G π base Q n ps d os i acc t σ (bU σ ((base+i) :: π) (.store m (x.ev G t) (v.ev G t))):=dK rfl
theorem Pb {x:a6}:vs P G π base Q n (⟨d, .nilck x,none⟩::os) i t σ = xu P G π base Q n d os i t σ (bU σ ((base+i) :: π) (.nilck (x.ev G t))):=dJ rfl
theorem Pc {x:a6}:vd P G π base Q n ps (⟨d, .nilck x,none⟩::os) i acc t σ = xv P G π base Q n ps d os i acc t σ (bU σ ((base+i) :: π) (.nilck (x.ev G t))):=dK rfl
theorem Zn {o:BinOp} {sh:Sh} {x y:a6}:vs P G π base Q n (⟨d, .bin o sh x y,none⟩::os) i t σ = xu P G π base Q n d os i t σ (bU σ ((base+i) :: π) (.bin o sh (x.ev G t) (y.ev G t))):=dJ rfl
theorem Zo {o:BinOp} {sh:Sh} {x y:a6}:vd P G π base Q n ps (⟨d, .bin o sh x y,none⟩::os) i acc t σ = xv P G π base Q n ps d os i acc t σ (bU σ ((base+i) :: π) (.bin o sh (x.ev G t) (y.ev G t))):=dK rfl
theorem adC {o:UnOp} {x:a6}:vs P G π base Q n (⟨d, .un o x,none⟩::os) i t σ = xu P G π base Q n d os i t σ (bU σ ((base+i) :: π) (.un o (x.ev G t))):=dJ rfl
theorem adD {o:UnOp} {x:a6}:vd P G π base Q n ps (⟨d, .un o x,none⟩::os) i acc t σ = xv P G π base Q n ps d os i acc t σ (bU σ ((base+i) :: π) (.un o (x.ev G t))):=dK rfl
theorem Pd {k:IntKind} {x:a6}:vs P G π base Q n (⟨d, .toInt k x,none⟩::os) i t σ = xu P G π base Q n d os i t σ (bU σ ((base+i) :: π) (.toInt k (x.ev G t))):=dJ rfl
theorem Pe {k:IntKind} {x:a6}:vd P G π base Q n ps (⟨d, .toInt k x,none⟩::os) i acc t σ = xv P G π base Q n ps d os i acc t σ (bU σ ((base+i) :: π) (.toInt k (x.ev G t))):=dK rfl
theorem Pf {x:a6}:vs P G π base Q n (⟨d, .idStr x,none⟩::os) i t σ = xu P G π base Q n d os i t σ (bU σ ((base+i) :: π) (.idStr (x.ev G t))):=dJ rfl
theorem Pg {x:a6}:vd P G π base Q n ps (⟨d, .idStr x,none⟩::os) i acc t σ = xv P G π base Q n ps d os i acc t σ (bU σ ((base+i) :: π) (.idStr (x.ev G t))):=dK rfl
theorem F4 {x:a6}:vs P G π base Q n (⟨d, .bytesStr x,none⟩::os) i t σ = xu P G π base Q n d os i t σ (bU σ ((base+i) :: π) (.bytesStr (x.ev G t))):=dJ rfl
theorem F5 {x:a6}:vd P G π base Q n ps (⟨d, .bytesStr x,none⟩::os) i acc t σ = xv P G π base Q n ps d os i acc t σ (bU σ ((base+i) :: π) (.bytesStr (x.ev G t))):=dK rfl
theorem Zp {x c:a6}:vs P G π base Q n (⟨d, .idx x c,none⟩::os) i t σ = xu P G π base Q n d os i t σ (bU σ ((base+i) :: π) (.idx (x.ev G t) (c.ev G t))):=dJ rfl
theorem Zq {x c:a6}:vd P G π base Q n ps (⟨d, .idx x c,none⟩::os) i acc t σ = xv P G π base Q n ps d os i acc t σ (bU σ ((base+i) :: π) (.idx (x.ev G t) (c.ev G t))):=dK rfl
theorem Zr {x y:a6}:vs P G π base Q n (⟨d, .ovl x y,none⟩::os) i t σ = xu P G π base Q n d os i t σ (bU σ ((base+i) :: π) (.ovl (x.ev G t) (y.ev G t))):=dJ rfl
theorem Zs {x y:a6}:vd P G π base Q n ps (⟨d, .ovl x y,none⟩::os) i acc t σ = xv P G π base Q n ps d os i acc t σ (bU σ ((base+i) :: π) (.ovl (x.ev G t) (y.ev G t))):=dK rfl
theorem TF {fn:Fn} {a c:List a6}:vs P G π base Q n (⟨d, .mkfn fn a c,none⟩::os) i t σ = xu P G π base Q n d os i t σ (bU σ ((base+i) :: π) (.mkfn fn (a.map (a6.ev G t)) (c.map (a6.ev G t)))):=dJ rfl
theorem TG {fn:Fn} {a c:List a6}:vd P G π base Q n ps (⟨d, .mkfn fn a c,none⟩::os) i acc t σ = xv P G π base Q n ps d os i acc t σ (bU σ ((base+i) :: π) (.mkfn fn (a.map (a6.ev G t)) (c.map (a6.ev G t)))):=dK rfl
theorem TH {k b:Nat} {z:AV} {l c:a6}:vs P G π base Q n (⟨d, .mksl k b z l c,none⟩::os) i t σ = xu P G π base Q n d os i t σ (bU σ ((base+i) :: π) (.mksl k b z (l.ev G t) (c.ev G t))):=dJ rfl
theorem TI {k b:Nat} {z:AV} {l c:a6}:vd P G π base Q n ps (⟨d, .mksl k b z l c,none⟩::os) i acc t σ = xv P G π base Q n ps d os i acc t σ (bU σ ((base+i) :: π) (.mksl k b z (l.ev G t) (c.ev G t))):=dK rfl
theorem Ph {k:Nat} {x:a6} {lo hi mx:Option a6}:vs P G π base Q n (⟨d, .slice k x lo hi mx,none⟩::os) i t σ = xu P G π base Q n d os i t σ (bU σ ((base+i) :: π) (.slice k (x.ev G t) (lo.map (a6.ev G t)) (hi.map (a6.ev G t)) (mx.map (a6.ev G t)))):=dJ rfl
theorem Pj {k:Nat} {x:a6} {lo hi mx:Option a6}:vd P G π base Q n ps (⟨d, .slice k x lo hi mx,none⟩::os) i acc t σ = xv P G π base Q n ps d os i acc t σ (bU σ ((base+i) :: π) (.slice k (x.ev G t) (lo.map (a6.ev G t)) (hi.map (a6.ev G t)) (mx.map (a6.ev G t)))):=dK rfl
theorem Ld {x:a6} {lo hi:Option a6}:vs P G π base Q n (⟨d, .sliceS x lo hi,none⟩::os) i t σ = xu P G π base Q n d os i t σ (bU σ ((base+i) :: π) (.sliceS (x.ev G t) (lo.map (a6.ev G t)) (hi.map (a6.ev G t)))):=dJ rfl
theorem Le {x:a6} {lo hi:Option a6}:vd P G π base Q n ps (⟨d, .sliceS x lo hi,none⟩::os) i acc t σ = xv P G π base Q n ps d os i acc t σ (bU σ ((base+i) :: π) (.sliceS (x.ev G t) (lo.map (a6.ev G t)) (hi.map (a6.ev G t)))):=dK rfl
theorem Pk {o:Nat} {x:a6}:vs P G π base Q n (⟨d, .faddr o x,none⟩::os) i t σ = xu P G π base Q n d os i t σ (bU σ ((base+i) :: π) (.faddr o (x.ev G t))):=dJ rfl
theorem Pl {o:Nat} {x:a6}:vd P G π base Q n ps (⟨d, .faddr o x,none⟩::os) i acc t σ = xv P G π base Q n ps d os i acc t σ (bU σ ((base+i) :: π) (.faddr o (x.ev G t))):=dK rfl
theorem Pm {a:Bool} {o m:Nat} {x:a6}:vs P G π base Q n (⟨d, .field a o m x,none⟩::os) i t σ = xu P G π base Q n d os i t σ (bU σ ((base+i) :: π) (.field a o m (x.ev G t))):=dJ rfl
theorem Pn {a:Bool} {o m:Nat} {x:a6}:vd P G π base Q n ps (⟨d, .field a o m x,none⟩::os) i acc t σ = xv P G π base Q n ps d os i acc t σ (bU σ ((base+i) :: π) (.field a o m (x.ev G t))):=dK rfl
theorem Lf {k:Nat} {x j:a6}:vs P G π base Q n (⟨d, .iaddrS k x j,none⟩::os) i t σ = xu P G π base Q n d os i t σ (bU σ ((base+i) :: π) (.iaddrS k (x.ev G t) (j.ev G t))):=dJ rfl
theorem Lg {k:Nat} {x j:a6}:vd P G π base Q n ps (⟨d, .iaddrS k x j,none⟩::os) i acc t σ = xv P G π base Q n ps d os i acc t σ (bU σ ((base+i) :: π) (.iaddrS k (x.ev G t) (j.ev G t))):=dK rfl
theorem Lh {m k:Nat} {x j:a6}:vs P G π base Q n (⟨d, .iaddrA m k x j,none⟩::os) i t σ = xu P G π base Q n d os i t σ (bU σ ((base+i) :: π) (.iaddrA m k (x.ev G t) (j.ev G t))):=dJ rfl
theorem Li {m k:Nat} {x j:a6}:vd P G π base Q n ps (⟨d, .iaddrA m k x j,none⟩::os) i acc t σ = xv P G π base Q n ps d os i acc t σ (bU σ ((base+i) :: π) (.iaddrA m k (x.ev G t) (j.ev G t))):=dK rfl
theorem Lj {x j:a6}:vs P G π base Q n (⟨d, .indexS x j,none⟩::os) i t σ = xu P G π base Q n d os i t σ (bU σ ((base+i) :: π) (.indexS (x.ev G t) (j.ev G t))):=dJ rfl
theorem Lk {x j:a6}:vd P G π base Q n ps (⟨d, .indexS x j,none⟩::os) i acc t σ = xv P G π base Q n ps d os i acc t σ (bU σ ((base+i) :: π) (.indexS (x.ev G t) (j.ev G t))):=dK rfl
theorem Ll {a:Bool} {m k:Nat} {x j:a6}:vs P G π base Q n (⟨d, .indexA a m k x j,none⟩::os) i t σ = xu P G π base Q n d os i t σ (bU σ ((base+i) :: π) (.indexA a m k (x.ev G t) (j.ev G t))):=dJ rfl
theorem Lm {a:Bool} {m k:Nat} {x j:a6}:vd P G π base Q n ps (⟨d, .indexA a m k x j,none⟩::os) i acc t σ = xv P G π base Q n ps d os i acc t σ (bU σ ((base+i) :: π) (.indexA a m k (x.ev G t) (j.ev G t))):=dK rfl
theorem IJ {x:a6} {j:Nat}:vs P G π base Q n (⟨d, .extract x j,none⟩::os) i t σ = xu P G π base Q n d os i t σ (bU σ ((base+i) :: π) (.extract (x.ev G t) j)):=dJ rfl
theorem IK {x:a6} {j:Nat}:vd P G π base Q n ps (⟨d, .extract x j,none⟩::os) i acc t σ = xv P G π base Q n ps d os i acc t σ (bU σ ((base+i) :: π) (.extract (x.ev G t) j)):=dK rfl
theorem Zt {b:Bool} {x:a6}:vs P G π base Q n (⟨d, .len b x,none⟩::os) i t σ = xu P G π base Q n d os i t σ (bU σ ((base+i) :: π) (.len b (x.ev G t))):=dJ rfl
theorem Zu {b:Bool} {x:a6}:vd P G π base Q n ps (⟨d, .len b x,none⟩::os) i acc t σ = xv P G π base Q n ps d os i acc t σ (bU σ ((base+i) :: π) (.len b (x.ev G t))):=dK rfl
theorem TJ {m:Nat} {x:a6}:vs P G π base Q n (⟨d, .lenN m x,none⟩::os) i t σ = xu P G π base Q n d os i t σ (bU σ ((base+i) :: π) (.lenN m (x.ev G t))):=dJ rfl
theorem TK {m:Nat} {x:a6}:vd P G π base Q n ps (⟨d, .lenN m x,none⟩::os) i acc t σ = xv P G π base Q n ps d os i acc t σ (bU σ ((base+i) :: π) (.lenN m (x.ev G t))):=dK rfl
theorem Ln {k b:Nat} {s x:a6}:vs P G π base Q n (⟨d, .append k b s x,none⟩::os) i t σ = xu P G π base Q n d os i t σ (bU σ ((base+i) :: π) (.append k b (s.ev G t) (x.ev G t))):=dJ rfl
theorem Lp {k b:Nat} {s x:a6}:vd P G π base Q n ps (⟨d, .append k b s x,none⟩::os) i acc t σ = xv P G π base Q n ps d os i acc t σ (bU σ ((base+i) :: π) (.append k b (s.ev G t) (x.ev G t))):=dK rfl
theorem Zv {x y:a6}:vs P G π base Q n (⟨d, .min x y,none⟩::os) i t σ = xu P G π base Q n d os i t σ (bU σ ((base+i) :: π) (.min (x.ev G t) (y.ev G t))):=dJ rfl
theorem Zw {x y:a6}:vd P G π base Q n ps (⟨d, .min x y,none⟩::os) i acc t σ = xv P G π base Q n ps d os i acc t σ (bU σ ((base+i) :: π) (.min (x.ev G t) (y.ev G t))):=dK rfl
theorem Zx {x y:a6}:vs P G π base Q n (⟨d, .max x y,none⟩::os) i t σ = xu P G π base Q n d os i t σ (bU σ ((base+i) :: π) (.max (x.ev G t) (y.ev G t))):=dJ rfl
theorem Zy {x y:a6}:vd P G π base Q n ps (⟨d, .max x y,none⟩::os) i acc t σ = xv P G π base Q n ps d os i acc t σ (bU σ ((base+i) :: π) (.max (x.ev G t) (y.ev G t))):=dK rfl
theorem Zz {x:a6}:vs P G π base Q n (⟨d, .cap x,none⟩::os) i t σ = xu P G π base Q n d os i t σ (bU σ ((base+i) :: π) (.cap (x.ev G t))):=dJ rfl
theorem ZA {x:a6}:vd P G π base Q n ps (⟨d, .cap x,none⟩::os) i acc t σ = xv P G π base Q n ps d os i acc t σ (bU σ ((base+i) :: π) (.cap (x.ev G t))):=dK rfl
theorem Po {k:Nat} {z:AV} {x:a6}:vs P G π base Q n (⟨d, .clear k z x,none⟩::os) i t σ = xu P G π base Q n d os i t σ (bU σ ((base+i) :: π) (.clear k z (x.ev G t))):=dJ rfl
theorem Pp {k:Nat} {z:AV} {x:a6}:vd P G π base Q n ps (⟨d, .clear k z x,none⟩::os) i acc t σ = xv P G π base Q n ps d os i acc t σ (bU σ ((base+i) :: π) (.clear k z (x.ev G t))):=dK rfl
theorem TL {k:Nat} {e x:a6}:vs P G π base Q n (⟨d, .copy k e x,none⟩::os) i t σ = xu P G π base Q n d os i t σ (bU σ ((base+i) :: π) (.copy k (e.ev G t) (x.ev G t))):=dJ rfl
theorem TM {k:Nat} {e x:a6}:vd P G π base Q n ps (⟨d, .copy k e x,none⟩::os) i acc t σ = xv P G π base Q n ps d os i acc t σ (bU σ ((base+i) :: π) (.copy k (e.ev G t) (x.ev G t))):=dK rfl
theorem TN {k b:Nat} {z:AV} {s m:a6}:vs P G π base Q n (⟨d, .appz k b z s m,none⟩::os) i t σ = xu P G π base Q n d os i t σ (bU σ ((base+i) :: π) (.appz k b z (s.ev G t) (m.ev G t))):=dJ rfl
theorem TP {k b:Nat} {z:AV} {s m:a6}:vd P G π base Q n ps (⟨d, .appz k b z s m,none⟩::os) i acc t σ = xv P G π base Q n ps d os i acc t σ (bU σ ((base+i) :: π) (.appz k b z (s.ev G t) (m.ev G t))):=dK rfl
theorem s_call {f:a6} {l:List a6}:vs P G π base Q n (⟨d, .call f l,none⟩::os) i t σ = O1 P G π base Q n d os i t σ (some true) (f.ev G t) (l.map (a6.ev G t)):=Xe
theorem TQ {f:a6} {l:List a6}:vd P G π base Q n ps (⟨d, .call f l,none⟩::os) i acc t σ = O2 P G π base Q n ps d os i acc t σ (some true) (f.ev G t) (l.map (a6.ev G t)):=Xf
end
section
variable {σ : af} {p:Id}
theorem TR {x:AV}:bU σ p (.mv x)=bu (some x):=(rfl)
theorem Lq {b:Bool} {x y:AV}:bU σ p (.pick (.bool b) x y)=bu (some (if b then x else y)):=(rfl)
theorem Pq {x:AV}:bU σ p (.box x)=if x.cells.all AV.one=true then some { val := .ref p 0 0,up:=[(p,some ⟨[x],x.size,false⟩)] } else none:=(rfl)
theorem IL {z:List AV} {l:List (Nat × Nat × AV)}:bU σ p (.build z l)=bu ((iN z l).map .agg):=(rfl)
theorem yq {k n:Nat} {z:AV} {ps:List (Nat × AV)}:bU σ p (.buildSl k n z ps)=(match kD k (List.replicate n z) ps with
   | some es=>if z.size=k/\z.cells.all AV.one=true then (if n=0 then some { val := .tsl k [] } else some { val := .osl p k 0 n false,up:=[(p,some ⟨es,k,false⟩)] }) else none
   | none=>none):=(rfl)
theorem Lr {a:Bool} {n:Nat} {x:AV}:bU σ p (.load a n x)=jl σ a n x:=(rfl)
theorem IM {n:Nat} {x v:AV}:bU σ p (.store n x v)=fy σ n x v:=(rfl)
theorem Ps {o:BinOp} {sh:Sh} {x y:AV}:bU σ p (.bin o sh x y)=bu (bM o sh x y):=(rfl)
theorem TT {o:UnOp} {x:AV}:bU σ p (.un o x)=bu (vun o x):=(rfl)
theorem IP {k k':IntKind} {n:Int}:bU σ p (.toInt k (.int k' n))=bu (some (.int k (k.wrap n))):=(rfl)
theorem IQ {s:List UInt8}:bU σ p (.idStr (.str s))=bu (some (.str s)):=(rfl)
theorem BG {x:AV}:bU σ p (.bytesStr x)=nK σ x:=(rfl)
theorem Ls {fn:Fn} {a c:List AV}:bU σ p (.mkfn fn a c)=bu (some (.fn fn a c)):=(rfl)
theorem Lt {k b:Nat} {z l c:AV}:bU σ p (.mksl k b z l c)=jm p k b z l c:=(rfl)
theorem IU {k:Nat} {x:AV} {lo hi mx:Option AV}:bU σ p (.slice k x lo hi mx)=vC σ k x lo hi mx (gP k x lo hi mx):=(rfl)
theorem BH {k:Nat} {x:AV} {lo hi mx:Option AV} {v:AV}:vC σ k x lo hi mx (some v)=bu (some v):=(rfl)
theorem F6 {x:AV} {lo hi:Option AV}:bU σ p (.sliceS x lo hi)=bu (vA x lo hi):=(rfl)
theorem Aj {o:Nat} {id:Id} {e q:Nat}:bU σ p (.faddr o (.ref id e q))=bu (some (.ref id e (q+o))):=(rfl)
theorem BI {o:Nat} {cs:List AV} {q:Nat}:bU σ p (.faddr o (.ep cs q))=bu (some (.ep cs (q+o))):=(rfl)
theorem IW {a:Bool} {o n:Nat} {cs:List AV}:bU σ p (.field a o n (.agg cs))=bu (part a cs o n):=(rfl)
theorem F7 {k:Nat} {x i:AV}:bU σ p (.iaddrS k x i)=bu (cn k x i):=(rfl)
theorem F8 {n k:Nat} {x i:AV}:bU σ p (.iaddrA n k x i)=bu (nY n k x i):=(rfl)
theorem AB {s:List UInt8} {k:IntKind} {i:Int}:bU σ p (.indexS (.str s) (.int k i))=if 0<=i then bu ((s[i.toNat]?).map fun b => .int .u8 b.toNat) else none:=(rfl)
theorem F9 {a:Bool} {n k:Nat} {cs:List AV} {k':IntKind} {i:Int}:bU σ p (.indexA a n k (.agg cs) (.int k' i))=if 0<=i/\i<n then bu (part a cs (i.toNat*k) k) else none:=(rfl)
theorem Eh {l:List AV} {i:Nat}:bU σ p (.extract (.tup l) i)=bu l[i]? := (rfl)
theorem Pt {b:Bool} {x:AV}:bU σ p (.len b x)=bu (sX b x):=(rfl)
theorem Lu {n:Nat} {x:AV}:bU σ p (.lenN n x)=bu (some (.int .i64 n)):=(rfl)
theorem Ga {k b:Nat} {s x:AV}:bU σ p (.append k b s x)=eh σ p k b s x:=(rfl)
theorem Pu {k k':IntKind} {a b:Int}:bU σ p (.min (.int k a) (.int k' b))=bu (some (.int k (if b<a then b else a))):=(rfl)
theorem Pv {k k':IntKind} {a b:Int}:bU σ p (.max (.int k a) (.int k' b))=bu (some (.int k (if b>a then b else a))):=(rfl)
theorem Pw {x:AV}:bU σ p (.cap x)=FD σ x (SY x):=(rfl)
theorem Gb {x v:AV}:FD σ x (some v)=bu (some v):=(rfl)
theorem Px {x c:AV}:bU σ p (.idx x c)=bu (SZ x c):=(rfl)
theorem Lv {s:List UInt8} {c:Int}:SZ (.str s) (.int .u8 c)=some (.int .i64 (sx s c.toNat.toUInt8)):=(rfl)
theorem Py {x y:AV}:bU σ p (.ovl x y)=Qz σ x y:=(rfl)
theorem IX {k:Nat} {z x:AV}:bU σ p (.clear k z x)=FC σ k z x:=(rfl)
theorem Lw {k:Nat} {d x:AV}:bU σ p (.copy k d x)=KC σ k d x:=(rfl)
theorem Lx {k b:Nat} {z s n:AV}:bU σ p (.appz k b z s n)=H9 p k b z s n:=(rfl)
theorem Ak {id:Id} {e o:Nat}:bU σ p (.nilck (.ref id e o))=bu (some (.ref id e o)):=(rfl)
theorem BJ {cs:List AV} {o:Nat}:bU σ p (.nilck (.ep cs o))=bu (some (.ep cs o)):=(rfl)
theorem BM {f:FuncId} {a c:List AV}:bU σ p (.nilck (.fn (.func f) a c))=bu (some (.fn (.func f) a c)):=(rfl)
theorem JH {k:IntKind} {a b:Int}:bM .add .int (.int k a) (.int k b)=some (.int k (k.wrap (a+b))):=by simp only [bM];rw [show mO .add .int (.int k a) (.int k b)=some (.int k (k.wrap (a+b))) from by simp [mO,vz]]
theorem Pz {k:IntKind} {a b:Int}:bM .sub .int (.int k a) (.int k b)=some (.int k (k.wrap (a-b))):=by simp only [bM];rw [show mO .sub .int (.int k a) (.int k b)=some (.int k (k.wrap (a-b))) from by simp [mO,vz]]
theorem PA {k:IntKind} {a b:Int}:bM .mul .int (.int k a) (.int k b)=some (.int k (k.wrap (a*b))):=by simp only [bM];rw [show mO .mul .int (.int k a) (.int k b)=some (.int k (k.wrap (a*b))) from by simp [mO,vz]]
theorem JI {k:IntKind} {a b:Int} (h:b≠0):bM .quo .int (.int k a) (.int k b)=some (.int k (k.wrap (a.tdiv b))):=by simp only [bM];rw [show mO .quo .int (.int k a) (.int k b)=some (.int k (k.wrap (a.tdiv b))) from by simp [mO,vz,h]]
theorem PB {k:IntKind} {a b:Int} (h:b≠0):bM .rem .int (.int k a) (.int k b)=some (.int k (a.tmod b)):=by simp only [bM];rw [show mO .rem .int (.int k a) (.int k b)=some (.int k (a.tmod b)) from by simp [mO,vz,h]]
theorem PC {k:IntKind} {a b:Int}:bM .eql .int (.int k a) (.int k b)=some (.bool (decide (a=b))):=by simp only [bM];rw [show mO .eql .int (.int k a) (.int k b)=some (.bool (decide (a=b))) from by simp only [mO,vz,or_true,if_true];rfl]
theorem PD {k:IntKind} {a b:Int}:bM .neq .int (.int k a) (.int k b)=some (.bool (decide (a≠b))):=by simp only [bM];rw [show mO .neq .int (.int k a) (.int k b)=some (.bool (decide (a≠b))) from by simp [mO,vz,bne,Int.instDecidableEq];rfl]
theorem PE {k:IntKind} {a b:Int}:bM .lss .int (.int k a) (.int k b)=some (.bool (decide (a<b))):=by simp only [bM];rw [show mO .lss .int (.int k a) (.int k b)=some (.bool (decide (a<b))) from by simp [mO,vz]]
theorem PF {k:IntKind} {a b:Int}:bM .leq .int (.int k a) (.int k b)=some (.bool (decide (a<=b))):=by simp only [bM];rw [show mO .leq .int (.int k a) (.int k b)=some (.bool (decide (a<=b))) from by simp [mO,vz]]
theorem PG {k:IntKind} {a b:Int}:bM .gtr .int (.int k a) (.int k b)=some (.bool (decide (b<a))):=by simp only [bM];rw [show mO .gtr .int (.int k a) (.int k b)=some (.bool (decide (b<a))) from by simp [mO,vz]]
theorem PH {k:IntKind} {a b:Int}:bM .geq .int (.int k a) (.int k b)=some (.bool (decide (b<=a))):=by simp only [bM];rw [show mO .geq .int (.int k a) (.int k b)=some (.bool (decide (b<=a))) from by simp [mO,vz]]
theorem PI {k k':IntKind} {a b:Int} (h:0<=b):bM .shl .int (.int k a) (.int k' b)=some (.int k (k.wrap (a*2 ^ (min b.toNat k.bits)))):=by simp only [bM];rw [show mO .shl .int (.int k a) (.int k' b)=some (.int k (k.wrap (a*2 ^ (min b.toNat k.bits)))) from by simp [mO,vz,Int.not_lt.2 h]]
theorem sE {k k':IntKind} {a b:Int} (h:0<=b):bM .shr .int (.int k a) (.int k' b)=some (.int k (a.fdiv (2 ^ (min b.toNat k.bits)))):=by simp only [bM];rw [show mO .shr .int (.int k a) (.int k' b)=some (.int k (a.fdiv (2 ^ (min b.toNat k.bits)))) from by simp [mO,vz,Int.not_lt.2 h]]
theorem Ei {a b:List UInt8}:bM .eql .str (.str a) (.str b)=some (.bool (a==b)):=(rfl)
theorem Ej {a b:List UInt8}:bM .neq .str (.str a) (.str b)=some (.bool !(a==b)):=(rfl)
theorem BN {a b:Bool}:bM .eql .bool (.bool a) (.bool b)=some (.bool (a==b)):=(rfl)
theorem BO {a b:Bool}:bM .neq .bool (.bool a) (.bool b)=some (.bool !(a==b)):=(rfl)
theorem Ly {k:Nat}:bM .eql .slice (.sl k []) .nils=some .anyb:=(rfl)
theorem Lz {k:Nat} {e:AV} {es:List AV}:bM .eql .slice (.sl k (e::es)) .nils=some (.bool false):=(rfl)
theorem LA {id:Id} {k o l:Nat} {t:Bool}:bM .eql .slice (.osl id k o l t) .nils=some (.bool false):=(rfl)
theorem LB:bM .eql .slice .nils .nils=some (.bool true):=(rfl)
theorem LC {id:Id} {e o:Nat}:bM .eql .ptr (.ref id e o) .nilp=some (.bool false):=(rfl)
theorem TU {a:Bool}:vun .not (.bool a)=some (.bool !a):=(rfl)
theorem TV {k:IntKind} {a:Int}:vun .neg (.int k a)=some (.int k (k.wrap (0-a))):=(rfl)
theorem LD:sX false .nils=some (.int .i64 0):=(rfl)
theorem TW {k:Nat} {es:List AV}:sX false (.sl k es)=some (.int .i64 es.length):=(rfl)
theorem PJ {k:Nat} {es:List AV}:sX false (.tsl k es)=some (.int .i64 es.length):=(rfl)
theorem PK {id:Id} {k o l:Nat} {b:Bool}:sX false (.osl id k o l b)=some (.int .i64 l):=(rfl)
theorem PL {s:List UInt8}:sX true (.str s)=some (.int .i64 s.length):=(rfl)
end
end Go.VL
end

section
namespace Go.VL
abbrev oM (d x:Nat):bq:=⟨some d, .mv (.t x),none⟩
abbrev oI (d:Nat) (z:Int):bq:=⟨some d, .mv (.c (.int .i64 z)),none⟩
abbrev oB (d:Nat) (b:Bool):bq:=⟨some d, .mv (.c (.bool b)),none⟩
abbrev oZ (d:Nat):bq:=⟨some d, .mv (.c .nils),none⟩
abbrev oL (d n x:Nat):bq:=⟨some d, .load false n (.t x),none⟩
abbrev aQ (d n x:Nat):bq:=⟨some d, .load true n (.t x),none⟩
abbrev oF (d o x:Nat):bq:=⟨some d, .faddr o (.t x),none⟩
abbrev oA (d n x y:Nat):bq:=⟨some d, .iaddrS n (.t x) (.t y),none⟩
abbrev oN (d x:Nat):bq:=⟨some d, .len false (.t x),none⟩
abbrev oS (n x y:Nat):bq:=⟨none, .store n (.t x) (.t y),none⟩
abbrev oX (d x:Nat):bq:=⟨some d, .box (.t x),none⟩
abbrev oE (d x j:Nat):bq:=⟨some d, .extract (.t x) j,none⟩
abbrev uo (d x:Nat):bq:=⟨some d, .un .not (.t x),none⟩
abbrev Dk (d x:Nat):bq:=⟨some d, .nilck (.t x),none⟩
abbrev n5 (d x y:Nat):bq:=⟨some d, .pick (.t x) (.t y) (.c (.bool false)),none⟩
abbrev xM (d x y:Nat):bq:=⟨some d, .pick (.t x) (.c (.bool true)) (.t y),none⟩
abbrev oC (d f x:Nat):bq:=⟨some d, .call (.f f) [.t x],none⟩
abbrev bo (d f x y:Nat):bq:=⟨some d, .call (.f f) [.t x, .t y],none⟩
abbrev oK (d:Nat) (k:IntKind) (x:Nat):bq:=⟨some d, .toInt k (.t x),none⟩
abbrev zF (d k b x y:Nat):bq:=⟨some d, .append k b (.t x) (.t y),none⟩
abbrev oT (d:Nat) (o:BinOp) (x y:Nat):bq:=⟨some d, .bin o .int (.t x) (.t y),none⟩
abbrev bp (d:Nat) (o:BinOp) (x:Nat) (z:Int):bq:=⟨some d, .bin o .int (.t x) (.c (.int .i64 z)),none⟩
abbrev gM (d x g:Nat) (b:Bool):bq:=⟨some d, .mv (.t x),some (g,b)⟩
abbrev gL (d n x g:Nat) (b:Bool):bq:=⟨some d, .load false n (.t x),some (g,b)⟩
abbrev vI (d n x g:Nat) (b:Bool):bq:=⟨some d, .load true n (.t x),some (g,b)⟩
abbrev gF (d o x g:Nat) (b:Bool):bq:=⟨some d, .faddr o (.t x),some (g,b)⟩
abbrev gN (d x g:Nat) (b:Bool):bq:=⟨some d, .len false (.t x),some (g,b)⟩
abbrev gT (d:Nat) (o:BinOp) (x y g:Nat) (b:Bool):bq:=⟨some d, .bin o .int (.t x) (.t y),some (g,b)⟩
abbrev cS (l:List bq) (c:cg):cg := .seq (.reg none l) c
abbrev cR (l:List bq):cg := .reg none l
end Go.VL
end

section
namespace Go.VL
theorem SS:(((((((type_of% @K2)/\(type_of% @O3))/\((type_of% @F0)/\((type_of% @K3)/\(type_of% @FZ))))/\(((type_of% @Ef)/\(type_of% @Ix))/\((type_of% @Iy)/\((type_of% @K4)/\(type_of% @O4)))))/\((((type_of% @yo)/\(type_of% @Iv))/\((type_of% @KX)/\((type_of% @Ec)/\(type_of% @Df))))/\(((type_of% @KY)/\(type_of% @BF))/\((type_of% @F2)/\((type_of% @IA)/\(type_of% @Tu))))))/\(((((type_of% @adA)/\(type_of% @TB))/\((type_of% @Zl)/\((type_of% @O7)/\(type_of% @IH))))/\(((type_of% @TD)/\(type_of% @O9))/\((type_of% @Pb)/\((type_of% @Zn)/\(type_of% @adC)))))/\((((type_of% @Pd)/\(type_of% @Pf))/\((type_of% @F4)/\((type_of% @Zp)/\(type_of% @Zr))))/\(((type_of% @TF)/\(type_of% @TH))/\((type_of% @Ph)/\((type_of% @Ld)/\(type_of% @Pk)))))))/\((((((type_of% @Pm)/\(type_of% @Lf))/\((type_of% @Lh)/\((type_of% @Lj)/\(type_of% @Ll))))/\(((type_of% @IJ)/\(type_of% @Zt))/\((type_of% @TJ)/\((type_of% @Ln)/\(type_of% @Zv)))))/\((((type_of% @Zx)/\(type_of% @Zz))/\((type_of% @Po)/\((type_of% @TL)/\(type_of% @TN))))/\(((type_of% @s_call)/\(type_of% @sg))/\((type_of% @K5)/\((type_of% @K6)/\(type_of% @IB))))))/\(((((type_of% @K9)/\(type_of% @ID))/\((type_of% @O5)/\((type_of% @TA)/\(type_of% @IF))))/\(((type_of% @IG)/\(type_of% @adx))/\((type_of% @ady)/\((type_of% @adz)/\(type_of% @O6)))))/\((((type_of% @Lc)/\(type_of% @TR))/\((type_of% @Lq)/\((type_of% @Pq)/\(type_of% @IL))))/\(((type_of% @Lr)/\((type_of% @IM)/\(type_of% @Ps)))/\((type_of% @TT)/\((type_of% @IP)/\(type_of% @IQ))))))))/\(((((((type_of% @BG)/\(type_of% @Px))/\((type_of% @Py)/\((type_of% @Ls)/\(type_of% @Lt))))/\(((type_of% @IU)/\(type_of% @F6))/\((type_of% @Aj)/\((type_of% @BI)/\(type_of% @IW)))))/\((((type_of% @F7)/\(type_of% @F8))/\((type_of% @AB)/\((type_of% @F9)/\(type_of% @Eh))))/\(((type_of% @Pt)/\(type_of% @Lu))/\((type_of% @Ga)/\((type_of% @Pu)/\(type_of% @Pv))))))/\(((((type_of% @Pw)/\(type_of% @IX))/\((type_of% @Lw)/\((type_of% @Lx)/\(type_of% @Ak))))/\(((type_of% @BJ)/\(type_of% @BM))/\((type_of% @JH)/\((type_of% @Pz)/\(type_of% @PA)))))/\((((type_of% @PC)/\(type_of% @PD))/\((type_of% @PE)/\((type_of% @PF)/\(type_of% @PG))))/\(((type_of% @PH)/\((type_of% @Ei)/\(type_of% @Ej)))/\((type_of% @BN)/\((type_of% @BO)/\(type_of% @Ly)))))))/\((((((type_of% @Lz)/\(type_of% @LA))/\((type_of% @LB)/\((type_of% @LC)/\(type_of% @BH))))/\(((type_of% @Gb)/\(type_of% @Lv))/\((type_of% @TU)/\((type_of% @TV)/\(type_of% @LD)))))/\((((type_of% @TW)/\(type_of% @PJ))/\((type_of% @PK)/\((type_of% @PL)/\(type_of% @List.getD_cons_zero.{0}))))/\(((type_of% @List.getD_cons_succ.{0})/\(type_of% @List.set_cons_zero.{0}))/\((type_of% @List.set_cons_succ.{0})/\((type_of% @List.map_cons.{0,0})/\(type_of% @List.map_nil.{0,0}))))))/\(((((type_of% @Option.map_some.{0,0})/\(type_of% @Option.map_none.{0,0}))/\((type_of% @List.length_cons.{0})/\((type_of% @List.length_nil.{0})/\(type_of% @beq_self_eq_true.{0}))))/\(((type_of% @if_true.{1})/\(type_of% @if_false.{1}))/\((type_of% @FX)/\((type_of% @List.append_nil.{0})/\(type_of% @List.nil_append.{0})))))/\((((type_of% @List.cons_append.{0})/\(type_of% @Bool.true_beq))/\((type_of% @Bool.false_beq)/\((type_of% @beq_true)/\(type_of% @beq_false))))/\(((type_of% @Bool.not_true)/\((type_of% @Bool.not_false)/\(type_of% @Nat.zero_add)))/\((type_of% @Bool.false_eq_true)/\((type_of% @List.replicate_succ.{0})/\(type_of% @List.replicate_zero.{0})))))))) :=
 ⟨⟨⟨⟨⟨⟨⟨@K2, @O3⟩,⟨@F0,⟨@K3, @FZ⟩⟩⟩,⟨⟨@Ef, @Ix⟩,⟨@Iy,⟨@K4, @O4⟩⟩⟩⟩,⟨⟨⟨@yo, @Iv⟩,⟨@KX,⟨@Ec, @Df⟩⟩⟩,⟨⟨@KY, @BF⟩,⟨@F2,⟨@IA, @Tu⟩⟩⟩⟩⟩,⟨⟨⟨⟨@adA, @TB⟩,⟨@Zl,⟨@O7, @IH⟩⟩⟩,⟨⟨@TD, @O9⟩,⟨@Pb,⟨@Zn, @adC⟩⟩⟩⟩,⟨⟨⟨@Pd, @Pf⟩,⟨@F4,⟨@Zp, @Zr⟩⟩⟩,⟨⟨@TF, @TH⟩,⟨@Ph,⟨@Ld, @Pk⟩⟩⟩⟩⟩⟩,⟨⟨⟨⟨⟨@Pm, @Lf⟩,⟨@Lh,⟨@Lj, @Ll⟩⟩⟩,⟨⟨@IJ, @Zt⟩,⟨@TJ,⟨@Ln, @Zv⟩⟩⟩⟩,⟨⟨⟨@Zx, @Zz⟩,⟨@Po,⟨@TL, @TN⟩⟩⟩,⟨⟨@s_call, @sg⟩,⟨@K5,⟨@K6, @IB⟩⟩⟩⟩⟩,⟨⟨⟨⟨@K9, @ID⟩,⟨@O5,⟨@TA, @IF⟩⟩⟩,⟨⟨@IG, @adx⟩,⟨@ady,⟨@adz, @O6⟩⟩⟩⟩,⟨⟨⟨@Lc, @TR⟩,⟨@Lq,⟨@Pq, @IL⟩⟩⟩,⟨⟨@Lr,⟨@IM, @Ps⟩⟩,⟨@TT,⟨@IP, @IQ⟩⟩⟩⟩⟩⟩⟩,⟨⟨⟨⟨⟨⟨@BG, @Px⟩,⟨@Py,⟨@Ls, @Lt⟩⟩⟩,⟨⟨@IU, @F6⟩,⟨@Aj,⟨@BI, @IW⟩⟩⟩⟩,⟨⟨⟨@F7, @F8⟩,⟨@AB,⟨@F9, @Eh⟩⟩⟩,⟨⟨@Pt, @Lu⟩,⟨@Ga,⟨@Pu, @Pv⟩⟩⟩⟩⟩,⟨⟨⟨⟨@Pw, @IX⟩,⟨@Lw,⟨@Lx, @Ak⟩⟩⟩,⟨⟨@BJ, @BM⟩,⟨@JH,⟨@Pz, @PA⟩⟩⟩⟩,⟨⟨⟨@PC, @PD⟩,⟨@PE,⟨@PF, @PG⟩⟩⟩,⟨⟨@PH,⟨@Ei, @Ej⟩⟩,⟨@BN,⟨@BO, @Ly⟩⟩⟩⟩⟩⟩,⟨⟨⟨⟨⟨@Lz, @LA⟩,⟨@LB,⟨@LC, @BH⟩⟩⟩,⟨⟨@Gb, @Lv⟩,⟨@TU,⟨@TV, @LD⟩⟩⟩⟩,⟨⟨⟨@TW, @PJ⟩,⟨@PK,⟨@PL, @List.getD_cons_zero.{0}⟩⟩⟩,⟨⟨@List.getD_cons_succ.{0}, @List.set_cons_zero.{0}⟩,⟨@List.set_cons_succ.{0},⟨@List.map_cons.{0,0}, @List.map_nil.{0,0}⟩⟩⟩⟩⟩,⟨⟨⟨⟨@Option.map_some.{0,0}, @Option.map_none.{0,0}⟩,⟨@List.length_cons.{0},⟨@List.length_nil.{0}, @beq_self_eq_true.{0}⟩⟩⟩,⟨⟨@if_true.{1}, @if_false.{1}⟩,⟨@FX,⟨@List.append_nil.{0}, @List.nil_append.{0}⟩⟩⟩⟩,⟨⟨⟨@List.cons_append.{0}, @Bool.true_beq⟩,⟨@Bool.false_beq,⟨@beq_true, @beq_false⟩⟩⟩,⟨⟨@Bool.not_true,⟨@Bool.not_false, @Nat.zero_add⟩⟩,⟨@Bool.false_eq_true,⟨@List.replicate_succ.{0}, @List.replicate_zero.{0}⟩⟩⟩⟩⟩⟩⟩⟩
theorem DD:(((((type_of% @F1)/\(type_of% @Tv))/\((type_of% @adB)/\((type_of% @TC)/\(type_of% @Zm))))/\(((type_of% @O8)/\((type_of% @II)/\(type_of% @TE)))/\((type_of% @Pa)/\((type_of% @Pc)/\(type_of% @Zo)))))/\((((type_of% @adD)/\(type_of% @Pe))/\((type_of% @Pg)/\((type_of% @F5)/\(type_of% @Zq))))/\(((type_of% @Zs)/\((type_of% @TG)/\(type_of% @TI)))/\((type_of% @Pj)/\((type_of% @Le)/\(type_of% @Pl))))))/\(((((type_of% @Pn)/\(type_of% @Lg))/\((type_of% @Li)/\((type_of% @Lk)/\(type_of% @Lm))))/\(((type_of% @IK)/\((type_of% @Zu)/\(type_of% @TK)))/\((type_of% @Lp)/\((type_of% @Zw)/\(type_of% @Zy)))))/\((((type_of% @ZA)/\((type_of% @Pp)/\(type_of% @TM)))/\((type_of% @TP)/\((type_of% @TQ)/\(type_of% @dg))))/\(((type_of% @K7)/\((type_of% @K8)/\(type_of% @IC)))/\((type_of% @La)/\((type_of% @IE)/\(type_of% @FY)))))) :=
 ⟨⟨⟨⟨⟨@F1, @Tv⟩,⟨@adB,⟨@TC, @Zm⟩⟩⟩,⟨⟨@O8,⟨@II, @TE⟩⟩,⟨@Pa,⟨@Pc, @Zo⟩⟩⟩⟩,⟨⟨⟨@adD, @Pe⟩,⟨@Pg,⟨@F5, @Zq⟩⟩⟩,⟨⟨@Zs,⟨@TG, @TI⟩⟩,⟨@Pj,⟨@Le, @Pl⟩⟩⟩⟩⟩,⟨⟨⟨⟨@Pn, @Lg⟩,⟨@Li,⟨@Lk, @Lm⟩⟩⟩,⟨⟨@IK,⟨@Zu, @TK⟩⟩,⟨@Lp,⟨@Zw, @Zy⟩⟩⟩⟩,⟨⟨⟨@ZA,⟨@Pp, @TM⟩⟩,⟨@TP,⟨@TQ, @dg⟩⟩⟩,⟨⟨@K7,⟨@K8, @IC⟩⟩,⟨@La,⟨@IE, @FY⟩⟩⟩⟩⟩⟩
theorem RS:(((type_of% @ak)/\(type_of% @Eg))/\((type_of% @List.mapM_cons.{0,0,0})/\((type_of% @List.mapM_nil.{0,0,0})/\(type_of% @List.getD_cons_zero.{0}))))/\(((type_of% @List.getD_cons_succ.{0})/\(type_of% @Option.pure_def.{0}))/\((type_of% @Option.bind_eq_bind.{0})/\((type_of% @Option.bind_some.{0,0})/\(type_of% @Option.map_some.{0,0})))) :=
 ⟨⟨⟨@ak, @Eg⟩,⟨@List.mapM_cons.{0,0,0},⟨@List.mapM_nil.{0,0,0}, @List.getD_cons_zero.{0}⟩⟩⟩,⟨⟨@List.getD_cons_succ.{0}, @Option.pure_def.{0}⟩,⟨@Option.bind_eq_bind.{0},⟨@Option.bind_some.{0,0}, @Option.map_some.{0,0}⟩⟩⟩⟩
end Go.VL
end

section
namespace Go.VL
def Has (P:Program) (f:FuncId) (vf:aB):Prop:=∃ fn,P.funcs[f]? = some fn/\Ia P fn=some vf
section
variable {P:Program} {G:Nat->Option (List AV)}
theorem VP.has {f:FuncId} {vf:aB} (h:Has P f vf) {args:List AV} {r:AV} (k:xL P G [] vf.body (Q6 vf.results r) ⟨args++List.replicate (vf.nt-args.length) (.tup []),fun _=>none,0⟩):VP P G f args r:=by
 obtain ⟨fn,h1,h2⟩:=h
 exact VP.of h1 h2 k
theorem aW.has {f:FuncId} {vf:aB} (h:Has P f vf) {args:List AV} {p:Id} {S:List (Id × da)} {r:eP}
   (k:xL P G p vf.body (Q7 G p S vf.results r) ⟨args++List.replicate (vf.nt-args.length) (.tup []),af.of S,0⟩):aW P G f args p S r:=by
 obtain ⟨fn,h1,h2⟩:=h
 exact aW.Zj h1 h2 (VW.of k)
theorem bB {π : Id} {base:Nat} {Q:bX->VS->Prop} {n:Nat} {d:Option Nat} {os:List bq} {i:Nat} {t:List AV} {σ : af} {f:FuncId} {args lG:List AV} {r:AV} (S:List (Id × da))
   (h:VP P G f lG r) (hv:aF (af.of S) args lG) (hS:∀ x∈S, σ x.1=some x.2) (k:vs P G π base Q n os (i+1) (fU t d r) (σ.app (Di S))):yp P G π base Q n d os i t σ f args :=
 ⟨S,_,aW.JG h hv,hS,fun x hx=>List.mem_map.2 ⟨x,hx,rfl⟩,k⟩
theorem Ek {π : Id} {base:Nat} {Q:bX->VS->Prop} {n:Nat} {d:Option Nat} {os:List bq} {i:Nat} {t:List AV} {σ : af} {f:FuncId} {args lG:List AV} {r:AV} (S:List (Id × da))
   (h:VP P G f lG r) (hv:aF (af.of S) args lG) (hf:jx r) (hS:∀ x∈S, σ x.1=some x.2) (k:vs P G π base Q n os (i+1) (fU t d r) σ):yp P G π base Q n d os i t σ f args :=
 ⟨S,_,aW.of_flat h hv hf,hS,fun x hx=>List.mem_map.2 ⟨x,hx,rfl⟩,k⟩
theorem ae {rs:List ug} {r:AV} {s:VS} (h:aY rs s=some r) (hp:aa r):∃ r0,aY rs s=some r0/\View s.σ r0 r:=⟨r,h,View.pure hp⟩
end
theorem aZ {σ : af} {id:Id} {b:Option da} : σ.put id b id=b:=af.dA σ id b
theorem di {σ : af} {id i:Id} {b:Option da} (h:i≠id) : σ.put id b i = σ i:=af.cB σ id b h
theorem qR {σ : af} {agg:Bool} {n e o:Nat} {id:Id} {bk:da} {el:AV} (h : σ id=some bk) (he:bk.els[e]? = some el):jl σ agg n (.ref id e o)=(part agg el.cells o n).map fun v=>{ val:=v,rd:=[id] }:=by
 simp [jl,h,he]
theorem aH {σ : af} {agg:Bool} {n o:Nat} {cs:List AV}:jl σ agg n (.ep cs o)=(part agg cs o n).map fun v=>{ val:=v }:=rfl
end Go.VL
end

section
set_option maxRecDepth 100000
namespace Go.VL
def mF:aB:=⟨17,[(.tmp 2)],(cS [oB 2 false] (cS [oM 3 0,⟨some 4,.bin .geq .int (.t 3) (.c (.int .u8 97)),none⟩,oM 5 4,gM 6 0 5 true,⟨some 7,.bin .leq .int (.t 6) (.c (.int .u8 122)),some (5,true)⟩,n5 8 5 7,oM 9 8,gM 10 0 9 false,⟨some 11,.bin .geq .int (.t 10) (.c (.int .u8 65)),some (9,false)⟩,gM 12 11 9 false,gM 13 0 12 true,⟨some 14,.bin .leq .int (.t 13) (.c (.int .u8 90)),some (12,true)⟩,⟨some 15,.pick (.t 12) (.t 14) (.c (.bool false)),some (9,false)⟩,xM 16 9 15,oM 2 16] .ret))⟩
def ng:aB:=⟨9,[(.tmp 2)],(cS [oB 2 false] (cS [oM 3 0,⟨some 4,.bin .geq .int (.t 3) (.c (.int .u8 48)),none⟩,oM 5 4,gM 6 0 5 true,⟨some 7,.bin .leq .int (.t 6) (.c (.int .u8 57)),some (5,true)⟩,n5 8 5 7,oM 2 8] .ret))⟩
def qW (pc EG:Nat):aB:=⟨13,[(.tmp 2)],(cS [oB 2 false] (cS [oM 3 0,oC 4 pc 3,oM 5 4,gM 6 0 5 false,⟨some 7,.call (.f EG) [.t 6],some (5,false)⟩,xM 8 5 7,oM 9 8,gM 10 0 9 false,⟨some 11,.bin .eql .int (.t 10) (.c (.int .u8 95)),some (9,false)⟩,xM 12 9 11,oM 2 12] .ret))⟩
def vJ:aB:=⟨20,[(.tmp 4)],(cS [oI 4 0] (cS [oI 5 0] (.seq (.block 0 (.loop (.seq (cS [oM 6 5,oM 7 0,⟨some 8,.len true (.t 7),none⟩,oT 9 .lss 6 8,oM 10 9,gM 11 1 10 true,gM 12 0 10 true,gM 13 5 10 true,⟨some 14,.indexS (.t 12) (.t 13),some (10,true)⟩,⟨some 15,.call (.t 11) [.t 14],some (10,true)⟩,n5 16 10 15] (.cond (.t 16) .skip (.exit 0))) (.block 1 (cR [oM 17 5,bp 18 .add 17 1,oM 5 18]))))) (cS [oM 19 5,oM 4 19] .ret))))⟩
def lH (pc JJ Gc:Nat):aB:=⟨22,[(.tmp 2)],(cS [oB 2 false] (cS [oM 3 0,⟨some 4,.bin .neq .str (.t 3) (.c (.str [])),none⟩,oM 5 4,gM 6 0 5 true,⟨some 7,.len true (.t 6),some (5,true)⟩,⟨some 8,.bin .leq .int (.t 7) (.c (.int .i64 24)),some (5,true)⟩,n5 9 5 8,oM 10 9,gM 11 0 10 true,⟨some 12,.indexS (.t 11) (.c (.int .i64 0)),some (10,true)⟩,⟨some 13,.call (.f pc) [.t 12],some (10,true)⟩,n5 14 10 13,oM 15 14,gM 16 0 15 true,⟨some 17,.call (.f JJ) [(.t 16),(.f Gc)],some (15,true)⟩,gM 18 0 15 true,⟨some 19,.len true (.t 18),some (15,true)⟩,gT 20 .eql 17 19 15 true,n5 21 15 20,oM 2 21] .ret))⟩
end Go.VL
end

section
set_option maxRecDepth 100000
namespace Go.VL
def eI (xN:Nat):aB:=⟨17,[(.tmp 2)],(cS [oB 2 false] (cS [oM 3 0,⟨some 4,.bin .neq .str (.t 3) (.c (.str [])),none⟩,oM 5 4,gM 6 0 5 true,⟨some 7,.len true (.t 6),some (5,true)⟩,⟨some 8,.bin .leq .int (.t 7) (.c (.int .i64 24)),some (5,true)⟩,n5 9 5 8,oM 10 9,gM 11 0 10 true,⟨some 12,.call (.f xN) [(.t 11),(.c (.int .i64 0))],some (10,true)⟩,gM 13 0 10 true,⟨some 14,.len true (.t 13),some (10,true)⟩,gT 15 .eql 12 14 10 true,n5 16 10 15,oM 2 16] .ret))⟩
def fH (nL vK:Nat):aB:=⟨42,[(.tmp 4)],(cS [oI 4 0] (.seq (cS [oM 5 1,oM 6 0,⟨some 7,.len true (.t 6),none⟩,oT 8 .eql 5 7,oM 9 8,gM 10 0 9 false,gM 11 1 9 false,⟨some 12,.indexS (.t 10) (.t 11),some (9,false)⟩,⟨some 13,.call (.f nL) [.t 12],some (9,false)⟩,⟨some 14,.un .not (.t 13),some (9,false)⟩,xM 15 9 14] (.cond (.t 15) (cS [oM 16 1,oM 4 16] .ret) .skip)) (.seq (.block 0 (.loop (.seq (cS [oM 17 1,oM 18 0,⟨some 19,.len true (.t 18),none⟩,oT 20 .lss 17 19,oM 21 20,gM 22 0 21 true,gM 23 1 21 true,⟨some 24,.indexS (.t 22) (.t 23),some (21,true)⟩,⟨some 25,.call (.f nL) [.t 24],some (21,true)⟩,gM 26 25 21 true,gM 27 0 26 false,gM 28 1 26 false,⟨some 29,.indexS (.t 27) (.t 28),some (26,false)⟩,⟨some 30,.call (.f vK) [.t 29],some (26,false)⟩,⟨some 31,.pick (.t 26) (.c (.bool true)) (.t 30),some (21,true)⟩,gM 32 31 21 true,gM 33 0 32 false,gM 34 1 32 false,⟨some 35,.indexS (.t 33) (.t 34),some (32,false)⟩,⟨some 36,.bin .eql .int (.t 35) (.c (.int .u8 95)),some (32,false)⟩,⟨some 37,.pick (.t 32) (.c (.bool true)) (.t 36),some (21,true)⟩,n5 38 21 37] (.cond (.t 38) .skip (.exit 0))) (.block 1 (cR [oM 39 1,bp 40 .add 39 1,oM 1 40]))))) (cS [oM 41 1,oM 4 41] .ret))))⟩
def uq:aB:=⟨17,[(.tmp 2)],(cS [oB 2 false] (cS [oM 3 0,⟨some 4,.bin .geq .int (.t 3) (.c (.int .u8 97)),none⟩,oM 5 4,gM 6 0 5 true,⟨some 7,.bin .leq .int (.t 6) (.c (.int .u8 122)),some (5,true)⟩,n5 8 5 7,oM 9 8,gM 10 0 9 false,⟨some 11,.bin .geq .int (.t 10) (.c (.int .u8 65)),some (9,false)⟩,gM 12 11 9 false,gM 13 0 12 true,⟨some 14,.bin .leq .int (.t 13) (.c (.int .u8 90)),some (12,true)⟩,⟨some 15,.pick (.t 12) (.t 14) (.c (.bool false)),some (9,false)⟩,xM 16 9 15,oM 2 16] .ret))⟩
def vL:aB:=⟨9,[(.tmp 2)],(cS [oB 2 false] (cS [oM 3 0,⟨some 4,.bin .geq .int (.t 3) (.c (.int .u8 48)),none⟩,oM 5 4,gM 6 0 5 true,⟨some 7,.bin .leq .int (.t 6) (.c (.int .u8 57)),some (5,true)⟩,n5 8 5 7,oM 2 8] .ret))⟩
end Go.VL
end
