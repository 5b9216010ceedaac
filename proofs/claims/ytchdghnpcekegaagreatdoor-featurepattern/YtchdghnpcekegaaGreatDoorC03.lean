/- For the claim of FeaturePattern: parts VL15, VL16, VL17, VL18, VL19, VL20, VL22, VL24, VL25, VL26, VLA, VLS, VL27, GA, GB, GF. -/
import Derived.Test.YtchdghnpcekegaaGreatDoorC02
import Derived.LoopN
set_option linter.unusedSimpArgs false
set_option linter.unusedVariables false
section
namespace Go.VL
theorem Da {X Y:Nat->Bool}:∀ (L:List Done) (i:Nat) (t:List AV),(∀ k,k<L.length->X (i+k)=Y (i+k))->e8 X L i t=e8 Y L i t
 | [],_,_,_=>rfl
 | (d,r)::L,i,t,h=>by
   simp only [e8]
   have h0:=h 0 (by simp)
   rw [Nat.add_zero] at h0
   rw [h0]
   exact Da L (i+1) _ (fun k hk=>by rw [show i+1+k=i+(k+1) from by omega];exact h (k+1) (by simpa using hk))
theorem Db {X Y:Nat->Bool}:∀ (L:List Done) (i:Nat) (σ : ah),(∀ k,k<L.length->X (i+k)=Y (i+k))->gO X L i σ = gO Y L i σ
 | [],_,_,_=>rfl
 | (d,r)::L,i,t,h=>by
   simp only [gO]
   have h0:=h 0 (by simp)
   rw [Nat.add_zero] at h0
   rw [h0]
   exact Db L (i+1) _ (fun k hk=>by rw [show i+1+k=i+(k+1) from by omega];exact h (k+1) (by simpa using hk))
theorem Im {X Y:Nat->Bool} {i:Nat} (hX:X i=false) (hY:Y i=true) (hXY:∀ k,X k=true->Y k=true):∀ (l:List Nat),i∈l->l.countP X<l.countP Y
 | [],h=>by simp at h
 | a :: l,h=>by
   have hle:l.countP X<=l.countP Y:=List.countP_mono_left fun x _ hx=>hXY x hx
   simp only [List.countP_cons]
   rcases List.mem_cons.1 h with rfl | h
   . simp [hX,hY];omega
   . have:=Im hX hY hXY l h
     by_cases ha:X a=true
     . simp [ha,hXY a ha];omega
     . simp [ha];split<;>omega
theorem FO {X:Nat->Bool}:∀ (l:List Nat),l.length<=l.countP X->∀ i∈l,X i=true
 | [],_,i,h=>by simp at h
 | a :: l,hc,i,h=>by
   have hle:=List.countP_le_length (p:=X) (l:=l)
   simp only [List.countP_cons,List.length_cons] at hc
   by_cases ha:X a=true
   . simp only [ha,if_true] at hc
     rcases List.mem_cons.1 h with rfl | h
     . exact ha
     . exact FO l (by omega) i h
   . simp [ha] at hc;omega
section
variable {P:Program} {G:Nat->Option (List AV)} {own:Nat->Prop}
theorem BH {n i j:Nat} (QP:i<j) (hj:j<n):(i,j)∈Bu n:=by
 unfold Bu
 rw [List.mem_flatMap]
 exact ⟨j,List.mem_range.2 hj,List.mem_map.2 ⟨i,List.mem_range.2 QP,rfl⟩⟩
structure Mid (G:Nat->Option (List AV)) (π : Id) (own:Nat->Prop) (L:List Done) (base n:Nat) (t0:List AV) (σ0:ah) (a0:Act) (E0:Env) (w0:World) (X:Nat->Bool) (E:Env) (w:World) (a:Act):Prop where
 frame:cn E w (e8 X L 0 t0) a
 inv:Inv G own E w (gO X L 0 σ0)
 Hm:mL own π E0 E w0 w
 free:∀ i,i<n->X i=false->∀ j,((base+i) :: π) <:+ j->E.μ j=none
 more:zX E π (base+n)
 defers:a.defers=a0.defers
theorem QQ {ops:Array Oper} {vs:List bA} (M4:ops.toList.mapM (Ah P ops)=some vs) (Td:E9 vs (ops.toList.map Ai)=true)
   {π : Id} {base:Nat} {t0:List AV} {σ0:ah} {rs:List eT} (hrl:rs.length=vs.length)
   (hst:∀ k o r,vs[k]? = some o->rs[k]? = some r->BG P G π base o (0+k) (e8 (fun m=>m<0+k) ((vs.map (·.dst)).zip rs) 0 t0) (gO (fun m=>m<0+k) ((vs.map (·.dst)).zip rs) 0 σ0) r)
   (hap:ab rs (zF vs (ops.toList.map Ai))) {a0:Act} {E0:Env} {w0:World} {Q:Exit->Act->World->Prop}
   (hQ:∀ a E w,Mid G π own ((vs.map (·.dst)).zip rs) base ops.size t0 σ0 a0 E0 w0 (fun _=>true) E w a->Q .normal a w) :
   ∀ (fuel:Nat) (listed:Array Bool) (a:Act) (E:Env) (w:World),listed.size=ops.size->ops.size<=(List.range ops.size).countP (fun i=>listed.getD i false)+fuel ->
     (∀ k,k<ops.size->listed.getD k false=true->∀ e∈(ops.toList.map Ai).getD k [],listed.getD e false=true) ->
     Mid G π own ((vs.map (·.dst)).zip rs) base ops.size t0 σ0 a0 E0 w0 (fun i=>listed.getD i false) E w a->wpAny P .any ops Q fuel listed a w:=by
 have xO:vs.length=ops.size:=by have:=hH M4;simpa using this
 generalize hL:(vs.map (·.dst)).zip rs=L at *
 have hLl:L.length=ops.size:=by rw [<- hL];simp [hrl,xO]
 have OS:∀ (k:Nat) (d:Option Nat) (r:eT),L[k]? = some (d,r)↔∃ o:bA,vs[k]? = some o/\o.dst=d/\rs[k]? = some r:=by
   intro k d r
   rw [<- hL,List.getElem?_zip_eq_some]
   simp only [List.getElem?_map,Option.map_eq_some_iff]
   constructor
   . rintro ⟨⟨o,h1,h2⟩,h3⟩;exact ⟨o,h1,h2,h3⟩
   . rintro ⟨o,h1,h2,h3⟩;exact ⟨⟨o,h1,h2⟩,h3⟩
 generalize acS:ops.toList.map Ai=qz at *
 have akO:qz.length=ops.size:=by rw [<- acS];simp
 unfold E9 at Td
 simp only [Bool.and_eq_true,List.all_eq_true] at Td
 obtain ⟨⟨_,hlt⟩,aah⟩:=Td
 have Te:∀ j,j<ops.size->∀ e∈qz.getD j [],e<j:=by
   intro j hj e he
   have:=hlt j (List.mem_range.2 (by rw [xO];exact hj)) e he
   simpa using this
 have Hq:∀ (i j:Nat) (a b:bA),i<j->vs[i]? = some a->vs[j]? = some b->D2 a b=true->((jT qz []).getD j 0).testBit i=true:=by
   intro i j a b QP ha hb hc
   have hj:j<vs.length:=(List.getElem?_eq_some_iff.1 hb).1
   have:=aah (i,j) (BH QP hj)
   simp only [ha,hb,hc,Bool.not_true,Bool.false_or] at this
   exact this
 have sI:∀ (i j:Nat) (a b:bA),i<j->vs[i]? = some a->vs[j]? = some b->a.op.pure=false->b.op.pure=false->(a.op.s9&&b.op.s9)=false->((jT qz []).getD j 0).testBit i=false->∀ (x y:eT),rs[i]? = some x->rs[j]? = some y->apart x y:=by
   intro i j a b QP ha hb hpa hpb hll hm x y hx hy
   have hj:j<vs.length:=(List.getElem?_eq_some_iff.1 hb).1
   refine hap (i,j) ?_ x y hx hy
   unfold zF
   rw [List.mem_filter]
   exact ⟨BH QP hj,by simp only [ha,hb,hpa,hpb,hll,hm];rfl⟩
 -- an operation that touches a block is not pure
 have touch:∀ (k:Nat) (o:bA) (r:eT),vs[k]? = some o->rs[k]? = some r->(r.rd≠[]∨r.up≠[])->o.op.pure=false:=by
   intro k o r ho hr hne
   cases hp:o.op.pure with
   | false=>rfl
   | true =>
     rcases hst k o r ho hr with ⟨_,rfl⟩ | ⟨_,hs⟩
     . simp at hne
     . obtain ⟨h1,h2⟩:=QN hp hs
       simp [h1,h2] at hne
 have Tf:∀ (k:Nat) (o:bA) (r:eT),vs[k]? = some o->rs[k]? = some r->r.up≠[]->o.op.s9=false:=by
   intro k o r ho hr hne
   cases hp:o.op.s9 with
   | false=>rfl
   | true =>
     rcases hst k o r ho hr with ⟨_,rfl⟩ | ⟨_,hs⟩
     . simp at hne
     . exact absurd (QO hp hs) hne
 intro fuel
 induction fuel with
 | zero =>
   intro listed a E w hls acT M5 hm
   have KQ:∀ i,i<ops.size->listed.getD i false=true:=by
     intro i hi
     have:=FO (X:=fun i=>listed.getD i false) (List.range ops.size) (by simpa using acT) i (List.mem_range.2 hi)
     exact this
   refine ⟨?_,hQ a E w ?_⟩
   . apply List.eq_nil_iff_forall_not_mem.2
     intro j hj
     obtain ⟨h1,o,h2,_⟩:=mem_ready.1 hj
     have yi:j<ops.size:=(Array.getElem?_eq_some_iff.1 h2).1
     have:=KQ j yi
     rw [Array.getD_eq_getD_getElem?] at h1 this
     cases hh:listed[j]? with
     | none=>simp [hh] at this
     | some b=>simp [hh] at h1 this;simp [h1] at this
   . have e1:e8 (fun i=>listed.getD i false) L 0 t0=e8 (fun _=>true) L 0 t0:=Da L 0 t0 (fun k hk=>by rw [Nat.zero_add];exact KQ k (by omega))
     have e2:gO (fun i=>listed.getD i false) L 0 σ0=gO (fun _=>true) L 0 σ0:=Db L 0 σ0 (fun k hk=>by rw [Nat.zero_add];exact KQ k (by omega))
     exact ⟨e1▸hm.frame,e2▸hm.inv,hm.Hm,by simp,hm.more,hm.defers⟩
 | succ fuel ih =>
   intro listed a E w hls acT M5 hm
   have acU:∀ i,i<ops.size->listed.getD i true=listed.getD i false:=by
     intro i hi
     rw [Array.getD_eq_getD_getElem?,Array.getD_eq_getD_getElem?,Array.getElem?_eq_getElem (by omega)]
     rfl
   have YU:∀ (j:Nat) (o:Oper),ops[j]? = some o->qz.getD j []=Ai o:=by
     intro j o ho
     rw [<- acS]
     have hj:j<ops.size:=(Array.getElem?_eq_some_iff.1 ho).1
     have he:ops[j]=o:=(Array.getElem?_eq_some_iff.1 ho).2
     simp [List.getD,hj,he]
   refine ⟨?_, ?_⟩
   . -- nothing is ready: all is done
     intro BI
     have KQ : ∀ i,i<ops.size->listed.getD i false=true:=by
       intro i
       induction i using Nat.strongRecOn with
       | _ i ihi =>
         intro hi
         cases hh:listed.getD i false with
         | true=>rfl
         | false =>
           exfalso
           have p9:i∈Region.ready .any ops listed:=by
             refine mem_ready.2 ⟨(acU i hi).trans hh,ops[i],by simp [hi], ?_⟩
             intro e he hb
             have agw:e.on∈qz.getD i []:=by
               rw [YU i ops[i] (by simp [hi])]
               unfold Ai
               exact List.mem_map.2 ⟨e,List.mem_filter.2 ⟨by simpa using he,hb⟩,rfl⟩
             have:=Te i hi e.on agw
             exact ihi e.on this (by omega)
           rw [BI] at p9
           simp at p9
     have e1:e8 (fun i=>listed.getD i false) L 0 t0=e8 (fun _=>true) L 0 t0:=Da L 0 t0 (fun k hk=>by rw [Nat.zero_add];exact KQ k (by omega))
     have e2:gO (fun i=>listed.getD i false) L 0 σ0=gO (fun _=>true) L 0 σ0:=Db L 0 σ0 (fun k hk=>by rw [Nat.zero_add];exact KQ k (by omega))
     exact hQ a E w ⟨e1▸hm.frame,e2▸hm.inv,hm.Hm,by simp,hm.more,hm.defers⟩
   . intro j hj
     obtain ⟨h1,o,ho,acV⟩:=mem_ready.1 hj
     have Qu:j<ops.size:=(Array.getElem?_eq_some_iff.1 ho).1
     have hXj:listed.getD j false=false:=(acU j Qu).symm.trans h1
     generalize hX:(fun i=>listed.getD i false)=X at *
     have hXd:∀ i,listed.getD i false=X i:=fun i=>by rw [<- hX]
     simp only [hXd] at M5 hXj
     have AG:∀ e∈qz.getD j [],X e=true:=by
       intro e he
       rw [YU j o ho] at he
       unfold Ai at he
       obtain ⟨ed,hed,rfl⟩:=List.mem_map.1 he
       obtain ⟨h3,h4⟩:=List.mem_filter.1 hed
       rw [<- hXd]
       exact acV ed (by simpa using h3) h4
     have pre:∀ i,((jT qz []).getD j 0).testBit i=true->X i=true:=D7 Te M5 j Qu AG
     have post:∀ k,k<ops.size->X k=true->((jT qz []).getD k 0).testBit j=false:=by
       intro k hk ED
       cases hb:((jT qz []).getD k 0).testBit j with
       | false=>rfl
       | true=>have:=D7 Te M5 k hk (M5 k hk ED) j hb;simp [hXj] at this
     -- the operation
     have AH:∃ vo,vs[j]? = some vo/\Ah P ops o=some vo:=by
       have hjv:j<vs.length:=by omega
       obtain ⟨o',h3,h4⟩:=mapM_some_get M4 j vs[j] (by simp [hjv])
       have:o'=o:=by
         have h5:ops.toList[j]? = some o:=by simpa using ho
         rw [h5] at h3;simpa using h3.symm
       subst this
       exact ⟨vs[j],by simp [hjv],h4⟩
     obtain ⟨vo,FP,AH⟩:=AH
     obtain ⟨hop,Tb⟩:=KL AH
     have hrj:j<rs.length:=by omega
     obtain ⟨r,hr⟩:∃ r,rs[j]? = some r:=⟨rs[j],by simp [hrj]⟩
     have hsc:=hst j vo r FP hr
     rw [Nat.zero_add] at hsc
     -- a slot that it names
     have slot:∀ s∈vo.names,(e8 X L 0 t0)[s]? = (e8 (fun m=>m<j) L 0 t0)[s]? := by
       intro s hs
       refine sF L 0 t0 t0 rfl ?_
       intro k d r' hk hne hds
       rw [Nat.zero_add] at hne
       obtain ⟨ok,h3,h4,h5⟩:=(OS k d r').1 hk
       subst hds
       have WI:k<ops.size:=by have:=(List.getElem?_eq_some_iff.1 h3).1;omega
       rcases Nat.lt_trichotomy k j with yr | rfl | hgt
       . have ED:X k=false:=by
           cases hh:X k with
           | false=>rfl
           | true=>simp [hh,yr] at hne
         have hc:D2 ok vo=true:=by unfold D2;simp [h4,hs]
         have:=pre k (Hq k j ok vo yr h3 FP hc)
         simp [ED] at this
       . simp [hXj] at hne
       . have ED:X k=true:=by
           cases hh:X k with
           | true=>rfl
           | false=>simp [hh,Nat.not_lt.2 (Nat.le_of_lt hgt)] at hne
         have hc:D2 vo ok=true:=by unfold D2;simp [h4,hs]
         have:=Hq j k vo ok hgt FP h3 hc
         rw [post k WI ED] at this
         simp at this
     have aai:vo.op.map (bd.ev G (e8 X L 0 t0))=vo.op.map (bd.ev G (e8 (fun m=>m<j) L 0 t0)):=by
       refine gD.map_congr _ fun x hx=>Tc x fun s hs=>slot s ?_
       unfold bA.names
       exact List.mem_append_left _ (List.mem_filterMap.2 ⟨x,hx,hs⟩)
     have YV:e7 (e8 X L 0 t0) vo.guard=e7 (e8 (fun m=>m<j) L 0 t0) vo.guard:=by
       cases hg:vo.guard with
       | none=>rfl
       | some q =>
         obtain ⟨s,want⟩:=q
         have:=slot s (by unfold bA.names;simp [hg])
         simp only [e7,this]
     have hrd:∀ id∈r.rd,gO X L 0 σ0 id=gO (fun m=>m<j) L 0 σ0 id:=by
       intro id jS
       refine sG L 0 σ0 σ0 rfl ?_
       intro k d r' hk hne p9
       rw [Nat.zero_add] at hne
       obtain ⟨ok,h3,h4,h5⟩:=(OS k d r').1 hk
       have WI:k<ops.size:=by have:=(List.getElem?_eq_some_iff.1 h3).1;omega
       have hpk:ok.op.pure=false:=touch k ok r' h3 h5 (.inr (by intro e;simp [e] at p9))
       have hpj:vo.op.pure=false:=touch j vo r FP hr (.inl (by intro e;simp [e] at jS))
       have WQ:ok.op.s9=false:=Tf k ok r' h3 h5 (by intro e;simp [e] at p9)
       obtain ⟨x,hx,rfl⟩:=List.mem_map.1 p9
       rcases Nat.lt_trichotomy k j with yr | rfl | hgt
       . have ED:X k=false:=by
           cases hh:X k with
           | false=>rfl
           | true=>simp [hh,yr] at hne
         have hb:((jT qz []).getD j 0).testBit k=false:=by
           cases hb:((jT qz []).getD j 0).testBit k with
           | false=>rfl
           | true=>have:=pre k hb;simp [ED] at this
         exact ((sI k j ok vo yr h3 FP hpk hpj (by simp [WQ]) hb r' r h5 hr).1 x hx).1 jS
       . simp [hXj] at hne
       . have ED:X k=true:=by
           cases hh:X k with
           | true=>rfl
           | false=>simp [hh,Nat.not_lt.2 (Nat.le_of_lt hgt)] at hne
         exact (sI j k vo ok hgt FP h3 hpj hpk (by simp [WQ]) (post k WI ED) r r' hr h5).2 x hx jS
     -- behind it
     generalize hX':(fun i=>if i=j then true else X i)=X' at *
     have We:∀ i,X' i=if i=j then true else X i:=fun i=>by rw [<- hX']
     have later:∀ (k:Nat) (d:Option Nat) (r':eT),L[k]? = some (d,r')->j<k->X' k=true->∃ ok:bA,vs[k]? = some ok/\ok.dst=d/\rs[k]? = some r'/\k<ops.size/\X k=true:=by
       intro k d r' hk yr ED
       obtain ⟨ok,h3,h4,h5⟩:=(OS k d r').1 hk
       refine ⟨ok,h3,h4,h5,by have:=(List.getElem?_eq_some_iff.1 h3).1;omega, ?_⟩
       rw [We] at ED
       simpa [show k≠j from by omega] using ED
     have hLj:L[j]? = some (vo.dst,r):=(OS j _ _).2 ⟨vo,FP,rfl,hr⟩
     have tEq:gg (e8 X L 0 t0) vo.dst r.val=e8 X' L 0 t0:=by
       apply List.ext_getElem?
       intro s
       rw [uw]
       by_cases hd:vo.dst=some s
       . rw [if_pos hd]
         rw [FK L 0 j t0 (by rw [hLj,hd]) (by rw [Nat.zero_add,We];simp) ?_,Ih]
         intro k d r' hk yr ED hds
         rw [Nat.zero_add] at ED
         obtain ⟨ok,h3,h4,h5,WI,aaj⟩:=later k d r' hk yr ED
         have hc:D2 vo ok=true:=by unfold D2;simp [hd,h4,hds]
         have:=Hq j k vo ok yr FP h3 hc
         rw [post k WI aaj] at this
         simp at this
       . rw [if_neg hd]
         refine sF L 0 t0 t0 rfl ?_
         intro k d r' hk hne
         rw [Nat.zero_add,We] at hne
         have hkj:k=j:=by
           apply Classical.byContradiction;intro h;simp [h] at hne
         subst hkj
         rw [hLj] at hk
         simp only [Option.some.injEq,Prod.mk.injEq] at hk
         rw [<- hk.1];exact hd
     have sEq:(gO X L 0 σ0).app r.up=gO X' L 0 σ0:=by
       funext id
       by_cases p9:id∈r.up.map (·.1)
       . symm
         refine FL L 0 j σ0 hLj (by rw [Nat.zero_add,We];simp) p9 ?_
         intro k d r' hk yr ED acZ
         rw [Nat.zero_add] at ED
         obtain ⟨ok,h3,h4,h5,WI,aaj⟩:=later k d r' hk yr ED
         have hpk:ok.op.pure=false:=touch k ok r' h3 h5 (.inr (by intro e;simp [e] at acZ))
         have hpj:vo.op.pure=false:=touch j vo r FP hr (.inr (by intro e;simp [e] at p9))
         have hlj:vo.op.s9=false:=Tf j vo r FP hr (by intro e;simp [e] at p9)
         obtain ⟨x,hx,rfl⟩:=List.mem_map.1 p9
         exact ((sI j k vo ok yr FP h3 hpj hpk (by simp [hlj]) (post k WI aaj) r r' hr h5).1 x hx).2 acZ
       . rw [ah.zJ p9]
         refine sG L 0 σ0 σ0 rfl ?_
         intro k d r' hk hne
         rw [Nat.zero_add,We] at hne
         have hkj:k=j:=by
           apply Classical.byContradiction;intro h;simp [h] at hne
         subst hkj
         rw [hLj] at hk
         simp only [Option.some.injEq,Prod.mk.injEq] at hk
         rw [<- hk.2];exact p9
     -- going on
     have hXl:∀ i,(listed.setIfInBounds j true).getD i false=X' i:=by
       intro i
       rw [We]
       by_cases e:i=j
       . subst e
         rw [Array.getD_eq_getD_getElem?]
         simp [hls,Qu]
       . rw [if_neg e,getD_set_ne false (fun h=>e h.symm),hXd]
     have go : ∀ (a':Act) (E':Env) (w':World),cn E' w' (e8 X' L 0 t0) a'->Inv G own E' w' (gO X' L 0 σ0)->mL own π E E' w w'->(∀ i:Id, ¬ ((base+j) :: π) <:+ i->E'.μ i=E.μ i)->a'.defers=a.defers ->
         wpAny P .any ops Q fuel (listed.setIfInBounds j true) a' w':=by
       intro a' E' w' Wo p6 had WO hde
       have Ic:(fun i=>(listed.setIfInBounds j true).getD i false)=X':=funext hXl
       refine ih _ a' E' w' (by simpa using hls) ?_ ?_ ?_
       . rw [Ic]
         have:=Im (X:=X) (Y:=X') (i:=j) hXj (by rw [We];simp) (fun k hk=>by rw [We];split<;>simp [hk]) (List.range ops.size) (List.mem_range.2 Qu)
         omega
       . intro k hk ED e he
         rw [hXl] at ED ⊢
         rw [We] at ED ⊢
         split
         . rfl
         . by_cases hkj:k=j
           . subst hkj;exact AG e he
           . rw [if_neg hkj] at ED
             exact M5 k hk ED e he
       . rw [Ic]
         refine ⟨Wo,p6,hm.Hm.trans had, ?_, ?_,hde.trans hm.defers⟩
         . intro i hi hxi j'
           rw [We] at hxi
           have QP:i≠j:=by rintro rfl;simp at hxi
           rw [if_neg QP] at hxi
           intro hj'
           rw [WO _ (KN hj' (by omega))]
           exact hm.free i hi hxi j' hj'
         . intro j' hj' hq
           rw [WO _ (hq (base+j) (by omega))]
           exact hm.more j' hj' hq
     unfold wpOp
     rw [ho]
     simp only []
     rcases hsc with ⟨Nq,rfl⟩ | ⟨Wf,hsr⟩
     . rw [vP AH hm.frame (YV.trans Nq)]
       simp only [Bool.false_eq_true,if_false]
       refine go _ E w ?_ ?_ (mL.refl own π E w) (fun _ _=>rfl) (sH _ _ _)
       . rw [<- tEq, <- Tb];exact Ij hm.frame _
       . rw [<- sEq];exact hm.inv
     . rw [vP AH hm.frame (YV.trans Wf)]
       simp only [if_true]
       left
       rw [<- aai] at hsr
       refine FJ hm.inv (hm.free j Qu hXj) hm.frame hop (Hz hsr hrd) ?_
       intro v w' E' hp
       refine go _ E' w' ?_ ?_ hp.acQ hp.ids (sH _ _ _)
       . rw [<- tEq, <- Tb];exact hp.frame hm.frame _
       . rw [<- sEq];exact hp.inv
end
end Go.VL
end

section
namespace Go.VL
inductive cd where
 | normal
 | exit (id:Nat)
 | ret
def cd.real:cd->Exit
 | .normal => .normal
 | .exit id => .exit id
 | .ret => .ret
structure VS where
 t:List AV
 σ : ah
 n:Nat
structure mz (G:Nat->Option (List AV)) (π : Id) (own:Nat->Prop) (E:Env) (w:World) (s:VS) (a:Act):Prop where
 frame:cn E w s.t a
 inv:Inv G own E w s.σ
 free:zX E π s.n
 defers:a.defers=[]
def Wk (G:Nat->Option (List AV)) (π : Id) (s s':VS):Prop:=∀ own E w a,mz G π own E w s a->∃ E',mL own π E E' w w/\mz G π own E' w s' a
def VW (P:Program) (G:Nat->Option (List AV)) (π : Id) (vc:cB) (Q:cd->VS->Prop) (s:VS):Prop :=
 ∀ c,gK P c=some vc->∀ own E w a (R:Exit->Act->World->Prop),mz G π own E w s a ->
   (∀ e s' E' w' a',Q e s'->mL own π E E' w w'->mz G π own E' w' s' a'->R e.real a' w')->c.wp P R a w
section
variable {P:Program} {G:Nat->Option (List AV)} {π : Id} {Q:cd->VS->Prop} {s:VS}
theorem Wk.refl (G:Nat->Option (List AV)) (π : Id) (s:VS):Wk G π s s:=fun own E w _ h=>⟨E,mL.refl own π E w,h⟩
theorem Wk.trans {s s' s'':VS} (h:Wk G π s s') (k:Wk G π s' s''):Wk G π s s'':=fun own E w a hm=>by
 obtain ⟨E1,a1,m1⟩:=h own E w a hm
 obtain ⟨E2,a2,m2⟩:=k own E1 w a m1
 exact ⟨E2,a1.trans a2,m2⟩
theorem VW.wk {vc:cB} {s':VS} (h:Wk G π s s') (k:VW P G π vc Q s'):VW P G π vc Q s:=by
 intro c hc own E w a R hm hR
 obtain ⟨E1,a1,m1⟩:=h own E w a hm
 exact k c hc own E1 w a R m1 fun e s2 E2 w2 a2 hq ad mm=>hR e s2 E2 w2 a2 hq (a1.trans ad) mm
theorem VW.mono {vc:cB} {Q':cd->VS->Prop} (h:VW P G π vc Q s) (hq:∀ e s,Q e s->Q' e s):VW P G π vc Q' s :=
 fun c hc own E w a R hm hR=>h c hc own E w a R hm fun e s2 E2 w2 a2 KR=>hR e s2 E2 w2 a2 (hq e s2 KR)
theorem VW.skip (h:Q .normal s):VW P G π .skip Q s:=by
 intro c hc own E w a R hm hR
 cases c<;>simp only [gK,Option.some.injEq,reduceCtorEq] at hc
 . exact wp_skip (hR .normal s E w a h (mL.refl own π E w) hm)
 . exfalso;revert hc;unfold my;(repeat' split)<;>simp
 all_goals (exfalso;revert hc;(repeat' split)<;>simp)
theorem BJ {c:Code} {ps:Option (List (Nat × Nat))} {vs:List bA} (hc:gK P c=some (.reg ps vs)):∃ id ops draw,c = .region id ops draw/\ops.toList.mapM (Ah P ops)=some vs /\
   ((draw=false/\ps=none)∨(draw=true/\ps=some (zF vs (ops.toList.map Ai))/\E9 vs (ops.toList.map Ai)=true/\P.follows .mixedOrders=true)):=by
 cases c with
 | region id ops draw =>
   simp only [gK,my] at hc
   cases hm:ops.toList.mapM (Ah P ops) with
   | none=>simp [hm] at hc
   | some vs' =>
     simp only [hm] at hc
     split at hc
     . rename_i hd
       split at hc
       . rename_i ho
         simp only [Option.some.injEq,cB.reg.injEq] at hc
         obtain ⟨rfl,rfl⟩:=hc
         simp only [Bool.and_eq_true] at ho
         exact ⟨id,ops,draw,rfl,hm, .inr ⟨hd,rfl,ho.1,ho.2⟩⟩
       . simp at hc
     . rename_i hd
       simp only [Option.some.injEq,cB.reg.injEq] at hc
       obtain ⟨rfl,rfl⟩:=hc
       exact ⟨id,ops,draw,rfl,hm, .inl ⟨by simpa using hd,rfl⟩⟩
 | _=>exfalso;revert hc;simp only [gK];(repeat' split)<;>simp
theorem VW.Tg {vs:List bA} (h:BD P G π s.n (fun t σ => Q .normal ⟨t, σ,s.n+vs.length⟩) vs 0 s.t s.σ):VW P G π (.reg none vs) Q s:=by
 intro c hc own E w a R hm hR
 obtain ⟨id,ops,draw,rfl,M4,Wb⟩:=BJ hc
 have hd:draw=false:=by
   rcases Wb with ⟨h,_⟩ | ⟨_,h,_⟩
   . exact h
   . simp at h
 subst hd
 have hl:ops.toList.length=vs.length:=(hH M4).symm
 refine wp_region ?_
 have:=FN (P:=P) (G:=G) (own:=own) (ops:=ops) (Q:=R) ops.toList 0 (fun k=>by simp) vs M4 s.t s.σ a E w h hm.frame hm.inv hm.free (by
   intro t' σ' a' E' w' hk had hf hi H0 hde
   refine hR .normal ⟨t', σ',s.n+vs.length⟩ E' w' a' hk had ⟨hf,hi,by have h:=H0;simp only [Nat.add_zero,hl] at h;exact h,hde.trans hm.defers⟩)
 rw [List.range_eq_range']
 simpa using this
theorem VW.Th {ps:List (Nat × Nat)} {vs:List bA} (h:BF P G π s.n (fun rs t σ => ab rs ps/\Q .normal ⟨t, σ,s.n+vs.length⟩) vs 0 [] s.t s.σ):VW P G π (.reg (some ps) vs) Q s:=by
 intro c hc own E w a R hm hR
 obtain ⟨id,ops,draw,rfl,M4,Wb⟩:=BJ hc
 rcases Wb with ⟨_,h2⟩ | ⟨hd,Ia,Td,hmx⟩
 . simp at h2
 . subst hd
   simp only [Option.some.injEq] at Ia
   have hl:vs.length=ops.size:=by have:=hH M4;simpa using this
   obtain ⟨rs,hrl,hst,hap,hq⟩:=Ii h
   refine wp_region_any hmx ?_
   have agy:Mid G π own ((vs.map (·.dst)).zip rs) s.n ops.size s.t s.σ a E w (fun i=>(Array.replicate ops.size false).getD i false) E w.drew a:=by
     have hX:∀ i,(Array.replicate ops.size false).getD i false=false:=by intro i;rw [Array.getD_eq_getD_getElem?];simp [Array.getElem?_replicate];split<;>rfl
     have e1:e8 (fun i=>(Array.replicate ops.size false).getD i false) ((vs.map (·.dst)).zip rs) 0 s.t=s.t:=tc _ _ _ fun k _=>hX _
     have e2:gO (fun i=>(Array.replicate ops.size false).getD i false) ((vs.map (·.dst)).zip rs) 0 s.σ = s.σ := td _ _ _ fun k _=>hX _
     exact ⟨by rw [e1];exact hm.frame.keep (Adv.drew (own:=own) E w).step,by rw [e2];exact hm.inv.drew,⟨Adv.drew E w,fun _ _=>rfl⟩,fun i _ _ j hj=>hm.free.at (by omega) hj,hm.free.mono (by omega),rfl⟩
   refine QQ M4 Td hrl hst (by rw [<- Ia];simpa using hap) (Q:=R) (a0:=a) (E0:=E) (w0:=w) ?_ ops.size (Array.replicate ops.size false) a E w.drew (by simp) (by simp) ?_ agy
   . intro a' E' w' YW
     refine hR .normal _ E' w' a' hq YW.Hm ⟨YW.frame,YW.inv,by rw [hl];exact YW.more,YW.defers.trans hm.defers⟩
   . intro k hk hx
     rw [Array.getD_eq_getD_getElem?] at hx
     simp [hk] at hx
theorem VW.seq {x y:cB} (h:VW P G π x (fun e s'=>match e with | .normal=>VW P G π y Q s' | e=>Q e s') s):VW P G π (.seq x y) Q s:=by
 intro c hc own E w a R hm hR
 cases c<;>simp only [gK,Option.some.injEq,reduceCtorEq] at hc
 case seq ca cb =>
   cases h1:gK P ca with
   | none=>simp [h1] at hc
   | some va =>
   cases h2:gK P cb with
   | none=>simp [h1,h2] at hc
   | some vb =>
     simp only [h1,h2,Option.some.injEq,cB.seq.injEq] at hc
     obtain ⟨rfl,rfl⟩:=hc
     refine wp_seq (h ca h1 own E w a _ hm ?_)
     intro e s' E' w' a' hq had qH
     cases e with
     | normal=>exact hq cb h2 own E' w' a' R qH fun e2 s2 E2 w2 a2 KR QR mm2=>hR e2 s2 E2 w2 a2 KR (had.trans QR) mm2
     | exit id=>exact hR (.exit id) s' E' w' a' hq had qH
     | ret=>exact hR .ret s' E' w' a' hq had qH
 case region=>exfalso;revert hc;unfold my;(repeat' split)<;>simp
 all_goals (exfalso;revert hc;(repeat' split)<;>simp)
theorem VW.cond {vc:bd} {x y:cB} {b:Bool} (hb:vc.ev G s.t = .bool b) (h:if b then VW P G π x Q s else VW P G π y Q s):VW P G π (.cond vc x y) Q s:=by
 intro c hc own E w a R hm hR
 cases c<;>simp only [gK,Option.some.injEq,reduceCtorEq] at hc
 case cond cc ca cb =>
   cases h0:cJ cc with
   | none=>simp [h0] at hc
   | some vcc =>
   cases h1:gK P ca with
   | none=>simp [h0,h1] at hc
   | some va =>
   cases h2:gK P cb with
   | none=>simp [h0,h1,h2] at hc
   | some vb =>
     simp only [h0,h1,h2,Option.some.injEq,cB.cond.injEq] at hc
     obtain ⟨rfl,rfl,rfl⟩:=hc
     have hr:=bl hm.frame hm.inv h0
     rw [hb] at hr
     simp only [aX] at hr
     refine wp_cond hr ?_
     cases b with
     | true=>simp only [if_true] at h ⊢;exact h ca h1 own E w a R hm hR
     | false=>simp only [Bool.false_eq_true,if_false] at h ⊢;exact h cb h2 own E w a R hm hR
 case region=>exfalso;revert hc;unfold my;(repeat' split)<;>simp
 all_goals (exfalso;revert hc;(repeat' split)<;>simp)
theorem VW.WR {vc:bd} {x y:cB} (hb:vc.ev G s.t = .anyb) (h1:VW P G π x Q s) (h2:VW P G π y Q s):VW P G π (.cond vc x y) Q s:=by
 intro c hc own E w a R hm hR
 cases c<;>simp only [gK,Option.some.injEq,reduceCtorEq] at hc
 case cond cc ca cb =>
   cases h0:cJ cc with
   | none=>simp [h0] at hc
   | some vcc =>
   cases h3:gK P ca with
   | none=>simp [h0,h3] at hc
   | some va =>
   cases h4:gK P cb with
   | none=>simp [h0,h3,h4] at hc
   | some vb =>
     simp only [h0,h3,h4,Option.some.injEq,cB.cond.injEq] at hc
     obtain ⟨rfl,rfl,rfl⟩:=hc
     have hr:=bl hm.frame hm.inv h0
     rw [hb] at hr
     simp only [aX] at hr
     obtain ⟨b,hr⟩:=hr
     refine wp_cond hr ?_
     cases b with
     | true=>exact h1 ca h3 own E w a R hm hR
     | false=>exact h2 cb h4 own E w a R hm hR
 case region=>exfalso;revert hc;unfold my;(repeat' split)<;>simp
 all_goals (exfalso;revert hc;(repeat' split)<;>simp)
theorem VW.block {id:Nat} {x:cB} (h:VW P G π x (fun e s'=>match e with | .exit i=>if i=id then Q .normal s' else Q (.exit i) s' | e=>Q e s') s):VW P G π (.block id x) Q s:=by
 intro c hc own E w a R hm hR
 cases c<;>simp only [gK,Option.some.injEq,reduceCtorEq] at hc
 case block i cb =>
   cases h1:gK P cb with
   | none=>simp [h1] at hc
   | some vb =>
     simp only [h1,Option.map_some,Option.some.injEq,cB.block.injEq] at hc
     obtain ⟨rfl,rfl⟩:=hc
     refine wp_block (h cb h1 own E w a _ hm ?_)
     intro e s' E' w' a' hq had qH
     cases e with
     | normal=>exact hR .normal s' E' w' a' hq had qH
     | exit j =>
       simp only [cd.real,Exit.inBlock]
       split
       . rename_i hj;simp only [hj,if_true] at hq;exact hR .normal s' E' w' a' hq had qH
       . rename_i hj;simp only [hj,if_false] at hq;exact hR (.exit j) s' E' w' a' hq had qH
     | ret=>exact hR .ret s' E' w' a' hq had qH
 case region=>exfalso;revert hc;unfold my;(repeat' split)<;>simp
 all_goals (exfalso;revert hc;(repeat' split)<;>simp)
theorem VW.exit {id:Nat} (h:Q (.exit id) s):VW P G π (.exit id) Q s:=by
 intro c hc own E w a R hm hR
 cases c<;>simp only [gK,Option.some.injEq,reduceCtorEq] at hc
 case exit i =>
   simp only [cB.exit.injEq] at hc;subst hc
   exact wp_exit (hR (.exit i) s E w a h (mL.refl own π E w) hm)
 case region=>exfalso;revert hc;unfold my;(repeat' split)<;>simp
 all_goals (exfalso;revert hc;(repeat' split)<;>simp)
theorem VW.ret (h:Q .ret s):VW P G π .ret Q s:=by
 intro c hc own E w a R hm hR
 cases c<;>simp only [gK,Option.some.injEq,reduceCtorEq] at hc
 case ret=>exact wp_ret (hR .ret s E w a h (mL.refl own π E w) hm)
 case region=>exfalso;revert hc;unfold my;(repeat' split)<;>simp
 all_goals (exfalso;revert hc;(repeat' split)<;>simp)
theorem yt {α : Type} {c:Code} {R:Exit->Act->World->Prop} (I : α -> Act->World->Prop) (μ : α -> Nat) {x : α} {a:Act} {w:World} (h₀:I x a w)
   (round:∀ x a w,I x a w->c.wp P (Exit.then (fun a' w'=>∃ x',I x' a' w' /\ μ x' < μ x) R) a w):(Code.loop c).wp P R a w:=by
 intro b k cs
 have key:∀ n x a w, μ x=n->I x a w ->
     ∃ e a' w',R e a' w'/\Arrives P (lone (b.at a (.code c :: .inLoop c::k)) cs w) b k cs e a' w':=by
   intro n
   induction n using Nat.strongRecOn with
   | _ n ih =>
     intro x a w hn hI
     obtain ⟨e,a₁,w₁,hq,KS⟩:=round x a w hI b (.inLoop c::k) cs
     cases e with
     | normal =>
       obtain ⟨x₁,hI₁,hlt⟩:=hq
       obtain ⟨e₂,a₂,w₂,hq₂,WS⟩:=ih (μ x₁) (hn▸hlt) x₁ a₁ w₁ rfl hI₁
       exact ⟨e₂,a₂,w₂,hq₂, .of_steps (Steps.trans KS (.one step_inLoop)) WS⟩
     | exit id=>exact ⟨_,a₁,w₁,hq, .pass (x := .inLoop c) rfl (fun _ _ => .inl (by simp)) KS⟩
     | goto l=>exact ⟨_,a₁,w₁,hq, .pass (x := .inLoop c) rfl (fun _ _ => .inl (by simp)) KS⟩
     | ret=>exact ⟨_,a₁,w₁,hq, .pass (x := .inLoop c) rfl (fun _ _ => .inl (by simp)) KS⟩
     | panic ch=>exact ⟨_,a₁,w₁,hq, .pass (x := .inLoop c) rfl (fun _ _ => .inl (by simp)) KS⟩
     | outgrown=>exact ⟨_,a₁,w₁,hq, .pass (x := .inLoop c) rfl (fun _ _ => .inl (by simp)) KS⟩
 obtain ⟨e,a',w',hq,KS⟩:=key _ x a w rfl h₀
 exact ⟨e,a',w',hq, .of_steps (.one step_loop) KS⟩
theorem VW.loop {x:cB} (I:VS->Prop) (m:VS->Nat) (h0:∃ s',Wk G π s s'/\I s')
   (h:∀ s,I s->VW P G π x (fun e s'=>match e with | .normal=>∃ s'',Wk G π s' s''/\I s''/\m s''<m s | e=>Q e s') s):VW P G π (.loop x) Q s:=by
 obtain ⟨s1,Wf,hI1⟩:=h0
 refine VW.wk Wf ?_
 intro c hc own E w a R hm hR
 cases c<;>simp only [gK,Option.some.injEq,reduceCtorEq] at hc
 case loop cb =>
   cases h1:gK P cb with
   | none=>simp [h1] at hc
   | some vb =>
     simp only [h1,Option.map_some,Option.some.injEq,cB.loop.injEq] at hc
     subst hc
     refine yt (α := VS) (fun s' a' w'=>I s'/\∃ E',mL own π E E' w w'/\mz G π own E' w' s' a') m (x:=s1) ⟨hI1,E,mL.refl own π E w,hm⟩ ?_
     rintro s2 a2 w2 ⟨hI2,E2,QR,BA⟩
     refine h s2 hI2 cb h1 own E2 w2 a2 _ BA ?_
     intro e s' E' w' a' hq had qH
     cases e with
     | normal =>
       obtain ⟨s3,hw3,hI3,hlt⟩:=hq
       obtain ⟨E3,ad3,hm3⟩:=hw3 own E' w' a' qH
       exact ⟨s3,⟨hI3,E3,(QR.trans had).trans ad3,hm3⟩,hlt⟩
     | exit id=>exact hR (.exit id) s' E' w' a' hq (QR.trans had) qH
     | ret=>exact hR .ret s' E' w' a' hq (QR.trans had) qH
 case region=>exfalso;revert hc;unfold my;(repeat' split)<;>simp
 all_goals (exfalso;revert hc;(repeat' split)<;>simp)
def Then (k:VS->Prop) (Q:cd->VS->Prop):cd->VS->Prop
 | .normal,s=>k s
 | .exit i,s=>Q (.exit i) s
 | .ret,s=>Q .ret s
def QS (id:Nat) (Q:cd->VS->Prop):cd->VS->Prop
 | .normal,s=>Q .normal s
 | .exit i,s=>if i=id then Q .normal s else Q (.exit i) s
 | .ret,s=>Q .ret s
theorem yu (k:VS->Prop) (Q:cd->VS->Prop) (s:VS):Then k Q .normal s=k s:=(rfl)
theorem Io (k:VS->Prop) (Q:cd->VS->Prop) (i:Nat) (s:VS):Then k Q (.exit i) s=Q (.exit i) s:=(rfl)
theorem KT (k:VS->Prop) (Q:cd->VS->Prop) (s:VS):Then k Q .ret s=Q .ret s:=(rfl)
theorem D9 (id:Nat) (Q:cd->VS->Prop) (s:VS):QS id Q .normal s=Q .normal s:=(rfl)
theorem Dc (id:Nat) (Q:cd->VS->Prop) (i:Nat) (s:VS):QS id Q (.exit i) s=if i=id then Q .normal s else Q (.exit i) s:=(rfl)
theorem KU (id:Nat) (Q:cd->VS->Prop) (s:VS):QS id Q .ret s=Q .ret s:=(rfl)
def xQ (P:Program) (G:Nat->Option (List AV)) (π : Id):cB->(cd->VS->Prop)->VS->Prop
 | .skip,Q,s=>Q .normal s
 | .reg none vs,Q,s=>BD P G π s.n (fun t σ => Q .normal ⟨t, σ,s.n+vs.length⟩) vs 0 s.t s.σ
 | .reg (some ps) vs,Q,s=>BF P G π s.n (fun rs t σ => ab rs ps/\Q .normal ⟨t, σ,s.n+vs.length⟩) vs 0 [] s.t s.σ
 | .seq x y,Q,s=>xQ P G π x (Then (xQ P G π y Q) Q) s
 | .cond c x y,Q,s=>match c.ev G s.t with
   | .bool b=>if b then xQ P G π x Q s else xQ P G π y Q s
   | .anyb=>xQ P G π x Q s/\xQ P G π y Q s
   | _=>False
 | .block id x,Q,s=>xQ P G π x (QS id Q) s
 | .loop x,Q,s=>VW P G π (.loop x) Q s
 | .exit id,Q,s=>Q (.exit id) s
 | .ret,Q,s=>Q .ret s
theorem VW.of:∀ {vc:cB} {Q:cd->VS->Prop} {s:VS},xQ P G π vc Q s->VW P G π vc Q s
 | .skip,_,_,h=>VW.skip h
 | .reg none _,_,_,h=>VW.Tg h
 | .reg (some _) _,_,_,h=>VW.Th h
 | .seq x y,Q,s,h=>by
   refine VW.seq (VW.mono (VW.of (vc:=x) h) ?_)
   intro e s' hq
   cases e with
   | normal=>exact VW.of (vc:=y) hq
   | exit id=>exact hq
   | ret=>exact hq
 | .cond c x y,Q,s,h=>by
   simp only [xQ] at h
   split at h
   . rename_i b hb
     refine VW.cond hb ?_
     cases b with
     | true=>exact VW.of (vc:=x) h
     | false=>exact VW.of (vc:=y) h
   . rename_i hb
     exact VW.WR hb (VW.of (vc:=x) h.1) (VW.of (vc:=y) h.2)
   . exact h.elim
 | .block id x,Q,s,h=>by
   refine VW.block (VW.mono (VW.of (vc:=x) h) ?_)
   intro e s' hq
   cases e with
   | normal=>exact hq
   | exit i=>exact hq
   | ret=>exact hq
 | .loop x,Q,s,h=>h
 | .exit id,_,_,h=>VW.exit h
 | .ret,_,_,h=>VW.ret h
end
end Go.VL
end

section
namespace Go.VL
section
variable {P:Program} {G:Nat->Option (List AV)} {own:Nat->Prop} {E:Env} {w:World} {σ : ah}
def aa (c:AV):Prop:=∀ E w v,aX E w c v->aX E.bare w c v
theorem aa.bool (b:Bool):aa (.bool b):=fun _ _ _ h=>by simpa [aX] using h
theorem aa.int (k:IntKind) (n:Int):aa (.int k n):=fun _ _ _ h=>by simpa [aX] using h
theorem aa.str (l:List UInt8):aa (.str l):=fun _ _ _ h=>by simpa [aX] using h
theorem aa.nilp:aa .nilp:=fun _ _ _ h=>by simpa [aX] using h
theorem aa.nilf:aa .nilf:=fun _ _ _ h=>by simpa [aX] using h
theorem aa.nils:aa .nils:=fun _ _ _ h=>by simpa [aX] using h
theorem aa.ux {cs:List AV} (h:∀ c∈cs,aa c):∀ {vs:List Value},bf E w cs vs->bf E.bare w cs vs:=by
 induction cs with
 | nil=>intro vs hr;simpa [bf] using hr
 | cons c cs ih =>
   intro vs hr
   simp only [bf] at hr ⊢
   obtain ⟨v,rest,e,h1,h2⟩:=hr
   exact ⟨v,rest,e,h c (by simp) _ _ _ h1,ih (fun x hx=>h x (by simp [hx])) h2⟩
theorem aa.Ea {cs:List AV} (h:∀ c∈cs,aa c) {b o:Nat} (hr:eY E w b o cs):eY E.bare w b o cs :=
 fun j c hj=>let ⟨v,hv,FB⟩:=hr j c hj;⟨v,hv,h c (List.mem_of_getElem? hj) _ _ _ FB⟩
theorem aa.agg {cs:List AV} (h:∀ c∈cs,aa c):aa (.agg cs):=fun E w v hr=>by
 simp only [aX] at hr ⊢;obtain ⟨xs,e,hr⟩:=hr;exact ⟨xs,e,aa.ux h hr⟩
theorem aa.tup {cs:List AV} (h:∀ c∈cs,aa c):aa (.tup cs):=fun E w v hr=>by
 simp only [aX] at hr ⊢;obtain ⟨xs,e,hr⟩:=hr;exact ⟨xs,e,aa.ux h hr⟩
theorem aa.fn {f:Fn} {a c:List AV} (ha:∀ x∈a,aa x) (hc:∀ x∈c,aa x):aa (.fn f a c):=fun E w v hr=>by
 simp only [aX] at hr ⊢;obtain ⟨xs,ys,e,h1,h2⟩:=hr;exact ⟨xs,ys,e,aa.ux ha h1,aa.ux hc h2⟩
theorem aa.sl {k:Nat} {es:List AV} (h:∀ c∈flat es,aa c):aa (.sl k es):=fun E w v hr=>by
 simp only [aX] at hr ⊢
 obtain ⟨a,cap,e,h1,h2,h3,h4⟩:=hr
 exact ⟨a,cap,e,h1,h2,h3,h4.imp id fun ⟨b,o,ea,hb,hr⟩=>⟨b,o,ea,hb,dN.2 (aa.Ea h (dN.1 hr))⟩⟩
theorem aa.tsl {k:Nat} {es:List AV} (h:∀ c∈flat es,aa c):aa (.tsl k es):=fun E w v hr=>by
 simp only [aX] at hr ⊢
 obtain ⟨a,e,h2,h3,h4⟩:=hr
 exact ⟨a,e,h2,h3,h4.imp id fun ⟨b,o,ea,hb,hr⟩=>⟨b,o,ea,hb,dN.2 (aa.Ea h (dN.1 hr))⟩⟩
theorem aa.ep {cs:List AV} {o:Nat} (h:∀ c∈cs,aa c):aa (.ep cs o):=fun E w v hr=>by
 simp only [aX] at hr ⊢
 obtain ⟨b,q,e,hb,hr⟩:=hr
 exact ⟨b,q,e,hb,eZ.2 (aa.Ea h (eZ.1 hr))⟩
def jy (c:AV):Prop:=∀ E w E' w' v,aX E w c v->aX E' w' c v
theorem jy.bool (b:Bool):jy (.bool b):=fun _ _ _ _ _ h=>by simpa [aX] using h
theorem jy.int (k:IntKind) (n:Int):jy (.int k n):=fun _ _ _ _ _ h=>by simpa [aX] using h
theorem jy.str (l:List UInt8):jy (.str l):=fun _ _ _ _ _ h=>by simpa [aX] using h
theorem jy.ux {cs:List AV} (h:∀ c∈cs,jy c) {E E':Env} {w w':World}:∀ {vs:List Value},bf E w cs vs->bf E' w' cs vs:=by
 induction cs with
 | nil=>intro vs hr;simpa [bf] using hr
 | cons c cs ih =>
   intro vs hr
   simp only [bf] at hr ⊢
   obtain ⟨v,rest,e,h1,h2⟩:=hr
   exact ⟨v,rest,e,h c (by simp) _ _ _ _ _ h1,ih (fun x hx=>h x (by simp [hx])) h2⟩
theorem jy.tup {cs:List AV} (h:∀ c∈cs,jy c):jy (.tup cs):=fun _ _ _ _ _ hr=>by
 simp only [aX] at hr ⊢;obtain ⟨xs,e,hr⟩:=hr;exact ⟨xs,e,jy.ux h hr⟩
theorem jy.agg {cs:List AV} (h:∀ c∈cs,jy c):jy (.agg cs):=fun _ _ _ _ _ hr=>by
 simp only [aX] at hr ⊢;obtain ⟨xs,e,hr⟩:=hr;exact ⟨xs,e,jy.ux h hr⟩
def Env.jU (E:Env) (σ : ah):Env:=⟨fun _=>none,fun b=>E.ok b∨∃ id bk k N, σ id=some bk/\E.μ id=some (b,k,N)⟩
def View (σ : ah) (c d:AV):Prop:=∀ G own E w v,Inv G own E w σ -> aX E w c v->aX (E.jU σ) w d v
def aM (σ : ah) (cs ds:List AV):Prop:=cs.length=ds.length/\∀ (j:Nat) (c d:AV),cs[j]? = some c->ds[j]? = some d->View σ c d
theorem Step.jU (E:Env) (σ : ah) (w:World):Step E.bare (E.jU σ) w w:=⟨fun _ _ h=>by simp [Env.bare] at h,fun _ h => .inl h,fun _ _=>rfl⟩
theorem View.pure {c:AV} (h:aa c):View σ c c:=fun _ _ E w v _ hr=>aX.keep (Step.jU E σ w) c v (h E w v hr)
theorem aM.pure {cs:List AV} (h:∀ c∈cs,aa c):aM σ cs cs :=
 ⟨rfl,fun j c d hc hd=>by rw [hc] at hd;simp only [Option.some.injEq] at hd;subst hd;exact View.pure (h c (List.mem_of_getElem? hc))⟩
theorem aM.nil:aM σ [] []:=⟨rfl,by simp⟩
theorem aM.cons {c d:AV} {cs ds:List AV} (h:View σ c d) (hl:aM σ cs ds):aM σ (c::cs) (d::ds) :=
 ⟨by simp [hl.1],fun j x y hx hy=>by
   cases j with
   | zero=>simp at hx hy;subst hx;subst hy;exact h
   | succ j=>exact hl.2 j x y (by simpa using hx) (by simpa using hy)⟩
theorem aM.ux {cs ds:List AV} (h:aM σ cs ds) (hi:Inv G own E w σ) {vs:List Value} (hr:bf E w cs vs):bf (E.jU σ) w ds vs:=by
 obtain ⟨hl,hp⟩:=bO.1 hr
 refine bO.2 ⟨by rw [hl,h.1],fun j d hd => ?_⟩
 have hj:j<cs.length:=by rw [h.1];exact (List.getElem?_eq_some_iff.1 hd).1
 obtain ⟨v,hv,FB⟩:=hp j cs[j] (by simp [hj])
 exact ⟨v,hv,h.2 j _ d (by simp [hj]) hd G own E w v hi FB⟩
theorem aM.Ea {cs ds:List AV} (h:aM σ cs ds) (hi:Inv G own E w σ) {b o:Nat} (hr:eY E w b o cs):eY (E.jU σ) w b o ds:=by
 intro j d hd
 have hj:j<cs.length:=by rw [h.1];exact (List.getElem?_eq_some_iff.1 hd).1
 obtain ⟨v,hv,FB⟩:=hr j cs[j] (by simp [hj])
 exact ⟨v,hv,h.2 j _ d (by simp [hj]) hd G own E w v hi FB⟩
theorem View.agg {cs ds:List AV} (h:aM σ cs ds):View σ (.agg cs) (.agg ds):=fun G own E w v hi hr=>by
 simp only [aX] at hr ⊢;obtain ⟨xs,e,hr⟩:=hr;exact ⟨xs,e,h.ux hi hr⟩
theorem View.tup {cs ds:List AV} (h:aM σ cs ds):View σ (.tup cs) (.tup ds):=fun G own E w v hi hr=>by
 simp only [aX] at hr ⊢;obtain ⟨xs,e,hr⟩:=hr;exact ⟨xs,e,h.ux hi hr⟩
theorem View.nils (k:Nat):View σ .nils (.sl k []):=fun G own E w v hi hr=>by
 simp only [aX] at hr ⊢;exact ⟨none,0,hr,Nat.le_refl _,Nat.zero_le _,by simp, .inl trivial⟩
theorem View.WT (k:Nat):View σ (.tsl k []) (.sl k []):=fun G own E w v hi hr=>by
 simp only [aX] at hr ⊢
 obtain ⟨a,e,_⟩:=hr
 exact ⟨a,0,e,Nat.le_refl _,Nat.zero_le _,by simp, .inl trivial⟩
theorem View.sl {k:Nat} {es ds:List AV} (h:aM σ (flat es) (flat ds)) (hl:es.length=ds.length) (hk:∀ d∈ds,d.size=k):View σ (.sl k es) (.sl k ds):=fun G own E w v hi hr=>by
 simp only [aX] at hr ⊢
 obtain ⟨a,cap,e,h1,h2,h3,h4⟩:=hr
 refine ⟨a,cap,by rw [<- hl];exact e,by rw [<- hl];exact h1,h2,hk, ?_⟩
 rcases h4 with h4 | ⟨b,o,ea,hb,hr⟩
 . left;subst h4;simpa using hl.symm
 . right;exact ⟨b,o,ea, .inl hb,dN.2 (h.Ea hi (dN.1 hr))⟩
theorem View.tsl {k:Nat} {es ds:List AV} (h:aM σ (flat es) (flat ds)) (hl:es.length=ds.length) (hk:∀ d∈ds,d.size=k):View σ (.tsl k es) (.sl k ds):=fun G own E w v hi hr=>by
 simp only [aX] at hr ⊢
 obtain ⟨a,e,h2,h3,h4⟩:=hr
 refine ⟨a,es.length,by rw [<- hl];exact e,by rw [<- hl];exact Nat.le_refl _,h2,hk, ?_⟩
 rcases h4 with h4 | ⟨b,o,ea,hb,hr⟩
 . left;subst h4;simpa using hl.symm
 . right;exact ⟨b,o,ea, .inl hb,dN.2 (h.Ea hi (dN.1 hr))⟩
theorem View.osl {id:Id} {bk:dA} {k off len:Nat} {t:Bool} {ds:List AV} (hσ : σ id=some bk) (hk:bk.k=k) (hle:off+len<=bk.els.length)
   (h:aM σ (flat ((bk.els.drop off).take len)) (flat ds)) (hl:ds.length=len) (hkd:∀ d∈ds,d.size=k):View σ (.osl id k off len t) (.sl k ds):=fun G own E w v hi hr=>by
 obtain ⟨g,N,cur,ty,hB⟩:=hi.blk id bk hσ
 simp only [aX] at hr ⊢
 obtain ⟨g',N',cap,hm,e,h1,h2,h3,_⟩:=hr
 rw [hB.μ] at hm
 simp only [Option.some.injEq,Prod.mk.injEq] at hm
 obtain ⟨rfl,_,rfl⟩:=hm
 refine ⟨_,cap,by rw [hl];exact e,by rw [hl];exact h1,by omega,hkd, .inr ⟨g,off*k,rfl, .inr ⟨id,bk,bk.k,N,hσ,hB.μ⟩, ?_⟩⟩
 refine dN.2 (h.Ea hi ?_)
 have:=qS (l:=off) (r:=off+len) hB.k hB.row (by omega) hle
 rw [Nat.zero_add,hk] at this
 have e2:(bk.els.take (off+len)).drop off=(bk.els.drop off).take len:=by rw [List.drop_take];congr 1;omega
 rwa [e2] at this
def VP (P:Program) (G:Nat->Option (List AV)) (f:FuncId) (args:List AV) (r:AV):Prop :=
 (∃ fn,P.funcs[f]? = some fn/\(fn.name == "runtime.NumGoroutine")=false/\fn.body.isSome=true) /\
 ∀ w vs ok,Inv G (fun k=>w.heap.size<=k) ⟨fun _=>none,ok⟩ w (fun _=>none)->bf ⟨fun _=>none,ok⟩ w args vs ->
   Calls P f vs.toArray w fun e w'=>∃ v ok',e = .returned v/\Adv (fun k=>w.heap.size<=k) ⟨fun _=>none,ok⟩ ⟨fun _=>none,ok'⟩ w w'/\(∀ b,ok' b->b<w'.heap.size)/\aX ⟨fun _=>none,ok'⟩ w' r v
theorem bc.OT {f:FuncId} {args:List AV} {r:AV} (h:VP P G f args r) (hp:∀ c∈args,aa c) (p:Id):bc P G f args p [] { val:=r }:=by
 refine ⟨h.1,fun own E w σ vs _ hi hr hμ => ?_⟩
 have QT:Inv G (fun k=>w.heap.size<=k) ⟨fun _=>none,E.ok⟩ w (fun _=>none):=⟨hi.okb,fun id bk h=>by simp at h,fun i j x y h=>absurd rfl h,hi.glob,fun k hk=>hk⟩
 refine (h.2 w vs E.ok QT (aa.ux hp hr)).mono fun e w' he => ?_
 obtain ⟨v,ok',rfl,had,gP,hv⟩:=he
 have ic:Adv own E ⟨E.μ,ok'⟩ w w' :=
   ⟨⟨fun _ _ h=>h,had.step.ok,had.step.same⟩,had.os,had.tape,had.output,had.size,fun k hk _=>had.block k hk (by omega),fun b hb=>(had.V9 b hb).imp id fun h=>hi.new b h⟩
 refine ⟨v,⟨E.μ,ok'⟩,rfl,ic, ?_, ?_,fun _ _=>rfl⟩
 . refine hi.keep ic rfl gP fun id bk g N hs hm => ?_
   obtain ⟨g',N',cur,ty,hB⟩:=hi.blk id bk hs
   rw [hB.μ] at hm
   simp only [Option.some.injEq,Prod.mk.injEq] at hm
   obtain ⟨rfl,_,rfl⟩:=hm
   have hg:=gJ hB.heap
   exact ⟨had.block _ hg (by omega),fun hf hb=>(had.V9 _ hb).elim (hB.no hf) (fun h=>by omega)⟩
 . exact aX.keep (⟨fun _ _ h=>by simp at h,fun _ h=>h,fun _ _=>rfl⟩:Step ⟨fun _=>none,ok'⟩ ⟨E.μ,ok'⟩ w' w') r v hv
def bg (s:VS):ur->Option AV
 | .tmp t=>some (s.t.getD t (.tup []))
 | .cell x agg n=>(jm s.σ agg n (s.t.getD x (.tup []))).map (·.val)
def a8 (rs:List ur) (s:VS):Option AV :=
 match rs.mapM (bg s) with
 | some [v]=>some v
 | some vs=>some (.tup vs)
 | none=>none
theorem KV {α β : Type} {f : α -> Sem β}:∀ (l:List α) (vs:List β),vs.length=l.length->(∀ (i:Nat) (a : α) (v : β),l[i]? = some a->vs[i]? = some v->(f a).run P w = .ok v w)->(l.mapM f).run P w = .ok vs w
 | [],vs,hl,_=>by
   have:vs=[]:=List.eq_nil_of_length_eq_zero hl
   subst this;rfl
 | a::l,[],hl,_=>by simp at hl
 | a::l,v::vs,hl,h=>by
   have h0:=h 0 a v rfl rfl
   have ih:=KV l vs (by simpa using hl) (fun i x y hx hy=>h (i+1) x y (by simpa using hx) (by simpa using hy))
   simp [List.mapM_cons,h0,ih]
theorem WU {π : Id} {s:VS} {a:Act} (hm:mz G π own E w s a) {rv:ResultVar} {vr:ur} (hc:SM P rv=some vr) {c:AV} (h:bg s vr=some c) :
   ∃ v,(match rv with | .tmp t=>(pure (a.tmps.getD t undef):Sem Value) | .cell x t=>do loadVar t (<- asAddr (a.tmps.getD x undef))).run P w = .ok v w/\aX E w c v:=by
 cases rv with
 | tmp t =>
   simp only [SM,Option.some.injEq] at hc;subst hc
   simp only [bg,Option.some.injEq] at h;subst h
   exact ⟨_,rfl,hm.frame.get t⟩
 | cell x t =>
   simp only [SM] at hc
   cases ha:o8 P t with
   | none=>simp [ha] at hc
   | some g =>
   cases EB:P.info? t with
   | none=>simp [ha,EB] at hc
   | some i =>
     simp only [ha,EB] at hc
     split at hc
     . simp only [Option.some.injEq] at hc;subst hc
       simp only [bg,Option.map_eq_some_iff] at h
       obtain ⟨r,hr,rfl⟩:=h
       obtain ⟨⟨v,h1,h2⟩,_,ad,had⟩:=H8 hm.inv ha EB (hm.frame.get x) hr
       refine ⟨v, ?_,h2⟩
       simp only []
       rw [had] at h1 ⊢
       simpa [Instr.loadAt,Instr.sureAddr,asAddr] using h1
     . simp at hc
theorem Eb {π : Id} {s:VS} {a:Act} (hm:mz G π own E w s a) {fn:Func} {rs:List ur} (hc:fn.results.toList.mapM (SM P)=some rs) {c:AV} (h:a8 rs s=some c) :
   ∃ v,(results fn a.tmps).run P w = .ok v w/\aX E w c v:=by
 unfold a8 at h
 cases hcs:rs.mapM (bg s) with
 | none=>simp [hcs] at h
 | some cs =>
   have hlen:cs.length=fn.results.toList.length:=by rw [hH hcs,hH hc]
   let F:ResultVar->Sem Value:=fun rv=>match rv with | .tmp t=>(pure (a.tmps.getD t undef):Sem Value) | .cell x t=>do loadVar t (<- asAddr (a.tmps.getD x undef))
   have hex:∀ j,j<cs.length->∃ v,(∀ rv,fn.results.toList[j]? = some rv->(F rv).run P w = .ok v w)/\∀ c,cs[j]? = some c->aX E w c v:=by
     intro j hj
     obtain ⟨vr,h1,h2⟩:=mapM_some_get hcs j cs[j] (by simp [hj])
     obtain ⟨rv,h3,h4⟩:=mapM_some_get hc j vr h1
     obtain ⟨v,h5,h6⟩:=WU hm h4 h2
     refine ⟨v,fun rv' FB => ?_,fun c hc => ?_⟩
     . rw [h3] at FB;simp only [Option.some.injEq] at FB;subst FB;exact h5
     . simp only [hj,List.getElem?_eq_getElem,Option.some.injEq] at hc;subst hc;exact h6
   let val:Nat->Value:=fun j=>if hj:j<cs.length then Classical.choose (hex j hj) else undef
   have hval:∀ j (hj:j<cs.length),(∀ rv,fn.results.toList[j]? = some rv->(F rv).run P w = .ok (val j) w)/\∀ c,cs[j]? = some c->aX E w c (val j):=by
     intro j hj
     simp only [val,hj,dif_pos]
     exact Classical.choose_spec (hex j hj)
   let vs:List Value:=(List.range cs.length).map val
   have xO:vs.length=cs.length:=by simp [vs]
   have hrun:(fn.results.toList.mapM F).run P w = .ok vs w:=by
     refine KV _ vs (by rw [xO,hlen]) fun i rv v FB hv => ?_
     have hi:i<cs.length:=by have:=(List.getElem?_eq_some_iff.1 hv).1;omega
     have:v=val i:=by simp [vs,hi] at hv;exact hv.symm
     subst this
     exact (hval i hi).1 rv FB
   have QU:bf E w cs vs:=bO.2 ⟨xO,fun j c hj=>by
     have yi:=(List.getElem?_eq_some_iff.1 hj).1
     exact ⟨val j,by simp [vs,yi],(hval j yi).2 c hj⟩⟩
   have KJ:(results fn a.tmps).run P w=(pure (if h:vs.toArray.size=1 then vs.toArray[0] else .tuple vs.toArray):Sem Value).run P w:=by
     unfold results
     rw [Array.mapM_eq_mapM_toList]
     simp only [Sem.run_bind,Sem.run_map]
     exact congrArg (fun x:Result (List Value)=>(x.andThen fun b w'=>Result.ok b.toArray w').andThen fun b w'=>Sem.run P (pure (if h:b.size=1 then b[0] else Value.tuple b)) w') hrun
   rw [KJ]
   refine ⟨_,rfl, ?_⟩
   simp only [hcs] at h
   split at h
   . rename_i c0 heq
     simp only [Option.some.injEq] at heq h
     subst h
     have js:vs.toArray.size=1:=by simp [xO,heq]
     rw [dif_pos js]
     rw [heq] at QU
     simp only [bf] at QU
     obtain ⟨v,rest,hv,h1,rfl⟩:=QU
     simpa [hv] using h1
   . rename_i Bw hne heq
     simp only [Option.some.injEq] at heq h
     subst h;subst heq
     have js : ¬ vs.toArray.size=1:=by
       intro e
       simp [xO] at e
       obtain ⟨x,hx⟩:=List.length_eq_one_iff.1 e
       exact hne x (by rw [hx])
     rw [dif_neg js]
     simp only [aX]
     exact ⟨_,rfl,by simpa using QU⟩
   . simp at *
theorem VP.Ti {f:FuncId} {fn:Func} {vf:aJ} (hf:P.funcs[f]? = some fn) (hc:H4 P fn=some vf) {args:List AV} {r:AV}
   (h:VW P G [] vf.body (fun e s'=>(e = .normal∨e = .ret)/\∃ r0,a8 vf.results s'=some r0/\View s'.σ r0 r) ⟨args++List.replicate (vf.nt-args.length) (.tup []),fun _=>none,0⟩):VP P G f args r:=by
 unfold H4 at hc
 split at hc
 . simp at hc
 . rename_i uv
   split at hc
   . rename_i c rs hb S2
     simp only [Option.map_eq_some_iff] at hc
     obtain ⟨vb,hvb,rfl⟩:=hc
     refine ⟨⟨fn,hf,by simpa using uv,by simp [hb]⟩,fun w vs ok hi hr => ?_⟩
     refine calls_of_wp hf hb ?_
     have hal:vs.length=args.length:=bf.len hr
     have hm:mz G [] (fun k=>w.heap.size<=k) ⟨fun _=>none,ok⟩ w ⟨args++List.replicate (fn.ntmps-args.length) (.tup []),fun _=>none,0⟩
         { tmps:=vs.toArray++Array.replicate (fn.ntmps-vs.toArray.size) undef,defers:=[] }:=by
       refine ⟨?_,hi,fun _ _ _=>rfl,rfl⟩
       show bf _ w _ _
       simp only [Array.toList_append,Array.toList_replicate,List.size_toArray,hal]
       refine bf.append hr (bO.2 ⟨by simp,fun j c hj => ?_⟩)
       have yi:j<fn.ntmps-args.length:=by have:=(List.getElem?_eq_some_iff.1 hj).1;simpa using this
       simp only [List.getElem?_replicate,yi,if_true,Option.some.injEq] at hj ⊢
       subst hj
       exact ⟨undef,rfl,by simp only [aX,undef];exact ⟨#[],rfl,by simp [bf]⟩⟩
     refine h c hvb _ _ w _ _ hm ?_
     intro e s' E' w' a' hq had qH
     obtain ⟨he,r0,hr0,mV⟩:=hq
     obtain ⟨v,qW,yl⟩:=Eb qH S2 hr0
     have fin:∃ v,(results fn a'.tmps).run P w' = .ok v w'/\∃ v' ok',Ending.returned v = .returned v'/\Adv (fun k=>w.heap.size<=k) ⟨fun _=>none,ok⟩ ⟨fun _=>none,ok'⟩ w w'/\(∀ b,ok' b->b<w'.heap.size)/\aX ⟨fun _=>none,ok'⟩ w' r v':=by
       refine ⟨v,qW,v,(E'.jU s'.σ).ok,rfl, ?_, ?_, ?_⟩
       . refine ⟨⟨fun _ _ h=>by simp at h,fun b hb => .inl (had.step.ok b hb),had.step.same⟩,had.os,had.tape,had.output,had.size,had.block, ?_⟩
         rintro b (hb | ⟨id,bk,k,N,hs,hmu⟩)
         . exact had.V9 b hb
         . obtain ⟨g,N',cur,ty,hB⟩:=qH.inv.blk id bk hs
           rw [hB.μ] at hmu
           simp only [Option.some.injEq,Prod.mk.injEq] at hmu
           right;rw [<- hmu.1];exact hB.own
       . rintro b (hb | ⟨id,bk,k,N,hs,hmu⟩)
         . exact qH.inv.okb b hb
         . obtain ⟨g,N',cur,ty,hB⟩:=qH.inv.blk id bk hs
           rw [hB.μ] at hmu
           simp only [Option.some.injEq,Prod.mk.injEq] at hmu
           rw [<- hmu.1];exact gJ hB.heap
       . exact mV G _ E' w' v qH.inv yl
     rcases he with rfl | rfl
     . exact ⟨qH.defers,fin⟩
     . exact ⟨qH.defers,fin⟩
   . simp at hc
end
end Go.VL
end

section
namespace Go.VL
section
variable {P:Program} {G:Nat->Option (List AV)} {π : Id} {Q:cd->VS->Prop} {s:VS}
def Fg:List AV->List AV->Prop
 | [],[]=>True
 | c::cs,d::ds=>(d = .top∨d=c)/\Fg cs ds
 | _,_=>False
theorem Fg.rep {E:Env} {w:World}:∀ {cs ds:List AV} {vs:List Value},Fg cs ds->bf E w cs vs->bf E w ds vs
 | [],[],_,_,h=>h
 | c::cs,d::ds,vs,hf,h=>by
   simp only [Fg] at hf
   simp only [bf] at h ⊢
   obtain ⟨v,rest,e,h1,h2⟩:=h
   refine ⟨v,rest,e, ?_,Fg.rep hf.2 h2⟩
   rcases hf.1 with rfl | rfl
   . simp [aX]
   . exact h1
 | [],_::_,_,h,_=>by simp [Fg] at h
 | _::_,[],_,h,_=>by simp [Fg] at h
theorem Wk.forget {t t':List AV} {σ σ':ah} {n n':Nat} (ht:Fg t t') (hs:∀ id, σ' id=none ∨ σ' id = σ id) (hn:n<=n'):Wk G π ⟨t, σ,n⟩ ⟨t', σ',n'⟩ :=
 fun own E w _ hm=>⟨E,mL.refl own π E w,ht.rep hm.frame,hm.inv.sub hs,hm.free.mono hn,hm.defers⟩
theorem Wk.slots {t t':List AV} {σ : ah} {n n':Nat} (ht:Fg t t') (hn:n<=n'):Wk G π ⟨t, σ,n⟩ ⟨t', σ,n'⟩:=Wk.forget ht (fun _ => .inr rfl) hn
def b9 (P:Program) (G:Nat->Option (List AV)) (π : Id) (x:cB) (Q:cd->VS->Prop):Nat->VS->Prop
 | 0,_=>False
 | n+1,s=>VW P G π x (Then (b9 P G π x Q n) Q) s
theorem VW.rounds {x:cB} (n:Nat) (h:b9 P G π x Q n s):VW P G π (.loop x) Q s:=by
 intro c hc own E w a R hm hR
 cases c<;>simp only [gK,Option.some.injEq,reduceCtorEq] at hc
 case loop cb =>
   cases h1:gK P cb with
   | none=>simp [h1] at hc
   | some vb =>
     simp only [h1,Option.map_some,Option.some.injEq,cB.loop.injEq] at hc
     subst hc
     refine wp_loop_rounds n ?_
     have key:∀ n s E2 w2 a2,b9 P G π vb Q n s->mL own π E E2 w w2->mz G π own E2 w2 s a2->Code.rounds P cb R n a2 w2:=by
       intro n
       induction n with
       | zero=>intro s E2 w2 a2 h _ _;exact h.elim
       | succ n ih =>
         intro s E2 w2 a2 h ad hm
         refine h cb h1 own E2 w2 a2 _ hm ?_
         intro e s' E' w' a' hq had qH
         cases e with
         | normal=>exact ih s' E' w' a' hq (ad.trans had) qH
         | exit id=>exact hR (.exit id) s' E' w' a' hq (ad.trans had) qH
         | ret=>exact hR .ret s' E' w' a' hq (ad.trans had) qH
     exact key n s E w a h (mL.refl own π E w) hm
 case region=>exfalso;revert hc;unfold my;(repeat' split)<;>simp
 all_goals (exfalso;revert hc;(repeat' split)<;>simp)
end
end Go.VL
end

section
namespace Go.VL
def gD.tg {α : Type}:gD α -> Bool
 | .call _ _=>true
 | _=>false
def Ip (G:Nat->Option (List AV)) (σ : ah) (p:Id) (d:Option Nat) (op:gD bd) (g:Option (Nat × Bool)) (t:List AV):Option (List AV × eT × ah) :=
 match e7 t g with
 | none=>none
 | some false=>some (gg t d (.tup []),{ val := .tup [] }, σ)
 | some true=>match b8 σ p (op.map (bd.ev G t)) with
   | some r=>some (gg t d r.val,r, σ.app r.up)
   | none=>none
section
variable (P:Program) (G:Nat->Option (List AV)) (π : Id)
def vs (base:Nat) (Q:cd->VS->Prop) (n:Nat) (os:List bA) (i:Nat) (t:List AV) (σ : ah):Prop :=
 BD P G π base (fun t σ => Q .normal ⟨t, σ,n⟩) os i t σ
def vd (base:Nat) (Q:cd->VS->Prop) (n:Nat) (ps:List (Nat × Nat)) (os:List bA) (i:Nat) (acc:List eT) (t:List AV) (σ : ah):Prop :=
 BF P G π base (fun rs t σ => ab rs ps/\Q .normal ⟨t, σ,n⟩) os i acc t σ
def ac7 (base:Nat) (Q:cd->VS->Prop) (n:Nat) (os:List bA) (i:Nat):Option (List AV × eT × ah)->Prop
 | some (t,_, σ)=>vs P G π base Q n os i t σ
 | none=>False
def ac8 (base:Nat) (Q:cd->VS->Prop) (n:Nat) (ps:List (Nat × Nat)) (os:List bA) (i:Nat) (acc:List eT):Option (List AV × eT × ah)->Prop
 | some (t,r, σ)=>vd P G π base Q n ps os i (r::acc) t σ
 | none=>False
def yv (base:Nat) (Q:cd->VS->Prop) (n:Nat) (d:Option Nat) (os:List bA) (i:Nat) (t:List AV) (σ : ah) (f:FuncId) (args:List AV):Prop :=
 ∃ S r,bc P G f args ((base+i) :: π) S r/\(∀ x∈S, σ x.1=some x.2)/\(∀ x∈S,x.1∈r.rd)/\vs P G π base Q n os (i+1) (gg t d r.val) (σ.app r.up)
def Dd (base:Nat) (Q:cd->VS->Prop) (n:Nat) (ps:List (Nat × Nat)) (d:Option Nat) (os:List bA) (i:Nat) (acc:List eT) (t:List AV) (σ : ah) (f:FuncId) (args:List AV):Prop :=
 ∃ S r,bc P G f args ((base+i) :: π) S r/\(∀ x∈S, σ x.1=some x.2)/\(∀ x∈S,x.1∈r.rd)/\vd P G π base Q n ps os (i+1) (r::acc) (gg t d r.val) (σ.app r.up)
def OU (base:Nat) (Q:cd->VS->Prop) (n:Nat) (d:Option Nat) (os:List bA) (i:Nat) (t:List AV) (σ : ah):Option Bool->AV->List AV->Prop
 | some true, .fn (.func f) first cap,l=>yv P G π base Q n d os i t σ f (first++l++cap)
 | some false,_,_=>vs P G π base Q n os (i+1) (gg t d (.tup [])) σ
 | _,_,_=>False
def OV (base:Nat) (Q:cd->VS->Prop) (n:Nat) (ps:List (Nat × Nat)) (d:Option Nat) (os:List bA) (i:Nat) (acc:List eT) (t:List AV) (σ : ah):Option Bool->AV->List AV->Prop
 | some true, .fn (.func f) first cap,l=>Dd P G π base Q n ps d os i acc t σ f (first++l++cap)
 | some false,_,_=>vd P G π base Q n ps os (i+1) ({ val := .tup [] }::acc) (gg t d (.tup [])) σ
 | _,_,_=>False
variable {P} {G} {π}
variable {base:Nat} {Q:cd->VS->Prop} {n:Nat} {ps:List (Nat × Nat)} {d:Option Nat} {g:Option (Nat × Bool)} {os:List bA} {i:Nat} {acc:List eT} {t:List AV} {σ : ah}
theorem Tj:vs P G π base Q n [] i t σ = Q .normal ⟨t, σ,n⟩:=(rfl)
theorem Tk:vd P G π base Q n ps [] i acc t σ = (ab acc.reverse ps/\Q .normal ⟨t, σ,n⟩):=(rfl)
theorem uy {σ : ah} {p:Id} {op:gD AV} {K:eT->Prop} (h:op.tg=false):yq P G σ p op K=(match b8 σ p op with | some r=>K r | none=>False):=by
 cases op<;>first | rfl | simp [gD.tg] at h
theorem FQ {op:gD bd} {f:bd->AV}:(op.map f).tg=op.tg:=by cases op<;>rfl
theorem ac9 {op:gD bd} (h:op.tg=false):vs P G π base Q n (⟨d,op,g⟩::os) i t σ = ac7 P G π base Q n os (i+1) (Ip G σ ((base+i) :: π) d op g t):=by
 unfold vs
 simp only [BD,Ip]
 cases hw:e7 t g with
 | none=>rfl
 | some b =>
   cases b with
   | false=>rfl
   | true =>
     simp only []
     rw [uy (by rw [FQ];exact h)]
     cases b8 σ ((base+i) :: π) (op.map (bd.ev G t))<;>rfl
theorem ada {op:gD bd} (h:op.tg=false):vd P G π base Q n ps (⟨d,op,g⟩::os) i acc t σ = ac8 P G π base Q n ps os (i+1) acc (Ip G σ ((base+i) :: π) d op g t):=by
 unfold vd
 simp only [BF,Ip]
 cases hw:e7 t g with
 | none=>rfl
 | some b =>
   cases b with
   | false=>rfl
   | true =>
     simp only []
     rw [uy (by rw [FQ];exact h)]
     cases b8 σ ((base+i) :: π) (op.map (bd.ev G t))<;>rfl
theorem WV {f:bd} {l:List bd}:vs P G π base Q n (⟨d, .call f l,g⟩::os) i t σ = OU P G π base Q n d os i t σ (e7 t g) (f.ev G t) (l.map (bd.ev G t)):=by
 unfold vs OU
 simp only [BD]
 cases hw:e7 t g with
 | none=>rfl
 | some b =>
   cases b with
   | false=>rfl
   | true =>
     simp only [gD.map,yq]
     cases hf:f.ev G t<;>try rfl
     rename_i fn a c
     cases fn<;>rfl
theorem WW {f:bd} {l:List bd}:vd P G π base Q n ps (⟨d, .call f l,g⟩::os) i acc t σ = OV P G π base Q n ps d os i acc t σ (e7 t g) (f.ev G t) (l.map (bd.ev G t)):=by
 unfold vd OV
 simp only [BF]
 cases hw:e7 t g with
 | none=>rfl
 | some b =>
   cases b with
   | false=>rfl
   | true =>
     simp only [gD.map,yq]
     cases hf:f.ev G t<;>try rfl
     rename_i fn a c
     cases fn<;>rfl
theorem FR {f:FuncId} {first cap l:List AV}:OU P G π base Q n d os i t σ (some true) (.fn (.func f) first cap) l=yv P G π base Q n d os i t σ f (first++l++cap):=(rfl)
theorem FT {f:FuncId} {first cap l:List AV}:OV P G π base Q n ps d os i acc t σ (some true) (.fn (.func f) first cap) l=Dd P G π base Q n ps d os i acc t σ f (first++l++cap):=(rfl)
theorem ao {f:FuncId} {args:List AV} {r:AV} (h:VP P G f args r) (hp:∀ c∈args,aa c) (k:vs P G π base Q n os (i+1) (gg t d r) σ):yv P G π base Q n d os i t σ f args :=
 ⟨[],{ val:=r },bc.OT h hp _,by simp,by simp,k⟩
theorem ay {f:FuncId} {args:List AV} {r:AV} (h:VP P G f args r) (hp:∀ c∈args,aa c) (k:vd P G π base Q n ps os (i+1) ({ val:=r }::acc) (gg t d r) σ):Dd P G π base Q n ps d os i acc t σ f args :=
 ⟨[],{ val:=r },bc.OT h hp _,by simp,by simp,k⟩
def KW (P:Program) (G:Nat->Option (List AV)) (π : Id) (x y:cB) (Q:cd->VS->Prop) (s:VS):AV->Prop
 | .bool b=>if b then xQ P G π x Q s else xQ P G π y Q s
 | .anyb=>xQ P G π x Q s/\xQ P G π y Q s
 | _=>False
theorem FU {x y:cB} {s:VS}:KW P G π x y Q s (.bool true)=xQ P G π x Q s:=(rfl)
theorem Ec {x y:cB} {s:VS}:KW P G π x y Q s (.bool false)=xQ P G π y Q s:=(rfl)
theorem Iq {x y:cB} {s:VS}:KW P G π x y Q s .anyb=(xQ P G π x Q s/\xQ P G π y Q s):=(rfl)
theorem KX {s:VS}:xQ P G π .skip Q s=Q .normal s:=(rfl)
theorem FV {os:List bA} {n:Nat}:xQ P G π (.reg none os) Q ⟨t, σ,n⟩=vs P G π n Q (n+os.length) os 0 t σ := (rfl)
theorem FW {os:List bA} {n:Nat}:xQ P G π (.reg (some ps) os) Q ⟨t, σ,n⟩=vd P G π n Q (n+os.length) ps os 0 [] t σ := (rfl)
theorem OW {x y:cB} {s:VS}:xQ P G π (.seq x y) Q s=xQ P G π x (Then (xQ P G π y Q) Q) s:=(rfl)
theorem KY {c:bd} {x y:cB} {n:Nat}:xQ P G π (.cond c x y) Q ⟨t, σ,n⟩=KW P G π x y Q ⟨t, σ,n⟩ (c.ev G t):=by
 simp only [xQ,KW]<;>cases c.ev G t<;>rfl
theorem Ir {id:Nat} {x:cB} {s:VS}:xQ P G π (.block id x) Q s=xQ P G π x (QS id Q) s:=(rfl)
theorem az {x:cB} {s:VS}:xQ P G π (.loop x) Q s=VW P G π (.loop x) Q s:=(rfl)
theorem KZ {id:Nat} {s:VS}:xQ P G π (.exit id) Q s=Q (.exit id) s:=(rfl)
theorem OX {s:VS}:xQ P G π .ret Q s=Q .ret s:=(rfl)
def QW (rs:List ur) (r:AV) (e:cd) (s:VS):Prop:=(e = .normal∨e = .ret)/\∃ r0,a8 rs s=some r0/\View s.σ r0 r
theorem ax {rs:List ur} {r:AV} {s:VS}:QW rs r .ret s=∃ r0,a8 rs s=some r0/\View s.σ r0 r:=by simp [QW]
theorem Ed {rs:List ur} {r:AV} {s:VS}:QW rs r .normal s=∃ r0,a8 rs s=some r0/\View s.σ r0 r:=by simp [QW]
def Is {α : Type} (G:Nat->Option (List AV)) (π : Id) (st : α -> VS) (Pr : α -> Prop) (m : α -> Nat) (a : α) (Q:cd->VS->Prop):cd->VS->Prop
 | .normal,s'=>∃ a',Pr a'/\m a'<m a/\Wk G π s' (st a')
 | .exit i,s'=>Q (.exit i) s'
 | .ret,s'=>Q .ret s'
theorem BM {α : Type} {st : α -> VS} {Pr : α -> Prop} {m : α -> Nat} {a : α} {s':VS}:Is G π st Pr m a Q .normal s'=∃ a',Pr a'/\m a'<m a/\Wk G π s' (st a'):=(rfl)
theorem FX {α : Type} {st : α -> VS} {Pr : α -> Prop} {m : α -> Nat} {a : α} {s':VS} {j:Nat}:Is G π st Pr m a Q (.exit j) s'=Q (.exit j) s':=(rfl)
theorem Iu {α : Type} {st : α -> VS} {Pr : α -> Prop} {m : α -> Nat} {a : α} {s':VS}:Is G π st Pr m a Q .ret s'=Q .ret s':=(rfl)
theorem VW.dU {α : Type} {x:cB} {s:VS} (st : α -> VS) (Pr : α -> Prop) (m : α -> Nat) (x0 : α) (hw:Wk G π s (st x0)) (h0:Pr x0)
   (h:∀ a,Pr a->xQ P G π x (Is G π st Pr m a Q) (st a)):VW P G π (.loop x) Q s:=by
 refine VW.wk hw ?_
 intro c hc own E w a R hm hR
 cases c<;>simp only [gK,Option.some.injEq,reduceCtorEq] at hc
 case loop cb =>
   cases h1:gK P cb with
   | none=>simp [h1] at hc
   | some vb =>
     simp only [h1,Option.map_some,Option.some.injEq,cB.loop.injEq] at hc
     subst hc
     refine yt (α := α) (fun g a' w'=>Pr g/\∃ E',mL own π E E' w w'/\mz G π own E' w' (st g) a') m (x:=x0) ⟨h0,E,mL.refl own π E w,hm⟩ ?_
     rintro g a2 w2 ⟨hI2,E2,QR,BA⟩
     refine VW.of (h g hI2) cb h1 own E2 w2 a2 _ BA ?_
     intro e s' E' w' a' hq had qH
     cases e with
     | normal =>
       obtain ⟨g',hI3,hlt,hw3⟩:=hq
       obtain ⟨E3,ad3,hm3⟩:=hw3 own E' w' a' qH
       exact ⟨g',⟨hI3,E3,(QR.trans had).trans ad3,hm3⟩,hlt⟩
     | exit id=>exact hR (.exit id) s' E' w' a' hq (QR.trans had) qH
     | ret=>exact hR .ret s' E' w' a' hq (QR.trans had) qH
 case region=>exfalso;revert hc;unfold my;(repeat' split)<;>simp
 all_goals (exfalso;revert hc;(repeat' split)<;>simp)
theorem VP.of {f:FuncId} {fn:Func} {vf:aJ} (hf:P.funcs[f]? = some fn) (hc:H4 P fn=some vf) {args:List AV} {r:AV}
   (h:xQ P G [] vf.body (QW vf.results r) ⟨args++List.replicate (vf.nt-args.length) (.tup []),fun _=>none,0⟩):VP P G f args r :=
 VP.Ti hf hc (VW.of h)
end
end Go.VL
end

section
namespace Go.VL
def ah.of (S:List (Id × dA)):ah:=fun i=>S.lookup i
theorem il {S:List (Id × dA)} {i:Id} {b:dA}:S.lookup i=some b->(i,b)∈S:=by
 induction S with
 | nil=>intro h;simp at h
 | cons x S ih =>
   intro h
   obtain ⟨j,c⟩:=x
   simp only [List.lookup_cons] at h
   split at h
   . rename_i he
     have:i=j:=by simpa using he
     subst this
     simp only [Option.some.injEq] at h;subst h;simp
   . exact List.mem_cons_of_mem _ (ih h)
theorem ah.vQ {S:List (Id × dA)} {σ : ah} (h:∀ x∈S, σ x.1=some x.2) (i:Id):ah.of S i=none∨ah.of S i = σ i:=by
 cases hl:S.lookup i with
 | none=>exact .inl hl
 | some b=>right;show S.lookup i = σ i;rw [hl];exact (h _ (il hl)).symm
theorem ah.aal (up:List (Id × Option dA)) (σ σ':ah) (i:Id) (h:(∃ x∈up,x.1=i) ∨ σ i = σ' i) : σ.app up i = σ'.app up i:=by
 induction up generalizing σ σ' with
 | nil =>
   rcases h with ⟨x,hx,_⟩ | h
   . simp at hx
   . exact h
 | cons x up ih =>
   obtain ⟨j,b⟩:=x
   simp only [ah.app]
   apply ih
   by_cases hj:i=j
   . right;subst hj;simp [ah.put]
   . rcases h with ⟨y,hy,he⟩ | h
     . simp only [List.mem_cons] at hy
       rcases hy with rfl | hy
       . exact absurd he.symm hj
       . exact .inl ⟨y,hy,he⟩
     . right;simp [ah.put,hj,h]
theorem ah.Jw (up:List (Id × Option dA)) (σ : ah) (i:Id) (h:∀ x∈up,x.1≠i) : σ.app up i = σ i:=by
 induction up generalizing σ with
 | nil=>rfl
 | cons x up ih =>
   obtain ⟨j,b⟩:=x
   simp only [ah.app]
   rw [ih _ fun y hy=>h y (List.mem_cons_of_mem _ hy),ah.cD]
   exact fun e=>h (j,b) (by simp) e.symm
section
variable {P:Program} {G:Nat->Option (List AV)}
def Fin (G:Nat->Option (List AV)) (p:Id) (S:List (Id × dA)) (σ':ah) (r0:AV) (r:eT):Prop :=
 ∀ own E w v,Inv G own E w σ'->aX E w r0 v->E.μ p=none->∃ E',mL own p E E' w w/\Inv G own E' w ((ah.of S).app r.up)/\aX E' w r.val v
def QX (G:Nat->Option (List AV)) (p:Id) (S:List (Id × dA)) (rs:List ur) (r:eT) (e:cd) (s:VS):Prop :=
 (e = .normal∨e = .ret)/\∃ r0,a8 rs s=some r0/\Fin G p S s.σ r0 r
theorem bc.YX {f:FuncId} {fn:Func} {vf:aJ} (hf:P.funcs[f]? = some fn) (hc:H4 P fn=some vf) {args:List AV} {p:Id} {S:List (Id × dA)} {r:eT}
   (h:VW P G p vf.body (QX G p S vf.results r) ⟨args++List.replicate (vf.nt-args.length) (.tup []),ah.of S,0⟩):bc P G f args p S r:=by
 unfold H4 at hc
 split at hc
 . simp at hc
 . rename_i uv
   split at hc
   . rename_i c rs hb S2
     simp only [Option.map_eq_some_iff] at hc
     obtain ⟨vb,hvb,rfl⟩:=hc
     refine ⟨⟨fn,hf,by simpa using uv,by simp [hb]⟩,fun own E w σ vs hS hi hr hμ => ?_⟩
     refine calls_of_wp hf hb ?_
     have hal:vs.length=args.length:=bf.len hr
     let HA:Nat->Prop:=fun g=>(∃ x∈S,∃ y,E.μ x.1=some y/\y.1=g)∨w.heap.size<=g
     have FG:∀ i,ah.of S i=none∨ah.of S i = σ i:=ah.vQ hS
     have aam:∀ g,HA g->own g:=by
       rintro g (⟨x,hx,y,hy,rfl⟩ | hg)
       . obtain ⟨g,N,cur,ty,hB⟩:=hi.blk _ _ (hS x hx)
         have:=hB.μ.symm.trans hy
         simp only [Option.some.injEq] at this
         subst this
         exact hB.own
       . exact hi.new g hg
     have QT:Inv G HA E w (ah.of S):=by
       refine ⟨hi.okb,fun id bk hs => ?_,(hi.sub FG).inj,hi.glob,fun k hk => .inr hk⟩
       have hm:=il hs
       obtain ⟨g,N,cur,ty,hB⟩:=hi.blk _ _ (hS _ hm)
       exact ⟨g,N,cur,ty,hB.μ,hB.heap,hB.size,hB.len,hB.most, .inl ⟨_,hm,_,hB.μ,rfl⟩,hB.ok,hB.no,hB.k,hB.row⟩
     have hm:mz G p HA E w ⟨args++List.replicate (fn.ntmps-args.length) (.tup []),ah.of S,0⟩
         { tmps:=vs.toArray++Array.replicate (fn.ntmps-vs.toArray.size) undef,defers:=[] }:=by
       refine ⟨?_,QT,fun j hj _=>hμ j hj,rfl⟩
       show bf _ w _ _
       simp only [Array.toList_append,Array.toList_replicate,List.size_toArray,hal]
       refine bf.append hr (bO.2 ⟨by simp,fun j c hj => ?_⟩)
       have yi:j<fn.ntmps-args.length:=by have:=(List.getElem?_eq_some_iff.1 hj).1;simpa using this
       simp only [List.getElem?_replicate,yi,if_true,Option.some.injEq] at hj ⊢
       subst hj
       exact ⟨undef,rfl,by simp only [aX,undef];exact ⟨#[],rfl,by simp [bf]⟩⟩
     refine h c hvb HA E w _ _ hm ?_
     intro e s' E' w' a' hq had qH
     obtain ⟨he,r0,hr0,Jy⟩:=hq
     obtain ⟨v,qW,yl⟩:=Eb qH S2 hr0
     obtain ⟨E2,aaf,QD,hv3⟩:=Jy HA E' w' v qH.inv yl qH.free.self
     have ic:mL HA p E E2 w w':=had.trans aaf
     have adb:Adv own E E2 w w' :=
       ⟨ic.step,ic.os,ic.tape,ic.output,ic.size,fun k hk ho=>ic.block k hk fun h=>ho (aam k h),fun b hb=>(ic.V9 b hb).imp id (aam b)⟩
     -- a block of the caller that the function did not have
     have key:∀ i bk, σ i=some bk->ah.of S i=none->∀ g N cur ty,xA E own w i bk g N cur ty -> ¬ HA g:=by
       intro i bk hs hn g N cur ty hB
       rintro (⟨x,hx,y,hy,he⟩ | hg)
       . refine hi.inj x.1 i y (g,bk.k,N) (by simp [hS x hx]) (by simp [hs]) ?_ hy hB.μ he
         intro e
         have:=hS x hx
         have h1:(ah.of S) x.1≠none:=by
           show S.lookup x.1≠none
           intro hl
           rw [List.lookup_eq_none_iff] at hl
           have:=hl x hx
           simp at this
         rw [e] at h1
         exact h1 hn
       . have:=gJ hB.heap;omega
     have fin:∃ v',Ending.returned v = .returned v'/\lB G own E w σ p r v' E2 w':=by
       refine ⟨v,rfl,adb, ?_,hv3,ic.ids⟩
       -- the invariant of the caller's store
       have De:∀ i,(σ.app r.up i=(ah.of S).app r.up i)∨(σ.app r.up i = σ i/\(ah.of S i=none)):=by
         intro i
         by_cases h:(∃ x∈r.up,x.1=i) ∨ σ i=ah.of S i
         . exact .inl (ah.aal r.up σ (ah.of S) i h)
         . right
           have h1:∀ x∈r.up,x.1≠i:=fun x hx e=>h (.inl ⟨x,hx,e⟩)
           refine ⟨ah.Jw r.up σ i h1, ?_⟩
           rcases FG i with h2 | h2
           . exact h2
           . exact absurd (.inr h2.symm) h
       have hold:∀ i bk, σ i=some bk->ah.of S i=none->∃ g N cur ty,xA E own w i bk g N cur ty/\xA E2 own w' i bk g N cur ty /\ ¬ HA g:=by
         intro i bk hs hn
         obtain ⟨g,N,cur,ty,hB⟩:=hi.blk i bk hs
         have hno:=key i bk hs hn g N cur ty hB
         refine ⟨g,N,cur,ty,hB,hB.keep ic.step (ic.block g (gJ hB.heap) hno) (fun hf gP => ?_),hno⟩
         exact (ic.V9 g gP).elim (hB.no hf) hno
       refine ⟨QD.okb,fun i bk hs => ?_,fun i j x y p6 hj' hne hx hy => ?_,QD.glob,fun k hk=>hi.new k (Nat.le_trans ic.size hk)⟩
       . rcases De i with h1 | ⟨h1,h2⟩
         . rw [h1] at hs
           obtain ⟨g,N,cur,ty,hB⟩:=QD.blk i bk hs
           exact ⟨g,N,cur,ty,hB.μ,hB.heap,hB.size,hB.len,hB.most,aam g hB.own,hB.ok,hB.no,hB.k,hB.row⟩
         . rw [h1] at hs
           obtain ⟨g,N,cur,ty,_,hB,_⟩:=hold i bk hs h2
           exact ⟨g,N,cur,ty,hB⟩
       . have new:∀ i x, σ.app r.up i≠none -> σ.app r.up i=(ah.of S).app r.up i->E2.μ i=some x->HA x.1:=by
           intro i x hn he hx
           rw [he] at hn
           cases hb:(ah.of S).app r.up i with
           | none=>exact absurd hb hn
           | some bk =>
             obtain ⟨g,N,cur,ty,hB⟩:=QD.blk i bk hb
             have:=hB.μ.symm.trans hx
             simp only [Option.some.injEq] at this
             subst this
             exact hB.own
         have old:∀ i x, σ.app r.up i≠none -> σ.app r.up i = σ i->ah.of S i=none->E2.μ i=some x -> ¬ HA x.1:=by
           intro i x hn he hs hx
           rw [he] at hn
           cases hb : σ i with
           | none=>exact absurd hb hn
           | some bk =>
             obtain ⟨g,N,cur,ty,_,hB,hno⟩:=hold i bk hb hs
             have:=hB.μ.symm.trans hx
             simp only [Option.some.injEq] at this
             subst this
             exact hno
         rcases De i with h1 | ⟨h1,h2⟩<;>rcases De j with h3 | ⟨h3,h4⟩
         . exact QD.inj i j x y (h1▸p6) (h3▸hj') hne hx hy
         . intro e;exact old j y hj' h3 h4 hy (e▸new i x p6 h1 hx)
         . intro e;exact old i x p6 h1 h2 hx (e▸new j y hj' h3 hy)
         . have lift:∀ i x, σ.app r.up i≠none -> σ.app r.up i = σ i->ah.of S i=none->E2.μ i=some x->E.μ i=some x:=by
             intro i x hn he hs hx
             rw [he] at hn
             cases hb : σ i with
             | none=>exact absurd hb hn
             | some bk =>
               obtain ⟨g,N,cur,ty,hB,OR,hno⟩:=hold i bk hb hs
               rw [hB.μ, <- OR.μ,hx]
           exact hi.inj i j x y (h1▸p6) (h3▸hj') hne (lift i x p6 h1 h2 hx) (lift j y hj' h3 h4 hy)
     have ade:∃ v0,(results fn a'.tmps).run P w' = .ok v0 w'/\∃ v' E',Ending.returned v0 = .returned v'/\lB G own E w σ p r v' E' w':=by
       obtain ⟨v',h1,h2⟩:=fin
       exact ⟨v,qW,v',E2,h1,h2⟩
     rcases he with rfl | rfl
     . exact ⟨qH.defers,ade⟩
     . exact ⟨qH.defers,ade⟩
   . simp at hc
theorem Fin.same {p:Id} {S:List (Id × dA)} {σ':ah} {r0:AV} {r:eT} (hv:r.val=r0) (hs:∀ i,(ah.of S).app r.up i=none∨(ah.of S).app r.up i = σ' i):Fin G p S σ' r0 r :=
 fun own E w _ hi hr _=>⟨E,mL.refl own p E w,hi.sub hs,hv▸hr⟩
end
end Go.VL
end

section
namespace Go.VL
open Go.RowKit
theorem bc.Tl {P:Program} {G:Nat->Option (List AV)} {f:FuncId} {fn:Func} (hf:P.funcs[f]? = some fn) (uv:(fn.name == "runtime.NumGoroutine")=false) (hb:fn.body.isSome=true) {args:List AV} {p:Id} {S:List (Id × dA)} {val:AV} {rd:List Id}
   (h:∀ own E w σ vs,(∀ x∈S, σ x.1=some x.2)->Inv G own E w σ -> bf E w args vs->Calls P f vs.toArray w fun e w'=>∃ v,e = .returned v/\Below w.heap.size w w'/\OM val v) :
   bc P G f args p S { val,rd }:=by
 refine ⟨⟨fn,hf,uv,hb⟩,fun own E w σ vs hS hi hr _=>(h own E w σ vs hS hi hr).mono fun e w' he => ?_⟩
 obtain ⟨v,rfl,hB,hv⟩:=he
 have ic:Adv own E E w w':=⟨⟨fun _ _ h=>h,fun _ h=>h,fun b hb=>hB.block b (hi.okb b hb)⟩,hB.os,hB.tape,hB.output,hB.size,fun k hk _=>hB.block k hk,fun _ h => .inl h⟩
 refine ⟨v,E,rfl,ic, ?_,hv E w',fun _ _=>rfl⟩
 refine hi.keep ic rfl (fun b hb=>Nat.lt_of_lt_of_le (hi.okb b hb) hB.size) fun id bk g N hs hm => ?_
 obtain ⟨g',N',cur,ty,OR⟩:=hi.blk id bk hs
 rw [OR.μ] at hm
 simp only [Option.some.injEq,Prod.mk.injEq] at hm
 obtain ⟨rfl,_,rfl⟩:=hm
 exact ⟨hB.block _ (gJ OR.heap),OR.no⟩
theorem Tm {G:Nat->Option (List AV)} {own:Nat->Prop} {E:Env} {w:World} {σ : ah} (hi:Inv G own E w σ) {x:AV} {v:Value} (hx:aX E w x v) {k:IntKind} {zs:List Int} {rd:List Id} (h:gb σ 1 x=some (zs.map (AV.int k),rd)) :
   ∃ a cap,v = .slice a zs.length cap/\zs.length<=cap/\(zs=[]∨∃ b o,a=some ⟨b,o,none⟩/\b<w.heap.size/\∀ j,j<zs.length->w.cell? ⟨b,o+j,none⟩=some (.int k (zs[j]?.getD 0))):=by
 obtain ⟨_,a,cap,rfl,hle,hr⟩:=zI hi hx h
 refine ⟨a,cap,by simp,by simpa using hle, ?_⟩
 rcases hr with hr | ⟨b,o,rfl,hr⟩
 . left;simpa using hr
 . cases zs with
   | nil=>exact .inl rfl
   | cons z zs =>
     right
     have Fw:flat ((z::zs).map (AV.int k))=(z::zs).map (AV.int k):=by
       generalize z::zs=l
       induction l with
       | nil=>rfl
       | cons y l ih=>simp only [List.map_cons,flat,List.flatMap_cons,AV.cells] at ih ⊢;rw [ih];rfl
     rw [Fw] at hr
     have hc:∀ j,j<(z::zs).length->w.cell? ⟨b,o+j,none⟩=some (.int k ((z::zs)[j]?.getD 0)):=by
       intro j hj
       obtain ⟨v,h1,h2⟩:=hr j (.int k (z::zs)[j]) (by rw [List.getElem?_map,List.getElem?_eq_getElem hj];rfl)
       simp only [aX] at h2
       subst h2
       rw [h1,List.getElem?_eq_getElem hj];rfl
     refine ⟨b,o,rfl, ?_,hc⟩
     have:=hc 0 (by simp)
     cases hh:w.heap[b]? with
     | none=>simp [World.cell?,hh] at this
     | some ob=>exact (Array.getElem?_eq_some_iff.1 hh).1
end Go.VL
end

section
namespace Go.VL
def dA.fz (b:dA):dA:={ b with fr:=true }
def Df (S:List (Id × dA)):List (Id × Option dA):=S.map fun x=>(x.1,some x.2.fz)
open Classical in
theorem Jz {σ : ah} (i:Id):∀ (S:List (Id × dA)) (σ0:ah),(∀ x∈S, σ x.1=some x.2) -> σ0.app (Df S) i=if ∃ x∈S,x.1=i then (σ i).map dA.fz else σ0 i
 | [], σ0,_=>by simp [Df,ah.app]
 | x :: S, σ0,h=>by
   show ah.app (σ0.put x.1 (some x.2.fz)) (Df S) i=_
   rw [Jz i S _ fun y hy=>h y (List.mem_cons_of_mem _ hy)]
   by_cases h1:∃ y∈S,y.1=i
   . rw [if_pos h1,if_pos]
     obtain ⟨y,hy,e⟩:=h1
     exact ⟨y,List.mem_cons_of_mem _ hy,e⟩
   . rw [if_neg h1]
     by_cases h2:i=x.1
     . subst h2
       rw [if_pos ⟨x,by simp,rfl⟩,h x (by simp),ah.dE];rfl
     . rw [if_neg,ah.cD _ _ _ h2]
       rintro ⟨y,hy,e⟩
       rcases List.mem_cons.1 hy with rfl | hy
       . exact h2 e.symm
       . exact h1 ⟨y,hy,e⟩
theorem Dg {S:List (Id × dA)} {σ : ah} (hS:∀ x∈S, σ x.1=some x.2) {x:Id × dA} (hx:x∈S):ah.of S x.1=some x.2:=by
 cases hl:S.lookup x.1 with
 | none =>
   rw [List.lookup_eq_none_iff] at hl
   have:=hl x hx
   simp at this
 | some b =>
   have:=hS _ (il hl)
   rw [hS x hx] at this
   show S.lookup x.1=_
   rw [hl];exact this.symm
section
variable {P:Program} {G:Nat->Option (List AV)}
theorem Inv.jU {own:Nat->Prop} {E:Env} {w:World} {σ : ah} {S:List (Id × dA)} (hi:Inv G own E w σ) (hS:∀ x∈S, σ x.1=some x.2) :
   Inv G (fun k=>w.heap.size<=k) (E.jU (ah.of S)) w (fun _=>none) where
 okb := by
   rintro b (hb | ⟨id,bk,k,N,hs,hm⟩)
   . exact hi.okb b hb
   . obtain ⟨g,N',cur,ty,hB⟩:=hi.blk id bk (hS _ (il hs))
     rw [hB.μ] at hm
     simp only [Option.some.injEq,Prod.mk.injEq] at hm
     rw [<- hm.1];exact gJ hB.heap
 blk:=fun id bk h=>by simp at h
 inj:=fun i j x y h=>absurd rfl h
 glob:=fun g cs hg=>by
   obtain ⟨h1,h2⟩:=hi.glob g cs hg
   exact ⟨.inl h1,bu.keep (⟨fun _ _ h=>h,fun _ h => .inl h,fun _ _=>rfl⟩:Step E.bare (E.jU (ah.of S)).bare w w) rfl cs 0 h2⟩
 new:=fun k hk=>hk
theorem bc.JA {f:FuncId} {args lD:List AV} {r:AV} {p:Id} {S:List (Id × dA)} (h:VP P G f lD r) (hv:aM (ah.of S) args lD) :
   bc P G f args p S { val:=r,rd:=S.map (·.1),up:=Df S }:=by
 refine ⟨h.1,fun own E w σ vs hS hi hr hμ => ?_⟩
 have FC:=hv.ux (hi.sub (ah.vQ hS)) hr
 refine (h.2 w vs _ (hi.jU hS) FC).mono fun e w' he => ?_
 obtain ⟨v,ok',rfl,had,gP,hv'⟩:=he
 have ic:Adv own E ⟨E.μ,ok'⟩ w w':=by
   refine ⟨⟨fun _ _ h=>h,fun b hb=>had.step.ok b (.inl hb),fun b hb=>had.step.same b (.inl hb)⟩,had.os,had.tape,had.output,had.size,fun k hk _=>had.block k hk (by omega),fun b hb => ?_⟩
   rcases had.V9 b hb with (h1 | ⟨id,bk,k,N,hs,hm⟩) | h1
   . exact .inl h1
   . obtain ⟨g,N',cur,ty,hB⟩:=hi.blk id bk (hS _ (il hs))
     rw [hB.μ] at hm
     simp only [Option.some.injEq,Prod.mk.injEq] at hm
     rw [<- hm.1];exact .inr hB.own
   . exact .inr (hi.new b h1)
 refine ⟨v,⟨E.μ,ok'⟩,rfl,ic, ?_,aX.keep (⟨fun _ _ h=>by simp at h,fun _ h=>h,fun _ _=>rfl⟩:Step ⟨fun _=>none,ok'⟩ ⟨E.μ,ok'⟩ w' w') r v hv',fun _ _=>rfl⟩
 have Tn:=fun i=>Jz (σ := σ) i S σ hS
 refine ⟨gP,fun id bk hs => ?_,fun i j x y p6 hj' hne hx hy => ?_,fun g cs hg => ?_,fun k hk=>hi.new k (Nat.le_trans had.size hk)⟩
 . have eK : σ.app (Df S) id=some bk:=hs
   rw [Tn id] at eK
   split at eK
   . rename_i p9
     obtain ⟨x,hx,rfl⟩:=p9
     rw [hS x hx] at eK
     simp only [Option.map_some,Option.some.injEq] at eK
     subst eK
     obtain ⟨g,N,cur,ty,hB⟩:=hi.blk _ _ (hS x hx)
     have hb:=had.block g (gJ hB.heap) (by have:=gJ hB.heap;omega)
     exact ⟨g,N,cur,ty,hB.μ,hb.trans hB.heap,hB.size,hB.len,hB.most,hB.own,fun _=>had.step.ok g (.inr ⟨x.1,x.2,x.2.k,N,Dg hS hx,hB.μ⟩),fun hf=>by simp [dA.fz] at hf,hB.k,eY.keep ic.step hb hB.row⟩
   . rename_i aan
     obtain ⟨g,N,cur,ty,hB⟩:=hi.blk _ _ eK
     have hg:=gJ hB.heap
     refine ⟨g,N,cur,ty,hB.keep ic.step (had.block g hg (by omega)) fun hf hb => ?_⟩
     rcases had.V9 g hb with (h1 | ⟨D6,bk2,k2,N2,To,BA⟩) | h1
     . exact hB.no hf h1
     . have hm:=il To
       refine hi.inj id D6 _ _ (by simp [eK]) (by simp [hS _ hm]) ?_ hB.μ BA rfl
       rintro rfl
       exact aan ⟨_,hm,rfl⟩
     . omega
 . have keep:∀ i, σ.app (Df S) i≠none -> σ i≠none:=by
     intro i hn he
     apply hn
     rw [Tn i,he]
     split<;>rfl
   exact hi.inj i j x y (keep i p6) (keep j hj') hne hx hy
 . obtain ⟨h1,h2⟩:=hi.glob g cs hg
   exact ⟨ic.step.ok g h1,bu.keep ic.step.bare (ic.step.same g h1) cs 0 h2⟩
theorem bc.of_flat {f:FuncId} {args lD:List AV} {r:AV} {p:Id} {S:List (Id × dA)} (h:VP P G f lD r) (hv:aM (ah.of S) args lD) (hf:jy r) :
   bc P G f args p S { val:=r,rd:=S.map (·.1) }:=by
 refine ⟨h.1,fun own E w σ vs hS hi hr hμ => ?_⟩
 have FC:=hv.ux (hi.sub (ah.vQ hS)) hr
 refine (h.2 w vs _ (hi.jU hS) FC).mono fun e w' he => ?_
 obtain ⟨v,ok',rfl,had,gP,hv'⟩:=he
 have ic:Adv own E E w w':=⟨⟨fun _ _ h=>h,fun b hb=>hb,fun b hb=>had.step.same b (.inl hb)⟩,had.os,had.tape,had.output,had.size,fun k hk _=>had.block k hk (by omega),fun b hb => .inl hb⟩
 refine ⟨v,E,rfl,ic, ?_,hf _ _ _ _ _ hv',fun _ _=>rfl⟩
 refine hi.keep ic rfl (fun b hb=>Nat.lt_of_lt_of_le (hi.okb b hb) had.size) fun id bk g N hs hm => ?_
 obtain ⟨g',N',cur,ty,OR⟩:=hi.blk id bk hs
 rw [OR.μ] at hm
 simp only [Option.some.injEq,Prod.mk.injEq] at hm
 obtain ⟨rfl,_,rfl⟩:=hm
 have hg:=gJ OR.heap
 exact ⟨had.block _ hg (by omega),OR.no⟩
def YY (S:List (Id × dA)):List AV->List AV->Prop
 | [],[]=>True
 | c::cs,d::ds=>(d = .top∨d=c∨View (ah.of S) c d)/\YY S cs ds
 | _,_=>False
theorem YY.rep {own:Nat->Prop} {E:Env} {w:World} {S:List (Id × dA)} (hi:Inv G own E w (ah.of S)):∀ {cs ds:List AV} {vs:List Value},YY S cs ds->bf E w cs vs->bf ⟨E.μ,(E.jU (ah.of S)).ok⟩ w ds vs
 | [],[],_,_,h=>by simpa [bf] using h
 | c::cs,d::ds,vs,hf,h=>by
   simp only [YY] at hf
   simp only [bf] at h ⊢
   obtain ⟨v,rest,e,h1,h2⟩:=h
   refine ⟨v,rest,e, ?_,YY.rep hi hf.2 h2⟩
   rcases hf.1 with rfl | rfl | hv
   . simp [aX]
   . exact aX.keep (⟨fun _ _ h=>h,fun _ h => .inl h,fun _ _=>rfl⟩:Step E ⟨E.μ,(E.jU (ah.of S)).ok⟩ w w) _ v h1
   . exact aX.keep (⟨fun _ _ h=>by simp [Env.jU] at h,fun _ h=>h,fun _ _=>rfl⟩:Step (E.jU (ah.of S)) ⟨E.μ,(E.jU (ah.of S)).ok⟩ w w) _ v (hv _ _ _ _ _ hi h1)
 | [],_::_,_,h,_=>by simp [YY] at h
 | _::_,[],_,h,_=>by simp [YY] at h
theorem Wk.freeze {π : Id} {t t':List AV} {σ σ':ah} {n n':Nat} (S:List (Id × dA)) (hS:∀ x∈S, σ x.1=some x.2) (ht:YY S t t')
   (hs:∀ id, σ' id=none ∨ σ' id = σ.app (Df S) id) (hn:n<=n'):Wk G π ⟨t, σ,n⟩ ⟨t', σ',n'⟩:=fun own E w a hm=>by
 have hi:=hm.inv
 let E':Env:=⟨E.μ,(E.jU (ah.of S)).ok⟩
 have ic:Adv own E E' w w:=by
   refine ⟨⟨fun _ _ h=>h,fun b hb => .inl hb,fun b hb=>rfl⟩,rfl,rfl,rfl,Nat.le_refl _,fun k hk _=>rfl,fun b hb => ?_⟩
   rcases hb with h1 | ⟨id,bk,k,N,hs,hm⟩
   . exact .inl h1
   . obtain ⟨g,N',cur,ty,hB⟩:=hi.blk id bk (hS _ (il hs))
     rw [hB.μ] at hm
     simp only [Option.some.injEq,Prod.mk.injEq] at hm
     rw [<- hm.1];exact .inr hB.own
 refine ⟨E',⟨ic,fun _ _=>rfl⟩,ht.rep (hi.sub (ah.vQ hS)) hm.frame, ?_,hm.free.mono hn,hm.defers⟩
 refine Inv.sub (σ := σ.app (Df S)) ?_ hs
 have Tn:=fun i=>Jz (σ := σ) i S σ hS
 refine ⟨(hi.jU hS).okb,fun id bk hs => ?_,fun i j x y p6 hj' hne hx hy => ?_,fun g cs hg => ?_,hi.new⟩
 . have eK : σ.app (Df S) id=some bk:=hs
   rw [Tn id] at eK
   split at eK
   . rename_i p9
     obtain ⟨x,hx,rfl⟩:=p9
     rw [hS x hx] at eK
     simp only [Option.map_some,Option.some.injEq] at eK
     subst eK
     obtain ⟨g,N,cur,ty,hB⟩:=hi.blk _ _ (hS x hx)
     exact ⟨g,N,cur,ty,hB.μ,hB.heap,hB.size,hB.len,hB.most,hB.own,fun _ => .inr ⟨x.1,x.2,x.2.k,N,Dg hS hx,hB.μ⟩,fun hf=>by simp [dA.fz] at hf,hB.k,eY.keep ic.step rfl hB.row⟩
   . rename_i aan
     obtain ⟨g,N,cur,ty,hB⟩:=hi.blk _ _ eK
     have hg:=gJ hB.heap
     refine ⟨g,N,cur,ty,hB.keep ic.step rfl fun hf hb => ?_⟩
     rcases hb with h1 | ⟨D6,bk2,k2,N2,To,BA⟩
     . exact hB.no hf h1
     . have hm:=il To
       refine hi.inj id D6 _ _ (by simp [eK]) (by simp [hS _ hm]) ?_ hB.μ BA rfl
       rintro rfl
       exact aan ⟨_,hm,rfl⟩
 . have keep:∀ i, σ.app (Df S) i≠none -> σ i≠none:=by
     intro i hn he
     apply hn
     rw [Tn i,he]
     split<;>rfl
   exact hi.inj i j x y (keep i p6) (keep j hj') hne hx hy
 . obtain ⟨h1,h2⟩:=hi.glob g cs hg
   exact ⟨ic.step.ok g h1,bu.keep ic.step.bare (ic.step.same g h1) cs 0 h2⟩
end
end Go.VL
end

section
namespace Go.VL
section
variable {P:Program} {G:Nat->Option (List AV)}
theorem VP.WX {f:FuncId} {args:List AV} {r:eT} (h:bc P G f args [] [] r) (hf:jy r.val):VP P G f args r.val:=by
 refine ⟨h.1,fun w vs ok hi hr => ?_⟩
 refine (h.2 _ _ w _ vs (by simp) hi hr (fun _ _=>rfl)).mono fun e w' he => ?_
 obtain ⟨v,E',rfl,hp⟩:=he
 refine ⟨v,ok,rfl,⟨⟨fun _ _ h=>h,fun _ h=>h,hp.Hm.step.same⟩,hp.Hm.os,hp.Hm.tape,hp.Hm.output,hp.Hm.size,hp.Hm.block,fun _ h => .inl h⟩,fun b hb => ?_,hf _ _ _ _ _ hp.rep⟩
 exact Nat.lt_of_lt_of_le (hi.okb b hb) hp.Hm.size
end
end Go.VL
end

section
namespace Go.VL
def vw:AV->Bool->Option Bool
 | .bool b,want=>some (b==want)
 | .top,_=>none
 | .anyb,_=>none
 | _,_=>some false
theorem OY {b want:Bool}:vw (.bool b) want=some (b==want):=(rfl)
theorem Tp {l:List AV} {want:Bool}:vw (.tup l) want=some false:=(rfl)
section
variable (P:Program) (G:Nat->Option (List AV)) (π : Id)
def xB (base:Nat) (Q:cd->VS->Prop) (n:Nat) (d:Option Nat) (os:List bA) (i:Nat) (t:List AV) (σ : ah):Option eT->Prop
 | some r=>vs P G π base Q n os (i+1) (gg t d r.val) (σ.app r.up)
 | none=>False
def vsV (base:Nat) (Q:cd->VS->Prop) (n:Nat) (d:Option Nat) (os:List bA) (i:Nat) (t:List AV) (σ : ah):Option AV->Prop
 | some v=>vs P G π base Q n os (i+1) (gg t d v) σ
 | none=>False
def vsG (base:Nat) (Q:cd->VS->Prop) (n:Nat) (o:bA) (os:List bA) (i:Nat) (t:List AV) (σ : ah):Option Bool->Prop
 | some true=>vs P G π base Q n (⟨o.dst,o.op,none⟩::os) i t σ
 | some false=>vs P G π base Q n os (i+1) (gg t o.dst (.tup [])) σ
 | none=>False
def xC (base:Nat) (Q:cd->VS->Prop) (n:Nat) (ps:List (Nat × Nat)) (d:Option Nat) (os:List bA) (i:Nat) (acc:List eT) (t:List AV) (σ : ah):Option eT->Prop
 | some r=>vd P G π base Q n ps os (i+1) (r::acc) (gg t d r.val) (σ.app r.up)
 | none=>False
def vdV (base:Nat) (Q:cd->VS->Prop) (n:Nat) (ps:List (Nat × Nat)) (d:Option Nat) (os:List bA) (i:Nat) (acc:List eT) (t:List AV) (σ : ah):Option AV->Prop
 | some v=>vd P G π base Q n ps os (i+1) ({ val:=v }::acc) (gg t d v) σ
 | none=>False
def vdG (base:Nat) (Q:cd->VS->Prop) (n:Nat) (ps:List (Nat × Nat)) (o:bA) (os:List bA) (i:Nat) (acc:List eT) (t:List AV) (σ : ah):Option Bool->Prop
 | some true=>vd P G π base Q n ps (⟨o.dst,o.op,none⟩::os) i acc t σ
 | some false=>vd P G π base Q n ps os (i+1) ({ val := .tup [] }::acc) (gg t o.dst (.tup [])) σ
 | none=>False
variable {P} {G} {π}
variable {base:Nat} {Q:cd->VS->Prop} {n:Nat} {ps:List (Nat × Nat)} {d:Option Nat} {os:List bA} {i:Nat} {acc:List eT} {t:List AV} {σ : ah}
theorem FY {r:eT}:xB P G π base Q n d os i t σ (some r)=vs P G π base Q n os (i+1) (gg t d r.val) (σ.app r.up):=(rfl)
theorem K1 {v:AV}:vsV P G π base Q n d os i t σ (some v)=vs P G π base Q n os (i+1) (gg t d v) σ := (rfl)
theorem K2 {r:eT}:xC P G π base Q n ps d os i acc t σ (some r)=vd P G π base Q n ps os (i+1) (r::acc) (gg t d r.val) (σ.app r.up):=(rfl)
theorem K3 {v:AV}:vdV P G π base Q n ps d os i acc t σ (some v)=vd P G π base Q n ps os (i+1) ({ val:=v }::acc) (gg t d v) σ := (rfl)
theorem Iv {o:Option AV}:xB P G π base Q n d os i t σ (bB o)=vsV P G π base Q n d os i t σ o:=by cases o<;>rfl
theorem Iw {o:Option AV}:xC P G π base Q n ps d os i acc t σ (bB o)=vdV P G π base Q n ps d os i acc t σ o:=by cases o<;>rfl
theorem K4 {o:bA}:vsG P G π base Q n o os i t σ (some true)=vs P G π base Q n (⟨o.dst,o.op,none⟩::os) i t σ := (rfl)
theorem Ix {o:bA}:vsG P G π base Q n o os i t σ (some false)=vs P G π base Q n os (i+1) (gg t o.dst (.tup [])) σ := (rfl)
theorem K5 {o:bA}:vdG P G π base Q n ps o os i acc t σ (some true)=vd P G π base Q n ps (⟨o.dst,o.op,none⟩::os) i acc t σ := (rfl)
theorem Iy {o:bA}:vdG P G π base Q n ps o os i acc t σ (some false)=vd P G π base Q n ps os (i+1) ({ val := .tup [] }::acc) (gg t o.dst (.tup [])) σ := (rfl)
theorem FZ {j:Nat} {want:Bool}:e7 t (some (j,want))=vw (t.getD j (.tup [])) want:=by
 rw [List.getD_eq_getElem?_getD]
 show (match t[j]? with | some (.bool b)=>some (b==want) | some .top | some .anyb=>none | _=>some false)=_
 cases t[j]? with
 | none=>rfl
 | some c=>cases c<;>rfl
theorem Iz {d:Nat} {v:AV}:gg t (some d) v=t.set d v:=(rfl)
theorem IA {v:AV}:gg t none v=t:=(rfl)
theorem adf {j:Nat}:(bd.t j).ev G t=t.getD j (.tup []):=(rfl)
theorem adg {a:AV}:(bd.c a).ev G t=a:=(rfl)
theorem adh {f:Nat}:(bd.f f).ev G t = .fn (.func f) [] []:=(rfl)
theorem OZ : σ.app [] = σ := (rfl)
theorem K6 {x:Id × Option dA} {l:List (Id × Option dA)} : σ.app (x::l)=(σ.put x.1 x.2).app l:=(rfl)
theorem sg {op:gD bd} {j:Nat} {want:Bool}:vs P G π base Q n (⟨d,op,some (j,want)⟩::os) i t σ = vsG P G π base Q n ⟨d,op,none⟩ os i t σ (vw (t.getD j (.tup [])) want):=by
 rw [<- FZ]
 unfold vs vsG
 simp only [BD]
 cases e7 t (some (j,want)) with
 | none=>rfl
 | some b=>cases b<;>rfl
theorem dg {op:gD bd} {j:Nat} {want:Bool}:vd P G π base Q n ps (⟨d,op,some (j,want)⟩::os) i acc t σ = vdG P G π base Q n ps ⟨d,op,none⟩ os i acc t σ (vw (t.getD j (.tup [])) want):=by
 rw [<- FZ]
 unfold vd vdG
 simp only [BF]
 cases e7 t (some (j,want)) with
 | none=>rfl
 | some b=>cases b<;>rfl
theorem dO {op:gD bd} (h:op.tg=false):vs P G π base Q n (⟨d,op,none⟩::os) i t σ = xB P G π base Q n d os i t σ (b8 σ ((base+i) :: π) (op.map (bd.ev G t))):=by
 rw [ac9 h];unfold Ip;simp only [e7];cases b8 σ ((base+i) :: π) (op.map (bd.ev G t))<;>rfl
theorem dP {op:gD bd} (h:op.tg=false):vd P G π base Q n ps (⟨d,op,none⟩::os) i acc t σ = xC P G π base Q n ps d os i acc t σ (b8 σ ((base+i) :: π) (op.map (bd.ev G t))):=by
 rw [ada h];unfold Ip;simp only [e7];cases b8 σ ((base+i) :: π) (op.map (bd.ev G t))<;>rfl
theorem adi {x:bd}:vs P G π base Q n (⟨d, .mv x,none⟩::os) i t σ = xB P G π base Q n d os i t σ (b8 σ ((base+i) :: π) (.mv (x.ev G t))):=dO rfl
theorem adj {x:bd}:vd P G π base Q n ps (⟨d, .mv x,none⟩::os) i acc t σ = xC P G π base Q n ps d os i acc t σ (b8 σ ((base+i) :: π) (.mv (x.ev G t))):=dP rfl
theorem Tq {c a b:bd}:vs P G π base Q n (⟨d, .pick c a b,none⟩::os) i t σ = xB P G π base Q n d os i t σ (b8 σ ((base+i) :: π) (.pick (c.ev G t) (a.ev G t) (b.ev G t))):=dO rfl
theorem Tr {c a b:bd}:vd P G π base Q n ps (⟨d, .pick c a b,none⟩::os) i acc t σ = xC P G π base Q n ps d os i acc t σ (b8 σ ((base+i) :: π) (.pick (c.ev G t) (a.ev G t) (b.ev G t))):=dP rfl
theorem YZ {x:bd}:vs P G π base Q n (⟨d, .box x,none⟩::os) i t σ = xB P G π base Q n d os i t σ (b8 σ ((base+i) :: π) (.box (x.ev G t))):=dO rfl
theorem Y0 {x:bd}:vd P G π base Q n ps (⟨d, .box x,none⟩::os) i acc t σ = xC P G π base Q n ps d os i acc t σ (b8 σ ((base+i) :: π) (.box (x.ev G t))):=dP rfl
theorem O0 {z:List AV} {l:List (Nat × Nat × bd)}:vs P G π base Q n (⟨d, .build z l,none⟩::os) i t σ = xB P G π base Q n d os i t σ (b8 σ ((base+i) :: π) (.build z (l.map fun p=>(p.1,p.2.1,p.2.2.ev G t)))):=dO rfl
theorem O1 {z:List AV} {l:List (Nat × Nat × bd)}:vd P G π base Q n ps (⟨d, .build z l,none⟩::os) i acc t σ = xC P G π base Q n ps d os i acc t σ (b8 σ ((base+i) :: π) (.build z (l.map fun p=>(p.1,p.2.1,p.2.2.ev G t)))):=dP rfl
theorem IB {k m:Nat} {z:AV} {l:List (Nat × bd)}:vs P G π base Q n (⟨d, .buildSl k m z l,none⟩::os) i t σ = xB P G π base Q n d os i t σ (b8 σ ((base+i) :: π) (.buildSl k m z (l.map fun p=>(p.1,p.2.ev G t)))):=dO rfl
theorem IC {k m:Nat} {z:AV} {l:List (Nat × bd)}:vd P G π base Q n ps (⟨d, .buildSl k m z l,none⟩::os) i acc t σ = xC P G π base Q n ps d os i acc t σ (b8 σ ((base+i) :: π) (.buildSl k m z (l.map fun p=>(p.1,p.2.ev G t)))):=dP rfl
theorem Ts {a:Bool} {m:Nat} {x:bd}:vs P G π base Q n (⟨d, .load a m x,none⟩::os) i t σ = xB P G π base Q n d os i t σ (b8 σ ((base+i) :: π) (.load a m (x.ev G t))):=dO rfl
theorem Tt {a:Bool} {m:Nat} {x:bd}:vd P G π base Q n ps (⟨d, .load a m x,none⟩::os) i acc t σ = xC P G π base Q n ps d os i acc t σ (b8 σ ((base+i) :: π) (.load a m (x.ev G t))):=dP rfl
theorem O2 {m:Nat} {x v:bd}:vs P G π base Q n (⟨d, .store m x v,none⟩::os) i t σ = xB P G π base Q n d os i t σ (b8 σ ((base+i) :: π) (.store m (x.ev G t) (v.ev G t))):=dO rfl
theorem O3 {m:Nat} {x v:bd}:vd P G π base Q n ps (⟨d, .store m x v,none⟩::os) i acc t σ = xC P G π base Q n ps d os i acc t σ (b8 σ ((base+i) :: π) (.store m (x.ev G t) (v.ev G t))):=dP rfl
theorem O4 {x:bd}:vs P G π base Q n (⟨d, .nilck x,none⟩::os) i t σ = xB P G π base Q n d os i t σ (b8 σ ((base+i) :: π) (.nilck (x.ev G t))):=dO rfl
theorem O5 {x:bd}:vd P G π base Q n ps (⟨d, .nilck x,none⟩::os) i acc t σ = xC P G π base Q n ps d os i acc t σ (b8 σ ((base+i) :: π) (.nilck (x.ev G t))):=dP rfl
theorem Y1 {o:BinOp} {sh:Sh} {x y:bd}:vs P G π base Q n (⟨d, .bin o sh x y,none⟩::os) i t σ = xB P G π base Q n d os i t σ (b8 σ ((base+i) :: π) (.bin o sh (x.ev G t) (y.ev G t))):=dO rfl
theorem Y2 {o:BinOp} {sh:Sh} {x y:bd}:vd P G π base Q n ps (⟨d, .bin o sh x y,none⟩::os) i acc t σ = xC P G π base Q n ps d os i acc t σ (b8 σ ((base+i) :: π) (.bin o sh (x.ev G t) (y.ev G t))):=dP rfl
theorem adk {o:UnOp} {x:bd}:vs P G π base Q n (⟨d, .un o x,none⟩::os) i t σ = xB P G π base Q n d os i t σ (b8 σ ((base+i) :: π) (.un o (x.ev G t))):=dO rfl
theorem adl {o:UnOp} {x:bd}:vd P G π base Q n ps (⟨d, .un o x,none⟩::os) i acc t σ = xC P G π base Q n ps d os i acc t σ (b8 σ ((base+i) :: π) (.un o (x.ev G t))):=dP rfl
theorem O6 {k:IntKind} {x:bd}:vs P G π base Q n (⟨d, .toInt k x,none⟩::os) i t σ = xB P G π base Q n d os i t σ (b8 σ ((base+i) :: π) (.toInt k (x.ev G t))):=dO rfl
theorem O7 {k:IntKind} {x:bd}:vd P G π base Q n ps (⟨d, .toInt k x,none⟩::os) i acc t σ = xC P G π base Q n ps d os i acc t σ (b8 σ ((base+i) :: π) (.toInt k (x.ev G t))):=dP rfl
theorem O8 {x:bd}:vs P G π base Q n (⟨d, .idStr x,none⟩::os) i t σ = xB P G π base Q n d os i t σ (b8 σ ((base+i) :: π) (.idStr (x.ev G t))):=dO rfl
theorem O9 {x:bd}:vd P G π base Q n ps (⟨d, .idStr x,none⟩::os) i acc t σ = xC P G π base Q n ps d os i acc t σ (b8 σ ((base+i) :: π) (.idStr (x.ev G t))):=dP rfl
theorem F0 {x:bd}:vs P G π base Q n (⟨d, .bytesStr x,none⟩::os) i t σ = xB P G π base Q n d os i t σ (b8 σ ((base+i) :: π) (.bytesStr (x.ev G t))):=dO rfl
theorem F1 {x:bd}:vd P G π base Q n ps (⟨d, .bytesStr x,none⟩::os) i acc t σ = xC P G π base Q n ps d os i acc t σ (b8 σ ((base+i) :: π) (.bytesStr (x.ev G t))):=dP rfl
theorem Y3 {x c:bd}:vs P G π base Q n (⟨d, .idx x c,none⟩::os) i t σ = xB P G π base Q n d os i t σ (b8 σ ((base+i) :: π) (.idx (x.ev G t) (c.ev G t))):=dO rfl
theorem Y4 {x c:bd}:vd P G π base Q n ps (⟨d, .idx x c,none⟩::os) i acc t σ = xC P G π base Q n ps d os i acc t σ (b8 σ ((base+i) :: π) (.idx (x.ev G t) (c.ev G t))):=dP rfl
theorem Y5 {x y:bd}:vs P G π base Q n (⟨d, .ovl x y,none⟩::os) i t σ = xB P G π base Q n d os i t σ (b8 σ ((base+i) :: π) (.ovl (x.ev G t) (y.ev G t))):=dO rfl
theorem Y6 {x y:bd}:vd P G π base Q n ps (⟨d, .ovl x y,none⟩::os) i acc t σ = xC P G π base Q n ps d os i acc t σ (b8 σ ((base+i) :: π) (.ovl (x.ev G t) (y.ev G t))):=dP rfl
theorem Tu {fn:Fn} {a c:List bd}:vs P G π base Q n (⟨d, .mkfn fn a c,none⟩::os) i t σ = xB P G π base Q n d os i t σ (b8 σ ((base+i) :: π) (.mkfn fn (a.map (bd.ev G t)) (c.map (bd.ev G t)))):=dO rfl
theorem Tv {fn:Fn} {a c:List bd}:vd P G π base Q n ps (⟨d, .mkfn fn a c,none⟩::os) i acc t σ = xC P G π base Q n ps d os i acc t σ (b8 σ ((base+i) :: π) (.mkfn fn (a.map (bd.ev G t)) (c.map (bd.ev G t)))):=dP rfl
theorem Tw {k b:Nat} {z:AV} {l c:bd}:vs P G π base Q n (⟨d, .mksl k b z l c,none⟩::os) i t σ = xB P G π base Q n d os i t σ (b8 σ ((base+i) :: π) (.mksl k b z (l.ev G t) (c.ev G t))):=dO rfl
theorem Tx {k b:Nat} {z:AV} {l c:bd}:vd P G π base Q n ps (⟨d, .mksl k b z l c,none⟩::os) i acc t σ = xC P G π base Q n ps d os i acc t σ (b8 σ ((base+i) :: π) (.mksl k b z (l.ev G t) (c.ev G t))):=dP rfl
theorem Pa {k:Nat} {x:bd} {lo hi mx:Option bd}:vs P G π base Q n (⟨d, .slice k x lo hi mx,none⟩::os) i t σ = xB P G π base Q n d os i t σ (b8 σ ((base+i) :: π) (.slice k (x.ev G t) (lo.map (bd.ev G t)) (hi.map (bd.ev G t)) (mx.map (bd.ev G t)))):=dO rfl
theorem Pb {k:Nat} {x:bd} {lo hi mx:Option bd}:vd P G π base Q n ps (⟨d, .slice k x lo hi mx,none⟩::os) i acc t σ = xC P G π base Q n ps d os i acc t σ (b8 σ ((base+i) :: π) (.slice k (x.ev G t) (lo.map (bd.ev G t)) (hi.map (bd.ev G t)) (mx.map (bd.ev G t)))):=dP rfl
theorem K7 {x:bd} {lo hi:Option bd}:vs P G π base Q n (⟨d, .sliceS x lo hi,none⟩::os) i t σ = xB P G π base Q n d os i t σ (b8 σ ((base+i) :: π) (.sliceS (x.ev G t) (lo.map (bd.ev G t)) (hi.map (bd.ev G t)))):=dO rfl
theorem K8 {x:bd} {lo hi:Option bd}:vd P G π base Q n ps (⟨d, .sliceS x lo hi,none⟩::os) i acc t σ = xC P G π base Q n ps d os i acc t σ (b8 σ ((base+i) :: π) (.sliceS (x.ev G t) (lo.map (bd.ev G t)) (hi.map (bd.ev G t)))):=dP rfl
theorem Pc {o:Nat} {x:bd}:vs P G π base Q n (⟨d, .faddr o x,none⟩::os) i t σ = xB P G π base Q n d os i t σ (b8 σ ((base+i) :: π) (.faddr o (x.ev G t))):=dO rfl
theorem Pd {o:Nat} {x:bd}:vd P G π base Q n ps (⟨d, .faddr o x,none⟩::os) i acc t σ = xC P G π base Q n ps d os i acc t σ (b8 σ ((base+i) :: π) (.faddr o (x.ev G t))):=dP rfl
theorem Pe {a:Bool} {o m:Nat} {x:bd}:vs P G π base Q n (⟨d, .field a o m x,none⟩::os) i t σ = xB P G π base Q n d os i t σ (b8 σ ((base+i) :: π) (.field a o m (x.ev G t))):=dO rfl
theorem Pf {a:Bool} {o m:Nat} {x:bd}:vd P G π base Q n ps (⟨d, .field a o m x,none⟩::os) i acc t σ = xC P G π base Q n ps d os i acc t σ (b8 σ ((base+i) :: π) (.field a o m (x.ev G t))):=dP rfl
theorem K9 {k:Nat} {x j:bd}:vs P G π base Q n (⟨d, .iaddrS k x j,none⟩::os) i t σ = xB P G π base Q n d os i t σ (b8 σ ((base+i) :: π) (.iaddrS k (x.ev G t) (j.ev G t))):=dO rfl
theorem La {k:Nat} {x j:bd}:vd P G π base Q n ps (⟨d, .iaddrS k x j,none⟩::os) i acc t σ = xC P G π base Q n ps d os i acc t σ (b8 σ ((base+i) :: π) (.iaddrS k (x.ev G t) (j.ev G t))):=dP rfl
theorem Lc {m k:Nat} {x j:bd}:vs P G π base Q n (⟨d, .iaddrA m k x j,none⟩::os) i t σ = xB P G π base Q n d os i t σ (b8 σ ((base+i) :: π) (.iaddrA m k (x.ev G t) (j.ev G t))):=dO rfl
theorem Ld {m k:Nat} {x j:bd}:vd P G π base Q n ps (⟨d, .iaddrA m k x j,none⟩::os) i acc t σ = xC P G π base Q n ps d os i acc t σ (b8 σ ((base+i) :: π) (.iaddrA m k (x.ev G t) (j.ev G t))):=dP rfl
theorem Le {x j:bd}:vs P G π base Q n (⟨d, .indexS x j,none⟩::os) i t σ = xB P G π base Q n d os i t σ (b8 σ ((base+i) :: π) (.indexS (x.ev G t) (j.ev G t))):=dO rfl
theorem Lf {x j:bd}:vd P G π base Q n ps (⟨d, .indexS x j,none⟩::os) i acc t σ = xC P G π base Q n ps d os i acc t σ (b8 σ ((base+i) :: π) (.indexS (x.ev G t) (j.ev G t))):=dP rfl
theorem Lg {a:Bool} {m k:Nat} {x j:bd}:vs P G π base Q n (⟨d, .indexA a m k x j,none⟩::os) i t σ = xB P G π base Q n d os i t σ (b8 σ ((base+i) :: π) (.indexA a m k (x.ev G t) (j.ev G t))):=dO rfl
theorem Lh {a:Bool} {m k:Nat} {x j:bd}:vd P G π base Q n ps (⟨d, .indexA a m k x j,none⟩::os) i acc t σ = xC P G π base Q n ps d os i acc t σ (b8 σ ((base+i) :: π) (.indexA a m k (x.ev G t) (j.ev G t))):=dP rfl
theorem ID {x:bd} {j:Nat}:vs P G π base Q n (⟨d, .extract x j,none⟩::os) i t σ = xB P G π base Q n d os i t σ (b8 σ ((base+i) :: π) (.extract (x.ev G t) j)):=dO rfl
theorem IE {x:bd} {j:Nat}:vd P G π base Q n ps (⟨d, .extract x j,none⟩::os) i acc t σ = xC P G π base Q n ps d os i acc t σ (b8 σ ((base+i) :: π) (.extract (x.ev G t) j)):=dP rfl
theorem Y7 {b:Bool} {x:bd}:vs P G π base Q n (⟨d, .len b x,none⟩::os) i t σ = xB P G π base Q n d os i t σ (b8 σ ((base+i) :: π) (.len b (x.ev G t))):=dO rfl
theorem Y8 {b:Bool} {x:bd}:vd P G π base Q n ps (⟨d, .len b x,none⟩::os) i acc t σ = xC P G π base Q n ps d os i acc t σ (b8 σ ((base+i) :: π) (.len b (x.ev G t))):=dP rfl
theorem Ty {m:Nat} {x:bd}:vs P G π base Q n (⟨d, .lenN m x,none⟩::os) i t σ = xB P G π base Q n d os i t σ (b8 σ ((base+i) :: π) (.lenN m (x.ev G t))):=dO rfl
theorem Tz {m:Nat} {x:bd}:vd P G π base Q n ps (⟨d, .lenN m x,none⟩::os) i acc t σ = xC P G π base Q n ps d os i acc t σ (b8 σ ((base+i) :: π) (.lenN m (x.ev G t))):=dP rfl
theorem Li {k b:Nat} {s x:bd}:vs P G π base Q n (⟨d, .append k b s x,none⟩::os) i t σ = xB P G π base Q n d os i t σ (b8 σ ((base+i) :: π) (.append k b (s.ev G t) (x.ev G t))):=dO rfl
theorem Lj {k b:Nat} {s x:bd}:vd P G π base Q n ps (⟨d, .append k b s x,none⟩::os) i acc t σ = xC P G π base Q n ps d os i acc t σ (b8 σ ((base+i) :: π) (.append k b (s.ev G t) (x.ev G t))):=dP rfl
theorem Y9 {x y:bd}:vs P G π base Q n (⟨d, .min x y,none⟩::os) i t σ = xB P G π base Q n d os i t σ (b8 σ ((base+i) :: π) (.min (x.ev G t) (y.ev G t))):=dO rfl
theorem Za {x y:bd}:vd P G π base Q n ps (⟨d, .min x y,none⟩::os) i acc t σ = xC P G π base Q n ps d os i acc t σ (b8 σ ((base+i) :: π) (.min (x.ev G t) (y.ev G t))):=dP rfl
theorem Zb {x y:bd}:vs P G π base Q n (⟨d, .max x y,none⟩::os) i t σ = xB P G π base Q n d os i t σ (b8 σ ((base+i) :: π) (.max (x.ev G t) (y.ev G t))):=dO rfl
theorem Zc {x y:bd}:vd P G π base Q n ps (⟨d, .max x y,none⟩::os) i acc t σ = xC P G π base Q n ps d os i acc t σ (b8 σ ((base+i) :: π) (.max (x.ev G t) (y.ev G t))):=dP rfl
theorem Zd {x:bd}:vs P G π base Q n (⟨d, .cap x,none⟩::os) i t σ = xB P G π base Q n d os i t σ (b8 σ ((base+i) :: π) (.cap (x.ev G t))):=dO rfl
theorem Ze {x:bd}:vd P G π base Q n ps (⟨d, .cap x,none⟩::os) i acc t σ = xC P G π base Q n ps d os i acc t σ (b8 σ ((base+i) :: π) (.cap (x.ev G t))):=dP rfl
theorem Pg {k:Nat} {z:AV} {x:bd}:vs P G π base Q n (⟨d, .clear k z x,none⟩::os) i t σ = xB P G π base Q n d os i t σ (b8 σ ((base+i) :: π) (.clear k z (x.ev G t))):=dO rfl
theorem Ph {k:Nat} {z:AV} {x:bd}:vd P G π base Q n ps (⟨d, .clear k z x,none⟩::os) i acc t σ = xC P G π base Q n ps d os i acc t σ (b8 σ ((base+i) :: π) (.clear k z (x.ev G t))):=dP rfl
theorem TA {k:Nat} {e x:bd}:vs P G π base Q n (⟨d, .copy k e x,none⟩::os) i t σ = xB P G π base Q n d os i t σ (b8 σ ((base+i) :: π) (.copy k (e.ev G t) (x.ev G t))):=dO rfl
theorem TB {k:Nat} {e x:bd}:vd P G π base Q n ps (⟨d, .copy k e x,none⟩::os) i acc t σ = xC P G π base Q n ps d os i acc t σ (b8 σ ((base+i) :: π) (.copy k (e.ev G t) (x.ev G t))):=dP rfl
theorem TC {k b:Nat} {z:AV} {s m:bd}:vs P G π base Q n (⟨d, .appz k b z s m,none⟩::os) i t σ = xB P G π base Q n d os i t σ (b8 σ ((base+i) :: π) (.appz k b z (s.ev G t) (m.ev G t))):=dO rfl
theorem TD {k b:Nat} {z:AV} {s m:bd}:vd P G π base Q n ps (⟨d, .appz k b z s m,none⟩::os) i acc t σ = xC P G π base Q n ps d os i acc t σ (b8 σ ((base+i) :: π) (.appz k b z (s.ev G t) (m.ev G t))):=dP rfl
theorem s_call {f:bd} {l:List bd}:vs P G π base Q n (⟨d, .call f l,none⟩::os) i t σ = OU P G π base Q n d os i t σ (some true) (f.ev G t) (l.map (bd.ev G t)):=WV
theorem TE {f:bd} {l:List bd}:vd P G π base Q n ps (⟨d, .call f l,none⟩::os) i acc t σ = OV P G π base Q n ps d os i acc t σ (some true) (f.ev G t) (l.map (bd.ev G t)):=WW
end
section
variable {σ : ah} {p:Id}
theorem TF {x:AV}:b8 σ p (.mv x)=bB (some x):=(rfl)
theorem Lk {b:Bool} {x y:AV}:b8 σ p (.pick (.bool b) x y)=bB (some (if b then x else y)):=(rfl)
theorem Pj {x:AV}:b8 σ p (.box x)=if x.cells.all AV.one=true then some { val := .ref p 0 0,up:=[(p,some ⟨[x],x.size,false⟩)] } else none:=(rfl)
theorem IF {z:List AV} {l:List (Nat × Nat × AV)}:b8 σ p (.build z l)=bB ((iN z l).map .agg):=(rfl)
theorem yw {k n:Nat} {z:AV} {ps:List (Nat × AV)}:b8 σ p (.buildSl k n z ps)=(match kC k (List.replicate n z) ps with
   | some es=>if z.size=k/\z.cells.all AV.one=true then (if n=0 then some { val := .tsl k [] } else some { val := .osl p k 0 n false,up:=[(p,some ⟨es,k,false⟩)] }) else none
   | none=>none):=(rfl)
theorem Ll {a:Bool} {n:Nat} {x:AV}:b8 σ p (.load a n x)=jm σ a n x:=(rfl)
theorem IG {n:Nat} {x v:AV}:b8 σ p (.store n x v)=fJ σ n x v:=(rfl)
theorem Pk {o:BinOp} {sh:Sh} {x y:AV}:b8 σ p (.bin o sh x y)=bB (bY o sh x y):=(rfl)
theorem TG {o:UnOp} {x:AV}:b8 σ p (.un o x)=bB (vun o x):=(rfl)
theorem IH {k k':IntKind} {n:Int}:b8 σ p (.toInt k (.int k' n))=bB (some (.int k (k.wrap n))):=(rfl)
theorem II {s:List UInt8}:b8 σ p (.idStr (.str s))=bB (some (.str s)):=(rfl)
theorem BN {x:AV}:b8 σ p (.bytesStr x)=qR σ x:=(rfl)
theorem Lm {fn:Fn} {a c:List AV}:b8 σ p (.mkfn fn a c)=bB (some (.fn fn a c)):=(rfl)
theorem Ln {k b:Nat} {z l c:AV}:b8 σ p (.mksl k b z l c)=jn p k b z l c:=(rfl)
theorem IJ {k:Nat} {x:AV} {lo hi mx:Option AV}:b8 σ p (.slice k x lo hi mx)=sE σ k x lo hi mx (fK k x lo hi mx):=(rfl)
theorem BO {k:Nat} {x:AV} {lo hi mx:Option AV} {v:AV}:sE σ k x lo hi mx (some v)=bB (some v):=(rfl)
theorem F2 {x:AV} {lo hi:Option AV}:b8 σ p (.sliceS x lo hi)=bB (vL x lo hi):=(rfl)
theorem Ao {o:Nat} {id:Id} {e q:Nat}:b8 σ p (.faddr o (.ref id e q))=bB (some (.ref id e (q+o))):=(rfl)
theorem BP {o:Nat} {cs:List AV} {q:Nat}:b8 σ p (.faddr o (.ep cs q))=bB (some (.ep cs (q+o))):=(rfl)
theorem IK {a:Bool} {o n:Nat} {cs:List AV}:b8 σ p (.field a o n (.agg cs))=bB (part a cs o n):=(rfl)
theorem F3 {k:Nat} {x i:AV}:b8 σ p (.iaddrS k x i)=bB (cW k x i):=(rfl)
theorem F4 {n k:Nat} {x i:AV}:b8 σ p (.iaddrA n k x i)=bB (nU n k x i):=(rfl)
theorem AJ {s:List UInt8} {k:IntKind} {i:Int}:b8 σ p (.indexS (.str s) (.int k i))=if 0<=i then bB ((s[i.toNat]?).map fun b => .int .u8 b.toNat) else none:=(rfl)
theorem F5 {a:Bool} {n k:Nat} {cs:List AV} {k':IntKind} {i:Int}:b8 σ p (.indexA a n k (.agg cs) (.int k' i))=if 0<=i/\i<n then bB (part a cs (i.toNat*k) k) else none:=(rfl)
theorem Ee {l:List AV} {i:Nat}:b8 σ p (.extract (.tup l) i)=bB l[i]? := (rfl)
theorem Pl {b:Bool} {x:AV}:b8 σ p (.len b x)=bB (p7 b x):=(rfl)
theorem Lp {n:Nat} {x:AV}:b8 σ p (.lenN n x)=bB (some (.int .i64 n)):=(rfl)
theorem F6 {k b:Nat} {s x:AV}:b8 σ p (.append k b s x)=eu σ p k b s x:=(rfl)
theorem Pm {k k':IntKind} {a b:Int}:b8 σ p (.min (.int k a) (.int k' b))=bB (some (.int k (if b<a then b else a))):=(rfl)
theorem Pn {k k':IntKind} {a b:Int}:b8 σ p (.max (.int k a) (.int k' b))=bB (some (.int k (if b>a then b else a))):=(rfl)
theorem Po {x:AV}:b8 σ p (.cap x)=Fy σ x (SJ x):=(rfl)
theorem F7 {x v:AV}:Fy σ x (some v)=bB (some v):=(rfl)
theorem Pp {x c:AV}:b8 σ p (.idx x c)=bB (SK x c):=(rfl)
theorem Lq {s:List UInt8} {c:Int}:SK (.str s) (.int .u8 c)=some (.int .i64 (sD s c.toNat.toUInt8)):=(rfl)
theorem Pq {x y:AV}:b8 σ p (.ovl x y)=Qr σ x y:=(rfl)
theorem IL {k:Nat} {z x:AV}:b8 σ p (.clear k z x)=Fx σ k z x:=(rfl)
theorem Lr {k:Nat} {d x:AV}:b8 σ p (.copy k d x)=Ky σ k d x:=(rfl)
theorem Ls {k b:Nat} {z s n:AV}:b8 σ p (.appz k b z s n)=H3 p k b z s n:=(rfl)
theorem Ap {id:Id} {e o:Nat}:b8 σ p (.nilck (.ref id e o))=bB (some (.ref id e o)):=(rfl)
theorem BQ {cs:List AV} {o:Nat}:b8 σ p (.nilck (.ep cs o))=bB (some (.ep cs o)):=(rfl)
theorem BR {f:FuncId} {a c:List AV}:b8 σ p (.nilck (.fn (.func f) a c))=bB (some (.fn (.func f) a c)):=(rfl)
theorem JB {k:IntKind} {a b:Int}:bY .add .int (.int k a) (.int k b)=some (.int k (k.wrap (a+b))):=by simp only [bY];rw [show mJ .add .int (.int k a) (.int k b)=some (.int k (k.wrap (a+b))) from by simp [mJ,vK]]
theorem Ps {k:IntKind} {a b:Int}:bY .sub .int (.int k a) (.int k b)=some (.int k (k.wrap (a-b))):=by simp only [bY];rw [show mJ .sub .int (.int k a) (.int k b)=some (.int k (k.wrap (a-b))) from by simp [mJ,vK]]
theorem Pt {k:IntKind} {a b:Int}:bY .mul .int (.int k a) (.int k b)=some (.int k (k.wrap (a*b))):=by simp only [bY];rw [show mJ .mul .int (.int k a) (.int k b)=some (.int k (k.wrap (a*b))) from by simp [mJ,vK]]
theorem JC {k:IntKind} {a b:Int} (h:b≠0):bY .quo .int (.int k a) (.int k b)=some (.int k (k.wrap (a.tdiv b))):=by simp only [bY];rw [show mJ .quo .int (.int k a) (.int k b)=some (.int k (k.wrap (a.tdiv b))) from by simp [mJ,vK,h]]
theorem Pu {k:IntKind} {a b:Int} (h:b≠0):bY .rem .int (.int k a) (.int k b)=some (.int k (a.tmod b)):=by simp only [bY];rw [show mJ .rem .int (.int k a) (.int k b)=some (.int k (a.tmod b)) from by simp [mJ,vK,h]]
theorem Pv {k:IntKind} {a b:Int}:bY .eql .int (.int k a) (.int k b)=some (.bool (decide (a=b))):=by simp only [bY];rw [show mJ .eql .int (.int k a) (.int k b)=some (.bool (decide (a=b))) from by simp only [mJ,vK,or_true,if_true];rfl]
theorem Pw {k:IntKind} {a b:Int}:bY .neq .int (.int k a) (.int k b)=some (.bool (decide (a≠b))):=by simp only [bY];rw [show mJ .neq .int (.int k a) (.int k b)=some (.bool (decide (a≠b))) from by simp [mJ,vK,bne,Int.instDecidableEq];rfl]
theorem Px {k:IntKind} {a b:Int}:bY .lss .int (.int k a) (.int k b)=some (.bool (decide (a<b))):=by simp only [bY];rw [show mJ .lss .int (.int k a) (.int k b)=some (.bool (decide (a<b))) from by simp [mJ,vK]]
theorem Py {k:IntKind} {a b:Int}:bY .leq .int (.int k a) (.int k b)=some (.bool (decide (a<=b))):=by simp only [bY];rw [show mJ .leq .int (.int k a) (.int k b)=some (.bool (decide (a<=b))) from by simp [mJ,vK]]
theorem Pz {k:IntKind} {a b:Int}:bY .gtr .int (.int k a) (.int k b)=some (.bool (decide (b<a))):=by simp only [bY];rw [show mJ .gtr .int (.int k a) (.int k b)=some (.bool (decide (b<a))) from by simp [mJ,vK]]
theorem PA {k:IntKind} {a b:Int}:bY .geq .int (.int k a) (.int k b)=some (.bool (decide (b<=a))):=by simp only [bY];rw [show mJ .geq .int (.int k a) (.int k b)=some (.bool (decide (b<=a))) from by simp [mJ,vK]]
theorem PB {k k':IntKind} {a b:Int} (h:0<=b):bY .shl .int (.int k a) (.int k' b)=some (.int k (k.wrap (a*2 ^ (min b.toNat k.bits)))):=by simp only [bY];rw [show mJ .shl .int (.int k a) (.int k' b)=some (.int k (k.wrap (a*2 ^ (min b.toNat k.bits)))) from by simp [mJ,vK,Int.not_lt.2 h]]
theorem sJ {k k':IntKind} {a b:Int} (h:0<=b):bY .shr .int (.int k a) (.int k' b)=some (.int k (a.fdiv (2 ^ (min b.toNat k.bits)))):=by simp only [bY];rw [show mJ .shr .int (.int k a) (.int k' b)=some (.int k (a.fdiv (2 ^ (min b.toNat k.bits)))) from by simp [mJ,vK,Int.not_lt.2 h]]
theorem Ef {a b:List UInt8}:bY .eql .str (.str a) (.str b)=some (.bool (a==b)):=(rfl)
theorem Eg {a b:List UInt8}:bY .neq .str (.str a) (.str b)=some (.bool !(a==b)):=(rfl)
theorem BS {a b:Bool}:bY .eql .bool (.bool a) (.bool b)=some (.bool (a==b)):=(rfl)
theorem BU {a b:Bool}:bY .neq .bool (.bool a) (.bool b)=some (.bool !(a==b)):=(rfl)
theorem Lt {k:Nat}:bY .eql .slice (.sl k []) .nils=some .anyb:=(rfl)
theorem Lu {k:Nat} {e:AV} {es:List AV}:bY .eql .slice (.sl k (e::es)) .nils=some (.bool false):=(rfl)
theorem Lv {id:Id} {k o l:Nat} {t:Bool}:bY .eql .slice (.osl id k o l t) .nils=some (.bool false):=(rfl)
theorem Lw:bY .eql .slice .nils .nils=some (.bool true):=(rfl)
theorem Lx {id:Id} {e o:Nat}:bY .eql .ptr (.ref id e o) .nilp=some (.bool false):=(rfl)
theorem TH {a:Bool}:vun .not (.bool a)=some (.bool !a):=(rfl)
theorem TI {k:IntKind} {a:Int}:vun .neg (.int k a)=some (.int k (k.wrap (0-a))):=(rfl)
theorem dF:p7 false .nils=some (.int .i64 0):=(rfl)
theorem TJ {k:Nat} {es:List AV}:p7 false (.sl k es)=some (.int .i64 es.length):=(rfl)
theorem PC {k:Nat} {es:List AV}:p7 false (.tsl k es)=some (.int .i64 es.length):=(rfl)
theorem PD {id:Id} {k o l:Nat} {b:Bool}:p7 false (.osl id k o l b)=some (.int .i64 l):=(rfl)
theorem PE {s:List UInt8}:p7 true (.str s)=some (.int .i64 s.length):=(rfl)
end
end Go.VL
end

section
namespace Go.VL
abbrev oM (d x:Nat):bA:=⟨some d, .mv (.t x),none⟩
abbrev oI (d:Nat) (z:Int):bA:=⟨some d, .mv (.c (.int .i64 z)),none⟩
abbrev oB (d:Nat) (b:Bool):bA:=⟨some d, .mv (.c (.bool b)),none⟩
abbrev oZ (d:Nat):bA:=⟨some d, .mv (.c .nils),none⟩
abbrev oL (d n x:Nat):bA:=⟨some d, .load false n (.t x),none⟩
abbrev aU (d n x:Nat):bA:=⟨some d, .load true n (.t x),none⟩
abbrev oF (d o x:Nat):bA:=⟨some d, .faddr o (.t x),none⟩
abbrev oA (d n x y:Nat):bA:=⟨some d, .iaddrS n (.t x) (.t y),none⟩
abbrev oN (d x:Nat):bA:=⟨some d, .len false (.t x),none⟩
abbrev oS (n x y:Nat):bA:=⟨none, .store n (.t x) (.t y),none⟩
abbrev oX (d x:Nat):bA:=⟨some d, .box (.t x),none⟩
abbrev oE (d x j:Nat):bA:=⟨some d, .extract (.t x) j,none⟩
abbrev uz (d x:Nat):bA:=⟨some d, .un .not (.t x),none⟩
abbrev Dh (d x:Nat):bA:=⟨some d, .nilck (.t x),none⟩
abbrev nW (d x y:Nat):bA:=⟨some d, .pick (.t x) (.t y) (.c (.bool false)),none⟩
abbrev vR (d x y:Nat):bA:=⟨some d, .pick (.t x) (.c (.bool true)) (.t y),none⟩
abbrev oC (d f x:Nat):bA:=⟨some d, .call (.f f) [.t x],none⟩
abbrev bz (d f x y:Nat):bA:=⟨some d, .call (.f f) [.t x, .t y],none⟩
abbrev oK (d:Nat) (k:IntKind) (x:Nat):bA:=⟨some d, .toInt k (.t x),none⟩
abbrev Aq (d k b x y:Nat):bA:=⟨some d, .append k b (.t x) (.t y),none⟩
abbrev oT (d:Nat) (o:BinOp) (x y:Nat):bA:=⟨some d, .bin o .int (.t x) (.t y),none⟩
abbrev bC (d:Nat) (o:BinOp) (x:Nat) (z:Int):bA:=⟨some d, .bin o .int (.t x) (.c (.int .i64 z)),none⟩
abbrev gM (d x g:Nat) (b:Bool):bA:=⟨some d, .mv (.t x),some (g,b)⟩
abbrev gL (d n x g:Nat) (b:Bool):bA:=⟨some d, .load false n (.t x),some (g,b)⟩
abbrev vS (d n x g:Nat) (b:Bool):bA:=⟨some d, .load true n (.t x),some (g,b)⟩
abbrev gF (d o x g:Nat) (b:Bool):bA:=⟨some d, .faddr o (.t x),some (g,b)⟩
abbrev gN (d x g:Nat) (b:Bool):bA:=⟨some d, .len false (.t x),some (g,b)⟩
abbrev gT (d:Nat) (o:BinOp) (x y g:Nat) (b:Bool):bA:=⟨some d, .bin o .int (.t x) (.t y),some (g,b)⟩
abbrev cS (l:List bA) (c:cB):cB := .seq (.reg none l) c
abbrev cR (l:List bA):cB := .reg none l
end Go.VL
end

section
namespace Go.VL
theorem SS:(((((((type_of% @KX)/\(type_of% @OW))/\((type_of% @FV)/\((type_of% @KY)/\(type_of% @FU))))/\(((type_of% @Ec)/\(type_of% @Iq))/\((type_of% @Ir)/\((type_of% @KZ)/\(type_of% @OX)))))/\((((type_of% @yu)/\(type_of% @Io))/\((type_of% @KT)/\((type_of% @D9)/\(type_of% @Dc))))/\(((type_of% @KU)/\(type_of% @BM))/\((type_of% @FX)/\((type_of% @Iu)/\(type_of% @Tj))))))/\(((((type_of% @adi)/\(type_of% @Tq))/\((type_of% @YZ)/\((type_of% @O0)/\(type_of% @IB))))/\(((type_of% @Ts)/\(type_of% @O2))/\((type_of% @O4)/\((type_of% @Y1)/\(type_of% @adk)))))/\((((type_of% @O6)/\(type_of% @O8))/\((type_of% @F0)/\((type_of% @Y3)/\(type_of% @Y5))))/\(((type_of% @Tu)/\(type_of% @Tw))/\((type_of% @Pa)/\((type_of% @K7)/\(type_of% @Pc)))))))/\((((((type_of% @Pe)/\(type_of% @K9))/\((type_of% @Lc)/\((type_of% @Le)/\(type_of% @Lg))))/\(((type_of% @ID)/\(type_of% @Y7))/\((type_of% @Ty)/\((type_of% @Li)/\(type_of% @Y9)))))/\((((type_of% @Zb)/\(type_of% @Zd))/\((type_of% @Pg)/\((type_of% @TA)/\(type_of% @TC))))/\(((type_of% @s_call)/\(type_of% @sg))/\((type_of% @FY)/\((type_of% @K1)/\(type_of% @Iv))))))/\(((((type_of% @K4)/\(type_of% @Ix))/\((type_of% @OY)/\((type_of% @Tp)/\(type_of% @Iz))))/\(((type_of% @IA)/\(type_of% @adf))/\((type_of% @adg)/\((type_of% @adh)/\(type_of% @OZ)))))/\((((type_of% @K6)/\(type_of% @TF))/\((type_of% @Lk)/\((type_of% @Pj)/\(type_of% @IF))))/\(((type_of% @Ll)/\((type_of% @IG)/\(type_of% @Pk)))/\((type_of% @TG)/\((type_of% @IH)/\(type_of% @II))))))))/\(((((((type_of% @BN)/\(type_of% @Pp))/\((type_of% @Pq)/\((type_of% @Lm)/\(type_of% @Ln))))/\(((type_of% @IJ)/\(type_of% @F2))/\((type_of% @Ao)/\((type_of% @BP)/\(type_of% @IK)))))/\((((type_of% @F3)/\(type_of% @F4))/\((type_of% @AJ)/\((type_of% @F5)/\(type_of% @Ee))))/\(((type_of% @Pl)/\(type_of% @Lp))/\((type_of% @F6)/\((type_of% @Pm)/\(type_of% @Pn))))))/\(((((type_of% @Po)/\(type_of% @IL))/\((type_of% @Lr)/\((type_of% @Ls)/\(type_of% @Ap))))/\(((type_of% @BQ)/\(type_of% @BR))/\((type_of% @JB)/\((type_of% @Ps)/\(type_of% @Pt)))))/\((((type_of% @Pv)/\(type_of% @Pw))/\((type_of% @Px)/\((type_of% @Py)/\(type_of% @Pz))))/\(((type_of% @PA)/\((type_of% @Ef)/\(type_of% @Eg)))/\((type_of% @BS)/\((type_of% @BU)/\(type_of% @Lt)))))))/\((((((type_of% @Lu)/\(type_of% @Lv))/\((type_of% @Lw)/\((type_of% @Lx)/\(type_of% @BO))))/\(((type_of% @F7)/\(type_of% @Lq))/\((type_of% @TH)/\((type_of% @TI)/\(type_of% @dF)))))/\((((type_of% @TJ)/\(type_of% @PC))/\((type_of% @PD)/\((type_of% @PE)/\(type_of% @List.getD_cons_zero.{0}))))/\(((type_of% @List.getD_cons_succ.{0})/\(type_of% @List.set_cons_zero.{0}))/\((type_of% @List.set_cons_succ.{0})/\((type_of% @List.map_cons.{0,0})/\(type_of% @List.map_nil.{0,0}))))))/\(((((type_of% @Option.map_some.{0,0})/\(type_of% @Option.map_none.{0,0}))/\((type_of% @List.length_cons.{0})/\((type_of% @List.length_nil.{0})/\(type_of% @beq_self_eq_true.{0}))))/\(((type_of% @if_true.{1})/\(type_of% @if_false.{1}))/\((type_of% @FR)/\((type_of% @List.append_nil.{0})/\(type_of% @List.nil_append.{0})))))/\((((type_of% @List.cons_append.{0})/\(type_of% @Bool.true_beq))/\((type_of% @Bool.false_beq)/\((type_of% @beq_true)/\(type_of% @beq_false))))/\(((type_of% @Bool.not_true)/\((type_of% @Bool.not_false)/\(type_of% @Nat.zero_add)))/\((type_of% @Bool.false_eq_true)/\((type_of% @List.replicate_succ.{0})/\(type_of% @List.replicate_zero.{0})))))))) :=
 ⟨⟨⟨⟨⟨⟨⟨@KX, @OW⟩,⟨@FV,⟨@KY, @FU⟩⟩⟩,⟨⟨@Ec, @Iq⟩,⟨@Ir,⟨@KZ, @OX⟩⟩⟩⟩,⟨⟨⟨@yu, @Io⟩,⟨@KT,⟨@D9, @Dc⟩⟩⟩,⟨⟨@KU, @BM⟩,⟨@FX,⟨@Iu, @Tj⟩⟩⟩⟩⟩,⟨⟨⟨⟨@adi, @Tq⟩,⟨@YZ,⟨@O0, @IB⟩⟩⟩,⟨⟨@Ts, @O2⟩,⟨@O4,⟨@Y1, @adk⟩⟩⟩⟩,⟨⟨⟨@O6, @O8⟩,⟨@F0,⟨@Y3, @Y5⟩⟩⟩,⟨⟨@Tu, @Tw⟩,⟨@Pa,⟨@K7, @Pc⟩⟩⟩⟩⟩⟩,⟨⟨⟨⟨⟨@Pe, @K9⟩,⟨@Lc,⟨@Le, @Lg⟩⟩⟩,⟨⟨@ID, @Y7⟩,⟨@Ty,⟨@Li, @Y9⟩⟩⟩⟩,⟨⟨⟨@Zb, @Zd⟩,⟨@Pg,⟨@TA, @TC⟩⟩⟩,⟨⟨@s_call, @sg⟩,⟨@FY,⟨@K1, @Iv⟩⟩⟩⟩⟩,⟨⟨⟨⟨@K4, @Ix⟩,⟨@OY,⟨@Tp, @Iz⟩⟩⟩,⟨⟨@IA, @adf⟩,⟨@adg,⟨@adh, @OZ⟩⟩⟩⟩,⟨⟨⟨@K6, @TF⟩,⟨@Lk,⟨@Pj, @IF⟩⟩⟩,⟨⟨@Ll,⟨@IG, @Pk⟩⟩,⟨@TG,⟨@IH, @II⟩⟩⟩⟩⟩⟩⟩,⟨⟨⟨⟨⟨⟨@BN, @Pp⟩,⟨@Pq,⟨@Lm, @Ln⟩⟩⟩,⟨⟨@IJ, @F2⟩,⟨@Ao,⟨@BP, @IK⟩⟩⟩⟩,⟨⟨⟨@F3, @F4⟩,⟨@AJ,⟨@F5, @Ee⟩⟩⟩,⟨⟨@Pl, @Lp⟩,⟨@F6,⟨@Pm, @Pn⟩⟩⟩⟩⟩,⟨⟨⟨⟨@Po, @IL⟩,⟨@Lr,⟨@Ls, @Ap⟩⟩⟩,⟨⟨@BQ, @BR⟩,⟨@JB,⟨@Ps, @Pt⟩⟩⟩⟩,⟨⟨⟨@Pv, @Pw⟩,⟨@Px,⟨@Py, @Pz⟩⟩⟩,⟨⟨@PA,⟨@Ef, @Eg⟩⟩,⟨@BS,⟨@BU, @Lt⟩⟩⟩⟩⟩⟩,⟨⟨⟨⟨⟨@Lu, @Lv⟩,⟨@Lw,⟨@Lx, @BO⟩⟩⟩,⟨⟨@F7, @Lq⟩,⟨@TH,⟨@TI, @dF⟩⟩⟩⟩,⟨⟨⟨@TJ, @PC⟩,⟨@PD,⟨@PE, @List.getD_cons_zero.{0}⟩⟩⟩,⟨⟨@List.getD_cons_succ.{0}, @List.set_cons_zero.{0}⟩,⟨@List.set_cons_succ.{0},⟨@List.map_cons.{0,0}, @List.map_nil.{0,0}⟩⟩⟩⟩⟩,⟨⟨⟨⟨@Option.map_some.{0,0}, @Option.map_none.{0,0}⟩,⟨@List.length_cons.{0},⟨@List.length_nil.{0}, @beq_self_eq_true.{0}⟩⟩⟩,⟨⟨@if_true.{1}, @if_false.{1}⟩,⟨@FR,⟨@List.append_nil.{0}, @List.nil_append.{0}⟩⟩⟩⟩,⟨⟨⟨@List.cons_append.{0}, @Bool.true_beq⟩,⟨@Bool.false_beq,⟨@beq_true, @beq_false⟩⟩⟩,⟨⟨@Bool.not_true,⟨@Bool.not_false, @Nat.zero_add⟩⟩,⟨@Bool.false_eq_true,⟨@List.replicate_succ.{0}, @List.replicate_zero.{0}⟩⟩⟩⟩⟩⟩⟩⟩
theorem DD:(((((type_of% @FW)/\(type_of% @Tk))/\((type_of% @adj)/\((type_of% @Tr)/\(type_of% @Y0))))/\(((type_of% @O1)/\((type_of% @IC)/\(type_of% @Tt)))/\((type_of% @O3)/\((type_of% @O5)/\(type_of% @Y2)))))/\((((type_of% @adl)/\(type_of% @O7))/\((type_of% @O9)/\((type_of% @F1)/\(type_of% @Y4))))/\(((type_of% @Y6)/\((type_of% @Tv)/\(type_of% @Tx)))/\((type_of% @Pb)/\((type_of% @K8)/\(type_of% @Pd))))))/\(((((type_of% @Pf)/\(type_of% @La))/\((type_of% @Ld)/\((type_of% @Lf)/\(type_of% @Lh))))/\(((type_of% @IE)/\((type_of% @Y8)/\(type_of% @Tz)))/\((type_of% @Lj)/\((type_of% @Za)/\(type_of% @Zc)))))/\((((type_of% @Ze)/\((type_of% @Ph)/\(type_of% @TB)))/\((type_of% @TD)/\((type_of% @TE)/\(type_of% @dg))))/\(((type_of% @K2)/\((type_of% @K3)/\(type_of% @Iw)))/\((type_of% @K5)/\((type_of% @Iy)/\(type_of% @FT)))))) :=
 ⟨⟨⟨⟨⟨@FW, @Tk⟩,⟨@adj,⟨@Tr, @Y0⟩⟩⟩,⟨⟨@O1,⟨@IC, @Tt⟩⟩,⟨@O3,⟨@O5, @Y2⟩⟩⟩⟩,⟨⟨⟨@adl, @O7⟩,⟨@O9,⟨@F1, @Y4⟩⟩⟩,⟨⟨@Y6,⟨@Tv, @Tx⟩⟩,⟨@Pb,⟨@K8, @Pd⟩⟩⟩⟩⟩,⟨⟨⟨⟨@Pf, @La⟩,⟨@Ld,⟨@Lf, @Lh⟩⟩⟩,⟨⟨@IE,⟨@Y8, @Tz⟩⟩,⟨@Lj,⟨@Za, @Zc⟩⟩⟩⟩,⟨⟨⟨@Ze,⟨@Ph, @TB⟩⟩,⟨@TD,⟨@TE, @dg⟩⟩⟩,⟨⟨@K2,⟨@K3, @Iw⟩⟩,⟨@K5,⟨@Iy, @FT⟩⟩⟩⟩⟩⟩
theorem RS:(((type_of% @ax)/\(type_of% @Ed))/\((type_of% @List.mapM_cons.{0,0,0})/\((type_of% @List.mapM_nil.{0,0,0})/\(type_of% @List.getD_cons_zero.{0}))))/\(((type_of% @List.getD_cons_succ.{0})/\(type_of% @Option.pure_def.{0}))/\((type_of% @Option.bind_eq_bind.{0})/\((type_of% @Option.bind_some.{0,0})/\(type_of% @Option.map_some.{0,0})))) :=
 ⟨⟨⟨@ax, @Ed⟩,⟨@List.mapM_cons.{0,0,0},⟨@List.mapM_nil.{0,0,0}, @List.getD_cons_zero.{0}⟩⟩⟩,⟨⟨@List.getD_cons_succ.{0}, @Option.pure_def.{0}⟩,⟨@Option.bind_eq_bind.{0},⟨@Option.bind_some.{0,0}, @Option.map_some.{0,0}⟩⟩⟩⟩
end Go.VL
end

section
namespace Go.VL
def Has (P:Program) (f:FuncId) (vf:aJ):Prop:=∃ fn,P.funcs[f]? = some fn/\H4 P fn=some vf
section
variable {P:Program} {G:Nat->Option (List AV)}
theorem VP.has {f:FuncId} {vf:aJ} (h:Has P f vf) {args:List AV} {r:AV} (k:xQ P G [] vf.body (QW vf.results r) ⟨args++List.replicate (vf.nt-args.length) (.tup []),fun _=>none,0⟩):VP P G f args r:=by
 obtain ⟨fn,h1,h2⟩:=h
 exact VP.of h1 h2 k
theorem bc.has {f:FuncId} {vf:aJ} (h:Has P f vf) {args:List AV} {p:Id} {S:List (Id × dA)} {r:eT}
   (k:xQ P G p vf.body (QX G p S vf.results r) ⟨args++List.replicate (vf.nt-args.length) (.tup []),ah.of S,0⟩):bc P G f args p S r:=by
 obtain ⟨fn,h1,h2⟩:=h
 exact bc.YX h1 h2 (VW.of k)
theorem bG {π : Id} {base:Nat} {Q:cd->VS->Prop} {n:Nat} {d:Option Nat} {os:List bA} {i:Nat} {t:List AV} {σ : ah} {f:FuncId} {args lD:List AV} {r:AV} (S:List (Id × dA))
   (h:VP P G f lD r) (hv:aM (ah.of S) args lD) (hS:∀ x∈S, σ x.1=some x.2) (k:vs P G π base Q n os (i+1) (gg t d r) (σ.app (Df S))):yv P G π base Q n d os i t σ f args :=
 ⟨S,_,bc.JA h hv,hS,fun x hx=>List.mem_map.2 ⟨x,hx,rfl⟩,k⟩
theorem Eh {π : Id} {base:Nat} {Q:cd->VS->Prop} {n:Nat} {d:Option Nat} {os:List bA} {i:Nat} {t:List AV} {σ : ah} {f:FuncId} {args lD:List AV} {r:AV} (S:List (Id × dA))
   (h:VP P G f lD r) (hv:aM (ah.of S) args lD) (hf:jy r) (hS:∀ x∈S, σ x.1=some x.2) (k:vs P G π base Q n os (i+1) (gg t d r) σ):yv P G π base Q n d os i t σ f args :=
 ⟨S,_,bc.of_flat h hv hf,hS,fun x hx=>List.mem_map.2 ⟨x,hx,rfl⟩,k⟩
theorem ae {rs:List ur} {r:AV} {s:VS} (h:a8 rs s=some r) (hp:aa r):∃ r0,a8 rs s=some r0/\View s.σ r0 r:=⟨r,h,View.pure hp⟩
end
theorem bb {σ : ah} {id:Id} {b:Option dA} : σ.put id b id=b:=ah.dE σ id b
theorem dr {σ : ah} {id i:Id} {b:Option dA} (h:i≠id) : σ.put id b i = σ i:=ah.cD σ id b h
theorem qT {σ : ah} {agg:Bool} {n e o:Nat} {id:Id} {bk:dA} {el:AV} (h : σ id=some bk) (he:bk.els[e]? = some el):jm σ agg n (.ref id e o)=(part agg el.cells o n).map fun v=>{ val:=v,rd:=[id] }:=by
 simp [jm,h,he]
theorem aN {σ : ah} {agg:Bool} {n o:Nat} {cs:List AV}:jm σ agg n (.ep cs o)=(part agg cs o n).map fun v=>{ val:=v }:=rfl
end Go.VL
end

section
set_option maxRecDepth 100000
namespace Go.VL
def mA:aJ:=⟨17,[(.tmp 2)],(cS [oB 2 false] (cS [oM 3 0,⟨some 4,.bin .geq .int (.t 3) (.c (.int .u8 97)),none⟩,oM 5 4,gM 6 0 5 true,⟨some 7,.bin .leq .int (.t 6) (.c (.int .u8 122)),some (5,true)⟩,nW 8 5 7,oM 9 8,gM 10 0 9 false,⟨some 11,.bin .geq .int (.t 10) (.c (.int .u8 65)),some (9,false)⟩,gM 12 11 9 false,gM 13 0 12 true,⟨some 14,.bin .leq .int (.t 13) (.c (.int .u8 90)),some (12,true)⟩,⟨some 15,.pick (.t 12) (.t 14) (.c (.bool false)),some (9,false)⟩,vR 16 9 15,oM 2 16] .ret))⟩
def na:aJ:=⟨9,[(.tmp 2)],(cS [oB 2 false] (cS [oM 3 0,⟨some 4,.bin .geq .int (.t 3) (.c (.int .u8 48)),none⟩,oM 5 4,gM 6 0 5 true,⟨some 7,.bin .leq .int (.t 6) (.c (.int .u8 57)),some (5,true)⟩,nW 8 5 7,oM 2 8] .ret))⟩
def qY (pa EE:Nat):aJ:=⟨13,[(.tmp 2)],(cS [oB 2 false] (cS [oM 3 0,oC 4 pa 3,oM 5 4,gM 6 0 5 false,⟨some 7,.call (.f EE) [.t 6],some (5,false)⟩,vR 8 5 7,oM 9 8,gM 10 0 9 false,⟨some 11,.bin .eql .int (.t 10) (.c (.int .u8 95)),some (9,false)⟩,vR 12 9 11,oM 2 12] .ret))⟩
def vU:aJ:=⟨20,[(.tmp 4)],(cS [oI 4 0] (cS [oI 5 0] (.seq (.block 0 (.loop (.seq (cS [oM 6 5,oM 7 0,⟨some 8,.len true (.t 7),none⟩,oT 9 .lss 6 8,oM 10 9,gM 11 1 10 true,gM 12 0 10 true,gM 13 5 10 true,⟨some 14,.indexS (.t 12) (.t 13),some (10,true)⟩,⟨some 15,.call (.t 11) [.t 14],some (10,true)⟩,nW 16 10 15] (.cond (.t 16) .skip (.exit 0))) (.block 1 (cR [oM 17 5,bC 18 .add 17 1,oM 5 18]))))) (cS [oM 19 5,oM 4 19] .ret))))⟩
def lE (pa JD F8:Nat):aJ:=⟨22,[(.tmp 2)],(cS [oB 2 false] (cS [oM 3 0,⟨some 4,.bin .neq .str (.t 3) (.c (.str [])),none⟩,oM 5 4,gM 6 0 5 true,⟨some 7,.len true (.t 6),some (5,true)⟩,⟨some 8,.bin .leq .int (.t 7) (.c (.int .i64 24)),some (5,true)⟩,nW 9 5 8,oM 10 9,gM 11 0 10 true,⟨some 12,.indexS (.t 11) (.c (.int .i64 0)),some (10,true)⟩,⟨some 13,.call (.f pa) [.t 12],some (10,true)⟩,nW 14 10 13,oM 15 14,gM 16 0 15 true,⟨some 17,.call (.f JD) [(.t 16),(.f F8)],some (15,true)⟩,gM 18 0 15 true,⟨some 19,.len true (.t 18),some (15,true)⟩,gT 20 .eql 17 19 15 true,nW 21 15 20,oM 2 21] .ret))⟩
end Go.VL
end

section
set_option maxRecDepth 100000
namespace Go.VL
def ey:aJ:=⟨8,[(.tmp 2)],(cS [oZ 2] (.seq (cS [oM 3 0,⟨some 4,.bin .eql .slice (.t 3) (.c .nils),none⟩] (.cond (.t 4) (cS [oZ 2] .ret) .skip)) (cS [⟨some 5,.buildSl 1 0 (.str []) [],none⟩,oM 6 0,Aq 7 1 16 5 6,oM 2 7] .ret)))⟩
end Go.VL
end

section
set_option maxRecDepth 100000
namespace Go.VL
def eN (xR:Nat):aJ:=⟨17,[(.tmp 2)],(cS [oB 2 false] (cS [oM 3 0,⟨some 4,.bin .neq .str (.t 3) (.c (.str [])),none⟩,oM 5 4,gM 6 0 5 true,⟨some 7,.len true (.t 6),some (5,true)⟩,⟨some 8,.bin .leq .int (.t 7) (.c (.int .i64 24)),some (5,true)⟩,nW 9 5 8,oM 10 9,gM 11 0 10 true,⟨some 12,.call (.f xR) [(.t 11),(.c (.int .i64 0))],some (10,true)⟩,gM 13 0 10 true,⟨some 14,.len true (.t 13),some (10,true)⟩,gT 15 .eql 12 14 10 true,nW 16 10 15,oM 2 16] .ret))⟩
def fQ (nH vV:Nat):aJ:=⟨42,[(.tmp 4)],(cS [oI 4 0] (.seq (cS [oM 5 1,oM 6 0,⟨some 7,.len true (.t 6),none⟩,oT 8 .eql 5 7,oM 9 8,gM 10 0 9 false,gM 11 1 9 false,⟨some 12,.indexS (.t 10) (.t 11),some (9,false)⟩,⟨some 13,.call (.f nH) [.t 12],some (9,false)⟩,⟨some 14,.un .not (.t 13),some (9,false)⟩,vR 15 9 14] (.cond (.t 15) (cS [oM 16 1,oM 4 16] .ret) .skip)) (.seq (.block 0 (.loop (.seq (cS [oM 17 1,oM 18 0,⟨some 19,.len true (.t 18),none⟩,oT 20 .lss 17 19,oM 21 20,gM 22 0 21 true,gM 23 1 21 true,⟨some 24,.indexS (.t 22) (.t 23),some (21,true)⟩,⟨some 25,.call (.f nH) [.t 24],some (21,true)⟩,gM 26 25 21 true,gM 27 0 26 false,gM 28 1 26 false,⟨some 29,.indexS (.t 27) (.t 28),some (26,false)⟩,⟨some 30,.call (.f vV) [.t 29],some (26,false)⟩,⟨some 31,.pick (.t 26) (.c (.bool true)) (.t 30),some (21,true)⟩,gM 32 31 21 true,gM 33 0 32 false,gM 34 1 32 false,⟨some 35,.indexS (.t 33) (.t 34),some (32,false)⟩,⟨some 36,.bin .eql .int (.t 35) (.c (.int .u8 95)),some (32,false)⟩,⟨some 37,.pick (.t 32) (.c (.bool true)) (.t 36),some (21,true)⟩,nW 38 21 37] (.cond (.t 38) .skip (.exit 0))) (.block 1 (cR [oM 39 1,bC 40 .add 39 1,oM 1 40]))))) (cS [oM 41 1,oM 4 41] .ret))))⟩
def uA:aJ:=⟨17,[(.tmp 2)],(cS [oB 2 false] (cS [oM 3 0,⟨some 4,.bin .geq .int (.t 3) (.c (.int .u8 97)),none⟩,oM 5 4,gM 6 0 5 true,⟨some 7,.bin .leq .int (.t 6) (.c (.int .u8 122)),some (5,true)⟩,nW 8 5 7,oM 9 8,gM 10 0 9 false,⟨some 11,.bin .geq .int (.t 10) (.c (.int .u8 65)),some (9,false)⟩,gM 12 11 9 false,gM 13 0 12 true,⟨some 14,.bin .leq .int (.t 13) (.c (.int .u8 90)),some (12,true)⟩,⟨some 15,.pick (.t 12) (.t 14) (.c (.bool false)),some (9,false)⟩,vR 16 9 15,oM 2 16] .ret))⟩
def vW:aJ:=⟨9,[(.tmp 2)],(cS [oB 2 false] (cS [oM 3 0,⟨some 4,.bin .geq .int (.t 3) (.c (.int .u8 48)),none⟩,oM 5 4,gM 6 0 5 true,⟨some 7,.bin .leq .int (.t 6) (.c (.int .u8 57)),some (5,true)⟩,nW 8 5 7,oM 2 8] .ret))⟩
end Go.VL
end
