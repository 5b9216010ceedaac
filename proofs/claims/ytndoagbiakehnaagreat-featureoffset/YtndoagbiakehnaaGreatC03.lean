/- For the claim of FeatureOffset: parts VL15, VL16, VL17, VL18, VL19, VL20, VL22, VL24, VL25, VL26, VLA, VLS, VL27, GA, GB, GF. -/
import Derived.Test.YtndoagbiakehnaaGreatC02
import Derived.LoopN
set_option linter.unusedSimpArgs false
set_option linter.unusedVariables false
section
namespace Go.VL
theorem Ey {X Y:Nat->Bool}:∀ (L:List Done) (i:Nat) (t:List AV),(∀ k,k<L.length->X (i+k)=Y (i+k))->fQ X L i t=fQ Y L i t
 | [],_,_,_=>rfl
 | (d,r)::L,i,t,h=>by
   simp only [fQ]
   have h0:=h 0 (by simp)
   rw [Nat.add_zero] at h0
   rw [h0]
   exact Ey L (i+1) _ (fun k hk=>by rw [show i+1+k=i+(k+1) from by omega];exact h (k+1) (by simpa using hk))
theorem Ez {X Y:Nat->Bool}:∀ (L:List Done) (i:Nat) (σ : ae),(∀ k,k<L.length->X (i+k)=Y (i+k))->il X L i σ = il Y L i σ
 | [],_,_,_=>rfl
 | (d,r)::L,i,t,h=>by
   simp only [il]
   have h0:=h 0 (by simp)
   rw [Nat.add_zero] at h0
   rw [h0]
   exact Ez L (i+1) _ (fun k hk=>by rw [show i+1+k=i+(k+1) from by omega];exact h (k+1) (by simpa using hk))
theorem JQ {X Y:Nat->Bool} {i:Nat} (hX:X i=false) (hY:Y i=true) (hXY:∀ k,X k=true->Y k=true):∀ (l:List Nat),i∈l->l.countP X<l.countP Y
 | [],h=>by simp at h
 | a :: l,h=>by
   have hle:l.countP X<=l.countP Y:=List.countP_mono_left fun x _ hx=>hXY x hx
   simp only [List.countP_cons]
   rcases List.mem_cons.1 h with rfl | h
   . simp [hX,hY];omega
   . have:=JQ hX hY hXY l h
     by_cases ha:X a=true
     . simp [ha,hXY a ha];omega
     . simp [ha];split<;>omega
theorem Hb {X:Nat->Bool}:∀ (l:List Nat),l.length<=l.countP X->∀ i∈l,X i=true
 | [],_,i,h=>by simp at h
 | a :: l,hc,i,h=>by
   have hle:=List.countP_le_length (p:=X) (l:=l)
   simp only [List.countP_cons,List.length_cons] at hc
   by_cases ha:X a=true
   . simp only [ha,if_true] at hc
     rcases List.mem_cons.1 h with rfl | h
     . exact ha
     . exact Hb l (by omega) i h
   . simp [ha] at hc;omega
section
variable {P:Program} {G:Nat->Option (List AV)} {own:Nat->Prop}
theorem Dh {n i j:Nat} (To:i<j) (hj:j<n):(i,j)∈C8 n:=by
 unfold C8
 rw [List.mem_flatMap]
 exact ⟨j,List.mem_range.2 hj,List.mem_map.2 ⟨i,List.mem_range.2 To,rfl⟩⟩
structure Mid (G:Nat->Option (List AV)) (π : Id) (own:Nat->Prop) (L:List Done) (base n:Nat) (t0:List AV) (σ0:ae) (a0:Act) (E0:Env) (w0:World) (X:Nat->Bool) (E:Env) (w:World) (a:Act):Prop where
 frame:cF E w (fQ X L 0 t0) a
 inv:Inv G own E w (il X L 0 σ0)
 I1:nk own π E0 E w0 w
 free:∀ i,i<n->X i=false->∀ j,((base+i) :: π) <:+ j->E.μ j=none
 more:BJ E π (base+n)
 defers:a.defers=a0.defers
theorem Tp {ops:Array Oper} {vs:List bx} (Pg:ops.toList.mapM (BV P ops)=some vs) (Vv:Gu vs (ops.toList.map BW)=true)
   {π : Id} {base:Nat} {t0:List AV} {σ0:ae} {rs:List fL} (hrl:rs.length=vs.length)
   (hst:∀ k o r,vs[k]? = some o->rs[k]? = some r->Dg P G π base o (0+k) (fQ (fun m=>m<0+k) ((vs.map (·.dst)).zip rs) 0 t0) (il (fun m=>m<0+k) ((vs.map (·.dst)).zip rs) 0 σ0) r)
   (hap:ag rs (Bh vs (ops.toList.map BW))) {a0:Act} {E0:Env} {w0:World} {Q:Exit->Act->World->Prop}
   (hQ:∀ a E w,Mid G π own ((vs.map (·.dst)).zip rs) base ops.size t0 σ0 a0 E0 w0 (fun _=>true) E w a->Q .normal a w) :
   ∀ (fuel:Nat) (listed:Array Bool) (a:Act) (E:Env) (w:World),listed.size=ops.size->ops.size<=(List.range ops.size).countP (fun i=>listed.getD i false)+fuel ->
     (∀ k,k<ops.size->listed.getD k false=true->∀ e∈(ops.toList.map BW).getD k [],listed.getD e false=true) ->
     Mid G π own ((vs.map (·.dst)).zip rs) base ops.size t0 σ0 a0 E0 w0 (fun i=>listed.getD i false) E w a->wpAny P .any ops Q fuel listed a w:=by
 have yK:vs.length=ops.size:=by have:=iJ Pg;simpa using this
 generalize hL:(vs.map (·.dst)).zip rs=L at *
 have hLl:L.length=ops.size:=by rw [<- hL];simp [hrl,yK]
 have QW:∀ (k:Nat) (d:Option Nat) (r:fL),L[k]? = some (d,r)↔∃ o:bx,vs[k]? = some o/\o.dst=d/\rs[k]? = some r:=by
   intro k d r
   rw [<- hL,List.getElem?_zip_eq_some]
   simp only [List.getElem?_map,Option.map_eq_some_iff]
   constructor
   . rintro ⟨⟨o,h1,h2⟩,h3⟩;exact ⟨o,h1,h2,h3⟩
   . rintro ⟨o,h1,h2,h3⟩;exact ⟨⟨o,h1,h2⟩,h3⟩
 generalize agK:ops.toList.map BW=rO at *
 have aqj:rO.length=ops.size:=by rw [<- agK];simp
 unfold Gu at Vv
 simp only [Bool.and_eq_true,List.all_eq_true] at Vv
 obtain ⟨⟨_,hlt⟩,ado⟩:=Vv
 have Vw:∀ j,j<ops.size->∀ e∈rO.getD j [],e<j:=by
   intro j hj e he
   have:=hlt j (List.mem_range.2 (by rw [yK];exact hj)) e he
   simpa using this
 have I4:∀ (i j:Nat) (a b:bx),i<j->vs[i]? = some a->vs[j]? = some b->Fq a b=true->((kh rO []).getD j 0).testBit i=true:=by
   intro i j a b To ha hb hc
   have hj:j<vs.length:=(List.getElem?_eq_some_iff.1 hb).1
   have:=ado (i,j) (Dh To hj)
   simp only [ha,hb,hc,Bool.not_true,Bool.false_or] at this
   exact this
 have rf:∀ (i j:Nat) (a b:bx),i<j->vs[i]? = some a->vs[j]? = some b->a.op.pure=false->b.op.pure=false->(a.op.uJ&&b.op.uJ)=false->((kh rO []).getD j 0).testBit i=false->∀ (x y:fL),rs[i]? = some x->rs[j]? = some y->apart x y:=by
   intro i j a b To ha hb hpa hpb hll hm x y hx hy
   have hj:j<vs.length:=(List.getElem?_eq_some_iff.1 hb).1
   refine hap (i,j) ?_ x y hx hy
   unfold Bh
   rw [List.mem_filter]
   exact ⟨Dh To hj,by simp only [ha,hb,hpa,hpb,hll,hm];rfl⟩
 -- an operation that touches a block is not pure
 have touch:∀ (k:Nat) (o:bx) (r:fL),vs[k]? = some o->rs[k]? = some r->(r.rd≠[]∨r.up≠[])->o.op.pure=false:=by
   intro k o r ho hr hne
   cases hp:o.op.pure with
   | false=>rfl
   | true =>
     rcases hst k o r ho hr with ⟨_,rfl⟩ | ⟨_,hs⟩
     . simp at hne
     . obtain ⟨h1,h2⟩:=Tm hp hs
       simp [h1,h2] at hne
 have Vx:∀ (k:Nat) (o:bx) (r:fL),vs[k]? = some o->rs[k]? = some r->r.up≠[]->o.op.uJ=false:=by
   intro k o r ho hr hne
   cases hp:o.op.uJ with
   | false=>rfl
   | true =>
     rcases hst k o r ho hr with ⟨_,rfl⟩ | ⟨_,hs⟩
     . simp at hne
     . exact absurd (Tn hp hs) hne
 intro fuel
 induction fuel with
 | zero =>
   intro listed a E w hls agM Ph hm
   have Tq:∀ i,i<ops.size->listed.getD i false=true:=by
     intro i hi
     have:=Hb (X:=fun i=>listed.getD i false) (List.range ops.size) (by simpa using agM) i (List.mem_range.2 hi)
     exact this
   refine ⟨?_,hQ a E w ?_⟩
   . apply List.eq_nil_iff_forall_not_mem.2
     intro j hj
     obtain ⟨h1,o,h2,_⟩:=mem_ready.1 hj
     have zD:j<ops.size:=(Array.getElem?_eq_some_iff.1 h2).1
     have:=Tq j zD
     rw [Array.getD_eq_getD_getElem?] at h1 this
     cases hh:listed[j]? with
     | none=>simp [hh] at this
     | some b=>simp [hh] at h1 this;simp [h1] at this
   . have e1:fQ (fun i=>listed.getD i false) L 0 t0=fQ (fun _=>true) L 0 t0:=Ey L 0 t0 (fun k hk=>by rw [Nat.zero_add];exact Tq k (by omega))
     have e2:il (fun i=>listed.getD i false) L 0 σ0=il (fun _=>true) L 0 σ0:=Ez L 0 σ0 (fun k hk=>by rw [Nat.zero_add];exact Tq k (by omega))
     exact ⟨e1▸hm.frame,e2▸hm.inv,hm.I1,by simp,hm.more,hm.defers⟩
 | succ fuel ih =>
   intro listed a E w hls agM Ph hm
   have agN:∀ i,i<ops.size->listed.getD i true=listed.getD i false:=by
     intro i hi
     rw [Array.getD_eq_getD_getElem?,Array.getD_eq_getD_getElem?,Array.getElem?_eq_getElem (by omega)]
     rfl
   have abG:∀ (j:Nat) (o:Oper),ops[j]? = some o->rO.getD j []=BW o:=by
     intro j o ho
     rw [<- agK]
     have hj:j<ops.size:=(Array.getElem?_eq_some_iff.1 ho).1
     have he:ops[j]=o:=(Array.getElem?_eq_some_iff.1 ho).2
     simp [List.getD,hj,he]
   refine ⟨?_, ?_⟩
   . -- nothing is ready: all is done
     intro Di
     have Tq : ∀ i,i<ops.size->listed.getD i false=true:=by
       intro i
       induction i using Nat.strongRecOn with
       | _ i ihi =>
         intro hi
         cases hh:listed.getD i false with
         | true=>rfl
         | false =>
           exfalso
           have mQ:i∈Region.ready .any ops listed:=by
             refine mem_ready.2 ⟨(agN i hi).trans hh,ops[i],by simp [hi], ?_⟩
             intro e he hb
             have alf:e.on∈rO.getD i []:=by
               rw [abG i ops[i] (by simp [hi])]
               unfold BW
               exact List.mem_map.2 ⟨e,List.mem_filter.2 ⟨by simpa using he,hb⟩,rfl⟩
             have:=Vw i hi e.on alf
             exact ihi e.on this (by omega)
           rw [Di] at mQ
           simp at mQ
     have e1:fQ (fun i=>listed.getD i false) L 0 t0=fQ (fun _=>true) L 0 t0:=Ey L 0 t0 (fun k hk=>by rw [Nat.zero_add];exact Tq k (by omega))
     have e2:il (fun i=>listed.getD i false) L 0 σ0=il (fun _=>true) L 0 σ0:=Ez L 0 σ0 (fun k hk=>by rw [Nat.zero_add];exact Tq k (by omega))
     exact hQ a E w ⟨e1▸hm.frame,e2▸hm.inv,hm.I1,by simp,hm.more,hm.defers⟩
   . intro j hj
     obtain ⟨h1,o,ho,agO⟩:=mem_ready.1 hj
     have S5:j<ops.size:=(Array.getElem?_eq_some_iff.1 ho).1
     have hXj:listed.getD j false=false:=(agN j S5).symm.trans h1
     generalize hX:(fun i=>listed.getD i false)=X at *
     have hXd:∀ i,listed.getD i false=X i:=fun i=>by rw [<- hX]
     simp only [hXd] at Ph hXj
     have Es:∀ e∈rO.getD j [],X e=true:=by
       intro e he
       rw [abG j o ho] at he
       unfold BW at he
       obtain ⟨ed,hed,rfl⟩:=List.mem_map.1 he
       obtain ⟨h3,h4⟩:=List.mem_filter.1 hed
       rw [<- hXd]
       exact agO ed (by simpa using h3) h4
     have pre:∀ i,((kh rO []).getD j 0).testBit i=true->X i=true:=Fv Vw Ph j S5 Es
     have post:∀ k,k<ops.size->X k=true->((kh rO []).getD k 0).testBit j=false:=by
       intro k hk F2
       cases hb:((kh rO []).getD k 0).testBit j with
       | false=>rfl
       | true=>have:=Fv Vw Ph k hk (Ph k hk F2) j hb;simp [hXj] at this
     -- the operation
     have Cr:∃ vo,vs[j]? = some vo/\BV P ops o=some vo:=by
       have hjv:j<vs.length:=by omega
       obtain ⟨o',h3,h4⟩:=mapM_some_get Pg j vs[j] (by simp [hjv])
       have:o'=o:=by
         have h5:ops.toList[j]? = some o:=by simpa using ho
         rw [h5] at h3;simpa using h3.symm
       subst this
       exact ⟨vs[j],by simp [hjv],h4⟩
     obtain ⟨vo,Hc,Cr⟩:=Cr
     obtain ⟨hop,Vt⟩:=ME Cr
     have hrj:j<rs.length:=by omega
     obtain ⟨r,hr⟩:∃ r,rs[j]? = some r:=⟨rs[j],by simp [hrj]⟩
     have hsc:=hst j vo r Hc hr
     rw [Nat.zero_add] at hsc
     -- a slot that it names
     have slot:∀ s∈vo.names,(fQ X L 0 t0)[s]? = (fQ (fun m=>m<j) L 0 t0)[s]? := by
       intro s hs
       refine ue L 0 t0 t0 rfl ?_
       intro k d r' hk hne hds
       rw [Nat.zero_add] at hne
       obtain ⟨ok,h3,h4,h5⟩:=(QW k d r').1 hk
       subst hds
       have Zb:k<ops.size:=by have:=(List.getElem?_eq_some_iff.1 h3).1;omega
       rcases Nat.lt_trichotomy k j with zO | rfl | Zj
       . have F2:X k=false:=by
           cases hh:X k with
           | false=>rfl
           | true=>simp [hh,zO] at hne
         have hc:Fq ok vo=true:=by unfold Fq;simp [h4,hs]
         have:=pre k (I4 k j ok vo zO h3 Hc hc)
         simp [F2] at this
       . simp [hXj] at hne
       . have F2:X k=true:=by
           cases hh:X k with
           | true=>rfl
           | false=>simp [hh,Nat.not_lt.2 (Nat.le_of_lt Zj)] at hne
         have hc:Fq vo ok=true:=by unfold Fq;simp [h4,hs]
         have:=I4 j k vo ok Zj Hc h3 hc
         rw [post k Zb F2] at this
         simp at this
     have ali:vo.op.map (aV.ev G (fQ X L 0 t0))=vo.op.map (aV.ev G (fQ (fun m=>m<j) L 0 t0)):=by
       refine hH.map_congr _ fun x hx=>Vu x fun s hs=>slot s ?_
       unfold bx.names
       exact List.mem_append_left _ (List.mem_filterMap.2 ⟨x,hx,hs⟩)
     have abI:fP (fQ X L 0 t0) vo.guard=fP (fQ (fun m=>m<j) L 0 t0) vo.guard:=by
       cases hg:vo.guard with
       | none=>rfl
       | some q =>
         obtain ⟨s,want⟩:=q
         have:=slot s (by unfold bx.names;simp [hg])
         simp only [fP,this]
     have hrd:∀ id∈r.rd,il X L 0 σ0 id=il (fun m=>m<j) L 0 σ0 id:=by
       intro id qg
       refine uf L 0 σ0 σ0 rfl ?_
       intro k d r' hk hne mQ
       rw [Nat.zero_add] at hne
       obtain ⟨ok,h3,h4,h5⟩:=(QW k d r').1 hk
       have Zb:k<ops.size:=by have:=(List.getElem?_eq_some_iff.1 h3).1;omega
       have hpk:ok.op.pure=false:=touch k ok r' h3 h5 (.inr (by intro e;simp [e] at mQ))
       have hpj:vo.op.pure=false:=touch j vo r Hc hr (.inl (by intro e;simp [e] at qg))
       have Zk:ok.op.uJ=false:=Vx k ok r' h3 h5 (by intro e;simp [e] at mQ)
       obtain ⟨x,hx,rfl⟩:=List.mem_map.1 mQ
       rcases Nat.lt_trichotomy k j with zO | rfl | Zj
       . have F2:X k=false:=by
           cases hh:X k with
           | false=>rfl
           | true=>simp [hh,zO] at hne
         have hb:((kh rO []).getD j 0).testBit k=false:=by
           cases hb:((kh rO []).getD j 0).testBit k with
           | false=>rfl
           | true=>have:=pre k hb;simp [F2] at this
         exact ((rf k j ok vo zO h3 Hc hpk hpj (by simp [Zk]) hb r' r h5 hr).1 x hx).1 qg
       . simp [hXj] at hne
       . have F2:X k=true:=by
           cases hh:X k with
           | true=>rfl
           | false=>simp [hh,Nat.not_lt.2 (Nat.le_of_lt Zj)] at hne
         exact (rf j k vo ok Zj Hc h3 hpj hpk (by simp [Zk]) (post k Zb F2) r r' hr h5).2 x hx qg
     -- behind it
     generalize hX':(fun i=>if i=j then true else X i)=X' at *
     have YK:∀ i,X' i=if i=j then true else X i:=fun i=>by rw [<- hX']
     have later:∀ (k:Nat) (d:Option Nat) (r':fL),L[k]? = some (d,r')->j<k->X' k=true->∃ ok:bx,vs[k]? = some ok/\ok.dst=d/\rs[k]? = some r'/\k<ops.size/\X k=true:=by
       intro k d r' hk zO F2
       obtain ⟨ok,h3,h4,h5⟩:=(QW k d r').1 hk
       refine ⟨ok,h3,h4,h5,by have:=(List.getElem?_eq_some_iff.1 h3).1;omega, ?_⟩
       rw [YK] at F2
       simpa [show k≠j from by omega] using F2
     have hLj:L[j]? = some (vo.dst,r):=(QW j _ _).2 ⟨vo,Hc,rfl,hr⟩
     have tEq:hJ (fQ X L 0 t0) vo.dst r.val=fQ X' L 0 t0:=by
       apply List.ext_getElem?
       intro s
       rw [vK]
       by_cases hd:vo.dst=some s
       . rw [if_pos hd]
         rw [G7 L 0 j t0 (by rw [hLj,hd]) (by rw [Nat.zero_add,YK];simp) ?_,JL]
         intro k d r' hk zO F2 hds
         rw [Nat.zero_add] at F2
         obtain ⟨ok,h3,h4,h5,Zb,adp⟩:=later k d r' hk zO F2
         have hc:Fq vo ok=true:=by unfold Fq;simp [hd,h4,hds]
         have:=I4 j k vo ok zO Hc h3 hc
         rw [post k Zb adp] at this
         simp at this
       . rw [if_neg hd]
         refine ue L 0 t0 t0 rfl ?_
         intro k d r' hk hne
         rw [Nat.zero_add,YK] at hne
         have hkj:k=j:=by
           apply Classical.byContradiction;intro h;simp [h] at hne
         subst hkj
         rw [hLj] at hk
         simp only [Option.some.injEq,Prod.mk.injEq] at hk
         rw [<- hk.1];exact hd
     have sEq:(il X L 0 σ0).app r.up=il X' L 0 σ0:=by
       funext id
       by_cases mQ:id∈r.up.map (·.1)
       . symm
         refine G8 L 0 j σ0 hLj (by rw [Nat.zero_add,YK];simp) mQ ?_
         intro k d r' hk zO F2 agP
         rw [Nat.zero_add] at F2
         obtain ⟨ok,h3,h4,h5,Zb,adp⟩:=later k d r' hk zO F2
         have hpk:ok.op.pure=false:=touch k ok r' h3 h5 (.inr (by intro e;simp [e] at agP))
         have hpj:vo.op.pure=false:=touch j vo r Hc hr (.inr (by intro e;simp [e] at mQ))
         have hlj:vo.op.uJ=false:=Vx j vo r Hc hr (by intro e;simp [e] at mQ)
         obtain ⟨x,hx,rfl⟩:=List.mem_map.1 mQ
         exact ((rf j k vo ok zO Hc h3 hpj hpk (by simp [hlj]) (post k Zb adp) r r' hr h5).1 x hx).2 agP
       . rw [ae.Bk mQ]
         refine uf L 0 σ0 σ0 rfl ?_
         intro k d r' hk hne
         rw [Nat.zero_add,YK] at hne
         have hkj:k=j:=by
           apply Classical.byContradiction;intro h;simp [h] at hne
         subst hkj
         rw [hLj] at hk
         simp only [Option.some.injEq,Prod.mk.injEq] at hk
         rw [<- hk.2];exact mQ
     -- going on
     have hXl:∀ i,(listed.setIfInBounds j true).getD i false=X' i:=by
       intro i
       rw [YK]
       by_cases e:i=j
       . subst e
         rw [Array.getD_eq_getD_getElem?]
         simp [hls,S5]
       . rw [if_neg e,getD_set_ne false (fun h=>e h.symm),hXd]
     have go : ∀ (a':Act) (E':Env) (w':World),cF E' w' (fQ X' L 0 t0) a'->Inv G own E' w' (il X' L 0 σ0)->nk own π E E' w w'->(∀ i:Id, ¬ ((base+j) :: π) <:+ i->E'.μ i=E.μ i)->a'.defers=a.defers ->
         wpAny P .any ops Q fuel (listed.setIfInBounds j true) a' w':=by
       intro a' E' w' YT qY had Zi hde
       have Tb:(fun i=>(listed.setIfInBounds j true).getD i false)=X':=funext hXl
       refine ih _ a' E' w' (by simpa using hls) ?_ ?_ ?_
       . rw [Tb]
         have:=JQ (X:=X) (Y:=X') (i:=j) hXj (by rw [YK];simp) (fun k hk=>by rw [YK];split<;>simp [hk]) (List.range ops.size) (List.mem_range.2 S5)
         omega
       . intro k hk F2 e he
         rw [hXl] at F2 ⊢
         rw [YK] at F2 ⊢
         split
         . rfl
         . by_cases hkj:k=j
           . subst hkj;exact Es e he
           . rw [if_neg hkj] at F2
             exact Ph k hk F2 e he
       . rw [Tb]
         refine ⟨YT,qY,hm.I1.trans had, ?_, ?_,hde.trans hm.defers⟩
         . intro i hi hxi j'
           rw [YK] at hxi
           have To:i≠j:=by rintro rfl;simp at hxi
           rw [if_neg To] at hxi
           intro hj'
           rw [Zi _ (MG hj' (by omega))]
           exact hm.free i hi hxi j' hj'
         . intro j' hj' hq
           rw [Zi _ (hq (base+j) (by omega))]
           exact hm.more j' hj' hq
     unfold wpOp
     rw [ho]
     simp only []
     rcases hsc with ⟨Je,rfl⟩ | ⟨QX,UQ⟩
     . rw [xg Cr hm.frame (abI.trans Je)]
       simp only [Bool.false_eq_true,if_false]
       refine go _ E w ?_ ?_ (nk.refl own π E w) (fun _ _=>rfl) (ug _ _ _)
       . rw [<- tEq, <- Vt];exact JN hm.frame _
       . rw [<- sEq];exact hm.inv
     . rw [xg Cr hm.frame (abI.trans QX)]
       simp only [if_true]
       left
       rw [<- ali] at UQ
       refine G6 hm.inv (hm.free j S5 hXj) hm.frame hop (Jd UQ hrd) ?_
       intro v w' E' hp
       refine go _ E' w' ?_ ?_ hp.agI hp.ids (ug _ _ _)
       . rw [<- tEq, <- Vt];exact hp.frame hm.frame _
       . rw [<- sEq];exact hp.inv
end
end Go.VL
end

section
namespace Go.VL
inductive bM where
 | normal
 | exit (id:Nat)
 | ret
def bM.real:bM->Exit
 | .normal => .normal
 | .exit id => .exit id
 | .ret => .ret
structure VS where
 t:List AV
 σ : ae
 n:Nat
structure mR (G:Nat->Option (List AV)) (π : Id) (own:Nat->Prop) (E:Env) (w:World) (s:VS) (a:Act):Prop where
 frame:cF E w s.t a
 inv:Inv G own E w s.σ
 free:BJ E π s.n
 defers:a.defers=[]
def Wk (G:Nat->Option (List AV)) (π : Id) (s s':VS):Prop:=∀ own E w a,mR G π own E w s a->∃ E',nk own π E E' w w/\mR G π own E' w s' a
def VW (P:Program) (G:Nat->Option (List AV)) (π : Id) (vc:bY) (Q:bM->VS->Prop) (s:VS):Prop :=
 ∀ c,ij P c=some vc->∀ own E w a (R:Exit->Act->World->Prop),mR G π own E w s a ->
   (∀ e s' E' w' a',Q e s'->nk own π E E' w w'->mR G π own E' w' s' a'->R e.real a' w')->c.wp P R a w
section
variable {P:Program} {G:Nat->Option (List AV)} {π : Id} {Q:bM->VS->Prop} {s:VS}
theorem Wk.refl (G:Nat->Option (List AV)) (π : Id) (s:VS):Wk G π s s:=fun own E w _ h=>⟨E,nk.refl own π E w,h⟩
theorem Wk.trans {s s' s'':VS} (h:Wk G π s s') (k:Wk G π s' s''):Wk G π s s'':=fun own E w a hm=>by
 obtain ⟨E1,a1,m1⟩:=h own E w a hm
 obtain ⟨E2,a2,m2⟩:=k own E1 w a m1
 exact ⟨E2,a1.trans a2,m2⟩
theorem VW.wk {vc:bY} {s':VS} (h:Wk G π s s') (k:VW P G π vc Q s'):VW P G π vc Q s:=by
 intro c hc own E w a R hm hR
 obtain ⟨E1,a1,m1⟩:=h own E w a hm
 exact k c hc own E1 w a R m1 fun e s2 E2 w2 a2 hq ad mm=>hR e s2 E2 w2 a2 hq (a1.trans ad) mm
theorem VW.mono {vc:bY} {Q':bM->VS->Prop} (h:VW P G π vc Q s) (hq:∀ e s,Q e s->Q' e s):VW P G π vc Q' s :=
 fun c hc own E w a R hm hR=>h c hc own E w a R hm fun e s2 E2 w2 a2 Tr=>hR e s2 E2 w2 a2 (hq e s2 Tr)
theorem VW.skip (h:Q .normal s):VW P G π .skip Q s:=by
 intro c hc own E w a R hm hR
 cases c<;>simp only [ij,Option.some.injEq,reduceCtorEq] at hc
 . exact wp_skip (hR .normal s E w a h (nk.refl own π E w) hm)
 . exfalso;revert hc;unfold mP;(repeat' split)<;>simp
 all_goals (exfalso;revert hc;(repeat' split)<;>simp)
theorem Dj {c:Code} {ps:Option (List (Nat × Nat))} {vs:List bx} (hc:ij P c=some (.reg ps vs)):∃ id ops draw,c = .region id ops draw/\ops.toList.mapM (BV P ops)=some vs /\
   ((draw=false/\ps=none)∨(draw=true/\ps=some (Bh vs (ops.toList.map BW))/\Gu vs (ops.toList.map BW)=true/\P.follows .mixedOrders=true)):=by
 cases c with
 | region id ops draw =>
   simp only [ij,mP] at hc
   cases hm:ops.toList.mapM (BV P ops) with
   | none=>simp [hm] at hc
   | some vs' =>
     simp only [hm] at hc
     split at hc
     . rename_i hd
       split at hc
       . rename_i ho
         simp only [Option.some.injEq,bY.reg.injEq] at hc
         obtain ⟨rfl,rfl⟩:=hc
         simp only [Bool.and_eq_true] at ho
         exact ⟨id,ops,draw,rfl,hm, .inr ⟨hd,rfl,ho.1,ho.2⟩⟩
       . simp at hc
     . rename_i hd
       simp only [Option.some.injEq,bY.reg.injEq] at hc
       obtain ⟨rfl,rfl⟩:=hc
       exact ⟨id,ops,draw,rfl,hm, .inl ⟨by simpa using hd,rfl⟩⟩
 | _=>exfalso;revert hc;simp only [ij];(repeat' split)<;>simp
theorem VW.Vy {vs:List bx} (h:De P G π s.n (fun t σ => Q .normal ⟨t, σ,s.n+vs.length⟩) vs 0 s.t s.σ):VW P G π (.reg none vs) Q s:=by
 intro c hc own E w a R hm hR
 obtain ⟨id,ops,draw,rfl,Pg,YG⟩:=Dj hc
 have hd:draw=false:=by
   rcases YG with ⟨h,_⟩ | ⟨_,h,_⟩
   . exact h
   . simp at h
 subst hd
 have hl:ops.toList.length=vs.length:=(iJ Pg).symm
 refine wp_region ?_
 have:=Ha (P:=P) (G:=G) (own:=own) (ops:=ops) (Q:=R) ops.toList 0 (fun k=>by simp) vs Pg s.t s.σ a E w h hm.frame hm.inv hm.free (by
   intro t' σ' a' E' w' hk had hf hi I0 hde
   refine hR .normal ⟨t', σ',s.n+vs.length⟩ E' w' a' hk had ⟨hf,hi,by have h:=I0;simp only [Nat.add_zero,hl] at h;exact h,hde.trans hm.defers⟩)
 rw [List.range_eq_range']
 simpa using this
theorem VW.Vz {ps:List (Nat × Nat)} {vs:List bx} (h:Df P G π s.n (fun rs t σ => ag rs ps/\Q .normal ⟨t, σ,s.n+vs.length⟩) vs 0 [] s.t s.σ):VW P G π (.reg (some ps) vs) Q s:=by
 intro c hc own E w a R hm hR
 obtain ⟨id,ops,draw,rfl,Pg,YG⟩:=Dj hc
 rcases YG with ⟨_,h2⟩ | ⟨hd,Pc,Vv,hmx⟩
 . simp at h2
 . subst hd
   simp only [Option.some.injEq] at Pc
   have hl:vs.length=ops.size:=by have:=iJ Pg;simpa using this
   obtain ⟨rs,hrl,hst,hap,hq⟩:=JM h
   refine wp_region_any hmx ?_
   have alj:Mid G π own ((vs.map (·.dst)).zip rs) s.n ops.size s.t s.σ a E w (fun i=>(Array.replicate ops.size false).getD i false) E w.drew a:=by
     have hX:∀ i,(Array.replicate ops.size false).getD i false=false:=by intro i;rw [Array.getD_eq_getD_getElem?];simp [Array.getElem?_replicate];split<;>rfl
     have e1:fQ (fun i=>(Array.replicate ops.size false).getD i false) ((vs.map (·.dst)).zip rs) 0 s.t=s.t:=uK _ _ _ fun k _=>hX _
     have e2:il (fun i=>(Array.replicate ops.size false).getD i false) ((vs.map (·.dst)).zip rs) 0 s.σ = s.σ := uL _ _ _ fun k _=>hX _
     exact ⟨by rw [e1];exact hm.frame.keep (Adv.drew (own:=own) E w).step,by rw [e2];exact hm.inv.drew,⟨Adv.drew E w,fun _ _=>rfl⟩,fun i _ _ j hj=>hm.free.at (by omega) hj,hm.free.mono (by omega),rfl⟩
   refine Tp Pg Vv hrl hst (by rw [<- Pc];simpa using hap) (Q:=R) (a0:=a) (E0:=E) (w0:=w) ?_ ops.size (Array.replicate ops.size false) a E w.drew (by simp) (by simp) ?_ alj
   . intro a' E' w' hmd
     refine hR .normal _ E' w' a' hq hmd.I1 ⟨hmd.frame,hmd.inv,by rw [hl];exact hmd.more,hmd.defers.trans hm.defers⟩
   . intro k hk hx
     rw [Array.getD_eq_getD_getElem?] at hx
     simp [hk] at hx
theorem VW.seq {x y:bY} (h:VW P G π x (fun e s'=>match e with | .normal=>VW P G π y Q s' | e=>Q e s') s):VW P G π (.seq x y) Q s:=by
 intro c hc own E w a R hm hR
 cases c<;>simp only [ij,Option.some.injEq,reduceCtorEq] at hc
 case seq ca cb =>
   cases h1:ij P ca with
   | none=>simp [h1] at hc
   | some va =>
   cases h2:ij P cb with
   | none=>simp [h1,h2] at hc
   | some vb =>
     simp only [h1,h2,Option.some.injEq,bY.seq.injEq] at hc
     obtain ⟨rfl,rfl⟩:=hc
     refine wp_seq (h ca h1 own E w a _ hm ?_)
     intro e s' E' w' a' hq had tI
     cases e with
     | normal=>exact hq cb h2 own E' w' a' R tI fun e2 s2 E2 w2 a2 Tr Ts mm2=>hR e2 s2 E2 w2 a2 Tr (had.trans Ts) mm2
     | exit id=>exact hR (.exit id) s' E' w' a' hq had tI
     | ret=>exact hR .ret s' E' w' a' hq had tI
 case region=>exfalso;revert hc;unfold mP;(repeat' split)<;>simp
 all_goals (exfalso;revert hc;(repeat' split)<;>simp)
theorem VW.cond {vc:aV} {x y:bY} {b:Bool} (hb:vc.ev G s.t = .bool b) (h:if b then VW P G π x Q s else VW P G π y Q s):VW P G π (.cond vc x y) Q s:=by
 intro c hc own E w a R hm hR
 cases c<;>simp only [ij,Option.some.injEq,reduceCtorEq] at hc
 case cond cc ca cb =>
   cases h0:cU cc with
   | none=>simp [h0] at hc
   | some vcc =>
   cases h1:ij P ca with
   | none=>simp [h0,h1] at hc
   | some va =>
   cases h2:ij P cb with
   | none=>simp [h0,h1,h2] at hc
   | some vb =>
     simp only [h0,h1,h2,Option.some.injEq,bY.cond.injEq] at hc
     obtain ⟨rfl,rfl,rfl⟩:=hc
     have hr:=aX hm.frame hm.inv h0
     rw [hb] at hr
     simp only [aN] at hr
     refine wp_cond hr ?_
     cases b with
     | true=>simp only [if_true] at h ⊢;exact h ca h1 own E w a R hm hR
     | false=>simp only [Bool.false_eq_true,if_false] at h ⊢;exact h cb h2 own E w a R hm hR
 case region=>exfalso;revert hc;unfold mP;(repeat' split)<;>simp
 all_goals (exfalso;revert hc;(repeat' split)<;>simp)
theorem VW.Zl {vc:aV} {x y:bY} (hb:vc.ev G s.t = .anyb) (h1:VW P G π x Q s) (h2:VW P G π y Q s):VW P G π (.cond vc x y) Q s:=by
 intro c hc own E w a R hm hR
 cases c<;>simp only [ij,Option.some.injEq,reduceCtorEq] at hc
 case cond cc ca cb =>
   cases h0:cU cc with
   | none=>simp [h0] at hc
   | some vcc =>
   cases h3:ij P ca with
   | none=>simp [h0,h3] at hc
   | some va =>
   cases h4:ij P cb with
   | none=>simp [h0,h3,h4] at hc
   | some vb =>
     simp only [h0,h3,h4,Option.some.injEq,bY.cond.injEq] at hc
     obtain ⟨rfl,rfl,rfl⟩:=hc
     have hr:=aX hm.frame hm.inv h0
     rw [hb] at hr
     simp only [aN] at hr
     obtain ⟨b,hr⟩:=hr
     refine wp_cond hr ?_
     cases b with
     | true=>exact h1 ca h3 own E w a R hm hR
     | false=>exact h2 cb h4 own E w a R hm hR
 case region=>exfalso;revert hc;unfold mP;(repeat' split)<;>simp
 all_goals (exfalso;revert hc;(repeat' split)<;>simp)
theorem VW.block {id:Nat} {x:bY} (h:VW P G π x (fun e s'=>match e with | .exit i=>if i=id then Q .normal s' else Q (.exit i) s' | e=>Q e s') s):VW P G π (.block id x) Q s:=by
 intro c hc own E w a R hm hR
 cases c<;>simp only [ij,Option.some.injEq,reduceCtorEq] at hc
 case block i cb =>
   cases h1:ij P cb with
   | none=>simp [h1] at hc
   | some vb =>
     simp only [h1,Option.map_some,Option.some.injEq,bY.block.injEq] at hc
     obtain ⟨rfl,rfl⟩:=hc
     refine wp_block (h cb h1 own E w a _ hm ?_)
     intro e s' E' w' a' hq had tI
     cases e with
     | normal=>exact hR .normal s' E' w' a' hq had tI
     | exit j =>
       simp only [bM.real,Exit.inBlock]
       split
       . rename_i hj;simp only [hj,if_true] at hq;exact hR .normal s' E' w' a' hq had tI
       . rename_i hj;simp only [hj,if_false] at hq;exact hR (.exit j) s' E' w' a' hq had tI
     | ret=>exact hR .ret s' E' w' a' hq had tI
 case region=>exfalso;revert hc;unfold mP;(repeat' split)<;>simp
 all_goals (exfalso;revert hc;(repeat' split)<;>simp)
theorem VW.exit {id:Nat} (h:Q (.exit id) s):VW P G π (.exit id) Q s:=by
 intro c hc own E w a R hm hR
 cases c<;>simp only [ij,Option.some.injEq,reduceCtorEq] at hc
 case exit i =>
   simp only [bY.exit.injEq] at hc;subst hc
   exact wp_exit (hR (.exit i) s E w a h (nk.refl own π E w) hm)
 case region=>exfalso;revert hc;unfold mP;(repeat' split)<;>simp
 all_goals (exfalso;revert hc;(repeat' split)<;>simp)
theorem VW.ret (h:Q .ret s):VW P G π .ret Q s:=by
 intro c hc own E w a R hm hR
 cases c<;>simp only [ij,Option.some.injEq,reduceCtorEq] at hc
 case ret=>exact wp_ret (hR .ret s E w a h (nk.refl own π E w) hm)
 case region=>exfalso;revert hc;unfold mP;(repeat' split)<;>simp
 all_goals (exfalso;revert hc;(repeat' split)<;>simp)
theorem zP {α : Type} {c:Code} {R:Exit->Act->World->Prop} (I : α -> Act->World->Prop) (μ : α -> Nat) {x : α} {a:Act} {w:World} (h₀:I x a w)
   (round:∀ x a w,I x a w->c.wp P (Exit.then (fun a' w'=>∃ x',I x' a' w' /\ μ x' < μ x) R) a w):(Code.loop c).wp P R a w:=by
 intro b k cs
 have key:∀ n x a w, μ x=n->I x a w ->
     ∃ e a' w',R e a' w'/\Arrives P (lone (b.at a (.code c :: .inLoop c::k)) cs w) b k cs e a' w':=by
   intro n
   induction n using Nat.strongRecOn with
   | _ n ih =>
     intro x a w hn hI
     obtain ⟨e,a₁,w₁,hq,MJ⟩:=round x a w hI b (.inLoop c::k) cs
     cases e with
     | normal =>
       obtain ⟨x₁,hI₁,hlt⟩:=hq
       obtain ⟨e₂,a₂,w₂,hq₂,Zm⟩:=ih (μ x₁) (hn▸hlt) x₁ a₁ w₁ rfl hI₁
       exact ⟨e₂,a₂,w₂,hq₂, .of_steps (Steps.trans MJ (.one step_inLoop)) Zm⟩
     | exit id=>exact ⟨_,a₁,w₁,hq, .pass (x := .inLoop c) rfl (fun _ _ => .inl (by simp)) MJ⟩
     | goto l=>exact ⟨_,a₁,w₁,hq, .pass (x := .inLoop c) rfl (fun _ _ => .inl (by simp)) MJ⟩
     | ret=>exact ⟨_,a₁,w₁,hq, .pass (x := .inLoop c) rfl (fun _ _ => .inl (by simp)) MJ⟩
     | panic ch=>exact ⟨_,a₁,w₁,hq, .pass (x := .inLoop c) rfl (fun _ _ => .inl (by simp)) MJ⟩
     | outgrown=>exact ⟨_,a₁,w₁,hq, .pass (x := .inLoop c) rfl (fun _ _ => .inl (by simp)) MJ⟩
 obtain ⟨e,a',w',hq,MJ⟩:=key _ x a w rfl h₀
 exact ⟨e,a',w',hq, .of_steps (.one step_loop) MJ⟩
theorem VW.loop {x:bY} (I:VS->Prop) (m:VS->Nat) (h0:∃ s',Wk G π s s'/\I s')
   (h:∀ s,I s->VW P G π x (fun e s'=>match e with | .normal=>∃ s'',Wk G π s' s''/\I s''/\m s''<m s | e=>Q e s') s):VW P G π (.loop x) Q s:=by
 obtain ⟨s1,QX,hI1⟩:=h0
 refine VW.wk QX ?_
 intro c hc own E w a R hm hR
 cases c<;>simp only [ij,Option.some.injEq,reduceCtorEq] at hc
 case loop cb =>
   cases h1:ij P cb with
   | none=>simp [h1] at hc
   | some vb =>
     simp only [h1,Option.map_some,Option.some.injEq,bY.loop.injEq] at hc
     subst hc
     refine zP (α := VS) (fun s' a' w'=>I s'/\∃ E',nk own π E E' w w'/\mR G π own E' w' s' a') m (x:=s1) ⟨hI1,E,nk.refl own π E w,hm⟩ ?_
     rintro s2 a2 w2 ⟨hI2,E2,Ts,BI⟩
     refine h s2 hI2 cb h1 own E2 w2 a2 _ BI ?_
     intro e s' E' w' a' hq had tI
     cases e with
     | normal =>
       obtain ⟨s3,hw3,hI3,hlt⟩:=hq
       obtain ⟨E3,ad3,hm3⟩:=hw3 own E' w' a' tI
       exact ⟨s3,⟨hI3,E3,(Ts.trans had).trans ad3,hm3⟩,hlt⟩
     | exit id=>exact hR (.exit id) s' E' w' a' hq (Ts.trans had) tI
     | ret=>exact hR .ret s' E' w' a' hq (Ts.trans had) tI
 case region=>exfalso;revert hc;unfold mP;(repeat' split)<;>simp
 all_goals (exfalso;revert hc;(repeat' split)<;>simp)
def Then (k:VS->Prop) (Q:bM->VS->Prop):bM->VS->Prop
 | .normal,s=>k s
 | .exit i,s=>Q (.exit i) s
 | .ret,s=>Q .ret s
def Tt (id:Nat) (Q:bM->VS->Prop):bM->VS->Prop
 | .normal,s=>Q .normal s
 | .exit i,s=>if i=id then Q .normal s else Q (.exit i) s
 | .ret,s=>Q .ret s
theorem zS (k:VS->Prop) (Q:bM->VS->Prop) (s:VS):Then k Q .normal s=k s:=(rfl)
theorem JR (k:VS->Prop) (Q:bM->VS->Prop) (i:Nat) (s:VS):Then k Q (.exit i) s=Q (.exit i) s:=(rfl)
theorem MK (k:VS->Prop) (Q:bM->VS->Prop) (s:VS):Then k Q .ret s=Q .ret s:=(rfl)
theorem Fx (id:Nat) (Q:bM->VS->Prop) (s:VS):Tt id Q .normal s=Q .normal s:=(rfl)
theorem EA (id:Nat) (Q:bM->VS->Prop) (i:Nat) (s:VS):Tt id Q (.exit i) s=if i=id then Q .normal s else Q (.exit i) s:=(rfl)
theorem ML (id:Nat) (Q:bM->VS->Prop) (s:VS):Tt id Q .ret s=Q .ret s:=(rfl)
def yL (P:Program) (G:Nat->Option (List AV)) (π : Id):bY->(bM->VS->Prop)->VS->Prop
 | .skip,Q,s=>Q .normal s
 | .reg none vs,Q,s=>De P G π s.n (fun t σ => Q .normal ⟨t, σ,s.n+vs.length⟩) vs 0 s.t s.σ
 | .reg (some ps) vs,Q,s=>Df P G π s.n (fun rs t σ => ag rs ps/\Q .normal ⟨t, σ,s.n+vs.length⟩) vs 0 [] s.t s.σ
 | .seq x y,Q,s=>yL P G π x (Then (yL P G π y Q) Q) s
 | .cond c x y,Q,s=>match c.ev G s.t with
   | .bool b=>if b then yL P G π x Q s else yL P G π y Q s
   | .anyb=>yL P G π x Q s/\yL P G π y Q s
   | _=>False
 | .block id x,Q,s=>yL P G π x (Tt id Q) s
 | .loop x,Q,s=>VW P G π (.loop x) Q s
 | .exit id,Q,s=>Q (.exit id) s
 | .ret,Q,s=>Q .ret s
theorem VW.of:∀ {vc:bY} {Q:bM->VS->Prop} {s:VS},yL P G π vc Q s->VW P G π vc Q s
 | .skip,_,_,h=>VW.skip h
 | .reg none _,_,_,h=>VW.Vy h
 | .reg (some _) _,_,_,h=>VW.Vz h
 | .seq x y,Q,s,h=>by
   refine VW.seq (VW.mono (VW.of (vc:=x) h) ?_)
   intro e s' hq
   cases e with
   | normal=>exact VW.of (vc:=y) hq
   | exit id=>exact hq
   | ret=>exact hq
 | .cond c x y,Q,s,h=>by
   simp only [yL] at h
   split at h
   . rename_i b hb
     refine VW.cond hb ?_
     cases b with
     | true=>exact VW.of (vc:=x) h
     | false=>exact VW.of (vc:=y) h
   . rename_i hb
     exact VW.Zl hb (VW.of (vc:=x) h.1) (VW.of (vc:=y) h.2)
   . exact h.elim
 | .block id x,Q,s,h=>by
   refine VW.block (VW.mono (VW.of (vc:=x) h) ?_)
   intro e s' hq
   cases e with
   | normal=>exact hq
   | exit i=>exact hq
   | ret=>exact hq
 | .loop x,Q,s,h=>h
 | .exit id,_,_,h=>VW.exit h
 | .ret,_,_,h=>VW.ret h
end
end Go.VL
end

section
namespace Go.VL
section
variable {P:Program} {G:Nat->Option (List AV)} {own:Nat->Prop} {E:Env} {w:World} {σ : ae}
def ab (c:AV):Prop:=∀ E w v,aN E w c v->aN E.bare w c v
theorem ab.bool (b:Bool):ab (.bool b):=fun _ _ _ h=>by simpa [aN] using h
theorem ab.int (k:IntKind) (n:Int):ab (.int k n):=fun _ _ _ h=>by simpa [aN] using h
theorem ab.str (l:List UInt8):ab (.str l):=fun _ _ _ h=>by simpa [aN] using h
theorem ab.nilp:ab .nilp:=fun _ _ _ h=>by simpa [aN] using h
theorem ab.nilf:ab .nilf:=fun _ _ _ h=>by simpa [aN] using h
theorem ab.nils:ab .nils:=fun _ _ _ h=>by simpa [aN] using h
theorem ab.vL {cs:List AV} (h:∀ c∈cs,ab c):∀ {vs:List Value},aU E w cs vs->aU E.bare w cs vs:=by
 induction cs with
 | nil=>intro vs hr;simpa [aU] using hr
 | cons c cs ih =>
   intro vs hr
   simp only [aU] at hr ⊢
   obtain ⟨v,rest,e,h1,h2⟩:=hr
   exact ⟨v,rest,e,h c (by simp) _ _ _ h1,ih (fun x hx=>h x (by simp [hx])) h2⟩
theorem ab.Fy {cs:List AV} (h:∀ c∈cs,ab c) {b o:Nat} (hr:fy E w b o cs):fy E.bare w b o cs :=
 fun j c hj=>let ⟨v,hv,GV⟩:=hr j c hj;⟨v,hv,h c (List.mem_of_getElem? hj) _ _ _ GV⟩
theorem ab.agg {cs:List AV} (h:∀ c∈cs,ab c):ab (.agg cs):=fun E w v hr=>by
 simp only [aN] at hr ⊢;obtain ⟨xs,e,hr⟩:=hr;exact ⟨xs,e,ab.vL h hr⟩
theorem ab.tup {cs:List AV} (h:∀ c∈cs,ab c):ab (.tup cs):=fun E w v hr=>by
 simp only [aN] at hr ⊢;obtain ⟨xs,e,hr⟩:=hr;exact ⟨xs,e,ab.vL h hr⟩
theorem ab.fn {f:Fn} {a c:List AV} (ha:∀ x∈a,ab x) (hc:∀ x∈c,ab x):ab (.fn f a c):=fun E w v hr=>by
 simp only [aN] at hr ⊢;obtain ⟨xs,ys,e,h1,h2⟩:=hr;exact ⟨xs,ys,e,ab.vL ha h1,ab.vL hc h2⟩
theorem ab.sl {k:Nat} {es:List AV} (h:∀ c∈flat es,ab c):ab (.sl k es):=fun E w v hr=>by
 simp only [aN] at hr ⊢
 obtain ⟨a,cap,e,h1,h2,h3,h4⟩:=hr
 exact ⟨a,cap,e,h1,h2,h3,h4.imp id fun ⟨b,o,ea,hb,hr⟩=>⟨b,o,ea,hb,dY.2 (ab.Fy h (dY.1 hr))⟩⟩
theorem ab.tsl {k:Nat} {es:List AV} (h:∀ c∈flat es,ab c):ab (.tsl k es):=fun E w v hr=>by
 simp only [aN] at hr ⊢
 obtain ⟨a,e,h2,h3,h4⟩:=hr
 exact ⟨a,e,h2,h3,h4.imp id fun ⟨b,o,ea,hb,hr⟩=>⟨b,o,ea,hb,dY.2 (ab.Fy h (dY.1 hr))⟩⟩
theorem ab.ep {cs:List AV} {o:Nat} (h:∀ c∈cs,ab c):ab (.ep cs o):=fun E w v hr=>by
 simp only [aN] at hr ⊢
 obtain ⟨b,q,e,hb,hr⟩:=hr
 exact ⟨b,q,e,hb,fN.2 (ab.Fy h (fN.1 hr))⟩
def jS (c:AV):Prop:=∀ E w E' w' v,aN E w c v->aN E' w' c v
theorem jS.bool (b:Bool):jS (.bool b):=fun _ _ _ _ _ h=>by simpa [aN] using h
theorem jS.int (k:IntKind) (n:Int):jS (.int k n):=fun _ _ _ _ _ h=>by simpa [aN] using h
theorem jS.str (l:List UInt8):jS (.str l):=fun _ _ _ _ _ h=>by simpa [aN] using h
theorem jS.vL {cs:List AV} (h:∀ c∈cs,jS c) {E E':Env} {w w':World}:∀ {vs:List Value},aU E w cs vs->aU E' w' cs vs:=by
 induction cs with
 | nil=>intro vs hr;simpa [aU] using hr
 | cons c cs ih =>
   intro vs hr
   simp only [aU] at hr ⊢
   obtain ⟨v,rest,e,h1,h2⟩:=hr
   exact ⟨v,rest,e,h c (by simp) _ _ _ _ _ h1,ih (fun x hx=>h x (by simp [hx])) h2⟩
theorem jS.tup {cs:List AV} (h:∀ c∈cs,jS c):jS (.tup cs):=fun _ _ _ _ _ hr=>by
 simp only [aN] at hr ⊢;obtain ⟨xs,e,hr⟩:=hr;exact ⟨xs,e,jS.vL h hr⟩
theorem jS.agg {cs:List AV} (h:∀ c∈cs,jS c):jS (.agg cs):=fun _ _ _ _ _ hr=>by
 simp only [aN] at hr ⊢;obtain ⟨xs,e,hr⟩:=hr;exact ⟨xs,e,jS.vL h hr⟩
def Env.ki (E:Env) (σ : ae):Env:=⟨fun _=>none,fun b=>E.ok b∨∃ id bk k N, σ id=some bk/\E.μ id=some (b,k,N)⟩
def View (σ : ae) (c d:AV):Prop:=∀ G own E w v,Inv G own E w σ -> aN E w c v->aN (E.ki σ) w d v
def az (σ : ae) (cs ds:List AV):Prop:=cs.length=ds.length/\∀ (j:Nat) (c d:AV),cs[j]? = some c->ds[j]? = some d->View σ c d
theorem Step.ki (E:Env) (σ : ae) (w:World):Step E.bare (E.ki σ) w w:=⟨fun _ _ h=>by simp [Env.bare] at h,fun _ h => .inl h,fun _ _=>rfl⟩
theorem View.pure {c:AV} (h:ab c):View σ c c:=fun _ _ E w v _ hr=>aN.keep (Step.ki E σ w) c v (h E w v hr)
theorem az.pure {cs:List AV} (h:∀ c∈cs,ab c):az σ cs cs :=
 ⟨rfl,fun j c d hc hd=>by rw [hc] at hd;simp only [Option.some.injEq] at hd;subst hd;exact View.pure (h c (List.mem_of_getElem? hc))⟩
theorem az.nil:az σ [] []:=⟨rfl,by simp⟩
theorem az.cons {c d:AV} {cs ds:List AV} (h:View σ c d) (hl:az σ cs ds):az σ (c::cs) (d::ds) :=
 ⟨by simp [hl.1],fun j x y hx hy=>by
   cases j with
   | zero=>simp at hx hy;subst hx;subst hy;exact h
   | succ j=>exact hl.2 j x y (by simpa using hx) (by simpa using hy)⟩
theorem az.vL {cs ds:List AV} (h:az σ cs ds) (hi:Inv G own E w σ) {vs:List Value} (hr:aU E w cs vs):aU (E.ki σ) w ds vs:=by
 obtain ⟨hl,hp⟩:=bT.1 hr
 refine bT.2 ⟨by rw [hl,h.1],fun j d hd => ?_⟩
 have hj:j<cs.length:=by rw [h.1];exact (List.getElem?_eq_some_iff.1 hd).1
 obtain ⟨v,hv,GV⟩:=hp j cs[j] (by simp [hj])
 exact ⟨v,hv,h.2 j _ d (by simp [hj]) hd G own E w v hi GV⟩
theorem az.Fy {cs ds:List AV} (h:az σ cs ds) (hi:Inv G own E w σ) {b o:Nat} (hr:fy E w b o cs):fy (E.ki σ) w b o ds:=by
 intro j d hd
 have hj:j<cs.length:=by rw [h.1];exact (List.getElem?_eq_some_iff.1 hd).1
 obtain ⟨v,hv,GV⟩:=hr j cs[j] (by simp [hj])
 exact ⟨v,hv,h.2 j _ d (by simp [hj]) hd G own E w v hi GV⟩
theorem View.agg {cs ds:List AV} (h:az σ cs ds):View σ (.agg cs) (.agg ds):=fun G own E w v hi hr=>by
 simp only [aN] at hr ⊢;obtain ⟨xs,e,hr⟩:=hr;exact ⟨xs,e,h.vL hi hr⟩
theorem View.tup {cs ds:List AV} (h:az σ cs ds):View σ (.tup cs) (.tup ds):=fun G own E w v hi hr=>by
 simp only [aN] at hr ⊢;obtain ⟨xs,e,hr⟩:=hr;exact ⟨xs,e,h.vL hi hr⟩
theorem View.nils (k:Nat):View σ .nils (.sl k []):=fun G own E w v hi hr=>by
 simp only [aN] at hr ⊢;exact ⟨none,0,hr,Nat.le_refl _,Nat.zero_le _,by simp, .inl trivial⟩
theorem View.Zn (k:Nat):View σ (.tsl k []) (.sl k []):=fun G own E w v hi hr=>by
 simp only [aN] at hr ⊢
 obtain ⟨a,e,_⟩:=hr
 exact ⟨a,0,e,Nat.le_refl _,Nat.zero_le _,by simp, .inl trivial⟩
theorem View.sl {k:Nat} {es ds:List AV} (h:az σ (flat es) (flat ds)) (hl:es.length=ds.length) (hk:∀ d∈ds,d.size=k):View σ (.sl k es) (.sl k ds):=fun G own E w v hi hr=>by
 simp only [aN] at hr ⊢
 obtain ⟨a,cap,e,h1,h2,h3,h4⟩:=hr
 refine ⟨a,cap,by rw [<- hl];exact e,by rw [<- hl];exact h1,h2,hk, ?_⟩
 rcases h4 with h4 | ⟨b,o,ea,hb,hr⟩
 . left;subst h4;simpa using hl.symm
 . right;exact ⟨b,o,ea, .inl hb,dY.2 (h.Fy hi (dY.1 hr))⟩
theorem View.tsl {k:Nat} {es ds:List AV} (h:az σ (flat es) (flat ds)) (hl:es.length=ds.length) (hk:∀ d∈ds,d.size=k):View σ (.tsl k es) (.sl k ds):=fun G own E w v hi hr=>by
 simp only [aN] at hr ⊢
 obtain ⟨a,e,h2,h3,h4⟩:=hr
 refine ⟨a,es.length,by rw [<- hl];exact e,by rw [<- hl];exact Nat.le_refl _,h2,hk, ?_⟩
 rcases h4 with h4 | ⟨b,o,ea,hb,hr⟩
 . left;subst h4;simpa using hl.symm
 . right;exact ⟨b,o,ea, .inl hb,dY.2 (h.Fy hi (dY.1 hr))⟩
theorem View.osl {id:Id} {bk:dc} {k off len:Nat} {t:Bool} {ds:List AV} (hσ : σ id=some bk) (hk:bk.k=k) (hle:off+len<=bk.els.length)
   (h:az σ (flat ((bk.els.drop off).take len)) (flat ds)) (hl:ds.length=len) (hkd:∀ d∈ds,d.size=k):View σ (.osl id k off len t) (.sl k ds):=fun G own E w v hi hr=>by
 obtain ⟨g,N,cur,ty,hB⟩:=hi.blk id bk hσ
 simp only [aN] at hr ⊢
 obtain ⟨g',N',cap,hm,e,h1,h2,h3,_⟩:=hr
 rw [hB.μ] at hm
 simp only [Option.some.injEq,Prod.mk.injEq] at hm
 obtain ⟨rfl,_,rfl⟩:=hm
 refine ⟨_,cap,by rw [hl];exact e,by rw [hl];exact h1,by omega,hkd, .inr ⟨g,off*k,rfl, .inr ⟨id,bk,bk.k,N,hσ,hB.μ⟩, ?_⟩⟩
 refine dY.2 (h.Fy hi ?_)
 have:=se (l:=off) (r:=off+len) hB.k hB.row (by omega) hle
 rw [Nat.zero_add,hk] at this
 have e2:(bk.els.take (off+len)).drop off=(bk.els.drop off).take len:=by rw [List.drop_take];congr 1;omega
 rwa [e2] at this
def VP (P:Program) (G:Nat->Option (List AV)) (f:FuncId) (args:List AV) (r:AV):Prop :=
 (∃ fn,P.funcs[f]? = some fn/\(fn.name == "runtime.NumGoroutine")=false/\fn.body.isSome=true) /\
 ∀ w vs ok,Inv G (fun k=>w.heap.size<=k) ⟨fun _=>none,ok⟩ w (fun _=>none)->aU ⟨fun _=>none,ok⟩ w args vs ->
   Calls P f vs.toArray w fun e w'=>∃ v ok',e = .returned v/\Adv (fun k=>w.heap.size<=k) ⟨fun _=>none,ok⟩ ⟨fun _=>none,ok'⟩ w w'/\(∀ b,ok' b->b<w'.heap.size)/\aN ⟨fun _=>none,ok'⟩ w' r v
theorem aM.QY {f:FuncId} {args:List AV} {r:AV} (h:VP P G f args r) (hp:∀ c∈args,ab c) (p:Id):aM P G f args p [] { val:=r }:=by
 refine ⟨h.1,fun own E w σ vs _ hi hr hμ => ?_⟩
 have Mo:Inv G (fun k=>w.heap.size<=k) ⟨fun _=>none,E.ok⟩ w (fun _=>none):=⟨hi.okb,fun id bk h=>by simp at h,fun i j x y h=>absurd rfl h,hi.glob,fun k hk=>hk⟩
 refine (h.2 w vs E.ok Mo (ab.vL hp hr)).mono fun e w' he => ?_
 obtain ⟨v,ok',rfl,had,ib,hv⟩:=he
 have ig:Adv own E ⟨E.μ,ok'⟩ w w' :=
   ⟨⟨fun _ _ h=>h,had.step.ok,had.step.same⟩,had.os,had.tape,had.output,had.size,fun k hk _=>had.block k hk (by omega),fun b hb=>(had.YE b hb).imp id fun h=>hi.new b h⟩
 refine ⟨v,⟨E.μ,ok'⟩,rfl,ig, ?_, ?_,fun _ _=>rfl⟩
 . refine hi.keep ig rfl ib fun id bk g N hs hm => ?_
   obtain ⟨g',N',cur,ty,hB⟩:=hi.blk id bk hs
   rw [hB.μ] at hm
   simp only [Option.some.injEq,Prod.mk.injEq] at hm
   obtain ⟨rfl,_,rfl⟩:=hm
   have hg:=ic hB.heap
   exact ⟨had.block _ hg (by omega),fun hf hb=>(had.YE _ hb).elim (hB.no hf) (fun h=>by omega)⟩
 . exact aN.keep (⟨fun _ _ h=>by simp at h,fun _ h=>h,fun _ _=>rfl⟩:Step ⟨fun _=>none,ok'⟩ ⟨E.μ,ok'⟩ w' w') r v hv
def bC (s:VS):vI->Option AV
 | .tmp t=>some (s.t.getD t (.tup []))
 | .cell x agg n=>(lK s.σ agg n (s.t.getD x (.tup []))).map (·.val)
def bn (rs:List vI) (s:VS):Option AV :=
 match rs.mapM (bC s) with
 | some [v]=>some v
 | some vs=>some (.tup vs)
 | none=>none
theorem MM {α β : Type} {f : α -> Sem β}:∀ (l:List α) (vs:List β),vs.length=l.length->(∀ (i:Nat) (a : α) (v : β),l[i]? = some a->vs[i]? = some v->(f a).run P w = .ok v w)->(l.mapM f).run P w = .ok vs w
 | [],vs,hl,_=>by
   have:vs=[]:=List.eq_nil_of_length_eq_zero hl
   subst this;rfl
 | a::l,[],hl,_=>by simp at hl
 | a::l,v::vs,hl,h=>by
   have h0:=h 0 a v rfl rfl
   have ih:=MM l vs (by simpa using hl) (fun i x y hx hy=>h (i+1) x y (by simpa using hx) (by simpa using hy))
   simp [List.mapM_cons,h0,ih]
theorem Zo {π : Id} {s:VS} {a:Act} (hm:mR G π own E w s a) {rv:ResultVar} {vr:vI} (hc:U9 P rv=some vr) {c:AV} (h:bC s vr=some c) :
   ∃ v,(match rv with | .tmp t=>(pure (a.tmps.getD t undef):Sem Value) | .cell x t=>do loadVar t (<- asAddr (a.tmps.getD x undef))).run P w = .ok v w/\aN E w c v:=by
 cases rv with
 | tmp t =>
   simp only [U9,Option.some.injEq] at hc;subst hc
   simp only [bC,Option.some.injEq] at h;subst h
   exact ⟨_,rfl,hm.frame.get t⟩
 | cell x t =>
   simp only [U9] at hc
   cases ha:qu P t with
   | none=>simp [ha] at hc
   | some g =>
   cases F0:P.info? t with
   | none=>simp [ha,F0] at hc
   | some i =>
     simp only [ha,F0] at hc
     split at hc
     . simp only [Option.some.injEq] at hc;subst hc
       simp only [bC,Option.map_eq_some_iff] at h
       obtain ⟨r,hr,rfl⟩:=h
       obtain ⟨⟨v,h1,h2⟩,_,ad,had⟩:=JE hm.inv ha F0 (hm.frame.get x) hr
       refine ⟨v, ?_,h2⟩
       simp only []
       rw [had] at h1 ⊢
       simpa [Instr.loadAt,Instr.sureAddr,asAddr] using h1
     . simp at hc
theorem Fz {π : Id} {s:VS} {a:Act} (hm:mR G π own E w s a) {fn:Func} {rs:List vI} (hc:fn.results.toList.mapM (U9 P)=some rs) {c:AV} (h:bn rs s=some c) :
   ∃ v,(results fn a.tmps).run P w = .ok v w/\aN E w c v:=by
 unfold bn at h
 cases hcs:rs.mapM (bC s) with
 | none=>simp [hcs] at h
 | some cs =>
   have hlen:cs.length=fn.results.toList.length:=by rw [iJ hcs,iJ hc]
   let F:ResultVar->Sem Value:=fun rv=>match rv with | .tmp t=>(pure (a.tmps.getD t undef):Sem Value) | .cell x t=>do loadVar t (<- asAddr (a.tmps.getD x undef))
   have hex:∀ j,j<cs.length->∃ v,(∀ rv,fn.results.toList[j]? = some rv->(F rv).run P w = .ok v w)/\∀ c,cs[j]? = some c->aN E w c v:=by
     intro j hj
     obtain ⟨vr,h1,h2⟩:=mapM_some_get hcs j cs[j] (by simp [hj])
     obtain ⟨rv,h3,h4⟩:=mapM_some_get hc j vr h1
     obtain ⟨v,h5,h6⟩:=Zo hm h4 h2
     refine ⟨v,fun rv' GV => ?_,fun c hc => ?_⟩
     . rw [h3] at GV;simp only [Option.some.injEq] at GV;subst GV;exact h5
     . simp only [hj,List.getElem?_eq_getElem,Option.some.injEq] at hc;subst hc;exact h6
   let val:Nat->Value:=fun j=>if hj:j<cs.length then Classical.choose (hex j hj) else undef
   have hval:∀ j (hj:j<cs.length),(∀ rv,fn.results.toList[j]? = some rv->(F rv).run P w = .ok (val j) w)/\∀ c,cs[j]? = some c->aN E w c (val j):=by
     intro j hj
     simp only [val,hj,dif_pos]
     exact Classical.choose_spec (hex j hj)
   let vs:List Value:=(List.range cs.length).map val
   have yK:vs.length=cs.length:=by simp [vs]
   have hrun:(fn.results.toList.mapM F).run P w = .ok vs w:=by
     refine MM _ vs (by rw [yK,hlen]) fun i rv v GV hv => ?_
     have hi:i<cs.length:=by have:=(List.getElem?_eq_some_iff.1 hv).1;omega
     have:v=val i:=by simp [vs,hi] at hv;exact hv.symm
     subst this
     exact (hval i hi).1 rv GV
   have Tu:aU E w cs vs:=bT.2 ⟨yK,fun j c hj=>by
     have zD:=(List.getElem?_eq_some_iff.1 hj).1
     exact ⟨val j,by simp [vs,zD],(hval j zD).2 c hj⟩⟩
   have MD:(results fn a.tmps).run P w=(pure (if h:vs.toArray.size=1 then vs.toArray[0] else .tuple vs.toArray):Sem Value).run P w:=by
     unfold results
     rw [Array.mapM_eq_mapM_toList]
     simp only [Sem.run_bind,Sem.run_map]
     exact congrArg (fun x:Result (List Value)=>(x.andThen fun b w'=>Result.ok b.toArray w').andThen fun b w'=>Sem.run P (pure (if h:b.size=1 then b[0] else Value.tuple b)) w') hrun
   rw [MD]
   refine ⟨_,rfl, ?_⟩
   simp only [hcs] at h
   split at h
   . rename_i c0 heq
     simp only [Option.some.injEq] at heq h
     subst h
     have jT:vs.toArray.size=1:=by simp [yK,heq]
     rw [dif_pos jT]
     rw [heq] at Tu
     simp only [aU] at Tu
     obtain ⟨v,rest,hv,h1,rfl⟩:=Tu
     simpa [hv] using h1
   . rename_i C4 hne heq
     simp only [Option.some.injEq] at heq h
     subst h;subst heq
     have jT : ¬ vs.toArray.size=1:=by
       intro e
       simp [yK] at e
       obtain ⟨x,hx⟩:=List.length_eq_one_iff.1 e
       exact hne x (by rw [hx])
     rw [dif_neg jT]
     simp only [aN]
     exact ⟨_,rfl,by simpa using Tu⟩
   . simp at *
theorem VP.VA {f:FuncId} {fn:Func} {vf:ax} (hf:P.funcs[f]? = some fn) (hc:JA P fn=some vf) {args:List AV} {r:AV}
   (h:VW P G [] vf.body (fun e s'=>(e = .normal∨e = .ret)/\∃ r0,bn vf.results s'=some r0/\View s'.σ r0 r) ⟨args++List.replicate (vf.nt-args.length) (.tup []),fun _=>none,0⟩):VP P G f args r:=by
 unfold JA at hc
 split at hc
 . simp at hc
 . rename_i zL
   split at hc
   . rename_i c rs hb I3
     simp only [Option.map_eq_some_iff] at hc
     obtain ⟨vb,hvb,rfl⟩:=hc
     refine ⟨⟨fn,hf,by simpa using zL,by simp [hb]⟩,fun w vs ok hi hr => ?_⟩
     refine calls_of_wp hf hb ?_
     have hal:vs.length=args.length:=aU.len hr
     have hm:mR G [] (fun k=>w.heap.size<=k) ⟨fun _=>none,ok⟩ w ⟨args++List.replicate (fn.ntmps-args.length) (.tup []),fun _=>none,0⟩
         { tmps:=vs.toArray++Array.replicate (fn.ntmps-vs.toArray.size) undef,defers:=[] }:=by
       refine ⟨?_,hi,fun _ _ _=>rfl,rfl⟩
       show aU _ w _ _
       simp only [Array.toList_append,Array.toList_replicate,List.size_toArray,hal]
       refine aU.append hr (bT.2 ⟨by simp,fun j c hj => ?_⟩)
       have zD:j<fn.ntmps-args.length:=by have:=(List.getElem?_eq_some_iff.1 hj).1;simpa using this
       simp only [List.getElem?_replicate,zD,if_true,Option.some.injEq] at hj ⊢
       subst hj
       exact ⟨undef,rfl,by simp only [aN,undef];exact ⟨#[],rfl,by simp [aU]⟩⟩
     refine h c hvb _ _ w _ _ hm ?_
     intro e s' E' w' a' hq had tI
     obtain ⟨he,r0,hr0,fR⟩:=hq
     obtain ⟨v,qq,xd⟩:=Fz tI I3 hr0
     have fin:∃ v,(results fn a'.tmps).run P w' = .ok v w'/\∃ v' ok',Ending.returned v = .returned v'/\Adv (fun k=>w.heap.size<=k) ⟨fun _=>none,ok⟩ ⟨fun _=>none,ok'⟩ w w'/\(∀ b,ok' b->b<w'.heap.size)/\aN ⟨fun _=>none,ok'⟩ w' r v':=by
       refine ⟨v,qq,v,(E'.ki s'.σ).ok,rfl, ?_, ?_, ?_⟩
       . refine ⟨⟨fun _ _ h=>by simp at h,fun b hb => .inl (had.step.ok b hb),had.step.same⟩,had.os,had.tape,had.output,had.size,had.block, ?_⟩
         rintro b (hb | ⟨id,bk,k,N,hs,hmu⟩)
         . exact had.YE b hb
         . obtain ⟨g,N',cur,ty,hB⟩:=tI.inv.blk id bk hs
           rw [hB.μ] at hmu
           simp only [Option.some.injEq,Prod.mk.injEq] at hmu
           right;rw [<- hmu.1];exact hB.own
       . rintro b (hb | ⟨id,bk,k,N,hs,hmu⟩)
         . exact tI.inv.okb b hb
         . obtain ⟨g,N',cur,ty,hB⟩:=tI.inv.blk id bk hs
           rw [hB.μ] at hmu
           simp only [Option.some.injEq,Prod.mk.injEq] at hmu
           rw [<- hmu.1];exact ic hB.heap
       . exact fR G _ E' w' v tI.inv xd
     rcases he with rfl | rfl
     . exact ⟨tI.defers,fin⟩
     . exact ⟨tI.defers,fin⟩
   . simp at hc
end
end Go.VL
end

section
namespace Go.VL
section
variable {P:Program} {G:Nat->Option (List AV)} {π : Id} {Q:bM->VS->Prop} {s:VS}
def Fg:List AV->List AV->Prop
 | [],[]=>True
 | c::cs,d::ds=>(d = .top∨d=c)/\Fg cs ds
 | _,_=>False
theorem Fg.rep {E:Env} {w:World}:∀ {cs ds:List AV} {vs:List Value},Fg cs ds->aU E w cs vs->aU E w ds vs
 | [],[],_,_,h=>h
 | c::cs,d::ds,vs,hf,h=>by
   simp only [Fg] at hf
   simp only [aU] at h ⊢
   obtain ⟨v,rest,e,h1,h2⟩:=h
   refine ⟨v,rest,e, ?_,Fg.rep hf.2 h2⟩
   rcases hf.1 with rfl | rfl
   . simp [aN]
   . exact h1
 | [],_::_,_,h,_=>by simp [Fg] at h
 | _::_,[],_,h,_=>by simp [Fg] at h
theorem Wk.forget {t t':List AV} {σ σ':ae} {n n':Nat} (ht:Fg t t') (hs:∀ id, σ' id=none ∨ σ' id = σ id) (hn:n<=n'):Wk G π ⟨t, σ,n⟩ ⟨t', σ',n'⟩ :=
 fun own E w _ hm=>⟨E,nk.refl own π E w,ht.rep hm.frame,hm.inv.sub hs,hm.free.mono hn,hm.defers⟩
theorem Wk.slots {t t':List AV} {σ : ae} {n n':Nat} (ht:Fg t t') (hn:n<=n'):Wk G π ⟨t, σ,n⟩ ⟨t', σ,n'⟩:=Wk.forget ht (fun _ => .inr rfl) hn
def gy (P:Program) (G:Nat->Option (List AV)) (π : Id) (x:bY) (Q:bM->VS->Prop):Nat->VS->Prop
 | 0,_=>False
 | n+1,s=>VW P G π x (Then (gy P G π x Q n) Q) s
theorem VW.rounds {x:bY} (n:Nat) (h:gy P G π x Q n s):VW P G π (.loop x) Q s:=by
 intro c hc own E w a R hm hR
 cases c<;>simp only [ij,Option.some.injEq,reduceCtorEq] at hc
 case loop cb =>
   cases h1:ij P cb with
   | none=>simp [h1] at hc
   | some vb =>
     simp only [h1,Option.map_some,Option.some.injEq,bY.loop.injEq] at hc
     subst hc
     refine wp_loop_rounds n ?_
     have key:∀ n s E2 w2 a2,gy P G π vb Q n s->nk own π E E2 w w2->mR G π own E2 w2 s a2->Code.rounds P cb R n a2 w2:=by
       intro n
       induction n with
       | zero=>intro s E2 w2 a2 h _ _;exact h.elim
       | succ n ih =>
         intro s E2 w2 a2 h ad hm
         refine h cb h1 own E2 w2 a2 _ hm ?_
         intro e s' E' w' a' hq had tI
         cases e with
         | normal=>exact ih s' E' w' a' hq (ad.trans had) tI
         | exit id=>exact hR (.exit id) s' E' w' a' hq (ad.trans had) tI
         | ret=>exact hR .ret s' E' w' a' hq (ad.trans had) tI
     exact key n s E w a h (nk.refl own π E w) hm
 case region=>exfalso;revert hc;unfold mP;(repeat' split)<;>simp
 all_goals (exfalso;revert hc;(repeat' split)<;>simp)
end
end Go.VL
end

section
namespace Go.VL
def hH.uN {α : Type}:hH α -> Bool
 | .call _ _=>true
 | _=>false
def JS (G:Nat->Option (List AV)) (σ : ae) (p:Id) (d:Option Nat) (op:hH aV) (g:Option (Nat × Bool)) (t:List AV):Option (List AV × fL × ae) :=
 match fP t g with
 | none=>none
 | some false=>some (hJ t d (.tup []),{ val := .tup [] }, σ)
 | some true=>match bW σ p (op.map (aV.ev G t)) with
   | some r=>some (hJ t d r.val,r, σ.app r.up)
   | none=>none
section
variable (P:Program) (G:Nat->Option (List AV)) (π : Id)
def vs (base:Nat) (Q:bM->VS->Prop) (n:Nat) (os:List bx) (i:Nat) (t:List AV) (σ : ae):Prop :=
 De P G π base (fun t σ => Q .normal ⟨t, σ,n⟩) os i t σ
def vd (base:Nat) (Q:bM->VS->Prop) (n:Nat) (ps:List (Nat × Nat)) (os:List bx) (i:Nat) (acc:List fL) (t:List AV) (σ : ae):Prop :=
 Df P G π base (fun rs t σ => ag rs ps/\Q .normal ⟨t, σ,n⟩) os i acc t σ
def agY (base:Nat) (Q:bM->VS->Prop) (n:Nat) (os:List bx) (i:Nat):Option (List AV × fL × ae)->Prop
 | some (t,_, σ)=>vs P G π base Q n os i t σ
 | none=>False
def agZ (base:Nat) (Q:bM->VS->Prop) (n:Nat) (ps:List (Nat × Nat)) (os:List bx) (i:Nat) (acc:List fL):Option (List AV × fL × ae)->Prop
 | some (t,r, σ)=>vd P G π base Q n ps os i (r::acc) t σ
 | none=>False
def EB (base:Nat) (Q:bM->VS->Prop) (n:Nat) (d:Option Nat) (os:List bx) (i:Nat) (t:List AV) (σ : ae) (f:FuncId) (args:List AV):Prop :=
 ∃ S r,aM P G f args ((base+i) :: π) S r/\(∀ x∈S, σ x.1=some x.2)/\(∀ x∈S,x.1∈r.rd)/\vs P G π base Q n os (i+1) (hJ t d r.val) (σ.app r.up)
def Hd (base:Nat) (Q:bM->VS->Prop) (n:Nat) (ps:List (Nat × Nat)) (d:Option Nat) (os:List bx) (i:Nat) (acc:List fL) (t:List AV) (σ : ae) (f:FuncId) (args:List AV):Prop :=
 ∃ S r,aM P G f args ((base+i) :: π) S r/\(∀ x∈S, σ x.1=some x.2)/\(∀ x∈S,x.1∈r.rd)/\vd P G π base Q n ps os (i+1) (r::acc) (hJ t d r.val) (σ.app r.up)
def QZ (base:Nat) (Q:bM->VS->Prop) (n:Nat) (d:Option Nat) (os:List bx) (i:Nat) (t:List AV) (σ : ae):Option Bool->AV->List AV->Prop
 | some true, .fn (.func f) first cap,l=>EB P G π base Q n d os i t σ f (first++l++cap)
 | some false,_,_=>vs P G π base Q n os (i+1) (hJ t d (.tup [])) σ
 | _,_,_=>False
def Q1 (base:Nat) (Q:bM->VS->Prop) (n:Nat) (ps:List (Nat × Nat)) (d:Option Nat) (os:List bx) (i:Nat) (acc:List fL) (t:List AV) (σ : ae):Option Bool->AV->List AV->Prop
 | some true, .fn (.func f) first cap,l=>Hd P G π base Q n ps d os i acc t σ f (first++l++cap)
 | some false,_,_=>vd P G π base Q n ps os (i+1) ({ val := .tup [] }::acc) (hJ t d (.tup [])) σ
 | _,_,_=>False
variable {P} {G} {π}
variable {base:Nat} {Q:bM->VS->Prop} {n:Nat} {ps:List (Nat × Nat)} {d:Option Nat} {g:Option (Nat × Bool)} {os:List bx} {i:Nat} {acc:List fL} {t:List AV} {σ : ae}
theorem VB:vs P G π base Q n [] i t σ = Q .normal ⟨t, σ,n⟩:=(rfl)
theorem VC:vd P G π base Q n ps [] i acc t σ = (ag acc.reverse ps/\Q .normal ⟨t, σ,n⟩):=(rfl)
theorem vM {σ : ae} {p:Id} {op:hH AV} {K:fL->Prop} (h:op.uN=false):zM P G σ p op K=(match bW σ p op with | some r=>K r | none=>False):=by
 cases op<;>first | rfl | simp [hH.uN] at h
theorem He {op:hH aV} {f:aV->AV}:(op.map f).uN=op.uN:=by cases op<;>rfl
theorem ag0 {op:hH aV} (h:op.uN=false):vs P G π base Q n (⟨d,op,g⟩::os) i t σ = agY P G π base Q n os (i+1) (JS G σ ((base+i) :: π) d op g t):=by
 unfold vs
 simp only [De,JS]
 cases hw:fP t g with
 | none=>rfl
 | some b =>
   cases b with
   | false=>rfl
   | true =>
     simp only []
     rw [vM (by rw [He];exact h)]
     cases bW σ ((base+i) :: π) (op.map (aV.ev G t))<;>rfl
theorem ag1 {op:hH aV} (h:op.uN=false):vd P G π base Q n ps (⟨d,op,g⟩::os) i acc t σ = agZ P G π base Q n ps os (i+1) acc (JS G σ ((base+i) :: π) d op g t):=by
 unfold vd
 simp only [Df,JS]
 cases hw:fP t g with
 | none=>rfl
 | some b =>
   cases b with
   | false=>rfl
   | true =>
     simp only []
     rw [vM (by rw [He];exact h)]
     cases bW σ ((base+i) :: π) (op.map (aV.ev G t))<;>rfl
theorem Zp {f:aV} {l:List aV}:vs P G π base Q n (⟨d, .call f l,g⟩::os) i t σ = QZ P G π base Q n d os i t σ (fP t g) (f.ev G t) (l.map (aV.ev G t)):=by
 unfold vs QZ
 simp only [De]
 cases hw:fP t g with
 | none=>rfl
 | some b =>
   cases b with
   | false=>rfl
   | true =>
     simp only [hH.map,zM]
     cases hf:f.ev G t<;>try rfl
     rename_i fn a c
     cases fn<;>rfl
theorem Zq {f:aV} {l:List aV}:vd P G π base Q n ps (⟨d, .call f l,g⟩::os) i acc t σ = Q1 P G π base Q n ps d os i acc t σ (fP t g) (f.ev G t) (l.map (aV.ev G t)):=by
 unfold vd Q1
 simp only [Df]
 cases hw:fP t g with
 | none=>rfl
 | some b =>
   cases b with
   | false=>rfl
   | true =>
     simp only [hH.map,zM]
     cases hf:f.ev G t<;>try rfl
     rename_i fn a c
     cases fn<;>rfl
theorem Hf {f:FuncId} {first cap l:List AV}:QZ P G π base Q n d os i t σ (some true) (.fn (.func f) first cap) l=EB P G π base Q n d os i t σ f (first++l++cap):=(rfl)
theorem Hg {f:FuncId} {first cap l:List AV}:Q1 P G π base Q n ps d os i acc t σ (some true) (.fn (.func f) first cap) l=Hd P G π base Q n ps d os i acc t σ f (first++l++cap):=(rfl)
theorem ah {f:FuncId} {args:List AV} {r:AV} (h:VP P G f args r) (hp:∀ c∈args,ab c) (k:vs P G π base Q n os (i+1) (hJ t d r) σ):EB P G π base Q n d os i t σ f args :=
 ⟨[],{ val:=r },aM.QY h hp _,by simp,by simp,k⟩
theorem ao {f:FuncId} {args:List AV} {r:AV} (h:VP P G f args r) (hp:∀ c∈args,ab c) (k:vd P G π base Q n ps os (i+1) ({ val:=r }::acc) (hJ t d r) σ):Hd P G π base Q n ps d os i acc t σ f args :=
 ⟨[],{ val:=r },aM.QY h hp _,by simp,by simp,k⟩
def MN (P:Program) (G:Nat->Option (List AV)) (π : Id) (x y:bY) (Q:bM->VS->Prop) (s:VS):AV->Prop
 | .bool b=>if b then yL P G π x Q s else yL P G π y Q s
 | .anyb=>yL P G π x Q s/\yL P G π y Q s
 | _=>False
theorem Hh {x y:bY} {s:VS}:MN P G π x y Q s (.bool true)=yL P G π x Q s:=(rfl)
theorem FA {x y:bY} {s:VS}:MN P G π x y Q s (.bool false)=yL P G π y Q s:=(rfl)
theorem JT {x y:bY} {s:VS}:MN P G π x y Q s .anyb=(yL P G π x Q s/\yL P G π y Q s):=(rfl)
theorem MO {s:VS}:yL P G π .skip Q s=Q .normal s:=(rfl)
theorem Hi {os:List bx} {n:Nat}:yL P G π (.reg none os) Q ⟨t, σ,n⟩=vs P G π n Q (n+os.length) os 0 t σ := (rfl)
theorem Hj {os:List bx} {n:Nat}:yL P G π (.reg (some ps) os) Q ⟨t, σ,n⟩=vd P G π n Q (n+os.length) ps os 0 [] t σ := (rfl)
theorem Q3 {x y:bY} {s:VS}:yL P G π (.seq x y) Q s=yL P G π x (Then (yL P G π y Q) Q) s:=(rfl)
theorem MP {c:aV} {x y:bY} {n:Nat}:yL P G π (.cond c x y) Q ⟨t, σ,n⟩=MN P G π x y Q ⟨t, σ,n⟩ (c.ev G t):=by
 simp only [yL,MN]<;>cases c.ev G t<;>rfl
theorem JU {id:Nat} {x:bY} {s:VS}:yL P G π (.block id x) Q s=yL P G π x (Tt id Q) s:=(rfl)
theorem aY {x:bY} {s:VS}:yL P G π (.loop x) Q s=VW P G π (.loop x) Q s:=(rfl)
theorem MQ {id:Nat} {s:VS}:yL P G π (.exit id) Q s=Q (.exit id) s:=(rfl)
theorem Q4 {s:VS}:yL P G π .ret Q s=Q .ret s:=(rfl)
def Tv (rs:List vI) (r:AV) (e:bM) (s:VS):Prop:=(e = .normal∨e = .ret)/\∃ r0,bn rs s=some r0/\View s.σ r0 r
theorem ai {rs:List vI} {r:AV} {s:VS}:Tv rs r .ret s=∃ r0,bn rs s=some r0/\View s.σ r0 r:=by simp [Tv]
theorem FB {rs:List vI} {r:AV} {s:VS}:Tv rs r .normal s=∃ r0,bn rs s=some r0/\View s.σ r0 r:=by simp [Tv]
def JV {α : Type} (G:Nat->Option (List AV)) (π : Id) (st : α -> VS) (Pr : α -> Prop) (m : α -> Nat) (a : α) (Q:bM->VS->Prop):bM->VS->Prop
 | .normal,s'=>∃ a',Pr a'/\m a'<m a/\Wk G π s' (st a')
 | .exit i,s'=>Q (.exit i) s'
 | .ret,s'=>Q .ret s'
theorem Dk {α : Type} {st : α -> VS} {Pr : α -> Prop} {m : α -> Nat} {a : α} {s':VS}:JV G π st Pr m a Q .normal s'=∃ a',Pr a'/\m a'<m a/\Wk G π s' (st a'):=(rfl)
theorem Hk {α : Type} {st : α -> VS} {Pr : α -> Prop} {m : α -> Nat} {a : α} {s':VS} {j:Nat}:JV G π st Pr m a Q (.exit j) s'=Q (.exit j) s':=(rfl)
theorem JW {α : Type} {st : α -> VS} {Pr : α -> Prop} {m : α -> Nat} {a : α} {s':VS}:JV G π st Pr m a Q .ret s'=Q .ret s':=(rfl)
theorem VW.e9 {α : Type} {x:bY} {s:VS} (st : α -> VS) (Pr : α -> Prop) (m : α -> Nat) (x0 : α) (hw:Wk G π s (st x0)) (h0:Pr x0)
   (h:∀ a,Pr a->yL P G π x (JV G π st Pr m a Q) (st a)):VW P G π (.loop x) Q s:=by
 refine VW.wk hw ?_
 intro c hc own E w a R hm hR
 cases c<;>simp only [ij,Option.some.injEq,reduceCtorEq] at hc
 case loop cb =>
   cases h1:ij P cb with
   | none=>simp [h1] at hc
   | some vb =>
     simp only [h1,Option.map_some,Option.some.injEq,bY.loop.injEq] at hc
     subst hc
     refine zP (α := α) (fun g a' w'=>Pr g/\∃ E',nk own π E E' w w'/\mR G π own E' w' (st g) a') m (x:=x0) ⟨h0,E,nk.refl own π E w,hm⟩ ?_
     rintro g a2 w2 ⟨hI2,E2,Ts,BI⟩
     refine VW.of (h g hI2) cb h1 own E2 w2 a2 _ BI ?_
     intro e s' E' w' a' hq had tI
     cases e with
     | normal =>
       obtain ⟨g',hI3,hlt,hw3⟩:=hq
       obtain ⟨E3,ad3,hm3⟩:=hw3 own E' w' a' tI
       exact ⟨g',⟨hI3,E3,(Ts.trans had).trans ad3,hm3⟩,hlt⟩
     | exit id=>exact hR (.exit id) s' E' w' a' hq (Ts.trans had) tI
     | ret=>exact hR .ret s' E' w' a' hq (Ts.trans had) tI
 case region=>exfalso;revert hc;unfold mP;(repeat' split)<;>simp
 all_goals (exfalso;revert hc;(repeat' split)<;>simp)
theorem VP.of {f:FuncId} {fn:Func} {vf:ax} (hf:P.funcs[f]? = some fn) (hc:JA P fn=some vf) {args:List AV} {r:AV}
   (h:yL P G [] vf.body (Tv vf.results r) ⟨args++List.replicate (vf.nt-args.length) (.tup []),fun _=>none,0⟩):VP P G f args r :=
 VP.VA hf hc (VW.of h)
end
end Go.VL
end

section
namespace Go.VL
def ae.of (S:List (Id × dc)):ae:=fun i=>S.lookup i
theorem iO {S:List (Id × dc)} {i:Id} {b:dc}:S.lookup i=some b->(i,b)∈S:=by
 induction S with
 | nil=>intro h;simp at h
 | cons x S ih =>
   intro h
   obtain ⟨j,c⟩:=x
   simp only [List.lookup_cons] at h
   split at h
   . rename_i he
     have:i=j:=by simpa using he
     subst this
     simp only [Option.some.injEq] at h;subst h;simp
   . exact List.mem_cons_of_mem _ (ih h)
theorem ae.xi {S:List (Id × dc)} {σ : ae} (h:∀ x∈S, σ x.1=some x.2) (i:Id):ae.of S i=none∨ae.of S i = σ i:=by
 cases hl:S.lookup i with
 | none=>exact .inl hl
 | some b=>right;show S.lookup i = σ i;rw [hl];exact (h _ (iO hl)).symm
theorem ae.adr (up:List (Id × Option dc)) (σ σ':ae) (i:Id) (h:(∃ x∈up,x.1=i) ∨ σ i = σ' i) : σ.app up i = σ'.app up i:=by
 induction up generalizing σ σ' with
 | nil =>
   rcases h with ⟨x,hx,_⟩ | h
   . simp at hx
   . exact h
 | cons x up ih =>
   obtain ⟨j,b⟩:=x
   simp only [ae.app]
   apply ih
   by_cases hj:i=j
   . right;subst hj;simp [ae.put]
   . rcases h with ⟨y,hy,he⟩ | h
     . simp only [List.mem_cons] at hy
       rcases hy with rfl | hy
       . exact absurd he.symm hj
       . exact .inl ⟨y,hy,he⟩
     . right;simp [ae.put,hj,h]
theorem ae.K1 (up:List (Id × Option dc)) (σ : ae) (i:Id) (h:∀ x∈up,x.1≠i) : σ.app up i = σ i:=by
 induction up generalizing σ with
 | nil=>rfl
 | cons x up ih =>
   obtain ⟨j,b⟩:=x
   simp only [ae.app]
   rw [ih _ fun y hy=>h y (List.mem_cons_of_mem _ hy),ae.cN]
   exact fun e=>h (j,b) (by simp) e.symm
section
variable {P:Program} {G:Nat->Option (List AV)}
def Fin (G:Nat->Option (List AV)) (p:Id) (S:List (Id × dc)) (σ':ae) (r0:AV) (r:fL):Prop :=
 ∀ own E w v,Inv G own E w σ'->aN E w r0 v->E.μ p=none->∃ E',nk own p E E' w w/\Inv G own E' w ((ae.of S).app r.up)/\aN E' w r.val v
def Tw (G:Nat->Option (List AV)) (p:Id) (S:List (Id × dc)) (rs:List vI) (r:fL) (e:bM) (s:VS):Prop :=
 (e = .normal∨e = .ret)/\∃ r0,bn rs s=some r0/\Fin G p S s.σ r0 r
theorem aM.abJ {f:FuncId} {fn:Func} {vf:ax} (hf:P.funcs[f]? = some fn) (hc:JA P fn=some vf) {args:List AV} {p:Id} {S:List (Id × dc)} {r:fL}
   (h:VW P G p vf.body (Tw G p S vf.results r) ⟨args++List.replicate (vf.nt-args.length) (.tup []),ae.of S,0⟩):aM P G f args p S r:=by
 unfold JA at hc
 split at hc
 . simp at hc
 . rename_i zL
   split at hc
   . rename_i c rs hb I3
     simp only [Option.map_eq_some_iff] at hc
     obtain ⟨vb,hvb,rfl⟩:=hc
     refine ⟨⟨fn,hf,by simpa using zL,by simp [hb]⟩,fun own E w σ vs hS hi hr hμ => ?_⟩
     refine calls_of_wp hf hb ?_
     have hal:vs.length=args.length:=aU.len hr
     let Jf:Nat->Prop:=fun g=>(∃ x∈S,∃ y,E.μ x.1=some y/\y.1=g)∨w.heap.size<=g
     have G2:∀ i,ae.of S i=none∨ae.of S i = σ i:=ae.xi hS
     have ads:∀ g,Jf g->own g:=by
       rintro g (⟨x,hx,y,hy,rfl⟩ | hg)
       . obtain ⟨g,N,cur,ty,hB⟩:=hi.blk _ _ (hS x hx)
         have:=hB.μ.symm.trans hy
         simp only [Option.some.injEq] at this
         subst this
         exact hB.own
       . exact hi.new g hg
     have Mo:Inv G Jf E w (ae.of S):=by
       refine ⟨hi.okb,fun id bk hs => ?_,(hi.sub G2).inj,hi.glob,fun k hk => .inr hk⟩
       have hm:=iO hs
       obtain ⟨g,N,cur,ty,hB⟩:=hi.blk _ _ (hS _ hm)
       exact ⟨g,N,cur,ty,hB.μ,hB.heap,hB.size,hB.len,hB.most, .inl ⟨_,hm,_,hB.μ,rfl⟩,hB.ok,hB.no,hB.k,hB.row⟩
     have hm:mR G p Jf E w ⟨args++List.replicate (fn.ntmps-args.length) (.tup []),ae.of S,0⟩
         { tmps:=vs.toArray++Array.replicate (fn.ntmps-vs.toArray.size) undef,defers:=[] }:=by
       refine ⟨?_,Mo,fun j hj _=>hμ j hj,rfl⟩
       show aU _ w _ _
       simp only [Array.toList_append,Array.toList_replicate,List.size_toArray,hal]
       refine aU.append hr (bT.2 ⟨by simp,fun j c hj => ?_⟩)
       have zD:j<fn.ntmps-args.length:=by have:=(List.getElem?_eq_some_iff.1 hj).1;simpa using this
       simp only [List.getElem?_replicate,zD,if_true,Option.some.injEq] at hj ⊢
       subst hj
       exact ⟨undef,rfl,by simp only [aN,undef];exact ⟨#[],rfl,by simp [aU]⟩⟩
     refine h c hvb Jf E w _ _ hm ?_
     intro e s' E' w' a' hq had tI
     obtain ⟨he,r0,hr0,K2⟩:=hq
     obtain ⟨v,qq,xd⟩:=Fz tI I3 hr0
     obtain ⟨E2,adm,Tc,hv3⟩:=K2 Jf E' w' v tI.inv xd tI.free.self
     have ig:nk Jf p E E2 w w':=had.trans adm
     have ag2:Adv own E E2 w w' :=
       ⟨ig.step,ig.os,ig.tape,ig.output,ig.size,fun k hk ho=>ig.block k hk fun h=>ho (ads k h),fun b hb=>(ig.YE b hb).imp id (ads b)⟩
     -- a block of the caller that the function did not have
     have key:∀ i bk, σ i=some bk->ae.of S i=none->∀ g N cur ty,yq E own w i bk g N cur ty -> ¬ Jf g:=by
       intro i bk hs hn g N cur ty hB
       rintro (⟨x,hx,y,hy,he⟩ | hg)
       . refine hi.inj x.1 i y (g,bk.k,N) (by simp [hS x hx]) (by simp [hs]) ?_ hy hB.μ he
         intro e
         have:=hS x hx
         have h1:(ae.of S) x.1≠none:=by
           show S.lookup x.1≠none
           intro hl
           rw [List.lookup_eq_none_iff] at hl
           have:=hl x hx
           simp at this
         rw [e] at h1
         exact h1 hn
       . have:=ic hB.heap;omega
     have fin:∃ v',Ending.returned v = .returned v'/\lX G own E w σ p r v' E2 w':=by
       refine ⟨v,rfl,ag2, ?_,hv3,ig.ids⟩
       -- the invariant of the caller's store
       have EC:∀ i,(σ.app r.up i=(ae.of S).app r.up i)∨(σ.app r.up i = σ i/\(ae.of S i=none)):=by
         intro i
         by_cases h:(∃ x∈r.up,x.1=i) ∨ σ i=ae.of S i
         . exact .inl (ae.adr r.up σ (ae.of S) i h)
         . right
           have h1:∀ x∈r.up,x.1≠i:=fun x hx e=>h (.inl ⟨x,hx,e⟩)
           refine ⟨ae.K1 r.up σ i h1, ?_⟩
           rcases G2 i with h2 | h2
           . exact h2
           . exact absurd (.inr h2.symm) h
       have hold:∀ i bk, σ i=some bk->ae.of S i=none->∃ g N cur ty,yq E own w i bk g N cur ty/\yq E2 own w' i bk g N cur ty /\ ¬ Jf g:=by
         intro i bk hs hn
         obtain ⟨g,N,cur,ty,hB⟩:=hi.blk i bk hs
         have hno:=key i bk hs hn g N cur ty hB
         refine ⟨g,N,cur,ty,hB,hB.keep ig.step (ig.block g (ic hB.heap) hno) (fun hf ib => ?_),hno⟩
         exact (ig.YE g ib).elim (hB.no hf) hno
       refine ⟨Tc.okb,fun i bk hs => ?_,fun i j x y qY hj' hne hx hy => ?_,Tc.glob,fun k hk=>hi.new k (Nat.le_trans ig.size hk)⟩
       . rcases EC i with h1 | ⟨h1,h2⟩
         . rw [h1] at hs
           obtain ⟨g,N,cur,ty,hB⟩:=Tc.blk i bk hs
           exact ⟨g,N,cur,ty,hB.μ,hB.heap,hB.size,hB.len,hB.most,ads g hB.own,hB.ok,hB.no,hB.k,hB.row⟩
         . rw [h1] at hs
           obtain ⟨g,N,cur,ty,_,hB,_⟩:=hold i bk hs h2
           exact ⟨g,N,cur,ty,hB⟩
       . have new:∀ i x, σ.app r.up i≠none -> σ.app r.up i=(ae.of S).app r.up i->E2.μ i=some x->Jf x.1:=by
           intro i x hn he hx
           rw [he] at hn
           cases hb:(ae.of S).app r.up i with
           | none=>exact absurd hb hn
           | some bk =>
             obtain ⟨g,N,cur,ty,hB⟩:=Tc.blk i bk hb
             have:=hB.μ.symm.trans hx
             simp only [Option.some.injEq] at this
             subst this
             exact hB.own
         have old:∀ i x, σ.app r.up i≠none -> σ.app r.up i = σ i->ae.of S i=none->E2.μ i=some x -> ¬ Jf x.1:=by
           intro i x hn he hs hx
           rw [he] at hn
           cases hb : σ i with
           | none=>exact absurd hb hn
           | some bk =>
             obtain ⟨g,N,cur,ty,_,hB,hno⟩:=hold i bk hb hs
             have:=hB.μ.symm.trans hx
             simp only [Option.some.injEq] at this
             subst this
             exact hno
         rcases EC i with h1 | ⟨h1,h2⟩<;>rcases EC j with h3 | ⟨h3,h4⟩
         . exact Tc.inj i j x y (h1▸qY) (h3▸hj') hne hx hy
         . intro e;exact old j y hj' h3 h4 hy (e▸new i x qY h1 hx)
         . intro e;exact old i x qY h1 h2 hx (e▸new j y hj' h3 hy)
         . have lift:∀ i x, σ.app r.up i≠none -> σ.app r.up i = σ i->ae.of S i=none->E2.μ i=some x->E.μ i=some x:=by
             intro i x hn he hs hx
             rw [he] at hn
             cases hb : σ i with
             | none=>exact absurd hb hn
             | some bk =>
               obtain ⟨g,N,cur,ty,hB,QU,hno⟩:=hold i bk hb hs
               rw [hB.μ, <- QU.μ,hx]
           exact hi.inj i j x y (h1▸qY) (h3▸hj') hne (lift i x qY h1 h2 hx) (lift j y hj' h3 h4 hy)
     have ag3:∃ v0,(results fn a'.tmps).run P w' = .ok v0 w'/\∃ v' E',Ending.returned v0 = .returned v'/\lX G own E w σ p r v' E' w':=by
       obtain ⟨v',h1,h2⟩:=fin
       exact ⟨v,qq,v',E2,h1,h2⟩
     rcases he with rfl | rfl
     . exact ⟨tI.defers,ag3⟩
     . exact ⟨tI.defers,ag3⟩
   . simp at hc
theorem Fin.same {p:Id} {S:List (Id × dc)} {σ':ae} {r0:AV} {r:fL} (hv:r.val=r0) (hs:∀ i,(ae.of S).app r.up i=none∨(ae.of S).app r.up i = σ' i):Fin G p S σ' r0 r :=
 fun own E w _ hi hr _=>⟨E,nk.refl own p E w,hi.sub hs,hv▸hr⟩
end
end Go.VL
end

section
namespace Go.VL
open Go.RowKit
theorem aM.VD {P:Program} {G:Nat->Option (List AV)} {f:FuncId} {fn:Func} (hf:P.funcs[f]? = some fn) (zL:(fn.name == "runtime.NumGoroutine")=false) (hb:fn.body.isSome=true) {args:List AV} {p:Id} {S:List (Id × dc)} {val:AV} {rd:List Id}
   (h:∀ own E w σ vs,(∀ x∈S, σ x.1=some x.2)->Inv G own E w σ -> aU E w args vs->Calls P f vs.toArray w fun e w'=>∃ v,e = .returned v/\Below w.heap.size w w'/\QP val v) :
   aM P G f args p S { val,rd }:=by
 refine ⟨⟨fn,hf,zL,hb⟩,fun own E w σ vs hS hi hr _=>(h own E w σ vs hS hi hr).mono fun e w' he => ?_⟩
 obtain ⟨v,rfl,hB,hv⟩:=he
 have ig:Adv own E E w w':=⟨⟨fun _ _ h=>h,fun _ h=>h,fun b hb=>hB.block b (hi.okb b hb)⟩,hB.os,hB.tape,hB.output,hB.size,fun k hk _=>hB.block k hk,fun _ h => .inl h⟩
 refine ⟨v,E,rfl,ig, ?_,hv E w',fun _ _=>rfl⟩
 refine hi.keep ig rfl (fun b hb=>Nat.lt_of_lt_of_le (hi.okb b hb) hB.size) fun id bk g N hs hm => ?_
 obtain ⟨g',N',cur,ty,QU⟩:=hi.blk id bk hs
 rw [QU.μ] at hm
 simp only [Option.some.injEq,Prod.mk.injEq] at hm
 obtain ⟨rfl,_,rfl⟩:=hm
 exact ⟨hB.block _ (ic QU.heap),QU.no⟩
theorem VE {G:Nat->Option (List AV)} {own:Nat->Prop} {E:Env} {w:World} {σ : ae} (hi:Inv G own E w σ) {x:AV} {v:Value} (hx:aN E w x v) {k:IntKind} {zs:List Int} {rd:List Id} (h:gG σ 1 x=some (zs.map (AV.int k),rd)) :
   ∃ a cap,v = .slice a zs.length cap/\zs.length<=cap/\(zs=[]∨∃ b o,a=some ⟨b,o,none⟩/\b<w.heap.size/\∀ j,j<zs.length->w.cell? ⟨b,o+j,none⟩=some (.int k (zs[j]?.getD 0))):=by
 obtain ⟨_,a,cap,rfl,hle,hr⟩:=Bj hi hx h
 refine ⟨a,cap,by simp,by simpa using hle, ?_⟩
 rcases hr with hr | ⟨b,o,rfl,hr⟩
 . left;simpa using hr
 . cases zs with
   | nil=>exact .inl rfl
   | cons z zs =>
     right
     have GN:flat ((z::zs).map (AV.int k))=(z::zs).map (AV.int k):=by
       generalize z::zs=l
       induction l with
       | nil=>rfl
       | cons y l ih=>simp only [List.map_cons,flat,List.flatMap_cons,AV.cells] at ih ⊢;rw [ih];rfl
     rw [GN] at hr
     have hc:∀ j,j<(z::zs).length->w.cell? ⟨b,o+j,none⟩=some (.int k ((z::zs)[j]?.getD 0)):=by
       intro j hj
       obtain ⟨v,h1,h2⟩:=hr j (.int k (z::zs)[j]) (by rw [List.getElem?_map,List.getElem?_eq_getElem hj];rfl)
       simp only [aN] at h2
       subst h2
       rw [h1,List.getElem?_eq_getElem hj];rfl
     refine ⟨b,o,rfl, ?_,hc⟩
     have:=hc 0 (by simp)
     cases hh:w.heap[b]? with
     | none=>simp [World.cell?,hh] at this
     | some ob=>exact (Array.getElem?_eq_some_iff.1 hh).1
end Go.VL
end

section
namespace Go.VL
def dc.fz (b:dc):dc:={ b with fr:=true }
def FC (S:List (Id × dc)):List (Id × Option dc):=S.map fun x=>(x.1,some x.2.fz)
open Classical in
theorem K3 {σ : ae} (i:Id):∀ (S:List (Id × dc)) (σ0:ae),(∀ x∈S, σ x.1=some x.2) -> σ0.app (FC S) i=if ∃ x∈S,x.1=i then (σ i).map dc.fz else σ0 i
 | [], σ0,_=>by simp [FC,ae.app]
 | x :: S, σ0,h=>by
   show ae.app (σ0.put x.1 (some x.2.fz)) (FC S) i=_
   rw [K3 i S _ fun y hy=>h y (List.mem_cons_of_mem _ hy)]
   by_cases h1:∃ y∈S,y.1=i
   . rw [if_pos h1,if_pos]
     obtain ⟨y,hy,e⟩:=h1
     exact ⟨y,List.mem_cons_of_mem _ hy,e⟩
   . rw [if_neg h1]
     by_cases h2:i=x.1
     . subst h2
       rw [if_pos ⟨x,by simp,rfl⟩,h x (by simp),ae.dO];rfl
     . rw [if_neg,ae.cN _ _ _ h2]
       rintro ⟨y,hy,e⟩
       rcases List.mem_cons.1 hy with rfl | hy
       . exact h2 e.symm
       . exact h1 ⟨y,hy,e⟩
theorem ED {S:List (Id × dc)} {σ : ae} (hS:∀ x∈S, σ x.1=some x.2) {x:Id × dc} (hx:x∈S):ae.of S x.1=some x.2:=by
 cases hl:S.lookup x.1 with
 | none =>
   rw [List.lookup_eq_none_iff] at hl
   have:=hl x hx
   simp at this
 | some b =>
   have:=hS _ (iO hl)
   rw [hS x hx] at this
   show S.lookup x.1=_
   rw [hl];exact this.symm
section
variable {P:Program} {G:Nat->Option (List AV)}
theorem Inv.ki {own:Nat->Prop} {E:Env} {w:World} {σ : ae} {S:List (Id × dc)} (hi:Inv G own E w σ) (hS:∀ x∈S, σ x.1=some x.2) :
   Inv G (fun k=>w.heap.size<=k) (E.ki (ae.of S)) w (fun _=>none) where
 okb := by
   rintro b (hb | ⟨id,bk,k,N,hs,hm⟩)
   . exact hi.okb b hb
   . obtain ⟨g,N',cur,ty,hB⟩:=hi.blk id bk (hS _ (iO hs))
     rw [hB.μ] at hm
     simp only [Option.some.injEq,Prod.mk.injEq] at hm
     rw [<- hm.1];exact ic hB.heap
 blk:=fun id bk h=>by simp at h
 inj:=fun i j x y h=>absurd rfl h
 glob:=fun g cs hg=>by
   obtain ⟨h1,h2⟩:=hi.glob g cs hg
   exact ⟨.inl h1,bq.keep (⟨fun _ _ h=>h,fun _ h => .inl h,fun _ _=>rfl⟩:Step E.bare (E.ki (ae.of S)).bare w w) rfl cs 0 h2⟩
 new:=fun k hk=>hk
theorem aM.K4 {f:FuncId} {args lZ:List AV} {r:AV} {p:Id} {S:List (Id × dc)} (h:VP P G f lZ r) (hv:az (ae.of S) args lZ) :
   aM P G f args p S { val:=r,rd:=S.map (·.1),up:=FC S }:=by
 refine ⟨h.1,fun own E w σ vs hS hi hr hμ => ?_⟩
 have GX:=hv.vL (hi.sub (ae.xi hS)) hr
 refine (h.2 w vs _ (hi.ki hS) GX).mono fun e w' he => ?_
 obtain ⟨v,ok',rfl,had,ib,hv'⟩:=he
 have ig:Adv own E ⟨E.μ,ok'⟩ w w':=by
   refine ⟨⟨fun _ _ h=>h,fun b hb=>had.step.ok b (.inl hb),fun b hb=>had.step.same b (.inl hb)⟩,had.os,had.tape,had.output,had.size,fun k hk _=>had.block k hk (by omega),fun b hb => ?_⟩
   rcases had.YE b hb with (h1 | ⟨id,bk,k,N,hs,hm⟩) | h1
   . exact .inl h1
   . obtain ⟨g,N',cur,ty,hB⟩:=hi.blk id bk (hS _ (iO hs))
     rw [hB.μ] at hm
     simp only [Option.some.injEq,Prod.mk.injEq] at hm
     rw [<- hm.1];exact .inr hB.own
   . exact .inr (hi.new b h1)
 refine ⟨v,⟨E.μ,ok'⟩,rfl,ig, ?_,aN.keep (⟨fun _ _ h=>by simp at h,fun _ h=>h,fun _ _=>rfl⟩:Step ⟨fun _=>none,ok'⟩ ⟨E.μ,ok'⟩ w' w') r v hv',fun _ _=>rfl⟩
 have VF:=fun i=>K3 (σ := σ) i S σ hS
 refine ⟨ib,fun id bk hs => ?_,fun i j x y qY hj' hne hx hy => ?_,fun g cs hg => ?_,fun k hk=>hi.new k (Nat.le_trans had.size hk)⟩
 . have e8 : σ.app (FC S) id=some bk:=hs
   rw [VF id] at e8
   split at e8
   . rename_i mQ
     obtain ⟨x,hx,rfl⟩:=mQ
     rw [hS x hx] at e8
     simp only [Option.map_some,Option.some.injEq] at e8
     subst e8
     obtain ⟨g,N,cur,ty,hB⟩:=hi.blk _ _ (hS x hx)
     have hb:=had.block g (ic hB.heap) (by have:=ic hB.heap;omega)
     exact ⟨g,N,cur,ty,hB.μ,hb.trans hB.heap,hB.size,hB.len,hB.most,hB.own,fun _=>had.step.ok g (.inr ⟨x.1,x.2,x.2.k,N,ED hS hx,hB.μ⟩),fun hf=>by simp [dc.fz] at hf,hB.k,fy.keep ig.step hb hB.row⟩
   . rename_i adt
     obtain ⟨g,N,cur,ty,hB⟩:=hi.blk _ _ e8
     have hg:=ic hB.heap
     refine ⟨g,N,cur,ty,hB.keep ig.step (had.block g hg (by omega)) fun hf hb => ?_⟩
     rcases had.YE g hb with (h1 | ⟨QT,bk2,k2,N2,VG,BI⟩) | h1
     . exact hB.no hf h1
     . have hm:=iO VG
       refine hi.inj id QT _ _ (by simp [e8]) (by simp [hS _ hm]) ?_ hB.μ BI rfl
       rintro rfl
       exact adt ⟨_,hm,rfl⟩
     . omega
 . have keep:∀ i, σ.app (FC S) i≠none -> σ i≠none:=by
     intro i hn he
     apply hn
     rw [VF i,he]
     split<;>rfl
   exact hi.inj i j x y (keep i qY) (keep j hj') hne hx hy
 . obtain ⟨h1,h2⟩:=hi.glob g cs hg
   exact ⟨ig.step.ok g h1,bq.keep ig.step.bare (ig.step.same g h1) cs 0 h2⟩
theorem aM.of_flat {f:FuncId} {args lZ:List AV} {r:AV} {p:Id} {S:List (Id × dc)} (h:VP P G f lZ r) (hv:az (ae.of S) args lZ) (hf:jS r) :
   aM P G f args p S { val:=r,rd:=S.map (·.1) }:=by
 refine ⟨h.1,fun own E w σ vs hS hi hr hμ => ?_⟩
 have GX:=hv.vL (hi.sub (ae.xi hS)) hr
 refine (h.2 w vs _ (hi.ki hS) GX).mono fun e w' he => ?_
 obtain ⟨v,ok',rfl,had,ib,hv'⟩:=he
 have ig:Adv own E E w w':=⟨⟨fun _ _ h=>h,fun b hb=>hb,fun b hb=>had.step.same b (.inl hb)⟩,had.os,had.tape,had.output,had.size,fun k hk _=>had.block k hk (by omega),fun b hb => .inl hb⟩
 refine ⟨v,E,rfl,ig, ?_,hf _ _ _ _ _ hv',fun _ _=>rfl⟩
 refine hi.keep ig rfl (fun b hb=>Nat.lt_of_lt_of_le (hi.okb b hb) had.size) fun id bk g N hs hm => ?_
 obtain ⟨g',N',cur,ty,QU⟩:=hi.blk id bk hs
 rw [QU.μ] at hm
 simp only [Option.some.injEq,Prod.mk.injEq] at hm
 obtain ⟨rfl,_,rfl⟩:=hm
 have hg:=ic QU.heap
 exact ⟨had.block _ hg (by omega),QU.no⟩
def FgV (S:List (Id × dc)):List AV->List AV->Prop
 | [],[]=>True
 | c::cs,d::ds=>(d = .top∨d=c∨View (ae.of S) c d)/\FgV S cs ds
 | _,_=>False
theorem FgV.rep {own:Nat->Prop} {E:Env} {w:World} {S:List (Id × dc)} (hi:Inv G own E w (ae.of S)):∀ {cs ds:List AV} {vs:List Value},FgV S cs ds->aU E w cs vs->aU ⟨E.μ,(E.ki (ae.of S)).ok⟩ w ds vs
 | [],[],_,_,h=>by simpa [aU] using h
 | c::cs,d::ds,vs,hf,h=>by
   simp only [FgV] at hf
   simp only [aU] at h ⊢
   obtain ⟨v,rest,e,h1,h2⟩:=h
   refine ⟨v,rest,e, ?_,FgV.rep hi hf.2 h2⟩
   rcases hf.1 with rfl | rfl | hv
   . simp [aN]
   . exact aN.keep (⟨fun _ _ h=>h,fun _ h => .inl h,fun _ _=>rfl⟩:Step E ⟨E.μ,(E.ki (ae.of S)).ok⟩ w w) _ v h1
   . exact aN.keep (⟨fun _ _ h=>by simp [Env.ki] at h,fun _ h=>h,fun _ _=>rfl⟩:Step (E.ki (ae.of S)) ⟨E.μ,(E.ki (ae.of S)).ok⟩ w w) _ v (hv _ _ _ _ _ hi h1)
 | [],_::_,_,h,_=>by simp [FgV] at h
 | _::_,[],_,h,_=>by simp [FgV] at h
theorem Wk.freeze {π : Id} {t t':List AV} {σ σ':ae} {n n':Nat} (S:List (Id × dc)) (hS:∀ x∈S, σ x.1=some x.2) (ht:FgV S t t')
   (hs:∀ id, σ' id=none ∨ σ' id = σ.app (FC S) id) (hn:n<=n'):Wk G π ⟨t, σ,n⟩ ⟨t', σ',n'⟩:=fun own E w a hm=>by
 have hi:=hm.inv
 let E':Env:=⟨E.μ,(E.ki (ae.of S)).ok⟩
 have ig:Adv own E E' w w:=by
   refine ⟨⟨fun _ _ h=>h,fun b hb => .inl hb,fun b hb=>rfl⟩,rfl,rfl,rfl,Nat.le_refl _,fun k hk _=>rfl,fun b hb => ?_⟩
   rcases hb with h1 | ⟨id,bk,k,N,hs,hm⟩
   . exact .inl h1
   . obtain ⟨g,N',cur,ty,hB⟩:=hi.blk id bk (hS _ (iO hs))
     rw [hB.μ] at hm
     simp only [Option.some.injEq,Prod.mk.injEq] at hm
     rw [<- hm.1];exact .inr hB.own
 refine ⟨E',⟨ig,fun _ _=>rfl⟩,ht.rep (hi.sub (ae.xi hS)) hm.frame, ?_,hm.free.mono hn,hm.defers⟩
 refine Inv.sub (σ := σ.app (FC S)) ?_ hs
 have VF:=fun i=>K3 (σ := σ) i S σ hS
 refine ⟨(hi.ki hS).okb,fun id bk hs => ?_,fun i j x y qY hj' hne hx hy => ?_,fun g cs hg => ?_,hi.new⟩
 . have e8 : σ.app (FC S) id=some bk:=hs
   rw [VF id] at e8
   split at e8
   . rename_i mQ
     obtain ⟨x,hx,rfl⟩:=mQ
     rw [hS x hx] at e8
     simp only [Option.map_some,Option.some.injEq] at e8
     subst e8
     obtain ⟨g,N,cur,ty,hB⟩:=hi.blk _ _ (hS x hx)
     exact ⟨g,N,cur,ty,hB.μ,hB.heap,hB.size,hB.len,hB.most,hB.own,fun _ => .inr ⟨x.1,x.2,x.2.k,N,ED hS hx,hB.μ⟩,fun hf=>by simp [dc.fz] at hf,hB.k,fy.keep ig.step rfl hB.row⟩
   . rename_i adt
     obtain ⟨g,N,cur,ty,hB⟩:=hi.blk _ _ e8
     have hg:=ic hB.heap
     refine ⟨g,N,cur,ty,hB.keep ig.step rfl fun hf hb => ?_⟩
     rcases hb with h1 | ⟨QT,bk2,k2,N2,VG,BI⟩
     . exact hB.no hf h1
     . have hm:=iO VG
       refine hi.inj id QT _ _ (by simp [e8]) (by simp [hS _ hm]) ?_ hB.μ BI rfl
       rintro rfl
       exact adt ⟨_,hm,rfl⟩
 . have keep:∀ i, σ.app (FC S) i≠none -> σ i≠none:=by
     intro i hn he
     apply hn
     rw [VF i,he]
     split<;>rfl
   exact hi.inj i j x y (keep i qY) (keep j hj') hne hx hy
 . obtain ⟨h1,h2⟩:=hi.glob g cs hg
   exact ⟨ig.step.ok g h1,bq.keep ig.step.bare (ig.step.same g h1) cs 0 h2⟩
end
end Go.VL
end

section
namespace Go.VL
section
variable {P:Program} {G:Nat->Option (List AV)}
theorem VP.Zr {f:FuncId} {args:List AV} {r:fL} (h:aM P G f args [] [] r) (hf:jS r.val):VP P G f args r.val:=by
 refine ⟨h.1,fun w vs ok hi hr => ?_⟩
 refine (h.2 _ _ w _ vs (by simp) hi hr (fun _ _=>rfl)).mono fun e w' he => ?_
 obtain ⟨v,E',rfl,hp⟩:=he
 refine ⟨v,ok,rfl,⟨⟨fun _ _ h=>h,fun _ h=>h,hp.I1.step.same⟩,hp.I1.os,hp.I1.tape,hp.I1.output,hp.I1.size,hp.I1.block,fun _ h => .inl h⟩,fun b hb => ?_,hf _ _ _ _ _ hp.rep⟩
 exact Nat.lt_of_lt_of_le (hi.okb b hb) hp.I1.size
end
end Go.VL
end

section
namespace Go.VL
def vw:AV->Bool->Option Bool
 | .bool b,want=>some (b==want)
 | .top,_=>none
 | .anyb,_=>none
 | _,_=>some false
theorem Q5 {b want:Bool}:vw (.bool b) want=some (b==want):=(rfl)
theorem VH {l:List AV} {want:Bool}:vw (.tup l) want=some false:=(rfl)
section
variable (P:Program) (G:Nat->Option (List AV)) (π : Id)
def yt (base:Nat) (Q:bM->VS->Prop) (n:Nat) (d:Option Nat) (os:List bx) (i:Nat) (t:List AV) (σ : ae):Option fL->Prop
 | some r=>vs P G π base Q n os (i+1) (hJ t d r.val) (σ.app r.up)
 | none=>False
def vsV (base:Nat) (Q:bM->VS->Prop) (n:Nat) (d:Option Nat) (os:List bx) (i:Nat) (t:List AV) (σ : ae):Option AV->Prop
 | some v=>vs P G π base Q n os (i+1) (hJ t d v) σ
 | none=>False
def vsG (base:Nat) (Q:bM->VS->Prop) (n:Nat) (o:bx) (os:List bx) (i:Nat) (t:List AV) (σ : ae):Option Bool->Prop
 | some true=>vs P G π base Q n (⟨o.dst,o.op,none⟩::os) i t σ
 | some false=>vs P G π base Q n os (i+1) (hJ t o.dst (.tup [])) σ
 | none=>False
def yu (base:Nat) (Q:bM->VS->Prop) (n:Nat) (ps:List (Nat × Nat)) (d:Option Nat) (os:List bx) (i:Nat) (acc:List fL) (t:List AV) (σ : ae):Option fL->Prop
 | some r=>vd P G π base Q n ps os (i+1) (r::acc) (hJ t d r.val) (σ.app r.up)
 | none=>False
def vdV (base:Nat) (Q:bM->VS->Prop) (n:Nat) (ps:List (Nat × Nat)) (d:Option Nat) (os:List bx) (i:Nat) (acc:List fL) (t:List AV) (σ : ae):Option AV->Prop
 | some v=>vd P G π base Q n ps os (i+1) ({ val:=v }::acc) (hJ t d v) σ
 | none=>False
def vdG (base:Nat) (Q:bM->VS->Prop) (n:Nat) (ps:List (Nat × Nat)) (o:bx) (os:List bx) (i:Nat) (acc:List fL) (t:List AV) (σ : ae):Option Bool->Prop
 | some true=>vd P G π base Q n ps (⟨o.dst,o.op,none⟩::os) i acc t σ
 | some false=>vd P G π base Q n ps os (i+1) ({ val := .tup [] }::acc) (hJ t o.dst (.tup [])) σ
 | none=>False
variable {P} {G} {π}
variable {base:Nat} {Q:bM->VS->Prop} {n:Nat} {ps:List (Nat × Nat)} {d:Option Nat} {os:List bx} {i:Nat} {acc:List fL} {t:List AV} {σ : ae}
theorem MR {r:fL}:yt P G π base Q n d os i t σ (some r)=vs P G π base Q n os (i+1) (hJ t d r.val) (σ.app r.up):=(rfl)
theorem MS {v:AV}:vsV P G π base Q n d os i t σ (some v)=vs P G π base Q n os (i+1) (hJ t d v) σ := (rfl)
theorem MT {r:fL}:yu P G π base Q n ps d os i acc t σ (some r)=vd P G π base Q n ps os (i+1) (r::acc) (hJ t d r.val) (σ.app r.up):=(rfl)
theorem MU {v:AV}:vdV P G π base Q n ps d os i acc t σ (some v)=vd P G π base Q n ps os (i+1) ({ val:=v }::acc) (hJ t d v) σ := (rfl)
theorem JX {o:Option AV}:yt P G π base Q n d os i t σ (bB o)=vsV P G π base Q n d os i t σ o:=by cases o<;>rfl
theorem JY {o:Option AV}:yu P G π base Q n ps d os i acc t σ (bB o)=vdV P G π base Q n ps d os i acc t σ o:=by cases o<;>rfl
theorem MV {o:bx}:vsG P G π base Q n o os i t σ (some true)=vs P G π base Q n (⟨o.dst,o.op,none⟩::os) i t σ := (rfl)
theorem JZ {o:bx}:vsG P G π base Q n o os i t σ (some false)=vs P G π base Q n os (i+1) (hJ t o.dst (.tup [])) σ := (rfl)
theorem MW {o:bx}:vdG P G π base Q n ps o os i acc t σ (some true)=vd P G π base Q n ps (⟨o.dst,o.op,none⟩::os) i acc t σ := (rfl)
theorem J0 {o:bx}:vdG P G π base Q n ps o os i acc t σ (some false)=vd P G π base Q n ps os (i+1) ({ val := .tup [] }::acc) (hJ t o.dst (.tup [])) σ := (rfl)
theorem Hl {j:Nat} {want:Bool}:fP t (some (j,want))=vw (t.getD j (.tup [])) want:=by
 rw [List.getD_eq_getElem?_getD]
 show (match t[j]? with | some (.bool b)=>some (b==want) | some .top | some .anyb=>none | _=>some false)=_
 cases t[j]? with
 | none=>rfl
 | some c=>cases c<;>rfl
theorem J1 {d:Nat} {v:AV}:hJ t (some d) v=t.set d v:=(rfl)
theorem J2 {v:AV}:hJ t none v=t:=(rfl)
theorem ag4 {j:Nat}:(aV.t j).ev G t=t.getD j (.tup []):=(rfl)
theorem ag5 {a:AV}:(aV.c a).ev G t=a:=(rfl)
theorem ag6 {f:Nat}:(aV.f f).ev G t = .fn (.func f) [] []:=(rfl)
theorem Q6 : σ.app [] = σ := (rfl)
theorem MX {x:Id × Option dc} {l:List (Id × Option dc)} : σ.app (x::l)=(σ.put x.1 x.2).app l:=(rfl)
theorem sg {op:hH aV} {j:Nat} {want:Bool}:vs P G π base Q n (⟨d,op,some (j,want)⟩::os) i t σ = vsG P G π base Q n ⟨d,op,none⟩ os i t σ (vw (t.getD j (.tup [])) want):=by
 rw [<- Hl]
 unfold vs vsG
 simp only [De]
 cases fP t (some (j,want)) with
 | none=>rfl
 | some b=>cases b<;>rfl
theorem dg {op:hH aV} {j:Nat} {want:Bool}:vd P G π base Q n ps (⟨d,op,some (j,want)⟩::os) i acc t σ = vdG P G π base Q n ps ⟨d,op,none⟩ os i acc t σ (vw (t.getD j (.tup [])) want):=by
 rw [<- Hl]
 unfold vd vdG
 simp only [Df]
 cases fP t (some (j,want)) with
 | none=>rfl
 | some b=>cases b<;>rfl
theorem dZ {op:hH aV} (h:op.uN=false):vs P G π base Q n (⟨d,op,none⟩::os) i t σ = yt P G π base Q n d os i t σ (bW σ ((base+i) :: π) (op.map (aV.ev G t))):=by
 rw [ag0 h];unfold JS;simp only [fP];cases bW σ ((base+i) :: π) (op.map (aV.ev G t))<;>rfl
theorem ee {op:hH aV} (h:op.uN=false):vd P G π base Q n ps (⟨d,op,none⟩::os) i acc t σ = yu P G π base Q n ps d os i acc t σ (bW σ ((base+i) :: π) (op.map (aV.ev G t))):=by
 rw [ag1 h];unfold JS;simp only [fP];cases bW σ ((base+i) :: π) (op.map (aV.ev G t))<;>rfl
theorem ag7 {x:aV}:vs P G π base Q n (⟨d, .mv x,none⟩::os) i t σ = yt P G π base Q n d os i t σ (bW σ ((base+i) :: π) (.mv (x.ev G t))):=dZ rfl
theorem ag8 {x:aV}:vd P G π base Q n ps (⟨d, .mv x,none⟩::os) i acc t σ = yu P G π base Q n ps d os i acc t σ (bW σ ((base+i) :: π) (.mv (x.ev G t))):=ee rfl
theorem VI {c a b:aV}:vs P G π base Q n (⟨d, .pick c a b,none⟩::os) i t σ = yt P G π base Q n d os i t σ (bW σ ((base+i) :: π) (.pick (c.ev G t) (a.ev G t) (b.ev G t))):=dZ rfl
theorem VJ {c a b:aV}:vd P G π base Q n ps (⟨d, .pick c a b,none⟩::os) i acc t σ = yu P G π base Q n ps d os i acc t σ (bW σ ((base+i) :: π) (.pick (c.ev G t) (a.ev G t) (b.ev G t))):=ee rfl
theorem abL {x:aV}:vs P G π base Q n (⟨d, .box x,none⟩::os) i t σ = yt P G π base Q n d os i t σ (bW σ ((base+i) :: π) (.box (x.ev G t))):=dZ rfl
theorem abM {x:aV}:vd P G π base Q n ps (⟨d, .box x,none⟩::os) i acc t σ = yu P G π base Q n ps d os i acc t σ (bW σ ((base+i) :: π) (.box (x.ev G t))):=ee rfl
theorem Q7 {z:List AV} {l:List (Nat × Nat × aV)}:vs P G π base Q n (⟨d, .build z l,none⟩::os) i t σ = yt P G π base Q n d os i t σ (bW σ ((base+i) :: π) (.build z (l.map fun p=>(p.1,p.2.1,p.2.2.ev G t)))):=dZ rfl
theorem Q8 {z:List AV} {l:List (Nat × Nat × aV)}:vd P G π base Q n ps (⟨d, .build z l,none⟩::os) i acc t σ = yu P G π base Q n ps d os i acc t σ (bW σ ((base+i) :: π) (.build z (l.map fun p=>(p.1,p.2.1,p.2.2.ev G t)))):=ee rfl
theorem J3 {k m:Nat} {z:AV} {l:List (Nat × aV)}:vs P G π base Q n (⟨d, .buildSl k m z l,none⟩::os) i t σ = yt P G π base Q n d os i t σ (bW σ ((base+i) :: π) (.buildSl k m z (l.map fun p=>(p.1,p.2.ev G t)))):=dZ rfl
theorem J4 {k m:Nat} {z:AV} {l:List (Nat × aV)}:vd P G π base Q n ps (⟨d, .buildSl k m z l,none⟩::os) i acc t σ = yu P G π base Q n ps d os i acc t σ (bW σ ((base+i) :: π) (.buildSl k m z (l.map fun p=>(p.1,p.2.ev G t)))):=ee rfl
theorem VK {a:Bool} {m:Nat} {x:aV}:vs P G π base Q n (⟨d, .load a m x,none⟩::os) i t σ = yt P G π base Q n d os i t σ (bW σ ((base+i) :: π) (.load a m (x.ev G t))):=dZ rfl
theorem VM {a:Bool} {m:Nat} {x:aV}:vd P G π base Q n ps (⟨d, .load a m x,none⟩::os) i acc t σ = yu P G π base Q n ps d os i acc t σ (bW σ ((base+i) :: π) (.load a m (x.ev G t))):=ee rfl
theorem Q9 {m:Nat} {x v:aV}:vs P G π base Q n (⟨d, .store m x v,none⟩::os) i t σ = yt P G π base Q n d os i t σ (bW σ ((base+i) :: π) (.store m (x.ev G t) (v.ev G t))):=dZ rfl
theorem Ra {m:Nat} {x v:aV}:vd P G π base Q n ps (⟨d, .store m x v,none⟩::os) i acc t σ = yu P G π base Q n ps d os i acc t σ (bW σ ((base+i) :: π) (.store m (x.ev G t) (v.ev G t))):=ee rfl
theorem Rb {x:aV}:vs P G π base Q n (⟨d, .nilck x,none⟩::os) i t σ = yt P G π base Q n d os i t σ (bW σ ((base+i) :: π) (.nilck (x.ev G t))):=dZ rfl
theorem Rc {x:aV}:vd P G π base Q n ps (⟨d, .nilck x,none⟩::os) i acc t σ = yu P G π base Q n ps d os i acc t σ (bW σ ((base+i) :: π) (.nilck (x.ev G t))):=ee rfl
theorem abN {o:BinOp} {sh:Sh} {x y:aV}:vs P G π base Q n (⟨d, .bin o sh x y,none⟩::os) i t σ = yt P G π base Q n d os i t σ (bW σ ((base+i) :: π) (.bin o sh (x.ev G t) (y.ev G t))):=dZ rfl
theorem abO {o:BinOp} {sh:Sh} {x y:aV}:vd P G π base Q n ps (⟨d, .bin o sh x y,none⟩::os) i acc t σ = yu P G π base Q n ps d os i acc t σ (bW σ ((base+i) :: π) (.bin o sh (x.ev G t) (y.ev G t))):=ee rfl
theorem ag9 {o:UnOp} {x:aV}:vs P G π base Q n (⟨d, .un o x,none⟩::os) i t σ = yt P G π base Q n d os i t σ (bW σ ((base+i) :: π) (.un o (x.ev G t))):=dZ rfl
theorem aha {o:UnOp} {x:aV}:vd P G π base Q n ps (⟨d, .un o x,none⟩::os) i acc t σ = yu P G π base Q n ps d os i acc t σ (bW σ ((base+i) :: π) (.un o (x.ev G t))):=ee rfl
theorem Re {k:IntKind} {x:aV}:vs P G π base Q n (⟨d, .toInt k x,none⟩::os) i t σ = yt P G π base Q n d os i t σ (bW σ ((base+i) :: π) (.toInt k (x.ev G t))):=dZ rfl
theorem Rf {k:IntKind} {x:aV}:vd P G π base Q n ps (⟨d, .toInt k x,none⟩::os) i acc t σ = yu P G π base Q n ps d os i acc t σ (bW σ ((base+i) :: π) (.toInt k (x.ev G t))):=ee rfl
theorem Rg {x:aV}:vs P G π base Q n (⟨d, .idStr x,none⟩::os) i t σ = yt P G π base Q n d os i t σ (bW σ ((base+i) :: π) (.idStr (x.ev G t))):=dZ rfl
theorem Rh {x:aV}:vd P G π base Q n ps (⟨d, .idStr x,none⟩::os) i acc t σ = yu P G π base Q n ps d os i acc t σ (bW σ ((base+i) :: π) (.idStr (x.ev G t))):=ee rfl
theorem Hm {x:aV}:vs P G π base Q n (⟨d, .bytesStr x,none⟩::os) i t σ = yt P G π base Q n d os i t σ (bW σ ((base+i) :: π) (.bytesStr (x.ev G t))):=dZ rfl
theorem Hn {x:aV}:vd P G π base Q n ps (⟨d, .bytesStr x,none⟩::os) i acc t σ = yu P G π base Q n ps d os i acc t σ (bW σ ((base+i) :: π) (.bytesStr (x.ev G t))):=ee rfl
theorem abP {x c:aV}:vs P G π base Q n (⟨d, .idx x c,none⟩::os) i t σ = yt P G π base Q n d os i t σ (bW σ ((base+i) :: π) (.idx (x.ev G t) (c.ev G t))):=dZ rfl
theorem abQ {x c:aV}:vd P G π base Q n ps (⟨d, .idx x c,none⟩::os) i acc t σ = yu P G π base Q n ps d os i acc t σ (bW σ ((base+i) :: π) (.idx (x.ev G t) (c.ev G t))):=ee rfl
theorem abR {x y:aV}:vs P G π base Q n (⟨d, .ovl x y,none⟩::os) i t σ = yt P G π base Q n d os i t σ (bW σ ((base+i) :: π) (.ovl (x.ev G t) (y.ev G t))):=dZ rfl
theorem abS {x y:aV}:vd P G π base Q n ps (⟨d, .ovl x y,none⟩::os) i acc t σ = yu P G π base Q n ps d os i acc t σ (bW σ ((base+i) :: π) (.ovl (x.ev G t) (y.ev G t))):=ee rfl
theorem VN {fn:Fn} {a c:List aV}:vs P G π base Q n (⟨d, .mkfn fn a c,none⟩::os) i t σ = yt P G π base Q n d os i t σ (bW σ ((base+i) :: π) (.mkfn fn (a.map (aV.ev G t)) (c.map (aV.ev G t)))):=dZ rfl
theorem VO {fn:Fn} {a c:List aV}:vd P G π base Q n ps (⟨d, .mkfn fn a c,none⟩::os) i acc t σ = yu P G π base Q n ps d os i acc t σ (bW σ ((base+i) :: π) (.mkfn fn (a.map (aV.ev G t)) (c.map (aV.ev G t)))):=ee rfl
theorem VR {k b:Nat} {z:AV} {l c:aV}:vs P G π base Q n (⟨d, .mksl k b z l c,none⟩::os) i t σ = yt P G π base Q n d os i t σ (bW σ ((base+i) :: π) (.mksl k b z (l.ev G t) (c.ev G t))):=dZ rfl
theorem VT {k b:Nat} {z:AV} {l c:aV}:vd P G π base Q n ps (⟨d, .mksl k b z l c,none⟩::os) i acc t σ = yu P G π base Q n ps d os i acc t σ (bW σ ((base+i) :: π) (.mksl k b z (l.ev G t) (c.ev G t))):=ee rfl
theorem Ri {k:Nat} {x:aV} {lo hi mx:Option aV}:vs P G π base Q n (⟨d, .slice k x lo hi mx,none⟩::os) i t σ = yt P G π base Q n d os i t σ (bW σ ((base+i) :: π) (.slice k (x.ev G t) (lo.map (aV.ev G t)) (hi.map (aV.ev G t)) (mx.map (aV.ev G t)))):=dZ rfl
theorem Rj {k:Nat} {x:aV} {lo hi mx:Option aV}:vd P G π base Q n ps (⟨d, .slice k x lo hi mx,none⟩::os) i acc t σ = yu P G π base Q n ps d os i acc t σ (bW σ ((base+i) :: π) (.slice k (x.ev G t) (lo.map (aV.ev G t)) (hi.map (aV.ev G t)) (mx.map (aV.ev G t)))):=ee rfl
theorem MY {x:aV} {lo hi:Option aV}:vs P G π base Q n (⟨d, .sliceS x lo hi,none⟩::os) i t σ = yt P G π base Q n d os i t σ (bW σ ((base+i) :: π) (.sliceS (x.ev G t) (lo.map (aV.ev G t)) (hi.map (aV.ev G t)))):=dZ rfl
theorem MZ {x:aV} {lo hi:Option aV}:vd P G π base Q n ps (⟨d, .sliceS x lo hi,none⟩::os) i acc t σ = yu P G π base Q n ps d os i acc t σ (bW σ ((base+i) :: π) (.sliceS (x.ev G t) (lo.map (aV.ev G t)) (hi.map (aV.ev G t)))):=ee rfl
theorem Rk {o:Nat} {x:aV}:vs P G π base Q n (⟨d, .faddr o x,none⟩::os) i t σ = yt P G π base Q n d os i t σ (bW σ ((base+i) :: π) (.faddr o (x.ev G t))):=dZ rfl
theorem Rl {o:Nat} {x:aV}:vd P G π base Q n ps (⟨d, .faddr o x,none⟩::os) i acc t σ = yu P G π base Q n ps d os i acc t σ (bW σ ((base+i) :: π) (.faddr o (x.ev G t))):=ee rfl
theorem Rm {a:Bool} {o m:Nat} {x:aV}:vs P G π base Q n (⟨d, .field a o m x,none⟩::os) i t σ = yt P G π base Q n d os i t σ (bW σ ((base+i) :: π) (.field a o m (x.ev G t))):=dZ rfl
theorem Rn {a:Bool} {o m:Nat} {x:aV}:vd P G π base Q n ps (⟨d, .field a o m x,none⟩::os) i acc t σ = yu P G π base Q n ps d os i acc t σ (bW σ ((base+i) :: π) (.field a o m (x.ev G t))):=ee rfl
theorem M0 {k:Nat} {x j:aV}:vs P G π base Q n (⟨d, .iaddrS k x j,none⟩::os) i t σ = yt P G π base Q n d os i t σ (bW σ ((base+i) :: π) (.iaddrS k (x.ev G t) (j.ev G t))):=dZ rfl
theorem M1 {k:Nat} {x j:aV}:vd P G π base Q n ps (⟨d, .iaddrS k x j,none⟩::os) i acc t σ = yu P G π base Q n ps d os i acc t σ (bW σ ((base+i) :: π) (.iaddrS k (x.ev G t) (j.ev G t))):=ee rfl
theorem M3 {m k:Nat} {x j:aV}:vs P G π base Q n (⟨d, .iaddrA m k x j,none⟩::os) i t σ = yt P G π base Q n d os i t σ (bW σ ((base+i) :: π) (.iaddrA m k (x.ev G t) (j.ev G t))):=dZ rfl
theorem M4 {m k:Nat} {x j:aV}:vd P G π base Q n ps (⟨d, .iaddrA m k x j,none⟩::os) i acc t σ = yu P G π base Q n ps d os i acc t σ (bW σ ((base+i) :: π) (.iaddrA m k (x.ev G t) (j.ev G t))):=ee rfl
theorem M5 {x j:aV}:vs P G π base Q n (⟨d, .indexS x j,none⟩::os) i t σ = yt P G π base Q n d os i t σ (bW σ ((base+i) :: π) (.indexS (x.ev G t) (j.ev G t))):=dZ rfl
theorem M6 {x j:aV}:vd P G π base Q n ps (⟨d, .indexS x j,none⟩::os) i acc t σ = yu P G π base Q n ps d os i acc t σ (bW σ ((base+i) :: π) (.indexS (x.ev G t) (j.ev G t))):=ee rfl
theorem M7 {a:Bool} {m k:Nat} {x j:aV}:vs P G π base Q n (⟨d, .indexA a m k x j,none⟩::os) i t σ = yt P G π base Q n d os i t σ (bW σ ((base+i) :: π) (.indexA a m k (x.ev G t) (j.ev G t))):=dZ rfl
theorem M8 {a:Bool} {m k:Nat} {x j:aV}:vd P G π base Q n ps (⟨d, .indexA a m k x j,none⟩::os) i acc t σ = yu P G π base Q n ps d os i acc t σ (bW σ ((base+i) :: π) (.indexA a m k (x.ev G t) (j.ev G t))):=ee rfl
theorem J5 {x:aV} {j:Nat}:vs P G π base Q n (⟨d, .extract x j,none⟩::os) i t σ = yt P G π base Q n d os i t σ (bW σ ((base+i) :: π) (.extract (x.ev G t) j)):=dZ rfl
theorem J6 {x:aV} {j:Nat}:vd P G π base Q n ps (⟨d, .extract x j,none⟩::os) i acc t σ = yu P G π base Q n ps d os i acc t σ (bW σ ((base+i) :: π) (.extract (x.ev G t) j)):=ee rfl
theorem abT {b:Bool} {x:aV}:vs P G π base Q n (⟨d, .len b x,none⟩::os) i t σ = yt P G π base Q n d os i t σ (bW σ ((base+i) :: π) (.len b (x.ev G t))):=dZ rfl
theorem abU {b:Bool} {x:aV}:vd P G π base Q n ps (⟨d, .len b x,none⟩::os) i acc t σ = yu P G π base Q n ps d os i acc t σ (bW σ ((base+i) :: π) (.len b (x.ev G t))):=ee rfl
theorem VU {m:Nat} {x:aV}:vs P G π base Q n (⟨d, .lenN m x,none⟩::os) i t σ = yt P G π base Q n d os i t σ (bW σ ((base+i) :: π) (.lenN m (x.ev G t))):=dZ rfl
theorem VV {m:Nat} {x:aV}:vd P G π base Q n ps (⟨d, .lenN m x,none⟩::os) i acc t σ = yu P G π base Q n ps d os i acc t σ (bW σ ((base+i) :: π) (.lenN m (x.ev G t))):=ee rfl
theorem M9 {k b:Nat} {s x:aV}:vs P G π base Q n (⟨d, .append k b s x,none⟩::os) i t σ = yt P G π base Q n d os i t σ (bW σ ((base+i) :: π) (.append k b (s.ev G t) (x.ev G t))):=dZ rfl
theorem Na {k b:Nat} {s x:aV}:vd P G π base Q n ps (⟨d, .append k b s x,none⟩::os) i acc t σ = yu P G π base Q n ps d os i acc t σ (bW σ ((base+i) :: π) (.append k b (s.ev G t) (x.ev G t))):=ee rfl
theorem abV {x y:aV}:vs P G π base Q n (⟨d, .min x y,none⟩::os) i t σ = yt P G π base Q n d os i t σ (bW σ ((base+i) :: π) (.min (x.ev G t) (y.ev G t))):=dZ rfl
theorem abW {x y:aV}:vd P G π base Q n ps (⟨d, .min x y,none⟩::os) i acc t σ = yu P G π base Q n ps d os i acc t σ (bW σ ((base+i) :: π) (.min (x.ev G t) (y.ev G t))):=ee rfl
theorem abX {x y:aV}:vs P G π base Q n (⟨d, .max x y,none⟩::os) i t σ = yt P G π base Q n d os i t σ (bW σ ((base+i) :: π) (.max (x.ev G t) (y.ev G t))):=dZ rfl
theorem abY {x y:aV}:vd P G π base Q n ps (⟨d, .max x y,none⟩::os) i acc t σ = yu P G π base Q n ps d os i acc t σ (bW σ ((base+i) :: π) (.max (x.ev G t) (y.ev G t))):=ee rfl
theorem abZ {x:aV}:vs P G π base Q n (⟨d, .cap x,none⟩::os) i t σ = yt P G π base Q n d os i t σ (bW σ ((base+i) :: π) (.cap (x.ev G t))):=dZ rfl
theorem ab0 {x:aV}:vd P G π base Q n ps (⟨d, .cap x,none⟩::os) i acc t σ = yu P G π base Q n ps d os i acc t σ (bW σ ((base+i) :: π) (.cap (x.ev G t))):=ee rfl
theorem Ro {k:Nat} {z:AV} {x:aV}:vs P G π base Q n (⟨d, .clear k z x,none⟩::os) i t σ = yt P G π base Q n d os i t σ (bW σ ((base+i) :: π) (.clear k z (x.ev G t))):=dZ rfl
theorem Rp {k:Nat} {z:AV} {x:aV}:vd P G π base Q n ps (⟨d, .clear k z x,none⟩::os) i acc t σ = yu P G π base Q n ps d os i acc t σ (bW σ ((base+i) :: π) (.clear k z (x.ev G t))):=ee rfl
theorem VX {k:Nat} {e x:aV}:vs P G π base Q n (⟨d, .copy k e x,none⟩::os) i t σ = yt P G π base Q n d os i t σ (bW σ ((base+i) :: π) (.copy k (e.ev G t) (x.ev G t))):=dZ rfl
theorem VY {k:Nat} {e x:aV}:vd P G π base Q n ps (⟨d, .copy k e x,none⟩::os) i acc t σ = yu P G π base Q n ps d os i acc t σ (bW σ ((base+i) :: π) (.copy k (e.ev G t) (x.ev G t))):=ee rfl
theorem VZ {k b:Nat} {z:AV} {s m:aV}:vs P G π base Q n (⟨d, .appz k b z s m,none⟩::os) i t σ = yt P G π base Q n d os i t σ (bW σ ((base+i) :: π) (.appz k b z (s.ev G t) (m.ev G t))):=dZ rfl
theorem V0 {k b:Nat} {z:AV} {s m:aV}:vd P G π base Q n ps (⟨d, .appz k b z s m,none⟩::os) i acc t σ = yu P G π base Q n ps d os i acc t σ (bW σ ((base+i) :: π) (.appz k b z (s.ev G t) (m.ev G t))):=ee rfl
theorem s_call {f:aV} {l:List aV}:vs P G π base Q n (⟨d, .call f l,none⟩::os) i t σ = QZ P G π base Q n d os i t σ (some true) (f.ev G t) (l.map (aV.ev G t)):=Zp
theorem V1 {f:aV} {l:List aV}:vd P G π base Q n ps (⟨d, .call f l,none⟩::os) i acc t σ = Q1 P G π base Q n ps d os i acc t σ (some true) (f.ev G t) (l.map (aV.ev G t)):=Zq
end
section
variable {σ : ae} {p:Id}
theorem V3 {x:AV}:bW σ p (.mv x)=bB (some x):=(rfl)
theorem Nb {b:Bool} {x y:AV}:bW σ p (.pick (.bool b) x y)=bB (some (if b then x else y)):=(rfl)
theorem Rr {x:AV}:bW σ p (.box x)=if x.cells.all AV.one=true then some { val := .ref p 0 0,up:=[(p,some ⟨[x],x.size,false⟩)] } else none:=(rfl)
theorem J7 {z:List AV} {l:List (Nat × Nat × AV)}:bW σ p (.build z l)=bB ((kW z l).map .agg):=(rfl)
theorem zT {k n:Nat} {z:AV} {ps:List (Nat × AV)}:bW σ p (.buildSl k n z ps)=(match kY k (List.replicate n z) ps with
   | some es=>if z.size=k/\z.cells.all AV.one=true then (if n=0 then some { val := .tsl k [] } else some { val := .osl p k 0 n false,up:=[(p,some ⟨es,k,false⟩)] }) else none
   | none=>none):=(rfl)
theorem Nc {a:Bool} {n:Nat} {x:AV}:bW σ p (.load a n x)=lK σ a n x:=(rfl)
theorem J8 {n:Nat} {x v:AV}:bW σ p (.store n x v)=ir σ n x v:=(rfl)
theorem Rs {o:BinOp} {sh:Sh} {x y:AV}:bW σ p (.bin o sh x y)=bB (bP o sh x y):=(rfl)
theorem V4 {o:UnOp} {x:AV}:bW σ p (.un o x)=bB (vun o x):=(rfl)
theorem J9 {k k':IntKind} {n:Int}:bW σ p (.toInt k (.int k' n))=bB (some (.int k (k.wrap n))):=(rfl)
theorem Ka {s:List UInt8}:bW σ p (.idStr (.str s))=bB (some (.str s)):=(rfl)
theorem Dl {x:AV}:bW σ p (.bytesStr x)=sc σ x:=(rfl)
theorem Nd {fn:Fn} {a c:List AV}:bW σ p (.mkfn fn a c)=bB (some (.fn fn a c)):=(rfl)
theorem Nf {k b:Nat} {z l c:AV}:bW σ p (.mksl k b z l c)=jJ p k b z l c:=(rfl)
theorem Kb {k:Nat} {x:AV} {lo hi mx:Option AV}:bW σ p (.slice k x lo hi mx)=rT σ k x lo hi mx (gh k x lo hi mx):=(rfl)
theorem Dm {k:Nat} {x:AV} {lo hi mx:Option AV} {v:AV}:rT σ k x lo hi mx (some v)=bB (some v):=(rfl)
theorem Ho {x:AV} {lo hi:Option AV}:bW σ p (.sliceS x lo hi)=bB (Gt x lo hi):=(rfl)
theorem B4 {o:Nat} {id:Id} {e q:Nat}:bW σ p (.faddr o (.ref id e q))=bB (some (.ref id e (q+o))):=(rfl)
theorem Dn {o:Nat} {cs:List AV} {q:Nat}:bW σ p (.faddr o (.ep cs q))=bB (some (.ep cs (q+o))):=(rfl)
theorem Kc {a:Bool} {o n:Nat} {cs:List AV}:bW σ p (.field a o n (.agg cs))=bB (part a cs o n):=(rfl)
theorem Hp {k:Nat} {x i:AV}:bW σ p (.iaddrS k x i)=bB (bK k x i):=(rfl)
theorem Hq {n k:Nat} {x i:AV}:bW σ p (.iaddrA n k x i)=bB (pc n k x i):=(rfl)
theorem Cs {s:List UInt8} {k:IntKind} {i:Int}:bW σ p (.indexS (.str s) (.int k i))=if 0<=i then bB ((s[i.toNat]?).map fun b => .int .u8 b.toNat) else none:=(rfl)
theorem Hr {a:Bool} {n k:Nat} {cs:List AV} {k':IntKind} {i:Int}:bW σ p (.indexA a n k (.agg cs) (.int k' i))=if 0<=i/\i<n then bB (part a cs (i.toNat*k) k) else none:=(rfl)
theorem FD {l:List AV} {i:Nat}:bW σ p (.extract (.tup l) i)=bB l[i]? := (rfl)
theorem Rt {b:Bool} {x:AV}:bW σ p (.len b x)=bB (ni b x):=(rfl)
theorem Ng {n:Nat} {x:AV}:bW σ p (.lenN n x)=bB (some (.int .i64 n)):=(rfl)
theorem Hs {k b:Nat} {s x:AV}:bW σ p (.append k b s x)=fK σ p k b s x:=(rfl)
theorem Ru {k k':IntKind} {a b:Int}:bW σ p (.min (.int k a) (.int k' b))=bB (some (.int k (if b<a then b else a))):=(rfl)
theorem Rv {k k':IntKind} {a b:Int}:bW σ p (.max (.int k a) (.int k' b))=bB (some (.int k (if b>a then b else a))):=(rfl)
theorem Rw {x:AV}:bW σ p (.cap x)=GQ σ x (U6 x):=(rfl)
theorem Ht {x v:AV}:GQ σ x (some v)=bB (some v):=(rfl)
theorem Rx {x c:AV}:bW σ p (.idx x c)=bB (U7 x c):=(rfl)
theorem Nh {s:List UInt8} {c:Int}:U7 (.str s) (.int .u8 c)=some (.int .i64 (ud s c.toNat.toUInt8)):=(rfl)
theorem Ry {x y:AV}:bW σ p (.ovl x y)=S2 σ x y:=(rfl)
theorem Kd {k:Nat} {z x:AV}:bW σ p (.clear k z x)=GO σ k z x:=(rfl)
theorem Ni {k:Nat} {d x:AV}:bW σ p (.copy k d x)=Mt σ k d x:=(rfl)
theorem Nj {k b:Nat} {z s n:AV}:bW σ p (.appz k b z s n)=Jz p k b z s n:=(rfl)
theorem B5 {id:Id} {e o:Nat}:bW σ p (.nilck (.ref id e o))=bB (some (.ref id e o)):=(rfl)
theorem Dp {cs:List AV} {o:Nat}:bW σ p (.nilck (.ep cs o))=bB (some (.ep cs o)):=(rfl)
theorem Dq {f:FuncId} {a c:List AV}:bW σ p (.nilck (.fn (.func f) a c))=bB (some (.fn (.func f) a c)):=(rfl)
theorem K5 {k:IntKind} {a b:Int}:bP .add .int (.int k a) (.int k b)=some (.int k (k.wrap (a+b))):=by simp only [bP];rw [show lW .add .int (.int k a) (.int k b)=some (.int k (k.wrap (a+b))) from by simp [lW,vH]]
theorem Rz {k:IntKind} {a b:Int}:bP .sub .int (.int k a) (.int k b)=some (.int k (k.wrap (a-b))):=by simp only [bP];rw [show lW .sub .int (.int k a) (.int k b)=some (.int k (k.wrap (a-b))) from by simp [lW,vH]]
theorem RA {k:IntKind} {a b:Int}:bP .mul .int (.int k a) (.int k b)=some (.int k (k.wrap (a*b))):=by simp only [bP];rw [show lW .mul .int (.int k a) (.int k b)=some (.int k (k.wrap (a*b))) from by simp [lW,vH]]
theorem K6 {k:IntKind} {a b:Int} (h:b≠0):bP .quo .int (.int k a) (.int k b)=some (.int k (k.wrap (a.tdiv b))):=by simp only [bP];rw [show lW .quo .int (.int k a) (.int k b)=some (.int k (k.wrap (a.tdiv b))) from by simp [lW,vH,h]]
theorem RB {k:IntKind} {a b:Int} (h:b≠0):bP .rem .int (.int k a) (.int k b)=some (.int k (a.tmod b)):=by simp only [bP];rw [show lW .rem .int (.int k a) (.int k b)=some (.int k (a.tmod b)) from by simp [lW,vH,h]]
theorem RD {k:IntKind} {a b:Int}:bP .eql .int (.int k a) (.int k b)=some (.bool (decide (a=b))):=by simp only [bP];rw [show lW .eql .int (.int k a) (.int k b)=some (.bool (decide (a=b))) from by simp only [lW,vH,or_true,if_true];rfl]
theorem RE {k:IntKind} {a b:Int}:bP .neq .int (.int k a) (.int k b)=some (.bool (decide (a≠b))):=by simp only [bP];rw [show lW .neq .int (.int k a) (.int k b)=some (.bool (decide (a≠b))) from by simp [lW,vH,bne,Int.instDecidableEq];rfl]
theorem RF {k:IntKind} {a b:Int}:bP .lss .int (.int k a) (.int k b)=some (.bool (decide (a<b))):=by simp only [bP];rw [show lW .lss .int (.int k a) (.int k b)=some (.bool (decide (a<b))) from by simp [lW,vH]]
theorem RG {k:IntKind} {a b:Int}:bP .leq .int (.int k a) (.int k b)=some (.bool (decide (a<=b))):=by simp only [bP];rw [show lW .leq .int (.int k a) (.int k b)=some (.bool (decide (a<=b))) from by simp [lW,vH]]
theorem RH {k:IntKind} {a b:Int}:bP .gtr .int (.int k a) (.int k b)=some (.bool (decide (b<a))):=by simp only [bP];rw [show lW .gtr .int (.int k a) (.int k b)=some (.bool (decide (b<a))) from by simp [lW,vH]]
theorem RI {k:IntKind} {a b:Int}:bP .geq .int (.int k a) (.int k b)=some (.bool (decide (b<=a))):=by simp only [bP];rw [show lW .geq .int (.int k a) (.int k b)=some (.bool (decide (b<=a))) from by simp [lW,vH]]
theorem K7 {k k':IntKind} {a b:Int} (h:0<=b):bP .shl .int (.int k a) (.int k' b)=some (.int k (k.wrap (a*2 ^ (min b.toNat k.bits)))):=by simp only [bP];rw [show lW .shl .int (.int k a) (.int k' b)=some (.int k (k.wrap (a*2 ^ (min b.toNat k.bits)))) from by simp [lW,vH,Int.not_lt.2 h]]
theorem uh {k k':IntKind} {a b:Int} (h:0<=b):bP .shr .int (.int k a) (.int k' b)=some (.int k (a.fdiv (2 ^ (min b.toNat k.bits)))):=by simp only [bP];rw [show lW .shr .int (.int k a) (.int k' b)=some (.int k (a.fdiv (2 ^ (min b.toNat k.bits)))) from by simp [lW,vH,Int.not_lt.2 h]]
theorem FE {a b:List UInt8}:bP .eql .str (.str a) (.str b)=some (.bool (a==b)):=(rfl)
theorem FF {a b:List UInt8}:bP .neq .str (.str a) (.str b)=some (.bool !(a==b)):=(rfl)
theorem Dr {a b:Bool}:bP .eql .bool (.bool a) (.bool b)=some (.bool (a==b)):=(rfl)
theorem Ds {a b:Bool}:bP .neq .bool (.bool a) (.bool b)=some (.bool !(a==b)):=(rfl)
theorem Nk {k:Nat}:bP .eql .slice (.sl k []) .nils=some .anyb:=(rfl)
theorem Nl {k:Nat} {e:AV} {es:List AV}:bP .eql .slice (.sl k (e::es)) .nils=some (.bool false):=(rfl)
theorem Nm {id:Id} {k o l:Nat} {t:Bool}:bP .eql .slice (.osl id k o l t) .nils=some (.bool false):=(rfl)
theorem Nn:bP .eql .slice .nils .nils=some (.bool true):=(rfl)
theorem Np {id:Id} {e o:Nat}:bP .eql .ptr (.ref id e o) .nilp=some (.bool false):=(rfl)
theorem V5 {a:Bool}:vun .not (.bool a)=some (.bool !a):=(rfl)
theorem V6 {k:IntKind} {a:Int}:vun .neg (.int k a)=some (.int k (k.wrap (0-a))):=(rfl)
theorem Nq:ni false .nils=some (.int .i64 0):=(rfl)
theorem V7 {k:Nat} {es:List AV}:ni false (.sl k es)=some (.int .i64 es.length):=(rfl)
theorem RJ {k:Nat} {es:List AV}:ni false (.tsl k es)=some (.int .i64 es.length):=(rfl)
theorem RL {id:Id} {k o l:Nat} {b:Bool}:ni false (.osl id k o l b)=some (.int .i64 l):=(rfl)
theorem RM {s:List UInt8}:ni true (.str s)=some (.int .i64 s.length):=(rfl)
end
end Go.VL
end

section
namespace Go.VL
abbrev oM (d x:Nat):bx:=⟨some d, .mv (.t x),none⟩
abbrev oI (d:Nat) (z:Int):bx:=⟨some d, .mv (.c (.int .i64 z)),none⟩
abbrev oB (d:Nat) (b:Bool):bx:=⟨some d, .mv (.c (.bool b)),none⟩
abbrev oZ (d:Nat):bx:=⟨some d, .mv (.c .nils),none⟩
abbrev oL (d n x:Nat):bx:=⟨some d, .load false n (.t x),none⟩
abbrev aF (d n x:Nat):bx:=⟨some d, .load true n (.t x),none⟩
abbrev oF (d o x:Nat):bx:=⟨some d, .faddr o (.t x),none⟩
abbrev oA (d n x y:Nat):bx:=⟨some d, .iaddrS n (.t x) (.t y),none⟩
abbrev oN (d x:Nat):bx:=⟨some d, .len false (.t x),none⟩
abbrev oS (n x y:Nat):bx:=⟨none, .store n (.t x) (.t y),none⟩
abbrev oX (d x:Nat):bx:=⟨some d, .box (.t x),none⟩
abbrev oE (d x j:Nat):bx:=⟨some d, .extract (.t x) j,none⟩
abbrev rr (d x:Nat):bx:=⟨some d, .un .not (.t x),none⟩
abbrev Hu (d x:Nat):bx:=⟨some d, .nilck (.t x),none⟩
abbrev pg (d x y:Nat):bx:=⟨some d, .pick (.t x) (.t y) (.c (.bool false)),none⟩
abbrev sj (d x y:Nat):bx:=⟨some d, .pick (.t x) (.c (.bool true)) (.t y),none⟩
abbrev oC (d f x:Nat):bx:=⟨some d, .call (.f f) [.t x],none⟩
abbrev bc (d f x y:Nat):bx:=⟨some d, .call (.f f) [.t x, .t y],none⟩
abbrev oK (d:Nat) (k:IntKind) (x:Nat):bx:=⟨some d, .toInt k (.t x),none⟩
abbrev Bl (d k b x y:Nat):bx:=⟨some d, .append k b (.t x) (.t y),none⟩
abbrev oT (d:Nat) (o:BinOp) (x y:Nat):bx:=⟨some d, .bin o .int (.t x) (.t y),none⟩
abbrev bd (d:Nat) (o:BinOp) (x:Nat) (z:Int):bx:=⟨some d, .bin o .int (.t x) (.c (.int .i64 z)),none⟩
abbrev gM (d x g:Nat) (b:Bool):bx:=⟨some d, .mv (.t x),some (g,b)⟩
abbrev gL (d n x g:Nat) (b:Bool):bx:=⟨some d, .load false n (.t x),some (g,b)⟩
abbrev sx (d n x g:Nat) (b:Bool):bx:=⟨some d, .load true n (.t x),some (g,b)⟩
abbrev gF (d o x g:Nat) (b:Bool):bx:=⟨some d, .faddr o (.t x),some (g,b)⟩
abbrev gN (d x g:Nat) (b:Bool):bx:=⟨some d, .len false (.t x),some (g,b)⟩
abbrev gT (d:Nat) (o:BinOp) (x y g:Nat) (b:Bool):bx:=⟨some d, .bin o .int (.t x) (.t y),some (g,b)⟩
abbrev cS (l:List bx) (c:bY):bY := .seq (.reg none l) c
abbrev cR (l:List bx):bY := .reg none l
end Go.VL
end

section
namespace Go.VL
theorem SS:(((((((type_of% @MO)/\(type_of% @Q3))/\((type_of% @Hi)/\((type_of% @MP)/\(type_of% @Hh))))/\(((type_of% @FA)/\(type_of% @JT))/\((type_of% @JU)/\((type_of% @MQ)/\(type_of% @Q4)))))/\((((type_of% @zS)/\(type_of% @JR))/\((type_of% @MK)/\((type_of% @Fx)/\(type_of% @EA))))/\(((type_of% @ML)/\(type_of% @Dk))/\((type_of% @Hk)/\((type_of% @JW)/\(type_of% @VB))))))/\(((((type_of% @ag7)/\(type_of% @VI))/\((type_of% @abL)/\((type_of% @Q7)/\(type_of% @J3))))/\(((type_of% @VK)/\(type_of% @Q9))/\((type_of% @Rb)/\((type_of% @abN)/\(type_of% @ag9)))))/\((((type_of% @Re)/\(type_of% @Rg))/\((type_of% @Hm)/\((type_of% @abP)/\(type_of% @abR))))/\(((type_of% @VN)/\(type_of% @VR))/\((type_of% @Ri)/\((type_of% @MY)/\(type_of% @Rk)))))))/\((((((type_of% @Rm)/\(type_of% @M0))/\((type_of% @M3)/\((type_of% @M5)/\(type_of% @M7))))/\(((type_of% @J5)/\(type_of% @abT))/\((type_of% @VU)/\((type_of% @M9)/\(type_of% @abV)))))/\((((type_of% @abX)/\(type_of% @abZ))/\((type_of% @Ro)/\((type_of% @VX)/\(type_of% @VZ))))/\(((type_of% @s_call)/\(type_of% @sg))/\((type_of% @MR)/\((type_of% @MS)/\(type_of% @JX))))))/\(((((type_of% @MV)/\(type_of% @JZ))/\((type_of% @Q5)/\((type_of% @VH)/\(type_of% @J1))))/\(((type_of% @J2)/\(type_of% @ag4))/\((type_of% @ag5)/\((type_of% @ag6)/\(type_of% @Q6)))))/\((((type_of% @MX)/\(type_of% @V3))/\((type_of% @Nb)/\((type_of% @Rr)/\(type_of% @J7))))/\(((type_of% @Nc)/\((type_of% @J8)/\(type_of% @Rs)))/\((type_of% @V4)/\((type_of% @J9)/\(type_of% @Ka))))))))/\(((((((type_of% @Dl)/\(type_of% @Rx))/\((type_of% @Ry)/\((type_of% @Nd)/\(type_of% @Nf))))/\(((type_of% @Kb)/\(type_of% @Ho))/\((type_of% @B4)/\((type_of% @Dn)/\(type_of% @Kc)))))/\((((type_of% @Hp)/\(type_of% @Hq))/\((type_of% @Cs)/\((type_of% @Hr)/\(type_of% @FD))))/\(((type_of% @Rt)/\(type_of% @Ng))/\((type_of% @Hs)/\((type_of% @Ru)/\(type_of% @Rv))))))/\(((((type_of% @Rw)/\(type_of% @Kd))/\((type_of% @Ni)/\((type_of% @Nj)/\(type_of% @B5))))/\(((type_of% @Dp)/\(type_of% @Dq))/\((type_of% @K5)/\((type_of% @Rz)/\(type_of% @RA)))))/\((((type_of% @RD)/\(type_of% @RE))/\((type_of% @RF)/\((type_of% @RG)/\(type_of% @RH))))/\(((type_of% @RI)/\((type_of% @FE)/\(type_of% @FF)))/\((type_of% @Dr)/\((type_of% @Ds)/\(type_of% @Nk)))))))/\((((((type_of% @Nl)/\(type_of% @Nm))/\((type_of% @Nn)/\((type_of% @Np)/\(type_of% @Dm))))/\(((type_of% @Ht)/\(type_of% @Nh))/\((type_of% @V5)/\((type_of% @V6)/\(type_of% @Nq)))))/\((((type_of% @V7)/\(type_of% @RJ))/\((type_of% @RL)/\((type_of% @RM)/\(type_of% @List.getD_cons_zero.{0}))))/\(((type_of% @List.getD_cons_succ.{0})/\(type_of% @List.set_cons_zero.{0}))/\((type_of% @List.set_cons_succ.{0})/\((type_of% @List.map_cons.{0,0})/\(type_of% @List.map_nil.{0,0}))))))/\(((((type_of% @Option.map_some.{0,0})/\(type_of% @Option.map_none.{0,0}))/\((type_of% @List.length_cons.{0})/\((type_of% @List.length_nil.{0})/\(type_of% @beq_self_eq_true.{0}))))/\(((type_of% @if_true.{1})/\(type_of% @if_false.{1}))/\((type_of% @Hf)/\((type_of% @List.append_nil.{0})/\(type_of% @List.nil_append.{0})))))/\((((type_of% @List.cons_append.{0})/\(type_of% @Bool.true_beq))/\((type_of% @Bool.false_beq)/\((type_of% @beq_true)/\(type_of% @beq_false))))/\(((type_of% @Bool.not_true)/\((type_of% @Bool.not_false)/\(type_of% @Nat.zero_add)))/\((type_of% @Bool.false_eq_true)/\((type_of% @List.replicate_succ.{0})/\(type_of% @List.replicate_zero.{0})))))))) :=
 ⟨⟨⟨⟨⟨⟨⟨@MO, @Q3⟩,⟨@Hi,⟨@MP, @Hh⟩⟩⟩,⟨⟨@FA, @JT⟩,⟨@JU,⟨@MQ, @Q4⟩⟩⟩⟩,⟨⟨⟨@zS, @JR⟩,⟨@MK,⟨@Fx, @EA⟩⟩⟩,⟨⟨@ML, @Dk⟩,⟨@Hk,⟨@JW, @VB⟩⟩⟩⟩⟩,⟨⟨⟨⟨@ag7, @VI⟩,⟨@abL,⟨@Q7, @J3⟩⟩⟩,⟨⟨@VK, @Q9⟩,⟨@Rb,⟨@abN, @ag9⟩⟩⟩⟩,⟨⟨⟨@Re, @Rg⟩,⟨@Hm,⟨@abP, @abR⟩⟩⟩,⟨⟨@VN, @VR⟩,⟨@Ri,⟨@MY, @Rk⟩⟩⟩⟩⟩⟩,⟨⟨⟨⟨⟨@Rm, @M0⟩,⟨@M3,⟨@M5, @M7⟩⟩⟩,⟨⟨@J5, @abT⟩,⟨@VU,⟨@M9, @abV⟩⟩⟩⟩,⟨⟨⟨@abX, @abZ⟩,⟨@Ro,⟨@VX, @VZ⟩⟩⟩,⟨⟨@s_call, @sg⟩,⟨@MR,⟨@MS, @JX⟩⟩⟩⟩⟩,⟨⟨⟨⟨@MV, @JZ⟩,⟨@Q5,⟨@VH, @J1⟩⟩⟩,⟨⟨@J2, @ag4⟩,⟨@ag5,⟨@ag6, @Q6⟩⟩⟩⟩,⟨⟨⟨@MX, @V3⟩,⟨@Nb,⟨@Rr, @J7⟩⟩⟩,⟨⟨@Nc,⟨@J8, @Rs⟩⟩,⟨@V4,⟨@J9, @Ka⟩⟩⟩⟩⟩⟩⟩,⟨⟨⟨⟨⟨⟨@Dl, @Rx⟩,⟨@Ry,⟨@Nd, @Nf⟩⟩⟩,⟨⟨@Kb, @Ho⟩,⟨@B4,⟨@Dn, @Kc⟩⟩⟩⟩,⟨⟨⟨@Hp, @Hq⟩,⟨@Cs,⟨@Hr, @FD⟩⟩⟩,⟨⟨@Rt, @Ng⟩,⟨@Hs,⟨@Ru, @Rv⟩⟩⟩⟩⟩,⟨⟨⟨⟨@Rw, @Kd⟩,⟨@Ni,⟨@Nj, @B5⟩⟩⟩,⟨⟨@Dp, @Dq⟩,⟨@K5,⟨@Rz, @RA⟩⟩⟩⟩,⟨⟨⟨@RD, @RE⟩,⟨@RF,⟨@RG, @RH⟩⟩⟩,⟨⟨@RI,⟨@FE, @FF⟩⟩,⟨@Dr,⟨@Ds, @Nk⟩⟩⟩⟩⟩⟩,⟨⟨⟨⟨⟨@Nl, @Nm⟩,⟨@Nn,⟨@Np, @Dm⟩⟩⟩,⟨⟨@Ht, @Nh⟩,⟨@V5,⟨@V6, @Nq⟩⟩⟩⟩,⟨⟨⟨@V7, @RJ⟩,⟨@RL,⟨@RM, @List.getD_cons_zero.{0}⟩⟩⟩,⟨⟨@List.getD_cons_succ.{0}, @List.set_cons_zero.{0}⟩,⟨@List.set_cons_succ.{0},⟨@List.map_cons.{0,0}, @List.map_nil.{0,0}⟩⟩⟩⟩⟩,⟨⟨⟨⟨@Option.map_some.{0,0}, @Option.map_none.{0,0}⟩,⟨@List.length_cons.{0},⟨@List.length_nil.{0}, @beq_self_eq_true.{0}⟩⟩⟩,⟨⟨@if_true.{1}, @if_false.{1}⟩,⟨@Hf,⟨@List.append_nil.{0}, @List.nil_append.{0}⟩⟩⟩⟩,⟨⟨⟨@List.cons_append.{0}, @Bool.true_beq⟩,⟨@Bool.false_beq,⟨@beq_true, @beq_false⟩⟩⟩,⟨⟨@Bool.not_true,⟨@Bool.not_false, @Nat.zero_add⟩⟩,⟨@Bool.false_eq_true,⟨@List.replicate_succ.{0}, @List.replicate_zero.{0}⟩⟩⟩⟩⟩⟩⟩⟩
theorem DD:(((((type_of% @Hj)/\(type_of% @VC))/\((type_of% @ag8)/\((type_of% @VJ)/\(type_of% @abM))))/\(((type_of% @Q8)/\((type_of% @J4)/\(type_of% @VM)))/\((type_of% @Ra)/\((type_of% @Rc)/\(type_of% @abO)))))/\((((type_of% @aha)/\(type_of% @Rf))/\((type_of% @Rh)/\((type_of% @Hn)/\(type_of% @abQ))))/\(((type_of% @abS)/\((type_of% @VO)/\(type_of% @VT)))/\((type_of% @Rj)/\((type_of% @MZ)/\(type_of% @Rl))))))/\(((((type_of% @Rn)/\(type_of% @M1))/\((type_of% @M4)/\((type_of% @M6)/\(type_of% @M8))))/\(((type_of% @J6)/\((type_of% @abU)/\(type_of% @VV)))/\((type_of% @Na)/\((type_of% @abW)/\(type_of% @abY)))))/\((((type_of% @ab0)/\((type_of% @Rp)/\(type_of% @VY)))/\((type_of% @V0)/\((type_of% @V1)/\(type_of% @dg))))/\(((type_of% @MT)/\((type_of% @MU)/\(type_of% @JY)))/\((type_of% @MW)/\((type_of% @J0)/\(type_of% @Hg)))))) :=
 ⟨⟨⟨⟨⟨@Hj, @VC⟩,⟨@ag8,⟨@VJ, @abM⟩⟩⟩,⟨⟨@Q8,⟨@J4, @VM⟩⟩,⟨@Ra,⟨@Rc, @abO⟩⟩⟩⟩,⟨⟨⟨@aha, @Rf⟩,⟨@Rh,⟨@Hn, @abQ⟩⟩⟩,⟨⟨@abS,⟨@VO, @VT⟩⟩,⟨@Rj,⟨@MZ, @Rl⟩⟩⟩⟩⟩,⟨⟨⟨⟨@Rn, @M1⟩,⟨@M4,⟨@M6, @M8⟩⟩⟩,⟨⟨@J6,⟨@abU, @VV⟩⟩,⟨@Na,⟨@abW, @abY⟩⟩⟩⟩,⟨⟨⟨@ab0,⟨@Rp, @VY⟩⟩,⟨@V0,⟨@V1, @dg⟩⟩⟩,⟨⟨@MT,⟨@MU, @JY⟩⟩,⟨@MW,⟨@J0, @Hg⟩⟩⟩⟩⟩⟩
theorem RS:(((type_of% @ai)/\(type_of% @FB))/\((type_of% @List.mapM_cons.{0,0,0})/\((type_of% @List.mapM_nil.{0,0,0})/\(type_of% @List.getD_cons_zero.{0}))))/\(((type_of% @List.getD_cons_succ.{0})/\(type_of% @Option.pure_def.{0}))/\((type_of% @Option.bind_eq_bind.{0})/\((type_of% @Option.bind_some.{0,0})/\(type_of% @Option.map_some.{0,0})))) :=
 ⟨⟨⟨@ai, @FB⟩,⟨@List.mapM_cons.{0,0,0},⟨@List.mapM_nil.{0,0,0}, @List.getD_cons_zero.{0}⟩⟩⟩,⟨⟨@List.getD_cons_succ.{0}, @Option.pure_def.{0}⟩,⟨@Option.bind_eq_bind.{0},⟨@Option.bind_some.{0,0}, @Option.map_some.{0,0}⟩⟩⟩⟩
end Go.VL
end

section
namespace Go.VL
def Has (P:Program) (f:FuncId) (vf:ax):Prop:=∃ fn,P.funcs[f]? = some fn/\JA P fn=some vf
section
variable {P:Program} {G:Nat->Option (List AV)}
theorem VP.has {f:FuncId} {vf:ax} (h:Has P f vf) {args:List AV} {r:AV} (k:yL P G [] vf.body (Tv vf.results r) ⟨args++List.replicate (vf.nt-args.length) (.tup []),fun _=>none,0⟩):VP P G f args r:=by
 obtain ⟨fn,h1,h2⟩:=h
 exact VP.of h1 h2 k
theorem aM.has {f:FuncId} {vf:ax} (h:Has P f vf) {args:List AV} {p:Id} {S:List (Id × dc)} {r:fL}
   (k:yL P G p vf.body (Tw G p S vf.results r) ⟨args++List.replicate (vf.nt-args.length) (.tup []),ae.of S,0⟩):aM P G f args p S r:=by
 obtain ⟨fn,h1,h2⟩:=h
 exact aM.abJ h1 h2 (VW.of k)
theorem cA {π : Id} {base:Nat} {Q:bM->VS->Prop} {n:Nat} {d:Option Nat} {os:List bx} {i:Nat} {t:List AV} {σ : ae} {f:FuncId} {args lZ:List AV} {r:AV} (S:List (Id × dc))
   (h:VP P G f lZ r) (hv:az (ae.of S) args lZ) (hS:∀ x∈S, σ x.1=some x.2) (k:vs P G π base Q n os (i+1) (hJ t d r) (σ.app (FC S))):EB P G π base Q n d os i t σ f args :=
 ⟨S,_,aM.K4 h hv,hS,fun x hx=>List.mem_map.2 ⟨x,hx,rfl⟩,k⟩
theorem FG {π : Id} {base:Nat} {Q:bM->VS->Prop} {n:Nat} {d:Option Nat} {os:List bx} {i:Nat} {t:List AV} {σ : ae} {f:FuncId} {args lZ:List AV} {r:AV} (S:List (Id × dc))
   (h:VP P G f lZ r) (hv:az (ae.of S) args lZ) (hf:jS r) (hS:∀ x∈S, σ x.1=some x.2) (k:vs P G π base Q n os (i+1) (hJ t d r) σ):EB P G π base Q n d os i t σ f args :=
 ⟨S,_,aM.of_flat h hv hf,hS,fun x hx=>List.mem_map.2 ⟨x,hx,rfl⟩,k⟩
theorem af {rs:List vI} {r:AV} {s:VS} (h:bn rs s=some r) (hp:ab r):∃ r0,bn rs s=some r0/\View s.σ r0 r:=⟨r,h,View.pure hp⟩
end
theorem gP {σ : ae} {id:Id} {b:Option dc} : σ.put id b id=b:=ae.dO σ id b
theorem jM {σ : ae} {id i:Id} {b:Option dc} (h:i≠id) : σ.put id b i = σ i:=ae.cN σ id b h
theorem EE {σ : ae} {agg:Bool} {n e o:Nat} {id:Id} {bk:dc} {el:AV} (h : σ id=some bk) (he:bk.els[e]? = some el):lK σ agg n (.ref id e o)=(part agg el.cells o n).map fun v=>{ val:=v,rd:=[id] }:=by
 simp [lK,h,he]
theorem aK {σ : ae} {agg:Bool} {n o:Nat} {cs:List AV}:lK σ agg n (.ep cs o)=(part agg cs o n).map fun v=>{ val:=v }:=rfl
end Go.VL
end

section
set_option maxRecDepth 100000
namespace Go.VL
def mS:ax:=⟨17,[(.tmp 2)],(cS [oB 2 false] (cS [oM 3 0,⟨some 4,.bin .geq .int (.t 3) (.c (.int .u8 97)),none⟩,oM 5 4,gM 6 0 5 true,⟨some 7,.bin .leq .int (.t 6) (.c (.int .u8 122)),some (5,true)⟩,pg 8 5 7,oM 9 8,gM 10 0 9 false,⟨some 11,.bin .geq .int (.t 10) (.c (.int .u8 65)),some (9,false)⟩,gM 12 11 9 false,gM 13 0 12 true,⟨some 14,.bin .leq .int (.t 13) (.c (.int .u8 90)),some (12,true)⟩,⟨some 15,.pick (.t 12) (.t 14) (.c (.bool false)),some (9,false)⟩,sj 16 9 15,oM 2 16] .ret))⟩
def nW:ax:=⟨9,[(.tmp 2)],(cS [oB 2 false] (cS [oM 3 0,⟨some 4,.bin .geq .int (.t 3) (.c (.int .u8 48)),none⟩,oM 5 4,gM 6 0 5 true,⟨some 7,.bin .leq .int (.t 6) (.c (.int .u8 57)),some (5,true)⟩,pg 8 5 7,oM 2 8] .ret))⟩
def sy (qw F3:Nat):ax:=⟨13,[(.tmp 2)],(cS [oB 2 false] (cS [oM 3 0,oC 4 qw 3,oM 5 4,gM 6 0 5 false,⟨some 7,.call (.f F3) [.t 6],some (5,false)⟩,sj 8 5 7,oM 9 8,gM 10 0 9 false,⟨some 11,.bin .eql .int (.t 10) (.c (.int .u8 95)),some (9,false)⟩,sj 12 9 11,oM 2 12] .ret))⟩
def xj:ax:=⟨20,[(.tmp 4)],(cS [oI 4 0] (cS [oI 5 0] (.seq (.block 0 (.loop (.seq (cS [oM 6 5,oM 7 0,⟨some 8,.len true (.t 7),none⟩,oT 9 .lss 6 8,oM 10 9,gM 11 1 10 true,gM 12 0 10 true,gM 13 5 10 true,⟨some 14,.indexS (.t 12) (.t 13),some (10,true)⟩,⟨some 15,.call (.t 11) [.t 14],some (10,true)⟩,pg 16 10 15] (.cond (.t 16) .skip (.exit 0))) (.block 1 (cR [oM 17 5,bd 18 .add 17 1,oM 5 18]))))) (cS [oM 19 5,oM 4 19] .ret))))⟩
def l3 (qw K8 Hv:Nat):ax:=⟨22,[(.tmp 2)],(cS [oB 2 false] (cS [oM 3 0,⟨some 4,.bin .neq .str (.t 3) (.c (.str [])),none⟩,oM 5 4,gM 6 0 5 true,⟨some 7,.len true (.t 6),some (5,true)⟩,⟨some 8,.bin .leq .int (.t 7) (.c (.int .i64 24)),some (5,true)⟩,pg 9 5 8,oM 10 9,gM 11 0 10 true,⟨some 12,.indexS (.t 11) (.c (.int .i64 0)),some (10,true)⟩,⟨some 13,.call (.f qw) [.t 12],some (10,true)⟩,pg 14 10 13,oM 15 14,gM 16 0 15 true,⟨some 17,.call (.f K8) [(.t 16),(.f Hv)],some (15,true)⟩,gM 18 0 15 true,⟨some 19,.len true (.t 18),some (15,true)⟩,gT 20 .eql 17 19 15 true,pg 21 15 20,oM 2 21] .ret))⟩
end Go.VL
end

section
set_option maxRecDepth 100000
namespace Go.VL
def eO:ax:=⟨8,[(.tmp 2)],(cS [oZ 2] (.seq (cS [oM 3 0,⟨some 4,.bin .eql .slice (.t 3) (.c .nils),none⟩] (.cond (.t 4) (cS [oZ 2] .ret) .skip)) (cS [⟨some 5,.buildSl 1 0 (.str []) [],none⟩,oM 6 0,Bl 7 1 16 5 6,oM 2 7] .ret)))⟩
end Go.VL
end

section
set_option maxRecDepth 100000
namespace Go.VL
def fB (yM:Nat):ax:=⟨17,[(.tmp 2)],(cS [oB 2 false] (cS [oM 3 0,⟨some 4,.bin .neq .str (.t 3) (.c (.str [])),none⟩,oM 5 4,gM 6 0 5 true,⟨some 7,.len true (.t 6),some (5,true)⟩,⟨some 8,.bin .leq .int (.t 7) (.c (.int .i64 24)),some (5,true)⟩,pg 9 5 8,oM 10 9,gM 11 0 10 true,⟨some 12,.call (.f yM) [(.t 11),(.c (.int .i64 0))],some (10,true)⟩,gM 13 0 10 true,⟨some 14,.len true (.t 13),some (10,true)⟩,gT 15 .eql 12 14 10 true,pg 16 10 15,oM 2 16] .ret))⟩
def gp (ox xk:Nat):ax:=⟨42,[(.tmp 4)],(cS [oI 4 0] (.seq (cS [oM 5 1,oM 6 0,⟨some 7,.len true (.t 6),none⟩,oT 8 .eql 5 7,oM 9 8,gM 10 0 9 false,gM 11 1 9 false,⟨some 12,.indexS (.t 10) (.t 11),some (9,false)⟩,⟨some 13,.call (.f ox) [.t 12],some (9,false)⟩,⟨some 14,.un .not (.t 13),some (9,false)⟩,sj 15 9 14] (.cond (.t 15) (cS [oM 16 1,oM 4 16] .ret) .skip)) (.seq (.block 0 (.loop (.seq (cS [oM 17 1,oM 18 0,⟨some 19,.len true (.t 18),none⟩,oT 20 .lss 17 19,oM 21 20,gM 22 0 21 true,gM 23 1 21 true,⟨some 24,.indexS (.t 22) (.t 23),some (21,true)⟩,⟨some 25,.call (.f ox) [.t 24],some (21,true)⟩,gM 26 25 21 true,gM 27 0 26 false,gM 28 1 26 false,⟨some 29,.indexS (.t 27) (.t 28),some (26,false)⟩,⟨some 30,.call (.f xk) [.t 29],some (26,false)⟩,⟨some 31,.pick (.t 26) (.c (.bool true)) (.t 30),some (21,true)⟩,gM 32 31 21 true,gM 33 0 32 false,gM 34 1 32 false,⟨some 35,.indexS (.t 33) (.t 34),some (32,false)⟩,⟨some 36,.bin .eql .int (.t 35) (.c (.int .u8 95)),some (32,false)⟩,⟨some 37,.pick (.t 32) (.c (.bool true)) (.t 36),some (21,true)⟩,pg 38 21 37] (.cond (.t 38) .skip (.exit 0))) (.block 1 (cR [oM 39 1,bd 40 .add 39 1,oM 1 40]))))) (cS [oM 41 1,oM 4 41] .ret))))⟩
def vN:ax:=⟨17,[(.tmp 2)],(cS [oB 2 false] (cS [oM 3 0,⟨some 4,.bin .geq .int (.t 3) (.c (.int .u8 97)),none⟩,oM 5 4,gM 6 0 5 true,⟨some 7,.bin .leq .int (.t 6) (.c (.int .u8 122)),some (5,true)⟩,pg 8 5 7,oM 9 8,gM 10 0 9 false,⟨some 11,.bin .geq .int (.t 10) (.c (.int .u8 65)),some (9,false)⟩,gM 12 11 9 false,gM 13 0 12 true,⟨some 14,.bin .leq .int (.t 13) (.c (.int .u8 90)),some (12,true)⟩,⟨some 15,.pick (.t 12) (.t 14) (.c (.bool false)),some (9,false)⟩,sj 16 9 15,oM 2 16] .ret))⟩
def xl:ax:=⟨9,[(.tmp 2)],(cS [oB 2 false] (cS [oM 3 0,⟨some 4,.bin .geq .int (.t 3) (.c (.int .u8 48)),none⟩,oM 5 4,gM 6 0 5 true,⟨some 7,.bin .leq .int (.t 6) (.c (.int .u8 57)),some (5,true)⟩,pg 8 5 7,oM 2 8] .ret))⟩
end Go.VL
end
