/- For the claim of FeatureMirror: parts VL15, VL16, VL17, VL18, VL19, VL20, VL22, VL24, VL25, VL26, VLA, VLS, VL27, GA, GB, GF. -/
import Derived.Test.YtchdghnpcekegaaGreatC02
import Derived.LoopN
set_option linter.unusedSimpArgs false
set_option linter.unusedVariables false
section
namespace Go.VL
theorem DZ {X Y:Nat->Bool}:∀ (L:List Done) (i:Nat) (t:List AV),(∀ k,k<L.length->X (i+k)=Y (i+k))->eZ X L i t=eZ Y L i t
 | [],_,_,_=>rfl
 | (d,r)::L,i,t,h=>by
   simp only [eZ]
   have h0:=h 0 (by simp)
   rw [Nat.add_zero] at h0
   rw [h0]
   exact DZ L (i+1) _ (fun k hk=>by rw [show i+1+k=i+(k+1) from by omega];exact h (k+1) (by simpa using hk))
theorem D0 {X Y:Nat->Bool}:∀ (L:List Done) (i:Nat) (σ : af),(∀ k,k<L.length->X (i+k)=Y (i+k))->gJ X L i σ = gJ Y L i σ
 | [],_,_,_=>rfl
 | (d,r)::L,i,t,h=>by
   simp only [gJ]
   have h0:=h 0 (by simp)
   rw [Nat.add_zero] at h0
   rw [h0]
   exact D0 L (i+1) _ (fun k hk=>by rw [show i+1+k=i+(k+1) from by omega];exact h (k+1) (by simpa using hk))
theorem Jg {X Y:Nat->Bool} {i:Nat} (hX:X i=false) (hY:Y i=true) (hXY:∀ k,X k=true->Y k=true):∀ (l:List Nat),i∈l->l.countP X<l.countP Y
 | [],h=>by simp at h
 | a :: l,h=>by
   have hle:l.countP X<=l.countP Y:=List.countP_mono_left fun x _ hx=>hXY x hx
   simp only [List.countP_cons]
   rcases List.mem_cons.1 h with rfl | h
   . simp [hX,hY];omega
   . have:=Jg hX hY hXY l h
     by_cases ha:X a=true
     . simp [ha,hXY a ha];omega
     . simp [ha];split<;>omega
theorem GD {X:Nat->Bool}:∀ (l:List Nat),l.length<=l.countP X->∀ i∈l,X i=true
 | [],_,i,h=>by simp at h
 | a :: l,hc,i,h=>by
   have hle:=List.countP_le_length (p:=X) (l:=l)
   simp only [List.countP_cons,List.length_cons] at hc
   by_cases ha:X a=true
   . simp only [ha,if_true] at hc
     rcases List.mem_cons.1 h with rfl | h
     . exact ha
     . exact GD l (by omega) i h
   . simp [ha] at hc;omega
section
variable {P:Program} {G:Nat->Option (List AV)} {own:Nat->Prop}
theorem Ct {n i j:Nat} (R7:i<j) (hj:j<n):(i,j)∈Ci n:=by
 unfold Ci
 rw [List.mem_flatMap]
 exact ⟨j,List.mem_range.2 hj,List.mem_map.2 ⟨i,List.mem_range.2 R7,rfl⟩⟩
structure Mid (G:Nat->Option (List AV)) (π : Id) (own:Nat->Prop) (L:List Done) (base n:Nat) (t0:List AV) (σ0:af) (a0:Act) (E0:Env) (w0:World) (X:Nat->Bool) (E:Env) (w:World) (a:Act):Prop where
 frame:cm E w (eZ X L 0 t0) a
 inv:Inv G own E w (gJ X L 0 σ0)
 Ia:nb own π E0 E w0 w
 free:∀ i,i<n->X i=false->∀ j,((base+i) :: π) <:+ j->E.μ j=none
 more:AL E π (base+n)
 defers:a.defers=a0.defers
theorem R8 {ops:Array Oper} {vs:List bx} (N5:ops.toList.mapM (A3 P ops)=some vs) (Ux:FZ vs (ops.toList.map A4)=true)
   {π : Id} {base:Nat} {t0:List AV} {σ0:af} {rs:List eS} (hrl:rs.length=vs.length)
   (hst:∀ k o r,vs[k]? = some o->rs[k]? = some r->Cs P G π base o (0+k) (eZ (fun m=>m<0+k) ((vs.map (·.dst)).zip rs) 0 t0) (gJ (fun m=>m<0+k) ((vs.map (·.dst)).zip rs) 0 σ0) r)
   (hap:ab rs (Aq vs (ops.toList.map A4))) {a0:Act} {E0:Env} {w0:World} {Q:Exit->Act->World->Prop}
   (hQ:∀ a E w,Mid G π own ((vs.map (·.dst)).zip rs) base ops.size t0 σ0 a0 E0 w0 (fun _=>true) E w a->Q .normal a w) :
   ∀ (fuel:Nat) (listed:Array Bool) (a:Act) (E:Env) (w:World),listed.size=ops.size->ops.size<=(List.range ops.size).countP (fun i=>listed.getD i false)+fuel ->
     (∀ k,k<ops.size->listed.getD k false=true->∀ e∈(ops.toList.map A4).getD k [],listed.getD e false=true) ->
     Mid G π own ((vs.map (·.dst)).zip rs) base ops.size t0 σ0 a0 E0 w0 (fun i=>listed.getD i false) E w a->wpAny P .any ops Q fuel listed a w:=by
 have yv:vs.length=ops.size:=by have:=g9 N5;simpa using this
 generalize hL:(vs.map (·.dst)).zip rs=L at *
 have hLl:L.length=ops.size:=by rw [<- hL];simp [hrl,yv]
 have PW:∀ (k:Nat) (d:Option Nat) (r:eS),L[k]? = some (d,r)↔∃ o:bx,vs[k]? = some o/\o.dst=d/\rs[k]? = some r:=by
   intro k d r
   rw [<- hL,List.getElem?_zip_eq_some]
   simp only [List.getElem?_map,Option.map_eq_some_iff]
   constructor
   . rintro ⟨⟨o,h1,h2⟩,h3⟩;exact ⟨o,h1,h2,h3⟩
   . rintro ⟨o,h1,h2,h3⟩;exact ⟨⟨o,h1,h2⟩,h3⟩
 generalize aer:ops.toList.map A4=qJ at *
 have amu:qJ.length=ops.size:=by rw [<- aer];simp
 unfold FZ at Ux
 simp only [Bool.and_eq_true,List.all_eq_true] at Ux
 obtain ⟨⟨_,hlt⟩,abG⟩:=Ux
 have Uy:∀ j,j<ops.size->∀ e∈qJ.getD j [],e<j:=by
   intro j hj e he
   have:=hlt j (List.mem_range.2 (by rw [yv];exact hj)) e he
   simpa using this
 have Ig:∀ (i j:Nat) (a b:bx),i<j->vs[i]? = some a->vs[j]? = some b->EP a b=true->((j0 qJ []).getD j 0).testBit i=true:=by
   intro i j a b R7 ha hb hc
   have hj:j<vs.length:=(List.getElem?_eq_some_iff.1 hb).1
   have:=abG (i,j) (Ct R7 hj)
   simp only [ha,hb,hc,Bool.not_true,Bool.false_or] at this
   exact this
 have s6:∀ (i j:Nat) (a b:bx),i<j->vs[i]? = some a->vs[j]? = some b->a.op.pure=false->b.op.pure=false->(a.op.tK&&b.op.tK)=false->((j0 qJ []).getD j 0).testBit i=false->∀ (x y:eS),rs[i]? = some x->rs[j]? = some y->apart x y:=by
   intro i j a b R7 ha hb hpa hpb hll hm x y hx hy
   have hj:j<vs.length:=(List.getElem?_eq_some_iff.1 hb).1
   refine hap (i,j) ?_ x y hx hy
   unfold Aq
   rw [List.mem_filter]
   exact ⟨Ct R7 hj,by simp only [ha,hb,hpa,hpb,hll,hm];rfl⟩
 -- an operation that touches a block is not pure
 have touch:∀ (k:Nat) (o:bx) (r:eS),vs[k]? = some o->rs[k]? = some r->(r.rd≠[]∨r.up≠[])->o.op.pure=false:=by
   intro k o r ho hr hne
   cases hp:o.op.pure with
   | false=>rfl
   | true =>
     rcases hst k o r ho hr with ⟨_,rfl⟩ | ⟨_,hs⟩
     . simp at hne
     . obtain ⟨h1,h2⟩:=R5 hp hs
       simp [h1,h2] at hne
 have Uz:∀ (k:Nat) (o:bx) (r:eS),vs[k]? = some o->rs[k]? = some r->r.up≠[]->o.op.tK=false:=by
   intro k o r ho hr hne
   cases hp:o.op.tK with
   | false=>rfl
   | true =>
     rcases hst k o r ho hr with ⟨_,rfl⟩ | ⟨_,hs⟩
     . simp at hne
     . exact absurd (R6 hp hs) hne
 intro fuel
 induction fuel with
 | zero =>
   intro listed a E w R9 aes N6 hm
   have Sa:∀ i,i<ops.size->listed.getD i false=true:=by
     intro i hi
     have:=GD (X:=fun i=>listed.getD i false) (List.range ops.size) (by simpa using aes) i (List.mem_range.2 hi)
     exact this
   refine ⟨?_,hQ a E w ?_⟩
   . apply List.eq_nil_iff_forall_not_mem.2
     intro j hj
     obtain ⟨h1,o,h2,_⟩:=mem_ready.1 hj
     have wI:j<ops.size:=(Array.getElem?_eq_some_iff.1 h2).1
     have:=Sa j wI
     rw [Array.getD_eq_getD_getElem?] at h1 this
     cases hh:listed[j]? with
     | none=>simp [hh] at this
     | some b=>simp [hh] at h1 this;simp [h1] at this
   . have e1:eZ (fun i=>listed.getD i false) L 0 t0=eZ (fun _=>true) L 0 t0:=DZ L 0 t0 (fun k hk=>by rw [Nat.zero_add];exact Sa k (by omega))
     have e2:gJ (fun i=>listed.getD i false) L 0 σ0=gJ (fun _=>true) L 0 σ0:=D0 L 0 σ0 (fun k hk=>by rw [Nat.zero_add];exact Sa k (by omega))
     exact ⟨e1▸hm.frame,e2▸hm.inv,hm.Ia,by simp,hm.more,hm.defers⟩
 | succ fuel ih =>
   intro listed a E w R9 aes N6 hm
   have aet:∀ i,i<ops.size->listed.getD i true=listed.getD i false:=by
     intro i hi
     rw [Array.getD_eq_getD_getElem?,Array.getD_eq_getD_getElem?,Array.getElem?_eq_getElem (by omega)]
     rfl
   have aan:∀ (j:Nat) (o:Oper),ops[j]? = some o->qJ.getD j []=A4 o:=by
     intro j o ho
     rw [<- aer]
     have hj:j<ops.size:=(Array.getElem?_eq_some_iff.1 ho).1
     have he:ops[j]=o:=(Array.getElem?_eq_some_iff.1 ho).2
     simp [List.getD,hj,he]
   refine ⟨?_, ?_⟩
   . -- nothing is ready: all is done
     intro Cu
     have Sa : ∀ i,i<ops.size->listed.getD i false=true:=by
       intro i
       induction i using Nat.strongRecOn with
       | _ i ihi =>
         intro hi
         cases hh:listed.getD i false with
         | true=>rfl
         | false =>
           exfalso
           have nk:i∈Region.ready .any ops listed:=by
             refine mem_ready.2 ⟨(aet i hi).trans hh,ops[i],by simp [hi], ?_⟩
             intro e he hb
             have ah3:e.on∈qJ.getD i []:=by
               rw [aan i ops[i] (by simp [hi])]
               unfold A4
               exact List.mem_map.2 ⟨e,List.mem_filter.2 ⟨by simpa using he,hb⟩,rfl⟩
             have:=Uy i hi e.on ah3
             exact ihi e.on this (by omega)
           rw [Cu] at nk
           simp at nk
     have e1:eZ (fun i=>listed.getD i false) L 0 t0=eZ (fun _=>true) L 0 t0:=DZ L 0 t0 (fun k hk=>by rw [Nat.zero_add];exact Sa k (by omega))
     have e2:gJ (fun i=>listed.getD i false) L 0 σ0=gJ (fun _=>true) L 0 σ0:=D0 L 0 σ0 (fun k hk=>by rw [Nat.zero_add];exact Sa k (by omega))
     exact hQ a E w ⟨e1▸hm.frame,e2▸hm.inv,hm.Ia,by simp,hm.more,hm.defers⟩
   . intro j hj
     obtain ⟨h1,o,ho,aeu⟩:=mem_ready.1 hj
     have RI:j<ops.size:=(Array.getElem?_eq_some_iff.1 ho).1
     have hXj:listed.getD j false=false:=(aet j RI).symm.trans h1
     generalize hX:(fun i=>listed.getD i false)=X at *
     have hXd:∀ i,listed.getD i false=X i:=fun i=>by rw [<- hX]
     simp only [hXd] at N6 hXj
     have DO:∀ e∈qJ.getD j [],X e=true:=by
       intro e he
       rw [aan j o ho] at he
       unfold A4 at he
       obtain ⟨ed,hed,rfl⟩:=List.mem_map.1 he
       obtain ⟨h3,h4⟩:=List.mem_filter.1 hed
       rw [<- hXd]
       exact aeu ed (by simpa using h3) h4
     have pre:∀ i,((j0 qJ []).getD j 0).testBit i=true->X i=true:=EU Uy N6 j RI DO
     have post:∀ k,k<ops.size->X k=true->((j0 qJ []).getD k 0).testBit j=false:=by
       intro k hk Fw
       cases hb:((j0 qJ []).getD k 0).testBit j with
       | false=>rfl
       | true=>have:=EU Uy N6 k hk (N6 k hk Fw) j hb;simp [hXj] at this
     -- the operation
     have Bp:∃ vo,vs[j]? = some vo/\A3 P ops o=some vo:=by
       have hjv:j<vs.length:=by omega
       obtain ⟨o',h3,h4⟩:=mapM_some_get N5 j vs[j] (by simp [hjv])
       have:o'=o:=by
         have h5:ops.toList[j]? = some o:=by simpa using ho
         rw [h5] at h3;simpa using h3.symm
       subst this
       exact ⟨vs[j],by simp [hjv],h4⟩
     obtain ⟨vo,GF,Bp⟩:=Bp
     obtain ⟨hop,Uv⟩:=LD Bp
     have hrj:j<rs.length:=by omega
     obtain ⟨r,hr⟩:∃ r,rs[j]? = some r:=⟨rs[j],by simp [hrj]⟩
     have hsc:=hst j vo r GF hr
     rw [Nat.zero_add] at hsc
     -- a slot that it names
     have slot:∀ s∈vo.names,(eZ X L 0 t0)[s]? = (eZ (fun m=>m<j) L 0 t0)[s]? := by
       intro s hs
       refine sZ L 0 t0 t0 rfl ?_
       intro k d r' hk hne hds
       rw [Nat.zero_add] at hne
       obtain ⟨ok,h3,h4,h5⟩:=(PW k d r').1 hk
       subst hds
       have Yb:k<ops.size:=by have:=(List.getElem?_eq_some_iff.1 h3).1;omega
       rcases Nat.lt_trichotomy k j with y9 | rfl | hgt
       . have Fw:X k=false:=by
           cases hh:X k with
           | false=>rfl
           | true=>simp [hh,y9] at hne
         have hc:EP ok vo=true:=by unfold EP;simp [h4,hs]
         have:=pre k (Ig k j ok vo y9 h3 GF hc)
         simp [Fw] at this
       . simp [hXj] at hne
       . have Fw:X k=true:=by
           cases hh:X k with
           | true=>rfl
           | false=>simp [hh,Nat.not_lt.2 (Nat.le_of_lt hgt)] at hne
         have hc:EP vo ok=true:=by unfold EP;simp [h4,hs]
         have:=Ig j k vo ok hgt GF h3 hc
         rw [post k Yb Fw] at this
         simp at this
     have Yj:vo.op.map (a7.ev G (eZ X L 0 t0))=vo.op.map (a7.ev G (eZ (fun m=>m<j) L 0 t0)):=by
       refine gB.map_congr _ fun x hx=>Uw x fun s hs=>slot s ?_
       unfold bx.names
       exact List.mem_append_left _ (List.mem_filterMap.2 ⟨x,hx,hs⟩)
     have aao:eY (eZ X L 0 t0) vo.guard=eY (eZ (fun m=>m<j) L 0 t0) vo.guard:=by
       cases hg:vo.guard with
       | none=>rfl
       | some q =>
         obtain ⟨s,want⟩:=q
         have:=slot s (by unfold bx.names;simp [hg])
         simp only [eY,this]
     have hrd:∀ id∈r.rd,gJ X L 0 σ0 id=gJ (fun m=>m<j) L 0 σ0 id:=by
       intro id jZ
       refine s4 L 0 σ0 σ0 rfl ?_
       intro k d r' hk hne nk
       rw [Nat.zero_add] at hne
       obtain ⟨ok,h3,h4,h5⟩:=(PW k d r').1 hk
       have Yb:k<ops.size:=by have:=(List.getElem?_eq_some_iff.1 h3).1;omega
       have hpk:ok.op.pure=false:=touch k ok r' h3 h5 (.inr (by intro e;simp [e] at nk))
       have hpj:vo.op.pure=false:=touch j vo r GF hr (.inl (by intro e;simp [e] at jZ))
       have Yk:ok.op.tK=false:=Uz k ok r' h3 h5 (by intro e;simp [e] at nk)
       obtain ⟨x,hx,rfl⟩:=List.mem_map.1 nk
       rcases Nat.lt_trichotomy k j with y9 | rfl | hgt
       . have Fw:X k=false:=by
           cases hh:X k with
           | false=>rfl
           | true=>simp [hh,y9] at hne
         have hb:((j0 qJ []).getD j 0).testBit k=false:=by
           cases hb:((j0 qJ []).getD j 0).testBit k with
           | false=>rfl
           | true=>have:=pre k hb;simp [Fw] at this
         exact ((s6 k j ok vo y9 h3 GF hpk hpj (by simp [Yk]) hb r' r h5 hr).1 x hx).1 jZ
       . simp [hXj] at hne
       . have Fw:X k=true:=by
           cases hh:X k with
           | true=>rfl
           | false=>simp [hh,Nat.not_lt.2 (Nat.le_of_lt hgt)] at hne
         exact (s6 j k vo ok hgt GF h3 hpj hpk (by simp [Yk]) (post k Yb Fw) r r' hr h5).2 x hx jZ
     -- behind it
     generalize hX':(fun i=>if i=j then true else X i)=X' at *
     have XI:∀ i,X' i=if i=j then true else X i:=fun i=>by rw [<- hX']
     have later:∀ (k:Nat) (d:Option Nat) (r':eS),L[k]? = some (d,r')->j<k->X' k=true->∃ ok:bx,vs[k]? = some ok/\ok.dst=d/\rs[k]? = some r'/\k<ops.size/\X k=true:=by
       intro k d r' hk y9 Fw
       obtain ⟨ok,h3,h4,h5⟩:=(PW k d r').1 hk
       refine ⟨ok,h3,h4,h5,by have:=(List.getElem?_eq_some_iff.1 h3).1;omega, ?_⟩
       rw [XI] at Fw
       simpa [show k≠j from by omega] using Fw
     have hLj:L[j]? = some (vo.dst,r):=(PW j _ _).2 ⟨vo,GF,rfl,hr⟩
     have tEq:gl (eZ X L 0 t0) vo.dst r.val=eZ X' L 0 t0:=by
       apply List.ext_getElem?
       intro s
       rw [uV]
       by_cases hd:vo.dst=some s
       . rw [if_pos hd]
         rw [Gx L 0 j t0 (by rw [hLj,hd]) (by rw [Nat.zero_add,XI];simp) ?_,Jb]
         intro k d r' hk y9 Fw hds
         rw [Nat.zero_add] at Fw
         obtain ⟨ok,h3,h4,h5,Yb,abH⟩:=later k d r' hk y9 Fw
         have hc:EP vo ok=true:=by unfold EP;simp [hd,h4,hds]
         have:=Ig j k vo ok y9 GF h3 hc
         rw [post k Yb abH] at this
         simp at this
       . rw [if_neg hd]
         refine sZ L 0 t0 t0 rfl ?_
         intro k d r' hk hne
         rw [Nat.zero_add,XI] at hne
         have hkj:k=j:=by
           apply Classical.byContradiction;intro h;simp [h] at hne
         subst hkj
         rw [hLj] at hk
         simp only [Option.some.injEq,Prod.mk.injEq] at hk
         rw [<- hk.1];exact hd
     have sEq:(gJ X L 0 σ0).app r.up=gJ X' L 0 σ0:=by
       funext id
       by_cases nk:id∈r.up.map (·.1)
       . symm
         refine Gy L 0 j σ0 hLj (by rw [Nat.zero_add,XI];simp) nk ?_
         intro k d r' hk y9 Fw aex
         rw [Nat.zero_add] at Fw
         obtain ⟨ok,h3,h4,h5,Yb,abH⟩:=later k d r' hk y9 Fw
         have hpk:ok.op.pure=false:=touch k ok r' h3 h5 (.inr (by intro e;simp [e] at aex))
         have hpj:vo.op.pure=false:=touch j vo r GF hr (.inr (by intro e;simp [e] at nk))
         have hlj:vo.op.tK=false:=Uz j vo r GF hr (by intro e;simp [e] at nk)
         obtain ⟨x,hx,rfl⟩:=List.mem_map.1 nk
         exact ((s6 j k vo ok y9 GF h3 hpj hpk (by simp [hlj]) (post k Yb abH) r r' hr h5).1 x hx).2 aex
       . rw [af.Aw nk]
         refine s4 L 0 σ0 σ0 rfl ?_
         intro k d r' hk hne
         rw [Nat.zero_add,XI] at hne
         have hkj:k=j:=by
           apply Classical.byContradiction;intro h;simp [h] at hne
         subst hkj
         rw [hLj] at hk
         simp only [Option.some.injEq,Prod.mk.injEq] at hk
         rw [<- hk.2];exact nk
     -- going on
     have hXl:∀ i,(listed.setIfInBounds j true).getD i false=X' i:=by
       intro i
       rw [XI]
       by_cases e:i=j
       . subst e
         rw [Array.getD_eq_getD_getElem?]
         simp [R9,RI]
       . rw [if_neg e,getD_set_ne false (fun h=>e h.symm),hXd]
     have go : ∀ (a':Act) (E':Env) (w':World),cm E' w' (eZ X' L 0 t0) a'->Inv G own E' w' (gJ X' L 0 σ0)->nb own π E E' w w'->(∀ i:Id, ¬ ((base+j) :: π) <:+ i->E'.μ i=E.μ i)->a'.defers=a.defers ->
         wpAny P .any ops Q fuel (listed.setIfInBounds j true) a' w':=by
       intro a' E' w' XT qk had Yi hde
       have N3:(fun i=>(listed.setIfInBounds j true).getD i false)=X':=funext hXl
       refine ih _ a' E' w' (by simpa using R9) ?_ ?_ ?_
       . rw [N3]
         have:=Jg (X:=X) (Y:=X') (i:=j) hXj (by rw [XI];simp) (fun k hk=>by rw [XI];split<;>simp [hk]) (List.range ops.size) (List.mem_range.2 RI)
         omega
       . intro k hk Fw e he
         rw [hXl] at Fw ⊢
         rw [XI] at Fw ⊢
         split
         . rfl
         . by_cases hkj:k=j
           . subst hkj;exact DO e he
           . rw [if_neg hkj] at Fw
             exact N6 k hk Fw e he
       . rw [N3]
         refine ⟨XT,qk,hm.Ia.trans had, ?_, ?_,hde.trans hm.defers⟩
         . intro i hi hxi j'
           rw [XI] at hxi
           have R7:i≠j:=by rintro rfl;simp at hxi
           rw [if_neg R7] at hxi
           intro hj'
           rw [Yi _ (LG hj' (by omega))]
           exact hm.free i hi hxi j' hj'
         . intro j' hj' hq
           rw [Yi _ (hq (base+j) (by omega))]
           exact hm.more j' hj' hq
     unfold wpOp
     rw [ho]
     simp only []
     rcases hsc with ⟨Oo,rfl⟩ | ⟨XJ,hsr⟩
     . rw [wK Bp hm.frame (aao.trans Oo)]
       simp only [Bool.false_eq_true,if_false]
       refine go _ E w ?_ ?_ (nb.refl own π E w) (fun _ _=>rfl) (s5 _ _ _)
       . rw [<- tEq, <- Uv];exact Jd hm.frame _
       . rw [<- sEq];exact hm.inv
     . rw [wK Bp hm.frame (aao.trans XJ)]
       simp only [if_true]
       left
       rw [<- Yj] at hsr
       refine Gw hm.inv (hm.free j RI hXj) hm.frame hop (Iq hsr hrd) ?_
       intro v w' E' hp
       refine go _ E' w' ?_ ?_ hp.aep hp.ids (s5 _ _ _)
       . rw [<- tEq, <- Uv];exact hp.frame hm.frame _
       . rw [<- sEq];exact hp.inv
end
end Go.VL
end

section
namespace Go.VL
inductive bX where
 | normal
 | exit (id:Nat)
 | ret
def bX.real:bX->Exit
 | .normal => .normal
 | .exit id => .exit id
 | .ret => .ret
structure VS where
 t:List AV
 σ : af
 n:Nat
structure mR (G:Nat->Option (List AV)) (π : Id) (own:Nat->Prop) (E:Env) (w:World) (s:VS) (a:Act):Prop where
 frame:cm E w s.t a
 inv:Inv G own E w s.σ
 free:AL E π s.n
 defers:a.defers=[]
def Wk (G:Nat->Option (List AV)) (π : Id) (s s':VS):Prop:=∀ own E w a,mR G π own E w s a->∃ E',nb own π E E' w w/\mR G π own E' w s' a
def VW (P:Program) (G:Nat->Option (List AV)) (π : Id) (vc:cy) (Q:bX->VS->Prop) (s:VS):Prop :=
 ∀ c,gI P c=some vc->∀ own E w a (R:Exit->Act->World->Prop),mR G π own E w s a ->
   (∀ e s' E' w' a',Q e s'->nb own π E E' w w'->mR G π own E' w' s' a'->R e.real a' w')->c.wp P R a w
section
variable {P:Program} {G:Nat->Option (List AV)} {π : Id} {Q:bX->VS->Prop} {s:VS}
theorem Wk.refl (G:Nat->Option (List AV)) (π : Id) (s:VS):Wk G π s s:=fun own E w _ h=>⟨E,nb.refl own π E w,h⟩
theorem Wk.trans {s s' s'':VS} (h:Wk G π s s') (k:Wk G π s' s''):Wk G π s s'':=fun own E w a hm=>by
 obtain ⟨E1,a1,m1⟩:=h own E w a hm
 obtain ⟨E2,a2,m2⟩:=k own E1 w a m1
 exact ⟨E2,a1.trans a2,m2⟩
theorem VW.wk {vc:cy} {s':VS} (h:Wk G π s s') (k:VW P G π vc Q s'):VW P G π vc Q s:=by
 intro c hc own E w a R hm hR
 obtain ⟨E1,a1,m1⟩:=h own E w a hm
 exact k c hc own E1 w a R m1 fun e s2 E2 w2 a2 hq ad mm=>hR e s2 E2 w2 a2 hq (a1.trans ad) mm
theorem VW.mono {vc:cy} {Q':bX->VS->Prop} (h:VW P G π vc Q s) (hq:∀ e s,Q e s->Q' e s):VW P G π vc Q' s :=
 fun c hc own E w a R hm hR=>h c hc own E w a R hm fun e s2 E2 w2 a2 Sb=>hR e s2 E2 w2 a2 (hq e s2 Sb)
theorem VW.skip (h:Q .normal s):VW P G π .skip Q s:=by
 intro c hc own E w a R hm hR
 cases c<;>simp only [gI,Option.some.injEq,reduceCtorEq] at hc
 . exact wp_skip (hR .normal s E w a h (nb.refl own π E w) hm)
 . exfalso;revert hc;unfold mQ;(repeat' split)<;>simp
 all_goals (exfalso;revert hc;(repeat' split)<;>simp)
theorem Cv {c:Code} {ps:Option (List (Nat × Nat))} {vs:List bx} (hc:gI P c=some (.reg ps vs)):∃ id ops draw,c = .region id ops draw/\ops.toList.mapM (A3 P ops)=some vs /\
   ((draw=false/\ps=none)∨(draw=true/\ps=some (Aq vs (ops.toList.map A4))/\FZ vs (ops.toList.map A4)=true/\P.follows .mixedOrders=true)):=by
 cases c with
 | region id ops draw =>
   simp only [gI,mQ] at hc
   cases hm:ops.toList.mapM (A3 P ops) with
   | none=>simp [hm] at hc
   | some vs' =>
     simp only [hm] at hc
     split at hc
     . rename_i hd
       split at hc
       . rename_i ho
         simp only [Option.some.injEq,cy.reg.injEq] at hc
         obtain ⟨rfl,rfl⟩:=hc
         simp only [Bool.and_eq_true] at ho
         exact ⟨id,ops,draw,rfl,hm, .inr ⟨hd,rfl,ho.1,ho.2⟩⟩
       . simp at hc
     . rename_i hd
       simp only [Option.some.injEq,cy.reg.injEq] at hc
       obtain ⟨rfl,rfl⟩:=hc
       exact ⟨id,ops,draw,rfl,hm, .inl ⟨by simpa using hd,rfl⟩⟩
 | _=>exfalso;revert hc;simp only [gI];(repeat' split)<;>simp
theorem VW.UA {vs:List bx} (h:Cq P G π s.n (fun t σ => Q .normal ⟨t, σ,s.n+vs.length⟩) vs 0 s.t s.σ):VW P G π (.reg none vs) Q s:=by
 intro c hc own E w a R hm hR
 obtain ⟨id,ops,draw,rfl,N5,XF⟩:=Cv hc
 have hd:draw=false:=by
   rcases XF with ⟨h,_⟩ | ⟨_,h,_⟩
   . exact h
   . simp at h
 subst hd
 have hl:ops.toList.length=vs.length:=(g9 N5).symm
 refine wp_region ?_
 have:=GC (P:=P) (G:=G) (own:=own) (ops:=ops) (Q:=R) ops.toList 0 (fun k=>by simp) vs N5 s.t s.σ a E w h hm.frame hm.inv hm.free (by
   intro t' σ' a' E' w' hk had hf hi IY hde
   refine hR .normal ⟨t', σ',s.n+vs.length⟩ E' w' a' hk had ⟨hf,hi,by have h:=IY;simp only [Nat.add_zero,hl] at h;exact h,hde.trans hm.defers⟩)
 rw [List.range_eq_range']
 simpa using this
theorem VW.UB {ps:List (Nat × Nat)} {vs:List bx} (h:Cr P G π s.n (fun rs t σ => ab rs ps/\Q .normal ⟨t, σ,s.n+vs.length⟩) vs 0 [] s.t s.σ):VW P G π (.reg (some ps) vs) Q s:=by
 intro c hc own E w a R hm hR
 obtain ⟨id,ops,draw,rfl,N5,XF⟩:=Cv hc
 rcases XF with ⟨_,h2⟩ | ⟨hd,NZ,Ux,hmx⟩
 . simp at h2
 . subst hd
   simp only [Option.some.injEq] at NZ
   have hl:vs.length=ops.size:=by have:=g9 N5;simpa using this
   obtain ⟨rs,hrl,hst,hap,hq⟩:=Jc h
   refine wp_region_any hmx ?_
   have ah6:Mid G π own ((vs.map (·.dst)).zip rs) s.n ops.size s.t s.σ a E w (fun i=>(Array.replicate ops.size false).getD i false) E w.drew a:=by
     have hX:∀ i,(Array.replicate ops.size false).getD i false=false:=by intro i;rw [Array.getD_eq_getD_getElem?];simp [Array.getElem?_replicate];split<;>rfl
     have e1:eZ (fun i=>(Array.replicate ops.size false).getD i false) ((vs.map (·.dst)).zip rs) 0 s.t=s.t:=tL _ _ _ fun k _=>hX _
     have e2:gJ (fun i=>(Array.replicate ops.size false).getD i false) ((vs.map (·.dst)).zip rs) 0 s.σ = s.σ := tM _ _ _ fun k _=>hX _
     exact ⟨by rw [e1];exact hm.frame.keep (Adv.drew (own:=own) E w).step,by rw [e2];exact hm.inv.drew,⟨Adv.drew E w,fun _ _=>rfl⟩,fun i _ _ j hj=>hm.free.at (by omega) hj,hm.free.mono (by omega),rfl⟩
   refine R8 N5 Ux hrl hst (by rw [<- NZ];simpa using hap) (Q:=R) (a0:=a) (E0:=E) (w0:=w) ?_ ops.size (Array.replicate ops.size false) a E w.drew (by simp) (by simp) ?_ ah6
   . intro a' E' w' hmd
     refine hR .normal _ E' w' a' hq hmd.Ia ⟨hmd.frame,hmd.inv,by rw [hl];exact hmd.more,hmd.defers.trans hm.defers⟩
   . intro k hk hx
     rw [Array.getD_eq_getD_getElem?] at hx
     simp [hk] at hx
theorem VW.seq {x y:cy} (h:VW P G π x (fun e s'=>match e with | .normal=>VW P G π y Q s' | e=>Q e s') s):VW P G π (.seq x y) Q s:=by
 intro c hc own E w a R hm hR
 cases c<;>simp only [gI,Option.some.injEq,reduceCtorEq] at hc
 case seq ca cb =>
   cases h1:gI P ca with
   | none=>simp [h1] at hc
   | some va =>
   cases h2:gI P cb with
   | none=>simp [h1,h2] at hc
   | some vb =>
     simp only [h1,h2,Option.some.injEq,cy.seq.injEq] at hc
     obtain ⟨rfl,rfl⟩:=hc
     refine wp_seq (h ca h1 own E w a _ hm ?_)
     intro e s' E' w' a' hq had sC
     cases e with
     | normal=>exact hq cb h2 own E' w' a' R sC fun e2 s2 E2 w2 a2 Sb Sc mm2=>hR e2 s2 E2 w2 a2 Sb (had.trans Sc) mm2
     | exit id=>exact hR (.exit id) s' E' w' a' hq had sC
     | ret=>exact hR .ret s' E' w' a' hq had sC
 case region=>exfalso;revert hc;unfold mQ;(repeat' split)<;>simp
 all_goals (exfalso;revert hc;(repeat' split)<;>simp)
theorem VW.cond {vc:a7} {x y:cy} {b:Bool} (hb:vc.ev G s.t = .bool b) (h:if b then VW P G π x Q s else VW P G π y Q s):VW P G π (.cond vc x y) Q s:=by
 intro c hc own E w a R hm hR
 cases c<;>simp only [gI,Option.some.injEq,reduceCtorEq] at hc
 case cond cc ca cb =>
   cases h0:cJ cc with
   | none=>simp [h0] at hc
   | some vcc =>
   cases h1:gI P ca with
   | none=>simp [h0,h1] at hc
   | some va =>
   cases h2:gI P cb with
   | none=>simp [h0,h1,h2] at hc
   | some vb =>
     simp only [h0,h1,h2,Option.some.injEq,cy.cond.injEq] at hc
     obtain ⟨rfl,rfl,rfl⟩:=hc
     have hr:=bd hm.frame hm.inv h0
     rw [hb] at hr
     simp only [aT] at hr
     refine wp_cond hr ?_
     cases b with
     | true=>simp only [if_true] at h ⊢;exact h ca h1 own E w a R hm hR
     | false=>simp only [Bool.false_eq_true,if_false] at h ⊢;exact h cb h2 own E w a R hm hR
 case region=>exfalso;revert hc;unfold mQ;(repeat' split)<;>simp
 all_goals (exfalso;revert hc;(repeat' split)<;>simp)
theorem VW.Yl {vc:a7} {x y:cy} (hb:vc.ev G s.t = .anyb) (h1:VW P G π x Q s) (h2:VW P G π y Q s):VW P G π (.cond vc x y) Q s:=by
 intro c hc own E w a R hm hR
 cases c<;>simp only [gI,Option.some.injEq,reduceCtorEq] at hc
 case cond cc ca cb =>
   cases h0:cJ cc with
   | none=>simp [h0] at hc
   | some vcc =>
   cases h3:gI P ca with
   | none=>simp [h0,h3] at hc
   | some va =>
   cases h4:gI P cb with
   | none=>simp [h0,h3,h4] at hc
   | some vb =>
     simp only [h0,h3,h4,Option.some.injEq,cy.cond.injEq] at hc
     obtain ⟨rfl,rfl,rfl⟩:=hc
     have hr:=bd hm.frame hm.inv h0
     rw [hb] at hr
     simp only [aT] at hr
     obtain ⟨b,hr⟩:=hr
     refine wp_cond hr ?_
     cases b with
     | true=>exact h1 ca h3 own E w a R hm hR
     | false=>exact h2 cb h4 own E w a R hm hR
 case region=>exfalso;revert hc;unfold mQ;(repeat' split)<;>simp
 all_goals (exfalso;revert hc;(repeat' split)<;>simp)
theorem VW.block {id:Nat} {x:cy} (h:VW P G π x (fun e s'=>match e with | .exit i=>if i=id then Q .normal s' else Q (.exit i) s' | e=>Q e s') s):VW P G π (.block id x) Q s:=by
 intro c hc own E w a R hm hR
 cases c<;>simp only [gI,Option.some.injEq,reduceCtorEq] at hc
 case block i cb =>
   cases h1:gI P cb with
   | none=>simp [h1] at hc
   | some vb =>
     simp only [h1,Option.map_some,Option.some.injEq,cy.block.injEq] at hc
     obtain ⟨rfl,rfl⟩:=hc
     refine wp_block (h cb h1 own E w a _ hm ?_)
     intro e s' E' w' a' hq had sC
     cases e with
     | normal=>exact hR .normal s' E' w' a' hq had sC
     | exit j =>
       simp only [bX.real,Exit.inBlock]
       split
       . rename_i hj;simp only [hj,if_true] at hq;exact hR .normal s' E' w' a' hq had sC
       . rename_i hj;simp only [hj,if_false] at hq;exact hR (.exit j) s' E' w' a' hq had sC
     | ret=>exact hR .ret s' E' w' a' hq had sC
 case region=>exfalso;revert hc;unfold mQ;(repeat' split)<;>simp
 all_goals (exfalso;revert hc;(repeat' split)<;>simp)
theorem VW.exit {id:Nat} (h:Q (.exit id) s):VW P G π (.exit id) Q s:=by
 intro c hc own E w a R hm hR
 cases c<;>simp only [gI,Option.some.injEq,reduceCtorEq] at hc
 case exit i =>
   simp only [cy.exit.injEq] at hc;subst hc
   exact wp_exit (hR (.exit i) s E w a h (nb.refl own π E w) hm)
 case region=>exfalso;revert hc;unfold mQ;(repeat' split)<;>simp
 all_goals (exfalso;revert hc;(repeat' split)<;>simp)
theorem VW.ret (h:Q .ret s):VW P G π .ret Q s:=by
 intro c hc own E w a R hm hR
 cases c<;>simp only [gI,Option.some.injEq,reduceCtorEq] at hc
 case ret=>exact wp_ret (hR .ret s E w a h (nb.refl own π E w) hm)
 case region=>exfalso;revert hc;unfold mQ;(repeat' split)<;>simp
 all_goals (exfalso;revert hc;(repeat' split)<;>simp)
theorem zd {α : Type} {c:Code} {R:Exit->Act->World->Prop} (I : α -> Act->World->Prop) (μ : α -> Nat) {x : α} {a:Act} {w:World} (h₀:I x a w)
   (round:∀ x a w,I x a w->c.wp P (Exit.then (fun a' w'=>∃ x',I x' a' w' /\ μ x' < μ x) R) a w):(Code.loop c).wp P R a w:=by
 intro b k cs
 have key:∀ n x a w, μ x=n->I x a w ->
     ∃ e a' w',R e a' w'/\Arrives P (lone (b.at a (.code c :: .inLoop c::k)) cs w) b k cs e a' w':=by
   intro n
   induction n using Nat.strongRecOn with
   | _ n ih =>
     intro x a w hn hI
     obtain ⟨e,a₁,w₁,hq,LJ⟩:=round x a w hI b (.inLoop c::k) cs
     cases e with
     | normal =>
       obtain ⟨x₁,hI₁,hlt⟩:=hq
       obtain ⟨e₂,a₂,w₂,hq₂,Ym⟩:=ih (μ x₁) (hn▸hlt) x₁ a₁ w₁ rfl hI₁
       exact ⟨e₂,a₂,w₂,hq₂, .of_steps (Steps.trans LJ (.one step_inLoop)) Ym⟩
     | exit id=>exact ⟨_,a₁,w₁,hq, .pass (x := .inLoop c) rfl (fun _ _ => .inl (by simp)) LJ⟩
     | goto l=>exact ⟨_,a₁,w₁,hq, .pass (x := .inLoop c) rfl (fun _ _ => .inl (by simp)) LJ⟩
     | ret=>exact ⟨_,a₁,w₁,hq, .pass (x := .inLoop c) rfl (fun _ _ => .inl (by simp)) LJ⟩
     | panic ch=>exact ⟨_,a₁,w₁,hq, .pass (x := .inLoop c) rfl (fun _ _ => .inl (by simp)) LJ⟩
     | outgrown=>exact ⟨_,a₁,w₁,hq, .pass (x := .inLoop c) rfl (fun _ _ => .inl (by simp)) LJ⟩
 obtain ⟨e,a',w',hq,LJ⟩:=key _ x a w rfl h₀
 exact ⟨e,a',w',hq, .of_steps (.one step_loop) LJ⟩
theorem VW.loop {x:cy} (I:VS->Prop) (m:VS->Nat) (h0:∃ s',Wk G π s s'/\I s')
   (h:∀ s,I s->VW P G π x (fun e s'=>match e with | .normal=>∃ s'',Wk G π s' s''/\I s''/\m s''<m s | e=>Q e s') s):VW P G π (.loop x) Q s:=by
 obtain ⟨s1,XJ,hI1⟩:=h0
 refine VW.wk XJ ?_
 intro c hc own E w a R hm hR
 cases c<;>simp only [gI,Option.some.injEq,reduceCtorEq] at hc
 case loop cb =>
   cases h1:gI P cb with
   | none=>simp [h1] at hc
   | some vb =>
     simp only [h1,Option.map_some,Option.some.injEq,cy.loop.injEq] at hc
     subst hc
     refine zd (α := VS) (fun s' a' w'=>I s'/\∃ E',nb own π E E' w w'/\mR G π own E' w' s' a') m (x:=s1) ⟨hI1,E,nb.refl own π E w,hm⟩ ?_
     rintro s2 a2 w2 ⟨hI2,E2,Sc,Cn⟩
     refine h s2 hI2 cb h1 own E2 w2 a2 _ Cn ?_
     intro e s' E' w' a' hq had sC
     cases e with
     | normal =>
       obtain ⟨s3,hw3,hI3,hlt⟩:=hq
       obtain ⟨E3,ad3,hm3⟩:=hw3 own E' w' a' sC
       exact ⟨s3,⟨hI3,E3,(Sc.trans had).trans ad3,hm3⟩,hlt⟩
     | exit id=>exact hR (.exit id) s' E' w' a' hq (Sc.trans had) sC
     | ret=>exact hR .ret s' E' w' a' hq (Sc.trans had) sC
 case region=>exfalso;revert hc;unfold mQ;(repeat' split)<;>simp
 all_goals (exfalso;revert hc;(repeat' split)<;>simp)
def Then (k:VS->Prop) (Q:bX->VS->Prop):bX->VS->Prop
 | .normal,s=>k s
 | .exit i,s=>Q (.exit i) s
 | .ret,s=>Q .ret s
def Sd (id:Nat) (Q:bX->VS->Prop):bX->VS->Prop
 | .normal,s=>Q .normal s
 | .exit i,s=>if i=id then Q .normal s else Q (.exit i) s
 | .ret,s=>Q .ret s
theorem ze (k:VS->Prop) (Q:bX->VS->Prop) (s:VS):Then k Q .normal s=k s:=(rfl)
theorem Jh (k:VS->Prop) (Q:bX->VS->Prop) (i:Nat) (s:VS):Then k Q (.exit i) s=Q (.exit i) s:=(rfl)
theorem LK (k:VS->Prop) (Q:bX->VS->Prop) (s:VS):Then k Q .ret s=Q .ret s:=(rfl)
theorem EX (id:Nat) (Q:bX->VS->Prop) (s:VS):Sd id Q .normal s=Q .normal s:=(rfl)
theorem D1 (id:Nat) (Q:bX->VS->Prop) (i:Nat) (s:VS):Sd id Q (.exit i) s=if i=id then Q .normal s else Q (.exit i) s:=(rfl)
theorem LL (id:Nat) (Q:bX->VS->Prop) (s:VS):Sd id Q .ret s=Q .ret s:=(rfl)
def yx (P:Program) (G:Nat->Option (List AV)) (π : Id):cy->(bX->VS->Prop)->VS->Prop
 | .skip,Q,s=>Q .normal s
 | .reg none vs,Q,s=>Cq P G π s.n (fun t σ => Q .normal ⟨t, σ,s.n+vs.length⟩) vs 0 s.t s.σ
 | .reg (some ps) vs,Q,s=>Cr P G π s.n (fun rs t σ => ab rs ps/\Q .normal ⟨t, σ,s.n+vs.length⟩) vs 0 [] s.t s.σ
 | .seq x y,Q,s=>yx P G π x (Then (yx P G π y Q) Q) s
 | .cond c x y,Q,s=>match c.ev G s.t with
   | .bool b=>if b then yx P G π x Q s else yx P G π y Q s
   | .anyb=>yx P G π x Q s/\yx P G π y Q s
   | _=>False
 | .block id x,Q,s=>yx P G π x (Sd id Q) s
 | .loop x,Q,s=>VW P G π (.loop x) Q s
 | .exit id,Q,s=>Q (.exit id) s
 | .ret,Q,s=>Q .ret s
theorem VW.of:∀ {vc:cy} {Q:bX->VS->Prop} {s:VS},yx P G π vc Q s->VW P G π vc Q s
 | .skip,_,_,h=>VW.skip h
 | .reg none _,_,_,h=>VW.UA h
 | .reg (some _) _,_,_,h=>VW.UB h
 | .seq x y,Q,s,h=>by
   refine VW.seq (VW.mono (VW.of (vc:=x) h) ?_)
   intro e s' hq
   cases e with
   | normal=>exact VW.of (vc:=y) hq
   | exit id=>exact hq
   | ret=>exact hq
 | .cond c x y,Q,s,h=>by
   simp only [yx] at h
   split at h
   . rename_i b hb
     refine VW.cond hb ?_
     cases b with
     | true=>exact VW.of (vc:=x) h
     | false=>exact VW.of (vc:=y) h
   . rename_i hb
     exact VW.Yl hb (VW.of (vc:=x) h.1) (VW.of (vc:=y) h.2)
   . exact h.elim
 | .block id x,Q,s,h=>by
   refine VW.block (VW.mono (VW.of (vc:=x) h) ?_)
   intro e s' hq
   cases e with
   | normal=>exact hq
   | exit i=>exact hq
   | ret=>exact hq
 | .loop x,Q,s,h=>h
 | .exit id,_,_,h=>VW.exit h
 | .ret,_,_,h=>VW.ret h
end
end Go.VL
end

section
namespace Go.VL
section
variable {P:Program} {G:Nat->Option (List AV)} {own:Nat->Prop} {E:Env} {w:World} {σ : af}
def aa (c:AV):Prop:=∀ E w v,aT E w c v->aT E.bare w c v
theorem aa.bool (b:Bool):aa (.bool b):=fun _ _ _ h=>by simpa [aT] using h
theorem aa.int (k:IntKind) (n:Int):aa (.int k n):=fun _ _ _ h=>by simpa [aT] using h
theorem aa.str (l:List UInt8):aa (.str l):=fun _ _ _ h=>by simpa [aT] using h
theorem aa.nilp:aa .nilp:=fun _ _ _ h=>by simpa [aT] using h
theorem aa.nilf:aa .nilf:=fun _ _ _ h=>by simpa [aT] using h
theorem aa.nils:aa .nils:=fun _ _ _ h=>by simpa [aT] using h
theorem aa.uW {cs:List AV} (h:∀ c∈cs,aa c):∀ {vs:List Value},bc E w cs vs->bc E.bare w cs vs:=by
 induction cs with
 | nil=>intro vs hr;simpa [bc] using hr
 | cons c cs ih =>
   intro vs hr
   simp only [bc] at hr ⊢
   obtain ⟨v,rest,e,h1,h2⟩:=hr
   exact ⟨v,rest,e,h c (by simp) _ _ _ h1,ih (fun x hx=>h x (by simp [hx])) h2⟩
theorem aa.EY {cs:List AV} (h:∀ c∈cs,aa c) {b o:Nat} (hr:eT E w b o cs):eT E.bare w b o cs :=
 fun j c hj=>let ⟨v,hv,Gn⟩:=hr j c hj;⟨v,hv,h c (List.mem_of_getElem? hj) _ _ _ Gn⟩
theorem aa.agg {cs:List AV} (h:∀ c∈cs,aa c):aa (.agg cs):=fun E w v hr=>by
 simp only [aT] at hr ⊢;obtain ⟨xs,e,hr⟩:=hr;exact ⟨xs,e,aa.uW h hr⟩
theorem aa.tup {cs:List AV} (h:∀ c∈cs,aa c):aa (.tup cs):=fun E w v hr=>by
 simp only [aT] at hr ⊢;obtain ⟨xs,e,hr⟩:=hr;exact ⟨xs,e,aa.uW h hr⟩
theorem aa.fn {f:Fn} {a c:List AV} (ha:∀ x∈a,aa x) (hc:∀ x∈c,aa x):aa (.fn f a c):=fun E w v hr=>by
 simp only [aT] at hr ⊢;obtain ⟨xs,ys,e,h1,h2⟩:=hr;exact ⟨xs,ys,e,aa.uW ha h1,aa.uW hc h2⟩
theorem aa.sl {k:Nat} {es:List AV} (h:∀ c∈flat es,aa c):aa (.sl k es):=fun E w v hr=>by
 simp only [aT] at hr ⊢
 obtain ⟨a,cap,e,h1,h2,h3,h4⟩:=hr
 exact ⟨a,cap,e,h1,h2,h3,h4.imp id fun ⟨b,o,ea,hb,hr⟩=>⟨b,o,ea,hb,dN.2 (aa.EY h (dN.1 hr))⟩⟩
theorem aa.tsl {k:Nat} {es:List AV} (h:∀ c∈flat es,aa c):aa (.tsl k es):=fun E w v hr=>by
 simp only [aT] at hr ⊢
 obtain ⟨a,e,h2,h3,h4⟩:=hr
 exact ⟨a,e,h2,h3,h4.imp id fun ⟨b,o,ea,hb,hr⟩=>⟨b,o,ea,hb,dN.2 (aa.EY h (dN.1 hr))⟩⟩
theorem aa.ep {cs:List AV} {o:Nat} (h:∀ c∈cs,aa c):aa (.ep cs o):=fun E w v hr=>by
 simp only [aT] at hr ⊢
 obtain ⟨b,q,e,hb,hr⟩:=hr
 exact ⟨b,q,e,hb,eW.2 (aa.EY h (eW.1 hr))⟩
def jC (c:AV):Prop:=∀ E w E' w' v,aT E w c v->aT E' w' c v
theorem jC.bool (b:Bool):jC (.bool b):=fun _ _ _ _ _ h=>by simpa [aT] using h
theorem jC.int (k:IntKind) (n:Int):jC (.int k n):=fun _ _ _ _ _ h=>by simpa [aT] using h
theorem jC.str (l:List UInt8):jC (.str l):=fun _ _ _ _ _ h=>by simpa [aT] using h
theorem jC.uW {cs:List AV} (h:∀ c∈cs,jC c) {E E':Env} {w w':World}:∀ {vs:List Value},bc E w cs vs->bc E' w' cs vs:=by
 induction cs with
 | nil=>intro vs hr;simpa [bc] using hr
 | cons c cs ih =>
   intro vs hr
   simp only [bc] at hr ⊢
   obtain ⟨v,rest,e,h1,h2⟩:=hr
   exact ⟨v,rest,e,h c (by simp) _ _ _ _ _ h1,ih (fun x hx=>h x (by simp [hx])) h2⟩
theorem jC.tup {cs:List AV} (h:∀ c∈cs,jC c):jC (.tup cs):=fun _ _ _ _ _ hr=>by
 simp only [aT] at hr ⊢;obtain ⟨xs,e,hr⟩:=hr;exact ⟨xs,e,jC.uW h hr⟩
theorem jC.agg {cs:List AV} (h:∀ c∈cs,jC c):jC (.agg cs):=fun _ _ _ _ _ hr=>by
 simp only [aT] at hr ⊢;obtain ⟨xs,e,hr⟩:=hr;exact ⟨xs,e,jC.uW h hr⟩
def Env.j1 (E:Env) (σ : af):Env:=⟨fun _=>none,fun b=>E.ok b∨∃ id bk k N, σ id=some bk/\E.μ id=some (b,k,N)⟩
def View (σ : af) (c d:AV):Prop:=∀ G own E w v,Inv G own E w σ -> aT E w c v->aT (E.j1 σ) w d v
def aG (σ : af) (cs ds:List AV):Prop:=cs.length=ds.length/\∀ (j:Nat) (c d:AV),cs[j]? = some c->ds[j]? = some d->View σ c d
theorem Step.j1 (E:Env) (σ : af) (w:World):Step E.bare (E.j1 σ) w w:=⟨fun _ _ h=>by simp [Env.bare] at h,fun _ h => .inl h,fun _ _=>rfl⟩
theorem View.pure {c:AV} (h:aa c):View σ c c:=fun _ _ E w v _ hr=>aT.keep (Step.j1 E σ w) c v (h E w v hr)
theorem aG.pure {cs:List AV} (h:∀ c∈cs,aa c):aG σ cs cs :=
 ⟨rfl,fun j c d hc hd=>by rw [hc] at hd;simp only [Option.some.injEq] at hd;subst hd;exact View.pure (h c (List.mem_of_getElem? hc))⟩
theorem aG.nil:aG σ [] []:=⟨rfl,by simp⟩
theorem aG.cons {c d:AV} {cs ds:List AV} (h:View σ c d) (hl:aG σ cs ds):aG σ (c::cs) (d::ds) :=
 ⟨by simp [hl.1],fun j x y hx hy=>by
   cases j with
   | zero=>simp at hx hy;subst hx;subst hy;exact h
   | succ j=>exact hl.2 j x y (by simpa using hx) (by simpa using hy)⟩
theorem aG.uW {cs ds:List AV} (h:aG σ cs ds) (hi:Inv G own E w σ) {vs:List Value} (hr:bc E w cs vs):bc (E.j1 σ) w ds vs:=by
 obtain ⟨hl,hp⟩:=bI.1 hr
 refine bI.2 ⟨by rw [hl,h.1],fun j d hd => ?_⟩
 have hj:j<cs.length:=by rw [h.1];exact (List.getElem?_eq_some_iff.1 hd).1
 obtain ⟨v,hv,Gn⟩:=hp j cs[j] (by simp [hj])
 exact ⟨v,hv,h.2 j _ d (by simp [hj]) hd G own E w v hi Gn⟩
theorem aG.EY {cs ds:List AV} (h:aG σ cs ds) (hi:Inv G own E w σ) {b o:Nat} (hr:eT E w b o cs):eT (E.j1 σ) w b o ds:=by
 intro j d hd
 have hj:j<cs.length:=by rw [h.1];exact (List.getElem?_eq_some_iff.1 hd).1
 obtain ⟨v,hv,Gn⟩:=hr j cs[j] (by simp [hj])
 exact ⟨v,hv,h.2 j _ d (by simp [hj]) hd G own E w v hi Gn⟩
theorem View.agg {cs ds:List AV} (h:aG σ cs ds):View σ (.agg cs) (.agg ds):=fun G own E w v hi hr=>by
 simp only [aT] at hr ⊢;obtain ⟨xs,e,hr⟩:=hr;exact ⟨xs,e,h.uW hi hr⟩
theorem View.tup {cs ds:List AV} (h:aG σ cs ds):View σ (.tup cs) (.tup ds):=fun G own E w v hi hr=>by
 simp only [aT] at hr ⊢;obtain ⟨xs,e,hr⟩:=hr;exact ⟨xs,e,h.uW hi hr⟩
theorem View.nils (k:Nat):View σ .nils (.sl k []):=fun G own E w v hi hr=>by
 simp only [aT] at hr ⊢;exact ⟨none,0,hr,Nat.le_refl _,Nat.zero_le _,by simp, .inl trivial⟩
theorem View.Yn (k:Nat):View σ (.tsl k []) (.sl k []):=fun G own E w v hi hr=>by
 simp only [aT] at hr ⊢
 obtain ⟨a,e,_⟩:=hr
 exact ⟨a,0,e,Nat.le_refl _,Nat.zero_le _,by simp, .inl trivial⟩
theorem View.sl {k:Nat} {es ds:List AV} (h:aG σ (flat es) (flat ds)) (hl:es.length=ds.length) (hk:∀ d∈ds,d.size=k):View σ (.sl k es) (.sl k ds):=fun G own E w v hi hr=>by
 simp only [aT] at hr ⊢
 obtain ⟨a,cap,e,h1,h2,h3,h4⟩:=hr
 refine ⟨a,cap,by rw [<- hl];exact e,by rw [<- hl];exact h1,h2,hk, ?_⟩
 rcases h4 with h4 | ⟨b,o,ea,hb,hr⟩
 . left;subst h4;simpa using hl.symm
 . right;exact ⟨b,o,ea, .inl hb,dN.2 (h.EY hi (dN.1 hr))⟩
theorem View.tsl {k:Nat} {es ds:List AV} (h:aG σ (flat es) (flat ds)) (hl:es.length=ds.length) (hk:∀ d∈ds,d.size=k):View σ (.tsl k es) (.sl k ds):=fun G own E w v hi hr=>by
 simp only [aT] at hr ⊢
 obtain ⟨a,e,h2,h3,h4⟩:=hr
 refine ⟨a,es.length,by rw [<- hl];exact e,by rw [<- hl];exact Nat.le_refl _,h2,hk, ?_⟩
 rcases h4 with h4 | ⟨b,o,ea,hb,hr⟩
 . left;subst h4;simpa using hl.symm
 . right;exact ⟨b,o,ea, .inl hb,dN.2 (h.EY hi (dN.1 hr))⟩
theorem View.osl {id:Id} {bk:cZ} {k off len:Nat} {t:Bool} {ds:List AV} (hσ : σ id=some bk) (hk:bk.k=k) (hle:off+len<=bk.els.length)
   (h:aG σ (flat ((bk.els.drop off).take len)) (flat ds)) (hl:ds.length=len) (hkd:∀ d∈ds,d.size=k):View σ (.osl id k off len t) (.sl k ds):=fun G own E w v hi hr=>by
 obtain ⟨g,N,cur,ty,hB⟩:=hi.blk id bk hσ
 simp only [aT] at hr ⊢
 obtain ⟨g',N',cap,hm,e,h1,h2,h3,_⟩:=hr
 rw [hB.μ] at hm
 simp only [Option.some.injEq,Prod.mk.injEq] at hm
 obtain ⟨rfl,_,rfl⟩:=hm
 refine ⟨_,cap,by rw [hl];exact e,by rw [hl];exact h1,by omega,hkd, .inr ⟨g,off*k,rfl, .inr ⟨id,bk,bk.k,N,hσ,hB.μ⟩, ?_⟩⟩
 refine dN.2 (h.EY hi ?_)
 have:=rk (l:=off) (r:=off+len) hB.k hB.row (by omega) hle
 rw [Nat.zero_add,hk] at this
 have e2:(bk.els.take (off+len)).drop off=(bk.els.drop off).take len:=by rw [List.drop_take];congr 1;omega
 rwa [e2] at this
def VP (P:Program) (G:Nat->Option (List AV)) (f:FuncId) (args:List AV) (r:AV):Prop :=
 (∃ fn,P.funcs[f]? = some fn/\(fn.name == "runtime.NumGoroutine")=false/\fn.body.isSome=true) /\
 ∀ w vs ok,Inv G (fun k=>w.heap.size<=k) ⟨fun _=>none,ok⟩ w (fun _=>none)->bc ⟨fun _=>none,ok⟩ w args vs ->
   Calls P f vs.toArray w fun e w'=>∃ v ok',e = .returned v/\Adv (fun k=>w.heap.size<=k) ⟨fun _=>none,ok⟩ ⟨fun _=>none,ok'⟩ w w'/\(∀ b,ok' b->b<w'.heap.size)/\aT ⟨fun _=>none,ok'⟩ w' r v
theorem aZ.PX {f:FuncId} {args:List AV} {r:AV} (h:VP P G f args r) (hp:∀ c∈args,aa c) (p:Id):aZ P G f args p [] { val:=r }:=by
 refine ⟨h.1,fun own E w σ vs _ hi hr hμ => ?_⟩
 have TT:Inv G (fun k=>w.heap.size<=k) ⟨fun _=>none,E.ok⟩ w (fun _=>none):=⟨hi.okb,fun id bk h=>by simp at h,fun i j x y h=>absurd rfl h,hi.glob,fun k hk=>hk⟩
 refine (h.2 w vs E.ok TT (aa.uW hp hr)).mono fun e w' he => ?_
 obtain ⟨v,ok',rfl,had,ic,hv⟩:=he
 have ig:Adv own E ⟨E.μ,ok'⟩ w w' :=
   ⟨⟨fun _ _ h=>h,had.step.ok,had.step.same⟩,had.os,had.tape,had.output,had.size,fun k hk _=>had.block k hk (by omega),fun b hb=>(had.XD b hb).imp id fun h=>hi.new b h⟩
 refine ⟨v,⟨E.μ,ok'⟩,rfl,ig, ?_, ?_,fun _ _=>rfl⟩
 . refine hi.keep ig rfl ic fun id bk g N hs hm => ?_
   obtain ⟨g',N',cur,ty,hB⟩:=hi.blk id bk hs
   rw [hB.μ] at hm
   simp only [Option.some.injEq,Prod.mk.injEq] at hm
   obtain ⟨rfl,_,rfl⟩:=hm
   have hg:=gH hB.heap
   exact ⟨had.block _ hg (by omega),fun hf hb=>(had.XD _ hb).elim (hB.no hf) (fun h=>by omega)⟩
 . exact aT.keep (⟨fun _ _ h=>by simp at h,fun _ h=>h,fun _ _=>rfl⟩:Step ⟨fun _=>none,ok'⟩ ⟨E.μ,ok'⟩ w' w') r v hv
def a9 (s:VS):uT->Option AV
 | .tmp t=>some (s.t.getD t (.tup []))
 | .cell x agg n=>(kM s.σ agg n (s.t.getD x (.tup []))).map (·.val)
def aX (rs:List uT) (s:VS):Option AV :=
 match rs.mapM (a9 s) with
 | some [v]=>some v
 | some vs=>some (.tup vs)
 | none=>none
theorem LM {α β : Type} {f : α -> Sem β}:∀ (l:List α) (vs:List β),vs.length=l.length->(∀ (i:Nat) (a : α) (v : β),l[i]? = some a->vs[i]? = some v->(f a).run P w = .ok v w)->(l.mapM f).run P w = .ok vs w
 | [],vs,hl,_=>by
   have:vs=[]:=List.eq_nil_of_length_eq_zero hl
   subst this;rfl
 | a::l,[],hl,_=>by simp at hl
 | a::l,v::vs,hl,h=>by
   have h0:=h 0 a v rfl rfl
   have ih:=LM l vs (by simpa using hl) (fun i x y hx hy=>h (i+1) x y (by simpa using hx) (by simpa using hy))
   simp [List.mapM_cons,h0,ih]
theorem Yo {π : Id} {s:VS} {a:Act} (hm:mR G π own E w s a) {rv:ResultVar} {vr:uT} (hc:T9 P rv=some vr) {c:AV} (h:a9 s vr=some c) :
   ∃ v,(match rv with | .tmp t=>(pure (a.tmps.getD t undef):Sem Value) | .cell x t=>do loadVar t (<- asAddr (a.tmps.getD x undef))).run P w = .ok v w/\aT E w c v:=by
 cases rv with
 | tmp t =>
   simp only [T9,Option.some.injEq] at hc;subst hc
   simp only [a9,Option.some.injEq] at h;subst h
   exact ⟨_,rfl,hm.frame.get t⟩
 | cell x t =>
   simp only [T9] at hc
   cases ha:px P t with
   | none=>simp [ha] at hc
   | some g =>
   cases Ft:P.info? t with
   | none=>simp [ha,Ft] at hc
   | some i =>
     simp only [ha,Ft] at hc
     split at hc
     . simp only [Option.some.injEq] at hc;subst hc
       simp only [a9,Option.map_eq_some_iff] at h
       obtain ⟨r,hr,rfl⟩:=h
       obtain ⟨⟨v,h1,h2⟩,_,ad,had⟩:=I6 hm.inv ha Ft (hm.frame.get x) hr
       refine ⟨v, ?_,h2⟩
       simp only []
       rw [had] at h1 ⊢
       simpa [Instr.loadAt,Instr.sureAddr,asAddr] using h1
     . simp at hc
theorem EZ {π : Id} {s:VS} {a:Act} (hm:mR G π own E w s a) {fn:Func} {rs:List uT} (hc:fn.results.toList.mapM (T9 P)=some rs) {c:AV} (h:aX rs s=some c) :
   ∃ v,(results fn a.tmps).run P w = .ok v w/\aT E w c v:=by
 unfold aX at h
 cases hcs:rs.mapM (a9 s) with
 | none=>simp [hcs] at h
 | some cs =>
   have hlen:cs.length=fn.results.toList.length:=by rw [g9 hcs,g9 hc]
   let F:ResultVar->Sem Value:=fun rv=>match rv with | .tmp t=>(pure (a.tmps.getD t undef):Sem Value) | .cell x t=>do loadVar t (<- asAddr (a.tmps.getD x undef))
   have hex:∀ j,j<cs.length->∃ v,(∀ rv,fn.results.toList[j]? = some rv->(F rv).run P w = .ok v w)/\∀ c,cs[j]? = some c->aT E w c v:=by
     intro j hj
     obtain ⟨vr,h1,h2⟩:=mapM_some_get hcs j cs[j] (by simp [hj])
     obtain ⟨rv,h3,h4⟩:=mapM_some_get hc j vr h1
     obtain ⟨v,h5,h6⟩:=Yo hm h4 h2
     refine ⟨v,fun rv' Gn => ?_,fun c hc => ?_⟩
     . rw [h3] at Gn;simp only [Option.some.injEq] at Gn;subst Gn;exact h5
     . simp only [hj,List.getElem?_eq_getElem,Option.some.injEq] at hc;subst hc;exact h6
   let val:Nat->Value:=fun j=>if hj:j<cs.length then Classical.choose (hex j hj) else undef
   have hval:∀ j (hj:j<cs.length),(∀ rv,fn.results.toList[j]? = some rv->(F rv).run P w = .ok (val j) w)/\∀ c,cs[j]? = some c->aT E w c (val j):=by
     intro j hj
     simp only [val,hj,dif_pos]
     exact Classical.choose_spec (hex j hj)
   let vs:List Value:=(List.range cs.length).map val
   have yv:vs.length=cs.length:=by simp [vs]
   have hrun:(fn.results.toList.mapM F).run P w = .ok vs w:=by
     refine LM _ vs (by rw [yv,hlen]) fun i rv v Gn hv => ?_
     have hi:i<cs.length:=by have:=(List.getElem?_eq_some_iff.1 hv).1;omega
     have:v=val i:=by simp [vs,hi] at hv;exact hv.symm
     subst this
     exact (hval i hi).1 rv Gn
   have Se:bc E w cs vs:=bI.2 ⟨yv,fun j c hj=>by
     have wI:=(List.getElem?_eq_some_iff.1 hj).1
     exact ⟨val j,by simp [vs,wI],(hval j wI).2 c hj⟩⟩
   have LC:(results fn a.tmps).run P w=(pure (if h:vs.toArray.size=1 then vs.toArray[0] else .tuple vs.toArray):Sem Value).run P w:=by
     unfold results
     rw [Array.mapM_eq_mapM_toList]
     simp only [Sem.run_bind,Sem.run_map]
     exact congrArg (fun x:Result (List Value)=>(x.andThen fun b w'=>Result.ok b.toArray w').andThen fun b w'=>Sem.run P (pure (if h:b.size=1 then b[0] else Value.tuple b)) w') hrun
   rw [LC]
   refine ⟨_,rfl, ?_⟩
   simp only [hcs] at h
   split at h
   . rename_i c0 heq
     simp only [Option.some.injEq] at heq h
     subst h
     have jv:vs.toArray.size=1:=by simp [yv,heq]
     rw [dif_pos jv]
     rw [heq] at Se
     simp only [bc] at Se
     obtain ⟨v,rest,hv,h1,rfl⟩:=Se
     simpa [hv] using h1
   . rename_i Ck hne heq
     simp only [Option.some.injEq] at heq h
     subst h;subst heq
     have jv : ¬ vs.toArray.size=1:=by
       intro e
       simp [yv] at e
       obtain ⟨x,hx⟩:=List.length_eq_one_iff.1 e
       exact hne x (by rw [hx])
     rw [dif_neg jv]
     simp only [aT]
     exact ⟨_,rfl,by simpa using Se⟩
   . simp at *
theorem VP.UC {f:FuncId} {fn:Func} {vf:az} (hf:P.funcs[f]? = some fn) (hc:I1 P fn=some vf) {args:List AV} {r:AV}
   (h:VW P G [] vf.body (fun e s'=>(e = .normal∨e = .ret)/\∃ r0,aX vf.results s'=some r0/\View s'.σ r0 r) ⟨args++List.replicate (vf.nt-args.length) (.tup []),fun _=>none,0⟩):VP P G f args r:=by
 unfold I1 at hc
 split at hc
 . simp at hc
 . rename_i sY
   split at hc
   . rename_i c rs hb Uk
     simp only [Option.map_eq_some_iff] at hc
     obtain ⟨vb,hvb,rfl⟩:=hc
     refine ⟨⟨fn,hf,by simpa using sY,by simp [hb]⟩,fun w vs ok hi hr => ?_⟩
     refine calls_of_wp hf hb ?_
     have hal:vs.length=args.length:=bc.len hr
     have hm:mR G [] (fun k=>w.heap.size<=k) ⟨fun _=>none,ok⟩ w ⟨args++List.replicate (fn.ntmps-args.length) (.tup []),fun _=>none,0⟩
         { tmps:=vs.toArray++Array.replicate (fn.ntmps-vs.toArray.size) undef,defers:=[] }:=by
       refine ⟨?_,hi,fun _ _ _=>rfl,rfl⟩
       show bc _ w _ _
       simp only [Array.toList_append,Array.toList_replicate,List.size_toArray,hal]
       refine bc.append hr (bI.2 ⟨by simp,fun j c hj => ?_⟩)
       have wI:j<fn.ntmps-args.length:=by have:=(List.getElem?_eq_some_iff.1 hj).1;simpa using this
       simp only [List.getElem?_replicate,wI,if_true,Option.some.injEq] at hj ⊢
       subst hj
       exact ⟨undef,rfl,by simp only [aT,undef];exact ⟨#[],rfl,by simp [bc]⟩⟩
     refine h c hvb _ _ w _ _ hm ?_
     intro e s' E' w' a' hq had sC
     obtain ⟨he,r0,hr0,il⟩:=hq
     obtain ⟨v,rn,y3⟩:=EZ sC Uk hr0
     have fin:∃ v,(results fn a'.tmps).run P w' = .ok v w'/\∃ v' ok',Ending.returned v = .returned v'/\Adv (fun k=>w.heap.size<=k) ⟨fun _=>none,ok⟩ ⟨fun _=>none,ok'⟩ w w'/\(∀ b,ok' b->b<w'.heap.size)/\aT ⟨fun _=>none,ok'⟩ w' r v':=by
       refine ⟨v,rn,v,(E'.j1 s'.σ).ok,rfl, ?_, ?_, ?_⟩
       . refine ⟨⟨fun _ _ h=>by simp at h,fun b hb => .inl (had.step.ok b hb),had.step.same⟩,had.os,had.tape,had.output,had.size,had.block, ?_⟩
         rintro b (hb | ⟨id,bk,k,N,hs,hmu⟩)
         . exact had.XD b hb
         . obtain ⟨g,N',cur,ty,hB⟩:=sC.inv.blk id bk hs
           rw [hB.μ] at hmu
           simp only [Option.some.injEq,Prod.mk.injEq] at hmu
           right;rw [<- hmu.1];exact hB.own
       . rintro b (hb | ⟨id,bk,k,N,hs,hmu⟩)
         . exact sC.inv.okb b hb
         . obtain ⟨g,N',cur,ty,hB⟩:=sC.inv.blk id bk hs
           rw [hB.μ] at hmu
           simp only [Option.some.injEq,Prod.mk.injEq] at hmu
           rw [<- hmu.1];exact gH hB.heap
       . exact il G _ E' w' v sC.inv y3
     rcases he with rfl | rfl
     . exact ⟨sC.defers,fin⟩
     . exact ⟨sC.defers,fin⟩
   . simp at hc
end
end Go.VL
end

section
namespace Go.VL
section
variable {P:Program} {G:Nat->Option (List AV)} {π : Id} {Q:bX->VS->Prop} {s:VS}
def Fg:List AV->List AV->Prop
 | [],[]=>True
 | c::cs,d::ds=>(d = .top∨d=c)/\Fg cs ds
 | _,_=>False
theorem Fg.rep {E:Env} {w:World}:∀ {cs ds:List AV} {vs:List Value},Fg cs ds->bc E w cs vs->bc E w ds vs
 | [],[],_,_,h=>h
 | c::cs,d::ds,vs,hf,h=>by
   simp only [Fg] at hf
   simp only [bc] at h ⊢
   obtain ⟨v,rest,e,h1,h2⟩:=h
   refine ⟨v,rest,e, ?_,Fg.rep hf.2 h2⟩
   rcases hf.1 with rfl | rfl
   . simp [aT]
   . exact h1
 | [],_::_,_,h,_=>by simp [Fg] at h
 | _::_,[],_,h,_=>by simp [Fg] at h
theorem Wk.forget {t t':List AV} {σ σ':af} {n n':Nat} (ht:Fg t t') (hs:∀ id, σ' id=none ∨ σ' id = σ id) (hn:n<=n'):Wk G π ⟨t, σ,n⟩ ⟨t', σ',n'⟩ :=
 fun own E w _ hm=>⟨E,nb.refl own π E w,ht.rep hm.frame,hm.inv.sub hs,hm.free.mono hn,hm.defers⟩
theorem Wk.slots {t t':List AV} {σ : af} {n n':Nat} (ht:Fg t t') (hn:n<=n'):Wk G π ⟨t, σ,n⟩ ⟨t', σ,n'⟩:=Wk.forget ht (fun _ => .inr rfl) hn
def bY (P:Program) (G:Nat->Option (List AV)) (π : Id) (x:cy) (Q:bX->VS->Prop):Nat->VS->Prop
 | 0,_=>False
 | n+1,s=>VW P G π x (Then (bY P G π x Q n) Q) s
theorem VW.rounds {x:cy} (n:Nat) (h:bY P G π x Q n s):VW P G π (.loop x) Q s:=by
 intro c hc own E w a R hm hR
 cases c<;>simp only [gI,Option.some.injEq,reduceCtorEq] at hc
 case loop cb =>
   cases h1:gI P cb with
   | none=>simp [h1] at hc
   | some vb =>
     simp only [h1,Option.map_some,Option.some.injEq,cy.loop.injEq] at hc
     subst hc
     refine wp_loop_rounds n ?_
     have key:∀ n s E2 w2 a2,bY P G π vb Q n s->nb own π E E2 w w2->mR G π own E2 w2 s a2->Code.rounds P cb R n a2 w2:=by
       intro n
       induction n with
       | zero=>intro s E2 w2 a2 h _ _;exact h.elim
       | succ n ih =>
         intro s E2 w2 a2 h ad hm
         refine h cb h1 own E2 w2 a2 _ hm ?_
         intro e s' E' w' a' hq had sC
         cases e with
         | normal=>exact ih s' E' w' a' hq (ad.trans had) sC
         | exit id=>exact hR (.exit id) s' E' w' a' hq (ad.trans had) sC
         | ret=>exact hR .ret s' E' w' a' hq (ad.trans had) sC
     exact key n s E w a h (nb.refl own π E w) hm
 case region=>exfalso;revert hc;unfold mQ;(repeat' split)<;>simp
 all_goals (exfalso;revert hc;(repeat' split)<;>simp)
end
end Go.VL
end

section
namespace Go.VL
def gB.tO {α : Type}:gB α -> Bool
 | .call _ _=>true
 | _=>false
def Ji (G:Nat->Option (List AV)) (σ : af) (p:Id) (d:Option Nat) (op:gB a7) (g:Option (Nat × Bool)) (t:List AV):Option (List AV × eS × af) :=
 match eY t g with
 | none=>none
 | some false=>some (gl t d (.tup []),{ val := .tup [] }, σ)
 | some true=>match bO σ p (op.map (a7.ev G t)) with
   | some r=>some (gl t d r.val,r, σ.app r.up)
   | none=>none
section
variable (P:Program) (G:Nat->Option (List AV)) (π : Id)
def vs (base:Nat) (Q:bX->VS->Prop) (n:Nat) (os:List bx) (i:Nat) (t:List AV) (σ : af):Prop :=
 Cq P G π base (fun t σ => Q .normal ⟨t, σ,n⟩) os i t σ
def vd (base:Nat) (Q:bX->VS->Prop) (n:Nat) (ps:List (Nat × Nat)) (os:List bx) (i:Nat) (acc:List eS) (t:List AV) (σ : af):Prop :=
 Cr P G π base (fun rs t σ => ab rs ps/\Q .normal ⟨t, σ,n⟩) os i acc t σ
def aeF (base:Nat) (Q:bX->VS->Prop) (n:Nat) (os:List bx) (i:Nat):Option (List AV × eS × af)->Prop
 | some (t,_, σ)=>vs P G π base Q n os i t σ
 | none=>False
def aeG (base:Nat) (Q:bX->VS->Prop) (n:Nat) (ps:List (Nat × Nat)) (os:List bx) (i:Nat) (acc:List eS):Option (List AV × eS × af)->Prop
 | some (t,r, σ)=>vd P G π base Q n ps os i (r::acc) t σ
 | none=>False
def Bq (base:Nat) (Q:bX->VS->Prop) (n:Nat) (d:Option Nat) (os:List bx) (i:Nat) (t:List AV) (σ : af) (f:FuncId) (args:List AV):Prop :=
 ∃ S r,aZ P G f args ((base+i) :: π) S r/\(∀ x∈S, σ x.1=some x.2)/\(∀ x∈S,x.1∈r.rd)/\vs P G π base Q n os (i+1) (gl t d r.val) (σ.app r.up)
def D2 (base:Nat) (Q:bX->VS->Prop) (n:Nat) (ps:List (Nat × Nat)) (d:Option Nat) (os:List bx) (i:Nat) (acc:List eS) (t:List AV) (σ : af) (f:FuncId) (args:List AV):Prop :=
 ∃ S r,aZ P G f args ((base+i) :: π) S r/\(∀ x∈S, σ x.1=some x.2)/\(∀ x∈S,x.1∈r.rd)/\vd P G π base Q n ps os (i+1) (r::acc) (gl t d r.val) (σ.app r.up)
def PY (base:Nat) (Q:bX->VS->Prop) (n:Nat) (d:Option Nat) (os:List bx) (i:Nat) (t:List AV) (σ : af):Option Bool->AV->List AV->Prop
 | some true, .fn (.func f) first cap,l=>Bq P G π base Q n d os i t σ f (first++l++cap)
 | some false,_,_=>vs P G π base Q n os (i+1) (gl t d (.tup [])) σ
 | _,_,_=>False
def PZ (base:Nat) (Q:bX->VS->Prop) (n:Nat) (ps:List (Nat × Nat)) (d:Option Nat) (os:List bx) (i:Nat) (acc:List eS) (t:List AV) (σ : af):Option Bool->AV->List AV->Prop
 | some true, .fn (.func f) first cap,l=>D2 P G π base Q n ps d os i acc t σ f (first++l++cap)
 | some false,_,_=>vd P G π base Q n ps os (i+1) ({ val := .tup [] }::acc) (gl t d (.tup [])) σ
 | _,_,_=>False
variable {P} {G} {π}
variable {base:Nat} {Q:bX->VS->Prop} {n:Nat} {ps:List (Nat × Nat)} {d:Option Nat} {g:Option (Nat × Bool)} {os:List bx} {i:Nat} {acc:List eS} {t:List AV} {σ : af}
theorem UD:vs P G π base Q n [] i t σ = Q .normal ⟨t, σ,n⟩:=(rfl)
theorem UE:vd P G π base Q n ps [] i acc t σ = (ab acc.reverse ps/\Q .normal ⟨t, σ,n⟩):=(rfl)
theorem uX {σ : af} {p:Id} {op:gB AV} {K:eS->Prop} (h:op.tO=false):y8 P G σ p op K=(match bO σ p op with | some r=>K r | none=>False):=by
 cases op<;>first | rfl | simp [gB.tO] at h
theorem GG {op:gB a7} {f:a7->AV}:(op.map f).tO=op.tO:=by cases op<;>rfl
theorem aeH {op:gB a7} (h:op.tO=false):vs P G π base Q n (⟨d,op,g⟩::os) i t σ = aeF P G π base Q n os (i+1) (Ji G σ ((base+i) :: π) d op g t):=by
 unfold vs
 simp only [Cq,Ji]
 cases hw:eY t g with
 | none=>rfl
 | some b =>
   cases b with
   | false=>rfl
   | true =>
     simp only []
     rw [uX (by rw [GG];exact h)]
     cases bO σ ((base+i) :: π) (op.map (a7.ev G t))<;>rfl
theorem aeI {op:gB a7} (h:op.tO=false):vd P G π base Q n ps (⟨d,op,g⟩::os) i acc t σ = aeG P G π base Q n ps os (i+1) acc (Ji G σ ((base+i) :: π) d op g t):=by
 unfold vd
 simp only [Cr,Ji]
 cases hw:eY t g with
 | none=>rfl
 | some b =>
   cases b with
   | false=>rfl
   | true =>
     simp only []
     rw [uX (by rw [GG];exact h)]
     cases bO σ ((base+i) :: π) (op.map (a7.ev G t))<;>rfl
theorem Yp {f:a7} {l:List a7}:vs P G π base Q n (⟨d, .call f l,g⟩::os) i t σ = PY P G π base Q n d os i t σ (eY t g) (f.ev G t) (l.map (a7.ev G t)):=by
 unfold vs PY
 simp only [Cq]
 cases hw:eY t g with
 | none=>rfl
 | some b =>
   cases b with
   | false=>rfl
   | true =>
     simp only [gB.map,y8]
     cases hf:f.ev G t<;>try rfl
     rename_i fn a c
     cases fn<;>rfl
theorem Yq {f:a7} {l:List a7}:vd P G π base Q n ps (⟨d, .call f l,g⟩::os) i acc t σ = PZ P G π base Q n ps d os i acc t σ (eY t g) (f.ev G t) (l.map (a7.ev G t)):=by
 unfold vd PZ
 simp only [Cr]
 cases hw:eY t g with
 | none=>rfl
 | some b =>
   cases b with
   | false=>rfl
   | true =>
     simp only [gB.map,y8]
     cases hf:f.ev G t<;>try rfl
     rename_i fn a c
     cases fn<;>rfl
theorem GH {f:FuncId} {first cap l:List AV}:PY P G π base Q n d os i t σ (some true) (.fn (.func f) first cap) l=Bq P G π base Q n d os i t σ f (first++l++cap):=(rfl)
theorem GI {f:FuncId} {first cap l:List AV}:PZ P G π base Q n ps d os i acc t σ (some true) (.fn (.func f) first cap) l=D2 P G π base Q n ps d os i acc t σ f (first++l++cap):=(rfl)
theorem ah {f:FuncId} {args:List AV} {r:AV} (h:VP P G f args r) (hp:∀ c∈args,aa c) (k:vs P G π base Q n os (i+1) (gl t d r) σ):Bq P G π base Q n d os i t σ f args :=
 ⟨[],{ val:=r },aZ.PX h hp _,by simp,by simp,k⟩
theorem ak {f:FuncId} {args:List AV} {r:AV} (h:VP P G f args r) (hp:∀ c∈args,aa c) (k:vd P G π base Q n ps os (i+1) ({ val:=r }::acc) (gl t d r) σ):D2 P G π base Q n ps d os i acc t σ f args :=
 ⟨[],{ val:=r },aZ.PX h hp _,by simp,by simp,k⟩
def LN (P:Program) (G:Nat->Option (List AV)) (π : Id) (x y:cy) (Q:bX->VS->Prop) (s:VS):AV->Prop
 | .bool b=>if b then yx P G π x Q s else yx P G π y Q s
 | .anyb=>yx P G π x Q s/\yx P G π y Q s
 | _=>False
theorem GJ {x y:cy} {s:VS}:LN P G π x y Q s (.bool true)=yx P G π x Q s:=(rfl)
theorem E4 {x y:cy} {s:VS}:LN P G π x y Q s (.bool false)=yx P G π y Q s:=(rfl)
theorem Jj {x y:cy} {s:VS}:LN P G π x y Q s .anyb=(yx P G π x Q s/\yx P G π y Q s):=(rfl)
theorem LO {s:VS}:yx P G π .skip Q s=Q .normal s:=(rfl)
theorem GK {os:List bx} {n:Nat}:yx P G π (.reg none os) Q ⟨t, σ,n⟩=vs P G π n Q (n+os.length) os 0 t σ := (rfl)
theorem GL {os:List bx} {n:Nat}:yx P G π (.reg (some ps) os) Q ⟨t, σ,n⟩=vd P G π n Q (n+os.length) ps os 0 [] t σ := (rfl)
theorem P0 {x y:cy} {s:VS}:yx P G π (.seq x y) Q s=yx P G π x (Then (yx P G π y Q) Q) s:=(rfl)
theorem LP {c:a7} {x y:cy} {n:Nat}:yx P G π (.cond c x y) Q ⟨t, σ,n⟩=LN P G π x y Q ⟨t, σ,n⟩ (c.ev G t):=by
 simp only [yx,LN]<;>cases c.ev G t<;>rfl
theorem Jk {id:Nat} {x:cy} {s:VS}:yx P G π (.block id x) Q s=yx P G π x (Sd id Q) s:=(rfl)
theorem aP {x:cy} {s:VS}:yx P G π (.loop x) Q s=VW P G π (.loop x) Q s:=(rfl)
theorem LQ {id:Nat} {s:VS}:yx P G π (.exit id) Q s=Q (.exit id) s:=(rfl)
theorem P1 {s:VS}:yx P G π .ret Q s=Q .ret s:=(rfl)
def Sf (rs:List uT) (r:AV) (e:bX) (s:VS):Prop:=(e = .normal∨e = .ret)/\∃ r0,aX rs s=some r0/\View s.σ r0 r
theorem ai {rs:List uT} {r:AV} {s:VS}:Sf rs r .ret s=∃ r0,aX rs s=some r0/\View s.σ r0 r:=by simp [Sf]
theorem E5 {rs:List uT} {r:AV} {s:VS}:Sf rs r .normal s=∃ r0,aX rs s=some r0/\View s.σ r0 r:=by simp [Sf]
def Jl {α : Type} (G:Nat->Option (List AV)) (π : Id) (st : α -> VS) (Pr : α -> Prop) (m : α -> Nat) (a : α) (Q:bX->VS->Prop):bX->VS->Prop
 | .normal,s'=>∃ a',Pr a'/\m a'<m a/\Wk G π s' (st a')
 | .exit i,s'=>Q (.exit i) s'
 | .ret,s'=>Q .ret s'
theorem Cw {α : Type} {st : α -> VS} {Pr : α -> Prop} {m : α -> Nat} {a : α} {s':VS}:Jl G π st Pr m a Q .normal s'=∃ a',Pr a'/\m a'<m a/\Wk G π s' (st a'):=(rfl)
theorem GM {α : Type} {st : α -> VS} {Pr : α -> Prop} {m : α -> Nat} {a : α} {s':VS} {j:Nat}:Jl G π st Pr m a Q (.exit j) s'=Q (.exit j) s':=(rfl)
theorem Jm {α : Type} {st : α -> VS} {Pr : α -> Prop} {m : α -> Nat} {a : α} {s':VS}:Jl G π st Pr m a Q .ret s'=Q .ret s':=(rfl)
theorem VW.ey {α : Type} {x:cy} {s:VS} (st : α -> VS) (Pr : α -> Prop) (m : α -> Nat) (x0 : α) (hw:Wk G π s (st x0)) (h0:Pr x0)
   (h:∀ a,Pr a->yx P G π x (Jl G π st Pr m a Q) (st a)):VW P G π (.loop x) Q s:=by
 refine VW.wk hw ?_
 intro c hc own E w a R hm hR
 cases c<;>simp only [gI,Option.some.injEq,reduceCtorEq] at hc
 case loop cb =>
   cases h1:gI P cb with
   | none=>simp [h1] at hc
   | some vb =>
     simp only [h1,Option.map_some,Option.some.injEq,cy.loop.injEq] at hc
     subst hc
     refine zd (α := α) (fun g a' w'=>Pr g/\∃ E',nb own π E E' w w'/\mR G π own E' w' (st g) a') m (x:=x0) ⟨h0,E,nb.refl own π E w,hm⟩ ?_
     rintro g a2 w2 ⟨hI2,E2,Sc,Cn⟩
     refine VW.of (h g hI2) cb h1 own E2 w2 a2 _ Cn ?_
     intro e s' E' w' a' hq had sC
     cases e with
     | normal =>
       obtain ⟨g',hI3,hlt,hw3⟩:=hq
       obtain ⟨E3,ad3,hm3⟩:=hw3 own E' w' a' sC
       exact ⟨g',⟨hI3,E3,(Sc.trans had).trans ad3,hm3⟩,hlt⟩
     | exit id=>exact hR (.exit id) s' E' w' a' hq (Sc.trans had) sC
     | ret=>exact hR .ret s' E' w' a' hq (Sc.trans had) sC
 case region=>exfalso;revert hc;unfold mQ;(repeat' split)<;>simp
 all_goals (exfalso;revert hc;(repeat' split)<;>simp)
theorem VP.of {f:FuncId} {fn:Func} {vf:az} (hf:P.funcs[f]? = some fn) (hc:I1 P fn=some vf) {args:List AV} {r:AV}
   (h:yx P G [] vf.body (Sf vf.results r) ⟨args++List.replicate (vf.nt-args.length) (.tup []),fun _=>none,0⟩):VP P G f args r :=
 VP.UC hf hc (VW.of h)
end
end Go.VL
end

section
namespace Go.VL
def af.of (S:List (Id × cZ)):af:=fun i=>S.lookup i
theorem iq {S:List (Id × cZ)} {i:Id} {b:cZ}:S.lookup i=some b->(i,b)∈S:=by
 induction S with
 | nil=>intro h;simp at h
 | cons x S ih =>
   intro h
   obtain ⟨j,c⟩:=x
   simp only [List.lookup_cons] at h
   split at h
   . rename_i he
     have:i=j:=by simpa using he
     subst this
     simp only [Option.some.injEq] at h;subst h;simp
   . exact List.mem_cons_of_mem _ (ih h)
theorem af.wL {S:List (Id × cZ)} {σ : af} (h:∀ x∈S, σ x.1=some x.2) (i:Id):af.of S i=none∨af.of S i = σ i:=by
 cases hl:S.lookup i with
 | none=>exact .inl hl
 | some b=>right;show S.lookup i = σ i;rw [hl];exact (h _ (iq hl)).symm
theorem af.abK (up:List (Id × Option cZ)) (σ σ':af) (i:Id) (h:(∃ x∈up,x.1=i) ∨ σ i = σ' i) : σ.app up i = σ'.app up i:=by
 induction up generalizing σ σ' with
 | nil =>
   rcases h with ⟨x,hx,_⟩ | h
   . simp at hx
   . exact h
 | cons x up ih =>
   obtain ⟨j,b⟩:=x
   simp only [af.app]
   apply ih
   by_cases hj:i=j
   . right;subst hj;simp [af.put]
   . rcases h with ⟨y,hy,he⟩ | h
     . simp only [List.mem_cons] at hy
       rcases hy with rfl | hy
       . exact absurd he.symm hj
       . exact .inl ⟨y,hy,he⟩
     . right;simp [af.put,hj,h]
theorem af.Kq (up:List (Id × Option cZ)) (σ : af) (i:Id) (h:∀ x∈up,x.1≠i) : σ.app up i = σ i:=by
 induction up generalizing σ with
 | nil=>rfl
 | cons x up ih =>
   obtain ⟨j,b⟩:=x
   simp only [af.app]
   rw [ih _ fun y hy=>h y (List.mem_cons_of_mem _ hy),af.cC]
   exact fun e=>h (j,b) (by simp) e.symm
section
variable {P:Program} {G:Nat->Option (List AV)}
def Fin (G:Nat->Option (List AV)) (p:Id) (S:List (Id × cZ)) (σ':af) (r0:AV) (r:eS):Prop :=
 ∀ own E w v,Inv G own E w σ'->aT E w r0 v->E.μ p=none->∃ E',nb own p E E' w w/\Inv G own E' w ((af.of S).app r.up)/\aT E' w r.val v
def Sg (G:Nat->Option (List AV)) (p:Id) (S:List (Id × cZ)) (rs:List uT) (r:eS) (e:bX) (s:VS):Prop :=
 (e = .normal∨e = .ret)/\∃ r0,aX rs s=some r0/\Fin G p S s.σ r0 r
theorem aZ.aap {f:FuncId} {fn:Func} {vf:az} (hf:P.funcs[f]? = some fn) (hc:I1 P fn=some vf) {args:List AV} {p:Id} {S:List (Id × cZ)} {r:eS}
   (h:VW P G p vf.body (Sg G p S vf.results r) ⟨args++List.replicate (vf.nt-args.length) (.tup []),af.of S,0⟩):aZ P G f args p S r:=by
 unfold I1 at hc
 split at hc
 . simp at hc
 . rename_i sY
   split at hc
   . rename_i c rs hb Uk
     simp only [Option.map_eq_some_iff] at hc
     obtain ⟨vb,hvb,rfl⟩:=hc
     refine ⟨⟨fn,hf,by simpa using sY,by simp [hb]⟩,fun own E w σ vs hS hi hr hμ => ?_⟩
     refine calls_of_wp hf hb ?_
     have hal:vs.length=args.length:=bc.len hr
     let Ir:Nat->Prop:=fun g=>(∃ x∈S,∃ y,E.μ x.1=some y/\y.1=g)∨w.heap.size<=g
     have Gt:∀ i,af.of S i=none∨af.of S i = σ i:=af.wL hS
     have abL:∀ g,Ir g->own g:=by
       rintro g (⟨x,hx,y,hy,rfl⟩ | hg)
       . obtain ⟨g,N,cur,ty,hB⟩:=hi.blk _ _ (hS x hx)
         have:=hB.μ.symm.trans hy
         simp only [Option.some.injEq] at this
         subst this
         exact hB.own
       . exact hi.new g hg
     have TT:Inv G Ir E w (af.of S):=by
       refine ⟨hi.okb,fun id bk hs => ?_,(hi.sub Gt).inj,hi.glob,fun k hk => .inr hk⟩
       have hm:=iq hs
       obtain ⟨g,N,cur,ty,hB⟩:=hi.blk _ _ (hS _ hm)
       exact ⟨g,N,cur,ty,hB.μ,hB.heap,hB.size,hB.len,hB.most, .inl ⟨_,hm,_,hB.μ,rfl⟩,hB.ok,hB.no,hB.k,hB.row⟩
     have hm:mR G p Ir E w ⟨args++List.replicate (fn.ntmps-args.length) (.tup []),af.of S,0⟩
         { tmps:=vs.toArray++Array.replicate (fn.ntmps-vs.toArray.size) undef,defers:=[] }:=by
       refine ⟨?_,TT,fun j hj _=>hμ j hj,rfl⟩
       show bc _ w _ _
       simp only [Array.toList_append,Array.toList_replicate,List.size_toArray,hal]
       refine bc.append hr (bI.2 ⟨by simp,fun j c hj => ?_⟩)
       have wI:j<fn.ntmps-args.length:=by have:=(List.getElem?_eq_some_iff.1 hj).1;simpa using this
       simp only [List.getElem?_replicate,wI,if_true,Option.some.injEq] at hj ⊢
       subst hj
       exact ⟨undef,rfl,by simp only [aT,undef];exact ⟨#[],rfl,by simp [bc]⟩⟩
     refine h c hvb Ir E w _ _ hm ?_
     intro e s' E' w' a' hq had sC
     obtain ⟨he,r0,hr0,Kr⟩:=hq
     obtain ⟨v,rn,y3⟩:=EZ sC Uk hr0
     obtain ⟨E2,abE,RQ,hv3⟩:=Kr Ir E' w' v sC.inv y3 sC.free.self
     have ig:nb Ir p E E2 w w':=had.trans abE
     have aeJ:Adv own E E2 w w' :=
       ⟨ig.step,ig.os,ig.tape,ig.output,ig.size,fun k hk ho=>ig.block k hk fun h=>ho (abL k h),fun b hb=>(ig.XD b hb).imp id (abL b)⟩
     -- a block of the caller that the function did not have
     have key:∀ i bk, σ i=some bk->af.of S i=none->∀ g N cur ty,ye E own w i bk g N cur ty -> ¬ Ir g:=by
       intro i bk hs hn g N cur ty hB
       rintro (⟨x,hx,y,hy,he⟩ | hg)
       . refine hi.inj x.1 i y (g,bk.k,N) (by simp [hS x hx]) (by simp [hs]) ?_ hy hB.μ he
         intro e
         have:=hS x hx
         have h1:(af.of S) x.1≠none:=by
           show S.lookup x.1≠none
           intro hl
           rw [List.lookup_eq_none_iff] at hl
           have:=hl x hx
           simp at this
         rw [e] at h1
         exact h1 hn
       . have:=gH hB.heap;omega
     have fin:∃ v',Ending.returned v = .returned v'/\lJ G own E w σ p r v' E2 w':=by
       refine ⟨v,rfl,aeJ, ?_,hv3,ig.ids⟩
       -- the invariant of the caller's store
       have D3:∀ i,(σ.app r.up i=(af.of S).app r.up i)∨(σ.app r.up i = σ i/\(af.of S i=none)):=by
         intro i
         by_cases h:(∃ x∈r.up,x.1=i) ∨ σ i=af.of S i
         . exact .inl (af.abK r.up σ (af.of S) i h)
         . right
           have h1:∀ x∈r.up,x.1≠i:=fun x hx e=>h (.inl ⟨x,hx,e⟩)
           refine ⟨af.Kq r.up σ i h1, ?_⟩
           rcases Gt i with h2 | h2
           . exact h2
           . exact absurd (.inr h2.symm) h
       have hold:∀ i bk, σ i=some bk->af.of S i=none->∃ g N cur ty,ye E own w i bk g N cur ty/\ye E2 own w' i bk g N cur ty /\ ¬ Ir g:=by
         intro i bk hs hn
         obtain ⟨g,N,cur,ty,hB⟩:=hi.blk i bk hs
         have hno:=key i bk hs hn g N cur ty hB
         refine ⟨g,N,cur,ty,hB,hB.keep ig.step (ig.block g (gH hB.heap) hno) (fun hf ic => ?_),hno⟩
         exact (ig.XD g ic).elim (hB.no hf) hno
       refine ⟨RQ.okb,fun i bk hs => ?_,fun i j x y qk hj' hne hx hy => ?_,RQ.glob,fun k hk=>hi.new k (Nat.le_trans ig.size hk)⟩
       . rcases D3 i with h1 | ⟨h1,h2⟩
         . rw [h1] at hs
           obtain ⟨g,N,cur,ty,hB⟩:=RQ.blk i bk hs
           exact ⟨g,N,cur,ty,hB.μ,hB.heap,hB.size,hB.len,hB.most,abL g hB.own,hB.ok,hB.no,hB.k,hB.row⟩
         . rw [h1] at hs
           obtain ⟨g,N,cur,ty,_,hB,_⟩:=hold i bk hs h2
           exact ⟨g,N,cur,ty,hB⟩
       . have new:∀ i x, σ.app r.up i≠none -> σ.app r.up i=(af.of S).app r.up i->E2.μ i=some x->Ir x.1:=by
           intro i x hn he hx
           rw [he] at hn
           cases hb:(af.of S).app r.up i with
           | none=>exact absurd hb hn
           | some bk =>
             obtain ⟨g,N,cur,ty,hB⟩:=RQ.blk i bk hb
             have:=hB.μ.symm.trans hx
             simp only [Option.some.injEq] at this
             subst this
             exact hB.own
         have old:∀ i x, σ.app r.up i≠none -> σ.app r.up i = σ i->af.of S i=none->E2.μ i=some x -> ¬ Ir x.1:=by
           intro i x hn he hs hx
           rw [he] at hn
           cases hb : σ i with
           | none=>exact absurd hb hn
           | some bk =>
             obtain ⟨g,N,cur,ty,_,hB,hno⟩:=hold i bk hb hs
             have:=hB.μ.symm.trans hx
             simp only [Option.some.injEq] at this
             subst this
             exact hno
         rcases D3 i with h1 | ⟨h1,h2⟩<;>rcases D3 j with h3 | ⟨h3,h4⟩
         . exact RQ.inj i j x y (h1▸qk) (h3▸hj') hne hx hy
         . intro e;exact old j y hj' h3 h4 hy (e▸new i x qk h1 hx)
         . intro e;exact old i x qk h1 h2 hx (e▸new j y hj' h3 hy)
         . have lift:∀ i x, σ.app r.up i≠none -> σ.app r.up i = σ i->af.of S i=none->E2.μ i=some x->E.μ i=some x:=by
             intro i x hn he hs hx
             rw [he] at hn
             cases hb : σ i with
             | none=>exact absurd hb hn
             | some bk =>
               obtain ⟨g,N,cur,ty,hB,PV,hno⟩:=hold i bk hb hs
               rw [hB.μ, <- PV.μ,hx]
           exact hi.inj i j x y (h1▸qk) (h3▸hj') hne (lift i x qk h1 h2 hx) (lift j y hj' h3 h4 hy)
     have aeK:∃ v0,(results fn a'.tmps).run P w' = .ok v0 w'/\∃ v' E',Ending.returned v0 = .returned v'/\lJ G own E w σ p r v' E' w':=by
       obtain ⟨v',h1,h2⟩:=fin
       exact ⟨v,rn,v',E2,h1,h2⟩
     rcases he with rfl | rfl
     . exact ⟨sC.defers,aeK⟩
     . exact ⟨sC.defers,aeK⟩
   . simp at hc
theorem Fin.same {p:Id} {S:List (Id × cZ)} {σ':af} {r0:AV} {r:eS} (hv:r.val=r0) (hs:∀ i,(af.of S).app r.up i=none∨(af.of S).app r.up i = σ' i):Fin G p S σ' r0 r :=
 fun own E w _ hi hr _=>⟨E,nb.refl own p E w,hi.sub hs,hv▸hr⟩
end
end Go.VL
end

section
namespace Go.VL
open Go.RowKit
theorem aZ.UF {P:Program} {G:Nat->Option (List AV)} {f:FuncId} {fn:Func} (hf:P.funcs[f]? = some fn) (sY:(fn.name == "runtime.NumGoroutine")=false) (hb:fn.body.isSome=true) {args:List AV} {p:Id} {S:List (Id × cZ)} {val:AV} {rd:List Id}
   (h:∀ own E w σ vs,(∀ x∈S, σ x.1=some x.2)->Inv G own E w σ -> bc E w args vs->Calls P f vs.toArray w fun e w'=>∃ v,e = .returned v/\Below w.heap.size w w'/\PQ val v) :
   aZ P G f args p S { val,rd }:=by
 refine ⟨⟨fn,hf,sY,hb⟩,fun own E w σ vs hS hi hr _=>(h own E w σ vs hS hi hr).mono fun e w' he => ?_⟩
 obtain ⟨v,rfl,hB,hv⟩:=he
 have ig:Adv own E E w w':=⟨⟨fun _ _ h=>h,fun _ h=>h,fun b hb=>hB.block b (hi.okb b hb)⟩,hB.os,hB.tape,hB.output,hB.size,fun k hk _=>hB.block k hk,fun _ h => .inl h⟩
 refine ⟨v,E,rfl,ig, ?_,hv E w',fun _ _=>rfl⟩
 refine hi.keep ig rfl (fun b hb=>Nat.lt_of_lt_of_le (hi.okb b hb) hB.size) fun id bk g N hs hm => ?_
 obtain ⟨g',N',cur,ty,PV⟩:=hi.blk id bk hs
 rw [PV.μ] at hm
 simp only [Option.some.injEq,Prod.mk.injEq] at hm
 obtain ⟨rfl,_,rfl⟩:=hm
 exact ⟨hB.block _ (gH PV.heap),PV.no⟩
theorem UG {G:Nat->Option (List AV)} {own:Nat->Prop} {E:Env} {w:World} {σ : af} (hi:Inv G own E w σ) {x:AV} {v:Value} (hx:aT E w x v) {k:IntKind} {zs:List Int} {rd:List Id} (h:ga σ 1 x=some (zs.map (AV.int k),rd)) :
   ∃ a cap,v = .slice a zs.length cap/\zs.length<=cap/\(zs=[]∨∃ b o,a=some ⟨b,o,none⟩/\b<w.heap.size/\∀ j,j<zs.length->w.cell? ⟨b,o+j,none⟩=some (.int k (zs[j]?.getD 0))):=by
 obtain ⟨_,a,cap,rfl,hle,hr⟩:=Av hi hx h
 refine ⟨a,cap,by simp,by simpa using hle, ?_⟩
 rcases hr with hr | ⟨b,o,rfl,hr⟩
 . left;simpa using hr
 . cases zs with
   | nil=>exact .inl rfl
   | cons z zs =>
     right
     have Gi:flat ((z::zs).map (AV.int k))=(z::zs).map (AV.int k):=by
       generalize z::zs=l
       induction l with
       | nil=>rfl
       | cons y l ih=>simp only [List.map_cons,flat,List.flatMap_cons,AV.cells] at ih ⊢;rw [ih];rfl
     rw [Gi] at hr
     have hc:∀ j,j<(z::zs).length->w.cell? ⟨b,o+j,none⟩=some (.int k ((z::zs)[j]?.getD 0)):=by
       intro j hj
       obtain ⟨v,h1,h2⟩:=hr j (.int k (z::zs)[j]) (by rw [List.getElem?_map,List.getElem?_eq_getElem hj];rfl)
       simp only [aT] at h2
       subst h2
       rw [h1,List.getElem?_eq_getElem hj];rfl
     refine ⟨b,o,rfl, ?_,hc⟩
     have:=hc 0 (by simp)
     cases hh:w.heap[b]? with
     | none=>simp [World.cell?,hh] at this
     | some ob=>exact (Array.getElem?_eq_some_iff.1 hh).1
end Go.VL
end

section
namespace Go.VL
def cZ.fz (b:cZ):cZ:={ b with fr:=true }
def E6 (S:List (Id × cZ)):List (Id × Option cZ):=S.map fun x=>(x.1,some x.2.fz)
open Classical in
theorem Ks {σ : af} (i:Id):∀ (S:List (Id × cZ)) (σ0:af),(∀ x∈S, σ x.1=some x.2) -> σ0.app (E6 S) i=if ∃ x∈S,x.1=i then (σ i).map cZ.fz else σ0 i
 | [], σ0,_=>by simp [E6,af.app]
 | x :: S, σ0,h=>by
   show af.app (σ0.put x.1 (some x.2.fz)) (E6 S) i=_
   rw [Ks i S _ fun y hy=>h y (List.mem_cons_of_mem _ hy)]
   by_cases h1:∃ y∈S,y.1=i
   . rw [if_pos h1,if_pos]
     obtain ⟨y,hy,e⟩:=h1
     exact ⟨y,List.mem_cons_of_mem _ hy,e⟩
   . rw [if_neg h1]
     by_cases h2:i=x.1
     . subst h2
       rw [if_pos ⟨x,by simp,rfl⟩,h x (by simp),af.dE];rfl
     . rw [if_neg,af.cC _ _ _ h2]
       rintro ⟨y,hy,e⟩
       rcases List.mem_cons.1 hy with rfl | hy
       . exact h2 e.symm
       . exact h1 ⟨y,hy,e⟩
theorem D4 {S:List (Id × cZ)} {σ : af} (hS:∀ x∈S, σ x.1=some x.2) {x:Id × cZ} (hx:x∈S):af.of S x.1=some x.2:=by
 cases hl:S.lookup x.1 with
 | none =>
   rw [List.lookup_eq_none_iff] at hl
   have:=hl x hx
   simp at this
 | some b =>
   have:=hS _ (iq hl)
   rw [hS x hx] at this
   show S.lookup x.1=_
   rw [hl];exact this.symm
section
variable {P:Program} {G:Nat->Option (List AV)}
theorem Inv.j1 {own:Nat->Prop} {E:Env} {w:World} {σ : af} {S:List (Id × cZ)} (hi:Inv G own E w σ) (hS:∀ x∈S, σ x.1=some x.2) :
   Inv G (fun k=>w.heap.size<=k) (E.j1 (af.of S)) w (fun _=>none) where
 okb := by
   rintro b (hb | ⟨id,bk,k,N,hs,hm⟩)
   . exact hi.okb b hb
   . obtain ⟨g,N',cur,ty,hB⟩:=hi.blk id bk (hS _ (iq hs))
     rw [hB.μ] at hm
     simp only [Option.some.injEq,Prod.mk.injEq] at hm
     rw [<- hm.1];exact gH hB.heap
 blk:=fun id bk h=>by simp at h
 inj:=fun i j x y h=>absurd rfl h
 glob:=fun g cs hg=>by
   obtain ⟨h1,h2⟩:=hi.glob g cs hg
   exact ⟨.inl h1,bp.keep (⟨fun _ _ h=>h,fun _ h => .inl h,fun _ _=>rfl⟩:Step E.bare (E.j1 (af.of S)).bare w w) rfl cs 0 h2⟩
 new:=fun k hk=>hk
theorem aZ.Kt {f:FuncId} {args lL:List AV} {r:AV} {p:Id} {S:List (Id × cZ)} (h:VP P G f lL r) (hv:aG (af.of S) args lL) :
   aZ P G f args p S { val:=r,rd:=S.map (·.1),up:=E6 S }:=by
 refine ⟨h.1,fun own E w σ vs hS hi hr hμ => ?_⟩
 have Gp:=hv.uW (hi.sub (af.wL hS)) hr
 refine (h.2 w vs _ (hi.j1 hS) Gp).mono fun e w' he => ?_
 obtain ⟨v,ok',rfl,had,ic,hv'⟩:=he
 have ig:Adv own E ⟨E.μ,ok'⟩ w w':=by
   refine ⟨⟨fun _ _ h=>h,fun b hb=>had.step.ok b (.inl hb),fun b hb=>had.step.same b (.inl hb)⟩,had.os,had.tape,had.output,had.size,fun k hk _=>had.block k hk (by omega),fun b hb => ?_⟩
   rcases had.XD b hb with (h1 | ⟨id,bk,k,N,hs,hm⟩) | h1
   . exact .inl h1
   . obtain ⟨g,N',cur,ty,hB⟩:=hi.blk id bk (hS _ (iq hs))
     rw [hB.μ] at hm
     simp only [Option.some.injEq,Prod.mk.injEq] at hm
     rw [<- hm.1];exact .inr hB.own
   . exact .inr (hi.new b h1)
 refine ⟨v,⟨E.μ,ok'⟩,rfl,ig, ?_,aT.keep (⟨fun _ _ h=>by simp at h,fun _ h=>h,fun _ _=>rfl⟩:Step ⟨fun _=>none,ok'⟩ ⟨E.μ,ok'⟩ w' w') r v hv',fun _ _=>rfl⟩
 have UH:=fun i=>Ks (σ := σ) i S σ hS
 refine ⟨ic,fun id bk hs => ?_,fun i j x y qk hj' hne hx hy => ?_,fun g cs hg => ?_,fun k hk=>hi.new k (Nat.le_trans had.size hk)⟩
 . have eL : σ.app (E6 S) id=some bk:=hs
   rw [UH id] at eL
   split at eL
   . rename_i nk
     obtain ⟨x,hx,rfl⟩:=nk
     rw [hS x hx] at eL
     simp only [Option.map_some,Option.some.injEq] at eL
     subst eL
     obtain ⟨g,N,cur,ty,hB⟩:=hi.blk _ _ (hS x hx)
     have hb:=had.block g (gH hB.heap) (by have:=gH hB.heap;omega)
     exact ⟨g,N,cur,ty,hB.μ,hb.trans hB.heap,hB.size,hB.len,hB.most,hB.own,fun _=>had.step.ok g (.inr ⟨x.1,x.2,x.2.k,N,D4 hS hx,hB.μ⟩),fun hf=>by simp [cZ.fz] at hf,hB.k,eT.keep ig.step hb hB.row⟩
   . rename_i abM
     obtain ⟨g,N,cur,ty,hB⟩:=hi.blk _ _ eL
     have hg:=gH hB.heap
     refine ⟨g,N,cur,ty,hB.keep ig.step (had.block g hg (by omega)) fun hf hb => ?_⟩
     rcases had.XD g hb with (h1 | ⟨Cf,bk2,k2,N2,UI,Cn⟩) | h1
     . exact hB.no hf h1
     . have hm:=iq UI
       refine hi.inj id Cf _ _ (by simp [eL]) (by simp [hS _ hm]) ?_ hB.μ Cn rfl
       rintro rfl
       exact abM ⟨_,hm,rfl⟩
     . omega
 . have keep:∀ i, σ.app (E6 S) i≠none -> σ i≠none:=by
     intro i hn he
     apply hn
     rw [UH i,he]
     split<;>rfl
   exact hi.inj i j x y (keep i qk) (keep j hj') hne hx hy
 . obtain ⟨h1,h2⟩:=hi.glob g cs hg
   exact ⟨ig.step.ok g h1,bp.keep ig.step.bare (ig.step.same g h1) cs 0 h2⟩
theorem aZ.of_flat {f:FuncId} {args lL:List AV} {r:AV} {p:Id} {S:List (Id × cZ)} (h:VP P G f lL r) (hv:aG (af.of S) args lL) (hf:jC r) :
   aZ P G f args p S { val:=r,rd:=S.map (·.1) }:=by
 refine ⟨h.1,fun own E w σ vs hS hi hr hμ => ?_⟩
 have Gp:=hv.uW (hi.sub (af.wL hS)) hr
 refine (h.2 w vs _ (hi.j1 hS) Gp).mono fun e w' he => ?_
 obtain ⟨v,ok',rfl,had,ic,hv'⟩:=he
 have ig:Adv own E E w w':=⟨⟨fun _ _ h=>h,fun b hb=>hb,fun b hb=>had.step.same b (.inl hb)⟩,had.os,had.tape,had.output,had.size,fun k hk _=>had.block k hk (by omega),fun b hb => .inl hb⟩
 refine ⟨v,E,rfl,ig, ?_,hf _ _ _ _ _ hv',fun _ _=>rfl⟩
 refine hi.keep ig rfl (fun b hb=>Nat.lt_of_lt_of_le (hi.okb b hb) had.size) fun id bk g N hs hm => ?_
 obtain ⟨g',N',cur,ty,PV⟩:=hi.blk id bk hs
 rw [PV.μ] at hm
 simp only [Option.some.injEq,Prod.mk.injEq] at hm
 obtain ⟨rfl,_,rfl⟩:=hm
 have hg:=gH PV.heap
 exact ⟨had.block _ hg (by omega),PV.no⟩
def FgV (S:List (Id × cZ)):List AV->List AV->Prop
 | [],[]=>True
 | c::cs,d::ds=>(d = .top∨d=c∨View (af.of S) c d)/\FgV S cs ds
 | _,_=>False
theorem FgV.rep {own:Nat->Prop} {E:Env} {w:World} {S:List (Id × cZ)} (hi:Inv G own E w (af.of S)):∀ {cs ds:List AV} {vs:List Value},FgV S cs ds->bc E w cs vs->bc ⟨E.μ,(E.j1 (af.of S)).ok⟩ w ds vs
 | [],[],_,_,h=>by simpa [bc] using h
 | c::cs,d::ds,vs,hf,h=>by
   simp only [FgV] at hf
   simp only [bc] at h ⊢
   obtain ⟨v,rest,e,h1,h2⟩:=h
   refine ⟨v,rest,e, ?_,FgV.rep hi hf.2 h2⟩
   rcases hf.1 with rfl | rfl | hv
   . simp [aT]
   . exact aT.keep (⟨fun _ _ h=>h,fun _ h => .inl h,fun _ _=>rfl⟩:Step E ⟨E.μ,(E.j1 (af.of S)).ok⟩ w w) _ v h1
   . exact aT.keep (⟨fun _ _ h=>by simp [Env.j1] at h,fun _ h=>h,fun _ _=>rfl⟩:Step (E.j1 (af.of S)) ⟨E.μ,(E.j1 (af.of S)).ok⟩ w w) _ v (hv _ _ _ _ _ hi h1)
 | [],_::_,_,h,_=>by simp [FgV] at h
 | _::_,[],_,h,_=>by simp [FgV] at h
theorem Wk.freeze {π : Id} {t t':List AV} {σ σ':af} {n n':Nat} (S:List (Id × cZ)) (hS:∀ x∈S, σ x.1=some x.2) (ht:FgV S t t')
   (hs:∀ id, σ' id=none ∨ σ' id = σ.app (E6 S) id) (hn:n<=n'):Wk G π ⟨t, σ,n⟩ ⟨t', σ',n'⟩:=fun own E w a hm=>by
 have hi:=hm.inv
 let E':Env:=⟨E.μ,(E.j1 (af.of S)).ok⟩
 have ig:Adv own E E' w w:=by
   refine ⟨⟨fun _ _ h=>h,fun b hb => .inl hb,fun b hb=>rfl⟩,rfl,rfl,rfl,Nat.le_refl _,fun k hk _=>rfl,fun b hb => ?_⟩
   rcases hb with h1 | ⟨id,bk,k,N,hs,hm⟩
   . exact .inl h1
   . obtain ⟨g,N',cur,ty,hB⟩:=hi.blk id bk (hS _ (iq hs))
     rw [hB.μ] at hm
     simp only [Option.some.injEq,Prod.mk.injEq] at hm
     rw [<- hm.1];exact .inr hB.own
 refine ⟨E',⟨ig,fun _ _=>rfl⟩,ht.rep (hi.sub (af.wL hS)) hm.frame, ?_,hm.free.mono hn,hm.defers⟩
 refine Inv.sub (σ := σ.app (E6 S)) ?_ hs
 have UH:=fun i=>Ks (σ := σ) i S σ hS
 refine ⟨(hi.j1 hS).okb,fun id bk hs => ?_,fun i j x y qk hj' hne hx hy => ?_,fun g cs hg => ?_,hi.new⟩
 . have eL : σ.app (E6 S) id=some bk:=hs
   rw [UH id] at eL
   split at eL
   . rename_i nk
     obtain ⟨x,hx,rfl⟩:=nk
     rw [hS x hx] at eL
     simp only [Option.map_some,Option.some.injEq] at eL
     subst eL
     obtain ⟨g,N,cur,ty,hB⟩:=hi.blk _ _ (hS x hx)
     exact ⟨g,N,cur,ty,hB.μ,hB.heap,hB.size,hB.len,hB.most,hB.own,fun _ => .inr ⟨x.1,x.2,x.2.k,N,D4 hS hx,hB.μ⟩,fun hf=>by simp [cZ.fz] at hf,hB.k,eT.keep ig.step rfl hB.row⟩
   . rename_i abM
     obtain ⟨g,N,cur,ty,hB⟩:=hi.blk _ _ eL
     have hg:=gH hB.heap
     refine ⟨g,N,cur,ty,hB.keep ig.step rfl fun hf hb => ?_⟩
     rcases hb with h1 | ⟨Cf,bk2,k2,N2,UI,Cn⟩
     . exact hB.no hf h1
     . have hm:=iq UI
       refine hi.inj id Cf _ _ (by simp [eL]) (by simp [hS _ hm]) ?_ hB.μ Cn rfl
       rintro rfl
       exact abM ⟨_,hm,rfl⟩
 . have keep:∀ i, σ.app (E6 S) i≠none -> σ i≠none:=by
     intro i hn he
     apply hn
     rw [UH i,he]
     split<;>rfl
   exact hi.inj i j x y (keep i qk) (keep j hj') hne hx hy
 . obtain ⟨h1,h2⟩:=hi.glob g cs hg
   exact ⟨ig.step.ok g h1,bp.keep ig.step.bare (ig.step.same g h1) cs 0 h2⟩
end
end Go.VL
end

section
namespace Go.VL
section
variable {P:Program} {G:Nat->Option (List AV)}
theorem VP.Yr {f:FuncId} {args:List AV} {r:eS} (h:aZ P G f args [] [] r) (hf:jC r.val):VP P G f args r.val:=by
 refine ⟨h.1,fun w vs ok hi hr => ?_⟩
 refine (h.2 _ _ w _ vs (by simp) hi hr (fun _ _=>rfl)).mono fun e w' he => ?_
 obtain ⟨v,E',rfl,hp⟩:=he
 refine ⟨v,ok,rfl,⟨⟨fun _ _ h=>h,fun _ h=>h,hp.Ia.step.same⟩,hp.Ia.os,hp.Ia.tape,hp.Ia.output,hp.Ia.size,hp.Ia.block,fun _ h => .inl h⟩,fun b hb => ?_,hf _ _ _ _ _ hp.rep⟩
 exact Nat.lt_of_lt_of_le (hi.okb b hb) hp.Ia.size
end
end Go.VL
end

section
namespace Go.VL
def vw:AV->Bool->Option Bool
 | .bool b,want=>some (b==want)
 | .top,_=>none
 | .anyb,_=>none
 | _,_=>some false
theorem P2 {b want:Bool}:vw (.bool b) want=some (b==want):=(rfl)
theorem UJ {l:List AV} {want:Bool}:vw (.tup l) want=some false:=(rfl)
section
variable (P:Program) (G:Nat->Option (List AV)) (π : Id)
def yf (base:Nat) (Q:bX->VS->Prop) (n:Nat) (d:Option Nat) (os:List bx) (i:Nat) (t:List AV) (σ : af):Option eS->Prop
 | some r=>vs P G π base Q n os (i+1) (gl t d r.val) (σ.app r.up)
 | none=>False
def vsV (base:Nat) (Q:bX->VS->Prop) (n:Nat) (d:Option Nat) (os:List bx) (i:Nat) (t:List AV) (σ : af):Option AV->Prop
 | some v=>vs P G π base Q n os (i+1) (gl t d v) σ
 | none=>False
def vsG (base:Nat) (Q:bX->VS->Prop) (n:Nat) (o:bx) (os:List bx) (i:Nat) (t:List AV) (σ : af):Option Bool->Prop
 | some true=>vs P G π base Q n (⟨o.dst,o.op,none⟩::os) i t σ
 | some false=>vs P G π base Q n os (i+1) (gl t o.dst (.tup [])) σ
 | none=>False
def yg (base:Nat) (Q:bX->VS->Prop) (n:Nat) (ps:List (Nat × Nat)) (d:Option Nat) (os:List bx) (i:Nat) (acc:List eS) (t:List AV) (σ : af):Option eS->Prop
 | some r=>vd P G π base Q n ps os (i+1) (r::acc) (gl t d r.val) (σ.app r.up)
 | none=>False
def vdV (base:Nat) (Q:bX->VS->Prop) (n:Nat) (ps:List (Nat × Nat)) (d:Option Nat) (os:List bx) (i:Nat) (acc:List eS) (t:List AV) (σ : af):Option AV->Prop
 | some v=>vd P G π base Q n ps os (i+1) ({ val:=v }::acc) (gl t d v) σ
 | none=>False
def vdG (base:Nat) (Q:bX->VS->Prop) (n:Nat) (ps:List (Nat × Nat)) (o:bx) (os:List bx) (i:Nat) (acc:List eS) (t:List AV) (σ : af):Option Bool->Prop
 | some true=>vd P G π base Q n ps (⟨o.dst,o.op,none⟩::os) i acc t σ
 | some false=>vd P G π base Q n ps os (i+1) ({ val := .tup [] }::acc) (gl t o.dst (.tup [])) σ
 | none=>False
variable {P} {G} {π}
variable {base:Nat} {Q:bX->VS->Prop} {n:Nat} {ps:List (Nat × Nat)} {d:Option Nat} {os:List bx} {i:Nat} {acc:List eS} {t:List AV} {σ : af}
theorem LR {r:eS}:yf P G π base Q n d os i t σ (some r)=vs P G π base Q n os (i+1) (gl t d r.val) (σ.app r.up):=(rfl)
theorem LS {v:AV}:vsV P G π base Q n d os i t σ (some v)=vs P G π base Q n os (i+1) (gl t d v) σ := (rfl)
theorem LU {r:eS}:yg P G π base Q n ps d os i acc t σ (some r)=vd P G π base Q n ps os (i+1) (r::acc) (gl t d r.val) (σ.app r.up):=(rfl)
theorem LW {v:AV}:vdV P G π base Q n ps d os i acc t σ (some v)=vd P G π base Q n ps os (i+1) ({ val:=v }::acc) (gl t d v) σ := (rfl)
theorem Jn {o:Option AV}:yf P G π base Q n d os i t σ (bz o)=vsV P G π base Q n d os i t σ o:=by cases o<;>rfl
theorem Jo {o:Option AV}:yg P G π base Q n ps d os i acc t σ (bz o)=vdV P G π base Q n ps d os i acc t σ o:=by cases o<;>rfl
theorem LX {o:bx}:vsG P G π base Q n o os i t σ (some true)=vs P G π base Q n (⟨o.dst,o.op,none⟩::os) i t σ := (rfl)
theorem Jp {o:bx}:vsG P G π base Q n o os i t σ (some false)=vs P G π base Q n os (i+1) (gl t o.dst (.tup [])) σ := (rfl)
theorem LY {o:bx}:vdG P G π base Q n ps o os i acc t σ (some true)=vd P G π base Q n ps (⟨o.dst,o.op,none⟩::os) i acc t σ := (rfl)
theorem Jq {o:bx}:vdG P G π base Q n ps o os i acc t σ (some false)=vd P G π base Q n ps os (i+1) ({ val := .tup [] }::acc) (gl t o.dst (.tup [])) σ := (rfl)
theorem GN {j:Nat} {want:Bool}:eY t (some (j,want))=vw (t.getD j (.tup [])) want:=by
 rw [List.getD_eq_getElem?_getD]
 show (match t[j]? with | some (.bool b)=>some (b==want) | some .top | some .anyb=>none | _=>some false)=_
 cases t[j]? with
 | none=>rfl
 | some c=>cases c<;>rfl
theorem Jr {d:Nat} {v:AV}:gl t (some d) v=t.set d v:=(rfl)
theorem Js {v:AV}:gl t none v=t:=(rfl)
theorem aeL {j:Nat}:(a7.t j).ev G t=t.getD j (.tup []):=(rfl)
theorem aeM {a:AV}:(a7.c a).ev G t=a:=(rfl)
theorem aeN {f:Nat}:(a7.f f).ev G t = .fn (.func f) [] []:=(rfl)
theorem P3 : σ.app [] = σ := (rfl)
theorem LZ {x:Id × Option cZ} {l:List (Id × Option cZ)} : σ.app (x::l)=(σ.put x.1 x.2).app l:=(rfl)
theorem sg {op:gB a7} {j:Nat} {want:Bool}:vs P G π base Q n (⟨d,op,some (j,want)⟩::os) i t σ = vsG P G π base Q n ⟨d,op,none⟩ os i t σ (vw (t.getD j (.tup [])) want):=by
 rw [<- GN]
 unfold vs vsG
 simp only [Cq]
 cases eY t (some (j,want)) with
 | none=>rfl
 | some b=>cases b<;>rfl
theorem dg {op:gB a7} {j:Nat} {want:Bool}:vd P G π base Q n ps (⟨d,op,some (j,want)⟩::os) i acc t σ = vdG P G π base Q n ps ⟨d,op,none⟩ os i acc t σ (vw (t.getD j (.tup [])) want):=by
 rw [<- GN]
 unfold vd vdG
 simp only [Cr]
 cases eY t (some (j,want)) with
 | none=>rfl
 | some b=>cases b<;>rfl
theorem dO {op:gB a7} (h:op.tO=false):vs P G π base Q n (⟨d,op,none⟩::os) i t σ = yf P G π base Q n d os i t σ (bO σ ((base+i) :: π) (op.map (a7.ev G t))):=by
 rw [aeH h];unfold Ji;simp only [eY];cases bO σ ((base+i) :: π) (op.map (a7.ev G t))<;>rfl
theorem dP {op:gB a7} (h:op.tO=false):vd P G π base Q n ps (⟨d,op,none⟩::os) i acc t σ = yg P G π base Q n ps d os i acc t σ (bO σ ((base+i) :: π) (op.map (a7.ev G t))):=by
 rw [aeI h];unfold Ji;simp only [eY];cases bO σ ((base+i) :: π) (op.map (a7.ev G t))<;>rfl
theorem aeO {x:a7}:vs P G π base Q n (⟨d, .mv x,none⟩::os) i t σ = yf P G π base Q n d os i t σ (bO σ ((base+i) :: π) (.mv (x.ev G t))):=dO rfl
theorem aeP {x:a7}:vd P G π base Q n ps (⟨d, .mv x,none⟩::os) i acc t σ = yg P G π base Q n ps d os i acc t σ (bO σ ((base+i) :: π) (.mv (x.ev G t))):=dP rfl
theorem UK {c a b:a7}:vs P G π base Q n (⟨d, .pick c a b,none⟩::os) i t σ = yf P G π base Q n d os i t σ (bO σ ((base+i) :: π) (.pick (c.ev G t) (a.ev G t) (b.ev G t))):=dO rfl
theorem UL {c a b:a7}:vd P G π base Q n ps (⟨d, .pick c a b,none⟩::os) i acc t σ = yg P G π base Q n ps d os i acc t σ (bO σ ((base+i) :: π) (.pick (c.ev G t) (a.ev G t) (b.ev G t))):=dP rfl
theorem aar {x:a7}:vs P G π base Q n (⟨d, .box x,none⟩::os) i t σ = yf P G π base Q n d os i t σ (bO σ ((base+i) :: π) (.box (x.ev G t))):=dO rfl
theorem aas {x:a7}:vd P G π base Q n ps (⟨d, .box x,none⟩::os) i acc t σ = yg P G π base Q n ps d os i acc t σ (bO σ ((base+i) :: π) (.box (x.ev G t))):=dP rfl
theorem P4 {z:List AV} {l:List (Nat × Nat × a7)}:vs P G π base Q n (⟨d, .build z l,none⟩::os) i t σ = yf P G π base Q n d os i t σ (bO σ ((base+i) :: π) (.build z (l.map fun p=>(p.1,p.2.1,p.2.2.ev G t)))):=dO rfl
theorem P5 {z:List AV} {l:List (Nat × Nat × a7)}:vd P G π base Q n ps (⟨d, .build z l,none⟩::os) i acc t σ = yg P G π base Q n ps d os i acc t σ (bO σ ((base+i) :: π) (.build z (l.map fun p=>(p.1,p.2.1,p.2.2.ev G t)))):=dP rfl
theorem Jt {k m:Nat} {z:AV} {l:List (Nat × a7)}:vs P G π base Q n (⟨d, .buildSl k m z l,none⟩::os) i t σ = yf P G π base Q n d os i t σ (bO σ ((base+i) :: π) (.buildSl k m z (l.map fun p=>(p.1,p.2.ev G t)))):=dO rfl
theorem Ju {k m:Nat} {z:AV} {l:List (Nat × a7)}:vd P G π base Q n ps (⟨d, .buildSl k m z l,none⟩::os) i acc t σ = yg P G π base Q n ps d os i acc t σ (bO σ ((base+i) :: π) (.buildSl k m z (l.map fun p=>(p.1,p.2.ev G t)))):=dP rfl
theorem UM {a:Bool} {m:Nat} {x:a7}:vs P G π base Q n (⟨d, .load a m x,none⟩::os) i t σ = yf P G π base Q n d os i t σ (bO σ ((base+i) :: π) (.load a m (x.ev G t))):=dO rfl
theorem UN {a:Bool} {m:Nat} {x:a7}:vd P G π base Q n ps (⟨d, .load a m x,none⟩::os) i acc t σ = yg P G π base Q n ps d os i acc t σ (bO σ ((base+i) :: π) (.load a m (x.ev G t))):=dP rfl
theorem P6 {m:Nat} {x v:a7}:vs P G π base Q n (⟨d, .store m x v,none⟩::os) i t σ = yf P G π base Q n d os i t σ (bO σ ((base+i) :: π) (.store m (x.ev G t) (v.ev G t))):=dO rfl
theorem P7 {m:Nat} {x v:a7}:vd P G π base Q n ps (⟨d, .store m x v,none⟩::os) i acc t σ = yg P G π base Q n ps d os i acc t σ (bO σ ((base+i) :: π) (.store m (x.ev G t) (v.ev G t))):=dP rfl
theorem P8 {x:a7}:vs P G π base Q n (⟨d, .nilck x,none⟩::os) i t σ = yf P G π base Q n d os i t σ (bO σ ((base+i) :: π) (.nilck (x.ev G t))):=dO rfl
theorem P9 {x:a7}:vd P G π base Q n ps (⟨d, .nilck x,none⟩::os) i acc t σ = yg P G π base Q n ps d os i acc t σ (bO σ ((base+i) :: π) (.nilck (x.ev G t))):=dP rfl
theorem aat {o:BinOp} {sh:Sh} {x y:a7}:vs P G π base Q n (⟨d, .bin o sh x y,none⟩::os) i t σ = yf P G π base Q n d os i t σ (bO σ ((base+i) :: π) (.bin o sh (x.ev G t) (y.ev G t))):=dO rfl
theorem aau {o:BinOp} {sh:Sh} {x y:a7}:vd P G π base Q n ps (⟨d, .bin o sh x y,none⟩::os) i acc t σ = yg P G π base Q n ps d os i acc t σ (bO σ ((base+i) :: π) (.bin o sh (x.ev G t) (y.ev G t))):=dP rfl
theorem aeQ {o:UnOp} {x:a7}:vs P G π base Q n (⟨d, .un o x,none⟩::os) i t σ = yf P G π base Q n d os i t σ (bO σ ((base+i) :: π) (.un o (x.ev G t))):=dO rfl
theorem aeR {o:UnOp} {x:a7}:vd P G π base Q n ps (⟨d, .un o x,none⟩::os) i acc t σ = yg P G π base Q n ps d os i acc t σ (bO σ ((base+i) :: π) (.un o (x.ev G t))):=dP rfl
theorem Qa {k:IntKind} {x:a7}:vs P G π base Q n (⟨d, .toInt k x,none⟩::os) i t σ = yf P G π base Q n d os i t σ (bO σ ((base+i) :: π) (.toInt k (x.ev G t))):=dO rfl
theorem Qb {k:IntKind} {x:a7}:vd P G π base Q n ps (⟨d, .toInt k x,none⟩::os) i acc t σ = yg P G π base Q n ps d os i acc t σ (bO σ ((base+i) :: π) (.toInt k (x.ev G t))):=dP rfl
theorem Qc {x:a7}:vs P G π base Q n (⟨d, .idStr x,none⟩::os) i t σ = yf P G π base Q n d os i t σ (bO σ ((base+i) :: π) (.idStr (x.ev G t))):=dO rfl
theorem Qd {x:a7}:vd P G π base Q n ps (⟨d, .idStr x,none⟩::os) i acc t σ = yg P G π base Q n ps d os i acc t σ (bO σ ((base+i) :: π) (.idStr (x.ev G t))):=dP rfl
theorem GO {x:a7}:vs P G π base Q n (⟨d, .bytesStr x,none⟩::os) i t σ = yf P G π base Q n d os i t σ (bO σ ((base+i) :: π) (.bytesStr (x.ev G t))):=dO rfl
theorem GQ {x:a7}:vd P G π base Q n ps (⟨d, .bytesStr x,none⟩::os) i acc t σ = yg P G π base Q n ps d os i acc t σ (bO σ ((base+i) :: π) (.bytesStr (x.ev G t))):=dP rfl
theorem aav {x c:a7}:vs P G π base Q n (⟨d, .idx x c,none⟩::os) i t σ = yf P G π base Q n d os i t σ (bO σ ((base+i) :: π) (.idx (x.ev G t) (c.ev G t))):=dO rfl
theorem aaw {x c:a7}:vd P G π base Q n ps (⟨d, .idx x c,none⟩::os) i acc t σ = yg P G π base Q n ps d os i acc t σ (bO σ ((base+i) :: π) (.idx (x.ev G t) (c.ev G t))):=dP rfl
theorem aax {x y:a7}:vs P G π base Q n (⟨d, .ovl x y,none⟩::os) i t σ = yf P G π base Q n d os i t σ (bO σ ((base+i) :: π) (.ovl (x.ev G t) (y.ev G t))):=dO rfl
theorem aay {x y:a7}:vd P G π base Q n ps (⟨d, .ovl x y,none⟩::os) i acc t σ = yg P G π base Q n ps d os i acc t σ (bO σ ((base+i) :: π) (.ovl (x.ev G t) (y.ev G t))):=dP rfl
theorem UO {fn:Fn} {a c:List a7}:vs P G π base Q n (⟨d, .mkfn fn a c,none⟩::os) i t σ = yf P G π base Q n d os i t σ (bO σ ((base+i) :: π) (.mkfn fn (a.map (a7.ev G t)) (c.map (a7.ev G t)))):=dO rfl
theorem UQ {fn:Fn} {a c:List a7}:vd P G π base Q n ps (⟨d, .mkfn fn a c,none⟩::os) i acc t σ = yg P G π base Q n ps d os i acc t σ (bO σ ((base+i) :: π) (.mkfn fn (a.map (a7.ev G t)) (c.map (a7.ev G t)))):=dP rfl
theorem UR {k b:Nat} {z:AV} {l c:a7}:vs P G π base Q n (⟨d, .mksl k b z l c,none⟩::os) i t σ = yf P G π base Q n d os i t σ (bO σ ((base+i) :: π) (.mksl k b z (l.ev G t) (c.ev G t))):=dO rfl
theorem UT {k b:Nat} {z:AV} {l c:a7}:vd P G π base Q n ps (⟨d, .mksl k b z l c,none⟩::os) i acc t σ = yg P G π base Q n ps d os i acc t σ (bO σ ((base+i) :: π) (.mksl k b z (l.ev G t) (c.ev G t))):=dP rfl
theorem Qe {k:Nat} {x:a7} {lo hi mx:Option a7}:vs P G π base Q n (⟨d, .slice k x lo hi mx,none⟩::os) i t σ = yf P G π base Q n d os i t σ (bO σ ((base+i) :: π) (.slice k (x.ev G t) (lo.map (a7.ev G t)) (hi.map (a7.ev G t)) (mx.map (a7.ev G t)))):=dO rfl
theorem Qf {k:Nat} {x:a7} {lo hi mx:Option a7}:vd P G π base Q n ps (⟨d, .slice k x lo hi mx,none⟩::os) i acc t σ = yg P G π base Q n ps d os i acc t σ (bO σ ((base+i) :: π) (.slice k (x.ev G t) (lo.map (a7.ev G t)) (hi.map (a7.ev G t)) (mx.map (a7.ev G t)))):=dP rfl
theorem L0 {x:a7} {lo hi:Option a7}:vs P G π base Q n (⟨d, .sliceS x lo hi,none⟩::os) i t σ = yf P G π base Q n d os i t σ (bO σ ((base+i) :: π) (.sliceS (x.ev G t) (lo.map (a7.ev G t)) (hi.map (a7.ev G t)))):=dO rfl
theorem L1 {x:a7} {lo hi:Option a7}:vd P G π base Q n ps (⟨d, .sliceS x lo hi,none⟩::os) i acc t σ = yg P G π base Q n ps d os i acc t σ (bO σ ((base+i) :: π) (.sliceS (x.ev G t) (lo.map (a7.ev G t)) (hi.map (a7.ev G t)))):=dP rfl
theorem Qg {o:Nat} {x:a7}:vs P G π base Q n (⟨d, .faddr o x,none⟩::os) i t σ = yf P G π base Q n d os i t σ (bO σ ((base+i) :: π) (.faddr o (x.ev G t))):=dO rfl
theorem Qh {o:Nat} {x:a7}:vd P G π base Q n ps (⟨d, .faddr o x,none⟩::os) i acc t σ = yg P G π base Q n ps d os i acc t σ (bO σ ((base+i) :: π) (.faddr o (x.ev G t))):=dP rfl
theorem Qi {a:Bool} {o m:Nat} {x:a7}:vs P G π base Q n (⟨d, .field a o m x,none⟩::os) i t σ = yf P G π base Q n d os i t σ (bO σ ((base+i) :: π) (.field a o m (x.ev G t))):=dO rfl
theorem Qj {a:Bool} {o m:Nat} {x:a7}:vd P G π base Q n ps (⟨d, .field a o m x,none⟩::os) i acc t σ = yg P G π base Q n ps d os i acc t σ (bO σ ((base+i) :: π) (.field a o m (x.ev G t))):=dP rfl
theorem L3 {k:Nat} {x j:a7}:vs P G π base Q n (⟨d, .iaddrS k x j,none⟩::os) i t σ = yf P G π base Q n d os i t σ (bO σ ((base+i) :: π) (.iaddrS k (x.ev G t) (j.ev G t))):=dO rfl
theorem L4 {k:Nat} {x j:a7}:vd P G π base Q n ps (⟨d, .iaddrS k x j,none⟩::os) i acc t σ = yg P G π base Q n ps d os i acc t σ (bO σ ((base+i) :: π) (.iaddrS k (x.ev G t) (j.ev G t))):=dP rfl
theorem L5 {m k:Nat} {x j:a7}:vs P G π base Q n (⟨d, .iaddrA m k x j,none⟩::os) i t σ = yf P G π base Q n d os i t σ (bO σ ((base+i) :: π) (.iaddrA m k (x.ev G t) (j.ev G t))):=dO rfl
theorem L6 {m k:Nat} {x j:a7}:vd P G π base Q n ps (⟨d, .iaddrA m k x j,none⟩::os) i acc t σ = yg P G π base Q n ps d os i acc t σ (bO σ ((base+i) :: π) (.iaddrA m k (x.ev G t) (j.ev G t))):=dP rfl
theorem L8 {x j:a7}:vs P G π base Q n (⟨d, .indexS x j,none⟩::os) i t σ = yf P G π base Q n d os i t σ (bO σ ((base+i) :: π) (.indexS (x.ev G t) (j.ev G t))):=dO rfl
theorem L9 {x j:a7}:vd P G π base Q n ps (⟨d, .indexS x j,none⟩::os) i acc t σ = yg P G π base Q n ps d os i acc t σ (bO σ ((base+i) :: π) (.indexS (x.ev G t) (j.ev G t))):=dP rfl
theorem Ma {a:Bool} {m k:Nat} {x j:a7}:vs P G π base Q n (⟨d, .indexA a m k x j,none⟩::os) i t σ = yf P G π base Q n d os i t σ (bO σ ((base+i) :: π) (.indexA a m k (x.ev G t) (j.ev G t))):=dO rfl
theorem Mb {a:Bool} {m k:Nat} {x j:a7}:vd P G π base Q n ps (⟨d, .indexA a m k x j,none⟩::os) i acc t σ = yg P G π base Q n ps d os i acc t σ (bO σ ((base+i) :: π) (.indexA a m k (x.ev G t) (j.ev G t))):=dP rfl
theorem Jv {x:a7} {j:Nat}:vs P G π base Q n (⟨d, .extract x j,none⟩::os) i t σ = yf P G π base Q n d os i t σ (bO σ ((base+i) :: π) (.extract (x.ev G t) j)):=dO rfl
theorem Jw {x:a7} {j:Nat}:vd P G π base Q n ps (⟨d, .extract x j,none⟩::os) i acc t σ = yg P G π base Q n ps d os i acc t σ (bO σ ((base+i) :: π) (.extract (x.ev G t) j)):=dP rfl
theorem aaz {b:Bool} {x:a7}:vs P G π base Q n (⟨d, .len b x,none⟩::os) i t σ = yf P G π base Q n d os i t σ (bO σ ((base+i) :: π) (.len b (x.ev G t))):=dO rfl
theorem aaA {b:Bool} {x:a7}:vd P G π base Q n ps (⟨d, .len b x,none⟩::os) i acc t σ = yg P G π base Q n ps d os i acc t σ (bO σ ((base+i) :: π) (.len b (x.ev G t))):=dP rfl
theorem UU {m:Nat} {x:a7}:vs P G π base Q n (⟨d, .lenN m x,none⟩::os) i t σ = yf P G π base Q n d os i t σ (bO σ ((base+i) :: π) (.lenN m (x.ev G t))):=dO rfl
theorem UW {m:Nat} {x:a7}:vd P G π base Q n ps (⟨d, .lenN m x,none⟩::os) i acc t σ = yg P G π base Q n ps d os i acc t σ (bO σ ((base+i) :: π) (.lenN m (x.ev G t))):=dP rfl
theorem Mc {k b:Nat} {s x:a7}:vs P G π base Q n (⟨d, .append k b s x,none⟩::os) i t σ = yf P G π base Q n d os i t σ (bO σ ((base+i) :: π) (.append k b (s.ev G t) (x.ev G t))):=dO rfl
theorem Md {k b:Nat} {s x:a7}:vd P G π base Q n ps (⟨d, .append k b s x,none⟩::os) i acc t σ = yg P G π base Q n ps d os i acc t σ (bO σ ((base+i) :: π) (.append k b (s.ev G t) (x.ev G t))):=dP rfl
theorem aaB {x y:a7}:vs P G π base Q n (⟨d, .min x y,none⟩::os) i t σ = yf P G π base Q n d os i t σ (bO σ ((base+i) :: π) (.min (x.ev G t) (y.ev G t))):=dO rfl
theorem aaC {x y:a7}:vd P G π base Q n ps (⟨d, .min x y,none⟩::os) i acc t σ = yg P G π base Q n ps d os i acc t σ (bO σ ((base+i) :: π) (.min (x.ev G t) (y.ev G t))):=dP rfl
theorem aaD {x y:a7}:vs P G π base Q n (⟨d, .max x y,none⟩::os) i t σ = yf P G π base Q n d os i t σ (bO σ ((base+i) :: π) (.max (x.ev G t) (y.ev G t))):=dO rfl
theorem aaE {x y:a7}:vd P G π base Q n ps (⟨d, .max x y,none⟩::os) i acc t σ = yg P G π base Q n ps d os i acc t σ (bO σ ((base+i) :: π) (.max (x.ev G t) (y.ev G t))):=dP rfl
theorem aaF {x:a7}:vs P G π base Q n (⟨d, .cap x,none⟩::os) i t σ = yf P G π base Q n d os i t σ (bO σ ((base+i) :: π) (.cap (x.ev G t))):=dO rfl
theorem aaG {x:a7}:vd P G π base Q n ps (⟨d, .cap x,none⟩::os) i acc t σ = yg P G π base Q n ps d os i acc t σ (bO σ ((base+i) :: π) (.cap (x.ev G t))):=dP rfl
theorem Qk {k:Nat} {z:AV} {x:a7}:vs P G π base Q n (⟨d, .clear k z x,none⟩::os) i t σ = yf P G π base Q n d os i t σ (bO σ ((base+i) :: π) (.clear k z (x.ev G t))):=dO rfl
theorem Ql {k:Nat} {z:AV} {x:a7}:vd P G π base Q n ps (⟨d, .clear k z x,none⟩::os) i acc t σ = yg P G π base Q n ps d os i acc t σ (bO σ ((base+i) :: π) (.clear k z (x.ev G t))):=dP rfl
theorem UX {k:Nat} {e x:a7}:vs P G π base Q n (⟨d, .copy k e x,none⟩::os) i t σ = yf P G π base Q n d os i t σ (bO σ ((base+i) :: π) (.copy k (e.ev G t) (x.ev G t))):=dO rfl
theorem UY {k:Nat} {e x:a7}:vd P G π base Q n ps (⟨d, .copy k e x,none⟩::os) i acc t σ = yg P G π base Q n ps d os i acc t σ (bO σ ((base+i) :: π) (.copy k (e.ev G t) (x.ev G t))):=dP rfl
theorem UZ {k b:Nat} {z:AV} {s m:a7}:vs P G π base Q n (⟨d, .appz k b z s m,none⟩::os) i t σ = yf P G π base Q n d os i t σ (bO σ ((base+i) :: π) (.appz k b z (s.ev G t) (m.ev G t))):=dO rfl
theorem U0 {k b:Nat} {z:AV} {s m:a7}:vd P G π base Q n ps (⟨d, .appz k b z s m,none⟩::os) i acc t σ = yg P G π base Q n ps d os i acc t σ (bO σ ((base+i) :: π) (.appz k b z (s.ev G t) (m.ev G t))):=dP rfl
theorem s_call {f:a7} {l:List a7}:vs P G π base Q n (⟨d, .call f l,none⟩::os) i t σ = PY P G π base Q n d os i t σ (some true) (f.ev G t) (l.map (a7.ev G t)):=Yp
theorem U1 {f:a7} {l:List a7}:vd P G π base Q n ps (⟨d, .call f l,none⟩::os) i acc t σ = PZ P G π base Q n ps d os i acc t σ (some true) (f.ev G t) (l.map (a7.ev G t)):=Yq
end
section
variable {σ : af} {p:Id}
theorem U2 {x:AV}:bO σ p (.mv x)=bz (some x):=(rfl)
theorem Me {b:Bool} {x y:AV}:bO σ p (.pick (.bool b) x y)=bz (some (if b then x else y)):=(rfl)
theorem Qm {x:AV}:bO σ p (.box x)=if x.cells.all AV.one=true then some { val := .ref p 0 0,up:=[(p,some ⟨[x],x.size,false⟩)] } else none:=(rfl)
theorem Jy {z:List AV} {l:List (Nat × Nat × AV)}:bO σ p (.build z l)=bz ((jq z l).map .agg):=(rfl)
theorem zf {k n:Nat} {z:AV} {ps:List (Nat × AV)}:bO σ p (.buildSl k n z ps)=(match kN k (List.replicate n z) ps with
   | some es=>if z.size=k/\z.cells.all AV.one=true then (if n=0 then some { val := .tsl k [] } else some { val := .osl p k 0 n false,up:=[(p,some ⟨es,k,false⟩)] }) else none
   | none=>none):=(rfl)
theorem Mf {a:Bool} {n:Nat} {x:AV}:bO σ p (.load a n x)=kM σ a n x:=(rfl)
theorem Jz {n:Nat} {x v:AV}:bO σ p (.store n x v)=fD σ n x v:=(rfl)
theorem Qn {o:BinOp} {sh:Sh} {x y:AV}:bO σ p (.bin o sh x y)=bz (bR o sh x y):=(rfl)
theorem U3 {o:UnOp} {x:AV}:bO σ p (.un o x)=bz (vun o x):=(rfl)
theorem JA {k k':IntKind} {n:Int}:bO σ p (.toInt k (.int k' n))=bz (some (.int k (k.wrap n))):=(rfl)
theorem JB {s:List UInt8}:bO σ p (.idStr (.str s))=bz (some (.str s)):=(rfl)
theorem Cx {x:AV}:bO σ p (.bytesStr x)=rj σ x:=(rfl)
theorem Mg {fn:Fn} {a c:List AV}:bO σ p (.mkfn fn a c)=bz (some (.fn fn a c)):=(rfl)
theorem Mh {k b:Nat} {z l c:AV}:bO σ p (.mksl k b z l c)=jr p k b z l c:=(rfl)
theorem JC {k:Nat} {x:AV} {lo hi mx:Option AV}:bO σ p (.slice k x lo hi mx)=pZ σ k x lo hi mx (ek k x lo hi mx):=(rfl)
theorem Cy {k:Nat} {x:AV} {lo hi mx:Option AV} {v:AV}:pZ σ k x lo hi mx (some v)=bz (some v):=(rfl)
theorem GR {x:AV} {lo hi:Option AV}:bO σ p (.sliceS x lo hi)=bz (FY x lo hi):=(rfl)
theorem A9 {o:Nat} {id:Id} {e q:Nat}:bO σ p (.faddr o (.ref id e q))=bz (some (.ref id e (q+o))):=(rfl)
theorem Cz {o:Nat} {cs:List AV} {q:Nat}:bO σ p (.faddr o (.ep cs q))=bz (some (.ep cs (q+o))):=(rfl)
theorem JD {a:Bool} {o n:Nat} {cs:List AV}:bO σ p (.field a o n (.agg cs))=bz (part a cs o n):=(rfl)
theorem GU {k:Nat} {x i:AV}:bO σ p (.iaddrS k x i)=bz (cx k x i):=(rfl)
theorem GV {n k:Nat} {x i:AV}:bO σ p (.iaddrA n k x i)=bz (oi n k x i):=(rfl)
theorem Br {s:List UInt8} {k:IntKind} {i:Int}:bO σ p (.indexS (.str s) (.int k i))=if 0<=i then bz ((s[i.toNat]?).map fun b => .int .u8 b.toNat) else none:=(rfl)
theorem GX {a:Bool} {n k:Nat} {cs:List AV} {k':IntKind} {i:Int}:bO σ p (.indexA a n k (.agg cs) (.int k' i))=if 0<=i/\i<n then bz (part a cs (i.toNat*k) k) else none:=(rfl)
theorem E7 {l:List AV} {i:Nat}:bO σ p (.extract (.tup l) i)=bz l[i]? := (rfl)
theorem Qo {b:Bool} {x:AV}:bO σ p (.len b x)=bz (qS b x):=(rfl)
theorem Mi {n:Nat} {x:AV}:bO σ p (.lenN n x)=bz (some (.int .i64 n)):=(rfl)
theorem GY {k b:Nat} {s x:AV}:bO σ p (.append k b s x)=eu σ p k b s x:=(rfl)
theorem Qp {k k':IntKind} {a b:Int}:bO σ p (.min (.int k a) (.int k' b))=bz (some (.int k (if b<a then b else a))):=(rfl)
theorem Qq {k k':IntKind} {a b:Int}:bO σ p (.max (.int k a) (.int k' b))=bz (some (.int k (if b>a then b else a))):=(rfl)
theorem Qr {x:AV}:bO σ p (.cap x)=Gk σ x (T6 x):=(rfl)
theorem GZ {x v:AV}:Gk σ x (some v)=bz (some v):=(rfl)
theorem Qs {x c:AV}:bO σ p (.idx x c)=bz (T7 x c):=(rfl)
theorem Mj {s:List UInt8} {c:Int}:T7 (.str s) (.int .u8 c)=some (.int .i64 (sX s c.toNat.toUInt8)):=(rfl)
theorem Qt {x y:AV}:bO σ p (.ovl x y)=RF σ x y:=(rfl)
theorem JE {k:Nat} {z x:AV}:bO σ p (.clear k z x)=Gj σ k z x:=(rfl)
theorem Mk {k:Nat} {d x:AV}:bO σ p (.copy k d x)=Lu σ k d x:=(rfl)
theorem Ml {k b:Nat} {z s n:AV}:bO σ p (.appz k b z s n)=I0 p k b z s n:=(rfl)
theorem Ba {id:Id} {e o:Nat}:bO σ p (.nilck (.ref id e o))=bz (some (.ref id e o)):=(rfl)
theorem CA {cs:List AV} {o:Nat}:bO σ p (.nilck (.ep cs o))=bz (some (.ep cs o)):=(rfl)
theorem CB {f:FuncId} {a c:List AV}:bO σ p (.nilck (.fn (.func f) a c))=bz (some (.fn (.func f) a c)):=(rfl)
theorem Ku {k:IntKind} {a b:Int}:bR .add .int (.int k a) (.int k b)=some (.int k (k.wrap (a+b))):=by simp only [bR];rw [show m9 .add .int (.int k a) (.int k b)=some (.int k (k.wrap (a+b))) from by simp [m9,wG]]
theorem Qu {k:IntKind} {a b:Int}:bR .sub .int (.int k a) (.int k b)=some (.int k (k.wrap (a-b))):=by simp only [bR];rw [show m9 .sub .int (.int k a) (.int k b)=some (.int k (k.wrap (a-b))) from by simp [m9,wG]]
theorem Qv {k:IntKind} {a b:Int}:bR .mul .int (.int k a) (.int k b)=some (.int k (k.wrap (a*b))):=by simp only [bR];rw [show m9 .mul .int (.int k a) (.int k b)=some (.int k (k.wrap (a*b))) from by simp [m9,wG]]
theorem Kv {k:IntKind} {a b:Int} (h:b≠0):bR .quo .int (.int k a) (.int k b)=some (.int k (k.wrap (a.tdiv b))):=by simp only [bR];rw [show m9 .quo .int (.int k a) (.int k b)=some (.int k (k.wrap (a.tdiv b))) from by simp [m9,wG,h]]
theorem Qw {k:IntKind} {a b:Int} (h:b≠0):bR .rem .int (.int k a) (.int k b)=some (.int k (a.tmod b)):=by simp only [bR];rw [show m9 .rem .int (.int k a) (.int k b)=some (.int k (a.tmod b)) from by simp [m9,wG,h]]
theorem Qx {k:IntKind} {a b:Int}:bR .eql .int (.int k a) (.int k b)=some (.bool (decide (a=b))):=by simp only [bR];rw [show m9 .eql .int (.int k a) (.int k b)=some (.bool (decide (a=b))) from by simp only [m9,wG,or_true,if_true];rfl]
theorem Qy {k:IntKind} {a b:Int}:bR .neq .int (.int k a) (.int k b)=some (.bool (decide (a≠b))):=by simp only [bR];rw [show m9 .neq .int (.int k a) (.int k b)=some (.bool (decide (a≠b))) from by simp [m9,wG,bne,Int.instDecidableEq];rfl]
theorem Qz {k:IntKind} {a b:Int}:bR .lss .int (.int k a) (.int k b)=some (.bool (decide (a<b))):=by simp only [bR];rw [show m9 .lss .int (.int k a) (.int k b)=some (.bool (decide (a<b))) from by simp [m9,wG]]
theorem QA {k:IntKind} {a b:Int}:bR .leq .int (.int k a) (.int k b)=some (.bool (decide (a<=b))):=by simp only [bR];rw [show m9 .leq .int (.int k a) (.int k b)=some (.bool (decide (a<=b))) from by simp [m9,wG]]
theorem QB {k:IntKind} {a b:Int}:bR .gtr .int (.int k a) (.int k b)=some (.bool (decide (b<a))):=by simp only [bR];rw [show m9 .gtr .int (.int k a) (.int k b)=some (.bool (decide (b<a))) from by simp [m9,wG]]
theorem QC {k:IntKind} {a b:Int}:bR .geq .int (.int k a) (.int k b)=some (.bool (decide (b<=a))):=by simp only [bR];rw [show m9 .geq .int (.int k a) (.int k b)=some (.bool (decide (b<=a))) from by simp [m9,wG]]
theorem QD {k k':IntKind} {a b:Int} (h:0<=b):bR .shl .int (.int k a) (.int k' b)=some (.int k (k.wrap (a*2 ^ (min b.toNat k.bits)))):=by simp only [bR];rw [show m9 .shl .int (.int k a) (.int k' b)=some (.int k (k.wrap (a*2 ^ (min b.toNat k.bits)))) from by simp [m9,wG,Int.not_lt.2 h]]
theorem s7 {k k':IntKind} {a b:Int} (h:0<=b):bR .shr .int (.int k a) (.int k' b)=some (.int k (a.fdiv (2 ^ (min b.toNat k.bits)))):=by simp only [bR];rw [show m9 .shr .int (.int k a) (.int k' b)=some (.int k (a.fdiv (2 ^ (min b.toNat k.bits)))) from by simp [m9,wG,Int.not_lt.2 h]]
theorem E8 {a b:List UInt8}:bR .eql .str (.str a) (.str b)=some (.bool (a==b)):=(rfl)
theorem E9 {a b:List UInt8}:bR .neq .str (.str a) (.str b)=some (.bool !(a==b)):=(rfl)
theorem CD {a b:Bool}:bR .eql .bool (.bool a) (.bool b)=some (.bool (a==b)):=(rfl)
theorem CE {a b:Bool}:bR .neq .bool (.bool a) (.bool b)=some (.bool !(a==b)):=(rfl)
theorem Mm {k:Nat}:bR .eql .slice (.sl k []) .nils=some .anyb:=(rfl)
theorem Mn {k:Nat} {e:AV} {es:List AV}:bR .eql .slice (.sl k (e::es)) .nils=some (.bool false):=(rfl)
theorem Mo {id:Id} {k o l:Nat} {t:Bool}:bR .eql .slice (.osl id k o l t) .nils=some (.bool false):=(rfl)
theorem Mp:bR .eql .slice .nils .nils=some (.bool true):=(rfl)
theorem Mq {id:Id} {e o:Nat}:bR .eql .ptr (.ref id e o) .nilp=some (.bool false):=(rfl)
theorem U4 {a:Bool}:vun .not (.bool a)=some (.bool !a):=(rfl)
theorem U5 {k:IntKind} {a:Int}:vun .neg (.int k a)=some (.int k (k.wrap (0-a))):=(rfl)
theorem Mr:qS false .nils=some (.int .i64 0):=(rfl)
theorem U6 {k:Nat} {es:List AV}:qS false (.sl k es)=some (.int .i64 es.length):=(rfl)
theorem QE {k:Nat} {es:List AV}:qS false (.tsl k es)=some (.int .i64 es.length):=(rfl)
theorem QF {id:Id} {k o l:Nat} {b:Bool}:qS false (.osl id k o l b)=some (.int .i64 l):=(rfl)
theorem QG {s:List UInt8}:qS true (.str s)=some (.int .i64 s.length):=(rfl)
end
end Go.VL
end

section
namespace Go.VL
abbrev oM (d x:Nat):bx:=⟨some d, .mv (.t x),none⟩
abbrev oI (d:Nat) (z:Int):bx:=⟨some d, .mv (.c (.int .i64 z)),none⟩
abbrev oB (d:Nat) (b:Bool):bx:=⟨some d, .mv (.c (.bool b)),none⟩
abbrev oZ (d:Nat):bx:=⟨some d, .mv (.c .nils),none⟩
abbrev oL (d n x:Nat):bx:=⟨some d, .load false n (.t x),none⟩
abbrev aK (d n x:Nat):bx:=⟨some d, .load true n (.t x),none⟩
abbrev oF (d o x:Nat):bx:=⟨some d, .faddr o (.t x),none⟩
abbrev oA (d n x y:Nat):bx:=⟨some d, .iaddrS n (.t x) (.t y),none⟩
abbrev oN (d x:Nat):bx:=⟨some d, .len false (.t x),none⟩
abbrev oS (n x y:Nat):bx:=⟨none, .store n (.t x) (.t y),none⟩
abbrev oX (d x:Nat):bx:=⟨some d, .box (.t x),none⟩
abbrev oE (d x j:Nat):bx:=⟨some d, .extract (.t x) j,none⟩
abbrev sx (d x:Nat):bx:=⟨some d, .un .not (.t x),none⟩
abbrev pn (d x:Nat):bx:=⟨some d, .nilck (.t x),none⟩
abbrev oo (d x y:Nat):bx:=⟨some d, .pick (.t x) (.t y) (.c (.bool false)),none⟩
abbrev yh (d x y:Nat):bx:=⟨some d, .pick (.t x) (.c (.bool true)) (.t y),none⟩
abbrev oC (d f x:Nat):bx:=⟨some d, .call (.f f) [.t x],none⟩
abbrev bf (d f x y:Nat):bx:=⟨some d, .call (.f f) [.t x, .t y],none⟩
abbrev oK (d:Nat) (k:IntKind) (x:Nat):bx:=⟨some d, .toInt k (.t x),none⟩
abbrev yZ (d k b x y:Nat):bx:=⟨some d, .append k b (.t x) (.t y),none⟩
abbrev oT (d:Nat) (o:BinOp) (x y:Nat):bx:=⟨some d, .bin o .int (.t x) (.t y),none⟩
abbrev bn (d:Nat) (o:BinOp) (x:Nat) (z:Int):bx:=⟨some d, .bin o .int (.t x) (.c (.int .i64 z)),none⟩
abbrev gM (d x g:Nat) (b:Bool):bx:=⟨some d, .mv (.t x),some (g,b)⟩
abbrev gL (d n x g:Nat) (b:Bool):bx:=⟨some d, .load false n (.t x),some (g,b)⟩
abbrev yi (d n x g:Nat) (b:Bool):bx:=⟨some d, .load true n (.t x),some (g,b)⟩
abbrev gF (d o x g:Nat) (b:Bool):bx:=⟨some d, .faddr o (.t x),some (g,b)⟩
abbrev gN (d x g:Nat) (b:Bool):bx:=⟨some d, .len false (.t x),some (g,b)⟩
abbrev gT (d:Nat) (o:BinOp) (x y g:Nat) (b:Bool):bx:=⟨some d, .bin o .int (.t x) (.t y),some (g,b)⟩
abbrev cS (l:List bx) (c:cy):cy := .seq (.reg none l) c
abbrev cR (l:List bx):cy := .reg none l
end Go.VL
end

section
namespace Go.VL
theorem SS:(((((((type_of% @LO)/\(type_of% @P0))/\((type_of% @GK)/\((type_of% @LP)/\(type_of% @GJ))))/\(((type_of% @E4)/\(type_of% @Jj))/\((type_of% @Jk)/\((type_of% @LQ)/\(type_of% @P1)))))/\((((type_of% @ze)/\(type_of% @Jh))/\((type_of% @LK)/\((type_of% @EX)/\(type_of% @D1))))/\(((type_of% @LL)/\(type_of% @Cw))/\((type_of% @GM)/\((type_of% @Jm)/\(type_of% @UD))))))/\(((((type_of% @aeO)/\(type_of% @UK))/\((type_of% @aar)/\((type_of% @P4)/\(type_of% @Jt))))/\(((type_of% @UM)/\(type_of% @P6))/\((type_of% @P8)/\((type_of% @aat)/\(type_of% @aeQ)))))/\((((type_of% @Qa)/\(type_of% @Qc))/\((type_of% @GO)/\((type_of% @aav)/\(type_of% @aax))))/\(((type_of% @UO)/\(type_of% @UR))/\((type_of% @Qe)/\((type_of% @L0)/\(type_of% @Qg)))))))/\((((((type_of% @Qi)/\(type_of% @L3))/\((type_of% @L5)/\((type_of% @L8)/\(type_of% @Ma))))/\(((type_of% @Jv)/\(type_of% @aaz))/\((type_of% @UU)/\((type_of% @Mc)/\(type_of% @aaB)))))/\((((type_of% @aaD)/\(type_of% @aaF))/\((type_of% @Qk)/\((type_of% @UX)/\(type_of% @UZ))))/\(((type_of% @s_call)/\(type_of% @sg))/\((type_of% @LR)/\((type_of% @LS)/\(type_of% @Jn))))))/\(((((type_of% @LX)/\(type_of% @Jp))/\((type_of% @P2)/\((type_of% @UJ)/\(type_of% @Jr))))/\(((type_of% @Js)/\(type_of% @aeL))/\((type_of% @aeM)/\((type_of% @aeN)/\(type_of% @P3)))))/\((((type_of% @LZ)/\(type_of% @U2))/\((type_of% @Me)/\((type_of% @Qm)/\(type_of% @Jy))))/\(((type_of% @Mf)/\((type_of% @Jz)/\(type_of% @Qn)))/\((type_of% @U3)/\((type_of% @JA)/\(type_of% @JB))))))))/\(((((((type_of% @Cx)/\(type_of% @Qs))/\((type_of% @Qt)/\((type_of% @Mg)/\(type_of% @Mh))))/\(((type_of% @JC)/\(type_of% @GR))/\((type_of% @A9)/\((type_of% @Cz)/\(type_of% @JD)))))/\((((type_of% @GU)/\(type_of% @GV))/\((type_of% @Br)/\((type_of% @GX)/\(type_of% @E7))))/\(((type_of% @Qo)/\(type_of% @Mi))/\((type_of% @GY)/\((type_of% @Qp)/\(type_of% @Qq))))))/\(((((type_of% @Qr)/\(type_of% @JE))/\((type_of% @Mk)/\((type_of% @Ml)/\(type_of% @Ba))))/\(((type_of% @CA)/\(type_of% @CB))/\((type_of% @Ku)/\((type_of% @Qu)/\(type_of% @Qv)))))/\((((type_of% @Qx)/\(type_of% @Qy))/\((type_of% @Qz)/\((type_of% @QA)/\(type_of% @QB))))/\(((type_of% @QC)/\((type_of% @E8)/\(type_of% @E9)))/\((type_of% @CD)/\((type_of% @CE)/\(type_of% @Mm)))))))/\((((((type_of% @Mn)/\(type_of% @Mo))/\((type_of% @Mp)/\((type_of% @Mq)/\(type_of% @Cy))))/\(((type_of% @GZ)/\(type_of% @Mj))/\((type_of% @U4)/\((type_of% @U5)/\(type_of% @Mr)))))/\((((type_of% @U6)/\(type_of% @QE))/\((type_of% @QF)/\((type_of% @QG)/\(type_of% @List.getD_cons_zero.{0}))))/\(((type_of% @List.getD_cons_succ.{0})/\(type_of% @List.set_cons_zero.{0}))/\((type_of% @List.set_cons_succ.{0})/\((type_of% @List.map_cons.{0,0})/\(type_of% @List.map_nil.{0,0}))))))/\(((((type_of% @Option.map_some.{0,0})/\(type_of% @Option.map_none.{0,0}))/\((type_of% @List.length_cons.{0})/\((type_of% @List.length_nil.{0})/\(type_of% @beq_self_eq_true.{0}))))/\(((type_of% @if_true.{1})/\(type_of% @if_false.{1}))/\((type_of% @GH)/\((type_of% @List.append_nil.{0})/\(type_of% @List.nil_append.{0})))))/\((((type_of% @List.cons_append.{0})/\(type_of% @Bool.true_beq))/\((type_of% @Bool.false_beq)/\((type_of% @beq_true)/\(type_of% @beq_false))))/\(((type_of% @Bool.not_true)/\((type_of% @Bool.not_false)/\(type_of% @Nat.zero_add)))/\((type_of% @Bool.false_eq_true)/\((type_of% @List.replicate_succ.{0})/\(type_of% @List.replicate_zero.{0})))))))) :=
 ⟨⟨⟨⟨⟨⟨⟨@LO, @P0⟩,⟨@GK,⟨@LP, @GJ⟩⟩⟩,⟨⟨@E4, @Jj⟩,⟨@Jk,⟨@LQ, @P1⟩⟩⟩⟩,⟨⟨⟨@ze, @Jh⟩,⟨@LK,⟨@EX, @D1⟩⟩⟩,⟨⟨@LL, @Cw⟩,⟨@GM,⟨@Jm, @UD⟩⟩⟩⟩⟩,⟨⟨⟨⟨@aeO, @UK⟩,⟨@aar,⟨@P4, @Jt⟩⟩⟩,⟨⟨@UM, @P6⟩,⟨@P8,⟨@aat, @aeQ⟩⟩⟩⟩,⟨⟨⟨@Qa, @Qc⟩,⟨@GO,⟨@aav, @aax⟩⟩⟩,⟨⟨@UO, @UR⟩,⟨@Qe,⟨@L0, @Qg⟩⟩⟩⟩⟩⟩,⟨⟨⟨⟨⟨@Qi, @L3⟩,⟨@L5,⟨@L8, @Ma⟩⟩⟩,⟨⟨@Jv, @aaz⟩,⟨@UU,⟨@Mc, @aaB⟩⟩⟩⟩,⟨⟨⟨@aaD, @aaF⟩,⟨@Qk,⟨@UX, @UZ⟩⟩⟩,⟨⟨@s_call, @sg⟩,⟨@LR,⟨@LS, @Jn⟩⟩⟩⟩⟩,⟨⟨⟨⟨@LX, @Jp⟩,⟨@P2,⟨@UJ, @Jr⟩⟩⟩,⟨⟨@Js, @aeL⟩,⟨@aeM,⟨@aeN, @P3⟩⟩⟩⟩,⟨⟨⟨@LZ, @U2⟩,⟨@Me,⟨@Qm, @Jy⟩⟩⟩,⟨⟨@Mf,⟨@Jz, @Qn⟩⟩,⟨@U3,⟨@JA, @JB⟩⟩⟩⟩⟩⟩⟩,⟨⟨⟨⟨⟨⟨@Cx, @Qs⟩,⟨@Qt,⟨@Mg, @Mh⟩⟩⟩,⟨⟨@JC, @GR⟩,⟨@A9,⟨@Cz, @JD⟩⟩⟩⟩,⟨⟨⟨@GU, @GV⟩,⟨@Br,⟨@GX, @E7⟩⟩⟩,⟨⟨@Qo, @Mi⟩,⟨@GY,⟨@Qp, @Qq⟩⟩⟩⟩⟩,⟨⟨⟨⟨@Qr, @JE⟩,⟨@Mk,⟨@Ml, @Ba⟩⟩⟩,⟨⟨@CA, @CB⟩,⟨@Ku,⟨@Qu, @Qv⟩⟩⟩⟩,⟨⟨⟨@Qx, @Qy⟩,⟨@Qz,⟨@QA, @QB⟩⟩⟩,⟨⟨@QC,⟨@E8, @E9⟩⟩,⟨@CD,⟨@CE, @Mm⟩⟩⟩⟩⟩⟩,⟨⟨⟨⟨⟨@Mn, @Mo⟩,⟨@Mp,⟨@Mq, @Cy⟩⟩⟩,⟨⟨@GZ, @Mj⟩,⟨@U4,⟨@U5, @Mr⟩⟩⟩⟩,⟨⟨⟨@U6, @QE⟩,⟨@QF,⟨@QG, @List.getD_cons_zero.{0}⟩⟩⟩,⟨⟨@List.getD_cons_succ.{0}, @List.set_cons_zero.{0}⟩,⟨@List.set_cons_succ.{0},⟨@List.map_cons.{0,0}, @List.map_nil.{0,0}⟩⟩⟩⟩⟩,⟨⟨⟨⟨@Option.map_some.{0,0}, @Option.map_none.{0,0}⟩,⟨@List.length_cons.{0},⟨@List.length_nil.{0}, @beq_self_eq_true.{0}⟩⟩⟩,⟨⟨@if_true.{1}, @if_false.{1}⟩,⟨@GH,⟨@List.append_nil.{0}, @List.nil_append.{0}⟩⟩⟩⟩,⟨⟨⟨@List.cons_append.{0}, @Bool.true_beq⟩,⟨@Bool.false_beq,⟨@beq_true, @beq_false⟩⟩⟩,⟨⟨@Bool.not_true,⟨@Bool.not_false, @Nat.zero_add⟩⟩,⟨@Bool.false_eq_true,⟨@List.replicate_succ.{0}, @List.replicate_zero.{0}⟩⟩⟩⟩⟩⟩⟩⟩
theorem DD:(((((type_of% @GL)/\(type_of% @UE))/\((type_of% @aeP)/\((type_of% @UL)/\(type_of% @aas))))/\(((type_of% @P5)/\((type_of% @Ju)/\(type_of% @UN)))/\((type_of% @P7)/\((type_of% @P9)/\(type_of% @aau)))))/\((((type_of% @aeR)/\(type_of% @Qb))/\((type_of% @Qd)/\((type_of% @GQ)/\(type_of% @aaw))))/\(((type_of% @aay)/\((type_of% @UQ)/\(type_of% @UT)))/\((type_of% @Qf)/\((type_of% @L1)/\(type_of% @Qh))))))/\(((((type_of% @Qj)/\(type_of% @L4))/\((type_of% @L6)/\((type_of% @L9)/\(type_of% @Mb))))/\(((type_of% @Jw)/\((type_of% @aaA)/\(type_of% @UW)))/\((type_of% @Md)/\((type_of% @aaC)/\(type_of% @aaE)))))/\((((type_of% @aaG)/\((type_of% @Ql)/\(type_of% @UY)))/\((type_of% @U0)/\((type_of% @U1)/\(type_of% @dg))))/\(((type_of% @LU)/\((type_of% @LW)/\(type_of% @Jo)))/\((type_of% @LY)/\((type_of% @Jq)/\(type_of% @GI)))))) :=
 ⟨⟨⟨⟨⟨@GL, @UE⟩,⟨@aeP,⟨@UL, @aas⟩⟩⟩,⟨⟨@P5,⟨@Ju, @UN⟩⟩,⟨@P7,⟨@P9, @aau⟩⟩⟩⟩,⟨⟨⟨@aeR, @Qb⟩,⟨@Qd,⟨@GQ, @aaw⟩⟩⟩,⟨⟨@aay,⟨@UQ, @UT⟩⟩,⟨@Qf,⟨@L1, @Qh⟩⟩⟩⟩⟩,⟨⟨⟨⟨@Qj, @L4⟩,⟨@L6,⟨@L9, @Mb⟩⟩⟩,⟨⟨@Jw,⟨@aaA, @UW⟩⟩,⟨@Md,⟨@aaC, @aaE⟩⟩⟩⟩,⟨⟨⟨@aaG,⟨@Ql, @UY⟩⟩,⟨@U0,⟨@U1, @dg⟩⟩⟩,⟨⟨@LU,⟨@LW, @Jo⟩⟩,⟨@LY,⟨@Jq, @GI⟩⟩⟩⟩⟩⟩
theorem RS:(((type_of% @ai)/\(type_of% @E5))/\((type_of% @List.mapM_cons.{0,0,0})/\((type_of% @List.mapM_nil.{0,0,0})/\(type_of% @List.getD_cons_zero.{0}))))/\(((type_of% @List.getD_cons_succ.{0})/\(type_of% @Option.pure_def.{0}))/\((type_of% @Option.bind_eq_bind.{0})/\((type_of% @Option.bind_some.{0,0})/\(type_of% @Option.map_some.{0,0})))) :=
 ⟨⟨⟨@ai, @E5⟩,⟨@List.mapM_cons.{0,0,0},⟨@List.mapM_nil.{0,0,0}, @List.getD_cons_zero.{0}⟩⟩⟩,⟨⟨@List.getD_cons_succ.{0}, @Option.pure_def.{0}⟩,⟨@Option.bind_eq_bind.{0},⟨@Option.bind_some.{0,0}, @Option.map_some.{0,0}⟩⟩⟩⟩
end Go.VL
end

section
namespace Go.VL
def Has (P:Program) (f:FuncId) (vf:az):Prop:=∃ fn,P.funcs[f]? = some fn/\I1 P fn=some vf
section
variable {P:Program} {G:Nat->Option (List AV)}
theorem VP.has {f:FuncId} {vf:az} (h:Has P f vf) {args:List AV} {r:AV} (k:yx P G [] vf.body (Sf vf.results r) ⟨args++List.replicate (vf.nt-args.length) (.tup []),fun _=>none,0⟩):VP P G f args r:=by
 obtain ⟨fn,h1,h2⟩:=h
 exact VP.of h1 h2 k
theorem aZ.has {f:FuncId} {vf:az} (h:Has P f vf) {args:List AV} {p:Id} {S:List (Id × cZ)} {r:eS}
   (k:yx P G p vf.body (Sg G p S vf.results r) ⟨args++List.replicate (vf.nt-args.length) (.tup []),af.of S,0⟩):aZ P G f args p S r:=by
 obtain ⟨fn,h1,h2⟩:=h
 exact aZ.aap h1 h2 (VW.of k)
theorem bJ {π : Id} {base:Nat} {Q:bX->VS->Prop} {n:Nat} {d:Option Nat} {os:List bx} {i:Nat} {t:List AV} {σ : af} {f:FuncId} {args lL:List AV} {r:AV} (S:List (Id × cZ))
   (h:VP P G f lL r) (hv:aG (af.of S) args lL) (hS:∀ x∈S, σ x.1=some x.2) (k:vs P G π base Q n os (i+1) (gl t d r) (σ.app (E6 S))):Bq P G π base Q n d os i t σ f args :=
 ⟨S,_,aZ.Kt h hv,hS,fun x hx=>List.mem_map.2 ⟨x,hx,rfl⟩,k⟩
theorem Fa {π : Id} {base:Nat} {Q:bX->VS->Prop} {n:Nat} {d:Option Nat} {os:List bx} {i:Nat} {t:List AV} {σ : af} {f:FuncId} {args lL:List AV} {r:AV} (S:List (Id × cZ))
   (h:VP P G f lL r) (hv:aG (af.of S) args lL) (hf:jC r) (hS:∀ x∈S, σ x.1=some x.2) (k:vs P G π base Q n os (i+1) (gl t d r) σ):Bq P G π base Q n d os i t σ f args :=
 ⟨S,_,aZ.of_flat h hv hf,hS,fun x hx=>List.mem_map.2 ⟨x,hx,rfl⟩,k⟩
theorem ae {rs:List uT} {r:AV} {s:VS} (h:aX rs s=some r) (hp:aa r):∃ r0,aX rs s=some r0/\View s.σ r0 r:=⟨r,h,View.pure hp⟩
end
theorem cz {σ : af} {id:Id} {b:Option cZ} : σ.put id b id=b:=af.dE σ id b
theorem dM {σ : af} {id i:Id} {b:Option cZ} (h:i≠id) : σ.put id b i = σ i:=af.cC σ id b h
theorem Ax {σ : af} {agg:Bool} {n e o:Nat} {id:Id} {bk:cZ} {el:AV} (h : σ id=some bk) (he:bk.els[e]? = some el):kM σ agg n (.ref id e o)=(part agg el.cells o n).map fun v=>{ val:=v,rd:=[id] }:=by
 simp [kM,h,he]
theorem aI {σ : af} {agg:Bool} {n o:Nat} {cs:List AV}:kM σ agg n (.ep cs o)=(part agg cs o n).map fun v=>{ val:=v }:=rfl
end Go.VL
end

section
set_option maxRecDepth 100000
namespace Go.VL
def mS:az:=⟨17,[(.tmp 2)],(cS [oB 2 false] (cS [oM 3 0,⟨some 4,.bin .geq .int (.t 3) (.c (.int .u8 97)),none⟩,oM 5 4,gM 6 0 5 true,⟨some 7,.bin .leq .int (.t 6) (.c (.int .u8 122)),some (5,true)⟩,oo 8 5 7,oM 9 8,gM 10 0 9 false,⟨some 11,.bin .geq .int (.t 10) (.c (.int .u8 65)),some (9,false)⟩,gM 12 11 9 false,gM 13 0 12 true,⟨some 14,.bin .leq .int (.t 13) (.c (.int .u8 90)),some (12,true)⟩,⟨some 15,.pick (.t 12) (.t 14) (.c (.bool false)),some (9,false)⟩,yh 16 9 15,oM 2 16] .ret))⟩
def nC:az:=⟨9,[(.tmp 2)],(cS [oB 2 false] (cS [oM 3 0,⟨some 4,.bin .geq .int (.t 3) (.c (.int .u8 48)),none⟩,oM 5 4,gM 6 0 5 true,⟨some 7,.bin .leq .int (.t 6) (.c (.int .u8 57)),some (5,true)⟩,oo 8 5 7,oM 2 8] .ret))⟩
def rq (pz Fx:Nat):az:=⟨13,[(.tmp 2)],(cS [oB 2 false] (cS [oM 3 0,oC 4 pz 3,oM 5 4,gM 6 0 5 false,⟨some 7,.call (.f Fx) [.t 6],some (5,false)⟩,yh 8 5 7,oM 9 8,gM 10 0 9 false,⟨some 11,.bin .eql .int (.t 10) (.c (.int .u8 95)),some (9,false)⟩,yh 12 9 11,oM 2 12] .ret))⟩
def wM:az:=⟨20,[(.tmp 4)],(cS [oI 4 0] (cS [oI 5 0] (.seq (.block 0 (.loop (.seq (cS [oM 6 5,oM 7 0,⟨some 8,.len true (.t 7),none⟩,oT 9 .lss 6 8,oM 10 9,gM 11 1 10 true,gM 12 0 10 true,gM 13 5 10 true,⟨some 14,.indexS (.t 12) (.t 13),some (10,true)⟩,⟨some 15,.call (.t 11) [.t 14],some (10,true)⟩,oo 16 10 15] (.cond (.t 16) .skip (.exit 0))) (.block 1 (cR [oM 17 5,bn 18 .add 17 1,oM 5 18]))))) (cS [oM 19 5,oM 4 19] .ret))))⟩
def lM (pz Kw G0:Nat):az:=⟨22,[(.tmp 2)],(cS [oB 2 false] (cS [oM 3 0,⟨some 4,.bin .neq .str (.t 3) (.c (.str [])),none⟩,oM 5 4,gM 6 0 5 true,⟨some 7,.len true (.t 6),some (5,true)⟩,⟨some 8,.bin .leq .int (.t 7) (.c (.int .i64 24)),some (5,true)⟩,oo 9 5 8,oM 10 9,gM 11 0 10 true,⟨some 12,.indexS (.t 11) (.c (.int .i64 0)),some (10,true)⟩,⟨some 13,.call (.f pz) [.t 12],some (10,true)⟩,oo 14 10 13,oM 15 14,gM 16 0 15 true,⟨some 17,.call (.f Kw) [(.t 16),(.f G0)],some (15,true)⟩,gM 18 0 15 true,⟨some 19,.len true (.t 18),some (15,true)⟩,gT 20 .eql 17 19 15 true,oo 21 15 20,oM 2 21] .ret))⟩
end Go.VL
end

section
set_option maxRecDepth 100000
namespace Go.VL
def eA:az:=⟨8,[(.tmp 2)],(cS [oZ 2] (.seq (cS [oM 3 0,⟨some 4,.bin .eql .slice (.t 3) (.c .nils),none⟩] (.cond (.t 4) (cS [oZ 2] .ret) .skip)) (cS [⟨some 5,.buildSl 1 0 (.str []) [],none⟩,oM 6 0,yZ 7 1 16 5 6,oM 2 7] .ret)))⟩
end Go.VL
end

section
set_option maxRecDepth 100000
namespace Go.VL
def eP (yy:Nat):az:=⟨17,[(.tmp 2)],(cS [oB 2 false] (cS [oM 3 0,⟨some 4,.bin .neq .str (.t 3) (.c (.str [])),none⟩,oM 5 4,gM 6 0 5 true,⟨some 7,.len true (.t 6),some (5,true)⟩,⟨some 8,.bin .leq .int (.t 7) (.c (.int .i64 24)),some (5,true)⟩,oo 9 5 8,oM 10 9,gM 11 0 10 true,⟨some 12,.call (.f yy) [(.t 11),(.c (.int .i64 0))],some (10,true)⟩,gM 13 0 10 true,⟨some 14,.len true (.t 13),some (10,true)⟩,gT 15 .eql 12 14 10 true,oo 16 10 15,oM 2 16] .ret))⟩
def fO (nZ wN:Nat):az:=⟨42,[(.tmp 4)],(cS [oI 4 0] (.seq (cS [oM 5 1,oM 6 0,⟨some 7,.len true (.t 6),none⟩,oT 8 .eql 5 7,oM 9 8,gM 10 0 9 false,gM 11 1 9 false,⟨some 12,.indexS (.t 10) (.t 11),some (9,false)⟩,⟨some 13,.call (.f nZ) [.t 12],some (9,false)⟩,⟨some 14,.un .not (.t 13),some (9,false)⟩,yh 15 9 14] (.cond (.t 15) (cS [oM 16 1,oM 4 16] .ret) .skip)) (.seq (.block 0 (.loop (.seq (cS [oM 17 1,oM 18 0,⟨some 19,.len true (.t 18),none⟩,oT 20 .lss 17 19,oM 21 20,gM 22 0 21 true,gM 23 1 21 true,⟨some 24,.indexS (.t 22) (.t 23),some (21,true)⟩,⟨some 25,.call (.f nZ) [.t 24],some (21,true)⟩,gM 26 25 21 true,gM 27 0 26 false,gM 28 1 26 false,⟨some 29,.indexS (.t 27) (.t 28),some (26,false)⟩,⟨some 30,.call (.f wN) [.t 29],some (26,false)⟩,⟨some 31,.pick (.t 26) (.c (.bool true)) (.t 30),some (21,true)⟩,gM 32 31 21 true,gM 33 0 32 false,gM 34 1 32 false,⟨some 35,.indexS (.t 33) (.t 34),some (32,false)⟩,⟨some 36,.bin .eql .int (.t 35) (.c (.int .u8 95)),some (32,false)⟩,⟨some 37,.pick (.t 32) (.c (.bool true)) (.t 36),some (21,true)⟩,oo 38 21 37] (.cond (.t 38) .skip (.exit 0))) (.block 1 (cR [oM 39 1,bn 40 .add 39 1,oM 1 40]))))) (cS [oM 41 1,oM 4 41] .ret))))⟩
def uY:az:=⟨17,[(.tmp 2)],(cS [oB 2 false] (cS [oM 3 0,⟨some 4,.bin .geq .int (.t 3) (.c (.int .u8 97)),none⟩,oM 5 4,gM 6 0 5 true,⟨some 7,.bin .leq .int (.t 6) (.c (.int .u8 122)),some (5,true)⟩,oo 8 5 7,oM 9 8,gM 10 0 9 false,⟨some 11,.bin .geq .int (.t 10) (.c (.int .u8 65)),some (9,false)⟩,gM 12 11 9 false,gM 13 0 12 true,⟨some 14,.bin .leq .int (.t 13) (.c (.int .u8 90)),some (12,true)⟩,⟨some 15,.pick (.t 12) (.t 14) (.c (.bool false)),some (9,false)⟩,yh 16 9 15,oM 2 16] .ret))⟩
def wO:az:=⟨9,[(.tmp 2)],(cS [oB 2 false] (cS [oM 3 0,⟨some 4,.bin .geq .int (.t 3) (.c (.int .u8 48)),none⟩,oM 5 4,gM 6 0 5 true,⟨some 7,.bin .leq .int (.t 6) (.c (.int .u8 57)),some (5,true)⟩,oo 8 5 7,oM 2 8] .ret))⟩
end Go.VL
end
