/- For the claim of VerifierKernel: parts XW2, XW3, VL35, XUX. -/
import Derived.Test.YtpcofcmencgkbaaGreatC12
import Derived.Test.YtpcofcmencgkbaaGreatC04
import Derived.Deep.Slices
import Derived.Test.YtpcofcmencgkbaaGreatProg
import Derived.Test.YtpcofcmencgkbaaGreatC03
import Derived.Lib.ItoaNum
import Derived.Lib.IndexMore
import Derived.KernelRfl
import Derived.OpenShut
set_option linter.defProp false
set_option linter.unusedSectionVars false
set_option linter.unusedSimpArgs false
set_option linter.unusedVariables false
set_option maxRecDepth 100000
open Go.DataW renaming trod->mC,trod_int->aax,trod_struct->aay
open Go.Proofs.Tryz renaming prog->ab
open Go.ay renaming hb->cW
open Go.ay.a7 renaming of->c4
open Go.ay.aj renaming T->aO
open Go.ay.bc renaming append->sB
open List renaming contains_eq_any_beq->aav,drop->vC,drop_succ_cons->aaz,drop_zero->sn,getElem?_eq_getElem->eO,getElem?_eq_some_iff->fc,getElem_mem->bf,length_map->aQ,length_ofFn->EB,mem_ofFn->aaw,mem_range->c8,ofFn->JR,range->a8,take->vB,take_succ_cons->aaA,take_zero->aaB
open Nat renaming le_refl->a2,mul_le_mul->jd,mul_le_mul_right->ck,zero_le->dL
set_option maxHeartbeats 4000000
open Go.ay
namespace Go.Proofs.YtpcofcmencgkbaaGreat
section
open Go.ay Go.ay.eU Go.Proofs Go.Lib
variable(G:Nat->Option (List aa)){K:bY}{q e r:Nat}(F:dN K q e r){n m p w i k:Nat}{x0 bE cB:aa}{aP:List (List aj)}{C:List Nat}
noncomputable abbrev qL(w k i:Nat)(q:a7):List (Nat×aa):=[(6,aA w),(8,.ref (q 1) 0 0),(10,.ai (q 0) 2 0 w false),(17,.ai (q 2) 2 0 w false),(18,aA i),(123,aA w),(124,aA k)]
noncomputable abbrev iI(x0 x1 bE cB gy:aa)(w:Nat)(f g:Nat->aj)(q:a7):List (ay.Id×aG):=[(q 0,⟨(aY w f).map aO,2,false⟩),(q 1,TD x0 x1 bE cB gy),(q 2,⟨(aY w g).map aO,2,false⟩)]
noncomputable abbrev Dz(C:List Nat)(w k i:Nat)(b:Bool)(t:Nat)(q:a7):List (Nat×aa):=(20,.bool b)::(19,aA k)::(128,bW C)::(129,.int .i64 ((C.map aA).length:Nat))::(130,aA t)::qL w k i q
noncomputable abbrev DA(w k i j:Nat)(q:a7):List (Nat×aa):=(19,aA k)::(158,aA w)::(159,aA j)::qL w k i q
variable [bg x0][bg bE][bg cB]{f g:Nat->aj}
theorem ao7(rq:C.length<=8000){t:Nat}(ht:t<C.length):fe ab G (aZ (ak 11) 3) (ak 11).aK 200 .normal (Dz C w k i ((C.take t).contains k) t) (iI x0 (bW C) bE cB (aN aP) w f g) (Dz C w k i ((C.take (t+1)).contains k) (t+1)) (iI x0 (bW C) bE cB (aN aP) w f g):=by
 have e:(C.take (t+1)).contains k=((C.take t).contains k||(k==C[t])):=by rw[List.take_succ_eq_append_getElem ht,aav,aav,List.any_append];simp
 rw[e];cases(C.take t).contains k with|true=>exact en [bB 131 aA ht,aV 132 1 aA ht,bh 140 t] an|false=>
   have d:(((C[t]:Nat):Int)==((k:Nat):Int))=(k==C[t]):=by
     by_cases h:C[t]=k;.subst h;simp
     .rw[beq_eq_false_iff_ne.2 (fun e=>h ac),beq_eq_false_iff_ne.2 (fun e=>h e.symm)]
   rw[Bool.false_or];exact en [bB 131 aA ht,aV 132 1 aA ht,cW 138 d,bh 140 t] an
theorem ao8:fe ab G (aZ (ak 11) 3) (ak 11).aK 200 (.exit 6) (Dz C w k i ((C.take C.length).contains k) C.length) (iI x0 (bW C) bE cB (aN aP) w f g) (fun q=>(20,.bool (C.contains k))::(19,aA k)::qL w k i q) (iI x0 (bW C) bE cB (aN aP) w f g):=by rw[List.take_length];exact en [dH 131 aA C] an
noncomputable def YB(rq:C.length<=8000){b:Bool}(hb:C.contains k=b):aR ab G:=kN (ak 11) 3 0 C.length (c4 [[1],[2],[3]]) (fun t=>Dz C w k i ((C.take t).contains k) t) (fun _=>iI x0 (bW C) bE cB (aN aP) w f g) (.exit 6) (fun q=>(20,.bool b)::(19,aA k)::qL w k i q) (iI x0 (bW C) bE cB (aN aP) w f g) (fun t ht=>ao7 G rq ht) (by rw[<-hb];exact ao8 G) (t0:=Dz C w k i false 0 (c4 [[1],[2],[3]])) (k0:=iI x0 (bW C) bE cB (aN aP) w f g (c4 [[1],[2],[3]])) rfl rfl
include F
theorem apb{g':Nat->aj}(hm:bj K n w aP)(cx:w<=9000)(hi:i<aP.length)(hk:k<w)(hf:∀j,(f j).G K m)(hg:∀j,(g j).G K p)(h1:bm K q n)(h2:bm K q m)(h3:bm K q p)(h4:bm K q (n+m+K.c)){j:Nat}(hj:j<w)(Gs:∀t,t<w->g' t=if t=j then(g j).add (((aP.getD i []).getD j (aj.rat 0)).mul (f k))else g t):fe ab G (aZ (ak 11) 4) (ak 11).aK 200 .normal (DA w k i j) (iI x0 (bW C) bE cB (aN aP) w f g) (DA w k i (j+1)) (iI x0 (bW C) bE cB (aN aP) w f g'):=by obtain⟨oh,hr⟩:=hm _ (bf hi);have wE:j<aP[i].length:=ac;have fo:=hr _ (bf wE);rw[a4 hi,a4 wE]at Gs;have zq:=Al G F fo (hf k) h1 h2;have a1:=DL G F (hg j) (fo.mul (hf k)) h3 h4;exact en [cW 160 (dv hj),aV 166 1 ar hi,aV 169 2 aO wE,cy 173 2 [1] false w k,fx 174 2 true [1] 2 w aO f k (f k).T,hc zq,cy 183 2 [3] false w j,fx 184 2 true [3] 2 w aO g j (g j).T,hc a1,cy 189 2 [3] false w j,kM 189 2 [3] 2 w aO g g' j _ Gs (rV _),bh 190 j] an
omit F in theorem apc:fe ab G (aZ (ak 11) 4) (ak 11).aK 200 (.exit 8) (DA w k i w) (iI x0 (bW C) bE cB (aN aP) w f g) (qL w k i) (iI x0 (bW C) bE cB (aN aP) w f g):=en [cW 160 (h7 (a2 w))] an
theorem apa(hm:bj K n w aP)(cx:w<=8000)(rq:C.length<=8000)(s3:aP.length=(bI C w).length)(hk:k<w)(hf:∀j,(f j).G K m)(hg:∀j,(dP aP C f k j).G K p)(SQ:∀j,(dP aP C f (k+1) j).G K p)(h1:bm K q n)(h2:bm K q m)(h3:bm K q p)(h4:bm K q (n+m+K.c)):fe ab G (aZ (ak 11) 2) (ak 11).aK (b6 9) .normal (qL w k (bI C k).length) (iI x0 (bW C) bE cB (aN aP) w f (dP aP C f k)) (qL w (k+1) (bI C (k+1)).length) (iI x0 (bW C) bE cB (aN aP) w f (dP aP C f (k+1))):=by
 have ol:(bI C k).length<=k:=by have:=List.length_filter_le (fun i=>!C.contains i) (a8 k);rwa[List.length_range]at this
 by_cases h:k∈C
 . have hc:C.contains k=true:=by simpa using h
   have e:dP aP C f (k+1)=dP aP C f k:=funext fun j=>by show(if k∈C then _ else _)=_;rw[if_pos h]
   rw[Vi h,e];exact en [cW 125 (dv hk),YB G (x0:=x0) (bE:=bE) (cB:=cB) (aP:=aP) (f:=f) (g:=dP aP C f k) (w:=w) (i:=(bI C k).length) rq hc,bh 193 k] an
 . have hc:C.contains k=false:=by rw[Bool.eq_false_iff];simpa using h
   have hi:(bI C k).length<aP.length:=by rw[s3];exact Vg hk h
   have e0:aY w (fun t=>if t<0 then dP aP C f (k+1) t else dP aP C f k t)=aY w (dP aP C f k):=ym fun j _=>if_neg (Nat.not_lt_zero _);have e1:aY w (fun t=>if t<w then dP aP C f (k+1) t else dP aP C f k t)=aY w (dP aP C f (k+1)):=ym fun j hj=>if_pos hj;have s1:dP aP C f (k+1)=fun j=>(dP aP C f k j).add (((aP.getD (bI C k).length []).getD j (aj.rat 0)).mul (f k)):=funext fun j=>by show(if k∈C then _ else _)=_;rw[if_neg h]
   have rd:=fun j(hj:j<w)=>apb G F (x0:=x0) (bE:=bE) (cB:=cB) (C:=C) (f:=f) (i:=(bI C k).length) (k:=k) (g:=fun t=>if t<j then dP aP C f (k+1) t else dP aP C f k t) (g':=fun t=>if t<j+1 then dP aP C f (k+1) t else dP aP C f k t) hm ac hi hk hf (fun t=>by split;exact SQ t;exact hg t) h1 h2 h3 h4 hj (fun t ht=>by
     by_cases e:t=j;.subst e;rw[if_pos (Nat.lt_succ_self _),if_pos rfl,if_neg (Nat.lt_irrefl _),s1]
     . rw[if_neg e];by_cases h:t<j;.rw[if_pos h,if_pos ac]
       .rw[if_neg h,if_neg ac]);have ex:fe ab G (aZ (ak 11) 4) (ak 11).aK 200 (.exit 8) (DA w k (bI C k).length w) (iI x0 (bW C) bE cB (aN aP) w f (fun t=>if t<w then dP aP C f (k+1) t else dP aP C f k t)) (qL w k (bI C k).length) (iI x0 (bW C) bE cB (aN aP) w f (dP aP C f (k+1))):=by unfold iI;rw[e1];exact apc G
   have hw:=(hm _ (bf hi)).1;rw[MW h];exact en [cW 125 (dv hk),YB G (x0:=x0) (bE:=bE) (cB:=cB) (aP:=aP) (f:=f) (g:=dP aP C f k) (w:=w) (i:=(bI C k).length) rq hc,cW 146 (show decide (((bI C k).length:Int)≥(((aP.map ar).length:Nat):Int))=false from decide_eq_false (by rw[aQ];omega)),aV 151 1 ar hi,cW 155 (show((((aP[(bI C k).length].map aO).length:Nat):Int)!=(w:Int))=false by rw[aQ,hw];exact bne_self_eq_false _),kN (ak 11) 4 1 w (c4 [[1],[2],[3]]) (DA w k (bI C k).length) (fun j=>iI x0 (bW C) bE cB (aN aP) w f (fun t=>if t<j then dP aP C f (k+1) t else dP aP C f k t)) (.exit 8) (qL w k (bI C k).length) (iI x0 (bW C) bE cB (aN aP) w f (dP aP C f (k+1))) rd ex (k0:=iI x0 (bW C) bE cB (aN aP) w f (dP aP C f k) (c4 [[1],[2],[3]])) rfl (by unfold iI;rw[e0]),bh 192 (bI C k).length,bh 193 k] an
omit F in theorem ao9{g:Nat->aj}:fe ab G (aZ (ak 11) 2) (ak 11).aK (b6 9) (.exit 4) (qL w w i) (iI x0 (bW C) bE cB (aN aP) w f g) (fun q=>[(10,.ai (q 0) 2 0 w false),(17,.ai (q 2) 2 0 w false)]) (iI x0 (bW C) bE cB (aN aP) w f g):=en [cW 125 (h7 (a2 w))] an
end
section
open Go.ay Go.ay.eU Go.Proofs Go.Lib
variable(G:Nat->Option (List aa)){K:bY}{q e r:Nat}(F:dN K q e r){n m p w i k:Nat}{x0 bE cB:aa}{aP:List (List aj)}{C:List Nat}
theorem an5(n:Nat):dA n none=aY n fun _=>aj.rat 0:=by unfold dA aY;exact List.map_congr_left fun k _=>if_neg am
noncomputable abbrev TE:Nat:=jF+1000
noncomputable abbrev TF:Nat:=jF+jF
include F
theorem ahw{ops:List fA}{at_:List Nat}{bz:Nat}{M bQ inv df:List (List aj)}{rows:List Int}{v:List Nat}{n1 w2:Nat}(afx:ag ab G 12 [p7 ops at_ bz] (.aJ [aN M,aA w,.bool true]))(sK:ag ab G 13 [] (.bool true))(c:ag ab G 21 [aN M,aA w] (.aJ [.agg [l7 rows,bW C,aN inv,aN df,aN aP],.int .i64 0]))(fZ:ag ab G 16 [aN M,aA w,.agg [l7 rows,bW C,aN inv,aN df,aN aP]] (.bool true))(L1:ag ab G 41 [aN M,aA w] (aN bQ))(v9:¬30<v.length)(w0:0<w)(cx:w<=12)(arv:bQ.length<=12)(hk:bj K n1 w bQ)(hm:bj K w2 w aP)(s3:aP.length=(bI C w).length)(hC:(bI C w).length+C.length=w)(hx:∀i,i<=bQ.length->∀j,(cV bQ (dB v) i j).G K m)(hy:∀k,k<=w->∀j,(dP aP C (cV bQ (dB v) bQ.length) k j).G K p)(h1:bm K q n1)(h2:bm K q m)(h3:bm K q (n1+3+K.c))(h4:bm K q w2)(im:bm K q p)(yV:bm K q (w2+m+K.c))(same:∀j,j<w->(cV bQ (dB v) bQ.length j).2.val=(dP aP C (cV bQ (dB v) bQ.length) w j).2.val):ag ab G 11 [p7 ops at_ bz,.sl 1 (v.map u8)] (.bool true):=by
 have un:=Hc G w0 ac none;rw[an5]at un;have XW:∀p,cj ab G 39 [.int .i64 (w:Int),.int .i64 (qC none)] p [] {val:=.ai ([2000000]++p) 2 0 w false,rd:=[],up:=[([2000000]++p,some ⟨(aY w fun _=>aj.rat 0).map aO,2,false⟩)]}:=fun p=>by have:=un p;rwa[aQ,gg]at this
 have sm:ag ab G 33 [ar (aY w fun j=>cV bQ (dB v) bQ.length (0+j)),ar (aY w fun j=>dP aP C (cV bQ (dB v) bQ.length) w (0+j))] (.bool true):=by have:=ain G F (a:=aY w fun j=>cV bQ (dB v) bQ.length (0+j)) (b:=aY w fun j=>dP aP C (cV bQ (dB v) bQ.length) w (0+j)) (by rw[gg,gg]) (by rw[gg];omega) (fun x LL=>by obtain⟨j,_,rfl⟩:=List.mem_map.1 LL;exact hx _ (a2 _) _) (fun x LL=>by obtain⟨j,_,rfl⟩:=List.mem_map.1 LL;exact hy _ (a2 _) _) h2 im;rwa[show Db (aY w fun j=>cV bQ (dB v) bQ.length (0+j)) (aY w fun j=>dP aP C (cV bQ (dB v) bQ.length) w (0+j))=true from ?_]at this;unfold Db;rw[List.all_eq_true];intro j hj;have hj:=c8.1 hj;rw[gg]at hj;rw[o6];simp only[List.getD_eq_getElem?_getD,JY _ hj,Option.getD_some,Nat.zero_add];exact same j hj
 have ape:=qM ((w:Int)-(C.length:Int)) ac ac;exact bL [hc afx,hc sK,cW 41 (show decide ((((v.map u8).length:Nat):Int)>30)=false from decide_eq_false (by rw[aQ];omega)),hc c,hc fZ,hw 67 (show IntKind.i64.wrap ((w:Int)-(((C.map aA).length:Nat):Int))=(w:Int)-(C.length:Int)by rw[aQ];exact ape),cW 68 (show((((aP.map ar).length:Nat):Int)!=(w:Int)-(C.length:Int))=false by rw[aQ,s3];simp;omega),cL XW,hc L1,T4 (ak 11) 0 bQ.length (ej 0) jF (c4 [[2000000,52,0],[28,0]]) (wQ v bQ w) (fun i=>ks (l7 rows) (bW C) (aN inv) (aN df) (aN aP) w (cV bQ (dB v) i)) (.exit 0) (fun q=>[(6,aA w),(8,.ref (q 1) 0 0),(10,.ai (q 0) 2 0 w false)]) (ks (l7 rows) (bW C) (aN inv) (aN df) (aN aP) w (cV bQ (dB v) bQ.length)) (fun i hi=>ahu G F hk ac ac (hx i ac) (hx (i+1) hi) h1 h2 h3 hi) (ahx G) (hN:=by unfold ej b6 jF;omega),cL XW,T4 (ak 11) 2 w TE TF (c4 [[2000000,52,0],[28,0],[2000000,jF+1,0]]) (fun k=>qL w k (bI C k).length) (fun k=>iI (l7 rows) (bW C) (aN inv) (aN df) (aN aP) w (cV bQ (dB v) bQ.length) (dP aP C (cV bQ (dB v) bQ.length) k)) (.exit 4) (fun q=>[(10,.ai (q 0) 2 0 w false),(17,.ai (q 2) 2 0 w false)]) (iI (l7 rows) (bW C) (aN inv) (aN df) (aN aP) w (cV bQ (dB v) bQ.length) (dP aP C (cV bQ (dB v) bQ.length) w)) (fun k hk=>apa G F hm ac ac s3 hk (hx _ (a2 _)) (hy k ac) (hy (k+1) hk) h4 h2 im yV) (ao9 G) (hN:=by unfold TE TF b6 jF;omega),Lg (args:=[.ai [2000000,52,0] 2 0 w false,.ai [2000000,jF+1,0] 2 0 w false]) [([2000000,52,0],⟨(aY w (cV bQ (dB v) bQ.length)).map aO,2,false⟩),([2000000,jF+1,0],⟨(aY w (dP aP C (cV bQ (dB v) bQ.length) w)).map aO,2,false⟩)] sm (dc.cons (Ot (L:=w) (fr:=false) (f:=cV bQ (dB v) bQ.length) an ac) (dc.cons (Ot (L:=w) (fr:=false) (f:=dP aP C (cV bQ (dB v) bQ.length) w) an ac) dc.nil)) (n2.bool _)] an
end
section
open Go.ay Go.ay.eU Go.Proofs Go.Lib
variable{K:bY}{n w j:Nat}{M:List (List aj)}
theorem acF(hm:bj K n w M)(hj:M.length<=j\/w<=j):k8 K (grow K j n) (iC M w).aP:=by
 unfold iC;split;.exact(qg w).pX
 .exact TC hm ‹_› hj
theorem acH(hm:bj K n w M)(w0:0<w)(hj:M.length<=j\/w<=j):PU K (grow K j n) M w (bl M).2 (iC M w).aP/\(iC M w).bz=(bl M).2.map Int.ofNat:=by
 have g:=acF hm hj;obtain⟨R,inv,df,aP,e,H⟩:=QR hm w0;rw[e]at g⊢;have aX:bj K (grow K j n) w aP:=fun r hr=>⟨H.j9 r hr,g r hr⟩;refine⟨⟨aX,?_,fun k hk hp=>(H.pH k hk hp).1,fun k hk hp i hi=>?_⟩,rfl⟩;.have:=H.lk;have:=H.rO;have:=xf (vZ H.HQ) H.g3;show aP.length=_;omega
 . have hl:aP.length=(bI (bl M).2 w).length:=by have:=H.lk;have:=H.rO;have:=xf (vZ H.HQ) H.g3;omega
   have h:=(H.pH k hk hp).2 i hi;have fy:=hm.get hi;have hq:(bI (bl M).2 k).length<aP.length:=by rw[hl];exact Vg hk hp
   have hr:=aX _ (bf hq);rw[<-a4 (d:=[]) hq]at hr;rw[CQ fy.2 hr.2 fy.1 hr.1]at h;rw[<-h];exact cQ fun j _=>by rw[jH]
end
section
open Go.ay Go.ay.eU Go.Proofs Go.Lib
variable(G:Nat->Option (List aa)){ops:List fA}{at_:List Nat}{bz:Nat}{v:List Nat}
theorem ahy{Q:Src}(h:Q.n=256){p L f:Nat}(hp:p<=4)(bk:L+p<=12)(hf:f+p<=12):f*(grow Q.ctx 4 512+L*(grow Q.ctx p 512+3+Q.ctx.c+1)+Q.ctx.c+1)+grow Q.ctx 4 512+Q.ctx.c+9<=131225906293/\L*(grow Q.ctx p 512+3+Q.ctx.c+1)+grow Q.ctx 4 512+Q.ctx.c+9<=131225906293:=by
 rw[u7 h];have aee:=u7 h;unfold grow at aee;have h8:p=0\/p=1\/p=2\/p=3\/p=4:=ac;have key:∀N G:Nat,L<=N->f<=N->grow Q.ctx p 512<=G->N*(1653500573+N*(G+3+1806+1)+1806+1)+1653500573+1806+9<=131225906293->N*(G+3+1806+1)+1653500573+1806+9<=131225906293->f*(1653500573+L*(grow Q.ctx p 512+3+Q.ctx.c+1)+Q.ctx.c+1)+1653500573+Q.ctx.c+9<=131225906293/\L*(grow Q.ctx p 512+3+Q.ctx.c+1)+1653500573+Q.ctx.c+9<=131225906293:=fun N G h1 h2 h3 h4 im=>by rw[r6 h];have a:L*(grow Q.ctx p 512+3+1806+1)<=N*(G+3+1806+1):=jd h1 ac;have b:f*(1653500573+L*(grow Q.ctx p 512+3+1806+1)+1806+1)<=N*(1653500573+N*(G+3+1806+1)+1806+1):=jd h2 ac;exact⟨ac,ac⟩
 by_cases e:p=4;.subst e;exact key 8 1653500573 ac ac (by rw[u7 h];exact a2 _) al al
 . have aed:grow Q.ctx 3 512<=63593200:=by have:=u7 h;have e:grow Q.ctx 4 512=26*grow Q.ctx 3 512+43*Q.ctx.c+1:=rfl;rw[e,r6 h]at this;omega
   exact key 12 63593200 ac ac (Nat.le_trans (n9 ac) aed) al al
theorem ahE(ho:∀o∈ops,lV o)(ha:∀a∈at_,a<256)(wD:bz<256)(hv:∀x∈v,x<256):ag ab G 11 [p7 ops at_ bz,.sl 1 (v.map u8)] (.bool true):=by have sK:=abk G;obtain⟨Q,n3⟩:=Qx (r:=ops) fun o h=>(ho o h).abs;generalize hl:wh ops=l at n3;generalize hn:1+bz%12=n;have m:=aif G ho ha wD hl hn;cases e:yT ops at_ l with|false=>rw[e,if_neg Bool.false_ne_true]at m;exact aI [hc m,hc sK,hc sK] an|true=>rw[e,if_pos rfl]at m;cases e2:decide (kO l<=2)with|false=>rw[e2]at m;exact aI [hc m,hc sK,hc sK] an|true=>
     rw[e2]at m;by_cases v9:30<v.length;.exact aI [hc m,hc sK,cW 41 (show decide ((((v.map u8).length:Nat):Int)>30)=true from decide_eq_true (by rw[aQ];omega)),hc sK] an
     have aa2:at_.length<=24:=by unfold yT at e;rw[Bool.and_eq_true,Bool.not_eq_true']at e;have:=of_decide_eq_false e.2;omega
     have n0:0<n:=ac;have UI:n<=12:=ac;have arn:=Nat.div_mul_le_self at_.length n;have aX:=aeg n3 at_ n (at_.length/n);have ahD:=Sp l at_ n (at_.length/n);generalize gM l at_ n (at_.length/n)=M at*;have afC:M.length<=24:=by rw[ahD];exact Nat.le_trans (Nat.div_le_self _ _) aa2
     have hj:M.length<=4\/n<=4:=by
       rcases Nat.lt_or_ge 4 M.length with h1|h1
       . rcases Nat.lt_or_ge 4 n with h2|h2;.exfalso;have:=jd (ac:5<=at_.length/n) (ac:5<=n);omega
         .exact .inr h2
       .exact .inl h1
     have F:=Src.BF (Q:=Q) n3.1;have v1:=alC aX n0;have h4:(iC M n).rows.length<=4:=by
       have:=v1;unfold mS at this;unfold iC;split;.exact dL _
       .have qn:=akr M;show((ey M (a8 M.length)).map Int.ofNat).length<=4;rw[aQ];have:=(akq aX (ord:=a8 M.length) (fun k hk=>c8.1 hk) List.nodup_range hj);omega
     have c:=aiP G F aX n0 ac ac (j:=4) hj (by rw[u7 n3.1];exact ui n3.1 al) (by rw[u7 n3.1,r6 n3.1];exact ui n3.1 al);have fZ:=Ye G F (acE n3.1 aX n0 hj afC UI h4);rw[v1]at fZ;obtain⟨H,afa⟩:=acH aX n0 hj;have pl:=V7 aX hj;have L1:ag ab G 41 [aN M,aA n] (aN (eo M n)):=aid G F (c:=n) aX ac ac ac pl (by rw[u7 n3.1];exact ui n3.1 al);obtain⟨gk,_⟩:=Ty aX;have Fk:=TG v;have aky:=vZ (lE aX).oY;have akK:=CM aX;have ol:=xf aky akK;have lk:(eo M n).length=(bI (bl M).2 n).length:=ahn aX;have same:=fun j hj=>acW aX H Fk rfl (j:=j) hj;have gx:=fun i=>Fy gk.pX Fk i;have aet:=Fz H.g.pX (gx (eo M n).length) (pv:=(bl M).2);have ec:nH (iC M n)=.agg [l7 (iC M n).rows,bW (bl M).2,aN (iC M n).inv,aN (iC M n).df,aN (iC M n).aP]:=by rw[<-GM,<-afa];rfl
     rw[ec]at c fZ;have s3:=H.l;have NR:=fun{L f:Nat}=>ahy n3.1 (p:=(bl M).2.length) (L:=L) (f:=f) pl;generalize(iC M n).aP=aP at*;generalize(iC M n).rows=rows at*;generalize(iC M n).inv=inv at*;generalize(iC M n).df=df at*;generalize eo M n=bQ at*;generalize(bl M).2=C at*;obtain⟨z,z'⟩:=NR (L:=bQ.length) (f:=(bI C n).length) ac ac;have hmx:=fun i(hi:i<=bQ.length)j=>(gx i j).mono (ck _ hi);have afE:=fun k(hk:k<=n)j=>(aet k j).mono (ck _ (Vh (pv:=C) hk));have aq3:grow Q.ctx C.length 512<=grow Q.ctx 4 512:=n9 pl;have b1:∀x,x<=131225906293->bm Q.ctx Q.cc x:=fun x hx=>ui n3.1 hx;refine ahw G F m sK c fZ L1 v9 n0 UI ac gk H.g s3 ac hmx afE (b1 _ ac) (b1 _ ac) (b1 _ ac) (b1 _ ac) (b1 _ ac) (b1 _ ac) same
end
end Go.Proofs.YtpcofcmencgkbaaGreat
namespace Go.ay
section
variable{H:Type}{enc:TypeId×Value->H}{P:Program}{w:World}{spare:Nat->Bool}{held:Bool}
def mO(w:World):Env:=⟨λ _=>none,λ b=>b<w.heap.size⟩
def KX{α β:Type}{f:α->β}{Q:α->Prop}:∀{es:List β},(∀c∈es,∃x,c=f x/\Q x)->∃l:List α,es=l.map f/\∀x∈l,Q x|[],_=>⟨[],rfl,am⟩|c::es,h=>by have⟨x,g,e⟩:=h c am;have⟨l,d,b⟩:=KX (es:=es) λ y a=>h y (by simp[a]);exact⟨x::l,by rw[g,d];rfl,by intro y a;rcases List.mem_cons.1 a with rfl|a;exact e;exact b y a⟩
def Ve{t e:TypeId}{fuel k:Nat}{cs:List Value}{x:DataW H×List MemPlace}(ht:P.underlying t=some (.slice e))(hk:P.cellsOf e=k)(B:0<k)(h:mC enc P w 0 spare held fuel t cs=some x)(f:aa->Prop)(F:∀n d y,fuel=n+1->mC enc P w 0 spare held n e d=some y->∃c:aa,f c/\c.size=k/\bc (mO w) w c.cells d):∃(es:List aa)(v:Value),cs=[v]/\av (mO w) w (.sl k es) v/\(∀c∈es,f c)/\es.length<=maxLen:=by
 rcases DataW.trod_slice ht h with⟨rfl,rfl⟩|⟨a,len,cap,V,rest,n,L,rfl,rfl,_,hl,hm,hlen,R,_,_⟩;exact⟨[],_,rfl,by simp only[av];exact⟨none,0,rfl,a2 _,dL _,am,.inl trivial⟩,am,dL _⟩;have hC:∀i,i<len->∃c:aa,f c/\c.size=k/\∃d,w.cells? 0 (a.add (i*k)) k=some d/\bc (mO w) w c.cells d:=by intro i hi;have h1:=R i hi;rw[eO ac,hk]at h1;have⟨d,O,h3⟩:=Option.bind_eq_some_iff.1 h1;have⟨c,hg,Z,M⟩:=F n d _ L h3;exact⟨c,hg,Z,d,O,M⟩
 have E:∀i:_root_.Fin len,∃c:aa,f c/\c.size=k/\∃d,w.cells? 0 (a.add (i.1*k)) k=some d/\bc (mO w) w c.cells d:=λ i=>hC i.1 i.2;let C:_root_.Fin len->aa:=λ i=>(E i).choose;have p:∀i,f (C i)/\(C i).size=k/\∃d,w.cells? 0 (a.add (i.1*k)) k=some d/\bc (mO w) w (C i).cells d:=λ i=>(E i).choose_spec;have z:∀c∈JR C,c.size=k:=by intro c A;obtain⟨i,rfl⟩:=aaw.1 A;exact(p i).2.1
 refine⟨JR C,_,rfl,?_,by intro c A;obtain⟨i,rfl⟩:=aaw.1 A;exact(p i).1,by rw[EB];omega⟩;simp only[av];refine⟨some a,cap,by rw[EB],by rw[EB];exact hl,hm,z,?_⟩;by_cases h0:len=0;left;exact List.length_eq_zero_iff.1 (by rw[EB];exact h0);right;have m:∀(i:_root_.Fin len)(r:Nat)(c:aa),(C i).cells[r]?=some c->∃v,w.cell? ((a.add (i.1*k)).add r)=some v/\av (mO w) w c v:=by
   intro i r c A;have⟨_,Z,d,h1,O⟩:=p i;obtain⟨arl,hp⟩:=fi.1 O;obtain⟨v,U,N⟩:=hp r c A;refine⟨v,?_,N⟩;have S:r<k:=by have:=(fc.1 A).1;rw[<-Z];exact this
   rw[(World.cells?_some h1).2.2 r S,U]
 obtain⟨b,o,l⟩:=a;have W:0<len:=Nat.pos_of_ne_zero h0;obtain⟨ab6,T⟩:∃c,(C ⟨0,W⟩).cells[0]?=some c:=⟨_,eO (by have:=(p ⟨0,W⟩).2.1;unfold aa.size at this;omega)⟩;obtain⟨v0,Y,_⟩:=m ⟨0,W⟩ 0 ab6 T;have s:((⟨b,o,l⟩:Addr).add (0*k)).add 0=⟨b,o,l⟩:=by simp[Addr.add]
 have q:w.cell? ⟨b,o,l⟩=some v0:=by rw[<-s];exact Y
 have X:l=none:=World.cell?_spot q;subst X;refine⟨b,o,rfl,World.block_lt_of_cell? _ _ q,mc.2 ?_⟩;intro j c hj;have I:j<(flat (JR C)).length:=(fc.1 hj).1;rw[ko z,EB]at I;have u:j/k<len:=(Nat.div_lt_iff_lt_mul B).2 I;have Q:j%k<k:=Nat.mod_lt _ B;have G:(JR C)[j/k]?=some (C ⟨j/k,u⟩):=by rw[List.getElem?_ofFn,dif_pos u]
 have D:=yQ z G Q;have J:j/k*k+j%k=j:=by rw[Nat.mul_comm];exact Nat.div_add_mod j k
 rw[J,hj]at D;obtain⟨v,U,M⟩:=m ⟨j/k,u⟩ (j%k) c D.symm;refine⟨v,?_,M⟩;have K:((⟨b,o,none⟩:Addr).add (j/k*k)).add (j%k)=⟨b,o+j,none⟩:=by
   have h1:∀(o n:Nat),(⟨b,o,none⟩:Addr).add n=⟨b,o+n,none⟩:=λ o n=>by unfold Addr.add;split<;>simp_all
   rw[h1,h1,Nat.add_assoc,J]
 rw[<-K];exact U
end
end Go.ay
namespace Go.Proofs.YtpcofcmencgkbaaGreat
section
variable{H:Type}{enc:TypeId×Value->H}{w:World}{spare:Nat->Bool}{held:Bool}{fuel:Nat}{cs:List Value}{x:DataW H×List MemPlace}
def zF(h:mC enc ab w 0 spare held fuel 5 cs=some x):∃n:Nat,n<256/\bc (mO w) w [.int .u8 (n:Int)] cs:=by obtain⟨n,rfl,_,hw⟩:=aax Tryz.underlying5 h;have hb:=bounds_u8 hw;obtain⟨m,rfl⟩:=Int.eq_ofNat_of_zero_le hb.1;exact⟨m,ac,by simp[bc,av]⟩
def ake(h:mC enc ab w 0 spare held fuel 27 cs=some x):∃n:Int,(-128<=n/\n<128)/\bc (mO w) w [.int .i8 n] cs:=by obtain⟨n,rfl,_,hw⟩:=aax Tryz.underlying27 h;exact⟨n,by have:=bounds_i8 hw;omega,by simp[bc,av]⟩
def Kq:ab.cellsOf 5=1:=an
def acd:ab.cellsOf 27=1:=an
def QE:ab.cellsOf 152=5:=an
def ab9:ab.cellsOf 23=1:=an
def aca:ab.cellsOf 24=1:=an
def acb:ab.cellsOf 26=3:=an
def akf(h:mC enc ab w 0 spare held fuel 152 cs=some x):∃o:fA,lV o/\bc (mO w) w (ku o).cells cs:=by have⟨xs,n,_,_,s,m,k⟩:=aay Tryz.underlying152 h;rw[QE]at s;have B:xs.length=5:=m;match cs,s with|[i,v1,v2,g,j],_=>have l:mC enc ab w 0 spare held n 5 (vB (ab.cellsOf 5) (vC 0 [i,v1,v2,g,j]))=xs[0]?:=k 0 _ rfl;have f1:mC enc ab w 0 spare held n 5 (vB (ab.cellsOf 5) (vC 1 [i,v1,v2,g,j]))=xs[1]?:=k 1 _ rfl;have p:mC enc ab w 0 spare held n 5 (vB (ab.cellsOf 5) (vC 2 [i,v1,v2,g,j]))=xs[2]?:=k 2 _ rfl;have q:mC enc ab w 0 spare held n 27 (vB (ab.cellsOf 27) (vC 3 [i,v1,v2,g,j]))=xs[3]?:=k 3 _ rfl;have r:mC enc ab w 0 spare held n 5 (vB (ab.cellsOf 5) (vC 4 [i,v1,v2,g,j]))=xs[4]?:=k 4 _ rfl;rw[eO ac]at l f1 p q r;simp only[Kq,acd,sn,aaz,aaA,aaB]at l f1 p q r;have⟨a,u,A⟩:=zF l;have⟨b,hb,v⟩:=zF f1;have⟨c,hc,z⟩:=zF p;have⟨d,hd,rd⟩:=ake q;have⟨e,y,t⟩:=zF r;refine⟨⟨a,b,c,d,e⟩,⟨u,hb,hc,y,hd.1,by have:=hd.2;show d<=127;omega⟩,?_⟩;show bc (mO w) w [.int .u8 (a:Int),.int .u8 (b:Int),.int .u8 (c:Int),.int .i8 d,.int .u8 (e:Int)] _;exact sB (xs:=[.int .u8 (a:Int)]) (us:=[i]) A (sB (xs:=[.int .u8 (b:Int)]) (us:=[v1]) v (sB (xs:=[.int .u8 (c:Int)]) (us:=[v2]) z (sB (xs:=[.int .i8 d]) (us:=[g]) rd t)))
def akg(h:mC enc ab w 0 spare held fuel 23 cs=some x):∃l:List fA,(∀o∈l,lV o)/\bc (mO w) w [.sl 5 (l.map ku)] cs:=by obtain⟨es,v,rfl,g,i,j⟩:=Ve (k:=5) Tryz.underlying23 QE al h (λ c=>∃d:fA,c=ku d/\lV d) (λ n e y _ f=>by have⟨d,h1,b⟩:=akf f;exact⟨ku d,⟨d,rfl,h1⟩,rfl,b⟩);obtain⟨l,rfl,hw⟩:=KX i;exact⟨l,hw,by simp only[bc];exact⟨v,[],rfl,g,rfl⟩⟩
def Vk(h:mC enc ab w 0 spare held fuel 24 cs=some x):∃l:List Nat,(∀a∈l,a<256)/\bc (mO w) w [.sl 1 (l.map u8)] cs:=by obtain⟨es,v,rfl,f,d,m⟩:=Ve (k:=1) Tryz.underlying24 Kq al h (λ c=>∃n:Nat,c=u8 n/\n<256) (λ n e y _ g=>by have⟨n,i,j⟩:=zF g;exact⟨u8 n,⟨n,rfl,i⟩,rfl,j⟩);obtain⟨l,rfl,hw⟩:=KX d;exact⟨l,hw,by simp only[bc];exact⟨v,[],rfl,f,rfl⟩⟩
def akd(h:mC enc ab w 0 spare held fuel 26 cs=some x):∃(ops:List fA)(at_:List Nat)(d:Nat),(∀o∈ops,lV o)/\(∀a∈at_,a<256)/\d<256/\bc (mO w) w (p7 ops at_ d).cells cs:=by have⟨xs,n,_,_,k,f,i⟩:=aay Tryz.underlying26 h;rw[acb]at k;have r:xs.length=3:=f;match cs,k with|[e,v1,v2],_=>have g:mC enc ab w 0 spare held n 23 (vB (ab.cellsOf 23) (vC 0 [e,v1,v2]))=xs[0]?:=i 0 _ rfl;have f1:mC enc ab w 0 spare held n 24 (vB (ab.cellsOf 24) (vC 1 [e,v1,v2]))=xs[1]?:=i 1 _ rfl;have j:mC enc ab w 0 spare held n 5 (vB (ab.cellsOf 5) (vC 2 [e,v1,v2]))=xs[2]?:=i 2 _ rfl;rw[eO ac]at g f1 j;simp only[Kq,ab9,aca,sn,aaz,aaA,aaB]at g f1 j;have⟨ops,ho,l⟩:=akg g;have⟨at_,p,q⟩:=Vk f1;have⟨c,hc,m⟩:=zF j;refine⟨ops,at_,c,ho,p,hc,?_⟩;show bc (mO w) w [.sl 5 (ops.map ku),.sl 1 (at_.map u8),u8 c] _;exact sB (xs:=[.sl 5 (ops.map ku)]) (us:=[e]) l (sB (xs:=[.sl 1 (at_.map u8)]) (us:=[v1]) q m)
end
end Go.Proofs.YtpcofcmencgkbaaGreat
