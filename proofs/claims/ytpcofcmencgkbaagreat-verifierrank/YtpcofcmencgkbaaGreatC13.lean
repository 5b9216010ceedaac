/- For the claim of VerifierRank: parts XUH, LR1, LR2, LR3, LR4, LR5, LR6, LR7, LR9, MXG, LRA, MXH, XUJ, XUK, XUL, XUM, VL35, XUX. -/
import Derived.Test.YtpcofcmencgkbaaGreatC12
import Derived.Test.YtpcofcmencgkbaaGreatC06
import Derived.Test.YtpcofcmencgkbaaGreatC11
import Derived.Test.YtpcofcmencgkbaaGreatC10
import Derived.Test.YtpcofcmencgkbaaGreatC04
import Derived.Deep.Slices
import Derived.Test.YtpcofcmencgkbaaGreatProg
import Derived.Test.YtpcofcmencgkbaaGreatC03
import Derived.Lib.ItoaNum
import Derived.Lib.IndexMore
import Derived.KernelRfl
import Derived.OpenShut
set_option linter.defProp false
set_option linter.unusedSimpArgs false
set_option linter.unusedVariables false
set_option maxRecDepth 100000
open Bool renaming and_eq_true->hJ,and_false->Pz,false_and->nI
open Classical renaming byContradiction->xZ
open Go.DataW renaming trod->kF,trod_int->Z5,trod_struct->PA
open Go.Proofs.Tryz renaming prog->ab
open Go.aF renaming Id->bT,hc->Px
open Go.aF.aN renaming aX->EJ
open Go.aF.aI renaming rat->eb
open Go.aF.ar renaming oT->uw,rat->a6
open Go.aF.aC renaming ofRat->ek,ofRat_mul->yh
open Go.aF.bl renaming append->nK
open Go.aF.aD renaming pM->rh
open Go.aF.c9 renaming cons->cp
open Int renaming natCast_nonneg->vF
open Lean.Grind.Field renaming div_eq_mul_inv->Py
open List renaming all_eq_true->eO,cons_append->sC,contains_iff_mem->pq,drop->rj,drop_succ_cons->PB,drop_zero->iZ,findIdx?_eq_none_iff->Z2,findIdx?_eq_some_iff_getElem->Z1,getD_eq_getElem?_getD->dJ,getElem?_eq_getElem->du,getElem?_eq_none->uh,getElem?_eq_some_iff->eu,getElem?_map->iI,getElem?_set->xX,getElem_drop->Bd,getElem_map->k8,getElem_mem->bc,getElem_range->p9,getElem_zipWith->vK,isEmpty_iff->ra,length_append->cd,length_cons->e6,length_drop->l0,length_filter_le->vU,length_map->aM,length_mapIdx->Bc,length_ofFn->EL,length_pos_iff->hO,length_range->dZ,length_set->ju,length_singleton->kG,length_zipWith->k0,map_cons->hQ,map_drop->Pw,map_eq_nil_iff->eN,map_nil->EI,mem_append->en,mem_append_left->nB,mem_append_right->qY,mem_cons->cr,mem_cons_of_mem->c5,mem_cons_self->cS,mem_filter->kA,mem_iff_getElem->fZ,mem_map->bn,mem_ofFn->Z4,mem_range->cR,mem_singleton->bJ,nil_append->jy,nodup_range->sQ,not_mem_nil->cX,ofFn->JZ,range->ba,take->ri,take_succ_cons->PC,take_zero->PD,zipWith->EK,zipWith_cons_cons->Z3
open Nat renaming le_refl->a4,le_trans->bs,lt_irrefl->yd,lt_of_le_of_lt->gB,lt_of_lt_of_le->fv,mod_eq_of_lt->dG,mod_lt->bC,mul_le_mul_right->c6,not_lt_zero->kC,zero_le->et
open Ne renaming symm->c3
open Option renaming getD_some->JY
set_option maxHeartbeats 4000000
open Go.aF Go.Proofs Go.Lib
namespace Go.Proofs.YtpcofcmencgkbaaGreat
def mI (x:qg):aa := .agg [.int .u8 (x.which:Int), .int .u8 (x.at_:Int), .int .i8 x.cb]
instance {x:qg}:bg (mI x):=by unfold mI;infer_instance
structure yv (x:qg):Prop where
 w:x.which<256
 a:x.at_<256
 b1 : -128<=x.cb
 b2:x.cb<=127
def aod {σ : aL} {i:bT} {A:List (List ar)} {x:List ar} {n:Nat} (h : σ i=some ⟨A.map aj++[aj x],1,false⟩) (a:n=A.length+1):View σ (.ai i 1 0 n false) (az (A++[x])):=by
 have e:az (A++[x]) = .sl 1 (A.map aj++[aj x]):=by unfold az;rw [List.map_append];rfl
 rw [e]
 haveI:cq 1 (A.map aj++[aj x]):=⟨λ c hc=>(en.1 hc).elim (λ h=>by obtain ⟨y,_,rfl⟩:=bn.1 h;infer_instance) (λ h=>by rw [bJ.1 h];infer_instance)⟩
 exact im h (by rw [cd,aM];exact a.symm)
section
variable (G:Nat->Option (List aa))
def aed {n:Nat} (h:0<n):decide ((n:Int)>0)=true:=decide_eq_true (by omega)
def B2 {α : Type} {f : α -> aa} {l:List α} (h:l≠[]):decide ((((l.map f).length:Nat):Int)>0)=true:=by rw [aM];exact aed (hO.2 h)
noncomputable def yK (k:Nat):(l:List Int)->l.length<=4000->List (aZ ab G)
 | [],_=>[]
 | a::t,h=>[mj k 1 8 ((a::t).map bU) (by simp) (by rw [aM];omega)]
noncomputable def KH (i:bT):List Int->aa
 | [] => .dQ 1 []
 | a::t => .ai i 1 0 ((a::t).map bU).length false
noncomputable def gh (i:bT):List Int->List (bT × aN)
 | []=>[]
 | a::t=>[(i,⟨(a::t).map bU,1,false⟩)]
noncomputable def N4 (i:bT):List Int->aa
 | [] => .aq
 | [_] => .sl 1 []
 | a::b::t => .ai i 1 1 (t.length+1) false
structure ig (K:List (bT × aN)) (A a:aa):Prop where
 fix:A.aX (bN 0 [0] fun _=>[])=A
 view:∀ σ : aL,(∀ x∈K, σ x.1=some x.2)->View σ A a
def ig.p {K:List (bT × aN)} {a:aa} [bg a]:ig K a a:=⟨bg.fix _, λ _ _=>View.pure bg.pure⟩
def ig.o {K:List (bT × aN)} {i:bT} {l:List Int} {n:Nat} (h:(i,(⟨l.map bU,1,false⟩:aN))∈K) (a:bN 0 [0] (λ _=>[]) i=i) (c:n=l.length):ig K (.ai i 1 0 n false) (kP l) :=
 ⟨by show aa.ai _ _ _ _ _=_;rw [a], λ σ d=>im (d _ h) (by rw [aM];exact c.symm)⟩
def ig.c {K:List (bT × aN)} {i:bT}:∀ {l:List Int},(∀ x∈gh i l,x∈K)->bN 0 [0] (λ _=>[]) i=i->ig K (KH i l) (kP l)
 | [],_,_=>⟨rfl, λ _ _=>View.DD 1⟩
 | _::_,h,a=>ig.o (h _ cS) a (aM ..)
def ig.t {K:List (bT × aN)} {i:bT} {l:List Int} (h:(i,(⟨l.map bU,1,false⟩:aN))∈K) (g:bN 0 [0] (λ _=>[]) i=i) (e:l≠[]):ig K (N4 i l) (kP (l.drop 1)):=by
 rcases l with _ | ⟨a,_ | ⟨b,t⟩⟩
 exact (e rfl).elim
 exact ig.p (K:=K) (a := .sl 1 [])
 refine ⟨by show aa.ai _ _ _ _ _=_;rw [g];rfl, λ σ f=>View.ai (au:=⟨(a::b::t).map bU,1,false⟩) (f _ h) rfl (by simp;omega) ?_ (by simp) λ d hd=>by obtain ⟨y,_,rfl⟩:=bn.1 hd;rfl⟩
 rw [<- Pw,List.take_of_length_le (by simp)]
 refine c9.pure λ c hc => ?_
 have ⟨x,j,hc⟩:=List.mem_flatMap.1 hc
 obtain ⟨y,_,rfl⟩:=bn.1 j
 rw [bJ.1 hc];exact bg.pure
def Wl {i:bT}:∀ {l:List Int},l≠[]->iq 1 (.ai i 1 0 (l.map bU).length false) (some (.int .i64 1)) none none=some (N4 i l)
 | [],h=>(h rfl).elim
 | [_],_=>rfl
 | a :: b::t,_=>by
   have c:iD (((a::b::t).map bU).length) (some (.int .i64 1)) none=some (1,t.length+2):=by
     unfold iD kz
     simp only [aM,e6]
     rw [if_pos ⟨by decide,by omega⟩]
     rfl
   unfold iq
   simp only [c]
   rw [if_pos trivial]
   simp [N4]
structure PN (K:cT) (q n:Nat) (c:fG):Prop where
 G:c.G K n
 cL:c.rows.length<=4000
 fA:c.bt.length<=4000
 i9:c.inv.length<=4000
 lR:c.cj.length<=4000
 Cu:c.bh.length<=4000
 C9:∀ z∈c.rows, -9000<=z/\z<=9000
 bL:∀ z∈c.bt, -9000<=z/\z<=9000
 rc:c.rows≠[]->c.bt≠[]
 zl:∃ w,w<=4000/\∀ r∈c.inv,r.length=w
 zL:∃ w,w<=4000/\∀ r∈c.cj,r.length=w
 zn:∃ w,w<=4000/\∀ r∈c.bh,r.length=w
 iw:bO K q n
 wy:bO K q 8
variable {K:cT} {q e r:Nat} (F:gG K q e r) {n:Nat} {c:fG} {x:qg}
noncomputable def KD (c:fG) (x:qg):Nat->fG
 | 1=>{ c with inv:=pU c.inv x.at_ x.cb }
 | 2=>{ c with cj:=pU c.cj x.at_ x.cb }
 | 3=>{ c with bh:=pU c.bh x.at_ x.cb }
 | 4=>if c.rows=[] then c else { c with rows:=c.rows.set (x.at_%c.rows.length) (c.rows.getD (x.at_%c.rows.length) 0+x.cb) }
 | 5=>if c.bt=[] then c else { c with bt:=c.bt.set (x.at_%c.bt.length) (c.bt.getD (x.at_%c.bt.length) 0+x.cb) }
 | 6=>if c.rows=[] then c else { c with rows:=c.rows.drop 1,bt:=c.bt.drop 1 }
 | 7=>{ c with bh:=c.bh.drop 1 }
 | 8=>if c.cj=[] then c else { c with cj:=c.cj++[c.cj.getD 0 []] }
 | _=>c
def acb {k:Nat} (a:x.which%9=k):nO c x=KD c x k:=by
 subst a;unfold nO KD;rfl
def FE {k cs:List Int} {j iN f:List (List ar)} (g:List (aZ ab G)) (K:List (bT × aN)) {A B I O E a b i o e:aa} (gU:ig K A a) (p2:ig K B b) (p:ig K I i) (l:ig K O o) (m:ig K E e)
   (s:mE (ao 14).results (K++rest K []) (mC (ao 14) [gl ⟨k,cs,j,iN,f⟩,mI x] g)=mD (.agg [A,B,I,O,E]) (K++rest K []) (mC (ao 14) [gl ⟨k,cs,j,iN,f⟩,mI x] g))
   (t:dX (bN 0 [0] λ _=>[]) K=K) (hd:(K.map (·.1)).Nodup):ag ab G 14 [gl ⟨k,cs,j,iN,f⟩,mI x] (.agg [a,b,i,o,e]) :=
 ag.pc aY g K _ s t (by simp only [aa.aX,bx,gU.fix,p2.fix,p.fix,l.fix,m.fix]) hd λ σ h => .agg (.cons (gU.view σ h) (.cons (p2.view σ h) (.cons (p.view σ h) (.cons (l.view σ h) (.cons (m.view σ h) .nil)))))
def acE {b cs:List Int} {a:List (bT × aN)} (h:dX (bN 0 [0] λ _=>[]) a=a):dX (bN 0 [0] λ _=>[]) (gh [6,0] b++(gh [10,0] cs++a))=gh [6,0] b++(gh [10,0] cs++a):=by
 rw [vp,vp,h]
 cases b<;>cases cs<;>simp only [gh,dX,hQ,EI,EJ,br.fix]<;>rfl
def qm {a cs:List Int} {g iN f:List (List ar)} {k:Nat} (m:a.length<=4000) (j:cs.length<=4000) (l:x.which%9=k) (t:List (aZ ab G)) (b:List (bT × aN)) {I O E i o e:aa} (s:ig (gh [6,0] a++(gh [10,0] cs++b)) I i) (w:ig (gh [6,0] a++(gh [10,0] cs++b)) O o) (p:ig (gh [6,0] a++(gh [10,0] cs++b)) E e) (v:dX (bN 0 [0] λ _=>[]) b=b) (hd:((gh [6,0] a++(gh [10,0] cs++b)).map (·.1)).Nodup)
   (u:mE (ao 14).results (gh [6,0] a++(gh [10,0] cs++b)++rest (gh [6,0] a++(gh [10,0] cs++b)) []) (mC (ao 14) [gl ⟨a,cs,g,iN,f⟩,mI x] (yK G 8 a m++(yK G 12 cs j++ti 17 .u8 x.which 9 k l::t)))=mD (.agg [KH [6,0] a,KH [10,0] cs,I,O,E]) (gh [6,0] a++(gh [10,0] cs++b)++rest (gh [6,0] a++(gh [10,0] cs++b)) []) (mC (ao 14) [gl ⟨a,cs,g,iN,f⟩,mI x] (yK G 8 a m++(yK G 12 cs j++ti 17 .u8 x.which 9 k l::t)))) :
   ag ab G 14 [gl ⟨a,cs,g,iN,f⟩,mI x] (.agg [kP a,kP cs,i,o,e]) :=
 FE G _ _ (ig.c (λ x h=>nB _ h) rfl) (ig.c (λ x h=>qY _ (nB _ h)) rfl) s w p u (acE v) hd
def rD {a cs:List Int}:((gh [6,0] a++(gh [10,0] cs++([]:List (bT × aN)))).map (·.1)).Nodup:=by cases a<;>cases cs<;>simp [gh]
def ab5 {b cs:List Int} {k iN s:List (List ar)} (u:x.which%9=4) (S:yv x) (D:b.length<=4000) (w:cs.length<=4000) (j:b≠[]) (v:∀ z∈b, -9000<=z/\z<=9000) (d:x.at_%b.length<b.length):ag ab G 14 [gl ⟨b,cs,k,iN,s⟩,mI x] (gl ⟨(b.set (x.at_%b.length) (b[x.at_%b.length]+x.cb)),cs,k,iN,s⟩):=by
 have t:=hO.2 j
 have g:x.at_%b.length<(b.map bU).length:=by rw [aM];exact d
 have hv : -9000<=b[x.at_%b.length]'d/\b[x.at_%b.length]'d<=9000:=v _ (bc d)
 have C:=S.a
 have y:=S.b1
 have A:=S.b2
 exact FE G ([mj 8 1 8 (b.map bU) (λ e=>j (eN.1 e)) (by rw [aM];omega)]++(yK G 12 cs w++[ti 17 .u8 x.which 9 4 u,hb 56 (B2 (f:=bU) j),hw 61 (lY (x.at_:Int) (by omega) (by omega)),th 65 .i64 bU b x.at_ t,dM 66 1 [6,0] false (b.map bU).length (x.at_%b.length) g,g6 67 1 false [6,0] 1 bU b (x.at_%b.length) (bU b[x.at_%b.length]) d,hw 70 (lY x.cb (by omega) (by omega)),hw 71 (lY (b[x.at_%b.length]+x.cb) (by omega) (by omega)),dM 72 1 [6,0] false (b.map bU).length (x.at_%b.length) g,nX 72 1 [6,0] 1 bU b (x.at_%b.length) (b[x.at_%b.length]+x.cb) _ rfl d])) (([⟨[6,0],⟨(b.set (x.at_%b.length) (b[x.at_%b.length]+x.cb)).map bU,1,false⟩⟩]:List (bT × aN))++gh [10,0] cs) (ig.o (i:=[6,0]) (l:=(b.set (x.at_%b.length) (b[x.at_%b.length]+x.cb))) (n:=(b.map bU).length) (by simp) rfl (by rw [aM,ju])) (ig.c (λ x h=>qY _ h) rfl) .p .p .p (by cases cs<;>kernel_rfl) (by cases cs<;>simp only [gh,dX,sC,jy,hQ,EI,EJ,br.fix]<;>rfl) (by cases cs<;>simp [gh])
def ab6 {b cs:List Int} {m iN s:List (List ar)} (v:x.which%9=5) (S:yv x) (w:b.length<=4000) (C:cs.length<=4000) (j:cs≠[]) (u:∀ z∈cs, -9000<=z/\z<=9000) (d:x.at_%cs.length<cs.length):ag ab G 14 [gl ⟨b,cs,m,iN,s⟩,mI x] (gl ⟨b,(cs.set (x.at_%cs.length) (cs[x.at_%cs.length]+x.cb)),m,iN,s⟩):=by
 have t:=hO.2 j
 have g:x.at_%cs.length<(cs.map bU).length:=by rw [aM];exact d
 have hv : -9000<=cs[x.at_%cs.length]'d/\cs[x.at_%cs.length]'d<=9000:=u _ (bc d)
 have D:=S.a
 have y:=S.b1
 have A:=S.b2
 exact FE G (yK G 8 b w++([mj 12 1 8 (cs.map bU) (λ e=>j (eN.1 e)) (by rw [aM];omega)]++[ti 17 .u8 x.which 9 5 v,hb 78 (B2 (f:=bU) j),hw 83 (lY (x.at_:Int) (by omega) (by omega)),th 87 .i64 bU cs x.at_ t,dM 88 1 [10,0] false (cs.map bU).length (x.at_%cs.length) g,g6 89 1 false [10,0] 1 bU cs (x.at_%cs.length) (bU cs[x.at_%cs.length]) d,hw 92 (lY x.cb (by omega) (by omega)),hw 93 (lY (cs[x.at_%cs.length]+x.cb) (by omega) (by omega)),dM 94 1 [10,0] false (cs.map bU).length (x.at_%cs.length) g,nX 94 1 [10,0] 1 bU cs (x.at_%cs.length) (cs[x.at_%cs.length]+x.cb) _ rfl d])) (gh [6,0] b++([⟨[10,0],⟨(cs.set (x.at_%cs.length) (cs[x.at_%cs.length]+x.cb)).map bU,1,false⟩⟩]:List (bT × aN))) (ig.c (λ x h=>nB _ h) rfl) (ig.o (i:=[10,0]) (l:=(cs.set (x.at_%cs.length) (cs[x.at_%cs.length]+x.cb))) (n:=(cs.map bU).length) (by simp) rfl (by rw [aM,ju])) .p .p .p (by cases b<;>kernel_rfl) (by cases b<;>simp only [gh,dX,sC,jy,hQ,EI,EJ,br.fix]<;>rfl) (by cases b<;>simp [gh])
def ab7 {d cs:List Int} {j iN h:List (List ar)} (l:x.which%9=6) (m:d.length<=4000) (o:cs.length<=4000) (g:d≠[]) (hc:cs≠[]):ag ab G 14 [gl ⟨d,cs,j,iN,h⟩,mI x] (gl ⟨d.drop 1,cs.drop 1,j,iN,h⟩) :=
 FE G [mj 8 1 8 (d.map bU) (λ e=>g (eN.1 e)) (by rw [aM];omega),mj 12 1 8 (cs.map bU) (λ e=>hc (eN.1 e)) (by rw [aM];omega),ti 17 .u8 x.which 9 6 l,hb 100 (B2 (f:=bU) g),ho 103 (Wl (i:=[6,0]) g),ho 106 (Wl (i:=[10,0]) hc)] [([6,0],⟨d.map bU,1,false⟩),([10,0],⟨cs.map bU,1,false⟩)] (ig.t (i:=[6,0]) (by simp) rfl g) (ig.t (i:=[10,0]) (by simp) rfl hc) .p .p .p (by rcases d with _ | ⟨a,_ | ⟨b,t⟩⟩<;>rcases cs with _ | ⟨a',_ | ⟨u,s⟩⟩<;>first | exact (g rfl).elim | exact (hc rfl).elim | kernel_rfl) (by simp only [dX,hQ,EI,EJ,br.fix]<;>rfl) (by simp)
include F in
theorem ahI (H:PN K q n c) (S:yv x):ag ab G 14 [gl c,mI x] (gl (nO c x)):=by
 obtain ⟨arq,aoT,zl⟩:=H.zl
 obtain ⟨ars,ao3,zL⟩:=H.zL
 obtain ⟨gV,aoU,zn⟩:=H.zn
 have s1:=Ml G F (at_:=x.at_) (cb:=x.cb) zl H.i9 aoT H.G.inv S.a S.b1 S.b2 H.iw H.wy
 have s2:=Ml G F (at_:=x.at_) (cb:=x.cb) zL H.lR ao3 H.G.cj S.a S.b1 S.b2 H.iw H.wy
 have xC:=Ml G F (at_:=x.at_) (cb:=x.cb) zn H.Cu aoU H.G.bh S.a S.b1 S.b2 H.iw H.wy
 have cL:=H.cL
 have fA:=H.fA
 have lR:=H.lR
 have C9:=H.C9
 have bL:=H.bL
 have rc:=H.rc
 have w:=lY (x.at_:Int) (by omega) (by have:=S.a;omega)
 clear H zl zL zn
 have hcs:x.which%9=0 \/ x.which%9=1 \/ x.which%9=2 \/ x.which%9=3 \/ x.which%9=4 \/ x.which%9=5 \/ x.which%9=6 \/ x.which%9=7 \/ x.which%9=8:=by omega
 obtain ⟨rs,cs,gz,iN,agY⟩:=c
 simp only at *
 rcases hcs with hk | hk | hk | hk | hk | hk | hk | hk | hk<;>rw [acb hk]<;>simp only [KD]
 . exact qm G cL fA hk [] [] .p .p .p rfl rD (by cases rs<;>cases cs<;>kernel_rfl)
 . exact qm G cL fA hk [hw 24 w,Px s1] [] .p .p .p rfl rD (by cases rs<;>cases cs<;>kernel_rfl)
 . exact qm G cL fA hk [hw 35 w,Px s2] [] .p .p .p rfl rD (by cases rs<;>cases cs<;>kernel_rfl)
 . exact qm G cL fA hk [hw 46 w,Px xC] [] .p .p .p rfl rD (by cases rs<;>cases cs<;>kernel_rfl)
 . by_cases hr:rs=[]
   . rw [if_pos hr];subst hr
     exact qm G cL fA hk [] [] .p .p .p rfl rD (by cases cs<;>kernel_rfl)
   . have hm:=bC x.at_ (hO.2 hr)
     rw [if_neg hr,bj hm]
     exact ab5 G hk S cL fA hr C9 hm
 . by_cases hr:cs=[]
   . rw [if_pos hr];subst hr
     exact qm G cL fA hk [] [] .p .p .p rfl rD (by cases rs<;>kernel_rfl)
   . have hm:=bC x.at_ (hO.2 hr)
     rw [if_neg hr,bj hm]
     exact ab6 G hk S cL fA hr bL hm
 . by_cases hr:rs=[]
   . rw [if_pos hr];subst hr
     exact qm G cL fA hk [] [] .p .p .p rfl rD (by cases cs<;>kernel_rfl)
   . rw [if_neg hr]
     exact ab7 G hk cL fA hr (rc hr)
 . rcases agY with _ | ⟨a,t⟩
   . exact qm G cL fA hk [] [] .p .p .p rfl rD (by cases rs<;>cases cs<;>kernel_rfl)
   . have sl:=Wo (c:=1) (es:=(a::t).map aj) (lo:=1) (by rw [aM];simp)
     rw [<- Pw] at sl
     exact qm G cL fA hk [hb 114 (B2 (f:=aj) (l:=a::t) (by simp)),ho 117 sl] [] .p .p .p rfl rD (by cases rs<;>cases cs<;>kernel_rfl)
 . rcases iN with _ | ⟨a,t⟩
   . exact qm G cL fA hk [] [] .p .p .p rfl rD (by cases rs<;>cases cs<;>kernel_rfl)
   . have hn:(a::t).map aj≠[]:=by simp
     rw [if_neg (by simp)]
     exact qm G cL fA hk [hb 124 (B2 (f:=aj) (l:=a::t) (by simp)),mj 128 1 24 ((a::t).map aj) hn (by rw [aM];omega),aQ 131 1 aj (l:=a::t) (i:=0) (by simp),jY 134 1 24 [41,0] 46 ((a::t).map aj) (aj a) (by rw [aM];omega) (fU (k:=1))] [([47,0],⟨(a::t).map aj++[aj a],1,false⟩)] .p (O := .ai [47,0] 1 0 (((a::t).map aj).length+1) false) ⟨rfl,fun σ fJ=>aod (fJ ([47,0],⟨(a::t).map aj++[aj a],1,false⟩) (by simp)) (by rw [aM])⟩ .p (by simp only [dX,hQ,EI,EJ,br.fix]<;>rfl) (by cases rs<;>cases cs<;>simp [gh]) (by cases rs<;>cases cs<;>kernel_rfl)
end
end Go.Proofs.YtpcofcmencgkbaaGreat
namespace Go.aF.E9
noncomputable section
open Classical
def cC:Nat->(Nat->aC)->aC
 | 0,_=>0
 | n+1,f=>cC n f+f n
def fX {n:Nat} {f g:Nat->aC} (h:∀ i,i<n->f i=g i):cC n f=cC n g:=by
 induction n with
 | zero=>rfl
 | succ n a=>rw [cC,cC,a λ i b=>h i (by omega),h n (by omega)]
def tP (n:Nat):cC n (λ _=>0)=0:=by
 induction n with
 | zero=>rfl
 | succ n a=>rw [cC,a];grind
def ID (n:Nat) (f g:Nat->aC):cC n (λ i=>f i+g i)=cC n f+cC n g:=by
 induction n with
 | zero=>simp only [cC];grind
 | succ n a=>rw [cC,cC,cC,a];grind
def pV (n:Nat) (c:aC) (f:Nat->aC):cC n (λ i=>c*f i)=c*cC n f:=by
 induction n with
 | zero=>rw [cC,cC];grind
 | succ n a=>rw [cC,cC,a];grind
def IE (n:Nat) (c:aC) (f:Nat->aC):cC n (λ i=>f i*c)=cC n f*c:=by
 induction n with
 | zero=>rw [cC,cC];grind
 | succ n a=>rw [cC,cC,a];grind
def xI (n m:Nat) (f:Nat->Nat->aC):cC n (λ i=>cC m λ j=>f i j)=cC m λ j=>cC n λ i=>f i j:=by
 induction n with
 | zero=>simp only [cC];rw [tP]
 | succ n a=>simp only [cC];rw [a,ID]
def Af {n k:Nat} (e:k<n) (f:Nat->aC) (h:∀ i,i<n->i≠k->f i=0):cC n f=f k:=by
 induction n with
 | zero=>omega
 | succ n c =>
   rw [cC]
   by_cases a:k=n
   subst a
   rw [fX (g := λ _=>0) λ i d=>h i (by omega) (by omega),tP];grind
   rw [c (by omega) λ i d b=>h i (by omega) b,h n (by omega) (by omega)];grind
def bj {α : Type} {l:List α} {i:Nat} {d : α} (h:i<l.length):l.getD i d=l[i]:=by rw [dJ,du h,JY]
abbrev fk:=List (List aC)
def cO (m:fk) (i k:Nat):aC:=(m.getD i []).getD k 0
def jE (n w:Nat) (m:fk) (v:Nat->aC):Prop:=∃ y:Nat->aC,∀ k,k<w->v k=cC n λ j=>y j*cO m j k
def jE.row {n w i:Nat} (m:fk) (b:i<n):jE n w m (cO m i):=⟨λ j=>if j=i then 1 else 0, λ k c=>by
 rw [Af b _ (λ j d a=>by show (if j=i then (1:aC) else 0)*_=0;rw [if_neg a];grind)];show _=(if i=i then (1:aC) else 0)*_;rw [if_pos rfl];grind⟩
def jE.congr {n w:Nat} {m:fk} {u v:Nat->aC} (h:jE n w m u) (e:∀ k,k<w->v k=u k):jE n w m v:=by
 have ⟨y,b⟩:=h
 exact ⟨y, λ k a=>by rw [e k a,b k a]⟩
def jE.smul {n w:Nat} {m:fk} {v:Nat->aC} (c:aC) (h:jE n w m v):jE n w m λ k=>c*v k:=by
 have ⟨y,b⟩:=h
 exact ⟨λ j=>c*y j, λ k a=>by show c*v k=_;rw [b k a, <- pV];exact fX λ i _=>by grind⟩
def jE.add {n w:Nat} {m:fk} {u v:Nat->aC} (h:jE n w m u) (d:jE n w m v):jE n w m λ k=>u k+v k:=by
 have ⟨y,b⟩:=h
 have ⟨z,c⟩:=d
 exact ⟨λ j=>y j+z j, λ k a=>by show u k+v k=_;rw [b k a,c k a, <- ID];exact fX λ i _=>by grind⟩
def jE.trans {n w:Nat} {m c:fk} {v:Nat->aC} (h:jE n w c v) (b:∀ j,j<n->jE n w m (cO c j)):jE n w m v:=by
 have ⟨y,e⟩:=h
 refine ⟨λ i=>cC n λ j=>y j*(if a:j<n then (b j a).choose i else 0), λ k d => ?_⟩
 rw [e k d,fX (g := λ j=>cC n λ i=>y j*(if a:j<n then (b j a).choose i else 0)*cO m i k) λ j a=>by
   rw [(b j a).choose_spec k d, <- pV]
   exact fX λ i _=>by rw [dif_pos a];grind]
 rw [xI]
 exact fX λ i _=>by rw [<- IE]
def wH (top:List aC) (k:Nat) (r:List aC):List aC:=if r.getD k 0=0 then r else EK (λ x y=>x-y*r.getD k 0) r top
def swp (m:fk) (t p:Nat):fk:=(m.set t (m.getD p [])).set p (m.getD t [])
def sk (r:List aC) (k:Nat):List aC:=r.map (· / r.getD k 0)
def ob (m:fk) (t k p:Nat):fk:=(ba m.length).map λ i=>if i=t then sk (m.getD p []) k else wH (sk (m.getD p []) k) k ((swp m t p).getD i [])
def qs (m:fk) (t k:Nat):Option Nat:=((m.drop t).findIdx? λ r=>decide (r.getD k 0≠0)).map (· + t)
def elim (m:fk):Nat->fk × List Nat
 | 0=>(m,[])
 | k+1=>match qs (elim m k).1 (elim m k).2.length k with
   | none=>elim m k
   | some p=>(ob (elim m k).1 (elim m k).2.length k p,(elim m k).2++[k])
def adL {m:fk} {t k p:Nat} (h:qs m t k=some p):t<=p/\p<m.length/\cO m p k≠0/\∀ i,t<=i->i<p->cO m i k=0:=by
 unfold qs at h
 obtain ⟨q,b,rfl⟩:=Option.map_eq_some_iff.1 h
 rw [Z1] at b
 have ⟨c,a,hb⟩:=b
 rw [l0] at c
 refine ⟨by omega,by omega, ?_, ?_⟩
 rw [Bd] at a
 have a:=of_decide_eq_true a
 unfold cO
 rw [bj (show q+t<m.length by omega)]
 have e:t+q=q+t:=Nat.add_comm _ _
 simp only [e] at a
 exact a
 intro i h1 d
 have:=hb (i-t) (by omega)
 rw [Bd] at this
 have e:t+(i-t)=i:=by omega
 simp only [e] at this
 unfold cO
 rw [bj (show i<m.length by omega)]
 simpa using this
def adK {m:fk} {t k:Nat} (h:qs m t k=none) {i:Nat} (h1:t<=i) (a:i<m.length):cO m i k=0:=by
 unfold qs at h
 rw [Option.map_eq_none_iff,Z2] at h
 have:=h (m[i]) (by rw [fZ];exact ⟨i-t,by rw [l0];omega,by rw [Bd];congr 1;omega⟩)
 unfold cO
 rw [bj a]
 simpa using this
def WS {m:fk} {t k p:Nat}:(ob m t k p).length=m.length:=by simp [ob]
def WR {m:fk} {t k p i:Nat} (a:i<m.length):(ob m t k p).getD i []=if i=t then sk (m.getD p []) k else wH (sk (m.getD p []) k) k ((swp m t p).getD i []):=by
 simp [ob,dJ,a]
def Xl {r:List aC} {k j:Nat}:(sk r k).getD j 0=r.getD j 0/r.getD k 0:=by
 unfold sk
 generalize r.getD k 0=c
 rw [dJ,iI,dJ]
 cases r[j]? with
 | none=>show (0:aC)=0/c;rw [Py];grind
 | some x=>rfl
def aci {top r:List aC} {k j:Nat} (h:top.length=r.length):(wH top k r).getD j 0=r.getD j 0-top.getD j 0*r.getD k 0:=by
 unfold wH
 split
 rename_i b;rw [b];grind
 generalize r.getD k 0=c
 by_cases a:j<r.length
 rw [bj (show j<(EK (λ x y=>x-y*c) r top).length by rw [k0];omega),bj a,bj (show j<top.length by omega),vK]
 rw [dJ,dJ,dJ,uh (by rw [k0];omega),uh (by omega),uh (by omega)];simp only [Option.getD_none];grind
def acj {top r:List aC} {k:Nat} (h:top.length=r.length):(wH top k r).length=r.length:=by
 unfold wH;split
 rfl
 rw [k0];omega
def N6 {r:List aC} {k:Nat}:(sk r k).length=r.length:=by simp [sk]
def NN {m:fk} {t p i:Nat} (c:t<m.length) (b:p<m.length):(swp m t p).getD i []=m.getD (if i=p then t else if i=t then p else i) []:=by
 unfold swp
 simp only [dJ,xX,ju]
 by_cases h1:p=i
 subst h1;simp [b]
 rw [if_neg h1,if_neg (show ¬ i=p from λ e=>h1 e.symm)]
 by_cases a:t=i
 subst a;simp [c]
 rw [if_neg a,if_neg (show ¬ i=t from λ e=>a e.symm)]
def sV (w:Nat) (m:fk):Prop:=∀ r∈m,r.length=w
def sV.at {w:Nat} {m:fk} (h:sV w m) {i:Nat} (a:i<m.length):(m.getD i []).length=w:=by
 rw [bj a];exact h _ (bc a)
def ang {w t k p:Nat} {m:fk} (h:sV w m) (c:t<m.length) (b:p<m.length) {i:Nat} (e:i<m.length) (j:Nat) :
   cO (ob m t k p) i j=if i=t then cO m p j/cO m p k else cO m (if i=p then t else i) j-cO m p j/cO m p k*cO m (if i=p then t else i) k:=by
 unfold cO
 rw [WR e]
 by_cases a:i=t
 rw [if_pos a,if_pos a,Xl]
 have d:(if i=p then t else i)<m.length:=by split<;>assumption
 rw [if_neg a,if_neg a,NN c b,if_neg a,aci (by rw [N6,h.at b,h.at d]),Xl]
def anh {w t k p:Nat} {m:fk} (h:sV w m) (f:t<m.length) (b:p<m.length):sV w (ob m t k p):=by
 intro r g
 obtain ⟨i,e,rfl⟩:=fZ.1 g
 rw [WS] at e
 rw [<- bj (d:=[]),WR e]
 split
 rw [N6,h.at b]
 rename_i a
 have c:(if i=p then t else i)<m.length:=by split<;>assumption
 rw [NN f b,if_neg a,acj (by rw [N6,h.at b,h.at c]),h.at c]
def BX {α : Type} {l:List α} {a d : α} {i:Nat} (h:i<l.length):(l++[a]).getD i d=l.getD i d:=by rw [bj h,bj (by rw [cd];omega),List.getElem_append_left]
def BZ {α : Type} {l:List α} {a d : α}:(l++[a]).getD l.length d=a:=by rw [bj (by simp)];simp
structure qc (n w k:Nat) (A m:fk) (pv:List Nat):Prop where
 Nd:sV w m
 len:m.length=n
 to:∀ i,i<n->jE n w A (cO m i)
 back:∀ i,i<n->jE n w m (cO A i)
 xo:pv.length<=n
 xn:∀ s,s<pv.length->pv.getD s 0<k
 one:∀ s,s<pv.length->∀ i,i<n->cO m i (pv.getD s 0)=if i=s then 1 else 0
 lead:∀ s,s<pv.length->∀ j,j<pv.getD s 0->cO m s j=0
 low:∀ i,pv.length<=i->i<n->∀ j,j<k->cO m i j=0
def Ri {x:aC} (h:x≠0):x/x=1:=by rw [Py];exact aC.tH h
def qc.step {n w k p:Nat} {A m:fk} {g:List Nat} (h:qc n w k A m g) (Q:k<w) (N:qs m g.length k=some p):qc n w (k+1) A (ob m g.length k p) (g++[k]):=by
 have ⟨M,v,r,P⟩:=adL N
 have L:=h.len
 have H:g.length<m.length:=by omega
 have d := λ (i:Nat) (f:i<n) (j:Nat)=>ang (k:=k) h.Nd H v (i:=i) (by omega) j
 generalize e:g.length=t at *
 have E:∀ i,i<n->(if i=p then t else i)<n := λ i f=>by split<;>omega
 have z:∀ j,j<k->cO m p j=0 := λ j o=>h.low p (by omega) (by omega) j o
 refine ⟨anh h.Nd H v,by rw [WS,L], ?_, ?_,by rw [cd,kG];omega, ?_, ?_, ?_, ?_⟩
 intro i f
 by_cases c:i=t
 refine ((h.to p (by omega)).smul (1/cO m p k)).congr λ j _ => ?_
 rw [d i f j,if_pos c];grind
 refine ((h.to _ (E i f)).add ((h.to p (by omega)).smul (-(cO m (if i=p then t else i) k/cO m p k)))).congr λ j _ => ?_
 rw [d i f j,if_neg c];grind
 intro i f
 refine (h.back i f).trans λ a J => ?_
 have I:=jE.row (n:=n) (w:=w) (ob m t k p) (i:=t) (by omega)
 have O:∀ j,cO m p j=cO m p k*cO (ob m t k p) t j := λ j=>by rw [d t (by omega) j,if_pos rfl];grind
 by_cases y:a=p
 subst y
 exact (I.smul (cO m a k)).congr λ j _=>O j
 ·
   have hb:∃ b,b<n/\b≠t/\(if b=p then t else b)=a:=by
     by_cases G:a=t
     exact ⟨p,by omega,by omega,by rw [if_pos rfl];omega⟩
     exact ⟨a,J,G,by rw [if_neg y]⟩
   have ⟨b,x,D,C⟩:=hb
   refine ((jE.row (n:=n) (w:=w) (ob m t k p) x).add (I.smul (cO m a k))).congr λ j _ => ?_
   rw [d b x j,if_neg D,C,d t (by omega) j,if_pos rfl];grind
 intro s u
 rw [cd,kG,e] at u
 by_cases q:s<t
 rw [BX (by omega)]
 have:=h.xn s ;omega
 rw [show s=g.length by omega,BZ]
 omega
 intro s u i f
 rw [cd,kG,e] at u
 by_cases q:s<t
 rw [BX (by omega)]
 have h1:=h.xn s (by omega)
 have B:=h.one s (by omega)
 rw [d i f]
 have K:cO m p (g.getD s 0)=0:=z _ h1
 rw [K]
 by_cases c:i=t
 rw [if_pos c,if_neg (by omega)];grind
 rw [if_neg c,B _ (E i f)]
 by_cases l:i=s
 rw [if_pos l,if_neg (show ¬ i=p by omega),if_pos l];grind
 rw [if_neg l,if_neg (show ¬ (if i=p then t else i)=s by split<;>omega)];grind
 have:s=t:=by omega
 subst this
 rw [show (g++[k]).getD s 0=k by rw [<- e];exact BZ]
 rw [d i f,Ri r]
 by_cases c:i=s
 rw [if_pos c,if_pos c]
 rw [if_neg c,if_neg c];grind
 intro s u j o
 rw [cd,kG,e] at u
 by_cases q:s<t
 rw [BX (by omega)] at o
 have h1:=h.xn s
 rw [d s (by omega),if_neg (by omega),if_neg (by omega),h.lead s (by omega) j o,z j (by omega)];grind
 have:s=t:=by omega
 subst this
 rw [show (g++[k]).getD s 0=k by rw [<- e];exact BZ] at o
 rw [d s (by omega),if_pos rfl,z j o];grind
 intro i h1 B j o
 rw [cd,kG,e] at h1
 rw [d i B,if_neg (by omega)]
 by_cases F:j=k
 subst F;rw [Ri r];grind
 rw [z j (by omega),h.low _ (by split<;>omega) (E i B) j (by omega)];grind
def qc.skip {n w k:Nat} {A m:fk} {a:List Nat} (h:qc n w k A m a) (d:qs m a.length k=none):qc n w (k+1) A m a :=
 ⟨h.Nd,h.len,h.to,h.back,h.xo, λ s e=>by have:=h.xn s e;omega,h.one,h.lead, λ i h1 c j f=>by
   by_cases b:j=k
   subst b;exact adK d h1 (by rw [h.len];exact c)
   exact h.low i h1 c j (by omega)⟩
def KX {w:Nat} {A:fk} (h:sV w A):∀ k,k<=w->qc A.length w k A (elim A k).1 (elim A k).2
 | 0,_=>⟨h,rfl, λ i b=>jE.row A b, λ i b=>jE.row A b,et _, λ s a=>absurd a (kC _), λ s a=>absurd a (kC _), λ s a=>absurd a (kC _), λ i _ _ j e=>absurd e (kC _)⟩
 | k+1,f=>by
   have d:=KX h k (by omega)
   unfold elim
   cases c:qs (elim A k).1 (elim A k).2.length k with
   | none=>exact d.skip c
   | some p=>exact d.step (by omega) c
def Du (m:fk) (a:List Nat) (n:Nat) (k:Nat):aC:=match a.findIdx? (· == k) with | some s=>cO m s n | none=>0
def amY {n w c:Nat} {A m:fk} {a:List Nat} (h:qc n w c A m a) {s:Nat} (b:s<a.length) (q:Nat):Du m a q (a.getD s 0)=cO m s q:=by
 unfold Du
 have:a.findIdx? (· == a.getD s 0)=some s:=by
   rw [Z1]
   refine ⟨b,by rw [bj b];exact beq_self_eq_true _, λ j g => ?_⟩
   have h1:=h.one s b s (by have:=h.xo;omega)
   have f:=h.one j (by omega) s (by have:=h.xo;omega)
   rw [if_pos rfl] at h1
   rw [if_neg (show ¬ s=j by omega)] at f
   rw [beq_iff_eq,bj b]
   intro e
   rw [bj (show j<a.length by omega),e, <- bj (d:=0) b,h1] at f
   grind
 rw [this]
def amX {m:fk} {a:List Nat} {q k:Nat} (h:k ∉ a):Du m a q k=0:=by
 unfold Du
 rw [Z2.2 λ x b=>by rw [beq_eq_false_iff_ne];rintro rfl;exact h b]
def lF (r:List ar):List aC:=r.map λ x=>x.2.val
def eT (M:List (List ar)):fk:=M.map lF
def IX (r:List ar) (k:Nat):(lF r).getD k 0=(r.getD k (a6 0)).2.val:=by
 unfold lF
 rw [dJ,dJ,iI]
 cases r[k]? with
 | none=>rfl
 | some x=>rfl
def Oi (M:List (List ar)) (i:Nat):(eT M).getD i []=lF (M.getD i []):=by
 unfold eT
 rw [dJ,dJ,iI]
 cases M[i]? with
 | none=>rfl
 | some x=>rfl
def an4 (M:List (List ar)):(eT M).length=M.length:=aM _
def aoa (r:List ar):(lF r).length=r.length:=aM _
variable {K:cT} {n m w:Nat} {M:List (List ar)}
def adJ (t k:Nat) (b:t<=M.length):qs (eT M) t k=if fu M t k<M.length then some (fu M t k) else none:=by
 unfold qs fu eT
 rw [<- Pw,List.findIdx?_map]
 have e:(λ r:List aC=>decide (r.getD k 0≠0)) ∘ lF = λ r => !(r.getD k (a6 0)).b9:=by
   funext r
   show decide ((lF r).getD k 0≠0)=_
   rw [IX]
   cases e:(r.getD k (a6 0)).b9 with
   | true=>rw [uw.1 e];simp
   | false =>
     have : ¬ (r.getD k (a6 0)).2.val=0 := λ h=>by rw [uw.2 h] at e;cases e
     simpa using this
 rw [e]
 by_cases h:t+(M.drop t).findIdx (λ r => !(r.getD k (a6 0)).b9)<M.length
 rw [if_pos h]
 rw [List.findIdx?_eq_some_iff_findIdx_eq.2 ⟨by rw [l0];omega,rfl⟩]
 show some _=some _
 rw [Nat.add_comm]
 rw [if_neg h]
 have a:(M.drop t).findIdx (λ r => !(r.getD k (a6 0)).b9)<=(M.drop t).length:=List.findIdx_le_length
 rw [List.findIdx?_eq_none_iff_findIdx_eq.2 (by rw [l0] at a ⊢;omega)]
 rfl
def aog {r:List ar} {x:ar} (d:cv K n r) (c:x.G K m):lF (iR r x)=(lF r).map (· / x.2.val):=by
 unfold lF iR
 rw [List.map_map,List.map_map]
 refine List.map_congr_left λ y b => ?_
 show (aI.div y.2 x.2).val=y.2.val/x.2.val
 rw [aI.div_val (d y b).red c.red,Py]
def aof {a b:List ar} {x:ar} (d:cv K n a) (hb:cv K m b) {q:Nat} (f:x.G K q):lF (g9 a b x)=EK (λ p y=>p-y*x.2.val) (lF a) (lF b):=by
 unfold lF g9
 rw [List.map_zipWith,List.zipWith_map_left,List.zipWith_map_right]
 have key:∀ (a b:List ar),cv K n a->cv K m b->EK (λ p q=>(p.sub (q.mul x)).2.val) a b=EK (λ p q=>p.2.val-q.2.val*x.2.val) a b := λ a=>by
   induction a with
   | nil=>intro b _ _;rfl
   | cons y a g =>
     intro b d hb
     cases b with
     | nil=>rfl
     | cons z b =>
       rw [Z3,Z3,g b (λ c hc=>d c (c5 _ hc)) (λ c hc=>hb c (c5 _ hc))]
       have h1:=(d y cS).red
       have e:=(hb z cS).red
       rw [show (y.sub (z.mul x)).2.val=y.2.val-z.2.val*x.2.val from (aI.NL h1 (aI.Mz e f.red)).trans (by rw [aI.Hn e f.red])]
 exact key a b d hb
def IF (M:List (List ar)) (t p:Nat) (c:t<M.length) (b:p<M.length) (i:Nat):(iC M t p).getD i []=M.getD (if i=p then t else if i=t then p else i) []:=by
 unfold iC
 show ((M.set t (M.getD p [])).set p (M.getD t [])).getD i []=_
 rw [dJ,xX]
 by_cases h1:p=i
 subst h1
 rw [if_pos rfl,if_pos rfl,ju,if_pos b]
 rfl
 rw [if_neg h1,if_neg (λ h=>h1 h.symm),xX]
 by_cases a:t=i
 subst a
 rw [if_pos rfl,if_pos rfl,if_pos c]
 rfl
 rw [if_neg a,if_neg (λ h=>a h.symm), <- dJ]
def step_eq (z:bw K n w M) {t k:Nat} (l:t<M.length) {a:List Nat} (v:a.length=t) (d:fu M t k<M.length) :
   eT (fc (M,a) k).1=ob (eT M) t k (fu M t k):=by
 subst v
 have G:(fc (M,a) k).1=((iC M a.length (fu M a.length k)).set a.length (iR ((iC M a.length (fu M a.length k)).getD a.length []) (((iC M a.length (fu M a.length k)).getD a.length []).getD k (a6 0)))).mapIdx (λ i r=>if i != a.length && !(r.getD k (a6 0)).b9 then g9 r (iR ((iC M a.length (fu M a.length k)).getD a.length []) (((iC M a.length (fu M a.length k)).getD a.length []).getD k (a6 0))) (r.getD k (a6 0)) else r):=by
   unfold fc
   exact congrArg Prod.fst (if_pos d)
 rw [G]
 generalize E:fu M a.length k=p at *
 generalize F:a.length=t at *
 have A:t<=p:=by rw [<- E];exact HP _ _ _
 have C:=z.swap (i:=t) (j:=p) l d
 have f:(iC M t p).getD t []=M.getD p []:=by
   rw [IF M t p l d]
   by_cases h:t=p
   rw [if_pos h,h]
   rw [if_neg h,if_pos rfl]
 rw [f]
 have b:=z.get d
 have v1:lF (iR (M.getD p []) ((M.getD p []).getD k (a6 0)))=sk ((eT M).getD p []) k:=by
   rw [aog b.2 b.2.get,Oi]
   unfold sk
   rw [IX]
 have s:(iC M t p).length=M.length:=NM _ _ _
 unfold eT ob
 refine List.ext_getElem (by rw [aM,Bc,ju,s,aM,dZ,aM]) λ i h1 H => ?_
 have D:i<M.length:=by rw [aM,Bc,ju,s] at h1;exact h1
 have g:i<(iC M t p).length:=by rw [s];exact D
 rw [k8,k8,p9,List.getElem_mapIdx,List.getElem_set]
 by_cases e:t=i
 have u:(i != t)=false:=by rw [e];exact bne_self_eq_false i
 simp only [if_pos e,u,nI]
 rw [if_pos e.symm]
 exact v1
 have u:(i != t)=true:=by rw [bne_iff_ne];exact λ h=>e h.symm
 simp only [if_neg e,u,Bool.true_and]
 have x:(iC M t p)[i]=(iC M t p).getD i []:=by rw [dJ,du g,JY]
 have o:(swp (M.map lF) t p).getD i []=lF (iC M t p)[i]:=by
   rw [x,IF M t p l d,NN (m:=M.map lF) (by rw [aM];exact l) (by rw [aM];exact d)]
   exact Oi M _
 rw [if_neg (c:=i=t) (λ h=>e h.symm),o]
 have y:=C _ (bc g)
 generalize (iC M t p)[i]=r at *
 unfold wH
 rw [IX]
 cases q:(r.getD k (a6 0)).b9 with
 | true =>
   rw [if_pos (uw.1 q),if_neg (by decide)]
 | false =>
   have B : ¬ (r.getD k (a6 0)).2.val=0 := λ h=>by rw [uw.2 h] at q;cases q
   rw [if_neg B,if_pos (by decide),aof y.2 (Nu b.2 b.2.get) y.2.get,v1]
   rfl
def fold_eq (d:bw K n w M):∀ k,k<=dT M->elim (eT M) k=(eT ((ba k).foldl fc (M,[])).1,((ba k).foldl fc (M,[])).2)
 | 0,_=>rfl
 | k + 1,h=>by
   have f:=fold_eq d k (by omega)
   have H:=H6 d rfl k
   rw [List.range_succ,List.foldl_append]
   generalize (ba k).foldl fc (M,[])=st at *
   show (match qs (elim (eT M) k).1 (elim (eT M) k).2.length k with
     | none=>elim (eT M) k
     | some p=>(ob (elim (eT M) k).1 (elim (eT M) k).2.length k p,(elim (eT M) k).2++[k]))=(eT (fc st k).1,(fc st k).2)
   rw [f]
   simp only
   rw [adJ _ _ (by rw [H.len];exact H.pl)]
   have ⟨R,a⟩:=st
   by_cases b:fu R a.length k<R.length
   rw [if_pos b]
   have e:a.length<R.length:=gB (HP _ _ _) b
   have c:=step_eq H.qB e rfl b
   have g:(fc (R,a) k).2=a++[k]:=by
     unfold fc
     exact congrArg Prod.snd (if_pos b)
   rw [c,g]
   rw [if_neg b]
   have c:fc (R,a) k=(R,a):=by
     unfold fc
     exact if_neg b
   rw [c]
def alH (a:bw K n w M):elim (eT M) (dT M)=(eT (bI M).1,(bI M).2):=fold_eq a _ (a4 _)
def tw (m:fk) (a:List Nat) (q k:Nat):aC:=if k=q then 1 else-Du m a q k
def Ts {m:fk} {a:List Nat} {q:Nat}:tw m a q q=1:=if_pos rfl
def ag2 {m:fk} {a:List Nat} {q k:Nat} (h:k ∉ a) (b:k≠q):tw m a q k=0:=by
 unfold tw
 rw [if_neg b,amX h];grind
def ag5 {n w q:Nat} {A m:fk} {b:List Nat} (h:qc n w w A m b) (hw:q<w) (v:q ∉ b) {i:Nat} (B:i<n):cC w (λ k=>cO A i k*tw m b q k)=0:=by
 have row:∀ a,a<n->cC w (λ k=>cO m a k*tw m b q k)=0:=by
   intro a p
   by_cases c:a<b.length
   have e:=h.xn a c
   have d:b.getD a 0≠q := λ e=>v (by rw [<- e,bj c];exact bc c)
   have h1:cC w (λ k=>cO m a k*tw m b q k)=cC w (λ k=>(if k=q then cO m a q else 0)+(if k=b.getD a 0 then-cO m a q else 0)):=fX λ k o=>by
     by_cases f:k=q
     subst f
     rw [Ts,if_pos rfl,if_neg (λ e=>d e.symm)];grind
     rw [if_neg f]
     by_cases l:k=b.getD a 0
     subst l
     rw [if_pos rfl,h.one a c a p,if_pos rfl]
     unfold tw
     rw [if_neg f,amY h c];grind
     rw [if_neg l]
     by_cases u:k∈b
     obtain ⟨s,r,rfl⟩:=fZ.1 u
     have t:a≠s := λ e=>l (by subst e;rw [bj r])
     have:=h.one s r a p
     rw [bj r,if_neg t] at this
     rw [this];grind
     rw [ag2 u f];grind
   rw [h1,ID,Af hw _ (λ k o d=>if_neg d),Af e _ (λ k o d=>if_neg d),if_pos rfl,if_pos rfl]
   grind
   have z:=h.low a (by omega) p
   rw [fX (g := λ _=>0) λ k o=>by rw [z k (by omega)];grind]
   exact tP w
 have ⟨y,x⟩:=h.back i B
 rw [fX (g := λ k=>cC n λ j=>y j*(cO m j k*tw m b q k)) λ k o=>by
   rw [x k (by omega), <- IE];exact fX λ j _=>by grind]
 rw [xI,fX (g := λ _=>0) λ j C=>by rw [pV,row j C];grind]
 exact tP n
def ox (n w:Nat) (C:Nat->Nat->aC):Prop:=∃ c:Nat->aC,(∃ j,j<n/\c j≠0)/\∀ k,k<w->cC n (λ j=>c j*C j k)=0
def w9 (n w:Nat) (C:Nat->Nat->aC):fk:=(ba n).map λ i=>(ba w).map λ k=>C i k
def ait (n w:Nat) (C:Nat->Nat->aC):(w9 n w C).length=n:=by unfold w9;rw [aM,dZ]
def aiu (n w:Nat) (C:Nat->Nat->aC):sV w (w9 n w C) := λ r a=>by
 obtain ⟨i,_,rfl⟩:=bn.1 a
 rw [aM,dZ]
def ais {n w:Nat} {C:Nat->Nat->aC} {i k:Nat} (b:i<n) (a:k<w):cO (w9 n w C) i k=C i k:=by
 unfold cO w9
 rw [bj (show i<((ba n).map λ i=>(ba w).map λ k=>C i k).length by rw [aM,dZ];exact b),k8,p9]
 rw [bj (by rw [aM,dZ];exact a),k8,p9]
def missing {n:Nat} {l:List Nat} (h:l.length<n):∃ q,q<n/\q ∉ l:=by
 refine xZ λ c => ?_
 have:=rh (l:=ba n) (S:=l) sQ λ q d=>xZ λ b=>c ⟨q,cR.1 d,b⟩
 rw [dZ] at this
 omega
def Q9 {n w:Nat} (h:w<n) (C:Nat->Nat->aC):ox n w C:=by
 have H:=KX (aiu w n λ k j=>C j k) n (a4 _)
 rw [ait] at H
 have ⟨q,b,d⟩:=missing (gB H.xo h)
 refine ⟨tw (elim (w9 w n λ k j=>C j k) n).1 (elim (w9 w n λ k j=>C j k) n).2 q,⟨q,b,by rw [Ts];grind⟩, λ k a => ?_⟩
 have:=ag5 H b d a
 rw [<- this]
 exact fX λ j c=>by rw [ais a c];grind
def acN {n w v:Nat} (h:w<n) {U:Nat->Nat->aC} {V:Nat->Nat->aC} (b:∀ i,i<n->∃ y:Nat->aC,∀ k,k<v->U i k=cC w λ j=>y j*V j k):ox n v U:=by
 have ⟨c,hc,f⟩:=Q9 h λ i j=>if a:i<n then (b i a).choose j else 0
 refine ⟨c,hc, λ k e => ?_⟩
 rw [fX (g := λ i=>cC w λ j=>c i*(if a:i<n then (b i a).choose j else 0)*V j k) λ i a=>by
   rw [(b i a).choose_spec k e, <- pV]
   exact fX λ j _=>by rw [dif_pos a];grind]
 rw [xI,fX (g := λ _=>0) λ j d=>by rw [IE,f j d];grind]
 exact tP w
def anq {r n:Nat} {f:Nat->aC} (h:r<=n) (a:∀ j,r<=j->j<n->f j=0):cC n f=cC r f:=by
 induction n with
 | zero=>rw [Nat.le_zero.1 h]
 | succ n b =>
   by_cases e:r=n+1
   rw [e]
   rw [cC,b (by omega) (λ j h1 c=>a j h1 (by omega)),a n (by omega) (by omega)];grind
def ahe {n:Nat} {Y W:Nat->Nat->aC} (A:∀ t,t<n->∀ s,s<n->cC n (λ i=>Y t i*W i s)=if t=s then 1 else 0) {c:Nat->aC} (hc:∀ s,s<n->cC n (λ i=>c i*W i s)=0):∀ i,i<n->c i=0:=by
 intro d q
 refine xZ λ b => ?_
 have ⟨a,⟨j,B,m⟩,z⟩:=Q9 (Nat.lt_succ_self n) λ s i=>if s<n then W i s else if i=d then 1 else 0
 have r:∀ i,i<n->cC n (λ s=>a s*W i s)+a n*(if i=d then 1 else 0)=0 := λ i l=>by
   have:=z i l
   rw [cC] at this
   simp only [if_neg (yd n)] at this
   rw [fX (f := λ s=>a s*W i s) (g := λ s=>a s*if s<n then W i s else if i=d then 1 else 0) λ s o=>by rw [if_pos o]]
   exact this
 have x:a n*c d=0:=by
   have h1:cC n (λ i=>c i*(cC n (λ s=>a s*W i s)+a n*(if i=d then 1 else 0)))=0:=by
     rw [fX (g := λ _=>0) λ i l=>by rw [r i l];grind]
     exact tP n
   have w:cC n (λ i=>c i*(cC n (λ s=>a s*W i s)+a n*(if i=d then 1 else 0)))=cC n (λ i=>cC n (λ s=>a s*(c i*W i s))+(if i=d then a n*c d else 0)):=fX λ i l=>by
     have:c i*cC n (λ s=>a s*W i s)=cC n (λ s=>a s*(c i*W i s)):=by
       rw [<- pV];exact fX λ s _=>by grind
     rw [<- this]
     by_cases e:i=d
     subst e;rw [if_pos rfl,if_pos rfl];grind
     rw [if_neg e,if_neg e];grind
   rw [w,ID,xI,fX (f := λ s=>cC n λ i=>a s*(c i*W i s)) (g := λ _=>0) (λ s o=>by rw [pV,hc s o];grind),tP,Af q _ (λ i _ b=>if_neg b),if_pos rfl] at h1
   grind
 have u:a n=0:=(aC.vl x).resolve_right b
 have y:∀ t,t<n->a t=0 := λ t v=>by
   have h1:cC n (λ i=>Y t i*cC n (λ s=>a s*W i s))=0:=by
     rw [fX (g := λ _=>0) λ i l=>by
       have:=r i l
       rw [u] at this
       rw [show cC n (λ s=>a s*W i s)=0 by grind];grind]
     exact tP n
   rw [fX (g := λ i=>cC n λ s=>a s*(Y t i*W i s)) λ i _=>by
     rw [<- pV];exact fX λ s _=>by grind] at h1
   rw [xI,fX (g := λ s=>a s*(if t=s then 1 else 0)) (λ s o=>by rw [pV,A t v s o]),Af v _ (λ s _ b=>by rw [if_neg (λ h=>b h.symm)];grind),if_pos rfl] at h1
   grind
 by_cases p:j=n
 exact m (by rw [p];exact u)
 exact m (y j (by omega))
def ali {n w:Nat} {A m:fk} {a:List Nat} (h:qc n w w A m a):a.length=n ↔ ¬ ox n w (cO A):=by
 constructor
 rintro v ⟨c,⟨q,e,hc⟩,r⟩
 have o:∀ i,∃ y:Nat->aC,i<n->∀ k,k<w->cO m i k=cC n λ j=>y j*cO A j k := λ i=>by
   by_cases b:i<n
   have ⟨y,f⟩:=h.to i b
   exact ⟨y, λ _=>f⟩
   exact ⟨λ _=>0, λ h=>(b h).elim⟩
 refine hc (ahe (n:=n) (Y := λ t i=>(o t).choose i) (W := λ i s=>cO A i (a.getD s 0)) (λ t l s u => ?_) (λ s u=>r _ (h.xn s (by omega))) q e)
 have:=(o t).choose_spec l (a.getD s 0) (h.xn s (by omega))
 rw [<- this,h.one s (by omega) t l]
 intro hd
 refine Nat.le_antisymm h.xo (Nat.le_of_not_lt λ d=>hd (acN d (V:=cO m) λ i b => ?_))
 have ⟨y,f⟩:=h.back i b
 refine ⟨y, λ k g => ?_⟩
 rw [f k g]
 exact anq h.xo λ j h1 p=>by rw [h.low j h1 p k g];grind
def Span (n w:Nat) (C:Nat->Nat->aC) (v:Nat->aC):Prop:=∃ y:Nat->aC,∀ k,k<w->v k=cC n λ j=>y j*C j k
def am6 {n w:Nat} {C:Nat->Nat->aC} (d : ¬ ox n w C) (hd:ox (n+1) w C):Span n w C (C n):=by
 have ⟨c,⟨j,l,hc⟩,b⟩:=hd
 have f:c n≠0 := λ e=>d ⟨c,⟨j,by
   rcases Nat.lt_succ_iff_lt_or_eq.1 l with h | h
   exact h
   exact absurd (by rw [h];exact e) hc,hc⟩, λ k a=>by
     have:=b k a
     rw [cC,e] at this
     grind⟩
 have m:=aC.tH f
 refine ⟨λ j => - (c n)⁻¹ * c j, λ k a => ?_⟩
 have:=b k a
 rw [cC] at this
 rw [fX (g := λ j => - (c n)⁻¹ * (c j*C j k)) λ j _=>by grind,pV]
 generalize (c n)⁻¹ = i at *
 grind
def Span.row {n w i:Nat} {C:Nat->Nat->aC} (b:i<n):Span n w C (C i):=⟨λ j=>if j=i then 1 else 0, λ k c=>by
 refine Eq.symm ((Af b _ λ j d a => ?_).trans ?_)
 simp only [if_neg a];grind
 simp only [if_true];grind⟩
end
noncomputable section
open Classical
variable {K:cT} {n w:Nat} {M:List (List ar)}
def an5 (a:bw K n w M):sV w (eT M) := λ r c=>by
 obtain ⟨x,b,rfl⟩:=bn.1 c
 rw [aoa];exact (a x b).1
def VJ (a:bw K n w M) (b:M≠[]):qc M.length w w (eT M) (eT (bI M).1) (bI M).2:=by
 have h:=KX (an5 a) w (a4 _)
 have hc:=jG a b
 have e:=alH a
 rw [hc] at e
 rw [e,an4] at h
 exact h
def agh (b:bw K n w M) (a:M≠[]):(bI M).2.length=M.length ↔ ¬ ox M.length w (cO (eT M)):=ali (VJ b a)
def yP {i k:Nat}:cO (eT M) i k=((M.getD i []).getD k (a6 0)).2.val:=by
 unfold cO
 rw [Oi,IX]
end
end Go.aF.E9
namespace Go.aF
section
variable {K:cT} {n m w:Nat} {M:List (List ar)}
def aj7 (b:bw K n w M) {ord:List Nat} (ho:∀ k∈ord,k<M.length) (d:ord.Nodup) {j:Nat} (a:M.length<=j \/ w<=j):(cW M ord).length<=j:=by
 have h:=r5 b ho
 rcases a with a | a
 have:=rh (S:=ba M.length) (HO M d) λ x c=>cR.2 (h.1 x c)
 rw [dZ] at this
 omega
 omega
def QM (c:bw K n w M) {j:Nat} (d:M.length<=j \/ w<=j) (a:Nat):(g3 M a).G K (grow K j n):=by
 have ho:∀ k∈ba M.length,k<M.length := λ k q=>cR.1 q
 have f:=r5 c ho
 have l:=aj7 c ho sQ d
 have o:=HO M (sQ (n:=M.length))
 have hc:bw K n w (aA M (cW M (ba M.length))):=c.sub f.1
 refine ⟨?_, ?_, ?_⟩
 show jC K _ (nZ _)
 exact (S9 (CG hc _) (by unfold aA;rw [aM,aM];exact l)).2.yA
 intro r p
 obtain ⟨i,g,rfl⟩:=bn.1 p
 have b:=cR.1 (kA.1 g).1
 have e:=(kA.1 g).2
 refine Ww hc (c.get b).2 ?_
 rcases d with d | d
 refine .inr ?_
 have:=Md o f.1 b (λ h=>by rw [pq.2 h] at e;cases e)
 unfold aA
 rw [aM]
 omega
 exact .inl (by rw [(c.get b).1];exact d)
 show jC K _ (if M.isEmpty=true then tQ a else pK M)
 split
 exact (zg a).yA
 exact (Tt c (zZ c d)).yA
def rZ (M:List (List ar)) (first:Nat):List Nat:=(ba M.length).map λ i=>(first%M.length+i)%M.length
def zJ {first:Nat}:∀ k∈rZ M first,k<M.length := λ k a=>by
 obtain ⟨i,b,rfl⟩:=bn.1 a
 have:=cR.1 b
 exact bC _ (by omega)
def ajz {first k:Nat} (a:k<M.length):k∈rZ M first:=by
 have h1:=bC first (show 0<M.length by omega)
 generalize b:first%M.length=f at h1
 unfold rZ
 rw [b]
 by_cases h:f<=k
 refine bn.2 ⟨k-f,cR.2 (by omega), ?_⟩
 rw [show f+(k-f)=k by omega,dG a]
 refine bn.2 ⟨k+M.length-f,cR.2 (by omega), ?_⟩
 rw [show f+(k+M.length-f)=k+M.length by omega,Nat.add_mod_right,dG a]
noncomputable def chosen (M:List (List ar)) (first:Nat):List Nat:=(ba M.length).filter λ i=>(cW M (rZ M first)).contains i
def yH {first:Nat}:∀ k∈chosen M first,k<M.length := λ k a=>cR.1 (kA.1 a).1
def KE (M:List (List ar)) (first:Nat):(chosen M first).Nodup:=sQ.filter _
def FF (c:bw K n w M) (first:Nat) {j:Nat} (b:M.length<=j \/ w<=j):(chosen M first).length<=j:=by
 rcases b with b | b
 have:=rh (S:=ba M.length) (KE M first) λ x a=>cR.2 (yH x a)
 rw [dZ] at this
 omega
 have h1:=(r5 c (ord:=rZ M first) zJ).2
 have:=rh (S:=cW M (rZ M first)) (KE M first) λ x a=>pq.1 (kA.1 a).2
 omega
def C0 (h:M≠[]) (a first:Nat):mr M a first=⟨(chosen M first).map Int.ofNat,(g3 (aA M (chosen M first)) a).bt,(g3 (aA M (chosen M first)) a).inv,((ba M.length).filter λ i => !(chosen M first).contains i).map λ i=>j6 (aA M (chosen M first)) (M.getD i []),(g3 (aA M (chosen M first)) a).bh⟩:=by
 unfold mr
 rw [if_neg (by rw [ra];exact h)]
 rfl
def UL (d:bw K n w M) {j:Nat} (c:M.length<=j \/ w<=j) (a first:Nat):(mr M a first).G K (grow K j n):=by
 by_cases e:M=[]
 subst e
 exact QM d c a
 rw [C0 e]
 have g:bw K n w (aA M (chosen M first)):=d.sub yH
 have hc:=QM g (j:=j) (.inl (by unfold aA;rw [aM];exact FF d first c)) a
 refine ⟨hc.inv, λ r l => ?_,hc.bh⟩
 obtain ⟨i,k,rfl⟩:=bn.1 l
 have b:=cR.1 (kA.1 k).1
 have f:=(kA.1 k).2
 refine Ww g (d.get b).2 ?_
 rcases c with c | c
 refine .inr ?_
 have:=Md (KE M first) yH b (λ h=>by rw [pq.2 h] at f;cases f)
 unfold aA
 rw [aM]
 omega
 exact .inl (by rw [(d.get b).1];exact c)
end
end Go.aF
namespace Go.aF.E9
noncomputable section
open Classical
variable {K:cT} {n w:Nat} {M:List (List ar)}
def Span.trans {n m w:Nat} {C D:Nat->Nat->aC} {v:Nat->aC} (h:Span n w C v) (b:∀ j,j<n->Span m w D (C j)):Span m w D v:=by
 have ⟨y,d⟩:=h
 refine ⟨λ i=>cC n λ j=>y j*(if a:j<n then (b j a).choose i else 0), λ k c => ?_⟩
 rw [d k c,fX (g := λ j=>cC m λ i=>y j*(if a:j<n then (b j a).choose i else 0)*D i k) λ j a=>by
   rw [(b j a).choose_spec k c, <- pV]
   exact fX λ i _=>by rw [dif_pos a];grind]
 rw [xI]
 exact fX λ i _=>by rw [<- IE]
def Span.congr {n w:Nat} {C D:Nat->Nat->aC} {u v:Nat->aC} (h:Span n w C u) (a:∀ j,j<n->C j=D j) (e:u=v):Span n w D v:=by
 subst e
 have ⟨y,b⟩:=h
 exact ⟨y, λ k d=>(b k d).trans (fX λ j c=>by rw [a j c])⟩
def ox.congr {n w:Nat} {C D:Nat->Nat->aC} (h:ox n w C) (a:∀ j,j<n->C j=D j):ox n w D:=by
 have ⟨c,h1,d⟩:=h
 exact ⟨c,h1, λ k e=>(fX λ j b=>by rw [a j b]).trans (d k e)⟩
def rc (M:List (List ar)) (c:List Nat):Nat->Nat->aC := λ j=>cO (eT M) (c.getD j 0)
def amb (M:List (List ar)) {c:List Nat} {j:Nat} (a:j<c.length):(aA M c).getD j []=M.getD (c.getD j 0) []:=by
 unfold aA
 rw [dJ,iI,du a,Option.map_some,JY,bj a]
def Db (M:List (List ar)) {c:List Nat} {j:Nat} (a:j<c.length):cO (eT (aA M c)) j=rc M c j:=by
 funext k
 unfold rc
 rw [yP,yP,amb M a]
def alr (d:bw K n w M) {c:List Nat} (hc:∀ k∈c,k<M.length) (a:c≠[]):(bI (aA M c)).2.length=c.length ↔ ¬ ox c.length w (rc M c):=by
 have h:=agh (d.sub hc) (show aA M c≠[] from λ h=>a (eN.1 h))
 have e:(c.map λ i=>M.getD i []).length=c.length:=aM ..
 rw [e] at h
 refine h.trans (not_congr ⟨λ h=>h.congr λ j b=>Db M b, λ h=>h.congr λ j b=>(Db M b).symm⟩)
def ND {c:List Nat} {k:Nat} (h:k∈c):Span c.length w (rc M c) (cO (eT M) k):=by
 obtain ⟨j,a,rfl⟩:=fZ.1 h
 refine (Span.row (w:=w) (C:=rc M c) a).congr (λ _ _=>rfl) ?_
 unfold rc
 rw [bj a]
def VA (M:List (List ar)) {c:List Nat} {k j:Nat} (a:j<c.length):rc M (c++[k]) j=rc M c j:=by
 unfold rc
 rw [BX a]
def als (M:List (List ar)) (c:List Nat) (k:Nat):rc M (c++[k]) c.length=cO (eT M) k:=by
 unfold rc
 rw [BZ]
def acO {w:Nat} {C:Nat->Nat->aC} : ¬ ox 0 w C := λ ⟨_,⟨j,a,_⟩,_⟩=>kC _ a
def MZ (l:bw K n w M):∀ (ord c:List Nat),(∀ k∈ord,k<M.length)->(∀ k∈c,k<M.length) -> ¬ ox c.length w (rc M c)->∀ k∈ord,Span (ord.foldl (lz M) c).length w (rc M (ord.foldl (lz M) c)) (cO (eT M) k)
 | [],c,_,_,_,k,a=>(cX a).elim
 | j::ord,c,ho,hc,g,k,a=>by
   have h1:∀ i∈c++[j],i<M.length := λ i g=>(en.1 g).elim (hc i) λ h=>by rw [bJ.1 h];exact ho j cS
   have o:=alr l h1 (by simp)
   have f:∀ k∈ord,k<M.length := λ k a=>ho k (c5 _ a)
   rw [List.foldl_cons]
   by_cases e:(bI (aA M (c++[j]))).2.length=(c++[j]).length
   have m:lz M c j=c++[j]:=if_pos (by rw [aM];exact e)
   rw [m]
   rcases cr.1 a with rfl | a
   exact ND (HM M ord _ _ (qY _ (bJ.2 rfl)))
   exact MZ l ord _ f h1 (o.1 e) k a
   have m:lz M c j=c:=if_neg (by rw [aM];exact e)
   rw [m]
   rcases cr.1 a with rfl | a
   have hd:ox (c++[k]).length w (rc M (c++[k])):=xZ λ h=>e (o.2 h)
   rw [cd,kG] at hd
   have p:=am6 (λ h=>g (h.congr λ j d=>VA M d)) hd
   refine (p.congr (λ j d=>VA M d) (als M c k)).trans λ j d => ?_
   exact ND (HM M ord c _ (by rw [bj d];exact bc d))
   exact MZ l ord c f hc g k a
def acd (c:bw K n w M) (first:Nat) {k:Nat} (d:k<M.length):Span (chosen M first).length w (cO (eT (aA M (chosen M first)))) (cO (eT M) k):=by
 have h:=MZ c (rZ M first) [] zJ (λ _ h=>(cX h).elim) acO k (ajz d)
 have e:=(r5 c (ord:=rZ M first) zJ).1
 refine (h.trans (D:=rc M (chosen M first)) λ j b=>ND ?_).congr (λ j b=>(Db M b).symm) rfl
 have a:j<(cW M (rZ M first)).length:=b
 show (cW M (rZ M first)).getD j 0∈_
 rw [bj a]
 exact kA.2 ⟨cR.2 (e _ (bc a)),pq.2 (bc a)⟩
def am2 {S:List (List ar)} {b:List ar} (G:bw K n w S) (hb:cv K n b) (L:b.length=w) (hw:0<w) (v:S≠[]) (H:Span S.length w (cO (eT S)) λ k=>(b.getD k (a6 0)).2.val):∃ x,oa (er S) b=some x:=by
 have F:=Aj G
 have p:(er S).length=w:=by rw [Ak,jG G v]
 have da:dT (er S)=S.length:=jG F (λ h=>by rw [h] at p;rw [<- p] at hw;exact yd _ hw)
 have t:bw K n 1 (b.map λ x=>[x]) := λ r N=>by
   obtain ⟨x,I,rfl⟩:=bn.1 N
   exact ⟨rfl, λ y o=>by rw [bJ.1 o];exact hb x I⟩
 have J:=uM F t
 have l:(dH (er S) (b.map λ x=>[x])).length=w:=by unfold dH;rw [k0,aM,p,L,Nat.min_self]
 have at_:∀ i,i<w->(dH (er S) (b.map λ x=>[x])).getD i []=iy S i++[b.getD i (a6 0)] := λ i a=>by
   rw [bj (by rw [l];exact a)]
   have A:i<b.length:=by omega
   unfold dH
   rw [vK,k8,bj A]
   unfold er
   rw [k8,p9]
 have C:dH (er S) (b.map λ x=>[x])≠[] := λ h=>by rw [h] at l;rw [<- l] at hw;exact yd _ hw
 have E:=VJ J C
 unfold oa
 simp only
 rw [da]
 by_cases hc:(bI (dH (er S) (b.map λ x=>[x]))).2.contains S.length=true
 exfalso
 have ⟨s,c,es⟩:=fZ.1 (pq.1 hc)
 generalize dH (er S) (b.map λ x=>[x])=B at *
 have u:(bI B).2.getD s 0=S.length:=by rw [bj c,es]
 have m:s<B.length:=fv c E.xo
 have f:=E.one s c s m
 have d:=E.lead s c
 rw [u] at f d
 rw [if_pos rfl] at f
 have ⟨y,o⟩:=E.to s m
 have ⟨z,O⟩:=H
 have q:∀ k,k<w->(b.getD k (a6 0)).2.val=cC S.length λ j=>z j*cO (eT S) j k:=O
 have D:∀ i,(iy S i).length=S.length := λ i=>aM ..
 have v1:∀ i,i<w->cO (eT B) i S.length=(b.getD i (a6 0)).2.val := λ i a=>by
   rw [yP,at_ i a, <- D i,BZ]
 have v2:∀ i,i<w->∀ j,j<S.length->cO (eT B) i j=cO (eT S) j i := λ i a j e=>by
   rw [yP,at_ i a,BX (by rw [D];exact e),yP]
   unfold iy
   rw [bj (by rw [aM];exact e),k8,bj e]
 have key:cO (eT (bI B).1) s S.length=0:=by
   rw [o S.length (by omega),l,fX (g := λ i=>cC S.length λ j=>z j*(y i*cO (eT B) i j)) λ i a=>by
     rw [v1 i a,q i a, <- pV]
     exact fX λ j e=>by rw [v2 i a j e];grind]
   rw [xI,fX (g := λ _=>0) λ j e=>by
     have h1:=o j (by omega)
     rw [d j e,l] at h1
     rw [pV, <- h1];grind]
   exact tP _
 rw [key] at f
 grind
 rw [if_neg hc]
 exact ⟨_,rfl⟩
def am0 {S:List (List ar)} {b:List ar} (a:bw K n w S) (hb:cv K n b) (f:b.length=w) (hw:S.length<=w) (i:Span S.length w (cO (eT S)) λ k=>(b.getD k (a6 0)).2.val):(j6 S b).length=S.length:=by
 unfold j6
 by_cases e:S=[]
 subst e;rfl
 have j:=hO.2 e
 have ⟨x,c⟩:=am2 a hb f (by omega) e i
 rw [if_neg (by rw [ra];exact e),c,JY]
 have d:=Aj a
 have g:(er S).length=w:=by rw [Ak,jG a e]
 rw [(Wx d hb (a4 _) c).1]
 exact jG d (λ h=>by rw [h] at g;have:([]:List (List ar)).length=0:=rfl;omega)
def ajC (c:bw K n w M) (a first:Nat):∀ r∈(mr M a first).cj,r.length=(chosen M first).length:=by
 by_cases e:M=[]
 subst e
 intro r d
 exact (cX d).elim
 rw [C0 e]
 intro r d
 obtain ⟨i,j,rfl⟩:=bn.1 d
 have b:=cR.1 (kA.1 j).1
 have g:=acd c first b
 have f:(aA M (chosen M first)).length=(chosen M first).length:=aM ..
 have h:=c.get b
 rw [<- f] at g ⊢
 refine am0 (c.sub yH) h.2 h.1 ?_ (g.congr (λ _ _=>rfl) (funext λ k=>yP))
 rw [f]
 exact FF c first (.inr (a4 _))
end
end Go.aF.E9
namespace Go.aF
section
variable {K:cT} {n m w:Nat} {M:List (List ar)}
def aj8 (M:List (List ar)):(cW M (ba M.length)).length<=M.length:=by
 have h:=HN M (ba M.length) []
 rw [dZ] at h
 have:([]:List Nat).length=0:=rfl
 unfold cW;omega
def ag3 (M:List (List ar)):(pK M).length<=dT M:=by
 unfold pK
 rw [aM]
 refine bs (vU _ _) ?_
 rw [dZ]
 exact a4 _
def alE (a:bw K n w M) {k:Nat} (b:k∈(bI M).2):k<dT M:=(mz a).lt k b
def QY (a:bw K n w M):dT M<=w:=by
 by_cases e:M=[]
 subst e;exact et _
 rw [jG a e];exact a4 _
def QN (c:bw K n w M):(g3 M w).bt.length<=M.length/\(∀ z∈(g3 M w).bt,0<=z/\z<(w:Int))/\(g3 M w).inv.length<=M.length/\(∃ v,v<=M.length/\∀ r∈(g3 M w).inv,r.length=v)/\(g3 M w).bh.length<=w/\∀ r∈(g3 M w).bh,r.length=w:=by
 have ho:∀ k∈ba M.length,k<M.length := λ k b=>cR.1 b
 have hc:bw K n w (aA M (cW M (ba M.length))):=c.sub (r5 c ho).1
 have g:(aA M (cW M (ba M.length))).length<=M.length:=by unfold aA;rw [aM];exact aj8 M
 have j:(g3 M w).bt=(if (aA M (cW M (ba M.length))).isEmpty then ([]:List Nat) else (bI (aA M (cW M (ba M.length)))).2).map Int.ofNat:=rfl
 have l:(g3 M w).inv=nZ ((aA M (cW M (ba M.length))).map (eW (if (aA M (cW M (ba M.length))).isEmpty then ([]:List Nat) else (bI (aA M (cW M (ba M.length)))).2))):=rfl
 have p:(g3 M w).bh=if M.isEmpty then tQ w else pK M:=rfl
 have f:(if (aA M (cW M (ba M.length))).isEmpty then ([]:List Nat) else (bI (aA M (cW M (ba M.length)))).2).length<=M.length/\∀ k∈(if (aA M (cW M (ba M.length))).isEmpty then ([]:List Nat) else (bI (aA M (cW M (ba M.length)))).2),k<w:=by
   split
   exact ⟨et _, λ k b=>(cX b).elim⟩
   exact ⟨bs (mz hc).pl g, λ k b=>fv (alE hc b) (QY hc)⟩
 rw [j,l,p]
 generalize (if (aA M (cW M (ba M.length))).isEmpty then ([]:List Nat) else (bI (aA M (cW M (ba M.length)))).2)=a at *
 have i:=S9 (CG hc a) (a4 _)
 refine ⟨by rw [aM];exact f.1, λ z o => ?_,by rw [i.1,aM];exact g,⟨a.length,f.1, λ r d=>(i.2 r d).1⟩, ?_, ?_⟩
 obtain ⟨k,b,rfl⟩:=bn.1 o
 have:=f.2 k b
 exact ⟨vF _,by show (k:Int)<(w:Int);omega⟩
 split
 unfold tQ;rw [wV];exact a4 _
 exact bs (ag3 M) (QY c)
 split
 exact λ r d=>(zg (K:=K) (n:=0) w r d).1
 next e =>
 intro r d
 rw [(Tt c (a4 _) r d).1,jG c (λ h=>e (ra.2 h))]
structure PY (h w:Nat) (c:fG):Prop where
 r1:c.rows.length<=h
 r2:c.rows.length<=w
 c1:c.bt.length<=h
 i1:c.inv.length<=h
 o1:c.cj.length<=h
 k1:c.bh.length<=w
 C9:∀ z∈c.rows,0<=z/\z<(h:Int)
 bL:∀ z∈c.bt,0<=z/\z<(w:Int)
 rc:c.rows≠[]->c.bt≠[]
 zl:∃ v,v<=h/\∀ r∈c.inv,r.length=v
 zL:∃ v,v<=h/\∀ r∈c.cj,r.length=v
 zn:∀ r∈c.bh,r.length=w
def adI (h:Nat) (p:Nat->Bool):((ba h).filter p).length<=h:=by
 have:=vU p (ba h)
 rw [dZ] at this
 exact this
def UM (b:bw K n w M) (first:Nat):PY M.length w (mr M w first):=by
 have p:=E9.ajC b w first
 have i:=ajB b w first
 have a:=FF b first (.inl (a4 M.length))
 have o:=FF b first (.inr (a4 w))
 by_cases e:M=[]
 subst e
 have ⟨c,j,d,f,q,g⟩:=QN b
 exact ⟨a4 _,et _,c,d,a4 _,q, λ z h=>(cX h).elim,j,i,f,⟨_,a,p⟩,g⟩
 have s:bw K n w (aA M (chosen M first)):=b.sub yH
 have r:(aA M (chosen M first)).length=(chosen M first).length:=aM ..
 have ⟨c,j,d,⟨v,f,l⟩,q,g⟩:=QN s
 rw [C0 e] at p i ⊢
 rw [r] at c d f
 refine ⟨by rw [aM];exact a,by rw [aM];exact o,bs c a,bs d a, ?_,q, λ z h => ?_,j,i,⟨v,bs f a,l⟩,⟨_,a,p⟩,g⟩
 show (List.map _ _).length<=_
 rw [aM]
 exact adI _ _
 obtain ⟨k,a,rfl⟩:=bn.1 h
 have:=yH k a
 exact ⟨vF _,by show (k:Int)<(M.length:Int);omega⟩
def WB {x:ar}:∀ {M:List (List ar)} (j:Nat),(sg x M j).length=M.length
 | [],j=>rfl
 | r::M,j=>by
   unfold sg
   split
   rfl
   rw [e6,e6,WB]
def am8 (M:List (List ar)) (a:Nat) (b:Int):(pU M a b).length=M.length:=by
 unfold pU
 split
 rfl
 exact WB _
def aca {h:Nat} {c:fG} (H:PY h w c) (x:qg):(nO c x).rows.length<=h/\(nO c x).bt.length<=h/\(nO c x).inv.length<=h/\(nO c x).cj.length<=h+1/\(nO c x).bh.length<=w:=by
 have h1:=H.r1
 have e:=H.c1
 have b:=H.i1
 have d:=H.o1
 have a:=H.k1
 unfold nO
 split<;>(try split)<;>refine ⟨?_, ?_, ?_, ?_, ?_⟩<;>(try simp only [am8,ju,l0,cd,kG])<;>omega
end
end Go.aF
namespace Go.Proofs.YtpcofcmencgkbaaGreat
def ad2 {Q:Src} {l:List aI} (H:nL Q l) (at_:List Nat) (n m:Nat):bw Q.ctx 512 n (gP l at_ n m) := λ r c=>by
 obtain ⟨j,f,rfl⟩:=bn.1 c
 refine ⟨by unfold g5;rw [aM,dZ], λ x b => ?_⟩
 obtain ⟨k,d,rfl⟩:=bn.1 b
 by_cases e:l=[]
 subst e;exact ar.G.zero
 have a:=bC (at_.getD (j*n+k) 0) (hO.2 e)
 rw [bj a]
 exact H.G (bc a) true
def Nz {Q:Src} (h:Q.n=256):grow Q.ctx 4 512=1653500573:=by
 unfold grow;unfold grow;unfold grow;unfold grow;unfold grow
 rw [Aa h]
def qk {Q:Src} (h:Q.n=256) {n:Nat} (a:n<=19842034812):bO Q.ctx Q.cc n:=by
 show 30*(n+Q.ctx.C)+100*Q.cc<=_
 rw [Iw h,vu h]
 omega
def ajv {Q:Src} {M:List (List ar)} {w:Nat} (h:Q.n=256) (b:bw Q.ctx 512 w M) (d:M.length<=4 \/ w<=4) (m:M.length<=24) (f:w<=12) (first:Nat):PN Q.ctx Q.cc 1653500573 (mr M w first):=by
 have O:=UM b first
 have c:=UL b d w first
 rw [Nz h] at c
 have o:=O.r1
 have j:=O.c1
 have g:=O.i1
 have k:=O.o1
 have l:=O.k1
 have ⟨v1,i,e⟩:=O.zl
 have ⟨v2,pX,u2⟩:=O.zL
 exact ⟨c,by omega,by omega,by omega,by omega,by omega, λ z a=>by have:=O.C9 z a;omega, λ z a=>by have:=O.bL z a;omega,O.rc,⟨v1,by omega,e⟩,⟨v2,by omega,u2⟩,⟨w,by omega,O.zn⟩,qk h (by decide),qk h (by decide)⟩
def ajy {Q:Src} {M:List (List ar)} {w:Nat} (h:Q.n=256) (c:bw Q.ctx 512 w M) (g:M.length<=4 \/ w<=4) (k:M.length<=24) (e:w<=12) (first:Nat) {x:qg} (S:yv x):Fa Q.ctx Q.cc 512 1653500582 M w (nO (mr M w first) x):=by
 have O:=UM c first
 have d:=UL c g w first
 rw [Nz h] at d
 have b1:=S.b1
 have b2:=S.b2
 have f:=ab9 d (x:=x) (by omega)
 have ⟨l,o,i,m,j⟩:=aca O x
 refine ⟨by omega,by omega,c.yA,f,by omega,by omega,by omega,by omega,by omega,qk h (by decide),qk h (by decide), λ a b _=>qk h ?_, λ _=>qk h ?_⟩
 rw [Aa h]
 have:(nO (mr M w first) x).rows.length<=4:=by omega
 exact bs (c6 _ this) (by decide)
 rw [Aa h]
 exact bs (c6 _ e) (by decide)
section
variable (G:Nat->Option (List aa)) {ops:List fF} {at_:List Nat} {bt first:Nat} {x:qg}
def ahc (d:ag ab G 13 [] (.bool true)) (ho:∀ o∈ops,l9 o) (A:∀ a∈at_,a<256) (q:bt<256) (S:yv x) (E:first<256):ag ab G 3 [tf ops at_ bt,mI x,u8 first] (.bool true):=by
 have ⟨Q,b⟩:=Qs (r:=ops) λ o h=>(ho o h).abs
 generalize C:wC ops=l at b
 generalize z:1+bt%12=n
 have m:=ahT G ho A q C z
 have g:=lY (first:Int) (by omega) (by omega)
 cases e:yX ops at_ l with
 | false =>
   rw [e,if_neg Bool.false_ne_true] at m
   exact aO [hc m,hc d,hc d]
 | true =>
   rw [e,if_pos rfl] at m
   cases w:decide (lr l<=2) with
   | false =>
     rw [w] at m
     exact aO [hc m,hc d,hc d]
   | true =>
     rw [w] at m
     have y:at_.length<=24:=by
       unfold yX at e
       rw [hJ,Bool.not_eq_true'] at e
       have:=of_decide_eq_false e.2
       omega
     have H:0<n:=by omega
     have u:n<=12:=by omega
     have D:=Nat.div_mul_le_self at_.length n
     have p:=ad2 b at_ n (at_.length/n)
     have B:=Sb l at_ n (at_.length/n)
     generalize gP l at_ n (at_.length/n)=M at *
     have i:M.length<=24:=by rw [B];exact bs (Nat.div_le_self _ _) y
     have k:M.length<=4 \/ n<=4:=by
       rcases Nat.lt_or_ge 4 M.length with h1 | h1
       rcases Nat.lt_or_ge 4 n with t | t
       exfalso
       have:=Nat.mul_le_mul (show 5<=at_.length/n by omega) (show 5<=n by omega)
       omega
       exact .inr t
       exact .inl h1
     have F:=Src.K7 (Q:=Q) b.1
     have o:=ahX G F (c:=n) (first:=first) p H (by omega) (by omega) (by omega) E (j:=4) k (by rw [Nz b.1];exact qk b.1 (by decide))
     have c:=ahI G F (ajv b.1 p k i u first) S
     have Z:=ajy b.1 p k i u first S
     have v:=XO G F Z
     have r:=ak9 G F Z
     generalize nO (mr M n first) x=c' at *
     cases s:n8 M n c' with
     | false =>
       rw [s] at v r
       exact aO [hc m,hc d,hw 27 g,hc o,hc c,hc v,hc r]
     | true =>
       rw [s] at v r
       exact aO [hc m,hc d,hw 27 g,hc o,hc c,hc v,hc r]
def MN (q:Rat):ar:=(true,eb q)
end
section
variable (G:Nat->Option (List aa))
def n2 (a:Int) (b:Nat) (q:Rat) (e:(a:Rat)/((b:Int):Rat)=q:=by decide +kernel) (h1:b≠0:=by decide) (f:b<=1000:=by decide) (h3 : -1000<=a:=by decide) (h4:a<=1000:=by decide):ag ab G 95 [.int .i64 a, .int .i64 (b:Int)] (aV q):=by
 subst e;exact Na G a b h1 f h3 h4
def n3 (q:Rat) (h:ae q.num.natAbs<=5/\ae q.den<=5:=by decide +kernel):ag ab G 94 [aV q] (aw (eb q)):=Ul G q (cI.mono ⟨h.1,h.2⟩ (by decide))
def Jl {a:Int} {b:Nat} {p:Rat} (f:ag ab G 95 [.int .i64 a, .int .i64 (b:Int)] (aV p)) (r:ag ab G 94 [aV p] (aw (eb p))):ag ab G 45 [.int .i64 (b:Int), .sl 1 [.int .i64 a]] (aj [MN p]) :=
 ag.xM aY [hc f,hc r] [([15],⟨[aw (eb p)],2,false⟩)] (.ai [15] 2 0 1 false) (by kernel_rfl) (λ σ h=>im (one h))
def D5 {a a':Int} {b:Nat} {p d:Rat} (f:ag ab G 95 [.int .i64 a, .int .i64 (b:Int)] (aV p)) (r:ag ab G 94 [aV p] (aw (eb p))) (e:ag ab G 95 [.int .i64 a', .int .i64 (b:Int)] (aV d)) (g:ag ab G 94 [aV d] (aw (eb d))):ag ab G 45 [.int .i64 (b:Int), .sl 1 [.int .i64 a, .int .i64 a']] (aj [MN p,MN d]) :=
 ag.xM aY [hc f,hc r,hc e,hc g] [([29],⟨[aw (eb p),aw (eb d)],2,false⟩)] (.ai [29] 2 0 2 false) (by kernel_rfl) (λ σ h=>im (one h))
def qE (M:List (List Rat)):List (List ar):=M.map λ r=>r.map a6
def CX (M:List (List Rat)):Bool:=M.all λ r=>r.all λ q=>decide (q.num.natAbs<=256)&&decide (q.den<=256)
def Fj {K:cT} {M:List (List Rat)} (h:CX M=true):jC K 8 (qE M) := λ r d x b=>by
 obtain ⟨s,a,rfl⟩:=bn.1 d
 obtain ⟨q,c,rfl⟩:=bn.1 b
 have:=eO.1 (eO.1 h s a) q c
 rw [hJ] at this
 exact aI.G.rat (q:=q) (of_decide_eq_true this.1) (of_decide_eq_true this.2)
def BB (R C:List Int) (I O a:List (List Rat)):fG:=⟨R,C,qE I,qE O,qE a⟩
def zP {a b c:Rat} (h:a*b=c:=by decide +kernel):eh (fC [a6 a] [a6 b]) (a6 c)=true:=by
 have e:=C5 (List.zip [a6 a] [a6 b]) (λ p f=>by rw [bJ.1 f];exact ⟨trivial,trivial⟩) (s:=a6 0) H3
 refine m5.2 (Eq.trans e ?_)
 show (0:aC)+ek a*ek b=ek c
 rw [yh,h];grind
def HT {a b a' f c:Rat} (h:a*b+a'*f=c:=by decide +kernel):eh (fC [a6 a,a6 a'] [a6 b,a6 f]) (a6 c)=true:=by
 have e:=C5 (List.zip [a6 a,a6 a'] [a6 b,a6 f]) (λ p g=>by
   rcases cr.1 g with rfl | g
   exact ⟨trivial,trivial⟩
   rw [bJ.1 g];exact ⟨trivial,trivial⟩) (s:=a6 0) H3
 refine m5.2 (Eq.trans e ?_)
 show (0:aC)+ek a*ek b+ek a'*ek f=ek c
 rw [yh,yh, <- h, <- aC.ofRat_add];grind
def FQ (a:Rat):eh (a6 a) (a6 a)=true:=m5.2 rfl
def k9:List (List ar):=qE [[1,2],[2,4]]
def sY:fG:=BB [0] [0] [[1]] [[2]] [[-2,1]]
def yy:fG:=BB [1] [1] [[1/4]] [[1/2]] [[1, -1/2]]
def Kg:fG:=BB [0] [0] [[1]] [[2]] [[2, -1]]
def anX:(gO k9 2 sY).su=true:=by
 show (eh (fC [a6 1] [a6 1]) (a6 1)&&true&&true)=true
 rw [zP];rfl
def anR:(gO k9 2 sY).tR=true:=by
 show (true&&((false||(eh (fC [a6 2] [a6 1]) (a6 2)&&(eh (fC [a6 2] [a6 2]) (a6 4)&&true)))&&true))=true
 rw [zP,zP];rfl
def an0:(gO k9 2 sY).sv=true:=by
 show (true&&((false||((true&&((false||eh (a6 1) (a6 1))&&true))&&(eh (fC [a6 1,a6 2] [a6 (-2),a6 1]) (a6 0)&&(eh (fC [a6 2,a6 4] [a6 (-2),a6 1]) (a6 0)&&true))))&&true))=true
 rw [FQ,HT,HT];rfl
def amt:n8 k9 2 sY=true:=by
 unfold n8
 rw [anX,anR,an0,show n6 k9 2 sY=true by kernel_rfl];rfl
def anY:(gO k9 2 yy).su=true:=by
 show (eh (fC [a6 (1/4)] [a6 4]) (a6 1)&&true&&true)=true
 rw [zP];rfl
def anS:(gO k9 2 yy).tR=true:=by
 show ((false||(eh (fC [a6 (1/2)] [a6 2]) (a6 1)&&(eh (fC [a6 (1/2)] [a6 4]) (a6 2)&&true)))&&(true&&true))=true
 rw [zP,zP];rfl
def an1:(gO k9 2 yy).sv=true:=by
 show ((false||(((false||eh (a6 1) (a6 1))&&(true&&true))&&(eh (fC [a6 1,a6 2] [a6 1,a6 (-1/2)]) (a6 0)&&(eh (fC [a6 2,a6 4] [a6 1,a6 (-1/2)]) (a6 0)&&true))))&&(true&&true))=true
 rw [FQ,HT,HT];rfl
def amu:n8 k9 2 yy=true:=by
 unfold n8
 rw [anY,anS,an1,show n6 k9 2 yy=true by kernel_rfl];rfl
def an2:(gO k9 2 Kg).sv=false:=by
 have h:eh (a6 (-1)) (a6 1)=false:=by
   cases e:eh (a6 (-1)) (a6 1) with
   | false=>rfl
   | true=>exact absurd (aC.Hy (show ek (-1)=ek 1 from m5.1 e)) (by decide +kernel)
 show (true&&((false||((true&&((false||eh (a6 (-1)) (a6 1))&&true))&&_))&&true))=false
 rw [h];rfl
def amv:n8 k9 2 Kg=false:=by
 unfold n8
 rw [an2,Pz,Pz,Pz]
def ams:n8 k9 3 sY=false:=by
 unfold n8
 rw [show n6 k9 3 sY=false by kernel_rfl,nI]
def aoc {σ : aL} {e a d b g f:bT} {b1 b2 b3 b4 s4 s5:Bool} {M:List (List ar)} {c:fG} {w:Nat} (h1 : σ e=some ⟨M.map aj,1,b1⟩) (j : σ a=some ⟨c.rows.map bU,1,b2⟩) (h3 : σ d=some ⟨c.bt.map bU,1,b3⟩) (h4 : σ b=some ⟨c.inv.map aj,1,b4⟩) (i : σ g=some ⟨c.cj.map aj,1,s4⟩) (h : σ f=some ⟨c.bh.map aj,1,s5⟩):c9 σ [.ai e 1 0 M.length false,ak w, .agg [.ai a 1 0 c.rows.length false, .ai d 1 0 c.bt.length false, .ai b 1 0 c.inv.length false, .ai g 1 0 c.cj.length false, .ai f 1 0 c.bh.length false]] [az M,ak w,gl c] :=
 cp (im h1 (aM ..)) (cp (View.pure bg.pure) (cp (View.agg (cp (im j (aM ..)) (cp (im h3 (aM ..)) (cp (im h4 (aM ..)) (cp (im i (aM ..)) (cp (im h (aM ..)) c9.nil)))))) c9.nil))
def Gr {G:Nat->Option (List aa)} {f:FuncId} {r:aa} (i b j k g d:bT) (b1 b2 b3 b4 s4 s5:Bool) (M:List (List ar)) (c:fG) (w:Nat) (h:ag ab G f [az M,ak w,gl c] r) (e:[i,b,j,k,g,d].Nodup:=by decide):aZ ab G :=
 qw [(i,⟨M.map aj,1,b1⟩),(b,⟨c.rows.map bU,1,b2⟩),(j,⟨c.bt.map bU,1,b3⟩),(k,⟨c.inv.map aj,1,b4⟩),(g,⟨c.cj.map aj,1,s4⟩),(d,⟨c.bh.map aj,1,s5⟩)]
   (args:=[.ai i 1 0 M.length false,ak w, .agg [.ai b 1 0 c.rows.length false, .ai j 1 0 c.bt.length false, .ai k 1 0 c.inv.length false, .ai g 1 0 c.cj.length false, .ai d 1 0 c.bh.length false]]) h (by
   simp only [List.nodup_cons,cr,cX,or_false,not_or,List.nodup_nil,and_true,not_false_eq_true] at e
   have ⟨⟨B,y,o,q,m⟩,⟨l,z,s,v⟩,⟨A,p,u⟩,⟨t,x⟩,n⟩:=e
   refine aoc (b1:=b1) (b2:=b2) (b3:=b3) (b4:=b4) (s4:=s4) (s5:=s5) ?_ ?_ ?_ ?_ ?_ ?_<;>simp [aL.of,List.lookup,eF (c3 B),eF (c3 y),eF (c3 o),eF (c3 q),eF (c3 m),eF (c3 l),eF (c3 z),eF (c3 s),eF (c3 v),eF (c3 A),eF (c3 p),eF (c3 u),eF (c3 t),eF (c3 x),eF (c3 n)])
def Fs {M:List (List Rat)} {R C:List Int} {I O b:List (List Rat)} {w:Nat} (z:Bool) (f:n8 (qE M) w (BB R C I O b)=z) (h1:CX M=true:=by decide +kernel) (e:CX I=true:=by decide +kernel) (h3:CX O=true:=by decide +kernel) (h4:CX b=true:=by decide +kernel) (j:M.length=2:=by rfl) (g:R.length=1:=by rfl) (i:C.length=1:=by rfl) (l:I.length=1:=by rfl) (h:O.length=1:=by rfl) (k:b.length=1:=by rfl) (hw:w<=3:=by decide):ag ab G 16 [az (qE M),ak w,gl (BB R C I O b)] (.bool z):=by
 subst f
 have F:=Src.K7 (Q:=Src.none 256) rfl
 have c:∀ A:List (List Rat),(qE A).length=A.length := λ A=>aM ..
 refine XO G F (nm:=8) (eG:=8) ⟨by rw [c];omega,by omega,Fj h1,⟨Fj e,Fj h3,Fj h4⟩,by show R.length<=_;omega,by show C.length<=_;omega,by show (qE I).length<=_;rw [c];omega,by show (qE O).length<=_;rw [c];omega,by show (qE b).length<=_;rw [c];omega,qk rfl (by decide),qk rfl (by decide), λ _ _ _=>qk rfl ?_, λ _=>qk rfl ?_⟩
 show R.length*_<=_
 rw [g,Aa rfl];decide
 rw [Aa rfl]
 exact bs (c6 _ hw) (by decide)
def aaQ:ag ab G 13 [] (.bool true):=by
 have l:=D5 G (n2 G 1 1 1) (n3 G 1) (n2 G 2 1 2) (n3 G 2)
 have k:=D5 G (n2 G 2 1 2) (n3 G 2) (n2 G 4 1 4) (n3 G 4)
 have g:=Jl G (n2 G 1 1 1) (n3 G 1)
 have d:=Jl G (n2 G 2 1 2) (n3 G 2)
 have e:=D5 G (n2 G (-2) 1 (-2)) (n3 G (-2)) (n2 G 1 1 1) (n3 G 1)
 have h:=Jl G (n2 G 1 4 (1/4)) (n3 G (1/4))
 have f:=Jl G (n2 G 1 2 (1/2)) (n3 G (1/2))
 have c:=D5 G (n2 G 2 2 1 (by decide +kernel)) (n3 G 1) (n2 G (-1) 2 (-1/2)) (n3 G (-1/2))
 have b:=D5 G (n2 G 2 1 2) (n3 G 2) (n2 G (-1) 1 (-1)) (n3 G (-1))
 have m:=Fs G true amt
 have j:=Fs G true amu
 have o:=Fs G false amv
 have n:=Fs G false ams
 exact aO [j1 [1] 1 [.int .i64 1, .int .i64 2] (A:=[.int .i64 1]) l,j1 [3] 1 [.int .i64 2, .int .i64 4] (A:=[.int .i64 1]) k,j1 [9] 1 [.int .i64 1] (A:=[.int .i64 1]) g,j1 [12] 1 [.int .i64 2] (A:=[.int .i64 1]) d,j1 [15] 1 [.int .i64 (-2), .int .i64 1] (A:=[.int .i64 1]) e,j1 [23] 1 [.int .i64 1] (A:=[.int .i64 4]) h,j1 [26] 1 [.int .i64 1] (A:=[.int .i64 2]) f,j1 [29] 1 [.int .i64 2, .int .i64 (-1)] (A:=[.int .i64 2]) c,j1 [38] 1 [.int .i64 2, .int .i64 (-1)] (A:=[.int .i64 1]) b,Gr [5] [7] [8] [11] [14] [17] false false false false false false k9 sY 2 m,Gr [5] [21] [22] [25] [28] [31] true false false false false false k9 yy 2 j,Gr [5] [7] [8] [11] [14] [40] true true true true true false k9 Kg 2 o,Gr [5] [7] [8] [11] [14] [17] true true true true true true k9 sY 3 n]
end
end Go.Proofs.YtpcofcmencgkbaaGreat
namespace Go.aF
section
variable {H:Type} {enc:TypeId × Value->H} {P:Program} {w:World} {spare:Nat->Bool} {held:Bool}
def lT (w:World):Env:=⟨λ _=>none, λ b=>b<w.heap.size⟩
def K3 {α β : Type} {f : α -> β} {Q : α -> Prop}:∀ {es:List β},(∀ c∈es,∃ x,c=f x/\Q x)->∃ l:List α,es=l.map f/\∀ x∈l,Q x
 | [],_=>⟨[],rfl,by simp⟩
 | c::es,h=>by
   have ⟨x,g,e⟩:=h c (by simp)
   have ⟨l,d,b⟩:=K3 (es:=es) λ y a=>h y (by simp [a])
   exact ⟨x::l,by rw [g,d];rfl,by intro y a;rcases cr.1 a with rfl | a;exact e;exact b y a⟩
def UJ {t e:TypeId} {fuel k:Nat} {cs:List Value} {x:DataW H × List MemPlace} (ht:P.underlying t=some (.slice e)) (hk:P.cellsOf e=k) (B:0<k) (h:kF enc P w 0 spare held fuel t cs=some x) (f:aa->Prop)
   (F:∀ n d y,fuel=n+1->kF enc P w 0 spare held n e d=some y->∃ c:aa,f c/\c.size=k/\bl (lT w) w c.cells d) :
   ∃ (es:List aa) (v:Value),cs=[v]/\av (lT w) w (.sl k es) v/\(∀ c∈es,f c)/\es.length<=maxLen:=by
 rcases DataW.trod_slice ht h with ⟨rfl,rfl⟩ | ⟨a,len,cap,V,rest,n,L,rfl,rfl,_,hl,hm,hlen,R,_,_⟩
 exact ⟨[],_,rfl,by simp only [av];exact ⟨none,0,rfl,a4 _,et _,by simp, .inl trivial⟩,by simp,et _⟩
 have hC:∀ i,i<len->∃ c:aa,f c/\c.size=k/\∃ d,w.cells? 0 (a.add (i*k)) k=some d/\bl (lT w) w c.cells d:=by
   intro i hi
   have h1:=R i hi
   rw [du (by omega),hk] at h1
   have ⟨d,O,h3⟩:=Option.bind_eq_some_iff.1 h1
   have ⟨c,hg,Z,M⟩:=F n d _ L h3
   exact ⟨c,hg,Z,d,O,M⟩
 have E:∀ i:_root_.Fin len,∃ c:aa,f c/\c.size=k/\∃ d,w.cells? 0 (a.add (i.1*k)) k=some d/\bl (lT w) w c.cells d := λ i=>hC i.1 i.2
 let C:_root_.Fin len->aa := λ i=>(E i).choose
 have p:∀ i,f (C i)/\(C i).size=k/\∃ d,w.cells? 0 (a.add (i.1*k)) k=some d/\bl (lT w) w (C i).cells d := λ i=>(E i).choose_spec
 have z:∀ c∈JZ C,c.size=k:=by intro c A;obtain ⟨i,rfl⟩:=Z4.1 A;exact (p i).2.1
 refine ⟨JZ C,_,rfl, ?_,by intro c A;obtain ⟨i,rfl⟩:=Z4.1 A;exact (p i).1,by rw [EL];omega⟩
 simp only [av]
 refine ⟨some a,cap,by rw [EL],by rw [EL];exact hl,hm,z, ?_⟩
 by_cases h0:len=0
 left;exact List.length_eq_zero_iff.1 (by rw [EL];exact h0)
 right
 have m:∀ (i:_root_.Fin len) (r:Nat) (c:aa),(C i).cells[r]? = some c->∃ v,w.cell? ((a.add (i.1*k)).add r)=some v/\av (lT w) w c v:=by
   intro i r c A
   have ⟨_,Z,d,h1,O⟩:=p i
   obtain ⟨SF,hp⟩:=fe.1 O
   obtain ⟨v,U,N⟩:=hp r c A
   refine ⟨v, ?_,N⟩
   have S:r<k:=by have:=(eu.1 A).1;rw [<- Z];exact this
   rw [(World.cells?_some h1).2.2 r S,U]
 obtain ⟨b,o,l⟩:=a
 have W:0<len:=Nat.pos_of_ne_zero h0
 obtain ⟨abB,T⟩:∃ c,(C ⟨0,W⟩).cells[0]? = some c:=⟨_,du (by have:=(p ⟨0,W⟩).2.1;unfold aa.size at this;omega)⟩
 obtain ⟨v0,Y,_⟩:=m ⟨0,W⟩ 0 abB T
 have s:((⟨b,o,l⟩:Addr).add (0*k)).add 0=⟨b,o,l⟩:=by simp [Addr.add]
 have q:w.cell? ⟨b,o,l⟩=some v0:=by rw [<- s];exact Y
 have X:l=none:=World.cell?_spot q
 subst X
 refine ⟨b,o,rfl,World.block_lt_of_cell? _ _ q,n9.2 ?_⟩
 intro j c hj
 have I:j<(flat (JZ C)).length:=(eu.1 hj).1
 rw [kL z,EL] at I
 have u:j/k<len:=(Nat.div_lt_iff_lt_mul B).2 I
 have Q:j%k<k:=bC _ B
 have G:(JZ C)[j/k]? = some (C ⟨j/k,u⟩):=by rw [List.getElem?_ofFn,dif_pos u]
 have D:=yT z G Q
 have J:j/k*k+j%k=j:=by rw [Nat.mul_comm];exact Nat.div_add_mod j k
 rw [J,hj] at D
 obtain ⟨v,U,M⟩:=m ⟨j/k,u⟩ (j%k) c D.symm
 refine ⟨v, ?_,M⟩
 have K:((⟨b,o,none⟩:Addr).add (j/k*k)).add (j%k)=⟨b,o+j,none⟩:=by
   have h1:∀ (o n:Nat),(⟨b,o,none⟩:Addr).add n=⟨b,o+n,none⟩ := λ o n=>by unfold Addr.add;split<;>simp_all
   rw [h1,h1,Nat.add_assoc,J]
 rw [<- K];exact U
end
end Go.aF
namespace Go.Proofs.YtpcofcmencgkbaaGreat
section
variable {H:Type} {enc:TypeId × Value->H} {w:World} {spare:Nat->Bool} {held:Bool} {fuel:Nat} {cs:List Value} {x:DataW H × List MemPlace}
def tL (h:kF enc ab w 0 spare held fuel 5 cs=some x):∃ n:Nat,n<256/\bl (lT w) w [.int .u8 (n:Int)] cs:=by
 obtain ⟨n,rfl,_,hw⟩:=Z5 Tryz.underlying5 h
 have hb:=bounds_u8 hw
 obtain ⟨m,rfl⟩:=Int.eq_ofNat_of_zero_le hb.1
 exact ⟨m,by omega,by simp [bl,av]⟩
def UT (h:kF enc ab w 0 spare held fuel 27 cs=some x):∃ n:Int,(-128<=n/\n<128)/\bl (lT w) w [.int .i8 n] cs:=by
 obtain ⟨n,rfl,_,hw⟩:=Z5 Tryz.underlying27 h
 exact ⟨n,by have:=bounds_i8 hw;omega,by simp [bl,av]⟩
def Fy:ab.cellsOf 5=1:=by kernel_rfl
def QA:ab.cellsOf 27=1:=by kernel_rfl
def Qy:ab.cellsOf 152=5:=by kernel_rfl
def abD:ab.cellsOf 23=1:=by kernel_rfl
def abE:ab.cellsOf 24=1:=by kernel_rfl
def abF:ab.cellsOf 26=3:=by kernel_rfl
def abG:ab.cellsOf 29=3:=by kernel_rfl
def ajN (h:kF enc ab w 0 spare held fuel 152 cs=some x):∃ o:fF,l9 o/\bl (lT w) w (kS o).cells cs:=by
 have ⟨xs,n,_,_,s,m,k⟩:=PA Tryz.underlying152 h
 rw [Qy] at s
 have B:xs.length=5:=m
 match cs,s with
 | [i,v1,v2,g,j],_ =>
   have l:kF enc ab w 0 spare held n 5 (ri (ab.cellsOf 5) (rj 0 [i,v1,v2,g,j]))=xs[0]? := k 0 _ rfl
   have f1:kF enc ab w 0 spare held n 5 (ri (ab.cellsOf 5) (rj 1 [i,v1,v2,g,j]))=xs[1]? := k 1 _ rfl
   have p:kF enc ab w 0 spare held n 5 (ri (ab.cellsOf 5) (rj 2 [i,v1,v2,g,j]))=xs[2]? := k 2 _ rfl
   have q:kF enc ab w 0 spare held n 27 (ri (ab.cellsOf 27) (rj 3 [i,v1,v2,g,j]))=xs[3]? := k 3 _ rfl
   have r:kF enc ab w 0 spare held n 5 (ri (ab.cellsOf 5) (rj 4 [i,v1,v2,g,j]))=xs[4]? := k 4 _ rfl
   rw [du (by omega)] at l f1 p q r
   simp only [Fy,QA,iZ,PB,PC,PD] at l f1 p q r
   have ⟨a,u,A⟩:=tL l
   have ⟨b,hb,v⟩:=tL f1
   have ⟨c,hc,z⟩:=tL p
   have ⟨d,hd,rd⟩:=UT q
   have ⟨e,y,t⟩:=tL r
   refine ⟨⟨a,b,c,d,e⟩,⟨u,hb,hc,y,hd.1,by have:=hd.2;show d<=127;omega⟩, ?_⟩
   show bl (lT w) w [.int .u8 (a:Int), .int .u8 (b:Int), .int .u8 (c:Int), .int .i8 d, .int .u8 (e:Int)] _
   exact nK (xs:=[.int .u8 (a:Int)]) (us:=[i]) A (nK (xs:=[.int .u8 (b:Int)]) (us:=[v1]) v (nK (xs:=[.int .u8 (c:Int)]) (us:=[v2]) z (nK (xs:=[.int .i8 d]) (us:=[g]) rd t)))
def ajO (h:kF enc ab w 0 spare held fuel 23 cs=some x):∃ l:List fF,(∀ o∈l,l9 o)/\bl (lT w) w [.sl 5 (l.map kS)] cs:=by
 obtain ⟨es,v,rfl,g,i,j⟩:=UJ (k:=5) Tryz.underlying23 Qy (by decide) h (λ c=>∃ d:fF,c=kS d/\l9 d) (λ n e y _ f=>by
   have ⟨d,h1,b⟩:=ajN f
   exact ⟨kS d,⟨d,rfl,h1⟩,rfl,b⟩)
 obtain ⟨l,rfl,hw⟩:=K3 i
 exact ⟨l,hw,by simp only [bl];exact ⟨v,[],rfl,g,rfl⟩⟩
def ajM (h:kF enc ab w 0 spare held fuel 24 cs=some x):∃ l:List Nat,(∀ a∈l,a<256)/\bl (lT w) w [.sl 1 (l.map u8)] cs:=by
 obtain ⟨es,v,rfl,f,d,m⟩:=UJ (k:=1) Tryz.underlying24 Fy (by decide) h (λ c=>∃ n:Nat,c=u8 n/\n<256) (λ n e y _ g=>by
   have ⟨n,i,j⟩:=tL g
   exact ⟨u8 n,⟨n,rfl,i⟩,rfl,j⟩)
 obtain ⟨l,rfl,hw⟩:=K3 d
 exact ⟨l,hw,by simp only [bl];exact ⟨v,[],rfl,f,rfl⟩⟩
def ajK (h:kF enc ab w 0 spare held fuel 26 cs=some x):∃ (ops:List fF) (at_:List Nat) (d:Nat),(∀ o∈ops,l9 o)/\(∀ a∈at_,a<256)/\d<256/\bl (lT w) w (tf ops at_ d).cells cs:=by
 have ⟨xs,n,_,_,k,f,i⟩:=PA Tryz.underlying26 h
 rw [abF] at k
 have r:xs.length=3:=f
 match cs,k with
 | [e,v1,v2],_ =>
   have g:kF enc ab w 0 spare held n 23 (ri (ab.cellsOf 23) (rj 0 [e,v1,v2]))=xs[0]? := i 0 _ rfl
   have f1:kF enc ab w 0 spare held n 24 (ri (ab.cellsOf 24) (rj 1 [e,v1,v2]))=xs[1]? := i 1 _ rfl
   have j:kF enc ab w 0 spare held n 5 (ri (ab.cellsOf 5) (rj 2 [e,v1,v2]))=xs[2]? := i 2 _ rfl
   rw [du (by omega)] at g f1 j
   simp only [Fy,abD,abE,iZ,PB,PC,PD] at g f1 j
   have ⟨ops,ho,l⟩:=ajO g
   have ⟨at_,p,q⟩:=ajM f1
   have ⟨c,hc,m⟩:=tL j
   refine ⟨ops,at_,c,ho,p,hc, ?_⟩
   show bl (lT w) w [.sl 5 (ops.map kS), .sl 1 (at_.map u8),u8 c] _
   exact nK (xs:=[.sl 5 (ops.map kS)]) (us:=[e]) l (nK (xs:=[.sl 1 (at_.map u8)]) (us:=[v1]) q m)
def ajL (h:kF enc ab w 0 spare held fuel 29 cs=some x):∃ s:qg,yv s/\bl (lT w) w (mI s).cells cs:=by
 have ⟨xs,n,_,_,k,f,j⟩:=PA Tryz.underlying29 h
 rw [abG] at k
 have l:xs.length=3:=f
 match cs,k with
 | [e,v1,v2],_ =>
   have i:kF enc ab w 0 spare held n 5 (ri (ab.cellsOf 5) (rj 0 [e,v1,v2]))=xs[0]? := j 0 _ rfl
   have f1:kF enc ab w 0 spare held n 5 (ri (ab.cellsOf 5) (rj 1 [e,v1,v2]))=xs[1]? := j 1 _ rfl
   have g:kF enc ab w 0 spare held n 27 (ri (ab.cellsOf 27) (rj 2 [e,v1,v2]))=xs[2]? := j 2 _ rfl
   rw [du (by omega)] at i f1 g
   simp only [Fy,QA,iZ,PB,PC,PD] at i f1 g
   have ⟨a,p,o⟩:=tL i
   have ⟨b,hb,m⟩:=tL f1
   have ⟨d,hd,rd⟩:=UT g
   refine ⟨⟨a,b,d⟩,⟨p,hb,hd.1,by have:=hd.2;show d<=127;omega⟩, ?_⟩
   show bl (lT w) w [.int .u8 (a:Int), .int .u8 (b:Int), .int .i8 d] _
   exact nK (xs:=[.int .u8 (a:Int)]) (us:=[e]) o (nK (xs:=[.int .u8 (b:Int)]) (us:=[v1]) m rd)
end
end Go.Proofs.YtpcofcmencgkbaaGreat
