/- For the claim of VerifierRank: parts XTY, XU1, MXE, XU2, XU3, XU4, XU5, XU6, LP9, XU7, MXF. -/
import Derived.Test.YtpcofcmencgkbaaGreatC10
import Derived.Test.YtpcofcmencgkbaaGreatC07
import Derived.Test.YtpcofcmencgkbaaGreatC09
set_option linter.defProp false
set_option linter.unusedSectionVars false
set_option linter.unusedSimpArgs false
set_option linter.unusedVariables false
set_option maxRecDepth 100000
open Bool renaming and_true->Pv,eq_false_iff->A9,eq_iff_iff->vX,false_and->nI,false_eq_true->jO,false_or->mX,or_false->Pu,true_and->hP,true_or->vW
open Go.IntKind renaming i64->cF,wrap_i64->cM
open Go.Proofs.Tryz renaming prog->ab
open Go.aF renaming Id->bT,hb->fh
open Go.aF.aB renaming s->aG
open Go.aF.ar renaming T->aT,rat->a6
open Go.aF.aD renaming pM->rh
open Go.aF.View renaming aq->fi
open Go.aF.c9 renaming cons->cp,nil->iv,pure->jx
open Go.aF.hX renaming same->vV
open Go.aF.eU renaming same->hN
open List renaming all_append->ZX,all_cons->ZY,all_eq_true->eO,any_eq_true->yk,append_assoc->nC,append_nil->k5,contains_eq_any_beq->ZW,contains_eq_mem->EE,contains_iff_mem->pq,eq_of_mem_replicate->jA,eq_replicate_iff->ZU,filter_append->pg,filter_cons_of_neg->EF,filter_cons_of_pos->EG,foldl_append->Bb,foldl_cons->oq,getD_eq_getElem?_getD->dJ,getElem_mem->bc,getElem_range->p9,isEmpty_iff->ra,length_append->cd,length_filter_le->vU,length_map->aM,length_pos_iff->hO,length_range->dZ,length_replicate->nD,length_singleton->kG,length_take->cZ,length_zipWith->k0,map_append->dU,map_eq_nil_iff->eN,map_map->mU,map_singleton->ic,mem_append->en,mem_filter->kA,mem_flatMap->iK,mem_iff_getElem->fZ,mem_map->bn,mem_of_mem_take->gq,mem_range->cR,mem_singleton->bJ,nil_append->jy,nodup_range->sQ,range->ba,range_succ->ke,replicate->bG,replicate_succ->yl,replicate_succ'->ZV,singleton_append->pk,take_length->gn,take_succ_eq_append_getElem->iH
open List.Sublist renaming refl->AX
open Nat renaming le_refl->a4,le_trans->bs,mod_eq_of_lt->dG,mod_lt->bC,mul_le_mul_right->c6,not_lt_zero->kC
set_option maxHeartbeats 4000000
open Go.aF Go.Proofs Go.Lib
namespace Go.Proofs.YtpcofcmencgkbaaGreat
def j3 (C:List (List ar)):aa:=if C=[] then .aq else az C
instance {C:List (List ar)}:bg (j3 C):=by unfold j3;split<;>infer_instance
def zD {C:List (List ar)} (h:C≠[]):j3 C=az C:=if_neg h
section
variable (G:Nat->Option (List aa)) {K:cT} {q e r:Nat} (F:gG K q e r) {n w:Nat} {M:List (List ar)}
noncomputable abbrev fm (R:List (List ar)) (P:List Nat) (w k i:Nat):List ar:=ni (λ i=>((R.getD i []).getD k (a6 0)).neg) (P.take i) 0 (eM w (some k))
def G1 {R:List (List ar)} {P:List Nat} {w k i:Nat}:(fm R P w k i).length=w:=by unfold fm;rw [M6,nw]
noncomputable abbrev mq (M R:List (List ar)) (P:List Nat) (k:Nat):List (Nat × aa):=[(0,az M),(3,az R),(4,bW P),(6,ak k)]
noncomputable abbrev pL (M R:List (List ar)) (P:List Nat) (w k i:Nat) (q:aB):List (Nat × aa):=[(7, .ai q.b 2 0 ((eM w (some k)).map aT).length false),(0,az M),(3,az R),(4,bW P),(6,ak k),(8,ak i)]
def agL {R:List (List ar)} {P:List Nat} {k:Nat} {g:Nat} (m:bw K g w R) (v:bO K q g) (y:k<w) (z:P.length<=R.length) (u:∀ p∈P,p<w) (A:P.length<=9000) (i:Nat) (d:i<P.length):a2 ab G (aU (ao 86) 1) (ao 86).aK (a5 0) .normal (λ q=>(5, .aq)::pL M R P w k i q) (λ q=>[(q.b,⟨(fm R P w k i).map aT,2,false⟩)]) (λ q=>(5, .aq)::pL M R P w k (i+1) q) (λ q=>[(q.b,⟨(fm R P w k (i+1)).map aT,2,false⟩)]):=by
 have a:i<R.length:=by omega
 have c:k<(R[i]).length:=by rw [(m _ (bc a)).1];exact y
 have j:=u _ (bc d)
 have es:(fm R P w k i).set P[i] ((R[i])[k]).neg=fm R P w k (i+1):=by
   have:=M7 (f := λ i=>((R.getD i []).getD k (a6 0)).neg) (x:=eM w (some k)) d
   rw [bj a,bj c] at this
   exact this
 have t:P[i]<(fm R P w k i).length:=by rw [G1];exact j
 have h:P[i]<((eM w (some k)).map aT).length:=by rw [aM,nw];exact j
 have o:=TW G ((m _ (bc a)).2 _ (bc c)) v
 generalize fm R P w k (i+1)=qi at *
 generalize fm R P w k i=X at *
 exact aW aG [bm 31 ak d,aQ 37 1 ak d,aQ 41 1 aj a,aQ 44 2 aT c,hc o,dM 47 2 [2] false ((eM w (some k)).map aT).length P[i] h,nX 47 2 [2] 2 aT X P[i] ((R[i])[k]).neg qi es t,a9 33 i]
def agJ {R:List (List ar)} {P:List Nat} {k:Nat}:a2 ab G (aU (ao 86) 1) (ao 86).aK (a5 0) (.exit 2) (λ q=>(5, .aq)::pL M R P w k P.length q) (λ q=>[(q.b,⟨(fm R P w k P.length).map aT,2,false⟩)]) (λ q=>(5, .aq)::pL M R P w k P.length q) (λ q=>[(q.b,⟨(fm R P w k P.length).map aT,2,false⟩)]):=aW aG [cx 31 ak P]
include F in
theorem agN {R:List (List ar)} {P:List Nat} {k:Nat} {g:Nat} (bo:M≠[]) (wS:dT M=w) (db:bw K g w R) (yC:bO K q g) (hk:k<w) (ca:w<=9000) (hl:P.length<=R.length) (oJ:∀ p∈P,p<w) (pP:P.length<=9000) (hn:k ∉ P):a2 ab G (aU (ao 86) 0) (ao 86).aK (a5 2) .normal (fun q=>(5, .aq)::mq M R P k) (fun q=>[]) (fun q=>(5, .ai q.a 1 0 1 false)::mq M R P (k+1)) (fun q=>[(q.a,⟨[aj (fm R P w k P.length)],1,false⟩)]):=by
 have n4:=qA G bo
 rw [wS] at n4
 have hp:=Mk G hn pP
 have hu:=Hj G (show 0<w by omega) ca (some k)
 have H:a2 ab G (aU (ao 86) 0) (ao 86).aK (a5 2) .normal (fun q=>(5, .aq)::mq M R P k) (fun q=>[]) (fun q=>(5, .ai q.a 1 0 1 false)::mq M R P (k+1)) (fun q=>[(q.a,⟨[.ai q.b 2 0 ((eM w (some k)).map aT).length false],1,false⟩),(q.b,⟨(fm R P w k P.length).map aT,2,false⟩)]) :=
   aW ⟨[2000007,0],[2000001,0],[3],[4]⟩ [hc n4,hb 17 (dW hk),hc hp,hc n4,dc hu,ck (ao 86) 1 0 0 P.length ⟨[1],[2000000,11,0],[3],[4]⟩ (fun i q=>(5, .aq)::pL M R P w k i q) (fun i q=>[(q.b,⟨(fm R P w k i).map aT,2,false⟩)]) (.exit 2) (fun q=>(5, .aq)::pL M R P w k P.length q) (fun q=>[(q.b,⟨(fm R P w k P.length).map aT,2,false⟩)]) (fun i hi=>agL G db yC hk hl oJ pP i hi) (agJ G),a9 19 k]
 exact H.gV fun q m gd=>bz.Gc (F:=mq M R P (k+1)) (L:=[]) gd (fun e he=>(List.not_mem_nil he).elim) (fun e he=>by obtain ⟨x,_,rfl⟩:=bn.1 he;infer_instance) (by rw [aM,aM,nw,G1])
def agM {l:List aa} [br l] [cq 1 l] {R:List (List ar)} {P:List Nat} {k:Nat} {g:Nat} (t:bw K g w R) (z:bO K q g) (A:k<w) (B:P.length<=R.length) (y:∀ p∈P,p<w) (C:P.length<=9000) (i:Nat) (h:i<P.length):a2 ab G (aU (ao 86) 1) (ao 86).aK (a5 0) .normal (λ q=>(5, .ai q.a 1 0 l.length false)::pL M R P w k i q) (λ q=>[(q.a,⟨l,1,false⟩),(q.b,⟨(fm R P w k i).map aT,2,false⟩)]) (λ q=>(5, .ai q.a 1 0 l.length false)::pL M R P w k (i+1) q) (λ q=>[(q.a,⟨l,1,false⟩),(q.b,⟨(fm R P w k (i+1)).map aT,2,false⟩)]):=by
 have c:i<R.length:=by omega
 have d:k<(R[i]).length:=by rw [(t _ (bc c)).1];exact A
 have m:=y _ (bc h)
 have es:(fm R P w k i).set P[i] ((R[i])[k]).neg=fm R P w k (i+1):=by
   have:=M7 (f := λ i=>((R.getD i []).getD k (a6 0)).neg) (x:=eM w (some k)) h
   rw [bj c,bj d] at this
   exact this
 have v:P[i]<(fm R P w k i).length:=by rw [G1];exact m
 have j:P[i]<((eM w (some k)).map aT).length:=by rw [aM,nw];exact m
 have u:=TW G ((t _ (bc c)).2 _ (bc d)) z
 generalize fm R P w k (i+1)=qi at *
 generalize fm R P w k i=X at *
 exact aW aG [bm 31 ak h,aQ 37 1 ak h,aQ 41 1 aj c,aQ 44 2 aT d,hc u,dM 47 2 [2] false ((eM w (some k)).map aT).length P[i] j,nX 47 2 [2] 2 aT X P[i] ((R[i])[k]).neg qi es v,a9 33 i]
def agK {l:List aa} [br l] [cq 1 l] {R:List (List ar)} {P:List Nat} {k:Nat}:a2 ab G (aU (ao 86) 1) (ao 86).aK (a5 0) (.exit 2) (λ q=>(5, .ai q.a 1 0 l.length false)::pL M R P w k P.length q) (λ q=>[(q.a,⟨l,1,false⟩),(q.b,⟨(fm R P w k P.length).map aT,2,false⟩)]) (λ q=>(5, .ai q.a 1 0 l.length false)::pL M R P w k P.length q) (λ q=>[(q.a,⟨l,1,false⟩),(q.b,⟨(fm R P w k P.length).map aT,2,false⟩)]):=aW aG [cx 31 ak P]
include F in
theorem agO {l:List aa} [br l] [cq 1 l] (G2:l.length<=9000) {R:List (List ar)} {P:List Nat} {k:Nat} {g:Nat} (bo:M≠[]) (wS:dT M=w) (db:bw K g w R) (yC:bO K q g) (hk:k<w) (ca:w<=9000) (hl:P.length<=R.length) (oJ:∀ p∈P,p<w) (pP:P.length<=9000) (hn:k ∉ P):a2 ab G (aU (ao 86) 0) (ao 86).aK (a5 2) .normal (fun q=>(5, .ai q.a 1 0 l.length false)::mq M R P k) (fun q=>[(q.a,⟨l,1,false⟩)]) (fun q=>(5, .ai q.a 1 0 (l.length+1) false)::mq M R P (k+1)) (fun q=>[(q.a,⟨l++[aj (fm R P w k P.length)],1,false⟩)]):=by
 have n4:=qA G bo
 rw [wS] at n4
 have hp:=Mk G hn pP
 have hu:=Hj G (show 0<w by omega) ca (some k)
 have H:a2 ab G (aU (ao 86) 0) (ao 86).aK (a5 2) .normal (fun q=>(5, .ai q.a 1 0 l.length false)::mq M R P k) (fun q=>[(q.a,⟨l,1,false⟩)]) (fun q=>(5, .ai q.a 1 0 (l.length+1) false)::mq M R P (k+1)) (fun q=>[(q.a,⟨l++[.ai q.b 2 0 ((eM w (some k)).map aT).length false],1,false⟩),(q.b,⟨(fm R P w k P.length).map aT,2,false⟩)]) :=
   aW ⟨[2000007,0],[2000001,0],[3],[4]⟩ [hc n4,hb 17 (dW hk),hc hp,hc n4,dc hu,ck (ao 86) 1 0 0 P.length ⟨[1],[2000000,11,0],[3],[4]⟩ (fun i q=>(5, .ai q.a 1 0 l.length false)::pL M R P w k i q) (fun i q=>[(q.a,⟨l,1,false⟩),(q.b,⟨(fm R P w k i).map aT,2,false⟩)]) (.exit 2) (fun q=>(5, .ai q.a 1 0 l.length false)::pL M R P w k P.length q) (fun q=>[(q.a,⟨l,1,false⟩),(q.b,⟨(fm R P w k P.length).map aT,2,false⟩)]) (fun i hi=>agM G db yC hk hl oJ pP i hi) (agK G),jY 51 1 24 [2000000,0] 2000006 l (.ai [2000001,0] 2 0 ((eM w (some k)).map aT).length false) (by omega) (fU (k:=1)),a9 19 k]
 exact H.gV fun q m gd=>bz.Gc (F:=mq M R P (k+1)) (L:=l) gd (fun e he=>(cq.all (k:=1) e he).size) (fun e he=>by obtain ⟨x,_,rfl⟩:=bn.1 he;infer_instance) (by rw [aM,aM,nw,G1])
def agP {l:List aa} [br l] {R:List (List ar)} {P:List Nat} {k:Nat} (h:M≠[]) (b:dT M=w) (j:k<w) (o:w<=9000) (m:P.length<=9000) (g:k∈P):a2 ab G (aU (ao 86) 0) (ao 86).aK (a5 2) .normal (λ q=>(5,bq q.a 1 l)::mq M R P k) (λ q=>a8 q.a 1 l++[]) (λ q=>(5,bq q.a 1 l)::mq M R P (k+1)) (λ q=>a8 q.a 1 l++[]):=by
 have c:=qA G h
 rw [b] at c
 have ⟨i,f⟩:=TX G g m
 exact kT (A := λ _=>mq M R P k) (B := λ _=>mq M R P (k+1)) (bZ := λ _=>[]) (ct := λ _=>[]) aG [hc c,hb 17 (dW j),hc f,hb 23 (show decide ((i:Int)≥0)=true from decide_eq_true (by omega)),a9 19 k]
noncomputable abbrev oU (R:List (List ar)) (P:List Nat) (w k:Nat):List (List ar):=((ba k).filter λ k => !P.contains k).map λ k=>fm R P w k P.length
include F in
theorem ahS (bo:M≠[]) (hm:bw K n w M) (gy:M.length<=9000) (ca:w<=9000) {j:Nat} (hj:(bI M).2.length<=j) (hB:bO K q (grow K j n)):ag ab G 86 [az M] (az (pK M)):=by
 have zY:=CD G F bo hm gy ca hj hB
 have qn:=jG hm bo
 have n4:=qA G bo
 rw [qn] at n4
 have H:=mz hm
 have yC:bO K q (grow K (bI M).2.length n):=hB.mono (wL hj)
 have oJ:∀ p∈(bI M).2,p<w:=fun p hp=>by have:=H.lt p hp;omega
 have hl:(bI M).2.length<=(bI M).1.length:=by rw [H.len];exact H.pl
 have pP:(bI M).2.length<=9000:=by have:=H.pl;omega
 have db:=H.qB
 have ade:pK M=oU (bI M).1 (bI M).2 w w:=by
   unfold pK oU fm
   rw [qn,gn]
 rw [ade]
 generalize (bI M).1=R at *
 generalize (bI M).2=P at *
 refine bB [hc zY,ck (ao 86) 0 2 0 w aG (fun k q=>(5,bq q.a 1 ((oU R P w k).map aj))::mq M R P k) (fun k q=>a8 q.a 1 ((oU R P w k).map aj)++[]) (.exit 0) (fun _=>[(5,az (oU R P w w))]) (fun _=>[]) (fun k hk => ?_) ?_] (by kernel_rfl)
 . by_cases hn:k∈P
   . rw [show oU R P w (k+1)=oU R P w k from by
       unfold oU
       rw [ke,pg,EF (by simpa using hn)]
       simp]
     exact agP G bo qn hk ca pP hn
   . rw [show oU R P w (k+1)=oU R P w k++[fm R P w k P.length] from by
       unfold oU
       rw [ke,pg,EG (by simpa using hn),dU]
       simp]
     have G2:((oU R P w k).map aj).length<=9000:=by
       rw [aM,aM]
       have:=vU (fun k => !P.contains k) (ba k)
       rw [dZ] at this
       omega
     rw [dU,ic]
     generalize oU R P w k=wo at *
     by_cases bA:wo=[]
     . subst bA
       have x1:∀ i,bq i 1 (([]:List (List ar)).map aj) = .aq:=fun i=>rfl
       have bF:∀ i,a8 i 1 (([]:List (List ar)).map aj)=[]:=fun i=>rfl
       have ib:∀ i,bq i 1 (([]:List (List ar)).map aj++[aj (fm R P w k P.length)]) = .ai i 1 0 1 false:=fun i=>dA (by simp)
       have qU:∀ i,a8 i 1 (([]:List (List ar)).map aj++[aj (fm R P w k P.length)])=[(i,⟨[aj (fm R P w k P.length)],1,false⟩)]:=fun i=>dx (by simp)
       simp only [x1,bF,ib,qU,k5]
       exact agN G F bo qn db yC hk ca hl oJ pP hn
     . have hne:wo.map aj≠[]:=fun e=>bA (eN.1 e)
       have ib:∀ i,bq i 1 (wo.map aj++[aj (fm R P w k P.length)]) = .ai i 1 0 ((wo.map aj).length+1) false:=fun i=>by rw [dA (by simp),cd];rfl
       have qU:∀ i,a8 i 1 (wo.map aj++[aj (fm R P w k P.length)])=[(i,⟨wo.map aj++[aj (fm R P w k P.length)],1,false⟩)]:=fun i=>dx (by simp)
       simp only [ib,qU,dA hne,dx hne,k5]
       exact agO G F (l:=wo.map aj) G2 bo qn db yC hk ca hl oJ pP hn
 . exact (kT (A:=fun _=>mq M R P w) (B:=fun _=>[]) (bZ:=fun _=>[]) (ct:=fun _=>[]) aG [hc n4,hb 17 (kM (a4 w))]).rH (B:=[]) fun e he=>by obtain ⟨x,_,rfl⟩:=bn.1 he;infer_instance
noncomputable abbrev agI (c i:Nat):List (Nat × aa):=[(1,ak c),(6,ak i)]
include F in
theorem ahR {c:Nat} (hm:bw K n w M) (gy:M.length<=9000) (ca:w<=9000) (fA:c<=9000) {j:Nat} (hj:(bI M).2.length<=j) (hB:bO K q (grow K j n)):ag ab G 41 [az M,ak c] (az (if M.isEmpty then tQ c else pK M)):=by
 by_cases bo:M=[]
 . subst bo
   refine bB [tB (ao 41) 0 0 0 c 1 24 20 5 (fun i=>aj (eM c (some i))) ((tQ c).map aj) (agI c) (.exit 0) [] (by decide) (fun i hi => ?_) (tO [hb 12 (kM (a4 c))] (by kernel_rfl) (by intros;kernel_rfl)) ?_] (by kernel_rfl)
   . exact ru 7 8 (fun x=>[hb 12 (dW hi),hc (TY G c fA (some i))]++x++[a9 14 i]) (by kernel_rfl) (by intros;kernel_rfl)
   . unfold tQ jK;rw [mU];rfl
 . rw [if_neg (by rw [ra];exact bo)]
   have h1:(((M.map aj).length:Int)==0)=false:=by
     have:=hO.2 bo
     rw [aM]
     exact beq_eq_false_iff_ne.2 (by omega)
   exact bB [hb 9 h1,hc (ahS G F bo hm gy ca hj hB)] (by kernel_rfl)
def pa (M:List (List ar)) (C:List Nat) {x:Nat} (a:x<M.length):aA M (C++[x])=aA M C++[M[x]]:=by unfold aA;rw [dU,ic,bj a]
def U4 (M:List (List ar)) (C:List Nat) (x:Nat):lz M C x=if (bI (aA M (C++[x]))).2.length=C.length+1 then C++[x] else C:=by
 unfold lz aA
 simp only [aM,cd,kG]
include F in
theorem ajW (C:List Nat) (hC:C=[]) (hm:bw K n w M) (w0:0<w) (gy:M.length<=4000) (ca:w<=4000) (fA:C.length<=4000) (i:Nat) (hi:i<M.length) (m7:∀ k∈C,k<M.length) {j:Nat} (hj:(bI (aA M (C++[i]))).2.length<=j) (hB:bO K q (grow K j n)) (hr:(bI (aA M (C++[i]))).2.length=C.length+1):a2 ab G (aU (ao 74) 0) (ao 74).aK (a5 0) .normal (fun q=>(3, .aq)::(4, .aq)::[(0,az M),(5,ak i)]) (fun q=>[]) (fun q=>(3, .ai q.a 1 0 1 false)::(4,az (aA M (C++[i])))::[(0,az M),(5,ak (i+1))]) (fun q=>[(q.a,⟨[ak i],1,false⟩)]):=by
 have hx:i<M.length:=hi
 have rs:=pa M C hx
 have m9:bw K n w (aA M (C++[i])):=hm.sub fun k hk=>(en.1 hk).elim (m7 k) fun h=>by rw [bJ.1 h];exact hx
 have ng:aA M (C++[i])≠[]:=by rw [rs];simp
 have gR:(aA M C).length=C.length:=aM ..
 have lq:(aA M (C++[i])).length=C.length+1:=by rw [rs,cd,gR];rfl
 have jn:=vg G F ng m9 (by omega) (by omega) hj hB
 subst hC
 have kK:az (aA M ([]++[i])) = .sl 1 [aj M[i]]:=by rw [rs];rfl
 have kO:[aj M[i]].length=1:=rfl
 rw [kK] at jn
 have hq:(((bI (aA M (([]:List Nat)++[i]))).2.length:Int)==(1:Int))=true:=by
   rw [hr]
   exact beq_self_eq_true _
 have H:a2 ab G (aU (ao 74) 0) (ao 74).aK (a5 0) .normal (fun q=>(3, .aq)::(4, .aq)::[(0,az M),(5,ak i)]) (fun q=>[]) (fun q=>(3, .ai q.a 1 0 1 false)::(4, .ai q.b 1 0 1 false)::[(0,az M),(5,ak (i+1))]) (fun q=>[(q.a,⟨[ak i],1,false⟩),(q.b,⟨[aj M[i]],1,true⟩)]) :=
   aW ⟨[22,0],[12,0],[3],[4]⟩ [bm 10 aj hi,aQ 18 1 aj hi,pH (A:=[]) [12,0] 1 ([aj M[i]]) 1 kO jn,hb 26 hq,a9 12 i]
 refine H.gV fun q m gd => ?_
 rw [kK]
 exact bz.R6 gd kO.symm (fun e he=>by rw [bJ.1 he];infer_instance) (fun e he=>by rw [bJ.1 he];rfl)
include F in
theorem ajS (C:List Nat) (hC:C=[]) (hm:bw K n w M) (w0:0<w) (gy:M.length<=4000) (ca:w<=4000) (fA:C.length<=4000) (i:Nat) (hi:i<M.length) (m7:∀ k∈C,k<M.length) {j:Nat} (hj:(bI (aA M (C++[i]))).2.length<=j) (hB:bO K q (grow K j n)) (hr:(bI (aA M (C++[i]))).2.length≠C.length+1):a2 ab G (aU (ao 74) 0) (ao 74).aK (a5 0) .normal (fun q=>(3, .aq)::(4, .aq)::[(0,az M),(5,ak i)]) (fun q=>[]) (fun q=>(3, .aq)::(4, .aq)::[(0,az M),(5,ak (i+1))]) (fun q=>[]):=by
 have hx:i<M.length:=hi
 have rs:=pa M C hx
 have m9:bw K n w (aA M (C++[i])):=hm.sub fun k hk=>(en.1 hk).elim (m7 k) fun h=>by rw [bJ.1 h];exact hx
 have ng:aA M (C++[i])≠[]:=by rw [rs];simp
 have gR:(aA M C).length=C.length:=aM ..
 have lq:(aA M (C++[i])).length=C.length+1:=by rw [rs,cd,gR];rfl
 have jn:=vg G F ng m9 (by omega) (by omega) hj hB
 subst hC
 have kK:az (aA M ([]++[i])) = .sl 1 [aj M[i]]:=by rw [rs];rfl
 have kO:[aj M[i]].length=1:=rfl
 rw [kK] at jn
 have hq:(((bI (aA M (([]:List Nat)++[i]))).2.length:Int)==(1:Int))=false:=by
   exact beq_eq_false_iff_ne.2 fun h=>hr (by have:([]:List Nat).length=0:=rfl;omega)
 exact aW aG [bm 10 aj hi,aQ 18 1 aj hi,pH (A:=[]) [12,0] 1 ([aj M[i]]) 1 kO jn,hb 26 hq,a9 12 i]
include F in
theorem ajX (C:List Nat) (hC:C≠[]) (hm:bw K n w M) (w0:0<w) (gy:M.length<=4000) (ca:w<=4000) (fA:C.length<=4000) (i:Nat) (hi:i<M.length) (m7:∀ k∈C,k<M.length) {j:Nat} (hj:(bI (aA M (C++[i]))).2.length<=j) (hB:bO K q (grow K j n)) (hr:(bI (aA M (C++[i]))).2.length=C.length+1):a2 ab G (aU (ao 74) 0) (ao 74).aK (a5 0) .normal (fun q=>(3, .ai q.a 1 0 (C.map ak).length false)::(4,az (aA M C))::[(0,az M),(5,ak i)]) (fun q=>[(q.a,⟨C.map ak,1,false⟩)]) (fun q=>(3, .ai q.a 1 0 ((C.map ak).length+1) false)::(4,az (aA M (C++[i])))::[(0,az M),(5,ak (i+1))]) (fun q=>[(q.a,⟨C.map ak++[ak i],1,false⟩)]):=by
 have hx:i<M.length:=hi
 have rs:=pa M C hx
 have m9:bw K n w (aA M (C++[i])):=hm.sub fun k hk=>(en.1 hk).elim (m7 k) fun h=>by rw [bJ.1 h];exact hx
 have ng:aA M (C++[i])≠[]:=by rw [rs];simp
 have gR:(aA M C).length=C.length:=aM ..
 have lq:(aA M (C++[i])).length=C.length+1:=by rw [rs,cd,gR];rfl
 have jn:=vg G F ng m9 (by omega) (by omega) hj hB
 have oX:(aA M C).map aj≠[]:=fun e=>hC (eN.1 (eN.1 e))
 have kK:az (aA M (C++[i])) = .sl 1 ((aA M C).map aj++[aj M[i]]):=by rw [rs];unfold az;rw [dU];rfl
 have kO:((aA M C).map aj++[aj M[i]]).length=((aA M C).map aj).length+1:=by rw [cd];rfl
 haveI:cq 1 ((aA M C).map aj++[aj M[i]]):=⟨fun c hc=>(en.1 hc).elim (fun h=>by obtain ⟨y,_,rfl⟩:=bn.1 h;infer_instance) (fun h=>by rw [bJ.1 h];infer_instance)⟩
 rw [kK] at jn
 have hq:(((bI (aA M (C++[i]))).2.length:Int)==((((aA M C).map aj).length+1:Nat):Int))=true:=by
   rw [hr]
   rw [aM,gR];exact beq_self_eq_true _
 have H:a2 ab G (aU (ao 74) 0) (ao 74).aK (a5 0) .normal (fun q=>(3, .ai q.a 1 0 (C.map ak).length false)::(4,az (aA M C))::[(0,az M),(5,ak i)]) (fun q=>[(q.a,⟨C.map ak,1,false⟩)]) (fun q=>(3, .ai q.a 1 0 ((C.map ak).length+1) false)::(4, .ai q.b 1 0 (((aA M C).map aj).length+1) false)::[(0,az M),(5,ak (i+1))]) (fun q=>[(q.a,⟨C.map ak++[ak i],1,false⟩),(q.b,⟨(aA M C).map aj++[aj M[i]],1,true⟩)]) :=
   aW ⟨[22,0],[12,0],[3],[4]⟩ [bm 10 aj hi,mj 15 1 24 ((aA M C).map aj) oX (by rw [aM,gR];omega),aQ 18 1 aj hi,jY 21 1 24 [6,0] 11 ((aA M C).map aj) (aj M[i]) (by rw [aM,gR];omega) (fU (k:=1)),pH (A:=[]) [12,0] 1 ((aA M C).map aj++[aj M[i]]) (((aA M C).map aj).length+1) kO jn,hb 26 hq,jY 30 1 8 [1] 21 (C.map ak) (ak i) (by rw [aM];omega) (fU (k:=1)),a9 12 i]
 refine H.gV fun q m gd => ?_
 rw [kK]
 exact bz.R6 gd kO.symm (fun e he=>cq.all e he) (fun e he=>by rcases en.1 he with h | h;(obtain ⟨y,_,rfl⟩:=bn.1 h;rfl);(rw [bJ.1 h];rfl))
include F in
theorem ajT (C:List Nat) (hC:C≠[]) (hm:bw K n w M) (w0:0<w) (gy:M.length<=4000) (ca:w<=4000) (fA:C.length<=4000) (i:Nat) (hi:i<M.length) (m7:∀ k∈C,k<M.length) {j:Nat} (hj:(bI (aA M (C++[i]))).2.length<=j) (hB:bO K q (grow K j n)) (hr:(bI (aA M (C++[i]))).2.length≠C.length+1):a2 ab G (aU (ao 74) 0) (ao 74).aK (a5 0) .normal (fun q=>(3, .ai q.a 1 0 (C.map ak).length false)::(4,az (aA M C))::[(0,az M),(5,ak i)]) (fun q=>[(q.a,⟨C.map ak,1,false⟩)]) (fun q=>(3, .ai q.a 1 0 (C.map ak).length false)::(4,az (aA M C))::[(0,az M),(5,ak (i+1))]) (fun q=>[(q.a,⟨C.map ak,1,false⟩)]):=by
 have hx:i<M.length:=hi
 have rs:=pa M C hx
 have m9:bw K n w (aA M (C++[i])):=hm.sub fun k hk=>(en.1 hk).elim (m7 k) fun h=>by rw [bJ.1 h];exact hx
 have ng:aA M (C++[i])≠[]:=by rw [rs];simp
 have gR:(aA M C).length=C.length:=aM ..
 have lq:(aA M (C++[i])).length=C.length+1:=by rw [rs,cd,gR];rfl
 have jn:=vg G F ng m9 (by omega) (by omega) hj hB
 have oX:(aA M C).map aj≠[]:=fun e=>hC (eN.1 (eN.1 e))
 have kK:az (aA M (C++[i])) = .sl 1 ((aA M C).map aj++[aj M[i]]):=by rw [rs];unfold az;rw [dU];rfl
 have kO:((aA M C).map aj++[aj M[i]]).length=((aA M C).map aj).length+1:=by rw [cd];rfl
 haveI:cq 1 ((aA M C).map aj++[aj M[i]]):=⟨fun c hc=>(en.1 hc).elim (fun h=>by obtain ⟨y,_,rfl⟩:=bn.1 h;infer_instance) (fun h=>by rw [bJ.1 h];infer_instance)⟩
 rw [kK] at jn
 have hq:(((bI (aA M (C++[i]))).2.length:Int)==((((aA M C).map aj).length+1:Nat):Int))=false:=by
   rw [aM,gR];exact beq_eq_false_iff_ne.2 fun h=>hr (by omega)
 exact aW aG [bm 10 aj hi,mj 15 1 24 ((aA M C).map aj) oX (by rw [aM,gR];omega),aQ 18 1 aj hi,jY 21 1 24 [6,0] 11 ((aA M C).map aj) (aj M[i]) (by rw [aM,gR];omega) (fU (k:=1)),pH (A:=[]) [12,0] 1 ((aA M C).map aj++[aj M[i]]) (((aA M C).map aj).length+1) kO jn,hb 26 hq,a9 12 i]
include F in
theorem ajU (cs bf:Nat) (C:List Nat) (hC:C=[]) (hm:bw K n w M) (w0:0<w) (gy:M.length<=4000) (ca:w<=4000) (fA:C.length<=4000) (i:Nat) (hi:i<M.length) (qu:bf<M.length) (m7:∀ k∈C,k<M.length) {j:Nat} (hj:(bI (aA M (C++[((bf+i)%M.length)]))).2.length<=j) (hB:bO K q (grow K j n)) (hr:(bI (aA M (C++[((bf+i)%M.length)]))).2.length=C.length+1):a2 ab G (aU (ao 15) 0) (ao 15).aK (a5 0) .normal (fun q=>(7, .aq)::(8, .aq)::[(6, .ref q.c 0 0),(0,az M),(1,ak cs),(2,ak bf),(9,ak i)]) (fun q=>[(q.c,⟨[.agg [.aq, .aq, .aq, .aq, .aq]],5,false⟩)]) (fun q=>(7, .ai q.a 1 0 1 false)::(8,az (aA M (C++[((bf+i)%M.length)])))::[(6, .ref q.c 0 0),(0,az M),(1,ak cs),(2,ak bf),(9,ak (i+1))]) (fun q=>[(q.a,⟨[ak ((bf+i)%M.length)],1,false⟩),(q.c,⟨[.agg [.aq, .aq, .aq, .aq, .aq]],5,false⟩)]):=by
 have hx:((bf+i)%M.length)<M.length:=bC _ (by omega)
 have rs:=pa M C hx
 have m9:bw K n w (aA M (C++[((bf+i)%M.length)])):=hm.sub fun k hk=>(en.1 hk).elim (m7 k) fun h=>by rw [bJ.1 h];exact hx
 have ng:aA M (C++[((bf+i)%M.length)])≠[]:=by rw [rs];simp
 have gR:(aA M C).length=C.length:=aM ..
 have lq:(aA M (C++[((bf+i)%M.length)])).length=C.length+1:=by rw [rs,cd,gR];rfl
 have jn:=vg G F ng m9 (by omega) (by omega) hj hB
 subst hC
 have kK:az (aA M ([]++[((bf+i)%M.length)])) = .sl 1 [aj M[((bf+i)%M.length)]]:=by rw [rs];rfl
 have kO:[aj M[((bf+i)%M.length)]].length=1:=rfl
 rw [kK] at jn
 have hq:(((bI (aA M (([]:List Nat)++[((bf+i)%M.length)]))).2.length:Int)==(1:Int))=true:=by
   rw [hr]
   exact beq_self_eq_true _
 have H:a2 ab G (aU (ao 15) 0) (ao 15).aK (a5 0) .normal (fun q=>(7, .aq)::(8, .aq)::[(6, .ref q.c 0 0),(0,az M),(1,ak cs),(2,ak bf),(9,ak i)]) (fun q=>[(q.c,⟨[.agg [.aq, .aq, .aq, .aq, .aq]],5,false⟩)]) (fun q=>(7, .ai q.a 1 0 1 false)::(8, .ai q.b 1 0 1 false)::[(6, .ref q.c 0 0),(0,az M),(1,ak cs),(2,ak bf),(9,ak (i+1))]) (fun q=>[(q.a,⟨[ak ((bf+i)%M.length)],1,false⟩),(q.b,⟨[aj M[((bf+i)%M.length)]],1,true⟩),(q.c,⟨[.agg [.aq, .aq, .aq, .aq, .aq]],5,false⟩)]) :=
   aW ⟨[29,0],[19,0],[3],[4]⟩ [bm 33 aj hi,hw 38 (show cF.wrap ((bf:Int)+(i:Int))=((bf+i:Nat):Int) by rw [cM];omega),th 41 .i64 aj M (bf+i) (by omega),aQ 47 1 aj hx,pH (A:=[]) [19,0] 1 ([aj M[((bf+i)%M.length)]]) 1 kO jn,hb 55 hq,a9 35 i]
 refine H.gV fun q m gd => ?_
 rw [kK]
 exact bz.R7 gd kO.symm (fun e he=>by rw [bJ.1 he];infer_instance) (fun e he=>by rw [bJ.1 he];rfl)
include F in
theorem ajQ (cs bf:Nat) (C:List Nat) (hC:C=[]) (hm:bw K n w M) (w0:0<w) (gy:M.length<=4000) (ca:w<=4000) (fA:C.length<=4000) (i:Nat) (hi:i<M.length) (qu:bf<M.length) (m7:∀ k∈C,k<M.length) {j:Nat} (hj:(bI (aA M (C++[((bf+i)%M.length)]))).2.length<=j) (hB:bO K q (grow K j n)) (hr:(bI (aA M (C++[((bf+i)%M.length)]))).2.length≠C.length+1):a2 ab G (aU (ao 15) 0) (ao 15).aK (a5 0) .normal (fun q=>(7, .aq)::(8, .aq)::[(6, .ref q.c 0 0),(0,az M),(1,ak cs),(2,ak bf),(9,ak i)]) (fun q=>[(q.c,⟨[.agg [.aq, .aq, .aq, .aq, .aq]],5,false⟩)]) (fun q=>(7, .aq)::(8, .aq)::[(6, .ref q.c 0 0),(0,az M),(1,ak cs),(2,ak bf),(9,ak (i+1))]) (fun q=>[(q.c,⟨[.agg [.aq, .aq, .aq, .aq, .aq]],5,false⟩)]):=by
 have hx:((bf+i)%M.length)<M.length:=bC _ (by omega)
 have rs:=pa M C hx
 have m9:bw K n w (aA M (C++[((bf+i)%M.length)])):=hm.sub fun k hk=>(en.1 hk).elim (m7 k) fun h=>by rw [bJ.1 h];exact hx
 have ng:aA M (C++[((bf+i)%M.length)])≠[]:=by rw [rs];simp
 have gR:(aA M C).length=C.length:=aM ..
 have lq:(aA M (C++[((bf+i)%M.length)])).length=C.length+1:=by rw [rs,cd,gR];rfl
 have jn:=vg G F ng m9 (by omega) (by omega) hj hB
 subst hC
 have kK:az (aA M ([]++[((bf+i)%M.length)])) = .sl 1 [aj M[((bf+i)%M.length)]]:=by rw [rs];rfl
 have kO:[aj M[((bf+i)%M.length)]].length=1:=rfl
 rw [kK] at jn
 have hq:(((bI (aA M (([]:List Nat)++[((bf+i)%M.length)]))).2.length:Int)==(1:Int))=false:=by
   exact beq_eq_false_iff_ne.2 fun h=>hr (by have:([]:List Nat).length=0:=rfl;omega)
 exact aW aG [bm 33 aj hi,hw 38 (show cF.wrap ((bf:Int)+(i:Int))=((bf+i:Nat):Int) by rw [cM];omega),th 41 .i64 aj M (bf+i) (by omega),aQ 47 1 aj hx,pH (A:=[]) [19,0] 1 ([aj M[((bf+i)%M.length)]]) 1 kO jn,hb 55 hq,a9 35 i]
include F in
theorem ajV (cs bf:Nat) (C:List Nat) (hC:C≠[]) (hm:bw K n w M) (w0:0<w) (gy:M.length<=4000) (ca:w<=4000) (fA:C.length<=4000) (i:Nat) (hi:i<M.length) (qu:bf<M.length) (m7:∀ k∈C,k<M.length) {j:Nat} (hj:(bI (aA M (C++[((bf+i)%M.length)]))).2.length<=j) (hB:bO K q (grow K j n)) (hr:(bI (aA M (C++[((bf+i)%M.length)]))).2.length=C.length+1):a2 ab G (aU (ao 15) 0) (ao 15).aK (a5 0) .normal (fun q=>(7, .ai q.a 1 0 (C.map ak).length false)::(8,az (aA M C))::[(6, .ref q.c 0 0),(0,az M),(1,ak cs),(2,ak bf),(9,ak i)]) (fun q=>[(q.a,⟨C.map ak,1,false⟩),(q.c,⟨[.agg [.aq, .aq, .aq, .aq, .aq]],5,false⟩)]) (fun q=>(7, .ai q.a 1 0 ((C.map ak).length+1) false)::(8,az (aA M (C++[((bf+i)%M.length)])))::[(6, .ref q.c 0 0),(0,az M),(1,ak cs),(2,ak bf),(9,ak (i+1))]) (fun q=>[(q.a,⟨C.map ak++[ak ((bf+i)%M.length)],1,false⟩),(q.c,⟨[.agg [.aq, .aq, .aq, .aq, .aq]],5,false⟩)]):=by
 have hx:((bf+i)%M.length)<M.length:=bC _ (by omega)
 have rs:=pa M C hx
 have m9:bw K n w (aA M (C++[((bf+i)%M.length)])):=hm.sub fun k hk=>(en.1 hk).elim (m7 k) fun h=>by rw [bJ.1 h];exact hx
 have ng:aA M (C++[((bf+i)%M.length)])≠[]:=by rw [rs];simp
 have gR:(aA M C).length=C.length:=aM ..
 have lq:(aA M (C++[((bf+i)%M.length)])).length=C.length+1:=by rw [rs,cd,gR];rfl
 have jn:=vg G F ng m9 (by omega) (by omega) hj hB
 have oX:(aA M C).map aj≠[]:=fun e=>hC (eN.1 (eN.1 e))
 have kK:az (aA M (C++[((bf+i)%M.length)])) = .sl 1 ((aA M C).map aj++[aj M[((bf+i)%M.length)]]):=by rw [rs];unfold az;rw [dU];rfl
 have kO:((aA M C).map aj++[aj M[((bf+i)%M.length)]]).length=((aA M C).map aj).length+1:=by rw [cd];rfl
 haveI:cq 1 ((aA M C).map aj++[aj M[((bf+i)%M.length)]]):=⟨fun c hc=>(en.1 hc).elim (fun h=>by obtain ⟨y,_,rfl⟩:=bn.1 h;infer_instance) (fun h=>by rw [bJ.1 h];infer_instance)⟩
 rw [kK] at jn
 have hq:(((bI (aA M (C++[((bf+i)%M.length)]))).2.length:Int)==((((aA M C).map aj).length+1:Nat):Int))=true:=by
   rw [hr]
   rw [aM,gR];exact beq_self_eq_true _
 have H:a2 ab G (aU (ao 15) 0) (ao 15).aK (a5 0) .normal (fun q=>(7, .ai q.a 1 0 (C.map ak).length false)::(8,az (aA M C))::[(6, .ref q.c 0 0),(0,az M),(1,ak cs),(2,ak bf),(9,ak i)]) (fun q=>[(q.a,⟨C.map ak,1,false⟩),(q.c,⟨[.agg [.aq, .aq, .aq, .aq, .aq]],5,false⟩)]) (fun q=>(7, .ai q.a 1 0 ((C.map ak).length+1) false)::(8, .ai q.b 1 0 (((aA M C).map aj).length+1) false)::[(6, .ref q.c 0 0),(0,az M),(1,ak cs),(2,ak bf),(9,ak (i+1))]) (fun q=>[(q.a,⟨C.map ak++[ak ((bf+i)%M.length)],1,false⟩),(q.b,⟨(aA M C).map aj++[aj M[((bf+i)%M.length)]],1,true⟩),(q.c,⟨[.agg [.aq, .aq, .aq, .aq, .aq]],5,false⟩)]) :=
   aW ⟨[29,0],[19,0],[3],[4]⟩ [bm 33 aj hi,hw 38 (show cF.wrap ((bf:Int)+(i:Int))=((bf+i:Nat):Int) by rw [cM];omega),th 41 .i64 aj M (bf+i) (by omega),mj 44 1 24 ((aA M C).map aj) oX (by rw [aM,gR];omega),aQ 47 1 aj hx,jY 50 1 24 [13,0] 18 ((aA M C).map aj) (aj M[((bf+i)%M.length)]) (by rw [aM,gR];omega) (fU (k:=1)),pH (A:=[]) [19,0] 1 ((aA M C).map aj++[aj M[((bf+i)%M.length)]]) (((aA M C).map aj).length+1) kO jn,hb 55 hq,jY 59 1 8 [1] 28 (C.map ak) (ak ((bf+i)%M.length)) (by rw [aM];omega) (fU (k:=1)),a9 35 i]
 refine H.gV fun q m gd => ?_
 rw [kK]
 exact bz.R7 gd kO.symm (fun e he=>cq.all e he) (fun e he=>by rcases en.1 he with h | h;(obtain ⟨y,_,rfl⟩:=bn.1 h;rfl);(rw [bJ.1 h];rfl))
include F in
theorem ajR (cs bf:Nat) (C:List Nat) (hC:C≠[]) (hm:bw K n w M) (w0:0<w) (gy:M.length<=4000) (ca:w<=4000) (fA:C.length<=4000) (i:Nat) (hi:i<M.length) (qu:bf<M.length) (m7:∀ k∈C,k<M.length) {j:Nat} (hj:(bI (aA M (C++[((bf+i)%M.length)]))).2.length<=j) (hB:bO K q (grow K j n)) (hr:(bI (aA M (C++[((bf+i)%M.length)]))).2.length≠C.length+1):a2 ab G (aU (ao 15) 0) (ao 15).aK (a5 0) .normal (fun q=>(7, .ai q.a 1 0 (C.map ak).length false)::(8,az (aA M C))::[(6, .ref q.c 0 0),(0,az M),(1,ak cs),(2,ak bf),(9,ak i)]) (fun q=>[(q.a,⟨C.map ak,1,false⟩),(q.c,⟨[.agg [.aq, .aq, .aq, .aq, .aq]],5,false⟩)]) (fun q=>(7, .ai q.a 1 0 (C.map ak).length false)::(8,az (aA M C))::[(6, .ref q.c 0 0),(0,az M),(1,ak cs),(2,ak bf),(9,ak (i+1))]) (fun q=>[(q.a,⟨C.map ak,1,false⟩),(q.c,⟨[.agg [.aq, .aq, .aq, .aq, .aq]],5,false⟩)]):=by
 have hx:((bf+i)%M.length)<M.length:=bC _ (by omega)
 have rs:=pa M C hx
 have m9:bw K n w (aA M (C++[((bf+i)%M.length)])):=hm.sub fun k hk=>(en.1 hk).elim (m7 k) fun h=>by rw [bJ.1 h];exact hx
 have ng:aA M (C++[((bf+i)%M.length)])≠[]:=by rw [rs];simp
 have gR:(aA M C).length=C.length:=aM ..
 have lq:(aA M (C++[((bf+i)%M.length)])).length=C.length+1:=by rw [rs,cd,gR];rfl
 have jn:=vg G F ng m9 (by omega) (by omega) hj hB
 have oX:(aA M C).map aj≠[]:=fun e=>hC (eN.1 (eN.1 e))
 have kK:az (aA M (C++[((bf+i)%M.length)])) = .sl 1 ((aA M C).map aj++[aj M[((bf+i)%M.length)]]):=by rw [rs];unfold az;rw [dU];rfl
 have kO:((aA M C).map aj++[aj M[((bf+i)%M.length)]]).length=((aA M C).map aj).length+1:=by rw [cd];rfl
 haveI:cq 1 ((aA M C).map aj++[aj M[((bf+i)%M.length)]]):=⟨fun c hc=>(en.1 hc).elim (fun h=>by obtain ⟨y,_,rfl⟩:=bn.1 h;infer_instance) (fun h=>by rw [bJ.1 h];infer_instance)⟩
 rw [kK] at jn
 have hq:(((bI (aA M (C++[((bf+i)%M.length)]))).2.length:Int)==((((aA M C).map aj).length+1:Nat):Int))=false:=by
   rw [aM,gR];exact beq_eq_false_iff_ne.2 fun h=>hr (by omega)
 exact aW aG [bm 33 aj hi,hw 38 (show cF.wrap ((bf:Int)+(i:Int))=((bf+i:Nat):Int) by rw [cM];omega),th 41 .i64 aj M (bf+i) (by omega),mj 44 1 24 ((aA M C).map aj) oX (by rw [aM,gR];omega),aQ 47 1 aj hx,jY 50 1 24 [13,0] 18 ((aA M C).map aj) (aj M[((bf+i)%M.length)]) (by rw [aM,gR];omega) (fU (k:=1)),pH (A:=[]) [19,0] 1 ((aA M C).map aj++[aj M[((bf+i)%M.length)]]) (((aA M C).map aj).length+1) kO jn,hb 55 hq,a9 35 i]
noncomputable abbrev gJ (M:List (List ar)) (ord:List Nat) (i:Nat):List Nat:=(ord.take i).foldl (lz M) []
def Vf (M:List (List ar)) {ord:List Nat} {i:Nat} (a:i<ord.length):gJ M ord (i+1)=lz M (gJ M ord i) ord[i]:=by
 unfold gJ
 rw [iH a,Bb]
 rfl
def Vc (M:List (List ar)) (ord:List Nat):gJ M ord ord.length=cW M ord:=by unfold gJ;rw [gn];rfl
def Vd (M:List (List ar)) (ord:List Nat) (i:Nat):(gJ M ord i).length<=i:=by
 have:=HN M (ord.take i) []
 rw [List.length_nil,Nat.zero_add,cZ] at this
 exact bs this (Nat.min_le_left _ _)
def Ve (M:List (List ar)) {K:cT} {n w:Nat} (a:bw K n w M) {ord:List Nat} (ho:∀ k∈ord,k<M.length) (i:Nat):∀ k∈gJ M ord i,k<M.length :=
 (r5 a (ord:=ord.take i) λ k b=>ho k (gq b)).1
include F
def ahZ (g:bw K n w M) (w0:0<w) (t:M.length<=4000) (u:w<=4000) {j:Nat} (I:M.length<=j \/ w<=j) (o:bO K q (grow K j n)):ag ab G 74 [az M] (bW (cW M (ba M.length))):=by
 have el:(ba M.length).length=M.length:=dZ
 rw [<- Vc,el]
 refine bB [ck (ao 74) 0 0 0 M.length aG (λ i q=>(3,bq q.a 1 ((gJ M (ba M.length) i).map ak))::(4,j3 (aA M (gJ M (ba M.length) i)))::[(0,az M),(5,ak i)]) (λ i q=>a8 q.a 1 ((gJ M (ba M.length) i).map ak)++[]) (.exit 0) (λ _=>[(3,bW (gJ M (ba M.length) M.length))]) (λ _=>[]) (λ i f => ?_) ?_]
 have z:i<(ba M.length).length:=by rw [el];exact f
 have m:=Ve M g (ord:=ba M.length) (λ k D=>cR.1 D) i
 have L:=Vd M (ba M.length) i
 rw [Vf M z,p9,U4]
 generalize gJ M (ba M.length) i=C at *
 have c:(bI (aA M (C++[i]))).2.length<=j:=by
   refine zZ (g.sub λ k D=>(en.1 D).elim (m k) λ h=>by rw [bJ.1 h];exact f) ?_
   rcases I with h | h
   left;rw [aM,cd,kG];omega
   exact .inr h
 by_cases l:(bI (aA M (C++[i]))).2.length=C.length+1
 rw [if_pos l]
 have H:j3 (aA M (C++[i]))=az (aA M (C++[i])):=zD (by rw [pa M C f];simp)
 rw [H,dU,ic]
 by_cases e:C=[]
 have x1:∀ p,bq p 1 (C.map ak) = .aq := λ p=>by rw [e];rfl
 have bF:∀ p,a8 p 1 (C.map ak)=[] := λ p=>by rw [e];rfl
 have v:∀ p,bq p 1 (C.map ak++[ak i]) = .ai p 1 0 1 false := λ p=>by rw [e];exact dA (by simp)
 have y:∀ p,a8 p 1 (C.map ak++[ak i])=[(p,⟨[ak i],1,false⟩)] := λ p=>by rw [e];exact dx (by simp)
 have d:j3 (aA M C) = .aq:=by rw [e];rfl
 simp only [x1,bF,v,y,d,k5]
 exact ajW G F C e g w0 t u (by omega) i f m c o l
 have b:C.map ak≠[] := λ h=>e (eN.1 h)
 have v:∀ p,bq p 1 (C.map ak++[ak i]) = .ai p 1 0 ((C.map ak).length+1) false := λ p=>by rw [dA (by simp),cd];rfl
 have y:∀ p,a8 p 1 (C.map ak++[ak i])=[(p,⟨C.map ak++[ak i],1,false⟩)] := λ p=>dx (by simp)
 have d:j3 (aA M C)=az (aA M C):=zD λ h=>e (eN.1 h)
 simp only [v,y,d,dA b,dx b,k5]
 exact ajX G F C e g w0 t u (by omega) i f m c o l
 rw [if_neg l]
 by_cases e:C=[]
 have x1:∀ p,bq p 1 (C.map ak) = .aq := λ p=>by rw [e];rfl
 have bF:∀ p,a8 p 1 (C.map ak)=[] := λ p=>by rw [e];rfl
 have d:j3 (aA M C) = .aq:=by rw [e];rfl
 simp only [x1,bF,d,k5]
 exact ajS G F C e g w0 t u (by omega) i f m c o l
 have b:C.map ak≠[] := λ h=>e (eN.1 h)
 have d:j3 (aA M C)=az (aA M C):=zD λ h=>e (eN.1 h)
 simp only [d,dA b,dx b,k5]
 exact ajT G F C e g w0 t u (by omega) i f m c o l
 generalize aA M (gJ M (ba M.length) M.length)=R
 exact (kT (A := λ _=>(4,j3 R)::[(0,az M),(5,ak M.length)]) (B := λ _=>[]) (bZ := λ _=>[]) (ct := λ _=>[]) aG [cx 10 aj M]).rH (B:=[]) λ e J=>by obtain ⟨x,_,rfl⟩:=bn.1 J;infer_instance
end
end Go.Proofs.YtpcofcmencgkbaaGreat
namespace Go.aF
def U3 (M:List (List ar)):∀ (ord c:List Nat),(c=[] \/ (bI (aA M c)).2.length=c.length)->(ord.foldl (lz M) c=[] \/ (bI (aA M (ord.foldl (lz M) c))).2.length=(ord.foldl (lz M) c).length)
 | [],c,h=>h
 | k::ord,c,h=>by
   rw [oq]
   refine U3 M ord _ ?_
   show (if _ then _ else _)=[] \/ _
   by_cases e:(bI (aA M (c++[k]))).2.length=((c++[k]).map λ i=>M.getD i []).length
   right
   have a:lz M c k=c++[k]:=if_pos e
   rw [a]
   rw [e,aM]
   have a:lz M c k=c:=if_neg e
   have b:(if (bI (aA M (c++[k]))).2.length=((c++[k]).map λ i=>M.getD i []).length then c++[k] else c)=c:=a
   rw [a]
   rcases h with h | h
   exact .inl (b.trans h)
   exact .inr h
def aj9 (M:List (List ar)) (ord:List Nat) (h:cW M ord≠[]):(bI (aA M (cW M ord))).2.length=(cW M ord).length:=(U3 M ord [] (.inl rfl)).resolve_left h
def U5 (M:List (List ar)):∀ (ord c:List Nat),(ord.foldl (lz M) c).Sublist (c++ord)
 | [],c=>by rw [k5];exact AX _
 | k::ord,c=>by
   rw [oq]
   refine (U5 M ord _).trans ?_
   by_cases e:(bI (aA M (c++[k]))).2.length=((c++[k]).map λ i=>M.getD i []).length
   rw [show lz M c k=c++[k] from if_pos e,nC]
   exact AX _
   rw [show lz M c k=c from if_neg e]
   exact List.Sublist.append (AX _) (List.sublist_cons_self _ _)
def HO (M:List (List ar)) {ord:List Nat} (h:ord.Nodup):(cW M ord).Nodup:=by
 have:=U5 M ord []
 rw [jy] at this
 exact h.sublist this
def Md {l:List Nat} {N i:Nat} (c:l.Nodup) (a:∀ k∈l,k<N) (d:i<N) (h:i ∉ l):l.length+1<=N:=by
 have:=rh (l:=i::l) (S:=ba N) (List.nodup_cons.2 ⟨h,c⟩) λ x b=>cR.2 ((List.mem_cons.1 b).elim (λ e=>e▸d) (a x))
 rwa [List.length_cons,dZ] at this
end Go.aF
namespace Go.Proofs.YtpcofcmencgkbaaGreat
instance:cU 1 aa.aq:=⟨inferInstance,rfl, λ d hd=>by rw [bJ.1 hd];exact bg.pure,rfl⟩
abbrev bV:aN:=dh .aq .aq .aq .aq .aq
def gl (c:fG):aa := .agg [kP c.rows,kP c.bt,az c.inv,az c.cj,az c.bh]
instance {c:fG}:bg (gl c):=by unfold gl;infer_instance
def vc (l:List Nat):kP (l.map Int.ofNat)=bW l:=by unfold kP bW;rw [mU];rfl
section
variable (G:Nat->Option (List aa)) {K:cT} {q e r:Nat} (F:gG K q e r) {n w:Nat} {M:List (List ar)}
noncomputable abbrev uR (M:List (List ar)) (c i:Nat) (q:aB):List (Nat × aa):=[(5, .ref q.b 0 0),(4, .ref q.c 0 0),(0,az M),(1,ak c),(7, .aq),(8,ak i)]
noncomputable abbrev pE (P:List Nat) (bh:List (List ar)) (q:aB):List (bT × aN):=[(q.b,dh (bW P) .aq .aq .aq (az bh)),(q.c,bV)]
def ab8 {P:List Nat} {bh:List (List ar)} (g:∀ p∈P,p<M.length) (j:P.length<=4000) (c i:Nat) (b:i<P.length):a2 ab G (aU (ao 25) 0) (ao 25).aK (a5 0) .normal (λ q=>(6,bq q.a 1 ((aA M (P.take i)).map aj))::uR M c i q) (λ q=>a8 q.a 1 ((aA M (P.take i)).map aj)++pE P bh q) (λ q=>(6,bq q.a 1 ((aA M (P.take (i+1))).map aj))::uR M c (i+1) q) (λ q=>a8 q.a 1 ((aA M (P.take (i+1))).map aj)++pE P bh q):=by
 have f:=g _ (bc b)
 rw [iH b,pa M _ f,dU,ic]
 have h:qe 1 24 9000 ((aA M (P.take i)).map aj):=⟨by rw [aM];unfold aA;rw [aM,cZ];omega,fU (k:=1)⟩
 exact sZ (key:=35) (hb:=by decide) (A:=uR M c i) (B:=uR M c (i+1)) (bZ:=pE P bh) (ct:=pE P bh) h 14 ⟨[15,0],[2],[3],[4]⟩ (λ x=>[bm 22 ak b,aQ 30 1 ak b,aQ 32 1 aj f]++x++[a9 24 i])
def QP {P:List Nat} {bh:List (List ar)} (c:Nat):a2 ab G (aU (ao 25) 0) (ao 25).aK (a5 0) (.exit 0) (λ q=>(6,bq q.a 1 ((aA M (P.take P.length)).map aj))::uR M c P.length q) (λ q=>a8 q.a 1 ((aA M (P.take P.length)).map aj)++pE P bh q) (λ q=>(6,az (aA M P))::[(5, .ref q.b 0 0),(4, .ref q.c 0 0),(0,az M),(7, .aq)]) (pE P bh):=by
 rw [gn]
 exact (kT (A:=uR M c P.length) (B := λ q=>[(5, .ref q.b 0 0),(4, .ref q.c 0 0),(0,az M),(7, .aq)]) (bZ:=pE P bh) (ct:=pE P bh) aG [cx 22 ak P]).wK (λ e f=>by obtain ⟨x,_,rfl⟩:=bn.1 f;infer_instance) (Kn (λ _=>nM) (λ _=>nM))
noncomputable abbrev tG (M ch:List (List ar)) (i:Nat) (q:aB):List (Nat × aa):=[(6,az ch),(5, .ref q.b 0 0),(4, .ref q.c 0 0),(0,az M),(9,ak i)]
noncomputable abbrev n5 (P:List Nat) (da:aa) (bh:List (List ar)) (q:aB):List (bT × aN):=[(q.b,dh (bW P) da .aq .aq (az bh)),(q.c,bV)]
def ah8 {P b:List Nat} {bh ch:List (List ar)} (hc:∀ x∈ch,∀ k∈b,k<x.length) (g:b.length<=4000) (j:ch.length<=4000) (i:Nat) (c:i<ch.length):a2 ab G (aU (ao 25) 1) (ao 25).aK (a5 0) .normal (λ q=>(7,bq q.a 1 (((ch.take i).map (eW b)).map aj))::tG M ch i q) (λ q=>a8 q.a 1 (((ch.take i).map (eW b)).map aj)++n5 P (bW b) bh q) (λ q=>(7,bq q.a 1 (((ch.take (i+1)).map (eW b)).map aj))::tG M ch (i+1) q) (λ q=>a8 q.a 1 (((ch.take (i+1)).map (eW b)).map aj)++n5 P (bW b) bh q):=by
 have r6:=Mj G (r:=ch[i]) (l:=b) (hc _ (bc c)) (by omega)
 rw [iH c,dU,dU,ic,ic]
 have f:qe 1 24 9000 (((ch.take i).map (eW b)).map aj):=⟨by rw [aM,aM,cZ];omega,fU (k:=1)⟩
 exact sZ (key:=60) (hb:=by decide) (A:=tG M ch i) (B:=tG M ch (i+1)) (bZ:=n5 P (bW b) bh) (ct:=n5 P (bW b) bh) f 12 ⟨[13,0],[2],[3],[4]⟩ (λ x=>[bm 48 aj c,aQ 54 1 aj c,Go.aF.hc r6]++x++[a9 50 i])
def T8 {P:List Nat} {da:aa} [bg da] {L:List (List ar)} {bh ch:List (List ar)}:a2 ab G (aU (ao 25) 1) (ao 25).aK (a5 0) (.exit 2) (λ q=>(7,bq q.a 1 (L.map aj))::tG M ch ch.length q) (λ q=>a8 q.a 1 (L.map aj)++n5 P da bh q) (λ q=>(7,az L)::[(6,az ch),(5, .ref q.b 0 0),(4, .ref q.c 0 0),(0,az M)]) (n5 P da bh) :=
 (kT (A:=tG M ch ch.length) (B := λ q=>[(6,az ch),(5, .ref q.b 0 0),(4, .ref q.c 0 0),(0,az M)]) (bZ:=n5 P da bh) (ct:=n5 P da bh) aG [cx 48 aj ch]).wK (λ e f=>by obtain ⟨x,_,rfl⟩:=bn.1 f;infer_instance) (Kn (λ _=>nM) (λ _=>nM))
noncomputable abbrev nQ (M ch:List (List ar)) (i:Nat) (q:aB):List (Nat × aa):=[(6,az ch),(5, .ref q.b 0 0),(4, .ref q.c 0 0),(0,az M),(10,ak i)]
noncomputable abbrev jS (P:List Nat) (da:aa) (d bh:List (List ar)) (l:List aa) (q:aB):List (bT × aN):=a8 q.a 1 l++[(q.b,dh (bW P) da (az d) (bq q.a 1 l) (az bh)),(q.c,bV)]
def acp {P:List Nat} {da:aa} [bg da] {c bh ch:List (List ar)} {i:Nat} {x b:List ar} {o:Bool} (f:i<M.length) (u:M.length<=4000) (v:P.length<=4000) (k:P.contains i=false) (g:0<ch.length) (s:ag ab G 35 [az ch] (az (er ch))) (so:ag ab G 48 [az (er ch),aj (M[i])] (.aS [aj x, .bool o])):a2 ab G (aU (ao 25) 2) (ao 25).aK (a5 0) .normal (nQ M ch i) (jS P da c bh []) (nQ M ch (i+1)) (jS P da c bh ([]++[(aj x)])):=by
 have d:=CC G (l:=P) (n:=i) (by omega)
 rw [k] at d
 have h:∀ p,bq p 1 ([]++[(aj x)]) = .ai p 1 0 1 false := λ p=>dA (by simp)
 have m:∀ p,a8 p 1 ([]++[(aj x)])=[(p,⟨[(aj x)],1,false⟩)] := λ p=>dx (by simp)
 have j:∀ p,bq p 1 ([]:List aa) = .aq := λ p=>rfl
 have t:∀ p,a8 p 1 ([]:List aa)=[] := λ p=>rfl
 unfold jS
 simp only [j,t,h,m,jy]
 exact aW ⟨[27,0],[2],[3],[4]⟩ [bm 67 aj f,hc d,hb 76 (show decide (((ch.map aj).length:Int)>0)=true by rw [aM];exact decide_eq_true (by omega)),hc s,aQ 82 1 aj f,hc so,a9 69 i]
def acq {l:List aa} [br l] [cq 1 l] (f:l≠[]) (y:l.length<=4000) {P:List Nat} {da:aa} [bg da] {c bh ch:List (List ar)} {i:Nat} {x b:List ar} {o:Bool} (g:i<M.length) (A:M.length<=4000) (z:P.length<=4000) (m:P.contains i=false) (v:0<ch.length) (t:ag ab G 35 [az ch] (az (er ch))) (so:ag ab G 48 [az (er ch),aj (M[i])] (.aS [aj x, .bool o])):a2 ab G (aU (ao 25) 2) (ao 25).aK (a5 0) .normal (nQ M ch i) (jS P da c bh l) (nQ M ch (i+1)) (jS P da c bh (l++[(aj x)])):=by
 have d:=CC G (l:=P) (n:=i) (by omega)
 rw [m] at d
 have u:∀ p,bq p 1 (l++[(aj x)]) = .ai p 1 0 (l.length+1) false := λ p=>by rw [dA (by simp),cd];rfl
 have h:∀ p,a8 p 1 (l++[(aj x)])=[(p,⟨l++[(aj x)],1,false⟩)] := λ p=>dx (by simp)
 have j:∀ p,bq p 1 l = .ai p 1 0 l.length false := λ p=>dA f
 have s:∀ p,a8 p 1 l=[(p,⟨l,1,false⟩)] := λ p=>dx f
 unfold jS
 simp only [j,s,u,h,pk]
 exact aW ⟨[27,0],[2],[3],[4]⟩ [bm 67 aj g,hc d,hb 76 (show decide (((ch.map aj).length:Int)>0)=true by rw [aM];exact decide_eq_true (by omega)),hc t,aQ 82 1 aj g,hc so,jY 91 1 24 [1] 26 l (aj x) (by omega) (fU (k:=1)),a9 69 i]
def acn {P:List Nat} {da:aa} [bg da] {a bh ch:List (List ar)} {i:Nat} (d:i<M.length) (m:M.length<=4000) (o:P.length<=4000) (f:P.contains i=false):a2 ab G (aU (ao 25) 2) (ao 25).aK (a5 0) .normal (nQ M [] i) (jS P da a bh []) (nQ M [] (i+1)) (jS P da a bh ([]++[aa.aq])):=by
 have b:=CC G (l:=P) (n:=i) (by omega)
 rw [f] at b
 have g:∀ p,bq p 1 ([]++[aa.aq]) = .ai p 1 0 1 false := λ p=>dA (by simp)
 have h:∀ p,a8 p 1 ([]++[aa.aq])=[(p,⟨[aa.aq],1,false⟩)] := λ p=>dx (by simp)
 have k:∀ p,bq p 1 ([]:List aa) = .aq := λ p=>rfl
 have j:∀ p,a8 p 1 ([]:List aa)=[] := λ p=>rfl
 unfold jS
 simp only [k,j,g,h,jy]
 exact aW ⟨[16,0],[2],[3],[4]⟩ [bm 67 aj d,hc b,a9 69 i]
def aco {l:List aa} [br l] [cq 1 l] (d:l≠[]) (s:l.length<=4000) {P:List Nat} {da:aa} [bg da] {a bh ch:List (List ar)} {i:Nat} (j:i<M.length) (t:M.length<=4000) (u:P.length<=4000) (h:P.contains i=false):a2 ab G (aU (ao 25) 2) (ao 25).aK (a5 0) .normal (nQ M [] i) (jS P da a bh l) (nQ M [] (i+1)) (jS P da a bh (l++[aa.aq])):=by
 have b:=CC G (l:=P) (n:=i) (by omega)
 rw [h] at b
 have o:∀ p,bq p 1 (l++[aa.aq]) = .ai p 1 0 (l.length+1) false := λ p=>by rw [dA (by simp),cd];rfl
 have f:∀ p,a8 p 1 (l++[aa.aq])=[(p,⟨l++[aa.aq],1,false⟩)] := λ p=>dx (by simp)
 have g:∀ p,bq p 1 l = .ai p 1 0 l.length false := λ p=>dA d
 have m:∀ p,a8 p 1 l=[(p,⟨l,1,false⟩)] := λ p=>dx d
 unfold jS
 simp only [g,m,o,f,pk]
 exact aW ⟨[16,0],[2],[3],[4]⟩ [bm 67 aj j,hc b,jY 91 1 24 [1] 15 l aa.aq (by omega) (fU (k:=1)),a9 69 i]
def acr {l:List aa} [br l] {P:List Nat} {da:aa} [bg da] {a bh ch:List (List ar)} {i:Nat} (g:i<M.length) (k:M.length<=4000) (m:P.length<=4000) (j:P.contains i=true):a2 ab G (aU (ao 25) 2) (ao 25).aK (a5 0) .normal (nQ M ch i) (jS P da a bh l) (nQ M ch (i+1)) (jS P da a bh l):=by
 have b:=CC G (l:=P) (n:=i) (by omega)
 rw [j] at b
 unfold jS
 by_cases d:l=[]
 subst d
 have c:∀ p,bq p 1 ([]:List aa) = .aq := λ p=>rfl
 have f:∀ p,a8 p 1 ([]:List aa)=[] := λ p=>rfl
 simp only [c,f,jy]
 exact aW aG [bm 67 aj g,hc b,a9 69 i]
 have c:∀ p,bq p 1 l = .ai p 1 0 l.length false := λ p=>dA d
 have f:∀ p,a8 p 1 l=[(p,⟨l,1,false⟩)] := λ p=>dx d
 simp only [c,f,pk]
 exact aW aG [bm 67 aj g,hc b,a9 69 i]
def QX {l l':List aa} [br l] {P:List Nat} {da c':aa} [bg da] {a bh ch:List (List ar)} (t:l.length=l'.length) (u:∀ e∈l',e.size=1) (j:∀ e∈l,e.size=1) (hv:∀ F,eU F (flat l) (flat l')) (o:∀ c∈flat l',b8 c) (h1:∀ F,hX F da c') (k:∀ σ : aL,c9 σ (flat l) (flat l')):a2 ab G (aU (ao 25) 2) (ao 25).aK (a5 0) (.exit 4) (nQ M ch M.length) (jS P da a bh l) (λ q=>[(5, .ref q.b 0 0),(4, .ref q.c 0 0)]) (λ q=>[(q.b,dh (bW P) c' (az a) (.sl 1 l') (az bh)),(q.c,bV)]):=by
 have H:a2 ab G (aU (ao 25) 2) (ao 25).aK (a5 0) (.exit 4) (nQ M ch M.length) (jS P da a bh l) (λ q=>[(5, .ref q.b 0 0),(4, .ref q.c 0 0)]) (jS P da a bh l):=by
   unfold jS
   by_cases i:l=[]
   subst i
   have f:∀ p,bq p 1 ([]:List aa) = .aq := λ p=>rfl
   have h:∀ p,a8 p 1 ([]:List aa)=[] := λ p=>rfl
   simp only [f,h,jy]
   exact aW aG [cx 67 aj M]
   have f:∀ p,bq p 1 l = .ai p 1 0 l.length false := λ p=>dA i
   have h:∀ p,a8 p 1 l=[(p,⟨l,1,false⟩)] := λ p=>dx i
   simp only [f,h,pk]
   exact aW aG [cx 67 aj M]
 exact H.gV λ q m g=>bz.R5 g t u j hv o (λ F=>vV F _) h1 (λ F=>vV F _) (λ F=>vV F _) nM k
noncomputable abbrev mb (M ch:List (List ar)) (P:List Nat) (i:Nat):List (List ar):=((ba i).filter λ i => !P.contains i).map λ i=>j6 ch (M.getD i [])
def abZ {M ch:List (List ar)} {P:List Nat} {i:Nat} (h:P.contains i=true):mb M ch P (i+1)=mb M ch P i:=by
 unfold mb
 rw [ke,pg,EF (by rw [h];decide)]
 simp
def abY {M ch:List (List ar)} {P:List Nat} {i:Nat} (h:P.contains i=false):mb M ch P (i+1)=mb M ch P i++[j6 ch (M.getD i [])]:=by
 unfold mb
 rw [ke,pg,EG (by rw [h];decide),dU]
 simp
def abX (M ch:List (List ar)) (P:List Nat) (i:Nat):(mb M ch P i).length<=i:=by
 unfold mb
 rw [aM]
 have:=vU (λ i => !P.contains i) (ba i)
 rwa [dZ] at this
def ab3 (M:List (List ar)) (c:Nat):gl (g3 M c) = .agg [bW (cW M (ba M.length)),bW (if (aA M (cW M (ba M.length))).isEmpty then [] else (bI (aA M (cW M (ba M.length)))).2),az (nZ ((aA M (cW M (ba M.length))).map (eW (if (aA M (cW M (ba M.length))).isEmpty then [] else (bI (aA M (cW M (ba M.length)))).2)))),az (mb M (aA M (cW M (ba M.length))) (cW M (ba M.length)) M.length),az (if M.isEmpty then tQ c else pK M)]:=by
 unfold gl g3
 simp only [vc]
def Oz (F:List (bT × aN)):∀ i,eU F (flat (bG i aa.aq)) (flat (bG i (aa.sl 2 [])))
 | 0=>trivial
 | i+1=>by
   rw [yl,yl]
   exact ⟨hX.view (fi 2),Oz F i⟩
def Oy (σ : aL):∀ i,c9 σ (flat (bG i aa.aq)) (flat (bG i (aa.sl 2 [])))
 | 0=>iv
 | i+1=>by
   rw [yl,yl]
   exact cp (fi 2) (Oy σ i)
instance {i:Nat}:br (bG i aa.aq):=⟨λ c hc=>by rw [jA hc];exact bg.pure, λ ρ => by rw [jl,List.map_replicate];rfl⟩
instance {i:Nat}:cq 1 (bG i aa.aq):=⟨λ c hc=>by rw [jA hc];infer_instance⟩
include F
def QD (s:bw K n w M) (w0:0<w) (O:M.length<=4000) (Q:w<=4000) {j:Nat} (N:M.length<=j \/ w<=j) (B:bO K q (grow K j n)) {P:List Nat} (v:∀ k∈P,k<M.length) (g:P.Nodup) (H:P.length<=w) (c:P≠[]) {i:Nat} (t:i<M.length) (J:i ∉ P) :
   ∃ o,ag ab G 48 [az (er (aA M P)),aj (M[i])] (.aS [aj (j6 (aA M P) (M[i])), .bool o]):=by
 have L:=s.sub v
 have a:bw K n w (aA M P):=L
 have C:(aA M P).length=P.length:=aM ..
 have z:aA M P≠[] := λ h=>c (eN.1 h)
 have A:0<P.length:=hO.2 c
 have DA:(er (aA M P)).length=w:=by rw [Ak,jG a z]
 have m:=Aj a
 rw [C] at m
 have d:=s _ (bc t)
 have R:=Md g v t J
 have p:bw K n 1 ((M[i]).map λ x=>[x]) := λ r D=>by
   obtain ⟨x,l,rfl⟩:=bn.1 D
   exact ⟨rfl, λ y I=>by rw [bJ.1 I];exact d.2 x l⟩
 have E:=uM m p
 have S:(dH (er (aA M P)) ((M[i]).map λ x=>[x])).length=w:=by unfold dH;rw [k0,aM,DA,d.1,Nat.min_self]
 have ⟨o,f⟩:=ah3 G F (M:=er (aA M P)) (b:=M[i]) (λ h=>by rw [h] at DA;simp at DA;omega) m A d.2 (by rw [DA,d.1]) (by omega) (by omega) (j:=j) (zZ E (by omega)) B
 refine ⟨o, ?_⟩
 have es:j6 (aA M P) (M[i])=(oa (er (aA M P)) (M[i])).getD []:=by
   unfold j6
   rw [if_neg (by rw [ra];exact z)]
 rw [es]
 exact f
def TS {c:Nat} (v:bw K n w M) (w0:0<w) (s:M.length<=4000) (ca:w<=4000) (fA:c<=4000) {j:Nat} (X:M.length<=j \/ w<=j) (E:bO K q (grow K j n)):ag ab G 25 [az M,ak c] (gl (g3 M c)):=by
 have Z:=ahZ G F v w0 s ca X E
 have A:=ahR G F (c:=c) v (by omega) (by omega) (by omega) (zZ v X) E
 have z:=r5 v (ord:=ba M.length) λ k A=>cR.1 A
 have C:=HO M (sQ (n:=M.length))
 have V:=aj9 M (ba M.length)
 have pP:(cW M (ba M.length)).length<=M.length:=by
   have:=rh (S:=ba M.length) C λ x g=>cR.2 (z.1 x g)
   rwa [dZ] at this
 rw [ab3]
 generalize (if M.isEmpty then tQ c else pK M)=bh at *
 generalize cW M (ba M.length)=P at *
 by_cases m:P=[]
 subst m
 have e1:aA M []=[]:=rfl
 simp only [e1,List.isEmpty_nil,if_true,List.map_nil]
 have J:∀ i,(mb M [] [] i).map aj=bG i (aa.sl 2 []) := λ i=>by
   refine ZU.2 ⟨?_, λ b hb => ?_⟩
   rw [aM]
   unfold mb
   rw [aM,show (ba i).filter (λ i => !([]:List Nat).contains i)=ba i from List.filter_eq_self.2 λ _ _=>rfl,dZ]
   obtain ⟨x,g,rfl⟩:=bn.1 hb
   obtain ⟨k,_,rfl⟩:=bn.1 g
   rfl
 have BK:az (mb M [] [] M.length) = .sl 1 (bG M.length (aa.sl 2 [])):=by unfold az;rw [J]
 rw [BK]
 haveI:bg (aa.sl 1 (bG M.length (aa.sl 2 []))):=by rw [<- BK];infer_instance
 haveI:br (bG M.length (aa.sl 2 [])):=by rw [<- J];infer_instance
 exact bB [hc Z,hc A,ck (ao 25) 0 0 0 0 ⟨[1],[7,0],[0,0],[4]⟩ (λ i q=>(6,bq q.a 1 ((aA M (([]:List Nat).take i)).map aj))::uR M c i q) (λ i q=>a8 q.a 1 ((aA M (([]:List Nat).take i)).map aj)++pE [] bh q) (.exit 0) (λ q=>(6,az (aA M []))::[(5, .ref q.b 0 0),(4, .ref q.c 0 0),(0,az M),(7, .aq)]) (pE [] bh) (λ i f=>absurd f (kC _)) (QP G c),
   ck (ao 25) 1 0 1 0 ⟨[1],[2000001,0],[2000002,0],[4]⟩ (λ i q=>(7,bq q.a 1 (([]:List (List ar)).map aj))::tG M [] i q) (λ i q=>a8 q.a 1 (([]:List (List ar)).map aj)++n5 [] .aq bh q) (.exit 2) (λ q=>(7,az [])::[(6,az []),(5, .ref q.b 0 0),(4, .ref q.c 0 0),(0,az M)]) (n5 [] .aq bh) (λ i f=>absurd f (kC _)) (T8 G),
   hc (ahQ G),
   ck (ao 25) 2 0 2 M.length ⟨[1],[4000001,0],[4000002,0],[4]⟩ (λ i q=>nQ M [] i q) (λ i q=>jS [] .aq (nZ []) bh (bG i aa.aq) q) (.exit 4) (λ q=>[(5, .ref q.b 0 0),(4, .ref q.c 0 0)]) (λ q=>[(q.b,dh (bW []) (bW []) (az (nZ [])) (.sl 1 (bG M.length (aa.sl 2 []))) (az bh)),(q.c,bV)])
     (λ i f=>by
       rw [ZV]
       by_cases h0:i=0
       subst h0
       exact acn G (ch:=[]) f s (Nat.zero_le _) rfl
       exact aco G (ch:=[]) (l:=bG i aa.aq) (λ h=>h0 (by have:=congrArg List.length h;rwa [nD] at this)) (by rw [nD];omega) f s (Nat.zero_le _) rfl)
     (QX G (by rw [nD,nD]) (λ e u=>by rw [jA u];rfl) (λ e u=>by rw [jA u];rfl) (λ F=>Oz F _) (λ c hc=>by
       have ⟨x,g,h⟩:=iK.1 hc
       rw [jA g] at h
       rw [bJ.1 h]
       exact bg.pure) (λ F=>hX.view (fi 1)) (λ σ => Oy σ _))]
 have I:aA M P≠[] := λ h=>m (eN.1 h)
 have t:bw K n w (aA M P):=v.sub z.1
 have gR:(aA M P).length=P.length:=aM ..
 have p0:0<P.length:=hO.2 m
 have N:(aA M P).length<=j \/ w<=j:=by omega
 have O:=CD G F I t (by omega) (by omega) (zZ t N) E
 have aq6:=V m
 have H:=(mz t).lt
 rw [jG t I] at H
 have agd:(aA M P).isEmpty=false:=by rw [A9];exact λ h=>I (ra.1 h)
 rw [agd]
 simp only [jO,if_false]
 have j7:=Mm G I (λ x g=>(t x g).1) (by omega) (show w<=9000 by omega)
 have T := λ {i:Nat} (f:i<M.length) (p:i ∉ P)=>QD G F v w0 s ca X E z.1 C z.2 m f p
 have zv:=CG t (bI (aA M P)).2
 have lm:((aA M P).map (eW (bI (aA M P)).2)).length=P.length:=by rw [aM,gR]
 have nm:(aA M P).map (eW (bI (aA M P)).2)≠[] := λ h=>I (eN.1 h)
 have hC:=uM zv (zg (K:=K) (n:=n) ((aA M P).map (eW (bI (aA M P)).2)).length)
 have G3:(dH ((aA M P).map (eW (bI (aA M P)).2)) (jK ((aA M P).map (eW (bI (aA M P)).2)).length)).length=P.length:=by unfold dH;rw [k0,wV,lm,Nat.min_self]
 have gz:=ahP G F nm zv (by omega) (by omega) (by omega) (j:=j) (bs (mz hC).pl (by have:=z.2;omega)) E
 generalize (bI (aA M P)).2=d at *
 generalize (bI (aA M P)).1=aqG at *
 have hw:∀ x∈aA M P,∀ k∈d,k<x.length := λ x g k A=>by rw [(t x g).1];exact H k A
 have R:decide ((((aA M P).map aj).length:Int)>0)=true:=by rw [aM];exact decide_eq_true (by omega)
 have hY:=T8 G (M:=M) (P:=P) (da:=bW d) (L:=(aA M P).map (eW d)) (bh:=bh) (ch:=aA M P)
 have Q:a2 ab G (aU (ao 25) 1) (ao 25).aK (a5 0) (.exit 2) (λ q=>(7,bq q.a 1 ((((aA M P).take (aA M P).length).map (eW d)).map aj))::tG M (aA M P) (aA M P).length q) (λ q=>a8 q.a 1 ((((aA M P).take (aA M P).length).map (eW d)).map aj)++n5 P (bW d) bh q) (λ q=>(7,az ((aA M P).map (eW d)))::[(6,az (aA M P)),(5, .ref q.b 0 0),(4, .ref q.c 0 0),(0,az M)]) (n5 P (bW d) bh):=by rw [gn];exact hY
 exact bB [hc Z,hc A,ck (ao 25) 0 0 0 P.length ⟨[1],[7,0],[0,0],[4]⟩ (λ i q=>(6,bq q.a 1 ((aA M (P.take i)).map aj))::uR M c i q) (λ i q=>a8 q.a 1 ((aA M (P.take i)).map aj)++pE P bh q) (.exit 0) (λ q=>(6,az (aA M P))::[(5, .ref q.b 0 0),(4, .ref q.c 0 0),(0,az M),(7, .aq)]) (pE P bh) (λ i f=>ab8 G z.1 (by omega) c i f) (QP G c),
   fh 38 R,hc O,
   ck (ao 25) 1 0 1 (aA M P).length ⟨[1],[2000001,0],[2000002,0],[4]⟩ (λ i q=>(7,bq q.a 1 ((((aA M P).take i).map (eW d)).map aj))::tG M (aA M P) i q) (λ i q=>a8 q.a 1 ((((aA M P).take i).map (eW d)).map aj)++n5 P (bW d) bh q) (.exit 2) (λ q=>(7,az ((aA M P).map (eW d)))::[(6,az (aA M P)),(5, .ref q.b 0 0),(4, .ref q.c 0 0),(0,az M)]) (n5 P (bW d) bh) (λ i f=>ah8 G hw (by omega) (by omega) i f) Q,
   hc gz,
   ck (ao 25) 2 0 2 M.length ⟨[1],[4000001,0],[4000002,0],[4]⟩ (λ i q=>nQ M (aA M P) i q) (λ i q=>jS P (bW d) (nZ ((aA M P).map (eW d))) bh ((mb M (aA M P) P i).map aj) q) (.exit 4) (λ q=>[(5, .ref q.b 0 0),(4, .ref q.c 0 0)]) (λ q=>[(q.b,dh (bW P) (bW d) (az (nZ ((aA M P).map (eW d)))) (.sl 1 ((mb M (aA M P) P M.length).map aj)) (az bh)),(q.c,bV)])
     (λ i f=>by
       cases p:P.contains i with
       | true =>
         rw [abZ p]
         exact acr G f s (by omega) p
       | false =>
         have U:i ∉ P := λ h=>by rw [pq.2 h] at p;cases p
         obtain ⟨o,D⟩:=T f U
         rw [abY p,dU,ic,bj f]
         have G2:=abX M (aA M P) P i
         by_cases Y:mb M (aA M P) P i=[]
         rw [Y]
         exact acp G (b:=[]) f s (by omega) p (by omega) j7 D
         exact acq G (b:=[]) (l:=(mb M (aA M P) P i).map aj) (λ h=>Y (eN.1 h)) (by rw [aM];omega) f s (by omega) p (by omega) j7 D)
     (QX G rfl (λ e u=>by obtain ⟨x,_,rfl⟩:=bn.1 u;rfl) (λ e u=>by obtain ⟨x,_,rfl⟩:=bn.1 u;rfl) (λ F=>hN F _) (λ c hc=>by
       obtain ⟨x,g,h⟩:=iK.1 hc
       obtain ⟨y,_,rfl⟩:=bn.1 g
       rw [bJ.1 h]
       exact bg.pure) (λ F=>vV F _) (λ σ => jx λ c hc=>by
       obtain ⟨x,g,h⟩:=iK.1 hc
       obtain ⟨y,_,rfl⟩:=bn.1 g
       rw [bJ.1 h]
       exact bg.pure))]
end
def N2 {l:List Nat} {k i:Nat} (a:k<l.length):(l.take (k+1)).contains i=((l.take k).contains i||decide (l[k]=i)):=by
 rw [iH a,ZW,ZW,List.any_append]
 congr 1
 simp only [List.any_cons,List.any_nil,Pu]
 by_cases e:l[k]=i
 rw [e,decide_eq_true rfl];exact beq_self_eq_true _
 rw [decide_eq_false e];exact beq_eq_false_iff_ne.2 λ h=>e h.symm
section
variable (G:Nat->Option (List aa)) {K:cT} {q e r:Nat} (F:gG K q e r) {n w:Nat} {M:List (List ar)}
noncomputable abbrev lx (l:List Nat) (n i k:Nat):List (Nat × aa):=[(0,bW l),(1,ak n),(6,ak i),(7, .bool ((l.take k).contains i)),(8,ak k)]
noncomputable abbrev r0 (l:List Nat) (n i:Nat):List (Nat × aa):=[(0,bW l),(1,ak n),(6,ak i)]
abbrev hZ (l:List Nat) (i:Nat):List Nat:=(ba i).filter λ i => !l.contains i
def UF {l:List Nat} {i:Nat} (f:l.length<=9000) (k:Nat) (c:k<l.length):a2 ab G (aU (ao 47) 1) (ao 47).aK (a5 0) .normal (λ q=>(5, .aq)::lx l n i k) (λ q=>[]) (λ q=>(5, .aq)::lx l n i (k+1)) (λ q=>[]):=by
 unfold lx
 rw [N2 c]
 cases g:(l.take k).contains i with
 | true =>
   rw [vW]
   exact aW aG [bm 17 ak c,a9 19 k]
 | false =>
   rw [mX]
   exact aW aG [bm 17 ak c,aQ 24 1 ak c,hb 27 (ij (a:=l[k]) (b:=i) rfl),a9 19 k]
def UD {l:List Nat} {i:Nat}:a2 ab G (aU (ao 47) 1) (ao 47).aK (a5 0) (.exit 2) (λ q=>(5, .aq)::lx l n i l.length) (λ q=>[]) (λ q=>(5, .aq)::lx l n i l.length) (λ q=>[]):=aW aG [cx 17 ak l]
def ajF {l:List Nat} {i:Nat} (b:l.length<=9000) (g:n<=9000) (f:i<n) (h:l.contains i=true):a2 ab G (aU (ao 47) 0) (ao 47).aK (a5 2) .normal (λ q=>(5, .aq)::r0 l n i) (λ q=>[]) (λ q=>(5, .aq)::r0 l n (i+1)) (λ q=>[]):=by
 have c:(l.take l.length).contains i=true:=by rw [gn];exact h
 exact aW ⟨[1],[2],[3],[4]⟩ [hb 11 (dW f),ck (ao 47) 1 0 0 l.length aG (λ k q=>(5, .aq)::lx l n i k) (λ k q=>[]) (.exit 2) (λ q=>(5, .aq)::lx l n i l.length) (λ q=>[]) (λ k d=>UF G b k d) (UD G),hb 30 (show (!(l.take l.length).contains i)=false by rw [c];rfl),a9 13 i]
def ajE {l:List Nat} {i:Nat} (c:l.length<=9000) (j:n<=9000) (g:i<n) (h:l.contains i=false):a2 ab G (aU (ao 47) 0) (ao 47).aK (a5 2) .normal (λ q=>(5, .aq)::r0 l n i) (λ q=>[]) (λ q=>(5, .ai q.a 1 0 1 false)::r0 l n (i+1)) (λ q=>[(q.a,⟨[ak i],1,false⟩)]):=by
 have d:(l.take l.length).contains i=false:=by rw [gn];exact h
 exact aW ⟨[2000009,0],[2],[3],[4]⟩ [hb 11 (dW g),ck (ao 47) 1 0 0 l.length aG (λ k q=>(5, .aq)::lx l n i k) (λ k q=>[]) (.exit 2) (λ q=>(5, .aq)::lx l n i l.length) (λ q=>[]) (λ k f=>UF G c k f) (UD G),hb 30 (show (!(l.take l.length).contains i)=true by rw [d];rfl),a9 13 i]
def UG {L:List aa} [br L] [cq 1 L] {l:List Nat} {i:Nat} (f:l.length<=9000) (k:Nat) (c:k<l.length):a2 ab G (aU (ao 47) 1) (ao 47).aK (a5 0) .normal (λ q=>(5, .ai q.a 1 0 L.length false)::lx l n i k) (λ q=>[(q.a,⟨L,1,false⟩)]) (λ q=>(5, .ai q.a 1 0 L.length false)::lx l n i (k+1)) (λ q=>[(q.a,⟨L,1,false⟩)]):=by
 unfold lx
 rw [N2 c]
 cases g:(l.take k).contains i with
 | true =>
   rw [vW]
   exact aW aG [bm 17 ak c,a9 19 k]
 | false =>
   rw [mX]
   exact aW aG [bm 17 ak c,aQ 24 1 ak c,hb 27 (ij (a:=l[k]) (b:=i) rfl),a9 19 k]
def UE {L:List aa} [br L] [cq 1 L] {l:List Nat} {i:Nat}:a2 ab G (aU (ao 47) 1) (ao 47).aK (a5 0) (.exit 2) (λ q=>(5, .ai q.a 1 0 L.length false)::lx l n i l.length) (λ q=>[(q.a,⟨L,1,false⟩)]) (λ q=>(5, .ai q.a 1 0 L.length false)::lx l n i l.length) (λ q=>[(q.a,⟨L,1,false⟩)]):=aW aG [cx 17 ak l]
def ajH {L:List aa} [br L] [cq 1 L] (m:L.length<=9000) {l:List Nat} {i:Nat} (c:l.length<=9000) (j:n<=9000) (g:i<n) (h:l.contains i=true):a2 ab G (aU (ao 47) 0) (ao 47).aK (a5 2) .normal (λ q=>(5, .ai q.a 1 0 L.length false)::r0 l n i) (λ q=>[(q.a,⟨L,1,false⟩)]) (λ q=>(5, .ai q.a 1 0 L.length false)::r0 l n (i+1)) (λ q=>[(q.a,⟨L,1,false⟩)]):=by
 have d:(l.take l.length).contains i=true:=by rw [gn];exact h
 exact aW ⟨[2000000,0],[2],[3],[4]⟩ [hb 11 (dW g),ck (ao 47) 1 0 0 l.length aG (λ k q=>(5, .ai q.a 1 0 L.length false)::lx l n i k) (λ k q=>[(q.a,⟨L,1,false⟩)]) (.exit 2) (λ q=>(5, .ai q.a 1 0 L.length false)::lx l n i l.length) (λ q=>[(q.a,⟨L,1,false⟩)]) (λ k f=>UG G c k f) (UE G),hb 30 (show (!(l.take l.length).contains i)=false by rw [d];rfl),a9 13 i]
def ajG {L:List aa} [br L] [cq 1 L] (m:L.length<=9000) {l:List Nat} {i:Nat} (c:l.length<=9000) (j:n<=9000) (g:i<n) (h:l.contains i=false):a2 ab G (aU (ao 47) 0) (ao 47).aK (a5 2) .normal (λ q=>(5, .ai q.a 1 0 L.length false)::r0 l n i) (λ q=>[(q.a,⟨L,1,false⟩)]) (λ q=>(5, .ai q.a 1 0 (L.length+1) false)::r0 l n (i+1)) (λ q=>[(q.a,⟨L++[ak i],1,false⟩)]):=by
 have d:(l.take l.length).contains i=false:=by rw [gn];exact h
 exact aW ⟨[2000009,0],[2],[3],[4]⟩ [hb 11 (dW g),ck (ao 47) 1 0 0 l.length aG (λ k q=>(5, .ai q.a 1 0 L.length false)::lx l n i k) (λ k q=>[(q.a,⟨L,1,false⟩)]) (.exit 2) (λ q=>(5, .ai q.a 1 0 L.length false)::lx l n i l.length) (λ q=>[(q.a,⟨L,1,false⟩)]) (λ k f=>UG G c k f) (UE G),hb 30 (show (!(l.take l.length).contains i)=true by rw [d];rfl),jY 34 1 8 [2000000,0] 2000008 L (ak i) (by omega) (fU (k:=1)),a9 13 i]
def Mi {l:List Nat} (d:l.length<=9000) (f:n<=9000):ag ab G 47 [bW l,ak n] (bW (hZ l n)):=by
 refine bB [ck (ao 47) 0 2 0 n aG (λ i q=>(5,bq q.a 1 ((hZ l i).map ak))::r0 l n i) (λ i q=>a8 q.a 1 ((hZ l i).map ak)++[]) (.exit 0) (λ _=>[(5,bW (hZ l n))]) (λ _=>[]) (λ i g => ?_) ?_]
 have o:((hZ l i).map ak).length<=9000:=by
   rw [aM]
   have:=vU (λ i => !l.contains i) (ba i)
   rw [dZ] at this
   exact bs this (by omega)
 cases h:l.contains i with
 | true =>
   rw [show hZ l (i+1)=hZ l i from by
     unfold hZ
     rw [ke,pg,EF (by rw [h];decide)]
     simp]
   generalize hZ l i=A at *
   by_cases c:A=[]
   have x1:∀ p,bq p 1 (A.map ak) = .aq := λ p=>by rw [c];rfl
   have bF:∀ p,a8 p 1 (A.map ak)=[] := λ p=>by rw [c];rfl
   simp only [x1,bF,k5]
   exact ajF G d f g h
   have b:A.map ak≠[] := λ e=>c (eN.1 e)
   simp only [dA b,dx b,k5]
   exact ajH G (L:=A.map ak) o d f g h
 | false =>
   rw [show hZ l (i+1)=hZ l i++[i] from by
     unfold hZ
     rw [ke,pg,EG (by rw [h];decide)]
     simp,dU,ic]
   generalize hZ l i=A at *
   by_cases c:A=[]
   have x1:∀ p,bq p 1 (A.map ak) = .aq := λ p=>by rw [c];rfl
   have bF:∀ p,a8 p 1 (A.map ak)=[] := λ p=>by rw [c];rfl
   have k:∀ p,bq p 1 (A.map ak++[ak i]) = .ai p 1 0 1 false := λ p=>by rw [c];exact dA (by simp)
   have j:∀ p,a8 p 1 (A.map ak++[ak i])=[(p,⟨[ak i],1,false⟩)] := λ p=>by rw [c];exact dx (by simp)
   simp only [x1,bF,k,j,k5]
   exact ajE G d f g h
   have b:A.map ak≠[] := λ e=>c (eN.1 e)
   have k:∀ p,bq p 1 (A.map ak++[ak i]) = .ai p 1 0 ((A.map ak).length+1) false := λ p=>by rw [dA (by simp),cd];rfl
   have j:∀ p,a8 p 1 (A.map ak++[ak i])=[(p,⟨A.map ak++[ak i],1,false⟩)] := λ p=>dx (by simp)
   simp only [k,j,dA b,dx b,k5]
   exact ajG G (L:=A.map ak) o d f g h
 exact (kT (A := λ _=>r0 l n n) (B := λ _=>[]) (bZ := λ _=>[]) (ct := λ _=>[]) aG [hb 11 (kM (a4 n))]).rH (B:=[]) λ e t=>by obtain ⟨x,_,rfl⟩:=bn.1 t;infer_instance
noncomputable abbrev ly (M:List (List ar)) (P:List Nat) (c i k:Nat) (q:aB):List (Nat × aa):=[(12, .ref q.b 0 0),(6, .ref q.d 0 0),(0,az M),(1,ak c),(7,bW P),(14,ak i),(15,ak k)]
noncomputable abbrev j4 (M:List (List ar)) (P:List Nat) (c i:Nat) (q:aB):List (Nat × aa):=[(12, .ref q.b 0 0),(6, .ref q.d 0 0),(0,az M),(1,ak c),(7,bW P),(14,ak i)]
noncomputable def ia (M:List (List ar)) (A:List Nat) (q:aB):aa:=if A=[] then .aq else .ai q.c 1 0 ((aA M A).map aj).length false
noncomputable def h9 (M:List (List ar)) (A:List Nat) (q:aB):List (bT × aN):=if A=[] then [(q.b,bV),(q.d,bV)] else [(q.a,⟨A.map ak,1,false⟩),(q.b,dh (.ai q.a 1 0 (A.map ak).length false) .aq .aq .aq .aq),(q.c,⟨(aA M A).map aj,1,false⟩),(q.d,bV)]
def pT {A:List Nat} (h:A=[]) (q:aB):ia M A q = .aq/\h9 M A q=[(q.b,bV),(q.d,bV)]:=⟨if_pos h,if_pos h⟩
def lD {A:List Nat} (h:A≠[]) (q:aB):ia M A q = .ai q.c 1 0 ((aA M A).map aj).length false/\h9 M A q=[(q.a,⟨A.map ak,1,false⟩),(q.b,dh (.ai q.a 1 0 (A.map ak).length false) .aq .aq .aq .aq),(q.c,⟨(aA M A).map aj,1,false⟩),(q.d,bV)]:=⟨if_neg h,if_neg h⟩
def ajq {P:List Nat} {c i:Nat} (g:P.length<=9000) (k:Nat) (f:k<P.length) (h:decide (P[k]=i)=false):a2 ab G (aU (ao 15) 2) (ao 15).aK (a5 0) .normal (λ q=>(13, .aq)::ly M P c i k q) (λ q=>[(q.b,bV),(q.d,bV)]) (λ q=>(13, .aq)::ly M P c i (k+1) q) (λ q=>[(q.b,bV),(q.d,bV)]):=aW aG [bm 71 ak f,aQ 76 1 ak f,hb 79 (ij h),a9 73 k]
def ajo {P:List Nat} {c i:Nat} (l:P.length<=9000) (j:i<M.length) (k:Nat) (g:k<P.length) (h:decide (P[k]=i)=true):a2 ab G (aU (ao 15) 2) (ao 15).aK (a5 0) .normal (λ q=>(13, .aq)::ly M P c i k q) (λ q=>[(q.b,bV),(q.d,bV)]) (λ q=>(13, .ai q.c 1 0 1 false)::ly M P c i (k+1) q) (λ q=>[(q.a,⟨[ak i],1,false⟩),(q.b,dh (.ai q.a 1 0 1 false) .aq .aq .aq .aq),(q.c,⟨[aj M[i]],1,false⟩),(q.d,bV)]):=aW ⟨[14,0],[2],[21,0],[4]⟩ [bm 71 ak g,aQ 76 1 ak g,hb 79 (ij h),aQ 88 1 aj j,a9 73 k]
def ajp {P:List Nat} {c i:Nat}:a2 ab G (aU (ao 15) 2) (ao 15).aK (a5 0) (.exit 4) (λ q=>(13, .aq)::ly M P c i P.length q) (λ q=>[(q.b,bV),(q.d,bV)]) (λ q=>(13, .aq)::j4 M P c i q) (λ q=>[(q.b,bV),(q.d,bV)]):=aW aG [cx 71 ak P]
def ajj {P:List Nat} {c:Nat}:a2 ab G (aU (ao 15) 1) (ao 15).aK (a5 2) (.exit 2) (λ q=>(13, .aq)::j4 M P c M.length q) (λ q=>[(q.b,bV),(q.d,bV)]) (λ q=>(13, .aq)::[(12, .ref q.b 0 0),(6, .ref q.d 0 0),(0,az M),(1,ak c)]) (λ q=>[(q.b,bV),(q.d,bV)]):=aW aG [cx 65 aj M]
def ajs {l L:List aa} [br l] [cq 1 l] [br L] [cq 1 L] {P:List Nat} {c i:Nat} (j:P.length<=9000) (k:Nat) (g:k<P.length) (h:decide (P[k]=i)=false):a2 ab G (aU (ao 15) 2) (ao 15).aK (a5 0) .normal (λ q=>(13, .ai q.c 1 0 L.length false)::ly M P c i k q) (λ q=>[(q.a,⟨l,1,false⟩),(q.b,dh (.ai q.a 1 0 l.length false) .aq .aq .aq .aq),(q.c,⟨L,1,false⟩),(q.d,bV)]) (λ q=>(13, .ai q.c 1 0 L.length false)::ly M P c i (k+1) q) (λ q=>[(q.a,⟨l,1,false⟩),(q.b,dh (.ai q.a 1 0 l.length false) .aq .aq .aq .aq),(q.c,⟨L,1,false⟩),(q.d,bV)]):=aW aG [bm 71 ak g,aQ 76 1 ak g,hb 79 (ij h),a9 73 k]
def ajr {l L:List aa} [br l] [cq 1 l] [br L] [cq 1 L] (m:l.length<=9000) (o:L.length<=9000) {P:List Nat} {c i:Nat} (p:P.length<=9000) (j:i<M.length) (k:Nat) (g:k<P.length) (h:decide (P[k]=i)=true):a2 ab G (aU (ao 15) 2) (ao 15).aK (a5 0) .normal (λ q=>(13, .ai q.c 1 0 L.length false)::ly M P c i k q) (λ q=>[(q.a,⟨l,1,false⟩),(q.b,dh (.ai q.a 1 0 l.length false) .aq .aq .aq .aq),(q.c,⟨L,1,false⟩),(q.d,bV)]) (λ q=>(13, .ai q.c 1 0 (L.length+1) false)::ly M P c i (k+1) q) (λ q=>[(q.a,⟨l++[ak i],1,false⟩),(q.b,dh (.ai q.a 1 0 (l.length+1) false) .aq .aq .aq .aq),(q.c,⟨L++[aj M[i]],1,false⟩),(q.d,bV)]):=aW ⟨[14,0],[2],[21,0],[4]⟩ [bm 71 ak g,aQ 76 1 ak g,hb 79 (ij h),jY 84 1 8 [1] 13 l (ak i) (by omega) (fU (k:=1)),aQ 88 1 aj j,jY 91 1 24 [3] 20 L (aj M[i]) (by omega) (fU (k:=1)),a9 73 k]
def UK {l L:List aa} [br l] [cq 1 l] [br L] [cq 1 L] {P:List Nat} {c i:Nat}:a2 ab G (aU (ao 15) 2) (ao 15).aK (a5 0) (.exit 4) (λ q=>(13, .ai q.c 1 0 L.length false)::ly M P c i P.length q) (λ q=>[(q.a,⟨l,1,false⟩),(q.b,dh (.ai q.a 1 0 l.length false) .aq .aq .aq .aq),(q.c,⟨L,1,false⟩),(q.d,bV)]) (λ q=>(13, .ai q.c 1 0 L.length false)::j4 M P c i q) (λ q=>[(q.a,⟨l,1,false⟩),(q.b,dh (.ai q.a 1 0 l.length false) .aq .aq .aq .aq),(q.c,⟨L,1,false⟩),(q.d,bV)]):=aW aG [cx 71 ak P]
def ajk {l L:List aa} [br l] [cq 1 l] [br L] [cq 1 L] {P:List Nat} {c:Nat}:a2 ab G (aU (ao 15) 1) (ao 15).aK (a5 2) (.exit 2) (λ q=>(13, .ai q.c 1 0 L.length false)::j4 M P c M.length q) (λ q=>[(q.a,⟨l,1,false⟩),(q.b,dh (.ai q.a 1 0 l.length false) .aq .aq .aq .aq),(q.c,⟨L,1,false⟩),(q.d,bV)]) (λ q=>(13, .ai q.c 1 0 L.length false)::[(12, .ref q.b 0 0),(6, .ref q.d 0 0),(0,az M),(1,ak c)]) (λ q=>[(q.a,⟨l,1,false⟩),(q.b,dh (.ai q.a 1 0 l.length false) .aq .aq .aq .aq),(q.c,⟨L,1,false⟩),(q.d,bV)]):=aW aG [cx 65 aj M]
def ajl {P:List Nat} {c i:Nat} (o:M.length<=9000) (t:P.length<=9000) (j:i<M.length) (T:Nat->aB->List (Nat × aa)) (f:Nat->aB->List (bT × aN)) (g:T 0 aG=(13, .aq)::ly M P c i 0 aG) (h:f 0 aG=[([2],bV),([4],bV)]) (l:∀ k,k<P.length->a2 ab G (aU (ao 15) 2) (ao 15).aK (a5 0) .normal (T k) (f k) (T (k+1)) (f (k+1))) (m:a2 ab G (aU (ao 15) 2) (ao 15).aK (a5 0) (.exit 4) (T P.length) (f P.length) (λ q=>(13, .aq)::j4 M P c i q) (λ q=>[(q.b,bV),(q.d,bV)])):a2 ab G (aU (ao 15) 1) (ao 15).aK (a5 2) .normal (λ q=>(13, .aq)::j4 M P c i q) (λ q=>[(q.b,bV),(q.d,bV)]) (λ q=>(13, .aq)::j4 M P c (i+1) q) (λ q=>[(q.b,bV),(q.d,bV)]) :=
 aW ⟨[2000000,0],[2000001,0],[2000002,0],[2000003,0]⟩ [bm 65 aj j,w3 (ao 15) 2 0 0 P.length aG _ _ T f (.exit 4) (λ q=>(13, .aq)::j4 M P c i q) (λ q=>[(q.b,bV),(q.d,bV)]) g h l m,a9 67 i]
def ajm {l' L':List aa} [br l'] [cq 1 l'] [br L'] [cq 1 L'] {P:List Nat} {c i:Nat} (p:M.length<=9000) (u:P.length<=9000) (l:i<M.length) (T:Nat->aB->List (Nat × aa)) (g:Nat->aB->List (bT × aN)) (h:T 0 aG=(13, .aq)::ly M P c i 0 aG) (j:g 0 aG=[([2],bV),([4],bV)]) (m:∀ k,k<P.length->a2 ab G (aU (ao 15) 2) (ao 15).aK (a5 0) .normal (T k) (g k) (T (k+1)) (g (k+1))) (o:a2 ab G (aU (ao 15) 2) (ao 15).aK (a5 0) (.exit 4) (T P.length) (g P.length) (λ q=>(13, .ai q.c 1 0 (L').length false)::j4 M P c i q) (λ q=>[(q.a,⟨l',1,false⟩),(q.b,dh (.ai q.a 1 0 (l').length false) .aq .aq .aq .aq),(q.c,⟨L',1,false⟩),(q.d,bV)])):a2 ab G (aU (ao 15) 1) (ao 15).aK (a5 2) .normal (λ q=>(13, .aq)::j4 M P c i q) (λ q=>[(q.b,bV),(q.d,bV)]) (λ q=>(13, .ai q.c 1 0 (L').length false)::j4 M P c (i+1) q) (λ q=>[(q.a,⟨l',1,false⟩),(q.b,dh (.ai q.a 1 0 (l').length false) .aq .aq .aq .aq),(q.c,⟨L',1,false⟩),(q.d,bV)]) :=
 aW ⟨[2000000,0],[2000001,0],[2000002,0],[2000003,0]⟩ [bm 65 aj l,w3 (ao 15) 2 0 0 P.length aG _ _ T g (.exit 4) (λ q=>(13, .ai q.c 1 0 (L').length false)::j4 M P c i q) (λ q=>[(q.a,⟨l',1,false⟩),(q.b,dh (.ai q.a 1 0 (l').length false) .aq .aq .aq .aq),(q.c,⟨L',1,false⟩),(q.d,bV)]) h j m o,a9 67 i]
def ajn {l L:List aa} [br l] [cq 1 l] [br L] [cq 1 L] {l' L':List aa} [br l'] [cq 1 l'] [br L'] [cq 1 L'] {P:List Nat} {c i:Nat} (t:M.length<=9000) (v:P.length<=9000) (m:i<M.length) (T:Nat->aB->List (Nat × aa)) (g:Nat->aB->List (bT × aN)) (o:T 0 aG=(13, .ai [3] 1 0 (L).length false)::ly M P c i 0 aG) (j:g 0 aG=[([1],⟨l,1,false⟩),([2],dh (.ai [1] 1 0 (l).length false) .aq .aq .aq .aq),([3],⟨L,1,false⟩),([4],bV)]) (h:∀ k,k<P.length->a2 ab G (aU (ao 15) 2) (ao 15).aK (a5 0) .normal (T k) (g k) (T (k+1)) (g (k+1))) (p:a2 ab G (aU (ao 15) 2) (ao 15).aK (a5 0) (.exit 4) (T P.length) (g P.length) (λ q=>(13, .ai q.c 1 0 (L').length false)::j4 M P c i q) (λ q=>[(q.a,⟨l',1,false⟩),(q.b,dh (.ai q.a 1 0 (l').length false) .aq .aq .aq .aq),(q.c,⟨L',1,false⟩),(q.d,bV)])):a2 ab G (aU (ao 15) 1) (ao 15).aK (a5 2) .normal (λ q=>(13, .ai q.c 1 0 (L).length false)::j4 M P c i q) (λ q=>[(q.a,⟨l,1,false⟩),(q.b,dh (.ai q.a 1 0 (l).length false) .aq .aq .aq .aq),(q.c,⟨L,1,false⟩),(q.d,bV)]) (λ q=>(13, .ai q.c 1 0 (L').length false)::j4 M P c (i+1) q) (λ q=>[(q.a,⟨l',1,false⟩),(q.b,dh (.ai q.a 1 0 (l').length false) .aq .aq .aq .aq),(q.c,⟨L',1,false⟩),(q.d,bV)]) :=
 aW ⟨[2000000,0],[2000001,0],[2000002,0],[2000003,0]⟩ [bm 65 aj m,w3 (ao 15) 2 0 0 P.length aG _ _ T g (.exit 4) (λ q=>(13, .ai q.c 1 0 (L').length false)::j4 M P c i q) (λ q=>[(q.a,⟨l',1,false⟩),(q.b,dh (.ai q.a 1 0 (l').length false) .aq .aq .aq .aq),(q.c,⟨L',1,false⟩),(q.d,bV)]) o j h p,a9 67 i]
noncomputable abbrev pO (M S:List (List ar)) (l:List Nat) (i:Nat) (q:aB):List (Nat × aa):=[(13,az S),(12, .ref q.b 0 0),(6, .ref q.c 0 0),(0,az M),(17,bW l),(18,ak i)]
noncomputable abbrev lv (A:List Nat) (da f d:aa) (l:List aa) (q:aB):List (bT × aN):=a8 q.a 1 l++[(q.b,dh (bW A) da f (bq q.a 1 l) d),(q.c,bV)]
def ai3 {A l:List Nat} {da c b:aa} [bg da] [bg c] [bg b] {S:List (List ar)} {i:Nat} {x:List ar} {o:Bool} (s:l.length<=9000) (d:i<l.length) (t:0<S.length) (m:l[i]<M.length) (g:ag ab G 35 [az S] (az (er S))) (so:ag ab G 48 [az (er S),aj (M[l[i]])] (.aS [aj x, .bool o])):a2 ab G (aU (ao 15) 3) (ao 15).aK (a5 0) .normal (pO M S l i) (lv A da c b []) (pO M S l (i+1)) (lv A da c b ([]++[(aj x)])):=by
 have f:∀ p,bq p 1 ([]++[(aj x)]) = .ai p 1 0 1 false := λ p=>dA (by simp)
 have k:∀ p,a8 p 1 ([]++[(aj x)])=[(p,⟨[(aj x)],1,false⟩)] := λ p=>dx (by simp)
 have j:∀ p,bq p 1 ([]:List aa) = .aq := λ p=>rfl
 have h:∀ p,a8 p 1 ([]:List aa)=[] := λ p=>rfl
 unfold lv
 simp only [j,h,f,k,jy]
 exact aW ⟨[26,0],[2],[3],[4]⟩ [bm 113 ak d,hb 118 (show decide (((S.map aj).length:Int)>0)=true by rw [aM];exact decide_eq_true (by omega)),hc g,aQ 125 1 ak d,aQ 127 1 aj m,hc so,a9 115 i]
def ai4 {L:List aa} [br L] [cq 1 L] (d:L≠[]) (y:L.length<=9000) {A l:List Nat} {da b c:aa} [bg da] [bg b] [bg c] {S:List (List ar)} {i:Nat} {x:List ar} {o:Bool} (v:l.length<=9000) (f:i<l.length) (u:0<S.length) (j:l[i]<M.length) (m:ag ab G 35 [az S] (az (er S))) (so:ag ab G 48 [az (er S),aj (M[l[i]])] (.aS [aj x, .bool o])):a2 ab G (aU (ao 15) 3) (ao 15).aK (a5 0) .normal (pO M S l i) (lv A da b c L) (pO M S l (i+1)) (lv A da b c (L++[(aj x)])):=by
 have h:∀ p,bq p 1 (L++[(aj x)]) = .ai p 1 0 (L.length+1) false := λ p=>by rw [dA (by simp),cd];rfl
 have s:∀ p,a8 p 1 (L++[(aj x)])=[(p,⟨L++[(aj x)],1,false⟩)] := λ p=>dx (by simp)
 have g:∀ p,bq p 1 L = .ai p 1 0 L.length false := λ p=>dA d
 have t:∀ p,a8 p 1 L=[(p,⟨L,1,false⟩)] := λ p=>dx d
 unfold lv
 simp only [g,t,h,s,pk]
 exact aW ⟨[26,0],[2],[3],[4]⟩ [bm 113 ak f,hb 118 (show decide (((S.map aj).length:Int)>0)=true by rw [aM];exact decide_eq_true (by omega)),hc m,aQ 125 1 ak f,aQ 127 1 aj j,hc so,jY 136 1 24 [1] 25 L (aj x) (by omega) (fU (k:=1)),a9 115 i]
def ai1 {A l:List Nat} {da b a:aa} [bg da] [bg b] [bg a] {S:List (List ar)} {i:Nat} (k:l.length<=9000) (j:i<l.length):a2 ab G (aU (ao 15) 3) (ao 15).aK (a5 0) .normal (pO M [] l i) (lv A da b a []) (pO M [] l (i+1)) (lv A da b a ([]++[aa.aq])):=by
 have d:∀ p,bq p 1 ([]++[aa.aq]) = .ai p 1 0 1 false := λ p=>dA (by simp)
 have h:∀ p,a8 p 1 ([]++[aa.aq])=[(p,⟨[aa.aq],1,false⟩)] := λ p=>dx (by simp)
 have g:∀ p,bq p 1 ([]:List aa) = .aq := λ p=>rfl
 have f:∀ p,a8 p 1 ([]:List aa)=[] := λ p=>rfl
 unfold lv
 simp only [g,f,d,h,jy]
 exact aW ⟨[12,0],[2],[3],[4]⟩ [bm 113 ak j,a9 115 i]
def ai2 {L:List aa} [br L] [cq 1 L] (c:L≠[]) (s:L.length<=9000) {A l:List Nat} {da b a:aa} [bg da] [bg b] [bg a] {S:List (List ar)} {i:Nat} (o:l.length<=9000) (g:i<l.length):a2 ab G (aU (ao 15) 3) (ao 15).aK (a5 0) .normal (pO M [] l i) (lv A da b a L) (pO M [] l (i+1)) (lv A da b a (L++[aa.aq])):=by
 have f:∀ p,bq p 1 (L++[aa.aq]) = .ai p 1 0 (L.length+1) false := λ p=>by rw [dA (by simp),cd];rfl
 have h:∀ p,a8 p 1 (L++[aa.aq])=[(p,⟨L++[aa.aq],1,false⟩)] := λ p=>dx (by simp)
 have j:∀ p,bq p 1 L = .ai p 1 0 L.length false := λ p=>dA c
 have m:∀ p,a8 p 1 L=[(p,⟨L,1,false⟩)] := λ p=>dx c
 unfold lv
 simp only [j,m,f,h,pk]
 exact aW ⟨[12,0],[2],[3],[4]⟩ [bm 113 ak g,jY 136 1 24 [1] 11 L aa.aq (by omega) (fU (k:=1)),a9 115 i]
def UA {L L':List aa} [br L] {A l:List Nat} {da d f c':aa} [bg da] [bg d] [bg f] {S:List (List ar)} (u:L.length=L'.length) (v:∀ e∈L',e.size=1) (i:∀ e∈L,e.size=1) (hv:∀ F,eU F (flat L) (flat L')) (t:∀ c∈flat L',b8 c) (o:∀ σ : aL,c9 σ (flat L) (flat L')):a2 ab G (aU (ao 15) 3) (ao 15).aK (a5 0) (.exit 6) (pO M S l l.length) (lv A da d f L) (λ q=>[(12, .ref q.b 0 0),(6, .ref q.c 0 0)]) (λ q=>[(q.b,dh (bW A) da d (.sl 1 L') f),(q.c,bV)]):=by
 have H:a2 ab G (aU (ao 15) 3) (ao 15).aK (a5 0) (.exit 6) (pO M S l l.length) (lv A da d f L) (λ q=>[(12, .ref q.b 0 0),(6, .ref q.c 0 0)]) (lv A da d f L):=by
   unfold lv
   by_cases j:L=[]
   subst j
   have h:∀ p,bq p 1 ([]:List aa) = .aq := λ p=>rfl
   have k:∀ p,a8 p 1 ([]:List aa)=[] := λ p=>rfl
   simp only [h,k,jy]
   exact aW aG [cx 113 ak l]
   have h:∀ p,bq p 1 L = .ai p 1 0 L.length false := λ p=>dA j
   have k:∀ p,a8 p 1 L=[(p,⟨L,1,false⟩)] := λ p=>dx j
   simp only [h,k,pk]
   exact aW aG [cx 113 ak l]
 exact H.gV λ q m g=>bz.R5 g u v i hv t (λ F=>vV F _) (λ F=>vV F _) (λ F=>vV F _) (λ F=>vV F _) nM o
abbrev ez (N bf:Nat):List Nat:=(ba N).map λ i=>(bf+i)%N
def ajA {N bf:Nat} (h:bf<N):(ez N bf).Nodup:=by
 have key:∀ i,i<N->(bf+i)%N=if bf+i<N then bf+i else bf+i-N := λ i f=>by
   split
   next h=>exact dG h
   next h=>rw [Nat.mod_eq_sub_mod (by omega),dG (by omega)]
 unfold ez List.Nodup
 rw [List.pairwise_map]
 refine List.Pairwise.imp_of_mem ?_ (sQ (n:=N))
 intro a b c hb d e
 have c:=cR.1 c
 have hb:=cR.1 hb
 rw [key a c,key b hb] at e
 split at e<;>split at e<;>omega
def zJ {N bf:Nat}:∀ k∈ez N bf,k<N := λ k a=>by
 obtain ⟨i,b,rfl⟩:=bn.1 a
 have:=cR.1 b
 exact bC _ (by omega)
abbrev cE (P:List Nat) (i:Nat):List Nat:=(ba i).filter λ i=>P.contains i
def aaM {P:List Nat} {i:Nat} (h:P.contains i=true):cE P (i+1)=cE P i++[i]:=by
 unfold cE
 rw [ke,pg,EG h]
 simp
def aaL {P:List Nat} {i:Nat} (h:P.contains i=false):cE P (i+1)=cE P i:=by
 unfold cE
 rw [ke,pg,EF (by rw [h];decide)]
 simp
def aaK {P:List Nat} {i:Nat}:∀ k∈cE P i,k<i := λ k a=>cR.1 (kA.1 a).1
def Qg (P:List Nat) (i:Nat):(cE P i).length<=i:=by
 have:=vU (λ i=>P.contains i) (ba i)
 rwa [dZ] at this
def C0 {M:List (List ar)} (a:M≠[]) (c first:Nat):gl (mr M c first) = .agg [bW (cE (cW M (ez M.length (first%M.length))) M.length),kP (g3 (aA M (cE (cW M (ez M.length (first%M.length))) M.length)) c).bt,az (g3 (aA M (cE (cW M (ez M.length (first%M.length))) M.length)) c).inv,az ((hZ (cE (cW M (ez M.length (first%M.length))) M.length) M.length).map λ i=>j6 (aA M (cE (cW M (ez M.length (first%M.length))) M.length)) (M.getD i [])),az (g3 (aA M (cE (cW M (ez M.length (first%M.length))) M.length)) c).bh]:=by
 have e:M.isEmpty=false:=by rw [A9];exact λ h=>a (ra.1 h)
 unfold mr
 rw [e]
 simp only [jO,if_false]
 unfold gl
 simp only [vc]
def aaN {P:List Nat} (C:P.Nodup) {c i:Nat} (Y:M.length<=4000) (pP:P.length<=4000) (u:i<M.length) {A ie:List Nat} (U:A.length<=4000) (v:ie=if P.contains i then A++[i] else A) :
   a2 ab G (aU (ao 15) 1) (ao 15).aK (a5 2) .normal (λ q=>(13,ia M A q)::j4 M P c i q) (h9 M A) (λ q=>(13,ia M ie q)::j4 M P c (i+1) q) (h9 M ie):=by
 have es:=pa M A u
 have Z:((aA M A).map aj).length=A.length:=by rw [aM];exact aM ..
 have X:(A.map ak).length=A.length:=aM ..
 have Q:∀ k (o:k<P.length),P[k]=i->(P.take k).contains i=false := λ k o e=>by
   rw [A9]
   intro h
   have T:=pq.1 h
   obtain ⟨j,R,O⟩:=fZ.1 T
   rw [cZ] at R
   rw [List.getElem_take] at O
   have:=(List.getElem_inj C (h₀:=by omega) (h₁:=o)).1 (O.trans e.symm)
   omega
 let f:Nat->List Nat := λ k=>if (P.take k).contains i then A++[i] else A
 have t:f 0=A:=rfl
 have J:f P.length=ie:=by show (if (P.take P.length).contains i then A++[i] else A)=ie;rw [gn];exact v.symm
 have I:∀ k,k<P.length->a2 ab G (aU (ao 15) 2) (ao 15).aK (a5 0) .normal (λ q=>(13,ia M (f k) q)::ly M P c i k q) (h9 M (f k)) (λ q=>(13,ia M (f (k+1)) q)::ly M P c i (k+1) q) (h9 M (f (k+1))) := λ k o=>by
   have FO:=N2 (i:=i) o
   by_cases e:P[k]=i
   have N:=Q k o e
   rw [N,decide_eq_true e,mX] at FO
   have S:f k=A:=if_neg (by rw [N];decide)
   have D:f (k+1)=A++[i]:=if_pos FO
   rw [S,D]
   have m:A++[i]≠[]:=by simp
   by_cases aY:A=[]
   have x1:∀ q,ia M A q = .aq := λ q=>(pT aY q).1
   have bF:h9 M A = λ q=>[(q.b,bV),(q.d,bV)]:=funext λ q=>(pT aY q).2
   have H:∀ q,ia M (A++[i]) q = .ai q.c 1 0 1 false := λ q=>by rw [(lD m q).1,es,aY];rfl
   have E:h9 M (A++[i]) = λ q=>[(q.a,⟨[ak i],1,false⟩),(q.b,dh (.ai q.a 1 0 1 false) .aq .aq .aq .aq),(q.c,⟨[aj M[i]],1,false⟩),(q.d,bV)]:=funext λ q=>by rw [(lD m q).2,es,aY];rfl
   simp only [x1,bF,H,E]
   exact ajo G (by omega) u k o (decide_eq_true e)
   have x1:∀ q,ia M A q = .ai q.c 1 0 ((aA M A).map aj).length false := λ q=>(lD aY q).1
   have bF:h9 M A = λ q=>[(q.a,⟨A.map ak,1,false⟩),(q.b,dh (.ai q.a 1 0 (A.map ak).length false) .aq .aq .aq .aq),(q.c,⟨(aA M A).map aj,1,false⟩),(q.d,bV)]:=funext λ q=>(lD aY q).2
   have H:∀ q,ia M (A++[i]) q = .ai q.c 1 0 (((aA M A).map aj).length+1) false := λ q=>by rw [(lD m q).1,es,dU,cd];rfl
   have E:h9 M (A++[i]) = λ q=>[(q.a,⟨A.map ak++[ak i],1,false⟩),(q.b,dh (.ai q.a 1 0 ((A.map ak).length+1) false) .aq .aq .aq .aq),(q.c,⟨(aA M A).map aj++[aj M[i]],1,false⟩),(q.d,bV)]:=funext λ q=>by rw [(lD m q).2,es,dU,dU,cd];rfl
   simp only [x1,bF,H,E]
   exact ajr G (l:=A.map ak) (L:=(aA M A).map aj) (by omega) (by omega) (by omega) u k o (decide_eq_true e)
   rw [decide_eq_false e,Pu] at FO
   have D:f (k+1)=f k:=by show (if (P.take (k+1)).contains i then A++[i] else A)=_;rw [FO]
   rw [D]
   generalize f k=B
   by_cases aY:B=[]
   have x1:∀ q,ia M B q = .aq := λ q=>(pT aY q).1
   have bF:h9 M B = λ q=>[(q.b,bV),(q.d,bV)]:=funext λ q=>(pT aY q).2
   simp only [x1,bF]
   exact ajq G (by omega) k o (decide_eq_false e)
   have x1:∀ q,ia M B q = .ai q.c 1 0 ((aA M B).map aj).length false := λ q=>(lD aY q).1
   have bF:h9 M B = λ q=>[(q.a,⟨B.map ak,1,false⟩),(q.b,dh (.ai q.a 1 0 (B.map ak).length false) .aq .aq .aq .aq),(q.c,⟨(aA M B).map aj,1,false⟩),(q.d,bV)]:=funext λ q=>(lD aY q).2
   simp only [x1,bF]
   exact ajs G (l:=B.map ak) (L:=(aA M B).map aj) (by omega) k o (decide_eq_false e)
 by_cases aY:A=[]
 have y:ia M A aG = .aq:=(pT aY _).1
 have z:h9 M A aG=[([2],bV),([4],bV)]:=(pT aY _).2
 have x1:∀ q,ia M A q = .aq := λ q=>(pT aY q).1
 have bF:h9 M A = λ q=>[(q.b,bV),(q.d,bV)]:=funext λ q=>(pT aY q).2
 by_cases g:ie=[]
 have ir:∀ q,ia M ie q = .aq := λ q=>(pT g q).1
 have p:h9 M ie = λ q=>[(q.b,bV),(q.d,bV)]:=funext λ q=>(pT g q).2
 simp only [x1,bF,ir,p]
 refine ajl G (by omega) (by omega) u (λ k q=>(13,ia M (f k) q)::ly M P c i k q) (λ k=>h9 M (f k)) (by simp only [t,y]) (by simp only [t,z]) I ?_
 simp only [J,ir,p]
 exact ajp G
 have ir:∀ q,ia M ie q = .ai q.c 1 0 ((aA M ie).map aj).length false := λ q=>(lD g q).1
 have p:h9 M ie = λ q=>[(q.a,⟨ie.map ak,1,false⟩),(q.b,dh (.ai q.a 1 0 (ie.map ak).length false) .aq .aq .aq .aq),(q.c,⟨(aA M ie).map aj,1,false⟩),(q.d,bV)]:=funext λ q=>(lD g q).2
 simp only [x1,bF,ir,p]
 refine ajm G (l':=ie.map ak) (L':=(aA M ie).map aj) (by omega) (by omega) u (λ k q=>(13,ia M (f k) q)::ly M P c i k q) (λ k=>h9 M (f k)) (by simp only [t,y]) (by simp only [t,z]) I ?_
 simp only [J,ir,p]
 exact UK G
 have g:ie≠[]:=by rw [v];split<;>simp [aY]
 have y:ia M A aG = .ai [3] 1 0 ((aA M A).map aj).length false:=(lD aY _).1
 have z:h9 M A aG=[([1],⟨A.map ak,1,false⟩),([2],dh (.ai [1] 1 0 (A.map ak).length false) .aq .aq .aq .aq),([3],⟨(aA M A).map aj,1,false⟩),([4],bV)]:=(lD aY _).2
 have x1:∀ q,ia M A q = .ai q.c 1 0 ((aA M A).map aj).length false := λ q=>(lD aY q).1
 have bF:h9 M A = λ q=>[(q.a,⟨A.map ak,1,false⟩),(q.b,dh (.ai q.a 1 0 (A.map ak).length false) .aq .aq .aq .aq),(q.c,⟨(aA M A).map aj,1,false⟩),(q.d,bV)]:=funext λ q=>(lD aY q).2
 have ir:∀ q,ia M ie q = .ai q.c 1 0 ((aA M ie).map aj).length false := λ q=>(lD g q).1
 have p:h9 M ie = λ q=>[(q.a,⟨ie.map ak,1,false⟩),(q.b,dh (.ai q.a 1 0 (ie.map ak).length false) .aq .aq .aq .aq),(q.c,⟨(aA M ie).map aj,1,false⟩),(q.d,bV)]:=funext λ q=>(lD g q).2
 simp only [x1,bF,ir,p]
 refine ajn G (l:=A.map ak) (L:=(aA M A).map aj) (l':=ie.map ak) (L':=(aA M ie).map aj) (by omega) (by omega) u (λ k q=>(13,ia M (f k) q)::ly M P c i k q) (λ k=>h9 M (f k)) (by simp only [t,y]) (by simp only [t,z]) I ?_
 simp only [J,ir,p]
 exact UK G
def aaJ {P A:List Nat} {c:Nat}:a2 ab G (aU (ao 15) 1) (ao 15).aK (a5 2) (.exit 2) (λ q=>(13,ia M A q)::j4 M P c M.length q) (h9 M A) (λ q=>(13,az (aA M A))::[(12, .ref q.b 0 0),(6, .ref q.d 0 0),(0,az M),(1,ak c)]) (λ q=>[(q.b,dh (bW A) .aq .aq .aq .aq),(q.d,bV)]):=by
 by_cases aY:A=[]
 have x1:∀ q,ia M A q = .aq := λ q=>(pT aY q).1
 have bF:h9 M A = λ q=>[(q.b,bV),(q.d,bV)]:=funext λ q=>(pT aY q).2
 simp only [x1,bF]
 subst aY
 exact (ajj G).gV λ q m g=>bz.adU g nM
 have x1:∀ q,ia M A q = .ai q.c 1 0 ((aA M A).map aj).length false := λ q=>(lD aY q).1
 have bF:h9 M A = λ q=>[(q.a,⟨A.map ak,1,false⟩),(q.b,dh (.ai q.a 1 0 (A.map ak).length false) .aq .aq .aq .aq),(q.c,⟨(aA M A).map aj,1,false⟩),(q.d,bV)]:=funext λ q=>(lD aY q).2
 simp only [x1,bF]
 exact (ajk G (l:=A.map ak) (L:=(aA M A).map aj)).gV λ q m g=>bz.adT g (λ e f=>by obtain ⟨x,_,rfl⟩:=bn.1 f;infer_instance) (λ e f=>by obtain ⟨x,_,rfl⟩:=bn.1 f;infer_instance) nM
include F in
theorem ajx (hm:bw K n w M) (w0:0<w) (gy:M.length<=4000) (ca:w<=4000) {j:Nat} (hj:M.length<=j \/ w<=j) (hB:bO K q (grow K j n)) (c bf:Nat) (qu:bf<M.length) (i:Nat) (hi:i<M.length) :
   a2 ab G (aU (ao 15) 0) (ao 15).aK (a5 0) .normal (fun q=>(7,bq q.a 1 ((gJ M (ez M.length bf) i).map ak))::(8,j3 (aA M (gJ M (ez M.length bf) i)))::[(6, .ref q.c 0 0),(0,az M),(1,ak c),(2,ak bf),(9,ak i)]) (fun q=>a8 q.a 1 ((gJ M (ez M.length bf) i).map ak)++[(q.c,bV)]) (fun q=>(7,bq q.a 1 ((gJ M (ez M.length bf) (i+1)).map ak))::(8,j3 (aA M (gJ M (ez M.length bf) (i+1))))::[(6, .ref q.c 0 0),(0,az M),(1,ak c),(2,ak bf),(9,ak (i+1))]) (fun q=>a8 q.a 1 ((gJ M (ez M.length bf) (i+1)).map ak)++[(q.c,bV)]):=by
 have el:(ez M.length bf).length=M.length:=by unfold ez;rw [aM,dZ]
 have g7:i<(ez M.length bf).length:=by rw [el];exact hi
 have hC:=Ve M hm (ord:=ez M.length bf) zJ i
 have fA:=Vd M (ez M.length bf) i
 have adb:(ez M.length bf)[i]=(bf+i)%M.length:=by unfold ez;rw [List.getElem_map,p9]
 have hx:(bf+i)%M.length<M.length:=bC _ (by omega)
 rw [Vf M g7,adb,U4]
 generalize gJ M (ez M.length bf) i=C at *
 have Ce:(bI (aA M (C++[(bf+i)%M.length]))).2.length<=j:=by
   refine zZ (hm.sub fun k hk=>(en.1 hk).elim (hC k) fun h=>by rw [bJ.1 h];exact hx) ?_
   rcases hj with h | h
   . left;rw [aM,cd,kG];omega
   . exact .inr h
 by_cases hr:(bI (aA M (C++[(bf+i)%M.length]))).2.length=C.length+1
 . rw [if_pos hr]
   have qV:j3 (aA M (C++[(bf+i)%M.length]))=az (aA M (C++[(bf+i)%M.length])):=zD (by rw [pa M C hx];simp)
   rw [qV,dU,ic]
   by_cases e:C=[]
   . have x1:∀ p,bq p 1 (C.map ak) = .aq:=fun p=>by rw [e];rfl
     have bF:∀ p,a8 p 1 (C.map ak)=[]:=fun p=>by rw [e];rfl
     have ib:∀ p,bq p 1 (C.map ak++[ak ((bf+i)%M.length)]) = .ai p 1 0 1 false:=fun p=>by rw [e];exact dA (by simp)
     have qU:∀ p,a8 p 1 (C.map ak++[ak ((bf+i)%M.length)])=[(p,⟨[ak ((bf+i)%M.length)],1,false⟩)]:=fun p=>by rw [e];exact dx (by simp)
     have mN:j3 (aA M C) = .aq:=by rw [e];rfl
     simp only [x1,bF,ib,qU,mN,jy,pk]
     exact ajU G F c bf C e hm w0 gy ca (by omega) i hi qu hC Ce hB hr
   . have hne:C.map ak≠[]:=fun h=>e (eN.1 h)
     have ib:∀ p,bq p 1 (C.map ak++[ak ((bf+i)%M.length)]) = .ai p 1 0 ((C.map ak).length+1) false:=fun p=>by rw [dA (by simp),cd];rfl
     have qU:∀ p,a8 p 1 (C.map ak++[ak ((bf+i)%M.length)])=[(p,⟨C.map ak++[ak ((bf+i)%M.length)],1,false⟩)]:=fun p=>dx (by simp)
     have mN:j3 (aA M C)=az (aA M C):=zD fun h=>e (eN.1 h)
     simp only [ib,qU,mN,dA hne,dx hne,pk]
     exact ajV G F c bf C e hm w0 gy ca (by omega) i hi qu hC Ce hB hr
 . rw [if_neg hr]
   by_cases e:C=[]
   . have x1:∀ p,bq p 1 (C.map ak) = .aq:=fun p=>by rw [e];rfl
     have bF:∀ p,a8 p 1 (C.map ak)=[]:=fun p=>by rw [e];rfl
     have mN:j3 (aA M C) = .aq:=by rw [e];rfl
     simp only [x1,bF,mN,jy]
     exact ajQ G F c bf C e hm w0 gy ca (by omega) i hi qu hC Ce hB hr
   . have hne:C.map ak≠[]:=fun h=>e (eN.1 h)
     have mN:j3 (aA M C)=az (aA M C):=zD fun h=>e (eN.1 h)
     simp only [mN,dA hne,dx hne,pk]
     exact ajR G F c bf C e hm w0 gy ca (by omega) i hi qu hC Ce hB hr
def ajw {c bf:Nat} {l:List Nat} {S:aa} [bg S]:a2 ab G (aU (ao 15) 0) (ao 15).aK (a5 0) (.exit 0) (λ q=>(7,bq q.a 1 (l.map ak))::(8,S)::[(6, .ref q.c 0 0),(0,az M),(1,ak c),(2,ak bf),(9,ak M.length)]) (λ q=>a8 q.a 1 (l.map ak)++[(q.c,bV)]) (λ q=>(7,bW l)::[(6, .ref q.c 0 0),(0,az M),(1,ak c)]) (λ q=>[(q.c,bV)]) :=
 (kT (A := λ q=>(8,S)::[(6, .ref q.c 0 0),(0,az M),(1,ak c),(2,ak bf),(9,ak M.length)]) (B := λ q=>[(6, .ref q.c 0 0),(0,az M),(1,ak c)]) (bZ := λ q=>[(q.c,bV)]) (ct := λ q=>[(q.c,bV)]) aG [cx 33 aj M]).wK (λ e d=>by obtain ⟨x,_,rfl⟩:=bn.1 d;infer_instance) (λ m q g x f=>by rw [bJ.1 f];exact ⟨Ne.symm g.ne.2.1,nM⟩)
include F in
theorem ahX {c first:Nat} (hm:bw K n w M) (w0:0<w) (gy:M.length<=4000) (ca:w<=4000) (fA:c<=4000) (f9:first<256) {j:Nat} (hj:M.length<=j \/ w<=j) (hB:bO K q (grow K j n)):ag ab G 15 [az M,ak c,ak first] (gl (mr M c first)):=by
 by_cases bo:M=[]
 . subst bo
   have ce:=TS G F (c:=c) hm w0 gy ca fA hj hB
   have e:mr [] c first=g3 [] c:=rfl
   rw [e]
   exact bB [hc ce] (by kernel_rfl)
 . rw [C0 bo]
   have zr:=hO.2 bo
   have qu:first%M.length<M.length:=bC _ zr
   have Sk:(((M.map aj).length:Int)==0)=false:=by rw [aM];exact beq_eq_false_iff_ne.2 (by omega)
   have el:(ez M.length (first%M.length)).length=M.length:=by unfold ez;rw [aM,dZ]
   have db:=fun i hi=>ajx G F hm w0 gy ca hj hB c (first%M.length) qu i hi
   have SJ:eH .rem .int (ak first) (.int .i64 ((M.map aj).length:Nat))=some (ak (first%M.length)):=by rw [De (by rw [aM];exact zr),aM]
   generalize hf:first%M.length=bf at *
   have oJ:=r5 hm (ord:=ez M.length bf) zJ
   have LF:=HO M (ajA qu)
   have aj3:gJ M (ez M.length bf) M.length=cW M (ez M.length bf):=by have:=Vc M (ez M.length bf);rwa [el] at this
   have pP:(cW M (ez M.length bf)).length<=M.length:=by
     have:=rh (S:=ba M.length) LF fun x hx=>cR.2 (oJ.1 x hx)
     rwa [dZ] at this
   have tx:=ajw G (M:=M) (c:=c) (bf:=bf) (l:=cW M (ez M.length bf)) (S:=j3 (aA M (cW M (ez M.length bf))))
   have Tu:a2 ab G (aU (ao 15) 0) (ao 15).aK (a5 0) (.exit 0) (fun q=>(7,bq q.a 1 ((gJ M (ez M.length bf) M.length).map ak))::(8,j3 (aA M (gJ M (ez M.length bf) M.length)))::[(6, .ref q.c 0 0),(0,az M),(1,ak c),(2,ak bf),(9,ak M.length)]) (fun q=>a8 q.a 1 ((gJ M (ez M.length bf) M.length).map ak)++[(q.c,bV)]) (fun q=>(7,bW (cW M (ez M.length bf)))::[(6, .ref q.c 0 0),(0,az M),(1,ak c)]) (fun q=>[(q.c,bV)]):=by rw [aj3];exact tx
   clear tx
   generalize cW M (ez M.length bf)=P at *
   have hA:∀ k∈cE P M.length,k<M.length:=aaK
   have Sm:(cE P M.length).Nodup:=sQ.filter _
   have ael:(cE P M.length).length<=w:=bs (rh (S:=P) Sm fun x hx=>pq.1 (kA.1 hx).2) oJ.2
   have aau:=Qg P M.length
   have arb:(aA M (cE P M.length)).length=(cE P M.length).length:=aM ..
   have hs:bw K n w (aA M (cE P M.length)):=hm.sub hA
   have ce:=TS G F (M:=aA M (cE P M.length)) (c:=c) hs w0 (by omega) ca fA (j:=j) (by omega) hB
   have UN:=Mi G (l:=cE P M.length) (n:=M.length) (by omega) (by omega)
   have afw:∀ k∈hZ (cE P M.length) M.length,k<M.length/\k ∉ cE P M.length:=fun k hk=>by
     obtain ⟨h1,h2⟩:=kA.1 hk
     refine ⟨cR.1 h1,fun h => ?_⟩
     rw [pq.2 h] at h2
     cases h2
   have lR:(hZ (cE P M.length) M.length).length<=M.length:=by
     have:=vU (fun i => !(cE P M.length).contains i) (ba M.length)
     rwa [dZ] at this
   have amV:=fun (hne:cE P M.length≠[]) {i:Nat} (hi:i<M.length) (hn:i ∉ cE P M.length)=>QD G F hm w0 gy ca hj hB hA Sm ael hne hi hn
   have j7:=fun (hne:aA M (cE P M.length)≠[])=>Mm G hne (fun x hx=>(hs x hx).1) (by omega) (show w<=9000 by omega)
   have hY:=fun i (hi:i<M.length)=>aaN G LF (c:=c) gy (by omega) hi (A:=cE P i) (ie:=cE P (i+1)) (by have:=Qg P i;omega) (by
     cases h:P.contains i with
     | true=>rw [aaM h];rfl
     | false=>rw [aaL h];rfl)
   have L4:=aaJ G (M:=M) (P:=P) (A:=cE P M.length) (c:=c)
   unfold gl at ce
   generalize (g3 (aA M (cE P M.length)) c).bt=oD at *
   generalize (g3 (aA M (cE P M.length)) c).inv=oF at *
   generalize (g3 (aA M (cE P M.length)) c).bh=nN at *
   generalize (g3 (aA M (cE P M.length)) c).rows=m2 at *
   generalize (g3 (aA M (cE P M.length)) c).cj=aqL at *
   by_cases hne:cE P M.length=[]
   . have RA : aA M (cE P M.length)=[]:=by rw [hne];rfl
     have RB:∀ i,i<=(hZ (cE P M.length) M.length).length->(((hZ (cE P M.length) M.length).take i).map fun i=>j6 (aA M (cE P M.length)) (M.getD i [])).map aj=bG i (aa.sl 2 []):=fun i hi=>by
       refine ZU.2 ⟨?_,fun b hb => ?_⟩
       . rw [aM,aM,cZ];omega
       . obtain ⟨x,hx,rfl⟩:=bn.1 hb
         obtain ⟨k,_,rfl⟩:=bn.1 hx
         rw [RA];rfl
     have BK:az ((hZ (cE P M.length) M.length).map fun i=>j6 (aA M (cE P M.length)) (M.getD i [])) = .sl 1 (bG (hZ (cE P M.length) M.length).length (aa.sl 2 [])):=by
       have:=RB _ (a4 _)
       rw [gn] at this
       unfold az;rw [this]
     rw [BK]
     haveI:bg (aa.sl 1 (bG (hZ (cE P M.length) M.length).length (aa.sl 2 []))):=by rw [<- BK];infer_instance
     haveI:br (bG (hZ (cE P M.length) M.length).length (aa.sl 2 [])):=by
       have:=RB _ (a4 _)
       rw [<- this];infer_instance
     rw [RA] at ce L4
     generalize hZ (cE P M.length) M.length=ol at *
     exact bB [hb 22 Sk,ho 29 SJ,ck (ao 15) 0 0 0 M.length ⟨[1],[2],[0,0],[4]⟩ (fun i q=>(7,bq q.a 1 ((gJ M (ez M.length bf) i).map ak))::(8,j3 (aA M (gJ M (ez M.length bf) i)))::[(6, .ref q.c 0 0),(0,az M),(1,ak c),(2,ak bf),(9,ak i)]) (fun i q=>a8 q.a 1 ((gJ M (ez M.length bf) i).map ak)++[(q.c,bV)]) (.exit 0) (fun q=>(7,bW P)::[(6, .ref q.c 0 0),(0,az M),(1,ak c)]) (fun q=>[(q.c,bV)]) db Tu,
       ck (ao 15) 1 2 1 M.length ⟨[1],[2000005,0],[3],[2000002,0]⟩ (fun i q=>(13,ia M (cE P i) q)::j4 M P c i q) (fun i=>h9 M (cE P i)) (.exit 2) (fun q=>(13,az [])::[(12, .ref q.b 0 0),(6, .ref q.d 0 0),(0,az M),(1,ak c)]) (fun q=>[(q.b,dh (bW (cE P M.length)) .aq .aq .aq .aq),(q.d,bV)]) hY L4,
       hc ce,hw 108 (show (((M.map aj).length:Nat):Int)=(M.length:Int) by rw [aM]),hc UN,
       ck (ao 15) 3 0 200000001 ol.length ⟨[1],[400000000000001,0],[400000000000003,0],[4]⟩ (fun i q=>pO M [] ol i q) (fun i q=>lv (cE P M.length) (kP oD) (az oF) (az nN) (bG i aa.aq) q) (.exit 6) (fun q=>[(12, .ref q.b 0 0),(6, .ref q.c 0 0)]) (fun q=>[(q.b,dh (bW (cE P M.length)) (kP oD) (az oF) (.sl 1 (bG ol.length (aa.sl 2 []))) (az nN)),(q.c,bV)])
         (fun i hi=>by
           rw [ZV]
           by_cases h0:i=0
           . subst h0
             exact ai1 G (S:=[]) (by omega) hi
           . exact ai2 G (S:=[]) (L:=bG i aa.aq) (fun h=>h0 (by have:=congrArg List.length h;rwa [nD] at this)) (by rw [nD];omega) (by omega) hi)
         (UA G (c' := .aq) (by rw [nD,nD]) (fun e he=>by rw [jA he];rfl) (fun e he=>by rw [jA he];rfl) (fun F=>Oz F _) (fun c hc=>by
           obtain ⟨x,hx,h⟩:=iK.1 hc
           rw [jA hx] at h
           rw [bJ.1 h]
           exact bg.pure) (fun σ => Oy σ _))] (by kernel_rfl)
   . have oX : aA M (cE P M.length)≠[]:=fun h=>hne (eN.1 h)
     have p0:0<(aA M (cE P M.length)).length:=hO.2 oX
     have amW:=fun {i:Nat}=>amV hne (i:=i)
     have Xq:=j7 oX
     have ac8:(hZ (cE P M.length) M.length).map (fun i=>j6 (aA M (cE P M.length)) (M.getD i []))=((hZ (cE P M.length) M.length).take (hZ (cE P M.length) M.length).length).map (fun i=>j6 (aA M (cE P M.length)) (M.getD i [])):=by rw [gn]
     rw [ac8]
     generalize hZ (cE P M.length) M.length=ol at *
     exact bB [hb 22 Sk,ho 29 SJ,ck (ao 15) 0 0 0 M.length ⟨[1],[2],[0,0],[4]⟩ (fun i q=>(7,bq q.a 1 ((gJ M (ez M.length bf) i).map ak))::(8,j3 (aA M (gJ M (ez M.length bf) i)))::[(6, .ref q.c 0 0),(0,az M),(1,ak c),(2,ak bf),(9,ak i)]) (fun i q=>a8 q.a 1 ((gJ M (ez M.length bf) i).map ak)++[(q.c,bV)]) (.exit 0) (fun q=>(7,bW P)::[(6, .ref q.c 0 0),(0,az M),(1,ak c)]) (fun q=>[(q.c,bV)]) db Tu,
       ck (ao 15) 1 2 1 M.length ⟨[1],[2000005,0],[3],[2000002,0]⟩ (fun i q=>(13,ia M (cE P i) q)::j4 M P c i q) (fun i=>h9 M (cE P i)) (.exit 2) (fun q=>(13,az (aA M (cE P M.length)))::[(12, .ref q.b 0 0),(6, .ref q.d 0 0),(0,az M),(1,ak c)]) (fun q=>[(q.b,dh (bW (cE P M.length)) .aq .aq .aq .aq),(q.d,bV)]) hY L4,
       hc ce,hw 108 (show (((M.map aj).length:Nat):Int)=(M.length:Int) by rw [aM]),hc UN,
       ck (ao 15) 3 0 200000001 ol.length ⟨[1],[400000000000001,0],[400000000000003,0],[4]⟩ (fun i q=>pO M (aA M (cE P M.length)) ol i q) (fun i q=>lv (cE P M.length) (kP oD) (az oF) (az nN) (((ol.take i).map fun i=>j6 (aA M (cE P M.length)) (M.getD i [])).map aj) q) (.exit 6) (fun q=>[(12, .ref q.b 0 0),(6, .ref q.c 0 0)]) (fun q=>[(q.b,dh (bW (cE P M.length)) (kP oD) (az oF) (.sl 1 (((ol.take ol.length).map fun i=>j6 (aA M (cE P M.length)) (M.getD i [])).map aj)) (az nN)),(q.c,bV)])
         (fun i hi=>by
           have hk:=afw _ (bc hi)
           obtain ⟨o,SL⟩:=amW hk.1 hk.2
           rw [iH hi,dU,dU,ic,ic,bj hk.1]
           by_cases hl:(ol.take i).map (fun i=>j6 (aA M (cE P M.length)) (M.getD i []))=[]
           . rw [hl]
             exact ai3 G (by omega) hi p0 hk.1 Xq SL
           . exact ai4 G (L:=(((ol.take i).map fun i=>j6 (aA M (cE P M.length)) (M.getD i [])).map aj)) (fun h=>hl (eN.1 h)) (by rw [aM,aM,cZ];omega) (by omega) hi p0 hk.1 Xq SL)
         (UA G (c' := .aq) rfl (fun e he=>by obtain ⟨x,_,rfl⟩:=bn.1 he;rfl) (fun e he=>by obtain ⟨x,_,rfl⟩:=bn.1 he;rfl) (fun F=>hN F _) (fun c hc=>by
           obtain ⟨x,hx,h⟩:=iK.1 hc
           obtain ⟨y,_,rfl⟩:=bn.1 hx
           rw [bJ.1 h]
           exact bg.pure) (fun σ => jx fun c hc=>by
           obtain ⟨x,hx,h⟩:=iK.1 hc
           obtain ⟨y,_,rfl⟩:=bn.1 hx
           rw [bJ.1 h]
           exact bg.pure))] (by kernel_rfl)
abbrev bU (z:Int):aa := .int .i64 z
def uK (l:List Int) (n:Nat) (i:Nat):Bool:=decide (l.getD i 0<0)||(decide (l.getD i 0≥(n:Int))||(decide (0<i)&&decide (l.getD i 0<=l.getD (i-1) 0)))
def oB (l:List Int) (n:Nat):Bool:=(ba l.length).all λ i => !uK l n i
def iS (M:List (List ar)) (rows:Int) (w:Int):Bool:=(M.all λ r=>decide ((r.length:Int)=w))&&decide ((M.length:Int)=rows)
end
section
variable (G:Nat->Option (List aa))
noncomputable abbrev H2 (l:List Int) (n i:Nat):List (Nat × aa):=[(0, .sl 1 (l.map bU)),(1,ak n),(4, .bool false),(5,ak i)]
noncomputable abbrev I0 (l:List Int) (n i:Nat):List (Nat × aa):=[(0, .sl 1 (l.map bU)),(1,ak n),(4, .bool false),(7, .sl 1 (l.map bU)),(8, .int .i64 ((l.map bU).length:Nat)),(9,ak i)]
def HU {i:Nat} (h:0<i) (a:i<9000):cF.wrap ((i:Int)-1)=((i-1:Nat):Int):=by rw [cM];omega
def yY {i:Nat} {b:Bool} (h:decide (0<i)=b):decide ((i:Int)>0)=b:=by
 rw [<- h]
 by_cases e:0<i
 rw [decide_eq_true e,decide_eq_true (by omega)]
 rw [decide_eq_false e,decide_eq_false (by omega)]
def Nb {l:List Int} {n i:Nat} (a:i<l.length) (g:l.length<=9000) (b:Bool) (h:uK l n i=b):kI ab G (ao 55) 0 0 (match b with | true => .ret | false => .normal) (H2 l n i) (match b with | true=>[(4, .bool false)] | false=>H2 l n (i+1)):=by
 unfold uK at h
 rw [bj a] at h
 cases h1:decide (l[i]<0) with
 | true =>
   rw [h1,vW] at h
   subst h
   exact rd [bm 9 bU a,aQ 14 1 bU a,hb 16 h1]
 | false =>
   rw [h1,mX] at h
   cases c:decide (l[i]≥(n:Int)) with
   | true =>
     rw [c,vW] at h
     subst h
     exact rd [bm 9 bU a,aQ 14 1 bU a,hb 16 h1,aQ 20 1 bU a,hb 23 c]
   | false =>
     rw [c,mX] at h
     cases h3:decide (0<i) with
     | false =>
       rw [h3,nI] at h
       subst h
       exact rd [bm 9 bU a,aQ 14 1 bU a,hb 16 h1,aQ 20 1 bU a,hb 23 c,hb 27 (yY h3),a9 11 i]
     | true =>
       have e:=of_decide_eq_true h3
       have d:i-1<l.length:=by omega
       rw [h3,hP,bj d] at h
       cases b with
       | true=>exact rd [bm 9 bU a,aQ 14 1 bU a,hb 16 h1,aQ 20 1 bU a,hb 23 c,hb 27 (yY h3),aQ 31 1 bU a,hw 35 (HU e (by omega)),aQ 36 1 bU d,hb 38 h]
       | false=>exact rd [bm 9 bU a,aQ 14 1 bU a,hb 16 h1,aQ 20 1 bU a,hb 23 c,hb 27 (yY h3),aQ 31 1 bU a,hw 35 (HU e (by omega)),aQ 36 1 bU d,hb 38 h,a9 11 i]
def Oj {l:List Int} {n i:Nat} (a:i<l.length) (j:l.length<=9000) (b:Bool) (h:uK l n i=b):kI ab G (ao 50) 0 0 (match b with | true => .ret | false => .normal) (I0 l n i) (match b with | true=>[(4, .bool false)] | false=>I0 l n (i+1)):=by
 unfold uK at h
 rw [bj a] at h
 cases h1:decide (l[i]<0) with
 | true =>
   rw [h1,vW] at h
   subst h
   exact rd [bm 10 bU a,aQ 12 1 bU a,hb 15 h1]
 | false =>
   rw [h1,mX] at h
   cases c:decide (l[i]≥(n:Int)) with
   | true =>
     rw [c,vW] at h
     subst h
     exact rd [bm 10 bU a,aQ 12 1 bU a,hb 15 h1,hb 19 c]
   | false =>
     rw [c,mX] at h
     cases h3:decide (0<i) with
     | false =>
       rw [h3,nI] at h
       subst h
       exact rd [bm 10 bU a,aQ 12 1 bU a,hb 15 h1,hb 19 c,hb 23 (yY h3),a9 34 i]
     | true =>
       have f:=of_decide_eq_true h3
       have d:i-1<l.length:=by omega
       rw [h3,hP,bj d] at h
       have e:decide (l[i-1]≥l[i])=b:=h
       cases b with
       | true=>exact rd [bm 10 bU a,aQ 12 1 bU a,hb 15 h1,hb 19 c,hb 23 (yY h3),hw 27 (HU f (by omega)),aQ 28 1 bU d,hb 31 e]
       | false=>exact rd [bm 10 bU a,aQ 12 1 bU a,hb 15 h1,hb 19 c,hb 23 (yY h3),hw 27 (HU f (by omega)),aQ 28 1 bU d,hb 31 e,a9 34 i]
def Vp {l:List Int} {n:Nat} (b:l.length<=9000):ag ab G 55 [kP l,ak n] (.bool (oB l n)):=by
 rcases lh (λ i => !uK l n i) l.length with ⟨e,h⟩ | ⟨e,i,a,d,g⟩
 rw [show oB l n=true from e]
 exact bB [fb (ao 55) 0 0 0 l.length (H2 l n) (.exit 0) [] (λ i a=>Nb G a b false (by have:=h i a;simpa using this)) (rd [cx 9 bU l] )]
 rw [show oB l n=false from e]
 exact bB [fb (ao 55) 0 0 0 i (H2 l n) .ret [(4, .bool false)] (λ j f=>Nb G (show j<l.length by omega) b false (by have:=g j f;simpa using this)) (Nb G a b true (by simpa using d))]
def XK {l:List Int} {n:Nat} (b:l.length<=9000):ag ab G 50 [kP l,ak n] (.bool (oB l n)):=by
 rcases lh (λ i => !uK l n i) l.length with ⟨e,h⟩ | ⟨e,i,a,d,g⟩
 rw [show oB l n=true from e]
 exact bB [fb (ao 50) 0 0 0 l.length (I0 l n) (.exit 0) [] (λ i a=>Oj G a b false (by have:=h i a;simpa using this)) (rd [cx 10 bU l] )]
 rw [show oB l n=false from e]
 exact bB [fb (ao 50) 0 0 0 i (I0 l n) .ret [(4, .bool false)] (λ j f=>Oj G (show j<l.length by omega) b false (by have:=g j f;simpa using this)) (Oj G a b true (by simpa using d))]
noncomputable abbrev Wc (M:List (List ar)) (rows w:Int) (i:Nat):List (Nat × aa):=[(0,az M),(1,bU rows),(2,bU w),(6, .bool false),(7,ak i)]
def Cx {r:List ar} {w:Int} {b:Bool} (h:decide ((r.length:Int)=w)=b):((((r.map aT).length:Nat):Int) != w) = !b:=by
 rw [aM, <- h]
 by_cases e:(r.length:Int)=w
 rw [decide_eq_true e,e];exact bne_self_eq_false _
 rw [decide_eq_false e];exact bne_iff_ne.2 e
def G5 {α : Type} {f : α -> aa} {M:List α} {rows:Int} {b:Bool} (h:decide ((M.length:Int)=rows)=b):((((M.map f).length:Nat):Int)==rows)=b:=by
 rw [aM, <- h]
 by_cases e:(M.length:Int)=rows
 rw [decide_eq_true e,e];exact beq_self_eq_true _
 rw [decide_eq_false e];exact beq_eq_false_iff_ne.2 e
def H0 {M:List (List ar)} {rows w:Int} (o:M.length<=9000):ag ab G 54 [az M,bU rows,bU w] (.bool (iS M rows w)):=by
 have m:(M.all λ r=>decide ((r.length:Int)=w))=(ba M.length).all λ i=>decide (((M.getD i []).length:Int)=w):=by
   rw [vX,eO,eO]
   constructor
   intro h i a
   have:=cR.1 a
   rw [bj this]
   exact h _ (bc _)
   intro h r k
   obtain ⟨i,a,rfl⟩:=fZ.1 k
   have:=h i (cR.2 a)
   rwa [bj a] at this
 unfold iS
 rw [m]
 rcases lh (λ i=>decide (((M.getD i []).length:Int)=w)) M.length with ⟨e,h⟩ | ⟨e,i,a,g,l⟩
 rw [e,hP]
 exact bB [fb (ao 54) 0 0 0 M.length (Wc M rows w) (.exit 0) [(0,az M),(1,bU rows)] (λ i a=>rd [bm 11 aj a,aQ 16 1 aj a,hb 20 (Cx (b:=true) (by have:=h i a;rwa [bj a] at this)),a9 13 i]) (rd [cx 11 aj M] ),hb 24 (G5 (f:=aj) (b:=decide ((M.length:Int)=rows)) rfl)]
 rw [e,nI]
 exact bB [fb (ao 54) 0 0 0 i (Wc M rows w) .ret [(6, .bool false)] (λ j n=>by
   have c:j<M.length:=by omega
   exact rd [bm 11 aj c,aQ 16 1 aj c,hb 20 (Cx (b:=true) (by have:=l j n;rwa [bj c] at this)),a9 13 j]) (rd [bm 11 aj a,aQ 16 1 aj a,hb 20 (Cx (b:=false) (by rwa [bj a] at g))] )]
end
end Go.Proofs.YtpcofcmencgkbaaGreat
namespace Go.aF
section
variable {P:Program} {G:Nat->Option (List aa)}
def LN {f g:FuncId} {A:List aa} {r:aa} (i:Id) (el:aa) (k:Nat) (cs:List aa) [l:br A] [j:br cs] (h:ag P G f (A++[.fn (.func g) [] [.c2 cs 0]]) r) (m:el.cells=cs:=by rfl):aZ P G:=qw [(i,⟨[el],k,false⟩)] (args:=A++[.fn (.func g) [] [.ref i 0 0]]) h (by
 have e:∀ A:List aa,(∀ c∈A,b8 c)->c9 (aL.of [(i,(⟨[el],k,false⟩:aN))]) (A++[.fn (.func g) [] [.ref i 0 0]]) (A++[.fn (.func g) [] [.c2 cs 0]]) := λ A=>by
   induction A with
   | nil =>
     intro _
     subst m
     exact cp (View.fn iv (cp (View.ref (au:=⟨[el],k,false⟩) (by simp [aL.of,List.lookup]) rfl (jx j.pure)) iv)) iv
   | cons a A d=>exact λ b=>cp (View.pure (b a List.mem_cons_self)) (d λ c hc=>b c (List.mem_cons_of_mem _ hc))
 exact e A l.pure)
end
end Go.aF
namespace Go.Proofs.YtpcofcmencgkbaaGreat
section
variable (G:Nat->Option (List aa))
def Um (i:Nat) (b:i<=1000):ag ab G 100 [.int .i64 (i:Int)] (a6 (((i:Nat):Int):Rat)).T:=by
 have h:=Ul G (((i:Nat):Int):Rat) ((amT b).mono )
 exact aO [hc (xp G i (by omega) (by omega)),hc h]
def zx:ag ab G 100 [.int .i64 0] (a6 0).T:=Um G 0 (by decide)
def Hp:ag ab G 100 [.int .i64 1] (a6 1).T:=Um G 1 (by decide)
abbrev Tg (l:List Nat) (n i:Nat):List (Nat × aa):=[(0,bW l),(1,ak n),(6,bW l),(7, .int .i64 ((l.map ak).length:Nat)),(8,ak i)]
def K0 {a b:Nat} {c:Bool} (h:decide (a=b)=c):((b:Int)==(a:Int))=c:=by
 rw [<- h]
 by_cases e:a=b
 subst e;rw [decide_eq_true rfl];exact beq_self_eq_true _
 rw [decide_eq_false e];exact beq_eq_false_iff_ne.2 (by omega)
def tS {l:List Nat} {n:Nat} (m:l.length<=9000):ag ab G 70 [bW l,ak n] (.bool (l.contains n)):=by
 rcases first (λ i=>decide (l.getD i 0=n)) l.length with h1 | ⟨i,a,d,g⟩
 rw [show l.contains n=false from by
   rw [EE,decide_eq_false]
   intro h
   have ⟨i,a,e⟩:=fZ.1 h
   have:=h1 i a
   rw [bj a,decide_eq_true e] at this
   cases this]
 have f:ag ab G 115 [bW l,ak n] (.int .i64 (-1)):=by
   refine bB [fb (ao 115) 0 0 0 l.length (Tg l n) (.exit 0) [] (λ i a => ?_) (rd [cx 9 ak l] )]
   have:=h1 i a
   rw [bj a] at this
   exact rd [bm 9 ak a,aQ 14 1 ak a,hb 16 (K0 this),a9 18 i]
 exact aO [hc f]
 rw [bj a] at d
 rw [show l.contains n=true from by rw [EE,decide_eq_true];rw [<- of_decide_eq_true d];exact bc a]
 have f:ag ab G 115 [bW l,ak n] (ak i):=by
   refine bB [fb (ao 115) 0 0 0 i (Tg l n) .ret [(4,ak i)] (λ j k => ?_) ?_]
   have c:j<l.length:=by omega
   have:=g j k
   rw [bj c] at this
   exact rd [bm 9 ak c,aQ 14 1 ak c,hb 16 (K0 this),a9 18 j]
   exact rd [bm 9 ak a,aQ 14 1 ak a,hb 16 (K0 d)]
 exact aO [hc f,hb 8 (show decide ((i:Int)≥0)=true from decide_eq_true (by omega))]
noncomputable abbrev S4 (M:List (List ar)) (f:aa) (i:Nat):List (Nat × aa):=[(0,az M),(1,f),(6,az M),(7, .int .i64 ((M.map aj).length:Nat)),(8,ak i)]
def XL {M:List (List ar)} {g:Nat} {c:aa} [bg c] {p:Nat->Bool} (r:M.length<=9000) (h:∀ i (d:i<M.length),ag ab G g [aj M[i],c] (.bool (p i))) {b:Bool} (e:(ba M.length).any p=b):ag ab G 98 [az M, .fn (.func g) [] [c]] (.bool b):=by
 subst e
 rcases first p M.length with h1 | ⟨i,d,m,n⟩
 rw [show (ba M.length).any p=false from List.any_eq_false.2 λ x o=>by rw [h1 x (cR.1 o)];decide]
 have l:ag ab G 138 [az M, .fn (.func g) [] [c]] (.int .i64 (-1)):=by
   refine bB [fb (ao 138) 0 0 0 M.length (S4 M (.fn (.func g) [] [c])) (.exit 0) [] (λ i d => ?_) (rd [cx 9 aj M] )]
   have k:=h i d
   rw [h1 i d] at k
   exact rd [bm 9 aj d,aQ 14 1 aj d,hc k,a9 18 i]
 exact aO [hc l]
 rw [show (ba M.length).any p=true from yk.2 ⟨i,cR.2 d,m⟩]
 have l:ag ab G 138 [az M, .fn (.func g) [] [c]] (ak i):=by
   refine bB [fb (ao 138) 0 0 0 i (S4 M (.fn (.func g) [] [c])) .ret [(4,ak i)] (λ j q => ?_) ?_]
   have f:j<M.length:=by omega
   have k:=h j f
   rw [n j q] at k
   exact rd [bm 9 aj f,aQ 14 1 aj f,hc k,a9 18 j]
   have k:=h i d
   rw [m] at k
   exact rd [bm 9 aj d,aQ 14 1 aj d,hc k]
 exact aO [hc l,hb 8 (show decide ((i:Int)≥0)=true from decide_eq_true (by omega))]
def aob (r:List ar) (w:Int):ag ab G 99 [aj r, .c2 [bU w] 0] (.bool (!decide ((r.length:Int)=w))):=by
 cases h:decide ((r.length:Int)=w) with
 | true=>exact aO [hb 7 (Cx h)]
 | false=>exact aO [hb 7 (Cx h)]
def IY {M:List (List ar)} {rows w:Int} (j:M.length<=9000):ag ab G 49 [az M,bU rows,bU w] (.bool (iS M rows w)):=by
 have k:(ba M.length).any (λ i => !decide (((M.getD i []).length:Int)=w)) = !(M.all λ r=>decide ((r.length:Int)=w)):=by
   rw [vX,yk,Bool.not_eq_true',List.all_eq_false]
   constructor
   rintro ⟨i,a,h⟩
   have a:=cR.1 a
   rw [bj a] at h
   exact ⟨_,bc a,by simpa using h⟩
   rintro ⟨r,l,h⟩
   obtain ⟨i,a,rfl⟩:=fZ.1 l
   exact ⟨i,cR.2 a,by rw [bj a];simpa using h⟩
 have b:=XL G (M:=M) (g:=99) (c := .c2 [bU w] 0) (p := λ i => !decide (((M.getD i []).length:Int)=w)) j (λ i a=>by rw [bj a];exact aob G M[i] w) k
 unfold iS
 cases h1:decide ((M.length:Int)=rows) with
 | false =>
   rw [Bool.and_false]
   exact aO [hb 10 (G5 (f:=aj) h1)]
 | true =>
   rw [Pv]
   cases e:(M.all λ r=>decide ((r.length:Int)=w)) with
   | true =>
     rw [e] at b
     exact aO [hb 10 (G5 (f:=aj) h1),LN (A:=[az M]) [0] (bU w) 1 [bU w] b]
   | false =>
     rw [e] at b
     exact aO [hb 10 (G5 (f:=aj) h1),LN (A:=[az M]) [0] (bU w) 1 [bU w] b]
variable {K:cT} {q e r:Nat} (F:gG K q e r) {n m:Nat}
include F
omit F in
theorem akn {a b:List ar} {i:Nat} (ha:i<a.length) (hb:i<b.length):fC (a.take (i+1)) (b.take (i+1))=if (a[i]).b9||(b[i]).b9 then fC (a.take i) (b.take i) else (fC (a.take i) (b.take i)).add ((a[i]).mul (b[i])):=by
 unfold fC
 rw [iH ha,iH hb,List.zip_append (by rw [cZ,cZ];omega),Bb]
 rfl
noncomputable abbrev akk (a b:List ar) (i:Nat) (q:aB):List (Nat × aa):=[(6, .ref q.a 0 0),(4, .ref q.b 0 0),(0,aj a),(1,aj b),(12, .int .i64 ((a.map aT).length:Nat)),(13,ak i)]
noncomputable abbrev C3 (a b:List ar) (i:Nat) (q:aB):List (bT × aN):=[(q.a,⟨[(fC (a.take i) (b.take i)).T],2,false⟩),(q.b,⟨[.agg [.aq, .aq]],2,false⟩)]
def Uo {a:ar} (c:a.G K n) (d:bO K q n):ag ab G 154 [a.T] (.int .i64 (aC.ep a.2.val)):=aiJ G F c d
def an8 {a b:List ar} (h:a.length<=b.length) (C:a.length<=9000) (A:cv K n a) (hb:cv K m b) (h1:bO K q n) (w:bO K q m) (h3:bO K q (lg K a n m)):ag ab G 140 [aj a,aj b] (.aS [(fC (a.take a.length) (b.take a.length)).T, .bool true]):=by
 have g:∀ i,i<=a.length->(fC (a.take i) (b.take i)).G K (lg K a n m) := λ i f=>by
   have:=Vb (K:=K) (n:=n) (m:=m) (a:=a.take i) (b:=b.take i) (λ x t=>A x (gq t)) (λ x t=>hb x (gq t))
   exact this.mono (c6 _ (by rw [cZ];omega))
 refine bB [hc (zx G),ck (ao 140) 0 0 0 a.length ⟨[3,0],[0,0],[3],[4]⟩ (akk a b) (C3 a b) (.exit 0) (λ q=>[(6, .ref q.a 0 0),(4, .ref q.b 0 0)]) (C3 a b a.length) (λ i f => ?_) (aW aG [cx 14 aT a])]
 have d:i<b.length:=by omega
 have v:=A _ (bc f)
 have p:=hb _ (bc d)
 have B:1*(n+m+K.c+1)<=lg K a n m:=c6 _ (by omega)
 have u:=Uo G F v h1
 have z:=Uo G F p w
 have j:=akn f d
 cases k:(a[i]).b9 with
 | true =>
   rw [k,vW,if_pos rfl] at j
   unfold C3
   rw [j]
   exact aW aG [bm 14 aT f,aQ 18 2 aT f,hc u,fh 21 (se k),a9 54 i]
 | false =>
   cases o:(b[i]).b9 with
   | true =>
     rw [o,Bool.or_true,if_pos rfl] at j
     unfold C3
     rw [j]
     exact aW aG [bm 14 aT f,aQ 18 2 aT f,hc u,fh 21 (se k),aQ 25 2 aT d,hc z,fh 28 (se o),a9 54 i]
   | false =>
     rw [k,o,Pu,if_neg Bool.false_ne_true] at j
     have x1:=aiG G F (a:=(a[i]).2) (b:=(b[i]).2) v p h1 w
     have bF:=aiv G F (a:=(fC (a.take i) (b.take i)).2) (b:=((a[i]).mul (b[i])).2) (g i (by omega)) (v.mul p) h3 (show bO K q (n+m+K.c) by unfold bO at *;omega)
     unfold C3
     rw [j]
     exact aW aG [bm 14 aT f,aQ 18 2 aT f,hc u,fh 21 (se k),aQ 25 2 aT d,hc z,fh 28 (se o),aQ 33 2 aT f,aQ 37 2 aT d,hc x1,hc bF,a9 54 i]
def Oh {a b:List ar} {z:ar} {lu:Nat} (h:a.length=b.length) (j:a.length<=9000) (d:cv K n a) (hb:cv K m b) (k:z.G K lu) (h1:bO K q n) (i:bO K q m) (h3:bO K q (lg K a n m)) (h4:bO K q lu):ag ab G 101 [aj a,aj b,z.T] (.bool (eh (fC a b) z)):=by
 have p:=an8 G F (Nat.le_of_eq h) j d hb h1 i h3
 rw [gn,h,gn] at p
 have g:=Vb d hb
 exact aO [hc p,hc (Uj G F (c:=eh (fC a b) z) g k h3 h4 m5)]
omit F in
noncomputable abbrev aop (M:List (List ar)) (l:List Nat) (k i:Nat):List (Nat × aa):=[(0,az M),(1,bW l),(2,ak k),(10,bW l),(11, .int .i64 ((l.map ak).length:Nat)),(12,ak i)]
omit F in
theorem XM {M:List (List ar)} {l:List Nat} {k:Nat} (hl:∀ i∈l,i<M.length) (bo:∀ r∈M,k<r.length) (gy:l.length<=9000):ag ab G 102 [az M,bW l,ak k] (aj (lf M l k)):=by
 refine bB [tB (ao 102) 0 0 0 l.length 2 48 25 7 (fun i=>((M.getD (l.getD i 0) []).getD k (a6 0)).T) ((lf M l k).map aT) (aop M l k) (.exit 0) [] (by decide) (fun i hi => ?_) (tO [cx 13 ak l] (by kernel_rfl) (by intros;kernel_rfl)) ?_] (by kernel_rfl)
 . have hx:=hl _ (bc hi)
   have hk:=bo _ (bc hx)
   rw [bj hi,bj hx,bj hk]
   exact ru 12 13 (fun x=>[bm 13 ak hi,aQ 14 1 ak hi,aQ 19 1 aj hx,aQ 22 2 aT hk]++x++[a9 26 i]) (by kernel_rfl) (by intros;kernel_rfl)
 . unfold lf
   rw [mU, <- Dh (f:=aT ∘ fun i=>(M.getD i []).getD k (a6 0)) (d:=0)]
   rfl
def an7 {M:List (List ar)} {v:List ar} {w:Nat} (t:bw K n w M) (hv:cv K m v) (x:v.length=w) (k:M.length<=9000) (u:w<=9000) (h1:bO K q n) (h:bO K q m) (h3:bO K q (w*(n+m+K.c+1))):ag ab G 104 [az M,aj v] (.bool ((ba M.length).all λ i=>eh (fC (M.getD i []) v) (a6 0))):=by
 have o:∀ i (f:i<M.length),ag ab G 148 [aj M[i], .c2 [aj v] 0] (.bool (!eh (fC (M.getD i []) v) (a6 0))) := λ i f=>by
   have ⟨j,g1⟩:=t _ (bc f)
   have s:=Oh G F (a:=M[i]) (b:=v) (z:=a6 0) (lu:=m) (by omega) (by omega) g1 hv ar.G.zero h1 h (by unfold lg;rw [j];exact h3) h
   rw [bj f]
   exact aO [hc (zx G),hc s]
 have p:(ba M.length).any (λ i => !eh (fC (M.getD i []) v) (a6 0)) = !((ba M.length).all λ i=>eh (fC (M.getD i []) v) (a6 0)):=by
   rw [List.all_eq_not_any_not,Bool.not_not]
 have l:=XL G (M:=M) (g:=148) (c := .c2 [aj v] 0) k o p
 generalize (ba M.length).all (λ i=>eh (fC (M.getD i []) v) (a6 0))=b at *
 cases b<;>exact aO [LN (A:=[az M]) [0] (aj v) 1 [aj v] l]
end
end Go.Proofs.YtpcofcmencgkbaaGreat
namespace Go.aF
def bH (l:List Nat) (i:Nat):List Nat:=(ba i).filter λ i => !l.contains i
def HI {l:List Nat} {i:Nat} (h:l.contains i=true):bH l (i+1)=bH l i:=by
 unfold bH
 rw [ke,pg,EF (by rw [h];decide)]
 simp
def C1 {l:List Nat} {i:Nat} (h:l.contains i=false):bH l (i+1)=bH l i++[i]:=by
 unfold bH
 rw [ke,pg,EG (by rw [h];decide)]
 simp
def ajD (l:List Nat) {i N:Nat} (h:i<=N):∃ t,bH l N=bH l i++t:=by
 induction h with
 | refl=>exact ⟨[],by simp⟩
 | @step N _ a =>
   have ⟨t,e⟩:=a
   cases h:l.contains N with
   | true=>exact ⟨t,by rw [HI h,e]⟩
   | false=>exact ⟨t++[N],by rw [C1 h,e,nC]⟩
def UO {l:List Nat} {i N:Nat} (h:l.contains i=false) (b:i<N):∃ h:(bH l i).length<(bH l N).length,(bH l N)[(bH l i).length]=i:=by
 have ⟨t,e⟩:=ajD l (show i+1<=N from b)
 rw [C1 h] at e
 have a:(bH l i).length<(bH l N).length:=by rw [e];simp
 refine ⟨a, ?_⟩
 simp only [e]
 rw [List.getElem_append_left (by simp),List.getElem_append_right (a4 _)]
 simp
def xl {l:List Nat} {N k:Nat}:k∈bH l N↔k<N/\k ∉ l:=by
 unfold bH
 rw [kA,cR]
 simp
def UQ (l:List Nat) (N:Nat):(bH l N).Nodup:=sQ.filter _
def HH {l:List Nat} {N:Nat} (g:l.Nodup) (f:∀ k∈l,k<N):(bH l N).length+l.length=N:=by
 have h1:(bH l N++l).Nodup:=List.nodup_append.2 ⟨UQ l N,g, λ a j b hb e=>(xl.1 j).2 (e▸hb)⟩
 have d:=rh (S:=ba N) h1 λ x c=>cR.2 ((en.1 c).elim (λ h=>(xl.1 h).1) (f x))
 have i:=rh (S:=bH l N++l) (sQ (n:=N)) λ x c=>by
   by_cases e:x∈l
   exact List.mem_append_right _ e
   exact List.mem_append_left _ (xl.2 ⟨cR.1 c,e⟩)
 rw [cd,dZ] at d i
 omega
def Fm (l:List Nat) (f:Nat->Nat->Bool):∀ N,((ba N).all λ i=>l.contains i||f i (bH l i).length)=((ba (bH l N).length).all λ j=>f ((bH l N).getD j 0) j)
 | 0=>rfl
 | N + 1=>by
   rw [ke,ZX,Fm l f N]
   cases h:l.contains N with
   | true =>
     rw [HI h]
     simp only [ZY,List.all_nil,Pv,h,vW]
   | false =>
     rw [C1 h,cd,kG,ke,ZX]
     simp only [ZY,List.all_nil,Pv,h,mX]
     have d:(bH l N++[N]).getD (bH l N).length 0=N:=by
       rw [dJ,List.getElem?_append_right (a4 _),Nat.sub_self]
       rfl
     rw [d]
     congr 1
     rw [vX,eO,eO]
     have c:∀ j,j<(bH l N).length->(bH l N++[N]).getD j 0=(bH l N).getD j 0 := λ j a=>by
       rw [dJ,dJ,List.getElem?_append_left a]
     constructor
     intro b j a
     rw [c j (cR.1 a)]
     exact b j a
     intro b j a
     have:=b j a
     rwa [c j (cR.1 a)] at this
end Go.aF
