/- For the claim of VerifierRank: parts XU8, XU9, LPA, XUA, XUB, XUC, XUD, LPB, XUE, XUF, XUG. -/
import Derived.Test.YtpcofcmencgkbaaGreatC11
import Derived.Test.YtpcofcmencgkbaaGreatC06
set_option linter.defProp false
set_option linter.unusedSectionVars false
set_option linter.unusedSimpArgs false
set_option linter.unusedVariables false
set_option maxRecDepth 100000
open Bool renaming and_eq_true->hJ,eq_iff_iff->vX,false_and->nI,false_ne_true->yj,false_or->mX,or_eq_false_iff->po,true_and->hP
open Go.IntKind renaming i64->cF,wrap_i64->cM
open Go.Proofs.Tryz renaming prog->ab
open Go.aF renaming Id->bT
open Go.aF.yp renaming same->rb
open Go.aF.aB renaming s->aG
open Go.aF.ar renaming T->aT,rat->a6
open Go.aF.aL renaming of->bk
open Go.aF.View renaming aq->fi,pure->jw
open Go.aF.c9 renaming cons->cp,nil->iv
open Go.aF.hX renaming view->l4
open Go.aF.eU renaming same->hN
open Int renaming ofNat->vL,toNat->nJ
open List renaming all_eq_true->eO,append_nil->k5,drop_zero->iZ,eq_nil_of_length_eq_zero->sP,eq_of_mem_replicate->jA,getElem?_append_right->kh,getElem?_eq_getElem->du,getElem?_map->iI,getElem_append_right->Z0,getElem_map->k8,getElem_mem->bc,getElem_range->p9,length_append->cd,length_cons->e6,length_map->aM,length_nil->jB,length_pos_iff->hO,length_range->dZ,length_replicate->nD,length_take->cZ,lookup->cD,map_append->dU,map_eq_nil_iff->eN,map_singleton->ic,mem_append->en,mem_cons->cr,mem_cons_of_mem->c5,mem_cons_self->cS,mem_iff_getElem->fZ,mem_map->bn,mem_range->cR,mem_singleton->bJ,nodup_nil->gm,not_mem_nil->cX,range->ba,range_succ->ke,replicate->bG,replicate_succ->yl,take_length->gn,take_of_length_le->hM,take_succ_eq_append_getElem->iH
open Nat renaming div_add_mod->hL,div_le_self->ja,div_mul_le_self->ZZ,le_refl->a4,lt_trichotomy->ub,mul_le_mul->lH,mul_le_mul_right->c6,succ_mul->jN,zero_mul->re
open Ne renaming symm->c3
set_option maxHeartbeats 4000000
open Go.aF Go.Proofs Go.Lib
namespace Go.Proofs.YtpcofcmencgkbaaGreat
structure bP where
 M:List (List ar)
 w:Nat
 R:List Nat
 C:List Nat
 inv:List (List ar)
 cj:List (List ar)
 bh:List (List ar)
structure bP.uB (K:cT) (q nm eG:Nat) (c:bP):Prop where
 gi:c.M.length<=4000
 ca:c.w<=4000
 hm:bw K nm c.w c.M
 db:∀ i∈c.R,i<c.M.length
 hC:∀ k∈c.C,k<c.w
 lc:c.C.length=c.R.length
 oX:c.R.Nodup
 xb:c.C.Nodup
 hi:bw K eG c.R.length c.inv
 li:c.inv.length=c.R.length
 oO:bw K eG c.R.length c.cj
 lcm:c.cj.length+c.R.length=c.M.length
 hk:bw K eG c.w c.bh
 lk:c.bh.length+c.R.length=c.w
 qj:bO K q nm
 gg:bO K q eG
 oC:bO K q (c.R.length*(eG+nm+K.c+1))
 lL:bO K q (c.w*(nm+eG+K.c+1))
abbrev bP.blk (c:bP):aN:=dh (bW c.R) (bW c.C) (az c.inv) (az c.cj) (az c.bh)
noncomputable def g4 (i k:Nat):ar:=if i=k then a6 1 else a6 0
noncomputable def bP.oF (c:bP) (i k:Nat):Bool:=eh (fC (c.inv.getD i []) (lf c.M c.R (c.C.getD k 0))) (g4 i k)
noncomputable def bP.oC (c:bP) (i:Nat):Bool:=(ba c.C.length).all λ k=>c.oF i k
noncomputable def bP.su (c:bP):Bool:=(ba c.inv.length).all λ i=>c.oC i
noncomputable def bP.oD (c:bP) (i j k:Nat):Bool:=eh (fC (c.cj.getD j []) (lf c.M c.R k)) ((c.M.getD i []).getD k (a6 0))
noncomputable def bP.gg (c:bP) (i j:Nat):Bool:=(ba c.w).all λ k=>c.oD i j k
noncomputable def bP.tR (c:bP):Bool:=(ba c.M.length).all λ i=>c.R.contains i||c.gg i (bH c.R i).length
noncomputable def bP.nN (c:bP) (k n j:Nat):Bool:=c.C.contains j||eh ((c.bh.getD n []).getD j (a6 0)) (g4 j k)
noncomputable def bP.lL (c:bP) (k n:Nat):Bool:=(ba c.w).all λ j=>c.nN k n j
noncomputable def bP.r4 (c:bP) (n:Nat):Bool:=(ba c.M.length).all λ i=>eh (fC (c.M.getD i []) (c.bh.getD n [])) (a6 0)
noncomputable def bP.sv (c:bP):Bool:=(ba c.w).all λ k=>c.C.contains k||(c.lL k (bH c.C k).length&&c.r4 (bH c.C k).length)
def bP.uB.cL {K:cT} {q nm eG:Nat} {c:bP} (H:c.uB K q nm eG):c.R.length<=4000:=by have:=H.lcm;have:=H.gi;omega
def FI {K:cT} {n i k:Nat}:(g4 i k).G K n:=by unfold g4;split;exact ar.G.one;exact ar.G.zero
section
variable (G:Nat->Option (List aa)) {K:cT} {q e r:Nat} (F:gG K q e r) {nm eG:Nat} {c:bP} (H:c.uB K q nm eG)
include F H
def Tc {i k:Nat} (j:i<c.inv.length) (g:k<c.C.length) {b:Bool} (h:c.oF i k=b):ag ab G 102 [az c.M,bW c.R,ak c.C[k]] (aj (lf c.M c.R c.C[k]))/\ag ab G 101 [aj c.inv[i],aj (lf c.M c.R c.C[k]),(g4 i k).T] (.bool b):=by
 have d:=H.hi _ (bc j)
 have f:=H.hC _ (bc g)
 have m:=H.cL
 have l:(lf c.M c.R c.C[k]).length=c.R.length:=aM ..
 refine ⟨XM G H.db (λ x d=>by rw [(H.hm x d).1];exact f) (by omega), ?_⟩
 rw [<- h]
 unfold bP.oF
 rw [bj j,bj g]
 exact Oh G F (by rw [l];exact d.1) (by omega) d.2 (yJ H.hm c.R _) FI H.gg H.qj (by unfold lg;rw [d.1];exact H.oC) H.gg
def Ta {i j k:Nat} (g:i<c.M.length) (l:j<c.cj.length) (o:k<c.w) {b:Bool} (h:c.oD i j k=b) (d:k<(c.M[i]).length):ag ab G 102 [az c.M,bW c.R,ak k] (aj (lf c.M c.R k))/\ag ab G 101 [aj c.cj[j],aj (lf c.M c.R k),((c.M[i])[k]).T] (.bool b):=by
 have a:=H.oO _ (bc l)
 have m:=H.hm _ (bc g)
 have p:=H.cL
 have n:(lf c.M c.R k).length=c.R.length:=aM ..
 refine ⟨XM G H.db (λ x a=>by rw [(H.hm x a).1];exact o) (by omega), ?_⟩
 rw [<- h]
 unfold bP.oD
 rw [bj g,bj l,bj d]
 exact Oh G F (by rw [n];exact a.1) (by omega) a.2 (yJ H.hm c.R _) (m.2 _ (bc d)) H.gg H.qj (by unfold lg;rw [a.1];exact H.oC) H.qj
def RL {k n j:Nat} (f:n<c.bh.length) (d:j<(c.bh[n]).length) {b:Bool} (h:eh ((c.bh.getD n []).getD j (a6 0)) (g4 j k)=b):ag ab G 103 [((c.bh[n])[j]).T,(g4 j k).T] (.bool b):=by
 have g:=H.hk _ (bc f)
 rw [<- h,bj f,bj d]
 exact Uj G F (g.2 _ (bc d)) (FI (n:=eG)) H.gg H.gg m5
def U9 {n:Nat} (f:n<c.bh.length) {b:Bool} (h:c.r4 n=b):ag ab G 104 [az c.M,aj c.bh[n]] (.bool b):=by
 have d:=H.hk _ (bc f)
 rw [<- h]
 unfold bP.r4
 rw [bj f]
 have g:=H.gi
 have i:=H.ca
 exact an7 G F H.hm d.2 d.1 (by omega) (by omega) H.qj H.gg H.lL
omit F H
noncomputable abbrev Ap (c:bP) (i:Nat) (q:aB):List (Nat × aa):=[(0,az c.M),(3, .ref q.b 0 0),(4, .bool false),(11,az c.inv),(12, .int .i64 ((c.inv.map aj).length:Nat)),(13,ak i)]
noncomputable abbrev DO (c:bP) (i:Nat) (x:List ar) (k:Nat) (q:aB):List (Nat × aa):=[(0,az c.M),(3, .ref q.b 0 0),(4, .bool false),(11,az c.inv),(12, .int .i64 ((c.inv.map aj).length:Nat)),(13,ak i),(5,ak i),(6,aj x),(19,bW c.C),(20, .int .i64 ((c.C.map ak).length:Nat)),(21,ak k)]
include F H in
theorem XV {i k:Nat} (hi:i<c.inv.length) (hk:k<c.C.length) (h:c.oF i k=true):a2 ab G (aU (ao 51) 1) (ao 51).aK (a5 0) .normal (DO c i c.inv[i] k) (fun q=>[(q.b,c.blk)]) (DO c i c.inv[i] (k+1)) (fun q=>[(q.b,c.blk)]):=by
 obtain ⟨x1,bF⟩:=Tc G F H hi hk h
 have cL:=H.cL
 have hY:=H.lc
 have lZ:=zx G
 have ir:=Hp G
 by_cases e:i=k
 . rw [show g4 i k=a6 1 from if_pos e] at bF
   exact aW aG [bm 22 ak hk,aQ 24 1 ak hk,hc lZ,hb 29 (ij (a:=i) (b:=k) (decide_eq_true e)),hc ir,hc x1,hc bF,a9 40 k]
 . rw [show g4 i k=a6 0 from if_neg e] at bF
   exact aW aG [bm 22 ak hk,aQ 24 1 ak hk,hc lZ,hb 29 (ij (a:=i) (b:=k) (decide_eq_false e)),hc x1,hc bF,a9 40 k]
include F H in
theorem aos {i k:Nat} (hi:i<c.inv.length) (hk:k<c.C.length) (h:c.oF i k=false):a2 ab G (aU (ao 51) 1) (ao 51).aK (a5 0) .ret (DO c i c.inv[i] k) (fun q=>[(q.b,c.blk)]) (fun _=>[(4, .bool false)]) (fun _=>[]):=by
 obtain ⟨x1,bF⟩:=Tc G F H hi hk h
 have cL:=H.cL
 have hY:=H.lc
 have lZ:=zx G
 have ir:=Hp G
 by_cases e:i=k
 . rw [show g4 i k=a6 1 from if_pos e] at bF
   exact aW aG [bm 22 ak hk,aQ 24 1 ak hk,hc lZ,hb 29 (ij (a:=i) (b:=k) (decide_eq_true e)),hc ir,hc x1,hc bF]
 . rw [show g4 i k=a6 0 from if_neg e] at bF
   exact aW aG [bm 22 ak hk,aQ 24 1 ak hk,hc lZ,hb 29 (ij (a:=i) (b:=k) (decide_eq_false e)),hc x1,hc bF]
include F H in
theorem XW {i:Nat} (hi:i<c.inv.length) (h:c.oC i=true):a2 ab G (aU (ao 51) 0) (ao 51).aK (a5 2) .normal (Ap c i) (fun q=>[(q.b,c.blk)]) (Ap c (i+1)) (fun q=>[(q.b,c.blk)]):=by
 have h':∀ k,k<c.C.length->c.oF i k=true:=fun k hk=>eO.1 h k (cR.2 hk)
 have cL:=H.cL
 have hY:=H.lc
 have lq:=H.li
 exact aW ⟨[1],[2000001,0],[3],[4]⟩ [bm 14 aj hi,aQ 16 1 aj hi,ck (ao 51) 1 0 0 c.C.length aG (DO c i c.inv[i]) (fun _=>(fun q=>[(q.b,c.blk)])) (.exit 2) (Ap c i) (fun q=>[(q.b,c.blk)]) (fun k hk=>XV G F H hi hk (h' k hk)) (aW aG [cx 22 ak c.C]),a9 41 i]
include F H in
theorem aot {i:Nat} (hi:i<c.inv.length) (h:c.oC i=false):a2 ab G (aU (ao 51) 0) (ao 51).aK (a5 2) .ret (Ap c i) (fun q=>[(q.b,c.blk)]) (fun _=>[(4, .bool false)]) (fun _=>[]):=by
 rcases lh (fun k=>c.oF i k) c.C.length with ⟨e,_⟩ | ⟨_,k,hk,hp,hn⟩
 . rw [show c.oC i=true from e] at h;cases h
 . have cL:=H.cL
   have hY:=H.lc
   have lq:=H.li
   exact aW aG [bm 14 aj hi,aQ 16 1 aj hi,ck (ao 51) 1 0 0 k aG (DO c i c.inv[i]) (fun _=>(fun q=>[(q.b,c.blk)])) .ret (fun _=>[(4, .bool false)]) (fun _=>[]) (fun j hj=>XV G F H hi (by omega) (hn j hj)) (aos G F H hi hk hp)]
include F H in
theorem anZ:ag ab G 51 [az c.M, .agg [bW c.R,bW c.C,az c.inv,az c.cj,az c.bh]] (.bool c.su):=by
 have cL:=H.cL
 have lq:=H.li
 rcases lh (fun i=>c.oC i) c.inv.length with ⟨e,h⟩ | ⟨e,i,hi,hp,hn⟩
 . rw [show c.su=true from e]
   exact bB [ck (ao 51) 0 2 0 c.inv.length ⟨[1],[0,0],[3],[4]⟩ (Ap c) (fun _=>(fun q=>[(q.b,c.blk)])) (.exit 0) (fun _=>[]) (fun _=>[]) (fun i hi=>XW G F H hi (h i hi)) (aW aG [cx 14 aj c.inv])] (by kernel_rfl)
 . rw [show c.su=false from e]
   exact bB [ck (ao 51) 0 2 0 i ⟨[1],[0,0],[3],[4]⟩ (Ap c) (fun _=>(fun q=>[(q.b,c.blk)])) .ret (fun _=>[(4, .bool false)]) (fun _=>[]) (fun j hj=>XW G F H (by omega) (hn j hj)) (aot G F H hi hp)] (by kernel_rfl)
noncomputable abbrev p3 (c:bP) (i:Nat) (q:aB):List (Nat × aa):=[(0,az c.M),(1,ak c.w),(5, .ref q.b 0 0),(6, .bool false),(7,ak (bH c.R i).length),(11,az c.M),(12, .int .i64 ((c.M.map aj).length:Nat)),(13,ak i)]
noncomputable abbrev DL (c:bP) (i j:Nat) (x:List ar) (k:Nat) (q:aB):List (Nat × aa):=[(0,az c.M),(1,ak c.w),(5, .ref q.b 0 0),(6, .bool false),(7,ak j),(11,az c.M),(12, .int .i64 ((c.M.map aj).length:Nat)),(13,ak i),(8,ak i),(9,aj x),(22,ak c.w),(23,ak k)]
include F H in
theorem XR {i j k:Nat} (hi:i<c.M.length) (hj:j<c.cj.length) (hk:k<c.w) (h:c.oD i j k=true):a2 ab G (aU (ao 52) 1) (ao 52).aK (a5 0) .normal (DL c i j c.M[i] k) (fun q=>[(q.b,c.blk)]) (DL c i j c.M[i] (k+1)) (fun q=>[(q.b,c.blk)]):=by
 have eo:k<(c.M[i]).length:=by rw [(H.hm _ (bc hi)).1];exact hk
 obtain ⟨x1,bF⟩:=Ta G F H hi hj hk h eo
 have ca:=H.ca
 exact aW aG [hb 24 (dW hk),aQ 29 1 aj hj,hc x1,aQ 38 2 aT eo,hc bF,a9 42 k]
include F H in
theorem aom {i j k:Nat} (hi:i<c.M.length) (hj:j<c.cj.length) (hk:k<c.w) (h:c.oD i j k=false):a2 ab G (aU (ao 52) 1) (ao 52).aK (a5 0) .ret (DL c i j c.M[i] k) (fun q=>[(q.b,c.blk)]) (fun _=>[(6, .bool false)]) (fun _=>[]):=by
 have eo:k<(c.M[i]).length:=by rw [(H.hm _ (bc hi)).1];exact hk
 obtain ⟨x1,bF⟩:=Ta G F H hi hj hk h eo
 have ca:=H.ca
 exact aW aG [hb 24 (dW hk),aQ 29 1 aj hj,hc x1,aQ 38 2 aT eo,hc bF]
include H in
theorem aor {i:Nat} (hi:i<c.M.length) (h:c.R.contains i=true):a2 ab G (aU (ao 52) 0) (ao 52).aK (a5 2) .normal (p3 c i) (fun q=>[(q.b,c.blk)]) (p3 c (i+1)) (fun q=>[(q.b,c.blk)]):=by
 have gi:=H.gi
 have cL:=H.cL
 have gw:=tS G (l:=c.R) (n:=i) (by omega)
 rw [h] at gw
 unfold p3
 rw [HI h]
 exact aW aG [bm 14 aj hi,aQ 16 1 aj hi,hc gw,a9 45 i]
include F H in
theorem aoo {i:Nat} (hi:i<c.M.length) (h0:c.R.contains i=false) (hj:(bH c.R i).length<c.cj.length) (h:c.gg i (bH c.R i).length=true):a2 ab G (aU (ao 52) 0) (ao 52).aK (a5 2) .normal (p3 c i) (fun q=>[(q.b,c.blk)]) (p3 c (i+1)) (fun q=>[(q.b,c.blk)]):=by
 have h':∀ k,k<c.w->c.oD i (bH c.R i).length k=true:=fun k hk=>eO.1 h k (cR.2 hk)
 have gi:=H.gi
 have ca:=H.ca
 have cL:=H.cL
 have ara:=H.lcm
 have gw:=tS G (l:=c.R) (n:=i) (by omega)
 rw [h0] at gw
 have e1:(bH c.R (i+1)).length=(bH c.R i).length+1:=by rw [C1 h0,cd];rfl
 unfold p3
 rw [e1]
 generalize (bH c.R i).length=j at *
 exact aW ⟨[1],[2000001,0],[3],[4]⟩ [bm 14 aj hi,aQ 16 1 aj hi,hc gw,ck (ao 52) 1 0 0 c.w aG (DL c i j c.M[i]) (fun _=>(fun q=>[(q.b,c.blk)])) (.exit 2) (fun q=>[(0,az c.M),(1,ak c.w),(5, .ref q.b 0 0),(6, .bool false),(7,ak j),(11,az c.M),(12, .int .i64 ((c.M.map aj).length:Nat)),(13,ak i)]) (fun q=>[(q.b,c.blk)]) (fun k hk=>XR G F H hi hj hk (h' k hk)) (aW aG [hb 24 (kM (a4 c.w))]),a9 44 j,a9 45 i]
include F H in
theorem aon {i:Nat} (hi:i<c.M.length) (h0:c.R.contains i=false) (hj:(bH c.R i).length<c.cj.length) (h:c.gg i (bH c.R i).length=false):a2 ab G (aU (ao 52) 0) (ao 52).aK (a5 2) .ret (p3 c i) (fun q=>[(q.b,c.blk)]) (fun _=>[(6, .bool false)]) (fun _=>[]):=by
 rcases lh (fun k=>c.oD i (bH c.R i).length k) c.w with ⟨e,_⟩ | ⟨_,k,hk,hp,hn⟩
 . rw [show c.gg i (bH c.R i).length=true from e] at h;cases h
 . have gi:=H.gi
   have ca:=H.ca
   have cL:=H.cL
   have gw:=tS G (l:=c.R) (n:=i) (by omega)
   rw [h0] at gw
   unfold p3
   generalize (bH c.R i).length=j at *
   exact aW aG [bm 14 aj hi,aQ 16 1 aj hi,hc gw,ck (ao 52) 1 0 0 k aG (DL c i j c.M[i]) (fun _=>(fun q=>[(q.b,c.blk)])) .ret (fun _=>[(6, .bool false)]) (fun _=>[]) (fun l hl=>XR G F H hi hj (by omega) (hn l hl)) (aom G F H hi hj hk hp)]
omit F in
include H in
theorem Uv {i:Nat} (hi:i<c.M.length) (h0:c.R.contains i=false):(bH c.R i).length<c.cj.length:=by
 obtain ⟨h,_⟩:=UO h0 hi
 have:=HH H.oX H.db
 have:=H.lcm
 omega
include F H in
theorem anT:ag ab G 52 [az c.M,ak c.w, .agg [bW c.R,bW c.C,az c.inv,az c.cj,az c.bh]] (.bool c.tR):=by
 have gi:=H.gi
 have Di:∀ i,i<c.M.length->(c.R.contains i||c.gg i (bH c.R i).length)=true->a2 ab G (aU (ao 52) 0) (ao 52).aK (a5 2) .normal (p3 c i) (fun q=>[(q.b,c.blk)]) (p3 c (i+1)) (fun q=>[(q.b,c.blk)]):=fun i hi h=>by
   cases h0:c.R.contains i with
   | true=>exact aor G H hi h0
   | false =>
     rw [h0,mX] at h
     exact aoo G F H hi h0 (Uv H hi h0) h
 rcases lh (fun i=>c.R.contains i||c.gg i (bH c.R i).length) c.M.length with ⟨e,h⟩ | ⟨e,i,hi,hp,hn⟩
 . rw [show c.tR=true from e]
   exact bB [ck (ao 52) 0 2 0 c.M.length ⟨[1],[0,0],[3],[4]⟩ (p3 c) (fun _=>(fun q=>[(q.b,c.blk)])) (.exit 0) (fun _=>[]) (fun _=>[]) (fun i hi=>Di i hi (h i hi)) (aW aG [cx 14 aj c.M])] (by kernel_rfl)
 . rw [show c.tR=false from e]
   obtain ⟨h0,h1⟩:=po.1 hp
   exact bB [ck (ao 52) 0 2 0 i ⟨[1],[0,0],[3],[4]⟩ (p3 c) (fun _=>(fun q=>[(q.b,c.blk)])) .ret (fun _=>[(6, .bool false)]) (fun _=>[]) (fun j hj=>Di j (by omega) (hn j hj)) (aon G F H hi h0 (Uv H hi h0) h1)] (by kernel_rfl)
noncomputable abbrev qQ (c:bP) (k n:Nat) (q:aB):List (Nat × aa):=[(0,az c.M),(1,ak c.w),(5, .ref q.b 0 0),(6, .bool false),(7,ak n),(12,ak c.w),(13,ak k)]
noncomputable abbrev Aq (c:bP) (k n:Nat) (v:List ar) (j:Nat) (q:aB):List (Nat × aa):=[(0,az c.M),(1,ak c.w),(5, .ref q.b 0 0),(6, .bool false),(7,ak n),(12,ak c.w),(13,ak k),(8,ak k),(9,aj v),(25,ak c.w),(26,ak j)]
noncomputable abbrev XZ (c:bP) (k n:Nat) (v:List ar) (q:aB):List (Nat × aa):=[(0,az c.M),(1,ak c.w),(5, .ref q.b 0 0),(6, .bool false),(7,ak n),(12,ak c.w),(13,ak k),(8,ak k),(9,aj v)]
include F H in
theorem OB {k n j:Nat} (hn:n<c.bh.length) (hj:j<c.w) (h:c.nN k n j=true):a2 ab G (aU (ao 53) 1) (ao 53).aK (a5 0) .normal (Aq c k n c.bh[n] j) (fun q=>[(q.b,c.blk)]) (Aq c k n c.bh[n] (j+1)) (fun q=>[(q.b,c.blk)]):=by
 have ca:=H.ca
 have cL:=H.cL
 have hY:=H.lc
 have gw:=tS G (l:=c.C) (n:=j) (by omega)
 have qv:j<(c.bh[n]).length:=by rw [(H.hk _ (bc hn)).1];exact hj
 have lZ:=zx G
 have ir:=Hp G
 unfold bP.nN at h
 cases h0:c.C.contains j with
 | true =>
     rw [h0] at gw
     by_cases e:j=k
     . exact aW aG [hb 27 (dW hj),hc lZ,hb 32 (ij (a:=j) (b:=k) (decide_eq_true e)),hc ir,hc gw,a9 48 j]
     . exact aW aG [hb 27 (dW hj),hc lZ,hb 32 (ij (a:=j) (b:=k) (decide_eq_false e)),hc gw,a9 48 j]
 | false =>
     rw [h0,mX] at h
     rw [h0] at gw
     have bF:=RL G F H hn qv h
     by_cases e:j=k
     . rw [show g4 j k=a6 1 from if_pos e] at bF
       exact aW aG [hb 27 (dW hj),hc lZ,hb 32 (ij (a:=j) (b:=k) (decide_eq_true e)),hc ir,hc gw,aQ 42 2 aT qv,hc bF,a9 48 j]
     . rw [show g4 j k=a6 0 from if_neg e] at bF
       exact aW aG [hb 27 (dW hj),hc lZ,hb 32 (ij (a:=j) (b:=k) (decide_eq_false e)),hc gw,aQ 42 2 aT qv,hc bF,a9 48 j]
include F H in
theorem aoz {k n j:Nat} (hn:n<c.bh.length) (hj:j<c.w) (h:c.nN k n j=false):a2 ab G (aU (ao 53) 1) (ao 53).aK (a5 0) .ret (Aq c k n c.bh[n] j) (fun q=>[(q.b,c.blk)]) (fun _=>[(6, .bool false)]) (fun _=>[]):=by
 have ca:=H.ca
 have cL:=H.cL
 have hY:=H.lc
 have gw:=tS G (l:=c.C) (n:=j) (by omega)
 have qv:j<(c.bh[n]).length:=by rw [(H.hk _ (bc hn)).1];exact hj
 have lZ:=zx G
 have ir:=Hp G
 unfold bP.nN at h
 cases h0:c.C.contains j with
 | true=>rw [h0,Bool.true_or] at h;cases h
 | false =>
     rw [h0,mX] at h
     rw [h0] at gw
     have bF:=RL G F H hn qv h
     by_cases e:j=k
     . rw [show g4 j k=a6 1 from if_pos e] at bF
       exact aW aG [hb 27 (dW hj),hc lZ,hb 32 (ij (a:=j) (b:=k) (decide_eq_true e)),hc ir,hc gw,aQ 42 2 aT qv,hc bF]
     . rw [show g4 j k=a6 0 from if_neg e] at bF
       exact aW aG [hb 27 (dW hj),hc lZ,hb 32 (ij (a:=j) (b:=k) (decide_eq_false e)),hc gw,aQ 42 2 aT qv,hc bF]
include H in
theorem aoD {k n:Nat} (hk:k<c.w) (h0:c.C.contains k=true):a2 ab G (aU (ao 53) 0) (ao 53).aK (a5 2) .normal (qQ c k n) (fun q=>[(q.b,c.blk)]) (qQ c (k+1) n) (fun q=>[(q.b,c.blk)]):=by
 have ca:=H.ca
 have cL:=H.cL
 have hY:=H.lc
 have L5:=H.lk
 have gw:=tS G (l:=c.C) (n:=k) (by omega)
 rw [h0] at gw
 exact aW aG [hb 14 (dW hk),hc gw,a9 55 k]
include F H in
theorem aoC {k n:Nat} (hk:k<c.w) (hn:n<c.bh.length) (h0:c.C.contains k=false) (h:c.lL k n=true) (hp:c.r4 n=true):a2 ab G (aU (ao 53) 0) (ao 53).aK (a5 2) .normal (qQ c k n) (fun q=>[(q.b,c.blk)]) (qQ c (k+1) (n+1)) (fun q=>[(q.b,c.blk)]):=by
 have ca:=H.ca
 have cL:=H.cL
 have hY:=H.lc
 have L5:=H.lk
 have gw:=tS G (l:=c.C) (n:=k) (by omega)
 rw [h0] at gw
 have h':∀ j,j<c.w->c.nN k n j=true:=fun j hj=>eO.1 h j (cR.2 hj)
 have pv:=U9 G F H hn hp
 exact aW ⟨[1],[2000001,0],[3],[4]⟩ [hb 14 (dW hk),hc gw,aQ 23 1 aj hn,ck (ao 53) 1 0 0 c.w aG (Aq c k n c.bh[n]) (fun _=>(fun q=>[(q.b,c.blk)])) (.exit 2) (XZ c k n c.bh[n]) (fun q=>[(q.b,c.blk)]) (fun j hj=>OB G F H hn hj (h' j hj)) (aW aG [hb 27 (kM (a4 c.w))]),hc pv,a9 54 n,a9 55 k]
include F H in
theorem aoB {k n:Nat} (hk:k<c.w) (hn:n<c.bh.length) (h0:c.C.contains k=false) (h:c.lL k n=true) (hp:c.r4 n=false):a2 ab G (aU (ao 53) 0) (ao 53).aK (a5 2) .ret (qQ c k n) (fun q=>[(q.b,c.blk)]) (fun _=>[(6, .bool false)]) (fun _=>[]):=by
 have ca:=H.ca
 have cL:=H.cL
 have hY:=H.lc
 have L5:=H.lk
 have gw:=tS G (l:=c.C) (n:=k) (by omega)
 rw [h0] at gw
 have h':∀ j,j<c.w->c.nN k n j=true:=fun j hj=>eO.1 h j (cR.2 hj)
 have pv:=U9 G F H hn hp
 exact aW aG [hb 14 (dW hk),hc gw,aQ 23 1 aj hn,ck (ao 53) 1 0 0 c.w aG (Aq c k n c.bh[n]) (fun _=>(fun q=>[(q.b,c.blk)])) (.exit 2) (XZ c k n c.bh[n]) (fun q=>[(q.b,c.blk)]) (fun j hj=>OB G F H hn hj (h' j hj)) (aW aG [hb 27 (kM (a4 c.w))]),hc pv]
include F H in
theorem aoA {k n:Nat} (hk:k<c.w) (hn:n<c.bh.length) (h0:c.C.contains k=false) (h:c.lL k n=false):a2 ab G (aU (ao 53) 0) (ao 53).aK (a5 2) .ret (qQ c k n) (fun q=>[(q.b,c.blk)]) (fun _=>[(6, .bool false)]) (fun _=>[]):=by
 rcases lh (fun j=>c.nN k n j) c.w with ⟨e,_⟩ | ⟨_,j,hj,hp,aft⟩
 . rw [show c.lL k n=true from e] at h;cases h
 . have ca:=H.ca
   have cL:=H.cL
   have hY:=H.lc
   have L5:=H.lk
   have gw:=tS G (l:=c.C) (n:=k) (by omega)
   rw [h0] at gw
   exact aW aG [hb 14 (dW hk),hc gw,aQ 23 1 aj hn,ck (ao 53) 1 0 0 j aG (Aq c k n c.bh[n]) (fun _=>(fun q=>[(q.b,c.blk)])) .ret (fun _=>[(6, .bool false)]) (fun _=>[]) (fun l hl=>OB G F H hn (by omega) (aft l hl)) (aoz G F H hn hj hp)]
omit F in
include H in
theorem MM {k:Nat} (hk:k<c.w) (h0:c.C.contains k=false):(bH c.C k).length<c.bh.length:=by
 obtain ⟨h,_⟩:=UO h0 hk
 have:=HH H.xb H.hC
 have:=H.lk
 have:=H.lc
 omega
include F H in
theorem an3:ag ab G 53 [az c.M,ak c.w, .agg [bW c.R,bW c.C,az c.inv,az c.cj,az c.bh]] (.bool c.sv):=by
 have ca:=H.ca
 have Di:∀ k,k<c.w->(c.C.contains k||(c.lL k (bH c.C k).length&&c.r4 (bH c.C k).length))=true->a2 ab G (aU (ao 53) 0) (ao 53).aK (a5 2) .normal (qQ c k (bH c.C k).length) (fun q=>[(q.b,c.blk)]) (qQ c (k+1) (bH c.C (k+1)).length) (fun q=>[(q.b,c.blk)]):=fun k hk h=>by
   cases h0:c.C.contains k with
   | true =>
     rw [HI h0]
     exact aoD G H hk h0
   | false =>
     rw [h0,mX,hJ] at h
     rw [show (bH c.C (k+1)).length=(bH c.C k).length+1 by rw [C1 h0,cd];rfl]
     exact aoC G F H hk (MM H hk h0) h0 h.1 h.2
 rcases lh (fun k=>c.C.contains k||(c.lL k (bH c.C k).length&&c.r4 (bH c.C k).length)) c.w with ⟨e,h⟩ | ⟨e,k,hk,hp,hn⟩
 . rw [show c.sv=true from e]
   exact bB [ck (ao 53) 0 2 0 c.w ⟨[1],[0,0],[3],[4]⟩ (fun k=>qQ c k (bH c.C k).length) (fun _=>(fun q=>[(q.b,c.blk)])) (.exit 0) (fun _=>[]) (fun _=>[]) (fun k hk=>Di k hk (h k hk)) (aW aG [hb 14 (kM (a4 c.w))])] (by kernel_rfl)
 . rw [show c.sv=false from e]
   obtain ⟨h0,h1⟩:=po.1 hp
   have adM:a2 ab G (aU (ao 53) 0) (ao 53).aK (a5 2) .ret (qQ c k (bH c.C k).length) (fun q=>[(q.b,c.blk)]) (fun _=>[(6, .bool false)]) (fun _=>[]):=by
     cases h2:c.lL k (bH c.C k).length with
     | false=>exact aoA G F H hk (MM H hk h0) h0 h2
     | true =>
       rw [h2,hP] at h1
       exact aoB G F H hk (MM H hk h0) h0 h2 h1
   exact bB [ck (ao 53) 0 2 0 k ⟨[1],[0,0],[3],[4]⟩ (fun k=>qQ c k (bH c.C k).length) (fun _=>(fun q=>[(q.b,c.blk)])) .ret (fun _=>[(6, .bool false)]) (fun _=>[]) (fun j hj=>Di j (by omega) (hn j hj)) adM] (by kernel_rfl)
end
def zF (M:List (List ar)) (w:Nat):Bool:=iS M (M.length:Int) (w:Int)
def xj (c:fG):Bool:=decide ((c.bt.length:Int)=(c.rows.length:Int))
def zG (c:fG):Bool:=iS c.inv (c.rows.length:Int) (c.rows.length:Int)
def zH (M:List (List ar)) (c:fG):Bool:=iS c.cj ((M.length:Int)-(c.rows.length:Int)) (c.rows.length:Int)
def HB (w:Nat) (c:fG):Bool:=iS c.bh ((w:Int)-(c.rows.length:Int)) (w:Int)
def n6 (M:List (List ar)) (w:Nat) (c:fG):Bool:=zF M w&&(oB c.rows M.length&&(oB c.bt w&&(xj c&&(zG c&&(zH M c&&HB w c)))))
def gO (M:List (List ar)) (w:Nat) (c:fG):bP:=⟨M,w,c.rows.map nJ,c.bt.map nJ,c.inv,c.cj,c.bh⟩
def Qh {l:List Int} {n:Nat} (h:oB l n=true):l=(l.map nJ).map vL/\(∀ k∈l.map nJ,k<n)/\(l.map nJ).Pairwise (· < ·):=by
 have c:∀ i (a:i<l.length),0<=l[i]/\l[i]<(n:Int)/\(∀ m:0<i,l[i-1]<l[i]) := λ i a=>by
   have:=eO.1 h i (cR.2 a)
   unfold uK at this
   rw [bj a] at this
   simp only [Bool.not_or,hJ,Bool.not_eq_true',decide_eq_false_iff_not,Bool.and_eq_false_iff] at this
   have ⟨h1,g,h3⟩:=this
   refine ⟨by omega,by omega, λ m => ?_⟩
   have c:i-1<l.length:=by omega
   rw [bj c] at h3
   rcases h3 with h3 | h3<;>omega
 have e:∀ x∈l,0<=x := λ x f=>by
   obtain ⟨i,a,rfl⟩:=fZ.1 f
   exact (c i a).1
 refine ⟨?_, λ k o => ?_, ?_⟩
 rw [List.map_map]
 refine ((List.map_congr_left λ x f => ?_).trans (List.map_id l)).symm
 exact Int.toNat_of_nonneg (e x f)
 obtain ⟨x,f,rfl⟩:=bn.1 o
 obtain ⟨i,a,rfl⟩:=fZ.1 f
 have:=c i a
 omega
 have step:∀ i j (b:i<j) (d:j<l.length),l[i]<l[j] := λ i j b=>by
   induction b with
   | refl =>
     intro d
     have:=(c (i+1) d).2.2 (by omega)
     exact this
   | @step j _ p =>
     intro d
     have h1:=p (by omega)
     have g:l[j]<l[j+1]:=by have:=(c (j+1) d).2.2 (by omega);simpa using this
     exact Int.lt_trans h1 g
 rw [List.pairwise_map,List.pairwise_iff_getElem]
 intro i j a d b
 have h1:=step i j b d
 have g:=(c i a).1
 omega
def Qi {l:List Nat} (h:l.Pairwise (· < ·)):l.Nodup:=h.imp λ h=>Nat.ne_of_lt h
def Ir {K:cT} {n:Nat} {M:List (List ar)} {rows w:Int} (h:jC K n M) (a:iS M rows w=true) {w':Nat} (e:w=(w':Int)):bw K n w' M/\(M.length:Int)=rows:=by
 unfold iS at a
 rw [hJ] at a
 refine ⟨λ r b=>⟨?_,h r b⟩,of_decide_eq_true a.2⟩
 have:=of_decide_eq_true (eO.1 a.1 r b)
 omega
structure Fa (K:cT) (q nm eG:Nat) (M:List (List ar)) (w:Nat) (c:fG):Prop where
 gi:M.length<=4000
 ca:w<=4000
 hm:jC K nm M
 hc:c.G K eG
 cL:c.rows.length<=4000
 fA:c.bt.length<=4000
 i9:c.inv.length<=4000
 lR:c.cj.length<=4000
 Cu:c.bh.length<=4000
 qj:bO K q nm
 gg:bO K q eG
 oC:(c.rows.length<=M.length->c.rows.length<=w->(∀ r∈M,r.length=w)->bO K q (c.rows.length*(eG+nm+K.c+1)))
 lL:(∀ r∈M,r.length=w)->bO K q (w*(nm+eG+K.c+1))
def Q5 {K:cT} {q nm eG:Nat} {M:List (List ar)} {w:Nat} {c:fG} (S:Fa K q nm eG M w c) (h:n6 M w c=true):(gO M w c).uB K q nm eG/\c.rows=(gO M w c).R.map vL/\c.bt=(gO M w c).C.map vL:=by
 unfold n6 zF xj zG zH HB at h
 simp only [hJ] at h
 have ⟨h1,y,h3,h4,p,l,f⟩:=h
 have ⟨j,b2,g⟩:=Qh y
 have ⟨k,b3,v⟩:=Qh h3
 have A:=of_decide_eq_true h4
 have ⟨d,B⟩:=Ir S.hm h1 rfl
 have ⟨s,D⟩:=Ir S.hc.inv p rfl
 have ⟨n,z⟩:=Ir S.hc.cj l rfl
 have ⟨u,E⟩:=Ir S.hc.bh f rfl
 have a:(c.rows.map nJ).length=c.rows.length:=aM ..
 have m:(c.bt.map nJ).length=c.bt.length:=aM ..
 have e:=Qi g
 have lu:=Qi v
 have o:=aD.pM (S:=ba M.length) e λ x b=>cR.2 (b2 x b)
 have t:=aD.pM (S:=ba w) lu λ x b=>cR.2 (b3 x b)
 rw [dZ] at o t
 have hw:∀ r∈M,r.length=w := λ r i=>(d r i).1
 refine ⟨⟨S.gi,S.ca,d,b2,b3, ?_,e,lu, ?_, ?_, ?_, ?_,u, ?_,S.qj,S.gg, ?_,S.lL hw⟩,j,k⟩
 show (c.bt.map nJ).length=(c.rows.map nJ).length
 rw [a,m];omega
 show bw K eG (c.rows.map nJ).length c.inv
 rw [a];exact s
 show c.inv.length=(c.rows.map nJ).length
 rw [a];omega
 show bw K eG (c.rows.map nJ).length c.cj
 rw [a];exact n
 show c.cj.length+(c.rows.map nJ).length=M.length
 rw [a];omega
 show c.bh.length+(c.rows.map nJ).length=w
 rw [a];omega
 show bO K q ((c.rows.map nJ).length*_)
 rw [a]
 exact S.oC (by omega) (by omega) hw
noncomputable def n8 (M:List (List ar)) (w:Nat) (c:fG):Bool:=n6 M w c&&((gO M w c).su&&((gO M w c).tR&&(gO M w c).sv))
section
variable (G:Nat->Option (List aa)) {K:cT} {q e r:Nat} (F:gG K q e r) {nm eG:Nat} {M:List (List ar)} {w:Nat} {c:fG}
def g8 {l:List Int}:(((l.map bU).length:Nat):Int)=(l.length:Int):=by rw [aM]
def cV:(((M.map aj).length:Nat):Int)=(M.length:Int):=by rw [aM]
def oc {a b:Nat} (d:a<=4000) (hb:b<=4000):cF.wrap ((a:Int)-(b:Int))=(a:Int)-(b:Int):=by rw [cM];omega
def Hq {a b:Nat} {z:Bool} (h:decide ((a:Int)=(b:Int))=z):((a:Int) != (b:Int)) = !z:=by
 rw [<- h]
 by_cases e:(a:Int)=(b:Int)
 rw [decide_eq_true e,e];exact bne_self_eq_false _
 rw [decide_eq_false e];exact bne_iff_ne.2 e
include F in
theorem XO (S:Fa K q nm eG M w c):ag ab G 16 [az M,ak w,gl c] (.bool (n8 M w c)):=by
 have gi:=S.gi
 have cL:=S.cL
 have ca:=S.ca
 have fA:=S.fA
 have i9:=S.i9
 have lR:=S.lR
 have Cu:=S.Cu
 have x1:=IY G (M:=M) (rows:=(M.length:Int)) (w:=(w:Int)) (by omega)
 have bF:=XK G (l:=c.rows) (n:=M.length) (by omega)
 have ib:=XK G (l:=c.bt) (n:=w) (by omega)
 have qV:=IY G (M:=c.inv) (rows:=(c.rows.length:Int)) (w:=(c.rows.length:Int)) (by omega)
 have mN:=IY G (M:=c.cj) (rows:=(M.length:Int)-(c.rows.length:Int)) (w:=(c.rows.length:Int)) (by omega)
 have Aw:=IY G (M:=c.bh) (rows:=(w:Int)-(c.rows.length:Int)) (w:=(w:Int)) (by omega)
 have w0:decide ((w:Int)<0)=false:=decide_eq_false (by omega)
 have acF:=fun h=>Q5 S h
 unfold n8
 by_cases na:n6 M w c=true
 . obtain ⟨H,e2,e3⟩:=acF na
   have vD:=anZ G F H
   have AG:=anT G F H
   have YD:=an3 G F H
   rw [na,hP]
   have oQ:=na
   unfold n6 zF xj zG zH HB at oQ
   simp only [hJ] at oQ
   obtain ⟨s1,s2,xC,Dm,Dn,Dp,amx⟩:=oQ
   rw [s1] at x1
   rw [s2] at bF
   rw [xC] at ib
   rw [Dn] at qV
   rw [Dp] at mN
   rw [amx] at Aw
   have BL:gl c = .agg [bW (gO M w c).R,bW (gO M w c).C,az (gO M w c).inv,az (gO M w c).cj,az (gO M w c).bh]:=by
     unfold gl
     conv=>lhs;rw [e2,e3]
     rw [vc,vc]
     rfl
   have xa:=Hq Dm
   cases b1:(gO M w c).su with
   | false =>
     rw [b1, <- BL] at vD
     rw [nI]
     exact aO [hw 10 (g8 (l:=c.rows)),hb 12 w0,hw 16 (cV (M:=M)),hc x1,hw 25 (cV (M:=M)),hc bF,hc ib,hw 39 (g8 (l:=c.bt)),hb 41 xa,hc qV,hw 53 (cV (M:=M)),hw 55 (oc gi cL),hc mN,hw 65 (oc ca cL),hc Aw,hc vD] (by kernel_rfl)
   | true =>
     rw [b1, <- BL] at vD
     rw [hP]
     cases b2:(gO M w c).tR with
     | false =>
       rw [b2, <- BL] at AG
       rw [nI]
       exact aO [hw 10 (g8 (l:=c.rows)),hb 12 w0,hw 16 (cV (M:=M)),hc x1,hw 25 (cV (M:=M)),hc bF,hc ib,hw 39 (g8 (l:=c.bt)),hb 41 xa,hc qV,hw 53 (cV (M:=M)),hw 55 (oc gi cL),hc mN,hw 65 (oc ca cL),hc Aw,hc vD,hc AG] (by kernel_rfl)
     | true =>
       rw [b2, <- BL] at AG
       rw [hP]
       rw [<- BL] at YD
       generalize (gO M w c).sv=b3 at *
       exact aO [hw 10 (g8 (l:=c.rows)),hb 12 w0,hw 16 (cV (M:=M)),hc x1,hw 25 (cV (M:=M)),hc bF,hc ib,hw 39 (g8 (l:=c.bt)),hb 41 xa,hc qV,hw 53 (cV (M:=M)),hw 55 (oc gi cL),hc mN,hw 65 (oc ca cL),hc Aw,hc vD,hc AG,hc YD] (by kernel_rfl)
 . have oQ : n6 M w c=false:=by simpa using na
   rw [oQ,nI]
   unfold n6 at oQ
   cases s1:zF M w with
   | false =>
     have Nr:iS M (M.length:Int) (w:Int)=false:=s1
     rw [Nr] at x1
     exact aO [hw 10 (g8 (l:=c.rows)),hb 12 w0,hw 16 (cV (M:=M)),hc x1] (by kernel_rfl)
   | true =>
     have Nr:iS M (M.length:Int) (w:Int)=true:=s1
     rw [Nr] at x1
     rw [s1,hP] at oQ
     cases s2:oB c.rows M.length with
     | false =>
       rw [s2] at bF
       exact aO [hw 10 (g8 (l:=c.rows)),hb 12 w0,hw 16 (cV (M:=M)),hc x1,hw 25 (cV (M:=M)),hc bF] (by kernel_rfl)
     | true =>
       rw [s2] at bF
       rw [s2,hP] at oQ
       cases xC:oB c.bt w with
       | false =>
         rw [xC] at ib
         exact aO [hw 10 (g8 (l:=c.rows)),hb 12 w0,hw 16 (cV (M:=M)),hc x1,hw 25 (cV (M:=M)),hc bF,hc ib] (by kernel_rfl)
       | true =>
         rw [xC] at ib
         rw [xC,hP] at oQ
         cases Dm:xj c with
         | false=>exact aO [hw 10 (g8 (l:=c.rows)),hb 12 w0,hw 16 (cV (M:=M)),hc x1,hw 25 (cV (M:=M)),hc bF,hc ib,hw 39 (g8 (l:=c.bt)),hb 41 (Hq (z:=false) Dm)] (by kernel_rfl)
         | true =>
           rw [Dm,hP] at oQ
           have xa:=Hq (z:=true) Dm
           cases Dn:zG c with
           | false =>
             have Ih:iS c.inv (c.rows.length:Int) (c.rows.length:Int)=false:=Dn
             rw [Ih] at qV
             exact aO [hw 10 (g8 (l:=c.rows)),hb 12 w0,hw 16 (cV (M:=M)),hc x1,hw 25 (cV (M:=M)),hc bF,hc ib,hw 39 (g8 (l:=c.bt)),hb 41 xa,hc qV] (by kernel_rfl)
           | true =>
             have Ih:iS c.inv (c.rows.length:Int) (c.rows.length:Int)=true:=Dn
             rw [Ih] at qV
             rw [Dn,hP] at oQ
             cases Dp:zH M c with
             | false =>
               have Ns:iS c.cj ((M.length:Int)-(c.rows.length:Int)) (c.rows.length:Int)=false:=Dp
               rw [Ns] at mN
               exact aO [hw 10 (g8 (l:=c.rows)),hb 12 w0,hw 16 (cV (M:=M)),hc x1,hw 25 (cV (M:=M)),hc bF,hc ib,hw 39 (g8 (l:=c.bt)),hb 41 xa,hc qV,hw 53 (cV (M:=M)),hw 55 (oc gi cL),hc mN] (by kernel_rfl)
             | true =>
               have Ns:iS c.cj ((M.length:Int)-(c.rows.length:Int)) (c.rows.length:Int)=true:=Dp
               rw [Ns] at mN
               rw [Dp,hP] at oQ
               have amy:iS c.bh ((w:Int)-(c.rows.length:Int)) (w:Int)=false:=oQ
               rw [amy] at Aw
               exact aO [hw 10 (g8 (l:=c.rows)),hb 12 w0,hw 16 (cV (M:=M)),hc x1,hw 25 (cV (M:=M)),hc bF,hc ib,hw 39 (g8 (l:=c.bt)),hb 41 xa,hc qV,hw 53 (cV (M:=M)),hw 55 (oc gi cL),hc mN,hw 65 (oc ca cL),hc Aw] (by kernel_rfl)
end
end Go.Proofs.YtpcofcmencgkbaaGreat
namespace Go.aF
section
variable {P:Program} {G:Nat->Option (List aa)}
def bz.adS {n m f h:Nat} {B:List (Nat × aa)} {q:aB} {l L:List aa} {z:aN} (g:eQ m q) (r:∀ e∈l,cU 1 e) (s:∀ e∈L,cU 1 e) (u:∀ e∈z.els,e.size=z.k) :
   bz G [0] ⟨fr n ((f, .ai q.a 1 0 l.length false)::(h, .ai q.c 1 0 L.length false)::B),bk [(q.a,⟨l,1,false⟩),(q.b,z),(q.c,⟨L,1,false⟩)],m⟩ ⟨fr n ((f, .sl 1 l)::(h, .sl 1 L)::B),bk [(q.b,z)],m⟩:=by
 have ⟨o,p,y,j,A,w⟩:=g.ne
 have v:bk [(q.a,(⟨l,1,false⟩:aN)),(q.c,⟨L,1,false⟩)] q.a=some ⟨l,1,false⟩:=by simp [bk,cD]
 have t:bk [(q.a,(⟨l,1,false⟩:aN)),(q.c,⟨L,1,false⟩)] q.c=some ⟨L,1,false⟩:=by simp [bk,cD,eF (c3 p)]
 refine bz.mh [(q.a,⟨l,1,false⟩),(q.c,⟨L,1,false⟩)] (λ x d => ?_) (ny B (jL h (jL f (hN _ _) (sz v r)) (sz t s))) (λ i => ?_) (a4 _)
 rcases cr.1 d with rfl | d
 simp [bk,cD]
 rw [bJ.1 d]
 simp [bk,cD,eF (c3 p),eF (c3 j)]
 by_cases h1:i=q.b
 subst h1
 refine .inr ⟨z,z,by simp [bk,cD,eF (c3 o)],by simp [bk,cD],rb (λ x d => ?_) u⟩
 rcases cr.1 d with rfl | d
 exact o
 rw [bJ.1 d];exact c3 j
 exact .inl (by simp [bk,cD,eF h1])
def bz.adV {n m c d:Nat} {B:List (Nat × aa)} {q:aB} {z:aN} (f:∀ e∈z.els,e.size=z.k):bz G [0] ⟨fr n ((c, .aq)::(d, .aq)::B),bk [(q.b,z)],m⟩ ⟨fr n ((c, .sl 1 [])::(d, .sl 1 [])::B),bk [(q.b,z)],m⟩:=by
 refine bz.mh [] (λ x a=>(cX a).elim) (ny B (jL d (jL c (hN _ _) (l4 (fi 1))) (l4 (fi 1)))) (λ i => ?_) (a4 _)
 by_cases h1:i=q.b
 subst h1
 exact .inr ⟨z,z,by simp [bk,cD],by simp [bk,cD],rb (λ x a=>(cX a).elim) f⟩
 exact .inl (by simp [bk,cD,eF h1])
end
end Go.aF
namespace Go.Proofs.YtpcofcmencgkbaaGreat
noncomputable abbrev bP.ch (c:bP):List (List ar):=aA c.M c.R
noncomputable abbrev bP.fB (c:bP):List (List ar):=c.ch.map (eW c.C)
noncomputable def bP.zT (c:bP):Bool:=BP (qF c.inv c.fB) (jK c.R.length)
noncomputable def bP.uU (c:bP) (i k:Nat):Bool:=eh ((c.M.getD ((bH c.R c.M.length).getD i 0) []).getD k (a6 0)) (jd (c.cj.getD i []) (iy c.ch k))
noncomputable def bP.wJ (c:bP) (i:Nat):Bool:=(ba c.w).all λ k=>c.uU i k
noncomputable def bP.xr (c:bP):Bool:=(ba (bH c.R c.M.length).length).all λ i=>c.wJ i
noncomputable def bP.tc (c:bP) (i k:Nat):Bool:=eh ((c.bh.getD i []).getD ((bH c.C c.w).getD k 0) (a6 0)) (g4 i k)
noncomputable def bP.qp (c:bP) (i:Nat):Bool:=(ba (bH c.C c.w).length).all λ k=>c.tc i k
noncomputable def bP.vo (c:bP) (i k:Nat):Bool:=(jd (c.M.getD k []) (c.bh.getD i [])).b9
noncomputable def bP.uY (c:bP) (i:Nat):Bool:=(ba c.M.length).all λ k=>c.vo i k
noncomputable def bP.xt (c:bP):Bool:=(ba (bH c.C c.w).length).all λ i=>c.qp i&&c.uY i
section
variable (G:Nat->Option (List aa)) {K:cT} {q e r:Nat} (F:gG K q e r) {nm eG:Nat} {c:bP} (H:c.uB K q nm eG)
noncomputable abbrev o6 (c:bP) (i:Nat) (q:aB):List (Nat × aa):=[(5, .ref q.b 0 0),(0,az c.M),(1,ak c.w),(6, .bool false),(7,ak c.R.length),(10,ak i)]
include H in
theorem alm {i:Nat} (hi:i<c.R.length) (hx:c.R[i]<c.M.length):a2 ab G (aU (ao 17) 0) (ao 17).aK (a5 0) .normal (fun q=>(9, .aq)::(8, .aq)::o6 c i q) (fun q=>[(q.b,c.blk)]) (fun q=>(9, .ai q.a 1 0 1 false)::(8, .ai q.c 1 0 1 false)::o6 c (i+1) q) (fun q=>[(q.a,⟨[(aj c.M[c.R[i]])],1,false⟩),(q.b,c.blk),(q.c,⟨[(aj (eW c.C c.M[c.R[i]]))],1,false⟩)]):=by
 have cL:=H.cL
 have hY:=H.lc
 have r6:=Mj G (r:=c.M[c.R[i]]) (l:=c.C) (fun k hk=>by rw [(H.hm _ (bc hx)).1];exact H.hC k hk) (by omega)
 exact aW ⟨[13,0],[2],[28,0],[4]⟩ [hb 85 (dW hi),aQ 93 1 ak hi,aQ 95 1 aj hx,aQ 104 1 ak hi,aQ 106 1 aj hx,hc r6,a9 87 i]
def alo:a2 ab G (aU (ao 17) 0) (ao 17).aK (a5 0) (.exit 0) (λ q=>(9, .aq)::(8, .aq)::o6 c c.R.length q) (λ q=>[(q.b,c.blk)]) (λ q=>(9, .aq)::(8, .aq)::[(5, .ref q.b 0 0),(0,az c.M),(1,ak c.w),(6, .bool false),(7,ak c.R.length)]) (λ q=>[(q.b,c.blk)]):=aW aG [hb 85 (kM (a4 c.R.length))]
include H in
theorem aln {l L:List aa} [br l] [cq 1 l] [br L] [cq 1 L] (G2:l.length<=9000) (aqA:L.length<=9000) {i:Nat} (hi:i<c.R.length) (hx:c.R[i]<c.M.length):a2 ab G (aU (ao 17) 0) (ao 17).aK (a5 0) .normal (fun q=>(9, .ai q.a 1 0 l.length false)::(8, .ai q.c 1 0 L.length false)::o6 c i q) (fun q=>[(q.a,⟨l,1,false⟩),(q.b,c.blk),(q.c,⟨L,1,false⟩)]) (fun q=>(9, .ai q.a 1 0 (l.length+1) false)::(8, .ai q.c 1 0 (L.length+1) false)::o6 c (i+1) q) (fun q=>[(q.a,⟨l++[(aj c.M[c.R[i]])],1,false⟩),(q.b,c.blk),(q.c,⟨L++[(aj (eW c.C c.M[c.R[i]]))],1,false⟩)]):=by
 have cL:=H.cL
 have hY:=H.lc
 have r6:=Mj G (r:=c.M[c.R[i]]) (l:=c.C) (fun k hk=>by rw [(H.hm _ (bc hx)).1];exact H.hC k hk) (by omega)
 exact aW ⟨[13,0],[2],[28,0],[4]⟩ [hb 85 (dW hi),aQ 93 1 ak hi,aQ 95 1 aj hx,jY 98 1 24 [1] 12 l (aj c.M[c.R[i]]) (by omega) (fU (k:=1)),aQ 104 1 ak hi,aQ 106 1 aj hx,hc r6,jY 112 1 24 [3] 27 L (aj (eW c.C c.M[c.R[i]])) (by omega) (fU (k:=1)),a9 87 i]
def alp {l L:List aa} [br l] [cq 1 l] [br L] [cq 1 L]:a2 ab G (aU (ao 17) 0) (ao 17).aK (a5 0) (.exit 0) (λ q=>(9, .ai q.a 1 0 l.length false)::(8, .ai q.c 1 0 L.length false)::o6 c c.R.length q) (λ q=>[(q.a,⟨l,1,false⟩),(q.b,c.blk),(q.c,⟨L,1,false⟩)]) (λ q=>(9, .ai q.a 1 0 l.length false)::(8, .ai q.c 1 0 L.length false)::[(5, .ref q.b 0 0),(0,az c.M),(1,ak c.w),(6, .bool false),(7,ak c.R.length)]) (λ q=>[(q.a,⟨l,1,false⟩),(q.b,c.blk),(q.c,⟨L,1,false⟩)]):=aW aG [hb 85 (kM (a4 c.R.length))]
noncomputable def kl (c:bP) (i:Nat):List aa:=(aA c.M (c.R.take i)).map aj
noncomputable def ko (c:bP) (i:Nat):List aa:=((aA c.M (c.R.take i)).map (eW c.C)).map aj
instance {c:bP} {i:Nat}:br (kl c i):=by unfold kl;infer_instance
instance {c:bP} {i:Nat}:cq 1 (kl c i):=by unfold kl;infer_instance
instance {c:bP} {i:Nat}:br (ko c i):=by unfold ko;infer_instance
instance {c:bP} {i:Nat}:cq 1 (ko c i):=by unfold ko;infer_instance
def abI {c:bP} {i:Nat} (a:i<=c.R.length):(kl c i).length=i/\(ko c i).length=i:=by
 have:(aA c.M (c.R.take i)).length=i:=by unfold aA;rw [aM,cZ];omega
 unfold kl ko
 rw [aM,aM,aM]
 exact ⟨this,this⟩
noncomputable def my (c:bP) (i:Nat) (q:aB):List (Nat × aa):=if i=0 then (9, .aq)::(8, .aq)::o6 c i q else (9, .ai q.a 1 0 (kl c i).length false)::(8, .ai q.c 1 0 (ko c i).length false)::o6 c i q
noncomputable def mw (c:bP) (i:Nat) (q:aB):List (bT × aN):=if i=0 then [(q.b,c.blk)] else [(q.a,⟨kl c i,1,false⟩),(q.b,c.blk),(q.c,⟨ko c i,1,false⟩)]
include H in
theorem xw {i:Nat} (hi:i<c.R.length):a2 ab G (aU (ao 17) 0) (ao 17).aK (a5 0) .normal (my c i) (mw c i) (my c (i+1)) (mw c (i+1)):=by
 have hx:=H.db _ (bc hi)
 have cL:=H.cL
 have es:aA c.M (c.R.take (i+1))=aA c.M (c.R.take i)++[c.M[c.R[i]]]:=by rw [iH hi,pa c.M _ hx]
 have e1:kl c (i+1)=kl c i++[aj c.M[c.R[i]]]:=by unfold kl;rw [es,dU];rfl
 have e2:ko c (i+1)=ko c i++[aj (eW c.C c.M[c.R[i]])]:=by unfold ko;rw [es,dU,dU];rfl
 obtain ⟨hY,lq⟩:=abI (c:=c) (i:=i) (by omega)
 have t1:my c (i+1)=fun q=>(9, .ai q.a 1 0 ((kl c i).length+1) false)::(8, .ai q.c 1 0 ((ko c i).length+1) false)::o6 c (i+1) q:=by
   funext q
   unfold my
   rw [if_neg (by omega),e1,e2,cd,cd]
   rfl
 have k1:mw c (i+1)=fun q=>[(q.a,⟨kl c i++[aj c.M[c.R[i]]],1,false⟩),(q.b,c.blk),(q.c,⟨ko c i++[aj (eW c.C c.M[c.R[i]])],1,false⟩)]:=by
   funext q
   unfold mw
   rw [if_neg (by omega),e1,e2]
 rw [t1,k1]
 by_cases h0:i=0
 . subst h0
   have t0:my c 0=fun q=>(9, .aq)::(8, .aq)::o6 c 0 q:=funext fun q=>if_pos rfl
   have Ct:mw c 0=fun q=>[(q.b,c.blk)]:=funext fun q=>if_pos rfl
   rw [t0,Ct]
   exact alm G H hi hx
 . have t0:my c i=fun q=>(9, .ai q.a 1 0 (kl c i).length false)::(8, .ai q.c 1 0 (ko c i).length false)::o6 c i q:=funext fun q=>if_neg h0
   have Ct:mw c i=fun q=>[(q.a,⟨kl c i,1,false⟩),(q.b,c.blk),(q.c,⟨ko c i,1,false⟩)]:=funext fun q=>if_neg h0
   rw [t0,Ct]
   exact aln G H (by omega) (by omega) hi hx
def xv:a2 ab G (aU (ao 17) 0) (ao 17).aK (a5 0) (.exit 0) (my c c.R.length) (mw c c.R.length) (λ q=>(9,az c.ch)::(8,az c.fB)::[(5, .ref q.b 0 0),(0,az c.M),(1,ak c.w),(6, .bool false),(7,ak c.R.length)]) (λ q=>[(q.b,c.blk)]):=by
 by_cases d:c.R.length=0
 have o:=sP d
 have k:my c c.R.length = λ q=>(9, .aq)::(8, .aq)::o6 c c.R.length q:=funext λ q=>if_pos d
 have f:mw c c.R.length = λ q=>[(q.b,c.blk)]:=funext λ q=>if_pos d
 rw [k,f]
 have h:c.ch=[]:=by show aA c.M c.R=[];rw [o];rfl
 have i:c.fB=[]:=by show (aA c.M c.R).map _=[];rw [o];rfl
 rw [h,i]
 exact (alo G).gV λ q m g=>bz.adV nM
 have k:my c c.R.length = λ q=>(9, .ai q.a 1 0 (kl c c.R.length).length false)::(8, .ai q.c 1 0 (ko c c.R.length).length false)::o6 c c.R.length q:=funext λ q=>if_neg d
 have f:mw c c.R.length = λ q=>[(q.a,⟨kl c c.R.length,1,false⟩),(q.b,c.blk),(q.c,⟨ko c c.R.length,1,false⟩)]:=funext λ q=>if_neg d
 rw [k,f]
 have h:az c.ch = .sl 1 (kl c c.R.length):=by unfold kl;rw [gn];rfl
 have i:az c.fB = .sl 1 (ko c c.R.length):=by unfold ko;rw [gn];rfl
 rw [h,i]
 exact (alp G (l:=kl c c.R.length) (L:=ko c c.R.length)).gV λ q m g=>bz.adS g (λ e j=>cq.all e j) (λ e j=>cq.all e j) nM
noncomputable abbrev r8 (c:bP) (i:Nat) (q:aB):List (Nat × aa):=[(0,az c.M),(1,ak c.w),(5, .ref q.b 0 0),(6, .bool false),(9,az c.ch),(11,bW (bH c.R c.M.length)),(12,ak i)]
noncomputable abbrev Da (c:bP) (i k:Nat) (q:aB):List (Nat × aa):=[(0,az c.M),(1,ak c.w),(5, .ref q.b 0 0),(6, .bool false),(9,az c.ch),(11,bW (bH c.R c.M.length)),(12,ak i),(13,ak k)]
include H in
theorem KC:bw K nm c.w c.ch:=H.hm.sub H.db
include H in
theorem KB:c.ch.length=c.R.length:=aM ..
include H in
theorem zK:(bH c.R c.M.length).length=c.cj.length/\(bH c.R c.M.length).length<=4000:=by
 have:=HH H.oX H.db
 have:=H.lcm
 have:=H.gi
 omega
include H in
theorem tK:(bH c.C c.w).length=c.bh.length/\(bH c.C c.w).length<=4000:=by
 have:=HH H.xb H.hC
 have:=H.lk
 have:=H.lc
 have:=H.ca
 omega
include F H in
theorem Tb {i k:Nat} (hi:i<(bH c.R c.M.length).length) (hj:i<c.cj.length) (hk:k<c.w) (hx:(bH c.R c.M.length)[i]<c.M.length) (eo:k<(c.M[(bH c.R c.M.length)[i]]).length) {b:Bool} (h:c.uU i k=b):ag ab G 57 [az c.ch,ak k] (aj (iy c.ch k))/\ag ab G 37 [aj c.cj[i],aj (iy c.ch k)] (jd c.cj[i] (iy c.ch k)).T/\ag ab G 56 [((c.M[(bH c.R c.M.length)[i]])[k]).T,(jd c.cj[i] (iy c.ch k)).T] (.bool b):=by
 have hs:=KC H
 have ahj:=KB H
 have cL:=H.cL
 have hc:=H.oO _ (bc hj)
 have hm:=H.hm _ (bc hx)
 have lc:(iy c.ch k).length=c.R.length:=(aM ..).trans ahj
 have gc:=QZ hs k
 have uL:bO K q (lg K c.cj[i] eG nm):=by unfold lg;rw [hc.1];exact H.oC
 have gd:(jd c.cj[i] (iy c.ch k)).G K (lg K c.cj[i] eG nm):=BH hc.2 gc
 refine ⟨TT G (fun x hx=>by rw [(hs x hx).1];exact hk) (by omega),Hh G F (by omega) (by omega) hc.2 gc H.gg H.qj uL, ?_⟩
 rw [<- h]
 unfold bP.uU
 rw [bj hi,bj hx,bj eo,bj hj]
 exact Jj G F (hm.2 _ (bc eo)) gd H.qj uL m5
include F H in
theorem Vy {i k:Nat} (hi:i<(bH c.R c.M.length).length) (hk:k<c.w) (h:c.uU i k=true):a2 ab G (aU (ao 17) 2) (ao 17).aK (a5 0) .normal (Da c i k) (fun q=>[(q.b,c.blk)]) (Da c i (k+1)) (fun q=>[(q.b,c.blk)]):=by
 have hx:=(xl.1 (bc hi)).1
 have hj:i<c.cj.length:=by have:=(zK H).1;omega
 have eo:k<(c.M[(bH c.R c.M.length)[i]]).length:=by rw [(H.hm _ (bc hx)).1];exact hk
 obtain ⟨x1,bF,ib⟩:=Tb G F H hi hj hk hx eo h
 have ca:=H.ca
 exact aW aG [hb 138 (dW hk),aQ 144 1 ak hi,aQ 146 1 aj hx,aQ 149 2 aT eo,aQ 154 1 aj hj,hc x1,hc bF,hc ib,a9 140 k]
include F H in
theorem alq {i k:Nat} (hi:i<(bH c.R c.M.length).length) (hk:k<c.w) (h:c.uU i k=false):a2 ab G (aU (ao 17) 2) (ao 17).aK (a5 0) .ret (Da c i k) (fun q=>[(q.b,c.blk)]) (fun _=>[(6, .bool false)]) (fun _=>[]):=by
 have hx:=(xl.1 (bc hi)).1
 have hj:i<c.cj.length:=by have:=(zK H).1;omega
 have eo:k<(c.M[(bH c.R c.M.length)[i]]).length:=by rw [(H.hm _ (bc hx)).1];exact hk
 obtain ⟨x1,bF,ib⟩:=Tb G F H hi hj hk hx eo h
 have ca:=H.ca
 exact aW aG [hb 138 (dW hk),aQ 144 1 ak hi,aQ 146 1 aj hx,aQ 149 2 aT eo,aQ 154 1 aj hj,hc x1,hc bF,hc ib]
include F H in
theorem zV {i:Nat} (hi:i<(bH c.R c.M.length).length) (h:c.wJ i=true):a2 ab G (aU (ao 17) 1) (ao 17).aK (a5 2) .normal (r8 c i) (fun q=>[(q.b,c.blk)]) (r8 c (i+1)) (fun q=>[(q.b,c.blk)]):=by
 have h':∀ k,k<c.w->c.uU i k=true:=fun k hk=>eO.1 h k (cR.2 hk)
 have ca:=H.ca
 have lR:=(zK H).2
 exact aW ⟨[1],[2000001,0],[3],[4]⟩ [bm 133 ak hi,ck (ao 17) 2 0 0 c.w aG (Da c i) (fun _=>(fun q=>[(q.b,c.blk)])) (.exit 4) (r8 c i) (fun q=>[(q.b,c.blk)]) (fun k hk=>Vy G F H hi hk (h' k hk)) (aW aG [hb 138 (kM (a4 c.w))]),a9 135 i]
include F H in
theorem Vz {i:Nat} (hi:i<(bH c.R c.M.length).length) (h:c.wJ i=false):a2 ab G (aU (ao 17) 1) (ao 17).aK (a5 2) .ret (r8 c i) (fun q=>[(q.b,c.blk)]) (fun _=>[(6, .bool false)]) (fun _=>[]):=by
 rcases lh (fun k=>c.uU i k) c.w with ⟨e,_⟩ | ⟨_,k,hk,hp,hn⟩
 . rw [show c.wJ i=true from e] at h;cases h
 . have ca:=H.ca
   have lR:=(zK H).2
   exact aW aG [bm 133 ak hi,ck (ao 17) 2 0 0 k aG (Da c i) (fun _=>(fun q=>[(q.b,c.blk)])) .ret (fun _=>[(6, .bool false)]) (fun _=>[]) (fun l hl=>Vy G F H hi (by omega) (hn l hl)) (alq G F H hi hk hp)]
noncomputable abbrev o9 (c:bP) (i:Nat) (q:aB):List (Nat × aa):=[(0,az c.M),(1,ak c.w),(5, .ref q.b 0 0),(6, .bool false),(14,bW (bH c.C c.w)),(15,ak i)]
noncomputable abbrev z2 (c:bP) (i k:Nat) (q:aB):List (Nat × aa):=[(0,az c.M),(1,ak c.w),(5, .ref q.b 0 0),(6, .bool false),(14,bW (bH c.C c.w)),(15,ak i),(16,ak k)]
noncomputable abbrev Dg (c:bP) (i k:Nat) (q:aB):List (Nat × aa):=[(0,az c.M),(1,ak c.w),(5, .ref q.b 0 0),(6, .bool false),(14,bW (bH c.C c.w)),(15,ak i),(18,ak k)]
include F H in
theorem Nm {i k:Nat} (hi:i<(bH c.C c.w).length) (hk:k<(bH c.C c.w).length) (h:c.tc i k=true):a2 ab G (aU (ao 17) 4) (ao 17).aK (a5 0) .normal (z2 c i k) (fun q=>[(q.b,c.blk)]) (z2 c i (k+1)) (fun q=>[(q.b,c.blk)]):=by
 have hx:=(xl.1 (bc hk)).1
 obtain ⟨zE,lR⟩:=tK H
 have hj:i<c.bh.length:=by omega
 have hr:=H.hk _ (bc hj)
 have eo:(bH c.C c.w)[k]<(c.bh[i]).length:=by rw [hr.1];exact hx
 have bF:ag ab G 56 [((c.bh[i])[(bH c.C c.w)[k]]).T,(g4 i k).T] (.bool true):=by
   rw [<- h]
   unfold bP.tc
   rw [bj hj,bj hk,bj eo]
   exact Jj G F (hr.2 _ (bc eo)) (FI (n:=eG)) H.gg H.gg m5
 have lZ:=Hi G
 have ir:=Mg G
 by_cases e:i=k
 . rw [show g4 i k=a6 1 from if_pos e] at bF
   exact aW aG [bm 175 ak hk,hb 180 (ij (a:=i) (b:=k) (decide_eq_true e)),aQ 184 1 aj hj,aQ 188 1 ak hk,aQ 190 2 aT eo,hc ir,hc bF,a9 177 k]
 . rw [show g4 i k=a6 0 from if_neg e] at bF
   exact aW aG [bm 175 ak hk,hb 180 (ij (a:=i) (b:=k) (decide_eq_false e)),aQ 184 1 aj hj,aQ 188 1 ak hk,aQ 190 2 aT eo,hc lZ,hc bF,a9 177 k]
include F H in
theorem VQ {i k:Nat} (hi:i<(bH c.C c.w).length) (hk:k<c.M.length) (h:c.vo i k=true):a2 ab G (aU (ao 17) 5) (ao 17).aK (a5 0) .normal (Dg c i k) (fun q=>[(q.b,c.blk)]) (Dg c i (k+1)) (fun q=>[(q.b,c.blk)]):=by
 obtain ⟨zE,lR⟩:=tK H
 have hj:i<c.bh.length:=by omega
 have hr:=H.hk _ (bc hj)
 have hm:=H.hm _ (bc hk)
 have gi:=H.gi
 have ca:=H.ca
 have uL:bO K q (lg K c.M[k] nm eG):=by unfold lg;rw [hm.1];exact H.lL
 have x1:=Hh G F (a:=c.M[k]) (b:=c.bh[i]) (by omega) (by omega) hm.2 hr.2 H.qj H.gg uL
 unfold bP.vo at h
 rw [bj hk,bj hj] at h
 have bF:=CE G F (BH hm.2 hr.2) uL h true
 exact aW aG [bm 199 aj hk,aQ 204 1 aj hk,aQ 209 1 aj hj,hc x1,hc bF,hb 213 (z7 h),a9 201 k]
include F H in
theorem al2 {i k:Nat} (hi:i<(bH c.C c.w).length) (hk:k<(bH c.C c.w).length) (h:c.tc i k=false):a2 ab G (aU (ao 17) 4) (ao 17).aK (a5 0) .ret (z2 c i k) (fun q=>[(q.b,c.blk)]) (fun _=>[(6, .bool false)]) (fun _=>[]):=by
 have hx:=(xl.1 (bc hk)).1
 obtain ⟨zE,lR⟩:=tK H
 have hj:i<c.bh.length:=by omega
 have hr:=H.hk _ (bc hj)
 have eo:(bH c.C c.w)[k]<(c.bh[i]).length:=by rw [hr.1];exact hx
 have bF:ag ab G 56 [((c.bh[i])[(bH c.C c.w)[k]]).T,(g4 i k).T] (.bool false):=by
   rw [<- h]
   unfold bP.tc
   rw [bj hj,bj hk,bj eo]
   exact Jj G F (hr.2 _ (bc eo)) (FI (n:=eG)) H.gg H.gg m5
 have lZ:=Hi G
 have ir:=Mg G
 by_cases e:i=k
 . rw [show g4 i k=a6 1 from if_pos e] at bF
   exact aW aG [bm 175 ak hk,hb 180 (ij (a:=i) (b:=k) (decide_eq_true e)),aQ 184 1 aj hj,aQ 188 1 ak hk,aQ 190 2 aT eo,hc ir,hc bF]
 . rw [show g4 i k=a6 0 from if_neg e] at bF
   exact aW aG [bm 175 ak hk,hb 180 (ij (a:=i) (b:=k) (decide_eq_false e)),aQ 184 1 aj hj,aQ 188 1 ak hk,aQ 190 2 aT eo,hc lZ,hc bF]
include F H in
theorem al1 {i k:Nat} (hi:i<(bH c.C c.w).length) (hk:k<c.M.length) (h:c.vo i k=false):a2 ab G (aU (ao 17) 5) (ao 17).aK (a5 0) .ret (Dg c i k) (fun q=>[(q.b,c.blk)]) (fun _=>[(6, .bool false)]) (fun _=>[]):=by
 obtain ⟨zE,lR⟩:=tK H
 have hj:i<c.bh.length:=by omega
 have hr:=H.hk _ (bc hj)
 have hm:=H.hm _ (bc hk)
 have gi:=H.gi
 have ca:=H.ca
 have uL:bO K q (lg K c.M[k] nm eG):=by unfold lg;rw [hm.1];exact H.lL
 have x1:=Hh G F (a:=c.M[k]) (b:=c.bh[i]) (by omega) (by omega) hm.2 hr.2 H.qj H.gg uL
 unfold bP.vo at h
 rw [bj hk,bj hj] at h
 have bF:=CE G F (BH hm.2 hr.2) uL h true
 exact aW aG [bm 199 aj hk,aQ 204 1 aj hk,aQ 209 1 aj hj,hc x1,hc bF,hb 213 (z7 h)]
include F H in
theorem Ib {i:Nat} (hi:i<(bH c.C c.w).length) (h:c.qp i=true) (g:c.uY i=true):a2 ab G (aU (ao 17) 3) (ao 17).aK (a5 2) .normal (o9 c i) (fun q=>[(q.b,c.blk)]) (o9 c (i+1)) (fun q=>[(q.b,c.blk)]):=by
 have gi:=H.gi
 obtain ⟨zE,lR⟩:=tK H
 have h':∀ k,k<(bH c.C c.w).length->c.tc i k=true:=fun k hk=>eO.1 h k (cR.2 hk)
 have g':∀ k,k<c.M.length->c.vo i k=true:=fun k hk=>eO.1 g k (cR.2 hk)
 exact aW ⟨[1],[4000001,0],[3],[4]⟩ [bm 169 ak hi,ck (ao 17) 4 0 0 (bH c.C c.w).length aG (z2 c i) (fun _=>(fun q=>[(q.b,c.blk)])) (.exit 8) (o9 c i) (fun q=>[(q.b,c.blk)]) (fun k hk=>Nm G F H hi hk (h' k hk)) (aW aG [cx 175 ak (bH c.C c.w)]),ck (ao 17) 5 0 1 c.M.length ⟨[1],[2000001,0],[3],[4]⟩ (Dg c i) (fun _=>(fun q=>[(q.b,c.blk)])) (.exit 10) (o9 c i) (fun q=>[(q.b,c.blk)]) (fun k hk=>VQ G F H hi hk (g' k hk)) (aW aG [cx 199 aj c.M]),a9 171 i]
include F H in
theorem VS {i:Nat} (hi:i<(bH c.C c.w).length) (h:c.qp i=true) (g:c.uY i=false):a2 ab G (aU (ao 17) 3) (ao 17).aK (a5 2) .ret (o9 c i) (fun q=>[(q.b,c.blk)]) (fun _=>[(6, .bool false)]) (fun _=>[]):=by
 rcases lh (fun k=>c.vo i k) c.M.length with ⟨e,_⟩ | ⟨_,j,hj,hp,hn⟩
 . rw [show c.uY i=true from e] at g;cases g
 . have gi:=H.gi
   obtain ⟨zE,lR⟩:=tK H
   have h':∀ k,k<(bH c.C c.w).length->c.tc i k=true:=fun k hk=>eO.1 h k (cR.2 hk)
   exact aW aG [bm 169 ak hi,ck (ao 17) 4 0 0 (bH c.C c.w).length aG (z2 c i) (fun _=>(fun q=>[(q.b,c.blk)])) (.exit 8) (o9 c i) (fun q=>[(q.b,c.blk)]) (fun k hk=>Nm G F H hi hk (h' k hk)) (aW aG [cx 175 ak (bH c.C c.w)]),ck (ao 17) 5 0 1 j ⟨[1],[2000001,0],[3],[4]⟩ (Dg c i) (fun _=>(fun q=>[(q.b,c.blk)])) .ret (fun _=>[(6, .bool false)]) (fun _=>[]) (fun k hk=>VQ G F H hi (by omega) (hn k hk)) (al1 G F H hi hj hp)]
include F H in
theorem VR {i:Nat} (hi:i<(bH c.C c.w).length) (h:c.qp i=false):a2 ab G (aU (ao 17) 3) (ao 17).aK (a5 2) .ret (o9 c i) (fun q=>[(q.b,c.blk)]) (fun _=>[(6, .bool false)]) (fun _=>[]):=by
 rcases lh (fun k=>c.tc i k) (bH c.C c.w).length with ⟨e,_⟩ | ⟨_,j,hj,hp,hn⟩
 . rw [show c.qp i=true from e] at h;cases h
 . have gi:=H.gi
   obtain ⟨zE,lR⟩:=tK H
   exact aW aG [bm 169 ak hi,ck (ao 17) 4 0 0 j aG (z2 c i) (fun _=>(fun q=>[(q.b,c.blk)])) .ret (fun _=>[(6, .bool false)]) (fun _=>[]) (fun l hl=>Nm G F H hi (by omega) (hn l hl)) (al2 G F H hi hj hp)]
def wx {p b:Nat->Bool} {N:Nat} (h:∀ i,i<N->p i=b i):(ba N).all p=(ba N).all b:=by
 rw [vX,eO,eO]
 exact ⟨λ k i a=>by rw [<- h i (cR.1 a)];exact k i a, λ k i a=>by rw [h i (cR.1 a)];exact k i a⟩
def K1 {x b y a:ar} (h1:x.2.val=b.2.val) (c:y.2.val=a.2.val):eh x y=eh b a:=by
 rw [vX,m5,m5,h1,c]
def ads (x y:ar):eh x y=eh y x:=by
 rw [vX,m5,m5];exact eq_comm
def adr (x:ar):eh x (a6 0)=x.b9:=by
 rw [vX,m5,ar.oT,alj]
end
section
variable {K:cT} {q nm eG:Nat} {c:bP} (H:c.uB K q nm eG)
include H
def Vr:c.zT=c.su:=by
 have t:=H.li
 unfold bP.zT bP.su bP.oC BP
 have l:(qF c.inv c.fB).length=c.inv.length:=aM ..
 rw [l]
 refine wx λ i b => ?_
 have h1:(qF c.inv c.fB).getD i []=pB (er c.fB) c.inv[i]:=by
   rw [bj (by rw [l];exact b)]
   exact k8 ..
 have s:(jK c.R.length).getD i []=eM c.R.length (some i):=by
   rw [bj (by rw [wV];omega)]
   unfold jK
   rw [k8,p9]
 rw [h1,s]
 unfold xD
 have a:c.fB.length=c.R.length:=(aM ..).trans (KB H)
 have f:c.fB≠[] := λ h=>by rw [h] at a;simp at a;omega
 have d:bw K nm c.C.length c.fB:=CG (KC H) c.C
 have lt:(er c.fB).length=c.C.length:=by rw [Ak,jG d f]
 have m:(pB (er c.fB) c.inv[i]).length=c.C.length:=(aM ..).trans lt
 rw [m]
 refine wx λ k g => ?_
 have p:=H.hi _ (bc b)
 have n:(pB (er c.fB) c.inv[i]).getD k (a6 0)=jd (iy c.fB k) c.inv[i]:=by
   rw [bj (by rw [m];exact g)]
   unfold pB er
   rw [k8,k8,p9]
 have r:(eM c.R.length (some i)).getD k (a6 0)=g4 i k:=by
   have j:k<(eM c.R.length (some i)).length:=by rw [nw];have:=H.lc;omega
   have o:(eM c.R.length (some i))[k]=if some k=some i then a6 1 else a6 0:=(k8 ..).trans (by rw [p9])
   rw [bj j,o]
   unfold g4
   by_cases e:i=k
   rw [if_pos e,if_pos (by rw [e])]
   rw [if_neg e,if_neg (λ h=>e (Option.some.inj h).symm)]
 rw [n,r]
 unfold bP.oF
 rw [bj b,bj g]
 exact K1 (agm H.hm p.2 g) rfl
def ak1:c.xr=c.tR:=by
 unfold bP.xr bP.tR
 rw [Fm c.R (λ i j=>c.gg i j)]
 refine wx λ i d => ?_
 unfold bP.wJ bP.gg
 refine wx λ k b => ?_
 unfold bP.uU bP.oD
 have a:i<c.cj.length:=by have:=(zK H).1;omega
 have hc:=H.oO _ (bc a)
 rw [bj a,ads]
 exact K1 (acy H.hm hc.2) rfl
def ak6:c.xt=c.sv:=by
 unfold bP.xt bP.sv
 rw [Fm c.C (λ k n=>c.lL k n&&c.r4 n)]
 refine wx λ i f => ?_
 have d:i<c.bh.length:=by have:=(tK H).1;omega
 have l:=H.hk _ (bc d)
 have m:c.qp i=c.lL ((bH c.C c.w).getD i 0) i:=by
   unfold bP.lL bP.nN
   rw [Fm c.C (λ j _=>eh ((c.bh.getD i []).getD j (a6 0)) (g4 j ((bH c.C c.w).getD i 0)))]
   unfold bP.qp
   refine wx λ k a => ?_
   unfold bP.tc
   have p:g4 i k=g4 ((bH c.C c.w).getD k 0) ((bH c.C c.w).getD i 0):=by
     rw [bj a,bj f]
     unfold g4
     have b:=(List.getElem_inj (UQ c.C c.w) (h₀:=f) (h₁:=a))
     by_cases e:i=k
     subst e;rw [if_pos rfl,if_pos rfl]
     rw [if_neg e,if_neg λ h=>e (b.1 h.symm)]
   rw [p]
 have o:c.uY i=c.r4 i:=by
   unfold bP.uY bP.r4
   refine wx λ k a => ?_
   unfold bP.vo
   have g:=H.hm _ (bc a)
   rw [bj a,bj d, <- adr]
   exact K1 (ag4 g.2 l.2) rfl
 rw [m,o]
end
section
variable (G:Nat->Option (List aa)) {K:cT} {q e r:Nat} (F:gG K q e r) {nm eG:Nat}
include F
def ak5 {c:bP} (H:c.uB K q nm eG) (eA:0<c.R.length):ag ab G 30 [az c.inv,az c.fB] (az (qF c.inv c.fB))/\ag ab G 29 [az (qF c.inv c.fB),az (jK c.R.length)] (.bool c.zT):=by
 have A:=H.cL
 have B:=H.lc
 have k:=H.li
 have a:c.fB.length=c.R.length:=(aM ..).trans (KB H)
 have f:c.fB≠[] := λ h=>by rw [h] at a;simp at a;omega
 have b:bw K nm c.C.length c.fB:=CG (KC H) c.C
 have lt:(er c.fB).length=c.C.length:=by rw [Ak,jG b f]
 have hb:bO K q (c.fB.length*(nm+eG+K.c+1)):=by rw [a,Nat.add_comm nm eG];exact H.oC
 have m:jC K (c.fB.length*(nm+eG+K.c+1)) (qF c.inv c.fB) := λ x g=>by
   obtain ⟨y,s,rfl⟩:=bn.1 g
   intro z l
   obtain ⟨u,hu,rfl⟩:=bn.1 l
   have j:=Aj b u hu
   have:=BH j.2 (H.hi y s).2
   rw [j.1] at this
   exact this
 refine ⟨ahW G F H.hi.yA b f (λ x g=>by rw [(H.hi x g).1,a]) (by omega) (by omega) (by omega) H.gg H.qj hb, ?_⟩
 have p:(qF c.inv c.fB).length=c.inv.length:=aM ..
 exact ahO G F (by rw [p,wV];exact k) (by omega) (λ i w o=>by
   have h1:(qF c.inv c.fB)[i]=pB (er c.fB) (c.inv[i]'(by omega)):=k8 ..
   have t:(jK c.R.length)[i]=eM c.R.length (some i):=(k8 ..).trans (by rw [p9])
   rw [h1,t,nw]
   have v:(pB (er c.fB) (c.inv[i]'(by omega))).length=c.C.length:=(aM ..).trans lt
   omega) m ((zg (K:=K) (n:=eG) _).yA) hb H.gg
def ala {c:bP} (H:c.uB K q nm eG) (x1:ag ab G 54 [az c.M,bU c.M.length,bU c.w] (.bool true)) (bF:ag ab G 55 [bW c.R,ak c.M.length] (.bool true)) (z:ag ab G 55 [bW c.C,ak c.w] (.bool true)) (y:ag ab G 54 [az c.inv,bU c.R.length,bU c.R.length] (.bool true)) (o:ag ab G 54 [az c.cj,bU ((c.M.length:Int)-(c.R.length:Int)),bU c.R.length] (.bool true)) (J:ag ab G 54 [az c.bh,bU ((c.w:Int)-(c.R.length:Int)),bU c.w] (.bool true)) :
   ag ab G 17 [az c.M,ak c.w, .agg [bW c.R,bW c.C,az c.inv,az c.cj,az c.bh]] (.bool (c.zT&&(c.xr&&c.xt))):=by
 have Y:=H.gi
 have V:=H.cL
 have X:=H.ca
 have Z:=H.lc
 have w0:decide ((c.w:Int)<0)=false:=decide_eq_false (by omega)
 have I:((c.R.length:Int) != (c.C.length:Int))=false:=by rw [Z];exact bne_self_eq_false _
 have g:(((c.R.map ak).length:Nat):Int)=(c.R.length:Int):=by rw [aM]
 have h:(((c.C.map ak).length:Nat):Int)=(c.C.length:Int):=by rw [aM]
 have dz:=Mh G c.R.length (by omega)
 have N:ag ab G 47 [bW c.R,ak c.M.length] (bW (bH c.R c.M.length)):=Mi G (l:=c.R) (n:=c.M.length) (by omega) (by omega)
 have Q:ag ab G 47 [bW c.C,ak c.w] (bW (bH c.C c.w)):=Mi G (l:=c.C) (n:=c.w) (by omega) (by omega)
 have ⟨arx,ary⟩:=zK H
 have ⟨arv,arw⟩:=tK H
 have E:=oc (a:=c.M.length) (b:=c.R.length) Y V
 have u:=oc (a:=c.w) (b:=c.R.length) X V
 by_cases eA:0<c.R.length
 have g0:decide ((c.R.length:Int)>0)=true:=decide_eq_true (by omega)
 have ⟨S,L⟩:=ak5 G F H eA
 cases P:c.zT with
 | false =>
   rw [P] at L
   rw [nI]
   exact bB [hb 20 w0,hw 24 (cV (M:=c.M)),hc x1,hw 33 (cV (M:=c.M)),hc bF,hc z,hw 47 g,hw 50 h,hb 51 I,hw 55 g,hc y,hw 66 (cV (M:=c.M)),hw 68 E,hc o,hw 78 u,hc J,ck (ao 17) 0 0 0 c.R.length ⟨[1],[0,0],[3],[4]⟩ (my c) (mw c) (.exit 0) (λ q=>(9,az c.ch)::(8,az c.fB)::[(5, .ref q.b 0 0),(0,az c.M),(1,ak c.w),(6, .bool false),(7,ak c.R.length)]) (λ q=>[(q.b,c.blk)]) (λ i d=>xw G H d) (xv G),hb 114 g0,hc S,hc dz,hc L]
 | true =>
   rw [P] at L
   rw [hP]
   rcases lh (λ i=>c.wJ i) (bH c.R c.M.length).length with ⟨m,O⟩ | ⟨m,U,v,x,A⟩
   rw [show c.xr=true from m,hP]
   rcases lh (λ i=>c.qp i&&c.uY i) (bH c.C c.w).length with ⟨B,T⟩ | ⟨B,pI,k,j,D⟩
   rw [show c.xt=true from B]
   exact bB [hb 20 w0,hw 24 (cV (M:=c.M)),hc x1,hw 33 (cV (M:=c.M)),hc bF,hc z,hw 47 g,hw 50 h,hb 51 I,hw 55 g,hc y,hw 66 (cV (M:=c.M)),hw 68 E,hc o,hw 78 u,hc J,ck (ao 17) 0 0 0 c.R.length ⟨[1],[0,0],[3],[4]⟩ (my c) (mw c) (.exit 0) (λ q=>(9,az c.ch)::(8,az c.fB)::[(5, .ref q.b 0 0),(0,az c.M),(1,ak c.w),(6, .bool false),(7,ak c.R.length)]) (λ q=>[(q.b,c.blk)]) (λ i d=>xw G H d) (xv G),hb 114 g0,hc S,hc dz,hc L,hw 128 (cV (M:=c.M)),hc N,ck (ao 17) 1 2 1 (bH c.R c.M.length).length ⟨[1],[2000001,0],[3],[4]⟩ (r8 c) (λ _=>(λ q=>[(q.b,c.blk)])) (.exit 2) (λ q=>[(0,az c.M),(1,ak c.w),(5, .ref q.b 0 0),(6, .bool false)]) (λ q=>[(q.b,c.blk)]) (λ i d=>zV G F H d (O i d)) (aW aG [cx 133 ak (bH c.R c.M.length)]),hc Q,ck (ao 17) 3 2 2 (bH c.C c.w).length ⟨[1],[400000000000001,0],[3],[4]⟩ (o9 c) (λ _=>(λ q=>[(q.b,c.blk)])) (.exit 6) (λ _=>[]) (λ _=>[]) (λ i d=>by
   have:=T i d
   rw [hJ] at this
   exact Ib G F H d this.1 this.2) (aW aG [cx 169 ak (bH c.C c.w)])]
   rw [show c.xt=false from B]
   have t:a2 ab G (aU (ao 17) 3) (ao 17).aK (a5 2) .ret (o9 c pI) (λ q=>[(q.b,c.blk)]) (λ _=>[(6, .bool false)]) (λ _=>[]):=by
     cases p:c.qp pI with
     | false=>exact VR G F H k p
     | true =>
       rw [p,hP] at j
       exact VS G F H k p j
   exact bB [hb 20 w0,hw 24 (cV (M:=c.M)),hc x1,hw 33 (cV (M:=c.M)),hc bF,hc z,hw 47 g,hw 50 h,hb 51 I,hw 55 g,hc y,hw 66 (cV (M:=c.M)),hw 68 E,hc o,hw 78 u,hc J,ck (ao 17) 0 0 0 c.R.length ⟨[1],[0,0],[3],[4]⟩ (my c) (mw c) (.exit 0) (λ q=>(9,az c.ch)::(8,az c.fB)::[(5, .ref q.b 0 0),(0,az c.M),(1,ak c.w),(6, .bool false),(7,ak c.R.length)]) (λ q=>[(q.b,c.blk)]) (λ i d=>xw G H d) (xv G),hb 114 g0,hc S,hc dz,hc L,hw 128 (cV (M:=c.M)),hc N,ck (ao 17) 1 2 1 (bH c.R c.M.length).length ⟨[1],[2000001,0],[3],[4]⟩ (r8 c) (λ _=>(λ q=>[(q.b,c.blk)])) (.exit 2) (λ q=>[(0,az c.M),(1,ak c.w),(5, .ref q.b 0 0),(6, .bool false)]) (λ q=>[(q.b,c.blk)]) (λ i d=>zV G F H d (O i d)) (aW aG [cx 133 ak (bH c.R c.M.length)]),hc Q,ck (ao 17) 3 2 2 pI ⟨[1],[400000000000001,0],[3],[4]⟩ (o9 c) (λ _=>(λ q=>[(q.b,c.blk)])) .ret (λ _=>[(6, .bool false)]) (λ _=>[]) (λ i d=>by
   have:=D i d
   rw [hJ] at this
   exact Ib G F H (by omega) this.1 this.2) t]
   rw [show c.xr=false from m,nI]
   exact bB [hb 20 w0,hw 24 (cV (M:=c.M)),hc x1,hw 33 (cV (M:=c.M)),hc bF,hc z,hw 47 g,hw 50 h,hb 51 I,hw 55 g,hc y,hw 66 (cV (M:=c.M)),hw 68 E,hc o,hw 78 u,hc J,ck (ao 17) 0 0 0 c.R.length ⟨[1],[0,0],[3],[4]⟩ (my c) (mw c) (.exit 0) (λ q=>(9,az c.ch)::(8,az c.fB)::[(5, .ref q.b 0 0),(0,az c.M),(1,ak c.w),(6, .bool false),(7,ak c.R.length)]) (λ q=>[(q.b,c.blk)]) (λ i d=>xw G H d) (xv G),hb 114 g0,hc S,hc dz,hc L,hw 128 (cV (M:=c.M)),hc N,ck (ao 17) 1 2 1 U ⟨[1],[2000001,0],[3],[4]⟩ (r8 c) (λ _=>(λ q=>[(q.b,c.blk)])) .ret (λ _=>[(6, .bool false)]) (λ _=>[]) (λ i d=>zV G F H (by omega) (A i d)) (Vz G F H v x)]
 have g0:decide ((c.R.length:Int)>0)=false:=decide_eq_false (by omega)
 have P:c.zT=true:=by
   rw [Vr H]
   unfold bP.su
   rw [show c.inv.length=0 by have:=H.li;omega]
   rfl
 rw [P,hP]
 rcases lh (λ i=>c.wJ i) (bH c.R c.M.length).length with ⟨m,O⟩ | ⟨m,U,v,x,A⟩
 rw [show c.xr=true from m,hP]
 rcases lh (λ i=>c.qp i&&c.uY i) (bH c.C c.w).length with ⟨B,T⟩ | ⟨B,pI,k,j,D⟩
 rw [show c.xt=true from B]
 exact bB [hb 20 w0,hw 24 (cV (M:=c.M)),hc x1,hw 33 (cV (M:=c.M)),hc bF,hc z,hw 47 g,hw 50 h,hb 51 I,hw 55 g,hc y,hw 66 (cV (M:=c.M)),hw 68 E,hc o,hw 78 u,hc J,ck (ao 17) 0 0 0 c.R.length ⟨[1],[0,0],[3],[4]⟩ (my c) (mw c) (.exit 0) (λ q=>(9,az c.ch)::(8,az c.fB)::[(5, .ref q.b 0 0),(0,az c.M),(1,ak c.w),(6, .bool false),(7,ak c.R.length)]) (λ q=>[(q.b,c.blk)]) (λ i d=>xw G H d) (xv G),hb 114 g0,hw 128 (cV (M:=c.M)),hc N,ck (ao 17) 1 2 1 (bH c.R c.M.length).length ⟨[1],[2000001,0],[3],[4]⟩ (r8 c) (λ _=>(λ q=>[(q.b,c.blk)])) (.exit 2) (λ q=>[(0,az c.M),(1,ak c.w),(5, .ref q.b 0 0),(6, .bool false)]) (λ q=>[(q.b,c.blk)]) (λ i d=>zV G F H d (O i d)) (aW aG [cx 133 ak (bH c.R c.M.length)]),hc Q,ck (ao 17) 3 2 2 (bH c.C c.w).length ⟨[1],[400000000000001,0],[3],[4]⟩ (o9 c) (λ _=>(λ q=>[(q.b,c.blk)])) (.exit 6) (λ _=>[]) (λ _=>[]) (λ i d=>by
   have:=T i d
   rw [hJ] at this
   exact Ib G F H d this.1 this.2) (aW aG [cx 169 ak (bH c.C c.w)])]
 rw [show c.xt=false from B]
 have t:a2 ab G (aU (ao 17) 3) (ao 17).aK (a5 2) .ret (o9 c pI) (λ q=>[(q.b,c.blk)]) (λ _=>[(6, .bool false)]) (λ _=>[]):=by
   cases p:c.qp pI with
   | false=>exact VR G F H k p
   | true =>
     rw [p,hP] at j
     exact VS G F H k p j
 exact bB [hb 20 w0,hw 24 (cV (M:=c.M)),hc x1,hw 33 (cV (M:=c.M)),hc bF,hc z,hw 47 g,hw 50 h,hb 51 I,hw 55 g,hc y,hw 66 (cV (M:=c.M)),hw 68 E,hc o,hw 78 u,hc J,ck (ao 17) 0 0 0 c.R.length ⟨[1],[0,0],[3],[4]⟩ (my c) (mw c) (.exit 0) (λ q=>(9,az c.ch)::(8,az c.fB)::[(5, .ref q.b 0 0),(0,az c.M),(1,ak c.w),(6, .bool false),(7,ak c.R.length)]) (λ q=>[(q.b,c.blk)]) (λ i d=>xw G H d) (xv G),hb 114 g0,hw 128 (cV (M:=c.M)),hc N,ck (ao 17) 1 2 1 (bH c.R c.M.length).length ⟨[1],[2000001,0],[3],[4]⟩ (r8 c) (λ _=>(λ q=>[(q.b,c.blk)])) (.exit 2) (λ q=>[(0,az c.M),(1,ak c.w),(5, .ref q.b 0 0),(6, .bool false)]) (λ q=>[(q.b,c.blk)]) (λ i d=>zV G F H d (O i d)) (aW aG [cx 133 ak (bH c.R c.M.length)]),hc Q,ck (ao 17) 3 2 2 pI ⟨[1],[400000000000001,0],[3],[4]⟩ (o9 c) (λ _=>(λ q=>[(q.b,c.blk)])) .ret (λ _=>[(6, .bool false)]) (λ _=>[]) (λ i d=>by
   have:=D i d
   rw [hJ] at this
   exact Ib G F H (by omega) this.1 this.2) t]
 rw [show c.xr=false from m,nI]
 exact bB [hb 20 w0,hw 24 (cV (M:=c.M)),hc x1,hw 33 (cV (M:=c.M)),hc bF,hc z,hw 47 g,hw 50 h,hb 51 I,hw 55 g,hc y,hw 66 (cV (M:=c.M)),hw 68 E,hc o,hw 78 u,hc J,ck (ao 17) 0 0 0 c.R.length ⟨[1],[0,0],[3],[4]⟩ (my c) (mw c) (.exit 0) (λ q=>(9,az c.ch)::(8,az c.fB)::[(5, .ref q.b 0 0),(0,az c.M),(1,ak c.w),(6, .bool false),(7,ak c.R.length)]) (λ q=>[(q.b,c.blk)]) (λ i d=>xw G H d) (xv G),hb 114 g0,hw 128 (cV (M:=c.M)),hc N,ck (ao 17) 1 2 1 U ⟨[1],[2000001,0],[3],[4]⟩ (r8 c) (λ _=>(λ q=>[(q.b,c.blk)])) .ret (λ _=>[(6, .bool false)]) (λ _=>[]) (λ i d=>zV G F H (by omega) (A i d)) (Vz G F H v x)]
variable {M:List (List ar)} {w:Nat} {c:fG}
def ak9 (S:Fa K q nm eG M w c):ag ab G 17 [az M,ak w,gl c] (.bool (n8 M w c)):=by
 have E:=S.gi
 have y:=S.cL
 have J:=S.ca
 have P:=S.fA
 have T:=S.i9
 have U:=S.lR
 have Q:=S.Cu
 have x1:=H0 G (M:=M) (rows:=(M.length:Int)) (w:=(w:Int)) (by omega)
 have bF:=Vp G (l:=c.rows) (n:=M.length) (by omega)
 have b:=Vp G (l:=c.bt) (n:=w) (by omega)
 have f:=H0 G (M:=c.inv) (rows:=(c.rows.length:Int)) (w:=(c.rows.length:Int)) (by omega)
 have g:=H0 G (M:=c.cj) (rows:=(M.length:Int)-(c.rows.length:Int)) (w:=(c.rows.length:Int)) (by omega)
 have j:=H0 G (M:=c.bh) (rows:=(w:Int)-(c.rows.length:Int)) (w:=(w:Int)) (by omega)
 have w0:decide ((w:Int)<0)=false:=decide_eq_false (by omega)
 have t:∀ {z:Bool},xj c=z->((c.rows.length:Int) != (c.bt.length:Int)) = !z := λ {z} h=>Hq (by
   rw [<- h]
   unfold xj
   by_cases e:(c.bt.length:Int)=(c.rows.length:Int)
   rw [decide_eq_true e,decide_eq_true e.symm]
   rw [decide_eq_false e,decide_eq_false λ h=>e h.symm])
 have N := λ h=>Q5 S h
 unfold n8
 by_cases d:n6 M w c=true
 have ⟨H,A,B⟩:=N d
 rw [d,hP, <- Vr H, <- ak1 H, <- ak6 H]
 have a:=d
 unfold n6 zF zG zH HB at a
 simp only [hJ] at a
 have ⟨p,s,o,i,k,m,I⟩:=a
 rw [p] at x1
 rw [s] at bF
 rw [o] at b
 rw [k] at f
 rw [m] at g
 rw [I] at j
 have O:(gO M w c).R.length=c.rows.length:=aM ..
 have L:gl c = .agg [bW (gO M w c).R,bW (gO M w c).C,az (gO M w c).inv,az (gO M w c).cj,az (gO M w c).bh]:=by
   unfold gl
   conv=>lhs;rw [A,B]
   rw [vc,vc]
   rfl
 have u:kP c.rows=bW (gO M w c).R:=by
   conv=>lhs;rw [A]
   exact vc _
 have v:kP c.bt=bW (gO M w c).C:=by
   conv=>lhs;rw [B]
   exact vc _
 rw [L]
 rw [u] at bF
 rw [v] at b
 rw [<- O] at f g j
 exact ala G F H x1 bF b f g j
 have a:n6 M w c=false:=by simpa using d
 rw [a,nI]
 unfold n6 at a
 cases p:zF M w with
 | false =>
   have s':iS M (M.length:Int) (w:Int)=false:=p
   rw [s'] at x1
   exact aO [hb 20 w0,hw 24 (cV (M:=M)),hc x1]
 | true =>
   have s':iS M (M.length:Int) (w:Int)=true:=p
   rw [s'] at x1
   rw [p,hP] at a
   cases s:oB c.rows M.length with
   | false =>
     rw [s] at bF
     exact aO [hb 20 w0,hw 24 (cV (M:=M)),hc x1,hw 33 (cV (M:=M)),hc bF]
   | true =>
     rw [s] at bF
     rw [s,hP] at a
     cases o:oB c.bt w with
     | false =>
       rw [o] at b
       exact aO [hb 20 w0,hw 24 (cV (M:=M)),hc x1,hw 33 (cV (M:=M)),hc bF,hc b]
     | true =>
       rw [o] at b
       rw [o,hP] at a
       cases i:xj c with
       | false =>
         exact aO [hb 20 w0,hw 24 (cV (M:=M)),hc x1,hw 33 (cV (M:=M)),hc bF,hc b,hw 47 (g8 (l:=c.rows)),hw 50 (g8 (l:=c.bt)),hb 51 (t i)]
       | true =>
         rw [i,hP] at a
         cases k:zG c with
         | false =>
           have s':iS c.inv (c.rows.length:Int) (c.rows.length:Int)=false:=k
           rw [s'] at f
           exact aO [hb 20 w0,hw 24 (cV (M:=M)),hc x1,hw 33 (cV (M:=M)),hc bF,hc b,hw 47 (g8 (l:=c.rows)),hw 50 (g8 (l:=c.bt)),hb 51 (t i),hw 55 (g8 (l:=c.rows)),hc f]
         | true =>
           have s':iS c.inv (c.rows.length:Int) (c.rows.length:Int)=true:=k
           rw [s'] at f
           rw [k,hP] at a
           cases m:zH M c with
           | false =>
             have s':iS c.cj ((M.length:Int)-(c.rows.length:Int)) (c.rows.length:Int)=false:=m
             rw [s'] at g
             exact aO [hb 20 w0,hw 24 (cV (M:=M)),hc x1,hw 33 (cV (M:=M)),hc bF,hc b,hw 47 (g8 (l:=c.rows)),hw 50 (g8 (l:=c.bt)),hb 51 (t i),hw 55 (g8 (l:=c.rows)),hc f,hw 66 (cV (M:=M)),hw 68 (oc E y),hc g]
           | true =>
             have s':iS c.cj ((M.length:Int)-(c.rows.length:Int)) (c.rows.length:Int)=true:=m
             rw [s'] at g
             rw [m,hP] at a
             have x:iS c.bh ((w:Int)-(c.rows.length:Int)) (w:Int)=false:=a
             rw [x] at j
             exact aO [hb 20 w0,hw 24 (cV (M:=M)),hc x1,hw 33 (cV (M:=M)),hc bF,hc b,hw 47 (g8 (l:=c.rows)),hw 50 (g8 (l:=c.bt)),hb 51 (t i),hw 55 (g8 (l:=c.rows)),hc f,hw 66 (cV (M:=M)),hw 68 (oc E y),hc g,hw 78 (oc J y),hc j]
end
def lr (l:List aI):Nat:=l.foldl (λ m a=>if a.T.1>m then a.T.1 else m) 0
def air {l:List aI} {i:Nat} (a:i<l.length):lr (l.take (i+1))=if l[i].T.1>lr (l.take i) then l[i].T.1 else lr (l.take i):=by
 unfold lr
 rw [iH a,List.foldl_append]
 rfl
abbrev u8 (n:Nat):aa := .int .u8 (n:Int)
def tf (ops:List fF) (at_:List Nat) (a:Nat):aa := .agg [.sl 5 (ops.map kS), .sl 1 (at_.map u8),u8 a]
instance {ops:List fF} {at_:List Nat} {a:Nat}:bg (tf ops at_ a):=by
 haveI:bg (.sl 5 (ops.map kS)):=cU.map (m:=5) (λ x=>inferInstance) ops
 haveI:bg (.sl 1 (at_.map u8)):=cU.map (m:=1) (λ x=>inferInstance) at_
 unfold tf;infer_instance
def g5 (l:List aI) (at_:List Nat) (n j m:Nat):List ar:=(ba m).map λ k=>((true,l.getD (at_.getD (j*n+k) 0%l.length) (aI.rat 0)):ar)
def gP (l:List aI) (at_:List Nat) (n m:Nat):List (List ar):=(ba m).map λ j=>g5 l at_ n j n
def Se (l:List aI) (at_:List Nat) (n j m:Nat):g5 l at_ n j (m+1)=g5 l at_ n j m++[(true,l.getD (at_.getD (j*n+m) 0%l.length) (aI.rat 0))]:=by unfold g5;rw [ke,dU,ic]
def Sc (l:List aI) (at_:List Nat) (n m:Nat):gP l at_ n (m+1)=gP l at_ n m++[g5 l at_ n m n]:=by unfold gP;rw [ke,dU,ic]
section
variable (G:Nat->Option (List aa))
noncomputable abbrev TB (l:List aI) (i:Nat):List (Nat × aa):=[(0,gT l),(3,ak (lr (l.take i))),(4,ak i)]
def ahU {l:List aI} (d:l.length<=9000):ag ab G 93 [gT l] (ak (lr l)):=by
 have e:lr l=lr (l.take l.length):=by rw [gn]
 rw [e]
 refine bB [fb (ao 93) 0 0 0 l.length (TB l) (.exit 0) [(3,ak (lr (l.take l.length)))] (λ i a => ?_) (rd [cx 8 aw l] )]
 have b:((((l[i].T.2.ay).map bb).length:Nat):Int)=(l[i].T.1:Int):=by rw [aM,aE.zU]
 unfold TB
 rw [air a]
 by_cases h:l[i].T.1>lr (l.take i)
 rw [if_pos h]
 exact rd [bm 8 aw a,aQ 13 2 aw a,hw 16 b,hb 18 (show decide ((l[i].T.1:Int)>(lr (l.take i):Int))=true from decide_eq_true (by omega)),aQ 21 2 aw a,hw 24 b,a9 10 i]
 rw [if_neg h]
 exact rd [bm 8 aw a,aQ 13 2 aw a,hw 16 b,hb 18 (show decide ((l[i].T.1:Int)>(lr (l.take i):Int))=false from decide_eq_false (by omega)),a9 10 i]
def TR (l:List aI) (i:Nat) (b:i<256) (c:l.length<=9000):ag ab G 92 [gT l,ak i] (aT (true,l.getD (i%l.length) (aI.rat 0))):=by
 by_cases h:l=[]
 subst h;exact aph G i
 exact apg G l i b h c
variable {ops:List fF} {at_:List Nat} {bt n:Nat} {l:List aI}
noncomputable abbrev e8 (ops:List fF) (at_:List Nat) (bt:Nat):aN:=⟨[tf ops at_ bt],3,false⟩
noncomputable abbrev nU (l:List aI) (n j k:Nat) (q:aB):List (Nat × aa):=[(2, .ref q.b 0 0),(4, .aq),(5, .bool false),(6,gT l),(7,ak n),(9,ak (j*n)),(11,ak k)]
noncomputable abbrev jI (l:List aI) (n j:Nat) (q:aB):List (Nat × aa):=[(2, .ref q.b 0 0),(4, .aq),(5, .bool false),(6,gT l),(7,ak n),(9,ak (j*n))]
def ad7 (f:l.length<=9000) (e:∀ a∈at_,a<256) (o:n<=12) {j k:Nat} (g:k<n) (c:j*n+k<at_.length) (m:at_.length<=9000):a2 ab G (aU (ao 44) 1) (ao 44).aK (a5 0) .normal (λ q=>(10,bq q.a 2 ((g5 l at_ n j k).map aT))::(8, .aq)::nU l n j k q) (λ q=>a8 q.a 2 ((g5 l at_ n j k).map aT)++[(q.b,e8 ops at_ bt)]) (λ q=>(10,bq q.a 2 ((g5 l at_ n j (k+1)).map aT))::(8, .aq)::nU l n j (k+1) q) (λ q=>a8 q.a 2 ((g5 l at_ n j (k+1)).map aT)++[(q.b,e8 ops at_ bt)]):=by
 have h:=e _ (bc c)
 have x:=TR G l (at_[j*n+k]) h f
 rw [Se,dU,ic,bj c]
 have i:((g5 l at_ n j k).map aT).length<=9000:=by rw [aM];unfold g5;rw [aM,dZ];omega
 exact sZ (key:=57) (bytes:=48) (N:=9000) (hb:=by decide) (A := λ q=>(8, .aq)::nU l n j k q) (B := λ q=>(8, .aq)::nU l n j (k+1) q) (bZ := λ q=>[(q.b,e8 ops at_ bt)]) (ct := λ q=>[(q.b,e8 ops at_ bt)]) (HD i) 14 ⟨[15,0],[2],[3],[4]⟩ (λ y=>[hb 42 (dW g),hw 51 (show cF.wrap (((j*n:Nat):Int)+(k:Int))=((j*n+k:Nat):Int) by rw [cM];omega),aQ 52 1 u8 c,hw 54 (lY ((at_[j*n+k]:Nat):Int) (by omega) (by omega)),hc x]++y++[a9 44 k])
def ad9 {L:List aa} [br L] [cq 1 L] (g:l.length<=9000) (f:∀ a∈at_,a<256) (p:n<=12) {j k:Nat} (h:k<n) (d:j*n+k<at_.length) (o:at_.length<=9000):a2 ab G (aU (ao 44) 1) (ao 44).aK (a5 0) .normal (λ q=>(10,bq q.a 2 ((g5 l at_ n j k).map aT))::(8, .ai q.c 1 0 L.length false)::nU l n j k q) (λ q=>a8 q.a 2 ((g5 l at_ n j k).map aT)++[(q.b,e8 ops at_ bt),(q.c,⟨L,1,false⟩)]) (λ q=>(10,bq q.a 2 ((g5 l at_ n j (k+1)).map aT))::(8, .ai q.c 1 0 L.length false)::nU l n j (k+1) q) (λ q=>a8 q.a 2 ((g5 l at_ n j (k+1)).map aT)++[(q.b,e8 ops at_ bt),(q.c,⟨L,1,false⟩)]):=by
 have i:=f _ (bc d)
 have x:=TR G l (at_[j*n+k]) i g
 rw [Se,dU,ic,bj d]
 have m:((g5 l at_ n j k).map aT).length<=9000:=by rw [aM];unfold g5;rw [aM,dZ];omega
 exact sZ (key:=57) (bytes:=48) (N:=9000) (hb:=by decide) (A := λ q=>(8, .ai q.c 1 0 L.length false)::nU l n j k q) (B := λ q=>(8, .ai q.c 1 0 L.length false)::nU l n j (k+1) q) (bZ := λ q=>[(q.b,e8 ops at_ bt),(q.c,⟨L,1,false⟩)]) (ct := λ q=>[(q.b,e8 ops at_ bt),(q.c,⟨L,1,false⟩)]) (HD m) 14 ⟨[15,0],[2],[3],[4]⟩ (λ y=>[hb 42 (dW h),hw 51 (show cF.wrap (((j*n:Nat):Int)+(k:Int))=((j*n+k:Nat):Int) by rw [cM];omega),aQ 52 1 u8 d,hw 54 (lY ((at_[j*n+k]:Nat):Int) (by omega) (by omega)),hc x]++y++[a9 44 k])
def R9:∀ e∈(e8 ops at_ bt).els,e.size=(e8 ops at_ bt).k := λ e a=>by rw [bJ.1 a];rfl
def ad8 {R:List aa} [br R] {j:Nat} (d:∀ e∈R,cU 2 e):a2 ab G (aU (ao 44) 1) (ao 44).aK (a5 0) (.exit 2) (λ q=>(10,bq q.a 2 R)::(8, .aq)::nU l n j n q) (λ q=>a8 q.a 2 R++[(q.b,e8 ops at_ bt)]) (λ q=>(10, .sl 2 R)::(8, .aq)::jI l n j q) (λ q=>[(q.b,e8 ops at_ bt)]) :=
 (kT (A := λ q=>(8, .aq)::nU l n j n q) (B := λ q=>(8, .aq)::jI l n j q) (bZ := λ q=>[(q.b,e8 ops at_ bt)]) (ct := λ q=>[(q.b,e8 ops at_ bt)]) aG [hb 42 (kM (a4 n))]).wK d (λ m q g x f=>by rw [bJ.1 f];exact ⟨c3 g.ne.1,R9⟩)
def aea {L R:List aa} [br L] [cq 1 L] [br R] {j:Nat} (f:∀ e∈R,cU 2 e):a2 ab G (aU (ao 44) 1) (ao 44).aK (a5 0) (.exit 2) (λ q=>(10,bq q.a 2 R)::(8, .ai q.c 1 0 L.length false)::nU l n j n q) (λ q=>a8 q.a 2 R++[(q.b,e8 ops at_ bt),(q.c,⟨L,1,false⟩)]) (λ q=>(10, .sl 2 R)::(8, .ai q.c 1 0 L.length false)::jI l n j q) (λ q=>[(q.b,e8 ops at_ bt),(q.c,⟨L,1,false⟩)]) :=
 (kT (A := λ q=>(8, .ai q.c 1 0 L.length false)::nU l n j n q) (B := λ q=>(8, .ai q.c 1 0 L.length false)::jI l n j q) (bZ := λ q=>[(q.b,e8 ops at_ bt),(q.c,⟨L,1,false⟩)]) (ct := λ q=>[(q.b,e8 ops at_ bt),(q.c,⟨L,1,false⟩)]) aG [hb 42 (kM (a4 n))]).wK f (Kn (λ _=>R9) (λ _ e g=>(cq.all (k:=1) e g).size))
def ad5 (g:l.length<=9000) (o:∀ a∈at_,a<256) (p:n<=12) {j:Nat} (u:j*n+n<=at_.length) (t:at_.length<=8000):a2 ab G (aU (ao 44) 0) (ao 44).aK (a5 2) .normal (λ q=>(8, .aq)::jI l n j q) (λ q=>[(q.b,e8 ops at_ bt)]) (λ q=>(8, .ai q.c 1 0 1 false)::jI l n (j+1) q) (λ q=>[(q.b,e8 ops at_ bt),(q.c,⟨[aj (g5 l at_ n j n)],1,false⟩)]):=by
 have f:cF.wrap (((j*n:Nat):Int)+(n:Int))=((j*n+n:Nat):Int):=by rw [cM];omega
 have i:(j+1)*n=j*n+n:=jN j n
 have h:(((at_.map u8).length:Nat):Int)=(at_.length:Int):=by rw [aM]
 unfold jI
 rw [i]
 exact aW ⟨[1],[2000001,0],[2000007,0],[4]⟩ [hw 32 f,hw 35 h,hb 36 (show decide (((j*n+n:Nat):Int)<=(at_.length:Int))=true from decide_eq_true (by omega)),ck (ao 44) 1 0 0 n aG (λ k q=>(10,bq q.a 2 ((g5 l at_ n j k).map aT))::(8, .aq)::nU l n j k q) (λ k q=>a8 q.a 2 ((g5 l at_ n j k).map aT)++[(q.b,e8 ops at_ bt)]) (.exit 2) (λ q=>(10,aj (g5 l at_ n j n))::(8, .aq)::jI l n j q) (λ q=>[(q.b,e8 ops at_ bt)]) (λ k m=>ad7 G g o p m (by omega) (by omega)) (ad8 G λ e r=>by obtain ⟨x,_,rfl⟩:=bn.1 r;infer_instance),hw 39 f]
def ad6 {L:List aa} [br L] [cq 1 L] (u:L.length<=9000) (g:l.length<=9000) (m:∀ a∈at_,a<256) (r:n<=12) {j:Nat} (t:j*n+n<=at_.length) (v:at_.length<=8000):a2 ab G (aU (ao 44) 0) (ao 44).aK (a5 2) .normal (λ q=>(8, .ai q.c 1 0 L.length false)::jI l n j q) (λ q=>[(q.b,e8 ops at_ bt),(q.c,⟨L,1,false⟩)]) (λ q=>(8, .ai q.c 1 0 (L.length+1) false)::jI l n (j+1) q) (λ q=>[(q.b,e8 ops at_ bt),(q.c,⟨L++[aj (g5 l at_ n j n)],1,false⟩)]):=by
 have f:cF.wrap (((j*n:Nat):Int)+(n:Int))=((j*n+n:Nat):Int):=by rw [cM];omega
 have i:(j+1)*n=j*n+n:=jN j n
 have h:(((at_.map u8).length:Nat):Int)=(at_.length:Int):=by rw [aM]
 unfold jI
 rw [i]
 exact aW ⟨[1],[2000001,0],[2000007,0],[4]⟩ [hw 32 f,hw 35 h,hb 36 (show decide (((j*n+n:Nat):Int)<=(at_.length:Int))=true from decide_eq_true (by omega)),ck (ao 44) 1 0 0 n aG (λ k q=>(10,bq q.a 2 ((g5 l at_ n j k).map aT))::(8, .ai q.c 1 0 L.length false)::nU l n j k q) (λ k q=>a8 q.a 2 ((g5 l at_ n j k).map aT)++[(q.b,e8 ops at_ bt),(q.c,⟨L,1,false⟩)]) (.exit 2) (λ q=>(10,aj (g5 l at_ n j n))::(8, .ai q.c 1 0 L.length false)::jI l n j q) (λ q=>[(q.b,e8 ops at_ bt),(q.c,⟨L,1,false⟩)]) (λ k o=>ad9 G g m r o (by omega) (by omega)) (aea G λ e p=>by obtain ⟨x,_,rfl⟩:=bn.1 p;infer_instance),jY 61 1 24 [2000002,0] 2000006 L (aj (g5 l at_ n j n)) (by omega) (fU (k:=1)),hw 39 f]
end
section
variable (G:Nat->Option (List aa)) {ops:List fF} {at_:List Nat} {bt n:Nat} {l:List aI}
noncomputable def qD (l:List aI) (at_:List Nat) (n j:Nat) (q:aB):List (Nat × aa):=if j=0 then (8, .aq)::jI l n j q else (8, .ai q.c 1 0 ((gP l at_ n j).map aj).length false)::jI l n j q
noncomputable def qC (ops:List fF) (bt:Nat) (l:List aI) (at_:List Nat) (n j:Nat) (q:aB):List (bT × aN):=if j=0 then [(q.b,e8 ops at_ bt)] else [(q.b,e8 ops at_ bt),(q.c,⟨(gP l at_ n j).map aj,1,false⟩)]
def Sb (l:List aI) (at_:List Nat) (n j:Nat):(gP l at_ n j).length=j:=by unfold gP;rw [aM,dZ]
def aih (g:l.length<=9000) (h:∀ a∈at_,a<256) (k:n<=12) (n0:0<n) {j:Nat} (r:j<at_.length/n) (t:at_.length<=24):a2 ab G (aU (ao 44) 0) (ao 44).aK (a5 2) .normal (qD l at_ n j) (qC ops bt l at_ n j) (qD l at_ n (j+1)) (qC ops bt l at_ n (j+1)):=by
 have hb:j*n+n<=at_.length:=by
   have h1:=c6 n (show j+1<=at_.length/n from r)
   have s:=ZZ at_.length n
   rw [jN] at h1
   omega
 have m:=ja at_.length n
 have p:qD l at_ n (j+1) = λ q=>(8, .ai q.c 1 0 (((gP l at_ n j).map aj).length+1) false)::jI l n (j+1) q:=by
   funext q
   unfold qD
   rw [if_neg (by omega),Sc,dU,cd]
   rfl
 have o:qC ops bt l at_ n (j+1) = λ q=>[(q.b,e8 ops at_ bt),(q.c,⟨(gP l at_ n j).map aj++[aj (g5 l at_ n j n)],1,false⟩)]:=by
   funext q
   unfold qC
   rw [if_neg (by omega),Sc,dU]
   rfl
 rw [p,o]
 by_cases d:j=0
 subst d
 have f:qD l at_ n 0 = λ q=>(8, .aq)::jI l n 0 q:=funext λ q=>if_pos rfl
 have e:qC ops bt l at_ n 0 = λ q=>[(q.b,e8 ops at_ bt)]:=funext λ q=>if_pos rfl
 rw [f,e]
 exact ad5 G g h k hb (by omega)
 have f:qD l at_ n j = λ q=>(8, .ai q.c 1 0 ((gP l at_ n j).map aj).length false)::jI l n j q:=funext λ q=>if_neg d
 have e:qC ops bt l at_ n j = λ q=>[(q.b,e8 ops at_ bt),(q.c,⟨(gP l at_ n j).map aj,1,false⟩)]:=funext λ q=>if_neg d
 rw [f,e]
 exact ad6 G (L:=(gP l at_ n j).map aj) (by rw [aM,Sb];omega) g h k hb (by omega)
def aif (n0:0<n) (v:n<=12) (w:at_.length<=24):a2 ab G (aU (ao 44) 0) (ao 44).aK (a5 2) (.exit 0) (qD l at_ n (at_.length/n)) (qC ops bt l at_ n (at_.length/n)) (λ _=>[(8,az (gP l at_ n (at_.length/n))),(6,gT l)]) (λ _=>[]):=by
 have t:at_.length<at_.length/n*n+n:=by
   have:=Nat.lt_div_mul_add (a:=at_.length) n0
   exact this
 have p:=ZZ at_.length n
 have k:cF.wrap (((at_.length/n*n:Nat):Int)+(n:Int))=((at_.length/n*n+n:Nat):Int):=by rw [cM];omega
 have o:(((at_.map u8).length:Nat):Int)=(at_.length:Int):=by rw [aM]
 have h:decide (((at_.length/n*n+n:Nat):Int)<=(at_.length:Int))=false:=decide_eq_false (by omega)
 by_cases f:at_.length/n=0
 have j:qD l at_ n (at_.length/n) = λ q=>(8, .aq)::jI l n (at_.length/n) q:=funext λ q=>if_pos f
 have i:qC ops bt l at_ n (at_.length/n) = λ q=>[(q.b,e8 ops at_ bt)]:=funext λ q=>if_pos f
 have H:a2 ab G (aU (ao 44) 0) (ao 44).aK (a5 2) (.exit 0) (λ q=>(8, .aq)::jI l n (at_.length/n) q) (λ q=>[(q.b,e8 ops at_ bt)]) (λ _=>[(8, .aq),(6,gT l)]) (λ q=>[(q.b,e8 ops at_ bt)]):=aW aG [hw 32 k,hw 35 o,hb 36 h]
 rw [j,i]
 have m4:az (gP l at_ n (at_.length/n)) = .sl 1 []:=by rw [f];rfl
 rw [m4]
 exact H.gV λ q m g=>bz.yV (by simp) (ny [(6,gT l)] (jL 8 (hN _ _) (l4 (fi 1))))
 have j:qD l at_ n (at_.length/n) = λ q=>(8, .ai q.c 1 0 ((gP l at_ n (at_.length/n)).map aj).length false)::jI l n (at_.length/n) q:=funext λ q=>if_neg f
 have i:qC ops bt l at_ n (at_.length/n) = λ q=>[(q.b,e8 ops at_ bt),(q.c,⟨(gP l at_ n (at_.length/n)).map aj,1,false⟩)]:=funext λ q=>if_neg f
 rw [j,i]
 have r:∀ e∈(gP l at_ n (at_.length/n)).map aj,cU 1 e := λ e u=>by obtain ⟨x,_,rfl⟩:=bn.1 u;infer_instance
 have m4:az (gP l at_ n (at_.length/n)) = .sl 1 ((gP l at_ n (at_.length/n)).map aj):=rfl
 rw [m4]
 haveI:br ((gP l at_ n (at_.length/n)).map aj):=inferInstance
 have H:a2 ab G (aU (ao 44) 0) (ao 44).aK (a5 2) (.exit 0) (λ q=>(8, .ai q.c 1 0 ((gP l at_ n (at_.length/n)).map aj).length false)::jI l n (at_.length/n) q) (λ q=>[(q.b,e8 ops at_ bt),(q.c,⟨(gP l at_ n (at_.length/n)).map aj,1,false⟩)]) (λ q=>[(8, .ai q.c 1 0 ((gP l at_ n (at_.length/n)).map aj).length false),(6,gT l)]) (λ q=>[(q.b,e8 ops at_ bt),(q.c,⟨(gP l at_ n (at_.length/n)).map aj,1,false⟩)]):=aW aG [hw 32 k,hw 35 o,hb 36 h]
 exact H.gV λ q m g=>bz.yV (by simp [g.ne.2.2.2.1]) (ny [(6,gT l)] (jL 8 (hN _ _) (sz (by simp [bk,cD,eF (c3 g.ne.2.2.2.1)]) r)))
def yX (ops:List fF) (at_:List Nat) (l:List aI):Bool:=l.all vf && !decide (at_.length>24)
def ahV (ho:∀ o∈ops,l9 o) (x:∀ a∈at_,a<256) (v:bt<256) (g:wC ops=l) (y:1+bt%12=n):ag ab G 44 [tf ops at_ bt,ak 24] (if yX ops at_ l=true then .aS [az (gP l at_ n (at_.length/n)), .bool (decide (lr l<=2))] else .aS [az [], .bool false]):=by
 have f:=api G ops ho
 rw [g] at f
 have ⟨Q,q⟩:=Qs (r:=ops) λ o h=>(ho o h).abs
 rw [g] at q
 have z:l.length<=24:=by
   rw [<- g,Qr]
   have:=(Km ho (min ops.length 24) (Nat.min_le_left _ _)).2
   rw [this];exact Nat.min_le_right _ _
 have e:=apf G l (by omega) λ a h=>Src.xk (q.2 a h).1
 have n0:0<n:=by omega
 have m:n<=12:=by omega
 have d:=lY (bt:Int) (by omega) (by omega)
 have c:cF.wrap (1+((bt%12:Nat):Int))=(n:Int):=by rw [<- y,cM];omega
 have b:decide ((((at_.map u8).length:Nat):Int)>24)=decide (at_.length>24):=by
   rw [aM]
   by_cases h:at_.length>24
   rw [decide_eq_true h,decide_eq_true (by omega)]
   rw [decide_eq_false h,decide_eq_false (by omega)]
 unfold yX
 cases p:l.all vf with
 | false =>
   rw [p] at e
   rw [nI,if_neg yj]
   exact ag.pc aY [hc f,hw 17 d,y3 18 .i64 bt 12,hw 19 c,hc e] [] (.aS [.aq, .bool false]) (by kernel_rfl) rfl rfl gm (λ σ _=>View.aS (cp (fi 1) (cp (jw bg.pure) iv)))
 | true =>
   rw [p] at e
   rw [hP]
   cases i:decide (at_.length>24) with
   | true =>
     rw [i] at b
     rw [Bool.not_true,if_neg yj]
     exact ag.pc aY [hc f,hw 17 d,y3 18 .i64 bt 12,hw 19 c,hc e,hb 28 b] [] (.aS [.aq, .bool false]) (by kernel_rfl) rfl rfl gm (λ σ _=>View.aS (cp (fi 1) (cp (jw bg.pure) iv)))
   | false =>
     rw [i] at b
     rw [Bool.not_false,if_pos rfl]
     have t:at_.length<=24:=by have:=of_decide_eq_false i;omega
     have u:=ahU G (l:=l) (by omega)
     have k:decide ((lr l:Int)<=2)=decide (lr l<=2):=by
       by_cases h:lr l<=2
       rw [decide_eq_true h,decide_eq_true (by omega)]
       rw [decide_eq_false h,decide_eq_false (by omega)]
     exact bB [hc f,hw 17 d,y3 18 .i64 bt 12,hw 19 c,hc e,hb 28 b,w3 (ao 44) 0 2 0 (at_.length/n) ⟨[1],[0,0],[3],[4]⟩ [(8, .aq),(2, .ref [0,0] 0 0),(4, .aq),(5, .bool false),(6,gT l),(7,ak n),(9,ak 0)] [([0,0],e8 ops at_ bt)] (qD l at_ n) (qC ops bt l at_ n) (.exit 0) (λ _=>[(8,az (gP l at_ n (at_.length/n))),(6,gT l)]) (λ _=>[]) (by unfold qD jI;rw [if_pos rfl,re]) (by unfold qC;rw [if_pos rfl]) (λ j w=>aih G (by omega) x m n0 w t) (aif G n0 m t) (by kernel_rfl) (by have:=ja at_.length n;omega),hc u,hb 65 k]
def ahT (ho:∀ o∈ops,l9 o) (i:∀ a∈at_,a<256) (d:bt<256) (g:wC ops=l) (f:1+bt%12=n):ag ab G 12 [tf ops at_ bt] (if yX ops at_ l=true then .aS [az (gP l at_ n (at_.length/n)),ak n, .bool (decide (lr l<=2))] else .aS [az [],ak n, .bool false]):=by
 have m:=ahV G ho i d g f
 have c:=lY (bt:Int) (by omega) (by omega)
 have b:cF.wrap (1+((bt%12:Nat):Int))=(n:Int):=by rw [<- f,cM];omega
 cases h:yX ops at_ l with
 | true =>
   rw [h,if_pos rfl] at m
   rw [if_pos rfl]
   exact aO [hc m,hw 15 c,y3 16 .i64 bt 12,hw 17 b]
 | false =>
   rw [h,if_neg yj] at m
   rw [if_neg yj]
   exact aO [hc m,hw 15 c,y3 16 .i64 bt 12,hw 17 b]
end
end Go.Proofs.YtpcofcmencgkbaaGreat
namespace Go.aF
section
variable {P:Program} {G:Nat->Option (List aa)}
def u4 (k n:Nat) (a:Bool) (id:Id) (c:Nat) (L:List aa) (i:Nat) (e v:aa) (d:L[i]? = some e) (hv:part a e.cells 0 n=some v:=by rfl):aZ P G :=
 .st k [(id,⟨L,c,false⟩)] (.load a n (.ref id i 0)) (λ _=>{ val:=v,rd:=[id] }) (λ σ p b=>Uy (b _ cS) d hv)
def bz.adX {n m so ln d kQ:Nat} {t:Bool} {F:List (Nat × aa)} {q:aB} {L row:List aa} {z:aN} (g:eQ m q) (B:∀ e∈L,e.size=1) (w:∀ e∈row,cU d e) (s:kQ=row.length) (v:∀ e∈z.els,e.size=z.k) :
   bz G [0] ⟨fr n ((so, .ai q.a 1 0 ln false)::F),bk [(q.a,⟨L++[.ai q.c d 0 kQ t],1,false⟩),(q.b,z),(q.c,⟨row,d,false⟩)],m⟩ ⟨fr n ((so, .ai q.a 1 0 ln false)::F),bk [(q.a,⟨L++[.sl d row],1,false⟩),(q.b,z)],m⟩:=by
 subst s
 have ⟨o,p,H,l,E,D⟩:=g.ne
 have A:∀ e∈L++[aa.sl d row],e.size=1 := λ e u=>by
   rcases en.1 u with h | h
   exact B e h
   rw [bJ.1 h];rfl
 refine bz.mh [(q.c,⟨row,d,false⟩)] (λ y C => ?_) (hN _ _) (λ i => ?_) (a4 _)
 rw [bJ.1 C]
 simp [bk,cD,eF (c3 p),eF (c3 l)]
 by_cases j:i=q.a
 subst j
 refine .inr ⟨⟨L++[.ai q.c d 0 row.length t],1,false⟩,⟨L++[.sl d row],1,false⟩,by simp [bk,cD],by simp [bk,cD],rfl, .inl rfl, λ _ x f=>by rw [bJ.1 f];exact c3 p,by simp,A, ?_⟩
 show eU _ (flat (L++[_])) (flat (L++[_]))
 rw [show ∀ y,flat (L++[y])=flat L++y.cells from λ y=>by simp [flat]]
 rw [show ∀ y,flat (L++[y])=flat L++y.cells from λ y=>by simp [flat]]
 exact eU.app (hN _ _) ⟨sz (by simp [bk,cD]) w,trivial⟩
 by_cases r:i=q.b
 subst r
 exact .inr ⟨z,z,by simp [bk,cD,eF (c3 o)],by simp [bk,cD,eF (c3 o)],rb (λ x f=>by rw [bJ.1 f];exact c3 l) v⟩
 exact .inl (by simp [bk,cD,eF j,eF r])
end
end Go.aF
namespace Go.Proofs.YtpcofcmencgkbaaGreat
noncomputable abbrev eg (A:List (List ar)) (x:List ar) (B:List (List ar)) (b:bT):List aa:=A.map aj++(.ai b 2 0 (x.map aT).length false::B.map aj)
def Q3 (A:List (List ar)) (x:List ar) (B:List (List ar)) (b:bT):(eg A x B b).length=(A++x::B).length:=by simp
def Q4 {ρ : bT->bT} {A:List (List ar)} {x:List ar} {B:List (List ar)} {b:bT}:bx ρ (eg A x B b)=eg A x B (ρ b):=by
 rw [r9,br.fix (l:=A.map aj)]
 show A.map aj++(.ai (ρ b) 2 0 (x.map aT).length false::bx ρ (B.map aj))=_
 rw [br.fix (l:=B.map aj)]
def acC (A:List (List ar)) (x:List ar) (B:List (List ar)) (b:bT):((eg A x B b).all λ e=>e.cells.all aa.one)=true:=by
 rw [List.all_append,fU (k:=1),List.all_cons,fU (k:=1)]
 rfl
def acD (A:List (List ar)) (x:List ar) (B:List (List ar)) (b:bT):∀ e∈eg A x B b,e.size=1 := λ e a=>by
 rcases en.1 a with h | h
 obtain ⟨y,_,rfl⟩:=bn.1 h;rfl
 rcases cr.1 h with rfl | h
 rfl
 obtain ⟨y,_,rfl⟩:=bn.1 h;rfl
section
variable (G:Nat->Option (List aa)) {M:List (List ar)}
noncomputable abbrev km (M:List (List ar)) (i:Nat):List (Nat × aa):=[(0,az M),(4,ak i)]
def MF {x:List ar} (h:x≠[]):x.map aT≠[] := λ e=>h (eN.1 e)
def acH (d:∀ x∈M,x≠[]/\x.length<=4000) (g:M.length<=4000) {i:Nat} (b:i<M.length):a2 ab G (aU (ao 22) 0) (ao 22).aK (a5 0) .normal (λ q=>(3,bq q.a 1 ((M.take i).map aj))::km M i) (λ q=>a8 q.a 1 ((M.take i).map aj)++[]) (λ q=>(3,bq q.a 1 ((M.take (i+1)).map aj))::km M (i+1)) (λ q=>a8 q.a 1 ((M.take (i+1)).map aj)++[]):=by
 have ⟨e,f⟩:=d _ (bc b)
 rw [iH b,dU,ic]
 exact Fo (key:=19) (kQ:=((M[i]).map aT).length) (A:=km M i) (B:=km M (i+1)) rfl (by rw [aM,cZ];omega) 11 ⟨[12,0],[10,0],[3],[4]⟩ (λ x=>[bm 8 aj b,aQ 15 1 aj b,mj 17 2 48 ((M[i]).map aT) (MF e) (by rw [aM];omega)]++x++[a9 10 i])
noncomputable def oH (M A:List (List ar)) (x:List ar) (i:Nat) (q:aB):List (Nat × aa):=if i<=A.length then (3,bq q.a 1 ((M.take i).map aj))::km M i else (3, .ai q.a 1 0 i false)::km M i
noncomputable def mc (M A:List (List ar)) (x:List ar) (i:Nat) (q:aB):List (bT × aN):=if i<=A.length then a8 q.a 1 ((M.take i).map aj)++[] else [(q.a,⟨eg A x ((M.take i).drop (A.length+1)) q.b,1,false⟩),(q.b,⟨x.map aT,2,false⟩)]
def acJ {A B:List (List ar)} {x:List ar} (z:M=A++x::B) (F:∀ x∈M,x≠[]/\x.length<=4000) (U:M.length<=4000) {i:Nat} (d:i<M.length):a2 ab G (aU (ao 22) 0) (ao 22).aK (a5 0) .normal (oH M A x i) (mc M A x i) (oH M A x (i+1)) (mc M A x (i+1)):=by
 have ⟨E,V⟩:=F _ (bc d)
 rcases ub i A.length with h | h | h
 have n:oH M A x i = λ q=>(3,bq q.a 1 ((M.take i).map aj))::km M i:=funext λ q=>if_pos (by omega)
 have s:mc M A x i = λ q=>a8 q.a 1 ((M.take i).map aj)++[]:=funext λ q=>if_pos (by omega)
 have l:oH M A x (i+1) = λ q=>(3,bq q.a 1 ((M.take (i+1)).map aj))::km M (i+1):=funext λ q=>if_pos (by omega)
 have j:mc M A x (i+1) = λ q=>a8 q.a 1 ((M.take (i+1)).map aj)++[]:=funext λ q=>if_pos (by omega)
 rw [n,s,l,j]
 exact acH G F U d
 have v:M[i]=x:=by subst h;simp only [z];rw [Z0 (a4 _)];simp
 have J:M.take i=A:=by rw [z,h];simp
 have O:(M.take (i+1)).drop (A.length+1)=[]:=by rw [List.drop_eq_nil_iff,cZ];omega
 have n:oH M A x i = λ q=>(3,bq q.a 1 (A.map aj))::km M i:=funext λ q=>by unfold oH;rw [if_pos (by omega),J]
 have s:mc M A x i = λ q=>a8 q.a 1 (A.map aj)++[]:=funext λ q=>by unfold mc;rw [if_pos (by omega),J]
 have l:oH M A x (i+1) = λ q=>(3, .ai q.a 1 0 (i+1) false)::km M (i+1):=funext λ q=>if_neg (by omega)
 have j:mc M A x (i+1) = λ q=>[(q.a,⟨eg A x [] q.b,1,false⟩),(q.b,⟨x.map aT,2,false⟩)]:=funext λ q=>by unfold mc;rw [if_neg (by omega),O]
 rw [n,s,l,j]
 have K:x.map aT≠[]:=by rw [<- v];exact MF E
 have I:(x.map aT).length*48<=140737488355328:=by rw [aM, <- v];omega
 have C:fY 1 (az M) (.int .i64 (i:Int))=some (.c2 (aj x).cells 0):=by rw [<- v];exact B0 (f:=aj) (k:=1) d
 by_cases u:A=[]
 have S:i=0:=by rw [h,u];rfl
 subst u
 subst S
 have x1:∀ p,bq p 1 (([]:List (List ar)).map aj) = .aq := λ p=>rfl
 have bF:∀ p,a8 p 1 (([]:List (List ar)).map aj)=[] := λ p=>rfl
 simp only [x1,bF,k5]
 exact aW ⟨[12,0],[10,0],[3],[4]⟩ [bm 8 aj d,ho 15 C,mj 17 2 48 (x.map aT) K I,a9 10 0]
 have r:A.map aj≠[] := λ e=>u (eN.1 e)
 have L:(A.map aj).length=i:=by rw [aM];exact h.symm
 have x1:∀ p,bq p 1 (A.map aj) = .ai p 1 0 (A.map aj).length false := λ p=>dA r
 have bF:∀ p,a8 p 1 (A.map aj)=[(p,⟨A.map aj,1,false⟩)] := λ p=>dx r
 have N:∀ p,(aa.ai p 1 0 (i+1) false) = .ai p 1 0 ((A.map aj).length+1) false := λ p=>by rw [L]
 simp only [x1,bF,N,k5]
 exact aW ⟨[12,0],[10,0],[3],[4]⟩ [bm 8 aj d,ho 15 C,mj 17 2 48 (x.map aT) K I,jY 19 1 24 [1] 11 (A.map aj) (.ai [10,0] 2 0 (x.map aT).length false) (by omega) (fU (k:=1)),a9 10 i]
 have n:oH M A x i = λ q=>(3, .ai q.a 1 0 i false)::km M i:=funext λ q=>if_neg (by omega)
 have s:mc M A x i = λ q=>[(q.a,⟨eg A x ((M.take i).drop (A.length+1)) q.b,1,false⟩),(q.b,⟨x.map aT,2,false⟩)]:=funext λ q=>if_neg (by omega)
 have l:oH M A x (i+1) = λ q=>(3, .ai q.a 1 0 (i+1) false)::km M (i+1):=funext λ q=>if_neg (by omega)
 have R:(M.take (i+1)).drop (A.length+1)=(M.take i).drop (A.length+1)++[M[i]]:=by
   rw [iH d,List.drop_append_of_le_length (by rw [cZ];omega)]
 have j:mc M A x (i+1) = λ q=>[(q.a,⟨eg A x ((M.take i).drop (A.length+1)) q.b++[.sl 2 ((M[i]).map aT)],1,false⟩),(q.b,⟨x.map aT,2,false⟩)]:=funext λ q=>by
   unfold mc
   rw [if_neg (by omega),R]
   simp only [eg,dU,ic,List.append_assoc,List.cons_append]
   rfl
 rw [n,s,l,j]
 have t:∀ b,(eg A x ((M.take i).drop (A.length+1)) b).length=i := λ b=>by
   rw [Q3,cd,e6,List.length_drop,cZ];omega
 generalize (M.take i).drop (A.length+1)=D at *
 have P:∀ p,(aa.ai p 1 0 (i+1) false) = .ai p 1 0 ((eg A x D [2]).length+1) false := λ p=>by rw [t]
 have Q:∀ p,(aa.ai p 1 0 i false) = .ai p 1 0 (eg A x D [2]).length false := λ p=>by rw [t]
 have H:a2 ab G (aU (ao 22) 0) (ao 22).aK (a5 0) .normal (λ q=>(3, .ai q.a 1 0 (eg A x D [2]).length false)::km M i) (λ q=>[(q.a,⟨eg A x D q.b,1,false⟩),(q.b,⟨x.map aT,2,false⟩)]) (λ q=>(3, .ai q.a 1 0 ((eg A x D [2]).length+1) false)::km M (i+1)) (λ q=>[(q.a,⟨eg A x D q.b++[.ai q.c 2 0 ((M[i]).map aT).length false],1,false⟩),(q.b,⟨x.map aT,2,false⟩),(q.c,⟨(M[i]).map aT,2,false⟩)]) :=
   aW ⟨[12,0],[2],[10,0],[4]⟩ [bm 8 aj d,aQ 15 1 aj d,mj 17 2 48 ((M[i]).map aT) (MF E) (by rw [aM];omega),jY 19 1 24 [1] 11 (eg A x D [2]) (.ai [10,0] 2 0 ((M[i]).map aT).length false) (by rw [t];omega) (acC A x D [2]),a9 10 i]
 simp only [Q,P]
 exact H.gV λ q m g=>bz.adX g (acD A x D q.b) (λ e w=>by obtain ⟨y,_,rfl⟩:=bn.1 w;infer_instance) rfl (λ e w=>by obtain ⟨y,_,rfl⟩:=bn.1 w;rfl)
def acI {A B:List (List ar)} {x:List ar} (d:M=A++x::B):a2 ab G (aU (ao 22) 0) (ao 22).aK (a5 0) (.exit 0) (oH M A x M.length) (mc M A x M.length) (λ q=>[(3, .ai q.a 1 0 M.length false)]) (λ q=>[(q.a,⟨eg A x B q.b,1,false⟩),(q.b,⟨x.map aT,2,false⟩)]):=by
 have c : ¬ M.length<=A.length:=by rw [d,cd,e6];omega
 have f:(M.take M.length).drop (A.length+1)=B:=by rw [gn,d,List.drop_append];simp
 have g:oH M A x M.length = λ q=>(3, .ai q.a 1 0 M.length false)::km M M.length:=funext λ q=>if_neg c
 have h:mc M A x M.length = λ q=>[(q.a,⟨eg A x B q.b,1,false⟩),(q.b,⟨x.map aT,2,false⟩)]:=funext λ q=>by unfold mc;rw [if_neg c,f]
 rw [g,h]
 exact aW aG [cx 8 aj M]
def ahM {A B:List (List ar)} {x:List ar} (d:M=A++x::B) (h:∀ x∈M,x≠[]/\x.length<=4000) (g:M.length<=4000) (p:bT):cu ab G 22 [az M] p [] { val := .ai (2000000::p) 1 0 M.length false,rd:=[],up:=[(2000000::p,some ⟨eg A x B (2000001::p),1,false⟩),(2000001::p,some ⟨x.map aT,2,false⟩)] }:=by
 have e:0<=A.length:=Nat.zero_le _
 exact cu.j7 (p:=p) (up:=[(2000000::p,⟨eg A x B (2000001::p),1,false⟩),(2000001::p,⟨x.map aT,2,false⟩)]) aY (λ _=>[]) [w3 (ao 22) 0 0 0 M.length aG [(3, .aq),(0,az M),(4,ak 0)] [] (oH M A x) (mc M A x) (.exit 0) (λ q=>[(3, .ai q.a 1 0 M.length false)]) (λ q=>[(q.a,⟨eg A x B q.b,1,false⟩),(q.b,⟨x.map aT,2,false⟩)]) (by unfold oH;rw [if_pos e];rfl) (by unfold mc;rw [if_pos e];rfl) (λ i f=>acJ G d h g f) (acI G d)] _ [] (.ai [2000000,0] 1 0 M.length false) [([2000000,0],⟨eg A x B [2000001,0],1,false⟩),([2000001,0],⟨x.map aT,2,false⟩)] (by kernel_rfl) (br.fix _) rfl rfl (by
   show [(_,aN.mk (bx _ (eg A x B [2000001,0])) 1 false),(_,aN.mk (bx _ (x.map aT)) 2 false)]=_
   rw [Q4,br.fix (l:=x.map aT)]
   rfl) (by simp) (by simp)
abbrev i8 (z:Int):aa := .int .i8 z
instance:bg (aa.dQ 2 []):=⟨b8.dQ (by simp [flat]), λ _=>rfl⟩
instance:cU 1 (aa.dQ 2 []):=⟨inferInstance,rfl, λ d hd=>by rw [bJ.1 hd];exact bg.pure,rfl⟩
def WA {y:ar} {b:Nat} {x:List ar} {B:List (List ar)} (c:x.length=b) {k:Nat} (g:k<b):∀ {A:List (List ar)},(∀ r∈A,r.length=b)->sg y (A++x::B) (A.length*b+k)=A++x.set k ((x.getD k (a6 0)).add y)::B
 | [],_=>by
   rw [show ([]:List (List ar)).length*b+k=k by rw [jB,re,Nat.zero_add]]
   show (if k<x.length then _ else _)=_
   rw [if_pos (by omega)]
   rfl
 | a::A,h=>by
   have f:=h a cS
   have e:(a::A).length*b+k=A.length*b+k+b:=by rw [e6,jN];omega
   show (if (a::A).length*b+k<a.length then _ else a::sg y (A++x::B) ((a::A).length*b+k-a.length))=_
   rw [e,if_neg (by omega),f,Nat.add_sub_cancel,WA c g λ r d=>h r (c5 _ d)]
   rfl
def Wk {b:Nat}:∀ {M:List (List ar)},(∀ r∈M,r.length=b)->Iv M=M.length*b
 | [],_=>by show 0=0*b;omega
 | a::M,h=>by
   have:=Wk (M:=M) λ r c=>h r (c5 _ c)
   unfold Iv at this ⊢
   rw [List.map_cons,List.sum_cons,this,h a cS,e6,jN]
   omega
def XN {σ : aL} {x d:List ar} {B:List (List ar)} {b:bT} (h:View σ (.ai b 2 0 (x.map aT).length false) (aj d)):∀ A:List (List ar),c9 σ (flat (eg A x B b)) (flat ((A++d::B).map aj))
 | []=>by
   refine cp h (c9.pure λ c hc => ?_)
   have ⟨e,f,hc⟩:=List.mem_flatMap.1 hc
   obtain ⟨y,_,rfl⟩:=bn.1 f
   rw [bJ.1 hc];exact bg.pure
 | a::A=>cp (jw bg.pure) (XN h A)
end
section
variable (G:Nat->Option (List aa)) {K:cT} {q e r:Nat} (F:gG K q e r) {n:Nat} {A B:List (List ar)} {x:List ar} {wd W at_:Nat} {cb:Int}
noncomputable def qq (A:List (List ar)) (x:List ar) (B:List (List ar)) (b:bT) (i:Nat):aa:=if i=A.length then .ai b 2 0 (x.map aT).length false else aj ((A++x::B).getD i [])
def FR {i:Nat} (a:i<(A++x::B).length) (b:bT):(eg A x B b)[i]? = some (qq A x B b i):=by
 unfold qq
 rcases ub i A.length with h | h | h
 rw [if_neg (by omega),List.getElem?_append_left (by rw [aM];exact h),iI,du h,bj a,List.getElem_append_left h]
 rfl
 rw [if_pos h,kh (by rw [aM];omega),show (A.map aj).length=A.length from aM ..,h,Nat.sub_self]
 rfl
 have e:i-A.length=(i-A.length-1)+1:=by omega
 have hb:i-A.length-1<B.length:=by rw [cd,e6] at a;omega
 rw [if_neg (by omega),kh (by rw [aM];omega),show (A.map aj).length=A.length from aM ..,e,List.getElem?_cons_succ,iI,du hb,bj a,Z0 (by omega)]
 rw [List.getElem_cons,dif_neg (by omega)]
 rfl
noncomputable abbrev lE (A:List (List ar)) (x:List ar) (B:List (List ar)) (q:aB):List (bT × aN):=[(q.a,⟨eg A x B q.b,1,false⟩),(q.b,⟨x.map aT,2,false⟩)]
noncomputable abbrev Dl (W at_:Nat) (cb:Int) (c i:Nat) (q:aB):List (Nat × aa):=[(7, .ai q.a 1 0 W false),(8,ak c),(9,ak i),(1,ak at_),(2,i8 cb)]
def am3 (o:(A++x::B).length=W) (hu:∀ r∈A++x::B,r.length=wd) (m:W<=4000) (l:wd<=4000) {i:Nat} (g:i<W):a2 ab G (aU (ao 46) 0) (ao 46).aK (a5 0) .normal (Dl W at_ cb (i*wd) i) (lE A x B) (Dl W at_ cb ((i+1)*wd) (i+1)) (lE A x B):=by
 have c:=FR (A:=A) (x:=x) (B:=B) (i:=i) (by omega) [2]
 have j:i*wd<=4000*4000:=lH (by omega) l
 have b:cF.wrap (((i*wd:Nat):Int)+(wd:Int))=(((i+1)*wd:Nat):Int):=by rw [cM,jN];omega
 by_cases h:i=A.length
 have d:qq A x B [2] i = .ai [2] 2 0 (x.map aT).length false:=if_pos h
 rw [d] at c
 have f:(((x.map aT).length:Nat):Int)=(wd:Int):=by rw [aM,hu x (by simp)]
 exact aW aG [hb 17 (dW g),dM 23 1 [1] false W i,u4 24 1 false [1] 1 (eg A x B [2]) i _ _ c,hw 25 f,hw 26 b,a9 19 i]
 have a:i<(A++x::B).length:=by omega
 have d:qq A x B [2] i=aj ((A++x::B)[i]):=by unfold qq;rw [if_neg h,bj a]
 rw [d] at c
 have f:(((((A++x::B)[i]).map aT).length:Nat):Int)=(wd:Int):=by rw [aM,hu _ (bc a)]
 exact aW aG [hb 17 (dW g),dM 23 1 [1] false W i,u4 24 1 false [1] 1 (eg A x B [2]) i _ (aj ((A++x::B)[i])) c,hw 25 f,hw 26 b,a9 19 i]
noncomputable abbrev z6 (W:Nat) (cb:Int) (N i c k:Nat) (q:aB):List (Nat × aa):=[(7, .ai q.a 1 0 W false),(8,ak N),(10,ak i),(1,ak c),(2,i8 cb),(11,ak k)]
noncomputable abbrev xB (W:Nat) (cb:Int) (N i c:Nat) (q:aB):List (Nat × aa):=[(7, .ai q.a 1 0 W false),(8,ak N),(10,ak i),(1,ak c),(2,i8 cb)]
def WX {c:Nat} (h:0<c) (a:c<1000):cF.wrap ((c:Int)-1)=((c-1:Nat):Int):=by rw [cM];omega
def Wy (u:(A++x::B).length=W) (hu:∀ r∈A++x::B,r.length=wd) (p:W<=4000) (w:wd<=4000) {N:Nat} (o:0<N) {i k c:Nat} (v:i<W) (j:k<wd) (hc:c%N≠0) (t:c<256):a2 ab G (aU (ao 46) 2) (ao 46).aK (a5 0) .normal (z6 W cb N i c k) (lE A x B) (z6 W cb N i (c-1) (k+1)) (lE A x B):=by
 have d:=FR (A:=A) (x:=x) (B:=B) (i:=i) (by omega) [2]
 have m:0<c:=by
   rcases Nat.eq_zero_or_pos c with h | h
   subst h;rw [Nat.zero_mod] at hc;exact absurd rfl hc
   exact h
 have b:(((c%N:Nat):Int)==0)=false:=beq_eq_false_iff_ne.2 (by omega)
 by_cases h:i=A.length
 have f:qq A x B [2] i = .ai [2] 2 0 (x.map aT).length false:=if_pos h
 rw [f] at d
 have g:(((x.map aT).length:Nat):Int)=(wd:Int):=by rw [aM,hu x (by simp)]
 exact aW aG [dM 40 1 [1] false W i,u4 41 1 false [1] 1 (eg A x B [2]) i _ _ d,hw 42 g,hb 43 (dW j),Ll 48 .i64 c N o,hb 49 b,hw 72 (WX m (by omega)),a9 45 k]
 have a:i<(A++x::B).length:=by omega
 have f:qq A x B [2] i=aj ((A++x::B)[i]):=by unfold qq;rw [if_neg h,bj a]
 rw [f] at d
 have g:(((((A++x::B)[i]).map aT).length:Nat):Int)=(wd:Int):=by rw [aM,hu _ (bc a)]
 exact aW aG [dM 40 1 [1] false W i,u4 41 1 false [1] 1 (eg A x B [2]) i _ (aj ((A++x::B)[i])) d,hw 42 g,hb 43 (dW j),Ll 48 .i64 c N o,hb 49 b,hw 72 (WX m (by omega)),a9 45 k]
def am4 (h:(A++x::B).length=W) (hu:∀ r∈A++x::B,r.length=wd) {N:Nat} {i c:Nat} (j:i<A.length):a2 ab G (aU (ao 46) 2) (ao 46).aK (a5 0) (.exit 4) (z6 W cb N i c wd) (lE A x B) (xB W cb N i c) (lE A x B):=by
 have a:i<(A++x::B).length:=by rw [cd];omega
 have d:=FR (A:=A) (x:=x) (B:=B) (i:=i) a [2]
 have g:qq A x B [2] i=aj ((A++x::B)[i]):=by unfold qq;rw [if_neg (by omega),bj a]
 rw [g] at d
 have f:(((((A++x::B)[i]).map aT).length:Nat):Int)=(wd:Int):=by rw [aM,hu _ (bc a)]
 exact aW aG [dM 40 1 [1] false W i ,u4 41 1 false [1] 1 (eg A x B [2]) i _ (aj ((A++x::B)[i])) d,hw 42 f,hb 43 (kM (a4 wd))]
include F in
theorem am5 (hW:(A++x::B).length=W) (hx:x.length=wd) (aqI:W<=4000) (ca:wd<=4000) {N:Nat} (aap:0<N) {k c:Nat} (hk:k<wd) (GD:k<x.length) (hc:c%N=0) (hG:cv K n x) (b1 : -128<=cb) (b2:cb<=127) (iw:bO K q n) (wy:bO K q 8):a2 ab G (aU (ao 46) 2) (ao 46).aK (a5 0) .ret (z6 W cb N A.length c k) (lE A x B) (fun q=>[(6, .ai q.a 1 0 W false)]) (fun q=>[(q.a,⟨eg A x B q.b,1,false⟩),(q.b,⟨(x.set k ((x[k]).add (a6 (cb:Rat)))).map aT,2,false⟩)]):=by
 have hi:A.length<W:=by rw [cd,e6] at hW;omega
 have hg:=FR (A:=A) (x:=x) (B:=B) (i:=A.length) (by omega) [2]
 have FQ:qq A x B [2] A.length = .ai [2] 2 0 (x.map aT).length false:=if_pos rfl
 rw [FQ] at hg
 have Hg:(((x.map aT).length:Nat):Int)=(wd:Int):=by rw [aM,hx]
 have aeh:(((c%N:Nat):Int)==0)=true:=by rw [hc];rfl
 have adG:=Mf G cb (by omega) (by omega)
 have ad0:(a6 (cb:Rat)).G K 8:=Vt (b:=cb) (by omega)
 have ad:=D4 G F (a:=(x[k]).2) (b:=(a6 (cb:Rat)).2) (hG _ (bc GD)) ad0 iw wy
 have SE:k<(x.map aT).length:=by rw [aM];exact GD
 exact aW aG [dM 40 1 [1] false W A.length,u4 41 1 false [1] 1 (eg A x B [2]) A.length _ _ hg,hw 42 Hg,hb 43 (dW hk),Ll 48 .i64 c N aap,hb 49 aeh,dM 53 1 [1] false W A.length,u4 54 1 false [1] 1 (eg A x B [2]) A.length _ _ hg,dM 58 1 [1] false W A.length,u4 59 1 false [1] 1 (eg A x B [2]) A.length _ _ hg,
   dM 61 2 [2] false (x.map aT).length k SE,g6 62 2 true [2] 2 aT x k (aT x[k]) GD,hw 64 (lY cb (by omega) (by omega)),Go.aF.hc adG,Go.aF.hc ad,dM 69 2 [2] false (x.map aT).length k SE,nX 69 2 [2] 2 aT x k ((x[k]).add (a6 (cb:Rat))) _ rfl GD]
def XX (σ : aL):∀ i,c9 σ (flat (bG i (aa.dQ 2 []))) (flat (bG i (aa.sl 2 [])))
 | 0=>iv
 | i+1=>by
   rw [yl,yl]
   exact cp (View.DD 2) (XX σ i)
instance {i:Nat}:br (bG i (aa.dQ 2 [])):=⟨λ c hc=>by rw [jA hc];exact bg.pure, λ ρ => by rw [jl,List.map_replicate];rfl⟩
instance {i:Nat}:cq 1 (bG i (aa.dQ 2 [])):=⟨λ c hc=>by rw [jA hc];infer_instance⟩
end
section
variable (G:Nat->Option (List aa))
def ahL:ag ab G 22 [az []] (az []):=ag.pc aY [] [] .aq (by kernel_rfl) rfl rfl gm (λ σ _=>fi 1)
def ahK {M:List (List ar)} (C:M≠[]) (r:∀ x∈M,x=[]) (E:M.length<=4000):ag ab G 22 [az M] (az M):=by
 have D:M.map aj=bG M.length (aa.sl 2 []):=by
   refine List.eq_replicate_iff.2 ⟨aM .., λ b hb => ?_⟩
   obtain ⟨x,z,rfl⟩:=bn.1 hb
   rw [r x z];rfl
 have F:0<M.length:=hO.2 C
 have j:bG M.length (aa.dQ 2 [])≠[] := λ e=>by
   have:=congrArg List.length e
   rw [nD,jB] at this
   omega
 have p:az M = .sl 1 (bG M.length (aa.sl 2 [])):=by show aa.sl 1 (M.map aj)=_;rw [D]
 haveI:bg (aa.sl 1 (bG M.length (aa.sl 2 []))):=by rw [<- p];infer_instance
 have v:a2 ab G (aU (ao 22) 0) (ao 22).aK (a5 0) (.exit 0) (λ q=>(3,bq q.a 1 (bG M.length (aa.dQ 2 [])))::km M M.length) (λ q=>a8 q.a 1 (bG M.length (aa.dQ 2 []))++[]) (λ _=>[(3,az M)]) (λ _=>[]):=by
   have k:=kT (P:=ab) (G:=G) (c:=aU (ao 22) 0) (n:=(ao 22).aK) (w:=a5 0) (k:=1) (so:=3) (e := .exit 0) (l:=bG M.length (aa.dQ 2 [])) (A := λ _=>km M M.length) (B := λ _=>[]) (bZ := λ _=>[]) (ct := λ _=>[]) aG [cx 8 aj M]
   refine k.gV λ q m g => ?_
   simp only [dA j,dx j,k5]
   rw [p]
   refine bz.yV (by simp) (ny [] (jL 3 (hN _ _) (l4 (View.ai (au:=⟨bG M.length (aa.dQ 2 []),1,false⟩) (by simp [bk,cD]) rfl (by simp) ?_ (by simp) λ d hd=>by rw [jA hd];rfl))))
   rw [iZ,hM (a4 _)]
   exact XX _ _
 refine bB [ck (ao 22) 0 0 0 M.length aG (λ i q=>(3,bq q.a 1 (bG i (aa.dQ 2 [])))::km M i) (λ i q=>a8 q.a 1 (bG i (aa.dQ 2 []))++[]) (.exit 0) (λ _=>[(3,az M)]) (λ _=>[]) (λ i o => ?_) v]
 have u:fY 1 (az M) (.int .i64 (i:Int))=some (.c2 (aj []).cells 0):=by rw [<- r _ (bc o)];exact B0 (f:=aj) (k:=1) o
 rw [List.replicate_succ']
 have t:qe 1 24 9000 (bG i (aa.dQ 2 [])):=⟨by rw [nD];omega,fU (k:=1)⟩
 exact sZ (key:=19) (hb:=by decide) (A := λ _=>km M i) (B := λ _=>km M (i+1)) (bZ := λ _=>[]) (ct := λ _=>[]) t 11 ⟨[12,0],[2],[3],[4]⟩ (λ y=>[bm 8 aj o,ho 15 u]++y++[a9 10 i])
def am7 {M:List (List ar)} (c:M≠[]) (b:∀ x∈M,x=[]) (f:M.length<=4000) (at_:Nat) (cb:Int):ag ab G 46 [az M,ak at_,i8 cb] (az M):=by
 have g:=ahK G c b f
 have h:0<M.length:=hO.2 c
 refine bB [hc g,fb (ao 46) 0 0 0 M.length (λ i=>[(7,az M),(8,ak 0),(9,ak i),(1,ak at_),(2,i8 cb)]) (.exit 0) [(7,az M),(8,ak 0),(1,ak at_),(2,i8 cb)] (λ i a => ?_) (rd [cx 17 aj M] ),bm 30 aj h]
 have e:((((M[i]).map aT).length:Nat):Int)=0:=by rw [b _ (bc a)];rfl
 exact rd [bm 17 aj a,aQ 23 1 aj a,hw 25 e,a9 19 i]
variable {K:cT} {q e r:Nat} (F:gG K q e r) {n:Nat}
include F
def Ml {M:List (List ar)} {f at_:Nat} {cb:Int} (hu:∀ r∈M,r.length=f) (z:M.length<=4000) (E:f<=4000) (hG:jC K n M) (aau:at_<256) (b1 : -128<=cb) (b2:cb<=127) (iw:bO K q n) (wy:bO K q 8):ag ab G 46 [az M,ak at_,i8 cb] (az (pU M at_ cb)):=by
 have NP:=Wk hu
 unfold pU
 rw [NP]
 by_cases Z:M=[]
 subst Z
 rw [if_pos (by rw [jB,re])]
 exact bB [hc (ahL G)]
 have zr:0<M.length:=hO.2 Z
 by_cases w:f=0
 rw [if_pos (by rw [w,Nat.mul_zero])]
 exact am7 G Z (λ x hx=>sP (by rw [hu x hx];exact w)) z at_ cb
 have X:0<f:=Nat.pos_of_ne_zero w
 have U:0<M.length*f:=Nat.mul_pos zr X
 rw [if_neg (by omega)]
 have hj:=Nat.mod_lt at_ U
 have aqU:=hL at_ (M.length*f)
 generalize v:M.length*f=N at *
 generalize Ce:at_%N=j at *
 have hk:j%f<f:=Nat.mod_lt _ X
 have ht:j/f<M.length:=by
   rw [Nat.div_lt_iff_lt_mul X,v];exact hj
 have D:j/f*f+j%f=j:=by rw [Nat.mul_comm];exact hL j f
 have I:M=M.take (j/f)++M[j/f]::M.drop (j/f+1):=by rw [List.getElem_cons_drop,List.take_append_drop]
 have ahb:(M.take (j/f)).length=j/f:=by rw [cZ];omega
 generalize hx:M[j/f]=x at *
 generalize M.take (j/f)=A at *
 generalize M.drop (j/f+1)=B at *
 generalize lp:j%f=kk at *
 rw [<- ahb] at D
 have R:x∈M:=by rw [I];simp
 have Hg:=hu x R
 have u:(A++x::B).length=M.length:=by rw [<- I]
 have t:∀ r∈A++x::B,r.length=f:=by rw [<- I];exact hu
 have V:sg (a6 (cb:Rat)) M j=A++x.set kk ((x.getD kk (a6 0)).add (a6 (cb:Rat)))::B:=by
   have:=WA (y:=a6 (cb:Rat)) (B:=B) Hg hk (A:=A) (λ r hr=>t r (List.mem_append_left _ hr))
   rw [D] at this
   rw [I]
   exact this
 rw [V]
 have S:kk<x.length:=by omega
 rw [bj S]
 have Xa:A.length<M.length:=by rw [<- u,cd,e6];omega
 have o:∀ m,m<j->(at_-m)%N≠0 := λ m hm=>by
   have L:at_-m=(j-m)+N*(at_/N):=by omega
   rw [L,Nat.add_mul_mod_self_left,Nat.mod_eq_of_lt (by omega)]
   omega
 have Q:(at_-j)%N=0:=by
   have L:at_-j=N*(at_/N):=by omega
   rw [L,Nat.mul_mod_right]
 have Y:∀ i,i<A.length->i*f+f<=A.length*f := λ i H=>by
   have:=c6 f (show i+1<=A.length from H)
   rwa [jN] at this
 have aqE:N<=4000*4000:=by rw [<- v];exact lH z E
 have row:∀ i,i<A.length->a2 ab G (aU (ao 46) 1) (ao 46).aK (a5 2) .normal (xB M.length cb N i (at_-i*f)) (lE A x B) (xB M.length cb N (i+1) (at_-(i+1)*f)) (lE A x B) := λ i H=>by
   have h1:=Y i H
   have L:(i+1)*f=i*f+f:=jN i f
   rw [L]
   exact aW ⟨[2000000,0],[2000001,0],[3],[4]⟩ [hb 30 (dW (i:=i) (N:=M.length) (by omega)),hb 33 (show decide ((N:Int)>0)=true from decide_eq_true (by omega)),ck (ao 46) 2 0 0 f aG (λ k=>z6 M.length cb N i (at_-(i*f+k)) k) (λ _=>lE A x B) (.exit 4) (xB M.length cb N i (at_-(i*f+f))) (lE A x B) (λ k J=>Wy G u t z E U (by omega) J (o _ (by omega)) (by omega)) (am4 G u t H),a9 36 i]
 have Yz:=am5 G F (A:=A) (B:=B) (c:=at_-j) u Hg z E U hk S Q (hG x R) b1 b2 iw wy
 rw [<- D] at Yz
 have lm:(x.map aT).length=((x.set kk ((x[kk]).add (a6 (cb:Rat)))).map aT).length:=by rw [aM,aM,List.length_set]
 generalize x.set kk ((x[kk]).add (a6 (cb:Rat)))=C at *
 have O:a2 ab G (aU (ao 46) 1) (ao 46).aK (a5 2) .ret (xB M.length cb N A.length (at_-A.length*f)) (lE A x B) (λ q=>[(6, .ai q.a 1 0 M.length false)]) (λ q=>[(q.a,⟨eg A x B q.b,1,false⟩),(q.b,⟨C.map aT,2,false⟩)]) :=
   aW ⟨[2000000,0],[2000001,0],[3],[4]⟩ [hb 30 (dW Xa),hb 33 (show decide ((N:Int)>0)=true from decide_eq_true (by omega)),ck (ao 46) 2 0 0 kk aG (λ k=>z6 M.length cb N A.length (at_-(A.length*f+k)) k) (λ _=>lE A x B) .ret (λ q=>[(6, .ai q.a 1 0 M.length false)]) (λ q=>[(q.a,⟨eg A x B q.b,1,false⟩),(q.b,⟨C.map aT,2,false⟩)]) (λ k J=>Wy G u t z E U Xa (by omega) (o _ (by omega)) (by omega)) Yz]
 have P:a2 ab G (aU (ao 46) 0) (ao 46).aK (a5 0) (.exit 0) (Dl M.length at_ cb (M.length*f) M.length) (lE A x B) (λ q=>[(7, .ai q.a 1 0 M.length false),(8,ak (M.length*f)),(1,ak at_),(2,i8 cb)]) (lE A x B):=aW aG [hb 17 (kM (a4 M.length))]
 rw [v] at P
 have acB := λ p=>ahM G I (λ y hy=>⟨λ h=>by have:=hu y hy;rw [h] at this;simp at this;omega,by rw [hu y hy];exact E⟩) z p
 have cut:ag ab G 46 [az M,ak at_,i8 cb] (az (A++C::B)):=ag.pc aY [dc acB,w3 (ao 46) 0 0 0 M.length ⟨[2000000,2,0],[2000001,2,0],[3],[4]⟩ [(7, .ai [2000000,2,0] 1 0 M.length false),(8,ak 0),(9,ak 0),(1,ak at_),(2,i8 cb)] [([2000000,2,0],⟨eg A x B [2000001,2,0],1,false⟩),([2000001,2,0],⟨x.map aT,2,false⟩)] (λ i=>Dl M.length at_ cb (i*f) i) (λ _=>lE A x B) (.exit 0) (λ q=>[(7, .ai q.a 1 0 M.length false),(8,ak N),(1,ak at_),(2,i8 cb)]) (lE A x B) (by unfold Dl;rw [re]) rfl (λ i H=>am3 G u t z E H) (by rw [v];exact P),
   w3 (ao 46) 1 2 1 A.length ⟨[2000000,0],[2000001,0],[3],[4]⟩ [(7, .ai [2000000,0] 1 0 M.length false),(8,ak N),(10,ak 0),(1,ak at_),(2,i8 cb)] [([2000000,0],⟨eg A x B [2000001,0],1,false⟩),([2000001,0],⟨x.map aT,2,false⟩)] (λ i=>xB M.length cb N i (at_-i*f)) (λ _=>lE A x B) .ret (λ q=>[(6, .ai q.a 1 0 M.length false)]) (λ q=>[(q.a,⟨eg A x B q.b,1,false⟩),(q.b,⟨C.map aT,2,false⟩)]) (by unfold xB;rw [re,Nat.sub_zero]) rfl row O]
   [([400000000000000,0],⟨eg A x B [400000000000001,0],1,false⟩),([400000000000001,0],⟨C.map aT,2,false⟩)] (.ai [400000000000000,0] 1 0 M.length false) (by kernel_rfl)
   (by
     show [(_,aN.mk (bx _ (eg A x B [400000000000001,0])) 1 false),(_,aN.mk (bx _ (C.map aT)) 2 false)]=_
     rw [Q4,br.fix (l:=C.map aT)]
     rfl) rfl (by simp)
   (λ σ fJ=>by
     have ha:=fJ _ cS
     have hb:=fJ _ (c5 _ cS)
     simp only at ha hb
     have lc:=Q3 A x B [400000000000001,0]
     refine View.ai (au:=⟨eg A x B [400000000000001,0],1,false⟩) ha rfl (by show 0+M.length<=(eg A x B [400000000000001,0]).length;rw [lc,u];omega) ?_ (by rw [aM, <- u];simp) λ d hd=>by obtain ⟨y,_,rfl⟩:=bn.1 hd;rfl
     rw [iZ,hM (by rw [lc,u];exact a4 _)]
     refine XN ?_ A
     rw [lm]
     exact im (k:=2) hb)
 exact cut
end
end Go.Proofs.YtpcofcmencgkbaaGreat
