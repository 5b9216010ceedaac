/- For the claim of VerifierRank: parts XTM, XTN, XTO, XTP, XTQ, XTR, XTS, XTU, MXC, XTV, XTW, MXD, XTX. -/
import Derived.Test.YtpcofcmencgkbaaGreatC09
import Derived.Test.YtpcofcmencgkbaaGreatC07
import Derived.Test.YtpcofcmencgkbaaGreatC06
set_option linter.defProp false
set_option linter.unusedSectionVars false
set_option linter.unusedSimpArgs false
set_option linter.unusedVariables false
set_option maxRecDepth 100000
open Bool renaming eq_false_iff->A9,not_eq_true->ZN,or_eq_false_iff->po
open Go.IntKind renaming i64->cF,wrap_i64->cM
open Go.Proofs.Tryz renaming prog->ab
open Go.aF renaming hb->fh
open Go.aF.ah renaming drop->bd,dN->bD
open Go.aF.ah.eJ renaming drop->l5
open Go.aF.aB renaming s->aG
open Go.aF.aI renaming rat->eb,pb->lI,DC->vT,Al->nH
open Go.aF.ar renaming T->aT,oT->uw,rat->a6
open Go.aF.aC renaming ep->eD,xF->uq
open Go.aF.Src renaming K7->Ps,xk->Ba
open Go.aF.aE renaming drop->c7,zU->ea
open Go.aF.ag renaming xM->bQ
open Go.aF.View renaming aq->fi
open Go.aF.c9 renaming cons->cp
open List renaming all_eq_true->eO,any_eq_false->uu,contains_eq_mem->EE,contains_iff_mem->pq,eq_nil_of_length_eq_zero->sP,ext_getElem->ou,foldl_append->Bb,getD_eq_getElem?_getD->dJ,getElem?_eq_getElem->du,getElem_drop->Bd,getElem_map->k8,getElem_mapIdx->ZQ,getElem_mem->bc,getElem_set->Pt,getElem_set_self->ZT,getElem_zipWith->vK,length_append->cd,length_drop->l0,length_map->aM,length_mapIdx->Bc,length_nil->jB,length_pos_iff->hO,length_range->dZ,length_set->ju,length_take->cZ,length_zipWith->k0,map_append->dU,map_eq_nil_iff->eN,map_map->mU,map_singleton->ic,mem_append->en,mem_iff_getElem->fZ,mem_map->bn,mem_of_mem_take->gq,mem_range->cR,mem_singleton->bJ,nodup_nil->gm,not_mem_nil->cX,range->ba,range_succ->ke,take_length->gn,take_of_length_le->hM,take_succ_eq_append_getElem->iH
open Nat renaming add_sub_cancel'->ZR,le_refl->a4,le_trans->bs,min_eq_left->jv,min_le_right->ZO,mod_lt->bC,mul_le_mul_right->c6
set_option maxHeartbeats 4000000
open Go.aF Go.Proofs Go.Lib
namespace Go.Proofs.YtpcofcmencgkbaaGreat
section
variable (G:Nat->Option (List aa)) (t:aE 3) (a:ah 3) (ha:ah.eJ 419430400000 a) (ht:aE.eJ 419430400000 t)
include ha ht
theorem aqb (f:bD 3 2 (a)=true) (i:bD 3 1 (a)=true) (g:bD 3 0 (a)=true):ag ab G 134 [aw ⟨⟨3,t⟩,a⟩] (aw ⟨⟨3,t⟩,a⟩):=by
 have e:=cg G (h:=3) (by decide) 2 (by decide) (a) (ha)
 rw [f] at e
 have c:=cg G (h:=3) (by decide) 1 (by decide) (a) (ha)
 rw [i] at c
 have d:=cg G (h:=3) (by decide) 0 (by decide) (a) (ha)
 rw [g] at d
 exact bQ aY [hc e,hc c,hc d] [([5],⟨t.ay.map bb,1,false⟩)] (.agg [.ai [5] 1 0 3 false,aJ (a)]) (by kernel_rfl) (λ σ h=>iU (n:=⟨⟨3,t⟩,a⟩) (hH (one h) (ea _)))
def aqa (i:bD 3 2 (a)=true) (g:bD 3 1 (a)=true) (k:bD 3 0 (a)=false) (j:bD 1 0 (t.1.2)=true):ag ab G 134 [aw ⟨⟨3,t⟩,a⟩] (aw ⟨⟨3,t⟩,a⟩):=by
 have f:=cg G (h:=3) (by decide) 2 (by decide) (a) (ha)
 rw [i] at f
 have e:=cg G (h:=3) (by decide) 1 (by decide) (a) (ha)
 rw [g] at e
 have c:=cg G (h:=3) (by decide) 0 (by decide) (a) (ha)
 rw [k] at c
 have d:=cg G (h:=1) (by decide) 0 (by decide) (t.1.2) (ht.1.2)
 rw [j] at d
 exact bQ aY [hc f,hc e,hc c,hc d] [([5],⟨t.ay.map bb,1,false⟩)] (.agg [.ai [5] 1 0 3 false,aJ (a)]) (by kernel_rfl) (λ σ h=>iU (n:=⟨⟨3,t⟩,a⟩) (hH (one h) (ea _)))
def ap9 (k:bD 3 2 (a)=true) (i:bD 3 1 (a)=true) (m:bD 3 0 (a)=false) (l:bD 1 0 (t.1.2)=false) (j:bD 2 0 (t.2)=true):ag ab G 134 [aw ⟨⟨3,t⟩,a⟩] (aw ⟨⟨3,t⟩,a⟩):=by
 have g:=cg G (h:=3) (by decide) 2 (by decide) (a) (ha)
 rw [k] at g
 have f:=cg G (h:=3) (by decide) 1 (by decide) (a) (ha)
 rw [i] at f
 have c:=cg G (h:=3) (by decide) 0 (by decide) (a) (ha)
 rw [m] at c
 have e:=cg G (h:=1) (by decide) 0 (by decide) (t.1.2) (ht.1.2)
 rw [l] at e
 have d:=cg G (h:=2) (by decide) 0 (by decide) (t.2) (ht.2)
 rw [j] at d
 exact bQ aY [hc g,hc f,hc c,hc e,hc d] [([5],⟨t.ay.map bb,1,false⟩)] (.agg [.ai [5] 1 0 3 false,aJ (a)]) (by kernel_rfl) (λ σ h=>iU (n:=⟨⟨3,t⟩,a⟩) (hH (one h) (ea _)))
def ap8 (l:bD 3 2 (a)=true) (i:bD 3 1 (a)=true) (j:bD 3 0 (a)=false) (o:bD 1 0 (t.1.2)=false) (k:bD 2 0 (t.2)=false):ag ab G 134 [aw ⟨⟨3,t⟩,a⟩] (aw ⟨⟨2,c7 2 0 (t)⟩,bd 2 0 (a)⟩):=by
 have g:=cg G (h:=3) (by decide) 2 (by decide) (a) (ha)
 rw [l] at g
 have f:=cg G (h:=3) (by decide) 1 (by decide) (a) (ha)
 rw [i] at f
 have c:=cg G (h:=3) (by decide) 0 (by decide) (a) (ha)
 rw [j] at c
 have e:=cg G (h:=1) (by decide) 0 (by decide) (t.1.2) (ht.1.2)
 rw [o] at e
 have d:=cg G (h:=2) (by decide) 0 (by decide) (t.2) (ht.2)
 rw [k] at d
 have w0:=gM G (h:=2) (by decide) 0 (by decide) (a)
 have m:=gM G (h:=0) (by decide) 0 (by decide) (t.1.2)
 have p:=gM G (h:=1) (by decide) 0 (by decide) (t.2)
 exact bQ aY [hc g,hc f,hc c,hc e,hc d,hc w0,hc m,hc p] [([191],⟨(c7 2 0 (t)).ay.map bb,1,false⟩)] (.agg [.ai [191] 1 0 2 false,aJ (bd 2 0 (a))]) (by kernel_rfl) (λ σ h=>iU (n:=⟨⟨2,c7 2 0 (t)⟩,bd 2 0 (a)⟩) (hH (one h) (ea _)))
def ap7 (i:bD 3 2 (a)=true) (g:bD 3 1 (a)=false) (k:bD 2 1 (t.2)=true) (j:bD 3 0 (a)=true):ag ab G 134 [aw ⟨⟨3,t⟩,a⟩] (aw ⟨⟨3,t⟩,a⟩):=by
 have f:=cg G (h:=3) (by decide) 2 (by decide) (a) (ha)
 rw [i] at f
 have e:=cg G (h:=3) (by decide) 1 (by decide) (a) (ha)
 rw [g] at e
 have c:=cg G (h:=2) (by decide) 1 (by decide) (t.2) (ht.2)
 rw [k] at c
 have d:=cg G (h:=3) (by decide) 0 (by decide) (a) (ha)
 rw [j] at d
 exact bQ aY [hc f,hc e,hc c,hc d] [([5],⟨t.ay.map bb,1,false⟩)] (.agg [.ai [5] 1 0 3 false,aJ (a)]) (by kernel_rfl) (λ σ h=>iU (n:=⟨⟨3,t⟩,a⟩) (hH (one h) (ea _)))
def ap6 (k:bD 3 2 (a)=true) (i:bD 3 1 (a)=false) (m:bD 2 1 (t.2)=true) (l:bD 3 0 (a)=false) (j:bD 1 0 (t.1.2)=true):ag ab G 134 [aw ⟨⟨3,t⟩,a⟩] (aw ⟨⟨3,t⟩,a⟩):=by
 have g:=cg G (h:=3) (by decide) 2 (by decide) (a) (ha)
 rw [k] at g
 have f:=cg G (h:=3) (by decide) 1 (by decide) (a) (ha)
 rw [i] at f
 have c:=cg G (h:=2) (by decide) 1 (by decide) (t.2) (ht.2)
 rw [m] at c
 have e:=cg G (h:=3) (by decide) 0 (by decide) (a) (ha)
 rw [l] at e
 have d:=cg G (h:=1) (by decide) 0 (by decide) (t.1.2) (ht.1.2)
 rw [j] at d
 exact bQ aY [hc g,hc f,hc c,hc e,hc d] [([5],⟨t.ay.map bb,1,false⟩)] (.agg [.ai [5] 1 0 3 false,aJ (a)]) (by kernel_rfl) (λ σ h=>iU (n:=⟨⟨3,t⟩,a⟩) (hH (one h) (ea _)))
def ap5 (o:bD 3 2 (a)=true) (j:bD 3 1 (a)=false) (p:bD 2 1 (t.2)=true) (m:bD 3 0 (a)=false) (k:bD 1 0 (t.1.2)=false) (l:bD 2 0 (t.2)=true):ag ab G 134 [aw ⟨⟨3,t⟩,a⟩] (aw ⟨⟨3,t⟩,a⟩):=by
 have i:=cg G (h:=3) (by decide) 2 (by decide) (a) (ha)
 rw [o] at i
 have f:=cg G (h:=3) (by decide) 1 (by decide) (a) (ha)
 rw [j] at f
 have c:=cg G (h:=2) (by decide) 1 (by decide) (t.2) (ht.2)
 rw [p] at c
 have e:=cg G (h:=3) (by decide) 0 (by decide) (a) (ha)
 rw [m] at e
 have d:=cg G (h:=1) (by decide) 0 (by decide) (t.1.2) (ht.1.2)
 rw [k] at d
 have b:=cg G (h:=2) (by decide) 0 (by decide) (t.2) (ht.2)
 rw [l] at b
 exact bQ aY [hc i,hc f,hc c,hc e,hc d,hc b] [([5],⟨t.ay.map bb,1,false⟩)] (.agg [.ai [5] 1 0 3 false,aJ (a)]) (by kernel_rfl) (λ σ h=>iU (n:=⟨⟨3,t⟩,a⟩) (hH (one h) (ea _)))
def ap4 (q:bD 3 2 (a)=true) (j:bD 3 1 (a)=false) (k:bD 2 1 (t.2)=true) (p:bD 3 0 (a)=false) (l:bD 1 0 (t.1.2)=false) (m:bD 2 0 (t.2)=false):ag ab G 134 [aw ⟨⟨3,t⟩,a⟩] (aw ⟨⟨2,c7 2 0 (t)⟩,bd 2 0 (a)⟩):=by
 have i:=cg G (h:=3) (by decide) 2 (by decide) (a) (ha)
 rw [q] at i
 have f:=cg G (h:=3) (by decide) 1 (by decide) (a) (ha)
 rw [j] at f
 have c:=cg G (h:=2) (by decide) 1 (by decide) (t.2) (ht.2)
 rw [k] at c
 have e:=cg G (h:=3) (by decide) 0 (by decide) (a) (ha)
 rw [p] at e
 have d:=cg G (h:=1) (by decide) 0 (by decide) (t.1.2) (ht.1.2)
 rw [l] at d
 have b:=cg G (h:=2) (by decide) 0 (by decide) (t.2) (ht.2)
 rw [m] at b
 have w0:=gM G (h:=2) (by decide) 0 (by decide) (a)
 have o:=gM G (h:=0) (by decide) 0 (by decide) (t.1.2)
 have r:=gM G (h:=1) (by decide) 0 (by decide) (t.2)
 exact bQ aY [hc i,hc f,hc c,hc e,hc d,hc b,hc w0,hc o,hc r] [([191],⟨(c7 2 0 (t)).ay.map bb,1,false⟩)] (.agg [.ai [191] 1 0 2 false,aJ (bd 2 0 (a))]) (by kernel_rfl) (λ σ h=>iU (n:=⟨⟨2,c7 2 0 (t)⟩,bd 2 0 (a)⟩) (hH (one h) (ea _)))
def ap3 (j:bD 3 2 (a)=true) (g:bD 3 1 (a)=false) (i:bD 2 1 (t.2)=false) (l:bD 2 0 (bd 2 1 (a))=true):ag ab G 134 [aw ⟨⟨3,t⟩,a⟩] (aw ⟨⟨2,c7 2 1 (t)⟩,bd 2 1 (a)⟩):=by
 have f:=cg G (h:=3) (by decide) 2 (by decide) (a) (ha)
 rw [j] at f
 have e:=cg G (h:=3) (by decide) 1 (by decide) (a) (ha)
 rw [g] at e
 have c:=cg G (h:=2) (by decide) 1 (by decide) (t.2) (ht.2)
 rw [i] at c
 have w0:=gM G (h:=2) (by decide) 1 (by decide) (a)
 have k:=gM G (h:=1) (by decide) 1 (by decide) (t.2)
 have d:=cg G (h:=2) (by decide) 0 (by decide) (bd 2 1 (a)) (l5 2 1 (a) (ha))
 rw [l] at d
 exact bQ aY [hc f,hc e,hc c,hc w0,hc k,hc d] [([114],⟨(c7 2 1 (t)).ay.map bb,1,false⟩)] (.agg [.ai [114] 1 0 2 false,aJ (bd 2 1 (a))]) (by kernel_rfl) (λ σ h=>iU (n:=⟨⟨2,c7 2 1 (t)⟩,bd 2 1 (a)⟩) (hH (one h) (ea _)))
def ap2 (l:bD 3 2 (a)=true) (i:bD 3 1 (a)=false) (j:bD 2 1 (t.2)=false) (o:bD 2 0 (bd 2 1 (a))=false) (k:bD 1 0 (bd 1 1 (t.2))=true):ag ab G 134 [aw ⟨⟨3,t⟩,a⟩] (aw ⟨⟨2,c7 2 1 (t)⟩,bd 2 1 (a)⟩):=by
 have g:=cg G (h:=3) (by decide) 2 (by decide) (a) (ha)
 rw [l] at g
 have f:=cg G (h:=3) (by decide) 1 (by decide) (a) (ha)
 rw [i] at f
 have c:=cg G (h:=2) (by decide) 1 (by decide) (t.2) (ht.2)
 rw [j] at c
 have w0:=gM G (h:=2) (by decide) 1 (by decide) (a)
 have m:=gM G (h:=1) (by decide) 1 (by decide) (t.2)
 have e:=cg G (h:=2) (by decide) 0 (by decide) (bd 2 1 (a)) (l5 2 1 (a) (ha))
 rw [o] at e
 have d:=cg G (h:=1) (by decide) 0 (by decide) (bd 1 1 (t.2)) (l5 1 1 (t.2) (ht.2))
 rw [k] at d
 exact bQ aY [hc g,hc f,hc c,hc w0,hc m,hc e,hc d] [([114],⟨(c7 2 1 (t)).ay.map bb,1,false⟩)] (.agg [.ai [114] 1 0 2 false,aJ (bd 2 1 (a))]) (by kernel_rfl) (λ σ h=>iU (n:=⟨⟨2,c7 2 1 (t)⟩,bd 2 1 (a)⟩) (hH (one h) (ea _)))
def ap1 (o:bD 3 2 (a)=true) (i:bD 3 1 (a)=false) (k:bD 2 1 (t.2)=false) (j:bD 2 0 (bd 2 1 (a))=false) (l:bD 1 0 (bd 1 1 (t.2))=false):ag ab G 134 [aw ⟨⟨3,t⟩,a⟩] (aw ⟨⟨1,c7 1 0 (c7 2 1 (t))⟩,bd 1 0 (bd 2 1 (a))⟩):=by
 have g:=cg G (h:=3) (by decide) 2 (by decide) (a) (ha)
 rw [o] at g
 have f:=cg G (h:=3) (by decide) 1 (by decide) (a) (ha)
 rw [i] at f
 have c:=cg G (h:=2) (by decide) 1 (by decide) (t.2) (ht.2)
 rw [k] at c
 have w0:=gM G (h:=2) (by decide) 1 (by decide) (a)
 have p:=gM G (h:=1) (by decide) 1 (by decide) (t.2)
 have e:=cg G (h:=2) (by decide) 0 (by decide) (bd 2 1 (a)) (l5 2 1 (a) (ha))
 rw [j] at e
 have d:=cg G (h:=1) (by decide) 0 (by decide) (bd 1 1 (t.2)) (l5 1 1 (t.2) (ht.2))
 rw [l] at d
 have q:=gM G (h:=1) (by decide) 0 (by decide) (bd 2 1 (a))
 have m:=gM G (h:=0) (by decide) 0 (by decide) (bd 1 1 (t.2))
 exact bQ aY [hc g,hc f,hc c,hc w0,hc p,hc e,hc d,hc q,hc m] [([199],⟨(c7 1 0 (c7 2 1 (t))).ay.map bb,1,false⟩)] (.agg [.ai [199] 1 0 1 false,aJ (bd 1 0 (bd 2 1 (a)))]) (by kernel_rfl) (λ σ h=>iU (n:=⟨⟨1,c7 1 0 (c7 2 1 (t))⟩,bd 1 0 (bd 2 1 (a))⟩) (hH (one h) (ea _)))
theorem ap0 (f:bD 3 2 (a)=false) (i:bD 2 1 (bd 2 2 (a))=true) (g:bD 2 0 (bd 2 2 (a))=true):ag ab G 134 [aw ⟨⟨3,t⟩,a⟩] (aw ⟨⟨2,c7 2 2 (t)⟩,bd 2 2 (a)⟩):=by
 have e:=cg G (h:=3) (by decide) 2 (by decide) (a) (ha)
 rw [f] at e
 have w0:=gM G (h:=2) (by decide) 2 (by decide) (a)
 have c:=cg G (h:=2) (by decide) 1 (by decide) (bd 2 2 (a)) (l5 2 2 (a) (ha))
 rw [i] at c
 have d:=cg G (h:=2) (by decide) 0 (by decide) (bd 2 2 (a)) (l5 2 2 (a) (ha))
 rw [g] at d
 exact bQ aY [hc e,hc w0,hc c,hc d] [([5],⟨t.ay.map bb,1,false⟩)] (.agg [.ai [5] 1 0 2 true,aJ (bd 2 2 (a))]) (by kernel_rfl) (λ σ h=>iU (n:=⟨⟨2,c7 2 2 (t)⟩,bd 2 2 (a)⟩) (IZ (R:=t.ay) (one h) (by rw [ea];decide)))
def apZ (i:bD 3 2 (a)=false) (g:bD 2 1 (bd 2 2 (a))=true) (k:bD 2 0 (bd 2 2 (a))=false) (j:bD 1 0 (t.1.2)=true):ag ab G 134 [aw ⟨⟨3,t⟩,a⟩] (aw ⟨⟨2,c7 2 2 (t)⟩,bd 2 2 (a)⟩):=by
 have f:=cg G (h:=3) (by decide) 2 (by decide) (a) (ha)
 rw [i] at f
 have w0:=gM G (h:=2) (by decide) 2 (by decide) (a)
 have e:=cg G (h:=2) (by decide) 1 (by decide) (bd 2 2 (a)) (l5 2 2 (a) (ha))
 rw [g] at e
 have c:=cg G (h:=2) (by decide) 0 (by decide) (bd 2 2 (a)) (l5 2 2 (a) (ha))
 rw [k] at c
 have d:=cg G (h:=1) (by decide) 0 (by decide) (t.1.2) (ht.1.2)
 rw [j] at d
 exact bQ aY [hc f,hc w0,hc e,hc c,hc d] [([5],⟨t.ay.map bb,1,false⟩)] (.agg [.ai [5] 1 0 2 true,aJ (bd 2 2 (a))]) (by kernel_rfl) (λ σ h=>iU (n:=⟨⟨2,c7 2 2 (t)⟩,bd 2 2 (a)⟩) (IZ (R:=t.ay) (one h) (by rw [ea];decide)))
def apY (j:bD 3 2 (a)=false) (g:bD 2 1 (bd 2 2 (a))=true) (i:bD 2 0 (bd 2 2 (a))=false) (l:bD 1 0 (t.1.2)=false):ag ab G 134 [aw ⟨⟨3,t⟩,a⟩] (aw ⟨⟨1,c7 1 0 (c7 2 2 (t))⟩,bd 1 0 (bd 2 2 (a))⟩):=by
 have f:=cg G (h:=3) (by decide) 2 (by decide) (a) (ha)
 rw [j] at f
 have w0:=gM G (h:=2) (by decide) 2 (by decide) (a)
 have e:=cg G (h:=2) (by decide) 1 (by decide) (bd 2 2 (a)) (l5 2 2 (a) (ha))
 rw [g] at e
 have c:=cg G (h:=2) (by decide) 0 (by decide) (bd 2 2 (a)) (l5 2 2 (a) (ha))
 rw [i] at c
 have d:=cg G (h:=1) (by decide) 0 (by decide) (t.1.2) (ht.1.2)
 rw [l] at d
 have k:=gM G (h:=1) (by decide) 0 (by decide) (bd 2 2 (a))
 have m:=gM G (h:=0) (by decide) 0 (by decide) (t.1.2)
 exact bQ aY [hc f,hc w0,hc e,hc c,hc d,hc k,hc m] [([160],⟨(c7 1 0 (c7 2 2 (t))).ay.map bb,1,false⟩)] (.agg [.ai [160] 1 0 1 false,aJ (bd 1 0 (bd 2 2 (a)))]) (by kernel_rfl) (λ σ h=>iU (n:=⟨⟨1,c7 1 0 (c7 2 2 (t))⟩,bd 1 0 (bd 2 2 (a))⟩) (hH (one h) (ea _)))
theorem apX (g:bD 3 2 (a)=false) (f:bD 2 1 (bd 2 2 (a))=false) (j:bD 1 0 (bd 1 1 (bd 2 2 (a)))=true):ag ab G 134 [aw ⟨⟨3,t⟩,a⟩] (aw ⟨⟨1,c7 1 1 (c7 2 2 (t))⟩,bd 1 1 (bd 2 2 (a))⟩):=by
 have e:=cg G (h:=3) (by decide) 2 (by decide) (a) (ha)
 rw [g] at e
 have w0:=gM G (h:=2) (by decide) 2 (by decide) (a)
 have b:=cg G (h:=2) (by decide) 1 (by decide) (bd 2 2 (a)) (l5 2 2 (a) (ha))
 rw [f] at b
 have i:=gM G (h:=1) (by decide) 1 (by decide) (bd 2 2 (a))
 have c:=cg G (h:=1) (by decide) 0 (by decide) (bd 1 1 (bd 2 2 (a))) (l5 1 1 (bd 2 2 (a)) (l5 2 2 (a) (ha)))
 rw [j] at c
 exact bQ aY [hc e,hc w0,hc b,hc i,hc c] [([5],⟨t.ay.map bb,1,false⟩)] (.agg [.ai [5] 1 0 1 true,aJ (bd 1 1 (bd 2 2 (a)))]) (by kernel_rfl) (λ σ h=>iU (n:=⟨⟨1,c7 1 1 (c7 2 2 (t))⟩,bd 1 1 (bd 2 2 (a))⟩) (IZ (R:=t.ay) (one h) (by rw [ea];decide)))
theorem apW (f:bD 3 2 (a)=false) (g:bD 2 1 (bd 2 2 (a))=false) (j:bD 1 0 (bd 1 1 (bd 2 2 (a)))=false):ag ab G 134 [aw ⟨⟨3,t⟩,a⟩] (aw ⟨aD.nil,bd 0 0 (bd 1 1 (bd 2 2 (a)))⟩):=by
 have e:=cg G (h:=3) (by decide) 2 (by decide) (a) (ha)
 rw [f] at e
 have w0:=gM G (h:=2) (by decide) 2 (by decide) (a)
 have c:=cg G (h:=2) (by decide) 1 (by decide) (bd 2 2 (a)) (l5 2 2 (a) (ha))
 rw [g] at c
 have i:=gM G (h:=1) (by decide) 1 (by decide) (bd 2 2 (a))
 have d:=cg G (h:=1) (by decide) 0 (by decide) (bd 1 1 (bd 2 2 (a))) (l5 1 1 (bd 2 2 (a)) (l5 2 2 (a) (ha)))
 rw [j] at d
 have k:=gM G (h:=0) (by decide) 0 (by decide) (bd 1 1 (bd 2 2 (a)))
 exact bQ aY [hc e,hc w0,hc c,hc i,hc d,hc k] [([5],⟨t.ay.map bb,1,false⟩)] (.agg [.ai [5] 1 0 0 true,aJ (bd 0 0 (bd 1 1 (bd 2 2 (a))))]) (by kernel_rfl) (λ σ h=>iU (n:=⟨aD.nil,bd 0 0 (bd 1 1 (bd 2 2 (a)))⟩) (IZ (R:=t.ay) (one h) (by rw [ea];decide)))
end
section
variable (G:Nat->Option (List aa))
def aqe (t : aE 3) (a:ah 3) (j:ah.eJ 419430400000 a) (h:aE.eJ 419430400000 t):ag ab G 134 [aw ⟨⟨3,t⟩,a⟩] (aw (aI.trim ⟨⟨3,t⟩,a⟩)):=by
 show ag ab G 134 [aw ⟨⟨3,t⟩,a⟩] (aw (lI 3 ⟨⟨3,t⟩,a⟩))
 cases f:bD 3 2 (a) with
 | true =>
   rw [nH (i:=2) (n:=⟨⟨3,t⟩,a⟩) (by decide:2<3) (by show (bD 3 2 (a)||false)=true;rw [f];rfl)]
   cases e:bD 3 1 (a) with
   | true =>
     rw [nH (i:=1) (n:=⟨⟨3,t⟩,a⟩) (by decide:1<3) (by show (bD 3 1 (a)||(false||bD 2 1 (t.2)))=true;rw [e];rfl)]
     cases b:bD 3 0 (a) with
     | true =>
       rw [nH (i:=0) (n:=⟨⟨3,t⟩,a⟩) (by decide:0<3) (by show (bD 3 0 (a)||((false||bD 1 0 (t.1.2))||bD 2 0 (t.2)))=true;rw [b];rfl)]
       exact aqb G t a j h f e b
     | false =>
       cases d:bD 1 0 (t.1.2) with
       | true =>
         rw [nH (i:=0) (n:=⟨⟨3,t⟩,a⟩) (by decide:0<3) (by show (bD 3 0 (a)||((false||bD 1 0 (t.1.2))||bD 2 0 (t.2)))=true;rw [b,d];rfl)]
         exact aqa G t a j h f e b d
       | false =>
         cases g:bD 2 0 (t.2) with
         | true =>
           rw [nH (i:=0) (n:=⟨⟨3,t⟩,a⟩) (by decide:0<3) (by show (bD 3 0 (a)||((false||bD 1 0 (t.1.2))||bD 2 0 (t.2)))=true;rw [b,d,g];rfl)]
           exact ap9 G t a j h f e b d g
         | false =>
           rw [vT (i:=0) (n:=⟨⟨3,t⟩,a⟩) (by decide:0<3) (by show (bD 3 0 (a)||((false||bD 1 0 (t.1.2))||bD 2 0 (t.2)))=false;rw [b,d,g];rfl)]
           show ag ab G 134 [aw ⟨⟨3,t⟩,a⟩] (aw (lI 0 ⟨⟨2,c7 2 0 (t)⟩,bd 2 0 (a)⟩))
           exact ap8 G t a j h f e b d g
   | false =>
     cases b:bD 2 1 (t.2) with
     | true =>
       rw [nH (i:=1) (n:=⟨⟨3,t⟩,a⟩) (by decide:1<3) (by show (bD 3 1 (a)||(false||bD 2 1 (t.2)))=true;rw [e,b];rfl)]
       cases d:bD 3 0 (a) with
       | true =>
         rw [nH (i:=0) (n:=⟨⟨3,t⟩,a⟩) (by decide:0<3) (by show (bD 3 0 (a)||((false||bD 1 0 (t.1.2))||bD 2 0 (t.2)))=true;rw [d];rfl)]
         exact ap7 G t a j h f e b d
       | false =>
         cases g:bD 1 0 (t.1.2) with
         | true =>
           rw [nH (i:=0) (n:=⟨⟨3,t⟩,a⟩) (by decide:0<3) (by show (bD 3 0 (a)||((false||bD 1 0 (t.1.2))||bD 2 0 (t.2)))=true;rw [d,g];rfl)]
           exact ap6 G t a j h f e b d g
         | false =>
           cases k:bD 2 0 (t.2) with
           | true =>
             rw [nH (i:=0) (n:=⟨⟨3,t⟩,a⟩) (by decide:0<3) (by show (bD 3 0 (a)||((false||bD 1 0 (t.1.2))||bD 2 0 (t.2)))=true;rw [d,g,k];rfl)]
             exact ap5 G t a j h f e b d g k
           | false =>
             rw [vT (i:=0) (n:=⟨⟨3,t⟩,a⟩) (by decide:0<3) (by show (bD 3 0 (a)||((false||bD 1 0 (t.1.2))||bD 2 0 (t.2)))=false;rw [d,g,k];rfl)]
             show ag ab G 134 [aw ⟨⟨3,t⟩,a⟩] (aw (lI 0 ⟨⟨2,c7 2 0 (t)⟩,bd 2 0 (a)⟩))
             exact ap4 G t a j h f e b d g k
     | false =>
       rw [vT (i:=1) (n:=⟨⟨3,t⟩,a⟩) (by decide:1<3) (by show (bD 3 1 (a)||(false||bD 2 1 (t.2)))=false;rw [e,b];rfl)]
       show ag ab G 134 [aw ⟨⟨3,t⟩,a⟩] (aw (lI 1 ⟨⟨2,c7 2 1 (t)⟩,bd 2 1 (a)⟩))
       cases d:bD 2 0 (bd 2 1 (a)) with
       | true =>
         rw [nH (i:=0) (n:=⟨⟨2,c7 2 1 (t)⟩,bd 2 1 (a)⟩) (by decide:0<2) (by show (bD 2 0 (bd 2 1 (a))||(false||bD 1 0 (bd 1 1 (t.2))))=true;rw [d];rfl)]
         exact ap3 G t a j h f e b d
       | false =>
         cases g:bD 1 0 (bd 1 1 (t.2)) with
         | true =>
           rw [nH (i:=0) (n:=⟨⟨2,c7 2 1 (t)⟩,bd 2 1 (a)⟩) (by decide:0<2) (by show (bD 2 0 (bd 2 1 (a))||(false||bD 1 0 (bd 1 1 (t.2))))=true;rw [d,g];rfl)]
           exact ap2 G t a j h f e b d g
         | false =>
           rw [vT (i:=0) (n:=⟨⟨2,c7 2 1 (t)⟩,bd 2 1 (a)⟩) (by decide:0<2) (by show (bD 2 0 (bd 2 1 (a))||(false||bD 1 0 (bd 1 1 (t.2))))=false;rw [d,g];rfl)]
           show ag ab G 134 [aw ⟨⟨3,t⟩,a⟩] (aw (lI 0 ⟨⟨1,c7 1 0 (c7 2 1 (t))⟩,bd 1 0 (bd 2 1 (a))⟩))
           exact ap1 G t a j h f e b d g
 | false =>
   rw [vT (i:=2) (n:=⟨⟨3,t⟩,a⟩) (by decide:2<3) (by show (bD 3 2 (a)||false)=false;rw [f];rfl)]
   show ag ab G 134 [aw ⟨⟨3,t⟩,a⟩] (aw (lI 2 ⟨⟨2,c7 2 2 (t)⟩,bd 2 2 (a)⟩))
   cases e:bD 2 1 (bd 2 2 (a)) with
   | true =>
     rw [nH (i:=1) (n:=⟨⟨2,c7 2 2 (t)⟩,bd 2 2 (a)⟩) (by decide:1<2) (by show (bD 2 1 (bd 2 2 (a))||false)=true;rw [e];rfl)]
     cases b:bD 2 0 (bd 2 2 (a)) with
     | true =>
       rw [nH (i:=0) (n:=⟨⟨2,c7 2 2 (t)⟩,bd 2 2 (a)⟩) (by decide:0<2) (by show (bD 2 0 (bd 2 2 (a))||(false||bD 1 0 (t.1.2)))=true;rw [b];rfl)]
       exact ap0 G t a j h f e b
     | false =>
       cases d:bD 1 0 (t.1.2) with
       | true =>
         rw [nH (i:=0) (n:=⟨⟨2,c7 2 2 (t)⟩,bd 2 2 (a)⟩) (by decide:0<2) (by show (bD 2 0 (bd 2 2 (a))||(false||bD 1 0 (t.1.2)))=true;rw [b,d];rfl)]
         exact apZ G t a j h f e b d
       | false =>
         rw [vT (i:=0) (n:=⟨⟨2,c7 2 2 (t)⟩,bd 2 2 (a)⟩) (by decide:0<2) (by show (bD 2 0 (bd 2 2 (a))||(false||bD 1 0 (t.1.2)))=false;rw [b,d];rfl)]
         show ag ab G 134 [aw ⟨⟨3,t⟩,a⟩] (aw (lI 0 ⟨⟨1,c7 1 0 (c7 2 2 (t))⟩,bd 1 0 (bd 2 2 (a))⟩))
         exact apY G t a j h f e b d
   | false =>
     rw [vT (i:=1) (n:=⟨⟨2,c7 2 2 (t)⟩,bd 2 2 (a)⟩) (by decide:1<2) (by show (bD 2 1 (bd 2 2 (a))||false)=false;rw [e];rfl)]
     show ag ab G 134 [aw ⟨⟨3,t⟩,a⟩] (aw (lI 1 ⟨⟨1,c7 1 1 (c7 2 2 (t))⟩,bd 1 1 (bd 2 2 (a))⟩))
     cases b:bD 1 0 (bd 1 1 (bd 2 2 (a))) with
     | true =>
       rw [nH (i:=0) (n:=⟨⟨1,c7 1 1 (c7 2 2 (t))⟩,bd 1 1 (bd 2 2 (a))⟩) (by decide:0<1) (by show (bD 1 0 (bd 1 1 (bd 2 2 (a)))||false)=true;rw [b];rfl)]
       exact apX G t a j h f e b
     | false =>
       rw [vT (i:=0) (n:=⟨⟨1,c7 1 1 (c7 2 2 (t))⟩,bd 1 1 (bd 2 2 (a))⟩) (by decide:0<1) (by show (bD 1 0 (bd 1 1 (bd 2 2 (a)))||false)=false;rw [b];rfl)]
       show ag ab G 134 [aw ⟨⟨3,t⟩,a⟩] (aw (lI 0 ⟨⟨0,c7 0 0 (c7 1 1 (c7 2 2 (t)))⟩,bd 0 0 (bd 1 1 (bd 2 2 (a)))⟩))
       exact apW G t a j h f e b
def Yw (a:aI) (h3:a.T.1<=3) (b:ah.eJ 419430400000 a.a) (c:aE.eJ 419430400000 a.T.2):ag ab G 134 [aw a] (aw a.trim):=by
 have ⟨⟨h,t⟩,a⟩:=a
 rcases h4 h3 with rfl | rfl | rfl | rfl
 exact apO G a
 exact aqc G t a b
 exact aqd G t a b c
 exact aqe G t a b c
def aat:((ae (0:Rat).num.natAbs:Int)==0)=true:=by decide +kernel
def Yn:∀ {h:Nat} (b:h<=3) (t:aE h),ag ab G 181 [a3 t.ay,aJ (ah.rat h 0)] (.aS [.aq, .int .i64 6])
 | 0,_,t=>aO [j0 G 20 0,hb 21 aat]
 | h+1,b,t=>by
   have c:=AA G (show h<=3 by omega) (ah.rat h 0)
   rw [ah.oT.2 rfl] at c
   have i:=Yn (show h<=3 by omega) t.1
   rcases h3 b with rfl | rfl | rfl<;>exact aO [hc c,hc i]
def aoj {a:aI} (h:a.bK) (b:a.val=0):a.a=ah.rat a.T.1 0:=(ah.red h).1 a.a b
def apk (a b:aI) (h3:b.T.1<=3) (d:b.bK) (e:b.val=0):ag ab G 131 [aw a,aw b] (.aS [.agg [.aq, .aq], .int .i64 6]):=by
 have i:=Yn G h3 b.T.2
 rw [<- aoj d e] at i
 exact aO [hc i]
def p7 (a b:aI):ag ab G 129 [aw a, .int .i64 0,aw b] (aw a):=aO []
def Yq (b:aI):ag ab G 129 [.agg [.aq, .aq], .int .i64 6,aw b] (aw b):=aO []
def lY (z:Int) (a : -9223372036854775808<=z) (h1:z<9223372036854775808):cF.wrap z=z:=by rw [cM];omega
def aph (i:Nat):ag ab G 92 [.sl 2 [], .int .i64 (i:Int)] (aw (eb 0)):=aO [hc (Yl G 0 (by decide) (by decide))]
def apg (l:List aI) (i:Nat) (e:i<256) (d:l≠[]) (f:l.length<=9000):ag ab G 92 [gT l, .int .i64 (i:Int)] (aw (l.getD (i%l.length) (eb 0))):=by
 have b:=hO.2 d
 have a:=bC i b
 rw [bj a]
 exact aO [hb 7 (show decide (((l.map aw).length:Int)=0)=false by rw [aM];exact decide_eq_false (by omega)),hb 10 (show decide ((i:Int)<0)=false from decide_eq_false (by omega)),th 17 .i64 aw l i b,aQ 18 2 aw a]
def kS (o:fF):aa := .agg [.int .u8 (o.kind:Int), .int .u8 (o.a:Int), .int .u8 (o.b:Int), .int .i8 o.n, .int .u8 (o.d:Int)]
instance {o:fF}:bg (kS o):=by unfold kS;infer_instance
instance {o:fF}:cU 5 (kS o):=⟨by unfold kS;infer_instance,rfl, λ d hd=>by
 simp only [kS,aa.cells,List.mem_cons,cX,or_false] at hd
 rcases hd with rfl | rfl | rfl | rfl | rfl<;>exact bg.pure,rfl⟩
structure l9 (o:fF):Prop where
 kind:o.kind<256
 a:o.a<256
 b:o.b<256
 d:o.d<256
 n1 : -128<=o.n
 MA:o.n<=127
def l9.abs {o:fF} (h:l9 o):o.n.natAbs<=128:=by have:=h.n1;have:=h.MA;omega
def R2 (o:fF):(o.n:Rat)/(((o.d%8+1:Nat):Int):Rat)=mkRat o.n (o.d%8+1):=(Rat.mkRat_eq_div _ _).symm
def G8 (a:aI):Bool:=(ah.flat a.a).any iQ||a.T.2.ay.any (·.any iQ)
def G9 (q:Rat):iQ q=false↔uD q:=by
 have k:∀ n:Nat,decide ((ae n:Int)>2)=false↔n<2 ^ 64 := λ n=>by
   rw [decide_eq_false_iff_not]
   constructor
   intro h
   exact CA (by omega)
   intro h
   have:=iV (n:=n) (k:=2) (by unfold af;omega)
   omega
 unfold iQ uD
 rw [po,k,k]
def TI (a:aI):G8 a=false↔a.short:=by
 unfold G8 aI.short
 rw [po,uu,uu]
 constructor
 rintro ⟨h1,c⟩
 refine ⟨λ q b=>(G9 q).1 (A9.2 (h1 q b)), λ r d q b=>(G9 q).1 ?_⟩
 have:=c r d
 rw [ZN,uu] at this
 exact A9.2 (this q b)
 rintro ⟨h1,c⟩
 refine ⟨λ q b=>by rw [(G9 q).2 (h1 q b)];decide, λ r d => ?_⟩
 rw [ZN,uu]
 exact λ q b=>by rw [(G9 q).2 (c r d q b)];decide
def TJ (a:aI) (h3:a.T.1<=3) {b:Bool} (e:G8 a=b):ag ab G 133 [aw a] (.bool b):=by
 rw [<- e]
 refine apx G a (te h3 a.a) (by rw [ea];omega) ?_
 have:∀ {h:Nat} (t:aE h),h<=3->∀ r∈t.ay,r.length<=9000 := λ {h} t=>by
   induction h with
   | zero=>exact λ _ r c=>(cX c).elim
   | succ h f =>
     intro g r c
     rcases en.1 c with h1 | h1
     exact f t.1 (by omega) r h1
     rw [bJ.1 h1];exact te (by omega) t.2
 exact this a.T.2 h3
noncomputable abbrev wB (ops:List fF) (roots i:Nat):List (Nat × aa):=[(0, .sl 5 (ops.map kS)),(4, .int .i64 (roots:Int)),(5, .int .i64 (i:Int))]
variable {ops:List fF} {i:Nat}
def jR (b:i<ops.length) (c:i<24) (ho:l9 ops[i]):List (aZ ab G) :=
 [bm 23 kS b,hb 26 (show decide ((i:Int)<24)=true from decide_eq_true (by omega)),aQ 32 5 kS b,
   hw 36 (lY ops[i].n (by have:=ho.n1;omega) (by have:=ho.MA;omega)),y3 39 .u8 ops[i].d 8,
   hw 40 (lY ((ops[i].d%8:Nat):Int) (by omega) (by omega)),hw 41 (show cF.wrap (((ops[i].d%8:Nat):Int)+1)=((ops[i].d%8+1:Nat):Int) by rw [cM];omega),
   hc (apo G ops[i].n (ops[i].d%8+1) (by omega) (by omega) (by have:=ho.n1;omega) (by have:=ho.MA;omega))]
def abb (f:i<ops.length) (c:i<24) (ho:l9 ops[i]) (roots:Nat) {w:aI} (e:ag ab G 134 [aw (eb (mkRat ops[i].n (ops[i].d%8+1)))] (aw w)) :
   a2 ab G (aU (ao 90) 0) (ao 90).aK (a5 0) .normal (λ q=>(3,bq q.a 2 [])::wB ops roots i) (λ q=>a8 q.a 2 []++[]) (λ q=>(3,bq q.a 2 [aw w])::wB ops roots (i+1)) (λ q=>a8 q.a 2 [aw w]++[]):=by
 rw [<- R2] at e
 exact Qd ⟨[45,0],[2],[3],[4]⟩ (jR G f c ho++[hc e,a9 29 i])
def Cv {M:List aI} (h:0<M.length):decide (((M.map aw).length:Int)>0)=true:=by rw [aM];exact decide_eq_true (by omega)
def ld (g:i<ops.length) (ho:l9 ops[i]) (M:List aI) (h:0<M.length) (c:Nat) (d:ops[i].kind%6=c) (f:c≠0):List (aZ ab G) :=
 [hb 45 (Cv h),ti 49 .u8 ops[i].kind 6 c d,hb 50 (show ((c:Int) != 0)=true from bne_iff_ne.2 (by omega)),
   hw 55 (lY (ops[i].a:Int) (by omega) (by have:=ho.a;omega)),th 58 .i64 aw M ops[i].a h,dM 59 2 [1] false (M.map aw).length (ops[i].a%M.length) (by rw [aM];exact bC _ h),g6 60 2 true [1] 2 aw M (ops[i].a%M.length) (aw (M[ops[i].a%M.length]'(bC _ h))) (bC _ h),
   hw 64 (lY (ops[i].b:Int) (by omega) (by have:=ho.b;omega)),th 67 .i64 aw M ops[i].b h,dM 68 2 [1] false (M.map aw).length (ops[i].b%M.length) (by rw [aM];exact bC _ h),g6 69 2 true [1] 2 aw M (ops[i].b%M.length) (aw (M[ops[i].b%M.length]'(bC _ h))) (bC _ h),
   ti 73 .u8 ops[i].kind 6 c d]
def rv (M:List aI) (h:0<M.length) {y w:aI} (b:ag ab G 133 [aw y] (.bool false)) (c:ag ab G 134 [aw y] (aw w)):List (aZ ab G) :=
 [hb 142 (Cv h),hc b,hc c]
def ry (M:List aI) (h:0<M.length) (d:M.length<=9000) {y w:aI} (c:ag ab G 133 [aw y] (.bool true)) (b:ag ab G 134 [aw (M[M.length-1]'(by omega))] (aw w)):List (aZ ab G) :=
 [hb 142 (Cv h),hc c,hw 150 (show cF.wrap (((M.map aw).length:Int)-1)=((M.length-1:Nat):Int) by rw [aM,cM];omega),dM 151 2 [1] false (M.map aw).length (M.length-1) (by rw [aM];omega),g6 152 2 true [1] 2 aw M (M.length-1) (aw (M[M.length-1]'(by omega))) ,hc b]
abbrev iM (ops:List fF) (i:Nat) (M:List aI) (r c:Nat) (w:aI):Prop:=a2 ab G (aU (ao 90) 0) (ao 90).aK (a5 0) .normal (λ q=>(3,bq q.a 2 (M.map aw))::wB ops r i) (λ q=>a8 q.a 2 (M.map aw)++[]) (λ q=>(3,bq q.a 2 (M.map aw++[aw w]))::wB ops c (i+1)) (λ q=>a8 q.a 2 (M.map aw++[aw w])++[])
def kr {M:List aI} (h:M.length<=24):qe 2 48 24 (M.map aw):=⟨by rw [aM];omega,eO.2 λ e a=>by obtain ⟨x,_,rfl⟩:=bn.1 a;exact cU.one (k:=2)⟩
def kp {M:List aI} (h:0<M.length):M.map aw≠[] := λ e=>by rw [eN.1 e] at h;exact absurd h (by decide)
variable (hi:i<ops.length) (jW:i<24) (ho:l9 ops[i]) {M:List aI} (bo:0<M.length) (jZ:M.length<=24) {w:aI}
include hi jW ho bo jZ
def aaS (roots:Nat) (c:ops[i].kind%6=0) (e:ag ab G 133 [aw (eb ((ops[i].n:Rat)/(((ops[i].d%8+1:Nat):Int):Rat)))] (.bool false)) (b:ag ab G 134 [aw (eb ((ops[i].n:Rat)/(((ops[i].d%8+1:Nat):Int):Rat)))] (aw w)):iM G ops i M roots roots w :=
 jQ (bytes:=48) (key:=157) (N:=24) (hb:=by decide) (kp bo) (kr jZ) 44 ⟨[45,0],[2],[3],[4]⟩ (λ x=>jR G hi jW ho++[hb 45 (Cv bo),ti 49 .u8 ops[i].kind 6 0 c]++rv G M bo e b++x++[a9 29 i])
def aaU (roots:Nat) (e:ops[i].kind%6=1) (y:aI) (g:ag ab G 40 [aw (M[ops[i].a%M.length]'(bC _ bo)),aw (M[ops[i].b%M.length]'(bC _ bo))] (.aS [aw y, .int .i64 0])) (f:ag ab G 133 [aw (y)] (.bool false)) (d:ag ab G 134 [aw (y)] (aw w)):iM G ops i M roots roots w :=
 jQ (bytes:=48) (key:=157) (N:=24) (hb:=by decide) (kp bo) (kr jZ) 87 ⟨[88,0],[2],[3],[4]⟩ (λ x=>jR G hi jW ho++ld G hi ho M bo 1 e (by decide)++[hc g,hc (p7 G y (M[ops[i].a%M.length]'(bC _ bo)))]++rv G M bo f d++x++[a9 29 i])
def aaW (roots:Nat) (e:ops[i].kind%6=2) (y:aI) (g:ag ab G 130 [aw (M[ops[i].a%M.length]'(bC _ bo)),aw (M[ops[i].b%M.length]'(bC _ bo))] (.aS [aw y, .int .i64 0])) (f:ag ab G 133 [aw (y)] (.bool false)) (d:ag ab G 134 [aw (y)] (aw w)):iM G ops i M roots roots w :=
 jQ (bytes:=48) (key:=157) (N:=24) (hb:=by decide) (kp bo) (kr jZ) 89 ⟨[90,0],[2],[3],[4]⟩ (λ x=>jR G hi jW ho++ld G hi ho M bo 2 e (by decide)++[hc g,hc (p7 G y (M[ops[i].a%M.length]'(bC _ bo)))]++rv G M bo f d++x++[a9 29 i])
def aaY (roots:Nat) (e:ops[i].kind%6=3) (y:aI) (g:ag ab G 42 [aw (M[ops[i].a%M.length]'(bC _ bo)),aw (M[ops[i].b%M.length]'(bC _ bo))] (.aS [aw y, .int .i64 0])) (f:ag ab G 133 [aw (y)] (.bool false)) (d:ag ab G 134 [aw (y)] (aw w)):iM G ops i M roots roots w :=
 jQ (bytes:=48) (key:=157) (N:=24) (hb:=by decide) (kp bo) (kr jZ) 91 ⟨[92,0],[2],[3],[4]⟩ (λ x=>jR G hi jW ho++ld G hi ho M bo 3 e (by decide)++[hc g,hc (p7 G y (M[ops[i].a%M.length]'(bC _ bo)))]++rv G M bo f d++x++[a9 29 i])
def aa0 (roots:Nat) (e:ops[i].kind%6=4) (y:aI) (g:ag ab G 131 [aw (M[ops[i].a%M.length]'(bC _ bo)),aw (M[ops[i].b%M.length]'(bC _ bo))] (.aS [aw y, .int .i64 0])) (f:ag ab G 133 [aw (y)] (.bool false)) (d:ag ab G 134 [aw (y)] (aw w)):iM G ops i M roots roots w :=
 jQ (bytes:=48) (key:=157) (N:=24) (hb:=by decide) (kp bo) (kr jZ) 93 ⟨[94,0],[2],[3],[4]⟩ (λ x=>jR G hi jW ho++ld G hi ho M bo 4 e (by decide)++[hc g,hc (p7 G y (M[ops[i].a%M.length]'(bC _ bo)))]++rv G M bo f d++x++[a9 29 i])
def aba (roots:Nat) (e:ops[i].kind%6=4) (g:ag ab G 131 [aw (M[ops[i].a%M.length]'(bC _ bo)),aw (M[ops[i].b%M.length]'(bC _ bo))] (.aS [.agg [.aq, .aq], .int .i64 6])) (f:ag ab G 133 [aw (M[ops[i].a%M.length]'(bC _ bo))] (.bool false)) (d:ag ab G 134 [aw (M[ops[i].a%M.length]'(bC _ bo))] (aw w)):iM G ops i M roots roots w :=
 jQ (bytes:=48) (key:=157) (N:=24) (hb:=by decide) (kp bo) (kr jZ) 93 ⟨[94,0],[2],[3],[4]⟩ (λ x=>jR G hi jW ho++ld G hi ho M bo 4 e (by decide)++[hc g,hc (Yq G (M[ops[i].a%M.length]'(bC _ bo)))]++rv G M bo f d++x++[a9 29 i])
def aa4 (roots:Nat) (j:roots<3) (d:ops[i].kind%6=5) (s:Int) (c:ag ab G 36 [aw (M[ops[i].a%M.length]'(bC _ bo))] (.int .i64 s)) (h:decide (s<0)=false) (y:aI) (f:ag ab G 132 [aw (M[ops[i].a%M.length]'(bC _ bo))] (.aS [aw y, .int .i64 0])) (e:ag ab G 133 [aw (y)] (.bool false)) (g:ag ab G 134 [aw (y)] (aw w)):iM G ops i M roots (roots+1) w :=
 jQ (bytes:=48) (key:=157) (N:=24) (hb:=by decide) (kp bo) (kr jZ) 100 ⟨[101,0],[2],[3],[4]⟩ (λ x=>jR G hi jW ho++ld G hi ho M bo 5 d (by decide)++[hc c,hb 76 h,hb 80 (show decide ((roots:Int)<3)=true from decide_eq_true (by omega)),hw 82 (show cF.wrap ((roots:Int)+1)=((roots+1:Nat):Int) by rw [cM];omega),hc f,hc (p7 G y (M[ops[i].a%M.length]'(bC _ bo)))]++rv G M bo e g++x++[a9 29 i])
def aa8 (roots:Nat) (h:roots=3) (d:ops[i].kind%6=5) (s:Int) (c:ag ab G 36 [aw (M[ops[i].a%M.length]'(bC _ bo))] (.int .i64 s)) (g:decide (s<0)=false) (e:ag ab G 133 [aw (M[ops[i].a%M.length]'(bC _ bo))] (.bool false)) (f:ag ab G 134 [aw (M[ops[i].a%M.length]'(bC _ bo))] (aw w)):iM G ops i M roots roots w :=
 jQ (bytes:=48) (key:=157) (N:=24) (hb:=by decide) (kp bo) (kr jZ) 84 ⟨[85,0],[2],[3],[4]⟩ (λ x=>jR G hi jW ho++ld G hi ho M bo 5 d (by decide)++[hc c,hb 76 g,hb 80 (show decide ((roots:Int)<3)=false from decide_eq_false (by omega))]++rv G M bo e f++x++[a9 29 i])
def aa2 (roots:Nat) (l:roots<3) (k:ops[i].kind%6=5) (s:Int) (h:ag ab G 36 [aw (M[ops[i].a%M.length]'(bC _ bo))] (.int .i64 s)) (f:decide (s<0)=true) (c:aI) (e:ag ab G 106 [aw (M[ops[i].a%M.length]'(bC _ bo))] (aw c)) (y:aI) (g:ag ab G 132 [aw (c)] (.aS [aw y, .int .i64 0])) (d:ag ab G 133 [aw (y)] (.bool false)) (j:ag ab G 134 [aw (y)] (aw w)):iM G ops i M roots (roots+1) w :=
 jQ (bytes:=48) (key:=157) (N:=24) (hb:=by decide) (kp bo) (kr jZ) 103 ⟨[104,0],[2],[3],[4]⟩ (λ x=>jR G hi jW ho++ld G hi ho M bo 5 k (by decide)++[hc h,hb 76 f,hc e,hb 80 (show decide ((roots:Int)<3)=true from decide_eq_true (by omega)),hw 82 (show cF.wrap ((roots:Int)+1)=((roots+1:Nat):Int) by rw [cM];omega),hc g,hc (p7 G y (c))]++rv G M bo d j++x++[a9 29 i])
def aa6 (roots:Nat) (k:roots=3) (f:ops[i].kind%6=5) (s:Int) (d:ag ab G 36 [aw (M[ops[i].a%M.length]'(bC _ bo))] (.int .i64 s)) (j:decide (s<0)=true) (c:aI) (h:ag ab G 106 [aw (M[ops[i].a%M.length]'(bC _ bo))] (aw c)) (g:ag ab G 133 [aw (M[ops[i].a%M.length]'(bC _ bo))] (.bool false)) (e:ag ab G 134 [aw (M[ops[i].a%M.length]'(bC _ bo))] (aw w)):iM G ops i M roots roots w :=
 jQ (bytes:=48) (key:=157) (N:=24) (hb:=by decide) (kp bo) (kr jZ) 87 ⟨[88,0],[2],[3],[4]⟩ (λ x=>jR G hi jW ho++ld G hi ho M bo 5 f (by decide)++[hc d,hb 76 j,hc h,hb 80 (show decide ((roots:Int)<3)=false from decide_eq_false (by omega))]++rv G M bo g e++x++[a9 29 i])
def aaR (roots:Nat) (c:ops[i].kind%6=0) (e:ag ab G 133 [aw (eb ((ops[i].n:Rat)/(((ops[i].d%8+1:Nat):Int):Rat)))] (.bool true)) (b:ag ab G 134 [aw (M[M.length-1]'(by omega))] (aw w)):iM G ops i M roots roots w :=
 jQ (bytes:=48) (key:=157) (N:=24) (hb:=by decide) (kp bo) (kr jZ) 51 ⟨[52,0],[2],[3],[4]⟩ (λ x=>jR G hi jW ho++[hb 45 (Cv bo),ti 49 .u8 ops[i].kind 6 0 c]++ry G M bo (by omega) e b++x++[a9 29 i])
def aaT (roots:Nat) (e:ops[i].kind%6=1) (y:aI) (g:ag ab G 40 [aw (M[ops[i].a%M.length]'(bC _ bo)),aw (M[ops[i].b%M.length]'(bC _ bo))] (.aS [aw y, .int .i64 0])) (f:ag ab G 133 [aw (y)] (.bool true)) (d:ag ab G 134 [aw (M[M.length-1]'(by omega))] (aw w)):iM G ops i M roots roots w :=
 jQ (bytes:=48) (key:=157) (N:=24) (hb:=by decide) (kp bo) (kr jZ) 94 ⟨[95,0],[2],[3],[4]⟩ (λ x=>jR G hi jW ho++ld G hi ho M bo 1 e (by decide)++[hc g,hc (p7 G y (M[ops[i].a%M.length]'(bC _ bo)))]++ry G M bo (by omega) f d++x++[a9 29 i])
def aaV (roots:Nat) (e:ops[i].kind%6=2) (y:aI) (g:ag ab G 130 [aw (M[ops[i].a%M.length]'(bC _ bo)),aw (M[ops[i].b%M.length]'(bC _ bo))] (.aS [aw y, .int .i64 0])) (f:ag ab G 133 [aw (y)] (.bool true)) (d:ag ab G 134 [aw (M[M.length-1]'(by omega))] (aw w)):iM G ops i M roots roots w :=
 jQ (bytes:=48) (key:=157) (N:=24) (hb:=by decide) (kp bo) (kr jZ) 96 ⟨[97,0],[2],[3],[4]⟩ (λ x=>jR G hi jW ho++ld G hi ho M bo 2 e (by decide)++[hc g,hc (p7 G y (M[ops[i].a%M.length]'(bC _ bo)))]++ry G M bo (by omega) f d++x++[a9 29 i])
def aaX (roots:Nat) (e:ops[i].kind%6=3) (y:aI) (g:ag ab G 42 [aw (M[ops[i].a%M.length]'(bC _ bo)),aw (M[ops[i].b%M.length]'(bC _ bo))] (.aS [aw y, .int .i64 0])) (f:ag ab G 133 [aw (y)] (.bool true)) (d:ag ab G 134 [aw (M[M.length-1]'(by omega))] (aw w)):iM G ops i M roots roots w :=
 jQ (bytes:=48) (key:=157) (N:=24) (hb:=by decide) (kp bo) (kr jZ) 98 ⟨[99,0],[2],[3],[4]⟩ (λ x=>jR G hi jW ho++ld G hi ho M bo 3 e (by decide)++[hc g,hc (p7 G y (M[ops[i].a%M.length]'(bC _ bo)))]++ry G M bo (by omega) f d++x++[a9 29 i])
def aaZ (roots:Nat) (e:ops[i].kind%6=4) (y:aI) (g:ag ab G 131 [aw (M[ops[i].a%M.length]'(bC _ bo)),aw (M[ops[i].b%M.length]'(bC _ bo))] (.aS [aw y, .int .i64 0])) (f:ag ab G 133 [aw (y)] (.bool true)) (d:ag ab G 134 [aw (M[M.length-1]'(by omega))] (aw w)):iM G ops i M roots roots w :=
 jQ (bytes:=48) (key:=157) (N:=24) (hb:=by decide) (kp bo) (kr jZ) 100 ⟨[101,0],[2],[3],[4]⟩ (λ x=>jR G hi jW ho++ld G hi ho M bo 4 e (by decide)++[hc g,hc (p7 G y (M[ops[i].a%M.length]'(bC _ bo)))]++ry G M bo (by omega) f d++x++[a9 29 i])
def aa9 (roots:Nat) (e:ops[i].kind%6=4) (g:ag ab G 131 [aw (M[ops[i].a%M.length]'(bC _ bo)),aw (M[ops[i].b%M.length]'(bC _ bo))] (.aS [.agg [.aq, .aq], .int .i64 6])) (f:ag ab G 133 [aw (M[ops[i].a%M.length]'(bC _ bo))] (.bool true)) (d:ag ab G 134 [aw (M[M.length-1]'(by omega))] (aw w)):iM G ops i M roots roots w :=
 jQ (bytes:=48) (key:=157) (N:=24) (hb:=by decide) (kp bo) (kr jZ) 100 ⟨[101,0],[2],[3],[4]⟩ (λ x=>jR G hi jW ho++ld G hi ho M bo 4 e (by decide)++[hc g,hc (Yq G (M[ops[i].a%M.length]'(bC _ bo)))]++ry G M bo (by omega) f d++x++[a9 29 i])
def aa3 (roots:Nat) (j:roots<3) (d:ops[i].kind%6=5) (s:Int) (c:ag ab G 36 [aw (M[ops[i].a%M.length]'(bC _ bo))] (.int .i64 s)) (h:decide (s<0)=false) (y:aI) (f:ag ab G 132 [aw (M[ops[i].a%M.length]'(bC _ bo))] (.aS [aw y, .int .i64 0])) (e:ag ab G 133 [aw (y)] (.bool true)) (g:ag ab G 134 [aw (M[M.length-1]'(by omega))] (aw w)):iM G ops i M roots (roots+1) w :=
 jQ (bytes:=48) (key:=157) (N:=24) (hb:=by decide) (kp bo) (kr jZ) 107 ⟨[108,0],[2],[3],[4]⟩ (λ x=>jR G hi jW ho++ld G hi ho M bo 5 d (by decide)++[hc c,hb 76 h,hb 80 (show decide ((roots:Int)<3)=true from decide_eq_true (by omega)),hw 82 (show cF.wrap ((roots:Int)+1)=((roots+1:Nat):Int) by rw [cM];omega),hc f,hc (p7 G y (M[ops[i].a%M.length]'(bC _ bo)))]++ry G M bo (by omega) e g++x++[a9 29 i])
def aa7 (roots:Nat) (h:roots=3) (d:ops[i].kind%6=5) (s:Int) (c:ag ab G 36 [aw (M[ops[i].a%M.length]'(bC _ bo))] (.int .i64 s)) (g:decide (s<0)=false) (e:ag ab G 133 [aw (M[ops[i].a%M.length]'(bC _ bo))] (.bool true)) (f:ag ab G 134 [aw (M[M.length-1]'(by omega))] (aw w)):iM G ops i M roots roots w :=
 jQ (bytes:=48) (key:=157) (N:=24) (hb:=by decide) (kp bo) (kr jZ) 91 ⟨[92,0],[2],[3],[4]⟩ (λ x=>jR G hi jW ho++ld G hi ho M bo 5 d (by decide)++[hc c,hb 76 g,hb 80 (show decide ((roots:Int)<3)=false from decide_eq_false (by omega))]++ry G M bo (by omega) e f++x++[a9 29 i])
def aa1 (roots:Nat) (l:roots<3) (k:ops[i].kind%6=5) (s:Int) (h:ag ab G 36 [aw (M[ops[i].a%M.length]'(bC _ bo))] (.int .i64 s)) (f:decide (s<0)=true) (c:aI) (e:ag ab G 106 [aw (M[ops[i].a%M.length]'(bC _ bo))] (aw c)) (y:aI) (g:ag ab G 132 [aw (c)] (.aS [aw y, .int .i64 0])) (d:ag ab G 133 [aw (y)] (.bool true)) (j:ag ab G 134 [aw (M[M.length-1]'(by omega))] (aw w)):iM G ops i M roots (roots+1) w :=
 jQ (bytes:=48) (key:=157) (N:=24) (hb:=by decide) (kp bo) (kr jZ) 110 ⟨[111,0],[2],[3],[4]⟩ (λ x=>jR G hi jW ho++ld G hi ho M bo 5 k (by decide)++[hc h,hb 76 f,hc e,hb 80 (show decide ((roots:Int)<3)=true from decide_eq_true (by omega)),hw 82 (show cF.wrap ((roots:Int)+1)=((roots+1:Nat):Int) by rw [cM];omega),hc g,hc (p7 G y (c))]++ry G M bo (by omega) d j++x++[a9 29 i])
def aa5 (roots:Nat) (k:roots=3) (f:ops[i].kind%6=5) (s:Int) (d:ag ab G 36 [aw (M[ops[i].a%M.length]'(bC _ bo))] (.int .i64 s)) (j:decide (s<0)=true) (c:aI) (h:ag ab G 106 [aw (M[ops[i].a%M.length]'(bC _ bo))] (aw c)) (g:ag ab G 133 [aw (M[ops[i].a%M.length]'(bC _ bo))] (.bool true)) (e:ag ab G 134 [aw (M[M.length-1]'(by omega))] (aw w)):iM G ops i M roots roots w :=
 jQ (bytes:=48) (key:=157) (N:=24) (hb:=by decide) (kp bo) (kr jZ) 94 ⟨[95,0],[2],[3],[4]⟩ (λ x=>jR G hi jW ho++ld G hi ho M bo 5 f (by decide)++[hc d,hb 76 j,hc h,hb 80 (show decide ((roots:Int)<3)=false from decide_eq_false (by omega))]++ry G M bo (by omega) g e++x++[a9 29 i])
end
section
variable {l:List aI} {roots:Nat} {o:fF}
def QE (h:l=[] \/ o.kind%6=0):ix l roots o=(eb (mkRat o.n (o.d%8+1)),roots):=by unfold ix;exact if_pos h
def uQ (a:l≠[]) {c:Nat} (b:o.kind%6=c) (hc:c≠0) : ¬ (l=[] \/ o.kind%6=0) := λ h=>h.elim a λ e=>hc (b.symm.trans e)
def abO (d:l≠[]) (c:o.kind%6=1):ix l roots o=((l.getD (o.a%l.length) (eb 0)).add (l.getD (o.b%l.length) (eb 0)),roots):=by
 unfold ix;rw [if_neg (uQ d c (by decide))];simp [c]
def abP (d:l≠[]) (c:o.kind%6=2):ix l roots o=((l.getD (o.a%l.length) (eb 0)).sub (l.getD (o.b%l.length) (eb 0)),roots):=by
 unfold ix;rw [if_neg (uQ d c (by decide))];simp [c]
def abQ (d:l≠[]) (c:o.kind%6=3):ix l roots o=((l.getD (o.a%l.length) (eb 0)).mul (l.getD (o.b%l.length) (eb 0)),roots):=by
 unfold ix;rw [if_neg (uQ d c (by decide))];simp [c]
def abR (d:l≠[]) (c:o.kind%6=4) (e:(l.getD (o.b%l.length) (eb 0)).val≠0):ix l roots o=((l.getD (o.a%l.length) (eb 0)).div (l.getD (o.b%l.length) (eb 0)),roots):=by
 unfold ix;rw [if_neg (uQ d c (by decide))];simp only [c];simp [e, -dJ]
def abV (d:l≠[]) (c:o.kind%6=4) (e:(l.getD (o.b%l.length) (eb 0)).val=0):ix l roots o=(l.getD (o.a%l.length) (eb 0),roots):=by
 unfold ix;rw [if_neg (uQ d c (by decide))];simp only [c];simp [e, -dJ]
def abT (c:l≠[]) (b:o.kind%6=5) (e:roots<3) (d : ¬ (l.getD (o.a%l.length) (eb 0)).val<0):ix l roots o=((l.getD (o.a%l.length) (eb 0)).sqrt,roots+1):=by
 unfold ix;rw [if_neg (uQ c b (by decide))];simp only [b];simp [d,e, -dJ]
def abS (c:l≠[]) (b:o.kind%6=5) (e:roots<3) (d:(l.getD (o.a%l.length) (eb 0)).val<0):ix l roots o=((l.getD (o.a%l.length) (eb 0)).neg.sqrt,roots+1):=by
 unfold ix;rw [if_neg (uQ c b (by decide))];simp only [b];simp [d,e, -dJ]
def abU (c:l≠[]) (b:o.kind%6=5) (d : ¬ roots<3):ix l roots o=(l.getD (o.a%l.length) (eb 0),roots):=by
 unfold ix;rw [if_neg (uQ c b (by decide))];simp only [b];simp [d]
def vu {Q:Src} (h:Q.n=256):Q.cc=331275:=by
 have a:Q.c1=258:=by show Q.n+2=_;rw [h]
 have b:Q.r1=15430:=by show ah.e9 Q.c1 1 Q.n=_;rw [a,h];kernel_rfl
 have c:Q.e1=47323:=by show Q.n+3*(Q.r1+Q.c1+1)=_;rw [h,a,b]
 show 7*Q.e1+14=_;rw [c]
def Vj:gK 331275 512:=by unfold gK;decide +kernel
end
section
variable (G:Nat->Option (List aa)) {ops:List fF} {i:Nat}
def rz (q:i<ops.length) {M:List aI} (p:0<M.length) (l:M.length<=24) {roots d:Nat} {y:aI} {Q':Src} (k:nL Q' M) (m:Q'.ok y.T) (e:ix M roots ops[i]=(y,d))
   (S:ag ab G 133 [aw y] (.bool false)->∀ w,ag ab G 134 [aw y] (aw w)->iM G ops i M roots d w)
   (L:ag ab G 133 [aw y] (.bool true)->∀ w,ag ab G 134 [aw (M[M.length-1]'(by omega))] (aw w)->iM G ops i M roots d w) :
   ∃ w,nt (M,roots) ops[i]=(M++[w],d)/\iM G ops i M roots d w:=by
 have j:M≠[]:=hO.1 p
 have F:=Ps (Q:=Q') k.1
 have n:∀ z:aI,Q'.ok z.T->z.sf->ag ab G 134 [aw z] (aw z.trim) := λ z g b=>Yw G z (Ba g) (ah.sh (b.ms (Ba g)) (by decide)) ((F.iT g).sh (by rw [vu k.1];decide))
 have c:=Ba m
 cases f:G8 y with
 | false =>
   have b:=(TI y).1 f
   refine ⟨y.trim, ?_,S (TJ G y c f) _ (n y m b.1)⟩
   unfold nt
   simp only []
   rw [if_neg (λ h=>h.2 (by rw [e];exact b)),e]
 | true =>
   have b : ¬ y.short := λ h=>by rw [(TI y).2 h] at f;cases f
   have o:=k.2 _ (bc (show M.length-1<M.length by omega))
   refine ⟨_, ?_,L (TJ G y c f) _ (n _ o.1 o.2)⟩
   unfold nt
   simp only []
   rw [if_pos ⟨j,by rw [e];exact b⟩,e,List.getLastD_eq_getLast?,List.getLast?_eq_getElem?,du ]
   rfl
def abc (s:i<ops.length) (g:i<24) (ho:l9 ops[i]) (M:List aI) (roots:Nat) (H:∃ Q,nL Q M/\Q.S.length<=roots/\roots<=3) (f:M.length<=24):∃ w r',nt (M,roots) ops[i]=(M++[w],r')/\iM G ops i M roots r' w:=by
 have ⟨Q,u,hS,h3⟩:=H
 have F:=Ps (Q:=Q) u.1
 have ⟨Q',x,k2,k3,r,Y⟩:=QF u hS h3 ho.abs
 have aaj:=Ps (Q:=Q') x.1
 by_cases B:M=[]
 subst B
 have e:=QE (l:=[]) (roots:=roots) (o:=ops[i]) (.inl rfl)
 rw [e] at r Y
 have ag7:=Y rfl
 refine ⟨_,roots, ?_,abb G s g ho roots (Yw G _ (Ba r) (ah.sh (ag7.ms (Ba r)) (by decide)) ((aaj.iT r).sh (by rw [vu x.1];decide)))⟩
 unfold nt
 simp only []
 rw [if_neg (λ h=>h.1 rfl),e]
 have q:=hO.2 B
 have z:=bC ops[i].a q
 have X:=bC ops[i].b q
 have I:=bj (d:=eb 0) z
 have N:=bj (d:=eb 0) X
 have L:=bc z
 have V:=bc X
 have A:aI.G Q.ctx _ 512:=u.G L true
 have D:aI.G Q.ctx _ 512:=u.G V true
 have v:30*(512+Q.ctx.C)+100*Q.cc<=4398046511104:=by rw [Iw u.1,vu u.1];decide
 have Z:30*(23*512+41*Q.ctx.c+Q.ctx.C)+100*Q.cc<=4398046511104:=by rw [Iw u.1,vu u.1,Aa u.1];decide
 have yG:8*(512+Q.ctx.C+10*Q.cc)<=4398046511104:=by rw [Iw u.1,vu u.1];decide
 have aqK:ops[i].kind%6<6:=bC _ (by decide)
 have cs:ops[i].kind%6=0 \/ ops[i].kind%6=1 \/ ops[i].kind%6=2 \/ ops[i].kind%6=3 \/ ops[i].kind%6=4 \/ ops[i].kind%6=5:=by omega
 rcases cs with p | p | p | p | p | p
 have e:=QE (l:=M) (roots:=roots) (o:=ops[i]) (.inr p)
 rw [e] at r
 rw [<- R2] at e r
 have ⟨w,h1,t⟩:=rz G s q f x r e (λ j w m=>aaS G s g ho q f roots p j m) (λ j w m=>aaR G s g ho q f roots p j m)
 exact ⟨w,_,h1,t⟩
 have e:=abO (roots:=roots) B p
 rw [e] at r
 rw [I,N] at e r
 have ⟨w,h1,t⟩:=rz G s q f x r e (λ j w m=>aaU G s g ho q f roots p _ (D4 G F A D v v) j m) (λ j w m=>aaT G s g ho q f roots p _ (D4 G F A D v v) j m)
 exact ⟨w,_,h1,t⟩
 have e:=abP (roots:=roots) B p
 rw [e] at r
 rw [I,N] at e r
 have ⟨w,h1,t⟩:=rz G s q f x r e (λ j w m=>aaW G s g ho q f roots p _ (Jo G F A D v v) j m) (λ j w m=>aaV G s g ho q f roots p _ (Jo G F A D v v) j m)
 exact ⟨w,_,h1,t⟩
 have e:=abQ (roots:=roots) B p
 rw [e] at r
 rw [I,N] at e r
 have ⟨w,h1,t⟩:=rz G s q f x r e (λ j w m=>aaY G s g ho q f roots p _ (Jm G F A D v v) j m) (λ j w m=>aaX G s g ho q f roots p _ (Jm G F A D v v) j m)
 exact ⟨w,_,h1,t⟩
 by_cases y:(M.getD (ops[i].b%M.length) (eb 0)).val=0
 have e:=abV (roots:=roots) B p y
 rw [e] at r
 rw [I] at e r
 rw [N] at y
 have U:=apk G (M[ops[i].a%M.length]'z) _ (Ba (u.2 _ V).1) D.red y
 have ⟨w,h1,t⟩:=rz G s q f x r e (λ j w m=>aba G s g ho q f roots p U j m) (λ j w m=>aa9 G s g ho q f roots p U j m)
 exact ⟨w,_,h1,t⟩
 have e:=abR (roots:=roots) B p y
 rw [e] at r
 rw [I,N] at e r
 rw [N] at y
 have ⟨w,h1,t⟩:=rz G s q f x r e (λ j w m=>aa0 G s g ho q f roots p _ (OL G F A D y v Z) j m) (λ j w m=>aaZ G s g ho q f roots p _ (OL G F A D y v Z) j m)
 exact ⟨w,_,h1,t⟩
 have J:=OS G F A yG
 by_cases K:roots<3
 have t:(M[ops[i].a%M.length]'z).T.1<=2:=by have:=SP (u.2 _ L).1;omega
 by_cases y:(M.getD (ops[i].a%M.length) (eb 0)).val<0
 have e:=abS (roots:=roots) B p K y
 rw [e] at r
 rw [I] at e r y
 have O:=Jn G A v
 have P:=Yt G F (a:=(M[ops[i].a%M.length]'z).neg) (n:=512) (u.2 _ L).1 (ah.CJ ((u.2 _ L).2.ms (k:=3) (by omega))) t (by rw [vu u.1];exact Vj) (by rw [aI.Hs];grind)
 have hd:decide (eD (M[ops[i].a%M.length]'z).val<0)=true:=by
   rcases uq (M[ops[i].a%M.length]'z).val with ⟨h,R⟩ | ⟨h,R⟩ | ⟨h,R⟩<;>first | (rw [h];rfl) | (exfalso;grind)
 have ⟨w,h1,t⟩:=rz G s q f x r e (λ j w m=>aa2 G s g ho q f roots K p _ J hd _ O _ P j m) (λ j w m=>aa1 G s g ho q f roots K p _ J hd _ O _ P j m)
 exact ⟨w,_,h1,t⟩
 have e:=abT (roots:=roots) B p K y
 rw [e] at r
 rw [I] at e r y
 have P:=Yt G F (a:=M[ops[i].a%M.length]'z) (n:=512) (u.2 _ L).1 ((u.2 _ L).2.ms (k:=3) (by omega)) t (by rw [vu u.1];exact Vj) (by grind)
 have hd:decide (eD (M[ops[i].a%M.length]'z).val<0)=false:=by
   rcases uq (M[ops[i].a%M.length]'z).val with ⟨h,R⟩ | ⟨h,R⟩ | ⟨h,R⟩<;>first | (rw [h];rfl) | (exfalso;grind)
 have ⟨w,h1,t⟩:=rz G s q f x r e (λ j w m=>aa4 G s g ho q f roots K p _ J hd _ P j m) (λ j w m=>aa3 G s g ho q f roots K p _ J hd _ P j m)
 exact ⟨w,_,h1,t⟩
 have E:roots=3:=by omega
 have e:=abU (roots:=roots) B p K
 rw [e] at r
 rw [I] at e r
 have O:=Jn G A v
 cases hd:decide (eD (M[ops[i].a%M.length]'z).val<0) with
 | true =>
   have ⟨w,h1,t⟩:=rz G s q f x r e (λ j w m=>aa6 G s g ho q f roots E p _ J hd _ O j m) (λ j w m=>aa5 G s g ho q f roots E p _ J hd _ O j m)
   exact ⟨w,_,h1,t⟩
 | false =>
   have ⟨w,h1,t⟩:=rz G s q f x r e (λ j w m=>aa8 G s g ho q f roots E p _ J hd j m) (λ j w m=>aa7 G s g ho q f roots E p _ J hd j m)
   exact ⟨w,_,h1,t⟩
noncomputable abbrev la (ops:List fF) (i:Nat):List aI × Nat:=(ops.take i).foldl nt ([],0)
def Ql (a:i<ops.length):la ops (i+1)=nt (la ops i) ops[i]:=by
 unfold la
 rw [iH a,Bb]
 rfl
def Km (h:∀ o∈ops,l9 o):∀ i,i<=ops.length->(∃ Q,nL Q (la ops i).1/\Q.S.length<=(la ops i).2/\(la ops i).2<=3)/\(la ops i).1.length=i
 | 0,_=>⟨⟨Src.none 256,⟨rfl, λ a c=>(cX c).elim⟩,a4 _,Nat.zero_le _⟩,rfl⟩
 | i+1,d=>by
   have ⟨h1,b⟩:=Km h i (by omega)
   rw [Ql (by omega)]
   refine ⟨WT (h _ (bc _)).abs h1, ?_⟩
   unfold nt
   simp only [cd,List.length_singleton,b]
def Qr (ops:List fF):wC ops=(la ops (min ops.length 24)).1:=by
 unfold wC la
 by_cases h:ops.length<=24
 rw [jv h,hM h,hM (a4 _)]
 rw [Nat.min_eq_right (by omega)]
def api (ops:List fF) (h:∀ o∈ops,l9 o):ag ab G 90 [.sl 5 (ops.map kS)] (gT (wC ops)):=by
 rw [Qr]
 have aY:min ops.length 24<=ops.length:=Nat.min_le_left _ _
 have m:min ops.length 24<=24:=ZO _ _
 have g:min ops.length 24=ops.length \/ (min ops.length 24=24/\24<ops.length):=by omega
 generalize min ops.length 24=N at *
 refine bB [ck (ao 90) 0 0 0 N aG (λ i q=>(3,bq q.a 2 ((la ops i).1.map aw))::wB ops (la ops i).2 i) (λ i q=>a8 q.a 2 ((la ops i).1.map aw)++[]) (.exit 0) (λ _=>[(3,gT (la ops N).1)]) (λ _=>[]) (λ i t => ?_) ?_]
 have ⟨h1,r⟩:=Km h i (by omega)
 have b:i<ops.length:=by omega
 have ⟨w,k,e,p⟩:=abc G b (by omega) (h _ (bc b)) _ _ h1 (by omega)
 have j:la ops (i+1)=((la ops i).1++[w],k):=(Ql b).trans e
 rw [j]
 simp only [dU,List.map_cons,List.map_nil]
 exact p
 refine a2.rH (B:=[]) ?_ λ e n=>by obtain ⟨x,_,rfl⟩:=bn.1 n;infer_instance
 have f:br ((la ops N).1.map aw):=inferInstance
 generalize (la ops N).1.map aw=l at f ⊢
 generalize (la ops N).2=roots
 rcases g with rfl | ⟨rfl,c⟩
 exact kT (A := λ _=>wB ops roots ops.length) (B := λ _=>[]) (bZ := λ _=>[]) (ct := λ _=>[]) aG [cx 23 kS ops]
 exact kT (A := λ _=>wB ops roots 24) (B := λ _=>[]) (bZ := λ _=>[]) (ct := λ _=>[]) aG [bm 23 kS c]
abbrev bO (K:cT) (q n:Nat):Prop:=30*(n+K.C)+100*q<=4398046511104
def Dh {α : Type} {f : α -> aa} {l:List α} {d : α}:(ba l.length).map (λ i=>f (l.getD i d))=l.map f:=by
 refine ou (by simp) λ i h1 a => ?_
 rw [aM,dZ] at h1
 rw [k8,k8,List.getElem_range,bj h1]
end
section
variable (G:Nat->Option (List aa))
variable {K:cT} {q e r:Nat} (F:gG K q e r) {a b:ar} {n m:Nat}
include F
def ahG (g:a.G K n) (hb:b.G K m) (f:bO K q n) (d:bO K q m):ag ab G 82 [a.T,b.T] (a.add b).T:=aO [hc (D4 G F g hb f d)]
def ah0 (g:a.G K n) (hb:b.G K m) (f:bO K q n) (d:bO K q m):ag ab G 167 [a.T,b.T] (a.sub b).T:=aO [hc (Jo G F g hb f d)]
def TU (g:a.G K n) (hb:b.G K m) (f:bO K q n) (d:bO K q m):ag ab G 83 [a.T,b.T] (a.mul b).T:=aO [hc (Jm G F g hb f d)]
def ahN (i:a.G K n) (hb:b.G K m) (d:b.b9=false) (h:bO K q n) (g:bO K q (23*m+41*K.c)):ag ab G 166 [a.T,b.T] (a.div b).T :=
 aO [hc (OL G F i hb (λ e=>by rw [uw.2 e] at d;cases d) h g)]
def CE (f:a.G K n) (h:bO K q n) {c:Bool} (e:a.b9=c) (g:Bool):ag ab G 36 [a.T] (.int .i64 (eD a.2.val)):=OS G F f (by omega)
end
section
variable (G:Nat->Option (List aa))
def se {a:ar} {c:Bool} (e:a.b9=c):(eD a.2.val==0)=c:=by
 rcases uq a.2.val with ⟨h,b⟩ | ⟨h,b⟩ | ⟨h,b⟩
 rw [h]
 cases c with
 | false=>rfl
 | true=>have:=uw.1 e;exfalso;rw [this] at b;grind
 rw [h]
 cases c with
 | true=>rfl
 | false=>rw [uw.2 b] at e;cases e
 rw [h]
 cases c with
 | false=>rfl
 | true=>have:=uw.1 e;exfalso;rw [this] at b;grind
def z7 {a:ar} {c:Bool} (e:a.b9=c):(eD a.2.val != 0) = !c:=congrArg _ (se e)
def TW {K:cT} {q n:Nat} {a:ar} (c:a.G K n) (d:bO K q n):ag ab G 106 [a.T] a.neg.T:=Jn G c d
def Mf (z:Int) (h1 : -9223372036854775808<=z) (b:z<9223372036854775808):ag ab G 43 [.int .i64 z] (a6 (z:Rat)).T:=Yl G z h1 b
def Hi:ag ab G 43 [.int .i64 0] (a6 0).T:=Mf G 0 (by decide) (by decide)
def Mg:ag ab G 43 [.int .i64 1] (a6 1).T:=Mf G 1 (by decide) (by decide)
def ahJ:ag ab G 80 [az []] (.int .i64 0):=aO []
def qA {M:List (List ar)} (h:M≠[]):ag ab G 80 [az M] (.int .i64 (dT M:Int)):=by
 cases M with
 | nil=>exact absurd rfl h
 | cons r M =>
   have h1:((((r::M).map aj).length:Int)==0)=false:=by rw [aM,List.length_cons];exact beq_eq_false_iff_ne.2 (by omega)
   have b:(((r.map aT).length:Nat):Int)=(dT (r::M):Int):=by rw [aM];rfl
   exact aO [hb 5 h1,hw 9 b]
noncomputable abbrev aoh (M:List (List ar)) (i:Nat):List (Nat × aa):=[(0,az M),(2, .bool false),(3, .int .i64 (i:Int))]
def ah4 {M:List (List ar)} {w:Nat} (h:∀ r∈M,r.length=w) (g:M.length<=9000):ag ab G 79 [az M] (.bool true):=by
 refine bB [fb (ao 79) 0 0 0 M.length (aoh M) (.exit 0) [] (λ i a => ?_) (rd [cx 7 aj M] )]
 have b:0<M.length:=by omega
 have e:=h _ (bc a)
 have f:=h _ (bc b)
 have d:((((M[i].map aT).length:Nat):Int) != (((M[0].map aT).length:Nat):Int))=false:=by rw [aM,aM,e,f];exact bne_self_eq_false _
 exact rd [bm 7 aj a,aQ 12 1 aj a,aQ 16 1 aj b,hb 19 d,a9 9 i]
noncomputable abbrev acg (M:List (List ar)) (k i:Nat):List (Nat × aa):=[(0,az M),(1, .int .i64 (k:Int)),(6, .int .i64 (i:Int))]
def TT {M:List (List ar)} {k:Nat} (h:∀ r∈M,k<r.length) (e:M.length<=9000):ag ab G 57 [az M, .int .i64 (k:Int)] (aj (iy M k)):=by
 refine bB [tB (ao 57) 0 0 0 M.length 2 48 22 5 (λ i=>((M.getD i []).getD k (a6 0)).T) ((iy M k).map aT) (acg M k) (.exit 0) [] (by decide) (λ i a => ?_) (tO [cx 10 aj M] (by intros;kernel_rfl)) ?_]
 have c:=h _ (bc a)
 rw [bj a,bj c]
 exact ru 12 13 (λ x=>[bm 10 aj a,aQ 16 1 aj a,aQ 19 2 aT c]++x++[a9 12 i]) (by intros;kernel_rfl)
 unfold iy
 rw [mU, <- Dh (f:=aT ∘ λ r=>r.getD k (a6 0)) (d:=[])]
 rfl
noncomputable abbrev anE (M:List (List ar)) (i:Nat):List (Nat × aa):=[(0,az M),(4, .int .i64 (i:Int))]
def Mm {M:List (List ar)} {w:Nat} (e:M≠[]) (h:∀ r∈M,r.length=w) (d:M.length<=9000) (hw:w<=9000):ag ab G 35 [az M] (az (er M)):=by
 have b:dT M=w:=by
   cases M with
   | nil=>exact absurd rfl e
   | cons r M=>exact h r List.mem_cons_self
 have hv:=ah4 G h d
 have a:=qA G e
 rw [b] at a
 have j:er M=(ba w).map (iy M):=by unfold er;rw [b]
 rw [j]
 refine bB [tB (ao 35) 0 0 0 w 1 24 20 3 (λ i=>aj (iy M i)) (((ba w).map (iy M)).map aj) (anE M) (.exit 0) [] (by decide) (λ i g => ?_) ?_ ?_]
 exact ru 12 13 (λ x=>[hc hv,hc a,hb 11 (show decide ((i:Int)<(w:Int))=true from decide_eq_true (by omega)),hc (TT G (k:=i) (λ r f=>by rw [h r f];exact g) d)]++x++[a9 14 i]) (by intros;kernel_rfl)
 exact tO [hc hv,hc a,hb 11 (show decide ((w:Int)<(w:Int))=false from decide_eq_false (by omega))] (by intros;kernel_rfl)
 rw [mU];rfl
noncomputable abbrev xO (n:Nat) (z:Int) (i:Nat):List (Nat × aa):=[(0, .int .i64 (n:Int)),(1, .int .i64 z),(6, .int .i64 (i:Int))]
def sq:Option Nat->Int
 | none => -1
 | some k=>(k:Int)
def anI (i:Nat) (a:Option Nat):((i:Int)==sq a)=decide (some i=a):=by
 cases a with
 | none=>exact beq_eq_false_iff_ne.2 (by show (i:Int) ≠ -1;omega)
 | some k =>
   by_cases e:i=k
   subst e;exact (beq_self_eq_true _).trans (decide_eq_true rfl).symm
   rw [decide_eq_false (λ h=>e (Option.some.inj h))]
   exact beq_eq_false_iff_ne.2 (by show (i:Int)≠(k:Int);omega)
def Ka (P:Program) (G:Nat->Option (List aa)) (f:FuncId) (args:List aa) (l:List Nat) (c:Nat) (L:List aa):Prop:=∀ p,cu P G f args p [] { val := .ai (l++p) c 0 L.length false,rd:=[],up:=[(l++p,some ⟨L,c,false⟩)] }
def an6 {σ : aL} {i:aF.Id} {c:Nat} {L:List aa} [h:cq c L] (e : σ i=some ⟨L,c,false⟩):View σ (.ai i c 0 L.length false) (.sl c L):=im e
def Ka.fN {P:Program} {G:Nat->Option (List aa)} {f:FuncId} {args:List aa} {l:List Nat} {c:Nat} {L:List aa} [h:cq c L] (H:Ka P G f args l c L):ag P G f args (.sl c L) :=
 ag.xh (H []) (an6 (aL.vn (λ _=>none) _ _))
def alM {ρ : aF.Id->aF.Id} {i:aF.Id} {L:List aa} {c:Nat} [h:br L]:dX ρ [(i,(⟨L,c,false⟩:aN))]=[(ρ i,⟨L,c,false⟩)]:=by
 show [(ρ i,aN.mk (bx ρ L) c false)]=_;rw [h.fix]
noncomputable abbrev ky (a:Option Nat) (k:Nat):ar:=if some k=a then a6 1 else a6 0
def anL (n:Nat) (a:Option Nat):((ba n).map λ k=>(ky a k).T)=(eM n a).map aT:=by unfold eM;rw [mU];rfl
def anJ (n i:Nat) (b:Option Nat) (h:i<n) (j:n<=9000):a2 ab G (aU (ao 39) 0) (ao 39).aK (a5 0) .normal (λ q=>(5,bq q.a 2 ((ba i).map λ k=>(ky b k).T))::xO n (sq b) i) (λ q=>a8 q.a 2 ((ba i).map λ k=>(ky b k).T)++[]) (λ q=>(5,bq q.a 2 ((ba (i+1)).map λ k=>(ky b k).T))::xO n (sq b) (i+1)) (λ q=>a8 q.a 2 ((ba (i+1)).map λ k=>(ky b k).T)++[]):=by
 have f:qe 2 48 n ((ba i).map λ k=>(ky b k).T):=⟨by rw [aM,dZ];omega,eO.2 λ e g=>by obtain ⟨x,_,rfl⟩:=bn.1 g;exact cU.one (k:=2)⟩
 rw [ke,dU,ic]
 have hu:=anI i b
 have c:=Hi G
 have ir:=Mg G
 have lt:decide ((i:Int)<(n:Int))=true:=decide_eq_true (by omega)
 by_cases e:some i=b
 rw [decide_eq_true e] at hu
 rw [show ky b i=a6 1 from if_pos e]
 exact sZ (key:=21) (bytes:=48) (hb:=by decide) f 13 ⟨[14,0],[2],[3],[4]⟩ (λ x=>[hb 10 lt,hc c,hb 16 hu,hc ir]++x++[a9 12 i])
 rw [decide_eq_false e] at hu
 rw [show ky b i=a6 0 from if_neg e]
 exact sZ (key:=21) (bytes:=48) (hb:=by decide) f 11 ⟨[12,0],[2],[3],[4]⟩ (λ x=>[hb 10 lt,hc c,hb 16 hu]++x++[a9 12 i])
def XA (n:Nat) (b:Option Nat):a2 ab G (aU (ao 39) 0) (ao 39).aK (a5 0) (.exit 0) (λ q=>(5,bq q.a 2 ((ba n).map λ k=>(ky b k).T))::xO n (sq b) n) (λ q=>a8 q.a 2 ((ba n).map λ k=>(ky b k).T)++[]) (λ q=>(5,bq q.a 2 ((ba n).map λ k=>(ky b k).T))::[]) (λ q=>a8 q.a 2 ((ba n).map λ k=>(ky b k).T)++[]):=by
 have lt:decide ((n:Int)<(n:Int))=false:=decide_eq_false (by omega)
 exact kT (A := λ _=>xO n (sq b) n) (B := λ _=>[]) (bZ := λ _=>[]) (ct := λ _=>[]) aG [hb 10 lt]
def Hj {n:Nat} (l:0<n) (f:n<=9000) (b:Option Nat):Ka ab G 39 [.int .i64 (n:Int), .int .i64 (sq b)] [2000000] 2 ((eM n b).map aT) := λ p=>by
 have x:=XA G n b
 have c:((ba n).map λ k=>(ky b k).T)≠[] := λ e=>by
   have:=congrArg List.length e
   rw [aM,dZ,jB] at this
   omega
 have g:((ba n).map λ k=>(ky b k).T).length=n:=by rw [aM,dZ]
 have j:a2 ab G (aU (ao 39) 0) (ao 39).aK (a5 0) (.exit 0) (λ q=>(5,bq q.a 2 ((ba n).map λ k=>(ky b k).T))::xO n (sq b) n) (λ q=>a8 q.a 2 ((ba n).map λ k=>(ky b k).T)++[]) (λ q=>[(5, .ai q.a 2 0 n false)]) (λ q=>[(q.a,⟨(eM n b).map aT,2,false⟩)]):=by
   simp only [dA c,dx c,List.append_nil,g] at x ⊢
   rw [anL] at x ⊢
   exact x
 rw [show ((eM n b).map aT).length=n by rw [aM,nw]]
 exact cu.j7 (p:=p) (up:=[(2000000::p,_)]) aY (λ _=>[]) [ck (ao 39) 0 0 0 n aG (λ i q=>(5,bq q.a 2 ((ba i).map λ k=>(ky b k).T))::xO n (sq b) i) (λ i q=>a8 q.a 2 ((ba i).map λ k=>(ky b k).T)++[]) (.exit 0) (λ q=>[(5, .ai q.a 2 0 n false)]) (λ q=>[(q.a,⟨(eM n b).map aT,2,false⟩)]) (λ i h=>anJ G n i b h f) j] _ [] (.ai [2000000,0] 2 0 n false) [([2000000,0],⟨(eM n b).map aT,2,false⟩)] (by kernel_rfl) (br.fix _) rfl rfl alM (by simp) (by simp)
def TY (n:Nat) (f:n<=9000) (b:Option Nat):ag ab G 39 [.int .i64 (n:Int), .int .i64 (sq b)] (aj (eM n b)):=by
 by_cases h:n=0
 subst h
 exact bB [ck (ao 39) 0 0 0 0 aG (λ i q=>(5,bq q.a 2 ((ba i).map λ k=>(ky b k).T))::xO 0 (sq b) i) (λ i q=>a8 q.a 2 ((ba i).map λ k=>(ky b k).T)++[]) (.exit 0) (λ _=>[(5, .sl 2 [])]) (λ _=>[]) (λ i d=>absurd d (by omega)) ((XA G 0 b).rH (B:=[]) λ e g=>(cX g).elim)]
 exact (Hj G (by omega) f b).fN
noncomputable abbrev aga (n i:Nat):List (Nat × aa):=[(0, .int .i64 (n:Int)),(4, .int .i64 (i:Int))]
def Mh (n:Nat) (b:n<=9000):ag ab G 31 [.int .i64 (n:Int)] (az (jK n)):=by
 refine bB [tB (ao 31) 0 0 0 n 1 24 15 3 (λ i=>aj (eM n (some i))) ((jK n).map aj) (aga n) (.exit 0) [] (by decide) (λ i c => ?_) (tO [hb 7 (show decide ((n:Int)<(n:Int))=false from decide_eq_false (by omega))] (by intros;kernel_rfl)) ?_]
 exact ru 7 8 (λ x=>[hb 7 (show decide ((i:Int)<(n:Int))=true from decide_eq_true (by omega)),hc (TY G n b (some i))]++x++[a9 9 i]) (by intros;kernel_rfl)
 unfold jK;rw [mU];rfl
variable {K:cT} {q e r:Nat} (F:gG K q e r) {n m:Nat}
include F
omit F in
theorem acY {a b:List ar} {i:Nat} (ha:i<a.length) (hb:i<b.length):jd (a.take (i+1)) (b.take (i+1))=(jd (a.take i) (b.take i)).add ((a[i]).mul (b[i])):=by
 unfold jd
 rw [iH ha,iH hb,List.zip_append (by rw [cZ,cZ];omega),Bb]
 rfl
noncomputable abbrev acX (a b:List ar) (i:Nat) (q:aB):List (Nat × aa):=[(5, .ref q.a 0 0),(4, .ref q.b 0 0),(0,aj a),(1,aj b),(6, .int .i64 (i:Int))]
noncomputable abbrev Rm (a b:List ar) (i:Nat) (q:aB):List (aF.Id × aN):=[(q.a,⟨[(jd (a.take i) (b.take i)).T],2,false⟩),(q.b,⟨[.agg [.aq, .aq]],2,false⟩)]
abbrev lg (K:cT) (a:List ar) (n m:Nat):Nat:=a.length*(n+m+K.c+1)
def Hh {a b:List ar} (h:a.length<=b.length) (u:a.length<=9000) (j:cv K n a) (hb:cv K m b) (h1:bO K q n) (o:bO K q m) (h3:bO K q (lg K a n m)):ag ab G 37 [aj a,aj b] (jd a b).T:=by
 have g:∀ i,i<=a.length->(jd (a.take i) (b.take i)).G K (lg K a n m) := λ i f=>by
   have:=BH (K:=K) (n:=n) (m:=m) (a:=a.take i) (b:=b.take i) (λ x k=>j x (gq k)) (λ x k=>hb x (gq k))
   exact this.mono (c6 _ (by rw [cZ];omega))
 have p:jd a b=jd (a.take a.length) (b.take a.length):=by
   rw [gn]
   unfold jd
   rw [List.zip_eq_zip_take_min,jv h,gn]
 rw [p]
 refine bB [hc (Hi G),ck (ao 37) 0 0 0 a.length ⟨[2,0],[0,0],[3],[4]⟩ (acX a b) (Rm a b) (.exit 0) (λ q=>[(5, .ref q.a 0 0),(4, .ref q.b 0 0)]) (Rm a b a.length) (λ i f => ?_) (aW aG [cx 11 aT a])]
 have d:i<b.length:=by omega
 have t:1*(n+m+K.c+1)<=lg K a n m:=c6 _ (by omega)
 have x1:=TU G F (j _ (bc f)) (hb _ (bc d)) h1 o
 have bF:=ahG G F (g i (by omega)) ((j _ (bc f)).mul (hb _ (bc d))) h3 (show bO K q (n+m+K.c) by unfold bO at *;omega)
 rw [<- acY f d] at bF
 exact aW aG [bm 11 aT f,aQ 17 2 aT f,aQ 21 2 aT d,hc x1,hc bF,a9 13 i]
end
abbrev ak (n:Nat):aa := .int .i64 (n:Int)
def bW (l:List Nat):aa := .sl 1 (l.map ak)
instance {l:List Nat}:bg (bW l):=cU.map (m:=1) (λ x=>inferInstance) l
noncomputable def pB (C:List (List ar)) (v:List ar):List ar:=C.map λ c=>jd c v
noncomputable def qF (A B:List (List ar)):List (List ar):=A.map λ r=>pB (er B) r
open Classical in
noncomputable def eh (x y:ar):Bool:=decide (x.2.val=y.2.val)
def m5 {x y:ar}:eh x y=true↔x.2.val=y.2.val:=by unfold eh;exact @decide_eq_true_iff _ (Classical.propDecidable _)
noncomputable def xD (a b:List ar):Bool:=(ba a.length).all λ i=>eh (a.getD i (a6 0)) (b.getD i (a6 0))
noncomputable def BP (A B:List (List ar)):Bool:=(ba A.length).all λ i=>xD (A.getD i []) (B.getD i [])
def lh (p:Nat->Bool) (N:Nat):((ba N).all p=true/\∀ i,i<N->p i=true) \/ ((ba N).all p=false/\∃ i,i<N/\p i=false/\∀ j,j<i->p j=true):=by
 rcases first (λ i => !p i) N with h | ⟨i,b,d,e⟩
 have c:∀ i,i<N->p i=true := λ i b=>by have:=h i b;simpa using this
 exact .inl ⟨eO.2 λ x g=>c x (cR.1 g),c⟩
 have a:p i=false:=by simpa using d
 exact .inr ⟨List.all_eq_false.2 ⟨i,cR.2 b,by rw [a];decide⟩,i,b,a, λ j f=>by have:=e j f;simpa using this⟩
def dW {i N:Nat} (h:i<N):decide ((i:Int)<(N:Int))=true:=decide_eq_true (by omega)
def kM {i N:Nat} (h:N<=i):decide ((i:Int)<(N:Int))=false:=decide_eq_false (by omega)
def Hr {α β : Type} {f : α -> aa} {g : β -> aa} {a:List α} {b:List β} (h:a.length=b.length):(((a.map f).length:Int) != ((b.map g).length:Int))=false:=by rw [aM,aM,h];exact bne_self_eq_false _
section
variable (G:Nat->Option (List aa))
variable {K:cT} {q e r:Nat} (F:gG K q e r) {n m:Nat}
include F
noncomputable abbrev aaD (C:List (List ar)) (v:List ar) (i:Nat):List (Nat × aa):=[(0,az C),(1,aj v),(6, .int .i64 (i:Int))]
def ahH {C:List (List ar)} {v:List ar} {w:Nat} (p:bw K n w C) (hv:cv K m v) (hw:w<=v.length) (s:C.length<=9000) (o:w<=9000) (h1:bO K q n) (j:bO K q m) (h3:bO K q (w*(n+m+K.c+1))):ag ab G 34 [az C,aj v] (aj (pB C v)):=by
 refine bB [tB (ao 34) 0 0 0 C.length 2 48 21 5 (λ i=>(jd (C.getD i []) v).T) ((pB C v).map aT) (aaD C v) (.exit 0) [] (by decide) (λ i g => ?_) (tO [cx 10 aj C] (by intros;kernel_rfl)) ?_]
 have ⟨k,l⟩:=p _ (bc g)
 rw [bj g]
 have d:=Hh G F (a:=C[i]) (b:=v) (by omega) (by omega) l hv h1 j (by unfold lg;rw [k];exact h3)
 exact ru 11 12 (λ x=>[bm 10 aj g,aQ 16 1 aj g,hc d]++x++[a9 12 i]) (by intros;kernel_rfl)
 unfold pB
 rw [mU, <- Dh (f:=aT ∘ λ c=>jd c v) (d:=[])]
 rfl
noncomputable abbrev ail (A T:List (List ar)) (i:Nat):List (Nat × aa):=[(0,az A),(5,az T),(7, .int .i64 (i:Int))]
def ahW {A B:List (List ar)} {w:Nat} (u:jC K n A) (h:bw K m w B) (a:B≠[]) (s:∀ r∈A,r.length=B.length) (p:A.length<=9000) (b:B.length<=9000) (j:w<=9000) (h1:bO K q n) (v:bO K q m) (h3:bO K q (B.length*(m+n+K.c+1))):ag ab G 30 [az A,az B] (az (qF A B)):=by
 have t:=Mm G a (λ r o=>(h r o).1) b j
 have DA:(er B).length=w:=by rw [Ak,jG h a]
 refine bB [hc t,tB (ao 30) 0 0 0 A.length 1 24 24 6 (λ i=>aj (pB (er B) (A.getD i []))) ((qF A B).map aj) (ail A (er B)) (.exit 0) [] (by decide) (λ i g => ?_) (tO [cx 13 aj A] (by intros;kernel_rfl)) ?_]
 have l:=bc g
 rw [bj g]
 have d:=ahH G F (Aj h) (u _ l) (by rw [s _ l];exact a4 _) (by omega) b v h1 h3
 exact ru 11 12 (λ x=>[bm 13 aj g,aQ 20 1 aj g,hc d]++x++[a9 15 i]) (by intros;kernel_rfl)
 unfold qF
 rw [mU, <- Dh (f:=aj ∘ λ r=>pB (er B) r) (d:=[])]
 rfl
noncomputable abbrev Hk (a b:List ar) (i:Nat) (q:aB):List (Nat × aa):=[(5, .ref q.b 0 0),(0,aj a),(1,aj b),(8, .int .i64 (i:Int))]
omit F in
theorem HD {l:List aa} {N:Nat} (h:l.length<=9000) [hp:cq 2 l]:qe 2 48 N l:=⟨by omega,fU (k:=2)⟩
omit F in
theorem aib {a b:List ar} {x:ar} {i:Nat} (hi:i<a.length) (aqZ:i<b.length):(g9 a b x).take (i+1)=(g9 a b x).take i++[(a[i]).sub ((b[i]).mul x)]:=by
 have hl:i<(g9 a b x).length:=by unfold g9;rw [k0];omega
 rw [iH hl]
 congr 2
 exact vK
def TV {a b:List ar} {x:ar} {g:Nat} (h:a.length=b.length) (v:a.length<=9000) (o:cv K n a) (hb:cv K m b) (k:x.G K g) (h1:bO K q n) (l:bO K q m) (h3:bO K q g) (h4:bO K q (m+g+K.c)):ag ab G 120 [aj a,aj b,x.T] (aj (g9 a b x)):=by
 have el:(g9 a b x).length=a.length:=by unfold g9;rw [k0];omega
 have t:g9 a b x=(g9 a b x).take a.length:=by rw [hM (by omega)]
 rw [t]
 refine bB [ck (ao 120) 0 0 0 a.length ⟨[1],[0,0],[3],[4]⟩ (λ i q=>(7,bq q.a 2 (((g9 a b x).take i).map aT))::Hk a b i q) (λ i q=>a8 q.a 2 (((g9 a b x).take i).map aT)++[(q.b,⟨[x.T],2,false⟩)]) (.exit 0) (λ _=>[(7, .sl 2 (((g9 a b x).take a.length).map aT))]) (λ _=>[]) (λ i f => ?_) ?_]
 have d:i<b.length:=by omega
 have x1:=TU G F (hb _ (bc d)) k l h3
 have bF:=ah0 G F (o _ (bc f)) ((hb _ (bc d)).mul k) h1 h4
 rw [aib f d,dU,ic]
 have p:(((g9 a b x).take i).map aT).length<=9000:=by rw [aM,cZ];omega
 exact sZ (key:=28) (bytes:=48) (N:=9000) (hb:=by decide) (A:=Hk a b i) (B:=Hk a b (i+1)) (bZ := λ q=>[(q.b,⟨[x.T],2,false⟩)]) (ct := λ q=>[(q.b,⟨[x.T],2,false⟩)]) (HD p) 16 ⟨[17,0],[2],[3],[4]⟩ (λ y=>[bm 12 aT f,aQ 18 2 aT f,aQ 22 2 aT d,hc x1,hc bF]++y++[a9 14 i])
 exact ((kT (A:=Hk a b a.length) (B := λ _=>[]) (bZ := λ q=>[(q.b,⟨[x.T],2,false⟩)]) (ct := λ q=>[(q.b,⟨[x.T],2,false⟩)]) aG [cx 12 aT a]).drop).rH (B:=[]) λ e u=>by obtain ⟨y,_,rfl⟩:=bn.1 u;infer_instance
noncomputable abbrev Ik (a:List ar) (i:Nat) (q:aB):List (Nat × aa):=[(3, .ref q.b 0 0),(0,aj a),(6, .int .i64 (i:Int))]
def ah2 {a:List ar} {x:ar} (t:a.length<=9000) (l:cv K n a) (h:x.G K m) (j:x.b9=false) (h1:bO K q n) (g:bO K q (23*m+41*K.c)):ag ab G 119 [aj a,x.T] (aj (iR a x)):=by
 have el:(iR a x).length=a.length:=by unfold iR;rw [aM]
 have k:iR a x=(iR a x).take a.length:=by rw [hM (by omega)]
 rw [k]
 refine bB [ck (ao 119) 0 0 0 a.length ⟨[1],[0,0],[3],[4]⟩ (λ i q=>(5,bq q.a 2 (((iR a x).take i).map aT))::Ik a i q) (λ i q=>a8 q.a 2 (((iR a x).take i).map aT)++[(q.b,⟨[x.T],2,false⟩)]) (.exit 0) (λ _=>[(5, .sl 2 (((iR a x).take a.length).map aT))]) (λ _=>[]) (λ i d => ?_) ?_]
 have x1:=ahN G F (l _ (bc d)) h j h1 g
 have es:(iR a x).take (i+1)=(iR a x).take i++[(a[i]).div x]:=by
   rw [iH (by omega)]
   congr 2
   exact k8 ..
 rw [es,dU,ic]
 have o:(((iR a x).take i).map aT).length<=9000:=by rw [aM,cZ];omega
 exact sZ (key:=21) (bytes:=48) (N:=9000) (hb:=by decide) (A:=Ik a i) (B:=Ik a (i+1)) (bZ := λ q=>[(q.b,⟨[x.T],2,false⟩)]) (ct := λ q=>[(q.b,⟨[x.T],2,false⟩)]) (HD o) 11 ⟨[12,0],[2],[3],[4]⟩ (λ y=>[bm 10 aT d,aQ 16 2 aT d,hc x1]++y++[a9 12 i])
 exact ((kT (A:=Ik a a.length) (B := λ _=>[]) (bZ := λ q=>[(q.b,⟨[x.T],2,false⟩)]) (ct := λ q=>[(q.b,⟨[x.T],2,false⟩)]) aG [cx 10 aT a]).drop).rH (B:=[]) λ e p=>by obtain ⟨y,_,rfl⟩:=bn.1 p;infer_instance
noncomputable abbrev V3 (a b:List ar) (i:Nat):List (Nat × aa):=[(0,aj a),(1,aj b),(4, .bool false),(5, .int .i64 (i:Int))]
def ah1 {a b:List ar} (h:a.length=b.length) (z:a.length<=9000) (u:cv K n a) (hb:cv K m b) (h1:bO K q n) (x:bO K q m):ag ab G 33 [aj a,aj b] (.bool (xD a b)):=by
 have p:∀ i (k:i<a.length) (d:i<b.length) (c:Bool),eh (a.getD i (a6 0)) (b.getD i (a6 0))=c->ag ab G 56 [(a[i]).T,(b[i]).T] (.bool c) := λ i k d c e=>by
   rw [bj k,bj d] at e
   exact Jj G F (u _ (bc k)) (hb _ (bc d)) h1 x (by rw [<- e];exact m5)
 rcases lh (λ i=>eh (a.getD i (a6 0)) (b.getD i (a6 0))) a.length with ⟨e,t⟩ | ⟨e,i,k,y,w⟩
 rw [show xD a b=true from e]
 refine bB [fh 10 (Hr (f:=aT) (g:=aT) h),fb (ao 33) 0 0 0 a.length (V3 a b) (.exit 0) [] (λ i k => ?_) (rd [cx 14 aT a] )]
 have d:i<b.length:=by omega
 exact rd [bm 14 aT k,aQ 19 2 aT k,aQ 23 2 aT d,hc (p i k d true (t i k)),a9 16 i]
 rw [show xD a b=false from e]
 refine bB [fh 10 (Hr (f:=aT) (g:=aT) h),fb (ao 33) 0 0 0 i (V3 a b) .ret [(4, .bool false)] (λ j v => ?_) ?_]
 have l:j<a.length:=by omega
 have d:j<b.length:=by omega
 exact rd [bm 14 aT l,aQ 19 2 aT l,aQ 23 2 aT d,hc (p j l d true (w j v)),a9 16 j]
 have d:i<b.length:=by omega
 exact rd [bm 14 aT k,aQ 19 2 aT k,aQ 23 2 aT d,hc (p i k d false y)]
noncomputable abbrev RG (a b:List (List ar)) (i:Nat):List (Nat × aa):=[(0,az a),(1,az b),(4, .bool false),(5, .int .i64 (i:Int))]
def ahO {a b:List (List ar)} (h:a.length=b.length) (A:a.length<=9000) (s:∀ i (k:i<a.length) (d:i<b.length),(a[i]).length=(b[i]).length/\(a[i]).length<=9000) (u:jC K n a) (hb:jC K m b) (h1:bO K q n) (x:bO K q m):ag ab G 29 [az a,az b] (.bool (BP a b)):=by
 have p:∀ i (k:i<a.length) (d:i<b.length) (c:Bool),xD (a.getD i []) (b.getD i [])=c->ag ab G 33 [aj (a[i]),aj (b[i])] (.bool c) := λ i k d c e=>by
   rw [bj k,bj d] at e
   rw [<- e]
   exact ah1 G F (s i k d).1 (s i k d).2 (u _ (bc k)) (hb _ (bc d)) h1 x
 rcases lh (λ i=>xD (a.getD i []) (b.getD i [])) a.length with ⟨e,y⟩ | ⟨e,i,k,z,w⟩
 rw [show BP a b=true from e]
 refine bB [fh 10 (Hr (f:=aj) (g:=aj) h),fb (ao 29) 0 0 0 a.length (RG a b) (.exit 0) [] (λ i k => ?_) (rd [cx 14 aj a] )]
 have d:i<b.length:=by omega
 exact rd [bm 14 aj k,aQ 19 1 aj k,aQ 23 1 aj d,hc (p i k d true (y i k)),a9 16 i]
 rw [show BP a b=false from e]
 refine bB [fh 10 (Hr (f:=aj) (g:=aj) h),fb (ao 29) 0 0 0 i (RG a b) .ret [(4, .bool false)] (λ j v => ?_) ?_]
 have l:j<a.length:=by omega
 have d:j<b.length:=by omega
 exact rd [bm 14 aj l,aQ 19 1 aj l,aQ 23 1 aj d,hc (p j l d true (w j v)),a9 16 j]
 have d:i<b.length:=by omega
 exact rd [bm 14 aj k,aQ 19 1 aj k,aQ 23 1 aj d,hc (p i k d false z)]
end
section
variable (G:Nat->Option (List aa))
def ij {a b:Nat} {c:Bool} (h:decide (a=b)=c):((a:Int)==(b:Int))=c:=by
 rw [<- h]
 by_cases e:a=b
 subst e;rw [decide_eq_true rfl];exact beq_self_eq_true _
 rw [decide_eq_false e];exact beq_eq_false_iff_ne.2 (by omega)
abbrev U7 (l:List Nat) (n i:Nat):List (Nat × aa):=[(0,bW l),(1,ak n),(5, .int .i64 (i:Int))]
def Mk {l:List Nat} {n:Nat} (h:n ∉ l) (f:l.length<=9000):ag ab G 97 [bW l,ak n] (.int .i64 (-1)):=by
 refine bB [fb (ao 97) 0 0 0 l.length (U7 l n) (.exit 0) [] (λ i c => ?_) (rd [cx 9 ak l] )]
 exact rd [bm 9 ak c,aQ 14 1 ak c,hb 17 (ij (a:=l[i]) (b:=n) (decide_eq_false λ e=>h (e▸bc c))),a9 11 i]
def TX {l:List Nat} {n:Nat} (h:n∈l) (k:l.length<=9000):∃ i:Nat,ag ab G 97 [bW l,ak n] (.int .i64 (i:Int)):=by
 rcases first (λ i=>decide (l.getD i 0=n)) l.length with h1 | ⟨i,b,c,f⟩
 have ⟨i,b,e⟩:=fZ.1 h
 have:=h1 i b
 rw [bj b,decide_eq_true e] at this
 cases this
 refine ⟨i,bB [fb (ao 97) 0 0 0 i (U7 l n) .ret [(4, .int .i64 (i:Int))] (λ j g => ?_) ?_] ⟩
 have a:j<l.length:=by omega
 have:=f j g
 rw [bj a] at this
 exact rd [bm 9 ak a,aQ 14 1 ak a,hb 17 (ij this),a9 11 j]
 rw [bj b] at c
 exact rd [bm 9 ak b,aQ 14 1 ak b,hb 17 (ij c)]
abbrev S6 (l:List Nat) (n i:Nat):List (Nat × aa):=[(0,bW l),(1,ak n),(4, .bool false),(5, .int .i64 (i:Int))]
def CC {l:List Nat} {n:Nat} (k:l.length<=9000):ag ab G 77 [bW l,ak n] (.bool (l.contains n)):=by
 rcases first (λ i=>decide (l.getD i 0=n)) l.length with h1 | ⟨i,a,c,f⟩
 rw [show l.contains n=false from by
   rw [EE,decide_eq_false]
   intro h
   have ⟨i,a,e⟩:=fZ.1 h
   have:=h1 i a
   rw [bj a,decide_eq_true e] at this
   cases this]
 refine bB [fb (ao 77) 0 0 0 l.length (S6 l n) (.exit 0) [] (λ i a => ?_) (rd [cx 9 ak l] )]
 have:=h1 i a
 rw [bj a] at this
 exact rd [bm 9 ak a,aQ 14 1 ak a,hb 17 (ij this),a9 11 i]
 rw [bj a] at c
 rw [show l.contains n=true from by rw [EE,decide_eq_true];rw [<- of_decide_eq_true c];exact bc a]
 refine bB [fb (ao 77) 0 0 0 i (S6 l n) .ret [(4, .bool true)] (λ j g => ?_) ?_]
 have b:j<l.length:=by omega
 have:=f j g
 rw [bj b] at this
 exact rd [bm 9 ak b,aQ 14 1 ak b,hb 17 (ij this),a9 11 j]
 exact rd [bm 9 ak a,aQ 14 1 ak a,hb 17 (ij c)]
noncomputable abbrev aj6 (r:List ar) (l:List Nat) (i:Nat):List (Nat × aa):=[(0,aj r),(1,bW l),(6, .int .i64 (i:Int))]
def Mj {r:List ar} {l:List Nat} (h:∀ k∈l,k<r.length) (e:l.length<=9000):ag ab G 28 [aj r,bW l] (aj (eW l r)):=by
 refine bB [tB (ao 28) 0 0 0 l.length 2 48 22 5 (λ i=>(r.getD (l.getD i 0) (a6 0)).T) ((eW l r).map aT) (aj6 r l) (.exit 0) [] (by decide) (λ i a => ?_) (tO [cx 10 ak l] (by intros;kernel_rfl)) ?_]
 have c:=h _ (bc a)
 rw [bj a,bj c]
 exact ru 12 13 (λ x=>[bm 10 ak a,aQ 17 1 ak a,aQ 19 2 aT c]++x++[a9 12 i]) (by intros;kernel_rfl)
 unfold eW
 rw [mU, <- Dh (f:=aT ∘ λ k=>r.getD k (a6 0)) (d:=0)]
 rfl
noncomputable abbrev Ft (A B:List (List ar)) (i:Nat):List (Nat × aa):=[(0,az A),(1,az B),(6, .int .i64 (i:Int))]
def Me {A B:List (List ar)} (u:A.length=B.length) (v:A.length<=9000) (n:∀ r∈A,r≠[]/\r.length<=9000) (k:∀ r∈B,r≠[]/\r.length<=9000):ag ab G 96 [az A,az B] (az (dH A B)):=by
 have el:(dH A B).length=A.length:=by unfold dH;rw [k0];omega
 have m:dH A B=(dH A B).take A.length:=by rw [hM (by omega)]
 rw [m]
 refine bB [ck (ao 96) 0 0 0 A.length aG (λ i q=>(5,bq q.a 1 (((dH A B).take i).map aj))::Ft A B i) (λ i q=>a8 q.a 1 (((dH A B).take i).map aj)++[]) (.exit 0) (λ _=>[(5, .sl 1 (((dH A B).take A.length).map aj))]) (λ _=>[]) (λ i g => ?_) ?_]
 have b:i<B.length:=by omega
 have ⟨t,z⟩:=n _ (bc g)
 have ⟨o,w⟩:=k _ (bc b)
 have es:(dH A B).take (i+1)=(dH A B).take i++[A[i]++B[i]]:=by
   rw [iH (by omega)]
   congr 2
   exact vK
 have l:aj (A[i]++B[i]) = .sl 2 ((A[i]).map aT++(B[i]).map aT):=by unfold aj;rw [dU]
 rw [es,dU,ic,l]
 have f:(A[i]).map aT≠[] := λ e=>t (eN.1 e)
 have d:(B[i]).map aT≠[] := λ e=>o (eN.1 e)
 haveI:cq 2 ((A[i]).map aT++(B[i]).map aT):=⟨λ c hc=>(en.1 hc).elim (λ h=>by obtain ⟨y,_,rfl⟩:=bn.1 h;infer_instance) (λ h=>by obtain ⟨y,_,rfl⟩:=bn.1 h;infer_instance)⟩
 exact Fo (key:=26) (kQ:=((A[i]).map aT).length+((B[i]).map aT).length) (A:=Ft A B i) (B:=Ft A B (i+1)) (by rw [cd]) (by rw [aM,cZ];omega) 16 ⟨[17,0],[15,0],[3],[4]⟩ (λ x=>[bm 10 aj g,aQ 17 1 aj g,mj 19 2 48 ((A[i]).map aT) f (by rw [aM];omega),aQ 22 1 aj b,aek 24 2 48 [10,0] ((A[i]).map aT) ((B[i]).map aT) d (by rw [aM,aM];omega)]++x++[a9 12 i])
 exact (kT (A := λ _=>Ft A B A.length) (B := λ _=>[]) (bZ := λ _=>[]) (ct := λ _=>[]) aG [cx 10 aj A]).rH (B:=[]) λ e p=>by obtain ⟨y,_,rfl⟩:=bn.1 p;infer_instance
end
end Go.Proofs.YtpcofcmencgkbaaGreat
namespace Go.aF
def fo {α : Type} (f:Nat -> α -> α) (i:Nat) (R:List α):List α := R.mapIdx λ j r=>if j<i then f j r else r
section
variable {α : Type} {f:Nat -> α -> α} {R:List α} {i:Nat}
def sr:(fo f i R).length=R.length:=by unfold fo;rw [Bc]
def xP {j:Nat} (b:j<R.length) (a:j<(fo f i R).length):(fo f i R)[j]=if j<i then f j R[j] else R[j]:=ZQ (h:=a)
def XF:fo f 0 R=R:=by
 refine ou sr λ j h1 a => ?_
 rw [xP a,if_neg (Nat.not_lt_zero _)]
def anM:fo f R.length R=R.mapIdx f:=by
 refine ou (by rw [sr,Bc]) λ j h1 a => ?_
 rw [Bc] at a
 rw [xP a,ZQ,if_pos a]
def Oc {j:Nat} (a:j<R.length) (h:i<=j) (b:j<(fo f i R).length):(fo f i R)[j]=R[j]:=by
 rw [xP a,if_neg (by omega)]
def XE {j:Nat} (a:j<R.length) (h:f j R[j]=R[j]) (b:j<(fo f i R).length):(fo f i R)[j]=R[j]:=by
 rw [xP a]
 split
 exact h
 rfl
def Od (b:i<R.length):(fo f i R).set i (f i R[i])=fo f (i+1) R:=by
 refine ou (by rw [ju,sr,sr]) λ j h1 a => ?_
 rw [sr] at a
 rw [Pt]
 by_cases e:i=j
 subst e
 rw [if_pos rfl,xP (i:=i+1) b,if_pos (by omega)]
 rw [if_neg e,xP (i:=i) a,xP (i:=i+1) a]
 by_cases h:j<i
 rw [if_pos h,if_pos (by omega)]
 rw [if_neg h,if_neg (by omega)]
def IV (b:i<R.length) (h:f i R[i]=R[i]):fo f (i+1) R=fo f i R:=by
 rw [<- Od b]
 refine ou (by rw [ju]) λ j h1 a => ?_
 rw [sr] at a
 rw [Pt]
 by_cases e:i=j
 subst e
 rw [if_pos rfl,h,Oc a (a4 _)]
 rw [if_neg e]
noncomputable def eS (top k:Nat) (row:List ar) (i:Nat) (r:List ar):List ar:=if i != top && !(r.getD k (a6 0)).b9 then g9 r row (r.getD k (a6 0)) else r
def FG {top k i:Nat} {row:List ar} (h:i=top) (r:List ar):eS top k row i r=r:=by unfold eS;rw [if_neg (by simp [h])]
def QT {top k i:Nat} {row r:List ar} (h:(r.getD k (a6 0)).b9=true):eS top k row i r=r:=by unfold eS;rw [if_neg (by rw [h];simp)]
def QS {top k i:Nat} {row r:List ar} (h:(r.getD k (a6 0)).b9=false) (a:i≠top):eS top k row i r=g9 r row (r.getD k (a6 0)):=by unfold eS;rw [if_pos (by rw [h];simpa using a)]
def IF {R:List (List ar)} {i j:Nat} (b:i<R.length) (a:j<R.length):(R.set i R[j]).set j R[i]=iC R i j:=by
 unfold iC
 rw [dJ,dJ,du b,du a]
 rfl
def alF {st:List (List ar) × List Nat} {k:Nat} (h : ¬ fu st.1 st.2.length k<st.1.length):fc st k=st:=by unfold fc;exact if_neg h
def VH {st:List (List ar) × List Nat} {k:Nat} {bR:List (List ar)} {row:List ar} (h:fu st.1 st.2.length k<st.1.length) (a:iC st.1 st.2.length (fu st.1 st.2.length k)=bR) (b:iR (bR.getD st.2.length []) ((bR.getD st.2.length []).getD k (a6 0))=row) :
   fc st k=((bR.set st.2.length row).mapIdx (eS st.2.length k row),st.2++[k]):=by
 subst a;subst b
 unfold fc
 simp only
 rw [if_pos h]
 rfl
def akb {R:List (List ar)} {top k:Nat} (h:top<=R.length):fu R top k<=R.length:=by
 unfold fu
 have:=List.findIdx_le_length (xs:=R.drop top) (p := λ r => !(r.getD k (a6 0)).b9)
 rw [l0] at this
 omega
def akc {R:List (List ar)} {top k j:Nat} (h1:top<=j) (a:j<fu R top k) (b:j<R.length):(R[j].getD k (a6 0)).b9=true:=by
 unfold fu at a
 have:=List.not_of_lt_findIdx (show j-top<(R.drop top).findIdx (λ r => !(r.getD k (a6 0)).b9) by omega)
 simp only [Bd] at this
 have e:top+(j-top)=j:=by omega
 simp only [e] at this
 simpa using this
def aka {R:List (List ar)} {top k:Nat} (h:fu R top k<R.length):(R[fu R top k].getD k (a6 0)).b9=false:=by
 have a:(R.drop top).findIdx (λ r => !(r.getD k (a6 0)).b9)<(R.drop top).length:=by
   rw [l0];unfold fu at h;omega
 have:=List.findIdx_getElem (w:=a)
 simp only [Bd,Bool.not_eq_true'] at this
 exact this
end
section
variable {K:cT} {n m w:Nat}
def VI {M:List (List ar)} (k:Nat):(ba (k+1)).foldl fc (M,[])=fc ((ba k).foldl fc (M,[])) k:=by rw [ke,Bb];rfl
def am1 {M:List (List ar)} {b:List ar} (c:bw K n w M) (hb:cv K n b) {j:Nat} (a:b.length<=j \/ w+1<=j) {x:List ar} (e:oa M b=some x):x.length=dT M/\cv K (grow K j n) x:=by
 rcases a with a | a
 unfold oa at e
 simp only at e
 split at e
 cases e
 cases e
 have d:bw K n 1 (b.map λ x=>[x]) := λ r l=>by
   obtain ⟨x,k,rfl⟩:=bn.1 l
   exact ⟨rfl, λ y h=>by rw [bJ.1 h];exact hb x k⟩
 have g:=uM c d
 have H:=mz g
 have h1:(bI (dH M (b.map λ x=>[x]))).2.length<=j:=by
   refine bs H.pl ?_
   unfold dH
   rw [k0,aM]
   exact bs (ZO _ _) a
 have:=HW (K:=K) (n:=grow K j n) (f := λ i=>((bI (dH M (b.map λ x=>[x]))).1.getD i []).getD (dT M) (a6 0)) (λ i=>(H.qB.mono (wL h1)).at) (bI (dH M (b.map λ x=>[x]))).2 0 (IU (dT M) none)
 rw [nw] at this
 exact this
 exact Wx c hb a e
def Ww {S:List (List ar)} {b:List ar} (a:bw K n w S) (hb:cv K n b) {j:Nat} (c:b.length<=j \/ S.length+1<=j):cv K (grow K j n) (j6 S b):=by
 unfold j6
 split
 exact cv.nil
 cases e:oa (er S) b with
 | none=>exact cv.nil
 | some x=>exact (am1 (Aj a) hb c e).2
def zZ {M:List (List ar)} (b:bw K n w M) {j:Nat} (a:M.length<=j \/ w<=j):(bI M).2.length<=j:=by
 have H:=mz b
 rcases a with a | a
 exact bs H.pl a
 by_cases e:M=[]
 subst e;exact bs H.pl (Nat.zero_le _)
 have:=H.le;rw [jG b e] at this;omega
end
end Go.aF
namespace Go.Proofs.YtpcofcmencgkbaaGreat
noncomputable abbrev ku:Nat:=(ao 75).aK
noncomputable abbrev ks (M:List (List ar)) (h k top p:Nat) (q:aB):List (Nat × aa):=[(4, .ai q.b 1 0 h false),(0,az M),(6,ak k),(7,ak top),(8,ak p)]
noncomputable abbrev mo (M:List (List ar)) (h k top i:Nat) (q:aB):List (Nat × aa):=[(4, .ai q.b 1 0 h false),(0,az M),(6,ak k),(7,ak top),(9,ak i)]
noncomputable abbrev o7 (M:List (List ar)) (h k:Nat) (q:aB):List (Nat × aa):=[(4, .ai q.b 1 0 h false),(0,az M),(6,ak k)]
section
variable (G:Nat->Option (List aa)) {K:cT} {q e r:Nat} (F:gG K q e r) {n w h k:Nat} (top:Nat) (M:List (List ar)) {R:List (List ar)}
def p6 (b:bw K n w R) {p:Nat} (a:p<R.length) (c:k<w):k<(R[p]).length:=by rw [(b _ (bc a)).1];exact c
include F in
theorem Im (db:bw K n w R) (iw:bO K q n) {p:Nat} (hp:p<R.length) (hk:k<(R[p]).length):ag ab G 36 [((R[p])[k]).T] (.int .i64 (eD ((R[p])[k]).2.val)):=CE G F ((db _ (bc hp)).2 _ (bc hk)) iw (c:=((R[p])[k]).b9) rfl true
def wZ {p:Nat} (b:p<R.length) (a:k<(R[p]).length):((R[p])[k]).b9=((R[p]).getD k (a6 0)).b9:=by rw [bj a]
include F in
theorem UY (db:bw K n w R) (iw:bO K q n) (hk:k<w) (b7:R.length=h) (gy:h<=9000) (p:Nat) (hp:p<h) (z:(((R[p]'(by omega)).getD k (a6 0)).b9)=true):a2 ab G (aU (ao 75) 1) ku (a5 0) .normal (fun q=>(5, .aq)::ks M h k top p q) (fun q=>[(q.b,⟨(R).map aj,1,false⟩)]) (fun q=>(5, .aq)::ks M h k top (p+1) q) (fun q=>[(q.b,⟨(R).map aj,1,false⟩)]):=by
 have iz:p<R.length:=by omega
 rw [<- wZ iz (p6 db iz hk)] at z
 exact aW aG [hb 25 (dW hp),dM 29 1 [2] false h p,g6 30 1 false [2] 1 aj R p (aj R[p]),aQ 32 2 aT (p6 db iz hk),hc (Im G F db iw iz (p6 db iz hk)),hb 35 (se z),hw 38 (Ye (i:=p) (by omega))]
include F in
theorem UW (db:bw K n w R) (iw:bO K q n) (hk:k<w) (b7:R.length=h) (gy:h<=9000) (p:Nat) (hp:p<=h) (z:∀ hp:p<R.length,(((R[p]).getD k (a6 0)).b9)=false):a2 ab G (aU (ao 75) 1) ku (a5 0) (.exit 2) (fun q=>(5, .aq)::ks M h k top p q) (fun q=>[(q.b,⟨(R).map aj,1,false⟩)]) (fun q=>(5, .aq)::ks M h k top p q) (fun q=>[(q.b,⟨(R).map aj,1,false⟩)]):=by
 by_cases Ch:p<h
 . have iz:p<R.length:=by omega
   have z':=z iz
   rw [<- wZ iz (p6 db iz hk)] at z'
   exact aW aG [hb 25 (dW Ch),dM 29 1 [2] false h p,g6 30 1 false [2] 1 aj R p (aj R[p]),aQ 32 2 aT (p6 db iz hk),hc (Im G F db iw iz (p6 db iz hk)),hb 35 (se z')]
 . exact aW aG [hb 25 (kM (show h<=p by omega))]
noncomputable def HJ (d:Nat) (c:a2 ab G (aU (ao 75) 1) ku (a5 0) (.exit 2) (λ q=>(5, .aq)::ks M h k top (top+d) q) (λ q=>[(q.b,⟨(R).map aj,1,false⟩)]) (λ q=>(5, .aq)::ks M h k top (top+d) q) (λ q=>[(q.b,⟨(R).map aj,1,false⟩)]))
   (h1:∀ i,i<d->a2 ab G (aU (ao 75) 1) ku (a5 0) .normal (λ q=>(5, .aq)::ks M h k top (top+i) q) (λ q=>[(q.b,⟨(R).map aj,1,false⟩)]) (λ q=>(5, .aq)::ks M h k top (top+(i+1)) q) (λ q=>[(q.b,⟨(R).map aj,1,false⟩)])) (hd:d<=9000):aZ ab G :=
 ck (ao 75) 1 0 0 d aG (λ i q=>(5, .aq)::ks M h k top (top+i) q) (λ _ q=>[(q.b,⟨R.map aj,1,false⟩)]) (.exit 2) (λ q=>(5, .aq)::ks M h k top (top+d) q) (λ q=>[(q.b,⟨(R).map aj,1,false⟩)]) h1 c
include F in
theorem af0 {m:Nat} {row:List ar} (db:∀ j (hj:j<R.length),j≠top->(R[j]).length=w/\cv K n R[j]) (tl:row.length=w/\cv K m row) (ht:top<R.length) (yQ:R[top]=row) (iw:bO K q n) (yE:bO K q m) (yF:bO K q (m+n+K.c)) (hk:k<w) (b7:R.length=h) (gy:h<=9000) (ca:w<=9000) (i:Nat) (hi:i<h):a2 ab G (aU (ao 75) 2) ku (a5 0) .normal (fun q=>(5, .aq)::mo M h k top i q) (fun q=>[(q.b,⟨(fo (eS top k row) i R).map aj,1,false⟩)]) (fun q=>(5, .aq)::mo M h k top (i+1) q) (fun q=>[(q.b,⟨(fo (eS top k row) (i+1) R).map aj,1,false⟩)]):=by
 have g7:i<R.length:=by omega
 have aha:(fo (eS top k row) i R).length=h:=by rw [sr,b7]
 have Lz:i<(fo (eS top k row) i R).length:=by omega
 have LM:top<(fo (eS top k row) i R).length:=by rw [sr];exact ht
 have m6:(fo (eS top k row) i R)[i]=R[i]:=Oc g7 (a4 _) Lz
 have gt:(fo (eS top k row) i R)[top]=row:=(XE ht (FG rfl _) LM).trans yQ
 have us:=Od (f:=eS top k row) g7
 by_cases e:i=top
 . have ef:eS top k row i R[i]=R[i]:=FG e _
   rw [IV g7 ef]
   have hne:((i:Int) != (top:Int))=false:=by rw [e];exact bne_self_eq_false _
   exact aW aG [hb 75 (dW hi),hb 80 hne,a9 77 i]
 . have hne:((i:Int) != (top:Int))=true:=bne_iff_ne.2 (by omega)
   have afq:(i != top)=true:=bne_iff_ne.2 e
   obtain ⟨hY,g1⟩:=db i g7 e
   have eo:k<(R[i]).length:=by omega
   have mF:=CE G F (g1 _ (bc eo)) iw (c:=((R[i])[k]).b9) rfl true
   have BM:=wZ g7 eo
   cases z:((R[i])[k]).b9 with
   | true =>
     have ef:eS top k row i R[i]=R[i]:=QT (by rw [<- BM];exact z)
     rw [IV g7 ef]
     generalize fo (eS top k row) i R=S at *
     rw [<- m6] at eo
     have xE:ag ab G 36 [((S[i])[k]).T] (.int .i64 (eD ((S[i])[k]).2.val)):=by simp only [m6];exact mF
     have z':((S[i])[k]).b9=true:=by simp only [m6];exact z
     exact aW aG [hb 75 (dW hi),hb 80 hne,dM 84 1 [2] false h i,g6 85 1 false [2] 1 aj S i (aj S[i]),aQ 87 2 aT eo,hc xE,hb 90 (z7 z'),a9 77 i]
   | false =>
     have ef:eS top k row i R[i]=g9 R[i] row (R[i])[k]:=by rw [QS (by rw [<- BM];exact z) e,bj eo]
     rw [ef] at us
     have zv:=TV G F (a:=R[i]) (b:=row) (x:=(R[i])[k]) (by omega) (by omega) g1 tl.2 (g1 _ (bc eo)) iw yE iw yF
     generalize fo (eS top k row) (i+1) R=sW at *
     generalize fo (eS top k row) i R=S at *
     rw [<- m6] at eo
     have xE:ag ab G 36 [((S[i])[k]).T] (.int .i64 (eD ((S[i])[k]).2.val)):=by simp only [m6];exact mF
     have z':((S[i])[k]).b9=false:=by simp only [m6];exact z
     have Mw:ag ab G 120 [aj S[i],aj S[top],((S[i])[k]).T] (aj (g9 R[i] row (R[i])[k])):=by simp only [m6,gt];exact zv
     exact aW aG [hb 75 (dW hi),hb 80 hne,dM 84 1 [2] false h i,g6 85 1 false [2] 1 aj S i (aj S[i]),aQ 87 2 aT eo,hc xE,hb 90 (z7 z'),
       dM 96 1 [2] false h i,g6 97 1 false [2] 1 aj S i (aj S[i]),dM 100 1 [2] false h top,g6 101 1 false [2] 1 aj S top (aj S[top]),dM 104 1 [2] false h i,g6 105 1 false [2] 1 aj S i (aj S[i]),aQ 107 2 aT eo,hc Mw,dM 110 1 [2] false h i,nX 110 1 [2] 1 aj S i (g9 R[i] row (R[i])[k]) sW us,a9 77 i]
def afW {S:List (List ar)}:a2 ab G (aU (ao 75) 2) ku (a5 0) (.exit 4) (λ q=>(5, .aq)::mo M h k top h q) (λ q=>[(q.b,⟨(S).map aj,1,false⟩)]) (λ q=>(5, .aq)::mo M h k top h q) (λ q=>[(q.b,⟨(S).map aj,1,false⟩)]):=aW aG [hb 75 (kM (a4 h))]
noncomputable def S0 (S:Nat->List (List ar)) (h1:∀ i,i<h->a2 ab G (aU (ao 75) 2) ku (a5 0) .normal (λ q=>(5, .aq)::mo M h k top i q) (λ q=>[(q.b,⟨(S i).map aj,1,false⟩)]) (λ q=>(5, .aq)::mo M h k top (i+1) q) (λ q=>[(q.b,⟨(S (i+1)).map aj,1,false⟩)])) (c:h<=9000):aZ ab G :=
 ck (ao 75) 2 0 1 h ⟨[1],[2000001,0],[3],[4]⟩ (λ i q=>(5, .aq)::mo M h k top i q) (λ i q=>[(q.b,⟨(S i).map aj,1,false⟩)]) (.exit 4) (λ q=>(5, .aq)::mo M h k top h q) (λ q=>[(q.b,⟨(S h).map aj,1,false⟩)]) h1 (afW G top M)
def abL (i:top=0) (l:M≠[]) (j:k<dT M) (p:R.length=h) (o:k<9000) (d:Nat) (hd:top+d=h) (m:aZ ab G) (c:∃ f h1 hd,m=HJ G top M (R:=R) (h:=h) (k:=k) d f h1 hd):a2 ab G (aU (ao 75) 0) ku (a5 2) .normal (λ q=>(5, .aq)::o7 M h k q) (λ q=>[(q.b,⟨(R).map aj,1,false⟩)]) (λ q=>(5, .aq)::o7 M h (k+1) q) (λ q=>[(q.b,⟨(R).map aj,1,false⟩)]):=by
 obtain ⟨f,h1,g,rfl⟩:=c
 exact aW ⟨[1],[2000001,0],[3],[4]⟩ [hc (qA G l),hb 16 (dW j),hw 20 (show (0:Int)=(top:Int) by omega),HJ G top M d f h1 g,hb 42 (show (((top+d:Nat):Int)==(h:Int))=true by rw [hd];exact beq_self_eq_true _),a9 18 k]
def abJ (p:top=0) (z:M≠[]) (A:k<dT M) (E:R.length=h) (H:k<9000) (d:Nat) (hd:top+d<h) (u C:aZ ab G) {f bR s:List (List ar)} {row:List ar} (S:Nat->List (List ar)) (o:∃ j h1 hd,u=HJ G top M (R:=R) (h:=h) (k:=k) d j h1 hd) (i:∃ h1 l,C=S0 G top M (h:=h) (k:=k) S h1 l)
   (s0:R.set top (R[top+d]'(by omega))=f) (x:f.set (top+d) (R[top]'(by omega))=bR) (I:f.length=h) (J:bR.length=h) (m:k<(bR[top]'(by omega)).length) (y:ag ab G 119 [aj (bR[top]'(by omega)),((bR[top]'(by omega))[k]).T] (aj row)) (v:bR.set top row=s) (t:S 0=s) :
   a2 ab G (aU (ao 75) 0) ku (a5 2) .normal (λ q=>(5, .aq)::o7 M h k q) (λ q=>[(q.b,⟨(R).map aj,1,false⟩)]) (λ q=>(5, .ai q.a 1 0 1 false)::o7 M h (k+1) q) (λ q=>[(q.a,⟨[ak k],1,false⟩),(q.b,⟨(S h).map aj,1,false⟩)]):=by
 obtain ⟨j,h1,g,rfl⟩:=o
 obtain ⟨D,l,rfl⟩:=i
 subst t
 have B:(((top+d:Nat):Int)==(h:Int))=false:=beq_eq_false_iff_ne.2 (by omega)
 exact aW ⟨[4000007,0],[4000001,0],[3],[4]⟩ [hc (qA G z),hb 16 (dW A),hw 20 (show (0:Int)=(top:Int) by omega),HJ G top M d j h1 g,hb 42 B,
   dM 49 1 [2000001,0] false h (top+d),g6 50 1 false [2000001,0] 1 aj R (top+d) (aj (R[top+d]'(by omega))),dM 53 1 [2000001,0] false h top,g6 54 1 false [2000001,0] 1 aj R top (aj (R[top]'(by omega))),
   dM 55 1 [2000001,0] false h top,nX 55 1 [2000001,0] 1 aj R top (R[top+d]'(by omega)) f s0,dM 56 1 [2000001,0] false h (top+d),nX 56 1 [2000001,0] 1 aj f (top+d) (R[top]'(by omega)) bR x,
   dM 61 1 [2000001,0] false h top,g6 62 1 false [2000001,0] 1 aj bR top (aj (bR[top]'(by omega))),dM 65 1 [2000001,0] false h top,g6 66 1 false [2000001,0] 1 aj bR top (aj (bR[top]'(by omega))),aQ 68 2 aT m,hc y,dM 71 1 [2000001,0] false h top,nX 71 1 [2000001,0] 1 aj bR top row (S 0) v,
   S0 G top M S D l,a9 18 k]
include F in
theorem UZ {l:List aa} [br l] [cq 1 l] (db:bw K n w R) (iw:bO K q n) (hk:k<w) (b7:R.length=h) (gy:h<=9000) (p:Nat) (hp:p<h) (z:(((R[p]'(by omega)).getD k (a6 0)).b9)=true):a2 ab G (aU (ao 75) 1) ku (a5 0) .normal (fun q=>(5, .ai q.a 1 0 l.length false)::ks M h k top p q) (fun q=>[(q.a,⟨l,1,false⟩),(q.b,⟨(R).map aj,1,false⟩)]) (fun q=>(5, .ai q.a 1 0 l.length false)::ks M h k top (p+1) q) (fun q=>[(q.a,⟨l,1,false⟩),(q.b,⟨(R).map aj,1,false⟩)]):=by
 have iz:p<R.length:=by omega
 rw [<- wZ iz (p6 db iz hk)] at z
 exact aW aG [hb 25 (dW hp),dM 29 1 [2] false h p,g6 30 1 false [2] 1 aj R p (aj R[p]),aQ 32 2 aT (p6 db iz hk),hc (Im G F db iw iz (p6 db iz hk)),hb 35 (se z),hw 38 (Ye (i:=p) (by omega))]
include F in
theorem UX {l:List aa} [br l] [cq 1 l] (db:bw K n w R) (iw:bO K q n) (hk:k<w) (b7:R.length=h) (gy:h<=9000) (p:Nat) (hp:p<=h) (z:∀ hp:p<R.length,(((R[p]).getD k (a6 0)).b9)=false):a2 ab G (aU (ao 75) 1) ku (a5 0) (.exit 2) (fun q=>(5, .ai q.a 1 0 l.length false)::ks M h k top p q) (fun q=>[(q.a,⟨l,1,false⟩),(q.b,⟨(R).map aj,1,false⟩)]) (fun q=>(5, .ai q.a 1 0 l.length false)::ks M h k top p q) (fun q=>[(q.a,⟨l,1,false⟩),(q.b,⟨(R).map aj,1,false⟩)]):=by
 by_cases Ch:p<h
 . have iz:p<R.length:=by omega
   have z':=z iz
   rw [<- wZ iz (p6 db iz hk)] at z'
   exact aW aG [hb 25 (dW Ch),dM 29 1 [2] false h p,g6 30 1 false [2] 1 aj R p (aj R[p]),aQ 32 2 aT (p6 db iz hk),hc (Im G F db iw iz (p6 db iz hk)),hb 35 (se z')]
 . exact aW aG [hb 25 (kM (show h<=p by omega))]
noncomputable def HK {l:List aa} [br l] [cq 1 l] (d:Nat) (f:a2 ab G (aU (ao 75) 1) ku (a5 0) (.exit 2) (λ q=>(5, .ai q.a 1 0 l.length false)::ks M h k top (top+d) q) (λ q=>[(q.a,⟨l,1,false⟩),(q.b,⟨(R).map aj,1,false⟩)]) (λ q=>(5, .ai q.a 1 0 l.length false)::ks M h k top (top+d) q) (λ q=>[(q.a,⟨l,1,false⟩),(q.b,⟨(R).map aj,1,false⟩)]))
   (h1:∀ i,i<d->a2 ab G (aU (ao 75) 1) ku (a5 0) .normal (λ q=>(5, .ai q.a 1 0 l.length false)::ks M h k top (top+i) q) (λ q=>[(q.a,⟨l,1,false⟩),(q.b,⟨(R).map aj,1,false⟩)]) (λ q=>(5, .ai q.a 1 0 l.length false)::ks M h k top (top+(i+1)) q) (λ q=>[(q.a,⟨l,1,false⟩),(q.b,⟨(R).map aj,1,false⟩)])) (hd:d<=9000):aZ ab G :=
 ck (ao 75) 1 0 0 d aG (λ i q=>(5, .ai q.a 1 0 l.length false)::ks M h k top (top+i) q) (λ _ q=>[(q.a,⟨l,1,false⟩),(q.b,⟨R.map aj,1,false⟩)]) (.exit 2) (λ q=>(5, .ai q.a 1 0 l.length false)::ks M h k top (top+d) q) (λ q=>[(q.a,⟨l,1,false⟩),(q.b,⟨(R).map aj,1,false⟩)]) h1 f
include F in
theorem af1 {l:List aa} [br l] [cq 1 l] {m:Nat} {row:List ar} (db:∀ j (hj:j<R.length),j≠top->(R[j]).length=w/\cv K n R[j]) (tl:row.length=w/\cv K m row) (ht:top<R.length) (yQ:R[top]=row) (iw:bO K q n) (yE:bO K q m) (yF:bO K q (m+n+K.c)) (hk:k<w) (b7:R.length=h) (gy:h<=9000) (ca:w<=9000) (i:Nat) (hi:i<h):a2 ab G (aU (ao 75) 2) ku (a5 0) .normal (fun q=>(5, .ai q.a 1 0 l.length false)::mo M h k top i q) (fun q=>[(q.a,⟨l,1,false⟩),(q.b,⟨(fo (eS top k row) i R).map aj,1,false⟩)]) (fun q=>(5, .ai q.a 1 0 l.length false)::mo M h k top (i+1) q) (fun q=>[(q.a,⟨l,1,false⟩),(q.b,⟨(fo (eS top k row) (i+1) R).map aj,1,false⟩)]):=by
 have g7:i<R.length:=by omega
 have aha:(fo (eS top k row) i R).length=h:=by rw [sr,b7]
 have Lz:i<(fo (eS top k row) i R).length:=by omega
 have LM:top<(fo (eS top k row) i R).length:=by rw [sr];exact ht
 have m6:(fo (eS top k row) i R)[i]=R[i]:=Oc g7 (a4 _) Lz
 have gt:(fo (eS top k row) i R)[top]=row:=(XE ht (FG rfl _) LM).trans yQ
 have us:=Od (f:=eS top k row) g7
 by_cases e:i=top
 . have ef:eS top k row i R[i]=R[i]:=FG e _
   rw [IV g7 ef]
   have hne:((i:Int) != (top:Int))=false:=by rw [e];exact bne_self_eq_false _
   exact aW aG [hb 75 (dW hi),hb 80 hne,a9 77 i]
 . have hne:((i:Int) != (top:Int))=true:=bne_iff_ne.2 (by omega)
   have afq:(i != top)=true:=bne_iff_ne.2 e
   obtain ⟨hY,g1⟩:=db i g7 e
   have eo:k<(R[i]).length:=by omega
   have mF:=CE G F (g1 _ (bc eo)) iw (c:=((R[i])[k]).b9) rfl true
   have BM:=wZ g7 eo
   cases z:((R[i])[k]).b9 with
   | true =>
     have ef:eS top k row i R[i]=R[i]:=QT (by rw [<- BM];exact z)
     rw [IV g7 ef]
     generalize fo (eS top k row) i R=S at *
     rw [<- m6] at eo
     have xE:ag ab G 36 [((S[i])[k]).T] (.int .i64 (eD ((S[i])[k]).2.val)):=by simp only [m6];exact mF
     have z':((S[i])[k]).b9=true:=by simp only [m6];exact z
     exact aW aG [hb 75 (dW hi),hb 80 hne,dM 84 1 [2] false h i,g6 85 1 false [2] 1 aj S i (aj S[i]),aQ 87 2 aT eo,hc xE,hb 90 (z7 z'),a9 77 i]
   | false =>
     have ef:eS top k row i R[i]=g9 R[i] row (R[i])[k]:=by rw [QS (by rw [<- BM];exact z) e,bj eo]
     rw [ef] at us
     have zv:=TV G F (a:=R[i]) (b:=row) (x:=(R[i])[k]) (by omega) (by omega) g1 tl.2 (g1 _ (bc eo)) iw yE iw yF
     generalize fo (eS top k row) (i+1) R=sW at *
     generalize fo (eS top k row) i R=S at *
     rw [<- m6] at eo
     have xE:ag ab G 36 [((S[i])[k]).T] (.int .i64 (eD ((S[i])[k]).2.val)):=by simp only [m6];exact mF
     have z':((S[i])[k]).b9=false:=by simp only [m6];exact z
     have Mw:ag ab G 120 [aj S[i],aj S[top],((S[i])[k]).T] (aj (g9 R[i] row (R[i])[k])):=by simp only [m6,gt];exact zv
     exact aW aG [hb 75 (dW hi),hb 80 hne,dM 84 1 [2] false h i,g6 85 1 false [2] 1 aj S i (aj S[i]),aQ 87 2 aT eo,hc xE,hb 90 (z7 z'),
       dM 96 1 [2] false h i,g6 97 1 false [2] 1 aj S i (aj S[i]),dM 100 1 [2] false h top,g6 101 1 false [2] 1 aj S top (aj S[top]),dM 104 1 [2] false h i,g6 105 1 false [2] 1 aj S i (aj S[i]),aQ 107 2 aT eo,hc Mw,dM 110 1 [2] false h i,nX 110 1 [2] 1 aj S i (g9 R[i] row (R[i])[k]) sW us,a9 77 i]
def afX {l:List aa} [br l] [cq 1 l] {S:List (List ar)}:a2 ab G (aU (ao 75) 2) ku (a5 0) (.exit 4) (λ q=>(5, .ai q.a 1 0 l.length false)::mo M h k top h q) (λ q=>[(q.a,⟨l,1,false⟩),(q.b,⟨(S).map aj,1,false⟩)]) (λ q=>(5, .ai q.a 1 0 l.length false)::mo M h k top h q) (λ q=>[(q.a,⟨l,1,false⟩),(q.b,⟨(S).map aj,1,false⟩)]):=aW aG [hb 75 (kM (a4 h))]
noncomputable def S1 {l:List aa} [br l] [cq 1 l] (S:Nat->List (List ar)) (h1:∀ i,i<h->a2 ab G (aU (ao 75) 2) ku (a5 0) .normal (λ q=>(5, .ai q.a 1 0 l.length false)::mo M h k top i q) (λ q=>[(q.a,⟨l,1,false⟩),(q.b,⟨(S i).map aj,1,false⟩)]) (λ q=>(5, .ai q.a 1 0 l.length false)::mo M h k top (i+1) q) (λ q=>[(q.a,⟨l,1,false⟩),(q.b,⟨(S (i+1)).map aj,1,false⟩)])) (d:h<=9000):aZ ab G :=
 ck (ao 75) 2 0 1 h ⟨[2000000,0],[2000001,0],[3],[4]⟩ (λ i q=>(5, .ai q.a 1 0 l.length false)::mo M h k top i q) (λ i q=>[(q.a,⟨l,1,false⟩),(q.b,⟨(S i).map aj,1,false⟩)]) (.exit 4) (λ q=>(5, .ai q.a 1 0 l.length false)::mo M h k top h q) (λ q=>[(q.a,⟨l,1,false⟩),(q.b,⟨(S h).map aj,1,false⟩)]) h1 (afX G top M)
def abM {l:List aa} [br l] [cq 1 l] (j:top=l.length) (p:M≠[]) (o:k<dT M) (s:R.length=h) (t:k<9000) (d:Nat) (hd:top+d=h) (m:aZ ab G) (f:∃ g h1 hd,m=HK G top M (R:=R) (h:=h) (k:=k) (l:=l) d g h1 hd):a2 ab G (aU (ao 75) 0) ku (a5 2) .normal (λ q=>(5, .ai q.a 1 0 l.length false)::o7 M h k q) (λ q=>[(q.a,⟨l,1,false⟩),(q.b,⟨(R).map aj,1,false⟩)]) (λ q=>(5, .ai q.a 1 0 l.length false)::o7 M h (k+1) q) (λ q=>[(q.a,⟨l,1,false⟩),(q.b,⟨(R).map aj,1,false⟩)]):=by
 obtain ⟨g,h1,i,rfl⟩:=f
 exact aW ⟨[2000000,0],[2000001,0],[3],[4]⟩ [hc (qA G p),hb 16 (dW o),hw 20 (show (l.length:Int)=(top:Int) by omega),HK G top M d g h1 i,hb 42 (show (((top+d:Nat):Int)==(h:Int))=true by rw [hd];exact beq_self_eq_true _),a9 18 k]
def abK {l:List aa} [br l] [cq 1 l] (s:top=l.length) (B:l.length<=9000) (A:M≠[]) (C:k<dT M) (J:R.length=h) (I:k<9000) (d:Nat) (hd:top+d<h) (y D:aZ ab G) {f bR t:List (List ar)} {row:List ar} (S:Nat->List (List ar)) (p:∃ i h1 hd,y=HK G top M (R:=R) (h:=h) (k:=k) (l:=l) d i h1 hd) (m:∃ h1 j,D=S1 G top M (h:=h) (k:=k) (l:=l) S h1 j)
   (s0:R.set top (R[top+d]'(by omega))=f) (H:f.set (top+d) (R[top]'(by omega))=bR) (L:f.length=h) (N:bR.length=h) (o:k<(bR[top]'(by omega)).length) (z:ag ab G 119 [aj (bR[top]'(by omega)),((bR[top]'(by omega))[k]).T] (aj row)) (v:bR.set top row=t) (u:S 0=t) :
   a2 ab G (aU (ao 75) 0) ku (a5 2) .normal (λ q=>(5, .ai q.a 1 0 l.length false)::o7 M h k q) (λ q=>[(q.a,⟨l,1,false⟩),(q.b,⟨(R).map aj,1,false⟩)]) (λ q=>(5, .ai q.a 1 0 (l.length+1) false)::o7 M h (k+1) q) (λ q=>[(q.a,⟨(l++[ak k]),1,false⟩),(q.b,⟨(S h).map aj,1,false⟩)]):=by
 obtain ⟨i,h1,g,rfl⟩:=p
 obtain ⟨E,j,rfl⟩:=m
 subst u
 have x:(((top+d:Nat):Int)==(h:Int))=false:=beq_eq_false_iff_ne.2 (by omega)
 exact aW ⟨[4000007,0],[4000001,0],[3],[4]⟩ [hc (qA G A),hb 16 (dW C),hw 20 (show (l.length:Int)=(top:Int) by omega),HK G top M d i h1 g,hb 42 x,
   dM 49 1 [2000001,0] false h (top+d),g6 50 1 false [2000001,0] 1 aj R (top+d) (aj (R[top+d]'(by omega))),dM 53 1 [2000001,0] false h top,g6 54 1 false [2000001,0] 1 aj R top (aj (R[top]'(by omega))),
   dM 55 1 [2000001,0] false h top,nX 55 1 [2000001,0] 1 aj R top (R[top+d]'(by omega)) f s0,dM 56 1 [2000001,0] false h (top+d),nX 56 1 [2000001,0] 1 aj f (top+d) (R[top]'(by omega)) bR H,
   dM 61 1 [2000001,0] false h top,g6 62 1 false [2000001,0] 1 aj bR top (aj (bR[top]'(by omega))),dM 65 1 [2000001,0] false h top,g6 66 1 false [2000001,0] 1 aj bR top (aj (bR[top]'(by omega))),aQ 68 2 aT o,hc z,dM 71 1 [2000001,0] false h top,nX 71 1 [2000001,0] 1 aj bR top row (S 0) v,
   S1 G top M S E j,jY 114 1 8 [4000000,0] 4000006 l (ak k) (by omega) (fU (k:=1)),a9 18 k]
def alD (st:List (List ar) × List Nat) (k:Nat):st.2.length<=(fc st k).2.length:=by
 rcases VG st k with h | h
 rw [h];exact a4 _
 rw [h,cd];exact Nat.le_add_right _ _
noncomputable abbrev lB (M:List (List ar)) (k:Nat):List (List ar) × List Nat:=(ba k).foldl fc (M,[])
def VX (M:List (List ar)) {k j:Nat} (h:k<=j):(lB M k).2.length<=(lB M j).2.length:=by
 induction h with
 | refl=>exact a4 _
 | step _ a=>exact bs a (by unfold lB;rw [VI];exact alD _ _)
def bO.mono {K:cT} {q n m:Nat} (h:bO K q m) (k:n<=m):bO K q n:=by unfold bO at *;omega
end
section
variable (G:Nat->Option (List aa)) {K:cT} {q e r:Nat} (F:gG K q e r) {n w:Nat} {M:List (List ar)}
include F
def acs (O:M≠[]) (hm:bw K n w M) (t:M.length<=9000) (ca:w<=9000) {j:Nat} (hj:(bI M).2.length<=j) (V:bO K q (grow K j n)) (k:Nat) (Y:k<dT M) :
   a2 ab G (aU (ao 75) 0) ku (a5 2) .normal (λ q=>(5,bq q.a 1 ((lB M k).2.map ak))::o7 M M.length k q) (λ q=>a8 q.a 1 ((lB M k).2.map ak)++[(q.b,⟨(lB M k).1.map aj,1,false⟩)]) (λ q=>(5,bq q.a 1 ((lB M (k+1)).2.map ak))::o7 M M.length (k+1) q) (λ q=>a8 q.a 1 ((lB M (k+1)).2.map ak)++[(q.b,⟨(lB M (k+1)).1.map aj,1,false⟩)]):=by
 have qn:=jG hm O
 have f:k<w:=by omega
 have H:wu K n w M.length k (lB M k):=H6 hm rfl k
 have J:(lB M (k+1)).2.length<=j:=bs (VX M (show k+1<=dT M by omega)) hj
 have ake:(lB M k).2.length<=j:=bs (VX M (show k<=k+1 by omega)) J
 have e1:lB M (k+1)=fc (lB M k) k:=VI k
 rw [e1] at J ⊢
 have s:=H.len
 have hp:=H.pl
 have B:=H.qB
 generalize lB M k=st at *
 have ⟨R,P⟩:=st
 simp only at *
 have y:bO K q (grow K P.length n):=V.mono (wL ake)
 have ark:=akb (R:=R) (top:=P.length) (k:=k) (by omega)
 have Q:=HP R P.length k
 have z:∀ p (h1:P.length<=p) (Z:p<fu R P.length k) (h3:p<R.length),((R[p]).getD k (a6 0)).b9=true := λ p h1 Z h3=>akc h1 Z h3
 have aqF:∀ x:Nat,cU 1 (ak x) := λ x=>inferInstance
 by_cases A:fu R P.length k<R.length
 have aeT:=aka A
 have aqX:grow K (P.length+1) n<=grow K j n:=by
   refine wL ?_
   have X:=VH (st:=(R,P)) (k:=k) A rfl rfl
   rw [X,cd] at J
   exact J
 have ⟨d,hd⟩:∃ d,fu R P.length k=P.length+d:=⟨_,(ZR Q).symm⟩
 have U:P.length+d<R.length:=by omega
 have v:((R[P.length+d]).getD k (a6 0)).b9=false:=by have:=aeT;simp only [hd] at this;exact this
 have X:∀ {bR:List (List ar)} {row:List ar},iC R P.length (P.length+d)=bR->iR (bR.getD P.length []) ((bR.getD P.length []).getD k (a6 0))=row->fc (R,P) k=((bR.set P.length row).mapIdx (eS P.length k row),P++[k]) := λ h1 Z=>VH (st:=(R,P)) A (by simp only [hd];exact h1) Z
 have ht:P.length<R.length:=by omega
 have es:=IF ht U
 have g1:grow K (P.length+1) n=26*grow K P.length n+43*K.c+1:=rfl
 have D:=B.swap ht U
 have sl:=NM R P.length (P.length+d)
 generalize I:R.set P.length R[P.length+d]=aaq at es
 generalize ac9:iC R P.length (P.length+d)=bR at es D sl X
 have C:P.length<bR.length:=by omega
 have akQ:bR[P.length]=R[P.length+d]:=by
   subst ac9
   simp only [<- es, <- I]
   rw [Pt]
   split
   next h=>simp only [h]
   rw [ZT]
 have tx:aaq.length=M.length:=by rw [<- I,ju];exact s
 have o:k<(bR[P.length]).length:=by rw [(D _ (bc C)).1];exact f
 have hz:((bR[P.length])[k]).b9=false:=by
   rw [wZ C o,akQ];exact v
 have gt:=D _ (bc C)
 have Nt:=ah2 G F (a:=bR[P.length]) (x:=(bR[P.length])[k]) (by omega) gt.2 (gt.2 _ (bc o)) hz y (V.mono (by omega))
 have rg:=Nu gt.2 (gt.2 _ (bc o))
 have rl:(iR (bR[P.length]) (bR[P.length])[k]).length=w:=(aM ..).trans gt.1
 have ac7:=X (bR:=bR) (row:=iR (bR[P.length]) (bR[P.length])[k]) rfl (by rw [bj C,bj o])
 rw [ac7]
 generalize iR (bR[P.length]) (bR[P.length])[k]=row at Nt rg rl
 have lq:(bR.set P.length row).length=M.length:=by rw [ju];omega
 have FP:(bR.set P.length row).mapIdx (eS P.length k row)=fo (eS P.length k row) M.length (bR.set P.length row):=by rw [<- anM,lq]
 rw [FP]
 have db:∀ i (E:i<(bR.set P.length row).length),i≠P.length->((bR.set P.length row)[i]).length=w/\cv K (grow K P.length n) (bR.set P.length row)[i] := λ i E m=>by
   rw [List.getElem_set_ne (Ne.symm m)]
   exact D _ (bc _)
 have S:P.length<(bR.set P.length row).length:=by omega
 have yQ:(bR.set P.length row)[P.length]=row:=ZT _
 have yE:bO K q (24*grow K P.length n+42*K.c):=V.mono (by omega)
 have yF:bO K q (24*grow K P.length n+42*K.c+grow K P.length n+K.c):=V.mono (by omega)
 have lm:(P++[k]).map ak=P.map ak++[ak k]:=by rw [dU];rfl
 rw [lm]
 by_cases u:P=[]
 have L:P.length=0:=by rw [u];rfl
 have g:=abJ G P.length M L O Y s (by omega) d (by omega) _ _ (λ i=>fo (eS P.length k row) i (bR.set P.length row))
   ⟨UW G F P.length M B y f s t (P.length+d) (by omega) (λ h=>v), λ i E=>UY G F P.length M B y f s t (P.length+i) (by omega) (z _ (by omega) (by omega) (by omega)),by omega,rfl⟩
   ⟨λ i E=>af0 G F P.length M db ⟨rl,rg⟩ S yQ y yE yF f lq t ca i E,t,rfl⟩ I es tx (by omega) o Nt rfl XF
 have x1:∀ i,bq i 1 (P.map ak) = .aq := λ i=>by rw [u];rfl
 have bF:∀ i,a8 i 1 (P.map ak)=[] := λ i=>by rw [u];rfl
 have ib:∀ i,bq i 1 (P.map ak++[ak k]) = .ai i 1 0 1 false := λ i=>by rw [u];exact dA (by simp)
 have qU:∀ i,a8 i 1 (P.map ak++[ak k])=[(i,⟨[ak k],1,false⟩)] := λ i=>by rw [u];exact dx (by simp)
 simp only [x1,bF,ib,qU]
 exact g
 have m:P.map ak≠[] := λ e=>u (eN.1 e)
 have N:P.length=(P.map ak).length:=by rw [aM]
 have g:=abK G P.length M (l:=P.map ak) N (by rw [aM];omega) O Y s (by omega) d (by omega) _ _ (λ i=>fo (eS P.length k row) i (bR.set P.length row))
   ⟨UX G F P.length M B y f s t (P.length+d) (by omega) (λ h=>v), λ i E=>UZ G F P.length M B y f s t (P.length+i) (by omega) (z _ (by omega) (by omega) (by omega)),by omega,rfl⟩
   ⟨λ i E=>af1 G F P.length M db ⟨rl,rg⟩ S yQ y yE yF f lq t ca i E,t,rfl⟩ I es tx (by omega) o Nt rfl XF
 have ib:∀ i,bq i 1 (P.map ak++[ak k]) = .ai i 1 0 ((P.map ak).length+1) false := λ i=>by rw [dA (by simp),cd];rfl
 have qU:∀ i,a8 i 1 (P.map ak++[ak k])=[(i,⟨P.map ak++[ak k],1,false⟩)] := λ i=>dx (by simp)
 simp only [ib,qU,dA m,dx m]
 exact g
 have es:=alF (st:=(R,P)) (k:=k) A
 rw [es]
 simp only
 have ⟨d,hd⟩:∃ d,fu R P.length k=P.length+d:=⟨_,(ZR Q).symm⟩
 have T:P.length+d=M.length:=by omega
 by_cases u:P=[]
 have L:P.length=0:=by rw [u];rfl
 have g:=abL G P.length M (R:=R) L O Y s (by omega) d T _ ⟨UW G F P.length M B y f s t (P.length+d) (by omega) (λ h=>absurd h (by omega)), λ i E=>UY G F P.length M B y f s t (P.length+i) (by omega) (z _ (by omega) (by omega) (by omega)),by omega,rfl⟩
 have x1:∀ i,bq i 1 (P.map ak) = .aq := λ i=>by rw [u];rfl
 have bF:∀ i,a8 i 1 (P.map ak)=[] := λ i=>by rw [u];rfl
 simp only [x1,bF]
 exact g
 have m:P.map ak≠[] := λ e=>u (eN.1 e)
 have N:P.length=(P.map ak).length:=by rw [aM]
 have g:=abM G P.length M (l:=P.map ak) (R:=R) N O Y s (by omega) d T _ ⟨UX G F P.length M B y f s t (P.length+d) (by omega) (λ h=>absurd h (by omega)), λ i E=>UZ G F P.length M B y f s t (P.length+i) (by omega) (z _ (by omega) (by omega) (by omega)),by omega,rfl⟩
 simp only [dA m,dx m]
 exact g
omit F in
theorem alC (bo:M≠[]) {R:List (List ar)} {l:List aa} [br l]:a2 ab G (aU (ao 75) 0) ku (a5 2) (.exit 0) (fun q=>(5,bq q.a 1 l)::o7 M M.length (dT M) q) (fun q=>a8 q.a 1 l++[(q.b,⟨R.map aj,1,false⟩)]) (fun q=>[(5,bq q.a 1 l),(4, .ai q.b 1 0 M.length false)]) (fun q=>a8 q.a 1 l++[(q.b,⟨R.map aj,1,false⟩)]) :=
 kT (A:=o7 M M.length (dT M)) (B:=fun q=>[(4, .ai q.b 1 0 M.length false)]) (bZ:=fun q=>[(q.b,⟨R.map aj,1,false⟩)]) (ct:=fun q=>[(q.b,⟨R.map aj,1,false⟩)]) aG [hc (qA G bo),hb 16 (kM (a4 (dT M)))]
def CD (c:M≠[]) (f:bw K n w M) (i:M.length<=9000) (s:w<=9000) {j:Nat} (p:(bI M).2.length<=j) (m:bO K q (grow K j n)):ag ab G 75 [az M] (.aS [az (bI M).1,bW (bI M).2]):=by
 have u:=jG f c
 have g:M.map aj≠[] := λ e=>c (eN.1 e)
 have H:=mz f
 have o:=(alC G c (R:=(bI M).1) (l:=(bI M).2.map ak)).adY (by rw [aM];exact H.len.symm) (λ e d=>by obtain ⟨x,_,rfl⟩:=bn.1 d;infer_instance) (λ e d=>by obtain ⟨x,_,rfl⟩:=bn.1 d;infer_instance)
 exact bB [Sn 12 1 24 (M.map aj) M.length (aM ..) g (by rw [aM];omega),ck (ao 75) 0 2 0 (dT M) ⟨[1],[4,0],[3],[4]⟩ (λ k q=>(5,bq q.a 1 ((lB M k).2.map ak))::o7 M M.length k q) (λ k q=>a8 q.a 1 ((lB M k).2.map ak)++[(q.b,⟨(lB M k).1.map aj,1,false⟩)]) (.exit 0) (λ _=>[(5,bW (bI M).2),(4,az (bI M).1)]) (λ _=>[]) (λ k t=>acs G F c f i s p m k t) o]
def vg (g:M≠[]) (b:bw K n w M) (c:M.length<=9000) (d:w<=9000) {j:Nat} (f:(bI M).2.length<=j) (h:bO K q (grow K j n)):ag ab G 38 [az M] (ak (bI M).2.length) :=
 aO [hc (CD G F g b c d f h),hw 11 (show (((bI M).2.map ak).length:Int)=((bI M).2.length:Int) by rw [aM])]
end
end Go.Proofs.YtpcofcmencgkbaaGreat
namespace Go.aF
def M6 (f:Nat->ar):∀ (l:List Nat) (i:Nat) (x:List ar),(ni f l i x).length=x.length
 | [],_,_=>rfl
 | p::l,i,x=>by
   show (ni f l (i+1) (x.set p (f i))).length=_
   rw [M6 f l,ju]
def Vh (f:Nat->ar) (p:Nat):∀ (l:List Nat) (i:Nat) (x:List ar),ni f (l++[p]) i x=(ni f l i x).set p (f (i+l.length))
 | [],i,x=>rfl
 | a::l,i,x=>by
   show ni f (l++[p]) (i+1) (x.set a (f i))=(ni f l (i+1) (x.set a (f i))).set p (f (i+(l.length+1)))
   rw [Vh f p l,show i+1+l.length=i+(l.length+1) by omega]
def M7 {f:Nat->ar} {l:List Nat} {i:Nat} {x:List ar} (a:i<l.length):(ni f (l.take i) 0 x).set l[i] (f i)=ni f (l.take (i+1)) 0 x:=by
 rw [iH a,Vh,cZ,Nat.zero_add,jv (by omega)]
end Go.aF
namespace Go.Proofs.YtpcofcmencgkbaaGreat
def ahY (G:Nat->Option (List aa)):ag ab G 75 [az []] (.aS [az [],bW []]) :=
 bQ aY [hc (ahJ G)] [] (.aS [.dQ 1 [], .aq]) (by kernel_rfl) (λ σ _=>View.aS (cp (View.DD 1) (cp (fi 1) c9.nil)))
def akd {M:List (List ar)} {K:cT} {n w:Nat} (a:bw K n w M):∀ p∈(bI M).2,p<dT M:=(mz a).lt
section
variable (G:Nat->Option (List aa)) {K:cT} {q e r:Nat} (F:gG K q e r) {n w:Nat} {M:List (List ar)}
noncomputable abbrev tN (M:List (List ar)) (b:List ar) (c i:Nat):List (Nat × aa):=[(0,az M),(1,aj b),(6,ak c),(8,ak i)]
def Nl (b:List ar) (c i:Nat) (d:i<b.length) (g:b.length<=9000):a2 ab G (aU (ao 48) 0) (ao 48).aK (a5 0) .normal (λ q=>(7,bq q.a 1 (((b.take i).map λ x=>[x]).map aj))::tN M b c i) (λ q=>a8 q.a 1 (((b.take i).map λ x=>[x]).map aj)++[]) (λ q=>(7,bq q.a 1 (((b.take (i+1)).map λ x=>[x]).map aj))::tN M b c (i+1)) (λ q=>a8 q.a 1 (((b.take (i+1)).map λ x=>[x]).map aj)++[]):=by
 rw [iH d,dU,dU,ic,ic]
 exact Fo (key:=28) (kQ:=1) (row:=[(b[i]).T]) (A:=tN M b c i) (B:=tN M b c (i+1)) rfl (by rw [aM,aM,cZ];omega) 10 ⟨[11,0],[9,0],[3],[4]⟩ (λ x=>[bm 18 aT d,aQ 24 2 aT d]++x++[a9 20 i])
noncomputable abbrev Ix (R:List (List ar)) (P:List Nat) (c i:Nat):List (Nat × aa):=[(9,az R),(10,bW P),(6,ak c),(12,ak i)]
noncomputable abbrev mG (R:List (List ar)) (P:List Nat) (c:Nat) (i:Nat):List ar:=ni (λ i=>(R.getD i []).getD c (a6 0)) (P.take i) 0 (eM c none)
def Wn {R:List (List ar)} {P:List Nat} {c i:Nat}:(mG R P c i).length=c:=by unfold mG;rw [M6,nw]
def amZ (R:List (List ar)) (P:List Nat) (c i:Nat) (d:i<P.length) (t:P.length<=9000) (m:∀ p∈P,p<c) (u:P.length<=R.length) (l:∀ x∈R,c<x.length):a2 ab G (aU (ao 48) 1) (ao 48).aK (a5 0) .normal (λ q=>(11, .ai q.a 2 0 ((eM c none).map aT).length false)::Ix R P c i) (λ q=>[(q.a,⟨(mG R P c i).map aT,2,false⟩)]) (λ q=>(11, .ai q.a 2 0 ((eM c none).map aT).length false)::Ix R P c (i+1)) (λ q=>[(q.a,⟨(mG R P c (i+1)).map aT,2,false⟩)]):=by
 have b:i<R.length:=by omega
 have j:=l _ (bc b)
 have h:=m _ (bc d)
 have es:(mG R P c i).set P[i] ((R[i])[c])=mG R P c (i+1):=by
   have:=M7 (f := λ i=>(R.getD i []).getD c (a6 0)) (x:=eM c none) d
   rw [bj b,bj j] at this
   exact this
 have o:P[i]<(mG R P c i).length:=by rw [Wn];exact h
 have g:P[i]<((eM c none).map aT).length:=by rw [aM,nw];exact h
 generalize mG R P c (i+1)=qi at *
 generalize mG R P c i=X at *
 exact aW aG [bm 45 ak d,aQ 51 1 ak d,aQ 55 1 aj b,aQ 58 2 aT j,dM 60 2 [1] false ((eM c none).map aT).length P[i] g,nX 60 2 [1] 2 aT X P[i] ((R[i])[c]) qi es o,a9 47 i]
include F in
theorem ah3 {b:List ar} (bo:M≠[]) (hm:bw K n w M) (w0:0<w) (hb:cv K n b) (hl:M.length=b.length) (gy:M.length<=9000) (ca:w<9000) {j:Nat} (hj:(bI (dH M (b.map fun x=>[x]))).2.length<=j) (hB:bO K q (grow K j n)):∃ o,ag ab G 48 [az M,aj b] (.aS [aj ((oa M b).getD []), .bool o]):=by
 have qn:=jG hm bo
 have aem:bw K n 1 (b.map fun x=>[x]):=fun r hr=>by
   obtain ⟨x,hx,rfl⟩:=bn.1 hr
   exact ⟨rfl,fun y hy=>by rw [bJ.1 hy];exact hb x hx⟩
 have hC:=uM hm aem
 have G3:(dH M (b.map fun x=>[x])).length=M.length:=by unfold dH;rw [k0,aM];omega
 have xb:dH M (b.map fun x=>[x])≠[]:=fun e=>bo (sP (by rw [<- G3,e];rfl))
 have yG:=Me G (A:=M) (B:=b.map fun x=>[x]) (by rw [aM];exact hl) gy (fun r hr=>⟨fun e=>by have:=(hm r hr).1;rw [e] at this;simp at this;omega,by rw [(hm r hr).1];omega⟩) (fun r hr=>by obtain ⟨x,_,rfl⟩:=bn.1 hr;exact ⟨by simp,by simp⟩)
 have zY:=CD G F xb hC (by omega) (by omega) hj hB
 have H:=mz hC
 have hlt:=akd hC
 rw [jG hC xb] at hlt
 have tx:a2 ab G (aU (ao 48) 0) (ao 48).aK (a5 0) (.exit 0) (fun q=>(7,bq q.a 1 (((b.take b.length).map fun x=>[x]).map aj))::tN M b w b.length) (fun q=>a8 q.a 1 (((b.take b.length).map fun x=>[x]).map aj)++[]) (fun _=>(7,az (b.map fun x=>[x]))::[(0,az M),(6,ak w)]) (fun _=>[]):=by
   rw [gn]
   exact (kT (A:=fun _=>tN M b w b.length) (B:=fun _=>[(0,az M),(6,ak w)]) (bZ:=fun _=>[]) (ct:=fun _=>[]) aG [cx 18 aT b]).rH fun e he=>by obtain ⟨x,_,rfl⟩:=bn.1 he;infer_instance
 have aqz:aZ ab G:=ck (ao 48) 0 0 0 b.length aG (fun i q=>(7,bq q.a 1 (((b.take i).map fun x=>[x]).map aj))::tN M b w i) (fun i q=>a8 q.a 1 (((b.take i).map fun x=>[x]).map aj)++[]) (.exit 0) (fun _=>(7,az (b.map fun x=>[x]))::[(0,az M),(6,ak w)]) (fun _=>[]) (fun i hi=>Nl G b w i hi (by omega)) tx
 have n4:=qA G bo
 rw [qn] at n4
 by_cases hn:w∈(bI (dH M (b.map fun x=>[x]))).2
 . have es:oa M b=none:=by
     unfold oa
     simp only
     rw [if_pos (by rw [qn];exact pq.2 hn)]
   obtain ⟨i,hp⟩:=TX G hn (by have:=H.pl;omega)
   rw [es]
   refine ⟨false, ?_⟩
   have key:ag ab G 48 [az M,aj b] (.aS [aj [], .bool false]) :=
     ag.pc aY [hc n4,ck (ao 48) 0 0 0 b.length aG (fun i q=>(7,bq q.a 1 (((b.take i).map fun x=>[x]).map aj))::tN M b w i) (fun i q=>a8 q.a 1 (((b.take i).map fun x=>[x]).map aj)++[]) (.exit 0) (fun _=>(7,az (b.map fun x=>[x]))::[(0,az M),(6,ak w)]) (fun _=>[]) (fun i hi=>Nl G b w i hi (by omega)) tx,hc yG,hc zY,hc hp,fh 39 (show decide ((i:Int)≥0)=true from decide_eq_true (by omega))] [] (.aS [.aq, .bool false]) (by kernel_rfl) rfl rfl gm (fun σ _=>View.aS (cp (fi 2) (cp (View.pure bg.pure) c9.nil)))
   exact key
 . have es:oa M b=some (mG (bI (dH M (b.map fun x=>[x]))).1 (bI (dH M (b.map fun x=>[x]))).2 w (bI (dH M (b.map fun x=>[x]))).2.length):=by
     unfold oa mG
     simp only
     rw [if_neg (by rw [qn];exact fun h=>hn (pq.1 h)),qn,gn]
   rw [es]
   refine ⟨true, ?_⟩
   have hp:=Mk G hn (by have:=H.pl;omega)
   have hu:=Hj G w0 (by omega) none
   have aq5:=H.pl
   have LD:=H.qB
   have hlen:=H.len
   generalize (bI (dH M (b.map fun x=>[x]))).1=R at *
   generalize (bI (dH M (b.map fun x=>[x]))).2=P at *
   have oJ:∀ p∈P,p<w:=fun p hp=>by
     have:=hlt p hp
     have:p≠w:=fun e=>hn (e▸hp)
     omega
   have SF:((eM w none).map aT).length=((mG R P w P.length).map aT).length:=by rw [aM,aM,nw,Wn]
   have hY:a2 ab G (aU (ao 48) 1) (ao 48).aK (a5 0) (.exit 2) (fun q=>(11, .ai q.a 2 0 ((eM w none).map aT).length false)::Ix R P w P.length) (fun q=>[(q.a,⟨(mG R P w P.length).map aT,2,false⟩)]) (fun _=>(11,aj (mG R P w P.length))::[]) (fun _=>[]) :=
     a2.adW (t:=false) (B:=[]) (aW aG [cx 45 ak P]) SF fun e he=>by obtain ⟨x,_,rfl⟩:=bn.1 he;infer_instance
   exact bB [hc n4,ck (ao 48) 0 0 0 b.length aG (fun i q=>(7,bq q.a 1 (((b.take i).map fun x=>[x]).map aj))::tN M b w i) (fun i q=>a8 q.a 1 (((b.take i).map fun x=>[x]).map aj)++[]) (.exit 0) (fun _=>(7,az (b.map fun x=>[x]))::[(0,az M),(6,ak w)]) (fun _=>[]) (fun i hi=>Nl G b w i hi (by omega)) tx,hc yG,hc zY,hc hp,dc hu,
     ck (ao 48) 1 0 1 P.length ⟨[2000000,2000018,0],[2],[3],[4]⟩ (fun i q=>(11, .ai q.a 2 0 ((eM w none).map aT).length false)::Ix R P w i) (fun i q=>[(q.a,⟨(mG R P w i).map aT,2,false⟩)]) (.exit 2) (fun _=>(11,aj (mG R P w P.length))::[]) (fun _=>[]) (fun i hi=>amZ G R P w i hi (by omega) oJ (by omega) (fun x hx=>by rw [(LD x hx).1];omega)) hY] (by kernel_rfl)
noncomputable abbrev GZ (M R:List (List ar)) (i:Nat):List (Nat × aa):=[(0,az M),(3,az R),(6,ak i)]
def Wo {c:Nat} {es:List aa} {lo:Nat} (h:lo<=es.length):iq c (.sl c es) (some (.int .i64 (lo:Int))) none none=some (.sl c (es.drop lo)):=by
 have a:iD es.length (some (.int .i64 (lo:Int))) none=some (lo,es.length):=by
   unfold iD kz
   simp only [Int.toNat_natCast]
   rw [if_pos ⟨by omega,by omega⟩]
 unfold iq
 simp only [a]
 rw [if_pos trivial]
 simp
def ahQ:ag ab G 76 [az []] (az (nZ [])):=by
 have b:=Me G (A:=[]) (B:=[]) rfl (by decide) (λ r h=>(cX h).elim) (λ r h=>(cX h).elim)
 exact ag.pc aY [hc (Mh G 0 (by decide)),hc b,hc (ahY G)] [] .aq (by kernel_rfl) rfl rfl gm (λ σ _=>fi 1)
include F in
theorem ahP (bo:M≠[]) (hm:bw K n w M) (w0:0<w) (gy:M.length<=4000) (ca:w<=4000) {j:Nat} (hj:(bI (dH M (jK M.length))).2.length<=j) (hB:bO K q (grow K j n)):ag ab G 76 [az M] (az (nZ M)):=by
 have hI:=zg (K:=K) (n:=n) M.length
 have hC:=uM hm hI
 have G3:(dH M (jK M.length)).length=M.length:=by unfold dH;rw [k0,wV,Nat.min_self]
 have zr:0<M.length:=hO.2 bo
 have xb:dH M (jK M.length)≠[]:=fun e=>bo (sP (by rw [<- G3,e];rfl))
 have yG:=Me G (A:=M) (B:=jK M.length) (by rw [wV]) (by omega) (fun r hr=>⟨fun e=>by have:=(hm r hr).1;rw [e] at this;simp at this;omega,by rw [(hm r hr).1];omega⟩) (fun r hr=>⟨fun e=>by have:=(hI r hr).1;rw [e] at this;simp at this;omega,by rw [(hI r hr).1];omega⟩)
 have zY:=CD G F xb hC (by omega) (by omega) hj hB
 have H:=mz hC
 have hlen:=H.len
 have LD:=H.qB
 have dz:=Mh G M.length (by omega)
 have el:(nZ M)=(bI (dH M (jK M.length))).1.map fun r:List ar=>r.drop M.length:=rfl
 rw [el]
 generalize (bI (dH M (jK M.length))).1=R at *
 refine bB [hw 10 (show (((M.map aj).length:Nat):Int)=(M.length:Int) by rw [aM]),hc dz,hc yG,hc zY,ck (ao 76) 0 0 0 R.length aG (fun i q=>(5,bq q.a 1 (((R.take i).map fun r:List ar=>r.drop M.length).map aj))::GZ M R i) (fun i q=>a8 q.a 1 (((R.take i).map fun r:List ar=>r.drop M.length).map aj)++[]) (.exit 0) (fun _=>[(5,az (R.map fun r:List ar=>r.drop M.length))]) (fun _=>[]) (fun i hi => ?_) ?_] (by kernel_rfl)
 . have hx:=LD _ (bc hi)
   rw [iH hi,dU,dU,ic,ic]
   have adt:aj ((R[i]).drop M.length) = .sl 2 (((R[i]).drop M.length).map aT):=rfl
   have hl:((R[i]).drop M.length).length=w:=by rw [l0,hx.1];omega
   have GM:=Wo (c:=2) (es:=(R[i]).map aT) (lo:=M.length) (by rw [aM,hx.1];omega)
   rw [<- List.map_drop] at GM
   have aiL:((R[i]).drop M.length).map aT≠[]:=fun e=>by
     have:=congrArg List.length e
     rw [aM,hl,jB] at this
     omega
   rw [adt]
   exact Fo (key:=33) (kQ:=(((R[i]).drop M.length).map aT).length) (A:=GZ M R i) (B:=GZ M R (i+1)) rfl (by rw [aM,aM,cZ];omega) 14 ⟨[15,0],[13,0],[3],[4]⟩ (fun x=>[bm 19 aj hi,aQ 26 1 aj hi,hw 29 (show (((M.map aj).length:Nat):Int)=(M.length:Int) by rw [aM]),ho 30 GM,mj 31 2 48 (((R[i]).drop M.length).map aT) aiL (by rw [aM,hl];omega)]++x++[a9 21 i])
 . rw [gn]
   exact (kT (A:=fun _=>GZ M R R.length) (B:=fun _=>[]) (bZ:=fun _=>[]) (ct:=fun _=>[]) aG [cx 19 aj R]).rH (B:=[]) fun e he=>by obtain ⟨x,_,rfl⟩:=bn.1 he;infer_instance
end
end Go.Proofs.YtpcofcmencgkbaaGreat
