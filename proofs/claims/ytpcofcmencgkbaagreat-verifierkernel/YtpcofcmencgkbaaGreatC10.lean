/- For the claim of VerifierKernel: parts XTV, XTW, MXD, XTY, MXE, XU2, XU3, XU6, LP9, XU7, LR1, LR2, LR3, LR4, LR5, LR6, LR7, LR8, LR9, MP1, LQ2, XV1, LQ3, XV2, LQ4. -/
import Derived.Test.YtpcofcmencgkbaaGreatC09
import Derived.Test.YtpcofcmencgkbaaGreatC06
import Derived.Test.YtpcofcmencgkbaaGreatC08
import Derived.Test.YtpcofcmencgkbaaGreatC05
import Derived.Test.YtpcofcmencgkbaaGreatC07
set_option linter.defProp false
set_option linter.unusedSectionVars false
set_option linter.unusedSimpArgs false
set_option linter.unusedVariables false
set_option maxRecDepth 100000
open Bool renaming false_and->tV,false_or->pS,true_and->mA,true_or->Ev
open Classical renaming byContradiction->nO
open Go.IntKind renaming i64->cO,wrap_i64->cU
open Go.Proofs.Tryz renaming prog->ab
open Go.ay renaming Id->bt,hb->cW
open Go.ay.aa renaming one->jx
open Go.ay.cj renaming kV->eB
open Go.ay.aD renaming s->a3
open Go.ay.aj renaming T->aO,o9->pT,rat->aS
open Go.ay.ax renaming ez->er
open Go.ay.dc renaming cons->bZ,nil->eT
open Int renaming natCast_mul->oF,ofNat_le->JN,toNat_natCast->nQ
open Lean.Grind.Field renaming div_eq_mul_inv->AY
open List renaming all_eq_true->dY,any_eq_false->qW,any_eq_true->yc,append_nil->pQ,contains_eq_mem->aae,eq_nil_of_length_eq_zero->AP,eq_of_mem_replicate->lR,ext_getElem->ie,filter_append->lL,findIdx?_eq_none_iff->aah,findIdx?_eq_some_iff_getElem->aag,flatten_append->aaj,foldl_append->Eu,foldl_cons->qT,getD_eq_getElem?_getD->dt,getElem?_eq_getElem->eO,getElem?_eq_none->pP,getElem?_map->kZ,getElem?_set->xL,getElem_drop->AW,getElem_map->iz,getElem_mem->bf,getElem_range->nh,getElem_set->AV,getElem_set_self->aad,length_append->cP,length_cons->gC,length_drop->m6,length_map->aQ,length_mapIdx->AU,length_pos_iff->iy,length_range->dx,length_set->kf,length_singleton->k7,length_take->gV,length_zipWith->ke,map_append->gI,map_congr_left->jR,map_drop->Px,map_eq_nil_iff->nY,map_map->jf,map_replicate->AX,map_singleton->nX,map_take->DZ,mem_cons_of_mem->cR,mem_cons_self->cp,mem_iff_getElem->gJ,mem_map->bp,mem_of_mem_take->gK,mem_range->c8,mem_singleton->cq,range->a8,range_succ->ix,replicate->bM,replicate_succ->JM,take_length->kB,take_succ_eq_append_getElem->nT,zipWith->Ex,zipWith_cons_cons->aai
open List.Sublist renaming refl->AH
open Nat renaming add_sub_cancel'->aac,add_sub_cancel_left->su,le_mul_of_pos_right->tI,le_refl->a2,le_trans->bx,lt_of_le_of_lt->gA,mul_le_mul_right->ck,not_lt_zero->fv,succ_mul->fU
open Option renaming getD_some->Ew
set_option maxHeartbeats 4000000
open Go.ay Go.Proofs Go.Lib
namespace Go.Proofs.YtpcofcmencgkbaaGreat
noncomputable abbrev j3:Nat:=(ak 75).aK
noncomputable abbrev j1(M:List (List aj))(h k top p:Nat)(q:aD):List (Nat×aa):=[(4,.ai q.b 1 0 h false),(0,aN M),(6,aA k),(7,aA top),(8,aA p)]
noncomputable abbrev l5(M:List (List aj))(h k top i:Nat)(q:aD):List (Nat×aa):=[(4,.ai q.b 1 0 h false),(0,aN M),(6,aA k),(7,aA top),(9,aA i)]
noncomputable abbrev ox(M:List (List aj))(h k:Nat)(q:aD):List (Nat×aa):=[(4,.ai q.b 1 0 h false),(0,aN M),(6,aA k)]
section
variable(G:Nat->Option (List aa)){K:bY}{q e r:Nat}(F:dN K q e r){n w h k:Nat}(top:Nat)(M:List (List aj)){R:List (List aj)}
def pM(b:bj K n w R){p:Nat}(a:p<R.length)(c:k<w):k<(R[p]).length:=by rw[(b _ (bf a)).1];exact c
include F in theorem H9(dE:bj K n w R)(kn:bm K q n){p:Nat}(hp:p<R.length)(hk:k<(R[p]).length):ag ab G 36 [((R[p])[k]).T] (.int .i64 (er ((R[p])[k]).2.val)):=Mh G F ((dE _ (bf hp)).2 _ (bf hk)) kn (c:=((R[p])[k]).bD) rfl true
def wN{p:Nat}(b:p<R.length)(a:k<(R[p]).length):((R[p])[k]).bD=((R[p]).getD k (aS 0)).bD:=by rw[a4 a]
include F in theorem Vp(dE:bj K n w R)(kn:bm K q n)(hk:k<w)(b9:R.length=h)(gN:h<=9000)(p:Nat)(hp:p<h)(z:(((R[p]' ac).getD k (aS 0)).bD)=true):bF ab G (aZ (ak 75) 1) j3 (bK 0) .normal (fun q=>(5,.aH)::j1 M h k top p q) (fun q=>[(q.b,⟨(R).map ar,1,false⟩)]) (fun q=>(5,.aH)::j1 M h k top (p+1) q) (fun q=>[(q.b,⟨(R).map ar,1,false⟩)]):=by have h8:p<R.length:=ac;rw[<-wN h8 (pM dE h8 hk)]at z;exact bn a3 [hb 25 (dv hp),cy 29 1 [2] false h p,iq 30 1 false [2] 1 ar R p (ar R[p]),aV 32 2 aO (pM dE h8 hk),hc (H9 G F dE kn h8 (pM dE h8 hk)),hb 35 (r4 z),hw 38 (I4 (i:=p) ac)]
include F in theorem Vm(dE:bj K n w R)(kn:bm K q n)(hk:k<w)(b9:R.length=h)(gN:h<=9000)(p:Nat)(hp:p<=h)(z:∀hp:p<R.length,(((R[p]).getD k (aS 0)).bD)=false):bF ab G (aZ (ak 75) 1) j3 (bK 0) (.exit 2) (fun q=>(5,.aH)::j1 M h k top p q) (fun q=>[(q.b,⟨(R).map ar,1,false⟩)]) (fun q=>(5,.aH)::j1 M h k top p q) (fun q=>[(q.b,⟨(R).map ar,1,false⟩)]):=by
 by_cases BW:p<h;.have h8:p<R.length:=ac;have z':=z h8;rw[<-wN h8 (pM dE h8 hk)]at z';exact bn a3 [hb 25 (dv BW),cy 29 1 [2] false h p,iq 30 1 false [2] 1 ar R p (ar R[p]),aV 32 2 aO (pM dE h8 hk),hc (H9 G F dE kn h8 (pM dE h8 hk)),hb 35 (r4 z')]
 .exact bn a3 [hb 25 (h7 (ac:h<=p))]
noncomputable def Hz(d:Nat)(c:bF ab G (aZ (ak 75) 1) j3 (bK 0) (.exit 2) (λ q=>(5,.aH)::j1 M h k top (top+d) q) (λ q=>[(q.b,⟨(R).map ar,1,false⟩)]) (λ q=>(5,.aH)::j1 M h k top (top+d) q) (λ q=>[(q.b,⟨(R).map ar,1,false⟩)]))(h1:∀i,i<d->bF ab G (aZ (ak 75) 1) j3 (bK 0) .normal (λ q=>(5,.aH)::j1 M h k top (top+i) q) (λ q=>[(q.b,⟨(R).map ar,1,false⟩)]) (λ q=>(5,.aH)::j1 M h k top (top+(i+1)) q) (λ q=>[(q.b,⟨(R).map ar,1,false⟩)]))(hd:d<=9000):aR ab G:=fQ (ak 75) 1 0 0 d a3 (λ i q=>(5,.aH)::j1 M h k top (top+i) q) (λ _ q=>[(q.b,⟨R.map ar,1,false⟩)]) (.exit 2) (λ q=>(5,.aH)::j1 M h k top (top+d) q) (λ q=>[(q.b,⟨(R).map ar,1,false⟩)]) h1 c
include F in theorem agi{m:Nat}{row:List aj}(dE:∀j(hj:j<R.length),j≠top->(R[j]).length=w/\dn K n R[j])(oh:row.length=w/\dn K m row)(ht:top<R.length)(yL:R[top]=row)(kn:bm K q n)(yz:bm K q m)(yA:bm K q (m+n+K.c))(hk:k<w)(b9:R.length=h)(gN:h<=9000)(cx:w<=9000)(i:Nat)(hi:i<h):bF ab G (aZ (ak 75) 2) j3 (bK 0) .normal (fun q=>(5,.aH)::l5 M h k top i q) (fun q=>[(q.b,⟨(fq (eW top k row) i R).map ar,1,false⟩)]) (fun q=>(5,.aH)::l5 M h k top (i+1) q) (fun q=>[(q.b,⟨(fq (eW top k row) (i+1) R).map ar,1,false⟩)]):=by
 have fy:i<R.length:=ac;have wS:(fq (eW top k row) i R).length=h:=by rw[se,b9]
 have Lx:i<(fq (eW top k row) i R).length:=ac;have LI:top<(fq (eW top k row) i R).length:=by rw[se];exact ht
 have mJ:(fq (eW top k row) i R)[i]=R[i]:=Oh fy (a2 _) Lx;have gt:(fq (eW top k row) i R)[top]=row:=(X2 ht (Fv rfl _) LI).trans yL;have us:=Oi (f:=eW top k row) fy;by_cases e:i=top
 . have ef:eW top k row i R[i]=R[i]:=Fv e _;rw[IC fy ef];have hne:((i:Int)!=(top:Int))=false:=by rw[e];exact bne_self_eq_false _
   exact bn a3 [hb 75 (dv hi),hb 80 hne,bh 77 i]
 . have hne:((i:Int)!=(top:Int))=true:=bne_iff_ne.2 ac;have afG:(i !=top)=true:=bne_iff_ne.2 e;obtain⟨jv,g1⟩:=dE i fy e
   have ir:k<(R[i]).length:=ac;have hY:=Mh G F (g1 _ (bf ir)) kn (c:=((R[i])[k]).bD) rfl true;have BA:=wN fy ir;cases z:((R[i])[k]).bD with|true=>
     have ef:eW top k row i R[i]=R[i]:=Q1 (by rw[<-BA];exact z);rw[IC fy ef];generalize fq (eW top k row) i R=S at*;rw[<-mJ]at ir;have xr:ag ab G 36 [((S[i])[k]).T] (.int .i64 (er ((S[i])[k]).2.val)):=by simp only[mJ];exact hY
     have z':((S[i])[k]).bD=true:=by simp only[mJ];exact z
     exact bn a3 [hb 75 (dv hi),hb 80 hne,cy 84 1 [2] false h i,iq 85 1 false [2] 1 ar S i (ar S[i]),aV 87 2 aO ir,hc xr,hb 90 (nJ z'),bh 77 i]|false=>
     have ef:eW top k row i R[i]=g5 R[i] row (R[i])[k]:=by rw[Q0 (by rw[<-BA];exact z) e,a4 ir]
     rw[ef]at us;have rT:=Ud G F (a:=R[i]) (b:=row) (x:=(R[i])[k]) ac ac g1 oh.2 (g1 _ (bf ir)) kn yz kn yA;generalize fq (eW top k row) (i+1) R=sE at*;generalize fq (eW top k row) i R=S at*;rw[<-mJ]at ir;have xr:ag ab G 36 [((S[i])[k]).T] (.int .i64 (er ((S[i])[k]).2.val)):=by simp only[mJ];exact hY
     have z':((S[i])[k]).bD=false:=by simp only[mJ];exact z
     have Mp:ag ab G 120 [ar S[i],ar S[top],((S[i])[k]).T] (ar (g5 R[i] row (R[i])[k])):=by simp only[mJ,gt];exact rT
     exact bn a3 [hb 75 (dv hi),hb 80 hne,cy 84 1 [2] false h i,iq 85 1 false [2] 1 ar S i (ar S[i]),aV 87 2 aO ir,hc xr,hb 90 (nJ z'),cy 96 1 [2] false h i,iq 97 1 false [2] 1 ar S i (ar S[i]),cy 100 1 [2] false h top,iq 101 1 false [2] 1 ar S top (ar S[top]),cy 104 1 [2] false h i,iq 105 1 false [2] 1 ar S i (ar S[i]),aV 107 2 aO ir,hc Mp,cy 110 1 [2] false h i,p9 110 1 [2] 1 ar S i (g5 R[i] row (R[i])[k]) sE us,bh 77 i]
def agd{S:List (List aj)}:bF ab G (aZ (ak 75) 2) j3 (bK 0) (.exit 4) (λ q=>(5,.aH)::l5 M h k top h q) (λ q=>[(q.b,⟨(S).map ar,1,false⟩)]) (λ q=>(5,.aH)::l5 M h k top h q) (λ q=>[(q.b,⟨(S).map ar,1,false⟩)]):=bn a3 [hb 75 (h7 (a2 h))]
noncomputable def Td(S:Nat->List (List aj))(h1:∀i,i<h->bF ab G (aZ (ak 75) 2) j3 (bK 0) .normal (λ q=>(5,.aH)::l5 M h k top i q) (λ q=>[(q.b,⟨(S i).map ar,1,false⟩)]) (λ q=>(5,.aH)::l5 M h k top (i+1) q) (λ q=>[(q.b,⟨(S (i+1)).map ar,1,false⟩)]))(c:h<=9000):aR ab G:=fQ (ak 75) 2 0 1 h ⟨[1],[2000001,0],[3],[4]⟩ (λ i q=>(5,.aH)::l5 M h k top i q) (λ i q=>[(q.b,⟨(S i).map ar,1,false⟩)]) (.exit 4) (λ q=>(5,.aH)::l5 M h k top h q) (λ q=>[(q.b,⟨(S h).map ar,1,false⟩)]) h1 (agd G top M)
def acj(i:top=0)(l:M≠[])(j:k<eJ M)(p:R.length=h)(o:k<9000)(d:Nat)(hd:top+d=h)(m:aR ab G)(c:∃f h1 hd,m=Hz G top M (R:=R) (h:=h) (k:=k) d f h1 hd):bF ab G (aZ (ak 75) 0) j3 (bK 2) .normal (λ q=>(5,.aH)::ox M h k q) (λ q=>[(q.b,⟨(R).map ar,1,false⟩)]) (λ q=>(5,.aH)::ox M h (k+1) q) (λ q=>[(q.b,⟨(R).map ar,1,false⟩)]):=by obtain⟨f,h1,g,rfl⟩:=c;exact bn ⟨[1],[2000001,0],[3],[4]⟩ [hc (tf G l),hb 16 (dv j),hw 20 (ac:(0:Int)=(top:Int)),Hz G top M d f h1 g,hb 42 (show(((top+d:Nat):Int)==(h:Int))=true by rw[hd];exact beq_self_eq_true _),bh 18 k]
def ach(p:top=0)(z:M≠[])(A:k<eJ M)(E:R.length=h)(H:k<9000)(d:Nat)(hd:top+d<h)(u C:aR ab G){f cv s:List (List aj)}{row:List aj}(S:Nat->List (List aj))(o:∃j h1 hd,u=Hz G top M (R:=R) (h:=h) (k:=k) d j h1 hd)(i:∃h1 l,C=Td G top M (h:=h) (k:=k) S h1 l)(s0:R.set top (R[top+d]' ac)=f)(x:f.set (top+d) (R[top]' ac)=cv)(I:f.length=h)(J:cv.length=h)(m:k<(cv[top]' ac).length)(y:ag ab G 119 [ar (cv[top]' ac),((cv[top]' ac)[k]).T] (ar row))(v:cv.set top row=s)(t:S 0=s):bF ab G (aZ (ak 75) 0) j3 (bK 2) .normal (λ q=>(5,.aH)::ox M h k q) (λ q=>[(q.b,⟨(R).map ar,1,false⟩)]) (λ q=>(5,.ai q.a 1 0 1 false)::ox M h (k+1) q) (λ q=>[(q.a,⟨[aA k],1,false⟩),(q.b,⟨(S h).map ar,1,false⟩)]):=by obtain⟨j,h1,g,rfl⟩:=o;obtain⟨D,l,rfl⟩:=i;subst t;have B:(((top+d:Nat):Int)==(h:Int))=false:=beq_eq_false_iff_ne.2 ac;exact bn ⟨[4000007,0],[4000001,0],[3],[4]⟩ [hc (tf G z),hb 16 (dv A),hw 20 (ac:(0:Int)=(top:Int)),Hz G top M d j h1 g,hb 42 B,cy 49 1 [2000001,0] false h (top+d),iq 50 1 false [2000001,0] 1 ar R (top+d) (ar (R[top+d]' ac)),cy 53 1 [2000001,0] false h top,iq 54 1 false [2000001,0] 1 ar R top (ar (R[top]' ac)),cy 55 1 [2000001,0] false h top,p9 55 1 [2000001,0] 1 ar R top (R[top+d]' ac) f s0,cy 56 1 [2000001,0] false h (top+d),p9 56 1 [2000001,0] 1 ar f (top+d) (R[top]' ac) cv x,cy 61 1 [2000001,0] false h top,iq 62 1 false [2000001,0] 1 ar cv top (ar (cv[top]' ac)),cy 65 1 [2000001,0] false h top,iq 66 1 false [2000001,0] 1 ar cv top (ar (cv[top]' ac)),aV 68 2 aO m,hc y,cy 71 1 [2000001,0] false h top,p9 71 1 [2000001,0] 1 ar cv top row (S 0) v,Td G top M S D l,bh 18 k]
include F in theorem Vq{l:List aa}[bq l][dw 1 l](dE:bj K n w R)(kn:bm K q n)(hk:k<w)(b9:R.length=h)(gN:h<=9000)(p:Nat)(hp:p<h)(z:(((R[p]' ac).getD k (aS 0)).bD)=true):bF ab G (aZ (ak 75) 1) j3 (bK 0) .normal (fun q=>(5,.ai q.a 1 0 l.length false)::j1 M h k top p q) (fun q=>[(q.a,⟨l,1,false⟩),(q.b,⟨(R).map ar,1,false⟩)]) (fun q=>(5,.ai q.a 1 0 l.length false)::j1 M h k top (p+1) q) (fun q=>[(q.a,⟨l,1,false⟩),(q.b,⟨(R).map ar,1,false⟩)]):=by have h8:p<R.length:=ac;rw[<-wN h8 (pM dE h8 hk)]at z;exact bn a3 [hb 25 (dv hp),cy 29 1 [2] false h p,iq 30 1 false [2] 1 ar R p (ar R[p]),aV 32 2 aO (pM dE h8 hk),hc (H9 G F dE kn h8 (pM dE h8 hk)),hb 35 (r4 z),hw 38 (I4 (i:=p) ac)]
include F in theorem Vn{l:List aa}[bq l][dw 1 l](dE:bj K n w R)(kn:bm K q n)(hk:k<w)(b9:R.length=h)(gN:h<=9000)(p:Nat)(hp:p<=h)(z:∀hp:p<R.length,(((R[p]).getD k (aS 0)).bD)=false):bF ab G (aZ (ak 75) 1) j3 (bK 0) (.exit 2) (fun q=>(5,.ai q.a 1 0 l.length false)::j1 M h k top p q) (fun q=>[(q.a,⟨l,1,false⟩),(q.b,⟨(R).map ar,1,false⟩)]) (fun q=>(5,.ai q.a 1 0 l.length false)::j1 M h k top p q) (fun q=>[(q.a,⟨l,1,false⟩),(q.b,⟨(R).map ar,1,false⟩)]):=by
 by_cases BW:p<h;.have h8:p<R.length:=ac;have z':=z h8;rw[<-wN h8 (pM dE h8 hk)]at z';exact bn a3 [hb 25 (dv BW),cy 29 1 [2] false h p,iq 30 1 false [2] 1 ar R p (ar R[p]),aV 32 2 aO (pM dE h8 hk),hc (H9 G F dE kn h8 (pM dE h8 hk)),hb 35 (r4 z')]
 .exact bn a3 [hb 25 (h7 (ac:h<=p))]
noncomputable def HA{l:List aa}[bq l][dw 1 l](d:Nat)(f:bF ab G (aZ (ak 75) 1) j3 (bK 0) (.exit 2) (λ q=>(5,.ai q.a 1 0 l.length false)::j1 M h k top (top+d) q) (λ q=>[(q.a,⟨l,1,false⟩),(q.b,⟨(R).map ar,1,false⟩)]) (λ q=>(5,.ai q.a 1 0 l.length false)::j1 M h k top (top+d) q) (λ q=>[(q.a,⟨l,1,false⟩),(q.b,⟨(R).map ar,1,false⟩)]))(h1:∀i,i<d->bF ab G (aZ (ak 75) 1) j3 (bK 0) .normal (λ q=>(5,.ai q.a 1 0 l.length false)::j1 M h k top (top+i) q) (λ q=>[(q.a,⟨l,1,false⟩),(q.b,⟨(R).map ar,1,false⟩)]) (λ q=>(5,.ai q.a 1 0 l.length false)::j1 M h k top (top+(i+1)) q) (λ q=>[(q.a,⟨l,1,false⟩),(q.b,⟨(R).map ar,1,false⟩)]))(hd:d<=9000):aR ab G:=fQ (ak 75) 1 0 0 d a3 (λ i q=>(5,.ai q.a 1 0 l.length false)::j1 M h k top (top+i) q) (λ _ q=>[(q.a,⟨l,1,false⟩),(q.b,⟨R.map ar,1,false⟩)]) (.exit 2) (λ q=>(5,.ai q.a 1 0 l.length false)::j1 M h k top (top+d) q) (λ q=>[(q.a,⟨l,1,false⟩),(q.b,⟨(R).map ar,1,false⟩)]) h1 f
include F in theorem agj{l:List aa}[bq l][dw 1 l]{m:Nat}{row:List aj}(dE:∀j(hj:j<R.length),j≠top->(R[j]).length=w/\dn K n R[j])(oh:row.length=w/\dn K m row)(ht:top<R.length)(yL:R[top]=row)(kn:bm K q n)(yz:bm K q m)(yA:bm K q (m+n+K.c))(hk:k<w)(b9:R.length=h)(gN:h<=9000)(cx:w<=9000)(i:Nat)(hi:i<h):bF ab G (aZ (ak 75) 2) j3 (bK 0) .normal (fun q=>(5,.ai q.a 1 0 l.length false)::l5 M h k top i q) (fun q=>[(q.a,⟨l,1,false⟩),(q.b,⟨(fq (eW top k row) i R).map ar,1,false⟩)]) (fun q=>(5,.ai q.a 1 0 l.length false)::l5 M h k top (i+1) q) (fun q=>[(q.a,⟨l,1,false⟩),(q.b,⟨(fq (eW top k row) (i+1) R).map ar,1,false⟩)]):=by
 have fy:i<R.length:=ac;have wS:(fq (eW top k row) i R).length=h:=by rw[se,b9]
 have Lx:i<(fq (eW top k row) i R).length:=ac;have LI:top<(fq (eW top k row) i R).length:=by rw[se];exact ht
 have mJ:(fq (eW top k row) i R)[i]=R[i]:=Oh fy (a2 _) Lx;have gt:(fq (eW top k row) i R)[top]=row:=(X2 ht (Fv rfl _) LI).trans yL;have us:=Oi (f:=eW top k row) fy;by_cases e:i=top
 . have ef:eW top k row i R[i]=R[i]:=Fv e _;rw[IC fy ef];have hne:((i:Int)!=(top:Int))=false:=by rw[e];exact bne_self_eq_false _
   exact bn a3 [hb 75 (dv hi),hb 80 hne,bh 77 i]
 . have hne:((i:Int)!=(top:Int))=true:=bne_iff_ne.2 ac;have afG:(i !=top)=true:=bne_iff_ne.2 e;obtain⟨jv,g1⟩:=dE i fy e
   have ir:k<(R[i]).length:=ac;have hY:=Mh G F (g1 _ (bf ir)) kn (c:=((R[i])[k]).bD) rfl true;have BA:=wN fy ir;cases z:((R[i])[k]).bD with|true=>
     have ef:eW top k row i R[i]=R[i]:=Q1 (by rw[<-BA];exact z);rw[IC fy ef];generalize fq (eW top k row) i R=S at*;rw[<-mJ]at ir;have xr:ag ab G 36 [((S[i])[k]).T] (.int .i64 (er ((S[i])[k]).2.val)):=by simp only[mJ];exact hY
     have z':((S[i])[k]).bD=true:=by simp only[mJ];exact z
     exact bn a3 [hb 75 (dv hi),hb 80 hne,cy 84 1 [2] false h i,iq 85 1 false [2] 1 ar S i (ar S[i]),aV 87 2 aO ir,hc xr,hb 90 (nJ z'),bh 77 i]|false=>
     have ef:eW top k row i R[i]=g5 R[i] row (R[i])[k]:=by rw[Q0 (by rw[<-BA];exact z) e,a4 ir]
     rw[ef]at us;have rT:=Ud G F (a:=R[i]) (b:=row) (x:=(R[i])[k]) ac ac g1 oh.2 (g1 _ (bf ir)) kn yz kn yA;generalize fq (eW top k row) (i+1) R=sE at*;generalize fq (eW top k row) i R=S at*;rw[<-mJ]at ir;have xr:ag ab G 36 [((S[i])[k]).T] (.int .i64 (er ((S[i])[k]).2.val)):=by simp only[mJ];exact hY
     have z':((S[i])[k]).bD=false:=by simp only[mJ];exact z
     have Mp:ag ab G 120 [ar S[i],ar S[top],((S[i])[k]).T] (ar (g5 R[i] row (R[i])[k])):=by simp only[mJ,gt];exact rT
     exact bn a3 [hb 75 (dv hi),hb 80 hne,cy 84 1 [2] false h i,iq 85 1 false [2] 1 ar S i (ar S[i]),aV 87 2 aO ir,hc xr,hb 90 (nJ z'),cy 96 1 [2] false h i,iq 97 1 false [2] 1 ar S i (ar S[i]),cy 100 1 [2] false h top,iq 101 1 false [2] 1 ar S top (ar S[top]),cy 104 1 [2] false h i,iq 105 1 false [2] 1 ar S i (ar S[i]),aV 107 2 aO ir,hc Mp,cy 110 1 [2] false h i,p9 110 1 [2] 1 ar S i (g5 R[i] row (R[i])[k]) sE us,bh 77 i]
def age{l:List aa}[bq l][dw 1 l]{S:List (List aj)}:bF ab G (aZ (ak 75) 2) j3 (bK 0) (.exit 4) (λ q=>(5,.ai q.a 1 0 l.length false)::l5 M h k top h q) (λ q=>[(q.a,⟨l,1,false⟩),(q.b,⟨(S).map ar,1,false⟩)]) (λ q=>(5,.ai q.a 1 0 l.length false)::l5 M h k top h q) (λ q=>[(q.a,⟨l,1,false⟩),(q.b,⟨(S).map ar,1,false⟩)]):=bn a3 [hb 75 (h7 (a2 h))]
noncomputable def Te{l:List aa}[bq l][dw 1 l](S:Nat->List (List aj))(h1:∀i,i<h->bF ab G (aZ (ak 75) 2) j3 (bK 0) .normal (λ q=>(5,.ai q.a 1 0 l.length false)::l5 M h k top i q) (λ q=>[(q.a,⟨l,1,false⟩),(q.b,⟨(S i).map ar,1,false⟩)]) (λ q=>(5,.ai q.a 1 0 l.length false)::l5 M h k top (i+1) q) (λ q=>[(q.a,⟨l,1,false⟩),(q.b,⟨(S (i+1)).map ar,1,false⟩)]))(d:h<=9000):aR ab G:=fQ (ak 75) 2 0 1 h ⟨[2000000,0],[2000001,0],[3],[4]⟩ (λ i q=>(5,.ai q.a 1 0 l.length false)::l5 M h k top i q) (λ i q=>[(q.a,⟨l,1,false⟩),(q.b,⟨(S i).map ar,1,false⟩)]) (.exit 4) (λ q=>(5,.ai q.a 1 0 l.length false)::l5 M h k top h q) (λ q=>[(q.a,⟨l,1,false⟩),(q.b,⟨(S h).map ar,1,false⟩)]) h1 (age G top M)
def ack{l:List aa}[bq l][dw 1 l](j:top=l.length)(p:M≠[])(o:k<eJ M)(s:R.length=h)(t:k<9000)(d:Nat)(hd:top+d=h)(m:aR ab G)(f:∃g h1 hd,m=HA G top M (R:=R) (h:=h) (k:=k) (l:=l) d g h1 hd):bF ab G (aZ (ak 75) 0) j3 (bK 2) .normal (λ q=>(5,.ai q.a 1 0 l.length false)::ox M h k q) (λ q=>[(q.a,⟨l,1,false⟩),(q.b,⟨(R).map ar,1,false⟩)]) (λ q=>(5,.ai q.a 1 0 l.length false)::ox M h (k+1) q) (λ q=>[(q.a,⟨l,1,false⟩),(q.b,⟨(R).map ar,1,false⟩)]):=by obtain⟨g,h1,i,rfl⟩:=f;exact bn ⟨[2000000,0],[2000001,0],[3],[4]⟩ [hc (tf G p),hb 16 (dv o),hw 20 (ac:(l.length:Int)=(top:Int)),HA G top M d g h1 i,hb 42 (show(((top+d:Nat):Int)==(h:Int))=true by rw[hd];exact beq_self_eq_true _),bh 18 k]
def aci{l:List aa}[bq l][dw 1 l](s:top=l.length)(B:l.length<=9000)(A:M≠[])(C:k<eJ M)(J:R.length=h)(I:k<9000)(d:Nat)(hd:top+d<h)(y D:aR ab G){f cv t:List (List aj)}{row:List aj}(S:Nat->List (List aj))(p:∃i h1 hd,y=HA G top M (R:=R) (h:=h) (k:=k) (l:=l) d i h1 hd)(m:∃h1 j,D=Te G top M (h:=h) (k:=k) (l:=l) S h1 j)(s0:R.set top (R[top+d]' ac)=f)(H:f.set (top+d) (R[top]' ac)=cv)(L:f.length=h)(N:cv.length=h)(o:k<(cv[top]' ac).length)(z:ag ab G 119 [ar (cv[top]' ac),((cv[top]' ac)[k]).T] (ar row))(v:cv.set top row=t)(u:S 0=t):bF ab G (aZ (ak 75) 0) j3 (bK 2) .normal (λ q=>(5,.ai q.a 1 0 l.length false)::ox M h k q) (λ q=>[(q.a,⟨l,1,false⟩),(q.b,⟨(R).map ar,1,false⟩)]) (λ q=>(5,.ai q.a 1 0 (l.length+1) false)::ox M h (k+1) q) (λ q=>[(q.a,⟨(l++[aA k]),1,false⟩),(q.b,⟨(S h).map ar,1,false⟩)]):=by obtain⟨i,h1,g,rfl⟩:=p;obtain⟨E,j,rfl⟩:=m;subst u;have x:(((top+d:Nat):Int)==(h:Int))=false:=beq_eq_false_iff_ne.2 ac;exact bn ⟨[4000007,0],[4000001,0],[3],[4]⟩ [hc (tf G A),hb 16 (dv C),hw 20 (ac:(l.length:Int)=(top:Int)),HA G top M d i h1 g,hb 42 x,cy 49 1 [2000001,0] false h (top+d),iq 50 1 false [2000001,0] 1 ar R (top+d) (ar (R[top+d]' ac)),cy 53 1 [2000001,0] false h top,iq 54 1 false [2000001,0] 1 ar R top (ar (R[top]' ac)),cy 55 1 [2000001,0] false h top,p9 55 1 [2000001,0] 1 ar R top (R[top+d]' ac) f s0,cy 56 1 [2000001,0] false h (top+d),p9 56 1 [2000001,0] 1 ar f (top+d) (R[top]' ac) cv H,cy 61 1 [2000001,0] false h top,iq 62 1 false [2000001,0] 1 ar cv top (ar (cv[top]' ac)),cy 65 1 [2000001,0] false h top,iq 66 1 false [2000001,0] 1 ar cv top (ar (cv[top]' ac)),aV 68 2 aO o,hc z,cy 71 1 [2000001,0] false h top,p9 71 1 [2000001,0] 1 ar cv top row (S 0) v,Te G top M S E j,Gc 114 1 8 [4000000,0] 4000006 l (aA k) ac (qp (k:=1)),bh 18 k]
def alR(st:List (List aj)×List Nat)(k:Nat):st.2.length<=(gG st k).2.length:=by rcases alQ st k with h|h;rw[h];exact a2 _;rw[h,cP];exact Nat.le_add_right _ _
noncomputable abbrev kR(M:List (List aj))(k:Nat):List (List aj)×List Nat:=(a8 k).foldl gG (M,[])
def Wk(M:List (List aj)){k j:Nat}(h:k<=j):(kR M k).2.length<=(kR M j).2.length:=by induction h with|refl=>exact a2 _|step _ a=>exact bx a (by unfold kR;rw[V9];exact alR _ _)
def bm.mono{K:bY}{q n m:Nat}(h:bm K q m)(k:n<=m):bm K q n:=by unfold bm at*;omega
end
section
variable(G:Nat->Option (List aa)){K:bY}{q e r:Nat}(F:dN K q e r){n w:Nat}{M:List (List aj)}
include F
def acR(O:M≠[])(hm:bj K n w M)(t:M.length<=9000)(cx:w<=9000){j:Nat}(hj:(bl M).2.length<=j)(V:bm K q (grow K j n))(k:Nat)(Y:k<eJ M):bF ab G (aZ (ak 75) 0) j3 (bK 2) .normal (λ q=>(5,bX q.a 1 ((kR M k).2.map aA))::ox M M.length k q) (λ q=>bu q.a 1 ((kR M k).2.map aA)++[(q.b,⟨(kR M k).1.map ar,1,false⟩)]) (λ q=>(5,bX q.a 1 ((kR M (k+1)).2.map aA))::ox M M.length (k+1) q) (λ q=>bu q.a 1 ((kR M (k+1)).2.map aA)++[(q.b,⟨(kR M (k+1)).1.map ar,1,false⟩)]):=by
 have yE:=gj hm O;have f:k<w:=ac;have H:vT K n w M.length k (kR M k):=CZ hm rfl k;have J:(kR M (k+1)).2.length<=j:=bx (Wk M (ac:k+1<=eJ M)) hj;have akt:(kR M k).2.length<=j:=bx (Wk M (ac:k<=k+1)) J;have e1:kR M (k+1)=gG (kR M k) k:=V9 k;rw[e1]at J⊢;have s:=H.len;have hp:=H.pl;have B:=H.wV;generalize kR M k=st at*;have⟨R,P⟩:=st;simp only at*;have y:bm K q (grow K P.length n):=V.mono (n9 akt);have arD:=aks (R:=R) (top:=P.length) (k:=k) ac;have Q:=zH R P.length k;have z:∀p(h1:P.length<=p)(Z:p<e8 R P.length k)(h3:p<R.length),((R[p]).getD k (aS 0)).bD=true:=λ p h1 Z h3=>M5 h1 Z h3;have aq1:∀x:Nat,cT 1 (aA x):=λ x=>inferInstance;by_cases A:e8 R P.length k<R.length;have ae7:=M4 A;have arh:grow K (P.length+1) n<=grow K j n:=by refine n9 ?_;have X:=V8 (st:=(R,P)) (k:=k) A rfl rfl;rw[X,cP]at J;exact J
 have⟨d,hd⟩:∃d,e8 R P.length k=P.length+d:=⟨_,(aac Q).symm⟩;have U:P.length+d<R.length:=ac;have v:((R[P.length+d]).getD k (aS 0)).bD=false:=by have:=ae7;simp only[hd]at this;exact this
 have X:∀{cv:List (List aj)}{row:List aj},iu R P.length (P.length+d)=cv->iG (cv.getD P.length []) ((cv.getD P.length []).getD k (aS 0))=row->gG (R,P) k=((cv.set P.length row).mapIdx (eW P.length k row),P++[k]):=λ h1 Z=>V8 (st:=(R,P)) A (by simp only[hd];exact h1) Z;have ht:P.length<R.length:=ac;have es:=Ip ht U;have g1:grow K (P.length+1) n=26*grow K P.length n+43*K.c+1:=rfl;have D:=B.swap ht U;have sl:=NP R P.length (P.length+d);generalize I:R.set P.length R[P.length+d]=aaZ at es;generalize adw:iu R P.length (P.length+d)=cv at es D sl X;have C:P.length<cv.length:=ac;have ale:cv[P.length]=R[P.length+d]:=by
   subst adw;simp only[<-es,<-I];rw[AV];split;next h=>simp only[h]
   rw[aad]
 have TK:aaZ.length=M.length:=by rw[<-I,kf];exact s
 have o:k<(cv[P.length]).length:=by rw[(D _ (bf C)).1];exact f
 have hz:((cv[P.length])[k]).bD=false:=by rw[wN C o,ale];exact v
 have gt:=D _ (bf C);have Nz:=aio G F (a:=cv[P.length]) (x:=(cv[P.length])[k]) ac gt.2 (gt.2 _ (bf o)) hz y (V.mono ac);have rg:=NA gt.2 (gt.2 _ (bf o));have rl:(iG (cv[P.length]) (cv[P.length])[k]).length=w:=(aQ ..).trans gt.1;have adu:=X (cv:=cv) (row:=iG (cv[P.length]) (cv[P.length])[k]) rfl (by rw[a4 C,a4 o]);rw[adu];generalize iG (cv[P.length]) (cv[P.length])[k]=row at Nz rg rl;have ta:(cv.set P.length row).length=M.length:=by rw[kf];omega
 have FG:(cv.set P.length row).mapIdx (eW P.length k row)=fq (eW P.length k row) M.length (cv.set P.length row):=by rw[<-an6,ta]
 rw[FG];have dE:∀i(E:i<(cv.set P.length row).length),i≠P.length->((cv.set P.length row)[i]).length=w/\dn K (grow K P.length n) (cv.set P.length row)[i]:=λ i E m=>by rw[List.getElem_set_ne (Ne.symm m)];exact D _ (bf _)
 have S:P.length<(cv.set P.length row).length:=ac;have yL:(cv.set P.length row)[P.length]=row:=aad _;have yz:bm K q (24*grow K P.length n+42*K.c):=V.mono ac;have yA:bm K q (24*grow K P.length n+42*K.c+grow K P.length n+K.c):=V.mono ac;have lm:(P++[k]).map aA=P.map aA++[aA k]:=by rw[gI];rfl
 rw[lm];by_cases u:P=[];have L:P.length=0:=by rw[u];rfl
 have g:=ach G P.length M L O Y s ac d ac _ _ (λ i=>fq (eW P.length k row) i (cv.set P.length row)) ⟨Vm G F P.length M B y f s t (P.length+d) ac (λ h=>v),λ i E=>Vp G F P.length M B y f s t (P.length+i) ac (z _ ac ac ac),ac,rfl⟩ ⟨λ i E=>agi G F P.length M dE ⟨rl,rg⟩ S yL y yz yA f ta t cx i E,t,rfl⟩ I es TK ac o Nz rfl X3;have x1:∀i,bX i 1 (P.map aA)=.aH:=λ i=>by rw[u];rfl
 have bE:∀i,bu i 1 (P.map aA)=[]:=λ i=>by rw[u];rfl
 have cB:∀i,bX i 1 (P.map aA++[aA k])=.ai i 1 0 1 false:=λ i=>by rw[u];exact gQ am
 have gy:∀i,bu i 1 (P.map aA++[aA k])=[(i,⟨[aA k],1,false⟩)]:=λ i=>by rw[u];exact gn am
 simp only[x1,bE,cB,gy];exact g;have m:P.map aA≠[]:=λ e=>u (nY.1 e);have N:P.length=(P.map aA).length:=by rw[aQ]
 have g:=aci G P.length M (l:=P.map aA) N (by rw[aQ];omega) O Y s ac d ac _ _ (λ i=>fq (eW P.length k row) i (cv.set P.length row)) ⟨Vn G F P.length M B y f s t (P.length+d) ac (λ h=>v),λ i E=>Vq G F P.length M B y f s t (P.length+i) ac (z _ ac ac ac),ac,rfl⟩ ⟨λ i E=>agj G F P.length M dE ⟨rl,rg⟩ S yL y yz yA f ta t cx i E,t,rfl⟩ I es TK ac o Nz rfl X3;have cB:∀i,bX i 1 (P.map aA++[aA k])=.ai i 1 0 ((P.map aA).length+1) false:=λ i=>by rw[gQ am,cP];rfl
 have gy:∀i,bu i 1 (P.map aA++[aA k])=[(i,⟨P.map aA++[aA k],1,false⟩)]:=λ i=>gn am;simp only[cB,gy,gQ m,gn m];exact g;have es:=alS (st:=(R,P)) (k:=k) A;rw[es];simp only;have⟨d,hd⟩:∃d,e8 R P.length k=P.length+d:=⟨_,(aac Q).symm⟩;have T:P.length+d=M.length:=ac;by_cases u:P=[];have L:P.length=0:=by rw[u];rfl
 have g:=acj G P.length M (R:=R) L O Y s ac d T _ ⟨Vm G F P.length M B y f s t (P.length+d) ac (λ h=>absurd h ac),λ i E=>Vp G F P.length M B y f s t (P.length+i) ac (z _ ac ac ac),ac,rfl⟩;have x1:∀i,bX i 1 (P.map aA)=.aH:=λ i=>by rw[u];rfl
 have bE:∀i,bu i 1 (P.map aA)=[]:=λ i=>by rw[u];rfl
 simp only[x1,bE];exact g;have m:P.map aA≠[]:=λ e=>u (nY.1 e);have N:P.length=(P.map aA).length:=by rw[aQ]
 have g:=ack G P.length M (l:=P.map aA) (R:=R) N O Y s ac d T _ ⟨Vn G F P.length M B y f s t (P.length+d) ac (λ h=>absurd h ac),λ i E=>Vq G F P.length M B y f s t (P.length+i) ac (z _ ac ac ac),ac,rfl⟩;simp only[gQ m,gn m];exact g
omit F in theorem alP(aX:M≠[]){R:List (List aj)}{l:List aa}[bq l]:bF ab G (aZ (ak 75) 0) j3 (bK 2) (.exit 0) (fun q=>(5,bX q.a 1 l)::ox M M.length (eJ M) q) (fun q=>bu q.a 1 l++[(q.b,⟨R.map ar,1,false⟩)]) (fun q=>[(5,bX q.a 1 l),(4,.ai q.b 1 0 M.length false)]) (fun q=>bu q.a 1 l++[(q.b,⟨R.map ar,1,false⟩)]):=nK (A:=ox M M.length (eJ M)) (B:=fun q=>[(4,.ai q.b 1 0 M.length false)]) (bJ:=fun q=>[(q.b,⟨R.map ar,1,false⟩)]) (bS:=fun q=>[(q.b,⟨R.map ar,1,false⟩)]) a3 [hc (tf G aX),hb 16 (h7 (a2 (eJ M)))]
def ail(c:M≠[])(f:bj K n w M)(i:M.length<=9000)(s:w<=9000){j:Nat}(p:(bl M).2.length<=j)(m:bm K q (grow K j n)):ag ab G 75 [aN M] (.aJ [aN (bl M).1,bW (bl M).2]):=by have u:=gj f c;have g:M.map ar≠[]:=λ e=>c (nY.1 e);have H:=lE f;have o:=(alP G c (R:=(bl M).1) (l:=(bl M).2.map aA)).aeb (by rw[aQ];exact H.len.symm) (λ e d=>by obtain⟨x,_,rfl⟩:=bp.1 d;infer_instance) (λ e d=>by obtain⟨x,_,rfl⟩:=bp.1 d;infer_instance);exact bL [Sz 12 1 24 (M.map ar) M.length (aQ ..) g (by rw[aQ];omega),fQ (ak 75) 0 2 0 (eJ M) ⟨[1],[4,0],[3],[4]⟩ (λ k q=>(5,bX q.a 1 ((kR M k).2.map aA))::ox M M.length k q) (λ k q=>bu q.a 1 ((kR M k).2.map aA)++[(q.b,⟨(kR M k).1.map ar,1,false⟩)]) (.exit 0) (λ _=>[(5,bW (bl M).2),(4,aN (bl M).1)]) (λ _=>[]) (λ k t=>acR G F c f i s p m k t) o]
end
end Go.Proofs.YtpcofcmencgkbaaGreat
namespace Go.ay
def HL(f:Nat->aj):∀(l:List Nat)(i:Nat)(x:List aj),(jO f l i x).length=x.length|[],_,_=>rfl|p::l,i,x=>by show(jO f l (i+1) (x.set p (f i))).length=_;rw[HL f l,kf]
def VJ(f:Nat->aj)(p:Nat):∀(l:List Nat)(i:Nat)(x:List aj),jO f (l++[p]) i x=(jO f l i x).set p (f (i+l.length))|[],i,x=>rfl|a::l,i,x=>by show jO f (l++[p]) (i+1) (x.set a (f i))=(jO f l (i+1) (x.set a (f i))).set p (f (i+(l.length+1)));rw[VJ f p l,show i+1+l.length=i+(l.length+1)from ac]
def Nb{f:Nat->aj}{l:List Nat}{i:Nat}{x:List aj}(a:i<l.length):(jO f (l.take i) 0 x).set l[i] (f i)=jO f (l.take (i+1)) 0 x:=by rw[nT a,VJ,gV,Nat.zero_add,Nat.min_eq_left ac]
end Go.ay
namespace Go.Proofs.YtpcofcmencgkbaaGreat
def U0(C:List (List aj)):aa:=if C=[]then .aH else aN C
instance{C:List (List aj)}:bg (U0 C):=by unfold U0;split<;>infer_instance
section
variable(G:Nat->Option (List aa)){K:bY}{q e r:Nat}(F:dN K q e r){n w:Nat}{M:List (List aj)}
noncomputable abbrev fp(R:List (List aj))(P:List Nat)(w k i:Nat):List aj:=jO (λ i=>((R.getD i []).getD k (aS 0)).neg) (P.take i) 0 (dA w (some k))
def GX{R:List (List aj)}{P:List Nat}{w k i:Nat}:(fp R P w k i).length=w:=by unfold fp;rw[HL,mi]
noncomputable abbrev l8(M R:List (List aj))(P:List Nat)(k:Nat):List (Nat×aa):=[(0,aN M),(3,aN R),(4,bW P),(6,aA k)]
noncomputable abbrev pc(M R:List (List aj))(P:List Nat)(w k i:Nat)(q:aD):List (Nat×aa):=[(7,.ai q.b 2 0 ((dA w (some k)).map aO).length false),(0,aN M),(3,aN R),(4,bW P),(6,aA k),(8,aA i)]
def ag7{R:List (List aj)}{P:List Nat}{k:Nat}{g:Nat}(m:bj K g w R)(v:bm K q g)(y:k<w)(z:P.length<=R.length)(u:∀p∈P,p<w)(A:P.length<=9000)(i:Nat)(d:i<P.length):bF ab G (aZ (ak 86) 1) (ak 86).aK (bK 0) .normal (λ q=>(5,.aH)::pc M R P w k i q) (λ q=>[(q.b,⟨(fp R P w k i).map aO,2,false⟩)]) (λ q=>(5,.aH)::pc M R P w k (i+1) q) (λ q=>[(q.b,⟨(fp R P w k (i+1)).map aO,2,false⟩)]):=by
 have a:i<R.length:=ac;have c:k<(R[i]).length:=by rw[(m _ (bf a)).1];exact y
 have j:=u _ (bf d);have es:(fp R P w k i).set P[i] ((R[i])[k]).neg=fp R P w k (i+1):=by have:=Nb (f:=λ i=>((R.getD i []).getD k (aS 0)).neg) (x:=dA w (some k)) d;rw[a4 a,a4 c]at this;exact this
 have t:P[i]<(fp R P w k i).length:=by rw[GX];exact j
 have h:P[i]<((dA w (some k)).map aO).length:=by rw[aQ,mi];exact j
 have o:=Ue G ((m _ (bf a)).2 _ (bf c)) v;generalize fp R P w k (i+1)=sG at*;generalize fp R P w k i=X at*;exact bn a3 [bB 31 aA d,aV 37 1 aA d,aV 41 1 ar a,aV 44 2 aO c,hc o,cy 47 2 [2] false ((dA w (some k)).map aO).length P[i] h,p9 47 2 [2] 2 aO X P[i] ((R[i])[k]).neg sG es t,bh 33 i]
def ag4{R:List (List aj)}{P:List Nat}{k:Nat}:bF ab G (aZ (ak 86) 1) (ak 86).aK (bK 0) (.exit 2) (λ q=>(5,.aH)::pc M R P w k P.length q) (λ q=>[(q.b,⟨(fp R P w k P.length).map aO,2,false⟩)]) (λ q=>(5,.aH)::pc M R P w k P.length q) (λ q=>[(q.b,⟨(fp R P w k P.length).map aO,2,false⟩)]):=bn a3 [dH 31 aA P]
include F in theorem ag9{R:List (List aj)}{P:List Nat}{k:Nat}{g:Nat}(aX:M≠[])(wC:eJ M=w)(dE:bj K g w R)(yw:bm K q g)(hk:k<w)(cx:w<=9000)(hl:P.length<=R.length)(uE:∀p∈P,p<w)(qn:P.length<=9000)(hn:k∉P):bF ab G (aZ (ak 86) 0) (ak 86).aK (bK 2) .normal (fun q=>(5,.aH)::l8 M R P k) (fun q=>[]) (fun q=>(5,.ai q.a 1 0 1 false)::l8 M R P (k+1)) (fun q=>[(q.a,⟨[ar (fp R P w k P.length)],1,false⟩)]):=by have rS:=tf G aX;rw[wC]at rS;have hp:=Uf G hn qn;have hu:=Hc G (ac:0<w) cx (some k);have H:bF ab G (aZ (ak 86) 0) (ak 86).aK (bK 2) .normal (fun q=>(5,.aH)::l8 M R P k) (fun q=>[]) (fun q=>(5,.ai q.a 1 0 1 false)::l8 M R P (k+1)) (fun q=>[(q.a,⟨[.ai q.b 2 0 ((dA w (some k)).map aO).length false],1,false⟩),(q.b,⟨(fp R P w k P.length).map aO,2,false⟩)]):=bn ⟨[2000007,0],[2000001,0],[3],[4]⟩ [hc rS,hb 17 (dv hk),hc hp,hc rS,cL hu,fQ (ak 86) 1 0 0 P.length ⟨[1],[2000000,11,0],[3],[4]⟩ (fun i q=>(5,.aH)::pc M R P w k i q) (fun i q=>[(q.b,⟨(fp R P w k i).map aO,2,false⟩)]) (.exit 2) (fun q=>(5,.aH)::pc M R P w k P.length q) (fun q=>[(q.b,⟨(fp R P w k P.length).map aO,2,false⟩)]) (fun i hi=>ag7 G dE yw hk hl uE qn i hi) (ag4 G),bh 19 k];exact H.j9 fun q m gd=>bP.F3 (F:=l8 M R P (k+1)) (L:=[]) gd (fun e he=>(List.not_mem_nil he).elim) (fun e he=>by obtain⟨x,_,rfl⟩:=bp.1 he;infer_instance) (by rw[aQ,aQ,mi,GX])
def ag8{l:List aa}[bq l][dw 1 l]{R:List (List aj)}{P:List Nat}{k:Nat}{g:Nat}(t:bj K g w R)(z:bm K q g)(A:k<w)(B:P.length<=R.length)(y:∀p∈P,p<w)(C:P.length<=9000)(i:Nat)(h:i<P.length):bF ab G (aZ (ak 86) 1) (ak 86).aK (bK 0) .normal (λ q=>(5,.ai q.a 1 0 l.length false)::pc M R P w k i q) (λ q=>[(q.a,⟨l,1,false⟩),(q.b,⟨(fp R P w k i).map aO,2,false⟩)]) (λ q=>(5,.ai q.a 1 0 l.length false)::pc M R P w k (i+1) q) (λ q=>[(q.a,⟨l,1,false⟩),(q.b,⟨(fp R P w k (i+1)).map aO,2,false⟩)]):=by
 have c:i<R.length:=ac;have d:k<(R[i]).length:=by rw[(t _ (bf c)).1];exact A
 have m:=y _ (bf h);have es:(fp R P w k i).set P[i] ((R[i])[k]).neg=fp R P w k (i+1):=by have:=Nb (f:=λ i=>((R.getD i []).getD k (aS 0)).neg) (x:=dA w (some k)) h;rw[a4 c,a4 d]at this;exact this
 have v:P[i]<(fp R P w k i).length:=by rw[GX];exact m
 have j:P[i]<((dA w (some k)).map aO).length:=by rw[aQ,mi];exact m
 have u:=Ue G ((t _ (bf c)).2 _ (bf d)) z;generalize fp R P w k (i+1)=sG at*;generalize fp R P w k i=X at*;exact bn a3 [bB 31 aA h,aV 37 1 aA h,aV 41 1 ar c,aV 44 2 aO d,hc u,cy 47 2 [2] false ((dA w (some k)).map aO).length P[i] j,p9 47 2 [2] 2 aO X P[i] ((R[i])[k]).neg sG es v,bh 33 i]
def ag5{l:List aa}[bq l][dw 1 l]{R:List (List aj)}{P:List Nat}{k:Nat}:bF ab G (aZ (ak 86) 1) (ak 86).aK (bK 0) (.exit 2) (λ q=>(5,.ai q.a 1 0 l.length false)::pc M R P w k P.length q) (λ q=>[(q.a,⟨l,1,false⟩),(q.b,⟨(fp R P w k P.length).map aO,2,false⟩)]) (λ q=>(5,.ai q.a 1 0 l.length false)::pc M R P w k P.length q) (λ q=>[(q.a,⟨l,1,false⟩),(q.b,⟨(fp R P w k P.length).map aO,2,false⟩)]):=bn a3 [dH 31 aA P]
include F in theorem aha{l:List aa}[bq l][dw 1 l](L6:l.length<=9000){R:List (List aj)}{P:List Nat}{k:Nat}{g:Nat}(aX:M≠[])(wC:eJ M=w)(dE:bj K g w R)(yw:bm K q g)(hk:k<w)(cx:w<=9000)(hl:P.length<=R.length)(uE:∀p∈P,p<w)(qn:P.length<=9000)(hn:k∉P):bF ab G (aZ (ak 86) 0) (ak 86).aK (bK 2) .normal (fun q=>(5,.ai q.a 1 0 l.length false)::l8 M R P k) (fun q=>[(q.a,⟨l,1,false⟩)]) (fun q=>(5,.ai q.a 1 0 (l.length+1) false)::l8 M R P (k+1)) (fun q=>[(q.a,⟨l++[ar (fp R P w k P.length)],1,false⟩)]):=by have rS:=tf G aX;rw[wC]at rS;have hp:=Uf G hn qn;have hu:=Hc G (ac:0<w) cx (some k);have H:bF ab G (aZ (ak 86) 0) (ak 86).aK (bK 2) .normal (fun q=>(5,.ai q.a 1 0 l.length false)::l8 M R P k) (fun q=>[(q.a,⟨l,1,false⟩)]) (fun q=>(5,.ai q.a 1 0 (l.length+1) false)::l8 M R P (k+1)) (fun q=>[(q.a,⟨l++[.ai q.b 2 0 ((dA w (some k)).map aO).length false],1,false⟩),(q.b,⟨(fp R P w k P.length).map aO,2,false⟩)]):=bn ⟨[2000007,0],[2000001,0],[3],[4]⟩ [hc rS,hb 17 (dv hk),hc hp,hc rS,cL hu,fQ (ak 86) 1 0 0 P.length ⟨[1],[2000000,11,0],[3],[4]⟩ (fun i q=>(5,.ai q.a 1 0 l.length false)::pc M R P w k i q) (fun i q=>[(q.a,⟨l,1,false⟩),(q.b,⟨(fp R P w k i).map aO,2,false⟩)]) (.exit 2) (fun q=>(5,.ai q.a 1 0 l.length false)::pc M R P w k P.length q) (fun q=>[(q.a,⟨l,1,false⟩),(q.b,⟨(fp R P w k P.length).map aO,2,false⟩)]) (fun i hi=>ag8 G dE yw hk hl uE qn i hi) (ag5 G),Gc 51 1 24 [2000000,0] 2000006 l (.ai [2000001,0] 2 0 ((dA w (some k)).map aO).length false) ac (qp (k:=1)),bh 19 k];exact H.j9 fun q m gd=>bP.F3 (F:=l8 M R P (k+1)) (L:=l) gd (fun e he=>(dw.all (k:=1) e he).size) (fun e he=>by obtain⟨x,_,rfl⟩:=bp.1 he;infer_instance) (by rw[aQ,aQ,mi,GX])
def ahb{l:List aa}[bq l]{R:List (List aj)}{P:List Nat}{k:Nat}(h:M≠[])(b:eJ M=w)(j:k<w)(o:w<=9000)(m:P.length<=9000)(g:k∈P):bF ab G (aZ (ak 86) 0) (ak 86).aK (bK 2) .normal (λ q=>(5,bX q.a 1 l)::l8 M R P k) (λ q=>bu q.a 1 l++[]) (λ q=>(5,bX q.a 1 l)::l8 M R P (k+1)) (λ q=>bu q.a 1 l++[]):=by have c:=tf G h;rw[b]at c;have⟨i,f⟩:=aik G g m;exact nK (A:=λ _=>l8 M R P k) (B:=λ _=>l8 M R P (k+1)) (bJ:=λ _=>[]) (bS:=λ _=>[]) a3 [hc c,hb 17 (dv j),hc f,hb 23 (show decide ((i:Int)≥0)=true from decide_eq_true ac),bh 19 k]
noncomputable abbrev oo(R:List (List aj))(P:List Nat)(w k:Nat):List (List aj):=((a8 k).filter λ k=>!P.contains k).map λ k=>fp R P w k P.length
include F in theorem aie(aX:M≠[])(hm:bj K n w M)(gN:M.length<=9000)(cx:w<=9000){j:Nat}(hj:(bl M).2.length<=j)(hB:bm K q (grow K j n)):ag ab G 86 [aN M] (aN (uO M)):=by
 have alJ:=ail G F aX hm gN cx hj hB;have yE:=gj hm aX;have rS:=tf G aX;rw[yE]at rS;have H:=lE hm;have yw:bm K q (grow K (bl M).2.length n):=hB.mono (n9 hj);have uE:∀p∈(bl M).2,p<w:=fun p hp=>by have:=H.lt p hp;omega
 have hl:(bl M).2.length<=(bl M).1.length:=by rw[H.len];exact H.pl
 have qn:(bl M).2.length<=9000:=by have:=H.pl;omega
 have dE:=H.wV;have FH:uO M=oo (bl M).1 (bl M).2 w w:=by unfold uO oo fp;rw[yE,kB]
 rw[FH];generalize(bl M).1=R at*;generalize(bl M).2=P at*;refine bL [hc alJ,fQ (ak 86) 0 2 0 w a3 (fun k q=>(5,bX q.a 1 ((oo R P w k).map ar))::l8 M R P k) (fun k q=>bu q.a 1 ((oo R P w k).map ar)++[]) (.exit 0) (fun _=>[(5,aN (oo R P w w))]) (fun _=>[]) (fun k hk=>?_) ?_] an
 . by_cases hn:k∈P;.rw[show oo R P w (k+1)=oo R P w k from by unfold oo;rw[ix,lL,List.filter_cons_of_neg (by simpa using hn)];simp];exact ahb G aX yE hk cx qn hn
   . rw[show oo R P w (k+1)=oo R P w k++[fp R P w k P.length]from by unfold oo;rw[ix,lL,List.filter_cons_of_pos (by simpa using hn),gI];simp];have L6:((oo R P w k).map ar).length<=9000:=by rw[aQ,aQ];have:=List.length_filter_le (fun k=>!P.contains k) (a8 k);rw[dx]at this;omega
     rw[gI,nX];generalize oo R P w k=vP at*;by_cases bk:vP=[];.subst bk;have x1:∀i,bX i 1 (([]:List (List aj)).map ar)=.aH:=fun i=>rfl;have bE:∀i,bu i 1 (([]:List (List aj)).map ar)=[]:=fun i=>rfl;have cB:∀i,bX i 1 (([]:List (List aj)).map ar++[ar (fp R P w k P.length)])=.ai i 1 0 1 false:=fun i=>gQ am;have gy:∀i,bu i 1 (([]:List (List aj)).map ar++[ar (fp R P w k P.length)])=[(i,⟨[ar (fp R P w k P.length)],1,false⟩)]:=fun i=>gn am;simp only[x1,bE,cB,gy,pQ];exact ag9 G F aX yE dE yw hk cx hl uE qn hn
     . have hne:vP.map ar≠[]:=fun e=>bk (nY.1 e);have cB:∀i,bX i 1 (vP.map ar++[ar (fp R P w k P.length)])=.ai i 1 0 ((vP.map ar).length+1) false:=fun i=>by rw[gQ am,cP];rfl
       have gy:∀i,bu i 1 (vP.map ar++[ar (fp R P w k P.length)])=[(i,⟨vP.map ar++[ar (fp R P w k P.length)],1,false⟩)]:=fun i=>gn am;simp only[cB,gy,gQ hne,gn hne,pQ];exact aha G F (l:=vP.map ar) L6 aX yE dE yw hk cx hl uE qn hn
 .exact(nK (A:=fun _=>l8 M R P w) (B:=fun _=>[]) (bJ:=fun _=>[]) (bS:=fun _=>[]) a3 [hc rS,hb 17 (h7 (a2 w))]).yR (B:=[]) fun e he=>by obtain⟨x,_,rfl⟩:=bp.1 he;infer_instance
noncomputable abbrev ag0(c i:Nat):List (Nat×aa):=[(1,aA c),(6,aA i)]
include F in theorem aid{c:Nat}(hm:bj K n w M)(gN:M.length<=9000)(cx:w<=9000)(rq:c<=9000){j:Nat}(hj:(bl M).2.length<=j)(hB:bm K q (grow K j n)):ag ab G 41 [aN M,aA c] (aN (if M.isEmpty then IB c else uO M)):=by
 by_cases aX:M=[]
 . subst aX;refine bL [Cg (ak 41) 0 0 0 c 1 24 20 5 (fun i=>ar (dA c (some i))) ((IB c).map ar) (ag0 c) (.exit 0) [] al (fun i hi=>?_) (xu [hb 12 (h7 (a2 c))] an (by intros;kernel_rfl)) ?_] an;.exact ug 7 8 (fun x=>[hb 12 (dv hi),hc (aip G c rq (some i))]++x++[bh 14 i]) an (by intros;kernel_rfl)
   .unfold IB ei;rw[jf];rfl
 . rw[if_neg (by rw[List.isEmpty_iff];exact aX)];have h1:(((M.map ar).length:Int)==0)=false:=by have:=iy.2 aX;rw[aQ];exact beq_eq_false_iff_ne.2 ac
   exact bL [hb 9 h1,hc (aie G F aX hm gN cx hj hB)] an
instance arC{k:Nat}{l:List aa}{x:aa}[dw k l][cT k x]:dw k (l++[x]):=⟨λ c hc=>(List.mem_append.1 hc).elim (λ h=>dw.all c h) λ h=>by rw[cq.1 h];infer_instance⟩
include F in end
end Go.Proofs.YtpcofcmencgkbaaGreat
namespace Go.ay
def Vw(M:List (List aj)):∀(ord c:List Nat),(c=[]\/(bl (bO M c)).2.length=c.length)->(ord.foldl (l9 M) c=[]\/(bl (bO M (ord.foldl (l9 M) c))).2.length=(ord.foldl (l9 M) c).length)|[],c,h=>h|k::ord,c,h=>by rw[qT];refine Vw M ord _ ?_;show(if _ then _ else _)=[]\/_;by_cases e:(bl (bO M (c++[k]))).2.length=((c++[k]).map λ i=>M.getD i []).length;right;have a:l9 M c k=c++[k]:=if_pos e;rw[a];rw[e,aQ];have a:l9 M c k=c:=if_neg e;have b:(if(bl (bO M (c++[k]))).2.length=((c++[k]).map λ i=>M.getD i []).length then c++[k]else c)=c:=a;rw[a];rcases h with h|h;exact .inl (b.trans h);exact .inr h
def M3(M:List (List aj))(ord:List Nat)(h:ey M ord≠[]):(bl (bO M (ey M ord))).2.length=(ey M ord).length:=(Vw M ord [] (.inl rfl)).resolve_left h
def Vx(M:List (List aj)):∀(ord c:List Nat),(ord.foldl (l9 M) c).Sublist (c++ord)|[],c=>by rw[pQ];exact AH _|k::ord,c=>by rw[qT];refine(Vx M ord _).trans ?_;by_cases e:(bl (bO M (c++[k]))).2.length=((c++[k]).map λ i=>M.getD i []).length;rw[show l9 M c k=c++[k]from if_pos e,List.append_assoc];exact AH _;rw[show l9 M c k=c from if_neg e];exact List.Sublist.append (AH _) (List.sublist_cons_self _ _)
def HD(M:List (List aj)){ord:List Nat}(h:ord.Nodup):(ey M ord).Nodup:=by have:=Vx M ord [];rw[List.nil_append]at this;exact h.sublist this
def T6{l:List Nat}{N i:Nat}(c:l.Nodup)(a:∀k∈l,k<N)(d:i<N)(h:i∉l):l.length+1<=N:=by have:=aC.pe (l:=i::l) (S:=a8 N) (List.nodup_cons.2 ⟨h,c⟩) λ x b=>c8.2 ((List.mem_cons.1 b).elim (λ e=>e▸d) (a x));rwa[gC,dx]at this
end Go.ay
namespace Go.Proofs.YtpcofcmencgkbaaGreat
instance:cT 1 aa.aH:=⟨inferInstance,rfl,λ d hd=>by rw[cq.1 hd];exact bg.pure,rfl⟩
abbrev Ja:aG:=nn .aH .aH .aH .aH .aH
def nH(c:iB):aa:=.agg [l7 c.rows,l7 c.bz,aN c.inv,aN c.df,aN c.aP]
instance{c:iB}:bg (nH c):=by unfold nH;infer_instance
def GM(l:List Nat):l7 (l.map Int.ofNat)=bW l:=by unfold l7 bW;rw[jf];rfl
section
variable(G:Nat->Option (List aa)){K:bY}{q e r:Nat}(F:dN K q e r){n w:Nat}{M:List (List aj)}
noncomputable abbrev pk(P:List Nat)(ru:aa)(aP:List (List aj))(q:aD):List (bt×aG):=[(q.b,nn (bW P) ru .aH .aH (aN aP)),(q.c,Ja)]
noncomputable abbrev Br(P:List Nat)(ru:aa)(d aP:List (List aj))(l:List aa)(q:aD):List (bt×aG):=bu q.a 1 l++[(q.b,nn (bW P) ru (aN d) (bX q.a 1 l) (aN aP)),(q.c,Ja)]
def aoK(F:List (bt×aG)):∀i,fm F (flat (bM i aa.aH)) (flat (bM i (aa.sl 2 [])))|0=>trivial|i+1=>by rw[JM,JM];exact⟨gZ.view (View.aH 2),aoK F i⟩
def Yq(σ:aL):∀i,dc σ (flat (bM i aa.aH)) (flat (bM i (aa.sl 2 [])))|0=>eT|i+1=>by rw[JM,JM];exact bZ (View.aH 2) (Yq σ i)
instance{i:Nat}:bq (bM i aa.aH):=⟨λ c hc=>by rw[lR hc];exact bg.pure,λ ρ=>by rw[fS,AX];rfl⟩
instance{i:Nat}:dw 1 (bM i aa.aH):=⟨λ c hc=>by rw[lR hc];infer_instance⟩
abbrev c6(z:Int):aa:=.int .i64 z
def uh(l:List Int)(n:Nat)(i:Nat):Bool:=decide (l.getD i 0<0)||(decide (l.getD i 0≥(n:Int))||(decide (0<i)&&decide (l.getD i 0<=l.getD (i-1) 0)))
def rh(l:List Int)(n:Nat):Bool:=(a8 l.length).all λ i=>!uh l n i
def lF(M:List (List aj))(rows:Int)(w:Int):Bool:=(M.all λ r=>decide ((r.length:Int)=w))&&decide ((M.length:Int)=rows)
end
section
variable(G:Nat->Option (List aa))
noncomputable abbrev VT(l:List Int)(n i:Nat):List (Nat×aa):=[(0,.sl 1 (l.map c6)),(1,aA n),(4,.bool false),(5,aA i)]
noncomputable abbrev II(l:List Int)(n i:Nat):List (Nat×aa):=[(0,.sl 1 (l.map c6)),(1,aA n),(4,.bool false),(7,.sl 1 (l.map c6)),(8,.int .i64 ((l.map c6).length:Nat)),(9,aA i)]
def HJ{i:Nat}(h:0<i)(a:i<9000):cO.wrap ((i:Int)-1)=((i-1:Nat):Int):=by rw[cU];omega
def yU{i:Nat}{b:Bool}(h:decide (0<i)=b):decide ((i:Int)>0)=b:=by rw[<-h];by_cases e:0<i;rw[decide_eq_true e,decide_eq_true ac];rw[decide_eq_false e,decide_eq_false ac]
def arH{l:List Int}{n i:Nat}(a:i<l.length)(g:l.length<=9000)(b:Bool)(h:uh l n i=b):kj ab G (ak 55) 0 0 (match b with|true=>.ret|false=>.normal) (VT l n i) (match b with|true=>[(4,.bool false)]|false=>VT l n (i+1)):=by unfold uh at h;rw[a4 a]at h;cases h1:decide (l[i]<0)with|true=>rw[h1,Ev]at h;subst h;exact rd [bB 9 c6 a,aV 14 1 c6 a,hb 16 h1]|false=>rw[h1,pS]at h;cases c:decide (l[i]≥(n:Int))with|true=>rw[c,Ev]at h;subst h;exact rd [bB 9 c6 a,aV 14 1 c6 a,hb 16 h1,aV 20 1 c6 a,hb 23 c]|false=>rw[c,pS]at h;cases h3:decide (0<i)with|false=>rw[h3,tV]at h;subst h;exact rd [bB 9 c6 a,aV 14 1 c6 a,hb 16 h1,aV 20 1 c6 a,hb 23 c,hb 27 (yU h3),bh 11 i]|true=>have e:=of_decide_eq_true h3;have d:i-1<l.length:=ac;rw[h3,mA,a4 d]at h;cases b with|true=>exact rd [bB 9 c6 a,aV 14 1 c6 a,hb 16 h1,aV 20 1 c6 a,hb 23 c,hb 27 (yU h3),aV 31 1 c6 a,hw 35 (HJ e ac),aV 36 1 c6 d,hb 38 h]|false=>exact rd [bB 9 c6 a,aV 14 1 c6 a,hb 16 h1,aV 20 1 c6 a,hb 23 c,hb 27 (yU h3),aV 31 1 c6 a,hw 35 (HJ e ac),aV 36 1 c6 d,hb 38 h,bh 11 i]
def Ou{l:List Int}{n i:Nat}(a:i<l.length)(j:l.length<=9000)(b:Bool)(h:uh l n i=b):kj ab G (ak 50) 0 0 (match b with|true=>.ret|false=>.normal) (II l n i) (match b with|true=>[(4,.bool false)]|false=>II l n (i+1)):=by unfold uh at h;rw[a4 a]at h;cases h1:decide (l[i]<0)with|true=>rw[h1,Ev]at h;subst h;exact rd [bB 10 c6 a,aV 12 1 c6 a,hb 15 h1]|false=>rw[h1,pS]at h;cases c:decide (l[i]≥(n:Int))with|true=>rw[c,Ev]at h;subst h;exact rd [bB 10 c6 a,aV 12 1 c6 a,hb 15 h1,hb 19 c]|false=>rw[c,pS]at h;cases h3:decide (0<i)with|false=>rw[h3,tV]at h;subst h;exact rd [bB 10 c6 a,aV 12 1 c6 a,hb 15 h1,hb 19 c,hb 23 (yU h3),bh 34 i]|true=>have f:=of_decide_eq_true h3;have d:i-1<l.length:=ac;rw[h3,mA,a4 d]at h;have e:decide (l[i-1]≥l[i])=b:=h;cases b with|true=>exact rd [bB 10 c6 a,aV 12 1 c6 a,hb 15 h1,hb 19 c,hb 23 (yU h3),hw 27 (HJ f ac),aV 28 1 c6 d,hb 31 e]|false=>exact rd [bB 10 c6 a,aV 12 1 c6 a,hb 15 h1,hb 19 c,hb 23 (yU h3),hw 27 (HJ f ac),aV 28 1 c6 d,hb 31 e,bh 34 i]
def Yb{l:List Int}{n:Nat}(b:l.length<=9000):ag ab G 50 [l7 l,aA n] (.bool (rh l n)):=by rcases uy (λ i=>!uh l n i) l.length with⟨e,h⟩|⟨e,i,a,d,g⟩;rw[show rh l n=true from e];exact bL [gm (ak 50) 0 0 0 l.length (II l n) (.exit 0) [] (λ i a=>Ou G a b false (by have:=h i a;simpa using this)) (rd [dH 10 c6 l])];rw[show rh l n=false from e];exact bL [gm (ak 50) 0 0 0 i (II l n) .ret [(4,.bool false)] (λ j f=>Ou G (ac:j<l.length) b false (by have:=g j f;simpa using this)) (Ou G a b true (by simpa using d))]
def G2{r:List aj}{w:Int}{b:Bool}(h:decide ((r.length:Int)=w)=b):((((r.map aO).length:Nat):Int)!=w)=!b:=by rw[aQ,<-h];by_cases e:(r.length:Int)=w;rw[decide_eq_true e,e];exact bne_self_eq_false _;rw[decide_eq_false e];exact bne_iff_ne.2 e
def Ma{α:Type}{f:α->aa}{M:List α}{rows:Int}{b:Bool}(h:decide ((M.length:Int)=rows)=b):((((M.map f).length:Nat):Int)==rows)=b:=by rw[aQ,<-h];by_cases e:(M.length:Int)=rows;rw[decide_eq_true e,e];exact beq_self_eq_true _;rw[decide_eq_false e];exact beq_eq_false_iff_ne.2 e
end
end Go.Proofs.YtpcofcmencgkbaaGreat
namespace Go.ay
section
variable{P:Program}{G:Nat->Option (List aa)}
def wG{f g:FuncId}{A:List aa}{r:aa}(i:Id)(el:aa)(k:Nat)(cs:List aa)[l:bq A][j:bq cs](h:ag P G f (A++[.fn (.func g) [] [.cr cs 0]]) r)(m:el.cells=cs:=by rfl):aR P G:=uI [(i,⟨[el],k,false⟩)] (args:=A++[.fn (.func g) [] [.ref i 0 0]]) h (by
 have e:∀A:List aa,(∀c∈A,cb c)->dc (aL.of [(i,(⟨[el],k,false⟩:aG))]) (A++[.fn (.func g) [] [.ref i 0 0]]) (A++[.fn (.func g) [] [.cr cs 0]]):=λ A=>by induction A with|nil=>intro _;subst m;exact bZ (View.fn eT (bZ (View.ref (aq:=⟨[el],k,false⟩) (by simp[aL.of,List.lookup]) rfl (dc.pure j.pure)) eT)) eT|cons a A d=>exact λ b=>bZ (View.pure (b a cp)) (d λ c hc=>b c (cR _ hc))
 exact e A l.pure)
end
end Go.ay
namespace Go.Proofs.YtpcofcmencgkbaaGreat
section
variable(G:Nat->Option (List aa))
def UR(i:Nat)(b:i<=1000):ag ab G 100 [.int .i64 (i:Int)] (aS (((i:Nat):Int):Rat)).T:=by have h:=UQ G (((i:Nat):Int):Rat) ((ano b).mono);exact aI [hc (xj G i ac ac),hc h]
def uV:ag ab G 100 [.int .i64 0] (aS 0).T:=UR G 0 al
def w4:ag ab G 100 [.int .i64 1] (aS 1).T:=UR G 1 al
abbrev Tl(l:List Nat)(n i:Nat):List (Nat×aa):=[(0,bW l),(1,aA n),(6,bW l),(7,.int .i64 ((l.map aA).length:Nat)),(8,aA i)]
def KV{a b:Nat}{c:Bool}(h:decide (a=b)=c):((b:Int)==(a:Int))=c:=by rw[<-h];by_cases e:a=b;subst e;rw[decide_eq_true rfl];exact beq_self_eq_true _;rw[decide_eq_false e];exact beq_eq_false_iff_ne.2 ac
def oA{l:List Nat}{n:Nat}(m:l.length<=9000):ag ab G 70 [bW l,aA n] (.bool (l.contains n)):=by
 rcases first (λ i=>decide (l.getD i 0=n)) l.length with h1|⟨i,a,d,g⟩;rw[show l.contains n=false from by rw[aae,decide_eq_false];intro h;have⟨i,a,e⟩:=gJ.1 h;have:=h1 i a;rw[a4 a,decide_eq_true e]at this;cases this];have f:ag ab G 115 [bW l,aA n] (.int .i64 (-1)):=by refine bL [gm (ak 115) 0 0 0 l.length (Tl l n) (.exit 0) [] (λ i a=>?_) (rd [dH 9 aA l])];have:=h1 i a;rw[a4 a]at this;exact rd [bB 9 aA a,aV 14 1 aA a,hb 16 (KV this),bh 18 i]
 exact aI [hc f];rw[a4 a]at d;rw[show l.contains n=true from by rw[aae,decide_eq_true];rw[<-of_decide_eq_true d];exact bf a];have f:ag ab G 115 [bW l,aA n] (aA i):=by refine bL [gm (ak 115) 0 0 0 i (Tl l n) .ret [(4,aA i)] (λ j k=>?_) ?_];have c:j<l.length:=ac;have:=g j k;rw[a4 c]at this;exact rd [bB 9 aA c,aV 14 1 aA c,hb 16 (KV this),bh 18 j];exact rd [bB 9 aA a,aV 14 1 aA a,hb 16 (KV d)]
 exact aI [hc f,hb 8 (show decide ((i:Int)≥0)=true from decide_eq_true ac)]
noncomputable abbrev GI(M:List (List aj))(f:aa)(i:Nat):List (Nat×aa):=[(0,aN M),(1,f),(6,aN M),(7,.int .i64 ((M.map ar).length:Nat)),(8,aA i)]
def Dp{M:List (List aj)}{g:Nat}{c:aa}[bg c]{p:Nat->Bool}(r:M.length<=9000)(h:∀i(d:i<M.length),ag ab G g [ar M[i],c] (.bool (p i))){b:Bool}(e:(a8 M.length).any p=b):ag ab G 98 [aN M,.fn (.func g) [] [c]] (.bool b):=by
 subst e;rcases first p M.length with h1|⟨i,d,m,n⟩;rw[show(a8 M.length).any p=false from qW.2 λ x o=>by rw[h1 x (c8.1 o)];decide];have l:ag ab G 138 [aN M,.fn (.func g) [] [c]] (.int .i64 (-1)):=by refine bL [gm (ak 138) 0 0 0 M.length (GI M (.fn (.func g) [] [c])) (.exit 0) [] (λ i d=>?_) (rd [dH 9 ar M])];have k:=h i d;rw[h1 i d]at k;exact rd [bB 9 ar d,aV 14 1 ar d,hc k,bh 18 i]
 exact aI [hc l];rw[show(a8 M.length).any p=true from yc.2 ⟨i,c8.2 d,m⟩];have l:ag ab G 138 [aN M,.fn (.func g) [] [c]] (aA i):=by refine bL [gm (ak 138) 0 0 0 i (GI M (.fn (.func g) [] [c])) .ret [(4,aA i)] (λ j q=>?_) ?_];have f:j<M.length:=ac;have k:=h j f;rw[n j q]at k;exact rd [bB 9 ar f,aV 14 1 ar f,hc k,bh 18 j];have k:=h i d;rw[m]at k;exact rd [bB 9 ar d,aV 14 1 ar d,hc k]
 exact aI [hc l,hb 8 (show decide ((i:Int)≥0)=true from decide_eq_true ac)]
def aot(r:List aj)(w:Int):ag ab G 99 [ar r,.cr [c6 w] 0] (.bool (!decide ((r.length:Int)=w))):=by cases h:decide ((r.length:Int)=w)with|true=>exact aI [hb 7 (G2 h)]|false=>exact aI [hb 7 (G2 h)]
def IG{M:List (List aj)}{rows w:Int}(j:M.length<=9000):ag ab G 49 [aN M,c6 rows,c6 w] (.bool (lF M rows w)):=by
 have k:(a8 M.length).any (λ i=>!decide (((M.getD i []).length:Int)=w))=!(M.all λ r=>decide ((r.length:Int)=w)):=by rw[Bool.eq_iff_iff,yc,Bool.not_eq_true',List.all_eq_false];constructor;rintro⟨i,a,h⟩;have a:=c8.1 a;rw[a4 a]at h;exact⟨_,bf a,by simpa using h⟩;rintro⟨r,l,h⟩;obtain⟨i,a,rfl⟩:=gJ.1 l;exact⟨i,c8.2 a,by rw[a4 a];simpa using h⟩
 have b:=Dp G (M:=M) (g:=99) (c:=.cr [c6 w] 0) (p:=λ i=>!decide (((M.getD i []).length:Int)=w)) j (λ i a=>by rw[a4 a];exact aot G M[i] w) k;unfold lF;cases h1:decide ((M.length:Int)=rows)with|false=>rw[Bool.and_false];exact aI [hb 10 (Ma (f:=ar) h1)]|true=>rw[Bool.and_true];cases e:(M.all λ r=>decide ((r.length:Int)=w))with|true=>rw[e]at b;exact aI [hb 10 (Ma (f:=ar) h1),wG (A:=[aN M]) [0] (c6 w) 1 [c6 w] b]|false=>rw[e]at b;exact aI [hb 10 (Ma (f:=ar) h1),wG (A:=[aN M]) [0] (c6 w) 1 [c6 w] b]
variable{K:bY}{q e r:Nat}(F:dN K q e r){n m:Nat}
include F
omit F in theorem VG{a b:List aj}{i:Nat}(ha:i<a.length)(hb:i<b.length):dR (a.take (i+1)) (b.take (i+1))=if(a[i]).bD||(b[i]).bD then dR (a.take i) (b.take i)else(dR (a.take i) (b.take i)).add ((a[i]).mul (b[i])):=by unfold dR;rw[nT ha,nT hb,List.zip_append (by rw[gV,gV];omega),Eu];rfl
noncomputable abbrev akC(a b:List aj)(i:Nat)(q:aD):List (Nat×aa):=[(6,.ref q.a 0 0),(4,.ref q.b 0 0),(0,ar a),(1,ar b),(12,.int .i64 ((a.map aO).length:Nat)),(13,aA i)]
noncomputable abbrev uX(a b:List aj)(i:Nat)(q:aD):List (bt×aG):=[(q.a,⟨[(dR (a.take i) (b.take i)).T],2,false⟩),(q.b,⟨[.agg [.aH,.aH]],2,false⟩)]
def w5{a:aj}(c:a.G K n)(d:bm K q n):ag ab G 154 [a.T] (.int .i64 (er a.2.val)):=ajm G F c d
def aor{a b:List aj}(h:a.length<=b.length)(C:a.length<=9000)(A:dn K n a)(hb:dn K m b)(h1:bm K q n)(w:bm K q m)(h3:bm K q (p4 K a n m)):ag ab G 140 [ar a,ar b] (.aJ [(dR (a.take a.length) (b.take a.length)).T,.bool true]):=by
 have g:∀i,i<=a.length->(dR (a.take i) (b.take i)).G K (p4 K a n m):=λ i f=>by have:=CP (K:=K) (n:=n) (m:=m) (a:=a.take i) (b:=b.take i) (λ x t=>A x (gK t)) (λ x t=>hb x (gK t));exact this.mono (ck _ (by rw[gV];omega))
 refine bL [hc (uV G),fQ (ak 140) 0 0 0 a.length ⟨[3,0],[0,0],[3],[4]⟩ (akC a b) (uX a b) (.exit 0) (λ q=>[(6,.ref q.a 0 0),(4,.ref q.b 0 0)]) (uX a b a.length) (λ i f=>?_) (bn a3 [dH 14 aO a])];have d:i<b.length:=ac;have v:=A _ (bf f);have p:=hb _ (bf d);have B:1*(n+m+K.c+1)<=p4 K a n m:=ck _ ac;have u:=w5 G F v h1;have z:=w5 G F p w;have j:=VG f d;cases k:(a[i]).bD with|true=>rw[k,Ev,if_pos rfl]at j;unfold uX;rw[j];exact bn a3 [bB 14 aO f,aV 18 2 aO f,hc u,cW 21 (r4 k),bh 54 i]|false=>cases o:(b[i]).bD with|true=>rw[o,Bool.or_true,if_pos rfl]at j;unfold uX;rw[j];exact bn a3 [bB 14 aO f,aV 18 2 aO f,hc u,cW 21 (r4 k),aV 25 2 aO d,hc z,cW 28 (r4 o),bh 54 i]|false=>rw[k,o,Bool.or_false,if_neg Bool.false_ne_true]at j;have x1:=My G F (a:=(a[i]).2) (b:=(b[i]).2) v p h1 w;have bE:=UJ G F (a:=(dR (a.take i) (b.take i)).2) (b:=((a[i]).mul (b[i])).2) (g i ac) (v.mul p) h3 (show bm K q (n+m+K.c)by unfold bm at*;omega);unfold uX;rw[j];exact bn a3 [bB 14 aO f,aV 18 2 aO f,hc u,cW 21 (r4 k),aV 25 2 aO d,hc z,cW 28 (r4 o),aV 33 2 aO f,aV 37 2 aO d,hc x1,hc bE,bh 54 i]
def Oo{a b:List aj}{z:aj}{iW:Nat}(h:a.length=b.length)(j:a.length<=9000)(d:dn K n a)(hb:dn K m b)(k:z.G K iW)(h1:bm K q n)(i:bm K q m)(h3:bm K q (p4 K a n m))(h4:bm K q iW):ag ab G 101 [ar a,ar b,z.T] (.bool (e6 (dR a b) z)):=by have p:=aor G F (Nat.le_of_eq h) j d hb h1 i h3;rw[kB,h,kB]at p;have g:=CP d hb;exact aI [hc p,hc (UO G F (c:=e6 (dR a b) z) g k h3 h4 o6)]
omit F in noncomputable abbrev aoF(M:List (List aj))(l:List Nat)(k i:Nat):List (Nat×aa):=[(0,aN M),(1,bW l),(2,aA k),(10,bW l),(11,.int .i64 ((l.map aA).length:Nat)),(12,aA i)]
omit F in theorem Yc{M:List (List aj)}{l:List Nat}{k:Nat}(hl:∀i∈l,i<M.length)(aX:∀r∈M,k<r.length)(gN:l.length<=9000):ag ab G 102 [aN M,bW l,aA k] (ar (jW M l k)):=by
 refine bL [Cg (ak 102) 0 0 0 l.length 2 48 25 7 (fun i=>((M.getD (l.getD i 0) []).getD k (aS 0)).T) ((jW M l k).map aO) (aoF M l k) (.exit 0) [] al (fun i hi=>?_) (xu [dH 13 aA l] an (by intros;kernel_rfl)) ?_] an;.have hx:=hl _ (bf hi);have hk:=aX _ (bf hx);rw[a4 hi,a4 hx,a4 hk];exact ug 12 13 (fun x=>[bB 13 aA hi,aV 14 1 aA hi,aV 19 1 ar hx,aV 22 2 aO hk]++x++[bh 26 i]) an (by intros;kernel_rfl)
 .unfold jW;rw[jf,<-C1 (f:=aO∘fun i=>(M.getD i []).getD k (aS 0)) (d:=0)];rfl
def aoq{M:List (List aj)}{v:List aj}{w:Nat}(t:bj K n w M)(hv:dn K m v)(x:v.length=w)(k:M.length<=9000)(u:w<=9000)(h1:bm K q n)(h:bm K q m)(h3:bm K q (w*(n+m+K.c+1))):ag ab G 104 [aN M,ar v] (.bool ((a8 M.length).all λ i=>e6 (dR (M.getD i []) v) (aS 0))):=by
 have o:∀i(f:i<M.length),ag ab G 148 [ar M[i],.cr [ar v] 0] (.bool (!e6 (dR (M.getD i []) v) (aS 0))):=λ i f=>by have⟨j,g1⟩:=t _ (bf f);have s:=Oo G F (a:=M[i]) (b:=v) (z:=aS 0) (iW:=m) ac ac g1 hv aj.G.zero h1 h (by unfold p4;rw[j];exact h3) h;rw[a4 f];exact aI [hc (uV G),hc s]
 have p:(a8 M.length).any (λ i=>!e6 (dR (M.getD i []) v) (aS 0))=!((a8 M.length).all λ i=>e6 (dR (M.getD i []) v) (aS 0)):=by rw[List.all_eq_not_any_not,Bool.not_not]
 have l:=Dp G (M:=M) (g:=148) (c:=.cr [ar v] 0) k o p;generalize(a8 M.length).all (λ i=>e6 (dR (M.getD i []) v) (aS 0))=b at*;cases b<;>exact aI [wG (A:=[aN M]) [0] (ar v) 1 [ar v] l]
end
end Go.Proofs.YtpcofcmencgkbaaGreat
namespace Go.ay.eU
noncomputable section
open Classical
def bC:Nat->(Nat->ax)->ax|0,_=>0|n+1,f=>bC n f+f n
def cQ{n:Nat}{f g:Nat->ax}(h:∀i,i<n->f i=g i):bC n f=bC n g:=by induction n with|zero=>rfl|succ n a=>rw[bC,bC,a λ i b=>h i ac,h n ac]
def nL(n:Nat):bC n (λ _=>0)=0:=by induction n with|zero=>rfl|succ n a=>rw[bC,a];grind
def Io(n:Nat)(f g:Nat->ax):bC n (λ i=>f i+g i)=bC n f+bC n g:=by induction n with|zero=>simp only[bC];grind|succ n a=>rw[bC,bC,bC,a];grind
def Xn(n:Nat)(f g:Nat->ax):bC n (λ i=>f i-g i)=bC n f-bC n g:=by induction n with|zero=>simp only[bC];grind|succ n a=>rw[bC,bC,bC,a];grind
def kU(n:Nat)(c:ax)(f:Nat->ax):bC n (λ i=>c*f i)=c*bC n f:=by induction n with|zero=>rw[bC,bC];grind|succ n a=>rw[bC,bC,a];grind
def tw(n:Nat)(c:ax)(f:Nat->ax):bC n (λ i=>f i*c)=bC n f*c:=by induction n with|zero=>rw[bC,bC];grind|succ n a=>rw[bC,bC,a];grind
def pA(n m:Nat)(f:Nat->Nat->ax):bC n (λ i=>bC m λ j=>f i j)=bC m λ j=>bC n λ i=>f i j:=by induction n with|zero=>simp only[bC];rw[nL]|succ n a=>simp only[bC];rw[a,Io]
def pz{n k:Nat}(e:k<n)(f:Nat->ax)(h:∀i,i<n->i≠k->f i=0):bC n f=f k:=by induction n with|zero=>omega|succ n c=>rw[bC];by_cases a:k=n;subst a;rw[cQ (g:=λ _=>0) λ i d=>h i ac ac,nL];grind;rw[c ac λ i d b=>h i ac b,h n ac ac];grind
def a4{α:Type}{l:List α}{i:Nat}{d:α}(h:i<l.length):l.getD i d=l[i]:=by rw[dt,eO h,Ew]
abbrev ee:=List (List ax)
def bs(m:ee)(i k:Nat):ax:=(m.getD i []).getD k 0
def jj(n w:Nat)(m:ee)(v:Nat->ax):Prop:=∃y:Nat->ax,∀k,k<w->v k=bC n λ j=>y j*bs m j k
def jj.row{n w i:Nat}(m:ee)(b:i<n):jj n w m (bs m i):=⟨λ j=>if j=i then 1 else 0,λ k c=>by rw[pz b _ (λ j d a=>by show(if j=i then(1:ax)else 0)*_=0;rw[if_neg a];grind)];show _=(if i=i then(1:ax)else 0)*_;rw[if_pos rfl];grind⟩
def jj.congr{n w:Nat}{m:ee}{u v:Nat->ax}(h:jj n w m u)(e:∀k,k<w->v k=u k):jj n w m v:=by have⟨y,b⟩:=h;exact⟨y,λ k a=>by rw[e k a,b k a]⟩
def jj.smul{n w:Nat}{m:ee}{v:Nat->ax}(c:ax)(h:jj n w m v):jj n w m λ k=>c*v k:=by have⟨y,b⟩:=h;exact⟨λ j=>c*y j,λ k a=>by show c*v k=_;rw[b k a,<-kU];exact cQ λ i _=>ap⟩
def jj.add{n w:Nat}{m:ee}{u v:Nat->ax}(h:jj n w m u)(d:jj n w m v):jj n w m λ k=>u k+v k:=by have⟨y,b⟩:=h;have⟨z,c⟩:=d;exact⟨λ j=>y j+z j,λ k a=>by show u k+v k=_;rw[b k a,c k a,<-Io];exact cQ λ i _=>ap⟩
def jj.trans{n w:Nat}{m c:ee}{v:Nat->ax}(h:jj n w c v)(b:∀j,j<n->jj n w m (bs c j)):jj n w m v:=by have⟨y,e⟩:=h;refine⟨λ i=>bC n λ j=>y j*(if a:j<n then(b j a).choose i else 0),λ k d=>?_⟩;rw[e k d,cQ (g:=λ j=>bC n λ i=>y j*(if a:j<n then(b j a).choose i else 0)*bs m i k) λ j a=>by rw[(b j a).choose_spec k d,<-kU];exact cQ λ i _=>by rw[dif_pos a];grind];rw[pA];exact cQ λ i _=>by rw[<-tw]
def wq(top:List ax)(k:Nat)(r:List ax):List ax:=if r.getD k 0=0 then r else Ex (λ x y=>x-y*r.getD k 0) r top
def swp(m:ee)(t p:Nat):ee:=(m.set t (m.getD p [])).set p (m.getD t [])
def sa(r:List ax)(k:Nat):List ax:=r.map (·/r.getD k 0)
def mf(m:ee)(t k p:Nat):ee:=(a8 m.length).map λ i=>if i=t then sa (m.getD p []) k else wq (sa (m.getD p []) k) k ((swp m t p).getD i [])
def o7(m:ee)(t k:Nat):Option Nat:=((m.drop t).findIdx? λ r=>decide (r.getD k 0≠0)).map (·+t)
def elim(m:ee):Nat->ee×List Nat|0=>(m,[])|k+1=>match o7 (elim m k).1 (elim m k).2.length k with|none=>elim m k|some p=>(mf (elim m k).1 (elim m k).2.length k p,(elim m k).2++[k])
def ad2{m:ee}{t k p:Nat}(h:o7 m t k=some p):t<=p/\p<m.length/\bs m p k≠0/\∀i,t<=i->i<p->bs m i k=0:=by unfold o7 at h;obtain⟨q,b,rfl⟩:=Option.map_eq_some_iff.1 h;rw[aag]at b;have⟨c,a,hb⟩:=b;rw[m6]at c;refine⟨ac,ac,?_,?_⟩;rw[AW]at a;have a:=of_decide_eq_true a;unfold bs;rw[a4 (ac:q+t<m.length)];have e:t+q=q+t:=Nat.add_comm _ _;simp only[e]at a;exact a;intro i h1 d;have:=hb (i-t) ac;rw[AW]at this;have e:t+(i-t)=i:=ac;simp only[e]at this;unfold bs;rw[a4 (ac:i<m.length)];simpa using this
def ad1{m:ee}{t k:Nat}(h:o7 m t k=none){i:Nat}(h1:t<=i)(a:i<m.length):bs m i k=0:=by unfold o7 at h;rw[Option.map_eq_none_iff,aah]at h;have:=h (m[i]) (by rw[gJ];exact⟨i-t,by rw[m6];omega,by rw[AW];congr 1;omega⟩);unfold bs;rw[a4 a];simpa using this
def NK{m:ee}{t k p:Nat}:(mf m t k p).length=m.length:=by simp[mf]
def Xf{m:ee}{t k p i:Nat}(a:i<m.length):(mf m t k p).getD i []=if i=t then sa (m.getD p []) k else wq (sa (m.getD p []) k) k ((swp m t p).getD i []):=by simp[mf,dt,a]
def XG{r:List ax}{k j:Nat}:(sa r k).getD j 0=r.getD j 0/r.getD k 0:=by unfold sa;generalize r.getD k 0=c;rw[dt,kZ,dt];cases r[j]? with|none=>show(0:ax)=0/c;rw[AY];grind|some x=>rfl
def acN{top r:List ax}{k j:Nat}(h:top.length=r.length):(wq top k r).getD j 0=r.getD j 0-top.getD j 0*r.getD k 0:=by unfold wq;split;rename_i b;rw[b];grind;generalize r.getD k 0=c;by_cases a:j<r.length;rw[a4 (show j<(Ex (λ x y=>x-y*c) r top).length by rw[ke];omega),a4 a,a4 (ac:j<top.length),List.getElem_zipWith];rw[dt,dt,dt,pP (by rw[ke];omega),pP ac,pP ac];simp only[Option.getD_none];grind
def acO{top r:List ax}{k:Nat}(h:top.length=r.length):(wq top k r).length=r.length:=by unfold wq;split;rfl;rw[ke];omega
def Oa{r:List ax}{k:Nat}:(sa r k).length=r.length:=by simp[sa]
def NQ{m:ee}{t p i:Nat}(c:t<m.length)(b:p<m.length):(swp m t p).getD i []=m.getD (if i=p then t else if i=t then p else i) []:=by unfold swp;simp only[dt,xL,kf];by_cases h1:p=i;subst h1;simp[b];rw[if_neg h1,if_neg (show¬i=p from λ e=>h1 e.symm)];by_cases a:t=i;subst a;simp[c];rw[if_neg a,if_neg (show¬i=t from λ e=>a e.symm)]
def nj(w:Nat)(m:ee):Prop:=∀r∈m,r.length=w
def nj.at{w:Nat}{m:ee}(h:nj w m){i:Nat}(a:i<m.length):(m.getD i []).length=w:=by rw[a4 a];exact h _ (bf a)
def Xg{w t k p:Nat}{m:ee}(h:nj w m)(c:t<m.length)(b:p<m.length){i:Nat}(e:i<m.length)(j:Nat):bs (mf m t k p) i j=if i=t then bs m p j/bs m p k else bs m (if i=p then t else i) j-bs m p j/bs m p k*bs m (if i=p then t else i) k:=by
 unfold bs;rw[Xf e];by_cases a:i=t;rw[if_pos a,if_pos a,XG];have d:(if i=p then t else i)<m.length:=by split<;>assumption
 rw[if_neg a,if_neg a,NQ c b,if_neg a,acN (by rw[Oa,h.at b,h.at d]),XG]
def Xh{w t k p:Nat}{m:ee}(h:nj w m)(f:t<m.length)(b:p<m.length):nj w (mf m t k p):=by
 intro r g;obtain⟨i,e,rfl⟩:=gJ.1 g;rw[NK]at e;rw[<-a4 (d:=[]),Xf e];split;rw[Oa,h.at b];rename_i a;have c:(if i=p then t else i)<m.length:=by split<;>assumption
 rw[NQ f b,if_neg a,acO (by rw[Oa,h.at b,h.at c]),h.at c]
def F9{α:Type}{l:List α}{a d:α}{i:Nat}(h:i<l.length):(l++[a]).getD i d=l.getD i d:=by rw[a4 h,a4 (by rw[cP];omega),List.getElem_append_left]
def Ga{α:Type}{l:List α}{a d:α}:(l++[a]).getD l.length d=a:=by rw[a4 am];simp
structure jA(n w k:Nat)(A m:ee)(pv:List Nat):Prop where
 Nk:nj w m
 len:m.length=n
 to:∀i,i<n->jj n w A (bs m i)back:∀i,i<n->jj n w m (bs A i)qq:pv.length<=n
 tp:∀s,s<pv.length->pv.getD s 0<k
 one:∀s,s<pv.length->∀i,i<n->bs m i (pv.getD s 0)=if i=s then 1 else 0
 lead:∀s,s<pv.length->∀j,j<pv.getD s 0->bs m s j=0
 low:∀i,pv.length<=i->i<n->∀j,j<k->bs m i j=0
def Ro{x:ax}(h:x≠0):x/x=1:=by rw[AY];exact ax.qk h
def jA.step{n w k p:Nat}{A m:ee}{g:List Nat}(h:jA n w k A m g)(Q:k<w)(N:o7 m g.length k=some p):jA n w (k+1) A (mf m g.length k p) (g++[k]):=by
 have⟨M,v,r,P⟩:=ad2 N;have L:=h.len;have H:g.length<m.length:=ac;have d:=λ(i:Nat)(f:i<n)(j:Nat)=>Xg (k:=k) h.Nk H v (i:=i) ac j;generalize e:g.length=t at*;have E:∀i,i<n->(if i=p then t else i)<n:=λ i f=>by split<;>omega
 have z:∀j,j<k->bs m p j=0:=λ j o=>h.low p ac ac j o;refine⟨Xh h.Nk H v,by rw[NK,L],?_,?_,by rw[cP,k7];omega,?_,?_,?_,?_⟩;intro i f;by_cases c:i=t;refine((h.to p ac).smul (1/bs m p k)).congr λ j _=>?_;rw[d i f j,if_pos c];grind;refine((h.to _ (E i f)).add ((h.to p ac).smul (-(bs m (if i=p then t else i) k/bs m p k)))).congr λ j _=>?_;rw[d i f j,if_neg c];grind;intro i f;refine(h.back i f).trans λ a J=>?_;have I:=jj.row (n:=n) (w:=w) (mf m t k p) (i:=t) ac;have O:∀j,bs m p j=bs m p k*bs (mf m t k p) t j:=λ j=>by rw[d t ac j,if_pos rfl];grind
 by_cases y:a=p;subst y;exact(I.smul (bs m a k)).congr λ j _=>O j
 · have hb:∃b,b<n/\b≠t/\(if b=p then t else b)=a:=by by_cases G:a=t;exact⟨p,ac,ac,by rw[if_pos rfl];omega⟩;exact⟨a,J,G,by rw[if_neg y]⟩
   have⟨b,x,D,C⟩:=hb;refine((jj.row (n:=n) (w:=w) (mf m t k p) x).add (I.smul (bs m a k))).congr λ j _=>?_;rw[d b x j,if_neg D,C,d t ac j,if_pos rfl];grind
 intro s u;rw[cP,k7,e]at u;by_cases q:s<t;rw[F9 ac];have:=h.tp s;omega;rw[show s=g.length from ac,Ga];omega;intro s u i f;rw[cP,k7,e]at u;by_cases q:s<t;rw[F9 ac];have h1:=h.tp s ac;have B:=h.one s ac;rw[d i f];have K:bs m p (g.getD s 0)=0:=z _ h1;rw[K];by_cases c:i=t;rw[if_pos c,if_neg ac];grind;rw[if_neg c,B _ (E i f)];by_cases l:i=s;rw[if_pos l,if_neg (ac:¬i=p),if_pos l];grind;rw[if_neg l,if_neg (show¬(if i=p then t else i)=s by split<;>omega)];grind;have:s=t:=ac;subst this;rw[show(g++[k]).getD s 0=k by rw[<-e];exact Ga];rw[d i f,Ro r];by_cases c:i=s;rw[if_pos c,if_pos c];rw[if_neg c,if_neg c];grind;intro s u j o;rw[cP,k7,e]at u;by_cases q:s<t;rw[F9 ac]at o;have h1:=h.tp s;rw[d s ac,if_neg ac,if_neg ac,h.lead s ac j o,z j ac];grind;have:s=t:=ac;subst this;rw[show(g++[k]).getD s 0=k by rw[<-e];exact Ga]at o;rw[d s ac,if_pos rfl,z j o];grind;intro i h1 B j o;rw[cP,k7,e]at h1;rw[d i B,if_neg ac];by_cases F:j=k;subst F;rw[Ro r];grind;rw[z j ac,h.low _ (by split<;>omega) (E i B) j ac];grind
def jA.skip{n w k:Nat}{A m:ee}{a:List Nat}(h:jA n w k A m a)(d:o7 m a.length k=none):jA n w (k+1) A m a:=⟨h.Nk,h.len,h.to,h.back,h.qq,λ s e=>by have:=h.tp s e;omega,h.one,h.lead,λ i h1 c j f=>by by_cases b:j=k;subst b;exact ad1 d h1 (by rw[h.len];exact c);exact h.low i h1 c j ac⟩
def BB{w:Nat}{A:ee}(h:nj w A):∀k,k<=w->jA A.length w k A (elim A k).1 (elim A k).2|0,_=>⟨h,rfl,λ i b=>jj.row A b,λ i b=>jj.row A b,Nat.zero_le _,λ s a=>absurd a (fv _),λ s a=>absurd a (fv _),λ s a=>absurd a (fv _),λ i _ _ j e=>absurd e (fv _)⟩|k+1,f=>by have d:=BB h k ac;unfold elim;cases c:o7 (elim A k).1 (elim A k).2.length k with|none=>exact d.skip c|some p=>exact d.step ac c
def z4(m:ee)(a:List Nat)(n:Nat)(k:Nat):ax:=match a.findIdx? (·==k)with|some s=>bs m s n|none=>0
def WW{n w c:Nat}{A m:ee}{a:List Nat}(h:jA n w c A m a){s:Nat}(b:s<a.length)(q:Nat):z4 m a q (a.getD s 0)=bs m s q:=by
 unfold z4;have:a.findIdx? (·==a.getD s 0)=some s:=by rw[aag];refine⟨b,by rw[a4 b];exact beq_self_eq_true _,λ j g=>?_⟩;have h1:=h.one s b s (by have:=h.qq;omega);have f:=h.one j ac s (by have:=h.qq;omega);rw[if_pos rfl]at h1;rw[if_neg (ac:¬s=j)]at f;rw[beq_iff_eq,a4 b];intro e;rw[a4 (ac:j<a.length),e,<-a4 (d:=0) b,h1]at f;grind
 rw[this]
def anq{m:ee}{a:List Nat}{q k:Nat}(h:k∉a):z4 m a q k=0:=by unfold z4;rw[aah.2 λ x b=>by rw[beq_eq_false_iff_ne];rintro rfl;exact h b]
def kW(r:List aj):List ax:=r.map λ x=>x.2.val
def bR(M:List (List aj)):ee:=M.map kW
def IF(r:List aj)(k:Nat):(kW r).getD k 0=(r.getD k (aS 0)).2.val:=by unfold kW;rw[dt,dt,kZ];cases r[k]? with|none=>rfl|some x=>rfl
def Oq(M:List (List aj))(i:Nat):(bR M).getD i []=kW (M.getD i []):=by unfold bR;rw[dt,dt,kZ];cases M[i]? with|none=>rfl|some x=>rfl
def nM(M:List (List aj)):(bR M).length=M.length:=aQ _
def Yd(r:List aj):(kW r).length=r.length:=aQ _
variable{K:bY}{n m w:Nat}{M:List (List aj)}
def R2(t k:Nat)(b:t<=M.length):o7 (bR M) t k=if e8 M t k<M.length then some (e8 M t k)else none:=by
 unfold o7 e8 bR;rw[<-Px,List.findIdx?_map];have e:(λ r:List ax=>decide (r.getD k 0≠0))∘kW=λ r=>!(r.getD k (aS 0)).bD:=by funext r;show decide ((kW r).getD k 0≠0)=_;rw[IF];cases e:(r.getD k (aS 0)).bD with|true=>rw[pT.1 e];simp|false=>
     have:¬(r.getD k (aS 0)).2.val=0:=λ h=>by rw[pT.2 h]at e;cases e
     simpa using this
 rw[e];by_cases h:t+(M.drop t).findIdx (λ r=>!(r.getD k (aS 0)).bD)<M.length;rw[if_pos h];rw[List.findIdx?_eq_some_iff_findIdx_eq.2 ⟨by rw[m6];omega,rfl⟩];show some _=some _;rw[Nat.add_comm];rw[if_neg h];have a:(M.drop t).findIdx (λ r=>!(r.getD k (aS 0)).bD)<=(M.drop t).length:=List.findIdx_le_length;rw[List.findIdx?_eq_none_iff_findIdx_eq.2 (by rw[m6]at a⊢;omega)];rfl
def aox{r:List aj}{x:aj}(d:dn K n r)(c:x.G K m):kW (iG r x)=(kW r).map (·/x.2.val):=by unfold kW iG;rw[jf,jf];refine jR λ y b=>?_;show(az.div y.2 x.2).val=y.2.val/x.2.val;rw[az.div_val (d y b).red c.red,AY]
def aow{a b:List aj}{x:aj}(d:dn K n a)(hb:dn K m b){q:Nat}(f:x.G K q):kW (g5 a b x)=Ex (λ p y=>p-y*x.2.val) (kW a) (kW b):=by
 unfold kW g5;rw[List.map_zipWith,List.zipWith_map_left,List.zipWith_map_right];have key:∀(a b:List aj),dn K n a->dn K m b->Ex (λ p q=>(p.sub (q.mul x)).2.val) a b=Ex (λ p q=>p.2.val-q.2.val*x.2.val) a b:=λ a=>by induction a with|nil=>intro b _ _;rfl|cons y a g=>intro b d hb;cases b with|nil=>rfl|cons z b=>rw[aai,aai,g b (λ c hc=>d c (cR _ hc)) (λ c hc=>hb c (cR _ hc))];have h1:=(d y cp).red;have e:=(hb z cp).red;rw[show(y.sub (z.mul x)).2.val=y.2.val-z.2.val*x.2.val from(az.Im h1 (az.Hi e f.red)).trans (by rw[az.wX e f.red])]
 exact key a b d hb
def Ip(M:List (List aj))(t p:Nat)(c:t<M.length)(b:p<M.length)(i:Nat):(iu M t p).getD i []=M.getD (if i=p then t else if i=t then p else i) []:=by unfold iu;show((M.set t (M.getD p [])).set p (M.getD t [])).getD i []=_;rw[dt,xL];by_cases h1:p=i;subst h1;rw[if_pos rfl,if_pos rfl,kf,if_pos b];rfl;rw[if_neg h1,if_neg (λ h=>h1 h.symm),xL];by_cases a:t=i;subst a;rw[if_pos rfl,if_pos rfl,if_pos c];rfl;rw[if_neg a,if_neg (λ h=>a h.symm),<-dt]
def step_eq(z:bj K n w M){t k:Nat}(l:t<M.length){a:List Nat}(v:a.length=t)(d:e8 M t k<M.length):bR (gG (M,a) k).1=mf (bR M) t k (e8 M t k):=by
 subst v;have G:(gG (M,a) k).1=((iu M a.length (e8 M a.length k)).set a.length (iG ((iu M a.length (e8 M a.length k)).getD a.length []) (((iu M a.length (e8 M a.length k)).getD a.length []).getD k (aS 0)))).mapIdx (λ i r=>if i !=a.length&&!(r.getD k (aS 0)).bD then g5 r (iG ((iu M a.length (e8 M a.length k)).getD a.length []) (((iu M a.length (e8 M a.length k)).getD a.length []).getD k (aS 0))) (r.getD k (aS 0))else r):=by unfold gG;exact congrArg Prod.fst (if_pos d)
 rw[G];generalize E:e8 M a.length k=p at*;generalize F:a.length=t at*;have A:t<=p:=by rw[<-E];exact zH _ _ _
 have C:=z.swap (i:=t) (j:=p) l d;have f:(iu M t p).getD t []=M.getD p []:=by rw[Ip M t p l d];by_cases h:t=p;rw[if_pos h,h];rw[if_neg h,if_pos rfl]
 rw[f];have b:=z.get d;have v1:kW (iG (M.getD p []) ((M.getD p []).getD k (aS 0)))=sa ((bR M).getD p []) k:=by rw[aox b.2 b.2.get,Oq];unfold sa;rw[IF]
 have s:(iu M t p).length=M.length:=NP _ _ _;unfold bR mf;refine ie (by rw[aQ,AU,kf,s,aQ,dx,aQ]) λ i h1 H=>?_;have D:i<M.length:=by rw[aQ,AU,kf,s]at h1;exact h1
 have g:i<(iu M t p).length:=by rw[s];exact D
 rw[iz,iz,nh,List.getElem_mapIdx,AV];by_cases e:t=i;have u:(i !=t)=false:=by rw[e];exact bne_self_eq_false i
 simp only[if_pos e,u,tV];rw[if_pos e.symm];exact v1;have u:(i !=t)=true:=by rw[bne_iff_ne];exact λ h=>e h.symm
 simp only[if_neg e,u,mA];have x:(iu M t p)[i]=(iu M t p).getD i []:=by rw[dt,eO g,Ew]
 have o:(swp (M.map kW) t p).getD i []=kW (iu M t p)[i]:=by rw[x,Ip M t p l d,NQ (m:=M.map kW) (by rw[aQ];exact l) (by rw[aQ];exact d)];exact Oq M _
 rw[if_neg (c:=i=t) (λ h=>e h.symm),o];have y:=C _ (bf g);generalize(iu M t p)[i]=r at*;unfold wq;rw[IF];cases q:(r.getD k (aS 0)).bD with|true=>rw[if_pos (pT.1 q),if_neg al]|false=>
   have B:¬(r.getD k (aS 0)).2.val=0:=λ h=>by rw[pT.2 h]at q;cases q
   rw[if_neg B,if_pos al,aow y.2 (NA b.2 b.2.get) y.2.get,v1];rfl
def fold_eq(d:bj K n w M):∀k,k<=eJ M->elim (bR M) k=(bR ((a8 k).foldl gG (M,[])).1,((a8 k).foldl gG (M,[])).2)
 |0,_=>rfl|k+1,h=>by
   have f:=fold_eq d k ac;have H:=CZ d rfl k;rw[ix,Eu];generalize(a8 k).foldl gG (M,[])=st at*;show(match o7 (elim (bR M) k).1 (elim (bR M) k).2.length k with|none=>elim (bR M) k|some p=>(mf (elim (bR M) k).1 (elim (bR M) k).2.length k p,(elim (bR M) k).2++[k]))=(bR (gG st k).1,(gG st k).2);rw[f];simp only;rw[R2 _ _ (by rw[H.len];exact H.pl)];have⟨R,a⟩:=st;by_cases b:e8 R a.length k<R.length;rw[if_pos b];have e:a.length<R.length:=gA (zH _ _ _) b;have c:=step_eq H.wV e rfl b;have g:(gG (R,a) k).2=a++[k]:=by unfold gG;exact congrArg Prod.snd (if_pos b)
   rw[c,g];rw[if_neg b];have c:gG (R,a) k=(R,a):=by unfold gG;exact if_neg b
   rw[c]
def Nl(a:bj K n w M):elim (bR M) (eJ M)=(bR (bl M).1,(bl M).2):=fold_eq a _ (a2 _)
def lB(m:ee)(a:List Nat)(q k:Nat):ax:=if k=q then 1 else-z4 m a q k
def GY{m:ee}{a:List Nat}{q:Nat}:lB m a q q=1:=if_pos rfl
def L3{m:ee}{a:List Nat}{q k:Nat}(h:k∉a)(b:k≠q):lB m a q k=0:=by unfold lB;rw[if_neg b,anq h];grind
def GZ{n w q:Nat}{A m:ee}{b:List Nat}(h:jA n w w A m b)(hw:q<w)(v:q∉b){i:Nat}(B:i<n):bC w (λ k=>bs A i k*lB m b q k)=0:=by
 have row:∀a,a<n->bC w (λ k=>bs m a k*lB m b q k)=0:=by
   intro a p;by_cases c:a<b.length;have e:=h.tp a c;have d:b.getD a 0≠q:=λ e=>v (by rw[<-e,a4 c];exact bf c);have h1:bC w (λ k=>bs m a k*lB m b q k)=bC w (λ k=>(if k=q then bs m a q else 0)+(if k=b.getD a 0 then-bs m a q else 0)):=cQ λ k o=>by by_cases f:k=q;subst f;rw[GY,if_pos rfl,if_neg (λ e=>d e.symm)];grind;rw[if_neg f];by_cases l:k=b.getD a 0;subst l;rw[if_pos rfl,h.one a c a p,if_pos rfl];unfold lB;rw[if_neg f,WW h c];grind;rw[if_neg l];by_cases u:k∈b;obtain⟨s,r,rfl⟩:=gJ.1 u;have t:a≠s:=λ e=>l (by subst e;rw[a4 r]);have:=h.one s r a p;rw[a4 r,if_neg t]at this;rw[this];grind;rw[L3 u f];grind
   rw[h1,Io,pz hw _ (λ k o d=>if_neg d),pz e _ (λ k o d=>if_neg d),if_pos rfl,if_pos rfl];grind;have z:=h.low a ac p;rw[cQ (g:=λ _=>0) λ k o=>by rw[z k ac];grind];exact nL w
 have⟨y,x⟩:=h.back i B;rw[cQ (g:=λ k=>bC n λ j=>y j*(bs m j k*lB m b q k)) λ k o=>by rw[x k ac,<-tw];exact cQ λ j _=>ap];rw[pA,cQ (g:=λ _=>0) λ j C=>by rw[kU,row j C];grind];exact nL n
def TB{n w:Nat}{A m:ee}{c:List Nat}(h:jA n w w A m c){x:Nat->ax}(f:∀i,i<n->bC w (λ k=>bs A i k*x k)=0){a:Nat}(o:a<c.length):bC w (λ k=>bs m a k*x k)=0:=by
 have b:a<n:=by have:=h.qq;omega
 have⟨y,e⟩:=h.to a b;rw[cQ (g:=λ k=>bC n λ j=>y j*(bs A j k*x k)) λ k l=>by rw[e k ac,<-tw];exact cQ λ j _=>ap];rw[pA,cQ (g:=λ _=>0) λ j d=>by rw[kU,f j d];grind];exact nL n
def ik(n w:Nat)(C:Nat->Nat->ax):Prop:=∃c:Nat->ax,(∃j,j<n/\c j≠0)/\∀k,k<w->bC n (λ j=>c j*C j k)=0
def wZ(n w:Nat)(C:Nat->Nat->ax):ee:=(a8 n).map λ i=>(a8 w).map λ k=>C i k
def ai0(n w:Nat)(C:Nat->Nat->ax):(wZ n w C).length=n:=by unfold wZ;rw[aQ,dx]
def ai1(n w:Nat)(C:Nat->Nat->ax):nj w (wZ n w C):=λ r a=>by obtain⟨i,_,rfl⟩:=bp.1 a;rw[aQ,dx]
def aiZ{n w:Nat}{C:Nat->Nat->ax}{i k:Nat}(b:i<n)(a:k<w):bs (wZ n w C) i k=C i k:=by unfold bs wZ;rw[a4 (show i<((a8 n).map λ i=>(a8 w).map λ k=>C i k).length by rw[aQ,dx];exact b),iz,nh];rw[a4 (by rw[aQ,dx];exact a),iz,nh]
def missing{n:Nat}{l:List Nat}(h:l.length<n):∃q,q<n/\q∉l:=by refine nO λ c=>?_;have:=aC.pe (l:=a8 n) (S:=l) List.nodup_range λ q d=>nO λ b=>c ⟨q,c8.1 d,b⟩;rw[dx]at this;omega
def Rh{n w:Nat}(h:w<n)(C:Nat->Nat->ax):ik n w C:=by have H:=BB (ai1 w n λ k j=>C j k) n (a2 _);rw[ai0]at H;have⟨q,b,d⟩:=missing (gA H.qq h);refine⟨lB (elim (wZ w n λ k j=>C j k) n).1 (elim (wZ w n λ k j=>C j k) n).2 q,⟨q,b,by rw[GY];grind⟩,λ k a=>?_⟩;have:=GZ H b d a;rw[<-this];exact cQ λ j c=>by rw[aiZ a c];grind
def ac9{n w v:Nat}(h:w<n){U:Nat->Nat->ax}{V:Nat->Nat->ax}(b:∀i,i<n->∃y:Nat->ax,∀k,k<v->U i k=bC w λ j=>y j*V j k):ik n v U:=by have⟨c,hc,f⟩:=Rh h λ i j=>if a:i<n then(b i a).choose j else 0;refine⟨c,hc,λ k e=>?_⟩;rw[cQ (g:=λ i=>bC w λ j=>c i*(if a:i<n then(b i a).choose j else 0)*V j k) λ i a=>by rw[(b i a).choose_spec k e,<-kU];exact cQ λ j _=>by rw[dif_pos a];grind];rw[pA,cQ (g:=λ _=>0) λ j d=>by rw[tw,f j d];grind];exact nL w
def NM{r n:Nat}{f:Nat->ax}(h:r<=n)(a:∀j,r<=j->j<n->f j=0):bC n f=bC r f:=by induction n with|zero=>rw[Nat.le_zero.1 h]|succ n b=>by_cases e:r=n+1;rw[e];rw[bC,b ac (λ j h1 c=>a j h1 ac),a n ac ac];grind
def TP{n:Nat}{Y W:Nat->Nat->ax}(A:∀t,t<n->∀s,s<n->bC n (λ i=>Y t i*W i s)=if t=s then 1 else 0){c:Nat->ax}(hc:∀s,s<n->bC n (λ i=>c i*W i s)=0):∀i,i<n->c i=0:=by
 intro d q;refine nO λ b=>?_;have⟨a,⟨j,B,m⟩,z⟩:=Rh (Nat.lt_succ_self n) λ s i=>if s<n then W i s else if i=d then 1 else 0;have r:∀i,i<n->bC n (λ s=>a s*W i s)+a n*(if i=d then 1 else 0)=0:=λ i l=>by have:=z i l;rw[bC]at this;simp only[if_neg (Nat.lt_irrefl n)]at this;rw[cQ (f:=λ s=>a s*W i s) (g:=λ s=>a s*if s<n then W i s else if i=d then 1 else 0) λ s o=>by rw[if_pos o]];exact this
 have x:a n*c d=0:=by
   have h1:bC n (λ i=>c i*(bC n (λ s=>a s*W i s)+a n*(if i=d then 1 else 0)))=0:=by rw[cQ (g:=λ _=>0) λ i l=>by rw[r i l];grind];exact nL n
   have w:bC n (λ i=>c i*(bC n (λ s=>a s*W i s)+a n*(if i=d then 1 else 0)))=bC n (λ i=>bC n (λ s=>a s*(c i*W i s))+(if i=d then a n*c d else 0)):=cQ λ i l=>by
     have:c i*bC n (λ s=>a s*W i s)=bC n (λ s=>a s*(c i*W i s)):=by rw[<-kU];exact cQ λ s _=>ap
     rw[<-this];by_cases e:i=d;subst e;rw[if_pos rfl,if_pos rfl];grind;rw[if_neg e,if_neg e];grind
   rw[w,Io,pA,cQ (f:=λ s=>bC n λ i=>a s*(c i*W i s)) (g:=λ _=>0) (λ s o=>by rw[kU,hc s o];grind),nL,pz q _ (λ i _ b=>if_neg b),if_pos rfl]at h1;grind
 have u:a n=0:=(ax.ql x).resolve_right b;have y:∀t,t<n->a t=0:=λ t v=>by
   have h1:bC n (λ i=>Y t i*bC n (λ s=>a s*W i s))=0:=by rw[cQ (g:=λ _=>0) λ i l=>by have:=r i l;rw[u]at this;rw[show bC n (λ s=>a s*W i s)=0 from ap];grind];exact nL n
   rw[cQ (g:=λ i=>bC n λ s=>a s*(Y t i*W i s)) λ i _=>by rw[<-kU];exact cQ λ s _=>ap]at h1;rw[pA,cQ (g:=λ s=>a s*(if t=s then 1 else 0)) (λ s o=>by rw[kU,A t v s o]),pz v _ (λ s _ b=>by rw[if_neg (λ h=>b h.symm)];grind),if_pos rfl]at h1;grind
 by_cases p:j=n;exact m (by rw[p];exact u);exact m (y j ac)
def VW{n w:Nat}{A m:ee}{a:List Nat}(h:jA n w w A m a):a.length=n↔¬ik n w (bs A):=by
 constructor;rintro v⟨c,⟨q,e,hc⟩,r⟩;have o:∀i,∃y:Nat->ax,i<n->∀k,k<w->bs m i k=bC n λ j=>y j*bs A j k:=λ i=>by by_cases b:i<n;have⟨y,f⟩:=h.to i b;exact⟨y,λ _=>f⟩;exact⟨λ _=>0,λ h=>(b h).elim⟩
 refine hc (TP (n:=n) (Y:=λ t i=>(o t).choose i) (W:=λ i s=>bs A i (a.getD s 0)) (λ t l s u=>?_) (λ s u=>r _ (h.tp s ac)) q e);have:=(o t).choose_spec l (a.getD s 0) (h.tp s ac);rw[<-this,h.one s ac t l];intro hd;refine Nat.le_antisymm h.qq (Nat.le_of_not_lt λ d=>hd (ac9 d (V:=bs m) λ i b=>?_));have⟨y,f⟩:=h.back i b;refine⟨y,λ k g=>?_⟩;rw[f k g];exact NM h.qq λ j h1 p=>by rw[h.low j h1 p k g];grind
def Span(n w:Nat)(C:Nat->Nat->ax)(v:Nat->ax):Prop:=∃y:Nat->ax,∀k,k<w->v k=bC n λ j=>y j*C j k
def WZ{n w:Nat}{C:Nat->Nat->ax}(d:¬ik n w C)(hd:ik (n+1) w C):Span n w C (C n):=by have⟨c,⟨j,l,hc⟩,b⟩:=hd;have f:c n≠0:=λ e=>d ⟨c,⟨j,by rcases Nat.lt_succ_iff_lt_or_eq.1 l with h|h;exact h;exact absurd (by rw[h];exact e) hc,hc⟩,λ k a=>by have:=b k a;rw[bC,e]at this;grind⟩;have m:=ax.qk f;refine⟨λ j=>-(c n)⁻¹*c j,λ k a=>?_⟩;have:=b k a;rw[bC]at this;rw[cQ (g:=λ j=>-(c n)⁻¹*(c j*C j k)) λ j _=>ap,kU];generalize(c n)⁻¹=i at*;grind
def Span.row{n w i:Nat}{C:Nat->Nat->ax}(b:i<n):Span n w C (C i):=⟨λ j=>if j=i then 1 else 0,λ k c=>by refine Eq.symm ((pz b _ λ j d a=>?_).trans ?_);simp only[if_neg a];grind;simp only[if_true];grind⟩
def agF{n:Nat}{B m:ee}{d:List Nat}(h:jA n (n+n) (n+n) B m d)(e:¬ik n n (bs B))(r:∀i,i<n->∀s,s<n->bs B i (n+s)=if i=s then 1 else 0):d.length=n/\∀s,s<n->d.getD s 0<n:=by have t:d.length=n:=(VW h).2 λ⟨c,⟨j,b,hc⟩,u⟩=>hc (by have:=u (n+j);rw[cQ (g:=λ i=>c i*(if i=j then 1 else 0)) λ i e=>by rw[r i e j b]]at this;rw[pz b _ λ i _ f=>by simp only[if_neg f];grind]at this;simp only[if_true]at this;grind);refine⟨t,λ s o=>Nat.lt_of_not_le λ q=>?_⟩;have h1:=h.one s ac s o;rw[if_pos rfl]at h1;have⟨y,l⟩:=h.to s o;have v:∀j,j<n->y j=0:=λ j b=>nO λ hc=>e ⟨y,⟨j,b,hc⟩,λ k w=>by rw[<-l k ac];exact h.lead s ac k ac⟩;have p:=l (d.getD s 0) (h.tp s ac);rw[h1,cQ (g:=λ _=>0) (λ j b=>by rw[v j b];grind),nL]at p;grind
def agD{n:Nat}{B m:ee}{c:List Nat}(h:jA n (n+n) (n+n) B m c)(f:∀s,s<n->c.getD s 0=s)(t:c.length=n)(p:∀i,i<n->∀s,s<n->bs B i (n+s)=if i=s then 1 else 0){i k:Nat}(d:i<n)(o:k<n):bC n (λ j=>bs m i (n+j)*bs B j k)=if i=k then 1 else 0:=by
 have⟨y,e⟩:=h.to i d;have r:∀j,j<n->bs m i (n+j)=y j:=λ j a=>by rw[e (n+j) ac,cQ (g:=λ q=>y q*(if q=j then 1 else 0)) (λ q l=>by rw[p q l j a]),pz a _ λ q _ b=>by simp only[if_neg b];grind];simp only[if_true];grind
 have h1:=h.one k ac i d;rw[f k o,e k ac]at h1;rw[cQ (g:=λ j=>y j*bs B j k) (λ j a=>by rw[r j a]),h1]
end
noncomputable section
open Classical
variable{K:bY}{n w:Nat}{M:List (List aj)}
def IE(a:bj K n w M):nj w (bR M):=λ r c=>by obtain⟨x,b,rfl⟩:=bp.1 c;rw[Yd];exact(a x b).1
def r0(a:bj K n w M)(b:M≠[]):jA M.length w w (bR M) (bR (bl M).1) (bl M).2:=by have h:=BB (IE a) w (a2 _);have hc:=gj a b;have e:=Nl a;rw[hc]at e;rw[e,nM]at h;exact h
def agx(b:bj K n w M)(a:M≠[]):(bl M).2.length=M.length↔¬ik M.length w (bs (bR M)):=VW (r0 b a)
def jH{i k:Nat}:bs (bR M) i k=((M.getD i []).getD k (aS 0)).2.val:=by unfold bs;rw[Oq,IF]
structure jB where
 f:Nat->aj
 s:Nat->Nat
 pv:List Nat
 dV:aj
def jB.rows(w h:Nat)(x:jB):List (List aj):=(a8 h).map λ i=>(a8 w).map λ j=>x.f (x.s i*w+j)
def fC(s:Nat->Nat)(t p i:Nat):Nat:=s (if i=p then t else if i=t then p else i)
def me(f:Nat->aj)(o k j:Nat)(y:aj):Nat->aj:=λ q=>if o+k<=q/\q<o+j then(f q).div y else f q
def hX(f:Nat->aj)(o b k j:Nat)(y:aj):Nat->aj:=λ q=>if o+k<=q/\q<o+j/\(f (b+(q-o))).bD=false then(f q).sub (y.mul (f (b+(q-o))))else f q
def eI(f:Nat->aj)(s:Nat->Nat)(w t k:Nat):Nat->Nat->aj|0=>f|i+1=>if i≠t/\(eI f s w t k i (s i*w+k)).bD=false then hX (eI f s w t k i) (s i*w) (s t*w) k w (eI f s w t k i (s i*w+k))else eI f s w t k i
def mQ(w k:Nat)(x:jB)(t p:Nat):Nat->aj:=me x.f (fC x.s t p t*w) k w (x.f (fC x.s t p t*w+k))
def aki(w k:Nat)(x:jB)(t p:Nat):aj:=(if t<p then x.dV.neg else x.dV).mul (x.f (fC x.s t p t*w+k))
def tn(w h k:Nat)(x:jB)(t p:Nat):jB:=⟨eI (mQ w k x t p) (fC x.s t p) w t k h,fC x.s t p,x.pv++[k],aki w k x t p⟩
def zG(w h:Nat)(x:jB)(k:Nat):jB:=if e8 (x.rows w h) x.pv.length k<h then tn w h k x x.pv.length (e8 (x.rows w h) x.pv.length k)else x
def qo(w h:Nat)(x:jB):Nat->jB|0=>x|k+1=>zG w h (qo w h x k) k
def M7{w a b j:Nat}(c:j<w)(h1:b*w<=a*w+j)(h2:a*w+j<b*w+w):a=b:=by rcases Nat.lt_trichotomy a b with h|h|h;have:=ck w (show a+1<=b from h);rw[fU]at this;omega;exact h;have:=ck w (show b+1<=a from h);rw[fU]at this;omega
end
noncomputable section
open Classical
variable{w h k:Nat}{x:jB}
def kv:(x.rows w h).length=h:=by unfold jB.rows;rw[aQ,dx]
def akG{i:Nat}(a:i<h):(x.rows w h).getD i []=(a8 w).map λ j=>x.f (x.s i*w+j):=by rw[a4 (by rw[kv];exact a)];simp[jB.rows]
def Nt{i j:Nat}(b:i<h)(a:j<w):((x.rows w h).getD i []).getD j (aS 0)=x.f (x.s i*w+j):=by rw[akG b,a4 (by simpa using a)];simp
def HZ:nj w (bR (x.rows w h)):=λ r a=>by obtain⟨y,b,rfl⟩:=bp.1 a;obtain⟨i,_,rfl⟩:=bp.1 b;rw[Yd,aQ,dx]
def Nu{i j:Nat}(a:i<h)(b:j<w):bs (bR (x.rows w h)) i j=(x.f (x.s i*w+j)).2.val:=by rw[jH,Nt a b]
def UG{a b:ee}(c:nj w a)(hb:nj w b)(f:a.length=b.length)(e:∀i,i<a.length->∀j,j<w->bs a i j=bs b i j):a=b:=by refine ie f λ i h1 h2=>ie (by rw[c _ (bf h1),hb _ (bf h2)]) λ j d g=>?_;have:=e i h1 j (by rw[<-c _ (bf h1)];exact d);unfold bs at this;rw[a4 h1,a4 h2,a4 d,a4 g]at this;exact this
def Own(h:Nat)(s:Nat->Nat):Prop:=(∀i,i<h->s i<h)/\∀i,i<h->∀j,j<h->s i=s j->i=j
def NN{t p i:Nat}(b:t<h)(a:p<h)(c:i<h):(if i=p then t else if i=t then p else i)<h:=by split;exact b;split;exact a;exact c
def Own.Xo{s:Nat->Nat}(H:Own h s){t p:Nat}(b:t<h)(a:p<h):Own h (fC s t p):=by refine⟨λ i c=>H.1 _ (NN b a c),λ i c j d e=>?_⟩;have:=H.2 _ (NN b a c) _ (NN b a d) e;split at this<;>split at this<;>(try split at this)<;>(try split at this)<;>omega
def Xq{s:Nat->Nat}(t p:Nat):fC s t p t=s p:=by unfold fC;split<;>simp_all
variable{K:bY}{n m Ua:Nat}
def Fu{f:Nat->aj}{s:Nat->Nat}{t:Nat}(H:Own h s)(p:t<h)(r:k<w):∀i,i<=h->∀a,a<h->∀j,j<w->eI f s w t k i (s a*w+j)=if a<i/\a≠t/\(f (s a*w+k)).bD=false/\k<=j/\(f (s t*w+j)).bD=false then(f (s a*w+j)).sub ((f (s a*w+k)).mul (f (s t*w+j)))else f (s a*w+j)
 |0,_,a,_,j,_=>by rw[if_neg ac];rfl|i+1,z,a,g,j,c=>by
   have d:=Fu (f:=f) H p r i ac;have e:i<h:=ac;have v:eI f s w t k i (s i*w+k)=f (s i*w+k):=by rw[d i e k r,if_neg ac]
   have y:∀j,j<w->eI f s w t k i (s t*w+j)=f (s t*w+j):=λ j c=>by rw[d t p j c,if_neg ac]
   show(if i≠t/\(eI f s w t k i (s i*w+k)).bD=false then hX (eI f s w t k i) (s i*w) (s t*w) k w (eI f s w t k i (s i*w+k))else eI f s w t k i) (s a*w+j)=_;rw[v];by_cases hc:i≠t/\(f (s i*w+k)).bD=false;rw[if_pos hc];unfold hX;by_cases l:a=i;subst l;have u:s t*w+(s a*w+j-s a*w)=s t*w+j:=ac;rw[u,y j c,d a g j c,if_neg (ac:¬(a<a/\_))];by_cases b:k<=j/\(f (s t*w+j)).bD=false;rw[if_pos ⟨ac,ac,b.2⟩,if_pos ⟨ac,hc.1,hc.2,b.1,b.2⟩];rw[if_neg (λ q=>b ⟨ac,q.2.2⟩),if_neg (λ q=>b ⟨q.2.2.2.1,q.2.2.2.2⟩)];have o:¬(s i*w+k<=s a*w+j/\s a*w+j<s i*w+w):=λ q=>l (H.2 _ g _ e (M7 c ac q.2));rw[if_neg (λ q=>o ⟨q.1,q.2.1⟩),d a g j c];by_cases b:a<i;simp only[b,show a<i+1 from ac,true_and];rw[if_neg ac,if_neg ac];rw[if_neg hc,d a g j c];by_cases l:a=i;subst l;rw[if_neg ac,if_neg (λ q=>hc ⟨q.2.1,q.2.2.1⟩)];by_cases b:a<i;simp only[b,show a<i+1 from ac,true_and];rw[if_neg ac,if_neg ac]
def QY{f:Nat->aj}{s:Nat->Nat}{t:Nat}(H:Own h s)(g:t<h)(b:k<w)(d:∀q,(f q).G K m)(l:∀a,a<h->a≠t->∀j,j<w->(f (s a*w+j)).G K n):∀i,i<=h->∀q,(eI f s w t k i q).G K (n+n+m+K.c+1)
 |0,_,q=>(d q).mono ac|i+1,u,q=>by
   have p:=QY (f:=f) H g b d l i ac q;have o:=Fu (f:=f) H g b i ac;show((if i≠t/\(eI f s w t k i (s i*w+k)).bD=false then hX (eI f s w t k i) (s i*w) (s t*w) k w (eI f s w t k i (s i*w+k))else eI f s w t k i) q).G K _;by_cases hc:i≠t/\(eI f s w t k i (s i*w+k)).bD=false;rw[if_pos hc];unfold hX;split;.next r=>obtain⟨j,rfl⟩:∃j,q=s i*w+j:=⟨q-s i*w,ac⟩;have e:j<w:=ac;rw[show s t*w+(s i*w+j-s i*w)=s t*w+j from ac,o i ac j e,if_neg ac,o i ac k b,if_neg ac,o t g j e,if_neg ac];exact((l i ac hc.1 j e).sub ((l i ac hc.1 k b).mul (d _))).mono ac
   exact p;rw[if_neg hc];exact p
structure vR(K:bY)(n w h:Nat)(V:ee)(k:Nat)(x:jB):Prop where
 own:Own h x.s
 val:bR (x.rows w h)=(elim V k).1
 pv:x.pv=(elim V k).2
 g:∀q,(x.f q).G K (grow K x.pv.length n)d:x.dV.G K (grow K x.pv.length n)
variable{V:ee}
def amo(h1:∀q,(x.f q).G K n):bj K n w (x.rows w h):=λ r a=>by obtain⟨i,_,rfl⟩:=bp.1 a;exact⟨am,λ y b=>by obtain⟨j,_,rfl⟩:=bp.1 b;exact h1 _⟩
def vR.step(qc:nj w V)(hl:V.length=h)(H:vR K n w h V k x)(M:k<w):vR K n w h V (k+1) (zG w h x k):=by
 have E:=BB qc k ac;rw[hl]at E;rw[<-H.pv]at E;rw[<-H.val]at E;have J:elim V (k+1)=match o7 (bR (x.rows w h)) x.pv.length k with|none=>(bR (x.rows w h),x.pv)|some p=>(mf (bR (x.rows w h)) x.pv.length k p,x.pv++[k]):=by rw[H.val,H.pv];rfl
 have U:x.pv.length<=(x.rows w h).length:=by rw[kv];exact E.qq
 rw[R2 _ _ U,kv]at J;unfold zG;by_cases u:e8 (x.rows w h) x.pv.length k<h;rw[if_pos u]at J⊢;have y2:=zH (x.rows w h) x.pv.length k;have L:∀q,(x.f q).G K (grow K x.pv.length n):=H.g;have P:=M4 (R:=x.rows w h) (top:=x.pv.length) (k:=k) (by rw[kv];exact u);generalize cr:e8 (x.rows w h) x.pv.length k=p at*;have I:x.pv.length<h:=ac;have Q:(x.f (x.s p*w+k)).bD=false:=by rw[<-Nt (h:=h) u M,a4 (l:=x.rows w h) (by rw[kv];exact u)];exact P
 have O:=H.own.Xo I u;have r:=λ i v j o=>Nu (x:=x) (w:=w) (h:=h) (i:=i) (j:=j) v o;have bK:=E.low;have hd:=H.d;have amS:=λ i v j=>Xg (k:=k) (m:=bR (x.rows w h)) (w:=w) HZ (t:=x.pv.length) (p:=p) (by rw[nM,kv];exact I) (by rw[nM,kv];exact u) (i:=i) (by rw[nM,kv];exact v) j;have amT:=Xh (k:=k) (m:=bR (x.rows w h)) (w:=w) HZ (t:=x.pv.length) (p:=p) (by rw[nM,kv];exact I) (by rw[nM,kv];exact u);have amQ:(mf (bR (x.rows w h)) x.pv.length k p).length=h:=by rw[NK,nM,kv]
 generalize Z:x.pv.length=t at*;have es:fC x.s t p t=x.s p:=Xq t p;have hy:=L (x.s p*w+k);have f1:∀a,a<h->∀j,j<w->mQ w k x t p (fC x.s t p a*w+j)=if a=t/\k<=j then(x.f (x.s p*w+j)).div (x.f (x.s p*w+k))else x.f (fC x.s t p a*w+j):=λ a X j o=>by unfold mQ me;by_cases e:a=t;subst e;rw[es];by_cases y:k<=j;rw[if_pos ⟨ac,ac⟩,if_pos ⟨rfl,y⟩];rw[if_neg ac,if_neg ac];rw[if_neg (λ q=>e (O.2 _ X _ I (M7 o ac q.2))),if_neg (λ q=>e q.1)]
 have g1:∀q,(mQ w k x t p q).G K (24*grow K t n+42*K.c):=λ q=>by unfold mQ me;rw[es];split;exact((L q).div hy).mono ac;exact(L q).mono ac
 have aef:=QY (f:=mQ w k x t p) (n:=grow K t n) O I M g1 (λ a X Y j o=>by rw[f1 a X j o,if_neg (λ q=>Y q.1)];exact L _);have Ks:=Fu (f:=mQ w k x t p) O I M h (a2 _);have z:∀q,(x.f q).2.bw:=λ q=>(L q).red;refine⟨O,?_,?_,?_,?_⟩;rw[J];refine UG HZ amT (by rw[nM,kv,amQ]) λ i v j o=>?_;rw[nM,kv]at v;rw[Nu v o,amS i v j];show(eI (mQ w k x t p) (fC x.s t p) w t k h (fC x.s t p i*w+j)).2.val=_;rw[Ks i v j o];have N:∀a b,(x.f b).bD=false->((x.f a).div (x.f b)).2.val=(x.f a).2.val/(x.f b).2.val:=λ a b hb=>by show(az.div _ _).val=_;rw[az.div_val (z a) (z b),AY]
 have C:∀j,j<k->j<w->(x.f (x.s p*w+j)).2.val=0:=λ j o hw=>by rw[<-r p u j hw];exact bK p ac u j o
 have F:∀j,j<w->(mQ w k x t p (fC x.s t p t*w+j)).2.val=bs (bR (x.rows w h)) p j/bs (bR (x.rows w h)) p k:=λ j o=>by rw[f1 t I j o,r p u j o,r p u k M];by_cases y:k<=j;rw[if_pos ⟨rfl,y⟩,N _ _ Q];rw[if_neg (λ q=>y q.2),es,C j ac o,AY];grind
 by_cases e:i=t;subst e;rw[if_neg (λ q=>q.2.1 rfl),if_pos rfl];exact F j o;rw[if_neg e];have R1:∀j,j<w->mQ w k x t p (fC x.s t p i*w+j)=x.f (fC x.s t p i*w+j):=λ j o=>by rw[f1 i v j o,if_neg (λ q=>e q.1)]
 have hq:(if i=p then t else i)<h:=by split<;>assumption
 have am9:fC x.s t p i=x.s (if i=p then t else i):=by unfold fC;rw[if_neg e]
 rw[R1 j o,R1 k M,am9,r _ hq j o,r _ hq k M];have XU:=F j o;have ky:j<k->(mQ w k x t p (fC x.s t p t*w+j)).2.val=0:=λ h2=>by rw[XU,r p u j o,C j h2 o,AY];grind
 rw[<-XU];have rt:=(g1 (fC x.s t p t*w+j)).red;have amb:=z (x.s (if i=p then t else i)*w+j);have Wf:=z (x.s (if i=p then t else i)*w+k);generalize mQ w k x t p (fC x.s t p t*w+j)=T at*;generalize x.f (x.s (if i=p then t else i)*w+j)=A at*;generalize x.f (x.s (if i=p then t else i)*w+k)=B at*;by_cases hc:B.bD=false/\k<=j/\T.bD=false;rw[if_pos ⟨v,e,hc.1,hc.2.1,hc.2.2⟩];have:=(az.Im amb (az.Hi Wf rt)).trans (by rw[az.wX Wf rt]);refine Eq.trans this ?_;grind;rw[if_neg (λ q=>hc q.2.2)];have h0:T.2.val*B.2.val=0:=by
   by_cases h1:B.bD=false;by_cases h2:k<=j;have S:T.bD=true:=by cases h:T.bD;exact(hc ⟨h1,h2,h⟩).elim;rfl
   rw[pT.1 S];grind;rw[ky ac];grind;have S:B.bD=true:=by cases h:B.bD;exact(h1 h).elim;rfl
   rw[pT.1 S];grind
 rw[h0];grind;rw[J];rfl;show∀q,_;intro q;show((eI (mQ w k x t p) (fC x.s t p) w t k h q)).G K (grow K (x.pv++[k]).length n);rw[cP,Z];refine(aef h (a2 _) q).mono ?_;show _<=26*grow K t n+43*K.c+1;omega;have el:(tn w h k x t p).pv.length=t+1:=by show(x.pv++[k]).length=_;rw[cP,Z];rfl
 rw[el];have d1:(if t<p then x.dV.neg else x.dV).G K (grow K t n):=by split;exact hd.neg;exact hd
 refine(d1.mul (L (fC x.s t p t*w+k))).mono ?_;show _<=26*grow K t n+43*K.c+1;omega;rw[if_neg u]at J⊢;exact⟨H.own,by rw[J],by rw[J],H.g,H.d⟩
end
end Go.ay.eU
namespace Go.ay
def aY{α:Type}(L:Nat)(f:Nat->α):List α:=(a8 L).map f
section
variable{α:Type}
def gg(L:Nat)(f:Nat->α):(aY L f).length=L:=by unfold aY;rw[aQ,dx]
def JY{L i:Nat}(f:Nat->α)(h:i<L):(aY L f)[i]?=some (f i):=by simp[aY,h]
def ym{L:Nat}{f g:Nat->α}(h:∀j,j<L->f j=g j):aY L f=aY L g:=jR λ j a=>h j (c8.1 a)
def aaY{L i:Nat}{v:α}{f g:Nat->α}(h:∀j,j<L->g j=if j=i then v else f j):(aY L f).set i v=aY L g:=by refine ie (by simp[aY]) λ j h1 h2=>?_;rw[AV];simp only[aY,iz,nh,aQ,dx]at h2⊢;rw[h j h2];split<;>split<;>first|rfl|omega
def Bb{β:Type}{L:Nat}{f:Nat->α}(g:α->β):(aY L f).map g=aY L λ i=>g (f i):=by unfold aY;rw[jf];rfl
def PV{L a w:Nat}{f:Nat->α}(h:a+w<=L):((aY L f).drop a).take w=aY w λ j=>f (a+j):=by refine ie (by simp[aY];omega) λ j h1 h2=>?_;simp[aY]
abbrev dr(b:Id)(w:Nat)(r:Nat):aa:=.ai b 2 (r*w) w true
variable{P:Program}{G:Nat->Option (List aa)}
def ajF{c off len i:Nat}{id:Id}{t:Bool}(h:i<len):j7 c (.ai id c off len t) (.int .i64 (i:Int))=some (.ref id (off+i) 0):=by show(if c=c/\(0:Int)<=(i:Int)/\(i:Int)<(len:Int)then some (aa.ref id (off+((i:Int)).toNat) 0)else none)=_;rw[if_pos ⟨rfl,ac,ac⟩,nQ]
def nA(k c:Nat)(id:Id)(o len i:Nat)(t:Bool)(h:i<len:=by omega):aR P G:=ho k (ajF (c:=c) (id:=id) (off:=o) (t:=t) h)
def fx(k n:Nat)(a:Bool)(id:Id)(c L:Nat)(T:α->aa)(f:Nat->α)(i:Nat)(v:aa)(h:i<L:=by omega)(hv:part a (T (f i)).cells 0 n=some v:=by rfl):aR P G:=.st k [(id,⟨(aY L f).map T,c,false⟩)] (.load a n (.ref id i 0)) (λ _=>{val:=v,rd:=[id]}) (λ σ p b=>U7 (b _ cp) (by rw[Bb,JY _ h]) hv)
def kM(x n:Nat)(id:Id)(c L:Nat)(T:α->aa)(f g:Nat->α)(i:Nat)(r:α)(a:∀j,j<L->g j=if j=i then r else f j)(h2:(T r).cells.all jx=true)(h:i<L:=by omega)(b:(T r).cells.length=n:=by rfl)(h1:n<=(T (f i)).size:=by exact a2 _)(hu:(T (f i)).upd 0 (T r).cells=T r:=by rfl):aR P G:=.st (x+100000) [(id,⟨(aY L f).map T,c,false⟩)] (.store n (.ref id i 0) (T r)) (λ _=>{val:=.aJ [],rd:=[id],up:=[(id,some ⟨(aY L g).map T,c,false⟩)]}) (λ σ p d=>by have e:=U8 (d _ cp) (show((aY L f).map T)[i]?=some (T (f i))by rw[Bb,JY _ h]) b h1 h2;rw[hu,<-List.map_set,aaY a]at e;exact e)
def rV(x:aj):x.T.cells.all jx=true:=cT.one (k:=2)
end
section
variable{σ:aL}
def Ot{b:Id}{L o w:Nat}{f:Nat->aj}{t fr:Bool}(g:σ b=some ⟨(aY L f).map aO,2,fr⟩)(h:o+w<=L):View σ (.ai b 2 o w t) (ar (aY w λ j=>f (o+j))):=by
 refine View.ai (aq:=⟨_,2,fr⟩) g rfl (by simpa[gg]using h) ?_ (by simp[gg]) λ d hd=>?_;show dc σ (flat ((((aY L f).map aO).drop o).take w)) _;rw[<-Px,<-DZ,PV h];exact dc.pure λ c hc=>by have⟨e,a,hc⟩:=List.mem_flatMap.1 hc;obtain⟨y,_,rfl⟩:=bp.1 a;exact cT.cells (k:=2) c hc
 obtain⟨y,_,rfl⟩:=bp.1 hd;exact cT.size
def Yp{α:Type}{f g:α->aa}:∀(l:List α),(∀x∈l,View σ (f x) (g x))->dc σ (l.map f) (l.map g)|[],_=>eT|x::l,h=>bZ (h x cp) (Yp l λ y a=>h y (cR _ a))
def FT{α:Type}{f:α->aa}(h:∀x,(f x).cells=[f x])(l:List α):flat (l.map f)=l.map f:=by induction l with|nil=>rfl|cons x l a=>show(f x).cells++flat (l.map f)=_;rw[h,a];rfl
def Yf{b B:Id}{L w h a n:Nat}{f:Nat->aj}{s:Nat->Nat}{t fr La:Bool}(hb:σ b=some ⟨(aY L f).map aO,2,fr⟩)(g:σ B=some ⟨(aY h s).map (dr b w),1,La⟩)(c:a+n<=h)(e:∀i,i<h->s i*w+w<=L):View σ (.ai B 1 a n t) (.sl 1 ((aY n λ i=>aY w λ j=>f (s (a+i)*w+j)).map ar)):=by refine View.ai (aq:=⟨_,1,La⟩) g rfl (by simpa[gg]using c) ?_ (by simp[gg]) λ d hd=>?_;show dc σ (flat ((((aY h s).map (dr b w)).drop a).take n)) _;rw[<-Px,<-DZ,PV c,Bb,Bb];unfold aY;rw[FT (f:=λ i=>dr b w (s (a+i))) (λ _=>rfl),FT (f:=λ i=>ar ((a8 w).map λ j=>f (s (a+i)*w+j))) (λ _=>rfl)];exact Yp _ λ i k=>Ot hb (e _ (by have:=c8.1 k;omega));obtain⟨y,_,rfl⟩:=bp.1 hd;rfl
abbrev kP:aa:=.agg [.aH,.aH]
end
section
variable{P:Program}{G:Nat->Option (List aa)}
def aez(key:Nat)(id:Id)(A r:List aj)(n:Nat)(h0:r≠[])(i:A.length+r.length+n<=1000000):aR P G:=.st key [(id,⟨A.map aO++bM (r.length+n) kP,2,false⟩)] (.append 2 48 (.ai id 2 0 A.length false) (ar r)) (λ p=>{val:=.ai id 2 0 (A++r).length false,rd:=[id],up:=[(id,some ⟨(A++r).map aO++bM n kP,2,false⟩)]}) (λ σ p f=>by
   have h:=f _ cp;have j:0<r.length:=iy.2 h0;have c:(r.map aO).isEmpty=false:=by simpa using h0
   have a:A.length+r.length<=maxLen:=pd ac;have h1:((r.map aO).all λ e=>e.cells.all jx)=true:=dY.2 λ e b=>by obtain⟨y,_,rfl⟩:=bp.1 b;exact rV y
   have d:σ id=some ⟨A.map aO++bM (r.length+n) kP,2,false⟩:=h;show sg σ p 2 48 (.ai id 2 0 A.length false) (.sl 2 (r.map aO))=_;unfold sg;rw[show jn σ 2 (.sl 2 (r.map aO))=some (r.map aO,[])from by simp[jn]];simp only[c,d,aQ];rw[if_neg al,if_pos ⟨trivial,trivial,trivial,am,ac,a,h1⟩,if_neg al,if_neg (λ g=>by have:=g.1;rw[cP,List.length_replicate,aQ]at this;omega),if_pos ⟨am,trivial⟩];simp[List.drop_append,cP])
end
end Go.ay
namespace Go.Proofs.YtpcofcmencgkbaaGreat
section
variable(G:Nat->Option (List aa))
variable{K:bY}{q e r:Nat}(F:dN K q e r)
include F
noncomputable abbrev pb(l:List az)(i:Nat):aa:=au (az.of (dz l) (l.getD i (az.rat 0)).val)
def ajg(l:List az)(L:l.length<=9000){n:Nat}(w:∀a∈l,az.G K a n)(J:n+K.C<=2199023255552)(i:Nat)(g:i<l.length)(X:aa)(j:X=oy (dz l).2.aw)(s:X=.aH\/X=aT (dz l).2.aw):bF ab G (aZ (ak 143) 0) (ak 143).aK (bK 0) .normal (λ q=>(6,bX q.a 2 ((a8 i).map (pb l)))::om l X i) (λ q=>bu q.a 2 ((a8 i).map (pb l))++[]) (λ q=>(6,bX q.a 2 ((a8 (i+1)).map (pb l)))::om l X (i+1)) (λ q=>bu q.a 2 ((a8 (i+1)).map (pb l))++[]):=by have ho:∀a∈l,K.ok a.T:=λ a c=>(w a c).1;have f:=GV ho;have I:=dN.CS F;have sY:=F.pZ;have m:=bf g;have c:=w _ m;have t:=B9 ho _ m _ ⟨l[i].a,rfl⟩;have H:=c.bd f t;have b1:=Kh G (dz l).2.aw l[i].T.2.aw (uW F f) (uW F c.1);have d:=UN G (K.ht f) ((F.fY f).sh ac) ((dz l).bd l[i].val) (ae.sh H ac);have h:q9 2 48 9000 ((a8 i).map (pb l)):=⟨by rw[aQ,dx];omega,dY.2 λ e z=>by obtain⟨x,_,rfl⟩:=bp.1 z;exact cT.one (k:=2)⟩;rw[ix,gI,nX,show pb l i=au (az.of (dz l) l[i].val)by unfold pb;rw[a4 g]];rw[<-j]at b1 d;cases h1:fX (dz l).2.aw l[i].T.2.aw with|true=>rw[h1]at b1;have p:=UU G (K.ht f) (K.red f) (l:=ae.flat l[i].a) (v:=l[i].val) ⟨l[i].T,l[i].a,lh.1 h1,rfl,rfl⟩;rw[<-j]at p;rcases s with rfl|rfl<;>exact sI (key:=56) (bytes:=48) (hb:=al) (A:=λ _=>om l _ i) (B:=λ _=>om l _ (i+1)) (bJ:=λ _=>[]) (bS:=λ _=>[]) h 22 ⟨[23,0],[2],[3],[4]⟩ (λ x=>[bB 23 au g,aV 24 2 au g,hc b1,hc p,hc d]++x++[bh 57 i])|false=>
   rw[h1]at b1;have h0:l[i].T.1≠0:=λ e=>by have:l[i].T.2.aw=[]:=AP (by rw[aE.xl];exact e);rw[ow this,lh.2 (aC.zL (dz l).2)]at h1;cases h1
   have es:(dz l).ext l[i].T.2=dz l:=aC.yN λ v hv=>B9 ho _ m v hv;have o:(dz l).2.aw≠[]:=λ e=>by rw[ow e,FN (K.red c.1)]at es;exact h0 (congrArg Sigma.fst es)
   have x:=Mw G F f c.1 h0;have u:=aC.yM (K.red f) (K.red c.1);rw[es]at x u;have D:=Hl G F f c.1 (b:=false) (l:=aC.jo (dz l) l[i].T.2) (by rw[aC.lr];have:=K.ht c.1;omega) (.refl _) u c.self ac;obtain rfl:X=aT (dz l).2.aw:=j.trans (pE o);exact sI (key:=56) (bytes:=48) (hb:=al) (A:=λ _=>om l _ i) (B:=λ _=>om l _ (i+1)) (bJ:=λ _=>[]) (bS:=λ _=>[]) h 34 ⟨[35,0],[2],[3],[4]⟩ (λ E=>[bB 23 au g,aV 24 2 au g,hc b1,hc x,BM G [] D,hc d]++E++[bh 57 i])
def ajh(l:List az)(h0:l≠[])(k:l.length<=9000){n:Nat}(m:∀a∈l,az.G K a n)(t:n+K.C<=2199023255552)(p:bt):cj ab G 143 [fI l] p [] {val:=.aJ [.ai (2000000::p) 2 0 l.length false,.int .i64 0],rd:=[],up:=[(2000000::p,some ⟨(iV l).map au,2,false⟩)]}:=by
 have c:=UK G F l k λ a v=>(m a v).1;have j:(a8 l.length).map (pb l)=(iV l).map au:=VV (f:=au) (g:=λ a=>az.of (dz l) a.val);have d:(iV l).map au≠[]:=λ e=>by rw[<-j]at e;have:=congrArg List.length e;rw[aQ,dx]at this;exact h0 (AP this)
 have w:((iV l).map au).length=l.length:=by rw[<-j,aQ,dx]
 have key:∀X:aa,X=oy (dz l).2.aw->(X=.aH\/X=aT (dz l).2.aw)->ag ab G 196 [fI l] (.aJ [X,.int .i64 0])->cj ab G 143 [fI l] p [] {val:=.aJ [.ai (2000000::p) 2 0 l.length false,.int .i64 0],rd:=[],up:=[(2000000::p,some ⟨(iV l).map au,2,false⟩)]}:=λ X h1 h2 c=>by
   have o:bF ab G (aZ (ak 143) 0) (ak 143).aK (bK 0) (.exit 0) (λ q=>(6,bX q.a 2 ((a8 l.length).map (pb l)))::om l X l.length) (λ q=>bu q.a 2 ((a8 l.length).map (pb l))++[]) (λ q=>[(6,.ai q.a 2 0 l.length false)]) (λ q=>[(q.a,⟨(iV l).map au,2,false⟩)]):=by
     have x:bF ab G (aZ (ak 143) 0) (ak 143).aK (bK 0) (.exit 0) (λ q=>(6,bX q.a 2 ((iV l).map au))::om l X l.length) (λ q=>bu q.a 2 ((iV l).map au)++[]) (λ q=>(6,bX q.a 2 ((iV l).map au))::[]) (λ q=>bu q.a 2 ((iV l).map au)++[]):=by rcases h2 with rfl|rfl<;>exact nK (A:=λ _=>om l _ l.length) (B:=λ _=>[]) (bJ:=λ _=>[]) (bS:=λ _=>[]) a3 [dH 23 au l]
     rw[j];simp only[gQ d,gn d,pQ,w]at x⊢;exact x
   rcases h2 with rfl|rfl<;>exact eB (p:=p) (up:=[(2000000::p,_)]) hN (λ _=>[]) [hc c,fQ (ak 143) 0 0 0 l.length a3 (λ i q=>(6,bX q.a 2 ((a8 i).map (pb l)))::om l _ i) (λ i q=>bu q.a 2 ((a8 i).map (pb l))++[]) (.exit 0) (λ q=>[(6,.ai q.a 2 0 l.length false)]) (λ q=>[(q.a,⟨(iV l).map au,2,false⟩)]) (λ i u=>ajg G F l k m t i u _ h1 am) o] _ [] (.aJ [.ai [2000000,0] 2 0 l.length false,.int .i64 0]) [([2000000,0],⟨(iV l).map au,2,false⟩)] an (bq.fix _) rfl rfl nI am am
 refine key _ rfl ?_ c;by_cases h:(dz l).2.aw=[];exact .inl (by rw[h];rfl);exact .inr (pE h)
end
end Go.Proofs.YtpcofcmencgkbaaGreat
namespace Go.ay
section
variable{P:Program}{G:Nat->Option (List aa)}
def anh{c off len l:Nat}{id:Id}{t:Bool}(h:l<len):gv c (.ai id c off len t) (some (.int .i64 (l:Int))) none none=some (.ai id c (off+l) (len-l) t):=by
 have e:gu len (some (.int .i64 (l:Int))) none=some (l,len):=by simp only[gu,iZ];rw[if_pos ⟨ac,ac⟩,nQ]
 simp only[gv,e];by_cases h0:l=0;subst h0;simp;simp[h0,show l≠len from ac]
def ang{c off len h:Nat}{id:Id}(a:h<=len):gv c (.ai id c off len false) none (some (.int .i64 (h:Int))) none=some (.ai id c off h false):=by
 have e:gu len none (some (.int .i64 (h:Int)))=some (0,h):=by simp only[gu,iZ];rw[if_pos ⟨ac,ac⟩,nQ]
 simp[gv,e]
def ani{c off len h:Nat}{id:Id}(a:h<=len):gv c (.ai id c off len false) none (some (.int .i64 (h:Int))) (some (.int .i64 (h:Int)))=some (.ai id c off h true):=by
 have e:gu len none (some (.int .i64 (h:Int)))=some (0,h):=by simp only[gu,iZ];rw[if_pos ⟨ac,ac⟩,nQ]
 simp[gv,e,xx]
def wz(k c:Nat)(id:Id)(off len l:Nat)(t:Bool)(h:l<len:=by omega):aR P G:=.st k [] (.slice c (.ai id c off len t) (some (.int .i64 (l:Int))) none none) (λ _=>{val:=.ai id c (off+l) (len-l) t}) (λ σ p _=>by simp only[cd,anh h,oB];rfl)
def aeW(k c:Nat)(id:Id)(off len h:Nat)(a:h<=len:=by omega):aR P G:=.st k [] (.slice c (.ai id c off len false) none (some (.int .i64 (h:Int))) none) (λ _=>{val:=.ai id c off h false}) (λ σ p _=>by simp only[cd,ang a,oB];rfl)
def SH(k c:Nat)(id:Id)(off len h:Nat)(a:h<=len:=by omega):aR P G:=.st k [] (.slice c (.ai id c off len false) none (some (.int .i64 (h:Int))) (some (.int .i64 (h:Int)))) (λ _=>{val:=.ai id c off h true}) (λ σ p _=>by simp only[cd,ani a,oB];rfl)
def anf{c off len:Nat}{id:Id}{t:Bool}(h:0<len):gv c (.ai id c off len t) (some (.int .i64 (len:Int))) none none=some (.sl c []):=by
 have e:gu len (some (.int .i64 (len:Int))) none=some (len,len):=by simp only[gu,iZ];rw[if_pos ⟨ac,ac⟩,nQ]
 simp[gv,e,show len≠0 from ac]
def SF(k c:Nat)(id:Id)(off len:Nat)(h:0<len)(t:Bool:=false):aR P G:=.st k [] (.slice c (.ai id c off len t) (some (.int .i64 (len:Int))) none none) (λ _=>{val:=.sl c []}) (λ σ p _=>by simp only[cd,anf h,oB];rfl)
def ae0(k c bytes:Nat)(z:aa)(n:Nat)(h0:0<n:=by omega)(hb:n*bytes<=140737488355328:=by omega)(b:z.size=c:=by rfl)(h1:z.cells.all jx=true:=by rfl)(b1:0<bytes:=by decide):aR P G:=.st k [] (.vY c bytes z .aH (.int .i64 (n:Int))) (λ p=>{val:=.ai p c 0 n false,up:=[(p,some ⟨bM n z,c,false⟩)]}) (λ σ p _=>by have a:n<=maxLen:=pd (bx (tI _ b1) hb);show(if 0<(n:Int)/\(n:Int)*((bytes:Nat):Int)<=140737488355328/\(n:Int)<=((maxLen:Nat):Int)/\z.size=c/\z.cells.all jx=true then some (bG.mk (.ai p c 0 (n:Int).toNat false) [] [(p,some ⟨bM (n:Int).toNat z,c,false⟩)])else none)=_;rw[if_pos ⟨ac,by have:=JN.2 hb;rw[oF]at this;omega,JN.2 a,b,h1⟩,nQ])
def uD{α:Type}(k c bytes:Nat)(z:aa)(n:Nat)(T:α->aa)(f:Nat->α)(d:∀j,j<n->T (f j)=z)(hb:n*bytes<=140737488355328:=by omega)(b:z.size=c:=by rfl)(h1:z.cells.all jx=true:=by rfl)(b1:0<bytes:=by decide):aR P G:=.st k [] (.ti c bytes z (.int .i64 (n:Int)) (.int .i64 (n:Int))) (λ p=>{val:=.ai p c 0 n false,up:=[(p,some ⟨(aY n f).map T,c,false⟩)]}) (λ σ p _=>by
 have a:n<=maxLen:=pd (bx (tI _ b1) hb);have e:(aY n f).map T=bM n z:=ie (by simp[gg]) λ j h1 h2=>by simp[aY,d j (by simpa[gg]using h1)]
 show Af p c bytes z (.int .i64 (n:Int)) (.int .i64 (n:Int))=_;rw[e];show(if(0:Int)<=(n:Int)/\(n:Int)<=(n:Int)/\(n:Int)*((bytes:Nat):Int)<=140737488355328/\(n:Int)<=((maxLen:Nat):Int)/\z.size=c/\z.cells.all jx=true then some (bG.mk (.ai p c 0 (n:Int).toNat false) [] [(p,some ⟨bM (n:Int).toNat z,c,false⟩)])else none)=_;rw[if_pos ⟨ac,ac,by have:=JN.2 hb;rw[oF]at this;omega,JN.2 a,b,h1⟩,nQ])
end
end Go.ay
namespace Go.Proofs.YtpcofcmencgkbaaGreat
abbrev fM:aa:=.cr [.int .i64 0] 0
section
variable(G:Nat->Option (List aa))
def Fq(a:aj):ag ab G 206 [fM,a.T,.int .i64 0] a.T:=aI []
variable{K:bY}{q e r:Nat}(F:dN K q e r){a b:aj}{n m:Nat}
include F
def ace(g:a.G K n)(hb:b.G K m)(f:bm K q n)(d:bm K q m):ag ab G 161 [fM,a.T,b.T] (a.add b).T:=aI [hc (UJ G F g hb f d),hc (Fq G (a.add b))]
def acm(g:a.G K n)(hb:b.G K m)(f:bm K q n)(d:bm K q m):ag ab G 208 [fM,a.T,b.T] (a.sub b).T:=aI [hc (ajn G F g hb f d),hc (Fq G (a.sub b))]
def yB(g:a.G K n)(hb:b.G K m)(f:bm K q n)(d:bm K q m):ag ab G 155 [fM,a.T,b.T] (a.mul b).T:=aI [hc (My G F g hb f d),hc (Fq G (a.mul b))]
def acf(h:a.G K n)(hb:b.G K m)(h0:b.bD=false)(g:bm K q n)(f:bm K q (23*m+41*K.c)):ag ab G 156 [fM,a.T,b.T] (a.div b).T:=aI [hc (ajb G F h hb (λ e=>by rw[pT.2 e]at h0;cases h0) g f),hc (Fq G (a.div b))]
end
section
variable(G:Nat->Option (List aa))
def wY{M:List (List aj)}(h:M≠[]):ag ab G 111 [aN M] (aA (eJ M)):=by cases M with|nil=>exact absurd rfl h|cons r M=>
   have h1:((((r::M).map ar).length:Int)==0)=false:=by rw[aQ,gC];exact beq_eq_false_iff_ne.2 ac
   have h2:(((r.map aO).length:Nat):Int)=(eJ (r::M):Int):=by rw[aQ];rfl
   exact aI [hb 5 h1,hw 9 h2]
def ai6{M:List (List aj)}(h:M≠[])(r:List aj):ag ab G 151 [ar r,.cr [aN M] 0] (.bool (!decide (r.length=eJ M))):=by cases e:decide (r.length=eJ M)with|true=>exact aI [hc (wY G h),hb 8 (show((((r.map aO).length:Nat):Int)!=(eJ M:Int))=false from by rw[aQ,of_decide_eq_true e];exact bne_self_eq_false _)]|false=>exact aI [hc (wY G h),hb 8 (show((((r.map aO).length:Nat):Int)!=(eJ M:Int))=true from by rw[aQ];exact bne_iff_ne.2 λ h=>of_decide_eq_false e ac)]
def zy{M:List (List aj)}{w:Nat}(h:∀r∈M,r.length=w)(d:M.length<=9000):ag ab G 109 [aN M] (.bool true):=by
 have c:ag ab G 98 [aN M,.fn (.func 151) [] [.cr [aN M] 0]] (.bool false):=by
   by_cases h0:M=[];subst h0;exact Dp G (M:=[]) (p:=λ _=>false) am (λ i b=>(fv _ b).elim) rfl;have hw:eJ M=w:=by cases M with|nil=>exact absurd rfl h0|cons r M=>exact h r cp
   exact Dp G (p:=λ _=>false) d (λ i b=>by have:=ai6 G h0 M[i];rw[hw,h _ (bf b),decide_eq_true rfl]at this;exact this) (qW.2 λ x _=>al)
 exact aI [wG (A:=[aN M]) [0] (aN M) 1 [aN M] c]
def aiU(n:Nat)(h0:0<n)(b:n<=1000000)(p:bt):cj ab G 212 [.aH,aA n] p [] {val:=.ai (18::p) 2 0 0 false,rd:=[],up:=[(18::p,some ⟨bM n kP,2,false⟩)]}:=by haveI:bq (bM n kP):=⟨λ c hc=>by rw[lR hc];exact bg.pure,λ ρ=>by rw[fS,AX];rfl⟩;exact eB (p:=p) (up:=[(18::p,_)]) hN (λ _=>[]) [hb 6 (show decide ((n:Int)<0)=false from decide_eq_false ac),hw 14 (show cO.wrap ((n:Int)-0)=(n:Int)by rw[cU];omega),hb 16 (show decide ((0:Int)<(n:Int))=true from decide_eq_true ac),ae0 22 2 48 kP n,aeW 25 2 [18,0] 0 n 0] _ [] (.ai [18,0] 2 0 0 false) [([18,0],⟨bM n kP,2,false⟩)] an (bq.fix _) rfl rfl nI am am
def iR(M:List (List aj))(i:Nat):List aj:=(M.take i).flatten
def K3{M:List (List aj)}{i:Nat}(a:i<M.length):iR M (i+1)=iR M i++M[i]:=by unfold iR;rw[nT a,aaj];simp
def R4{M:List (List aj)}{w:Nat}(h:∀r∈M,r.length<=w):∀i,i<=M.length->(iR M i).length<=i*w|0,_=>by simp[iR]|i+1,a=>by have:=R4 h i;have:=h _ (bf (ac:i<M.length));rw[K3 ac,cP,fU];omega
noncomputable abbrev acB(M:List (List aj))(i:Nat):List (Nat×aa):=[(0,aN M),(3,aA (iR M i).length),(9,aN M),(10,.int .i64 ((M.map ar).length:Nat)),(11,aA i)]
noncomputable abbrev Ku(M:List (List aj))(i:Nat)(q:a7):List (Nat×aa):=[(6,.ai (q 0) 2 0 (iR M i).length false),(25,aN M),(26,.int .i64 ((M.map ar).length:Nat)),(27,aA i)]
noncomputable abbrev Kw(M:List (List aj))(n i:Nat)(q:a7):List (bt×aG):=[(q 0,⟨(iR M i).map aO++bM (n-(iR M i).length) kP,2,false⟩)]
instance{n:Nat}:bq (bM n kP):=⟨λ c hc=>by rw[lR hc];exact bg.pure,λ ρ=>by rw[fS,AX];rfl⟩
def UA{M:List (List aj)}(h0:M≠[])(g:∀r∈M,r≠[]/\r.length<=90)(t:M.length<=90):ag ab G 160 [aN M] (ar M.flatten):=by
 have o:=R4 (λ r f=>(g r f).2);have c:iR M M.length=M.flatten:=by unfold iR;rw[kB]
 have b:∀i,(iR M i).length<=M.flatten.length:=λ i=>by have:=congrArg List.length (congrArg List.flatten (List.take_append_drop i M));rw[aaj,cP]at this;unfold iR;omega
 have j:∀i,i<=M.length->(iR M i).length<=8100:=λ i a=>bx (o i a) (by have:=ck 90 (ac:i<=90);omega);have pos:0<M.flatten.length:=by cases M with|nil=>exact absurd rfl h0|cons r M=>rw[List.flatten_cons,cP];have:=iy.2 (g r cp).1;omega
 have d:=j M.length (a2 _);rw[c]at d;refine ag.pF hN [gm (ak 160) 0 0 0 M.length (acB M) (.exit 0) [(0,aN M),(3,aA M.flatten.length)] (λ i a=>?_) ?_,cL (λ p=>aiU G M.flatten.length pos ac p),kN (ak 160) 1 1 M.length (a7.of [[18,2000001,0]]) (Ku M) (Kw M M.flatten.length) (.exit 2) (λ q=>[(6,.ai (q 0) 2 0 M.flatten.length false)]) (λ q=>[(q 0,⟨M.flatten.map aO,2,false⟩)]) (λ i a=>?_) ?_ (t0:=[(6,.ai [18,2000001,0] 2 0 0 false),(25,aN M),(26,.int .i64 ((M.map ar).length:Nat)),(27,aA 0)]) (k0:=[([18,2000001,0],⟨bM M.flatten.length kP,2,false⟩)]) rfl rfl] [([18,2000001,0],⟨M.flatten.map aO,2,false⟩)] (.ai [18,2000001,0] 2 0 M.flatten.length false) an ?_ rfl am λ σ h=>?_;have e:=K3 a;have k:=j (i+1);rw[e,cP]at k;have s:cO.wrap (((iR M i).length:Int)+(((M[i].map aO).length:Nat):Int))=((iR M (i+1)).length:Int):=by rw[cU,e,cP,aQ];omega
 exact rd [bB 12 ar a,aV 13 1 ar a,hw 18 s,hb 20 (show decide (((iR M (i+1)).length:Int)<0)=false from decide_eq_false ac),bh 22 i];rw[<-c];exact rd [dH 12 ar M];have e:=K3 a;have k:=j (i+1);have l:=b (i+1);have n:M.flatten.length-(iR M i).length=M[i].length+(M.flatten.length-(iR M (i+1)).length):=by rw[e,cP]at l⊢;omega
 unfold Kw Ku;rw[n,e];exact en [bB 28 ar a,aV 29 1 ar a,aez 33 [1] (iR M i) M[i] (M.flatten.length-(iR M i++M[i]).length) (g _ (bf a)).1 (by rw[<-e];rw[e,cP]at l⊢;omega),bh 34 i];unfold Kw Ku;rw[c,Nat.sub_self,show M.flatten.map aO++bM 0 kP=M.flatten.map aO from pQ _];exact en [dH 28 ar M];exact nI;exact gr (h _ cp) (by rw[aQ])
end
end Go.Proofs.YtpcofcmencgkbaaGreat
namespace Go.ay.eU
section
variable{f:Nat->aj}{o b k j w:Nat}{y:aj}
def amX:hX f o b k k y=f:=by funext p;unfold hX;exact if_neg ac
def amY:hX f o b k j y (o+j)=f (o+j):=by unfold hX;exact if_neg ac
def amW{i:Nat}(hd:b+w<=o\/o+w<=b)(a:i<w)(c:j<=w):hX f o b k j y (b+i)=f (b+i):=by unfold hX;exact if_neg ac
def amZ(z:(f (b+j)).bD=false)(a:k<=j)(p:Nat):hX f o b k (j+1) y p=if p=o+j then(f (o+j)).sub (y.mul (f (b+j)))else hX f o b k j y p:=by unfold hX;by_cases h:p=o+j;subst h;rw[if_pos rfl,su,if_pos ⟨ac,ac,z⟩];rw[if_neg h];by_cases h2:o+k<=p/\p<o+j;by_cases h3:(f (b+(p-o))).bD=false;rw[if_pos ⟨h2.1,ac,h3⟩,if_pos ⟨h2.1,h2.2,h3⟩];rw[if_neg (λ q=>h3 q.2.2),if_neg (λ q=>h3 q.2.2)];rw[if_neg (λ q=>h2 ⟨q.1,ac⟩),if_neg (λ q=>h2 ⟨q.1,q.2.1⟩)]
def am0(z:(f (b+j)).bD=true):hX f o b k (j+1) y=hX f o b k j y:=by funext p;unfold hX;by_cases h:p=o+j;subst h;rw[su,z,if_neg (λ q=>by cases q.2.2),if_neg (λ q=>by cases q.2.2)];by_cases h2:o+k<=p/\p<o+j;by_cases h3:(f (b+(p-o))).bD=false;rw[if_pos ⟨h2.1,ac,h3⟩,if_pos ⟨h2.1,h2.2,h3⟩];rw[if_neg (λ q=>h3 q.2.2),if_neg (λ q=>h3 q.2.2)];rw[if_neg (λ q=>h2 ⟨q.1,ac⟩),if_neg (λ q=>h2 ⟨q.1,q.2.1⟩)]
def Wz:me f o k k y=f:=by funext p;unfold me;exact if_neg ac
def am1:me f o k j y (o+j)=f (o+j):=by unfold me;exact if_neg ac
def am2(a:k<=j)(p:Nat):me f o k (j+1) y p=if p=o+j then(f (o+j)).div y else me f o k j y p:=by unfold me;by_cases h:p=o+j;subst h;rw[if_pos rfl,if_pos ⟨ac,ac⟩];rw[if_neg h];by_cases h2:o+k<=p/\p<o+j;rw[if_pos ⟨h2.1,ac⟩,if_pos h2];rw[if_neg (λ q=>h2 ⟨q.1,ac⟩),if_neg h2]
def Xp{s:Nat->Nat}{t p:Nat}(i:Nat):fC s t p i=if i=p then s t else(λ i=>if i=t then s p else s i) i:=by unfold fC;by_cases h:i=p;rw[if_pos h,if_pos h];rw[if_neg h,if_neg h];show _=if i=t then s p else s i;split<;>rfl
end
end Go.ay.eU
