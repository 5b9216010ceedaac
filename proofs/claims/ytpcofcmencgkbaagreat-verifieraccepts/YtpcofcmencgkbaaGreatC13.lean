/- For the claim of VerifierAccepts: parts XVH, MXF, XU8, XU9, XUA, XUC, XUD, LPB, XUE, XUF, XUG, XUH, MXH, XUJ, XVI, MP3, MP4, MP5, XVK, MP6, XVL, XUK, XUL, XUM, XVM, VL35. -/
import Derived.Test.YtpcofcmencgkbaaGreatC12
import Derived.Test.YtpcofcmencgkbaaGreatC10
import Derived.Test.YtpcofcmencgkbaaGreatC11
import Derived.Test.YtpcofcmencgkbaaGreatC05
import Derived.Test.YtpcofcmencgkbaaGreatC04
import Derived.Deep.Slices
set_option linter.defProp false
set_option linter.unusedSectionVars false
set_option linter.unusedSimpArgs false
set_option linter.unusedVariables false
set_option maxRecDepth 100000
open Bool renaming and_eq_true->gj,and_false->QA,eq_false_iff->wF,false_and->uY,false_ne_true->Fp,false_or->ng,not_eq_true'->abO,or_eq_false_iff->qP,or_eq_true->yF,true_and->nh
open Classical renaming byContradiction->oQ
open Eq renaming trans->KF
open Go.IntKind renaming i64->cV,wrap_i64->c0
open Go.Proofs.Tryz renaming prog->ab
open Go.aA renaming Id->bz,hb->eB
open Go.aA.aB renaming s->aO
open Go.aA.aC renaming rat->eC
open Go.aA.ak renaming T->aP,rat->a3
open Go.aA.az renaming ofRat->dX,ofRat_mul->pJ
open Go.aA.aF renaming po->n6
open Go.aA.View renaming agg->yV,ar->e8,pure->fx,aM->mq
open Go.aA.dy renaming cons->bZ,nil->eH
open Go.aA.e6 renaming same->ji
open Int renaming natCast_nonneg->uJ,ofNat->jj,toNat->ni
open List renaming all_eq_true->ek,contains_iff_mem->jN,eq_of_mem_replicate->jl,eq_replicate_iff->abL,filter_append->ks,filter_eq_self->Qw,foldl_append->wH,getD_eq_getElem?_getD->dE,getElem?_append_right->kx,getElem?_eq_getElem->eu,getElem?_eq_some_iff->fl,getElem?_map->kv,getElem_append_left->abM,getElem_append_right->abN,getElem_map->gm,getElem_mem->bo,getElem_range->kT,isEmpty_iff->oU,length_append->cy,length_cons->fU,length_filter_le->qR,length_map->aL,length_ofFn->Fs,length_pos_iff->fN,length_range->cR,length_replicate->pP,length_set->kQ,length_zip->abP,length_zipWith->gY,map->Qz,map_append->dW,map_congr_left->kq,map_eq_nil_iff->gP,map_replicate->Fm,map_singleton->gQ,mem_cons->cp,mem_cons_self->cg,mem_filter->iU,mem_iff_getElem->fy,mem_map->bd,mem_ofFn->abS,mem_range->cb,mem_singleton->bU,nodup_cons->h5,nodup_nil->gA,nodup_range->pQ,not_mem_nil->ct,ofFn->KG,pairwise_iff_getElem->Bw,range->aR,range_succ->gz,replicate->bI,take_length->gl,take_of_length_le->jI,zip->wx
open List.Pairwise renaming nil->abR
open Nat renaming div_le_self->h7,div_mul_le_self->Qy,le_refl->a2,le_trans->bx,min_self->n4,mul_le_mul->kr,mul_le_mul_right->cr,ne_of_lt->Qx,not_lt_zero->ew,succ_mul->gB,zero_le->dF
open Ne renaming symm->dS
open Option.some renaming inj->abQ
set_option maxHeartbeats 4000000
open Go.aA Go.Proofs Go.Lib
namespace Go.Proofs.YtpcofcmencgkbaaGreat
section
open Go.aA Go.aA.fE Go.Proofs Go.Lib
def aqO{σ:aQ}{p:bz}{n:Nat}{b:Bool}(h:σ p=some ⟨bI n aa.ar,1,b⟩):View σ (.ah p 1 0 n false) (.sl 1 (bI n (aa.sl 2 []))):=by
 refine View.ah (av:=⟨bI n aa.ar,1,b⟩) h rfl am ?_ am λ d hd=>by rw[jl hd];rfl
 show dy σ (flat (((bI n aa.ar).drop 0).take n)) _;rw[List.drop_zero,jI (by rw[pP];exact a2 _)];exact JF σ n
def QX{α:Type}(n:Nat)(x:α):(a7 n λ _=>x).map (λ y=>y)=bI n x:=by refine abL.2 ⟨by rw[aL,iC],λ b hb=>?_⟩;obtain⟨y,a,rfl⟩:=bd.1 hb;obtain⟨j,_,rfl⟩:=bd.1 a;rfl
variable(G:Nat->Option (List aa)){K:b6}{q e r:Nat}{n w j:Nat}{M:List (List ak)}
def RS(h:bS M (aR M.length)=[]):sx M=⟨[],[],[],bI M.length [],pn M⟩:=by
 unfold sx;rw[h];have e:nu (cB (l9 ((aE M []).map (b5 (bc (aE M [])).2)))) (bc (aE M [])).2 M [] M.length=bI M.length []:=by refine abL.2 ⟨?_,λ b hb=>?_⟩;unfold nu;rw[aL,show(aR M.length).filter (λ i=>!([]:List Nat).contains i)=aR M.length from Qw.2 λ _ _=>rfl,cR];obtain⟨k,_,rfl⟩:=bd.1 hb;rfl
 simp only[e];rfl
def an4(a:a4 K n w M):vR M (w:Int)=true:=by unfold vR;rw[gj];exact⟨decide_eq_true (uJ w),ek.2 λ r b=>decide_eq_true (by rw[(a r b).1])⟩
def akC(w0:0<w)(f:w<16):ag ab G 21 [aD [],aq w] (.aM [kG ⟨[],[],[],[],dt w⟩,.int .i64 0]):=by have b:=LS G (M:=[]) (w:=(w:Int)) am;rw[show vR [] (w:Int)=true by unfold vR;simp]at b;have a:=akH G w0 f;refine ag.oN hN [hc b,eB 24 (show((w:Int)==0)=false by rw[beq_eq_false_iff_ne];omega),hc a] [] (.aM [.agg [.ar,.ar,.ar,.ar,aD (dt w)],.int .i64 0]) an rfl (by show aa.aM [.agg [_,_,_,_,aa.aY _ (aD _)],_]=_;rw[bg.fix (c:=aD (dt w))];rfl) am λ σ h=>?_;exact mq (bZ (yV (bZ (e8 1) (bZ (e8 1) (bZ (e8 1) (bZ (e8 1) (bZ (fx bg.pure) eH)))))) (bZ (fx (cd.int _ _)) eH))
variable(F:eb K q e r)
include F
def akB(b:a4 K n w M)(a:M≠[])(w0:0<w)(f:M.length<=90)(v:w<16)(p:M.length<=j\/w<=j)(g:bF K q (grow K j n))(s:bS M (aR M.length)=[]):ag ab G 21 [aD M,aq w] (.aM [kG (sx M),.int .i64 0]):=by
 have m:=LS G (M:=M) (w:=(w:Int)) ac;rw[an4 b]at m;have d:=VX G F b a w0 f ac p g;have jd:(cB M).length=w:=by rw[qx,eD b a]
 rw[xW (nR b) (λ e=>by rw[e]at jd;simp at jd;omega),N1 b a w0,s]at d;have u:=VW G F b a w0 f v p g;have t:=S4 G (M:=M) (l:=[]) (λ k y=>(ct y).elim) am;rw[RS s];generalize pn M=bh at*;refine ag.oN hN [hc m,eB 24 (show((w:Int)==0)=false by rw[beq_eq_false_iff_ne];omega),eB 31 (show((((M.map aj).length:Nat):Int)==0)=false by rw[aL,beq_eq_false_iff_ne];have:=fN.2 a;omega),hc d,hc t,hc u,Go.aA.hw 63 (show(((M.map aj).length:Nat):Int)=(M.length:Int)by rw[aL]),vu 64 1 24 .ar M.length (λ x:aa=>x) (λ _=>aa.ar) (λ j _=>rfl)] [([43,0],⟨(a7 M.length λ _=>aa.ar).map λ x=>x,1,false⟩)] (.aM [.agg [bP [],.ar,.ar,.ah [43,0] 1 0 M.length false,aD bh],.int .i64 0]) an (by rw[QX];exact oL) (by show aa.aM [.agg [_,_,_,_,aa.aY _ (aD _)],_]=_;rw[bg.fix (c:=aD bh)];rfl) am λ σ h=>?_;have h1:=h _ cg;simp only[QX]at h1;exact mq (bZ (yV (bZ (fx bg.pure) (bZ (e8 1) (bZ (e8 1) (bZ (by have:=aqO h1;rw[show aD (bI M.length [])=.sl 1 (bI M.length (aa.sl 2 []))from by unfold aD;rw[Fm];rfl];exact this) (bZ (fx bg.pure) eH)))))) (bZ (fx (cd.int _ _)) eH))
end
end Go.Proofs.YtpcofcmencgkbaaGreat
namespace Go.aA
def cW(l:List Nat)(i:Nat):List Nat:=(aR i).filter λ i=>!l.contains i
def NS{l:List Nat}{i:Nat}(h:l.contains i=true):cW l (i+1)=cW l i:=by unfold cW;rw[gz,ks,List.filter_cons_of_neg (by rw[h];decide)];simp
def Ik{l:List Nat}{i:Nat}(h:l.contains i=false):cW l (i+1)=cW l i++[i]:=by unfold cW;rw[gz,ks,List.filter_cons_of_pos (by rw[h];decide)];simp
def amc(l:List Nat){i N:Nat}(h:i<=N):∃t,cW l N=cW l i++t:=by induction h with|refl=>exact⟨[],am⟩|@step N _ a=>have⟨t,e⟩:=a;cases h:l.contains N with|true=>exact⟨t,by rw[NS h,e]⟩|false=>exact⟨t++[N],by rw[Ik h,e,List.append_assoc]⟩
def NR{l:List Nat}{i N:Nat}(h:l.contains i=false)(b:i<N):∃h:(cW l i).length<(cW l N).length,(cW l N)[(cW l i).length]=i:=by
 have⟨t,e⟩:=amc l (show i+1<=N from b);rw[Ik h]at e;have a:(cW l i).length<(cW l N).length:=by rw[e];simp
 refine⟨a,?_⟩;simp only[e];rw[abM am,abN (a2 _)];simp
def Ij{l:List Nat}{N k:Nat}:k∈cW l N↔k<N/\k∉l:=by unfold cW;rw[iU,cb];simp
def amb(l:List Nat)(N:Nat):(cW l N).Nodup:=pQ.filter _
def Ii{l:List Nat}{N:Nat}(g:l.Nodup)(f:∀k∈l,k<N):(cW l N).length+l.length=N:=by
 have h1:(cW l N++l).Nodup:=List.nodup_append.2 ⟨amb l N,g,λ a j b hb e=>(Ij.1 j).2 (e▸hb)⟩;have d:=n6 (S:=aR N) h1 λ x c=>cb.2 ((List.mem_append.1 c).elim (λ h=>(Ij.1 h).1) (f x));have i:=n6 (S:=cW l N++l) (pQ (n:=N)) λ x c=>by by_cases e:x∈l;exact List.mem_append_right _ e;exact List.mem_append_left _ (Ij.2 ⟨cb.1 c,e⟩)
 rw[cy,cR]at d i;omega
end Go.aA
namespace Go.Proofs.YtpcofcmencgkbaaGreat
structure df where
 M:List (List ak)w:Nat
 R:List Nat
 C:List Nat
 inv:List (List ak)ez:List (List ak)bh:List (List ak)
structure df.B3(K:b6)(q nm iH:Nat)(c:df):Prop where
 k8:c.M.length<=4000
 cw:c.w<=4000
 hm:a4 K nm c.w c.M
 dM:∀i∈c.R,i<c.M.length
 hC:∀k∈c.C,k<c.w
 lc:c.C.length=c.R.length
 rz:c.R.Nodup
 Ah:c.C.Nodup
 hi:a4 K iH c.R.length c.inv
 li:c.inv.length=c.R.length
 tU:a4 K iH c.R.length c.ez
 lcm:c.ez.length+c.R.length=c.M.length
 hk:a4 K iH c.w c.bh
 lk:c.bh.length+c.R.length=c.w
 zb:bF K q nm
 jq:bF K q iH
 su:bF K q (c.R.length*(iH+nm+K.c+1))p5:bF K q (c.w*(nm+iH+K.c+1))
abbrev df.blk(c:df):aJ:=dh (bP c.R) (bP c.C) (aD c.inv) (aD c.ez) (aD c.bh)
noncomputable def l1(i k:Nat):ak:=if i=k then a3 1 else a3 0
noncomputable def df.p8(c:df)(i k:Nat):Bool:=fF (dV (c.inv.getD i []) (jU c.M c.R (c.C.getD k 0))) (l1 i k)
noncomputable def df.su(c:df)(i:Nat):Bool:=(aR c.C.length).all λ k=>c.p8 i k
noncomputable def df.rR(c:df):Bool:=(aR c.inv.length).all λ i=>c.su i
noncomputable def df.fo(c:df)(i j k:Nat):Bool:=fF (dV (c.ez.getD j []) (jU c.M c.R k)) ((c.M.getD i []).getD k (a3 0))
noncomputable def df.jq(c:df)(i j:Nat):Bool:=(aR c.w).all λ k=>c.fo i j k
noncomputable def df.uA(c:df):Bool:=(aR c.M.length).all λ i=>c.R.contains i||c.jq i (cW c.R i).length
noncomputable def df.ob(c:df)(k n j:Nat):Bool:=c.C.contains j||fF ((c.bh.getD n []).getD j (a3 0)) (l1 j k)
noncomputable def df.p5(c:df)(k n:Nat):Bool:=(aR c.w).all λ j=>c.ob k n j
noncomputable def df.xX(c:df)(n:Nat):Bool:=(aR c.M.length).all λ i=>fF (dV (c.M.getD i []) (c.bh.getD n [])) (a3 0)
noncomputable def df.th(c:df):Bool:=(aR c.w).all λ k=>c.C.contains k||(c.p5 k (cW c.C k).length&&c.xX (cW c.C k).length)
def df.B3.eV{K:b6}{q nm iH:Nat}{c:df}(H:c.B3 K q nm iH):c.R.length<=4000:=by have:=H.lcm;have:=H.k8;omega
def Si{K:b6}{n i k:Nat}:(l1 i k).G K n:=by unfold l1;split;exact ak.G.one;exact ak.G.zero
section
variable(G:Nat->Option (List aa)){K:b6}{q e r:Nat}(F:eb K q e r){nm iH:Nat}{c:df}(H:c.B3 K q nm iH)
include F H
def UB{i k:Nat}(j:i<c.inv.length)(g:k<c.C.length){b:Bool}(h:c.p8 i k=b):ag ab G 102 [aD c.M,bP c.R,aq c.C[k]] (aj (jU c.M c.R c.C[k]))/\ag ab G 101 [aj c.inv[i],aj (jU c.M c.R c.C[k]),(l1 i k).T] (.bool b):=by have d:=H.hi _ (bo j);have f:=H.hC _ (bo g);have m:=H.eV;have l:(jU c.M c.R c.C[k]).length=c.R.length:=aL ..;refine⟨ZB G H.dM (λ x d=>by rw[(H.hm x d).1];exact f) ac,?_⟩;rw[<-h];unfold df.p8;rw[aX j,aX g];exact Pp G F (by rw[l];exact d.1) ac d.2 (Cj H.hm c.R _) Si H.jq H.zb (by unfold q9;rw[d.1];exact H.su) H.jq
def UA{i j k:Nat}(g:i<c.M.length)(l:j<c.ez.length)(o:k<c.w){b:Bool}(h:c.fo i j k=b)(d:k<(c.M[i]).length):ag ab G 102 [aD c.M,bP c.R,aq k] (aj (jU c.M c.R k))/\ag ab G 101 [aj c.ez[j],aj (jU c.M c.R k),((c.M[i])[k]).T] (.bool b):=by have a:=H.tU _ (bo l);have m:=H.hm _ (bo g);have p:=H.eV;have n:(jU c.M c.R k).length=c.R.length:=aL ..;refine⟨ZB G H.dM (λ x a=>by rw[(H.hm x a).1];exact o) ac,?_⟩;rw[<-h];unfold df.fo;rw[aX g,aX l,aX d];exact Pp G F (by rw[n];exact a.1) ac a.2 (Cj H.hm c.R _) (m.2 _ (bo d)) H.jq H.zb (by unfold q9;rw[a.1];exact H.su) H.zb
def SR{k n j:Nat}(f:n<c.bh.length)(d:j<(c.bh[n]).length){b:Bool}(h:fF ((c.bh.getD n []).getD j (a3 0)) (l1 j k)=b):ag ab G 103 [((c.bh[n])[j]).T,(l1 j k).T] (.bool b):=by have g:=H.hk _ (bo f);rw[<-h,aX f,aX d];exact V8 G F (g.2 _ (bo d)) (Si (n:=iH)) H.jq H.jq sA
def W0{n:Nat}(f:n<c.bh.length){b:Bool}(h:c.xX n=b):ag ab G 104 [aD c.M,aj c.bh[n]] (.bool b):=by have d:=H.hk _ (bo f);rw[<-h];unfold df.xX;rw[aX f];have g:=H.k8;have i:=H.cw;exact aqQ G F H.hm d.2 d.1 ac ac H.zb H.jq H.p5
omit F H
noncomputable abbrev A8(c:df)(i:Nat)(q:aB):List (Nat×aa):=[(0,aD c.M),(3,.ref q.b 0 0),(4,.bool false),(11,aD c.inv),(12,.int .i64 ((c.inv.map aj).length:Nat)),(13,aq i)]
noncomputable abbrev Ey(c:df)(i:Nat)(x:List ak)(k:Nat)(q:aB):List (Nat×aa):=[(0,aD c.M),(3,.ref q.b 0 0),(4,.bool false),(11,aD c.inv),(12,.int .i64 ((c.inv.map aj).length:Nat)),(13,aq i),(5,aq i),(6,aj x),(19,bP c.C),(20,.int .i64 ((c.C.map aq).length:Nat)),(21,aq k)]
include F H in theorem ZK{i k:Nat}(hi:i<c.inv.length)(hk:k<c.C.length)(h:c.p8 i k=true):bb ab G (aT (ao 51) 1) (ao 51).aH (bj 0) .normal (Ey c i c.inv[i] k) (fun q=>[(q.b,c.blk)]) (Ey c i c.inv[i] (k+1)) (fun q=>[(q.b,c.blk)]):=by
 obtain⟨x1,cu⟩:=UB G F H hi hk h;have eV:=H.eV;have iE:=H.lc;have pG:=vL G;have j3:=xK G;by_cases e:i=k;.rw[show l1 i k=a3 1 from if_pos e]at cu;exact a9 aO [bu 22 aq hk,aU 24 1 aq hk,hc pG,hb 29 (jV (a:=i) (b:=k) (decide_eq_true e)),hc j3,hc x1,hc cu,a5 40 k]
 .rw[show l1 i k=a3 0 from if_neg e]at cu;exact a9 aO [bu 22 aq hk,aU 24 1 aq hk,hc pG,hb 29 (jV (a:=i) (b:=k) (decide_eq_false e)),hc x1,hc cu,a5 40 k]
include F H in theorem ara{i k:Nat}(hi:i<c.inv.length)(hk:k<c.C.length)(h:c.p8 i k=false):bb ab G (aT (ao 51) 1) (ao 51).aH (bj 0) .ret (Ey c i c.inv[i] k) (fun q=>[(q.b,c.blk)]) (fun _=>[(4,.bool false)]) (fun _=>[]):=by
 obtain⟨x1,cu⟩:=UB G F H hi hk h;have eV:=H.eV;have iE:=H.lc;have pG:=vL G;have j3:=xK G;by_cases e:i=k;.rw[show l1 i k=a3 1 from if_pos e]at cu;exact a9 aO [bu 22 aq hk,aU 24 1 aq hk,hc pG,hb 29 (jV (a:=i) (b:=k) (decide_eq_true e)),hc j3,hc x1,hc cu]
 .rw[show l1 i k=a3 0 from if_neg e]at cu;exact a9 aO [bu 22 aq hk,aU 24 1 aq hk,hc pG,hb 29 (jV (a:=i) (b:=k) (decide_eq_false e)),hc x1,hc cu]
include F H in theorem ZL{i:Nat}(hi:i<c.inv.length)(h:c.su i=true):bb ab G (aT (ao 51) 0) (ao 51).aH (bj 2) .normal (A8 c i) (fun q=>[(q.b,c.blk)]) (A8 c (i+1)) (fun q=>[(q.b,c.blk)]):=by have h':∀k,k<c.C.length->c.p8 i k=true:=fun k hk=>ek.1 h k (cb.2 hk);have eV:=H.eV;have iE:=H.lc;have qi:=H.li;exact a9 ⟨[1],[2000001,0],[3],[4]⟩ [bu 14 aj hi,aU 16 1 aj hi,dz (ao 51) 1 0 0 c.C.length aO (Ey c i c.inv[i]) (fun _=>(fun q=>[(q.b,c.blk)])) (.exit 2) (A8 c i) (fun q=>[(q.b,c.blk)]) (fun k hk=>ZK G F H hi hk (h' k hk)) (a9 aO [cS 22 aq c.C]),a5 41 i]
include F H in theorem arb{i:Nat}(hi:i<c.inv.length)(h:c.su i=false):bb ab G (aT (ao 51) 0) (ao 51).aH (bj 2) .ret (A8 c i) (fun q=>[(q.b,c.blk)]) (fun _=>[(4,.bool false)]) (fun _=>[]):=by
 rcases xk (fun k=>c.p8 i k) c.C.length with⟨e,_⟩|⟨_,k,hk,hp,hn⟩;.rw[show c.su i=true from e]at h;cases h
 .have eV:=H.eV;have iE:=H.lc;have qi:=H.li;exact a9 aO [bu 14 aj hi,aU 16 1 aj hi,dz (ao 51) 1 0 0 k aO (Ey c i c.inv[i]) (fun _=>(fun q=>[(q.b,c.blk)])) .ret (fun _=>[(4,.bool false)]) (fun _=>[]) (fun j hj=>ZK G F H hi ac (hn j hj)) (ara G F H hi hk hp)]
include F H in theorem aqJ:ag ab G 51 [aD c.M,.agg [bP c.R,bP c.C,aD c.inv,aD c.ez,aD c.bh]] (.bool c.rR):=by
 have eV:=H.eV;have qi:=H.li;rcases xk (fun i=>c.su i) c.inv.length with⟨e,h⟩|⟨e,i,hi,hp,hn⟩;.rw[show c.rR=true from e];exact bK [dz (ao 51) 0 2 0 c.inv.length ⟨[1],[0,0],[3],[4]⟩ (A8 c) (fun _=>(fun q=>[(q.b,c.blk)])) (.exit 0) (fun _=>[]) (fun _=>[]) (fun i hi=>ZL G F H hi (h i hi)) (a9 aO [cS 14 aj c.inv])] an
 .rw[show c.rR=false from e];exact bK [dz (ao 51) 0 2 0 i ⟨[1],[0,0],[3],[4]⟩ (A8 c) (fun _=>(fun q=>[(q.b,c.blk)])) .ret (fun _=>[(4,.bool false)]) (fun _=>[]) (fun j hj=>ZL G F H ac (hn j hj)) (arb G F H hi hp)] an
noncomputable abbrev qF(c:df)(i:Nat)(q:aB):List (Nat×aa):=[(0,aD c.M),(1,aq c.w),(5,.ref q.b 0 0),(6,.bool false),(7,aq (cW c.R i).length),(11,aD c.M),(12,.int .i64 ((c.M.map aj).length:Nat)),(13,aq i)]
noncomputable abbrev Ev(c:df)(i j:Nat)(x:List ak)(k:Nat)(q:aB):List (Nat×aa):=[(0,aD c.M),(1,aq c.w),(5,.ref q.b 0 0),(6,.bool false),(7,aq j),(11,aD c.M),(12,.int .i64 ((c.M.map aj).length:Nat)),(13,aq i),(8,aq i),(9,aj x),(22,aq c.w),(23,aq k)]
include F H in theorem ZG{i j k:Nat}(hi:i<c.M.length)(hj:j<c.ez.length)(hk:k<c.w)(h:c.fo i j k=true):bb ab G (aT (ao 52) 1) (ao 52).aH (bj 0) .normal (Ev c i j c.M[i] k) (fun q=>[(q.b,c.blk)]) (Ev c i j c.M[i] (k+1)) (fun q=>[(q.b,c.blk)]):=by
 have iO:k<(c.M[i]).length:=by rw[(H.hm _ (bo hi)).1];exact hk
 obtain⟨x1,cu⟩:=UA G F H hi hj hk h iO;have cw:=H.cw;exact a9 aO [hb 24 (dv hk),aU 29 1 aj hj,hc x1,aU 38 2 aP iO,hc cu,a5 42 k]
include F H in theorem aq4{i j k:Nat}(hi:i<c.M.length)(hj:j<c.ez.length)(hk:k<c.w)(h:c.fo i j k=false):bb ab G (aT (ao 52) 1) (ao 52).aH (bj 0) .ret (Ev c i j c.M[i] k) (fun q=>[(q.b,c.blk)]) (fun _=>[(6,.bool false)]) (fun _=>[]):=by
 have iO:k<(c.M[i]).length:=by rw[(H.hm _ (bo hi)).1];exact hk
 obtain⟨x1,cu⟩:=UA G F H hi hj hk h iO;have cw:=H.cw;exact a9 aO [hb 24 (dv hk),aU 29 1 aj hj,hc x1,aU 38 2 aP iO,hc cu]
include H in theorem aq9{i:Nat}(hi:i<c.M.length)(h:c.R.contains i=true):bb ab G (aT (ao 52) 0) (ao 52).aH (bj 2) .normal (qF c i) (fun q=>[(q.b,c.blk)]) (qF c (i+1)) (fun q=>[(q.b,c.blk)]):=by have k8:=H.k8;have eV:=H.eV;have gG:=pD G (l:=c.R) (n:=i) ac;rw[h]at gG;unfold qF;rw[NS h];exact a9 aO [bu 14 aj hi,aU 16 1 aj hi,hc gG,a5 45 i]
include F H in theorem aq6{i:Nat}(hi:i<c.M.length)(h0:c.R.contains i=false)(hj:(cW c.R i).length<c.ez.length)(h:c.jq i (cW c.R i).length=true):bb ab G (aT (ao 52) 0) (ao 52).aH (bj 2) .normal (qF c i) (fun q=>[(q.b,c.blk)]) (qF c (i+1)) (fun q=>[(q.b,c.blk)]):=by
 have h':∀k,k<c.w->c.fo i (cW c.R i).length k=true:=fun k hk=>ek.1 h k (cb.2 hk);have k8:=H.k8;have cw:=H.cw;have eV:=H.eV;have atU:=H.lcm;have gG:=pD G (l:=c.R) (n:=i) ac;rw[h0]at gG;have e1:(cW c.R (i+1)).length=(cW c.R i).length+1:=by rw[Ik h0,cy];rfl
 unfold qF;rw[e1];generalize(cW c.R i).length=j at*;exact a9 ⟨[1],[2000001,0],[3],[4]⟩ [bu 14 aj hi,aU 16 1 aj hi,hc gG,dz (ao 52) 1 0 0 c.w aO (Ev c i j c.M[i]) (fun _=>(fun q=>[(q.b,c.blk)])) (.exit 2) (fun q=>[(0,aD c.M),(1,aq c.w),(5,.ref q.b 0 0),(6,.bool false),(7,aq j),(11,aD c.M),(12,.int .i64 ((c.M.map aj).length:Nat)),(13,aq i)]) (fun q=>[(q.b,c.blk)]) (fun k hk=>ZG G F H hi hj hk (h' k hk)) (a9 aO [hb 24 (iW (a2 c.w))]),a5 44 j,a5 45 i]
include F H in theorem aq5{i:Nat}(hi:i<c.M.length)(h0:c.R.contains i=false)(hj:(cW c.R i).length<c.ez.length)(h:c.jq i (cW c.R i).length=false):bb ab G (aT (ao 52) 0) (ao 52).aH (bj 2) .ret (qF c i) (fun q=>[(q.b,c.blk)]) (fun _=>[(6,.bool false)]) (fun _=>[]):=by
 rcases xk (fun k=>c.fo i (cW c.R i).length k) c.w with⟨e,_⟩|⟨_,k,hk,hp,hn⟩;.rw[show c.jq i (cW c.R i).length=true from e]at h;cases h
 .have k8:=H.k8;have cw:=H.cw;have eV:=H.eV;have gG:=pD G (l:=c.R) (n:=i) ac;rw[h0]at gG;unfold qF;generalize(cW c.R i).length=j at*;exact a9 aO [bu 14 aj hi,aU 16 1 aj hi,hc gG,dz (ao 52) 1 0 0 k aO (Ev c i j c.M[i]) (fun _=>(fun q=>[(q.b,c.blk)])) .ret (fun _=>[(6,.bool false)]) (fun _=>[]) (fun l hl=>ZG G F H hi hj ac (hn l hl)) (aq4 G F H hi hj hk hp)]
omit F in include H in theorem Wm{i:Nat}(hi:i<c.M.length)(h0:c.R.contains i=false):(cW c.R i).length<c.ez.length:=by obtain⟨h,_⟩:=NR h0 hi;have:=Ii H.rz H.dM;have:=H.lcm;omega
include F H in theorem aqD:ag ab G 52 [aD c.M,aq c.w,.agg [bP c.R,bP c.C,aD c.inv,aD c.ez,aD c.bh]] (.bool c.uA):=by
 have k8:=H.k8;have D4:∀i,i<c.M.length->(c.R.contains i||c.jq i (cW c.R i).length)=true->bb ab G (aT (ao 52) 0) (ao 52).aH (bj 2) .normal (qF c i) (fun q=>[(q.b,c.blk)]) (qF c (i+1)) (fun q=>[(q.b,c.blk)]):=fun i hi h=>by cases h0:c.R.contains i with|true=>exact aq9 G H hi h0|false=>rw[h0,ng]at h;exact aq6 G F H hi h0 (Wm H hi h0) h
 rcases xk (fun i=>c.R.contains i||c.jq i (cW c.R i).length) c.M.length with⟨e,h⟩|⟨e,i,hi,hp,hn⟩;.rw[show c.uA=true from e];exact bK [dz (ao 52) 0 2 0 c.M.length ⟨[1],[0,0],[3],[4]⟩ (qF c) (fun _=>(fun q=>[(q.b,c.blk)])) (.exit 0) (fun _=>[]) (fun _=>[]) (fun i hi=>D4 i hi (h i hi)) (a9 aO [cS 14 aj c.M])] an
 .rw[show c.uA=false from e];obtain⟨h0,h1⟩:=qP.1 hp;exact bK [dz (ao 52) 0 2 0 i ⟨[1],[0,0],[3],[4]⟩ (qF c) (fun _=>(fun q=>[(q.b,c.blk)])) .ret (fun _=>[(6,.bool false)]) (fun _=>[]) (fun j hj=>D4 j ac (hn j hj)) (aq5 G F H hi h0 (Wm H hi h0) h1)] an
noncomputable abbrev rU(c:df)(k n:Nat)(q:aB):List (Nat×aa):=[(0,aD c.M),(1,aq c.w),(5,.ref q.b 0 0),(6,.bool false),(7,aq n),(12,aq c.w),(13,aq k)]
noncomputable abbrev A9(c:df)(k n:Nat)(v:List ak)(j:Nat)(q:aB):List (Nat×aa):=[(0,aD c.M),(1,aq c.w),(5,.ref q.b 0 0),(6,.bool false),(7,aq n),(12,aq c.w),(13,aq k),(8,aq k),(9,aj v),(25,aq c.w),(26,aq j)]
noncomputable abbrev ZP(c:df)(k n:Nat)(v:List ak)(q:aB):List (Nat×aa):=[(0,aD c.M),(1,aq c.w),(5,.ref q.b 0 0),(6,.bool false),(7,aq n),(12,aq c.w),(13,aq k),(8,aq k),(9,aj v)]
include F H in theorem PE{k n j:Nat}(hn:n<c.bh.length)(hj:j<c.w)(h:c.ob k n j=true):bb ab G (aT (ao 53) 1) (ao 53).aH (bj 0) .normal (A9 c k n c.bh[n] j) (fun q=>[(q.b,c.blk)]) (A9 c k n c.bh[n] (j+1)) (fun q=>[(q.b,c.blk)]):=by
 have cw:=H.cw;have eV:=H.eV;have iE:=H.lc;have gG:=pD G (l:=c.C) (n:=j) ac;have rk:j<(c.bh[n]).length:=by rw[(H.hk _ (bo hn)).1];exact hj
 have pG:=vL G;have j3:=xK G;unfold df.ob at h;cases h0:c.C.contains j with|true=>
     rw[h0]at gG;by_cases e:j=k;.exact a9 aO [hb 27 (dv hj),hc pG,hb 32 (jV (a:=j) (b:=k) (decide_eq_true e)),hc j3,hc gG,a5 48 j]
     .exact a9 aO [hb 27 (dv hj),hc pG,hb 32 (jV (a:=j) (b:=k) (decide_eq_false e)),hc gG,a5 48 j]|false=>
     rw[h0,ng]at h;rw[h0]at gG;have cu:=SR G F H hn rk h;by_cases e:j=k;.rw[show l1 j k=a3 1 from if_pos e]at cu;exact a9 aO [hb 27 (dv hj),hc pG,hb 32 (jV (a:=j) (b:=k) (decide_eq_true e)),hc j3,hc gG,aU 42 2 aP rk,hc cu,a5 48 j]
     .rw[show l1 j k=a3 0 from if_neg e]at cu;exact a9 aO [hb 27 (dv hj),hc pG,hb 32 (jV (a:=j) (b:=k) (decide_eq_false e)),hc gG,aU 42 2 aP rk,hc cu,a5 48 j]
include F H in theorem ari{k n j:Nat}(hn:n<c.bh.length)(hj:j<c.w)(h:c.ob k n j=false):bb ab G (aT (ao 53) 1) (ao 53).aH (bj 0) .ret (A9 c k n c.bh[n] j) (fun q=>[(q.b,c.blk)]) (fun _=>[(6,.bool false)]) (fun _=>[]):=by
 have cw:=H.cw;have eV:=H.eV;have iE:=H.lc;have gG:=pD G (l:=c.C) (n:=j) ac;have rk:j<(c.bh[n]).length:=by rw[(H.hk _ (bo hn)).1];exact hj
 have pG:=vL G;have j3:=xK G;unfold df.ob at h;cases h0:c.C.contains j with|true=>rw[h0,Bool.true_or]at h;cases h|false=>
     rw[h0,ng]at h;rw[h0]at gG;have cu:=SR G F H hn rk h;by_cases e:j=k;.rw[show l1 j k=a3 1 from if_pos e]at cu;exact a9 aO [hb 27 (dv hj),hc pG,hb 32 (jV (a:=j) (b:=k) (decide_eq_true e)),hc j3,hc gG,aU 42 2 aP rk,hc cu]
     .rw[show l1 j k=a3 0 from if_neg e]at cu;exact a9 aO [hb 27 (dv hj),hc pG,hb 32 (jV (a:=j) (b:=k) (decide_eq_false e)),hc gG,aU 42 2 aP rk,hc cu]
include H in theorem arn{k n:Nat}(hk:k<c.w)(h0:c.C.contains k=true):bb ab G (aT (ao 53) 0) (ao 53).aH (bj 2) .normal (rU c k n) (fun q=>[(q.b,c.blk)]) (rU c (k+1) n) (fun q=>[(q.b,c.blk)]):=by have cw:=H.cw;have eV:=H.eV;have iE:=H.lc;have MW:=H.lk;have gG:=pD G (l:=c.C) (n:=k) ac;rw[h0]at gG;exact a9 aO [hb 14 (dv hk),hc gG,a5 55 k]
include F H in theorem arl{k n:Nat}(hk:k<c.w)(hn:n<c.bh.length)(h0:c.C.contains k=false)(h:c.p5 k n=true)(hp:c.xX n=true):bb ab G (aT (ao 53) 0) (ao 53).aH (bj 2) .normal (rU c k n) (fun q=>[(q.b,c.blk)]) (rU c (k+1) (n+1)) (fun q=>[(q.b,c.blk)]):=by have cw:=H.cw;have eV:=H.eV;have iE:=H.lc;have MW:=H.lk;have gG:=pD G (l:=c.C) (n:=k) ac;rw[h0]at gG;have h':∀j,j<c.w->c.ob k n j=true:=fun j hj=>ek.1 h j (cb.2 hj);have pv:=W0 G F H hn hp;exact a9 ⟨[1],[2000001,0],[3],[4]⟩ [hb 14 (dv hk),hc gG,aU 23 1 aj hn,dz (ao 53) 1 0 0 c.w aO (A9 c k n c.bh[n]) (fun _=>(fun q=>[(q.b,c.blk)])) (.exit 2) (ZP c k n c.bh[n]) (fun q=>[(q.b,c.blk)]) (fun j hj=>PE G F H hn hj (h' j hj)) (a9 aO [hb 27 (iW (a2 c.w))]),hc pv,a5 54 n,a5 55 k]
include F H in theorem ark{k n:Nat}(hk:k<c.w)(hn:n<c.bh.length)(h0:c.C.contains k=false)(h:c.p5 k n=true)(hp:c.xX n=false):bb ab G (aT (ao 53) 0) (ao 53).aH (bj 2) .ret (rU c k n) (fun q=>[(q.b,c.blk)]) (fun _=>[(6,.bool false)]) (fun _=>[]):=by have cw:=H.cw;have eV:=H.eV;have iE:=H.lc;have MW:=H.lk;have gG:=pD G (l:=c.C) (n:=k) ac;rw[h0]at gG;have h':∀j,j<c.w->c.ob k n j=true:=fun j hj=>ek.1 h j (cb.2 hj);have pv:=W0 G F H hn hp;exact a9 aO [hb 14 (dv hk),hc gG,aU 23 1 aj hn,dz (ao 53) 1 0 0 c.w aO (A9 c k n c.bh[n]) (fun _=>(fun q=>[(q.b,c.blk)])) (.exit 2) (ZP c k n c.bh[n]) (fun q=>[(q.b,c.blk)]) (fun j hj=>PE G F H hn hj (h' j hj)) (a9 aO [hb 27 (iW (a2 c.w))]),hc pv]
include F H in theorem arj{k n:Nat}(hk:k<c.w)(hn:n<c.bh.length)(h0:c.C.contains k=false)(h:c.p5 k n=false):bb ab G (aT (ao 53) 0) (ao 53).aH (bj 2) .ret (rU c k n) (fun q=>[(q.b,c.blk)]) (fun _=>[(6,.bool false)]) (fun _=>[]):=by
 rcases xk (fun j=>c.ob k n j) c.w with⟨e,_⟩|⟨_,j,hj,hp,ahp⟩;.rw[show c.p5 k n=true from e]at h;cases h
 .have cw:=H.cw;have eV:=H.eV;have iE:=H.lc;have MW:=H.lk;have gG:=pD G (l:=c.C) (n:=k) ac;rw[h0]at gG;exact a9 aO [hb 14 (dv hk),hc gG,aU 23 1 aj hn,dz (ao 53) 1 0 0 j aO (A9 c k n c.bh[n]) (fun _=>(fun q=>[(q.b,c.blk)])) .ret (fun _=>[(6,.bool false)]) (fun _=>[]) (fun l hl=>PE G F H hn ac (ahp l hl)) (ari G F H hn hj hp)]
omit F in include H in theorem NC{k:Nat}(hk:k<c.w)(h0:c.C.contains k=false):(cW c.C k).length<c.bh.length:=by obtain⟨h,_⟩:=NR h0 hk;have:=Ii H.Ah H.hC;have:=H.lk;have:=H.lc;omega
include F H in theorem aqN:ag ab G 53 [aD c.M,aq c.w,.agg [bP c.R,bP c.C,aD c.inv,aD c.ez,aD c.bh]] (.bool c.th):=by
 have cw:=H.cw;have D4:∀k,k<c.w->(c.C.contains k||(c.p5 k (cW c.C k).length&&c.xX (cW c.C k).length))=true->bb ab G (aT (ao 53) 0) (ao 53).aH (bj 2) .normal (rU c k (cW c.C k).length) (fun q=>[(q.b,c.blk)]) (rU c (k+1) (cW c.C (k+1)).length) (fun q=>[(q.b,c.blk)]):=fun k hk h=>by cases h0:c.C.contains k with|true=>rw[NS h0];exact arn G H hk h0|false=>rw[h0,ng,gj]at h;rw[show(cW c.C (k+1)).length=(cW c.C k).length+1 by rw[Ik h0,cy];rfl];exact arl G F H hk (NC H hk h0) h0 h.1 h.2
 rcases xk (fun k=>c.C.contains k||(c.p5 k (cW c.C k).length&&c.xX (cW c.C k).length)) c.w with⟨e,h⟩|⟨e,k,hk,hp,hn⟩;.rw[show c.th=true from e];exact bK [dz (ao 53) 0 2 0 c.w ⟨[1],[0,0],[3],[4]⟩ (fun k=>rU c k (cW c.C k).length) (fun _=>(fun q=>[(q.b,c.blk)])) (.exit 0) (fun _=>[]) (fun _=>[]) (fun k hk=>D4 k hk (h k hk)) (a9 aO [hb 14 (iW (a2 c.w))])] an
 . rw[show c.th=false from e];obtain⟨h0,h1⟩:=qP.1 hp;have ju:bb ab G (aT (ao 53) 0) (ao 53).aH (bj 2) .ret (rU c k (cW c.C k).length) (fun q=>[(q.b,c.blk)]) (fun _=>[(6,.bool false)]) (fun _=>[]):=by cases h2:c.p5 k (cW c.C k).length with|false=>exact arj G F H hk (NC H hk h0) h0 h2|true=>rw[h2,nh]at h1;exact ark G F H hk (NC H hk h0) h0 h2 h1
   exact bK [dz (ao 53) 0 2 0 k ⟨[1],[0,0],[3],[4]⟩ (fun k=>rU c k (cW c.C k).length) (fun _=>(fun q=>[(q.b,c.blk)])) .ret (fun _=>[(6,.bool false)]) (fun _=>[]) (fun j hj=>D4 j ac (hn j hj)) ju] an
end
def Dx(M:List (List ak))(w:Nat):Bool:=mh M (M.length:Int) (w:Int)
def Dy(c:ie):Bool:=decide ((c.bE.length:Int)=(c.rows.length:Int))
def Dz(c:ie):Bool:=mh c.inv (c.rows.length:Int) (c.rows.length:Int)
def DA(M:List (List ak))(c:ie):Bool:=mh c.ez ((M.length:Int)-(c.rows.length:Int)) (c.rows.length:Int)
def Ib(w:Nat)(c:ie):Bool:=mh c.bh ((w:Int)-(c.rows.length:Int)) (w:Int)
def qn(M:List (List ak))(w:Nat)(c:ie):Bool:=Dx M w&&(sn c.rows M.length&&(sn c.bE w&&(Dy c&&(Dz c&&(DA M c&&Ib w c)))))
def js(M:List (List ak))(w:Nat)(c:ie):df:=⟨M,w,c.rows.map ni,c.bE.map ni,c.inv,c.ez,c.bh⟩
def Rm{l:List Int}{n:Nat}(h:sn l n=true):l=(l.map ni).map jj/\(∀k∈l.map ni,k<n)/\(l.map ni).Pairwise (·<·):=by
 have c:∀i(a:i<l.length),0<=l[i]/\l[i]<(n:Int)/\(∀m:0<i,l[i-1]<l[i]):=λ i a=>by have:=ek.1 h i (cb.2 a);unfold va at this;rw[aX a]at this;simp only[Bool.not_or,gj,abO,decide_eq_false_iff_not,Bool.and_eq_false_iff]at this;have⟨h1,g,h3⟩:=this;refine⟨ac,ac,λ m=>?_⟩;have c:i-1<l.length:=ac;rw[aX c]at h3;rcases h3 with h3|h3<;>omega
 have e:∀x∈l,0<=x:=λ x f=>by obtain⟨i,a,rfl⟩:=fy.1 f;exact(c i a).1
 refine⟨?_,λ k o=>?_,?_⟩;rw[List.map_map];refine((kq λ x f=>?_).trans (List.map_id l)).symm;exact Int.toNat_of_nonneg (e x f);obtain⟨x,f,rfl⟩:=bd.1 o;obtain⟨i,a,rfl⟩:=fy.1 f;have:=c i a;omega;have step:∀i j(b:i<j)(d:j<l.length),l[i]<l[j]:=λ i j b=>by induction b with|refl=>intro d;have:=(c (i+1) d).2.2 ac;exact this|@step j _ p=>
     intro d;have h1:=p ac;have g:l[j]<l[j+1]:=by have:=(c (j+1) d).2.2 ac;simpa using this
     exact Int.lt_trans h1 g
 rw[List.pairwise_map,Bw];intro i j a d b;have h1:=step i j b d;have g:=(c i a).1;omega
def Rn{l:List Nat}(h:l.Pairwise (·<·)):l.Nodup:=h.imp λ h=>Qx h
def I9{K:b6}{n:Nat}{M:List (List ak)}{rows w:Int}(h:oY K n M)(a:mh M rows w=true){w':Nat}(e:w=(w':Int)):a4 K n w' M/\(M.length:Int)=rows:=by unfold mh at a;rw[gj]at a;refine⟨λ r b=>⟨?_,h r b⟩,of_decide_eq_true a.2⟩;have:=of_decide_eq_true (ek.1 a.1 r b);omega
structure FO(K:b6)(q nm iH:Nat)(M:List (List ak))(w:Nat)(c:ie):Prop where
 k8:M.length<=4000
 cw:w<=4000
 hm:oY K nm M
 hc:c.G K iH
 eV:c.rows.length<=4000
 p7:c.bE.length<=4000
 i9:c.inv.length<=4000
 NH:c.ez.length<=4000
 UG:c.bh.length<=4000
 zb:bF K q nm
 jq:bF K q iH
 su:(c.rows.length<=M.length->c.rows.length<=w->(∀r∈M,r.length=w)->bF K q (c.rows.length*(iH+nm+K.c+1)))p5:(∀r∈M,r.length=w)->bF K q (w*(nm+iH+K.c+1))
def aeI{K:b6}{q nm iH:Nat}{M:List (List ak)}{w:Nat}{c:ie}(S:FO K q nm iH M w c)(h:qn M w c=true):(js M w c).B3 K q nm iH/\c.rows=(js M w c).R.map jj/\c.bE=(js M w c).C.map jj:=by unfold qn Dx Dy Dz DA Ib at h;simp only[gj]at h;have⟨h1,y,h3,h4,p,l,f⟩:=h;have⟨j,b2,g⟩:=Rm y;have⟨k,b3,v⟩:=Rm h3;have A:=of_decide_eq_true h4;have⟨d,B⟩:=I9 S.hm h1 rfl;have⟨s,D⟩:=I9 S.hc.inv p rfl;have⟨n,z⟩:=I9 S.hc.ez l rfl;have⟨u,E⟩:=I9 S.hc.bh f rfl;have a:(c.rows.map ni).length=c.rows.length:=aL ..;have m:(c.bE.map ni).length=c.bE.length:=aL ..;have e:=Rn g;have jz:=Rn v;have o:=n6 (S:=aR M.length) e λ x b=>cb.2 (b2 x b);have t:=n6 (S:=aR w) jz λ x b=>cb.2 (b3 x b);rw[cR]at o t;have hw:∀r∈M,r.length=w:=λ r i=>(d r i).1;refine⟨⟨S.k8,S.cw,d,b2,b3,?_,e,jz,?_,?_,?_,?_,u,?_,S.zb,S.jq,?_,S.p5 hw⟩,j,k⟩;show(c.bE.map ni).length=(c.rows.map ni).length;rw[a,m];omega;show a4 K iH (c.rows.map ni).length c.inv;rw[a];exact s;show c.inv.length=(c.rows.map ni).length;rw[a];omega;show a4 K iH (c.rows.map ni).length c.ez;rw[a];exact n;show c.ez.length+(c.rows.map ni).length=M.length;rw[a];omega;show c.bh.length+(c.rows.map ni).length=w;rw[a];omega;show bF K q ((c.rows.map ni).length*_);rw[a];exact S.su ac ac hw
noncomputable def kH(M:List (List ak))(w:Nat)(c:ie):Bool:=qn M w c&&((js M w c).rR&&((js M w c).uA&&(js M w c).th))
section
variable(G:Nat->Option (List aa)){K:b6}{q e r:Nat}(F:eb K q e r){nm iH:Nat}{M:List (List ak)}{w:Nat}{c:ie}
def mc{l:List Int}:(((l.map di).length:Nat):Int)=(l.length:Int):=by rw[aL]
def iY:(((M.map aj).length:Nat):Int)=(M.length:Int):=by rw[aL]
def uy{a b:Nat}(d:a<=4000)(hb:b<=4000):cV.wrap ((a:Int)-(b:Int))=(a:Int)-(b:Int):=by rw[c0];omega
def Nu{a b:Nat}{z:Bool}(h:decide ((a:Int)=(b:Int))=z):((a:Int)!=(b:Int))=!z:=by rw[<-h];by_cases e:(a:Int)=(b:Int);rw[decide_eq_true e,e];exact bne_self_eq_false _;rw[decide_eq_false e];exact bne_iff_ne.2 e
include F in theorem Pr(S:FO K q nm iH M w c):ag ab G 16 [aD M,aq w,kG c] (.bool (kH M w c)):=by
 have k8:=S.k8;have eV:=S.eV;have cw:=S.cw;have p7:=S.p7;have i9:=S.i9;have NH:=S.NH;have UG:=S.UG;have x1:=Jv G (M:=M) (rows:=(M.length:Int)) (w:=(w:Int)) ac;have cu:=ZA G (l:=c.rows) (n:=M.length) ac;have lj:=ZA G (l:=c.bE) (n:=w) ac;have qJ:=Jv G (M:=c.inv) (rows:=(c.rows.length:Int)) (w:=(c.rows.length:Int)) ac;have rY:=Jv G (M:=c.ez) (rows:=(M.length:Int)-(c.rows.length:Int)) (w:=(c.rows.length:Int)) ac;have Be:=Jv G (M:=c.bh) (rows:=(w:Int)-(c.rows.length:Int)) (w:=(w:Int)) ac;have w0:decide ((w:Int)<0)=false:=decide_eq_false ac;have aeH:=fun h=>aeI S h;unfold kH;by_cases nz:qn M w c=true
 . obtain⟨H,e2,e3⟩:=aeH nz;have Bm:=aqJ G F H;have JW:=aqD G F H;have aaq:=aqN G F H;rw[nz,nh];have pe:=nz;unfold qn Dx Dy Dz DA Ib at pe;simp only[gj]at pe;obtain⟨s1,s2,D8,D9,Ea,Eb,ao5⟩:=pe;rw[s1]at x1;rw[s2]at cu;rw[D8]at lj;rw[Ea]at qJ;rw[Eb]at rY;rw[ao5]at Be;have Cs:kG c=.agg [bP (js M w c).R,bP (js M w c).C,aD (js M w c).inv,aD (js M w c).ez,aD (js M w c).bh]:=by
     unfold kG;conv=>lhs;rw[e2,e3]
     rw[C0,C0];rfl
   have xJ:=Nu D9;cases b1:(js M w c).rR with|false=>rw[b1,<-Cs]at Bm;rw[uY];exact aN [hw 10 (mc (l:=c.rows)),hb 12 w0,hw 16 (iY (M:=M)),hc x1,hw 25 (iY (M:=M)),hc cu,hc lj,hw 39 (mc (l:=c.bE)),hb 41 xJ,hc qJ,hw 53 (iY (M:=M)),hw 55 (uy k8 eV),hc rY,hw 65 (uy cw eV),hc Be,hc Bm] an|true=>rw[b1,<-Cs]at Bm;rw[nh];cases b2:(js M w c).uA with|false=>rw[b2,<-Cs]at JW;rw[uY];exact aN [hw 10 (mc (l:=c.rows)),hb 12 w0,hw 16 (iY (M:=M)),hc x1,hw 25 (iY (M:=M)),hc cu,hc lj,hw 39 (mc (l:=c.bE)),hb 41 xJ,hc qJ,hw 53 (iY (M:=M)),hw 55 (uy k8 eV),hc rY,hw 65 (uy cw eV),hc Be,hc Bm,hc JW] an|true=>rw[b2,<-Cs]at JW;rw[nh];rw[<-Cs]at aaq;generalize(js M w c).th=b3 at*;exact aN [hw 10 (mc (l:=c.rows)),hb 12 w0,hw 16 (iY (M:=M)),hc x1,hw 25 (iY (M:=M)),hc cu,hc lj,hw 39 (mc (l:=c.bE)),hb 41 xJ,hc qJ,hw 53 (iY (M:=M)),hw 55 (uy k8 eV),hc rY,hw 65 (uy cw eV),hc Be,hc Bm,hc JW,hc aaq] an
 . have pe:qn M w c=false:=by simpa using nz
   rw[pe,uY];unfold qn at pe;cases s1:Dx M w with|false=>have Ou:mh M (M.length:Int) (w:Int)=false:=s1;rw[Ou]at x1;exact aN [hw 10 (mc (l:=c.rows)),hb 12 w0,hw 16 (iY (M:=M)),hc x1] an|true=>have Ou:mh M (M.length:Int) (w:Int)=true:=s1;rw[Ou]at x1;rw[s1,nh]at pe;cases s2:sn c.rows M.length with|false=>rw[s2]at cu;exact aN [hw 10 (mc (l:=c.rows)),hb 12 w0,hw 16 (iY (M:=M)),hc x1,hw 25 (iY (M:=M)),hc cu] an|true=>rw[s2]at cu;rw[s2,nh]at pe;cases D8:sn c.bE w with|false=>rw[D8]at lj;exact aN [hw 10 (mc (l:=c.rows)),hb 12 w0,hw 16 (iY (M:=M)),hc x1,hw 25 (iY (M:=M)),hc cu,hc lj] an|true=>rw[D8]at lj;rw[D8,nh]at pe;cases D9:Dy c with|false=>exact aN [hw 10 (mc (l:=c.rows)),hb 12 w0,hw 16 (iY (M:=M)),hc x1,hw 25 (iY (M:=M)),hc cu,hc lj,hw 39 (mc (l:=c.bE)),hb 41 (Nu (z:=false) D9)] an|true=>rw[D9,nh]at pe;have xJ:=Nu (z:=true) D9;cases Ea:Dz c with|false=>have IZ:mh c.inv (c.rows.length:Int) (c.rows.length:Int)=false:=Ea;rw[IZ]at qJ;exact aN [hw 10 (mc (l:=c.rows)),hb 12 w0,hw 16 (iY (M:=M)),hc x1,hw 25 (iY (M:=M)),hc cu,hc lj,hw 39 (mc (l:=c.bE)),hb 41 xJ,hc qJ] an|true=>have IZ:mh c.inv (c.rows.length:Int) (c.rows.length:Int)=true:=Ea;rw[IZ]at qJ;rw[Ea,nh]at pe;cases Eb:DA M c with|false=>have Ov:mh c.ez ((M.length:Int)-(c.rows.length:Int)) (c.rows.length:Int)=false:=Eb;rw[Ov]at rY;exact aN [hw 10 (mc (l:=c.rows)),hb 12 w0,hw 16 (iY (M:=M)),hc x1,hw 25 (iY (M:=M)),hc cu,hc lj,hw 39 (mc (l:=c.bE)),hb 41 xJ,hc qJ,hw 53 (iY (M:=M)),hw 55 (uy k8 eV),hc rY] an|true=>have Ov:mh c.ez ((M.length:Int)-(c.rows.length:Int)) (c.rows.length:Int)=true:=Eb;rw[Ov]at rY;rw[Eb,nh]at pe;have ao6:mh c.bh ((w:Int)-(c.rows.length:Int)) (w:Int)=false:=pe;rw[ao6]at Be;exact aN [hw 10 (mc (l:=c.rows)),hb 12 w0,hw 16 (iY (M:=M)),hc x1,hw 25 (iY (M:=M)),hc cu,hc lj,hw 39 (mc (l:=c.bE)),hb 41 xJ,hc qJ,hw 53 (iY (M:=M)),hw 55 (uy k8 eV),hc rY,hw 65 (uy cw eV),hc Be] an
noncomputable abbrev df.ch(c:df):List (List ak):=aE c.M c.R
noncomputable abbrev df.z9(c:df):List (List ak):=c.ch.map (b5 c.C)
noncomputable def df.aeL(c:df)(i k:Nat):Bool:=fF ((c.M.getD ((cW c.R c.M.length).getD i 0) []).getD k (a3 0)) (aeX (c.ez.getD i []) (jr c.ch k))
noncomputable def df.ae9(c:df)(i:Nat):Bool:=(aR c.w).all λ k=>c.aeL i k
noncomputable def df.Xj(c:df):Bool:=(aR (cW c.R c.M.length).length).all λ i=>c.ae9 i
end
section
variable(G:Nat->Option (List aa)){K:b6}{q e r:Nat}(F:eb K q e r){nm iH:Nat}{c:df}(H:c.B3 K q nm iH)
include H in include H in noncomputable def Ge(c:df)(i:Nat):List aa:=(aE c.M (c.R.take i)).map aj
noncomputable def HT(c:df)(i:Nat):List aa:=((aE c.M (c.R.take i)).map (b5 c.C)).map aj
instance{c:df}{i:Nat}:bn (Ge c i):=by unfold Ge;infer_instance
instance{c:df}{i:Nat}:b9 1 (Ge c i):=by unfold Ge;infer_instance
instance{c:df}{i:Nat}:bn (HT c i):=by unfold HT;infer_instance
instance{c:df}{i:Nat}:b9 1 (HT c i):=by unfold HT;infer_instance
include H in include H in include H in include H in include H in include F H in include F H in include F H in include F H in include F H in include F H in include F H in include F H in include F H in include F H in include F H in include F H in def lB(l:List aC):Nat:=l.foldl (λ m a=>if a.T.1>m then a.T.1 else m) 0
def akG{l:List aC}{i:Nat}(a:i<l.length):lB (l.take (i+1))=if l[i].T.1>lB (l.take i)then l[i].T.1 else lB (l.take i):=by unfold lB;rw[List.take_succ_eq_append_getElem a,wH];rfl
abbrev u8(n:Nat):aa:=.int .u8 (n:Int)
def sD(ops:List fI)(at_:List Nat)(a:Nat):aa:=.agg [.sl 5 (ops.map k9),.sl 1 (at_.map u8),u8 a]
instance{ops:List fI}{at_:List Nat}{a:Nat}:bg (sD ops at_ a):=by haveI:bg (.sl 5 (ops.map k9)):=cT.map (m:=5) (λ x=>inferInstance) ops;haveI:bg (.sl 1 (at_.map u8)):=cT.map (m:=1) (λ x=>inferInstance) at_;unfold sD;infer_instance
def hO(l:List aC)(at_:List Nat)(n j m:Nat):List ak:=(aR m).map λ k=>((true,l.getD (at_.getD (j*n+k) 0%l.length) (eC 0)):ak)
def g5(l:List aC)(at_:List Nat)(n m:Nat):List (List ak):=(aR m).map λ j=>hO l at_ n j n
def Tz(l:List aC)(at_:List Nat)(n j m:Nat):hO l at_ n j (m+1)=hO l at_ n j m++[(true,l.getD (at_.getD (j*n+m) 0%l.length) (eC 0))]:=by unfold hO;rw[gz,dW,gQ]
def Ty(l:List aC)(at_:List Nat)(n m:Nat):g5 l at_ n (m+1)=g5 l at_ n m++[hO l at_ n m n]:=by unfold g5;rw[gz,dW,gQ]
end
section
variable(G:Nat->Option (List aa))
noncomputable abbrev U8(l:List aC)(i:Nat):List (Nat×aa):=[(0,fQ l),(3,aq (lB (l.take i))),(4,aq i)]
def ajZ{l:List aC}(d:l.length<=9000):ag ab G 93 [fQ l] (aq (lB l)):=by
 have e:lB l=lB (l.take l.length):=by rw[gl]
 rw[e];refine bK [gw (ao 93) 0 0 0 l.length (U8 l) (.exit 0) [(3,aq (lB (l.take l.length)))] (λ i a=>?_) (rd [cS 8 aw l])];have b:((((l[i].T.2.ay).map bk).length:Nat):Int)=(l[i].T.1:Int):=by rw[aL,aI.x3]
 unfold U8;rw[akG a];by_cases h:l[i].T.1>lB (l.take i);rw[if_pos h];exact rd [bu 8 aw a,aU 13 2 aw a,hw 16 b,hb 18 (show decide ((l[i].T.1:Int)>(lB (l.take i):Int))=true from decide_eq_true ac),aU 21 2 aw a,hw 24 b,a5 10 i];rw[if_neg h];exact rd [bu 8 aw a,aU 13 2 aw a,hw 16 b,hb 18 (show decide ((l[i].T.1:Int)>(lB (l.take i):Int))=false from decide_eq_false ac),a5 10 i]
def Vp(l:List aC)(i:Nat)(b:i<256)(c:l.length<=9000):ag ab G 92 [fQ l,aq i] (aP (true,l.getD (i%l.length) (eC 0))):=by by_cases h:l=[];subst h;exact ar2 G i;exact ar1 G l i b h c
variable{ops:List fI}{at_:List Nat}{bE n:Nat}{l:List aC}
noncomputable abbrev fp(ops:List fI)(at_:List Nat)(bE:Nat):aJ:=⟨[sD ops at_ bE],3,false⟩
noncomputable abbrev oq(l:List aC)(n j k:Nat)(q:aB):List (Nat×aa):=[(2,.ref q.b 0 0),(4,.ar),(5,.bool false),(6,fQ l),(7,aq n),(9,aq (j*n)),(11,aq k)]
noncomputable abbrev jY(l:List aC)(n j:Nat)(q:aB):List (Nat×aa):=[(2,.ref q.b 0 0),(4,.ar),(5,.bool false),(6,fQ l),(7,aq n),(9,aq (j*n))]
def af3(f:l.length<=9000)(e:∀a∈at_,a<256)(o:n<=12){j k:Nat}(g:k<n)(c:j*n+k<at_.length)(m:at_.length<=9000):bb ab G (aT (ao 44) 1) (ao 44).aH (bj 0) .normal (λ q=>(10,bt q.a 2 ((hO l at_ n j k).map aP))::(8,.ar)::oq l n j k q) (λ q=>a8 q.a 2 ((hO l at_ n j k).map aP)++[(q.b,fp ops at_ bE)]) (λ q=>(10,bt q.a 2 ((hO l at_ n j (k+1)).map aP))::(8,.ar)::oq l n j (k+1) q) (λ q=>a8 q.a 2 ((hO l at_ n j (k+1)).map aP)++[(q.b,fp ops at_ bE)]):=by
 have h:=e _ (bo c);have x:=Vp G l (at_[j*n+k]) h f;rw[Tz,dW,gQ,aX c];have i:((hO l at_ n j k).map aP).length<=9000:=by rw[aL];unfold hO;rw[aL,cR];omega
 exact qW (key:=57) (bytes:=48) (N:=9000) (hb:=al) (A:=λ q=>(8,.ar)::oq l n j k q) (B:=λ q=>(8,.ar)::oq l n j (k+1) q) (bC:=λ q=>[(q.b,fp ops at_ bE)]) (bO:=λ q=>[(q.b,fp ops at_ bE)]) (Ic i) 14 ⟨[15,0],[2],[3],[4]⟩ (λ y=>[hb 42 (dv g),hw 51 (show cV.wrap (((j*n:Nat):Int)+(k:Int))=((j*n+k:Nat):Int)by rw[c0];omega),aU 52 1 u8 c,hw 54 (uG ((at_[j*n+k]:Nat):Int) ac ac),hc x]++y++[a5 44 k])
def af5{L:List aa}[bn L][b9 1 L](g:l.length<=9000)(f:∀a∈at_,a<256)(p:n<=12){j k:Nat}(h:k<n)(d:j*n+k<at_.length)(o:at_.length<=9000):bb ab G (aT (ao 44) 1) (ao 44).aH (bj 0) .normal (λ q=>(10,bt q.a 2 ((hO l at_ n j k).map aP))::(8,.ah q.c 1 0 L.length false)::oq l n j k q) (λ q=>a8 q.a 2 ((hO l at_ n j k).map aP)++[(q.b,fp ops at_ bE),(q.c,⟨L,1,false⟩)]) (λ q=>(10,bt q.a 2 ((hO l at_ n j (k+1)).map aP))::(8,.ah q.c 1 0 L.length false)::oq l n j (k+1) q) (λ q=>a8 q.a 2 ((hO l at_ n j (k+1)).map aP)++[(q.b,fp ops at_ bE),(q.c,⟨L,1,false⟩)]):=by
 have i:=f _ (bo d);have x:=Vp G l (at_[j*n+k]) i g;rw[Tz,dW,gQ,aX d];have m:((hO l at_ n j k).map aP).length<=9000:=by rw[aL];unfold hO;rw[aL,cR];omega
 exact qW (key:=57) (bytes:=48) (N:=9000) (hb:=al) (A:=λ q=>(8,.ah q.c 1 0 L.length false)::oq l n j k q) (B:=λ q=>(8,.ah q.c 1 0 L.length false)::oq l n j (k+1) q) (bC:=λ q=>[(q.b,fp ops at_ bE),(q.c,⟨L,1,false⟩)]) (bO:=λ q=>[(q.b,fp ops at_ bE),(q.c,⟨L,1,false⟩)]) (Ic m) 14 ⟨[15,0],[2],[3],[4]⟩ (λ y=>[hb 42 (dv h),hw 51 (show cV.wrap (((j*n:Nat):Int)+(k:Int))=((j*n+k:Nat):Int)by rw[c0];omega),aU 52 1 u8 d,hw 54 (uG ((at_[j*n+k]:Nat):Int) ac ac),hc x]++y++[a5 44 k])
def Tu:∀e∈(fp ops at_ bE).els,e.size=(fp ops at_ bE).k:=λ e a=>by rw[bU.1 a];rfl
def af4{R:List aa}[bn R]{j:Nat}(d:∀e∈R,cT 2 e):bb ab G (aT (ao 44) 1) (ao 44).aH (bj 0) (.exit 2) (λ q=>(10,bt q.a 2 R)::(8,.ar)::oq l n j n q) (λ q=>a8 q.a 2 R++[(q.b,fp ops at_ bE)]) (λ q=>(10,.sl 2 R)::(8,.ar)::jY l n j q) (λ q=>[(q.b,fp ops at_ bE)]):=(j1 (A:=λ q=>(8,.ar)::oq l n j n q) (B:=λ q=>(8,.ar)::jY l n j q) (bC:=λ q=>[(q.b,fp ops at_ bE)]) (bO:=λ q=>[(q.b,fp ops at_ bE)]) aO [hb 42 (iW (a2 n))]).vp d (λ m q g x f=>by rw[bU.1 f];exact⟨dS g.ne.1,Tu⟩)
def af6{L R:List aa}[bn L][b9 1 L][bn R]{j:Nat}(f:∀e∈R,cT 2 e):bb ab G (aT (ao 44) 1) (ao 44).aH (bj 0) (.exit 2) (λ q=>(10,bt q.a 2 R)::(8,.ah q.c 1 0 L.length false)::oq l n j n q) (λ q=>a8 q.a 2 R++[(q.b,fp ops at_ bE),(q.c,⟨L,1,false⟩)]) (λ q=>(10,.sl 2 R)::(8,.ah q.c 1 0 L.length false)::jY l n j q) (λ q=>[(q.b,fp ops at_ bE),(q.c,⟨L,1,false⟩)]):=(j1 (A:=λ q=>(8,.ah q.c 1 0 L.length false)::oq l n j n q) (B:=λ q=>(8,.ah q.c 1 0 L.length false)::jY l n j q) (bC:=λ q=>[(q.b,fp ops at_ bE),(q.c,⟨L,1,false⟩)]) (bO:=λ q=>[(q.b,fp ops at_ bE),(q.c,⟨L,1,false⟩)]) aO [hb 42 (iW (a2 n))]).vp f (F7 (λ _=>Tu) (λ _ e g=>(b9.all (k:=1) e g).size))
def af1(g:l.length<=9000)(o:∀a∈at_,a<256)(p:n<=12){j:Nat}(u:j*n+n<=at_.length)(t:at_.length<=8000):bb ab G (aT (ao 44) 0) (ao 44).aH (bj 2) .normal (λ q=>(8,.ar)::jY l n j q) (λ q=>[(q.b,fp ops at_ bE)]) (λ q=>(8,.ah q.c 1 0 1 false)::jY l n (j+1) q) (λ q=>[(q.b,fp ops at_ bE),(q.c,⟨[aj (hO l at_ n j n)],1,false⟩)]):=by
 have f:cV.wrap (((j*n:Nat):Int)+(n:Int))=((j*n+n:Nat):Int):=by rw[c0];omega
 have i:(j+1)*n=j*n+n:=gB j n;have h:(((at_.map u8).length:Nat):Int)=(at_.length:Int):=by rw[aL]
 unfold jY;rw[i];exact a9 ⟨[1],[2000001,0],[2000007,0],[4]⟩ [hw 32 f,hw 35 h,hb 36 (show decide (((j*n+n:Nat):Int)<=(at_.length:Int))=true from decide_eq_true ac),dz (ao 44) 1 0 0 n aO (λ k q=>(10,bt q.a 2 ((hO l at_ n j k).map aP))::(8,.ar)::oq l n j k q) (λ k q=>a8 q.a 2 ((hO l at_ n j k).map aP)++[(q.b,fp ops at_ bE)]) (.exit 2) (λ q=>(10,aj (hO l at_ n j n))::(8,.ar)::jY l n j q) (λ q=>[(q.b,fp ops at_ bE)]) (λ k m=>af3 G g o p m ac ac) (af4 G λ e r=>by obtain⟨x,_,rfl⟩:=bd.1 r;infer_instance),hw 39 f]
def af2{L:List aa}[bn L][b9 1 L](u:L.length<=9000)(g:l.length<=9000)(m:∀a∈at_,a<256)(r:n<=12){j:Nat}(t:j*n+n<=at_.length)(v:at_.length<=8000):bb ab G (aT (ao 44) 0) (ao 44).aH (bj 2) .normal (λ q=>(8,.ah q.c 1 0 L.length false)::jY l n j q) (λ q=>[(q.b,fp ops at_ bE),(q.c,⟨L,1,false⟩)]) (λ q=>(8,.ah q.c 1 0 (L.length+1) false)::jY l n (j+1) q) (λ q=>[(q.b,fp ops at_ bE),(q.c,⟨L++[aj (hO l at_ n j n)],1,false⟩)]):=by
 have f:cV.wrap (((j*n:Nat):Int)+(n:Int))=((j*n+n:Nat):Int):=by rw[c0];omega
 have i:(j+1)*n=j*n+n:=gB j n;have h:(((at_.map u8).length:Nat):Int)=(at_.length:Int):=by rw[aL]
 unfold jY;rw[i];exact a9 ⟨[1],[2000001,0],[2000007,0],[4]⟩ [hw 32 f,hw 35 h,hb 36 (show decide (((j*n+n:Nat):Int)<=(at_.length:Int))=true from decide_eq_true ac),dz (ao 44) 1 0 0 n aO (λ k q=>(10,bt q.a 2 ((hO l at_ n j k).map aP))::(8,.ah q.c 1 0 L.length false)::oq l n j k q) (λ k q=>a8 q.a 2 ((hO l at_ n j k).map aP)++[(q.b,fp ops at_ bE),(q.c,⟨L,1,false⟩)]) (.exit 2) (λ q=>(10,aj (hO l at_ n j n))::(8,.ah q.c 1 0 L.length false)::jY l n j q) (λ q=>[(q.b,fp ops at_ bE),(q.c,⟨L,1,false⟩)]) (λ k o=>af5 G g m r o ac ac) (af6 G λ e p=>by obtain⟨x,_,rfl⟩:=bd.1 p;infer_instance),l5 61 1 24 [2000002,0] 2000006 L (aj (hO l at_ n j n)) ac (g9 (k:=1)),hw 39 f]
end
section
variable(G:Nat->Option (List aa)){ops:List fI}{at_:List Nat}{bE n:Nat}{l:List aC}
noncomputable def rr(l:List aC)(at_:List Nat)(n j:Nat)(q:aB):List (Nat×aa):=if j=0 then(8,.ar)::jY l n j q else(8,.ah q.c 1 0 ((g5 l at_ n j).map aj).length false)::jY l n j q
noncomputable def rq(ops:List fI)(bE:Nat)(l:List aC)(at_:List Nat)(n j:Nat)(q:aB):List (bz×aJ):=if j=0 then [(q.b,fp ops at_ bE)]else [(q.b,fp ops at_ bE),(q.c,⟨(g5 l at_ n j).map aj,1,false⟩)]
def Tx(l:List aC)(at_:List Nat)(n j:Nat):(g5 l at_ n j).length=j:=by unfold g5;rw[aL,cR]
def akp(g:l.length<=9000)(h:∀a∈at_,a<256)(k:n<=12)(n0:0<n){j:Nat}(r:j<at_.length/n)(t:at_.length<=24):bb ab G (aT (ao 44) 0) (ao 44).aH (bj 2) .normal (rr l at_ n j) (rq ops bE l at_ n j) (rr l at_ n (j+1)) (rq ops bE l at_ n (j+1)):=by
 have hb:j*n+n<=at_.length:=by have h1:=cr n (show j+1<=at_.length/n from r);have s:=Qy at_.length n;rw[gB]at h1;omega
 have m:=h7 at_.length n;have p:rr l at_ n (j+1)=λ q=>(8,.ah q.c 1 0 (((g5 l at_ n j).map aj).length+1) false)::jY l n (j+1) q:=by funext q;unfold rr;rw[if_neg ac,Ty,dW,cy];rfl
 have o:rq ops bE l at_ n (j+1)=λ q=>[(q.b,fp ops at_ bE),(q.c,⟨(g5 l at_ n j).map aj++[aj (hO l at_ n j n)],1,false⟩)]:=by funext q;unfold rq;rw[if_neg ac,Ty,dW];rfl
 rw[p,o];by_cases d:j=0;subst d;have f:rr l at_ n 0=λ q=>(8,.ar)::jY l n 0 q:=funext λ q=>if_pos rfl;have e:rq ops bE l at_ n 0=λ q=>[(q.b,fp ops at_ bE)]:=funext λ q=>if_pos rfl;rw[f,e];exact af1 G g h k hb ac;have f:rr l at_ n j=λ q=>(8,.ah q.c 1 0 ((g5 l at_ n j).map aj).length false)::jY l n j q:=funext λ q=>if_neg d;have e:rq ops bE l at_ n j=λ q=>[(q.b,fp ops at_ bE),(q.c,⟨(g5 l at_ n j).map aj,1,false⟩)]:=funext λ q=>if_neg d;rw[f,e];exact af2 G (L:=(g5 l at_ n j).map aj) (by rw[aL,Tx];omega) g h k hb ac
def ako(n0:0<n)(v:n<=12)(w:at_.length<=24):bb ab G (aT (ao 44) 0) (ao 44).aH (bj 2) (.exit 0) (rr l at_ n (at_.length/n)) (rq ops bE l at_ n (at_.length/n)) (λ _=>[(8,aD (g5 l at_ n (at_.length/n))),(6,fQ l)]) (λ _=>[]):=by
 have t:at_.length<at_.length/n*n+n:=by have:=Nat.lt_div_mul_add (a:=at_.length) n0;exact this
 have p:=Qy at_.length n;have k:cV.wrap (((at_.length/n*n:Nat):Int)+(n:Int))=((at_.length/n*n+n:Nat):Int):=by rw[c0];omega
 have o:(((at_.map u8).length:Nat):Int)=(at_.length:Int):=by rw[aL]
 have h:decide (((at_.length/n*n+n:Nat):Int)<=(at_.length:Int))=false:=decide_eq_false ac;by_cases f:at_.length/n=0;have j:rr l at_ n (at_.length/n)=λ q=>(8,.ar)::jY l n (at_.length/n) q:=funext λ q=>if_pos f;have i:rq ops bE l at_ n (at_.length/n)=λ q=>[(q.b,fp ops at_ bE)]:=funext λ q=>if_pos f;have H:bb ab G (aT (ao 44) 0) (ao 44).aH (bj 2) (.exit 0) (λ q=>(8,.ar)::jY l n (at_.length/n) q) (λ q=>[(q.b,fp ops at_ bE)]) (λ _=>[(8,.ar),(6,fQ l)]) (λ q=>[(q.b,fp ops at_ bE)]):=a9 aO [hw 32 k,hw 35 o,hb 36 h];rw[j,i];have l2:aD (g5 l at_ n (at_.length/n))=.sl 1 []:=by rw[f];rfl
 rw[l2];exact H.hZ λ q m g=>bN.CB am (pE [(6,fQ l)] (lO 8 (ji _ _) (gD.view (e8 1))));have j:rr l at_ n (at_.length/n)=λ q=>(8,.ah q.c 1 0 ((g5 l at_ n (at_.length/n)).map aj).length false)::jY l n (at_.length/n) q:=funext λ q=>if_neg f;have i:rq ops bE l at_ n (at_.length/n)=λ q=>[(q.b,fp ops at_ bE),(q.c,⟨(g5 l at_ n (at_.length/n)).map aj,1,false⟩)]:=funext λ q=>if_neg f;rw[j,i];have r:∀e∈(g5 l at_ n (at_.length/n)).map aj,cT 1 e:=λ e u=>by obtain⟨x,_,rfl⟩:=bd.1 u;infer_instance
 have l2:aD (g5 l at_ n (at_.length/n))=.sl 1 ((g5 l at_ n (at_.length/n)).map aj):=rfl;rw[l2];haveI:bn ((g5 l at_ n (at_.length/n)).map aj):=inferInstance;have H:bb ab G (aT (ao 44) 0) (ao 44).aH (bj 2) (.exit 0) (λ q=>(8,.ah q.c 1 0 ((g5 l at_ n (at_.length/n)).map aj).length false)::jY l n (at_.length/n) q) (λ q=>[(q.b,fp ops at_ bE),(q.c,⟨(g5 l at_ n (at_.length/n)).map aj,1,false⟩)]) (λ q=>[(8,.ah q.c 1 0 ((g5 l at_ n (at_.length/n)).map aj).length false),(6,fQ l)]) (λ q=>[(q.b,fp ops at_ bE),(q.c,⟨(g5 l at_ n (at_.length/n)).map aj,1,false⟩)]):=a9 aO [hw 32 k,hw 35 o,hb 36 h];exact H.hZ λ q m g=>bN.CB (by simp[g.ne.2.2.2.1]) (pE [(6,fQ l)] (lO 8 (ji _ _) (wh (by simp[aQ.of,List.lookup,gE (dS g.ne.2.2.2.1)]) r)))
def zA(ops:List fI)(at_:List Nat)(l:List aC):Bool:=l.all vE&&!decide (at_.length>24)
def aj1(ho:∀o∈ops,lU o)(x:∀a∈at_,a<256)(v:bE<256)(g:xc ops=l)(y:1+bE%12=n):ag ab G 44 [sD ops at_ bE,aq 24] (if zA ops at_ l=true then .aM [aD (g5 l at_ n (at_.length/n)),.bool (decide (lB l<=2))]else .aM [aD [],.bool false]):=by
 have f:=ar3 G ops ho;rw[g]at f;have⟨Q,q⟩:=Rx (r:=ops) λ o h=>(ho o h).abs;rw[g]at q;have z:l.length<=24:=by rw[<-g,Rw];have:=(K6 ho (min ops.length 24) (Nat.min_le_left _ _)).2;rw[this];exact Nat.min_le_right _ _
 have e:=ar0 G l ac λ a h=>Src.xT (q.2 a h).1;have n0:0<n:=ac;have m:n<=12:=ac;have d:=uG (bE:Int) ac ac;have c:cV.wrap (1+((bE%12:Nat):Int))=(n:Int):=by rw[<-y,c0];omega
 have b:decide ((((at_.map u8).length:Nat):Int)>24)=decide (at_.length>24):=by rw[aL];by_cases h:at_.length>24;rw[decide_eq_true h,decide_eq_true ac];rw[decide_eq_false h,decide_eq_false ac]
 unfold zA;cases p:l.all vE with|false=>rw[p]at e;rw[uY,if_neg Fp];exact ag.oN hN [hc f,hw 17 d,sH 18 .i64 bE 12,hw 19 c,hc e] [] (.aM [.ar,.bool false]) an rfl rfl gA (λ σ _=>mq (bZ (e8 1) (bZ (fx bg.pure) eH)))|true=>rw[p]at e;rw[nh];cases i:decide (at_.length>24)with|true=>rw[i]at b;rw[Bool.not_true,if_neg Fp];exact ag.oN hN [hc f,hw 17 d,sH 18 .i64 bE 12,hw 19 c,hc e,hb 28 b] [] (.aM [.ar,.bool false]) an rfl rfl gA (λ σ _=>mq (bZ (e8 1) (bZ (fx bg.pure) eH)))|false=>
     rw[i]at b;rw[Bool.not_false,if_pos rfl];have t:at_.length<=24:=by have:=of_decide_eq_false i;omega
     have u:=ajZ G (l:=l) ac;have k:decide ((lB l:Int)<=2)=decide (lB l<=2):=by by_cases h:lB l<=2;rw[decide_eq_true h,decide_eq_true ac];rw[decide_eq_false h,decide_eq_false ac]
     exact bK [hc f,hw 17 d,sH 18 .i64 bE 12,hw 19 c,hc e,hb 28 b,HN (ao 44) 0 2 0 (at_.length/n) ⟨[1],[0,0],[3],[4]⟩ [(8,.ar),(2,.ref [0,0] 0 0),(4,.ar),(5,.bool false),(6,fQ l),(7,aq n),(9,aq 0)] [([0,0],fp ops at_ bE)] (rr l at_ n) (rq ops bE l at_ n) (.exit 0) (λ _=>[(8,aD (g5 l at_ n (at_.length/n))),(6,fQ l)]) (λ _=>[]) (by unfold rr jY;rw[if_pos rfl,Nat.zero_mul]) (by unfold rq;rw[if_pos rfl]) (λ j w=>akp G ac x m n0 w t) (ako G n0 m t) an (by have:=h7 at_.length n;omega),hc u,hb 65 k]
def ajY(ho:∀o∈ops,lU o)(i:∀a∈at_,a<256)(d:bE<256)(g:xc ops=l)(f:1+bE%12=n):ag ab G 12 [sD ops at_ bE] (if zA ops at_ l=true then .aM [aD (g5 l at_ n (at_.length/n)),aq n,.bool (decide (lB l<=2))]else .aM [aD [],aq n,.bool false]):=by
 have m:=aj1 G ho i d g f;have c:=uG (bE:Int) ac ac;have b:cV.wrap (1+((bE%12:Nat):Int))=(n:Int):=by rw[<-f,c0];omega
 cases h:zA ops at_ l with|true=>rw[h,if_pos rfl]at m;rw[if_pos rfl];exact aN [hc m,hw 15 c,sH 16 .i64 bE 12,hw 17 b]|false=>rw[h,if_neg Fp]at m;rw[if_neg Fp];exact aN [hc m,hw 15 c,sH 16 .i64 bE 12,hw 17 b]
end
end Go.Proofs.YtpcofcmencgkbaaGreat
namespace Go.aA
section
variable{P:Program}{G:Nat->Option (List aa)}
def TR(k n:Nat)(a:Bool)(id:Id)(c:Nat)(L:List aa)(i:Nat)(e v:aa)(d:L[i]?=some e)(hv:part a e.cells 0 n=some v:=by rfl):aV P G:=.st k [(id,⟨L,c,false⟩)] (.load a n (.ref id i 0)) (λ _=>{val:=v,rd:=[id]}) (λ σ p b=>NJ (b _ cg) d hv)
end
end Go.aA
namespace Go.Proofs.YtpcofcmencgkbaaGreat
noncomputable abbrev Gm(A:List (List ak))(x:List ak)(B:List (List ak))(b:bz):List aa:=A.map aj++(.ah b 2 0 (x.map aP).length false::B.map aj)
abbrev i8(z:Int):aa:=.int .i8 z
instance:bg (aa.eW 2 []):=⟨cd.eW (by simp[flat]),λ _=>rfl⟩
instance:cT 1 (aa.eW 2 []):=⟨inferInstance,rfl,λ d hd=>by rw[bU.1 hd];exact bg.pure,rfl⟩
section
variable(G:Nat->Option (List aa)){K:b6}{q e r:Nat}(F:eb K q e r){n:Nat}{A B:List (List ak)}{x:List ak}{wd W at_:Nat}{zi:Int}
noncomputable def Cu(A:List (List ak))(x:List ak)(B:List (List ak))(b:bz)(i:Nat):aa:=if i=A.length then .ah b 2 0 (x.map aP).length false else aj ((A++x::B).getD i [])
def afg{i:Nat}(a:i<(A++x::B).length)(b:bz):(Gm A x B b)[i]?=some (Cu A x B b i):=by
 unfold Cu;rcases Nat.lt_trichotomy i A.length with h|h|h;rw[if_neg ac,List.getElem?_append_left (by rw[aL];exact h),kv,eu h,aX a,abM h];rfl;rw[if_pos h,kx (by rw[aL];omega),show(A.map aj).length=A.length from aL ..,h,Nat.sub_self];rfl;have e:i-A.length=(i-A.length-1)+1:=ac;have hb:i-A.length-1<B.length:=by rw[cy,fU]at a;omega
 rw[if_neg ac,kx (by rw[aL];omega),show(A.map aj).length=A.length from aL ..,e,List.getElem?_cons_succ,kv,eu hb,aX a,abN ac];rw[List.getElem_cons,dif_neg ac];rfl
noncomputable abbrev Yq(A:List (List ak))(x:List ak)(B:List (List ak))(q:aB):List (bz×aJ):=[(q.a,⟨Gm A x B q.b,1,false⟩),(q.b,⟨x.map aP,2,false⟩)]
noncomputable abbrev XU(W at_:Nat)(zi:Int)(c i:Nat)(q:aB):List (Nat×aa):=[(7,.ah q.a 1 0 W false),(8,aq c),(9,aq i),(1,aq at_),(2,i8 zi)]
def OG(o:(A++x::B).length=W)(hu:∀r∈A++x::B,r.length=wd)(m:W<=4000)(l:wd<=4000){i:Nat}(g:i<W):bb ab G (aT (ao 46) 0) (ao 46).aH (bj 0) .normal (XU W at_ zi (i*wd) i) (Yq A x B) (XU W at_ zi ((i+1)*wd) (i+1)) (Yq A x B):=by
 have c:=afg (A:=A) (x:=x) (B:=B) (i:=i) ac [2];have j:i*wd<=4000*4000:=kr ac l;have b:cV.wrap (((i*wd:Nat):Int)+(wd:Int))=(((i+1)*wd:Nat):Int):=by rw[c0,gB];omega
 by_cases h:i=A.length;have d:Cu A x B [2] i=.ah [2] 2 0 (x.map aP).length false:=if_pos h;rw[d]at c;have f:(((x.map aP).length:Nat):Int)=(wd:Int):=by rw[aL,hu x am]
 exact a9 aO [hb 17 (dv g),cQ 23 1 [1] false W i,TR 24 1 false [1] 1 (Gm A x B [2]) i _ _ c,hw 25 f,hw 26 b,a5 19 i];have a:i<(A++x::B).length:=ac;have d:Cu A x B [2] i=aj ((A++x::B)[i]):=by unfold Cu;rw[if_neg h,aX a]
 rw[d]at c;have f:(((((A++x::B)[i]).map aP).length:Nat):Int)=(wd:Int):=by rw[aL,hu _ (bo a)]
 exact a9 aO [hb 17 (dv g),cQ 23 1 [1] false W i,TR 24 1 false [1] 1 (Gm A x B [2]) i _ (aj ((A++x::B)[i])) c,hw 25 f,hw 26 b,a5 19 i]
include F in instance{i:Nat}:bn (bI i (aa.eW 2 [])):=⟨λ c hc=>by rw[jl hc];exact bg.pure,λ ρ=>by rw[ga,Fm];rfl⟩
instance{i:Nat}:b9 1 (bI i (aa.eW 2 [])):=⟨λ c hc=>by rw[jl hc];infer_instance⟩
def Yr(x:KX):aa:=.agg [.int .u8 (x.which:Int),.int .u8 (x.at_:Int),.int .i8 x.zi]
instance{x:KX}:bg (Yr x):=by unfold Yr;infer_instance
end
section
variable(G:Nat->Option (List aa))
noncomputable def aeF(i:bz):List Int->aa|[]=>.eW 1 []|a::t=>.ah i 1 0 ((a::t).map di).length false
noncomputable def aeG(i:bz):List Int->List (bz×aJ)|[]=>[]|a::t=>[(i,⟨(a::t).map di,1,false⟩)]
noncomputable def aqe(i:bz):List Int->aa|[]=>.ar|[_]=>.sl 1 []|a::b::t=>.ah i 1 1 (t.length+1) false
structure sj(K:List (bz×aJ))(A a:aa):Prop where
 fix:A.aY (bT 0 [0] fun _=>[])=A
 view:∀σ:aQ,(∀x∈K,σ x.1=some x.2)->View σ A a
def sj.p{K:List (bz×aJ)}{a:aa}[bg a]:sj K a a:=⟨bg.fix _,λ _ _=>fx bg.pure⟩
def sj.o{K:List (bz×aJ)}{i:bz}{l:List Int}{n:Nat}(h:(i,(⟨l.map di,1,false⟩:aJ))∈K)(a:bT 0 [0] (λ _=>[]) i=i)(c:n=l.length):sj K (.ah i 1 0 n false) (oz l):=⟨by show aa.ah _ _ _ _ _=_;rw[a],λ σ d=>gK (d _ h) (by rw[aL];exact c.symm)⟩
def sj.c{K:List (bz×aJ)}{i:bz}:∀{l:List Int},(∀x∈aeG i l,x∈K)->bT 0 [0] (λ _=>[]) i=i->sj K (aeF i l) (oz l)|[],_,_=>⟨rfl,λ _ _=>View.Jm 1⟩|_::_,h,a=>sj.o (h _ cg) a (aL ..)
def sj.t{K:List (bz×aJ)}{i:bz}{l:List Int}(h:(i,(⟨l.map di,1,false⟩:aJ))∈K)(g:bT 0 [0] (λ _=>[]) i=i)(e:l≠[]):sj K (aqe i l) (oz (l.drop 1)):=by rcases l with _|⟨a,_|⟨b,t⟩⟩;exact(e rfl).elim;exact sj.p (K:=K) (a:=.sl 1 []);refine⟨by show aa.ah _ _ _ _ _=_;rw[g];rfl,λ σ f=>View.ah (av:=⟨(a::b::t).map di,1,false⟩) (f _ h) rfl (by simp;omega) ?_ am λ d hd=>by obtain⟨y,_,rfl⟩:=bd.1 hd;rfl⟩;rw[<-List.map_drop,jI am];refine dy.pure λ c hc=>?_;have⟨x,j,hc⟩:=List.mem_flatMap.1 hc;obtain⟨y,_,rfl⟩:=bd.1 j;rw[bU.1 hc];exact bg.pure
variable{K:b6}{q e r:Nat}(F:eb K q e r){n:Nat}{c:ie}{x:KX}
include F in end
end Go.Proofs.YtpcofcmencgkbaaGreat
namespace Go.aA
section
variable{K:b6}{n m w:Nat}{M:List (List ak)}
def WO(M:List (List ak)):(bS M (aR M.length)).length<=M.length:=by have h:=Iq M (aR M.length) [];rw[cR]at h;have:([]:List Nat).length=0:=rfl;unfold bS;omega
def ai7(M:List (List ak)):(oC M).length<=c8 M:=by unfold oC;rw[aL];refine bx (qR _ _) ?_;rw[cR];exact a2 _
def an7(a:a4 K n w M){k:Nat}(b:k∈(bc M).2):k<c8 M:=(ir a).lt k b
def Sb(a:a4 K n w M):c8 M<=w:=by by_cases e:M=[];subst e;exact dF _;rw[eD a e];exact a2 _
def RU(c:a4 K n w M):(gu M w).bE.length<=M.length/\(∀z∈(gu M w).bE,0<=z/\z<(w:Int))/\(gu M w).inv.length<=M.length/\(∃v,v<=M.length/\∀r∈(gu M w).inv,r.length=v)/\(gu M w).bh.length<=w/\∀r∈(gu M w).bh,r.length=w:=by
 have ho:∀k∈aR M.length,k<M.length:=λ k b=>cb.1 b;have hc:a4 K n w (aE M (bS M (aR M.length))):=c.sub (lI c ho).1;have g:(aE M (bS M (aR M.length))).length<=M.length:=by unfold aE;rw[aL];exact WO M
 have j:(gu M w).bE=(if(aE M (bS M (aR M.length))).isEmpty then([]:List Nat)else(bc (aE M (bS M (aR M.length)))).2).map jj:=rfl;have l:(gu M w).inv=lA ((aE M (bS M (aR M.length))).map (b5 (if(aE M (bS M (aR M.length))).isEmpty then([]:List Nat)else(bc (aE M (bS M (aR M.length)))).2))):=rfl;have p:(gu M w).bh=if M.isEmpty then rQ w else oC M:=rfl;have f:(if(aE M (bS M (aR M.length))).isEmpty then([]:List Nat)else(bc (aE M (bS M (aR M.length)))).2).length<=M.length/\∀k∈(if(aE M (bS M (aR M.length))).isEmpty then([]:List Nat)else(bc (aE M (bS M (aR M.length)))).2),k<w:=by split;exact⟨dF _,λ k b=>(ct b).elim⟩;exact⟨bx (ir hc).pl g,λ k b=>Nat.lt_of_lt_of_le (an7 hc b) (Sb hc)⟩
 rw[j,l,p];generalize(if(aE M (bS M (aR M.length))).isEmpty then([]:List Nat)else(bc (aE M (bS M (aR M.length)))).2)=a at*;have i:=MM (vI hc a) (a2 _);refine⟨by rw[aL];exact f.1,λ z o=>?_,by rw[i.1,aL];exact g,⟨a.length,f.1,λ r d=>(i.2 r d).1⟩,?_,?_⟩;obtain⟨k,b,rfl⟩:=bd.1 o;have:=f.2 k b;exact⟨uJ _,by show(k:Int)<(w:Int);omega⟩;split;unfold rQ;rw[mO];exact a2 _;exact bx (ai7 M) (Sb c);split;exact λ r d=>(oy (K:=K) (n:=0) w r d).1;next e=>intro r d;rw[(UU c (a2 _) r d).1,eD c (λ h=>e (oU.2 h))]
structure aco(h w:Nat)(c:ie):Prop where
 r1:c.rows.length<=h
 r2:c.rows.length<=w
 c1:c.bE.length<=h
 i1:c.inv.length<=h
 o1:c.ez.length<=h
 k1:c.bh.length<=w
 at7:∀z∈c.rows,0<=z/\z<(h:Int)bQ:∀z∈c.bE,0<=z/\z<(w:Int)cL:c.rows≠[]->c.bE≠[]atQ:∃v,v<=h/\∀r∈c.inv,r.length=v
 atZ:∃v,v<=h/\∀r∈c.ez,r.length=v
 atT:∀r∈c.bh,r.length=w
def afJ(h:Nat)(p:Nat->Bool):((aR h).filter p).length<=h:=by have:=qR p (aR h);rw[cR]at this;exact this
def ama(b:a4 K n w M)(first:Nat):aco M.length w (mg M w first):=by have p:=fE.al9 b w first;have i:=al8 b w first;have a:=Ch b first (.inl (a2 M.length));have o:=Ch b first (.inr (a2 w));by_cases e:M=[];subst e;have⟨c,j,d,f,q,g⟩:=RU b;exact⟨a2 _,dF _,c,d,a2 _,q,λ z h=>(ct h).elim,j,i,f,⟨_,a,p⟩,g⟩;have s:a4 K n w (aE M (chosen M first)):=b.sub vg;have r:(aE M (chosen M first)).length=(chosen M first).length:=aL ..;have⟨c,j,d,⟨v,f,l⟩,q,g⟩:=RU s;rw[Aq e]at p i⊢;rw[r]at c d f;refine⟨by rw[aL];exact a,by rw[aL];exact o,bx c a,bx d a,?_,q,λ z h=>?_,j,i,⟨v,bx f a,l⟩,⟨_,a,p⟩,g⟩;show(Qz _ _).length<=_;rw[aL];exact afJ _ _;obtain⟨k,a,rfl⟩:=bd.1 h;have:=vg k a;exact⟨uJ _,by show(k:Int)<(M.length:Int);omega⟩
end
end Go.aA
namespace Go.Proofs.YtpcofcmencgkbaaGreat
def afY{Q:Src}{l:List aC}(H:n8 Q l)(at_:List Nat)(n m:Nat):a4 Q.ctx 512 n (g5 l at_ n m):=λ r c=>by obtain⟨j,f,rfl⟩:=bd.1 c;refine⟨by unfold hO;rw[aL,cR],λ x b=>?_⟩;obtain⟨k,d,rfl⟩:=bd.1 b;by_cases e:l=[];subst e;exact ak.G.zero;have a:=Nat.mod_lt (at_.getD (j*n+k) 0) (fN.2 e);rw[aX a];exact H.G (bo a) true
def Eg{Q:Src}(h:Q.n=256):grow Q.ctx 4 512=1653500573:=by unfold grow;unfold grow;unfold grow;unfold grow;unfold grow;rw[s7 h]
def F5{Q:Src}(h:Q.n=256){n:Nat}(a:n<=19842034812):bF Q.ctx Q.cc n:=by show 30*(n+Q.ctx.C)+100*Q.cc<=_;rw[Eh h,uv h];omega
section
open Go.aA Go.aA.fE Go.Proofs Go.Lib
variable{K:b6}{n w j:Nat}{M:List (List ak)}
noncomputable def o5(M:List (List ak))(w:Nat):ie:=if M=[]then⟨[],[],[],[],dt w⟩else sx M
def aja(c:a4 K n w M)(a:M≠[])(d:M.length<=j\/w<=j):oY K (grow K j n) (pn M):=λ r b=>by have e:=DI c a d;unfold pn at b;rw[eD c a]at b;obtain⟨k,_,rfl⟩:=bd.1 b;exact(AA (K:=K) (n:=grow K j n) (λ s=>(e.at (i:=s) (k:=k)).neg) _ 0 (A3 w (some k))).2
def ajb(b:a4 K n w M)(a:M≠[]):(pn M).length<=w:=by unfold pn;rw[eD b a];exact UQ ..
structure QK(K:b6)(n j:Nat)(M:List (List ak))(w:Nat)(c:ie):Prop where
 g:c.G K (j*(grow K j n+n+K.c+1))r:c.rows.length<=M.length
 cl:c.bE.length<=M.length
 i:c.inv.length<=M.length
 o:c.ez.length<=M.length
 k:c.bh.length<=w
def aea(m:a4 K n w M)(e:M≠[])(w0:0<w)(B:M.length<=j\/w<=j):QK K n j M w (sx M):=by
 have L:1<=j:=by have:=fN.2 e;omega
 have up:grow K j n<=j*(grow K j n+n+K.c+1):=by have:=cr (grow K j n+n+K.c+1) L;omega
 have s:=aja m e B;have D:=ajb m e;have A:=lI m (ord:=aR M.length) λ k s=>cb.1 s;have v:=xY M (pQ (n:=M.length));have u:(bS M (aR M.length)).length<=M.length:=by have:=n6 (S:=aR M.length) v λ x f=>cb.2 (A.1 x f);rwa[cR]at this
 by_cases q:bS M (aR M.length)=[];rw[RS q];exact⟨⟨λ r o=>(ct o).elim,λ r o=>by rw[jl o];exact λ x f=>(ct f).elim,s.mono up⟩,dF _,dF _,dF _,by show(bI _ _).length<=_;rw[pP];exact a2 _,D⟩;have t:=Ir M (aR M.length) q;unfold sx;simp only;generalize pn M=bh at*;generalize bS M (aR M.length)=P at*;have J:0<P.length:=fN.2 q;have Q:aE M P≠[]:=λ h=>q (gP.1 h);have F:a4 K n w (aE M P):=m.sub A.1;have G:(aE M P).length=P.length:=aL ..;have E:=vI F (bc (aE M P)).2;have H:((aE M P).map (b5 (bc (aE M P)).2)).length=P.length:=by rw[aL,G]
 have d:(bc (aE M P)).2.length=P.length:=t;generalize(bc (aE M P)).2=b at*;rw[d]at E;have p:=ML E H J;generalize l9 ((aE M P).map (b5 b))=y at*;have l:P.length<=j:=by rcases B with h|h<;>omega
 have N:=ot (K:=K) (n:=n) l;have C:=nR p.2;rw[p.1]at C;refine⟨⟨(p.2.w6.mono N).mono up,λ r o=>?_,s.mono up⟩,by show(P.map _).length<=_;rw[aL];exact u,by show(b.map _).length<=_;rw[aL,d];exact u,by show y.length<=_;rw[p.1];exact u,RM ..,D⟩;obtain⟨i,I,rfl⟩:=bd.1 o;have z:=cb.1 (iU.1 I).1;intro x f;unfold mD at f;obtain⟨a,O,rfl⟩:=bd.1 f;have g:=C a O;have:=DN g.2 (Gl (m.get z).2 b).2;rw[g.1]at this;exact this.mono (kr l ac)
def aec(b:a4 K n w M)(w0:0<w)(c:M.length<=j\/w<=j):QK K n j M w (o5 M w):=by unfold o5;split;exact⟨⟨λ r a=>(ct a).elim,λ r a=>(ct a).elim,(oy (K:=K) (n:=_) w).w6⟩,dF _,dF _,dF _,dF _,by show(dt w).length<=w;rw[mO];exact a2 _⟩;exact aea b ‹_› w0 c
variable(G:Nat->Option (List aa)){q e r:Nat}(F:eb K q e r)
include F
def akA(b:a4 K n w M)(w0:0<w)(l:M.length<=90)(d:w<16)(f:M.length<=j\/w<=j)(o:bF K q (grow K j n))(t:bF K q (j*(grow K j n+n+K.c+1))):ag ab G 21 [aD M,aq w] (.aM [kG (o5 M w),.int .i64 0]):=by
 unfold o5;split;next h=>subst h;exact akC G w0 d
 next h=>
 by_cases i:bS M (aR M.length)=[];exact akB G F b h w0 l d f o i;refine akD G F b h w0 l d f o (λ _=>?_) i;have s:=lI b (ord:=aR M.length) λ k p=>cb.1 p;have g:=xY M (pQ (n:=M.length));have y:(bS M (aR M.length)).length<=M.length:=by have:=n6 (S:=aR M.length) g λ x u=>cb.2 (s.1 x u);rwa[cR]at this
 have a:(bS M (aR M.length)).length<=j:=by rcases f with h|h<;>omega
 have v:=ot (K:=K) (n:=n) a;have:=kr a (ac:grow K (bS M (aR M.length)).length n+n+K.c+1<=grow K j n+n+K.c+1);unfold bF at*;omega
end
section
open Go.aA Go.aA.fE Go.Proofs Go.Lib
def qY{Q:Src}(h:Q.n=256){n:Nat}(a:n<=131225906293):bF Q.ctx Q.cc n:=by show 30*(n+Q.ctx.C)+100*Q.cc<=_;rw[Eh h,uv h];omega
def aeb{Q:Src}{M:List (List ak)}{w:Nat}(h:Q.n=256)(d:a4 Q.ctx 512 w M)(w0:0<w)(f:M.length<=4\/w<=4)(j:M.length<=24)(e:w<=12)(h4:(o5 M w).rows.length<=4):FO Q.ctx Q.cc 512 6614011568 M w (o5 M w):=by have S:=aec d w0 f;have c:=S.g;rw[Eg h,s7 h]at c;have:=S.r;have:=S.cl;have:=S.i;have:=S.o;have:=S.k;refine⟨ac,ac,d.w6,⟨c.inv,c.ez,c.bh⟩,ac,ac,ac,ac,ac,qY h al,qY h al,λ a b _=>qY h ?_,λ _=>qY h ?_⟩;rw[s7 h];exact bx (cr _ h4) al;rw[s7 h];exact bx (cr _ e) al
def al3{Q:Src}{M:List (List ak)}{w:Nat}(h:Q.n=256)(c:a4 Q.ctx 512 w M)(f:M.length<=4\/w<=4)(l:M.length<=24)(e:w<=12)(first:Nat):FO Q.ctx Q.cc 512 1653500573 M w (mg M w first):=by have O:=ama c first;have d:=al7 c f w first;rw[Eg h]at d;have m:=O.r1;have i:=O.c1;have g:=O.i1;have j:=O.o1;have k:=O.k1;refine⟨ac,ac,c.w6,d,ac,ac,ac,ac,ac,qY h al,qY h al,λ a b _=>qY h ?_,λ _=>qY h ?_⟩;rw[s7 h];exact bx (cr _ (ac:_<=12)) al;rw[s7 h];exact bx (cr _ e) al
variable(G:Nat->Option (List aa)){ops:List fI}{at_:List Nat}{bE first:Nat}
def ajk(g:ag ab G 13 [] (.bool true))(ho:∀o∈ops,lU o)(C:∀a∈at_,a<256)(t:bE<256)(H:first<256)(s:∀{K:b6}{n w:Nat}{M:List (List ak)},a4 K n w M->0<w->kH M w (o5 M w)=true)(q:∀{K:b6}{n w:Nat}{M:List (List ak)},a4 K n w M->0<w->kH M w (mg M w first)=true):ag ab G 10 [sD ops at_ bE,u8 first] (.bool true):=by have⟨Q,b⟩:=Rx (r:=ops) λ o h=>(ho o h).abs;generalize z:xc ops=l at b;generalize A:1+bE%12=n;have m:=ajY G ho C t z A;have u:=uG (first:Int) ac ac;cases e:zA ops at_ l with|false=>rw[e,if_neg Fp]at m;exact aN [hc m,hc g,hc g]|true=>rw[e,if_pos rfl]at m;cases v:decide (lB l<=2)with|false=>rw[v]at m;exact aN [hc m,hc g,hc g]|true=>
     rw[v]at m;have D:at_.length<=24:=by unfold zA at e;rw[gj,abO]at e;have:=of_decide_eq_false e.2;omega
     have n0:0<n:=ac;have x:n<=12:=ac;have y:=Qy at_.length n;have d:=afY b at_ n (at_.length/n);have B:=Tx l at_ n (at_.length/n);generalize g5 l at_ n (at_.length/n)=M at*;have f:M.length<=24:=by rw[B];exact bx (h7 _ _) D
     have p:M.length<=4\/n<=4:=by rcases Nat.lt_or_ge 4 M.length with h1|h1;rcases Nat.lt_or_ge 4 n with h2|h2;exfalso;have:=kr (ac:5<=at_.length/n) (ac:5<=n);omega;exact .inr h2;exact .inl h1
     have F:=Src.Cy (Q:=Q) b.1;have v1:=s d n0;have v2:=q d n0;have h4:(o5 M n).rows.length<=4:=by unfold kH at v1;have:=(gj _ _▸v1:_/\_).1;unfold o5;split;exact dF _;have J:=lI d (ord:=aR M.length) λ k E=>cb.1 E;have N:=WO M;show((bS M (aR M.length)).map jj).length<=4;rw[aL];omega
     have o:=aj2 G F (c:=n) (first:=first) d n0 ac ac ac H (j:=4) p (by rw[Eg b.1];exact qY b.1 al);have c:=akA G F d n0 ac ac (j:=4) p (by rw[Eg b.1];exact qY b.1 al) (by rw[Eg b.1,s7 b.1];exact qY b.1 al);have hH:=Pr G F (aeb b.1 d n0 p f x h4);have qE:=Pr G F (al3 b.1 d p f x first);rw[v1]at hH;rw[v2]at qE;generalize o5 M n=L at*;generalize mg M n first=I at*;exact aN [hc m,hc g,hc c,hc hH,hw 43 u,hc o,hc qE]
end
end Go.Proofs.YtpcofcmencgkbaaGreat
namespace Go.aA.fE
noncomputable section
open Classical
def YN(f:Nat->az):∀n,bL (n+1) f=f 0+bL n λ i=>f (i+1)|0=>by simp only[bL];grind|n+1=>by have:=YN f n;rw[bL,this];simp only[bL];grind
def Tk:∀(l:List (ak×ak))(s:az),l.foldl (λ s p=>s+p.1.2.val*p.2.2.val) s=s+bL l.length λ j=>((l.getD j (a3 0,a3 0)).1.2.val*(l.getD j (a3 0,a3 0)).2.2.val)|[],s=>by show s=s+0;grind|p::l,s=>by rw[List.foldl_cons,Tk l,fU,YN];show s+p.1.2.val*p.2.2.val+_=s+(p.1.2.val*p.2.2.val+bL l.length λ i=>(l.getD i _).1.2.val*(l.getD i _).2.2.val);generalize bL l.length _=t;generalize p.1.2.val*p.2.2.val=u;grind
variable{K:b6}{n m w:Nat}{M:List (List ak)}
def DO{a b:List ak}(d:cU K n a)(hb:cU K m b){t:Nat}(c:a.length=t)(lb:b.length=t):(dV a b).2.val=bL t λ j=>(a.getD j (a3 0)).2.val*(b.getD j (a3 0)).2.val:=by rw[amX d hb];unfold XN;rw[Tk,abP,c,lb,n4];rw[show∀x:az,(0:az)+x=x from λ x=>ap];refine cF λ j e=>?_;rw[aX (l:=wx a b) (by rw[abP];omega),List.getElem_zip,aX (l:=a),aX (l:=b)]
def N6{d:ak}(f:Nat->ak):∀(l:List Nat)(i:Nat)(x:List ak){k:Nat},k<x.length->l.Nodup->(jB f l i x).getD k d=match l.findIdx? (·==k)with|some s=>f (i+s)|none=>x.getD k d
 |[],i,x,k,_,_=>rfl|p::l,i,x,k,a,c=>by
   have⟨h1,h2⟩:=h5.1 c;show(jB f l (i+1) (x.set p (f i))).getD k d=_;rw[N6 f l (i+1) (x.set p (f i)) (by rw[kQ];exact a) h2,List.findIdx?_cons];by_cases e:p=k;subst e;have:l.findIdx? (·==p)=none:=List.findIdx?_eq_none_iff.2 λ x b=>by rw[beq_eq_false_iff_ne];rintro rfl;exact h1 b
   rw[this,if_pos (beq_self_eq_true _)];simp only;rw[aX (by rw[kQ];exact a),List.getElem_set_self];rfl;rw[if_neg (by rw[beq_iff_eq];exact e)];cases h:l.findIdx? (·==k)with|none=>simp only[Option.map_none];rw[aX (by rw[kQ];exact a),List.getElem_set_ne e,aX a]|some s=>simp only[Option.map_some];rw[show i+1+s=i+(s+1)from ac]
def Zq{i k:Nat}(a:k<w):((c4 w (some i)).getD k (a3 0)).2.val=if k=i then 1 else 0:=by rw[aX (by rw[jE];exact a)];unfold c4;rw[gm,kT];by_cases e:k=i;subst e;rw[if_pos rfl,if_pos rfl];rfl;rw[if_neg (λ h=>e (abQ h)),if_neg e];rfl
def aqu{k:Nat}(a:k<w):((c4 w none).getD k (a3 0)).2.val=0:=by rw[aX (by rw[jE];exact a)];unfold c4;rw[gm,kT,if_neg am];rfl
def UT{R:List (List ak)}{pv:List Nat}{q k:Nat}(c:pv.Nodup)(b:q∉pv)(a:k<w)(f:a4 K n w R):((jB (λ s=>((R.getD s []).getD q (a3 0)).neg) pv 0 (c4 w (some q))).getD k (a3 0)).2.val=mb (bH R) pv q k:=by rw[N6 _ _ _ _ (by rw[jE];exact a) c];unfold mb s8;cases h:pv.findIdx? (·==k)with|none=>simp only;rw[Zq a];split;rfl;grind|some s=>simp only;have d:=List.findIdx?_eq_some_iff_getElem.1 h;have⟨h1,h2,_⟩:=d;rw[if_neg (λ e=>b (by subst e;rw[<-beq_iff_eq.1 h2];exact bo h1)),Nat.zero_add,gv];exact aC.Dn
def WT(c:a4 K n w M){k:Nat}(b:k<w):k∈(bc M).2↔¬Span k M.length (λ j i=>br (bH M) i j) (λ i=>br (bH M) i k):=by by_cases e:M=[];subst e;exact⟨λ h=>(ct h).elim,λ h=>(h ⟨λ _=>0,λ i f=>(ew _ f).elim⟩).elim⟩;have E:=rG c e;refine⟨λ h=>WU E b h λ _ _ _ _=>rfl,λ h=>oQ λ d=>h (Tm E b d λ _ _ _ _=>rfl)⟩
def Is(b:a4 K n w M):∀p∈(bc M).2,p<w:=λ p a=>by by_cases e:M=[];subst e;exact(ct a).elim;have:=(ir b).lt p a;rwa[eD b e]at this
def aeB(c:a4 K n w M){R:List Nat}(f:∀k∈R,k<M.length)(r:∀i,i<M.length->Span R.length w (cL M R) (br (bH M) i)):(bc M).2=(bc (aE M R)).2:=by
 have d:a4 K n w (aE M R):=c.sub f;have l:(aE M R).length=R.length:=aL ..;refine F3 (ir c).qX (ir d).qX λ k=>?_;have key:k<w->(Span k M.length (λ j i=>br (bH M) i j) (λ i=>br (bH M) i k)↔Span k (aE M R).length (λ j i=>br (bH (aE M R)) i j) (λ i=>br (bH (aE M R)) i k)):=λ b=>by
   rw[l];constructor;rintro⟨y,e⟩;refine⟨y,λ s a=>?_⟩;have q:R.getD s 0<M.length:=by rw[aX a];exact f _ (bo a)
   have:=e _ q;simp only[py M a];exact this;rintro⟨y,e⟩;refine⟨y,λ i p=>?_⟩;have⟨z,g⟩:=r i p;show br (bH M) i k=bL k λ j=>y j*br (bH M) i j;have o:bL k (λ j=>y j*br (bH M) i j)=bL k λ j=>bL R.length λ s=>z s*(y j*cL M R s j):=cF λ j t=>by rw[g j ac,<-lf];exact cF λ s _=>ap
   rw[g k b,o,pA];refine cF λ s a=>?_;have h1:=e s a;simp only[py M a]at h1;rw[lf,<-h1]
 by_cases b:k<w;rw[WT c b,WT d b,key b];exact⟨λ h=>(b (Is c k h)).elim,λ h=>(b (Is d k h)).elim⟩
structure Q6(M:List (List ak))(w:Nat)(R C:List Nat)(inv ez bh:List (List ak)):Prop where
 anN:R.Pairwise (·<·)adb:∀k∈R,k<M.length
 Xj:C.Pairwise (·<·)jq:∀k∈C,k<w
 xD:C.length=R.length
 li:inv.length=R.length
 arF:∀r∈inv,r.length=R.length
 lo:ez.length+R.length=M.length
 arO:∀r∈ez,r.length=R.length
 lk:bh.length+R.length=w
 hZ:∀r∈bh,r.length=w
 rR:∀i,i<R.length->∀k,k<R.length->(dV (inv.getD i []) (jU M R (C.getD k 0))).2.val=if i=k then 1 else 0
 uA:∀i,i<M.length->i∉R->∀k,k<w->(dV (ez.getD (cW R i).length []) (jU M R k)).2.val=br (bH M) i k
 th:∀k,k<w->k∉C->(∀j,j<w->j∉C->((bh.getD (cW C k).length []).getD j (a3 0)).2.val=if j=k then 1 else 0)/\∀i,i<M.length->(dV (M.getD i []) (bh.getD (cW C k).length [])).2.val=0
end
noncomputable section
open Classical
variable{K:b6}{n n' m w:Nat}{M:List (List ak)}
def akh(t:a4 K n w M)(c:M≠[])(p:(bc M).2.length=M.length){i k:Nat}(f:i<M.length)(q:k<M.length):bL M.length (λ j=>br (bH (bc (bX (M.map (b5 (bc M).2)) (dt M.length))).1) i (M.length+j)*br (bH M) j ((bc M).2.getD k 0))=if i=k then 1 else 0:=by
 have d:=VJ t c p;have g:=vI t (bc M).2;rw[p]at g;have l:(M.map (b5 (bc M).2)).length=M.length:=aL ..;have v:=λ i(f:i<M.length)s(a:s<(bc M).2.length)=>VH (M:=M) (bc M).2 f a;rw[p]at v;generalize(bc M).2=b at*;generalize M.map (b5 b)=A at*;have x:=np g (oy (K:=K) (n:=n) M.length);have o:(bX A (dt M.length)).length=M.length:=by unfold bX;rw[gY,mO,l,n4]
 have h0:=fN.2 c;have h:bX A (dt M.length)≠[]:=λ e=>by rw[e]at o;simp at o;omega
 have u:=rG x h;rw[o]at u;have:=ail u (λ s a=>by rw[d,aX (by rw[cR];exact a),kT]) (by rw[d,cR]) (λ i f s a=>(F8 g l f).2 a) f q;rw[<-this];exact cF λ j r=>by rw[(F8 g l r).1 q,v j r k q]
def Lq(M:List (List ak))(R:List Nat)(k:Nat){s:Nat}(a:s<R.length):((jU M R k).getD s (a3 0)).2.val=cL M R s k:=by rw[aX (by unfold jU;rw[aL];exact a)];unfold jU cL;rw[gm,gv,aX a]
def aez(a:List Nat)(r:List ak){t:Nat}(b:t<a.length):(b5 a r).getD t (a3 0)=r.getD (a.getD t 0) (a3 0):=by rw[aX (by unfold b5;rw[aL];exact b),aX b];simp[b5]
def Lr(M:List (List ak))(R:List Nat)(k:Nat):(jU M R k).length=R.length:=aL ..
variable{R:List Nat}{inv:List (List ak)}
structure wV(K:b6)(n':Nat)(M:List (List ak))(R C:List Nat)(inv:List (List ak)):Prop where
 li:inv.length=R.length
 z9:a4 K n' R.length inv
 A7:∀i,i<R.length->∀k,k<R.length->bL R.length (fun j=>br (bH inv) i j*cL M R j (C.getD k 0))=if i=k then 1 else 0
def wV.rR(c:a4 K n w M){C:List Nat}(H:wV K n' M R C inv){i k:Nat}(b:i<R.length)(e:k<R.length):(dV (inv.getD i []) (jU M R (C.getD k 0))).2.val=if i=k then 1 else 0:=by
 have a:i<inv.length:=by rw[H.li];exact b
 have g:=H.z9 _ (bo a);rw[aX a,DO g.2 (Cj c R (C.getD k 0)) g.1 (Lr ..),<-H.A7 i b k e];exact cF λ j d=>by rw[Lq M R _ d,gv,aX a]
def wV.ez(B:a4 K n w M){C:List Nat}(A:C.length=R.length)(d:∀p∈C,p<w)(H:wV K n' M R C inv)(hd:¬gp R.length R.length λ s t=>cL M R s (C.getD t 0)){x:Nat->az}{z:Nat->az}(v:Span R.length w (cL M R) x)(r:∀s,s<R.length->z s=bL R.length λ t=>br (bH inv) t s*x (C.getD t 0)){k:Nat}(o:k<w):bL R.length (λ s=>z s*cL M R s k)=x k:=by
 have⟨y,l⟩:=v;have e:∀s,s<R.length->z s=y s:=by
   intro s f;refine oQ λ b=>hd ⟨λ s=>z s-y s,⟨s,f,λ h=>b ap⟩,λ t i=>?_⟩;have c:C.getD t 0<w:=d _ (by rw[aX ac];exact bo _);have h1:bL R.length (λ j=>z j*cL M R j (C.getD t 0))=x (C.getD t 0):=by rw[cF (g:=λ j=>bL R.length λ u=>x (C.getD u 0)*(br (bH inv) u j*cL M R j (C.getD t 0))) λ j q=>by rw[r j q,<-uz];exact cF λ u _=>ap];rw[pA,cF (g:=λ u=>if u=t then x (C.getD t 0)else 0) λ u hu=>by rw[lf,H.A7 u hu t i];by_cases e:u=t;subst e;rw[if_pos rfl,if_pos rfl];grind;rw[if_neg e,if_neg e];grind];rw[mZ i _ λ u hu b=>if_neg b,if_pos rfl]
   have h2:=l _ c;rw[cF (g:=λ j=>z j*cL M R j (C.getD t 0)-y j*cL M R j (C.getD t 0)) λ j _=>ap,ap6,h1,<-h2];grind
 rw[l k o];exact cF λ s f=>by rw[e s f]
def ai8(t:a4 K n w M){S Q:List (List ak)}{pv:List Nat}(E:jm S.length w w (bH S) (bH Q) pv)(h:a4 K n' w Q)(o:pv.Nodup)(u:∀i,i<M.length->Span S.length w (br (bH S)) (br (bH M) i)){q:Nat}(v:q<w)(b:q∉pv):(∀j,j<w->j∉pv->((jB (λ s=>((Q.getD s []).getD q (a3 0)).neg) pv 0 (c4 w (some q))).getD j (a3 0)).2.val=if j=q then 1 else 0)/\∀i,i<M.length->(dV (M.getD i []) (jB (λ s=>((Q.getD s []).getD q (a3 0)).neg) pv 0 (c4 w (some q)))).2.val=0:=by refine⟨λ j a l=>?_,λ i p=>?_⟩;rw[UT o b a h];by_cases e:j=q;subst e;rw[if_pos rfl];exact HF;rw[if_neg e];exact MT l e;have c:=AA (K:=K) (n:=n') (f:=λ s=>((Q.getD s []).getD q (a3 0)).neg) (λ s=>(h.at (i:=s) (k:=q)).neg) pv 0 (A3 w (some q));rw[jE]at c;have g:=t.get p;rw[DO g.2 c.2 g.1 c.1];have⟨y,r⟩:=u i p;rw[cF (g:=λ j=>bL S.length λ s=>y s*(br (bH S) s j*mb (bH Q) pv q j)) λ j a=>by rw[UT o b a h,<-gv,r j a,<-uz];exact cF λ s _=>ap];rw[pA,cF (g:=λ _=>0) λ s d=>by rw[lf,MU E v b d];grind];exact nP _
def apM{S:List (List ak)}{b:List ak}(u:a4 K n w S)(hb:cU K n b)(F:b.length=w)(hw:0<w)(H:Span S.length w (br (bH S)) λ k=>(b.getD k (a3 0)).2.val){k:Nat}(f:k<w):bL S.length (λ s=>((gg S b).getD s (a3 0)).2.val*br (bH S) s k)=(b.getD k (a3 0)).2.val:=by
 by_cases c:S=[];subst c;have⟨y,v⟩:=H;exact(v k f).symm;have⟨x,a⟩:=Yp u hb F hw c H;have es:gg S b=x:=by unfold gg;rw[if_neg (by rw[oU];exact c),a];rfl
 rw[es];have D:=nR u;have o:(cB S).length=w:=by rw[qx,eD u c]
 have cP:c8 (cB S)=S.length:=eD D (λ h=>by rw[h]at o;rw[<-o]at hw;exact Nat.lt_irrefl _ hw);have p:a4 K n 1 (b.map λ x=>[x]):=λ r I=>by obtain⟨x,a,rfl⟩:=bd.1 I;exact⟨rfl,λ y v=>by rw[bU.1 v];exact hb x a⟩
 have G:=np D p;have g:(bX (cB S) (b.map λ x=>[x])).length=w:=by unfold bX;rw[gY,aL,o,F,n4]
 have at_:∀i,i<w->(bX (cB S) (b.map λ x=>[x])).getD i []=jr S i++[b.getD i (a3 0)]:=λ i l=>by rw[aX (by rw[g];exact l)];have z:i<b.length:=ac;unfold bX;rw[List.getElem_zipWith,gm,aX z];unfold cB;rw[gm,kT]
 have A:bX (cB S) (b.map λ x=>[x])≠[]:=λ h=>by rw[h]at g;rw[<-g]at hw;exact Nat.lt_irrefl _ hw
 have E:=rG G A;have ok:=(ir G).qX;unfold nM at a;simp only at a;rw[cP]at a;have C:∀i,(jr S i).length=S.length:=λ i=>aL ..;have v1:∀i,i<w->br (bH (bX (cB S) (b.map λ x=>[x]))) i S.length=(b.getD i (a3 0)).2.val:=λ i l=>by rw[gv,at_ i l,<-C i,zC]
 have v2:∀i,i<w->∀j,j<S.length->br (bH (bX (cB S) (b.map λ x=>[x]))) i j=br (bH S) j i:=λ i l j q=>by rw[gv,at_ i l,zB (by rw[C];exact q),gv];unfold jr;rw[aX (by rw[aL];exact q),gm,aX q]
 generalize bX (cB S) (b.map λ x=>[x])=B at*;by_cases hc:(bc B).2.contains S.length=true;rw[if_pos hc]at a;cases a;rw[if_neg hc]at a;have J:S.length∉(bc B).2:=λ h=>hc (jN.2 h);have e:=abQ a;rw[<-g]at f;have so:=apN E J f;rw[g]at f;rw[<-v1 k f,<-so];refine cF λ s d=>?_;rw[v2 k f s d,<-e,N6 _ _ _ _ (by rw[jE];exact d) (ok.imp λ h=>Qx h)];unfold s8;cases h:(bc B).2.findIdx? (·==s)with|none=>simp only;rw[aqu d];grind|some t=>simp only;have:=gv (M:=(bc B).1) (i:=t) (k:=S.length);rw[Nat.zero_add,this];grind
def apL(e:a4 K n w M){R:List Nat}(q:∀k∈R,k<M.length)(hw:0<w)(d:R.length<=w)(r:∀i,i<M.length->Span R.length w (cL M R) (br (bH M) i)){i:Nat}(o:i<M.length):(gg (aE M R) (M.getD i [])).length=R.length/\cU K (grow K (w+1) n) (gg (aE M R) (M.getD i []))/\∀k,k<w->(dV (gg (aE M R) (M.getD i [])) (jU M R k)).2.val=br (bH M) i k:=by
 have f:a4 K n w (aE M R):=e.sub q;have b:(aE M R).length=R.length:=aL ..;have g:=e.get o;have l:Span (aE M R).length w (br (bH (aE M R))) λ k=>((M.getD i []).getD k (a3 0)).2.val:=by rw[b];exact(r i o).congr (λ j p=>(py M p).symm) (funext λ k=>gv)
 have c:=Yn f g.2 g.1 (by rw[b];exact d) l;have h:=OE f g.2 (j:=w+1) (.inl (by rw[g.1];omega));rw[b]at c;refine⟨c,h,λ k t=>?_⟩;have so:=apM f g.2 g.1 hw l t;rw[DO h (Cj e R k) c (Lr ..),gv,<-so,b];exact cF λ s a=>by rw[Lq M R k a,py M a]
def gp.mz{n m w:Nat}{C:Nat->Nat->az}(h:gp n w C)(d:n<=m):gp m w C:=by
 obtain⟨c,⟨j,e,k⟩,a⟩:=h
 refine⟨λ i=>if i<n then c i else 0,⟨j,by omega,by simp only[if_pos e];exact k⟩,λ k b=>?_⟩
 refine(OP d λ j h1 h2=>?_).trans ((cF λ i f=>?_).trans (a k b))
 simp only[if_neg (show¬j<n by omega)];grind
 simp only[if_pos f]
def amH(c:a4 K n w M)(a:¬gp M.length w (br (bH M))):bS M (aR M.length)=aR M.length:=by
 have key:∀k,k<=M.length->bS M (aR k)=aR k:=by intro k;induction k with|zero=>intro _;rfl|succ k e=>
     intro b;have es:bS M (aR (k+1))=ja M (bS M (aR k)) k:=by unfold bS;rw[gz,wH];rfl
     rw[es,e ac,gz];have h1:∀i∈aR k++[k],i<M.length:=λ i a=>by rw[<-gz]at a;have:=cb.1 a;omega
     have h2:=(D0 c h1 am).2 λ d=>a (by rw[<-gz,cR]at d;refine gp.mz (d.congr λ j f=>?_) b;unfold cL;rw[aX (by rw[cR];exact f),kT]);exact if_pos (by rw[aL];exact h2)
 exact key _ (a2 _)
def aoF(M:List (List ak)):aE M (aR M.length)=M:=by
 refine List.ext_getElem (by unfold aE;rw[aL,cR]) λ i h1 h2=>?_;have:(aE M (aR M.length))[i]=M.getD i []:=by simp[aE]
 rw[this,aX h2]
def WC(l:List Nat){k N:Nat}{α:Type}{d:α}(f:Nat->α)(h:k∉l)(a:k<N):((cW l N).map f).getD (cW l k).length d=f k:=by have⟨h1,h2⟩:=NR (l:=l) (i:=k) (N:=N) (by rw[List.contains_eq_mem,decide_eq_false_iff_not];exact h) a;rw[aX (by rw[aL];exact h1),gm,h2]
end
end Go.aA.fE
namespace Go.Proofs.YtpcofcmencgkbaaGreat
section
open Go.aA Go.aA.fE Go.Proofs Go.Lib
def Rl{l:List Nat}{n:Nat}(h:l.Pairwise (·<·))(c:∀p∈l,p<n):sn (l.map jj) n=true:=by
 unfold sn;rw[ek];intro i a;have a:=cb.1 a;rw[aL]at a;have e:∀j,j<l.length->(l.map jj).getD j 0=((l.getD j 0:Nat):Int):=λ j b=>by rw[aX (by rw[aL];exact b),gm,aX b];rfl
 unfold va;rw[e i a];have h1:=c _ (bo a);rw[<-aX (d:=0) a]at h1;have h2:0<i->l.getD (i-1) 0<l.getD i 0:=λ h0=>by rw[aX (ac:i-1<l.length),aX a];exact Bw.1 h _ _ _ _ ac
 by_cases h0:0<i;have:=h2 h0;rw[e (i-1) ac];generalize l.getD (i-1) 0=v at*;generalize l.getD i 0=u at*;simp;omega;generalize l.getD i 0=u at*;simp;omega
def I8{M:List (List ak)}{a b:Nat}{x y:Int}(h1:M.length=a)(h2:∀r∈M,r.length=b)(c:x=(a:Int))(e:y=(b:Int)):mh M x y=true:=by unfold mh;rw[gj];exact⟨ek.2 λ r d=>decide_eq_true (by rw[h2 r d,e]),decide_eq_true (by rw[h1,c])⟩
def aif(l:List Nat):(l.map jj).map ni=l:=by rw[List.map_map];exact(kq λ x _=>rfl).trans (List.map_id l)
variable{K:b6}{n w:Nat}{M:List (List ak)}
def IQ{R C:List Nat}{b c bh:List (List ak)}(o:a4 K n w M)(H:Q6 M w R C b c bh):kH M w ⟨R.map jj,C.map jj,b,c,bh⟩=true:=by
 have lo:=H.lo;have p:=H.lk;have ok:qn M w ⟨R.map jj,C.map jj,b,c,bh⟩=true:=by unfold qn Dx Dy Dz DA Ib;simp only[aL,gj];exact⟨I8 rfl (λ r g=>(o r g).1) rfl rfl,Rl H.anN H.adb,Rl H.Xj H.jq,decide_eq_true (by rw[H.xD]),I8 H.li H.arF rfl rfl,I8 (a:=M.length-R.length) ac H.arO ac rfl,I8 (a:=w-R.length) ac H.hZ ac rfl⟩
 have m:js M w ⟨R.map jj,C.map jj,b,c,bh⟩=⟨M,w,R,C,b,c,bh⟩:=by unfold js;simp only[aif]
 unfold kH;rw[ok,m,nh,gj,gj];have l:∀i k,(l1 i k).2.val=if i=k then 1 else 0:=λ i k=>by unfold l1;split<;>rfl
 refine⟨ek.2 λ i d=>ek.2 λ k e=>?_,ek.2 λ i d=>?_,ek.2 λ k e=>?_⟩;have d:i<b.length:=cb.1 d;have e:k<C.length:=cb.1 e;exact sA.2 (by rw[l];exact H.rR i (by have:=H.li;omega) k (by have:=H.xD;omega));have d:i<M.length:=cb.1 d;by_cases g:i∈R;rw[show(df.R ⟨M,w,R,C,b,c,bh⟩).contains i=true from jN.2 g];rfl;rw[yF];refine .inr (ek.2 λ k e=>sA.2 ?_);have:=H.uA i d g k (cb.1 e);rwa[gv]at this;have e:k<w:=cb.1 e;by_cases hc:k∈C;rw[show(df.C ⟨M,w,R,C,b,c,bh⟩).contains k=true from jN.2 hc];rfl;have⟨v1,v2⟩:=H.th k e hc;rw[yF,gj];refine .inr ⟨ek.2 λ j h=>?_,ek.2 λ i d=>sA.2 (v2 i (cb.1 d))⟩;have h:j<w:=cb.1 h;unfold df.ob;by_cases f:j∈C;rw[show(df.C ⟨M,w,R,C,b,c,bh⟩).contains j=true from jN.2 f];rfl;rw[yF];exact .inr (sA.2 (by rw[l];exact v1 j h f))
end
end Go.Proofs.YtpcofcmencgkbaaGreat
namespace Go.aA.fE
noncomputable section
open Classical
variable{K:b6}{n n' m w:Nat}{M:List (List ak)}
def K5{l:List Nat}(h:l.Pairwise (·<·)):l.Nodup:=h.imp λ h=>Qx h
def IH(b:a4 K n w M){R:List Nat}(c:∀k∈R,k<M.length)(a:¬gp R.length w (cL M R)):(bc (aE M R)).2.length=R.length:=by by_cases e:R=[];subst e;rfl;exact(D0 b c e).2 a
def Ol{R:List Nat}{g h bh:List (List ak)}(j:a4 K n w M)(v:R.Pairwise (·<·))(l:∀k∈R,k<M.length)(d:¬gp R.length w (cL M R))(I:wV K n' M R (bc (aE M R)).2 g)(f:Nat->List ak)(b:h=(cW R M.length).map f)(x:∀i,i<M.length->(f i).length=R.length/\∀k,k<w->(dV (f i) (jU M R k)).2.val=br (bH M) i k){S Q:List (List ak)}(E:jm S.length w w (bH S) (bH Q) (bc (aE M R)).2)(A:a4 K m w Q)(p:∀i,i<M.length->Span S.length w (br (bH S)) (br (bH M) i))(a:bh=(cW (bc (aE M R)).2 w).map λ q=>jB (λ s=>((Q.getD s []).getD q (a3 0)).neg) (bc (aE M R)).2 0 (c4 w (some q))):Q6 M w R (bc (aE M R)).2 g h bh:=by have z:a4 K n w (aE M R):=j.sub l;have u:=IH j l d;have o:=(ir z).qX;have y:=Is z;generalize(bc (aE M R)).2=C at*;refine⟨v,l,o,y,u,I.li,λ r c=>(I.z9 r c).1,?_,λ r c=>?_,?_,λ r c=>?_,λ i d k e=>I.rR j d e,λ i d c k e=>?_,λ k e hc=>?_⟩;rw[b,aL];exact Ii (K5 v) l;rw[b]at c;obtain⟨i,t,rfl⟩:=bd.1 c;exact(x i (Ij.1 t).1).1;rw[a,aL,<-u];exact Ii (K5 o) y;rw[a]at c;obtain⟨q,B,rfl⟩:=bd.1 c;rw[DT,jE];rw[b,WC R f c d];exact(x i d).2 k e;rw[a,WC C _ hc e];exact ai8 j E A (K5 o) p e hc
def Sk{R:List Nat}(x:R.Nodup){N:Nat}(z:∀k∈R,k<N):gp R.length w (cL M R)↔∃y:Nat->az,(∀i,i∉R->y i=0)/\(∃i,i∈R/\y i≠0)/\∀k,k<w->bL N (λ i=>y i*br (bH M) i k)=0:=by
 have nd:∀i j,i<R.length->j<R.length->R.getD i 0=R.getD j 0->i=j:=λ i j f a e=>by rw[aX f,aX a]at e;exact(List.getElem_inj x).1 e
 have v:∀j,j<R.length->R.getD j 0<N:=λ j a=>by rw[aX a];exact z _ (bo a)
 have s:∀(g:Nat->Nat->az),bL N (λ i=>bL R.length λ j=>if R.getD j 0=i then g j i else 0)=bL R.length λ j=>g j (R.getD j 0):=λ g=>by rw[pA];refine cF λ j a=>?_;rw[mZ (v j a) _ λ i f d=>if_neg (λ e=>d e.symm),if_pos rfl]
 constructor;rintro⟨c,⟨l,b,hc⟩,h0⟩;have val:∀j,j<R.length->bL R.length (λ i=>if R.getD i 0=R.getD j 0 then c i else 0)=c j:=λ j a=>by rw[mZ a _ λ i f d=>if_neg (λ e=>d (nd i j f a e)),if_pos rfl]
 refine⟨λ i=>bL R.length λ j=>if R.getD j 0=i then c j else 0,λ i f=>?_,⟨R.getD l 0,by rw[aX b];exact bo b,by show bL _ _≠0;rw[val l b];exact hc⟩,λ k o=>?_⟩;show bL _ _=0;rw[cF (g:=λ _=>0) λ j a=>if_neg (λ e=>f (by rw[<-e,aX a];exact bo a)),nP];rw[cF (g:=λ i=>bL R.length λ j=>if R.getD j 0=i then c j*br (bH M) i k else 0) λ i f=>by rw[<-uz];exact cF λ j a=>by split<;>grind];rw[s λ j i=>c j*br (bH M) i k];exact h0 k o;rintro⟨y,h1,⟨B,p,A⟩,h0⟩;obtain⟨l,b,rfl⟩:=fy.1 p;refine⟨λ j=>y (R.getD j 0),⟨l,b,by show y (R.getD l 0)≠0;rw[aX b];exact A⟩,λ k o=>?_⟩;have:=s λ j i=>y i*br (bH M) i k;refine KF this.symm (KF (cF λ i f=>?_) (h0 k o));by_cases h:i∈R;have⟨j,a,e⟩:=fy.1 h;have r:R.getD j 0=i:=by rw[aX a,e]
 rw[mZ a _ λ q t d=>if_neg (λ u=>d (nd q j t a (by rw[u,r]))),if_pos r];rw[cF (g:=λ _=>0) λ j a=>if_neg (λ e=>h (by rw[<-e,aX a];exact bo a)),nP,h1 i h];grind
def aej(r:a4 K n w M)(first:Nat):¬gp (chosen M first).length w (cL M (chosen M first)):=by
 have ho:∀k∈mf M first,k<M.length:=xU;have P:=NY r ho;have l:=(lI r ho).1;by_cases c:(bS M (mf M first)).Nodup;intro d;have t:=(Sk (M:=M) (w:=w) (Gi M first) (N:=M.length) vg).1 d;refine P ((Sk (M:=M) (w:=w) c (N:=M.length) l).2 ?_);have f:∀i,i∈chosen M first↔i∈bS M (mf M first):=λ i=>by unfold chosen;rw[iU,cb,jN];exact⟨λ h=>h.2,λ h=>⟨l i h,h⟩⟩
 have⟨y,h1,⟨i,b,s⟩,h0⟩:=t;exact⟨y,λ i b=>h1 i λ h=>b ((f i).1 h),⟨i,(f i).1 b,s⟩,h0⟩;exfalso;refine c (Bw.2 λ i j b p v e=>?_);have a:i≠j:=ac;refine P ⟨λ q=>if q=i then 1 else if q=j then-1 else 0,⟨i,b,by show(if i=i then(1:az)else _)≠0;rw[if_pos rfl];grind⟩,λ k x=>?_⟩;have u:cL M (bS M (mf M first)) i=cL M (bS M (mf M first)) j:=by unfold cL;rw[aX b,aX p];rw[e]
 rw[cF (g:=λ q=>(if q=i then cL M (bS M (mf M first)) i k else 0)+(if q=j then-cL M (bS M (mf M first)) i k else 0)) λ q o=>by show(if q=i then(1:az)else if q=j then-1 else 0)*_=_;by_cases h1:q=i;subst h1;rw[if_pos rfl,if_pos rfl,if_neg a];grind;rw[if_neg h1,if_neg h1];by_cases h2:q=j;subst h2;rw[if_pos rfl,if_pos rfl,u];grind;rw[if_neg h2,if_neg h2];grind,Ek,mZ b _ λ q o a=>if_neg a,mZ p _ λ q o a=>if_neg a,if_pos rfl,if_pos rfl];grind
end
end Go.aA.fE
namespace Go.Proofs.YtpcofcmencgkbaaGreat
section
open Go.aA Go.aA.fE Go.Proofs Go.Lib
def TB{α:Type}(l:List α)(r j:Nat)(d:α):(l.drop r).getD j d=l.getD (r+j) d:=by rw[dE,dE,List.getElem?_drop]
variable{K:b6}{n w:Nat}{M:List (List ak)}{R:List Nat}
def VK(c:a4 K n w M)(b:∀k∈R,k<M.length)(d:¬gp R.length w (cL M R)):a4 K n R.length ((aE M R).map (b5 (bc (aE M R)).2))/\((aE M R).map (b5 (bc (aE M R)).2)).length=R.length:=by have a:=vI (c.sub b) (bc (aE M R)).2;have h:=IH c b d;unfold aE at h a⊢;rw[h]at a;exact⟨a,by rw[aL,aL]⟩
def VL(b:a4 K n w M)(a:∀k∈R,k<M.length)(e:¬gp R.length w (cL M R))(h0:R≠[]){i k:Nat}(d:i<R.length)(l:k<R.length):bL R.length (λ j=>br (bH (bc (bX ((aE M R).map (b5 (bc (aE M R)).2)) (dt R.length))).1) i (R.length+j)*cL M R j ((bc (aE M R)).2.getD k 0))=if i=k then 1 else 0:=by have g:a4 K n w (aE M R):=b.sub a;have c:(aE M R).length=R.length:=aL ..;have:=akh g (λ h=>h0 (gP.1 h)) (by rw[IH b a e,c]) (i:=i) (k:=k) ac ac;rw[c]at this;rw[<-this];exact cF λ j f=>by rw[py M f]
def aij(f:a4 K n w M)(d:∀k∈R,k<M.length)(h:¬gp R.length w (cL M R)):wV K (grow K R.length n) M R (bc (aE M R)).2 (lA ((aE M R).map (b5 (bc (aE M R)).2))):=by
 have⟨m,b⟩:=VK f d h;have g:=MM m (j:=R.length) (by rw[b];exact a2 _);rw[b]at g;refine⟨g.1,g.2,λ i a k o=>?_⟩;have h0:R≠[]:=λ e=>by subst e;exact ew _ a
 have v:=VL f d h h0 a o;rw[<-v];refine cF λ j p=>?_;have c:=g.1;have e:br (bH (lA ((aE M R).map (b5 (bc (aE M R)).2)))) i j=br (bH (bc (bX ((aE M R).map (b5 (bc (aE M R)).2)) (dt R.length))).1) i (R.length+j):=by rw[gv,gv];unfold lA at c⊢;rw[b]at c⊢;rw[aL]at c;rw[aX (l:=Qz _ _) (by rw[aL];omega),gm,TB,aX (l:=(bc _).1)]
 rw[e]
def aik(h:a4 K n w M)(f:∀k∈R,k<M.length)(b:¬gp R.length w (cL M R)):wV K (grow K R.length n) M R (bc (aE M R)).2 (l9 ((aE M R).map (b5 (bc (aE M R)).2))):=by
 by_cases h0:R=[];subst h0;exact⟨rfl,λ r p=>(ct p).elim,λ i b=>(ew _ b).elim⟩;have⟨m,c⟩:=VK h f b;have q:0<R.length:=fN.2 h0;have g:=ML m c q;refine⟨g.1,g.2,λ i a k s=>?_⟩;have v:=VL h f b h0 a s;have o:=np m (oy (K:=K) (n:=n) R.length);have d:(bX ((aE M R).map (b5 (bc (aE M R)).2)) (dt R.length)).length=R.length:=by unfold bX;rw[gY,mO,c,n4]
 have bne:bX ((aE M R).map (b5 (bc (aE M R)).2)) (dt R.length)≠[]:=λ e=>by rw[e,List.length_nil]at d;omega
 have pv:=WI o bne;rw[d]at pv;rw[<-pv]at v;rw[<-v];refine cF λ j t=>?_;have e:br (bH (l9 ((aE M R).map (b5 (bc (aE M R)).2)))) i j=br (bH ((dk (bX ((aE M R).map (b5 (bc (aE M R)).2)) (dt R.length))).rows (R.length+R.length) R.length)) i (R.length+j):=by rw[gv,gv];unfold l9;rw[c,aX (l:=Qz _ _) (by rw[aL,cR];exact a),gm,kT,TB]
 rw[e]
def aef(f:a4 K n w M)(l:M≠[])(w0:0<w):kH M w (sx M)=true:=by
 have ho:∀k∈aR M.length,k<M.length:=λ k D=>cb.1 D;have m:=NY f ho;have o:=(lI f ho).1;have S:(bS M (aR M.length)).Pairwise (·<·):=by rw[<-N1 f l w0];exact(ir (nR f)).qX
 have L:∀i,i<M.length->Span (bS M (aR M.length)).length w (cL M (bS M (aR M.length))) (br (bH M) i):=λ i m=>DK f (aR M.length) [] ho (λ _ h=>(ct h).elim) Co i (cb.2 m);have J:pn M=(cW (bc M).2 w).map λ q=>jB (λ s=>((((dk M).rows w M.length).getD s []).getD q (a3 0)).neg) (bc M).2 0 (c4 w (some q)):=by unfold pn ki k7;rw[eD f l,xW f l];simp only[gl];rfl
 have E:=rG f l;rw[<-WI f l]at E;have Y:=DI (j:=w) f l (.inr (a2 _));unfold sx;simp only;generalize bS M (aR M.length)=R at*;have cs:=aeB f o L;rw[cs]at J E;have I:=aik f o m;have v:=IH f o m;have N:=Is (f.sub o);have hd:¬gp R.length R.length λ s t=>cL M R s ((bc (aE M R)).2.getD t 0):=by by_cases h0:R=[];subst h0;exact Co;have X:a4 K n w (aE M R):=f.sub o;have H:(aE M R).length=R.length:=aL ..;have:=VI (rG X λ h=>h0 (gP.1 h)) (by rw[v,H]);rw[H]at this;exact λ d=>this (d.congr λ j T=>by funext t;rw[py M T])
 refine IQ f (Ol f S o m I (λ i=>mD (cB (l9 ((aE M R).map (b5 (bc (aE M R)).2)))) (b5 (bc (aE M R)).2 (M.getD i []))) rfl (λ i r=>?_) E Y (λ i m=>Span.row m) J);change(bc (aE M R)).2.length=R.length at v;change∀p∈(bc (aE M R)).2,p<w at N;generalize l9 ((aE M R).map (b5 (bc (aE M R)).2))=b at*;generalize(bc (aE M R)).2=C at*;have jd:(cB b).length=R.length:=by by_cases h0:b=[];have:=I.li;subst h0;rw[<-this];rfl;rw[qx,eD I.z9 h0]
 have G:=nR I.z9;rw[I.li]at G;have g:=f.get r;have F:=Gl g.2 C;have A:(mD (cB b) (b5 C (M.getD i []))).length=R.length:=by unfold mD;rw[aL,jd]
 have U:cU K (R.length*(grow K R.length n+n+K.c+1)) (mD (cB b) (b5 C (M.getD i []))):=λ x Q=>by unfold mD at Q;obtain⟨a,V,rfl⟩:=bd.1 Q;have t:=G a V;have:=DN t.2 F.2;rwa[t.1]at this
 refine⟨A,λ k D=>?_⟩;rw[DO U (Cj f R k) A (Lr ..)];have:=I.ez f v N hd (L i r) (z:=λ s=>((mD (cB b) (b5 C (M.getD i []))).getD s (a3 0)).2.val) (λ s y=>?_) D;rw[<-this];exact cF λ s y=>by rw[Lq M R k y]
 have u:s<(cB b).length:=ac;have B:b≠[]:=λ e=>by have:=I.li;rw[e]at this;simp at this;omega
 have t:=G _ (bo u);show((mD (cB b) (b5 C (M.getD i []))).getD s (a3 0)).2.val=_;rw[aX (by rw[A];exact y)];have e:(mD (cB b) (b5 C (M.getD i [])))[s]'(by rw[A];exact y)=dV (cB b)[s] (b5 C (M.getD i [])):=by simp[mD]
 rw[e,DO t.2 F.2 t.1 (by rw[F.1,v])];refine cF λ q O=>?_;have P:=Zf I.z9 B (i:=s) (k:=q) y (by rw[I.li];exact O);rw[gv,aX u]at P;rw[P,aez C _ (by rw[v];exact O),<-gv]
def Xo(d:a4 K n w M)(w0:0<w):kH M w (o5 M w)=true:=by
 unfold o5;split;.next h=>
   subst h;have e:∀l:List Nat,cW [] l.length=cW [] l.length:=λ _=>rfl;refine IQ (R:=[]) (C:=[]) d ⟨abR,λ k b=>(ct b).elim,abR,λ k b=>(ct b).elim,rfl,rfl,λ r a=>(ct a).elim,rfl,λ r a=>(ct a).elim,by rw[mO];rfl,λ r a=>((oy (K:=K) (n:=0) w) r a).1,λ i c=>(ew _ c).elim,λ i c=>(ew _ c).elim,λ k b hc=>⟨λ j f _=>?_,λ i c=>(ew _ c).elim⟩⟩;have e:(dt w).getD (cW [] k).length []=c4 w (some k):=by have:cW [] k=aR k:=Qw.2 λ _ _=>rfl;rw[this,cR,aX (by rw[mO];exact b)];unfold dt;rw[gm,kT]
   rw[e,Zq f]
 next h=>exact aef d h w0
end
def ND(q:Rat):ak:=(true,eC q)
section
variable(G:Nat->Option (List aa))
def oA(a:Int)(b:Nat)(q:Rat)(e:(a:Rat)/((b:Int):Rat)=q:=by decide+kernel)(h1:b≠0:=by decide)(f:b<=1000:=by decide)(h3:-1000<=a:=by decide)(h4:a<=1000:=by decide):ag ab G 95 [.int .i64 a,.int .i64 (b:Int)] (aZ q):=by subst e;exact N9 G a b h1 f h3 h4
def oB(q:Rat)(h:af q.num.natAbs<=5/\af q.den<=5:=by decide+kernel):ag ab G 94 [aZ q] (aw (eC q)):=V9 G q (cO.mono ⟨h.1,h.2⟩ al)
def JT{a:Int}{b:Nat}{p:Rat}(f:ag ab G 95 [.int .i64 a,.int .i64 (b:Int)] (aZ p))(r:ag ab G 94 [aZ p] (aw (eC p))):ag ab G 45 [.int .i64 (b:Int),.sl 1 [.int .i64 a]] (aj [ND p]):=ag.yf hN [hc f,hc r] [([15],⟨[aw (eC p)],2,false⟩)] (.ah [15] 2 0 1 false) an (λ σ h=>gK (one h))
def EJ{a a':Int}{b:Nat}{p d:Rat}(f:ag ab G 95 [.int .i64 a,.int .i64 (b:Int)] (aZ p))(r:ag ab G 94 [aZ p] (aw (eC p)))(e:ag ab G 95 [.int .i64 a',.int .i64 (b:Int)] (aZ d))(g:ag ab G 94 [aZ d] (aw (eC d))):ag ab G 45 [.int .i64 (b:Int),.sl 1 [.int .i64 a,.int .i64 a']] (aj [ND p,ND d]):=ag.yf hN [hc f,hc r,hc e,hc g] [([29],⟨[aw (eC p),aw (eC d)],2,false⟩)] (.ah [29] 2 0 2 false) an (λ σ h=>gK (one h))
def ru(M:List (List Rat)):List (List ak):=M.map λ r=>r.map a3
def DB(M:List (List Rat)):Bool:=M.all λ r=>r.all λ q=>decide (q.num.natAbs<=256)&&decide (q.den<=256)
def FX{K:b6}{M:List (List Rat)}(h:DB M=true):oY K 8 (ru M):=λ r d x b=>by obtain⟨s,a,rfl⟩:=bd.1 d;obtain⟨q,c,rfl⟩:=bd.1 b;have:=ek.1 (ek.1 h s a) q c;rw[gj]at this;exact aC.G.rat (q:=q) (of_decide_eq_true this.1) (of_decide_eq_true this.2)
def Ck(R C:List Int)(I O a:List (List Rat)):ie:=⟨R,C,ru I,ru O,ru a⟩
def Ax{a b c:Rat}(h:a*b=c:=by decide+kernel):fF (dV [a3 a] [a3 b]) (a3 c)=true:=by have e:=DR (wx [a3 a] [a3 b]) (λ p f=>by rw[bU.1 f];exact⟨trivial,trivial⟩) (s:=a3 0) Ob;refine sA.2 (KF e ?_);show(0:az)+dX a*dX b=dX c;rw[pJ,h];grind
def Iz{a b a' f c:Rat}(h:a*b+a'*f=c:=by decide+kernel):fF (dV [a3 a,a3 a'] [a3 b,a3 f]) (a3 c)=true:=by have e:=DR (wx [a3 a,a3 a'] [a3 b,a3 f]) (λ p g=>by rcases cp.1 g with rfl|g;exact⟨trivial,trivial⟩;rw[bU.1 g];exact⟨trivial,trivial⟩) (s:=a3 0) Ob;refine sA.2 (KF e ?_);show(0:az)+dX a*dX b+dX a'*dX f=dX c;rw[pJ,pJ,<-h,<-az.ofRat_add];grind
def SJ(a:Rat):fF (a3 a) (a3 a)=true:=sA.2 rfl
def lr:List (List ak):=ru [[1,2],[2,4]]
def tF:ie:=Ck [0] [0] [[1]] [[2]] [[-2,1]]
def y9:ie:=Ck [1] [1] [[1/4]] [[1/2]] [[1,-1/2]]
def K0:ie:=Ck [0] [0] [[1]] [[2]] [[2,-1]]
def aqH:(js lr 2 tF).rR=true:=by show(fF (dV [a3 1] [a3 1]) (a3 1)&&true&&true)=true;rw[Ax];rfl
def aqB:(js lr 2 tF).uA=true:=by show(true&&((false||(fF (dV [a3 2] [a3 1]) (a3 2)&&(fF (dV [a3 2] [a3 2]) (a3 4)&&true)))&&true))=true;rw[Ax,Ax];rfl
def aqK:(js lr 2 tF).th=true:=by show(true&&((false||((true&&((false||fF (a3 1) (a3 1))&&true))&&(fF (dV [a3 1,a3 2] [a3 (-2),a3 1]) (a3 0)&&(fF (dV [a3 2,a3 4] [a3 (-2),a3 1]) (a3 0)&&true))))&&true))=true;rw[SJ,Iz,Iz];rfl
def ao2:kH lr 2 tF=true:=by unfold kH;rw[aqH,aqB,aqK,show qn lr 2 tF=true from an];rfl
def aqI:(js lr 2 y9).rR=true:=by show(fF (dV [a3 (1/4)] [a3 4]) (a3 1)&&true&&true)=true;rw[Ax];rfl
def aqC:(js lr 2 y9).uA=true:=by show((false||(fF (dV [a3 (1/2)] [a3 2]) (a3 1)&&(fF (dV [a3 (1/2)] [a3 4]) (a3 2)&&true)))&&(true&&true))=true;rw[Ax,Ax];rfl
def aqL:(js lr 2 y9).th=true:=by show((false||(((false||fF (a3 1) (a3 1))&&(true&&true))&&(fF (dV [a3 1,a3 2] [a3 1,a3 (-1/2)]) (a3 0)&&(fF (dV [a3 2,a3 4] [a3 1,a3 (-1/2)]) (a3 0)&&true))))&&(true&&true))=true;rw[SJ,Iz,Iz];rfl
def ao3:kH lr 2 y9=true:=by unfold kH;rw[aqI,aqC,aqL,show qn lr 2 y9=true from an];rfl
def aqM:(js lr 2 K0).th=false:=by
 have h:fF (a3 (-1)) (a3 1)=false:=by cases e:fF (a3 (-1)) (a3 1)with|false=>rfl|true=>exact absurd (az.H9 (show dX (-1)=dX 1 from sA.1 e)) (by decide+kernel)
 show(true&&((false||((true&&((false||fF (a3 (-1)) (a3 1))&&true))&&_))&&true))=false;rw[h];rfl
def ao4:kH lr 2 K0=false:=by unfold kH;rw[aqM,QA,QA,QA]
def ao1:kH lr 3 tF=false:=by unfold kH;rw[show qn lr 3 tF=false from an,uY]
def aqU{σ:aQ}{e a d b g f:bz}{b1 b2 b3 b4 tH tI:Bool}{M:List (List ak)}{c:ie}{w:Nat}(h1:σ e=some ⟨M.map aj,1,b1⟩)(j:σ a=some ⟨c.rows.map di,1,b2⟩)(h3:σ d=some ⟨c.bE.map di,1,b3⟩)(h4:σ b=some ⟨c.inv.map aj,1,b4⟩)(i:σ g=some ⟨c.ez.map aj,1,tH⟩)(h:σ f=some ⟨c.bh.map aj,1,tI⟩):dy σ [.ah e 1 0 M.length false,aq w,.agg [.ah a 1 0 c.rows.length false,.ah d 1 0 c.bE.length false,.ah b 1 0 c.inv.length false,.ah g 1 0 c.ez.length false,.ah f 1 0 c.bh.length false]] [aD M,aq w,kG c]:=bZ (gK h1 (aL ..)) (bZ (fx bg.pure) (bZ (yV (bZ (gK j (aL ..)) (bZ (gK h3 (aL ..)) (bZ (gK h4 (aL ..)) (bZ (gK i (aL ..)) (bZ (gK h (aL ..)) eH)))))) eH))
def G6{G:Nat->Option (List aa)}{f:FuncId}{r:aa}(i b j k g d:bz)(b1 b2 b3 b4 tH tI:Bool)(M:List (List ak))(c:ie)(w:Nat)(h:ag ab G f [aD M,aq w,kG c] r)(e:[i,b,j,k,g,d].Nodup:=by decide):aV ab G:=vx [(i,⟨M.map aj,1,b1⟩),(b,⟨c.rows.map di,1,b2⟩),(j,⟨c.bE.map di,1,b3⟩),(k,⟨c.inv.map aj,1,b4⟩),(g,⟨c.ez.map aj,1,tH⟩),(d,⟨c.bh.map aj,1,tI⟩)] (args:=[.ah i 1 0 M.length false,aq w,.agg [.ah b 1 0 c.rows.length false,.ah j 1 0 c.bE.length false,.ah k 1 0 c.inv.length false,.ah g 1 0 c.ez.length false,.ah d 1 0 c.bh.length false]]) h (by simp only[h5,cp,ct,or_false,not_or,gA,and_true,not_false_eq_true]at e;have⟨⟨B,y,o,q,m⟩,⟨l,z,s,v⟩,⟨A,p,u⟩,⟨t,x⟩,n⟩:=e;refine aqU (b1:=b1) (b2:=b2) (b3:=b3) (b4:=b4) (tH:=tH) (tI:=tI) ?_ ?_ ?_ ?_ ?_ ?_<;>simp[aQ.of,List.lookup,gE (dS B),gE (dS y),gE (dS o),gE (dS q),gE (dS m),gE (dS l),gE (dS z),gE (dS s),gE (dS v),gE (dS A),gE (dS p),gE (dS u),gE (dS t),gE (dS x),gE (dS n)])
def F4{M:List (List Rat)}{R C:List Int}{I O b:List (List Rat)}{w:Nat}(z:Bool)(f:kH (ru M) w (Ck R C I O b)=z)(h1:DB M=true:=by decide+kernel)(e:DB I=true:=by decide+kernel)(h3:DB O=true:=by decide+kernel)(h4:DB b=true:=by decide+kernel)(j:M.length=2:=by rfl)(g:R.length=1:=by rfl)(i:C.length=1:=by rfl)(l:I.length=1:=by rfl)(h:O.length=1:=by rfl)(k:b.length=1:=by rfl)(hw:w<=3:=by decide):ag ab G 16 [aD (ru M),aq w,kG (Ck R C I O b)] (.bool z):=by subst f;have F:=Src.Cy (Q:=Src.none 256) rfl;have c:∀A:List (List Rat),(ru A).length=A.length:=λ A=>aL ..;refine Pr G F (nm:=8) (iH:=8) ⟨by rw[c];omega,ac,FX h1,⟨FX e,FX h3,FX h4⟩,by show R.length<=_;omega,by show C.length<=_;omega,by show(ru I).length<=_;rw[c];omega,by show(ru O).length<=_;rw[c];omega,by show(ru b).length<=_;rw[c];omega,F5 rfl al,F5 rfl al,λ _ _ _=>F5 rfl ?_,λ _=>F5 rfl ?_⟩;show R.length*_<=_;rw[g,s7 rfl];decide;rw[s7 rfl];exact bx (cr _ hw) al
def acO:ag ab G 13 [] (.bool true):=by have l:=EJ G (oA G 1 1 1) (oB G 1) (oA G 2 1 2) (oB G 2);have k:=EJ G (oA G 2 1 2) (oB G 2) (oA G 4 1 4) (oB G 4);have g:=JT G (oA G 1 1 1) (oB G 1);have d:=JT G (oA G 2 1 2) (oB G 2);have e:=EJ G (oA G (-2) 1 (-2)) (oB G (-2)) (oA G 1 1 1) (oB G 1);have h:=JT G (oA G 1 4 (1/4)) (oB G (1/4));have f:=JT G (oA G 1 2 (1/2)) (oB G (1/2));have c:=EJ G (oA G 2 2 1 (by decide+kernel)) (oB G 1) (oA G (-1) 2 (-1/2)) (oB G (-1/2));have b:=EJ G (oA G 2 1 2) (oB G 2) (oA G (-1) 1 (-1)) (oB G (-1));have m:=F4 G true ao2;have j:=F4 G true ao3;have o:=F4 G false ao4;have n:=F4 G false ao1;exact aN [j0 [1] 1 [.int .i64 1,.int .i64 2] (A:=[.int .i64 1]) l,j0 [3] 1 [.int .i64 2,.int .i64 4] (A:=[.int .i64 1]) k,j0 [9] 1 [.int .i64 1] (A:=[.int .i64 1]) g,j0 [12] 1 [.int .i64 2] (A:=[.int .i64 1]) d,j0 [15] 1 [.int .i64 (-2),.int .i64 1] (A:=[.int .i64 1]) e,j0 [23] 1 [.int .i64 1] (A:=[.int .i64 4]) h,j0 [26] 1 [.int .i64 1] (A:=[.int .i64 2]) f,j0 [29] 1 [.int .i64 2,.int .i64 (-1)] (A:=[.int .i64 2]) c,j0 [38] 1 [.int .i64 2,.int .i64 (-1)] (A:=[.int .i64 1]) b,G6 [5] [7] [8] [11] [14] [17] false false false false false false lr tF 2 m,G6 [5] [21] [22] [25] [28] [31] true false false false false false lr y9 2 j,G6 [5] [7] [8] [11] [14] [40] true true true true true false lr K0 2 o,G6 [5] [7] [8] [11] [14] [17] true true true true true true lr tF 3 n]
end
section
open Go.aA Go.aA.fE Go.Proofs Go.Lib
variable{K:b6}{n w:Nat}{M:List (List ak)}
def afi{w:Nat}:jm 0 w w [] (bH []) []:=⟨λ r c=>(ct c).elim,rfl,λ i a=>(ew _ a).elim,λ i a=>(ew _ a).elim,a2 _,λ s b=>(ew _ b).elim,λ s b=>(ew _ b).elim,λ s b=>(ew _ b).elim,λ i _ a=>(ew _ a).elim⟩
def aeg{S:List (List ak)}(a:a4 K n w S)(c:¬gp S.length w (br (bH S))):(gu S w).bE=(bc S).2.map jj/\(gu S w).inv=lA (S.map (b5 (bc S).2))/\(gu S w).bh=if S.isEmpty then rQ w else oC S:=by
 unfold gu;simp only[amH a c,aoF];by_cases e:S=[];subst e;refine⟨?_,?_,?_⟩<;>first|trivial|rfl
 have b:S.isEmpty=false:=by rw[wF];exact λ h=>e (oU.1 h)
 rw[b];simp only[Bool.false_eq_true,if_false];exact⟨trivial,trivial,trivial⟩
def al6(b:a4 K n w M)(p:M≠[])(w0:0<w)(first:Nat):kH M w (mg M w first)=true:=by
 have e:∀k∈chosen M first,k<M.length:=vg;have a:=aej b first;have u:(chosen M first).Pairwise (·<·):=List.pairwise_lt_range.filter _;have OG:=λ i(a:i<M.length)=>RX b first a;have o:=Ch b first (j:=w) (.inr (a2 _));rw[Go.aA.Aq p];generalize chosen M first=R at*;have g:a4 K n w (aE M R):=b.sub e;have t:(aE M R).length=R.length:=aL ..;have v:∀i,i<M.length->Span R.length w (cL M R) (br (bH M) i):=λ i a=>(OG i a).congr (λ j l=>py M l) rfl;have C:¬gp (aE M R).length w (br (bH (aE M R))):=by rw[t];exact λ d=>a (d.congr λ j l=>py M l)
 have⟨x,A,B⟩:=aeg g C;rw[x,A,B];have I:=aij b e a;have c:((aR M.length).filter λ i=>!R.contains i).map (λ i=>gg (aE M R) (M.getD i []))=(cW R M.length).map λ i=>gg (aE M R) (M.getD i []):=rfl;have s:∀i,i<M.length->(gg (aE M R) (M.getD i [])).length=R.length/\∀k,k<w->(dV (gg (aE M R) (M.getD i [])) (jU M R k)).2.val=br (bH M) i k:=λ i a=>by have:=apL b e w0 o v a;exact⟨this.1,this.2.2⟩
 have f:∀i,i<M.length->Span (aE M R).length w (br (bH (aE M R))) (br (bH M) i):=λ i a=>by rw[t];exact OG i a
 by_cases h0:aE M R=[];have E:jm (aE M R).length w w (bH (aE M R)) (bH []) (bc (aE M R)).2:=by rw[h0];exact afi
 refine IQ b (Ol b u e a I (λ i=>gg (aE M R) (M.getD i [])) c s E (m:=0) (λ r y=>(ct y).elim) f ?_);rw[h0];show rQ w=(cW [] w).map λ q=>c4 w (some q);have:cW [] w=aR w:=Qw.2 λ _ _=>rfl;rw[this];rfl;have E:=rG g h0;refine IQ b (Ol b u e a I (λ i=>gg (aE M R) (M.getD i [])) c s E (ir g).ql f ?_);have z:(aE M R).isEmpty=false:=by rw[wF];exact λ h=>h0 (oU.1 h)
 rw[z];unfold oC;rw[eD g h0];rfl
def anU(a:a4 K n w M)(w0:0<w)(first:Nat):kH M w (mg M w first)=true:=by by_cases h:M=[];subst h;have:=Xo a w0;unfold o5 at this;rw[if_pos rfl]at this;exact this;exact al6 a h w0 first
end
section
open Go.aA Go.aA.fE Go.Proofs Go.Lib
variable(G:Nat->Option (List aa)){ops:List fI}{at_:List Nat}{bE first:Nat}
def ajj(ho:∀o∈ops,lU o)(f:∀a∈at_,a<256)(c:bE<256)(e:first<256):ag ab G 10 [sD ops at_ bE,u8 first] (.bool true):=ajk G (acO _) ho f c e (λ b w0=>Xo b w0) (λ b w0=>anU b w0 first)
end
end Go.Proofs.YtpcofcmencgkbaaGreat
namespace Go.aA
section
variable{H:Type}{enc:TypeId×Value->H}{P:Program}{w:World}{spare:Nat->Bool}{held:Bool}
def nB(w:World):Env:=⟨λ _=>none,λ b=>b<w.heap.size⟩
def LP{α β:Type}{f:α->β}{Q:α->Prop}:∀{es:List β},(∀c∈es,∃x,c=f x/\Q x)->∃l:List α,es=l.map f/\∀x∈l,Q x|[],_=>⟨[],rfl,am⟩|c::es,h=>by have⟨x,g,e⟩:=h c am;have⟨l,d,b⟩:=LP (es:=es) λ y a=>h y (by simp[a]);exact⟨x::l,by rw[g,d];rfl,by intro y a;rcases cp.1 a with rfl|a;exact e;exact b y a⟩
def Wz{t e:TypeId}{fuel k:Nat}{cs:List Value}{x:DataW H×List MemPlace}(ht:P.underlying t=some (.slice e))(hk:P.cellsOf e=k)(B:0<k)(h:DataW.trod enc P w 0 spare held fuel t cs=some x)(f:aa->Prop)(F:∀n d y,fuel=n+1->DataW.trod enc P w 0 spare held n e d=some y->∃c:aa,f c/\c.size=k/\bq (nB w) w c.cells d):∃(es:List aa)(v:Value),cs=[v]/\ax (nB w) w (.sl k es) v/\(∀c∈es,f c)/\es.length<=maxLen:=by
 rcases DataW.trod_slice ht h with⟨rfl,rfl⟩|⟨a,len,cap,V,rest,n,L,rfl,rfl,_,hl,hm,hlen,R,_,_⟩;exact⟨[],_,rfl,by simp only[ax];exact⟨none,0,rfl,a2 _,dF _,am,.inl trivial⟩,am,dF _⟩;have hC:∀i,i<len->∃c:aa,f c/\c.size=k/\∃d,w.cells? 0 (a.add (i*k)) k=some d/\bq (nB w) w c.cells d:=by intro i hi;have h1:=R i hi;rw[eu ac,hk]at h1;have⟨d,O,h3⟩:=Option.bind_eq_some_iff.1 h1;have⟨c,hg,Z,M⟩:=F n d _ L h3;exact⟨c,hg,Z,d,O,M⟩
 have E:∀i:_root_.Fin len,∃c:aa,f c/\c.size=k/\∃d,w.cells? 0 (a.add (i.1*k)) k=some d/\bq (nB w) w c.cells d:=λ i=>hC i.1 i.2;let C:_root_.Fin len->aa:=λ i=>(E i).choose;have p:∀i,f (C i)/\(C i).size=k/\∃d,w.cells? 0 (a.add (i.1*k)) k=some d/\bq (nB w) w (C i).cells d:=λ i=>(E i).choose_spec;have z:∀c∈KG C,c.size=k:=by intro c A;obtain⟨i,rfl⟩:=abS.1 A;exact(p i).2.1
 refine⟨KG C,_,rfl,?_,by intro c A;obtain⟨i,rfl⟩:=abS.1 A;exact(p i).1,by rw[Fs];omega⟩;simp only[ax];refine⟨some a,cap,by rw[Fs],by rw[Fs];exact hl,hm,z,?_⟩;by_cases h0:len=0;left;exact List.length_eq_zero_iff.1 (by rw[Fs];exact h0);right;have m:∀(i:_root_.Fin len)(r:Nat)(c:aa),(C i).cells[r]?=some c->∃v,w.cell? ((a.add (i.1*k)).add r)=some v/\ax (nB w) w c v:=by
   intro i r c A;have⟨_,Z,d,h1,O⟩:=p i;obtain⟨T9,hp⟩:=fu.1 O;obtain⟨v,U,N⟩:=hp r c A;refine⟨v,?_,N⟩;have S:r<k:=by have:=(fl.1 A).1;rw[<-Z];exact this
   rw[(World.cells?_some h1).2.2 r S,U]
 obtain⟨b,o,l⟩:=a;have W:0<len:=Nat.pos_of_ne_zero h0;obtain⟨adC,T⟩:∃c,(C ⟨0,W⟩).cells[0]?=some c:=⟨_,eu (by have:=(p ⟨0,W⟩).2.1;unfold aa.size at this;omega)⟩;obtain⟨v0,Y,_⟩:=m ⟨0,W⟩ 0 adC T;have s:((⟨b,o,l⟩:Addr).add (0*k)).add 0=⟨b,o,l⟩:=by simp[Addr.add]
 have q:w.cell? ⟨b,o,l⟩=some v0:=by rw[<-s];exact Y
 have X:l=none:=World.cell?_spot q;subst X;refine⟨b,o,rfl,World.block_lt_of_cell? _ _ q,mU.2 ?_⟩;intro j c hj;have I:j<(flat (KG C)).length:=(fl.1 hj).1;rw[kZ z,Fs]at I;have u:j/k<len:=(Nat.div_lt_iff_lt_mul B).2 I;have Q:j%k<k:=Nat.mod_lt _ B;have G:(KG C)[j/k]?=some (C ⟨j/k,u⟩):=by rw[List.getElem?_ofFn,dif_pos u]
 have D:=zy z G Q;have J:j/k*k+j%k=j:=by rw[Nat.mul_comm];exact Nat.div_add_mod j k
 rw[J,hj]at D;obtain⟨v,U,M⟩:=m ⟨j/k,u⟩ (j%k) c D.symm;refine⟨v,?_,M⟩;have K:((⟨b,o,none⟩:Addr).add (j/k*k)).add (j%k)=⟨b,o+j,none⟩:=by
   have h1:∀(o n:Nat),(⟨b,o,none⟩:Addr).add n=⟨b,o+n,none⟩:=λ o n=>by unfold Addr.add;split<;>simp_all
   rw[h1,h1,Nat.add_assoc,J]
 rw[<-K];exact U
end
end Go.aA
