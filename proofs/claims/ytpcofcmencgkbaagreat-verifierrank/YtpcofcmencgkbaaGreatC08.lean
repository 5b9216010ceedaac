/- For the claim of VerifierRank: parts ZWC, ZWD, ZWE, ZWF, ZUP, ZUW, ZI1, ZI2, ZJ1, ZJ2, ZJ3, TP1, TP2, XT1, TP3, XT2, XT3, TP4, TP5. -/
import Derived.Test.YtpcofcmencgkbaaGreatC07
import Derived.Test.YtpcofcmencgkbaaGreatC04
import Derived.RangeFuncBox
import Derived.RangeFuncLeaves
import Derived.Shelf.Abstract
import Derived.WalkKit
import Derived.OwnWalkIn
import Derived.TacticsInMore
import Derived.LoopNIn
import Derived.LoopIn
import Derived.Test.YtpcofcmencgkbaaGreatProg
import Derived.Lib.ItoaNum
import Derived.Test.YtpcofcmencgkbaaGreatC05
import Derived.Test.YtpcofcmencgkbaaGreatC03
import Derived.Test.YtpcofcmencgkbaaGreatC06
set_option linter.defProp false
set_option linter.unusedSimpArgs false
set_option linter.unusedVariables false
set_option maxRecDepth 100000
open Array renaming replicate_succ->JP,replicate_zero->JQ
open Go.IntKind renaming i64->cF,u32->gD,u64->de,wrap_i64->cM,wrap_u64->iu
open Go.Proofs.Tryz renaming func323->Pk,ntmps323->ZI,prog->ab
open Go.RowKit renaming intOf->ZJ
open Go.aF renaming Id->bT
open Go.aF.cu renaming j7->fP,N8->JL
open Go.aF.ah renaming eJ->dn,qh->mW,add->eC,add_zero->Pm,e9->dP,Gw->uo,inv->fj,oT->yg,Te->vP,gz->fx,ms->cJ,CI->rf,w7->k6,CK->um,w8->gW,mul->cN,mul_zero->JU,neg->kZ,norm->sM,pair->mV,rat->cz,sa->vQ,Io->A2,sh->cA,val->aR,zero_mul->Ex
open Go.aF.aB renaming s->aG
open Go.aF.b8 renaming bool->AM
open Go.aF.aC renaming ofRat->ek,ofRat_mul->yh,ep->eD
open Go.aF.aL renaming of->bk
open Go.aF.eK renaming to->kd
open Go.aF.aE renaming eJ->kf
open Go.aF.ag renaming xh->A1,xM->bQ
open Go.aF.View renaming aq->fi,pure->jw,aS->vO
open Go.aF.c9 renaming cons->cp,nil->iv
open Int renaming lt_trichotomy->ZK,natAbs_mul->l3,natAbs_natCast->gE,natAbs_of_nonneg->Ew,natCast_mul->uf
open Lean.Grind.Ring renaming sub_eq_add_neg->sG
open List renaming append_toArray->JS,cons_append->sC,getD_eq_getElem?_getD->dJ,getElem?_eq_getElem->du,getElem_mem->bc,length_cons->e6,length_nil->jB,mem_cons->cr,mem_cons_of_mem->c5,mem_cons_self->cS,mem_iff_getElem->fZ,mem_map_of_mem->uj,mem_singleton->bJ,nil_append->jy,nodup_nil->gm,not_mem_nil->cX,push_toArray->JR,replicate->bG,size_toArray->qZ
open Nat renaming add_zero->iL,div_add_mod->hL,div_eq_of_lt->iX,div_le_self->ja,div_lt_iff_lt_mul->l1,div_lt_of_lt_mul->vM,div_one->vN,gcd->cy,le_mul_self->AV,le_of_lt->jt,le_of_not_lt->kD,le_refl->a4,le_trans->bs,lt_mul_div_succ->ZH,lt_of_le_of_lt->gB,lt_of_lt_of_le->fv,lt_of_not_le->A0,lt_succ_self->ov,lt_trans->yc,mod_add_div->pd,mod_eq_of_lt->dG,mod_le->Ph,mod_lt->bC,mul_comm->dF,mul_div_le->Pj,mul_le_mul_left->fw,mul_le_mul_right->c6,mul_lt_mul''->nE,mul_zero->iY,not_le_of_lt->ZF,one_le_two_pow->sJ,pos_of_ne_zero->kX,pow_le_pow_right->dv,pow_one->Pl,pow_succ->ej,pow_zero->nG,reduceAdd->JN,reduceSub->JO,sub_sub_self->ZG,sub_zero->Ev,succ_mul->jN,zero_le->et
open Rat renaming divInt_eq_div->x8,intCast_mul->ya,num_eq_zero->oh,num_nonneg->En,zero_mul->JT
set_option maxHeartbeats 4000000
open Go.aF Go.Proofs Go.Lib
namespace Go.Proofs.YtpcofcmencgkbaaGreat
structure uz (M V cG L k:Nat):Prop where
 hk:ae V=k+2
 wO:V<af ^ (k+2)
 B4:cG=L+(k+2)
 bo:M<af ^ cG
 hs:cG<=4194304000001
 db:M/af ^ L<V
section
variable (G:Nat->Option (List aa)) (M V cG L k s:Nat)
noncomputable abbrev BJ (c:Nat):aB->List (Nat × aa) := λ r=>[(8, .int .i64 (s:Int)),(9, .ai r.a 1 0 cG false),(10,W V),(11, .int .i64 (ae V:Int)),(12, .ai r.b 1 0 L false),(13, .int .u64 (ax V (k+1):Int)),(14, .int .u64 (ax V k:Int)),(15, .int .i64 (rF c))]
noncomputable abbrev KU (i q:Nat):aB->List (Nat × aa) := λ r=>[(8, .int .i64 (s:Int)),(9, .ai r.a 1 0 cG false),(10,W V),(11, .int .i64 (ae V:Int)),(12, .ai r.b 1 0 L false),(13, .int .u64 (ax V (k+1):Int)),(14, .int .u64 (ax V k:Int)),(15, .int .i64 (i:Int)),(17, .int .u64 (q:Int))]
noncomputable abbrev KT (i q t:Nat):aB->List (Nat × aa) := λ r=>[(8, .int .i64 (s:Int)),(9, .ai r.a 1 0 cG false),(10,W V),(11, .int .i64 (ae V:Int)),(12, .ai r.b 1 0 L false),(13, .int .u64 (ax V (k+1):Int)),(14, .int .u64 (ax V k:Int)),(15, .int .i64 (i:Int)),(17, .int .u64 (q:Int)),(18, .int .u64 (t:Int))]
abbrev qo (c:Nat):aB->List (bT × aN) := λ r=>[(r.a,⟨us (cm cG (ax (fR M V c))),1,false⟩),(r.b,⟨us (cm L (jg (M/V) c)),1,false⟩)]
variable {M V cG L k}
noncomputable def KV (H:uz M V cG L k) {i q t:Nat} (f:i<L) (b:q<af) (c:t<af) (x:Bool) (d:decide (af*t+ax (cQ M V i) k<q*ax V k)=x):List (aZ ab G) :=
 have e:=H.hk
 have g:=H.B4
 have h:=H.hs
 [hb 117 (decide_eq_false (by unfold af at b;omega):decide ((q:Int)≥4294967296)=false),hw 121 (CM q (ax V k) b (cK V k)) .u64,ho 123 (z9 t c),nV 127 i (ae V),hw 128 (show cF.wrap (((i+ae V:Nat):Int)-2)=((i+k:Nat):Int) by rw [cM];omega),fI 129 [1] cG (i+k) (by omega),j0 130 [1] cG (ax (fR M V (i+1))) (by omega) (BI M V i k),hw 131 (fp _ (cK (cQ M V i) k)) .u64,ho 132 (CZ t (ax (cQ M V i) k) c (cK _ _)),hb 133 (show decide (((q*ax V k:Nat):Int)>((af*t+ax (cQ M V i) k:Nat):Int))=x by rw [<- d,decide_eq_decide];omega)]
noncomputable def Ru {q:Nat} (b:af<=q):aZ ab G:=hb 117 (decide_eq_true (by unfold af at b;omega):decide ((q:Int)≥4294967296)=true)
noncomputable def FN {q q' t h a:Nat} (g:q=q'+1) (c:q<18446744073709551616) (f:a=t+h) (d:a<8589934592) (x:Bool) (e:decide (af<=a)=x):List (aZ ab G) :=
 [hw 136 (show de.wrap ((q:Int)-1)=(q':Int) by rw [iu];omega) .u64,hw 139 (show de.wrap ((t:Int)+(h:Int))=(a:Int) by rw [iu];omega) .u64,hb 141 (show decide ((a:Int)≥4294967296)=x by rw [<- e,decide_eq_decide];unfold af;omega)]
def ac1 (H:uz M V cG L k) (z:0<V) (i:Nat) (r:i<L) (num:Nat) (C:num=af*ax (cQ M V i) (k+2)+ax (cQ M V i) (k+1)):∃ q,q<af/\cQ M V i/V<=q/\q<=cQ M V i/V+1/\bu ab G [0] (.loop (aU (ao 303) 1)) (λ R s'=>R = .exit 3/\bz G [0] s' ⟨fr (ao 303).aK (KU V cG L k s i q aG),kd (cf (qo M V cG L (i+1) aG)),dO 0⟩) ⟨fr (ao 303).aK (KT V cG L k s i (num/ax V (k+1)) (num%ax V (k+1)) aG),bk (qo M V cG L (i+1) aG),iE 0⟩:=by
 have v:=BF M i z
 have U:0<ax V (k+1):=kX (sR H.hk)
 have p:=cK (cQ M V i) (k+2)
 have x:=cK (cQ M V i) (k+1)
 have A:=cK V (k+1)
 have m:num<18446744073709551616:=C▸Hw p x
 have y:cQ M V i<af ^ (k+3):=yc v.1 (by rw [ej,dF];exact Nat.mul_lt_mul_of_pos_right H.wO ed)
 have ⟨N,g1,g2,X,q,q1,O,Q,Z⟩:=agV (D:=cQ M V i) (V:=V) (M:=af ^ k) (num:=num) U A (cK V k) (cK (cQ M V i) k) (bC V (gj k)) (bC (cQ M V i) (gj k)) (Xm V k H.wO) (by rw [C];exact Xn _ k y) v.1 v.2 m
 have J:num/ax V (k+1)<=num:=ja _ _
 generalize LI:num/ax V (k+1)=f at *
 generalize Y:num%ax V (k+1)=o at *
 refine ⟨q,q1,O,Q, ?_⟩
 have mK:∀ j,o+(j+1)*ax V (k+1)=o+j*ax V (k+1)+ax V (k+1) := λ j=>by rw [jN];omega
 have d:∀ j,f-j<18446744073709551616 := λ j=>by omega
 have tb:∀ {a b c:Nat}, ¬ c<b->decide (c<b)=false := λ h=>decide_eq_false h
 have h4:=He (P:=ab) (G:=G) (c:=aU (ao 303) 1) (n:=(ao 303).aK) (N:=N) (w:=200) (n0:=iE 0) (E:=dO 0) (e := .exit 3) (q:=aG) (T := λ j=>KT V cG L k s i (f-j) (o+j*ax V (k+1))) (K := λ _=>qo M V cG L (i+1)) (fH:=KU V cG L k s i q) (fy:=qo M V cG L (i+1)) (eQ.start (by kernel_rfl)) (λ j u=>by
   have ⟨S,g⟩:=g2 j (jt u)
   have ⟨b1,b2⟩:=g2 (j+1) u
   have B:f-j=f-(j+1)+1:=by omega
   by_cases c:af<=f-j
   exact kv (Ru G c::FN G B (d j) (mK j) (by unfold af at b2;omega) false (decide_eq_false (ZF b2)))
   have t:=(X j u).resolve_left c
   exact kv (KV G H r (A0 c) g true (decide_eq_true t)++FN G B (d j) (mK j) (by unfold af at b2;omega) false (decide_eq_false (ZF b2))) ) (by
   have ⟨S,g⟩:=g2 N (a4 _)
   rcases Z with ⟨t,rfl⟩ | ⟨t,I,F⟩
   have c : ¬ af<=f-N := λ e=>t (.inl e)
   exact kv (KV G H r (A0 c) g false (decide_eq_false λ e=>t (.inr e)))
   have b3:o+(N+1)*ax V (k+1)<8589934592:=by rw [mK];unfold af at g A;omega
   by_cases c:af<=f-N
   exact kv (Ru G c::FN G F.symm (d N) (mK N) b3 true (decide_eq_true I))
   exact kv (KV G H r (A0 c) g true (decide_eq_true (t.resolve_left c))++FN G F.symm (d N) (mK N) b3 true (decide_eq_true I)) ) (by simp) (by unfold iE dO;unfold af at g1;omega)
 simp only [Ev,Nat.zero_mul,iL] at h4
 exact h4
noncomputable def Rv (H:uz M V cG L k) (g:0<V) {i q:Nat} (j:i<L) (h:bu ab G [0] (.loop (aU (ao 303) 1)) (λ f s'=>f = .exit 3/\bz G [0] s' ⟨fr (ao 303).aK (KU V cG L k s i q aG),kd (cf (qo M V cG L (i+1) aG)),dO 0⟩) ⟨fr (ao 303).aK (KT V cG L k s i ((af*ax (cQ M V i) (k+2)+ax (cQ M V i) (k+1))/ax V (k+1)) ((af*ax (cQ M V i) (k+2)+ax (cQ M V i) (k+1))%ax V (k+1)) aG),bk (qo M V cG L (i+1) aG),iE 0⟩):List (aZ ab G) :=
 have e:=H.hk
 have l:=H.B4
 have m:=H.hs
 have d:0<ax V (k+1):=kX (sR e)
 have a:=cK (cQ M V i) (k+2)
 have b:=cK (cQ M V i) (k+1)
 [tg 90 i,nV 96 i (ae V),fI 97 [1] cG (i+ae V) (by omega),j0 98 [1] cG (ax (fR M V (i+1))) (i:=i+ae V) (y:=ax (cQ M V i) (k+2)) (by omega) (by rw [e];exact BI M V i (k+2)),hw 99 (fp _ a) .u64,ho 100 (z9 _ a),nV 104 i (ae V),hw 105 (show cF.wrap (((i+ae V:Nat):Int)-1)=((i+(k+1):Nat):Int) by rw [cM];omega),fI 106 [1] cG (i+(k+1)) (by omega),j0 107 [1] cG (ax (fR M V (i+1))) (by omega) (BI M V i (k+1)),hw 108 (fp _ b) .u64,ho 109 (CZ _ _ a b),ho 112 (C8 (af*ax (cQ M V i) (k+2)+ax (cQ M V i) (k+1)) (ax V (k+1)) (Hw a b) (Nat.ne_of_gt d)),ho 115 (Dd (af*ax (cQ M V i) (k+2)+ax (cQ M V i) (k+1)) (ax V (k+1)) (Nat.ne_of_gt d)),Hc h,nV 146 i (ae V),hI 147 (show i+ae V<cG by omega),Ln 148 [1] cG i (i+ae V+1) (ae V+1)]
def ac3 (H:uz M V cG L k) (a:0<V) (i:Nat) (d:i<L):a2 ab G (aU (ao 303) 0) (ao 303).aK (dO 9) .normal (BJ V cG L k s (i+1)) (qo M V cG L (i+1)) (BJ V cG L k s i) (qo M V cG L i):=by
 have ⟨q,q1,D,y,x⟩:=ac1 G s H a i d _ rfl
 have t:=H.hk
 have N:=H.B4
 have J:=H.hs
 have z:=BF M i a
 have I:0<ax V (k+1):=kX (sR t)
 have A:=cK (cQ M V i) (k+2)
 have E:=cK (cQ M V i) (k+1)
 have l:af*V<=af ^ (ae V+1):=by rw [ej,dF,t];exact c6 _ (jt H.wO)
 have F:=hL (cQ M V i) V
 rw [dF] at F
 have K:=bC (cQ M V i) a
 have C:V<=af*V:=Nat.le_mul_of_pos_left _ ed
 have m:q*V<=cQ M V i+V:=by have:=c6 V y;rw [jN] at this;omega
 have B:wv cG i V q (cQ M V i+af ^ (ae V+1)-q*V) (cQ M V i) (ax (fR M V (i+1))):=⟨by omega,by omega,by omega,q1,by omega, λ j _=>BI M V i j,by omega⟩
 have b := λ p=>anm G B [1] p
 have r:=z.2
 rcases agW a D y with ⟨c,e⟩ | ⟨c,e⟩
 have n:∀ j,j<ae V+1->ax (cQ M V i+af ^ (ae V+1)-q*V+V) j=ax (cQ M V i%V) j := λ j g=>by
   rw [show cQ M V i+af ^ (ae V+1)-q*V+V=cQ M V i%V+af ^ (ae V+1)*1 by rw [e,jN];rw [e,jN] at m;omega,wi g]
 have h := λ p=>alB G (L:=cG) (o:=i) (v:=V) (u:=cQ M V i+af ^ (ae V+1)-q*V) (f:=wf (ax (fR M V (i+1))) i (cQ M V i+af ^ (ae V+1)-q*V) (ae V+1)) (by omega) (by omega) (λ j g=>by unfold wf;rw [if_pos (by omega),Nat.add_sub_cancel_left]) [1] p
 rw [sT λ j _=>KQ M i a l (λ j g=>by unfold wf;exact if_neg (by omega)) n j] at h
 rw [decide_eq_true c] at b
 exact aW aG (Rv G s H a d x++[Lm b,hw 153 (U8 e q1) .u64,nV 158 i (ae V),hI 159 (show i+ae V<cG by omega),Ln 160 [1] cG i (i+ae V+1) (ae V+1),Lm h,hw 166 (show gD.wrap ((cQ M V i/V:Nat):Int)=(ax (M/V) i:Int) by rw [pY r,KL M i a]) .u32,fI 167 [2] L i d,jh 167 [2] (f:=jg (M/V) (i+1)) (jg (M/V) i) d (Gb _),ml 92 i])
 have n:∀ j,j<ae V+1->ax (cQ M V i+af ^ (ae V+1)-q*V) j=ax (cQ M V i%V) j := λ j g=>by
   rw [show cQ M V i+af ^ (ae V+1)-q*V=cQ M V i%V+af ^ (ae V+1)*1 by rw [e];omega,wi g]
 rw [decide_eq_false (by omega : ¬ cQ M V i<q*V),sT λ j _=>KQ M i a l (λ _ _=>rfl) n j] at b
 exact aW aG (Rv G s H a d x++[Lm b,hw 166 (show gD.wrap (q:Int)=(ax (M/V) i:Int) by rw [pY q1,KL M i a,e]) .u32,fI 167 [2] L i d,jh 167 [2] (f:=jg (M/V) (i+1)) (jg (M/V) i) d (Gb _),ml 92 i])
abbrev Bu (i:Nat):bT:=[1000000000000000000000000000000000000000000000000+i,0]
def ac2 (u:∀ x,x<af->0<x->ag ab G 313 [.int .u32 ((x:Nat):Int)] (.int .i64 ((32-dL x:Nat):Int))) (m n:Nat) (i:n≠0) (U:ae m<=3774873600000) (q:n<=m) (C:2<ae m) (k:Nat) (v:ae n=k+2):ag ab G 303 [W m,W n] (.aS [W (m/n),W (m%n)]):=by
 have w:k+1<ae n:=by omega
 have ⟨S,I,lu,R,f⟩:=Us (n:=n) (k:=k+1) v (wh w)
 have N:=u _ I S
 generalize X:32-dL (ax n (k+1))=s at *
 generalize l:n*2 ^ s=V at *
 have D:=ff q
 have ⟨L,lj⟩:∃ L,ae m+1=L+(k+2):=⟨ae m+1-(k+2),by omega⟩
 have K:m*2 ^ s<af ^ (ae m+1):=by
   rw [ej]
   exact nE (eY m) (gB (dv (by decide) f) (by decide))
 have o:m*2 ^ s/af ^ L<V:=Tq (k:=k+2) (c:=L) (m:=m) (s:=s) (A:=m*2 ^ s%af ^ L) l.symm (v▸BW i) (by rw [show L+(k+2-1)=ae m by omega];exact eY m) (pd _ _).symm
 have b:0<V:=gB (et _) o
 have H:uz (m*2 ^ s) V (ae m+1) L k:=⟨R,lu,lj,K,by omega,o⟩
 have ⟨P,Q,T⟩:=Tn (m:=m) (n:=n) (s:=s) (O:=m*2 ^ s/V) (r:=m*2 ^ s%V) i (by rw [l,dF _ V];exact (hL _ _).symm) (by rw [l];exact bC _ b)
 have F:=bC (m*2 ^ s) b
 have t:ae (m*2 ^ s%V)<=4194304000000:=by rw [l] at T;omega
 have p:decide (dI m n<0)=false:=decide_eq_false (by unfold dI;rcases oG (m:Int) (n:Int) with ⟨e,h⟩ | ⟨e,h⟩ | ⟨e,h⟩<;>omega)
 have z:cm (ae m+1) (ax (fR (m*2 ^ s) V L))=cm (ae m+1) (fW m s (ae m)):=sT λ j d=>by rw [Rq o];exact (Is f (eY m) d).symm
 have B:m*2 ^ s/V<af ^ L:=vM ((l1 (gj L)).1 o)
 have J:=fp _ (cK V (k+1))
 have y:=fp _ (cK V k)
 have E:ag ab G 262 [.sl 1 (us (cm (ae (m*2 ^ s%V)) (jV (m*2 ^ s%V/2 ^ s) (ae (m*2 ^ s%V)))))] (W (m*2 ^ s%V/2 ^ s)):=by
   rw [sT (g:=ax (m*2 ^ s%V/2 ^ s)) λ j d=>Gd d]
   have:=o0 G (eP (m*2 ^ s%V/2 ^ s) (ae (m*2 ^ s%V))) (Bl _ _) (by rw [oy];omega)
   rwa [vz,dG (gB (ja _ _) (eY _))] at this
 rw [<- P, <- Q]
 exact bB [hc (KF G (m:=m) (n:=n) (Ky G) (Kz G) (by omega)),hb 23 p,bA 28 m,hb 29 (decide_eq_false (by omega):decide ((ae m:Int)<=2)=false),bA 44 n,hb 45 (show ((ae n:Int)==1)=false by simp;omega),bA 55 n,hw 56 (show cF.wrap ((ae n:Int)-1)=((k+1:Nat):Int) by rw [cM];omega),ei 57 w,hc N,dc (Wm G f (by omega:ae m<=4194304000000)),dc (Wm G f (by omega:ae n<=4194304000000)),rK (ae n+1) V (fW n s (ae n)) (λ j d=>by rw [<- l];exact Is f (eY n) d) (o0 G) (by rw [v];exact fv lu (dv ed (by omega))) (id:=[dO 0,28,0]),bA 68 V,hw 72 (show cF.wrap (((ae m+1:Nat):Int)-(ae V:Int))=(L:Int) by rw [cM];omega),Lk 73 L (m*2 ^ s/V),hw 76 (show cF.wrap ((ae V:Int)-1)=((k+1:Nat):Int) by rw [cM];omega),ei 77 (show k+1<ae V by omega),hw 79 J .u64,hw 82 (show cF.wrap ((ae V:Int)-2)=((k:Nat):Int) by rw [cM];omega),ei 83 (show k<ae V by omega),hw 85 y .u64,ml 88 L,Hf (ao 303) 0 L ⟨[dO 0,25,0],[39,0],[3],[4]⟩ (BJ V (ae m+1) L k s L ⟨[dO 0,25,0],[39,0],[3],[4]⟩) [([dO 0,25,0],⟨us (cm (ae m+1) (fW m s (ae m))),1,false⟩),([39,0],⟨us (cm L (jg (m*2 ^ s/V) L)),1,false⟩)] (λ j=>BJ V (ae m+1) L k s (L-j)) (λ j=>qo (m*2 ^ s) V (ae m+1) L (L-j)) (.exit 1) (BJ V (ae m+1) L k s 0) (qo (m*2 ^ s) V (ae m+1) L 0) (by simp only [Ev]) (by simp only [Ev,qo,z]) (λ j d=>by
   have h:=ac3 G s H b (L-(j+1)) (by omega)
   rwa [show L-(j+1)+1=L-j by omega] at h) (by simp only [Nat.sub_self];exact aW aG [] ),rK L (m*2 ^ s/V) (jg (m*2 ^ s/V) 0) (λ _ _=>if_pos (et _)) (o0 G) B (id:=Bu 1),aeC 172 (Bu 0) (ae m+1) (ae V),aeF (ae m+1) (ae V) (m*2 ^ s%V) (ax (fR (m*2 ^ s) V 0)) (λ j _=>by rw [Rr]) (by omega) (o0 G) (yc F (eY V)) (Bu 0),hc (WQ G f t),hc E]
def ac4 (i:∀ x,x<af->0<x->ag ab G 313 [.int .u32 ((x:Nat):Int)] (.int .i64 ((32-dL x:Nat):Int))) (d:∀ n,n<18446744073709551616->ag ab G 304 [W n] (.int .u64 ((n:Nat):Int))):EZ G 303 := λ m n b q r=>by
 have a:=KF G (m:=m) (n:=n) (Ky G) (Kz G) (by omega)
 by_cases l:m<n
 rw [iX l,dG l]
 refine ag.pc aY [hc a,hb 23 (decide_eq_true (by unfold dI;rw [uT (by omega)];decide):decide (dI m n<0)=true),hc (QQ G m (by omega))] [] (.aS [.aq,W m]) (by kernel_rfl) rfl (bg.fix _) gm λ σ _=>vO (cp ?_ (cp (jw (uH m)) iv))
 rw [W,iO];exact fi 1
 have f:decide (dI m n<0)=false:=decide_eq_false (by unfold dI;rcases oG (m:Int) (n:Int) with ⟨e,h⟩ | ⟨e,h⟩ | ⟨e,h⟩<;>omega)
 by_cases h1:ae m<=2
 have pX:=CA h1
 have u2:n<18446744073709551616:=by omega
 exact bB [hc a,hb 23 f,bA 28 m,hb 29 (decide_eq_true (by omega):decide ((ae m:Int)<=2)=true),hc (d m pX),hc (d n u2),ho 36 (C8 m n pX b),hc (Ga G (m/n) (gB (ja _ _) pX)),ho 40 (Dd m n b),hc (Ga G (m%n) (gB (Ph _ _) pX))]
 have p:0<ae n:=by have := @gL n;omega
 by_cases o:ae n=1
 have j:=eY n
 rw [o] at j
 have e:ax n 0=n:=by rw [Bk j,nG,vN]
 have h:=ac6 G (m:=m) (w:=n) (o0 G) (Ga G) (by omega) (by simpa using j) (by omega)
 have g:fY 1 (W n) (.int .i64 ((0:Nat):Int))=some (.c2 [Ar n] 0):=by have:=Ff (wh p);rw [e] at this;exact this
 exact bB [hc a,hb 23 f,bA 28 m,hb 29 (decide_eq_false (by omega):decide ((ae m:Int)<=2)=false),bA 44 n,hb 45 (show ((ae n:Int)==1)=true by rw [o];rfl),ho 48 g,hc h]
 exact ac2 G i m n b q (by omega) (by omega) (ae n-2) (by omega)
end
section
variable (G:Nat->Option (List aa))
noncomputable abbrev L6 (n x j:Nat):aB->List (Nat × aa) := λ _=>[(0,W n),(3, .int .i64 (j:Int)),(4, .int .u32 ((x/2 ^ j:Nat):Int))]
def Tw (n k:Nat) (g:ae n=k+1) (f:k<=4194304000000):ag ab G 255 [W n] (.int .i64 ((32*k+dL (ax n k):Nat):Int)):=by
 have c:=kX (sR g)
 have a:=cK n k
 generalize d:ax n k=x at *
 have ⟨b1,b2⟩:=wA a c
 have b3:=Fw a c
 exact bB [bA 6 n,hb 7 (show ((ae n:Int)==0)=false by simp;omega),bA 10 n,hw 11 (show cF.wrap ((ae n:Int)-1)=(k:Int) by rw [cM];omega),ho 12 (d▸Ff (wh (by omega:k<ae n))),tD (ao 255) 0 0 (dL x) (aB.o 0) [(0,W n),(3, .int .i64 0),(4, .int .u32 (x:Int))] [] (L6 n x) (λ _ _=>[]) (.exit 0) (L6 n x (dL x)) (λ _=>[]) (by simp only [L6,nG,vN];rfl) rfl (λ j e=>by
   have h:0<x/2 ^ j:=Nat.div_pos (by have:=dv (n:=2) (by decide) (show j+1<=dL x by omega);rw [ej] at this;omega) (Nat.two_pow_pos j)
   have q:=akO (x/2 ^ j) (gB (ja _ _) a)
   rw [Nat.div_div_eq_div_mul, <- ej] at q
   exact aW aG [hb 15 (decide_eq_true (by omega):decide (((x/2 ^ j:Nat):Int)>0)=true),hI 19 e ,ho 17 q] ) (aW aG [hb 15 (decide_eq_false (by rw [iX b1];decide):decide (((x/2 ^ dL x:Nat):Int)>0)=false)] ),bA 21 n,hw 22 (show cF.wrap ((ae n:Int)-1)=(k:Int) by rw [cM];omega),hw 23 (show cF.wrap (32*(k:Int))=((32*k:Nat):Int) by rw [cM];omega),hw 25 (Bs (32*k) (dL x) (by omega))]
variable {L o n D:Nat} {f:Nat->Nat}
abbrev toF (o j:Nat):aB->List (Nat × aa) := λ r=>[(0, .ai r.a 1 o j false)]
def toV (H:mZ L o n D f) (id p:bT):cu ab G 223 [.ai id 1 o n false] p [(id,⟨us (cm L f),1,false⟩)] { val := .ai id 1 o (ae D) false,rd:=[id],up:=[] }:=by
 have hw:=H.wl
 have g1:=H.lj
 have g2:=H.Sa
 have rd:∀ i,i<n-ae D->qf ab G (aU (ao 223) 0) (ao 223).aK 200 .normal (toF o (n-i)) (dk L f) (toF o (n-(i+1))) (dk L f) := λ i k=>by
   have ⟨j,g⟩:∃ j,n-i=j+1:=⟨n-i-1,by omega⟩
   rw [g,show n-(i+1)=j by omega]
   have e:f (o+j)=0:=by rw [H.gf j (by omega)];exact qa (by omega)
   exact kv [hb 5 (decide_eq_true (by omega):decide (((j+1:Nat):Int)>0)=true),y2 10 j,lO 11 [1] o (j+1) j false (by omega),j0 12 [1] L f (by omega) e,y2 18 j,aeE 19 [1] o (j+1) j]
 have d:qf ab G (aU (ao 223) 0) (ao 223).aK 200 (.exit 0) (toF o (ae D)) (dk L f) (toF o (ae D)) (dk L f):=by
   rcases h:ae D with _ | q
   exact kv []
   have e:=H.gf q (by omega)
   have c:((ax D q:Int)==0)=false:=by simpa using sR h
   exact kv [hb 5 (decide_eq_true (by omega):decide (((q+1:Nat):Int)>0)=true),y2 10 q,lO 11 [1] o (q+1) q false (by omega),j0 12 [1] L f (by omega) e,hb 13 c]
 exact JL aY [Hd (ao 223) 0 0 (n-ae D) aG (toF o n aG) (dk L f aG) (λ i=>toF o (n-i)) (λ _=>dk L f) (.exit 0) (toF o (ae D)) (dk L f) rfl rfl rd (by rw [ZG hw];exact d)  ] (λ r=>[.ai r.a 1 o n false]) (λ r => .ai r.a 1 o (ae D) false) (dk L f) (λ _=>[]) (by kernel_rfl) ⟨id,[2],[3],[4]⟩ p (by simp) (by simp)
noncomputable abbrev CH (o l D n i c:Nat):aB->List (Nat × aa) := λ r=>[(0, .ai r.a 1 o l false),(1,W n),(5, .ai r.b 1 0 l false),(6, .int .u64 (c:Int)),(7, .int .i64 (i:Int))]
abbrev DY (L l s:Nat) (f:Nat->Nat) (i:Nat):aB->List (bT × aN) := λ r=>[(r.a,⟨us (cm L f),1,false⟩),(r.b,⟨us (cm l (jV s i)),1,false⟩)]
variable {l m:Nat}
def ao2 (H:mZ L o l D f) (h:m<=D) (k:l<=4194304000001) (i:Nat) (a:i<l):qf ab G (aU (ao 222) 0) (ao 222).aK 200 .normal (CH o l D m i (cP (D-m) m i)) (DY L l (D-m) f i) (CH o l D m (i+1) (cP (D-m) m (i+1))) (DY L l (D-m) f (i+1)):=by
 have g1:=H.lj
 have e:=H.gf i a
 have ⟨c,d,g⟩:=Vx (KN h i) (cK D i) (cK m i) (cK (D-m) i) (rE (D-m) m i) (rE (D-m) m (i+1))
 by_cases b:i<ae m
 exact kv [gQ 16 a,bA 21 m,gQ 22 b,ei 25 b,lO 30 [1] o l i false a,j0 31 [1] L f (by omega) e,hw 37 c .u64,hw 41 d .u32,fI 42 [2] _ i a,oK 42 (D-m) a [2],ho 44 (np (ax D i+af-ax m i-cP (D-m) m i)),hw 45 g .u64,hI 18 a]
 have z:=qa (kD b)
 rw [z] at c d g
 exact kv [gQ 16 a,bA 21 m,iP 22 (kD b),lO 30 [1] o l i false a,j0 31 [1] L f (by omega) e,hw 37 c .u64,hw 41 d .u32,fI 42 [2] _ i a,oK 42 (D-m) a [2],ho 44 (np (ax D i+af-0-cP (D-m) m i)),hw 45 g .u64,hI 18 a]
def aii (H:mZ L o l D f) (h:m<=D) (c:l<=4194304000001) (id p:bT):cu ab G 222 [.ai id 1 o l false,W m] p [(id,⟨us (cm L f),1,false⟩)] { val:=W (D-m),rd:=[id],up:=[] } :=
 JL aY [y1 12 l (D-m),Hd (ao 222) 0 0 l ⟨[1],[3,0],[3],[4]⟩ (CH o l D m 0 0 ⟨[1],[3,0],[3],[4]⟩) (DY L l (D-m) f 0 ⟨[1],[3,0],[3],[4]⟩) (λ i=>CH o l D m i (cP (D-m) m i)) (DY L l (D-m) f) (.exit 0) (CH o l D m l (cP (D-m) m l)) (DY L l (D-m) f l) (by simp only [yM]) rfl (ao2 G H h c) (kv [iP 16 (a4 l)] ),rK l (D-m) (jV (D-m) l) (λ _=>Gd) (o5 G) (gB (Nat.sub_le _ _) H.Lh) (id:=[3,0])] (λ r=>[.ai r.a 1 o l false,W m]) (λ _=>W (D-m)) (dk L f) (λ _=>[]) (by kernel_rfl) ⟨id,[2],[3],[4]⟩ p (by simp) (by simp)
end
section
variable (G:Nat->Option (List aa)) {L o D V k:Nat} {f:Nat->Nat}
noncomputable abbrev FJ (o V q:Nat):aB->List (Nat × aa) := λ r=>[(0, .ai r.a 1 o (ae V+1) false),(1,W V),(7, .int .u64 (q:Int)),(8,W (V*q))]
noncomputable def Ra (H:mZ L o (ae V+1) D f) (a:ae D<=4194304000000) (q:Nat) (x:Bool) (c:decide (D<V*q)=x):List (aZ ab G) :=
 [Gq (toV G H [1]),aer [([1],⟨us (cm L f),1,false⟩)] (H4 G (m:=D) (n:=V*q) a) (cp (H.short.view [1]) (cp (jw (uH (V*q))) iv)) (sS.int _ _),hb 42 (show decide (dI D (V*q)<0)=x by rw [<- c,decide_eq_decide];unfold dI;rcases oG (D:Int) ((V*q:Nat):Int) with ⟨e,h⟩ | ⟨e,h⟩ | ⟨e,h⟩<;>omega)]
def Rb (H:mZ L o (ae V+1) D f) (v:0<V) (h:∀ q,q<af->ae (V*q)<=4194304000000) (a:ae D<=4194304000000) {q1 Q:Nat} (d:q1<af) (t:Q<=q1) (g:V*Q<=D) (i:D<V*(Q+1)):bu ab G [0] (.loop (aU (ao 257) 0)) (λ r s'=>r = .exit 0/\bz G [0] s' ⟨fr (ao 257).aK (FJ o V Q aG),kd (cf (dk L f aG)),dO 0⟩) ⟨fr (ao 257).aK (FJ o V q1 aG),bk (dk L f aG),iE 0⟩:=by
 have h4:=He (P:=ab) (G:=G) (c:=aU (ao 257) 0) (n:=(ao 257).aK) (N:=q1-Q) (w:=200) (n0:=iE 0) (E:=dO 0) (e := .exit 0) (q:=aG) (T := λ j=>FJ o V (q1-j)) (K := λ _=>dk L f) (fH:=FJ o V Q) (fy:=dk L f) (eQ.start (by kernel_rfl)) (λ j x=>by
   have p:q1-j=q1-(j+1)+1:=by omega
   have u:D<V*(q1-j):=fv i (fw _ (by omega))
   have l:=VT G (o5 G) (m:=V*(q1-j)) (n:=V) (Nat.le_mul_of_pos_right _ (by omega)) (h _ (by omega))
   rw [show V*(q1-j)-V=V*(q1-(j+1)) by rw [p,Nat.mul_succ,Nat.add_sub_cancel]] at l
   exact kv (Ra G H a (q1-j) true (decide_eq_true u)++[hw 44 (U8 p (by omega)) .u64,hc l]) ) (by
   rw [ZG t]
   exact kv (Ra G H a Q false (decide_eq_false (Nat.not_lt_of_le g))) ) (by simp) (by unfold iE dO;unfold af at d;omega)
 exact h4
noncomputable def Rc (H:mZ L o (ae V+1) D f) (c:ae V=k+2) (h:k+3<=4194304000000) (e:0<V):List (aZ ab G) :=
 have g1:=H.lj
 have a:=cK D (k+2)
 have b:=cK D (k+1)
 have g:=cK V (k+1)
 [bA 10 V,lO 13 [1] o (ae V+1) (ae V) false (by omega),j0 14 [1] L f (i:=o+ae V) (y:=ax D (k+2)) (by omega) (by rw [H.gf _ (by omega),c]),hw 15 (fp _ a) .u64,ho 16 (z9 _ a),hw 19 (show cF.wrap ((ae V:Int)-1)=((k+1:Nat):Int) by rw [cM];omega),lO 20 [1] o (ae V+1) (k+1) false (by omega),j0 21 [1] L f (i:=o+(k+1)) (by omega) (H.gf _ (by omega)),hw 22 (fp _ b) .u64,ho 23 (CZ _ _ a b),hw 26 (show cF.wrap ((ae V:Int)-1)=((k+1:Nat):Int) by rw [cM];omega),ei 27 (show k+1<ae V by omega),hw 29 (fp _ g) .u64,ho 30 (C8 (af*ax D (k+2)+ax D (k+1)) (ax V (k+1)) (Hw a b) (sR c))]
def acP (H:mZ L o (ae V+1) D f) (s:ae V=k+2) (z:V<af ^ (k+2)) (n:k+3<=4194304000000) (b:0<V) (C:D<af*V) (d:D/V<af) (id p:bT):cu ab G 257 [.ai id 1 o (ae V+1) false,W V] p [(id,⟨us (cm L f),1,false⟩)] { val := .aS [.int .u32 ((D/V:Nat):Int),W (V*(D/V))],rd:=[id],up:=[] }:=by
 have v:=cK D (k+2)
 have u:=cK D (k+1)
 have B:=Hw v u
 have t:∀ q,q<af->V*q<af ^ (k+3) := λ q h=>by rw [ej];exact nE z h
 have m:D<af ^ (k+3):=by have:=H.Lh;rwa [s] at this
 have F:=aly (num:=af*ax D (k+2)+ax D (k+1)) (h:=ax V (k+1)) (V:=V) (D:=D) (x0:=ax D k) (M:=af ^ k) (u':=D%af ^ k) (l:=ax V k) (v':=V%af ^ k) (kX (sR s)) (Xm V k z) (Xn D k m) (cK D k) (bC _ (gj k)) d
 have j:∀ q,q<af->ae (V*q)<=4194304000000 := λ q h=>bs (iV (t q h)) n
 have i:ae D<=4194304000000:=bs (iV m) n
 have y:∀ q,q<af->ag ab G 225 [W V, .sl 1 (us [q])] (W (V*q)) := λ q h=>by
   have:=VZ G V [q] (λ w hw=>by rw [bJ.1 hw];exact h) (by omega) (by simp)
   simpa [val] using this
 by_cases c:4294967295<(af*ax D (k+2)+ax D (k+1))/ax V (k+1)
 have E:D/V<=4294967295:=by unfold af at d;omega
 have x:=Rb G H b j i (q1:=4294967295) (by unfold af;omega) E (Pj D V) (ZH D b)
 exact JL aY (Rc G H s n b++[hb 32 (decide_eq_true (by omega):decide ((((af*ax D (k+2)+ax D (k+1))/ax V (k+1):Nat):Int)>4294967295)=true),pH [32,0] 1 (us [4294967295]) 1 rfl (A:=[W V]) (y 4294967295 (by unfold af;omega)),Hc x,hw 49 (pY d) .u32]) (λ r=>[.ai r.a 1 o (ae V+1) false,W V]) (λ _ => .aS [.int .u32 ((D/V:Nat):Int),W (V*(D/V))]) (dk L f) (λ _=>[]) (by kernel_rfl) ⟨id,[2],[3],[4]⟩ p (by simp) (by simp)
 have e:(af*ax D (k+2)+ax D (k+1))/ax V (k+1)<af:=by unfold af at c ⊢;omega
 have x:=Rb G H b j i e (bs F (Nat.min_le_left _ _)) (Pj D V) (ZH D b)
 exact JL aY (Rc G H s n b++[hb 32 (decide_eq_false (by omega):decide ((((af*ax D (k+2)+ax D (k+1))/ax V (k+1):Nat):Int)>4294967295)=false),hw 35 (pY e) .u32,pH [31,0] 1 (us [(af*ax D (k+2)+ax D (k+1))/ax V (k+1)]) 1 rfl (A:=[W V]) (y _ e),Hc x,hw 49 (pY d) .u32]) (λ r=>[.ai r.a 1 o (ae V+1) false,W V]) (λ _ => .aS [.int .u32 ((D/V:Nat):Int),W (V*(D/V))]) (dk L f) (λ _=>[]) (by kernel_rfl) ⟨id,[2],[3],[4]⟩ p (by simp) (by simp)
end
section
variable (G:Nat->Option (List aa)) (M V cG L iW k s:Nat)
noncomputable abbrev Dc (c:Nat):aB->List (Nat × aa) := λ r=>[(10, .int .i64 (s:Int)),(11, .ai r.a 1 0 cG false),(12,W V),(13, .ai r.b 1 0 iW false),(14, .int .i64 (rF c))]
noncomputable abbrev H5 (i R j:Nat):aB->List (Nat × aa) := λ r=>[(10, .int .i64 (s:Int)),(11, .ai r.a 1 0 cG false),(12,W V),(13, .ai r.b 1 0 iW false),(14, .int .i64 (i:Int)),(15, .ai r.a 1 i (ae V+1) false),(18,W R),(19, .int .i64 (j:Int))]
abbrev zX (c:Nat):aB->List (bT × aN) := λ r=>[(r.a,⟨us (cm cG (ax (fR M V c))),1,false⟩),(r.b,⟨us (cm iW (jg (M/V) c)),1,false⟩)]
abbrev zW (i R j:Nat):aB->List (bT × aN) := λ r=>[(r.a,⟨us (cm cG (wf (ax (fR M V (i+1))) i R j)),1,false⟩),(r.b,⟨us (cm iW (jg (M/V) i)),1,false⟩)]
variable {M V cG L iW k}
def ao6 (H:uz M V cG L k) (e:cG=iW+1) (R i:Nat) (l:i<L) (j:Nat) (a:j<ae V+1):qf ab G (aU (ao 224) 1) (ao 224).aK 200 .normal (H5 V cG iW s i R j) (zW M V cG iW i R j) (H5 V cG iW s i R (j+1)) (zW M V cG iW i R (j+1)):=by
 have m:=H.hk
 have g:=H.B4
 have h:=H.hs
 have b:i+j<cG:=by omega
 by_cases c:j<ae R
 exact kv [gQ 105 a,lO 110 [1] i (ae V+1) j false a,jh 110 [1] (f:=wf (ax (fR M V (i+1))) i R j) (v:=0) (λ x=>if x=i+j then 0 else wf (ax (fR M V (i+1))) i R j x) b (λ x _=>rfl),bA 113 R,gQ 114 c,ei 119 c,lO 121 [1] i (ae V+1) j false a,jh 121 [1] (f := λ x=>if x=i+j then 0 else wf (ax (fR M V (i+1))) i R j x) (v:=ax R j) (wf (ax (fR M V (i+1))) i R (j+1)) b (λ x _=>by rw [Au];exact Vg x),hI 107 a ]
 have z:=qa (kD c)
 exact kv [gQ 105 a,lO 110 [1] i (ae V+1) j false a,jh 110 [1] (f:=wf (ax (fR M V (i+1))) i R j) (v:=0) (wf (ax (fR M V (i+1))) i R (j+1)) b (λ x _=>by rw [Au,z]),bA 113 R,iP 114 (kD c),hI 107 a ]
def alw (H:uz M V cG L k) (t:cG=iW+1) (o:k+3<=4194304000000) (x:L<=iW) (d:0<V) (i:Nat) (z:i<L):a2 ab G (aU (ao 224) 0) (ao 224).aK (dO 9) .normal (Dc V cG iW s (i+1)) (zX M V cG iW (i+1)) (Dc V cG iW s i) (zX M V cG iW i):=by
 have u:=H.hk
 have B:=H.B4
 have A:=H.hs
 have l:=BF M i d
 have h:af*V<=af ^ (ae V+1):=by rw [ej,dF,u];exact c6 _ (jt H.wO)
 have S:mZ cG i (ae V+1) (cQ M V i) (ax (fR M V (i+1))):=⟨by omega,by omega,fv l.1 h, λ j _=>BI M V i j⟩
 have dg := λ p=>acP G S u H.wO o d l.1 l.2 [1] p
 have m := λ p=>aii G S.short (Pj (cQ M V i) V) (bs S.wl (by omega)) [1] p
 rw [show cQ M V i-V*(cQ M V i/V)=cQ M V i%V by have:=hL (cQ M V i) V;omega] at m
 rw [<- KL M i d] at dg m
 have y:cm cG (wf (ax (fR M V (i+1))) i (cQ M V i%V) (ae V+1))=cm cG (ax (fR M V i)):=sT λ j _=>KQ M i d h (λ _ _=>rfl) (λ _ _=>rfl) j
 have v:=He (P:=ab) (G:=G) (c:=aU (ao 224) 1) (n:=(ao 224).aK) (N:=ae V+1) (w:=200) (n0:=iE 0) (E:=dO 0) (e := .exit 2) (q:=aG) (T:=H5 V cG iW s i (cQ M V i%V)) (K:=zW M V cG iW i (cQ M V i%V)) (fH:=H5 V cG iW s i (cQ M V i%V) (ae V+1)) (fy:=zX M V cG iW i) (eQ.start (by kernel_rfl)) (ao6 G s H t _ i z) (by
   unfold zW
   rw [y]
   exact kv [iP 105 (a4 (ae V+1))] ) (by simp) (by unfold iE dO;omega)
 rw [show zW M V cG iW i (cQ M V i%V) 0 = λ r=>[(r.a,⟨us (cm cG (ax (fR M V (i+1)))),1,false⟩),(r.b,⟨us (cm iW (jg (M/V) i)),1,false⟩)] by funext r;unfold zW;rw [OK]] at v
 exact aW aG [tg 77 i,bA 84 V,nV 85 i (ae V),hI 86 (show i+ae V<cG by omega),Ln 87 [1] cG i (i+ae V+1) (ae V+1),Gq dg,fI 97 [2] iW i (by omega),jh 97 [2] (f:=jg (M/V) (i+1)) (jg (M/V) i) (by omega:i<iW) (Gb _),Gq (toV G S [1]),Gq m,Hc v,ml 79 i]
def ahp {N:Nat} (h:N<=4194304000000):cF.wrap (32*(N:Int))=((32*N:Nat):Int):=by rw [cM];omega
def ahq {N k b s:Nat} (h:N<=4194304000000) (aY:N=k+2) (h1:1<=b) (a:b<=32) (c:32-b=s):cF.wrap (((32*N:Nat):Int)-((32*(k+1)+b:Nat):Int))=(s:Int):=by rw [cM];omega
def ahr {a b L:Nat} (h:a+1=L+b) (c:a<=4194304000000) (h3:b<=a):cF.wrap ((a:Int)-(b:Int))=rF L:=by rw [cM,Rk];omega
def alv (m n:Nat) (l:n≠0) (X:ae m<=3774873600000) (g:n<=m) (E:2<ae m) (k:Nat) (o:ae n=k+2):ag ab G 224 [W m,W n] (.aS [W (m/n),W (m%n)]):=by
 have I:k+1<ae n:=by omega
 have ⟨R,P,lu,w,d⟩:=Us (n:=n) (k:=k+1) o (wh I)
 have z:=ff g
 have C:=Fw P R
 have Q:=Tw G n (k+1) o (by omega)
 have ⟨s,y⟩:∃ s,32-dL (ax n (k+1))=s:=⟨_,rfl⟩
 rw [y] at lu w d
 generalize p:n*2 ^ s=V at *
 have F:=ff g
 have ⟨L,lj⟩:∃ L,ae m+1=L+(k+2):=⟨ae m+1-(k+2),by omega⟩
 have x:m*2 ^ s<af ^ (ae m+1):=by
   rw [ej]
   exact nE (eY m) (gB (dv (by decide) d) (by decide))
 have q:m*2 ^ s/af ^ L<V:=Tq (k:=k+2) (c:=L) (m:=m) (s:=s) (A:=m*2 ^ s%af ^ L) p.symm (o▸BW l) (by rw [show L+(k+2-1)=ae m by omega];exact eY m) (pd _ _).symm
 have f:0<V:=gB (et _) q
 have H:uz (m*2 ^ s) V (ae m+1) L k:=⟨w,lu,lj,x,by omega,q⟩
 have ⟨T,S,K⟩:=Tn (m:=m) (n:=n) (s:=s) (O:=m*2 ^ s/V) (r:=m*2 ^ s%V) l (by rw [p,dF _ V];exact (hL _ _).symm) (by rw [p];exact bC _ f)
 have U:=bC (m*2 ^ s) f
 have u:ae (m*2 ^ s%V)<=4194304000000:=by rw [p] at K;omega
 have v:decide (dI m n<0)=false:=decide_eq_false (by unfold dI;rcases oG (m:Int) (n:Int) with ⟨e,h⟩ | ⟨e,h⟩ | ⟨e,h⟩<;>omega)
 have J:cm (ae m+1) (ax (fR (m*2 ^ s) V L))=cm (ae m+1) (fW m s (ae m)):=sT λ j t=>by rw [Rq q];exact (Is d (eY m) t).symm
 have D:m*2 ^ s/V<af ^ L:=vM ((l1 (gj L)).1 q)
 have i:L<=ae m:=by omega
 have au:=abq G (o5 G) (m:=m*2 ^ s%V) d u
 rw [S] at au
 rw [<- T]
 exact bB [hc (H4 G (m:=m) (n:=n) (by omega)),hb 23 v,bA 26 m,hb 27 (decide_eq_false (by omega):decide ((ae m:Int)<=2)=false),bA 41 n,hb 42 (show ((ae n:Int)==1)=false by simp;omega),bA 56 n,hw 57 (ahp (N:=ae n) (by omega)),hc Q,hw 60 (ahq (by omega) o C.1 C.2 y),dc (Wd G d (by omega:ae m<=4194304000000)),dc (Wd G d (by omega:ae n<=4194304000000)),rK (ae n+1) V (fW n s (ae n)) (λ j t=>by rw [<- p];exact Is d (eY n) t) (o5 G) (by rw [o];exact fv lu (dv ed (by omega))) (id:=[dO 0,24,0]),bA 69 m,wN 70 (ae m) (jg (m*2 ^ s/V) L) (λ j _=>by unfold jg;split;exact uy (fv D (dv ed (by assumption)));rfl),bA 72 m,bA 74 V,hw 75 (ahr (a:=ae m) (b:=ae V) (L:=L) (by rw [w];exact lj) (by omega) (by omega)),Hf (ao 224) 0 L ⟨[dO 0,21,0],[30,0],[3],[4]⟩ (Dc V (ae m+1) (ae m) s L ⟨[dO 0,21,0],[30,0],[3],[4]⟩) [([dO 0,21,0],⟨us (cm (ae m+1) (fW m s (ae m))),1,false⟩),([30,0],⟨us (cm (ae m) (jg (m*2 ^ s/V) L)),1,false⟩)] (λ j=>Dc V (ae m+1) (ae m) s (L-j)) (λ j=>zX (m*2 ^ s) V (ae m+1) (ae m) (L-j)) (.exit 0) (Dc V (ae m+1) (ae m) s 0) (zX (m*2 ^ s) V (ae m+1) (ae m) 0) (by simp only [Ev]) (by simp only [Ev,zX,J]) (λ j t=>by
   have h:=alw G s H rfl (by omega) i f (L-(j+1)) (by omega)
   rwa [show L-(j+1)+1=L-j by omega] at h) (by simp only [Nat.sub_self];exact aW aG [] ),rK (ae m) (m*2 ^ s/V) (jg (m*2 ^ s/V) 0) (λ _ _=>if_pos (et _)) (o5 G) (fv D (dv ed i)) (id:=Bu 1),rK (ae m+1) (m*2 ^ s%V) (ax (fR (m*2 ^ s) V 0)) (λ j _=>by rw [Rr]) (o5 G) (gB (Ph _ _) x) (id:=Bu 0),hc au]
def alx:EZ G 224 := λ m n c l q=>by
 have a:=H4 G (m:=m) (n:=n) (by omega)
 by_cases i:m<n
 rw [iX i,dG i]
 refine ag.pc aY [hc a,hb 23 (decide_eq_true (by unfold dI;rw [uT (by omega)];decide):decide (dI m n<0)=true)] [] (.aS [.aq,W m]) (by kernel_rfl) rfl (bg.fix _) gm λ σ _=>vO (cp ?_ (cp (jw (uH m)) iv))
 rw [W,iO];exact fi 1
 have d:decide (dI m n<0)=false:=decide_eq_false (by unfold dI;rcases oG (m:Int) (n:Int) with ⟨e,h⟩ | ⟨e,h⟩ | ⟨e,h⟩<;>omega)
 by_cases h1:ae m<=2
 have pX:=CA h1
 have u2:n<18446744073709551616:=by omega
 exact bB [hc a,hb 23 d,bA 26 m,hb 27 (decide_eq_true (by omega):decide ((ae m:Int)<=2)=true),hc (Wv G pX),hc (Wv G u2),ho 34 (C8 m n pX c),hc (Ji G (m/n) (gB (ja _ _) pX)),ho 38 (Dd m n c),hc (Ji G (m%n) (gB (Ph _ _) pX))]
 have p:0<ae n:=by have := @gL n;omega
 by_cases j:ae n=1
 have f:=eY n
 rw [j] at f
 have b:n<af:=by simpa using f
 have e:ax n 0=n:=by rw [Bk f,nG,vN]
 have h:=abz G (m:=m) (w:=n) (o5 G) (by omega) b (by omega)
 have o:=bC m (show 0<n by omega)
 have g:fY 1 (W n) (.int .i64 ((0:Nat):Int))=some (.c2 [Ar n] 0):=by have:=Ff (wh p);rw [e] at this;exact this
 exact bB [hc a,hb 23 d,bA 26 m,hb 27 (decide_eq_false (by omega):decide ((ae m:Int)<=2)=false),bA 41 n,hb 42 (show ((ae n:Int)==1)=true by rw [j];rfl),ho 46 g,hc h,hw 53 (fp (m%n) (yc o b)) .u64,hc (Ji G (m%n) (by unfold af at b;omega))]
 exact alv G m n c l (by omega) (by omega) (ae n-2) (by omega)
end
end Go.Proofs.YtpcofcmencgkbaaGreat
namespace Go.Proofs
section
open Go.RowKit Go.Shelf
attribute [local go_sem] Oper.semAt_some
def Tryz.upto {α : Type} (f:Nat -> α) (k:Nat):List α := (List.range k).map f
def Tryz.XG {α : Type} (f:Nat -> α) (k:Nat):Tryz.upto f (k+1)=Tryz.upto f k++[f k]:=by simp [Tryz.upto,List.range_succ]
def Tryz.anN {α : Type} (f:Nat -> α) (k:Nat):(Tryz.upto f k).length=k:=by simp [Tryz.upto]
def Tryz.rB (zs:List Int) (k:Nat):Int × Int:=((zs.length:Int)-1-k,zs[zs.length-1-k]?.getD 0)
def Tryz.rq (c a:Nat) (A B:World):Prop:=Below c A B/\B.cell? ⟨a,0,none⟩=A.cell? ⟨a,0,none⟩
def Tryz.rq.refl (c b:Nat) (A:World):Tryz.rq c b A A:=⟨Below.refl _ _,rfl⟩
def Tryz.rq.trans {c b:Nat} {A B C:World} (h:Tryz.rq c b A B) (k:Tryz.rq c b B C):Tryz.rq c b A C:=⟨h.1.trans k.1,k.2.trans h.2⟩
set_option maxRecDepth 100000 in
set_option maxHeartbeats 2000000 in
theorem Tryz.abw (F:Fence) (n:Nat) (yZ:F.fn 323) (rN:F.round=none) (hn:1<=n) (l we MO b off cap:Nat) (zs:List Int) (SI:zs.length*8<=140737488351232) (hb:b<MO) (J PW:List (Int × Int)->World->Prop)
   (Su:∀ pre x W,J pre W->pre.length<zs.length->YieldAt F (n-1) ab l #[.int .i64 x.1, .int .u32 x.2] W fun e W' =>
     (e = .returned (.bool true)/\J (pre++[x]) W'/\Tryz.rq MO we W W') \/ (e = .returned (.bool false)/\PW (pre++[x]) W'))
   (W:World) (aeo:W.cell? ⟨we,0,none⟩=some (.slice (some ⟨b,off,none⟩) zs.length cap)) (hc:∀ j,j<zs.length->W.cell? ⟨b,off+j,none⟩=some (.int .u32 (zs[j]?.getD 0))) (h0:J [] W) :
   CallsIn F n ab 323 #[.func (.yield l) #[] #[], .pointer (some ⟨we,0,none⟩)] W fun e W'=>(∃ v,e = .returned v) /\
     ((∃ ys,ys=Tryz.upto (Tryz.rB zs) zs.length/\J ys W') \/ (∃ pre,(∃ k,k<=zs.length/\pre=Tryz.upto (Tryz.rB zs) k)/\PW pre W')):=by
 refine callsIn_of_wp Pk rfl yZ ?_ rN
 simp only [ZI,qZ,e6,jB,JN,JO,JP,JQ,JR,JS,jy,sC]
 gi_wp2
 gi_loopw [3] (fun i wr=>∃ k:Nat,k<=zs.length/\i = .int .i64 ((zs.length:Int)-1-k)/\J (Tryz.upto (Tryz.rB zs) k) wr/\Tryz.rq MO we W wr)
   (fun i _=>(ZJ i+1).toNat)
 case atStart=>exact ⟨0,et _,by simp,h0,Tryz.rq.refl _ _ _⟩
 case round =>
   obtain ⟨k,hk,rfl,Gn,LG⟩:=hrel
   have aqO:=LG.2.trans aeo
   have Sx:∀ j,j<zs.length->wr.cell? ⟨b,off+j,none⟩=some (.int .u32 (zs[j]?.getD 0)):=fun j h=>(LG.1.cell (p:=⟨b,off+j,none⟩) hb).trans (hc j h)
   by_cases hlt:k<zs.length
   . obtain ⟨q,hq⟩:∃ q,q=zs.length-1-k:=⟨_,rfl⟩
     have LJ:(zs.length:Int)-1-k=q:=by omega
     have afB:q<zs.length:=by omega
     have Ls:Hid (Tryz.rB zs k=((q:Int),zs[q]?.getD 0)):=by show Tryz.rB zs k=_;rw [Tryz.rB, <- hq,LJ]
     have afA:Hid (q+1+k=zs.length):=by show q+1+k=zs.length;omega
     clear hq
     have aeX:=Sx q afB
     generalize zs[q]?.getD 0=aqx at Ls aeX
     obtain ⟨fn,tmps,assign,body,hy,db⟩:=Su _ ((q:Int),aqx) wr Gn (by rw [Tryz.anN];exact hlt)
     dsimp only at hy
     rw [LJ]
     clear LJ Su h0 hc Sx
     gi_wp2
     refine db.mono ?_
     rintro e aqH (⟨rfl,aeu,afe⟩ | ⟨rfl,aev⟩)
     . gi_wp2
       go_roundw
       case rel=>exact ⟨k+1,by omega,by have:=afA.out;congr 1;omega,by rw [Tryz.XG,Ls.out];exact aeu,LG.trans afe⟩
       case measure=>simp [ZJ]
     . gi_wp2
       refine bodyPost_ret (results_none rfl _ _ _) rfl ?_
       exact ⟨⟨_,rfl⟩, .inr ⟨_,⟨k+1,by omega,by rw [Tryz.XG,Ls.out]⟩,aev⟩⟩
   . obtain rfl:k=zs.length:=by omega
     have afs:(zs.length:Int)-1-zs.length = -1:=by omega
     rw [afs]
     gi_wp2
     go_end0
     exact ⟨⟨_,rfl⟩, .inl ⟨_,rfl,Gn⟩⟩
def Tryz.yw (e:Nat) (W:World) (c:Value) (zs:List Int):Prop :=
 (∃ a cap,c = .slice a 0 cap/\zs=[]) \/ ∃ b off cap,c = .slice (some ⟨b,off,none⟩) zs.length cap/\b<e/\∀ j,j<zs.length->W.cell? ⟨b,off+j,none⟩=some (.int .u32 (zs[j]?.getD 0))
def Tryz.yw.below {c:Nat} {A B:World} (h:Below c A B) {d:Value} {zs:List Int}:Tryz.yw c A d zs->Tryz.yw c B d zs
 | .inl e => .inl e
 | .inr ⟨b,off,cap,e,hb,f⟩ => .inr ⟨b,off,cap,e,hb, λ j g=>(h.cell (p:=⟨b,off+j,none⟩) hb).trans (f j g)⟩
set_option maxRecDepth 100000 in
set_option maxHeartbeats 1000000 in
theorem Tryz.abx (F:Fence) (n:Nat) (yZ:F.fn 323) (rN:F.round=none) (l we:Nat) (a:Option Addr) (cap:Nat) (J:List (Int × Int)->World->Prop) (W:World) (aqP:W.cell? ⟨we,0,none⟩=some (.slice a 0 cap)) (h0:J [] W) :
   CallsIn F n ab 323 #[.func (.yield l) #[] #[], .pointer (some ⟨we,0,none⟩)] W fun e W'=>(∃ v,e = .returned v)/\J [] W':=by
 refine callsIn_of_wp Pk rfl yZ ?_ rN
 simp only [ZI,qZ,e6,jB,JN,JO,JP,JQ,JR,JS,jy,sC]
 gi_wp2
 gi_loopw [3] (fun i wr=>i = .int .i64 (-1)/\J [] wr) (fun _ _=>0)
 case atStart=>exact ⟨rfl,h0⟩
 case round =>
   obtain ⟨rfl,Gn⟩:=hrel
   gi_wp2
   go_end0
   exact ⟨⟨_,rfl⟩,Gn⟩
set_option maxHeartbeats 1000000 in
theorem Tryz.abd (F:Fence) (n:Nat) (jX:F.fn 318) (rN:F.round=none) (a:Option Addr) (len cap:Nat) (w:World) :
   CallsIn F n ab 318 #[.slice a len cap] w fun e w'=>e = .returned (.func (.func 323) #[] #[.pointer (some ⟨w.heap.size,0,none⟩)])/\w'=w.alloc (.cells #[.slice a len cap] 115):=by
 refine callsIn_of_wp Tryz.func318 rfl jX ?_ rN
 simp only [Tryz.ntmps318,qZ,e6,jB,JN,JO,JP,JQ,JR,JS,jy,sC]
 gi_wp2
 go_ret
 exact ⟨rfl,rfl⟩
def Tryz.aby (F:Fence) (n:Nat) (s:F.fn 323) (h:F.round=none) (z:1<=n) (f i:Nat) (t:Value) (zs:List Int) (d:zs.length*8<=140737488351232) (w:World) (o:f<w.heap.size) (j:i<=w.heap.size)
   (v:w.cell? ⟨f,0,none⟩=some t) (C:Tryz.yw i w t zs) :
   SeqStopsK F n ab 323 #[.pointer (some ⟨f,0,none⟩)] (λ x:Int × Int => #[Value.int .i64 x.1,Value.int .u32 x.2]) (Tryz.rq i f) (λ ys=>ys=Tryz.upto (Tryz.rB zs) zs.length)
     (λ m=>∃ k,k<=zs.length/\m=Tryz.upto (Tryz.rB zs) k) zs.length w := λ l J A W u _ _ B r=>by
 have g:=(u.cell (p:=⟨f,0,none⟩) o).trans v
 rcases C.below (u.mono j) with ⟨a,cap,rfl,rfl⟩ | ⟨b,off,cap,rfl,hb,q⟩
 exact (Tryz.abx F n s h l f a cap J W g r).mono λ e E ⟨D,y⟩=>⟨D, .inl ⟨_,rfl,y⟩⟩
 exact Tryz.abw F n s h z l f i b off cap zs d hb J A B W g q r
def Tryz.xH (s v:Int):Int:=bits BinOp.or de (de.wrap (s*4294967296)) (de.wrap v)
def Tryz.toU (l:List (Int × Int)):Int:=l.foldl (λ s x=>Tryz.xH s x.2) 0
def Tryz.toU_snoc (b:List (Int × Int)) (x:Int × Int):Tryz.toU (b++[x])=Tryz.xH (Tryz.toU b) x.2:=by simp [Tryz.toU]
set_option maxRecDepth 100000 in
set_option maxHeartbeats 2000000 in
theorem Tryz.toUint_in (F:Fence) (n:Nat) (h3:F.fn 304) (Gk:F.fn 318) (yZ:F.fn 323) (rN:F.round=none) (hn:3<=n) (a:Option Addr) (len cap:Nat) (zs:List Int) (SI:zs.length*8<=140737488351232) (w:World) (hI:Tryz.yw w.heap.size w (.slice a len cap) zs) :
   CallsIn F n ab 304 #[.slice a len cap] w fun e W'=>e = .returned (.int .u64 (Tryz.toU (Tryz.upto (Tryz.rB zs) zs.length)))/\Below w.heap.size w W':=by
 have h1:1<=n:=by omega
 refine callsIn_of_wp_marks Tryz.func304 rfl h3 ?_ rN
 simp only [Tryz.ntmps304,qZ,e6,jB,JN,JO,JP,JQ,JR,JS,jy,sC]
 gi_wp2_with (gi_at_call 318;refine (Tryz.abd F (n-1) Gk rN _ _ _ _).mono ?_;rintro e w' ⟨rfl,rfl⟩)
 have Qk:=Boxed.new w 181 (.int .u64 0)
 have Qj:=Boxed.new (w.alloc (.cells #[.int .u64 0] 181)) 115 (.slice a len cap)
 rw [World.size_alloc] at Qj
 have Sp:Below w.heap.size w ((w.alloc (.cells #[.int .u64 0] 181)).alloc (.cells #[.slice a len cap] 115)):=((Below.refl _ w).alloc (a4 _) _).alloc (by simp) _
 have aqT:((w.alloc (.cells #[.int .u64 0] 181)).alloc (.cells #[.slice a len cap] 115)).heap.size=w.heap.size+2:=by simp
 refine wpIn_rangeFunc_ownG rN h1 (gf:=323) (lb := #[.pointer (some ⟨w.heap.size+1,0,none⟩)]) rfl yZ (enters_of Pk (by kernel_rfl) rfl)
   (Tryz.aby F (n-1) yZ rN (by omega) (w.heap.size+1) w.heap.size _ zs SI _ (by simp) (by simp;omega) Qj.cell (hI.below Sp)) (fun h k=>h.trans k)
   (fun W l o o' hl h h2 h3=>⟨belowK_b (w:=w) (a4 _) W l o o' (by omega) h h2 h3,(belowK_b (w:=(w.alloc (.cells #[.int .u64 0] 181)).alloc (.cells #[.slice a len cap] 115)) (a4 _) W l o o' hl h h2 h3).cell (p:=⟨w.heap.size+1,0,none⟩) (by simp)⟩) (Below.refl _ _) (fun _=>rfl)
   (fun pre W=>(W.cell? ⟨w.heap.size,0,none⟩=some (.int .u64 (Tryz.toU pre))/\W.frozen? ⟨w.heap.size,0,none⟩=false)/\Below w.heap.size w W)
   (fun _ _ _=>False)
   (OwnFrom.and (Own.from (fun s A B row hs hg hr=>⟨cell_kept hs.1 hg hr,(frozen_kept hs.1 hg hr).trans hs.2⟩) _) (ownFrom_below (a4 _) (by simp;omega)))
   (fun _ _ _ _ _ hs _ _=>hs)
   ⟨⟨(Qk.alloc _).cell,(Qk.alloc _).frozen⟩,Sp⟩
   (fun x=>{ tmps := #[.slice a len cap,undef, .int .u64 0, .pointer (some ⟨w.heap.size,0,none⟩),undef, .int .u32 x.2, .slice a len cap, .func (.func 323) #[] #[.pointer (some ⟨w.heap.size+1,0,none⟩)], .int .i64 x.1, .int .u32 x.2,undef,undef,undef,undef,undef,undef],defers:=[] }) ?assign ?body ?done ?stop
 case assign =>
   intro l x W K hK
   gi_wp2
   exact hK
 case body =>
   rintro l pre x W ⟨⟨hc,hf⟩,hB⟩ _
   gi_wp2
   exact ⟨(KeepsOthers.setCell _ _ _).from _,⟨(Below.refl w.heap.size W).setCell (p:=⟨w.heap.size,0,none⟩) (a4 _) _,World.cell?_of_block (a:=⟨w.heap.size+1,0,none⟩) (Below.heap_setCell _ _ _ _ (by simp))⟩,
     ⟨by rw [Tryz.toU_snoc];exact World.cell?_setCell_same' _ _ _ (by rw [hc];rfl),by rw [World.frozen?_setCell];exact hf⟩,hB.setCell (p:=⟨w.heap.size,0,none⟩) (a4 _) _⟩
 case done =>
   rintro D ys W hD rfl ⟨⟨hc,_⟩,hB⟩ hK
   gi_wp2
   refine ⟨by simp, .inl ⟨_,_,rfl,run_takeDeferred hK, ?_⟩⟩
   exact ⟨_,results_tmp rfl _ _ _,rfl,hB.trans (belowK_b (w:=w) (a4 _) W D _ _ (by simp at hD;omega) hK rfl rfl)⟩
 case stop =>
   rintro D c pre W _ _ h _
   exact h.elim
end
section
open Go.aF Go.RowKit
def tv (ws:List Nat):List Int:=ws.map λ w:Nat=>(w:Int)
def agj (ws:List Nat):(tv ws).length=ws.length:=List.length_map ..
def abn (a b:Nat) (c:a<18446744073709551616) (hb:b<18446744073709551616):bits BinOp.or de (a:Int) (b:Int)=((a ||| b:Nat):Int):=by
 have h:=MV a b c hb
 rw [Kq] at h
 simp only [Option.some.injEq,aa.int.injEq,true_and] at h
 rw [<- h];rfl
def Tryz.NJ (r a:Nat) (e:r<af) (d:a<af):Tryz.xH (r:Int) (a:Int)=((af*r+a:Nat):Int):=by
 unfold Tryz.xH
 have h1:de.wrap ((r:Int)*4294967296)=((af*r:Nat):Int):=by rw [iu];unfold af at *;omega
 rw [h1,fp a d,abn _ _ (by unfold af at *;omega) (by unfold af at *;omega)]
 have:=Nat.two_pow_add_eq_or_of_lt (i:=32) (b:=a) (by unfold af at d;omega) r
 rw [show af=2 ^ 32 from rfl,this]
def Tryz.toU_digits (n:Nat) (i:n<18446744073709551616):Tryz.toU (Tryz.upto (Tryz.rB (tv (digits n))) (tv (digits n)).length)=(n:Int):=by
 have f:=xT n i
 have hd:=pF n
 have d:=nx n
 unfold ae at f
 generalize digits n=ds at f hd d
 match ds,f,hd,d with
 | [],_,_,d=>subst d;rfl
 | [a],_,hd,d =>
   have g:=hd a (by simp)
   have e:=Tryz.NJ 0 a ed g
   simp only [val,iY,iL] at d
   have:(n:Int)=((af*0+a:Nat):Int):=by omega
   rw [this, <- e];rfl
 | [a,b],_,hd,d =>
   have g:=hd a (by simp)
   have hb:=hd b (by simp)
   have h:=Tryz.NJ 0 b ed hb
   rw [iY,Nat.zero_add] at h
   have k:=Tryz.NJ b a hb g
   simp only [val,iY,iL] at d
   have:(n:Int)=((af*b+a:Nat):Int):=by omega
   rw [this, <- k]
   show Tryz.xH (Tryz.xH 0 (b:Int)) (a:Int)=_
   have j:Tryz.xH 0 (b:Int)=(b:Int):=h
   rw [j]
 | _::_::_::_,f,_,_=>simp at f
def Tryz.toUint_vp (G:Nat->Option (List aa)) (n:Nat) (k:n<18446744073709551616):ag ab G 304 [W n] (.int .u64 (n:Int)):=by
 refine ag.ajb (r:={ val := .int .u64 (n:Int) }) (cu.aja Tryz.func304 (by kernel_rfl) (by kernel_rfl) ?_) (sS.int _ _)
 intro own E w σ vs _ s j
 simp only [bl] at j
 obtain ⟨v,_,rfl,m,rfl⟩:=j
 have g:us (digits n)=(tv (digits n)).map (aa.int .u32):=by simp [us,tv]
 have f:je σ 1 (W n)=some ((tv (digits n)).map (aa.int .u32),[]):=by rw [W,adg,g]
 obtain ⟨a,cap,rfl,q,d⟩:=agk s m f
 have t:Tryz.yw w.heap.size w (.slice a (tv (digits n)).length cap) (tv (digits n)):=by
   rcases d with h | ⟨b,o,rfl,hb,p⟩
   rw [h];exact .inl ⟨a,cap,rfl,rfl⟩
   exact .inr ⟨b,o,cap,rfl,hb,p⟩
 have i:(tv (digits n)).length<=2:=by rw [agj];exact xT n k
 refine (callsIn_wide (n:=3)).1 ((Tryz.toUint_in Fence.wide 3 trivial trivial trivial rfl (by omega) a _ cap _ (by omega) w t).mono ?_)
 rintro e u ⟨rfl,l⟩
 rw [Tryz.toU_digits n k]
 exact ⟨_,rfl,l, λ E w=>by simp only [av]⟩
end
end Go.Proofs
namespace Go.Proofs.YtpcofcmencgkbaaGreat
section
variable (G:Nat->Option (List aa))
def qL:gZ ab G 262:=o0 G
def Bz (n:Nat) (b:ae n<=4194304000000):ag ab G 185 [W n] (W n):=QQ G n b
def vr:lK ab G 229:=amK (qL G)
def R3 (n:Nat) (b:n<18446744073709551616):ag ab G 230 [.int .u64 ((n:Nat):Int)] (W n):=Ga G n b
def Xx (n:Nat) (b:n<18446744073709551616):ag ab G 304 [W n] (.int .u64 ((n:Nat):Int)):=Tryz.toUint_vp G n b
def Qx (a b:Int):ag ab G 265 [.int .i64 a, .int .i64 b] (.int .i64 (eV a b)):=Ky G a b
def abC (a b:Int):ag ab G 288 [.int .u32 a, .int .u32 b] (.int .i64 (eV a b)):=Kz G a b
def Ku (m n:Nat) (b:ae m<=4194304000000) (c:ae n<=4194304000000):ag ab G 266 [W m,W n] (.int .i64 (dI m n)):=KF G (Qx G) (abC G) b
def MW (m n:Nat) (c:ae m<=4194304000000) (b:ae n<=4194304000000):ag ab G 305 [W m,W n] (W (m+n)):=akh G m n c b
def TQ (m n:Nat) (a:n<=m) (c:ae m<=4194304000000):ag ab G 306 [W m,W n] (W (m-n)):=ah9 G (qL G) a c
def apb (m n:Nat) (c:ae m<=4194304000000) (b:ae n<=4194304000000):ag ab G 267 [W m,W n] (W (m*n)):=anC G m n c b
def ag9 (x:Nat) (b:x<af):ag ab G 322 [.int .u32 (x:Int)] (.int .i64 (dL x:Int)):=TE G x b
def aqu (x:Nat) (b:x<af) (c:0<x):ag ab G 313 [.int .u32 (x:Int)] (.int .i64 ((32-dL x:Nat):Int)):=ahE (ag9 G) x b c
def KJ (m n:Nat) (a:n≠0) (c:ae m<=3774873600000) (d:ae n<=3774873600000):ag ab G 303 [W m,W n] (.aS [W (m/n),W (m%n)]):=ac4 G (aqu G) (Xx G) m n a c d
def yW (z:Int) (b:ae z.natAbs<=4194304000000):ag ab G 264 [aP z] (.int .i64 z.sign):=amJ (qL G) z b
def FZ (a:Int) (h1 : -9223372036854775808<=a) (c:a<9223372036854775808):ag ab G 188 [.int .i64 a] (aP a):=adQ (R3 G) (vr G) a h1 c
def Ug (z:Int) (b:ae z.natAbs<=4194304000000):ag ab G 281 [aP z] (aP (-z)):=aiO (qL G) (Bz G) (vr G) z b
def TP (y z:Int) (c:ae y.natAbs<=4194304000000) (b:ae z.natAbs<=4194304000000):ag ab G 236 [aP y,aP z] (aP (y*z)):=aiq (qL G) (apb G) (vr G) y z c b
def Qw (y z:Int) (c:ae y.natAbs<=4194304000000) (b:ae z.natAbs<=4194304000000):ag ab G 235 [aP y,aP z] (.int .i64 (eV y z)):=acm (yW G) (Qx G) (qL G) (Ku G) y z c b
def acV (a b:Int) (c:b≠0) (e:ae a.natAbs<=3774873600000) (hb:ae b.natAbs<=3774873600000):ag ab G 319 [aP a,aP b] (.aS [aP (a.fdiv b),aP (a.fmod b), .int .i64 0]):=by
 have h:=acS (qL G) (KJ G) (MW G) (TQ G) (vr G) a b c e hb
 rw [(Rj a b c).1,(Rj a b c).2] at h;exact h
def R8 (a b:Int) (d:ae a.natAbs<=3774873600000) (hb:ae b.natAbs<=3774873600000):ag ab G 292 [aP a,aP b] (aP (cy a.natAbs b.natAbs:Nat)):=aj5 G (KJ G) (vr G) (Bz G) (Xx G) (R3 G) _ _ a.natAbs b.natAbs d hb
def agu (neg:Bool) (ws:List Nat) (b:ws.length<=9223372036854775807):ag ab G 290 [uA neg ws] (.bool (rR neg ws)):=aoi G neg ws b
def MP:ag ab G 189 [] (aP 1):=ajf (FZ G 1 (by decide) (by decide))
def SY (z:Int):ag ab G 291 [aP z] (.bool (decide (z=1))):=agn z
def akp (a b:Int) (c:b≠0) (e:ae a.natAbs<=3774873600000) (hb:ae b.natAbs<=3774873600000):ag ab G 307 [aP a,aP b] (aP (a.fdiv b)):=akP a b (SY G b) (acV G a b c e hb)
def alT (a:Int) (h1 : -9223372036854775808<=a) (c:a<9223372036854775808):ag ab G 139 [.int .i64 a] (hV a 1):=alW a (FZ G a h1 c) (MP G)
def amf (a b:Int) (d:ae a.natAbs<=4194304000000):ag ab G 234 [hV a b] (.int .i64 a.sign):=ami a b (yW G a d)
def ahs (a b:Int) (j:b≠0) (k:ae a.natAbs<=3774873600000) (hb:ae b.natAbs<=3774873600000) :
   ag ab G 295 [aP a,aP b] (hV (a.fdiv (if b<0 then -(cy a.natAbs b.natAbs:Nat) else (cy a.natAbs b.natAbs:Nat))) (b.fdiv (if b<0 then -(cy a.natAbs b.natAbs:Nat) else (cy a.natAbs b.natAbs:Nat)))):=by
 have i:0<cy a.natAbs b.natAbs:=Nat.gcd_pos_of_pos_right _ (by omega)
 have c:ae (cy a.natAbs b.natAbs)<=3774873600000:=bs (ff (Nat.le_of_dvd (by omega) (Nat.gcd_dvd_right _ _))) hb
 refine ahy a b (cy a.natAbs b.natAbs:Nat) (R8 G a b k hb) (Ug G _ (by rw [gE];omega)) ?_
 intro x y h f
 have e:y≠0:=by rcases f with rfl | rfl<;>omega
 have d:ae y.natAbs<=3774873600000:=by rcases f with rfl | rfl<;>simpa using c
 exact akp G x y e (by rcases h with rfl | rfl<;>assumption) d
def xJ:gZ ab G 223:=o5 G
def xA:lK ab G 179:=amj (xJ G)
def Ho (z:Int) (b:ae z.natAbs<=4194304000000):ag ab G 219 [aP z] (aP z):=al7 (xA G) z b
def Ge (z:Int) (b:ae z.natAbs<=4194304000000):ag ab G 186 [aP z] (.int .i64 z.sign):=amh (Ho G) z b
def aoR (n:Nat) (b:n<18446744073709551616):ag ab G 180 [.int .u64 ((n:Nat):Int)] (W n):=Ji G n b
def F0 (a:Int) (h1 : -9223372036854775808<=a) (c:a<9223372036854775808):ag ab G 127 [.int .i64 a] (aP a):=alV (aoR G) (xA G) a h1 c
def Qz (m n:Nat) (b:ae m<=4194304000000) (c:ae n<=4194304000000):ag ab G 221 [W m,W n] (.int .i64 (dI m n)):=H4 G b
def ajP (m n:Nat) (b:ae m<=4194304000000) (c:ae n<=4194304000000):ag ab G 220 [W m,W n] (W (m+n)):=amd G (xJ G) b c
def ahF (m n:Nat) (a:n<=m) (c:ae m<=4194304000000):ag ab G 222 [W m,W n] (W (m-n)):=VT G (xJ G) a c
def apd (m:Nat) (ws:List Nat) (hw:fl ws) (b:ae m<=4194304000000) (c:ws.length<=4194304000000):ag ab G 225 [W m, .sl 1 (us ws)] (W (m*val ws)):=VZ G m ws hw b c
def apc (m n:Nat) (b:ae m<=4194304000000) (c:ae n<=4194304000000):ag ab G 225 [W m,W n] (W (m*n)):=by
 have h:=apd G m (digits n) (pF n) b c
 rw [nx] at h;exact h
def Q7 (m n:Nat) (a:n≠0) (c:ae m<=3774873600000) (d:ae n<=3774873600000):ag ab G 224 [W m,W n] (.aS [W (m/n),W (m%n)]):=alx G m n a c d
def Up (z:Int) (b:ae z.natAbs<=4194304000000):ag ab G 187 [aP z] (aP (-z)):=al6 (xA G) z b
def P6 (a b:Int) (d:ae a.natAbs<=4194304000000) (hb:ae b.natAbs<=4194304000000):ag ab G 175 [aP a,aP b] (aP (a+b)):=alf (Ho G) (ajP G) (xA G) (Qz G) (ahF G) a b d hb
def WW (a b:Int) (d:ae a.natAbs<=4194304000000) (hb:ae b.natAbs<=4194304000000):ag ab G 259 [aP a,aP b] (aP (a-b)):=amn (Up G) (P6 G) a b d hb
def Ud (a b:Int) (d:ae a.natAbs<=4194304000000) (hb:ae b.natAbs<=4194304000000):ag ab G 177 [aP a,aP b] (aP (a*b)):=al4 (Ho G) (apc G) (xA G) a b d hb
def adZ (a b:Int) (d:ae a.natAbs<=3774873600000) (hb:ae b.natAbs<=3774873600000):ag ab G 176 [aP a,aP b] (aP (cy a.natAbs b.natAbs:Nat)):=alX G (Q7 G) (xA G) _ _ a.natAbs b.natAbs d hb
def agv (neg:Bool) (ws:List Nat) (hw:fl ws) (b:ws.length<=9223372036854775807):ag ab G 249 [uA neg ws] (.bool (rR neg ws)):=al0 (xJ G) neg ws hw b
def alU (a:Int) (h1 : -9223372036854775808<=a) (c:a<9223372036854775808):ag ab G 89 [.int .i64 a] (hV a 1):=akT a (F0 G a h1 c) (F0 G 1 (by decide) (by decide))
def ajd (z:Int):ag ab G 174 [aP z] (.bool (decide (z=1))):=akY z
def amg (a b:Int) (d:ae a.natAbs<=4194304000000):ag ab G 168 [hV a b] (.int .i64 a.sign):=bB [hc (Ge G a d)]
def aef:gX ab 213 (OI 249 186 176 174):=aeS
def afV:Bn ab G 294:=af6 (qL G) (MW G) (vr G) (Ku G) (TQ G)
def ze:wj ab G 236 := λ a b d hb=>TP G a b (by omega) (by omega)
def afZ:Bo ab G 281 := λ a c=>Ug G a (by omega)
def af2:E2 ab G 264 := λ a c=>yW G a (by omega)
def SZ:PT ab G 235 := λ a b d hb=>Qw G a b (by omega) (by omega)
def LU:yr ab G 291 := λ z=>SY G z
def afY:yq ab G 292 := λ a b d hb=>R8 G a b (by omega) (by omega)
def GO:J7 ab G 295 := λ a b hb e d=>by rw [<- TK a b hb];exact ahs G a b hb (by omega) (by omega)
def Vl:Kf ab G 272:=Vo aeO (PV λ neg ws _ b=>agu G neg ws b) (af2 G) (afY G) (LU G)
def akv:E8 ab G 248:=akK (afZ G)
def M8:Kd ab G 234 := λ q b=>amf G q.num q.den (by have:=b.1;omega)
def akr:P0 ab G 195:=akG (M8 G) (ze G) (SZ G)
def akq:E7 ab G 276:=akF (LU G) (afV G) (MP G) (ze G) (GO G)
def aku:Kc ab G 284 := λ a b g hb=>by
 have ⟨k,i⟩:=g
 have ⟨b1,b2⟩:=hb
 have j:=mM a.num b.num
 have h:=mM (a.den:Int) (b.den:Int)
 rw [gE,gE] at h
 have c:=GO G (a.num*b.num) (a.den*b.den) (Uf a b) (by omega) (by omega)
 rw [<- M9] at c
 have h1:=al5 a.num a.den b.num b.den (aV (a*b)) (x1:=(a*b).num) (bF:=(a*b).den) rfl (LU G) (ze G _ _ (by omega) (by omega)) (ze G _ _ (by rw [gE];omega) (by rw [gE];omega)) (MP G) c
 by_cases hd:(a.den:Int)=1/\(b.den:Int)=1
 rw [if_pos hd] at h1
 have e:a*b=((a.num*b.num:Int):Rat):=by
   rw [M9,hd.1,hd.2];show ((a.num*b.num:Int):Rat)/(1:Rat)=_;rw [Rat.div_def,show (1:Rat)⁻¹ = 1 from by decide +kernel,Rat.mul_one]
 rw [e];exact h1
 rw [if_neg hd] at h1;exact h1
def xp:P2 ab G 139 := λ a h1 c=>alT G a h1 c
def Vm (z:Int):ag ab G 308 [aP z] (.bool (decide (z=0))):=ago z
def aks:P1 ab G 296:=akJ (Vm G) (ze G) (GO G)
def LZ:PU ab G 219 := λ z b=>Ho G z b
def agy:Bn ab G 175 := λ a b d hb=>P6 G a b (by omega) (by omega)
def zm:wj ab G 177 := λ a b d hb=>Ud G a b (by omega) (by omega)
def Th:Bo ab G 187 := λ a c=>Up G a (by omega)
def Ti:E2 ab G 186 := λ a c=>Ge G a (by omega)
def L0:yr ab G 174 := λ z=>ajd G z
def G0:yq ab G 176 := λ a b d hb=>adZ G a b (by omega) (by omega)
def L1:E1 ab G 178 := λ a b hb hd e d=>ame a b (alz (LZ G) (Q7 G) (xA G) (Ud G) (WW G) (Ge G) a b hb hd (by omega) (by omega))
def r7:P2 ab G 89 := λ a h1 c=>alU G a h1 c
def alc:Kd ab G 168 := λ q b=>amg G q.num q.den (by have:=b.1;omega)
def akZ:E7 ab G 123:=akR (L0 G) (agy G) (G0 G) (zm G) (L1 G)
def ak7:Kc ab G 124:=akW (r7 G 0 (by decide) (by decide)) (L0 G) (zm G) (G0 G) (L1 G)
def ak8:E8 ab G 203:=akX (Th G)
def ald:Kf ab G 213:=Vo aef (PV λ neg ws hw b=>agv G neg ws hw b) (Ti G) (G0 G) (L0 G)
def Na:aak ab G 95 := λ a b c hb h1 f=>by
 have e:ae a.natAbs<=1:=iV (by rw [Pl];unfold af;omega)
 have b1:ae b<=1:=iV (by rw [Pl];unfold af;omega)
 exact akS a b c (F0 G a (by omega) (by omega)) (F0 G b (by omega) (by omega)) (akV (G0 G) (Ti G) (L1 G) a b c (by omega) (by omega))
def js:aa := .agg [.bool false, .aq, .bool false, .aq]
instance:bg js:=by unfold js;infer_instance
def aoY {k j:Nat} (h:k<32*j):ae (2 ^ k)<=j:=iV (by
 have a:af=2 ^ 32:=rfl
 rw [a, <- Nat.pow_mul]
 exact Nat.pow_lt_pow_right (by decide) h)
def aeM (m:Nat) (b:ae m<=4194304000000):ag ab G 326 [W m] (W (m/2)):=by
 have c:ag ab G 262 [.sl 1 (us (cm (ae m) (jV (m/2 ^ 1) (ae m))))] (W (m/2 ^ 1)):=by
   rw [sT (g:=ax (m/2 ^ 1)) λ j d=>Gd d]
   have:=o0 G (eP (m/2 ^ 1) (ae m)) (Bl _ _) (by rw [oy];omega)
   rwa [vz,dG (gB (ja _ _) (eY _))] at this
 have h:ag ab G 326 [W m] (W (m/2 ^ 1)):=bB [hc (WQ G (s:=1) (by decide) b),hc c]
 exact h
def abm (z:Int) (j:z.natAbs≠0) (i:ae z.natAbs<=4194304000000):∃ b:Nat,z.natAbs<2 ^ b/\b<=32*ae z.natAbs/\ag ab G 282 [aP z] (.int .i64 (b:Int)):=by
 have ⟨k,a⟩:∃ k,ae z.natAbs=k+1:=⟨ae z.natAbs-1,by have := @gL z.natAbs;omega⟩
 have g:=kX (sR a)
 have d:=cK z.natAbs k
 have hb:=Fw d g
 have h:=(wA d g).1
 have e:=qb z.natAbs k
 have c:=eY z.natAbs
 rw [a] at c
 rw [iX c,iY,Nat.zero_add] at e
 refine ⟨32*k+dL (ax z.natAbs k), ?_,by omega,aO [hc (jq (o5 G) z.natAbs (by omega)),hc (Tw G z.natAbs k a (by omega))] ⟩
 rw [Nat.pow_add,Nat.pow_mul]
 have h3:z.natAbs/af ^ k<2 ^ dL (ax z.natAbs k):=by rw [e];exact h
 rw [dF]
 exact (l1 (gj k)).1 h3
def ahg (w:Nat) (h:w<af):ag ab G 322 [.int .u32 (w:Int)] (.int .i64 (dL w:Int)):=TE G w h
def af3 (z:Int) (s:Nat) (i:0<z) (hw:ae z.natAbs<=201326592000) (j:ki z.natAbs s):ag ab G 320 [aP z] (.aS [aP (s:Int), .int .i64 0]):=by
 have g:z.natAbs≠0:=by omega
 have ⟨b,hb,m,o⟩:=abl (G:=G) z g (by omega) (jq (qL G) z.natAbs (by omega)) (λ w h=>ahg G w h)
 have f:=yW G z (by omega)
 rw [Int.sign_eq_one_of_pos i] at f
 have p:ae (2 ^ (b/2+1))<=100663296002:=aoY (by omega)
 have a:∀ n,n<=2 ^ (b/2+1)->ae n<=100663296002 := λ n h=>bs (ff h) p
 have e:∀ n,ae (z.natAbs/n)<=201326592000 := λ n=>bs (ff (ja _ _)) hw
 have c:∀ n,n<=2 ^ (b/2+1)->ae (n+z.natAbs/n)<=201326592001 := λ n h=>DW (bs (a n h) (by omega)) (e n)
 have d:∀ n,n<=2 ^ (b/2+1)->ae ((n+z.natAbs/n)/2)<=201326592001 := λ n h=>bs (ff (ja _ _)) (c n h)
 have l:ae s<=201326592000:=bs (ff (by have:=j.1;exact bs (AV s) this)) hw
 exact ags z s b i j hb (by omega) f o (amF (b/2+1) (by omega)) (jq (qL G) z.natAbs (by omega))
   (λ n q h=>KJ G z.natAbs n (by omega) (by omega) (by have:=a n h;omega)) (λ n _ h=>MW G n _ (by have:=a n h;omega) (by have:=e n;omega))
   (λ n _ h=>aeM G _ (by have:=c n h;omega)) (λ n _ h=>Ku G _ n (by have:=d n h;omega) (by have:=a n h;omega)) (vr G false s (by omega))
def Dj (n:Nat):∃ s,ki n s:=by
 induction n with
 | zero=>exact ⟨0,by unfold ki;decide⟩
 | succ n a =>
   have ⟨s,h1,b⟩:=a
   by_cases h:n+1<(s+1)*(s+1)
   exact ⟨s,by omega,h⟩
   refine ⟨s+1,by omega, ?_⟩
   have:(s+1+1)*(s+1+1)=(s+1)*(s+1)+2*(s+1)+1:=by rw [Nat.add_mul,Nat.mul_add];omega
   omega
def Ad (r:Rat):(r*r).num=r.num*r.num/\(r*r).den=r.den*r.den:=by
 have a:=Nat.Coprime.mul_left r.reduced r.reduced
 have hc:(r.num*r.num).natAbs.Coprime (r.den*r.den):=by
   rw [l3];exact Nat.Coprime.mul_right a a
 have hd:r.den*r.den≠0:=Nat.mul_ne_zero r.den_nz r.den_nz
 have e:r*r=⟨r.num*r.num,r.den*r.den,hd,hc⟩:=by
   rw [Rat.mk_eq_divInt,M9, <- x8]
   simp
 rw [e];exact ⟨rfl,rfl⟩
def WH {q:Rat} {s t:Nat} (b:(s:Int)*s=q.num) (a:(t:Int)*t=(q.den:Int)):((s:Int):Rat)/((t:Int):Rat)*(((s:Int):Rat)/((t:Int):Rat))=q:=by
 have f:((t:Int):Rat)≠0:=by
   intro e
   have:(t:Int)=0:=by exact_mod_cast e
   rw [this] at a
   have:=q.den_pos
   omega
 have h:((q.num:Int):Rat)/(((q.den:Nat):Int):Rat)=q:=by rw [<- x8];exact Rat.num_divInt_den q
 have d:((q.num:Int):Rat)=((s:Int):Rat)*((s:Int):Rat):=by rw [<- b];exact ya ..
 have c:(((q.den:Nat):Int):Rat)=((t:Int):Rat)*((t:Int):Rat):=by rw [<- a];exact ya ..
 refine Eq.trans ?_ h
 rw [d,c]
 generalize ((s:Int):Rat)=x at *
 generalize ((t:Int):Rat)=y at *
 grind
def zR (z:Int) (s:Nat) (d:0<z) (hw:ae z.natAbs<=201326592000) (a:ki z.natAbs s):ag ab G 309 [aP z] (.aS [aP (s:Int), .bool (decide ((s:Int)*s=z))]):=by
 have f:ae s<=201326592000:=bs (ff (by have:=a.1;exact bs (AV s) this)) hw
 have h1:=af3 G z s d hw a
 have c:=TP G (s:Int) (s:Int) (by simpa using (by omega:ae s<=4194304000000)) (by simpa using (by omega:ae s<=4194304000000))
 have h3:=Qw G ((s:Int)*s) z (by rw [l3];have:=Av s s;simp only [gE];omega) (by omega)
 have e:(eV ((s:Int)*s) z==0)=decide ((s:Int)*s=z):=by
   unfold eV
   by_cases h:(s:Int)*s=z
   rw [if_neg (by omega),if_neg (by omega),decide_eq_true h];rfl
   rw [decide_eq_false h]
   split
   rfl
   rw [if_pos (by omega)];rfl
 exact aO [hc h1,hc c,hc h3,hb 20 e]
def akB (q r:Rat) (j:0<q.num) (g:cI 201326592000 q) (d:r*r=q) (m:0<r.num):ag ab G 299 [aV q] (.aS [aV r, .bool true]):=by
 have c:q.num=r.num*r.num:=by rw [<- d];exact (Ad r).1
 have e:q.den=r.den*r.den:=by rw [<- d];exact (Ad r).2
 have f:∀ n:Nat,ki (n*n) n := λ n=>⟨a4 _,nE (ov n) (ov n)⟩
 have a:=zR G q.num r.num.natAbs j g.1 (by rw [c,l3];exact f _)
 have b:=zR G (q.den:Int) r.den (by have:=q.den_pos;omega) (by simpa using g.2) (by rw [gE,e];exact f _)
 have l:((r.num.natAbs:Int)*(r.num.natAbs:Int)=q.num):=by rw [c,Ew (by omega)]
 have i:((r.den:Int)*(r.den:Int)=(q.den:Int)):=by rw [e];simp
 rw [decide_eq_true l] at a
 rw [decide_eq_true i] at b
 have k:(r.num.natAbs:Int)=r.num:=Ew (by omega)
 rw [k] at a
 exact akN q.num q.den r.num r.den a b
def akA (q:Rat) (g:0<q.num) (e:cI 201326592000 q) (i:∀ r:Rat,r*r≠q):ag ab G 299 [aV q] (.aS [.agg [.bool false, .aq, .bool false, .aq], .bool false]):=by
 have ⟨s,h1⟩:=Dj q.num.natAbs
 have ⟨t,h⟩:=Dj q.den
 have a:=zR G q.num s g e.1 h1
 have c:=zR G (q.den:Int) t (by have:=q.den_pos;omega) (by simpa using e.2) (by simpa using h)
 by_cases b:((s:Int)*s=q.num)
 by_cases d:((t:Int)*t=(q.den:Int))
 exfalso
 exact i (((s:Int):Rat)/((t:Int):Rat)) (WH b d)
 rw [decide_eq_true b] at a
 rw [decide_eq_false d] at c
 exact aO [hc a,hc c]
 rw [decide_eq_false b] at a
 exact aO [hc a,hc c]
def D7 (z:Int) (s:Nat) (e:0<z) (hw:ae z.natAbs<=201326592000) (d:ki z.natAbs s):ag ab G 250 [aP z] (.aS [aP (s:Int), .int .i64 0]):=by
 have ⟨b,h1,g,h3⟩:=abm G z (by omega) (by omega)
 exact amm aeP z s b e d h1 (by omega) (LZ G z (by omega)) h3 aeR aeQ (λ n f=>Qz G n z.natAbs (by omega) (by omega)) (λ L bA a=>by
   have:=VW (G:=G) (xJ G) (zM L s) (by rw [n7];omega)
   rw [sw a] at this
   exact this)
def D6 (z:Int) (s:Nat) (g:0<z) (hw:ae z.natAbs<=201326592000) (d:ki z.natAbs s):ag ab G 177 [aP (s:Int),aP (s:Int)] (aP ((s*s:Nat):Int))/\ag ab G 251 [aP ((s*s:Nat):Int),aP z] (.bool (decide ((s:Int)*s=z))):=by
 have c:ae s<=201326592000:=bs (ff (by have:=d.1;exact bs (AV s) this)) hw
 have f:ae (s*s)<=402653184000:=bs (Av s s) (by omega)
 have h1:=zm G (s:Int) (s:Int) (by rw [gE];omega) (by rw [gE];omega)
 have b:=VV (G:=G) (s*s) z.natAbs (by omega) (by omega)
 rw [Ew (by omega)] at b
 have e:decide (s*s=z.natAbs)=decide ((s:Int)*s=z):=decide_eq_decide.2 ⟨λ h=>by have:=congrArg (λ x:Nat=>(x:Int)) h;simp only [uf] at this;omega, λ h=>by rw [<- h,l3];rfl⟩
 rw [e] at b
 exact ⟨by rw [uf];exact h1,b⟩
def apN (q r:Rat) (c:0<q.num) (a:cI 201326592000 q) (i:r*r=q) (w:0<r.num):ag ab G 215 [aV q] (.aS [aV r, .bool true]):=by
 have e:q.num=r.num*r.num:=by rw [<- i];exact (Ad r).1
 have b:q.den=r.den*r.den:=by rw [<- i];exact (Ad r).2
 have m:∀ n:Nat,ki (n*n) n := λ n=>⟨a4 _,nE (ov n) (ov n)⟩
 have f:ki q.num.natAbs r.num.natAbs:=by rw [e,l3];exact m _
 have d:ki (q.den:Int).natAbs r.den:=by rw [gE,b];exact m _
 have j:0<(q.den:Int):=by have:=q.den_pos;omega
 have p:=D7 G q.num r.num.natAbs c a.1 f
 have v:=D7 G (q.den:Int) r.den j (by simpa using a.2) d
 have ⟨o,g⟩:=D6 G q.num r.num.natAbs c a.1 f
 have ⟨s,h⟩:=D6 G (q.den:Int) r.den j (by simpa using a.2) d
 have t:((r.num.natAbs:Int)*(r.num.natAbs:Int)=q.num):=by rw [e,Ew (by omega)]
 have u:((r.den:Int)*(r.den:Int)=(q.den:Int)):=by rw [b];simp
 rw [decide_eq_true t] at g
 rw [decide_eq_true u] at h
 have k:(r.num.natAbs:Int)=r.num:=Ew (by omega)
 rw [k] at p o
 exact aO [hb 10 (dw (by omega):decide (q.num<0)=false),hc p,hc v,hc o,hc g,hc s,hc h]
def apM (q:Rat) (g:0<q.num) (c:cI 201326592000 q) (o:∀ r:Rat,r*r≠q):ag ab G 215 [aV q] (.aS [js, .bool false]):=by
 have ⟨s,h1⟩:=Dj q.num.natAbs
 have ⟨t,m⟩:=Dj (q.den:Int).natAbs
 have i:0<(q.den:Int):=by have:=q.den_pos;omega
 have l:=D7 G q.num s g c.1 h1
 have f:=D7 G (q.den:Int) t i (by simpa using c.2) m
 have ⟨k,b⟩:=D6 G q.num s g c.1 h1
 have ⟨n,h⟩:=D6 G (q.den:Int) t i (by simpa using c.2) m
 have a:decide (q.num<0)=false:=dw (by omega)
 by_cases d:((s:Int)*s=q.num)
 by_cases e:((t:Int)*t=(q.den:Int))
 exfalso
 exact o (((s:Int):Rat)/((t:Int):Rat)) (WH d e)
 rw [decide_eq_true d] at b
 rw [decide_eq_false e] at h
 exact aO [hb 10 a,hc l,hc f,hc k,hc b,hc n,hc h]
 rw [decide_eq_false d] at b
 exact aO [hb 10 a,hc l,hc f,hc k,hc b]
def aje (b:Rat):1/b=b⁻¹ := by rw [Rat.div_def,Rat.one_mul]
def Jp:aa := .agg [.bool false, .aq]
instance:bg Jp:=by unfold Jp;infer_instance
def lG {n k:Nat} (h:n<4294967296:=by decide) (a:1<=k:=by decide):ae n<=k:=bs (iV (k:=1) (by rw [Pl];exact h)) a
def aoe {σ : aL} {c:aa} [bg c]:View σ (.aS [.agg [.bool false, .aq],c]) (.aS [aP 0,c]):=by
 rw [show aP 0 = .agg [.bool false, .sl 1 []] by kernel_rfl]
 exact vO (cp (View.agg (cp (jw (AM _)) (cp (fi 1) iv))) (cp (jw bg.pure) iv))
def ak4 (b:Rat) (h:b≠0) (hb:cI 419430400000 b):ag ab G 227 [aV b] (aV b⁻¹):=akU (Th G) b h hb
def af5:ag ab G 320 [aP 0] (.aS [aP 0, .int .i64 0]):=bQ aY [hc (yW G 0 lG)] [] (.aS [.agg [.bool false, .aq], .int .i64 0]) (by kernel_rfl) (λ σ _=>aoe)
def akx:ag ab G 309 [aP 0] (.aS [aP 0, .bool true]):=aO [hc (af5 G),hc (ze G 0 0 lG lG),hc (SZ G 0 0 lG lG)]
def af4 (z:Int) (h:z<0) (hw:ae z.natAbs<=419430400000):ag ab G 320 [aP z] (.aS [Jp, .int .i64 7]):=by
 have a:=yW G z (by omega)
 rw [Int.sign_eq_neg_one_of_neg h] at a
 exact aO [hc a]
def akw (z:Int) (h:z<0) (hw:ae z.natAbs<=419430400000):ag ab G 309 [aP z] (.aS [Jp, .bool false]):=aO [hc (af4 G z h hw)]
def akz (q r:Rat) (c:cI 201326592000 q) (a:r*r=q) (d:0<=r):ag ab G 299 [aV q] (.aS [aV r, .bool true]):=by
 have h:=En.2 d
 have f:q.num=r.num*r.num:=by rw [<- a];exact (Ad r).1
 by_cases e:r.num=0
 obtain rfl:=oh.1 e
 obtain rfl:q=0:=by rw [<- a,JT]
 have g:=zR G 1 1 (by decide) lG (by unfold ki;decide)
 exact aO [hc (akx G),hc g]
 refine akB G q r ?_ c a (by omega)
 rw [f]
 exact Int.mul_pos (by omega) (by omega)
def aky (q:Rat) (a:cI 201326592000 q) (c:∀ r:Rat,r*r≠q):ag ab G 299 [aV q] (.aS [js, .bool false]):=by
 rcases ZK q.num 0 with h | h | h
 have ⟨t,d⟩:=Dj q.den
 have e:=zR G (q.den:Int) t (by have:=q.den_pos;omega) (by simpa using a.2) (by simpa using d)
 exact aO [hc (akw G q.num h (by have:=a.1;omega)),hc e]
 exact absurd (by rw [oh.1 h,JT]) (c 0)
 exact akA G q h a c
def akt:ag ab G 311 [.int .i64 1, .int .i64 2] (aV (1/2)):=by
 have b:∀ n:Nat,n<100->ag ab G 327 [aP (n:Int)] (aP (n:Int)) := λ n d=>aO [hc (jq (qL G) n (by have:=xT n ;omega)),hc (Bz G n (by have:=xT n ;omega)),hc (vr G false n (by have:=xT n ;omega))]
 have m:=GO G 1 2 (by decide) lG lG
 have c:ag ab G 321 [aP 1,aP 2] (.aS [aV (1/2), .int .i64 0]):=aO [hc (b 1 (by decide)),hc (b 2 (by decide)),hc (Vm G 2),hc m]
 exact aO [hc (FZ G 1 (by decide) (by decide)),hc (FZ G 2 (by decide) (by decide)),hc c]
def aqm:ag ab G 250 [aP 0] (.aS [aP 0, .int .i64 0]):=by
 have hb:ag ab G 282 [aP 0] (.int .i64 0):=by
   have e:ag ab G 255 [W 0] (.int .i64 0):=aO []
   exact aO [hc (jq (xJ G) 0 lG),hc e]
 have b:=VW (G:=G) (xJ G) (ws:=[0]) (λ w hw=>by rw [bJ.1 hw];decide) (by decide)
 have hv:c9 (bk [([16],⟨us [0],1,false⟩)]) [.bool false, .ai [16] 1 0 1 false] [.bool false, .sl 1 (us [0])]:=cp (jw (AM _)) (cp (View.ai (au:=⟨us [0],1,false⟩) (by simp [bk]) rfl (by simp [us]) (c9.pure λ c hc=>by simp [us,flat,aa.cells] at hc;subst hc;exact b8.int _ _) rfl (λ d hd=>by simp [us] at hd;subst hd;rfl)) iv)
 exact aO [hc (LZ G 0 lG),hc hb,qw [([16],⟨us [0],1,false⟩)] b hv]
def apI:ag ab G 177 [aP 0,aP 0] (aP 0)/\ag ab G 251 [aP 0,aP 0] (.bool true):=by
 have b:=VV (G:=G) 0 0 lG lG
 exact ⟨zm G 0 0 lG lG,by simpa using b⟩
def apL (q r:Rat) (l:cI 201326592000 q) (a:r*r=q) (k:0<=r):ag ab G 215 [aV q] (.aS [aV r, .bool true]):=by
 have m:=En.2 k
 have i:q.num=r.num*r.num:=by rw [<- a];exact (Ad r).1
 by_cases e:r.num=0
 obtain rfl:=oh.1 e
 obtain rfl:q=0:=by rw [<- a,JT]
 have b:ki (1:Int).natAbs 1:=by unfold ki;decide
 have j:=D7 G 1 1 (by decide) lG b
 have ⟨h,g⟩:=D6 G 1 1 (by decide) lG b
 have ⟨d,f⟩:=apI G
 exact aO [hc (aqm G),hc j,hc d,hc f,hc h,hc g]
 refine apN G q r ?_ l a (by omega)
 rw [i]
 exact Int.mul_pos (by omega) (by omega)
def apK (q:Rat) (c:cI 201326592000 q) (b:∀ r:Rat,r*r≠q):ag ab G 215 [aV q] (.aS [js, .bool false]):=by
 rcases ZK q.num 0 with h | h | h
 exact aO [hb 10 (decide_eq_true h)]
 exact absurd (by rw [oh.1 h,JT]) (b 0)
 exact apM G q h c b
def mL {σ : aL} {a b c:aa} [bg c] (h:View σ a b):View σ (.aS [a,c]) (.aS [b,c]):=vO (cp h (cp (jw bg.pure) iv))
def Rl (x:Rat):(dr x != 0) = !decide (x=0):=by
 have:=akL x
 by_cases h:x=0
 rw [decide_eq_true h] at this ⊢
 have:=of_decide_eq_true this
 simp [this]
 rw [decide_eq_false h] at this ⊢
 have:=of_decide_eq_false this
 simp [this]
def S3 (f:Nat) (p:Rat->Bool) (l:List Rat) (q:l.length<=9000) (o:∀ x∈l,ag ab G f [aV x] (.bool (p x))):ag ab G 274 [bb l, .fn (.func f) [] []] (.bool (l.any p)):=by
 have d:∀ i (a:i<l.length) (b:Bool),p (l.getD i 0)=b->ag ab G f [aV l[i]] (.bool b) := λ i a b e=>by
   rw [dJ,du a] at e
   rw [<- e];exact o _ (bc a)
 rcases first (λ i=>p (l.getD i 0)) l.length with h | ⟨i,a,g,n⟩
 have e:l.any p=false:=by
   rw [List.any_eq_false]
   intro x k
   obtain ⟨i,a,rfl⟩:=fZ.1 k
   have:=h i a
   rw [dJ,du a] at this
   simpa using this
 have a:ag ab G 293 [bb l, .fn (.func f) [] []] (.int .i64 (-1)):=bB [w5 (ao 293) 0 0 0 l.length (λ i=>[(0,bb l),(1, .fn (.func f) [] []),(7, .int .i64 ((l.map aV).length:Nat)),(8, .int .i64 (i:Int))]) (.exit 0) [] (λ i a=>[bm 9 aV a,aQ 14 4 aV a,hc (d i a false (h i a)),a9 18 i]) [cx 9 aV l]]
 rw [e]
 exact aO [hc a]
 have e:l.any p=true:=List.any_eq_true.2 ⟨_,bc a,by rw [dJ,du a] at g;exact g⟩
 have k:ag ab G 293 [bb l, .fn (.func f) [] []] (.int .i64 (i:Int)):=bB [w5 (ao 293) 0 0 0 i (λ i=>[(0,bb l),(1, .fn (.func f) [] []),(7, .int .i64 ((l.map aV).length:Nat)),(8, .int .i64 (i:Int))]) .ret [(4, .int .i64 (i:Int))] (λ j m=>[bm 9 aV (show j<l.length by omega),aQ 14 4 aV (show j<l.length by omega),hc (d j (by omega) false (n j m)),a9 18 j]) [bm 9 aV a,aQ 14 4 aV a,hc (d i a true g)]]
 rw [e]
 exact aO [hc k,hb 8 (decide_eq_true (by omega:(i:Int)≥0))]
def ir (x:Rat) (b:cI 419430400000 x):ag ab G 275 [aV x] (.bool (!decide (x=0))):=aO [hc (M8 G x b),hb 5 (Rl x)]
def te {h:Nat} (b:h<=3) (a:ah h):(ah.flat a).length<=9000:=by rw [ah.yU];rcases h4 b with rfl | rfl | rfl | rfl<;>decide
def Ag {h:Nat} (d:h<=3) (a:ah h) (c:dn 419430400000 a):ag ab G 239 [aJ a] (.bool a.b9):=by
 have e:(!((ah.flat a).any λ x => !decide (x=0)))=a.b9:=by unfold ah.b9;rw [<- List.not_all_eq_any_not,Bool.not_not]
 exact aO [hc (S3 G 275 (λ x => !decide (x=0)) _ (te d a) λ x f=>ir G x (c.flat x f)),hb 5 e]
def NS {h:Nat} (d:h<=3) (a:ah h) (f:dn 419430400000 a):ag ab G 247 [aJ a, .int .i64 ((2 ^ h:Nat):Int)] (.bool true):=by
 have g:∀ x,cI 419430400000 x->ag ab G 280 [aV x] (.bool false) := λ x c=>aO [hc (Vl G x c)]
 have e:=S3 G 280 (λ _=>false) _ (te d a) λ x c=>g x (f.flat x c)
 rw [show (ah.flat a).any (λ _=>false)=false by simp] at e
 rcases h4 d with rfl | rfl | rfl | rfl<;>exact aO [hc e]
def Vs:{h:Nat}->(t:aE h)->h<=3->kf 419430400000 t->List (aZ ab G)
 | 0,_,_,_=>[]
 | _+1,t,b,H=>Vs t.1 (by omega) H.1++[hc (NS G (by omega) t.2 H.2)]
def NV {h:Nat} (b:h<=3) (t:aE h) (H:kf 419430400000 t):ag ab G 246 [a3 t.ay] (.bool true):=by
 rcases h4 b with rfl | rfl | rfl | rfl<;>exact aO (Vs G t (by decide) H)
def vx {h:Nat} (b:h<=3) (t:aE h) (H:kf 419430400000 t) (a:ah h) (e:dn 419430400000 a):ag ab G 210 [a3 t.ay,aJ a] (.bool true):=by
 have h1:=NV G b t H
 have d:=NS G b a e
 rcases h4 b with rfl | rfl | rfl | rfl<;>exact aO [hc h1,hc d]
def NR {h:Nat} (c:h<=3) (t:aE h) (H:kf 419430400000 t) (a b:ah h) (f:dn 419430400000 a) (hb:dn 419430400000 b):ag ab G 241 [a3 t.ay,aJ a,aJ b] (.bool true):=by
 have h1:=vx G c t H a f
 have e:=NS G c b hb
 rcases h4 c with rfl | rfl | rfl | rfl<;>exact aO [hc h1,hc e]
def aei (a b:Rat) (d:cI 419430400000 a) (hb:cI 419430400000 b):aZ ab G:=hc (akq G a b d hb)
def aez (a:Rat) (c:cI 419430400000 a):aZ ab G:=hc (akv G a c)
def Kh:{h:Nat}->(a b:ah h)->dn 419430400000 a->dn 419430400000 b->List (aZ ab G)
 | 0,a,b,c,hb=>[aei G a b c hb]
 | _+1,a,b,c,hb=>Kh a.1 b.1 c.1 hb.1++Kh a.2 b.2 c.2 hb.2
def MG:{h:Nat}->(a:ah h)->dn 419430400000 a->List (aZ ab G)
 | 0,a,b=>[aez G a b]
 | _+1,a,b=>MG a.1 b.1++MG a.2 b.2
def WZ {h:Nat} (e:h<=3) (a b:ah h) (d:dn 419430400000 a) (hb:dn 419430400000 b) (p:bT):cu ab G 242 [aJ a,aJ b] p [] { val := .ai (3::p) 4 0 (2 ^ h) false,rd:=[],up:=[(3::p,some (jT (eC a b)))] }:=by
 rcases h4 e with rfl | rfl | rfl | rfl<;>exact fP (p:=p) (up:=[(3::p,_)]) aY (λ _=>[]) (Kh G a b d hb) _ [] (.ai [3,0] 4 0 _ false) [([3,0],_)] (by kernel_rfl) (br.fix _) rfl rfl hE (by simp) (by simp)
def IG {h:Nat} (e:h<=3) (a b:ah h) (d:dn 419430400000 a) (hb:dn 419430400000 b):ag ab G 242 [aJ a,aJ b] (aJ (eC a b)):=A1 (WZ G e a b d hb []) (dR s3)
def ans {h:Nat} (d:h<=3) (a:ah h) (c:dn 419430400000 a) (p:bT):cu ab G 211 [aJ a] p [] { val := .ai (3::p) 4 0 (2 ^ h) false,rd:=[],up:=[(3::p,some (jT (kZ a)))] }:=by
 rcases h4 d with rfl | rfl | rfl | rfl<;>exact fP (p:=p) (up:=[(3::p,_)]) aY (λ _=>[]) (MG G a c) _ [] (.ai [3,0] 4 0 _ false) [([3,0],_)] (by kernel_rfl) (br.fix _) rfl rfl hE (by simp) (by simp)
def II {h:Nat} (d:h<=3) (a:ah h) (c:dn 419430400000 a):ag ab G 211 [aJ a] (aJ (kZ a)):=A1 (ans G d a c []) (dR s3)
def N1 {h:Nat} (b:h<=3) (p:bT):cu ab G 273 [.int .i64 ((2 ^ h:Nat):Int)] p [] { val := .ai (2::p) 4 0 (2 ^ h) false,rd:=[],up:=[(2::p,some (jT (cz h 0)))] }:=by
 have z:=xp G 0 (by decide) (by decide)
 rcases h4 b with rfl | rfl | rfl | rfl<;>exact fP (p:=p) (up:=[(2::p,_)]) aY (λ _=>[]) (bG 8 (hc z)) _ [] (.ai [2,0] 4 0 _ false) [([2,0],_)] (by kernel_rfl) (br.fix _) rfl rfl hE (by simp) (by simp)
def Dy {h:Nat} (a:h<=3) (t:aE h) (H:kf 419430400000 t) (x:Rat) (d:cI 419430400000 x):ag ab G 238 [a3 t.ay,aV x] (aJ (cz h x)):=by
 have h1:=NV G a t H
 have c:=Vl G x d
 have h3 := λ p=>N1 G a p
 rcases h4 a with rfl | rfl | rfl | rfl<;>exact bQ aY [hc h1,hc c,dc h3] [([2,13],_)] (.ai [2,13] 4 0 _ false) (by kernel_rfl) (λ σ h=>dR (one h))
def NY {h:Nat} (b:h+1<=3) (t:aE (h+1)):ag ab G 285 [a3 t.ay] (.aS [a3 t.1.ay,aJ t.2]):=by
 rcases h3 b with rfl | rfl | rfl<;>exact aO []
def IH {h:Nat} (c:h+1<=3) (a:ah (h+1)):ag ab G 286 [aJ a] (.aS [aJ a.1,aJ a.2]):=by
 rcases h3 c with rfl | rfl | rfl<;>exact aO []
def CN {h:Nat} {t:aE (h+1)} {c n m:Nat} (H:df t c) {a b:ah (h+1)} (f:cJ a n) (hb:cJ b m):cJ (cN t.1 a.1 b.1) (n+m+c)/\cJ (cN t.1 a.2 b.2) (n+m+c)/\cJ (cN t.1 (cN t.1 a.2 b.2) t.2) (n+m+c+c+c)/\cJ (cN t.1 a.1 b.2) (n+m+c)/\cJ (cN t.1 a.2 b.1) (n+m+c):=by
 have hc:=H.low.bL.bL
 have ⟨e,d⟩:=gW f
 have ⟨b1,b2⟩:=gW hb
 exact ⟨k6 hc e b1,k6 hc d b2,k6 hc (k6 hc d b2) H.top,k6 hc e b2,k6 hc d b1⟩
def aex (a b:Rat) (d:cI 419430400000 a) (hb:cI 419430400000 b):aZ ab G:=hc (aku G a b d hb)
def xK : ∀ {h:Nat} (e:h<=3) {t:aE h} {c n m:Nat} (H:df t c) {a b:ah h} (f:cJ a n) (hb:cJ b m) (j:n+m+pN c h<=4398046511104),E6 ab G 263 [a3 t.ay,aJ a,aJ b] [[12],[56],[2,14]] (cN t a b)
 | 0,_,t,c,n,m,H,a,b,f,hb,j=>⟨[12],by simp, λ p=>fP (p:=p) (up:=[(12::p,_)]) aY (λ _=>[]) [aex G a b (cA f (by omega)) (cA hb (by omega))] _ [] (.ai [12,0] 4 0 1 false) [([12,0],_)] (by kernel_rfl) (br.fix _) rfl rfl hE (by simp) (by simp)⟩
 | h + 1,e,t,c,n,m,H,a,b,f,hb,j=>by
   have D:n+m+(pN c h+(c+c))<=4398046511104:=j
   have K:=T6 c h
   have g:=Ag G e a (cA f (by omega))
   have i:=Ag G e b (cA hb (by omega))
   have zs := λ p=>N1 G e p
   cases a0:a.b9 with
   | true =>
     rw [a0] at g
     rw [show cN t a b=cz (h+1) 0 by rw [yg.1 a0,Ex]]
     refine ⟨[2,14],by simp, λ p => ?_⟩
     rcases h3 e with rfl | rfl | rfl<;>exact fP (p:=p) (up:=[(2::14::p,_)]) aY (λ _=>[]) [hc g,dc zs] _ [] (.ai [2,14,0] 4 0 _ false) [([2,14,0],_)] (by kernel_rfl) (br.fix _) rfl rfl hE (by simp) (by simp)
   | false =>
     rw [a0] at g
     cases k:b.b9 with
     | true =>
       rw [k] at i
       rw [show cN t a b=cz (h+1) 0 by rw [yg.1 k,JU]]
       refine ⟨[2,14],by simp, λ p => ?_⟩
       rcases h3 e with rfl | rfl | rfl<;>exact fP (p:=p) (up:=[(2::14::p,_)]) aY (λ _=>[]) [hc g,hc i,dc zs] _ [] (.ai [2,14,0] 4 0 _ false) [([2,14,0],_)] (by kernel_rfl) (br.fix _) rfl rfl hE (by simp) (by simp)
     | false =>
       rw [k] at i
       have ⟨q,s⟩:=gW f
       have ⟨b1,b2⟩:=gW hb
       have ⟨w,E,x,u,y⟩:=CN H f hb
       have d:h<=3:=by omega
       have B:=(xK d H.low q b1 (by omega)).fN
       have F:=(xK d H.low s b2 (by omega)).fN
       have A:=(xK d H.low E H.top (by omega)).fN
       have v:=(xK d H.low q b2 (by omega)).fN
       have z:=(xK d H.low s b1 (by omega)).fN
       have C := λ p=>WZ G d _ _ (cA w (by omega)) (cA x (by omega)) p
       have J:=IG G d _ _ (cA u (by omega)) (cA y (by omega))
       have I:=NY G e t
       have o:=IH G e a
       have l:=IH G e b
       refine ⟨[56],by simp, λ p => ?_⟩
       rcases h3 e with rfl | rfl | rfl<;>exact fP (p:=p) (up:=[(56::p,_)]) aY (λ _=>[]) [hc g,hc i,hc I,hc o,hc l,hc B,hc F,hc A,dc C,hc v,hc z,hc J] _ [] (.ai [56,0] 4 0 _ false) [([56,0],_)] (by kernel_rfl) (br.fix _) rfl rfl hE (by simp) (by simp)
def Dx {h:Nat} (e:h<=3) {t:aE h} {c n m:Nat} (H:df t c) {a b:ah h} (f:cJ a n) (hb:cJ b m) (g:n+m+7*c<=4398046511104):ag ab G 263 [a3 t.ay,aJ a,aJ b] (aJ (cN t a b)):=(xK G e H f hb (by have:=tF c e;omega)).fN
def Fb {h:Nat} (d:h<=3) {t:aE h} (T:kf 419430400000 t) {a b:ah h} (c:dn 419430400000 a) (hb:dn 419430400000 b):ag ab G 233 [a3 t.ay,aJ a,aJ b] (aJ (eC a b)):=aO [hc (NR G d t T a b c hb),hc (IG G d a b c hb)]
def eJ.neg {k:Nat}:∀ {h:Nat} {a:ah h},dn k a->dn k (kZ a)
 | 0,_,b=>cI.neg b
 | _+1,_,b=>⟨eJ.neg b.1,eJ.neg b.2⟩
def P5 {h:Nat} (c:h<=3) {t:aE h} (T:kf 419430400000 t) {a b:ah h} (d:dn 419430400000 a) (hb:dn 419430400000 b):ag ab G 201 [a3 t.ay,aJ a,aJ b] (aJ (eC a (kZ b))):=aO [hc (NR G c t T a b d hb),hc (II G c b hb),hc (IG G c a _ d (eJ.neg hb))]
def aar {h:Nat} (c:h<=3) {t:aE h} (T:kf 419430400000 t) {a:ah h} (b:dn 419430400000 a):ag ab G 159 [a3 t.ay,aJ a] (aJ (kZ a)):=aO [hc (vx G c t T a b),hc (II G c a b)]
def uF {h:Nat} (e:h<=3) {t:aE h} {c n m:Nat} (H:df t c) {a b:ah h} (f:cJ a n) (hb:cJ b m) (g:n+m+7*c<=4398046511104):ag ab G 232 [a3 t.ay,aJ a,aJ b] (aJ (cN t a b)):=aO [hc (NR G e t (H.sh (by omega)) a b (cA f (by omega)) (cA hb (by omega))),hc (Dx G e H f hb g)]
def W8 {h:Nat} (i:h+1<=3) {t:aE (h+1)} {c n:Nat} (H:df t c) {a:ah (h+1)} (d:cJ a n) (v:n+n+10*c<=4398046511104):ag ab G 297 [a3 t.ay,aJ a] (aJ (sM t a)):=by
 have ⟨f,g⟩:=gW d
 have ⟨o,r,j,s,u⟩:=CN H d d
 have b:h<=3:=by omega
 have q:=Dx G b H.low f f (by omega)
 have l:=Dx G b H.low g g (by omega)
 have p:=Dx G b H.low r H.top (by omega)
 have k:=II G b _ (cA j (by omega))
 have m:=IG G b _ _ (cA o (by omega)) (eJ.neg (cA j (by omega)))
 exact aO [hc (NY G i t),hc (IH G i a),hc q,hc l,hc p,hc k,hc m]
def aas {h:Nat} (b:h+1<=3) {t:aE (h+1)} {c n:Nat} (H:df t c) {a:ah (h+1)} (e:cJ a n) (g:n+n+10*c<=4398046511104):ag ab G 301 [a3 t.ay,aJ a] (aJ (sM t a)):=by
 have f:=vx G b t (H.sh (by omega)) a (cA e (by omega))
 have n:=W8 G b H e g
 rcases h3 b with rfl | rfl | rfl<;>exact aO [hc f,hc n]
def Uu {h:Nat} {t:aE (h+1)} (b:t.bK) {a:ah (h+1)} (f:aR t a≠0):aR t.1 (sM t a)≠0 := λ e=>by
 rw [ah.qO b.1.pos] at e
 have j:=aC.sc (x:=aR t.1 t.2) (by have:=b.2.1;grind)
 have hv:aR t a=aR t.1 a.1+aR t.1 a.2*aC.rt (aR t.1 t.2):=rfl
 by_cases d:aR t.1 a.2=0
 rw [d] at e hv
 have:aR t.1 a.1*aR t.1 a.1=0:=by grind
 rcases aC.vl this with c | c<;>exact f (by rw [hv,c];grind)
 have g:=(ah.red b.1).2 _ d
 refine b.2.2 (cN t.1 a.1 (fj t.1 a.2)) ?_
 rw [ah.val_mul b.1.pos]
 generalize aR t.1 a.1=x at *
 generalize aR t.1 a.2=y at *
 generalize aR t.1 (fj t.1 a.2)=i at *
 generalize aR t.1 t.2=r at *
 grind
def anW (a:Rat) (d:a≠0) (c:cI 419430400000 a):ag ab G 296 [aV ((1:Int):Rat),aV a] (.aS [aV a⁻¹, .int .i64 0]):=by
 have:=aks G ((1:Int):Rat) a d ⟨bs DX (by decide),bs DX (by decide)⟩ c
 rwa [show ((1:Int):Rat)/a=a⁻¹ by rw [<- aje];rfl] at this
def aeq (a:Rat) (d:a≠0) (c:cI 419430400000 a):aZ ab G:=hc (anW G a d c)
def W6:∀ {h:Nat} (f:h<=3) {t:aE h} {c n:Nat} (H:df t c) (g:t.bK) {a:ah h} (j:aR t a≠0) (d:cJ a n) (i:fx c h n+10*c<=4398046511104),ag ab G 279 [a3 t.ay,aJ a] (.aS [aJ (fj t a), .bool true])
 | 0,_,t,c,n,H,g,a,j,d,i=>by
   have o:n+n+10*c<=4398046511104:=i
   exact bQ aY [hc (xp G 1 (by decide) (by decide)),aeq G a (λ e=>j (by rw [e];rfl)) (cA d (by omega))] [([17],jT (h:=0) (fj t a))] (.aS [.ai [17] 4 0 1 false, .bool true]) (by kernel_rfl) (λ σ h=>mL (dR (one h)))
 | h + 1,f,t,c,n,H,g,a,j,d,i=>by
   have o:n+fx c h (n+n+c)+c+10*c<=4398046511104:=i
   have v:n+n+c<=fx c h (n+n+c):=by
     cases h with
     | zero=>show _<=_+_;omega
     | succ k=>show _<=_+_+_;omega
   have b:h<=3:=by omega
   have p:=um H.bL.bL d
   have u:=Uu g j
   have y:=W6 b H.low g.1 u p (by omega)
   have m:=rf g.1 H.low.bL p u
   have ⟨w,r⟩:=gW d
   have B:=W8 G f H d (by omega)
   have C:=tF c b
   have ⟨l,q,x⟩:=xK G b H.low w m (by omega)
   have z:=Dx G b H.low r m (by omega)
   have A:=II G b _ (cA (k6 H.low.bL.bL r m) (by omega))
   simp only [cr,cX,or_false] at q
   rcases q with rfl | rfl | rfl<;>rcases h3 f with rfl | rfl | rfl<;>exact bQ aY [hc (NY G f t),hc B,hc y,hc (IH G f a),dc x,hc z,hc A] [([40],_)] (.aS [.ai [40] 4 0 _ false, .bool true]) (by kernel_rfl) (λ σ h=>mL (dR (one h)))
def P4 {h:Nat} (e:h<=3) {t:aE h} {c n:Nat} (H:df t c) (f:t.bK) {a:ah h} (j:aR t a≠0) (d:cJ a n) (g:fx c h n+10*c<=4398046511104):ag ab G 244 [a3 t.ay,aJ a] (.aS [aJ (fj t a), .int .i64 0]):=by
 have i:n<=fx c h n:=by
   cases h with
   | zero=>show _<=_+_;omega
   | succ k=>show _<=_+_+_;omega
 exact aO [hc (vx G e t (H.sh (by omega)) a (cA d (by omega))),hc (W6 G e H f j d g)]
def aqw (x:Rat):decide ((ae x.num.natAbs:Int)>0) = !decide (x=0):=by
 by_cases h:x=0
 have a:=gL.2 (show x.num.natAbs=0 by rw [h];rfl)
 rw [decide_eq_true h,dw (by omega)];rfl
 have:ae x.num.natAbs≠0 := λ e=>h (by have:=gL.1 e;exact oh.1 (by omega))
 rw [decide_eq_false h,eL (by omega)];rfl
def aql (l:List Rat) (n:l.length<=9000):ag ab G 125 [bb l] (.bool (l.all λ x=>decide (x=0))):=by
 have d:∀ i (a:i<l.length) (b:Bool),(!decide (l.getD i 0=0))=b->decide ((ae l[i].num.natAbs:Int)>0)=b := λ i a b e=>by
   rw [dJ,du a] at e
   rw [<- e];exact aqw _
 rcases first (λ i => !decide (l.getD i 0=0)) l.length with h | ⟨i,a,c,k⟩
 have e:(l.all λ x=>decide (x=0))=true:=by
   rw [List.all_eq_true]
   intro x m
   obtain ⟨i,a,rfl⟩:=fZ.1 m
   have:=h i a
   rw [dJ,du a] at this
   simpa using this
 rw [e]
 exact bB [fb (ao 125) 0 0 0 l.length (λ i=>[(0,bb l),(2, .bool false),(3, .int .i64 (i:Int))]) (.exit 0) [] (λ i a=>rd [bm 7 aV a,aQ 12 4 aV a,ho 16 (dV l[i].num.natAbs),hb 17 (d i a false (h i a)),a9 9 i] ) (rd [cx 7 aV l] )]
 have e:(l.all λ x=>decide (x=0))=false:=by
   rw [List.all_eq_false]
   refine ⟨_,bc a, ?_⟩
   rw [dJ,du a] at c
   simpa using c
 rw [e]
 exact bB [fb (ao 125) 0 0 0 i (λ i=>[(0,bb l),(2, .bool false),(3, .int .i64 (i:Int))]) .ret [(2, .bool false)] (λ j g=>rd [bm 7 aV (show j<l.length by omega),aQ 12 4 aV (show j<l.length by omega),ho 16 (dV (l[j]'(by omega)).num.natAbs),hb 17 (d j (by omega) false (k j g)),a9 9 j] ) (rd [bm 7 aV a,aQ 12 4 aV a,ho 16 (dV l[i].num.natAbs),hb 17 (d i a true c)] )]
def AA {h:Nat} (c:h<=3) (a:ah h):ag ab G 125 [aJ a] (.bool a.b9):=aql G _ (te c a)
def aeG (x:Rat) (b:cI 419430400000 x):aZ ab G:=hc (ald G x b)
def Ok:{h:Nat}->(a:ah h)->dn 419430400000 a->List (aZ ab G)
 | 0,a,b=>[aeG G a b]
 | _+1,a,b=>Ok a.1 b.1++Ok a.2 b.2
def Ys {h:Nat} (d:h<=3) (a:ah h) (c:dn 419430400000 a):ag ab G 163 [aJ a, .int .i64 ((2 ^ h:Nat):Int)] (.bool true):=by
 rcases h4 d with rfl | rfl | rfl | rfl<;>exact aO (Ok G a c)
def VP:{h:Nat}->(t:aE h)->h<=3->kf 419430400000 t->List (aZ ab G)
 | 0,_,_,_=>[]
 | _+1,t,b,H=>VP t.1 (by omega) H.1++[hc (Ys G (by omega) t.2 H.2)]
def Yv {h:Nat} (b:h<=3) (t:aE h) (H:kf 419430400000 t):ag ab G 162 [a3 t.ay] (.bool true):=by
 rcases h4 b with rfl | rfl | rfl | rfl<;>exact aO (VP G t (by decide) H)
def OM {h:Nat} (b:h<=3) (t:aE h) (H:kf 419430400000 t) (a:ah h) (e:dn 419430400000 a):ag ab G 117 [a3 t.ay,aJ a] (.bool true):=by
 have h1:=Yv G b t H
 have d:=Ys G b a e
 rcases h4 b with rfl | rfl | rfl | rfl<;>exact aO [hc h1,hc d]
def aej (a b:Rat) (d:cI 419430400000 a) (hb:cI 419430400000 b):aZ ab G:=hc (akZ G a b d hb)
def aeA (a:Rat) (c:cI 419430400000 a):aZ ab G:=hc (ak8 G a c)
def yz:{h:Nat}->(a b:ah h)->dn 419430400000 a->dn 419430400000 b->List (aZ ab G)
 | 0,a,b,c,hb=>[aej G a b c hb]
 | _+1,a,b,c,hb=>yz a.1 b.1 c.1 hb.1++yz a.2 b.2 c.2 hb.2
def zB:{h:Nat}->(a:ah h)->dn 419430400000 a->List (aZ ab G)
 | 0,a,b=>[aeA G a b]
 | _+1,a,b=>zB a.1 b.1++zB a.2 b.2
def Yf {h:Nat} (e:h<=3) (t:aE h) (a b:ah h) (c:dn 419430400000 a) (hb:dn 419430400000 b) (p:bT):cu ab G 85 [a3 t.ay,aJ a,aJ b] p [] { val := .ai ((20*2 ^ h-2)::p) 4 0 (2 ^ h) false,rd:=[],up:=[((20*2 ^ h-2)::p,some (jT (eC a b)))] }:=by
 rcases h4 e with rfl | rfl | rfl | rfl
 exact fP (p:=p) (up:=[(18::p,_)]) aY (λ _=>[]) (yz G a b c hb) _ [] (.ai [18,0] 4 0 _ false) [([18,0],_)] (by kernel_rfl) (br.fix _) rfl rfl hE (by simp) (by simp)
 exact fP (p:=p) (up:=[(38::p,_)]) aY (λ _=>[]) (yz G a b c hb) _ [] (.ai [38,0] 4 0 _ false) [([38,0],_)] (by kernel_rfl) (br.fix _) rfl rfl hE (by simp) (by simp)
 exact fP (p:=p) (up:=[(78::p,_)]) aY (λ _=>[]) (yz G a b c hb) _ [] (.ai [78,0] 4 0 _ false) [([78,0],_)] (by kernel_rfl) (br.fix _) rfl rfl hE (by simp) (by simp)
 exact fP (p:=p) (up:=[(158::p,_)]) aY (λ _=>[]) (yz G a b c hb) _ [] (.ai [158,0] 4 0 _ false) [([158,0],_)] (by kernel_rfl) (br.fix _) rfl rfl hE (by simp) (by simp)
def Ax {h:Nat} (e:h<=3) (t:aE h) (a b:ah h) (d:dn 419430400000 a) (hb:dn 419430400000 b):ag ab G 85 [a3 t.ay,aJ a,aJ b] (aJ (eC a b)):=A1 (Yf G e t a b d hb []) (dR s3)
def apy {h:Nat} (d:h<=3) (t:aE h) (a:ah h) (b:dn 419430400000 a) (p:bT):cu ab G 149 [a3 t.ay,aJ a] p [] { val := .ai ((16*2 ^ h-2)::p) 4 0 (2 ^ h) false,rd:=[],up:=[((16*2 ^ h-2)::p,some (jT (kZ a)))] }:=by
 rcases h4 d with rfl | rfl | rfl | rfl
 exact fP (p:=p) (up:=[(14::p,_)]) aY (λ _=>[]) (zB G a b) _ [] (.ai [14,0] 4 0 _ false) [([14,0],_)] (by kernel_rfl) (br.fix _) rfl rfl hE (by simp) (by simp)
 exact fP (p:=p) (up:=[(30::p,_)]) aY (λ _=>[]) (zB G a b) _ [] (.ai [30,0] 4 0 _ false) [([30,0],_)] (by kernel_rfl) (br.fix _) rfl rfl hE (by simp) (by simp)
 exact fP (p:=p) (up:=[(62::p,_)]) aY (λ _=>[]) (zB G a b) _ [] (.ai [62,0] 4 0 _ false) [([62,0],_)] (by kernel_rfl) (br.fix _) rfl rfl hE (by simp) (by simp)
 exact fP (p:=p) (up:=[(126::p,_)]) aY (λ _=>[]) (zB G a b) _ [] (.ai [126,0] 4 0 _ false) [([126,0],_)] (by kernel_rfl) (br.fix _) rfl rfl hE (by simp) (by simp)
def Ay {h:Nat} (d:h<=3) (t:aE h) (a:ah h) (c:dn 419430400000 a):ag ab G 149 [a3 t.ay,aJ a] (aJ (kZ a)):=A1 (apy G d t a c []) (dR s3)
def Yu {h:Nat} (d:h<=3) (t:aE h) (a b:ah h) (e:dn 419430400000 a) (hb:dn 419430400000 b):ag ab G 217 [a3 t.ay,aJ a,aJ b] (aJ (eC a (kZ b))):=aO [hc (Ay G d t b hb),hc (Ax G d t a _ e (eJ.neg hb))]
def Yk {h:Nat} (b:h<=3) (t:aE h) (x:Rat) (p:bT):cu ab G 126 [a3 t.ay,aV x] p [] { val := .ai ((11*2 ^ h-8)::p) 4 0 (2 ^ h) false,rd:=[],up:=[((11*2 ^ h-8)::p,some (jT (cz h x)))] }:=by
 have z:=r7 G 0 (by decide) (by decide)
 rcases h4 b with rfl | rfl | rfl | rfl
 exact fP (p:=p) (up:=[(3::p,_)]) aY (λ _=>[]) (bG 8 (hc z)) _ [] (.ai [3,0] 4 0 _ false) [([3,0],_)] (by kernel_rfl) (br.fix _) rfl rfl hE (by simp) (by simp)
 exact fP (p:=p) (up:=[(14::p,_)]) aY (λ _=>[]) (bG 8 (hc z)) _ [] (.ai [14,0] 4 0 _ false) [([14,0],_)] (by kernel_rfl) (br.fix _) rfl rfl hE (by simp) (by simp)
 exact fP (p:=p) (up:=[(36::p,_)]) aY (λ _=>[]) (bG 8 (hc z)) _ [] (.ai [36,0] 4 0 _ false) [([36,0],_)] (by kernel_rfl) (br.fix _) rfl rfl hE (by simp) (by simp)
 exact fP (p:=p) (up:=[(80::p,_)]) aY (λ _=>[]) (bG 8 (hc z)) _ [] (.ai [80,0] 4 0 _ false) [([80,0],_)] (by kernel_rfl) (br.fix _) rfl rfl hE (by simp) (by simp)
def xU {h:Nat} (b:h<=3) (t:aE h) (x:Rat):ag ab G 126 [a3 t.ay,aV x] (aJ (cz h x)):=A1 (Yk G b t x []) (dR s3)
def V7 (x:aC):eD x = -1 \/ eD x=0 \/ eD x=1:=by
 rcases aC.xF x with h | h | h
 exact .inr (.inr h.1)
 exact .inr (.inl h.1)
 exact .inl h.1
def Wb (x y:aC):cF.wrap (eD x*eD y)=eD x*eD y:=by
 rw [cM]
 rcases V7 x with h | h | h<;>rcases V7 y with a | a | a<;>rw [h,a]<;>decide
def Wa {h:Nat} {t:aE (h+1)} (b:t.Pos) (a:ah (h+1)):eD (aR t a)=if eD (aR t.1 a.2)=0 \/ eD (aR t.1 a.1)=eD (aR t.1 a.2) then eD (aR t.1 a.1) else if eD (aR t.1 a.1)=0 then eD (aR t.1 a.2) else eD (aR t.1 a.1)*eD (aR t.1 (sM t a)):=by
 rw [<- A2 b, <- A2 b.1, <- A2 b.1, <- A2 b.1];rfl
def WY {h n c L:Nat} (a:2 ^ (h+1)*(n+10*c)<=L):2 ^ h*(n+10*c)<=L/\2 ^ h*(n+n+c+10*c)<=L/\n+n+20*c<=L:=by
 rw [ej,Nat.mul_assoc] at a
 have h1:1<=2 ^ h:=sJ
 have b:=c6 (2*(n+10*c)) h1
 refine ⟨bs (fw _ (by omega)) a,bs (fw _ (by omega)) a,by omega⟩
def aeD (a:Rat) (c:cI 419430400000 a):aZ ab G:=hc (M8 G a c)
def Dq:∀ {h:Nat} (j:h<=3) {t:aE h} {c n:Nat} (H:df t c) (e:t.Pos) {a:ah h} (f:cJ a n) (p:2 ^ h*(n+10*c)<=4398046511104),ag ab G 200 [a3 t.ay,aJ a] (.int .i64 (eD (aR t a)))
 | 0,_,t,c,n,H,e,a,f,p=>by
   rw [<- A2 e]
   exact aO [aeD G a (cA f (by omega))]
 | h+1,j,t,c,n,H,e,a,f,p=>by
   have ⟨v,A,E⟩:=WY p
   have b:h<=3:=by omega
   have ⟨k,g⟩:=gW f
   have v1:=Dq b H.low e.1 k v
   have v2:=Dq b H.low e.1 g v
   have D:=Dq b H.low e.1 (um H.bL.bL f) A
   rw [Wa e a]
   generalize z:eD (aR t.1 a.1)=x at *
   generalize F:eD (aR t.1 a.2)=y at *
   by_cases o:y=0
   rw [if_pos (.inl o)]
   have i:(y==0)=true:=beq_iff_eq.2 o
   rcases h3 j with rfl | rfl | rfl<;>exact aO [hc v1,hc v2,hb 43 i]
   have i:(y==0)=false:=beq_eq_false_iff_ne.2 o
   by_cases m:x=y
   rw [if_pos (.inr m)]
   have b1:(x==y)=true:=beq_iff_eq.2 m
   rcases h3 j with rfl | rfl | rfl<;>exact aO [hc v1,hc v2,hb 43 i,hb 47 b1]
   have b1:(x==y)=false:=beq_eq_false_iff_ne.2 m
   rw [if_neg (by rw [not_or];exact ⟨o,m⟩)]
   by_cases l:x=0
   rw [if_pos l]
   have b2:(x==0)=true:=beq_iff_eq.2 l
   rcases h3 j with rfl | rfl | rfl<;>exact aO [hc v1,hc v2,hb 43 i,hb 47 b1,hb 52 b2]
   have b2:(x==0)=false:=beq_eq_false_iff_ne.2 l
   rw [if_neg l]
   have s:=Wb (aR t.1 a.1) (aR t.1 (sM t a))
   rw [z] at s
   have d:=H.low.bL.bL
   have C:=uF G b H.low k k (by omega)
   have B:=uF G b H.low g g (by omega)
   have r:=k6 d g g
   have w:=uF G b H.low H.top r (by omega)
   have q:=P5 G b (H.low.sh (by omega)) (cA (k6 d k k) (by omega)) (cA (k6 d H.top r) (by omega))
   rw [show eC (cN t.1 a.1 a.1) (kZ (cN t.1 t.2 (cN t.1 a.2 a.2)))=sM t a by rw [ah.mul_comm t.1 t.2];rfl] at q
   rcases h3 j with rfl | rfl | rfl<;>exact aO [hc v1,hc v2,hb 43 i,hb 47 b1,hb 52 b2,hc C,hc B,hc w,hc q,hc D,hw 74 s]
def amz {h:Nat} (e:h+1<=3) {t:aE (h+1)} {c:Nat} (H:df t c) (b:t.Pos) (f:100*c<=4398046511104):ag ab G 200 [a3 t.1.ay,aJ t.2] (.int .i64 1):=by
 have d:2 ^ h<=4:=by rcases h3 e with rfl | rfl | rfl<;>decide
 have:=Dq G (by omega) H.low b.1 H.top (bs (c6 _ d) (by omega))
 rwa [aC.qK.2 b.2] at this
def VC:{h:Nat}->(t:aE h)->{c:Nat}->h<=3->df t c->t.Pos->100*c<=4398046511104->List (aZ ab G)
 | 0,_,_,_,_,_,_=>[]
 | _+1,t,_,e,H,a,d=>VC t.1 (by omega) H.low a.1 d++[hc (amz G e H a d)]
def Wq:cI 419430400000 (0:Rat):=cI.zero.mono (by decide)
def amA {h:Nat} (a:h<=3) {t:aE h} {c:Nat} (H:df t c) (e:t.Pos) (d:100*c<=4398046511104):ag ab G 240 [a3 t.ay] (.bool true):=by
 have T:=H.sh (by omega)
 have q:=xp G 0 (by decide) (by decide)
 have r:=Dy G a t T 0 Wq
 have f:=vx G a t T _ (cA (ah.CL h 0) (by omega))
 rcases h4 a with rfl | rfl | rfl | rfl<;>exact aO (hc q::hc r::hc f::VC G t a H e d)
def Ii {h:Nat} (d:h<=3) {t:aE h} {c n:Nat} (H:df t c) (f:t.Pos) {a:ah h} (g:cJ a n) (j:2 ^ h*(n+10*c)<=4398046511104) (e:100*c<=4398046511104):ag ab G 205 [a3 t.ay,aJ a] (.int .i64 (eD (aR t a))):=by
 have h1:1<=2 ^ h:=sJ
 have k:=c6 (n+10*c) h1
 have i:ag ab G 199 ([a3 t.ay]++[.sl 1 [aJ a]]) (.bool true):=aO [hc (vx G d t (H.sh (by omega)) a (cA g (by omega))),hc (amA G d H f e)]
 exact aO [j1 [3] 1 [aJ a] i,hc (Dq G d H f g j)]
def ant {h:Nat} (a:h+1<=3) {t:aE (h+1)} (T:kf 419430400000 t):ag ab G 271 [a3 t.ay, .int .i64 (h:Int)] (aJ (mV (cz h 0) (cz h 1))):=by
 have r:=NV G a t T
 have z := λ p=>N1 G a p
 have q:=xp G 1 (by decide) (by decide)
 rcases h3 a with rfl | rfl | rfl<;>exact bQ aY [hc r,dc z,hc q] [([2,17],_)] (.ai [2,17] 4 0 _ false) (by kernel_rfl) (λ σ h=>dR (one h))
def Ue {h:Nat} {t:aE (h+1)} {a b:ah (h+1)} (c:a.2=cz h 0):cN t a b=((cN t.1 a.1 b.1,cN t.1 a.1 b.2):ah (h+1)):=by
 show ((eC (cN t.1 a.1 b.1) (cN t.1 (cN t.1 a.2 b.2) t.2),eC (cN t.1 a.1 b.2) (cN t.1 a.2 b.1)):ah (h+1))=_
 rw [c,Ex,Ex,Ex,Pm,Pm]
def ain {h:Nat} {t:aE (h+1)} {a b:ah (h+1)} (hb:b.2=cz h 0):cN t a b=((cN t.1 a.1 b.1,cN t.1 a.2 b.1):ah (h+1)):=by
 show ((eC (cN t.1 a.1 b.1) (cN t.1 (cN t.1 a.2 b.2) t.2),eC (cN t.1 a.1 b.2) (cN t.1 a.2 b.1)):ah (h+1))=_
 rw [hb,JU,JU,Ex,Pm,ah.zero_add]
def aim {h:Nat} {t:aE (h+1)} {a b:ah (h+1)} (c:a.2=cz h 0) (hb:b.2=cz h 0):cN t a b=((cN t.1 a.1 b.1,cz h 0):ah (h+1)):=by
 rw [Ue c,hb,JU]
def aey (a b:Rat) (d:cI 419430400000 a) (hb:cI 419430400000 b):aZ ab G:=hc (ak7 G a b d hb)
def apq (a b:ah 0) (d:dn 419430400000 a) (hb:dn 419430400000 b) (p:bT):cu ab G 87 [.sl 1 [],aJ a,aJ b] p [] { val := .ai (11::p) 4 0 1 false,rd:=[],up:=[(11::p,some (jT (cN (h:=0) () a b)))] } :=
 fP (p:=p) (up:=[(11::p,_)]) aY (λ _=>[]) [aey G a b d hb] _ [] (.ai [11,0] 4 0 _ false) [([11,0],_)] (by kernel_rfl) (br.fix _) rfl rfl hE (by simp) (by simp)
abbrev aiF:List (List Nat):=[[11],[48],[54],[55],[80]]
def j9 : ∀ {h:Nat} (j:h<=3) {t:aE h} {c n m:Nat} (H:df t c) {a b:ah h} (i:cJ a n) (hb:cJ b m) (r:n+m+pN c h<=4398046511104),E6 ab G 87 [a3 t.ay,aJ a,aJ b] aiF (cN t a b)
 | 0,_,t,c,n,m,H,a,b,i,hb,r=>⟨[11],by simp, λ p=>apq G a b (cA i (by omega)) (cA hb (by omega)) p⟩
 | h + 1,j,t,c,n,m,H,a,b,i,hb,r=>by
   have E:n+m+(pN c h+(c+c))<=4398046511104:=r
   have M:=T6 c h
   have d:h<=3:=by omega
   have g:=AA G d a.2
   have e:=AA G d b.2
   have z:=r7 G 0 (by decide) (by decide)
   have C:=xU G d t.1 0
   have ⟨s,w⟩:=gW i
   have ⟨b1,b2⟩:=gW hb
   have ⟨y,F,J,A,L⟩:=CN H i hb
   have ⟨l,k,q⟩:=j9 d H.low s b1 (by omega)
   have x:=(j9 d H.low s b2 (by omega)).fN
   have u:=(j9 d H.low w b1 (by omega)).fN
   simp only [cr,cX,or_false] at k
   cases a0:a.2.b9 with
   | true =>
     rw [a0] at g
     cases f:b.2.b9 with
     | true =>
       rw [f] at e
       rw [aim (yg.1 a0) (yg.1 f)]
       refine ⟨[48],by simp, λ p => ?_⟩
       rcases k with rfl | rfl | rfl | rfl | rfl<;>rcases h3 j with rfl | rfl | rfl<;>exact fP (p:=p) (up:=[(48::p,_)]) aY (λ _=>[]) [hc g,hc e,dc q,hc z,hc C] _ [] (.ai [48,0] 4 0 _ false) [([48,0],_)] (by kernel_rfl) (br.fix _) rfl rfl hE (by simp) (by simp)
     | false =>
       rw [f] at e
       rw [Ue (yg.1 a0)]
       refine ⟨[54],by simp, λ p => ?_⟩
       rcases k with rfl | rfl | rfl | rfl | rfl<;>rcases h3 j with rfl | rfl | rfl<;>exact fP (p:=p) (up:=[(54::p,_)]) aY (λ _=>[]) [hc g,hc e,dc q,hc x] _ [] (.ai [54,0] 4 0 _ false) [([54,0],_)] (by kernel_rfl) (br.fix _) rfl rfl hE (by simp) (by simp)
   | false =>
     rw [a0] at g
     cases f:b.2.b9 with
     | true =>
       rw [f] at e
       rw [ain (yg.1 f)]
       refine ⟨[55],by simp, λ p => ?_⟩
       rcases k with rfl | rfl | rfl | rfl | rfl<;>rcases h3 j with rfl | rfl | rfl<;>exact fP (p:=p) (up:=[(55::p,_)]) aY (λ _=>[]) [hc g,hc e,dc q,hc u] _ [] (.ai [55,0] 4 0 _ false) [([55,0],_)] (by kernel_rfl) (br.fix _) rfl rfl hE (by simp) (by simp)
     | false =>
       rw [f] at e
       have o:=(j9 d H.low s b1 (by omega)).fN
       have I:=(j9 d H.low w b2 (by omega)).fN
       have B:=(j9 d H.low F H.top (by omega)).fN
       have D := λ p=>Yf G d t.1 _ _ (cA y (by omega)) (cA J (by omega)) p
       have K:=Ax G d t.1 _ _ (cA A (by omega)) (cA L (by omega))
       refine ⟨[80],by simp, λ p => ?_⟩
       rcases h3 j with rfl | rfl | rfl<;>exact fP (p:=p) (up:=[(80::p,_)]) aY (λ _=>[]) [hc g,hc e,hc o,hc I,hc B,dc D,hc x,hc u,hc K] _ [] (.ai [80,0] 4 0 _ false) [([80,0],_)] (by kernel_rfl) (br.fix _) rfl rfl hE (by simp) (by simp)
def Kb (P:Program) (G:Nat->Option (List aa)) (f:FuncId) (args:List aa) (L:List (List Nat)) {h:Nat} (a:ah h):Prop:=∃ l,l∈L/\∀ p,cu P G f args p [] { val := .aS [.ai (l++p) 4 0 (2 ^ h) false, .int .i64 0],rd:=[],up:=[(l++p,some (jT a))] }
def Kb.fN {P:Program} {G:Nat->Option (List aa)} {f:FuncId} {args:List aa} {L:List (List Nat)} {h:Nat} {a:ah h} (H:Kb P G f args L a):ag P G f args (.aS [aJ a, .int .i64 0]):=by
 have ⟨l,_,b⟩:=H
 exact A1 (b []) (mL (dR s3))
def agl {h:Nat} {t:aE (h+1)} (c:t.bK) {a:ah (h+1)} (b:aR t a≠0) (d:a.2=cz h 0):aR t.1 a.1≠0/\fj t a=((fj t.1 a.1,cz h 0):ah (h+1)):=by
 have e:aR t a=aR t.1 a.1:=by
   show aR t.1 a.1+aR t.1 a.2*_=_
   rw [d,ah.val_zero];grind
 refine ⟨λ k=>b (e.trans k),ah.inj c ?_⟩
 rw [ah.I3 c b,e]
 show _=aR t.1 (fj t.1 a.1)+aR t.1 (cz h 0)*_
 rw [ah.I3 c.1 (λ k=>b (e.trans k)),ah.val_zero];grind
def Yr {h:Nat} (l:h+1<=3) {t:aE (h+1)} {c n:Nat} (H:df t c) {a:ah (h+1)} (d:cJ a n) (u:n+n+10*c<=4398046511104):ag ab G 169 [a3 t.ay,aJ a] (aJ (sM t a)):=by
 have ⟨f,e⟩:=gW d
 have ⟨m,j,q,r,s⟩:=CN H d d
 have b:h<=3:=by omega
 have hb:=tF c b
 have p:=(j9 G b H.low f f (by omega)).fN
 have k:=(j9 G b H.low e e (by omega)).fN
 have o:=(j9 G b H.low j H.top (by omega)).fN
 have i:=Yu G b t.1 _ _ (cA m (by omega)) (cA q (by omega))
 rcases h3 l with rfl | rfl | rfl<;>exact aO [hc p,hc k,hc o,hc i]
def aes (a:Rat) (d:a≠0) (c:cI 419430400000 a):aZ ab G:=hc (ak4 G a d c)
def ao9 (a:Rat) (b:a≠0):((ae a.num.natAbs:Int)==0)=false:=beq_eq_false_iff_ne.2 (by
 have:ae a.num.natAbs≠0 := λ e=>b (by have:=gL.1 e;exact oh.1 (by omega))
 omega)
def j0 (k:Nat) (a:Rat):aZ ab G:=ho k (dV a.num.natAbs)
def oK (k:Nat) (a:Rat) (c:a≠0):aZ ab G:=hb k (ao9 a c)
abbrev aiA:List (List Nat):=[[16],[35],[45]]
def OR:∀ {h:Nat} (m:h<=3) {t:aE h} {c n:Nat} (H:df t c) (d:t.bK) {a:ah h} (g:aR t a≠0) (f:cJ a n) (j:fx c h n+10*c<=4398046511104),Kb ab G 181 [a3 t.ay,aJ a] aiA (fj t a)
 | 0,_,t,c,n,H,d,a,g,f,j=>by
   have o:n+n+10*c<=4398046511104:=j
   have x:(show Rat from a)≠0 := λ e=>g (by rw [e];rfl)
   exact ⟨[16],by simp, λ p=>fP (p:=p) (up:=[(16::p,_)]) aY (λ _=>[]) [j0 G 20 a,oK G 21 a x,aes G a x (cA f (by omega))] _ [] (.aS [.ai [16,0] 4 0 1 false, .int .i64 0]) [([16,0],jT (h:=0) (fj t a))] (by kernel_rfl) (br.fix _) rfl rfl hE (by simp) (by simp)⟩
 | h + 1,m,t,c,n,H,d,a,g,f,j=>by
   have o:n+fx c h (n+n+c)+c+10*c<=4398046511104:=j
   have J:=w2 c h (n+n+c)
   have v:=ah.Cq c h (show n<=n+n+c by omega)
   have b:h<=3:=by omega
   have w:=um H.bL.bL f
   have B:=Uu d g
   have ⟨r,y⟩:=gW f
   have z:=r7 G 0 (by decide) (by decide)
   have F:=xU G b t.1 0
   have k:=AA G b a.2
   cases a0:a.2.b9 with
   | true =>
     rw [a0] at k
     have ⟨C,e⟩:=agl d g (yg.1 a0)
     rw [e]
     have ⟨l,i,q⟩:=OR b H.low d.1 C r (by omega)
     simp only [cr,cX,or_false] at i
     refine ⟨[35],by simp, λ p => ?_⟩
     rcases i with rfl | rfl | rfl<;>rcases h3 m with rfl | rfl | rfl<;>exact fP (p:=p) (up:=[(35::p,_)]) aY (λ _=>[]) [hc k,dc q,hc z,hc F] _ [] (.aS [.ai [35,0] 4 0 _ false, .int .i64 0]) [([35,0],_)] (by kernel_rfl) (br.fix _) rfl rfl hE (by simp) (by simp)
   | false =>
     rw [a0] at k
     have D:=(OR b H.low d.1 B w (by omega)).fN
     have s:=rf d.1 H.low.bL w B
     have E:=Yr G m H f (by omega)
     have K:=tF c b
     have ⟨l,i,q⟩:=j9 G b H.low r s (by omega)
     have I:=Ay G b t.1 _ (cA y (by omega))
     have A:=(j9 G b H.low (ah.CJ y) s (by omega)).fN
     rw [ah.mul_neg] at A
     simp only [cr,cX,or_false] at i
     refine ⟨[45],by simp, λ p => ?_⟩
     rcases i with rfl | rfl | rfl | rfl | rfl<;>rcases h3 m with rfl | rfl | rfl<;>exact fP (p:=p) (up:=[(45::p,_)]) aY (λ _=>[]) [hc k,hc E,hc D,dc q,hc I,hc A] _ [] (.aS [.ai [45,0] 4 0 _ false, .int .i64 0]) [([45,0],_)] (by kernel_rfl) (br.fix _) rfl rfl hE (by simp) (by simp)
def OQ {h:Nat} (e:h<=3) {t:aE h} {c n:Nat} (H:df t c) (d:t.bK) {a:ah h} (f:aR t a≠0) (g:cJ a n) (i:fx c h n+10*c<=4398046511104):ag ab G 181 [a3 t.ay,aJ a] (.aS [aJ (fj t a), .int .i64 0]):=(OR G e H d f g i).fN
def ll (a:Rat) (c:cI 419430400000 a):aZ ab G:=hc (alc G a c)
def AE:∀ {h:Nat} (e:h<=3) {t:aE h} {c n:Nat} (H:df t c) (b:t.Pos) {a:ah h} (f:cJ a n) (l:2 ^ h*(n+10*c)<=4398046511104),ag ab G 121 [a3 t.ay,aJ a] (.int .i64 (eD (aR t a)))
 | 0,_,t,c,n,H,b,a,f,l=>by
   rw [<- A2 b]
   exact aO [ll G a (cA f (by omega))]
 | h+1,e,t,c,n,H,b,a,f,l=>by
   have ⟨p,q,w⟩:=WY l
   have d:h<=3:=by omega
   have ⟨v,s⟩:=gW f
   have v1:=AE d H.low b.1 v p
   have v2:=AE d H.low b.1 s p
   have u:=AE d H.low b.1 (um H.bL.bL f) q
   rw [Wa b a]
   generalize r:eD (aR t.1 a.1)=x at *
   generalize z:eD (aR t.1 a.2)=y at *
   by_cases k:y=0
   rw [if_pos (.inl k)]
   have g:(y==0)=true:=beq_iff_eq.2 k
   rcases h3 e with rfl | rfl | rfl<;>exact aO [hc v1,hc v2,hb 41 g]
   have g:(y==0)=false:=beq_eq_false_iff_ne.2 k
   by_cases i:x=y
   rw [if_pos (.inr i)]
   have b1:(x==y)=true:=beq_iff_eq.2 i
   rcases h3 e with rfl | rfl | rfl<;>exact aO [hc v1,hc v2,hb 41 g,hb 45 b1]
   have b1:(x==y)=false:=beq_eq_false_iff_ne.2 i
   rw [if_neg (by rw [not_or];exact ⟨k,i⟩)]
   by_cases j:x=0
   rw [if_pos j]
   have b2:(x==0)=true:=beq_iff_eq.2 j
   rcases h3 e with rfl | rfl | rfl<;>exact aO [hc v1,hc v2,hb 41 g,hb 45 b1,hb 49 b2]
   have b2:(x==0)=false:=beq_eq_false_iff_ne.2 j
   rw [if_neg j]
   have o:=Wb (aR t.1 a.1) (aR t.1 (sM t a))
   rw [r] at o
   have nm:=Yr G e H f (by omega)
   rcases h3 e with rfl | rfl | rfl<;>exact aO [hc v1,hc v2,hb 41 g,hb 45 b1,hb 49 b2,hc nm,hc u,hw 59 o]
def aqp {h:Nat} (e:h+1<=3) {t:aE (h+1)} {c:Nat} (H:df t c) (b:t.Pos) (f:100*c<=4398046511104):ag ab G 121 [a3 t.1.ay,aJ t.2] (.int .i64 1):=by
 have d:2 ^ h<=4:=by rcases h3 e with rfl | rfl | rfl<;>decide
 have:=AE G (by omega) H.low b.1 H.top (bs (c6 _ d) (by omega))
 rwa [aC.qK.2 b.2] at this
def VD:{h:Nat}->(t:aE h)->{c:Nat}->h<=3->df t c->t.Pos->100*c<=4398046511104->List (aZ ab G)
 | 0,_,_,_,_,_,_=>[]
 | _+1,t,_,e,H,a,d=>VD t.1 (by omega) H.low a.1 d++[hc (aqp G e H a d)]
def apF {h:Nat} (a:h<=3) {t:aE h} {c:Nat} (H:df t c) (e:t.Pos) (d:100*c<=4398046511104):ag ab G 214 [a3 t.ay] (.bool true):=by
 have f:=Yv G a t (H.sh (by omega))
 rcases h4 a with rfl | rfl | rfl | rfl<;>exact aO (hc f::VD G t a H e d)
def apm {h:Nat} (e:h<=3) {t:aE h} {c n:Nat} (H:df t c) (d:t.Pos) {a:ah h} (f:cJ a n) (g:2 ^ h*(n+10*c)<=4398046511104):ag ab G 81 [a3 t.ay,aJ a] (.int .i64 (eD (aR t a))):=aO [hc (AE G e H d f g)]
def Az {h:Nat} (d:h<=3) {t:aE h} {c n:Nat} (H:df t c) (f:t.Pos) {a:ah h} (g:cJ a n) (i:2 ^ h*(n+10*c)<=4398046511104) (b:100*c<=4398046511104):ag ab G 164 [a3 t.ay,aJ a] (.int .i64 (eD (aR t a))):=by
 have h1:1<=2 ^ h:=sJ
 have j:=c6 (n+10*c) h1
 exact aO [hc (OM G d t (H.sh (by omega)) a (cA g (by omega))),hc (apF G d H f b),hc (AE G d H f g i)]
def apH {h:Nat} (c:h+1<=3) (t:aE (h+1)):ag ab G 261 [a3 t.ay, .int .i64 (h:Int)] (aJ (mV (cz h 0) (cz h 1))):=by
 have z := λ p=>Yk G c t 0 p
 have a:=r7 G 0 (by decide) (by decide)
 have q:=r7 G 1 (by decide) (by decide)
 rcases h3 c with rfl | rfl | rfl
 exact bQ aY [hc a,dc z,hc q] [([14,3],_)] (.ai [14,3] 4 0 _ false) (by kernel_rfl) (λ σ h=>dR (one h))
 exact bQ aY [hc a,dc z,hc q] [([36,3],_)] (.ai [36,3] 4 0 _ false) (by kernel_rfl) (λ σ h=>dR (one h))
 exact bQ aY [hc a,dc z,hc q] [([80,3],_)] (.ai [80,3] 4 0 _ false) (by kernel_rfl) (λ σ h=>dR (one h))
instance:cU 4 js:=⟨inferInstance,rfl, λ d hd=>by
 have:js.cells=[.bool false, .aq, .bool false, .aq]:=rfl
 rw [this] at hd
 simp only [cr,cX,or_false] at hd
 rcases hd with rfl | rfl | rfl | rfl<;>exact bg.pure,rfl⟩
def ve:Nat->List (List aa)
 | 0=>[[js]]
 | h+1=>[]::(ve h).map λ l=>bG (2 ^ h) (aV 0)++l
theorem pJ:∀ {h:Nat} {l:List aa},l∈ve h->cq 4 l
 | 0,l,a=>by rcases bJ.1 a with rfl;infer_instance
 | h+1,l,a=>by
   rcases cr.1 a with rfl | a
   infer_instance
   obtain ⟨k,b,rfl⟩:=List.mem_map.1 a
   refine ⟨λ c hc => ?_⟩
   rcases List.mem_append.1 hc with h1 | h1
   rw [(List.mem_replicate.1 h1).2];infer_instance
   exact (pJ b).all c h1
def alL {ρ : bT->bT} {i:bT} {n:Nat}:dX ρ [(i,⟨bG n js,4,false⟩)]=[(ρ i,⟨bG n js,4,false⟩)]:=by rw [fK,fL,fM,jl,List.map_replicate];rfl
def wM {n:Nat} (b:n=2 \/ n=4 \/ n=6 \/ n=8) (p:bT):cu ab G 310 [.aq, .int .i64 (n:Int)] p [] { val := .ai (18::p) 4 0 0 false,rd:=[],up:=[(18::p,some ⟨bG n js,4,false⟩)] }:=by
 rcases b with rfl | rfl | rfl | rfl<;>exact fP (p:=p) (up:=[(18::p,_)]) aY (λ _=>[]) [] _ [] (.ai [18,0] 4 0 0 false) [([18,0],_)] (by kernel_rfl) (br.fix _) rfl rfl alL (by simp) (by simp)
def FC {h:Nat} (f:h+1<=3) (a b:ah h):ag ab G 300 [.sl 1 [aJ a,aJ b]] (aJ (mV a b)):=by
 have g2:=wM G (n:=2) (by simp)
 have d:=wM G (n:=4) (by simp)
 have e:=wM G (n:=8) (by simp)
 rcases h3 f with rfl | rfl | rfl
 exact bQ aY [dc g2] [([18,33],_)] (.ai [18,33] 4 0 _ false) (by kernel_rfl) (λ σ h=>dR (one h))
 exact bQ aY [dc d] [([18,33],_)] (.ai [18,33] 4 0 _ false) (by kernel_rfl) (λ σ h=>dR (one h))
 exact bQ aY [dc e] [([18,33],_)] (.ai [18,33] 4 0 _ false) (by kernel_rfl) (λ σ h=>dR (one h))
def abW {h:Nat} (f:h+1<=3) {l:List aa} (a:l∈ve h):ag ab G 300 [.sl 1 [aJ (cz h 0), .sl 4 l]] (.sl 4 (bG (2 ^ h) (aV 0)++l)):=by
 have g2:=wM G (n:=2) (by simp)
 have c:=wM G (n:=4) (by simp)
 have d:=wM G (n:=6) (by simp)
 have e:=wM G (n:=8) (by simp)
 rcases h3 f with rfl | rfl | rfl<;>simp only [ve,List.map_cons,List.map_nil,cr,cX,or_false] at a
 subst a
 exact bQ aY [dc g2] [([18,33],⟨[aV 0,js],4,false⟩)] (.ai [18,33] 4 0 2 false) (by kernel_rfl) (λ σ h=>im (l:=[aV 0,js]) (one h))
 rcases a with rfl | rfl
 exact bQ aY [dc g2] [([18,33],⟨[aV 0,aV 0],4,false⟩)] (.ai [18,33] 4 0 2 false) (by kernel_rfl) (λ σ h=>im (l:=[aV 0,aV 0]) (one h))
 exact bQ aY [dc c] [([18,33],⟨[aV 0,aV 0,aV 0,js],4,false⟩)] (.ai [18,33] 4 0 4 false) (by kernel_rfl) (λ σ h=>im (l:=[aV 0,aV 0,aV 0,js]) (one h))
 rcases a with rfl | rfl | rfl
 exact bQ aY [dc c] [([18,33],⟨bG 4 (aV 0),4,false⟩)] (.ai [18,33] 4 0 4 false) (by kernel_rfl) (λ σ h=>im (l:=[aV 0,aV 0,aV 0,aV 0]) (one h))
 exact bQ aY [dc d] [([18,33],⟨bG 6 (aV 0),4,false⟩)] (.ai [18,33] 4 0 6 false) (by kernel_rfl) (λ σ h=>im (l:=[aV 0,aV 0,aV 0,aV 0,aV 0,aV 0]) (one h))
 exact bQ aY [dc e] [([18,33],⟨bG 7 (aV 0)++[js],4,false⟩)] (.ai [18,33] 4 0 8 false) (by kernel_rfl) (λ σ h=>im (l:=[aV 0,aV 0,aV 0,aV 0,aV 0,aV 0,aV 0,js]) (one h))
def fQ (f:Nat) {h:Nat} (t:aE h) (a:ah h):Prop:=(mW t a->∃ w,aR t w*aR t w=aR t a/\ag ab G f [a3 t.ay,aJ a] (.aS [aJ w, .bool true]))/\(¬ mW t a->∃ l,l∈ve h/\ag ab G f [a3 t.ay,aJ a] (.aS [.sl 4 l, .bool false]))
def fQ.yes {f:Nat} {h:Nat} {t:aE h} {a w:ah h} (e:aR t w*aR t w=aR t a) (hv:ag ab G f [a3 t.ay,aJ a] (.aS [aJ w, .bool true])):fQ G f t a:=⟨λ _=>⟨w,e,hv⟩, λ c=>(c ⟨w,e⟩).elim⟩
def fQ.no {f:Nat} {h:Nat} {t:aE h} {a:ah h} {l:List aa} (e : ¬ mW t a) (c:l∈ve h) (hv:ag ab G f [a3 t.ay,aJ a] (.aS [.sl 4 l, .bool false])):fQ G f t a:=⟨λ h=>(e h).elim, λ _=>⟨l,c,hv⟩⟩
def Vv {q w:Rat} (h:w*w=q):∃ r:Rat,r*r=q/\0<=r:=by
 by_cases a:0<=w
 exact ⟨w,h,a⟩
 exact ⟨-w,by rw [<- h];grind,by grind⟩
def WE {q:Rat}:mW (h:=0) () q↔∃ r:Rat,r*r=q:=⟨λ ⟨w,e⟩=>⟨w,aC.Hy ((yh w w).symm.trans e)⟩, λ ⟨r,e⟩=>⟨r,by show ek r*ek r=ek q;rw [yh,e]⟩⟩
def anb (q:Rat) (a:cI 201326592000 q):fQ G 289 (h:=0) () q:=by
 by_cases e:∃ r:Rat,r*r=q
 have ⟨w,e⟩:=e
 have ⟨r,h1,b⟩:=Vv e
 refine fQ.yes G (w:=r) (by show ek r*ek r=ek q;rw [yh,h1]) ?_
 exact bQ aY [hc (akz G q r a h1 b)] [([16],jT (h:=0) r)] (.aS [.ai [16] 4 0 1 false, .bool true]) (by kernel_rfl) (λ σ h=>mL (dR (one h)))
 refine fQ.no G (l:=[js]) (λ h=>e (WE.1 h)) (by simp [ve]) ?_
 exact bQ aY [hc (aky G q a λ r c=>e ⟨r,c⟩)] [([16],⟨[js],4,false⟩)] (.aS [.ai [16] 4 0 1 false, .bool false]) (by kernel_rfl) (λ σ h=>mL (im (l:=[js]) (one h)))
theorem aj4 {k:Nat} {l:List aa} (h:cq k l):cU 1 (.sl k l):=⟨inferInstance,rfl, λ d hd=>by
 have:(aa.sl k l).cells=[.sl k l]:=rfl
 rw [this,bJ] at hd
 subst hd
 exact bg.pure,rfl⟩
def WO {h:Nat} (i:h+1<=3) {t:aE (h+1)} {c n:Nat} (H:df t c) (j:t.bK) {a:ah (h+1)} (D:cJ a n) (hv:a.2.b9=true) (F:fx c h c+n+20*c<=4398046511104)
   (v:fQ G 289 t.1 a.1) (s:fQ G 289 t.1 (cN t.1 a.1 (fj t.1 t.2))):fQ G 289 t a:=by
 have d:h<=3:=by omega
 have ⟨C,y⟩:=gW D
 have E:=w2 c h c
 have z:=Ag G d _ (cA y (by omega))
 rw [hv] at z
 have T:=H.low.sh (by omega)
 have q:=xp G 0 (by decide) (by decide)
 have r:=Dy G d t.1 T 0 Wq
 have f:=(vP j.1).1 hv
 by_cases p:mW t.1 a.1
 have ⟨w,e,hw⟩:=v.1 p
 have k:=FC G i w (cz h 0)
 refine fQ.yes G (w:=mV w (cz h 0)) (ah.WJ f e) ?_
 rcases h3 i with rfl | rfl | rfl<;>exact aO [hc z,hc hw,hc q,hc r,j1 [45] 1 [aJ w,aJ (cz _ 0)] (A:=[]) k]
 have ⟨l,B,hw⟩:=v.2 p
 haveI:=pJ B
 have dc:aR t.1 t.2≠0:=by have:=j.2.1;grind
 have u:=P4 G d H.low j.1 dc H.top (by omega)
 have x:=uF G d H.low C (rf j.1 H.low.bL H.top dc) (by omega)
 by_cases o:mW t.1 (cN t.1 a.1 (fj t.1 t.2))
 have ⟨w,e,g⟩:=s.1 o
 have k:=FC G i (cz h 0) w
 refine fQ.yes G (w:=mV (cz h 0) w) (ah.WK j f e) ?_
 rcases h3 i with rfl | rfl | rfl<;>exact aO [hc z,hc hw,hc u,hc x,hc g,hc q,hc r,j1 [66] 1 [aJ (cz _ 0),aJ w] (A:=[]) k]
 have ⟨m,b,g⟩:=s.2 o
 haveI:=pJ b
 haveI:cU 1 (.sl 4 m):=aj4 inferInstance
 haveI:cq 4 (bG (2 ^ h) (aV 0)++m):=pJ (h:=h+1) (c5 _ (uj b))
 have k:=abW G i b
 refine fQ.no G (ah.WI j f p o) (c5 _ (uj b)) ?_
 rcases h3 i with rfl | rfl | rfl<;>exact aO [hc z,hc hw,hc u,hc x,hc g,hc q,hc r,j1 [66] 1 [aJ (cz _ 0), .sl 4 m] (A:=[]) k]
def W5 {h:Nat} (d:h<=3) {t:aE h} {c n:Nat} (H:df t c) {a:ah h} (e:cJ a n) (f:n+10*c+1<=4398046511104):ag ab G 302 [a3 t.ay,aJ a] (aJ (cN t a (cz h (1/2)))):=by
 have r:=Dy G d t (H.sh (by omega)) (1/2) ⟨by rw [uo.1];exact lG,by rw [uo.2];exact lG⟩
 have m:=uF G d H e (ah.rV (n:=1) h (q:=1/2) (by rw [uo.1];decide) (by rw [uo.2];decide)) (by omega)
 exact aO [hc (akt G),hc r,hc m]
def WN {h:Nat} (p:h+1<=3) {t:aE (h+1)} {c n k:Nat} (H:df t c) (i:t.bK) {a:ah (h+1)} (m:cJ a n) {w:ah h} (hw:cJ w k) (l:aR t.1 w≠0) (j:aR t.1 (eC w w)≠0) (q:n+fx c h (k+1)+20*c<=4398046511104) :
   ag ab G 239 [aJ w] (.bool false)/\ag ab G 233 [a3 t.1.ay,aJ w,aJ w] (aJ (eC w w))/\ag ab G 244 [a3 t.1.ay,aJ (eC w w)] (.aS [aJ (fj t.1 (eC w w)), .int .i64 0])/\ag ab G 232 [a3 t.1.ay,aJ a.2,aJ (fj t.1 (eC w w))] (aJ (cN t.1 a.2 (fj t.1 (eC w w)))):=by
 have d:h<=3:=by omega
 have o:=w2 c h (k+1)
 have g:=cA hw (by omega)
 have f:=ah.My hw
 have z:=Ag G d w g
 rw [show w.b9=false from by cases e:w.b9 with
   | false=>rfl
   | true=>exact (l ((vP i.1).1 e)).elim] at z
 exact ⟨z,Fb G d (H.low.sh (by omega)) g g,P4 G d H.low i.1 j f (by omega),uF G d H.low (gW m).2 (rf i.1 H.low.bL f j) (by omega)⟩
def anc {h:Nat} (f:h+1<=3) {t:aE (h+1)} {c n:Nat} (H:df t c) (d:t.bK) {a:ah (h+1)} (j:cJ a n) (hv:a.2.b9=false)
   (bA:n+fx c h (dP c h (n+dP c h (n+n+c)+3+c)+1)+20*c<=4398046511104)
   (P:fQ G 289 t.1 (sM t a)) (M:∀ x:ah h,cJ x (n+dP c h (n+n+c)+3+c)->fQ G 289 t.1 x):fQ G 289 t a:=by
 have b:h<=3:=by omega
 have ⟨u,uI⟩:=gW j
 have Z:=u3 c h (n+n+c)
 have ae8:=u3 c h (n+dP c h (n+n+c)+3+c)
 have ae9:=w2 c h (dP c h (n+dP c h (n+n+c)+3+c)+1)
 have z:=Ag G b _ (cA uI (by omega))
 rw [hv] at z
 have T:=H.low.sh (by omega)
 have E:aR t.1 a.2≠0 := λ e=>by rw [(vP d.1).2 e] at hv;cases hv
 have N:=aas G f H j (by omega)
 by_cases s0:mW t.1 (sM t a)
 have ⟨m,r,s⟩:=P.1 s0
 have sm:=vQ d.1 H.low.bL H.low.rd r (um H.bL.bL j)
 have ⟨Q,Y⟩:=ah.QG d E r
 have p:=Fb G b T (cA u (by omega)) (cA sm (by omega))
 have q:=P5 G b T (cA u (by omega)) (cA sm (by omega))
 have U:=ah.zw u sm
 have X:=ah.zw u (ah.CJ sm)
 have h1:=W5 G b H.low U (by omega)
 have S:=W5 G b H.low X (by omega)
 have O:=ah.ji (ah.B6 H.low.bL.bL U) (show _<=n+dP c h (n+n+c)+3+c by omega)
 have R:=ah.ji (ah.B6 H.low.bL.bL X) (show _<=n+dP c h (n+n+c)+3+c by omega)
 have qi:=M _ O
 have Br:=M _ R
 by_cases v:mW t.1 (cN t.1 (eC a.1 m) (cz h (1/2)))
 have ⟨w,i,hw⟩:=qi.1 v
 have ⟨w0,g,e⟩:=ah.FB d E r (i.trans Q)
 have ⟨B,I,K,F⟩:=WN G f H d j (vQ d.1 H.low.bL H.low.rd i O) w0 g (by omega)
 have k:=FC G f w (cN t.1 a.2 (fj t.1 (eC w w)))
 refine fQ.yes G (w:=mV w (cN t.1 a.2 (fj t.1 (eC w w)))) e ?_
 rcases h3 f with rfl | rfl | rfl<;>exact aO [hc z,hc N,hc s,hc p,hc q,hc h1,hc hw,hc B,hc I,hc K,hc F,j1 [91] 1 [aJ w,aJ (cN t.1 a.2 (fj t.1 (eC w w)))] (A:=[]) k]
 have ⟨hY,J,o⟩:=qi.2 v
 haveI:=pJ J
 by_cases C:mW t.1 (cN t.1 (eC a.1 (kZ m)) (cz h (1/2)))
 have ⟨w,i,hw⟩:=Br.1 C
 have ⟨w0,g,e⟩:=ah.FB (n := - aR t.1 m) d E (by rw [<- r];grind) (i.trans (Y.trans (by rw [sG])))
 have ⟨B,I,K,F⟩:=WN G f H d j (vQ d.1 H.low.bL H.low.rd i R) w0 g (by omega)
 have k:=FC G f w (cN t.1 a.2 (fj t.1 (eC w w)))
 refine fQ.yes G (w:=mV w (cN t.1 a.2 (fj t.1 (eC w w)))) e ?_
 rcases h3 f with rfl | rfl | rfl<;>exact aO [hc z,hc N,hc s,hc p,hc q,hc h1,hc o,hc S,hc hw,hc B,hc I,hc K,hc F,j1 [113] 1 [aJ w,aJ (cN t.1 a.2 (fj t.1 (eC w w)))] (A:=[]) k]
 have ⟨lq,D,L⟩:=Br.2 C
 haveI:=pJ D
 refine fQ.no G (l:=[]) (λ y=>(ah.WG d y r Q Y).elim v C) (cS) ?_
 rcases h3 f with rfl | rfl | rfl<;>exact bQ aY [hc z,hc N,hc s,hc p,hc q,hc h1,hc o,hc S,hc L] [] (.aS [.aq, .bool false]) (by kernel_rfl) (λ σ _=>mL (fi 4))
 have ⟨l,hl,s⟩:=P.2 s0
 haveI:=pJ hl
 refine fQ.no G (l:=[]) (λ y=>s0 (ah.WL d y)) (cS) ?_
 rcases h3 f with rfl | rfl | rfl<;>exact bQ aY [hc z,hc N,hc s] [] (.aS [.aq, .bool false]) (by kernel_rfl) (λ σ _=>mL (fi 4))
end
end Go.Proofs.YtpcofcmencgkbaaGreat
