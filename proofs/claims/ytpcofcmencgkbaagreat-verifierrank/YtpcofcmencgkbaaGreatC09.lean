/- For the claim of VerifierRank: parts TP6, TP7, XT4, XT5, XT6, TV4, TP8, TP9, TPA, TPB, XT7, XT8, TPC, XT9, TPD, XTA, XTB, XTC, XTD, XTE, XTF, XTG, XTH, TV5, TV6, XTI, XTJ, XTK, XTL. -/
import Derived.Test.YtpcofcmencgkbaaGreatC08
import Derived.Test.YtpcofcmencgkbaaGreatC06
import Derived.Test.YtpcofcmencgkbaaGreatC05
set_option linter.defProp false
set_option linter.unusedSectionVars false
set_option linter.unusedSimpArgs false
set_option linter.unusedVariables false
set_option maxRecDepth 100000
open Bool renaming false_ne_true->yj,false_or->mX,not_and->A8,or_assoc->uv,or_eq_false_iff->po
open Classical renaming choose_spec->oi,propDecidable->AW
open Go.Proofs.Tryz renaming prog->ab
open Go.Proofs.YtpcofcmencgkbaaGreat.fQ renaming no->EA,yes->Ez
open Go.aF renaming Id->bT,hb->fh
open Go.aF.cu renaming j7->fP,Oa->yi
open Go.aF.ah renaming eJ->dn,qh->mW,add->eC,drop->bd,flat->dp,e9->dP,Gw->uo,inv->fj,b9->kE,Te->vP,gz->fx,ms->cJ,CI->rf,ji->JV,w7->k6,CJ->Pq,CK->um,w8->gW,mul->cN,mul_comm->Pp,pair->mV,rat->cz,sa->vQ,sh->cA,val->aR,val_add->Ey,val_mul->A3,val_neg->q9,tT->sI,val_zero->om
open Go.aF.aI renaming G->fD,add->EC,Cn->A5,Co->A6,join->c0,mul->A7,of->ur,rat->eb,pb->lI
open Go.aF.bg renaming fixed->pn
open Go.aF.aC renaming ofRat->ek,rt->b5,ep->eD,xF->uq,qJ->Pn
open Go.aF.aD renaming In->sN,eI->iJ,gH->sO,oI->kg,m3->k7,nS->JW,adv->Pr,nil->gp,M1->A4
open Go.aF.aE renaming eJ->kf,drop->c7,ay->vR,zU->ea
open Go.aF.ag renaming xM->bQ
open Go.aF.View renaming agg->EB,aq->fi,ai->kY,pure->jw,aS->vO
open Go.aF.c9 renaming cons->cp,nil->iv,pure->jx
open Int renaming natAbs_natCast->gE
open Lean.Grind.OrderedRing renaming mul_nonneg->ZL
open Lean.Grind.Ring renaming sub_eq_add_neg->sG
open List renaming any_eq_false->uu,any_eq_true->yk,eq_nil_of_length_eq_zero->sP,ext_getElem->ou,getD_eq_getElem?_getD->dJ,getElem?_eq_getElem->du,getElem?_eq_some_iff->eu,getElem_mem->bc,length_map->aM,length_pos_iff->hO,length_take->cZ,map_congr_left->p8,map_take->Ed,mem_append->en,mem_cons->cr,mem_cons_of_mem->c5,mem_cons_self->cS,mem_iff_getElem->fZ,mem_map->bn,mem_map_of_mem->uj,mem_of_mem_take->gq,mem_singleton->bJ,not_mem_nil->cX,replicate->bG,take_append_of_le_length->Er,take_length->gn,take_of_length_le->hM
open Nat renaming le_refl->a4,le_trans->bs,mul_le_mul_right->c6,pow_le_pow_right->dv
set_option maxHeartbeats 2000000
open Go.aF Go.Proofs Go.Lib
namespace Go.Proofs.YtpcofcmencgkbaaGreat
def Wt {q:Rat} {n:Nat} (a:cJ (h:=0) q n) (b:n<=2199023255552):cI 201326592000 q:=ah.Uc (k:=201326592000) a (by omega) q (bJ.2 rfl)
section
variable (G:Nat->Option (List aa))
def vw:∀ {h:Nat} (i:h<=2) {t:aE h} {c n:Nat} (H:df t c) (b:t.bK) {a:ah h} (f:cJ a n) (g:fV c h n<=2199023255552),fQ G 289 t a
 | 0,_,_,c,n,H,b,a,f,g=>anb G a (Wt f g)
 | h + 1,i,t,c,n,H,b,a,f,g=>by
   have k:fV c h n+fV c h (n+fx c h c+c)+fV c h (n+n+c)+fV c h (n+dP c h (n+n+c)+3+c)+(n+fx c h (dP c h (n+dP c h (n+n+c)+3+c)+1)+20*c)+(fx c h c+n+20*c)+2 ^ (h+1)*(n+10*c)<=2199023255552:=g
   have d:h<=2:=by omega
   cases e:a.2.b9 with
   | true =>
     have dc:aR t.1 t.2≠0:=by have:=b.2.1;grind
     exact WO G (by omega) H b f e (by omega) (vw d H.low b.1 (gW f).1 (by omega)) (vw d H.low b.1 (k6 H.low.bL.bL (gW f).1 (rf b.1 H.low.bL H.top dc)) (by omega))
   | false=>exact anc G (by omega) H b f e (by omega) (vw d H.low b.1 (um H.bL.bL f) (by omega)) λ x j=>vw d H.low b.1 j (by omega)
def WM {h:Nat} (i:h<=3) {t:aE h} {c n:Nat} (H:df t c) (b:t.bK) {a:ah h} (d:cJ a n) (g:rS a) (j:gK c n):fQ G 289 t a/\∀ w,aR t w*aR t w=aR t a->cJ w (dP c 2 n+dP c 2 (n+fx c 2 c+c)):=by
 unfold gK at j
 by_cases f:h<=2
 exact ⟨vw G f H b d (by have:=HY (c:=c) (n:=n) f;omega), λ w e=>JV (vQ b H.bL H.rd e d) (by have:=Src.Sj c n f;omega)⟩
 obtain rfl:h=3:=by omega
 have dc:aR t.1 t.2≠0:=by have:=b.2.1;grind
 exact ⟨WO G i H b d g (by omega) (vw G (by decide) H.low b.1 (gW d).1 (by omega)) (vw G (by decide) H.low b.1 (k6 H.low.bL.bL (gW d).1 (rf b.1 H.low.bL H.top dc)) (by show fV c 2 (n+fx c 2 c+c)<=_;omega)), λ w e=>ah.ama b H ((vP b.1).1 g) d e⟩
def aki {h:Nat} (f:h<=3) {t:aE h} {c n:Nat} (H:df t c) (j:t.bK) {a:ah h} (u:cJ a n) (p:rS a) (m:gK c n) (s:100*c<=4398046511104) (d:0<=aR t a) :
   (sN ⟨h,t⟩ (b5 (aR t a))->ag ab G 269 [a3 t.ay,aJ a] (.aS [aJ (aD.bp ⟨h,t⟩ (b5 (aR t a))), .bool true]))/\(¬ sN ⟨h,t⟩ (b5 (aR t a))->ag ab G 269 [a3 t.ay,aJ a] (.aS [.aq, .bool false])):=by
 have ⟨⟨q,y⟩,r⟩:=WM G f H j u p m
 unfold gK at m
 refine ⟨λ v => ?_, λ i => ?_⟩
 have ⟨w,e,hw⟩:=q ((Iz d).2 v)
 have o:=r w e
 have x:2 ^ h*(dP c 2 n+dP c 2 (n+fx c 2 c+c)+10*c)<=4398046511104:=by
   have:2 ^ h<=8:=by rcases h4 f with rfl | rfl | rfl | rfl<;>decide
   exact bs (c6 _ this) (by omega)
 have g:=Ii G f H j.pos o x s
 by_cases i:aR t w<0
 rw [Pn.2 i] at g
 rw [kg (T:=⟨h,t⟩) j (a:=ah.neg w) (z5 d (by rw [q9, <- e];grind) (by rw [q9];grind))]
 exact aO [hc hw,hc g,hc (aar G f (H.sh (by omega)) (cA o (by omega)))]
 rw [kg (T:=⟨h,t⟩) j (a:=w) (z5 d e (by grind))]
 rcases uq (aR t w) with ⟨k,_⟩ | ⟨k,_⟩ | ⟨_,k⟩
 rw [k] at g;exact aO [hc hw,hc g]
 rw [k] at g;exact aO [hc hw,hc g]
 exact (i k).elim
 have ⟨l,p,hw⟩:=y λ h=>i ((Iz d).1 h)
 exact aO [hc hw]
def aiU {h:Nat} (f:h+1<=3) {t:aE (h+1)} {c:Nat} (H:df t c) (a:t.bK) (d:gK c c):∃ l,ag ab G 289 [a3 t.1.ay,aJ t.2] (.aS [.sl 4 l, .bool false]):=by
 unfold gK at d
 have ⟨l,_,h⟩:=(vw G (by omega) H.low a.1 H.top (by have:=HY (c:=c) (n:=c) (show h<=2 by omega);omega)).2 λ ⟨w,e⟩=>a.2.2 w e
 exact ⟨l,h⟩
def amC {h:Nat} (e:h+1<=3) {t:aE (h+1)} {c:Nat} (H:df t c) (b:t.bK) (d:100*c<=4398046511104):ag ab G 205 [a3 t.1.ay,aJ t.2] (.int .i64 1):=by
 have f:2 ^ h<=4:=by rcases h3 e with rfl | rfl | rfl<;>decide
 have:=Ii G (by omega) H.low b.1.pos H.top (bs (c6 _ f) (by omega)) d
 rwa [aC.qK.2 b.2.1] at this
noncomputable def VE:{h:Nat}->(t:aE h)->{c:Nat}->h<=3->df t c->t.bK->gK c c->100*c<=4398046511104->List (aZ ab G)
 | 0,_,_,_,_,_,_,_=>[]
 | _+1,t,_,e,H,d,f,b=>VE t.1 (by omega) H.low d.1 f b++[hc (vx G (by omega) t.1 (H.low.sh (by omega)) t.2 (cA H.top (by omega))),hc (amC G e H d b),hc (oi (aiU G e H d f))]
def alb {h:Nat} (b:h<=3) {t:aE h} {c:Nat} (H:df t c) (e:t.bK) (f:gK c c) (d:100*c<=4398046511104):ag ab G 268 [a3 t.ay] (.bool true):=by
 rcases h4 b with rfl | rfl | rfl | rfl<;>exact aO (VE G t b H e f d)
def NQ {h:Nat} (c:h<=3) (a:ah h) (p:bT):cu ab G 202 [aJ a] p [] { val := .ai (5::p) 4 0 (2 ^ h) false,rd:=[],up:=[(5::p,some (jT a))] }:=by
 rcases h4 c with rfl | rfl | rfl | rfl<;>exact fP (p:=p) (up:=[(5::p,_)]) aY (λ _=>[]) [] _ [] (.ai [5,0] 4 0 _ false) [([5,0],_)] (by kernel_rfl) (br.fix _) rfl rfl hE (by simp) (by simp)
def W3 {h:Nat} (c:h<=3) (a:ah h):ag ab G 202 [aJ a] (aJ a):=ag.xh (NQ G c a []) (dR s3)
def QR:{h:Nat}->(t:aE h)->h<=3->List (aZ ab G)
 | 0,_,_=>[]
 | _+1,t,b=>QR t.1 (by omega)++[hc (W3 G (by omega) t.2)]
def xz {h:Nat} (t:aE h):aN:=⟨t.ay.map bb,1,false⟩
def alK {ρ : bT->bT} {i:bT} {h:Nat} {t:aE h}:dX ρ [(i,xz t)]=[(ρ i,xz t)]:=by
 rw [fK,fL];unfold xz
 rw [fM,jl,List.map_map,show t.ay.map (aa.aX ρ ∘ bb)=t.ay.map bb from p8 λ x _=>bg.fix ρ]
def Vq {h:Nat} (b:h<=3) (t:aE h) (p:bT):cu ab G 270 [a3 t.ay] p [] { val := .ai (3::p) 1 0 h false,rd:=[],up:=[(3::p,some (xz t))] }:=by
 rcases h4 b with rfl | rfl | rfl | rfl<;>exact fP (p:=p) (up:=[(3::p,_)]) aY (λ _=>[]) (QR G t b) _ [] (.ai [3,0] 1 0 _ false) [([3,0],_)] (by kernel_rfl) (br.fix _) rfl rfl alK (by simp) (by simp)
def ak2 {h:Nat} (c:h<=3) (t:aE h):ag ab G 270 [a3 t.ay] (a3 t.ay):=ag.xh (Vq G c t []) (hH (b:=false) s3 (ea t))
def RD {T:aD} {x:ah T.1} (a:(T.push x).bK):(T.push x).bp (b5 (aR T.2 x))=mV (cz T.1 0) (cz T.1 1):=kg a (by
 show aR T.2 (cz T.1 0)+aR T.2 (cz T.1 1)*b5 (aR T.2 x)=_
 rw [om,sI,CW];grind)
def ak0 {h:Nat} (b:h<=3) {t:aE h} {c n:Nat} (H:df t c) (j:t.bK) {a:ah h} (l:cJ a n) (E:rS a) (v:gK c n) (o:gK c c) (m:100*c<=4398046511104) (u:0<=aR t a) (x:h=3->sN ⟨h,t⟩ (b5 (aR t a))) :
   ag ab G 237 [a3 t.ay,aJ a] (.aS [a3 (sO ⟨h,t⟩ a).2.ay,aJ ((sO ⟨h,t⟩ a).bp (b5 (aR t a))), .int .i64 0]):=by
 have F:fV c 2 n+fV c 2 (n+fx c 2 c+c)+(fx c 2 c+n+20*c)+8*(dP c 2 n+dP c 2 (n+fx c 2 c+c)+10*c)<=2199023255552:=v
 have I:=u3 c 2 n
 have f:=vx G b t (H.sh (by omega)) a (cA l (by omega))
 have r:=alb G b H j o m
 have s:=Ii G b H j.pos l (by
   have:2 ^ h<=8:=by rcases h4 b with rfl | rfl | rfl | rfl<;>decide
   exact bs (c6 _ this) (by omega)) m
 have ⟨z,B⟩:=aki G b H j l E v m u
 have ⟨k,w,s⟩:∃ k:Int,(k=0 \/ k=1)/\ag ab G 205 [a3 t.ay,aJ a] (.int .i64 k):=by
   rcases uq (aR t a) with ⟨e,_⟩ | ⟨e,_⟩ | ⟨_,e⟩
   exact ⟨1, .inr rfl,e▸s⟩
   exact ⟨0, .inl rfl,e▸s⟩
   exact absurd u (by grind)
 by_cases d:sN ⟨h,t⟩ (b5 (aR t a))
 have p:=z d
 rw [show sO ⟨h,t⟩ a=⟨h,t⟩ from if_pos d]
 have q:=ak2 G b t
 rcases w with rfl | rfl<;>exact aO [hc f,hc r,hc s,hc p,hc q]
 have p:=B d
 have i:h+1<=3:=by
   by_cases e:h=3
   exact (d (x e)).elim
   omega
 have D:0<aR t a:=by
   by_cases e:aR t a=0
   exfalso
   refine d ?_
   rw [e,aC.rt_eq (show (0:aC)<=0 by grind) (by grind)]
   exact ⟨cz h 0,om t⟩
   grind
 rw [show sO ⟨h,t⟩ a=aD.push ⟨h,t⟩ a from if_neg d,RD (T:=⟨h,t⟩) (aD.HV j D d)]
 have q := λ p=>Vq G b t p
 have C:=W3 G b a
 have y:=ant G i (t:=(t,a)) ⟨H.sh (by omega),cA l (by omega)⟩
 rcases w with rfl | rfl<;>rcases h3 i with rfl | rfl | rfl<;>exact bQ aY [hc f,hc r,hc s,hc p,dc q,hc C,SR [35] 1 ((vR (h:=_+1) (t,a)).map bb) (A:=[]) y] [([35],⟨(vR (h:=_+1) (t,a)).map bb,1,true⟩)] (.aS [.ai [35] 1 0 _ false,aJ (mV (cz _ 0) (cz _ 1)), .int .i64 0]) (by kernel_rfl) (λ σ h=>vO (cp (hH (one h) (ea _)) (jx (by intro c hc;simp at hc;rcases hc with rfl | rfl<;>exact bg.pure))))
def aiW {h:Nat} {t:aE h} {a:ah h} (d:aR t a<0) : ¬ mW t a := λ ⟨w,e⟩=>by
 by_cases c:0<=aR t w
 have:=ZL c c
 rw [e] at this
 grind
 have h1:0 <= - aR t w:=by grind
 have:=ZL h1 h1
 rw [show -aR t w * -aR t w=aR t w*aR t w by grind,e] at this
 grind
def aeN {h:Nat} {t:aE h} (a:t.bK) {v w:ah h} (hw:aR t w≠0) (b:aR t (eC w w)≠0):cN t (cz h (1/2)) (cN t v (fj t w))=cN t v (fj t (eC w w)):=ah.inj a (by
 have h1:=(ah.red a).2 _ hw
 have c:=(ah.red a).2 _ b
 rw [Pp,ah.I2 a.pos,A3 a.pos,A3 a.pos]
 rw [Ey] at c
 generalize aR t (fj t w)=i at *
 generalize aR t (fj t (eC w w))=j at *
 generalize aR t w=x at *
 generalize aR t v=y at *
 have:i=2*j:=by grind
 grind)
def Jk {h:Nat} (d:h+1<=3) (a b:ah h):ag ab G 216 [aJ a,aJ b] (aJ (mV a b)):=by
 rcases h3 d with rfl | rfl | rfl<;>exact bQ aY [] [([5],_)] (.ai [5] 4 0 _ false) (by kernel_rfl) (λ σ h=>dR (one h))
def aqr (q:Rat) (a:cI 201326592000 q):fQ G 165 (h:=0) () q:=by
 by_cases e:∃ r:Rat,r*r=q
 have ⟨w,e⟩:=e
 have ⟨r,h1,b⟩:=Vv e
 refine Ez G (w:=r) (by show ek r*ek r=ek q;rw [aC.ofRat_mul,h1]) ?_
 exact bQ aY [hc (apL G q r a h1 b)] [([16],jT (h:=0) r)] (.aS [.ai [16] 4 0 1 false, .bool true]) (by kernel_rfl) (λ σ h=>mL (dR (one h)))
 refine EA G (l:=[js]) (λ h=>e (WE.1 h)) (by simp [ve]) ?_
 exact bQ aY [hc (apK G q a λ r c=>e ⟨r,c⟩)] [([16],⟨[js],4,false⟩)] (.aS [.ai [16] 4 0 1 false, .bool false]) (by kernel_rfl) (λ σ h=>mL (im (l:=[js]) (one h)))
def YC {h:Nat} (d:h+1<=3) {t:aE (h+1)} {c n:Nat} (H:df t c) (f:t.bK) {a:ah (h+1)} (i:cJ a n) (e:2 ^ (h+1)*(n+10*c)<=4398046511104) (g:100*c<=4398046511104) (b:aR t a<0):fQ G 165 t a:=by
 have s:=Az G d H f.pos i e g
 rw [Pn.2 b] at s
 refine EA G (l:=[]) (aiW b) cS ?_
 rcases h3 d with rfl | rfl | rfl<;>exact bQ aY [hc s] [] (.aS [.aq, .bool false]) (by kernel_rfl) (λ σ _=>mL (fi 4))
def Nv {x:aC} (h : ¬ x<0):decide (eD x<0)=false:=decide_eq_false λ e=>by
 rcases uq x with ⟨k,_⟩ | ⟨k,_⟩ | ⟨_,k⟩
 rw [k] at e;exact absurd e (by decide)
 rw [k] at e;exact absurd e (by decide)
 exact h k
def YB {h:Nat} (i:h+1<=3) {t:aE (h+1)} {c n:Nat} (H:df t c) (d:t.bK) {a:ah (h+1)} (v:cJ a n) (hv:a.2.b9=true) (J:fx c h c+n+20*c<=4398046511104) (j:2 ^ (h+1)*(n+10*c)<=4398046511104) (I:100*c<=4398046511104) (E : ¬ aR t a<0)
   (B:fQ G 165 t.1 a.1) (A:fQ G 165 t.1 (cN t.1 a.1 (fj t.1 t.2))):fQ G 165 t a:=by
 have b:h<=3:=by omega
 have ⟨F,K⟩:=gW v
 have L:=w2 c h c
 have z:=AA G b a.2
 rw [hv] at z
 have q:=r7 G 0 (by decide) (by decide)
 have r:=xU G b t.1 0
 have s:=Az G i H d.pos v j I
 have p:=Nv E
 have g:=(vP d.1).1 hv
 have hb:=tF c b
 by_cases m:mW t.1 a.1
 have ⟨w,e,hw⟩:=B.1 m
 have k:=Jk G i w (cz h 0)
 refine Ez G (w:=mV w (cz h 0)) (ah.WJ g e) ?_
 rcases h3 i with rfl | rfl | rfl<;>exact aO [hc s,fh 46 p,hc q,hc r,hc z,hc hw,hc k]
 have ⟨l,D,hw⟩:=B.2 m
 haveI:=pJ D
 have dc:aR t.1 t.2≠0:=by have:=d.2.1;grind
 have x:=OQ G b H.low d.1 dc H.top (by omega)
 have y:=(j9 G b H.low F (rf d.1 H.low.bL H.top dc) (by omega)).fN
 by_cases o:mW t.1 (cN t.1 a.1 (fj t.1 t.2))
 have ⟨w,e,f⟩:=A.1 o
 have k:=Jk G i (cz h 0) w
 refine Ez G (w:=mV (cz h 0) w) (ah.WK d g e) ?_
 rcases h3 i with rfl | rfl | rfl<;>exact aO [hc s,fh 46 p,hc q,hc r,hc z,hc hw,hc x,hc y,hc f,hc k]
 have ⟨M,u,f⟩:=A.2 o
 haveI:=pJ u
 refine EA G (l:=[]) (ah.WI d g m o) cS ?_
 rcases h3 i with rfl | rfl | rfl<;>exact bQ aY [hc s,fh 46 p,hc q,hc r,hc z,hc hw,hc x,hc y,hc f] [] (.aS [.aq, .bool false]) (by kernel_rfl) (λ σ _=>mL (fi 4))
def apn:ag ab G 95 [.int .i64 1, .int .i64 2] (aV (1/2)):=by
 have:=Na G 1 2 (by decide) (by decide) (by decide) (by decide)
 rwa [show (((1:Int):Rat)/(((2:Nat):Int):Rat))=1/2 from rfl] at this
def YA {h:Nat} (o:h+1<=3) {t:aE (h+1)} {c n k:Nat} (H:df t c) (f:t.bK) {a:ah (h+1)} (m:cJ a n) {w:ah h} (hw:cJ w k) (e:aR t.1 w≠0) (l:aR t.1 (eC w w)≠0) (r:n+fx c h (k+1)+20*c+5<=4398046511104) :
   ag ab G 181 [a3 t.1.ay,aJ w] (.aS [aJ (fj t.1 w), .int .i64 0])/\ag ab G 87 [a3 t.1.ay,aJ a.2,aJ (fj t.1 w)] (aJ (cN t.1 a.2 (fj t.1 w)))/\ag ab G 87 [a3 t.1.ay,aJ (cz h (1/2)),aJ (cN t.1 a.2 (fj t.1 w))] (aJ (cN t.1 a.2 (fj t.1 (eC w w)))):=by
 have b:h<=3:=by omega
 have p:=ah.Cq c h (show k<=k+1 by omega)
 have hb:=tF c b
 have i:=rf f.1 H.low.bL hw e
 have j:=(gW m).2
 have g:=(j9 G b H.low (ah.rV (n:=1) h (q:=1/2) (by rw [uo.1];decide) (by rw [uo.2];decide)) (k6 H.low.bL.bL j i) (by omega)).fN
 rw [aeN f.1 e l] at g
 exact ⟨OQ G b H.low f.1 e hw (by omega),(j9 G b H.low j i (by omega)).fN,g⟩
def aqt {h:Nat} (f:h+1<=3) {t:aE (h+1)} {c n:Nat} (H:df t c) (d:t.bK) {a:ah (h+1)} (g:cJ a n) (hv:a.2.b9=false)
   (bA:n+fx c h (dP c h (n+dP c h (n+n+c)+3+c)+1)+20*c+5<=4398046511104) (U:2 ^ (h+1)*(n+10*c)<=4398046511104) (hC:100*c<=4398046511104) (F : ¬ aR t a<0)
   (Bq:fQ G 165 t.1 (ah.norm t a)) (sW:∀ x:ah h,cJ x (n+dP c h (n+n+c)+3+c)->fQ G 165 t.1 x):fQ G 165 t a:=by
 have b:h<=3:=by omega
 have ⟨j,uI⟩:=gW g
 have aqW:=u3 c h (n+n+c)
 have ae8:=u3 c h (n+dP c h (n+n+c)+3+c)
 have ae9:=w2 c h (dP c h (n+dP c h (n+n+c)+3+c)+1)
 have hb:=tF c b
 have z:=AA G b a.2
 rw [hv] at z
 have q:=r7 G 0 (by decide) (by decide)
 have r:=xU G b t.1 0
 have M:=xU G b t.1 (1/2)
 have fr:=apn G
 have s:=Az G f H d.pos g U hC
 have C:=Nv F
 have J:aR t.1 a.2≠0 := λ e=>by rw [(vP d.1).2 e] at hv;cases hv
 have ⟨T,o,arl,arn,Ih⟩:=CN H g g
 have E:=(j9 G b H.low j j (by omega)).fN
 have D:=(j9 G b H.low uI uI (by omega)).fN
 have lu:=(j9 G b H.low H.top o (by omega)).fN
 have A:=Yu G b t.1 _ _ (cA T (by omega)) (cA (k6 H.low.bL.bL H.top o) (by omega))
 rw [show eC (cN t.1 a.1 a.1) (ah.neg (cN t.1 t.2 (cN t.1 a.2 a.2)))=ah.norm t a by rw [Pp t.1 t.2];rfl] at A
 by_cases s0:mW t.1 (ah.norm t a)
 have ⟨m,u,v⟩:=Bq.1 s0
 have sm:=vQ d.1 H.low.bL H.low.rd u (um H.bL.bL g)
 have ⟨c1,pC⟩:=ah.QG d J u
 have sp:=ah.zw j sm
 have WD:=ah.zw j (Pq sm)
 have p:=Ax G b t.1 _ _ (cA j (by omega)) (cA sm (by omega))
 have Z:=Ay G b t.1 _ (cA sm (by omega))
 have N:=Ay G b t.1 _ (cA (Pq sm) (by omega))
 have UU:=Ax G b t.1 _ _ (cA j (by omega)) (cA (Pq sm) (by omega))
 have hf:=ah.rV (n:=1) h (q:=1/2) (by rw [uo.1];decide) (by rw [uo.2];decide)
 have h1:=(j9 G b H.low hf sp (by omega)).fN
 have Y:=(j9 G b H.low hf WD (by omega)).fN
 rw [Pp] at h1 Y
 have F:=JV (ah.B6 H.low.bL.bL sp) (show _<=n+dP c h (n+n+c)+3+c by omega)
 have hq:=JV (ah.B6 H.low.bL.bL WD) (show _<=n+dP c h (n+n+c)+3+c by omega)
 have qi:=sW _ F
 have Br:=sW _ hq
 by_cases Q:mW t.1 (cN t.1 (eC a.1 m) (cz h (1/2)))
 have ⟨w,y,hw⟩:=qi.1 Q
 have ⟨w0,i,e⟩:=ah.FB d J u (y.trans c1)
 have ⟨O,P,V⟩:=YA G f H d g (vQ d.1 H.low.bL H.low.rd y F) w0 i (by omega)
 have k:=Jk G f w (cN t.1 a.2 (fj t.1 (eC w w)))
 refine Ez G (w:=mV w (cN t.1 a.2 (fj t.1 (eC w w)))) e ?_
 rcases h3 f with rfl | rfl | rfl<;>exact aO [hc s,fh 46 C,hc q,hc r,hc z,hc E,hc D,hc lu,hc A,hc v,hc fr,hc M,hc p,hc h1,hc hw,hc O,hc P,hc V,hc k]
 have ⟨hY,I,B⟩:=qi.2 Q
 haveI:=pJ I
 by_cases S:mW t.1 (cN t.1 (eC a.1 (ah.neg m)) (cz h (1/2)))
 have ⟨w,y,hw⟩:=Br.1 S
 have ⟨w0,i,e⟩:=ah.FB (n := - aR t.1 m) d J (by rw [<- u];grind) (y.trans (pC.trans (by rw [sG])))
 have ⟨O,P,V⟩:=YA G f H d g (vQ d.1 H.low.bL H.low.rd y hq) w0 i (by omega)
 have k:=Jk G f w (cN t.1 a.2 (fj t.1 (eC w w)))
 refine Ez G (w:=mV w (cN t.1 a.2 (fj t.1 (eC w w)))) e ?_
 rcases h3 f with rfl | rfl | rfl<;>exact aO [hc s,fh 46 C,hc q,hc r,hc z,hc E,hc D,hc lu,hc A,hc v,hc fr,hc M,hc p,hc h1,hc B,hc Z,hc UU,hc Y,hc hw,hc O,hc P,hc V,hc k]
 have ⟨lq,R,K⟩:=Br.2 S
 haveI:=pJ R
 refine EA G (l:=[]) (λ L=>(ah.WG d L u c1 pC).elim Q S) (cS) ?_
 rcases h3 f with rfl | rfl | rfl<;>exact bQ aY [hc s,fh 46 C,hc q,hc r,hc z,hc E,hc D,hc lu,hc A,hc v,hc fr,hc M,hc p,hc h1,hc B,hc Z,hc UU,hc Y,hc K,hc N] [] (.aS [.aq, .bool false]) (by kernel_rfl) (λ σ _=>mL (fi 4))
 have ⟨l,hl,v⟩:=Bq.2 s0
 haveI:=pJ hl
 refine EA G (l:=[]) (λ L=>s0 (ah.WL d L)) (cS) ?_
 rcases h3 f with rfl | rfl | rfl<;>exact bQ aY [hc s,fh 46 C,hc q,hc r,hc z,hc E,hc D,hc lu,hc A,hc v] [] (.aS [.aq, .bool false]) (by kernel_rfl) (λ σ _=>mL (fi 4))
def vC:∀ {h:Nat} (m:h<=2) {t:aE h} {c n:Nat} (H:df t c) (b:t.bK) {a:ah h} (g:cJ a n) (i:fV c h n<=2199023255552) (f:100*c<=4398046511104),fQ G 165 t a
 | 0,_,_,c,n,H,b,a,g,i,f=>aqr G a (Wt g i)
 | h + 1,m,t,c,n,H,b,a,g,i,f=>by
   have l:fV c h n+fV c h (n+fx c h c+c)+fV c h (n+n+c)+fV c h (n+dP c h (n+n+c)+3+c)+(n+fx c h (dP c h (n+dP c h (n+n+c)+3+c)+1)+20*c)+(fx c h c+n+20*c)+2 ^ (h+1)*(n+10*c)<=2199023255552:=i
   have d:h<=2:=by omega
   by_cases j:aR t a<0
   exact YC G (by omega) H b g (by omega) f j
   cases e:a.2.b9 with
   | true =>
     have dc:aR t.1 t.2≠0:=by have:=b.2.1;grind
     exact YB G (by omega) H b g e (by omega) (by omega) f j (vC d H.low b.1 (gW g).1 (by omega) f) (vC d H.low b.1 (k6 H.low.bL.bL (gW g).1 (rf b.1 H.low.bL H.top dc)) (by omega) f)
   | false=>exact aqt G (by omega) H b g e (by omega) (by omega) f j (vC d H.low b.1 (um H.bL.bL g) (by omega) f) λ x k=>vC d H.low b.1 k (by omega) f
def aqs {h:Nat} (f:h<=3) {t:aE h} {c n:Nat} (H:df t c) (b:t.bK) {a:ah h} (d:cJ a n) (j:rS a) (i:gK c n) (e:100*c<=4398046511104):fQ G 165 t a/\∀ w,aR t w*aR t w=aR t a->cJ w (dP c 2 n+dP c 2 (n+fx c 2 c+c)):=by
 have hw:=(WM G f H b d j i).2
 unfold gK at i
 refine ⟨?_,hw⟩
 by_cases k:h<=2
 exact vC G k H b d (by have:=HY (c:=c) (n:=n) k;omega) e
 obtain rfl:h=3:=by omega
 have l:=u3 c 2 n
 have dc:aR t.1 t.2≠0:=by have:=b.2.1;grind
 by_cases g:aR t a<0
 exact YC G f H b d (by omega) e g
 exact YB G f H b d j (by omega) (by omega) e g (vC G (by decide) H.low b.1 (gW d).1 (by omega) e) (vC G (by decide) H.low b.1 (k6 H.low.bL.bL (gW d).1 (rf b.1 H.low.bL H.top dc)) (by show fV c 2 (n+fx c 2 c+c)<=_;omega) e)
def aqo {h:Nat} (d:h<=3) {t:aE h} {c n:Nat} (H:df t c) (j:t.bK) {a:ah h} (s:cJ a n) (q:rS a) (o:gK c n) (p:100*c<=4398046511104) (f:0<=aR t a) :
   (sN ⟨h,t⟩ (b5 (aR t a))->ag ab G 260 [a3 t.ay,aJ a] (.aS [aJ (aD.bp ⟨h,t⟩ (b5 (aR t a))), .bool true]))/\(¬ sN ⟨h,t⟩ (b5 (aR t a))->ag ab G 260 [a3 t.ay,aJ a] (.aS [.aq, .bool false])):=by
 have ⟨⟨r,y⟩,x⟩:=aqs G d H j s q o p
 unfold gK at o
 refine ⟨λ v => ?_, λ i => ?_⟩
 have ⟨w,e,hw⟩:=r ((Iz f).2 v)
 have m:=x w e
 have u:2 ^ h*(dP c 2 n+dP c 2 (n+fx c 2 c+c)+10*c)<=4398046511104:=by
   have:2 ^ h<=8:=by rcases h4 d with rfl | rfl | rfl | rfl<;>decide
   exact bs (c6 _ this) (by omega)
 have g:=Az G d H j.pos m u p
 by_cases i:aR t w<0
 rw [Pn.2 i] at g
 rw [kg (T:=⟨h,t⟩) j (a:=ah.neg w) (z5 f (by rw [q9, <- e];grind) (by rw [q9];grind))]
 exact aO [hc hw,hc g,hc (Ay G d t w (cA m (by omega)))]
 rw [kg (T:=⟨h,t⟩) j (a:=w) (z5 f e (by grind))]
 rcases uq (aR t w) with ⟨k,_⟩ | ⟨k,_⟩ | ⟨_,k⟩
 rw [k] at g;exact aO [hc hw,hc g]
 rw [k] at g;exact aO [hc hw,hc g]
 exact (i k).elim
 have ⟨l,q,hw⟩:=y λ h=>i ((Iz f).1 h)
 exact aO [hc hw]
def aqn {h:Nat} (g:h+1<=3) {t:aE (h+1)} {c:Nat} (H:df t c) (b:t.bK) (d:gK c c) (f:100*c<=4398046511104):∃ l,ag ab G 165 [a3 t.1.ay,aJ t.2] (.aS [.sl 4 l, .bool false]):=by
 unfold gK at d
 have ⟨l,_,h⟩:=(vC G (by omega) H.low b.1 H.top (by have:=HY (c:=c) (n:=c) (show h<=2 by omega);omega) f).2 λ ⟨w,e⟩=>b.2.2 w e
 exact ⟨l,h⟩
def aqq {h:Nat} (e:h+1<=3) {t:aE (h+1)} {c:Nat} (H:df t c) (b:t.bK) (d:100*c<=4398046511104):ag ab G 164 [a3 t.1.ay,aJ t.2] (.int .i64 1):=by
 have f:2 ^ h<=4:=by rcases h3 e with rfl | rfl | rfl<;>decide
 have:=Az G (by omega) H.low b.1.pos H.top (bs (c6 _ f) (by omega)) d
 rwa [aC.qK.2 b.2.1] at this
noncomputable def VF:{h:Nat}->(t:aE h)->{c:Nat}->h<=3->df t c->t.bK->gK c c->100*c<=4398046511104->List (aZ ab G)
 | 0,_,_,_,_,_,_,_=>[]
 | _+1,t,_,e,H,d,f,a=>VF t.1 (by omega) H.low d.1 f a++[hc (OM G (by omega) t.1 (H.low.sh (by omega)) t.2 (cA H.top (by omega))),hc (aqq G e H d a),hc (oi (aqn G e H d f a))]
def apG {h:Nat} (b:h<=3) {t:aE h} {c:Nat} (H:df t c) (e:t.bK) (f:gK c c) (d:100*c<=4398046511104):ag ab G 118 [a3 t.ay] (.bool true):=by
 rcases h4 b with rfl | rfl | rfl | rfl<;>exact aO (VF G t b H e f d)
def apl {h:Nat} (f:h<=3) {t:aE h} {c n:Nat} (H:df t c) (g:t.bK) {a:ah h} (k:cJ a n) (w:rS a) (i:gK c n) (j:100*c<=4398046511104) (z:0<=aR t a) (o:h=3->sN ⟨h,t⟩ (b5 (aR t a))) :
   ag ab G 228 [a3 t.ay,aJ a] (.aS [a3 (sO ⟨h,t⟩ a).2.ay,aJ ((sO ⟨h,t⟩ a).bp (b5 (aR t a))), .int .i64 0]):=by
 have B:fV c 2 n+fV c 2 (n+fx c 2 c+c)+(fx c 2 c+n+20*c)+8*(dP c 2 n+dP c 2 (n+fx c 2 c+c)+10*c)<=2199023255552:=i
 have C:=u3 c 2 n
 have s:=Az G f H g.pos k (by
   have:2 ^ h<=8:=by rcases h4 f with rfl | rfl | rfl | rfl<;>decide
   exact bs (c6 _ this) (by omega)) j
 have l:=Nv (x:=aR t a) (by grind)
 obtain ⟨u,y⟩:=aqo G f H g k w i j z
 by_cases b:sN ⟨h,t⟩ (b5 (aR t a))
 have p:=u b
 rw [show sO ⟨h,t⟩ a=⟨h,t⟩ from if_pos b]
 exact aO [hc s,fh 13 l,hc p]
 have p:=y b
 have d:h+1<=3:=by
   by_cases e:h=3
   exact (b (o e)).elim
   omega
 have q:0<aR t a:=by
   by_cases e:aR t a=0
   exfalso
   refine b ?_
   rw [e,aC.rt_eq (show (0:aC)<=0 by grind) (by grind)]
   exact ⟨cz h 0,om t⟩
   grind
 rw [show sO ⟨h,t⟩ a=aD.push ⟨h,t⟩ a from if_neg b,RD (T:=⟨h,t⟩) (aD.HV g q b)]
 have r:=apH G d (t:=(t,a))
 rcases h3 d with rfl | rfl | rfl<;>exact bQ aY [hc s,fh 13 l,hc p,SR [24] 1 ((vR (h:=_+1) (t,a)).map bb) (A:=[]) r] [([24],⟨(vR (h:=_+1) (t,a)).map bb,1,true⟩)] (.aS [.ai [24] 1 0 _ false,aJ (mV (cz _ 0) (cz _ 1)), .int .i64 0]) (by kernel_rfl) (λ σ h=>vO (cp (hH (one h) (ea _)) (jx (by intro c hc;simp at hc;rcases hc with rfl | rfl<;>exact bg.pure))))
def Yg {h:Nat} (b:h<=3) {t:aE h} {c n:Nat} (H:df t c) (f:t.bK) {a:ah h} (g:cJ a n) (m:rS a) (j:gK c n) (d:gK c c) (e:100*c<=4398046511104) (l:0<=aR t a) (k:h=3->sN ⟨h,t⟩ (b5 (aR t a))) :
   ag ab G 182 [a3 t.ay,aJ a] (.aS [a3 (sO ⟨h,t⟩ a).2.ay,aJ ((sO ⟨h,t⟩ a).bp (b5 (aR t a))), .int .i64 0]):=by
 have o:fV c 2 n+fV c 2 (n+fx c 2 c+c)+(fx c 2 c+n+20*c)+8*(dP c 2 n+dP c 2 (n+fx c 2 c+c)+10*c)<=2199023255552:=j
 exact aO [hc (apG G b H f d e),hc (OM G b t (H.sh (by omega)) a (cA g (by omega))),hc (apl G b H f g m j e l k)]
end
end Go.Proofs.YtpcofcmencgkbaaGreat
namespace Go.aF.ah
def up {i:Nat}:(d:Nat)->ah i->ah (i+d)
 | 0,a=>a
 | d+1,a=>pair (up d a) (rat (i+d) 0)
end Go.aF.ah
namespace Go.aF.aD
def akl {T J:aD} (h:eI T J) (a:ah T.1):∃ d,J.1=T.1+d/\∀ (e:J.1=T.1+d),aR J.2 (e▸ah.up d a)=aR T.2 a:=by
 induction h with
 | refl=>exact ⟨0,rfl, λ _=>rfl⟩
 | @push J x f b =>
   have ⟨d,e,hv⟩:=b
   have ⟨k,t⟩:=J
   simp only at e
   subst e
   refine ⟨d+1,rfl, λ e => ?_⟩
   have h1:=hv rfl
   show aR t (ah.up d a)+aR t (cz _ 0)*_=_
   rw [om]
   have c:aR t (ah.up d a)=aR T.2 a:=h1
   rw [c];grind
def cm (J:aD) (l:List Rat) (v:aC):Prop:=∃ T,∃ s:ah T.1,eI T J/\l=dp s/\aR T.2 s=v
def cm.pre {J K:aD} {l:List Rat} {v:aC} (h:cm J l v) (k:eI J K):cm K l v:=by
 have ⟨T,s,a,b,c⟩:=h
 exact ⟨T,s,a.trans k,b,c⟩
def cm.in {J:aD} {l:List Rat} {v:aC} (h:cm J l v):J.In v:=by
 have ⟨T,s,a,b,c⟩:=h
 exact a.in ⟨s,c⟩
def cm.up {J:aD} {l:List Rat} {v:aC} (h:cm J l v) (b:J.bK):∃ i d,∃ s:ah i,J.1=i+d/\l=dp s/\dp (J.bp v)=dp (ah.up d s):=by
 obtain ⟨T,s,a,rfl,rfl⟩:=h
 have ⟨d,e,hv⟩:=akl a s
 have ⟨k,t⟩:=J
 simp only at e
 subst e
 exact ⟨T.1,d,s,rfl,rfl,by rw [oI b (hv rfl)]⟩
def kJ (J:aD):{k:Nat}->aE k->List (List Rat)->Prop
 | 0,_,_=>True
 | k+1,u,l=>kJ J u.1 l/\∃ x,l[k]? = some x/\cm J x (b5 (aR u.1 u.2))
def kJ.pre {J K:aD} (a:eI J K):∀ {k:Nat} {u:aE k} {l:List (List Rat)},kJ J u l->kJ K u l
 | 0,_,_,_=>trivial
 | k+1,_,_,⟨h,x,e,b⟩=>⟨h.pre a,x,e,b.pre a⟩
def kJ.snoc {J:aD}:∀ {k:Nat} {u:aE k} {l m:List (List Rat)},k<=l.length->kJ J u l->kJ J u (l++m)
 | 0,_,_,_,_,_=>trivial
 | k+1,_,l,m,b,⟨h,x,e,a⟩=>⟨kJ.snoc (by omega) h,x,by rw [List.getElem?_append_left (by omega)];exact e,a⟩
def kJ.in {J:aD}:∀ {k:Nat} {u:aE k} {l:List (List Rat)},kJ J u l->∀ ρ ∈ u.vals,J.In (b5 ρ)
 | 0,_,_,_,_,h=>(cX h).elim
 | k+1,u,l,⟨h,x,e,b⟩, ρ,a=>by
   rcases cr.1 a with rfl | a
   exact b.in
   exact kJ.in h ρ a
def IW {J:aD} (b:J.bK):∀ {k:Nat} {u:aE k},(∀ ρ ∈ u.vals,J.In (b5 ρ))->∀ a:ah k,J.In (aR u a)
 | 0,_,_,a=>In.rat J a
 | k+1,u,h,a=>(IW b (λ ρ c=>h ρ (c5 _ c)) a.1).add ((IW b (λ ρ c=>h ρ (c5 _ c)) a.2).mul b (h _ cS))
noncomputable def jU (T:aD):{k:Nat}->aE k->List (List Rat)
 | 0,_=>[]
 | _+1,u=>jU T u.1++[dp ((T.ext u).bp (b5 (aR u.1 u.2)))]
def mg (T:aD):∀ {k:Nat} (u:aE k),(jU T u).length=k
 | 0,_=>rfl
 | k+1,u=>by show (jU T u.1++[_]).length=_;rw [List.length_append,mg T u.1];rfl
def adw {T:aD} (a:T.bK) {k:Nat} {u:aE (k+1)} (hu:u.bK):(T.ext u).In (b5 (aR u.1 u.2)):=(nS a hu).2.2 _ (In.root (T:=⟨k,u.1⟩))
def BR {T:aD} (a:T.bK):∀ {k:Nat} {u:aE k},u.bK->kJ (T.ext u) u (jU T u)
 | 0,_,_=>trivial
 | k+1,u,hu=>by
   refine ⟨kJ.snoc (by rw [mg];exact a4 _) ((BR a hu.1).pre (Kj _)),_, ?_,T.ext u,_, .refl _,rfl,m3 (adw a hu)⟩
   show (jU T u.1++[_])[k]? = _
   rw [List.getElem?_append_right (by rw [mg];exact a4 _),mg,Nat.sub_self];rfl
def M3:∀ {h:Nat} (t:aE h) {k:Nat} (u:aE k),u.ay=t.ay.take k->k<=h->eI ⟨k,u⟩ ⟨h,t⟩
 | 0,t,k,u,e,c=>by
   obtain rfl:k=0:=by omega
   exact .refl _
 | h + 1,t,k,u,e,c=>by
   by_cases a:k=h+1
   subst a
   rw [hM (by rw [ea];exact a4 _)] at e
   rw [aE.Nc e]
   exact .refl _
   have b:u.ay=t.1.ay.take k:=by
     rw [e]
     show (t.1.ay++[_]).take k=_
     rw [Er (by rw [ea];omega)]
   exact .push (J:=⟨h,t.1⟩) t.2 (M3 t.1 u b (by omega))
def xu {T J:aD} (h:eI T J):T.2.ay=J.2.ay.take T.1/\T.1<=J.1:=by
 induction h with
 | refl=>exact ⟨by rw [hM (by rw [ea];exact a4 _)],a4 _⟩
 | @push J x b a=>exact ⟨by
     rw [a.1]
     show _=(J.2.ay++[_]).take T.1
     rw [Er (by rw [ea];exact a.2)],Nat.le_succ_of_le a.2⟩
end Go.aF.aD
namespace Go.aF
def gu (R Q:List (List Rat)):Bool:=decide (Q=R.take Q.length)
def m0 {T U:aD}:gu T.2.ay U.2.ay=true↔iJ U T:=by
 unfold gu
 rw [decide_eq_true_iff,ea]
 constructor
 intro e
 refine aD.M3 T.2 U.2 e ?_
 have:=congrArg List.length e
 rw [cZ,ea,ea] at this
 omega
 exact λ h=>(aD.xu h).1
def Ko {R Q:List (List Rat)} (h:gu R Q=true):Q.length<=R.length:=by
 have:=congrArg List.length (of_decide_eq_true h)
 rw [cZ] at this
 omega
noncomputable def fq (l:List aI):aD:=l.foldl (λ T a=>T.ext a.T.2) gp
def K4 {T:aD} (h:T.bK):gp.ext T.2=T:=Pr (A4 T.2) h
def agG {a b:aI} (c:a.bK):fq [a,b]=c0 a b:=by show (gp.ext a.T.2).ext b.T.2=_;rw [K4 c];rfl
def aE.Oo:∀ {h:Nat} {t:aE h},t.bK->∀ {ρ : aC}, ρ ∈ t.vals->0 < ρ
 | 0,_,_,_,h=>(cX h).elim
 | h+1,t,b, ρ,a=>by
   rcases cr.1 a with rfl | a
   exact b.2.1
   exact aE.Oo b.1 a
def GQ {J:aD} (b:J.bK) {q r n:Nat} (hc:J.2.bL q) {k:Nat} (h:k<=3) {u:aE k} (c:∀ ρ ∈ u.vals,J.In (b5 ρ)) (g:∀ ρ ∈ u.vals,cJ (J.bp (b5 ρ)) r) {a:ah k} (d:cJ a n):cJ (J.bp (aR u a)) (n+3*(r+q+1)):=by
 have e:J.bp (aR u a)=ah.vb J.2 (λ ρ => J.bp (b5 ρ)) u a:=kg b (ah.GR b.pos (λ ρ f=>k7 (c ρ f)) a)
 rw [e]
 refine JV (ah.LV hc g d) ?_
 have:=c6 (r+q+1) h
 omega
structure gG (K:cT) (q e r:Nat):Prop where
 iT:∀ {T:aD},K.ok T->df T.2 q
 val:∀ {T U:aD},K.ok T->K.ok U->∀ ρ ∈ U.2.vals,T.In ρ -> cJ (T.bp ρ) e
 root:∀ {T U:aD},K.ok T->K.ok U->∀ ρ ∈ U.2.vals,T.In (b5 ρ)->cJ (T.bp (b5 ρ)) r
 low:∀ {T U:aD},K.ok T->K.ok U->∀ ρ ∈ U.2.vals,T.In ρ -> rS (T.bp ρ)
 full:∀ {T U:aD},K.ok T->K.ok U->∀ ρ ∈ U.2.vals,T.1=3->T.In (b5 ρ)
 be:gK q e
 Fx:gK q q
 gg:100*q<=4398046511104
 rA:e+r+30*(r+q+1)<=1099511627776
def agE (l:List aI) (a:aI):fq (l++[a])=(fq l).ext a.T.2:=by unfold fq;rw [List.foldl_append];rfl
def agF {l:List aI} {i:Nat} (a:i<l.length):fq (l.take (i+1))=(fq (l.take i)).ext l[i].T.2:=by rw [List.take_succ_eq_append_getElem a,agE]
def Tk {K:cT} {l:List aI} (h:∀ a∈l,K.ok a.T):K.ok (fq l):=by
 have key:∀ (l:List aI) (T:aD),K.ok T->(∀ a∈l,K.ok a.T)->K.ok (l.foldl (λ T a=>T.ext a.T.2) T) := λ l=>by
   induction l with
   | nil=>exact λ T c _=>c
   | cons a l d=>exact λ T c h=>d _ (K.ext c (h a cS)) λ b hb=>h b (c5 _ hb)
 exact key l gp K.nil h
def Tj {K:cT} {l:List aI} (h:∀ a∈l,K.ok a.T):∀ a∈l,∀ v,a.T.In v->(fq l).In v:=by
 have key:∀ (l:List aI) (T:aD),K.ok T->(∀ a∈l,K.ok a.T)->(∀ v,T.In v->(l.foldl (λ T a=>T.ext a.T.2) T).In v)/\∀ a∈l,∀ v,a.T.In v->(l.foldl (λ T a=>T.ext a.T.2) T).In v := λ l=>by
   induction l with
   | nil=>exact λ T c _=>⟨λ v h=>h, λ a h=>(cX h).elim⟩
   | cons a l g =>
     intro T c h
     have e:=h a cS
     have ⟨h1,f⟩:=g _ (K.ext c e) λ b hb=>h b (c5 _ hb)
     have d:=JW (K.red c) (K.red e)
     refine ⟨λ v hv=>h1 v (d.2.1 v hv), λ b hb v hv => ?_⟩
     rcases cr.1 hb with rfl | hb
     exact h1 v (d.2.2 v hv)
     exact f b hb v hv
 exact (key l gp K.nil h).2
noncomputable def Cs (l:List aI):List aI:=l.map λ a=>ur (fq l) a.val
def gT (l:List aI):aa := .sl 2 (l.map aw)
instance {l:List aI}:bg (gT l):=cU.map (m:=2) (λ x=>inferInstance) l
def alh {α : Type} {f : α -> aa} {g : α -> α} {l:List α} {d : α}:(List.range l.length).map (λ i=>f (g (l.getD i d)))=(l.map g).map f:=by
 refine ou (by simp) λ i h1 a => ?_
 simp only [aM,List.length_range] at h1
 simp [du h1]
end Go.aF
namespace Go.Proofs.YtpcofcmencgkbaaGreat
def zA {α β : Type} {f : α -> aa} {g : β -> aa} {l:List α} {m:List β} {b:Bool} (h:decide (l.length=m.length)=b):(((l.map f).length:Int) != ((m.map g).length:Int)) = !b:=by
 rw [aM,aM]
 by_cases e:l.length=m.length
 rw [decide_eq_true e] at h;subst h;simp [e]
 rw [decide_eq_false e] at h;subst h
 simp only [Bool.not_false,bne_iff_ne,ne_eq]
 omega
def G6 {α : Type} {l m:List α} {d : α} (a:l.length=m.length) (h:∀ i,i<l.length->l.getD i d=m.getD i d):l=m:=by
 refine ou a λ i h1 b => ?_
 have:=h i h1
 rwa [dJ,dJ,du h1,du b] at this
def bj {α : Type} {l:List α} {d : α} {i:Nat} (h:i<l.length):l.getD i d=l[i]:=by rw [dJ,du h];rfl
section
variable (G:Nat->Option (List aa))
def Vk (x y:Rat) (b:cI 419430400000 x) (c:cI 419430400000 y):ag ab G 194 [aV x,aV y] (.bool (decide (x=y))):=by
 have e:decide (zS x y=0)=decide (x=y):=by congr 1;exact propext akI
 rw [<- e]
 exact aO [hc (akr G x y b c)]
def RM (l m:List Rat) (s:l.length<=9000) (r:∀ x∈l,∀ y∈m,ag ab G 194 [aV x,aV y] (.bool (decide (x=y)))):ag ab G 142 [bb l,bb m] (.bool (decide (l=m))):=by
 suffices h:ag ab G 193 [bb l,bb m, .fn (.func 194) [] []] (.bool (decide (l=m))) from aO [hc h]
 by_cases e:l.length=m.length
 have k:∀ i (a:i<l.length) (d:i<m.length) (b:Bool),decide (l.getD i 0=m.getD i 0)=b->ag ab G 194 [aV l[i],aV m[i]] (.bool b) := λ i a d b e=>by
   rw [bj a,bj d] at e
   rw [<- e];exact r _ (bc a) _ (bc d)
 have n:=zA (f:=aV) (g:=aV) (l:=l) (m:=m) (decide_eq_true e)
 rcases first (λ i => !decide (l.getD i 0=m.getD i 0)) l.length with h | ⟨i,a,o,p⟩
 rw [show decide (l=m)=true from decide_eq_true (G6 e λ i a=>by have:=h i a;simpa using this)]
 exact bB [hb 14 n,w5 (ao 193) 0 0 0 l.length (λ i=>[(0,bb l),(1,bb m),(2, .fn (.func 194) [] []),(15,bb l),(16, .int .i64 ((l.map aV).length:Nat)),(17, .int .i64 (i:Int))]) (.exit 0) [] (λ i a=>[bm 18 aV a,aQ 20 4 aV a,aQ 24 4 aV (show i<m.length by omega),hc (k i a (by omega) true (by have:=h i a;simpa using this)),a9 31 i]) [cx 18 aV l]]
 rw [show decide (l=m)=false from decide_eq_false (λ e=>by subst e;simp at o)]
 exact bB [hb 14 n,w5 (ao 193) 0 0 0 i (λ i=>[(0,bb l),(1,bb m),(2, .fn (.func 194) [] []),(15,bb l),(16, .int .i64 ((l.map aV).length:Nat)),(17, .int .i64 (i:Int))]) .ret [(6, .bool false)] (λ j q=>[bm 18 aV (show j<l.length by omega),aQ 20 4 aV (show j<l.length by omega),aQ 24 4 aV (show j<m.length by omega),hc (k j (by omega) (by omega) true (by have:=p j q;simpa using this)),a9 31 j]) [bm 18 aV a,aQ 20 4 aV a,aQ 24 4 aV (show i<m.length by omega),hc (k i a (by omega) false (by simpa using o))]]
 rw [show decide (l=m)=false from decide_eq_false (λ h=>e (by rw [h]))]
 exact aO [hb 14 (zA (f:=aV) (g:=aV) (decide_eq_false e))]
def pA (R:List (List Rat)):Prop:=R.length<=9000/\∀ r∈R,r.length<=9000/\∀ q∈r,cI 419430400000 q
def xG:∀ {h:Nat} (b:h<=3) {t:aE h} (T:kf 419430400000 t),pA t.ay
 | 0,_,_,_=>⟨Nat.zero_le _, λ r h=>(cX h).elim⟩
 | h + 1,b,t,T=>⟨by rw [ea];omega, λ r a=>by
     rcases en.1 a with h1 | h1
     exact (xG (by omega) T.1).2 r h1
     rw [bJ.1 h1]
     exact ⟨te (by omega) t.2,T.2.flat⟩⟩
def adq (R Q:List (List Rat)) (o:pA R) (z:pA Q):ag ab G 192 [a3 R,a3 Q, .fn (.func 142) [] []] (.bool (decide (R=Q))):=by
 have w:∀ x∈R,∀ y∈Q,ag ab G 142 [bb x,bb y] (.bool (decide (x=y))) := λ x q y v=>RM G x y (o.2 x q).1 λ a s b hb=>Vk G a b ((o.2 x q).2 a s) ((z.2 y v).2 b hb)
 have A:=o.1
 by_cases e:R.length=Q.length
 have n:∀ i (c:i<R.length) (k:i<Q.length) (b:Bool),decide (R.getD i []=Q.getD i [])=b->ag ab G 142 [bb R[i],bb Q[i]] (.bool b) := λ i c k b e=>by
   rw [bj c,bj k] at e
   rw [<- e];exact w _ (bc c) _ (bc k)
 have r:=zA (f:=bb) (g:=bb) (l:=R) (m:=Q) (decide_eq_true e)
 rcases first (λ i => !decide (R.getD i []=Q.getD i [])) R.length with h | ⟨i,c,p,u⟩
 rw [show decide (R=Q)=true from decide_eq_true (G6 e λ i c=>by have:=h i c;simpa using this)]
 exact bB [hb 14 r,w5 (ao 192) 0 0 0 R.length (λ i=>[(0,a3 R),(1,a3 Q),(2, .fn (.func 142) [] []),(15,a3 R),(16, .int .i64 ((R.map bb).length:Nat)),(17, .int .i64 (i:Int))]) (.exit 0) [] (λ i c=>[bm 18 bb c,aQ 20 1 bb c,aQ 24 1 bb (show i<Q.length by omega),hc (n i c (by omega) true (by have:=h i c;simpa using this)),a9 31 i]) [cx 18 bb R]]
 rw [show decide (R=Q)=false from decide_eq_false (λ e=>by subst e;simp at p)]
 exact bB [hb 14 r,w5 (ao 192) 0 0 0 i (λ i=>[(0,a3 R),(1,a3 Q),(2, .fn (.func 142) [] []),(15,a3 R),(16, .int .i64 ((R.map bb).length:Nat)),(17, .int .i64 (i:Int))]) .ret [(6, .bool false)] (λ j t=>[bm 18 bb (show j<R.length by omega),aQ 20 1 bb (show j<R.length by omega),aQ 24 1 bb (show j<Q.length by omega),hc (n j (by omega) (by omega) true (by have:=u j t;simpa using this)),a9 31 j]) [bm 18 bb c,aQ 20 1 bb c,aQ 24 1 bb (show i<Q.length by omega),hc (n i c (by omega) false (by simpa using p))]]
 rw [show decide (R=Q)=false from decide_eq_false (λ h=>e (by rw [h]))]
 exact aO [hb 14 (zA (f:=bb) (g:=bb) (decide_eq_false e))]
def qN (R:List (List Rat)):aa:=match R with
 | [] => .aq
 | r::R=>a3 (r::R)
instance {R:List (List Rat)}:bg (qN R):=by
 cases R with
 | nil=>exact inferInstanceAs (bg .aq)
 | cons r R=>exact inferInstanceAs (bg (a3 (r::R)))
def sn {R:List (List Rat)} (h:R≠[]):qN R=a3 R:=by
 cases R with
 | nil=>exact (h rfl).elim
 | cons r R=>rfl
def Fu (R Q:List (List Rat)) (a:pA R) (c:pA Q):ag ab G 141 [a3 R,a3 Q] (.bool (gu R Q)):=by
 by_cases h:Q.length<=R.length
 have d:decide (((Q.map bb).length:Int)<=((R.map bb).length:Int))=true:=decide_eq_true (by rw [aM,aM];omega)
 have f:iq 1 (a3 R) none (some (.int .i64 ((Q.map bb).length:Nat))) none=some (a3 (R.take Q.length)):=by
   unfold a3 iq iD kz
   simp only [aM]
   rw [if_pos ⟨by omega,by omega⟩]
   simp [Ed]
 have e:=adq G (R.take Q.length) Q ⟨by rw [cZ];have:=a.1;omega, λ r g=>a.2 r (gq g)⟩ c
 rw [show decide (R.take Q.length=Q)=gu R Q from by unfold gu;exact decide_eq_decide.2 eq_comm] at e
 exact aO [hb 9 d,ho 14 f,hc e]
 have d:decide (((Q.map bb).length:Int)<=((R.map bb).length:Int))=false:=decide_eq_false (by rw [aM,aM];omega)
 rw [show gu R Q=false from by cases e:gu R Q with
   | false=>rfl
   | true=>exact (h (Ko e)).elim]
 exact aO [hb 9 d]
def abe (Q:List (List Rat)):ag ab G 141 [.aq,a3 Q] (.bool (gu [] Q)):=by
 cases Q with
 | nil =>
   have e:ag ab G 192 [.aq,a3 [], .fn (.func 142) [] []] (.bool true):=aO []
   exact aO [hc e]
 | cons r Q =>
   have d:decide ((((r::Q).map bb).length:Int)<=0)=false:=decide_eq_false (by simp)
   exact aO [hb 9 d]
def abf (R:List (List Rat)):ag ab G 141 [a3 R, .aq] (.bool true):=by
 have d:decide ((0:Int)<=((R.map bb).length:Int))=true:=decide_eq_true (by omega)
 have b:iq 1 (a3 R) none (some (.int .i64 0)) none=some (.sl 1 []):=by
   unfold a3 iq iD kz
   simp only [aM]
   rw [if_pos ⟨by omega,by omega⟩]
   simp
 have e:ag ab G 192 [.sl 1 [], .aq, .fn (.func 142) [] []] (.bool true):=aO []
 exact aO [hb 9 d,ho 14 b,hc e]
def Qn (R Q:List (List Rat)) (c:pA R) (b:pA Q):ag ab G 141 [qN R,a3 Q] (.bool (gu R Q)):=by
 cases R with
 | nil=>exact abe G Q
 | cons r R=>exact Fu G (r::R) Q c b
def abg (R Q:List (List Rat)) (c:pA R) (b:pA Q):ag ab G 141 [a3 Q,qN R] (.bool (gu Q R)):=by
 cases R with
 | nil=>exact abf G Q
 | cons r R=>exact Fu G Q (r::R) b c
def aiH {i d:Nat} (e:i+d<=3) (t:aE (i+d)) (s:ah i):ag ab G 147 [a3 t.ay,aJ s] (aJ (ah.up d s)):=by
 have a := λ p=>NQ G (h:=i) (by omega) s p
 have q:=xp G 0 (by decide) (by decide)
 have hd:d=0 \/ d=1 \/ d=2 \/ d=3:=by omega
 have b:i=0 \/ i=1 \/ i=2 \/ i=3:=by omega
 rcases hd with rfl | rfl | rfl | rfl
 rcases b with rfl | rfl | rfl | rfl<;>exact bQ aY [dc a] [([5,2],_)] (.ai [5,2] 4 0 _ false) (by kernel_rfl) (λ σ h=>dR (one h))
 rcases b with rfl | rfl | rfl | rfl
 exact bQ aY [dc a,hc q] [([13],_)] (.ai [13] 4 0 _ false) (by kernel_rfl) (λ σ h=>dR (one h))
 exact bQ aY [dc a,hc q,hc q] [([24],_)] (.ai [24] 4 0 _ false) (by kernel_rfl) (λ σ h=>dR (one h))
 exact bQ aY (dc a::bG 4 (hc q)) [([46],_)] (.ai [46] 4 0 _ false) (by kernel_rfl) (λ σ h=>dR (one h))
 omega
 rcases b with rfl | rfl | rfl | rfl
 exact bQ aY (dc a::bG 3 (hc q)) [([35],_)] (.ai [35] 4 0 _ false) (by kernel_rfl) (λ σ h=>dR (one h))
 exact bQ aY (dc a::bG 6 (hc q)) [([68],_)] (.ai [68] 4 0 _ false) (by kernel_rfl) (λ σ h=>dR (one h))
 omega
 omega
 obtain rfl:i=0:=by omega
 exact bQ aY (dc a::bG 7 (hc q)) [([79],_)] (.ai [79] 4 0 _ false) (by kernel_rfl) (λ σ h=>dR (one h))
def ME {J:aD} (b:J.1<=3) (c:J.bK) {l:List Rat} {v:aC} (h:aD.cm J l v):ag ab G 147 [a3 J.2.ay,bb l] (aJ (J.bp v)):=by
 obtain ⟨i,d,s,e,rfl,k⟩:=h.up c
 have ⟨h,t⟩:=J
 simp only at e b
 subst e
 have:=aiH G b t s
 unfold aJ at this ⊢
 rw [k]
 exact this
def Ui (x:Rat) (b:cI 419430400000 x):ag ab G 136 [aV x] (aV x):=aO [hc (Bz G x.num.natAbs (by have:=b.1;omega)),hc (Bz G x.den (by have:=b.2;omega))]
def aep (a:Rat) (c:cI 419430400000 a):aZ ab G:=hc (Ui G a c)
def KI:{h:Nat}->(a:ah h)->dn 419430400000 a->List (aZ ab G)
 | 0,a,b=>[aep G a b]
 | _+1,a,b=>KI a.1 b.1++KI a.2 b.2
def MB {h:Nat} (d:h<=3) (a:ah h) (c:dn 419430400000 a):ag ab G 209 [aJ a] (aJ a):=by
 rcases h4 d with rfl | rfl | rfl | rfl<;>exact bQ aY (KI G a c) [([3],_)] (.ai [3] 4 0 _ false) (by kernel_rfl) (λ σ h=>dR (one h))
def FH:{h:Nat}->(t:aE h)->h<=3->kf 419430400000 t->List (aZ ab G)
 | 0,_,_,_=>[]
 | _+1,t,b,T=>FH t.1 (by omega) T.1++[hc (MB G (by omega) t.2 T.2)]
def DI {σ : aL} {c:aa} {n:aI} (h:View σ c (a3 n.T.2.ay)):View σ (.agg [c,aJ n.a]) (aw n):=EB (cp h (cp (jw bg.pure) iv))
def aiy {h:Nat} (b:h<=3) (t:aE h) (T:kf 419430400000 t) (a:ah h) (d:dn 419430400000 a):ag ab G 158 [aw ⟨⟨h,t⟩,a⟩] (aw ⟨⟨h,t⟩,a⟩):=by
 have k:=MB G b a d
 rcases h4 b with rfl | rfl | rfl | rfl
 exact bQ aY [hc k] [] (.agg [.aq,aJ (h:=0) a]) (by kernel_rfl) (λ σ _=>DI (n:=⟨⟨0,t⟩,a⟩) (fi 1))
 exact bQ aY (hc k::FH G t b T) [([21],xz t)] (.agg [.ai [21] 1 0 1 false,aJ a]) (by kernel_rfl) (λ σ h=>DI (n:=⟨⟨1,t⟩,a⟩) (hH (one h) (ea t)))
 exact bQ aY (hc k::FH G t b T) [([35],xz t)] (.agg [.ai [35] 1 0 2 false,aJ a]) (by kernel_rfl) (λ σ h=>DI (n:=⟨⟨2,t⟩,a⟩) (hH (one h) (ea t)))
 exact bQ aY (hc k::FH G t b T) [([49],xz t)] (.agg [.ai [49] 1 0 3 false,aJ a]) (by kernel_rfl) (λ σ h=>DI (n:=⟨⟨3,t⟩,a⟩) (hH (one h) (ea t)))
def lC (b:Bool) (i:bT) (l:List (List Rat)):aa:=match b with
 | true => .ai i 1 0 l.length false
 | false=>a3 l
def j5 (b:Bool) (i:bT) (l:List (List Rat)):List (bT × aN):=match b with
 | true=>[(i,⟨l.map bb,1,false⟩)]
 | false=>[]
def Sh {n k:Nat} {i:bT} (h:k<n):fY 1 (.ai i 1 0 n false) (.int .i64 (k:Int))=some (.ref i k 0):=by
 unfold fY
 simp only []
 rw [if_pos ⟨trivial,by omega,by omega⟩,Nat.zero_add,Int.toNat_natCast]
def Sq (key k:Nat) {l:List (List Rat)} {x:List Rat} (c:l[k]? = some x):aZ ab G := .st key [([1],⟨l.map bb,1,false⟩)] (.load false 1 (.ref [1] k 0)) (λ _=>{ val:=bb x,rd:=[[1]] }) (λ σ p b=>by
 have h:=one b
 show kV σ false 1 (.ref [1] k 0)=_
 unfold kV
 simp only [h,List.getElem?_map,c]
 rfl)
def wk (b:Bool) (J:aD) (l:List (List Rat)) {k:Nat} (a:ah k) (v:aC):Prop:=∀ i p,cu ab G 198 [.agg [a3 J.2.ay,lC b i l],aJ a] p (j5 b i l) { val:=aJ (J.bp v),rd:=(j5 b i l).map (·.1) }
noncomputable def B3 {b:Bool} {J:aD} {l:List (List Rat)} {k:Nat} {a:ah k} {v:aC} (h:wk G b J l a v):aZ ab G := .rel 198 [.agg [a3 J.2.ay,lC b [1] l],aJ a] (j5 b [1] l) (λ _=>{ val:=aJ (J.bp v),rd:=(j5 b [1] l).map (·.1) }) (λ p _=>h [1] p) (λ p x d=>uj d)
def H7 {b:Bool} {J:aD} {l:List (List Rat)} {k:Nat} {a:ah k} {i p:bT}:bx (bN 0 p λ _=>i) [.agg [a3 J.2.ay,lC b [1] l],aJ a]=[.agg [a3 J.2.ay,lC b i l],aJ a]:=by
 show [aa.agg [(a3 J.2.ay).aX _,(lC b [1] l).aX _],(aJ a).aX _]=_
 rw [pn (c:=a3 J.2.ay),pn (c:=aJ a)]
 cases b with
 | true=>rfl
 | false=>show [aa.agg [_,(a3 l).aX _],_]=_;rw [pn (c:=a3 l)];rfl
def xx {b:Bool} {l:List (List Rat)} {i p:bT}:dX (bN 0 p λ _=>i) (j5 b [1] l)=j5 b i l:=by
 cases b with
 | true =>
   show dX _ [([1],_)]=[(i,_)]
   rw [fK,fL,fM,jl,List.map_map,show l.map (aa.aX (bN 0 p λ _=>i) ∘ bb)=l.map bb from p8 λ x _=>bg.fix _]
   rfl
 | false=>rfl
def xc (b:Bool) (i:bT) (l:List (List Rat)):((j5 b i l).map (·.1)).Nodup:=by cases b<;>simp [j5]
def aiB (b:Bool) {J:aD} (h3:J.1<=3) (a:J.bK) (T:kf 419430400000 J.2) (l:List (List Rat)) (x:Rat) (c:cI 419430400000 x):wk G b J l (k:=0) x (ek x) := λ i p=>by
 have r:=Dy G h3 J.2 T x c
 rw [show cz J.1 x=J.bp (ek x) from (kg a (sI _ _)).symm] at r
 cases b<;>exact yi aY (λ _=>i) [hc r] [.agg [a3 J.2.ay,lC _ [1] l],aJ (h:=0) x] (j5 _ [1] l) (aJ (J.bp (ek x))) (by kernel_rfl) H7 xx pn (xc _ _ _)
def MC (b:Bool) {J:aD} (j:J.1<=3) (g:J.bK) {q r:Nat} (H:df J.2 q) (l:List (List Rat)) (O:l.length<=9000):∀ {k:Nat} (D:k<=3) {u:aE k} (R:aD.kJ J u l) (o:∀ ρ ∈ u.vals,cJ (J.bp (b5 ρ)) r) (hu:u.bK) {n:Nat} {a:ah k} (t:cJ a n) (s:n+r+30*(r+q+1)<=4398046511104),wk G b J l a (aR u a)
 | 0,_,u,R,o,hu,n,a,t,s=>aiB G b j g (H.sh (by omega)) l a (cA t (by omega))
 | k + 1,D,u,R,o,hu,n,a,t,s => λ i p=>by
   have ⟨N,w⟩:=gW t
   have c:k<=3:=by omega
   have d:∀ ρ ∈ u.1.vals,cJ (J.bp (b5 ρ)) r := λ ρ h=>o ρ (c5 _ h)
   have B:=MC b j g H l O c R.1 d hu.1 N s
   have L:=MC b j g H l O c R.1 d hu.1 w s
   have z:=Ag G c a.2 (cA w (by omega))
   have v:=R.in
   have I:=aD.IW g (u:=u.1) (λ ρ h=>v ρ (c5 _ h))
   have Q:=GQ g H.bL.bL c (λ ρ h=>v ρ (c5 _ h)) d N
   have K:=GQ g H.bL.bL c (λ ρ h=>v ρ (c5 _ h)) d w
   have hv:aR u a=aR u.1 a.1+aR u.1 a.2*b5 (aR u.1 u.2):=rfl
   cases e:a.2.b9 with
   | true =>
     rw [e] at z
     have y:aR u a=aR u.1 a.1:=by rw [hv,(vP hu.1).1 e];grind
     rw [y]
     rcases h3 D with rfl | rfl | rfl<;>cases b<;>exact yi aY (λ _=>i) [B3 G B,hc z] [.agg [a3 J.2.ay,lC _ [1] l],aJ a] (j5 _ [1] l) (aJ (J.bp (aR u.1 a.1))) (by kernel_rfl) H7 xx pn (xc _ _ _)
   | false =>
     rw [e] at z
     have ⟨x,E,T⟩:=R.2
     have S:=v _ cS
     have M:=o _ cS
     have F:=ME G j g T
     have m:=uF G j H K M (by omega)
     have A:=Fb G j (H.sh (by omega)) (cA Q (by omega)) (cA (k6 H.bL.bL K M) (by omega))
     rw [show eC (J.bp (aR u.1 a.1)) (cN J.2 (J.bp (aR u.1 a.2)) (J.bp (b5 (aR u.1 u.2))))=J.bp (aR u a) from (kg g (by rw [Ey,A3 g.pos,k7 (I _),k7 (I _),k7 S,hv])).symm] at A
     have C:k<l.length:=(eu.1 E).1
     have P:fY 1 (a3 l) (.int .i64 (k:Int))=some (.c2 (bb x).cells 0):=by
       obtain ⟨h1,rfl⟩:=eu.1 E
       exact B0 (f:=bb) (k:=1) h1
     rcases h3 D with rfl | rfl | rfl<;>cases b
     all_goals first
       | exact yi aY (λ _=>i) [B3 G B,hc z,B3 G L,ho 51 P,hc F,hc m,hc A] [.agg [a3 J.2.ay,lC false [1] l],aJ a] (j5 false [1] l) (aJ (J.bp (aR u a))) (by kernel_rfl) H7 xx pn (xc _ _ _)
       | exact yi aY (λ _=>i) [B3 G B,hc z,B3 G L,ho 51 (Sh (i:=[1]) C),Sq G 52 _ E,hc F,hc m,hc A] [.agg [a3 J.2.ay,lC true [1] l],aJ a] (j5 true [1] l) (aJ (J.bp (aR u a))) (by kernel_rfl) H7 xx pn (xc _ _ _)
end
section
variable (G:Nat->Option (List aa)) {K:cT} {q e r:Nat} (F:gG K q e r)
include F
def gG.C6:q<=43980465111:=by have:=F.gg;omega
def aiw {T U:aD} (b:K.ok T) (d:K.ok U) {ρ : aC} (c : ρ ∈ U.2.vals) (f:T.In ρ):ag ab G 237 [a3 T.2.ay,aJ (T.bp ρ)] (.aS [a3 (T.gH (T.bp ρ)).2.ay,aJ ((T.gH (T.bp ρ)).bp (b5 ρ)), .int .i64 0]):=by
 have g:=k7 f
 have j:0 < ρ := aE.Oo (K.red d) c
 have:=ak0 G (K.ht b) (F.iT b) (K.red b) (a:=T.bp ρ) (F.val b d ρ c f) (F.low b d ρ c f) F.be F.Fx F.gg (by rw [g];grind) (λ h=>by rw [g];exact F.full b d ρ c h)
 rw [g] at this
 exact this
def MD {T:aD} {k:Nat} {u:aE k} (c:K.ok T) (d:K.ok ⟨k,u⟩) {b:Bool} {l:List (List Rat)} (g:l.length<=9000) {j:Nat} {v:aE j} (hv:iJ ⟨j,v⟩ ⟨k,u⟩) (R:aD.kJ T v l) {n:Nat} {a:ah j} (h:cJ a n) (i:n+r+30*(r+q+1)<=4398046511104):wk G b T l a (aR v a) :=
 MC G b (K.ht c) (K.red c) (F.iT c) l g (K.ht (K.pre hv d)) R (λ ρ f=>F.root c (K.pre hv d) ρ f (R.in ρ f)) (K.red (K.pre hv d)) h i
omit F in
noncomputable def Gm {b:Bool} {J:aD} {l:List (List Rat)} {k:Nat} {a:ah k} {v:aC} (i:bT) (h:wk G b J l a v):aZ ab G := .rel 198 [.agg [a3 J.2.ay,lC b i l],aJ a] (j5 b i l) (fun _=>{ val:=aJ (J.bp v),rd:=(j5 b i l).map (·.1) }) (fun p _=>h i p) (fun p x hx=>uj hx)
omit F in
theorem aiC {J:aD} (h3:J.1<=3) (y0:J.bK) (T:kf 419430400000 J.2) (x:Rat) (hx:cI 419430400000 x):ag ab G 198 [.agg [a3 J.2.ay, .aq],aJ (h:=0) x] (aJ (J.bp (ek x))):=by
 have r:=Dy G h3 J.2 T x hx
 rw [show cz J.1 x=J.bp (ek x) from (kg y0 (sI _ _)).symm] at r
 exact aO [hc r] (by kernel_rfl)
omit F in
theorem Of {σ : aL} {c d:aa} [bg c] {R:List (List Rat)} (h:View σ d (a3 R)):View σ (.aS [.agg [c,d], .int .i64 0]) (.aS [.agg [c,a3 R], .int .i64 0]):=mL (EB (cp (jw bg.pure) (cp h iv)))
def Uk {T U:aD} (d:K.ok T) (f:K.ok U) (x:U.1≠0):ag ab G 197 [a3 T.2.ay,a3 U.2.ay] (.aS [.agg [a3 (T.ext U.2).2.ay,a3 (aD.jU T U.2)], .int .i64 0]):=by
 have ⟨k,u⟩:=U
 have y:=gG.C6 F
 have u5:=F.rA
 have t:=K.ht f
 have a:∀ {j:Nat} (v:aE (j+1)),iJ ⟨j+1,v⟩ ⟨k,u⟩->K.ok (T.ext v.1)/\aD.kJ (T.ext v.1) v.1 (aD.jU T v.1)/\cJ v.2 q/\ag ab G 237 [a3 (T.ext v.1).2.ay,aJ ((T.ext v.1).bp (aR v.1 v.2))] (.aS [a3 (T.ext v).2.ay,aJ ((T.ext v).bp (b5 (aR v.1 v.2))), .int .i64 0]) := λ {j} v hv=>by
   have g:=K.pre hv f
   have c:iJ ⟨j,v.1⟩ ⟨j+1,v⟩ := .push (J:=⟨j,v.1⟩) v.2 (.refl _)
   have m:=K.pre c g
   have s:=K.ext d m
   have i:=(JW (K.red d) (K.red m)).2.2 _ ⟨v.2,rfl⟩
   exact ⟨s,aD.BR (K.red d) (K.red m),(F.iT g).top,aiw G F s g (cS) i⟩
 have l:∀ v:aE 1,iJ ⟨1,v⟩ ⟨k,u⟩->ag ab G 198 [.agg [a3 T.2.ay, .aq],aJ (h:=0) v.2] (aJ (T.bp (aR v.1 v.2))) := λ v hv=>aiC G (K.ht d) (K.red d) ((F.iT d).sh (by omega)) v.2 (cA (h:=0) (a v hv).2.2.1 (by omega))
 have o:∀ v:aE 2,iJ ⟨2,v⟩ ⟨k,u⟩->wk G true (T.ext v.1) (aD.jU T v.1) v.2 (aR v.1 v.2) := λ v hv=>MD G F (a v hv).1 f (by rw [aD.mg];decide) ((aD.eI.push (J:=⟨1,v.1⟩) v.2 (.refl _)).trans hv) (a v hv).2.1 (a v hv).2.2.1 (by omega)
 have w:∀ v:aE 3,iJ ⟨3,v⟩ ⟨k,u⟩->wk G true (T.ext v.1) (aD.jU T v.1) v.2 (aR v.1 v.2) := λ v hv=>MD G F (a v hv).1 f (by rw [aD.mg];decide) ((aD.eI.push (J:=⟨2,v.1⟩) v.2 (.refl _)).trans hv) (a v hv).2.1 (a v hv).2.2.1 (by omega)
 rcases h4 t with rfl | rfl | rfl | rfl
 exact (x rfl).elim
 have p:=aD.eI.refl ⟨1,u⟩
 exact bQ aY [hc (l u p),hc (a u p).2.2.2] [([33],⟨(aD.jU T u).map bb,1,false⟩)] (.aS [.agg [a3 (T.ext u).2.ay, .ai [33] 1 0 1 false], .int .i64 0]) (by kernel_rfl) (λ σ h=>Of (hH (one h) (aD.mg T u)))
 have p:=aD.eI.refl ⟨2,u⟩
 have c:iJ ⟨1,u.1⟩ ⟨2,u⟩ := .push (J:=⟨1,u.1⟩) u.2 (.refl _)
 exact bQ aY [hc (l u.1 c),hc (a u.1 c).2.2.2,Gm G [33] (o u p),hc (a u p).2.2.2] [([64],⟨(aD.jU T u).map bb,1,false⟩)] (.aS [.agg [a3 (T.ext u).2.ay, .ai [64] 1 0 2 false], .int .i64 0]) (by kernel_rfl) (λ σ h=>Of (hH (one h) (aD.mg T u)))
 have p:=aD.eI.refl ⟨3,u⟩
 have n:iJ ⟨2,u.1⟩ ⟨3,u⟩ := .push (J:=⟨2,u.1⟩) u.2 (.refl _)
 have c:iJ ⟨1,u.1.1⟩ ⟨3,u⟩:=(aD.eI.push (J:=⟨1,u.1.1⟩) u.1.2 (.refl _)).trans n
 exact bQ aY [hc (l u.1.1 c),hc (a u.1.1 c).2.2.2,Gm G [33] (o u.1 n),hc (a u.1 n).2.2.2,Gm G [64] (w u p),hc (a u p).2.2.2] [([95],⟨(aD.jU T u).map bb,1,false⟩)] (.aS [.agg [a3 (T.ext u).2.ay, .ai [95] 1 0 3 false], .int .i64 0]) (by kernel_rfl) (λ σ h=>Of (hH (one h) (aD.mg T u)))
end
def wG (a b:Rat):Int:=(a.num*(b.den:Int)-b.num*(a.den:Int)).sign
def ace (a b:Rat):(wG a b != 0) = !decide (a=b):=by
 unfold wG
 by_cases h:a=b
 subst h;rw [decide_eq_true rfl,Int.sub_self];rfl
 have c:a.num*(b.den:Int)≠b.num*(a.den:Int) := λ e=>h (Rat.eq_iff_mul_eq_mul.2 e)
 rw [decide_eq_false h]
 exact bne_iff_ne.2 λ e=>c (by have:=Int.sign_eq_zero_iff_zero.1 e;omega)
section
variable (G:Nat->Option (List aa))
def ak3 (a b:Rat) (d:cI 419430400000 a) (hb:cI 419430400000 b):ag ab G 252 [aV a,aV b] (.int .i64 (wG a b)):=by
 have k:=d.1
 have j:=d.2
 have h:=hb.1
 have i:=hb.2
 have e:=zm G a.num (b.den:Int) (by omega) (by rw [gE];omega)
 have g:=zm G b.num (a.den:Int) (by omega) (by rw [gE];omega)
 have ir:ae (a.num*(b.den:Int)).natAbs<=838860800000:=bs (mM _ _) (by rw [gE];omega)
 have m:ae (b.num*(a.den:Int)).natAbs<=838860800000:=bs (mM _ _) (by rw [gE];omega)
 unfold wG
 generalize a.num*(b.den:Int)=x at *
 generalize b.num*(a.den:Int)=y at *
 have h1:=WW G x y (by omega) (by omega)
 have l:ae (x-y).natAbs<=1677721600001:=by rw [Int.sub_eq_add_neg];exact bs (aoV _ _) (by rw [Int.natAbs_neg];omega)
 have f:=Ge G (x-y) (by omega)
 have h3:ag ab G 283 [aP x,aP y] (.int .i64 (x-y).sign):=aO [hc h1,hc f]
 exact aO [hc e,hc g,hc h3]
def apJ (l m:List Rat) (t:l.length<=9000) (s:∀ x∈l,∀ y∈m,ag ab G 252 [aV x,aV y] (.int .i64 (wG x y))):ag ab G 218 [bb l,bb m] (.bool (decide (l=m))):=by
 by_cases e:l.length=m.length
 have p:=zA (f:=aV) (g:=aV) (l:=l) (m:=m) (decide_eq_true e)
 have k:∀ i (a:i<l.length) (c:i<m.length),ag ab G 252 [aV l[i],aV m[i]] (.int .i64 (wG l[i] m[i])) := λ i a c=>s _ (bc a) _ (bc c)
 have n:∀ i (a:i<l.length) (c:i<m.length) (b:Bool),(!decide (l.getD i 0=m.getD i 0))=b->(wG l[i] m[i] != 0)=b := λ i a c b e=>by
   rw [bj a,bj c] at e
   rw [<- e];exact ace _ _
 rcases first (λ i => !decide (l.getD i 0=m.getD i 0)) l.length with h | ⟨i,a,o,q⟩
 rw [show decide (l=m)=true from decide_eq_true (G6 e λ i a=>by have:=h i a;simpa using this)]
 exact bB [hb 10 p,fb (ao 218) 0 0 0 l.length (λ i=>[(0,bb l),(1,bb m),(4, .bool false),(5, .int .i64 (i:Int))]) (.exit 0) [] (λ i a=>rd [bm 14 aV a,aQ 19 4 aV a,aQ 23 4 aV (show i<m.length by omega),hc (k i a (by omega)),hb 26 (n i a (by omega) false (h i a)),a9 16 i] ) (rd [cx 14 aV l] )]
 rw [show decide (l=m)=false from decide_eq_false (λ e=>by subst e;simp at o)]
 exact bB [hb 10 p,fb (ao 218) 0 0 0 i (λ i=>[(0,bb l),(1,bb m),(4, .bool false),(5, .int .i64 (i:Int))]) .ret [(4, .bool false)] (λ j r=>rd [bm 14 aV (show j<l.length by omega),aQ 19 4 aV (show j<l.length by omega),aQ 23 4 aV (show j<m.length by omega),hc (k j (by omega) (by omega)),hb 26 (n j (by omega) (by omega) false (q j r)),a9 16 j] ) (rd [bm 14 aV a,aQ 19 4 aV a,aQ 23 4 aV (show i<m.length by omega),hc (k i a (by omega)),hb 26 (n i a (by omega) true o)] )]
 rw [show decide (l=m)=false from decide_eq_false (λ h=>e (by rw [h]))]
 exact aO [hb 10 (zA (f:=aV) (g:=aV) (decide_eq_false e))]
def vB (R Q:List (List Rat)) (r:pA R) (n:pA Q):ag ab G 170 [a3 R,a3 Q] (.bool (gu R Q)):=by
 by_cases h:Q.length<=R.length
 have d:decide (((Q.map bb).length:Int)>((R.map bb).length:Int))=false:=decide_eq_false (by rw [aM,aM];omega)
 have u:=n.1
 have k:∀ i (a:i<Q.length) (c:i<R.length) (b:Bool),decide (R.getD i []=Q.getD i [])=b->ag ab G 218 [bb R[i],bb Q[i]] (.bool b) := λ i a c b e=>by
   rw [bj a,bj c] at e
   rw [<- e]
   have h1:=r.2 _ (bc c)
   have t:=n.2 _ (bc a)
   exact apJ G _ _ h1.1 λ x o y q=>ak3 G x y (h1.2 x o) (t.2 y q)
 have m:∀ i (a:i<Q.length),(R.take Q.length).getD i []=R.getD i [] := λ i a=>by
   rw [bj (l:=R.take Q.length) (by rw [cZ];omega),bj (l:=R) ,List.getElem_take]
 rcases first (λ i => !decide (R.getD i []=Q.getD i [])) Q.length with h1 | ⟨i,a,g,p⟩
 rw [show gu R Q=true from decide_eq_true (G6 (d:=[]) (by rw [cZ];omega) λ i a=>by have:=h1 i a;rw [m i a];exact (by simpa using this:R.getD i []=Q.getD i []).symm)]
 exact bB [hb 10 d,fb (ao 170) 0 0 0 Q.length (λ i=>[(0,a3 R),(1,a3 Q),(4, .bool false),(5, .int .i64 (i:Int))]) (.exit 0) [] (λ i a=>rd [bm 14 bb a,aQ 19 1 bb (show i<R.length by omega),aQ 23 1 bb a,hc (k i a (by omega) true (by have:=h1 i a;simpa using this)),a9 16 i] ) (rd [cx 14 bb Q] )]
 rw [show gu R Q=false from decide_eq_false (λ e=>by
   have:=m i a
   rw [<- e] at this
   rw [this] at g
   simp at g)]
 exact bB [hb 10 d,fb (ao 170) 0 0 0 i (λ i=>[(0,a3 R),(1,a3 Q),(4, .bool false),(5, .int .i64 (i:Int))]) .ret [(4, .bool false)] (λ j s=>rd [bm 14 bb (show j<Q.length by omega),aQ 19 1 bb (show j<R.length by omega),aQ 23 1 bb (show j<Q.length by omega),hc (k j (by omega) (by omega) true (by have:=p j s;simpa using this)),a9 16 j] ) (rd [bm 14 bb a,aQ 19 1 bb (show i<R.length by omega),aQ 23 1 bb a,hc (k i a (by omega) false (by simpa using g))] )]
 have d:decide (((Q.map bb).length:Int)>((R.map bb).length:Int))=true:=decide_eq_true (by rw [aM,aM];omega)
 rw [show gu R Q=false from by cases e:gu R Q with
   | false=>rfl
   | true=>exact (h (Ko e)).elim]
 exact aO [hb 10 d]
def Yh (Q:List (List Rat)):ag ab G 170 [.aq,a3 Q] (.bool (gu [] Q)):=by
 cases Q with
 | nil=>exact aO []
 | cons r Q =>
   have d:decide ((((r::Q).map bb).length:Int)>0)=true:=decide_eq_true (by simp)
   exact aO [hb 10 d]
def Yi (R:List (List Rat)):ag ab G 170 [a3 R, .aq] (.bool true):=by
 have d:decide ((0:Int)>((R.map bb).length:Int))=false:=decide_eq_false (by omega)
 exact aO [hb 10 d]
def apv {i d:Nat} (c:i+d<=3) (t:aE (i+d)) (s:ah i):ag ab G 172 [a3 t.ay,aJ s] (aJ (ah.up d s)):=by
 have q:=r7 G 0 (by decide) (by decide)
 have hd:d=0 \/ d=1 \/ d=2 \/ d=3:=by omega
 have a:i=0 \/ i=1 \/ i=2 \/ i=3:=by omega
 rcases hd with rfl | rfl | rfl | rfl
 rcases a with rfl | rfl | rfl | rfl
 exact bQ aY (bG 7 (hc q)) [([3],_)] (.ai [3] 4 0 _ false) (by kernel_rfl) (λ σ h=>dR (one h))
 exact bQ aY (bG 7 (hc q)) [([3],_)] (.ai [3] 4 0 _ false) (by kernel_rfl) (λ σ h=>dR (one h))
 exact bQ aY (bG 7 (hc q)) [([3],_)] (.ai [3] 4 0 _ false) (by kernel_rfl) (λ σ h=>dR (one h))
 exact bQ aY (bG 7 (hc q)) [([3],_)] (.ai [3] 4 0 _ false) (by kernel_rfl) (λ σ h=>dR (one h))
 rcases a with rfl | rfl | rfl | rfl
 exact bQ aY (bG 7 (hc q)) [([14],_)] (.ai [14] 4 0 _ false) (by kernel_rfl) (λ σ h=>dR (one h))
 exact bQ aY (bG 7 (hc q)) [([25],_)] (.ai [25] 4 0 _ false) (by kernel_rfl) (λ σ h=>dR (one h))
 exact bQ aY (bG 7 (hc q)) [([47],_)] (.ai [47] 4 0 _ false) (by kernel_rfl) (λ σ h=>dR (one h))
 omega
 rcases a with rfl | rfl | rfl | rfl
 exact bQ aY (bG 7 (hc q)) [([36],_)] (.ai [36] 4 0 _ false) (by kernel_rfl) (λ σ h=>dR (one h))
 exact bQ aY (bG 7 (hc q)) [([69],_)] (.ai [69] 4 0 _ false) (by kernel_rfl) (λ σ h=>dR (one h))
 omega
 omega
 rcases a with rfl | rfl | rfl | rfl
 exact bQ aY (bG 7 (hc q)) [([80],_)] (.ai [80] 4 0 _ false) (by kernel_rfl) (λ σ h=>dR (one h))
 omega
 omega
 omega
def Yo {J:aD} (b:J.1<=3) (c:J.bK) {l:List Rat} {v:aC} (h:aD.cm J l v):ag ab G 172 [a3 J.2.ay,bb l] (aJ (J.bp v)):=by
 obtain ⟨i,d,s,e,rfl,k⟩:=h.up c
 have ⟨h,t⟩:=J
 simp only at e b
 subst e
 have:=apv G b t s
 unfold aJ at this ⊢
 rw [k]
 exact this
def yx (b:Bool) (J:aD) (l:List (List Rat)) {k:Nat} (a:ah k) (v:aC):Prop:=∀ i p,cu ab G 173 [a3 J.2.ay,lC b i l,aJ a] p (j5 b i l) { val:=aJ (J.bp v),rd:=(j5 b i l).map (·.1) }
noncomputable def tj {b:Bool} {J:aD} {l:List (List Rat)} {k:Nat} {a:ah k} {v:aC} (i:bT) (h:yx G b J l a v):aZ ab G := .rel 173 [a3 J.2.ay,lC b i l,aJ a] (j5 b i l) (λ _=>{ val:=aJ (J.bp v),rd:=(j5 b i l).map (·.1) }) (λ p _=>h i p) (λ p x d=>uj d)
def Nf {b:Bool} {J:aD} {l:List (List Rat)} {k:Nat} {a:ah k} {i p:bT}:bx (bN 0 p λ _=>i) [a3 J.2.ay,lC b [1] l,aJ a]=[a3 J.2.ay,lC b i l,aJ a]:=by
 show [(a3 J.2.ay).aX _,(lC b [1] l).aX _,(aJ a).aX _]=_
 rw [pn (c:=a3 J.2.ay),pn (c:=aJ a)]
 cases b with
 | true=>rfl
 | false=>show [_,(a3 l).aX _,_]=_;rw [pn (c:=a3 l)];rfl
def apr (b:Bool) {J:aD} (h3:J.1<=3) (a:J.bK) (l:List (List Rat)) (x:Rat):yx G b J l (k:=0) x (ek x) := λ i p=>by
 have r:=xU G h3 J.2 x
 rw [show cz J.1 x=J.bp (ek x) from (kg a (sI _ _)).symm] at r
 cases b<;>exact yi aY (λ _=>i) [hc r] [a3 J.2.ay,lC _ [1] l,aJ (h:=0) x] (j5 _ [1] l) (aJ (J.bp (ek x))) (by kernel_rfl) Nf xx pn (xc _ _ _)
def OO (b:Bool) {J:aD} (g:J.1<=3) (d:J.bK) {q r:Nat} (H:df J.2 q) (l:List (List Rat)) (K:l.length<=9000):∀ {k:Nat} (A:k<=3) {u:aE k} (R:aD.kJ J u l) (j:∀ ρ ∈ u.vals,cJ (J.bp (b5 ρ)) r) (hu:u.bK) {n:Nat} {a:ah k} (y:cJ a n) (s:n+r+30*(r+q+1)<=4398046511104),yx G b J l a (aR u a)
 | 0,_,u,R,j,hu,n,a,y,s=>apr G b g d l a
 | k + 1,A,u,R,j,hu,n,a,y,s => λ i p=>by
   have ⟨L,F⟩:=gW y
   have c:k<=3:=by omega
   have e:∀ ρ ∈ u.1.vals,cJ (J.bp (b5 ρ)) r := λ ρ h=>j ρ (c5 _ h)
   have E:=OO b g d H l K c R.1 e hu.1 L s
   have I:=OO b g d H l K c R.1 e hu.1 F s
   have o:=R.in
   have D:=aD.IW d (u:=u.1) (λ ρ h=>o ρ (c5 _ h))
   have N:=GQ d H.bL.bL c (λ ρ h=>o ρ (c5 _ h)) e L
   have B:=GQ d H.bL.bL c (λ ρ h=>o ρ (c5 _ h)) e F
   have hv:aR u a=aR u.1 a.1+aR u.1 a.2*b5 (aR u.1 u.2):=rfl
   have ⟨x,t,M⟩:=R.2
   have O:=o _ cS
   have C:=j _ cS
   have z:=Yo G g d M
   have hb:=tF q g
   have m:=(j9 G g H B C (by omega)).fN
   have v:=Ax G g J.2 _ _ (cA N (by omega)) (cA (k6 H.bL.bL B C) (by omega))
   rw [show eC (J.bp (aR u.1 a.1)) (cN J.2 (J.bp (aR u.1 a.2)) (J.bp (b5 (aR u.1 u.2))))=J.bp (aR u a) from (kg d (by rw [Ey,A3 d.pos,k7 (D _),k7 (D _),k7 O,hv])).symm] at v
   have w:k<l.length:=(eu.1 t).1
   have P:fY 1 (a3 l) (.int .i64 (k:Int))=some (.c2 (bb x).cells 0):=by
     obtain ⟨h1,rfl⟩:=eu.1 t
     exact B0 (f:=bb) (k:=1) h1
   rcases h3 A with rfl | rfl | rfl<;>cases b
   all_goals first
     | exact yi aY (λ _=>i) [tj G [1] E,tj G [1] I,ho 49 P,hc z,hc m,hc v] [a3 J.2.ay,lC false [1] l,aJ a] (j5 false [1] l) (aJ (J.bp (aR u a))) (by kernel_rfl) Nf xx pn (xc _ _ _)
     | exact yi aY (λ _=>i) [tj G [1] E,tj G [1] I,ho 49 (Sh (i:=[1]) w),Sq G 50 _ t,hc z,hc m,hc v] [a3 J.2.ay,lC true [1] l,aJ a] (j5 true [1] l) (aJ (J.bp (aR u a))) (by kernel_rfl) Nf xx pn (xc _ _ _)
def qH {T:aD} (h:T.2.ay=[]):T=gp:=by
 have ⟨k,t⟩:=T
 have:k=0:=by rw [<- ea t,h];rfl
 subst this
 rfl
noncomputable abbrev KG (l:List aI) (i:Nat):List (Nat × aa):=[(0,gT l),(4,qN (fq (l.take i)).2.ay),(9,gT l),(10, .int .i64 ((l.map aw).length:Nat)),(11, .int .i64 (i:Int))]
end
section
variable (G:Nat->Option (List aa)) {K:cT} {q e r:Nat} (F:gG K q e r)
include F
def zI {T:aD} (a:K.ok T):pA T.2.ay:=xG (K.ht a) ((F.iT a).sh (by have:=gG.C6 F;omega))
def aix (l:List aI) (p:l.length<=9000) (ho:∀ a∈l,K.ok a.T):ag ab G 196 [gT l] (.aS [qN (fq l).2.ay, .int .i64 0]):=by
 have j:∀ i,K.ok (fq (l.take i)) := λ i=>Tk λ a d=>ho a (gq d)
 refine bB [fb (ao 196) 0 0 0 l.length (KG l) (.exit 0) [(4,qN (fq l).2.ay)] (λ i c => ?_) ?_]
 have d:=ho _ (bc c)
 have b1:=Qn G (fq (l.take i)).2.ay l[i].T.2.ay (zI F (j i)) (zI F d)
 have n:=agF c
 have m:=j i
 unfold KG
 rw [n]
 generalize s:fq (l.take i)=T at *
 have o:gu T.2.ay l[i].T.2.ay=false->l[i].T.2.ay≠[] := λ h1 e=>by
   rw [qH e,m0.2 (A4 T.2)] at h1
   cases h1
 cases h1:gu T.2.ay l[i].T.2.ay with
 | true =>
   rw [h1] at b1
   rw [(m0.1 h1).same]
   by_cases b:T.2.ay=[]
   rw [b] at b1 ⊢
   exact rd [bm 12 aw c,aQ 13 2 aw c,hc b1,a9 39 i]
   rw [sn b] at b1 ⊢
   exact rd [bm 12 aw c,aQ 13 2 aw c,hc b1,a9 39 i]
 | false =>
   rw [h1] at b1
   have f:=o h1
   have b2:=abg G T.2.ay l[i].T.2.ay (zI F m) (zI F d)
   cases g:gu l[i].T.2.ay T.2.ay with
   | true =>
     rw [g] at b2
     rw [Pr (m0.1 g) (K.red d),sn f]
     by_cases b:T.2.ay=[]
     rw [b] at b1 b2 ⊢
     exact rd [bm 12 aw c,aQ 13 2 aw c,hc b1,hc b2,a9 39 i]
     rw [sn b] at b1 b2 ⊢
     exact rd [bm 12 aw c,aQ 13 2 aw c,hc b1,hc b2,a9 39 i]
   | false =>
     rw [g] at b2
     have b:T.2.ay≠[] := λ e=>by
       rw [qH e,m0.2 (A4 l[i].T.2)] at g
       cases g
     have x:=Uk G F m d (λ e=>f (sP (by rw [ea];exact e)))
     have h:(T.ext l[i].T.2).2.ay≠[] := λ e=>by
       have:=(aD.xu (aD.C4 T l[i].T.2)).2
       rw [qH e] at this
       exact b (sP (by rw [ea];exact Nat.le_zero.1 this))
     rw [sn b] at b1 b2 ⊢
     rw [sn h]
     exact rd [bm 12 aw c,aQ 13 2 aw c,hc b1,hc b2,hc x,a9 39 i]
 unfold KG
 rw [gn]
 by_cases b:(fq l).2.ay=[]
 rw [b];exact rd [cx 12 aw l]
 rw [sn b];exact rd [cx 12 aw l]
omit F in
theorem aiI {J:aD} (b7:J.1<=3) (y0:J.bK) {l:List Rat} {v:aC} (h:aD.cm J l v):ag ab G 147 [qN J.2.ay,bb l] (aJ (J.bp v)):=by
 by_cases e:J.2.ay=[]
 . have hr:=ME G b7 y0 h
   obtain rfl:=qH e
   obtain ⟨T,s,a,rfl,rfl⟩:=h
   obtain ⟨k,t⟩:=T
   have hk:k=0:=by have:=(aD.xu a).2;exact Nat.le_zero.1 this
   subst hk
   rw [show gp.bp (aR t s)=s from kg (T:=gp) trivial rfl]
   have cl:=fun p=>NQ G (h:=0) (by decide) s p
   exact bQ aY [dc cl] [([5,2],_)] (.ai [5,2] 4 0 _ false) (by kernel_rfl) (fun σ h=>dR (h:=0) (one h))
 . rw [sn e];exact ME G b7 y0 h
omit F in
theorem aiz {J:aD} (b7:J.1<=3) (T:kf 419430400000 J.2) (a:ah J.1) (ha:dn 419430400000 a):ag ab G 158 [.agg [qN J.2.ay,aJ a]] (aw ⟨J,a⟩):=by
 by_cases e:J.2.ay=[]
 . obtain rfl:=qH e
   have key:∀ x:ah 0,dn 419430400000 x->ag ab G 158 [.agg [.aq,aJ x]] (aw ⟨gp,x⟩):=fun x hx =>
     bQ aY [hc (MB G (h:=0) (by decide) x hx)] [] (.agg [.aq,aJ x]) (by kernel_rfl) (fun σ _=>DI (n:=⟨gp,x⟩) (fi 1))
   exact key a ha
 . rw [sn e]
   obtain ⟨h,t⟩:=J
   exact aiy G b7 t T a ha
noncomputable abbrev L3 (l:List aI) (X:aa) (i:Nat):List (Nat × aa):=[(0,gT l),(4,X),(20,gT l),(21, .int .i64 ((l.map aw).length:Nat)),(22, .int .i64 (i:Int))]
def aiE (l:List aI) (B:l.length<=9000) {n:Nat} (w:∀ a∈l,fD K a n) (E:n+K.C<=2199023255552) (i:Nat) (g:i<l.length) (X:aa) (m:X=qN (fq l).2.ay) (h:X = .aq \/ X=a3 (fq l).2.ay) :
   Bi ab G (ao 143) 0 0 l.length 2 48 56 6 (by decide) (aw (ur (fq l) (l.getD i (eb 0)).val)) (L3 l X i) (L3 l X (i+1)):=by
 have ho:∀ a∈l,K.ok a.T := λ a c=>(w a c).1
 have f:=Tk ho
 have D:=gG.C6 F
 have u5:=F.rA
 have j:=bc g
 have c:=w _ j
 have o:=Tj ho _ j _ ⟨l[i].a,rfl⟩
 have y:=c.bp f o
 have b1:=Qn G (fq l).2.ay l[i].T.2.ay (zI F f) (zI F c.1)
 have d:=aiz G (K.ht f) ((F.iT f).sh (by omega)) ((fq l).bp l[i].val) (cA y (by omega))
 rw [show l.getD i (eb 0)=l[i] from bj g]
 rw [<- m] at b1 d
 cases h1:gu (fq l).2.ay l[i].T.2.ay with
 | true =>
   rw [h1] at b1
   have p:=aiI G (K.ht f) (K.red f) (l:=dp l[i].a) (v:=l[i].val) ⟨l[i].T,l[i].a,m0.1 h1,rfl,rfl⟩
   rw [<- m] at p
   rcases h with rfl | rfl<;>exact ru 22 23 (λ x=>[bm 23 aw g,aQ 24 2 aw g,hc b1,hc p,hc d]++x++[a9 57 i]) (by intros;kernel_rfl)
 | false =>
   rw [h1] at b1
   have s:l[i].T.1≠0 := λ e=>by
     have:l[i].T.2.ay=[]:=sP (by rw [ea];exact e)
     rw [qH this,m0.2 (A4 (fq l).2)] at h1
     cases h1
   have es:(fq l).ext l[i].T.2=fq l:=aD.BS λ v hv=>Tj ho _ j v hv
   have k:(fq l).2.ay≠[] := λ e=>by
     rw [qH e,K4 (K.red c.1)] at es
     exact s (congrArg Sigma.fst es)
   have x:=Uk G F f c.1 s
   have u:=aD.BR (K.red f) (K.red c.1)
   rw [es] at x u
   have A:=MD G F f c.1 (b:=false) (l:=aD.jU (fq l) l[i].T.2) (by rw [aD.mg];have:=K.ht c.1;omega) (.refl _) u c.self (by omega)
   obtain rfl:X=a3 (fq l).2.ay:=m.trans (sn k)
   exact ru 34 35 (λ z=>[bm 23 aw g,aQ 24 2 aw g,hc b1,hc x,Gm G [] A,hc d]++z++[a9 57 i]) (by intros;kernel_rfl)
def aiD (l:List aI) (j:l.length<=9000) {n:Nat} (d:∀ a∈l,fD K a n) (m:n+K.C<=2199023255552):ag ab G 143 [gT l] (.aS [gT (Cs l), .int .i64 0]):=by
 have c:=aix G F l j λ a p=>(d a p).1
 have o:(List.range l.length).map (λ i=>aw (ur (fq l) (l.getD i (eb 0)).val))=(Cs l).map aw:=alh (f:=aw) (g := λ a=>ur (fq l) a.val)
 have key:∀ X:aa,X=qN (fq l).2.ay->(X = .aq \/ X=a3 (fq l).2.ay)->ag ab G 196 [gT l] (.aS [X, .int .i64 0])->ag ab G 143 [gT l] (.aS [gT (Cs l), .int .i64 0]) := λ X h1 s c=>by
   rcases s with rfl | rfl<;>exact bB [hc c,tB (ao 143) 0 0 0 l.length 2 48 56 6 (λ i=>aw (ur (fq l) (l.getD i (eb 0)).val)) ((Cs l).map aw) (L3 l _) (.exit 0) [] (by decide) (λ i k=>aiE G F l j d m i k _ h1 (by simp)) (tO [cx 23 aw l] (by intros;kernel_rfl)) o]
 refine key _ rfl ?_ c
 by_cases h:(fq l).2.ay=[]
 exact .inl (by rw [h];rfl)
 exact .inr (sn h)
end
def Og {σ : aL} {c d:aa} [bg c] {R:List (List Rat)} (h:View σ d (a3 R)):View σ (.aS [c,d, .int .i64 0]) (.aS [c,a3 R, .int .i64 0]):=vO (cp (jw bg.pure) (cp h (cp (jw bg.pure) iv)))
section
variable (G:Nat->Option (List aa)) {K:cT} {q e r:Nat} (F:gG K q e r)
include F
def ape {T U:aD} (b:K.ok T) (d:K.ok U) {ρ : aC} (c : ρ ∈ U.2.vals) (f:T.In ρ):ag ab G 182 [a3 T.2.ay,aJ (T.bp ρ)] (.aS [a3 (T.gH (T.bp ρ)).2.ay,aJ ((T.gH (T.bp ρ)).bp (b5 ρ)), .int .i64 0]):=by
 have g:=k7 f
 have j:0 < ρ := aE.Oo (K.red d) c
 have:=Yg G (K.ht b) (F.iT b) (K.red b) (a:=T.bp ρ) (F.val b d ρ c f) (F.low b d ρ c f) F.be F.Fx F.gg (by rw [g];grind) (λ h=>by rw [g];exact F.full b d ρ c h)
 rw [g] at this
 exact this
def OP {T:aD} {k:Nat} {u:aE k} (c:K.ok T) (d:K.ok ⟨k,u⟩) {b:Bool} {l:List (List Rat)} (g:l.length<=9000) {j:Nat} {v:aE j} (hv:iJ ⟨j,v⟩ ⟨k,u⟩) (R:aD.kJ T v l) {n:Nat} {a:ah j} (h:cJ a n) (i:n+r+30*(r+q+1)<=4398046511104):yx G b T l a (aR v a) :=
 OO G b (K.ht c) (K.red c) (F.iT c) l g (K.ht (K.pre hv d)) R (λ ρ f=>F.root c (K.pre hv d) ρ f (R.in ρ f)) (K.red (K.pre hv d)) h i
omit F in
def aeJ (R:List (List Rat)) (x:Rat) (c:aa) [bg c] (r:ag ab G 126 [a3 R,aV x] c):aZ ab G:=hc r
omit F in
theorem aps {J:aD} (h3:J.1<=3) (y0:J.bK) (x:ah 0):ag ab G 173 [a3 J.2.ay, .aq,aJ x] (aJ (J.bp (ek x))):=by
 have r:=xU G h3 J.2 x
 rw [show cz J.1 x=J.bp (ek x) from (kg y0 (sI _ _)).symm] at r
 exact aO [aeJ G J.2.ay x _ r] (by kernel_rfl)
def Yj {T U:aD} (d:K.ok T) (f:K.ok U) (x:U.1≠0):ag ab G 171 [a3 T.2.ay,a3 U.2.ay] (.aS [a3 (T.ext U.2).2.ay,a3 (aD.jU T U.2), .int .i64 0]):=by
 have ⟨k,u⟩:=U
 have y:=gG.C6 F
 have u5:=F.rA
 have t:=K.ht f
 have a:∀ {j:Nat} (v:aE (j+1)),iJ ⟨j+1,v⟩ ⟨k,u⟩->K.ok (T.ext v.1)/\aD.kJ (T.ext v.1) v.1 (aD.jU T v.1)/\cJ v.2 q/\ag ab G 182 [a3 (T.ext v.1).2.ay,aJ ((T.ext v.1).bp (aR v.1 v.2))] (.aS [a3 (T.ext v).2.ay,aJ ((T.ext v).bp (b5 (aR v.1 v.2))), .int .i64 0]) := λ {j} v hv=>by
   have g:=K.pre hv f
   have c:iJ ⟨j,v.1⟩ ⟨j+1,v⟩ := .push (J:=⟨j,v.1⟩) v.2 (.refl _)
   have m:=K.pre c g
   have s:=K.ext d m
   have i:=(JW (K.red d) (K.red m)).2.2 _ ⟨v.2,rfl⟩
   exact ⟨s,aD.BR (K.red d) (K.red m),(F.iT g).top,ape G F s g (cS) i⟩
 have l:∀ v:aE 1,iJ ⟨1,v⟩ ⟨k,u⟩->ag ab G 173 [a3 T.2.ay, .aq,aJ (h:=0) v.2] (aJ (T.bp (aR v.1 v.2))) := λ v hv=>aps G (K.ht d) (K.red d) v.2
 have o:∀ v:aE 2,iJ ⟨2,v⟩ ⟨k,u⟩->yx G true (T.ext v.1) (aD.jU T v.1) v.2 (aR v.1 v.2) := λ v hv=>OP G F (a v hv).1 f (by rw [aD.mg];decide) ((aD.eI.push (J:=⟨1,v.1⟩) v.2 (.refl _)).trans hv) (a v hv).2.1 (a v hv).2.2.1 (by omega)
 have w:∀ v:aE 3,iJ ⟨3,v⟩ ⟨k,u⟩->yx G true (T.ext v.1) (aD.jU T v.1) v.2 (aR v.1 v.2) := λ v hv=>OP G F (a v hv).1 f (by rw [aD.mg];decide) ((aD.eI.push (J:=⟨2,v.1⟩) v.2 (.refl _)).trans hv) (a v hv).2.1 (a v hv).2.2.1 (by omega)
 rcases h4 t with rfl | rfl | rfl | rfl
 exact (x rfl).elim
 have p:=aD.eI.refl ⟨1,u⟩
 exact bQ aY [hc (l u p),hc (a u p).2.2.2] [([31],⟨(aD.jU T u).map bb,1,false⟩)] (.aS [a3 (T.ext u).2.ay, .ai [31] 1 0 1 false, .int .i64 0]) (by kernel_rfl) (λ σ h=>Og (hH (one h) (aD.mg T u)))
 have p:=aD.eI.refl ⟨2,u⟩
 have c:iJ ⟨1,u.1⟩ ⟨2,u⟩ := .push (J:=⟨1,u.1⟩) u.2 (.refl _)
 exact bQ aY [hc (l u.1 c),hc (a u.1 c).2.2.2,tj G [31] (o u p),hc (a u p).2.2.2] [([63],⟨(aD.jU T u).map bb,1,false⟩)] (.aS [a3 (T.ext u).2.ay, .ai [63] 1 0 2 false, .int .i64 0]) (by kernel_rfl) (λ σ h=>Og (hH (one h) (aD.mg T u)))
 have p:=aD.eI.refl ⟨3,u⟩
 have n:iJ ⟨2,u.1⟩ ⟨3,u⟩ := .push (J:=⟨2,u.1⟩) u.2 (.refl _)
 have c:iJ ⟨1,u.1.1⟩ ⟨3,u⟩:=(aD.eI.push (J:=⟨1,u.1.1⟩) u.1.2 (.refl _)).trans n
 exact bQ aY [hc (l u.1.1 c),hc (a u.1.1 c).2.2.2,tj G [31] (o u.1 n),hc (a u.1 n).2.2.2,tj G [63] (w u p),hc (a u p).2.2.2] [([95],⟨(aD.jU T u).map bb,1,false⟩)] (.aS [a3 (T.ext u).2.ay, .ai [95] 1 0 3 false, .int .i64 0]) (by kernel_rfl) (λ σ h=>Og (hH (one h) (aD.mg T u)))
end
def alg {T U:aD} (h:T.2.ay=U.2.ay):T=U:=by
 have ⟨k,t⟩:=T
 have ⟨m,u⟩:=U
 obtain rfl:k=m:=by rw [<- ea t, <- ea u];exact congrArg _ h
 rw [aE.Nc (t:=t) (u:=u) h]
def S8 {a:aI} (b:a.bK) (c:a.val≠0):(aI.inv a).val=a.val⁻¹ := ah.I3 b c
def ad1 {K:cT} {a:aI} {n:Nat} (b:fD K a n) (d:a.val≠0):fD K (aI.inv a) (23*n+41*K.c):=⟨b.1,by rw [S8 b.red d];exact b.2.inv⟩
def agH {a b:aI} (c:a.bK):Cs [a,b]=[⟨c0 a b,(c0 a b).bp a.val⟩,⟨c0 a b,(c0 a b).bp b.val⟩]:=by
 show [ur (fq [a,b]) a.val,ur (fq [a,b]) b.val]=_
 rw [agG c];rfl
section
variable (G:Nat->Option (List aa)) {K:cT} {q e r:Nat} (F:gG K q e r) {a b:aI} {n m:Nat}
include F
omit F in
theorem BN (ha:fD K a n) (hb:fD K b m):cJ ((c0 a b).bp a.val) (n+K.C)/\cJ ((c0 a b).bp b.val) (m+K.C) :=
 ⟨ha.bp (ha.join hb) (A5 ha.red hb.red),hb.bp (ha.join hb) (A6 ha.red hb.red)⟩
def Un (f:fD K a n) (hb:fD K b m) (i:30*(n+K.C)+100*q<=4398046511104) (g:30*(m+K.C)+100*q<=4398046511104) :
   ag ab G 143 [.sl 2 [aw a,aw b]] (.aS [.sl 2 [aw ⟨c0 a b,(c0 a b).bp a.val⟩,aw ⟨c0 a b,(c0 a b).bp b.val⟩], .int .i64 0]):=by
 have h:=aiD G F [a,b] (Nat.le_of_ble_eq_true rfl) (n:=max n m) (λ x c=>by
   rcases cr.1 c with rfl | c
   exact f.mono (by omega)
   obtain rfl:=bJ.1 c;exact hb.mono (by omega)) (by omega)
 rw [agH f.red] at h
 exact h
def Uh (j:fD K a n) (hb:fD K b m) (h:30*(n+K.C)+100*q<=4398046511104) (g:30*(m+K.C)+100*q<=4398046511104) {f:Nat} {c:ah (c0 a b).1}
   (i:ag ab G f [a3 (c0 a b).2.ay,aJ ((c0 a b).bp a.val),aJ ((c0 a b).bp b.val)] (aJ c)) :
   ag ab G 231 [aw a,aw b, .fn (.func f) [] []] (.aS [aw ⟨c0 a b,c⟩, .int .i64 0]) :=
 aO [j1 [6] 2 [aw a,aw b] (A:=[]) (Un G F j hb h g),hc i]
def aiv (c:fD K a n) (hb:fD K b m) (h:30*(n+K.C)+100*q<=4398046511104) (g:30*(m+K.C)+100*q<=4398046511104) :
   ag ab G 191 [aw a,aw b] (.aS [aw (EC a b), .int .i64 0]):=by
 have d:=c.join hb
 have s:=BN c hb
 have k:=Uh G F c hb h g (Fb G (K.ht d) ((F.iT d).sh (by omega)) (cA s.1 (by omega)) (cA s.2 (by omega)))
 rw [show EC a b=⟨c0 a b,eC ((c0 a b).bp a.val) ((c0 a b).bp b.val)⟩ from congrArg (aI.mk _) (kg (K.red d) (by rw [Ey,k7 (A5 c.red hb.red),k7 (A6 c.red hb.red)]))]
 exact aO [hc k]
def aiG (c:fD K a n) (hb:fD K b m) (h:30*(n+K.C)+100*q<=4398046511104) (g:30*(m+K.C)+100*q<=4398046511104) :
   ag ab G 190 [aw a,aw b] (.aS [aw (A7 a b), .int .i64 0]):=by
 have d:=c.join hb
 have s:=BN c hb
 have k:=Uh G F c hb h g (uF G (K.ht d) (F.iT d) s.1 s.2 (by omega))
 rw [show A7 a b=⟨c0 a b,cN (c0 a b).2 ((c0 a b).bp a.val) ((c0 a b).bp b.val)⟩ from congrArg (aI.mk _) (kg (K.red d) (by rw [A3 (K.red d).pos,k7 (A5 c.red hb.red),k7 (A6 c.red hb.red)]))]
 exact aO [hc k]
def aiJ (c:fD K a n) (f:30*(n+K.C)+100*q<=4398046511104):ag ab G 154 [aw a] (.int .i64 (eD a.val)) :=
 aO [hc (Ii G (K.ht c.1) (F.iT c.1) (K.red c.1).pos c.self (by have:=K.ht c.1;have:2 ^ a.T.1<=8:=dv (n:=2) (by decide) this;have:=c6 (n+K.C+10*q) this;omega) (by omega))]
def Uj (d:fD K a n) (hb:fD K b m) (J:30*(n+K.C)+100*q<=4398046511104) (H:30*(m+K.C)+100*q<=4398046511104) {c:Bool} (g:c=true↔a.val=b.val) :
   ag ab G 103 [aw a,aw b] (.bool c):=by
 have w:=xG (K.ht d.1) ((F.iT d.1).sh (by omega))
 have B:=xG (K.ht hb.1) ((F.iT hb.1).sh (by omega))
 have b1:=Fu G a.T.2.ay b.T.2.ay w B
 have b2:=Fu G b.T.2.ay a.T.2.ay B w
 have M:=d.join hb
 have s:=BN d hb
 have k:∀ {h:Nat} {x y:ah h},dn 419430400000 x->dn 419430400000 y->h<=3->(c=true↔x=y)->ag ab G 142 [aJ x,aJ y] (.bool c) := λ {h x y} D L h3 i=>by
   have:=RM G (dp x) (dp y) (te h3 x) (λ u hu v hv=>Vk G u v (ah.eJ.flat D u hu) (ah.eJ.flat L v hv))
   rw [show decide (dp x=dp y)=c from by
     cases c with
     | true=>exact decide_eq_true (congrArg _ (i.1 rfl))
     | false=>exact decide_eq_false λ e=>yj (i.2 (ah.F2 e))] at this
   exact this
 have j:=Un G F d hb J H
 have z:=k (cA s.1 (by omega)) (cA s.2 (by omega)) (K.ht M) (g.trans ⟨congrArg _, λ e=>by rw [<- k7 (A5 d.red hb.red),e,k7 (A6 d.red hb.red)]⟩)
 cases h1:gu a.T.2.ay b.T.2.ay with
 | true =>
   rw [h1] at b1
   cases l:gu b.T.2.ay a.T.2.ay with
   | true =>
     rw [l] at b2
     have N:a.T=b.T:=by
       have E:=aD.xu (m0.1 h1)
       have t:=aD.xu (m0.1 l)
       have el:a.T.1=b.T.1:=Nat.le_antisymm t.2 E.2
       exact alg (t.1.trans (by rw [show a.T.1=b.T.2.ay.length from el.trans (ea _).symm];exact gn))
     have p:=d.self
     have o:=hb.self
     have ⟨T,x⟩:=a
     have ⟨U,y⟩:=b
     obtain rfl:T=U:=N
     have I:=k (cA p (by omega)) (cA o (by omega)) (K.ht d.1) (g.trans ⟨λ e=>ah.inj d.red e, λ e=>congrArg (aR T.2) e⟩)
     exact aO [hc b1,hc b2,hc I]
   | false =>
     rw [l] at b2
     exact aO [hc b1,hc b2,j1 [17] 2 [aw a,aw b] (A:=[]) j,hc z]
 | false =>
   rw [h1] at b1
   exact aO [hc b1,j1 [17] 2 [aw a,aw b] (A:=[]) j,hc z]
omit F in
theorem Ul (x:Rat) (hx:cI 419430400000 x):ag ab G 94 [aV x] (aw (eb x)) :=
 bQ aY [hc (Ui G x hx)] [([4],⟨[aV x],4,false⟩)] (.agg [.aq, .ai [4] 4 0 1 false]) (by kernel_rfl) (fun σ h=>EB (cp (fi 1) (cp (dR (h:=0) (a:=x) (one h)) iv)))
end
def Va {T U J:aD} (h:iJ T J) (k:iJ U J) (c:U.1<=T.1):iJ U T:=by
 have d:=aD.xu h
 have f:=aD.xu k
 have ⟨a,t⟩:=T
 have ⟨b,u⟩:=U
 exact aD.M3 t u (by
   show vR u=(vR t).take b
   have e:vR t=J.2.ay.take a:=d.1
   have g:vR u=J.2.ay.take b:=f.1
   rw [e,g,List.take_take,Nat.min_eq_left c]) c
def Kp (R:List (List Rat)):gu R R=true:=decide_eq_true (by rw [gn])
section
variable (G:Nat->Option (List aa))
def Yp (x:ah 0):ag ab G 172 [.aq,aJ x] (aJ x):=bQ aY [] [([3],jT x)] (.ai [3] 4 0 1 false) (by kernel_rfl) (λ σ h=>dR (h:=0) (a:=x) (one h))
def apu (x y:ah 0):ag ab G 122 [.sl 2 [aw ⟨gp,x⟩,aw ⟨gp,y⟩]] (.aS [.sl 2 [aw ⟨gp,x⟩,aw ⟨gp,y⟩], .int .i64 0]):=by
 have c:=Yp G x
 have b:=Yp G y
 have b1:=Yh G []
 exact bQ aY [hc b1,hc b1,hc b1,hc c,hc b1,hc b] [([135],⟨[.agg [.aq,aJ x], .agg [.aq,aJ y]],2,false⟩)] (.aS [.ai [135] 2 0 2 false, .int .i64 0]) (by kernel_rfl) (λ σ h=>mL (kY (au:=⟨[.agg [.aq,aJ x], .agg [.aq,aJ y]],2,false⟩) (one h) rfl (by simp) (cp (fi 1) (cp (jw bg.pure) (cp (fi 1) (cp (jw bg.pure) iv)))) rfl (λ d hd=>by simp at hd;rcases hd with rfl | rfl<;>rfl)))
variable {K:cT} {q e r:Nat} (F:gG K q e r) {a b:aI} {n m:Nat}
include F
def apt (u:fD K a n) (hb:fD K b m) (hn:30*(n+K.C)+100*q<=4398046511104) (hm:30*(m+K.C)+100*q<=4398046511104) :
   ag ab G 122 [.sl 2 [aw a,aw b]] (.aS [.sl 2 [aw ⟨c0 a b,(c0 a b).bp a.val⟩,aw ⟨c0 a b,(c0 a b).bp b.val⟩], .int .i64 0]):=by
 have u5:=F.rA
 have w:K.ok (c0 a b):=u.join hb
 have A:=xG (K.ht u.1) ((F.iT u.1).sh (by omega))
 have k:=xG (K.ht hb.1) ((F.iT hb.1).sh (by omega))
 have Y:=xG (K.ht w) ((F.iT w).sh (by omega))
 have j:∀ {J:aD} {c:aI},K.ok J->iJ c.T J->ag ab G 172 [a3 J.2.ay,aJ c.a] (aJ (J.bp c.val)) := λ {J c} o p=>Yo G (K.ht o) (K.red o) ⟨c.T,c.a,p,rfl,rfl⟩
 have xR:∀ (σ : aL) (J:aD) (x y:ah J.1) (i:bT), σ i=some ⟨[aw ⟨J,x⟩,aw ⟨J,y⟩],2,false⟩->View σ (.aS [.ai i 2 0 2 false, .int .i64 0]) (.aS [.sl 2 [aw ⟨J,x⟩,aw ⟨J,y⟩], .int .i64 0]) := λ σ J x y i h=>mL (im (l:=[aw ⟨J,x⟩,aw ⟨J,y⟩]) h)
 by_cases P:a.T.2.ay=[]
 have B:c0 a b=b.T:=by
   show a.T.ext b.T.2=_
   rw [qH P,K4 (K.red hb.1)]
 obtain ⟨T,x⟩:=a
 obtain rfl:T=gp:=qH P
 by_cases X:b.T.2.ay=[]
 obtain ⟨U,y⟩:=b
 obtain rfl:U=gp:=qH X
 rw [B]
 have ex:gp.bp (aI.val ⟨gp,x⟩)=x:=kg (T:=gp) trivial rfl
 have ady:gp.bp (aI.val ⟨gp,y⟩)=y:=kg (T:=gp) trivial rfl
 rw [ex,ady]
 exact apu G x y
 rw [B]
 have d:decide (((b.T.2.ay.map bb).length:Int)>0)=true:=decide_eq_true (by rw [aM];have:=hO.2 X;omega)
 have p:iJ gp b.T:=A4 _
 have b1:=Yh G []
 have b2:=Yi G b.T.2.ay
 have b3:=vB G b.T.2.ay [] k A
 rw [show gu b.T.2.ay []=true from rfl] at b3
 have b4:=vB G b.T.2.ay b.T.2.ay k k
 rw [Kp] at b4
 exact bQ aY [hc b1,fh 29 d,hc b2,hc b3,hc (j (c:=⟨gp,x⟩) hb.1 p),hc b4,hc (j hb.1 (.refl _))] [([133],⟨[aw ⟨b.T,b.T.bp (aI.val ⟨gp,x⟩)⟩,aw ⟨b.T,b.T.bp b.val⟩],2,false⟩)] (.aS [.ai [133] 2 0 2 false, .int .i64 0]) (by kernel_rfl) (λ σ h=>xR σ _ _ _ _ (one h))
 have O:decide (((a.T.2.ay.map bb).length:Int)>0)=true:=decide_eq_true (by rw [aM];have:=hO.2 P;omega)
 have N:=Yi G a.T.2.ay
 have D:=vB G a.T.2.ay a.T.2.ay A A
 rw [Kp] at D
 have E:=vB G b.T.2.ay b.T.2.ay k k
 rw [Kp] at E
 have f:=vB G a.T.2.ay b.T.2.ay A k
 have g:=vB G b.T.2.ay a.T.2.ay k A
 cases h1:gu a.T.2.ay b.T.2.ay with
 | true =>
   rw [h1] at f
   have p:=m0.1 h1
   have B:c0 a b=a.T:=p.same
   rw [B]
   have d:decide (((b.T.2.ay.map bb).length:Int)>((a.T.2.ay.map bb).length:Int))=false:=decide_eq_false (by rw [aM,aM];have:=Ko h1;omega)
   exact bQ aY [fh 29 O,hc N,fh 29 d,hc f,hc D,hc (j u.1 (.refl _)),hc f,hc (j u.1 p)] [([133],⟨[aw ⟨a.T,a.T.bp a.val⟩,aw ⟨a.T,a.T.bp b.val⟩],2,false⟩)] (.aS [.ai [133] 2 0 2 false, .int .i64 0]) (by kernel_rfl) (λ σ h=>xR σ _ _ _ _ (one h))
 | false =>
   rw [h1] at f
   by_cases M:b.T.2.ay.length>a.T.2.ay.length/\gu b.T.2.ay a.T.2.ay=true
   have p:=m0.1 M.2
   rw [M.2] at g
   have B:c0 a b=b.T:=Pr p (K.red hb.1)
   rw [B]
   have d:decide (((b.T.2.ay.map bb).length:Int)>((a.T.2.ay.map bb).length:Int))=true:=decide_eq_true (by rw [aM,aM];omega)
   exact bQ aY [fh 29 O,hc N,fh 29 d,hc g,hc g,hc (j hb.1 p),hc E,hc (j hb.1 (.refl _))] [([131],⟨[aw ⟨b.T,b.T.bp a.val⟩,aw ⟨b.T,b.T.bp b.val⟩],2,false⟩)] (.aS [.ai [131] 2 0 2 false, .int .i64 0]) (by kernel_rfl) (λ σ h=>xR σ _ _ _ _ (one h))
   have S:b.T.1≠0 := λ e=>by
     have:b.T.2.ay=[]:=sP (by rw [ea];exact e)
     rw [qH this,m0.2 (A4 a.T.2)] at h1
     cases h1
   have x1:=Yj G F u.1 hb.1 S
   have bF:=Yj G F w hb.1 S
   have L:iJ a.T (c0 a b):=aD.C4 a.T b.T.2
   have es:(c0 a b).ext b.T.2=c0 a b:=aD.BS λ v hv=>(JW (K.red u.1) (K.red hb.1)).2.2 v hv
   have hr:=aD.BR (K.red w) (K.red hb.1)
   rw [es] at bF hr
   have V:=OP G F w hb.1 (b:=false) (l:=aD.jU (c0 a b) b.T.2) (by rw [aD.mg];have:=K.ht hb.1;omega) (.refl _) hr hb.self (by omega)
   have z:=vB G (c0 a b).2.ay a.T.2.ay Y A
   rw [m0.2 L] at z
   have t:=vB G (c0 a b).2.ay b.T.2.ay Y k
   rw [show gu (c0 a b).2.ay b.T.2.ay=false from by
     cases h:gu (c0 a b).2.ay b.T.2.ay with
     | false=>rfl
     | true =>
       exfalso
       have Z:=m0.1 h
       by_cases R:b.T.1<=a.T.1
       rw [m0.2 (Va L Z R)] at h1;cases h1
       exact M ⟨by rw [ea,ea];omega,m0.2 (Va Z L (by omega))⟩] at t
   have Q:a.T.ext b.T.2=c0 a b:=rfl
   rw [Q] at x1
   have H := λ (σ : aL) (i:bT)=>xR σ (c0 a b) ((c0 a b).bp a.val) ((c0 a b).bp b.val) i
   by_cases R:b.T.2.ay.length>a.T.2.ay.length
   have h2:gu b.T.2.ay a.T.2.ay=false:=by
     cases h:gu b.T.2.ay a.T.2.ay with
     | false=>rfl
     | true=>exact (M ⟨R,h⟩).elim
   rw [h2] at g
   have d:decide (((b.T.2.ay.map bb).length:Int)>((a.T.2.ay.map bb).length:Int))=true:=decide_eq_true (by rw [aM,aM];omega)
   exact bQ aY [fh 29 O,hc N,fh 29 d,hc g,hc f,hc x1,hc z,hc (j w L),hc t,hc bF,tj G [] V] [([166],⟨[aw ⟨c0 a b,(c0 a b).bp a.val⟩,aw ⟨c0 a b,(c0 a b).bp b.val⟩],2,false⟩)] (.aS [.ai [166] 2 0 2 false, .int .i64 0]) (by kernel_rfl) (λ σ h=>H σ _ (one h))
   have d:decide (((b.T.2.ay.map bb).length:Int)>((a.T.2.ay.map bb).length:Int))=false:=decide_eq_false (by rw [aM,aM];omega)
   exact bQ aY [fh 29 O,hc N,fh 29 d,hc f,hc x1,hc z,hc (j w L),hc t,hc bF,tj G [] V] [([166],⟨[aw ⟨c0 a b,(c0 a b).bp a.val⟩,aw ⟨c0 a b,(c0 a b).bp b.val⟩],2,false⟩)] (.aS [.ai [166] 2 0 2 false, .int .i64 0]) (by kernel_rfl) (λ σ h=>H σ _ (one h))
end
section
variable (G:Nat->Option (List aa)) {K:cT} {q e r:Nat} (F:gG K q e r) {a b:aI} {n m:Nat}
include F
def Yx (g:fD K a n) (hb:fD K b m) (f:30*(n+K.C)+100*q<=4398046511104) (d:30*(m+K.C)+100*q<=4398046511104) :
   ag ab G 84 [aw a,aw b] (.aS [aw ⟨c0 a b,(c0 a b).bp a.val⟩,aw ⟨c0 a b,(c0 a b).bp b.val⟩, .int .i64 0]) :=
 aO [j1 [7] 2 [aw a,aw b] (A:=[]) (apt G F g hb f d)]
def D4 (c:fD K a n) (hb:fD K b m) (h:30*(n+K.C)+100*q<=4398046511104) (g:30*(m+K.C)+100*q<=4398046511104) :
   ag ab G 40 [aw a,aw b] (.aS [aw (EC a b), .int .i64 0]):=by
 have f:=c.join hb
 have s:=BN c hb
 have k:=Ax G (K.ht f) (c0 a b).2 _ _ (cA s.1 (by omega)) (cA s.2 (by omega))
 rw [show EC a b=⟨c0 a b,eC ((c0 a b).bp a.val) ((c0 a b).bp b.val)⟩ from congrArg (aI.mk _) (kg (K.red f) (by rw [Ey,k7 (A5 c.red hb.red),k7 (A6 c.red hb.red)]))]
 exact aO [hc (Yx G F c hb h g),hc k]
def Jm (d:fD K a n) (hb:fD K b m) (i:30*(n+K.C)+100*q<=4398046511104) (g:30*(m+K.C)+100*q<=4398046511104) :
   ag ab G 42 [aw a,aw b] (.aS [aw (A7 a b), .int .i64 0]):=by
 have c:=d.join hb
 have s:=BN d hb
 have h:=tF q (K.ht c)
 have k:=(j9 G (K.ht c) (F.iT c) s.1 s.2 (by omega)).fN
 rw [show A7 a b=⟨c0 a b,cN (c0 a b).2 ((c0 a b).bp a.val) ((c0 a b).bp b.val)⟩ from congrArg (aI.mk _) (kg (K.red c) (by rw [A3 (K.red c).pos,k7 (A5 d.red hb.red),k7 (A6 d.red hb.red)]))]
 exact aO [hc (Yx G F d hb i g),hc k]
omit F in
theorem Jn (ha:fD K a n) (hn:30*(n+K.C)+100*q<=4398046511104):ag ab G 106 [aw a] (aw (aI.neg a)) :=
 aO [hc (Ay G (K.ht ha.1) a.T.2 a.a (cA ha.self (by omega)))] (by kernel_rfl)
omit F in
theorem anp {a b:aI}:EC a (aI.neg b)=aI.sub a b:=by
 show ur (c0 a b) (a.val+(aI.neg b).val)=ur (c0 a b) (a.val-b.val)
 rw [aI.Hs,sG]
def Jo (g:fD K a n) (hb:fD K b m) (f:30*(n+K.C)+100*q<=4398046511104) (c:30*(m+K.C)+100*q<=4398046511104) :
   ag ab G 130 [aw a,aw b] (.aS [aw (aI.sub a b), .int .i64 0]):=by
 have k:=D4 G F g hb.neg f c
 rw [anp] at k
 exact aO [hc (Jn G hb c),hc k]
def OS (c:fD K a n) (f:8*(n+K.C+10*q)<=4398046511104):ag ab G 36 [aw a] (.int .i64 (eD a.val)) :=
 aO [hc (apm G (K.ht c.1) (F.iT c.1) (K.red c.1).pos c.self (by have:=K.ht c.1;have:2 ^ a.T.1<=8:=dv (n:=2) (by decide) this;have:=c6 (n+K.C+10*q) this;omega))]
def OL (l:fD K a n) (hb:fD K b m) (d:b.val≠0) (h:30*(n+K.C)+100*q<=4398046511104) (g:30*(23*m+41*K.c+K.C)+100*q<=4398046511104) :
   ag ab G 131 [aw a,aw b] (.aS [aw (aI.div a b), .int .i64 0]):=by
 have i:=OQ G (K.ht hb.1) (F.iT hb.1) (K.red hb.1) d hb.self (by have:=ah.Tf q b.T.1 (m+K.C) (K.ht hb.1);omega)
 have j:=ad1 hb d
 have k:=Jm G F l j h g
 rw [show A7 a (aI.inv b)=aI.div a b from by unfold A7 aI.div;rw [S8 hb.red d];rfl] at k
 exact aO [hc i,hc k]
def apj (c:fD K a n) (hb:fD K b m) (g:30*(n+K.C)+100*q<=4398046511104) (f:30*(m+K.C)+100*q<=4398046511104) :
   ag ab G 105 [aw a,aw b] (.aS [.int .i64 (eD (a.val-b.val)), .int .i64 0]):=by
 have s:=OS G F (c.sub hb) (by omega)
 rw [aI.NL c.red hb.red] at s
 exact aO [hc (Jo G F c hb g f),hc s]
def Jj (j:fD K a n) (hb:fD K b m) (l:30*(n+K.C)+100*q<=4398046511104) (i:30*(m+K.C)+100*q<=4398046511104) {c:Bool} (d:c=true↔a.val=b.val) :
   ag ab G 56 [aw a,aw b] (.bool c):=by
 have k:(eD (a.val-b.val)==0)=c:=by
   rcases uq (a.val-b.val) with ⟨h,f⟩ | ⟨h,f⟩ | ⟨h,f⟩
   rw [h]
   cases c with
   | false=>rfl
   | true=>exfalso;have:=d.1 rfl;rw [this] at f;grind
   rw [h]
   cases c with
   | true=>rfl
   | false=>exact absurd (d.2 (by grind)) yj
   rw [h]
   cases c with
   | false=>rfl
   | true=>exfalso;have:=d.1 rfl;rw [this] at f;grind
 exact aO [hc (apj G F j hb l i),fh 17 k]
omit F in
theorem Ym (x:Rat):ag ab G 88 [aV x] (aw (eb x)) :=
 bQ aY [] [([3],⟨[aV x],4,false⟩)] (.agg [.aq, .ai [3] 4 0 1 false]) (by kernel_rfl) (fun σ h=>EB (cp (fi 1) (cp (dR (h:=0) (a:=x) (one h)) iv)))
omit F in
theorem apo (i:Int) (d:Nat) (h0:d≠0) (h1:d<=1000) (h2 : -1000<=i) (h3:i<=1000):ag ab G 128 [.int .i64 i, .int .i64 (d:Int)] (aw (eb ((i:Rat)/((d:Int):Rat)))) :=
 aO [hc (Na G i d h0 h1 h2 h3),hc (Ym G ((i:Rat)/((d:Int):Rat)))] (by kernel_rfl)
omit F in
theorem Yl (i:Int) (h1 : -9223372036854775808<=i) (h2:i<9223372036854775808):ag ab G 43 [.int .i64 i] (aw (eb (i:Rat))) :=
 aO [hc (r7 G i h1 h2),hc (Ym G (i:Rat))] (by kernel_rfl)
end
section
variable (G:Nat->Option (List aa))
def lP (q:Rat) (b:Bool) (e:(dr q != 0)=b):aZ ab G:=hb 23 e
def apz (a:ah 1) (c:dn 419430400000 a):ag ab G 183 [aJ a, .int .i64 0] (.bool ((dr a.2 != 0))):=by
 generalize d:(dr a.2 != 0)=b1
 cases b1<;>exact aO [ll G (a.2) (c.2),lP G (a.2) _ d]
def apA (a:ah 2) (b:dn 419430400000 a):ag ab G 183 [aJ a, .int .i64 0] (.bool ((dr a.1.2 != 0)||(dr a.2.2 != 0))):=by
 generalize e:(dr a.1.2 != 0)=b1
 generalize d:(dr a.2.2 != 0)=b3
 cases b1<;>cases b3<;>exact aO [ll G (a.1.2) (b.1.2),lP G (a.1.2) _ e,ll G (a.2.2) (b.2.2),lP G (a.2.2) _ d]
def apB (a:ah 2) (c:dn 419430400000 a):ag ab G 183 [aJ a, .int .i64 1] (.bool ((dr a.2.1 != 0)||(dr a.2.2 != 0))):=by
 generalize d:(dr a.2.1 != 0)=b2
 generalize e:(dr a.2.2 != 0)=b3
 cases b2<;>cases b3<;>exact aO [ll G (a.2.1) (c.2.1),lP G (a.2.1) _ d,ll G (a.2.2) (c.2.2),lP G (a.2.2) _ e]
def apC (a:ah 3) (b:dn 419430400000 a):ag ab G 183 [aJ a, .int .i64 0] (.bool ((dr a.1.1.2 != 0)||(dr a.1.2.2 != 0)||(dr a.2.1.2 != 0)||(dr a.2.2.2 != 0))):=by
 generalize f:(dr a.1.1.2 != 0)=b1
 generalize h:(dr a.1.2.2 != 0)=b3
 generalize e:(dr a.2.1.2 != 0)=s4
 generalize d:(dr a.2.2.2 != 0)=g
 cases b1<;>cases b3<;>cases s4<;>cases g<;>exact aO [ll G (a.1.1.2) (b.1.1.2),lP G (a.1.1.2) _ f,ll G (a.1.2.2) (b.1.2.2),lP G (a.1.2.2) _ h,ll G (a.2.1.2) (b.2.1.2),lP G (a.2.1.2) _ e,ll G (a.2.2.2) (b.2.2.2),lP G (a.2.2.2) _ d]
def apD (a:ah 3) (b:dn 419430400000 a):ag ab G 183 [aJ a, .int .i64 1] (.bool ((dr a.1.2.1 != 0)||(dr a.1.2.2 != 0)||(dr a.2.2.1 != 0)||(dr a.2.2.2 != 0))):=by
 generalize e:(dr a.1.2.1 != 0)=b2
 generalize g:(dr a.1.2.2 != 0)=b3
 generalize d:(dr a.2.2.1 != 0)=s5
 generalize h:(dr a.2.2.2 != 0)=f
 cases b2<;>cases b3<;>cases s5<;>cases f<;>exact aO [ll G (a.1.2.1) (b.1.2.1),lP G (a.1.2.1) _ e,ll G (a.1.2.2) (b.1.2.2),lP G (a.1.2.2) _ g,ll G (a.2.2.1) (b.2.2.1),lP G (a.2.2.1) _ d,ll G (a.2.2.2) (b.2.2.2),lP G (a.2.2.2) _ h]
def apE (a:ah 3) (b:dn 419430400000 a):ag ab G 183 [aJ a, .int .i64 2] (.bool ((dr a.2.1.1 != 0)||(dr a.2.1.2 != 0)||(dr a.2.2.1 != 0)||(dr a.2.2.2 != 0))):=by
 generalize e:(dr a.2.1.1 != 0)=b4
 generalize g:(dr a.2.1.2 != 0)=s4
 generalize d:(dr a.2.2.1 != 0)=s5
 generalize h:(dr a.2.2.2 != 0)=f
 cases b4<;>cases s4<;>cases s5<;>cases f<;>exact aO [ll G (a.2.1.1) (b.2.1.1),lP G (a.2.1.1) _ e,ll G (a.2.1.2) (b.2.1.2),lP G (a.2.1.2) _ g,ll G (a.2.2.1) (b.2.2.1),lP G (a.2.2.1) _ d,ll G (a.2.2.2) (b.2.2.2),lP G (a.2.2.2) _ h]
def aqf (a:ah 1):ag ab G 184 [aJ a, .int .i64 0] (aJ (bd 0 0 a)):=bQ aY [] [([18],_)] (.ai [18] 4 0 _ false) (by kernel_rfl) (λ σ h=>dR (one h))
def aqg (a:ah 2):ag ab G 184 [aJ a, .int .i64 0] (aJ (bd 1 0 a)):=bQ aY [] [([50],_)] (.ai [50] 4 0 _ false) (by kernel_rfl) (λ σ h=>dR (one h))
def aqh (a:ah 2):ag ab G 184 [aJ a, .int .i64 1] (aJ (bd 1 1 a)):=bQ aY [] [([38],_)] (.ai [38] 4 0 _ false) (by kernel_rfl) (λ σ h=>dR (one h))
def aqi (a:ah 3):ag ab G 184 [aJ a, .int .i64 0] (aJ (bd 2 0 a)):=bQ aY [] [([114],_)] (.ai [114] 4 0 _ false) (by kernel_rfl) (λ σ h=>dR (one h))
def aqj (a:ah 3):ag ab G 184 [aJ a, .int .i64 1] (aJ (bd 2 1 a)):=bQ aY [] [([102],_)] (.ai [102] 4 0 _ false) (by kernel_rfl) (λ σ h=>dR (one h))
def aqk (a:ah 3):ag ab G 184 [aJ a, .int .i64 2] (aJ (bd 2 2 a)):=bQ aY [] [([78],_)] (.ai [78] 4 0 _ false) (by kernel_rfl) (λ σ h=>dR (one h))
def iQ (q:Rat):Bool:=decide ((ae q.num.natAbs:Int)>2)||decide ((ae q.den:Int)>2)
end
section
variable (G:Nat->Option (List aa)) {K:cT} {q e r:Nat} (F:gG K q e r) {a:aI} {n:Nat}
include F
def Yt (c:K.ok a.T) (d:cJ a.a n) (j:a.T.1<=2) (i:gK q n) (f:0<=a.val):ag ab G 132 [aw a] (.aS [aw (aI.sqrt a), .int .i64 0]):=by
 have ⟨⟨h,t⟩,x⟩:=a
 have l:h<=2:=j
 have g:rS x:=by
   have:h=0 \/ h=1 \/ h=2:=by omega
   rcases this with rfl | rfl | rfl<;>exact trivial
 have k:=Yg G (show h<=3 by omega) (F.iT c) (K.red c) d g i F.Fx F.gg f (λ e=>absurd e (by omega))
 exact aO [hc k]
end
def Ha {q:Rat}:iQ q=(decide ((ae q.num.natAbs:Int)>2)||decide ((ae ((q.den:Int)).natAbs:Int)>2)):=by rw [gE];rfl
section
variable (G:Nat->Option (List aa))
noncomputable abbrev Mb (a:aI) (i:Nat):List (Nat × aa):=[(1, .c2 [a3 a.T.2.ay,aJ a.a] 0),(2, .bool false),(3, .int .i64 (i:Int))]
noncomputable abbrev zp (a:aI) (j:Nat):List (Nat × aa):=[(1, .c2 [a3 a.T.2.ay,aJ a.a] 0),(2, .bool false),(4, .int .i64 (j:Int))]
noncomputable abbrev Cz (a:aI) (j i:Nat):List (Nat × aa):=[(1, .c2 [a3 a.T.2.ay,aJ a.a] 0),(2, .bool false),(4, .int .i64 (j:Int)),(5, .int .i64 (i:Int))]
def Ma {a:aI} {i:Nat} (b:i<(dp a.a).length) (e:i<9000) (h:iQ (dp a.a)[i]=false):kI ab G (ao 133) 0 0 .normal (Mb a i) (Mb a (i+1)):=by
 rw [Ha] at h
 generalize d:decide ((ae (dp a.a)[i].num.natAbs:Int)>2)=b1 at h
 generalize f:decide ((ae (((dp a.a)[i].den:Int)).natAbs:Int)>2)=b2 at h
 obtain ⟨rfl,rfl⟩:=po.1 h
 exact rd [bm 11 aV b,aQ 17 4 aV b,ho 21 (dV (dp a.a)[i].num.natAbs),hb 22 d,aQ 27 4 aV b,ho 31 (dV (((dp a.a)[i].den:Int)).natAbs),hb 32 f,a9 13 i e]
def aht {a:aI} {i:Nat} (b:i<(dp a.a).length) (h:iQ (dp a.a)[i]=true):kI ab G (ao 133) 0 0 .ret (Mb a i) [(2, .bool true)]:=by
 rw [Ha] at h
 generalize d:decide ((ae (dp a.a)[i].num.natAbs:Int)>2)=b1 at h
 generalize e:decide ((ae (((dp a.a)[i].den:Int)).natAbs:Int)>2)=b2 at h
 cases b1 with
 | true=>exact rd [bm 11 aV b,aQ 17 4 aV b,ho 21 (dV (dp a.a)[i].num.natAbs),hb 22 d]
 | false =>
   obtain rfl:b2=true:=h
   exact rd [bm 11 aV b,aQ 17 4 aV b,ho 21 (dV (dp a.a)[i].num.natAbs),hb 22 d,aQ 27 4 aV b,ho 31 (dV (((dp a.a)[i].den:Int)).natAbs),hb 32 e]
def TF {a:aI} {j i:Nat} (b:j<a.T.2.ay.length) (d:i<a.T.2.ay[j].length) (e:i<9000) (h:iQ a.T.2.ay[j][i]=false):kI ab G (ao 133) 2 0 .normal (Cz a j i) (Cz a j (i+1)):=by
 rw [Ha] at h
 generalize f:decide ((ae a.T.2.ay[j][i].num.natAbs:Int)>2)=b1 at h
 generalize g:decide ((ae ((a.T.2.ay[j][i].den:Int)).natAbs:Int)>2)=b2 at h
 obtain ⟨rfl,rfl⟩:=po.1 h
 exact rd [aQ 45 1 bb b,bm 48 aV d,aQ 54 1 bb b,aQ 57 4 aV d,ho 62 (dV a.T.2.ay[j][i].num.natAbs),hb 63 f,ho 68 (dV ((a.T.2.ay[j][i].den:Int)).natAbs),hb 69 g,a9 50 i e]
def ahu {a:aI} {j i:Nat} (c:j<a.T.2.ay.length) (b:i<a.T.2.ay[j].length) (h:iQ a.T.2.ay[j][i]=true):kI ab G (ao 133) 2 0 .ret (Cz a j i) [(2, .bool true)]:=by
 rw [Ha] at h
 generalize d:decide ((ae a.T.2.ay[j][i].num.natAbs:Int)>2)=b1 at h
 generalize f:decide ((ae ((a.T.2.ay[j][i].den:Int)).natAbs:Int)>2)=b2 at h
 cases b1 with
 | true=>exact rd [aQ 45 1 bb c,bm 48 aV b,aQ 54 1 bb c,aQ 57 4 aV b,ho 62 (dV a.T.2.ay[j][i].num.natAbs),hb 63 d]
 | false =>
   obtain rfl:b2=true:=h
   exact rd [aQ 45 1 bb c,bm 48 aV b,aQ 54 1 bb c,aQ 57 4 aV b,ho 62 (dV a.T.2.ay[j][i].num.natAbs),hb 63 d,ho 68 (dV ((a.T.2.ay[j][i].den:Int)).natAbs),hb 69 f]
def TG {a:aI} {j:Nat} (b:j<a.T.2.ay.length) (e:j<9000) (f:a.T.2.ay[j].length<=9000) (h:∀ i (c:i<a.T.2.ay[j].length),iQ a.T.2.ay[j][i]=false):kI ab G (ao 133) 1 2 .normal (zp a j) (zp a (j+1)) :=
 rd [bm 38 bb b,fb (ao 133) 2 0 0 a.T.2.ay[j].length (Cz a j) (.exit 4) (zp a j) (λ i c=>TF G b c (by omega) (h i c)) (rd [aQ 45 1 bb b,cx 48 aV a.T.2.ay[j]] ),a9 40 j e]
def ahv {a:aI} {j i:Nat} (b:j<a.T.2.ay.length) (g:a.T.2.ay[j].length<=9000) (f:i<a.T.2.ay[j].length) (h:iQ a.T.2.ay[j][i]=true) (e:∀ k (d:k<i),iQ (a.T.2.ay[j][k]'(by omega))=false):kI ab G (ao 133) 1 2 .ret (zp a j) [(2, .bool true)] :=
 rd [bm 38 bb b,fb (ao 133) 2 0 0 i (Cz a j) .ret [(2, .bool true)] (λ k d=>TF G b (show k<a.T.2.ay[j].length by omega) (by omega) (e k d)) (ahu G b f h)]
def F9 (l:List Rat):(l.any iQ=false/\∀ i (a:i<l.length),iQ l[i]=false) \/ (l.any iQ=true/\∃ i,∃ a:i<l.length,iQ l[i]=true/\∀ k (d:k<i),iQ (l[k]'(by omega))=false):=by
 rcases first (λ i=>iQ (l.getD i 0)) l.length with h | ⟨i,a,b,f⟩
 have c:∀ i (a:i<l.length),iQ l[i]=false := λ i a=>by have:=h i a;rwa [bj a] at this
 exact .inl ⟨uu.2 λ x e=>by obtain ⟨i,a,rfl⟩:=fZ.1 e;rw [c i a];decide,c⟩
 rw [bj a] at b
 exact .inr ⟨yk.2 ⟨_,bc a,b⟩,i,a,b, λ k d=>by have:=f k d;rwa [bj ] at this⟩
def apx (a:aI) (t:(dp a.a).length<=9000) (u:a.T.2.ay.length<=9000) (d:∀ r∈a.T.2.ay,r.length<=9000):ag ab G 133 [aw a] (.bool ((dp a.a).any iQ||a.T.2.ay.any (·.any iQ))):=by
 rcases F9 (dp a.a) with ⟨e,h⟩ | ⟨e,i,c,l,o⟩
 rw [e,mX]
 rcases first (λ j=>(a.T.2.ay.getD j []).any iQ) a.T.2.ay.length with g | ⟨j,b,f,s⟩
 have n:a.T.2.ay.any (·.any iQ)=false:=uu.2 λ x q=>by
   obtain ⟨j,b,rfl⟩:=fZ.1 q
   have:=g j b
   rw [bj b] at this
   rw [this];decide
 rw [n]
 exact bB [zq (ao 133) 0 0 0 (dp a.a).length 1 2 [0,0] (aw a) [a3 a.T.2.ay,aJ a.a] (λ i=>[(2, .bool false),(3, .int .i64 (i:Int))]) (.exit 0) [(1, .c2 [a3 a.T.2.ay,aJ a.a] 0),(2, .bool false)] (λ i c=>Ma G c (by omega) (h i c)) (rd [cx 11 aV (dp a.a)] ),
   fb (ao 133) 1 2 1 a.T.2.ay.length (zp a) (.exit 2) [] (λ j b=>TG G b (by omega) (d _ (bc b)) (by
     have:=g j b
     rw [bj b] at this
     rcases F9 a.T.2.ay[j] with ⟨_,k⟩ | ⟨k,_⟩
     exact k
     rw [k] at this;cases this)) (rd [cx 38 bb a.T.2.ay] )]
 rw [bj b] at f
 have n:a.T.2.ay.any (·.any iQ)=true:=yk.2 ⟨_,bc b,f⟩
 rw [n]
 rcases F9 a.T.2.ay[j] with ⟨k,_⟩ | ⟨_,i,c,l,o⟩
 rw [k] at f;cases f
 exact bB [zq (ao 133) 0 0 0 (dp a.a).length 1 2 [0,0] (aw a) [a3 a.T.2.ay,aJ a.a] (λ i=>[(2, .bool false),(3, .int .i64 (i:Int))]) (.exit 0) [(1, .c2 [a3 a.T.2.ay,aJ a.a] 0),(2, .bool false)] (λ i c=>Ma G c (by omega) (h i c)) (rd [cx 11 aV (dp a.a)] ),
   fb (ao 133) 1 2 1 j (zp a) .ret [(2, .bool true)] (λ k m=>TG G (show k<a.T.2.ay.length by omega) (by omega) (d _ (bc _)) (by
     have:=s k m
     rw [bj (by omega)] at this
     rcases F9 a.T.2.ay[k] with ⟨_,k'⟩ | ⟨k',_⟩
     exact k'
     rw [k'] at this;cases this)) (ahv G b (d _ (bc b)) c l o)]
 rw [e,Bool.true_or]
 exact bB [zq (ao 133) 0 0 0 i 1 2 [0,0] (aw a) [a3 a.T.2.ay,aJ a.a] (λ i=>[(2, .bool false),(3, .int .i64 (i:Int))]) .ret [(2, .bool true)] (λ k m=>Ma G (show k<(dp a.a).length by omega) (by omega) (o k m)) (aht G c l)]
def jJ (q:Rat):Bool:=decide ((ae q.num.natAbs:Int)>6)||decide ((ae q.den:Int)>6)
def Gy {q:Rat}:jJ q=(decide ((ae q.num.natAbs:Int)>6)||decide ((ae ((q.den:Int)).natAbs:Int)>6)):=by rw [gE];rfl
noncomputable abbrev L9 (a:aI) (i:Nat):List (Nat × aa):=[(1, .c2 [a3 a.T.2.ay,aJ a.a] 0),(2, .bool false),(3, .int .i64 (i:Int))]
noncomputable abbrev zo (a:aI) (j:Nat):List (Nat × aa):=[(1, .c2 [a3 a.T.2.ay,aJ a.a] 0),(2, .bool false),(4, .int .i64 (j:Int))]
noncomputable abbrev Cy (a:aI) (j i:Nat):List (Nat × aa):=[(1, .c2 [a3 a.T.2.ay,aJ a.a] 0),(2, .bool false),(4, .int .i64 (j:Int)),(5, .int .i64 (i:Int))]
def L8 {a:aI} {i:Nat} (b:i<(dp a.a).length) (e:i<9000) (h:jJ (dp a.a)[i]=false):kI ab G (ao 135) 0 0 .normal (L9 a i) (L9 a (i+1)):=by
 rw [Gy] at h
 generalize d:decide ((ae (dp a.a)[i].num.natAbs:Int)>6)=b1 at h
 generalize f:decide ((ae (((dp a.a)[i].den:Int)).natAbs:Int)>6)=b2 at h
 obtain ⟨rfl,rfl⟩:=po.1 h
 exact rd [bm 10 aV b,aQ 16 4 aV b,ho 20 (dV (dp a.a)[i].num.natAbs),hb 21 d,aQ 26 4 aV b,ho 30 (dV (((dp a.a)[i].den:Int)).natAbs),hb 31 f,a9 12 i e]
def ahk {a:aI} {i:Nat} (b:i<(dp a.a).length) (h:jJ (dp a.a)[i]=true):kI ab G (ao 135) 0 0 .ret (L9 a i) [(2, .bool false)]:=by
 rw [Gy] at h
 generalize d:decide ((ae (dp a.a)[i].num.natAbs:Int)>6)=b1 at h
 generalize e:decide ((ae (((dp a.a)[i].den:Int)).natAbs:Int)>6)=b2 at h
 cases b1 with
 | true=>exact rd [bm 10 aV b,aQ 16 4 aV b,ho 20 (dV (dp a.a)[i].num.natAbs),hb 21 d]
 | false =>
   obtain rfl:b2=true:=h
   exact rd [bm 10 aV b,aQ 16 4 aV b,ho 20 (dV (dp a.a)[i].num.natAbs),hb 21 d,aQ 26 4 aV b,ho 30 (dV (((dp a.a)[i].den:Int)).natAbs),hb 31 e]
def TC {a:aI} {j i:Nat} (c:j<a.T.2.ay.length) (b:i<a.T.2.ay[j].length) (e:i<9000) (h:jJ a.T.2.ay[j][i]=false):kI ab G (ao 135) 2 0 .normal (Cy a j i) (Cy a j (i+1)):=by
 rw [Gy] at h
 generalize f:decide ((ae a.T.2.ay[j][i].num.natAbs:Int)>6)=b1 at h
 generalize g:decide ((ae ((a.T.2.ay[j][i].den:Int)).natAbs:Int)>6)=b2 at h
 obtain ⟨rfl,rfl⟩:=po.1 h
 exact rd [aQ 44 1 bb c,bm 47 aV b,aQ 53 1 bb c,aQ 56 4 aV b,ho 60 (dV a.T.2.ay[j][i].num.natAbs),hb 61 f,aQ 66 1 bb c,aQ 69 4 aV b,ho 73 (dV ((a.T.2.ay[j][i].den:Int)).natAbs),hb 74 g,a9 49 i e]
def ahl {a:aI} {j i:Nat} (c:j<a.T.2.ay.length) (b:i<a.T.2.ay[j].length) (h:jJ a.T.2.ay[j][i]=true):kI ab G (ao 135) 2 0 .ret (Cy a j i) [(2, .bool false)]:=by
 rw [Gy] at h
 generalize d:decide ((ae a.T.2.ay[j][i].num.natAbs:Int)>6)=b1 at h
 generalize f:decide ((ae ((a.T.2.ay[j][i].den:Int)).natAbs:Int)>6)=b2 at h
 cases b1 with
 | true=>exact rd [aQ 44 1 bb c,bm 47 aV b,aQ 53 1 bb c,aQ 56 4 aV b,ho 60 (dV a.T.2.ay[j][i].num.natAbs),hb 61 d]
 | false =>
   obtain rfl:b2=true:=h
   exact rd [aQ 44 1 bb c,bm 47 aV b,aQ 53 1 bb c,aQ 56 4 aV b,ho 60 (dV a.T.2.ay[j][i].num.natAbs),hb 61 d,aQ 66 1 bb c,aQ 69 4 aV b,ho 73 (dV ((a.T.2.ay[j][i].den:Int)).natAbs),hb 74 f]
def TD {a:aI} {j:Nat} (b:j<a.T.2.ay.length) (e:j<9000) (f:a.T.2.ay[j].length<=9000) (h:∀ i (c:i<a.T.2.ay[j].length),jJ a.T.2.ay[j][i]=false):kI ab G (ao 135) 1 2 .normal (zo a j) (zo a (j+1)) :=
 rd [bm 37 bb b,fb (ao 135) 2 0 0 a.T.2.ay[j].length (Cy a j) (.exit 4) (zo a j) (λ i c=>TC G b c (by omega) (h i c)) (rd [aQ 44 1 bb b,cx 47 aV a.T.2.ay[j]] ),a9 39 j e]
def ahm {a:aI} {j i:Nat} (b:j<a.T.2.ay.length) (g:a.T.2.ay[j].length<=9000) (f:i<a.T.2.ay[j].length) (h:jJ a.T.2.ay[j][i]=true) (e:∀ k (d:k<i),jJ (a.T.2.ay[j][k]'(by omega))=false):kI ab G (ao 135) 1 2 .ret (zo a j) [(2, .bool false)] :=
 rd [bm 37 bb b,fb (ao 135) 2 0 0 i (Cy a j) .ret [(2, .bool false)] (λ k d=>TC G b (show k<a.T.2.ay[j].length by omega) (by omega) (e k d)) (ahl G b f h)]
def F8 (l:List Rat):(l.any jJ=false/\∀ i (a:i<l.length),jJ l[i]=false) \/ (l.any jJ=true/\∃ i,∃ a:i<l.length,jJ l[i]=true/\∀ k (d:k<i),jJ (l[k]'(by omega))=false):=by
 rcases first (λ i=>jJ (l.getD i 0)) l.length with h | ⟨i,a,b,f⟩
 have c:∀ i (a:i<l.length),jJ l[i]=false := λ i a=>by have:=h i a;rwa [bj a] at this
 exact .inl ⟨uu.2 λ x e=>by obtain ⟨i,a,rfl⟩:=fZ.1 e;rw [c i a];decide,c⟩
 rw [bj a] at b
 exact .inr ⟨yk.2 ⟨_,bc a,b⟩,i,a,b, λ k d=>by have:=f k d;rwa [bj ] at this⟩
def apw (a:aI) (t:(dp a.a).length<=9000) (u:a.T.2.ay.length<=9000) (d:∀ r∈a.T.2.ay,r.length<=9000):ag ab G 135 [aw a] (.bool (!((dp a.a).any jJ||a.T.2.ay.any (·.any jJ)))):=by
 rcases F8 (dp a.a) with ⟨e,h⟩ | ⟨e,i,c,l,o⟩
 rw [e,mX]
 rcases first (λ j=>(a.T.2.ay.getD j []).any jJ) a.T.2.ay.length with g | ⟨j,b,f,s⟩
 have n:a.T.2.ay.any (·.any jJ)=false:=uu.2 λ x q=>by
   obtain ⟨j,b,rfl⟩:=fZ.1 q
   have:=g j b
   rw [bj b] at this
   rw [this];decide
 rw [n]
 exact bB [zq (ao 135) 0 0 0 (dp a.a).length 1 2 [0,0] (aw a) [a3 a.T.2.ay,aJ a.a] (λ i=>[(2, .bool false),(3, .int .i64 (i:Int))]) (.exit 0) [(1, .c2 [a3 a.T.2.ay,aJ a.a] 0),(2, .bool false)] (λ i c=>L8 G c (by omega) (h i c)) (rd [cx 10 aV (dp a.a)] ),
   fb (ao 135) 1 2 1 a.T.2.ay.length (zo a) (.exit 2) [] (λ j b=>TD G b (by omega) (d _ (bc b)) (by
     have:=g j b
     rw [bj b] at this
     rcases F8 a.T.2.ay[j] with ⟨_,k⟩ | ⟨k,_⟩
     exact k
     rw [k] at this;cases this)) (rd [cx 37 bb a.T.2.ay] )]
 rw [bj b] at f
 have n:a.T.2.ay.any (·.any jJ)=true:=yk.2 ⟨_,bc b,f⟩
 rw [n]
 rcases F8 a.T.2.ay[j] with ⟨k,_⟩ | ⟨_,i,c,l,o⟩
 rw [k] at f;cases f
 exact bB [zq (ao 135) 0 0 0 (dp a.a).length 1 2 [0,0] (aw a) [a3 a.T.2.ay,aJ a.a] (λ i=>[(2, .bool false),(3, .int .i64 (i:Int))]) (.exit 0) [(1, .c2 [a3 a.T.2.ay,aJ a.a] 0),(2, .bool false)] (λ i c=>L8 G c (by omega) (h i c)) (rd [cx 10 aV (dp a.a)] ),
   fb (ao 135) 1 2 1 j (zo a) .ret [(2, .bool false)] (λ k m=>TD G (show k<a.T.2.ay.length by omega) (by omega) (d _ (bc _)) (by
     have:=s k m
     rw [bj (by omega)] at this
     rcases F8 a.T.2.ay[k] with ⟨_,k'⟩ | ⟨k',_⟩
     exact k'
     rw [k'] at this;cases this)) (ahm G b (d _ (bc b)) c l o)]
 rw [e,Bool.true_or]
 exact bB [zq (ao 135) 0 0 0 i 1 2 [0,0] (aw a) [a3 a.T.2.ay,aJ a.a] (λ i=>[(2, .bool false),(3, .int .i64 (i:Int))]) .ret [(2, .bool false)] (λ k m=>L8 G (show k<(dp a.a).length by omega) (by omega) (o k m)) (ahk G c l)]
def vf (a:aI):Bool := !((dp a.a).any jJ||a.T.2.ay.any (·.any jJ))
def aho (a:aI) (h3:a.T.1<=3) {b:Bool} (e:vf a=b):ag ab G 135 [aw a] (.bool b):=by
 rw [<- e]
 refine apw G a (te h3 a.a) (by rw [ea];omega) ?_
 have:∀ {h:Nat} (t:aE h),h<=3->∀ r∈t.ay,r.length<=9000 := λ {h} t=>by
   induction h with
   | zero=>exact λ _ r c=>(cX c).elim
   | succ h f =>
     intro g r c
     rcases en.1 c with h1 | h1
     exact f t.1 (by omega) r h1
     rw [bJ.1 h1];exact te (by omega) t.2
 exact this a.T.2 h3
def apf (l:List aI) (o:l.length<=9000) (h3:∀ a∈l,a.T.1<=3):ag ab G 91 [gT l] (.bool (l.all vf)):=by
 have g:∀ i (c:i<l.length) (b:Bool),(!vf (l.getD i (eb 0)))=b->ag ab G 135 [aw l[i]] (.bool (!b)) := λ i c b e=>aho G l[i] (h3 _ (bc c)) (by rw [bj c] at e;rw [<- e,Bool.not_not])
 rcases first (λ i => !vf (l.getD i (eb 0))) l.length with h | ⟨i,c,f,n⟩
 rw [show l.all vf=true from List.all_eq_true.2 λ x m=>by
   obtain ⟨i,c,rfl⟩:=fZ.1 m
   have:=h i c
   rw [bj c] at this
   simpa using this]
 exact bB [fb (ao 91) 0 0 0 l.length (λ i=>[(0,gT l),(2, .bool false),(3, .int .i64 (i:Int))]) (.exit 0) [] (λ i c=>rd [bm 7 aw c,aQ 12 2 aw c,hc (g i c false (h i c)),a9 9 i] ) (rd [cx 7 aw l] )]
 rw [show l.all vf=false from List.all_eq_false.2 ⟨_,bc c,by rw [bj c] at f;simpa using f⟩]
 exact bB [fb (ao 91) 0 0 0 i (λ i=>[(0,gT l),(2, .bool false),(3, .int .i64 (i:Int))]) .ret [(2, .bool false)] (λ j k=>rd [bm 7 aw (show j<l.length by omega),aQ 12 2 aw (show j<l.length by omega),hc (g j (by omega) false (n j k)),a9 9 j] ) (rd [bm 7 aw c,aQ 12 2 aw c,hc (g i c true f)] )]
end
end Go.Proofs.YtpcofcmencgkbaaGreat
namespace Go.aF.Src
section
variable {Q:Src}
def XP:∀ {h:Nat} {t:aE h} {ρ : aC} {n:Nat},ah.Rd t n -> ρ ∈ t.vals->∃ b,aR t b = ρ /\ cJ b n
 | 0,_,_,_,_,a=>by cases a
 | h + 1,t, ρ,n,c,a=>by
   rcases cr.1 a with e | a
   exact ⟨((t.2,cz h 0):ah (h+1)),by
     show aR t.1 t.2+aR t.1 (cz h 0)*_=_
     rw [om,e];grind,ah.vk c.1 (ah.CL h 0)⟩
   have ⟨b,hb,pN⟩:=XP c.2 a
   exact ⟨((b,cz h 0):ah (h+1)),by
     show aR t.1 b+aR t.1 (cz h 0)*_=_
     rw [om,hb];grind,ah.vk pN (ah.CL h 0)⟩
def Qc {T:aD} (b:Q.ok T) (h3:T.1=3) {ρ : aC} (d : ρ ∈ Q.S) : ρ ∈ T.2.vals:=by
 false_or_by_contra
 rename_i c
 have:=aD.pM (l := ρ :: T.2.vals) (S:=Q.S) (List.nodup_cons.2 ⟨c,aD.sx b.1⟩) (λ x a=>by
   rcases cr.1 a with rfl | a
   exact d
   exact b.2 _ a)
 have:=Q.len
 rw [List.length_cons,aD.xQ] at *
 omega
def ahx:∀ {T:aD},T.bK->T.1=3->∀ {ρ : aC}, ρ ∈ T.2.vals->rS (T.bp ρ)
 | ⟨_,t⟩,d,rfl, ρ,c=>by
   have:sN ⟨2,t.1⟩ ρ := by
     rcases cr.1 c with e | c
     exact ⟨t.2,e.symm⟩
     exact (aD.Am c).1
   have ⟨b,hb⟩:=this
   rw [kg (T:=⟨3,t⟩) (a:=((b,cz 2 0):ah 3)) d (by
     show aR t.1 b+aR t.1 (cz 2 0)*_=_
     rw [om,hb];grind)]
   exact ah.oT.2 rfl
def K7 (g:Q.n=256):gG Q.ctx Q.cc Q.e1 Q.sb where
 iT h:=⟨FD h,(rd h).mono Rz⟩
 val {T U} c e ρ d f:=by
   by_cases l : ρ ∈ T.2.vals
   obtain ⟨b,hb,pN⟩:=XP (rd c) l
   rw [kg c.1 hb];exact pN
   obtain ⟨i,j,rfl⟩:=Q.idx (e.2 _ d)
   exact gen c j l f
 root {T U} c e ρ d f:=roots c (e.2 _ d) f
 low {T U} c e ρ d f:=by
   by_cases h3:T.1=3
   exact ahx c.1 h3 (Qc c h3 (e.2 _ d))
   obtain ⟨k,t⟩:=T
   have:k<=3:=xk c
   have:k=0 \/ k=1 \/ k=2:=by have:k≠3:=h3;omega
   rcases this with rfl | rfl | rfl<;>exact trivial
 full {T U} c e ρ d h3:=(aD.Am (Qc c h3 (e.2 _ d))).2
 be:=by show gK (7*(Q.n+3*(dP (Q.n+2) 1 Q.n+(Q.n+2)+1))+14) (Q.n+3*(dP (Q.n+2) 1 Q.n+(Q.n+2)+1));rw [g];unfold gK;decide +kernel
 Fx:=by show gK (7*(Q.n+3*(dP (Q.n+2) 1 Q.n+(Q.n+2)+1))+14) (7*(Q.n+3*(dP (Q.n+2) 1 Q.n+(Q.n+2)+1))+14);rw [g];unfold gK;decide +kernel
 gg:=by show 100*(7*(Q.n+3*(dP (Q.n+2) 1 Q.n+(Q.n+2)+1))+14)<=_;rw [g];decide +kernel
 rA:=by
   show (Q.n+3*(dP (Q.n+2) 1 Q.n+(Q.n+2)+1))+dP (7*(Q.n+3*(dP (Q.n+2) 1 Q.n+(Q.n+2)+1))+14) 2 (Q.n+3*(dP (Q.n+2) 1 Q.n+(Q.n+2)+1))+30*(dP (7*(Q.n+3*(dP (Q.n+2) 1 Q.n+(Q.n+2)+1))+14) 2 (Q.n+3*(dP (Q.n+2) 1 Q.n+(Q.n+2)+1))+(7*(Q.n+3*(dP (Q.n+2) 1 Q.n+(Q.n+2)+1))+14)+1)<=_
   rw [g];decide +kernel
end
end Go.aF.Src
namespace Go.aF.ah
def dN:(h i:Nat)->ah h->Bool
 | 0,_,_=>false
 | h+1,i,a=>if i=h then !b9 a.2 else dN h i a.1||dN h i a.2
def ai6 {h i:Nat} (e:i=h) (a:ah (h+1)):dN (h+1) i a = !b9 a.2:=if_pos e
def ai5 {h i:Nat} (e : ¬ i=h) (a:ah (h+1)):dN (h+1) i a=(dN h i a.1||dN h i a.2):=if_neg e
def xg:∀ (h i:Nat) (a:ah h),dN h i a=false↔free h i a
 | 0,_,_=>⟨λ _=>trivial, λ _=>rfl⟩
 | h+1,i,a=>by
   by_cases e:i=h
   rw [ai6 e,BV e, <- oT]
   cases b9 a.2<;>decide
   rw [ai5 e,Le e,po,xg h i a.1,xg h i a.2]
end Go.aF.ah
namespace Go.aF.aE
def dN:(h i:Nat)->aE h->Bool
 | 0,_,_=>false
 | h+1,i,t=>if i=h then false else dN h i t.1||ah.dN h i t.2
def xg:∀ (h i:Nat) (t:aE h),dN h i t=false↔free h i t
 | 0,_,_=>⟨λ _=>trivial, λ _=>rfl⟩
 | h+1,i,t=>by
   show (if i=h then false else dN h i t.1||ah.dN h i t.2)=false↔(i=h \/ (free h i t.1/\ah.free h i t.2))
   by_cases e:i=h
   rw [if_pos e];exact ⟨λ _ => .inl e, λ _=>rfl⟩
   rw [if_neg e,po,xg h i t.1,ah.xg]
   exact ⟨.inr, λ h=>h.resolve_left e⟩
end Go.aF.aE
namespace Go.aF
def aI.needs (i:Nat) (n:aI):Bool:=ah.dN n.T.1 i n.a||aE.dN n.T.1 i n.T.2
def aI.Uq {i:Nat} {n:aI} (a:i<n.T.1):n.needs i=false↔n.BU i:=by
 unfold aI.needs aI.BU
 rw [po,ah.xg,aE.xg]
 exact ⟨λ h=>⟨a,h.2,h.1⟩, λ h=>⟨h.2.2,h.2.1⟩⟩
def aI.Al {i:Nat} {n:aI} (b:i<n.T.1) (h:n.needs i=true):lI (i+1) n=lI i n :=
 congrArg (lI i) (@if_neg _ (AW _) (λ e=>by rw [(aI.Uq b).2 e] at h;cases h) _ _ _)
def aI.DC {i:Nat} {n:aI} (b:i<n.T.1) (h:n.needs i=false):lI (i+1) n=lI i (n.uV i) :=
 congrArg (lI i) (@if_pos _ (AW _) ((aI.Uq b).1 h) _ _ _)
def ah.eJ.drop {k:Nat}:∀ (h i:Nat) (a:ah (h+1)),dn k a->dn k (bd h i a)
 | 0,_,_,H=>H.1
 | h+1,i,a,H=>by
   by_cases e:i=h+1
   rw [ah.uX e];exact H.1
   rw [ah.uW e];exact ⟨ah.eJ.drop h i a.1 H.1,ah.eJ.drop h i a.2 H.2⟩
def IZ {σ : aL} {i:Id} {R:List (List Rat)} {n:Nat} {t b:Bool} (e : σ i=some ⟨R.map bb,1,b⟩) (a:n<=R.length):View σ (.ai i 1 0 n t) (a3 (R.take n)):=by
 refine kY (au:=⟨R.map bb,1,b⟩) e rfl (by simpa using a) ?_ (by simp;omega) λ d hd => ?_
 rw [List.drop_zero, <- Ed]
 exact jx λ c hc=>by
   simp only [flat,List.mem_flatMap,bn] at hc
   have ⟨_,⟨x,_,rfl⟩,hc⟩:=hc
   exact C7 x c hc
 obtain ⟨x,_,rfl⟩:=bn.1 hd;rfl
end Go.aF
namespace Go.Proofs.YtpcofcmencgkbaaGreat
def agt (a:Rat):kE (h:=0) a=decide (a=0):=Bool.and_true _
def zk {h:Nat} (a:ah (h+1)):kE a=(kE a.1&&kE a.2):=by
 show ((dp a.1++dp a.2).all _)=_
 rw [List.all_append];rfl
section
variable (G:Nat->Option (List aa))
def lS {a:ah 0}:(dr a != 0) = !kE a:=(Rl a).trans (congrArg _ (agt a).symm)
def cg {h:Nat} (e:h<=3) (i:Nat) (f:i<h) (a:ah h) (b:dn 419430400000 a):ag ab G 183 [aJ a, .int .i64 (i:Int)] (.bool (ah.dN h i a)):=by
 have c:(h=1/\i=0) \/ (h=2/\i=0) \/ (h=2/\i=1) \/ (h=3/\i=0) \/ (h=3/\i=1) \/ (h=3/\i=2):=by omega
 rcases c with ⟨rfl,rfl⟩ | ⟨rfl,rfl⟩ | ⟨rfl,rfl⟩ | ⟨rfl,rfl⟩ | ⟨rfl,rfl⟩ | ⟨rfl,rfl⟩
 have k:=apz G a b
 rw [lS] at k
 exact k
 have k:=apA G a b
 rw [lS,lS] at k
 exact k
 have k:=apB G a b
 rw [lS,lS, <- A8, <- zk] at k
 exact k
 have k:=apC G a b
 rw [lS,lS,lS,lS] at k
 rw [show ah.dN 3 0 a=(!kE a.1.1.2 || !kE a.1.2.2 || !kE a.2.1.2 || !kE a.2.2.2) from by
   show ((!_ || !_)||(!_ || !_))=_
   rw [uv,uv,uv]]
 exact k
 have k:=apD G a b
 rw [lS,lS,lS,lS] at k
 rw [show ah.dN 3 1 a=(!kE a.1.2.1 || !kE a.1.2.2 || !kE a.2.2.1 || !kE a.2.2.2) from by
   show (!kE a.1.2 || !kE a.2.2)=_
   rw [zk a.1.2,zk a.2.2,A8,A8,uv,uv,uv]]
 exact k
 have k:=apE G a b
 rw [lS,lS,lS,lS] at k
 rw [show ah.dN 3 2 a=(!kE a.2.1.1 || !kE a.2.1.2 || !kE a.2.2.1 || !kE a.2.2.2) from by
   show (!kE a.2)=_
   rw [zk a.2,zk a.2.1,zk a.2.2,A8,A8,A8,uv,uv,uv]]
 exact k
def gM {h:Nat} (e:h<=2) (i:Nat) (d:i<=h) (a:ah (h+1)):ag ab G 184 [aJ a, .int .i64 (i:Int)] (aJ (bd h i a)):=by
 have c:(h=0/\i=0) \/ (h=1/\i=0) \/ (h=1/\i=1) \/ (h=2/\i=0) \/ (h=2/\i=1) \/ (h=2/\i=2):=by omega
 rcases c with ⟨rfl,rfl⟩ | ⟨rfl,rfl⟩ | ⟨rfl,rfl⟩ | ⟨rfl,rfl⟩ | ⟨rfl,rfl⟩ | ⟨rfl,rfl⟩
 exact aqf G a
 exact aqg G a
 exact aqh G a
 exact aqi G a
 exact aqj G a
 exact aqk G a
def iU {σ : aL} {c:aa} {n:aI} (h:View σ c (a3 n.T.2.ay)):View σ (.agg [c,aJ n.a]) (aw n):=EB (cp h (cp (jw bg.pure) iv))
def apO (a:ah 0):ag ab G 134 [aw ⟨gp,a⟩] (aw ⟨gp,a⟩):=bQ aY [] [] (.agg [.dQ 1 [],aJ a]) (by kernel_rfl) (λ σ h=>iU (n:=⟨gp,a⟩) (View.DD 1))
def apQ (t:aE 1) (a:ah 1) (c:dn 419430400000 a) (o:ah.dN 1 0 a=true):ag ab G 134 [aw ⟨⟨1,t⟩,a⟩] (aw ⟨⟨1,t⟩,a⟩):=by
 have k:=cg G (by decide) 0 (by decide) a c
 rw [o] at k
 exact bQ aY [hc k] [([5],⟨t.ay.map bb,1,false⟩)] (.agg [.ai [5] 1 0 1 false,aJ a]) (by kernel_rfl) (λ σ h=>iU (n:=⟨⟨1,t⟩,a⟩) (hH (one h) (ea t)))
def apP (t:aE 1) (a:ah 1) (c:dn 419430400000 a) (o:ah.dN 1 0 a=false):ag ab G 134 [aw ⟨⟨1,t⟩,a⟩] (aw ⟨gp,bd 0 0 a⟩):=by
 have k:=cg G (by decide) 0 (by decide) a c
 rw [o] at k
 have w:=gM G (h:=0) (by decide) 0 (by decide) a
 exact bQ aY [hc k,hc w] [([5],⟨t.ay.map bb,1,false⟩)] (.agg [.ai [5] 1 0 0 true,aJ (bd 0 0 a)]) (by kernel_rfl) (λ σ h=>iU (n:=⟨gp,bd 0 0 a⟩) (kY (au:=⟨t.ay.map bb,1,false⟩) (one h) rfl (by simp) iv rfl (λ d hd=>by obtain ⟨x,_,rfl⟩:=bn.1 hd;rfl)))
def anU {σ : aL} {i:bT} {R:List (List Rat)} {t b:Bool} {l:List aa} (e : σ i=some ⟨l,1,b⟩):View σ (.ai i 1 0 0 t) (a3 []):=kY (au:=⟨l,1,b⟩) e rfl (by simp) iv rfl (λ d hd=>by cases hd)
def anV {σ : aL} {i:bT} {r s:List Rat} {t b:Bool} (e : σ i=some ⟨[bb r,bb s],1,b⟩):View σ (.ai i 1 0 1 t) (a3 [r]):=kY (au:=⟨[bb r,bb s],1,b⟩) e rfl (by simp) (jx λ c hc=>C7 r c (by simpa [flat] using hc)) rfl (λ d hd=>by simp at hd;subst hd;rfl)
end
section
variable (G:Nat->Option (List aa)) (t:aE 2) (a:ah 2) (ha:dn 419430400000 a) (ht:kf 419430400000 t)
include ha ht
theorem apR (e:ah.dN 2 1 a=true) (f:ah.dN 2 0 a=true):ag ab G 134 [aw ⟨⟨2,t⟩,a⟩] (aw ⟨⟨2,t⟩,a⟩):=by
 have c:=cg G (by decide) 1 (by decide) a ha
 have d:=cg G (by decide) 0 (by decide) a ha
 rw [e] at c
 rw [f] at d
 exact bQ aY [hc c,hc d] [([5],⟨t.ay.map bb,1,false⟩)] (.agg [.ai [5] 1 0 2 false,aJ a]) (by kernel_rfl) (λ σ h=>iU (n:=⟨⟨2,t⟩,a⟩) (hH (one h) (ea t)))
def apS (f:ah.dN 2 1 a=true) (g:ah.dN 2 0 a=false) (eA:ah.dN 1 0 t.2=true):ag ab G 134 [aw ⟨⟨2,t⟩,a⟩] (aw ⟨⟨2,t⟩,a⟩):=by
 have b:=cg G (by decide) 1 (by decide) a ha
 have e:=cg G (by decide) 0 (by decide) a ha
 have d:=cg G (by decide) 0 (by decide) t.2 ht.2
 rw [f] at b
 rw [g] at e
 rw [eA] at d
 exact bQ aY [hc b,hc e,hc d] [([5],⟨t.ay.map bb,1,false⟩)] (.agg [.ai [5] 1 0 2 false,aJ a]) (by kernel_rfl) (λ σ h=>iU (n:=⟨⟨2,t⟩,a⟩) (hH (one h) (ea t)))
def apT (f:ah.dN 2 1 a=true) (i:ah.dN 2 0 a=false) (eA:ah.dN 1 0 t.2=false):ag ab G 134 [aw ⟨⟨2,t⟩,a⟩] (aw ⟨⟨1,c7 1 0 t⟩,bd 1 0 a⟩):=by
 have b:=cg G (by decide) 1 (by decide) a ha
 have e:=cg G (by decide) 0 (by decide) a ha
 have d:=cg G (by decide) 0 (by decide) t.2 ht.2
 rw [f] at b
 rw [i] at e
 rw [eA] at d
 have g:=gM G (h:=1) (by decide) 0 (by decide) a
 have j:=gM G (h:=0) (by decide) 0 (by decide) t.2
 exact bQ aY [hc b,hc e,hc d,hc g,hc j] [([114],⟨(c7 1 0 t).ay.map bb,1,false⟩)] (.agg [.ai [114] 1 0 1 false,aJ (bd 1 0 a)]) (by kernel_rfl) (λ σ h=>iU (n:=⟨⟨1,c7 1 0 t⟩,bd 1 0 a⟩) (hH (one h) (ea _)))
theorem apU (e:ah.dN 2 1 a=false) (g:ah.dN 1 0 (bd 1 1 a)=true):ag ab G 134 [aw ⟨⟨2,t⟩,a⟩] (aw ⟨⟨1,c7 1 1 t⟩,bd 1 1 a⟩):=by
 have b:=cg G (by decide) 1 (by decide) a ha
 have d:=cg G (h:=1) (by decide) 0 (by decide) (bd 1 1 a) ha.1
 rw [e] at b
 rw [g] at d
 have f:=gM G (h:=1) (by decide) 1 (by decide) a
 exact bQ aY [hc b,hc f,hc d] [([5],⟨[bb (dp t.1.2),bb (dp t.2)],1,false⟩)] (.agg [.ai [5] 1 0 1 true,aJ (bd 1 1 a)]) (by kernel_rfl) (λ σ h=>iU (n:=⟨⟨1,c7 1 1 t⟩,bd 1 1 a⟩) (anV (one h)))
theorem apV (e:ah.dN 2 1 a=false) (f:ah.dN 1 0 (bd 1 1 a)=false):ag ab G 134 [aw ⟨⟨2,t⟩,a⟩] (aw ⟨gp,bd 0 0 (bd 1 1 a)⟩):=by
 have c:=cg G (by decide) 1 (by decide) a ha
 have d:=cg G (h:=1) (by decide) 0 (by decide) (bd 1 1 a) ha.1
 rw [e] at c
 rw [f] at d
 have g:=gM G (h:=1) (by decide) 1 (by decide) a
 have i:=gM G (h:=0) (by decide) 0 (by decide) (bd 1 1 a)
 exact bQ aY [hc c,hc g,hc d,hc i] [([5],⟨[bb (dp t.1.2),bb (dp t.2)],1,false⟩)] (.agg [.ai [5] 1 0 0 true,aJ (bd 0 0 (bd 1 1 a))]) (by kernel_rfl) (λ σ h=>iU (n:=⟨gp,bd 0 0 (bd 1 1 a)⟩) (anU (R:=[]) (one h)))
end
section
variable (G:Nat->Option (List aa))
def aqc (t:aE 1) (a:ah 1) (c:dn 419430400000 a):ag ab G 134 [aw ⟨⟨1,t⟩,a⟩] (aw (aI.trim ⟨⟨1,t⟩,a⟩)):=by
 show ag ab G 134 [aw ⟨⟨1,t⟩,a⟩] (aw (lI 1 ⟨⟨1,t⟩,a⟩))
 cases o:ah.dN 1 0 a with
 | true =>
   rw [aI.Al (n:=⟨⟨1,t⟩,a⟩) (by decide:0<1) (by show (ah.dN 1 0 a||_)=true;rw [o];rfl)]
   exact apQ G t a c o
 | false =>
   rw [aI.DC (n:=⟨⟨1,t⟩,a⟩) (by decide:0<1) (by show (ah.dN 1 0 a||_)=false;rw [o];rfl)]
   exact apP G t a c o
def aqd (t:aE 2) (a:ah 2) (e:dn 419430400000 a) (f:kf 419430400000 t):ag ab G 134 [aw ⟨⟨2,t⟩,a⟩] (aw (aI.trim ⟨⟨2,t⟩,a⟩)):=by
 show ag ab G 134 [aw ⟨⟨2,t⟩,a⟩] (aw (lI 2 ⟨⟨2,t⟩,a⟩))
 cases c:ah.dN 2 1 a with
 | true =>
   rw [aI.Al (i:=1) (n:=⟨⟨2,t⟩,a⟩) (by decide:1<2) (by show (ah.dN 2 1 a||_)=true;rw [c];rfl)]
   cases b:ah.dN 2 0 a with
   | true =>
     rw [aI.Al (i:=0) (n:=⟨⟨2,t⟩,a⟩) (by decide:0<2) (by show (ah.dN 2 0 a||_)=true;rw [b];rfl)]
     exact apR G t a e f c b
   | false =>
     cases eA:ah.dN 1 0 t.2 with
     | true =>
       rw [aI.Al (i:=0) (n:=⟨⟨2,t⟩,a⟩) (by decide:0<2) (by show (ah.dN 2 0 a||(false||ah.dN 1 0 t.2))=true;rw [b,eA];rfl)]
       exact apS G t a e f c b eA
     | false =>
       rw [aI.DC (i:=0) (n:=⟨⟨2,t⟩,a⟩) (by decide:0<2) (by show (ah.dN 2 0 a||(false||ah.dN 1 0 t.2))=false;rw [b,eA];rfl)]
       exact apT G t a e f c b eA
 | false =>
   rw [aI.DC (i:=1) (n:=⟨⟨2,t⟩,a⟩) (by decide:1<2) (by show (ah.dN 2 1 a||_)=false;rw [c];rfl)]
   cases b:ah.dN 1 0 (bd 1 1 a) with
   | true =>
     rw [aI.Al (i:=0) (n:=aI.uV 1 ⟨⟨2,t⟩,a⟩) (by decide:0<1) (by show (ah.dN 1 0 (bd 1 1 a)||_)=true;rw [b];rfl)]
     exact apU G t a e f c b
   | false =>
     rw [aI.DC (i:=0) (n:=aI.uV 1 ⟨⟨2,t⟩,a⟩) (by decide:0<1) (by show (ah.dN 1 0 (bd 1 1 a)||_)=false;rw [b];rfl)]
     exact apV G t a e f c b
end
end Go.Proofs.YtpcofcmencgkbaaGreat
