/- For the claim of VerifierKernel: parts XV3, XV4, XV5, LQ5, XV6, XV7, XV8, XV9, XVA, XVB, XVC, XVD, XVE, XVF, MXG, LRA, MP2. -/
import Derived.Test.YtpcofcmencgkbaaGreatC10
import Derived.Test.YtpcofcmencgkbaaGreatC07
import Derived.Test.YtpcofcmencgkbaaGreatC09
set_option linter.defProp false
set_option linter.unusedSectionVars false
set_option linter.unusedSimpArgs false
set_option linter.unusedVariables false
set_option maxRecDepth 100000
open Bool renaming false_eq_true->iL
open Classical renaming byContradiction->nO
open Go.IntKind renaming i64->cO,wrap_i64->cU
open Go.Proofs.Tryz renaming prog->ab
open Go.ay renaming Id->bt,hb->cW
open Go.ay.cj renaming kV->eB
open Go.ay.a7 renaming of->c4,s->oN
open Go.ay.aj renaming T->aO,rat->aS
open Go.ay.cb renaming int->JO
open Go.ay.eU renaming Own->yd,me->qX
open Go.ay.aL renaming of->bU
open Go.ay.ag renaming pF->ye
open Go.ay.View renaming pure->fk,aJ->lN
open Go.ay.dc renaming cons->bZ,nil->eT,pure->my
open Go.ay.fm renaming same->lM
open List renaming all_eq_true->dY,append_nil->pQ,contains_iff_mem->vz,ext_getElem->ie,filter_append->lL,filter_cons->Ey,flatten_cons->aak,getD_eq_getElem?_getD->dt,getElem?_eq_getElem->eO,getElem?_eq_none->pP,getElem_map->iz,getElem_mem->bf,getElem_range->nh,getElem_zipWith->D9,length_append->cP,length_map->aQ,length_nil->iM,length_pos_iff->iy,length_range->dx,length_singleton->k7,length_zipWith->ke,lookup->hJ,lookup_cons->mr,map_append->gI,map_congr_left->jR,map_eq_nil_iff->nY,map_id'->nZ,map_map->jf,mem_append->jh,mem_cons->ct,mem_cons_of_mem->cR,mem_cons_self->cp,mem_filter->qN,mem_iff_getElem->gJ,mem_map->bp,mem_of_mem_take->gK,mem_range->c8,mem_singleton->cq,not_mem_nil->cS,pairwise_cons->aal,pairwise_lt_range->aam,range->a8,range'->tR,range_succ->ix,take_length->kB
open Nat renaming add_zero->ij,le_add_right->nP,le_of_lt->hH,le_refl->a2,lt_irrefl->nW,lt_trichotomy->tH,min_self->tW,mul_le_mul_right->ck,not_lt_zero->fv,succ_mul->fU,zero_add->cF,zero_le->dL
open Option renaming getD_some->Ew
set_option maxHeartbeats 4000000
namespace Go.Proofs.YtpcofcmencgkbaaGreat
section
open Go.ay Go.ay.eU Go.Proofs Go.Lib
noncomputable def lA(M:List (List aj))(p:Nat):aj:=(true,(iV (M.flatten.map (·.2))).getD p (az.rat 0))
def kx(b:bt)(w i j:Nat):aa:=if j<i then dr b w j else .aH
def zj(b:bt)(w h i:Nat):aa:=if i<h then .ai b 2 (i*w) ((h-i)*w) false else .top
instance{w h i k:Nat}:oW (λ q=>zj (q k) w h i):=⟨λ ρ q=>by unfold zj;split<;>rfl⟩
instance{w h i k:Nat}:pW (λ q=>(aY h (kx (q k) w i)).map λ x=>x):=⟨λ ρ q=>by rw[fS,nZ,nZ];unfold aY;rw[jf];exact jR λ j _=>by show(kx (q k) w i j).aU ρ=_;unfold kx;split<;>rfl⟩
instance{w h k:Nat}{s:Nat->Nat}:pW (λ q=>(aY h s).map (dr (q k) w)):=⟨λ ρ q=>by rw[fS,jf];rfl⟩
def L0{b:bt}{w h i:Nat}(a:i<h):zj b w h i=.ai b 2 (i*w) ((h-i)*w) false:=if_pos a
def agZ{b:bt}{w h i:Nat}(a:i+1<h):zj b w h (i+1)=.ai b 2 (i*w+w) ((h-i)*w-w) false:=by rw[L0 a,fU,show(h-(i+1))*w=(h-i)*w-w from by rw[show h-i=(h-(i+1))+1 from ac,fU];omega]
def agY{b:bt}{w h i:Nat}(a:¬i<h):zj b w h i=.top:=if_neg a
def rA{w:Nat}:∀{M:List (List aj)},(∀r∈M,r.length=w)->M.flatten.length=M.length*w|[],_=>am|r::M,h=>by rw[aak,cP,h r cp,rA λ r a=>h r (cR _ a),List.length_cons,fU,Nat.add_comm]
def R5{w:Nat}:∀{M:List (List aj)},(∀r∈M,r.length=w)->∀{i j:Nat},i<M.length->j<w->M.flatten.getD (i*w+j) (aS 0)=(M.getD i []).getD j (aS 0)|[],_,i,_,a,_=>(fv _ a).elim|r::M,h,i,j,a,c=>by have b:=h r cp;rw[aak,dt];cases i with|zero=>rw[Nat.zero_mul,cF,List.getElem?_append_left ac];exact(dt ..).symm|succ i=>rw[fU,List.getElem?_append_right ac,show i*w+w+j-r.length=i*w+j from ac,<-dt,R5 (λ r b=>h r (cR _ b)) (by simpa using a) c];rfl
variable{K:bY}{n w:Nat}{M:List (List aj)}
def R3(c:bj K n w M):∀a∈M.flatten.map (·.2),az.G K a n:=λ a e=>by obtain⟨x,b,rfl⟩:=bp.1 e;have⟨r,d,b⟩:=List.mem_flatten.1 b;exact(c r d).2 x b
def agS{p:Nat}(a:p<M.flatten.length):lA M p=(true,az.of (dz (M.flatten.map (·.2))) (M.flatten.getD p (aS 0)).2.val):=by unfold lA iV;rw[a4 (by rw[aQ,aQ];exact a),iz,iz,a4 a]
def To{p:Nat}(e:bj K n w M)(b:p<M.flatten.length):(lA M p).2.val=(M.flatten.getD p (aS 0)).2.val/\(lA M p).G K n:=by rw[agS b,a4 b];have d:M.flatten[p].2∈M.flatten.map (·.2):=bp.2 ⟨_,bf b,rfl⟩;have g:=R3 e;have hv:=B9 (K:=K) (λ a c=>(g a c).1) _ d _ ⟨M.flatten[p].2.a,rfl⟩;refine⟨az.zE hv,GV λ a c=>(g a c).1,?_⟩;exact(az.zE hv).symm▸(g _ d).2
def agR(b:bj K n w M)(p:Nat):(lA M p).G K n:=by by_cases a:p<M.flatten.length;exact(To b a).2;unfold lA iV;rw[dt,pP (by rw[aQ,aQ];omega)];exact aj.G.zero
noncomputable def pt(M:List (List aj)):jB:=⟨lA M,λ i=>i,[],aS 1⟩
def akH(a:bj K n w M):vR K n w M.length (bR M) 0 (pt M):=by
 have c:=λ r c=>(a r c).1;refine⟨⟨λ i h=>h,λ i _ j _ e=>e⟩,?_,rfl,λ q=>agR a q,aj.G.one.mono (dL _)⟩;show _=bR M;refine UG (w:=w) HZ (IE a) (by rw[nM,nM,kv]) λ i b j d=>?_;rw[nM,kv]at b;have f:i*w+j<M.flatten.length:=by rw[rA c];have:=ck w (show i+1<=M.length from b);rw[fU]at this;omega
 rw[Nu b d,jH];show(lA M (i*w+j)).2.val=_;rw[(To a f).1,R5 c b d]
end
section
open Go.ay Go.ay.eU Go.Proofs Go.Lib
variable(G:Nat->Option (List aa))
noncomputable abbrev wP(M:List (List aj))(w i:Nat)(q:a7):List (Nat×aa):=[(4,zj (q 0) w M.length i),(0,aN M),(6,.ai (q 1) 1 0 M.length false),(21,aN M),(22,.int .i64 ((M.map ar).length:Nat)),(23,aA i)]
noncomputable abbrev uN(M:List (List aj))(w i:Nat)(q:a7):List (bt×aG):=[(q 0,⟨(aY (M.length*w) (lA M)).map aO,2,false⟩),(q 1,⟨(aY M.length (kx (q 0) w i)).map λ x=>x,1,false⟩)]
def agT{M:List (List aj)}{w:Nat}(k:∀r∈M,r.length=w)(h0:0<w)(m:M.length<=90)(i:Nat)(a:i<M.length):fe ab G (aZ (ak 152) 0) (ak 152).aK 200 .normal (wP M w i) (uN M w i) (wP M w (i+1)) (uN M w (i+1)):=by
 have el:((((M[i].map aO).length:Nat)):Int)=(w:Int):=by rw[aQ,k _ (bf a)]
 have g:w<=(M.length-i)*w:=Nat.le_mul_of_pos_left w ac;have c:∀b j,j<M.length->kx b w (i+1) j=if j=i then dr b w i else kx b w i j:=λ b j _=>by unfold kx;by_cases h:j=i;subst h;rw[if_pos ac,if_pos rfl];rw[if_neg h];split<;>split<;>first|rfl|omega
 unfold wP;simp only[L0 a];by_cases e:i+1<M.length;simp only[agZ e];have f:w<(M.length-i)*w:=by have:=ck w (ac:2<=M.length-i);omega
 exact en [bB 24 ar a,aV 26 1 ar a,hw 32 el,hw 34 el,SH 35 2 [1] (i*w) ((M.length-i)*w) w,hw 38 el,wz 39 2 [1] (i*w) ((M.length-i)*w) w false,cy 40 1 [2] false M.length i,kM 40 1 [2] 1 M.length (λ x=>x) (kx [1] w i) (kx [1] w (i+1)) i (dr [1] w i) (c [1]) rfl (h1:=by unfold kx;split<;>exact a2 _) (hu:=by unfold kx;split<;>rfl),bh 41 i];have l:(M.length-i)*w=w:=by rw[show M.length-i=1 from ac,Nat.one_mul]
 simp only[agY e,l];exact en [bB 24 ar a,aV 26 1 ar a,hw 32 el,hw 34 el,SH 35 2 [1] (i*w) w w,hw 38 el,SF 39 2 [1] (i*w) w h0,cy 40 1 [2] false M.length i,kM 40 1 [2] 1 M.length (λ x=>x) (kx [1] w i) (kx [1] w (i+1)) i (dr [1] w i) (c [1]) rfl (h1:=by unfold kx;split<;>exact a2 _) (hu:=by unfold kx;split<;>rfl),bh 41 i]
def aiY{K:bY}{q e r:Nat}(F:dN K q e r){n w:Nat}{M:List (List aj)}(o:bj K n w M)(h0:0<w)(d:M≠[])(k:M.length<=90)(m:w<=90)(u:n+K.C<=2199023255552)(p:bt):cj ab G 152 [aN M] p [] {val:=.aJ [.ai (14::p) 1 0 M.length false,.int .i64 0],rd:=[],up:=[(2000000::4::p,some ⟨(aY (M.length*w) (lA M)).map aO,2,false⟩),(14::p,some ⟨(aY M.length λ i=>i).map (dr (2000000::4::p) w),1,false⟩)]}:=by
 have f:=λ r f=>(o r f).1;have g:=rA f;have E:M.length*w<=8100:=by have:=Nat.mul_le_mul k m;omega
 have z:M.flatten≠[]:=λ e=>by rw[e]at g;have:=Nat.mul_pos (iy.2 d) h0;rw[iM]at g;omega
 have c:=UA G d (λ r h=>⟨λ e=>by have:=f r h;rw[e]at this;rw[iM]at this;omega,by rw[f r h];exact m⟩) k;have D:ar M.flatten=fI (M.flatten.map (·.2)):=by unfold ar fI;rw[jf];rfl
 rw[D]at c;have v:(iV (M.flatten.map (·.2))).map au=(aY (M.length*w) (lA M)).map aO:=by refine ie (by rw[aQ,aQ,gg];unfold iV;rw[aQ,aQ,g]) λ i h1 h2=>?_;rw[aQ]at h1;simp only[aY,iz,nh];show _=au ((iV _).getD i _);rw[a4 h1]
 have j:=λ p=>ajh G F (M.flatten.map (·.2)) (λ e=>z (nY.1 e)) (by rw[aQ,g];omega) (R3 o) u p;rw[v,aQ,g]at j;have H:∀b,(aY M.length (kx b w 0)).map (λ x=>x)=List.replicate M.length .aH:=λ b=>by rw[nZ];exact ie (by simp[gg]) λ j h1 h2=>by simp[aY,kx]
 have s:∀b,(aY M.length (kx b w M.length)).map (λ x=>x)=(aY M.length λ i=>i).map (dr b w):=λ b=>by rw[nZ,Bb];exact ym λ j t=>if_pos t
 have x:=en (G:=G) (P:=ab) (c:=aZ (ak 152) 0) (n:=(ak 152).aK) (w:=200) (e:=.exit 0) (A:=wP M w M.length) (bJ:=uN M w M.length) (B:=λ q=>[(6,.ai (q 1) 1 0 M.length false)]) (bS:=uN M w M.length) [dH 24 ar M];have y:fe ab G (aZ (ak 152) 0) (ak 152).aK 200 (.exit 0) (wP M w M.length) (uN M w M.length) (λ q=>[(6,.ai (q 1) 1 0 M.length false)]) (λ q=>[(q 0,⟨(aY (M.length*w) (lA M)).map aO,2,false⟩),(q 1,⟨(aY M.length λ i=>i).map (dr (q 0) w),1,false⟩)]):=by unfold uN at x⊢;simp only[s]at x⊢;exact x
 have l:0<M.length:=iy.2 d;refine eB (p:=p) (up:=[(2000000::4::p,_),(14::p,_)]) hN (λ _=>[]) [hc c,cL j,hw 19 (show(((M.map ar).length:Nat):Int)=(M.length:Int)by rw[aQ]),uD 20 1 24 .aH M.length (λ x:aa=>x) (kx [2000000,4,0] w 0) (λ j _=>if_neg (fv _)),kN (ak 152) 0 0 M.length (c4 [[2000000,4,0],[14,0]]) (wP M w) (uN M w) (.exit 0) (λ q=>[(6,.ai (q 1) 1 0 M.length false)]) (λ q=>[(q 0,⟨(aY (M.length*w) (lA M)).map aO,2,false⟩),(q 1,⟨(aY M.length λ i=>i).map (dr (q 0) w),1,false⟩)]) (agT G f h0 k) y (t0:=[(4,.ai [2000000,4,0] 2 0 (M.length*w) false),(0,aN M),(6,.ai [14,0] 1 0 M.length false),(21,aN M),(22,.int .i64 ((M.map ar).length:Nat)),(23,aA 0)]) (k0:=uN M w 0 (c4 [[2000000,4,0],[14,0]])) (by unfold wP;rw[L0 l,Nat.zero_mul,Nat.sub_zero];rfl) rfl] _ [] (.aJ [.ai [14,0] 1 0 M.length false,.int .i64 0]) [([2000000,4,0],⟨(aY (M.length*w) (lA M)).map aO,2,false⟩),([14,0],⟨(aY M.length λ i=>i).map (dr [2000000,4,0] w),1,false⟩)] an (bq.fix _) rfl rfl ?_ am am;show [(_,aG.mk (br _ _) 2 false),(_,aG.mk (br _ _) 1 false)]=_;rw[bq.fix,fS,jf];rfl
end
section
open Go.ay Go.ay.eU Go.Proofs Go.Lib
variable(G:Nat->Option (List aa))(L o b w k:Nat)(f:Nat->aj)(x:aj)
noncomputable abbrev zZ(i:Nat)(q:a7):List (Nat×aa):=[(8,.ref (q 1) 0 0),(0,fM),(1,.ai (q 0) 2 o w true),(2,.ai (q 0) 2 b w true),(10,aA (k+i))]
noncomputable abbrev u4(i:Nat)(q:a7):List (bt×aG):=[(q 0,⟨(aY L (hX f o b k (k+i) x)).map aO,2,false⟩),(q 1,⟨[x.T],2,false⟩)]
structure J7(K:bY)(q n m:Nat):Prop where
 ho:∀j,j<w->(f (o+j)).G K n
 hb:∀j,j<w->(f (b+j)).G K m
 hx:x.G K n
 hd:b+w<=o\/o+w<=b
 MN:o+w<=L
 abH:b+w<=L
 cx:w<=9000
 b1:bm K q n
 b2:bm K q m
 b3:bm K q (n+m+K.c)
variable{L o b w k f x}
variable{K:bY}{q e r:Nat}(F:dN K q e r){n m:Nat}
include F
def amV(H:J7 L o b w f x K q n m)(i:Nat)(a:k+i<w):fe ab G (aZ (ak 157) 0) (ak 157).aK 200 .normal (zZ o b w k i) (u4 L o b k f x i) (zZ o b w k (i+1)) (u4 L o b k f x (i+1)):=by have A:=H.cx;have MN:=H.MN;have B:=H.abH;have c:=amW (f:=f) (k:=k) (j:=k+i) (y:=x) H.hd a ac;have l:=amY (f:=f) (o:=o) (b:=b) (k:=k) (j:=k+i) (y:=x);have g1:=H.hb _ a;have g2:=H.ho _ a;have st:=amZ (f:=f) (o:=o) (b:=b) (k:=k) (j:=k+i) (y:=x);have xu:=am0 (f:=f) (o:=o) (b:=b) (k:=k) (j:=k+i) (y:=x);unfold u4 zZ;rw[<-Nat.add_assoc];have h:k<=k+i:=nP _ _;have s:=I4 (i:=k+i) ac;generalize k+i=j at*;rw[<-c]at g1;rw[<-l]at g2;have hY:=w5 G F g1 H.b2;cases z:(f (b+j)).bD with|true=>rw[xu z];generalize hX f o b k j x=g at*;rw[<-c]at z;exact en [hb 15 (dv a),nA 20 2 [1] b w j true,fx 21 2 true [1] 2 L aO g (b+j) (g (b+j)).T,hc hY,hb 23 (nJ z),hw 17 s]|false=>have st:=st z h;rw[<-c,<-l]at st;rw[<-c]at z;have v:=yB G F H.hx g1 H.b1 H.b2;have u:=acm G F g2 (H.hx.mul g1) H.b1 H.b3;generalize hX f o b k (j+1) x=d at*;generalize hX f o b k j x=g at*;exact en [hb 15 (dv a),nA 20 2 [1] b w j true,fx 21 2 true [1] 2 L aO g (b+j) (g (b+j)).T,hc hY,hb 23 (nJ z),nA 29 2 [1] o w j true,fx 30 2 true [1] 2 L aO g (o+j) (g (o+j)).T,nA 35 2 [1] b w j true,fx 36 2 true [1] 2 L aO g (b+j) (g (b+j)).T,hc v,hc u,nA 39 2 [1] o w j true,kM 39 2 [1] 2 L aO g d (o+j) ((g (o+j)).sub (x.mul (g (b+j)))) (λ p _=>st p) (rV _),hw 17 s]
def ai5(H:J7 L o b w f x K q n m)(j:k<=w)(id p:bt):cj ab G 157 [fM,.ai id 2 o w true,.ai id 2 b w true,x.T,aA k] p [(id,⟨(aY L f).map aO,2,false⟩)] {val:=.aJ [],rd:=[id],up:=[(id,some ⟨(aY L (hX f o b k w x)).map aO,2,false⟩)]}:=by have d:k+(w-k)=w:=ac;have x1:=en (P:=ab) (G:=G) (c:=aZ (ak 157) 0) (n:=(ak 157).aK) (w:=200) (e:=.exit 0) (A:=zZ o b w k (w-k)) (bJ:=u4 L o b k f x (w-k)) (B:=λ _=>[]) (bS:=λ q=>[(q 0,⟨(aY L (hX f o b k (k+(w-k)) x)).map aO,2,false⟩)]) [hb 15 (h7 (ac:w<=k+(w-k)))];unfold u4 at x1;rw[d]at x1;exact cj.XM hN [kN (ak 157) 0 0 (w-k) (c4 [[1],[0,0]]) (zZ o b w k) (u4 L o b k f x) (.exit 0) (λ _=>[]) (λ q=>[(q 0,⟨(aY L (hX f o b k w x)).map aO,2,false⟩)]) (λ i h=>amV G F H i ac) (by unfold u4;rw[d];exact x1) (t0:=zZ o b w k 0 (c4 [[1],[0,0]])) (k0:=[([1],⟨(aY L f).map aO,2,false⟩),([0,0],⟨[x.T],2,false⟩)]) rfl (by unfold u4;rw[ij,amX];rfl) (hN:=by have:=H.cx;omega)] (λ q=>[fM,.ai (q 0) 2 o w true,.ai (q 0) 2 b w true,x.T,aA k]) (λ _=>.aJ []) (λ q=>[(q 0,⟨(aY L f).map aO,2,false⟩)]) (λ q=>[(q 0,⟨(aY L (hX f o b k w x)).map aO,2,false⟩)]) an (c4 [id]) p am am
end
section
open Go.ay Go.ay.eU Go.Proofs Go.Lib
variable(G:Nat->Option (List aa))
variable{M:List (List aj)}{g:Nat}{c:aa}[bg c]{p:Nat->Bool}(gN:M.length<=9000)(h:∀i(hi:i<M.length),ag ab G g [ar M[i],c] (.bool (p i)))
include gN h
def agO(b:∀i,i<M.length->p i=false):ag ab G 138 [aN M,.fn (.func g) [] [c]] (.int .i64 (-1)):=by refine bL [gm (ak 138) 0 0 0 M.length (GI M (.fn (.func g) [] [c])) (.exit 0) [] (λ i hi=>?_) (rd [dH 9 ar M])];have k:=h i hi;rw[b i hi]at k;exact rd [bB 9 ar hi,aV 14 1 ar hi,hc k,bh 18 i]
def agP{i:Nat}(hi:i<M.length)(d:p i=true)(f:∀j,j<i->p j=false):ag ab G 138 [aN M,.fn (.func g) [] [c]] (aA i):=by refine bL [gm (ak 138) 0 0 0 i (GI M (.fn (.func g) [] [c])) .ret [(4,aA i)] (λ j e=>?_) ?_];have a:j<M.length:=ac;have k:=h j a;rw[f j e]at k;exact rd [bB 9 ar a,aV 14 1 ar a,hc k,bh 18 j];have k:=h i hi;rw[d]at k;exact rd [bB 9 ar hi,aV 14 1 ar hi,hc k]
end
section
open Go.ay Go.ay.eU Go.Proofs Go.Lib
variable(G:Nat->Option (List aa))
variable{K:bY}{q e r:Nat}(F:dN K q e r){n m:Nat}
include F
def adx{a:List aj}(d:dn K n a){k:Nat}(b:k<a.length)(f:bm K q n):ag ab G 153 [ar a,.cr [aA k] 0] (.bool (!(a.getD k (aS 0)).bD)):=by rw[a4 b];have s:=w5 G F (d _ (bf b)) f;exact aI [aV 6 2 aO b,hc s,hb 9 (nJ (a:=a[k]) rfl)]
end
section
open Go.ay Go.ay.eU Go.Proofs Go.Lib
variable(G:Nat->Option (List aa))
structure pU where
 M:List (List aj)w:Nat
 h:Nat
 k:Nat
 t:Nat
 s:Nat->Nat
variable(S:pU)
abbrev H3:aG:=⟨[.agg [.aH,.aH,.aH,.aH]],4,false⟩
noncomputable abbrev jX(q:a7):List (Nat×aa):=[(0,aN S.M),(2,.ref (q 5) 0 0),(4,.ai (q 1) 1 0 S.h false),(6,fM),(7,.ref (q 4) 0 0),(8,.ref (q 2) 0 0),(9,aA S.t),(31,aA S.w),(32,aA S.k)]
noncomputable abbrev RT(d:aj)(z:aa)(q:a7):aG:=⟨[.agg [.ai (q 1) 1 0 S.h false,z,aT d.2.T.2.aw,aF d.2.a]],4,false⟩
noncomputable abbrev nu(f:Nat->aj)(y d:aj)(q:a7):List (bt×aG):=[(q 0,⟨(aY (S.h*S.w) f).map aO,2,false⟩),(q 1,⟨(aY S.h S.s).map (dr (q 0) S.w),1,false⟩),(q 2,⟨[aA S.k],1,false⟩),(q 3,⟨[y.T],2,false⟩),(q 4,RT S d .aH q),(q 5,H3)]
noncomputable abbrev nv(f:Nat->aj)(y d:aj)(l:List aa)(q:a7):List (bt×aG):=[(q 0,⟨(aY (S.h*S.w) f).map aO,2,false⟩),(q 1,⟨(aY S.h S.s).map (dr (q 0) S.w),1,false⟩),(q 2,⟨[aA S.k],1,false⟩),(q 3,⟨[y.T],2,false⟩),(q 4,RT S d (.ai (q 6) 1 0 S.t false) q),(q 5,H3),(q 6,⟨l,1,false⟩)]
variable{S}
variable{K:bY}{q e r:Nat}(F:dN K q e r){n m:Nat}{f:Nat->aj}{y d:aj}(l:List aa)[bq l]
include F
def Wy(I:∀p,(f p).G K n)(v:y.G K n)(z:y.bD=false)(A:bm K q n)(u:bm K q (23*n+41*K.c))(J:S.t<S.h)(B:S.s S.t<S.h)(L:S.w<=9000)(i:Nat)(E:S.k+i<S.w)(o:Bool):fe ab G (aZ (ak 110) 1) (ak 110).aK 200 .normal (λ q=>(12,aA (S.k+i))::(11,.ref (q 3) 0 0)::jX S q) (λ q=>if o then nv S (qX f (S.s S.t*S.w) S.k (S.k+i) y) y d l q else nu S (qX f (S.s S.t*S.w) S.k (S.k+i) y) y d q) (λ q=>(12,aA (S.k+(i+1)))::(11,.ref (q 3) 0 0)::jX S q) (λ q=>if o then nv S (qX f (S.s S.t*S.w) S.k (S.k+(i+1)) y) y d l q else nu S (qX f (S.s S.t*S.w) S.k (S.k+(i+1)) y) y d q):=by
 have bk:S.s S.t*S.w+S.w<=S.h*S.w:=by have:=ck S.w (show S.s S.t+1<=S.h from B);rw[fU]at this;exact this
 have C:=am1 (f:=f) (o:=S.s S.t*S.w) (k:=S.k) (j:=S.k+i) (y:=y);have g1:=I (S.s S.t*S.w+(S.k+i));have st:=am2 (f:=f) (o:=S.s S.t*S.w) (y:=y) (nP S.k i);have x:=I4 (i:=S.k+i) ac;rw[<-Nat.add_assoc];generalize S.k+i=j at*;rw[<-C]at g1 st;have D:=acf G F g1 v z A u;generalize qX f (S.s S.t*S.w) S.k (j+1) y=H at*;generalize qX f (S.s S.t*S.w) S.k j y=g at*;cases o<;>simp only[iL,if_true,if_false]<;>exact en [cy 86 1 [2] false S.h S.t,fx 87 1 false [2] 1 S.h (dr [1] S.w) S.s S.t (dr [1] S.w (S.s S.t)),hb 89 (dv E),cy 94 1 [2] false S.h S.t,fx 95 1 false [2] 1 S.h (dr [1] S.w) S.s S.t (dr [1] S.w (S.s S.t)),cy 100 1 [2] false S.h S.t,fx 101 1 false [2] 1 S.h (dr [1] S.w) S.s S.t (dr [1] S.w (S.s S.t)),nA 103 2 [1] (S.s S.t*S.w) S.w j true,fx 104 2 true [1] 2 (S.h*S.w) aO g (S.s S.t*S.w+j) (g (S.s S.t*S.w+j)).T,hc D,nA 107 2 [1] (S.s S.t*S.w) S.w j true,kM 107 2 [1] 2 (S.h*S.w) aO g H (S.s S.t*S.w+j) ((g (S.s S.t*S.w+j)).div y) (λ p _=>st p) (rV _),hw 91 x]
def QW(O:yd S.h S.s)(x:S.t<S.h)(A:S.k<S.w)(J:S.w<=9000)(U:S.h<=9000)(ho:∀a,a<S.h->a≠S.t->∀j,j<S.w->(f (S.s a*S.w+j)).G K n)(B:∀j,j<S.w->(f (S.s S.t*S.w+j)).G K m)(b1:bm K q n)(b2:bm K q m)(b3:bm K q (n+m+K.c))(i:Nat)(v:i<S.h)(o:Bool):fe ab G (aZ (ak 110) 2) (ak 110).aK 200 .normal (λ q=>(110,aA i)::(108,.ai (q 1) 1 0 S.h false)::(109,aA S.h)::jX S q) (λ q=>if o then nv S (eI f S.s S.w S.t S.k i) y d l q else nu S (eI f S.s S.w S.t S.k i) y d q) (λ q=>(110,aA (i+1))::(108,.ai (q 1) 1 0 S.h false)::(109,aA S.h)::jX S q) (λ q=>if o then nv S (eI f S.s S.w S.t S.k (i+1)) y d l q else nu S (eI f S.s S.w S.t S.k (i+1)) y d q):=by
 have D:∀a,a<S.h->S.s a*S.w+S.w<=S.h*S.w:=λ a L=>by have:=ck S.w (show S.s a+1<=S.h from O.1 a L);rw[fU]at this;exact this
 have I:=Fu (f:=f) O x A i ac;have M:=D i v;have E:∀j,j<S.w->eI f S.s S.w S.t S.k i (S.s i*S.w+j)=f (S.s i*S.w+j):=λ j b=>by rw[I i v j b,if_neg ac]
 have P:∀j,j<S.w->eI f S.s S.w S.t S.k i (S.s S.t*S.w+j)=f (S.s S.t*S.w+j):=λ j b=>by rw[I S.t x j b,if_neg (λ q=>q.2.1 rfl)]
 by_cases e:i=S.t;have es:eI f S.s S.w S.t S.k (i+1)=eI f S.s S.w S.t S.k i:=if_neg (λ q=>q.1 e);have u:((i:Int)!=(S.t:Int))=false:=by rw[e];exact bne_self_eq_false _
 rw[es];generalize eI f S.s S.w S.t S.k i=g at*;cases o<;>simp only[iL,if_true,if_false]<;>exact en [hb 111 (dv v),cy 113 1 [2] false S.h i,fx 114 1 false [2] 1 S.h (dr [1] S.w) S.s i (dr [1] S.w (S.s i)),nA 117 2 [1] (S.s i*S.w) S.w S.k true,fx 118 2 true [1] 2 (S.h*S.w) aO g (S.s i*S.w+S.k) (g (S.s i*S.w+S.k)).T,hb 121 u,bh 136 i];have u:((i:Int)!=(S.t:Int))=true:=bne_iff_ne.2 ac;have g1:=ho i v e S.k A;rw[<-E S.k A]at g1;have hY:=w5 G F g1 b1;cases z:(eI f S.s S.w S.t S.k i (S.s i*S.w+S.k)).bD with|true=>have es:eI f S.s S.w S.t S.k (i+1)=eI f S.s S.w S.t S.k i:=if_neg (λ q=>by rw[z]at q;cases q.2);rw[es];generalize eI f S.s S.w S.t S.k i=g at*;cases o<;>simp only[iL,if_true,if_false]<;>exact en [hb 111 (dv v),cy 113 1 [2] false S.h i,fx 114 1 false [2] 1 S.h (dr [1] S.w) S.s i (dr [1] S.w (S.s i)),nA 117 2 [1] (S.s i*S.w) S.w S.k true,fx 118 2 true [1] 2 (S.h*S.w) aO g (S.s i*S.w+S.k) (g (S.s i*S.w+S.k)).T,hb 121 u,hc hY,hb 125 (nJ z),bh 136 i]|false=>
   have es:eI f S.s S.w S.t S.k (i+1)=hX (eI f S.s S.w S.t S.k i) (S.s i*S.w) (S.s S.t*S.w) S.k S.w (eI f S.s S.w S.t S.k i (S.s i*S.w+S.k)):=if_pos ⟨e,z⟩;have N:S.s S.t*S.w+S.w<=S.s i*S.w\/S.s i*S.w+S.w<=S.s S.t*S.w:=by rcases tH (S.s S.t) (S.s i)with h|h|h;left;have:=ck S.w (show S.s S.t+1<=S.s i from h);rw[fU]at this;exact this;exact(e (O.2 _ v _ x h.symm)).elim;right;have:=ck S.w (show S.s i+1<=S.s S.t from h);rw[fU]at this;exact this
   rw[es];have H:J7 (S.h*S.w) (S.s i*S.w) (S.s S.t*S.w) S.w (eI f S.s S.w S.t S.k i) (eI f S.s S.w S.t S.k i (S.s i*S.w+S.k)) K q n m:=⟨λ j b=>by rw[E j b];exact ho i v e j b,λ j b=>by rw[P j b];exact B j b,g1,N,M,D _ x,J,b1,b2,b3⟩;have c:=λ p=>ai5 G F H (hH A) [1] p;generalize eI f S.s S.w S.t S.k i=g at*;generalize hX g (S.s i*S.w) (S.s S.t*S.w) S.k S.w (g (S.s i*S.w+S.k))=Q at*;cases o<;>simp only[iL,if_true,if_false]<;>exact en [hb 111 (dv v),cy 113 1 [2] false S.h i,fx 114 1 false [2] 1 S.h (dr [1] S.w) S.s i (dr [1] S.w (S.s i)),nA 117 2 [1] (S.s i*S.w) S.w S.k true,fx 118 2 true [1] 2 (S.h*S.w) aO g (S.s i*S.w+S.k) (g (S.s i*S.w+S.k)).T,hb 121 u,hc hY,hb 125 (nJ z),cy 131 1 [2] false S.h S.t,fx 132 1 false [2] 1 S.h (dr [1] S.w) S.s S.t (dr [1] S.w (S.s S.t)),Gj c,bh 136 i]
omit F in theorem RU{i:Nat}(h:S.k+i=S.w)(ht:S.t<S.h)(o:Bool):fe ab G (aZ (ak 110) 1) (ak 110).aK 200 (.exit 2) (fun q=>(12,aA (S.k+i))::(11,.ref (q 3) 0 0)::jX S q) (fun q=>if o then nv S f y d l q else nu S f y d q) (jX S) (fun q=>if o then nv S f y d l q else nu S f y d q):=by cases o<;>simp only[iL,if_true,if_false]<;>exact en [cy 86 1 [2] false S.h S.t,fx 87 1 false [2] 1 S.h (dr [1] S.w) S.s S.t (dr [1] S.w (S.s S.t)),hb 89 (h7 (Nat.le_of_eq h.symm))] an
omit F in theorem QT(o:Bool):fe ab G (aZ (ak 110) 2) (ak 110).aK 200 (.exit 4) (fun q=>(110,aA S.h)::(108,.ai (q 1) 1 0 S.h false)::(109,aA S.h)::jX S q) (fun q=>if o then nv S f y d l q else nu S f y d q) (jX S) (fun q=>if o then nv S f y d l q else nu S f y d q):=by cases o<;>simp only[iL,if_true,if_false]<;>exact en [hb 111 (h7 (a2 S.h))] an
end
end Go.Proofs.YtpcofcmencgkbaaGreat
namespace Go.ay
def eN(q:a7)(d:Nat)(y:Id):a7:=λ k=>if k=d then y else q k
def X5{q:a7}{d:Nat}{y z:Id}:eN (eN q d y) d z=eN q d z:=by funext k;unfold eN;split<;>rfl
def Oj{q:a7}{d:Nat}:eN q d (q d)=q:=by funext k;unfold eN;split<;>simp_all
def UW{q:a7}:vQ q↔∀i,i<8->∀j,j<8->q i=q j->i=j:=by unfold vQ List.Nodup;rw[List.pairwise_map,List.pairwise_iff_getElem];constructor;intro h i a j b e;rcases tH i j with h1|h1|h1;exact(h i j (by simpa using a) (by simpa using b) h1 (by simpa using e)).elim;exact h1;exact(h j i (by simpa using b) (by simpa using a) h1 (by simpa using e.symm)).elim;intro h i j a b c e;simp only[List.length_range',List.getElem_range',Nat.one_mul,cF]at a b e;have:=h i a j b e;omega
structure jl(m:Nat)(q:a7):Prop where
 inj:∀i j,q i=q j->i=j
 old:∀k,∀j,m<=j->¬[j,0]<:+q k
def jl.nd{m:Nat}{q:a7}(g:jl m q):vQ q:=UW.2 λ i _ j _ e=>g.inj i j e
def jl.mono{m a:Nat}{q:a7}(g:jl m q)(h:m<=a):jl a q:=⟨g.inj,λ k j b=>g.old k j ac⟩
def jl.up{m w a d:Nat}{q:a7}(g:jl m q)(h:a<w)(l:List Nat):jl (m+w) (eN q d (l++[m+a,0])):=by have c:∀k,l++[m+a,0]≠q k:=λ k e=>g.old k (m+a) (nP _ _) (e▸List.suffix_append _ _);refine⟨λ i j e=>?_,λ k j f b=>?_⟩;unfold eN at e;split at e<;>split at e;omega;exact(c j e).elim;exact(c i e.symm).elim;exact g.inj i j e;unfold eN at b;split at b;have:=H8 b;omega;exact g.old k j ac b
def N4(w d:Nat)(y:Id):Bool:=l6 y [d+1]||ze w y
def jl.next{m w d:Nat}{q:a7}{y:Id}(g:jl m q)(h:N4 w d y=true):jl (m+w) (eN q d (bN m [0] q.κ y)):=by unfold N4 at h;rw[Bool.or_eq_true]at h;rcases h with h|h;rw[rJ.1 h];show jl (m+w) (eN q d (q d));rw[Oj];exact g.mono (nP _ _);obtain⟨l,a,b,rfl⟩:=s9 h;rw[iF];exact g.up b l
def MF(m:Nat):Id->Bool|[_]=>true|[0,0,_]=>false|i=>ze m i
def ajy{m:Nat}{i:Id}(h:MF m i=true):(∃a,i=[a])\/(ze m i=true/\∀k,i≠[0,0,k]):=by unfold MF at h;split at h;exact .inl ⟨_,rfl⟩;cases h;next h1 h2=>exact .inr ⟨h,λ k e=>h2 k e⟩
def Hn{l:List Id}{k:Nat}(h:k<l.length):c4 l k=l[k]:=by unfold c4;rw[dt,eO h,Ew]
def Cu{l:List Id}{k:Nat}(h:¬k<l.length):c4 l k=[0,0,k]:=by unfold c4;rw[dt,pP ac,Option.getD_none]
def jl.start{m:Nat}{l:List Id}(h:(pn l&&l.all (MF m))=true)(h0:0<l.length):jl m (c4 l):=by
 rw[Bool.and_eq_true]at h;have nd:=tk h.1;have g:=λ k(f:k<l.length)=>ajy (dY.1 h.2 l[k] (bf f));have n:∀i j,i<l.length->c4 l i≠[0,0,j]:=λ i j b e=>by rw[Hn b]at e;rcases g i b with⟨a,h⟩|⟨_,h⟩;rw[h]at e;simp at e;exact h j e
 refine⟨λ i j e=>?_,λ k j c d=>?_⟩;by_cases b:i<l.length;by_cases c:j<l.length;rw[Hn b,Hn c]at e;exact(List.getElem_inj nd).1 e;rw[Cu c]at e;exact(n i j b e).elim;by_cases c:j<l.length;rw[Cu b]at e;exact(n j i c e.symm).elim;rw[Cu b,Cu c]at e;simpa using e;by_cases f:k<l.length;rw[Hn f]at d;rcases g k f with⟨a,e⟩|⟨e,_⟩;rw[e]at d;exact WC d;have⟨l',a,p,e⟩:=s9 e;rw[e]at d;have:j=0+a:=H8 (m:=0) (by rwa[cF]);omega;rw[Cu f]at d;have⟨t,e⟩:=d;have o:=congrArg List.reverse e;simp at o;omega
section
variable{P:Program}{G:Nat->Option (List aa)}
def la(P:Program)(G:Nat->Option (List aa))(c:cw)(n w d:Nat)(e:cf)(A:a7->List (Nat×aa))(bJ:a7->List (Id×aG))(B:a7->List (Nat×aa))(bS:a7->List (Id×aG)):Prop:=∀(q:a7)(m:Nat),jl m q->bo P G [0] c (λ a s'=>a=e/\∃y,jl (m+w) (eN q d y)/\bP G [0] s' ⟨fr n (B (eN q d y)),bU (bS (eN q d y)),m+w⟩) ⟨fr n (A q),bU (bJ q),m⟩
def X4{q:a7}{d m:Nat}{y:Id}:(λ k=>bN m [0] q.κ (eN oN d y k))=eN q d (bN m [0] q.κ y):=by funext k;unfold eN;split<;>rfl
def pw{c:cw}{n w d a b:Nat}{e:cf}{A B:a7->List (Nat×aa)}{bJ bS:a7->List (Id×aG)}[mF A][mF B][gh 0 a bJ][gh 0 b bS](y:Id)(j:List (aR P G))(h:gT (bS (eN oN d y)) (fr n (B (eN oN d y))) w (bT true 1000 c [0] j ⟨fr n (A oN),b5 (bJ oN),0⟩)=gS e (bS (eN oN d y)) (fr n (B (eN oN d y))) (bT true 1000 c [0] j ⟨fr n (A oN),b5 (bJ oN),0⟩):=by kernel_rfl)(l:N4 w d y=true:=by kernel_rfl)(k:a<=8:=by decide):la P G c n w d e A bJ B bS:=λ q m g=>bo.kV q.κ j (fr n (A oN)) (bJ oN) e (fr n (B (eN oN d y))) (bS (eN oN d y)) w h (by rw[n8,mF.nat,a7.rR]) (by rw[gh.nat (i:=0) (f:=bJ),a7.rR]) (by rw[n8,mF.nat,X4]) (by rw[gh.nat (i:=0) (f:=bS),X4]) (gh.nd (n:=a) g.nd k) λ s hw=>⟨rfl,_,g.next l,hw⟩
def ajp{m E d:Nat}{q:a7}(h0:jl m q)(b:m<=E):vQ (eN q d [E,0]):=UW.2 λ i _ j _ e=>by unfold eN at e;have a:∀k,[E,0]≠q k:=λ k e=>h0.old k E b (e▸List.suffix_refl _);split at e<;>split at e;omega;exact(a _ e).elim;exact(a _ e.symm).elim;exact h0.inj i j e
def T3{c:cw}{n N w n0 E d b:Nat}{e:cf}{q:a7}{T:Nat->a7->List (Nat×aa)}{K:Nat->a7->List (Id×aG)}{c5:a7->List (Nat×aa)}{cm:a7->List (Id×aG)}[mF c5][gh 0 b cm](hb:b<=8)(h0:jl n0 q)(x:∀i,i<N->la P G c n w d .normal (T i) (K i) (T (i+1)) (K (i+1)))(v:la P G c n w d e (T N) (K N) c5 cm)(o:e≠.normal)(r:n0+w*N+w<=E):bo P G [0] (.loop c) (λ h s'=>h=e/\bP G [0] s' ⟨fr n (c5 (eN q d [E,0])),bU (cm (eN q d [E,0])),E+1⟩) ⟨fr n (T 0 q),bU (K 0 q),n0⟩:=by
 refine bo.zo (α:=Nat×Id) (λ z=>⟨fr n (T z.1 (eN q d z.2)),bU (K z.1 (eN q d z.2)),n0+w*z.1⟩) (λ z=>z.1<=N/\jl (n0+w*z.1) (eN q d z.2)) (λ z=>N-z.1) (0,q d) (by rw[Nat.mul_zero];simp only[Oj];exact bP.refl _ _ _) ⟨dL _,by rw[Nat.mul_zero];simp only[Oj];exact h0⟩ ?_;rintro⟨i,z⟩⟨u,g⟩;simp only[]at u g⊢;by_cases l:i<N;refine(x i l _ _ g).mono λ h s'⟨h1,y,h2,h3⟩=>?_;subst h1;rw[show n0+w*i+w=n0+w*(i+1)by rw[Nat.mul_add,Nat.mul_one];omega]at h2 h3;rw[X5]at h2 h3;exact⟨(i+1,y),⟨l,h2⟩,by simp only[];omega,h3⟩;obtain rfl:i=N:=ac;refine(v _ _ g).mono λ h s'⟨h1,y,h2,h3⟩=>?_;subst h1;rw[X5]at h2 h3;have a:=bP.Us (G:=G) (π:=[0]) (q:=eN q d y d) (t:=fr n (c5 (eN q d y))) (K:=cm (eN q d y)) r (gh.nd (n:=b) h2.nd hb);have lq:(λ k=>mv (eN q d y d) [E,0] (eN q d y k))=eN q d [E,0]:=by funext k;by_cases e:k=d;subst e;rw[zx];unfold eN;rw[if_pos rfl];rw[nE λ h=>e (h2.inj k d h)];unfold eN;rw[if_neg e,if_neg e]
 rw[n8,mF.nat,gh.nat (i:=0) (f:=cm),lq]at a;cases h with|normal=>exact(o rfl).elim|exit j=>exact⟨rfl,h3.trans a⟩|ret=>exact⟨rfl,h3.trans a⟩
def ah2{c:cw}{n N w n0 E d b:Nat}{e:cf}{q:a7}{T:Nat->a7->List (Nat×aa)}{K:Nat->a7->List (Id×aG)}{c5:a7->List (Nat×aa)}{cm:a7->List (Id×aG)}[mF c5][gh 0 b cm](hb:b<=8)(h0:jl n0 q)(o:∀i,i<N->la P G c n w d .normal (T i) (K i) (T (i+1)) (K (i+1)))(m:la P G c n w d e (T N) (K N) c5 cm)(a:e≠.normal)(l:n0+w*N+w<=E):bo P G [0] (.loop c) (λ g s'=>g=e/\bP G [0] s' ⟨fr n (c5 (eN q d [E,0])),eP.to (b5 (cm (eN q d [E,0]))),E+1⟩) ⟨fr n (T 0 q),bU (K 0 q),n0⟩:=by refine(T3 hb h0 o m a l).mono λ g s'⟨h1,h3⟩=>?_;subst h1;have h:(((cm (eN q d [E,0]))).map (·.1)).Nodup:=gh.nd (n:=b) (ajp h0 ac) hb;have h4:=bP.toT h h3;cases g with|normal=>exact(a rfl).elim|exit j=>exact⟨rfl,h4⟩|ret=>exact⟨rfl,h4⟩
end
end Go.ay
namespace Go.Proofs.YtpcofcmencgkbaaGreat
section
open Go.ay Go.ay.eU Go.Proofs Go.Lib
variable(G:Nat->Option (List aa))
noncomputable def uC{w h t o k:Nat}{f:Nat->aj}{s:Nat->Nat}{z:Int}(O:yd h s)(l:t<=h)(e:o=t)(d:ag ab G 138 [aN (aY (h-t) λ i=>aY w λ j=>f (s (t+i)*w+j)),.fn (.func 153) [] [.cr [aA k] 0]] (.int .i64 z)):aR ab G:=Lg (args:=[.ai [2] 1 o (h-t) false,.fn (.func 153) [] [.ref [2,0] 0 0]]) [([1],⟨(aY (h*w) f).map aO,2,false⟩),([2],⟨(aY h s).map (dr [1] w),1,false⟩),([2,0],⟨[aA k],1,false⟩)] d (by subst e;refine bZ (Yf (b:=[1]) (L:=h*w) (h:=h) (fr:=false) (La:=false) (by simp[bU]) (by simp[bU,hJ]) ac λ i g=>?_) (bZ (View.fn eT (bZ (View.ref (aq:=⟨[aA k],1,false⟩) (by simp[bU,hJ]) rfl (my λ c hc=>by rw[cq.1 hc];exact JO _ _)) eT)) eT);have:=ck w (show s i+1<=h from O.1 i g);rw[fU]at this;exact this) (n2.int _ _)
def Sy(key:Nat)(id a:bt)(l:List aa)(n:Nat)(x:aa)(e:l.length=n)(f:n<=9000)[h:dw 1 l](d:x.cells.all aa.one=true:=by rfl):aR ab G:=.st key [(a,⟨[x],1,false⟩),(id,⟨l,1,false⟩)] (.append 1 8 (.ai id 1 0 n false) (.ai a 1 0 1 false)) (λ p=>{val:=.ai p 1 0 (n+1) false,rd:=[id,a],up:=[(id,none),(p,some ⟨l++[x],1,false⟩)]}) (λ σ p c=>by subst e;have h1:=c (a,⟨[x],1,false⟩) am;have h2:=c (id,⟨l,1,false⟩) am;exact Aa (σ:=σ) (p:=p) (id:=id) (k:=1) (bytes:=8) (len:=l.length) (x:=.ai a 1 0 1 false) (els:=l) (ys:=[x]) (rd:=[a]) (by rw[yK h1 rfl am];rfl) am h2 rfl (by simp;omega) (pd (by simp;omega)) (by simpa using d) (qp (k:=1)))
noncomputable abbrev jN(M:List (List aj))(h w k:Nat)(q:a7):List (Nat×aa):=[(0,aN M),(2,.ref (q 3) 0 0),(4,.ai (q 1) 1 0 h false),(6,fM),(7,.ref (q 2) 0 0),(31,aA w),(32,aA k)]
noncomputable abbrev pq(h w:Nat)(f:Nat->aj)(s:Nat->Nat)(d:aj)(q:a7):List (bt×aG):=[(q 0,⟨(aY (h*w) f).map aO,2,false⟩),(q 1,⟨(aY h s).map (dr (q 0) w),1,false⟩),(q 2,⟨[.agg [.ai (q 1) 1 0 h false,.aH,aT d.2.T.2.aw,aF d.2.a]],4,false⟩),(q 3,H3)]
noncomputable abbrev ou(h w:Nat)(f:Nat->aj)(s:Nat->Nat)(d:aj)(t:Nat)(l:List aa)(q:a7):List (bt×aG):=[(q 0,⟨(aY (h*w) f).map aO,2,false⟩),(q 1,⟨(aY h s).map (dr (q 0) w),1,false⟩),(q 2,⟨[.agg [.ai (q 1) 1 0 h false,.ai (q 4) 1 0 t false,aT d.2.T.2.aw,aF d.2.a]],4,false⟩),(q 3,H3),(q 4,⟨l,1,false⟩)]
noncomputable abbrev nF:cw:=aZ (ak 110) 0
noncomputable abbrev kQ:Nat:=(ak 110).aK
variable{M:List (List aj)}{h w k t:Nat}{f:Nat->aj}{s:Nat->Nat}{d:aj}{l:List aa}[dw 1 l][bq l]
theorem aj8(O:yd h s)(c:k<w)(m:h<=9000)(n:w<=9000)(g:t<=h)(h0:0<h)(b:ag ab G 138 [aN (aY (h-t) λ i=>aY w λ j=>f (s (t+i)*w+j)),.fn (.func 153) [] [.cr [aA k] 0]] (.int .i64 (-1))):la ab G nF kQ (b6 9) 4 .normal (jN M h w k) (ou h w f s d t l) (jN M h w (k+1)) (ou h w f s d t l):=by by_cases e:t<h;exact pw [5] [hb 33 (dv c),wz 40 1 [2] 0 h t false,uC G O g (cF t) b,bh 143 k];obtain rfl:t=h:=ac;rw[Nat.sub_self]at b;exact pw [5] [hb 33 (dv c),SF 40 1 [2] 0 t h0,wG (A:=[aN []]) [2,0] (aA k) 1 [aA k] b,bh 143 k]
def aj9(O:yd h s)(c:k<w)(g:h<=9000)(e:w<=9000)(h0:0<h)(b:ag ab G 138 [aN (aY (h-0) λ i=>aY w λ j=>f (s (0+i)*w+j)),.fn (.func 153) [] [.cr [aA k] 0]] (.int .i64 (-1))):la ab G nF kQ (b6 9) 4 .normal (jN M h w k) (pq h w f s d) (jN M h w (k+1)) (pq h w f s d):=pw [5] [hb 33 (dv c),wz 40 1 [2] 0 h 0 false,uC G O (dL _) rfl b,bh 143 k]
end
section
open Go.ay Go.ay.eU Go.Proofs Go.Lib
structure PY(K:bY)(q n:Nat)(S:pU)(f:Nat->aj):Prop where
 O:yd S.h S.s
 hf:∀p,(f p).G K n
 hk:S.k<S.w
 ht:S.t<S.h
 cx:S.w<=9000
 gN:S.h<=9000
 hz:(f (S.s S.t*S.w+S.k)).bD=false
 b1:bm K q n
 b2:bm K q (24*n+42*K.c)b3:bm K q (n+(24*n+42*K.c)+K.c)
noncomputable abbrev pU.y(S:pU)(f:Nat->aj):aj:=f (S.s S.t*S.w+S.k)
noncomputable abbrev pU.f1(S:pU)(f:Nat->aj):Nat->aj:=qX f (S.s S.t*S.w) S.k S.w (S.y f)
noncomputable abbrev pU.f2(S:pU)(f:Nat->aj):Nat->aj:=eI (S.f1 f) S.s S.w S.t S.k S.h
variable(G:Nat->Option (List aa)){K:bY}{q e r:Nat}(F:dN K q e r){n:Nat}{S:pU}{f:Nat->aj}(H:PY K q n S f)(d:aj)(l:List aa)[bq l]
include H
omit [bq l]in theorem RW(a:Nat)(ha:a<S.h)(j:Nat)(hj:j<S.w):S.f1 f (S.s a*S.w+j)=if a=S.t/\S.k<=j then(f (S.s S.t*S.w+j)).div (S.y f)else f (S.s a*S.w+j):=by
 unfold pU.f1 qX;by_cases e:a=S.t
 . subst e;by_cases uF:S.k<=j;.rw[if_pos ⟨ac,ac⟩,if_pos ⟨rfl,uF⟩]
   .rw[if_neg ac,if_neg ac]
 .rw[if_neg (fun q=>e (H.O.2 _ ha _ H.ht (M7 hj ac q.2))),if_neg (fun q=>e q.1)]
omit [bq l]in theorem RV(p:Nat):(S.f1 f p).G K (24*n+42*K.c):=by
 unfold pU.f1 qX;split;.exact((H.hf p).div (H.hf _)).mono ac
 .exact(H.hf p).mono ac
include F
noncomputable def Ww(a:Nat)(h0:pn ((tR 0 8).map (c4 [[1],[2],[2,0],[a,0],[3],[4],[5]]))=true:=by kernel_rfl):aR ab G:=have b:S.k+(S.w-S.k)=S.w:=by have:=H.hk;omega
 kN (ak 110) 1 0 (S.w-S.k) (c4 [[1],[2],[2,0],[a,0],[3],[4],[5]]) (λ i q=>(12,aA (S.k+i))::(11,.ref (q 3) 0 0)::jX S q) (λ i q=>nv S (qX f (S.s S.t*S.w) S.k (S.k+i) (S.y f)) (S.y f) d l q) (.exit 2) (jX S) (λ q=>nv S (S.f1 f) (S.y f) d l q) (λ i g=>Wy G F l H.hf (H.hf _) H.hz H.b1 (by have:=H.b2;omega) H.ht (H.O.1 _ H.ht) H.cx i ac true) (by have x:=RU G l (f:=S.f1 f) (y:=S.y f) (d:=d) b H.ht true;rw[b]at x⊢;exact x) (t0:=(12,aA S.k)::(11,.ref [a,0] 0 0)::jX S (c4 [[1],[2],[2,0],[a,0],[3],[4],[5]])) (k0:=nv S f (S.y f) d l (c4 [[1],[2],[2,0],[a,0],[3],[4],[5]])) rfl (by simp only[ij,Wz]) (h0:=h0) (hN:=by have:=H.cx;omega)
noncomputable def QU(b:Nat)(h0:pn ((tR 0 8).map (c4 [[1],[2],[2,0],[b,0],[3],[4],[5]]))=true:=by kernel_rfl):aR ab G:=kN (ak 110) 2 1 S.h (c4 [[1],[2],[2,0],[b,0],[3],[4],[5]]) (λ i q=>(110,aA i)::(108,.ai (q 1) 1 0 S.h false)::(109,aA S.h)::jX S q) (λ i q=>nv S (eI (S.f1 f) S.s S.w S.t S.k i) (S.y f) d l q) (.exit 4) (jX S) (λ q=>nv S (S.f2 f) (S.y f) d l q) (λ i o=>QW G F l H.O H.ht H.hk H.cx H.gN (λ a p c j m=>by rw[RW H a p j m,if_neg (λ q=>c q.1)];exact H.hf _) (λ j _=>RV H _) H.b1 H.b2 H.b3 i o true) (QT G l true) (t0:=(110,aA 0)::(108,.ai [2] 1 0 S.h false)::(109,aA S.h)::jX S (c4 [[1],[2],[2,0],[b,0],[3],[4],[5]])) (k0:=nv S (S.f1 f) (S.y f) d l (c4 [[1],[2],[2,0],[b,0],[3],[4],[5]])) rfl rfl (h0:=h0) (hN:=by have:=H.gN;omega)
noncomputable def Wx(a:Nat)(h0:pn ((tR 0 8).map (c4 [[1],[2],[2,0],[a,0],[3],[4],[5]]))=true:=by kernel_rfl):aR ab G:=have b:S.k+(S.w-S.k)=S.w:=by have:=H.hk;omega
 kN (ak 110) 1 0 (S.w-S.k) (c4 [[1],[2],[2,0],[a,0],[3],[4],[5]]) (λ i q=>(12,aA (S.k+i))::(11,.ref (q 3) 0 0)::jX S q) (λ i q=>nu S (qX f (S.s S.t*S.w) S.k (S.k+i) (S.y f)) (S.y f) d q) (.exit 2) (jX S) (λ q=>nu S (S.f1 f) (S.y f) d q) (λ i g=>Wy G F l H.hf (H.hf _) H.hz H.b1 (by have:=H.b2;omega) H.ht (H.O.1 _ H.ht) H.cx i ac false) (by have x:=RU G l (f:=S.f1 f) (y:=S.y f) (d:=d) b H.ht false;rw[b]at x⊢;exact x) (t0:=(12,aA S.k)::(11,.ref [a,0] 0 0)::jX S (c4 [[1],[2],[2,0],[a,0],[3],[4],[5]])) (k0:=nu S f (S.y f) d (c4 [[1],[2],[2,0],[a,0],[3],[4],[5]])) rfl (by simp only[ij,Wz]) (h0:=h0) (hN:=by have:=H.cx;omega)
noncomputable def QV(b:Nat)(h0:pn ((tR 0 8).map (c4 [[1],[2],[2,0],[b,0],[3],[4],[5]]))=true:=by kernel_rfl):aR ab G:=kN (ak 110) 2 1 S.h (c4 [[1],[2],[2,0],[b,0],[3],[4],[5]]) (λ i q=>(110,aA i)::(108,.ai (q 1) 1 0 S.h false)::(109,aA S.h)::jX S q) (λ i q=>nu S (eI (S.f1 f) S.s S.w S.t S.k i) (S.y f) d q) (.exit 4) (jX S) (λ q=>nu S (S.f2 f) (S.y f) d q) (λ i o=>QW G F l H.O H.ht H.hk H.cx H.gN (λ a p c j m=>by rw[RW H a p j m,if_neg (λ q=>c q.1)];exact H.hf _) (λ j _=>RV H _) H.b1 H.b2 H.b3 i o false) (QT G l false) (t0:=(110,aA 0)::(108,.ai [2] 1 0 S.h false)::(109,aA S.h)::jX S (c4 [[1],[2],[2,0],[b,0],[3],[4],[5]])) (k0:=nu S (S.f1 f) (S.y f) d (c4 [[1],[2],[2,0],[b,0],[3],[4],[5]])) rfl rfl (h0:=h0) (hN:=by have:=H.gN;omega)
omit [bq l]in theorem aj3{M:List (List aj)}{nd p:Nat}(aX:S.M=M)(hd:d.G K nd)(sN:bm K q nd)(s:Nat->Nat)(O:yd S.h s)(afY:S.t<p)(hp:p<S.h)(es:S.s=fC s S.t p)[dw 1 l][bq l](hl:l.length=S.t)(hz:ag ab G 138 [aN (aY (S.h-S.t) fun i=>aY S.w fun j=>f (s (S.t+i)*S.w+j)),.fn (.func 153) [] [.cr [aA S.k] 0]] (.int .i64 ((p-S.t:Nat):Int))):la ab G nF kQ (b6 9) 4 .normal (jN M S.h S.w S.k) (ou S.h S.w f s d S.t l) (jN M S.h S.w (S.k+1)) (ou S.h S.w (S.f2 f) S.s (d.neg.mul (S.y f)) (S.t+1) (l++[aA S.k])):=by
 have gN:=H.gN;have cx:=H.cx;have ME:=Mz G F hd sN;have c1:=yB G F hd.neg (H.hf (S.s S.t*S.w+S.k)) sN H.b1;have DB:cO.wrap ((S.t:Int)+((p-S.t:Nat):Int))=(p:Int):=by rw[cU];omega
 have pl:S.s S.t*S.w+S.w<=S.h*S.w:=by have:=ck S.w (show S.s S.t+1<=S.h from H.O.1 _ H.ht);rw[fU]at this;exact this
 have hk:=H.hk;have ht:=H.ht;subst aX;exact pw [2000000000000000000000004,0] [hb 33 (dv hk),wz 40 1 [2] 0 S.h S.t false,uC G O (hH ht) (cF S.t) hz,hb 44 (show decide (((p-S.t:Nat):Int)<0)=false from decide_eq_false ac),hb 46 (show decide ((0:Int)<((p-S.t:Nat):Int))=true from decide_eq_true ac),hw 52 DB,hw 56 DB,cy 57 1 [2] false S.h p,fx 58 1 false [2] 1 S.h (dr [1] S.w) s p (dr [1] S.w (s p)),cy 61 1 [2] false S.h S.t,fx 62 1 false [2] 1 S.h (dr [1] S.w) s S.t (dr [1] S.w (s S.t)),cy 63 1 [2] false S.h S.t,kM 63 1 [2] 1 S.h (dr [1] S.w) s (fun i=>if i=S.t then s p else s i) S.t (s p) (fun _ _=>rfl) rfl,cy 64 1 [2] false S.h p,kM 64 1 [2] 1 S.h (dr [1] S.w) (fun i=>if i=S.t then s p else s i) S.s p (s S.t) (fun i _=>by rw[es];exact Xp i) rfl,hc ME,cy 71 1 [2] false S.h S.t,fx 72 1 false [2] 1 S.h (dr [1] S.w) S.s S.t (dr [1] S.w (S.s S.t)),nA 74 2 [1] (S.s S.t*S.w) S.w S.k true,fx 75 2 true [1] 2 (S.h*S.w) aO f (S.s S.t*S.w+S.k) (S.y f).T,hc c1,Ww G F H (d.neg.mul (S.y f)) l 50,QU G F H (d.neg.mul (S.y f)) l 50,Sy G 141 [5] [2000000000000000000000003,0] l S.t (aA S.k) hl ac,bh 143 S.k] an
omit [bq l]in theorem aj5{M:List (List aj)}{nd:Nat}(aX:S.M=M)(hd:d.G K nd)(sN:bm K q nd)[dw 1 l][bq l](hl:l.length=S.t)(hz:ag ab G 138 [aN (aY (S.h-S.t) fun i=>aY S.w fun j=>f (S.s (S.t+i)*S.w+j)),.fn (.func 153) [] [.cr [aA S.k] 0]] (aA 0)):la ab G nF kQ (b6 9) 4 .normal (jN M S.h S.w S.k) (ou S.h S.w f S.s d S.t l) (jN M S.h S.w (S.k+1)) (ou S.h S.w (S.f2 f) S.s (d.mul (S.y f)) (S.t+1) (l++[aA S.k])):=by
 have gN:=H.gN;have cx:=H.cx;have c1:=yB G F hd (H.hf (S.s S.t*S.w+S.k)) sN H.b1;have pl:S.s S.t*S.w+S.w<=S.h*S.w:=by have:=ck S.w (show S.s S.t+1<=S.h from H.O.1 _ H.ht);rw[fU]at this;exact this
 have hk:=H.hk;have ht:=H.ht;subst aX;exact pw [2000000000000000000000004,0] [hb 33 (dv hk),wz 40 1 [2] 0 S.h S.t false,uC G H.O (hH ht) (cF S.t) hz,cy 71 1 [2] false S.h S.t,fx 72 1 false [2] 1 S.h (dr [1] S.w) S.s S.t (dr [1] S.w (S.s S.t)),nA 74 2 [1] (S.s S.t*S.w) S.w S.k true,fx 75 2 true [1] 2 (S.h*S.w) aO f (S.s S.t*S.w+S.k) (S.y f).T,hc c1,Ww G F H (d.mul (S.y f)) l 25,QU G F H (d.mul (S.y f)) l 25,Sy G 141 [5] [2000000000000000000000003,0] l S.t (aA S.k) hl ac,bh 143 S.k] an
omit [bq l]in theorem aj4{M:List (List aj)}{nd p:Nat}(aX:S.M=M)(hd:d.G K nd)(sN:bm K q nd)(s:Nat->Nat)(O:yd S.h s)(afY:S.t<p)(hp:p<S.h)(es:S.s=fC s S.t p)(h0:S.t=0)(hz:ag ab G 138 [aN (aY (S.h-S.t) fun i=>aY S.w fun j=>f (s (S.t+i)*S.w+j)),.fn (.func 153) [] [.cr [aA S.k] 0]] (.int .i64 ((p-S.t:Nat):Int))):la ab G nF kQ (b6 9) 4 .normal (jN M S.h S.w S.k) (pq S.h S.w f s d) (jN M S.h S.w (S.k+1)) (ou S.h S.w (S.f2 f) S.s (d.neg.mul (S.y f)) 1 [aA S.k]):=by
 have gN:=H.gN;have cx:=H.cx;have ME:=Mz G F hd sN;have c1:=yB G F hd.neg (H.hf (S.s S.t*S.w+S.k)) sN H.b1;have DB:cO.wrap ((S.t:Int)+((p-S.t:Nat):Int))=(p:Int):=by rw[cU];omega
 have pl:S.s S.t*S.w+S.w<=S.h*S.w:=by have:=ck S.w (show S.s S.t+1<=S.h from H.O.1 _ H.ht);rw[fU]at this;exact this
 have hk:=H.hk;have ht:=H.ht;subst aX;exact pw [2000000000000000000000004,0] [hb 33 (dv hk),hw 37 (show(0:Int)=(S.t:Int)by rw[h0];rfl),wz 40 1 [2] 0 S.h S.t false,uC G O (hH ht) (cF S.t) hz,hb 44 (show decide (((p-S.t:Nat):Int)<0)=false from decide_eq_false ac),hb 46 (show decide ((0:Int)<((p-S.t:Nat):Int))=true from decide_eq_true ac),hw 52 DB,hw 56 DB,cy 57 1 [2] false S.h p,fx 58 1 false [2] 1 S.h (dr [1] S.w) s p (dr [1] S.w (s p)),cy 61 1 [2] false S.h S.t,fx 62 1 false [2] 1 S.h (dr [1] S.w) s S.t (dr [1] S.w (s S.t)),cy 63 1 [2] false S.h S.t,kM 63 1 [2] 1 S.h (dr [1] S.w) s (fun i=>if i=S.t then s p else s i) S.t (s p) (fun _ _=>rfl) rfl,cy 64 1 [2] false S.h p,kM 64 1 [2] 1 S.h (dr [1] S.w) (fun i=>if i=S.t then s p else s i) S.s p (s S.t) (fun i _=>by rw[es];exact Xp i) rfl,hc ME,cy 71 1 [2] false S.h S.t,fx 72 1 false [2] 1 S.h (dr [1] S.w) S.s S.t (dr [1] S.w (S.s S.t)),nA 74 2 [1] (S.s S.t*S.w) S.w S.k true,fx 75 2 true [1] 2 (S.h*S.w) aO f (S.s S.t*S.w+S.k) (S.y f).T,hc c1,Wx G F H (d.neg.mul (S.y f)) [] 50,QV G F H (d.neg.mul (S.y f)) [] 50,bh 143 S.k] an
omit [bq l]in theorem aj6{M:List (List aj)}{nd:Nat}(aX:S.M=M)(hd:d.G K nd)(sN:bm K q nd)(h0:S.t=0)(hz:ag ab G 138 [aN (aY (S.h-S.t) fun i=>aY S.w fun j=>f (S.s (S.t+i)*S.w+j)),.fn (.func 153) [] [.cr [aA S.k] 0]] (aA 0)):la ab G nF kQ (b6 9) 4 .normal (jN M S.h S.w S.k) (pq S.h S.w f S.s d) (jN M S.h S.w (S.k+1)) (ou S.h S.w (S.f2 f) S.s (d.mul (S.y f)) 1 [aA S.k]):=by
 have gN:=H.gN;have cx:=H.cx;have c1:=yB G F hd (H.hf (S.s S.t*S.w+S.k)) sN H.b1;have pl:S.s S.t*S.w+S.w<=S.h*S.w:=by have:=ck S.w (show S.s S.t+1<=S.h from H.O.1 _ H.ht);rw[fU]at this;exact this
 have hk:=H.hk;have ht:=H.ht;subst aX;exact pw [2000000000000000000000004,0] [hb 33 (dv hk),hw 37 (show(0:Int)=(S.t:Int)by rw[h0];rfl),wz 40 1 [2] 0 S.h S.t false,uC G H.O (hH ht) (cF S.t) hz,cy 71 1 [2] false S.h S.t,fx 72 1 false [2] 1 S.h (dr [1] S.w) S.s S.t (dr [1] S.w (S.s S.t)),nA 74 2 [1] (S.s S.t*S.w) S.w S.k true,fx 75 2 true [1] 2 (S.h*S.w) aO f (S.s S.t*S.w+S.k) (S.y f).T,hc c1,Wx G F H (d.mul (S.y f)) [] 25,QV G F H (d.mul (S.y f)) [] 25,bh 143 S.k] an
end
section
open Go.ay Go.ay.eU Go.Proofs Go.Lib
def anJ(s:Nat->Nat)(t:Nat):fC s t t=s:=by funext i;unfold fC;split<;>simp_all
noncomputable def rX(h w:Nat)(x:jB)(q:a7):List (bt×aG):=if x.pv=[]then pq h w x.f x.s x.dV q else ou h w x.f x.s x.dV x.pv.length (x.pv.map aA) q
def CJ{h w:Nat}{x:jB}(e:x.pv=[]):rX h w x=pq h w x.f x.s x.dV:=by funext q;exact if_pos e
def CI{h w:Nat}{x:jB}(e:x.pv≠[]):rX h w x=ou h w x.f x.s x.dV x.pv.length (x.pv.map aA):=by funext q;exact if_neg e
instance{l:List Nat}:dw 1 (l.map aA):=⟨λ c hc=>by obtain⟨x,_,rfl⟩:=bp.1 hc;infer_instance⟩
variable(G:Nat->Option (List aa)){K:bY}{q e r:Nat}(F:dN K q e r){n w h j:Nat}{V:ee}(M:List (List aj))
include F
def aj7(qc:nj w V)(hl:V.length=h)(gN:h<=90)(cx:w<=90)(h0:0<h)(Y:h<=j\/w<=j)(B:bm K q (grow K j n)){x:jB}{k:Nat}(I:vR K n w h V k x)(u:k<w)(art:x.pv.length<=k):la ab G nF kQ (b6 9) 4 .normal (jN M h w k) (rX h w x) (jN M h w (k+1)) (rX h w (zG w h x k)):=by
 have E:=BB qc k ac;rw[hl,<-I.pv]at E;have ht:=E.qq;have O:=I.own;have X:=I.g;have U:∀i,i<=j->grow K i n<=grow K j n:=λ i m=>n9 m;have el:=λ i m=>Nt (x:=x) (w:=w) (h:=h) (i:=i) (j:=k) m u;have C:(x.rows w h).length=h:=kv;have ge:=zH (x.rows w h) x.pv.length k;have rg:∀i(m:i<(aY (h-x.pv.length) λ i=>aY w λ j=>x.f (x.s (x.pv.length+i)*w+j)).length),(aY (h-x.pv.length) λ i=>aY w λ j=>x.f (x.s (x.pv.length+i)*w+j))[i]=aY w λ j=>x.f (x.s (x.pv.length+i)*w+j):=λ i m=>by simp[aY]
 have Z:∀i,(aY w λ j=>x.f (x.s (x.pv.length+i)*w+j)).getD k (aS 0)=x.f (x.s (x.pv.length+i)*w+k):=λ i=>by rw[a4 (by rw[gg];exact u)];simp[aY]
 have look:bm K q (grow K x.pv.length n)->∀i(m:i<(aY (h-x.pv.length) λ i=>aY w λ j=>x.f (x.s (x.pv.length+i)*w+j)).length),ag ab G 153 [ar (aY (h-x.pv.length) λ i=>aY w λ j=>x.f (x.s (x.pv.length+i)*w+j))[i],.cr [aA k] 0] (.bool (!(x.f (x.s (x.pv.length+i)*w+k)).bD)):=λ kn i m=>by have:=adx G F (a:=aY w λ j=>x.f (x.s (x.pv.length+i)*w+j)) (n:=grow K x.pv.length n) (λ y hy=>by obtain⟨j,_,rfl⟩:=bp.1 hy;exact X _) (k:=k) (by rw[gg];exact u) kn;rw[Z]at this;rw[rg i m];exact this
 have anO:x.pv.length<=j:=by rcases Y with h|h<;>omega
 have D:bm K q (grow K x.pv.length n):=by have:=U _ anO;omega
 by_cases t:e8 (x.rows w h) x.pv.length k<h;have P:(x.f (x.s (e8 (x.rows w h) x.pv.length k)*w+k)).bD=false:=by rw[<-el _ t,a4 (l:=x.rows w h) (by rw[C];exact t)];exact M4 (by rw[C];exact t)
 have N:∀i,x.pv.length<=i->i<e8 (x.rows w h) x.pv.length k->(x.f (x.s i*w+k)).bD=true:=λ i h1 h2=>by rw[<-el i ac,a4 (l:=x.rows w h) (by rw[C];omega)];exact M5 h1 h2 (by rw[C];omega)
 rw[show zG w h x k=tn w h k x x.pv.length (e8 (x.rows w h) x.pv.length k)from if_pos t];generalize e8 (x.rows w h) x.pv.length k=p at*;have z:x.pv.length<h:=ac;have S:x.pv.length+1<=j:=by rcases Y with h|h<;>omega
 have g1:=U _ S;have g2:grow K (x.pv.length+1) n=26*grow K x.pv.length n+43*K.c+1:=rfl;have L:=D;have T:=P;have st:fC x.s x.pv.length p x.pv.length=x.s p:=Xq _ _;have H:PY K q (grow K x.pv.length n) ⟨M,w,h,k,x.pv.length,fC x.s x.pv.length p⟩ x.f:=⟨O.Xo z t,X,u,z,by show w<=9000;omega,by show h<=9000;omega,by show(x.f (fC x.s x.pv.length p x.pv.length*w+k)).bD=false;rw[st];exact T,D,ac,ac⟩;have o:=agP G (p:=λ i=>!(x.f (x.s (x.pv.length+i)*w+k)).bD) (by rw[gg];omega) (look D) (i:=p-x.pv.length) (by rw[gg];omega) (by simp only[show x.pv.length+(p-x.pv.length)=p from ac,T];rfl) λ i m=>by simp only[N (x.pv.length+i) ac ac];rfl
 have ne:(tn w h k x x.pv.length p).pv≠[]:=by show x.pv++[k]≠[];simp
 rw[CI ne,show(tn w h k x x.pv.length p).pv.length=x.pv.length+1 by show(x.pv++[k]).length=_;simp,show(tn w h k x x.pv.length p).pv.map aA=x.pv.map aA++[aA k]by show(x.pv++[k]).map aA=_;simp];have ed:(tn w h k x x.pv.length p).dV=(if x.pv.length<p then x.dV.neg else x.dV).mul (x.f (fC x.s x.pv.length p x.pv.length*w+k)):=rfl;rw[ed];by_cases J:x.pv.length<p;rw[if_pos J];by_cases e:x.pv=[];rw[CJ e];have:=aj4 G F H x.dV (nd:=grow K x.pv.length n) rfl I.d L x.s O J t rfl (by show x.pv.length=0;rw[e];rfl) o;have A:x.pv.length+1=1:=by rw[e];rfl
 have Q:x.pv.map aA++[aA k]=[aA k]:=by rw[e];rfl
 rw[A,Q];exact this;rw[CI e];exact aj3 G F H x.dV (x.pv.map aA) (nd:=grow K x.pv.length n) rfl I.d L x.s O J t rfl (by rw[aQ]) o;obtain rfl:p=x.pv.length:=ac;rw[if_neg J];have b:=anJ x.s x.pv.length;simp only[Nat.sub_self]at o;by_cases e:x.pv=[];rw[CJ e];have:=aj6 G F H x.dV (nd:=grow K x.pv.length n) rfl I.d L (by show x.pv.length=0;rw[e];rfl) (by show ag _ _ _ [aN (aY _ λ i=>aY _ λ j=>x.f (fC x.s _ _ _*w+j)),_] _;rw[b];exact o);have A:x.pv.length+1=1:=by rw[e];rfl
 have Q:x.pv.map aA++[aA k]=[aA k]:=by rw[e];rfl
 rw[A,Q];simp only[b]at this⊢;unfold tn mQ;simp only[b];exact this;rw[CI e];have:=aj5 G F H x.dV (x.pv.map aA) (nd:=grow K x.pv.length n) rfl I.d L (by rw[aQ]) (by show ag _ _ _ [aN (aY _ λ i=>aY _ λ j=>x.f (fC x.s _ _ _*w+j)),_] _;rw[b];exact o);simp only[b]at this⊢;unfold tn mQ;simp only[b];exact this;rw[show zG w h x k=x from if_neg t];have o:=agO G (p:=λ i=>!(x.f (x.s (x.pv.length+i)*w+k)).bD) (by rw[gg];omega) (look D) λ i m=>by rw[gg]at m;have:=M5 (R:=x.rows w h) (top:=x.pv.length) (k:=k) (j:=x.pv.length+i) ac ac (by rw[C];omega);rw[<-a4 (d:=[]),el _ ac]at this;simp only[this];rfl
 by_cases e:x.pv=[];rw[CJ e];have A:x.pv.length=0:=by rw[e];rfl
 simp only[A]at o;exact aj9 G O u ac ac h0 o;rw[CI e];exact aj8 G O u ac ac ht h0 o
end
section
open Go.ay Go.ay.eU Go.Proofs Go.Lib
abbrev jF:Nat:=1000000000000000000000000000000000000000000000000
def Sg{G:Nat->Option (List aa)}{c:cw}{n n0 so kk:Nat}{i:bt}{el:aa}{cs:List aa}{T:List (Nat×aa)}{K:List (bt×aG)}{Q:cf->du->Prop}[f:bq cs](hc:el.cells=cs)(g:∀x∈K,x.1≠i/\∀e∈x.2.els,e.size=x.2.k)(h:bo ab G [0] (.loop c) Q ⟨fr n ((so,.cr cs 0)::T),bU K,n0⟩):bo ab G [0] (.loop c) Q ⟨fr n ((so,.ref i 0 0)::T),bU ((i,⟨[el],kk,false⟩)::K),n0⟩:=by subst hc;refine bo.j9 (bP.l1 [(i,⟨[el],kk,false⟩)] (λ y d=>by rw[cq.1 d];simp[bU]) (vg T (qG so (lM _ _) (gZ.view (View.ref (aq:=⟨[el],kk,false⟩) (by simp[bU]) rfl (my f.pure))))) (λ j=>?_) (a2 _)) h;cases e:bU K j with|none=>exact .inl rfl|some b=>have⟨h1,h2⟩:=g _ (pg e);refine .inr ⟨b,b,?_,rfl,vJ.same (λ y d=>by rw[cq.1 d];exact Ne.symm h1) h2⟩;show hJ _ _=_;rw[mr,lg h1];exact e
variable(G:Nat->Option (List aa)){K:bY}{q e r:Nat}(F:dN K q e r){n w j:Nat}(M:List (List aj))
noncomputable def c7(M:List (List aj)):jB:=qo (eJ M) M.length (pt M) (eJ M)
def CL(a:bj K n w M):∀k,k<=w->vR K n w M.length (bR M) k (qo w M.length (pt M) k)|0,_=>akH a|k+1,b=>(CL a k ac).step (IE a) (nM M) ac
def akJ(a:bj K n w M){k:Nat}(c:k<=w)(b:M≠[]):(qo w M.length (pt M) k).pv.length<=k:=by rw[(CL M a k c).pv,fold_eq a k (by rw[gj a b];exact c)];exact(CZ a rfl k).le
abbrev zN:a7:=c4 [[2000000,4,3,0],[14,3,0],[17,0],[0,0],[4]]
abbrev VL:a7:=eN zN 4 [jF,0]
include F
def aka(g:bj K n w M)(f:M≠[])(h0:0<w)(o:M.length<=90)(k:w<=90)(l:M.length<=j\/w<=j)(B:bm K q (grow K j n))(cm:a7->List (bt×aG)){b:Nat}[gh 0 b cm](u:b<=8)(t:rX M.length w (qo w M.length (pt M) w)=cm)(v:la ab G nF kQ (b6 9) 4 (.exit 0) (jN M M.length w w) cm (λ q=>[(2,.ref (q 3) 0 0),(6,fM),(7,.ref (q 2) 0 0)]) cm):bo ab G [0] (.loop nF) (λ h s'=>h=.exit 0/\bP G [0] s' ⟨fr kQ [(2,.ref [0,0] 0 0),(6,fM),(7,.ref [17,0] 0 0)],eP.to (b5 (cm VL)),jF+1⟩) ⟨fr kQ (jN M M.length w 0 zN),bU (pq M.length w (lA M) (λ i=>i) (aS 1) zN),ej 0⟩:=by have s:0<M.length:=iy.2 f;have:=ah2 (P:=ab) (G:=G) (c:=nF) (n:=kQ) (N:=w) (w:=b6 9) (n0:=ej 0) (E:=jF) (d:=4) (e:=.exit 0) (q:=zN) (T:=λ i=>jN M M.length w i) (K:=λ i=>rX M.length w (qo w M.length (pt M) i)) (c5:=λ q=>[(2,.ref (q 3) 0 0),(6,fM),(7,.ref (q 2) 0 0)]) (cm:=cm) u (jl.start an al) (λ i p=>aj7 G F M (IE g) (nM M) o k s l B (CL M g i ac) p (akJ M g ac f)) (by rw[t];exact v) am (by unfold ej b6 jF;omega);have m:rX M.length w (qo w M.length (pt M) 0)=pq M.length w (lA M) (λ i=>i) (aS 1):=CJ (x:=pt M) rfl;simp only[m]at this;exact this
noncomputable def SB(l:bj K n w M)(f:M≠[])(h0:0<w)(k:M.length<=90)(g:w<=90)(h:M.length<=j\/w<=j)(B:bm K q (grow K j n))(cm:a7->List (bt×aG)){b:Nat}[gh 0 b cm](m:b<=8)(o:rX M.length w (qo w M.length (pt M) w)=cm)(a:la ab G nF kQ (b6 9) 4 (.exit 0) (jN M M.length w w) cm (λ q=>[(2,.ref (q 3) 0 0),(6,fM),(7,.ref (q 2) 0 0)]) cm):aR ab G:=.h9 [0] nF (fr kQ ((6,.ref [12,0] 0 0)::[(0,aN M),(2,.ref [0,0] 0 0),(4,.ai [14,3,0] 1 0 M.length false),(7,.ref [17,0] 0 0),(31,aA w),(32,aA 0)])) (([12,0],⟨[.agg [.int .i64 0]],1,false⟩)::pq M.length w (lA M) (λ i=>i) (aS 1) zN) (ej 0) (.exit 0) (fr kQ [(2,.ref [0,0] 0 0),(6,fM),(7,.ref [17,0] 0 0)]) (b5 (cm VL)) (jF+1) (by refine Sg (cs:=[.int .i64 0]) rfl (λ x c=>?_) (by have:=aka G F M l f h0 k g h B cm m o a;rw[show fr kQ ((6,.cr [.int .i64 0] 0)::[(0,aN M),(2,.ref [0,0] 0 0),(4,.ai [14,3,0] 1 0 M.length false),(7,.ref [17,0] 0 0),(31,aA w),(32,aA 0)])=fr kQ (jN M M.length w 0 zN)from an];exact this);rcases ct.1 c with rfl|c;exact⟨by show([2000000,4,3,0]:List Nat)≠[12,0];decide,λ e a=>by obtain⟨y,_,rfl⟩:=bp.1 a;exact cT.size⟩;rcases ct.1 c with rfl|c;exact⟨by show([14,3,0]:List Nat)≠[12,0];decide,λ e a=>by obtain⟨y,_,rfl⟩:=bp.1 a;rfl⟩;rcases ct.1 c with rfl|c;exact⟨by show([17,0]:List Nat)≠[12,0];decide,λ e a=>by rw[cq.1 a];rfl⟩;obtain rfl:=cq.1 c;exact⟨by show([0,0]:List Nat)≠[12,0];decide,λ e a=>by rw[cq.1 a];rfl⟩)
def Hj(k:bj K n w M)(b:M≠[])(h0:0<w)(o:M.length<=90)(m:w<=90)(z:M.length<=j\/w<=j)(B:bm K q (grow K j n)):ag ab G 110 [aN M] (.aJ [.agg [aN ((c7 M).rows w M.length),bW (c7 M).pv,aT (c7 M).dV.2.T.2.aw,aF (c7 M).dV.2.a],.int .i64 0]):=by
 have g:=gj k b;have bs:grow K 0 n<=grow K j n:=n9 (dL _);have C:grow K 0 n=n:=rfl;have y:=λ p=>aiY G F k h0 b o m ac p;have cs:=wY G b;rw[g]at cs;have u:c7 M=qo w M.length (pt M) w:=by unfold c7;rw[g]
 have I:=CL M k w (a2 _);rw[<-u]at I;have hw:=λ i(H:i<M.length)=>(by have:=ck w (show(c7 M).s i+1<=M.length from I.own.1 i H);rw[fU]at this;exact this:(c7 M).s i*w+w<=M.length*w);have hv:∀(σ:aL)(x:jB),(∀i,i<M.length->x.s i*w+w<=M.length*w)->σ [2000000,4,3,0]=some ⟨(aY (M.length*w) x.f).map aO,2,false⟩->σ [14,3,0]=some ⟨(aY M.length x.s).map (dr [2000000,4,3,0] w),1,false⟩->∀p,View σ p (bW x.pv)->View σ (.aJ [.agg [.ai [14,3,0] 1 0 M.length false,p,aT x.dV.2.T.2.aw,aF x.dV.2.a],.int .i64 0]) (.aJ [.agg [aN (x.rows w M.length),bW x.pv,aT x.dV.2.T.2.aw,aF x.dV.2.a],.int .i64 0]):=λ σ x A h1 h2 p D=>by have:=Yf (a:=0) (n:=M.length) (t:=false) h1 h2 ac A;simp only[cF]at this;exact lN (bZ (View.agg (bZ this (bZ D (my λ c hc=>by rcases ct.1 hc with rfl|hc;exact bg.pure;rw[cq.1 hc];exact bg.pure)))) (bZ (fk (JO _ _)) eT))
 by_cases e:(c7 M).pv=[];have v:rX M.length w (qo w M.length (pt M) w)=pq M.length w (c7 M).f (c7 M).s (c7 M).dV:=by rw[<-u];exact CJ e
 have l:la ab G nF kQ (b6 9) 4 (.exit 0) (jN M M.length w w) (pq M.length w (c7 M).f (c7 M).s (c7 M).dV) (λ q=>[(2,.ref (q 3) 0 0),(6,fM),(7,.ref (q 2) 0 0)]) (pq M.length w (c7 M).f (c7 M).s (c7 M).dV):=pw [5] [hb 33 (h7 (a2 w))];generalize E:c7 M=x at*;exact ye hN [cL y,hc (w4 G),hc cs,SB G F M k b h0 o m z B _ al v l] [([2000000,4,3,0],⟨(aY (M.length*w) x.f).map aO,2,false⟩),([14,3,0],⟨(aY M.length x.s).map (dr [2000000,4,3,0] w),1,false⟩)] (.aJ [.agg [.ai [14,3,0] 1 0 M.length false,.aH,aT x.dV.2.T.2.aw,aF x.dV.2.a],.int .i64 0]) an (by show [(_,aG.mk (br _ _) 2 false),(_,aG.mk (br _ _) 1 false)]=_;rw[bq.fix,fS,jf];rfl) (by show aa.aJ [.agg [_,_,aa.aU _ (aT _),aa.aU _ (aF _)],_]=_;rw[bg.fix (c:=aT x.dV.2.T.2.aw),bg.fix (c:=aF x.dV.2.a)];rfl) am (λ σ h=>hv σ x hw (h _ cp) (h _ (cR _ cp)) .aH (by rw[e];exact View.aH 1));have v:rX M.length w (qo w M.length (pt M) w)=ou M.length w (c7 M).f (c7 M).s (c7 M).dV (c7 M).pv.length ((c7 M).pv.map aA):=by rw[<-u];exact CI e
 have l:la ab G nF kQ (b6 9) 4 (.exit 0) (jN M M.length w w) (ou M.length w (c7 M).f (c7 M).s (c7 M).dV (c7 M).pv.length ((c7 M).pv.map aA)) (λ q=>[(2,.ref (q 3) 0 0),(6,fM),(7,.ref (q 2) 0 0)]) (ou M.length w (c7 M).f (c7 M).s (c7 M).dV (c7 M).pv.length ((c7 M).pv.map aA)):=pw [5] [hb 33 (h7 (a2 w))];generalize E:c7 M=x at*;exact ye hN [cL y,hc (w4 G),hc cs,SB G F M k b h0 o m z B _ al v l] [([2000000,4,3,0],⟨(aY (M.length*w) x.f).map aO,2,false⟩),([14,3,0],⟨(aY M.length x.s).map (dr [2000000,4,3,0] w),1,false⟩),([jF,0],⟨x.pv.map aA,1,false⟩)] (.aJ [.agg [.ai [14,3,0] 1 0 M.length false,.ai [jF,0] 1 0 x.pv.length false,aT x.dV.2.T.2.aw,aF x.dV.2.a],.int .i64 0]) an (by show [(_,aG.mk (br _ _) 2 false),(_,aG.mk (br _ _) 1 false),(_,aG.mk (br _ _) 1 false)]=_;rw[bq.fix,fS,jf,bq.fix];rfl) (by show aa.aJ [.agg [_,_,aa.aU _ (aT _),aa.aU _ (aF _)],_]=_;rw[bg.fix (c:=aT x.dV.2.T.2.aw),bg.fix (c:=aF x.dV.2.a)];rfl) am (λ σ h=>hv σ x hw (h _ cp) (h _ (cR _ cp)) _ (gr (h _ (cR _ (cR _ cp))) (by rw[aQ])))
end
section
open Go.ay Go.ay.eU Go.Proofs Go.Lib
def aeP{G:Nat->Option (List aa)}{f:FuncId}{args:List aa}{id:bt}{a:aG}{r:bt->bG}(h:∀p,cj ab G f args p [(id,a)] (r p))(hr:∀p,id∈(r p).rd):aR ab G:=.rel f args [(id,a)] r (fun p _=>h p) (fun p x hx=>by rw[cq.1 hx];exact hr p)
def dp(z:aa)(R:Nat->aa)(i j:Nat):aa:=if j<i then R j else z
instance{z:aa}{R:Nat->aa}{i n:Nat}[hz:bg z][h:∀j,bg (R j)]:bq ((aY n (dp z R i)).map fun x=>x):=⟨fun c hc=>by
 rw[nZ]at hc;obtain⟨j,_,rfl⟩:=bp.1 hc;unfold dp;split;.exact(h j).pure
 .exact hz.pure,fun ρ=>by
 rw[fS,nZ];refine(jR fun c hc=>?_).trans (nZ _);obtain⟨j,_,rfl⟩:=bp.1 hc;unfold dp;split;.exact(h j).fix ρ
 .exact hz.fix ρ⟩
theorem C5{z:aa}{R:Nat->aa}{i:Nat}(j:Nat):dp z R (i+1) j=if j=i then R i else dp z R i j:=by
 unfold dp;by_cases h:j=i;.subst h;rw[if_pos ac,if_pos rfl]
 .rw[if_neg h];split<;>split<;>first|rfl|omega
theorem zW{z:aa}{R:Nat->aa}{n:Nat}:(aY n (dp z R n)).map (fun x=>x)=aY n R:=by rw[nZ];exact ym fun j hj=>if_pos hj
variable(G:Nat->Option (List aa))
theorem aiH(n:Nat)(hn:n<16):ag ab G 278 [.int .u64 1,.int .u64 (n:Int)] (.aJ [.int .u64 0,.int .u64 (n:Int)]):=by rcases(ac:n=0\/n=1\/n=2\/n=3\/n=4\/n=5\/n=6\/n=7\/n=8\/n=9\/n=10\/n=11\/n=12\/n=13\/n=14\/n=15)with rfl|rfl|rfl|rfl|rfl|rfl|rfl|rfl|rfl|rfl|rfl|rfl|rfl|rfl|rfl|rfl<;>exact aI [] an
theorem ai3(z:aj)(n:Nat)(hn:n<16)(id p:bt):cj ab G 204 [.ai id 2 0 1 false,aA n] p [(id,⟨[z.T],2,false⟩)] {val:=.ai (22::p) 2 0 n false,rd:=[id],up:=[(22::p,some ⟨(aY n fun _=>z).map aO,2,false⟩)]}:=by have m:ag ab G 243 [.int .u64 1,.int .u64 (n:Int)] (.aJ [.int .u64 0,.int .u64 (n:Int)]):=aI [hc (aiH G n hn)] an;rcases(ac:n=0\/n=1\/n=2\/n=3\/n=4\/n=5\/n=6\/n=7\/n=8\/n=9\/n=10\/n=11\/n=12\/n=13\/n=14\/n=15)with rfl|rfl|rfl|rfl|rfl|rfl|rfl|rfl|rfl|rfl|rfl|rfl|rfl|rfl|rfl|rfl<;>exact eB (p:=p) (up:=[(22::p,_)]) hN (c4 [id]).κ [hc m] [.ai [1] 2 0 1 false,aA _] [([1],⟨[z.T],2,false⟩)] (.ai [22,0] 2 0 _ false) [([22,0],⟨(aY _ fun _=>z).map aO,2,false⟩)] an rfl nI rfl nI am am
theorem ai7(n:Nat)(hn:n<16)(p:bt):cj ab G 150 [aA n] p [] {val:=.ai (22::4::p) 2 0 n false,rd:=[],up:=[(22::4::p,some ⟨(aY n fun _=>aS 0).map aO,2,false⟩)]}:=eB (p:=p) (up:=[(22::4::p,_)]) hN (fun _=>[]) [hc (uV G),aeP (fun p=>ai3 G (aS 0) n hn [2,0] p) (fun p=>cp)] _ [] (.ai [22,4,0] 2 0 n false) [([22,4,0],⟨(aY n fun _=>aS 0).map aO,2,false⟩)] an (bq.fix _) rfl rfl nI am am
theorem an2(n i:Nat):(aY n fun j=>if j=i then aS 1 else aS 0).map aO=(dA n (some i)).map aO:=by unfold dA aY;congr 1;exact jR fun j _=>by simp only[Option.some.injEq]
theorem UF{n i:Nat}(hi:i<n)(hn:n<16):EX ab G 108 [aA n,aA i] [22,4,2] 2 ((dA n (some i)).map aO):=fun p=>by rw[aQ,mi,<-an2];exact eB (p:=p) (up:=[(22::4::2::p,_)]) hN (fun _=>[]) [cL (fun p=>ai7 G n hn p),hc (w4 G),cy 11 2 [22,4,2,0] false n i,kM 11 2 [22,4,2,0] 2 n aO (fun _=>aS 0) (fun j=>if j=i then aS 1 else aS 0) i (aS 1) (fun _ _=>rfl) (rV _)] _ [] (.ai [22,4,2,0] 2 0 n false) [([22,4,2,0],⟨(aY n fun j=>if j=i then aS 1 else aS 0).map aO,2,false⟩)] an (bq.fix _) rfl rfl nI am am
theorem UE{n i:Nat}(hi:i<n)(hn:n<16):ag ab G 108 [aA n,aA i] (ar (dA n (some i))):=(UF G hi hn).fD
def H2{R:Nat->aa}(a:∀j,(R j).size=1)(i k:Nat):1<=(dp .aH R i k).size:=by unfold dp;split;rw[a];exact a2 _;exact a2 _
noncomputable abbrev B2(n i:Nat)(q:a7):List (Nat×aa):=[(0,aA n),(3,.ai (q 0) 1 0 n false),(14,aA n),(15,aA i)]
noncomputable abbrev wI(n i:Nat)(q:a7):List (bt×aG):=[(q 0,⟨(aY n (dp .aH (λ j=>ar (dA n (some j))) i)).map λ x=>x,1,false⟩)]
def aiW{n:Nat}(h0:0<n)(f:n<16):ag ab G 62 [aA n] (aN (ei n)):=by
 have d:aN (ei n)=.sl 1 (aY n λ j=>ar (dA n (some j))):=by show aa.sl 1 ((ei n).map ar)=_;unfold ei aY;rw[jf];rfl
 have rd:∀i,i<n->fe ab G (aZ (ak 62) 0) (ak 62).aK 200 .normal (B2 n i) (wI n i) (B2 n (i+1)) (wI n (i+1)):=λ i b=>en [hb 16 (dv b),hc (UE G b f),cy 23 1 [1] false n i,kM 23 1 [1] 1 n (λ x=>x) (dp .aH (λ j=>ar (dA n (some j))) i) (dp .aH (λ j=>ar (dA n (some j))) (i+1)) i (ar (dA n (some i))) (λ j _=>C5 j) rfl (h1:=H2 (λ _=>rfl) i i) (hu:=by unfold dp;split<;>rfl),bh 24 i];have x:=en (P:=ab) (G:=G) (c:=aZ (ak 62) 0) (n:=(ak 62).aK) (w:=200) (e:=.exit 0) (A:=B2 n n) (bJ:=wI n n) (B:=λ q=>[(3,.ai (q 0) 1 0 n false)]) (bS:=wI n n) [hb 16 (h7 (a2 n))];rw[d];refine ye hN [hb 6 (show decide ((n:Int)<1)=false from decide_eq_false ac),hb 9 (show decide ((100:Int)<(n:Int))=false from decide_eq_false ac),uD 12 1 24 .aH n (λ x:aa=>x) (dp .aH (λ j=>ar (dA n (some j))) 0) (λ j _=>if_neg (fv _)),kN (ak 62) 0 0 n (c4 [[8,0]]) (B2 n) (wI n) (.exit 0) (λ q=>[(3,.ai (q 0) 1 0 n false)]) (wI n n) rd x (t0:=B2 n 0 (c4 [[8,0]])) (k0:=wI n 0 (c4 [[8,0]])) rfl rfl] [([8,0],⟨(aY n (dp .aH (λ j=>ar (dA n (some j))) n)).map λ x=>x,1,false⟩)] (.ai [8,0] 1 0 n false) an nI rfl am λ σ h=>?_;have h1:=h _ cp;simp only[zW]at h1;haveI:dw 1 (aY n λ j=>ar (dA n (some j))):=⟨λ c hc=>by obtain⟨j,_,rfl⟩:=bp.1 hc;infer_instance⟩;exact gr h1 (gg _ _)
variable(A B:List (List aj))
noncomputable abbrev p2(j:Nat):aa:=ar (A.getD j []++B.getD j [])
noncomputable abbrev Bm(i:Nat)(q:a7):List (Nat×aa):=[(0,aN A),(1,aN B),(5,.ai (q 0) 1 0 A.length false),(10,aN A),(11,.int .i64 ((A.map ar).length:Nat)),(12,aA i)]
noncomputable abbrev wb(i:Nat)(q:a7):List (bt×aG):=[(q 0,⟨(aY A.length (dp .aH (p2 A B) i)).map λ x=>x,1,false⟩)]
def aiO(p:A.length=B.length)(o:A.length<=90)(g:∀r∈A,r≠[]/\r.length<=90)(m:∀r∈B,r≠[]/\r.length<=90):ag ab G 114 [aN A,aN B] (aN (eV A B)):=by
 have l:aN (eV A B)=.sl 1 (aY A.length (p2 A B)):=by show aa.sl 1 ((eV A B).map ar)=_;congr 1;refine ie (by unfold eV;rw[aQ,ke,gg];omega) λ i h1 h2=>?_;rw[gg]at h2;simp only[eV,aY,iz,D9,nh,p2];rw[a4 h2,a4]
 have rd:∀i,i<A.length->fe ab G (aZ (ak 114) 0) (ak 114).aK 200 .normal (Bm A B i) (wb A B i) (Bm A B (i+1)) (wb A B (i+1)):=λ i d=>by
   have b:i<B.length:=ac;have c:=UA G (M:=[A[i],B[i]]) am (λ r f=>by rcases ct.1 f with rfl|f;exact g _ (bf d);rw[cq.1 f];exact m _ (bf b)) am;have k:ar [A[i],B[i]].flatten=p2 A B i:=by show _=ar (_++_);rw[a4 d,a4 b];simp
   rw[k]at c;haveI:∀j,bg (p2 A B j):=λ j=>inferInstance;exact en [bB 13 ar d,aV 19 1 ar d,aV 23 1 ar b,jt [13,0] 1 [ar A[i],ar B[i]] (A:=[]) c,cy 27 1 [1] false A.length i,kM 27 1 [1] 1 A.length (λ x=>x) (dp .aH (p2 A B) i) (dp .aH (p2 A B) (i+1)) i (p2 A B i) (λ j _=>C5 j) rfl (h1:=H2 (λ _=>rfl) i i) (hu:=by unfold dp;split<;>rfl),bh 28 i]
 have x:=en (P:=ab) (G:=G) (c:=aZ (ak 114) 0) (n:=(ak 114).aK) (w:=200) (e:=.exit 0) (A:=Bm A B A.length) (bJ:=wb A B A.length) (B:=λ q=>[(5,.ai (q 0) 1 0 A.length false)]) (bS:=wb A B A.length) [dH 13 ar A];rw[l];refine ye hN [hw 8 (show(((A.map ar).length:Nat):Int)=(A.length:Int)by rw[aQ]),uD 9 1 24 .aH A.length (λ x:aa=>x) (dp .aH (p2 A B) 0) (λ j _=>if_neg (fv _)),kN (ak 114) 0 0 A.length (c4 [[3,0]]) (Bm A B) (wb A B) (.exit 0) (λ q=>[(5,.ai (q 0) 1 0 A.length false)]) (wb A B A.length) rd x (t0:=Bm A B 0 (c4 [[3,0]])) (k0:=wb A B 0 (c4 [[3,0]])) rfl rfl] [([3,0],⟨(aY A.length (dp .aH (p2 A B) A.length)).map λ x=>x,1,false⟩)] (.ai [3,0] 1 0 A.length false) an nI rfl am λ σ h=>?_;have h1:=h _ cp;simp only[zW]at h1;haveI:dw 1 (aY A.length (p2 A B)):=⟨λ c hc=>by obtain⟨j,_,rfl⟩:=bp.1 hc;infer_instance⟩;exact gr h1 (gg _ _)
def iv(X:aa)(R:Nat->aa)(k j:Nat):aa:=if j<k then R j else if j=k then X else .aH
def Oc{X:aa}{R:Nat->aa}{k:Nat}:iv X R k k=X:=by unfold iv;rw[if_neg (nW _),if_pos rfl]
def XO{X Y:aa}{R:Nat->aa}{k:Nat}(j:Nat):iv Y R k j=if j=k then Y else iv X R k j:=by unfold iv;by_cases h:j=k;subst h;rw[if_neg (nW _),if_pos rfl,if_pos rfl];rw[if_neg h,if_neg h,if_neg h]
def anX{R:Nat->aa}{k:Nat}:iv .aH R k=dp .aH R k:=by funext j;unfold iv dp;split<;>(try rfl);split<;>rfl
def Nw{R:Nat->aa}{k:Nat}:dp .aH R k k=.aH:=if_neg (nW _)
def anY{R:Nat->aa}{k:Nat}:iv (R k) R k=dp .aH R (k+1):=by funext j;unfold iv dp;by_cases h:j<k;rw[if_pos h,if_pos ac];by_cases h2:j=k;subst h2;rw[if_neg h,if_pos rfl,if_pos ac];rw[if_neg h,if_neg h2,if_neg ac]
instance{R:Nat->aa}{k w i o n l:Nat}{t:Bool}[h:∀j,bg (R j)]:pW (λ q=>(aY w (iv (.ai (q i) n o l t) R k)).map λ x=>x):=⟨λ ρ q=>by rw[fS,nZ,nZ];unfold aY;rw[jf];refine jR λ j _=>?_;show(iv _ R k j).aU ρ=_;unfold iv;split;exact(h j).fix ρ;split<;>rfl⟩
def aeA{G:Nat->Option (List aa)}(key:Nat)(id a:bt)(i:Nat)(c:Nat->aj)(x:aj)(g:c i=x)(l:i<=9000):aR ab G:=.st key [(a,⟨[x.T],2,false⟩),(id,⟨(aY i c).map aO,2,false⟩)] (.append 2 48 (.ai id 2 0 i false) (.ai a 2 0 1 false)) (λ p=>{val:=.ai p 2 0 (i+1) false,rd:=[id,a],up:=[(id,none),(p,some ⟨(aY (i+1) c).map aO,2,false⟩)]}) (λ σ p b=>by
     subst g;have h1:=b (a,⟨[(c i).T],2,false⟩) am;have h2:=b (id,⟨(aY i c).map aO,2,false⟩) am;have el:((aY i c).map aO).length=i:=by rw[aQ,gg]
     have h:(aY (i+1) c).map aO=(aY i c).map aO++[(c i).T]:=by unfold aY;rw[ix,gI,gI];rfl
     rw[h];have:=Aa (σ:=σ) (p:=p) (id:=id) (k:=2) (bytes:=48) (len:=((aY i c).map aO).length) (x:=.ai a 2 0 1 false) (els:=(aY i c).map aO) (ys:=[(c i).T]) (rd:=[a]) (by rw[yK h1 rfl am];rfl) am h2 rfl (by rw[el];simp;omega) (pd (by rw[el];simp;omega)) (by simpa using rV (c i)) (dY.2 λ e f=>by obtain⟨y,_,rfl⟩:=bp.1 f;exact rV y);rw[el]at this;exact this)
end
section
open Go.ay Go.ay.eU Go.Proofs Go.Lib
variable(G:Nat->Option (List aa))(M:List (List aj))(w:Nat)
noncomputable abbrev sb(k i:Nat):aj:=(M.getD i []).getD k (aS 0)
noncomputable abbrev iw(k:Nat):aa:=ar (p3 M k)
noncomputable abbrev Dn(k i:Nat)(q:a7):List (Nat×aa):=[(0,aN M),(3,.ai (q 0) 1 0 w false),(4,aA k),(14,aA w),(15,aA k),(18,aN M),(19,.int .i64 ((M.map ar).length:Nat)),(20,aA i)]
noncomputable abbrev pB(k:Nat)(q:a7):List (bt×aG):=[(q 0,⟨(aY w (dp .aH (iw M) k)).map λ x=>x,1,false⟩)]
noncomputable abbrev vd(k i:Nat)(q:a7):List (bt×aG):=[(q 0,⟨(aY w (iv (.ai (q 1) 2 0 i false) (iw M) k)).map λ x=>x,1,false⟩),(q 1,⟨(aY i (sb M k)).map aO,2,false⟩)]
noncomputable def vc(k i:Nat):a7->List (bt×aG):=if i=0 then pB M w k else vd M w k i
variable{M w}
def anV(f:∀r∈M,r.length=w)(h:M.length<=9000){k:Nat}(c:k<w)(i:Nat)(b:i<M.length):la ab G (aZ (ak 69) 1) (ak 69).aK 200 1 .normal (Dn M w k i) (vc M w k i) (Dn M w k (i+1)) (vc M w k (i+1)):=by
 have a:k<M[i].length:=by rw[f _ (bf b)];exact c
 have e:sb M k i=(M[i])[k]:=by show(M.getD i []).getD k _=_;rw[a4 b,a4 a]
 rw[show vc M w k (i+1)=vd M w k (i+1)from if_neg (Nat.succ_ne_zero i)];by_cases h0:i=0;subst h0;rw[show vc M w k 0=pB M w k from if_pos rfl];unfold vd pB;have g:(aY (0+1) (sb M k)).map aO=[((M[0])[k]).T]:=by show [(sb M k 0).T]=_;rw[e]
 rw[g];exact pw [15,0] [bB 21 ar b,aV 22 1 ar b,cy 28 1 [1] false w k,fx 29 1 false [1] 1 w (λ x=>x) (dp .aH (iw M) k) k .aH c (by rw[Nw];rfl),aV 32 2 aO a,cy 36 1 [1] false w k,kM 36 1 [1] 1 w (λ x=>x) (dp .aH (iw M) k) (iv (.ai [15,0] 2 0 1 false) (iw M) k) k (.ai [15,0] 2 0 1 false) (λ j _=>by rw[<-anX];exact XO j) rfl (h1:=by rw[Nw];exact a2 _) (hu:=by rw[Nw];rfl),bh 37 0];rw[show vc M w k i=vd M w k i from if_neg h0];exact pw [15,0] [bB 21 ar b,aV 22 1 ar b,cy 28 1 [1] false w k,fx 29 1 false [1] 1 w (λ x=>x) (iv (.ai [2] 2 0 i false) (iw M) k) k (.ai [2] 2 0 i false) c (by rw[Oc];rfl),aV 32 2 aO a,aeA 35 [2] [14,0] i (sb M k) (M[i])[k] e ac,cy 36 1 [1] false w k,kM 36 1 [1] 1 w (λ x=>x) (iv (.ai [2] 2 0 i false) (iw M) k) (iv (.ai [15,0] 2 0 (i+1) false) (iw M) k) k (.ai [15,0] 2 0 (i+1) false) (λ j _=>XO j) rfl (h1:=by rw[Oc];exact a2 _) (hu:=by rw[Oc];rfl),bh 37 i]
def acS(k:Nat):ar (p3 M k)=.sl 2 ((aY M.length (sb M k)).map aO):=by show aa.sl 2 _=_;unfold p3 aY;rw[jf,jf,<-C1 (f:=aO∘λ r=>r.getD k (aS 0)) (d:=[])];rfl
def Yr{F:List (bt×aG)}{α:Type}{f g:α->aa}:∀(l:List α),(∀x∈l,gZ F (f x) (g x))->fm F (l.map f) (l.map g)|[],_=>trivial|x::l,h=>⟨h x cp,Yr l λ y a=>h y (cR _ a)⟩
def anU{n m k:Nat}{T:List (Nat×aa)}{a y:bt}(b:a≠y):bP G [0] ⟨fr n T,bU [(a,⟨(aY w (iv (.ai y 2 0 M.length false) (iw M) k)).map λ x=>x,1,false⟩),(y,⟨(aY M.length (sb M k)).map aO,2,false⟩)],m⟩ ⟨fr n T,bU [(a,⟨(aY w (dp .aH (iw M) (k+1))).map λ x=>x,1,false⟩)],m⟩:=by
 have g:(y==a)=false:=by simpa using Ne.symm b
 have o:∀(X:aa),X.cells=[X]->∀j,(iv X (iw M) k j).cells=[iv X (iw M) k j]:=λ X p j=>by unfold iv;split;rfl;split;exact p;rfl
 refine bP.l1 [(y,⟨(aY M.length (sb M k)).map aO,2,false⟩)] (λ x d=>by rw[cq.1 d];simp[bU,hJ,g]) (lM _ _) (λ i=>?_) (a2 _);by_cases h:i=a;subst h;refine .inr ⟨⟨(aY w (iv (.ai y 2 0 M.length false) (iw M) k)).map λ x=>x,1,false⟩,⟨(aY w (dp .aH (iw M) (k+1))).map λ x=>x,1,false⟩,by simp[bU],by simp[bU],rfl,.inl rfl,λ _ x d=>by rw[cq.1 d];exact Ne.symm b,by simp[gg],λ e c=>?_,?_⟩;rw[nZ]at c;obtain⟨j,_,rfl⟩:=bp.1 c;unfold dp;split<;>rfl;show fm _ (flat ((aY w _).map λ x=>x)) (flat ((aY w _).map λ x=>x));rw[nZ,nZ,<-anY];unfold aY;rw[FT (f:=iv (.ai y 2 0 M.length false) (iw M) k) (o _ rfl),FT (f:=iv (iw M k) (iw M) k) (o _ rfl)];refine Yr _ λ j _=>?_;unfold iv;split;exact gZ.same _ _;split;show gZ _ _ (ar (p3 M k));rw[acS];have:=Dw (F:=[(y,⟨(aY M.length (sb M k)).map aO,2,false⟩)]) (q:=y) (l:=(aY M.length (sb M k)).map aO) (k:=2) (t:=false) (by simp[bU]) (λ e c=>by obtain⟨z,_,rfl⟩:=bp.1 c;infer_instance);rw[aQ,gg]at this;exact this;exact gZ.same _ _;refine .inl ?_;have:(i==a)=false:=by simpa using h
 show hJ _ _=_;rw[mr,this];rfl
noncomputable def ah3{P:Program}{G:Nat->Option (List aa)}(aB:dO)(k N:Nat)(q0:a7)(T:Nat->a7->List (Nat×aa))(K:Nat->a7->List (bt×aG))(e:cf)(c5:a7->List (Nat×aa))(cm:a7->List (bt×aG)){b:Nat}[gh 0 b cm](h:∀i,i<N->fe P G (aZ aB k) aB.aK (b6 9) .normal (T i) (K i) (T (i+1)) (K (i+1)))(d:fe P G (aZ aB k) aB.aK (b6 9) e (T N) (K N) c5 cm){t0:List (Nat×aa)}{k0:List (bt×aG)}(f:T 0 q0=t0:=by rfl)(g:K 0 q0=k0:=by rfl)(h0:pn ((tR 0 8).map q0)=true:=by kernel_rfl)(hN:N<=10000000000000000000:=by omega)(a:e≠.normal:=by simp)(hb:b<=8:=by decide):aR P G:=.h9 [0] (aZ aB k) (fr aB.aK t0) k0 (ej 0) e (fr aB.aK (c5 q0)) (b5 (cm q0)) jF (by rw[<-f,<-g];exact Ci (tk h0) hb h d a (by unfold ej b6 jF;omega))
noncomputable def aeT(j:∀r∈M,r.length=w)(b:M≠[])(f:M.length<=9000){k:Nat}(l:k<w):aR ab G:=.h9 [0] (aZ (ak 69) 1) (fr (ak 69).aK (Dn M w k 0 (c4 [[1],[2]]))) (pB M w k (c4 [[1],[2]])) (ej 0) (.exit 2) (fr (ak 69).aK [(0,aN M),(3,.ai [1] 1 0 w false),(14,aA w),(15,aA k)]) (b5 [([1],⟨(aY w (dp .aH (iw M) (k+1))).map λ x=>x,1,false⟩)]) (b6 0+1) (by have g:vc M w k M.length=vd M w k M.length:=if_neg λ e=>b (List.eq_nil_of_length_eq_zero e);have x:=pw (P:=ab) (G:=G) (c:=aZ (ak 69) 1) (n:=(ak 69).aK) (w:=200) (d:=1) (e:=.exit 2) (A:=Dn M w k M.length) (bJ:=vd M w k M.length) (B:=λ q=>[(0,aN M),(3,.ai (q 0) 1 0 w false),(14,aA w),(15,aA k)]) (bS:=vd M w k M.length) [2] [dH 21 ar M];have:=T3 (P:=ab) (G:=G) (c:=aZ (ak 69) 1) (n:=(ak 69).aK) (N:=M.length) (w:=200) (n0:=ej 0) (E:=b6 0) (d:=1) (e:=.exit 2) (q:=c4 [[1],[2]]) (T:=λ i=>Dn M w k i) (K:=λ i=>vc M w k i) (c5:=λ q=>[(0,aN M),(3,.ai (q 0) 1 0 w false),(14,aA w),(15,aA k)]) (cm:=vd M w k M.length) al (jl.start an al) (λ i h=>anV G j f l i h) (by rw[g];exact x) am (by unfold ej b6;omega);rw[show vc M w k 0=pB M w k from if_pos rfl]at this;refine this.mono λ m s'⟨h1,h2⟩=>?_;subst h1;exact⟨rfl,bP.toT am (h2.trans (anU G al))⟩)
def UD(d:∀r∈M,r.length=w)(b:M≠[])(g:M.length<=9000)(m:w<=9000):ag ab G 69 [aN M] (aN (eR M)):=by
 have cs:=wY G b;have k:eJ M=w:=by cases M with|nil=>exact absurd rfl b|cons r M=>exact d r cp
 rw[k]at cs;have l:aN (eR M)=.sl 1 (aY w (iw M)):=by show aa.sl 1 ((eR M).map ar)=_;unfold eR aY;rw[k,jf];rfl
 have rd:∀i,i<w->fe ab G (aZ (ak 69) 0) (ak 69).aK (b6 9) .normal (λ q=>[(0,aN M),(3,.ai (q 0) 1 0 w false),(14,aA w),(15,aA i)]) (pB M w i) (λ q=>[(0,aN M),(3,.ai (q 0) 1 0 w false),(14,aA w),(15,aA (i+1))]) (pB M w (i+1)):=λ i f=>en [hb 16 (dv f),aeT G d b g f,bh 38 i];have x:=en (P:=ab) (G:=G) (c:=aZ (ak 69) 0) (n:=(ak 69).aK) (w:=b6 9) (e:=.exit 0) (A:=λ q=>[(0,aN M),(3,.ai (q 0) 1 0 w false),(14,aA w),(15,aA w)]) (bJ:=pB M w w) (B:=λ q=>[(3,.ai (q 0) 1 0 w false)]) (bS:=pB M w w) [hb 16 (h7 (a2 w))];rw[l];refine ye hN [hc (zy G d g),hc cs,uD 12 1 24 .aH w (λ x:aa=>x) (dp .aH (iw M) 0) (λ j _=>if_neg (fv _)),ah3 (ak 69) 0 w (c4 [[6,0]]) (λ i q=>[(0,aN M),(3,.ai (q 0) 1 0 w false),(14,aA w),(15,aA i)]) (pB M w) (.exit 0) (λ q=>[(3,.ai (q 0) 1 0 w false)]) (pB M w w) rd x (t0:=[(0,aN M),(3,.ai [6,0] 1 0 w false),(14,aA w),(15,aA 0)]) (k0:=pB M w 0 (c4 [[6,0]])) rfl rfl] [([6,0],⟨(aY w (dp .aH (iw M) w)).map λ x=>x,1,false⟩)] (.ai [6,0] 1 0 w false) an nI rfl am λ σ h=>?_;have h1:=h _ cp;simp only[zW]at h1;haveI:dw 1 (aY w (iw M)):=⟨λ c hc=>by obtain⟨j,_,rfl⟩:=bp.1 hc;infer_instance⟩;exact gr h1 (gg _ _)
end
section
open Go.ay Go.ay.eU Go.Proofs Go.Lib
variable(G:Nat->Option (List aa)){K:bY}{q e r:Nat}(F:dN K q e r){n m:Nat}
noncomputable abbrev adl(a b:List aj)(i:Nat)(q:aD):List (Nat×aa):=[(7,.ref q.a 0 0),(6,.ref q.b 0 0),(0,fM),(1,ar a),(2,ar b),(11,ar a),(12,.int .i64 ((a.map aO).length:Nat)),(13,aA i)]
include F
def aiT{a b:List aj}(h:a.length=b.length)(B:a.length<=9000)(w:dn K n a)(hb:dn K m b)(h1:bm K q n)(h2:bm K q m)(h3:bm K q (p4 K a n m)):ag ab G 116 [fM,ar a,ar b] (dR a b).T:=by
 have g:∀i,i<=a.length->(dR (a.take i) (b.take i)).G K (p4 K a n m):=λ i f=>by have:=CP (K:=K) (n:=n) (m:=m) (a:=a.take i) (b:=b.take i) (λ x p=>w x (gK p)) (λ x p=>hb x (gK p));exact this.mono (ck _ (by rw[List.length_take];omega))
 have o:dR a b=dR (a.take a.length) (b.take a.length):=by rw[kB,h,kB]
 rw[o];refine bL [hc (uV G),fQ (ak 116) 0 0 0 a.length ⟨[2,0],[0,0],[3],[4]⟩ (adl a b) (uX a b) (.exit 0) (λ q=>[(7,.ref q.a 0 0),(6,.ref q.b 0 0)]) (uX a b a.length) (λ i f=>?_) (bn aD.s [dH 14 aO a])];have d:i<b.length:=ac;have k:=w _ (bf f);have t:=hb _ (bf d);have A:1*(n+m+K.c+1)<=p4 K a n m:=ck _ ac;have u:=w5 G F k h1;have v:=w5 G F t h2;have o:=VG f d;unfold uX;rw[o];cases l:(a[i]).bD with|true=>rw[Bool.true_or,if_pos rfl];exact bn aD.s [bB 14 aO f,aV 16 2 aO f,hc u,cW 20 (nJ l),bh 39 i]|false=>cases y:(b[i]).bD with|true=>rw[Bool.or_true,if_pos rfl];exact bn aD.s [bB 14 aO f,aV 16 2 aO f,hc u,cW 20 (nJ l),aV 24 2 aO d,hc v,cW 27 (nJ y),bh 39 i]|false=>rw[Bool.or_false,if_neg Bool.false_ne_true];have x1:=yB G F k t h1 h2;have bE:=ace G F (g i ac) (k.mul t) h3 (show bm K q (n+m+K.c)by unfold bm at*;omega);exact bn aD.s [bB 14 aO f,aV 16 2 aO f,hc u,cW 20 (nJ l),aV 24 2 aO d,hc v,cW 27 (nJ y),aV 35 2 aO d,hc x1,hc bE,bh 39 i]
noncomputable def lX(A:List (List aj))(v:List aj):List aj:=A.map λ a=>dR a v
omit F in noncomputable abbrev rf(A:List (List aj))(v:List aj)(j:Nat):aa:=(dR (A.getD j []) v).T
noncomputable abbrev Bh(A:List (List aj))(v:List aj)(i:Nat)(q:a7):List (Nat×aa):=[(1,ar v),(7,.ai (q 0) 2 0 A.length false),(25,aN A),(26,.int .i64 ((A.map ar).length:Nat)),(27,aA i)]
noncomputable abbrev vX(A:List (List aj))(v:List aj)(i:Nat)(q:a7):List (bt×aG):=[(q 0,⟨(aY A.length (dp kP (rf A v) i)).map λ x=>x,2,false⟩)]
def aiN{A:List (List aj)}{v:List aj}{w:Nat}(s:bj K n w A)(hv:dn K m v)(hw:v.length=w)(k:A≠[])(t:A.length<=9000)(u:w<=9000)(h1:bm K q n)(h2:bm K q m)(h3:bm K q (w*(n+m+K.c+1))):ag ab G 71 [aN A,ar v] (.aJ [ar (lX A v),.int .i64 0]):=by
 have cs:=wY G k;rw[gj s k]at cs;have z:ar (lX A v)=.sl 2 (aY A.length (rf A v)):=by show aa.sl 2 ((lX A v).map aO)=_;unfold lX aY;rw[jf,<-C1 (f:=aO∘λ a=>dR a v) (d:=[])];rfl
 have rd:∀i,i<A.length->fe ab G (aZ (ak 71) 0) (ak 71).aK 200 .normal (λ q=>(6,fM)::Bh A v i q) (vX A v i) (λ q=>(6,fM)::Bh A v (i+1) q) (vX A v (i+1)):=λ i o=>by
   have p:=s _ (bf o);have d:=aiT G F (a:=A[i]) (b:=v) (by rw[p.1,hw]) (by rw[p.1];exact u) p.2 hv h1 h2 (by unfold p4;rw[p.1];exact h3);have ed:(dR A[i] v).T=rf A v i:=by show _=(dR (A.getD i []) v).T;rw[a4 o]
   rw[ed]at d;exact en [bB 28 ar o,aV 30 1 ar o,hc d,cy 38 2 [1] false A.length i,kM 38 2 [1] 2 A.length (λ x=>x) (dp kP (rf A v) i) (dp kP (rf A v) (i+1)) i (rf A v i) (λ j _=>C5 j) (rV _) (h1:=by unfold dp;split<;>exact a2 _) (hu:=by unfold dp;split<;>rfl),bh 39 i]
 have x:=en (P:=ab) (G:=G) (c:=aZ (ak 71) 0) (n:=(ak 71).aK) (w:=200) (e:=.exit 0) (A:=λ q=>(6,fM)::Bh A v A.length q) (bJ:=vX A v A.length) (B:=λ q=>[(6,fM),(7,.ai (q 0) 2 0 A.length false)]) (bS:=vX A v A.length) [dH 28 ar A];have D:=Ci (P:=ab) (G:=G) (c:=aZ (ak 71) 0) (n:=(ak 71).aK) (N:=A.length) (w:=200) (n0:=ej 0) (E:=b6 0) (e:=.exit 0) (q:=c4 [[17,0]]) (T:=λ i q=>(6,fM)::Bh A v i q) (K:=vX A v) (c5:=λ q=>[(6,fM),(7,.ai (q 0) 2 0 A.length false)]) (cm:=vX A v A.length) (tk an) al rd x am (IZ ac);have iU:bo ab G [0] (.loop (aZ (ak 71) 0)) _ ⟨fr (ak 71).aK ((6,.ref [13,0] 0 0)::Bh A v 0 (c4 [[17,0]])),bU (([13,0],⟨[.agg [.int .i64 0]],1,false⟩)::vX A v 0 (c4 [[17,0]])),ej 0⟩:=Sg (cs:=[.int .i64 0]) rfl (λ y I=>by rw[cq.1 I];exact⟨by show([17,0]:List Nat)≠[13,0];decide,λ e l=>by have l:e∈(aY A.length (dp kP (rf A v) 0)).map λ x=>x:=l;rw[nZ]at l;obtain⟨j,_,rfl⟩:=bp.1 l;unfold dp;split<;>rfl⟩) D;rw[z];refine ye hN [hc (zy G (λ r C=>(s r C).1) t),hc cs,cW 18 (show((((v.map aO).length:Nat):Int)!=(w:Int))=false by rw[aQ,hw];exact bne_self_eq_false _),Go.ay.hw 23 (show(((A.map ar).length:Nat):Int)=(A.length:Int)by rw[aQ]),uD 24 2 48 kP A.length (λ x:aa=>x) (dp kP (rf A v) 0) (λ j _=>if_neg (fv _)),.h9 [0] (aZ (ak 71) 0) _ _ (ej 0) (.exit 0) _ _ (b6 0) iU] [([17,0],⟨(aY A.length (dp kP (rf A v) A.length)).map λ x=>x,2,false⟩)] (.aJ [.ai [17,0] 2 0 A.length false,.int .i64 0]) an nI rfl am λ σ h=>?_;have h1:=h _ cp;simp only[zW]at h1;haveI:dw 2 (aY A.length (rf A v)):=⟨λ c hc=>by obtain⟨j,_,rfl⟩:=bp.1 hc;infer_instance⟩;exact lN (bZ (gr h1 (gg _ _)) (bZ (fk (JO _ _)) eT))
def ai2{w j:Nat}{M:List (List aj)}(c:bj K n w M)(a:M≠[])(h0:0<w)(f:M.length<=90)(d:w<=90)(g:M.length<=j\/w<=j)(B:bm K q (grow K j n)):ag ab G 66 [aN M] (.aJ [aN ((c7 M).rows w M.length),bW (c7 M).pv,.int .i64 0]):=aI [hc (zy G (λ r h=>(c r h).1) ac),hc (Hj G F M c a h0 f d g B)]
def UC{w j:Nat}{M:List (List aj)}(b:bj K n w M)(a:M≠[])(h0:0<w)(g:M.length<=90)(k:w<=90)(i:M.length<=j\/w<=j)(B:bm K q (grow K j n)):ag ab G 63 [aN M] (.aJ [bW (c7 (eR M)).pv,.int .i64 0]):=by
 have h:=sc b;have ky:(eR M).length=w:=by rw[ve,gj b a]
 have f:eR M≠[]:=λ e=>by rw[e]at ky;rw[iM]at ky;omega
 exact aI [hc (zy G (λ r c=>(b r c).1) ac),hc (UD G (λ r c=>(b r c).1) a ac ac),hc (Hj G F (eR M) h f (iy.2 a) ac g ac B)]
end
section
open Go.ay Go.ay.eU Go.Proofs Go.Lib
noncomputable def kr(R:List (List aj))(pv:List Nat)(w i k:Nat):List aj:=jO (λ s=>((R.getD s []).getD k (aS 0)).neg) (pv.take i) 0 (dA w (some k))
noncomputable def jK(R:List (List aj))(pv:List Nat)(w i:Nat):List (List aj):=((a8 i).filter λ k=>!pv.contains k).map λ k=>kr R pv w pv.length k
def TA{R:List (List aj)}{pv:List Nat}{w i k:Nat}:(kr R pv w i k).length=w:=by unfold kr;rw[HL,mi]
def ahp{R:List (List aj)}{pv:List Nat}{w i:Nat}(h:pv.contains i=false):jK R pv w (i+1)=jK R pv w i++[kr R pv w pv.length i]:=by unfold jK;rw[ix,lL,gI,show List.filter (λ k=>!pv.contains k) [i]=[i]from by rw[Ey,h];rfl];rfl
def aho{R:List (List aj)}{pv:List Nat}{w i:Nat}(h:pv.contains i=true):jK R pv w (i+1)=jK R pv w i:=by unfold jK;rw[ix,lL,gI,show List.filter (λ k=>!pv.contains k) [i]=[]from by rw[Ey,h];rfl];exact pQ _
def Tz(R:List (List aj))(pv:List Nat)(w i:Nat):(jK R pv w i).length<=i:=by unfold jK;rw[aQ];have:=List.length_filter_le (λ k=>!pv.contains k) (a8 i);rwa[dx]at this
variable(G:Nat->Option (List aa))(M R:List (List aj))(pv:List Nat)(w:Nat)(rd ed:aa)
noncomputable abbrev zk:List aa:=[aN R,bW pv,rd,ed]
noncomputable abbrev wR(k:Nat):List (Nat×aa):=[(4,.cr (zk R pv rd ed) 0),(0,aN M),(23,aA w),(24,aA k)]
noncomputable abbrev rN(o:Bool)(l:List aa)(k i:Nat)(q:a7):List (Nat×aa):=(6,match o with|true=>.ai (q 1) 1 0 l.length false|false=>.aH)::[(4,.cr (zk R pv rd ed) 0),(0,aN M),(23,aA w),(24,aA k),(7,aA k),(8,.ai (q 0) 2 0 w false),(36,bW pv),(37,.int .i64 ((pv.map aA).length:Nat)),(38,aA i)]
noncomputable abbrev zl(o:Bool)(l:List aa)(v:List aj)(q:a7):List (bt×aG):=match o with|true=>[(q 0,⟨v.map aO,2,false⟩),(q 1,⟨l,1,false⟩)]|false=>[(q 0,⟨v.map aO,2,false⟩)]
variable{M R pv w rd ed}
variable [bg rd][bg ed]{K:bY}{q e r:Nat}{n:Nat}
def TI(y:bj K n w R)(z:pv.length<=R.length)(g:∀p∈pv,p<w)(u:bm K q n)(F:dN K q e r)(A:w<16)(E:pv.length<=9000){k:Nat}(B:k<w)(l:List aa)[bq l](o:Bool)(i:Nat)(c:i<pv.length):fe ab G (aZ (ak 65) 1) (ak 65).aK 200 .normal (rN M R pv w rd ed o l k i) (zl o l (kr R pv w i k)) (rN M R pv w rd ed o l k (i+1)) (zl o l (kr R pv w (i+1) k)):=by have b:i<R.length:=ac;have⟨C,g1⟩:=y _ (bf b);have a:k<R[i].length:=ac;have m:=Mz G F (g1 _ (bf a)) u;have t:=g _ (bf c);have j:=Nb (f:=λ s=>((R.getD s []).getD k (aS 0)).neg) (l:=pv) (i:=i) (x:=dA w (some k)) c;simp only[a4 b,a4 a]at j;have D:=TA (R:=R) (pv:=pv) (w:=w) (i:=i) (k:=k);have d:(kr R pv w i k).set pv[i] ((R[i])[k]).neg=kr R pv w (i+1) k:=j;generalize kr R pv w i k=v at*;generalize kr R pv w (i+1) k=v' at*;cases o<;>exact en [bB 39 aA c,aV 41 1 aA c,aV 48 1 ar b,aV 51 2 aO a,hc m,cy 54 2 [1] false w pv[i],p9 54 2 [1] 2 aO v pv[i] ((R[i])[k]).neg v' d (b:=rV _),bh 55 i]
def TJ{k:Nat}(l:List aa)[bq l](o:Bool):fe ab G (aZ (ak 65) 1) (ak 65).aK 200 (.exit 2) (rN M R pv w rd ed o l k pv.length) (zl o l (kr R pv w pv.length k)) (rN M R pv w rd ed o l k pv.length) (zl o l (kr R pv w pv.length k)):=by cases o<;>exact en [dH 39 aA pv]
noncomputable def TH(h:bj K n w R)(c:pv.length<=R.length)(a:∀p∈pv,p<w)(f:bm K q n)(F:dN K q e r)(d:w<16)(j:pv.length<=9000){k:Nat}(m:k<w)(l:List aa)[bq l]:Bool->aR ab G|true=>kN (ak 65) 1 0 pv.length (c4 [[22,4,2,10,0],[1]]) (rN M R pv w rd ed true l k) (λ i=>zl true l (kr R pv w i k)) (.exit 2) (rN M R pv w rd ed true l k pv.length) (λ q=>[(q 0,⟨(kr R pv w pv.length k).map aO,2,false⟩),(q 1,⟨l,1,false⟩)]) (λ i b=>TI G h c a f F d j m l true i b) (TJ G l true) (t0:=rN M R pv w rd ed true l k 0 (c4 [[22,4,2,10,0],[1]])) (k0:=[([22,4,2,10,0],⟨(dA w (some k)).map aO,2,false⟩),([1],⟨l,1,false⟩)]) rfl rfl|false=>kN (ak 65) 1 0 pv.length (c4 [[22,4,2,10,0],[1]]) (rN M R pv w rd ed false l k) (λ i=>zl false l (kr R pv w i k)) (.exit 2) (rN M R pv w rd ed false l k pv.length) (λ q=>[(q 0,⟨(kr R pv w pv.length k).map aO,2,false⟩)]) (λ i b=>TI G h c a f F d j m l false i b) (TJ G l false) (t0:=rN M R pv w rd ed false l k 0 (c4 [[22,4,2,10,0],[1]])) (k0:=[([22,4,2,10,0],⟨(dA w (some k)).map aO,2,false⟩)]) rfl rfl
def ahA(m:bj K n w R)(t:pv.length<=R.length)(d:∀p∈pv,p<w)(o:bm K q n)(F:dN K q e r)(j:w<16)(g:pv.length<=9000)(cs:ag ab G 111 [aN M] (aA w))(k:Nat)(b:k<w):bF ab G (aZ (ak 65) 0) (ak 65).aK (b6 9) .normal (λ q=>(6,bX q.a 1 ((jK R pv w k).map ar))::wR M R pv w rd ed k) (λ q=>bu q.a 1 ((jK R pv w k).map ar)++[]) (λ q=>(6,bX q.a 1 ((jK R pv w (k+1)).map ar))::wR M R pv w rd ed (k+1)) (λ q=>bu q.a 1 ((jK R pv w (k+1)).map ar)++[]):=by have f:=oA G (l:=pv) (n:=k) g;have u:=Tz R pv w k;cases h:pv.contains k with|true=>rw[h]at f;rw[aho h];exact nK (A:=λ _=>wR M R pv w rd ed k) (B:=λ _=>wR M R pv w rd ed (k+1)) (bJ:=λ _=>[]) (bS:=λ _=>[]) aD.s [hb 25 (dv b),hc f,bh 60 k]|false=>
   rw[h]at f;rw[ahp h,gI,List.map_singleton];have i:=λ p=>UF G b j p;rw[aQ,mi]at i;have el:((kr R pv w pv.length k).map aO).length=w:=by rw[aQ,TA]
   exact abb (key:=59) (d:=2) (mN:=w) (row:=(kr R pv w pv.length k).map aO) el.symm (by rw[aQ];omega) 1000000000000000000000002 ⟨[1000000000000000000000003,0],[22,4,2,10,0],[3],[4]⟩ (λ y=>match y with|[]=>[hb 25 (dv b),hc f,hc cs,cL i,TH G (M:=M) (rd:=rd) (ed:=ed) m t d o F j g b ((jK R pv w k).map ar) false,bh 60 k]|z::_=>[hb 25 (dv b),hc f,hc cs,cL i,TH G (M:=M) (rd:=rd) (ed:=ed) m t d o F j g b ((jK R pv w k).map ar) true,z,bh 60 k])
noncomputable def aeJ(m:bj K n w R)(f:pv.length<=R.length)(d:∀p∈pv,p<w)(j:bm K q n)(F:dN K q e r)(g:w<16)(h:pv.length<=9000)(cs:ag ab G 111 [aN M] (aA w)):aR ab G:=.h9 [0] (aZ (ak 65) 0) (fr (ak 65).aK ((4,.ref [10,0] 0 0)::[(6,.aH),(0,aN M),(23,aA w),(24,aA 0)])) [([10,0],⟨[.agg (zk R pv rd ed)],4,false⟩)] (ej 0) (.exit 0) (fr (ak 65).aK [(6,.sl 1 ((jK R pv w w).map ar))]) (b5 []) (jF+4) (by
   refine bo.Sh (cs:=zk R pv rd ed) rfl ?_;have x:=(nK (P:=ab) (G:=G) (c:=aZ (ak 65) 0) (n:=(ak 65).aK) (w:=b6 9) (k:=1) (so:=6) (e:=.exit 0) (l:=(jK R pv w w).map ar) (A:=λ _=>wR M R pv w rd ed w) (B:=λ _=>[]) (bJ:=λ _=>[]) (bS:=λ _=>[]) aD.s [hb 25 (h7 (a2 w))]).yR (B:=[]) λ e t=>by obtain⟨y,_,rfl⟩:=bp.1 t;infer_instance
   have:=Ch (P:=ab) (G:=G) (c:=aZ (ak 65) 0) (n:=(ak 65).aK) (N:=w) (w:=b6 9) (n0:=ej 0) (E:=jF) (e:=.exit 0) (d:=aD.s) (T:=λ i q=>(6,bX q.a 1 ((jK R pv w i).map ar))::wR M R pv w rd ed i) (K:=λ i q=>bu q.a 1 ((jK R pv w i).map ar)++[]) (c5:=λ _=>[(6,.sl 1 ((jK R pv w w).map ar))]) (cm:=λ _=>[]) (fL.start an) (λ i o=>ahA G m f d j F g h cs i o) x am (by unfold ej b6 jF;omega);rw[show fr (ak 65).aK ((4,.cr (zk R pv rd ed) 0)::[(6,.aH),(0,aN M),(23,aA w),(24,aA 0)])=fr (ak 65).aK ((6,.aH)::wR M R pv w rd ed 0)from an];exact this)
end
section
open Go.ay Go.ay.eU Go.Proofs Go.Lib
variable(G:Nat->Option (List aa)){K:bY}{q e r:Nat}(F:dN K q e r){n w j:Nat}{M:List (List aj)}
noncomputable def oq(M:List (List aj)):List (List aj):=jK ((c7 M).rows (eJ M) M.length) (c7 M).pv (eJ M) (eJ M)
def MY(b:bj K n w M)(a:M≠[]):vR K n w M.length (bR M) w (c7 M):=by unfold c7;rw[gj b a];exact CL M b w (a2 _)
def xg(b:bj K n w M)(a:M≠[]):(c7 M).pv=(bl M).2:=by rw[(MY b a).pv,show w=eJ M from(gj b a).symm,Nl b]
def Vo(b:bj K n w M)(a:M≠[]):bR ((c7 M).rows w M.length)=bR (bl M).1:=by rw[(MY b a).val,show w=eJ M from(gj b a).symm,Nl b]
def CK(b:bj K n w M)(a:M≠[])(c:M.length<=j\/w<=j):bj K (grow K j n) w ((c7 M).rows w M.length):=by have g:=(MY b a).g;have l:=V7 b c;rw[<-xg b a]at l;exact amo λ q=>(g q).mono (n9 l)
def akj(b:bj K n w M)(a:M≠[]):(∀p∈(c7 M).pv,p<w)/\(c7 M).pv.length<=M.length/\(c7 M).pv.Pairwise (·<·):=by have H:=lE b;rw[xg b a];refine⟨λ p c=>?_,H.pl,H.oY⟩;have:=H.lt p c;rwa[gj b a]at this
include F
def UB(c:bj K n w M)(b:M≠[])(h0:0<w)(o:M.length<=90)(p:w<16)(g:M.length<=j\/w<=j)(B:bm K q (grow K j n)):ag ab G 65 [aN M] (.aJ [aN (oq M),.int .i64 0]):=by have d:=gj c b;have cs:=wY G b;have el:=Hj G F M c b h0 o ac g B;have k:=CK c b g;have⟨l,h,_⟩:=akj c b;unfold oq;rw[d]at cs⊢;have m:((c7 M).rows w M.length).length=M.length:=kv;rw[<-m]at h;generalize(c7 M).rows w M.length=R at*;generalize c7 M=x at*;exact bL [hc (zy G (λ r i=>(c r i).1) ac),hc el,hc cs,aeJ G (rd:=aT x.dV.2.T.2.aw) (ed:=aF x.dV.2.a) k h l B F p ac cs]
end
section
open Go.ay Go.ay.eU Go.Proofs Go.Lib
def SG{G:Nat->Option (List aa)}(k:Nat)(l:List aj)(n:Nat)(h:n<=l.length):aR ab G:=.st k [] (.slice 2 (ar l) (some (aA n)) none none) (λ _=>{val:=ar (l.drop n)}) (λ σ p _=>by
 have e:gu (l.map aO).length (some (aA n)) none=some (n,(l.map aO).length):=by simp only[gu,iZ];rw[if_pos ⟨ac,by rw[aQ];omega⟩,Int.toNat_natCast]
 have:gv 2 (.sl 2 (l.map aO)) (some (aA n)) none none=some (ar (l.drop n)):=by simp only[gv,e];rw[kB,if_pos trivial];show some (aa.sl 2 _)=some (aa.sl 2 _);rw[List.map_drop]
 unfold ar;simp only[cd,this,oB];rfl)
variable(G:Nat->Option (List aa))
noncomputable abbrev aku(r:List aj)(l:List Nat)(i:Nat):List (Nat×aa):=[(0,ar r),(8,bW l),(9,.int .i64 ((l.map aA).length:Nat)),(10,aA i)]
def RX{r:List aj}{l:List Nat}(h:∀k∈l,k<r.length)(e:l.length<=9000):ag ab G 67 [ar r,bW l] (ar (cH l r)):=by refine bL [Cg (ak 67) 0 0 0 l.length 2 48 20 5 (λ i=>(r.getD (l.getD i 0) (aS 0)).T) ((cH l r).map aO) (aku r l) (.exit 0) [] al (λ i a=>?_) (xu [dH 11 aA l] (by intros;kernel_rfl)) ?_];have c:=h _ (bf a);rw[a4 a,a4 c];exact ug 9 10 (λ x=>[bB 11 aA a,aV 12 1 aA a,aV 17 2 aO c]++x++[bh 21 i]) (by intros;kernel_rfl);unfold cH;rw[jf,<-C1 (f:=aO∘λ k=>r.getD k (aS 0)) (d:=0)];rfl
noncomputable abbrev akD(M:List (List aj))(l:List Nat)(i:Nat):List (Nat×aa):=[(0,aN M),(8,bW l),(9,.int .i64 ((l.map aA).length:Nat)),(10,aA i)]
def RY{M:List (List aj)}{l:List Nat}(h:∀k∈l,k<M.length)(e:l.length<=9000):ag ab G 64 [aN M,bW l] (aN (bO M l)):=by refine bL [Cg (ak 64) 0 0 0 l.length 1 24 20 5 (λ i=>ar (M.getD (l.getD i 0) [])) ((bO M l).map ar) (akD M l) (.exit 0) [] al (λ i a=>?_) (xu [dH 11 aA l] (by intros;kernel_rfl)) ?_];have c:=h _ (bf a);rw[a4 a,a4 c];exact ug 9 10 (λ x=>[bB 11 aA a,aV 12 1 aA a,aV 17 1 ar c]++x++[bh 21 i]) (by intros;kernel_rfl);unfold bO;rw[jf,<-C1 (f:=ar∘λ k=>M.getD k []) (d:=0)];rfl
def adP(r:List aj)(w:Int):ag ab G 107 [ar r,.cr [c6 w] 0] (.bool (!decide ((r.length:Int)=w))):=by cases h:decide ((r.length:Int)=w)with|true=>exact aI [hb 7 (G2 h)]|false=>exact aI [hb 7 (G2 h)]
def u0(M:List (List aj))(w:Int):Bool:=decide (0<=w)&&M.all λ r=>decide ((r.length:Int)=w)
def K0{M:List (List aj)}{w:Int}(j:M.length<=9000):ag ab G 61 [aN M,c6 w] (.bool (u0 M w)):=by
 have e:(a8 M.length).any (λ i=>!decide (((M.getD i []).length:Int)=w))=!(M.all λ r=>decide ((r.length:Int)=w)):=by rw[Bool.eq_iff_iff,List.any_eq_true,Bool.not_eq_true',List.all_eq_false];constructor;rintro⟨i,a,h⟩;have a:=c8.1 a;rw[a4 a]at h;exact⟨_,bf a,by simpa using h⟩;rintro⟨r,f,h⟩;obtain⟨i,a,rfl⟩:=gJ.1 f;exact⟨i,c8.2 a,by rw[a4 a];simpa using h⟩
 have b:=Dp G (M:=M) (g:=107) (c:=.cr [c6 w] 0) (p:=λ i=>!decide (((M.getD i []).length:Int)=w)) j (λ i a=>by rw[a4 a];exact adP G M[i] w) e;unfold u0;cases h:decide (0<=w)with|false=>exact aI [hb 6 (show decide ((0:Int)<=w)=false from h)]|true=>cases h2:M.all λ r=>decide ((r.length:Int)=w)with|true=>rw[h2]at b;exact aI [hb 6 (show decide ((0:Int)<=w)=true from h),wG (A:=[aN M]) [0] (c6 w) 1 [c6 w] b]|false=>rw[h2]at b;exact aI [hb 6 (show decide ((0:Int)<=w)=true from h),wG (A:=[aN M]) [0] (c6 w) 1 [c6 w] b]
def ai4{M:List (List aj)}(h:∀r∈M,r.length=M.length)(a:M≠[])(d:M.length<=9000):ag ab G 113 [aN M] (.bool true):=by
 have cs:=wY G a;have c:eJ M=M.length:=by cases M with|nil=>exact absurd rfl a|cons r M=>exact h r cp
 rw[c]at cs;exact aI [hc (zy G h d),hc cs,hb 10 (show((((M.map ar).length:Nat):Int)==(M.length:Int))=true by rw[aQ];exact beq_self_eq_true _)]
noncomputable abbrev rL(R:List (List aj))(n j:Nat):aa:=ar ((R.getD j []).drop n)
noncomputable abbrev pG(n j:Nat):aa:=ar (dA n (some j))
noncomputable abbrev zh(M:List (List aj))(n i:Nat)(q:a7):List (Nat×aa):=[(0,aN M),(4,aA n),(5,.ai (q 0) 1 0 n false),(19,aA n),(20,aA i)]
noncomputable abbrev uL(n i:Nat)(q:a7):List (bt×aG):=[(q 0,⟨(aY n (dp .aH (pG n) i)).map λ x=>x,1,false⟩)]
noncomputable abbrev B6(n i:Nat)(q:a7):List (Nat×aa):=[(4,aA n),(7,.ref (q 1) 0 0),(9,.ai (q 0) 1 0 n false),(43,aA n),(44,aA i)]
noncomputable abbrev B5(R:List (List aj))(pv:List Nat)(rd ed:aa)(n i:Nat)(q:a7):List (bt×aG):=[(q 0,⟨(aY n (dp .aH (rL R n) i)).map λ x=>x,1,false⟩),(q 1,⟨[.agg (zk R pv rd ed)],4,false⟩)]
variable{K:bY}{q e r:Nat}(F:dN K q e r){n m j:Nat}{M:List (List aj)}
noncomputable def lz(M:List (List aj)):List (List aj):=(a8 M.length).map λ i=>(((c7 (eV M (ei M.length))).rows (M.length+M.length) M.length).getD i []).drop M.length
include F
def aiX(p:bj K m M.length M)(o:M≠[])(J:M.length<16)(V:M.length<=j)(hI:(c7 (eV M (ei M.length))).pv=a8 M.length)(B:bm K q (grow K j m)):ag ab G 68 [aN M] (.aJ [aN (lz M),.int .i64 0]):=by
 have S:0<M.length:=iy.2 o;have z:=yv p (qg (K:=K) (n:=m) M.length);have t:(eV M (ei M.length)).length=M.length:=by unfold eV;rw[ke,o8,tW]
 have bne:eV M (ei M.length)≠[]:=λ e=>by rw[e,iM]at t;omega
 have el:=Hj G F _ z bne ac ac ac (j:=j) ac B;rw[t,hI]at el;have C:=CK (j:=j) z bne ac;rw[t]at C;have v:=aiO G (A:=M) (B:=ei M.length) (o8 _).symm ac (λ r g=>⟨λ e=>by have:=(p r g).1;rw[e,iM]at this;omega,by rw[(p r g).1];omega⟩) (λ r g=>by have:=(qg (K:=K) (n:=m) M.length r g).1;exact⟨λ e=>by rw[e,iM]at this;omega,ac⟩);have H:aN (ei M.length)=.sl 1 (aY M.length (pG M.length)):=by show aa.sl 1 ((ei M.length).map ar)=_;unfold ei aY;rw[jf];rfl
 rw[H]at v;have O:aN (lz M)=.sl 1 (aY M.length (rL ((c7 (eV M (ei M.length))).rows (M.length+M.length) M.length) M.length)):=by show aa.sl 1 ((lz M).map ar)=_;unfold lz aY;rw[jf];rfl
 rw[O];have U:((c7 (eV M (ei M.length))).rows (M.length+M.length) M.length).length=M.length:=kv;generalize(c7 (eV M (ei M.length))).rows (M.length+M.length) M.length=R at*;have N:=ai4 G (λ r g=>(p r g).1) o ac;have I:(((M.map ar).length:Nat):Int)=(M.length:Int):=by rw[aQ]
 generalize E:M.length=n at*;have s:∀i,i<n->fe ab G (aZ (ak 68) 0) (ak 68).aK 200 .normal (zh M n i) (uL n i) (zh M n (i+1)) (uL n (i+1)):=λ i l=>en [hb 21 (dv l),hc (UE G l J),cy 28 1 [1] false n i,kM 28 1 [1] 1 n (λ x=>x) (dp .aH (pG n) i) (dp .aH (pG n) (i+1)) i (pG n i) (λ j _=>C5 j) rfl (h1:=H2 (λ _=>rfl) i i) (hu:=by unfold dp;split<;>rfl),bh 29 i];have f:=en (P:=ab) (G:=G) (c:=aZ (ak 68) 0) (n:=(ak 68).aK) (w:=200) (e:=.exit 0) (A:=zh M n n) (bJ:=uL n n) (B:=λ q=>[(0,aN M),(4,aA n),(5,.ai (q 0) 1 0 n false)]) (bS:=uL n n) [hb 21 (h7 (a2 n))];have x1:fe ab G (aZ (ak 68) 0) (ak 68).aK 200 (.exit 0) (zh M n n) (uL n n) (λ q=>[(0,aN M),(4,aA n),(5,.ai (q 0) 1 0 n false)]) (λ q=>[(q 0,⟨aY n (pG n),1,false⟩)]):=by unfold uL at f⊢;rw[zW]at f⊢;exact f
 generalize Q:c7 (eV M (ei n))=x at*;have u:∀i,i<n->fe ab G (aZ (ak 68) 1) (ak 68).aK 200 .normal (B6 n i) (B5 R (a8 n) (aT x.dV.2.T.2.aw) (aF x.dV.2.a) n i) (B6 n (i+1)) (B5 R (a8 n) (aT x.dV.2.T.2.aw) (aF x.dV.2.a) n (i+1)):=λ i l=>by
   have k:i<(a8 n).length:=by rw[dx];exact l
   have d:i<R.length:=ac;have L:(a8 n)[i]=i:=nh k;have y:n<=R[i].length:=by rw[(C _ (bf d)).1];omega
   have D:ar ((R[i]).drop n)=rL R n i:=by show _=ar ((R.getD i []).drop n);rw[a4 d]
   have hv:=SG (G:=G) 62 R[i] n y;exact en [hb 45 (dv l),aV 50 1 aA k,hb 53 (show((((a8 n)[i]:Nat):Int)!=(i:Int))=false by rw[L];exact bne_self_eq_false _),aV 59 1 ar d,SG 62 R[i] n y,cy 63 1 [1] false n i,kM 63 1 [1] 1 n (λ x=>x) (dp .aH (rL R n) i) (dp .aH (rL R n) (i+1)) i (ar ((R[i]).drop n)) (λ j _=>by rw[D];exact C5 j) rfl (h1:=H2 (λ _=>rfl) i i) (hu:=by unfold dp;split<;>rfl),bh 64 i]
 have bE:=en (P:=ab) (G:=G) (c:=aZ (ak 68) 1) (n:=(ak 68).aK) (w:=200) (e:=.exit 2) (A:=B6 n n) (bJ:=B5 R (a8 n) (aT x.dV.2.T.2.aw) (aF x.dV.2.a) n n) (B:=λ q=>[(9,.ai (q 0) 1 0 n false)]) (bS:=λ q=>[(q 0,⟨(aY n (dp .aH (rL R n) n)).map λ x=>x,1,false⟩)]) [hb 45 (h7 (a2 n))];haveI:bq (aY n (pG n)):=inferInstanceAs(bq ((a8 n).map (pG n)));haveI:dw 1 (aY n (pG n)):=⟨λ c hc=>by obtain⟨j,_,rfl⟩:=bp.1 hc;infer_instance⟩;refine ye hN [hc N,hw 15 I,uD 17 1 24 .aH n (λ x:aa=>x) (dp .aH (pG n) 0) (λ j _=>if_neg (fv _)),kN (ak 68) 0 0 n (c4 [[9,0]]) (zh M n) (uL n) (.exit 0) (λ q=>[(0,aN M),(4,aA n),(5,.ai (q 0) 1 0 n false)]) (λ q=>[(q 0,⟨aY n (pG n),1,false⟩)]) s x1 (t0:=zh M n 0 (c4 [[9,0]])) (k0:=uL n 0 (c4 [[9,0]])) rfl rfl,y7 [9,0] 1 (aY n (pG n)) n (gg _ _) (A:=[aN M]) v,hc el,uD 41 1 24 .aH n (λ x:aa=>x) (dp .aH (rL R n) 0) (λ j _=>if_neg (fv _)),kN (ak 68) 1 1 n (c4 [[1000000000000000000000013,0],[1000000000000000000000007,0]]) (B6 n) (B5 R (a8 n) (aT x.dV.2.T.2.aw) (aF x.dV.2.a) n) (.exit 2) (λ q=>[(9,.ai (q 0) 1 0 n false)]) (λ q=>[(q 0,⟨(aY n (dp .aH (rL R n) n)).map λ x=>x,1,false⟩)]) u bE (t0:=B6 n 0 (c4 [[1000000000000000000000013,0],[1000000000000000000000007,0]])) (k0:=B5 R (a8 n) (aT x.dV.2.T.2.aw) (aF x.dV.2.a) n 0 (c4 [[1000000000000000000000013,0],[1000000000000000000000007,0]])) rfl rfl] [([1000000000000000000000013,0],⟨(aY n (dp .aH (rL R n) n)).map λ x=>x,1,false⟩)] (.aJ [.ai [1000000000000000000000013,0] 1 0 n false,.int .i64 0]) an nI rfl am λ σ h=>?_;have h1:=h _ cp;simp only[zW]at h1;haveI:dw 1 (aY n (rL R n)):=⟨λ c hc=>by obtain⟨j,_,rfl⟩:=bp.1 hc;infer_instance⟩;exact lN (bZ (gr h1 (gg _ _)) (bZ (fk (JO _ _)) eT))
end
end Go.Proofs.YtpcofcmencgkbaaGreat
namespace Go.ay
section
variable{K:bY}{n m w:Nat}{M:List (List aj)}
def akq(b:bj K n w M){ord:List Nat}(ho:∀k∈ord,k<M.length)(d:ord.Nodup){j:Nat}(a:M.length<=j\/w<=j):(ey M ord).length<=j:=by have h:=xi b ho;rcases a with a|a;have:=aC.pe (S:=a8 M.length) (HD M d) λ x c=>c8.2 (h.1 x c);rw[dx]at this;omega;omega
end
end Go.ay
namespace Go.ay.eU
noncomputable section
open Classical
variable{K:bY}{n w:Nat}{M:List (List aj)}
def Span.trans{n m w:Nat}{C D:Nat->Nat->ax}{v:Nat->ax}(h:Span n w C v)(b:∀j,j<n->Span m w D (C j)):Span m w D v:=by have⟨y,d⟩:=h;refine⟨λ i=>bC n λ j=>y j*(if a:j<n then(b j a).choose i else 0),λ k c=>?_⟩;rw[d k c,cQ (g:=λ j=>bC m λ i=>y j*(if a:j<n then(b j a).choose i else 0)*D i k) λ j a=>by rw[(b j a).choose_spec k c,<-kU];exact cQ λ i _=>by rw[dif_pos a];grind];rw[pA];exact cQ λ i _=>by rw[<-tw]
def Span.congr{n w:Nat}{C D:Nat->Nat->ax}{u v:Nat->ax}(h:Span n w C u)(a:∀j,j<n->C j=D j)(e:u=v):Span n w D v:=by subst e;have⟨y,b⟩:=h;exact⟨y,λ k d=>(b k d).trans (cQ λ j c=>by rw[a j c])⟩
def ik.congr{n w:Nat}{C D:Nat->Nat->ax}(h:ik n w C)(a:∀j,j<n->C j=D j):ik n w D:=by have⟨c,h1,d⟩:=h;exact⟨c,h1,λ k e=>(cQ λ j b=>by rw[a j b]).trans (d k e)⟩
def di(M:List (List aj))(c:List Nat):Nat->Nat->ax:=λ j=>bs (bR M) (c.getD j 0)
def amp(M:List (List aj)){c:List Nat}{j:Nat}(a:j<c.length):(bO M c).getD j []=M.getD (c.getD j 0) []:=by unfold bO;rw[dt,List.getElem?_map,eO a,Option.map_some,Ew,a4 a]
def uZ(M:List (List aj)){c:List Nat}{j:Nat}(a:j<c.length):bs (bR (bO M c)) j=di M c j:=by funext k;unfold di;rw[jH,jH,amp M a]
def HS(d:bj K n w M){c:List Nat}(hc:∀k∈c,k<M.length)(a:c≠[]):(bl (bO M c)).2.length=c.length↔¬ik c.length w (di M c):=by have h:=agx (d.sub hc) (show bO M c≠[]from λ h=>a (nY.1 h));have e:(c.map λ i=>M.getD i []).length=c.length:=aQ ..;rw[e]at h;refine h.trans (not_congr ⟨λ h=>h.congr λ j b=>uZ M b,λ h=>h.congr λ j b=>(uZ M b).symm⟩)
def WY{c:List Nat}{k:Nat}(h:k∈c):Span c.length w (di M c) (bs (bR M) k):=by obtain⟨j,a,rfl⟩:=gJ.1 h;refine(Span.row (w:=w) (C:=di M c) a).congr (λ _ _=>rfl) ?_;unfold di;rw[a4 a]
def CX(M:List (List aj)){c:List Nat}{k j:Nat}(a:j<c.length):di M (c++[k]) j=di M c j:=by unfold di;rw[F9 a]
def Nj(M:List (List aj))(c:List Nat)(k:Nat):di M (c++[k]) c.length=bs (bR M) k:=by unfold di;rw[Ga]
def FB{w:Nat}{C:Nat->Nat->ax}:¬ik 0 w C:=λ⟨_,⟨j,a,_⟩,_⟩=>fv _ a
def HE(l:bj K n w M):∀(ord c:List Nat),(∀k∈ord,k<M.length)->(∀k∈c,k<M.length)->¬ik c.length w (di M c)->∀k∈ord,Span (ord.foldl (l9 M) c).length w (di M (ord.foldl (l9 M) c)) (bs (bR M) k)
 |[],c,_,_,_,k,a=>(cS a).elim|j::ord,c,ho,hc,g,k,a=>by
   have h1:∀i∈c++[j],i<M.length:=λ i g=>(jh.1 g).elim (hc i) λ h=>by rw[cq.1 h];exact ho j cp
   have o:=HS l h1 am;have f:∀k∈ord,k<M.length:=λ k a=>ho k (cR _ a);rw[List.foldl_cons];by_cases e:(bl (bO M (c++[j]))).2.length=(c++[j]).length;have m:l9 M c j=c++[j]:=if_pos (by rw[aQ];exact e);rw[m];rcases ct.1 a with rfl|a;exact WY (M0 M ord _ _ (List.mem_append_right _ (cq.2 rfl)));exact HE l ord _ f h1 (o.1 e) k a;have m:l9 M c j=c:=if_neg (by rw[aQ];exact e);rw[m];rcases ct.1 a with rfl|a;have hd:ik (c++[k]).length w (di M (c++[k])):=nO λ h=>e (o.2 h);rw[cP,k7]at hd;have p:=WZ (λ h=>g (h.congr λ j d=>CX M d)) hd;refine(p.congr (λ j d=>CX M d) (Nj M c k)).trans λ j d=>?_;exact WY (M0 M ord c _ (by rw[a4 d];exact bf d));exact HE l ord c f hc g k a
def Fc:∀{l m:List Nat},l.Pairwise (·<·)->m.Pairwise (·<·)->(∀x,x∈l↔x∈m)->l=m
 |[],[],_,_,_=>rfl|[],b::m,_,_,h=>(cS ((h b).2 cp)).elim|a::l,[],_,_,h=>(cS ((h a).1 cp)).elim|a::l,b::m,j,g,h=>by
   have⟨f,k⟩:=aal.1 j;have⟨d,i⟩:=aal.1 g;have e:a=b:=by rcases ct.1 ((h a).1 cp)with e|h1;exact e;rcases ct.1 ((h b).2 cp)with e|h2;exact e.symm;have:=f _ h2;have:=d _ h1;omega
   subst e;rw[Fc k i λ x=>⟨λ c=>(ct.1 ((h x).1 (cR _ c))).resolve_left λ e=>by have:=f _ c;omega,λ c=>(ct.1 ((h x).2 (cR _ c))).resolve_left λ e=>by have:=d _ c;omega⟩]
def abi{l:List Nat}{n:Nat}(b:l.Pairwise (·<·))(c:∀p∈l,p<n)(e:l.length=n):l=a8 n:=Fc b aam λ x=>⟨λ h=>c8.2 (c x h),λ h=>nO λ d=>by have:=T6 (b.imp λ h=>Nat.ne_of_lt h) c (c8.1 h) d;omega⟩
end
noncomputable section
open Classical
variable{n w:Nat}{A m:ee}{pv:List Nat}{C:Nat->Nat->ax}
def Sf(h:jA n w w A m pv){q:Nat}(hw:q<w)(d:q∉pv)(f:∀i,i<n->∀k,k<w->bs A i k=C k i):Span q n C (C q):=by
 refine⟨λ j=>-lB m pv q j,λ i c=>?_⟩;have e:=GZ h hw d c;rw[NM (r:=q+1) ac λ k h1 h2=>?_,cQ (g:=λ k=>lB m pv q k*C k i) λ k b=>by rw[f i c k ac];grind]at e;rw[bC,GY]at e;rw[cQ (g:=λ j=>(-1)*(lB m pv q j*C j i)) λ j _=>ap,kU];grind;have z:lB m pv q k=0:=by by_cases b:k∈pv;obtain⟨s,a,rfl⟩:=gJ.1 b;have l:=h.lead s a q (by rw[a4 a];omega);have:=WW h a q;rw[a4 a,l]at this;unfold lB;rw[if_neg ac,this];grind;exact L3 b ac
 rw[z];grind
def Vz(h:jA n w w A m pv){q:Nat}(hw:q<w)(o:q∈pv)(l:∀i,i<n->∀k,k<w->bs A i k=C k i):¬Span q n C (C q):=by
 rintro⟨y,p⟩;have⟨s,a,e⟩:=gJ.1 o;have es:pv.getD s 0=q:=by rw[a4 a,e]
 have f:=TB h (x:=λ k=>if k<q then y k else if k=q then-1 else 0) (λ i d=>by rw[NM (r:=q+1) ac λ k h1 h2=>by rw[if_neg ac,if_neg ac];grind];rw[bC,if_neg (nW q),if_pos rfl,cQ (g:=λ j=>y j*C j i) λ k b=>by rw[if_pos b,l i d k ac];grind,<-p i d,l i d q hw];grind) a;rw[pz hw _ λ k b c=>?_]at f;rw[if_neg (nW q),if_pos rfl]at f;have:=h.one s a s (by have:=h.qq;omega);rw[es,if_pos rfl]at this;rw[this]at f;grind;by_cases b:k<q;rw[h.lead s a k ac];grind;rw[if_neg b,if_neg c];grind
def Up(h:jA n w w A m pv)(l:pv.length=n):¬ik n n λ i s=>bs A i (pv.getD s 0):=by
 rintro⟨c,⟨f,a,hc⟩,h0⟩;have b:∀i,∃y:Nat->ax,i<n->∀k,k<w->bs m i k=bC n λ j=>y j*bs A j k:=λ i=>by by_cases d:i<n;have⟨y,g⟩:=h.to i d;exact⟨y,λ _=>g⟩;exact⟨λ _=>0,λ h=>(d h).elim⟩
 refine hc (TP (n:=n) (Y:=λ t i=>(b t).choose i) (W:=λ i s=>bs A i (pv.getD s 0)) (λ t e s o=>?_) h0 f a);have:=(b t).choose_spec e (pv.getD s 0) (h.tp s ac);rw[<-this,h.one s ac t e]
def ac8{n w:Nat}{C:Nat->Nat->ax}(h:Span n w C (C n)):ik (n+1) w C:=by have⟨y,b⟩:=h;refine⟨λ j=>if j=n then-1 else y j,⟨n,ac,by show(if n=n then(-1:ax)else y n)≠0;rw[if_pos rfl];grind⟩,λ k a=>?_⟩;show(bC n λ j=>(if j=n then(-1:ax)else y j)*C j k)+(if n=n then(-1:ax)else y n)*C n k=0;rw[if_pos rfl,cQ (g:=λ j=>y j*C j k) λ j c=>by rw[if_neg ac],<-b k a];grind
end
noncomputable section
open Classical
variable{K:bY}{n w:Nat}{M:List (List aj)}
def XP(f:bj K n w M)(a:M≠[]){i k:Nat}(d:i<w)(b:k<M.length):bs (bR (eR M)) i k=bs (bR M) k i:=by
 have g:i<(eR M).length:=by rw[ve,gj f a];exact d
 have e:(eR M)[i]=p3 M i:=by simp[eR]
 rw[jH,jH,a4 g,e];have c:(p3 M i).getD k (aS 0)=(M[k]).getD i (aS 0):=by rw[a4 (by unfold p3;rw[aQ];exact b)];simp[p3]
 rw[c,a4 b]
def anZ(b:bj K n w M)(a:M≠[])(hw:0<w):jA w M.length M.length (bR (eR M)) (bR (bl (eR M)).1) (bl (eR M)).2:=by
 have ky:(eR M).length=w:=by rw[ve,gj b a]
 have:=r0 (sc b) λ h=>by rw[h]at ky;simp at ky;omega
 rwa[ky]at this
def Vu(a:bj K n w M){ord:List Nat}(ho:∀k∈ord,k<M.length):¬ik (ey M ord).length w (di M (ey M ord)):=by by_cases e:ey M ord=[];rw[e];exact FB;exact(HS a (xi a ho).1 e).1 (M3 M ord e)
def Vv(l:bj K n w M)(f:M≠[])(hw:0<w):∀k,k<=M.length->ey M (a8 k)=(a8 k).filter λ i=>(bl (eR M)).2.contains i
 |0,_=>rfl|k+1,r=>by
   have s:=Vv l f hw k ac;have H:=anZ l f hw;have q:∀i,i<w->∀k,k<M.length->bs (bR (eR M)) i k=bs (bR M) k i:=λ i d k r=>XP l f d r;have o:∀i∈a8 k,i<M.length:=λ i d=>by have:=c8.1 d;omega
   have d:=Vu l o;have u:=HE l (a8 k) [] o (λ _ h=>(cS h).elim) FB;have p:∀i∈a8 k,Span (ey M (a8 k)).length w (di M (ey M (a8 k))) (bs (bR M) i):=u;have t:=(xi l o).1;have hb:∀i∈ey M (a8 k),i<k:=λ i d=>by rw[s]at d;exact c8.1 (qN.1 d).1
   have es:ey M (a8 (k+1))=l9 M (ey M (a8 k)) k:=by unfold ey;rw[ix,List.foldl_append];rfl
   rw[es,ix,lL,<-s];generalize ey M (a8 k)=c at*;have h1:∀i∈c++[k],i<M.length:=λ i d=>(jh.1 d).elim (t i) λ h=>by rw[cq.1 h];omega
   have h2:=HS l h1 am;rw[cP,k7]at h2;have key:(¬ik (c.length+1) w (di M (c++[k])))↔k∈(bl (eR M)).2:=by constructor;intro hd;refine nO λ a=>hd (ac8 ?_);have:=(Sf H ac a q).trans λ j b=>p j (c8.2 b);exact this.congr (λ j b=>(CX M b).symm) (Nj M c k).symm;intro a hd;refine Vz H ac a q ?_;have:=WZ (λ h=>d (h.congr λ j b=>CX M b)) hd;refine(this.congr (λ j b=>CX M b) (Nj M c k)).trans λ j b=>?_;have m:=hb _ (bf b);unfold di;rw[a4 b];exact Span.row m
   by_cases a:k∈(bl (eR M)).2;have e:=h2.2 (key.2 a);rw[show l9 M c k=c++[k]from if_pos (by rw[aQ,cP,k7];exact e),List.filter_cons_of_pos (vz.2 a)];rfl;have e:¬(bl (bO M (c++[k]))).2.length=c.length+1:=λ e=>a (key.1 (h2.1 e));rw[show l9 M c k=c from if_neg (by rw[aQ,cP,k7];exact e),List.filter_cons_of_neg (λ h=>a (vz.1 h))];exact(pQ _).symm
def M6(b:bj K n w M)(a:M≠[])(hw:0<w):(bl (eR M)).2=ey M (a8 M.length):=by
 rw[Vv b a hw M.length (a2 _)];have H:=lE (sc b);have ky:(eR M).length=w:=by rw[ve,gj b a]
 have lt:=H.lt;rw[gj (sc b) λ h=>by rw[h]at ky;simp at ky;omega]at lt;exact Fc H.oY (aam.filter _) λ x=>by rw[qN,c8,vz];exact⟨λ h=>⟨lt x h,h⟩,λ h=>h.2⟩
def Uo(a:List Nat){i s:Nat}(b:i<M.length)(c:s<a.length):bs (bR (M.map (cH a))) i s=bs (bR M) i (a.getD s 0):=by
 have e:(M.map (cH a)).getD i []=cH a (M.getD i []):=by rw[a4 (by rw[aQ];exact b),iz,a4 b]
 have d:(cH a (M.getD i [])).getD s (aS 0)=(M.getD i []).getD a[s] (aS 0):=by rw[a4 (by unfold cH;rw[aQ];exact c)];simp[cH]
 rw[jH,jH,e,d,a4 c]
def Fg{r:Nat}{A:List (List aj)}(g:bj K n r A)(d:A.length=r){i k:Nat}(j:i<r):(k<r->bs (bR (eV A (ei r))) i k=bs (bR A) i k)/\(k<r->bs (bR (eV A (ei r))) i (r+k)=if i=k then 1 else 0):=by
 have l:(eV A (ei r)).length=r:=by unfold eV;rw[ke,o8,d,tW]
 have a:i<A.length:=ac;have b:(eV A (ei r)).getD i []=A[i]++dA r (some i):=by rw[a4 ac];unfold eV ei;rw[D9,iz,nh]
 have c:=(g _ (bf a)).1;refine⟨λ f=>?_,λ f=>?_⟩;rw[jH,jH,b,a4 a,a4 (by rw[cP];omega),List.getElem_append_left ac,a4];rw[jH,b,a4 (by rw[cP,mi];omega),List.getElem_append_right ac];unfold dA;rw[iz,nh,c,Nat.add_sub_cancel_left];by_cases e:k=i;subst e;rw[if_pos rfl,if_pos rfl];rfl;rw[if_neg (λ h=>e (Option.some.inj h)),if_neg (λ h=>e h.symm)];rfl
def Uq(y:bj K n w M)(b:M≠[])(l:(bl M).2.length=M.length):(bl (eV (M.map (cH (bl M).2)) (ei M.length))).2=a8 M.length:=by
 have E:=r0 y b;have I:=Up E l;have g:=Cm y (bl M).2;rw[l]at g;have h:(M.map (cH (bl M).2)).length=M.length:=aQ ..;have v:=λ i(m:i<M.length)s(a:s<(bl M).2.length)=>Uo (M:=M) (bl M).2 m a;rw[l]at v;generalize(bl M).2=f at*;generalize M.map (cH f)=A at*;have t:=yv g (qg (K:=K) (n:=n) M.length);have o:(eV A (ei M.length)).length=M.length:=by unfold eV;rw[ke,o8,h,tW]
 have h0:=iy.2 b;have r:eV A (ei M.length)≠[]:=λ e=>by rw[e]at o;simp at o;omega
 have u:=r0 t r;rw[o]at u;have P:=agF u (λ d=>I (by have⟨c,h1,h2⟩:=d;exact⟨c,h1,λ k q=>by rw[<-h2 k q];exact cQ λ j x=>by rw[(Fg g h x).1 q,v j x k q]⟩)) (λ i m s a=>(Fg g h m).2 a);refine abi (lE t).oY (λ p z=>?_) P.1;obtain⟨s,a,rfl⟩:=gJ.1 z;have:=P.2 s ac;rwa[a4 a]at this
end
end Go.ay.eU
