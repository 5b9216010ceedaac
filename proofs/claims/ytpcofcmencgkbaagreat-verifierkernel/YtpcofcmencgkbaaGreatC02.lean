/- For the claim of VerifierKernel: parts VL10, VL11, VL12, VL13, VL14, VL15, VL16. -/
import Derived.Test.YtpcofcmencgkbaaGreatC01
import Derived.Lib.AppendZeros
import Derived.Laws.BytesArg
import Derived.Laws.Externs
import Derived.Lib.Bytealg
import Derived.Lib.Overlaps
import Derived.Orders
set_option linter.defProp false
set_option linter.unusedSectionVars false
set_option linter.unusedSimpArgs false
set_option linter.unusedVariables false
set_option maxRecDepth 100000
open Array renaming ext'->m5,getD_eq_getD_getElem?->sx,getElem?_eq_some_iff->xN,replicate->vm
open Bool renaming and_eq_true->gU,false_eq_true->iL
open ByteArray renaming mk->vy
open Classical renaming byContradiction->nO
open Go.Builtin renaming append_->qZ,cap_->Jd,clear_->EJ,copy_->EK,firstCells->aaL,lenOf->JU,len_->DX,max_->Zf,min_->Ze,zeroCells->A4
open Go.Conv renaming intToString->Zg
open Go.Deferred renaming ofValue->Y8
open Go.Extern renaming allGenericRows->Y9,allNextRows->OX,allTypedRows->Za,find->DV,findNext->DU
open Go.Extern.BytealgIndexByte renaming indexByte->Zb
open Go.Extern.SlicesOverlaps renaming overlaps->OW
open Go.Instr renaming sliceAt->qY
open Go.Region renaming wanted->O1
open Go.Result renaming andThen_ok->O0
open Go.Sem renaming run_bind->OZ
open Go.Utf8 renaming encode->Je
open Go.ay.Adv renaming refl->sj
open Go.ay.Env renaming yx->EI,uj->JT
open Go.ay.av renaming cells->PE,keep->tX
open Go.ay.eF renaming keep->A3
open Go.ay.bc renaming append->sB,len->EL
open Go.ay.Sound renaming MQ->mq,same->fV
open Go.ay.aL renaming app->lS,put->vH,mR->vG,uY->A2
open Go.ay.dD renaming ev->mo
open Go.ay.dJ renaming map->dZ
open Go.Value renaming bool->Jc
open Go.World renaming frozen?->Zd,shape?->Zc
open List renaming all_eq_true->dY,append_assoc->pO,countP_cons->Zi,eq_of_mem_replicate->lR,getD->Ax,getElem?_append_left->kd,getElem?_append_right->k5,getElem?_cons_zero->si,getElem?_eq_getElem->eO,getElem?_eq_some_iff->fc,getElem?_map->kZ,getElem?_set->xL,getElem?_toArray->Ea,length_append->cP,length_cons->gC,length_drop->m6,length_nil->iM,length_take->gV,map_congr_left->jR,map_cons->lP,mem_append->jh,mem_cons->ct,mem_cons_of_mem->cR,mem_filter->qN,mem_flatMap->kD,mem_map->bp,mem_of_mem_take->gK,mem_range->c8,range->a8,replicate->bM,suffix_cons->Zh,suffix_refl->vF
open Nat renaming add_zero->ij,le_refl->a2,lt_trichotomy->tH,mul_le_mul_right->ck,strongRecOn->xM,zero_add->cF
open Option renaming isSome_iff_exists->aaM,map_eq_some_iff->et,map_some->fb
open Option.some renaming injEq->a9
open Prod.mk renaming injEq->cN
open UInt8 renaming ofNat->OY
namespace Go.ay
section
variable{P:Program}{G:Nat->Option (List aa)}{own:Nat->Prop}{E:Env}{w:World}{σ:aL}{p:Id}
def aml(u:Inv G own E w σ)(jY:E.μ p=none)(gP:σ p=none){id:Id}{aq:aG}(eh:σ id=some aq)(M:aq.fr=false){g N:Nat}{a:Array Value}{ty:TypeId}(d:oQ E own w id aq g N a ty){ys:List aa}(C:∀e∈ys,e.size=aq.k){news:List Value}(hv:bc E w (flat ys) news)(r:aq.els.length+ys.length<=N){rd:List Id}:k9 G own E w σ p {val:=.ai p aq.k 0 (aq.els.length+ys.length) false,rd:=rd,up:=[(id,none),(p,some ⟨aq.els++ys,aq.k,false⟩)]} (.slice (some ⟨g,0,none⟩) (aq.els.length+ys.length) N) (E.bind p g aq.k N) (w.setRow g (a.toList.take (aq.els.length*aq.k)++news++a.toList.drop (aq.els.length*aq.k+news.length)).toArray):=by
 have⟨Y,X⟩:=fi.1 hv;have L:=ko C;have Q:=ko d.k;have hle:aq.els.length*aq.k+news.length<=a.size:=by rw[Y,L,d.size,<-Nat.add_mul];exact ck _ r
 generalize B:(a.toList.take (aq.els.length*aq.k)++news++a.toList.drop (aq.els.length*aq.k+news.length)).toArray=n;have z:(w.setRow g n).heap[g]?=some (.cells n ty (0,0)):=setRow_heap w g a n ty _ d.heap;have Z:id≠p:=by rintro rfl;simp[eh]at gP
 have H:ff E (E.bind p g aq.k N) w (w.setRow g n):=⟨λ i x h=>by rw[EI];exact h;rintro rfl;simp[jY]at h,λ _ h=>h,λ b hb=>setRow_other w g b n (λ e=>d.no M (e▸hb))⟩;have J:Adv own E (E.bind p g aq.k N) w (w.setRow g n):=⟨H,rfl,rfl,rfl,am,λ k _ C=>setRow_other w g k n (λ e=>C (e▸d.own)),λ _ h=>.inl h⟩;have U:n.size=a.size:=by rw[<-B];simp only[List.size_toArray,cP,gV,m6,Array.length_toList];omega
 refine⟨J,⟨?_,?_,?_,?_,?_⟩,?_,λ i l=>EI _ _ _ _ _ (λ e=>l (by rw[e];exact vF _))⟩;intro b hb;simpa using u.g6 b hb;intro i W h;simp only[lS]at h;by_cases t:i=p;subst t;rw[A2]at h;cases h;refine⟨g,N,n,ty,JT _ _ _ _ _,z,by rw[U];exact d.size,by simpa using r,d.most,d.own,am,λ _ hb=>d.no M hb,?_,?_⟩;intro e Q;rcases jh.1 Q with h|h;exact d.k e h;exact C e h;show ew _ _ g 0 (flat (aq.els++ys));rw[yP];have q:∀j,(w.setRow g n).cell? ⟨g,j,none⟩=n[j]?:=λ j=>cell_of_row _ _ _ _ _ _ z;have ht:(a.toList.take (aq.els.length*aq.k)).length=aq.els.length*aq.k:=by simp;omega
 refine Nr.2 ⟨λ j c R=>?_,λ j c R=>?_⟩;have F:j<aq.els.length*aq.k:=by rw[<-Q];exact(fc.1 R).1
 have⟨v,o,D⟩:=d.row j c R;rw[cF,cell_of_row _ _ _ _ _ _ d.heap]at o;refine⟨v,?_,tX H c v D⟩;rw[cF,q,<-B];simp only[Ea,pO];rw[kd ac,List.getElem?_take_of_lt F];simpa using o;have⟨v,o,D⟩:=X j c R;have F:j<news.length:=(fc.1 o).1;refine⟨v,?_,tX H c v D⟩;rw[cF,q,<-B,Q];simp only[Ea,pO];rw[k5 ac,ht,Nat.add_sub_cancel_left,kd F];exact o;rw[vG _ _ _ t]at h;by_cases m:i=id;subst m;simp[vH]at h;rw[vG _ _ _ m]at h;have⟨I,n4,K,S,A⟩:=u.blk i W h;have l:I≠g:=u.inj i id _ _ (by simp[h]) (by simp[eh]) m A.μ d.μ;exact⟨I,n4,K,S,A.keep H (setRow_other w g I n l) A.no⟩;intro i j x y hx L l h1 s;simp only[lS]at hx L;have f:∀i,i≠p->((σ.put id none).put p (some ⟨aq.els++ys,aq.k,false⟩)) i≠none->i≠id/\σ i≠none:=by
   intro i e h;rw[vG _ _ _ e]at h;have m:i≠id:=by rintro rfl;simp[vH]at h
   rw[vG _ _ _ m]at h;exact⟨m,h⟩
 by_cases t:i=p;have t:=t.symm;subst t;have m:j≠p:=λ e=>l e.symm;have⟨T,O⟩:=f j m L;rw[JT]at h1;rw[EI _ _ _ _ _ m]at s;have:=u.inj id j (g,aq.k,N) y (by simp[eh]) O (λ e=>T e.symm) d.μ s;simp only[a9]at h1;rw[<-h1];exact this;have⟨T,O⟩:=f i t hx;rw[EI _ _ _ _ _ t]at h1;by_cases m:j=p;subst m;rw[JT]at s;have:=u.inj i id x (g,aq.k,N) O (by simp[eh]) T h1 d.μ;simp only[a9]at s;rw[<-s];exact this;have⟨im,yV⟩:=f j m L;rw[EI _ _ _ _ _ m]at s;exact u.inj i j x y O yV l h1 s;intro I cs V;have⟨h1,s⟩:=u.jq I cs V;exact⟨h1,A3 H.bare (H.same I h1) cs 0 s⟩;intro k C;simp at C;exact u.new k C;simp only[av];exact⟨g,N,N,JT _ _ _ _ _,am,r,ac,d.most,am⟩
def PN(c:aa)(val:Value):Prop:=∀E w,av E w c val
def Kf{ys:List aa}(h:(ys.all λ e=>e.cells.all aa.one)=true):∀c∈flat ys,c.one=true:=by intro c b;simp only[flat,kD]at b;have⟨e,d,a⟩:=b;have:=dY.1 h e d;exact dY.1 this c a
def Ws(t ty e o:TypeId)(i:TypeInfo)(q:P.underlying t=some (.slice e))(r:P.info? e=some i)(g b d:Nat)(f:Array Value)(s:w.heap[g]?=some (.cells f o (0,0)))(a:Addr)(m c:Nat)(news:List Value)(v:news.length=m*i.size)(h:∀j u,news[j]?=some u->w.cell? (a.add j)=some u)(h1:∀u∈news,u.oneCell'=true)(k:b+m<=d)(n:b*i.size+news.length<=f.size):(qZ #[t,t] ty #[.slice (some ⟨g,0,none⟩) b d,.slice (some a) m c]).run P w=.ok (.slice (some ⟨g,0,none⟩) (b+m) d) (w.setRow g (f.toList.take (b*i.size)++news++f.toList.drop (b*i.size+news.length)).toArray):=by have x:=run_firstCells_some (P:=P) w i.size m a m c news v h;have l:=run_storeCells_at P g (b*i.size) o news 0 f w s (by simpa using n) h1;simp only[ij]at l;simp[qZ,run_underlying q,sizeOf,typeInfo,r,JU,k,x,Addr.add_lit,l]
def Y4{z:aa}{g:Value}(y:bc E w z.cells g.cells.toList)(n:Nat)(A:0<z.size):bc E w (flat (bM n z)) (A4 g.cells n).toList:=by
 have⟨s,h⟩:=fi.1 y;have q:∀e∈bM n z,e.size=z.size:=λ e u=>by rw[lR u]
 have f:=ko q;have o:g.cells.size=z.size:=by simpa[aa.size]using s
 refine fi.2 ⟨by rw[f];simp[A4,o],λ j c m=>?_⟩;have a:j<n*z.size:=by have:=(fc.1 m).1;rw[f]at this;simpa using this
 have k:j/z.size*z.size+j%z.size=j:=by rw[Nat.mul_comm];exact Nat.div_add_mod j z.size
 have d:=Nat.mod_lt j A;have b:j/z.size<n:=Nat.div_lt_of_lt_mul (by rwa[Nat.mul_comm]at a);have r:=yQ (i:=j/z.size) (e:=z) q (by simp[b]) d;rw[k,m]at r;have⟨v,t,x⟩:=h (j%z.size) c r.symm;refine⟨v,?_,x⟩;have l:g.cells[j%z.size]?=some v:=by simpa using t
 simp only[A4,Array.toList_map,Array.toList_range,kZ,o,List.getElem?_range a,fb];rw[getElem!_def,l]
def Vj(y:Inv G own E w σ){id:Id}{off k len:Nat}{mh:Bool}{news:List aa}{v:aa}{rd:List Id}{r:bG}(h:tC σ id off k news v rd=some r){a:Value}(u:av E w (.ai id k off len mh) a)(C:∀e∈news,e.size=k){vs:List Value}(x:bc E w (flat news) vs){val:Value}(c:PN v val):∃g cap,a=.slice (some ⟨g,off*k,none⟩) len cap/\∃w',(storeCells ⟨g,off*k,none⟩ vs).run P w=.ok () w'/\k9 G own E w σ p r val E w':=by
 unfold tC at h;split at h;rename_i aq eh;split at h;rename_i z;have⟨j,o,q,s⟩:=z;cases h;have⟨g,N,t,n,m⟩:=y.blk id aq eh;simp only[av]at u;obtain⟨K,J,cap,b,rfl,A,B,I,H⟩:=u;rw[m.μ]at b;simp only[a9,cN]at b;have⟨rfl,_,rfl⟩:=b;have⟨i,l,f⟩:=Xk y eh q m (e:=off) (news:=news) (vs:=vs) o (λ e F=>by rw[j];exact C e F) x;have D:off*aq.k=off*k:=by rw[j]
 rw[D]at i l f;have d:=run_storeCells_at P g (off*k) n vs 0 t w m.heap (by simpa using i) (MS x (Kf s));simp only[ij]at d;exact⟨g,cap,rfl,_,d,l,f,c E _,λ _ _=>rfl⟩;simp at h;simp at h
def acM(j:Inv G own E w σ){t e ty:TypeId}{z:aa}(hu:P.underlying t=some (.slice e))(y:mn P e=some z)(c:0<z.size){x:aa}{a:Value}(b:av E w x a){r:bG}(h:IM σ z.size z x=some r):Sound P G own E w σ p (EJ #[t] ty #[a]) r:=by have⟨D,C,i,l,k,u,d⟩:=xK y;have f:=PE (sT (E:=E) (w:=w) k) (tl d);unfold IM at h;split at h;cases h;simp only[av]at b;subst b;exact fV (v:=.tuple #[]) j (by simp[EJ,run_underlying hu]) (by simp only[av];exact⟨#[],rfl,by simp[bc]⟩);rename_i id k' off len mh;split at h;rename_i o;subst o;cases h;simp only[av]at b;obtain⟨F,H,cap,A,rfl,_⟩:=b;exact fV (v:=.tuple #[]) j (by simp[EJ,run_underlying hu]) (by simp only[av];exact⟨#[],rfl,by simp[bc]⟩);rename_i o;split at h;rename_i s;obtain⟨rfl,_⟩:=s;obtain⟨g,cap,rfl,w',n,q⟩:=Vj (P:=P) (p:=p) (val:=.tuple #[]) j h b (λ e B=>by rw[lR B]) (Y4 f len c) (λ E w=>by simp only[av];exact⟨#[],rfl,by simp[bc]⟩);refine⟨_,w',E,?_,q⟩;obtain⟨m,rfl⟩:∃m,len=m+1:=⟨len-1,ac⟩;simp[EJ,run_underlying hu,Y5 i l,n];simp at h;simp at h
def acY(v:Inv G own E w σ){t t2 e ty:TypeId}{i:TypeInfo}(hu:P.underlying t=some (.slice e))(q:P.info? e=some i){d x:aa}{a b:Value}(hd:av E w d a)(Q:av E w x b){r:bG}(h:IP σ i.size d x=some r):Sound P G own E w σ p (EK #[t,t2] ty #[a,b]) r:=by
 unfold IP at h;split at h;simp at h;rename_i ys rd D;obtain⟨k,K,c,rfl,R,o⟩:=FI v Q D;have zero:∀(F:Option Addr)(n cap:Nat),Nat.min ys.length n=0->(EK #[t,t2] ty #[.slice F n cap,.slice K ys.length c]).run P w=.ok (.int .i64 0) w:=by intro F n cap l;cases F<;>cases K<;>simp[EK,run_underlying hu,m0 q,JU,l,aaL,loadCells,loadCellsFrom,storeCells,goInt]
 split at h;cases h;simp only[av]at hd;subst hd;exact fV v (zero none 0 0 am) (by simp only[av]);rename_i id k' off len mh;split at h;rename_i l;cases h;simp only[av]at hd;obtain⟨T,U,cap,N,rfl,_⟩:=hd;have I:Nat.min ys.length len=0:=by have:=congrArg List.length (List.isEmpty_iff.1 l);simp only[gV,iM]at this;rw[Nat.min_comm]at this;exact this
 exact fV v (zero _ len cap I) (by simp only[av]);rename_i l;split at h;rename_i O;subst O;have z:ys≠[]:=by rintro rfl;simp at l
 obtain⟨C,J,rfl,A⟩:=o.resolve_left z;have j:∀e∈ys.take len,e.size=i.size:=λ e S=>k e (gK S);have s:ew E w C J (flat (ys.take len)):=by rw[K5 k];exact(Nr.1 (by rw[List.take_append_drop];exact A:ew E w C J ((flat ys).take (len*i.size)++(flat ys).drop (len*i.size)))).1
 have⟨news,u,H⟩:=Ox s;have B:news.length=(ys.take len).length*i.size:=by rw[EL u,ko j]
 obtain⟨g,cap,rfl,w',y,M⟩:=Vj (P:=P) (p:=p) (val:=.int .i64 (ys.take len).length) v h hd j u (λ E w=>by simp only[av]);refine⟨_,w',E,?_,M⟩;have f:Nat.min ys.length len=(ys.take len).length:=by rw[gV,Nat.min_comm]
 have L:=run_firstCells_some (P:=P) w i.size (ys.take len).length ⟨C,J,none⟩ ys.length c news B H;generalize(ys.take len).length=m at f L M⊢;simp[EK,run_underlying hu,m0 q,JU,f,L,y,goInt];simp at h;simp at h
def anj{d:Option TypeDesc}(h:NG d=true):∃e,d=some (.slice e):=by unfold NG at h;split at h;exact⟨_,rfl⟩;cases h
def amI{t d e f ty:TypeId}(hu:P.underlying t=some (.slice e))(c:P.underlying d=some (.slice f))(a b:Value)(w:World):(qZ #[t,d] ty #[a,b]).run P w=(qZ #[t,t] ty #[a,b]).run P w:=by cases a<;>simp[qZ,run_underlying hu,run_underlying c]
def abf(hi:Inv G own E w σ)(jY:E.μ p=none)(gP:σ p=none){t e ty:TypeId}{i:TypeInfo}(hu:P.underlying t=some (.slice e))(l4:P.info? e=some i)(hz:(mn P e).isSome=true){s x:aa}{a b:Value}(hs:av E w s a)(hx:av E w x b){r:bG}(h:sg σ p i.size i.bytes s x=some r):Sound P G own E w σ p (qZ #[t,t] ty #[a,b]) r:=by
 obtain⟨z,hz⟩:=aaM.1 hz;obtain⟨it,tG,hit,uJ,wH,LN,za⟩:=xK hz;rw[l4]at hit;cases hit;have LO:tG.cells.size=i.size:=by have:=EL (PE (sT (E:=E) (w:=w) wH) (tl za));simp at this;unfold aa.size at LN;omega
 unfold sg at h;split at h;simp at h;rename_i ys rd Ls;obtain⟨oe,YZ,xJ,rfl,S9,oh⟩:=FI hi hx Ls;split at h;rename_i Lt;have aga:ys=[]:=by simpa using Lt
 subst aga;have hrun:∀(base:Option Addr)(n cap:Nat),n<=cap->(qZ #[t,t] ty #[.slice base n cap,.slice YZ ([]:List aa).length xJ]).run P w=.ok (.slice base n cap) w:=by intro base n cap hn;cases base<;>cases YZ<;>simp[qZ,run_underlying hu,m0 l4,JU,hn,aaL,loadCells,loadCellsFrom,storeCells]
 split at h;cases h;have uH:=hs;simp only[av]at hs;subst hs;exact fV hi (hrun none 0 0 (a2 _)) uH;cases h;have uH:=hs;simp only[av]at hs;obtain⟨q,rfl,_⟩:=hs;exact fV hi (hrun q _ _ (a2 _)) uH;cases h;have uH:=hs;simp only[av]at hs;obtain⟨g,N,cap,_,rfl,hle,_⟩:=hs;exact fV hi (hrun _ _ _ hle) uH;simp at h;rename_i Lt;have hne:ys≠[]:=by simpa using Lt
 have y5:0<ys.length:=List.length_pos_iff.2 hne;obtain⟨Aq,Ar,rfl,af9⟩:=oh.resolve_left hne;obtain⟨news,rG,BV⟩:=Ox af9;have Lv:=ko oe;have uG:news.length=ys.length*i.size:=by rw[EL rG,Lv]
 have grow:∀(wa:Addr)(q:Nat)(es:List aa)(cap:Nat),(∀e∈es,e.size=i.size)->(es=[]\/∃b o,wa=⟨b,o,none⟩/\ew E w b o (flat es))->q=es.length->cap<q+ys.length->(q+ys.length)*i.bytes<=140737488355328->q+ys.length<=maxLen->∀rd,∃v w' E',(qZ #[t,t] ty #[.slice (some wa) q cap,.slice (some ⟨Aq,Ar,none⟩) ys.length xJ]).run P w=.ok v w'/\k9 G own E w σ p {val:=.ai p i.size 0 (q+ys.length) false,rd:=rd,up:=[(p,some ⟨es++ys,i.size,false⟩)]} v E' w':=by
   intro wa q es cap hk hr hq Gq hb hm rd;have afi:=ko hk;obtain⟨CG,y4,Gx⟩:∃vs:List Value,bc E w (flat es) vs/\∀j v,vs[j]?=some v->w.cell? (wa.add j)=some v:=by rcases hr with rfl|⟨b,o,rfl,hr⟩;exact⟨[],by simp[flat,bc],am⟩;exact Ox hr
   have afL:CG.length=q*i.size:=by rw[EL y4,afi,hq]
   have hrun:=run_append_grow (P:=P) w t ty e i tG hu l4 uJ wa q cap CG afL Gx ⟨Aq,Ar,none⟩ ys.length xJ news uG BV Gq (by unfold maxLen at hm;omega) (growslice_fits Gq hb);have y2:=grownCap_ge w (q+ys.length) cap e;have sZ:=grownCap_le_maxLen w (q+ys.length) cap e hm;refine⟨_,_,E.bind p w.heap.size i.size (grownCap w (q+ys.length) cap e),hrun,?_⟩;have:=FX (p:=p) (rd:=rd) hi jY gP (k:=i.size) (n:=q+ys.length) (N:=grownCap w (q+ys.length) cap e) (els:=es++ys) (λ e he=>(jh.1 he).elim (hk e) (oe e)) (by simp[hq]) (vs:=CG++news) (by rw[yP];exact sB y4 rG) (rest:=A4 tG.cells (grownCap w (q+ys.length) cap e-(q+ys.length))) (by rw[size_zeroCells,LO]) y2 sZ e;have afh:(CG++news).toArray=CG.toArray++news.toArray:=am;rw[afh]at this;exact this
 split at h;·split at h;rename_i b9;obtain⟨hb,hm,_⟩:=b9;cases h;simp only[av]at hs;subst hs;have hrun:=run_append_nil (P:=P) w t ty e i tG hu l4 uJ ⟨Aq,Ar,none⟩ ys.length xJ news uG BV y5 (by unfold maxLen at hm;omega) ac;have y2:=grownCap_ge w ys.length 0 e;have sZ:=grownCap_le_maxLen w ys.length 0 e hm;refine⟨_,_,E.bind p w.heap.size i.size (grownCap w ys.length 0 e),hrun,?_⟩;exact FX (p:=p) (rd:=rd) hi jY gP (k:=i.size) (n:=ys.length) (N:=grownCap w ys.length 0 e) (els:=ys) oe rfl rG (by rw[size_zeroCells,LO]) y2 sZ e;simp at h
 · rename_i k' es;split at h;rename_i b9;obtain⟨rfl,hb,hm,_⟩:=b9;cases h;simp only[av]at hs;obtain⟨q,rfl,_,hk,hr⟩:=hs;cases q with|none=>
     have hes:es=[]:=by rcases hr with h|⟨b,o,h,_⟩;exact h;simp at h
     subst hes;simp only[iM,cF,List.nil_append]at hb hm⊢;have hrun:=run_append_nil (P:=P) w t ty e i tG hu l4 uJ ⟨Aq,Ar,none⟩ ys.length xJ news uG BV y5 (by unfold maxLen at hm;omega) ac;have y2:=grownCap_ge w ys.length 0 e;have sZ:=grownCap_le_maxLen w ys.length 0 e hm;refine⟨_,_,E.bind p w.heap.size i.size (grownCap w ys.length 0 e),hrun,?_⟩;exact FX (p:=p) (rd:=rd) hi jY gP (k:=i.size) (n:=ys.length) (N:=grownCap w ys.length 0 e) (els:=ys) oe rfl rG (by rw[size_zeroCells,LO]) y2 sZ e|some wa=>exact grow wa es.length es es.length hk (hr.imp id λ⟨b,o,e,_,r⟩=>⟨b,o,by simpa using e,mc.1 r⟩) rfl ac hb hm rd
   simp at h
 · rename_i id k' off len mh;split at h;rename_i aq eh;split at h;rename_i b9;obtain⟨rfl,wB,rfl,hle,hb,hm,Ta⟩:=b9;obtain⟨g,N,cur,RP,hB⟩:=hi.blk id aq eh;simp only[av]at hs;obtain⟨g',n4,cap,wF,rfl,Ly,Gx,BO,rI⟩:=hs;rw[hB.μ]at wF;simp only[a9,cN]at wF;obtain⟨rfl,_,rfl⟩:=wF;have ly:∀e∈aq.els,e.size=i.size:=λ e he=>by rw[<-wB];exact hB.k e he
   simp only[Nat.zero_mul];split at h;split at h;rename_i ht _;cases h;rw[if_pos ht]at rI;have S2:=zU (l:=0) (r:=len) hB.k hB.row (Nat.zero_le _) hle;simp only[Nat.zero_mul,ij,List.drop_zero]at S2;exact grow ⟨g,0,none⟩ len (aq.els.take len) cap (λ e he=>ly e (gK he)) (.inr ⟨g,0,rfl,S2⟩) (by simp;omega) ac hb hm (id::rd);simp at h;split at h;rename_i ht Lw;obtain⟨Gv,BQ,kq⟩:=Lw;cases h;simp only[ht,iL,if_false,cF]at rI;subst Gv;by_cases hroom:aq.els.length+ys.length<=cap;have hrun:=Ws (P:=P) (w:=w) t ty e RP i hu l4 g aq.els.length cap cur hB.heap ⟨Aq,Ar,none⟩ ys.length xJ news uG BV (MS rG (Kf Ta)) hroom (by rw[uG,hB.size,wB,<-Nat.add_mul];exact ck _ ac);obtain rfl:cap=N:=rI;refine⟨_,_,E.bind p g i.size cap,hrun,?_⟩;have:=aml (p:=p) (rd:=id::rd) hi jY gP eh BQ hB (ys:=ys) (λ e he=>by rw[wB];exact oe e he) rG hroom;rw[wB]at this;exact this
   . obtain⟨v,w',E',hrun,GD⟩:=grow ⟨g,0,none⟩ aq.els.length aq.els cap ly (.inr ⟨g,0,rfl,hB.row⟩) rfl ac hb hm (id::rd);refine⟨v,w',E',hrun,GD.iO,?_,GD.rep,GD.ids⟩;have afH:id≠p:=by rintro rfl;simp[eh]at gP
     have:=ac7 GD.inv id;have he:(σ.app [(p,some ⟨aq.els++ys,i.size,false⟩)]).put id none=σ.app [(id,none),(p,some ⟨aq.els++ys,i.size,false⟩)]:=by
       funext j;simp only[lS,vH];by_cases e1:j=id;.subst e1;simp[afH]
       .simp[e1]
     rw[he]at this;exact this
   . split at h
     · rename_i ht _ Lw;obtain⟨Gv,BQ⟩:=Lw;cases h;simp only[ht,iL,if_false,cF]at rI;obtain rfl:cap=N:=rI;have hroom:len+ys.length<=cap:=Nat.le_trans Gv hB.len;obtain⟨wA,had,SR⟩:=Xk hi eh BQ hB (e:=len) (news:=ys) (vs:=news) Gv (λ e he=>by rw[wB];exact oe e he) rG;have e0:len*aq.k=len*i.size:=by rw[wB]
       rw[e0]at wA had SR;have hrun:=Ws (P:=P) (w:=w) t ty e RP i hu l4 g len cap cur hB.heap ⟨Aq,Ar,none⟩ ys.length xJ news uG BV (MS rG (Kf Ta)) hroom wA;refine⟨_,_,E,hrun,had,SR,?_,λ _ _=>rfl⟩;simp only[av];exact⟨g,cap,cap,by rw[hB.μ,wB],am,hroom,ac,BO,am⟩
     .simp at h
   .simp at h
   .simp at h
 .simp at h
def abg(S:Inv G own E w σ)(L:E.μ p=none)(O:σ p=none){t y e ty:TypeId}{i:TypeInfo}{I:IntKind}(hu:P.underlying t=some (.slice e))(j:P.info? e=some i)(D:P.underlying y=some (.int I)){z:aa}(M:mn P e=some z)(o:0<i.size){s x:aa}{a b:Value}(K:av E w s a)(J:av E w x b){r:bG}(h:Oz p i.size i.bytes z s x=some r):Sound P G own E w σ p (qZ #[t,y] ty #[a,b]) r:=by
 have⟨W,q,c,u,C,F,B⟩:=xK M;rw[j]at c;cases c;have f:=PE (sT (E:=E) (w:=w) C) (tl B);have d:q.cells.size=i.size:=by have:=EL f;simp at this;unfold aa.size at F;omega
 unfold Oz at h;split at h;rename_i kk n;split at h;rename_i U;have⟨X,hb,V,v,_⟩:=U;cases h;simp only[av]at K J;subst K;subst J;obtain⟨m,rfl⟩:∃m:Nat,n=m:=⟨n.toNat,ac⟩;have R:m*i.bytes<=140737488355328:=by rw[<-Int.natCast_mul]at hb;omega
 have l:m<=maxLen:=ac;have A:=grownCap_ge w m 0 e;have H:=grownCap_le_maxLen w m 0 e l;have g:=Lib.run_append_nil_zeros (P:=P) w t y ty e i q kk I hu D j u m ac o (by unfold maxLen at l;omega) ac;refine⟨_,_,E.bind p w.heap.size i.size (grownCap w m 0 e),g,?_⟩;have:=FX (p:=p) (rd:=[]) S L O (k:=i.size) (n:=m) (N:=grownCap w m 0 e) (els:=bM m z) (λ e T=>by rw[lR T];exact v) am (vs:=(A4 q.cells m).toList) (Y4 f m ac) (rest:=A4 q.cells (grownCap w m 0 e-m)) (by rw[size_zeroCells,d]) A H e;simpa using this;simp at h;simp at h
def fz(P:Program)(G:Nat->Option (List aa))(own:Nat->Prop)(E:Env)(w:World)(σ:aL)(p:Id)(r:bG)(s:Sem Next):Prop:=∃v w' E',(s.run P w=.ok (.value v) w'\/(s.run P w=.ok .skip w'/\v=undef))/\k9 G own E w σ p r v E' w'
def fz.of{s:Sem Value}{r:bG}(h:Sound P G own E w σ p s r):fz P G own E w σ p r (do pure (.value (<-s))):=by have⟨v,w',E',b,a⟩:=h;exact⟨v,w',E',.inl (by simp[b]),a⟩
def fz.ajP{s:Sem Unit}{r:bG}(h:∃w',s.run P w=.ok () w'/\k9 G own E w σ p r undef E w'):fz P G own E w σ p r (do s;pure .skip):=by have⟨w',b,a⟩:=h;exact⟨undef,w',E,.inr ⟨by simp[b],rfl⟩,a⟩
def wm{t:List aa}{a:Act}(e:gb E w t a)(d:Inv G own E w σ){x:Option Operand}{c:Option dD}(h:lj x=some c):lW E w (c.map (mo G t)) (x.map a.eval):=by cases x with|none=>simp only[lj,a9]at h;subst h;trivial|some x=>simp only[lj,et]at h;obtain⟨fZ,b,rfl⟩:=h;exact de e d b
def aoG{σ:aL}{x:aa}{ot:Option aa}{r:bG}(h:Dt σ x ot=some r):dC ot=some r\/∃id k off len aq,x=.ai id k off len false/\σ id=some aq/\off<=aq.els.length/\r={val:=.mM (aq.els.length-off),rd:=[id]}:=by unfold Dt at h;split at h;exact .inl h;split at h;rename_i id k off len;split at h;rename_i aq hb;split at h;rename_i a;simp only[a9]at h;exact .inr ⟨id,k,off,len,aq,rfl,hb,a,h.symm⟩;simp at h;simp at h;simp at h
def ao0(I:Inv G own E w σ){t e:TypeId}{i:TypeInfo}(hu:P.underlying t=some (.slice e))(z:P.info? e=some i){x:aa}{v:Value}(f:av E w x v){lo j mx:Option aa}{A y lH:Option Value}(s:lW E w lo A)(o:lW E w j y)(q:lW E w mx lH)(S:mx.isSome->j.isSome){r:bG}(h:oB σ i.size x lo j mx (gv i.size x lo j mx)=some r):Sound P G own E w σ p (qY t v A y lH) r:=by cases R:gv i.size x lo j mx with|some c=>rw[R]at h;refine mq (ot:=some c) h λ c' B=>?_;cases B;exact Yz I hu z f s o q S R|none=>
   rw[R]at h;simp only[oB]at h;split at h;rename_i id k' off len b9;split at h;rename_i aq hb;split at h;rename_i D;have⟨ho,hk⟩:=D;simp only[et]at h;obtain⟨c,D,rfl⟩:=h;simp only[av]at f;obtain⟨g,N,cap,Q,rfl,h1,U,h3,W⟩:=f;have⟨X,Z,Y,Ix,V⟩:=I.blk id aq hb;have T:=V.μ;rw[T]at Q;simp only[a9,cN]at Q;have⟨rfl,rfl,rfl⟩:=Q;simp only[iL,if_false]at W;have hl:=V.len;have M:av E w (.ai id aq.k off (aq.els.length-off) false) (.slice (some ⟨X,off*aq.k,none⟩) (aq.els.length-off) cap):=by simp only[av];exact⟨X,Z,cap,T,rfl,ac,U,h3,by simpa using W⟩
   have F:lH=none:=by cases lH with|none=>rfl|some _=>exact(q:False).elim
   subst F;have⟨v,w',E',C,J⟩:=Yz (p:=p) I hu z M s o (mx:=none) (lH:=none) q am D;cases y with|none=>exact(o:False).elim|some u=>refine⟨v,w',E',?_,⟨J.iO,J.inv,J.rep,J.ids⟩⟩;rw[<-C];simp[qY,Instr.slice,run_underlying hu,Instr.sliceBounds]
   simp at h;simp at h;rename_i b9 aht m;split at h;rename_i n d;split at h;rename_i l r' hb;split at h;rename_i D;cases h;obtain⟨h1,U⟩:=D;have K:m=((m.toNat:Nat):Int):=ac;obtain⟨a,cap,rfl,O⟩:∃a cap,v=.slice a n cap/\n<=cap:=by unfold TR at d;split at d;cases d;simp only[av]at f;exact⟨_,_,f,a2 _⟩;split at d;cases d;simp only[av]at f;obtain⟨a,cap,rfl,h,_⟩:=f;exact⟨_,_,rfl,h⟩;simp at d;split at d;cases d;simp only[av]at f;obtain⟨a,rfl,_⟩:=f;exact⟨_,_,rfl,a2 _⟩;simp at d;split at d;cases d;simp only[av]at f;obtain⟨g,N,cap,_,rfl,h,_⟩:=f;exact⟨_,_,rfl,h⟩;simp at d;simp at d
   unfold gu at hb;split at hb;simp at hb;rename_i l2 e1;split at hb;simp at hb;rename_i H e2;simp only[a9,cN]at hb;obtain⟨rfl,rfl⟩:=hb;obtain⟨L,_,_⟩:=pY (P:=P) (isSlice:=true) (len:=n) (cap:=cap) (m:=m.toNat) s o q O e1 e2 (.inr ⟨aht,by rw[<-K],am,ac,ac⟩);refine⟨.slice (if m.toNat=H then a else a.map (·.add (H*i.size))) (l2-H) (m.toNat-H),w,E,?_,⟨sj own E w,I,by simp only[av],λ _ _=>rfl⟩⟩;simp[qY,Instr.slice,run_underlying hu,L,m0 z];simp at h;simp at h;simp at h;simp at h
def aoZ(O:Inv G own E w σ){t e:TypeId}{n:Nat}{i:TypeInfo}(hu:P.underlying t=some (.array n e))(l4:P.info? e=some i)(h1:i.size=1)(hn:n<=maxLen){x:aa}{v:Value}(hx:av E w x v){lo I:Option aa}{V Z:Option Value}(rF:lW E w lo V)(nB:lW E w I Z){r:bG}(h:IV σ n x lo I=some r):Sound P G own E w σ p (qY t v V Z none) r:=by
 unfold IV at h;split at h;.rename_i id e';cases hb:σ id with|none=>simp[hb]at h|some aq=>simp only[hb]at h;cases K:aq.els[e']? with|none=>simp[K]at h|some el=>simp only[K]at h;cases J:gu n lo I with|none=>simp[J]at h|some q=>
   obtain⟨l,Q⟩:=q;simp only[J]at h;split at h;rename_i B;obtain⟨wD,Y⟩:=B;cases h;obtain⟨g,N,cur,ty,o⟩:=O.blk id aq hb;simp only[av]at hx;obtain⟨g',k',n4,U,rfl⟩:=hx;rw[o.μ]at U;simp only[a9,cN]at U;obtain⟨rfl,rfl,rfl⟩:=U;obtain⟨lx,od⟩:=Yi J;obtain⟨kq,oc,mK⟩:=pY (P:=P) (isSlice:=false) (mx:=none) (lH:=none) (m:=n) rF nB trivial (a2 _) lx od (.inl ⟨rfl,rfl⟩);have f:ff E ⟨E.μ,λ b=>E.ok b\/b=g⟩ w w:=⟨λ _ _ h=>h,λ b hb=>.inl hb,λ _ _=>rfl⟩;have R:Adv own E ⟨E.μ,λ b=>E.ok b\/b=g⟩ w w:=⟨f,rfl,rfl,rfl,a2 _,λ k hk _=>rfl,λ b hb=>by rcases hb with h|rfl;exact .inl h;exact .inr o.own⟩;have F:∀j,σ.app [(id,some {aq with fr:=true})] j=if j=id then some {aq with fr:=true}else σ j:=λ j=>rfl;have W:Inv G own ⟨E.μ,λ b=>E.ok b\/b=g⟩ w (σ.app [(id,some {aq with fr:=true})]):=by
     refine⟨?_,?_,?_,?_,O.new⟩;rintro b(hb|rfl);exact O.g6 b hb;exact ll o.heap;intro M abU L;rw[F]at L;by_cases eh:M=id;subst eh;rw[if_pos rfl]at L;cases L;exact⟨g,N,cur,ty,o.μ,o.heap,o.size,o.len,o.most,o.own,λ _=>.inr rfl,λ hf=>by simp at hf,o.k,ew.keep f rfl o.row⟩;rw[if_neg eh]at L;obtain⟨g2,EU,S,XV,d⟩:=O.blk M abU L;refine⟨g2,EU,S,XV,d.μ,d.heap,d.size,d.len,d.most,d.own,λ hf=>.inl (d.ok hf),λ hf mL=>?_,d.k,ew.keep f rfl d.row⟩;rcases mL with h|h;exact d.no hf h;exact O.inj M id _ _ (by simp[L]) (by simp[hb]) eh d.μ o.μ h;intro a b x y ha BP hne hx hy;have C:∀j,σ.app [(id,some {aq with fr:=true})] j≠none->σ j≠none:=by intro j D;rw[F]at D;by_cases eh:j=id;subst eh;simp[hb];rwa[if_neg eh]at D
     exact O.inj a b x y (C a ha) (C b BP) hne hx hy;intro aek cs hg;obtain⟨k1,k2⟩:=O.jq aek cs hg;exact⟨.inl k1,A3 f.bare rfl cs 0 k2⟩
   have A:ew E w g (0+e'*aq.k) el.cells:=Ns o.k o.row K;have T:∀c∈el.cells,aa.one c=true:=by simpa[dY]using Y
   have s:((el.cells.take Q).drop l).length=Q-l:=by rw[m6,gV];omega
   have X:∀c∈(el.cells.take Q).drop l,c.cells=[c]/\c.size=1:=by intro c B;have U:=T c (gK (List.mem_of_mem_drop B));cases c<;>first|(simp[aa.one]at U;done)|exact⟨rfl,rfl⟩
   have H:flat ((el.cells.take Q).drop l)=(el.cells.take Q).drop l:=by
     have:∀{es:List aa},(∀c∈es,c.cells=[c])->flat es=es:=by intro es;induction es with|nil=>intro _;rfl|cons a as ih=>intro h;show a.cells++flat as=a::as;rw[h a am,ih (λ c B=>h c (by simp[B]))];rfl
     exact this λ c B=>(X c B).1
   refine⟨.slice (some (if n=l then⟨g,e'*aq.k+0,none⟩else(⟨g,e'*aq.k+0,none⟩:Addr).add (l*i.size))) (Q-l) (n-l),w,_,?_,R,W,?_,λ _ _=>rfl⟩;simp[qY,run_underlying hu,Instr.sureAddr,kq,m0 l4];simp only[av];refine⟨_,_,by rw[s],by rw[s];omega,ac,λ c B=>(X c B).2,?_⟩;by_cases uG:n=l;left;rw[<-List.length_eq_zero_iff,s];omega;right;rw[if_neg uG,Addr.add_lit,h1];refine⟨g,e'*aq.k+0+l*1,rfl,.inr rfl,mc.2 ?_⟩;rw[H];intro j c D;rw[List.getElem?_drop]at D;have afn:el.cells[l+j]?=some c:=by rw[List.getElem?_take]at D;split at D;exact D;cases D
   obtain⟨u,af0,af1⟩:=A (l+j) c afn;refine⟨u,?_,tX f c u af1⟩;rw[<-af0];congr 2;omega;simp at h
 simp at h
def RS{f:FuncId}{fn:Func}{e:Array Value->Sem Value}{c:Call}{a:Act}{o:Oper}(i:o.op=.call c)(g:c.callee=.value (.func f))(l:P.funcs[f]?=some fn)(d:(fn.name== "runtime.NumGoroutine")=false)(hb:fn.body.isNone=true)(j:DU fn=none)(k:DV fn=some e){v:Value}{w':World}(h:(e (c.args.map a.eval)).run P w=.ok v w'):(execOp a.eval o).run P w=.ok (.value v) w':=by have h1:=run_callFunc_extern l d hb j k (c.args.map a.eval) w;rw[h]at h1;simp only[Result.andThen]at h1;have m:a.eval (.func f)=.func (.func f) #[] #[]:=rfl;simp[execOp,i,resolve,g,m,Y8,invoke,h1]
def RR{g:Operand}{k:EO}(h:BD P g=some k):∃f fn,g=.func f/\P.funcs[f]?=some fn/\fn.body.isNone=true/\((k=.idx/\fn.name= "internal/bytealg.IndexByteString"/\fn.origin= "")\/(k=.mP/\fn.origin= "slices.overlaps"/\Cr fn.name=true/\∃t e i,fn.params[0]?=some t/\P.underlying t=some (.slice e)/\P.info? e=some i)):=by unfold BD at h;split at h;rename_i f;split at h;rename_i fn a;split at h;rename_i hb;refine⟨f,fn,rfl,a,hb,?_⟩;split at h;rename_i c;simp only[a9]at h;simp only[gU,beq_iff_eq]at c;exact .inl ⟨h.symm,c.1,c.2⟩;split at h;rename_i d;simp only[gU,beq_iff_eq]at d;split at h;rename_i t j;split at h;rename_i e l;split at h;rename_i b;simp only[a9]at h;have⟨i,b⟩:=aaM.1 b;exact .inr ⟨h.symm,d.1,d.2,t,e,i,j,l,b⟩;simp at h;simp at h;simp at h;simp at h;simp at h;simp at h;simp at h
def ad7{fn:Func}(b:Cr fn.name=true)(c:fn.origin= "slices.overlaps"):DU fn=none/\DV fn=some (OW fn.params fn.resultTypes):=by unfold Cr at b;simp only[gU,Option.isNone_iff_eq_none]at b;have⟨⟨⟨⟨h1,e⟩,f⟩,h⟩,_⟩:=b;have g:Y9.lookup "slices.overlaps"=none:=an;have i:Za.lookup "slices.overlaps"=some OW:=an;have d:OX.lookup "slices.overlaps"=none:=an;constructor;simp[DU,h,c,d];simp[DV,h1,e,f,c,g,i]
def agt{fn:Func}(b:fn.name= "internal/bytealg.IndexByteString")(f:fn.origin= ""):DU fn=none/\DV fn=some Zb:=by have e:Y9.lookup "internal/bytealg.IndexByteString"=none:=an;have h:Za.lookup "internal/bytealg.IndexByteString"=none:=an;have g:Extern.allRows.lookup "internal/bytealg.IndexByteString"=some Zb:=an;have c:OX.lookup "internal/bytealg.IndexByteString"=none:=an;have d:OX.lookup ""=none:=an;constructor;simp[DU,b,f,c,d];simp[DV,b,e,h,g]
def Tf:∀(l:List UInt8)(c:UInt8),Lib.indexByte l c=wJ l c|[],_=>rfl|b::l,c=>by simp only[Lib.indexByte,wJ,Tf l c]
def agu{c:Call}{a:Act}{o:Oper}{v x y:Operand}(j:o.op=.call c)(d:c.callee=.value v)(F:BD P v=some .idx)(b:c.args.toList=[x,y])(D:Inv G own E w σ){g e:aa}(t:av E w g (a.eval x))(q:av E w e (a.eval y)){r:bG}(h:dC (OD g e)=some r):fz P G own E w σ p r (execOp a.eval o):=by
 obtain⟨f,fn,rfl,m,hb,A⟩:=RR F;rcases A with⟨_,u,B⟩|⟨C,_⟩;case inr=>simp at C
 have key:∃s n,g=.str s/\e=.int .u8 n/\r={val:=.int .i64 (wJ s n.toNat.toUInt8)}:=by unfold OD at h;split at h;simp only[dC,fb,a9]at h;exact⟨_,_,rfl,rfl,h.symm⟩;simp[dC]at h
 clear h;obtain⟨s,n,rfl,rfl,rfl⟩:=key;simp only[av]at t q;have⟨l,i⟩:=agt u B;have k:c.args.map a.eval=#[.string ⟨s.toArray⟩,.int .u8 n]:=by apply m5;simp[b,t,q]
 refine⟨.int .i64 (wJ s n.toNat.toUInt8),w,E,.inl (RS j d m (by rw[u];rfl) hb l i ?_),⟨sj own E w,D,by simp only[av],λ _ _=>rfl⟩⟩;rw[k,Lib.run_indexByteString,Tf]
def amJ(c o:Array TypeId){NZ e:TypeId}{i:TypeInfo}(hp:c[0]?=some NZ)(C:P.underlying NZ=some (.slice e))(z:P.info? e=some i)(a b:Addr)(l Ks lb bH:Nat)(h:a.block≠b.block){g d:Array Value}{B Xt:TypeId}(s:w.heap[a.block]?=some (.cells g B (0,0)))(hb:w.heap[b.block]?=some (.cells d Xt (0,0)))(r:d.size≠0):(OW c o #[.slice (some a) l Ks,.slice (some b) lb bH]).run P w=.ok (.bool false) w:=by
 have q:(a.block !=b.block)=true:=by simpa using h
 have k:(a.block==b.block)=false:=by simpa using h
 have x:w.shape? a.block=some (B,g.size):=by simp[Zc,s]
 have n:w.shape? b.block=some (Xt,d.size):=by simp[Zc,hb]
 have v:w.frozen? a=false:=by simp[Zd,s]
 have u:w.frozen? {block:=a.block,off:=g.size}=false:=by simp[Zd,s]
 have hz:(Go.sizeOf e).run P w=.ok i.size w:=m0 z w;change Sem.run P (α:=Value) (do
   let some t:=c[0]?|stuck "slices.overlaps: no parameter types"
   let .slice j<-underlying t|stuck "slices.overlaps: slice type expected"
   let f<-sizeOf j
   match(some a:Option Addr),(some b:Option Addr)with|some a,some b=>if l=0\/lb=0\/f=0 then pure (Jc false)else if a.block !=b.block&&(<-frozen a)&&(<-frozen b)then unsupported .addressObserved else do
       if a.block !=b.block then do noView a;noView b if<-mayBeOne a b then return Jc ((<-choose (.extern "sameAddr.stringBytes" 2))==1)
       pure (Jc (a.block==b.block&&a.off<b.off+lb*f&&b.off<a.off+l*f))|_,_=>pure (Jc false)) w=_;rw[hp];by_cases A:l=0\/lb=0\/i.size=0;simp[run_underlying C,hz,A];cases D:d.size with|zero=>exact absurd D r|succ Tq=>simp[run_underlying C,hz,A,q,k,frozen,noView,viewAt,mayBeOne,stringish,shape,Sem.run,x,n,v,u,D]
def akc{c:Call}{a:Act}{o:Oper}{N x y:Operand}(J:o.op=.call c)(n:c.callee=.value N)(hk:BD P N=some .mP)(k:c.args.toList=[x,y])(v:Inv G own E w σ){R T:aa}(Q:av E w R (a.eval x))(S:av E w T (a.eval y)){r:bG}(h:Dx σ R T=some r):fz P G own E w σ p r (execOp a.eval o):=by
 obtain⟨f,fn,rfl,H,hb,b9⟩:=RR hk;rcases b9 with⟨h0,_⟩|⟨_,Z,d,NZ,e,i,X,W,z⟩;case inl=>simp at h0
 unfold Dx at h;split at h;rename_i q k1 o1 jv t1 u k2 o2 V t2;split at h;simp at h;rename_i B;split at h;rename_i b1 b2 h1 U;split at h;rename_i s;cases h;simp only[av]at Q S;have⟨g1,aqY,c1,j,A,_⟩:=Q;have⟨g2,EU,o0,g,C,_⟩:=S;have⟨M,aqZ,O,Y,t⟩:=v.blk q b1 h1;have⟨I,aq0,m,XV,b⟩:=v.blk u b2 U;have hg:g1≠g2:=v.inj q u _ _ (by simp[h1]) (by simp[U]) B j g;rw[t.μ]at j;rw[b.μ]at g;simp only[a9,cN]at j g;have⟨rfl,_,_⟩:=j;have⟨rfl,_,_⟩:=g;have⟨L,D⟩:=ad7 d Z;have l:(fn.name== "runtime.NumGoroutine")=false:=by unfold Cr at d;simp only[gU,Bool.not_eq_true']at d;exact d.2
 have F:c.args.map a.eval=#[.slice (some ⟨M,o1*k1,none⟩) jv c1,.slice (some ⟨I,o2*k2,none⟩) V o0]:=by apply m5;simp[k,A,C]
 have K:m.size≠0:=by rw[b.size];have hl:=b.len;exact Nat.ne_of_gt (Nat.mul_pos ac s.1)
 refine⟨.bool false,w,E,.inl (RS J n H l hb L D ?_),⟨sj own E w,v,by simp only[av],λ _ _=>rfl⟩⟩;rw[F];exact amJ fn.params fn.resultTypes X W z _ _ _ _ _ _ hg t.heap b.heap K;simp at h;simp at h;simp at h
def ab0(hi:Inv G own E w σ)(jY:E.μ p=none)(gP:σ p=none){t:List aa}{a:Act}(hf:gb E w t a){b:Builtin}{args:Array Operand}{ts:Array TypeId}{ty:TypeId}{cs:Array Bool}{qI:dJ dD}(hc:Fm P b args ts=some qI){r:bG}(h:cd σ p (qI.map (mo G t))=some r){R:Prop}(fin:∀{s:Sem Value},builtin b ts ty cs (args.map a.eval)=(do pure (.value (<-s)))->Sound P G own E w σ p s r->R):R:=by
 unfold Fm at hc;split at hc
 · rename_i x xA l3 s6;have ob:args=#[x]:=by apply m5;simpa using l3
   have s7:ts=#[xA]:=by apply m5;simpa using s6
   refine fin (s:=DX ts ty (args.map a.eval)) rfl ?_;rw[ob,s7];split at hc;rename_i hu;simp only[et]at hc;obtain⟨fZ,y8,rfl⟩:=hc;simp only[dZ,cd]at h;have hr:=de hf hi y8;refine mq h λ cc hcc=>?_;cases hx:fZ.ev G t<;>simp only[hx,mj,a9,reduceCtorEq]at hcc;rename_i l;rw[hx]at hr;simp only[av]at hr;subst hcc;refine fV (v:=.int .i64 l.length) hi ?_ (by simp only[av]);have hsz:(vy l.toArray).size=l.length:=by show l.toArray.size=l.length;simp
   simp[DX,run_underlying hu,hr,goInt,hsz];rename_i e hu;simp only[et]at hc;obtain⟨fZ,y8,rfl⟩:=hc;simp only[dZ,cd]at h;have hr:=de hf hi y8;refine mq h λ cc hcc=>?_;have hrun:∀(ad:Option Addr)(n c:Nat),a.eval x=.slice ad n c->(DX #[xA] ty (#[x].map a.eval)).run P w=.ok (.int .i64 n) w:=by intro ad n c he;simp[DX,run_underlying hu,he,goInt]
   cases hx:fZ.ev G t<;>simp only[hx,mj,a9,reduceCtorEq]at hcc<;>rw[hx]at hr<;>simp only[av]at hr<;>subst hcc;obtain⟨ad,cap,he,_⟩:=hr;exact fV hi (hrun _ _ _ he) (by simp only[av]);obtain⟨ad,he,_⟩:=hr;exact fV hi (hrun _ _ _ he) (by simp only[av]);exact fV hi (hrun _ _ _ hr) (by simp only[av];rfl);obtain⟨g,N,cap,_,he,_⟩:=hr;exact fV hi (hrun _ _ _ he) (by simp only[av]);rename_i n e hu;simp only[et]at hc;obtain⟨fZ,y8,rfl⟩:=hc;simp only[dZ,cd]at h;refine mq h λ cc hcc=>?_;cases hcc;refine fV (v:=.int .i64 n) hi ?_ (by simp only[av]);simp[DX,run_underlying hu,goInt];simp at hc
 · rename_i s x t1 t2 l3 s6;have ob:args=#[s,x]:=by apply m5;simpa using l3
   have s7:ts=#[t1,t2]:=by apply m5;simpa using s6
   refine fin (s:=qZ ts ty (args.map a.eval)) rfl ?_;rw[ob,s7];split at hc;rename_i e hu;split at hc;rename_i i l4;split at hc;rename_i b9;obtain⟨afW,_,_,hz⟩:=b9;obtain⟨e',afZ⟩:=anj afW;split at hc;rename_i vs kA y9 qf;cases hc;simp only[dZ,cd]at h;obtain⟨v,w',E',hr,hp⟩:=abf (ty:=ty) hi jY gP hu l4 hz (de hf hi y9) (de hf hi qf) h;refine⟨v,w',E',?_,hp⟩;rw[<-hr,<-amI (ty:=ty) hu afZ];simp;simp at hc;split at hc;rename_i aru z vs kA afq hz y9 qf;split at hc;rename_i y5;cases hc;simp only[dZ,cd]at h;have:=abg (P:=P) (ty:=ty) hi jY gP hu l4 afq hz y5 (de hf hi y9) (de hf hi qf) h;simpa using this;simp at hc;simp at hc;simp at hc;simp at hc
 · rename_i x xA l3 s6;have ob:args=#[x]:=by apply m5;simpa using l3
   have s7:ts=#[xA]:=by apply m5;simpa using s6
   refine fin (s:=Jd ts ty (args.map a.eval)) rfl ?_;rw[ob,s7];split at hc
   . rename_i e hu;simp only[et]at hc;obtain⟨fZ,y8,rfl⟩:=hc;simp only[dZ,cd]at h;have hr:=de hf hi y8;rcases aoG h with h|⟨id,k,off,len,aq,hx,eh,arp,rfl⟩;case inr=>rw[hx]at hr;simp only[av]at hr;obtain⟨g,N,cap,wF,hv,h1,h2,h3,h4⟩:=hr;obtain⟨g',n4,cur,Ix,hB⟩:=hi.blk id aq eh;rw[hB.μ]at wF;simp only[a9,cN]at wF;obtain⟨rfl,_,rfl⟩:=wF;refine fV (v:=.int .i64 cap) hi (by simp[Jd,run_underlying hu,hv,goInt]) ?_;simp only[av];have:=hB.len;simp only[iL,if_false]at h4;exact⟨cap,ac,rfl⟩
     refine mq h λ cc hcc=>?_;have hrun:∀(ad:Option Addr)(n c:Nat),a.eval x=.slice ad n c->(Jd #[xA] ty (#[x].map a.eval)).run P w=.ok (.int .i64 c) w:=by intro ad n c he;simp[Jd,run_underlying hu,he,goInt]
     unfold OA at hcc;split at hcc;.rename_i hx;rw[hx]at hr;simp only[av]at hr;cases hcc;exact fV hi (hrun _ _ _ hr) (by simp only[av];rfl)
     .rename_i hx;rw[hx]at hr;simp only[av]at hr;cases hcc;obtain⟨ad,he,_⟩:=hr;exact fV hi (hrun _ _ _ he) (by simp only[av])
     .rename_i hx;rw[hx]at hr;simp only[av,if_true]at hr;cases hcc;obtain⟨g,N,cap,_,he,_,_,_,Gq⟩:=hr;subst Gq;exact fV hi (hrun _ _ _ he) (by simp only[av])
     .simp at hcc
   .simp at hc
 · rename_i x xA l3 s6;have ob:args=#[x]:=by apply m5;simpa using l3
   have s7:ts=#[xA]:=by apply m5;simpa using s6
   refine fin (s:=EJ ts ty (args.map a.eval)) rfl ?_;rw[ob,s7];split at hc
   . rename_i e hu;split at hc
     . rename_i z kA hz qf;split at hc;.rename_i y5;cases hc;simp only[dZ,cd]at h;have:=acM (P:=P) (p:=p) (ty:=ty) hi hu hz y5 (de hf hi qf) h;simpa using this
       .simp at hc
     .simp at hc
   .simp at hc
 · rename_i d x t1 t2 l3 s6;have ob:args=#[d,x]:=by apply m5;simpa using l3
   have s7:ts=#[t1,t2]:=by apply m5;simpa using s6
   refine fin (s:=EK ts ty (args.map a.eval)) rfl ?_;rw[ob,s7];split at hc
   . rename_i e hu;split at hc
     . rename_i i l4;split at hc
       . split at hc;.rename_i Du kA af5 qf;cases hc;simp only[dZ,cd]at h;have:=acY (P:=P) (p:=p) (ty:=ty) (t2:=t2) hi hu l4 (de hf hi af5) (de hf hi qf) h;simpa using this
         .simp at hc
       .simp at hc
     .simp at hc
   .simp at hc
 · rename_i x y l3;have ob:args=#[x,y]:=by apply m5;simpa using l3
   refine fin (s:=Ze ts ty (args.map a.eval)) rfl ?_;rw[ob];split at hc
   . rename_i kA Dy qf LK;cases hc;simp only[dZ,cd]at h;have s4:=de hf hi qf;have s5:=de hf hi LK;split at h;.rename_i k n k' m hx hy;rw[hx]at s4;rw[hy]at s5;simp only[av]at s4 s5;refine mq h λ cc hcc=>?_;cases hcc;refine fV (v:=.int k (if m<n then m else n)) hi ?_ (by simp only[av]);simp[Ze,s4,s5,Builtin.min2]
     .simp at h
   .simp at hc
 · rename_i x y l3;have ob:args=#[x,y]:=by apply m5;simpa using l3
   refine fin (s:=Zf ts ty (args.map a.eval)) rfl ?_;rw[ob];split at hc
   . rename_i kA Dy qf LK;cases hc;simp only[dZ,cd]at h;have s4:=de hf hi qf;have s5:=de hf hi LK;split at h;.rename_i k n k' m hx hy;rw[hx]at s4;rw[hy]at s5;simp only[av]at s4 s5;refine mq h λ cc hcc=>?_;cases hcc;refine fV (v:=.int k (if m>n then m else n)) hi ?_ (by simp only[av]);simp[Zf,s4,s5,Builtin.max2]
     .simp at h
   .simp at hc
 .simp at hc
def QB:∀{ys:List aa}{l:List UInt8},Bn ys=some l->∃zs:List Int,ys=zs.map (aa.int .u8)/\l=zs.map λ n=>OY n.toNat|[],l,h=>by simp only[Bn,a9]at h;subst h;exact⟨[],rfl,rfl⟩|.int .u8 n::r,l,h=>by simp only[Bn,et]at h;obtain⟨l',h1,rfl⟩:=h;obtain⟨zs,rfl,rfl⟩:=QB h1;exact⟨n::zs,rfl,rfl⟩
def R7(k:IntKind):∀zs:List Int,flat (zs.map (aa.int k))=zs.map (aa.int k)|[]=>rfl|z::zs=>by have:=R7 k zs;simp only[lP,flat,List.flatMap_cons,aa.cells]at this⊢;rw[this];rfl
def ab5(s:Inv G own E w σ){c d e:TypeId}(t:P.underlying c=some (.slice e))(u:P.underlying e=some (.int .u8))(hd:P.underlying d=some .string){x:aa}{v:Value}(y:av E w x v){r:bG}(h:Dr σ x=some r):Sound P G own E w σ p (convert c d v) r:=by
 unfold Dr at h;split at h;rename_i ys rd k;simp only[et]at h;obtain⟨l,A,rfl⟩:=h;obtain⟨zs,rfl,rfl⟩:=QB A;obtain⟨_,a,cap,rfl,B,g⟩:=FI s y k;refine fV (v:=.string ⟨(zs.map λ n=>OY n.toNat).toArray⟩) s ?_ (by simp[av]);rcases g with g|⟨b,o,rfl,g⟩;have z:zs=[]:=by simpa using g
 subst z;rw[run_convert_bytes_string w c d e _ _ _ t u hd];cases a with|none=>simp[Conv.bytesToString];rfl|some a=>rw[run_bytesToString w a _ _ [] (by simp[loadCells,loadCellsFrom])];rfl
 rw[R7]at g;have:=run_convert_bytes_arg (P:=P) w c e t u b o zs.length cap zs rfl (λ i j=>by
   have⟨v,h1,m⟩:=g i (.int .u8 zs[i]) (by rw[kZ,eO j];rfl);simp only[av]at m;subst m;have f:(⟨b,o,none⟩:Addr).add i=⟨b,o+i,none⟩:=by simp[Addr.add]
   first|rw[f]at h1|skip
   rw[h1,List.getD_eq_getElem?_getD,eO j];rfl) d hd;simpa[strOfNums]using this;simp at h
def RG{n:Int}(c:0<=n/\n<128):Je n=⟨[OY n.toNat].toArray⟩:=by
 have b:Utf8.valid n=true:=by unfold Utf8.valid;simp;omega
 unfold Je;simp only[b,if_true];rw[if_pos ac]
def ajY(B:Inv G own E w σ)(jY:E.μ p=none)(gP:σ p=none){t:List aa}{a:Act}(D:gb E w t a){o:Oper}{qI:dJ dD}(j:gE P o.op=some qI){r:bG}(h:cd σ p (qI.map (mo G t))=some r):fz P G own E w σ p r (execOp a.eval o):=by
 unfold execOp;cases ho:o.op<;>rw[ho]at j<;>simp only[];case move x=>simp only[gE,et]at j;obtain⟨fZ,I,rfl⟩:=j;simp only[dZ,cd,dC,fb,a9]at h;subst h;exact⟨a.eval x,w,E,.inl rfl,sj own E w,B,de D B I,λ _ _=>rfl⟩
 case assign x=>simp only[gE,et]at j;obtain⟨fZ,I,rfl⟩:=j;simp only[dZ,cd,dC,fb,a9]at h;subst h;exact⟨a.eval x,w,E,.inl rfl,sj own E w,B,de D B I,λ _ _=>rfl⟩
 case pick c x y=>simp only[gE]at j;cases V:b8 c with|none=>simp[V]at j|some eA=>cases u:b8 x with|none=>simp[V,u]at j|some kA=>cases J:b8 y with|none=>simp[V,u,J]at j|some Dy=>simp only[V,u,J,a9]at j;subst j;simp only[dZ,cd]at h;have LG:=de D B V;have s4:=de D B u;have s5:=de D B J;split at h;rename_i b hb;rw[hb]at LG;simp only[av]at LG;simp only[dC,fb,a9]at h;subst h;refine⟨if b then a.eval x else a.eval y,w,E,.inl (by simp[LG,asBool]),sj own E w,B,?_,λ _ _=>rfl⟩;cases b;exact s5;exact s4;simp at h
 case alloc ty=>simp only[gE,et]at j;obtain⟨z,hz,rfl⟩:=j;simp only[dZ,cd,mo]at h;obtain⟨it,tG,hit,uJ,wH,LN,za⟩:=xK hz;split at h;cases h;have:=Qu (P:=P) (p:=p) B jY gP (sT wH) za ty;refine fz.of ?_;obtain⟨v,w',E',C,hp⟩:=this;refine⟨v,w',E',?_,hp⟩;simp only[Instr.alloc,OZ,Y5 hit uJ,O0];exact C;rename_i hno;exact absurd za hno
 case box ty x=>simp only[gE,et]at j;obtain⟨fZ,I,rfl⟩:=j;simp only[dZ,cd]at h;split at h;rename_i Gy;cases h;exact fz.of (Qu B jY gP (de D B I) Gy ty);simp at h
 case build ty ps=>exact fz.of (abZ B D j h)
 case buildSlice ty n ps=>exact fz.of (abY B jY gP D j h)
 case load ty x=>simp only[gE]at j;cases ha:oi P ty with|none=>simp[ha]at j|some g=>cases R:P.info? ty with|none=>simp[ha,R]at j|some i=>cases u:b8 x with|none=>simp[ha,R,u]at j|some kA=>simp only[ha,R,u]at j;split at j;cases j;simp only[dZ,cd]at h;exact fz.of (aoW B ha R (de D B u) h);simp at j
 case store ty x y=>simp only[gE]at j;cases R:P.info? ty with|none=>simp[R]at j|some i=>cases u:b8 x with|none=>simp[R,u]at j|some kA=>cases J:b8 y with|none=>simp[R,u,J]at j|some Dy=>simp only[R,u,J,a9]at j;subst j;simp only[dZ,cd]at h;exact fz.ajP (ao3 B R (de D B u) (de D B J) h)
 case nilCheck x=>simp only[gE,et]at j;obtain⟨fZ,I,rfl⟩:=j;simp only[dZ,cd]at h;have C:=de D B I;split at h;rename_i id e q O;simp only[dC,fb,a9]at h;subst h;rw[O]at C⊢;have U:=C;simp only[av]at C;obtain⟨g,k,N,hm,X⟩:=C;exact⟨a.eval x,w,E,.inl (by rw[X];rfl),sj own E w,B,U,λ _ _=>rfl⟩;rename_i cs q O;simp only[dC,fb,a9]at h;subst h;rw[O]at C⊢;have U:=C;simp only[av]at C;obtain⟨b,q,X,_⟩:=C;exact⟨a.eval x,w,E,.inl (by rw[X];rfl),sj own E w,B,U,λ _ _=>rfl⟩;rename_i f jv ta O;simp only[dC,fb,a9]at h;subst h;rw[O]at C⊢;have U:=C;simp only[av]at C;obtain⟨xs,ys,X,_⟩:=C;exact⟨a.eval x,w,E,.inl (by rw[X];rfl),sj own E w,B,U,λ _ _=>rfl⟩;simp at h
 case binOp op ty x y Ix=>simp only[gE]at j;cases y6:z1 P ty with|none=>simp[y6]at j|some sh=>cases u:b8 x with|none=>simp[y6,u]at j|some kA=>cases J:b8 y with|none=>simp[y6,u,J]at j|some Dy=>simp only[y6,u,J,a9]at j;subst j;simp only[dZ,cd]at h;refine fz.of (mq h λ c F=>?_);unfold eS at F;split at F;rename_i c' ae8;cases F;obtain⟨h1,T,h3,h4⟩:=aoB (P:=P) y6 ae8 (de D B u) (de D B J);refine fV B ?_ (Wc T);simp only[OZ,RI op ty x y _ _ h3 h4,O0];exact h1;obtain⟨⟨q,h1,T⟩,h3,h4⟩:=aoX (P:=P) y6 F (de D B u) (de D B J);refine fV (v:=.bool q) B ?_ h1;simp only[OZ,RI op ty x y _ _ h3 h4,O0];exact T
 case unOp op ty x=>simp only[gE,et]at j;obtain⟨fZ,I,rfl⟩:=j;simp only[dZ,cd]at h;refine fz.of (mq h λ c F=>?_);obtain⟨h1,T⟩:=ao5 (P:=P) F (de D B I);exact fV B h1 (Wc T)
 case convert src dst x=>simp only[gE]at j;split at j;rename_i k1 k2 h1 T;simp only[et]at j;obtain⟨fZ,I,rfl⟩:=j;simp only[dZ,cd]at h;have C:=de D B I;split at h;rename_i k n O;rw[O]at C;simp only[av]at C;simp only[dC,fb,a9]at h;subst h;refine fz.of (fV (v:=.int k2 (k2.wrap n)) B ?_ (by simp[av]));rw[C];simp[convert,run_underlying h1,run_underlying T,Conv.intToInt];simp at h;rename_i h1 T;simp only[et]at j;obtain⟨fZ,I,rfl⟩:=j;simp only[dZ,cd]at h;have C:=de D B I;split at h;rename_i l O;rw[O]at C h;have U:=C;simp only[av]at C;simp only[dC,fb,a9]at h;subst h;refine fz.of (fV B ?_ U);rw[C];simp[convert,run_underlying h1,run_underlying T];rename_i k n O;rw[O]at C;simp only[av]at C;split at h;rename_i hn;simp only[dC,fb,a9]at h;subst h;refine fz.of (fV (v:=.string (Je n)) B ?_ (by simp[av,RG hn]));rw[C];simp[convert,run_underlying h1,run_underlying T,Zg];simp at h;simp at h;rename_i k1 h1 T;simp only[et]at j;obtain⟨fZ,I,rfl⟩:=j;simp only[dZ,cd]at h;have C:=de D B I;split at h;rename_i l O;rw[O]at C h;have U:=C;simp only[av]at C;simp only[dC,fb,a9]at h;subst h;refine fz.of (fV B ?_ U);rw[C];simp[convert,run_underlying h1,run_underlying T];rename_i k n O;rw[O]at C;simp only[av]at C;split at h;rename_i hn;simp only[dC,fb,a9]at h;subst h;refine fz.of (fV (v:=.string (Je n)) B ?_ (by simp[av,RG hn]));rw[C];simp[convert,run_underlying h1,run_underlying T,Zg];simp at h;simp at h;rename_i e h1 T;split at j;rename_i X;simp only[et]at j;obtain⟨fZ,I,rfl⟩:=j;simp only[dZ,cd]at h;exact fz.of (ab5 B h1 X T (de D B I) h);simp at j;simp at j
 case makeFunc fn first cap=>simp only[gE]at j;cases h1:wi first with|none=>simp[h1]at j|some fZ=>cases T:wi cap with|none=>simp[h1,T]at j|some eA=>simp only[h1,T,a9]at j;subst j;simp only[dZ,cd,dC,fb,a9]at h;subst h;refine fz.of (fV (v:=.func fn (first.map a.eval) (cap.map a.eval)) B (by simp[Instr.makeFunc]) ?_);simp only[av];exact⟨_,_,rfl,Kr D B h1,Kr D B T⟩
 case makeSlice ty l c=>simp only[gE]at j;cases hu:P.underlying ty with|none=>simp[hu]at j|some d=>cases d<;>simp only[hu,reduceCtorEq]at j;rename_i e;cases A:P.info? e with|none=>simp[A]at j|some i=>cases hz:mn P e with|none=>simp[A,hz]at j|some z=>cases H:b8 l with|none=>simp[A,hz,H]at j|some OH=>cases V:b8 c with|none=>simp[A,hz,H,V]at j|some eA=>simp only[A,hz,H,V]at j;split at j;rename_i Z;cases j;simp only[dZ,cd]at h;exact fz.of (aiB B jY gP hu A hz Z.1 (de D B H) (de D B V) h);simp at j
 case slice ty x lo fy mx=>simp only[gE]at j;cases hu:P.underlying ty with|none=>simp[hu]at j|some d=>
   cases d<;>simp only[hu,reduceCtorEq]at j;case string=>cases u:b8 x with|none=>simp[u]at j|some kA=>cases H:lj lo with|none=>simp[u,H]at j|some OH=>cases L:lj fy with|none=>simp[u,H,L]at j|some Ym=>cases mx with|some _=>simp[u,H,L]at j|none=>simp only[u,H,L,a9]at j;subst j;simp only[dZ,cd]at h;refine fz.of (mq h λ c F=>?_);exact ao1 B hu (de D B u) (wm D B H) (wm D B L) F
   case array n e=>cases A:P.info? e with|none=>simp[A]at j|some i=>cases u:b8 x with|none=>simp[A,u]at j|some kA=>cases H:lj lo with|none=>simp[A,u,H]at j|some OH=>cases L:lj fy with|none=>simp[A,u,H,L]at j|some Ym=>cases mx with|some _=>simp[A,u,H,L]at j|none=>simp only[A,u,H,L]at j;split at j;rename_i Z;cases j;simp only[dZ,cd]at h;exact fz.of (aoZ B hu A Z.1 Z.2 (de D B u) (wm D B H) (wm D B L) h);simp at j
   case slice e=>cases A:P.info? e with|none=>simp[A]at j|some i=>cases u:b8 x with|none=>simp[A,u]at j|some kA=>cases H:lj lo with|none=>simp[A,u,H]at j|some OH=>cases L:lj fy with|none=>simp[A,u,H,L]at j|some Ym=>cases LJ:lj mx with|none=>simp[A,u,H,L,LJ]at j|some arL=>simp only[A,u,H,L,LJ]at j;split at j;rename_i Z;cases j;simp only[dZ,cd]at h;exact fz.of (ao0 B hu A (de D B u) (wm D B H) (wm D B L) (wm D B LJ) (by simpa using Z) h);simp at j
 case fieldAddr s x f=>simp only[gE]at j;cases hu:P.underlying s with|none=>simp[hu]at j|some d=>cases d<;>simp only[hu,reduceCtorEq]at j;rename_i fs;cases Y:fs[f]? with|none=>simp[Y]at j|some fd=>simp only[Y]at j;cases A:P.info? fd.type with|none=>simp[A]at j|some i=>cases u:b8 x with|none=>simp[A,u]at j|some kA=>simp only[A,u]at j;split at j;simp at j;rename_i h0;cases j;exact fz.of (adT B hu Y A h0 (de D B u) h)
 case field s x f=>simp only[gE]at j;cases hu:P.underlying s with|none=>simp[hu]at j|some d=>cases d<;>simp only[hu,reduceCtorEq]at j;rename_i fs;cases Y:fs[f]? with|none=>simp[Y]at j|some fd=>simp only[Y]at j;cases M:oi P fd.type with|none=>simp[M]at j|some g=>cases A:P.info? fd.type with|none=>simp[M,A]at j|some i=>cases u:b8 x with|none=>simp[M,A,u]at j|some kA=>simp only[M,A,u,a9]at j;subst j;simp only[dZ,cd]at h;have C:=de D B u;split at h;rename_i cs O;rw[O]at C;simp only[av]at C;obtain⟨xs,X,C⟩:=C;refine fz.of (mq h λ c F=>?_);obtain⟨v,hv,BX⟩:=Vt (P:=P) M A C F;refine fV B ?_ BX;rw[X];simp[Instr.field,run_underlying hu,Y,asAgg,hv];simp at h
 case indexAddr ty x B8=>simp only[gE]at j;cases hu:P.underlying ty with|none=>simp[hu]at j|some d=>
   cases d<;>simp only[hu,reduceCtorEq]at j;case slice e=>cases A:P.info? e with|none=>simp[A]at j|some i=>cases u:b8 x with|none=>simp[A,u]at j|some kA=>cases K:b8 B8 with|none=>simp[A,u,K]at j|some Ac=>simp only[A,u,K,a9]at j;subst j;simp only[dZ,cd]at h;refine fz.of (mq h λ c F=>?_);exact agq B hu A (de D B u) (de D B K) F
   case array n e=>cases A:P.info? e with|none=>simp[A]at j|some i=>cases u:b8 x with|none=>simp[A,u]at j|some kA=>cases K:b8 B8 with|none=>simp[A,u,K]at j|some Ac=>simp only[A,u,K,a9]at j;subst j;simp only[dZ,cd]at h;refine fz.of (mq h λ c F=>?_);exact agp B hu A (de D B u) (de D B K) F
 case index ty x B8=>simp only[gE]at j;cases hu:P.underlying ty with|none=>simp[hu]at j|some d=>
   cases d<;>simp only[hu,reduceCtorEq]at j;case string=>cases u:b8 x with|none=>simp[u]at j|some kA=>cases K:b8 B8 with|none=>simp[u,K]at j|some Ac=>
       simp only[u,K,a9]at j;subst j;simp only[dZ,cd]at h;have C:=de D B u;have W:=de D B K;split at h;rename_i s k n O hn;rw[O]at C;rw[hn]at W;simp only[av]at C W;split at h;rename_i h0;refine fz.of (mq h λ c F=>?_);simp only[et]at F;obtain⟨b,hb,rfl⟩:=F;refine fV (v:=.int .u8 b.toNat) B ?_ (by simp[av]);rw[C,W];have BP:(vy s.toArray)[n.toNat]?=some b:=by have hlt:=(fc.1 hb);obtain⟨h1,T⟩:=hlt;rw[getElem?_pos (vy s.toArray) n.toNat (by simpa[ByteArray.size]using h1)];congr 1
       simp[Instr.index,run_underlying hu,asIntOf,h0,BP];simp at h;simp at h
   case array n e=>cases M:oi P e with|none=>simp[M]at j|some g=>cases A:P.info? e with|none=>simp[M,A]at j|some i=>cases u:b8 x with|none=>simp[M,A,u]at j|some kA=>cases K:b8 B8 with|none=>simp[M,A,u,K]at j|some Ac=>simp only[M,A,u,K,a9]at j;subst j;simp only[dZ,cd]at h;have C:=de D B u;have W:=de D B K;split at h;rename_i cs k m O hn;rw[O]at C;rw[hn]at W;simp only[av]at C W;obtain⟨xs,X,C⟩:=C;split at h;rename_i h0;refine fz.of (mq h λ c F=>?_);obtain⟨v,hv,BX⟩:=Vt (P:=P) M A C F;refine fV B ?_ BX;rw[X,W];simp[Instr.index,run_underlying hu,asIntOf,h0,m0 A,hv];simp at h;simp at h
 case extract x i=>simp only[gE,et]at j;obtain⟨fZ,I,rfl⟩:=j;simp only[dZ,cd]at h;have C:=de D B I;split at h;rename_i vs O;rw[O]at C;simp only[av]at C;obtain⟨xs,X,C⟩:=C;refine fz.of (mq h λ c F=>?_);obtain⟨v,hv,BX⟩:=(fi.1 C).2 i c F;refine fV B ?_ BX;rw[X];simp at hv;simp[Instr.extract,hv];simp at h
 case call c=>
   simp only[gE]at j
   cases S:c.callee with|value f=>
     simp only[S]at j;split at j;split at j;cases j;simp[dZ,cd]at h;simp at j;rename_i k hk;unfold Fo at j;split at j;rename_i x y l3;split at j;rename_i kA Dy u J;cases j;cases k with|idx=>simp only[dZ,cd]at h;have Z:=agu (p:=p) ho S hk l3 B (de D B u) (de D B J) h;unfold execOp at Z;simp only[ho]at Z;exact Z|mP=>simp only[dZ,cd]at h;have Z:=akc (p:=p) ho S hk l3 B (de D B u) (de D B J) h;unfold execOp at Z;simp only[ho]at Z;exact Z
     simp at j;simp at j|invoke _ _=>simp[S]at j|builtin b=>
     simp only[S]at j;have afS:∀w,(do let d<-resolve a.eval c o.type;invoke d.target d.args:Sem Next).run P w=(builtin b c.argTypes o.type (c.args.map λ|.const _=>true|_=>false) (c.args.map a.eval)).run P w:=by intro w;simp[resolve,S,invoke];rfl
     have fin:∀{s:Sem Value},builtin b c.argTypes o.type (c.args.map λ|.const _=>true|_=>false) (c.args.map a.eval)=(do pure (.value (<-s)))->Sound P G own E w σ p s r->fz P G own E w σ p r (do let d<-resolve a.eval c o.type;invoke d.target d.args):=by intro s X hs;obtain⟨v,w',E',C,hp⟩:=hs;exact⟨v,w',E',.inl (by rw[afS,X];simp[C]),hp⟩
     exact ab0 B jY gP D j h fin
 all_goals simp[gE]at j
def ajX(f:Inv G own E w σ)(i:E.μ p=none)(e:σ p=none){t:List aa}{a:Act}(g:gb E w t a){o:Oper}{c:dJ dD}(b:um P o.op=some c){r:bG}(h:cd σ p (c.map (mo G t))=some r):fz P G own E w σ p r (execOp a.eval o):=by unfold um at b;split at b;rename_i v d;cases b;exact ajY f i e g d h;cases b;simp[dZ,cd]at h
def cj(P:Program)(G:Nat->Option (List aa))(f:FuncId)(args:List aa)(p:Id)(S:List (Id×aG))(r:bG):Prop:=(∃fn,P.funcs[f]?=some fn/\(fn.name== "runtime.NumGoroutine")=false/\fn.body.isSome=true)/\∀own E w σ vs,(∀x∈S,σ x.1=some x.2)->Inv G own E w σ->bc E w args vs->(∀j,p<:+j->E.μ j=none)->Calls P f vs.toArray w λ e w'=>∃v E',e=.returned v/\k9 G own E w σ p r v E' w'
def m2(P:Program)(G:Nat->Option (List aa))(σ:aL)(p:Id)(op:dJ aa)(r:bG):Prop:=match op with
 |.call f a=>match f with|.fn (.func f) first cap=>∃S,cj P G f (first++a++cap) p S r/\(∀x∈S,σ x.1=some x.2)/\∀x∈S,x.1∈r.rd|_=>False
 |op=>cd σ p op=some r
def hV(t:List aa)(d:Option Nat)(v:aa):List aa:=match d with|some d=>t.set d v|none=>t
def nN(t:List aa):Option (Nat×Bool)->Option Bool|none=>some true|some (d,a)=>match t[d]? with|some (.bool b)=>some (b==a)|some .top|some .jC=>none|_=>some false
def gb.keep{E':Env}{w':World}{t:List aa}{a:Act}(h:gb E w t a)(s:ff E E' w w'):gb E' w' t a:=bc.keep s t _ h
def gb.put{t:List aa}{a:Act}(h:gb E w t a){c:aa}{v:Value}(i:av E w c v)(d:Option Nat):gb E w (hV t d c) (a.put d v):=by cases d with|none=>exact h|some d=>have⟨k,f⟩:=fi.1 h;refine fi.2 ⟨by simpa[hV,Act.put]using k,λ j c' b=>?_⟩;simp only[hV,xL]at b;simp only[Act.put,Array.toList_setIfInBounds,xL];split at b;rename_i e;subst e;split at b;rename_i g;cases b;exact⟨v,by rw[if_pos rfl,if_pos ac],i⟩;simp at b;rename_i e;rw[if_neg e];exact f j c' b
def gb.abj{t:List aa}{a:Act}(h:gb E w t a)(d:Nat):(t[d]?=none/\a.tmps[d]?=none)\/∃c v,t[d]?=some c/\a.tmps[d]?=some v/\av E w c v:=by
 have⟨g,b⟩:=fi.1 h;by_cases hd:d<t.length;right;have⟨v,f,e⟩:=b d t[d] (by simp[hd]);exact⟨t[d],v,by simp[hd],by simpa using f,e⟩;left;have:a.tmps.size<=d:=by have:=g;simp at this;omega
 exact⟨by simp;omega,by simp;omega⟩
def al2{c:aa}{v:Value}(h:av E w c v)(h1:∀b,c≠.bool b)(a:c≠.top)(d:c≠.jC):∀b,v≠.bool b:=by intro b e;subst e;cases c<;>simp only[av,reduceCtorEq,exists_const,false_and,and_false]at h;exact h1 _ rfl;all_goals first|exact a rfl|exact d rfl|(have⟨_,_,h,_⟩:=h;cases h)|(have⟨_,h,_⟩:=h;cases h)|(have⟨_,_,h⟩:=h;cases h)
def IY{ops:Array Oper}{o:Oper}{n:dK}(f:rr P ops o=some n){t:List aa}{a:Act}(s:gb E w t a){b:Bool}(h:nN t n.guard=some b):O1 o (yielded ops a.tmps)=b:=by unfold rr at f;cases g:um P o.op with|none=>simp[g]at f|some op=>simp only[g]at f;cases i:o.guard with|none=>simp only[i,a9]at f;subst f;simp only[nN,a9]at h;subst h;simp[O1,i]|some u=>have⟨j,q⟩:=u;simp only[i]at f;cases hd:(ops[j]?).bind (·.dst)with|none=>simp[hd]at f|some d=>simp only[hd,a9]at f;subst f;simp only[nN]at h;simp only[O1,i,yielded,hd,Option.bind_some];rcases s.abj d with⟨h1,m⟩|⟨c,v,h1,m,l⟩;simp only[h1,a9]at h;subst h;simp[m];simp only[h1]at h;simp only[m];cases c with|bool x=>cases h;simp only[av]at l;subst l;simp|top=>simp at h|jC=>simp at h|_=>cases h;have k:=al2 l am am am;cases v<;>simp at k⊢
def QG{ops:Array Oper}{o:Oper}{c:dK}(a:rr P ops o=some c):um P o.op=some c.op/\c.dst=o.dst:=by unfold rr at a;cases b:um P o.op with|none=>simp[b]at a|some op=>simp only[b]at a;split at a;cases a;simp_all;split at a;cases a;simp_all;simp at a;simp_all
def acg{k:EO}{l:List Operand}(f:dD)(a:List dD):Fo k l≠some (.call f a):=by unfold Fo;split;split;cases k<;>simp;simp;simp
def Xj(z:Inv G own E w σ)(F:∀j,p<:+j->E.μ j=none){t:List aa}{a:Act}(X:gb E w t a){o:Oper}{D:dJ dD}(d:um P o.op=some D){r:bG}(h:m2 P G σ p (D.map (mo G t)) r){K:Act->World->Prop}{Q:Exit->Act->World->Prop}(L:∀v w' E',k9 G own E w σ p r v E' w'->K (a.put o.dst v) w'):o.wp P a w K Q:=by
 have gP:σ p=none:=by cases hs:σ p with|none=>rfl|some aq=>obtain⟨g,N,cur,ty,Z⟩:=z.blk _ _ hs;have:=Z.μ;rw[F _ (vF _)]at this;simp at this
 have m:cd σ p (D.map (mo G t))=some r->o.wp P a w K Q:=by intro M;obtain⟨v,w',E',i,C⟩:=ajX z (F p (vF _)) gP X d M;unfold Oper.wp;rcases i with i|⟨i,rfl⟩;rw[i];exact L v w' E' C;rw[i];exact L undef w' E' C
 cases D with|call f as=>
   replace d:gE P o.op=some (.call f as):=by unfold um at d;split at d;rename_i v M;rw[M];exact d;simp at d
   simp only[dZ,m2]at h;split at h;rename_i aq6 V first cap B;obtain⟨S,k,hS,_⟩:=h;obtain⟨⟨fn,O,q,u⟩,k⟩:=k;cases n:o.op with
   |call c=>rw[n]at d;simp only[gE]at d;cases l:c.callee with|value aq7=>
       simp only[l]at d;split at d;case h_2=>exact absurd d (acg _ _)
       split at d;rename_i aB U h1 Y;simp only[a9,dJ.call.injEq]at d;obtain⟨rfl,rfl⟩:=d;have x:=de X z h1;rw[B]at x;simp only[av]at x;obtain⟨xs,ys,W,hx,hy⟩:=x;have T:=Kr X z Y;have s:bc E w (first++U.map (mo G t)++cap) (xs.toList++(c.args.map a.eval).toList++ys.toList):=sB (sB hx T) hy;have y:=k own E w σ _ hS z s F;have i:(execOp a.eval o).run P w=.ok (.enter V (xs++c.args.map a.eval++ys)) w:=by
         have I:¬fn.body=none:=by intro e;simp[e]at u
         have H:¬fn.name= "runtime.NumGoroutine":=by intro e;simp[e]at q
         simp[execOp,n,resolve,l,W,Y8,invoke,callFunc,O,H,I]
       unfold Oper.wp;rw[i,Oper.upon_enter];have R:(xs.toList++(c.args.map a.eval).toList++ys.toList).toArray=xs++c.args.map a.eval++ys:=by apply m5;simp
       rw[R]at y;refine y.mono λ e w' he=>?_;obtain⟨v,E',rfl,C⟩:=he;exact L v w' E' C;simp at d|invoke _ _=>simp[l]at d|builtin b=>simp only[l]at d;unfold Fm at d;split at d<;>(try split at d)<;>(try split at d)<;>(try split at d)<;>(try split at d)<;>simp at d
   |_=>rw[n]at d;simp only[gE]at d;exfalso;revert d;clear m B;intro d;first|simp at d|(simp only[et]at d;obtain⟨_,_,d⟩:=d;cases d)|((repeat' split at d)<;>first|(simp at d;done)|(simp only[et]at d;obtain⟨_,_,d⟩:=d;cases d)|(cases d))
   exact h.elim|_=>exact m h
abbrev Done:=Option Nat×bG
def e7(X:Nat->Bool):List Done->Nat->List aa->List aa|[],_,t=>t|(d,r)::L,i,t=>e7 X L (i+1) (if X i then hV t d r.val else t)
def fO(X:Nat->Bool):List Done->Nat->aL->aL|[],_,σ=>σ|(_,r)::L,i,σ=>fO X L (i+1) (if X i then σ.app r.up else σ)
def zM(t:List aa)(d:Option Nat)(v:aa)(s:Nat):(hV t d v)[s]?=if d=some s then(if s<t.length then some v else none)else t[s]?:=by cases d with|none=>simp[hV]|some d=>simp only[hV,xL,a9];by_cases e:d=s;subst e;simp;simp[e]
def VK(t:List aa)(d:Option Nat)(v:aa):(hV t d v).length=t.length:=by cases d<;>simp[hV]
def Sa(X:Nat->Bool):∀(L:List Done)(i:Nat)(t:List aa),(e7 X L i t).length=t.length|[],_,_=>rfl|(d,r)::L,i,t=>by simp only[e7];rw[Sa X L];split;exact VK t d r.val;rfl
def ah7{t a:List aa}{s:Nat}(h:t[s]?=a[s]?):(s<t.length)=(s<a.length):=by have h1:s<t.length↔t[s]?≠none:=am;have b:s<a.length↔a[s]?≠none:=am;exact propext (h1.trans ((by rw[h]:t[s]?≠none↔a[s]?≠none).trans b.symm))
def FV{X Y:Nat->Bool}{s:Nat}:∀(L:List Done)(i:Nat)(t a:List aa),t[s]?=a[s]?->(∀k d r,L[k]?=some (d,r)->X (i+k)≠Y (i+k)->d≠some s)->(e7 X L i t)[s]?=(e7 Y L i a)[s]?
 |[],_,_,_,h,_=>h|(d,r)::L,i,t,a,h,hd=>by
   simp only[e7];refine FV L (i+1) _ _ ?_ (λ k j c f e=>hd (k+1) j c (by simpa using f) (by rwa[show i+(k+1)=i+1+k from ac]));by_cases b:X i=Y i;rw[b];split;rw[zM,zM];simp only[ah7 h,h];exact h;have:=hd 0 d r rfl b;have g:(hV t d r.val)[s]?=t[s]?:=by rw[zM,if_neg this]
   have l:(hV a d r.val)[s]?=a[s]?:=by rw[zM,if_neg this]
   split<;>split<;>simp only[g,l,h]
def aL.abd{σ a:aL}{id:Id}(h:σ id=a id):∀(up:List (Id×Option aG)),(σ.app up) id=(a.app up) id:=by intro up;induction up generalizing σ a with|nil=>exact h|cons x up c=>have⟨i,b⟩:=x;simp only[lS];refine c ?_;simp only[vH];split<;>first|rfl|exact h
def aL.Fa{σ:aL}{id:Id}:∀{up:List (Id×Option aG)},id∉up.map (·.1)->(σ.app up) id=σ id:=by intro up;induction up generalizing σ with|nil=>intro _;rfl|cons x up a=>have⟨i,b⟩:=x;intro h;simp only[lP,ct,not_or]at h;simp only[lS];rw[a h.2,vG _ _ _ h.1]
def aL.abe{σ c:aL}{id:Id}:∀{up:List (Id×Option aG)},id∈up.map (·.1)->(σ.app up) id=(c.app up) id:=by intro up;induction up generalizing σ c with|nil=>intro h;simp at h|cons x up e=>
   have⟨i,b⟩:=x;intro h;simp only[lS];by_cases a:id∈up.map (·.1);exact e a;have d:id=i:=by simpa[a]using h
   subst d;rw[aL.Fa a,aL.Fa a,A2,A2]
def FU{X Y:Nat->Bool}{id:Id}:∀(L:List Done)(i:Nat)(σ a:aL),σ id=a id->(∀k d r,L[k]?=some (d,r)->X (i+k)≠Y (i+k)->id∉r.up.map (·.1))->fO X L i σ id=fO Y L i a id|[],_,_,_,h,_=>h|(d,r)::L,i,σ,a,h,hd=>by simp only[fO];refine FU L (i+1) _ _ ?_ (λ k g c f e=>hd (k+1) g c (by simpa using f) (by rwa[show i+(k+1)=i+1+k from ac]));by_cases b:X i=Y i;rw[b];split;exact aL.abd h _;exact h;have:=hd 0 d r rfl b;split<;>split<;>simp only[aL.Fa this,h]
def R9{X:Nat->Bool}{s:Nat}{r:bG}:∀(L:List Done)(i j:Nat)(t:List aa),L[j]?=some (some s,r)->X (i+j)=true->(∀k d a,L[k]?=some (d,a)->j<k->X (i+k)=true->d≠some s)->(e7 X L i t)[s]?=if s<t.length then some r.val else none
 |[],_,_,_,h,_,_=>by simp at h|(d,a)::L,i,0,t,h,e,hd=>by
   simp only[si,a9,cN]at h;obtain⟨rfl,rfl⟩:=h;simp only[e7];rw[ij]at e;rw[if_pos e];have:=FV (X:=X) (Y:=λ _=>false) (s:=s) L (i+1) (hV t (some s) a.val) (hV t (some s) a.val) rfl (λ k d f b c=>hd (k+1) d f (by simpa using b) ac (by rw[show i+(k+1)=i+1+k from ac];cases m:X (i+1+k)with|true=>rfl|false=>simp[m]at c));rw[this];have none:∀(L:List Done)(i:Nat)(t:List aa),e7 (λ _=>false) L i t=t:=by intro L;induction L with|nil=>intro _ _;rfl|cons x L n=>intro i t;have⟨d,r⟩:=x;simp only[e7];rw[n];simp
   rw[none,zM,if_pos rfl]|(d,a)::L,i,j+1,t,h,e,hd=>by simp only[e7];have:=R9 L (i+1) j (if X i then hV t d a.val else t) (by simpa using h) (by rwa[show i+1+j=i+(j+1)from ac]) (λ k d f b l g=>hd (k+1) d f (by simpa using b) ac (by rwa[show i+(k+1)=i+1+k from ac]));rw[this];split<;>simp[VK]
def R8{X:Nat->Bool}{id:Id}{d:Option Nat}{r:bG}{n:aL}:∀(L:List Done)(i j:Nat)(σ:aL),L[j]?=some (d,r)->X (i+j)=true->id∈r.up.map (·.1)->(∀k d b,L[k]?=some (d,b)->j<k->X (i+k)=true->id∉b.up.map (·.1))->fO X L i σ id=(n.app r.up) id
 |[],_,_,_,h,_,_,_=>by simp at h|(p,b)::L,i,0,σ,h,f,a,hd=>by
   simp only[si,a9,cN]at h;have⟨rfl,rfl⟩:=h;simp only[fO];rw[ij]at f;rw[if_pos f];have:=FU (X:=X) (Y:=λ _=>false) (id:=id) L (i+1) (σ.app b.up) (σ.app b.up) rfl (λ k d e c g=>hd (k+1) d e (by simpa using c) ac (by rw[show i+(k+1)=i+1+k from ac];cases m:X (i+1+k)with|true=>rfl|false=>simp[m]at g));rw[this];have none:∀(L:List Done)(i:Nat)(σ:aL),fO (λ _=>false) L i σ=σ:=by intro L;induction L with|nil=>intro _ _;rfl|cons x L q=>intro i t;have⟨d,r⟩:=x;simp only[fO];rw[q];simp
   rw[none];exact aL.abe a|(p,b)::L,i,j+1,σ,h,f,a,hd=>by simp only[fO];exact R8 L (i+1) j _ (by simpa using h) (by rwa[show i+1+j=i+(j+1)from ac]) a (λ k d e c o l=>hd (k+1) d e (by simpa using c) ac (by rwa[show i+(k+1)=i+1+k from ac]))
def K9{X:Nat->Bool}:∀(L:List Done)(i:Nat)(t:List aa),(∀k,k<L.length->X (i+k)=false)->e7 X L i t=t|[],_,_,_=>rfl|(d,r)::L,i,t,h=>by simp only[e7];have:=h 0 am;rw[ij]at this;rw[this];exact K9 L (i+1) t (λ k a=>by rw[show i+1+k=i+(k+1)from ac];exact h (k+1) (by simpa using a))
def K7{X:Nat->Bool}:∀(L:List Done)(i:Nat)(σ:aL),(∀k,k<L.length->X (i+k)=false)->fO X L i σ=σ|[],_,_,_=>rfl|(d,r)::L,i,t,h=>by simp only[fO];have:=h 0 am;rw[ij]at this;rw[this];exact K7 L (i+1) t (λ k a=>by rw[show i+1+k=i+(k+1)from ac];exact h (k+1) (by simpa using a))
end
section
variable(P:Program)(G:Nat->Option (List aa))(π:Id)
def tD(σ:aL)(p:Id)(op:dJ aa)(K:bG->Prop):Prop:=match op with
 |.call f a=>match f with|.fn (.func f) first cap=>∃S r,cj P G f (first++a++cap) p S r/\(∀x∈S,σ x.1=some x.2)/\(∀x∈S,x.1∈r.rd)/\K r|_=>False
 |op=>match cd σ p op with|some r=>K r|none=>False
def qJ(a:Nat)(K:List aa->aL->Prop):List dK->Nat->List aa->aL->Prop|[],_,t,σ=>K t σ|o::os,i,t,σ=>match nN t o.guard with|none=>False|some false=>qJ a K os (i+1) (hV t o.dst (.aJ [])) σ|some true=>tD P G σ ((a+i)::π) (o.op.map (mo G t)) λ r=>qJ a K os (i+1) (hV t o.dst r.val) (σ.app r.up)
def pL(a:Nat)(K:List bG->List aa->aL->Prop):List dK->Nat->List bG->List aa->aL->Prop|[],_,b,t,σ=>K b.reverse t σ|o::os,i,b,t,σ=>match nN t o.guard with|none=>False|some false=>pL a K os (i+1) ({val:=.aJ []}::b) (hV t o.dst (.aJ [])) σ|some true=>tD P G σ ((a+i)::π) (o.op.map (mo G t)) λ r=>pL a K os (i+1) (r::b) (hV t o.dst r.val) (σ.app r.up)
def apart(a b:bG):Prop:=(∀x∈a.up,x.1∉b.rd/\x.1∉b.up.map (·.1))/\∀x∈b.up,x.1∉a.rd
def Bg(c:List bG)(d:List (Nat×Nat)):Prop:=∀q∈d,∀a b,c[q.1]?=some a->c[q.2]?=some b->apart a b
def Il(a:Nat)(o:dK)(k:Nat)(t:List aa)(σ:aL)(r:bG):Prop:=(nN t o.guard=some false/\r={val:=.aJ []})\/(nN t o.guard=some true/\m2 P G σ ((a+k)::π) (o.op.map (mo G t)) r)
end
section
variable{P:Program}{G:Nat->Option (List aa)}{π:Id}{own:Nat->Prop}{E:Env}{w:World}{σ:aL}
def YA{σ:aL}{p:Id}{op:dJ aa}{K:bG->Prop}(h:tD P G σ p op K):∃r,m2 P G σ p op r/\K r:=by unfold tD at h;cases op with|call f g=>simp only[]at h;split at h;have⟨S,r,h1,b,d,e⟩:=h;exact⟨r,⟨S,h1,b,d⟩,e⟩;exact h.elim|_=>simp only[]at h;split at h;rename_i r c;exact⟨r,c,h⟩;exact h.elim
def Yx{a:Nat}{K:List bG->List aa->aL->Prop}:∀{os:List dK}{i:Nat}{c:List bG}{t:List aa}{σ:aL},pL P G π a K os i c t σ->∃b:List bG,b.length=os.length/\(∀k o r,os[k]?=some o->b[k]?=some r->Il P G π a o (i+k) (e7 (λ m=>m<i+k) ((os.map (·.dst)).zip b) i t) (fO (λ m=>m<i+k) ((os.map (·.dst)).zip b) i σ) r)/\K (c.reverse++b) (e7 (λ _=>true) ((os.map (·.dst)).zip b) i t) (fO (λ _=>true) ((os.map (·.dst)).zip b) i σ)
 |[],i,c,t,σ,h=>⟨[],rfl,am,by simpa[pL,e7,fO]using h⟩|o::os,i,c,t,σ,h=>by
   have l:∀r,Il P G π a o i t σ r->pL P G π a K os (i+1) (r::c) (hV t o.dst r.val) (σ.app r.up)->∃b:List bG,b.length=(o::os).length/\(∀k e r,(o::os)[k]?=some e->b[k]?=some r->Il P G π a e (i+k) (e7 (λ m=>m<i+k) (((o::os).map (·.dst)).zip b) i t) (fO (λ m=>m<i+k) (((o::os).map (·.dst)).zip b) i σ) r)/\K (c.reverse++b) (e7 (λ _=>true) (((o::os).map (·.dst)).zip b) i t) (fO (λ _=>true) (((o::os).map (·.dst)).zip b) i σ):=by
     intro r g n;have⟨b,h1,u,q⟩:=Yx n;refine⟨r::b,by simp[h1],?_,?_⟩;intro k e s j d;cases k with|zero=>simp only[si,a9]at j d;subst j;subst d;rw[K9 _ _ _ (λ k _=>am),K7 _ _ _ (λ k _=>am),ij];exact g|succ k=>have:=u k e s (by simpa using j) (by simpa using d);simp only[lP,List.zip_cons_cons,e7,fO];have hd:decide (i<i+(k+1))=true:=am;rw[if_pos hd,if_pos hd];rw[show i+(k+1)=i+1+k from ac];exact this
     simpa[e7,fO]using q
   simp only[pL]at h;split at h;exact h.elim;rename_i f;exact l {val:=.aJ []} (.inl ⟨f,rfl⟩) h;rename_i f;have⟨r,g,p⟩:=YA h;exact l r (.inr ⟨f,g⟩) p
def XZ{q q':Nat}{π j:Id}(h:(q::π)<:+j)(b:q≠q'):¬(q'::π)<:+j:=by
 intro d;have:=List.suffix_of_suffix_length_le h d am;have⟨l,a⟩:=this;have c:l=[]:=by have:=congrArg List.length a;simp at this;exact this
 subst c;simp at a;exact b a
def k9.frame{p:Id}{r:bG}{v:Value}{E':Env}{w':World}(h:k9 G own E w σ p r v E' w'){t:List aa}{a:Act}(b:gb E w t a)(d:Option Nat):gb E' w' (hV t d r.val) (a.put d v):=(b.keep h.iO.step).put h.rep d
def XY{t:List aa}{a:Act}(b:gb E w t a)(d:Option Nat):gb E w (hV t d (.aJ [])) (a.put d undef):=b.put (by simp only[av,undef];exact⟨#[],rfl,by simp[bc]⟩) d
def HN(a:Act)(d:Option Nat)(v:Value):(a.put d v).defers=a.defers:=by cases d<;>rfl
def lU(E:Env)(π:Id)(n:Nat):Prop:=∀j,π<:+j->(∀q,q<n->¬(q::π)<:+j)->E.μ j=none
def lU.at{π:Id}{n q:Nat}(h:lU E π n)(c:n<=q){j:Id}(a:(q::π)<:+j):E.μ j=none:=h j ((Zh q π).trans a) λ q' b=>XZ a ac
def lU.mono{π:Id}{n a:Nat}(h:lU E π n)(e:n<=a):lU E π a:=λ j d c=>h j d λ q b=>c q ac
def lU.step{π:Id}{n:Nat}{E':Env}(h:lU E π n)(a:∀i:Id,¬(n::π)<:+i->E'.μ i=E.μ i):lU E' π (n+1):=λ j c b=>by rw[a j (b n ac)];exact h j c λ q d=>b q ac
def lU.self{π:Id}{n:Nat}(h:lU E π n):E.μ π=none:=h π (vF _) λ q _ a=>by have:=a.length_le;simp at this;omega
structure gL(own:Nat->Prop)(π:Id)(E E':Env)(w w':World):Prop extends Adv own E E' w w' where ids:∀i:Id,¬π<:+i->E'.μ i=E.μ i
def gL.refl(own:Nat->Prop)(π:Id)(E:Env)(w:World):gL own π E E w w:=⟨sj own E w,λ _ _=>rfl⟩
def gL.trans{π:Id}{E' d:Env}{w' c:World}(a:gL own π E E' w w')(b:gL own π E' d w' c):gL own π E d w c:=⟨a.toAdv.trans b.toAdv,λ i e=>(b.ids i e).trans (a.ids i e)⟩
def k9.Qd{π:Id}{q:Nat}{r:bG}{v:Value}{E':Env}{w':World}(h:k9 G own E w σ (q::π) r v E' w'):gL own π E E' w w':=⟨h.iO,λ i a=>h.ids i λ b=>a ((Zh q π).trans b)⟩
def Yy{ops:Array Oper}{b:Nat}{K:List aa->aL->Prop}{Q:Exit->Act->World->Prop}:∀(l:List Oper)(i:Nat),(∀k,l[k]?=ops[i+k]?)->∀(vs:List dK),l.mapM (rr P ops)=some vs->∀(t:List aa)(σ:aL)(a:Act)(E:Env)(w:World),qJ P G π b K vs i t σ->gb E w t a->Inv G own E w σ->lU E π (b+i)->(∀h p a' E' w',K h p->gL own π E E' w w'->gb E' w' h a'->Inv G own E' w' p->lU E' π (b+i+l.length)->a'.defers=a.defers->Q .normal a' w')->wpOps P ops Q ((List.range' i l.length)) a w
 |[],i,_,vs,q,t,σ,a,E,w,f,m,y,c,D=>by simp at q;subst q;simp only[qJ]at f;simp only[iM,List.range'_zero,wpOps];exact D t σ a E w f (gL.refl own π E w) m y c rfl|o::l,i,S,vs,q,t,σ,a,E,w,f,m,y,c,D=>by
   simp only[List.mapM_cons,Option.pure_def,Option.bind_eq_bind,Option.bind_eq_some_iff]at q;have⟨Z,n,u,A,R⟩:=q;cases R;have⟨F,g⟩:=QG n;have M:ops[i]?=some o:=by have:=S 0;simpa using this.symm
   simp only[gC,List.range'_succ];rw[wpOps_cons];unfold wpOp;rw[M];simp only[];have rest:∀(h:List aa)(p:aL)(a':Act)(E':Env)(w':World),qJ P G π b K u (i+1) h p->gL own π E E' w w'->gb E' w' h a'->Inv G own E' w' p->lU E' π (b+i+1)->a'.defers=a.defers->wpOps P ops Q (List.range' (i+1) l.length) a' w':=by intro h p a' E' w' I O H B d z;refine Yy l (i+1) (λ k=>by rw[show i+1+k=i+(k+1)from ac,<-S];simp) u A h p a' E' w' I H B (by rw[<-Nat.add_assoc];exact d) ?_;intro t2 X U V T N s L J e qd;exact D t2 X U V T N (O.trans s) L J (by rw[gC,show b+i+(l.length+1)=b+(i+1)+l.length from ac];exact e) (qd.trans z)
   simp only[qJ]at f;split at f;exact f.elim;rename_i C;rw[IY n m C];simp only[iL,if_false];rw[<-g];exact rest _ _ _ E w f (gL.refl own π E w) (XY m _) y (c.mono ac) (HN _ _ _);rename_i C;rw[IY n m C];simp only[if_true];have⟨r,Y,N⟩:=YA f;left;refine Xj y (λ j W=>c.at (a2 _) W) m F Y ?_;intro v w' E' x;rw[<-g];exact rest _ _ _ E' w' N x.Qd (x.frame m _) x.inv (c.step x.ids) (HN _ _ _)
def Sb(f:Nat->Nat)(b:Nat):∀(l:List Nat)(s:Nat),(l.foldl (λ s i=>s|||2^i|||f i) s).testBit b=true->s.testBit b=true\/∃e∈l,b=e\/(f e).testBit b=true|[],s,h=>.inl h|i::l,s,h=>by simp only[List.foldl_cons]at h;rcases Sb f b l _ h with h|⟨e,a,h⟩;simp only[Nat.testBit_or,Bool.or_eq_true,Nat.testBit_two_pow,decide_eq_true_eq]at h;rcases h with(h|h)|h;exact .inl h;exact .inr ⟨i,am,.inl h.symm⟩;exact .inr ⟨i,am,.inr h⟩;exact .inr ⟨e,by simp[a],h⟩
def Ul:∀(b:List (List Nat))(a:List Nat),(ia b a).length=a.length+b.length|[],a=>by simp[ia]|l::r,a=>by simp only[ia];rw[Ul r];simp;omega
def Ml:∀(b:List (List Nat))(a:List Nat)(k:Nat),k<a.length->(ia b a)[k]?=a[k]?|[],a,k,_=>by simp[ia]|l::r,a,k,h=>by simp only[ia];rw[Ml r _ k (by simp;omega),kd h]
def Uk:∀(c:List (List Nat))(a:List Nat)(j:Nat)(l:List Nat),c[j]?=some l->∃b:List Nat,b.length=a.length+j/\(∀k,k<b.length->(ia c a)[k]?=b[k]?)/\(ia c a)[a.length+j]?=some (l.foldl (λ s i=>s|||2^i|||b.getD i 0) 0)|[],_,_,_,h=>by simp at h|l'::r,a,0,l,h=>by simp only[si,a9]at h;subst h;refine⟨a,rfl,λ k e=>Ml _ _ k e,?_⟩;simp only[ia];rw[Ml r _ _ am,k5 ac];simp|l'::r,a,j+1,l,h=>by simp only[ia];have⟨b,h1,f,d⟩:=Uk r (a++[l'.foldl (λ s i=>s|||2^i|||a.getD i 0) 0]) j l (by simpa using h);refine⟨b,by simp at h1;omega,f,?_⟩;simp only[cP,List.length_singleton]at d;rw[show a.length+(j+1)=a.length+1+j from ac];exact d
def ais{a:List (List Nat)}{j b:Nat}(d:∀e∈a.getD j [],e<j)(h:((ia a []).getD j 0).testBit b=true):∃e∈a.getD j [],b=e\/((ia a []).getD e 0).testBit b=true:=by
 by_cases g:j<a.length;have⟨c,h1,n,f⟩:=Uk a [] j a[j] (by simp[g]);simp only[iM,cF]at h1 f;have m:(ia a []).getD j 0=a[j].foldl (λ s i=>s|||2^i|||c.getD i 0) 0:=by simp[Ax,f]
 rw[m]at h;have l:a.getD j []=a[j]:=by simp[Ax,g]
 rw[l]at d⊢;rcases Sb _ b _ _ h with h|⟨e,k,h⟩;simp at h;refine⟨e,k,h.imp id λ h=>?_⟩;have:(ia a []).getD e 0=c.getD e 0:=by simp only[Ax];rw[n e (by rw[h1];exact d e k)]
 rw[this];exact h;have:(ia a []).getD j 0=0:=by have:=Ul a [];simp only[Ax];rw[List.getElem?_eq_none (by simp at this;omega)];rfl
 rw[this]at h;simp at h
def Uj{a:List (List Nat)}{X:Nat->Bool}{n:Nat}(d:∀j,j<n->∀e∈a.getD j [],e<j)(l:∀k,k<n->X k=true->∀e∈a.getD k [],X e=true):∀j,j<n->(∀e∈a.getD j [],X e=true)->∀b,((ia a []).getD j 0).testBit b=true->X b=true:=by intro j;induction j using xM with|_ j m=>intro g i b hb;have⟨e,c,h⟩:=ais (d j g) hb;have f:=d j g e c;rcases h with rfl|h;exact i b c;exact m e f ac (l e ac (i e c)) b h
def dJ.map_congr{α β:Type}{g h:α->β}:∀(op:dJ α),(∀x∈op.args,g x=h x)->op.map g=op.map h:=by
 intro op d;have i:∀(l:List α),(∀x∈l,x∈op.args)->l.map g=l.map h:=λ l i=>jR λ x S9=>d x (i x S9);have e:∀(l:Option α),(∀x,l=some x->x∈op.args)->l.map g=l.map h:=by intro l i;cases l with|none=>rfl|some x=>simp[d x (i x rfl)]
 cases op<;>simp only[dZ,dJ.args]at d i e⊢;case build z ps=>congr 1;apply jR;intro q r;rw[d q.2.2 (bp.2 ⟨q,r,rfl⟩)]
 case uk k n z ps=>congr 1;apply jR;intro q r;rw[d q.2 (bp.2 ⟨q,r,rfl⟩)]
 case zu fn a c=>rw[i a (by simp+contextual),i c (by simp+contextual)]
 case call f as=>rw[d f am,i as (by simp+contextual)]
 case slice k x lo j mx=>rw[d x am,e lo (by simp+contextual),e j (by simp+contextual),e mx (by simp+contextual)]
 case z3 x lo j=>rw[d x am,e lo (by simp+contextual),e j (by simp+contextual)]
 case u9 n x lo j=>rw[d x am,e lo (by simp+contextual),e j (by simp+contextual)]
 all_goals try simp only[ct,List.not_mem_nil,or_false,forall_eq_or_imp,forall_eq]at d
 all_goals simp only[d]
def adL{G:Nat->Option (List aa)}{t a:List aa}:∀(x:dD),(∀s,x.XF=some s->t[s]?=a[s]?)->x.ev G t=x.ev G a|.t n,h=>by have:=h n rfl;simp[mo,Ax,this]|.c _,_=>rfl|.g _,_=>rfl|.f _,_=>rfl
def KS{σ a:aL}{k:Nat}{x:aa}{ys:List aa}{rd:List Id}(h:jn σ k x=some (ys,rd))(b:∀id∈rd,a id=σ id):jn a k x=some (ys,rd):=by unfold jn at h⊢;split at h;exact h;exact h;exact h;rename_i id k' off len t;skip;split at h;rename_i aq hb;split at h;rename_i c;simp only[a9,cN]at h;have⟨rfl,rfl⟩:=h;have:=b id am;rw[this,hb];simp[c];simp at h;simp at h;simp at h
def Yw{σ:aL}{id:Id}{off k:Nat}{news:List aa}{v:aa}{rd:List Id}{r:bG}(h:tC σ id off k news v rd=some r):r.rd=id::rd:=by unfold tC at h;split at h;split at h;cases h;rfl;simp at h;simp at h
def Yv{σ b:aL}{id:Id}{off k:Nat}{news:List aa}{v:aa}{rd:List Id}{r:bG}(h:tC σ id off k news v rd=some r)(c:∀id∈r.rd,b id=σ id):tC b id off k news v rd=some r:=by have a:=Yw h;unfold tC at h⊢;rw[c id (by rw[a];simp)];exact h
def aoY{σ vI:aL}{p:Id}{op:dJ aa}{r:bG}(h:cd σ p op=some r)(b:∀id∈r.rd,vI id=σ id):cd vI p op=some r:=by cases op with
 |load agg n x=>
   simp only[cd]at h⊢;unfold kz at h⊢;split at h;rename_i id e o;skip;cases hb:σ id with|none=>simp[hb]at h|some aq=>simp only[hb]at h;cases i:aq.els[e]? with|none=>simp[i]at h|some el=>simp only[i,et]at h;obtain⟨v,hv,rfl⟩:=h;rw[b id am,hb];simp[i,hv]
   exact h;simp at h|store n x v=>
   simp only[cd]at h⊢;unfold tE at h⊢;split at h;rename_i id e o;skip;cases hb:σ id with|none=>simp[hb]at h|some aq=>simp only[hb]at h;cases i:aq.els[e]? with|none=>simp[i]at h|some el=>simp only[i]at h;split at h;rename_i B;cases h;rw[b id am,hb];simp[i,B];simp at h
   simp at h|append k bytes s x=>simp only[cd]at h⊢;unfold sg at h⊢;cases a:jn σ k x with|none=>simp[a]at h|some q=>
     obtain⟨ys,rd⟩:=q;simp only[a]at h;have f:∀id∈rd,id∈r.rd:=by
       intro id eh;split at h;split at h<;>first|(cases h;exact eh)|simp at h
       split at h;split at h<;>first|(cases h;exact eh)|simp at h
       split at h<;>first|(cases h;exact eh)|simp at h
       split at h;split at h;split at h;split at h<;>first|(cases h;exact cR _ eh)|(simp at h;done)
       split at h<;>first|(cases h;exact cR _ eh)|(split at h<;>first|(cases h;exact cR _ eh)|(simp at h;done))
       simp at h;simp at h;simp at h
     rw[KS a (λ id eh=>b id (f id eh))];simp only[];split at h;rename_i c;rw[if_pos c];exact h;rename_i c;rw[if_neg c];split at h;exact h;exact h;rename_i id k' off len t;skip;cases hb:σ id with|none=>simp[hb]at h|some aq=>
       simp only[hb]at h;have eh:id∈r.rd:=by
         split at h;split at h;split at h<;>first|(cases h;simp;done)|(simp at h;done)
         split at h<;>first|(cases h;simp;done)|(split at h<;>first|(cases h;simp;done)|(simp at h;done))
         simp at h
       rw[b id eh,hb];exact h
     simp at h
 |sQ x=>simp only[cd]at h⊢;unfold Dr at h⊢;cases a:jn σ 1 x with|none=>simp[a]at h|some q=>obtain⟨ys,rd⟩:=q;simp only[a,et]at h;obtain⟨l,hl,rfl⟩:=h;rw[KS a b];simp[hl]
 |slice k x lo hi mx=>simp only[cd]at h⊢;cases u:gv k x lo hi mx with|some v=>rw[u]at h;exact h|none=>
     rw[u]at h;simp only[oB]at h⊢;split at h;rename_i id k' off len B;cases hb:σ id with|none=>simp[hb]at h|some aq=>simp only[hb]at h;split at h;rename_i hc;simp only[et]at h;obtain⟨v,hv,rfl⟩:=h;rw[b id am,hb];simp[hc,hv];simp at h
     exact h;simp at h
 |u9 n x lo hi=>
   simp only[cd]at h⊢;unfold IV at h⊢;split at h;rename_i id e;cases hb:σ id with|none=>simp[hb]at h|some aq=>
     have D:id∈r.rd:=by simp only[hb]at h;cases a:aq.els[e]? with|none=>simp[a]at h|some el=>simp only[a]at h;cases m:gu n lo hi with|none=>simp[m]at h|some q=>obtain⟨l,r'⟩:=q;simp only[m]at h;split at h;cases h;simp;simp at h
     simp only[b id D];exact h
   simp at h|cap x=>simp only[cd]at h⊢;cases u:OA x with|some v=>rw[u]at h;exact h|none=>
     rw[u]at h;simp only[Dt]at h⊢;split at h;rename_i id k' off len;cases hb:σ id with|none=>simp[hb]at h|some aq=>simp only[hb]at h;split at h;rename_i hc;cases h;rw[b id am,hb];simp[hc];simp at h
     simp at h
 |mP x y=>
   simp only[cd]at h⊢;unfold Dx at h⊢;split at h;rename_i i1 _ _ _ _ i2 _ _ _ _;split at h;simp at h;rename_i hne;cases h1:σ i1 with|none=>simp[h1]at h|some b1=>cases C:σ i2 with|none=>simp[h1,C]at h|some b2=>simp only[h1,C]at h;split at h;rename_i hp;cases h;simp only[b i1 am,b i2 am,h1,C];rw[if_neg hne,if_pos hp];simp at h
   simp at h|clear k z x=>simp only[cd]at h⊢;unfold IM at h⊢;split at h;exact h;rename_i id k' off len mh;split at h;rename_i g;simp only[g,if_true];exact h;rename_i g;simp only[g,if_false];split at h;rename_i B;rw[if_pos B];exact Yv h b;simp at h;simp at h|copy k d x=>simp only[cd]at h⊢;unfold IP at h⊢;cases a:jn σ k x with|none=>simp[a]at h|some q=>
     obtain⟨ys,rd⟩:=q;simp only[a]at h;have f:∀id∈rd,id∈r.rd:=by intro id eh;split at h;cases h;exact eh;split at h;cases h;exact eh;split at h;have:=Yw h;rw[this];exact cR _ eh;simp at h;simp at h
     rw[KS a (λ id eh=>b id (f id eh))];simp only[];split at h;exact h;split at h;rename_i g;rw[if_pos g];exact h;rename_i g;rw[if_neg g];split at h;rename_i hk;rw[if_pos hk];exact Yv h b;simp at h;simp at h
 |_=>exact h
def anA{P:Program}{G:Nat->Option (List aa)}{σ c:aL}{p:Id}{op:dJ aa}{r:bG}(h:m2 P G σ p op r)(e:∀id∈r.rd,c id=σ id):m2 P G c p op r:=by cases op with|call f i=>simp only[m2]at h⊢;split at h;have⟨S,h1,g,b⟩:=h;exact⟨S,h1,λ x d=>by rw[e _ (b x d)];exact g x d,b⟩;exact h|_=>exact aoY h e
def Cw{ot:Option aa}{r:bG}(h:dC ot=some r):r.rd=[]/\r.up=[]:=by cases ot with|none=>simp[dC]at h|some c=>simp only[dC,fb,a9]at h;subst h;exact⟨rfl,rfl⟩
def akI{P:Program}{G:Nat->Option (List aa)}{σ:aL}{p:Id}{op:dJ dD}(a:op.pure=true){t:List aa}{r:bG}(h:m2 P G σ p (op.map (mo G t)) r):r.rd=[]/\r.up=[]:=by cases op<;>simp only[dJ.pure,iL]at a<;>simp only[dZ,m2,cd]at h;all_goals first|exact Cw h|(simp at h;done)|(split at h<;>first|exact Cw h|(simp at h;done)|(split at h<;>first|exact Cw h|(simp at h;done)))
def ahV{P:Program}{G:Nat->Option (List aa)}{σ:aL}{p:Id}{op:dJ dD}(c:op.rK=true){t:List aa}{r:bG}(h:m2 P G σ p (op.map (mo G t)) r):r.up=[]:=by
 cases op<;>simp only[dJ.rK,iL]at c;case sQ=>simp only[dZ,m2,cd]at h;unfold Dr at h;split at h;simp only[et]at h;obtain⟨v,_,rfl⟩:=h;rfl;simp at h
 case mP=>simp only[dZ,m2,cd]at h;unfold Dx at h;split at h;split at h;simp at h;split at h;split at h;cases h;rfl;simp at h;simp at h;simp at h
 case slice=>simp only[dZ,m2,cd]at h;unfold oB at h;split at h;exact(Cw h).2;split at h;split at h;split at h;simp only[et]at h;obtain⟨v,_,rfl⟩:=h;rfl;simp at h;simp at h;split at h;split at h;split at h;cases h;rfl;simp at h;simp at h;simp at h;simp at h
 case cap=>simp only[dZ,m2,cd]at h;unfold Dt at h;split at h;exact(Cw h).2;split at h;split at h;split at h;cases h;rfl;simp at h;simp at h;simp at h
 simp only[dZ,m2,cd]at h;unfold kz at h;split at h;split at h;split at h;simp only[et]at h;obtain⟨v,_,rfl⟩:=h;rfl;simp at h;simp at h;simp only[et]at h;obtain⟨v,_,rfl⟩:=h;rfl;simp at h
def K8{X Y:Nat->Bool}:∀(L:List Done)(i:Nat)(t:List aa),(∀k,k<L.length->X (i+k)=Y (i+k))->e7 X L i t=e7 Y L i t|[],_,_,_=>rfl|(d,r)::L,i,t,h=>by simp only[e7];have a:=h 0 am;rw[ij]at a;rw[a];exact K8 L (i+1) _ (λ k b=>by rw[show i+1+k=i+(k+1)from ac];exact h (k+1) (by simpa using b))
def K6{X Y:Nat->Bool}:∀(L:List Done)(i:Nat)(σ:aL),(∀k,k<L.length->X (i+k)=Y (i+k))->fO X L i σ=fO Y L i σ|[],_,_,_=>rfl|(d,r)::L,i,t,h=>by simp only[fO];have a:=h 0 am;rw[ij]at a;rw[a];exact K6 L (i+1) _ (λ k b=>by rw[show i+1+k=i+(k+1)from ac];exact h (k+1) (by simpa using b))
def Rb{X Y:Nat->Bool}{i:Nat}(d:X i=false)(e:Y i=true)(b:∀k,X k=true->Y k=true):∀(l:List Nat),i∈l->l.countP X<l.countP Y|[],h=>by simp at h|a::l,h=>by have g:l.countP X<=l.countP Y:=List.countP_mono_left λ x _ f=>b x f;simp only[Zi];rcases ct.1 h with rfl|h;simp[d,e];omega;have:=Rb d e b l h;by_cases c:X a=true;simp[c,b a c];omega;simp[c];split<;>omega
def Ra{X:Nat->Bool}:∀(l:List Nat),l.length<=l.countP X->∀i∈l,X i=true|[],_,i,h=>by simp at h|a::l,c,i,h=>by have d:=List.countP_le_length (p:=X) (l:=l);simp only[Zi,gC]at c;by_cases b:X a=true;simp only[b,if_true]at c;rcases ct.1 h with rfl|h;exact b;exact Ra l ac i h;simp[b]at c;omega
end
section
variable{P:Program}{G:Nat->Option (List aa)}{own:Nat->Prop}
def Un{n i j:Nat}(a:i<j)(b:j<n):(i,j)∈E9 n:=by unfold E9;rw[kD];exact⟨j,c8.2 b,bp.2 ⟨i,c8.2 a,rfl⟩⟩
structure J1(G:Nat->Option (List aa))(π:Id)(own:Nat->Prop)(L:List Done)(base n:Nat)(t0:List aa)(oP:aL)(a0:Act)(jk:Env)(w0:World)(X:Nat->Bool)(E:Env)(w:World)(a:Act):Prop where
 frame:gb E w (e7 X L 0 t0) a
 inv:Inv G own E w (fO X L 0 oP)iO:gL own π jk E w0 w
 free:∀i,i<n->X i=false->∀j,((base+i)::π)<:+j->E.μ j=none
 more:lU E π (base+n)defers:a.defers=a0.defers
def akk{ops:Array Oper}{vs:List dK}(y9:ops.toList.mapM (rr P ops)=some vs)(LC:Hw vs (ops.toList.map rW)=true){π:Id}{N:Nat}{C:List aa}{I:aL}{M:List bG}(afU:M.length=vs.length)(hst:∀k o r,vs[k]?=some o->M[k]?=some r->Il P G π N o (0+k) (e7 (λ m=>m<0+k) ((vs.map (·.dst)).zip M) 0 C) (fO (λ m=>m<0+k) ((vs.map (·.dst)).zip M) 0 I) r)(Ln:Bg M (FW vs (ops.toList.map rW))){a0:Act}{jk:Env}{w0:World}{Q:Exit->Act->World->Prop}(Gg:∀a E w,J1 G π own ((vs.map (·.dst)).zip M) N ops.size C I a0 jk w0 (λ _=>true) E w a->Q .normal a w):∀(fuel:Nat)(c:Array Bool)(a:Act)(E:Env)(w:World),c.size=ops.size->ops.size<=(a8 ops.size).countP (λ i=>c.getD i false)+fuel->(∀k,k<ops.size->c.getD k false=true->∀e∈(ops.toList.map rW).getD k [],c.getD e false=true)->J1 G π own ((vs.map (·.dst)).zip M) N ops.size C I a0 jk w0 (λ i=>c.getD i false) E w a->wpAny P .any ops Q fuel c a w:=by
 have S7:vs.length=ops.size:=by have:=uR y9;simpa using this
 generalize bk:(vs.map (·.dst)).zip M=L at*;have ara:L.length=ops.size:=by rw[<-bk];simp[afU,S7]
 have J:∀(k:Nat)(d:Option Nat)(r:bG),L[k]?=some (d,r)↔∃o:dK,vs[k]?=some o/\o.dst=d/\M[k]?=some r:=by intro k d r;rw[<-bk,List.getElem?_zip_eq_some];simp only[kZ,et];constructor;rintro⟨⟨o,h1,h2⟩,z⟩;exact⟨o,h1,h2,z⟩;rintro⟨o,h1,h2,z⟩;exact⟨⟨o,h1,h2⟩,z⟩
 generalize SX:ops.toList.map rW=B at*;have arq:B.length=ops.size:=by rw[<-SX];simp
 unfold Hw at LC;simp only[gU,dY]at LC;obtain⟨⟨_,hlt⟩,ae9⟩:=LC;have LA:∀j,j<ops.size->∀e∈B.getD j [],e<j:=by intro j hj e he;have:=hlt j (c8.2 (by rw[S7];exact hj)) e he;simpa using this
 have wD:∀(i j:Nat)(a b:dK),i<j->vs[i]?=some a->vs[j]?=some b->uq a b=true->((ia B []).getD j 0).testBit i=true:=by intro i j a b BS ha hb hc;have hj:j<vs.length:=(fc.1 hb).1;have:=ae9 (i,j) (Un BS hj);simp only[ha,hb,hc,Bool.not_true,Bool.false_or]at this;exact this
 have O:∀(i j:Nat)(a b:dK),i<j->vs[i]?=some a->vs[j]?=some b->a.op.pure=false->b.op.pure=false->(a.op.rK&&b.op.rK)=false->((ia B []).getD j 0).testBit i=false->∀(x y:bG),M[i]?=some x->M[j]?=some y->apart x y:=by intro i j a b BS ha hb afM afN afu A x y hx hy;have hj:j<vs.length:=(fc.1 hb).1;refine Ln (i,j) ?_ x y hx hy;unfold FW;rw[qN];exact⟨Un BS hj,by simp only[ha,hb,afM,afN,afu,A];rfl⟩
 have K:∀(k:Nat)(o:dK)(r:bG),vs[k]?=some o->M[k]?=some r->(r.rd≠[]\/r.up≠[])->o.op.pure=false:=by intro k o r ho hr g;cases hp:o.op.pure with|false=>rfl|true=>rcases hst k o r ho hr with⟨_,rfl⟩|⟨_,hs⟩;simp at g;obtain⟨h1,h2⟩:=akI hp hs;simp[h1,h2]at g
 have U1:∀(k:Nat)(o:dK)(r:bG),vs[k]?=some o->M[k]?=some r->r.up≠[]->o.op.rK=false:=by intro k o r ho hr g;cases hp:o.op.rK with|false=>rfl|true=>rcases hst k o r ho hr with⟨_,rfl⟩|⟨_,hs⟩;simp at g;exact absurd (ahV hp hs) g
 intro fuel;induction fuel with|zero=>
   intro c a E w Lz SL y1 A;have F:∀i,i<ops.size->c.getD i false=true:=by intro i hi;have:=Ra (X:=λ i=>c.getD i false) (a8 ops.size) (by simpa using SL) i (c8.2 hi);exact this
   refine⟨?_,Gg a E w ?_⟩;apply List.eq_nil_iff_forall_not_mem.2;intro j hj;obtain⟨h1,o,h2,_⟩:=mem_ready.1 hj;have qe:j<ops.size:=(xN.1 h2).1;have:=F j qe;rw[sx]at h1 this;cases b9:c[j]? with|none=>simp[b9]at this|some b=>simp[b9]at h1 this;simp[h1]at this
   have e1:e7 (λ i=>c.getD i false) L 0 C=e7 (λ _=>true) L 0 C:=K8 L 0 C (λ k t=>by rw[cF];exact F k ac);have e2:fO (λ i=>c.getD i false) L 0 I=fO (λ _=>true) L 0 I:=K6 L 0 I (λ k t=>by rw[cF];exact F k ac);exact⟨e1▸A.frame,e2▸A.inv,A.iO,am,A.more,A.defers⟩|succ fuel ih=>
   intro c a E w Lz SL y1 A;have Sv:∀i,i<ops.size->c.getD i true=c.getD i false:=by intro i hi;rw[sx,sx,Array.getElem?_eq_getElem ac];rfl
   have Vd:∀(j:Nat)(o:Oper),ops[j]?=some o->B.getD j []=rW o:=by intro j o ho;rw[<-SX];have hj:j<ops.size:=(xN.1 ho).1;have he:ops[j]=o:=(xN.1 ho).2;simp[Ax,hj,he]
   refine⟨?_,?_⟩
   · intro afK;have F:∀i,i<ops.size->c.getD i false=true:=by intro i;induction i using xM with|_ i agv=>intro hi;cases b9:c.getD i false with|true=>rfl|false=>
           exfalso;have u:i∈Region.ready .any ops c:=by
             refine mem_ready.2 ⟨(Sv i hi).trans b9,ops[i],by simp[hi],?_⟩;intro e he hb;have afz:e.on∈B.getD i []:=by rw[Vd i ops[i] (by simp[hi])];unfold rW;exact bp.2 ⟨e,qN.2 ⟨by simpa using he,hb⟩,rfl⟩
             have:=LA i hi e.on afz;exact agv e.on this ac
           rw[afK]at u;simp at u
     have e1:e7 (λ i=>c.getD i false) L 0 C=e7 (λ _=>true) L 0 C:=K8 L 0 C (λ k t=>by rw[cF];exact F k ac);have e2:fO (λ i=>c.getD i false) L 0 I=fO (λ _=>true) L 0 I:=K6 L 0 I (λ k t=>by rw[cF];exact F k ac);exact Gg a E w ⟨e1▸A.frame,e2▸A.inv,A.iO,am,A.more,A.defers⟩
   intro j hj;obtain⟨h1,o,ho,afg⟩:=mem_ready.1 hj;have BU:j<ops.size:=(xN.1 ho).1;have y0:c.getD j false=false:=(Sv j BU).symm.trans h1;generalize Gp:(λ i=>c.getD i false)=X at*;have Lk:∀i,c.getD i false=X i:=λ i=>by rw[<-Gp]
   simp only[Lk]at y1 y0;have Gy:∀e∈B.getD j [],X e=true:=by intro e he;rw[Vd j o ho]at he;unfold rW at he;obtain⟨ed,aff,rfl⟩:=bp.1 he;obtain⟨z,h4⟩:=qN.1 aff;rw[<-Lk];exact afg ed (by simpa using z) h4
   have pre:∀i,((ia B []).getD j 0).testBit i=true->X i=true:=Uj LA y1 j BU Gy;have post:∀k,k<ops.size->X k=true->((ia B []).getD k 0).testBit j=false:=by intro k t f;cases hb:((ia B []).getD k 0).testBit j with|false=>rfl|true=>have:=Uj LA y1 k t (y1 k t f) j hb;simp[y0]at this
   have BZ:∃p,vs[j]?=some p/\rr P ops o=some p:=by
     have SW:j<vs.length:=ac;obtain⟨o',z,h4⟩:=mapM_some_get y9 j vs[j] (by simp[SW]);have:o'=o:=by
       have im:ops.toList[j]?=some o:=by simpa using ho
       rw[im]at z;simpa using z.symm
     subst this;exact⟨vs[j],by simp[SW],h4⟩
   obtain⟨p,n,BZ⟩:=BZ;obtain⟨hop,SN⟩:=QG BZ;have afT:j<M.length:=ac;obtain⟨r,hr⟩:∃r,M[j]?=some r:=⟨M[j],by simp[afT]⟩;have S0:=hst j p r n hr;rw[cF]at S0;have slot:∀s∈p.names,(e7 X L 0 C)[s]?=(e7 (λ m=>m<j) L 0 C)[s]?:=by
     intro s hs;refine FV L 0 C C rfl ?_;intro k d H t g Lq;rw[cF]at g;obtain⟨ok,z,h4,im⟩:=(J k d H).1 t;subst Lq;have R:k<ops.size:=by have:=(fc.1 z).1;omega
     rcases tH k j with l|rfl|BR;have f:X k=false:=by cases b9:X k with|false=>rfl|true=>simp[b9,l]at g
     have hc:uq ok p=true:=by unfold uq;simp[h4,hs]
     have:=pre k (wD k j ok p l z n hc);simp[f]at this;simp[y0]at g;have f:X k=true:=by cases b9:X k with|true=>rfl|false=>simp[b9,Nat.not_lt.2 (Nat.le_of_lt BR)]at g
     have hc:uq p ok=true:=by unfold uq;simp[h4,hs]
     have:=wD j k p ok BR n z hc;rw[post k R f]at this;simp at this
   have afy:p.op.map (mo G (e7 X L 0 C))=p.op.map (mo G (e7 (λ m=>m<j) L 0 C)):=by refine dJ.map_congr _ λ x hx=>adL x λ s hs=>slot s ?_;unfold dK.names;exact List.mem_append_left _ (List.mem_filterMap.2 ⟨x,hx,hs⟩)
   have S8:nN (e7 X L 0 C) p.guard=nN (e7 (λ m=>m<j) L 0 C) p.guard:=by cases hg:p.guard with|none=>rfl|some q=>obtain⟨s,want⟩:=q;have:=slot s (by unfold dK.names;simp[hg]);simp only[nN,this]
   have LH:∀id∈r.rd,fO X L 0 I id=fO (λ m=>m<j) L 0 I id:=by
     intro id eh;refine FU L 0 I I rfl ?_;intro k d H t g u;rw[cF]at g;obtain⟨ok,z,h4,im⟩:=(J k d H).1 t;have R:k<ops.size:=by have:=(fc.1 z).1;omega
     have GC:ok.op.pure=false:=K k ok H z im (.inr (by intro e;simp[e]at u));have Gz:p.op.pure=false:=K j p r n hr (.inl (by intro e;simp[e]at eh));have s3:ok.op.rK=false:=U1 k ok H z im (by intro e;simp[e]at u);obtain⟨x,hx,rfl⟩:=bp.1 u;rcases tH k j with l|rfl|BR;have f:X k=false:=by cases b9:X k with|false=>rfl|true=>simp[b9,l]at g
     have hb:((ia B []).getD j 0).testBit k=false:=by cases hb:((ia B []).getD j 0).testBit k with|false=>rfl|true=>have:=pre k hb;simp[f]at this
     exact((O k j ok p l z n GC Gz (by simp[s3]) hb H r im hr).1 x hx).1 eh;simp[y0]at g;have f:X k=true:=by cases b9:X k with|true=>rfl|false=>simp[b9,Nat.not_lt.2 (Nat.le_of_lt BR)]at g
     exact(O j k p ok BR n z Gz GC (by simp[s3]) (post k R f) r H hr im).2 x hx eh
   generalize aeY:(λ i=>if i=j then true else X i)=sF at*;have D:∀i,sF i=if i=j then true else X i:=λ i=>by rw[<-aeY]
   have later:∀(k:Nat)(d:Option Nat)(H:bG),L[k]?=some (d,H)->j<k->sF k=true->∃ok:dK,vs[k]?=some ok/\ok.dst=d/\M[k]?=some H/\k<ops.size/\X k=true:=by intro k d H t l f;obtain⟨ok,z,h4,im⟩:=(J k d H).1 t;refine⟨ok,z,h4,im,by have:=(fc.1 z).1;omega,?_⟩;rw[D]at f;simpa[show k≠j from ac]using f
   have Gf:L[j]?=some (p.dst,r):=(J j _ _).2 ⟨p,n,rfl,hr⟩;have Xv:hV (e7 X L 0 C) p.dst r.val=e7 sF L 0 C:=by
     apply List.ext_getElem?;intro s;rw[zM];by_cases hd:p.dst=some s;rw[if_pos hd];rw[R9 L 0 j C (by rw[Gf,hd]) (by rw[cF,D];simp) ?_,Sa];intro k d H t l f Lq;rw[cF]at f;obtain⟨ok,z,h4,im,R,LM⟩:=later k d H t l f;have hc:uq p ok=true:=by unfold uq;simp[hd,h4,Lq]
     have:=wD j k p ok l n z hc;rw[post k R LM]at this;simp at this;rw[if_neg hd];refine FV L 0 C C rfl ?_;intro k d H t g;rw[cF,D]at g;have uF:k=j:=by apply nO;intro h;simp[h]at g
     subst uF;rw[Gf]at t;simp only[a9,cN]at t;rw[<-t.1];exact hd
   have Wt:(fO X L 0 I).app r.up=fO sF L 0 I:=by
     funext id;by_cases u:id∈r.up.map (·.1);symm;refine R8 L 0 j I Gf (by rw[cF,D];simp) u ?_;intro k d H t l f SU;rw[cF]at f;obtain⟨ok,z,h4,im,R,LM⟩:=later k d H t l f;have GC:ok.op.pure=false:=K k ok H z im (.inr (by intro e;simp[e]at SU));have Gz:p.op.pure=false:=K j p r n hr (.inr (by intro e;simp[e]at u));have aft:p.op.rK=false:=U1 j p r n hr (by intro e;simp[e]at u);obtain⟨x,hx,rfl⟩:=bp.1 u;exact((O j k p ok l n z Gz GC (by simp[aft]) (post k R LM) r H hr im).1 x hx).2 SU;rw[aL.Fa u];refine FU L 0 I I rfl ?_;intro k d H t g;rw[cF,D]at g;have uF:k=j:=by apply nO;intro h;simp[h]at g
     subst uF;rw[Gf]at t;simp only[a9,cN]at t;rw[<-t.2];exact u
   have fx:∀i,(c.setIfInBounds j true).getD i false=sF i:=by intro i;rw[D];by_cases e:i=j;subst e;rw[sx];simp[Lz,BU];rw[if_neg e,getD_set_ne false (λ h=>e h.symm),Lk]
   have go:∀(a':Act)(E':Env)(w':World),gb E' w' (e7 sF L 0 C) a'->Inv G own E' w' (fO sF L 0 I)->gL own π E E' w w'->(∀i:Id,¬((N+j)::π)<:+i->E'.μ i=E.μ i)->a'.defers=a.defers->wpAny P .any ops Q fuel (c.setIfInBounds j true) a' w':=by
     intro a' E' w' Lu fy had SS afd;have SP:(λ i=>(c.setIfInBounds j true).getD i false)=sF:=funext fx;refine ih _ a' E' w' (by simpa using Lz) ?_ ?_ ?_;rw[SP];have:=Rb (X:=X) (Y:=sF) (i:=j) y0 (by rw[D];simp) (λ k t=>by rw[D];split<;>simp[t]) (a8 ops.size) (c8.2 BU);omega;intro k t f e he;rw[fx]at f⊢;rw[D]at f⊢;split;rfl;by_cases uF:k=j;subst uF;exact Gy e he;rw[if_neg uF]at f;exact y1 k t f e he;rw[SP];refine⟨Lu,fy,A.iO.trans had,?_,?_,afd.trans A.defers⟩;intro i hi GF j';rw[D]at GF;have BS:i≠j:=by rintro rfl;simp at GF
     rw[if_neg BS]at GF;intro hj';rw[SS _ (XZ hj' ac)];exact A.free i hi GF j' hj';intro j' hj' hq;rw[SS _ (hq (N+j) ac)];exact A.more j' hj' hq
   unfold wpOp;rw[ho];simp only[];rcases S0 with⟨af6,rfl⟩|⟨af7,S1⟩;rw[IY BZ A.frame (S8.trans af6)];simp only[iL,if_false];refine go _ E w ?_ ?_ (gL.refl own π E w) (λ _ _=>rfl) (HN _ _ _);rw[<-Xv,<-SN];exact XY A.frame _;rw[<-Wt];exact A.inv;rw[IY BZ A.frame (S8.trans af7)];simp only[if_true];left;rw[<-afy]at S1;refine Xj A.inv (A.free j BU y0) A.frame hop (anA S1 LH) ?_;intro v w' E' hp;refine go _ E' w' ?_ ?_ hp.Qd hp.ids (HN _ _ _);rw[<-Xv,<-SN];exact hp.frame A.frame _;rw[<-Wt];exact hp.inv
inductive cf where|normal|exit(id:Nat)|ret
def cf.real:cf->Exit|.normal=>.normal|.exit id=>.exit id|.ret=>.ret
structure du where
 t:List aa
 σ:aL
 n:Nat
structure oU(G:Nat->Option (List aa))(π:Id)(own:Nat->Prop)(E:Env)(w:World)(s:du)(a:Act):Prop where
 frame:gb E w s.t a
 inv:Inv G own E w s.σ
 free:lU E π s.n
 defers:a.defers=[]
def bP(G:Nat->Option (List aa))(π:Id)(s s':du):Prop:=∀own E w a,oU G π own E w s a->∃E',gL own π E E' w w/\oU G π own E' w s' a
def bo(P:Program)(G:Nat->Option (List aa))(π:Id)(eA:cw)(Q:cf->du->Prop)(s:du):Prop:=∀c,gi P c=some eA->∀own E w a(R:Exit->Act->World->Prop),oU G π own E w s a->(∀e s' E' w' a',Q e s'->gL own π E E' w w'->oU G π own E' w' s' a'->R e.real a' w')->c.wp P R a w
end
section
variable{P:Program}{G:Nat->Option (List aa)}{π:Id}{Q:cf->du->Prop}{s:du}
def bP.refl(G:Nat->Option (List aa))(π:Id)(s:du):bP G π s s:=λ own E w _ h=>⟨E,gL.refl own π E w,h⟩
def bP.trans{s s' b:du}(h:bP G π s s')(k:bP G π s' b):bP G π s b:=λ own E w a c=>by have⟨j,g,f⟩:=h own E w a c;have⟨e,d,i⟩:=k own j w a f;exact⟨e,g.trans d,i⟩
def bo.j9{eA:cw}{s':du}(h:bP G π s s')(k:bo P G π eA Q s'):bo P G π eA Q s:=by intro c n own E w a R b p;have⟨j,q,o⟩:=h own E w a b;exact k c n own j w a R o λ e i m r l d g f=>p e i m r l d (q.trans g) f
def bo.mono{eA:cw}{Q':cf->du->Prop}(h:bo P G π eA Q s)(g:∀e s,Q e s->Q' e s):bo P G π eA Q' s:=λ c k own E w a R f l=>h c k own E w a R f λ e d j m i b=>l e d j m i (g e d b)
def bo.skip(h:Q .normal s):bo P G π .skip Q s:=by intro c b own E w a R d e;cases c<;>simp only[gi,a9,reduceCtorEq]at b;exact wp_skip (e .normal s E w a h (gL.refl own π E w) d);exfalso;revert b;unfold o5;(repeat' split)<;>simp;all_goals(exfalso;revert b;(repeat' split)<;>simp)
def QF{c:Code}{g:Option (List (Nat×Nat))}{vs:List dK}(b:gi P c=some (.mU g vs)):∃id ops a,c=.region id ops a/\ops.toList.mapM (rr P ops)=some vs/\((a=false/\g=none)\/(a=true/\g=some (FW vs (ops.toList.map rW))/\Hw vs (ops.toList.map rW)=true/\P.follows .mixedOrders=true)):=by cases c with
 |region id ops a=>simp only[gi,o5]at b;cases d:ops.toList.mapM (rr P ops)with|none=>simp[d]at b|some h=>simp only[d]at b;split at b;rename_i hd;split at b;rename_i f;simp only[a9,cw.mU.injEq]at b;have⟨rfl,rfl⟩:=b;simp only[gU]at f;exact⟨id,ops,a,rfl,d,.inr ⟨hd,rfl,f.1,f.2⟩⟩;simp at b;rename_i hd;simp only[a9,cw.mU.injEq]at b;have⟨rfl,rfl⟩:=b;exact⟨id,ops,a,rfl,d,.inl ⟨by simpa using hd,rfl⟩⟩
 |_=>exfalso;revert b;simp only[gi];(repeat' split)<;>simp
def bo.WA{vs:List dK}(h:qJ P G π s.n (λ t σ=>Q .normal ⟨t,σ,s.n+vs.length⟩) vs 0 s.t s.σ):bo P G π (.mU none vs) Q s:=by
 intro c o own E w a R e v;obtain⟨id,ops,b,rfl,d,g⟩:=QF o;have hd:b=false:=by rcases g with⟨h,_⟩|⟨_,h,_⟩;exact h;simp at h
 subst hd;have r:ops.toList.length=vs.length:=(uR d).symm;refine wp_region ?_;have:=Yy (P:=P) (G:=G) (own:=own) (ops:=ops) (Q:=R) ops.toList 0 (λ k=>am) vs d s.t s.σ a E w h e.frame e.inv e.free (by intro l q a' E' w' p f u m i j;refine v .normal ⟨l,q,s.n+vs.length⟩ E' w' a' p f ⟨u,m,by have h:=i;simp only[ij,r]at h;exact h,j.trans e.defers⟩);rw[List.range_eq_range'];simpa using this
def bo.Vr{v:List (Nat×Nat)}{vs:List dK}(h:pL P G π s.n (λ g t σ=>Bg g v/\Q .normal ⟨t,σ,s.n+vs.length⟩) vs 0 [] s.t s.σ):bo P G π (.mU (some v) vs) Q s:=by
 intro c B own E w a R f F;obtain⟨id,ops,y,rfl,e,p⟩:=QF B;rcases p with⟨_,I⟩|⟨hd,m,l,q⟩;simp at I;subst hd;simp only[a9]at m;have D:vs.length=ops.size:=by have:=uR e;simpa using this
 have⟨g,r,o,u,H⟩:=Yx h;refine wp_region_any q ?_;have d:J1 G π own ((vs.map (·.dst)).zip g) s.n ops.size s.t s.σ a E w (λ i=>(vm ops.size false).getD i false) E w.drew a:=by
   have x:∀i,(vm ops.size false).getD i false=false:=by intro i;rw[sx];simp[Array.getElem?_replicate];split<;>rfl
   have K:e7 (λ i=>(vm ops.size false).getD i false) ((vs.map (·.dst)).zip g) 0 s.t=s.t:=K9 _ _ _ λ k _=>x _;have A:fO (λ i=>(vm ops.size false).getD i false) ((vs.map (·.dst)).zip g) 0 s.σ=s.σ:=K7 _ _ _ λ k _=>x _;exact⟨by rw[K];exact f.frame.keep (Adv.drew (own:=own) E w).step,by rw[A];exact f.inv.drew,⟨Adv.drew E w,λ _ _=>rfl⟩,λ i _ _ j C=>f.free.at ac C,f.free.mono ac,rfl⟩
 refine akk e l r o (by rw[<-m];simpa using u) (Q:=R) (a0:=a) (jk:=E) (w0:=w) ?_ ops.size (vm ops.size false) a E w.drew am am ?_ d;intro a' E' w' b;refine F .normal _ E' w' a' H b.iO ⟨b.frame,b.inv,by rw[D];exact b.more,b.defers.trans f.defers⟩;intro k J z;rw[sx]at z;simp[J]at z
def bo.seq{x y:cw}(h:bo P G π x (λ e s'=>match e with|.normal=>bo P G π y Q s'|e=>Q e s') s):bo P G π (.seq x y) Q s:=by
 intro c b own E w a R t l;cases c<;>simp only[gi,a9,reduceCtorEq]at b;case seq q r=>cases h1:gi P q with|none=>simp[h1]at b|some fZ=>cases o:gi P r with|none=>simp[h1,o]at b|some tA=>simp only[h1,o,a9,cw.seq.injEq]at b;obtain⟨rfl,rfl⟩:=b;refine wp_seq (h q h1 own E w a _ t ?_);intro e s' E' w' a' m f d;cases e with|normal=>exact m r o own E' w' a' R d λ e2 u A8 xG nk k j n=>l e2 u A8 xG nk k (f.trans j) n|exit id=>exact l (.exit id) s' E' w' a' m f d|ret=>exact l .ret s' E' w' a' m f d
 case region=>exfalso;revert b;unfold o5;(repeat' split)<;>simp
 all_goals(exfalso;revert b;(repeat' split)<;>simp)
def bo.cond{eA:dD}{x y:cw}{b:Bool}(hb:eA.ev G s.t=.bool b)(h:if b then bo P G π x Q s else bo P G π y Q s):bo P G π (.cond eA x y) Q s:=by
 intro c d own E w a R g l;cases c<;>simp only[gi,a9,reduceCtorEq]at d;case cond o m k=>cases e:b8 o with|none=>simp[e]at d|some n=>cases h1:gi P m with|none=>simp[e,h1]at d|some fZ=>cases i:gi P k with|none=>simp[e,h1,i]at d|some tA=>simp only[e,h1,i,a9,cw.cond.injEq]at d;have⟨rfl,rfl,rfl⟩:=d;have j:=de g.frame g.inv e;rw[hb]at j;simp only[av]at j;refine wp_cond j ?_;cases b with|true=>simp only[if_true]at h⊢;exact h m h1 own E w a R g l|false=>simp only[iL,if_false]at h⊢;exact h k i own E w a R g l
 case region=>exfalso;revert d;unfold o5;(repeat' split)<;>simp
 all_goals(exfalso;revert d;(repeat' split)<;>simp)
def bo.acX{eA:dD}{x y:cw}(hb:eA.ev G s.t=.jC)(h1:bo P G π x Q s)(n:bo P G π y Q s):bo P G π (.cond eA x y) Q s:=by
 intro c d own E w a R g l;cases c<;>simp only[gi,a9,reduceCtorEq]at d;case cond p m k=>cases e:b8 p with|none=>simp[e]at d|some o=>cases h:gi P m with|none=>simp[e,h]at d|some fZ=>cases j:gi P k with|none=>simp[e,h,j]at d|some tA=>simp only[e,h,j,a9,cw.cond.injEq]at d;have⟨rfl,rfl,rfl⟩:=d;have f:=de g.frame g.inv e;rw[hb]at f;simp only[av]at f;have⟨b,f⟩:=f;refine wp_cond f ?_;cases b with|true=>exact h1 m h own E w a R g l|false=>exact n k j own E w a R g l
 case region=>exfalso;revert d;unfold o5;(repeat' split)<;>simp
 all_goals(exfalso;revert d;(repeat' split)<;>simp)
def bo.block{id:Nat}{x:cw}(h:bo P G π x (λ e s'=>match e with|.exit i=>if i=id then Q .normal s' else Q (.exit i) s'|e=>Q e s') s):bo P G π (.block id x) Q s:=by
 intro c g own E w a R hm k;cases c<;>simp only[gi,a9,reduceCtorEq]at g;case block i q=>cases h1:gi P q with|none=>simp[h1]at g|some tA=>simp only[h1,fb,a9,cw.block.injEq]at g;obtain⟨rfl,rfl⟩:=g;refine wp_block (h q h1 own E w a _ hm ?_);intro e s' E' w' a' f d b;cases e with|normal=>exact k .normal s' E' w' a' f d b|exit j=>simp only[cf.real,Exit.inBlock];split;rename_i o;simp only[o,if_true]at f;exact k .normal s' E' w' a' f d b;rename_i o;simp only[o,if_false]at f;exact k (.exit j) s' E' w' a' f d b|ret=>exact k .ret s' E' w' a' f d b
 case region=>exfalso;revert g;unfold o5;(repeat' split)<;>simp
 all_goals(exfalso;revert g;(repeat' split)<;>simp)
def bo.exit{id:Nat}(h:Q (.exit id) s):bo P G π (.exit id) Q s:=by
 intro c b own E w a R f g;cases c<;>simp only[gi,a9,reduceCtorEq]at b;case exit i=>simp only[cw.exit.injEq]at b;subst b;exact wp_exit (g (.exit i) s E w a h (gL.refl own π E w) f)
 case region=>exfalso;revert b;unfold o5;(repeat' split)<;>simp
 all_goals(exfalso;revert b;(repeat' split)<;>simp)
def bo.ret(h:Q .ret s):bo P G π .ret Q s:=by
 intro c d own E w a R e f;cases c<;>simp only[gi,a9,reduceCtorEq]at d;case ret=>exact wp_ret (f .ret s E w a h (gL.refl own π E w) e)
 case region=>exfalso;revert d;unfold o5;(repeat' split)<;>simp
 all_goals(exfalso;revert d;(repeat' split)<;>simp)
def YE{α:Type}{c:Code}{R:Exit->Act->World->Prop}(I:α->Act->World->Prop)(μ:α->Nat){x:α}{a:Act}{w:World}(D:I x a w)(g:∀x a w,I x a w->c.wp P (Exit.then (λ a' w'=>∃u,I u a' w'/\μ u<μ x) R) a w):(Code.loop c).wp P R a w:=by
 intro b k cs;have key:∀n x a w,μ x=n->I x a w->∃e a' w',R e a' w'/\Arrives P (lone (b.at a (.code c::.inLoop c::k)) cs w) b k cs e a' w':=by intro n;induction n using xM with|_ n z=>intro x a w B hI;obtain⟨e,j,i,f,d⟩:=g x a w hI b (.inLoop c::k) cs;cases e with|normal=>obtain⟨y,r,p⟩:=f;obtain⟨C,A,apA,q,h⟩:=z (μ y) (B▸p) y j i rfl r;exact⟨C,A,apA,q,.of_steps (Steps.trans d (.one step_inLoop)) h⟩|exit id=>exact⟨_,j,i,f,.pass (x:=.inLoop c) rfl (λ _ _=>.inl am) d⟩|goto l=>exact⟨_,j,i,f,.pass (x:=.inLoop c) rfl (λ _ _=>.inl am) d⟩|ret=>exact⟨_,j,i,f,.pass (x:=.inLoop c) rfl (λ _ _=>.inl am) d⟩|panic ch=>exact⟨_,j,i,f,.pass (x:=.inLoop c) rfl (λ _ _=>.inl am) d⟩|outgrown=>exact⟨_,j,i,f,.pass (x:=.inLoop c) rfl (λ _ _=>.inl am) d⟩
 obtain⟨e,a',w',f,d⟩:=key _ x a w rfl D;exact⟨e,a',w',f,.of_steps (.one step_loop) d⟩
def bo.loop{x:cw}(I:du->Prop)(m:du->Nat)(F:∃s',bP G π s s'/\I s')(h:∀s,I s->bo P G π x (λ e s'=>match e with|.normal=>∃g,bP G π s' g/\I g/\m g<m s|e=>Q e s') s):bo P G π (.loop x) Q s:=by
 obtain⟨L,v,y⟩:=F;refine bo.j9 v ?_;intro c i own E w a R hm z;cases c<;>simp only[gi,a9,reduceCtorEq]at i;case loop A=>cases h1:gi P A with|none=>simp[h1]at i|some tA=>simp only[h1,fb,a9,cw.loop.injEq]at i;subst i;refine YE (α:=du) (λ s' a' w'=>I s'/\∃E',gL own π E E' w w'/\oU G π own E' w' s' a') m (x:=L) ⟨y,E,gL.refl own π E w,hm⟩ ?_;rintro J H xG⟨t,A8,b,u⟩;refine h J t A h1 own A8 xG H _ u ?_;intro e s' E' w' a' n f d;cases e with|normal=>obtain⟨D,o,r,q⟩:=n;obtain⟨K,l,p⟩:=o own E' w' a' d;exact⟨D,⟨r,K,(b.trans f).trans l,p⟩,q⟩|exit id=>exact z (.exit id) s' E' w' a' n (b.trans f) d|ret=>exact z .ret s' E' w' a' n (b.trans f) d
 case region=>exfalso;revert i;unfold o5;(repeat' split)<;>simp
 all_goals(exfalso;revert i;(repeat' split)<;>simp)
def Then(k:du->Prop)(Q:cf->du->Prop):cf->du->Prop|.normal,s=>k s|.exit i,s=>Q (.exit i) s|.ret,s=>Q .ret s
def aaN(id:Nat)(Q:cf->du->Prop):cf->du->Prop|.normal,s=>Q .normal s|.exit i,s=>if i=id then Q .normal s else Q (.exit i) s|.ret,s=>Q .ret s
def qK(P:Program)(G:Nat->Option (List aa))(π:Id):cw->(cf->du->Prop)->du->Prop
 |.skip,Q,s=>Q .normal s|.mU none vs,Q,s=>qJ P G π s.n (λ t σ=>Q .normal ⟨t,σ,s.n+vs.length⟩) vs 0 s.t s.σ|.mU (some d) vs,Q,s=>pL P G π s.n (λ a t σ=>Bg a d/\Q .normal ⟨t,σ,s.n+vs.length⟩) vs 0 [] s.t s.σ|.seq x y,Q,s=>qK P G π x (Then (qK P G π y Q) Q) s|.cond c x y,Q,s=>match c.ev G s.t with|.bool b=>if b then qK P G π x Q s else qK P G π y Q s|.jC=>qK P G π x Q s/\qK P G π y Q s|_=>False
 |.block id x,Q,s=>qK P G π x (aaN id Q) s|.loop x,Q,s=>bo P G π (.loop x) Q s|.exit id,Q,s=>Q (.exit id) s|.ret,Q,s=>Q .ret s
def bo.of:∀{eA:cw}{Q:cf->du->Prop}{s:du},qK P G π eA Q s->bo P G π eA Q s
 |.skip,_,_,h=>bo.skip h|.mU none _,_,_,h=>bo.WA h|.mU (some _) _,_,_,h=>bo.Vr h|.seq x y,Q,s,h=>by refine bo.seq (bo.mono (bo.of (eA:=x) h) ?_);intro e s' d;cases e with|normal=>exact bo.of (eA:=y) d|exit id=>exact d|ret=>exact d
 |.cond c x y,Q,s,h=>by
   simp only[qK]at h;split at h;rename_i b hb;refine bo.cond hb ?_;cases b with|true=>exact bo.of (eA:=x) h|false=>exact bo.of (eA:=y) h
   rename_i hb;exact bo.acX hb (bo.of (eA:=x) h.1) (bo.of (eA:=y) h.2);exact h.elim|.block id x,Q,s,h=>by refine bo.block (bo.mono (bo.of (eA:=x) h) ?_);intro e s' d;cases e with|normal=>exact d|exit i=>exact d|ret=>exact d
 |.loop x,Q,s,h=>h|.exit id,_,_,h=>bo.exit h|.ret,_,_,h=>bo.ret h
end
end Go.ay
