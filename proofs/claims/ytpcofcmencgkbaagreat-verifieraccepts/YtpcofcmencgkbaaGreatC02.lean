/- For the claim of VerifierAccepts: parts VL10, VL11, VL12, VL13, VL14, VL15, VL16. -/
import Derived.Test.YtpcofcmencgkbaaGreatC01
import Derived.Lib.AppendZeros
import Derived.Laws.BytesArg
import Derived.Laws.Externs
import Derived.Lib.Bytealg
import Derived.Lib.Overlaps
import Derived.Orders
set_option linter.defProp false
set_option linter.unusedSectionVars false
set_option linter.unusedSimpArgs false
set_option linter.unusedVariables false
set_option maxRecDepth 100000
open Array renaming ext'->nT,getD_eq_getD_getElem?->tv,getElem?_eq_some_iff->yw,replicate->wo
open Bool renaming and_eq_true->gj,false_eq_true->iz
open ByteArray renaming mk->wG
open Classical renaming byContradiction->oQ
open Go.Builtin renaming append_->sa,cap_->JZ,clear_->Fz,copy_->FA,firstCells->ab7,lenOf->KJ,len_->ES,max_->aaC,min_->aaB,zeroCells->BS
open Go.Conv renaming intToString->aaD
open Go.Deferred renaming ofValue->aav
open Go.Extern renaming allGenericRows->aaw,allNextRows->PW,allTypedRows->aax,find->EP,findNext->EO
open Go.Extern.BytealgIndexByte renaming indexByte->aay
open Go.Extern.SlicesOverlaps renaming overlaps->PV
open Go.Instr renaming sliceAt->r9
open Go.Region renaming wanted->P0
open Go.Result renaming andThen_ok->PZ
open Go.Sem renaming run_bind->PY
open Go.Utf8 renaming encode->J0
open Go.aA.Adv renaming refl->tk
open Go.aA.Env renaming zd->Fy,vb->KI
open Go.aA.ax renaming cells->QF,keep->uZ
open Go.aA.eO renaming keep->BR
open Go.aA.bq renaming append->tA,len->FB
open Go.aA.Sound renaming NM->m7,same->gn
open Go.aA.aQ renaming app->mz,put->wO,nF->wN,vQ->BQ
open Go.aA.dO renaming ev->m6
open Go.aA.dY renaming map->en
open Go.Value renaming bool->JY
open Go.World renaming frozen?->aaA,shape?->aaz
open List renaming all_eq_true->ek,append_assoc->qL,countP_cons->aaF,eq_of_mem_replicate->jl,getD->Bo,getElem?_append_left->kO,getElem?_append_right->kx,getElem?_cons_zero->tj,getElem?_eq_getElem->eu,getElem?_eq_some_iff->fl,getElem?_map->kv,getElem?_set->yu,getElem?_toArray->E3,length_append->cy,length_cons->fU,length_drop->m8,length_nil->gR,length_take->eZ,map_congr_left->kq,map_cons->mw,mem_append->hJ,mem_cons->cp,mem_cons_of_mem->cX,mem_filter->iU,mem_flatMap->g3,mem_map->bd,mem_of_mem_take->gZ,mem_range->cb,range->aR,replicate->bI,suffix_cons->aaE,suffix_refl->wM
open Nat renaming add_zero->j7,le_refl->a2,lt_trichotomy->wm,mul_le_mul_right->cr,strongRecOn->yv,zero_add->cI
open Option renaming isSome_iff_exists->ab8,map_eq_some_iff->eI,map_some->fk
open Option.some renaming injEq->bf
open Prod.mk renaming injEq->c5
open UInt8 renaming ofNat->PX
namespace Go.aA
section
variable{P:Program}{G:Nat->Option (List aa)}{own:Nat->Prop}{E:Env}{w:World}{σ:aQ}{p:Id}
def aoB(u:Inv G own E w σ)(kB:E.μ p=none)(g7:σ p=none){id:Id}{av:aJ}(ei:σ id=some av)(M:av.fr=false){g N:Nat}{a:Array Value}{ty:TypeId}(d:pU E own w id av g N a ty){ys:List aa}(C:∀e∈ys,e.size=av.k){news:List Value}(hv:bq E w (flat ys) news)(r:av.els.length+ys.length<=N){rd:List Id}:lV G own E w σ p {val:=.ah p av.k 0 (av.els.length+ys.length) false,rd:=rd,up:=[(id,none),(p,some ⟨av.els++ys,av.k,false⟩)]} (.slice (some ⟨g,0,none⟩) (av.els.length+ys.length) N) (E.bind p g av.k N) (w.setRow g (a.toList.take (av.els.length*av.k)++news++a.toList.drop (av.els.length*av.k+news.length)).toArray):=by
 have⟨Y,X⟩:=fu.1 hv;have L:=kZ C;have Q:=kZ d.k;have hle:av.els.length*av.k+news.length<=a.size:=by rw[Y,L,d.size,<-Nat.add_mul];exact cr _ r
 generalize B:(a.toList.take (av.els.length*av.k)++news++a.toList.drop (av.els.length*av.k+news.length)).toArray=n;have z:(w.setRow g n).heap[g]?=some (.cells n ty (0,0)):=setRow_heap w g a n ty _ d.heap;have Z:id≠p:=by rintro rfl;simp[ei]at g7
 have H:fm E (E.bind p g av.k N) w (w.setRow g n):=⟨λ i x h=>by rw[Fy];exact h;rintro rfl;simp[kB]at h,λ _ h=>h,λ b hb=>setRow_other w g b n (λ e=>d.no M (e▸hb))⟩;have J:Adv own E (E.bind p g av.k N) w (w.setRow g n):=⟨H,rfl,rfl,rfl,am,λ k _ C=>setRow_other w g k n (λ e=>C (e▸d.own)),λ _ h=>.inl h⟩;have U:n.size=a.size:=by rw[<-B];simp only[List.size_toArray,cy,eZ,m8,Array.length_toList];omega
 refine⟨J,⟨?_,?_,?_,?_,?_⟩,?_,λ i l=>Fy _ _ _ _ _ (λ e=>l (by rw[e];exact wM _))⟩;intro b hb;simpa using u.hR b hb;intro i W h;simp only[mz]at h;by_cases t:i=p;subst t;rw[BQ]at h;cases h;refine⟨g,N,n,ty,KI _ _ _ _ _,z,by rw[U];exact d.size,by simpa using r,d.most,d.own,am,λ _ hb=>d.no M hb,?_,?_⟩;intro e Q;rcases hJ.1 Q with h|h;exact d.k e h;exact C e h;show eK _ _ g 0 (flat (av.els++ys));rw[zx];have q:∀j,(w.setRow g n).cell? ⟨g,j,none⟩=n[j]?:=λ j=>cell_of_row _ _ _ _ _ _ z;have ht:(a.toList.take (av.els.length*av.k)).length=av.els.length*av.k:=by simp;omega
 refine Oi.2 ⟨λ j c R=>?_,λ j c R=>?_⟩;have F:j<av.els.length*av.k:=by rw[<-Q];exact(fl.1 R).1
 have⟨v,o,D⟩:=d.row j c R;rw[cI,cell_of_row _ _ _ _ _ _ d.heap]at o;refine⟨v,?_,uZ H c v D⟩;rw[cI,q,<-B];simp only[E3,qL];rw[kO ac,List.getElem?_take_of_lt F];simpa using o;have⟨v,o,D⟩:=X j c R;have F:j<news.length:=(fl.1 o).1;refine⟨v,?_,uZ H c v D⟩;rw[cI,q,<-B,Q];simp only[E3,qL];rw[kx ac,ht,Nat.add_sub_cancel_left,kO F];exact o;rw[wN _ _ _ t]at h;by_cases m:i=id;subst m;simp[wO]at h;rw[wN _ _ _ m]at h;have⟨I,oZ,K,S,A⟩:=u.blk i W h;have l:I≠g:=u.inj i id _ _ (by simp[h]) (by simp[ei]) m A.μ d.μ;exact⟨I,oZ,K,S,A.keep H (setRow_other w g I n l) A.no⟩;intro i j x y hx L l h1 s;simp only[mz]at hx L;have f:∀i,i≠p->((σ.put id none).put p (some ⟨av.els++ys,av.k,false⟩)) i≠none->i≠id/\σ i≠none:=by
   intro i e h;rw[wN _ _ _ e]at h;have m:i≠id:=by rintro rfl;simp[wO]at h
   rw[wN _ _ _ m]at h;exact⟨m,h⟩
 by_cases t:i=p;have t:=t.symm;subst t;have m:j≠p:=λ e=>l e.symm;have⟨T,O⟩:=f j m L;rw[KI]at h1;rw[Fy _ _ _ _ _ m]at s;have:=u.inj id j (g,av.k,N) y (by simp[ei]) O (λ e=>T e.symm) d.μ s;simp only[bf]at h1;rw[<-h1];exact this;have⟨T,O⟩:=f i t hx;rw[Fy _ _ _ _ _ t]at h1;by_cases m:j=p;subst m;rw[KI]at s;have:=u.inj i id x (g,av.k,N) O (by simp[ei]) T h1 d.μ;simp only[bf]at s;rw[<-s];exact this;have⟨kg,G1⟩:=f j m L;rw[Fy _ _ _ _ _ m]at s;exact u.inj i j x y O G1 l h1 s;intro I cs V;have⟨h1,s⟩:=u.jX I cs V;exact⟨h1,BR H.bare (H.same I h1) cs 0 s⟩;intro k C;simp at C;exact u.new k C;simp only[ax];exact⟨g,N,N,KI _ _ _ _ _,am,r,ac,d.most,am⟩
def QO(c:aa)(val:Value):Prop:=∀E w,ax E w c val
def K4{ys:List aa}(h:(ys.all λ e=>e.cells.all aa.one)=true):∀c∈flat ys,c.one=true:=by intro c b;simp only[flat,g3]at b;have⟨e,d,a⟩:=b;have:=ek.1 h e d;exact ek.1 this c a
def XT(t ty e o:TypeId)(i:TypeInfo)(q:P.underlying t=some (.slice e))(r:P.info? e=some i)(g b d:Nat)(f:Array Value)(s:w.heap[g]?=some (.cells f o (0,0)))(a:Addr)(m c:Nat)(news:List Value)(v:news.length=m*i.size)(h:∀j u,news[j]?=some u->w.cell? (a.add j)=some u)(h1:∀u∈news,u.oneCell'=true)(k:b+m<=d)(n:b*i.size+news.length<=f.size):(sa #[t,t] ty #[.slice (some ⟨g,0,none⟩) b d,.slice (some a) m c]).run P w=.ok (.slice (some ⟨g,0,none⟩) (b+m) d) (w.setRow g (f.toList.take (b*i.size)++news++f.toList.drop (b*i.size+news.length)).toArray):=by have x:=run_firstCells_some (P:=P) w i.size m a m c news v h;have l:=run_storeCells_at P g (b*i.size) o news 0 f w s (by simpa using n) h1;simp only[j7]at l;simp[sa,run_underlying q,sizeOf,typeInfo,r,KJ,k,x,Addr.add_lit,l]
def aas{z:aa}{g:Value}(y:bq E w z.cells g.cells.toList)(n:Nat)(A:0<z.size):bq E w (flat (bI n z)) (BS g.cells n).toList:=by
 have⟨s,h⟩:=fu.1 y;have q:∀e∈bI n z,e.size=z.size:=λ e u=>by rw[jl u]
 have f:=kZ q;have o:g.cells.size=z.size:=by simpa[aa.size]using s
 refine fu.2 ⟨by rw[f];simp[BS,o],λ j c m=>?_⟩;have a:j<n*z.size:=by have:=(fl.1 m).1;rw[f]at this;simpa using this
 have k:j/z.size*z.size+j%z.size=j:=by rw[Nat.mul_comm];exact Nat.div_add_mod j z.size
 have d:=Nat.mod_lt j A;have b:j/z.size<n:=Nat.div_lt_of_lt_mul (by rwa[Nat.mul_comm]at a);have r:=zy (i:=j/z.size) (e:=z) q (by simp[b]) d;rw[k,m]at r;have⟨v,t,x⟩:=h (j%z.size) c r.symm;refine⟨v,?_,x⟩;have l:g.cells[j%z.size]?=some v:=by simpa using t
 simp only[BS,Array.toList_map,Array.toList_range,kv,o,List.getElem?_range a,fk];rw[getElem!_def,l]
def WD(y:Inv G own E w σ){id:Id}{off k len:Nat}{m1:Bool}{news:List aa}{v:aa}{rd:List Id}{r:bR}(h:uD σ id off k news v rd=some r){a:Value}(u:ax E w (.ah id k off len m1) a)(C:∀e∈news,e.size=k){vs:List Value}(x:bq E w (flat news) vs){val:Value}(c:QO v val):∃g cap,a=.slice (some ⟨g,off*k,none⟩) len cap/\∃w',(storeCells ⟨g,off*k,none⟩ vs).run P w=.ok () w'/\lV G own E w σ p r val E w':=by
 unfold uD at h;split at h;rename_i av ei;split at h;rename_i z;have⟨j,o,q,s⟩:=z;cases h;have⟨g,N,t,n,m⟩:=y.blk id av ei;simp only[ax]at u;obtain⟨K,J,cap,b,rfl,A,B,I,H⟩:=u;rw[m.μ]at b;simp only[bf,c5]at b;have⟨rfl,_,rfl⟩:=b;have⟨i,l,f⟩:=YL y ei q m (e:=off) (news:=news) (vs:=vs) o (λ e F=>by rw[j];exact C e F) x;have D:off*av.k=off*k:=by rw[j]
 rw[D]at i l f;have d:=run_storeCells_at P g (off*k) n vs 0 t w m.heap (by simpa using i) (NP x (K4 s));simp only[j7]at d;exact⟨g,cap,rfl,_,d,l,f,c E _,λ _ _=>rfl⟩;simp at h;simp at h
def aen(j:Inv G own E w σ){t e ty:TypeId}{z:aa}(hu:P.underlying t=some (.slice e))(y:m5 P e=some z)(c:0<z.size){x:aa}{a:Value}(b:ax E w x a){r:bR}(h:JC σ z.size z x=some r):Sound P G own E w σ p (Fz #[t] ty #[a]) r:=by have⟨D,C,i,l,k,u,d⟩:=yt y;have f:=QF (tO (E:=E) (w:=w) k) (uo d);unfold JC at h;split at h;cases h;simp only[ax]at b;subst b;exact gn (v:=.tuple #[]) j (by simp[Fz,run_underlying hu]) (by simp only[ax];exact⟨#[],rfl,by simp[bq]⟩);rename_i id k' off len m1;split at h;rename_i o;subst o;cases h;simp only[ax]at b;obtain⟨F,H,cap,A,rfl,_⟩:=b;exact gn (v:=.tuple #[]) j (by simp[Fz,run_underlying hu]) (by simp only[ax];exact⟨#[],rfl,by simp[bq]⟩);rename_i o;split at h;rename_i s;obtain⟨rfl,_⟩:=s;obtain⟨g,cap,rfl,w',n,q⟩:=WD (P:=P) (p:=p) (val:=.tuple #[]) j h b (λ e B=>by rw[jl B]) (aas f len c) (λ E w=>by simp only[ax];exact⟨#[],rfl,by simp[bq]⟩);refine⟨_,w',E,?_,q⟩;obtain⟨m,rfl⟩:∃m,len=m+1:=⟨len-1,ac⟩;simp[Fz,run_underlying hu,aat i l,n];simp at h;simp at h
def aeE(v:Inv G own E w σ){t t2 e ty:TypeId}{i:TypeInfo}(hu:P.underlying t=some (.slice e))(q:P.info? e=some i){d x:aa}{a b:Value}(hd:ax E w d a)(Q:ax E w x b){r:bR}(h:JD σ i.size d x=some r):Sound P G own E w σ p (FA #[t,t2] ty #[a,b]) r:=by
 unfold JD at h;split at h;simp at h;rename_i ys rd D;obtain⟨k,K,c,rfl,R,o⟩:=Gv v Q D;have zero:∀(F:Option Addr)(n cap:Nat),Nat.min ys.length n=0->(FA #[t,t2] ty #[.slice F n cap,.slice K ys.length c]).run P w=.ok (.int .i64 0) w:=by intro F n cap l;cases F<;>cases K<;>simp[FA,run_underlying hu,nL q,KJ,l,ab7,loadCells,loadCellsFrom,storeCells,goInt]
 split at h;cases h;simp only[ax]at hd;subst hd;exact gn v (zero none 0 0 am) (by simp only[ax]);rename_i id k' off len m1;split at h;rename_i l;cases h;simp only[ax]at hd;obtain⟨T,U,cap,N,rfl,_⟩:=hd;have I:Nat.min ys.length len=0:=by have:=congrArg List.length (List.isEmpty_iff.1 l);simp only[eZ,gR]at this;rw[Nat.min_comm]at this;exact this
 exact gn v (zero _ len cap I) (by simp only[ax]);rename_i l;split at h;rename_i O;subst O;have z:ys≠[]:=by rintro rfl;simp at l
 obtain⟨C,J,rfl,A⟩:=o.resolve_left z;have j:∀e∈ys.take len,e.size=i.size:=λ e S=>k e (gZ S);have s:eK E w C J (flat (ys.take len)):=by rw[LY k];exact(Oi.1 (by rw[List.take_append_drop];exact A:eK E w C J ((flat ys).take (len*i.size)++(flat ys).drop (len*i.size)))).1
 have⟨news,u,H⟩:=Pv s;have B:news.length=(ys.take len).length*i.size:=by rw[FB u,kZ j]
 obtain⟨g,cap,rfl,w',y,M⟩:=WD (P:=P) (p:=p) (val:=.int .i64 (ys.take len).length) v h hd j u (λ E w=>by simp only[ax]);refine⟨_,w',E,?_,M⟩;have f:Nat.min ys.length len=(ys.take len).length:=by rw[eZ,Nat.min_comm]
 have L:=run_firstCells_some (P:=P) w i.size (ys.take len).length ⟨C,J,none⟩ ys.length c news B H;generalize(ys.take len).length=m at f L M⊢;simp[FA,run_underlying hu,nL q,KJ,f,L,y,goInt];simp at h;simp at h
def apA{d:Option TypeDesc}(h:OC d=true):∃e,d=some (.slice e):=by unfold OC at h;split at h;exact⟨_,rfl⟩;cases h
def aoZ{t d e f ty:TypeId}(hu:P.underlying t=some (.slice e))(c:P.underlying d=some (.slice f))(a b:Value)(w:World):(sa #[t,d] ty #[a,b]).run P w=(sa #[t,t] ty #[a,b]).run P w:=by cases a<;>simp[sa,run_underlying hu,run_underlying c]
def acE(hi:Inv G own E w σ)(kB:E.μ p=none)(g7:σ p=none){t e ty:TypeId}{i:TypeInfo}(hu:P.underlying t=some (.slice e))(mL:P.info? e=some i)(hz:(m5 P e).isSome=true){s x:aa}{a b:Value}(hs:ax E w s a)(hx:ax E w x b){r:bR}(h:qD σ p i.size i.bytes s x=some r):Sound P G own E w σ p (sa #[t,t] ty #[a,b]) r:=by
 obtain⟨z,hz⟩:=ab8.1 hz;obtain⟨it,uH,hit,vy,xv,MG,zS⟩:=yt hz;rw[mL]at hit;cases hit;have MH:uH.cells.size=i.size:=by have:=FB (QF (tO (E:=E) (w:=w) xv) (uo zS));simp at this;unfold aa.size at MG;omega
 unfold qD at h;split at h;simp at h;rename_i ys rd Ml;obtain⟨pd,aam,yr,rfl,Up,tV⟩:=Gv hi hx Ml;split at h;rename_i Mm;have ahP:ys=[]:=by simpa using Mm
 subst ahP;have hrun:∀(base:Option Addr)(n cap:Nat),n<=cap->(sa #[t,t] ty #[.slice base n cap,.slice aam ([]:List aa).length yr]).run P w=.ok (.slice base n cap) w:=by intro base n cap hn;cases base<;>cases aam<;>simp[sa,run_underlying hu,nL mL,KJ,hn,ab7,loadCells,loadCellsFrom,storeCells]
 split at h;cases h;have CR:=hs;simp only[ax]at hs;subst hs;exact gn hi (hrun none 0 0 (a2 _)) CR;cases h;have CR:=hs;simp only[ax]at hs;obtain⟨q,rfl,_⟩:=hs;exact gn hi (hrun q _ _ (a2 _)) CR;cases h;have CR:=hs;simp only[ax]at hs;obtain⟨g,N,cap,_,rfl,hle,_⟩:=hs;exact gn hi (hrun _ _ _ hle) CR;simp at h;rename_i Mm;have hne:ys≠[]:=by simpa using Mm
 have zO:0<ys.length:=List.length_pos_iff.2 hne;obtain⟨Bj,Bk,rfl,ahO⟩:=tV.resolve_left hne;obtain⟨news,sJ,CO⟩:=Pv ahO;have Mo:=kZ pd;have vw:news.length=ys.length*i.size:=by rw[FB sJ,Mo]
 have grow:∀(w9:Addr)(q:Nat)(es:List aa)(cap:Nat),(∀e∈es,e.size=i.size)->(es=[]\/∃b o,w9=⟨b,o,none⟩/\eK E w b o (flat es))->q=es.length->cap<q+ys.length->(q+ys.length)*i.bytes<=140737488355328->q+ys.length<=maxLen->∀rd,∃v w' E',(sa #[t,t] ty #[.slice (some w9) q cap,.slice (some ⟨Bj,Bk,none⟩) ys.length yr]).run P w=.ok v w'/\lV G own E w σ p {val:=.ah p i.size 0 (q+ys.length) false,rd:=rd,up:=[(p,some ⟨es++ys,i.size,false⟩)]} v E' w':=by
   intro w9 q es cap hk hr hq Hd hb hm rd;have ag1:=kZ hk;obtain⟨DC,zN,Hj⟩:∃vs:List Value,bq E w (flat es) vs/\∀j v,vs[j]?=some v->w.cell? (w9.add j)=some v:=by rcases hr with rfl|⟨b,o,rfl,hr⟩;exact⟨[],by simp[flat,bq],am⟩;exact Pv hr
   have ahr:DC.length=q*i.size:=by rw[FB zN,ag1,hq]
   have hrun:=run_append_grow (P:=P) w t ty e i uH hu mL vy w9 q cap DC ahr Hj ⟨Bj,Bk,none⟩ ys.length yr news vw CO Hd (by unfold maxLen at hm;omega) (growslice_fits Hd hb);have zL:=grownCap_ge w (q+ys.length) cap e;have tU:=grownCap_le_maxLen w (q+ys.length) cap e hm;refine⟨_,_,E.bind p w.heap.size i.size (grownCap w (q+ys.length) cap e),hrun,?_⟩;have:=GL (p:=p) (rd:=rd) hi kB g7 (k:=i.size) (n:=q+ys.length) (N:=grownCap w (q+ys.length) cap e) (els:=es++ys) (λ e he=>(hJ.1 he).elim (hk e) (pd e)) (by simp[hq]) (vs:=DC++news) (by rw[zx];exact tA zN sJ) (rest:=BS uH.cells (grownCap w (q+ys.length) cap e-(q+ys.length))) (by rw[size_zeroCells,MH]) zL tU e;have agZ:(DC++news).toArray=DC.toArray++news.toArray:=am;rw[agZ]at this;exact this
 split at h;·split at h;rename_i cf;obtain⟨hb,hm,_⟩:=cf;cases h;simp only[ax]at hs;subst hs;have hrun:=run_append_nil (P:=P) w t ty e i uH hu mL vy ⟨Bj,Bk,none⟩ ys.length yr news vw CO zO (by unfold maxLen at hm;omega) ac;have zL:=grownCap_ge w ys.length 0 e;have tU:=grownCap_le_maxLen w ys.length 0 e hm;refine⟨_,_,E.bind p w.heap.size i.size (grownCap w ys.length 0 e),hrun,?_⟩;exact GL (p:=p) (rd:=rd) hi kB g7 (k:=i.size) (n:=ys.length) (N:=grownCap w ys.length 0 e) (els:=ys) pd rfl sJ (by rw[size_zeroCells,MH]) zL tU e;simp at h
 · rename_i k' es;split at h;rename_i cf;obtain⟨rfl,hb,hm,_⟩:=cf;cases h;simp only[ax]at hs;obtain⟨q,rfl,_,hk,hr⟩:=hs;cases q with|none=>
     have hes:es=[]:=by rcases hr with h|⟨b,o,h,_⟩;exact h;simp at h
     subst hes;simp only[gR,cI,List.nil_append]at hb hm⊢;have hrun:=run_append_nil (P:=P) w t ty e i uH hu mL vy ⟨Bj,Bk,none⟩ ys.length yr news vw CO zO (by unfold maxLen at hm;omega) ac;have zL:=grownCap_ge w ys.length 0 e;have tU:=grownCap_le_maxLen w ys.length 0 e hm;refine⟨_,_,E.bind p w.heap.size i.size (grownCap w ys.length 0 e),hrun,?_⟩;exact GL (p:=p) (rd:=rd) hi kB g7 (k:=i.size) (n:=ys.length) (N:=grownCap w ys.length 0 e) (els:=ys) pd rfl sJ (by rw[size_zeroCells,MH]) zL tU e|some w9=>exact grow w9 es.length es es.length hk (hr.imp id λ⟨b,o,e,_,r⟩=>⟨b,o,by simpa using e,mU.1 r⟩) rfl ac hb hm rd
   simp at h
 · rename_i id k' off len m1;split at h;rename_i av ei;split at h;rename_i cf;obtain⟨rfl,xq,rfl,hle,hb,hm,Uq⟩:=cf;obtain⟨g,N,cur,SV,hB⟩:=hi.blk id av ei;simp only[ax]at hs;obtain⟨g',oZ,cap,xt,rfl,Mr,Hj,CH,sL⟩:=hs;rw[hB.μ]at xt;simp only[bf,c5]at xt;obtain⟨rfl,_,rfl⟩:=xt;have l8:∀e∈av.els,e.size=i.size:=λ e he=>by rw[<-xq];exact hB.k e he
   simp only[Nat.zero_mul];split at h;split at h;rename_i ht _;cases h;rw[if_pos ht]at sL;have Ui:=AO (l:=0) (r:=len) hB.k hB.row (Nat.zero_le _) hle;simp only[Nat.zero_mul,j7,List.drop_zero]at Ui;exact grow ⟨g,0,none⟩ len (av.els.take len) cap (λ e he=>l8 e (gZ he)) (.inr ⟨g,0,rfl,Ui⟩) (by simp;omega) ac hb hm (id::rd);simp at h;split at h;rename_i ht Mp;obtain⟨Hh,CK,k6⟩:=Mp;cases h;simp only[ht,iz,if_false,cI]at sL;subst Hh;by_cases hroom:av.els.length+ys.length<=cap;have hrun:=XT (P:=P) (w:=w) t ty e SV i hu mL g av.els.length cap cur hB.heap ⟨Bj,Bk,none⟩ ys.length yr news vw CO (NP sJ (K4 Uq)) hroom (by rw[vw,hB.size,xq,<-Nat.add_mul];exact cr _ ac);obtain rfl:cap=N:=sL;refine⟨_,_,E.bind p g i.size cap,hrun,?_⟩;have:=aoB (p:=p) (rd:=id::rd) hi kB g7 ei CK hB (ys:=ys) (λ e he=>by rw[xq];exact pd e he) sJ hroom;rw[xq]at this;exact this
   . obtain⟨v,w',E',hrun,Hn⟩:=grow ⟨g,0,none⟩ av.els.length av.els cap l8 (.inr ⟨g,0,rfl,hB.row⟩) rfl ac hb hm (id::rd);refine⟨v,w',E',hrun,Hn.jo,?_,Hn.rep,Hn.ids⟩;have ahn:id≠p:=by rintro rfl;simp[ei]at g7
     have:=aeN Hn.inv id;have he:(σ.app [(p,some ⟨av.els++ys,i.size,false⟩)]).put id none=σ.app [(id,none),(p,some ⟨av.els++ys,i.size,false⟩)]:=by
       funext j;simp only[mz,wO];by_cases e1:j=id;.subst e1;simp[ahn]
       .simp[e1]
     rw[he]at this;exact this
   . split at h
     · rename_i ht _ Mp;obtain⟨Hh,CK⟩:=Mp;cases h;simp only[ht,iz,if_false,cI]at sL;obtain rfl:cap=N:=sL;have hroom:len+ys.length<=cap:=Nat.le_trans Hh hB.len;obtain⟨xp,had,T5⟩:=YL hi ei CK hB (e:=len) (news:=ys) (vs:=news) Hh (λ e he=>by rw[xq];exact pd e he) sJ;have e0:len*av.k=len*i.size:=by rw[xq]
       rw[e0]at xp had T5;have hrun:=XT (P:=P) (w:=w) t ty e SV i hu mL g len cap cur hB.heap ⟨Bj,Bk,none⟩ ys.length yr news vw CO (NP sJ (K4 Uq)) hroom xp;refine⟨_,_,E,hrun,had,T5,?_,λ _ _=>rfl⟩;simp only[ax];exact⟨g,cap,cap,by rw[hB.μ,xq],am,hroom,ac,CH,am⟩
     .simp at h
   .simp at h
   .simp at h
 .simp at h
def acF(S:Inv G own E w σ)(L:E.μ p=none)(O:σ p=none){t y e ty:TypeId}{i:TypeInfo}{I:IntKind}(hu:P.underlying t=some (.slice e))(j:P.info? e=some i)(D:P.underlying y=some (.int I)){z:aa}(M:m5 P e=some z)(o:0<i.size){s x:aa}{a b:Value}(K:ax E w s a)(J:ax E w x b){r:bR}(h:Px p i.size i.bytes z s x=some r):Sound P G own E w σ p (sa #[t,y] ty #[a,b]) r:=by
 have⟨W,q,c,u,C,F,B⟩:=yt M;rw[j]at c;cases c;have f:=QF (tO (E:=E) (w:=w) C) (uo B);have d:q.cells.size=i.size:=by have:=FB f;simp at this;unfold aa.size at F;omega
 unfold Px at h;split at h;rename_i kk n;split at h;rename_i U;have⟨X,hb,V,v,_⟩:=U;cases h;simp only[ax]at K J;subst K;subst J;obtain⟨m,rfl⟩:∃m:Nat,n=m:=⟨n.toNat,ac⟩;have R:m*i.bytes<=140737488355328:=by rw[<-Int.natCast_mul]at hb;omega
 have l:m<=maxLen:=ac;have A:=grownCap_ge w m 0 e;have H:=grownCap_le_maxLen w m 0 e l;have g:=Lib.run_append_nil_zeros (P:=P) w t y ty e i q kk I hu D j u m ac o (by unfold maxLen at l;omega) ac;refine⟨_,_,E.bind p w.heap.size i.size (grownCap w m 0 e),g,?_⟩;have:=GL (p:=p) (rd:=[]) S L O (k:=i.size) (n:=m) (N:=grownCap w m 0 e) (els:=bI m z) (λ e T=>by rw[jl T];exact v) am (vs:=(BS q.cells m).toList) (aas f m ac) (rest:=BS q.cells (grownCap w m 0 e-m)) (by rw[size_zeroCells,d]) A H e;simpa using this;simp at h;simp at h
def fH(P:Program)(G:Nat->Option (List aa))(own:Nat->Prop)(E:Env)(w:World)(σ:aQ)(p:Id)(r:bR)(s:Sem Next):Prop:=∃v w' E',(s.run P w=.ok (.value v) w'\/(s.run P w=.ok .skip w'/\v=undef))/\lV G own E w σ p r v E' w'
def fH.of{s:Sem Value}{r:bR}(h:Sound P G own E w σ p s r):fH P G own E w σ p r (do pure (.value (<-s))):=by have⟨v,w',E',b,a⟩:=h;exact⟨v,w',E',.inl (by simp[b]),a⟩
def fH.alE{s:Sem Unit}{r:bR}(h:∃w',s.run P w=.ok () w'/\lV G own E w σ p r undef E w'):fH P G own E w σ p r (do s;pure .skip):=by have⟨w',b,a⟩:=h;exact⟨undef,w',E,.inr ⟨by simp[b],rfl⟩,a⟩
def xf{t:List aa}{a:Act}(e:gC E w t a)(d:Inv G own E w σ){x:Option Operand}{c:Option dO}(h:lZ x=some c):mC E w (c.map (m6 G t)) (x.map a.eval):=by cases x with|none=>simp only[lZ,bf]at h;subst h;trivial|some x=>simp only[lZ,eI]at h;obtain⟨hH,b,rfl⟩:=h;exact dp e d b
def aq8{σ:aQ}{x:aa}{pq:Option aa}{r:bR}(h:Ew σ x pq=some r):dN pq=some r\/∃id k off len av,x=.ah id k off len false/\σ id=some av/\off<=av.els.length/\r={val:=.nA (av.els.length-off),rd:=[id]}:=by unfold Ew at h;split at h;exact .inl h;split at h;rename_i id k off len;split at h;rename_i av hb;split at h;rename_i a;simp only[bf]at h;exact .inr ⟨id,k,off,len,av,rfl,hb,a,h.symm⟩;simp at h;simp at h;simp at h
def arv(I:Inv G own E w σ){t e:TypeId}{i:TypeInfo}(hu:P.underlying t=some (.slice e))(z:P.info? e=some i){x:aa}{v:Value}(f:ax E w x v){lo j mx:Option aa}{A y mj:Option Value}(s:mC E w lo A)(o:mC E w j y)(q:mC E w mx mj)(S:mx.isSome->j.isSome){r:bR}(h:pF σ i.size x lo j mx (gi i.size x lo j mx)=some r):Sound P G own E w σ p (r9 t v A y mj) r:=by cases R:gi i.size x lo j mx with|some c=>rw[R]at h;refine m7 (pq:=some c) h λ c' B=>?_;cases B;exact ZW I hu z f s o q S R|none=>
   rw[R]at h;simp only[pF]at h;split at h;rename_i id k' off len cf;split at h;rename_i av hb;split at h;rename_i D;have⟨ho,hk⟩:=D;simp only[eI]at h;obtain⟨c,D,rfl⟩:=h;simp only[ax]at f;obtain⟨g,N,cap,Q,rfl,h1,U,h3,W⟩:=f;have⟨X,Z,Y,Jo,V⟩:=I.blk id av hb;have T:=V.μ;rw[T]at Q;simp only[bf,c5]at Q;have⟨rfl,rfl,rfl⟩:=Q;simp only[iz,if_false]at W;have hl:=V.len;have M:ax E w (.ah id av.k off (av.els.length-off) false) (.slice (some ⟨X,off*av.k,none⟩) (av.els.length-off) cap):=by simp only[ax];exact⟨X,Z,cap,T,rfl,ac,U,h3,by simpa using W⟩
   have F:mj=none:=by cases mj with|none=>rfl|some _=>exact(q:False).elim
   subst F;have⟨v,w',E',C,J⟩:=ZW (p:=p) I hu z M s o (mx:=none) (mj:=none) q am D;cases y with|none=>exact(o:False).elim|some u=>refine⟨v,w',E',?_,⟨J.jo,J.inv,J.rep,J.ids⟩⟩;rw[<-C];simp[r9,Instr.slice,run_underlying hu,Instr.sliceBounds]
   simp at h;simp at h;rename_i cf ajc m;split at h;rename_i n d;split at h;rename_i l r' hb;split at h;rename_i D;cases h;obtain⟨h1,U⟩:=D;have K:m=((m.toNat:Nat):Int):=ac;obtain⟨a,cap,rfl,O⟩:∃a cap,v=.slice a n cap/\n<=cap:=by unfold U6 at d;split at d;cases d;simp only[ax]at f;exact⟨_,_,f,a2 _⟩;split at d;cases d;simp only[ax]at f;obtain⟨a,cap,rfl,h,_⟩:=f;exact⟨_,_,rfl,h⟩;simp at d;split at d;cases d;simp only[ax]at f;obtain⟨a,rfl,_⟩:=f;exact⟨_,_,rfl,a2 _⟩;simp at d;split at d;cases d;simp only[ax]at f;obtain⟨g,N,cap,_,rfl,h,_⟩:=f;exact⟨_,_,rfl,h⟩;simp at d;simp at d
   unfold gh at hb;split at hb;simp at hb;rename_i mI e1;split at hb;simp at hb;rename_i H e2;simp only[bf,c5]at hb;obtain⟨rfl,rfl⟩:=hb;obtain⟨L,_,_⟩:=qZ (P:=P) (isSlice:=true) (len:=n) (cap:=cap) (m:=m.toNat) s o q O e1 e2 (.inr ⟨ajc,by rw[<-K],am,ac,ac⟩);refine⟨.slice (if m.toNat=H then a else a.map (·.add (H*i.size))) (mI-H) (m.toNat-H),w,E,?_,⟨tk own E w,I,by simp only[ax],λ _ _=>rfl⟩⟩;simp[r9,Instr.slice,run_underlying hu,L,nL z];simp at h;simp at h;simp at h;simp at h
def aru(O:Inv G own E w σ){t e:TypeId}{n:Nat}{i:TypeInfo}(hu:P.underlying t=some (.array n e))(mL:P.info? e=some i)(h1:i.size=1)(hn:n<=maxLen){x:aa}{v:Value}(hx:ax E w x v){lo I:Option aa}{V Z:Option Value}(sI:mC E w lo V)(ow:mC E w I Z){r:bR}(h:JH σ n x lo I=some r):Sound P G own E w σ p (r9 t v V Z none) r:=by
 unfold JH at h;split at h;.rename_i id e';cases hb:σ id with|none=>simp[hb]at h|some av=>simp only[hb]at h;cases K:av.els[e']? with|none=>simp[K]at h|some el=>simp only[K]at h;cases J:gh n lo I with|none=>simp[J]at h|some q=>
   obtain⟨l,Q⟩:=q;simp only[J]at h;split at h;rename_i B;obtain⟨CJ,Y⟩:=B;cases h;obtain⟨g,N,cur,ty,o⟩:=O.blk id av hb;simp only[ax]at hx;obtain⟨g',k',oZ,U,rfl⟩:=hx;rw[o.μ]at U;simp only[bf,c5]at U;obtain⟨rfl,rfl,rfl⟩:=U;obtain⟨l7,pc⟩:=ZF J;obtain⟨k6,pb,ny⟩:=qZ (P:=P) (isSlice:=false) (mx:=none) (mj:=none) (m:=n) sI ow trivial (a2 _) l7 pc (.inl ⟨rfl,rfl⟩);have f:fm E ⟨E.μ,λ b=>E.ok b\/b=g⟩ w w:=⟨λ _ _ h=>h,λ b hb=>.inl hb,λ _ _=>rfl⟩;have R:Adv own E ⟨E.μ,λ b=>E.ok b\/b=g⟩ w w:=⟨f,rfl,rfl,rfl,a2 _,λ k hk _=>rfl,λ b hb=>by rcases hb with h|rfl;exact .inl h;exact .inr o.own⟩;have F:∀j,σ.app [(id,some {av with fr:=true})] j=if j=id then some {av with fr:=true}else σ j:=λ j=>rfl;have W:Inv G own ⟨E.μ,λ b=>E.ok b\/b=g⟩ w (σ.app [(id,some {av with fr:=true})]):=by
     refine⟨?_,?_,?_,?_,O.new⟩;rintro b(hb|rfl);exact O.hR b hb;exact l0 o.heap;intro M adq L;rw[F]at L;by_cases ei:M=id;subst ei;rw[if_pos rfl]at L;cases L;exact⟨g,N,cur,ty,o.μ,o.heap,o.size,o.len,o.most,o.own,λ _=>.inr rfl,λ hf=>by simp at hf,o.k,eK.keep f rfl o.row⟩;rw[if_neg ei]at L;obtain⟨g2,FJ,S,Zl,d⟩:=O.blk M adq L;refine⟨g2,FJ,S,Zl,d.μ,d.heap,d.size,d.len,d.most,d.own,λ hf=>.inl (d.ok hf),λ hf nz=>?_,d.k,eK.keep f rfl d.row⟩;rcases nz with h|h;exact d.no hf h;exact O.inj M id _ _ (by simp[L]) (by simp[hb]) ei d.μ o.μ h;intro a b x y ha CI hne hx hy;have C:∀j,σ.app [(id,some {av with fr:=true})] j≠none->σ j≠none:=by intro j D;rw[F]at D;by_cases ei:j=id;subst ei;simp[hb];rwa[if_neg ei]at D
     exact O.inj a b x y (C a ha) (C b CI) hne hx hy;intro af0 cs hg;obtain⟨k1,k2⟩:=O.jX af0 cs hg;exact⟨.inl k1,BR f.bare rfl cs 0 k2⟩
   have A:eK E w g (0+e'*av.k) el.cells:=Oj o.k o.row K;have T:∀c∈el.cells,aa.one c=true:=by simpa[ek]using Y
   have s:((el.cells.take Q).drop l).length=Q-l:=by rw[m8,eZ];omega
   have X:∀c∈(el.cells.take Q).drop l,c.cells=[c]/\c.size=1:=by intro c B;have U:=T c (gZ (List.mem_of_mem_drop B));cases c<;>first|(simp[aa.one]at U;done)|exact⟨rfl,rfl⟩
   have H:flat ((el.cells.take Q).drop l)=(el.cells.take Q).drop l:=by
     have:∀{es:List aa},(∀c∈es,c.cells=[c])->flat es=es:=by intro es;induction es with|nil=>intro _;rfl|cons a as ih=>intro h;show a.cells++flat as=a::as;rw[h a am,ih (λ c B=>h c (by simp[B]))];rfl
     exact this λ c B=>(X c B).1
   refine⟨.slice (some (if n=l then⟨g,e'*av.k+0,none⟩else(⟨g,e'*av.k+0,none⟩:Addr).add (l*i.size))) (Q-l) (n-l),w,_,?_,R,W,?_,λ _ _=>rfl⟩;simp[r9,run_underlying hu,Instr.sureAddr,k6,nL mL];simp only[ax];refine⟨_,_,by rw[s],by rw[s];omega,ac,λ c B=>(X c B).2,?_⟩;by_cases vw:n=l;left;rw[<-List.length_eq_zero_iff,s];omega;right;rw[if_neg vw,Addr.add_lit,h1];refine⟨g,e'*av.k+0+l*1,rfl,.inr rfl,mU.2 ?_⟩;rw[H];intro j c D;rw[List.getElem?_drop]at D;have ag6:el.cells[l+j]?=some c:=by rw[List.getElem?_take]at D;split at D;exact D;cases D
   obtain⟨u,ahF,ahG⟩:=A (l+j) c ag6;refine⟨u,?_,uZ f c u ahG⟩;rw[<-ahF];congr 2;omega;simp at h
 simp at h
def SY{f:FuncId}{fn:Func}{e:Array Value->Sem Value}{c:Call}{a:Act}{o:Oper}(i:o.op=.call c)(g:c.callee=.value (.func f))(l:P.funcs[f]?=some fn)(d:(fn.name== "runtime.NumGoroutine")=false)(hb:fn.body.isNone=true)(j:EO fn=none)(k:EP fn=some e){v:Value}{w':World}(h:(e (c.args.map a.eval)).run P w=.ok v w'):(execOp a.eval o).run P w=.ok (.value v) w':=by have h1:=run_callFunc_extern l d hb j k (c.args.map a.eval) w;rw[h]at h1;simp only[Result.andThen]at h1;have m:a.eval (.func f)=.func (.func f) #[] #[]:=rfl;simp[execOp,i,resolve,g,m,aav,invoke,h1]
def SX{g:Operand}{k:FE}(h:Cx P g=some k):∃f fn,g=.func f/\P.funcs[f]?=some fn/\fn.body.isNone=true/\((k=.idx/\fn.name= "internal/bytealg.IndexByteString"/\fn.origin= "")\/(k=.nC/\fn.origin= "slices.overlaps"/\Dm fn.name=true/\∃t e i,fn.params[0]?=some t/\P.underlying t=some (.slice e)/\P.info? e=some i)):=by unfold Cx at h;split at h;rename_i f;split at h;rename_i fn a;split at h;rename_i hb;refine⟨f,fn,rfl,a,hb,?_⟩;split at h;rename_i c;simp only[bf]at h;simp only[gj,beq_iff_eq]at c;exact .inl ⟨h.symm,c.1,c.2⟩;split at h;rename_i d;simp only[gj,beq_iff_eq]at d;split at h;rename_i t j;split at h;rename_i e l;split at h;rename_i b;simp only[bf]at h;have⟨i,b⟩:=ab8.1 b;exact .inr ⟨h.symm,d.1,d.2,t,e,i,j,l,b⟩;simp at h;simp at h;simp at h;simp at h;simp at h;simp at h;simp at h
def afP{fn:Func}(b:Dm fn.name=true)(c:fn.origin= "slices.overlaps"):EO fn=none/\EP fn=some (PV fn.params fn.resultTypes):=by unfold Dm at b;simp only[gj,Option.isNone_iff_eq_none]at b;have⟨⟨⟨⟨h1,e⟩,f⟩,h⟩,_⟩:=b;have g:aaw.lookup "slices.overlaps"=none:=an;have i:aax.lookup "slices.overlaps"=some PV:=an;have d:PW.lookup "slices.overlaps"=none:=an;constructor;simp[EO,h,c,d];simp[EP,h1,e,f,c,g,i]
def ah8{fn:Func}(b:fn.name= "internal/bytealg.IndexByteString")(f:fn.origin= ""):EO fn=none/\EP fn=some aay:=by have e:aaw.lookup "internal/bytealg.IndexByteString"=none:=an;have h:aax.lookup "internal/bytealg.IndexByteString"=none:=an;have g:Extern.allRows.lookup "internal/bytealg.IndexByteString"=some aay:=an;have c:PW.lookup "internal/bytealg.IndexByteString"=none:=an;have d:PW.lookup ""=none:=an;constructor;simp[EO,b,f,c,d];simp[EP,b,e,h,g]
def Uv:∀(l:List UInt8)(c:UInt8),Lib.indexByte l c=xx l c|[],_=>rfl|b::l,c=>by simp only[Lib.indexByte,xx,Uv l c]
def ah9{c:Call}{a:Act}{o:Oper}{v x y:Operand}(j:o.op=.call c)(d:c.callee=.value v)(F:Cx P v=some .idx)(b:c.args.toList=[x,y])(D:Inv G own E w σ){g e:aa}(t:ax E w g (a.eval x))(q:ax E w e (a.eval y)){r:bR}(h:dN (PB g e)=some r):fH P G own E w σ p r (execOp a.eval o):=by
 obtain⟨f,fn,rfl,m,hb,A⟩:=SX F;rcases A with⟨_,u,B⟩|⟨C,_⟩;case inr=>simp at C
 have key:∃s n,g=.str s/\e=.int .u8 n/\r={val:=.int .i64 (xx s n.toNat.toUInt8)}:=by unfold PB at h;split at h;simp only[dN,fk,bf]at h;exact⟨_,_,rfl,rfl,h.symm⟩;simp[dN]at h
 clear h;obtain⟨s,n,rfl,rfl,rfl⟩:=key;simp only[ax]at t q;have⟨l,i⟩:=ah8 u B;have k:c.args.map a.eval=#[.string ⟨s.toArray⟩,.int .u8 n]:=by apply nT;simp[b,t,q]
 refine⟨.int .i64 (xx s n.toNat.toUInt8),w,E,.inl (SY j d m (by rw[u];rfl) hb l i ?_),⟨tk own E w,D,by simp only[ax],λ _ _=>rfl⟩⟩;rw[k,Lib.run_indexByteString,Uv]
def ao0(c o:Array TypeId){OZ e:TypeId}{i:TypeInfo}(hp:c[0]?=some OZ)(C:P.underlying OZ=some (.slice e))(z:P.info? e=some i)(a b:Addr)(l Lh lb bQ:Nat)(h:a.block≠b.block){g d:Array Value}{B YT:TypeId}(s:w.heap[a.block]?=some (.cells g B (0,0)))(hb:w.heap[b.block]?=some (.cells d YT (0,0)))(r:d.size≠0):(PV c o #[.slice (some a) l Lh,.slice (some b) lb bQ]).run P w=.ok (.bool false) w:=by
 have q:(a.block !=b.block)=true:=by simpa using h
 have k:(a.block==b.block)=false:=by simpa using h
 have x:w.shape? a.block=some (B,g.size):=by simp[aaz,s]
 have n:w.shape? b.block=some (YT,d.size):=by simp[aaz,hb]
 have v:w.frozen? a=false:=by simp[aaA,s]
 have u:w.frozen? {block:=a.block,off:=g.size}=false:=by simp[aaA,s]
 have hz:(Go.sizeOf e).run P w=.ok i.size w:=nL z w;change Sem.run P (α:=Value) (do
   let some t:=c[0]?|stuck "slices.overlaps: no parameter types"
   let .slice j<-underlying t|stuck "slices.overlaps: slice type expected"
   let f<-sizeOf j
   match(some a:Option Addr),(some b:Option Addr)with|some a,some b=>if l=0\/lb=0\/f=0 then pure (JY false)else if a.block !=b.block&&(<-frozen a)&&(<-frozen b)then unsupported .addressObserved else do
       if a.block !=b.block then do noView a;noView b if<-mayBeOne a b then return JY ((<-choose (.extern "sameAddr.stringBytes" 2))==1)
       pure (JY (a.block==b.block&&a.off<b.off+lb*f&&b.off<a.off+l*f))|_,_=>pure (JY false)) w=_;rw[hp];by_cases A:l=0\/lb=0\/i.size=0;simp[run_underlying C,hz,A];cases D:d.size with|zero=>exact absurd D r|succ UH=>simp[run_underlying C,hz,A,q,k,frozen,noView,viewAt,mayBeOne,stringish,shape,Sem.run,x,n,v,u,D]
def amq{c:Call}{a:Act}{o:Oper}{N x y:Operand}(J:o.op=.call c)(n:c.callee=.value N)(hk:Cx P N=some .nC)(k:c.args.toList=[x,y])(v:Inv G own E w σ){R T:aa}(Q:ax E w R (a.eval x))(S:ax E w T (a.eval y)){r:bR}(h:Ez σ R T=some r):fH P G own E w σ p r (execOp a.eval o):=by
 obtain⟨f,fn,rfl,H,hb,cf⟩:=SX hk;rcases cf with⟨h0,_⟩|⟨_,Z,d,OZ,e,i,X,W,z⟩;case inl=>simp at h0
 unfold Ez at h;split at h;rename_i q k1 o1 iE t1 u k2 o2 V t2;split at h;simp at h;rename_i B;split at h;rename_i b1 b2 h1 U;split at h;rename_i s;cases h;simp only[ax]at Q S;have⟨g1,atk,c1,j,A,_⟩:=Q;have⟨g2,FJ,p6,g,C,_⟩:=S;have⟨M,atl,O,Y,t⟩:=v.blk q b1 h1;have⟨I,atm,m,Zl,b⟩:=v.blk u b2 U;have hg:g1≠g2:=v.inj q u _ _ (by simp[h1]) (by simp[U]) B j g;rw[t.μ]at j;rw[b.μ]at g;simp only[bf,c5]at j g;have⟨rfl,_,_⟩:=j;have⟨rfl,_,_⟩:=g;have⟨L,D⟩:=afP d Z;have l:(fn.name== "runtime.NumGoroutine")=false:=by unfold Dm at d;simp only[gj,Bool.not_eq_true']at d;exact d.2
 have F:c.args.map a.eval=#[.slice (some ⟨M,o1*k1,none⟩) iE c1,.slice (some ⟨I,o2*k2,none⟩) V p6]:=by apply nT;simp[k,A,C]
 have K:m.size≠0:=by rw[b.size];have hl:=b.len;exact Nat.ne_of_gt (Nat.mul_pos ac s.1)
 refine⟨.bool false,w,E,.inl (SY J n H l hb L D ?_),⟨tk own E w,v,by simp only[ax],λ _ _=>rfl⟩⟩;rw[F];exact ao0 fn.params fn.resultTypes X W z _ _ _ _ _ _ hg t.heap b.heap K;simp at h;simp at h;simp at h
def adw(hi:Inv G own E w σ)(kB:E.μ p=none)(g7:σ p=none){t:List aa}{a:Act}(hf:gC E w t a){b:Builtin}{args:Array Operand}{ts:Array TypeId}{ty:TypeId}{cs:Array Bool}{rV:dY dO}(hc:Gc P b args ts=some rV){r:bR}(h:ck σ p (rV.map (m6 G t))=some r){R:Prop}(fin:∀{s:Sem Value},builtin b ts ty cs (args.map a.eval)=(do pure (.value (<-s)))->Sound P G own E w σ p s r->R):R:=by
 unfold Gc at hc;split at hc
 · rename_i x yg mK tY;have pa:args=#[x]:=by apply nT;simpa using mK
   have tZ:ts=#[yg]:=by apply nT;simpa using tY
   refine fin (s:=ES ts ty (args.map a.eval)) rfl ?_;rw[pa,tZ];split at hc;rename_i hu;simp only[eI]at hc;obtain⟨hH,zQ,rfl⟩:=hc;simp only[en,ck]at h;have hr:=dp hf hi zQ;refine m7 h λ cc hcc=>?_;cases hx:hH.ev G t<;>simp only[hx,m2,bf,reduceCtorEq]at hcc;rename_i l;rw[hx]at hr;simp only[ax]at hr;subst hcc;refine gn (v:=.int .i64 l.length) hi ?_ (by simp only[ax]);have hsz:(wG l.toArray).size=l.length:=by show l.toArray.size=l.length;simp
   simp[ES,run_underlying hu,hr,goInt,hsz];rename_i e hu;simp only[eI]at hc;obtain⟨hH,zQ,rfl⟩:=hc;simp only[en,ck]at h;have hr:=dp hf hi zQ;refine m7 h λ cc hcc=>?_;have hrun:∀(ad:Option Addr)(n c:Nat),a.eval x=.slice ad n c->(ES #[yg] ty (#[x].map a.eval)).run P w=.ok (.int .i64 n) w:=by intro ad n c he;simp[ES,run_underlying hu,he,goInt]
   cases hx:hH.ev G t<;>simp only[hx,m2,bf,reduceCtorEq]at hcc<;>rw[hx]at hr<;>simp only[ax]at hr<;>subst hcc;obtain⟨ad,cap,he,_⟩:=hr;exact gn hi (hrun _ _ _ he) (by simp only[ax]);obtain⟨ad,he,_⟩:=hr;exact gn hi (hrun _ _ _ he) (by simp only[ax]);exact gn hi (hrun _ _ _ hr) (by simp only[ax];rfl);obtain⟨g,N,cap,_,he,_⟩:=hr;exact gn hi (hrun _ _ _ he) (by simp only[ax]);rename_i n e hu;simp only[eI]at hc;obtain⟨hH,zQ,rfl⟩:=hc;simp only[en,ck]at h;refine m7 h λ cc hcc=>?_;cases hcc;refine gn (v:=.int .i64 n) hi ?_ (by simp only[ax]);simp[ES,run_underlying hu,goInt];simp at hc
 · rename_i s x t1 t2 mK tY;have pa:args=#[s,x]:=by apply nT;simpa using mK
   have tZ:ts=#[t1,t2]:=by apply nT;simpa using tY
   refine fin (s:=sa ts ty (args.map a.eval)) rfl ?_;rw[pa,tZ];split at hc;rename_i e hu;split at hc;rename_i i mL;split at hc;rename_i cf;obtain⟨Ho,_,_,hz⟩:=cf;obtain⟨e',ahE⟩:=apA Ho;split at hc;rename_i vs lh zR rn;cases hc;simp only[en,ck]at h;obtain⟨v,w',E',hr,hp⟩:=acE (ty:=ty) hi kB g7 hu mL hz (dp hf hi zR) (dp hf hi rn) h;refine⟨v,w',E',?_,hp⟩;rw[<-hr,<-aoZ (ty:=ty) hu ahE];simp;simp at hc;split at hc;rename_i atS z vs lh ag9 hz zR rn;split at hc;rename_i zO;cases hc;simp only[en,ck]at h;have:=acF (P:=P) (ty:=ty) hi kB g7 hu mL ag9 hz zO (dp hf hi zR) (dp hf hi rn) h;simpa using this;simp at hc;simp at hc;simp at hc;simp at hc
 · rename_i x yg mK tY;have pa:args=#[x]:=by apply nT;simpa using mK
   have tZ:ts=#[yg]:=by apply nT;simpa using tY
   refine fin (s:=JZ ts ty (args.map a.eval)) rfl ?_;rw[pa,tZ];split at hc
   . rename_i e hu;simp only[eI]at hc;obtain⟨hH,zQ,rfl⟩:=hc;simp only[en,ck]at h;have hr:=dp hf hi zQ;rcases aq8 h with h|⟨id,k,off,len,av,hx,ei,atK,rfl⟩;case inr=>rw[hx]at hr;simp only[ax]at hr;obtain⟨g,N,cap,xt,hv,h1,h2,h3,h4⟩:=hr;obtain⟨g',oZ,cur,Jo,hB⟩:=hi.blk id av ei;rw[hB.μ]at xt;simp only[bf,c5]at xt;obtain⟨rfl,_,rfl⟩:=xt;refine gn (v:=.int .i64 cap) hi (by simp[JZ,run_underlying hu,hv,goInt]) ?_;simp only[ax];have:=hB.len;simp only[iz,if_false]at h4;exact⟨cap,ac,rfl⟩
     refine m7 h λ cc hcc=>?_;have hrun:∀(ad:Option Addr)(n c:Nat),a.eval x=.slice ad n c->(JZ #[yg] ty (#[x].map a.eval)).run P w=.ok (.int .i64 c) w:=by intro ad n c he;simp[JZ,run_underlying hu,he,goInt]
     unfold Py at hcc;split at hcc;.rename_i hx;rw[hx]at hr;simp only[ax]at hr;cases hcc;exact gn hi (hrun _ _ _ hr) (by simp only[ax];rfl)
     .rename_i hx;rw[hx]at hr;simp only[ax]at hr;cases hcc;obtain⟨ad,he,_⟩:=hr;exact gn hi (hrun _ _ _ he) (by simp only[ax])
     .rename_i hx;rw[hx]at hr;simp only[ax,if_true]at hr;cases hcc;obtain⟨g,N,cap,_,he,_,_,_,Hd⟩:=hr;subst Hd;exact gn hi (hrun _ _ _ he) (by simp only[ax])
     .simp at hcc
   .simp at hc
 · rename_i x yg mK tY;have pa:args=#[x]:=by apply nT;simpa using mK
   have tZ:ts=#[yg]:=by apply nT;simpa using tY
   refine fin (s:=Fz ts ty (args.map a.eval)) rfl ?_;rw[pa,tZ];split at hc
   . rename_i e hu;split at hc
     . rename_i z lh hz rn;split at hc;.rename_i zO;cases hc;simp only[en,ck]at h;have:=aen (P:=P) (p:=p) (ty:=ty) hi hu hz zO (dp hf hi rn) h;simpa using this
       .simp at hc
     .simp at hc
   .simp at hc
 · rename_i d x t1 t2 mK tY;have pa:args=#[d,x]:=by apply nT;simpa using mK
   have tZ:ts=#[t1,t2]:=by apply nT;simpa using tY
   refine fin (s:=FA ts ty (args.map a.eval)) rfl ?_;rw[pa,tZ];split at hc
   . rename_i e hu;split at hc
     . rename_i i mL;split at hc
       . split at hc;.rename_i Ex lh ahK rn;cases hc;simp only[en,ck]at h;have:=aeE (P:=P) (p:=p) (ty:=ty) (t2:=t2) hi hu mL (dp hf hi ahK) (dp hf hi rn) h;simpa using this
         .simp at hc
       .simp at hc
     .simp at hc
   .simp at hc
 · rename_i x y mK;have pa:args=#[x,y]:=by apply nT;simpa using mK
   refine fin (s:=aaB ts ty (args.map a.eval)) rfl ?_;rw[pa];split at hc
   . rename_i lh EA rn ME;cases hc;simp only[en,ck]at h;have tW:=dp hf hi rn;have tX:=dp hf hi ME;split at h;.rename_i k n k' m hx hy;rw[hx]at tW;rw[hy]at tX;simp only[ax]at tW tX;refine m7 h λ cc hcc=>?_;cases hcc;refine gn (v:=.int k (if m<n then m else n)) hi ?_ (by simp only[ax]);simp[aaB,tW,tX,Builtin.min2]
     .simp at h
   .simp at hc
 · rename_i x y mK;have pa:args=#[x,y]:=by apply nT;simpa using mK
   refine fin (s:=aaC ts ty (args.map a.eval)) rfl ?_;rw[pa];split at hc
   . rename_i lh EA rn ME;cases hc;simp only[en,ck]at h;have tW:=dp hf hi rn;have tX:=dp hf hi ME;split at h;.rename_i k n k' m hx hy;rw[hx]at tW;rw[hy]at tX;simp only[ax]at tW tX;refine m7 h λ cc hcc=>?_;cases hcc;refine gn (v:=.int k (if m>n then m else n)) hi ?_ (by simp only[ax]);simp[aaC,tW,tX,Builtin.max2]
     .simp at h
   .simp at hc
 .simp at hc
def RA:∀{ys:List aa}{l:List UInt8},Ce ys=some l->∃zs:List Int,ys=zs.map (aa.int .u8)/\l=zs.map λ n=>PX n.toNat|[],l,h=>by simp only[Ce,bf]at h;subst h;exact⟨[],rfl,rfl⟩|.int .u8 n::r,l,h=>by simp only[Ce,eI]at h;obtain⟨l',h1,rfl⟩:=h;obtain⟨zs,rfl,rfl⟩:=RA h1;exact⟨n::zs,rfl,rfl⟩
def Td(k:IntKind):∀zs:List Int,flat (zs.map (aa.int k))=zs.map (aa.int k)|[]=>rfl|z::zs=>by have:=Td k zs;simp only[mw,flat,List.flatMap_cons,aa.cells]at this⊢;rw[this];rfl
def adB(s:Inv G own E w σ){c d e:TypeId}(t:P.underlying c=some (.slice e))(u:P.underlying e=some (.int .u8))(hd:P.underlying d=some .string){x:aa}{v:Value}(y:ax E w x v){r:bR}(h:Eu σ x=some r):Sound P G own E w σ p (convert c d v) r:=by
 unfold Eu at h;split at h;rename_i ys rd k;simp only[eI]at h;obtain⟨l,A,rfl⟩:=h;obtain⟨zs,rfl,rfl⟩:=RA A;obtain⟨_,a,cap,rfl,B,g⟩:=Gv s y k;refine gn (v:=.string ⟨(zs.map λ n=>PX n.toNat).toArray⟩) s ?_ (by simp[ax]);rcases g with g|⟨b,o,rfl,g⟩;have z:zs=[]:=by simpa using g
 subst z;rw[run_convert_bytes_string w c d e _ _ _ t u hd];cases a with|none=>simp[Conv.bytesToString];rfl|some a=>rw[run_bytesToString w a _ _ [] (by simp[loadCells,loadCellsFrom])];rfl
 rw[Td]at g;have:=run_convert_bytes_arg (P:=P) w c e t u b o zs.length cap zs rfl (λ i j=>by
   have⟨v,h1,m⟩:=g i (.int .u8 zs[i]) (by rw[kv,eu j];rfl);simp only[ax]at m;subst m;have f:(⟨b,o,none⟩:Addr).add i=⟨b,o+i,none⟩:=by simp[Addr.add]
   first|rw[f]at h1|skip
   rw[h1,List.getD_eq_getElem?_getD,eu j];rfl) d hd;simpa[strOfNums]using this;simp at h
def SL{n:Int}(c:0<=n/\n<128):J0 n=⟨[PX n.toNat].toArray⟩:=by
 have b:Utf8.valid n=true:=by unfold Utf8.valid;simp;omega
 unfold J0;simp only[b,if_true];rw[if_pos ac]
def alO(B:Inv G own E w σ)(kB:E.μ p=none)(g7:σ p=none){t:List aa}{a:Act}(D:gC E w t a){o:Oper}{rV:dY dO}(j:gU P o.op=some rV){r:bR}(h:ck σ p (rV.map (m6 G t))=some r):fH P G own E w σ p r (execOp a.eval o):=by
 unfold execOp;cases ho:o.op<;>rw[ho]at j<;>simp only[];case move x=>simp only[gU,eI]at j;obtain⟨hH,I,rfl⟩:=j;simp only[en,ck,dN,fk,bf]at h;subst h;exact⟨a.eval x,w,E,.inl rfl,tk own E w,B,dp D B I,λ _ _=>rfl⟩
 case assign x=>simp only[gU,eI]at j;obtain⟨hH,I,rfl⟩:=j;simp only[en,ck,dN,fk,bf]at h;subst h;exact⟨a.eval x,w,E,.inl rfl,tk own E w,B,dp D B I,λ _ _=>rfl⟩
 case pick c x y=>simp only[gU]at j;cases V:ca c with|none=>simp[V]at j|some eL=>cases u:ca x with|none=>simp[V,u]at j|some lh=>cases J:ca y with|none=>simp[V,u,J]at j|some EA=>simp only[V,u,J,bf]at j;subst j;simp only[en,ck]at h;have MA:=dp D B V;have tW:=dp D B u;have tX:=dp D B J;split at h;rename_i b hb;rw[hb]at MA;simp only[ax]at MA;simp only[dN,fk,bf]at h;subst h;refine⟨if b then a.eval x else a.eval y,w,E,.inl (by simp[MA,asBool]),tk own E w,B,?_,λ _ _=>rfl⟩;cases b;exact tX;exact tW;simp at h
 case alloc ty=>simp only[gU,eI]at j;obtain⟨z,hz,rfl⟩:=j;simp only[en,ck,m6]at h;obtain⟨it,uH,hit,vy,xv,MG,zS⟩:=yt hz;split at h;cases h;have:=Ru (P:=P) (p:=p) B kB g7 (tO xv) zS ty;refine fH.of ?_;obtain⟨v,w',E',C,hp⟩:=this;refine⟨v,w',E',?_,hp⟩;simp only[Instr.alloc,PY,aat hit vy,PZ];exact C;rename_i hno;exact absurd zS hno
 case box ty x=>simp only[gU,eI]at j;obtain⟨hH,I,rfl⟩:=j;simp only[en,ck]at h;split at h;rename_i Hk;cases h;exact fH.of (Ru B kB g7 (dp D B I) Hk ty);simp at h
 case build ty ps=>exact fH.of (adv B D j h)
 case buildSlice ty n ps=>exact fH.of (adu B kB g7 D j h)
 case load ty x=>simp only[gU]at j;cases ha:pg P ty with|none=>simp[ha]at j|some g=>cases R:P.info? ty with|none=>simp[ha,R]at j|some i=>cases u:ca x with|none=>simp[ha,R,u]at j|some lh=>simp only[ha,R,u]at j;split at j;cases j;simp only[en,ck]at h;exact fH.of (arq B ha R (dp D B u) h);simp at j
 case store ty x y=>simp only[gU]at j;cases R:P.info? ty with|none=>simp[R]at j|some i=>cases u:ca x with|none=>simp[R,u]at j|some lh=>cases J:ca y with|none=>simp[R,u,J]at j|some EA=>simp only[R,u,J,bf]at j;subst j;simp only[en,ck]at h;exact fH.alE (ary B R (dp D B u) (dp D B J) h)
 case nilCheck x=>simp only[gU,eI]at j;obtain⟨hH,I,rfl⟩:=j;simp only[en,ck]at h;have C:=dp D B I;split at h;rename_i id e q O;simp only[dN,fk,bf]at h;subst h;rw[O]at C⊢;have U:=C;simp only[ax]at C;obtain⟨g,k,N,hm,X⟩:=C;exact⟨a.eval x,w,E,.inl (by rw[X];rfl),tk own E w,B,U,λ _ _=>rfl⟩;rename_i cs q O;simp only[dN,fk,bf]at h;subst h;rw[O]at C⊢;have U:=C;simp only[ax]at C;obtain⟨b,q,X,_⟩:=C;exact⟨a.eval x,w,E,.inl (by rw[X];rfl),tk own E w,B,U,λ _ _=>rfl⟩;rename_i f iE qi O;simp only[dN,fk,bf]at h;subst h;rw[O]at C⊢;have U:=C;simp only[ax]at C;obtain⟨xs,ys,X,_⟩:=C;exact⟨a.eval x,w,E,.inl (by rw[X];rfl),tk own E w,B,U,λ _ _=>rfl⟩;simp at h
 case binOp op ty x y Jo=>simp only[gU]at j;cases zP:AX P ty with|none=>simp[zP]at j|some sh=>cases u:ca x with|none=>simp[zP,u]at j|some lh=>cases J:ca y with|none=>simp[zP,u,J]at j|some EA=>simp only[zP,u,J,bf]at j;subst j;simp only[en,ck]at h;refine fH.of (m7 h λ c F=>?_);unfold eY at F;split at F;rename_i c' agR;cases F;obtain⟨h1,T,h3,h4⟩:=aq3 (P:=P) zP agR (dp D B u) (dp D B J);refine gn B ?_ (XG T);simp only[PY,SN op ty x y _ _ h3 h4,PZ];exact h1;obtain⟨⟨q,h1,T⟩,h3,h4⟩:=ars (P:=P) zP F (dp D B u) (dp D B J);refine gn (v:=.bool q) B ?_ h1;simp only[PY,SN op ty x y _ _ h3 h4,PZ];exact T
 case unOp op ty x=>simp only[gU,eI]at j;obtain⟨hH,I,rfl⟩:=j;simp only[en,ck]at h;refine fH.of (m7 h λ c F=>?_);obtain⟨h1,T⟩:=arA (P:=P) F (dp D B I);exact gn B h1 (XG T)
 case convert src dst x=>simp only[gU]at j;split at j;rename_i k1 k2 h1 T;simp only[eI]at j;obtain⟨hH,I,rfl⟩:=j;simp only[en,ck]at h;have C:=dp D B I;split at h;rename_i k n O;rw[O]at C;simp only[ax]at C;simp only[dN,fk,bf]at h;subst h;refine fH.of (gn (v:=.int k2 (k2.wrap n)) B ?_ (by simp[ax]));rw[C];simp[convert,run_underlying h1,run_underlying T,Conv.intToInt];simp at h;rename_i h1 T;simp only[eI]at j;obtain⟨hH,I,rfl⟩:=j;simp only[en,ck]at h;have C:=dp D B I;split at h;rename_i l O;rw[O]at C h;have U:=C;simp only[ax]at C;simp only[dN,fk,bf]at h;subst h;refine fH.of (gn B ?_ U);rw[C];simp[convert,run_underlying h1,run_underlying T];rename_i k n O;rw[O]at C;simp only[ax]at C;split at h;rename_i hn;simp only[dN,fk,bf]at h;subst h;refine fH.of (gn (v:=.string (J0 n)) B ?_ (by simp[ax,SL hn]));rw[C];simp[convert,run_underlying h1,run_underlying T,aaD];simp at h;simp at h;rename_i k1 h1 T;simp only[eI]at j;obtain⟨hH,I,rfl⟩:=j;simp only[en,ck]at h;have C:=dp D B I;split at h;rename_i l O;rw[O]at C h;have U:=C;simp only[ax]at C;simp only[dN,fk,bf]at h;subst h;refine fH.of (gn B ?_ U);rw[C];simp[convert,run_underlying h1,run_underlying T];rename_i k n O;rw[O]at C;simp only[ax]at C;split at h;rename_i hn;simp only[dN,fk,bf]at h;subst h;refine fH.of (gn (v:=.string (J0 n)) B ?_ (by simp[ax,SL hn]));rw[C];simp[convert,run_underlying h1,run_underlying T,aaD];simp at h;simp at h;rename_i e h1 T;split at j;rename_i X;simp only[eI]at j;obtain⟨hH,I,rfl⟩:=j;simp only[en,ck]at h;exact fH.of (adB B h1 X T (dp D B I) h);simp at j;simp at j
 case makeFunc fn first cap=>simp only[gU]at j;cases h1:xd first with|none=>simp[h1]at j|some hH=>cases T:xd cap with|none=>simp[h1,T]at j|some eL=>simp only[h1,T,bf]at j;subst j;simp only[en,ck,dN,fk,bf]at h;subst h;refine fH.of (gn (v:=.func fn (first.map a.eval) (cap.map a.eval)) B (by simp[Instr.makeFunc]) ?_);simp only[ax];exact⟨_,_,rfl,Lg D B h1,Lg D B T⟩
 case makeSlice ty l c=>simp only[gU]at j;cases hu:P.underlying ty with|none=>simp[hu]at j|some d=>cases d<;>simp only[hu,reduceCtorEq]at j;rename_i e;cases A:P.info? e with|none=>simp[A]at j|some i=>cases hz:m5 P e with|none=>simp[A,hz]at j|some z=>cases H:ca l with|none=>simp[A,hz,H]at j|some PF=>cases V:ca c with|none=>simp[A,hz,H,V]at j|some eL=>simp only[A,hz,H,V]at j;split at j;rename_i Z;cases j;simp only[en,ck]at h;exact fH.of (akm B kB g7 hu A hz Z.1 (dp D B H) (dp D B V) h);simp at j
 case slice ty x lo hP mx=>simp only[gU]at j;cases hu:P.underlying ty with|none=>simp[hu]at j|some d=>
   cases d<;>simp only[hu,reduceCtorEq]at j;case string=>cases u:ca x with|none=>simp[u]at j|some lh=>cases H:lZ lo with|none=>simp[u,H]at j|some PF=>cases L:lZ hP with|none=>simp[u,H,L]at j|some ZJ=>cases mx with|some _=>simp[u,H,L]at j|none=>simp only[u,H,L,bf]at j;subst j;simp only[en,ck]at h;refine fH.of (m7 h λ c F=>?_);exact arw B hu (dp D B u) (xf D B H) (xf D B L) F
   case array n e=>cases A:P.info? e with|none=>simp[A]at j|some i=>cases u:ca x with|none=>simp[A,u]at j|some lh=>cases H:lZ lo with|none=>simp[A,u,H]at j|some PF=>cases L:lZ hP with|none=>simp[A,u,H,L]at j|some ZJ=>cases mx with|some _=>simp[A,u,H,L]at j|none=>simp only[A,u,H,L]at j;split at j;rename_i Z;cases j;simp only[en,ck]at h;exact fH.of (aru B hu A Z.1 Z.2 (dp D B u) (xf D B H) (xf D B L) h);simp at j
   case slice e=>cases A:P.info? e with|none=>simp[A]at j|some i=>cases u:ca x with|none=>simp[A,u]at j|some lh=>cases H:lZ lo with|none=>simp[A,u,H]at j|some PF=>cases L:lZ hP with|none=>simp[A,u,H,L]at j|some ZJ=>cases MD:lZ mx with|none=>simp[A,u,H,L,MD]at j|some aub=>simp only[A,u,H,L,MD]at j;split at j;rename_i Z;cases j;simp only[en,ck]at h;exact fH.of (arv B hu A (dp D B u) (xf D B H) (xf D B L) (xf D B MD) (by simpa using Z) h);simp at j
 case fieldAddr s x f=>simp only[gU]at j;cases hu:P.underlying s with|none=>simp[hu]at j|some d=>cases d<;>simp only[hu,reduceCtorEq]at j;rename_i fs;cases Y:fs[f]? with|none=>simp[Y]at j|some fd=>simp only[Y]at j;cases A:P.info? fd.type with|none=>simp[A]at j|some i=>cases u:ca x with|none=>simp[A,u]at j|some lh=>simp only[A,u]at j;split at j;simp at j;rename_i h0;cases j;exact fH.of (afB B hu Y A h0 (dp D B u) h)
 case field s x f=>simp only[gU]at j;cases hu:P.underlying s with|none=>simp[hu]at j|some d=>cases d<;>simp only[hu,reduceCtorEq]at j;rename_i fs;cases Y:fs[f]? with|none=>simp[Y]at j|some fd=>simp only[Y]at j;cases M:pg P fd.type with|none=>simp[M]at j|some g=>cases A:P.info? fd.type with|none=>simp[M,A]at j|some i=>cases u:ca x with|none=>simp[M,A,u]at j|some lh=>simp only[M,A,u,bf]at j;subst j;simp only[en,ck]at h;have C:=dp D B u;split at h;rename_i cs O;rw[O]at C;simp only[ax]at C;obtain⟨xs,X,C⟩:=C;refine fH.of (m7 h λ c F=>?_);obtain⟨v,hv,CQ⟩:=WN (P:=P) M A C F;refine gn B ?_ CQ;rw[X];simp[Instr.field,run_underlying hu,Y,asAgg,hv];simp at h
 case indexAddr ty x C4=>simp only[gU]at j;cases hu:P.underlying ty with|none=>simp[hu]at j|some d=>
   cases d<;>simp only[hu,reduceCtorEq]at j;case slice e=>cases A:P.info? e with|none=>simp[A]at j|some i=>cases u:ca x with|none=>simp[A,u]at j|some lh=>cases K:ca C4 with|none=>simp[A,u,K]at j|some A7=>simp only[A,u,K,bf]at j;subst j;simp only[en,ck]at h;refine fH.of (m7 h λ c F=>?_);exact ah4 B hu A (dp D B u) (dp D B K) F
   case array n e=>cases A:P.info? e with|none=>simp[A]at j|some i=>cases u:ca x with|none=>simp[A,u]at j|some lh=>cases K:ca C4 with|none=>simp[A,u,K]at j|some A7=>simp only[A,u,K,bf]at j;subst j;simp only[en,ck]at h;refine fH.of (m7 h λ c F=>?_);exact ah3 B hu A (dp D B u) (dp D B K) F
 case index ty x C4=>simp only[gU]at j;cases hu:P.underlying ty with|none=>simp[hu]at j|some d=>
   cases d<;>simp only[hu,reduceCtorEq]at j;case string=>cases u:ca x with|none=>simp[u]at j|some lh=>cases K:ca C4 with|none=>simp[u,K]at j|some A7=>
       simp only[u,K,bf]at j;subst j;simp only[en,ck]at h;have C:=dp D B u;have W:=dp D B K;split at h;rename_i s k n O hn;rw[O]at C;rw[hn]at W;simp only[ax]at C W;split at h;rename_i h0;refine fH.of (m7 h λ c F=>?_);simp only[eI]at F;obtain⟨b,hb,rfl⟩:=F;refine gn (v:=.int .u8 b.toNat) B ?_ (by simp[ax]);rw[C,W];have CI:(wG s.toArray)[n.toNat]?=some b:=by have hlt:=(fl.1 hb);obtain⟨h1,T⟩:=hlt;rw[getElem?_pos (wG s.toArray) n.toNat (by simpa[ByteArray.size]using h1)];congr 1
       simp[Instr.index,run_underlying hu,asIntOf,h0,CI];simp at h;simp at h
   case array n e=>cases M:pg P e with|none=>simp[M]at j|some g=>cases A:P.info? e with|none=>simp[M,A]at j|some i=>cases u:ca x with|none=>simp[M,A,u]at j|some lh=>cases K:ca C4 with|none=>simp[M,A,u,K]at j|some A7=>simp only[M,A,u,K,bf]at j;subst j;simp only[en,ck]at h;have C:=dp D B u;have W:=dp D B K;split at h;rename_i cs k m O hn;rw[O]at C;rw[hn]at W;simp only[ax]at C W;obtain⟨xs,X,C⟩:=C;split at h;rename_i h0;refine fH.of (m7 h λ c F=>?_);obtain⟨v,hv,CQ⟩:=WN (P:=P) M A C F;refine gn B ?_ CQ;rw[X,W];simp[Instr.index,run_underlying hu,asIntOf,h0,nL A,hv];simp at h;simp at h
 case extract x i=>simp only[gU,eI]at j;obtain⟨hH,I,rfl⟩:=j;simp only[en,ck]at h;have C:=dp D B I;split at h;rename_i vs O;rw[O]at C;simp only[ax]at C;obtain⟨xs,X,C⟩:=C;refine fH.of (m7 h λ c F=>?_);obtain⟨v,hv,CQ⟩:=(fu.1 C).2 i c F;refine gn B ?_ CQ;rw[X];simp at hv;simp[Instr.extract,hv];simp at h
 case call c=>
   simp only[gU]at j
   cases S:c.callee with|value f=>
     simp only[S]at j;split at j;split at j;cases j;simp[en,ck]at h;simp at j;rename_i k hk;unfold Gd at j;split at j;rename_i x y mK;split at j;rename_i lh EA u J;cases j;cases k with|idx=>simp only[en,ck]at h;have Z:=ah9 (p:=p) ho S hk mK B (dp D B u) (dp D B J) h;unfold execOp at Z;simp only[ho]at Z;exact Z|nC=>simp only[en,ck]at h;have Z:=amq (p:=p) ho S hk mK B (dp D B u) (dp D B J) h;unfold execOp at Z;simp only[ho]at Z;exact Z
     simp at j;simp at j|invoke _ _=>simp[S]at j|builtin b=>
     simp only[S]at j;have ahy:∀w,(do let d<-resolve a.eval c o.type;invoke d.target d.args:Sem Next).run P w=(builtin b c.argTypes o.type (c.args.map λ|.const _=>true|_=>false) (c.args.map a.eval)).run P w:=by intro w;simp[resolve,S,invoke];rfl
     have fin:∀{s:Sem Value},builtin b c.argTypes o.type (c.args.map λ|.const _=>true|_=>false) (c.args.map a.eval)=(do pure (.value (<-s)))->Sound P G own E w σ p s r->fH P G own E w σ p r (do let d<-resolve a.eval c o.type;invoke d.target d.args):=by intro s X hs;obtain⟨v,w',E',C,hp⟩:=hs;exact⟨v,w',E',.inl (by rw[ahy,X];simp[C]),hp⟩
     exact adw B kB g7 D j h fin
 all_goals simp[gU]at j
def alN(f:Inv G own E w σ)(i:E.μ p=none)(e:σ p=none){t:List aa}{a:Act}(g:gC E w t a){o:Oper}{c:dY dO}(b:vd P o.op=some c){r:bR}(h:ck σ p (c.map (m6 G t))=some r):fH P G own E w σ p r (execOp a.eval o):=by unfold vd at b;split at b;rename_i v d;cases b;exact alO f i e g d h;cases b;simp[en,ck]at h
def cv(P:Program)(G:Nat->Option (List aa))(f:FuncId)(args:List aa)(p:Id)(S:List (Id×aJ))(r:bR):Prop:=(∃fn,P.funcs[f]?=some fn/\(fn.name== "runtime.NumGoroutine")=false/\fn.body.isSome=true)/\∀own E w σ vs,(∀x∈S,σ x.1=some x.2)->Inv G own E w σ->bq E w args vs->(∀j,p<:+j->E.μ j=none)->Calls P f vs.toArray w λ e w'=>∃v E',e=.returned v/\lV G own E w σ p r v E' w'
def nO(P:Program)(G:Nat->Option (List aa))(σ:aQ)(p:Id)(op:dY aa)(r:bR):Prop:=match op with
 |.call f a=>match f with|.fn (.func f) first cap=>∃S,cv P G f (first++a++cap) p S r/\(∀x∈S,σ x.1=some x.2)/\∀x∈S,x.1∈r.rd|_=>False
 |op=>ck σ p op=some r
def iq(t:List aa)(d:Option Nat)(v:aa):List aa:=match d with|some d=>t.set d v|none=>t
def oP(t:List aa):Option (Nat×Bool)->Option Bool|none=>some true|some (d,a)=>match t[d]? with|some (.bool b)=>some (b==a)|some .top|some .j9=>none|_=>some false
def gC.keep{E':Env}{w':World}{t:List aa}{a:Act}(h:gC E w t a)(s:fm E E' w w'):gC E' w' t a:=bq.keep s t _ h
def gC.put{t:List aa}{a:Act}(h:gC E w t a){c:aa}{v:Value}(i:ax E w c v)(d:Option Nat):gC E w (iq t d c) (a.put d v):=by cases d with|none=>exact h|some d=>have⟨k,f⟩:=fu.1 h;refine fu.2 ⟨by simpa[iq,Act.put]using k,λ j c' b=>?_⟩;simp only[iq,yu]at b;simp only[Act.put,Array.toList_setIfInBounds,yu];split at b;rename_i e;subst e;split at b;rename_i g;cases b;exact⟨v,by rw[if_pos rfl,if_pos ac],i⟩;simp at b;rename_i e;rw[if_neg e];exact f j c' b
def gC.acN{t:List aa}{a:Act}(h:gC E w t a)(d:Nat):(t[d]?=none/\a.tmps[d]?=none)\/∃c v,t[d]?=some c/\a.tmps[d]?=some v/\ax E w c v:=by
 have⟨g,b⟩:=fu.1 h;by_cases hd:d<t.length;right;have⟨v,f,e⟩:=b d t[d] (by simp[hd]);exact⟨t[d],v,by simp[hd],by simpa using f,e⟩;left;have:a.tmps.size<=d:=by have:=g;simp at this;omega
 exact⟨by simp;omega,by simp;omega⟩
def aok{c:aa}{v:Value}(h:ax E w c v)(h1:∀b,c≠.bool b)(a:c≠.top)(d:c≠.j9):∀b,v≠.bool b:=by intro b e;subst e;cases c<;>simp only[ax,reduceCtorEq,exists_const,false_and,and_false]at h;exact h1 _ rfl;all_goals first|exact a rfl|exact d rfl|(have⟨_,_,h,_⟩:=h;cases h)|(have⟨_,h,_⟩:=h;cases h)|(have⟨_,_,h⟩:=h;cases h)
def JL{ops:Array Oper}{o:Oper}{n:dT}(f:sw P ops o=some n){t:List aa}{a:Act}(s:gC E w t a){b:Bool}(h:oP t n.guard=some b):P0 o (yielded ops a.tmps)=b:=by unfold sw at f;cases g:vd P o.op with|none=>simp[g]at f|some op=>simp only[g]at f;cases i:o.guard with|none=>simp only[i,bf]at f;subst f;simp only[oP,bf]at h;subst h;simp[P0,i]|some u=>have⟨j,q⟩:=u;simp only[i]at f;cases hd:(ops[j]?).bind (·.dst)with|none=>simp[hd]at f|some d=>simp only[hd,bf]at f;subst f;simp only[oP]at h;simp only[P0,i,yielded,hd,Option.bind_some];rcases s.acN d with⟨h1,m⟩|⟨c,v,h1,m,l⟩;simp only[h1,bf]at h;subst h;simp[m];simp only[h1]at h;simp only[m];cases c with|bool x=>cases h;simp only[ax]at l;subst l;simp|top=>simp at h|j9=>simp at h|_=>cases h;have k:=aok l am am am;cases v<;>simp at k⊢
def RG{ops:Array Oper}{o:Oper}{c:dT}(a:sw P ops o=some c):vd P o.op=some c.op/\c.dst=o.dst:=by unfold sw at a;cases b:vd P o.op with|none=>simp[b]at a|some op=>simp only[b]at a;split at a;cases a;simp_all;split at a;cases a;simp_all;simp at a;simp_all
def adL{k:FE}{l:List Operand}(f:dO)(a:List dO):Gd k l≠some (.call f a):=by unfold Gd;split;split;cases k<;>simp;simp;simp
def YK(z:Inv G own E w σ)(F:∀j,p<:+j->E.μ j=none){t:List aa}{a:Act}(X:gC E w t a){o:Oper}{D:dY dO}(d:vd P o.op=some D){r:bR}(h:nO P G σ p (D.map (m6 G t)) r){K:Act->World->Prop}{Q:Exit->Act->World->Prop}(L:∀v w' E',lV G own E w σ p r v E' w'->K (a.put o.dst v) w'):o.wp P a w K Q:=by
 have g7:σ p=none:=by cases hs:σ p with|none=>rfl|some av=>obtain⟨g,N,cur,ty,Z⟩:=z.blk _ _ hs;have:=Z.μ;rw[F _ (wM _)]at this;simp at this
 have m:ck σ p (D.map (m6 G t))=some r->o.wp P a w K Q:=by intro M;obtain⟨v,w',E',i,C⟩:=alN z (F p (wM _)) g7 X d M;unfold Oper.wp;rcases i with i|⟨i,rfl⟩;rw[i];exact L v w' E' C;rw[i];exact L undef w' E' C
 cases D with|call f as=>
   replace d:gU P o.op=some (.call f as):=by unfold vd at d;split at d;rename_i v M;rw[M];exact d;simp at d
   simp only[en,nO]at h;split at h;rename_i atw V first cap B;obtain⟨S,k,hS,_⟩:=h;obtain⟨⟨fn,O,q,u⟩,k⟩:=k;cases n:o.op with
   |call c=>rw[n]at d;simp only[gU]at d;cases l:c.callee with|value atx=>
       simp only[l]at d;split at d;case h_2=>exact absurd d (adL _ _)
       split at d;rename_i aG U h1 Y;simp only[bf,dY.call.injEq]at d;obtain⟨rfl,rfl⟩:=d;have x:=dp X z h1;rw[B]at x;simp only[ax]at x;obtain⟨xs,ys,W,hx,hy⟩:=x;have T:=Lg X z Y;have s:bq E w (first++U.map (m6 G t)++cap) (xs.toList++(c.args.map a.eval).toList++ys.toList):=tA (tA hx T) hy;have y:=k own E w σ _ hS z s F;have i:(execOp a.eval o).run P w=.ok (.enter V (xs++c.args.map a.eval++ys)) w:=by
         have I:¬fn.body=none:=by intro e;simp[e]at u
         have H:¬fn.name= "runtime.NumGoroutine":=by intro e;simp[e]at q
         simp[execOp,n,resolve,l,W,aav,invoke,callFunc,O,H,I]
       unfold Oper.wp;rw[i,Oper.upon_enter];have R:(xs.toList++(c.args.map a.eval).toList++ys.toList).toArray=xs++c.args.map a.eval++ys:=by apply nT;simp
       rw[R]at y;refine y.mono λ e w' he=>?_;obtain⟨v,E',rfl,C⟩:=he;exact L v w' E' C;simp at d|invoke _ _=>simp[l]at d|builtin b=>simp only[l]at d;unfold Gc at d;split at d<;>(try split at d)<;>(try split at d)<;>(try split at d)<;>(try split at d)<;>simp at d
   |_=>rw[n]at d;simp only[gU]at d;exfalso;revert d;clear m B;intro d;first|simp at d|(simp only[eI]at d;obtain⟨_,_,d⟩:=d;cases d)|((repeat' split at d)<;>first|(simp at d;done)|(simp only[eI]at d;obtain⟨_,_,d⟩:=d;cases d)|(cases d))
   exact h.elim|_=>exact m h
abbrev Done:=Option Nat×bR
def fj(X:Nat->Bool):List Done->Nat->List aa->List aa|[],_,t=>t|(d,r)::L,i,t=>fj X L (i+1) (if X i then iq t d r.val else t)
def fW(X:Nat->Bool):List Done->Nat->aQ->aQ|[],_,σ=>σ|(_,r)::L,i,σ=>fW X L (i+1) (if X i then σ.app r.up else σ)
def Az(t:List aa)(d:Option Nat)(v:aa)(s:Nat):(iq t d v)[s]?=if d=some s then(if s<t.length then some v else none)else t[s]?:=by cases d with|none=>simp[iq]|some d=>simp only[iq,yu,bf];by_cases e:d=s;subst e;simp;simp[e]
def Xb(t:List aa)(d:Option Nat)(v:aa):(iq t d v).length=t.length:=by cases d<;>simp[iq]
def Tg(X:Nat->Bool):∀(L:List Done)(i:Nat)(t:List aa),(fj X L i t).length=t.length|[],_,_=>rfl|(d,r)::L,i,t=>by simp only[fj];rw[Tg X L];split;exact Xb t d r.val;rfl
def ajM{t a:List aa}{s:Nat}(h:t[s]?=a[s]?):(s<t.length)=(s<a.length):=by have h1:s<t.length↔t[s]?≠none:=am;have b:s<a.length↔a[s]?≠none:=am;exact propext (h1.trans ((by rw[h]:t[s]?≠none↔a[s]?≠none).trans b.symm))
def GJ{X Y:Nat->Bool}{s:Nat}:∀(L:List Done)(i:Nat)(t a:List aa),t[s]?=a[s]?->(∀k d r,L[k]?=some (d,r)->X (i+k)≠Y (i+k)->d≠some s)->(fj X L i t)[s]?=(fj Y L i a)[s]?
 |[],_,_,_,h,_=>h|(d,r)::L,i,t,a,h,hd=>by
   simp only[fj];refine GJ L (i+1) _ _ ?_ (λ k j c f e=>hd (k+1) j c (by simpa using f) (by rwa[show i+(k+1)=i+1+k from ac]));by_cases b:X i=Y i;rw[b];split;rw[Az,Az];simp only[ajM h,h];exact h;have:=hd 0 d r rfl b;have g:(iq t d r.val)[s]?=t[s]?:=by rw[Az,if_neg this]
   have l:(iq a d r.val)[s]?=a[s]?:=by rw[Az,if_neg this]
   split<;>split<;>simp only[g,l,h]
def aQ.acC{σ a:aQ}{id:Id}(h:σ id=a id):∀(up:List (Id×Option aJ)),(σ.app up) id=(a.app up) id:=by intro up;induction up generalizing σ a with|nil=>exact h|cons x up c=>have⟨i,b⟩:=x;simp only[mz];refine c ?_;simp only[wO];split<;>first|rfl|exact h
def aQ.F1{σ:aQ}{id:Id}:∀{up:List (Id×Option aJ)},id∉up.map (·.1)->(σ.app up) id=σ id:=by intro up;induction up generalizing σ with|nil=>intro _;rfl|cons x up a=>have⟨i,b⟩:=x;intro h;simp only[mw,cp,not_or]at h;simp only[mz];rw[a h.2,wN _ _ _ h.1]
def aQ.acD{σ c:aQ}{id:Id}:∀{up:List (Id×Option aJ)},id∈up.map (·.1)->(σ.app up) id=(c.app up) id:=by intro up;induction up generalizing σ c with|nil=>intro h;simp at h|cons x up e=>
   have⟨i,b⟩:=x;intro h;simp only[mz];by_cases a:id∈up.map (·.1);exact e a;have d:id=i:=by simpa[a]using h
   subst d;rw[aQ.F1 a,aQ.F1 a,BQ,BQ]
def GI{X Y:Nat->Bool}{id:Id}:∀(L:List Done)(i:Nat)(σ a:aQ),σ id=a id->(∀k d r,L[k]?=some (d,r)->X (i+k)≠Y (i+k)->id∉r.up.map (·.1))->fW X L i σ id=fW Y L i a id|[],_,_,_,h,_=>h|(d,r)::L,i,σ,a,h,hd=>by simp only[fW];refine GI L (i+1) _ _ ?_ (λ k g c f e=>hd (k+1) g c (by simpa using f) (by rwa[show i+(k+1)=i+1+k from ac]));by_cases b:X i=Y i;rw[b];split;exact aQ.acC h _;exact h;have:=hd 0 d r rfl b;split<;>split<;>simp only[aQ.F1 this,h]
def Tf{X:Nat->Bool}{s:Nat}{r:bR}:∀(L:List Done)(i j:Nat)(t:List aa),L[j]?=some (some s,r)->X (i+j)=true->(∀k d a,L[k]?=some (d,a)->j<k->X (i+k)=true->d≠some s)->(fj X L i t)[s]?=if s<t.length then some r.val else none
 |[],_,_,_,h,_,_=>by simp at h|(d,a)::L,i,0,t,h,e,hd=>by
   simp only[tj,bf,c5]at h;obtain⟨rfl,rfl⟩:=h;simp only[fj];rw[j7]at e;rw[if_pos e];have:=GJ (X:=X) (Y:=λ _=>false) (s:=s) L (i+1) (iq t (some s) a.val) (iq t (some s) a.val) rfl (λ k d f b c=>hd (k+1) d f (by simpa using b) ac (by rw[show i+(k+1)=i+1+k from ac];cases m:X (i+1+k)with|true=>rfl|false=>simp[m]at c));rw[this];have none:∀(L:List Done)(i:Nat)(t:List aa),fj (λ _=>false) L i t=t:=by intro L;induction L with|nil=>intro _ _;rfl|cons x L n=>intro i t;have⟨d,r⟩:=x;simp only[fj];rw[n];simp
   rw[none,Az,if_pos rfl]|(d,a)::L,i,j+1,t,h,e,hd=>by simp only[fj];have:=Tf L (i+1) j (if X i then iq t d a.val else t) (by simpa using h) (by rwa[show i+1+j=i+(j+1)from ac]) (λ k d f b l g=>hd (k+1) d f (by simpa using b) ac (by rwa[show i+(k+1)=i+1+k from ac]));rw[this];split<;>simp[Xb]
def Te{X:Nat->Bool}{id:Id}{d:Option Nat}{r:bR}{n:aQ}:∀(L:List Done)(i j:Nat)(σ:aQ),L[j]?=some (d,r)->X (i+j)=true->id∈r.up.map (·.1)->(∀k d b,L[k]?=some (d,b)->j<k->X (i+k)=true->id∉b.up.map (·.1))->fW X L i σ id=(n.app r.up) id
 |[],_,_,_,h,_,_,_=>by simp at h|(p,b)::L,i,0,σ,h,f,a,hd=>by
   simp only[tj,bf,c5]at h;have⟨rfl,rfl⟩:=h;simp only[fW];rw[j7]at f;rw[if_pos f];have:=GI (X:=X) (Y:=λ _=>false) (id:=id) L (i+1) (σ.app b.up) (σ.app b.up) rfl (λ k d e c g=>hd (k+1) d e (by simpa using c) ac (by rw[show i+(k+1)=i+1+k from ac];cases m:X (i+1+k)with|true=>rfl|false=>simp[m]at g));rw[this];have none:∀(L:List Done)(i:Nat)(σ:aQ),fW (λ _=>false) L i σ=σ:=by intro L;induction L with|nil=>intro _ _;rfl|cons x L q=>intro i t;have⟨d,r⟩:=x;simp only[fW];rw[q];simp
   rw[none];exact aQ.acD a|(p,b)::L,i,j+1,σ,h,f,a,hd=>by simp only[fW];exact Te L (i+1) j _ (by simpa using h) (by rwa[show i+1+j=i+(j+1)from ac]) a (λ k d e c o l=>hd (k+1) d e (by simpa using c) ac (by rwa[show i+(k+1)=i+1+k from ac]))
def L3{X:Nat->Bool}:∀(L:List Done)(i:Nat)(t:List aa),(∀k,k<L.length->X (i+k)=false)->fj X L i t=t|[],_,_,_=>rfl|(d,r)::L,i,t,h=>by simp only[fj];have:=h 0 am;rw[j7]at this;rw[this];exact L3 L (i+1) t (λ k a=>by rw[show i+1+k=i+(k+1)from ac];exact h (k+1) (by simpa using a))
def L0{X:Nat->Bool}:∀(L:List Done)(i:Nat)(σ:aQ),(∀k,k<L.length->X (i+k)=false)->fW X L i σ=σ|[],_,_,_=>rfl|(d,r)::L,i,t,h=>by simp only[fW];have:=h 0 am;rw[j7]at this;rw[this];exact L0 L (i+1) t (λ k a=>by rw[show i+1+k=i+(k+1)from ac];exact h (k+1) (by simpa using a))
end
section
variable(P:Program)(G:Nat->Option (List aa))(π:Id)
def uE(σ:aQ)(p:Id)(op:dY aa)(K:bR->Prop):Prop:=match op with
 |.call f a=>match f with|.fn (.func f) first cap=>∃S r,cv P G f (first++a++cap) p S r/\(∀x∈S,σ x.1=some x.2)/\(∀x∈S,x.1∈r.rd)/\K r|_=>False
 |op=>match ck σ p op with|some r=>K r|none=>False
def rW(a:Nat)(K:List aa->aQ->Prop):List dT->Nat->List aa->aQ->Prop|[],_,t,σ=>K t σ|o::os,i,t,σ=>match oP t o.guard with|none=>False|some false=>rW a K os (i+1) (iq t o.dst (.aM [])) σ|some true=>uE P G σ ((a+i)::π) (o.op.map (m6 G t)) λ r=>rW a K os (i+1) (iq t o.dst r.val) (σ.app r.up)
def qH(a:Nat)(K:List bR->List aa->aQ->Prop):List dT->Nat->List bR->List aa->aQ->Prop|[],_,b,t,σ=>K b.reverse t σ|o::os,i,b,t,σ=>match oP t o.guard with|none=>False|some false=>qH a K os (i+1) ({val:=.aM []}::b) (iq t o.dst (.aM [])) σ|some true=>uE P G σ ((a+i)::π) (o.op.map (m6 G t)) λ r=>qH a K os (i+1) (r::b) (iq t o.dst r.val) (σ.app r.up)
def apart(a b:bR):Prop:=(∀x∈a.up,x.1∉b.rd/\x.1∉b.up.map (·.1))/\∀x∈b.up,x.1∉a.rd
def B6(c:List bR)(d:List (Nat×Nat)):Prop:=∀q∈d,∀a b,c[q.1]?=some a->c[q.2]?=some b->apart a b
def Jf(a:Nat)(o:dT)(k:Nat)(t:List aa)(σ:aQ)(r:bR):Prop:=(oP t o.guard=some false/\r={val:=.aM []})\/(oP t o.guard=some true/\nO P G σ ((a+k)::π) (o.op.map (m6 G t)) r)
end
section
variable{P:Program}{G:Nat->Option (List aa)}{π:Id}{own:Nat->Prop}{E:Env}{w:World}{σ:aQ}
def ZX{σ:aQ}{p:Id}{op:dY aa}{K:bR->Prop}(h:uE P G σ p op K):∃r,nO P G σ p op r/\K r:=by unfold uE at h;cases op with|call f g=>simp only[]at h;split at h;have⟨S,r,h1,b,d,e⟩:=h;exact⟨r,⟨S,h1,b,d⟩,e⟩;exact h.elim|_=>simp only[]at h;split at h;rename_i r c;exact⟨r,c,h⟩;exact h.elim
def ZU{a:Nat}{K:List bR->List aa->aQ->Prop}:∀{os:List dT}{i:Nat}{c:List bR}{t:List aa}{σ:aQ},qH P G π a K os i c t σ->∃b:List bR,b.length=os.length/\(∀k o r,os[k]?=some o->b[k]?=some r->Jf P G π a o (i+k) (fj (λ m=>m<i+k) ((os.map (·.dst)).zip b) i t) (fW (λ m=>m<i+k) ((os.map (·.dst)).zip b) i σ) r)/\K (c.reverse++b) (fj (λ _=>true) ((os.map (·.dst)).zip b) i t) (fW (λ _=>true) ((os.map (·.dst)).zip b) i σ)
 |[],i,c,t,σ,h=>⟨[],rfl,am,by simpa[qH,fj,fW]using h⟩|o::os,i,c,t,σ,h=>by
   have l:∀r,Jf P G π a o i t σ r->qH P G π a K os (i+1) (r::c) (iq t o.dst r.val) (σ.app r.up)->∃b:List bR,b.length=(o::os).length/\(∀k e r,(o::os)[k]?=some e->b[k]?=some r->Jf P G π a e (i+k) (fj (λ m=>m<i+k) (((o::os).map (·.dst)).zip b) i t) (fW (λ m=>m<i+k) (((o::os).map (·.dst)).zip b) i σ) r)/\K (c.reverse++b) (fj (λ _=>true) (((o::os).map (·.dst)).zip b) i t) (fW (λ _=>true) (((o::os).map (·.dst)).zip b) i σ):=by
     intro r g n;have⟨b,h1,u,q⟩:=ZU n;refine⟨r::b,by simp[h1],?_,?_⟩;intro k e s j d;cases k with|zero=>simp only[tj,bf]at j d;subst j;subst d;rw[L3 _ _ _ (λ k _=>am),L0 _ _ _ (λ k _=>am),j7];exact g|succ k=>have:=u k e s (by simpa using j) (by simpa using d);simp only[mw,List.zip_cons_cons,fj,fW];have hd:decide (i<i+(k+1))=true:=am;rw[if_pos hd,if_pos hd];rw[show i+(k+1)=i+1+k from ac];exact this
     simpa[fj,fW]using q
   simp only[qH]at h;split at h;exact h.elim;rename_i f;exact l {val:=.aM []} (.inl ⟨f,rfl⟩) h;rename_i f;have⟨r,g,p⟩:=ZX h;exact l r (.inr ⟨f,g⟩) p
def Zo{q q':Nat}{π j:Id}(h:(q::π)<:+j)(b:q≠q'):¬(q'::π)<:+j:=by
 intro d;have:=List.suffix_of_suffix_length_le h d am;have⟨l,a⟩:=this;have c:l=[]:=by have:=congrArg List.length a;simp at this;exact this
 subst c;simp at a;exact b a
def lV.frame{p:Id}{r:bR}{v:Value}{E':Env}{w':World}(h:lV G own E w σ p r v E' w'){t:List aa}{a:Act}(b:gC E w t a)(d:Option Nat):gC E' w' (iq t d r.val) (a.put d v):=(b.keep h.jo.step).put h.rep d
def Zn{t:List aa}{a:Act}(b:gC E w t a)(d:Option Nat):gC E w (iq t d (.aM [])) (a.put d undef):=b.put (by simp only[ax,undef];exact⟨#[],rfl,by simp[bq]⟩) d
def ID(a:Act)(d:Option Nat)(v:Value):(a.put d v).defers=a.defers:=by cases d<;>rfl
def mB(E:Env)(π:Id)(n:Nat):Prop:=∀j,π<:+j->(∀q,q<n->¬(q::π)<:+j)->E.μ j=none
def mB.at{π:Id}{n q:Nat}(h:mB E π n)(c:n<=q){j:Id}(a:(q::π)<:+j):E.μ j=none:=h j ((aaE q π).trans a) λ q' b=>Zo a ac
def mB.mono{π:Id}{n a:Nat}(h:mB E π n)(e:n<=a):mB E π a:=λ j d c=>h j d λ q b=>c q ac
def mB.step{π:Id}{n:Nat}{E':Env}(h:mB E π n)(a:∀i:Id,¬(n::π)<:+i->E'.μ i=E.μ i):mB E' π (n+1):=λ j c b=>by rw[a j (b n ac)];exact h j c λ q d=>b q ac
def mB.self{π:Id}{n:Nat}(h:mB E π n):E.μ π=none:=h π (wM _) λ q _ a=>by have:=a.length_le;simp at this;omega
structure g4(own:Nat->Prop)(π:Id)(E E':Env)(w w':World):Prop extends Adv own E E' w w' where ids:∀i:Id,¬π<:+i->E'.μ i=E.μ i
def g4.refl(own:Nat->Prop)(π:Id)(E:Env)(w:World):g4 own π E E w w:=⟨tk own E w,λ _ _=>rfl⟩
def g4.trans{π:Id}{E' d:Env}{w' c:World}(a:g4 own π E E' w w')(b:g4 own π E' d w' c):g4 own π E d w c:=⟨a.toAdv.trans b.toAdv,λ i e=>(b.ids i e).trans (a.ids i e)⟩
def lV.Rf{π:Id}{q:Nat}{r:bR}{v:Value}{E':Env}{w':World}(h:lV G own E w σ (q::π) r v E' w'):g4 own π E E' w w':=⟨h.jo,λ i a=>h.ids i λ b=>a ((aaE q π).trans b)⟩
def ZV{ops:Array Oper}{b:Nat}{K:List aa->aQ->Prop}{Q:Exit->Act->World->Prop}:∀(l:List Oper)(i:Nat),(∀k,l[k]?=ops[i+k]?)->∀(vs:List dT),l.mapM (sw P ops)=some vs->∀(t:List aa)(σ:aQ)(a:Act)(E:Env)(w:World),rW P G π b K vs i t σ->gC E w t a->Inv G own E w σ->mB E π (b+i)->(∀h p a' E' w',K h p->g4 own π E E' w w'->gC E' w' h a'->Inv G own E' w' p->mB E' π (b+i+l.length)->a'.defers=a.defers->Q .normal a' w')->wpOps P ops Q ((List.range' i l.length)) a w
 |[],i,_,vs,q,t,σ,a,E,w,f,m,y,c,D=>by simp at q;subst q;simp only[rW]at f;simp only[gR,List.range'_zero,wpOps];exact D t σ a E w f (g4.refl own π E w) m y c rfl|o::l,i,S,vs,q,t,σ,a,E,w,f,m,y,c,D=>by
   simp only[List.mapM_cons,Option.pure_def,Option.bind_eq_bind,Option.bind_eq_some_iff]at q;have⟨Z,n,u,A,R⟩:=q;cases R;have⟨F,g⟩:=RG n;have M:ops[i]?=some o:=by have:=S 0;simpa using this.symm
   simp only[fU,List.range'_succ];rw[wpOps_cons];unfold wpOp;rw[M];simp only[];have rest:∀(h:List aa)(p:aQ)(a':Act)(E':Env)(w':World),rW P G π b K u (i+1) h p->g4 own π E E' w w'->gC E' w' h a'->Inv G own E' w' p->mB E' π (b+i+1)->a'.defers=a.defers->wpOps P ops Q (List.range' (i+1) l.length) a' w':=by intro h p a' E' w' I O H B d z;refine ZV l (i+1) (λ k=>by rw[show i+1+k=i+(k+1)from ac,<-S];simp) u A h p a' E' w' I H B (by rw[<-Nat.add_assoc];exact d) ?_;intro t2 X U V T N s L J e rj;exact D t2 X U V T N (O.trans s) L J (by rw[fU,show b+i+(l.length+1)=b+(i+1)+l.length from ac];exact e) (rj.trans z)
   simp only[rW]at f;split at f;exact f.elim;rename_i C;rw[JL n m C];simp only[iz,if_false];rw[<-g];exact rest _ _ _ E w f (g4.refl own π E w) (Zn m _) y (c.mono ac) (ID _ _ _);rename_i C;rw[JL n m C];simp only[if_true];have⟨r,Y,N⟩:=ZX f;left;refine YK y (λ j W=>c.at (a2 _) W) m F Y ?_;intro v w' E' x;rw[<-g];exact rest _ _ _ E' w' N x.Rf (x.frame m _) x.inv (c.step x.ids) (ID _ _ _)
def Th(f:Nat->Nat)(b:Nat):∀(l:List Nat)(s:Nat),(l.foldl (λ s i=>s|||2^i|||f i) s).testBit b=true->s.testBit b=true\/∃e∈l,b=e\/(f e).testBit b=true|[],s,h=>.inl h|i::l,s,h=>by simp only[List.foldl_cons]at h;rcases Th f b l _ h with h|⟨e,a,h⟩;simp only[Nat.testBit_or,Bool.or_eq_true,Nat.testBit_two_pow,decide_eq_true_eq]at h;rcases h with(h|h)|h;exact .inl h;exact .inr ⟨i,am,.inl h.symm⟩;exact .inr ⟨i,am,.inr h⟩;exact .inr ⟨e,by simp[a],h⟩
def VD:∀(b:List (List Nat))(a:List Nat),(iF b a).length=a.length+b.length|[],a=>by simp[iF]|l::r,a=>by simp only[iF];rw[VD r];simp;omega
def Nb:∀(b:List (List Nat))(a:List Nat)(k:Nat),k<a.length->(iF b a)[k]?=a[k]?|[],a,k,_=>by simp[iF]|l::r,a,k,h=>by simp only[iF];rw[Nb r _ k (by simp;omega),kO h]
def VC:∀(c:List (List Nat))(a:List Nat)(j:Nat)(l:List Nat),c[j]?=some l->∃b:List Nat,b.length=a.length+j/\(∀k,k<b.length->(iF c a)[k]?=b[k]?)/\(iF c a)[a.length+j]?=some (l.foldl (λ s i=>s|||2^i|||b.getD i 0) 0)|[],_,_,_,h=>by simp at h|l'::r,a,0,l,h=>by simp only[tj,bf]at h;subst h;refine⟨a,rfl,λ k e=>Nb _ _ k e,?_⟩;simp only[iF];rw[Nb r _ _ am,kx ac];simp|l'::r,a,j+1,l,h=>by simp only[iF];have⟨b,h1,f,d⟩:=VC r (a++[l'.foldl (λ s i=>s|||2^i|||a.getD i 0) 0]) j l (by simpa using h);refine⟨b,by simp at h1;omega,f,?_⟩;simp only[cy,List.length_singleton]at d;rw[show a.length+(j+1)=a.length+1+j from ac];exact d
def ake{a:List (List Nat)}{j b:Nat}(d:∀e∈a.getD j [],e<j)(h:((iF a []).getD j 0).testBit b=true):∃e∈a.getD j [],b=e\/((iF a []).getD e 0).testBit b=true:=by
 by_cases g:j<a.length;have⟨c,h1,n,f⟩:=VC a [] j a[j] (by simp[g]);simp only[gR,cI]at h1 f;have m:(iF a []).getD j 0=a[j].foldl (λ s i=>s|||2^i|||c.getD i 0) 0:=by simp[Bo,f]
 rw[m]at h;have l:a.getD j []=a[j]:=by simp[Bo,g]
 rw[l]at d⊢;rcases Th _ b _ _ h with h|⟨e,k,h⟩;simp at h;refine⟨e,k,h.imp id λ h=>?_⟩;have:(iF a []).getD e 0=c.getD e 0:=by simp only[Bo];rw[n e (by rw[h1];exact d e k)]
 rw[this];exact h;have:(iF a []).getD j 0=0:=by have:=VD a [];simp only[Bo];rw[List.getElem?_eq_none (by simp at this;omega)];rfl
 rw[this]at h;simp at h
def VB{a:List (List Nat)}{X:Nat->Bool}{n:Nat}(d:∀j,j<n->∀e∈a.getD j [],e<j)(l:∀k,k<n->X k=true->∀e∈a.getD k [],X e=true):∀j,j<n->(∀e∈a.getD j [],X e=true)->∀b,((iF a []).getD j 0).testBit b=true->X b=true:=by intro j;induction j using yv with|_ j m=>intro g i b hb;have⟨e,c,h⟩:=ake (d j g) hb;have f:=d j g e c;rcases h with rfl|h;exact i b c;exact m e f ac (l e ac (i e c)) b h
def dY.map_congr{α β:Type}{g h:α->β}:∀(op:dY α),(∀x∈op.args,g x=h x)->op.map g=op.map h:=by
 intro op d;have i:∀(l:List α),(∀x∈l,x∈op.args)->l.map g=l.map h:=λ l i=>kq λ x Up=>d x (i x Up);have e:∀(l:Option α),(∀x,l=some x->x∈op.args)->l.map g=l.map h:=by intro l i;cases l with|none=>rfl|some x=>simp[d x (i x rfl)]
 cases op<;>simp only[en,dY.args]at d i e⊢;case build z ps=>congr 1;apply kq;intro q r;rw[d q.2.2 (bd.2 ⟨q,r,rfl⟩)]
 case vc k n z ps=>congr 1;apply kq;intro q r;rw[d q.2 (bd.2 ⟨q,r,rfl⟩)]
 case Ab fn a c=>rw[i a (by simp+contextual),i c (by simp+contextual)]
 case call f as=>rw[d f am,i as (by simp+contextual)]
 case slice k x lo j mx=>rw[d x am,e lo (by simp+contextual),e j (by simp+contextual),e mx (by simp+contextual)]
 case AZ x lo j=>rw[d x am,e lo (by simp+contextual),e j (by simp+contextual)]
 case vX n x lo j=>rw[d x am,e lo (by simp+contextual),e j (by simp+contextual)]
 all_goals try simp only[cp,List.not_mem_nil,or_false,forall_eq_or_imp,forall_eq]at d
 all_goals simp only[d]
def aft{G:Nat->Option (List aa)}{t a:List aa}:∀(x:dO),(∀s,x.Y4=some s->t[s]?=a[s]?)->x.ev G t=x.ev G a|.t n,h=>by have:=h n rfl;simp[m6,Bo,this]|.c _,_=>rfl|.g _,_=>rfl|.f _,_=>rfl
def LJ{σ a:aQ}{k:Nat}{x:aa}{ys:List aa}{rd:List Id}(h:iM σ k x=some (ys,rd))(b:∀id∈rd,a id=σ id):iM a k x=some (ys,rd):=by unfold iM at h⊢;split at h;exact h;exact h;exact h;rename_i id k' off len t;skip;split at h;rename_i av hb;split at h;rename_i c;simp only[bf,c5]at h;have⟨rfl,rfl⟩:=h;have:=b id am;rw[this,hb];simp[c];simp at h;simp at h;simp at h
def ZT{σ:aQ}{id:Id}{off k:Nat}{news:List aa}{v:aa}{rd:List Id}{r:bR}(h:uD σ id off k news v rd=some r):r.rd=id::rd:=by unfold uD at h;split at h;split at h;cases h;rfl;simp at h;simp at h
def ZR{σ b:aQ}{id:Id}{off k:Nat}{news:List aa}{v:aa}{rd:List Id}{r:bR}(h:uD σ id off k news v rd=some r)(c:∀id∈r.rd,b id=σ id):uD b id off k news v rd=some r:=by have a:=ZT h;unfold uD at h⊢;rw[c id (by rw[a];simp)];exact h
def art{σ wP:aQ}{p:Id}{op:dY aa}{r:bR}(h:ck σ p op=some r)(b:∀id∈r.rd,wP id=σ id):ck wP p op=some r:=by cases op with
 |load agg n x=>
   simp only[ck]at h⊢;unfold lg at h⊢;split at h;rename_i id e o;skip;cases hb:σ id with|none=>simp[hb]at h|some av=>simp only[hb]at h;cases i:av.els[e]? with|none=>simp[i]at h|some el=>simp only[i,eI]at h;obtain⟨v,hv,rfl⟩:=h;rw[b id am,hb];simp[i,hv]
   exact h;simp at h|store n x v=>
   simp only[ck]at h⊢;unfold uF at h⊢;split at h;rename_i id e o;skip;cases hb:σ id with|none=>simp[hb]at h|some av=>simp only[hb]at h;cases i:av.els[e]? with|none=>simp[i]at h|some el=>simp only[i]at h;split at h;rename_i B;cases h;rw[b id am,hb];simp[i,B];simp at h
   simp at h|append k bytes s x=>simp only[ck]at h⊢;unfold qD at h⊢;cases a:iM σ k x with|none=>simp[a]at h|some q=>
     obtain⟨ys,rd⟩:=q;simp only[a]at h;have f:∀id∈rd,id∈r.rd:=by
       intro id ei;split at h;split at h<;>first|(cases h;exact ei)|simp at h
       split at h;split at h<;>first|(cases h;exact ei)|simp at h
       split at h<;>first|(cases h;exact ei)|simp at h
       split at h;split at h;split at h;split at h<;>first|(cases h;exact cX _ ei)|(simp at h;done)
       split at h<;>first|(cases h;exact cX _ ei)|(split at h<;>first|(cases h;exact cX _ ei)|(simp at h;done))
       simp at h;simp at h;simp at h
     rw[LJ a (λ id ei=>b id (f id ei))];simp only[];split at h;rename_i c;rw[if_pos c];exact h;rename_i c;rw[if_neg c];split at h;exact h;exact h;rename_i id k' off len t;skip;cases hb:σ id with|none=>simp[hb]at h|some av=>
       simp only[hb]at h;have ei:id∈r.rd:=by
         split at h;split at h;split at h<;>first|(cases h;simp;done)|(simp at h;done)
         split at h<;>first|(cases h;simp;done)|(split at h<;>first|(cases h;simp;done)|(simp at h;done))
         simp at h
       rw[b id ei,hb];exact h
     simp at h
 |tM x=>simp only[ck]at h⊢;unfold Eu at h⊢;cases a:iM σ 1 x with|none=>simp[a]at h|some q=>obtain⟨ys,rd⟩:=q;simp only[a,eI]at h;obtain⟨l,hl,rfl⟩:=h;rw[LJ a b];simp[hl]
 |slice k x lo hi mx=>simp only[ck]at h⊢;cases u:gi k x lo hi mx with|some v=>rw[u]at h;exact h|none=>
     rw[u]at h;simp only[pF]at h⊢;split at h;rename_i id k' off len B;cases hb:σ id with|none=>simp[hb]at h|some av=>simp only[hb]at h;split at h;rename_i hc;simp only[eI]at h;obtain⟨v,hv,rfl⟩:=h;rw[b id am,hb];simp[hc,hv];simp at h
     exact h;simp at h
 |vX n x lo hi=>
   simp only[ck]at h⊢;unfold JH at h⊢;split at h;rename_i id e;cases hb:σ id with|none=>simp[hb]at h|some av=>
     have D:id∈r.rd:=by simp only[hb]at h;cases a:av.els[e]? with|none=>simp[a]at h|some el=>simp only[a]at h;cases m:gh n lo hi with|none=>simp[m]at h|some q=>obtain⟨l,r'⟩:=q;simp only[m]at h;split at h;cases h;simp;simp at h
     simp only[b id D];exact h
   simp at h|cap x=>simp only[ck]at h⊢;cases u:Py x with|some v=>rw[u]at h;exact h|none=>
     rw[u]at h;simp only[Ew]at h⊢;split at h;rename_i id k' off len;cases hb:σ id with|none=>simp[hb]at h|some av=>simp only[hb]at h;split at h;rename_i hc;cases h;rw[b id am,hb];simp[hc];simp at h
     simp at h
 |nC x y=>
   simp only[ck]at h⊢;unfold Ez at h⊢;split at h;rename_i i1 _ _ _ _ i2 _ _ _ _;split at h;simp at h;rename_i hne;cases h1:σ i1 with|none=>simp[h1]at h|some b1=>cases C:σ i2 with|none=>simp[h1,C]at h|some b2=>simp only[h1,C]at h;split at h;rename_i hp;cases h;simp only[b i1 am,b i2 am,h1,C];rw[if_neg hne,if_pos hp];simp at h
   simp at h|clear k z x=>simp only[ck]at h⊢;unfold JC at h⊢;split at h;exact h;rename_i id k' off len m1;split at h;rename_i g;simp only[g,if_true];exact h;rename_i g;simp only[g,if_false];split at h;rename_i B;rw[if_pos B];exact ZR h b;simp at h;simp at h|copy k d x=>simp only[ck]at h⊢;unfold JD at h⊢;cases a:iM σ k x with|none=>simp[a]at h|some q=>
     obtain⟨ys,rd⟩:=q;simp only[a]at h;have f:∀id∈rd,id∈r.rd:=by intro id ei;split at h;cases h;exact ei;split at h;cases h;exact ei;split at h;have:=ZT h;rw[this];exact cX _ ei;simp at h;simp at h
     rw[LJ a (λ id ei=>b id (f id ei))];simp only[];split at h;exact h;split at h;rename_i g;rw[if_pos g];exact h;rename_i g;rw[if_neg g];split at h;rename_i hk;rw[if_pos hk];exact ZR h b;simp at h;simp at h
 |_=>exact h
def apX{P:Program}{G:Nat->Option (List aa)}{σ c:aQ}{p:Id}{op:dY aa}{r:bR}(h:nO P G σ p op r)(e:∀id∈r.rd,c id=σ id):nO P G c p op r:=by cases op with|call f i=>simp only[nO]at h⊢;split at h;have⟨S,h1,g,b⟩:=h;exact⟨S,h1,λ x d=>by rw[e _ (b x d)];exact g x d,b⟩;exact h|_=>exact art h e
def Dr{pq:Option aa}{r:bR}(h:dN pq=some r):r.rd=[]/\r.up=[]:=by cases pq with|none=>simp[dN]at h|some c=>simp only[dN,fk,bf]at h;subst h;exact⟨rfl,rfl⟩
def am0{P:Program}{G:Nat->Option (List aa)}{σ:aQ}{p:Id}{op:dY dO}(a:op.pure=true){t:List aa}{r:bR}(h:nO P G σ p (op.map (m6 G t)) r):r.rd=[]/\r.up=[]:=by cases op<;>simp only[dY.pure,iz]at a<;>simp only[en,nO,ck]at h;all_goals first|exact Dr h|(simp at h;done)|(split at h<;>first|exact Dr h|(simp at h;done)|(split at h<;>first|exact Dr h|(simp at h;done)))
def ajB{P:Program}{G:Nat->Option (List aa)}{σ:aQ}{p:Id}{op:dY dO}(c:op.sN=true){t:List aa}{r:bR}(h:nO P G σ p (op.map (m6 G t)) r):r.up=[]:=by
 cases op<;>simp only[dY.sN,iz]at c;case tM=>simp only[en,nO,ck]at h;unfold Eu at h;split at h;simp only[eI]at h;obtain⟨v,_,rfl⟩:=h;rfl;simp at h
 case nC=>simp only[en,nO,ck]at h;unfold Ez at h;split at h;split at h;simp at h;split at h;split at h;cases h;rfl;simp at h;simp at h;simp at h
 case slice=>simp only[en,nO,ck]at h;unfold pF at h;split at h;exact(Dr h).2;split at h;split at h;split at h;simp only[eI]at h;obtain⟨v,_,rfl⟩:=h;rfl;simp at h;simp at h;split at h;split at h;split at h;cases h;rfl;simp at h;simp at h;simp at h;simp at h
 case cap=>simp only[en,nO,ck]at h;unfold Ew at h;split at h;exact(Dr h).2;split at h;split at h;split at h;cases h;rfl;simp at h;simp at h;simp at h
 simp only[en,nO,ck]at h;unfold lg at h;split at h;split at h;split at h;simp only[eI]at h;obtain⟨v,_,rfl⟩:=h;rfl;simp at h;simp at h;simp only[eI]at h;obtain⟨v,_,rfl⟩:=h;rfl;simp at h
def L1{X Y:Nat->Bool}:∀(L:List Done)(i:Nat)(t:List aa),(∀k,k<L.length->X (i+k)=Y (i+k))->fj X L i t=fj Y L i t|[],_,_,_=>rfl|(d,r)::L,i,t,h=>by simp only[fj];have a:=h 0 am;rw[j7]at a;rw[a];exact L1 L (i+1) _ (λ k b=>by rw[show i+1+k=i+(k+1)from ac];exact h (k+1) (by simpa using b))
def LZ{X Y:Nat->Bool}:∀(L:List Done)(i:Nat)(σ:aQ),(∀k,k<L.length->X (i+k)=Y (i+k))->fW X L i σ=fW Y L i σ|[],_,_,_=>rfl|(d,r)::L,i,t,h=>by simp only[fW];have a:=h 0 am;rw[j7]at a;rw[a];exact LZ L (i+1) _ (λ k b=>by rw[show i+1+k=i+(k+1)from ac];exact h (k+1) (by simpa using b))
def Se{X Y:Nat->Bool}{i:Nat}(d:X i=false)(e:Y i=true)(b:∀k,X k=true->Y k=true):∀(l:List Nat),i∈l->l.countP X<l.countP Y|[],h=>by simp at h|a::l,h=>by have g:l.countP X<=l.countP Y:=List.countP_mono_left λ x _ f=>b x f;simp only[aaF];rcases cp.1 h with rfl|h;simp[d,e];omega;have:=Se d e b l h;by_cases c:X a=true;simp[c,b a c];omega;simp[c];split<;>omega
def Sd{X:Nat->Bool}:∀(l:List Nat),l.length<=l.countP X->∀i∈l,X i=true|[],_,i,h=>by simp at h|a::l,c,i,h=>by have d:=List.countP_le_length (p:=X) (l:=l);simp only[aaF,fU]at c;by_cases b:X a=true;simp only[b,if_true]at c;rcases cp.1 h with rfl|h;exact b;exact Sd l ac i h;simp[b]at c;omega
end
section
variable{P:Program}{G:Nat->Option (List aa)}{own:Nat->Prop}
def VF{n i j:Nat}(a:i<j)(b:j<n):(i,j)∈FZ n:=by unfold FZ;rw[g3];exact⟨j,cb.2 b,bd.2 ⟨i,cb.2 a,rfl⟩⟩
structure KQ(G:Nat->Option (List aa))(π:Id)(own:Nat->Prop)(L:List Done)(base n:Nat)(t0:List aa)(pT:aQ)(a0:Act)(jR:Env)(w0:World)(X:Nat->Bool)(E:Env)(w:World)(a:Act):Prop where
 frame:gC E w (fj X L 0 t0) a
 inv:Inv G own E w (fW X L 0 pT)jo:g4 own π jR E w0 w
 free:∀i,i<n->X i=false->∀j,((base+i)::π)<:+j->E.μ j=none
 more:mB E π (base+n)defers:a.defers=a0.defers
def amz{ops:Array Oper}{vs:List dT}(zR:ops.toList.mapM (sw P ops)=some vs)(Mx:Ih vs (ops.toList.map sV)=true){π:Id}{N:Nat}{C:List aa}{I:aQ}{M:List bR}(ahA:M.length=vs.length)(hst:∀k o r,vs[k]?=some o->M[k]?=some r->Jf P G π N o (0+k) (fj (λ m=>m<0+k) ((vs.map (·.dst)).zip M) 0 C) (fW (λ m=>m<0+k) ((vs.map (·.dst)).zip M) 0 I) r)(Mh:B6 M (GK vs (ops.toList.map sV))){a0:Act}{jR:Env}{w0:World}{Q:Exit->Act->World->Prop}(TS:∀a E w,KQ G π own ((vs.map (·.dst)).zip M) N ops.size C I a0 jR w0 (λ _=>true) E w a->Q .normal a w):∀(fuel:Nat)(c:Array Bool)(a:Act)(E:Env)(w:World),c.size=ops.size->ops.size<=(aR ops.size).countP (λ i=>c.getD i false)+fuel->(∀k,k<ops.size->c.getD k false=true->∀e∈(ops.toList.map sV).getD k [],c.getD e false=true)->KQ G π own ((vs.map (·.dst)).zip M) N ops.size C I a0 jR w0 (λ i=>c.getD i false) E w a->wpAny P .any ops Q fuel c a w:=by
 have Un:vs.length=ops.size:=by have:=vG zR;simpa using this
 generalize bw:(vs.map (·.dst)).zip M=L at*;have atA:L.length=ops.size:=by rw[<-bw];simp[ahA,Un]
 have J:∀(k:Nat)(d:Option Nat)(r:bR),L[k]?=some (d,r)↔∃o:dT,vs[k]?=some o/\o.dst=d/\M[k]?=some r:=by intro k d r;rw[<-bw,List.getElem?_zip_eq_some];simp only[kv,eI];constructor;rintro⟨⟨o,h1,h2⟩,z⟩;exact⟨o,h1,h2,z⟩;rintro⟨o,h1,h2,z⟩;exact⟨⟨o,h1,h2⟩,z⟩
 generalize Uc:ops.toList.map sV=B at*;have atL:B.length=ops.size:=by rw[<-Uc];simp
 unfold Ih at Mx;simp only[gj,ek]at Mx;obtain⟨⟨_,hlt⟩,agS⟩:=Mx;have Mt:∀j,j<ops.size->∀e∈B.getD j [],e<j:=by intro j hj e he;have:=hlt j (cb.2 (by rw[Un];exact hj)) e he;simpa using this
 have CJ:∀(i j:Nat)(a b:dT),i<j->vs[i]?=some a->vs[j]?=some b->vh a b=true->((iF B []).getD j 0).testBit i=true:=by intro i j a b CM ha hb hc;have hj:j<vs.length:=(fl.1 hb).1;have:=agS (i,j) (VF CM hj);simp only[ha,hb,hc,Bool.not_true,Bool.false_or]at this;exact this
 have O:∀(i j:Nat)(a b:dT),i<j->vs[i]?=some a->vs[j]?=some b->a.op.pure=false->b.op.pure=false->(a.op.sN&&b.op.sN)=false->((iF B []).getD j 0).testBit i=false->∀(x y:bR),M[i]?=some x->M[j]?=some y->apart x y:=by intro i j a b CM ha hb aht ahu ahd A x y hx hy;have hj:j<vs.length:=(fl.1 hb).1;refine Mh (i,j) ?_ x y hx hy;unfold GK;rw[iU];exact⟨VF CM hj,by simp only[ha,hb,aht,ahu,ahd,A];rfl⟩
 have K:∀(k:Nat)(o:dT)(r:bR),vs[k]?=some o->M[k]?=some r->(r.rd≠[]\/r.up≠[])->o.op.pure=false:=by intro k o r ho hr g;cases hp:o.op.pure with|false=>rfl|true=>rcases hst k o r ho hr with⟨_,rfl⟩|⟨_,hs⟩;simp at g;obtain⟨h1,h2⟩:=am0 hp hs;simp[h1,h2]at g
 have Wi:∀(k:Nat)(o:dT)(r:bR),vs[k]?=some o->M[k]?=some r->r.up≠[]->o.op.sN=false:=by intro k o r ho hr g;cases hp:o.op.sN with|false=>rfl|true=>rcases hst k o r ho hr with⟨_,rfl⟩|⟨_,hs⟩;simp at g;exact absurd (ajB hp hs) g
 intro fuel;induction fuel with|zero=>
   intro c a E w Ms T1 zK A;have F:∀i,i<ops.size->c.getD i false=true:=by intro i hi;have:=Sd (X:=λ i=>c.getD i false) (aR ops.size) (by simpa using T1) i (cb.2 hi);exact this
   refine⟨?_,TS a E w ?_⟩;apply List.eq_nil_iff_forall_not_mem.2;intro j hj;obtain⟨h1,o,h2,_⟩:=mem_ready.1 hj;have rk:j<ops.size:=(yw.1 h2).1;have:=F j rk;rw[tv]at h1 this;cases cf:c[j]? with|none=>simp[cf]at this|some b=>simp[cf]at h1 this;simp[h1]at this
   have e1:fj (λ i=>c.getD i false) L 0 C=fj (λ _=>true) L 0 C:=L1 L 0 C (λ k t=>by rw[cI];exact F k ac);have e2:fW (λ i=>c.getD i false) L 0 I=fW (λ _=>true) L 0 I:=LZ L 0 I (λ k t=>by rw[cI];exact F k ac);exact⟨e1▸A.frame,e2▸A.inv,A.jo,am,A.more,A.defers⟩|succ fuel ih=>
   intro c a E w Ms T1 zK A;have TE:∀i,i<ops.size->c.getD i true=c.getD i false:=by intro i hi;rw[tv,tv,Array.getElem?_eq_getElem ac];rfl
   have Wy:∀(j:Nat)(o:Oper),ops[j]?=some o->B.getD j []=sV o:=by intro j o ho;rw[<-Uc];have hj:j<ops.size:=(yw.1 ho).1;have he:ops[j]=o:=(yw.1 ho).2;simp[Bo,hj,he]
   refine⟨?_,?_⟩
   · intro ahq;have F:∀i,i<ops.size->c.getD i false=true:=by intro i;induction i using yv with|_ i aib=>intro hi;cases cf:c.getD i false with|true=>rfl|false=>
           exfalso;have u:i∈Region.ready .any ops c:=by
             refine mem_ready.2 ⟨(TE i hi).trans cf,ops[i],by simp[hi],?_⟩;intro e he hb;have ahh:e.on∈B.getD i []:=by rw[Wy i ops[i] (by simp[hi])];unfold sV;exact bd.2 ⟨e,iU.2 ⟨by simpa using he,hb⟩,rfl⟩
             have:=Mt i hi e.on ahh;exact aib e.on this ac
           rw[ahq]at u;simp at u
     have e1:fj (λ i=>c.getD i false) L 0 C=fj (λ _=>true) L 0 C:=L1 L 0 C (λ k t=>by rw[cI];exact F k ac);have e2:fW (λ i=>c.getD i false) L 0 I=fW (λ _=>true) L 0 I:=LZ L 0 I (λ k t=>by rw[cI];exact F k ac);exact TS a E w ⟨e1▸A.frame,e2▸A.inv,A.jo,am,A.more,A.defers⟩
   intro j hj;obtain⟨h1,o,ho,agY⟩:=mem_ready.1 hj;have CN:j<ops.size:=(yw.1 ho).1;have zJ:c.getD j false=false:=(TE j CN).symm.trans h1;generalize Hc:(λ i=>c.getD i false)=X at*;have Me:∀i,c.getD i false=X i:=λ i=>by rw[<-Hc]
   simp only[Me]at zK zJ;have Hk:∀e∈B.getD j [],X e=true:=by intro e he;rw[Wy j o ho]at he;unfold sV at he;obtain⟨ed,agX,rfl⟩:=bd.1 he;obtain⟨z,h4⟩:=iU.1 agX;rw[<-Me];exact agY ed (by simpa using z) h4
   have pre:∀i,((iF B []).getD j 0).testBit i=true->X i=true:=VB Mt zK j CN Hk;have post:∀k,k<ops.size->X k=true->((iF B []).getD k 0).testBit j=false:=by intro k t f;cases hb:((iF B []).getD k 0).testBit j with|false=>rfl|true=>have:=VB Mt zK k t (zK k t f) j hb;simp[zJ]at this
   have CS:∃p,vs[j]?=some p/\sw P ops o=some p:=by
     have T8:j<vs.length:=ac;obtain⟨o',z,h4⟩:=mapM_some_get zR j vs[j] (by simp[T8]);have:o'=o:=by
       have kg:ops.toList[j]?=some o:=by simpa using ho
       rw[kg]at z;simpa using z.symm
     subst this;exact⟨vs[j],by simp[T8],h4⟩
   obtain⟨p,n,CS⟩:=CS;obtain⟨hop,T3⟩:=RG CS;have ahz:j<M.length:=ac;obtain⟨r,hr⟩:∃r,M[j]?=some r:=⟨M[j],by simp[ahz]⟩;have Uf:=hst j p r n hr;rw[cI]at Uf;have slot:∀s∈p.names,(fj X L 0 C)[s]?=(fj (λ m=>m<j) L 0 C)[s]?:=by
     intro s hs;refine GJ L 0 C C rfl ?_;intro k d H t g Mj;rw[cI]at g;obtain⟨ok,z,h4,kg⟩:=(J k d H).1 t;subst Mj;have R:k<ops.size:=by have:=(fl.1 z).1;omega
     rcases wm k j with l|rfl|CL;have f:X k=false:=by cases cf:X k with|false=>rfl|true=>simp[cf,l]at g
     have hc:vh ok p=true:=by unfold vh;simp[h4,hs]
     have:=pre k (CJ k j ok p l z n hc);simp[f]at this;simp[zJ]at g;have f:X k=true:=by cases cf:X k with|true=>rfl|false=>simp[cf,Nat.not_lt.2 (Nat.le_of_lt CL)]at g
     have hc:vh p ok=true:=by unfold vh;simp[h4,hs]
     have:=CJ j k p ok CL n z hc;rw[post k R f]at this;simp at this
   have ahg:p.op.map (m6 G (fj X L 0 C))=p.op.map (m6 G (fj (λ m=>m<j) L 0 C)):=by refine dY.map_congr _ λ x hx=>aft x λ s hs=>slot s ?_;unfold dT.names;exact List.mem_append_left _ (List.mem_filterMap.2 ⟨x,hx,hs⟩)
   have Uo:oP (fj X L 0 C) p.guard=oP (fj (λ m=>m<j) L 0 C) p.guard:=by cases hg:p.guard with|none=>rfl|some q=>obtain⟨s,want⟩:=q;have:=slot s (by unfold dT.names;simp[hg]);simp only[oP,this]
   have MB:∀id∈r.rd,fW X L 0 I id=fW (λ m=>m<j) L 0 I id:=by
     intro id ei;refine GI L 0 I I rfl ?_;intro k d H t g u;rw[cI]at g;obtain⟨ok,z,h4,kg⟩:=(J k d H).1 t;have R:k<ops.size:=by have:=(fl.1 z).1;omega
     have Hm:ok.op.pure=false:=K k ok H z kg (.inr (by intro e;simp[e]at u));have Hl:p.op.pure=false:=K j p r n hr (.inl (by intro e;simp[e]at ei));have Ua:ok.op.sN=false:=Wi k ok H z kg (by intro e;simp[e]at u);obtain⟨x,hx,rfl⟩:=bd.1 u;rcases wm k j with l|rfl|CL;have f:X k=false:=by cases cf:X k with|false=>rfl|true=>simp[cf,l]at g
     have hb:((iF B []).getD j 0).testBit k=false:=by cases hb:((iF B []).getD j 0).testBit k with|false=>rfl|true=>have:=pre k hb;simp[f]at this
     exact((O k j ok p l z n Hm Hl (by simp[Ua]) hb H r kg hr).1 x hx).1 ei;simp[zJ]at g;have f:X k=true:=by cases cf:X k with|true=>rfl|false=>simp[cf,Nat.not_lt.2 (Nat.le_of_lt CL)]at g
     exact(O j k p ok CL n z Hl Hm (by simp[Ua]) (post k R f) r H hr kg).2 x hx ei
   generalize agH:(λ i=>if i=j then true else X i)=tE at*;have D:∀i,tE i=if i=j then true else X i:=λ i=>by rw[<-agH]
   have later:∀(k:Nat)(d:Option Nat)(H:bR),L[k]?=some (d,H)->j<k->tE k=true->∃ok:dT,vs[k]?=some ok/\ok.dst=d/\M[k]?=some H/\k<ops.size/\X k=true:=by intro k d H t l f;obtain⟨ok,z,h4,kg⟩:=(J k d H).1 t;refine⟨ok,z,h4,kg,by have:=(fl.1 z).1;omega,?_⟩;rw[D]at f;simpa[show k≠j from ac]using f
   have G4:L[j]?=some (p.dst,r):=(J j _ _).2 ⟨p,n,rfl,hr⟩;have YV:iq (fj X L 0 C) p.dst r.val=fj tE L 0 C:=by
     apply List.ext_getElem?;intro s;rw[Az];by_cases hd:p.dst=some s;rw[if_pos hd];rw[Tf L 0 j C (by rw[G4,hd]) (by rw[cI,D];simp) ?_,Tg];intro k d H t l f Mj;rw[cI]at f;obtain⟨ok,z,h4,kg,R,MF⟩:=later k d H t l f;have hc:vh p ok=true:=by unfold vh;simp[hd,h4,Mj]
     have:=CJ j k p ok l n z hc;rw[post k R MF]at this;simp at this;rw[if_neg hd];refine GJ L 0 C C rfl ?_;intro k d H t g;rw[cI,D]at g;have vv:k=j:=by apply oQ;intro h;simp[h]at g
     subst vv;rw[G4]at t;simp only[bf,c5]at t;rw[<-t.1];exact hd
   have XV:(fW X L 0 I).app r.up=fW tE L 0 I:=by
     funext id;by_cases u:id∈r.up.map (·.1);symm;refine Te L 0 j I G4 (by rw[cI,D];simp) u ?_;intro k d H t l f T7;rw[cI]at f;obtain⟨ok,z,h4,kg,R,MF⟩:=later k d H t l f;have Hm:ok.op.pure=false:=K k ok H z kg (.inr (by intro e;simp[e]at T7));have Hl:p.op.pure=false:=K j p r n hr (.inr (by intro e;simp[e]at u));have ahc:p.op.sN=false:=Wi j p r n hr (by intro e;simp[e]at u);obtain⟨x,hx,rfl⟩:=bd.1 u;exact((O j k p ok l n z Hl Hm (by simp[ahc]) (post k R MF) r H hr kg).1 x hx).2 T7;rw[aQ.F1 u];refine GI L 0 I I rfl ?_;intro k d H t g;rw[cI,D]at g;have vv:k=j:=by apply oQ;intro h;simp[h]at g
     subst vv;rw[G4]at t;simp only[bf,c5]at t;rw[<-t.2];exact u
   have fX:∀i,(c.setIfInBounds j true).getD i false=tE i:=by intro i;rw[D];by_cases e:i=j;subst e;rw[tv];simp[Ms,CN];rw[if_neg e,getD_set_ne false (λ h=>e h.symm),Me]
   have go:∀(a':Act)(E':Env)(w':World),gC E' w' (fj tE L 0 C) a'->Inv G own E' w' (fW tE L 0 I)->g4 own π E E' w w'->(∀i:Id,¬((N+j)::π)<:+i->E'.μ i=E.μ i)->a'.defers=a.defers->wpAny P .any ops Q fuel (c.setIfInBounds j true) a' w':=by
     intro a' E' w' ag0 hP had T6 agV;have T4:(λ i=>(c.setIfInBounds j true).getD i false)=tE:=funext fX;refine ih _ a' E' w' (by simpa using Ms) ?_ ?_ ?_;rw[T4];have:=Se (X:=X) (Y:=tE) (i:=j) zJ (by rw[D];simp) (λ k t=>by rw[D];split<;>simp[t]) (aR ops.size) (cb.2 CN);omega;intro k t f e he;rw[fX]at f⊢;rw[D]at f⊢;split;rfl;by_cases vv:k=j;subst vv;exact Hk e he;rw[if_neg vv]at f;exact zK k t f e he;rw[T4];refine⟨ag0,hP,A.jo.trans had,?_,?_,agV.trans A.defers⟩;intro i hi Hp j';rw[D]at Hp;have CM:i≠j:=by rintro rfl;simp at Hp
     rw[if_neg CM]at Hp;intro hj';rw[T6 _ (Zo hj' ac)];exact A.free i hi Hp j' hj';intro j' hj' hq;rw[T6 _ (hq (N+j) ac)];exact A.more j' hj' hq
   unfold wpOp;rw[ho];simp only[];rcases Uf with⟨ahL,rfl⟩|⟨ahM,Uh⟩;rw[JL CS A.frame (Uo.trans ahL)];simp only[iz,if_false];refine go _ E w ?_ ?_ (g4.refl own π E w) (λ _ _=>rfl) (ID _ _ _);rw[<-YV,<-T3];exact Zn A.frame _;rw[<-XV];exact A.inv;rw[JL CS A.frame (Uo.trans ahM)];simp only[if_true];left;rw[<-ahg]at Uh;refine YK A.inv (A.free j CN zJ) A.frame hop (apX Uh MB) ?_;intro v w' E' hp;refine go _ E' w' ?_ ?_ hp.Rf hp.ids (ID _ _ _);rw[<-YV,<-T3];exact hp.frame A.frame _;rw[<-XV];exact hp.inv
inductive cn where|normal|exit(id:Nat)|ret
def cn.real:cn->Exit|.normal=>.normal|.exit id=>.exit id|.ret=>.ret
structure dD where
 t:List aa
 σ:aQ
 n:Nat
structure pX(G:Nat->Option (List aa))(π:Id)(own:Nat->Prop)(E:Env)(w:World)(s:dD)(a:Act):Prop where
 frame:gC E w s.t a
 inv:Inv G own E w s.σ
 free:mB E π s.n
 defers:a.defers=[]
def bN(G:Nat->Option (List aa))(π:Id)(s s':dD):Prop:=∀own E w a,pX G π own E w s a->∃E',g4 own π E E' w w/\pX G π own E' w s' a
def bA(P:Program)(G:Nat->Option (List aa))(π:Id)(eL:cD)(Q:cn->dD->Prop)(s:dD):Prop:=∀c,gF P c=some eL->∀own E w a(R:Exit->Act->World->Prop),pX G π own E w s a->(∀e s' E' w' a',Q e s'->g4 own π E E' w w'->pX G π own E' w' s' a'->R e.real a' w')->c.wp P R a w
end
section
variable{P:Program}{G:Nat->Option (List aa)}{π:Id}{Q:cn->dD->Prop}{s:dD}
def bN.refl(G:Nat->Option (List aa))(π:Id)(s:dD):bN G π s s:=λ own E w _ h=>⟨E,g4.refl own π E w,h⟩
def bN.trans{s s' b:dD}(h:bN G π s s')(k:bN G π s' b):bN G π s b:=λ own E w a c=>by have⟨j,g,f⟩:=h own E w a c;have⟨e,d,i⟩:=k own j w a f;exact⟨e,g.trans d,i⟩
def bA.hZ{eL:cD}{s':dD}(h:bN G π s s')(k:bA P G π eL Q s'):bA P G π eL Q s:=by intro c n own E w a R b p;have⟨j,q,o⟩:=h own E w a b;exact k c n own j w a R o λ e i m r l d g f=>p e i m r l d (q.trans g) f
def bA.mono{eL:cD}{Q':cn->dD->Prop}(h:bA P G π eL Q s)(g:∀e s,Q e s->Q' e s):bA P G π eL Q' s:=λ c k own E w a R f l=>h c k own E w a R f λ e d j m i b=>l e d j m i (g e d b)
def bA.skip(h:Q .normal s):bA P G π .skip Q s:=by intro c b own E w a R d e;cases c<;>simp only[gF,bf,reduceCtorEq]at b;exact wp_skip (e .normal s E w a h (g4.refl own π E w) d);exfalso;revert b;unfold p9;(repeat' split)<;>simp;all_goals(exfalso;revert b;(repeat' split)<;>simp)
def RF{c:Code}{g:Option (List (Nat×Nat))}{vs:List dT}(b:gF P c=some (.mR g vs)):∃id ops a,c=.region id ops a/\ops.toList.mapM (sw P ops)=some vs/\((a=false/\g=none)\/(a=true/\g=some (GK vs (ops.toList.map sV))/\Ih vs (ops.toList.map sV)=true/\P.follows .mixedOrders=true)):=by cases c with
 |region id ops a=>simp only[gF,p9]at b;cases d:ops.toList.mapM (sw P ops)with|none=>simp[d]at b|some h=>simp only[d]at b;split at b;rename_i hd;split at b;rename_i f;simp only[bf,cD.mR.injEq]at b;have⟨rfl,rfl⟩:=b;simp only[gj]at f;exact⟨id,ops,a,rfl,d,.inr ⟨hd,rfl,f.1,f.2⟩⟩;simp at b;rename_i hd;simp only[bf,cD.mR.injEq]at b;have⟨rfl,rfl⟩:=b;exact⟨id,ops,a,rfl,d,.inl ⟨by simpa using hd,rfl⟩⟩
 |_=>exfalso;revert b;simp only[gF];(repeat' split)<;>simp
def bA.X1{vs:List dT}(h:rW P G π s.n (λ t σ=>Q .normal ⟨t,σ,s.n+vs.length⟩) vs 0 s.t s.σ):bA P G π (.mR none vs) Q s:=by
 intro c o own E w a R e v;obtain⟨id,ops,b,rfl,d,g⟩:=RF o;have hd:b=false:=by rcases g with⟨h,_⟩|⟨_,h,_⟩;exact h;simp at h
 subst hd;have r:ops.toList.length=vs.length:=(vG d).symm;refine wp_region ?_;have:=ZV (P:=P) (G:=G) (own:=own) (ops:=ops) (Q:=R) ops.toList 0 (λ k=>am) vs d s.t s.σ a E w h e.frame e.inv e.free (by intro l q a' E' w' p f u m i j;refine v .normal ⟨l,q,s.n+vs.length⟩ E' w' a' p f ⟨u,m,by have h:=i;simp only[j7,r]at h;exact h,j.trans e.defers⟩);rw[List.range_eq_range'];simpa using this
def bA.WL{v:List (Nat×Nat)}{vs:List dT}(h:qH P G π s.n (λ g t σ=>B6 g v/\Q .normal ⟨t,σ,s.n+vs.length⟩) vs 0 [] s.t s.σ):bA P G π (.mR (some v) vs) Q s:=by
 intro c B own E w a R f F;obtain⟨id,ops,y,rfl,e,p⟩:=RF B;rcases p with⟨_,I⟩|⟨hd,m,l,q⟩;simp at I;subst hd;simp only[bf]at m;have D:vs.length=ops.size:=by have:=vG e;simpa using this
 have⟨g,r,o,u,H⟩:=ZU h;refine wp_region_any q ?_;have d:KQ G π own ((vs.map (·.dst)).zip g) s.n ops.size s.t s.σ a E w (λ i=>(wo ops.size false).getD i false) E w.drew a:=by
   have x:∀i,(wo ops.size false).getD i false=false:=by intro i;rw[tv];simp[Array.getElem?_replicate];split<;>rfl
   have K:fj (λ i=>(wo ops.size false).getD i false) ((vs.map (·.dst)).zip g) 0 s.t=s.t:=L3 _ _ _ λ k _=>x _;have A:fW (λ i=>(wo ops.size false).getD i false) ((vs.map (·.dst)).zip g) 0 s.σ=s.σ:=L0 _ _ _ λ k _=>x _;exact⟨by rw[K];exact f.frame.keep (Adv.drew (own:=own) E w).step,by rw[A];exact f.inv.drew,⟨Adv.drew E w,λ _ _=>rfl⟩,λ i _ _ j C=>f.free.at ac C,f.free.mono ac,rfl⟩
 refine amz e l r o (by rw[<-m];simpa using u) (Q:=R) (a0:=a) (jR:=E) (w0:=w) ?_ ops.size (wo ops.size false) a E w.drew am am ?_ d;intro a' E' w' b;refine F .normal _ E' w' a' H b.jo ⟨b.frame,b.inv,by rw[D];exact b.more,b.defers.trans f.defers⟩;intro k J z;rw[tv]at z;simp[J]at z
def bA.seq{x y:cD}(h:bA P G π x (λ e s'=>match e with|.normal=>bA P G π y Q s'|e=>Q e s') s):bA P G π (.seq x y) Q s:=by
 intro c b own E w a R t l;cases c<;>simp only[gF,bf,reduceCtorEq]at b;case seq q r=>cases h1:gF P q with|none=>simp[h1]at b|some hH=>cases o:gF P r with|none=>simp[h1,o]at b|some qE=>simp only[h1,o,bf,cD.seq.injEq]at b;obtain⟨rfl,rfl⟩:=b;refine wp_seq (h q h1 own E w a _ t ?_);intro e s' E' w' a' m f d;cases e with|normal=>exact m r o own E' w' a' R d λ e2 u BX yn oa k j n=>l e2 u BX yn oa k (f.trans j) n|exit id=>exact l (.exit id) s' E' w' a' m f d|ret=>exact l .ret s' E' w' a' m f d
 case region=>exfalso;revert b;unfold p9;(repeat' split)<;>simp
 all_goals(exfalso;revert b;(repeat' split)<;>simp)
def bA.cond{eL:dO}{x y:cD}{b:Bool}(hb:eL.ev G s.t=.bool b)(h:if b then bA P G π x Q s else bA P G π y Q s):bA P G π (.cond eL x y) Q s:=by
 intro c d own E w a R g l;cases c<;>simp only[gF,bf,reduceCtorEq]at d;case cond o m k=>cases e:ca o with|none=>simp[e]at d|some n=>cases h1:gF P m with|none=>simp[e,h1]at d|some hH=>cases i:gF P k with|none=>simp[e,h1,i]at d|some qE=>simp only[e,h1,i,bf,cD.cond.injEq]at d;have⟨rfl,rfl,rfl⟩:=d;have j:=dp g.frame g.inv e;rw[hb]at j;simp only[ax]at j;refine wp_cond j ?_;cases b with|true=>simp only[if_true]at h⊢;exact h m h1 own E w a R g l|false=>simp only[iz,if_false]at h⊢;exact h k i own E w a R g l
 case region=>exfalso;revert d;unfold p9;(repeat' split)<;>simp
 all_goals(exfalso;revert d;(repeat' split)<;>simp)
def bA.aeD{eL:dO}{x y:cD}(hb:eL.ev G s.t=.j9)(h1:bA P G π x Q s)(n:bA P G π y Q s):bA P G π (.cond eL x y) Q s:=by
 intro c d own E w a R g l;cases c<;>simp only[gF,bf,reduceCtorEq]at d;case cond p m k=>cases e:ca p with|none=>simp[e]at d|some o=>cases h:gF P m with|none=>simp[e,h]at d|some hH=>cases j:gF P k with|none=>simp[e,h,j]at d|some qE=>simp only[e,h,j,bf,cD.cond.injEq]at d;have⟨rfl,rfl,rfl⟩:=d;have f:=dp g.frame g.inv e;rw[hb]at f;simp only[ax]at f;have⟨b,f⟩:=f;refine wp_cond f ?_;cases b with|true=>exact h1 m h own E w a R g l|false=>exact n k j own E w a R g l
 case region=>exfalso;revert d;unfold p9;(repeat' split)<;>simp
 all_goals(exfalso;revert d;(repeat' split)<;>simp)
def bA.block{id:Nat}{x:cD}(h:bA P G π x (λ e s'=>match e with|.exit i=>if i=id then Q .normal s' else Q (.exit i) s'|e=>Q e s') s):bA P G π (.block id x) Q s:=by
 intro c g own E w a R hm k;cases c<;>simp only[gF,bf,reduceCtorEq]at g;case block i q=>cases h1:gF P q with|none=>simp[h1]at g|some qE=>simp only[h1,fk,bf,cD.block.injEq]at g;obtain⟨rfl,rfl⟩:=g;refine wp_block (h q h1 own E w a _ hm ?_);intro e s' E' w' a' f d b;cases e with|normal=>exact k .normal s' E' w' a' f d b|exit j=>simp only[cn.real,Exit.inBlock];split;rename_i o;simp only[o,if_true]at f;exact k .normal s' E' w' a' f d b;rename_i o;simp only[o,if_false]at f;exact k (.exit j) s' E' w' a' f d b|ret=>exact k .ret s' E' w' a' f d b
 case region=>exfalso;revert g;unfold p9;(repeat' split)<;>simp
 all_goals(exfalso;revert g;(repeat' split)<;>simp)
def bA.exit{id:Nat}(h:Q (.exit id) s):bA P G π (.exit id) Q s:=by
 intro c b own E w a R f g;cases c<;>simp only[gF,bf,reduceCtorEq]at b;case exit i=>simp only[cD.exit.injEq]at b;subst b;exact wp_exit (g (.exit i) s E w a h (g4.refl own π E w) f)
 case region=>exfalso;revert b;unfold p9;(repeat' split)<;>simp
 all_goals(exfalso;revert b;(repeat' split)<;>simp)
def bA.ret(h:Q .ret s):bA P G π .ret Q s:=by
 intro c d own E w a R e f;cases c<;>simp only[gF,bf,reduceCtorEq]at d;case ret=>exact wp_ret (f .ret s E w a h (g4.refl own π E w) e)
 case region=>exfalso;revert d;unfold p9;(repeat' split)<;>simp
 all_goals(exfalso;revert d;(repeat' split)<;>simp)
def Z0{α:Type}{c:Code}{R:Exit->Act->World->Prop}(I:α->Act->World->Prop)(μ:α->Nat){x:α}{a:Act}{w:World}(D:I x a w)(g:∀x a w,I x a w->c.wp P (Exit.then (λ a' w'=>∃u,I u a' w'/\μ u<μ x) R) a w):(Code.loop c).wp P R a w:=by
 intro b k cs;have key:∀n x a w,μ x=n->I x a w->∃e a' w',R e a' w'/\Arrives P (lone (b.at a (.code c::.inLoop c::k)) cs w) b k cs e a' w':=by intro n;induction n using yv with|_ n z=>intro x a w B hI;obtain⟨e,j,i,f,d⟩:=g x a w hI b (.inLoop c::k) cs;cases e with|normal=>obtain⟨y,r,p⟩:=f;obtain⟨C,A,arV,q,h⟩:=z (μ y) (B▸p) y j i rfl r;exact⟨C,A,arV,q,.of_steps (Steps.trans d (.one step_inLoop)) h⟩|exit id=>exact⟨_,j,i,f,.pass (x:=.inLoop c) rfl (λ _ _=>.inl am) d⟩|goto l=>exact⟨_,j,i,f,.pass (x:=.inLoop c) rfl (λ _ _=>.inl am) d⟩|ret=>exact⟨_,j,i,f,.pass (x:=.inLoop c) rfl (λ _ _=>.inl am) d⟩|panic ch=>exact⟨_,j,i,f,.pass (x:=.inLoop c) rfl (λ _ _=>.inl am) d⟩|outgrown=>exact⟨_,j,i,f,.pass (x:=.inLoop c) rfl (λ _ _=>.inl am) d⟩
 obtain⟨e,a',w',f,d⟩:=key _ x a w rfl D;exact⟨e,a',w',f,.of_steps (.one step_loop) d⟩
def bA.loop{x:cD}(I:dD->Prop)(m:dD->Nat)(F:∃s',bN G π s s'/\I s')(h:∀s,I s->bA P G π x (λ e s'=>match e with|.normal=>∃g,bN G π s' g/\I g/\m g<m s|e=>Q e s') s):bA P G π (.loop x) Q s:=by
 obtain⟨L,v,y⟩:=F;refine bA.hZ v ?_;intro c i own E w a R hm z;cases c<;>simp only[gF,bf,reduceCtorEq]at i;case loop A=>cases h1:gF P A with|none=>simp[h1]at i|some qE=>simp only[h1,fk,bf,cD.loop.injEq]at i;subst i;refine Z0 (α:=dD) (λ s' a' w'=>I s'/\∃E',g4 own π E E' w w'/\pX G π own E' w' s' a') m (x:=L) ⟨y,E,g4.refl own π E w,hm⟩ ?_;rintro J H yn⟨t,BX,b,u⟩;refine h J t A h1 own BX yn H _ u ?_;intro e s' E' w' a' n f d;cases e with|normal=>obtain⟨D,o,r,q⟩:=n;obtain⟨K,l,p⟩:=o own E' w' a' d;exact⟨D,⟨r,K,(b.trans f).trans l,p⟩,q⟩|exit id=>exact z (.exit id) s' E' w' a' n (b.trans f) d|ret=>exact z .ret s' E' w' a' n (b.trans f) d
 case region=>exfalso;revert i;unfold p9;(repeat' split)<;>simp
 all_goals(exfalso;revert i;(repeat' split)<;>simp)
def Then(k:dD->Prop)(Q:cn->dD->Prop):cn->dD->Prop|.normal,s=>k s|.exit i,s=>Q (.exit i) s|.ret,s=>Q .ret s
def ab9(id:Nat)(Q:cn->dD->Prop):cn->dD->Prop|.normal,s=>Q .normal s|.exit i,s=>if i=id then Q .normal s else Q (.exit i) s|.ret,s=>Q .ret s
def rX(P:Program)(G:Nat->Option (List aa))(π:Id):cD->(cn->dD->Prop)->dD->Prop
 |.skip,Q,s=>Q .normal s|.mR none vs,Q,s=>rW P G π s.n (λ t σ=>Q .normal ⟨t,σ,s.n+vs.length⟩) vs 0 s.t s.σ|.mR (some d) vs,Q,s=>qH P G π s.n (λ a t σ=>B6 a d/\Q .normal ⟨t,σ,s.n+vs.length⟩) vs 0 [] s.t s.σ|.seq x y,Q,s=>rX P G π x (Then (rX P G π y Q) Q) s|.cond c x y,Q,s=>match c.ev G s.t with|.bool b=>if b then rX P G π x Q s else rX P G π y Q s|.j9=>rX P G π x Q s/\rX P G π y Q s|_=>False
 |.block id x,Q,s=>rX P G π x (ab9 id Q) s|.loop x,Q,s=>bA P G π (.loop x) Q s|.exit id,Q,s=>Q (.exit id) s|.ret,Q,s=>Q .ret s
def bA.of:∀{eL:cD}{Q:cn->dD->Prop}{s:dD},rX P G π eL Q s->bA P G π eL Q s
 |.skip,_,_,h=>bA.skip h|.mR none _,_,_,h=>bA.X1 h|.mR (some _) _,_,_,h=>bA.WL h|.seq x y,Q,s,h=>by refine bA.seq (bA.mono (bA.of (eL:=x) h) ?_);intro e s' d;cases e with|normal=>exact bA.of (eL:=y) d|exit id=>exact d|ret=>exact d
 |.cond c x y,Q,s,h=>by
   simp only[rX]at h;split at h;rename_i b hb;refine bA.cond hb ?_;cases b with|true=>exact bA.of (eL:=x) h|false=>exact bA.of (eL:=y) h
   rename_i hb;exact bA.aeD hb (bA.of (eL:=x) h.1) (bA.of (eL:=y) h.2);exact h.elim|.block id x,Q,s,h=>by refine bA.block (bA.mono (bA.of (eL:=x) h) ?_);intro e s' d;cases e with|normal=>exact d|exit i=>exact d|ret=>exact d
 |.loop x,Q,s,h=>h|.exit id,_,_,h=>bA.exit h|.ret,_,_,h=>bA.ret h
end
end Go.aA
