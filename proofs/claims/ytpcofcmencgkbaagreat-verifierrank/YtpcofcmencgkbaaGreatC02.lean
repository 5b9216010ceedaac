/- For the claim of VerifierRank: parts VL10, VL11, VL12, VL13, VL14, VL15, VL16. -/
import Derived.Test.YtpcofcmencgkbaaGreatC01
import Derived.Lib.AppendZeros
import Derived.Laws.BytesArg
import Derived.Laws.Externs
import Derived.Lib.Bytealg
import Derived.Lib.Overlaps
import Derived.Orders
set_option linter.defProp false
set_option linter.unusedSimpArgs false
set_option linter.unusedVariables false
set_option maxRecDepth 100000
open Array renaming ext'->nA,getD_eq_getD_getElem?->sL,getElem?_eq_some_iff->x2,replicate->vE
open Bool renaming and_eq_true->hJ,false_eq_true->jO
open ByteArray renaming mk->vS
open Classical renaming byContradiction->xZ
open Go.Builtin renaming append_->rp,cap_->Jr,clear_->EU,copy_->EW,firstCells->aad,lenOf->J2,len_->Ec,max_->YP,min_->YO,zeroCells->Bh
open Go.Conv renaming intToString->YQ
open Go.Deferred renaming ofValue->YI
open Go.Extern renaming allGenericRows->YJ,allNextRows->OU,allTypedRows->YK,find->Eb,findNext->Ea
open Go.Extern.BytealgIndexByte renaming indexByte->YL
open Go.Extern.SlicesOverlaps renaming overlaps->OT
open Go.Instr renaming sliceAt->rn
open Go.Region renaming wanted->OY
open Go.Result renaming andThen_ok->OX
open Go.Sem renaming run_bind->OW
open Go.Utf8 renaming encode->Js
open Go.aF.Adv renaming refl->sB
open Go.aF.Env renaming yD->ET,uN->J1
open Go.aF.av renaming cells->PI,keep->ux
open Go.aF.eE renaming keep->Bg
open Go.aF.bl renaming append->nK,len->EX
open Go.aF.Sound renaming MS->mQ,same->ga
open Go.aF.aL renaming app->l6,put->wa,nj->vZ,vn->Bf
open Go.aF.dD renaming ev->mP
open Go.aF.dK renaming map->dY
open Go.Value renaming bool->Jq
open Go.World renaming frozen?->YN,shape?->YM
open List renaming all_eq_true->eO,append_assoc->nC,countP_cons->YS,eq_of_mem_replicate->jA,getD->AJ,getElem?_append_left->kB,getElem?_append_right->kh,getElem?_cons_zero->sA,getElem?_eq_getElem->du,getElem?_eq_some_iff->eu,getElem?_map->iI,getElem?_set->xX,getElem?_toArray->Ep,length_append->cd,length_cons->e6,length_drop->l0,length_nil->jB,length_take->cZ,map_congr_left->p8,map_cons->hQ,mem_append->en,mem_cons->cr,mem_cons_of_mem->c5,mem_filter->kA,mem_flatMap->iK,mem_map->bn,mem_of_mem_take->gq,mem_range->cR,range->ba,replicate->bG,suffix_cons->YR,suffix_refl->yo
open Nat renaming add_zero->iL,le_refl->a4,lt_trichotomy->ub,mul_le_mul_right->c6,strongRecOn->xY,zero_add->c4
open Option renaming isSome_iff_exists->aae,map_eq_some_iff->ew,map_some->e5
open Option.some renaming injEq->a7
open Prod.mk renaming injEq->cY
open UInt8 renaming ofNat->OV
namespace Go.aF
section
variable {P:Program} {G:Nat->Option (List aa)} {own:Nat->Prop} {E:Env} {w:World} {σ : aL} {p:Id}
def al8 (u:Inv G own E w σ) (kn:E.μ p=none) (fJ : σ p=none) {id:Id} {au:aN} (dz : σ id=some au) (M:au.fr=false) {g N:Nat} {a:Array Value} {ty:TypeId} (d:px E own w id au g N a ty)
   {ys:List aa} (C:∀ e∈ys,e.size=au.k) {news:List Value} (hv:bl E w (flat ys) news) (r:au.els.length+ys.length<=N) {rd:List Id} :
   lJ G own E w σ p { val := .ai p au.k 0 (au.els.length+ys.length) false,rd:=rd,up:=[(id,none),(p,some ⟨au.els++ys,au.k,false⟩)] }
     (.slice (some ⟨g,0,none⟩) (au.els.length+ys.length) N) (E.bind p g au.k N)
     (w.setRow g (a.toList.take (au.els.length*au.k)++news++a.toList.drop (au.els.length*au.k+news.length)).toArray):=by
 have ⟨Y,X⟩:=fe.1 hv
 have L:=kL C
 have Q:=kL d.k
 have hle:au.els.length*au.k+news.length<=a.size:=by
   rw [Y,L,d.size, <- Nat.add_mul];exact c6 _ r
 generalize B:(a.toList.take (au.els.length*au.k)++news++a.toList.drop (au.els.length*au.k+news.length)).toArray=n
 have z:(w.setRow g n).heap[g]? = some (.cells n ty (0,0)):=setRow_heap w g a n ty _ d.heap
 have Z:id≠p:=by rintro rfl;simp [dz] at fJ
 have H:e7 E (E.bind p g au.k N) w (w.setRow g n) :=
   ⟨λ i x h=>by rw [ET];exact h;rintro rfl;simp [kn] at h, λ _ h=>h, λ b hb=>setRow_other w g b n (λ e=>d.no M (e▸hb))⟩
 have J:Adv own E (E.bind p g au.k N) w (w.setRow g n) :=
   ⟨H,rfl,rfl,rfl,by simp, λ k _ C=>setRow_other w g k n (λ e=>C (e▸d.own)), λ _ h => .inl h⟩
 have U:n.size=a.size:=by
   rw [<- B]
   simp only [List.size_toArray,cd,cZ,l0,Array.length_toList]
   omega
 refine ⟨J,⟨?_, ?_, ?_, ?_, ?_⟩, ?_, λ i l=>ET _ _ _ _ _ (λ e=>l (by rw [e];exact yo _))⟩
 intro b hb;simpa using u.hh b hb
 intro i W h
 simp only [l6] at h
 by_cases t:i=p
 subst t
 rw [Bf] at h
 cases h
 refine ⟨g,N,n,ty,J1 _ _ _ _ _,z,by rw [U];exact d.size,by simpa using r,d.most,d.own,by simp, λ _ hb=>d.no M hb, ?_, ?_⟩
 intro e Q
 rcases en.1 Q with h | h
 exact d.k e h
 exact C e h
 show ey _ _ g 0 (flat (au.els++ys))
 rw [yS]
 have q:∀ j,(w.setRow g n).cell? ⟨g,j,none⟩=n[j]? := λ j=>cell_of_row _ _ _ _ _ _ z
 have ht:(a.toList.take (au.els.length*au.k)).length=au.els.length*au.k:=by simp;omega
 refine Nj.2 ⟨λ j c R => ?_, λ j c R => ?_⟩
 have F:j<au.els.length*au.k:=by rw [<- Q];exact (eu.1 R).1
 have ⟨v,o,D⟩:=d.row j c R
 rw [c4,cell_of_row _ _ _ _ _ _ d.heap] at o
 refine ⟨v, ?_,ux H c v D⟩
 rw [c4,q, <- B]
 simp only [Ep,nC]
 rw [kB (by omega),List.getElem?_take_of_lt F]
 simpa using o
 have ⟨v,o,D⟩:=X j c R
 have F:j<news.length:=(eu.1 o).1
 refine ⟨v, ?_,ux H c v D⟩
 rw [c4,q, <- B,Q]
 simp only [Ep,nC]
 rw [kh (by omega),ht,Nat.add_sub_cancel_left,kB F]
 exact o
 rw [vZ _ _ _ t] at h
 by_cases m:i=id
 subst m;simp [wa] at h
 rw [vZ _ _ _ m] at h
 have ⟨I,oz,K,S,A⟩:=u.blk i W h
 have l:I≠g:=u.inj i id _ _ (by simp [h]) (by simp [dz]) m A.μ d.μ
 exact ⟨I,oz,K,S,A.keep H (setRow_other w g I n l) A.no⟩
 intro i j x y hx L l h1 s
 simp only [l6] at hx L
 have f:∀ i,i≠p->((σ.put id none).put p (some ⟨au.els++ys,au.k,false⟩)) i≠none->i≠id /\ σ i≠none:=by
   intro i e h
   rw [vZ _ _ _ e] at h
   have m:i≠id:=by rintro rfl;simp [wa] at h
   rw [vZ _ _ _ m] at h
   exact ⟨m,h⟩
 by_cases t:i=p
 have t:=t.symm
 subst t
 have m:j≠p := λ e=>l e.symm
 have ⟨T,O⟩:=f j m L
 rw [J1] at h1
 rw [ET _ _ _ _ _ m] at s
 have:=u.inj id j (g,au.k,N) y (by simp [dz]) O (λ e=>T e.symm) d.μ s
 simp only [a7] at h1
 rw [<- h1];exact this
 have ⟨T,O⟩:=f i t hx
 rw [ET _ _ _ _ _ t] at h1
 by_cases m:j=p
 subst m
 rw [J1] at s
 have:=u.inj i id x (g,au.k,N) O (by simp [dz]) T h1 d.μ
 simp only [a7] at s
 rw [<- s];exact this
 have ⟨jX,Gk⟩:=f j m L
 rw [ET _ _ _ _ _ m] at s
 exact u.inj i j x y O Gk l h1 s
 intro I cs V
 have ⟨h1,s⟩:=u.jH I cs V
 exact ⟨h1,Bg H.bare (H.same I h1) cs 0 s⟩
 intro k C;simp at C;exact u.new k C
 simp only [av]
 exact ⟨g,N,N,J1 _ _ _ _ _,by simp,r,by omega,d.most,by simp⟩
def PR (c:aa) (val:Value):Prop:=∀ E w,av E w c val
def Kk {ys:List aa} (h:(ys.all λ e=>e.cells.all aa.one)=true):∀ c∈flat ys,c.one=true:=by
 intro c b
 simp only [flat,iK] at b
 have ⟨e,d,a⟩:=b
 have:=eO.1 h e d
 exact eO.1 this c a
def V1 (t ty e o:TypeId) (i:TypeInfo) (q:P.underlying t=some (.slice e)) (r:P.info? e=some i)
   (g b d:Nat) (f:Array Value) (s:w.heap[g]? = some (.cells f o (0,0)))
   (a:Addr) (m c:Nat) (news:List Value) (v:news.length=m*i.size) (h:∀ j u,news[j]? = some u->w.cell? (a.add j)=some u) (h1:∀ u∈news,u.oneCell'=true)
   (k:b+m<=d) (n:b*i.size+news.length<=f.size) :
   (rp #[t,t] ty #[.slice (some ⟨g,0,none⟩) b d, .slice (some a) m c]).run P w =
     .ok (.slice (some ⟨g,0,none⟩) (b+m) d) (w.setRow g (f.toList.take (b*i.size)++news++f.toList.drop (b*i.size+news.length)).toArray):=by
 have x:=run_firstCells_some (P:=P) w i.size m a m c news v h
 have l:=run_storeCells_at P g (b*i.size) o news 0 f w s (by simpa using n) h1
 simp only [iL] at l
 simp [rp,run_underlying q,sizeOf,typeInfo,r,J2,k,x,Addr.add_lit,l]
def YF {z:aa} {g:Value} (y:bl E w z.cells g.cells.toList) (n:Nat) (A:0<z.size):bl E w (flat (bG n z)) (Bh g.cells n).toList:=by
 have ⟨s,h⟩:=fe.1 y
 have q:∀ e∈bG n z,e.size=z.size := λ e u=>by rw [jA u]
 have f:=kL q
 have o:g.cells.size=z.size:=by simpa [aa.size] using s
 refine fe.2 ⟨by rw [f];simp [Bh,o], λ j c m => ?_⟩
 have a:j<n*z.size:=by have:=(eu.1 m).1;rw [f] at this;simpa using this
 have k:j/z.size*z.size+j%z.size=j:=by rw [Nat.mul_comm];exact Nat.div_add_mod j z.size
 have d:=Nat.mod_lt j A
 have b:j/z.size<n:=Nat.div_lt_of_lt_mul (by rwa [Nat.mul_comm] at a)
 have r:=yT (i:=j/z.size) (e:=z) q (by simp [b]) d
 rw [k,m] at r
 have ⟨v,t,x⟩:=h (j%z.size) c r.symm
 refine ⟨v, ?_,x⟩
 have l:g.cells[j%z.size]? = some v:=by simpa using t
 simp only [Bh,Array.toList_map,Array.toList_range,iI,o,List.getElem?_range a,e5]
 rw [getElem!_def,l]
def UR (y:Inv G own E w σ) {id:Id} {off k len:Nat} {mK:Bool} {news:List aa} {v:aa} {rd:List Id} {r:bM} (h:tV σ id off k news v rd=some r) {a:Value} (u:av E w (.ai id k off len mK) a)
   (C:∀ e∈news,e.size=k) {vs:List Value} (x:bl E w (flat news) vs) {val:Value} (c:PR v val) :
   ∃ g cap,a = .slice (some ⟨g,off*k,none⟩) len cap/\∃ w',(storeCells ⟨g,off*k,none⟩ vs).run P w = .ok () w'/\lJ G own E w σ p r val E w':=by
 unfold tV at h
 split at h
 rename_i au dz
 split at h
 rename_i z
 have ⟨j,o,q,s⟩:=z
 cases h
 have ⟨g,N,t,n,m⟩:=y.blk id au dz
 simp only [av] at u
 obtain ⟨K,J,cap,b,rfl,A,B,I,H⟩:=u
 rw [m.μ] at b
 simp only [a7,cY] at b
 have ⟨rfl,_,rfl⟩:=b
 have ⟨i,l,f⟩:=WV y dz q m (e:=off) (news:=news) (vs:=vs) o (λ e F=>by rw [j];exact C e F) x
 have D:off*au.k=off*k:=by rw [j]
 rw [D] at i l f
 have d:=run_storeCells_at P g (off*k) n vs 0 t w m.heap (by simpa using i) (MU x (Kk s))
 simp only [iL] at d
 exact ⟨g,cap,rfl,_,d,l,f,c E _, λ _ _=>rfl⟩
 simp at h
 simp at h
def ach (j:Inv G own E w σ) {t e ty:TypeId} {z:aa} (hu:P.underlying t=some (.slice e)) (y:mO P e=some z) (c:0<z.size) {x:aa} {a:Value} (b:av E w x a) {r:bM} (h:I6 σ z.size z x=some r) :
   Sound P G own E w σ p (EU #[t] ty #[a]) r:=by
 have ⟨D,C,i,l,k,u,d⟩:=xW y
 have f:=PI (ta (E:=E) (w:=w) k) (tJ d)
 unfold I6 at h
 split at h
 cases h
 simp only [av] at b;subst b
 exact ga (v := .tuple #[]) j (by simp [EU,run_underlying hu]) (by simp only [av];exact ⟨#[],rfl,by simp [bl]⟩)
 rename_i id k' off len mK
 split at h
 rename_i o
 subst o
 cases h
 simp only [av] at b
 obtain ⟨F,H,cap,A,rfl,_⟩:=b
 exact ga (v := .tuple #[]) j (by simp [EU,run_underlying hu]) (by simp only [av];exact ⟨#[],rfl,by simp [bl]⟩)
 rename_i o
 split at h
 rename_i s
 obtain ⟨rfl,_⟩:=s
 obtain ⟨g,cap,rfl,w',n,q⟩:=UR (P:=P) (p:=p) (val := .tuple #[]) j h b (λ e B=>by rw [jA B]) (YF f len c) (λ E w=>by simp only [av];exact ⟨#[],rfl,by simp [bl]⟩)
 refine ⟨_,w',E, ?_,q⟩
 obtain ⟨m,rfl⟩:∃ m,len=m+1:=⟨len-1,by omega⟩
 simp [EU,run_underlying hu,YG i l,n]
 simp at h
 simp at h
def acA (v:Inv G own E w σ) {t t2 e ty:TypeId} {i:TypeInfo} (hu:P.underlying t=some (.slice e)) (q:P.info? e=some i) {d x:aa} {a b:Value} (hd:av E w d a) (Q:av E w x b) {r:bM} (h:I7 σ i.size d x=some r) :
   Sound P G own E w σ p (EW #[t,t2] ty #[a,b]) r:=by
 unfold I7 at h
 split at h
 simp at h
 rename_i ys rd D
 obtain ⟨k,K,c,rfl,R,o⟩:=FU v Q D
 have zero:∀ (F:Option Addr) (n cap:Nat),Nat.min ys.length n=0->(EW #[t,t2] ty #[.slice F n cap, .slice K ys.length c]).run P w = .ok (.int .i64 0) w:=by
   intro F n cap l
   cases F<;>cases K<;>simp [EW,run_underlying hu,nr q,J2,l,aad,loadCells,loadCellsFrom,storeCells,goInt]
 split at h
 cases h
 simp only [av] at hd;subst hd
 exact ga v (zero none 0 0 (by simp)) (by simp only [av])
 rename_i id k' off len mK
 split at h
 rename_i l
 cases h
 simp only [av] at hd
 obtain ⟨T,U,cap,N,rfl,_⟩:=hd
 have I:Nat.min ys.length len=0:=by
   have:=congrArg List.length (List.isEmpty_iff.1 l)
   simp only [cZ,jB] at this
   rw [Nat.min_comm] at this;exact this
 exact ga v (zero _ len cap I) (by simp only [av])
 rename_i l
 split at h
 rename_i O
 subst O
 have z:ys≠[]:=by rintro rfl;simp at l
 obtain ⟨C,J,rfl,A⟩:=o.resolve_left z
 have j:∀ e∈ys.take len,e.size=i.size := λ e S=>k e (gq S)
 have s:ey E w C J (flat (ys.take len)):=by
   rw [K9 k]
   exact (Nj.1 (by rw [List.take_append_drop];exact A:ey E w C J ((flat ys).take (len*i.size)++(flat ys).drop (len*i.size)))).1
 have ⟨news,u,H⟩:=On s
 have B:news.length=(ys.take len).length*i.size:=by rw [EX u,kL j]
 obtain ⟨g,cap,rfl,w',y,M⟩:=UR (P:=P) (p:=p) (val := .int .i64 (ys.take len).length) v h hd j u (λ E w=>by simp only [av])
 refine ⟨_,w',E, ?_,M⟩
 have f:Nat.min ys.length len=(ys.take len).length:=by rw [cZ,Nat.min_comm]
 have L:=run_firstCells_some (P:=P) w i.size (ys.take len).length ⟨C,J,none⟩ ys.length c news B H
 generalize (ys.take len).length=m at f L M ⊢
 simp [EW,run_underlying hu,nr q,J2,f,L,y,goInt]
 simp at h
 simp at h
def amN {d:Option TypeDesc} (h:NA d=true):∃ e,d=some (.slice e):=by
 unfold NA at h
 split at h
 exact ⟨_,rfl⟩
 cases h
def amq {t d e f ty:TypeId} (hu:P.underlying t=some (.slice e)) (c:P.underlying d=some (.slice f)) (a b:Value) (w:World) :
   (rp #[t,d] ty #[a,b]).run P w=(rp #[t,t] ty #[a,b]).run P w:=by
 cases a<;>simp [rp,run_underlying hu,run_underlying c]
def aaH (hi:Inv G own E w σ) (kn:E.μ p=none) (fJ : σ p=none) {t e ty:TypeId} {i:TypeInfo} (hu:P.underlying t=some (.slice e)) (mn:P.info? e=some i)
   (hz:(mO P e).isSome=true) {s x:aa} {a b:Value} (hs:av E w s a) (hx:av E w x b) {r:bM} (h:sy σ p i.size i.bytes s x=some r) :
   Sound P G own E w σ p (rp #[t,t] ty #[a,b]) r:=by
 obtain ⟨z,hz⟩:=aae.1 hz
 obtain ⟨it,ua,hit,u7,wU,LR,zd⟩:=xW hz
 rw [mn] at hit
 cases hit
 have LS:ua.cells.size=i.size:=by
   have:=EX (PI (ta (E:=E) (w:=w) wU) (tJ zd))
   simp at this;unfold aa.size at LR;omega
 unfold sy at h
 split at h
 simp at h
 rename_i ys rd Lv
 obtain ⟨oP,Yy,xV,rfl,SW,tl⟩:=FU hi hx Lv
 split at h
 rename_i Lw
 have afT:ys=[]:=by simpa using Lw
 subst afT
 have hrun:∀ (base:Option Addr) (n cap:Nat),n<=cap->(rp #[t,t] ty #[.slice base n cap, .slice Yy ([]:List aa).length xV]).run P w = .ok (.slice base n cap) w:=by
   intro base n cap hn
   cases base<;>cases Yy<;>simp [rp,run_underlying hu,nr mn,J2,hn,aad,loadCells,loadCellsFrom,storeCells]
 split at h
 cases h
 have Cj:=hs
 simp only [av] at hs;subst hs
 exact ga hi (hrun none 0 0 (a4 _)) Cj
 cases h
 have Cj:=hs
 simp only [av] at hs;obtain ⟨q,rfl,_⟩:=hs
 exact ga hi (hrun q _ _ (a4 _)) Cj
 cases h
 have Cj:=hs
 simp only [av] at hs;obtain ⟨g,N,cap,_,rfl,hle,_⟩:=hs
 exact ga hi (hrun _ _ _ hle) Cj
 simp at h
 rename_i Lw
 have hne:ys≠[]:=by simpa using Lw
 have y9:0<ys.length:=List.length_pos_iff.2 hne
 obtain ⟨AB,AD,rfl,afS⟩:=tl.resolve_left hne
 obtain ⟨news,rM,Cg⟩:=On afS
 have Lx:=kL oP
 have u6:news.length=ys.length*i.size:=by rw [EX rM,Lx]
 have grow:∀ (wz:Addr) (q:Nat) (es:List aa) (cap:Nat),(∀ e∈es,e.size=i.size)->(es=[] \/ ∃ b o,wz=⟨b,o,none⟩/\ey E w b o (flat es))->q=es.length->cap<q+ys.length ->
     (q+ys.length)*i.bytes<=140737488355328->q+ys.length<=maxLen->∀ rd,
     ∃ v w' E',(rp #[t,t] ty #[.slice (some wz) q cap, .slice (some ⟨AB,AD,none⟩) ys.length xV]).run P w = .ok v w' /\
       lJ G own E w σ p { val := .ai p i.size 0 (q+ys.length) false,rd:=rd,up:=[(p,some ⟨es++ys,i.size,false⟩)] } v E' w':=by
   intro wz q es cap hk hr hq Gx hb hm rd
   have ae6:=kL hk
   obtain ⟨CY,y8,GH⟩:∃ vs:List Value,bl E w (flat es) vs/\∀ j v,vs[j]? = some v->w.cell? (wz.add j)=some v:=by
     rcases hr with rfl | ⟨b,o,rfl,hr⟩
     exact ⟨[],by simp [flat,bl],by simp⟩
     exact On hr
   have afv:CY.length=q*i.size:=by rw [EX y8,ae6,hq]
   have hrun:=run_append_grow (P:=P) w t ty e i ua hu mn u7 wz q cap CY afv GH ⟨AB,AD,none⟩ ys.length xV news u6 Cg Gx (by unfold maxLen at hm;omega) (growslice_fits Gx hb)
   have Ca:=grownCap_ge w (q+ys.length) cap e
   have oO:=grownCap_le_maxLen w (q+ys.length) cap e hm
   refine ⟨_,_,E.bind p w.heap.size i.size (grownCap w (q+ys.length) cap e),hrun, ?_⟩
   have:=F7 (p:=p) (rd:=rd) hi kn fJ (k:=i.size) (n:=q+ys.length) (N:=grownCap w (q+ys.length) cap e) (els:=es++ys) (λ e he=>(en.1 he).elim (hk e) (oP e)) (by simp [hq])
     (vs:=CY++news) (by rw [yS];exact nK y8 rM) (rest:=Bh ua.cells (grownCap w (q+ys.length) cap e-(q+ys.length))) (by rw [size_zeroCells,LS]) Ca oO e
   have ae4:(CY++news).toArray=CY.toArray++news.toArray:=by simp
   rw [ae4] at this
   exact this
 split at h
 ·
   split at h
   rename_i b7
   obtain ⟨hb,hm,_⟩:=b7
   cases h
   simp only [av] at hs;subst hs
   have hrun:=run_append_nil (P:=P) w t ty e i ua hu mn u7 ⟨AB,AD,none⟩ ys.length xV news u6 Cg y9 (by unfold maxLen at hm;omega) (by omega)
   have Ca:=grownCap_ge w ys.length 0 e
   have oO:=grownCap_le_maxLen w ys.length 0 e hm
   refine ⟨_,_,E.bind p w.heap.size i.size (grownCap w ys.length 0 e),hrun, ?_⟩
   exact F7 (p:=p) (rd:=rd) hi kn fJ (k:=i.size) (n:=ys.length) (N:=grownCap w ys.length 0 e) (els:=ys) oP rfl rM (by rw [size_zeroCells,LS]) Ca oO e
   simp at h
 ·
   rename_i k' es
   split at h
   rename_i b7
   obtain ⟨rfl,hb,hm,_⟩:=b7
   cases h
   simp only [av] at hs
   obtain ⟨q,rfl,_,hk,hr⟩:=hs
   cases q with
   | none =>
     have hes:es=[]:=by rcases hr with h | ⟨b,o,h,_⟩;exact h;simp at h
     subst hes
     simp only [jB,c4,List.nil_append] at hb hm ⊢
     have hrun:=run_append_nil (P:=P) w t ty e i ua hu mn u7 ⟨AB,AD,none⟩ ys.length xV news u6 Cg y9 (by unfold maxLen at hm;omega) (by omega)
     have Ca:=grownCap_ge w ys.length 0 e
     have oO:=grownCap_le_maxLen w ys.length 0 e hm
     refine ⟨_,_,E.bind p w.heap.size i.size (grownCap w ys.length 0 e),hrun, ?_⟩
     exact F7 (p:=p) (rd:=rd) hi kn fJ (k:=i.size) (n:=ys.length) (N:=grownCap w ys.length 0 e) (els:=ys) oP rfl rM (by rw [size_zeroCells,LS]) Ca oO e
   | some wz =>
     exact grow wz es.length es es.length hk (hr.imp id λ ⟨b,o,e,_,r⟩=>⟨b,o,by simpa using e,n9.1 r⟩) rfl (by omega) hb hm rd
   simp at h
 ·
   rename_i id k' off len mK
   split at h
   rename_i au dz
   split at h
   rename_i b7
   obtain ⟨rfl,wR,rfl,hle,hb,hm,SX⟩:=b7
   obtain ⟨g,N,cur,RO,hB⟩:=hi.blk id au dz
   simp only [av] at hs
   obtain ⟨g',oz,cap,wT,rfl,LA,GH,B5,rO⟩:=hs
   rw [hB.μ] at wT
   simp only [a7,cY] at wT
   obtain ⟨rfl,_,rfl⟩:=wT
   have lp:∀ e∈au.els,e.size=i.size := λ e he=>by rw [<- wR];exact hB.k e he
   simp only [Nat.zero_mul]
   split at h
   split at h
   rename_i ht _
   cases h
   rw [if_pos ht] at rO
   have SN:=z1 (l:=0) (r:=len) hB.k hB.row (Nat.zero_le _) hle
   simp only [Nat.zero_mul,iL,List.drop_zero] at SN
   exact grow ⟨g,0,none⟩ len (au.els.take len) cap (λ e he=>lp e (gq he)) (.inr ⟨g,0,rfl,SN⟩) (by simp;omega) (by omega) hb hm (id::rd)
   simp at h
   split at h
   rename_i ht Ly
   obtain ⟨GF,B9,kN⟩:=Ly
   cases h
   simp only [ht,jO,if_false,c4] at rO
   subst GF
   by_cases hroom:au.els.length+ys.length<=cap
   have hrun:=V1 (P:=P) (w:=w) t ty e RO i hu mn g au.els.length cap cur hB.heap ⟨AB,AD,none⟩ ys.length xV news u6 Cg (MU rM (Kk SX)) hroom
     (by rw [u6,hB.size,wR, <- Nat.add_mul];exact c6 _ (by omega))
   obtain rfl:cap=N:=rO
   refine ⟨_,_,E.bind p g i.size cap,hrun, ?_⟩
   have:=al8 (p:=p) (rd:=id::rd) hi kn fJ dz B9 hB (ys:=ys) (λ e he=>by rw [wR];exact oP e he) rM hroom
   rw [wR] at this
   exact this
   . obtain ⟨v,w',E',hrun,GL⟩:=grow ⟨g,0,none⟩ au.els.length au.els cap lp (.inr ⟨g,0,rfl,hB.row⟩) rfl (by omega) hb hm (id::rd)
     refine ⟨v,w',E',hrun,GL.jc, ?_,GL.rep,GL.ids⟩
     have afr:id≠p:=by rintro rfl;simp [dz] at fJ
     have:=acM GL.inv id
     have he:(σ.app [(p,some ⟨au.els++ys,i.size,false⟩)]).put id none = σ.app [(id,none),(p,some ⟨au.els++ys,i.size,false⟩)]:=by
       funext j
       simp only [l6,wa]
       by_cases e1:j=id
       . subst e1;simp [afr]
       . simp [e1]
     rw [he] at this
     exact this
   . split at h
     ·
       rename_i ht _ Ly
       obtain ⟨GF,B9⟩:=Ly
       cases h
       simp only [ht,jO,if_false,c4] at rO
       obtain rfl:cap=N:=rO
       have hroom:len+ys.length<=cap:=Nat.le_trans GF hB.len
       obtain ⟨wQ,had,SA⟩:=WV hi dz B9 hB (e:=len) (news:=ys) (vs:=news) GF (λ e he=>by rw [wR];exact oP e he) rM
       have e0:len*au.k=len*i.size:=by rw [wR]
       rw [e0] at wQ had SA
       have hrun:=V1 (P:=P) (w:=w) t ty e RO i hu mn g len cap cur hB.heap ⟨AB,AD,none⟩ ys.length xV news u6 Cg (MU rM (Kk SX)) hroom wQ
       refine ⟨_,_,E,hrun,had,SA, ?_, λ _ _=>rfl⟩
       simp only [av]
       exact ⟨g,cap,cap,by rw [hB.μ,wR],by simp,hroom,by omega,B5,by simp⟩
     . simp at h
   . simp at h
   . simp at h
 . simp at h
def aaI (S:Inv G own E w σ) (L:E.μ p=none) (O : σ p=none) {t y e ty:TypeId} {i:TypeInfo} {I:IntKind} (hu:P.underlying t=some (.slice e)) (j:P.info? e=some i) (D:P.underlying y=some (.int I)) {z:aa}
   (M:mO P e=some z) (o:0<i.size) {s x:aa} {a b:Value} (K:av E w s a) (J:av E w x b) {r:bM} (h:Oq p i.size i.bytes z s x=some r) :
   Sound P G own E w σ p (rp #[t,y] ty #[a,b]) r:=by
 have ⟨W,q,c,u,C,F,B⟩:=xW M
 rw [j] at c
 cases c
 have f:=PI (ta (E:=E) (w:=w) C) (tJ B)
 have d:q.cells.size=i.size:=by have:=EX f;simp at this;unfold aa.size at F;omega
 unfold Oq at h
 split at h
 rename_i kk n
 split at h
 rename_i U
 have ⟨X,hb,V,v,_⟩:=U
 cases h
 simp only [av] at K J;subst K;subst J
 obtain ⟨m,rfl⟩:∃ m:Nat,n=m:=⟨n.toNat,by omega⟩
 have R:m*i.bytes<=140737488355328:=by rw [<- Int.natCast_mul] at hb;omega
 have l:m<=maxLen:=by omega
 have A:=grownCap_ge w m 0 e
 have H:=grownCap_le_maxLen w m 0 e l
 have g:=Lib.run_append_nil_zeros (P:=P) w t y ty e i q kk I hu D j u m (by omega) o (by unfold maxLen at l;omega) (by omega)
 refine ⟨_,_,E.bind p w.heap.size i.size (grownCap w m 0 e),g, ?_⟩
 have:=F7 (p:=p) (rd:=[]) S L O (k:=i.size) (n:=m) (N:=grownCap w m 0 e) (els:=bG m z) (λ e T=>by rw [jA T];exact v) (by simp)
   (vs:=(Bh q.cells m).toList) (YF f m (by omega)) (rest:=Bh q.cells (grownCap w m 0 e-m)) (by rw [size_zeroCells,d]) A H e
 simpa using this
 simp at h
 simp at h
def fz (P:Program) (G:Nat->Option (List aa)) (own:Nat->Prop) (E:Env) (w:World) (σ : aL) (p:Id) (r:bM) (s:Sem Next):Prop :=
 ∃ v w' E',(s.run P w = .ok (.value v) w' \/ (s.run P w = .ok .skip w'/\v=undef))/\lJ G own E w σ p r v E' w'
def fz.of {s:Sem Value} {r:bM} (h:Sound P G own E w σ p s r):fz P G own E w σ p r (do pure (.value (<- s))):=by
 have ⟨v,w',E',b,a⟩:=h
 exact ⟨v,w',E', .inl (by simp [b]),a⟩
def fz.ai8 {s:Sem Unit} {r:bM} (h:∃ w',s.run P w = .ok () w'/\lJ G own E w σ p r undef E w'):fz P G own E w σ p r (do s;pure .skip):=by
 have ⟨w',b,a⟩:=h
 exact ⟨undef,w',E, .inr ⟨by simp [b],rfl⟩,a⟩
def wF {t:List aa} {a:Act} (e:gr E w t a) (d:Inv G own E w σ) {x:Option Operand} {c:Option dD} (h:lM x=some c):ma E w (c.map (mP G t)) (x.map a.eval):=by
 cases x with
 | none=>simp only [lM,a7] at h;subst h;trivial
 | some x =>
   simp only [lM,ew] at h
   obtain ⟨gU,b,rfl⟩:=h
   exact di e d b
def aoq {σ : aL} {x:aa} {oZ:Option aa} {r:bM} (h:DM σ x oZ=some r):dB oZ=some r \/ ∃ id k off len au,x = .ai id k off len false /\ σ id=some au/\off<=au.els.length/\r={ val := .nc (au.els.length-off),rd:=[id] }:=by
 unfold DM at h
 split at h
 exact .inl h
 split at h
 rename_i id k off len
 split at h
 rename_i au hb
 split at h
 rename_i a
 simp only [a7] at h
 exact .inr ⟨id,k,off,len,au,rfl,hb,a,h.symm⟩
 simp at h
 simp at h
 simp at h
def aoK (I:Inv G own E w σ) {t e:TypeId} {i:TypeInfo} (hu:P.underlying t=some (.slice e)) (z:P.info? e=some i) {x:aa} {v:Value} (f:av E w x v)
   {lo j mx:Option aa} {A y lX:Option Value} (s:ma E w lo A) (o:ma E w j y) (q:ma E w mx lX) (S:mx.isSome->j.isSome) {r:bM}
   (h:tW σ i.size x lo j mx (iq i.size x lo j mx)=some r):Sound P G own E w σ p (rn t v A y lX) r:=by
 cases R:iq i.size x lo j mx with
 | some c =>
   rw [R] at h
   refine mQ (oZ:=some c) h λ c' B => ?_
   cases B
   exact X5 I hu z f s o q S R
 | none =>
   rw [R] at h
   simp only [tW] at h
   split at h
   rename_i id k' off len b7
   split at h
   rename_i au hb
   split at h
   rename_i D
   have ⟨ho,hk⟩:=D
   simp only [ew] at h
   obtain ⟨c,D,rfl⟩:=h
   simp only [av] at f
   obtain ⟨g,N,cap,Q,rfl,h1,U,h3,W⟩:=f
   have ⟨X,Z,Y,IM,V⟩:=I.blk id au hb
   have T:=V.μ
   rw [T] at Q
   simp only [a7,cY] at Q
   have ⟨rfl,rfl,rfl⟩:=Q
   simp only [jO,if_false] at W
   have hl:=V.len
   have M:av E w (.ai id au.k off (au.els.length-off) false) (.slice (some ⟨X,off*au.k,none⟩) (au.els.length-off) cap):=by
     simp only [av]
     exact ⟨X,Z,cap,T,rfl,by omega,U,h3,by simpa using W⟩
   have F:lX=none:=by cases lX with | none=>rfl | some _=>exact (q:False).elim
   subst F
   have ⟨v,w',E',C,J⟩:=X5 (p:=p) I hu z M s o (mx:=none) (lX:=none) q (by simp) D
   cases y with
   | none=>exact (o:False).elim
   | some u =>
     refine ⟨v,w',E', ?_,⟨J.jc,J.inv,J.rep,J.ids⟩⟩
     rw [<- C]
     simp [rn,Instr.slice,run_underlying hu,Instr.sliceBounds]
   simp at h
   simp at h
   rename_i b7 ag6 m
   split at h
   rename_i n d
   split at h
   rename_i l r' hb
   split at h
   rename_i D
   cases h
   obtain ⟨h1,U⟩:=D
   have K:m=((m.toNat:Nat):Int):=by omega
   obtain ⟨a,cap,rfl,O⟩:∃ a cap,v = .slice a n cap/\n<=cap:=by
     unfold Tz at d
     split at d
     cases d
     simp only [av] at f;exact ⟨_,_,f,a4 _⟩
     split at d
     cases d
     simp only [av] at f;obtain ⟨a,cap,rfl,h,_⟩:=f;exact ⟨_,_,rfl,h⟩
     simp at d
     split at d
     cases d
     simp only [av] at f;obtain ⟨a,rfl,_⟩:=f;exact ⟨_,_,rfl,a4 _⟩
     simp at d
     split at d
     cases d
     simp only [av] at f;obtain ⟨g,N,cap,_,rfl,h,_⟩:=f;exact ⟨_,_,rfl,h⟩
     simp at d
     simp at d
   unfold iD at hb
   split at hb
   simp at hb
   rename_i mi e1
   split at hb
   simp at hb
   rename_i H e2
   simp only [a7,cY] at hb
   obtain ⟨rfl,rfl⟩:=hb
   obtain ⟨L,_,_⟩:=ql (P:=P) (isSlice:=true) (len:=n) (cap:=cap) (m:=m.toNat) s o q O e1 e2 (.inr ⟨ag6,by rw [<- K],by simp,by omega,by omega⟩)
   refine ⟨.slice (if m.toNat=H then a else a.map (·.add (H*i.size))) (mi-H) (m.toNat-H),w,E, ?_,⟨sB own E w,I,by simp only [av], λ _ _=>rfl⟩⟩
   simp [rn,Instr.slice,run_underlying hu,L,nr z]
   simp at h
   simp at h
   simp at h
   simp at h
def aoJ (O:Inv G own E w σ) {t e:TypeId} {n:Nat} {i:TypeInfo} (hu:P.underlying t=some (.array n e)) (mn:P.info? e=some i) (h1:i.size=1) (hn:n<=maxLen) {x:aa} {v:Value} (hx:av E w x v)
   {lo I:Option aa} {V Z:Option Value} (rL:ma E w lo V) (nY:ma E w I Z) {r:bM} (h:Ja σ n x lo I=some r):Sound P G own E w σ p (rn t v V Z none) r:=by
 unfold Ja at h
 split at h
 . rename_i id e'
   cases hb : σ id with
   | none=>simp [hb] at h
   | some au =>
   simp only [hb] at h
   cases K:au.els[e']? with
   | none=>simp [K] at h
   | some el =>
   simp only [K] at h
   cases J:iD n lo I with
   | none=>simp [J] at h
   | some q =>
   obtain ⟨l,Q⟩:=q
   simp only [J] at h
   split at h
   rename_i B
   obtain ⟨B8,Y⟩:=B
   cases h
   obtain ⟨g,N,cur,ty,o⟩:=O.blk id au hb
   simp only [av] at hx
   obtain ⟨g',k',oz,U,rfl⟩:=hx
   rw [o.μ] at U
   simp only [a7,cY] at U
   obtain ⟨rfl,rfl,rfl⟩:=U
   obtain ⟨lQ,oN⟩:=XQ J
   obtain ⟨kN,oM,m8⟩:=ql (P:=P) (isSlice:=false) (mx:=none) (lX:=none) (m:=n) rL nY trivial (a4 _) lQ oN (.inl ⟨rfl,rfl⟩)
   have f:e7 E ⟨E.μ, λ b=>E.ok b \/ b=g⟩ w w:=⟨λ _ _ h=>h, λ b hb => .inl hb, λ _ _=>rfl⟩
   have R:Adv own E ⟨E.μ, λ b=>E.ok b \/ b=g⟩ w w:=⟨f,rfl,rfl,rfl,a4 _, λ k hk _=>rfl, λ b hb=>by
     rcases hb with h | rfl
     exact .inl h
     exact .inr o.own⟩
   have F:∀ j, σ.app [(id,some { au with fr:=true })] j=if j=id then some { au with fr:=true } else σ j := λ j=>rfl
   have W:Inv G own ⟨E.μ, λ b=>E.ok b \/ b=g⟩ w (σ.app [(id,some { au with fr:=true })]):=by
     refine ⟨?_, ?_, ?_, ?_,O.new⟩
     rintro b (hb | rfl)
     exact O.hh b hb
     exact lN o.heap
     intro M abo L
     rw [F] at L
     by_cases dz:M=id
     subst dz
     rw [if_pos rfl] at L
     cases L
     exact ⟨g,N,cur,ty,o.μ,o.heap,o.size,o.len,o.most,o.own, λ _ => .inr rfl, λ hf=>by simp at hf,o.k,ey.keep f rfl o.row⟩
     rw [if_neg dz] at L
     obtain ⟨g2,E5,S,Xy,d⟩:=O.blk M abo L
     refine ⟨g2,E5,S,Xy,d.μ,d.heap,d.size,d.len,d.most,d.own, λ hf => .inl (d.ok hf), λ hf na => ?_,d.k,ey.keep f rfl d.row⟩
     rcases na with h | h
     exact d.no hf h
     exact O.inj M id _ _ (by simp [L]) (by simp [hb]) dz d.μ o.μ h
     intro a b x y ha B7 hne hx hy
     have C:∀ j, σ.app [(id,some { au with fr:=true })] j≠none -> σ j≠none:=by
       intro j D
       rw [F] at D
       by_cases dz:j=id
       subst dz;simp [hb]
       rwa [if_neg dz] at D
     exact O.inj a b x y (C a ha) (C b B7) hne hx hy
     intro ad4 cs hg
     obtain ⟨k1,k2⟩:=O.jH ad4 cs hg
     exact ⟨.inl k1,Bg f.bare rfl cs 0 k2⟩
   have A:ey E w g (0+e'*au.k) el.cells:=Nk o.k o.row K
   have T:∀ c∈el.cells,aa.one c=true:=by simpa [eO] using Y
   have s:((el.cells.take Q).drop l).length=Q-l:=by rw [l0,cZ];omega
   have X:∀ c∈(el.cells.take Q).drop l,c.cells=[c]/\c.size=1:=by
     intro c B
     have U:=T c (gq (List.mem_of_mem_drop B))
     cases c<;>first | (simp [aa.one] at U;done) | exact ⟨rfl,rfl⟩
   have H:flat ((el.cells.take Q).drop l)=(el.cells.take Q).drop l:=by
     have:∀ {es:List aa},(∀ c∈es,c.cells=[c])->flat es=es:=by
       intro es;induction es with
       | nil=>intro _;rfl
       | cons a as ih =>
         intro h
         show a.cells++flat as=a::as
         rw [h a (by simp),ih (λ c B=>h c (by simp [B]))];rfl
     exact this λ c B=>(X c B).1
   refine ⟨.slice (some (if n=l then ⟨g,e'*au.k+0,none⟩ else (⟨g,e'*au.k+0,none⟩:Addr).add (l*i.size))) (Q-l) (n-l),w,_, ?_,R,W, ?_, λ _ _=>rfl⟩
   simp [rn,run_underlying hu,Instr.sureAddr,kN,nr mn]
   simp only [av]
   refine ⟨_,_,by rw [s],by rw [s];omega,by omega, λ c B=>(X c B).2, ?_⟩
   by_cases u6:n=l
   left
   rw [<- List.length_eq_zero_iff,s];omega
   right
   rw [if_neg u6,Addr.add_lit,h1]
   refine ⟨g,e'*au.k+0+l*1,rfl, .inr rfl,n9.2 ?_⟩
   rw [H]
   intro j c D
   rw [List.getElem?_drop] at D
   have afb:el.cells[l+j]? = some c:=by
     rw [List.getElem?_take] at D
     split at D
     exact D
     cases D
   obtain ⟨u,afK,afL⟩:=A (l+j) c afb
   refine ⟨u, ?_,ux f c u afL⟩
   rw [<- afK]
   congr 2
   omega
   simp at h
 simp at h
def RR {f:FuncId} {fn:Func} {e:Array Value->Sem Value} {c:Call} {a:Act} {o:Oper} (i:o.op = .call c) (g:c.callee = .value (.func f)) (l:P.funcs[f]? = some fn) (d:(fn.name == "runtime.NumGoroutine")=false)
   (hb:fn.body.isNone=true) (j:Ea fn=none) (k:Eb fn=some e) {v:Value} {w':World} (h:(e (c.args.map a.eval)).run P w = .ok v w') :
   (execOp a.eval o).run P w = .ok (.value v) w':=by
 have h1:=run_callFunc_extern l d hb j k (c.args.map a.eval) w
 rw [h] at h1
 simp only [Result.andThen] at h1
 have m:a.eval (.func f) = .func (.func f) #[] #[]:=rfl
 simp [execOp,i,resolve,g,m,YI,invoke,h1]
def RQ {g:Operand} {k:E0} (h:BQ P g=some k):∃ f fn,g = .func f/\P.funcs[f]? = some fn/\fn.body.isNone=true /\
   ((k = .idx/\fn.name = "internal/bytealg.IndexByteString" /\ fn.origin = "") \/ (k = .nh/\fn.origin = "slices.overlaps" /\ CP fn.name=true/\∃ t e i,fn.params[0]? = some t/\P.underlying t=some (.slice e)/\P.info? e=some i)):=by
 unfold BQ at h
 split at h
 rename_i f
 split at h
 rename_i fn a
 split at h
 rename_i hb
 refine ⟨f,fn,rfl,a,hb, ?_⟩
 split at h
 rename_i c
 simp only [a7] at h
 simp only [hJ,beq_iff_eq] at c
 exact .inl ⟨h.symm,c.1,c.2⟩
 split at h
 rename_i d
 simp only [hJ,beq_iff_eq] at d
 split at h
 rename_i t j
 split at h
 rename_i e l
 split at h
 rename_i b
 simp only [a7] at h
 have ⟨i,b⟩:=aae.1 b
 exact .inr ⟨h.symm,d.1,d.2,t,e,i,j,l,b⟩
 simp at h
 simp at h
 simp at h
 simp at h
 simp at h
 simp at h
 simp at h
def adO {fn:Func} (b:CP fn.name=true) (c:fn.origin = "slices.overlaps"):Ea fn=none/\Eb fn=some (OT fn.params fn.resultTypes):=by
 unfold CP at b
 simp only [hJ,Option.isNone_iff_eq_none] at b
 have ⟨⟨⟨⟨h1,e⟩,f⟩,h⟩,_⟩:=b
 have g:YJ.lookup "slices.overlaps" = none:=by kernel_rfl
 have i:YK.lookup "slices.overlaps" = some OT:=by kernel_rfl
 have d:OU.lookup "slices.overlaps" = none:=by kernel_rfl
 constructor
 simp [Ea,h,c,d]
 simp [Eb,h1,e,f,c,g,i]
def agb {fn:Func} (b:fn.name = "internal/bytealg.IndexByteString") (f:fn.origin = ""):Ea fn=none/\Eb fn=some YL:=by
 have e:YJ.lookup "internal/bytealg.IndexByteString" = none:=by kernel_rfl
 have h:YK.lookup "internal/bytealg.IndexByteString" = none:=by kernel_rfl
 have g:Extern.allRows.lookup "internal/bytealg.IndexByteString" = some YL:=by kernel_rfl
 have c:OU.lookup "internal/bytealg.IndexByteString" = none:=by kernel_rfl
 have d:OU.lookup "" = none:=by kernel_rfl
 constructor
 simp [Ea,b,f,c,d]
 simp [Eb,b,e,h,g]
def S2:∀ (l:List UInt8) (c:UInt8),Lib.indexByte l c=wW l c
 | [],_=>rfl
 | b::l,c=>by simp only [Lib.indexByte,wW,S2 l c]
def agc {c:Call} {a:Act} {o:Oper} {v x y:Operand} (j:o.op = .call c) (d:c.callee = .value v) (F:BQ P v=some .idx) (b:c.args.toList=[x,y]) (D:Inv G own E w σ) {g e:aa}
   (t:av E w g (a.eval x)) (q:av E w e (a.eval y)) {r:bM} (h:dB (Ox g e)=some r):fz P G own E w σ p r (execOp a.eval o):=by
 obtain ⟨f,fn,rfl,m,hb,A⟩:=RQ F
 rcases A with ⟨_,u,B⟩ | ⟨C,_⟩
 case inr=>simp at C
 have key:∃ s n,g = .str s/\e = .int .u8 n/\r={ val := .int .i64 (wW s n.toNat.toUInt8) }:=by
   unfold Ox at h
   split at h
   simp only [dB,e5,a7] at h
   exact ⟨_,_,rfl,rfl,h.symm⟩
   simp [dB] at h
 clear h
 obtain ⟨s,n,rfl,rfl,rfl⟩:=key
 simp only [av] at t q
 have ⟨l,i⟩:=agb u B
 have k:c.args.map a.eval = #[.string ⟨s.toArray⟩, .int .u8 n]:=by
   apply nA
   simp [b,t,q]
 refine ⟨.int .i64 (wW s n.toNat.toUInt8),w,E, .inl (RR j d m (by rw [u];rfl) hb l i ?_),⟨sB own E w,D,by simp only [av], λ _ _=>rfl⟩⟩
 rw [k,Lib.run_indexByteString,S2]
def amr (c o:Array TypeId) {NW e:TypeId} {i:TypeInfo} (hp:c[0]? = some NW) (C:P.underlying NW=some (.slice e)) (z:P.info? e=some i)
   (a b:Addr) (l abN lb bL:Nat) (h:a.block≠b.block) {g d:Array Value} {B W0:TypeId} (s:w.heap[a.block]? = some (.cells g B (0,0))) (hb:w.heap[b.block]? = some (.cells d W0 (0,0))) (r:d.size≠0) :
   (OT c o #[.slice (some a) l abN, .slice (some b) lb bL]).run P w = .ok (.bool false) w:=by
 have q:(a.block != b.block)=true:=by simpa using h
 have k:(a.block==b.block)=false:=by simpa using h
 have x:w.shape? a.block=some (B,g.size):=by simp [YM,s]
 have n:w.shape? b.block=some (W0,d.size):=by simp [YM,hb]
 have v:w.frozen? a=false:=by simp [YN,s]
 have u:w.frozen? { block:=a.block,off:=g.size }=false:=by simp [YN,s]
 have hz:(Go.sizeOf e).run P w = .ok i.size w:=nr z w
 change Sem.run P (α := Value) (do
   let some t:=c[0]? | stuck "slices.overlaps: no parameter types"
   let .slice j <- underlying t | stuck "slices.overlaps: slice type expected"
   let f <- sizeOf j
   match (some a:Option Addr),(some b:Option Addr) with
   | some a,some b =>
     if l=0 \/ lb=0 \/ f=0 then pure (Jq false)
     else if a.block != b.block&&(<- frozen a)&&(<- frozen b) then unsupported .addressObserved
     else do
       if a.block != b.block then do
         noView a;noView b
         if <- mayBeOne a b then return Jq ((<- choose (.extern "sameAddr.stringBytes" 2))==1)
       pure (Jq (a.block==b.block&&a.off<b.off+lb*f&&b.off<a.off+l*f))
   | _,_=>pure (Jq false)) w=_
 rw [hp]
 by_cases A:l=0 \/ lb=0 \/ i.size=0
 simp [run_underlying C,hz,A]
 cases D:d.size with
 | zero=>exact absurd D r
 | succ aq8 =>
   simp [run_underlying C,hz,A,q,k,frozen,noView,viewAt,mayBeOne,stringish,shape,Sem.run,x,n,v,u,D]
def ajJ {c:Call} {a:Act} {o:Oper} {N x y:Operand} (J:o.op = .call c) (n:c.callee = .value N) (hk:BQ P N=some .nh) (k:c.args.toList=[x,y]) (v:Inv G own E w σ) {R T:aa}
   (Q:av E w R (a.eval x)) (S:av E w T (a.eval y)) {r:bM} (h:DT σ R T=some r):fz P G own E w σ p r (execOp a.eval o):=by
 obtain ⟨f,fn,rfl,H,hb,b7⟩:=RQ hk
 rcases b7 with ⟨h0,_⟩ | ⟨_,Z,d,NW,e,i,X,W,z⟩
 case inl=>simp at h0
 unfold DT at h
 split at h
 rename_i q k1 o1 hY t1 u k2 o2 V t2
 split at h
 simp at h
 rename_i B
 split at h
 rename_i b1 b2 h1 U
 split at h
 rename_i s
 cases h
 simp only [av] at Q S
 have ⟨g1,aqB,c1,j,A,_⟩:=Q
 have ⟨g2,E5,pC,g,C,_⟩:=S
 have ⟨M,aqC,O,Y,t⟩:=v.blk q b1 h1
 have ⟨I,aqD,m,Xy,b⟩:=v.blk u b2 U
 have hg:g1≠g2:=v.inj q u _ _ (by simp [h1]) (by simp [U]) B j g
 rw [t.μ] at j
 rw [b.μ] at g
 simp only [a7,cY] at j g
 have ⟨rfl,_,_⟩:=j
 have ⟨rfl,_,_⟩:=g
 have ⟨L,D⟩:=adO d Z
 have l:(fn.name == "runtime.NumGoroutine")=false:=by
   unfold CP at d
   simp only [hJ,Bool.not_eq_true'] at d
   exact d.2
 have F:c.args.map a.eval = #[.slice (some ⟨M,o1*k1,none⟩) hY c1, .slice (some ⟨I,o2*k2,none⟩) V pC]:=by
   apply nA
   simp [k,A,C]
 have K:m.size≠0:=by
   rw [b.size]
   have hl:=b.len
   exact Nat.ne_of_gt (Nat.mul_pos (by omega) s.1)
 refine ⟨.bool false,w,E, .inl (RR J n H l hb L D ?_),⟨sB own E w,v,by simp only [av], λ _ _=>rfl⟩⟩
 rw [F]
 exact amr fn.params fn.resultTypes X W z _ _ _ _ _ _ hg t.heap b.heap K
 simp at h
 simp at h
 simp at h
def abv (hi:Inv G own E w σ) (kn:E.μ p=none) (fJ : σ p=none) {t:List aa} {a:Act} (hf:gr E w t a) {b:Builtin} {args:Array Operand} {ts:Array TypeId} {ty:TypeId} {cs:Array Bool} {qR:dK dD}
   (hc:Fz P b args ts=some qR) {r:bM} (h:bS σ p (qR.map (mP G t))=some r) {R:Prop}
   (fin:∀ {s:Sem Value},builtin b ts ty cs (args.map a.eval)=(do pure (.value (<- s)))->Sound P G own E w σ p s r->R):R:=by
 unfold Fz at hc
 split at hc
 ·
   rename_i x xN mm tq
   have oL:args = #[x]:=by apply nA;simpa using mm
   have tr:ts = #[xN]:=by apply nA;simpa using tq
   refine fin (s:=Ec ts ty (args.map a.eval)) rfl ?_
   rw [oL,tr]
   split at hc
   rename_i hu
   simp only [ew] at hc;obtain ⟨gU,zb,rfl⟩:=hc
   simp only [dY,bS] at h
   have hr:=di hf hi zb
   refine mQ h λ cc hcc => ?_
   cases hx:gU.ev G t<;>simp only [hx,jr,a7,reduceCtorEq] at hcc
   rename_i l
   rw [hx] at hr
   simp only [av] at hr
   subst hcc
   refine ga (v := .int .i64 l.length) hi ?_ (by simp only [av])
   have hsz:(vS l.toArray).size=l.length:=by show l.toArray.size=l.length;simp
   simp [Ec,run_underlying hu,hr,goInt,hsz]
   rename_i e hu
   simp only [ew] at hc;obtain ⟨gU,zb,rfl⟩:=hc
   simp only [dY,bS] at h
   have hr:=di hf hi zb
   refine mQ h λ cc hcc => ?_
   have hrun:∀ (ad:Option Addr) (n c:Nat),a.eval x = .slice ad n c->(Ec #[xN] ty (#[x].map a.eval)).run P w = .ok (.int .i64 n) w:=by
     intro ad n c he
     simp [Ec,run_underlying hu,he,goInt]
   cases hx:gU.ev G t<;>simp only [hx,jr,a7,reduceCtorEq] at hcc<;>rw [hx] at hr<;>simp only [av] at hr<;>subst hcc
   obtain ⟨ad,cap,he,_⟩:=hr
   exact ga hi (hrun _ _ _ he) (by simp only [av])
   obtain ⟨ad,he,_⟩:=hr
   exact ga hi (hrun _ _ _ he) (by simp only [av])
   exact ga hi (hrun _ _ _ hr) (by simp only [av];rfl)
   obtain ⟨g,N,cap,_,he,_⟩:=hr
   exact ga hi (hrun _ _ _ he) (by simp only [av])
   rename_i n e hu
   simp only [ew] at hc;obtain ⟨gU,zb,rfl⟩:=hc
   simp only [dY,bS] at h
   refine mQ h λ cc hcc => ?_
   cases hcc
   refine ga (v := .int .i64 n) hi ?_ (by simp only [av])
   simp [Ec,run_underlying hu,goInt]
   simp at hc
 ·
   rename_i s x t1 t2 mm tq
   have oL:args = #[s,x]:=by apply nA;simpa using mm
   have tr:ts = #[t1,t2]:=by apply nA;simpa using tq
   refine fin (s:=rp ts ty (args.map a.eval)) rfl ?_
   rw [oL,tr]
   split at hc
   rename_i e hu
   split at hc
   rename_i i mn
   split at hc
   rename_i b7
   obtain ⟨GM,_,_,hz⟩:=b7
   obtain ⟨e',afJ⟩:=amN GM
   split at hc
   rename_i vs kW zc qx
   cases hc
   simp only [dY,bS] at h
   obtain ⟨v,w',E',hr,hp⟩:=aaH (ty:=ty) hi kn fJ hu mn hz (di hf hi zc) (di hf hi qx) h
   refine ⟨v,w',E', ?_,hp⟩
   rw [<- hr, <- amq (ty:=ty) hu afJ]
   simp
   simp at hc
   split at hc
   rename_i aq9 z vs kW aff hz zc qx
   split at hc
   rename_i y9
   cases hc
   simp only [dY,bS] at h
   have:=aaI (P:=P) (ty:=ty) hi kn fJ hu mn aff hz y9 (di hf hi zc) (di hf hi qx) h
   simpa using this
   simp at hc
   simp at hc
   simp at hc
   simp at hc
 ·
   rename_i x xN mm tq
   have oL:args = #[x]:=by apply nA;simpa using mm
   have tr:ts = #[xN]:=by apply nA;simpa using tq
   refine fin (s:=Jr ts ty (args.map a.eval)) rfl ?_
   rw [oL,tr]
   split at hc
   . rename_i e hu
     simp only [ew] at hc;obtain ⟨gU,zb,rfl⟩:=hc
     simp only [dY,bS] at h
     have hr:=di hf hi zb
     rcases aoq h with h | ⟨id,k,off,len,au,hx,dz,aq2,rfl⟩
     case inr =>
       rw [hx] at hr;simp only [av] at hr
       obtain ⟨g,N,cap,wT,hv,h1,h2,h3,h4⟩:=hr
       obtain ⟨g',oz,cur,IM,hB⟩:=hi.blk id au dz
       rw [hB.μ] at wT
       simp only [a7,cY] at wT
       obtain ⟨rfl,_,rfl⟩:=wT
       refine ga (v := .int .i64 cap) hi (by simp [Jr,run_underlying hu,hv,goInt]) ?_
       simp only [av]
       have:=hB.len
       simp only [jO,if_false] at h4
       exact ⟨cap,by omega,rfl⟩
     refine mQ h λ cc hcc => ?_
     have hrun:∀ (ad:Option Addr) (n c:Nat),a.eval x = .slice ad n c->(Jr #[xN] ty (#[x].map a.eval)).run P w = .ok (.int .i64 c) w:=by
       intro ad n c he
       simp [Jr,run_underlying hu,he,goInt]
     unfold Ot at hcc
     split at hcc
     . rename_i hx
       rw [hx] at hr;simp only [av] at hr
       cases hcc
       exact ga hi (hrun _ _ _ hr) (by simp only [av];rfl)
     . rename_i hx
       rw [hx] at hr;simp only [av] at hr
       cases hcc
       obtain ⟨ad,he,_⟩:=hr
       exact ga hi (hrun _ _ _ he) (by simp only [av])
     . rename_i hx
       rw [hx] at hr;simp only [av,if_true] at hr
       cases hcc
       obtain ⟨g,N,cap,_,he,_,_,_,Gx⟩:=hr
       subst Gx
       exact ga hi (hrun _ _ _ he) (by simp only [av])
     . simp at hcc
   . simp at hc
 ·
   rename_i x xN mm tq
   have oL:args = #[x]:=by apply nA;simpa using mm
   have tr:ts = #[xN]:=by apply nA;simpa using tq
   refine fin (s:=EU ts ty (args.map a.eval)) rfl ?_
   rw [oL,tr]
   split at hc
   . rename_i e hu
     split at hc
     . rename_i z kW hz qx
       split at hc
       . rename_i y9
         cases hc
         simp only [dY,bS] at h
         have:=ach (P:=P) (p:=p) (ty:=ty) hi hu hz y9 (di hf hi qx) h
         simpa using this
       . simp at hc
     . simp at hc
   . simp at hc
 ·
   rename_i d x t1 t2 mm tq
   have oL:args = #[d,x]:=by apply nA;simpa using mm
   have tr:ts = #[t1,t2]:=by apply nA;simpa using tq
   refine fin (s:=EW ts ty (args.map a.eval)) rfl ?_
   rw [oL,tr]
   split at hc
   . rename_i e hu
     split at hc
     . rename_i i mn
       split at hc
       . split at hc
         . rename_i DN kW afP qx
           cases hc
           simp only [dY,bS] at h
           have:=acA (P:=P) (p:=p) (ty:=ty) (t2:=t2) hi hu mn (di hf hi afP) (di hf hi qx) h
           simpa using this
         . simp at hc
       . simp at hc
     . simp at hc
   . simp at hc
 ·
   rename_i x y mm
   have oL:args = #[x,y]:=by apply nA;simpa using mm
   refine fin (s:=YO ts ty (args.map a.eval)) rfl ?_
   rw [oL]
   split at hc
   . rename_i kW DU qx LP
     cases hc
     simp only [dY,bS] at h
     have tn:=di hf hi qx
     have tp:=di hf hi LP
     split at h
     . rename_i k n k' m hx hy
       rw [hx] at tn;rw [hy] at tp
       simp only [av] at tn tp
       refine mQ h λ cc hcc => ?_
       cases hcc
       refine ga (v := .int k (if m<n then m else n)) hi ?_ (by simp only [av])
       simp [YO,tn,tp,Builtin.min2]
     . simp at h
   . simp at hc
 ·
   rename_i x y mm
   have oL:args = #[x,y]:=by apply nA;simpa using mm
   refine fin (s:=YP ts ty (args.map a.eval)) rfl ?_
   rw [oL]
   split at hc
   . rename_i kW DU qx LP
     cases hc
     simp only [dY,bS] at h
     have tn:=di hf hi qx
     have tp:=di hf hi LP
     split at h
     . rename_i k n k' m hx hy
       rw [hx] at tn;rw [hy] at tp
       simp only [av] at tn tp
       refine mQ h λ cc hcc => ?_
       cases hcc
       refine ga (v := .int k (if m>n then m else n)) hi ?_ (by simp only [av])
       simp [YP,tn,tp,Builtin.max2]
     . simp at h
   . simp at hc
 . simp at hc
def Qv:∀ {ys:List aa} {l:List UInt8},Bx ys=some l->∃ zs:List Int,ys=zs.map (aa.int .u8)/\l=zs.map λ n=>OV n.toNat
 | [],l,h=>by simp only [Bx,a7] at h;subst h;exact ⟨[],rfl,rfl⟩
 | .int .u8 n::r,l,h=>by
   simp only [Bx,ew] at h
   obtain ⟨l',h1,rfl⟩:=h
   obtain ⟨zs,rfl,rfl⟩:=Qv h1
   exact ⟨n::zs,rfl,rfl⟩
def RV (k:IntKind):∀ zs:List Int,flat (zs.map (aa.int k))=zs.map (aa.int k)
 | []=>rfl
 | z::zs=>by have:=RV k zs;simp only [hQ,flat,List.flatMap_cons,aa.cells] at this ⊢;rw [this];rfl
def abA (s:Inv G own E w σ) {c d e:TypeId} (t:P.underlying c=some (.slice e)) (u:P.underlying e=some (.int .u8)) (hd:P.underlying d=some .string) {x:aa} {v:Value} (y:av E w x v) {r:bM} (h:DK σ x=some r) :
   Sound P G own E w σ p (convert c d v) r:=by
 unfold DK at h
 split at h
 rename_i ys rd k
 simp only [ew] at h
 obtain ⟨l,A,rfl⟩:=h
 obtain ⟨zs,rfl,rfl⟩:=Qv A
 obtain ⟨_,a,cap,rfl,B,g⟩:=FU s y k
 refine ga (v := .string ⟨(zs.map λ n=>OV n.toNat).toArray⟩) s ?_ (by simp [av])
 rcases g with g | ⟨b,o,rfl,g⟩
 have z:zs=[]:=by simpa using g
 subst z
 rw [run_convert_bytes_string w c d e _ _ _ t u hd]
 cases a with
 | none=>simp [Conv.bytesToString];rfl
 | some a =>
   rw [run_bytesToString w a _ _ [] (by simp [loadCells,loadCellsFrom])]
   rfl
 rw [RV] at g
 have:=run_convert_bytes_arg (P:=P) w c e t u b o zs.length cap zs rfl (λ i j=>by
   have ⟨v,h1,m⟩:=g i (.int .u8 zs[i]) (by rw [iI,du j];rfl)
   simp only [av] at m
   subst m
   have f:(⟨b,o,none⟩:Addr).add i=⟨b,o+i,none⟩:=by simp [Addr.add]
   first | rw [f] at h1 | skip
   rw [h1,List.getD_eq_getElem?_getD,du j];rfl) d hd
 simpa [strOfNums] using this
 simp at h
def RE {n:Int} (c:0<=n/\n<128):Js n=⟨[OV n.toNat].toArray⟩:=by
 have b:Utf8.valid n=true:=by unfold Utf8.valid;simp;omega
 unfold Js
 simp only [b,if_true]
 rw [if_pos (by omega)]
def aji (B:Inv G own E w σ) (kn:E.μ p=none) (fJ : σ p=none) {t:List aa} {a:Act} (D:gr E w t a) {o:Oper} {qR:dK dD} (j:gI P o.op=some qR) {r:bM}
   (h:bS σ p (qR.map (mP G t))=some r):fz P G own E w σ p r (execOp a.eval o):=by
 unfold execOp
 cases ho:o.op<;>rw [ho] at j<;>simp only []
 case move x =>
   simp only [gI,ew] at j;obtain ⟨gU,I,rfl⟩:=j
   simp only [dY,bS,dB,e5,a7] at h;subst h
   exact ⟨a.eval x,w,E, .inl rfl,sB own E w,B,di D B I, λ _ _=>rfl⟩
 case assign x =>
   simp only [gI,ew] at j;obtain ⟨gU,I,rfl⟩:=j
   simp only [dY,bS,dB,e5,a7] at h;subst h
   exact ⟨a.eval x,w,E, .inl rfl,sB own E w,B,di D B I, λ _ _=>rfl⟩
 case pick c x y =>
   simp only [gI] at j
   cases V:b6 c with
   | none=>simp [V] at j
   | some eB =>
   cases u:b6 x with
   | none=>simp [V,u] at j
   | some kW =>
   cases J:b6 y with
   | none=>simp [V,u,J] at j
   | some DU =>
     simp only [V,u,J,a7] at j;subst j
     simp only [dY,bS] at h
     have LK:=di D B V
     have tn:=di D B u
     have tp:=di D B J
     split at h
     rename_i b hb
     rw [hb] at LK
     simp only [av] at LK
     simp only [dB,e5,a7] at h;subst h
     refine ⟨if b then a.eval x else a.eval y,w,E, .inl (by simp [LK,asBool]),sB own E w,B, ?_, λ _ _=>rfl⟩
     cases b
     exact tp
     exact tn
     simp at h
 case alloc ty =>
   simp only [gI,ew] at j;obtain ⟨z,hz,rfl⟩:=j
   simp only [dY,bS,mP] at h
   obtain ⟨it,ua,hit,u7,wU,LR,zd⟩:=xW hz
   split at h
   cases h
   have:=Qp (P:=P) (p:=p) B kn fJ (ta wU) zd ty
   refine fz.of ?_
   obtain ⟨v,w',E',C,hp⟩:=this
   refine ⟨v,w',E', ?_,hp⟩
   simp only [Instr.alloc,OW,YG hit u7,OX]
   exact C
   rename_i hno;exact absurd zd hno
 case box ty x =>
   simp only [gI,ew] at j;obtain ⟨gU,I,rfl⟩:=j
   simp only [dY,bS] at h
   split at h
   rename_i GI
   cases h
   exact fz.of (Qp B kn fJ (di D B I) GI ty)
   simp at h
 case build ty ps=>exact fz.of (abu B D j h)
 case buildSlice ty n ps=>exact fz.of (abt B kn fJ D j h)
 case load ty x =>
   simp only [gI] at j
   cases ha:oR P ty with
   | none=>simp [ha] at j
   | some g =>
   cases R:P.info? ty with
   | none=>simp [ha,R] at j
   | some i =>
   cases u:b6 x with
   | none=>simp [ha,R,u] at j
   | some kW =>
     simp only [ha,R,u] at j
     split at j
     cases j
     simp only [dY,bS] at h
     exact fz.of (aoG B ha R (di D B u) h)
     simp at j
 case store ty x y =>
   simp only [gI] at j
   cases R:P.info? ty with
   | none=>simp [R] at j
   | some i =>
   cases u:b6 x with
   | none=>simp [R,u] at j
   | some kW =>
   cases J:b6 y with
   | none=>simp [R,u,J] at j
   | some DU =>
     simp only [R,u,J,a7] at j;subst j
     simp only [dY,bS] at h
     exact fz.ai8 (aoN B R (di D B u) (di D B J) h)
 case nilCheck x =>
   simp only [gI,ew] at j;obtain ⟨gU,I,rfl⟩:=j
   simp only [dY,bS] at h
   have C:=di D B I
   split at h
   rename_i id e q O
   simp only [dB,e5,a7] at h;subst h
   rw [O] at C ⊢
   have U:=C
   simp only [av] at C
   obtain ⟨g,k,N,hm,X⟩:=C
   exact ⟨a.eval x,w,E, .inl (by rw [X];rfl),sB own E w,B,U, λ _ _=>rfl⟩
   rename_i cs q O
   simp only [dB,e5,a7] at h;subst h
   rw [O] at C ⊢
   have U:=C
   simp only [av] at C
   obtain ⟨b,q,X,_⟩:=C
   exact ⟨a.eval x,w,E, .inl (by rw [X];rfl),sB own E w,B,U, λ _ _=>rfl⟩
   rename_i f hY lq O
   simp only [dB,e5,a7] at h;subst h
   rw [O] at C ⊢
   have U:=C
   simp only [av] at C
   obtain ⟨xs,ys,X,_⟩:=C
   exact ⟨a.eval x,w,E, .inl (by rw [X];rfl),sB own E w,B,U, λ _ _=>rfl⟩
   simp at h
 case binOp op ty x y IM =>
   simp only [gI] at j
   cases za:z8 P ty with
   | none=>simp [za] at j
   | some sh =>
   cases u:b6 x with
   | none=>simp [za,u] at j
   | some kW =>
   cases J:b6 y with
   | none=>simp [za,u,J] at j
   | some DU =>
     simp only [za,u,J,a7] at j;subst j
     simp only [dY,bS] at h
     refine fz.of (mQ h λ c F => ?_)
     unfold eH at F
     split at F
     rename_i c' aeV
     cases F
     obtain ⟨h1,T,h3,h4⟩:=aol (P:=P) za aeV (di D B u) (di D B J)
     refine ga B ?_ (VN T)
     simp only [OW,RH op ty x y _ _ h3 h4,OX]
     exact h1
     obtain ⟨⟨q,h1,T⟩,h3,h4⟩:=aoH (P:=P) za F (di D B u) (di D B J)
     refine ga (v := .bool q) B ?_ h1
     simp only [OW,RH op ty x y _ _ h3 h4,OX]
     exact T
 case unOp op ty x =>
   simp only [gI,ew] at j;obtain ⟨gU,I,rfl⟩:=j
   simp only [dY,bS] at h
   refine fz.of (mQ h λ c F => ?_)
   obtain ⟨h1,T⟩:=aoP (P:=P) F (di D B I)
   exact ga B h1 (VN T)
 case convert src dst x =>
   simp only [gI] at j
   split at j
   rename_i k1 k2 h1 T
   simp only [ew] at j;obtain ⟨gU,I,rfl⟩:=j
   simp only [dY,bS] at h
   have C:=di D B I
   split at h
   rename_i k n O
   rw [O] at C
   simp only [av] at C
   simp only [dB,e5,a7] at h;subst h
   refine fz.of (ga (v := .int k2 (k2.wrap n)) B ?_ (by simp [av]))
   rw [C]
   simp [convert,run_underlying h1,run_underlying T,Conv.intToInt]
   simp at h
   rename_i h1 T
   simp only [ew] at j;obtain ⟨gU,I,rfl⟩:=j
   simp only [dY,bS] at h
   have C:=di D B I
   split at h
   rename_i l O
   rw [O] at C h
   have U:=C
   simp only [av] at C
   simp only [dB,e5,a7] at h;subst h
   refine fz.of (ga B ?_ U)
   rw [C]
   simp [convert,run_underlying h1,run_underlying T]
   rename_i k n O
   rw [O] at C
   simp only [av] at C
   split at h
   rename_i hn
   simp only [dB,e5,a7] at h;subst h
   refine fz.of (ga (v := .string (Js n)) B ?_ (by simp [av,RE hn]))
   rw [C]
   simp [convert,run_underlying h1,run_underlying T,YQ]
   simp at h
   simp at h
   rename_i k1 h1 T
   simp only [ew] at j;obtain ⟨gU,I,rfl⟩:=j
   simp only [dY,bS] at h
   have C:=di D B I
   split at h
   rename_i l O
   rw [O] at C h
   have U:=C
   simp only [av] at C
   simp only [dB,e5,a7] at h;subst h
   refine fz.of (ga B ?_ U)
   rw [C]
   simp [convert,run_underlying h1,run_underlying T]
   rename_i k n O
   rw [O] at C
   simp only [av] at C
   split at h
   rename_i hn
   simp only [dB,e5,a7] at h;subst h
   refine fz.of (ga (v := .string (Js n)) B ?_ (by simp [av,RE hn]))
   rw [C]
   simp [convert,run_underlying h1,run_underlying T,YQ]
   simp at h
   simp at h
   rename_i e h1 T
   split at j
   rename_i X
   simp only [ew] at j;obtain ⟨gU,I,rfl⟩:=j
   simp only [dY,bS] at h
   exact fz.of (abA B h1 X T (di D B I) h)
   simp at j
   simp at j
 case makeFunc fn first cap =>
   simp only [gI] at j
   cases h1:wD first with
   | none=>simp [h1] at j
   | some gU =>
   cases T:wD cap with
   | none=>simp [h1,T] at j
   | some eB =>
     simp only [h1,T,a7] at j;subst j
     simp only [dY,bS,dB,e5,a7] at h;subst h
     refine fz.of (ga (v := .func fn (first.map a.eval) (cap.map a.eval)) B (by simp [Instr.makeFunc]) ?_)
     simp only [av]
     exact ⟨_,_,rfl,Kv D B h1,Kv D B T⟩
 case makeSlice ty l c =>
   simp only [gI] at j
   cases hu:P.underlying ty with
   | none=>simp [hu] at j
   | some d =>
   cases d<;>simp only [hu,reduceCtorEq] at j
   rename_i e
   cases A:P.info? e with
   | none=>simp [A] at j
   | some i =>
   cases hz:mO P e with
   | none=>simp [A,hz] at j
   | some z =>
   cases H:b6 l with
   | none=>simp [A,hz,H] at j
   | some OC =>
   cases V:b6 c with
   | none=>simp [A,hz,H,V] at j
   | some eB =>
     simp only [A,hz,H,V] at j
     split at j
     rename_i Z
     cases j
     simp only [dY,bS] at h
     exact fz.of (aie B kn fJ hu A hz Z.1 (di D B H) (di D B V) h)
     simp at j
 case slice ty x lo g7 mx =>
   simp only [gI] at j
   cases hu:P.underlying ty with
   | none=>simp [hu] at j
   | some d =>
   cases d<;>simp only [hu,reduceCtorEq] at j
   case string =>
     cases u:b6 x with
     | none=>simp [u] at j
     | some kW =>
     cases H:lM lo with
     | none=>simp [u,H] at j
     | some OC =>
     cases L:lM g7 with
     | none=>simp [u,H,L] at j
     | some XU =>
     cases mx with
     | some _=>simp [u,H,L] at j
     | none =>
       simp only [u,H,L,a7] at j;subst j
       simp only [dY,bS] at h
       refine fz.of (mQ h λ c F => ?_)
       exact aoL B hu (di D B u) (wF D B H) (wF D B L) F
   case array n e =>
     cases A:P.info? e with
     | none=>simp [A] at j
     | some i =>
     cases u:b6 x with
     | none=>simp [A,u] at j
     | some kW =>
     cases H:lM lo with
     | none=>simp [A,u,H] at j
     | some OC =>
     cases L:lM g7 with
     | none=>simp [A,u,H,L] at j
     | some XU =>
     cases mx with
     | some _=>simp [A,u,H,L] at j
     | none =>
       simp only [A,u,H,L] at j
       split at j
       rename_i Z
       cases j
       simp only [dY,bS] at h
       exact fz.of (aoJ B hu A Z.1 Z.2 (di D B u) (wF D B H) (wF D B L) h)
       simp at j
   case slice e =>
     cases A:P.info? e with
     | none=>simp [A] at j
     | some i =>
     cases u:b6 x with
     | none=>simp [A,u] at j
     | some kW =>
     cases H:lM lo with
     | none=>simp [A,u,H] at j
     | some OC =>
     cases L:lM g7 with
     | none=>simp [A,u,H,L] at j
     | some XU =>
     cases LO:lM mx with
     | none=>simp [A,u,H,L,LO] at j
     | some arp =>
       simp only [A,u,H,L,LO] at j
       split at j
       rename_i Z
       cases j
       simp only [dY,bS] at h
       exact fz.of (aoK B hu A (di D B u) (wF D B H) (wF D B L) (wF D B LO) (by simpa using Z) h)
       simp at j
 case fieldAddr s x f =>
   simp only [gI] at j
   cases hu:P.underlying s with
   | none=>simp [hu] at j
   | some d =>
   cases d<;>simp only [hu,reduceCtorEq] at j
   rename_i fs
   cases Y:fs[f]? with
   | none=>simp [Y] at j
   | some fd =>
   simp only [Y] at j
   cases A:P.info? fd.type with
   | none=>simp [A] at j
   | some i =>
   cases u:b6 x with
   | none=>simp [A,u] at j
   | some kW =>
     simp only [A,u] at j
     split at j
     simp at j
     rename_i h0
     cases j
     exact fz.of (adD B hu Y A h0 (di D B u) h)
 case field s x f =>
   simp only [gI] at j
   cases hu:P.underlying s with
   | none=>simp [hu] at j
   | some d =>
   cases d<;>simp only [hu,reduceCtorEq] at j
   rename_i fs
   cases Y:fs[f]? with
   | none=>simp [Y] at j
   | some fd =>
   simp only [Y] at j
   cases M:oR P fd.type with
   | none=>simp [M] at j
   | some g =>
   cases A:P.info? fd.type with
   | none=>simp [M,A] at j
   | some i =>
   cases u:b6 x with
   | none=>simp [M,A,u] at j
   | some kW =>
     simp only [M,A,u,a7] at j;subst j
     simp only [dY,bS] at h
     have C:=di D B u
     split at h
     rename_i cs O
     rw [O] at C
     simp only [av] at C
     obtain ⟨xs,X,C⟩:=C
     refine fz.of (mQ h λ c F => ?_)
     obtain ⟨v,hv,Ci⟩:=U2 (P:=P) M A C F
     refine ga B ?_ Ci
     rw [X]
     simp [Instr.field,run_underlying hu,Y,asAgg,hv]
     simp at h
 case indexAddr ty x Cr =>
   simp only [gI] at j
   cases hu:P.underlying ty with
   | none=>simp [hu] at j
   | some d =>
   cases d<;>simp only [hu,reduceCtorEq] at j
   case slice e =>
     cases A:P.info? e with
     | none=>simp [A] at j
     | some i =>
     cases u:b6 x with
     | none=>simp [A,u] at j
     | some kW =>
     cases K:b6 Cr with
     | none=>simp [A,u,K] at j
     | some Ov =>
       simp only [A,u,K,a7] at j;subst j
       simp only [dY,bS] at h
       refine fz.of (mQ h λ c F => ?_)
       exact af8 B hu A (di D B u) (di D B K) F
   case array n e =>
     cases A:P.info? e with
     | none=>simp [A] at j
     | some i =>
     cases u:b6 x with
     | none=>simp [A,u] at j
     | some kW =>
     cases K:b6 Cr with
     | none=>simp [A,u,K] at j
     | some Ov =>
       simp only [A,u,K,a7] at j;subst j
       simp only [dY,bS] at h
       refine fz.of (mQ h λ c F => ?_)
       exact af7 B hu A (di D B u) (di D B K) F
 case index ty x Cr =>
   simp only [gI] at j
   cases hu:P.underlying ty with
   | none=>simp [hu] at j
   | some d =>
   cases d<;>simp only [hu,reduceCtorEq] at j
   case string =>
     cases u:b6 x with
     | none=>simp [u] at j
     | some kW =>
     cases K:b6 Cr with
     | none=>simp [u,K] at j
     | some Ov =>
       simp only [u,K,a7] at j;subst j
       simp only [dY,bS] at h
       have C:=di D B u
       have W:=di D B K
       split at h
       rename_i s k n O hn
       rw [O] at C;rw [hn] at W
       simp only [av] at C W
       split at h
       rename_i h0
       refine fz.of (mQ h λ c F => ?_)
       simp only [ew] at F
       obtain ⟨b,hb,rfl⟩:=F
       refine ga (v := .int .u8 b.toNat) B ?_ (by simp [av])
       rw [C,W]
       have B7:(vS s.toArray)[n.toNat]? = some b:=by
         have hlt:=(eu.1 hb)
         obtain ⟨h1,T⟩:=hlt
         rw [getElem?_pos (vS s.toArray) n.toNat (by simpa [ByteArray.size] using h1)]
         congr 1
       simp [Instr.index,run_underlying hu,asIntOf,h0,B7]
       simp at h
       simp at h
   case array n e =>
     cases M:oR P e with
     | none=>simp [M] at j
     | some g =>
     cases A:P.info? e with
     | none=>simp [M,A] at j
     | some i =>
     cases u:b6 x with
     | none=>simp [M,A,u] at j
     | some kW =>
     cases K:b6 Cr with
     | none=>simp [M,A,u,K] at j
     | some Ov =>
       simp only [M,A,u,K,a7] at j;subst j
       simp only [dY,bS] at h
       have C:=di D B u
       have W:=di D B K
       split at h
       rename_i cs k m O hn
       rw [O] at C;rw [hn] at W
       simp only [av] at C W
       obtain ⟨xs,X,C⟩:=C
       split at h
       rename_i h0
       refine fz.of (mQ h λ c F => ?_)
       obtain ⟨v,hv,Ci⟩:=U2 (P:=P) M A C F
       refine ga B ?_ Ci
       rw [X,W]
       simp [Instr.index,run_underlying hu,asIntOf,h0,nr A,hv]
       simp at h
       simp at h
 case extract x i =>
   simp only [gI,ew] at j;obtain ⟨gU,I,rfl⟩:=j
   simp only [dY,bS] at h
   have C:=di D B I
   split at h
   rename_i vs O
   rw [O] at C
   simp only [av] at C
   obtain ⟨xs,X,C⟩:=C
   refine fz.of (mQ h λ c F => ?_)
   obtain ⟨v,hv,Ci⟩:=(fe.1 C).2 i c F
   refine ga B ?_ Ci
   rw [X]
   simp at hv
   simp [Instr.extract,hv]
   simp at h
 case call c =>
   simp only [gI] at j
   cases S:c.callee with
   | value f =>
     simp only [S] at j
     split at j
     split at j
     cases j
     simp [dY,bS] at h
     simp at j
     rename_i k hk
     unfold FA at j
     split at j
     rename_i x y mm
     split at j
     rename_i kW DU u J
     cases j
     cases k with
     | idx =>
       simp only [dY,bS] at h
       have Z:=agc (p:=p) ho S hk mm B (di D B u) (di D B J) h
       unfold execOp at Z;simp only [ho] at Z;exact Z
     | nh =>
       simp only [dY,bS] at h
       have Z:=ajJ (p:=p) ho S hk mm B (di D B u) (di D B J) h
       unfold execOp at Z;simp only [ho] at Z;exact Z
     simp at j
     simp at j
   | invoke _ _=>simp [S] at j
   | builtin b =>
     simp only [S] at j
     have afD:∀ w,(do let d <- resolve a.eval c o.type;invoke d.target d.args:Sem Next).run P w =
         (builtin b c.argTypes o.type (c.args.map λ | .const _=>true | _=>false) (c.args.map a.eval)).run P w:=by
       intro w;simp [resolve,S,invoke];rfl
     have fin:∀ {s:Sem Value},builtin b c.argTypes o.type (c.args.map λ | .const _=>true | _=>false) (c.args.map a.eval)=(do pure (.value (<- s)))->Sound P G own E w σ p s r ->
         fz P G own E w σ p r (do let d <- resolve a.eval c o.type;invoke d.target d.args):=by
       intro s X hs
       obtain ⟨v,w',E',C,hp⟩:=hs
       exact ⟨v,w',E', .inl (by rw [afD,X];simp [C]),hp⟩
     exact abv B kn fJ D j h fin
 all_goals simp [gI] at j
def ajh (f:Inv G own E w σ) (i:E.μ p=none) (e : σ p=none) {t:List aa} {a:Act} (g:gr E w t a) {o:Oper} {c:dK dD} (b:uP P o.op=some c) {r:bM}
   (h:bS σ p (c.map (mP G t))=some r):fz P G own E w σ p r (execOp a.eval o):=by
 unfold uP at b
 split at b
 rename_i v d
 cases b
 exact aji f i e g d h
 cases b
 simp [dY,bS] at h
def cu (P:Program) (G:Nat->Option (List aa)) (f:FuncId) (args:List aa) (p:Id) (S:List (Id × aN)) (r:bM):Prop :=
 (∃ fn,P.funcs[f]? = some fn/\(fn.name == "runtime.NumGoroutine")=false/\fn.body.isSome=true) /\
 ∀ own E w σ vs,(∀ x∈S, σ x.1=some x.2)->Inv G own E w σ -> bl E w args vs->(∀ j,p <:+ j->E.μ j=none) ->
   Calls P f vs.toArray w λ e w'=>∃ v E',e = .returned v/\lJ G own E w σ p r v E' w'
def nu (P:Program) (G:Nat->Option (List aa)) (σ : aL) (p:Id) (op:dK aa) (r:bM):Prop :=
 match op with
 | .call f a=>match f with
   | .fn (.func f) first cap=>∃ S,cu P G f (first++a++cap) p S r/\(∀ x∈S, σ x.1=some x.2)/\∀ x∈S,x.1∈r.rd
   | _=>False
 | op=>bS σ p op=some r
def h6 (t:List aa) (d:Option Nat) (v:aa):List aa:=match d with | some d=>t.set d v | none=>t
def od (t:List aa):Option (Nat × Bool)->Option Bool
 | none=>some true
 | some (d,a)=>match t[d]? with
   | some (.bool b)=>some (b==a)
   | some .top | some .jP=>none
   | _=>some false
def gr.keep {E':Env} {w':World} {t:List aa} {a:Act} (h:gr E w t a) (s:e7 E E' w w'):gr E' w' t a:=bl.keep s t _ h
def gr.put {t:List aa} {a:Act} (h:gr E w t a) {c:aa} {v:Value} (i:av E w c v) (d:Option Nat):gr E w (h6 t d c) (a.put d v):=by
 cases d with
 | none=>exact h
 | some d =>
   have ⟨k,f⟩:=fe.1 h
   refine fe.2 ⟨by simpa [h6,Act.put] using k, λ j c' b => ?_⟩
   simp only [h6,xX] at b
   simp only [Act.put,Array.toList_setIfInBounds,xX]
   split at b
   rename_i e
   subst e
   split at b
   rename_i g
   cases b
   exact ⟨v,by rw [if_pos rfl,if_pos (by omega)],i⟩
   simp at b
   rename_i e
   rw [if_neg e]
   exact f j c' b
def gr.aaP {t:List aa} {a:Act} (h:gr E w t a) (d:Nat):(t[d]? = none/\a.tmps[d]? = none) \/ ∃ c v,t[d]? = some c/\a.tmps[d]? = some v/\av E w c v:=by
 have ⟨g,b⟩:=fe.1 h
 by_cases hd:d<t.length
 right
 have ⟨v,f,e⟩:=b d t[d] (by simp [hd])
 exact ⟨t[d],v,by simp [hd],by simpa using f,e⟩
 left
 have:a.tmps.size<=d:=by have:=g;simp at this;omega
 exact ⟨by simp;omega,by simp;omega⟩
def alQ {c:aa} {v:Value} (h:av E w c v) (h1:∀ b,c ≠ .bool b) (a:c ≠ .top) (d:c ≠ .jP):∀ b,v ≠ .bool b:=by
 intro b e
 subst e
 cases c<;>simp only [av,reduceCtorEq,exists_const,false_and,and_false] at h
 exact h1 _ rfl
 all_goals first
   | exact a rfl
   | exact d rfl
   | (have ⟨_,_,h,_⟩:=h;cases h)
   | (have ⟨_,h,_⟩:=h;cases h)
   | (have ⟨_,_,h⟩:=h;cases h)
def Je {ops:Array Oper} {o:Oper} {n:c8} (f:rC P ops o=some n) {t:List aa} {a:Act} (s:gr E w t a) {b:Bool} (h:od t n.guard=some b):OY o (yielded ops a.tmps)=b:=by
 unfold rC at f
 cases g:uP P o.op with
 | none=>simp [g] at f
 | some op =>
   simp only [g] at f
   cases i:o.guard with
   | none =>
     simp only [i,a7] at f;subst f
     simp only [od,a7] at h;subst h
     simp [OY,i]
   | some u =>
     have ⟨j,q⟩:=u
     simp only [i] at f
     cases hd:(ops[j]?).bind (·.dst) with
     | none=>simp [hd] at f
     | some d =>
       simp only [hd,a7] at f;subst f
       simp only [od] at h
       simp only [OY,i,yielded,hd,Option.bind_some]
       rcases s.aaP d with ⟨h1,m⟩ | ⟨c,v,h1,m,l⟩
       simp only [h1,a7] at h;subst h
       simp [m]
       simp only [h1] at h
       simp only [m]
       cases c with
       | bool x =>
         cases h
         simp only [av] at l;subst l
         simp
       | top=>simp at h
       | jP=>simp at h
       | _ =>
         cases h
         have k:=alQ l (by simp) (by simp) (by simp)
         cases v<;>simp at k ⊢
def QC {ops:Array Oper} {o:Oper} {c:c8} (a:rC P ops o=some c):uP P o.op=some c.op/\c.dst=o.dst:=by
 unfold rC at a
 cases b:uP P o.op with
 | none=>simp [b] at a
 | some op =>
   simp only [b] at a
   split at a
   cases a;simp_all
   split at a
   cases a;simp_all
   simp at a
   simp_all
def abH {k:E0} {l:List Operand} (f:dD) (a:List dD):FA k l≠some (.call f a):=by
 unfold FA
 split
 split
 cases k<;>simp
 simp
 simp
def WU (z:Inv G own E w σ) (F:∀ j,p <:+ j->E.μ j=none) {t:List aa} {a:Act} (X:gr E w t a) {o:Oper} {D:dK dD} (d:uP P o.op=some D) {r:bM}
   (h:nu P G σ p (D.map (mP G t)) r) {K:Act->World->Prop} {Q:Exit->Act->World->Prop} (L:∀ v w' E',lJ G own E w σ p r v E' w'->K (a.put o.dst v) w'):o.wp P a w K Q:=by
 have fJ : σ p=none:=by
   cases hs : σ p with
   | none=>rfl
   | some au=>obtain ⟨g,N,cur,ty,Z⟩:=z.blk _ _ hs;have:=Z.μ;rw [F _ (yo _)] at this;simp at this
 have m:bS σ p (D.map (mP G t))=some r->o.wp P a w K Q:=by
   intro M
   obtain ⟨v,w',E',i,C⟩:=ajh z (F p (yo _)) fJ X d M
   unfold Oper.wp
   rcases i with i | ⟨i,rfl⟩
   rw [i];exact L v w' E' C
   rw [i];exact L undef w' E' C
 cases D with
 | call f as =>
   replace d:gI P o.op=some (.call f as):=by
     unfold uP at d
     split at d
     rename_i v M;rw [M];exact d
     simp at d
   simp only [dY,nu] at h
   split at h
   rename_i aqM V first cap B
   obtain ⟨S,k,hS,_⟩:=h
   obtain ⟨⟨fn,O,q,u⟩,k⟩:=k
   cases n:o.op with
   | call c =>
     rw [n] at d
     simp only [gI] at d
     cases l:c.callee with
     | value aqN =>
       simp only [l] at d
       split at d
       case h_2=>exact absurd d (abH _ _)
       split at d
       rename_i aH U h1 Y
       simp only [a7,dK.call.injEq] at d
       obtain ⟨rfl,rfl⟩:=d
       have x:=di X z h1
       rw [B] at x
       simp only [av] at x
       obtain ⟨xs,ys,W,hx,hy⟩:=x
       have T:=Kv X z Y
       have s:bl E w (first++U.map (mP G t)++cap) (xs.toList++(c.args.map a.eval).toList++ys.toList):=nK (nK hx T) hy
       have y:=k own E w σ _ hS z s F
       have i:(execOp a.eval o).run P w = .ok (.enter V (xs++c.args.map a.eval++ys)) w:=by
         have I : ¬ fn.body=none:=by intro e;simp [e] at u
         have H : ¬ fn.name = "runtime.NumGoroutine" := by intro e;simp [e] at q
         simp [execOp,n,resolve,l,W,YI,invoke,callFunc,O,H,I]
       unfold Oper.wp
       rw [i,Oper.upon_enter]
       have R:(xs.toList++(c.args.map a.eval).toList++ys.toList).toArray=xs++c.args.map a.eval++ys:=by apply nA;simp
       rw [R] at y
       refine y.mono λ e w' he => ?_
       obtain ⟨v,E',rfl,C⟩:=he
       exact L v w' E' C
       simp at d
     | invoke _ _=>simp [l] at d
     | builtin b =>
       simp only [l] at d
       unfold Fz at d
       split at d<;>(try split at d)<;>(try split at d)<;>(try split at d)<;>(try split at d)<;>simp at d
   | _ =>
     rw [n] at d
     simp only [gI] at d
     exfalso
     revert d
     clear m B
     intro d
     first
       | simp at d
       | (simp only [ew] at d;obtain ⟨_,_,d⟩:=d;cases d)
       | ((repeat' split at d)<;>first | (simp at d;done) | (simp only [ew] at d;obtain ⟨_,_,d⟩:=d;cases d) | (cases d))
   exact h.elim
 | _=>exact m h
abbrev Done:=Option Nat × bM
def eX (X:Nat->Bool):List Done->Nat->List aa->List aa
 | [],_,t=>t
 | (d,r)::L,i,t=>eX X L (i+1) (if X i then h6 t d r.val else t)
def fS (X:Nat->Bool):List Done->Nat->aL->aL
 | [],_, σ => σ
 | (_,r)::L,i, σ => fS X L (i+1) (if X i then σ.app r.up else σ)
def zQ (t:List aa) (d:Option Nat) (v:aa) (s:Nat):(h6 t d v)[s]? = if d=some s then (if s<t.length then some v else none) else t[s]? := by
 cases d with
 | none=>simp [h6]
 | some d =>
   simp only [h6,xX,a7]
   by_cases e:d=s
   subst e;simp
   simp [e]
def Vi (t:List aa) (d:Option Nat) (v:aa):(h6 t d v).length=t.length:=by cases d<;>simp [h6]
def RY (X:Nat->Bool):∀ (L:List Done) (i:Nat) (t:List aa),(eX X L i t).length=t.length
 | [],_,_=>rfl
 | (d,r)::L,i,t=>by
   simp only [eX];rw [RY X L]
   split
   exact Vi t d r.val
   rfl
def ahD {t a:List aa} {s:Nat} (h:t[s]? = a[s]?):(s<t.length)=(s<a.length):=by
 have h1:s<t.length↔t[s]? ≠ none:=by simp
 have b:s<a.length↔a[s]? ≠ none:=by simp
 exact propext (h1.trans ((by rw [h]:t[s]? ≠ none↔a[s]? ≠ none).trans b.symm))
def F4 {X Y:Nat->Bool} {s:Nat}:∀ (L:List Done) (i:Nat) (t a:List aa),t[s]? = a[s]? -> (∀ k d r,L[k]? = some (d,r)->X (i+k)≠Y (i+k)->d≠some s)->(eX X L i t)[s]? = (eX Y L i a)[s]?
 | [],_,_,_,h,_=>h
 | (d,r)::L,i,t,a,h,hd=>by
   simp only [eX]
   refine F4 L (i+1) _ _ ?_ (λ k j c f e=>hd (k+1) j c (by simpa using f) (by rwa [show i+(k+1)=i+1+k from by omega]))
   by_cases b:X i=Y i
   rw [b]
   split
   rw [zQ,zQ];simp only [ahD h,h]
   exact h
   have:=hd 0 d r rfl b
   have g:(h6 t d r.val)[s]? = t[s]? := by rw [zQ,if_neg this]
   have l:(h6 a d r.val)[s]? = a[s]? := by rw [zQ,if_neg this]
   split<;>split<;>simp only [g,l,h]
def aL.aaF {σ a:aL} {id:Id} (h : σ id=a id):∀ (up:List (Id × Option aN)),(σ.app up) id=(a.app up) id:=by
 intro up
 induction up generalizing σ a with
 | nil=>exact h
 | cons x up c =>
   have ⟨i,b⟩:=x
   simp only [l6]
   refine c ?_
   simp only [wa]
   split<;>first | rfl | exact h
def aL.Fp {σ : aL} {id:Id}:∀ {up:List (Id × Option aN)},id ∉ up.map (·.1)->(σ.app up) id = σ id:=by
 intro up
 induction up generalizing σ with
 | nil=>intro _;rfl
 | cons x up a =>
   have ⟨i,b⟩:=x
   intro h
   simp only [hQ,cr,not_or] at h
   simp only [l6]
   rw [a h.2,vZ _ _ _ h.1]
def aL.aaG {σ c:aL} {id:Id}:∀ {up:List (Id × Option aN)},id∈up.map (·.1)->(σ.app up) id=(c.app up) id:=by
 intro up
 induction up generalizing σ c with
 | nil=>intro h;simp at h
 | cons x up e =>
   have ⟨i,b⟩:=x
   intro h
   simp only [l6]
   by_cases a:id∈up.map (·.1)
   exact e a
   have d:id=i:=by simpa [a] using h
   subst d
   rw [aL.Fp a,aL.Fp a,Bf,Bf]
def F3 {X Y:Nat->Bool} {id:Id}:∀ (L:List Done) (i:Nat) (σ a:aL), σ id=a id->(∀ k d r,L[k]? = some (d,r)->X (i+k)≠Y (i+k)->id ∉ r.up.map (·.1))->fS X L i σ id=fS Y L i a id
 | [],_,_,_,h,_=>h
 | (d,r)::L,i, σ,a,h,hd=>by
   simp only [fS]
   refine F3 L (i+1) _ _ ?_ (λ k g c f e=>hd (k+1) g c (by simpa using f) (by rwa [show i+(k+1)=i+1+k from by omega]))
   by_cases b:X i=Y i
   rw [b]
   split
   exact aL.aaF h _
   exact h
   have:=hd 0 d r rfl b
   split<;>split<;>simp only [aL.Fp this,h]
def RX {X:Nat->Bool} {s:Nat} {r:bM}:∀ (L:List Done) (i j:Nat) (t:List aa),L[j]? = some (some s,r)->X (i+j)=true->(∀ k d a,L[k]? = some (d,a)->j<k->X (i+k)=true->d≠some s) ->
   (eX X L i t)[s]? = if s<t.length then some r.val else none
 | [],_,_,_,h,_,_=>by simp at h
 | (d,a)::L,i,0,t,h,e,hd=>by
   simp only [sA,a7,cY] at h
   obtain ⟨rfl,rfl⟩:=h
   simp only [eX]
   rw [iL] at e
   rw [if_pos e]
   have:=F4 (X:=X) (Y := λ _=>false) (s:=s) L (i+1) (h6 t (some s) a.val) (h6 t (some s) a.val) rfl (λ k d f b c=>hd (k+1) d f (by simpa using b) (by omega) (by
     rw [show i+(k+1)=i+1+k from by omega]
     cases m:X (i+1+k) with
     | true=>rfl
     | false=>simp [m] at c))
   rw [this]
   have none:∀ (L:List Done) (i:Nat) (t:List aa),eX (λ _=>false) L i t=t:=by
     intro L
     induction L with
     | nil=>intro _ _;rfl
     | cons x L n=>intro i t;have ⟨d,r⟩:=x;simp only [eX];rw [n];simp
   rw [none,zQ,if_pos rfl]
 | (d,a)::L,i,j+1,t,h,e,hd=>by
   simp only [eX]
   have:=RX L (i+1) j (if X i then h6 t d a.val else t) (by simpa using h) (by rwa [show i+1+j=i+(j+1) from by omega])
     (λ k d f b l g=>hd (k+1) d f (by simpa using b) (by omega) (by rwa [show i+(k+1)=i+1+k from by omega]))
   rw [this]
   split<;>simp [Vi]
def RW {X:Nat->Bool} {id:Id} {d:Option Nat} {r:bM} {n:aL}:∀ (L:List Done) (i j:Nat) (σ : aL),L[j]? = some (d,r)->X (i+j)=true->id∈r.up.map (·.1) ->
   (∀ k d b,L[k]? = some (d,b)->j<k->X (i+k)=true->id ∉ b.up.map (·.1))->fS X L i σ id=(n.app r.up) id
 | [],_,_,_,h,_,_,_=>by simp at h
 | (p,b)::L,i,0, σ,h,f,a,hd=>by
   simp only [sA,a7,cY] at h
   have ⟨rfl,rfl⟩:=h
   simp only [fS]
   rw [iL] at f
   rw [if_pos f]
   have:=F3 (X:=X) (Y := λ _=>false) (id:=id) L (i+1) (σ.app b.up) (σ.app b.up) rfl (λ k d e c g=>hd (k+1) d e (by simpa using c) (by omega) (by
     rw [show i+(k+1)=i+1+k from by omega]
     cases m:X (i+1+k) with
     | true=>rfl
     | false=>simp [m] at g))
   rw [this]
   have none:∀ (L:List Done) (i:Nat) (σ : aL),fS (λ _=>false) L i σ = σ := by
     intro L
     induction L with
     | nil=>intro _ _;rfl
     | cons x L q=>intro i t;have ⟨d,r⟩:=x;simp only [fS];rw [q];simp
   rw [none]
   exact aL.aaG a
 | (p,b)::L,i,j+1, σ,h,f,a,hd=>by
   simp only [fS]
   exact RW L (i+1) j _ (by simpa using h) (by rwa [show i+1+j=i+(j+1) from by omega]) a
     (λ k d e c o l=>hd (k+1) d e (by simpa using c) (by omega) (by rwa [show i+(k+1)=i+1+k from by omega]))
def Ld {X:Nat->Bool}:∀ (L:List Done) (i:Nat) (t:List aa),(∀ k,k<L.length->X (i+k)=false)->eX X L i t=t
 | [],_,_,_=>rfl
 | (d,r)::L,i,t,h=>by
   simp only [eX]
   have:=h 0 (by simp)
   rw [iL] at this
   rw [this]
   exact Ld L (i+1) t (λ k a=>by rw [show i+1+k=i+(k+1) from by omega];exact h (k+1) (by simpa using a))
def Lb {X:Nat->Bool}:∀ (L:List Done) (i:Nat) (σ : aL),(∀ k,k<L.length->X (i+k)=false)->fS X L i σ = σ
 | [],_,_,_=>rfl
 | (d,r)::L,i,t,h=>by
   simp only [fS]
   have:=h 0 (by simp)
   rw [iL] at this
   rw [this]
   exact Lb L (i+1) t (λ k a=>by rw [show i+1+k=i+(k+1) from by omega];exact h (k+1) (by simpa using a))
end
section
variable (P:Program) (G:Nat->Option (List aa)) (π : Id)
def tX (σ : aL) (p:Id) (op:dK aa) (K:bM->Prop):Prop :=
 match op with
 | .call f a=>match f with
   | .fn (.func f) first cap=>∃ S r,cu P G f (first++a++cap) p S r/\(∀ x∈S, σ x.1=some x.2)/\(∀ x∈S,x.1∈r.rd)/\K r
   | _=>False
 | op=>match bS σ p op with
   | some r=>K r
   | none=>False
def qS (a:Nat) (K:List aa->aL->Prop):List c8->Nat->List aa->aL->Prop
 | [],_,t, σ => K t σ
 | o::os,i,t, σ => match od t o.guard with
   | none=>False
   | some false=>qS a K os (i+1) (h6 t o.dst (.aS [])) σ
   | some true=>tX P G σ ((a+i) :: π) (o.op.map (mP G t)) λ r=>qS a K os (i+1) (h6 t o.dst r.val) (σ.app r.up)
def p5 (a:Nat) (K:List bM->List aa->aL->Prop):List c8->Nat->List bM->List aa->aL->Prop
 | [],_,b,t, σ => K b.reverse t σ
 | o::os,i,b,t, σ => match od t o.guard with
   | none=>False
   | some false=>p5 a K os (i+1) ({ val := .aS [] }::b) (h6 t o.dst (.aS [])) σ
   | some true=>tX P G σ ((a+i) :: π) (o.op.map (mP G t)) λ r=>p5 a K os (i+1) (r::b) (h6 t o.dst r.val) (σ.app r.up)
def apart (a b:bM):Prop:=(∀ x∈a.up,x.1 ∉ b.rd/\x.1 ∉ b.up.map (·.1))/\∀ x∈b.up,x.1 ∉ a.rd
def Bt (c:List bM) (d:List (Nat × Nat)):Prop:=∀ q∈d,∀ a b,c[q.1]? = some a->c[q.2]? = some b->apart a b
def IC (a:Nat) (o:c8) (k:Nat) (t:List aa) (σ : aL) (r:bM):Prop :=
 (od t o.guard=some false/\r={ val := .aS [] }) \/ (od t o.guard=some true/\nu P G σ ((a+k) :: π) (o.op.map (mP G t)) r)
end
section
variable {P:Program} {G:Nat->Option (List aa)} {π : Id} {own:Nat->Prop} {E:Env} {w:World} {σ : aL}
def X6 {σ : aL} {p:Id} {op:dK aa} {K:bM->Prop} (h:tX P G σ p op K):∃ r,nu P G σ p op r/\K r:=by
 unfold tX at h
 cases op with
 | call f g =>
   simp only [] at h
   split at h
   have ⟨S,r,h1,b,d,e⟩:=h
   exact ⟨r,⟨S,h1,b,d⟩,e⟩
   exact h.elim
 | _ =>
   simp only [] at h
   split at h
   rename_i r c;exact ⟨r,c,h⟩
   exact h.elim
def X3 {a:Nat} {K:List bM->List aa->aL->Prop}:∀ {os:List c8} {i:Nat} {c:List bM} {t:List aa} {σ : aL},p5 P G π a K os i c t σ ->
   ∃ b:List bM,b.length=os.length /\
     (∀ k o r,os[k]? = some o->b[k]? = some r->IC P G π a o (i+k) (eX (λ m=>m<i+k) ((os.map (·.dst)).zip b) i t) (fS (λ m=>m<i+k) ((os.map (·.dst)).zip b) i σ) r) /\
     K (c.reverse++b) (eX (λ _=>true) ((os.map (·.dst)).zip b) i t) (fS (λ _=>true) ((os.map (·.dst)).zip b) i σ)
 | [],i,c,t, σ,h=>⟨[],rfl,by simp,by simpa [p5,eX,fS] using h⟩
 | o :: os,i,c,t, σ,h=>by
   have l:∀ r,IC P G π a o i t σ r->p5 P G π a K os (i+1) (r::c) (h6 t o.dst r.val) (σ.app r.up) ->
       ∃ b:List bM,b.length=(o::os).length /\
         (∀ k e r,(o::os)[k]? = some e->b[k]? = some r->IC P G π a e (i+k) (eX (λ m=>m<i+k) (((o::os).map (·.dst)).zip b) i t) (fS (λ m=>m<i+k) (((o::os).map (·.dst)).zip b) i σ) r) /\
         K (c.reverse++b) (eX (λ _=>true) (((o::os).map (·.dst)).zip b) i t) (fS (λ _=>true) (((o::os).map (·.dst)).zip b) i σ):=by
     intro r g n
     have ⟨b,h1,u,q⟩:=X3 n
     refine ⟨r::b,by simp [h1], ?_, ?_⟩
     intro k e s j d
     cases k with
     | zero =>
       simp only [sA,a7] at j d
       subst j;subst d
       rw [Ld _ _ _ (λ k _=>by simp),Lb _ _ _ (λ k _=>by simp),iL]
       exact g
     | succ k =>
       have:=u k e s (by simpa using j) (by simpa using d)
       simp only [hQ,List.zip_cons_cons,eX,fS]
       have hd:decide (i<i+(k+1))=true:=by simp
       rw [if_pos hd,if_pos hd]
       rw [show i+(k+1)=i+1+k from by omega]
       exact this
     simpa [eX,fS] using q
   simp only [p5] at h
   split at h
   exact h.elim
   rename_i f
   exact l { val := .aS [] } (.inl ⟨f,rfl⟩) h
   rename_i f
   have ⟨r,g,p⟩:=X6 h
   exact l r (.inr ⟨f,g⟩) p
def XC {q q':Nat} {π j:Id} (h:(q :: π) <:+ j) (b:q≠q') : ¬ (q' :: π) <:+ j:=by
 intro d
 have:=List.suffix_of_suffix_length_le h d (by simp)
 have ⟨l,a⟩:=this
 have c:l=[]:=by
   have:=congrArg List.length a
   simp at this;exact this
 subst c
 simp at a
 exact b a
def lJ.frame {p:Id} {r:bM} {v:Value} {E':Env} {w':World} (h:lJ G own E w σ p r v E' w') {t:List aa} {a:Act} (b:gr E w t a) (d:Option Nat):gr E' w' (h6 t d r.val) (a.put d v) :=
 (b.keep h.jc.step).put h.rep d
def XB {t:List aa} {a:Act} (b:gr E w t a) (d:Option Nat):gr E w (h6 t d (.aS [])) (a.put d undef) :=
 b.put (by simp only [av,undef];exact ⟨#[],rfl,by simp [bl]⟩) d
def HX (a:Act) (d:Option Nat) (v:Value):(a.put d v).defers=a.defers:=by cases d<;>rfl
def l8 (E:Env) (π : Id) (n:Nat):Prop:=∀ j, π <:+ j->(∀ q,q<n -> ¬ (q :: π) <:+ j)->E.μ j=none
def l8.at {π : Id} {n q:Nat} (h:l8 E π n) (c:n<=q) {j:Id} (a:(q :: π) <:+ j):E.μ j=none :=
 h j ((YR q π).trans a) λ q' b=>XC a (by omega)
def l8.mono {π : Id} {n a:Nat} (h:l8 E π n) (e:n<=a):l8 E π a := λ j d c=>h j d λ q b=>c q (by omega)
def l8.step {π : Id} {n:Nat} {E':Env} (h:l8 E π n) (a:∀ i:Id, ¬ (n :: π) <:+ i->E'.μ i=E.μ i):l8 E' π (n+1) := λ j c b=>by
 rw [a j (b n (by omega))];exact h j c λ q d=>b q (by omega)
def l8.self {π : Id} {n:Nat} (h:l8 E π n):E.μ π = none :=
 h π (yo _) λ q _ a=>by have:=a.length_le;simp at this;omega
structure gN (own:Nat->Prop) (π : Id) (E E':Env) (w w':World):Prop extends Adv own E E' w w' where
 ids:∀ i:Id, ¬ π <:+ i->E'.μ i=E.μ i
def gN.refl (own:Nat->Prop) (π : Id) (E:Env) (w:World):gN own π E E w w:=⟨sB own E w, λ _ _=>rfl⟩
def gN.trans {π : Id} {E' d:Env} {w' c:World} (a:gN own π E E' w w') (b:gN own π E' d w' c):gN own π E d w c :=
 ⟨a.toAdv.trans b.toAdv, λ i e=>(b.ids i e).trans (a.ids i e)⟩
def lJ.Qb {π : Id} {q:Nat} {r:bM} {v:Value} {E':Env} {w':World} (h:lJ G own E w σ (q :: π) r v E' w'):gN own π E E' w w' :=
 ⟨h.jc, λ i a=>h.ids i λ b=>a ((YR q π).trans b)⟩
def X4 {ops:Array Oper} {b:Nat} {K:List aa->aL->Prop} {Q:Exit->Act->World->Prop} :
   ∀ (l:List Oper) (i:Nat),(∀ k,l[k]? = ops[i+k]?)->∀ (vs:List c8),l.mapM (rC P ops)=some vs->∀ (t:List aa) (σ : aL) (a:Act) (E:Env) (w:World),qS P G π b K vs i t σ ->
   gr E w t a->Inv G own E w σ -> l8 E π (b+i) ->
   (∀ h p a' E' w',K h p->gN own π E E' w w'->gr E' w' h a'->Inv G own E' w' p->l8 E' π (b+i+l.length)->a'.defers=a.defers->Q .normal a' w') ->
   wpOps P ops Q ((List.range' i l.length)) a w
 | [],i,_,vs,q,t, σ,a,E,w,f,m,y,c,D=>by
   simp at q;subst q
   simp only [qS] at f
   simp only [jB,List.range'_zero,wpOps]
   exact D t σ a E w f (gN.refl own π E w) m y c rfl
 | o :: l,i,S,vs,q,t, σ,a,E,w,f,m,y,c,D=>by
   simp only [List.mapM_cons,Option.pure_def,Option.bind_eq_bind,Option.bind_eq_some_iff] at q
   have ⟨Z,n,u,A,R⟩:=q
   cases R
   have ⟨F,g⟩:=QC n
   have M:ops[i]? = some o:=by have:=S 0;simpa using this.symm
   simp only [e6,List.range'_succ]
   rw [wpOps_cons]
   unfold wpOp
   rw [M]
   simp only []
   have rest:∀ (h:List aa) (p:aL) (a':Act) (E':Env) (w':World),qS P G π b K u (i+1) h p->gN own π E E' w w'->gr E' w' h a'->Inv G own E' w' p->l8 E' π (b+i+1)->a'.defers=a.defers ->
       wpOps P ops Q (List.range' (i+1) l.length) a' w':=by
     intro h p a' E' w' I O H B d z
     refine X4 l (i+1) (λ k=>by rw [show i+1+k=i+(k+1) from by omega, <- S];simp) u A h p a' E' w' I H B (by rw [<- Nat.add_assoc];exact d) ?_
     intro t2 X U V T N s L J e tk
     exact D t2 X U V T N (O.trans s) L J (by rw [e6,show b+i+(l.length+1)=b+(i+1)+l.length from by omega];exact e) (tk.trans z)
   simp only [qS] at f
   split at f
   exact f.elim
   rename_i C
   rw [Je n m C]
   simp only [jO,if_false]
   rw [<- g]
   exact rest _ _ _ E w f (gN.refl own π E w) (XB m _) y (c.mono (by omega)) (HX _ _ _)
   rename_i C
   rw [Je n m C]
   simp only [if_true]
   have ⟨r,Y,N⟩:=X6 f
   left
   refine WU y (λ j W=>c.at (a4 _) W) m F Y ?_
   intro v w' E' x
   rw [<- g]
   exact rest _ _ _ E' w' N x.Qb (x.frame m _) x.inv (c.step x.ids) (HX _ _ _)
def RZ (f:Nat->Nat) (b:Nat):∀ (l:List Nat) (s:Nat),(l.foldl (λ s i=>s ||| 2 ^ i ||| f i) s).testBit b=true->s.testBit b=true \/ ∃ e∈l,b=e \/ (f e).testBit b=true
 | [],s,h => .inl h
 | i::l,s,h=>by
   simp only [List.foldl_cons] at h
   rcases RZ f b l _ h with h | ⟨e,a,h⟩
   simp only [Nat.testBit_or,Bool.or_eq_true,Nat.testBit_two_pow,decide_eq_true_eq] at h
   rcases h with (h | h) | h
   exact .inl h
   exact .inr ⟨i,by simp, .inl h.symm⟩
   exact .inr ⟨i,by simp, .inr h⟩
   exact .inr ⟨e,by simp [a],h⟩
def T5:∀ (b:List (List Nat)) (a:List Nat),(ik b a).length=a.length+b.length
 | [],a=>by simp [ik]
 | l::r,a=>by simp only [ik];rw [T5 r];simp;omega
def Mr:∀ (b:List (List Nat)) (a:List Nat) (k:Nat),k<a.length->(ik b a)[k]? = a[k]?
 | [],a,k,_=>by simp [ik]
 | l::r,a,k,h=>by
   simp only [ik]
   rw [Mr r _ k (by simp;omega),kB h]
def T4:∀ (c:List (List Nat)) (a:List Nat) (j:Nat) (l:List Nat),c[j]? = some l->∃ b:List Nat,b.length=a.length+j/\(∀ k,k<b.length->(ik c a)[k]? = b[k]?) /\
   (ik c a)[a.length+j]? = some (l.foldl (λ s i=>s ||| 2 ^ i ||| b.getD i 0) 0)
 | [],_,_,_,h=>by simp at h
 | l'::r,a,0,l,h=>by
   simp only [sA,a7] at h;subst h
   refine ⟨a,rfl, λ k e=>Mr _ _ k e, ?_⟩
   simp only [ik]
   rw [Mr r _ _ (by simp),kh (by omega)]
   simp
 | l'::r,a,j+1,l,h=>by
   simp only [ik]
   have ⟨b,h1,f,d⟩:=T4 r (a++[l'.foldl (λ s i=>s ||| 2 ^ i ||| a.getD i 0) 0]) j l (by simpa using h)
   refine ⟨b,by simp at h1;omega,f, ?_⟩
   simp only [cd,List.length_singleton] at d
   rw [show a.length+(j+1)=a.length+1+j from by omega]
   exact d
def ah7 {a:List (List Nat)} {j b:Nat} (d:∀ e∈a.getD j [],e<j) (h:((ik a []).getD j 0).testBit b=true):∃ e∈a.getD j [],b=e \/ ((ik a []).getD e 0).testBit b=true:=by
 by_cases g:j<a.length
 have ⟨c,h1,n,f⟩:=T4 a [] j a[j] (by simp [g])
 simp only [jB,c4] at h1 f
 have m:(ik a []).getD j 0=a[j].foldl (λ s i=>s ||| 2 ^ i ||| c.getD i 0) 0:=by simp [AJ,f]
 rw [m] at h
 have l:a.getD j []=a[j]:=by simp [AJ,g]
 rw [l] at d ⊢
 rcases RZ _ b _ _ h with h | ⟨e,k,h⟩
 simp at h
 refine ⟨e,k,h.imp id λ h => ?_⟩
 have:(ik a []).getD e 0=c.getD e 0:=by
   simp only [AJ]
   rw [n e (by rw [h1];exact d e k)]
 rw [this];exact h
 have:(ik a []).getD j 0=0:=by
   have:=T5 a []
   simp only [AJ]
   rw [List.getElem?_eq_none (by simp at this;omega)]
   rfl
 rw [this] at h
 simp at h
def T3 {a:List (List Nat)} {X:Nat->Bool} {n:Nat} (d:∀ j,j<n->∀ e∈a.getD j [],e<j) (l:∀ k,k<n->X k=true->∀ e∈a.getD k [],X e=true) :
   ∀ j,j<n->(∀ e∈a.getD j [],X e=true)->∀ b,((ik a []).getD j 0).testBit b=true->X b=true:=by
 intro j
 induction j using xY with
 | _ j m =>
   intro g i b hb
   have ⟨e,c,h⟩:=ah7 (d j g) hb
   have f:=d j g e c
   rcases h with rfl | h
   exact i b c
   exact m e f (by omega) (l e (by omega) (i e c)) b h
def dK.map_congr {α β : Type} {g h : α -> β}:∀ (op:dK α),(∀ x∈op.args,g x=h x)->op.map g=op.map h:=by
 intro op d
 have i:∀ (l:List α),(∀ x∈l,x∈op.args)->l.map g=l.map h := λ l i=>p8 λ x SW=>d x (i x SW)
 have e:∀ (l:Option α),(∀ x,l=some x->x∈op.args)->l.map g=l.map h:=by
   intro l i;cases l with
   | none=>rfl
   | some x=>simp [d x (i x rfl)]
 cases op<;>simp only [dY,dK.args] at d i e ⊢
 case build z ps=>congr 1;apply p8;intro q r;rw [d q.2.2 (bn.2 ⟨q,r,rfl⟩)]
 case uO k n z ps=>congr 1;apply p8;intro q r;rw [d q.2 (bn.2 ⟨q,r,rfl⟩)]
 case zu fn a c=>rw [i a (by simp +contextual),i c (by simp +contextual)]
 case call f as=>rw [d f (by simp),i as (by simp +contextual)]
 case slice k x lo j mx=>rw [d x (by simp),e lo (by simp +contextual),e j (by simp +contextual),e mx (by simp +contextual)]
 case Ab x lo j=>rw [d x (by simp),e lo (by simp +contextual),e j (by simp +contextual)]
 case vv n x lo j=>rw [d x (by simp),e lo (by simp +contextual),e j (by simp +contextual)]
 all_goals try simp only [cr,List.not_mem_nil,or_false,forall_eq_or_imp,forall_eq] at d
 all_goals simp only [d]
def adu {G:Nat->Option (List aa)} {t a:List aa}:∀ (x:dD),(∀ s,x.Xk=some s->t[s]? = a[s]?)->x.ev G t=x.ev G a
 | .t n,h=>by have:=h n rfl;simp [mP,AJ,this]
 | .c _,_=>rfl
 | .g _,_=>rfl
 | .f _,_=>rfl
def KW {σ a:aL} {k:Nat} {x:aa} {ys:List aa} {rd:List Id} (h:je σ k x=some (ys,rd)) (b:∀ id∈rd,a id = σ id):je a k x=some (ys,rd):=by
 unfold je at h ⊢
 split at h
 exact h
 exact h
 exact h
 rename_i id k' off len t
 skip
 split at h
 rename_i au hb
 split at h
 rename_i c
 simp only [a7,cY] at h
 have ⟨rfl,rfl⟩:=h
 have:=b id (by simp)
 rw [this,hb]
 simp [c]
 simp at h
 simp at h
 simp at h
def X2 {σ : aL} {id:Id} {off k:Nat} {news:List aa} {v:aa} {rd:List Id} {r:bM} (h:tV σ id off k news v rd=some r):r.rd=id::rd:=by
 unfold tV at h
 split at h
 split at h
 cases h;rfl
 simp at h
 simp at h
def X1 {σ b:aL} {id:Id} {off k:Nat} {news:List aa} {v:aa} {rd:List Id} {r:bM} (h:tV σ id off k news v rd=some r) (c:∀ id∈r.rd,b id = σ id):tV b id off k news v rd=some r:=by
 have a:=X2 h
 unfold tV at h ⊢
 rw [c id (by rw [a];simp)]
 exact h
def aoI {σ wb:aL} {p:Id} {op:dK aa} {r:bM} (h:bS σ p op=some r) (b:∀ id∈r.rd,wb id = σ id):bS wb p op=some r:=by
 cases op with
 | load agg n x =>
   simp only [bS] at h ⊢
   unfold kV at h ⊢
   split at h
   rename_i id e o
   skip
   cases hb : σ id with
   | none=>simp [hb] at h
   | some au =>
     simp only [hb] at h
     cases i:au.els[e]? with
     | none=>simp [i] at h
     | some el =>
       simp only [i,ew] at h
       obtain ⟨v,hv,rfl⟩:=h
       rw [b id (by simp),hb]
       simp [i,hv]
   exact h
   simp at h
 | store n x v =>
   simp only [bS] at h ⊢
   unfold tY at h ⊢
   split at h
   rename_i id e o
   skip
   cases hb : σ id with
   | none=>simp [hb] at h
   | some au =>
     simp only [hb] at h
     cases i:au.els[e]? with
     | none=>simp [i] at h
     | some el =>
       simp only [i] at h
       split at h
       rename_i B
       cases h
       rw [b id (by simp),hb]
       simp [i,B]
       simp at h
   simp at h
 | append k bytes s x =>
   simp only [bS] at h ⊢
   unfold sy at h ⊢
   cases a:je σ k x with
   | none=>simp [a] at h
   | some q =>
     obtain ⟨ys,rd⟩:=q
     simp only [a] at h
     have f:∀ id∈rd,id∈r.rd:=by
       intro id dz
       split at h
       split at h<;>first | (cases h;exact dz) | simp at h
       split at h
       split at h<;>first | (cases h;exact dz) | simp at h
       split at h<;>first | (cases h;exact dz) | simp at h
       split at h
       split at h
       split at h
       split at h<;>first | (cases h;exact c5 _ dz) | (simp at h;done)
       split at h<;>first | (cases h;exact c5 _ dz) | (split at h<;>first | (cases h;exact c5 _ dz) | (simp at h;done))
       simp at h
       simp at h
       simp at h
     rw [KW a (λ id dz=>b id (f id dz))]
     simp only []
     split at h
     rename_i c
     rw [if_pos c];exact h
     rename_i c
     rw [if_neg c]
     split at h
     exact h
     exact h
     rename_i id k' off len t
     skip
     cases hb : σ id with
     | none=>simp [hb] at h
     | some au =>
       simp only [hb] at h
       have dz:id∈r.rd:=by
         split at h
         split at h
         split at h<;>first | (cases h;simp;done) | (simp at h;done)
         split at h<;>first | (cases h;simp;done) | (split at h<;>first | (cases h;simp;done) | (simp at h;done))
         simp at h
       rw [b id dz,hb]
       exact h
     simp at h
 | s8 x =>
   simp only [bS] at h ⊢
   unfold DK at h ⊢
   cases a:je σ 1 x with
   | none=>simp [a] at h
   | some q =>
     obtain ⟨ys,rd⟩:=q
     simp only [a,ew] at h
     obtain ⟨l,hl,rfl⟩:=h
     rw [KW a b]
     simp [hl]
 | slice k x lo hi mx =>
   simp only [bS] at h ⊢
   cases u:iq k x lo hi mx with
   | some v=>rw [u] at h;exact h
   | none =>
     rw [u] at h
     simp only [tW] at h ⊢
     split at h
     rename_i id k' off len B
     cases hb : σ id with
     | none=>simp [hb] at h
     | some au =>
       simp only [hb] at h
       split at h
       rename_i hc
       simp only [ew] at h
       obtain ⟨v,hv,rfl⟩:=h
       rw [b id (by simp),hb]
       simp [hc,hv]
       simp at h
     exact h
     simp at h
 | vv n x lo hi =>
   simp only [bS] at h ⊢
   unfold Ja at h ⊢
   split at h
   rename_i id e
   cases hb : σ id with
   | none=>simp [hb] at h
   | some au =>
     have D:id∈r.rd:=by
       simp only [hb] at h
       cases a:au.els[e]? with
       | none=>simp [a] at h
       | some el =>
         simp only [a] at h
         cases m:iD n lo hi with
         | none=>simp [m] at h
         | some q =>
           obtain ⟨l,r'⟩:=q
           simp only [m] at h
           split at h
           cases h;simp
           simp at h
     simp only [b id D]
     exact h
   simp at h
 | cap x =>
   simp only [bS] at h ⊢
   cases u:Ot x with
   | some v=>rw [u] at h;exact h
   | none =>
     rw [u] at h
     simp only [DM] at h ⊢
     split at h
     rename_i id k' off len
     cases hb : σ id with
     | none=>simp [hb] at h
     | some au =>
       simp only [hb] at h
       split at h
       rename_i hc
       cases h
       rw [b id (by simp),hb]
       simp [hc]
       simp at h
     simp at h
 | nh x y =>
   simp only [bS] at h ⊢
   unfold DT at h ⊢
   split at h
   rename_i i1 _ _ _ _ i2 _ _ _ _
   split at h
   simp at h
   rename_i hne
   cases h1 : σ i1 with
   | none=>simp [h1] at h
   | some b1 =>
     cases C : σ i2 with
     | none=>simp [h1,C] at h
     | some b2 =>
       simp only [h1,C] at h
       split at h
       rename_i hp
       cases h
       simp only [b i1 (by simp),b i2 (by simp),h1,C]
       rw [if_neg hne,if_pos hp]
       simp at h
   simp at h
 | clear k z x =>
   simp only [bS] at h ⊢
   unfold I6 at h ⊢
   split at h
   exact h
   rename_i id k' off len mK
   split at h
   rename_i g;simp only [g,if_true];exact h
   rename_i g
   simp only [g,if_false]
   split at h
   rename_i B;rw [if_pos B];exact X1 h b
   simp at h
   simp at h
 | copy k d x =>
   simp only [bS] at h ⊢
   unfold I7 at h ⊢
   cases a:je σ k x with
   | none=>simp [a] at h
   | some q =>
     obtain ⟨ys,rd⟩:=q
     simp only [a] at h
     have f:∀ id∈rd,id∈r.rd:=by
       intro id dz
       split at h
       cases h;exact dz
       split at h
       cases h;exact dz
       split at h
       have:=X2 h;rw [this];exact c5 _ dz
       simp at h
       simp at h
     rw [KW a (λ id dz=>b id (f id dz))]
     simp only []
     split at h
     exact h
     split at h
     rename_i g;rw [if_pos g];exact h
     rename_i g
     rw [if_neg g]
     split at h
     rename_i hk;rw [if_pos hk];exact X1 h b
     simp at h
     simp at h
 | _=>exact h
def ani {P:Program} {G:Nat->Option (List aa)} {σ c:aL} {p:Id} {op:dK aa} {r:bM} (h:nu P G σ p op r) (e:∀ id∈r.rd,c id = σ id):nu P G c p op r:=by
 cases op with
 | call f i =>
   simp only [nu] at h ⊢
   split at h
   have ⟨S,h1,g,b⟩:=h
   exact ⟨S,h1, λ x d=>by rw [e _ (b x d)];exact g x d,b⟩
   exact h
 | _=>exact aoI h e
def CS {oZ:Option aa} {r:bM} (h:dB oZ=some r):r.rd=[]/\r.up=[]:=by
 cases oZ with
 | none=>simp [dB] at h
 | some c=>simp only [dB,e5,a7] at h;subst h;exact ⟨rfl,rfl⟩
def ako {P:Program} {G:Nat->Option (List aa)} {σ : aL} {p:Id} {op:dK dD} (a:op.pure=true) {t:List aa} {r:bM} (h:nu P G σ p (op.map (mP G t)) r):r.rd=[]/\r.up=[]:=by
 cases op<;>simp only [dK.pure,jO] at a<;>simp only [dY,nu,bS] at h
 all_goals first
   | exact CS h
   | (simp at h;done)
   | (split at h<;>first | exact CS h | (simp at h;done) | (split at h<;>first | exact CS h | (simp at h;done)))
def ahw {P:Program} {G:Nat->Option (List aa)} {σ : aL} {p:Id} {op:dK dD} (c:op.rP=true) {t:List aa} {r:bM} (h:nu P G σ p (op.map (mP G t)) r):r.up=[]:=by
 cases op<;>simp only [dK.rP,jO] at c
 case s8 =>
   simp only [dY,nu,bS] at h
   unfold DK at h
   split at h
   simp only [ew] at h;obtain ⟨v,_,rfl⟩:=h;rfl
   simp at h
 case nh =>
   simp only [dY,nu,bS] at h
   unfold DT at h
   split at h
   split at h
   simp at h
   split at h
   split at h
   cases h;rfl
   simp at h
   simp at h
   simp at h
 case slice =>
   simp only [dY,nu,bS] at h
   unfold tW at h
   split at h
   exact (CS h).2
   split at h
   split at h
   split at h
   simp only [ew] at h;obtain ⟨v,_,rfl⟩:=h;rfl
   simp at h
   simp at h
   split at h
   split at h
   split at h
   cases h;rfl
   simp at h
   simp at h
   simp at h
   simp at h
 case cap =>
   simp only [dY,nu,bS] at h
   unfold DM at h
   split at h
   exact (CS h).2
   split at h
   split at h
   split at h
   cases h;rfl
   simp at h
   simp at h
   simp at h
 simp only [dY,nu,bS] at h
 unfold kV at h
 split at h
 split at h
 split at h
 simp only [ew] at h;obtain ⟨v,_,rfl⟩:=h;rfl
 simp at h
 simp at h
 simp only [ew] at h;obtain ⟨v,_,rfl⟩:=h;rfl
 simp at h
def Lc {X Y:Nat->Bool}:∀ (L:List Done) (i:Nat) (t:List aa),(∀ k,k<L.length->X (i+k)=Y (i+k))->eX X L i t=eX Y L i t
 | [],_,_,_=>rfl
 | (d,r)::L,i,t,h=>by
   simp only [eX]
   have a:=h 0 (by simp)
   rw [iL] at a
   rw [a]
   exact Lc L (i+1) _ (λ k b=>by rw [show i+1+k=i+(k+1) from by omega];exact h (k+1) (by simpa using b))
def La {X Y:Nat->Bool}:∀ (L:List Done) (i:Nat) (σ : aL),(∀ k,k<L.length->X (i+k)=Y (i+k))->fS X L i σ = fS Y L i σ
 | [],_,_,_=>rfl
 | (d,r)::L,i,t,h=>by
   simp only [fS]
   have a:=h 0 (by simp)
   rw [iL] at a
   rw [a]
   exact La L (i+1) _ (λ k b=>by rw [show i+1+k=i+(k+1) from by omega];exact h (k+1) (by simpa using b))
def Q2 {X Y:Nat->Bool} {i:Nat} (d:X i=false) (e:Y i=true) (b:∀ k,X k=true->Y k=true):∀ (l:List Nat),i∈l->l.countP X<l.countP Y
 | [],h=>by simp at h
 | a::l,h=>by
   have g:l.countP X<=l.countP Y:=List.countP_mono_left λ x _ f=>b x f
   simp only [YS]
   rcases cr.1 h with rfl | h
   simp [d,e];omega
   have:=Q2 d e b l h
   by_cases c:X a=true
   simp [c,b a c];omega
   simp [c];split<;>omega
def Q1 {X:Nat->Bool}:∀ (l:List Nat),l.length<=l.countP X->∀ i∈l,X i=true
 | [],_,i,h=>by simp at h
 | a::l,c,i,h=>by
   have d:=List.countP_le_length (p:=X) (l:=l)
   simp only [YS,e6] at c
   by_cases b:X a=true
   simp only [b,if_true] at c
   rcases cr.1 h with rfl | h
   exact b
   exact Q1 l (by omega) i h
   simp [b] at c;omega
end
section
variable {P:Program} {G:Nat->Option (List aa)} {own:Nat->Prop}
def T7 {n i j:Nat} (a:i<j) (b:j<n):(i,j)∈Fl n:=by
 unfold Fl
 rw [iK]
 exact ⟨j,cR.2 b,bn.2 ⟨i,cR.2 a,rfl⟩⟩
structure J9 (G:Nat->Option (List aa)) (π : Id) (own:Nat->Prop) (L:List Done) (base n:Nat) (t0:List aa) (pw:aL) (a0:Act) (jF:Env) (w0:World) (X:Nat->Bool) (E:Env) (w:World) (a:Act):Prop where
 frame:gr E w (eX X L 0 t0) a
 inv:Inv G own E w (fS X L 0 pw)
 jc:gN own π jF E w0 w
 free:∀ i,i<n->X i=false->∀ j,((base+i) :: π) <:+ j->E.μ j=none
 more:l8 E π (base+n)
 defers:a.defers=a0.defers
def ajZ {ops:Array Oper} {vs:List c8} (zc:ops.toList.mapM (rC P ops)=some vs) (LH:HG vs (ops.toList.map rY)=true)
   {π : Id} {N:Nat} {C:List aa} {I:aL} {M:List bM} (afF:M.length=vs.length)
   (hst:∀ k o r,vs[k]? = some o->M[k]? = some r->IC P G π N o (0+k) (eX (λ m=>m<0+k) ((vs.map (·.dst)).zip M) 0 C) (fS (λ m=>m<0+k) ((vs.map (·.dst)).zip M) 0 I) r)
   (Lr:Bt M (F6 vs (ops.toList.map rY))) {a0:Act} {jF:Env} {w0:World} {Q:Exit->Act->World->Prop}
   (Sr:∀ a E w,J9 G π own ((vs.map (·.dst)).zip M) N ops.size C I a0 jF w0 (λ _=>true) E w a->Q .normal a w) :
   ∀ (fuel:Nat) (c:Array Bool) (a:Act) (E:Env) (w:World),c.size=ops.size->ops.size<=(ba ops.size).countP (λ i=>c.getD i false)+fuel ->
     (∀ k,k<ops.size->c.getD k false=true->∀ e∈(ops.toList.map rY).getD k [],c.getD e false=true) ->
     J9 G π own ((vs.map (·.dst)).zip M) N ops.size C I a0 jF w0 (λ i=>c.getD i false) E w a->wpAny P .any ops Q fuel c a w:=by
 have SU:vs.length=ops.size:=by have:=vh zc;simpa using this
 generalize bA:(vs.map (·.dst)).zip M=L at *
 have aqQ:L.length=ops.size:=by rw [<- bA];simp [afF,SU]
 have J:∀ (k:Nat) (d:Option Nat) (r:bM),L[k]? = some (d,r)↔∃ o:c8,vs[k]? = some o/\o.dst=d/\M[k]? = some r:=by
   intro k d r
   rw [<- bA,List.getElem?_zip_eq_some]
   simp only [iI,ew]
   constructor
   rintro ⟨⟨o,h1,h2⟩,z⟩;exact ⟨o,h1,h2,z⟩
   rintro ⟨o,h1,h2,z⟩;exact ⟨⟨o,h1,h2⟩,z⟩
 generalize SH:ops.toList.map rY=B at *
 have aq3:B.length=ops.size:=by rw [<- SH];simp
 unfold HG at LH
 simp only [hJ,eO] at LH
 obtain ⟨⟨_,hlt⟩,aeW⟩:=LH
 have LC:∀ j,j<ops.size->∀ e∈B.getD j [],e<j:=by
   intro j hj e he
   have:=hlt j (cR.2 (by rw [SU];exact hj)) e he
   simpa using this
 have B8:∀ (i j:Nat) (a b:c8),i<j->vs[i]? = some a->vs[j]? = some b->uS a b=true->((ik B []).getD j 0).testBit i=true:=by
   intro i j a b Cc ha hb hc
   have hj:j<vs.length:=(eu.1 hb).1
   have:=aeW (i,j) (T7 Cc hj)
   simp only [ha,hb,hc,Bool.not_true,Bool.false_or] at this
   exact this
 have O:∀ (i j:Nat) (a b:c8),i<j->vs[i]? = some a->vs[j]? = some b->a.op.pure=false->b.op.pure=false->(a.op.rP&&b.op.rP)=false->((ik B []).getD j 0).testBit i=false->∀ (x y:bM),M[i]? = some x->M[j]? = some y->apart x y:=by
   intro i j a b Cc ha hb afx afy afj A x y hx hy
   have hj:j<vs.length:=(eu.1 hb).1
   refine Lr (i,j) ?_ x y hx hy
   unfold F6
   rw [kA]
   exact ⟨T7 Cc hj,by simp only [ha,hb,afx,afy,afj,A];rfl⟩
 have K:∀ (k:Nat) (o:c8) (r:bM),vs[k]? = some o->M[k]? = some r->(r.rd≠[] \/ r.up≠[])->o.op.pure=false:=by
   intro k o r ho hr g
   cases hp:o.op.pure with
   | false=>rfl
   | true =>
     rcases hst k o r ho hr with ⟨_,rfl⟩ | ⟨_,hs⟩
     simp at g
     obtain ⟨h1,h2⟩:=ako hp hs
     simp [h1,h2] at g
 have Ur:∀ (k:Nat) (o:c8) (r:bM),vs[k]? = some o->M[k]? = some r->r.up≠[]->o.op.rP=false:=by
   intro k o r ho hr g
   cases hp:o.op.rP with
   | false=>rfl
   | true =>
     rcases hst k o r ho hr with ⟨_,rfl⟩ | ⟨_,hs⟩
     simp at g
     exact absurd (ahw hp hs) g
 intro fuel
 induction fuel with
 | zero =>
   intro c a E w LB Sw y5 A
   have F:∀ i,i<ops.size->c.getD i false=true:=by
     intro i hi
     have:=Q1 (X := λ i=>c.getD i false) (ba ops.size) (by simpa using Sw) i (cR.2 hi)
     exact this
   refine ⟨?_,Sr a E w ?_⟩
   apply List.eq_nil_iff_forall_not_mem.2
   intro j hj
   obtain ⟨h1,o,h2,_⟩:=mem_ready.1 hj
   have qv:j<ops.size:=(x2.1 h2).1
   have:=F j qv
   rw [sL] at h1 this
   cases b7:c[j]? with
   | none=>simp [b7] at this
   | some b=>simp [b7] at h1 this;simp [h1] at this
   have e1:eX (λ i=>c.getD i false) L 0 C=eX (λ _=>true) L 0 C:=Lc L 0 C (λ k t=>by rw [c4];exact F k (by omega))
   have e2:fS (λ i=>c.getD i false) L 0 I=fS (λ _=>true) L 0 I:=La L 0 I (λ k t=>by rw [c4];exact F k (by omega))
   exact ⟨e1▸A.frame,e2▸A.inv,A.jc,by simp,A.more,A.defers⟩
 | succ fuel ih =>
   intro c a E w LB Sw y5 A
   have Si:∀ i,i<ops.size->c.getD i true=c.getD i false:=by
     intro i hi
     rw [sL,sL,Array.getElem?_eq_getElem (by omega)]
     rfl
   have UI:∀ (j:Nat) (o:Oper),ops[j]? = some o->B.getD j []=rY o:=by
     intro j o ho
     rw [<- SH]
     have hj:j<ops.size:=(x2.1 ho).1
     have he:ops[j]=o:=(x2.1 ho).2
     simp [AJ,hj,he]
   refine ⟨?_, ?_⟩
   ·
     intro afu
     have F:∀ i,i<ops.size->c.getD i false=true:=by
       intro i
       induction i using xY with
       | _ i age =>
         intro hi
         cases b7:c.getD i false with
         | true=>rfl
         | false =>
           exfalso
           have u:i∈Region.ready .any ops c:=by
             refine mem_ready.2 ⟨(Si i hi).trans b7,ops[i],by simp [hi], ?_⟩
             intro e he hb
             have afn:e.on∈B.getD i []:=by
               rw [UI i ops[i] (by simp [hi])]
               unfold rY
               exact bn.2 ⟨e,kA.2 ⟨by simpa using he,hb⟩,rfl⟩
             have:=LC i hi e.on afn
             exact age e.on this (by omega)
           rw [afu] at u
           simp at u
     have e1:eX (λ i=>c.getD i false) L 0 C=eX (λ _=>true) L 0 C:=Lc L 0 C (λ k t=>by rw [c4];exact F k (by omega))
     have e2:fS (λ i=>c.getD i false) L 0 I=fS (λ _=>true) L 0 I:=La L 0 I (λ k t=>by rw [c4];exact F k (by omega))
     exact Sr a E w ⟨e1▸A.frame,e2▸A.inv,A.jc,by simp,A.more,A.defers⟩
   intro j hj
   obtain ⟨h1,o,ho,ae3⟩:=mem_ready.1 hj
   have Cf:j<ops.size:=(x2.1 ho).1
   have y4:c.getD j false=false:=(Si j Cf).symm.trans h1
   generalize wP:(λ i=>c.getD i false)=X at *
   have Lp:∀ i,c.getD i false=X i := λ i=>by rw [<- wP]
   simp only [Lp] at y5 y4
   have GI:∀ e∈B.getD j [],X e=true:=by
     intro e he
     rw [UI j o ho] at he
     unfold rY at he
     obtain ⟨ada,ae2,rfl⟩:=bn.1 he
     obtain ⟨z,h4⟩:=kA.1 ae2
     rw [<- Lp]
     exact ae3 ada (by simpa using z) h4
   have pre:∀ i,((ik B []).getD j 0).testBit i=true->X i=true:=T3 LC y5 j Cf GI
   have post:∀ k,k<ops.size->X k=true->((ik B []).getD k 0).testBit j=false:=by
     intro k t f
     cases hb:((ik B []).getD k 0).testBit j with
     | false=>rfl
     | true=>have:=T3 LC y5 k t (y5 k t f) j hb;simp [y4] at this
   have Ck:∃ p,vs[j]? = some p/\rC P ops o=some p:=by
     have SD:j<vs.length:=by omega
     obtain ⟨o',z,h4⟩:=mapM_some_get zc j vs[j] (by simp [SD])
     have:o'=o:=by
       have jX:ops.toList[j]? = some o:=by simpa using ho
       rw [jX] at z;simpa using z.symm
     subst this
     exact ⟨vs[j],by simp [SD],h4⟩
   obtain ⟨p,n,Ck⟩:=Ck
   obtain ⟨hop,Sy⟩:=QC Ck
   have afE:j<M.length:=by omega
   obtain ⟨r,hr⟩:∃ r,M[j]? = some r:=⟨M[j],by simp [afE]⟩
   have SK:=hst j p r n hr
   rw [c4] at SK
   have slot:∀ s∈p.names,(eX X L 0 C)[s]? = (eX (λ m=>m<j) L 0 C)[s]? := by
     intro s hs
     refine F4 L 0 C C rfl ?_
     intro k d H t g Lt
     rw [c4] at g
     obtain ⟨ok,z,h4,jX⟩:=(J k d H).1 t
     subst Lt
     have R:k<ops.size:=by have:=(eu.1 z).1;omega
     rcases ub k j with l | rfl | Cb
     have f:X k=false:=by
       cases b7:X k with
       | false=>rfl
       | true=>simp [b7,l] at g
     have hc:uS ok p=true:=by unfold uS;simp [h4,hs]
     have:=pre k (B8 k j ok p l z n hc)
     simp [f] at this
     simp [y4] at g
     have f:X k=true:=by
       cases b7:X k with
       | true=>rfl
       | false=>simp [b7,Nat.not_lt.2 (Nat.le_of_lt Cb)] at g
     have hc:uS p ok=true:=by unfold uS;simp [h4,hs]
     have:=B8 j k p ok Cb n z hc
     rw [post k R f] at this
     simp at this
   have afm:p.op.map (mP G (eX X L 0 C))=p.op.map (mP G (eX (λ m=>m<j) L 0 C)):=by
     refine dK.map_congr _ λ x hx=>adu x λ s hs=>slot s ?_
     unfold c8.names
     exact List.mem_append_left _ (List.mem_filterMap.2 ⟨x,hx,hs⟩)
   have SV:od (eX X L 0 C) p.guard=od (eX (λ m=>m<j) L 0 C) p.guard:=by
     cases hg:p.guard with
     | none=>rfl
     | some q =>
       obtain ⟨s,want⟩:=q
       have:=slot s (by unfold c8.names;simp [hg])
       simp only [od,this]
   have LL:∀ id∈r.rd,fS X L 0 I id=fS (λ m=>m<j) L 0 I id:=by
     intro id dz
     refine F3 L 0 I I rfl ?_
     intro k d H t g u
     rw [c4] at g
     obtain ⟨ok,z,h4,jX⟩:=(J k d H).1 t
     have R:k<ops.size:=by have:=(eu.1 z).1;omega
     have GK:ok.op.pure=false:=K k ok H z jX (.inr (by intro e;simp [e] at u))
     have GJ:p.op.pure=false:=K j p r n hr (.inl (by intro e;simp [e] at dz))
     have SG:ok.op.rP=false:=Ur k ok H z jX (by intro e;simp [e] at u)
     obtain ⟨x,hx,rfl⟩:=bn.1 u
     rcases ub k j with l | rfl | Cb
     have f:X k=false:=by
       cases b7:X k with
       | false=>rfl
       | true=>simp [b7,l] at g
     have hb:((ik B []).getD j 0).testBit k=false:=by
       cases hb:((ik B []).getD j 0).testBit k with
       | false=>rfl
       | true=>have:=pre k hb;simp [f] at this
     exact ((O k j ok p l z n GK GJ (by simp [SG]) hb H r jX hr).1 x hx).1 dz
     simp [y4] at g
     have f:X k=true:=by
       cases b7:X k with
       | true=>rfl
       | false=>simp [b7,Nat.not_lt.2 (Nat.le_of_lt Cb)] at g
     exact (O j k p ok Cb n z GJ GK (by simp [SG]) (post k R f) r H hr jX).2 x hx dz
   generalize aeI:(λ i=>if i=j then true else X i)=sX at *
   have D:∀ i,sX i=if i=j then true else X i := λ i=>by rw [<- aeI]
   have later:∀ (k:Nat) (d:Option Nat) (H:bM),L[k]? = some (d,H)->j<k->sX k=true->∃ ok:c8,vs[k]? = some ok/\ok.dst=d/\M[k]? = some H/\k<ops.size/\X k=true:=by
     intro k d H t l f
     obtain ⟨ok,z,h4,jX⟩:=(J k d H).1 t
     refine ⟨ok,z,h4,jX,by have:=(eu.1 z).1;omega, ?_⟩
     rw [D] at f
     simpa [show k≠j from by omega] using f
   have Gp:L[j]? = some (p.dst,r):=(J j _ _).2 ⟨p,n,rfl,hr⟩
   have W4:h6 (eX X L 0 C) p.dst r.val=eX sX L 0 C:=by
     apply List.ext_getElem?
     intro s
     rw [zQ]
     by_cases hd:p.dst=some s
     rw [if_pos hd]
     rw [RX L 0 j C (by rw [Gp,hd]) (by rw [c4,D];simp) ?_,RY]
     intro k d H t l f Lt
     rw [c4] at f
     obtain ⟨ok,z,h4,jX,R,LQ⟩:=later k d H t l f
     have hc:uS p ok=true:=by unfold uS;simp [hd,h4,Lt]
     have:=B8 j k p ok l n z hc
     rw [post k R LQ] at this
     simp at this
     rw [if_neg hd]
     refine F4 L 0 C C rfl ?_
     intro k d H t g
     rw [c4,D] at g
     have y6:k=j:=by
       apply xZ;intro h;simp [h] at g
     subst y6
     rw [Gp] at t
     simp only [a7,cY] at t
     rw [<- t.1];exact hd
   have V2:(fS X L 0 I).app r.up=fS sX L 0 I:=by
     funext id
     by_cases u:id∈r.up.map (·.1)
     symm
     refine RW L 0 j I Gp (by rw [c4,D];simp) u ?_
     intro k d H t l f SC
     rw [c4] at f
     obtain ⟨ok,z,h4,jX,R,LQ⟩:=later k d H t l f
     have GK:ok.op.pure=false:=K k ok H z jX (.inr (by intro e;simp [e] at SC))
     have GJ:p.op.pure=false:=K j p r n hr (.inr (by intro e;simp [e] at u))
     have afi:p.op.rP=false:=Ur j p r n hr (by intro e;simp [e] at u)
     obtain ⟨x,hx,rfl⟩:=bn.1 u
     exact ((O j k p ok l n z GJ GK (by simp [afi]) (post k R LQ) r H hr jX).1 x hx).2 SC
     rw [aL.Fp u]
     refine F3 L 0 I I rfl ?_
     intro k d H t g
     rw [c4,D] at g
     have y6:k=j:=by
       apply xZ;intro h;simp [h] at g
     subst y6
     rw [Gp] at t
     simp only [a7,cY] at t
     rw [<- t.2];exact u
   have St:∀ i,(c.setIfInBounds j true).getD i false=sX i:=by
     intro i
     rw [D]
     by_cases e:i=j
     subst e
     rw [sL]
     simp [LB,Cf]
     rw [if_neg e,getD_set_ne false (λ h=>e h.symm),Lp]
   have go:∀ (a':Act) (E':Env) (w':World),gr E' w' (eX sX L 0 C) a'->Inv G own E' w' (fS sX L 0 I)->gN own π E E' w w'->(∀ i:Id, ¬ ((N+j) :: π) <:+ i->E'.μ i=E.μ i)->a'.defers=a.defers ->
       wpAny P .any ops Q fuel (c.setIfInBounds j true) a' w':=by
     intro a' E' w' ae5 g7 had SB aeZ
     have Sz:(λ i=>(c.setIfInBounds j true).getD i false)=sX:=funext St
     refine ih _ a' E' w' (by simpa using LB) ?_ ?_ ?_
     rw [Sz]
     have:=Q2 (X:=X) (Y:=sX) (i:=j) y4 (by rw [D];simp) (λ k t=>by rw [D];split<;>simp [t]) (ba ops.size) (cR.2 Cf)
     omega
     intro k t f e he
     rw [St] at f ⊢
     rw [D] at f ⊢
     split
     rfl
     by_cases y6:k=j
     subst y6;exact GI e he
     rw [if_neg y6] at f
     exact y5 k t f e he
     rw [Sz]
     refine ⟨ae5,g7,A.jc.trans had, ?_, ?_,aeZ.trans A.defers⟩
     intro i hi GN j'
     rw [D] at GN
     have Cc:i≠j:=by rintro rfl;simp at GN
     rw [if_neg Cc] at GN
     intro hj'
     rw [SB _ (XC hj' (by omega))]
     exact A.free i hi GN j' hj'
     intro j' hj' hq
     rw [SB _ (hq (N+j) (by omega))]
     exact A.more j' hj' hq
   unfold wpOp
   rw [ho]
   simp only []
   rcases SK with ⟨afQ,rfl⟩ | ⟨afR,SM⟩
   rw [Je Ck A.frame (SV.trans afQ)]
   simp only [jO,if_false]
   refine go _ E w ?_ ?_ (gN.refl own π E w) (λ _ _=>rfl) (HX _ _ _)
   rw [<- W4, <- Sy];exact XB A.frame _
   rw [<- V2];exact A.inv
   rw [Je Ck A.frame (SV.trans afR)]
   simp only [if_true]
   left
   rw [<- afm] at SM
   refine WU A.inv (A.free j Cf y4) A.frame hop (ani SM LL) ?_
   intro v w' E' hp
   refine go _ E' w' ?_ ?_ hp.Qb hp.ids (HX _ _ _)
   rw [<- W4, <- Sy];exact hp.frame A.frame _
   rw [<- V2];exact hp.inv
inductive cw where
 | normal
 | exit (id:Nat)
 | ret
def cw.real:cw->Exit
 | .normal => .normal
 | .exit id => .exit id
 | .ret => .ret
structure dt where
 t:List aa
 σ : aL
 n:Nat
structure py (G:Nat->Option (List aa)) (π : Id) (own:Nat->Prop) (E:Env) (w:World) (s:dt) (a:Act):Prop where
 frame:gr E w s.t a
 inv:Inv G own E w s.σ
 free:l8 E π s.n
 defers:a.defers=[]
def bz (G:Nat->Option (List aa)) (π : Id) (s s':dt):Prop:=∀ own E w a,py G π own E w s a->∃ E',gN own π E E' w w/\py G π own E' w s' a
def bu (P:Program) (G:Nat->Option (List aa)) (π : Id) (eB:cB) (Q:cw->dt->Prop) (s:dt):Prop :=
 ∀ c,gv P c=some eB->∀ own E w a (R:Exit->Act->World->Prop),py G π own E w s a ->
   (∀ e s' E' w' a',Q e s'->gN own π E E' w w'->py G π own E' w' s' a'->R e.real a' w')->c.wp P R a w
end
section
variable {P:Program} {G:Nat->Option (List aa)} {π : Id} {Q:cw->dt->Prop} {s:dt}
def bz.refl (G:Nat->Option (List aa)) (π : Id) (s:dt):bz G π s s := λ own E w _ h=>⟨E,gN.refl own π E w,h⟩
def bz.trans {s s' b:dt} (h:bz G π s s') (k:bz G π s' b):bz G π s b := λ own E w a c=>by
 have ⟨j,g,f⟩:=h own E w a c
 have ⟨e,d,i⟩:=k own j w a f
 exact ⟨e,g.trans d,i⟩
def bu.gV {eB:cB} {s':dt} (h:bz G π s s') (k:bu P G π eB Q s'):bu P G π eB Q s:=by
 intro c n own E w a R b p
 have ⟨j,q,o⟩:=h own E w a b
 exact k c n own j w a R o λ e i m r l d g f=>p e i m r l d (q.trans g) f
def bu.mono {eB:cB} {Q':cw->dt->Prop} (h:bu P G π eB Q s) (g:∀ e s,Q e s->Q' e s):bu P G π eB Q' s :=
 λ c k own E w a R f l=>h c k own E w a R f λ e d j m i b=>l e d j m i (g e d b)
def bu.skip (h:Q .normal s):bu P G π .skip Q s:=by
 intro c b own E w a R d e
 cases c<;>simp only [gv,a7,reduceCtorEq] at b
 exact wp_skip (e .normal s E w a h (gN.refl own π E w) d)
 exfalso;revert b;unfold pD;(repeat' split)<;>simp
 all_goals (exfalso;revert b;(repeat' split)<;>simp)
def QB {c:Code} {g:Option (List (Nat × Nat))} {vs:List c8} (b:gv P c=some (.iB g vs)):∃ id ops a,c = .region id ops a/\ops.toList.mapM (rC P ops)=some vs /\
   ((a=false/\g=none) \/ (a=true/\g=some (F6 vs (ops.toList.map rY))/\HG vs (ops.toList.map rY)=true/\P.follows .mixedOrders=true)):=by
 cases c with
 | region id ops a =>
   simp only [gv,pD] at b
   cases d:ops.toList.mapM (rC P ops) with
   | none=>simp [d] at b
   | some h =>
     simp only [d] at b
     split at b
     rename_i hd
     split at b
     rename_i f
     simp only [a7,cB.iB.injEq] at b
     have ⟨rfl,rfl⟩:=b
     simp only [hJ] at f
     exact ⟨id,ops,a,rfl,d, .inr ⟨hd,rfl,f.1,f.2⟩⟩
     simp at b
     rename_i hd
     simp only [a7,cB.iB.injEq] at b
     have ⟨rfl,rfl⟩:=b
     exact ⟨id,ops,a,rfl,d, .inl ⟨by simpa using hd,rfl⟩⟩
 | _=>exfalso;revert b;simp only [gv];(repeat' split)<;>simp
def bu.V4 {vs:List c8} (h:qS P G π s.n (λ t σ => Q .normal ⟨t, σ,s.n+vs.length⟩) vs 0 s.t s.σ):bu P G π (.iB none vs) Q s:=by
 intro c o own E w a R e v
 obtain ⟨id,ops,b,rfl,d,g⟩:=QB o
 have hd:b=false:=by
   rcases g with ⟨h,_⟩ | ⟨_,h,_⟩
   exact h
   simp at h
 subst hd
 have r:ops.toList.length=vs.length:=(vh d).symm
 refine wp_region ?_
 have:=X4 (P:=P) (G:=G) (own:=own) (ops:=ops) (Q:=R) ops.toList 0 (λ k=>by simp) vs d s.t s.σ a E w h e.frame e.inv e.free (by
   intro l q a' E' w' p f u m i j
   refine v .normal ⟨l,q,s.n+vs.length⟩ E' w' a' p f ⟨u,m,by have h:=i;simp only [iL,r] at h;exact h,j.trans e.defers⟩)
 rw [List.range_eq_range']
 simpa using this
def bu.U0 {v:List (Nat × Nat)} {vs:List c8} (h:p5 P G π s.n (λ g t σ => Bt g v/\Q .normal ⟨t, σ,s.n+vs.length⟩) vs 0 [] s.t s.σ):bu P G π (.iB (some v) vs) Q s:=by
 intro c B own E w a R f F
 obtain ⟨id,ops,y,rfl,e,p⟩:=QB B
 rcases p with ⟨_,I⟩ | ⟨hd,m,l,q⟩
 simp at I
 subst hd
 simp only [a7] at m
 have D:vs.length=ops.size:=by have:=vh e;simpa using this
 have ⟨g,r,o,u,H⟩:=X3 h
 refine wp_region_any q ?_
 have d:J9 G π own ((vs.map (·.dst)).zip g) s.n ops.size s.t s.σ a E w (λ i=>(vE ops.size false).getD i false) E w.drew a:=by
   have x:∀ i,(vE ops.size false).getD i false=false:=by intro i;rw [sL];simp [Array.getElem?_replicate];split<;>rfl
   have K:eX (λ i=>(vE ops.size false).getD i false) ((vs.map (·.dst)).zip g) 0 s.t=s.t:=Ld _ _ _ λ k _=>x _
   have A:fS (λ i=>(vE ops.size false).getD i false) ((vs.map (·.dst)).zip g) 0 s.σ = s.σ := Lb _ _ _ λ k _=>x _
   exact ⟨by rw [K];exact f.frame.keep (Adv.drew (own:=own) E w).step,by rw [A];exact f.inv.drew,⟨Adv.drew E w, λ _ _=>rfl⟩, λ i _ _ j C=>f.free.at (by omega) C,f.free.mono (by omega),rfl⟩
 refine ajZ e l r o (by rw [<- m];simpa using u) (Q:=R) (a0:=a) (jF:=E) (w0:=w) ?_ ops.size (vE ops.size false) a E w.drew (by simp) (by simp) ?_ d
 intro a' E' w' b
 refine F .normal _ E' w' a' H b.jc ⟨b.frame,b.inv,by rw [D];exact b.more,b.defers.trans f.defers⟩
 intro k J z
 rw [sL] at z
 simp [J] at z
def bu.seq {x y:cB} (h:bu P G π x (λ e s'=>match e with | .normal=>bu P G π y Q s' | e=>Q e s') s):bu P G π (.seq x y) Q s:=by
 intro c b own E w a R t l
 cases c<;>simp only [gv,a7,reduceCtorEq] at b
 case seq q r =>
   cases h1:gv P q with
   | none=>simp [h1] at b
   | some gU =>
   cases o:gv P r with
   | none=>simp [h1,o] at b
   | some p2 =>
     simp only [h1,o,a7,cB.seq.injEq] at b
     obtain ⟨rfl,rfl⟩:=b
     refine wp_seq (h q h1 own E w a _ t ?_)
     intro e s' E' w' a' m f d
     cases e with
     | normal=>exact m r o own E' w' a' R d λ e2 u Bm xS uI k j n=>l e2 u Bm xS uI k (f.trans j) n
     | exit id=>exact l (.exit id) s' E' w' a' m f d
     | ret=>exact l .ret s' E' w' a' m f d
 case region=>exfalso;revert b;unfold pD;(repeat' split)<;>simp
 all_goals (exfalso;revert b;(repeat' split)<;>simp)
def bu.cond {eB:dD} {x y:cB} {b:Bool} (hb:eB.ev G s.t = .bool b) (h:if b then bu P G π x Q s else bu P G π y Q s):bu P G π (.cond eB x y) Q s:=by
 intro c d own E w a R g l
 cases c<;>simp only [gv,a7,reduceCtorEq] at d
 case cond o m k =>
   cases e:b6 o with
   | none=>simp [e] at d
   | some n =>
   cases h1:gv P m with
   | none=>simp [e,h1] at d
   | some gU =>
   cases i:gv P k with
   | none=>simp [e,h1,i] at d
   | some p2 =>
     simp only [e,h1,i,a7,cB.cond.injEq] at d
     have ⟨rfl,rfl,rfl⟩:=d
     have j:=di g.frame g.inv e
     rw [hb] at j
     simp only [av] at j
     refine wp_cond j ?_
     cases b with
     | true=>simp only [if_true] at h ⊢;exact h m h1 own E w a R g l
     | false=>simp only [jO,if_false] at h ⊢;exact h k i own E w a R g l
 case region=>exfalso;revert d;unfold pD;(repeat' split)<;>simp
 all_goals (exfalso;revert d;(repeat' split)<;>simp)
def bu.acz {eB:dD} {x y:cB} (hb:eB.ev G s.t = .jP) (h1:bu P G π x Q s) (n:bu P G π y Q s):bu P G π (.cond eB x y) Q s:=by
 intro c d own E w a R g l
 cases c<;>simp only [gv,a7,reduceCtorEq] at d
 case cond p m k =>
   cases e:b6 p with
   | none=>simp [e] at d
   | some o =>
   cases h:gv P m with
   | none=>simp [e,h] at d
   | some gU =>
   cases j:gv P k with
   | none=>simp [e,h,j] at d
   | some p2 =>
     simp only [e,h,j,a7,cB.cond.injEq] at d
     have ⟨rfl,rfl,rfl⟩:=d
     have f:=di g.frame g.inv e
     rw [hb] at f
     simp only [av] at f
     have ⟨b,f⟩:=f
     refine wp_cond f ?_
     cases b with
     | true=>exact h1 m h own E w a R g l
     | false=>exact n k j own E w a R g l
 case region=>exfalso;revert d;unfold pD;(repeat' split)<;>simp
 all_goals (exfalso;revert d;(repeat' split)<;>simp)
def bu.block {id:Nat} {x:cB} (h:bu P G π x (λ e s'=>match e with | .exit i=>if i=id then Q .normal s' else Q (.exit i) s' | e=>Q e s') s):bu P G π (.block id x) Q s:=by
 intro c g own E w a R hm k
 cases c<;>simp only [gv,a7,reduceCtorEq] at g
 case block i q =>
   cases h1:gv P q with
   | none=>simp [h1] at g
   | some p2 =>
     simp only [h1,e5,a7,cB.block.injEq] at g
     obtain ⟨rfl,rfl⟩:=g
     refine wp_block (h q h1 own E w a _ hm ?_)
     intro e s' E' w' a' f d b
     cases e with
     | normal=>exact k .normal s' E' w' a' f d b
     | exit j =>
       simp only [cw.real,Exit.inBlock]
       split
       rename_i o;simp only [o,if_true] at f;exact k .normal s' E' w' a' f d b
       rename_i o;simp only [o,if_false] at f;exact k (.exit j) s' E' w' a' f d b
     | ret=>exact k .ret s' E' w' a' f d b
 case region=>exfalso;revert g;unfold pD;(repeat' split)<;>simp
 all_goals (exfalso;revert g;(repeat' split)<;>simp)
def bu.exit {id:Nat} (h:Q (.exit id) s):bu P G π (.exit id) Q s:=by
 intro c b own E w a R f g
 cases c<;>simp only [gv,a7,reduceCtorEq] at b
 case exit i =>
   simp only [cB.exit.injEq] at b;subst b
   exact wp_exit (g (.exit i) s E w a h (gN.refl own π E w) f)
 case region=>exfalso;revert b;unfold pD;(repeat' split)<;>simp
 all_goals (exfalso;revert b;(repeat' split)<;>simp)
def bu.ret (h:Q .ret s):bu P G π .ret Q s:=by
 intro c d own E w a R e f
 cases c<;>simp only [gv,a7,reduceCtorEq] at d
 case ret=>exact wp_ret (f .ret s E w a h (gN.refl own π E w) e)
 case region=>exfalso;revert d;unfold pD;(repeat' split)<;>simp
 all_goals (exfalso;revert d;(repeat' split)<;>simp)
def Yd {α : Type} {c:Code} {R:Exit->Act->World->Prop} (I : α -> Act->World->Prop) (μ : α -> Nat) {x : α} {a:Act} {w:World} (D:I x a w)
   (g:∀ x a w,I x a w->c.wp P (Exit.then (λ a' w'=>∃ u,I u a' w' /\ μ u < μ x) R) a w):(Code.loop c).wp P R a w:=by
 intro b k cs
 have key:∀ n x a w, μ x=n->I x a w ->
     ∃ e a' w',R e a' w'/\Arrives P (lone (b.at a (.code c :: .inLoop c::k)) cs w) b k cs e a' w':=by
   intro n
   induction n using xY with
   | _ n z =>
     intro x a w B hI
     obtain ⟨e,j,i,f,d⟩:=g x a w hI b (.inLoop c::k) cs
     cases e with
     | normal =>
       obtain ⟨y,r,p⟩:=f
       obtain ⟨C,A,apa,q,h⟩:=z (μ y) (B▸p) y j i rfl r
       exact ⟨C,A,apa,q, .of_steps (Steps.trans d (.one step_inLoop)) h⟩
     | exit id=>exact ⟨_,j,i,f, .pass (x := .inLoop c) rfl (λ _ _ => .inl (by simp)) d⟩
     | goto l=>exact ⟨_,j,i,f, .pass (x := .inLoop c) rfl (λ _ _ => .inl (by simp)) d⟩
     | ret=>exact ⟨_,j,i,f, .pass (x := .inLoop c) rfl (λ _ _ => .inl (by simp)) d⟩
     | panic ch=>exact ⟨_,j,i,f, .pass (x := .inLoop c) rfl (λ _ _ => .inl (by simp)) d⟩
     | outgrown=>exact ⟨_,j,i,f, .pass (x := .inLoop c) rfl (λ _ _ => .inl (by simp)) d⟩
 obtain ⟨e,a',w',f,d⟩:=key _ x a w rfl D
 exact ⟨e,a',w',f, .of_steps (.one step_loop) d⟩
def bu.loop {x:cB} (I:dt->Prop) (m:dt->Nat) (F:∃ s',bz G π s s'/\I s')
   (h:∀ s,I s->bu P G π x (λ e s'=>match e with | .normal=>∃ g,bz G π s' g/\I g/\m g<m s | e=>Q e s') s):bu P G π (.loop x) Q s:=by
 obtain ⟨L,v,y⟩:=F
 refine bu.gV v ?_
 intro c i own E w a R hm z
 cases c<;>simp only [gv,a7,reduceCtorEq] at i
 case loop A =>
   cases h1:gv P A with
   | none=>simp [h1] at i
   | some p2 =>
     simp only [h1,e5,a7,cB.loop.injEq] at i
     subst i
     refine Yd (α := dt) (λ s' a' w'=>I s'/\∃ E',gN own π E E' w w'/\py G π own E' w' s' a') m (x:=L) ⟨y,E,gN.refl own π E w,hm⟩ ?_
     rintro J H xS ⟨t,Bm,b,u⟩
     refine h J t A h1 own Bm xS H _ u ?_
     intro e s' E' w' a' n f d
     cases e with
     | normal =>
       obtain ⟨D,o,r,q⟩:=n
       obtain ⟨K,l,p⟩:=o own E' w' a' d
       exact ⟨D,⟨r,K,(b.trans f).trans l,p⟩,q⟩
     | exit id=>exact z (.exit id) s' E' w' a' n (b.trans f) d
     | ret=>exact z .ret s' E' w' a' n (b.trans f) d
 case region=>exfalso;revert i;unfold pD;(repeat' split)<;>simp
 all_goals (exfalso;revert i;(repeat' split)<;>simp)
def Then (k:dt->Prop) (Q:cw->dt->Prop):cw->dt->Prop
 | .normal,s=>k s
 | .exit i,s=>Q (.exit i) s
 | .ret,s=>Q .ret s
def aaf (id:Nat) (Q:cw->dt->Prop):cw->dt->Prop
 | .normal,s=>Q .normal s
 | .exit i,s=>if i=id then Q .normal s else Q (.exit i) s
 | .ret,s=>Q .ret s
def qT (P:Program) (G:Nat->Option (List aa)) (π : Id):cB->(cw->dt->Prop)->dt->Prop
 | .skip,Q,s=>Q .normal s
 | .iB none vs,Q,s=>qS P G π s.n (λ t σ => Q .normal ⟨t, σ,s.n+vs.length⟩) vs 0 s.t s.σ
 | .iB (some d) vs,Q,s=>p5 P G π s.n (λ a t σ => Bt a d/\Q .normal ⟨t, σ,s.n+vs.length⟩) vs 0 [] s.t s.σ
 | .seq x y,Q,s=>qT P G π x (Then (qT P G π y Q) Q) s
 | .cond c x y,Q,s=>match c.ev G s.t with
   | .bool b=>if b then qT P G π x Q s else qT P G π y Q s
   | .jP=>qT P G π x Q s/\qT P G π y Q s
   | _=>False
 | .block id x,Q,s=>qT P G π x (aaf id Q) s
 | .loop x,Q,s=>bu P G π (.loop x) Q s
 | .exit id,Q,s=>Q (.exit id) s
 | .ret,Q,s=>Q .ret s
def bu.of:∀ {eB:cB} {Q:cw->dt->Prop} {s:dt},qT P G π eB Q s->bu P G π eB Q s
 | .skip,_,_,h=>bu.skip h
 | .iB none _,_,_,h=>bu.V4 h
 | .iB (some _) _,_,_,h=>bu.U0 h
 | .seq x y,Q,s,h=>by
   refine bu.seq (bu.mono (bu.of (eB:=x) h) ?_)
   intro e s' d
   cases e with
   | normal=>exact bu.of (eB:=y) d
   | exit id=>exact d
   | ret=>exact d
 | .cond c x y,Q,s,h=>by
   simp only [qT] at h
   split at h
   rename_i b hb
   refine bu.cond hb ?_
   cases b with
   | true=>exact bu.of (eB:=x) h
   | false=>exact bu.of (eB:=y) h
   rename_i hb
   exact bu.acz hb (bu.of (eB:=x) h.1) (bu.of (eB:=y) h.2)
   exact h.elim
 | .block id x,Q,s,h=>by
   refine bu.block (bu.mono (bu.of (eB:=x) h) ?_)
   intro e s' d
   cases e with
   | normal=>exact d
   | exit i=>exact d
   | ret=>exact d
 | .loop x,Q,s,h=>h
 | .exit id,_,_,h=>bu.exit h
 | .ret,_,_,h=>bu.ret h
end
end Go.aF
