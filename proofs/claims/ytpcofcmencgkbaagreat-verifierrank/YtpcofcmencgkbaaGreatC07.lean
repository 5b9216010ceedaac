/- For the claim of VerifierRank: parts LP4, LP5, LP6, LP7, LP8, LPC, LPI, DG, DH, ZW0, ZW1, ZW2, DI, ZW3, ZW4, ZW5, ZW6, DJ, ZW7, ZW8, DK, ZW9, DL, ZWA, DM, ZWB, DN. -/
import Derived.Test.YtpcofcmencgkbaaGreatC05
import Derived.Test.YtpcofcmencgkbaaGreatC06
import Derived.Test.YtpcofcmencgkbaaGreatC03
import Derived.Test.YtpcofcmencgkbaaGreatC04
set_option linter.defProp false
set_option linter.unusedSimpArgs false
set_option linter.unusedVariables false
set_option maxRecDepth 100000
open Bool renaming false_eq_true->jO
open Go.IntKind renaming i64->cF,u32->gD,u64->de,wrap_i64->cM,wrap_u32->Et,wrap_u64->iu
open Go.Proofs.Tryz renaming prog->ab
open Go.aF renaming Id->bT
open Go.aF.aa renaming one->oe
open Go.aF.yp renaming same->rb
open Go.aF.cu renaming j7->fP
open Go.aF.eQ renaming start->JH
open Go.aF.aB renaming fin->AZ,Mp->JK,s->aG
open Go.aF.aL renaming of->bk
open Go.aF.View renaming aq->fi,ai->kY
open Go.aF.c9 renaming cons->cp,pure->jx
open Go.aF.hX renaming view->l4
open Go.aF.eU renaming same->hN
open Go.aF.bz renaming mh->AY
open Int renaming toNat_natCast->ue
open List renaming append_nil->k5,drop_zero->iZ,ext_getElem->ou,length_append->cd,length_map->aM,length_nil->jB,length_range->dZ,length_take->cZ,lookup->cD,lookup_cons->kc,map_congr_left->p8,mem_cons->cr,mem_cons_self->cS,mem_flatMap->iK,mem_map->bn,mem_of_mem_drop->rk,mem_of_mem_take->gq,mem_singleton->bJ,nil_append->jy,nil_sublist->nF,nodup_cons->iF,nodup_nil->gm,not_mem_nil->cX,replicate->bG,singleton_append->pk,take_of_length_le->hM
open List.Sublist renaming refl->AX
open Nat renaming add_assoc->ow,add_comm->Pf,add_mul->fg,add_mul_div_left->mR,add_mul_mod_self_left->sD,add_right_comm->ZE,add_sub_cancel_left->JJ,add_zero->iL,div_add_mod->hL,div_div_eq_div_mul->ot,div_eq_of_lt->iX,div_le_self->ja,div_lt_iff_lt_mul->l1,div_lt_of_lt_mul->vM,div_one->vN,div_pos->Pe,gcd->cy,gcd_zero_right->Pg,le_add_right->ud,le_mul_of_pos_right->Es,le_of_lt->jt,le_of_not_lt->kD,le_refl->a4,le_sub_one_of_lt->ZD,le_trans->bs,lt_irrefl->yd,lt_of_le_of_lt->gB,lt_of_lt_of_le->fv,lt_of_not_le->A0,lt_or_gt_of_ne->JI,lt_succ_iff_lt_or_eq->ZC,lt_succ_self->ov,lt_trans->yc,lt_trichotomy->ub,min_eq_left->jv,mod_add_div->pd,mod_eq_of_lt->dG,mod_lt->bC,mod_one->sK,mul_add->dC,mul_assoc->eZ,mul_comm->dF,mul_le_mul->lH,mul_le_mul_left->fw,mul_left_comm->l2,mul_lt_mul''->nE,mul_zero->iY,ne_of_gt->Eu,not_lt_zero->kC,pow_add->gC,pow_le_pow_right->dv,pow_succ->ej,pow_zero->nG,succ_mul->jN,zero_add->c4,zero_le->et,zero_mul->re
open Ne renaming symm->c3
set_option maxHeartbeats 4000000
open Go.aF Go.Proofs Go.Lib
namespace Go.aF
def aiY {c len i:Nat} {id:Id} {t:Bool} (h:i<len):fY c (.ai id c 0 len t) (.int .i64 (i:Int))=some (.ref id i 0):=by
 show (if c=c/\(0:Int)<=(i:Int)/\(i:Int)<(len:Int) then some (aa.ref id (0+((i:Int)).toNat) 0) else none)=_
 rw [if_pos ⟨rfl,by omega,by omega⟩,ue,c4]
def Uy {σ : aL} {id:Id} {L:List aa} {c i n:Nat} {b a:Bool} {e v:aa} (d : σ id=some ⟨L,c,b⟩) (f:L[i]? = some e) (hv:part a e.cells 0 n=some v):kV σ a n (.ref id i 0)=some { val:=v,rd:=[id] }:=by
 simp only [kV,d,f,hv,Option.map_some]
def ai0 {σ : aL} {id:Id} {L:List aa} {c i n:Nat} {e v:aa} (d : σ id=some ⟨L,c,false⟩) (f:L[i]? = some e) (b:v.cells.length=n) (h1:n<=e.size) (a:v.cells.all oe=true):tY σ n (.ref id i 0) v=some { val := .aS [],rd:=[id],up:=[(id,some ⟨L.set i (e.upd 0 v.cells),c,false⟩)] }:=by
 simp only [tY,d,f]
 rw [if_pos ⟨trivial,b,by omega,a⟩]
instance {α : Type} {f : α -> aa} {l:List α} [h:∀ x,bg (f x)]:br (l.map f):=⟨λ c hc=>by obtain ⟨x,_,rfl⟩:=bn.1 hc;exact bg.pure, λ ρ => by
 rw [jl]
 exact (p8 λ c hc=>by obtain ⟨x,_,rfl⟩:=bn.1 hc;exact bg.fix ρ).trans (List.map_id _)⟩
instance {a b:List aa} [h:br a] [k:br b]:br (a++b):=⟨λ c hc=>(List.mem_append.1 hc).elim (h.pure c) (k.pure c), λ ρ => by rw [r9,h.fix,k.fix]⟩
section
variable {P:Program} {G:Nat->Option (List aa)} {α : Type}
def dM (k c:Nat) (id:Id) (t:Bool) (len i:Nat) (h:i<len:=by omega):aZ P G:=ho k (aiY (c:=c) (id:=id) (t:=t) h)
def g6 (k n:Nat) (a:Bool) (id:Id) (c:Nat) (f : α -> aa) (M:List α) (i:Nat) (v:aa) (h:i<M.length:=by omega) (hv:part a (f M[i]).cells 0 n=some v:=by rfl):aZ P G :=
 .st k [(id,⟨M.map f,c,false⟩)] (.load a n (.ref id i 0)) (λ _=>{ val:=v,rd:=[id] }) (λ σ p b=>Uy (b _ cS) (by simp [h]) hv)
def De {k:IntKind} {a b:Nat} (h:0<b):eH .rem .int (.int k (a:Int)) (.int k (b:Int))=some (.int k ((a%b:Nat):Int)):=by
 have h1 : ¬ ((b:Int)=0):=by omega
 have e:lW .rem .int (.int k (a:Int)) (.int k (b:Int))=some (.int k ((a%b:Nat):Int)):=by
   have c:p4 .rem k (a:Int) (b:Int)=some (.int k ((a%b:Nat):Int)):=by
     show (if (b:Int)=0 then none else some (aa.int k (Int.tmod a b)))=_
     rw [if_neg h1,Int.ofNat_tmod]
   simp only [lW,c]
   try simp
 unfold eH
 rw [e]
def th (k:Nat) (b:IntKind) (f : α -> aa) (l:List α) (a:Nat) (h:0<l.length):aZ P G:=ho k (o:=eH .rem .int (.int b (a:Int)) (.int b ((l.map f).length:Nat))) (v := .int b ((a%l.length:Nat):Int)) (by rw [De (by rw [aM];exact h),aM])
def y3 (k:Nat) (c:IntKind) (a b:Nat) (h:0<b:=by decide):aZ P G:=ho k (De (k:=c) (a:=a) (b:=b) h)
def ti (k:Nat) (d:IntKind) (a b c:Nat) (h:a%b=c) (e:0<b:=by decide):aZ P G:=ho k (o:=eH .rem .int (.int d (a:Int)) (.int d (b:Int))) (v := .int d (c:Int)) (by rw [De e,h])
def Ll (k:Nat) (c:IntKind) (a b:Nat) (h:0<b):aZ P G:=ho k (De (k:=c) (a:=a) (b:=b) h)
def fU {k:Nat} {l:List aa} [h:cq k l]:(l.all λ e=>e.cells.all oe)=true:=List.all_eq_true.2 λ e a=>(h.all e a).one
def mj (key k bytes:Nat) (ys:List aa) [h:cq k ys] (d:ys≠[]) (hb:ys.length*bytes<=140737488355328) (c:0<bytes:=by decide):aZ P G :=
 .st key [] (.append k bytes (.dQ k []) (.sl k ys)) (λ p=>{ val := .ai p k 0 ys.length false,up:=[(p,some ⟨ys,k,false⟩)] }) (λ σ p e=>by
   have a:ys.isEmpty=false:=by cases ys<;>simp at d ⊢
   have b:ys.length<=maxLen:=tz (bs (Es _ c) hb)
   have h1:=fU (l:=ys) (k:=k)
   show sy σ p k bytes (.dQ k []) (.sl k ys)=_
   unfold sy
   rw [show je σ k (.sl k ys)=some (ys,[]) from by simp [je]]
   simp only [a,jO,if_false]
   rw [if_pos ⟨trivial,by rw [jB,c4];exact hb,by rw [jB,c4];exact b,by rw [jy];exact h1⟩,jB,c4,jy])
def aek (key k bytes:Nat) (id:Id) (els ys:List aa) [cq k els] [cq k ys] (c:ys≠[]) (hb:(els.length+ys.length)*bytes<=140737488355328) (a:0<bytes:=by decide):aZ P G :=
 .st key [(id,⟨els,k,false⟩)] (.append k bytes (.ai id k 0 els.length false) (.sl k ys)) (λ p=>{ val := .ai p k 0 (els.length+ys.length) false,rd:=[id],up:=[(id,none),(p,some ⟨els++ys,k,false⟩)] }) (λ σ p b=>DJ (by simp [je]) c (b _ cS) rfl hb (tz (bs (Es _ a) hb)) (fU (k:=k)) (fU (k:=k)))
def Li (key k bytes q:Nat) (l:List aa) (x:aa) (a:(l.length+1)*bytes<=140737488355328) (h3:(l.all λ e=>e.cells.all oe)=true) (d:x.cells.all oe=true:=by rfl) (hb:0<bytes:=by decide):aZ P G :=
 .st key [([q,0],⟨[x],k,false⟩),([1],⟨l,k,false⟩)] (.append k bytes (.ai [1] k 0 l.length false) (.ai [q,0] k 0 1 false)) (λ p=>{ val := .ai p k 0 (l.length+1) false,rd:=[[1],[q,0]],up:=[([1],none),(p,some ⟨l++[x],k,false⟩)] })
   (λ σ p b=>by
     have h:=b ([q,0],⟨[x],k,false⟩) (by simp)
     have c:=b ([1],⟨l,k,false⟩) (by simp)
     exact DJ (σ := σ) (p:=p) (id:=[1]) (k:=k) (bytes:=bytes) (len:=l.length) (x := .ai [q,0] k 0 1 false) (els:=l) (ys:=[x]) (rd:=[[q,0]]) (by rw [FT h rfl (by simp)];rfl) (by simp) c rfl a (tz (bs (Es _ hb) a)) (by simpa using d) h3)
def Fo {c:cB} {n w so key d kQ:Nat} {A B:List (Nat × aa)} [hU A] [hU B] {L row:List aa} [s:cq 1 L] [br L] [l:cq d row] [br row] (o:kQ=row.length) (i:(L.length+1)*24<=140737488355328) (q:Nat) (τ : aB) (h:List (aZ P G)->List (aZ P G))
   (eA:L=[]->h8 [(τ.a,⟨[.ai τ.b d 0 kQ false],1,false⟩),(τ.b,⟨row,d,false⟩)] (fr n ((so, .ai τ.a 1 0 1 false)::B)) w (bX true 1000 c [0] (h []) ⟨fr n ((so, .aq)::A),cf [],0⟩)=h7 .normal [(τ.a,⟨[.ai τ.b d 0 kQ false],1,false⟩),(τ.b,⟨row,d,false⟩)] (fr n ((so, .ai τ.a 1 0 1 false)::B)) (bX true 1000 c [0] (h []) ⟨fr n ((so, .aq)::A),cf [],0⟩):=by intros;kernel_rfl)
   (u:L≠[]->∀ x,x=aa.ai τ.b d 0 kQ false->h8 [(τ.a,⟨L++[x],1,false⟩),(τ.b,⟨row,d,false⟩)] (fr n ((so, .ai τ.a 1 0 (L.length+1) false)::B)) w (bX true 1000 c [0] (h [Li key 1 24 q L (.ai τ.b d 0 kQ false) i (fU (k:=1))]) ⟨fr n ((so, .ai [1] 1 0 L.length false)::A),cf [([1],⟨L,1,false⟩)],0⟩)=h7 .normal [(τ.a,⟨L++[x],1,false⟩),(τ.b,⟨row,d,false⟩)] (fr n ((so, .ai τ.a 1 0 (L.length+1) false)::B)) (bX true 1000 c [0] (h [Li key 1 24 q L (.ai τ.b d 0 kQ false) i (fU (k:=1))]) ⟨fr n ((so, .ai [1] 1 0 L.length false)::A),cf [([1],⟨L,1,false⟩)],0⟩):=by rintro _ _ rfl;kernel_rfl)
   (j:kx w τ = true:=by kernel_rfl):a2 P G c n w .normal (λ q=>(so,bq q.a 1 L)::A) (λ q=>a8 q.a 1 L++[]) (λ q=>(so,bq q.a 1 (L++[.sl d row]))::B) (λ q=>a8 q.a 1 (L++[.sl d row])++[]):=by
 have r:∀ p,bq p 1 (L++[aa.sl d row]) = .ai p 1 0 (L.length+1) false := λ p=>by rw [dA (by simp),cd];rfl
 have v:∀ p,a8 p 1 (L++[aa.sl d row])=[(p,⟨L++[.sl d row],1,false⟩)] := λ p=>dx (by simp)
 simp only [r,v]
 by_cases e:L=[]
 subst e
 have key:=aW (P:=P) (G:=G) (c:=c) (n:=n) (w:=w) (e := .normal) (A := λ _=>(so, .aq)::A) (B := λ q=>(so, .ai q.a 1 0 1 false)::B) (bZ := λ _=>[]) (ct := λ q=>[(q.a,⟨[.ai q.b d 0 kQ false],1,false⟩),(q.b,⟨row,d,false⟩)]) τ (h []) (eA rfl) j
 exact key.gV λ q m g=>by
   have:=bz.Gc (G:=G) (n:=n) (so:=so) (ln:=1) (F:=B) (t:=false) (L:=[]) g (λ e f=>(cX f).elim) (λ e f=>l.all e f) o
   exact this
 simp only [dA e,dx e]
 have key:=aW (P:=P) (G:=G) (c:=c) (n:=n) (w:=w) (e := .normal) (A := λ q=>(so, .ai q.a 1 0 L.length false)::A) (B := λ q=>(so, .ai q.a 1 0 (L.length+1) false)::B) (bZ := λ q=>[(q.a,⟨L,1,false⟩)]) (ct := λ q=>[(q.a,⟨L++[.ai q.b d 0 kQ false],1,false⟩),(q.b,⟨row,d,false⟩)]) τ (h [Li key 1 24 q L (.ai τ.b d 0 kQ false) i (fU (k:=1))]) (u e _ rfl) j
 exact key.gV λ q m g=>by
   have:=bz.Gc (G:=G) (n:=n) (so:=so) (ln:=L.length+1) (F:=B) (t:=false) (L:=L) g (λ e f=>(s.all e f).size) (λ e f=>l.all e f) o
   exact this
def a2.drop {c:cB} {n w k:Nat} {e:cw} {A B:aB->List (Nat × aa)} {bZ:aB->List (Id × aN)} {l:List aa} {y:aB->aN} (h:a2 P G c n w e A bZ B (λ q=>a8 q.a k l++[(q.b,y q)])):a2 P G c n w e A bZ B (λ q=>a8 q.a k l++[]) :=
 h.gV λ q m g=>bz.forget (gF.same _) (λ id=>by
   rw [k5]
   by_cases d:l=[]
   left;rw [d];rfl
   rw [dx d]
   by_cases f:id=q.a
   right;subst f;simp [bk,cD]
   left
   have:(id==q.a)=false:=by simpa using f
   show cD _ _=_
   rw [kc,this]
   rfl) (a4 _)
def nX (x n:Nat) (id:Id) (c:Nat) (f : α -> aa) (M:List α) (i:Nat) (r : α) (a:List α) (d:M.set i r=a) (h:i<M.length:=by omega) (j:(f r).cells.length=n:=by rfl) (h1:n<=(f M[i]).size:=by exact a4 _) (b:(f r).cells.all oe=true:=by rfl) (hu:(f M[i]).upd 0 (f r).cells=f r:=by rfl):aZ P G :=
 .st (x+100000) [(id,⟨M.map f,c,false⟩)] (.store n (.ref id i 0) (f r)) (λ _=>{ val := .aS [],rd:=[id],up:=[(id,some ⟨a.map f,c,false⟩)] }) (λ σ p g=>by
   have e:=ai0 (g _ cS) (show (M.map f)[i]? = some (f M[i]) by simp [h]) j h1 b
   rw [hu, <- List.map_set,d] at e
   exact e)
def jY (key k bytes:Nat) (id:Id) (q:Nat) (l:List aa) (x:aa) (a:(l.length+1)*bytes<=140737488355328) (h3:(l.all λ e=>e.cells.all oe)=true) (d:x.cells.all oe=true:=by rfl) (hb:0<bytes:=by decide):aZ P G :=
 .st key [([q,0],⟨[x],k,false⟩),(id,⟨l,k,false⟩)] (.append k bytes (.ai id k 0 l.length false) (.ai [q,0] k 0 1 false)) (λ p=>{ val := .ai p k 0 (l.length+1) false,rd:=[id,[q,0]],up:=[(id,none),(p,some ⟨l++[x],k,false⟩)] })
   (λ σ p b=>by
     have h:=b ([q,0],⟨[x],k,false⟩) (by simp)
     have c:=b (id,⟨l,k,false⟩) (by simp)
     exact DJ (σ := σ) (p:=p) (id:=id) (k:=k) (bytes:=bytes) (len:=l.length) (x := .ai [q,0] k 0 1 false) (els:=l) (ys:=[x]) (rd:=[[q,0]]) (by rw [FT h rfl (by simp)];rfl) (by simp) c rfl a (tz (bs (Es _ hb) a)) (by simpa using d) h3)
def Ye {i:Nat} (h:i<1000000):cF.wrap ((i:Int)+1)=((i+1:Nat):Int):=by rw [cM];omega
def Sn (key k bytes:Nat) (ys:List aa) (n:Nat) (c:ys.length=n) [h:cq k ys] (d:ys≠[]) (hb:ys.length*bytes<=140737488355328) (e:0<bytes:=by decide):aZ P G :=
 .st key [] (.append k bytes (.dQ k []) (.sl k ys)) (λ p=>{ val := .ai p k 0 n false,up:=[(p,some ⟨ys,k,false⟩)] }) (λ σ p f=>by
   subst c
   have a:ys.isEmpty=false:=by cases ys<;>simp at d ⊢
   have b:ys.length<=maxLen:=tz (bs (Es _ e) hb)
   have h1:=fU (l:=ys) (k:=k)
   show sy σ p k bytes (.dQ k []) (.sl k ys)=_
   unfold sy
   rw [show je σ k (.sl k ys)=some (ys,[]) from by simp [je]]
   simp only [a,jO,if_false]
   rw [if_pos ⟨trivial,by rw [jB,c4];exact hb,by rw [jB,c4];exact b,by rw [jy];exact h1⟩,jB,c4,jy])
def aou {F:List (Id × aN)} {q:Id} {k:Nat} {l:List aa} (h:l≠[]->bk F q=some ⟨l,k,false⟩) (b:∀ e∈l,cU k e):hX F (bq q k l) (.sl k l):=by
 by_cases a:l=[]
 subst a;exact l4 (fi k)
 rw [dA a]
 exact sz (h a) b
def Mt {q:Id} {k:Nat} {l:List aa} {K:List (Id × aN)} (a:l≠[]):bk (a8 q k l++K) q=some ⟨l,k,false⟩:=by rw [dx a];simp [bk]
def aic {q q':Id} {k:Nat} {l:List aa} {b:aN} (h:q≠q'):bk (a8 q k l++[(q',b)]) q'=some b:=by
 unfold a8
 split
 simp [bk]
 have:(q'==q)=false:=by simpa using c3 h
 show cD q' ([(q,_)]++[(q',b)])=_
 rw [pk,kc,this]
 simp [cD]
def eQ.Fg {m:Nat} {q:aB} (g:eQ m q):q.a≠q.b := λ e=>by
 have:=g.nd
 simp [aB.l] at this
 exact this.1.1 e
def a2.adY {c:cB} {n w so i f d h:Nat} {e:cw} {A:aB->List (Nat × aa)} {bZ:aB->List (Id × aN)} {l L:List aa} (H:a2 P G c n w e A bZ (λ q=>[(so,bq q.a f l),(i, .ai q.b d 0 h false)]) (λ q=>a8 q.a f l++[(q.b,⟨L,d,false⟩)])) (j:h=L.length) (p:∀ e∈l,cU f e) (o:∀ e∈L,cU d e):a2 P G c n w e A bZ (λ _=>[(so, .sl f l),(i, .sl d L)]) (λ _=>[]) :=
 H.gV λ q m g=>by
   subst j
   refine bz.yV ?_ ?_
   have:=w6 (q:=q.a) (k:=f) (l:=l) (K:=[(q.b,(⟨L,d,false⟩:aN))]) (L:=[q.b]) (AX _)
   refine List.Nodup.sublist this ?_
   simp [eQ.Fg g]
   exact jL i (jL so (hN _ _) (aou (λ h=>Mt h) p)) (sz (aic (eQ.Fg g)) o)
end
section
variable {P:Program} {G:Nat->Option (List aa)}
def pH {f:FuncId} {A:List aa} {r:aa} (i:Id) (k:Nat) (l:List aa) (n:Nat) (g:l.length=n) [cq k l] [m:br A] (h:ag P G f (A++[.sl k l]) r):aZ P G:=qw [(i,⟨l,k,false⟩)] (args:=A++[.ai i k 0 n false]) h (by
 subst g
 have e:∀ A:List aa,(∀ c∈A,b8 c)->c9 (bk [(i,(⟨l,k,false⟩:aN))]) (A++[.ai i k 0 l.length false]) (A++[.sl k l]) := λ A=>by
   induction A with
   | nil=>exact λ _=>cp (im (b:=false) (by simp [bk,cD])) c9.nil
   | cons a A j=>exact λ d=>cp (View.pure (d a cS)) (j λ c hc=>d c (List.mem_cons_of_mem _ hc))
 exact e A m.pure)
def bz.R6 {n m l k ln:Nat} {X:Nat × aa} {F:List (Nat × aa)} {q:aB} {b:Bool} {f:aN} {L:List aa} (g:eQ m q) (u:ln=L.length) (p:∀ e∈L,cU k e) (r:∀ e∈f.els,e.size=f.k) :
   bz G [0] ⟨fr n (X::(l, .ai q.b k 0 ln false)::F),bk [(q.a,f),(q.b,⟨L,k,b⟩)],m⟩ ⟨fr n (X::(l, .sl k L)::F),bk [(q.a,f)],m⟩:=by
 subst u
 have j:=eQ.Fg g
 have h:(q.b==q.a)=false:=by simpa using c3 j
 have hb:bk [(q.a,f),(q.b,(⟨L,k,b⟩:aN))] q.b=some ⟨L,k,b⟩:=by
   show cD _ _=_
   rw [kc,h]
   simp [cD]
 refine AY [(q.b,⟨L,k,b⟩)] (λ y t=>by rw [bJ.1 t];exact hb) ?_ (λ i => ?_) (a4 _)
 refine ny F (jL l (jL X.1 (hN _ _) (hX.same _ _)) ?_)
 refine l4 (kY (au:=⟨L,k,b⟩) (by simp [bk,cD]) rfl (by simp) ?_ rfl λ d hd=>(p d hd).size)
 rw [iZ,hM (a4 _)]
 exact jx λ c hc=>by
   have ⟨e,v,hc⟩:=iK.1 hc
   exact (p e v).cells c hc
 by_cases o:i=q.a
 subst o
 exact .inr ⟨f,f,by simp [bk],by simp [bk],rb (λ x s=>by rw [bJ.1 s];exact c3 j) r⟩
 refine .inl ?_
 have:(i==q.a)=false:=by simpa using o
 show cD _ _=_
 rw [kc,this]
 rfl
def bz.R7 {n m z k ln:Nat} {X:Nat × aa} {F:List (Nat × aa)} {q:aB} {b:Bool} {h f:aN} {L:List aa} (g:eQ m q) (J:ln=L.length) (D:∀ e∈L,cU k e) (I:∀ e∈h.els,e.size=h.k) (hc:∀ e∈f.els,e.size=f.k:=by intro e A;rw [bJ.1 A];rfl) :
   bz G [0] ⟨fr n (X::(z, .ai q.b k 0 ln false)::F),bk [(q.a,h),(q.b,⟨L,k,b⟩),(q.c,f)],m⟩ ⟨fr n (X::(z, .sl k L)::F),bk [(q.a,h),(q.c,f)],m⟩:=by
 subst J
 have j:=eQ.Fg g
 have u:=g.nd
 simp only [aB.l,iF,cr,cX,or_false,not_or] at u
 have C:q.a≠q.c:=u.1.2.1
 have s:q.b≠q.c:=u.2.1.1
 have o:(q.b==q.a)=false:=by simpa using c3 j
 have t:(q.c==q.a)=false:=by simpa using c3 C
 have v:(q.c==q.b)=false:=by simpa using c3 s
 have hb:bk [(q.a,h),(q.b,(⟨L,k,b⟩:aN)),(q.c,f)] q.b=some ⟨L,k,b⟩:=by
   show cD _ _=_
   rw [kc,o]
   simp [cD]
 have B:bk [(q.a,h),(q.b,(⟨L,k,b⟩:aN)),(q.c,f)] q.c=some f:=by
   show cD _ _=_
   rw [kc,t]
   show cD _ [(q.b,_),(q.c,f)]=_
   rw [kc,v]
   simp [cD]
 have p:bk [(q.a,h),(q.c,f)] q.c=some f:=by
   show cD _ _=_
   rw [kc,t]
   simp [cD]
 refine AY [(q.b,⟨L,k,b⟩)] (λ y H=>by rw [bJ.1 H];exact hb) ?_ (λ i => ?_) (a4 _)
 refine ny F (jL z (jL X.1 (hN _ _) (hX.same _ _)) ?_)
 refine l4 (kY (au:=⟨L,k,b⟩) (by simp [bk,cD]) rfl (by simp) ?_ rfl λ d hd=>(D d hd).size)
 rw [iZ,hM (a4 _)]
 exact jx λ c hc=>by
   have ⟨e,A,hc⟩:=iK.1 hc
   exact (D e A).cells c hc
 by_cases E:i=q.a
 subst E
 exact .inr ⟨h,h,by simp [bk],by simp [bk],rb (λ x w=>by rw [bJ.1 w];exact c3 j) I⟩
 by_cases r:i=q.c
 subst r
 exact .inr ⟨f,f,B,p,rb (λ x w=>by rw [bJ.1 w];exact s) hc⟩
 refine .inl ?_
 have h1:(i==q.a)=false:=by simpa using E
 have K:(i==q.c)=false:=by simpa using r
 show cD _ _=_
 rw [kc,h1]
 show cD _ [(q.c,f)]=_
 rw [kc,K]
 rfl
def Mu {q i:Id} {k:Nat} {l:List aa} {K:List (Id × aN)} (h:i≠q):bk (a8 q k l++K) i=bk K i:=by
 unfold a8
 split
 rfl
 have:(i==q)=false:=by simpa using h
 show cD i ([(q,_)]++K)=_
 rw [pk,kc,this]
 rfl
def Beside (y:aB->List (Id × aN)):Prop:=∀ m q,eQ m q->∀ x∈y q,x.1≠q.a/\∀ e∈x.2.els,e.size=x.2.k
def bz.wK {n m so k:Nat} {B:List (Nat × aa)} {y:List (Id × aN)} {a:Id} {l:List aa} (d:∀ e∈l,cU k e) (f:∀ x∈y,x.1≠a/\∀ e∈x.2.els,e.size=x.2.k):bz G [0] ⟨fr n ((so,bq a k l)::B),bk (a8 a k l++y),m⟩ ⟨fr n ((so, .sl k l)::B),bk y,m⟩ :=
 AY (a8 a k l) (λ x c=>by
   unfold a8 at c
   split at c
   exact (cX c).elim
   next d=>rw [bJ.1 c];exact Mt d) (ny B (jL so (hN _ _) (OA d))) (λ i=>by
   cases h:bk y i with
   | none=>exact .inl rfl
   | some b =>
     have g:=qy h
     have ⟨h1,j⟩:=f _ g
     exact .inr ⟨b,b,by rw [Mu h1];exact h,rfl,rb (λ x c=>by
       unfold a8 at c
       split at c
       exact (cX c).elim
       rw [bJ.1 c];exact c3 h1) j⟩) (a4 _)
def a2.wK {c:cB} {n w so k:Nat} {e:cw} {A:aB->List (Nat × aa)} {bZ:aB->List (Id × aN)} {B:aB->List (Nat × aa)} {y:aB->List (Id × aN)} {l:List aa} (h:a2 P G c n w e A bZ (λ q=>(so,bq q.a k l)::B q) (λ q=>a8 q.a k l++y q)) (d:∀ e∈l,cU k e) (b:Beside y):a2 P G c n w e A bZ (λ q=>(so, .sl k l)::B q) y :=
 h.gV λ q m g=>bz.wK d (b m q g)
def Kn {Y Z:aB->aN} (h:∀ q,∀ e∈(Y q).els,e.size=(Y q).k) (f:∀ q,∀ e∈(Z q).els,e.size=(Z q).k):Beside (λ q=>[(q.b,Y q),(q.c,Z q)]) := λ m q g x d=>by
 have a:=g.nd
 simp only [aB.l,iF,cr,cX,or_false,not_or] at a
 rcases cr.1 d with rfl | d
 exact ⟨c3 a.1.1,h q⟩
 rw [bJ.1 d];exact ⟨c3 a.1.2.1,f q⟩
def dh (a b c d e:aa):aN:=⟨[.agg [a,b,c,d,e]],5,false⟩
def nM {a b c d e:aa}:∀ x∈(dh a b c d e).els,x.size=(dh a b c d e).k := λ x f=>by rw [bJ.1 f];rfl
instance {a b c e:aa} {d:aB->aa} [f:bg a] [hb:bg b] [hc:bg c] [hd:kj d] [g:bg e]:pz (λ q=>dh a b c (d q) e):=⟨λ ρ q=>by
 show aN.mk [.agg [a.aX ρ,b.aX ρ,c.aX ρ,(d q).aX ρ,e.aX ρ]] 5 false=_
 rw [f.fix,hb.fix,hc.fix,hd.nat,g.fix];rfl⟩
def bz.R5 {n m:Nat} {T:List (Nat × aa)} {q:aB} {L L':List aa} {a0 y u t w b1 b2 b4:aa} {z:aN} (g:eQ m q) (A:L.length=L'.length) (E:∀ e∈L',e.size=1) (D:∀ e∈L,e.size=1) (hv:∀ F,eU F (flat L) (flat L')) (N:∀ c∈flat L',b8 c) (M:∀ F,hX F a0 w) (h1:∀ F,hX F y b1) (K:∀ F,hX F u b2) (h4:∀ F,hX F t b4) (I:∀ e∈z.els,e.size=z.k) (v:∀ σ : aL,c9 σ (flat L) (flat L')) :
   bz G [0] ⟨fr n T,bk (a8 q.a 1 L++[(q.b,dh a0 y u (bq q.a 1 L) t),(q.c,z)]),m⟩ ⟨fr n T,bk [(q.b,dh w b1 b2 (.sl 1 L') b4),(q.c,z)],m⟩:=by
 have r:=g.nd
 simp only [aB.l,iF,cr,cX,or_false,not_or] at r
 have j:q.b≠q.a:=c3 r.1.1
 have p:q.c≠q.a:=c3 r.1.2.1
 have f:(q.c==q.b)=false:=by simpa using c3 r.2.1.1
 have B:∀ i,i≠q.a->∀ x∈a8 q.a 1 L,x.1≠i := λ i s x d=>by
   unfold a8 at d
   split at d
   exact (cX d).elim
   rw [bJ.1 d];exact c3 s
 have J:hX (a8 q.a 1 L) (bq q.a 1 L) (.sl 1 L'):=by
   by_cases o:L=[]
   subst o
   have:L'=[]:=List.eq_nil_of_length_eq_zero A.symm
   subst this
   exact l4 (fi 1)
   rw [dA o,dx o]
   refine l4 (kY (au:=⟨L,1,false⟩) (by simp [bk,cD]) rfl (by simp) ?_ A.symm E)
   rw [iZ,hM (a4 _)]
   exact v _
 refine AY (a8 q.a 1 L) (λ x d=>by
   unfold a8 at d
   split at d
   exact (cX d).elim
   next o=>rw [bJ.1 d];exact Mt o) (hN _ _) (λ i => ?_) (a4 _)
 by_cases s:i=q.b
 subst s
 refine .inr ⟨dh a0 y u (bq q.a 1 L) t,dh w b1 b2 (.sl 1 L') b4,by rw [Mu j];simp [bk,cD],by simp [bk,cD],rfl, .inl rfl, λ _=>B _ j,rfl,nM, ?_⟩
 exact ⟨M _,h1 _,K _,J,h4 _,trivial⟩
 by_cases h:i=q.c
 subst h
 exact .inr ⟨z,z,by rw [Mu p];show cD _ _=_;rw [kc,f];simp [cD],by show cD _ _=_;rw [kc,f];simp [cD],rb (B _ p) I⟩
 refine .inl ?_
 have C:(i==q.b)=false:=by simpa using s
 have H:(i==q.c)=false:=by simpa using h
 show cD _ _=_
 rw [kc,C]
 show cD _ [(q.c,z)]=_
 rw [kc,H]
 rfl
end
section
variable {x y z u:aB->aN} [hx:pz x] [hy:pz y] [hz:pz z] [hu:pz u] {k:Nat} {l:List aa} [hl:br l]
instance:dy (λ q=>a8 q.a k l++[(q.c,z q)]):=⟨λ ρ q=>by show dX ρ (a8 q.a k l++_)=_;rw [vp,zt];show _++[(ρ q.c,(z q).aX ρ)]=_;rw [hz.nat];rfl, λ q=>w6 (.cons _ (.cons_cons _ (nF _)))⟩
instance:dy (λ q=>[(q.b,x q),(q.d,y q)]):=⟨λ ρ q=>by show [(ρ q.b,(x q).aX ρ),(ρ q.d,(y q).aX ρ)]=_;rw [hx.nat,hy.nat];rfl, λ q => .cons _ (.cons_cons _ (.cons _ (.cons_cons _ (nF _))))⟩
instance:dy (λ q=>[(q.a,x q),(q.b,y q),(q.c,z q),(q.d,u q)]):=⟨λ ρ q=>by show [(ρ q.a,(x q).aX ρ),(ρ q.b,(y q).aX ρ),(ρ q.c,(z q).aX ρ),(ρ q.d,(u q).aX ρ)]=_;rw [hx.nat,hy.nat,hz.nat,hu.nat];rfl, λ q=>AX _⟩
end
instance (priority:=1100) aqJ {b c d e:aa} {a:aB->aa} [f:kj a] [hb:bg b] [hc:bg c] [hd:bg d] [g:bg e]:pz (λ q=>dh (a q) b c d e):=⟨λ ρ q=>by
 show aN.mk [.agg [(a q).aX ρ,b.aX ρ,c.aX ρ,d.aX ρ,e.aX ρ]] 5 false=_
 rw [f.nat,hb.fix,hc.fix,hd.fix,g.fix];rfl⟩
section
variable {P:Program} {G:Nat->Option (List aa)}
noncomputable def w3 (aH:dS) (k l s N:Nat) (b:aB) (c:List (Nat × aa)) (d:List (Id × aN)) (T:Nat->aB->List (Nat × aa)) (K:Nat->aB->List (Id × aN)) (e:cw) (fH:aB->List (Nat × aa)) (fy:aB->List (Id × aN)) [gb fH] [dy fy] (g:T 0 b=c) (n:K 0 b=d)
   (h:∀ i,i<N->a2 P G (aU aH k) aH.aK (a5 l) .normal (T i) (K i) (T (i+1)) (K (i+1))) (m:a2 P G (aU aH k) aH.aK (a5 l) e (T N) (K N) fH fy) (j:kx (lb l s) b=true:=by kernel_rfl) (f:N<=9000:=by omega) (a:e ≠ .normal:=by simp):aZ P G :=
 .iA [0] (aU aH k) (fr aH.aK c) d (lb l s) e (fr aH.aK (fH (AZ (le l s)))) (cf (fy (AZ (le l s)))) (le l s+4) (by
   rw [<- g, <- n]
   exact Hb (JH j) h m a (CB f))
def eQ.ne {m:Nat} {q:aB} (g:eQ m q):q.a≠q.b/\q.a≠q.c/\q.a≠q.d/\q.b≠q.c/\q.b≠q.d/\q.c≠q.d:=by
 have e:=g.nd
 simp only [aB.l,iF,cr,cX,or_false,not_or] at e
 have ⟨⟨h1,i,h3⟩,⟨h4,f⟩,h,_⟩:=e
 exact ⟨h1,i,h3,h4,f,h⟩
def eF {i j:Id} (h:i≠j):(i==j)=false:=by simpa using h
def bz.adT {n m so:Nat} {B:List (Nat × aa)} {q:aB} {l L:List aa} {z:aN} (g:eQ m q) (v:∀ e∈l,cU 1 e) (u:∀ e∈L,cU 1 e) (w:∀ e∈z.els,e.size=z.k) :
   bz G [0] ⟨fr n ((so, .ai q.c 1 0 L.length false)::B),bk [(q.a,⟨l,1,false⟩),(q.b,dh (.ai q.a 1 0 l.length false) .aq .aq .aq .aq),(q.c,⟨L,1,false⟩),(q.d,z)],m⟩ ⟨fr n ((so, .sl 1 L)::B),bk [(q.b,dh (.sl 1 l) .aq .aq .aq .aq),(q.d,z)],m⟩:=by
 have ⟨s,o,r,j,p,h⟩:=g.ne
 have y:bk [(q.a,(⟨l,1,false⟩:aN)),(q.c,⟨L,1,false⟩)] q.a=some ⟨l,1,false⟩:=by simp [bk,cD]
 have A:bk [(q.a,(⟨l,1,false⟩:aN)),(q.c,⟨L,1,false⟩)] q.c=some ⟨L,1,false⟩:=by simp [bk,cD,eF (c3 o)]
 refine AY [(q.a,⟨l,1,false⟩),(q.c,⟨L,1,false⟩)] (λ x f => ?_) (ny B (jL so (hN _ _) (sz A u))) (λ i => ?_) (a4 _)
 rcases cr.1 f with rfl | f
 simp [bk,cD]
 rw [bJ.1 f]
 simp [bk,cD,eF (c3 o),eF (c3 j)]
 by_cases h1:i=q.b
 subst h1
 refine .inr ⟨dh (.ai q.a 1 0 l.length false) .aq .aq .aq .aq,dh (.sl 1 l) .aq .aq .aq .aq,by simp [bk,cD,eF (c3 s)],by simp [bk,cD],rfl, .inl rfl, λ _ x f => ?_,rfl,nM,⟨sz y v,hN _ _⟩⟩
 rcases cr.1 f with rfl | f
 exact s
 rw [bJ.1 f];exact c3 j
 by_cases t:i=q.d
 subst t
 refine .inr ⟨z,z,by simp [bk,cD,eF (c3 r),eF (c3 p),eF (c3 h)],by simp [bk,cD,eF (c3 p)],rb (λ x f => ?_) w⟩
 rcases cr.1 f with rfl | f
 exact r
 rw [bJ.1 f];exact h
 exact .inl (by simp [bk,cD,eF h1,eF t])
def bz.adU {n m so:Nat} {B:List (Nat × aa)} {q:aB} {z:aN} (g:eQ m q) (h:∀ e∈z.els,e.size=z.k) :
   bz G [0] ⟨fr n ((so, .aq)::B),bk [(q.b,dh .aq .aq .aq .aq .aq),(q.d,z)],m⟩ ⟨fr n ((so, .sl 1 [])::B),bk [(q.b,dh (.sl 1 []) .aq .aq .aq .aq),(q.d,z)],m⟩:=by
 have ⟨o,l,p,r,c,j⟩:=g.ne
 refine AY [] (λ x a=>(cX a).elim) (ny B (jL so (hN _ _) (l4 (fi 1)))) (λ i => ?_) (a4 _)
 by_cases h1:i=q.b
 subst h1
 exact .inr ⟨dh .aq .aq .aq .aq .aq,dh (.sl 1 []) .aq .aq .aq .aq,by simp [bk,cD],by simp [bk,cD],rfl, .inl rfl, λ _ x a=>(cX a).elim,rfl,nM,⟨l4 (fi 1),hN _ _⟩⟩
 by_cases f:i=q.d
 subst f
 exact .inr ⟨z,z,by simp [bk,cD,eF (c3 c)],by simp [bk,cD,eF (c3 c)],rb (λ x a=>(cX a).elim) h⟩
 exact .inl (by simp [bk,cD,eF h1,eF f])
def iE (s:Nat):Nat:=1000000000000000000000000*s+1000
def dO (s:Nat):Nat:=1000000000000000000000000*(s+1)
abbrev w0:Id:=[dO 0,0]
def Yc {s N:Nat} (h:N<=10000000000000000000):iE s+200*N+200<=dO s:=by unfold iE dO;omega
noncomputable def tD (aH:dS) (k s N:Nat) (b:aB) (c:List (Nat × aa)) (d:List (Id × aN)) (T:Nat->aB->List (Nat × aa)) (K:Nat->aB->List (Id × aN)) (e:cw) (fH:aB->List (Nat × aa)) (fy:aB->List (Id × aN)) [gb fH] [dy fy] (g:T 0 b=c) (m:K 0 b=d)
   (h:∀ i,i<N->a2 P G (aU aH k) aH.aK 200 .normal (T i) (K i) (T (i+1)) (K (i+1))) (l:a2 P G (aU aH k) aH.aK 200 e (T N) (K N) fH fy) (j:kx (iE s) b=true:=by kernel_rfl) (f:N<=10000000000000000000:=by omega) (a:e ≠ .normal:=by simp):aZ P G :=
 .iA [0] (aU aH k) (fr aH.aK c) d (iE s) e (fr aH.aK (fH (AZ (dO s)))) (cf (fy (AZ (dO s)))) (dO s+4) (by
   rw [<- g, <- m]
   exact Hb (JH j) h l a (Yc f))
noncomputable def Hf (aH:dS) (k N:Nat) (b:aB) (c:List (Nat × aa)) (d:List (Id × aN)) (T:Nat->aB->List (Nat × aa)) (K:Nat->aB->List (Id × aN)) (e:cw) (fH:aB->List (Nat × aa)) (fy:aB->List (Id × aN)) [gb fH] [dy fy] (f:T 0 b=c) (l:K 0 b=d)
   (h:∀ i,i<N->a2 P G (aU aH k) aH.aK (dO 9) .normal (T i) (K i) (T (i+1)) (K (i+1))) (g:a2 P G (aU aH k) aH.aK (dO 9) e (T N) (K N) fH fy) (j:kx (iE 0) b=true:=by kernel_rfl) (m:N<=10000000000000000000:=by omega) (a:e ≠ .normal:=by simp):aZ P G :=
 .iA [0] (aU aH k) (fr aH.aK c) d (iE 0) e (fr aH.aK (fH (AZ 1000000000000000000000000000000000000000000000000))) (cf (fy (AZ 1000000000000000000000000000000000000000000000000))) 1000000000000000000000000000000000000000000000004 (by
   rw [<- f, <- l]
   exact Hb (JH j) h g a (by unfold iE dO;omega))
end
section
variable {P:Program} {G:Nat->Option (List aa)} {α : Type}
def eQ.mono {m a:Nat} {q:aB} (g:eQ m q) (h:m<=a):eQ a q:=⟨g.nd, λ i b j c=>g.old i b j (by omega)⟩
abbrev gY (P:Program) (G:Nat->Option (List aa)) (aH:dS) (k:Nat) (e:cw) (A:aB->List (Nat × aa)) (bZ:aB->List (Id × aN)) (B:aB->List (Nat × aa)) (ct:aB->List (Id × aN)):Prop:=a2 P G (aU aH k) aH.aK 200 e A bZ B ct
def ax (x i:Nat):Nat:=x/af ^ i%af
def eP (x k:Nat):List Nat:=(List.range k).map (ax x)
def cK (x i:Nat):ax x i<af:=bC _ ed
def gj (i:Nat):0<af ^ i:=Nat.pow_pos ed
def oy (x k:Nat):(eP x k).length=k:=by unfold eP;rw [aM,dZ]
def PQ (x k:Nat):eP x (k+1)=eP x k++[ax x k]:=by unfold eP;rw [List.range_succ,List.map_append];rfl
def Bl (x k:Nat):fl (eP x k) := λ w hw=>by obtain ⟨i,_,rfl⟩:=bn.1 hw;exact cK x i
def rU (x i:Nat):x%af ^ (i+1)=x%af ^ i+af ^ i*ax x i:=by rw [ej,Nat.mod_mul];rfl
def vz (x:Nat):∀ k,val (eP x k)=x%af ^ k
 | 0=>by rw [nG,sK];rfl
 | k+1=>by rw [PQ,pZ,oy,vz x k,rU];simp [val]
def uy {x i:Nat} (h:x<af ^ i):ax x i=0:=by unfold ax;rw [iX h];rfl
def Bk {x k:Nat} (h:x<af ^ (k+1)):ax x k=x/af ^ k:=dG (vM (by rwa [ej] at h))
def J6 {x k:Nat} (h:x<af ^ k) (a:k=0 \/ af ^ (k-1)<=x):eP x k=digits x:=by
 have:=acQ (Bl x k) (a.imp (λ e=>by subst e;rfl) λ g=>by rw [vz,oy,dG h];exact g)
 rw [vz,dG h] at this
 exact this.symm
def eY (x:Nat):x<af ^ ae x:=rT x
def BW {x:Nat} (h:x≠0):af ^ (ae x-1)<=x:=by
 have := @iV x (ae x-1)
 have:=gL (n:=x)
 rcases Nat.lt_or_ge x (af ^ (ae x-1)) with h1 | h1<;>omega
def Re (x:Nat):digits x=eP x (ae x):=(J6 (eY x) (by
 by_cases h:x=0
 subst h;left;exact gL.2 rfl
 exact .inr (BW h))).symm
def wh {x i:Nat} (h:i<ae x):(digits x)[i]? = some (ax x i):=by rw [Re];simp [eP,h]
def qa {x i:Nat} (h:ae x<=i):ax x i=0:=uy (fv (eY x) (dv ed h))
instance {ws:List Nat}:br (us ws):=⟨λ c hc=>by obtain ⟨w,_,rfl⟩:=bn.1 hc;exact b8.int _ _, λ ρ => F1 ws ρ⟩
instance {ws:List Nat}:cq 1 (us ws):=⟨λ c hc=>by obtain ⟨w,_,rfl⟩:=bn.1 hc;infer_instance⟩
abbrev Ar (w:Nat):aa := .int .u32 (w:Int)
end
section
variable {P:Program} {G:Nat->Option (List aa)}
def ei (k:Nat) {x i:Nat} (h:i<ae x):aZ P G:=ho k (Ff (wh h))
def aew (k c:Nat) (h:c<=4398046511104):aZ P G := .st k [] (.oV 1 4 (.int .u32 0) (.int .i64 0) (.int .i64 (c:Int))) (λ p=>{ val := .ai p 1 0 0 false,up:=[(p,some ⟨[],1,false⟩)] }) (λ σ p _=>aid (by omega))
def ag.IP {f:FuncId} {aH:dS} (h:gX P f aH) (a:List (aZ P G)) (i:Nat) {n x:Nat} {args:List aa} {ws:List Nat} [br args] (b:ws.length=n) (d:ws=digits x) (e:mE aH.results ([([i,0],⟨us ws,1,false⟩)]++rest [([i,0],⟨us ws,1,false⟩)] []) (mC aH args a)=mD (.ai [i,0] 1 0 n false) ([([i,0],⟨us ws,1,false⟩)]++rest [([i,0],⟨us ws,1,false⟩)] []) (mC aH args a)):ag P G f args (W x):=by
 subst d
 refine ag.pc h a [([i,0],⟨us (digits x),1,false⟩)] (.ai [i,0] 1 0 n false) e ?_ ?_ (by simp) λ σ c=>im (c _ cS) (by rw [il];exact b)
 show [(bN 0 [0] _ ([]++[i,0]),aN.aX _ _)]=_
 rw [jm,c4]
 show [([]++[i,0],aN.mk (bx _ (us (digits x))) 1 false)]=_
 rw [br.fix];rfl
 show aa.ai (bN 0 [0] _ ([]++[i,0])) _ _ _ _=_
 rw [jm,c4];rfl
def Gv (k:Nat) (id:Id) (q s n:Nat) (h:n<=4398046511104):aZ P G :=
 .st k [([q,0],⟨[Ar (ax s n)],1,false⟩),(id,⟨us (eP s n),1,false⟩)] (.append 1 4 (.ai id 1 0 n false) (.ai [q,0] 1 0 1 false)) (λ p=>{ val := .ai p 1 0 (n+1) false,rd:=[id,[q,0]],up:=[(id,none),(p,some ⟨us (eP s (n+1)),1,false⟩)] })
   (λ σ p a=>by
     have h1:=a ([q,0],⟨us [ax s n],1,false⟩) (by simp [us])
     have b:=a (id,⟨us (eP s n),1,false⟩) (by simp)
     have e:=DJ (σ := σ) (p:=p) (id:=id) (k:=1) (bytes:=4) (len:=n) (x := .ai [q,0] 1 0 1 false) (els:=us (eP s n)) (ys:=us [ax s n]) (rd:=[[q,0]]) (FT h1 rfl (by simp [us])) (by simp [us]) b (by rw [il,oy]) (by rw [il];simp;omega) (tz (by rw [il];simp;omega)) (XI _) (XI _)
     rw [<- anO, <- PQ] at e
     exact e)
def cP (a b i:Nat):Nat:=(a%af ^ i+b%af ^ i)/af ^ i
def yM (a b:Nat):cP a b 0=0:=by unfold cP;rw [nG,sK,sK]
def rE (a b i:Nat):cP a b i<=1:=by
 have:=bC a (gj i)
 have:=bC b (gj i)
 exact Nat.le_of_lt_succ (vM (by omega))
def BD (a b i:Nat):cP a b (i+1)=(cP a b i+ax a i+ax b i)/af:=by
 unfold cP
 rw [rU a,rU b,ej, <- ot,show a%af ^ i+af ^ i*ax a i+(b%af ^ i+af ^ i*ax b i)=a%af ^ i+b%af ^ i+af ^ i*(ax a i+ax b i) by rw [dC];omega,mR _ _ (gj i),ow]
def yL (a b i:Nat):ax (a+b) i=(cP a b i+ax a i+ax b i)%af:=by
 have c:=hL a (af ^ i)
 have hb:=hL b (af ^ i)
 have e:(a+b)/af ^ i=a/af ^ i+b/af ^ i+cP a b i:=by
   conv=>lhs;rw [<- c, <- hb]
   rw [show af ^ i*(a/af ^ i)+a%af ^ i+(af ^ i*(b/af ^ i)+b%af ^ i)=a%af ^ i+b%af ^ i+af ^ i*(a/af ^ i+b/af ^ i) by rw [dC];omega,mR _ _ (gj i)]
   unfold cP;omega
 unfold ax
 rw [e]
 generalize a/af ^ i=A,b/af ^ i=B,cP a b i=C
 unfold af;omega
def Q6 {a b k:Nat} (c:a<af ^ k) (hb:b<af ^ k):cP a b k=(a+b)/af ^ k:=by unfold cP;rw [dG c,dG hb]
def cm (L:Nat) (f:Nat->Nat):List Nat:=(List.range L).map f
def wm (L:Nat) (f:Nat->Nat):(cm L f).length=L:=by unfold cm;rw [aM,dZ]
def aam {L i:Nat} (f:Nat->Nat) (h:i<L):(cm L f)[i]? = some (f i):=by simp [cm,h]
def sT {L:Nat} {f g:Nat->Nat} (h:∀ j,j<L->f j=g j):cm L f=cm L g:=p8 λ j a=>h j (List.mem_range.1 a)
def aan {L i v:Nat} {f g:Nat->Nat} (h:∀ j,j<L->g j=if j=i then v else f j):(cm L f).set i v=cm L g:=by
 refine ou (by simp [cm]) λ j h1 a => ?_
 rw [List.getElem_set]
 simp only [cm,List.getElem_map,List.getElem_range,aM,dZ] at a ⊢
 rw [h j a]
 split<;>split<;>first | rfl | omega
def aao (L:Nat):cm L (λ _=>0)=bG L 0:=ou (by simp [cm]) (by simp [cm])
def jV (s i j:Nat):Nat:=if j<i then ax s j else 0
def Lg {s i:Nat} (L j:Nat) (h:j<L):jV s (i+1) j=if j=i then ax s i else jV s i j:=by
 unfold jV
 split<;>split<;>first | (subst_vars;rfl) | rw [if_pos (by omega)] | rw [if_neg (by omega)] | omega
def Gd {s L j:Nat} (h:j<L):jV s L j=ax s j:=if_pos h
abbrev nz (L s i:Nat):aB->List (Id × aN) := λ q=>[(q.a,⟨us (cm L (jV s i)),1,false⟩)]
def aB.o (k:Nat):aB:=⟨[k,0],[2],[3],[4]⟩
def wN (k L:Nat) (f:Nat->Nat) (a:∀ j,j<L->f j=0) (h:L<=8388608000000:=by omega):aZ P G := .st k [] (.oV 1 4 (.int .u32 0) (.int .i64 (L:Int)) (.int .i64 (L:Int))) (λ p=>{ val := .ai p 1 0 L false,up:=[(p,some ⟨us (cm L f),1,false⟩)] }) (λ σ p _=>by rw [sT a,aao];exact Hl (by omega))
def y1 (k L s:Nat) (h:L<=8388608000000:=by omega):aZ P G:=wN k L (jV s 0) (λ _ _=>if_neg (kC _)) h
def fI (k:Nat) (id:Id) (L i:Nat) (h:i<L):aZ P G:=ho k (va (q:=id) (t:=false) h)
def jh (x:Nat) (id:Id) {L i v:Nat} {f:Nat->Nat} (g:Nat->Nat) (c:i<L) (a:∀ j,j<L->g j=if j=i then v else f j):aZ P G :=
 .st (x+100000) [(id,⟨us (cm L f),1,false⟩)] (.store 1 (.ref id i 0) (Ar v)) (λ _=>{ val := .aS [],rd:=[id],up:=[(id,some ⟨us (cm L g),1,false⟩)] }) (λ σ p b=>by
   rw [<- aan a]
   exact NK (b _ cS) (by rw [wm];exact c))
def oK (x:Nat) {L:Nat} (s:Nat) {i:Nat} (a:i<L) (q:Id:=[1]):aZ P G:=jh x q (jV s (i+1)) a (Lg _)
def j0 (k:Nat) (id:Id) (L:Nat) (f:Nat->Nat) {i y:Nat} (c:i<L) (a:f i=y):aZ P G :=
 .st k [(id,⟨us (cm L f),1,false⟩)] (.load false 1 (.ref id i 0)) (λ _=>{ val:=Ar y,rd:=[id] }) (λ σ p b=>TH (b _ cS) (by rw [aam f c,a]))
def rK {ft:FuncId} (L s:Nat) (f:Nat->Nat) (a:∀ j,j<L->f j=ax s j) (b:gZ P G ft) (c:s<af ^ L) (d:L<=8388608000000:=by omega) (id:Id:=w0):aZ P G:=pH id 1 (us (cm L f)) L (by rw [il,wm]) (A:=[]) (r:=W s) (by
 have e:cm L f=eP s L:=sT a
 have:=b (eP s L) (Bl s L) (by rw [oy];omega)
 rw [vz,dG c] at this
 rw [e];exact this)
def Gu {ft:FuncId} (L s:Nat) (c:gZ P G ft) (b:s<af ^ L) (a:L<=8388608000000:=by omega) (id:Id:=w0):aZ P G:=rK L s (jV s L) (λ _=>Gd) c b a id
def Gt (k:Nat) {a:Int} {c:Nat} (h:a/9223372036854775808=(c:Int)):aZ P G:=ho k (o:=eH .shr .int (.int .u64 a) (.int .u64 63)) (v := .int .u64 (c:Int)) (by
 rw [Bv (by decide)]
 show some (aa.int .u64 (a.fdiv (2 ^ 63)))=_
 rw [Int.fdiv_eq_ediv_of_nonneg _ (by decide)]
 exact congrArg (λ x=>some (aa.int .u64 x)) h)
def bA (k:Nat) (n:Nat):aZ P G:=ho k (dV n)
def gQ (k:Nat) {i n:Nat} (h:i<n):aZ P G:=hb k (decide_eq_true (by omega):decide ((i:Int)<(n:Int))=true)
def iP (k:Nat) {i n:Nat} (h:n<=i):aZ P G:=hb k (decide_eq_false (by omega):decide ((i:Int)<(n:Int))=false)
def hI (k:Nat) {i n:Nat} (h:i<n) (a:n<=8388608000000:=by omega):aZ P G:=hw k (DZ i (by omega))
noncomputable def tC (aH:dS) (k s N o:Nat) (b:List (Nat × aa)) (T:Nat->aB->List (Nat × aa)) (K:Nat->aB->List (Id × aN)) (e:cw) [gb (T N)] [dy (K N)] (d:T 0 (aB.o o)=b)
   (f:∀ i,i<N->gY P G aH k .normal (T i) (K i) (T (i+1)) (K (i+1))) (c:gY P G aH k e (T N) (K N) (T N) (K N)) (g:kx (iE s) (aB.o o)=true:=by kernel_rfl) (iP:N<=10000000000000000000:=by omega) (a:e ≠ .normal:=by simp):aZ P G:=tD aH k s N (aB.o o) b (K 0 (aB.o o)) T K e (T N) (K N) d rfl f c g iP a
def aj2 (m n i:Nat):de.wrap (de.wrap ((cP m n i:Int)+de.wrap (ax m i:Int))+de.wrap (ax n i:Int))=((cP m n i+ax m i+ax n i:Nat):Int)/\(ax n i=0->de.wrap ((cP m n i:Int)+de.wrap (ax m i:Int))=((cP m n i+ax m i+ax n i:Nat):Int))/\gD.wrap ((cP m n i+ax m i+ax n i:Nat):Int)=(ax (m+n) i:Int)/\eH .shr .int (.int .u64 ((cP m n i+ax m i+ax n i:Nat):Int)) (.int .u64 32)=some (.int .u64 (cP m n (i+1):Int)):=by
 have a:=cK m i
 have c:=cK n i
 have b:=rE m n i
 refine ⟨?_, λ z => ?_, ?_, ?_⟩
 unfold af at *;simp only [iu];omega
 rw [z];unfold af at *;simp only [iu];omega
 rw [j8, <- yL]
 rw [np, <- BD]
def BC {m n:Nat} (h:ae n<=ae m):m+n<af ^ (ae m+1)/\gD.wrap (cP m n (ae m):Int)=(ax (m+n) (ae m):Int):=by
 have b:=fv (eY n) (dv ed h)
 have a:=eY m
 refine ⟨?_, ?_⟩
 rw [ej];have:af ^ ae m*2<=af ^ ae m*af:=fw _ Bj;omega
 rw [j8,Q6 a b];rfl
def acK (a b i:Nat):ax a i+ax b i+cP a b i=ax (a+b) i+af*cP a b (i+1):=by
 have:=pd (cP a b i+ax a i+ax b i) af
 rw [<- yL, <- BD] at this
 omega
def KN {m n:Nat} (h:n<=m) (i:Nat):ax (m-n) i+ax n i+cP (m-n) n i=ax m i+af*cP (m-n) n (i+1):=by
 have:=acK (m-n) n i
 rwa [Nat.sub_add_cancel h] at this
def aj1 {x y c w c':Nat} (e:w+y+c=x+af*c') (b:x<af) (d:y<af) (hw:w<af) (hc:c<=1) (a:c'<=1):gD.wrap (de.wrap (de.wrap (de.wrap (x:Int)-(c:Int))-de.wrap (y:Int)))=(w:Int)/\de.wrap (de.wrap (de.wrap (x:Int)-(c:Int))-de.wrap (y:Int))/9223372036854775808=(c':Int):=by
 unfold af at *
 refine ⟨?_, ?_⟩<;>simp only [iu,Et]<;>omega
def Vx {x y c w c':Nat} (e:w+y+c=x+af*c') (b:x<af) (d:y<af) (hw:w<af) (hc:c<=1) (a:c'<=1):de.wrap (de.wrap (de.wrap (de.wrap (x:Int)+4294967296)-de.wrap (y:Int))-(c:Int))=((x+af-y-c:Nat):Int)/\gD.wrap ((x+af-y-c:Nat):Int)=(w:Int)/\de.wrap (1-(((x+af-y-c)/af:Nat):Int))=(c':Int):=by
 unfold af at *
 refine ⟨?_, ?_, ?_⟩<;>simp only [iu,Et]<;>omega
end
end Go.aF
namespace Go.Proofs.YtpcofcmencgkbaaGreat
def bB {n:Nat} {G:Nat->Option (List aa)} (l:List (aZ ab G)) {args:List aa} {r:aa} [br args] [bg r] (b:mE (ao n).results [] (mC (ao n) args l)=mD r [] (mC (ao n) args l):=by kernel_rfl) (e:(iN n).isSome=true:=by kernel_rfl):ag ab G n args r:=ag.Ob (aY e) l b
section
variable (G:Nat->Option (List aa)) {m n:Nat}
noncomputable abbrev C2 (m n i:Nat):aB->List (Nat × aa) := λ q=>[(0,W m),(1,W n),(5, .ai q.a 1 0 i false),(6, .int .u64 (cP m n i:Int)),(20,W m),(21, .int .i64 (ae m:Int)),(22, .int .i64 (i:Int))]
noncomputable abbrev zN (m n i:Nat):aB->List (bT × aN) := λ q=>[(q.a,⟨us (eP (m+n) i),1,false⟩)]
def akg (r:ae m<=4194304000000) (i:Nat) (f:i<ae m):gY ab G (ao 305) 0 .normal (C2 m n i) (zN m n i) (C2 m n (i+1)) (zN m n (i+1)):=by
 have q:=rE m n i
 have c:=cK m i
 have k:=cK n i
 have lt:decide ((i:Int)<(ae m:Int))=true:=decide_eq_true (by omega)
 have d:cF.wrap ((i:Int)+1)=((i+1:Nat):Int):=DZ _ (by omega)
 have f1:=fp _ c
 have j:=uJ (cP m n i) (ax m i) (by unfold af at c;omega)
 by_cases p:i<ae n
 have ln:decide ((i:Int)<(ae n:Int))=true:=decide_eq_true (by omega)
 have l:=fp _ k
 have o:=uJ (cP m n i+ax m i) (ax n i) (by unfold af at c k;omega)
 have a:=j8 (cP m n i+ax m i+ax n i)
 rw [<- yL] at a
 have b:=np (cP m n i+ax m i+ax n i)
 rw [<- BD] at b
 exact aW ⟨[27,0],[2],[3],[4]⟩ [hb 23 lt,ei 25 f,hw 29 f1 .u64,hw 30 j .u64,ho 33 (dV n),hb 34 ln,ei 38 p,hw 40 l .u64,hw 41 o .u64,hw 44 a .u32,Gv 46 [1] 26 (m+n) i (by omega),ho 48 b,hw 49 d]
 have ln:decide ((i:Int)<(ae n:Int))=false:=decide_eq_false (by omega)
 have z:=qa (show ae n<=i by omega)
 have a:=j8 (cP m n i+ax m i)
 have b:=np (cP m n i+ax m i)
 have e:=yL m n i
 have h:=BD m n i
 simp only [z,iL] at e h
 rw [<- e] at a
 rw [<- h] at b
 exact aW ⟨[19,0],[2],[3],[4]⟩ [hb 23 lt,ei 25 f,hw 29 f1 .u64,hw 30 j .u64,ho 33 (dV n),hb 34 ln,hw 44 a .u32,Gv 46 [1] 18 (m+n) i (by omega),ho 48 b,hw 49 d]
def akf:gY ab G (ao 305) 0 (.exit 0) (C2 m n (ae m)) (zN m n (ae m)) (λ q=>[(5, .ai q.a 1 0 (ae m) false),(6, .int .u64 (cP m n (ae m):Int))]) (zN m n (ae m)) :=
 aW aG [hb 23 (decide_eq_false (Int.lt_irrefl (ae m:Int)))]
noncomputable abbrev HS (e:ae m<=4194304000000) (a b o:Nat) (x:Bool) (d:decide ((ae a:Int)<(ae b:Int))=x) (f:kx (iE 0) (aB.o o)=true):List (aZ ab G) :=
 [bA 10 a,bA 12 b,hb 13 d,bA 17 m,hI 18 (ov (ae m)),aew 19 (ae m+1) (by omega),bA 21 m,tD (ao 305) 0 0 (ae m) (aB.o o) [(0,W m),(1,W n),(5, .ai [o,0] 1 0 0 false),(6, .int .u64 0),(20,W m),(21, .int .i64 (ae m:Int)),(22, .int .i64 0)] [([o,0],⟨[],1,false⟩)] (C2 m n) (zN m n) (.exit 0) (λ q=>[(5, .ai q.a 1 0 (ae m) false),(6, .int .u64 (cP m n (ae m):Int))]) (zN m n (ae m)) (by simp only [C2,yM];rfl) rfl (akg G e) (akf G) f]
def U6 (h:ae n<=ae m):((cP m n (ae m):Int)>0/\eP (m+n) (ae m+1)=digits (m+n)) \/ (¬ (cP m n (ae m):Int)>0/\eP (m+n) (ae m)=digits (m+n)):=by
 have e:=Q6 (eY m) (fv (eY n) (dv ed h))
 have b:=(BC h).1
 by_cases g:m+n<af ^ ae m
 rw [iX g] at e
 exact .inr ⟨by omega,J6 g (by
   by_cases a:m=0
   subst a;exact .inl (gL.2 rfl)
   exact .inr (bs (BW a) (ud _ _)))⟩
 have:=Pe (kD g) (gj (ae m))
 exact .inl ⟨by omega,J6 b (.inr (kD g))⟩
def akh (m n:Nat) (e:ae m<=4194304000000) (d:ae n<=4194304000000):ag ab G 305 [W m,W n] (W (m+n)):=by
 by_cases c:ae m<ae n
 have c':=jt c
 rw [Pf m n]
 rcases U6 (m:=n) (n:=m) c' with ⟨b,a⟩ | ⟨b,a⟩
 exact ag.IP aY (HS G (n:=m) d m n 13 true (decide_eq_true (by omega)) (by kernel_rfl)++[hb 51 (decide_eq_true b:decide ((cP n m (ae n):Int)>0)=true),hw 54 (BC c').2 .u32,Gv 56 w0 (dO 0+9) (n+m) (ae n) (by omega)]) (dO 0+10) (oy _ _) a (by kernel_rfl)
 exact ag.IP aY (HS G (n:=m) d m n 13 true (decide_eq_true (by omega)) (by kernel_rfl)++[hb 51 (decide_eq_false b:decide ((cP n m (ae n):Int)>0)=false)]) (dO 0) (oy _ _) a (by kernel_rfl)
 have c':=kD c
 rcases U6 (m:=m) (n:=n) c' with ⟨b,a⟩ | ⟨b,a⟩
 exact ag.IP aY (HS G (n:=n) e m n 9 false (decide_eq_false (by omega)) (by kernel_rfl)++[hb 51 (decide_eq_true b:decide ((cP m n (ae m):Int)>0)=true),hw 54 (BC c').2 .u32,Gv 56 w0 (dO 0+9) (m+n) (ae m) (by omega)]) (dO 0+10) (oy _ _) a (by kernel_rfl)
 exact ag.IP aY (HS G (n:=n) e m n 9 false (decide_eq_false (by omega)) (by kernel_rfl)++[hb 51 (decide_eq_false b:decide ((cP m n (ae m):Int)>0)=false)]) (dO 0) (oy _ _) a (by kernel_rfl)
noncomputable abbrev Jg (m n i c:Nat):aB->List (Nat × aa) := λ q=>[(0,W m),(1,W n),(5, .ai q.a 1 0 (ae m) false),(6, .int .u64 (c:Int)),(13,W m),(14, .int .i64 (ae m:Int)),(15, .int .i64 (i:Int))]
def ao1 (h:n<=m) (j:ae m<=4194304000000) (i:Nat) (b:i<ae m):gY ab G (ao 306) 0 .normal (Jg m n i (cP (m-n) n i)) (nz (ae m) (m-n) i) (Jg m n (i+1) (cP (m-n) n (i+1))) (nz (ae m) (m-n) (i+1)):=by
 have ⟨f,d⟩:=aj1 (KN h i) (cK m i) (cK n i) (cK (m-n) i) (rE (m-n) n i) (rE (m-n) n (i+1))
 by_cases c:i<ae n
 exact aW aG [gQ 16 b,ei 18 b,bA 26 n,gQ 27 c,ei 31 c,hw 38 f .u32,fI 39 [1] _ i b,oK 39 (m-n) b,Gt 41 d,hI 42 b]
 have z:=qa (kD c)
 have e:∀ a:Int,de.wrap (de.wrap a-de.wrap ((0:Nat):Int))=de.wrap a := λ a=>by simp only [iu];omega
 rw [z,e] at f d
 exact aW aG [gQ 16 b,ei 18 b,bA 26 n,iP 27 (kD c),hw 38 f .u32,fI 39 [1] _ i b,oK 39 (m-n) b,Gt 41 d,hI 42 b]
def ah9 (c:gZ ab G 262) (h:n<=m) (b:ae m<=4194304000000):ag ab G 306 [W m,W n] (W (m-n)) :=
 bB [bA 11 m,y1 12 (ae m) (m-n) ,bA 14 m,tC (ao 306) 0 0 (ae m) 3 (Jg m n 0 0 (aB.o 3)) (λ i=>Jg m n i (cP (m-n) n i)) (nz (ae m) (m-n)) (.exit 0) (by simp only [yM]) (ao1 G h b) (aW aG [iP 16 (a4 (ae m))] ),Gu (ae m) (m-n) c (gB (Nat.sub_le _ _) (eY m))]
noncomputable abbrev Ic (m n i c:Nat):aB->List (Nat × aa) := λ q=>[(0,W m),(1,W n),(5, .ai q.a 1 0 (ae m) false),(6, .int .u64 (c:Int)),(7, .int .i64 (i:Int))]
def al3 (h:n<=m) (g:ae m<=4194304000000) (i:Nat) (a:i<ae m):gY ab G (ao 222) 0 .normal (Ic m n i (cP (m-n) n i)) (nz (ae m) (m-n) i) (Ic m n (i+1) (cP (m-n) n (i+1))) (nz (ae m) (m-n) (i+1)):=by
 have ⟨d,e,c⟩:=Vx (KN h i) (cK m i) (cK n i) (cK (m-n) i) (rE (m-n) n i) (rE (m-n) n (i+1))
 by_cases b:i<ae n
 exact aW aG [bA 15 m,gQ 16 a,bA 21 n,gQ 22 b,ei 25 b,ei 30 a,hw 37 d .u64,hw 41 e .u32,fI 42 [1] _ i a,oK 42 (m-n) a,ho 44 (np (ax m i+af-ax n i-cP (m-n) n i)),hw 45 c .u64,hI 18 a]
 have z:=qa (kD b)
 rw [z] at d e c
 exact aW aG [bA 15 m,gQ 16 a,bA 21 n,iP 22 (kD b),ei 30 a,hw 37 d .u64,hw 41 e .u32,fI 42 [1] _ i a,oK 42 (m-n) a,ho 44 (np (ax m i+af-0-cP (m-n) n i)),hw 45 c .u64,hI 18 a]
def VT (c:gZ ab G 223) (h:n<=m) (b:ae m<=4194304000000):ag ab G 222 [W m,W n] (W (m-n)) :=
 bB [bA 11 m,y1 12 (ae m) (m-n) ,tC (ao 222) 0 0 (ae m) 3 (Ic m n 0 0 (aB.o 3)) (λ i=>Ic m n i (cP (m-n) n i)) (nz (ae m) (m-n)) (.exit 0) (by simp only [yM]) (al3 G h b) (aW aG [bA 15 m,iP 16 (a4 (ae m))] ),Gu (ae m) (m-n) c (gB (Nat.sub_le _ _) (eY m))]
noncomputable abbrev Ie (m n i c:Nat):aB->List (Nat × aa) := λ q=>[(0,W m),(1,W n),(5, .ai q.a 1 0 (ae m+1) false),(6, .int .u64 (c:Int)),(7, .int .i64 (i:Int))]
def amc (j:ae m<=4194304000000) (i:Nat) (a:i<ae m):gY ab G (ao 220) 0 .normal (Ie m n i (cP m n i)) (nz (ae m+1) (m+n) i) (Ie m n (i+1) (cP m n (i+1))) (nz (ae m+1) (m+n) (i+1)):=by
 have ⟨h,g,d,f⟩:=aj2 m n i
 have b:i<ae m+1:=by omega
 by_cases c:i<ae n
 exact aW aG [bA 21 m,gQ 22 a,ei 28 a,bA 34 n,gQ 35 c,ei 39 c,hw 42 h .u64,hw 46 d .u32,fI 47 [1] _ i b,oK 47 (m+n) b,ho 49 f,hI 24 a]
 exact aW aG [bA 21 m,gQ 22 a,ei 28 a,hw 31 (g (qa (kD c))) .u64,bA 34 n,iP 35 (kD c),hw 46 d .u32,fI 47 [1] _ i b,oK 47 (m+n) b,ho 49 f,hI 24 a]
noncomputable abbrev VU (f:gZ ab G 223) (g:ae m<=4194304000000) (h:ae n<=ae m) (a b o:Nat) (x:Bool) (d:decide ((ae a:Int)<(ae b:Int))=x) (j:kx (iE 0) (aB.o o)=true):List (aZ ab G) :=
 have e:ae m<ae m+1:=ov _
 [bA 9 a,bA 11 b,hb 12 d,bA 16 m,hI 17 e,y1 18 (ae m+1) (m+n) ,tC (ao 220) 0 0 (ae m) o (Ie m n 0 0 (aB.o o)) (λ i=>Ie m n i (cP m n i)) (nz (ae m+1) (m+n)) (.exit 0) (by simp only [yM]) (amc G g) (aW aG [bA 21 m,iP 22 (a4 (ae m))] ) j,bA 52 m,hw 54 (BC h).2 .u32,fI 55 w0 _ _ e,oK 55 (m+n) e w0,Gu (ae m+1) (m+n) f (BC h).1]
def amd (b:gZ ab G 223) (d:ae m<=4194304000000) (e:ae n<=4194304000000):ag ab G 220 [W m,W n] (W (m+n)):=by
 by_cases c:ae m<ae n
 rw [Pf];exact bB (VU G b e (jt c) m n 13 true (decide_eq_true (by omega)) (by kernel_rfl))
 exact bB (VU G b d (kD c) m n 9 false (decide_eq_false (by omega)) (by kernel_rfl))
end
end Go.Proofs.YtpcofcmencgkbaaGreat
namespace Go.aF
def J3 (m w i:Nat):ax (m/w) i=m/af ^ i/w%af:=by unfold ax;rw [ot,ot,dF]
def PO {s:Nat} (m i:Nat) (a:s<=32):ax (m/2 ^ s) i=ax m i/2 ^ s+2 ^ (32-s)*(ax m (i+1)%2 ^ s):=by
 have h:=Qm (x:=ax m i) (y:=m/af ^ i/af) a (cK m i)
 rw [show af*(m/af ^ i/af)+ax m i=m/af ^ i from hL _ _] at h
 rw [J3,h]
 congr 2
 unfold ax
 rw [ej, <- ot,Nat.mod_mod_of_dvd]
 exact ⟨2 ^ (32-s),by rw [<- IL a,dF]⟩
def Rh {w:Nat} (m i:Nat) (a:0<w) (hw:w<af):ax (m/w) i=(af*(m/af ^ (i+1)%w)+ax m i)/w/\m/af ^ i%w=(af*(m/af ^ (i+1)%w)+ax m i)%w:=by
 have e:m/af ^ i=af*(m/af ^ (i+1))+ax m i:=by rw [ej, <- ot];exact (hL _ _).symm
 have d:=cK m i
 generalize m/af ^ (i+1)=A at *
 have c:=hL A w
 have f:=bC A a
 have b:m/af ^ i=(af*(A%w)+ax m i)+w*(af*(A/w)):=by
   rw [e];conv=>lhs;rw [<- c]
   rw [dC,l2];omega
 refine ⟨?_,by rw [b,sD]⟩
 rw [J3,b,mR _ _ a,sD,dG]
 rw [l1 a]
 have:=fw af (Nat.succ_le_of_lt f)
 rw [Nat.mul_succ] at this
 omega
def acU {w:Nat} (m i:Nat) (a:0<w) (hw:w<af):gD.wrap (((af*(m/af ^ (i+1)%w)+ax m i)/w:Nat):Int)=(ax (m/w) i:Int):=by rw [j8, <- (Rh m i a hw).1,dG (cK _ _)]
def acT {w:Nat} (m i:Nat) (a:0<w) (hw:w<af):eH .rem .int (.int .u64 ((af*(m/af ^ (i+1)%w)+ax m i:Nat):Int)) (.int .u64 (w:Int))=some (.int .u64 ((m/af ^ i%w:Nat):Int)):=by rw [Dd _ w (Eu a),(Rh m i a hw).2]
def pY {x:Nat} (h:x<af):gD.wrap (x:Int)=(x:Int):=by rw [j8,dG h]
def X9 {x w:Nat} (h:w=x%af):gD.wrap (x:Int)=(w:Int):=by rw [j8,h]
def Vg {f:Nat->Nat} {i a b:Nat} (j:Nat):(if j=i then b else f j)=if j=i then b else if j=i then a else f j:=by split<;>simp [*]
def qb (m i:Nat):m/af ^ i=af*(m/af ^ (i+1))+ax m i:=by rw [ej, <- ot];exact (hL _ _).symm
def N7 {m n:Nat} (a:m≠n):∀ k,m/af ^ k=n/af ^ k->∃ i,i<k/\ax m i≠ax n i/\∀ j,i<j->m/af ^ j=n/af ^ j
 | 0,h=>(a (by simpa using h)).elim
 | k+1,h=>by
   by_cases e:ax m k=ax n k
   have ⟨i,h1,b,h3⟩:=N7 a k (by rw [qb m k,qb n k,h,e])
   exact ⟨i,by omega,b,h3⟩
   refine ⟨k,by omega,e, λ j c => ?_⟩
   rw [show j=k+1+(j-(k+1)) by omega,gC, <- ot, <- ot,h]
def J5 {m n j:Nat} (h:m/af ^ j=n/af ^ j):ax m j=ax n j:=by unfold ax;rw [h]
def Xp {m n i:Nat} (h:m/af ^ (i+1)=n/af ^ (i+1)) (a:ax m i<ax n i):m<n:=by
 refine A0 λ g => ?_
 have:=Nat.div_le_div_right (c:=af ^ i) g
 rw [qb m,qb n,h] at this
 omega
def Xo {m n i:Nat} (h:m/af ^ (i+1)=n/af ^ (i+1)) (a:ax m i≠ax n i):eV (ax m i:Int) (ax n i:Int)=dI m n:=by
 unfold dI
 rcases JI a with h1 | h1
 have:=Xp h h1
 rw [uT (by omega),uT (by omega)]
 have:=Xp h.symm h1
 rw [yI (by omega),yI (by omega)]
def QW {m n:Nat} (h:ae m≠ae n):eV (ae m:Int) (ae n:Int)=dI m n:=by
 unfold dI
 rcases JI h with h1 | h1
 have a:=TM h1
 rw [uT (by omega),uT (by omega)]
 have a:=TM h1
 rw [yI (by omega),yI (by omega)]
def jg (s i j:Nat):Nat:=if i<=j then ax s j else 0
def Gb {s i:Nat} (L:Nat):∀ j,j<L->jg s i j=if j=i then ax s i else jg s (i+1) j := λ j _=>by
 unfold jg
 split<;>split<;>first | (subst_vars;rfl) | rw [if_pos (by omega)] | rw [if_neg (by omega)] | omega
section
variable {P:Program} {G:Nat->Option (List aa)}
def ag.Xz {f:FuncId} {aH:dS} (h:gX P f aH) (a:List (aZ P G)) (i:Nat) {n:Nat} {args:List aa} {ws:List Nat} [br args] (b:ws.length=n) (d:mE aH.results ([([i,0],⟨us ws,1,false⟩)]++rest [([i,0],⟨us ws,1,false⟩)] []) (mC aH args a)=mD (.ai [i,0] 1 0 n false) ([([i,0],⟨us ws,1,false⟩)]++rest [([i,0],⟨us ws,1,false⟩)] []) (mC aH args a):=by kernel_rfl):ag P G f args (.sl 1 (us ws)):=by
 refine ag.pc h a [([i,0],⟨us ws,1,false⟩)] (.ai [i,0] 1 0 n false) d ?_ ?_ (by simp) λ σ c=>im (c _ cS) (by rw [il];exact b)
 show [(bN 0 [0] _ ([]++[i,0]),aN.aX _ _)]=_
 rw [jm,c4]
 show [([]++[i,0],aN.mk (bx _ (us ws)) 1 false)]=_
 rw [br.fix];rfl
 show aa.ai (bN 0 [0] _ ([]++[i,0])) _ _ _ _=_
 rw [jm,c4];rfl
def rF:Nat->Int
 | 0 => -1
 | i+1=>(i:Int)
def Rk (i:Nat):rF i=(i:Int)-1:=by cases i<;>simp [rF]
def ml (k i:Nat) (a:i<=8388608000000:=by omega):aZ P G:=hw k (x:=cF.wrap ((i:Int)-1)) (y:=rF i) (by rw [cM,Rk];omega)
def tg (k i:Nat):aZ P G:=hb k (decide_eq_true (by omega):decide ((0:Int)<=(i:Int))=true)
abbrev AH (L s i:Nat):aB->List (Id × aN) := λ q=>[(q.a,⟨us (cm L (jg s i)),1,false⟩)]
def Lk (k L s:Nat) (h:L<=8388608000000:=by omega):aZ P G:=wN k L (jg s L) (λ _ h=>if_neg (Nat.not_le_of_lt h)) h
def Ss {ft:FuncId} (L s:Nat) (a:gZ P G ft) (b:s<af ^ L) (bA:L<=8388608000000:=by omega):aZ P G:=rK L s (jg s 0) (λ _ _=>if_pos (et _)) a b bA
noncomputable def Mc (aH:dS) (k s N o:Nat) (b:List (Nat × aa)) (T:Nat->aB->List (Nat × aa)) (K:Nat->aB->List (Id × aN)) (e:cw) [h1:gb (T 0)] [n:dy (K 0)] (f:T N (aB.o o)=b)
   (g:∀ i,i<N->gY P G aH k .normal (T (i+1)) (K (i+1)) (T i) (K i)) (l:gY P G aH k e (T 0) (K 0) (T 0) (K 0)) (d:kx (iE s) (aB.o o)=true:=by kernel_rfl) (c:N<=10000000000000000000:=by omega) (a:e ≠ .normal:=by simp):aZ P G :=
 tD aH k s N (aB.o o) b (K N (aB.o o)) (λ j=>T (N-j)) (λ j=>K (N-j)) e (T 0) (K 0) f rfl (λ j m=>by
   have h:=g (N-(j+1)) (by omega)
   rwa [show N-(j+1)+1=N-j by omega] at h) (by simp only [Nat.sub_self];exact l) d c a
def Lq (k x j:Nat):aZ P G:=ho k (o:=jr false (.sl 1 (us (digits x++zs j)))) (v := .int .i64 ((ae x+j:Nat):Int)) (by simp [jr,il,ae,D9])
def Sv (k x j i w:Nat) (h:(digits x++zs j)[i]? = some w):aZ P G:=ho k (tt (es:=us (digits x++zs j)) (pI := .i64) (k:=1) (kk:=1) rfl (ss h))
def aeK (k x j:Nat):aZ P G:=ho k (o:=iq 1 (.sl 1 (us (digits x++zs (j+1)))) none (some (.int .i64 ((ae x+j:Nat):Int))) none) (v := .sl 1 (us (digits x++zs j))) (by
 rw [amQ rfl (by rw [il,cd,D9];show ae x+j<=ae x+(j+1);omega),Oe]
 congr 3
 rw [show zs (j+1)=zs j++[0] from List.replicate_succ', <- List.append_assoc]
 exact List.take_left' (by rw [cd,D9];rfl))
def y2 (k i:Nat) (a:i<=9223372036854775806:=by omega):aZ P G:=hw k (x:=cF.wrap (((i+1:Nat):Int)-1)) (y:=(i:Int)) (by rw [cM];omega)
def sR {x p:Nat} (h:ae x=p+1):ax x p≠0:=by
 have b:x≠0 := λ e=>by rw [gL.2 e] at h;omega
 have h1:=BW b
 have a:=eY x
 rw [h] at h1 a
 rw [Bk a]
 exact Eu (Pe h1 (gj _))
noncomputable def w4 (aH:dS) (k s N b o:Nat) (c:List (Nat × aa)) (T:Nat->List (Nat × aa)) (e:cw) (fH:List (Nat × aa)) [h1:gb λ _=>fH] (d:T N=c) (hb:b<=N)
   (f:∀ i,b<=i->i<N->gY P G aH k .normal (λ _=>T (i+1)) (λ _=>[]) (λ _=>T i) (λ _=>[])) (l:gY P G aH k e (λ _=>T b) (λ _=>[]) (λ _=>fH) (λ _=>[])) (g:kx (iE s) (aB.o o)=true:=by kernel_rfl) (n:N<=10000000000000000000:=by omega) (a:e ≠ .normal:=by simp):aZ P G :=
 tD aH k s (N-b) (aB.o o) c [] (λ j _=>T (N-j)) (λ _ _=>[]) e (λ _=>fH) (λ _=>[]) d rfl (λ j m=>by
   have h:=f (N-(j+1)) (by omega) (by omega)
   rwa [show N-(j+1)+1=N-j by omega] at h) (by
   show gY P G aH k e (λ _=>T (N-(N-b))) _ _ _
   rw [show N-(N-b)=b by omega];exact l) g (by omega) a
end
end Go.aF
namespace Go.Proofs.YtpcofcmencgkbaaGreat
section
variable (G:Nat->Option (List aa)) {m w:Nat}
noncomputable abbrev rG (m w i r:Nat):aB->List (Nat × aa) := λ q=>[(0,W m),(1, .int .u32 (w:Int)),(6, .ai q.a 1 0 (ae m) false),(7, .int .u64 (r:Int)),(8, .int .i64 (rF i))]
noncomputable abbrev ac5 (b:0<w) (a:w<af) (g:ae m<=4194304000000) (i:Nat) (c:i<ae m):List (aZ ab G) :=
 have e:m/af ^ (i+1)%w<af:=yc (bC _ b) a
 have f:af*(m/af ^ (i+1)%w)+ax m i<18446744073709551616:=by have:=cK m i;unfold af at *;omega
 [tg 16 i,ho 20 (z9 _ e),ei 23 c,hw 25 (fp _ (cK m i)) .u64,ho 26 (CZ _ _ e (cK m i)),hw 31 (fp _ a) .u64,ho 32 (C8 _ w f (Eu b)),hw 33 (acU m i b a) .u32,fI 34 [1] _ i c,jh 34 [1] (jg (m/w) i) c (Gb _),hw 37 (fp _ a) .u64,ho 38 (acT m i b a),ml 18 i]
def Rx (a:0<w) (b:w<af) (d:ae m<=4194304000000) (i:Nat) (e:i<ae m):gY ab G (ao 312) 0 .normal (rG m w (i+1) (m/af ^ (i+1)%w)) (AH (ae m) (m/w) (i+1)) (rG m w i (m/af ^ i%w)) (AH (ae m) (m/w) i):=aW aG (ac5 G a b d i e)
def Rw (b:ae m<=4194304000000):gY ab G (ao 312) 0 (.exit 0) (rG m w 0 (m/af ^ 0%w)) (AH (ae m) (m/w) 0) (rG m w 0 (m/af ^ 0%w)) (AH (ae m) (m/w) 0):=aW aG []
def Qu:aU (ao 254) 0=aU (ao 312) 0/\(ao 254).aK=(ao 312).aK:=⟨by kernel_rfl,by kernel_rfl⟩
def Qt {e:cw} {A B:aB->List (Nat × aa)} {bZ ct:aB->List (bT × aN)} (h:gY ab G (ao 312) 0 e A bZ B ct):gY ab G (ao 254) 0 e A bZ B ct:=by unfold gY;rw [Qu.1,Qu.2];exact h
def Ry (a:m<af ^ ae m):rG m w (ae m) (m/af ^ ae m%w)=rG m w (ae m) 0:=by rw [iX a,Nat.zero_mod]
def ac6 (e:gZ ab G 262) (hu:∀ n,n<18446744073709551616->ag ab G 230 [.int .u64 ((n:Nat):Int)] (W n)) (b:0<w) (c:w<af) (d:ae m<=4194304000000):ag ab G 312 [W m, .int .u32 (w:Int)] (.aS [W (m/w),W (m%w)]):=by
 have h:ag ab G 312 [W m, .int .u32 (w:Int)] (.aS [W (m/w),W (m/af ^ 0%w)]):=bB [bA 10 m,Lk 11 (ae m) (m/w),bA 13 m,ml 14 (ae m),Mc (ao 312) 0 0 (ae m) 4 (rG m w (ae m) 0 (aB.o 4)) (λ i=>rG m w i (m/af ^ i%w)) (AH (ae m) (m/w)) (.exit 0) (congrFun (Ry (eY m)) _) (Rx G b c d) (Rw G d),Ss (ae m) (m/w) e (gB (ja _ _) (eY m)),hc (hu (m/af ^ 0%w) (by have:=bC (m/af ^ 0) b;unfold af at *;omega))]
 rwa [nG,vN] at h
def abz (f:gZ ab G 223) (b:0<w) (c:w<af) (d:ae m<=4194304000000):ag ab G 254 [W m, .int .u32 (w:Int)] (.aS [W (m/w), .int .u32 ((m%w:Nat):Int)]):=by
 have h:ag ab G 254 [W m, .int .u32 (w:Int)] (.aS [W (m/w), .int .u32 ((m/af ^ 0%w:Nat):Int)]):=bB [bA 10 m,Lk 11 (ae m) (m/w),bA 13 m,ml 14 (ae m),Mc (ao 254) 0 0 (ae m) 4 (rG m w (ae m) 0 (aB.o 4)) (λ i=>rG m w i (m/af ^ i%w)) (AH (ae m) (m/w)) (.exit 0) (congrFun (Ry (eY m)) _) (λ i e=>Qt G (Rx G b c d i e)) (Qt G (Rw G d)),Ss (ae m) (m/w) f (gB (ja _ _) (eY m)),hw 42 (pY (yc (bC (m/af ^ 0) b) c)) .u32]
 rwa [nG,vN] at h
end
section
variable (G:Nat->Option (List aa)) {m s:Nat}
noncomputable abbrev IA (m s i:Nat):aB->List (Nat × aa) := λ q=>[(0,W m),(1, .int .i64 (s:Int)),(5, .ai q.a 1 0 (ae m) false),(11,W m),(12, .int .i64 (ae m:Int)),(13, .int .i64 (i:Int))]
abbrev NI (m s i j:Nat):Nat:=if j=i then ax m i/2 ^ s else jV (m/2 ^ s) i j
def anf (n:s<=31) (o:ae m<=4194304000000) (i:Nat) (a:i<ae m):gY ab G (ao 317) 0 .normal (IA m s i) (nz (ae m) (m/2 ^ s) i) (IA m s (i+1)) (nz (ae m) (m/2 ^ s) (i+1)):=by
 have d:=PO m i (show s<=32 by omega)
 have l:=cK m i
 by_cases c:i+1<ae m
 have g:=cK m (i+1)
 have k:=amI (s:=s) (y:=ax m (i+1)) (show s<=32 by omega) l
 have b:ax m i/2 ^ s<af:=gB (ja _ _) l
 exact aW aG [gQ 14 a,ei 16 a,ho 22 (Ny (ax m i) s (by omega)),fI 23 [1] _ i a,jh 23 [1] (NI m s i) a (λ j _=>rfl),hI 25 a,bA 27 m,gQ 28 c,fI 31 [1] _ i a,j0 32 [1] (ae m) (NI m s i) a (if_pos rfl),hI 35 a,ei 36 c,hw 38 (fp _ g) .u64,hw 40 (show cF.wrap (32-(s:Int))=((32-s:Nat):Int) by rw [cM];omega),ho 41 (Nx (ax m (i+1)) (32-s) (by omega) g),hw 42 (j8 (ax m (i+1)*2 ^ (32-s))) .u32,ho 43 (HF (ax m i/2 ^ s) (ax m (i+1)*2 ^ (32-s)%af) b (bC _ ed)),fI 44 [1] _ i a,jh 44 [1] (f:=NI m s i) (jV (m/2 ^ s) (i+1)) a (λ j e=>by rw [Lg _ j e,d, <- k.1];exact Vg j),hI 45 a]
 have z:=qa (x:=m) (show ae m<=i+1 by omega)
 rw [z,Nat.zero_mod,iY,iL] at d
 exact aW aG [gQ 14 a,ei 16 a,ho 22 (Ny (ax m i) s (by omega)),fI 23 [1] _ i a,jh 23 [1] (jV (m/2 ^ s) (i+1)) a (λ j e=>by rw [Lg _ j e,d]),hI 25 a,bA 27 m,iP 28 (kD c),hI 45 a]
def WQ (c:s<=31) (b:ae m<=4194304000000):ag ab G 317 [W m, .int .i64 (s:Int)] (.sl 1 (us (cm (ae m) (jV (m/2 ^ s) (ae m))))) :=
 ag.Xz aY [bA 9 m,y1 10 (ae m) (m/2 ^ s),bA 12 m,tC (ao 317) 0 0 (ae m) 3 (IA m s 0 (aB.o 3)) (IA m s) (nz (ae m) (m/2 ^ s)) (.exit 0) rfl (anf G c b) (aW aG [iP 14 (a4 (ae m))] )] (dO 0) (wm _ _)
noncomputable abbrev Fv (m s i:Nat):aB->List (Nat × aa) := λ q=>[(0,W m),(1, .int .i64 (s:Int)),(5, .ai q.a 1 0 (ae m) false),(6, .int .i64 (i:Int))]
def abp (h:s<=31) (g:ae m<=4194304000000) (i:Nat) (a:i<ae m):gY ab G (ao 258) 0 .normal (Fv m s i) (nz (ae m) (m/2 ^ s) i) (Fv m s (i+1)) (nz (ae m) (m/2 ^ s) (i+1)):=by
 have d:=PO m i (show s<=32 by omega)
 have b:=cK m i
 have c:=cK m (i+1)
 rw [<- Qm (show s<=32 by omega) b] at d
 by_cases e:i+1<ae m
 exact aW aG [bA 13 m,gQ 14 a,ei 19 a,hw 21 (fp _ b) .u64,hI 23 a,bA 25 m,gQ 26 e,hI 30 a,ei 31 e,hw 33 (fp _ c) .u64,ho 34 (z9 _ c),ho 35 (aju _ _ b c),ho 40 (Wj (af*ax m (i+1)+ax m i) s (by omega)),hw 41 (X9 d) .u32,fI 42 [1] _ i a,oK 42 (m/2 ^ s) a,hI 16 a]
 have z:=qa (x:=m) (show ae m<=i+1 by omega)
 rw [z,iY,c4] at d
 exact aW aG [bA 13 m,gQ 14 a,ei 19 a,hw 21 (fp _ b) .u64,hI 23 a,bA 25 m,iP 26 (kD e),ho 40 (Wj (ax m i) s (by omega)),hw 41 (X9 d) .u32,fI 42 [1] _ i a,oK 42 (m/2 ^ s) a,hI 16 a]
def abq (c:gZ ab G 223) (d:s<=31) (b:ae m<=4194304000000):ag ab G 258 [W m, .int .i64 (s:Int)] (W (m/2 ^ s)) :=
 bB [bA 9 m,y1 10 (ae m) (m/2 ^ s),tC (ao 258) 0 0 (ae m) 3 (Fv m s 0 (aB.o 3)) (Fv m s) (nz (ae m) (m/2 ^ s)) (.exit 0) rfl (abp G d b) (aW aG [bA 13 m,iP 14 (a4 (ae m))] ),Gu (ae m) (m/2 ^ s) c (gB (ja _ _) (eY m))]
noncomputable abbrev Wu (m i:Nat):aB->List (Nat × aa) := λ _=>[(0,W m),(3, .int .u64 ((m/af ^ i:Nat):Int)),(4, .int .i64 (rF i))]
def Wv (f:m<18446744073709551616):ag ab G 253 [W m] (.int .u64 (m:Int)):=by
 have d:ae m<=2:=iV (by unfold af;omega)
 have h:ag ab G 253 [W m] (.int .u64 ((m/af ^ 0:Nat):Int)):=bB [bA 6 m,ml 7 (ae m),Mc (ao 253) 0 0 (ae m) 3 [(0,W m),(3, .int .u64 0),(4, .int .i64 (rF (ae m)))] (Wu m) (λ _ _=>[]) (.exit 0) (by unfold Wu;rw [iX (eY m)];rfl) (λ i c=>by
   have e:m/af ^ i=af*(m/af ^ (i+1))+ax m i:=by rw [ej, <- ot];exact (hL _ _).symm
   have b:m/af ^ (i+1)<af:=by
     have:=ja m (af ^ i)
     rw [ej, <- ot,l1 ed];unfold af at *;omega
   exact aW aG [tg 9 i,ho 13 (z9 _ b),ei 16 c,hw 18 (fp _ (cK m i)) .u64,ho 19 (e▸CZ _ _ b (cK m i)),ml 11 i] ) (aW aG [] )]
 rwa [nG,vN] at h
end
section
variable (G:Nat->Option (List aa)) {m n:Nat}
noncomputable abbrev nP (m n i:Nat):List (Nat × aa):=[(0,W m),(1,W n),(5, .int .i64 (rF i))]
def KF (p:∀ a b:Int,ag ab G 265 [.int .i64 a, .int .i64 b] (.int .i64 (eV a b))) (hu:∀ a b:Int,ag ab G 288 [.int .u32 a, .int .u32 b] (.int .i64 (eV a b))) (q:ae m<=4194304000000):ag ab G 266 [W m,W n] (.int .i64 (dI m n)):=by
 by_cases f:ae m=ae n
 have o:((ae m:Int) != (ae n:Int))=false:=by rw [f];exact bne_self_eq_false _
 have rd:∀ i,i<ae m->ax m i=ax n i->gY ab G (ao 266) 0 .normal (λ _=>nP m n (i+1)) (λ _=>[]) (λ _=>nP m n i) (λ _=>[]) := λ i e h=>aW aG [tg 20 i,ei 25 e,ei 29 (f▸e),hb 31 (show ((ax m i:Int) != (ax n i:Int))=false by rw [h];exact bne_self_eq_false _),ml 22 i]
 by_cases k:m=n
 subst k
 rw [show dI m m=0 from QU rfl]
 exact bB [bA 7 m,bA 9 m,hb 10 o,bA 17 m,ml 18 (ae m),w4 (ao 266) 0 0 (ae m) 0 0 (nP m m (ae m)) (nP m m) (.exit 0) [] rfl (et _) (λ i _ e=>rd i e rfl) (aW aG [] )]
 have ⟨i,e,h1,l⟩:=N7 k (ae m) (by rw [iX (eY m),f,iX (eY n)])
 have d:=hu (ax m i) (ax n i)
 rw [Xo (l _ (ov i)) h1] at d
 exact bB [bA 7 m,bA 9 n,hb 10 o,bA 17 m,ml 18 (ae m),w4 (ao 266) 0 0 (ae m) (i+1) 0 (nP m n (ae m)) (nP m n) .ret [(4, .int .i64 (dI m n))] rfl e (λ j g h=>rd j h (J5 (l j g))) (aW aG [tg 20 i,ei 25 e,ei 29 (f▸e),hb 31 (show ((ax m i:Int) != (ax n i:Int))=true from bne_iff_ne.2 (by omega)),ei 34 e,ei 38 (f▸e),hc d] )]
 have d:=p (ae m:Int) (ae n:Int)
 rw [QW f] at d
 exact bB [bA 7 m,bA 9 n,hb 10 (show ((ae m:Int) != (ae n:Int))=true from bne_iff_ne.2 (by omega)),bA 12 m,bA 14 n,hc d]
def H4 (o:ae m<=4194304000000):ag ab G 221 [W m,W n] (.int .i64 (dI m n)):=by
 by_cases b:ae m=ae n
 have c:((ae m:Int) != (ae n:Int))=false:=by rw [b];exact bne_self_eq_false _
 have rd:∀ i,i<ae m->ax m i=ax n i->gY ab G (ao 221) 0 .normal (λ _=>nP m n (i+1)) (λ _=>[]) (λ _=>nP m n i) (λ _=>[]) := λ i a h=>by
   have f:decide ((ax m i:Int)<(ax n i:Int))=false:=decide_eq_false (by omega)
   have g:decide ((ax m i:Int)>(ax n i:Int))=false:=decide_eq_false (by omega)
   exact aW aG [tg 20 i,ei 25 a,ei 29 (b▸a),hb 31 f,ei 34 a,ei 38 (b▸a),hb 40 g,ml 22 i]
 by_cases d:m=n
 subst d
 rw [show dI m m=0 from QU rfl]
 exact bB [bA 7 m,bA 9 m,hb 10 c,bA 17 m,ml 18 (ae m),w4 (ao 221) 0 0 (ae m) 0 0 (nP m m (ae m)) (nP m m) (.exit 0) [] rfl (et _) (λ i _ a=>rd i a rfl) (aW aG [] )]
 have ⟨i,a,h1,l⟩:=N7 d (ae m) (by rw [iX (eY m),b,iX (eY n)])
 have e:=Xo (l _ (ov i)) h1
 rcases JI h1 with h3 | h3
 have f:decide ((ax m i:Int)<(ax n i:Int))=true:=decide_eq_true (by omega)
 rw [<- e,uT (by omega)]
 exact bB [bA 7 m,bA 9 n,hb 10 c,bA 17 m,ml 18 (ae m),w4 (ao 221) 0 0 (ae m) (i+1) 0 (nP m n (ae m)) (nP m n) .ret [(4, .int .i64 (-1))] rfl a (λ j g h=>rd j h (J5 (l j g))) (aW aG [tg 20 i,ei 25 a,ei 29 (b▸a),hb 31 f] )]
 have f:decide ((ax m i:Int)<(ax n i:Int))=false:=decide_eq_false (by omega)
 have g:decide ((ax m i:Int)>(ax n i:Int))=true:=decide_eq_true (by omega)
 rw [<- e,yI (by omega)]
 exact bB [bA 7 m,bA 9 n,hb 10 c,bA 17 m,ml 18 (ae m),w4 (ao 221) 0 0 (ae m) (i+1) 0 (nP m n (ae m)) (nP m n) .ret [(4, .int .i64 1)] rfl a (λ j g h=>rd j h (J5 (l j g))) (aW aG [tg 20 i,ei 25 a,ei 29 (b▸a),hb 31 f,ei 34 a,ei 38 (b▸a),hb 40 g] )]
 have c:((ae m:Int) != (ae n:Int))=true:=bne_iff_ne.2 (by omega)
 rw [<- QW b]
 rcases JI b with h3 | h3
 rw [uT (by omega)]
 exact bB [bA 7 m,bA 9 n,hb 10 c,bA 12 m,bA 14 n,hb 15 (decide_eq_true (by omega):decide ((ae m:Int)<(ae n:Int))=true)]
 rw [yI (by omega)]
 exact bB [bA 7 m,bA 9 n,hb 10 c,bA 12 m,bA 14 n,hb 15 (decide_eq_false (by omega):decide ((ae m:Int)<(ae n:Int))=false)]
def anH {f:Nat} (e:gX ab f (ao 262)) (x k:Nat) (i:ae x+k<=9223372036854775807):ag ab G f [.sl 1 (us (digits x++zs k))] (.sl 1 (us (digits x++zs 0))):=by
 have rd:∀ j,0<=j->j<k->gY ab G (ao 262) 0 .normal (λ _=>[(0, .sl 1 (us (digits x++zs (j+1))))]) (λ _=>[]) (λ _=>[(0, .sl 1 (us (digits x++zs j)))]) (λ _=>[]) := λ j _ h=>aW aG [Lq 4 x (j+1),hb 5 (decide_eq_true (by omega):decide (((ae x+(j+1):Nat):Int)>0)=true),Lq 9 x (j+1),y2 10 (ae x+j),Sv 11 x (j+1) (ae x+j) 0 (by rw [List.getElem?_append_right (show (digits x).length<=ae x+j from ud _ _),show ae x+j-(digits x).length=j from JJ _ _];exact List.getElem?_replicate_of_lt (ov j)),Lq 17 x (j+1),y2 18 (ae x+j),aeK 19 x j]
 rcases c:ae x with _ | p
 rw [gL.1 c] at rd ⊢
 have b:jr false (.sl 1 (us (digits 0++zs 0)))=some (.int .i64 0):=by rw [iO];rfl
 exact ag.Ob e [w4 (ao 262) 0 0 k 0 0 [(0, .sl 1 (us (digits 0++zs k)))] (λ j=>[(0, .sl 1 (us (digits 0++zs j)))]) (.exit 0) [(0, .sl 1 (us (digits 0++zs 0)))] rfl (et _) rd (aW aG [ho 4 b] )] (by kernel_rfl)
 have b:jr false (.sl 1 (us (digits x++zs 0)))=some (.int .i64 ((p+1:Nat):Int)):=by have:(digits x).length=p+1:=c;simp [jr,il,D9,this]
 have g:(digits x++zs 0)[p]? = some (ax x p):=by rw [show zs 0=[] from rfl,k5];exact wh (by omega)
 have d:((ax x p:Int)==0)=false:=by simpa using sR c
 exact ag.Ob e [w4 (ao 262) 0 0 k 0 0 [(0, .sl 1 (us (digits x++zs k)))] (λ j=>[(0, .sl 1 (us (digits x++zs j)))]) (.exit 0) [(0, .sl 1 (us (digits x++zs 0)))] rfl (et _) rd (aW aG [ho 4 b,hb 5 (decide_eq_true (by omega):decide (((p+1:Nat):Int)>0)=true),ho 9 b,y2 10 p,Sv 11 x 0 p _ g,hb 13 d] )] (by kernel_rfl)
def Xr {f:Nat} (c:gX ab f (ao 262)):gZ ab G f := λ ws hw e=>by
 have ⟨k,b⟩:=aF.trimmed ws hw
 have h:=anH G c (val ws) k (by have:=congrArg List.length b;rw [cd,D9] at this;show (digits (val ws)).length+k<=_;omega)
 rw [<- b,show zs 0=[] from rfl,k5] at h
 exact h
def o0:gZ ab G 262:=Xr G aY
def o5:gZ ab G 223:=Xr G ((by kernel_rfl:ao 223=ao 262)▸aY)
end
end Go.Proofs.YtpcofcmencgkbaaGreat
namespace Go.aF
def bY (x y:Nat):Nat->Nat × Nat
 | 0=>(x,y)
 | i+1=>((bY x y i).2,(bY x y i).1%(bY x y i).2)
def FX (x y:Nat):∀ i,cy (bY x y i).1 (bY x y i).2=cy x y
 | 0=>rfl
 | i+1=>by
   rw [<- FX x y i]
   show cy (bY x y i).2 ((bY x y i).1%(bY x y i).2)=_
   rw [Nat.gcd_comm, <- Nat.gcd_rec,Nat.gcd_comm]
def FY {x y b:Nat} (a:x<=b) (c:y<=b):∀ i,(bY x y i).1<=b/\(bY x y i).2<=b
 | 0=>⟨a,c⟩
 | i+1=>⟨(FY a c i).2,bs (Nat.mod_le _ _) (FY a c i).1⟩
def tA (n:Nat):Nat:=if n=0 then 0 else n.log2+1
def ahi {r x:Nat} (h:2*r<=x) (a:0<x):tA r<tA x:=by
 unfold tA
 rw [if_neg (by omega : ¬ x=0)]
 split
 omega
 have:r.log2+1<=x.log2:=(Nat.le_log2 (by omega)).2 (by
   have:=Nat.log2_self_le (n:=r)
   rw [ej];omega)
 omega
def m4 (p:Nat × Nat):Nat:=2*(tA p.1+tA p.2)+if p.1<p.2 then 1 else 0
def adh {x y:Nat} (h:0<y):m4 (y,x%y)<m4 (x,y):=by
 have a:=bC x h
 unfold m4
 simp only []
 rw [if_neg (by omega)]
 by_cases c:x<y
 rw [if_pos c,dG c];omega
 rw [if_neg c]
 have:tA (x%y)<tA x:=ahi (by
   have h1:=hL x y
   have b:y*1<=y*(x/y):=fw _ (Pe (by omega) h)
   omega) (by omega)
 omega
def TA (n:Nat):tA n<=32*ae n:=by
 unfold tA
 split
 omega
 have h:=eY n
 rw [show af=2 ^ 32 from rfl, <- Nat.pow_mul] at h
 exact (Nat.log2_lt (by omega)).2 h
def K2 (x y:Nat) (C:Nat × Nat->Bool) (f:∀ p,C p=true->0<p.2):∃ N,N<=m4 (x,y)/\(∀ i,i<N->C (bY x y i)=true)/\C (bY x y N)=false:=by
 have key:∀ k,(∀ i,i<k->C (bY x y i)=true)->m4 (bY x y k)+k<=m4 (x,y) := λ k=>by
   induction k with
   | zero=>exact λ _=>a4 _
   | succ k c =>
     intro h
     have h1:=c λ i b=>h i (by omega)
     have a:_<m4 (bY x y k):=adh (x:=(bY x y k).1) (f _ (h k (by omega)))
     show m4 ((bY x y k).2,_)+_<=_
     omega
 have d:∀ k,(∀ i,i<k->C (bY x y i)=true) \/ ∃ N,N<k/\(∀ i,i<N->C (bY x y i)=true)/\C (bY x y N)=false := λ k=>by
   induction k with
   | zero=>exact .inl λ i b=>absurd b (kC _)
   | succ k c =>
     rcases c with h | ⟨N,h1,a⟩
     cases e:C (bY x y k) with
     | true=>exact .inl λ i b=>(ZC.1 b).elim (h i) λ g=>g▸e
     | false=>exact .inr ⟨k,by omega,h,e⟩
     exact .inr ⟨N,by omega,a⟩
 rcases d (m4 (x,y)+1) with h | ⟨N,h1,a⟩
 have:=key _ h;omega
 exact ⟨N,by omega,a⟩
section
variable {P:Program} {G:Nat->Option (List aa)}
def aet (k y:Nat) (h:y<256):aZ P G := .st k [] (.zh (.str lens) (.int .u8 (y:Int))) (λ _=>{ val := .int .u8 (len8 y:Int) }) (λ σ p _=>by
 show (if 0<=(y:Int) then dB ((lens[(y:Int).toNat]?).map λ b=>aa.int .u8 b.toNat) else none)=_
 rw [if_pos (by omega),ue,ahh h];rfl)
def Gs (k x j d:Nat) (e:d=2 ^ j:=by rfl) (a:j<=32:=by decide):aZ P G:=ho k (o:=eH .shr .int (.int .u32 (x:Int)) (.int .u64 (j:Int))) (v := .int .u32 ((x/d:Nat):Int)) (by
 subst e
 have:=Ny x j a
 rw [Bv (by omega)] at this ⊢
 exact this)
def G7 (y:Nat) (c:Nat) (a:y<256) (hc:c<=24):List (aZ P G):=[hw 15 (show IntKind.u8.wrap (y:Int)=(y:Int) by rw [IntKind.wrap_u8'];omega) .u8,aet 16 y a,hw 17 (show cF.wrap (len8 y:Int)=(len8 y:Int) by have:=Ty y;rw [cM];omega),hw 18 (show cF.wrap ((c:Int)+(len8 y:Int))=((c+len8 y:Nat):Int) by have:=Ty y;rw [cM];omega)]
def FW {x y N:Nat} (a:ae x<=4194304000000) (b:ae y<=4194304000000) (h:N<=m4 (x,y)):N<=10000000000000000000:=by
 have:=TA x;have:=TA y
 unfold m4 at h;simp only [] at h;split at h<;>omega
def RP {x y b:Nat} (c:ae x<=b) (d:ae y<=b) (i:Nat):ae (bY x y i).1<=b/\ae (bY x y i).2<=b:=by
 have h:=FY (Nat.le_max_left x y) (Nat.le_max_right x y) i
 have a:∀ n,n<=max x y->ae n<=b := λ n h=>bs (ff h) (by simp only [Nat.max_def];split<;>assumption)
 exact ⟨a _ h.1,a _ h.2⟩
end
end Go.aF
namespace Go.Proofs.YtpcofcmencgkbaaGreat
section
variable (G:Nat->Option (List aa))
abbrev u1:aB->List (bT × aN) := λ q=>[(q.a,⟨[.agg [.bool false, .aq]],2,false⟩)]
abbrev rI (p:Nat × Nat):aB->List (Nat × aa) := λ q=>[(4, .ref q.a 0 0),(5,W p.1),(6,W p.2)]
abbrev EZ (f:Nat):Prop:=∀ m n,n≠0->ae m<=3774873600000->ae n<=3774873600000->ag ab G f [W m,W n] (.aS [W (m/n),W (m%n)])
abbrev Sf (p:Nat × Nat):aB->List (Nat × aa) := λ q=>[(4, .ref q.a 0 0),(9, .int .u64 (p.1:Int)),(10, .int .u64 (p.2:Int))]
def alX (hd:EZ G 224) (j:lK ab G 179) (s t:Bool) (x y:Nat) (l:ae x<=3774873600000) (b:ae y<=3774873600000):ag ab G 176 [.agg [.bool s,W x], .agg [.bool t,W y]] (aP (cy x y:Nat)):=by
 have ⟨N,h1,m,h3⟩:=K2 x y (λ p=>decide (0<p.2)) λ p h=>by simpa using h
 have c:=RP l b
 have e:(bY x y N).2=0:=by have:=of_decide_eq_false h3;omega
 have f:=FX x y N
 rw [e,Pg] at f
 have d:=j false (bY x y N).1 (bs (c N).1 (by omega))
 rw [show ep false (bY x y N).1=((cy x y:Nat):Int) by rw [f];rfl] at d
 exact bB [hc (jq (o5 G) x (by omega)),hc (jq (o5 G) y (by omega)),tC (ao 176) 0 0 N 2 (rI (x,y) (aB.o 2)) (λ i=>rI (bY x y i)) (λ _=>u1) (.exit 0) rfl (λ i k=>by
   have g:=of_decide_eq_true (m i k)
   exact aW aG [bA 16 (bY x y i).2,hb 17 (decide_eq_true (by have := @gL (bY x y i).2;omega):decide ((ae (bY x y i).2:Int)>0)=true),hc (hd _ _ (Eu g) (c i).1 (c i).2)] ) (aW aG [bA 16 (bY x y N).2,hb 17 (decide_eq_false (by rw [gL.2 e];decide):decide ((ae (bY x y N).2:Int)>0)=false)] ) (by kernel_rfl) (FW (by omega) (by omega) h1),hc d]
def aj5 (hd:EZ G 303) (D:lK ab G 229) (k:∀ n,ae n<=4194304000000->ag ab G 185 [W n] (W n)) (f:∀ n,n<18446744073709551616->ag ab G 304 [W n] (.int .u64 ((n:Nat):Int))) (hu:∀ n,n<18446744073709551616->ag ab G 230 [.int .u64 ((n:Nat):Int)] (W n)) (s t:Bool) (x y:Nat) (v:ae x<=3774873600000) (e:ae y<=3774873600000):ag ab G 292 [.agg [.bool s,W x], .agg [.bool t,W y]] (aP (cy x y:Nat)):=by
 have ⟨N,h1,I,h3⟩:=K2 x y (λ p=>decide (2<ae p.2 \/ 2<ae p.1/\0<ae p.2)) λ p h=>by
   have:=of_decide_eq_true h;have := @gL p.2;omega
 have m:=RP v e
 have j:=FX x y N
 have F:=of_decide_eq_false h3
 have H:∀ {n:Nat},0<n->decide ((n:Int)>0)=true := λ h=>decide_eq_true (by omega)
 have ft:∀ {n:Nat},2<n->decide ((n:Int)>2)=true := λ h=>decide_eq_true (by omega)
 have bf:∀ {n:Nat}, ¬ 2<n->decide ((n:Int)>2)=false := λ h=>decide_eq_false (by omega)
 have rd:∀ i,i<N->gY ab G (ao 292) 0 .normal (rI (bY x y i)) u1 (rI (bY x y (i+1))) u1 := λ i q=>by
   have l:=of_decide_eq_true (I i q)
   have L:(bY x y i).2≠0:=by have := @gL (bY x y i).2;omega
   have d:=hd _ _ L (m i).1 (m i).2
   by_cases c:2<ae (bY x y i).2
   exact aW aG [bA 18 (bY x y i).2,hb 19 (ft c),hc d] (by kernel_rfl)
   have z:=l.resolve_left c
   exact aW aG [bA 18 (bY x y i).2,hb 19 (bf c),bA 22 (bY x y i).1,hb 23 (ft z.1),bA 26 (bY x y i).2,hb 27 (H z.2),hc d] (by kernel_rfl)
 have C:gY ab G (ao 292) 0 (.exit 0) (rI (bY x y N)) u1 (rI (bY x y N)) u1:=by
   by_cases c:2<ae (bY x y N).1
   exact aW aG [bA 18 (bY x y N).2,hb 19 (bf (n:=ae (bY x y N).2) (by omega)),bA 22 (bY x y N).1,hb 23 (ft c),bA 26 (bY x y N).2,hb 27 (decide_eq_false (by omega):decide ((ae (bY x y N).2:Int)>0)=false)] (by kernel_rfl)
   exact aW aG [bA 18 (bY x y N).2,hb 19 (bf (n:=ae (bY x y N).2) (by omega)),bA 22 (bY x y N).1,hb 23 (bf c)] (by kernel_rfl)
 have R:ae (cy x y)<=3774873600000:=by
   rcases Nat.eq_zero_or_pos x with h | h
   rw [h,Nat.gcd_zero_left];exact e
   exact bs (ff (Nat.gcd_le_left _ h)) v
 have g:=D false (cy x y) (by omega)
 by_cases w:(bY x y N).2=0
 rw [w,Pg] at j
 rw [<- j] at g ⊢
 exact bB [hc (jq (o0 G) x (by omega)),hc (jq (o0 G) y (by omega)),tC (ao 292) 0 0 N 2 (rI (x,y) (aB.o 2)) (λ i=>rI (bY x y i)) (λ _=>u1) (.exit 0) rfl rd C (by kernel_rfl) (FW (by omega) (by omega) h1),bA 39 (bY x y N).2,hb 40 (show ((ae (bY x y N).2:Int)==0)=true by rw [gL.2 w];rfl),hc (k (bY x y N).1 (bs (m N).1 (by omega))),hc g]
 have l:0<ae (bY x y N).2:=by have := @gL (bY x y N).2;omega
 have pX:=CA (show ae (bY x y N).1<=2 by omega)
 have u2:=CA (show ae (bY x y N).2<=2 by omega)
 have S:ae (bY x y N).1<=2:=by omega
 have T:ae (bY x y N).2<=2:=by omega
 generalize P:(bY x y N).1=A at *
 generalize Q:(bY x y N).2=B at *
 have ⟨M,K,O,J⟩:=K2 A B (λ p=>decide (p.2≠0)) λ p h=>Nat.pos_of_ne_zero (of_decide_eq_true h)
 have E := λ i=>(FY (b:=18446744073709551615) (by omega:A<=_) (by omega:B<=_) i).1
 have u:(bY A B M).2=0:=by simpa using J
 have r:=FX A B M
 rw [u,Pg,j] at r
 rw [<- r] at g ⊢
 subst P Q
 exact bB [hc (jq (o0 G) x (by omega)),hc (jq (o0 G) y (by omega)),tC (ao 292) 0 0 N 2 (rI (x,y) (aB.o 2)) (λ i=>rI (bY x y i)) (λ _=>u1) (.exit 0) rfl rd C (by kernel_rfl) (FW (by omega) (by omega) h1),bA 39 (bY x y N).2,hb 40 (show ((ae (bY x y N).2:Int)==0)=false by simpa using Eu l),hc (f (bY x y N).1 pX),hc (f (bY x y N).2 u2),tC (ao 292) 1 1 M (dO 0) (Sf ((bY x y N).1,(bY x y N).2) (aB.o (dO 0))) (λ i=>Sf (bY (bY x y N).1 (bY x y N).2 i)) (λ _=>u1) (.exit 2) rfl (λ i q=>by
   have h:(bY (bY x y N).1 (bY x y N).2 i).2≠0:=of_decide_eq_true (O i q)
   exact aW aG [hb 49 (show (((bY (bY x y N).1 (bY x y N).2 i).2:Int) != 0)=true from bne_iff_ne.2 (by omega)),ho 53 (Dd (bY (bY x y N).1 (bY x y N).2 i).1 _ h)] ) (aW aG [hb 49 (show (((bY (bY x y N).1 (bY x y N).2 M).2:Int) != 0)=false by rw [u];rfl)] ) (by kernel_rfl) (FW (by omega) (by omega) K),hc (hu (bY (bY x y N).1 (bY x y N).2 M).1 (by have:=E M;omega)),hc g]
def zy (a:Int):ag ab G 287 [.int .i64 a] (.bool false):=bB [hb 5 (bne_self_eq_false a)]
def zz (a:Int):ag ab G 298 [.int .u32 a] (.bool false):=bB [hb 5 (bne_self_eq_false a)]
def Ky (a b:Int):ag ab G 265 [.int .i64 a, .int .i64 b] (.int .i64 (eV a b)):=by
 rcases oG a b with ⟨e,h⟩ | ⟨e,h⟩ | ⟨e,h⟩<;>rw [e]
 exact bB [hc (zy G a),hc (zy G b),hb 16 (decide_eq_true h)]
 exact bB [hc (zy G a),hc (zy G b),hb 16 (decide_eq_false (by omega):decide (a<b)=false),hb 19 (decide_eq_false (by omega):decide (a>b)=false)]
 exact bB [hc (zy G a),hc (zy G b),hb 16 (decide_eq_false (by omega):decide (a<b)=false),hb 19 (decide_eq_true h:decide (a>b)=true)]
def Kz (a b:Int):ag ab G 288 [.int .u32 a, .int .u32 b] (.int .i64 (eV a b)):=by
 rcases oG a b with ⟨e,h⟩ | ⟨e,h⟩ | ⟨e,h⟩<;>rw [e]
 exact bB [hc (zz G a),hc (zz G b),hb 16 (decide_eq_true h)]
 exact bB [hc (zz G a),hc (zz G b),hb 16 (decide_eq_false (by omega):decide (a<b)=false),hb 19 (decide_eq_false (by omega):decide (a>b)=false)]
 exact bB [hc (zz G a),hc (zz G b),hb 16 (decide_eq_false (by omega):decide (a<b)=false),hb 19 (decide_eq_true h:decide (a>b)=true)]
noncomputable abbrev R4 {f:Nat} (b:gZ ab G f) (n:Nat) (c:n<18446744073709551616):List (aZ ab G) :=
 [hw 4 (j8 n) .u32,ho 6 (np n),hw 7 (pY (by unfold af;omega:n/af<af)) .u32,pH [6,0] 1 (us [n%af,n/af]) 2 rfl (A:=[]) (r:=W n) (by
   have h:=b [n%af,n/af] (by intro w hw;simp at hw;rcases hw with rfl | rfl<;>unfold af<;>omega) (by simp)
   rw [show val [n%af,n/af]=n by simp [val,pd]] at h
   exact h)]
def Ga (n:Nat) (b:n<18446744073709551616):ag ab G 230 [.int .u64 (n:Int)] (W n):=bB (R4 G (o0 G) n b)
def Ji (n:Nat) (b:n<18446744073709551616):ag ab G 180 [.int .u64 (n:Int)] (W n):=bB (R4 G (o5 G) n b)
def acf:ag ab G 185 [.sl 1 []] (.sl 1 []):=by
 refine ag.has (aH:=aoS) ⟨_,Tryz.func185,by kernel_rfl⟩ ?_
 show _/\_
 exact ⟨⟨.inr rfl, .aq,rfl,fi 1⟩,⟨.inr rfl,_,rfl,View.DD 1⟩⟩
def QQ (n:Nat) (f:ae n<=4194304000000):ag ab G 185 [W n] (W n):=by
 by_cases a:n=0
 subst a
 have h:=acf G
 rw [show (aa.sl 1 [])=W 0 by rw [W,iO];rfl] at h
 exact h
 have e:eH .eql .slice (W n) .aq=some (.bool false):=by
   have:=mt gL.1 a
   unfold W ae at *
   cases hd:digits n with
   | nil=>rw [hd] at this;simp at this
   | cons w ws=>rfl
 have b:(us (digits n)).length=ae n:=il _
 exact ag.Xz aY [ho 4 e,Sn 7 1 4 (us (digits n)) (digits n).length b (λ c=>a (gL.1 (by rw [<- b,c];rfl))) (by rw [b];omega)] 5 rfl
def aoi (neg:Bool) (ws:List Nat) (g:ws.length<=9223372036854775807):ag ab G 290 [uA neg ws] (.bool (rR neg ws)):=by
 have a:jr false (.sl 1 (us ws))=some (.int .i64 ws.length):=by simp [jr,il]
 unfold rR uA
 by_cases d:ws=[]
 subst d;cases neg<;>exact bB []
 have b:0<ws.length:=List.length_pos_iff.2 d
 have ⟨w,f⟩:∃ w,ws[ws.length-1]? = some w:=⟨_,List.getElem?_eq_getElem (by omega)⟩
 rw [if_neg d,f]
 exact bB [ho 6 a,hb 8 (show ((ws.length:Int)==0)=false by simpa using d),hb 16 (decide_eq_true (by omega):decide ((ws.length:Int)>0)=true),hw 21 (ao5 ws.length b g),ho 22 (tt (k:=1) (pI := .i64) rfl (ss f)),hb 24 (show ((w:Int) != 0)=decide (w≠0) by by_cases c:w=0<;>simp [c])]
def TE (x:Nat) (d:x<af):ag ab G 322 [.int .u32 (x:Int)] (.int .i64 (dL x:Int)):=by
 unfold dL
 unfold af at d
 have y:∀ {a b:Nat},a<=b->decide ((b:Int)≥(a:Int))=true := λ h=>decide_eq_true (by omega)
 have z:∀ {a b:Nat}, ¬ a<=b->decide ((b:Int)≥(a:Int))=false := λ h=>decide_eq_false (by omega)
 split
 split
 exact bB (hb 4 (y (a:=65536) ‹_›)::Gs 6 x 16 65536::hb 8 (y (a:=256) ‹_›)::Gs 10 (x/65536) 8 256::G7 (x/65536/256) 24 (by omega) (by omega))
 exact bB (hb 4 (y (a:=65536) ‹_›)::Gs 6 x 16 65536::hb 8 (z (a:=256) ‹_›)::G7 (x/65536) 16 (by omega) (by omega))
 split
 exact bB (hb 4 (z (a:=65536) ‹_›)::hb 8 (y (a:=256) ‹_›)::Gs 10 x 8 256::G7 (x/256) 8 (by omega) (by omega))
 rw [<- c4 (len8 x)]
 exact bB (hb 4 (z (a:=65536) ‹_›)::hb 8 (z (a:=256) ‹_›)::G7 x 0 (by omega) (by omega))
end
end Go.Proofs.YtpcofcmencgkbaaGreat
namespace Go.aF
def aag {ws:List Nat} (h:fl ws):ws=eP (val ws) ws.length:=by
 refine ou (oy _ _).symm λ i h1 b => ?_
 rw [show (eP (val ws) ws.length)[i]=ax (val ws) i by simp [eP]]
 have e:val ws=val (ws.take i)+af ^ i*val (ws.drop i):=by
   conv=>lhs;rw [<- List.take_append_drop i ws,pZ,cZ,jv (jt h1)]
 have a:=kU (ws:=ws.take i) λ w hw=>h w (gq hw)
 rw [cZ,jv (jt h1)] at a
 unfold ax
 rw [e,mR _ _ (gj i),iX a,c4,List.drop_eq_getElem_cons h1,val,sD,dG (h _ (List.getElem_mem h1))]
def Fe (n:Nat):W n = .sl 1 (us (eP n (ae n))):=by rw [W,Re]
def wi {Z w p j:Nat} (h:j<p):ax (Z+af ^ p*w) j=ax Z j:=by
 unfold ax
 obtain ⟨d,rfl⟩:=Nat.exists_eq_add_of_lt h
 rw [show af ^ (j+d+1)*w=af ^ j*(af*(af ^ d*w)) by rw [ej,gC];simp only [l2,dF],mR _ _ (gj j),sD]
def dm (a b i:Nat):Nat:=a%af ^ i*b
def nv (a b i k:Nat):Nat:=af ^ i*(ax a i*(b%af ^ k))
def gA (a b i k:Nat):Nat:=(dm a b i%af ^ (i+k)+nv a b i k)/af ^ (i+k)
def jo (a b i k j:Nat):Nat:=if j<i+k then ax (dm a b i+nv a b i k) j else ax (dm a b i) j
def Xd (a b i:Nat):nv a b i 0=0:=by unfold nv;rw [nG,sK,iY,iY]
def N0 (a b i k:Nat):nv a b i (k+1)=nv a b i k+af ^ (i+k)*(ax a i*ax b k):=by
 unfold nv
 rw [rU,gC,dC,dC,eZ (af ^ i),l2 (af ^ k)]
def Xf (a b i:Nat):gA a b i 0=0:=by
 unfold gA;rw [Xd];exact iX (bC _ (gj _))
def IJ (a b i k:Nat):gA a b i k<af:=by
 unfold gA
 refine vM ?_
 have h1:=bC (dm a b i) (gj (i+k))
 have c:nv a b i k<=af ^ i*((af-1)*af ^ k):=fw _ (lH (ZD (cK a i)) (jt (bC _ (gj k))))
 have h3:af ^ i*((af-1)*af ^ k)+af ^ (i+k)=af ^ (i+k)*af:=by
   rw [l2, <- gC,dF (af ^ (i+k)) af]
   exact (jN _ _).symm
 omega
def N3 (a b i k:Nat):gA a b i (k+1)=(gA a b i k+(ax a i*ax b k+ax (dm a b i) (i+k)))/af/\ax (dm a b i+nv a b i (k+1)) (i+k)=(gA a b i k+(ax a i*ax b k+ax (dm a b i) (i+k)))%af:=by
 rw [N0]
 generalize c:i+k=p
 have e:(dm a b i%af ^ p+(nv a b i k+af ^ p*(ax a i*ax b k)))/af ^ p=gA a b i k+ax a i*ax b k:=by
   unfold gA;rw [c, <- ow,mR _ _ (gj p)]
 constructor
 show (dm a b i%af ^ (i+k+1)+nv a b i (k+1))/af ^ (i+k+1)=_
 rw [N0,c,rU,ej, <- ot,ZE,mR _ _ (gj p),e]
 congr 1;omega
 unfold ax at e ⊢
 have d:=hL (dm a b i) (af ^ p)
 rw [show (dm a b i+(nv a b i k+af ^ p*(a/af ^ i%af*(b/af ^ k%af))))=(dm a b i%af ^ p+(nv a b i k+af ^ p*(a/af ^ i%af*(b/af ^ k%af))))+af ^ p*(dm a b i/af ^ p) by omega,mR _ _ (gj p),e]
 generalize dm a b i/af ^ p=A,a/af ^ i%af*(b/af ^ k%af)=C,gA a b i k=D
 unfold af;omega
def Xi (a b i:Nat):jo a b i 0=ax (dm a b i):=by funext j;unfold jo;rw [Xd];split<;>rfl
def Xh (a b i k j:Nat):jo a b i (k+1) j=if j=i+k then (gA a b i k+(ax a i*ax b k+ax (dm a b i) (i+k)))%af else jo a b i k j:=by
 unfold jo
 rcases ub j (i+k) with h | h | h
 rw [if_pos (by omega),if_neg (by omega),if_pos h,N0, <- ow,wi h]
 subst h;rw [if_pos (by omega),if_pos rfl,(N3 a b i k).2]
 rw [if_neg (by omega),if_neg (by omega),if_neg (by omega)]
def Xc {a b i k:Nat} (hb:b<af ^ k):dm a b (i+1)=dm a b i+nv a b i k:=by
 unfold dm nv;rw [rU,dG hb,fg,eZ]
def Xb {a b i k:Nat} (hb:b<af ^ k):dm a b i<af ^ (i+k):=by
 unfold dm;rw [gC];exact nE (bC _ (gj i)) hb
def Xg {a b i k:Nat} (hb:b<af ^ k) (j:Nat):ax (dm a b (i+1)) j=if j=i+k then gA a b i k else jo a b i k j:=by
 have h1:=Xb (a:=a) (i:=i) hb
 have c:=Xb (a:=a) (i:=i+1) hb
 unfold jo
 rcases ub j (i+k) with h | h | h
 rw [if_neg (by omega),if_pos h,Xc hb]
 subst h
 rw [if_pos rfl,Bk (by rwa [ZE] at c),gA,dG h1,Xc hb]
 rw [if_neg (by omega),if_neg (by omega),uy (fv c (dv ed (by omega))),uy (fv h1 (dv ed (by omega)))]
section
variable {P:Program} {G:Nat->Option (List aa)}
abbrev mf (x L:Nat):aa := .sl 1 (us (eP x L))
def nW (k x L:Nat):aZ P G:=ho k (o:=jr false (mf x L)) (v := .int .i64 (L:Int)) (by simp [jr,il,oy])
def Gl (k x:Nat) {L i:Nat} (h:i<L):aZ P G:=ho k (tt (es:=us (eP x L)) (e:=Ar (ax x i)) (pI := .i64) (k:=1) (kk:=1) rfl (ss (ws:=eP x L) (i:=i) (w:=ax x i) (by simp [eP,h])))
def nV (k i j:Nat) (h:i+j<=9223372036854775807:=by omega):aZ P G:=hw k (Bs i j h)
abbrev dk (L:Nat) (f:Nat->Nat):aB->List (Id × aN) := λ q=>[(q.a,⟨us (cm L f),1,false⟩)]
end
end Go.aF
namespace Go.Proofs.YtpcofcmencgkbaaGreat
section
variable (G:Nat->Option (List aa)) (a b k l:Nat)
noncomputable abbrev DB (i:Nat):aB->List (Nat × aa) := λ q=>[(0,mf a k),(1,mf b l),(5, .ai q.a 1 0 (k+l) false),(25,mf a k),(26, .int .i64 (k:Int)),(27, .int .i64 (i:Int))]
noncomputable abbrev Dz (i j c:Nat):aB->List (Nat × aa) := λ q=>[(0,mf a k),(1,mf b l),(5, .ai q.a 1 0 (k+l) false),(6, .int .i64 (i:Int)),(7, .int .u32 (ax a i:Int)),(8, .int .u64 (c:Int)),(25,mf a k),(26, .int .i64 (k:Int)),(27, .int .i64 (i:Int)),(32,mf b l),(33, .int .i64 (l:Int)),(34, .int .i64 (j:Int))]
def anu (q:k<=4194304000000) (o:l<=4194304000000) (i:Nat) (p:i<k) (j:Nat) (d:j<l):gY ab G (ao 267) 1 .normal (Dz a b k l i j (gA a b i j)) (dk (k+l) (jo a b i j)) (Dz a b k l i (j+1) (gA a b i (j+1))) (dk (k+l) (jo a b i (j+1))):=by
 have f:=cK a i
 have g:=cK b j
 have m:=cK (dm a b i) (i+j)
 have hc:=IJ a b i j
 have n:=Hm f g
 have c:i+j<k+l:=by omega
 have e:=(N3 a b i j).1
 have s:eH .shr .int (.int .u64 ((gA a b i j+(ax a i*ax b j+ax (dm a b i) (i+j)):Nat):Int)) (.int .u64 32)=some (.int .u64 (gA a b i (j+1):Int)):=by rw [np,e]
 unfold af at m hc
 exact aW aG [gQ 35 d,Gl 37 b d,hw 41 (fp _ f) .u64,hw 43 (fp _ g) .u64,hw 44 (CM _ _ f g) .u64,nV 48 i j,fI 49 [1] _ _ c,j0 50 [1] (k+l) (jo a b i j) c (by unfold jo;exact if_neg (yd _)),hw 51 (fp _ (cK (dm a b i) (i+j))) .u64,hw 52 (uJ (ax a i*ax b j) (ax (dm a b i) (i+j)) (by omega)) .u64,hw 53 (uJ (gA a b i j) (ax a i*ax b j+ax (dm a b i) (i+j)) (by omega)) .u64,nV 57 i j,hw 59 (j8 (gA a b i j+(ax a i*ax b j+ax (dm a b i) (i+j)))) .u32,fI 60 [1] _ _ c,jh 60 [1] (jo a b i (j+1)) c (λ x _=>Xh a b i j x),ho 62 s,hI 63 d]
def anA (h:k<=4194304000000) (m:l<=4194304000000) (d:b<af ^ l) (i:Nat) (c:i<k):a2 ab G (aU (ao 267) 0) (ao 267).aK (dO 9) .normal (DB a b k l i) (dk (k+l) (ax (dm a b i))) (DB a b k l (i+1)) (dk (k+l) (ax (dm a b (i+1)))):=by
 have e:i+l<k+l:=by omega
 exact aW (aB.o (dO 0)) [gQ 28 c,Gl 30 a c,nW 33 b l,tD (ao 267) 1 0 l aG (Dz a b k l i 0 0 aG) (dk (k+l) (ax (dm a b i)) aG) (λ j=>Dz a b k l i j (gA a b i j)) (λ j=>dk (k+l) (jo a b i j)) (.exit 2) (Dz a b k l i l (gA a b i l)) (dk (k+l) (jo a b i l)) (by simp only [Xf]) (by simp only [Xi]) (anu G a b k l h m i c) (aW aG [iP 35 (a4 l)] ),nW 67 b l,nV 68 i l,hw 70 (pY (IJ a b i l)) .u32,fI 71 w0 _ _ e,jh 71 w0 (f:=jo a b i l) (ax (dm a b (i+1))) e (λ x _=>Xg d x),hI 72 c]
def anB (q:k<=4194304000000) (p:l<=4194304000000) (d:0<k) (f:0<l) (m:a<af ^ k) (c:b<af ^ l):ag ab G 267 [mf a k,mf b l] (W (a*b)):=by
 have z:∀ {n:Nat},0<n->((n:Int)==0)=false := λ h=>by simp;omega
 have e:dm a b k=a*b:=by unfold dm;rw [dG m]
 exact bB [nW 12 a k,hb 13 (z d),nW 16 b l,hb 17 (z f),nW 20 a k,nW 22 b l,nV 23 k l,wN 24 (k+l) (ax (dm a b 0)) (λ j _=>by unfold dm;rw [nG,sK,re];exact uy (gj j)),nW 26 a k,Hf (ao 267) 0 k (aB.o 14) (DB a b k l 0 (aB.o 14)) (dk (k+l) (ax (dm a b 0)) (aB.o 14)) (DB a b k l) (λ i=>dk (k+l) (ax (dm a b i))) (.exit 0) (DB a b k l k) (dk (k+l) (ax (dm a b k))) rfl rfl (anA G a b k l q p c) (aW aG [iP 28 (a4 k)] ),rK (k+l) (a*b) (ax (dm a b k)) (λ j _=>by rw [e]) (o0 G) (by rw [gC];exact nE m c) (id:=[1000000000000000000000000000000000000000000000000,0])]
def anC (m n:Nat) (e:ae m<=4194304000000) (f:ae n<=4194304000000):ag ab G 267 [W m,W n] (W (m*n)):=by
 have nil:m*n=0->∀ σ : aL,(∀ x∈([]:List (bT × aN)), σ x.1=some x.2)->View σ .aq (W (m*n)) := λ h σ _=>by rw [h,W,iO];exact fi 1
 have y:∀ {n:Nat},ae n=0->((ae n:Int)==0)=true := λ h=>by rw [h];rfl
 by_cases d:ae m=0
 exact ag.pc aY [bA 12 m,hb 13 (y d)] [] .aq (by kernel_rfl) rfl rfl gm (nil (by rw [gL.1 d,re]))
 by_cases h1:ae n=0
 exact ag.pc aY [bA 12 m,hb 13 (show ((ae m:Int)==0)=false by simp;omega),bA 16 n,hb 17 (y h1)] [] .aq (by kernel_rfl) rfl rfl gm (nil (by rw [gL.1 h1,iY]))
 rw [Fe m,Fe n]
 exact anB G m n _ _ e f (by omega) (by omega) (eY m) (eY n)
noncomputable abbrev Dk (i:Nat):aB->List (Nat × aa) := λ q=>[(0,mf a k),(1,mf b l),(5, .ai q.a 1 0 (k+l) false),(6, .int .i64 (i:Int))]
noncomputable abbrev D1 (i j c:Nat):aB->List (Nat × aa) := λ q=>[(0,mf a k),(1,mf b l),(5, .ai q.a 1 0 (k+l) false),(6, .int .i64 (i:Int)),(7, .int .u64 (c:Int)),(8, .int .i64 (j:Int))]
def alZ (q:k<=4194304000000) (r:l<=4194304000000) (i:Nat) (o:i<k) (j:Nat) (d:j<l):gY ab G (ao 225) 1 .normal (D1 a b k l i j (gA a b i j)) (dk (k+l) (jo a b i j)) (D1 a b k l i (j+1) (gA a b i (j+1))) (dk (k+l) (jo a b i (j+1))):=by
 have f:=cK a i
 have g:=cK b j
 have m:=cK (dm a b i) (i+j)
 have hc:=IJ a b i j
 have p:=Hm f g
 have c:i+j<k+l:=by omega
 have e:=(N3 a b i j).1
 have s:eH .shr .int (.int .u64 ((gA a b i j+(ax a i*ax b j+ax (dm a b i) (i+j)):Nat):Int)) (.int .u64 32)=some (.int .u64 (gA a b i (j+1):Int)):=by rw [np,e]
 unfold af at m hc
 have n:de.wrap (((gA a b i j+ax (dm a b i) (i+j):Nat):Int)+((ax a i*ax b j:Nat):Int))=((gA a b i j+(ax a i*ax b j+ax (dm a b i) (i+j)):Nat):Int):=by rw [iu];omega
 exact aW aG [nW 23 b l,gQ 24 d,nV 31 i j,fI 32 [1] _ _ c,j0 33 [1] (k+l) (jo a b i j) c (by unfold jo;exact if_neg (yd _)),hw 34 (fp _ (cK (dm a b i) (i+j))) .u64,hw 35 (uJ (gA a b i j) (ax (dm a b i) (i+j)) (by omega)) .u64,Gl 38 a o,hw 40 (fp _ f) .u64,Gl 43 b d,hw 45 (fp _ g) .u64,hw 46 (CM _ _ f g) .u64,hw 47 n .u64,nV 51 i j,hw 53 (j8 (gA a b i j+(ax a i*ax b j+ax (dm a b i) (i+j)))) .u32,fI 54 [1] _ _ c,jh 54 [1] (jo a b i (j+1)) c (λ x _=>Xh a b i j x),ho 56 s,hI 26 d]
def amp (h:k<=4194304000000) (m:l<=4194304000000) (d:b<af ^ l) (i:Nat) (c:i<k):a2 ab G (aU (ao 225) 0) (ao 225).aK (dO 9) .normal (Dk a b k l i) (dk (k+l) (ax (dm a b i))) (Dk a b k l (i+1)) (dk (k+l) (ax (dm a b (i+1)))):=by
 have e:i+l<k+l:=by omega
 exact aW (aB.o (dO 0)) [nW 17 a k,gQ 18 c,tD (ao 225) 1 0 l aG (D1 a b k l i 0 0 aG) (dk (k+l) (ax (dm a b i)) aG) (λ j=>D1 a b k l i j (gA a b i j)) (λ j=>dk (k+l) (jo a b i j)) (.exit 2) (D1 a b k l i l (gA a b i l)) (dk (k+l) (jo a b i l)) (by simp only [Xf]) (by simp only [Xi]) (alZ G a b k l h m i c) (aW aG [nW 23 b l,iP 24 (a4 l)] ),nW 60 b l,nV 61 i l,hw 63 (pY (IJ a b i l)) .u32,fI 64 w0 _ _ e,jh 64 w0 (f:=jo a b i l) (ax (dm a b (i+1))) e (λ x _=>Xg d x),hI 20 c]
def ao7 (g:k<=4194304000000) (h:l<=4194304000000) (d:a<af ^ k) (c:b<af ^ l):ag ab G 225 [mf a k,mf b l] (W (a*b)):=by
 have e:dm a b k=a*b:=by unfold dm;rw [dG d]
 exact bB [nW 10 a k,nW 12 b l,nV 13 k l,wN 14 (k+l) (ax (dm a b 0)) (λ j _=>by unfold dm;rw [nG,sK,re];exact uy (gj j)),Hf (ao 225) 0 k (aB.o 6) (Dk a b k l 0 (aB.o 6)) (dk (k+l) (ax (dm a b 0)) (aB.o 6)) (Dk a b k l) (λ i=>dk (k+l) (ax (dm a b i))) (.exit 0) (Dk a b k l k) (dk (k+l) (ax (dm a b k))) rfl rfl (amp G a b k l g h c) (aW aG [nW 17 a k,iP 18 (a4 k)] ),rK (k+l) (a*b) (ax (dm a b k)) (λ j _=>by rw [e]) (o5 G) (by rw [gC];exact nE d c) (id:=[1000000000000000000000000000000000000000000000000,0])]
def VZ (m:Nat) (ws:List Nat) (hw:fl ws) (d:ae m<=4194304000000) (e:ws.length<=4194304000000):ag ab G 225 [W m, .sl 1 (us ws)] (W (m*val ws)):=by
 rw [Fe m,aag hw,vz,dG (kU hw)]
 exact ao7 G m (val ws) _ _ d e (eY m) (kU hw)
end
end Go.Proofs.YtpcofcmencgkbaaGreat
namespace Go.aF
section
variable {P:Program} {G:Nat->Option (List aa)}
def qf (P:Program) (G:Nat->Option (List aa)) (c:cB) (n w:Nat) (e:cw) (A:aB->List (Nat × aa)) (bZ:aB->List (Id × aN)) (B:aB->List (Nat × aa)) (ct:aB->List (Id × aN)):Prop :=
 ∀ (q:aB) (m:Nat),eQ m q->bu P G [0] c (λ a s'=>a=e/\bz G [0] s' ⟨fr n (B q),bk (ct q),m+w⟩) ⟨fr n (A q),bk (bZ q),m⟩
def kv {c:cB} {n w:Nat} {e:cw} {A B:aB->List (Nat × aa)} {bZ ct:aB->List (Id × aN)} [gb A] [gb B] [dy bZ] [dy ct] (a:List (aZ P G))
   (h:h8 (ct aG) (fr n (B aG)) w (bX true 1000 c [0] a ⟨fr n (A aG),cf (bZ aG),0⟩)=h7 e (ct aG) (fr n (B aG)) (bX true 1000 c [0] a ⟨fr n (A aG),cf (bZ aG),0⟩):=by kernel_rfl):qf P G c n w e A bZ B ct := λ q m g =>
 bu.j7 q.κ a (fr n (A aG)) (bZ aG) e (fr n (B aG)) (ct aG) w h (by rw [u0,gb.nat,JK]) (by rw [dy.nat,JK]) (by rw [u0,gb.nat,JK]) (by rw [dy.nat,JK]) (dy.nd g) λ s hw=>⟨rfl,hw⟩
def He {c:cB} {n N w n0 E:Nat} {e:cw} {q:aB} {T:Nat->aB->List (Nat × aa)} {K:Nat->aB->List (Id × aN)} {fH:aB->List (Nat × aa)} {fy:aB->List (Id × aN)} [gb fH] [dy fy] (h:eQ n0 q)
   (r:∀ i,i<N->qf P G c n w .normal (T i) (K i) (T (i+1)) (K (i+1))) (p:qf P G c n w e (T N) (K N) fH fy) (g:e ≠ .normal) (m:n0+w*N+w<=E) :
   bu P G [0] (.loop c) (λ d s'=>d=e/\bz G [0] s' ⟨fr n (fH q),eK.to (cf (fy q)),E⟩) ⟨fr n (T 0 q),bk (K 0 q),n0⟩:=by
 refine bu.qz (α := Nat) (λ i=>⟨fr n (T i q),bk (K i q),n0+w*i⟩) (λ i=>i<=N) (λ i=>N-i) 0 (by rw [iY];exact bz.refl _ _ _) (et _) ?_
 intro i s
 have k:eQ (n0+w*i) q:=h.mono (ud _ _)
 by_cases a:i<N
 refine (r i a q _ k).mono λ d s' ⟨h1,h3⟩ => ?_
 subst h1
 rw [show n0+w*i+w=n0+w*(i+1) by rw [dC,Nat.mul_one];omega] at h3
 exact ⟨i+1,a,by show N-(i+1)<N-i;omega,h3⟩
 obtain rfl:i=N:=by omega
 refine (p q _ k).mono λ d s' ⟨h1,h3⟩ => ?_
 subst h1
 have h4:=bz.toT (h.nd.sublist (dy.sub (f:=fy) q)) (h3.trans (bz.slots (gF.same _) m))
 cases d with
 | normal=>exact (g rfl).elim
 | exit j=>exact ⟨rfl,h4⟩
 | ret=>exact ⟨rfl,h4⟩
noncomputable def Hd (aH:dS) (k s N:Nat) (a:aB) (c:List (Nat × aa)) (d:List (Id × aN)) (T:Nat->aB->List (Nat × aa)) (K:Nat->aB->List (Id × aN)) (e:cw) (fH:aB->List (Nat × aa)) (fy:aB->List (Id × aN)) [gb fH] [dy fy] (g:T 0 a=c) (m:K 0 a=d)
   (h:∀ i,i<N->qf P G (aU aH k) aH.aK 200 .normal (T i) (K i) (T (i+1)) (K (i+1))) (l:qf P G (aU aH k) aH.aK 200 e (T N) (K N) fH fy) (j:kx (iE s) a=true:=by kernel_rfl) (f:N<=10000000000000000000:=by omega) (b:e ≠ .normal:=by simp):aZ P G :=
 .iA [0] (aU aH k) (fr aH.aK c) d (iE s) e (fr aH.aK (fH a)) (cf (fy a)) (dO s) (by
   rw [<- g, <- m]
   exact He (JH j) h l b (bs (Yc f) (a4 _)))
def rc (X q b k:Nat):Nat:=(X%af ^ k+q*(b%af ^ k))/af ^ k
def alu (X q b:Nat):rc X q b 0=0:=by unfold rc;rw [nG,sK,sK,iY]
def VB {q:Nat} (X b k:Nat) (a:q<af):rc X q b k<af:=by
 refine vM ?_
 have h1:=bC X (gj k)
 have c:q*(b%af ^ k)<=(af-1)*af ^ k:=lH (ZD a) (jt (bC _ (gj k)))
 have h3:(af-1)*af ^ k+af ^ k=af ^ k*af:=by rw [dF (af ^ k)];exact (jN _ _).symm
 omega
def Db (X q b k:Nat):rc X q b k+q*ax b k+ax X k=ax (X+q*b) k+af*rc X q b (k+1):=by
 have e:(X%af ^ (k+1)+q*(b%af ^ (k+1)))/af ^ k=rc X q b k+q*ax b k+ax X k:=by
   unfold rc
   rw [rU,rU,dC,l2 q,show X%af ^ k+af ^ k*ax X k+(q*(b%af ^ k)+af ^ k*(q*ax b k))=(X%af ^ k+q*(b%af ^ k))+af ^ k*(q*ax b k+ax X k) by rw [dC];omega,mR _ _ (gj k)]
   omega
 have d:ax (X+q*b) k=(rc X q b k+q*ax b k+ax X k)%af:=by
   rw [<- e]
   have h1:=hL X (af ^ (k+1))
   have a:=hL b (af ^ (k+1))
   conv=>lhs;rw [<- h1, <- a]
   rw [show af ^ (k+1)*(X/af ^ (k+1))+X%af ^ (k+1)+q*(af ^ (k+1)*(b/af ^ (k+1))+b%af ^ (k+1))=(X%af ^ (k+1)+q*(b%af ^ (k+1)))+af ^ (k+1)*(X/af ^ (k+1)+q*(b/af ^ (k+1))) by rw [dC,dC,l2 q];omega,wi (ov k)]
   rfl
 rw [d, <- e]
 show _=_+af*((X%af ^ (k+1)+q*(b%af ^ (k+1)))/af ^ (k+1))
 rw [show af ^ (k+1)=af ^ k*af from ej .., <- ot,pd]
def ann {p c x w c':Nat} (e:c+p+w=x+af*c') (b:x<af) (a:p<=18446744065119617025) (hc:c<af) (hw:w<af):de.wrap ((p:Int)+(c:Int))=((p+c:Nat):Int)/\gD.wrap (de.wrap ((x:Int)-(((p+c)%af:Nat):Int)))=(w:Int)/\de.wrap ((x:Int)-(((p+c)%af:Nat):Int))/9223372036854775808=((if x<(p+c)%af then 1 else 0:Nat):Int)/\de.wrap ((((p+c)/af:Nat):Int)+((if x<(p+c)%af then 1 else 0:Nat):Int))=(c':Int):=by
 unfold af at *
 simp only [iu,Et]
 split<;>refine ⟨?_, ?_, ?_, ?_⟩<;>omega
def ank {c x w c':Nat} (e:c+w=x+af*c') (a:x<af) (hc:c<af) (hw:w<af):gD.wrap (de.wrap ((x:Int)-(c:Int)))=(w:Int)/\de.wrap ((x:Int)-(c:Int))/9223372036854775808=(c':Int):=by
 unfold af at *
 simp only [iu,Et]
 refine ⟨?_, ?_⟩<;>omega
def cu.N8 {f:FuncId} {aH:dS} (h:gX P f aH) (a:List (aZ P G)) (A:aB->List aa) (V:aB->aa) (K U:aB->List (Id × aN)) [qd A] [kj V] [dy K] [dy U]
   (b:mE aH.results (U aG++rest (U aG) (K aG)) (bX true 1000 aH.body [0] a ⟨A aG++bG (aH.aK-(A aG).length) (.aS []),cf (K aG),0⟩)=mD (V aG) (U aG++rest (U aG) (K aG)) (bX true 1000 aH.body [0] a ⟨A aG++bG (aH.aK-(A aG).length) (.aS []),cf (K aG),0⟩))
   (q:aB) (p:Id) (hd:((K q).map (·.1)).Nodup) (tk:((U q).map (·.1)).Nodup):cu P G f (A q) p (K q) { val:=V q,rd:=(K q).map (·.1),up:=(U q).map λ x=>(x.1,some x.2) } :=
 fP h q.κ a (A aG) (K aG) (V aG) (U aG) b (qd.nat _ _) (dy.nat _ _) (kj.nat _ _) (dy.nat _ _) hd tk
def wf (f:Nat->Nat) (o X i j:Nat):Nat:=if o<=j/\j<o+i then ax X (j-o) else f j
def OK (f:Nat->Nat) (o X:Nat):wf f o X 0=f:=by funext j;unfold wf;exact if_neg (by omega)
def Au (f:Nat->Nat) (o X i j:Nat):wf f o X (i+1) j=if j=o+i then ax X i else wf f o X i j:=by
 unfold wf
 by_cases h:j=o+i
 subst h;rw [if_pos (by omega),if_pos rfl,JJ]
 rw [if_neg h];split<;>split<;>first | rfl | omega
def Jf (f:Nat->Nat) (o X i:Nat):wf f o X i (o+i)=f (o+i):=if_neg (by omega)
def lO (k:Nat) (id:Id) (o n i:Nat) (t:Bool) (h:i<n):aZ P G:=ho k (af9 (q:=id) (off:=o) (t:=t) h)
structure wv (L o v q X u:Nat) (f:Nat->Nat):Prop where
 hv:ae v<=4194304000000
 bA:o+ae v+1<=L
 Lj:L<=8388608000000
 hq:q<af
 hu:u<af ^ (ae v+1)
 hf:∀ i,i<=ae v->f (o+i)=ax u i
 wP:X+q*v=u+af ^ (ae v+1)
end
section
variable {L o v q X u:Nat} {f:Nat->Nat}
def wv.eq (H:wv L o v q X u f) {i:Nat} (a:i<=ae v):rc X q v i+q*ax v i+ax X i=f (o+i)+af*rc X q v (i+1)/\f (o+i)<af:=by
 have h:=Db X q v i
 have e:=wi (Z:=u) (w:=1) (show i<ae v+1 by omega)
 rw [Nat.mul_one] at e
 rw [H.wP,e] at h
 rw [H.hf i a]
 exact ⟨h,cK _ _⟩
def wv.last (H:wv L o v q X u f):rc X q v (ae v+1)=if u<q*v then 1 else 0:=by
 have a:=H.wP
 have hu:=H.hu
 unfold rc
 rw [dG (fv (eY v) (dv ed (Nat.le_succ _)))]
 generalize af ^ (ae v+1)=B at *
 split
 rw [dG (by omega),a,Nat.div_eq_iff (by omega)];omega
 rw [show X=u-q*v+B by omega,Nat.add_mod_right,dG (by omega)]
 exact iX (by omega)
end
end Go.aF
namespace Go.Proofs.YtpcofcmencgkbaaGreat
section
variable (G:Nat->Option (List aa)) (L o v q X:Nat) (f:Nat->Nat)
noncomputable abbrev Dw (i c:Nat):aB->List (Nat × aa) := λ r=>[(0, .ai r.a 1 o (ae v+1) false),(1,W v),(2, .int .u64 (q:Int)),(6, .bool false),(7, .int .u64 (c:Int)),(13,W v),(14, .int .i64 (ae v:Int)),(15, .int .i64 (i:Int))]
variable {L o v q X f} {u:Nat}
def anl (H:wv L o v q X u f) (i:Nat) (a:i<ae v):qf ab G (aU (ao 315) 0) (ao 315).aK 200 .normal (Dw o v q i (rc X q v i)) (dk L (wf f o X i)) (Dw o v q (i+1) (rc X q v (i+1))) (dk L (wf f o X (i+1))):=by
 have lj:=H.bA
 have l:=H.Lj
 have ⟨e,c⟩:=H.eq (jt a)
 rw [dF q] at e
 have ⟨g,k,h,d⟩:=ann e c (Hm (cK v i) H.hq) (VB X v i H.hq) (cK X i)
 exact kv [gQ 16 a,ei 18 a,hw 21 (fp _ (cK v i)) .u64,hw 23 (CM _ _ (cK v i) H.hq) .u64,hw 25 g .u64,lO 28 [1] o (ae v+1) i false (by omega),j0 29 [1] L (wf f o X i) (by omega) (Jf f o X i),hw 30 (fp _ c) .u64,hw 32 (j8 (ax v i*q+rc X q v i)) .u32,hw 33 (fp _ (bC (ax v i*q+rc X q v i) ed)) .u64,hw 38 k .u32,lO 39 [1] o (ae v+1) i false (by omega),jh 39 [1] (f:=wf f o X i) (wf f o X (i+1)) (by omega:o+i<L) (λ j _=>Au f o X i j),ho 41 (np (ax v i*q+rc X q v i)),Gt 43 h,hw 44 d .u64,hI 45 a (by have:=H.hv;omega)]
def anm (H:wv L o v q X u f) (id p:bT):cu ab G 315 [.ai id 1 o (ae v+1) false,W v, .int .u64 (q:Int)] p [(id,⟨us (cm L f),1,false⟩)] { val := .bool (decide (u<q*v)),rd:=[id],up:=[(id,some ⟨us (cm L (wf f o X (ae v+1))),1,false⟩)] }:=by
 have lj:=H.bA
 have k:=H.Lj
 have d:((rc X q v (ae v+1):Int)==1)=decide (u<q*v):=by rw [H.last];split<;>simp [*]
 have ⟨e,c⟩:=H.eq (a4 _)
 rw [qa (a4 _),iY,iL] at e
 have ⟨h,g⟩:=ank e c (VB X v _ H.hq) (cK X _)
 exact cu.N8 aY [bA 14 v,Hd (ao 315) 0 0 (ae v) aG (Dw o v q 0 0 aG) (dk L f aG) (λ i=>Dw o v q i (rc X q v i)) (λ i=>dk L (wf f o X i)) (.exit 0) (Dw o v q (ae v) (rc X q v (ae v))) (dk L (wf f o X (ae v))) (by simp only [alu]) (by simp only [OK]) (anl G H) (kv [iP 16 (a4 (ae v))] ) (by kernel_rfl) (by have:=H.hv;omega),bA 48 v,lO 49 [1] o (ae v+1) (ae v) false (by omega),j0 50 [1] L (wf f o X (ae v)) (by omega) (Jf f o X _),hw 51 (fp _ c) .u64,bA 56 v,hw 58 h .u32,lO 59 [1] o (ae v+1) (ae v) false (by omega),jh 59 [1] (f:=wf f o X (ae v)) (wf f o X (ae v+1)) (by omega:o+ae v<L) (λ j _=>Au f o X _ j),Gt 61 g,hb 62 d] (λ r=>[.ai r.a 1 o (ae v+1) false,W v, .int .u64 (q:Int)]) (λ _ => .bool (decide (u<q*v))) (dk L f) (dk L (wf f o X (ae v+1))) (by kernel_rfl) ⟨id,[2],[3],[4]⟩ p (by simp) (by simp)
noncomputable abbrev D0 (o v i c:Nat):aB->List (Nat × aa) := λ r=>[(0, .ai r.a 1 o (ae v+1) false),(1,W v),(4, .int .u64 (c:Int)),(7,W v),(8, .int .i64 (ae v:Int)),(9, .int .i64 (i:Int))]
def alA (hv:ae v<=4194304000000) (lj:o+ae v+1<=L) (h:∀ i,i<=ae v->f (o+i)=ax u i) (i:Nat) (a:i<ae v):qf ab G (aU (ao 316) 0) (ao 316).aK 200 .normal (D0 o v i (cP u v i)) (dk L (wf f o (u+v) i)) (D0 o v (i+1) (cP u v (i+1))) (dk L (wf f o (u+v) (i+1))):=by
 have e:=h i (jt a)
 have x:=cK u i
 have y:=cK v i
 have c:=rE u v i
 have b:=j8 (cP u v i+(ax u i+ax v i))
 rw [<- ow, <- yL] at b
 have g:=np (cP u v i+(ax u i+ax v i))
 rw [<- ow, <- BD] at g
 exact kv [gQ 10 a,ei 12 a,lO 17 [1] o (ae v+1) i false (by omega),j0 18 [1] L (wf f o (u+v) i) (by omega) ((Jf f o (u+v) i).trans e),hw 19 (fp _ x) .u64,hw 21 (fp _ y) .u64,hw 22 (uJ (ax u i) (ax v i) (by unfold af at *;omega)) .u64,hw 23 (show de.wrap ((cP u v i:Int)+((ax u i+ax v i:Nat):Int))=((cP u v i+ax u i+ax v i:Nat):Int) by rw [iu];unfold af at *;omega) .u64,hw 27 b .u32,lO 28 [1] o (ae v+1) i false (by omega),jh 28 [1] (f:=wf f o (u+v) i) (wf f o (u+v) (i+1)) (by omega:o+i<L) (λ j _=>Au f o (u+v) i j),ho 30 g,hI 31 a]
def alB (hv:ae v<=4194304000000) (lj:o+ae v+1<=L) (b:∀ i,i<=ae v->f (o+i)=ax u i) (id p:bT):cu ab G 316 [.ai id 1 o (ae v+1) false,W v] p [(id,⟨us (cm L f),1,false⟩)] { val := .aS [],rd:=[id],up:=[(id,some ⟨us (cm L (wf f o (u+v) (ae v+1))),1,false⟩)] }:=by
 have k:=yL u v (ae v)
 have c:=rE u v (ae v)
 rw [qa (a4 (ae v)),iL] at k
 have x:=cK u (ae v)
 exact cu.N8 aY [bA 8 v,Hd (ao 316) 0 0 (ae v) aG (D0 o v 0 0 aG) (dk L f aG) (λ i=>D0 o v i (cP u v i)) (λ i=>dk L (wf f o (u+v) i)) (.exit 0) (D0 o v (ae v) (cP u v (ae v))) (dk L (wf f o (u+v) (ae v))) (by simp only [yM]) (by simp only [OK]) (alA G hv lj b) (kv [iP 10 (a4 (ae v))] )  ,bA 34 v,lO 35 [1] o (ae v+1) (ae v) false (by omega),j0 36 [1] L (wf f o (u+v) (ae v)) (by omega) ((Jf f o (u+v) _).trans (b _ (a4 _))),hw 38 (pY (show cP u v (ae v)<af by unfold af;omega)) .u32,hw 39 (show gD.wrap ((ax u (ae v):Int)+(cP u v (ae v):Int))=(ax (u+v) (ae v):Int) by rw [k,Et];unfold af;omega) .u32,lO 40 [1] o (ae v+1) (ae v) false (by omega),jh 40 [1] (f:=wf f o (u+v) (ae v)) (wf f o (u+v) (ae v+1)) (by omega:o+ae v<L) (λ j _=>Au f o (u+v) _ j)] (λ r=>[.ai r.a 1 o (ae v+1) false,W v]) (λ _ => .aS []) (dk L f) (dk L (wf f o (u+v) (ae v+1))) (by kernel_rfl) ⟨id,[2],[3],[4]⟩ p (by simp) (by simp)
end
end Go.Proofs.YtpcofcmencgkbaaGreat
namespace Go.aF
def nn (m s i:Nat):Nat:=m%af ^ i*2 ^ s/af ^ i
def amE (m s:Nat):nn m s 0=0:=by unfold nn;rw [nG,sK,re]
def Dt (m s i:Nat):nn m s i<2 ^ s:=vM (Nat.mul_lt_mul_of_pos_right (bC m (gj i)) (Nat.two_pow_pos s))
def We {s:Nat} (m i:Nat) (b:s<=31):nn m s i ||| ax m i*2 ^ s%af=ax (m*2 ^ s) i/\ax m i*2 ^ s/af=nn m s (i+1):=by
 have ⟨h1,a,h3⟩:=amH (show s<=32 by omega) (Dt m s i) (cK m i)
 have e:(m%af ^ (i+1)*2 ^ s)/af ^ i=nn m s i+ax m i*2 ^ s:=by
   unfold nn
   rw [rU,fg,eZ,mR _ _ (gj i)]
 have d:nn m s i+ax m i*2 ^ s=(nn m s i+ax m i*2 ^ s%af)+af*(ax m i*2 ^ s/af):=by
   have:=pd (ax m i*2 ^ s) af;omega
 refine ⟨?_, ?_⟩
 have h:=hL m (af ^ (i+1))
 rw [h1]
 conv=>rhs;rw [<- h,fg,eZ,Pf,wi (ov i)]
 show _=_/_%_
 rw [e,d,sD,dG a]
 show _=_/af ^ (i+1)
 rw [ej, <- ot, <- ej,e,d,mR _ _ ed,iX a,c4]
def fW (m s i j:Nat):Nat:=if j<i then ax (m*2 ^ s) j else if j=i then nn m s i else 0
def vt (m s i j:Nat):Nat:=if j=i then ax (m*2 ^ s) i else fW m s i j
def Wi (m s:Nat) (j:Nat):fW m s 0 j=0:=by unfold fW;rw [if_neg (kC _),amE];split<;>rfl
def Wf (m s i:Nat):fW m s i i=nn m s i:=by unfold fW;rw [if_neg (yd _),if_pos rfl]
def Wh (m s i j:Nat):fW m s (i+1) j=if j=i+1 then nn m s (i+1) else vt m s i j:=by
 unfold vt fW
 rcases ub j i with h | h | h
 rw [if_pos (by omega),if_neg (by omega),if_neg (by omega),if_pos h]
 subst h;rw [if_pos (by omega),if_neg (by omega),if_pos rfl]
 rw [if_neg (by omega),if_neg (show ¬ j=i by omega),if_neg (show ¬ j<i by omega),if_neg (show ¬ j=i by omega)]
def Is {m s k j:Nat} (b:s<=31) (a:m<af ^ k) (h:j<k+1):fW m s k j=ax (m*2 ^ s) j:=by
 unfold fW
 split
 rfl
 have:j=k:=by omega
 subst this
 have hb:m*2 ^ s<af ^ (j+1):=by
   rw [ej]
   exact nE a (by have:=dv (n:=2) (by decide) b;unfold af;omega)
 rw [if_pos rfl,Bk hb]
 unfold nn
 rw [dG a]
section
variable {P:Program} {G:Nat->Option (List aa)}
def cu.Xt {f:FuncId} {aH:dS} (h:gX P f aH) (a:List (aZ P G)) (i:Nat) {n:Nat} {args:List aa} {ws:List Nat} [br args] (p:Id) (b:mE aH.results ([([i,0],⟨us ws,1,false⟩)]++rest [([i,0],⟨us ws,1,false⟩)] []) (mC aH args a)=mD (.ai [i,0] 1 0 n false) ([([i,0],⟨us ws,1,false⟩)]++rest [([i,0],⟨us ws,1,false⟩)] []) (mC aH args a)):cu P G f args p [] { val := .ai (i::p) 1 0 n false,rd:=[],up:=[(i::p,some ⟨us ws,1,false⟩)] }:=by
 refine fP (up:=[(i::p,⟨us ws,1,false⟩)]) h (λ _=>[]) a args [] (.ai [i,0] 1 0 n false) [([i,0],⟨us ws,1,false⟩)] b (br.fix _) rfl ?_ ?_ gm (by simp)
 show aa.ai (bN 0 p _ ([]++[i,0])) _ _ _ _=_
 rw [jm,c4];rfl
 show [(bN 0 p _ ([]++[i,0]),aN.aX _ _)]=_
 rw [jm,c4]
 show [([]++i::p,aN.mk (bx _ (us ws)) 1 false)]=_
 rw [br.fix];rfl
end
end Go.aF
namespace Go.Proofs.YtpcofcmencgkbaaGreat
section
variable (G:Nat->Option (List aa)) {m s:Nat}
noncomputable abbrev D3 (m s i:Nat):aB->List (Nat × aa) := λ q=>[(0,W m),(1, .int .i64 (s:Int)),(5, .ai q.a 1 0 (ae m+1) false),(13,W m),(14, .int .i64 (ae m:Int)),(15, .int .i64 (i:Int))]
def amM (d:s<=31) (n:ae m<=4194304000000) (i:Nat) (c:i<ae m):gY ab G (ao 314) 0 .normal (D3 m s i) (dk (ae m+1) (fW m s i)) (D3 m s (i+1)) (dk (ae m+1) (fW m s (i+1))):=by
 have ⟨l,g⟩:=We m i d
 have e:=cK m i
 have b:i<ae m+1:=by omega
 have a:i+1<ae m+1:=by omega
 have hc:=fv (Dt m s i) (show 2 ^ s<=af from bs (dv (by decide) d) (by decide))
 have k:ax m i*2 ^ s/af<af:=by rw [g];exact fv (Dt m s _) (bs (dv (by decide) d) (by decide))
 exact aW aG [gQ 16 c,ei 18 c,hw 21 (fp _ e) .u64,ho 23 (Nx (ax m i) s (by omega) e),fI 26 [1] _ _ b,j0 27 [1] (ae m+1) (fW m s i) b (Wf m s i),hw 29 (j8 (ax m i*2 ^ s)) .u32,ho 30 (HF (nn m s i) (ax m i*2 ^ s%af) hc (bC _ ed)),fI 31 [1] _ _ b,jh 31 [1] (vt m s i) b (λ j _=>by unfold vt;rw [<- l]),hI 34 c,ho 36 (np (ax m i*2 ^ s)),hw 37 (pY k) .u32,fI 38 [1] _ _ a,jh 38 [1] (f:=vt m s i) (v:=ax m i*2 ^ s/af) (fW m s (i+1)) a (λ j _=>by rw [Wh,g]),hI 39 c]
def Wm (c:s<=31) (b:ae m<=4194304000000) (p:bT):cu ab G 314 [W m, .int .i64 (s:Int)] p [] { val := .ai (dO 0::p) 1 0 (ae m+1) false,rd:=[],up:=[(dO 0::p,some ⟨us (cm (ae m+1) (fW m s (ae m))),1,false⟩)] } :=
 have d:ae m<ae m+1:=ov _
 cu.Xt aY [bA 10 m,hI 11 d,wN 12 (ae m+1) (fW m s 0) (λ j _=>Wi m s j),bA 14 m,tD (ao 314) 0 0 (ae m) (aB.o 4) (D3 m s 0 (aB.o 4)) (dk (ae m+1) (fW m s 0) (aB.o 4)) (D3 m s) (λ i=>dk (ae m+1) (fW m s i)) (.exit 0) (D3 m s (ae m)) (dk (ae m+1) (fW m s (ae m))) rfl rfl (amM G c b) (aW aG [iP 16 (a4 (ae m))] )] (dO 0) p (by kernel_rfl)
noncomputable abbrev D2 (m s i:Nat):aB->List (Nat × aa) := λ q=>[(0,W m),(1, .int .i64 (s:Int)),(5, .ai q.a 1 0 (ae m+1) false),(6, .int .i64 (i:Int))]
def ao8 (d:s<=31) (n:ae m<=4194304000000) (i:Nat) (c:i<ae m):gY ab G (ao 256) 0 .normal (D2 m s i) (dk (ae m+1) (fW m s i)) (D2 m s (i+1)) (dk (ae m+1) (fW m s (i+1))):=by
 have ⟨l,g⟩:=We m i d
 have e:=cK m i
 have b:i<ae m+1:=by omega
 have a:i+1<ae m+1:=by omega
 have hc:=fv (Dt m s i) (show 2 ^ s<=af from bs (dv (by decide) d) (by decide))
 have k:ax m i*2 ^ s/af<af:=by rw [g];exact fv (Dt m s _) (bs (dv (by decide) d) (by decide))
 exact aW aG [bA 14 m,gQ 15 c,ei 20 c,hw 22 (fp _ e) .u64,ho 24 (Nx (ax m i) s (by omega) e),fI 29 [1] _ _ b,j0 30 [1] (ae m+1) (fW m s i) b (Wf m s i),hw 32 (j8 (ax m i*2 ^ s)) .u32,ho 33 (HF (nn m s i) (ax m i*2 ^ s%af) hc (bC _ ed)),fI 34 [1] _ _ b,jh 34 [1] (vt m s i) b (λ j _=>by unfold vt;rw [<- l]),hI 37 c,ho 39 (np (ax m i*2 ^ s)),hw 40 (pY k) .u32,fI 41 [1] _ _ a,jh 41 [1] (f:=vt m s i) (v:=ax m i*2 ^ s/af) (fW m s (i+1)) a (λ j _=>by rw [Wh,g]),hI 17 c]
def Wd (c:s<=31) (b:ae m<=4194304000000) (p:bT):cu ab G 256 [W m, .int .i64 (s:Int)] p [] { val := .ai (dO 0::p) 1 0 (ae m+1) false,rd:=[],up:=[(dO 0::p,some ⟨us (cm (ae m+1) (fW m s (ae m))),1,false⟩)] } :=
 have d:ae m<ae m+1:=ov _
 cu.Xt aY [bA 9 m,hI 10 d,wN 11 (ae m+1) (fW m s 0) (λ j _=>Wi m s j),tD (ao 256) 0 0 (ae m) (aB.o 4) (D2 m s 0 (aB.o 4)) (dk (ae m+1) (fW m s 0) (aB.o 4)) (D2 m s) (λ i=>dk (ae m+1) (fW m s i)) (.exit 0) (D2 m s (ae m)) (dk (ae m+1) (fW m s (ae m))) rfl rfl (ao8 G c b) (aW aG [bA 14 m,iP 15 (a4 (ae m))] )] (dO 0) p (by kernel_rfl)
end
end Go.Proofs.YtpcofcmencgkbaaGreat
namespace Go.aF
def Hw {a b:Nat} (c:a<af) (hb:b<af):af*a+b<18446744073709551616:=by unfold af at *;omega
def U8 {q Q:Nat} (h1:q=Q+1) (a:q<af):de.wrap ((q:Int)-1)=(Q:Int):=by rw [iu];unfold af at a;omega
def least (C:Nat->Bool):∀ k,(∀ i,i<k->C i=true) \/ ∃ N,N<k/\(∀ i,i<N->C i=true)/\C N=false
 | 0 => .inl λ i a=>absurd a (kC _)
 | k+1=>by
   rcases least C k with h | ⟨N,h1,b⟩
   cases e:C k with
   | true=>exact .inl λ i a=>(ZC.1 a).elim (h i) λ g=>g▸e
   | false=>exact .inr ⟨k,by omega,h,e⟩
   exact .inr ⟨N,by omega,b⟩
def fR (M V c:Nat):Nat:=M%af ^ c+af ^ c*(M/af ^ c%V)
def cQ (M V i:Nat):Nat:=ax M i+af*(M/af ^ (i+1)%V)
def Rq {M V c:Nat} (h:M/af ^ c<V):fR M V c=M:=by
 unfold fR;rw [dG h];exact pd _ _
def Rr (M V:Nat):fR M V 0=M%V:=by unfold fR;rw [nG,sK,vN];omega
def Q8 {V:Nat} (M i:Nat) (a:0<V):M/af ^ i=cQ M V i+V*(af*(M/af ^ (i+1)/V)):=by
 have h:=qb M i
 have e:=pd (M/af ^ (i+1)) V
 unfold cQ
 rw [h];conv=>lhs;rw [<- e]
 rw [dC,l2];omega
def BF {V:Nat} (M i:Nat) (a:0<V):cQ M V i<af*V/\cQ M V i/V<af:=agQ (cK M i) (bC _ a)
def acL {V:Nat} (M i:Nat) (a:0<V):M/af ^ i%V=cQ M V i%V:=by rw [Q8 M i a,sD]
def KL {V:Nat} (M i:Nat) (a:0<V):ax (M/V) i=cQ M V i/V:=by
 rw [J3,Q8 M i a,mR _ _ a,sD,dG (BF M i a).2]
def J4 {a p X j:Nat} (b:a<af ^ p):ax (a+af ^ p*X) j=if j<p then ax a j else ax X (j-p):=by
 split
 next h=>exact wi h
 next h =>
 obtain ⟨d,rfl⟩:=Nat.exists_eq_add_of_le (kD h)
 rw [JJ]
 unfold ax
 rw [gC, <- ot,mR _ _ (gj p),iX b,c4]
def Rp (M V i:Nat):fR M V (i+1)=M%af ^ i+af ^ i*cQ M V i:=by
 unfold fR cQ
 rw [rU,ej,dC,eZ];omega
def acZ {V:Nat} (M i:Nat) (a:0<V):fR M V i=M%af ^ i+af ^ i*(cQ M V i%V):=by
 unfold fR;rw [acL M i a]
def BI (M V i j:Nat):ax (fR M V (i+1)) (i+j)=ax (cQ M V i) j:=by
 rw [Rp,J4 (bC _ (gj i)),if_neg (by omega),JJ]
def KQ {V n X:Nat} {f:Nat->Nat} (M i:Nat) (a:0<V) (g:af*V<=af ^ n) (c:∀ j,(j<i \/ i+n<=j)->f j=ax (fR M V (i+1)) j) (b:∀ j,j<n->ax X j=ax (cQ M V i%V) j) (j:Nat):wf f i X n j=ax (fR M V i) j:=by
 have e:=(BF M i a).1
 have h:=bC (cQ M V i) a
 unfold wf
 rw [acZ M i a,J4 (bC _ (gj i))]
 split
 rw [if_neg (by omega),b _ (by omega)]
 rw [c j (by omega),Rp,J4 (bC _ (gj i))]
 split
 rfl
 have d:=dv (n:=af) ed (show n<=j-i by omega)
 have:V<=af*V:=Nat.le_mul_of_pos_left _ ed
 rw [uy (by omega),uy (by omega)]
def Xn (D k:Nat) (h:D<af ^ (k+3)):D=((af*ax D (k+2)+ax D (k+1))*af+ax D k)*af ^ k+D%af ^ k:=by
 have e:=hL D (af ^ k)
 rw [qb D k,qb D (k+1),qb D (k+1+1),iX h,iY,c4] at e
 conv=>lhs;rw [<- e]
 rw [dF,dF af (_+_)]
def Xm (V k:Nat) (h:V<af ^ (k+2)):V=(ax V (k+1)*af+ax V k)*af ^ k+V%af ^ k:=by
 have e:=hL V (af ^ k)
 rw [qb V k,qb V (k+1),iX h,iY,c4] at e
 conv=>lhs;rw [<- e]
 rw [dF,dF af (ax V _)]
section
variable {D V k:Nat}
def xL (h l x0 q r:Nat):Prop:=af<=q \/ af*r+x0<q*l
instance {h l x0 q r:Nat}:Decidable (xL h l x0 q r):=inferInstanceAs (Decidable (_ \/ _))
def agV {h l x0 num M u' v':Nat} (m:0<h) (K:h<af) (C:l<af) (F:x0<af) (hv:v'<M) (hu:u'<M) (s:V=(h*af+l)*M+v') (u:D=(num*af+x0)*M+u') (r:D<af*V) (n:D/V<af) (L:num<18446744073709551616) :
   ∃ N,N<=af/\(∀ j,j<=N->j<=num/h/\num%h+j*h<af)/\(∀ j,j<N->xL h l x0 (num/h-j) (num%h+j*h))/\∃ q,q<af/\D/V<=q/\q<=D/V+1/\((¬ xL h l x0 (num/h-N) (num%h+N*h)/\q=num/h-N) \/ (xL h l x0 (num/h-N) (num%h+N*h)/\af<=num%h+(N+1)*h/\q+1=num/h-N)):=by
 have i:num/h*h+num%h=num:=by rw [dF];exact hL num h
 have f:=To m s u F hu
 have p:∀ k,(∀ j,j<k->decide (xL h l x0 (num/h-j) (num%h+j*h)/\num%h+(j+1)*h<af)=true)->∀ j,j<=k->j<=num/h/\num%h+j*h<af/\(num/h-j)*h+(num%h+j*h)=num/\D/V<=num/h-j := λ k I j=>by
   induction j with
   | zero=>intro _;exact ⟨et _,by rw [re,iL];exact yc (bC _ m) K,by simpa using i,by simpa using f⟩
   | succ j G =>
     intro o
     have ⟨a,b,c,d⟩:=G (by omega)
     have ⟨J,t2⟩:=of_decide_eq_true (I j (by omega))
     have ⟨H,y,A,z⟩:=Tm C hv hu m s u r n c d (J.imp id λ g=>by rw [dF];exact g)
     rw [jN] at t2 ⊢
     rw [show num/h-(j+1)=num/h-j-1 by omega]
     exact ⟨by omega,t2,by rw [<- ow (num%h)];exact A,y⟩
 rcases least (λ j=>decide (xL h l x0 (num/h-j) (num%h+j*h)/\num%h+(j+1)*h<af)) (af+1) with g | ⟨N,g1,g2,x⟩
 have ⟨_,b,_,_⟩:=p _ g (af+1) (a4 _)
 have:(af+1)*1<=(af+1)*h:=fw _ m
 omega
 have w:=p N g2
 refine ⟨N,by omega, λ j o=>⟨(w j o).1,(w j o).2.1⟩, λ j o=>(of_decide_eq_true (g2 j o)).1, ?_⟩
 have ⟨a,b,c,d⟩:=w N (a4 _)
 have x:=of_decide_eq_false x
 by_cases t:xL h l x0 (num/h-N) (num%h+N*h)
 have E:af<=num%h+(N+1)*h:=kD λ e=>x ⟨t,e⟩
 have ⟨H,y,A,z⟩:=Tm C hv hu m s u r n c d (t.imp id λ g=>by rw [dF];exact g)
 have B:=z (by rw [jN] at E;omega)
 exact ⟨num/h-N-1,B.1,y,B.2, .inr ⟨t,E,by omega⟩⟩
 have v:num/h-N<af/\(num/h-N)*l<=af*(num%h+N*h)+x0:=⟨A0 λ e=>t (.inl e),kD λ e=>t (.inr e)⟩
 exact ⟨num/h-N,v.1,d,Tp m s u hv v.1 c (by rw [dF _ af];exact v.2), .inl ⟨t,rfl⟩⟩
end
section
variable {P:Program} {G:Nat->Option (List aa)}
def Lm {f:FuncId} {args:List aa} {id:Id} {a b:aN} {v:aa} (h:∀ p,cu P G f args p [(id,a)] { val:=v,rd:=[id],up:=[(id,some b)] }):aZ P G := .rel f args [(id,a)] (λ _=>{ val:=v,rd:=[id],up:=[(id,some b)] }) (λ p _=>h p) (λ p x c=>by rw [bJ.1 c];exact cS)
def Ln (k:Nat) (id:Id) (len l h n:Nat) (a:l<h:=by omega) (b:h<=len:=by omega) (c:h-l=n:=by omega):aZ P G := .st k [] (.slice 1 (.ai id 1 0 len false) (some (.int .i64 (l:Int))) (some (.int .i64 (h:Int))) none) (λ _=>{ val := .ai id 1 l n false }) (λ σ p _=>by
 simp only [bS,amP a b,c,tW];rfl)
def aeC (k:Nat) (id:Id) (len h:Nat) (a:h<=len:=by omega):aZ P G := .st k [] (.slice 1 (.ai id 1 0 len false) none (some (.int .i64 (h:Int))) none) (λ _=>{ val := .ai id 1 0 h false }) (λ σ p _=>by
 simp only [bS,Wp a,tW];rfl)
def aeE (k:Nat) (id:Id) (o len h:Nat) (a:h<=len:=by omega):aZ P G := .st k [] (.slice 1 (.ai id 1 o len false) none (some (.int .i64 (h:Int))) none) (λ _=>{ val := .ai id 1 o h false }) (λ σ p _=>by
 simp only [bS,amO a,tW];rfl)
def aer {f:FuncId} {args args':List aa} {r:aa} (S:List (Id × aN)) (h:ag P G f args' r) (hv:c9 (bk S) args args') (a:sS r):aZ P G := .rel f args S (λ _=>{ val:=r,rd:=S.map (·.1) }) (λ p _=>cu.of_flat h hv a) (λ p x b=>bn.2 ⟨x,b,rfl⟩)
def Gq {f:FuncId} {args:List aa} {id:Id} {a:aN} {v:aa} (h:∀ p,cu P G f args p [(id,a)] { val:=v,rd:=[id],up:=[] }):aZ P G := .rel f args [(id,a)] (λ _=>{ val:=v,rd:=[id],up:=[] }) (λ p _=>h p) (λ p x b=>by rw [bJ.1 b];exact cS)
noncomputable def Hc {aH:dS} {k:Nat} {e:cw} {A B:List (Nat × aa)} {K fy:List (Id × aN)} (h:bu P G [0] (.loop (aU aH k)) (λ a s'=>a=e/\bz G [0] s' ⟨fr aH.aK B,eK.to (cf fy),dO 0⟩) ⟨fr aH.aK A,bk K,iE 0⟩):aZ P G := .iA [0] (aU aH k) (fr aH.aK A) K (iE 0) e (fr aH.aK B) (cf fy) (dO 0) h
def aeF {ft:FuncId} (L n s:Nat) (f:Nat->Nat) (k:∀ j,j<n->f j=ax s j) (a:n<=L) (h:gZ P G ft) (g:s<af ^ n) (id:Id) (bA:L<=8388608000000:=by omega):aZ P G:=qw [(id,⟨us (cm L f),1,false⟩)] (args:=[.ai id 1 0 n false]) (args':=[.sl 1 (us (eP s n))]) (r:=W s) (by
 have:=h (eP s n) (Bl s n) (by rw [oy];omega)
 rwa [vz,dG g] at this) (cp (by
   have e:(us (cm L f)).take n=us (eP s n):=by
     rw [Oe];congr 1
     refine ou (by simp [cm,eP,a]) λ j h1 b => ?_
     simp only [eP,aM,dZ] at b
     simp [cm,eP,k j b]
   rw [<- e]
   refine kY (au:=⟨us (cm L f),1,false⟩) (by simp [bk,cD]) rfl (by simp [il,wm,a]) ?_ (by simp [il,wm,a]) λ d hd=>DG _ d (gq hd)
   rw [iZ]
   exact jx λ c hc=>DF (cm L f) c (by
     have ⟨e,i,hc⟩:=iK.1 hc
     exact iK.2 ⟨e,gq i,hc⟩)) c9.nil)
structure mZ (L o n D:Nat) (f:Nat->Nat):Prop where
 lj:o+n<=L
 Sa:L<=8388608000000
 Lh:D<af ^ n
 gf:∀ i,i<n->f (o+i)=ax D i
def mZ.wl {L o n D:Nat} {f:Nat->Nat} (H:mZ L o n D f):ae D<=n:=iV H.Lh
def mZ.short {L o n D:Nat} {f:Nat->Nat} (H:mZ L o n D f):mZ L o (ae D) D f:=⟨bs (Nat.add_le_add_left H.wl _) H.lj,H.Sa,eY D, λ i a=>H.gf i (fv a H.wl)⟩
def mZ.view {L o D:Nat} {f:Nat->Nat} (H:mZ L o (ae D) D f) (id:Id):View (bk [(id,⟨us (cm L f),1,false⟩)]) (.ai id 1 o (ae D) false) (W D):=by
 have g:=H.lj
 have e:((us (cm L f)).drop o).take (ae D)=us (eP D (ae D)):=by
   have b:((cm L f).drop o).take (ae D)=eP D (ae D):=by
     refine ou (by simp [cm,eP];omega) λ j h1 a => ?_
     simp only [eP,aM,dZ] at a
     simp [cm,eP,H.gf j a]
   rw [<- b]
   simp [us,List.map_take,List.map_drop]
 rw [Fe, <- e]
 refine kY (au:=⟨us (cm L f),1,false⟩) (by simp [bk,cD]) rfl (by simp [il,wm];omega) ?_ (by simp [il,wm];omega) λ d hd=>DG _ d (rk (gq hd))
 exact jx λ c hc=>DF (cm L f) c (by
   have ⟨e,h,hc⟩:=iK.1 hc
   exact iK.2 ⟨e,rk (gq h),hc⟩)
end
end Go.aF
