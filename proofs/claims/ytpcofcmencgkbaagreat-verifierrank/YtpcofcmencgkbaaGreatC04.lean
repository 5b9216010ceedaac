/- For the claim of VerifierRank: parts CI12, CI14, CI15, CI16, CI18, FD, CI21, CI23, KD, KE, VL31, CR1, CR5, CR6, CR7, CR9, CR10, RQ, CN1, CQ1, CN2, CQ2, CQ7, PUN, CQC, QVL, VL41, ISQ, ISR, ISS, IST, WK2. -/
import Derived.Test.YtpcofcmencgkbaaGreatC03
import Derived.Laws.BitsAllLaws
import Derived.Lib.ItoaNum
import Derived.Lib.IndexMore
import Derived.Sort.KeysCollected
import Derived.Sort.Walk0
import Derived.Lib.SlicesCompact
import Derived.KernelRfl
set_option linter.defProp false
set_option linter.unusedSimpArgs false
set_option linter.unusedVariables false
set_option maxRecDepth 100000
open BitVec renaming ofInt->jb,ofInt_natCast->x5
open Bool renaming false_eq_true->jO
open Go.IntKind renaming i64->cF,u32->gD,wrap_i64->cM
open Go.aF.b8 renaming bool->AM
open Go.aF.aL renaming of->bk
open Go.aF.eK renaming to->kd
open Go.aF.bu renaming j7->iG
open Go.aF.c9 renaming cons->cp
open Go.aF.bz renaming forget->ug,refl->x9
open Int renaming fdiv_eq_ediv_of_nonneg->x4,mul_ediv_cancel_left->Eg,mul_fdiv_add_fmod->Y4,mul_fdiv_cancel_left->Jy,mul_neg->Jw,mul_nonneg->O3,mul_one->JA,natAbs_mul->l3,natAbs_natCast->gE,natCast_add->Y5,natCast_nonneg->vF,natCast_pow->Ef,neg_mul_neg->Y8,ofNat_dvd_left->vG,sign_eq_neg_one_of_neg->x6,sign_eq_one_of_pos->og,sign_mul->Jz,tdiv_eq_ediv_of_nonneg->AR,toNat_natCast->ue
open List renaming drop_zero->iZ,eq_of_mem_replicate->jA,getElem?_eq_getElem->du,getElem?_eq_none->uh,getElem?_eq_some_iff->eu,getLast?_eq_getElem?->Y6,length_replicate->nD,length_set->ju,length_take->cZ,mem_map->bn,mem_of_getElem?->qW,mem_replicate->Za,mem_singleton->bJ,replicate->bG,suffix_refl->yo,take_append_drop->ym,take_of_length_le->hM
open Nat renaming add_mul->fg,add_zero->iL,div_add_mod->hL,div_lt_iff_lt_mul->l1,div_mod_unique->Y7,dvd_add_left->O8,dvd_mul_right->O7,dvd_trans->Eh,eq_zero_or_pos->x7,gcd->cy,gcd_dvd_right->q2,le_div_iff_mul_le->AL,le_of_lt->jt,le_refl->a4,le_trans->bs,lt_of_lt_of_le->fv,lt_of_mul_lt_mul_right->O5,lt_or_ge->Jx,min_eq_left->jv,mod_eq_of_lt->dG,mod_lt->bC,mul_add->dC,mul_assoc->eZ,mul_comm->dF,mul_le_mul->lH,mul_le_mul_left->fw,mul_le_mul_right->c6,mul_left_comm->l2,mul_lt_mul''->nE,mul_one->mS,mul_zero->iY,one_mul->O4,pos_of_ne_zero->kX,pow_add->gC,pow_dvd_pow->O9,pow_le_pow_right->dv,pow_lt_pow_right->vH,pow_mul->AP,pow_pos->AQ,pow_succ->ej,succ_eq_add_one->JB,two_pow_add_eq_or_of_lt->AK,two_pow_pos->pe,zero_add->c4,zero_le->et
open Option.some renaming injEq->a7
open Rat renaming divInt_eq_div->x8,divInt_ofNat->Y9,num_eq_zero->oh
open Go.Proofs Go.Lib
namespace Go.aF
def lens:List UInt8:=[0,1,2,2,3,3,3,3,4,4,4,4,4,4,4,4,5,5,5,5,5,5,5,5,5,5,5,5,5,5,5,5,6,6,6,6,6,6,6,6,6,6,6,6,6,6,6,6,6,6,6,6,6,6,6,6,6,6,6,6,6,6,6,6,7,7,7,7,7,7,7,7,7,7,7,7,7,7,7,7,7,7,7,7,7,7,7,7,7,7,7,7,7,7,7,7,7,7,7,7,7,7,7,7,7,7,7,7,7,7,7,7,7,7,7,7,7,7,7,7,7,7,7,7,7,7,7,7,8,8,8,8,8,8,8,8,8,8,8,8,8,8,8,8,8,8,8,8,8,8,8,8,8,8,8,8,8,8,8,8,8,8,8,8,8,8,8,8,8,8,8,8,8,8,8,8,8,8,8,8,8,8,8,8,8,8,8,8,8,8,8,8,8,8,8,8,8,8,8,8,8,8,8,8,8,8,8,8,8,8,8,8,8,8,8,8,8,8,8,8,8,8,8,8,8,8,8,8,8,8,8,8,8,8,8,8,8,8,8,8,8,8,8,8,8,8,8,8,8,8,8,8,8,8,8,8]
def len8 (v:Nat):Nat:=((lens[v]?).getD 0).toNat
def dL (x:Nat):Nat :=
 if 65536<=x then (if 256<=x/65536 then 24+len8 (x/65536/256) else 16+len8 (x/65536)) else (if 256<=x then 8+len8 (x/256) else len8 x)
set_option maxRecDepth 100000 in
theorem ahh {v:Nat} (h:v<256):lens[v]? = some ((lens[v]?).getD 0):=by
 have:v<lens.length:=h
 rw [du this];rfl
def Ty (v:Nat):len8 v<256:=(((lens[v]?).getD 0)).toNat_lt
set_option maxRecDepth 100000 in
theorem ahf:(List.range 256).all (fun v=>v==0||(decide (v<2 ^ len8 v)&&decide (2 ^ len8 v<=2*v)))=true:=by decide
def G4 {v:Nat} (h:v<256) (a:0<v):v<2 ^ len8 v/\2 ^ len8 v<=2*v:=by
 have:=List.all_eq_true.1 ahf v (List.mem_range.2 h)
 simp only [Bool.or_eq_true,Bool.and_eq_true,beq_iff_eq,decide_eq_true_eq] at this
 rcases this with h1 | h1
 omega
 exact h1
def Kt {x a k j:Nat} (c:a=x/2 ^ j) (h:a<2 ^ k/\2 ^ k<=2*a):x<2 ^ (j+k)/\2 ^ (j+k)<=2*x:=by
 subst c
 have b:=pe j
 refine ⟨?_, ?_⟩
 have:=(l1 b).1 h.1
 rwa [gC,dF]
 have h1:=fw (2 ^ j) h.2
 have d:=Nat.mul_div_le x (2 ^ j)
 rw [gC,l2] at *
 omega
def wA {x:Nat} (h:x<af) (c:0<x):x<2 ^ dL x/\2 ^ dL x<=2*x:=by
 unfold af at h
 unfold dL
 by_cases h1:65536<=x
 by_cases b:256<=x/65536
 rw [if_pos h1,if_pos b]
 exact Kt (j:=24) (a:=x/65536/256) (by rw [Nat.div_div_eq_div_mul]) (G4 (by omega) (by omega))
 rw [if_pos h1,if_neg b]
 exact Kt (j:=16) (a:=x/65536) rfl (G4 (by omega) (by omega))
 by_cases b:256<=x
 rw [if_neg h1,if_pos b]
 exact Kt (j:=8) (a:=x/256) rfl (G4 (by omega) (by omega))
 rw [if_neg h1,if_neg b]
 exact G4 (by omega) c
def Iq (z:Int):ep (decide (z<0)) z.natAbs=z:=by
 unfold ep
 by_cases h:z<0
 simp only [h,decide_true,if_true];omega
 simp only [h,decide_false,jO,if_false];omega
def qJ (z:Int):ep (!decide (z<0)) z.natAbs = -z:=by
 unfold ep
 by_cases h:z<0
 simp only [h,decide_true,Bool.not_true,jO,if_false];omega
 simp only [h,decide_false,Bool.not_false,if_true];omega
def V9 (y z:Int):ep (!(decide (y<0)==decide (z<0))) (y.natAbs*z.natAbs)=y*z:=by
 rw [<- l3]
 unfold ep
 by_cases h:y<0<;>by_cases a:z<0
 have:=Int.mul_pos_of_neg_of_neg h a
 simp [h,a];omega
 have b:y*z<=0:=Int.mul_nonpos_of_nonpos_of_nonneg (by omega) (by omega)
 simp [h,a];omega
 have b:y*z<=0:=Int.mul_nonpos_of_nonneg_of_nonpos (by omega) (by omega)
 simp [h,a];omega
 have b:0<=y*z:=O3 (by omega) (by omega)
 simp [h,a];omega
section
variable {P:Program} {G:Nat->Option (List aa)}
def jq {ft:FuncId} (a:gZ P G ft) (n:Nat) (b:ae n<=9223372036854775807):ag P G ft [W n] (W n):=by
 have:=a (digits n) (pF n) b
 rw [nx] at this;exact this
def lK (P:Program) (G:Nat->Option (List aa)) (f:FuncId):Prop:=∀ (neg:Bool) (n:Nat),ae n<=9223372036854775807->ag P G f [.bool neg,W n] (aP (ep neg n))
def xT (n:Nat) (a:n<18446744073709551616):ae n<=2:=iV (by unfold af;omega)
def oG (a b:Int):eV a b = -1/\a<b \/ eV a b=0/\a=b \/ eV a b=1/\b<a:=by
 unfold eV
 by_cases h1:a<b
 simp [h1]
 by_cases c:b<a
 simp [h1,c]
 right;left;simp [h1,c];omega
def Iu (z:Int):z.sign = -1/\z<0 \/ z.sign=0/\z=0 \/ z.sign=1/\0<z:=by
 rcases Int.lt_trichotomy z 0 with h | h | h
 exact .inl ⟨x6 h,h⟩
 exact .inr (.inl ⟨by rw [h];rfl,h⟩)
 exact .inr (.inr ⟨og h,h⟩)
def QV {y z:Int} (h:y.sign≠z.sign):eV y.sign z.sign=eV y z:=by
 rcases oG y z with ⟨e,c⟩ | ⟨e,c⟩ | ⟨e,c⟩<;>rcases oG y.sign z.sign with ⟨b,a⟩ | ⟨b,a⟩ | ⟨b,a⟩<;>rcases Iu y with ⟨s,p⟩ | ⟨s,p⟩ | ⟨s,p⟩<;>rcases Iu z with ⟨f,d⟩ | ⟨f,d⟩ | ⟨f,d⟩<;>omega
def ack {y z:Int} (h:y.sign=z.sign):y.sign*dI y.natAbs z.natAbs=eV y z:=by
 unfold dI
 rcases oG y z with ⟨e,c⟩ | ⟨e,c⟩ | ⟨e,c⟩<;>rcases oG (y.natAbs:Int) (z.natAbs:Int) with ⟨a,b⟩ | ⟨a,b⟩ | ⟨a,b⟩<;>rcases Iu y with ⟨s,p⟩ | ⟨s,p⟩ | ⟨s,p⟩<;>rcases Iu z with ⟨f,d⟩ | ⟨f,d⟩ | ⟨f,d⟩<;>rw [s,a,e]<;>omega
def hV (a b:Int):aa := .agg [.bool (decide (a<0)),W a.natAbs, .bool (decide (b<0)),W b.natAbs]
def me (a b:Int):Bool := !(decide (a<0)==decide (b<0))
def FL (a b:Int):Nat:=if me a b=true/\0<a.natAbs%b.natAbs then a.natAbs/b.natAbs+1 else a.natAbs/b.natAbs
def FM (a b:Int):Nat:=if me a b=true/\0<a.natAbs%b.natAbs then b.natAbs-a.natAbs%b.natAbs else a.natAbs%b.natAbs
def Rf:digits 1=[1]:=by rw [td (by decide),show 1/af=0 from rfl,iO];rfl
def aow {id:Id} {b t:Bool}:View (bk [(id,⟨us [1],1,b⟩)]) (.ai id 1 0 1 t) (W 1):=by
 unfold W;rw [Rf];exact aox rfl
def aoW (m n:Nat):ae (m/n)<=ae m:=ff (Nat.div_le_self _ _)
def aoX (m n:Nat):ae (m%n)<=ae m:=ff (Nat.mod_le _ _)
def aoZ (m:Nat):ae (m+1)<=ae m+1:=iV (by
 have h1:=rT m
 rw [ej]
 have a:af ^ ae m*2<=af ^ ae m*af:=fw _ (by decide)
 omega)
def DX:ae 1<=1:=by unfold ae;rw [Rf];decide
def K6 {a b q r:Int} (hb:0<b) (h:a=b*q+r) (c:0<=r) (h1:r<b):a.fdiv b=q/\a.fmod b=r:=by
 have:=(Int.ediv_emod_unique (a:=a) (b:=b) (r:=r) (q:=q) hb).2 ⟨by omega,c,h1⟩
 rw [x4 _ (Int.le_of_lt hb),Int.fmod_eq_emod_of_nonneg _ (Int.le_of_lt hb)]
 exact this
def adE (a b:Int):a.fdiv b=(-a).fdiv (-b)/\a.fmod b = -((-a).fmod (-b)):=by
 have h1:(-a).fdiv (-b)=a.fdiv b:=Int.neg_fdiv_neg a b
 refine ⟨h1.symm, ?_⟩
 have d:=Y4 a b
 have c:=Y4 (-a) (-b)
 rw [h1,Int.neg_mul] at c
 omega
def acW {m n:Nat} (a:n≠0):((m:Int).fdiv n=(m/n:Nat)/\(m:Int).fmod n=(m%n:Nat)) /\
   (m%n=0->(-(m:Int)).fdiv n = -((m/n:Nat):Int)/\(-(m:Int)).fmod n=0)/\(0<m%n->(-(m:Int)).fdiv n = -((m/n+1:Nat):Int)/\(-(m:Int)).fmod n=((n-m%n:Nat):Int)):=by
 have b:m%n<n:=bC _ (kX a)
 have e:(m:Int)=(n:Int)*((m/n:Nat):Int)+((m%n:Nat):Int):=by
   rw [<- Int.natCast_mul, <- Y5,hL]
 generalize m/n=q at *
 generalize m%n=r at *
 refine ⟨K6 (by omega) e (by omega) (by omega), λ h=>K6 (by omega) ?_ (by omega) (by omega), λ h=>K6 (by omega) ?_ (by omega) (by omega)⟩
 rw [Jw];omega
 rw [Jw,Y5,Int.mul_add];omega
def Rj (a b:Int) (hb:b≠0):ep (me a b) (FL a b)=a.fdiv b/\ep (decide (b<0)) (FM a b)=a.fmod b:=by
 have o:b.natAbs≠0:=by omega
 have ⟨⟨n,p⟩,k,l⟩:=acW (m:=a.natAbs) o
 unfold FL FM
 by_cases h1:b<0
 have g : -b=(b.natAbs:Int):=by omega
 have ⟨q,r⟩:=adE a b
 rw [q,r,g]
 by_cases h:a<0
 have d : -a=(a.natAbs:Int):=by omega
 have hd:me a b=false:=by simp [me,h1,h]
 rw [d,n,p,hd]
 simp [ep,h1]
 have d : -a = -(a.natAbs:Int):=by omega
 have hd:me a b=true:=by simp [me,h1,h]
 rw [d,hd]
 by_cases c:0<a.natAbs%b.natAbs
 rw [(l c).1,(l c).2,if_pos ⟨rfl,c⟩,if_pos ⟨rfl,c⟩]
 simp [ep,h1]
 have f:a.natAbs%b.natAbs=0:=by omega
 rw [(k f).1,(k f).2,if_neg (λ e=>c e.2),if_neg (λ e=>c e.2),f]
 simp [ep,h1]
 have g:b=(b.natAbs:Int):=by omega
 have i:decide (b<0)=false:=dw h1
 by_cases h:a<0
 have d:a = -(a.natAbs:Int):=by omega
 have hd:me a b=true:=by simp [me,h1,h]
 rw [hd,i]
 by_cases c:0<a.natAbs%b.natAbs
 have q1:=(l c).1
 have j:=(l c).2
 rw [<- d, <- g] at q1 j
 rw [q1,j,if_pos ⟨rfl,c⟩,if_pos ⟨rfl,c⟩]
 exact ⟨rfl,rfl⟩
 have f:a.natAbs%b.natAbs=0:=by omega
 have q1:=(k f).1
 have j:=(k f).2
 rw [<- d, <- g] at q1 j
 rw [q1,j,if_neg (λ e=>c e.2),if_neg (λ e=>c e.2),f]
 exact ⟨rfl,rfl⟩
 have d:a=(a.natAbs:Int):=by omega
 have hd:me a b=false:=by simp [me,h1,h]
 rw [<- d, <- g] at n p
 rw [n,p,hd,i]
 simp [ep]
def uA (neg:Bool) (ws:List Nat):aa := .agg [.bool neg, .sl 1 (us ws)]
def rR (neg:Bool) (ws:List Nat):Bool:=if ws=[] then !neg else decide (ws[ws.length-1]?.getD 0≠0)
def CA {n:Nat} (h:ae n<=2):n<18446744073709551616:=by
 have h1:=rT n
 have a:af ^ ae n<=af ^ 2:=dv ed h
 have b:af ^ 2=18446744073709551616:=by decide
 omega
end
section
variable {b M h l v' V num u2 u' U:Nat}
def Tl (a:V=(h*b+l)*M+v'):V=h*(b*M)+l*M+v':=by rw [a,fg,eZ]
def agR (a:U=(num*b+u2)*M+u'):U=num*(b*M)+u2*M+u':=by rw [a,fg,eZ]
def agX (a:u2<b) (h1:u'<M):u2*M+u'<b*M:=by
 have:(u2+1)*M<=b*M:=c6 _ a
 rw [fg] at this;omega
def To (d:0<h) (g:V=(h*b+l)*M+v') (e:U=(num*b+u2)*M+u') (j:u2<b) (h1:u'<M):U/V<=num/h:=by
 have i:=agX j h1
 have n:=Tl g
 have k:=agR e
 have a:0<V:=by
   have:1*(b*M)<=h*(b*M):=c6 _ d
   omega
 refine Nat.le_of_lt_succ ((l1 a).2 ?_)
 have f:num+1<=(num/h+1)*h:=by rw [dF];exact Nat.lt_mul_div_succ num d
 have m:(num/h+1)*(h*(b*M))<=(num/h+1)*V:=fw _ (by omega)
 have c:(num+1)*(b*M)<=(num/h+1)*h*(b*M):=c6 _ f
 rw [eZ] at c
 rw [fg] at c
 show U<(num/h+1)*V
 omega
def agT {q r:Nat} (g:V=(h*b+l)*M+v') (k:U=(num*b+u2)*M+u') (h1:u'<M) (f:q*h+r=num) (j:r*b+u2<q*l):U/V<=q-1:=by
 have d:num*b+u2+1<=q*(h*b+l):=by
   rw [<- f,fg,dC, <- eZ];omega
 have i:(num*b+u2+1)*M<=q*(h*b+l)*M:=c6 _ d
 have a:U<q*V:=by
   rw [g,dC, <- eZ]
   rw [fg] at i
   omega
 have c:0<V:=by
   rcases x7 V with e | e
   rw [e] at a;simp at a
   exact e
 have:=(l1 c).2 a
 omega
def Tp {q r:Nat} (k:0<h) (d:V=(h*b+l)*M+v') (w:U=(num*b+u2)*M+u') (m:v'<M) (a:q<b) (i:q*h+r=num) (p:q*l<=r*b+u2):q<=U/V+1:=by
 have j:q*(h*b+l)<=num*b+u2:=by
   rw [<- i,fg,dC, <- eZ];omega
 have s:q*(h*b+l)*M<=(num*b+u2)*M:=c6 _ j
 have n:q*v'<=b*M:=by
   have x:q*v'<=b*v':=c6 _ (jt a)
   have t:b*v'<=b*M:=fw _ (jt m)
   omega
 have u:=Tl d
 have o:1*(b*M)<=h*(b*M):=c6 _ k
 have v:q*V<=U+V:=by
   have:q*V=q*(h*b+l)*M+q*v':=by rw [d,dC, <- eZ]
   omega
 rcases x7 q with e | e
 rw [e];exact et _
 have f:(q-1)*V<=U:=by
   have:q*V=(q-1)*V+V:=by
     have:=Nat.sub_add_cancel e
     calc q*V=(q-1+1)*V:=by rw [this]
       _=(q-1)*V+V:=by rw [fg,O4]
   omega
 have c:0<V:=by
   have g:0<M:=by omega
   have:0<b*M:=Nat.mul_pos (by omega) g
   omega
 have:=(AL c).2 f
 omega
def agS {q r:Nat} (e:num<(h+1)*b) (c:l<b) (f:q*h+r=num) (d:b<=r):q<b/\q*l<=r*b+u2:=by
 have a:q<b:=by
   rw [fg,O4] at e
   have h1:q*h<b*h:=by rw [dF b h];omega
   exact O5 h1
 refine ⟨a, ?_⟩
 have h1:q*l<=b*b:=lH (jt a) (jt c)
 have g:b*b<=r*b:=c6 _ d
 omega
def agW {q:Nat} (a:0<V) (d:U/V<=q) (c:q<=U/V+1):(U<q*V/\q=U/V+1 \/ q*V<=U/\q=U/V):=by
 by_cases h:U<q*V
 left
 have:=(l1 a).2 h
 exact ⟨h,by omega⟩
 right
 have:=(AL a).2 (Nat.le_of_not_lt h)
 exact ⟨by omega,by omega⟩
def Fw {x:Nat} (h:x<af) (c:0<x):1<=dL x/\dL x<=32:=by
 have ⟨a,b⟩:=wA h c
 constructor
 rcases x7 (dL x) with e | e
 rw [e] at a;simp at a;omega
 exact e
 have d:2 ^ dL x<2 ^ 33:=by unfold af at h;omega
 have:=(Nat.pow_lt_pow_iff_right (by decide:1<2)).1 d
 omega
def Us {n x k:Nat} (p:ae n=k+1) (c:(digits n)[k]? = some x) :
   0<x/\x<af/\n*2 ^ (32-dL x)<af ^ (k+1)/\ae (n*2 ^ (32-dL x))=k+1/\32-dL x<=31:=by
 have b:=pF n x (qW c)
 have a:0<x:=by
   rcases KO (n:=n) with h | ⟨w,h,q⟩
   rw [h] at c;simp at c
   rw [Y6,show (digits n).length-1=k from by show ae n-1=k;omega,c] at h
   simp only [a7] at h;omega
 have ⟨l,j⟩:=Fw b a
 have d:=(wA b a).1
 have e:=Ol c
 rw [hM (show (digits n).length<=k+1 from by show ae n<=k+1;omega),nx] at e
 have i:=kU (tZ (pF n) k)
 rw [cZ,jv (show k<=(digits n).length from by show k<=ae n;omega)] at i
 have m:n+1<=af ^ k*2 ^ dL x:=by
   have:af ^ k*(x+1)<=af ^ k*2 ^ dL x:=fw _ d
   rw [dC] at this;omega
 have o:(n+1)*2 ^ (32-dL x)<=af ^ (k+1):=by
   have:=c6 (2 ^ (32-dL x)) m
   rw [eZ, <- gC,show dL x+(32-dL x)=32 from by omega] at this
   rw [ej];exact this
 have g:=pe (32-dL x)
 have f:n*2 ^ (32-dL x)<af ^ (k+1):=by rw [fg] at o;omega
 refine ⟨a,b,f, ?_,by omega⟩
 have r:=iV f
 have s:ae n<=ae (n*2 ^ (32-dL x)):=ff (Nat.le_mul_of_pos_right _ g)
 omega
def agQ {x R V:Nat} (b:x<af) (a:R<V):x+af*R<af*V/\(x+af*R)/V<af:=by
 have:af*(R+1)<=af*V:=fw _ a
 have h:x+af*R<af*V:=by rw [dC] at this;omega
 exact ⟨h,Nat.div_lt_of_lt_mul (by rw [dF V];exact h)⟩
def agU {num u2 M u' h l v' V D:Nat} (c:l<af) (g:v'<M) (f:V=(h*af+l)*M+v') (e:D=(num*af+u2)*M+u') (b:D<af*V):num<(h+1)*af:=by
 have h1:V<(h+1)*af*M:=by
   have:(h*af+l+1)*M<=(h+1)*af*M:=c6 _ (by rw [fg];omega)
   rw [fg,O4] at this;omega
 have i:num*(af*M)<=D:=by
   have:num*af*M<=(num*af+u2)*M:=c6 _ (by omega)
   rw [eZ] at this;omega
 have d:af*V<(h+1)*af*(af*M):=by
   have:=Nat.mul_lt_mul_of_pos_left h1 ed
   rw [l2] at this;exact this
 exact O5 (a:=af*M) (by omega)
def Tq {m s V N k c A R:Nat} (b:V=N*2 ^ s) (a:af ^ (k-1)<=N) (e:m<af ^ (c+(k-1))) (g:m*2 ^ s=A+af ^ c*R):R<V:=by
 rcases Jx R V with h | h
 exact h
 exfalso
 have h1:af ^ c*V<=af ^ c*R:=fw _ h
 have d:af ^ c*(af ^ (k-1)*2 ^ s)<=af ^ c*V:=by rw [b];exact fw _ (c6 _ a)
 rw [<- eZ, <- gC] at d
 have f:=Nat.mul_lt_mul_of_pos_right e (pe s)
 omega
def Tm {q r num h l u2 M u' v' V D:Nat} (s:l<af) (b:v'<M) (m:u'<M) (u:0<h) (j:V=(h*af+l)*M+v') (g:D=(num*af+u2)*M+u') (f:D<af*V) (t:D/V<af)
   (n:q*h+r=num) (v:D/V<=q) (o:af<=q \/ r*af+u2<q*l):1<=q/\D/V<=q-1/\(q-1)*h+(r+h)=num/\(af<=r+h->q-1<af/\q-1<=D/V+1):=by
 have i:1<=q:=by
   rcases x7 q with e | e
   subst e
   rcases o with h1 | h1
   unfold af at h1;omega
   simp at h1
   exact e
 have d:D/V<=q-1:=by
   rcases o with h1 | h1
   omega
   exact agT j g m n h1
 have k:(q-1)*h+(r+h)=num:=by
   obtain ⟨p,rfl⟩:∃ p,q=p+1:=⟨q-1,by omega⟩
   rw [fg] at n
   simp only [Nat.add_sub_cancel];omega
 refine ⟨i,d,k, λ hb => ?_⟩
 have ⟨a,c⟩:=agS (u2:=u2) (agU s b j g f) s k hb
 exact ⟨a,Tp u j g b a k c⟩
def Tn {m n s O r:Nat} (b:n≠0) (h:m*2 ^ s=O*(n*2 ^ s)+r) (a:r<n*2 ^ s):O=m/n/\r/2 ^ s=m%n/\ae r<=ae (n*2 ^ s):=by
 have c:=pe s
 have h1:r=(m-O*n)*2 ^ s:=by
   rw [Nat.sub_mul,eZ];omega
 have e:m-O*n<n:=by
   rw [h1] at a;exact O5 a
 have g:O*n<=m:=by
   have:O*n*2 ^ s<=m*2 ^ s:=by rw [eZ];omega
   exact Nat.le_of_mul_le_mul_right this c
 have f:(m-O*n)+n*O=m:=by rw [dF n];omega
 have d:m/n=O/\m%n=m-O*n:=(Y7 (kX b)).2 ⟨f,e⟩
 refine ⟨d.1.symm, ?_,ff (jt a)⟩
 rw [h1,Nat.mul_div_cancel _ c,d.2]
def WC {a:List Nat} {i:Nat} (h:a.length=i+1):∃ b x,a=b++[x]/\b.length=i:=by
 refine ⟨a.take i,a[i]'(by omega), ?_,by simp;omega⟩
 rw [<- List.take_succ_eq_append_getElem,hM (by omega)]
end
section
variable {P:Program} {G:Nat->Option (List aa)} {π : Id} {Q:cw->dt->Prop} {s:dt}
def bu.qz {α : Type} {x:cB} {s:dt} (st : α -> dt) (l : α -> Prop) (m : α -> Nat) (x0 : α) (hw:bz G π s (st x0)) (h0:l x0)
   (h:∀ a,l a->bu P G π x (PX G π st l m a Q) (st a)):bu P G π (.loop x) Q s:=by
 refine bu.gV hw ?_
 intro c i own E w a R hm db
 cases c<;>simp only [gv,a7,reduceCtorEq] at i
 case loop bL =>
   cases h1:gv P bL with
   | none=>simp [h1] at i
   | some p2 =>
     simp only [h1,Option.map_some,a7,cB.loop.injEq] at i
     subst i
     refine Yd (α := α) (λ g a' w'=>l g/\∃ E',gN own π E E' w w'/\py G π own E' w' (st g) a') m (x:=x0) ⟨h0,E,gN.refl own π E w,hm⟩ ?_
     rintro g uI xS ⟨t,Bm,d,v⟩
     refine (h g t) bL h1 own Bm xS uI _ v ?_
     intro e s' E' w' a' n f b
     cases e with
     | normal =>
       obtain ⟨g',u,r,o⟩:=n
       obtain ⟨aah,p,q⟩:=o own E' w' a' b
       exact ⟨g',⟨u,aah,(d.trans f).trans p,q⟩,r⟩
     | exit id=>exact db (.exit id) s' E' w' a' n (d.trans f) b
     | ret=>exact db .ret s' E' w' a' n (d.trans f) b
 case region=>exfalso;revert i;unfold pD;(repeat' split)<;>simp
 all_goals (exfalso;revert i;(repeat' split)<;>simp)
def amP {id:Id} {k len l h:Nat} (h1:l<h) (a:h<=len):iq k (.ai id k 0 len false) (some (.int .i64 (l:Int))) (some (.int .i64 (h:Int))) none=some (.ai id k l (h-l) false):=by
 rcases x7 l with rfl | b
 simp [iq,iD,kz,a]
 simp [iq,iD,kz,a,jt h1,Nat.ne_of_gt b,Nat.ne_of_lt h1]
def Wp {id:Id} {k len h:Nat} (a:h<=len):iq k (.ai id k 0 len false) none (some (.int .i64 (h:Int))) none=some (.ai id k 0 h false):=by
 simp [iq,iD,kz,a]
def aal (neg:Bool) (n:Nat):aP (ep neg n) = .agg [.bool (neg&&decide (0<n)),W n]:=by
 cases neg
 simp only [aP,ep];simp<;>omega
 simp only [aP,ep];simp<;>omega
def akO (a:Nat) (b:a<af):eH .quo .int (.int .u32 (a:Int)) (.int .u32 2)=some (.int .u32 ((a/2:Nat):Int)):=by
 rw [Qo (by decide)]
 show some (aa.int .u32 (gD.wrap ((a/2:Nat):Int)))=_
 rw [j8,dG (by unfold af at *;omega)]
def Qm {x y s:Nat} (e:s<=32) (d:x<af):((af*y+x)/2 ^ s)%af=x/2 ^ s+2 ^ (32-s)*(y%2 ^ s):=by
 have a:=IL e
 have hd:x/2 ^ s<2 ^ (32-s):=by rw [l1 (pe _),a];exact d
 have c:(af*y+x)/2 ^ s=2 ^ (32-s)*y+x/2 ^ s:=by
   rw [<- a,dF (2 ^ (32-s)),eZ,Nat.mul_add_div (pe _)]
 have b:y%2 ^ s<2 ^ s:=bC _ (pe _)
 have h1:2 ^ (32-s)*(y%2 ^ s+1)<=2 ^ (32-s)*2 ^ s:=fw _ b
 rw [dC,a] at h1
 have f:2 ^ (32-s)*y=af*(y/2 ^ s)+2 ^ (32-s)*(y%2 ^ s):=by
   have:=hL y (2 ^ s)
   conv=>lhs;rw [<- this]
   rw [dC, <- eZ,a]
 rw [c,f,show af*(y/2 ^ s)+2 ^ (32-s)*(y%2 ^ s)+x/2 ^ s=(x/2 ^ s+2 ^ (32-s)*(y%2 ^ s))+af*(y/2 ^ s) from by omega,Nat.add_mul_mod_self_left,dG (by omega)]
def aju (x y:Nat) (a:x<af) (c:y<af):eH .or .int (.int .u64 (x:Int)) (.int .u64 ((af*y:Nat):Int))=some (.int .u64 ((af*y+x:Nat):Int)):=by
 rw [MV _ _ (by unfold af at *;omega) (by unfold af at *;omega),Nat.or_comm]
 have:=AK (i:=32) (b:=x) (by unfold af at a;omega) y
 rw [show af=2 ^ 32 from rfl,this]
def Wj (x s:Nat) (d:s<=64):eH .shr .int (.int .u64 (x:Int)) (.int .i64 (s:Int))=some (.int .u64 ((x/2 ^ s:Nat):Int)):=by
 rw [Bv (by omega)]
 have a:min (s:Int).toNat IntKind.u64.bits=s:=by
   show min (s:Int).toNat 64=s
   rw [ue];omega
 have b:(x:Int).fdiv (2 ^ s)=((x/2 ^ s:Nat):Int):=by
   have c:(2:Int) ^ s=((2 ^ s:Nat):Int):=by rw [Ef];rfl
   rw [c,x4 _ (vF _)]
   exact (Int.natCast_ediv _ _).symm
 rw [a,b]
def trimmed (b:List Nat) (h:fl b):∃ z,b=digits (val b)++zs z:=by
 induction c:b.length generalizing b with
 | zero =>
   obtain rfl:b=[]:=List.length_eq_zero_iff.1 c
   exact ⟨0,by simp [val,iO,zs]⟩
 | succ k f =>
   obtain ⟨e,w,rfl,g⟩:=WC c
   by_cases a:w=0
   subst a
   have ⟨z,d⟩:=f e (λ w a=>h w (by simp [a])) g
   refine ⟨z+1, ?_⟩
   rw [I5]
   conv=>lhs;rw [d]
   rw [List.append_assoc];congr 1
   simp [zs,List.replicate_succ']
   exact ⟨0,by rw [BG h (.inr ⟨w,by simp,a⟩)];simp [zs]⟩
def amO {id:Id} {k off len h:Nat} (a:h<=len):iq k (.ai id k off len false) none (some (.int .i64 (h:Int))) none=some (.ai id k off h false):=by
 simp [iq,iD,kz,a]
def aly {num h V D x0 M u' l v':Nat} (c:0<h) (e:V=(h*af+l)*M+v') (d:D=(num*af+x0)*M+u') (b:x0<af) (hu:u'<M) (a:D/V<af):D/V<=min (num/h) (af-1):=by
 have:=To c e d b hu
 omega
def V8 {a b:Int} (h:decide (a<0)=decide (b<0)):ep (decide (a<0)) (a.natAbs+b.natAbs)=a+b:=by
 unfold ep
 by_cases h1:a<0<;>by_cases c:b<0<;>simp [h1,c] at h ⊢ <;> omega
def Ip {a b:Int} (h : ¬ decide (a<0)=decide (b<0)) (d:b.natAbs<=a.natAbs):ep (decide (a<0)) (a.natAbs-b.natAbs)=a+b:=by
 unfold ep
 by_cases h1:a<0<;>by_cases c:b<0<;>simp [h1,c] at h ⊢ <;> omega
def aoV (a b:Int):ae (a+b).natAbs<=ae a.natAbs+ae b.natAbs+1:=by
 have h1:(a+b).natAbs<=a.natAbs+b.natAbs:=Int.natAbs_add_le a b
 have c:ae (a.natAbs+b.natAbs)<=ae a.natAbs+ae b.natAbs+1:=iV (by
   have h:=rT a.natAbs
   have d:=rT b.natAbs
   have f:af ^ ae a.natAbs<=af ^ (ae a.natAbs+ae b.natAbs):=dv ed (by omega)
   have g:af ^ ae b.natAbs<=af ^ (ae a.natAbs+ae b.natAbs):=dv ed (by omega)
   have e:af ^ (ae a.natAbs+ae b.natAbs)*2<=af ^ (ae a.natAbs+ae b.natAbs)*af:=fw _ (by decide)
   rw [ej];omega)
 exact bs (ff h1) c
def ao0 {ws:List Nat} (a:fl ws):ae (val ws)<=ws.length:=iV (kU a)
def agx (neg:Bool) {ws:List Nat} (g:fl ws):(decide (ae (val ws)=ws.length)&&(!neg||decide (0<ws.length)))=rR neg ws:=by
 unfold rR
 by_cases f:ws=[]
 subst f;simp [ae,val,iO]
 rw [if_neg f]
 have a:0<ws.length:=List.length_pos_iff.2 f
 rw [eL a,Bool.or_true,Bool.and_true]
 have ⟨k,i⟩:∃ k,ws.length=k+1:=⟨ws.length-1,by omega⟩
 obtain ⟨b,x,rfl,hb⟩:=WC i
 have e:(b++[x])[(b++[x]).length-1]?.getD 0=x:=by simp
 rw [e]
 by_cases c:x=0
 rw [dw (show ¬ x≠0 from λ h=>h c),c,I5]
 exact dw (by have:=ao0 (λ w d=>g w (by simp [d]):fl b);simp;omega)
 rw [eL c]
 exact eL (by rw [ae,BG g (.inr ⟨x,by simp,c⟩)])
def aV (q:Rat):aa:=hV q.num q.den
def cI (k:Nat) (q:Rat):Prop:=ae q.num.natAbs<=k/\ae q.den<=k
def cI.mono {j k:Nat} {q:Rat} (h:cI j q) (a:j<=k:=by omega):cI k q:=⟨bs h.1 a,bs h.2 a⟩
def mM (a b:Int):ae (a*b).natAbs<=ae a.natAbs+ae b.natAbs:=by rw [l3];exact Av _ _
def ad3 (a b:Int):Int.gcd a b=cy a.natAbs b.natAbs:=rfl
def TK (a b:Int) (hb:b≠0):hV (a.fdiv (if b<0 then -((cy a.natAbs b.natAbs:Nat):Int) else (cy a.natAbs b.natAbs:Nat))) (b.fdiv (if b<0 then -((cy a.natAbs b.natAbs:Nat):Int) else (cy a.natAbs b.natAbs:Nat)))=aV ((a:Rat)/(b:Rat)):=by
 rw [<- x8]
 unfold aV
 rw [Rat.num_divInt,Rat.den_divInt,if_neg hb,ad3,Nat.gcd_comm b.natAbs a.natAbs]
 have e:0<cy a.natAbs b.natAbs:=Nat.gcd_pos_of_pos_right _ (by omega)
 have ⟨x,l⟩:((cy a.natAbs b.natAbs:Nat):Int) ∣ a:=vG.2 (Nat.gcd_dvd_left _ _)
 have ⟨y,k⟩:((cy a.natAbs b.natAbs:Nat):Int) ∣ b:=vG.2 (q2 _ _)
 generalize m:cy a.natAbs b.natAbs=g at *
 have c:(g:Int)≠0:=by omega
 have d:b.natAbs/g=y.natAbs:=by
   rw [k,l3,gE,Nat.mul_div_cancel_left _ e]
 rw [d]
 by_cases h:b<0
 have i:y<0:=by
   rcases Int.lt_or_le y 0 with h1 | h1
   exact h1
   have:=O3 (vF g) h1;omega
 rw [if_pos h,x6 h]
 have f:a.fdiv (-(g:Int)) = -1*a/(g:Int):=by
   rw [l,show -1*((g:Int)*x)=(g:Int)*(-x) from by rw [Jw];omega,Eg _ c,show (g:Int)*x = -(g:Int)*(-x) from by rw [Y8]]
   exact Jy _ (by omega)
 have j:b.fdiv (-(g:Int))=(y.natAbs:Int):=by
   rw [show (y.natAbs:Int) = -y from by omega]
   conv=>lhs;rw [k]
   rw [show (g:Int)*y = -(g:Int)*(-y) from by rw [Y8]]
   exact Jy _ (by omega)
 rw [f,j]
 have i:0<y:=by
   rcases Int.lt_or_le 0 y with h1 | h1
   exact h1
   have:=O3 (vF g) (show 0 <= -y by omega)
   rw [Jw] at this;omega
 rw [if_neg h,og (by omega)]
 have f:a.fdiv (g:Int)=1*a/(g:Int):=by
   rw [l,Int.one_mul,Eg _ c]
   exact Jy _ c
 have j:b.fdiv (g:Int)=(y.natAbs:Int):=by
   rw [show (y.natAbs:Int)=y from by omega]
   conv=>lhs;rw [k]
   exact Jy _ c
 rw [f,j]
def akC (a b:Rat):a+b=((a.num*b.den+b.num*a.den:Int):Rat)/((a.den*b.den:Int):Rat):=by
 rw [<- x8,Rat.add_def', <- Y9];simp
def M9 (a b:Rat):a*b=((a.num*b.num:Int):Rat)/((a.den*b.den:Int):Rat):=by
 rw [<- x8,Rat.mul_def', <- Y9];simp
def akD (a b:Rat):a/b=((a.num*b.den:Int):Rat)/((a.den*b.num:Int):Rat):=by
 rw [Rat.div_def,Rat.inv_def]
 conv=>lhs;lhs;rw [<- Rat.num_divInt_den a]
 rw [Rat.divInt_mul_divInt,x8]
def yO (q:Rat):(0:Int)<q.den:=by have:=q.den_nz;omega
def KM (q:Rat):(q.den:Int)≠0:=by have:=yO q;omega
def Uf (a b:Rat):(a.den*b.den:Int)≠0:=Int.mul_ne_zero (KM a) (KM b)
def cI.neg {k:Nat} {a:Rat} (h:cI k a):cI k (-a):=⟨by rw [Rat.neg_num,Int.natAbs_neg];exact h.1,h.2⟩
def DW {m n k:Nat} (a:ae m<=k) (b:ae n<=k):ae (m+n)<=k+1:=by
 refine iV ?_
 have h1:=fv (rT m) (dv ed a)
 have d:=fv (rT n) (dv ed b)
 rw [ej]
 have:2<=af:=by decide
 have c:af ^ k*2<=af ^ k*af:=fw _ this
 omega
def cI.zero:cI 1 0:=⟨by simp [ae,iO],DX⟩
def dr (q:Rat):Int:=q.num.sign
def akM {q:Rat}:dr q=0↔q=0:=by unfold dr;rw [Int.sign_eq_zero_iff_zero,oh]
def zS (a b:Rat):Int:=eV (a.num*b.den) (b.num*a.den)
def akI {a b:Rat}:zS a b=0↔a=b:=by
 rw [Rat.eq_iff_mul_eq_mul]
 unfold zS
 rcases oG (a.num*b.den) (b.num*a.den) with ⟨h1,c⟩ | ⟨h1,c⟩ | ⟨h1,c⟩<;>rw [h1]<;>constructor<;>intro h<;>first | omega | rfl | (simp at h)
def akH {a b:Rat} (h:dr a≠dr b):zS a b=if dr a<dr b then -1 else 1:=by
 have key:=QV (y:=a.num*b.den) (z:=b.num*a.den) (by
   rw [Jz,Jz,og (yO a),og (yO b),JA,JA];exact h)
 unfold zS
 rw [<- key,Jz,Jz,og (yO a),og (yO b),JA,JA]
 unfold dr at h ⊢
 unfold eV
 split
 rfl
 rw [if_pos (by omega)]
def wq {z d:Int} {q:Rat} (h1:q.num=z) (a:(q.den:Int)=d):aa.agg [.bool (decide (z<0)),W z.natAbs, .bool (decide (d<0)),W d.natAbs]=aV q:=by subst h1;subst a;rfl
def Bn (P:Program) (G:Nat->Option (List aa)) (f:FuncId):Prop:=∀ a b:Int,ae a.natAbs<=1677721600000->ae b.natAbs<=1677721600000->ag P G f [aP a,aP b] (aP (a+b))
def wj (P:Program) (G:Nat->Option (List aa)) (f:FuncId):Prop:=∀ a b:Int,ae a.natAbs<=1677721600000->ae b.natAbs<=1677721600000->ag P G f [aP a,aP b] (aP (a*b))
def Bo (P:Program) (G:Nat->Option (List aa)) (f:FuncId):Prop:=∀ a:Int,ae a.natAbs<=1677721600000->ag P G f [aP a] (aP (-a))
def E2 (P:Program) (G:Nat->Option (List aa)) (f:FuncId):Prop:=∀ a:Int,ae a.natAbs<=1677721600000->ag P G f [aP a] (.int .i64 a.sign)
def PT (P:Program) (G:Nat->Option (List aa)) (f:FuncId):Prop:=∀ a b:Int,ae a.natAbs<=1677721600000->ae b.natAbs<=1677721600000->ag P G f [aP a,aP b] (.int .i64 (eV a b))
def yr (P:Program) (G:Nat->Option (List aa)) (f:FuncId):Prop:=∀ z:Int,ag P G f [aP z] (.bool (decide (z=1)))
def J7 (P:Program) (G:Nat->Option (List aa)) (f:FuncId):Prop:=∀ a b:Int,b≠0->ae a.natAbs<=1677721600001->ae b.natAbs<=1677721600000->ag P G f [aP a,aP b] (aV ((a:Rat)/(b:Rat)))
def E7 (P:Program) (G:Nat->Option (List aa)) (f:FuncId):Prop:=∀ a b:Rat,cI 419430400000 a->cI 419430400000 b->ag P G f [aV a,aV b] (aV (a+b))
def Kc (P:Program) (G:Nat->Option (List aa)) (f:FuncId):Prop:=∀ a b:Rat,cI 419430400000 a->cI 419430400000 b->ag P G f [aV a,aV b] (aV (a*b))
def E8 (P:Program) (G:Nat->Option (List aa)) (f:FuncId):Prop:=∀ a:Rat,cI 419430400000 a->ag P G f [aV a] (aV (-a))
def Kd (P:Program) (G:Nat->Option (List aa)) (f:FuncId):Prop:=∀ a:Rat,cI 419430400000 a->ag P G f [aV a] (.int .i64 (dr a))
def P0 (P:Program) (G:Nat->Option (List aa)) (f:FuncId):Prop:=∀ a b:Rat,cI 419430400000 a->cI 419430400000 b->ag P G f [aV a,aV b] (.int .i64 (zS a b))
def P1 (P:Program) (G:Nat->Option (List aa)) (f:FuncId):Prop:=∀ a b:Rat,b≠0->cI 419430400000 a->cI 419430400000 b->ag P G f [aV a,aV b] (.aS [aV (a/b), .int .i64 0])
def Kf (P:Program) (G:Nat->Option (List aa)) (f:FuncId):Prop:=∀ a:Rat,cI 419430400000 a->ag P G f [aV a] (.bool true)
def P2 (P:Program) (G:Nat->Option (List aa)) (f:FuncId):Prop:=∀ a:Int, -9223372036854775808<=a->a<9223372036854775808->ag P G f [.int .i64 a] (aV (a:Rat))
def gS (n:Nat):ae ((n:Nat):Int).natAbs=ae n:=rfl
def yN {q:Rat} (h:(q.den:Int)=1):q=(q.num:Rat):=Rat.ext rfl (by rw [Rat.den_intCast];omega)
def akE (a:Int) (b:Nat) (hb:b≠0):aV ((a:Rat)/((b:Int):Rat))=hV (a/(cy a.natAbs b:Nat)) ((b:Int)/(cy a.natAbs b:Nat)):=by
 have h:=TK a b (by omega)
 rw [if_neg (by omega),gE,x4 _ (vF _),x4 _ (vF _)] at h
 exact h.symm
def aaz (a b:Rat):(a+b).num=(a.num*((b.den/cy a.den b.den:Nat):Int)+b.num*((a.den/cy a.den b.den:Nat):Int))/(cy (a.num*((b.den/cy a.den b.den:Nat):Int)+b.num*((a.den/cy a.den b.den:Nat):Int)).natAbs (cy a.den b.den):Nat) /\
   (a+b).den=a.den/cy a.den b.den*(b.den/cy (a.num*((b.den/cy a.den b.den:Nat):Int)+b.num*((a.den/cy a.den b.den:Nat):Int)).natAbs (cy a.den b.den)):=by
 show (Rat.add a b).num=_/\(Rat.add a b).den=_
 unfold Rat.add
 dsimp only
 split
 rename_i h
 simp [h]
 unfold Rat.maybeNormalize
 have hd:∀ x:Nat,cy x (cy a.den b.den) ∣ b.den := λ x=>Eh (q2 _ _) (q2 _ _)
 split
 rename_i h
 have e:∀ (N:Int) (k x y:Nat),k=1->N=N/(k:Int)/\x*y=x*(y/k):=by
   intro N k x y c;subst c;simp
 exact e _ _ _ _ h
 refine ⟨rfl, ?_⟩
 exact Nat.mul_div_assoc _ (hd _)
def aip (a b:Rat):(a*b).num=a.num/(cy a.num.natAbs b.den:Nat)*(b.num/(cy b.num.natAbs a.den:Nat))/\(a*b).den=a.den/cy b.num.natAbs a.den*(b.den/cy a.num.natAbs b.den):=by
 show (Rat.mul a b).num=_/\(Rat.mul a b).den=_
 unfold Rat.mul
 simp
def PU (P:Program) (G:Nat->Option (List aa)) (f:FuncId):Prop:=∀ z:Int,ae z.natAbs<=4194304000000->ag P G f [aP z] (aP z)
def yq (P:Program) (G:Nat->Option (List aa)) (f:FuncId):Prop:=∀ a b:Int,ae a.natAbs<=1677721600001->ae b.natAbs<=1677721600000->ag P G f [aP a,aP b] (aP (cy a.natAbs b.natAbs:Nat))
def E1 (P:Program) (G:Nat->Option (List aa)) (f:FuncId):Prop:=∀ a b:Int,0<b->b ∣ a->ae a.natAbs<=1677721600001->ae b.natAbs<=1677721600000->ag P G f [aP a,aP b] (aP (a/b))
def Ke (q:Rat):∀ c∈(aV q).cells,b8 c:=by
 intro c a
 simp only [aV,hV,aa.cells,List.mem_cons,List.not_mem_nil,or_false] at a
 rcases a with rfl | rfl | rfl | rfl
 exact AM _
 exact uH _
 exact AM _
 exact uH _
def Jh (q:Rat):decide ((ae q.num.natAbs:Int)=0)=decide (q=0):=by
 have h1:=gL (n:=q.num.natAbs)
 have a:=oh (q:=q)
 congr 1;apply propext
 rw [<- a];omega
def three (a b:Int) (h : ¬ (a=1/\b=1)):(decide (a=1)=true/\decide (b=1)=false) \/ (decide (a=1)=false/\decide (b=1)=false) \/ (decide (a=1)=false/\decide (b=1)=true):=by
 by_cases h1:a=1<;>by_cases c:b=1<;>simp_all
def aak (P:Program) (G:Nat->Option (List aa)) (f:FuncId):Prop:=∀ (a:Int) (b:Nat),b≠0->b<=1000 -> -1000<=a->a<=1000->ag P G f [.int .i64 a, .int .i64 (b:Int)] (aV ((a:Rat)/((b:Int):Rat)))
def F1 (ws:List Nat) (ρ : Id->Id):bx ρ (us ws)=us ws:=by
 rw [jl];unfold us;rw [List.map_map];rfl
theorem bg.rows {α : Type} {f : α -> aa} {k:Nat} (h:∀ x,bg (f x)) (a:∀ x,∀ d∈(f x).cells,b8 d) (l:List α):bg (.sl k (l.map f)):=bg.slice (by
 intro c hc
 simp only [flat,List.mem_flatMap,bn] at hc
 have ⟨_,⟨x,_,rfl⟩,hc⟩:=hc
 exact a x c hc) (by intro c hc ρ;obtain ⟨x,_,rfl⟩:=bn.1 hc;exact (h x).fix ρ)
instance {ws:List Nat}:bg (.sl 1 (us ws)):=⟨XJ ws, λ ρ => by show aa.sl 1 (bx ρ (us ws))=_;rw [F1]⟩
instance {i:IntKind} {n:Int}:bg (.sl 1 [.int i n]):=bg.slice (by intro c hc;simp [flat,aa.cells] at hc;subst hc;exact b8.int _ _) (by intro c hc ρ;simp at hc;subst hc;rfl)
instance {n:Nat}:bg (W n):=⟨uH n, λ ρ => by show aa.sl 1 (bx ρ (us (digits n)))=_;rw [F1];rfl⟩
instance {z:Int}:bg (aP z):=by unfold aP;infer_instance
instance {q:Rat}:bg (aV q):=by unfold aV hV;infer_instance
def o8 {ρ : Id->Id} {c:aa} {l:List aa}:bx ρ (c::l)=c.aX ρ :: bx ρ l:=rfl
def pQ {ρ : Id->Id}:bx ρ []=[]:=rfl
def xy {ρ : Id->Id} {n:Nat}:bx ρ (bG n .top)=bG n .top:=by rw [jl,List.map_replicate];rfl
def bg.fixed {c:aa} [h:bg c] {ρ : Id->Id}:c.aX ρ = c:=h.fix ρ
def H9 {ρ : Id->Id} {i:Id} {e o:Nat}:aa.aX ρ (.ref i e o) = .ref (ρ i) e o:=rfl
def Nh {ρ : Id->Id} {i:Id} {k o l:Nat} {t:Bool}:aa.aX ρ (.ai i k o l t) = .ai (ρ i) k o l t:=rfl
def Df {ρ : Id->Id}:aa.aX ρ .top = .top:=rfl
def fM {ρ : Id->Id} {l:List aa} {k:Nat} {b:Bool}:aN.aX ρ ⟨l,k,b⟩=⟨bx ρ l,k,b⟩:=rfl
def fK {ρ : Id->Id} {x:Id × aN} {K:List (Id × aN)}:dX ρ (x::K)=(ρ x.1,x.2.aX ρ)::dX ρ K:=rfl
def fL {ρ : Id->Id}:dX ρ []=[]:=rfl
end
section
variable {P:Program} {G:Nat->Option (List aa)}
def qw {f:FuncId} {args args':List aa} {r:aa} (S:List (Id × aN)) (h:ag P G f args' r) (hv:c9 (bk S) args args'):aZ P G := .rel f args S (λ _=>{ val:=r,rd:=S.map (·.1),up:=mh S }) (λ p _=>cu.ajc h hv) (λ p x a=>bn.2 ⟨x,a,rfl⟩)
def akL (q:Rat):decide (dr q=0)=decide (q=0):=by congr 1;exact propext akM
def amT {i:Nat} (h:i<=1000):cI 1 (((i:Nat):Int):Rat):=⟨iV (by rw [Nat.pow_one];show i<af;unfold af;omega),DX⟩
def agw (z:Int):rR (decide (z<0)) (digits z.natAbs)=true:=by
 unfold rR
 by_cases h:digits z.natAbs=[]
 rw [if_pos h]
 have:=FK.1 h
 have : ¬ z<0:=by omega
 simp [this]
 rw [if_neg h]
 have ⟨w,h1,a⟩:=(KO (n:=z.natAbs)).resolve_left h
 rw [Y6] at h1
 rw [h1];simpa using a
def PV {f:FuncId} (h:∀ neg ws,fl ws->ws.length<=9223372036854775807->ag P G f [uA neg ws] (.bool (rR neg ws))) (z:Int) (a:ae z.natAbs<=4194304000000):ag P G f [aP z] (.bool true):=by
 have:=h (decide (z<0)) (digits z.natAbs) (pF _) (by unfold ae at a;omega)
 rw [agw] at this;exact this
def Vo {f j fs d i:FuncId} (h:gX P f (OI j fs d i)) (hv:∀ z:Int,ae z.natAbs<=4194304000000->ag P G j [aP z] (.bool true)) (l:E2 P G fs) (k:yq P G d) (ho:yr P G i):Kf P G f := λ q a=>by
 have h1:=hv q.num (by have:=a.1;omega)
 have m:=hv q.den (by have:=a.2;rw [gE];omega)
 have g:=l q.den (by have:=a.2;rw [gE];omega)
 have c:=k q.num q.den (by have:=a.1;omega) (by have:=a.2;rw [gE];omega)
 have b:=ho ((cy q.num.natAbs (q.den:Int).natAbs:Nat):Int)
 rw [gE] at c b
 have e:cy q.num.natAbs q.den=1:=q.reduced
 rw [e] at c b
 rw [og (yO q)] at g
 exact ag.j7 h [hc h1,hc m,hc g,hc c,hc b]
def mv (q a i:Id):Id:=if i=q then a else i
def CO {q a:Id}:mv q a q=a:=if_pos rfl
def oW {q a i:Id} (h:i≠q):mv q a i=i:=if_neg h
def bz.move {π q:Id} {t:List aa} {σ D:aL} {n m:Nat} (v:n<=m)
   (L:∀ j,D j=none \/ ∃ i b, σ i=some b/\mv q (m :: π) i=j/\D j=some (b.aX (mv q (m :: π)))):bz G π ⟨t, σ,n⟩ ⟨bx (mv q (m :: π)) t,D,m+1⟩ := λ own E w a hm=>by
 have ⟨F,p,l,u⟩:=hm
 have Y:E.μ (m :: π)=none:=(l.mono v).at (a4 _) (yo _)
 let E':Env:=⟨λ j=>if j=m :: π then E.μ q else E.μ j,E.ok⟩
 have f:∀ i,i≠m :: π -> E'.μ i=E.μ i := λ i h=>if_neg h
 have o:∀ i x,E.μ i=some x->E'.μ i=some x := λ i x h=>(f i λ e=>by rw [e,Y] at h;cases h).trans h
 have r:∀ i x,E.μ i=some x->E'.μ (mv q (m :: π) i)=some x := λ i x h=>by
   by_cases e:i=q
   subst e;rw [CO];exact (if_pos rfl).trans h
   rw [oW e];exact o i x h
 have B:Adv own E E' w w:=⟨⟨o, λ b hb=>hb, λ b hb=>rfl⟩,rfl,rfl,rfl,a4 _, λ k Q _=>rfl, λ b hb => .inl hb⟩
 refine ⟨E',⟨B, λ i I=>f i λ e=>I (by rw [e];exact List.suffix_cons _ _)⟩,⟨bl.aX (E:=E) (E':=E') r (λ _ h=>h) _ _ F,⟨p.hh, λ j au d => ?_, λ j W x y d M J V U => ?_,p.jH,p.new⟩, λ j d S => ?_,u⟩⟩
 have d:D j=some au:=d
 rcases L j with h1 | ⟨i,b,h1,C,T⟩
 rw [h1] at d;cases d
 rw [T] at d
 cases d;subst C
 have ⟨g,N,A,ty,c⟩:=p.blk i b h1
 refine ⟨g,N,A,ty,r _ _ c.μ,c.heap,c.size, ?_,c.most,c.own,c.ok,c.no,Ia c.k, ?_⟩
 rw [show (b.aX (mv q (m :: π))).els.length=b.els.length from mA];exact c.len
 rw [show (b.aX (mv q (m :: π))).els=bx (mv q (m :: π)) b.els from rfl,H8]
 exact ey.aX r (λ b hb=>hb) c.row
 have X:∀ k b, σ k=some b->PM E own w k b := λ k b h=>p.blk k b h
 have ⟨i,b,h1,C,_⟩:=(L j).resolve_left d
 have ⟨K,b',mi,z,_⟩:=(L W).resolve_left M
 have ⟨g,N,A,ty,c⟩:=p.blk i b h1
 have ⟨g',oz,O,Z,s⟩:=p.blk K b' mi
 have e:=r _ _ c.μ;have R:=r _ _ s.μ
 rw [C,V] at e;rw [z,U] at R
 refine p.inj i K x y (by show σ i≠none;rw [h1];simp) (by show σ K≠none;rw [mi];simp) ?_ (by rw [c.μ,e]) (by rw [s.μ,R])
 rintro rfl
 exact J (C.symm.trans z)
 have H:j≠m :: π := λ e=>S m (Nat.lt_succ_self _) (e▸yo _)
 exact (f j H).trans (l.mono v j d λ k Q=>S k (Nat.lt_succ_of_lt Q))
def bz.aij {π q:Id} {t:List aa} {K:List (Id × aN)} {n m:Nat} (c:n<=m) (hd:(K.map (·.1)).Nodup):bz G π ⟨t,bk K,n⟩ ⟨bx (mv q (m :: π)) t,bk (dX (mv q (m :: π)) K),m+1⟩ :=
 bz.move c λ j=>by
   cases h:(dX (mv q (m :: π)) K).lookup j with
   | none=>exact .inl h
   | some b =>
     right
     have ⟨z,d,a⟩:=bn.1 (qy h)
     simp only [Prod.mk.injEq] at a
     exact ⟨z.1,z.2,xd hd d,a.1,by rw [a.2];exact h⟩
def gF.same:∀ t:List aa,gF t t
 | []=>trivial
 | _::cs=>⟨.inr rfl,gF.same cs⟩
def bz.toT {π : Id} {s:dt} {t:List aa} {K:List (Id × aN)} {n:Nat} (hd:(K.map (·.1)).Nodup) (h:bz G π s ⟨t,bk K,n⟩):bz G π s ⟨t,kd (cf K),n⟩ :=
 h.trans (ug (gF.same t) (λ j=>by
   cases a:kd (cf K) j with
   | none=>exact .inl rfl
   | some b=>right;exact (xd hd (Cm a)).symm) (a4 n))
def ki (n s:Nat):Prop:=s*s<=n/\n<(s+1)*(s+1)
def Nn {n s x:Nat} (h:ki n s) (c:x*x<=n):x<=s:=by
 rcases Jx s x with a | b
 exfalso
 have:=lH a a
 have:=h.2
 simp only [JB] at *
 omega
 exact b
def aiQ {n s x:Nat} (h:ki n s) (b:0<x):s<=(x+n/x)/2:=by
 rw [AL (by decide)]
 rcases Jx (2*s) x with h1 | h1
 exact bs (by omega:s*2<=x) (Nat.le_add_right _ _)
 have:2*s-x<=n/x:=by
   rw [AL b]
   refine bs ?_ h.1
   have ⟨d,hd⟩:∃ d,2*s=x+d:=⟨2*s-x,by omega⟩
   rw [hd,Nat.add_sub_cancel_left]
   rcases Nat.le_total x s with a | a
   obtain ⟨e,rfl⟩:∃ e,s=x+e:=⟨s-x,by omega⟩
   have:d=x+2*e:=by omega
   subst this
   have f:(x+2*e)*x=x*x+2*(e*x):=by rw [fg,eZ]
   have c:(x+e)*(x+e)=x*x+2*(e*x)+e*e:=by rw [fg,dC,dC,dF x e];omega
   omega
   obtain ⟨e,rfl⟩:∃ e,x=s+e:=⟨x-s,by omega⟩
   have:d+e=s:=by omega
   subst this
   have f:(d+e)*(d+e)=d*d+2*(d*e)+e*e:=by rw [fg,dC,dC,dF e d];omega
   have c:d*(d+e+e)=d*d+2*(d*e):=by rw [dC,dC];omega
   omega
 omega
def aiP {n s x:Nat} (h:ki n s) (c:0<x) (a:s<=x) (b:x<=(x+n/x)/2):x=s:=by
 refine Nat.le_antisymm (Nn h ?_) a
 rw [AL (by decide)] at b
 have:x<=n/x:=by omega
 exact (AL c).1 this
abbrev agq (ft fd F5 fa nT fs:Nat):cB:=(.block 2 (eR [vm 24 1 1,kR 25 1 24,rW 26 ft 25,bE 27 5,xe 28 fd 26 27,bE 23 28,oE 29 23 0,oE 30 23 1,bE 6 29,bE 7 30] (eR [bE 31 5,bE 32 6,xe 33 F5 31 32,rW 34 fa 33,bE 8 34] (.seq (eR [bE 35 8,bE 36 5,xe 37 nT 35 36,fT 38 .geq 37 0] (.cond (.t 38) (eR [bE 39 5,⟨some 40,.call (.f fs) [(.c (.bool false)),(.t 39)],none⟩,oS 2 2 40,xf 3 0] .ret) .skip)) (m2 [bE 41 8,bE 5 41])))))
def vd (b a:Id) (x:Nat):List aa:=[.top, .ref b 0 0, .ref a 0 0, .int .i64 0, .top,W x]++bG 36 .top
def LY {ρ : Id->Id} {b a:Id} {x:Nat}:bx ρ (vd b a x)=vd (ρ b) (ρ a) x:=by
 unfold vd
 simp only [r9,o8,pQ,xy,bg.fixed,H9,Df]
def Td:Nat->Id
 | 1=>[0]
 | _=>[1]
def rQ (b a:Id) (z:Int) (r:aa):List (Id × aN):=[(b,⟨[aP z],2,false⟩),(a,⟨[r],2,false⟩)]
def zj (a:Id):List aa:=[.top, .top, .ref a 0 0, .int .i64 0]++bG 38 .top
def agp {ρ : Id->Id} {a:Id}:bx ρ (zj a)=zj (ρ a):=by
 unfold zj
 simp only [r9,o8,pQ,xy,bg.fixed,H9,Df]
def agr {ft fd F5 fa nT fs:FuncId} (z:Int) (x0 s:Nat) (k:ki z.natAbs s) (D:0<s) (g:s<=x0) (N:Nat) (F:x0<=N) (q:ag P G ft [W z.natAbs] (W z.natAbs)) (A:∀ n,0<n->n<=N->ag P G fd [W z.natAbs,W n] (.aS [W (z.natAbs/n),W (z.natAbs%n)]))
   (C:∀ n,s<=n->n<=N->ag P G F5 [W n,W (z.natAbs/n)] (W (n+z.natAbs/n))) (w:∀ n,s<=n->n<=N->ag P G fa [W (n+z.natAbs/n)] (W ((n+z.natAbs/n)/2))) (v:∀ n,s<=n->n<=N->ag P G nT [W ((n+z.natAbs/n)/2),W n] (.int .i64 (dI ((n+z.natAbs/n)/2) n))) (t:ag P G fs [.bool false,W s] (aP (s:Int)))
   (b:Nat):bu P G [] (.loop (agq ft fd F5 fa nT fs)) (λ e s'=>e = .ret/\bz G [] s' ⟨zj [1],bk [([1],⟨[aP (s:Int)],2,false⟩)],b+30*(x0-s+2)⟩) ⟨vd [0] [1] x0,bk (rQ [0] [1] z (.agg [.bool false, .aq])),b⟩:=by
 refine bu.qz (α := Nat × Nat) (λ y=>⟨vd [0] [1] y.1,bk (rQ [0] [1] z (.agg [.bool false, .aq])),y.2⟩) (λ y=>s<=y.1/\y.1<=x0/\y.2<=b+30*(x0-y.1)) (λ y=>y.1) (x0,b) (x9 _ _ _) ⟨g,a4 _,by simp⟩ ?_
 rintro ⟨x,m⟩ ⟨a,d,u⟩
 simp only [] at a d u ⊢
 have h:0<x:=by omega
 have p:=A x h (by omega)
 have o:=C x a (by omega)
 have l:=w x a (by omega)
 have r:=v x a (by omega)
 have f:=aiQ k h
 generalize E:(x+z.natAbs/x)/2=y at *
 by_cases i:y<x
 have c:decide (dI y x≥0)=false:=dw (by unfold dI eV;split<;>(try split)<;>omega)
 refine iG (π := []) (n:=m) Td [hc q,hc p,hc o,hc l,hc r,hb 38 c] (vd [1] [2] x) (rQ [1] [2] z (.agg [.bool false, .aq])) .normal (vd [1] [2] y) (rQ [1] [2] z (.agg [.bool false, .aq])) 30 (by kernel_rfl)
   LY (by unfold rQ;simp only [fK,fL,fM,o8,pQ,bg.fixed];rfl) LY (by unfold rQ;simp only [fK,fL,fM,o8,pQ,bg.fixed];rfl) (by simp [rQ]) λ s' hw => ?_
 exact ⟨(y,m+30),⟨f,by simp only [];omega,by simp only [];omega⟩,i,hw⟩
 have B:x=s:=aiP k h a (by omega)
 subst B
 have c:decide (dI y x≥0)=true:=eL (by unfold dI eV;split<;>(try split)<;>omega)
 refine iG (π := []) (n:=m) Td [hc q,hc p,hc o,hc l,hc r,hb 38 c,hc t] (vd [1] [2] x) (rQ [1] [2] z (.agg [.bool false, .aq])) .ret (zj [2]) [([2],⟨[aP (x:Int)],2,false⟩)] 30 (by kernel_rfl)
   LY (by unfold rQ;simp only [fK,fL,fM,o8,pQ,bg.fixed];rfl) agp (by simp only [fK,fL,fM,o8,pQ,bg.fixed];rfl) (by simp [rQ]) λ s' hw => ?_
 exact ⟨rfl,hw.trans (ug (gF.same _) (λ j => .inr rfl) (by omega))⟩
def acR {n:Nat} (h:n≠0):∃ a t,digits n=a++[t]/\t≠0/\t<af/\n<2 ^ (32*a.length+dL t)/\a.length+1=ae n:=by
 rcases KO (n:=n) with j | ⟨t,i,c⟩
 exact absurd (FK.1 j) h
 have ⟨a,d⟩:=List.getLast?_eq_some_iff.1 i
 have b:t<af:=pF n t (by rw [d];simp)
 refine ⟨a,t,d,c,b, ?_,by unfold ae;rw [d];simp⟩
 have hv:=nx n
 rw [d,pZ] at hv
 have f:val a<af ^ a.length:=kU (λ w hw=>pF n w (by rw [d];exact List.mem_append_left _ hw))
 have hb:=(wA b (kX c)).1
 have e:val [t]=t:=by simp [val]
 rw [e] at hv
 have g:af=2 ^ 32:=rfl
 rw [gC,AP, <- g, <- hv]
 calc val a+af ^ a.length*t<af ^ a.length+af ^ a.length*t:=Nat.add_lt_add_right f _
   _=af ^ a.length*(t+1):=by rw [dC,mS,Nat.add_comm]
   _<=af ^ a.length*2 ^ dL t:=fw _ hb
def Rg (n:Nat):digits (2 ^ n)=bG (n/32) 0++[2 ^ (n%32)]:=by
 have b:2 ^ (n%32)<af:=by
   have:n%32<32:=bC _ (by decide)
   exact vH (by decide) this
 have hv:val (bG (n/32) 0++[2 ^ (n%32)])=2 ^ n:=by
   rw [pZ,Om (by intro w hw;exact (Za.1 hw).2),nD]
   have e:val [2 ^ (n%32)]=2 ^ (n%32):=by simp [val]
   have a:af=2 ^ 32:=rfl
   rw [e,c4,a, <- AP, <- gC,hL]
 rw [<- hv]
 exact BG (by
   intro w hw
   rcases List.mem_append.1 hw with h | h
   rw [(Za.1 h).2];exact ed
   rw [bJ.1 h];exact b) (.inr ⟨2 ^ (n%32),by simp,Nat.ne_of_gt (pe _)⟩)
def Ae {σ : aL} {q:Id} {o:List Nat} {i x:Nat} (h : σ q=some ⟨us o,1,false⟩) (a:o[i]? = some x) (p:Id):bS σ p (.load false 1 (.ref q i 0))=some { val := .int .u32 (x:Int),rd:=[q] }:=TH h a
def IB {σ : aL} {q:Id} {o:List Nat} {i x:Nat} (h : σ q=some ⟨us o,1,false⟩) (a:i<o.length) (p:Id):bS σ p (.store 1 (.ref q i 0) (.int .u32 (x:Int)))=some { val := .aS [],rd:=[q],up:=[(q,some ⟨us (o.set i x),1,false⟩)] }:=NK h a
def lA {ρ : Id->Id} {ws:List Nat}:bx ρ (us ws)=us ws:=F1 ws ρ
abbrev anF:cB:=(.seq (eR [bE 3 0,oY 4 3,fT 5 .gtr 4 0,bE 6 5,Gh 7 0 6 true,Gh 8 0 6 true,Sd 9 8 6 true,⟨some 10,.bin .sub .int (.t 9) (.c (.int .i64 1)),some (6,true)⟩,⟨some 11,.u9 1 (.t 7) (.t 10),some (6,true)⟩,lj 12 1 11 6 true,⟨some 13,.bin .eql .int (.t 12) (.c (.int .u32 0)),some (6,true)⟩,CV 14 6 13] (.cond (.t 14) .skip (.exit 0))) (.block 1 (m2 [bE 15 0,bE 16 0,oY 17 16,fT 18 .sub 17 1,⟨some 19,.slice 1 (.t 15) none (some (.t 18)) none,none⟩,bE 0 19])))
def pW (q:Id) (k:Nat):List aa := .ai q 1 0 k false::bG 20 .top
def Ai {ρ : Id->Id} {q:Id} {k:Nat}:bx ρ (pW q k)=pW (ρ q) k:=by
 unfold pW
 simp only [o8,xy,Nh]
abbrev cn (q:Id) (ws:List Nat):Id × aN:=(q,⟨us ws,1,false⟩)
def anG (ws:List Nat) (o:fl ws) (a:Nat) (v:a<=ws.length) (B:ws.length<=67108864000000) :
   bu P G [0] (.loop anF) (λ e s=>e = .exit 0/\bz G [0] s ⟨pW [1] (ae (val (ws.take a))),kd (cf [cn [1] ws]),67108864000000000⟩) ⟨pW [1] a,bk [cn [1] ws],1000⟩:=by
 refine bu.qz (α := Nat × Nat) (λ x=>⟨pW [1] x.1,bk [cn [1] ws],x.2⟩) (λ x=>x.1<=a/\val (ws.take x.1)=val (ws.take a)/\x.2+30*x.1<=1000+30*a) (λ x=>x.1) (a,1000) (x9 _ _ _) ⟨a4 _,rfl,a4 _⟩ ?_
 rintro ⟨k,n⟩ ⟨z,hv,u⟩
 simp only [] at z hv u ⊢
 by_cases A:k=0
 subst A
 have m:decide ((((0:Nat):Int))>0)=false:=by decide
 have e:ae (val (ws.take a))=0:=by rw [<- hv];simp [val,ae,iO]
 rw [e]
 refine iG (π := [0]) (n:=n) (λ _=>[1]) [hb 5 m] (pW [1] 0) [cn [1] ws] (.exit 0) (pW [1] 0) [cn [1] ws] 30 (by kernel_rfl)
   Ai (by simp only [fK,fL,fM,lA];rfl) Ai (by simp only [fK,fL,fM,lA];rfl) (by simp) λ s hw=>⟨rfl, ?_⟩
 exact bz.toT (by simp) (hw.trans (ug (gF.same _) (λ j => .inr rfl) (by omega)))
 obtain ⟨j,rfl⟩:∃ j,k=j+1:=⟨k-1,by omega⟩
 have ⟨w,g⟩:∃ w,ws[j]? = some w:=⟨ws[j],by rw [du]⟩
 have m:decide ((((j+1:Nat)):Int)>0)=true:=eL (by omega)
 have c:cF.wrap (((j+1:Nat):Int)-1)=(j:Int):=by rw [cM];omega
 have d:fY 1 (.ai [1] 1 0 (j+1) false) (.int .i64 (j:Int))=some (.ref [1] j 0):=va (by omega)
 have h:∀ (σ : aL) (p:Id),(∀ y∈[cn [1] ws], σ y.1=some y.2)->bS σ p (.load false 1 (.ref [1] j 0))=some { val := .int .u32 (w:Int),rd:=[[1]] } := λ σ p t=>Ae (t (cn [1] ws) (by simp)) g p
 have f:ws.take (j+1)=ws.take j++[w]:=by
   have:=List.take_add_one (l:=ws) (i:=j)
   rw [g] at this
   simpa using this
 by_cases r:w=0
 subst r
 have b:decide ((((0:Nat):Int))=0)=true:=by decide
 have q:∀ (σ : aL) (p:Id),(∀ y∈([]:List (Id × aN)), σ y.1=some y.2)->bS σ p (.slice 1 (.ai [1] 1 0 (j+1) false) none (some (.int .i64 (j:Int))) none)=some { val := .ai [1] 1 0 j false } := λ σ p _=>by
   show tW σ 1 (.ai [1] 1 0 (j+1) false) none (some (.int .i64 (j:Int))) none (iq 1 (.ai [1] 1 0 (j+1) false) none (some (.int .i64 (j:Int))) none)=_
   rw [Wp (by omega)];rfl
 refine iG (π := [0]) (n:=n) (λ _=>[1]) [hb 5 m,hw 10 c,ho 11 d, .st 12 _ _ _ h,hb 13 b,hw 18 c, .st 19 _ _ _ q] (pW [1] (j+1)) [cn [1] ws] .normal (pW [1] j) [cn [1] ws] 30 (by kernel_rfl)
   Ai (by simp only [fK,fL,fM,lA];rfl) Ai (by simp only [fK,fL,fM,lA];rfl) (by simp) λ s hw => ?_
 exact ⟨(j,n+30),⟨by simp only [];omega,by simp only [];rw [<- hv,f,I5],by simp only [];omega⟩,by simp only [];omega,hw⟩
 have b:decide ((w:Int)=0)=false:=dw (by omega)
 have e:ae (val (ws.take a))=j+1:=by
   rw [<- hv]
   unfold ae
   rw [BG (tZ o (j+1)) (.inr ⟨w,by rw [f];simp,r⟩),cZ]
   omega
 rw [e]
 refine iG (π := [0]) (n:=n) (λ _=>[1]) [hb 5 m,hw 10 c,ho 11 d, .st 12 _ _ _ h,hb 13 b] (pW [1] (j+1)) [cn [1] ws] (.exit 0) (pW [1] (j+1)) [cn [1] ws] 30 (by kernel_rfl)
   Ai (by simp only [fK,fL,fM,lA];rfl) Ai (by simp only [fK,fL,fM,lA];rfl) (by simp) λ s hw=>⟨rfl, ?_⟩
 exact bz.toT (by simp) (hw.trans (ug (gF.same _) (λ j => .inr rfl) (by omega)))
def Xu {f:FuncId} (h:gX P f DV) (ws:List Nat) (hw:fl ws) (a:Nat) (b:a<=ws.length) (c:ws.length<=67108864000000) (p q:Id) :
   cu P G f [.ai q 1 0 a false] p [cn q ws] { val := .ai q 1 0 (ae (val (ws.take a))) false,rd:=[q] } :=
 cu.Oa (p:=p) h (λ _=>q) [.iA [0] _ _ _ _ _ _ _ _ (anG ws hw a b c)] [.ai [1] 1 0 a false] [cn [1] ws] (.ai [1] 1 0 (ae (val (ws.take a))) false) (by kernel_rfl) rfl (by simp only [fK,fL,fM,lA];rfl) rfl (by simp)
abbrev Xj:cB:=(.seq (eR [bE 21 8,bE 22 1,oY 23 22,jk 24 .lss 21 23] (.cond (.t 24) .skip (.exit 2))) (.seq (.block 3 (.seq (.iB (some []) [bE 27 7,bE 28 5,bE 29 6,bE 30 8,jk 31 .add 29 30,kq 32 1 28 31,kR 33 1 32,rX 34 .u64 33,jk 35 .add 27 34,bE 36 0,bE 37 6,kq 38 1 36 37,kR 39 1 38,rX 40 .u64 39,bE 41 1,bE 42 8,kq 43 1 41 42,kR 44 1 43,rX 45 .u64 44,jk 46 .mul 40 45,jk 47 .add 35 46,bE 7 47]) (eR [bE 48 5,bE 49 6,bE 50 8,jk 51 .add 49 50,bE 52 7,rX 53 .u32 52,kq 54 1 48 51,oS 1 54 53] (m2 [bE 55 7,⟨some 56,.bin .shr .int (.t 55) (.c (.int .u64 32)),none⟩,bE 7 56])))) (m2 [bE 25 8,fT 26 .add 25 1,bE 8 26])))
abbrev anx:cB:=(.seq (eR [bE 15 6,bE 16 0,oY 17 16,jk 18 .lss 15 17] (.cond (.t 18) .skip (.exit 0))) (.seq (.block 1 (eR [⟨some 7,.mv (.c (.int .u64 0)),none⟩] (.seq (eR [xf 8 0] (.block 2 (.loop Xj))) (m2 [bE 57 5,bE 58 6,bE 59 1,oY 60 59,jk 61 .add 58 60,bE 62 7,rX 63 .u32 62,kq 64 1 57 61,oS 1 64 63])))) (m2 [bE 19 6,fT 20 .add 19 1,bE 6 20])))
def lV (q1 a:Id) (k L:Nat) (i:Nat) (c j:aa):List aa:=[.ai q1 1 0 k false, .ai q1 1 0 k false, .top, .top, .top, .ai a 1 0 L false, .int .i64 (i:Int),c,j]++bG 58 .top
def vy {ρ : Id->Id} {q1 a:Id} {k L i:Nat} {c j:aa}:bx ρ (lV q1 a k L i c j)=lV (ρ q1) (ρ a) k L i (c.aX ρ) (j.aX ρ):=by
 unfold lV
 simp only [r9,o8,pQ,xy,Nh,Df]
 rfl
def IK (q1 a:Id):Nat->Id
 | 1=>q1
 | _=>a
def ajY {L X m:Nat} (a:X<af ^ m):val ((pad L X).drop m)=0:=by
 by_cases b:L<=m
 rw [List.drop_eq_nil_of_le (by rw [n7];exact b)];rfl
 have h1:val (pad L X)=X:=sw (fv a (dv ed (by omega)))
 have c:=pZ ((pad L X).take m) ((pad L X).drop m)
 rw [ym,h1,cZ,n7,jv (by omega)] at c
 rcases x7 (val ((pad L X).drop m)) with h | h
 exact h
 exfalso
 have:=fw (af ^ m) h
 simp only [JB,c4,mS] at this
 omega
def aok {o:List Nat} {m:Nat} (hw:fl o) (a:m<=o.length) (h:val (o.drop m)=0):val o<af ^ m:=by
 have c:=pZ (o.take m) (o.drop m)
 rw [ym,h,iY,iL] at c
 have b:=kU (tZ hw m)
 rw [cZ,jv a] at b
 omega
def anw (ws:List Nat) (F:fl ws) (k:Nat) (hk:k<=ws.length) (aq0:k<=671088640000) (i a X S:Nat) (ha:ws[i]? = some a) (U:i<k) (wP:X<af ^ (i+k)) (hS:S=X+af ^ i*(a*val (ws.take k))) :
   bu P G [0] (.loop Xj) (λ e s=>e = .exit 2/\bz G [0] s ⟨lV [1] [2] k (k+k) i (.int .u64 ((S/af ^ (i+k):Nat):Int)) .top,kd (cf [cn [1] ws,cn [2] (pad (k+k) (S%af ^ (i+k)))]),67108864000000⟩)
     ⟨lV [1] [2] k (k+k) i (.int .u64 0) (.int .i64 0),bk [cn [1] ws,cn [2] (pad (k+k) X)],1000⟩:=by
 have w:X<af ^ (k+k):=fv wP (dv ed (by omega))
 refine bu.qz (α := Nat × List Nat × Nat) (λ x=>⟨lV [1] [2] k (k+k) i (.int .u64 (x.2.2:Int)) (.int .i64 (x.1:Int)),bk [cn [1] ws,cn [2] x.2.1],1000+60*x.1⟩)
   (λ x=>x.1<=k/\x.2.1.length=k+k/\fl x.2.1/\x.2.2<af/\x.2.1.drop (i+k)=(pad (k+k) X).drop (i+k)/\val x.2.1+af ^ (i+x.1)*x.2.2=X+af ^ i*(a*val (ws.take x.1))) (λ x=>k-x.1) (0,pad (k+k) X,0) (x9 _ _ _) ⟨et _,n7 _ _,zM _ _,ed,rfl,by simp [val,sw w]⟩ ?_
 rintro ⟨j,g,c⟩ ⟨hj,h,f,hc,R,v⟩
 simp only [] at hj h f hc R v ⊢
 have u:=F a (qW ha)
 by_cases Q:j<k
 have ⟨b,r⟩:∃ b,ws[j]? = some b:=⟨_,du (by omega)⟩
 have q:=F b (qW r)
 have ⟨z,B⟩:∃ z,g[i+j]? = some z:=⟨_,du (by rw [h];omega)⟩
 have l:=f z (qW B)
 have A:decide ((j:Int)<(k:Int))=true:=eL (by omega)
 have I:=Bs i j (by omega)
 have H:fY 1 (.ai [2] 1 0 (k+k) false) (.int .i64 ((i+j:Nat):Int))=some (.ref [2] (i+j) 0):=va (by omega)
 have K:fY 1 (.ai [1] 1 0 k false) (.int .i64 (i:Int))=some (.ref [1] i 0):=va U
 have N:fY 1 (.ai [1] 1 0 k false) (.int .i64 (j:Int))=some (.ref [1] j 0):=va Q
 have L:∀ (σ : aL) (p:Id),(∀ y∈[cn [2] g], σ y.1=some y.2)->bS σ p (.load false 1 (.ref [2] (i+j) 0))=some { val := .int .u32 (z:Int),rd:=[[2]] } := λ σ p t=>Ae (t (cn [2] g) (by simp)) B p
 have T:∀ (σ : aL) (p:Id),(∀ y∈[cn [1] ws], σ y.1=some y.2)->bS σ p (.load false 1 (.ref [1] i 0))=some { val := .int .u32 (a:Int),rd:=[[1]] } := λ σ p t=>Ae (t (cn [1] ws) (by simp)) ha p
 have O:∀ (σ : aL) (p:Id),(∀ y∈[cn [1] ws], σ y.1=some y.2)->bS σ p (.load false 1 (.ref [1] j 0))=some { val := .int .u32 (b:Int),rd:=[[1]] } := λ σ p t=>Ae (t (cn [1] ws) (by simp)) r p
 have f1:=fp a u
 have f2:=fp b q
 have f3:=fp z l
 have f4:=CM a b u q
 have hle:=Hm u q
 have f5:=uJ c z (by unfold af at l hc;omega)
 have f6:=uJ (c+z) (a*b) (by unfold af at l hc;omega)
 have Y:(c+z+a*b)/af<af:=by unfold af at l hc ⊢;omega
 have f8:gD.wrap ((c+z+a*b:Nat):Int)=(((c+z+a*b)%af:Nat):Int):=j8 _
 have M:eH .shr .int (.int .u64 ((c+z+a*b:Nat):Int)) (.int .u64 32)=some (.int .u64 (((c+z+a*b)/af:Nat):Int)):=np _
 have V:∀ (σ : aL) (p:Id),(∀ y∈[cn [2] g], σ y.1=some y.2)->bS σ p (.store 1 (.ref [2] (i+j) 0) (.int .u32 (((c+z+a*b)%af:Nat):Int)))=some { val := .aS [],rd:=[[2]],up:=[([2],some ⟨us (g.set (i+j) ((c+z+a*b)%af)),1,false⟩)] } := λ σ p t=>IB (t (cn [2] g) (by simp)) (by rw [h];omega) p
 have Z:=DZ j (by omega)
 have J:=akm (o:=pad (k+k) X) (x:=a) (y:=b) (s:=c+z+a*b) B (by rw [sw w];exact v) (by omega)
 rw [sw w] at J
 refine iG (π := [0]) (n:=1000+60*j) (IK [1] [2]) [hb 24 A,hw 31 I,ho 32 H, .st 33 _ _ _ L,hw 34 f3 .u64,hw 35 f5 .u64,ho 38 K, .st 39 _ _ _ T,hw 40 f1 .u64,ho 43 N, .st 44 _ _ _ O,hw 45 f2 .u64,hw 46 f4 .u64,hw 47 f6 .u64,hw 51 I,hw 53 f8 .u32,ho 54 H, .st 100054 _ _ _ V,ho 56 M,hw 26 Z]
   (lV [1] [2] k (k+k) i (.int .u64 (c:Int)) (.int .i64 (j:Int))) [cn [1] ws,cn [2] g] .normal (lV [1] [2] k (k+k) i (.int .u64 (((c+z+a*b)/af:Nat):Int)) (.int .i64 ((j+1:Nat):Int))) [cn [1] ws,cn [2] (g.set (i+j) ((c+z+a*b)%af))] 60 (by kernel_rfl)
   vy (by simp only [fK,fL,fM,lA];rfl) vy (by simp only [fK,fL,fM,lA];rfl) (by simp) λ s hw => ?_
 refine ⟨(j+1,g.set (i+j) ((c+z+a*b)%af),(c+z+a*b)/af),⟨by simp only [];omega,by simp [h],OJ f (bC _ ed),Y, ?_, ?_⟩,by simp only [];omega, ?_⟩
 simp only [];rw [List.drop_set_of_lt (by omega)];exact R
 show _=X+af ^ i*(a*val (ws.take (j+1)))
 rw [Ol r];exact J
 have e:1000+60*j+60=1000+60*(j+1):=by omega
 simp only [];rw [<- e];exact hw
 have afc:j=k:=by omega
 subst afc
 have A:decide ((j:Int)<(j:Int))=false:=dw (by omega)
 have C:=aok (m:=i+j) f (by omega) (by rw [R];exact ajY wP)
 have E:=(Y7 (a:=S) (d:=c) (c:=val g) (b:=af ^ (i+j)) (AQ ed)).2 ⟨by rw [hS, <- v],C⟩
 have D:=xm f
 rw [h, <- E.2] at D
 rw [D,E.1]
 refine iG (π := [0]) (n:=1000+60*j) (IK [1] [2]) [hb 24 A]
   (lV [1] [2] j (j+j) i (.int .u64 (c:Int)) (.int .i64 (j:Int))) [cn [1] ws,cn [2] g] (.exit 2) (lV [1] [2] j (j+j) i (.int .u64 (c:Int)) .top) [cn [1] ws,cn [2] g] 60 (by kernel_rfl)
   vy (by simp only [fK,fL,fM,lA];rfl) vy (by simp only [fK,fL,fM,lA];rfl) (by simp) λ s hw=>⟨rfl, ?_⟩
 exact bz.toT (by simp) (hw.trans (ug (gF.same _) (λ j => .inr rfl) (by omega)))
def anz (ws:List Nat) (b:fl ws) (k:Nat) (F:k<=ws.length) (t:k<=671088640000) :
   bu P G [0] (.loop anx) (λ e s=>e = .exit 0/\bz G [0] s ⟨lV [1] [6,0] k (k+k) k .top .top,kd (cf [cn [1] ws,cn [6,0] (pad (k+k) (val (ws.take k)*val (ws.take k)))]),4503599627370496000000000000⟩)
     ⟨lV [1] [6,0] k (k+k) 0 .top .top,bk [cn [1] ws,cn [6,0] (pad (k+k) 0)],1000⟩:=by
 have h:val (ws.take k)<af ^ k:=by
   have:=kU (tZ b k)
   rwa [cZ,jv F] at this
 refine bu.qz (α := Nat) (λ i=>⟨lV [1] [6,0] k (k+k) i .top .top,bk [cn [1] ws,cn [6,0] (pad (k+k) (val (ws.take i)*val (ws.take k)))],1000+67108864000100*i⟩)
   (λ i=>i<=k) (λ i=>k-i) 0 (by simp only [List.take_zero,val,Nat.zero_mul];exact x9 _ _ _) (et _) ?_
 intro i M
 by_cases v:i<k
 have ⟨a,E⟩:∃ a,ws[i]? = some a:=⟨_,du (by omega)⟩
 have C:val (ws.take i)<af ^ i:=by
   have:=kU (tZ b i)
   rwa [cZ,jv (by omega)] at this
 have I:val (ws.take i)*val (ws.take k)<af ^ (i+k):=by rw [gC];exact nE C h
 have L:val (ws.take (i+1))*val (ws.take k)=val (ws.take i)*val (ws.take k)+af ^ i*(a*val (ws.take k)):=by rw [Ol E,fg,eZ]
 have J:=anw (P:=P) (G:=G) ws b k F t i a _ _ E v I L
 have u:val (ws.take (i+1))*val (ws.take k)<af ^ (i+k+1):=by
   have h1:val (ws.take (i+1))<af ^ (i+1):=by
     have:=kU (tZ b (i+1))
     rwa [cZ,jv (by omega)] at this
   have:=nE h1 h
   rw [<- gC] at this
   rwa [show i+k+1=i+1+k by omega]
 generalize z:val (ws.take (i+1))*val (ws.take k)=S at *
 generalize val (ws.take i)*val (ws.take k)=X at *
 have d:S/af ^ (i+k)<af:=by
   rw [l1 (AQ ed), <- Nat.pow_succ'];exact u
 have l:S%af ^ (i+k)<af ^ (i+k):=bC _ (AQ ed)
 have g:S%af ^ (i+k)<af ^ (k+k):=fv l (dv ed (by omega))
 have ⟨y,D⟩:∃ y,(pad (k+k) (S%af ^ (i+k)))[i+k]? = some y:=⟨_,du (by rw [n7];omega)⟩
 have o:=aqv (by rw [sw g];exact l) D
 subst o
 have f:(pad (k+k) (S%af ^ (i+k))).set (i+k) (S/af ^ (i+k))=pad (k+k) S:=by
   have h1:=I4 (x:=S/af ^ (i+k)) D
   rw [sw g,iY,iL,Nat.mod_add_div] at h1
   have H:=xm (OJ (zM (k+k) (S%af ^ (i+k))) (i:=i+k) d)
   rw [h1,ju,n7] at H
   exact H.symm
 have c:decide ((i:Int)<(k:Int))=true:=eL (by omega)
 have B:=Bs i k (by omega)
 have q:gD.wrap ((S/af ^ (i+k):Nat):Int)=((S/af ^ (i+k):Nat):Int):=by rw [j8,dG d]
 have m:fY 1 (.ai [2] 1 0 (k+k) false) (.int .i64 ((i+k:Nat):Int))=some (.ref [2] (i+k) 0):=va (by omega)
 have r:∀ (σ : aL) (p:Id),(∀ y∈[cn [2] (pad (k+k) (S%af ^ (i+k)))], σ y.1=some y.2)->bS σ p (.store 1 (.ref [2] (i+k) 0) (.int .u32 ((S/af ^ (i+k):Nat):Int)))=some { val := .aS [],rd:=[[2]],up:=[([2],some ⟨us (pad (k+k) S),1,false⟩)] } := λ σ p K=>by
   rw [<- f];exact IB (K (cn [2] (pad (k+k) (S%af ^ (i+k)))) (by simp)) (by rw [n7];omega) p
 have w:=DZ i (by omega)
 refine iG (π := [0]) (n:=1000+67108864000100*i) (IK [1] [6,0]) [hb 18 c, .iA [0] _ _ _ _ _ _ _ _ J,hw 61 B,hw 63 q .u32,ho 64 m, .st 100064 _ _ _ r,hw 20 w]
   (lV [1] [2] k (k+k) i .top .top) [cn [1] ws,cn [2] (pad (k+k) X)] .normal (lV [1] [2] k (k+k) (i+1) .top .top) [cn [1] ws,cn [2] (pad (k+k) S)] 67108864000100 (by kernel_rfl)
   vy (by simp only [fK,fL,fM,lA];rfl) vy (by simp only [fK,fL,fM,lA];rfl) (by simp) λ s hw => ?_
 refine ⟨i+1,by omega,by simp only [];omega, ?_⟩
 have e:1000+67108864000100*i+67108864000100=1000+67108864000100*(i+1):=by omega
 simp only [];rw [z, <- e];exact hw
 have A:i=k:=by omega
 subst A
 have c:decide ((i:Int)<(i:Int))=false:=dw (by omega)
 refine iG (π := [0]) (n:=1000+67108864000100*i) (IK [1] [6,0]) [hb 18 c]
   (lV [1] [2] i (i+i) i .top .top) [cn [1] ws,cn [2] (pad (i+i) (val (ws.take i)*val (ws.take i)))] (.exit 0) (lV [1] [2] i (i+i) i .top .top) [cn [1] ws,cn [2] (pad (i+i) (val (ws.take i)*val (ws.take i)))] 60 (by kernel_rfl)
   vy (by simp only [fK,fL,fM,lA];rfl) vy (by simp only [fK,fL,fM,lA];rfl) (by simp) λ s hw=>⟨rfl, ?_⟩
 exact bz.toT (by simp) (hw.trans (ug (gF.same _) (λ j => .inr rfl) (by omega)))
def anv {f ft:FuncId} (h:gX P f (Jd ft)) (m:gX P ft DV) (ws:List Nat) (b:fl ws) (k:Nat) (l:k<=ws.length) (c:k<=671088640000) (p q:Id) :
   cu P G f [.ai q 1 0 k false, .ai q 1 0 k false] p [cn q ws] { val := .ai (6::p) 1 0 (ae (val (ws.take k)*val (ws.take k))) false,rd:=[q],up:=[(6::p,some ⟨us (pad (k+k) (val (ws.take k)*val (ws.take k))),1,false⟩)] }:=by
 have j:=Bs k k (by omega)
 have i:∀ (σ : aL) (p:Id),(∀ y∈([]:List (Id × aN)), σ y.1=some y.2)->bS σ p (.oV 1 4 (.int .u32 0) (.int .i64 ((k+k:Nat):Int)) (.int .i64 ((k+k:Nat):Int)))=some { val := .ai p 1 0 (k+k) false,up:=[(p,some ⟨us (pad (k+k) 0),1,false⟩)] } := λ σ p _=>by
   have e:pad (k+k) 0=bG (k+k) 0:=by
     have:=xm (Yb (k+k))
     rwa [nD,Om (λ w hw=>jA hw)] at this
   rw [e];exact Hl (by omega)
 have o:=anz (P:=P) (G:=G) ws b k l c
 have a:val (ws.take k)<af ^ k:=by
   have:=kU (tZ b k)
   rwa [cZ,jv l] at this
 have d:val (pad (k+k) (val (ws.take k)*val (ws.take k)))=val (ws.take k)*val (ws.take k):=sw (by rw [gC];exact nE a a)
 generalize val (ws.take k)*val (ws.take k)=S at *
 have g:∀ p:Id,cu P G ft [.ai [6,0] 1 0 (k+k) false] p [cn [6,0] (pad (k+k) S)] { val := .ai [6,0] 1 0 (ae S) false,rd:=[[6,0]] } := λ p=>by
   have:=Xu (G:=G) m (pad (k+k) S) (zM _ _) (k+k) (by rw [n7];omega) (by rw [n7];omega) p [6,0]
   rwa [hM (by rw [n7];omega),d] at this
 exact cu.j7 (up:=[cn (6::p) (pad (k+k) S)]) (p:=p) h (λ _=>q) [hw 13 j, .st 14 _ _ _ i, .iA [0] _ _ _ _ _ _ _ _ o, .rel ft _ [cn [6,0] (pad (k+k) S)] _ (λ p _=>g p) (by intro p x n;rcases bJ.1 n with rfl;simp)]
   [.ai [1] 1 0 k false, .ai [1] 1 0 k false] [cn [1] ws] (.ai [6,0] 1 0 (ae S) false) [cn [6,0] (pad (k+k) S)] (by kernel_rfl) rfl (by simp only [fK,fL,fM,lA];rfl) rfl (by simp only [fK,fL,fM,lA];rfl) (by simp) (by simp)
def abj {ws:List Nat} (a:fl ws) {q m w:Nat} (hw:ws[q]? = some w) (j:m<32) (hd:2 ^ (32*q+m+1) ∣ val ws):2 ^ (m+1) ∣ w:=by
 have c:q<ws.length:=(eu.1 hw).1
 have f:af ^ q=2 ^ (32*q):=by rw [show af=2 ^ 32 from rfl, <- AP]
 have e:val ws=val (ws.take q)+af ^ q*(w+af*val (ws.drop (q+1))):=by
   have h1:=pZ (ws.take q) (ws.drop q)
   rw [ym,cZ,jv (by omega)] at h1
   rw [h1,List.drop_eq_getElem_cons c]
   have:ws[q]=w:=by have:=du c;rw [hw] at this;exact (Option.some.inj this).symm
   rw [this];rfl
 have b:val (ws.take q)<af ^ q:=by
   have:=kU (tZ a q)
   rwa [cZ,jv (by omega)] at this
 have i:2 ^ (32*q+m+1)=af ^ q*2 ^ (m+1):=by rw [f, <- gC,Nat.add_assoc]
 rw [i,e] at hd
 have h:val (ws.take q)=0:=by
   have h1:af ^ q ∣ val (ws.take q)+af ^ q*(w+af*val (ws.drop (q+1))):=Eh (O7 _ _) hd
   exact Nat.eq_zero_of_dvd_of_lt ((O8 (O7 _ _)).1 h1) b
 rw [h,c4] at hd
 have g:=Nat.dvd_of_mul_dvd_mul_left (AQ ed) hd
 have d:2 ^ (m+1) ∣ af*val (ws.drop (q+1)):=Eh (by rw [show af=2 ^ 32 from rfl];exact O9 2 (by omega)) (O7 _ _)
 exact (O8 d).1 g
def Ks {w m:Nat} (g:m<32) (hw:w<af) (hd:2 ^ (m+1) ∣ w):w+2 ^ m<af/\w ||| 2 ^ m=w+2 ^ m:=by
 obtain ⟨a,rfl⟩:=hd
 have c:2 ^ (m+1)=2*2 ^ m:=by rw [ej,dF]
 have d:0<2 ^ m:=AQ (by decide)
 have f:af=2 ^ (m+1)*2 ^ (31-m):=by rw [<- gC,show m+1+(31-m)=32 by omega];rfl
 refine ⟨?_,(AK (i:=m+1) (b:=2 ^ m) (by rw [c];omega) a).symm⟩
 rw [f] at hw ⊢
 have e:=Nat.lt_of_mul_lt_mul_left hw
 have:=fw (2 ^ (m+1)) e
 rw [JB,dC,mS] at this
 omega
def amG {m:Nat} (a:m<32):eH .shl .int (.int .u32 1) (.int .i64 (m:Int))=some (.int .u32 ((2 ^ m:Nat):Int)):=by
 rw [Kr (by omega)]
 have d:min (m:Int).toNat gD.bits=m:=by rw [ue];exact jv (show m<=32 by omega)
 have b:(1:Int)*2 ^ m=((2 ^ m:Nat):Int):=by rw [Int.one_mul];exact (Ef 2 m).symm
 have c:2 ^ m<af:=vH (by decide) a
 rw [d,b,j8,dG c]
def ajt {w m:Nat} (a:m<32) (hw:w<af) (hd:2 ^ (m+1) ∣ w):eH .or .int (.int .u32 (w:Int)) (.int .u32 ((2 ^ m:Nat):Int))=some (.int .u32 ((w+2 ^ m:Nat):Int)):=by
 rw [HF w (2 ^ m) hw (vH (by decide) a),(Ks a hw hd).2]
def abh {k:IntKind} {a b:Int}:eH .andNot .int (.int k a) (.int k b)=some (.int k (k.wrap (jb k.bits a &&& ~~~jb k.bits b).toNat)):=by
 simp only [eH];rw [show lW .andNot .int (.int k a) (.int k b)=some (.int k (k.wrap (jb k.bits a &&& ~~~jb k.bits b).toNat)) from by simp [lW,p4,s6]]
def aiV {w m:Nat} (c:m<32) (hw:w<af) (hd:2 ^ (m+1) ∣ w):eH .andNot .int (.int .u32 ((w+2 ^ m:Nat):Int)) (.int .u32 ((2 ^ m:Nat):Int))=some (.int .u32 (w:Int)):=by
 rw [abh, <- (Ks c hw hd).2]
 have b:w.testBit m=false:=by
   obtain ⟨a,rfl⟩:=hd
   rw [Nat.testBit_two_pow_mul];simp;omega
 have e:(jb 32 ((w ||| 2 ^ m:Nat):Int) &&& ~~~jb 32 ((2 ^ m:Nat):Int))=BitVec.ofNat 32 w:=by
   rw [x5,x5]
   refine BitVec.eq_of_getLsbD_eq λ j d => ?_
   simp only [BitVec.getLsbD_and,BitVec.getLsbD_not,BitVec.getLsbD_ofNat,d,decide_true,Bool.true_and,Nat.testBit_or,Nat.testBit_two_pow]
   by_cases h:m=j
   subst h;simp [b]
   simp [h]
 show some (aa.int .u32 (gD.wrap ((jb 32 ((w ||| 2 ^ m:Nat):Int) &&& ~~~jb 32 ((2 ^ m:Nat):Int)).toNat:Int)))=_
 rw [e,BitVec.toNat_ofNat,j8]
 have:w<2 ^ 32:=hw
 rw [dG this,dG hw]
def abk {N R i:Nat} (h1:2 ^ (i+1) ∣ R) (a:N<(R+2 ^ (i+1))*(R+2 ^ (i+1))) (b:(R+2 ^ i)*(R+2 ^ i)<=N):2 ^ i ∣ R+2 ^ i/\N<(R+2 ^ i+2 ^ i)*(R+2 ^ i+2 ^ i):=by
 have e:R+2 ^ i+2 ^ i=R+2 ^ (i+1):=by rw [ej];omega
 exact ⟨(O8 (Nat.dvd_refl _)).2 (Eh (O9 2 (by omega)) h1),by rw [e];exact a⟩
def Xe {o:List Nat} (h:fl o):o.take (ae (val o))=digits (val o):=by
 have a:ae (val o)<=o.length:=iV (kU h)
 have h1:=pZ (o.take (ae (val o))) (o.drop (ae (val o)))
 rw [ym,cZ,jv a] at h1
 have e:val o<af ^ ae (val o):=by
   have:=kU (pF (val o))
   rwa [nx] at this
 have d:val (o.drop (ae (val o)))=0:=by
   rcases x7 (val (o.drop (ae (val o)))) with h | h
   exact h
   exfalso
   have:=fw (af ^ ae (val o)) h
   simp only [JB,c4,mS] at this
   omega
 rw [d,iY,iL] at h1
 have b:=xm (tZ h (ae (val o)))
 rw [cZ,jv a, <- h1] at b
 have c:=xm (pF (val o))
 rw [nx] at c
 exact b.symm.trans c
def aoy {σ : aL} {q:Id} {o:List Nat} (h:fl o) (b : σ q=some ⟨us o,1,false⟩):View σ (.ai q 1 0 (ae (val o)) false) (W (val o)):=by
 have a:ae (val o)<=o.length:=iV (kU h)
 have e:W (val o) = .sl 1 (us (o.take (ae (val o)))):=by rw [Xe h];rfl
 rw [e]
 exact View.ai (au:=⟨us o,1,false⟩) b rfl (by simpa [il] using a) (by rw [iZ,Oe];exact c9.pure (DF _)) (by rw [il,cZ];omega) (DG _)
abbrev amk (ft pG nT:Nat):cB:=(.seq (eR [bE 22 6,fT 23 .geq 22 0] (.cond (.t 23) .skip (.exit 0))) (.seq (.block 1 (.seq (.iB (some []) [bE 26 5,bE 27 6,fT 28 .quo 27 32,bE 29 5,bE 30 6,fT 31 .quo 30 32,kq 32 1 29 31,kR 33 1 32,bE 34 6,fT 35 .rem 34 32,⟨some 36,.bin .shl .int (.c (.int .u32 1)) (.t 35),none⟩,jk 37 .or 33 36,kq 38 1 26 28,oS 1 38 37]) (.seq (.iB (some [(1,6),(3,6),(4,6)]) [bE 39 5,rW 40 ft 39,bE 41 5,rW 42 ft 41,xe 43 pG 40 42,vm 44 1 1,kR 45 1 44,xe 46 nT 43 45,fT 47 .gtr 46 0]) (.cond (.t 47) (.iB (some []) [bE 48 5,bE 49 6,fT 50 .quo 49 32,bE 51 5,bE 52 6,fT 53 .quo 52 32,kq 54 1 51 53,kR 55 1 54,bE 56 6,fT 57 .rem 56 32,⟨some 58,.bin .shl .int (.c (.int .u32 1)) (.t 57),none⟩,jk 59 .andNot 55 58,kq 60 1 48 50,oS 1 60 59]) .skip)))) (m2 [bE 24 6,fT 25 .sub 24 1,bE 6 25])))
def pS (b c a:Id) (L:Nat) (i:Int):List aa:=[.top, .ref b 0 0, .ref c 0 0, .int .i64 0, .top, .ai a 1 0 L false, .int .i64 i]++bG 56 .top
def z4 {ρ : Id->Id} {b c a:Id} {L:Nat} {i:Int}:bx ρ (pS b c a L i)=pS (ρ b) (ρ c) (ρ a) L i:=by
 unfold pS
 simp only [r9,o8,pQ,xy,H9,Nh,Df]
 rfl
def Np (q:Nat):Nat->Id
 | 1=>[0]
 | 2=>[1]
 | _=>[q]
def mB (b c a:Id) (z:Int) (ws:List Nat):List (Id × aN):=[(b,⟨[aP z],2,false⟩),(c,⟨[.agg [.bool false, .aq]],2,false⟩),cn a ws]
def z3 {ρ : Id->Id} {b c a:Id} {z:Int} {ws:List Nat}:dX ρ (mB b c a z ws)=mB (ρ b) (ρ c) (ρ a) z ws:=by
 unfold mB
 simp only [fK,fL,fM,lA,o8,pQ,bg.fixed]
def aml {ft pG nT:FuncId} (z:Int) (s L b:Nat) (hs:ki z.natAbs s) (aeU:z.natAbs<(2 ^ b)*2 ^ b) (bA:L=b/32+1) (Lj:L<=671088640000) (U:gX P ft DV) (afI:gX P pG (Jd ft))
   (oO:∀ n,ae n<=L+L->ag P G nT [W n,W z.natAbs] (.int .i64 (dI n z.natAbs))) :
   bu P G [] (.loop (amk ft pG nT)) (λ e s'=>e = .exit 0/\bz G [] s' ⟨pS [0] [1] [16] L (-1),kd (cf (mB [0] [1] [16] z (pad L s))),67108864000000000⟩) ⟨pS [0] [1] [16] L ((b:Int)-1),bk (mB [0] [1] [16] z (pad L 0)),1000⟩:=by
 have aq4:2 ^ b<af ^ L:=by
   rw [show af=2 ^ 32 from rfl, <- AP]
   exact vH (by decide) (by omega)
 have d:val (pad L 0)=0:=sw (AQ ed)
 refine bu.qz (α := Nat × List Nat) (λ x=>⟨pS [0] [1] [16] L ((x.1:Int)-1),bk (mB [0] [1] [16] z x.2),1000+200*(b-x.1)⟩)
   (λ x=>x.1<=b/\x.2.length=L/\fl x.2/\2 ^ x.1 ∣ val x.2/\val x.2*val x.2<=z.natAbs/\z.natAbs<(val x.2+2 ^ x.1)*(val x.2+2 ^ x.1)) (λ x=>x.1) (b,pad L 0) ?_ ⟨a4 _,n7 _ _,zM _ _,by rw [d];exact Nat.dvd_zero _,by rw [d];omega,by rw [d,c4];exact aeU⟩ ?_
 simp only [Nat.sub_self];exact x9 _ _ _
 rintro ⟨i,ws⟩ ⟨hi,a,g,hd,r,D⟩
 simp only [] at hi a g hd r D ⊢
 cases i with
 | zero =>
   have t:decide (((0:Nat):Int)-1≥0)=false:=by decide
   have hv:val ws=s:=by
     have h1:val ws<=s:=Nn hs r
     have h2:s<=val ws:=Nn ⟨r,by simpa using D⟩ hs.1
     omega
   have hp:=xm g
   rw [a,hv] at hp
   rw [hp]
   refine iG (π := []) (n:=1000+200*(b-0)) (Np 16) [hb 23 t] (pS [1] [2] [3] L (-1)) (mB [1] [2] [3] z ws) (.exit 0) (pS [1] [2] [3] L (-1)) (mB [1] [2] [3] z ws) 200 (by kernel_rfl)
     z4 z3 z4 z3 (by simp [mB]) λ s hw=>⟨rfl, ?_⟩
   exact bz.toT (by simp [mB]) (hw.trans (ug (gF.same _) (λ j => .inr rfl) (by omega)))
 | succ i =>
   have S:i/32<L:=by omega
   have V:i%32<32:=bC _ (by decide)
   have T:32*(i/32)+i%32=i:=hL i 32
   have ⟨w,l⟩:∃ w,ws[i/32]? = some w:=⟨_,du (by rw [a];exact S)⟩
   have F:=g w (qW l)
   have H:2 ^ (i%32+1) ∣ w:=abj g l V (by rw [T];exact hd)
   have hlt:=(Ks V F H).1
   have Ct:(((i+1:Nat):Int))-1=(i:Int):=by omega
   have t:decide ((i:Int)≥0)=true:=eL (by omega)
   have h:cF.wrap ((i:Int).tdiv 32)=((i/32:Nat):Int):=by rw [AR (by omega),cM];omega
   have A:(i:Int).tmod 32=((i%32:Nat):Int):=by rw [Int.tmod_eq_emod_of_nonneg (by omega)];omega
   have f:fY 1 (.ai [3] 1 0 L false) (.int .i64 ((i/32:Nat):Int))=some (.ref [3] (i/32) 0):=va S
   have Q:∀ (σ : aL) (p:Id),(∀ y∈[cn [3] ws], σ y.1=some y.2)->bS σ p (.load false 1 (.ref [3] (i/32) 0))=some { val := .int .u32 (w:Int),rd:=[[3]] } := λ σ p C=>Ae (C (cn [3] ws) (by simp)) l p
   have v:=amG V
   have Uw:=ajt V F H
   have Z:∀ (σ : aL) (p:Id),(∀ y∈[cn [3] ws], σ y.1=some y.2)->bS σ p (.store 1 (.ref [3] (i/32) 0) (.int .u32 ((w+2 ^ (i%32):Nat):Int)))=some { val := .aS [],rd:=[[3]],up:=[([3],some ⟨us (ws.set (i/32) (w+2 ^ (i%32))),1,false⟩)] } := λ σ p C=>IB (C (cn [3] ws) (by simp)) (by rw [a];exact S) p
   have o:val (ws.set (i/32) (w+2 ^ (i%32)))=val ws+2 ^ i:=by
     have:=I4 (x:=w+2 ^ (i%32)) l
     rw [dC] at this
     have e:af ^ (i/32)*2 ^ (i%32)=2 ^ i:=by rw [show af=2 ^ 32 from rfl, <- AP, <- gC,T]
     rw [e] at this
     omega
   have E:(ws.set (i/32) (w+2 ^ (i%32))).length=L:=by rw [ju,a]
   have c:fl (ws.set (i/32) (w+2 ^ (i%32))):=OJ g hlt
   have B:(ws.set (i/32) (w+2 ^ (i%32))).set (i/32) w=ws:=by
     rw [List.set_set]
     have ⟨h1,h2⟩:=eu.1 l
     rw [<- h2];exact List.set_getElem_self h1
   have K:(ws.set (i/32) (w+2 ^ (i%32)))[i/32]? = some (w+2 ^ (i%32)):=List.getElem?_set_self (by rw [a];exact S)
   have X:=Xe c
   have Y:ae (val (ws.set (i/32) (w+2 ^ (i%32))))<=L:=by rw [<- E];exact iV (kU c)
   rw [o] at X Y
   have t1:∀ p:Id,cu P G ft [.ai [3] 1 0 L false] p [cn [3] (ws.set (i/32) (w+2 ^ (i%32)))] { val := .ai [3] 1 0 (ae (val ws+2 ^ i)) false,rd:=[[3]] } := λ p=>by
     have:=Xu (G:=G) U _ c L (by omega) (by omega) p [3]
     rwa [hM (by omega),o] at this
   have t2:∀ p:Id,cu P G pG [.ai [3] 1 0 (ae (val ws+2 ^ i)) false, .ai [3] 1 0 (ae (val ws+2 ^ i)) false] p [cn [3] (ws.set (i/32) (w+2 ^ (i%32)))] { val := .ai (6::p) 1 0 (ae ((val ws+2 ^ i)*(val ws+2 ^ i))) false,rd:=[[3]],up:=[(6::p,some ⟨us (pad (ae (val ws+2 ^ i)+ae (val ws+2 ^ i)) ((val ws+2 ^ i)*(val ws+2 ^ i))),1,false⟩)] } := λ p=>by
     have:=anv (G:=G) afI U _ c (ae (val ws+2 ^ i)) (by omega) (by omega) p [3]
     rwa [X,nx] at this
   have hy:=abk (N:=z.natAbs) hd D
   have ae1:2 ^ i ∣ val ws:=Eh (O9 2 (by omega)) hd
   have X7:cF.wrap ((i:Int)-1)=(i:Int)-1:=by rw [cM];omega
   have u:1000+200*(b-(i+1))+200=1000+200*(b-i):=by omega
   have O:val ws+2 ^ i<af ^ ae (val ws+2 ^ i):=by
     have:=kU (pF (val ws+2 ^ i))
     rwa [nx] at this
   rw [Ct]
   generalize db:val ws=R at *
   generalize ws.set (i/32) (w+2 ^ (i%32))=k at *
   generalize aeB:R+2 ^ i=bR at *
   have afz:val (pad (ae bR+ae bR) (bR*bR))=bR*bR:=sw (by rw [gC];exact nE O O)
   have J:=oO (bR*bR) (bs (Av _ _) (by omega))
   have M:c9 (bk [cn [6,20,0] (pad (ae bR+ae bR) (bR*bR))]) [.ai [6,20,0] 1 0 (ae (bR*bR)) false,W z.natAbs] [W (bR*bR),W z.natAbs]:=by
     refine cp ?_ (cp (View.pure (uH _)) c9.nil)
     have:=aoy (σ := bk [cn [6,20,0] (pad (ae bR+ae bR) (bR*bR))]) (q:=[6,20,0]) (zM (ae bR+ae bR) (bR*bR)) (by simp [bk])
     rwa [afz] at this
   by_cases hc:bR*bR<=z.natAbs
   have ⟨vD,AG⟩:=hy hc
   have I:decide (dI (bR*bR) z.natAbs>0)=false:=dw (by unfold dI eV;split<;>(try split)<;>omega)
   refine iG (π := []) (n:=1000+200*(b-(i+1))) (Np 16) [hb 23 t,hw 28 h,hw 31 h,ho 32 f, .st 33 _ _ _ Q,hw 35 A,ho 36 v,ho 37 Uw,ho 38 f, .st 100038 _ _ _ Z,
       .rel ft _ [cn [3] k] _ (λ p _=>t1 p) (by intro p x m;rcases bJ.1 m with rfl;simp), .rel ft _ [cn [3] k] _ (λ p _=>t1 p) (by intro p x m;rcases bJ.1 m with rfl;simp), .rel pG _ [cn [3] k] _ (λ p _=>t2 p) (by intro p x m;rcases bJ.1 m with rfl;simp),
       qw [cn [6,20,0] (pad (ae bR+ae bR) (bR*bR))] J M,hb 47 I,hw 25 X7] (pS [1] [2] [3] L (i:Int)) (mB [1] [2] [3] z ws) .normal (pS [1] [2] [3] L ((i:Int)-1)) (mB [1] [2] [3] z k) 200 (by kernel_rfl)
     z4 z3 z4 z3 (by simp [mB]) λ s hw => ?_
   exact ⟨(i,k),⟨by simp only [];omega,E,c,by simp only [];rw [o];exact vD,by simp only [];rw [o];exact hc,by simp only [];rw [o];exact AG⟩,by simp only [];omega,by simp only [];rw [<- u];exact hw⟩
   have I:decide (dI (bR*bR) z.natAbs>0)=true:=eL (by unfold dI eV;split<;>(try split)<;>omega)
   have ag8:∀ (σ : aL) (p:Id),(∀ y∈[cn [3] k], σ y.1=some y.2)->bS σ p (.load false 1 (.ref [3] (i/32) 0))=some { val := .int .u32 ((w+2 ^ (i%32):Nat):Int),rd:=[[3]] } := λ σ p C=>Ae (C (cn [3] k) (by simp)) K p
   have aiX:=aiV V F H
   have amw:∀ (σ : aL) (p:Id),(∀ y∈[cn [3] k], σ y.1=some y.2)->bS σ p (.store 1 (.ref [3] (i/32) 0) (.int .u32 (w:Int)))=some { val := .aS [],rd:=[[3]],up:=[([3],some ⟨us ws,1,false⟩)] } := λ σ p C=>by
     rw [<- B];exact IB (C (cn [3] k) (by simp)) (by rw [E];exact S) p
   refine iG (π := []) (n:=1000+200*(b-(i+1))) (Np 16) [hb 23 t,hw 28 h,hw 31 h,ho 32 f, .st 33 _ _ _ Q,hw 35 A,ho 36 v,ho 37 Uw,ho 38 f, .st 100038 _ _ _ Z,
       .rel ft _ [cn [3] k] _ (λ p _=>t1 p) (by intro p x m;rcases bJ.1 m with rfl;simp), .rel ft _ [cn [3] k] _ (λ p _=>t1 p) (by intro p x m;rcases bJ.1 m with rfl;simp), .rel pG _ [cn [3] k] _ (λ p _=>t2 p) (by intro p x m;rcases bJ.1 m with rfl;simp),
       qw [cn [6,20,0] (pad (ae bR+ae bR) (bR*bR))] J M,hb 47 I,hw 50 h,hw 53 h,ho 54 f, .st 55 _ _ _ ag8,hw 57 A,ho 58 v,ho 59 aiX,ho 60 f, .st 100060 _ _ _ amw,hw 25 X7] (pS [1] [2] [3] L (i:Int)) (mB [1] [2] [3] z ws) .normal (pS [1] [2] [3] L ((i:Int)-1)) (mB [1] [2] [3] z ws) 200 (by kernel_rfl)
     z4 z3 z4 z3 (by simp [mB]) λ s hw => ?_
   exact ⟨(i,ws),⟨by simp only [];omega,a,g,by simp only [];rw [db];exact ae1,by simp only [];rw [db];exact r,by simp only [];rw [db,aeB];omega⟩,by simp only [];omega,by simp only [];rw [<- u];exact hw⟩
def amm {f fn E ft pG nT fs:FuncId} (h:gX P f (Ya fn E ft pG nT fs)) (z:Int) (s b:Nat) (J:0<z) (D:ki z.natAbs s) (A:z.natAbs<2 ^ b) (F:b<=6710886400000) (C:ag P G fn [aP z] (aP z)) (u:ag P G E [aP z] (.int .i64 (b:Int)))
   (k:gX P ft DV) (o:gX P pG (Jd ft)) (x:∀ n,ae n<=671088640000->ag P G nT [W n,W z.natAbs] (.int .i64 (dI n z.natAbs))) (l:∀ L,L<=671088640000->s<af ^ L->ag P G fs [.bool false, .sl 1 (us (pad L s))] (aP (s:Int))) :
   ag P G f [aP z] (.aS [aP (s:Int), .int .i64 0]):=by
 have g:decide (z<0)=false:=dw (by omega)
 have v:cF.wrap ((b:Int)+1)=((b+1:Nat):Int):=by rw [cM];omega
 have t:cF.wrap ((((b+1:Nat)):Int).tdiv 2)=(((b+1)/2:Nat):Int):=by rw [AR (by omega),cM];omega
 have B:z.natAbs<2 ^ ((b+1)/2)*2 ^ ((b+1)/2):=by
   rw [<- gC]
   exact fv A (dv (by decide) (by omega))
 generalize K:(b+1)/2=m at *
 have H:m<=3355443200001:=by omega
 have q:cF.wrap ((m:Int).tdiv 32)=((m/32:Nat):Int):=by rw [AR (by omega),cM];omega
 have i:cF.wrap (((m/32:Nat):Int)+1)=((m/32+1:Nat):Int):=by rw [cM];omega
 have j:cF.wrap ((m:Int)-1)=(m:Int)-1:=by rw [cM];omega
 have I:=aml (P:=P) (G:=G) (ft:=ft) (pG:=pG) (nT:=nT) z s (m/32+1) m D B rfl (by omega) k o (λ n C=>x n (by omega))
 have c:s<af ^ (m/32+1):=by
   have h1:s<2 ^ m:=by
     rcases Jx s (2 ^ m) with h | h
     exact h
     exfalso
     have:=lH h h
     have:=D.1
     omega
   refine Nat.lt_trans h1 ?_
   rw [show af=2 ^ 32 from rfl, <- AP]
   exact vH (by decide) (by omega)
 have a:=l (m/32+1) (by omega) c
 have r:∀ (σ : aL) (p:Id),(∀ y∈([]:List (Id × aN)), σ y.1=some y.2)->bS σ p (.oV 1 4 (.int .u32 0) (.int .i64 ((m/32+1:Nat):Int)) (.int .i64 ((m/32+1:Nat):Int)))=some { val := .ai p 1 0 (m/32+1) false,up:=[(p,some ⟨us (pad (m/32+1) 0),1,false⟩)] } := λ σ p _=>by
   have e:pad (m/32+1) 0=bG (m/32+1) 0:=by
     have:=xm (Yb (m/32+1))
     rwa [nD,Om (λ w hw=>jA hw)] at this
   rw [e];exact Hl (by omega)
 have d:c9 (bk [cn [16] (pad (m/32+1) s)]) [.bool false, .ai [16] 1 0 (m/32+1) false] [.bool false, .sl 1 (us (pad (m/32+1) s))]:=cp (View.pure (AM _)) (cp (View.ai (au:=⟨us (pad (m/32+1) s),1,false⟩) (by simp [bk]) rfl (by simp [il,n7]) (by rw [iZ,hM (by simp [il,n7])];exact c9.pure (DF _)) (by rw [il,n7]) (DG _)) c9.nil)
 generalize m/32+1=L at *
 exact ag.j7 h [hc C,hb 10 g,hc u,hw 14 v,hw 15 t,hw 17 q,hw 18 i, .st 19 _ _ _ r,hw 21 j, .iA [] _ _ _ _ _ _ _ _ I,qw [cn [16] (pad L s)] a d]
abbrev NC:cB:=(.seq (eR [bE 20 5,vm 21 1 2,kR 22 1 21,oY 23 22,jk 24 .lss 20 23] (.cond (.t 24) .skip (.exit 0))) (.seq (.block 1 (.seq (.iB (some []) [vm 27 1 2,kR 28 1 27,bE 29 5,kq 30 1 28 29,kR 31 1 30,vm 32 1 3,kR 33 1 32,bE 34 5,kq 35 1 33 34,kR 36 1 35,jk 37 .neq 31 36]) (.cond (.t 37) (eR [Ux 4 false] .ret) .skip))) (m2 [bE 25 5,fT 26 .add 25 1,bE 5 26])))
def lU (c a:Id) (b i:aa):List aa:=[.top, .top, .ref c 0 0, .ref a 0 0,b,i]++bG 32 .top
def Ac {ρ : Id->Id} {c a:Id} {b i:aa}:bx ρ (lU c a b i)=lU (ρ c) (ρ a) (b.aX ρ) (i.aX ρ):=by
 unfold lU
 simp only [r9,o8,pQ,xy,H9,Df]
def mH (b a:Id) (m n:Nat):List (Id × aN):=[(b,⟨[aP (m:Int)],2,false⟩),(a,⟨[aP (n:Int)],2,false⟩)]
def Iy {ρ : Id->Id} {b a:Id} {m n:Nat}:dX ρ (mH b a m n)=mH (ρ b) (ρ a) m n:=by
 unfold mH
 simp only [fK,fL,fM,o8,pQ,bg.fixed]
def NB:Nat->Id
 | 1=>[0]
 | _=>[1]
def Ws {m n:Nat} {Q:cw->dt->Prop} (i a:Nat) (p:i<=67108864000000) (j:i<ae m) (o:(digits m)[i]? = some a) (g:(digits n)[i]? = some a) (N:Nat) (l:∀ s,bz G [] s ⟨lU [0] [1] (.bool false) (.int .i64 ((i+1:Nat):Int)),bk (mH [0] [1] m n),N+40⟩->Q .normal s) :
   bu P G [] NC Q ⟨lU [0] [1] (.bool false) (.int .i64 (i:Int)),bk (mH [0] [1] m n),N⟩:=by
 have h:jr false (W m)=some (.int .i64 (ae m:Int)):=dV _
 have d:decide ((i:Int)<(ae m:Int))=true:=eL (by omega)
 have b:fY 1 (W m) (.int .i64 (i:Int))=some (.c2 (aa.int .u32 (a:Int)).cells 0):=tt (k:=1) rfl (ss o)
 have f:fY 1 (W n) (.int .i64 (i:Int))=some (.c2 (aa.int .u32 (a:Int)).cells 0):=tt (k:=1) rfl (ss g)
 have e:((a:Int) != (a:Int))=false:=by simp
 have c:=DZ i (by omega)
 exact iG (π := []) (n:=N) NB [ho 23 h,hb 24 d,ho 30 b,ho 35 f,hb 37 e,hw 26 c] (lU [1] [2] (.bool false) (.int .i64 (i:Int))) (mH [1] [2] m n) .normal (lU [1] [2] (.bool false) (.int .i64 ((i+1:Nat):Int))) (mH [1] [2] m n) 40 (by kernel_rfl)
   Ac Iy Ac Iy (by simp [mH]) l
def amR (m:Nat) (g:ae m<=6710886400000):bu P G [] (.loop NC) (λ e s=>e = .exit 0/\bz G [] s ⟨lU [0] [1] (.bool false) .top,kd (cf []),67108864000000000⟩) ⟨lU [0] [1] (.bool false) (.int .i64 0),bk (mH [0] [1] m m),1000⟩:=by
 refine bu.qz (α := Nat) (λ i=>⟨lU [0] [1] (.bool false) (.int .i64 (i:Int)),bk (mH [0] [1] m m),1000+40*i⟩) (λ i=>i<=ae m) (λ i=>ae m-i) 0 (x9 _ _ _) (et _) ?_
 intro i h
 by_cases b:i<ae m
 have ⟨a,f⟩:∃ a,(digits m)[i]? = some a:=⟨_,du b⟩
 refine Ws i a (by omega) b f f _ λ s hw=>⟨i+1,by omega,by simp only [];omega, ?_⟩
 have e:1000+40*i+40=1000+40*(i+1):=by omega
 simp only [];rw [<- e];exact hw
 have d:jr false (W m)=some (.int .i64 (ae m:Int)):=dV _
 have c:decide ((i:Int)<(ae m:Int))=false:=dw (by omega)
 refine iG (π := []) (n:=1000+40*i) NB [ho 23 d,hb 24 c] (lU [1] [2] (.bool false) (.int .i64 (i:Int))) (mH [1] [2] m m) (.exit 0) (lU [1] [2] (.bool false) .top) [] 40 (by kernel_rfl)
   Ac Iy Ac rfl (by simp [mH]) λ s hw=>⟨rfl, ?_⟩
 exact bz.toT (by simp) (hw.trans (ug (gF.same _) (λ j => .inr rfl) (by omega)))
def amS (m n:Nat) (o:m≠n) (v:ae m=ae n) (w:ae m<=6710886400000):bu P G [] (.loop NC) (λ e s=>e = .ret/\bz G [] s ⟨lU [0] [1] (.bool false) .top,kd (cf []),67108864000000000⟩) ⟨lU [0] [1] (.bool false) (.int .i64 0),bk (mH [0] [1] m n),1000⟩:=by
 refine bu.qz (α := Nat) (λ i=>⟨lU [0] [1] (.bool false) (.int .i64 (i:Int)),bk (mH [0] [1] m n),1000+40*i⟩) (λ i=>i<=ae m/\∀ j,j<i->(digits m)[j]? = (digits n)[j]?) (λ i=>ae m-i) 0 (x9 _ _ _) ⟨et _, λ j h=>absurd h (Nat.not_lt_zero j)⟩ ?_
 rintro i ⟨x,u⟩
 by_cases d:i<ae m
 have ⟨a,f⟩:∃ a,(digits m)[i]? = some a:=⟨_,du d⟩
 have ⟨b,c⟩:∃ b,(digits n)[i]? = some b:=⟨_,du (show i<ae n by omega)⟩
 by_cases q:a=b
 subst q
 refine Ws i a (by omega) d f c _ λ s hw=>⟨i+1,⟨by omega, λ j y => ?_⟩,by simp only [];omega, ?_⟩
 rcases (by omega:j<i \/ j=i) with h | rfl
 exact u j h
 rw [f,c]
 have e:1000+40*i+40=1000+40*(i+1):=by omega
 simp only [];rw [<- e];exact hw
 have t:jr false (W m)=some (.int .i64 (ae m:Int)):=dV _
 have l:decide ((i:Int)<(ae m:Int))=true:=eL (by omega)
 have r:fY 1 (W m) (.int .i64 (i:Int))=some (.c2 (aa.int .u32 (a:Int)).cells 0):=tt (k:=1) rfl (ss f)
 have g:fY 1 (W n) (.int .i64 (i:Int))=some (.c2 (aa.int .u32 (b:Int)).cells 0):=tt (k:=1) rfl (ss c)
 have p:((a:Int) != (b:Int))=true:=bne_iff_ne.2 (by omega)
 refine iG (π := []) (n:=1000+40*i) NB [ho 23 t,hb 24 l,ho 30 r,ho 35 g,hb 37 p] (lU [1] [2] (.bool false) (.int .i64 (i:Int))) (mH [1] [2] m n) .ret (lU [1] [2] (.bool false) .top) [] 40 (by kernel_rfl)
   Ac Iy Ac rfl (by simp [mH]) λ s hw=>⟨rfl, ?_⟩
 exact bz.toT (by simp) (hw.trans (ug (gF.same _) (λ j => .inr rfl) (by omega)))
 exfalso
 refine o ?_
 have e:digits m=digits n:=List.ext_getElem? λ j=>by
   by_cases h:j<i
   exact u j h
   rw [uh (show ae m<=j by omega),uh (show ae n<=j by omega)]
 rw [<- nx m, <- nx n,e]
instance {n:Bool} {w:List Nat}:bg (uA n w):=by unfold uA;infer_instance
instance {a b:Int}:bg (hV a b):=by unfold hV;infer_instance
end
end Go.aF
