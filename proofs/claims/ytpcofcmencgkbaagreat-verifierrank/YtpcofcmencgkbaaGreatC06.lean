/- For the claim of VerifierRank: parts TW3, TW4, TW5, TW6, TW7, TW8, TW9, TWA, FT1, MX1, MX2, MX3, MX4, MX5, MX6, MX7, MX8, MX9, MXA, MXB, TV1, TV2, TV3. -/
import Derived.Test.YtpcofcmencgkbaaGreatC05
import Derived.Test.YtpcofcmencgkbaaGreatC04
set_option linter.defProp false
set_option linter.unusedSimpArgs false
set_option linter.unusedVariables false
set_option maxRecDepth 100000
open Classical renaming choose->q7,choose_spec->oi,not_forall->Zt,not_imp->Zu,propDecidable->AW
open Go.aF.ah renaming neg->kZ,rat->cz,val->aR,val_neg->q9,tT->sI,val_zero->om
open Go.aF.aC renaming tH->Pc,vl->JF,ofRat->ek,rt->b5,sc->ui
open Go.aF.aL renaming of->bk
open Go.aF.View renaming ai->kY
open Go.aF.c9 renaming cons->cp,pure->jx
open Int renaming natAbs_mul->l3,natAbs_natCast->gE,ofNat->vL
open Lean.Grind.Ring renaming sub_eq_add_neg->sG
open List renaming append_inj->Zw,drop_zero->iZ,foldl_cons->oq,getD_eq_getElem?_getD->dJ,getElem?_eq_getElem->du,getElem?_eq_none->uh,getElem?_map->iI,getElem_mem->bc,getElem_take->Zr,getElem_zipWith->vK,isEmpty_iff->ra,length->uc,length_append->cd,length_cons->e6,length_map->aM,length_pos_iff->hO,length_range->dZ,length_set->ju,length_singleton->kG,length_take->cZ,length_zip->Zx,length_zipWith->k0,map_congr_left->p8,map_cons->hQ,map_map->mU,mem_append->en,mem_append_left->nB,mem_append_right->qY,mem_cons->cr,mem_cons_of_mem->c5,mem_cons_self->cS,mem_filter->kA,mem_flatMap->iK,mem_iff_getElem->fZ,mem_map->bn,mem_map_of_mem->uj,mem_of_mem_drop->rk,mem_of_mem_take->gq,mem_or_eq_of_mem_set->AO,mem_range->cR,mem_singleton->bJ,nodup_cons->iF,nodup_nil->gm,not_mem_nil->cX,of_mem_zip->vJ,pairwise_iff_getElem->Zs,range->ba,take_append_of_le_length->Er,take_length->gn,take_of_length_le->hM,take_succ_eq_append_getElem->iH,zip->yb,zip_cons_cons->ZB
open List.cons renaming inj->Zv
open Nat renaming le_mul_self->AV,le_of_lt_succ->Zz,le_refl->a4,le_succ->Pd,le_trans->bs,lt_of_le_of_lt->gB,lt_succ_of_lt->ZA,min_le_left->Zy,mod_lt->bC,mul_add->dC,mul_assoc->eZ,mul_comm->dF,mul_le_mul->lH,mul_le_mul_left->fw,mul_le_mul_right->c6,mul_left_comm->l2,mul_one->mS,mul_pos->oo,not_lt_zero->kC,one_le_two_pow->sJ,pow_add->gC,pow_le_pow_right->dv,pow_lt_pow_right->vH,pow_succ->ej,succ_mul->jN,zero_add->c4,zero_le->et
open Nat.Coprime renaming mul_right->Zq
open Prod renaming ext->pj
open Rat renaming intCast_le_intCast->sH,intCast_mul->ya,intCast_neg->JE,mul_inv_cancel->q8,mul_nonneg->jM,natCast_add->Em,natCast_le_natCast->Eo,natCast_mul->AU
namespace Go.aF
abbrev aD:=(h:Nat) × aE h
end Go.aF
namespace Go.aF.aD
def nil:aD:=⟨0,()⟩
def push (T:aD) (x:ah T.1):aD:=⟨T.1+1,(T.2,x)⟩
def In (T:aD) (v:aC):Prop:=∃ a:ah T.1,aR T.2 a=v
abbrev bK (T:aD):Prop:=T.2.bK
open Classical in
noncomputable def bp (T:aD) (v:aC):ah T.1:=if h:T.In v then q7 h else cz T.1 0
def m3 {T:aD} {v:aC} (h:T.In v):aR T.2 (T.bp v)=v:=by
 unfold bp
 rw [dif_pos h]
 exact oi h
def oI {T:aD} (b:T.bK) {v:aC} {a:ah T.1} (e:aR T.2 a=v):T.bp v=a:=ah.inj b ((m3 ⟨a,e⟩).trans e.symm)
def In.rat (T:aD) (q:Rat):T.In (ek q):=⟨cz _ q,sI _ _⟩
def In.add {T:aD} {v w:aC} (h:T.In v) (k:T.In w):T.In (v+w):=by
 obtain ⟨a,rfl⟩:=h;obtain ⟨b,rfl⟩:=k
 exact ⟨ah.add a b,ah.val_add _ _ _⟩
def In.neg {T:aD} {v:aC} (h:T.In v):T.In (-v):=by
 obtain ⟨a,rfl⟩:=h
 exact ⟨kZ a,q9 _ _⟩
def In.mul {T:aD} (c:T.bK) {v w:aC} (h:T.In v) (k:T.In w):T.In (v*w):=by
 obtain ⟨a,rfl⟩:=h;obtain ⟨b,rfl⟩:=k
 exact ⟨ah.mul T.2 a b,ah.val_mul c.pos _ _⟩
def In.inv {T:aD} (c:T.bK) {v:aC} (h:T.In v):T.In v⁻¹ := by
 obtain ⟨a,rfl⟩:=h
 by_cases b:aR T.2 a=0
 rw [b,aC.D8];exact .rat T 0
 exact ⟨ah.inv T.2 a,ah.I3 c b⟩
def In.push {T:aD} {x:ah T.1} {v:aC} (h:T.In v):(T.push x).In v:=by
 obtain ⟨a,rfl⟩:=h
 exact ⟨((a,cz T.1 0):ah (T.1+1)),by
   show aR T.2 a+aR T.2 (cz T.1 0)*b5 (aR T.2 x)=_
   rw [om];grind⟩
def In.root {T:aD} {x:ah T.1}:(T.push x).In (b5 (aR T.2 x)):=⟨((cz T.1 0,cz T.1 1):ah (T.1+1)),by
   show aR T.2 (cz T.1 0)+aR T.2 (cz T.1 1)*b5 (aR T.2 x)=_
   rw [om,sI,CW];grind⟩
def In.cases {T:aD} {x:ah T.1} {v:aC} (h:(T.push x).In v):∃ a b,T.In a/\T.In b/\v=a+b*b5 (aR T.2 x):=by
 obtain ⟨a,rfl⟩:=h
 exact ⟨_,_,⟨a.1,rfl⟩,⟨a.2,rfl⟩,rfl⟩
def HV {T:aD} (a:T.bK) {x:ah T.1} (c:0<aR T.2 x) (f : ¬ T.In (b5 (aR T.2 x))):(T.push x).bK:=by
 refine ⟨a,c, λ w b=>f ?_⟩
 have d:=ui (x:=aR T.2 x) (by grind)
 rcases aC.NG (d.trans b.symm) with e | e
 exact ⟨w,e.symm⟩
 exact ⟨kZ w,by rw [q9];exact e.symm⟩
open Classical in
noncomputable def gH (T:aD) (x:ah T.1):aD:=if T.In (b5 (aR T.2 x)) then T else T.push x
noncomputable def ext (T:aD):{k:Nat}->aE k->aD
 | 0,_=>T
 | _+1,u=>(ext T u.1).gH ((ext T u.1).bp (aR u.1 u.2))
def Fi {T:aD} {x:ah T.1} {v:aC} (h:T.In v):(T.gH x).In v:=by
 unfold gH
 split
 exact h
 exact h.push
def P9 {T:aD} {x:ah T.1}:(T.gH x).In (b5 (aR T.2 x)):=by
 unfold gH
 split
 assumption
 exact In.root
def P8 {T:aD} (a:T.bK) {x:ah T.1} (c:0<aR T.2 x):(T.gH x).bK:=by
 unfold gH
 split
 exact a
 rename_i b;exact HV a c b
def nS {T:aD} (g:T.bK):∀ {k:Nat} {u:aE k},u.bK->(T.ext u).bK/\(∀ v,T.In v->(T.ext u).In v)/\∀ v,In ⟨k,u⟩ v->(T.ext u).In v
 | 0,_,_=>⟨g, λ _ h=>h, λ v h=>by obtain ⟨a,rfl⟩:=h;exact .rat T a⟩
 | k+1,u,hu=>by
   have ⟨h1,i,f⟩:=nS g hu.1
   have j:=f _ ⟨u.2,rfl⟩
   have e:=m3 j
   have d:((T.ext u.1).gH ((T.ext u.1).bp (aR u.1 u.2))).bK:=P8 h1 (by rw [e];exact hu.2.1)
   refine ⟨d, λ v h=>Fi (i v h), λ v h => ?_⟩
   obtain ⟨a,b,l,hb,rfl⟩:=In.cases (T:=⟨k,u.1⟩) (x:=u.2) h
   have c:=P9 (T:=T.ext u.1) (x:=(T.ext u.1).bp (aR u.1 u.2))
   rw [e] at c
   exact (Fi (f _ l)).add ((Fi (f _ hb)).mul d c)
def BS {T:aD}:∀ {k:Nat} {u:aE k},(∀ v,In ⟨k,u⟩ v->T.In v)->T.ext u=T
 | 0,_,_=>rfl
 | k+1,u,h=>by
   have h1:T.ext u.1=T:=BS λ v a=>h v (In.push (T:=⟨k,u.1⟩) a)
   show (T.ext u.1).gH ((T.ext u.1).bp (aR u.1 u.2))=T
   rw [h1]
   unfold gH
   have a:T.In (aR u.1 u.2):=h _ (In.push (T:=⟨k,u.1⟩) ⟨u.2,rfl⟩)
   rw [m3 a,if_pos]
   exact h _ (In.root (T:=⟨k,u.1⟩))
inductive eI:aD->aD->Prop
 | refl (T:aD):eI T T
 | push {T J:aD} (x:ah J.1):eI T J->eI T (J.push x)
def eI.in {T J:aD} (h:eI T J) {v:aC} (a:T.In v):J.In v:=by
 induction h with
 | refl=>exact a
 | push x _ b=>exact b.push
def eI.same {T J:aD} (h:eI T J):J.ext T.2=J:=BS λ v a=>h.in a
def adv {T J:aD} (h:eI T J) (a:J.bK):T.ext J.2=J:=by
 induction h with
 | refl=>exact BS λ v b=>b
 | @push J x f e =>
   have h1:=e a.1
   show (T.ext J.2).gH ((T.ext J.2).bp (aR J.2 x))=J.push x
   rw [h1,oI a.1 rfl]
   unfold gH
   rw [if_neg λ d => ?_]
   have ⟨w,c⟩:=d
   refine a.2.2 w ?_
   show aR J.2 w*aR J.2 w=aR J.2 x
   have g:0<aR J.2 x:=a.2.1
   rw [c]
   exact ui (by grind)
def Kj {T:aD} (x:ah T.1):eI T (T.gH x):=by
 unfold gH
 split
 exact .refl T
 exact .push x (.refl T)
def eI.trans {T J K:aD} (h:eI T J) (k:eI J K):eI T K:=by
 induction k with
 | refl=>exact h
 | push x _ a=>exact .push x a
def C4 (T:aD):∀ {k:Nat} (u:aE k),eI T (T.ext u)
 | 0,_ => .refl T
 | _+1,u=>(C4 T u.1).trans (Kj _)
end Go.aF.aD
namespace Go.aF
structure aI where
 T:aD
 a:ah T.1
end Go.aF
namespace Go.aF.aI
noncomputable def val (n:aI):aC:=aR n.T.2 n.a
abbrev bK (n:aI):Prop:=n.T.bK
noncomputable def of (T:aD) (v:aC):aI:=⟨T,T.bp v⟩
def HA {T:aD} {v:aC} (h:T.In v):(of T v).val=v:=aD.m3 h
def rat (q:Rat):aI:=⟨aD.nil,q⟩
noncomputable def join (a b:aI):aD:=a.T.ext b.T.2
def Cn {a b:aI} (c:a.bK) (hb:b.bK):(join a b).In a.val:=(aD.nS c hb).2.1 _ ⟨a.a,rfl⟩
def Co {a b:aI} (c:a.bK) (hb:b.bK):(join a b).In b.val:=(aD.nS c hb).2.2 _ ⟨b.a,rfl⟩
noncomputable def add (a b:aI):aI:=of (join a b) (a.val+b.val)
noncomputable def neg (a:aI):aI:=⟨a.T,kZ a.a⟩
noncomputable def sub (a b:aI):aI:=of (join a b) (a.val-b.val)
noncomputable def mul (a b:aI):aI:=of (join a b) (a.val*b.val)
noncomputable def inv (a:aI):aI:=⟨a.T,ah.inv a.T.2 a.a⟩
noncomputable def div (a b:aI):aI:=of (join a b) (a.val*b.val⁻¹)
section
variable {a b:aI} (ha:a.bK) (hb:b.bK)
include ha hb
def P7:(add a b).bK:=(aD.nS ha hb).1
def Mz:(mul a b).bK:=(aD.nS ha hb).1
def Ki:(add a b).val=a.val+b.val:=HA ((Cn ha hb).add (Co ha hb))
def NL:(sub a b).val=a.val-b.val:=HA (by rw [sG];exact (Cn ha hb).add (Co ha hb).neg)
def Hn:(mul a b).val=a.val*b.val:=HA ((Cn ha hb).mul (aD.nS ha hb).1 (Co ha hb))
def div_val:(div a b).val=a.val*b.val⁻¹ := HA ((Cn ha hb).mul (aD.nS ha hb).1 ((Co ha hb).inv (aD.nS ha hb).1))
end
def Hs {a:aI}:(neg a).val = - a.val:=q9 _ _
end Go.aF.aI
namespace Go.aF
def fE (q:Rat) (D B:Nat):Prop:=q.den ∣ D/\q<=B /\ -q<=B
def CF (q:Rat):q*(q.den:Rat)=q.num:=by
 have h:(q.num:Rat)/((q.den:Int):Rat)=q:=by rw [<- Rat.divInt_eq_div,Rat.num_divInt_den]
 have a:(q.den:Rat)≠0:=by
   have:(1:Rat)<=q.den:=Eo.2 (show 1<=q.den from q.den_pos)
   grind
 have e:((q.den:Int):Rat)=(q.den:Rat):=rfl
 rw [e,Rat.div_def] at h
 have b:=q8 _ a
 generalize (q.den:Rat)=d at *
 generalize d⁻¹ = i at *
 rw [<- h]
 grind
def xq (q:Rat) (D:Nat):q.den ∣ D↔∃ z:Int,q*D=z:=by
 constructor
 rintro ⟨k,rfl⟩
 refine ⟨q.num*k, ?_⟩
 have h:=CF q
 rw [AU, <- Rat.mul_assoc,h,ya];rfl
 rintro ⟨z,h⟩
 have h1:(q.num:Rat)*D=z*q.den:=by
   have:=CF q
   grind
 have b:q.num*D=z*q.den:=by
   have a:((q.num*(D:Int):Int):Rat)=((z*(q.den:Int):Int):Rat):=by
     rw [ya,ya];exact h1
   exact Rat.intCast_inj.1 a
 have a:q.den ∣ q.num.natAbs*D:=by
   have:=congrArg Int.natAbs b
   rw [l3,l3,gE,gE] at this
   exact ⟨_,this.trans (dF _ _)⟩
 exact (Nat.Coprime.dvd_of_dvd_mul_left (Nat.Coprime.symm q.reduced) a)
def CR (n:Nat):(0:Rat)<=n:=Rat.natCast_nonneg
def fE.pad {q:Rat} {D B:Nat} (h:fE q D B) (k:Nat) {C:Nat} (a:B<=C):fE q (D*k) C:=by
 have:(B:Rat)<=C:=Eo.2 a
 exact ⟨Nat.dvd_trans h.1 (Nat.dvd_mul_right _ _),by have:=h.2.1;grind,by have:=h.2.2;grind⟩
def fE.add {p q:Rat} {D B C:Nat} (h:fE p D B) (k:fE q D C):fE (p+q) D (B+C):=by
 refine ⟨?_,by rw [Em];have:=h.2.1;have:=k.2.1;grind,by rw [Em];have:=h.2.2;have:=k.2.2;grind⟩
 have ⟨y,b⟩:=(xq p D).1 h.1
 have ⟨z,a⟩:=(xq q D).1 k.1
 exact (xq _ D).2 ⟨y+z,by rw [Rat.intCast_add];grind⟩
def fE.neg {q:Rat} {D B:Nat} (h:fE q D B):fE (-q) D B:=⟨by rw [Rat.neg_den];exact h.1,by have:=h.2.2;grind,by have:=h.2.1;grind⟩
def fE.mul {p q:Rat} {D B E C:Nat} (h:fE p D B) (k:fE q E C):fE (p*q) (D*E) (B*C):=by
 have ⟨y,b⟩:=(xq p D).1 h.1
 have ⟨z,a⟩:=(xq q E).1 k.1
 have h1:=h.2.1;have g:=h.2.2;have f:=k.2.1;have e:=k.2.2
 have j:0<=((B:Rat)-p)*(C+q):=jM (by grind) (by grind)
 have d:0<=((B:Rat)+p)*(C-q):=jM (by grind) (by grind)
 have i:0<=((B:Rat)-p)*(C-q):=jM (by grind) (by grind)
 have c:0<=((B:Rat)+p)*(C+q):=jM (by grind) (by grind)
 refine ⟨(xq _ _).2 ⟨y*z, ?_⟩,by rw [AU];grind,by rw [AU];grind⟩
 rw [AU,ya, <- b, <- a];grind
def fE.zero {D B:Nat}:fE 0 D B:=⟨Nat.one_dvd D,CR B,by have:=CR B;grind⟩
def fE.num {q:Rat} {D B:Nat} (h:fE q D B) (c:0<D):q.num.natAbs<=B*D/\q.den<=D:=by
 have hd:=Nat.le_of_dvd c h.1
 refine ⟨?_,hd⟩
 have e:=CF q
 have a:(0:Rat)<=q.den:=CR _
 have h1:(q.num:Rat)<=((B*q.den:Nat):Rat):=by
   have:=jM (show 0<=(B:Rat)-q by have:=h.2.1;grind) a
   rw [AU];grind
 have b : -(q.num:Rat)<=((B*q.den:Nat):Rat):=by
   have:=jM (show 0<=(B:Rat)+q by have:=h.2.2;grind) a
   rw [AU];grind
 have mi:q.num<=((B*q.den:Nat):Int):=sH.1 h1
 have d : -q.num<=((B*q.den:Nat):Int):=sH.1 (by rw [JE];exact b)
 have f:B*q.den<=B*D:=fw _ hd
 omega
def fE.inv {q:Rat} {D B:Nat} (h:fE q D B) (n:0<D) (m:q≠0):∃ E,0<E/\E<=B*D/\fE q⁻¹ E D:=by
 have l:=h.num n
 have s:q.num≠0 := λ e=>m (Rat.num_eq_zero.1 e)
 have e:=CF q
 have c:=q8 q m
 have r:0<q.den:=q.den_pos
 have p:(q.den:Rat)<=D:=Eo.2 l.2
 have o:(1:Rat)<=q.den:=Eo.2 (show 1<=q.den by omega)
 refine ⟨q.num.natAbs,by omega,l.1,(xq _ _).2 ?_, ?_⟩
 rcases Int.natAbs_eq q.num with k | k
 refine ⟨q.den, ?_⟩
 have:((q.num.natAbs:Nat):Rat)=q.num:=by
   have:((q.num.natAbs:Int):Rat)=(q.num:Rat):=by rw [<- k]
   exact this
 rw [this, <- e]
 show q⁻¹ * (q*q.den)=q.den
 rw [<- Rat.mul_assoc,Rat.mul_comm _ q,c,Rat.one_mul]
 refine ⟨-q.den, ?_⟩
 have:((q.num.natAbs:Nat):Rat) = -q.num:=by
   have:((q.num.natAbs:Int):Rat)=((-q.num:Int):Rat):=by congr 1;omega
   rw [JE] at this
   exact this
 rw [this, <- e,JE]
 show q⁻¹ * -(q*q.den) = -q.den
 have:q⁻¹ * -(q*q.den) = -((q*q⁻¹)*q.den):=by grind
 rw [this,c,Rat.one_mul]
 ·
   have j:1<=q*q.den \/ q*q.den <= -1:=by
     rw [e]
     by_cases t:0<q.num
     left
     have:((1:Int):Rat)<=(q.num:Rat):=sH.2 (by omega)
     exact this
     right
     have:(q.num:Rat)<=((-1:Int):Rat):=sH.2 (by omega)
     exact this
   generalize (q.den:Rat)=d at *
   generalize q⁻¹ = i at *
   rcases j with g | g
   have b:0<q:=by
     by_cases b:0<q
     exact b
     have:=jM (show 0 <= -q by grind) (show 0<=d by grind);grind
   have a:0<i:=by
     by_cases a:0<i
     exact a
     have:=jM (show 0<=q by grind) (show 0 <= -i by grind);grind
   have h1:0<=i*(q*d-1):=jM (by grind) (by grind)
   have f:i*(q*d-1)=(q*i)*d-i:=by grind
   rw [c] at f
   have:=CR D
   exact ⟨by grind,by grind⟩
   have b:0 < -q:=by
     by_cases b:0 < -q
     exact b
     have:=jM (show 0<=q by grind) (show 0<=d by grind);grind
   have a:0 < -i:=by
     by_cases a:0 < -i
     exact a
     have:=jM (show 0 <= -q by grind) (show 0<=i by grind);grind
   have h1:0<=(-i)*(-1-q*d):=jM (by grind) (by grind)
   have f:(-i)*(-1-q*d)=i+(q*i)*d:=by grind
   rw [c] at f
   have:=CR D
   exact ⟨by grind,by grind⟩
end Go.aF
namespace Go.aF.ah
def M:{h:Nat}->ah h->Nat->Nat->Prop
 | 0,q,D,B=>fE q D B
 | _+1,a,D,B=>M a.1 D B/\M a.2 D B
def M.pad:∀ {h:Nat} {a:ah h} {D B:Nat},M a D B->∀ (k:Nat) {C:Nat},B<=C->M a (D*k) C
 | 0,_,_,_,h,k,_,b=>fE.pad h k b
 | _+1,_,_,_,h,k,_,b=>⟨h.1.pad k b,h.2.pad k b⟩
def M.mono {h:Nat} {a:ah h} {D B C:Nat} (b:M a D B) (c:B<=C):M a D C:=by
 have:=b.pad 1 c;rwa [mS] at this
def M.add:∀ {h:Nat} {a b:ah h} {D B C:Nat},M a D B->M b D C->M (add a b) D (B+C)
 | 0,_,_,_,_,_,h,k=>fE.add h k
 | _+1,_,_,_,_,_,h,k=>⟨h.1.add k.1,h.2.add k.2⟩
def M.neg:∀ {h:Nat} {a:ah h} {D B:Nat},M a D B->M (neg a) D B
 | 0,_,_,_,h=>fE.neg h
 | _+1,_,_,_,h=>⟨h.1.neg,h.2.neg⟩
def M.rat:∀ (h:Nat) {q:Rat} {D B:Nat},fE q D B->M (rat h q) D B
 | 0,_,_,_,a=>a
 | h+1,_,_,_,a=>⟨M.rat h a,M.rat h fE.zero⟩
end Go.aF.ah
namespace Go.aF
def aE.C:{h:Nat}->aE h->Nat->Nat->Prop
 | 0,_, Δ,A => Δ = 1/\A=1
 | _+1,t, Δ,A=>∃ δ α D B,t.1.C δ α /\ ah.M t.2 D B/\0<D /\ Δ = δ * δ * D/\A = α + α * α * B + α
def aE.C.pos:∀ {h:Nat} {t:aE h} {Δ A:Nat},t.C Δ A->0 < Δ /\ 0<A
 | 0,_,_,_,h=>by rw [h.1,h.2];exact ⟨by decide,by decide⟩
 | _+1,t, Δ,A,⟨δ, α,D,B,h1,d,b,c,a⟩=>by
   have ⟨p,q⟩:=h1.pos
   rw [c,a]
   exact ⟨oo (oo p p) b,by omega⟩
end Go.aF
namespace Go.aF.ah
def M.mul:∀ {h:Nat} {t:aE h} {Δ A:Nat},t.C Δ A->∀ {a b:ah h} {D B E F:Nat},M a D B->M b E F->M (mul t a b) (D*E * Δ) (B*F*A)
 | 0,_,_,_,h,_,_,_,_,_,_,c,hb=>by rw [h.1,h.2,mS,mS];exact fE.mul c hb
 | h + 1,t, Δ,A,⟨δ, α,R,S,h1,n,q,i,g⟩,a,b,D,B,E,F,c,hb=>by
   have m:=M.mul h1 c.1 hb.1
   have p:=M.mul h1 c.2 hb.2
   have d:=M.mul h1 p n
   have o:=M.mul h1 c.1 hb.2
   have l:=M.mul h1 c.2 hb.1
   have k:D*E * δ * R * δ = D*E * Δ := by rw [i];simp only [eZ,dF,l2]
   have j:D*E * δ * (δ * R)=D*E * Δ := by rw [i];simp only [eZ,dF,l2]
   have b1:B*F * α + B*F * α * S * α <= B*F*A:=by
     rw [g,show B*F * α * S * α = B*F*(α * α * S) by simp only [eZ,dF,l2], <- dC]
     exact fw _ (by omega)
   have b2:B*F * α + B*F * α <= B*F*A:=by
     rw [g, <- dC]
     exact fw _ (by omega)
   refine ⟨?_, ?_⟩
   rw [k] at d
   have f:=m.pad (δ * R) (a4 _)
   rw [j] at f
   exact (f.add d).mono b1
   have e:=(o.add l).pad (δ * R) b2
   rw [j] at e
   exact e
def M.norm {h:Nat} {t:aE (h+1)} {Δ A:Nat} (i:t.C Δ A) {a:ah (h+1)} {D B:Nat} (d:M a D B):M (norm t a) (D*D * Δ) (B*B*A):=by
 have ⟨δ, α,R,S,h1,l,n,e,f⟩:=i
 have g:=M.mul h1 d.1 d.1
 have k:=M.mul h1 d.2 d.2
 have b:=M.mul h1 k l
 have m:D*D * δ * R * δ = D*D * Δ := by rw [e];simp only [eZ,dF,l2]
 have j:D*D * δ * (δ * R)=D*D * Δ := by rw [e];simp only [eZ,dF,l2]
 have b1:B*B * α + B*B * α * S * α <= B*B*A:=by
   rw [f,show B*B * α * S * α = B*B*(α * α * S) by simp only [eZ,dF,l2], <- dC]
   exact fw _ (by omega)
 rw [m] at b
 have c:=g.pad (δ * R) (a4 _)
 rw [j] at c
 exact (c.add b.neg).mono b1
def ms {h:Nat} (a:ah h) (n:Nat):Prop:=∃ D B,0<D/\D<=2 ^ n/\B<=2 ^ n/\M a D B
end Go.aF.ah
namespace Go.aF
def aE.bL {h:Nat} (t:aE h) (c:Nat):Prop:=∃ Δ A,t.C Δ A /\ Δ <= 2 ^ c/\A<=2 ^ c
def h5 {D E n m:Nat} (h:D<=2 ^ n) (k:E<=2 ^ m):D*E<=2 ^ (n+m):=by rw [gC];exact lH h k
def aE.QJ {t:aE 0}:t.bL 0:=⟨1,1,⟨rfl,rfl⟩,by decide,by decide⟩
def aE.ab0 {h:Nat} {t:aE h} {r:ah h} {c n:Nat} (f:t.bL c) (e:ah.ms r n):aE.bL (h:=h+1) (t,r) (c+c+n+2):=by
 have ⟨δ, α,h1,a,b⟩:=f
 have ⟨D,B,p,q,s,d⟩:=e
 refine ⟨_,_,⟨δ, α,D,B,h1,d,p,rfl,rfl⟩,bs (h5 (h5 a a) q) (dv (by decide) (by omega)), ?_⟩
 have g : α * α * B<=2 ^ (c+c+n):=h5 (h5 b b) s
 have j:2 ^ c<=2 ^ (c+c+n):=dv (by decide) (by omega)
 have i:2 ^ (c+c+n+2)=4*2 ^ (c+c+n):=by rw [gC];omega
 omega
end Go.aF
namespace Go.aF.ah
def ji {h:Nat} {a:ah h} {n m:Nat} (c:ms a n) (b:n<=m):ms a m:=by
 have ⟨D,B,p,q,s,k⟩:=c
 exact ⟨D,B,p,bs q (dv (by decide) b),bs s (dv (by decide) b),k⟩
def zw {h:Nat} {a b:ah h} {n m:Nat} (e:ms a n) (hb:ms b m):ms (add a b) (n+m+1):=by
 have ⟨D,B,p,q,s,k⟩:=e
 have ⟨E,C,d,q',s',k'⟩:=hb
 have h1:=k.pad E (a4 _)
 have c:=k'.pad D (a4 _)
 rw [dF] at c
 refine ⟨D*E,B+C,oo p d,bs (h5 q q') (dv (by decide) (by omega)), ?_,h1.add c⟩
 have f:2 ^ n<=2 ^ (n+m):=dv (by decide) (by omega)
 have g:2 ^ m<=2 ^ (n+m):=dv (by decide) (by omega)
 have i:2 ^ (n+m+1)=2*2 ^ (n+m):=by rw [ej];omega
 omega
def CJ {h:Nat} {a:ah h} {n:Nat} (b:ms a n):ms (neg a) n:=by
 have ⟨D,B,p,q,s,k⟩:=b
 exact ⟨D,B,p,q,s,k.neg⟩
def rV (h:Nat) {q:Rat} {n:Nat} (h1:q.num.natAbs<=2 ^ n) (g:q.den<=2 ^ n):ms (rat h q) n:=by
 refine ⟨q.den,q.num.natAbs,q.den_pos,g,h1,M.rat h ⟨Nat.dvd_refl _, ?_, ?_⟩⟩
 all_goals
   have e:=CF q
   have hd:(1:Rat)<=q.den:=Eo.2 (show 1<=q.den from q.den_pos)
   have f:(q.num:Rat)<=(q.num.natAbs:Nat) /\ -(q.num:Rat)<=(q.num.natAbs:Nat):=by
     have b:(q.num:Rat)<=((q.num.natAbs:Int):Rat):=sH.2 (by omega)
     have a:((-q.num:Int):Rat)<=((q.num.natAbs:Int):Rat):=sH.2 (by omega)
     rw [JE] at a
     exact ⟨b,a⟩
   generalize ((q.num.natAbs:Nat):Rat)=k at *
   generalize (q.den:Rat)=d at *
   rw [<- e] at f
   by_cases c:0<=q
   have:=jM c (show 0<=d-1 by grind);grind
   have:=jM (show 0 <= -q by grind) (show 0<=d-1 by grind);grind
def w7 {h:Nat} {t:aE h} {c:Nat} (e:t.bL c) {a b:ah h} {n m:Nat} (i:ms a n) (hb:ms b m):ms (mul t a b) (n+m+c):=by
 have ⟨Δ,A,h1,d,f⟩:=e
 have ⟨D,B,p,q,s,k⟩:=i
 have ⟨E,C,g,q',s',k'⟩:=hb
 exact ⟨_,_,oo (oo p g) h1.pos.1,h5 (h5 q q') d,h5 (h5 s s') f,M.mul h1 k k'⟩
def CK {h:Nat} {t:aE (h+1)} {c:Nat} (d:t.bL c) {a:ah (h+1)} {n:Nat} (f:ms a n):ms (norm t a) (n+n+c):=by
 have ⟨Δ,A,h1,b,e⟩:=d
 have ⟨D,B,p,q,s,k⟩:=f
 exact ⟨_,_,oo (oo p p) h1.pos.1,h5 (h5 q q) b,h5 (h5 s s) e,M.norm h1 k⟩
def vk {h:Nat} {x y:ah h} {n m:Nat} (c:ms x n) (d:ms y m):ms (h:=h+1) (x,y) (n+m):=by
 have ⟨D,B,p,q,s,k⟩:=c
 have ⟨E,C,b,q',s',k'⟩:=d
 have a:=k'.pad D (Nat.le_max_right B C)
 rw [dF] at a
 refine ⟨D*E,max B C,oo p b,h5 q q', ?_,k.pad E (Nat.le_max_left _ _),a⟩
 have e:2 ^ n<=2 ^ (n+m):=dv (by decide) (by omega)
 have f:2 ^ m<=2 ^ (n+m):=dv (by decide) (by omega)
 omega
def w8 {h:Nat} {a:ah (h+1)} {n:Nat} (b:ms a n):ms a.1 n/\ms a.2 n:=by
 have ⟨D,B,p,q,s,k⟩:=b
 exact ⟨⟨D,B,p,q,s,k.1⟩,⟨D,B,p,q,s,k.2⟩⟩
def Ub {h:Nat} {t:aE h} {c:Nat} (b:t.bL c) {x y i:ah h} {n m:Nat} (g:ms (h:=h+1) (x,y) n) (d:ms i m):ms (h:=h+1) (mul t x i,neg (mul t y i)) (n+m+c):=by
 have ⟨Δ,A,h1,a,e⟩:=b
 have ⟨D,B,p,q,s,k⟩:=g
 have ⟨E,C,f,q',s',k'⟩:=d
 exact ⟨_,_,oo (oo p f) h1.pos.1,h5 (h5 q q') a,h5 (h5 s s') e,M.mul h1 k.1 k',(M.mul h1 k.2 k').neg⟩
def gz (c:Nat):Nat->Nat->Nat
 | 0,n=>n+n
 | h+1,n=>n+gz c h (n+n+c)+c
def Ua : ∀ {h:Nat} {t:aE h} {c:Nat},t.bK->(∀ k (u:aE k),aD.eI ⟨k,u⟩ ⟨h,t⟩->u.bL c)->∀ {a:ah h} {n:Nat},ms a n->val t a≠0->ms (inv t a) (gz c h n)
 | 0,t,c,_,_,a,n,d,f=>by
   have ⟨D,B,p,q,s,k⟩:=d
   have ⟨E,m,o,i⟩:=fE.inv k p (λ e=>f (by rw [e];rfl))
   exact ⟨E,D,m,bs o (h5 s q),bs q (dv (by decide) (show n<=n+n by omega)),i⟩
 | h + 1,t,c,b,g,a,n,d,f=>by
   have j:aD.eI ⟨h,t.1⟩ ⟨h+1,t⟩ := .push (J:=⟨h,t.1⟩) t.2 (.refl _)
   have z:=CK (g _ t (.refl _)) d
   have l:val t.1 (norm t a)≠0 := λ e=>f (by
     have h1:=(red b).2 a f
     have i:val t (inv t a)=val t.1 (mul t.1 a.1 (inv t.1 (norm t a)))+val t.1 (neg (mul t.1 a.2 (inv t.1 (norm t a))))*b5 (val t.1 t.2):=rfl
     have v:∀ (x:ah h),val t.1 x=0->val t.1 (inv t.1 x)=0 := λ x r=>by
       have:x=rat h 0:=(red b.1).1 x r
       have key:∀ {k:Nat} (u:aE k),u.bK->inv u (rat k 0)=rat k 0:=by
         intro k
         induction k with
         | zero=>intro u _;exact Rat.inv_zero
         | succ k C =>
           intro u hu
           have A:norm u (rat (k+1) 0)=rat k 0:=inj hu.1 (by rw [qO hu.1.pos,show val u.1 (rat (k+1) 0).1=0 from val_zero _,show val u.1 (rat (k+1) 0).2=0 from val_zero _,val_zero];grind)
           refine pj ?_ ?_
           show mul u.1 (rat k 0) (inv u.1 (norm u (rat (k+1) 0)))=rat k 0
           exact inj hu.1 (by rw [val_mul hu.1.pos,val_zero];grind)
           show neg (mul u.1 (rat k 0) (inv u.1 (norm u (rat (k+1) 0))))=rat k 0
           exact inj hu.1 (by rw [val_neg,val_mul hu.1.pos,val_zero];grind)
       rw [this,key t.1 b.1,val_zero]
     rw [i,val_neg,val_mul b.1.pos,val_mul b.1.pos,v _ e] at h1
     exfalso
     exact aC.zero_ne_one (by rw [<- h1];grind))
   have w:=Ua (c:=c) b.1 (λ k u hu=>g k u (hu.trans j)) z l
   exact ji (Ub (g _ t.1 j) (x:=a.1) (y:=a.2) d w) (by show n+gz c h (n+n+c)+c<=_;exact a4 _)
def Cq (c:Nat):∀ (h:Nat) {n m:Nat},n<=m->gz c h n<=gz c h m
 | 0,n,m,k=>by show n+n<=m+m;omega
 | h+1,n,m,k=>by
   have:=Cq c h (show n+n+c<=m+m+c by omega)
   show n+gz c h (n+n+c)+c<=m+gz c h (m+m+c)+c
   omega
def Tf (c:Nat):∀ (h n:Nat),h<=3->gz c h n<=23*n+41*c
 | 0,n,_=>by show n+n<=_;omega
 | 1,n,_=>by show n+(n+n+c+(n+n+c))+c<=_;omega
 | 2,n,_=>by show n+((n+n+c)+(n+n+c+(n+n+c)+c+(n+n+c+(n+n+c)+c))+c)+c<=_;omega
 | 3,n,_=>by
   show n+((n+n+c)+((n+n+c+(n+n+c)+c)+(n+n+c+(n+n+c)+c+(n+n+c+(n+n+c)+c)+c+(n+n+c+(n+n+c)+c+(n+n+c+(n+n+c)+c)+c))+c)+c)+c<=_
   omega
 | h+4,n,a=>by omega
def My {h:Nat} {a:ah h} {n:Nat} (b:ms a n):ms (add a a) (n+1):=by
 have ⟨D,B,p,q,s,k⟩:=b
 refine ⟨D,B+B,p,bs q (dv (by decide) (by omega)), ?_,k.add k⟩
 rw [ej];omega
def kH:{h:Nat}->aE h->Nat->Prop
 | 0,t,c=>t.bL c
 | _+1,t,c=>t.bL c/\kH t.1 c
def kH.bL:∀ {h:Nat} {t:aE h} {c:Nat},kH t c->t.bL c
 | 0,_,_,h=>h
 | _+1,_,_,h=>h.1
def wX : ∀ {h:Nat} {t:aE h} {c:Nat},1<=c->t.Pos->kH t c->∀ {a:ah h} {n:Nat},ms a n->val t a≠0->∃ b,val t b=(val t a)⁻¹ /\ ms b (gz c h n)
 | 0,t,c,_,_,_,a,n,l,f=>by
   have ⟨D,B,p,q,s,k⟩:=l
   have ⟨E,H,F,I⟩:=fE.inv k p (λ e=>f (by rw [e];rfl))
   refine ⟨Rat.inv a, ?_,E,D,H,bs F (h5 s q),bs q (dv (by decide) (show n<=n+n by omega)),I⟩
   have h1:=S7 a f
   have o:=Pc f
   show ek a⁻¹ = (ek a)⁻¹
   have w:ek a*(ek a)⁻¹ = 1:=o
   generalize (ek a)⁻¹ = i at *
   generalize ek a⁻¹ = j at *
   generalize ek a=x at *
   grind
 | h + 1,t,c,A,g,r,a,n,l,f=>by
   have C:=ui (x:=val t.1 t.2) (by have:=g.2;grind)
   have z:val t a=val t.1 a.1+val t.1 a.2*b5 (val t.1 t.2):=rfl
   have G:=Pc f
   have m:=qO (t:=t) g.1 a
   by_cases u:val t.1 (norm t a)=0
   have e:val t.1 a.1-val t.1 a.2*b5 (val t.1 t.2)=0:=by
     have:val t a*(val t.1 a.1-val t.1 a.2*b5 (val t.1 t.2))=0:=by
       rw [z]
       rw [m] at u
       generalize b5 (val t.1 t.2)=s at *
       rw [<- C] at u
       grind
     exact (JF this).resolve_left f
   have o:val t.1 (add a.1 a.1)=val t a:=by rw [val_add,z];grind
   have ⟨b,hb,v⟩:=wX A g.1 r.2 (My (w8 l).1) (by rw [o];exact f)
   rw [o] at hb
   refine ⟨(b,rat h 0), ?_, ?_⟩
   show val t.1 b+val t.1 (rat h 0)*_=_
   rw [val_zero,hb];grind
   have ⟨D,B,p,q,s,k⟩:=v
   have w:gz c h (n+1)<=gz c (h+1) n:=by
     have:=Cq c h (show n+1<=n+n+c by omega)
     show _<=n+gz c h (n+n+c)+c
     omega
   exact ⟨D,B,p,bs q (dv (by decide) w),bs s (dv (by decide) w),k,M.rat h fE.zero⟩
   have ⟨b,hb,v⟩:=wX A g.1 r.2 (CK r.1 l) u
   refine ⟨(mul t.1 a.1 b,neg (mul t.1 a.2 b)), ?_,Ub r.2.bL (x:=a.1) (y:=a.2) l v⟩
   show val t.1 (mul t.1 a.1 b)+val t.1 (neg (mul t.1 a.2 b))*b5 (val t.1 t.2)=_
   have d:=Pc u
   rw [<- hb] at d
   rw [val_neg,val_mul g.1,val_mul g.1]
   rw [m] at d
   rw [z] at G ⊢
   generalize (val t.1 a.1+val t.1 a.2*b5 (val t.1 t.2))⁻¹ = i at *
   generalize val t.1 b=y at *
   generalize b5 (val t.1 t.2)=s at *
   rw [<- C] at d
   grind
end Go.aF.ah
namespace Go.aF
structure cT where
 d:Nat
 M:aE d
 c:Nat
 C:Nat
 ok:aD->Prop
 hd:d<=3
 pos:M.Pos
 hc:1<=c
 Kw:ah.kH M c
 red:∀ {T:aD},ok T->T.bK
 ht:∀ {T:aD},ok T->T.1<=3
 nil:ok aD.nil
 ext:∀ {T U:aD},ok T->ok U->ok (T.ext U.2)
 pre:∀ {T U:aD},aD.eI T U->ok U->ok T
 bL:∀ {T:aD},ok T->ah.kH T.2 C
 ale:∀ {T:aD} {x:ah T.1},ok (T.push x)->ah.ms x C
 out:∀ {T:aD} {a:ah d} {n:Nat},ok T->T.In (aR M a)->ah.ms a n->ah.ms (T.bp (aR M a)) (n+C)
def hR (K:cT) (v:aC) (n:Nat):Prop:=∃ a,aR K.M a=v/\ah.ms a n
section
variable {K:cT} {v w:aC} {n m:Nat}
def hR.mono (h:hR K v n) (k:n<=m):hR K v m:=by
 obtain ⟨a,rfl,b⟩:=h
 exact ⟨a,rfl,ah.ji b k⟩
def hR.add (h:hR K v n) (k:hR K w m):hR K (v+w) (n+m+1):=by
 obtain ⟨a,rfl,c⟩:=h;obtain ⟨b,rfl,hb⟩:=k
 exact ⟨ah.add a b,ah.val_add _ _ _,ah.zw c hb⟩
def hR.neg (h:hR K v n):hR K (-v) n:=by
 obtain ⟨a,rfl,b⟩:=h
 exact ⟨kZ a,q9 _ _,ah.CJ b⟩
def hR.sub (h:hR K v n) (k:hR K w m):hR K (v-w) (n+m+1):=by
 rw [sG];exact h.add k.neg
def hR.mul (h:hR K v n) (k:hR K w m):hR K (v*w) (n+m+K.c):=by
 obtain ⟨a,rfl,d⟩:=h;obtain ⟨b,rfl,hb⟩:=k
 exact ⟨ah.mul K.M a b,ah.val_mul K.pos _ _,ah.w7 K.Kw.bL d hb⟩
def hR.inv (h:hR K v n):hR K v⁻¹ (23*n+41*K.c):=by
 obtain ⟨a,rfl,g⟩:=h
 by_cases e:aR K.M a=0
 exact ⟨cz K.d 0,by rw [e,aC.D8,om],ah.ji (ah.rV (n:=0) K.d (by decide) (by decide)) (et _)⟩
 have ⟨b,hb,f⟩:=ah.wX K.hc K.pos K.Kw g e
 exact ⟨b,hb,ah.ji f (ah.Tf _ _ _ K.hd)⟩
def hR.rat {q:Rat} (h1:q.num.natAbs<=2 ^ n) (a:q.den<=2 ^ n):hR K (ek q) n:=⟨cz _ q,sI _ _,ah.rV _ h1 a⟩
def hR.out {T:aD} (c:K.ok T) (d:T.In v) (h:hR K v n):ah.ms (T.bp v) (n+K.C):=by
 obtain ⟨a,rfl,b⟩:=h
 exact K.out c d b
end
end Go.aF
namespace Go.aF.aI
def G (K:cT) (a:aI) (n:Nat):Prop:=K.ok a.T/\hR K a.val n
section
variable {K:cT} {a b:aI} {n m:Nat}
def G.mono (h:G K a n) (k:n<=m):G K a m:=⟨h.1,h.2.mono k⟩
def G.red (h:G K a n):a.bK:=K.red h.1
def G.join (h:G K a n) (k:G K b m):K.ok (aI.join a b):=K.ext h.1 k.1
def G.add (h:G K a n) (k:G K b m):G K (aI.add a b) (n+m+1):=⟨h.join k,by rw [Ki h.red k.red];exact h.2.add k.2⟩
def G.sub (h:G K a n) (k:G K b m):G K (aI.sub a b) (n+m+1):=⟨h.join k,by rw [NL h.red k.red];exact h.2.sub k.2⟩
def G.mul (h:G K a n) (k:G K b m):G K (aI.mul a b) (n+m+K.c):=⟨h.join k,by rw [Hn h.red k.red];exact h.2.mul k.2⟩
def G.div (h:G K a n) (k:G K b m):G K (aI.div a b) (n+23*m+42*K.c):=⟨h.join k,by rw [div_val h.red k.red];exact (h.2.mul k.2.inv).mono (by omega)⟩
def G.neg (h:G K a n):G K (aI.neg a) n:=⟨h.1,by rw [Hs];exact h.2.neg⟩
def G.rat {q:Rat} (h1:q.num.natAbs<=2 ^ n) (c:q.den<=2 ^ n):G K (aI.rat q) n:=⟨K.nil,hR.rat h1 c⟩
def G.bp (h:G K a n) {T:aD} (d:K.ok T) (c:T.In a.val):ah.ms (T.bp a.val) (n+K.C):=h.2.out d c
def G.self (h:G K a n):ah.ms a.a (n+K.C):=by
 have:=h.bp h.1 ⟨a.a,rfl⟩
 have e:a.T.bp a.val=a.a:=aD.oI h.red rfl
 rwa [e] at this
end
end Go.aF.aI
namespace Go.aF
noncomputable def aE.vals:{h:Nat}->aE h->List aC
 | 0,_=>[]
 | _+1,t=>aR t.1 t.2::aE.vals t.1
end Go.aF
namespace Go.aF.aD
def Am:∀ {h:Nat} {t:aE h} {v:aC},v∈t.vals->In ⟨h,t⟩ v/\In ⟨h,t⟩ (b5 v)
 | 0,_,v,a=>by cases a
 | h+1,t,v,a=>by
   rcases cr.1 a with rfl | a
   exact ⟨In.push (T:=⟨h,t.1⟩) ⟨t.2,rfl⟩,In.root (T:=⟨h,t.1⟩)⟩
   have ⟨h1,b⟩:=Am (t:=t.1) a
   exact ⟨h1.push,b.push⟩
def sx:∀ {h:Nat} {t:aE h},t.bK->t.vals.Nodup
 | 0,_,_=>gm
 | h+1,t,a=>by
   refine iF.2 ⟨λ c => ?_,sx (t:=t.1) a.1⟩
   have ⟨w,d⟩:=(Am (t:=t.1) c).2
   refine a.2.2 w ?_
   have e:0<aR t.1 t.2:=a.2.1
   have b:aR t.1 w=b5 (aR t.1 t.2):=d
   rw [b]
   exact ui (by grind)
def xQ:∀ {h:Nat} {t:aE h},t.vals.length=h
 | 0,_=>rfl
 | h+1,t=>congrArg (· + 1) (xQ (t:=t.1))
def pM {α : Type}:∀ {l S:List α},l.Nodup->(∀ x∈l,x∈S)->l.length<=S.length
 | [],_,_,_=>et _
 | a :: l,S,b,d=>by
   obtain ⟨s,t,rfl⟩:=List.append_of_mem (d a (by simp))
   rw [iF] at b
   have:=pM (l:=l) (S:=s++t) b.2 λ x c=>by
     have:=d x (c5 _ c)
     simp only [en,cr] at this ⊢
     rcases this with h | rfl | h
     exact .inl h
     exact absurd c b.1
     exact .inr h
   simp only [cd,e6] at this ⊢
   omega
def Qa {T:aD} {x:ah T.1} {v:aC} (h:v∈(T.gH x).2.vals):v=aR T.2 x \/ v∈T.2.vals:=by
 by_cases a:T.In (b5 (aR T.2 x))
 rw [show T.gH x=T from if_pos a] at h;exact .inr h
 rw [show T.gH x=T.push x from if_neg a] at h;exact cr.1 h
def K5 {T:aD} (a:T.bK):∀ {k:Nat} {u:aE k},u.bK->∀ {v:aC},v∈(T.ext u).2.vals->v∈T.2.vals \/ v∈u.vals
 | 0,_,_,_,h => .inl h
 | k+1,u,hu,v,h=>by
   rcases Qa h with e | e
   right
   rw [m3 ((nS a hu.1).2.2 _ ⟨u.2,rfl⟩)] at e
   rw [e];exact cS
   rcases K5 a hu.1 e with e | e
   exact .inl e
   exact .inr (c5 _ e)
end Go.aF.aD
namespace Go.aF
def alk {w a:Rat} {D B:Nat} (h:w*w=a) (d:fE a D B) (e:0<D):w.num.natAbs<=B*D/\w.den<=D:=by
 have h1:=d.num e
 have hd:a.den=w.den*w.den/\a.num=w.num*w.num:=by
   subst h
   have c:(w.num*w.num).natAbs.gcd (w.den*w.den)=1:=by
     rw [l3]
     have b:=w.reduced
     exact Nat.Coprime.mul_left (Zq b b) (Zq b b)
   exact ⟨by rw [Rat.den_mul,c,Nat.div_one],by rw [Rat.num_mul,c];simp⟩
 have g:w.num.natAbs<=w.num.natAbs*w.num.natAbs:=AV _
 have f:w.den<=w.den*w.den:=AV _
 rw [hd.1,hd.2,l3] at h1
 omega
end Go.aF
namespace Go.aF.ah
def e9 (c:Nat):Nat->Nat->Nat
 | 0,n=>n+n
 | h+1,n=>e9 c h (n+e9 c h (n+n+c)+3+c)+(n+gz c h (e9 c h (n+e9 c h (n+n+c)+3+c)+1)+c)+e9 c h n+e9 c h (n+gz c h c+c)
def B1 (c:Nat):∀ (h:Nat) {n m:Nat},n<=m->e9 c h n<=e9 c h m
 | 0,n,m,k=>by show n+n<=m+m;omega
 | h+1,n,m,k=>by
   have e:=B1 c h (show n+n+c<=m+m+c by omega)
   have a:=B1 c h (show n+e9 c h (n+n+c)+3+c<=m+e9 c h (m+m+c)+3+c by omega)
   have f:=B1 c h k
   have b:=B1 c h (show n+gz c h c+c<=m+gz c h c+c by omega)
   have d:=Cq c h (Nat.add_le_add_right a 1)
   show _+(_+_+_)+_+_<=_+(_+_+_)+_+_
   omega
def Rd:{h:Nat}->aE h->Nat->Prop
 | 0,_,_=>True
 | _+1,t,c=>ms t.2 c/\Rd t.1 c
def kH.pre:∀ {T U:aD},aD.eI T U->∀ {c:Nat},kH U.2 c->kH T.2 c:=by
 intro T U h
 induction h with
 | refl=>intro c h;exact h
 | push x _ b=>intro c h;exact b h.2
def CI {h:Nat} {t:aE h} {c:Nat} (b:t.bK) (e:kH t c) {a:ah h} {n:Nat} (f:ms a n) (d:val t a≠0):ms (inv t a) (gz c h n) :=
 Ua b (λ k u hu=>(kH.pre hu e).bL) f d
def Gw:((1/2:Rat).num.natAbs=1/\(1/2:Rat).den=2):=by
 have h:(1/2:Rat)=⟨1,2,by decide,by decide⟩:=by kernel_rfl
 rw [h]
 exact ⟨rfl,rfl⟩
def B6 {h:Nat} {t:aE h} {c:Nat} (d:t.bL c) {a:ah h} {n:Nat} (b:ms a n):ms (mul t a (rat h (1/2))) (n+1+c) :=
 w7 d b (rV h (by rw [Gw.1];decide) (by rw [Gw.2];decide))
def I2 {h:Nat} {t:aE h} (c:t.Pos) (a:ah h):val t (mul t a (rat h (1/2)))=val t a/2:=by
 rw [val_mul c,tT]
 have b:ek (1/2)*ek 2=1:=by rw [aC.ofRat_mul,show (1/2:Rat)*2=1 by grind];exact CW
 have e:(2:aC)=ek 2:=rfl
 generalize ek (1/2)=i at *
 rw [<- e] at b
 grind
def sa : ∀ {h:Nat} {t:aE h} {c:Nat},t.bK->kH t c->Rd t c->∀ {a w:ah h} {n:Nat},val t w*val t w=val t a->ms a n->ms w (e9 c h n)
 | 0,t,c,_,_,_,a,w,n,u,m=>by
   have ⟨D,B,p,q,s,k⟩:=m
   have e:Rat.mul w w=a:=aC.Hy ((aC.ofRat_mul w w).symm.trans u)
   have ⟨h1,J⟩:=alk (w:=w) (a:=a) e k p
   exact rV 0 (bs h1 (h5 s q)) (bs J (bs q (dv (by decide) (show n<=n+n by omega))))
 | h + 1,t,c,b,d,j,a,w,n,u,m=>by
   have ⟨p,q⟩:=Dv b u
   have ⟨A,K⟩:=w8 m
   have f:=b.1.pos
   have l:val t.1 t.2≠0:=by have:=b.2.1;grind
   by_cases H:val t.1 a.2=0
   rw [H] at q
   have I:∀ x:ah h,val t.1 x=0->x=rat h 0:=(red b.1).1
   have G:ms (rat h 0) 0:=rV h (by decide) (by decide)
   rcases JF (x:=val t.1 w.1) (y:=val t.1 w.2) (by grind) with e | e
   have E:=I _ e
   have v:=(red b.1).2 _ l
   have F:val t.1 w.2*val t.1 w.2=val t.1 (mul t.1 a.1 (inv t.1 t.2)):=by
     rw [val_mul f, <- p,e]
     generalize val t.1 (inv t.1 t.2)=i at *
     generalize val t.1 t.2=r at *
     grind
   have k:=sa b.1 d.2 j.2 F (w7 d.2.bL A (CI b.1 d.2 j.1 l))
   have:w=(rat h 0,w.2):=pj E rfl
   rw [this]
   exact ji (vk G k) (by show _<=_+_+_+_;omega)
   have E:=I _ e
   have k:=sa (a:=a.1) (w:=w.1) b.1 d.2 j.2 (by rw [<- p,e];grind) A
   have:w=(w.1,rat h 0):=pj rfl E
   rw [this]
   exact ji (vk k G) (by show _<=_+_+_+_;omega)
   ·
     have C:val t.1 (add (mul t.1 w.1 w.1) (neg (mul t.1 (mul t.1 w.2 w.2) t.2)))=val t.1 w.1*val t.1 w.1-val t.1 w.2*val t.1 w.2*val t.1 t.2:=by
       rw [val_add,val_neg,val_mul f,val_mul f,val_mul f];grind
     generalize O:add (mul t.1 w.1 w.1) (neg (mul t.1 (mul t.1 w.2 w.2) t.2))=z at C
     have N:=sa (a:=norm t a) (w:=z) b.1 d.2 j.2 (by rw [C,qO f, <- p, <- q];grind) (CK d.1 m)
     have o:=sa (a:=mul t.1 (add a.1 z) (rat h (1/2))) (w:=w.1) b.1 d.2 j.2 (by rw [I2 f,val_add,C, <- p];grind) (B6 d.2.bL (zw A N))
     have o:=ji o (show e9 c h (n+e9 c h (n+n+c)+1+1+c)<=e9 c h (n+e9 c h (n+n+c)+3+c) from B1 c h (by omega))
     have g:val t.1 (add w.1 w.1)≠0:=by
       rw [val_add]
       intro e
       have:val t.1 w.1=0:=by grind
       rw [this] at q
       exact H (by rw [<- q];grind)
     have L:=CI b.1 d.2 (My o) g
     have F:w.2=mul t.1 a.2 (inv t.1 (add w.1 w.1)):=inj b.1 (by
       have v:=(red b.1).2 _ g
       rw [val_mul f, <- q]
       rw [val_add] at v
       generalize val t.1 (inv t.1 (add w.1 w.1))=i at *
       generalize val t.1 w.1=x at *
       generalize val t.1 w.2=y at *
       have:2*(x*y)*i=y*((x+x)*i):=by grind
       rw [this,v];grind)
     have:w=(w.1,mul t.1 a.2 (inv t.1 (add w.1 w.1))):=pj rfl F
     rw [this]
     exact ji (vk o (w7 d.2.bL K L)) (by show _<=_+_+_+_;omega)
open Classical in
noncomputable def comb:{h:Nat}->aE h->aC->ah h->ah h->ah h
 | 0,_,_,x,_=>x
 | _+1,t, ρ,x,y=>if val t.1 t.2 = ρ then (x.1,y.1) else (comb t.1 ρ x.1 y.1,comb t.1 ρ x.2 y.2)
def sU:{h:Nat}->aE h->aC->ah h->Prop
 | 0,_,_,_=>True
 | h+1,t, ρ,x=>(val t.1 t.2 = ρ -> x.2=rat h 0)/\(val t.1 t.2 ≠ ρ -> sU t.1 ρ x.1/\sU t.1 ρ x.2)
def CT:∀ {h:Nat} (t:aE h) (ρ : aC) (q:Rat),sU t ρ (rat h q)
 | 0,_,_,_=>trivial
 | h+1,t, ρ,q=>⟨λ _=>rfl, λ _=>⟨CT _ _ _,CT _ _ _⟩⟩
def Q0:∀ {h:Nat} (t:aE h) (ρ : aC),comb t ρ (rat h 0) (rat h 0)=rat h 0
 | 0,_,_=>rfl
 | h+1,t, ρ => by
   by_cases e:val t.1 t.2 = ρ
   exact if_pos e
   rw [show comb t ρ (rat (h+1) 0) (rat (h+1) 0)=(comb t.1 ρ (rat h 0) (rat h 0),comb t.1 ρ (rat h 0) (rat h 0)) from if_neg e,Q0];rfl
def I1:∀ {h:Nat} {t:aE h} {ρ : aC} {x y:ah h}, ρ ∈ t.vals->sU t ρ x->sU t ρ y->val t (comb t ρ x y)=val t x+val t y*b5 ρ
 | 0,_,_,_,_,h,_,_=>by cases h
 | h+1,t, ρ,x,y,i,g,c=>by
   have d:val t x=val t.1 x.1+val t.1 x.2*b5 (val t.1 t.2):=rfl
   have f:val t y=val t.1 y.1+val t.1 y.2*b5 (val t.1 t.2):=rfl
   by_cases e:val t.1 t.2 = ρ
   have b:comb t ρ x y=(x.1,y.1):=if_pos e
   rw [b,d,f,g.1 e,c.1 e,val_zero]
   show val t.1 x.1+val t.1 y.1*b5 (val t.1 t.2)=_
   rw [e];grind
   have b:comb t ρ x y=(comb t.1 ρ x.1 y.1,comb t.1 ρ x.2 y.2):=if_neg e
   have a : ρ ∈ t.1.vals:=(cr.1 i).resolve_left (λ h=>e h.symm)
   have ⟨x1,bF⟩:=g.2 e
   have ⟨j,k⟩:=c.2 e
   rw [b,d,f]
   show val t.1 (comb t.1 ρ x.1 y.1)+val t.1 (comb t.1 ρ x.2 y.2)*b5 (val t.1 t.2)=_
   rw [I1 a x1 j,I1 a bF k];grind
def E3:∀ {h:Nat} {t:aE h} {ρ : aC} {x y:ah h} {D B:Nat},M x D B->M y D B->M (comb t ρ x y) D B
 | 0,_,_,_,_,_,_,a,_=>a
 | h+1,t, ρ,x,y,D,B,a,b=>by
   by_cases e:val t.1 t.2 = ρ
   rw [show comb t ρ x y=(x.1,y.1) from if_pos e];exact ⟨a.1,b.1⟩
   rw [show comb t ρ x y=(comb t.1 ρ x.1 y.1,comb t.1 ρ x.2 y.2) from if_neg e];exact ⟨E3 a.1 b.1,E3 a.2 b.2⟩
def MI:∀ {h:Nat} {t:aE h} {ρ τ : aC} {x y:ah h}, τ ≠ ρ -> sU t τ x->sU t τ y->sU t τ (comb t ρ x y)
 | 0,_,_,_,_,_,_,_,_=>trivial
 | h+1,t, ρ, τ,x,y,a,b,c=>by
   by_cases e:val t.1 t.2 = ρ
   rw [show comb t ρ x y=(x.1,y.1) from if_pos e]
   have d:val t.1 t.2 ≠ τ := λ h=>a (h.symm.trans e)
   exact ⟨λ h=>absurd h d, λ _=>⟨(b.2 d).1,(c.2 d).1⟩⟩
   rw [show comb t ρ x y=(comb t.1 ρ x.1 y.1,comb t.1 ρ x.2 y.2) from if_neg e]
   refine ⟨λ h => ?_, λ h=>⟨MI a (b.2 h).1 (c.2 h).1,MI a (b.2 h).2 (c.2 h).2⟩⟩
   show comb t.1 ρ x.2 y.2=_
   rw [b.1 h,c.1 h,Q0]
noncomputable def pm {h:Nat} (J:aE h):{k:Nat}->aE k->ah k->ah h
 | 0,_,a=>rat h a
 | _+1,u,a=>comb J (val u.1 u.2) (pm J u.1 a.1) (pm J u.1 a.2)
def zO {h:Nat} {J:aE h}:∀ {k:Nat} {u:aE k},u.vals.Nodup->(∀ ρ ∈ u.vals, ρ ∈ J.vals)->∀ a:ah k,val J (pm J u a)=val u a/\(∀ τ, τ ∉ u.vals->sU J τ (pm J u a))/\∀ D B,M a D B->M (pm J u a) D B
 | 0,u,_,_,a=>⟨tT J a, λ τ _=>CT J τ a, λ D B c=>M.rat h c⟩
 | k+1,u,m,f,a=>by
   have ⟨g,d⟩:=iF.1 m
   have b:∀ ρ ∈ u.1.vals, ρ ∈ J.vals := λ ρ i=>f ρ (c5 _ i)
   have ⟨o,e,n⟩:=zO d b a.1
   have ⟨b1,b2,b3⟩:=zO d b a.2
   refine ⟨?_, λ τ j => ?_, λ D B c=>E3 (n D B c.1) (b3 D B c.2)⟩
   show val J (comb J _ _ _)=val u.1 a.1+val u.1 a.2*b5 (val u.1 u.2)
   rw [I1 (f _ cS) (e _ g) (b2 _ g),o,b1]
   have ⟨l,t2⟩:=not_or.1 (λ h=>j (cr.2 h))
   exact MI l (e _ t2) (b2 _ t2)
noncomputable def vb {h:Nat} (J:aE h) (R:aC->ah h):{k:Nat}->aE k->ah k->ah h
 | 0,_,a=>rat h a
 | _+1,u,a=>add (vb J R u.1 a.1) (mul J (vb J R u.1 a.2) (R (val u.1 u.2)))
def GR {h:Nat} {J:aE h} (c:J.Pos) {R:aC->ah h}:∀ {k:Nat} {u:aE k},(∀ ρ ∈ u.vals,val J (R ρ)=b5 ρ)->∀ a:ah k,val J (vb J R u a)=val u a
 | 0,_,_,a=>tT J a
 | k+1,u,d,a=>by
   have b:=GR c (R:=R) (u:=u.1) λ ρ e=>d ρ (c5 _ e)
   show val J (add _ (mul J _ _))=val u.1 a.1+val u.1 a.2*b5 (val u.1 u.2)
   rw [val_add,val_mul c,b,b,d _ cS]
def S5 {h:Nat} {J:aE h} {c r:Nat} (i:J.bL c) {R:aC->ah h}:∀ {k:Nat} {u:aE k},(∀ ρ ∈ u.vals,ms (R ρ) r)->∃ K L,0<K/\K<=2 ^ (k*(r+c+1))/\0<L/\L<=2 ^ (k*(r+c+1))/\∀ (a:ah k) (D B:Nat),M a D B->M (vb J R u a) (D*K) (B*L)
 | 0,_,_=>⟨1,1,by decide,by simp,by decide,by simp, λ a D B d=>by rw [mS,mS];exact M.rat h d⟩
 | k+1,u,g=>by
   have ⟨K,L,t,q,n,z,j⟩:=S5 i (u:=u.1) λ ρ x=>g ρ (c5 _ x)
   have ⟨E,F,s,p,f1,l⟩:=g _ cS
   have ⟨Δ,A,f,w,C⟩:=i
   have y:=f.pos
   refine ⟨K*(E * Δ),L*(1+F*A),oo t (oo s y.1), ?_,oo n (by omega), ?_, λ a D B d => ?_⟩
   rw [show (k+1)*(r+c+1)=k*(r+c+1)+(r+c+1) by rw [Nat.add_mul,Nat.one_mul]]
   exact h5 q (bs (h5 p w) (dv (by decide) (by omega)))
   rw [show (k+1)*(r+c+1)=k*(r+c+1)+(r+c+1) by rw [Nat.add_mul,Nat.one_mul]]
   refine h5 z ?_
   have:=h5 f1 C
   have h1:1<=2 ^ (r+c):=sJ
   rw [ej];omega
   have o:=j a.1 D B d.1
   have e:=M.mul f (j a.2 D B d.2) l
   have v:D*K*E * Δ = D*(K*(E * Δ)):=by simp only [eZ]
   have m:D*K*(E * Δ)=D*(K*(E * Δ)):=by simp only [eZ]
   have b:=o.pad (E * Δ) (a4 _)
   rw [m] at b
   rw [v] at e
   refine (b.add e).mono ?_
   rw [show B*L+B*L*F*A=B*(L*(1+F*A)) by rw [dC,mS,dC];simp only [eZ]]
   exact a4 _
def LV {h:Nat} {J:aE h} {c r:Nat} (g:J.bL c) {R:aC->ah h} {k:Nat} {u:aE k} (j:∀ ρ ∈ u.vals,ms (R ρ) r) {a:ah k} {n:Nat} (f:ms a n):ms (vb J R u a) (n+k*(r+c+1)):=by
 have ⟨K,L,l,e,m,i,d⟩:=S5 g j
 have ⟨D,B,p,q,s,b⟩:=f
 exact ⟨D*K,B*L,oo p l,h5 q e,h5 s i,d a D B b⟩
def M0 {h:Nat} {J:aE h} {k:Nat} {u:aE k} (c:u.vals.Nodup) (e:∀ ρ ∈ u.vals, ρ ∈ J.vals) {a:ah k} {n:Nat} (d:ms a n):ms (pm J u a) n:=by
 have ⟨D,B,p,q,s,b⟩:=d
 exact ⟨D,B,p,q,s,(zO c e a).2.2 D B b⟩
end Go.aF.ah
namespace Go.aF.aD
def KY {T J:aD} (h:eI T J) (c:J.bK) {v:aC} (d:T.In v) {n:Nat} (a:ah.ms (J.bp v) n):ah.ms (T.bp v) n:=by
 induction h with
 | refl=>exact a
 | @push J x g f =>
   refine f c.1 ?_
   have b:=g.in d
   have e:(J.push x).bp v=((J.bp v,cz J.1 0):ah (J.1+1)):=oI (T:=J.push x) c (by
     show aR J.2 (J.bp v)+aR J.2 (cz J.1 0)*_=v
     rw [m3 b,om];grind)
   rw [e] at a
   exact (ah.w8 a).1
end Go.aF.aD
namespace Go.aF
def aE.QH {h:Nat} {t:aE h} {c d:Nat} (k:t.bL c) (f:c<=d):t.bL d:=by
 have ⟨Δ,A,a,b,e⟩:=k
 exact ⟨Δ,A,a,bs b (dv (by decide) f),bs e (dv (by decide) f)⟩
end Go.aF
namespace Go.aF.ah
def kH.mono:∀ {h:Nat} {t:aE h} {c d:Nat},kH t c->c<=d->kH t d
 | 0,_,_,_,h,k=>aE.QH h k
 | _+1,_,_,_,h,k=>⟨aE.QH h.1 k,h.2.mono k⟩
def s9 (s:Nat):Nat->Nat
 | 0=>0
 | h+1=>s9 s h+s9 s h+s+2
def QO {s h:Nat} (a:h<=3):s9 s h<=7*s+14:=by
 match h,a with
 | 0,_=>exact et _
 | 1,_=>show 0+0+s+2<=_;omega
 | 2,_=>show (0+0+s+2)+(0+0+s+2)+s+2<=_;omega
 | 3,_=>show ((0+0+s+2)+(0+0+s+2)+s+2)+((0+0+s+2)+(0+0+s+2)+s+2)+s+2<=_;omega
def QI:∀ {h:Nat} {t:aE h} {s:Nat},Rd t s->t.bL (s9 s h)
 | 0,_,_,_=>aE.QJ
 | _+1,_,_,a=>aE.ab0 (QI a.2) a.1
def ab4 (s h:Nat):s9 s h<=s9 s (h+1):=by show _<=s9 s h+s9 s h+s+2;omega
def EY:∀ {h:Nat} {t:aE h} {s:Nat},Rd t s->kH t (s9 s h)
 | 0,_,_,_=>aE.QJ
 | h+1,_,s,a=>⟨QI a,(EY a.2).mono (ab4 s h)⟩
def Rd.mono:∀ {h:Nat} {t:aE h} {c d:Nat},Rd t c->c<=d->Rd t d
 | 0,_,_,_,_,_=>trivial
 | _+1,_,_,_,h,k=>⟨ji h.1 k,h.2.mono k⟩
def Gj (c h n:Nat):e9 c h n<=e9 c (h+1) n:=by show _<=_+_+e9 c h n+_;omega
def aik {h:Nat} {q:ah 0} {n:Nat} (e:ms q n):ms (rat h q) n:=by
 have ⟨D,B,a,b,c,d⟩:=e
 exact ⟨D,B,a,b,c,M.rat h d⟩
def al9 {h:Nat} {t:aE h} {ρ : aC} (a : ρ ∈ t.vals):∃ b,val t b=b5 ρ /\ ms b 0:=by
 refine ⟨comb t ρ (rat h 0) (rat h 1), ?_,1,1,by decide,by decide,by decide,E3 (M.rat h fE.zero) (M.rat h ⟨Nat.dvd_refl 1,by decide,by decide⟩)⟩
 rw [I1 a (CT t ρ 0) (CT t ρ 1),val_zero,tT,CW];grind
end Go.aF.ah
namespace Go.aF
def aD.M1:∀ {h:Nat} (t:aE h),aD.eI aD.nil ⟨h,t⟩
 | 0,_ => .refl _
 | h+1,t => .push (J:=⟨h,t.1⟩) t.2 (M1 t.1)
structure Src where
 S:List aC
 n:Nat
 H:Nat->aD
 x:(i:Nat)->ah (H i).1
 nodup:S.Nodup
 len:S.length<=3
 red:∀ i,i<S.length->(H i).bK
 sub:∀ i,i<S.length->∀ ρ ∈ (H i).2.vals, ρ ∈ S.take i
 val:∀ i (h:i<S.length),aR (H i).2 (x i)=S[i]
 ms:∀ i,i<S.length->ah.ms (x i) n
 pos:∀ ρ ∈ S,0 < ρ
end Go.aF
namespace Go.aF.Src
section
variable (Q:Src)
def ok (T:aD):Prop:=T.bK/\∀ ρ ∈ T.2.vals, ρ ∈ Q.S
variable {Q}
def na {i:Nat} (h:i<Q.S.length):Q.ok (Q.H i):=⟨Q.red i h, λ ρ a=>gq (Q.sub i h ρ a)⟩
def HE {T U:aD} (h:Q.ok T) (k:Q.ok U):Q.ok (T.ext U.2):=⟨(aD.nS h.1 k.1).1, λ ρ a=>(aD.K5 h.1 k.1 a).elim (h.2 ρ) (k.2 ρ)⟩
def UH {T U:aD} (h:aD.eI T U):Q.ok U->Q.ok T:=by
 induction h with
 | refl=>exact id
 | push x _ b=>exact λ hu=>b ⟨hu.1.1, λ ρ c=>hu.2 ρ (c5 _ c)⟩
def xk {T:aD} (h:Q.ok T):T.1<=3:=by
 have:=aD.pM (aD.sx h.1) h.2
 rw [aD.xQ] at this
 exact bs this Q.len
def agf {i:Nat} (h:i<Q.S.length):(Q.H i).In Q.S[i]:=⟨Q.x i,Q.val i h⟩
def Hv {i:Nat} (h:i<Q.S.length):Q.S[i] ∉ Q.S.take i := λ a=>by
 have ⟨j,b,e⟩:=fZ.1 a
 rw [cZ] at b
 rw [Zr] at e
 exact Zs.1 Q.nodup j i (by omega) h (by omega) e
def free {J:aD} (c:Q.ok J) {i:Nat} (h:i<Q.S.length) (a:∀ ρ ∈ (Q.H i).2.vals, ρ ∈ J.2.vals):ah.ms (J.bp Q.S[i]) Q.n:=by
 have b:=aD.sx (Q.red i h)
 have e:=(ah.zO b a (Q.x i)).1
 rw [Q.val i h] at e
 rw [aD.oI c.1 e]
 exact ah.M0 b a (Q.ms i h)
def Vw {J:aD} (c:Q.ok J) {i:Nat} (h:i<Q.S.length) (a:aD.nil.In Q.S[i]):ah.ms (J.bp Q.S[i]) Q.n:=by
 have h1:ah.ms ((Q.H i).bp Q.S[i]) Q.n:=by rw [aD.oI (Q.red i h) (Q.val i h)];exact Q.ms i h
 have b:=aD.KY (aD.M1 (Q.H i).2) (Q.red i h) a h1
 have e:J.bp Q.S[i]=cz J.1 (aD.nil.bp Q.S[i]):=aD.oI c.1 ((sI J.2 _).trans (aD.m3 a))
 rw [e]
 exact ah.aik b
def idx {ρ : aC} (h : ρ ∈ Q.S):∃ i,∃ h:i<Q.S.length,Q.S[i] = ρ := fZ.1 h
def c1 (Q:Src):Nat:=Q.n+2
def r1 (Q:Src):Nat:=ah.e9 Q.c1 1 Q.n
def e1 (Q:Src):Nat:=Q.n+3*(Q.r1+Q.c1+1)
def low {J:aD} (a:Q.ok J) (h1:J.1<=1):ah.Rd J.2 Q.n/\ah.kH J.2 Q.c1:=by
 have b:ah.Rd J.2 Q.n:=by
   have ⟨h,t⟩:=J
   match h,t,h1,a with
   | 0,_,_,_=>exact trivial
   | 1,t,_,a =>
     refine ⟨?_,trivial⟩
     have ⟨i,c,e⟩:=Q.idx (a.2 _ cS)
     have d:aD.nil.In Q.S[i]:=by rw [e];exact ⟨t.2,rfl⟩
     have:=Q.Vw (J:=aD.nil) ⟨trivial, λ ρ h=>by cases h⟩ c d
     rw [e,show aD.nil.bp (aR t.1 t.2)=t.2 from aD.oI (T:=aD.nil) trivial rfl] at this
     exact this
 refine ⟨b,(ah.EY b).mono ?_⟩
 have f:J.1=0 \/ J.1=1:=by omega
 rcases f with e | e<;>rw [e]
 exact et _
 show 0+0+Q.n+2<=Q.n+2;omega
def aiR {J:aD} (h:J.1=0) {v:aC} (b:J.In v):aD.nil.In v:=by
 have ⟨k,t⟩:=J
 match k,t,h,b with
 | 0,_,_,⟨a,e⟩=>exact ⟨a,e⟩
def aiT {J:aD} (h:J.1<=1) {v:aC} (a:v∈J.2.vals):aD.nil.In v:=by
 have ⟨k,t⟩:=J
 match k,t,h,a with
 | 1,t,_,a =>
   rcases cr.1 a with rfl | a
   exact ⟨t.2,rfl⟩
   cases a
def adF {l:List aC} (f:l.Nodup) {a b:aC} (g:a∈Q.S) (hb:b∈Q.S) (e:a≠b) (d:∀ ρ ∈ l, ρ ∈ Q.S /\ ρ ≠ a /\ ρ ≠ b):l.length<=1:=by
 have:=aD.pM (l:=a::b::l) (S:=Q.S) (by
   simp only [iF,cr,not_or]
   exact ⟨⟨e, λ h=>(d a h).2.1 rfl⟩, λ h=>(d b h).2.2 rfl,f⟩) (λ x c=>by
   simp only [cr] at c
   rcases c with rfl | rfl | c
   exact g
   exact hb
   exact (d x c).1)
 have:=Q.len
 simp only [e6] at *
 omega
def aeb {h:Nat} (c n:Nat) (a:h<=1):ah.e9 c h n<=ah.e9 c 1 n:=by
 have:h=0 \/ h=1:=by omega
 rcases this with rfl | rfl
 exact ah.Gj c 0 n
 exact a4 _
def gen {T:aD} (V:Q.ok T) {i:Nat} (h:i<Q.S.length) (hn:Q.S[i] ∉ T.2.vals) (K:T.In Q.S[i]):ah.ms (T.bp Q.S[i]) Q.e1:=by
 have f:=HE V (na h)
 have oJ:=aD.C4 T (Q.H i).2
 refine aD.KY oJ f.1 K ?_
 have v:=aD.nS V.1 (Q.red i h)
 have I:∀ ρ ∈ (T.ext (Q.H i).2).2.vals, ρ ∈ T.2.vals \/ ρ ∈ (Q.H i).2.vals := λ ρ d=>aD.K5 V.1 (Q.red i h) d
 generalize T.ext (Q.H i).2=J at *
 have u:Q.S[i] ∉ J.2.vals := λ s=>(I _ s).elim hn λ s=>Hv h (Q.sub i h _ s)
 by_cases A:∀ ρ ∈ (Q.H i).2.vals, ρ ∈ J.2.vals
 exact ah.ji (free f h A) (by show Q.n<=Q.n+_;omega)
 obtain ⟨M,A⟩:=Zt.1 A
 obtain ⟨y,P⟩:=Zu.1 A
 have D:=(na h).2 M y
 have C:Q.S[i]≠M := λ e=>Hv h (e▸Q.sub i h M y)
 have B:=adF (aD.sx f.1) (bc h) D C λ ρ d=>⟨f.2 ρ d, λ e=>u (e▸d), λ e=>P (e▸d)⟩
 rw [aD.xQ] at B
 obtain ⟨LL,t⟩:=low f B
 have db : ∀ ρ ∈ (Q.H i).2.vals,aR J.2 (J.bp (b5 ρ))=b5 ρ /\ ah.ms (J.bp (b5 ρ)) Q.r1 := λ ρ d=>by
   have r:=v.2.2 _ (aD.Am d).2
   have m:=v.2.2 _ (aD.Am d).1
   have p:=aD.m3 r
   refine ⟨p, ?_⟩
   obtain ⟨j,g,e⟩:=Q.idx ((na h).2 ρ d)
   subst e
   have s:ah.ms (J.bp Q.S[j]) Q.n:=by
     by_cases k:∀ σ ∈ (Q.H j).2.vals, σ ∈ J.2.vals
     exact free f g k
     obtain ⟨σ,k⟩:=Zt.1 k
     obtain ⟨q,Y⟩:=Zu.1 k
     have U:=(na g).2 σ q
     have O:Q.S[i]≠Q.S[j] := λ e=>Hv h (e▸Q.sub i h _ d)
     have E:Q.S[j] ≠ σ := λ e=>Hv g (e▸Q.sub j g σ q)
     have F:Q.S[i] ≠ σ := λ e=>by
       have h1:=Q.sub j g σ q
       have h2:=Q.sub i h _ d
       obtain ⟨a,ha,FP⟩:=fZ.1 h1
       obtain ⟨b,hb,X⟩:=fZ.1 h2
       rw [cZ] at ha hb
       rw [Zr] at FP X
       have N:=Zs.1 Q.nodup
       have aqS:b=j:=by
         rcases Nat.lt_trichotomy b j with hlt | Z | G
         exact absurd X (N b j (by omega) g hlt)
         exact Z
         exact absurd X.symm (N j b g (by omega) G)
       have W:a<i:=by omega
       exact N a i (by omega) h W (FP.trans e.symm)
     refine Vw f g ?_
     by_cases R:J.1=0
     exact aiR R m
     ·
       have o:J.2.vals.length=J.1:=aD.xQ
       obtain ⟨τ,z⟩:∃ τ, τ ∈ J.2.vals:=by
         cases hq:J.2.vals with
         | nil=>rw [hq] at o;simp at o;omega
         | cons a l=>exact ⟨a,cS⟩
       have L : τ = Q.S[j]:=by
         by_cases e : τ = Q.S[j]
         exact e
         exfalso
         have:=aD.pM (l:=[Q.S[i],Q.S[j], σ, τ]) (S:=Q.S) (by
           simp only [iF,cr,cX,or_false,not_or,not_false_eq_true,and_true,gm]
           exact ⟨⟨O,F, λ h=>u (h▸z)⟩,⟨E, λ h=>e h.symm⟩, λ h=>Y (h▸z)⟩) (λ x v=>by
           simp only [cr,cX,or_false] at v
           rcases v with rfl | rfl | rfl | rfl
           exact bc h
           exact bc g
           exact U
           exact f.2 _ z)
         have:=Q.len
         simp only [e6,List.length_nil] at *
         omega
       exact aiT B (L▸z)
   have hp:0<Q.S[j]:=Q.pos _ (bc g)
   have:=ah.sa (a:=J.bp Q.S[j]) (w:=J.bp (b5 Q.S[j])) f.1 t (LL.mono (show Q.n<=Q.n+2 by omega)) (by rw [p,aD.m3 m];exact ui (by grind)) s
   exact ah.ji this (aeb _ _ B)
 have e:J.bp Q.S[i]=ah.vb J.2 (λ ρ => J.bp (b5 ρ)) (Q.H i).2 (Q.x i):=aD.oI f.1 (by rw [ah.GR f.1.pos (λ ρ d=>(db ρ d).1),Q.val i h])
 rw [e]
 refine ah.ji (ah.LV t.bL (λ ρ d=>(db ρ d).2) (Q.ms i h)) ?_
 have h3:=xk (na h)
 have:(Q.H i).1*(Q.r1+Q.c1+1)<=3*(Q.r1+Q.c1+1):=c6 _ h3
 show _<=Q.n+3*(Q.r1+Q.c1+1)
 omega
end
section
variable {Q:Src}
def rd:∀ {h:Nat} {t:aE h},Q.ok ⟨h,t⟩->ah.Rd t Q.e1
 | 0,_,_=>trivial
 | h+1,t,a=>by
   have b:Q.ok ⟨h,t.1⟩:=UH (.push (J:=⟨h,t.1⟩) t.2 (.refl _)) a
   refine ⟨?_,rd b⟩
   have ⟨i,c,e⟩:=Q.idx (a.2 _ cS)
   have d:=(iF.1 (aD.sx a.1)).1
   have:=gen b c (by rw [e];exact d) (by rw [e];exact ⟨t.2,rfl⟩)
   rw [e,aD.oI (T:=⟨h,t.1⟩) b.1 rfl] at this
   exact this
def cc (Q:Src):Nat:=7*Q.e1+14
def FD {T:aD} (h:Q.ok T):ah.kH T.2 Q.cc:=(ah.EY (rd h)).mono (ah.QO (xk h))
def sb (Q:Src):Nat:=ah.e9 Q.cc 2 Q.e1
def Sj {h:Nat} (c n:Nat) (a:h<=2):ah.e9 c h n<=ah.e9 c 2 n:=by
 have:h=0 \/ h=1 \/ h=2:=by omega
 rcases this with rfl | rfl | rfl
 exact bs (ah.Gj c 0 n) (ah.Gj c 1 n)
 exact ah.Gj c 1 n
 exact a4 _
def roots {T:aD} (c:Q.ok T) {ρ : aC} (f : ρ ∈ Q.S) (e:T.In (b5 ρ)):ah.ms (T.bp (b5 ρ)) Q.sb:=by
 by_cases h : ρ ∈ T.2.vals
 have ⟨b,hb,m⟩:=ah.al9 h
 rw [aD.oI c.1 hb]
 exact ah.ji m (et _)
 obtain ⟨i,k,rfl⟩:=Q.idx f
 have p:0<Q.S[i]:=Q.pos _ f
 have j:=ui (x:=Q.S[i]) (by grind)
 have d:T.In Q.S[i]:=by rw [<- j];exact e.mul c.1 e
 have o:T.1<=2:=by
   have:=aD.pM (l:=Q.S[i]::T.2.vals) (S:=Q.S) (iF.2 ⟨h,aD.sx c.1⟩) (λ x g=>by
     rcases cr.1 g with rfl | g
     exact f
     exact c.2 _ g)
   have:=Q.len
   rw [e6,aD.xQ] at *
   omega
 have:=ah.sa (a:=T.bp Q.S[i]) (w:=T.bp (b5 Q.S[i])) c.1 (FD c) ((rd c).mono (by show Q.e1<=7*Q.e1+14;omega)) (by rw [aD.m3 e,aD.m3 d];exact j) (gen c k h d)
 exact ah.ji this (Sj _ _ o)
def Ms:∀ i,i<=Q.S.length->∃ M:aE i,M.Pos/\ah.Rd M Q.n/\∀ ρ, ρ ∈ M.vals ↔ ρ ∈ Q.S.take i
 | 0,_=>⟨(),trivial,trivial, λ ρ => by simp [aE.vals]⟩
 | i+1,a=>by
   have ⟨M,h1,g,c⟩:=Ms i (by omega)
   have b:=aD.sx (Q.red i a)
   have d:∀ ρ ∈ (Q.H i).2.vals, ρ ∈ M.vals := λ ρ f=>(c ρ).2 (Q.sub i a ρ f)
   have e:=(ah.zO b d (Q.x i)).1
   rw [Q.val i a] at e
   refine ⟨(M,ah.pm M (Q.H i).2 (Q.x i)),⟨h1, ?_⟩,⟨ah.M0 b d (Q.ms i a),g⟩, λ ρ => ?_⟩
   show 0<aR M (ah.pm M (Q.H i).2 (Q.x i))
   rw [e];exact Q.pos _ (bc a)
   show ρ ∈ aR M (ah.pm M (Q.H i).2 (Q.x i))::M.vals↔_
   rw [e,cr,c,iH a,en,bJ]
   exact Or.comm
def full {T:aD} (d:Q.ok T):∀ i,i<=Q.S.length->∃ U:aD,Q.ok U/\aD.eI T U/\∀ ρ ∈ Q.S.take i,U.In (b5 ρ)
 | 0,_=>⟨T,d, .refl T, λ ρ h=>by simp at h⟩
 | i+1,a=>by
   have ⟨U,h1,l,j⟩:=full d i (by omega)
   have f:=aD.nS h1.1 (Q.red i a)
   have g:=HE h1 (na a)
   have c:=f.2.2 _ (agf a)
   have e:=aD.m3 c
   have k:0<Q.S[i]:=Q.pos _ (bc a)
   refine ⟨(U.ext (Q.H i).2).gH ((U.ext (Q.H i).2).bp Q.S[i]),⟨aD.P8 g.1 (by rw [e];exact k), λ ρ b => ?_⟩,(l.trans (aD.C4 U _)).trans (aD.Kj _), λ ρ b => ?_⟩
   rcases aD.Qa b with h | h
   rw [h,e];exact bc a
   exact g.2 ρ h
   rw [iH a,en,bJ] at b
   rcases b with h | rfl
   exact aD.Fi (f.2.1 _ (j ρ h))
   have:=aD.P9 (T:=U.ext (Q.H i).2) (x:=(U.ext (Q.H i).2).bp Q.S[i])
   rwa [e] at this
def C (Q:Src):Nat:=3*(Q.sb+Q.cc+1)
def Rz:Q.e1<=Q.cc:=by show Q.e1<=7*Q.e1+14;omega
def QK:Q.cc<=Q.C:=by show Q.cc<=3*(Q.sb+Q.cc+1);omega
noncomputable def M (Q:Src):aE Q.S.length:=q7 (Ms (Q:=Q) Q.S.length (a4 _))
def E4:Q.M.Pos/\ah.Rd Q.M Q.n/\∀ ρ, ρ ∈ Q.M.vals ↔ ρ ∈ Q.S:=by
 have ⟨h1,c,b⟩:=oi (Ms (Q:=Q) Q.S.length (a4 _))
 exact ⟨h1,c, λ ρ => (b ρ).trans (by rw [gn])⟩
noncomputable def ctx (Q:Src):cT where
 d:=Q.S.length
 M:=Q.M
 c:=7*Q.n+14
 C:=Q.C
 ok:=Q.ok
 hd:=Q.len
 pos:=E4.1
 hc:=by omega
 Kw:=(ah.EY E4.2.1).mono (ah.QO Q.len)
 red h:=h.1
 ht:=xk
 nil:=⟨trivial, λ ρ h=>by cases h⟩
 ext:=HE
 pre:=UH
 bL h:=(FD h).mono QK
 ale h:=ah.ji (rd h).1 (bs Rz QK)
 out {T a n} r o m:=by
   obtain ⟨U,h1,j,g⟩:=full r Q.S.length (a4 _)
   rw [gn] at g
   refine aD.KY j h1.1 o ?_
   have i:∀ ρ ∈ Q.M.vals,aR U.2 (U.bp (b5 ρ))=b5 ρ /\ ah.ms (U.bp (b5 ρ)) Q.sb := λ ρ b=>by
     have f:=(E4.2.2 ρ).1 b
     exact ⟨aD.m3 (g ρ f),roots h1 f (g ρ f)⟩
   have e:U.bp (aR Q.M a)=ah.vb U.2 (λ ρ => U.bp (b5 ρ)) Q.M a:=aD.oI h1.1 (ah.GR h1.1.pos (λ ρ b=>(i ρ b).1) a)
   rw [e]
   refine ah.ji (ah.LV (FD h1).bL (λ ρ b=>(i ρ b).2) m) ?_
   have:Q.S.length*(Q.sb+Q.cc+1)<=3*(Q.sb+Q.cc+1):=c6 _ Q.len
   show n+_<=n+3*(Q.sb+Q.cc+1)
   omega
def agi {a:aI} {n:Nat} (h:Q.ok a.T) (e:ah.ms a.a n):aI.G Q.ctx a n:=by
 have c:=aD.sx h.1
 have b:∀ ρ ∈ a.T.2.vals, ρ ∈ Q.M.vals := λ ρ d=>(E4.2.2 ρ).2 (h.2 ρ d)
 exact ⟨h,ah.pm Q.M a.T.2 a.a,(ah.zO c b a.a).1,ah.M0 c b e⟩
end
end Go.aF.Src
namespace Go.aF.ah
def flat:{h:Nat}->ah h->List Rat
 | 0,a=>[a]
 | _+1,a=>flat a.1++flat a.2
def yU:∀ {h:Nat} (a:ah h),(flat a).length=2 ^ h
 | 0,_=>rfl
 | h+1,a=>by
   show (flat a.1++flat a.2).length=_
   rw [cd,yU,yU,ej];omega
def F2:∀ {h:Nat} {a b:ah h},flat a=flat b->a=b
 | 0,a,b,e=>(Zv e).1
 | h+1,a,b,e=>by
   have h1:=Zw e ((yU a.1).trans (yU b.1).symm)
   exact pj (F2 h1.1) (F2 h1.2)
def J8:∀ {h:Nat} {a:ah h} {D B:Nat},M a D B->∀ q∈flat a,fE q D B
 | 0,_,_,_,h,q,b=>by rcases bJ.1 b with rfl;exact h
 | _+1,_,_,_,h,q,b=>(en.1 b).elim (J8 h.1 q) (J8 h.2 q)
def amU {q:Rat} {n k:Nat} (h1:q.num.natAbs<=2 ^ n*2 ^ n) (c:q.den<=2 ^ n) (a:n+n<32*k):cI k q:=by
 have e:af ^ k=2 ^ (32*k):=by rw [show af=2 ^ 32 from rfl, <- Nat.pow_mul]
 have b:2 ^ n*2 ^ n<2 ^ (32*k):=by rw [<- gC];exact vH (by decide) a
 have d:2 ^ n<2 ^ (32*k):=vH (by decide) (by omega)
 exact ⟨iV (by rw [e];omega),iV (by rw [e];omega)⟩
def Uc {h:Nat} {a:ah h} {n k:Nat} (f:ms a n) (c:n+n<32*k):∀ q∈flat a,cI k q := λ q e=>by
 have ⟨D,B,p,d,b,m⟩:=f
 have ⟨h1,g⟩:=(J8 m q e).num p
 exact amU (bs h1 (lH b d)) (bs g d) c
def Mx:∀ {h:Nat} {a:ah h} {n:Nat},(∀ q∈flat a,q.num.natAbs<=2 ^ n/\q.den<=2 ^ n)->ms a (2 ^ h*n)
 | 0,a,n,h=>by
   have:=h a (bJ.2 rfl)
   rw [show 2 ^ 0*n=n by simp]
   exact rV 0 this.1 this.2
 | h+1,a,n,c=>by
   have h1:=Mx (a:=a.1) λ q b=>c q (nB _ b)
   have d:=Mx (a:=a.2) λ q b=>c q (qY _ b)
   have:=vk (x:=a.1) (y:=a.2) h1 d
   rw [show 2 ^ (h+1)*n=2 ^ h*n+2 ^ h*n by rw [ej,eZ,dF 2 n, <- eZ];omega]
   exact this
end Go.aF.ah
namespace Go.aF
def aE.ay:{h:Nat}->aE h->List (List Rat)
 | 0,_=>[]
 | _+1,t=>aE.ay t.1++[ah.flat t.2]
def aE.zU:∀ {h:Nat} (t:aE h),t.ay.length=h
 | 0,_=>rfl
 | h+1,t=>by show (aE.ay t.1++[_]).length=_;rw [cd,aE.zU];rfl
def aE.Nc:∀ {h:Nat} {t u:aE h},t.ay=u.ay->t=u
 | 0,_,_,_=>rfl
 | h+1,t,u,e=>by
   have h1:=Zw e ((aE.zU t.1).trans (aE.zU u.1).symm)
   exact pj (aE.Nc h1.1) (ah.F2 (Zv h1.2).1)
def bb (l:List Rat):aa := .sl 4 (l.map aV)
def a3 (R:List (List Rat)):aa := .sl 1 (R.map bb)
def aJ {h:Nat} (a:ah h):aa:=bb (ah.flat a)
def aw (n:aI):aa := .agg [a3 n.T.2.ay,aJ n.a]
instance {l:List Rat}:bg (bb l):=bg.rows (f:=aV) (λ x=>inferInstance) (λ q c hc=>Ke q c hc) l
instance {h:Nat} {a:ah h}:bg (aJ a):=by unfold aJ;infer_instance
def C7 (l:List Rat):∀ c∈(bb l).cells,b8 c := λ c hc=>by
 have:(bb l).cells=[bb l]:=rfl
 rw [this,bJ] at hc
 subst hc
 exact bg.pure
instance {R:List (List Rat)}:bg (a3 R):=bg.rows (f:=bb) (λ x=>inferInstance) (λ l c hc=>C7 l c hc) R
instance {n:aI}:bg (aw n):=by unfold aw;infer_instance
abbrev ar:=Bool × aI
end Go.aF
namespace Go.aF.ar
def T (x:ar):aa:=aw x.2
instance {x:ar}:bg x.T:=by unfold T;infer_instance
noncomputable def add (a b:ar):ar:=(true,a.2.add b.2)
noncomputable def sub (a b:ar):ar:=(true,a.2.sub b.2)
noncomputable def mul (a b:ar):ar:=(true,a.2.mul b.2)
noncomputable def div (a b:ar):ar:=(true,a.2.div b.2)
noncomputable def neg (a:ar):ar:=(a.1,a.2.neg)
def rat (q:Rat):ar:=(true,aI.rat q)
open Classical in
noncomputable def b9 (a:ar):Bool:=decide (a.2.val=0)
def oT {a:ar}:a.b9=true↔a.2.val=0:=by unfold b9;exact @decide_eq_true_iff _ (AW _)
def G (K:cT) (n:Nat) (a:ar):Prop:=aI.G K a.2 n
section
variable {K:cT} {a b:ar} {n m:Nat}
def G.mono (h:G K n a) (k:n<=m):G K m a:=aI.G.mono h k
def G.add (h:G K n a) (k:G K m b):G K (n+m+1) (a.add b):=aI.G.add h k
def G.sub (h:G K n a) (k:G K m b):G K (n+m+1) (a.sub b):=aI.G.sub h k
def G.mul (h:G K n a) (k:G K m b):G K (n+m+K.c) (a.mul b):=aI.G.mul h k
def G.div (h:G K n a) (k:G K m b):G K (n+23*m+42*K.c) (a.div b):=aI.G.div h k
def G.neg (h:G K n a):G K n a.neg:=aI.G.neg h
def G.zero:G K n (rat 0):=aI.G.rat (q:=0) (et _) (sJ)
def G.one:G K n (rat 1):=aI.G.rat (q:=1) (sJ) (sJ)
end
end Go.aF.ar
namespace Go.aF
def aj (l:List ar):aa := .sl 2 (l.map ar.T)
def cv (K:cT) (n:Nat) (l:List ar):Prop:=∀ x∈l,x.G K n
def bw (K:cT) (n w:Nat) (m:List (List ar)):Prop:=∀ r∈m,r.length=w/\cv K n r
section
variable {K:cT} {n m w:Nat}
def cv.mono {l:List ar} (h:cv K n l) (k:n<=m):cv K m l := λ x a=>(h x a).mono k
def bw.mono {M:List (List ar)} (h:bw K n w M) (k:n<=m):bw K m w M := λ r a=>⟨(h r a).1,(h r a).2.mono k⟩
def cv.get {l:List ar} (h:cv K n l) {i:Nat}:(l.getD i (ar.rat 0)).G K n:=by
 rw [dJ]
 by_cases a:i<l.length
 rw [du a];exact h _ (bc a)
 rw [uh (by omega)];exact ar.G.zero
def bw.get {M:List (List ar)} (h:bw K n w M) {i:Nat} (a:i<M.length):(M.getD i []).length=w/\cv K n (M.getD i []):=by
 rw [dJ,du a];exact h _ (bc a)
noncomputable def jd (a b:List ar):ar:=(yb a b).foldl (λ s p=>s.add (p.1.mul p.2)) (ar.rat 0)
def Rn {n m:Nat}:∀ (l:List (ar × ar)),(∀ p∈l,p.1.G K n/\p.2.G K m)->∀ {s:ar} {t:Nat},s.G K t->(l.foldl (λ s p=>s.add (p.1.mul p.2)) s).G K (t+l.length*(n+m+K.c+1))
 | [],_,s,t,a=>a.mono (by simp)
 | p::l,h,s,t,a=>by
   have h1:=h p cS
   have b:=a.add (h1.1.mul h1.2)
   have:=Rn l (λ q d=>h q (c5 _ d)) b
   refine this.mono ?_
   rw [e6,jN];omega
def BH {a b:List ar} (e:cv K n a) (hb:cv K m b):(jd a b).G K (a.length*(n+m+K.c+1)):=by
 have:=Rn (K:=K) (n:=n) (m:=m) (yb a b) (λ p d=>⟨e _ (vJ d).1,hb _ (vJ d).2⟩) (ar.G.zero (K:=K) (n:=0))
 refine this.mono ?_
 rw [c4,Zx]
 exact c6 _ (Zy _ _)
noncomputable def g9 (a b:List ar) (x:ar):List ar:=List.zipWith (λ p q=>p.sub (q.mul x)) a b
noncomputable def iR (a:List ar) (x:ar):List ar:=a.map (·.div x)
def Nu {a:List ar} {x:ar} (b:cv K n a) (d:x.G K n):cv K (24*n+42*K.c) (iR a x) := λ y e=>by
 obtain ⟨z,f,rfl⟩:=bn.1 e
 exact ((b z f).div d).mono (by omega)
def aia {a b:List ar} {x:ar} (h:cv K n a) (hb:cv K m b) (f:x.G K n):cv K (n+n+m+K.c+1) (g9 a b x) := λ y d=>by
 obtain ⟨p,q,e,g,rfl⟩:∃ p q,p∈a/\q∈b/\y=p.sub (q.mul x):=by
   unfold g9 at d
   obtain ⟨i,j,rfl⟩:=fZ.1 d
   have k:=j
   rw [k0] at k
   exact ⟨a[i]'(by omega),b[i]'(by omega),bc _,bc _,vK⟩
 exact ((h p e).sub ((hb q g).mul f)).mono (by omega)
def iC {α : Type} [Inhabited α] (l:List α) (i j:Nat):List α := (l.set i (l.getD j default)).set j (l.getD i default)
noncomputable def fu (rows:List (List ar)) (top k:Nat):Nat:=top+(rows.drop top).findIdx (λ r => !(r.getD k (ar.rat 0)).b9)
noncomputable def fc (st:List (List ar) × List Nat) (k:Nat):List (List ar) × List Nat :=
 let top:=st.2.length
 let p:=fu st.1 top k
 if p<st.1.length then
   let a:=iC st.1 top p
   let row:=iR (a.getD top []) ((a.getD top []).getD k (ar.rat 0))
   let b:=a.set top row
   (b.mapIdx (λ i r=>if i != top && !(r.getD k (ar.rat 0)).b9 then g9 r row (r.getD k (ar.rat 0)) else r),st.2++[k])
 else st
def dT (m:List (List ar)):Nat:=(m.headD []).length
noncomputable def bI (m:List (List ar)):List (List ar) × List Nat:=(ba (dT m)).foldl fc (m,[])
def grow (K:cT):Nat->Nat->Nat
 | 0,n=>n
 | j+1,n=>26*grow K j n+43*K.c+1
def aec (j n:Nat):grow K j n<=grow K (j+1) n:=by show _<=26*grow K j n+43*K.c+1;omega
def wL {i j n:Nat} (h:i<=j):grow K i n<=grow K j n:=by
 induction h with
 | refl=>exact a4 _
 | step _ a=>exact bs a (aec _ _)
def NM {α : Type} [Inhabited α] (l:List α) (i j:Nat):(iC l i j).length=l.length:=by unfold iC;rw [ju,ju]
def anr {α : Type} [Inhabited α] {l:List α} {i j:Nat} (a:i<l.length) (c:j<l.length) {x : α} (b:x∈iC l i j):x∈l:=by
 unfold iC at b
 have e:l.getD j default∈l:=by rw [dJ,du c];exact bc c
 have d:l.getD i default∈l:=by rw [dJ,du a];exact bc a
 rcases AO b with h | rfl
 rcases AO h with h | rfl
 exact h
 exact e
 exact d
def bw.swap {M:List (List ar)} (h:bw K n w M) {i j:Nat} (a:i<M.length) (c:j<M.length):bw K n w (iC M i j) := λ r b=>h r (anr a c b)
def HP (rows:List (List ar)) (top k:Nat):top<=fu rows top k:=Nat.le_add_right _ _
structure wu (K:cT) (n w h k:Nat) (st:List (List ar) × List Nat):Prop where
 len:st.1.length=h
 qB:bw K (grow K st.2.length n) w st.1
 pl:st.2.length<=h
 lt:∀ p∈st.2,p<k
 Kl:st.2.Pairwise (· < ·)
def alG {h k:Nat} {st:List (List ar) × List Nat} (H:wu K n w h k st):wu K n w h (k+1) (fc st k):=by
 unfold fc
 simp only
 split
 . next d =>
   have q:st.2.length<st.1.length:=gB (HP _ _ _) d
   have g:=H.qB.swap (i:=st.2.length) (j:=fu st.1 st.2.length k) q d
   have o:=NM st.1 st.2.length (fu st.1 st.2.length k)
   have g1:=g.get (i:=st.2.length) (by rw [o];exact q)
   have g2:=Nu g1.2 (g1.2.get (i:=k))
   refine ⟨by rw [List.length_mapIdx,ju,o];exact H.len, ?_,by rw [cd];simp;have:=H.len;omega, ?_, ?_⟩
   rw [show (st.2++[k]).length=st.2.length+1 by simp]
   intro r s
   obtain ⟨i,l,rfl⟩:=List.mem_mapIdx.1 s
   rw [ju] at l
   rw [List.getElem_set]
   show _/\cv K (26*grow K st.2.length n+43*K.c+1) _
   by_cases e:st.2.length=i
   have u:(i != st.2.length)=false:=by rw [e];exact bne_self_eq_false i
   rw [u,if_pos e]
   exact ⟨(aM ..).trans g1.1,g2.mono (by omega)⟩
   rw [if_neg e]
   have f:=g _ (bc l)
   split
   refine ⟨?_,(aia f.2 g2 f.2.get).mono (by omega)⟩
   unfold g9 iR
   rw [k0,aM,f.1,g1.1,Nat.min_self]
   exact ⟨f.1,f.2.mono (by omega)⟩
   intro p d
   rcases en.1 d with h | h
   have:=H.lt p h;omega
   rw [bJ.1 h];omega
   rw [List.pairwise_append]
   exact ⟨H.Kl,List.pairwise_singleton _ _, λ a t b hb=>by rw [bJ.1 hb];exact H.lt a t⟩
 exact ⟨H.len,H.qB,H.pl, λ p d=>by have:=H.lt p d;omega,H.Kl⟩
def H6 {h:Nat} {M:List (List ar)} (a:bw K n w M) (e:M.length=h):∀ k,wu K n w h k ((ba k).foldl fc (M,[]))
 | 0=>⟨e,a,et _, λ p b=>(cX b).elim,List.Pairwise.nil⟩
 | k+1=>by
   rw [List.range_succ,List.foldl_append]
   exact alG (H6 a e k)
def mz {M:List (List ar)} (a:bw K n w M):wu K n w M.length (dT M) (bI M):=H6 a rfl _
def jG {M:List (List ar)} (a:bw K n w M) (h:M≠[]):dT M=w:=by
 cases M with
 | nil=>exact absurd rfl h
 | cons r M=>exact (a r cS).1
def acv:dT []=0:=rfl
def aaO {l:List Nat} {k:Nat} (h:l.Pairwise (· < ·)) (a:∀ p∈l,p<k):l.length<=k:=by
 have c:l.Nodup:=h.imp λ h=>Nat.ne_of_lt h
 have:=aD.pM (S:=ba k) c λ x b=>cR.2 (a x b)
 rwa [dZ] at this
def wu.le {h k:Nat} {st:List (List ar) × List Nat} (H:wu K n w h k st):st.2.length<=k:=aaO H.Kl H.lt
def eM (n:Nat) (i:Option Nat):List ar:=(ba n).map λ k=>if some k=i then ar.rat 1 else ar.rat 0
def nw (n:Nat) (i:Option Nat):(eM n i).length=n:=by unfold eM;rw [aM,dZ]
def IU (w:Nat) (i:Option Nat):cv K n (eM w i) := λ x a=>by
 obtain ⟨k,_,rfl⟩:=bn.1 a
 split
 exact ar.G.one
 exact ar.G.zero
def jK (n:Nat):List (List ar):=(ba n).map λ i=>eM n (some i)
def zg (w:Nat):bw K n w (jK w) := λ r a=>by
 obtain ⟨k,_,rfl⟩:=bn.1 a
 exact ⟨nw _ _,IU _ _⟩
def wV (w:Nat):(jK w).length=w:=by unfold jK;rw [aM,dZ]
def cv.set {l:List ar} {x:ar} {i:Nat} (h:cv K n l) (b:x.G K n):cv K n (l.set i x) := λ y a=>by
 rcases AO a with h1 | rfl
 exact h y h1
 exact b
def bw.at {M:List (List ar)} (h:bw K n w M) {i k:Nat}:((M.getD i []).getD k (ar.rat 0)).G K n:=by
 by_cases a:i<M.length
 exact (h.get a).2.get
 rw [dJ (l:=M),uh (by omega)]
 exact ar.G.zero
noncomputable def ni (f:Nat->ar):List Nat->Nat->List ar->List ar
 | [],_,x=>x
 | p::l,i,x=>ni f l (i+1) (x.set p (f i))
def HW {f:Nat->ar} (a:∀ i,(f i).G K n):∀ (l:List Nat) (i:Nat) {x:List ar},cv K n x->(ni f l i x).length=x.length/\cv K n (ni f l i x)
 | [],_,x,h=>⟨rfl,h⟩
 | p::l,i,x,h=>by
   have:=HW a l (i+1) (x:=x.set p (f i)) (h.set (a i))
   rw [ju] at this
   exact this
noncomputable def pK (M:List (List ar)):List (List ar) :=
 ((ba (dT M)).filter λ k => !(bI M).2.contains k).map λ k=>ni (λ i=>(((bI M).1.getD i []).getD k (ar.rat 0)).neg) (bI M).2 0 (eM (dT M) (some k))
def Tt {M:List (List ar)} (a:bw K n w M) {j:Nat} (b:(bI M).2.length<=j):bw K (grow K j n) (dT M) (pK M) := λ r c=>by
 obtain ⟨k,_,rfl⟩:=bn.1 c
 have H:=mz a
 have:=HW (K:=K) (n:=grow K j n) (f := λ i=>(((bI M).1.getD i []).getD k (ar.rat 0)).neg) (λ i=>((H.qB.mono (wL b)).at).neg) (bI M).2 0 (IU (dT M) (some k))
 rw [nw] at this
 exact this
def dH (A B:List (List ar)):List (List ar):=List.zipWith (· ++ ·) A B
def uM {A B:List (List ar)} {v:Nat} (c:bw K n w A) (d:bw K n v B):bw K n (w+v) (dH A B) := λ r a=>by
 unfold dH at a
 obtain ⟨i,f,rfl⟩:=fZ.1 a
 have g:=f
 rw [k0] at g
 rw [vK]
 have h1:=c _ (bc (show i<A.length by omega))
 have b:=d _ (bc (show i<B.length by omega))
 exact ⟨by rw [cd,h1.1,b.1], λ x e=>(en.1 e).elim (h1.2 x) (b.2 x)⟩
noncomputable def oa (M:List (List ar)) (b:List ar):Option (List ar) :=
 let R:=bI (dH M (b.map λ x=>[x]))
 if R.2.contains (dT M) then none else some (ni (λ i=>(R.1.getD i []).getD (dT M) (ar.rat 0)) R.2 0 (eM (dT M) none))
def Wx {M:List (List ar)} {b:List ar} (c:bw K n w M) (hb:cv K n b) {j:Nat} (d:w+1<=j) {x:List ar} (e:oa M b=some x):x.length=dT M/\cv K (grow K j n) x:=by
 unfold oa at e
 simp only at e
 split at e
 cases e
 cases e
 have g:bw K n 1 (b.map λ x=>[x]) := λ r l=>by
   obtain ⟨x,k,rfl⟩:=bn.1 l
   exact ⟨rfl, λ y h=>by rw [bJ.1 h];exact hb x k⟩
 have a:=uM c g
 have H:=mz a
 have h1:(bI (dH M (b.map λ x=>[x]))).2.length<=j:=by
   refine bs H.le ?_
   by_cases e:dH M (b.map λ x=>[x])=[]
   rw [e,acv];exact et _
   rw [jG a e];exact d
 have:=HW (K:=K) (n:=grow K j n) (f := λ i=>((bI (dH M (b.map λ x=>[x]))).1.getD i []).getD (dT M) (ar.rat 0)) (λ i=>(H.qB.mono (wL h1)).at) (bI (dH M (b.map λ x=>[x]))).2 0 (IU (dT M) none)
 rw [nw] at this
 exact this
noncomputable def nZ (M:List (List ar)):List (List ar):=(bI (dH M (jK M.length))).1.map λ r=>r.drop M.length
def S9 {M:List (List ar)} (c:bw K n w M) {j:Nat} (h:M.length<=j):(nZ M).length=M.length/\bw K (grow K j n) w (nZ M):=by
 have d:=uM c (zg (K:=K) (n:=n) M.length)
 have b:(dH M (jK M.length)).length=M.length:=by unfold dH;rw [k0,wV,Nat.min_self]
 have H:=mz d
 have h1:=H.pl
 rw [b] at h1
 refine ⟨by unfold nZ;rw [aM,H.len,b], λ r g => ?_⟩
 obtain ⟨x,f,rfl⟩:=bn.1 g
 have a:=H.qB x f
 exact ⟨by rw [List.length_drop,a.1];omega, λ y e=>((a.2 y (rk e)).mono (wL (bs h1 h)))⟩
noncomputable def cW (M:List (List ar)) (ord:List Nat):List Nat :=
 ord.foldl (λ c k=>let l:=(c++[k]).map λ i=>M.getD i [];if (bI l).2.length=l.length then c++[k] else c) []
def bw.sub {M:List (List ar)} (a:bw K n w M) {c:List Nat} (hc:∀ i∈c,i<M.length):bw K n w (c.map λ i=>M.getD i []) := λ r b=>by
 obtain ⟨i,d,rfl⟩:=bn.1 b
 exact a.get (hc i d)
def MX {M:List (List ar)} (b:bw K n w M):∀ (ord c:List Nat),(∀ k∈ord,k<M.length)->(∀ k∈c,k<M.length)->c.length<=w->(∀ k∈ord.foldl (λ c k=>let l:=(c++[k]).map λ i=>M.getD i [];if (bI l).2.length=l.length then c++[k] else c) c,k<M.length)/\(ord.foldl (λ c k=>let l:=(c++[k]).map λ i=>M.getD i [];if (bI l).2.length=l.length then c++[k] else c) c).length<=w
 | [],c,_,hc,d=>⟨hc,d⟩
 | k :: ord,c,ho,hc,d=>by
   rw [oq]
   simp only
   split
   . next e =>
     have h1:∀ i∈c++[k],i<M.length := λ i a=>(en.1 a).elim (hc i) λ h=>by rw [bJ.1 h];exact ho k cS
     have f:=b.sub h1
     have H:=(mz f).le
     rw [jG f (by simp),e,aM] at H
     exact MX b ord _ (λ i a=>ho i (c5 _ a)) h1 H
   exact MX b ord c (λ i a=>ho i (c5 _ a)) hc d
def r5 {M:List (List ar)} (a:bw K n w M) {ord:List Nat} (ho:∀ k∈ord,k<M.length):(∀ k∈cW M ord,k<M.length)/\(cW M ord).length<=w:=MX a ord [] ho (λ k b=>by cases b) (et _)
def iy (M:List (List ar)) (k:Nat):List ar:=M.map λ r=>r.getD k (ar.rat 0)
def er (M:List (List ar)):List (List ar):=(ba (dT M)).map (iy M)
def QZ {M:List (List ar)} (a:bw K n w M) (k:Nat):cv K n (iy M k) := λ x b=>by
 obtain ⟨r,c,rfl⟩:=bn.1 b
 exact (a r c).2.get
def Aj {M:List (List ar)} (a:bw K n w M):bw K n M.length (er M) := λ r b=>by
 obtain ⟨k,_,rfl⟩:=bn.1 b
 exact ⟨aM ..,QZ a k⟩
def Ak (M:List (List ar)):(er M).length=dT M:=by unfold er;rw [aM,dZ]
def HN (M:List (List ar)):∀ (ord c:List Nat),(ord.foldl (λ c k=>let l:=(c++[k]).map λ i=>M.getD i [];if (bI l).2.length=l.length then c++[k] else c) c).length<=c.length+ord.length
 | [],c=>a4 _
 | k::ord,c=>by
   rw [oq]
   simp only
   split
   have:=HN M ord (c++[k])
   rw [cd,kG] at this
   rw [e6]
   exact bs this (by omega)
   exact bs (HN M ord c) (by rw [e6];omega)
def jC (K:cT) (n:Nat) (M:List (List ar)):Prop:=∀ r∈M,cv K n r
def jC.mono {M:List (List ar)} (h:jC K n M) (k:n<=m):jC K m M := λ r a=>(h r a).mono k
def bw.yA {M:List (List ar)} (h:bw K n w M):jC K n M := λ r a=>(h r a).2
structure fG where
 rows:List Int
 bt:List Int
 inv:List (List ar)
 cj:List (List ar)
 bh:List (List ar)
structure fG.G (K:cT) (n:Nat) (c:fG):Prop where
 inv:jC K n c.inv
 cj:jC K n c.cj
 bh:jC K n c.bh
def tQ (n:Nat):List (List ar):=jK n
def eW (a:List Nat) (r:List ar):List ar:=a.map λ k=>r.getD k (ar.rat 0)
def aA (M:List (List ar)) (l:List Nat):List (List ar):=l.map λ i=>M.getD i []
noncomputable def j6 (S:List (List ar)) (b:List ar):List ar:=if S.isEmpty then [] else (oa (er S) b).getD []
noncomputable def g3 (M:List (List ar)) (a:Nat):fG :=
 let rows:=cW M (ba M.length)
 let ch:=aA M rows
 let b:=if ch.isEmpty then [] else (bI ch).2
 ⟨rows.map vL,b.map vL,nZ (ch.map (eW b)),((ba M.length).filter λ i => !rows.contains i).map λ i=>j6 ch (M.getD i []),if M.isEmpty then tQ a else pK M⟩
noncomputable def mr (M:List (List ar)) (a first:Nat):fG :=
 if M.isEmpty then g3 M a else
 let p:=cW M ((ba M.length).map λ i=>(first%M.length+i)%M.length)
 let rows:=(ba M.length).filter λ i=>p.contains i
 let b:=aA M rows
 let c:=g3 b a
 ⟨rows.map vL,c.bt,c.inv,((ba M.length).filter λ i => !rows.contains i).map λ i=>j6 b (M.getD i []),c.bh⟩
def cv.nil:cv K n [] := λ x a=>(cX a).elim
def acu {r:List ar} (h:cv K n r) (a:List Nat):(eW a r).length=a.length/\cv K n (eW a r):=⟨aM .., λ x b=>by
 obtain ⟨k,_,rfl⟩:=bn.1 b
 exact h.get⟩
def CG {ch:List (List ar)} (hc:bw K n w ch) (a:List Nat):bw K n a.length (ch.map (eW a)) := λ r c=>by
 obtain ⟨x,b,rfl⟩:=bn.1 c
 exact acu (hc x b).2 _
noncomputable def Ig (a b:List ar):aC:=(yb a b).foldl (λ s p=>s+p.1.2.val*p.2.2.val) 0
noncomputable def fC (a b:List ar):ar:=(yb a b).foldl (λ s p=>if p.1.b9||p.2.b9 then s else s.add (p.1.mul p.2)) (ar.rat 0)
def Ro:∀ (l:List (ar × ar)),(∀ p∈l,p.1.2.bK/\p.2.2.bK)->∀ {s:ar},s.2.bK->(l.foldl (λ s p=>s.add (p.1.mul p.2)) s).2.val=l.foldl (λ s p=>s+p.1.2.val*p.2.2.val) s.2.val
 | [],_,s,_=>rfl
 | p::l,h,s,b=>by
   have h1:=h p cS
   have a:=aI.Mz h1.1 h1.2
   rw [oq,oq,Ro l (λ q c=>h q (c5 _ c)) (s:=s.add (p.1.mul p.2)) (aI.P7 b a)]
   rw [show (s.add (p.1.mul p.2)).2.val=s.2.val+p.1.2.val*p.2.2.val from (aI.Ki b a).trans (by rw [aI.Hn h1.1 h1.2])]
def C5 : ∀ (l:List (ar × ar)),(∀ p∈l,p.1.2.bK/\p.2.2.bK)->∀ {s:ar},s.2.bK->(l.foldl (λ s p=>if p.1.b9||p.2.b9 then s else s.add (p.1.mul p.2)) s).2.val=l.foldl (λ s p=>s+p.1.2.val*p.2.2.val) s.2.val
 | [],_,s,_=>rfl
 | p :: l,h,s,a=>by
   have h1:=h p cS
   have c:=aI.Mz h1.1 h1.2
   rw [oq,oq]
   split
   . next e =>
     have d:p.1.2.val*p.2.2.val=0:=by
       rcases Bool.or_eq_true_iff.1 e with e | e
       rw [ar.oT.1 e];grind
       rw [ar.oT.1 e];grind
     rw [C5 l (λ q b=>h q (c5 _ b)) a,d,show s.2.val+0=s.2.val by grind]
   rw [C5 l (λ q b=>h q (c5 _ b)) (s:=s.add (p.1.mul p.2)) (aI.P7 a c)]
   rw [show (s.add (p.1.mul p.2)).2.val=s.2.val+p.1.2.val*p.2.2.val from (aI.Ki a c).trans (by rw [aI.Hn h1.1 h1.2])]
def H3:(ar.rat 0).2.bK:=trivial
def alj:(ar.rat 0).2.val=0:=rfl
def KP {a b:List ar} (d:cv K n a) (hb:cv K m b):(jd a b).2.val=Ig a b:=Ro _ (λ p c=>⟨(d _ (vJ c).1).red,(hb _ (vJ c).2).red⟩) H3
def M5 {a b:List ar} (d:cv K n a) (hb:cv K m b):(fC a b).2.val=Ig a b:=C5 _ (λ p c=>⟨(d _ (vJ c).1).red,(hb _ (vJ c).2).red⟩) H3
def M4 {n m:Nat}:∀ (l:List (ar × ar)),(∀ p∈l,p.1.G K n/\p.2.G K m)->∀ {s:ar} {t:Nat},s.G K t->(l.foldl (λ s p=>if p.1.b9||p.2.b9 then s else s.add (p.1.mul p.2)) s).G K (t+l.length*(n+m+K.c+1))
 | [],_,s,t,a=>a.mono (by simp)
 | p::l,h,s,t,a=>by
   have h1:=h p cS
   rw [oq]
   split
   refine (M4 l (λ q b=>h q (c5 _ b)) a).mono ?_
   rw [e6,jN];omega
   have d:=a.add (h1.1.mul h1.2)
   refine (M4 l (λ q b=>h q (c5 _ b)) d).mono ?_
   rw [e6,jN];omega
def Vb {a b:List ar} (e:cv K n a) (hb:cv K m b):(fC a b).G K (a.length*(n+m+K.c+1)):=by
 have:=M4 (K:=K) (n:=n) (m:=m) (yb a b) (λ p d=>⟨e _ (vJ d).1,hb _ (vJ d).2⟩) (ar.G.zero (K:=K) (n:=0))
 refine this.mono ?_
 rw [c4,Zx]
 exact c6 _ (Zy _ _)
end
end Go.aF
namespace Go.aF.Src
def none (n:Nat):Src where
 S:=[]
 n:=n
 H _:=aD.nil
 x _:=cz 0 0
 nodup:=gm
 len:=et _
 red _ h:=(kC _ h).elim
 sub _ h:=(kC _ h).elim
 val _ h:=(kC _ h).elim
 ms _ h:=(kC _ h).elim
 pos _ h:=(cX h).elim
section
variable {Q:Src}
def aiS:Q.ok aD.nil:=⟨trivial, λ ρ h=>(cX h).elim⟩
def r6 (Q:Src) (a:aI) (i:Nat):aI:=if i<Q.S.length then ⟨Q.H i,Q.x i⟩ else a
def HR {a:aI} {i:Nat} (h:i<Q.S.length):Q.r6 a i=⟨Q.H i,Q.x i⟩:=if_pos h
def HQ {a:aI} {i:Nat} (h : ¬ i<Q.S.length):Q.r6 a i=a:=if_neg h
noncomputable def push (Q:Src) (a:aI) (h:Q.ok a.T) (d:ah.ms a.a Q.n) (k:0<a.val) (g:a.val ∉ Q.S) (l:Q.S.length<3):Src where
 S:=Q.S++[a.val]
 n:=Q.n
 H i:=(Q.r6 a i).T
 x i:=(Q.r6 a i).a
 nodup:=List.nodup_append.2 ⟨Q.nodup,iF.2 ⟨cX,gm⟩, λ x j y f e=>g (by rw [bJ.1 f] at e;rwa [e] at j)⟩
 len:=by rw [cd,kG];omega
 red i c:=by
   by_cases h1:i<Q.S.length
   rw [HR h1];exact Q.red i h1
   rw [HQ h1];exact h.1
 sub i c ρ b:=by
   by_cases h1:i<Q.S.length
   rw [HR h1] at b;rw [Er (by omega)];exact Q.sub i h1 ρ b
   rw [HQ h1] at b
   rw [cd,kG] at c
   rw [show i=Q.S.length by omega,Er (a4 _),gn]
   exact h.2 ρ b
 val i c:=by
   by_cases h1:i<Q.S.length
   rw [List.getElem_append_left h1]
   have:=Q.val i h1
   rw [HR h1]
   exact this
   rw [cd,kG] at c
   rw [List.getElem_append_right (by omega),HQ h1]
   simp only [show i-Q.S.length=0 by omega]
   rfl
 ms i c:=by
   by_cases h1:i<Q.S.length
   rw [HR h1];exact Q.ms i h1
   rw [HQ h1];exact d
 pos ρ b:=(en.1 b).elim (Q.pos ρ) λ h=>by rw [bJ.1 h];exact k
def root (a:aI) (h:Q.ok a.T) (k:ah.ms a.a Q.n) (i:0<a.val) (j:Q.S.length<3):∃ Q':Src,Q'.n=Q.n/\Q'.S.length<=Q.S.length+1/\(∀ T,Q.ok T->Q'.ok T)/\Q'.ok (a.T.gH a.a):=by
 by_cases c:a.T.In (b5 (aR a.T.2 a.a))
 exact ⟨Q,rfl,Pd _, λ _ h=>h,by unfold aD.gH;rw [if_pos c];exact h⟩
 have d:(a.T.push a.a).bK:=aD.HV h.1 i c
 by_cases g:a.val∈Q.S
 refine ⟨Q,rfl,Pd _, λ _ h=>h, ?_⟩
 unfold aD.gH
 rw [if_neg c]
 refine ⟨d, λ ρ b => ?_⟩
 rcases cr.1 b with e | h1
 rw [e];exact g
 exact h.2 ρ h1
 refine ⟨Q.push a h k i g j,rfl, ?_, λ T f=>⟨f.1, λ ρ b=>nB _ (f.2 ρ b)⟩, ?_⟩
 show (Q.S++[a.val]).length<=_
 rw [cd];exact a4 _
 unfold aD.gH
 rw [if_neg c]
 refine ⟨d, λ ρ b => ?_⟩
 rcases cr.1 b with e | h1
 exact qY _ (bJ.2 e)
 exact nB _ (h.2 ρ h1)
end
end Go.aF.Src
namespace Go.aF.ah
def drop:(h i:Nat)->ah (h+1)->ah h
 | 0,_,a=>a.1
 | h+1,i,a=>if i=h+1 then a.1 else (drop h i a.1,drop h i a.2)
def free:(h i:Nat)->ah h->Prop
 | 0,_,_=>True
 | h+1,i,a=>if i=h then a.2=rat h 0 else free h i a.1/\free h i a.2
def uX {h i:Nat} (e:i=h+1) (a:ah (h+2)):drop (h+1) i a=a.1:=if_pos e
def uW {h i:Nat} (e : ¬ i=h+1) (a:ah (h+2)):drop (h+1) i a=((drop h i a.1,drop h i a.2):ah (h+1)):=if_neg e
def BV {h i:Nat} (e:i=h) (a:ah (h+1)):free (h+1) i a=(a.2=rat h 0):=if_pos e
def Le {h i:Nat} (e : ¬ i=h) (a:ah (h+1)):free (h+1) i a=(free h i a.1/\free h i a.2):=if_neg e
def KS:∀ (h i:Nat),i<=h->∀ b:ah h,∃ a:ah (h+1),free (h+1) i a/\drop h i a=b
 | 0,i,c,b=>⟨((b,rat 0 0):ah 1),(BV (h:=0) (i:=i) (a:=((b,rat 0 0):ah 1)) (Nat.le_zero.1 c)).mpr rfl,rfl⟩
 | h+1,i,c,b=>by
   by_cases e:i=h+1
   exact ⟨((b,rat (h+1) 0):ah (h+2)),(BV e ((b,rat (h+1) 0):ah (h+2))).mpr rfl,uX e ((b,rat (h+1) 0):ah (h+2))⟩
   have ⟨x,f,g⟩:=KS h i (by omega) b.1
   have ⟨y,d,j⟩:=KS h i (by omega) b.2
   exact ⟨((x,y):ah (h+2)),(Le e ((x,y):ah (h+2))).mpr ⟨f,d⟩,(uW e ((x,y):ah (h+2))).trans (pj g j)⟩
def KR:∀ (h i:Nat) (a:ah (h+1)),∀ q∈flat (drop h i a),q∈flat a
 | 0,i,a,q,b=>nB _ b
 | h+1,i,a,q,b=>by
   by_cases e:i=h+1
   rw [uX e] at b;exact nB _ b
   rw [uW e] at b
   exact (en.1 b).elim (λ h1=>nB _ (KR h i a.1 q h1)) (λ h1=>qY _ (KR h i a.2 q h1))
end Go.aF.ah
namespace Go.aF.aE
def drop:(h i:Nat)->aE (h+1)->aE h
 | 0,_,_=>()
 | h+1,i,t=>if i=h+1 then t.1 else (drop h i t.1,ah.drop h i t.2)
def uX {h i:Nat} (e:i=h+1) (t:aE (h+2)):drop (h+1) i t=t.1:=if_pos e
def uW {h i:Nat} (e : ¬ i=h+1) (t:aE (h+2)):drop (h+1) i t=((drop h i t.1,ah.drop h i t.2):aE (h+1)):=if_neg e
def free:(h i:Nat)->aE h->Prop
 | 0,_,_=>True
 | h+1,i,t=>i=h \/ (free h i t.1/\ah.free h i t.2)
end Go.aF.aE
namespace Go.aF
def ah.wI:∀ (h i:Nat),i<=h->∀ (t:aE (h+1)),aE.free (h+1) i t->∀ a:ah (h+1),ah.free (h+1) i a->aR (aE.drop h i t) (ah.drop h i a)=aR t a
 | 0,i,g,t,f,a,c=>by
   have e:i=0:=by omega
   rw [ah.BV e] at c
   show aR t.1 a.1=aR t.1 a.1+aR t.1 a.2*b5 _
   rw [c,om];grind
 | h+1,i,g,t,f,a,c=>by
   by_cases e:i=h+1
   rw [ah.BV e] at c
   rw [ah.uX e,aE.uX e]
   show _=aR t.1 a.1+aR t.1 a.2*b5 _
   rw [c,om];grind
   rw [ah.Le e] at c
   rw [ah.uW e,aE.uW e]
   have b:=f.resolve_left e
   have d:i<=h:=by omega
   show aR (aE.drop h i t.1) (ah.drop h i a.1)+aR (aE.drop h i t.1) (ah.drop h i a.2)*b5 (aR (aE.drop h i t.1) (ah.drop h i t.2))=_
   rw [ah.wI h i d t.1 b.1 _ c.1,ah.wI h i d t.1 b.1 _ c.2,ah.wI h i d t.1 b.1 _ b.2]
   rfl
def aE.Rs:∀ (h i:Nat),i<=h->∀ (t:aE (h+1)),aE.free (h+1) i t->t.bK->(aE.drop h i t).bK
 | 0,_,_,_,_,_=>trivial
 | h+1,i,o,t,n,j=>by
   by_cases e:i=h+1
   rw [uX e];exact j.1
   rw [uW e]
   have c:=n.resolve_left e
   have b:i<=h:=by omega
   have k:=ah.wI h i b t.1 c.1 _ c.2
   refine ⟨aE.Rs h i b t.1 c.1 j.1, ?_, λ w hw => ?_⟩
   show 0<aR (aE.drop h i t.1) (ah.drop h i t.2)
   rw [k];exact j.2.1
   obtain ⟨a,l,rfl⟩:=ah.KS h i b w
   have m:=ah.wI h i b t.1 c.1 a l
   have g:aR (aE.drop h i t.1) (ah.drop h i a)*aR (aE.drop h i t.1) (ah.drop h i a)=aR (aE.drop h i t.1) (ah.drop h i t.2):=hw
   rw [m,k] at g
   exact j.2.2 a g
def aE.Rt:∀ (h i:Nat),i<=h->∀ (t:aE (h+1)),aE.free (h+1) i t->∀ v∈(aE.drop h i t).vals,v∈t.vals
 | 0,_,_,_,_,_,hv=>(cX hv).elim
 | h+1,i,k,t,g,v,hv=>by
   by_cases e:i=h+1
   rw [uX e] at hv;exact c5 _ hv
   rw [uW e] at hv
   have a:=g.resolve_left e
   have d:i<=h:=by omega
   have f:=ah.wI h i d t.1 a.1 _ a.2
   rcases cr.1 hv with j | h1
   rw [j,f];exact cS
   exact c5 _ (aE.Rt h i d t.1 a.1 v h1)
end Go.aF
namespace Go.aF.aI
def uV (i:Nat):aI->aI
 | ⟨⟨0,t⟩,a⟩=>⟨⟨0,t⟩,a⟩
 | ⟨⟨h+1,t⟩,a⟩=>⟨⟨h,aE.drop h i t⟩,ah.drop h i a⟩
def BU (i:Nat) (n:aI):Prop:=i<n.T.1/\aE.free n.T.1 i n.T.2/\ah.free n.T.1 i n.a
def ac0 {Q:Src} {i:Nat}:∀ {n:aI},n.BU i->Q.ok n.T->Q.ok (n.uV i).T/\(n.uV i).val=n.val/\∀ q∈ah.flat (n.uV i).a,q∈ah.flat n.a
 | ⟨⟨0,t⟩,a⟩,h,_=>(kC _ h.1).elim
 | ⟨⟨h+1,t⟩,a⟩,b,d=>by
   have c:i<=h:=Zz b.1
   exact ⟨⟨aE.Rs h i c t b.2.1 d.1, λ ρ e=>d.2 ρ (aE.Rt h i c t b.2.1 ρ e)⟩,ah.wI h i c t b.2.1 a b.2.2,ah.KR h i a⟩
open Classical in
noncomputable def pb:Nat->aI->aI
 | 0,n=>n
 | i+1,n=>pb i (if n.BU i then n.uV i else n)
noncomputable def trim (n:aI):aI:=pb n.T.1 n
def N9 {Q:Src}:∀ (i:Nat) {n:aI},Q.ok n.T->Q.ok (pb i n).T/\(pb i n).val=n.val/\∀ q∈ah.flat (pb i n).a,q∈ah.flat n.a
 | 0,n,h=>⟨h,rfl, λ _ h=>h⟩
 | i+1,n,h=>by
   by_cases e:n.BU i
   have c:pb (i+1) n=pb i (n.uV i):=congrArg (pb i) (@if_pos _ (AW _) e _ _ _)
   have ⟨h1,d,k⟩:=ac0 e h
   have ⟨l,g,j⟩:=N9 i h1
   rw [c]
   exact ⟨l,g.trans d, λ q f=>k q (j q f)⟩
   have c:pb (i+1) n=pb i n:=congrArg (pb i) (@if_neg _ (AW _) e _ _ _)
   rw [c]
   exact N9 i h
def Xv {Q:Src} {n:aI} (h:Q.ok n.T):Q.ok n.trim.T/\n.trim.val=n.val/\∀ q∈ah.flat n.trim.a,q∈ah.flat n.a:=N9 _ h
end Go.aF.aI
namespace Go.aF
def ah.MH:∀ {h:Nat} (a:ah h),ah.flat (kZ a)=(ah.flat a).map λ q => -q
 | 0,a=>rfl
 | h+1,a=>by
   show ah.flat (kZ a.1)++ah.flat (kZ a.2)=(ah.flat a.1++ah.flat a.2).map _
   rw [ah.MH,ah.MH,List.map_append]
def uD (q:Rat):Prop:=q.num.natAbs<2 ^ 64/\q.den<2 ^ 64
def uD.neg {q:Rat} (h:uD q):uD (-q):=⟨by show (-q.num).natAbs<_;rw [Int.natAbs_neg];exact h.1,h.2⟩
end Go.aF
namespace Go.aF.aI
def short (n:aI):Prop:=(∀ q∈ah.flat n.a,uD q)/\∀ r∈n.T.2.ay,∀ q∈r,uD q
def sf (n:aI):Prop:=∀ q∈ah.flat n.a,uD q
noncomputable def sqrt (a:aI):aI:=aI.of (a.T.gH a.a) (b5 a.val)
end Go.aF.aI
namespace Go.aF
structure fF where
 kind:Nat
 a:Nat
 b:Nat
 n:Int
 d:Nat
open Classical in
noncomputable def ix (l:List aI) (roots:Nat) (o:fF):aI × Nat :=
 if l=[] \/ o.kind%6=0 then (aI.rat (mkRat o.n (o.d%8+1)),roots) else
 let a:=l.getD (o.a%l.length) (aI.rat 0)
 let b:=l.getD (o.b%l.length) (aI.rat 0)
 if o.kind%6=1 then (a.add b,roots) else
 if o.kind%6=2 then (a.sub b,roots) else
 if o.kind%6=3 then (a.mul b,roots) else
 if o.kind%6=4 then (if b.val=0 then a else a.div b,roots) else
 if roots<3 then ((if a.val<0 then a.neg else a).sqrt,roots+1) else (a,roots)
open Classical in
noncomputable def nt (st:List aI × Nat) (o:fF):List aI × Nat :=
 let x:=ix st.1 st.2 o
 (st.1++[(if st.1≠[] /\ ¬ x.1.short then st.1.getLastD (aI.rat 0) else x.1).trim],x.2)
noncomputable def wC (r:List fF):List aI:=((r.take 24).foldl nt ([],0)).1
def nL (Q:Src) (l:List aI):Prop:=Q.n=256/\∀ a∈l,Q.ok a.T/\a.sf
def SP {Q:Src} {T:aD} (h:Q.ok T):T.1<=Q.S.length:=by
 have:=aD.pM (aD.sx h.1) h.2
 rwa [aD.xQ] at this
def aI.sf.ms {a:aI} (h:a.sf) {k:Nat} (c:a.T.1<=k):ah.ms a.a (2 ^ k*64) :=
 ah.ji (ah.Mx (n:=64) λ q b=>⟨Nat.le_of_lt (h q b).1,Nat.le_of_lt (h q b).2⟩) (c6 _ (dv (by decide) c))
def ane {Q:Src} {a:aI} (h:Q.ok a.T) (j:a.sf) (b:Q.n=256) (c:Q.S.length<3) (l:0<=a.val):∃ Q':Src,Q'.n=256/\Q'.S.length<=Q.S.length+1/\(∀ T,Q.ok T->Q'.ok T)/\Q'.ok a.sqrt.T:=by
 by_cases e:a.val=0
 have h1:a.T.In (b5 (aR a.T.2 a.a)):=by
   have d:aR a.T.2 a.a=0:=e
   have i:b5 (0:aC)=0:=by
     have:=ui (x:=(0:aC)) (by grind)
     rcases JF this with h | h<;>exact h
   rw [d,i]
   exact aD.In.rat a.T 0
 refine ⟨Q,b,Pd _, λ _ h=>h, ?_⟩
 show Q.ok (a.T.gH a.a)
 unfold aD.gH
 rw [if_pos h1];exact h
 have ⟨Q',h1,k,g,f⟩:=Src.root a h (ah.ji (j.ms (bs (SP h) (Zz c))) (by rw [b];decide)) (by grind) c
 exact ⟨Q',h1.trans b,k,g,f⟩
def Vu {Q:Src} {o:fF} (a:o.n.natAbs<=128):Q.ok (aI.rat (mkRat o.n (o.d%8+1))).T/\(aI.rat (mkRat o.n (o.d%8+1))).sf:=by
 refine ⟨Src.aiS, λ q b => ?_⟩
 rw [bJ.1 b]
 have h1:(mkRat o.n (o.d%8+1)).num.natAbs<=o.n.natAbs:=by
   rw [Rat.num_mkRat]
   split
   exact et _
   exact Int.natAbs_ediv_le_natAbs _ _
 have c:(mkRat o.n (o.d%8+1)).den<=o.d%8+1:=by
   rw [Rat.den_mkRat]
   split
   omega
   exact Nat.div_le_self _ _
 have:=bC o.d (show 8>0 by decide)
 exact ⟨gB (bs h1 a) (by decide),gB c (gB (Nat.succ_le_of_lt (ZA this)) (by decide))⟩
def QF {Q:Src} {l:List aI} {roots:Nat} {o:fF} (H:nL Q l) (g:Q.S.length<=roots) (h:roots<=3) (r:o.n.natAbs<=128):∃ Q':Src,nL Q' l/\Q'.S.length<=(ix l roots o).2/\(ix l roots o).2<=3/\Q'.ok (ix l roots o).1.T/\(l=[]->(ix l roots o).1.sf):=by
 have v:∀ i,l≠[]->Q.ok (l.getD (i%l.length) (aI.rat 0)).T/\(l.getD (i%l.length) (aI.rat 0)).sf := λ i d=>by
   have m:0<l.length:=hO.2 d
   rw [dJ,du (bC _ m)]
   exact H.2 _ (bc _)
 unfold ix
 split
 exact ⟨Q,H,g,h,(Vu r).1, λ _=>(Vu (Q:=Q) r).2⟩
 next k =>
 have d:l≠[] := λ e=>k (Or.inl e)
 have f:=v o.a d
 have hb:=v o.b d
 simp only
 generalize l.getD (o.a%l.length) (aI.rat 0)=a at *
 generalize l.getD (o.b%l.length) (aI.rat 0)=b at *
 have j:Q.ok (aI.join a b):=Src.HE f.1 hb.1
 split
 exact ⟨Q,H,g,h,j, λ e=>(d e).elim⟩
 split
 exact ⟨Q,H,g,h,j, λ e=>(d e).elim⟩
 split
 exact ⟨Q,H,g,h,j, λ e=>(d e).elim⟩
 split
 refine ⟨Q,H,g,h, ?_, λ e=>(d e).elim⟩
 split
 exact f.1
 exact j
 split
 . next C =>
   have hc:∀ c:aI,Q.ok c.T->c.sf->0<=c.val->∃ Q':Src,nL Q' l/\Q'.S.length<=roots+1/\roots+1<=3/\Q'.ok c.sqrt.T/\(l=[]->c.sqrt.sf) := λ c h1 y A=>by
     have ⟨Q',q1,B,z,w⟩:=ane h1 y H.1 (by omega) A
     exact ⟨Q',⟨q1, λ x t=>⟨z _ (H.2 x t).1,(H.2 x t).2⟩⟩,by omega,by omega,w, λ e=>(d e).elim⟩
   by_cases s:a.val<0
   rw [if_pos s]
   refine hc a.neg f.1 (λ q u => ?_) (by rw [aI.Hs];grind)
   have e:ah.flat a.neg.a=(ah.flat a.a).map λ q => -q:=ah.MH a.a
   rw [e] at u
   obtain ⟨p,m,rfl⟩:=bn.1 u
   exact (f.2 p m).neg
   rw [if_neg s]
   exact hc a f.1 f.2 (by grind)
 exact ⟨Q,H,g,h,f.1, λ e=>(d e).elim⟩
def WT {st:List aI × Nat} {o:fF} (j:o.n.natAbs<=128) (H:∃ Q,nL Q st.1/\Q.S.length<=st.2/\st.2<=3):∃ Q,nL Q (nt st o).1/\Q.S.length<=(nt st o).2/\(nt st o).2<=3:=by
 have ⟨Q,h1,t,m⟩:=H
 have ⟨Q',g,l,u,s,k⟩:=QF h1 t m j
 refine ⟨Q',⟨g.1, λ a r => ?_⟩,l,u⟩
 rcases en.1 r with h | h
 exact g.2 a h
 rw [bJ.1 h]
 split
 . next hc =>
   have i:=g.2 (st.1.getLastD (aI.rat 0)) (by rw [List.getLastD_eq_getLast?,List.getLast?_eq_some_getLast hc.1];exact List.getLast_mem _)
   have ⟨f,_,d⟩:=aI.Xv i.1
   exact ⟨f, λ q c=>i.2 q (d q c)⟩
 next hc =>
 have ⟨f,_,d⟩:=aI.Xv s
 refine ⟨f, λ q c => ?_⟩
 by_cases e:st.1=[]
 exact k e q (d q c)
 exact (Classical.not_not.1 (λ p=>hc ⟨e,p⟩)).1 q (d q c)
def Qs {r:List fF} (f:∀ o∈r,o.n.natAbs<=128):∃ Q,nL Q (wC r):=by
 have key:∀ (r:List fF) (st:List aI × Nat),(∀ o∈r,o.n.natAbs<=128)->(∃ Q,nL Q st.1/\Q.S.length<=st.2/\st.2<=3)->∃ Q,nL Q (r.foldl nt st).1/\Q.S.length<=(r.foldl nt st).2/\(r.foldl nt st).2<=3 := λ r=>by
   induction r with
   | nil=>exact λ st _ h=>h
   | cons o r d=>exact λ st b h=>d _ (λ p c=>b p (c5 _ c)) (WT (b o cS) h)
 have ⟨Q,h,_⟩:=key (r.take 24) ([],0) (λ o ho=>f o (gq ho)) ⟨Src.none 256,⟨rfl, λ a e=>(cX e).elim⟩,a4 _,et _⟩
 exact ⟨Q,h⟩
def nL.G {Q:Src} {l:List aI} (h:nL Q l) {a:aI} (b:a∈l) (z:Bool):ar.G Q.ctx 512 (z,a) :=
 Src.agi (h.2 a b).1 ((h.2 a b).2.ms (k:=3) (Src.xk (h.2 a b).1))
def Aa {Q:Src} (h:Q.n=256):Q.ctx.c=1806:=by show 7*Q.n+14=_;rw [h]
def Iw {Q:Src} (h:Q.n=256):Q.ctx.C=15374539827:=by
 have b:Q.c1=258:=by show Q.n+2=_;rw [h]
 have d:Q.r1=15430:=by show ah.e9 Q.c1 1 Q.n=_;rw [b,h];kernel_rfl
 have c:Q.e1=47323:=by show Q.n+3*(Q.r1+Q.c1+1)=_;rw [h,b,d]
 have a:Q.cc=331275:=by show 7*Q.e1+14=_;rw [c]
 have e:Q.sb=5124515333:=by show ah.e9 Q.cc 2 Q.e1=_;rw [a,c];kernel_rfl
 show 3*(Q.sb+Q.cc+1)=_
 rw [a,e]
def VY:∀ (a b:List ar) (s:aC),(yb a b).foldl (λ s p=>s+p.1.2.val*p.2.2.val) s=(yb b a).foldl (λ s p=>s+p.1.2.val*p.2.2.val) s
 | [],b,s=>by simp
 | a::l,[],s=>by simp
 | a::l,b::k,s=>by
   rw [ZB,ZB,oq,oq,VY l k,show a.2.val*b.2.val=b.2.val*a.2.val by grind]
def amo (a b:List ar):Ig a b=Ig b a:=VY a b 0
def lf (M:List (List ar)) (rows:List Nat) (k:Nat):List ar:=rows.map λ i=>(M.getD i []).getD k (ar.rat 0)
def acx (M:List (List ar)) (rows:List Nat) (k:Nat):iy (aA M rows) k=lf M rows k:=by unfold iy aA lf;rw [mU];rfl
def acw (M:List (List ar)) (rows a:List Nat) {k:Nat} (b:k<a.length):iy ((aA M rows).map (eW a)) k=lf M rows (a[k]):=by
 unfold iy aA lf
 rw [mU,mU]
 refine p8 λ i _ => ?_
 show (eW a (M.getD i [])).getD k _=_
 unfold eW
 rw [dJ,iI,du b]
 rfl
section
variable {K:cT} {n m w:Nat} {M:List (List ar)}
def yJ (a:bw K n w M) (rows:List Nat) (k:Nat):cv K n (lf M rows k) := λ x b=>by
 obtain ⟨i,_,rfl⟩:=bn.1 b
 exact a.at
def agm {row:List ar} (c:bw K n w M) (b:cv K m row) {rows a:List Nat} {k:Nat} (d:k<a.length):(jd (iy ((aA M rows).map (eW a)) k) row).2.val=(fC row (lf M rows a[k])).2.val:=by
 rw [acw M rows a d,KP (yJ c rows _) b,M5 b (yJ c rows _),amo]
def acy {row:List ar} (b:bw K n w M) (a:cv K m row) {rows:List Nat} {k:Nat}:(jd row (iy (aA M rows) k)).2.val=(fC row (lf M rows k)).2.val:=by
 rw [acx,KP a (yJ b rows _),M5 a (yJ b rows _)]
def ag4 {row v:List ar} (a:cv K n row) (hv:cv K m v):(jd row v).2.val=(fC row v).2.val:=by rw [KP a hv,M5 a hv]
noncomputable def sg (x:ar):List (List ar)->Nat->List (List ar)
 | [],_=>[]
 | r::M,j=>if j<r.length then r.set j ((r.getD j (ar.rat 0)).add x)::M else r::sg x M (j-r.length)
def Iv (M:List (List ar)):Nat:=(M.map uc).sum
noncomputable def pU (M:List (List ar)) (at_:Nat) (b:Int):List (List ar):=if Iv M=0 then M else sg (ar.rat b) M (at_%Iv M)
structure qg where
 which:Nat
 at_:Nat
 cb:Int
noncomputable def nO (c:fG) (x:qg):fG :=
 match x.which%9 with
 | 1=>{ c with inv:=pU c.inv x.at_ x.cb }
 | 2=>{ c with cj:=pU c.cj x.at_ x.cb }
 | 3=>{ c with bh:=pU c.bh x.at_ x.cb }
 | 4=>if c.rows=[] then c else { c with rows:=c.rows.set (x.at_%c.rows.length) (c.rows.getD (x.at_%c.rows.length) 0+x.cb) }
 | 5=>if c.bt=[] then c else { c with bt:=c.bt.set (x.at_%c.bt.length) (c.bt.getD (x.at_%c.bt.length) 0+x.cb) }
 | 6=>if c.rows=[] then c else { c with rows:=c.rows.drop 1,bt:=c.bt.drop 1 }
 | 7=>{ c with bh:=c.bh.drop 1 }
 | 8=>if c.cj=[] then c else { c with cj:=c.cj++[c.cj.getD 0 []] }
 | _=>c
end
section
variable {K:cT} {n m w:Nat}
def Wz {x:ar} (c:x.G K m):∀ {M:List (List ar)},jC K n M->∀ j,jC K (n+m+1) (sg x M j)/\(sg x M j).map uc=M.map uc
 | [],h,j=>⟨λ r e=>(cX e).elim,rfl⟩
 | r::M,h,j=>by
   have h1:=h r cS
   have b:jC K n M := λ q a=>h q (c5 _ a)
   unfold sg
   split
   refine ⟨λ q a => ?_,by rw [hQ,hQ,ju]⟩
   rcases cr.1 a with rfl | a
   exact cv.set (h1.mono (by omega)) (h1.get.add c)
   exact (b q a).mono (by omega)
   have ⟨f,d⟩:=Wz c b (j-r.length)
   refine ⟨λ q a => ?_,by rw [hQ,hQ,d]⟩
   rcases cr.1 a with rfl | a
   exact h1.mono (by omega)
   exact f q a
def Vt {b:Int} (hb:b.natAbs<=128):(ar.rat b).G K 8:=aI.G.rat (q:=(b:Rat)) (bs hb (by decide)) (sJ)
def NF {M:List (List ar)} (h:jC K n M) (a:Nat) {b:Int} (hb:b.natAbs<=128):jC K (n+9) (pU M a b):=by
 unfold pU
 split
 exact h.mono (by omega)
 exact (Wz (Vt hb) h _).1
def fG.G.mono {c:fG} (h:c.G K n) (k:n<=m):c.G K m:=⟨h.inv.mono k,h.cj.mono k,h.bh.mono k⟩
def ab9 {c:fG} (h:c.G K n) {x:qg} (hb:x.cb.natAbs<=128):(nO c x).G K (n+9):=by
 have a:=h.mono (show n<=n+9 by omega)
 unfold nO
 split
 exact ⟨NF h.inv _ hb,a.cj,a.bh⟩
 exact ⟨a.inv,NF h.cj _ hb,a.bh⟩
 exact ⟨a.inv,a.cj,NF h.bh _ hb⟩
 split
 exact a
 exact ⟨a.inv,a.cj,a.bh⟩
 split
 exact a
 exact ⟨a.inv,a.cj,a.bh⟩
 split
 exact a
 exact ⟨a.inv,a.cj,a.bh⟩
 exact ⟨a.inv,a.cj, λ r b=>a.bh r (rk b)⟩
 split
 exact a
 . next e =>
   refine ⟨a.inv, λ r b => ?_,a.bh⟩
   rcases en.1 b with h1 | h1
   exact a.cj r h1
   rw [bJ.1 h1]
   cases hc:c.cj with
   | nil=>exact absurd hc e
   | cons q l=>exact a.cj q (by rw [hc];exact cS)
 exact a
def VG (st:List (List ar) × List Nat) (k:Nat):fc st k=st \/ (fc st k).2=st.2++[k]:=by
 unfold fc
 simp only
 split
 exact Or.inr rfl
 exact Or.inl rfl
def R0:∀ (a:List Nat) (st:List (List ar) × List Nat),(a.foldl fc st).2=[]->st.2=[]/\∀ k∈a,fc st k=st
 | [],st,h=>⟨h, λ k d=>(cX d).elim⟩
 | k::a,st,h=>by
   have ⟨h1,c⟩:=R0 a (fc st k) h
   rcases VG st k with e | e
   rw [e] at h1 c
   refine ⟨h1, λ j b => ?_⟩
   rcases cr.1 b with rfl | b
   exact e
   exact c j b
   rw [e] at h1
   exact absurd h1 (by simp)
def alI {M:List (List ar)} (h:(bI M).2=[]) {r:List ar} (c:r∈M) {k:Nat} (d:k<dT M):(r.getD k (ar.rat 0)).b9=true:=by
 have h1:=(R0 (ba (dT M)) (M,[]) h).2 k (cR.2 d)
 by_cases e:(r.getD k (ar.rat 0)).b9=true
 exact e
 exfalso
 have b:fu M 0 k<M.length:=by
   unfold fu
   rw [iZ,c4]
   exact List.findIdx_lt_length_of_exists ⟨r,c,by rw [Bool.eq_false_iff.2 e];rfl⟩
 have a:(fc (M,[]) k).2=[k]:=by
   unfold fc
   simp only
   exact congrArg Prod.snd (if_pos (show fu M ([]:List Nat).length k<M.length from b))
 rw [h1] at a
 exact absurd a (by simp)
def VK {M:List (List ar)} {r:List ar} (b:r∈M) {k:Nat} (a:k<dT M) (e:(r.getD k (ar.rat 0)).b9=false):(bI M).2≠[] := λ h=>by
 rw [alI h b a] at e;exact absurd e (by decide)
def alJ {M:List (List ar)} (h:∀ r∈M,∀ k,k<dT M->(r.getD k (ar.rat 0)).b9=true):bI M=(M,[]):=by
 have key:∀ a:List Nat,(∀ k∈a,k<dT M)->a.foldl fc (M,[])=(M,[]) := λ a=>by
   induction a with
   | nil=>exact λ _=>rfl
   | cons k a f =>
     intro b
     have h1:fc (M,[]) k=(M,[]):=by
       have e : ¬ fu M 0 k<M.length:=by
         unfold fu
         rw [iZ,c4]
         intro c
         have d:=List.findIdx_getElem (w:=c)
         simp only [Bool.not_eq_eq_eq_not,Bool.not_true] at d
         rw [h _ (bc _) k (b k cS)] at d
         exact absurd d (by decide)
       unfold fc
       exact if_neg (show ¬ fu M ([]:List Nat).length k<M.length from e)
     rw [oq,h1]
     exact f λ j g=>b j (c5 _ g)
 exact key _ λ k b=>cR.1 b
def Bp (w:Nat) (r:List ar):Prop:=∃ k,k<w/\(r.getD k (ar.rat 0)).b9=false
end
section
variable {K:cT} {n w:Nat} {M:List (List ar)}
def ajg {r:List ar} (h:r.length=w) (i:cv K n r):(bI [r]).2.length=1↔Bp w r:=by
 have d:bw K n w [r] := λ q c=>by rw [bJ.1 c];exact ⟨h,i⟩
 have hc:dT [r]=w:=jG d (by simp)
 constructor
 intro e
 refine Classical.byContradiction λ g => ?_
 rw [alJ (M:=[r]) (λ q c k b=>by
   rw [bJ.1 c]
   rw [hc] at b
   cases f:(r.getD k (ar.rat 0)).b9 with
   | true=>rfl
   | false=>exact (g ⟨k,b,f⟩).elim)] at e
 exact absurd (show 0=1 from e) (by decide)
 rintro ⟨k,b,e⟩
 have h1:=VK (M:=[r]) cS (by rw [hc];exact b) e
 have m:=(mz d).pl
 have l:[r].length=1:=rfl
 have j:=hO.2 h1
 omega
noncomputable abbrev lz (M:List (List ar)):List Nat->Nat->List Nat := λ c k=>let l:=(c++[k]).map λ i=>M.getD i [];if (bI l).2.length=l.length then c++[k] else c
def HM (M:List (List ar)):∀ (ord c:List Nat),∀ k∈c,k∈ord.foldl (lz M) c
 | [],c,k,a=>a
 | j::ord,c,k,a=>by
   rw [oq]
   refine HM M ord _ k ?_
   show k∈(if _ then _ else _)
   split
   exact nB _ a
   exact a
def MY (d:bw K n w M):∀ {ord:List Nat},(∀ k∈ord,k<M.length)->(cW M ord≠[]↔∃ k∈ord,Bp w (M.getD k []))/\(cW M ord≠[]->∃ k∈cW M ord,Bp w (M.getD k []))
 | [],_=>⟨⟨λ h=>(h rfl).elim, λ ⟨k,a,_⟩=>(cX a).elim⟩, λ h=>(h rfl).elim⟩
 | j::ord,ho=>by
   have g:=d.get (ho j cS)
   have h1:=ajg g.1 g.2
   have e:cW M (j::ord)=ord.foldl (lz M) (if (bI [M.getD j []]).2.length=1 then [j] else []):=rfl
   by_cases b:(bI [M.getD j []]).2.length=1
   rw [if_pos b] at e
   have a:j∈cW M (j::ord):=by rw [e];exact HM M ord [j] j cS
   exact ⟨⟨λ _=>⟨j,cS,h1.1 b⟩, λ _ h=>by rw [h] at a;exact cX a⟩, λ _=>⟨j,a,h1.1 b⟩⟩
   rw [if_neg b] at e
   have l:cW M (j::ord)=cW M ord:=e
   have ⟨f,i⟩:=MY d (ord:=ord) λ k a=>ho k (c5 _ a)
   rw [l]
   refine ⟨⟨λ h => ?_, λ ⟨k,a,c⟩ => ?_⟩,i⟩
   have ⟨k,a,c⟩:=f.1 h
   exact ⟨k,c5 _ a,c⟩
   rcases cr.1 a with rfl | a
   exact (b (h1.2 c)).elim
   exact f.2 ⟨k,a,c⟩
def ab2 (f:bw K n w M) (b:Nat) {i:Nat} (p:i<M.length) (o:Bp w (M.getD i [])):(g3 M b).bt≠[]:=by
 have g:∀ k∈ba M.length,k<M.length := λ k d=>cR.1 d
 have ⟨r,l⟩:=MY f g
 have h1:=r.2 ⟨i,cR.2 p,o⟩
 have ⟨k,d,j,s,e⟩:=l h1
 have q:bw K n w (aA M (cW M (ba M.length))):=f.sub (r5 f g).1
 have a:M.getD k []∈aA M (cW M (ba M.length)):=uj d
 have c:aA M (cW M (ba M.length))≠[] := λ h=>by rw [h] at a;exact cX a
 have m:=VK a (k:=j) (by rw [jG q c];exact s) e
 show ((if (aA M (cW M (ba M.length))).isEmpty=true then ([]:List Nat) else (bI (aA M (cW M (ba M.length)))).2)).map vL≠[]
 rw [if_neg (by rw [ra];exact c)]
 intro h
 exact m (List.map_eq_nil_iff.1 h)
def ajB (l:bw K n w M) (a first:Nat) (h:(mr M a first).rows≠[]):(mr M a first).bt≠[]:=by
 unfold mr at h ⊢
 by_cases e:M.isEmpty=true
 rw [if_pos e] at h
 have q:M=[]:=ra.1 e
 subst q
 exact (h rfl).elim
 rw [if_neg e] at h ⊢
 simp only at h ⊢
 generalize f:cW M ((ba M.length).map λ i=>(first%M.length+i)%M.length)=p at h ⊢
 have ho:∀ k∈(ba M.length).map λ i=>(first%M.length+i)%M.length,k<M.length := λ k c=>by
   obtain ⟨i,b,rfl⟩:=bn.1 c
   have:=cR.1 b
   exact bC _ (by omega)
 have g:p≠[] := λ s=>h (by rw [s];simp)
 have ⟨k,c,m⟩:=(MY l ho).2 (by rw [f];exact g)
 rw [f] at c
 have j:=(r5 l ho).1 k (by rw [f];exact c)
 have d:M.getD k []∈aA M ((ba M.length).filter λ i=>p.contains i):=uj (kA.2 ⟨cR.2 j,List.contains_iff_mem.2 c⟩)
 have ⟨i,b,o⟩:=fZ.1 d
 refine ab2 (l.sub λ i b=>cR.1 (kA.1 b).1) a b ?_
 have r:(aA M ((ba M.length).filter λ i=>p.contains i)).getD i []=M.getD k []:=by
   rw [dJ,du b,Option.getD_some,o]
 show Bp w ((aA M ((ba M.length).filter λ i=>p.contains i)).getD i [])
 rw [r]
 exact m
end
end Go.aF
namespace Go.aF.ah
def add_comm:∀ {h:Nat} (a b:ah h),add a b=add b a
 | 0,a,b=>Rat.add_comm a b
 | _+1,a,b=>pj (add_comm a.1 b.1) (add_comm a.2 b.2)
def add_zero:∀ {h:Nat} (a:ah h),add a (rat h 0)=a
 | 0,a=>Rat.add_zero a
 | _+1,a=>pj (add_zero a.1) (add_zero a.2)
def zero_add {h:Nat} (a:ah h):add (rat h 0) a=a:=by rw [add_comm,add_zero]
def zero_mul:∀ {h:Nat} (t:aE h) (a:ah h),mul t (rat h 0) a=rat h 0
 | 0,_,a=>Rat.zero_mul a
 | h+1,t,a=>by
   show (add (mul t.1 (rat h 0) a.1) (mul t.1 (mul t.1 (rat h 0) a.2) t.2),add (mul t.1 (rat h 0) a.2) (mul t.1 (rat h 0) a.1))=_
   simp only [zero_mul,add_zero];rfl
def mul_comm:∀ {h:Nat} (t:aE h) (a b:ah h),mul t a b=mul t b a
 | 0,_,a,b=>Rat.mul_comm a b
 | h+1,t,a,b=>by
   show (add (mul t.1 a.1 b.1) (mul t.1 (mul t.1 a.2 b.2) t.2),add (mul t.1 a.1 b.2) (mul t.1 a.2 b.1))=(add (mul t.1 b.1 a.1) (mul t.1 (mul t.1 b.2 a.2) t.2),add (mul t.1 b.1 a.2) (mul t.1 b.2 a.1))
   rw [mul_comm t.1 a.1 b.1,mul_comm t.1 a.2 b.2,mul_comm t.1 a.1 b.2,mul_comm t.1 a.2 b.1,add_comm (mul t.1 b.2 a.1)]
def mul_zero {h:Nat} (t:aE h) (a:ah h):mul t a (rat h 0)=rat h 0:=by rw [mul_comm,zero_mul]
def mul_neg:∀ {h:Nat} (t:aE h) (a b:ah h),mul t (neg a) b=neg (mul t a b)
 | 0,_,a,b=>Rat.neg_mul a b
 | h + 1,t,a,b=>by
   have d:∀ {k:Nat} (x y:ah k),add (neg x) (neg y)=neg (add x y) := λ {k}=>by
     induction k with
     | zero=>intro x y;exact Rat.neg_add.symm
     | succ k c=>intro x y;exact pj (c _ _) (c _ _)
   show (add (mul t.1 (neg a.1) b.1) (mul t.1 (mul t.1 (neg a.2) b.2) t.2),add (mul t.1 (neg a.1) b.2) (mul t.1 (neg a.2) b.1))=(neg (add _ _),neg (add _ _))
   simp only [mul_neg,d]
def eJ (k:Nat):{h:Nat}->ah h->Prop
 | 0,a=>cI k a
 | _+1,a=>eJ k a.1/\eJ k a.2
def Nw {k:Nat}:∀ {h:Nat} {a:ah h},(∀ q∈flat a,cI k q)->eJ k a
 | 0,a,h=>h a (bJ.2 rfl)
 | _+1,a,h=>⟨Nw λ q b=>h q (nB _ b),Nw λ q b=>h q (qY _ b)⟩
def eJ.flat {k:Nat}:∀ {h:Nat} {a:ah h},eJ k a->∀ q∈flat a,cI k q
 | 0,a,h,q,b=>by rw [bJ.1 b];exact h
 | _+1,a,h,q,b=>(en.1 b).elim (h.1.flat q) (h.2.flat q)
def sh {h:Nat} {a:ah h} {n:Nat} (b:ms a n) (c:n<=4398046511104):eJ 419430400000 a:=Nw (Uc b (by omega))
end Go.aF.ah
namespace Go.aF
structure df {h:Nat} (t:aE h) (c:Nat):Prop where
 bL:ah.kH t c
 rd:ah.Rd t c
def df.low {h:Nat} {t:aE (h+1)} {c:Nat} (H:df t c):df t.1 c:=⟨H.bL.2,H.rd.2⟩
def df.top {h:Nat} {t:aE (h+1)} {c:Nat} (H:df t c):ah.ms t.2 c:=H.rd.1
instance {q:Rat}:cU 4 (aV q):=⟨inferInstance,rfl,Ke q,rfl⟩
instance {l:List Rat}:cU 1 (bb l):=⟨inferInstance,rfl,C7 l,rfl⟩
instance {h:Nat} {a:ah h}:cU 1 (aJ a):=inferInstanceAs (cU 1 (bb (ah.flat a)))
instance {R:List (List Rat)}:cU 1 (a3 R):=⟨inferInstance,rfl, λ d hd=>by
 have:(a3 R).cells=[a3 R]:=rfl
 rw [this,bJ] at hd
 subst hd
 exact bg.pure,rfl⟩
instance {n:aI}:cU 2 (aw n):=⟨inferInstance,rfl, λ d hd=>by
 have:(aw n).cells=[a3 n.T.2.ay,aJ n.a]:=rfl
 rw [this] at hd
 simp only [cr,cX,or_false] at hd
 rcases hd with rfl | rfl<;>exact bg.pure,rfl⟩
instance {x:ar}:cU 2 x.T:=inferInstanceAs (cU 2 (aw x.2))
theorem cU.list {k m:Nat} {l:List aa} (h:∀ c∈l,cU m c):bg (.sl k l):=bg.slice (λ c hc=>by
 have ⟨e,a,hc⟩:=iK.1 hc
 exact (h e a).cells c hc) λ c hc ρ => (h c hc).pu.fix ρ
theorem cU.map {α : Type} {k m:Nat} {f : α -> aa} (h:∀ x,cU m (f x)) (l:List α):bg (.sl k (l.map f)):=cU.list λ c hc=>by
 obtain ⟨x,_,rfl⟩:=bn.1 hc
 exact h x
instance {l:List ar}:bg (aj l):=cU.map (m:=2) (λ x=>inferInstance) l
instance {l:List ar}:cU 1 (aj l):=⟨inferInstance,rfl, λ d hd=>by
 have:(aj l).cells=[aj l]:=rfl
 rw [this,bJ] at hd
 subst hd
 exact bg.pure,rfl⟩
def az (m:List (List ar)):aa := .sl 1 (m.map aj)
instance {m:List (List ar)}:bg (az m):=cU.map (m:=1) (λ x=>inferInstance) m
instance {i:IntKind} {n:Int}:cU 1 (.int i n):=⟨inferInstance,rfl, λ d hd=>by
 have:(aa.int i n).cells=[.int i n]:=rfl
 rw [this,bJ] at hd
 subst hd
 exact bg.pure,rfl⟩
def kP (l:List Int):aa := .sl 1 (l.map λ n => .int .i64 n)
instance {l:List Int}:bg (kP l):=cU.map (m:=1) (λ x=>inferInstance) l
def first (p:Nat->Bool) (N:Nat):(∀ i,i<N->p i=false) \/ ∃ i,i<N/\p i=true/\∀ j,j<i->p j=false:=by
 induction N with
 | zero=>exact .inl λ i h=>absurd h (kC i)
 | succ N d =>
   rcases d with h | ⟨i,h1,c,b⟩
   cases e:p N with
   | true=>exact .inr ⟨N,Nat.lt_succ_self N,e,h⟩
   | false =>
     refine .inl λ i a => ?_
     rcases Nat.lt_succ_iff_lt_or_eq.1 a with h1 | rfl
     exact h i h1
     exact e
   exact .inr ⟨i,ZA h1,c,b⟩
def ahC {α : Type} {f : α -> aa} {l:List α} {i:Nat} (h:i<l.length):decide ((i:Int)<((l.map f).length:Int))=true:=by rw [aM];exact decide_eq_true (by omega)
def ahB {α : Type} {f : α -> aa} {l:List α}:decide ((l.length:Int)<((l.map f).length:Int))=false:=by rw [aM];exact decide_eq_false (by omega)
def B0 {α : Type} {f : α -> aa} {k:Nat} {l:List α} {i:Nat} (h:i<l.length):fY k (.sl k (l.map f)) (.int .i64 (i:Int))=some (.c2 (f l[i]).cells 0):=by
 unfold fY
 simp only []
 rw [if_pos ⟨trivial,by omega⟩,Int.toNat_natCast,iI,du h]
 rfl
def ao4 (i:Nat) (h:i<9000:=by omega):IntKind.i64.wrap ((i:Int)+1)=((i+1:Nat):Int):=by rw [IntKind.wrap_i64];omega
section
variable {P:Program} {G:Nat->Option (List aa)} {α : Type}
def bm (k:Nat) (f : α -> aa) {l:List α} {i:Nat} (h:i<l.length:=by omega):aZ P G:=hb k (ahC (f:=f) h)
def cx (k:Nat) (f : α -> aa) (l:List α):aZ P G:=hb k (ahB (f:=f) (l:=l))
def aQ (k c:Nat) (f : α -> aa) {l:List α} {i:Nat} (h:i<l.length:=by omega):aZ P G:=ho k (B0 (f:=f) (k:=c) h)
def a9 (k i:Nat) (h:i<9000:=by omega):aZ P G:=hw k (ao4 i h)
def h3 {h:Nat} (a:h+1<=3):h=0 \/ h=1 \/ h=2:=by omega
def h4 {h:Nat} (a:h<=3):h=0 \/ h=1 \/ h=2 \/ h=3:=by omega
end
end Go.aF
namespace Go.aF.ah
def pair {h:Nat} (a b:ah h):ah (h+1):=(a,b)
def b9 {h:Nat} (a:ah h):Bool:=(flat a).all λ q:Rat=>decide (q=0)
def oT:∀ {h:Nat} {a:ah h},b9 a=true↔a=rat h 0
 | 0,a=>by
   have b:∀ q:Rat,(decide (q=0)&&true)=true↔q=0 := λ q=>by rw [Bool.and_true,decide_eq_true_iff]
   exact b a
 | h+1,a=>by
   show ((flat a.1++flat a.2).all _)=true↔a=(rat h 0,rat h 0)
   rw [List.all_append,Bool.and_eq_true]
   exact (and_congr oT oT).trans ⟨λ h=>pj h.1 h.2, λ h=>by rw [h];exact ⟨rfl,rfl⟩⟩
def Te {h:Nat} {t:aE h} (b:t.bK) {a:ah h}:b9 a=true↔val t a=0:=oT.trans ⟨λ e=>by rw [e,val_zero],(red b).1 a⟩
def CL (h:Nat) (n:Nat):ms (rat h 0) n:=rV h (et _) (sJ)
end Go.aF.ah
namespace Go.aF
def pN (c:Nat):Nat->Nat
 | 0=>c
 | h+1=>pN c h+(c+c)
def tF (c:Nat):∀ {h:Nat},h<=3->pN c h<=7*c
 | 0,_=>by show c<=_;omega
 | 1,_=>by show c+(c+c)<=_;omega
 | 2,_=>by show c+(c+c)+(c+c)<=_;omega
 | 3,_=>by show c+(c+c)+(c+c)+(c+c)<=_;omega
def T6 (c h:Nat):c<=pN c h:=by
 induction h with
 | zero=>exact a4 _
 | succ h a=>show c<=pN c h+(c+c);omega
def aE.eJ (k:Nat):{h:Nat}->aE h->Prop
 | 0,_=>True
 | _+1,t=>aE.eJ k t.1/\ah.eJ k t.2
def df.sh:∀ {h:Nat} {t:aE h} {c:Nat},df t c->c<=4398046511104->aE.eJ 419430400000 t
 | 0,_,_,_,_=>trivial
 | _+1,_,_,H,hc=>⟨H.low.sh hc,ah.sh H.top hc⟩
def jT {h:Nat} (a:ah h):aN:=⟨(ah.flat a).map aV,4,false⟩
def alN {ρ : Id->Id} (l:List Rat):bx ρ (l.map aV)=l.map aV:=by
 rw [jl,mU]
 exact p8 λ x _=>bg.fix ρ
def adf {ρ : Id->Id} {h:Nat} {a:ah h}:(jT a).aX ρ = jT a:=by unfold jT;rw [fM,alN]
def hE {ρ : Id->Id} {i:Id} {h:Nat} {a:ah h}:dX ρ [(i,jT a)]=[(ρ i,jT a)]:=by rw [fK,fL,adf]
def an9 {σ : aL} {i:Id} {l:List Rat} {n:Nat} {t b:Bool} (h : σ i=some ⟨l.map aV,4,b⟩) (a:l.length=n):View σ (.ai i 4 0 n t) (bb l):=by
 subst a
 refine kY (au:=⟨l.map aV,4,b⟩) h rfl (by simp) ?_ (by simp) λ d hd => ?_
 rw [iZ,hM (by simp)]
 exact jx λ c hc=>by
   simp only [flat,iK,bn] at hc
   have ⟨_,⟨x,_,rfl⟩,hc⟩:=hc
   exact Ke x c hc
 obtain ⟨x,_,rfl⟩:=bn.1 hd;rfl
def dR {σ : aL} {i:Id} {h:Nat} {a:ah h} {t:Bool} (e : σ i=some (jT a)):View σ (.ai i 4 0 (2 ^ h) t) (aJ a):=an9 e (ah.yU a)
def hH {σ : aL} {i:Id} {R:List (List Rat)} {n:Nat} {t b:Bool} (h : σ i=some ⟨R.map bb,1,b⟩) (a:R.length=n):View σ (.ai i 1 0 n t) (a3 R):=by
 subst a
 refine kY (au:=⟨R.map bb,1,b⟩) h rfl (by simp) ?_ (by simp) λ d hd => ?_
 rw [iZ,hM (by simp)]
 exact jx λ c hc=>by
   simp only [flat,iK,bn] at hc
   have ⟨_,⟨x,_,rfl⟩,hc⟩:=hc
   exact C7 x c hc
 obtain ⟨x,_,rfl⟩:=bn.1 hd;rfl
class cq (k:Nat) (l:List aa):Prop where
 all:∀ c∈l,cU k c
instance {k:Nat}:cq k []:=⟨λ c h=>(cX h).elim⟩
instance {k:Nat} {c:aa} {l:List aa} [h:cU k c] [g:cq k l]:cq k (c::l):=⟨λ d hd=>by
 rcases cr.1 hd with rfl | hd
 exact h
 exact g.all d hd⟩
instance {α : Type} {k:Nat} {f : α -> aa} {l:List α} [h:∀ x,cU k (f x)]:cq k (l.map f):=⟨λ d hd=>by
 obtain ⟨x,_,rfl⟩:=bn.1 hd
 exact h x⟩
instance {k:Nat} {l:List aa} [h:cq k l]:bg (.sl k l):=cU.list h.all
def im {σ : aL} {i:Id} {l:List aa} {k n:Nat} {t b:Bool} [h:cq k l] (e : σ i=some ⟨l,k,b⟩) (a:l.length=n:=by rfl):View σ (.ai i k 0 n t) (.sl k l):=by
 subst a
 refine kY (au:=⟨l,k,b⟩) e rfl (by simp) ?_ rfl λ d hd=>(h.all d hd).size
 rw [iZ,hM (a4 _)]
 exact jx λ c hc=>by
   have ⟨d,hd,hc⟩:=iK.1 hc
   exact (h.all d hd).cells c hc
def one {σ : aL} {i:Id} {b:aN} (h:∀ x∈[(i,b)], σ x.1=some x.2) : σ i=some b:=h (i,b) cS
section
variable {P:Program} {G:Nat->Option (List aa)}
def dc {f:FuncId} {args:List aa} {r:Id->bM} (h:∀ p,cu P G f args p [] (r p)):aZ P G := .rel f args [] r (λ p _=>h p) (λ p x a=>by cases a)
def j1 {f:FuncId} {A:List aa} {r:aa} (i:Id) (k:Nat) (l:List aa) [cq k l] [a:br A] (h:ag P G f (A++[.sl k l]) r):aZ P G:=qw [(i,⟨l,k,false⟩)] (args:=A++[.ai i k 0 l.length false]) h (by
 have:∀ A:List aa,(∀ c∈A,b8 c)->c9 (bk [(i,(⟨l,k,false⟩:aN))]) (A++[.ai i k 0 l.length false]) (A++[.sl k l]) := λ A=>by
   induction A with
   | nil=>exact λ _=>cp (im (b:=false) (by simp [bk])) c9.nil
   | cons c A e=>exact λ a=>cp (View.pure (a c cS)) (e λ d hd=>a d (c5 _ hd))
 exact this A a.pure)
def SR {f:FuncId} {A B:List aa} {r:aa} (i:Id) (k:Nat) (l:List aa) [cq k l] [a:br A] [e:br B] (h:ag P G f (A ++ .sl k l::B) r):aZ P G:=qw [(i,⟨l,k,false⟩)] (args:=A ++ .ai i k 0 l.length false::B) h (by
 have:∀ A:List aa,(∀ c∈A,b8 c)->c9 (bk [(i,(⟨l,k,false⟩:aN))]) (A ++ .ai i k 0 l.length false::B) (A ++ .sl k l::B) := λ A=>by
   induction A with
   | nil=>exact λ _=>cp (im (b:=false) (by simp [bk])) (jx e.pure)
   | cons c A g=>exact λ a=>cp (View.pure (a c cS)) (g λ d hd=>a d (c5 _ hd))
 exact this A a.pure)
def E6 (P:Program) (G:Nat->Option (List aa)) (f:FuncId) (args:List aa) (L:List (List Nat)) {h:Nat} (a:ah h):Prop:=∃ l,l∈L/\∀ p,cu P G f args p [] { val := .ai (l++p) 4 0 (2 ^ h) false,rd:=[],up:=[(l++p,some (jT a))] }
def s3 {i:Id} {b:aN}:aL.app (λ _=>none) [(i,some b)] i=some b:=aL.vn (λ _=>none) i (some b)
def E6.fN {f:FuncId} {args:List aa} {L:List (List Nat)} {h:Nat} {a:ah h} (H:E6 P G f args L a):ag P G f args (aJ a):=by
 have ⟨l,_,b⟩:=H
 exact ag.xh (b []) (dR s3)
def fV (c:Nat):Nat->Nat->Nat
 | 0,n=>n
 | h+1,n=>fV c h n+fV c h (n+ah.gz c h c+c)+fV c h (n+n+c)+fV c h (n+ah.e9 c h (n+n+c)+3+c)+(n+ah.gz c h (ah.e9 c h (n+ah.e9 c h (n+n+c)+3+c)+1)+20*c)+(ah.gz c h c+n+20*c)+2 ^ (h+1)*(n+10*c)
def w2 (c:Nat):∀ (h n:Nat),n+n<=ah.gz c h n
 | 0,_=>a4 _
 | h+1,n=>by
   have:=w2 c h (n+n+c)
   show _<=n+ah.gz c h (n+n+c)+c
   omega
def u3 (c:Nat):∀ (h n:Nat),n+n<=ah.e9 c h n
 | 0,_=>a4 _
 | h+1,n=>by
   have:=u3 c h n
   show _<=_+_+ah.e9 c h n+_
   omega
end
end Go.aF
namespace Go.aF.ah
section
variable {h:Nat} {t:aE (h+1)} {a:ah (h+1)} {c n:Nat}
def QG (b:t.bK) (hv:val t.1 a.2≠0) {m:ah h} (d:val t.1 m*val t.1 m=val t.1 (norm t a)) :
   val t.1 (mul t.1 (add a.1 m) (rat h (1/2)))=(val t.1 a.1+val t.1 m)/2/\val t.1 (mul t.1 (add a.1 (neg m)) (rat h (1/2)))=(val t.1 a.1-val t.1 m)/2:=by
 rw [I2 b.1.pos,I2 b.1.pos,val_add,val_add,val_neg]
 exact ⟨rfl,by rw [show val t.1 a.1 + -val t.1 m=val t.1 a.1-val t.1 m by grind]⟩
def FB (f:t.bK) (hv:val t.1 a.2≠0) {n:aC} (g:n*n=val t.1 (norm t a)) {w:ah h} (hw:val t.1 w*val t.1 w=(val t.1 a.1+n)/2) :
   val t.1 w≠0/\val t.1 (add w w)≠0/\val t ((w,mul t.1 a.2 (inv t.1 (add w w))):ah (h+1))*val t ((w,mul t.1 a.2 (inv t.1 (add w w))):ah (h+1))=val t a:=by
 have j:=Ut f hv g
 have d:val t.1 w≠0 := λ e=>by
   rw [e] at hw
   exact j (by grind)
 have b:val t.1 (add w w)≠0:=by rw [val_add];intro e;exact d (by grind)
 refine ⟨d,b,ana f hv g hw ?_⟩
 have k:=(red f.1).2 _ b
 rw [val_mul f.1.pos]
 rw [val_add] at k
 generalize val t.1 (inv t.1 (add w w))=i at *
 generalize val t.1 w=x at *
 grind
def ama (b:t.bK) (H:df t c) (hv:val t.1 a.2=0) (d:ms a n) {w:ah (h+1)} (e:val t w*val t w=val t a):ms w (e9 c h n+e9 c h (n+gz c h c+c)):=by
 have ⟨p,q⟩:=Dv b e
 rw [hv] at q
 have dc:val t.1 t.2≠0:=by have:=b.2.1;grind
 have YH:∀ x:ah h,val t.1 x=0->x=rat h 0:=(red b.1).1
 rcases JF (x:=val t.1 w.1) (y:=val t.1 w.2) (by grind) with e | e
 have g:=(red b.1).2 _ dc
 have f:val t.1 w.2*val t.1 w.2=val t.1 (mul t.1 a.1 (inv t.1 t.2)):=by
   rw [val_mul b.1.pos, <- p,e]
   generalize val t.1 (inv t.1 t.2)=i at *
   generalize val t.1 t.2=r at *
   grind
 have k:=sa b.1 H.low.bL H.low.rd f (w7 H.low.bL.bL (w8 d).1 (CI b.1 H.low.bL H.top dc))
 rw [show w=((rat h 0,w.2):ah (h+1)) from pj (YH _ e) rfl]
 exact ji (vk (CL h 0) k) (by omega)
 have k:=sa (a:=a.1) (w:=w.1) b.1 H.low.bL H.low.rd (by rw [<- p,e];grind) (w8 d).1
 rw [show w=((w.1,rat h 0):ah (h+1)) from pj rfl (YH _ e)]
 exact ji (vk k (CL h 0)) (by omega)
end
end Go.aF.ah
namespace Go.aF
def z5 {w v:aC} (b:0<=v) (e:w*w=v) (hw:0<=w):w=b5 v:=by
 have a:=ui b
 have c:=aC.Nq v
 rcases aC.NG (e.trans a.symm) with h | h
 exact h
 have:w=0:=by grind
 have:b5 v=0:=by grind
 grind
def Iz {h:Nat} {t:aE h} {a:ah h} (b:0<=aR t a):ah.qh t a↔aD.In ⟨h,t⟩ (b5 (aR t a)):=by
 constructor
 rintro ⟨w,e⟩
 by_cases hw:0<=aR t w
 exact ⟨w,z5 b e hw⟩
 exact ⟨kZ w,z5 b (by rw [q9, <- e];grind) (by rw [q9];grind)⟩
 rintro ⟨w,e⟩
 exact ⟨w,by rw [e];exact ui b⟩
def rS {h:Nat} (a:ah h):Prop:=match h,a with | 3,a=>a.2.b9=true | _,_=>True
def gK (c:Nat) (n:Nat):Prop:=fV c 2 n+fV c 2 (n+ah.gz c 2 c+c)+(ah.gz c 2 c+n+20*c)+8*(ah.e9 c 2 n+ah.e9 c 2 (n+ah.gz c 2 c+c)+10*c)<=2199023255552
def Vn (c:Nat):∀ h n,fV c h n<=fV c (h+1) n := λ h n=>by show _<=fV c h n+_+_+_+_+_+_;omega
def HY {c h n:Nat} (b:h<=2):fV c h n<=fV c 2 n:=by
 have a0:fV c 0 n<=fV c 1 n:=Vn c 0 n
 have a:fV c 1 n<=fV c 2 n:=Vn c 1 n
 have:h=0 \/ h=1 \/ h=2:=by omega
 rcases this with rfl | rfl | rfl<;>omega
end Go.aF
