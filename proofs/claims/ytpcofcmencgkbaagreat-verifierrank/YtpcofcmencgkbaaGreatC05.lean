/- For the claim of VerifierRank: parts ZKS, LP1, LP2, LP3, RE1, RE2, TW1, TW2. -/
import Derived.Test.YtpcofcmencgkbaaGreatC03
import Derived.Test.YtpcofcmencgkbaaGreatC04
import Derived.Lib.ItoaNum
import Derived.KernelRfl
set_option linter.defProp false
set_option linter.unusedSimpArgs false
set_option linter.unusedVariables false
set_option maxRecDepth 100000
open Bool renaming and_eq_true->hJ,or_eq_true->Pb
open Classical renaming choose->q7,choose_spec->oi
open Go.IntKind renaming i64->cF,u32->gD,u64->de,wrap_i64->cM,wrap_u64->iu
open Go.Proofs.Tryz renaming prog->ab
open Go.aF renaming hb->fh
open Go.aF.aL renaming app->l6,of->bk
open Go.aF.eK renaming to->kd
open Go.aF.bu renaming j7->iG
open Go.aF.View renaming ai->kY,pure->jw
open Go.aF.c9 renaming cons->cp,pure->jx
open Go.aF.hX renaming view->l4
open Go.aF.eU renaming same->hN
open Int renaming mul_ediv_cancel_left->Eg,natAbs_add_le->Zb,natAbs_ediv_le_natAbs->Ze,natAbs_mul->l3,natAbs_natCast->gE,natCast_ediv->Pa,natCast_mul->uf,ofNat_dvd->El,ofNat_dvd_left->vG,sign_eq_neg_one_of_neg->x6,sign_eq_one_of_pos->og,tdiv_eq_ediv_of_nonneg->AR
open Lean.Grind.Field renaming mul_inv_cancel->Zp
open Lean.Grind.OrderedRing renaming zero_lt_one->aqy
open Lean.Grind.Ring renaming sub_eq_add_neg->sG
open List renaming all_eq_true->eO,append_inj'->Zh,drop_zero->iZ,filter_append->pg,length_append->cd,length_eq_one_iff->Zd,lookup->cD,lookup_cons->kc,map_append->dU,map_cons->hQ,mem_cons->cr,mem_flatMap->iK,mem_map->bn,mem_of_mem_take->gq,mem_singleton->bJ,nil_sublist->nF,nodup_cons->iF,nodup_nil->gm,not_mem_nil->cX,range->ba,range_succ->ke,replicate->bG,suffix_append->Zi,take_of_length_le->hM
open Nat renaming div_le_self->ja,gcd->cy,gcd_dvd_left->Ek,gcd_dvd_right->q2,gcd_pos_of_pos_right->JC,le_add_right->ud,le_of_ble_eq_true->Ee,le_of_dvd->Ej,le_of_lt->jt,le_refl->a4,le_trans->bs,mul_add->dC,mul_div_cancel_left->Zf,mul_le_mul->lH,mul_one->mS,mul_zero->iY,pos_of_ne_zero->kX,pow_le_pow_right->dv,sub_le->Ei,zero_le->et
open Ne renaming symm->c3
open Option.some renaming injEq->a7
open Prod.mk renaming injEq->cY
open Quotient renaming lift₂->Zk
open Rat renaming div_def->JD,intCast_add->Zc,intCast_le_intCast->sH,inv_pos->sF,lt_floor_add_one->Zm,mul_inv_cancel->q8,mul_nonneg->jM,mul_pos->fO,natCast_add->Em,natCast_nonneg->Zo,num_eq_zero->oh,num_nonneg->En
open Setoid renaming symm->Zl
open Go.aF Go.Proofs
namespace Go.Proofs.YtpcofcmencgkbaaGreat
section
variable {G:Nat->Option (List aa)}
def akF (r:yr ab G 291) (t:Bn ab G 294) (ho:ag ab G 189 [] (aP 1)) (i:wj ab G 236) (x:J7 ab G 295):E7 ab G 276 := λ a b u hb=>by
 have j:=r a.den
 have o:=r b.den
 have E:=mM a.num b.den
 have w:=mM b.num a.den
 have n:=mM a.den b.den
 rw [gS] at E w n
 rw [gS] at n
 have A:=u.1
 have D:=u.2
 have z:=hb.1
 have y:=hb.2
 have q:=i a.num b.den (by omega) (by rw [gS];omega)
 have s:=i b.num a.den (by omega) (by rw [gS];omega)
 have p:=i a.den b.den (by rw [gS];omega) (by rw [gS];omega)
 have v:=t (a.num*b.den) (b.num*a.den) (by omega) (by omega)
 have f:ae (a.num*b.den+b.num*a.den).natAbs<=1677721600001:=bs (ff (Zb _ _)) (DW (k:=1677721600000) (by omega) (by omega))
 have m:=x (a.num*b.den+b.num*a.den) (a.den*b.den) (Uf a b) f (by omega)
 rw [<- akC] at m
 have C:=t a.num b.num (by omega) (by omega)
 by_cases e:(a.den:Int)=1
 have g:decide ((a.den:Int)=1)=true:=eL e
 by_cases d:(b.den:Int)=1
 have l:decide ((b.den:Int)=1)=true:=eL d
 have B:a+b=((a.num+b.num:Int):Rat):=by rw [Zc, <- yN e, <- yN d]
 rw [B]
 exact aO [hc j,fh 9 g,hc o,fh 13 l,hc C,hc ho]
 have l:decide ((b.den:Int)=1)=false:=dw d
 exact aO [hc j,fh 9 g,hc o,fh 13 l,hc q,hc s,hc v,hc p,hc m]
 have g:decide ((a.den:Int)=1)=false:=dw e
 exact aO [hc j,fh 9 g,hc q,hc s,hc v,hc p,hc m]
def akK (b:Bo ab G 281):E8 ab G 248 := λ q c=>by
 have h1:=b q.num (by have:=c.1;omega)
 exact aO [hc h1]
def akJ (n:∀ z:Int,ag ab G 308 [aP z] (.bool (decide (z=0)))) (g:wj ab G 236) (m:J7 ab G 295):P1 ab G 296 := λ a b f h hb=>by
 have d:b.num≠0 := λ e=>f (oh.1 e)
 have i:=n b.num
 have q:decide (b.num=0)=false:=dw d
 rw [q] at i
 have l:=mM a.num b.den
 have u:=mM a.den b.num
 rw [gS] at l u
 have o:=h.1
 have s:=h.2
 have k:=hb.1
 have r:=hb.2
 have p:=g a.num b.den (by omega) (by rw [gS];omega)
 have t:=g a.den b.num (by rw [gS];omega) (by omega)
 have j:=m (a.num*b.den) (a.den*b.num) (Int.mul_ne_zero (KM a) d) (by omega) (by omega)
 rw [<- akD] at j
 exact aO [hc i,hc p,hc t,hc j]
def akS (a:Int) (b:Nat) (f:b≠0) (h1:ag ab G 127 [.int .i64 a] (aP a)) (g:ag ab G 127 [.int .i64 (b:Int)] (aP (b:Int))) (d:ag ab G 137 [aP a,aP b] (aV ((a:Rat)/((b:Int):Rat)))):ag ab G 95 [.int .i64 a, .int .i64 (b:Int)] (aV ((a:Rat)/((b:Int):Rat))):=by
 have e:decide ((b:Int)=0)=false:=dw (by omega)
 exact aO [hb 6 e,hc h1,hc g,hc d]
def akX (b:Bo ab G 187):E8 ab G 203 := λ q c=>by
 have h1:=b q.num (by have:=c.1;omega)
 exact aO [hc h1]
def ame (a b:Int) (hd:ag ab G 226 [aP a,aP b] (.aS [aP (a/b),aP 0, .int .i64 0])):ag ab G 178 [aP a,aP b] (aP (a/b)):=by
 exact aO [hc hd]
def al6 (d:lK ab G 179) (z:Int) (e:ae z.natAbs<=4194304000000):ag ab G 187 [aP z] (aP (-z)):=by
 have b:=d (!decide (z<0)) z.natAbs (by omega)
 rw [qJ] at b
 have c:([0]:List Nat)≠[1]:=by decide
 exact aO [hc b]
def al7 (d:lK ab G 179) (z:Int) (e:ae z.natAbs<=4194304000000):ag ab G 219 [aP z] (aP z):=by
 have b:=d (decide (z<0)) z.natAbs (by omega)
 rw [Iq] at b
 have c:([0]:List Nat)≠[1]:=by decide
 exact aO [hc b]
def ajf (b:ag ab G 188 [.int .i64 1] (aP 1)):ag ab G 189 [] (aP 1):=by
 exact aO [hc b]
def ami (a b:Int) (d:ag ab G 264 [aP a] (.int .i64 a.sign)):ag ab G 234 [hV a b] (.int .i64 a.sign):=by
 exact aO [hc d]
def acm (d:∀ z:Int,ae z.natAbs<=4194304000000->ag ab G 264 [aP z] (.int .i64 z.sign)) (i:∀ a b:Int,ag ab G 265 [.int .i64 a, .int .i64 b] (.int .i64 (eV a b))) (o:gZ ab G 262)
  (s:∀ m n,ae m<=4194304000000->ae n<=4194304000000->ag ab G 266 [W m,W n] (.int .i64 (dI m n))) (y z:Int) (l:ae y.natAbs<=4194304000000) (k:ae z.natAbs<=4194304000000):ag ab G 235 [aP y,aP z] (.int .i64 (eV y z)):=by
 have p:=d y l
 have j:=d z k
 by_cases g:y.sign=z.sign
 have h:(y.sign != z.sign)=false:=by simp [g]
 have r:cF.wrap (y.sign*dI y.natAbs z.natAbs)=eV y z:=by
   rw [ack g,cM]
   rcases oG y z with ⟨e,_⟩ | ⟨e,_⟩ | ⟨e,_⟩<;>rw [e]<;>omega
 have q:=jq o y.natAbs (by omega)
 have t2:=jq o z.natAbs (by omega)
 have f:=s y.natAbs z.natAbs l k
 rw [<- r]
 exact aO [hc p,hc j,hb 13 h,hc q,hc t2,hc f]
 have h:(y.sign != z.sign)=true:=by simp [g]
 have f:=i y.sign z.sign
 rw [QV g] at f
 exact aO [hc p,hc j,hb 13 h,hc f]
def agn (z:Int):ag ab G 291 [aP z] (.bool (decide (z=1))):=by
 have b:ae 1=1:=by unfold ae;rw [td (by decide),show 1/af=0 from rfl,iO];rfl
 by_cases c:z<0
 have a:(!decide (z<0))=false:=by rw [eL c];rfl
 rw [dw (show z≠1 by omega)]
 exact aO [hb 6 a]
 have a:(!decide (z<0))=true:=by rw [dw c];rfl
 by_cases h1:ae z.natAbs=1
 have ⟨w,hw⟩:=Zd.1 h1
 have hv:z.natAbs=w:=by have:=nx z.natAbs;rw [hw] at this;simp [val] at this;omega
 rw [show decide (z=1)=decide ((w:Int)=1) by congr 1;apply propext;omega]
 have e:aP z = .agg [.bool (decide (z<0)), .sl 1 (us [w])]:=by rw [<- hw];rfl
 rw [e]
 exact aO [hb 6 a]
 have f:decide ((ae z.natAbs:Int)=1)=false:=dw (by omega)
 rw [dw (show z≠1 by intro e;rw [e] at h1;exact h1 b)]
 exact aO [hb 6 a,ho 9 (@dV z.natAbs),hb 10 f]
def akY (z:Int):ag ab G 174 [aP z] (.bool (decide (z=1))):=by
 have b:ae 1=1:=by unfold ae;rw [td (by decide),show 1/af=0 from rfl,iO];rfl
 by_cases h1:ae z.natAbs=1
 have ⟨w,hw⟩:=Zd.1 h1
 have hv:z.natAbs=w:=by have:=nx z.natAbs;rw [hw] at this;simp [val] at this;omega
 have e:aP z = .agg [.bool (decide (z<0)), .sl 1 (us [w])]:=by rw [<- hw];rfl
 rw [e]
 by_cases f:w=1
 have a:decide ((w:Int)=1)=true:=eL (by omega)
 rw [show decide (z=1) = !decide (z<0) by
   by_cases d:z<0
   rw [eL d,dw (by omega)];rfl
   rw [dw d,eL (by omega)];rfl]
 exact aO [hb 14 a]
 have a:decide ((w:Int)=1)=false:=dw (by omega)
 rw [dw (show z≠1 by omega)]
 exact aO [hb 14 a]
 have g:decide ((ae z.natAbs:Int)=1)=false:=dw (by omega)
 rw [dw (show z≠1 by intro e;rw [e] at h1;exact h1 b)]
 exact aO [ho 5 (@dV z.natAbs),hb 6 g]
def akP (a b:Int) (e:ag ab G 291 [aP b] (.bool (decide (b=1)))) (hd:ag ab G 319 [aP a,aP b] (.aS [aP (a.fdiv b),aP (a.fmod b), .int .i64 0])):ag ab G 307 [aP a,aP b] (aP (a.fdiv b)):=by
 by_cases h1:b=1
 have d:decide (b=1)=true:=eL h1
 rw [show a.fdiv b=a by rw [h1,Int.fdiv_one]]
 exact aO [hc e,u5 9 d]
 have d:decide (b=1)=false:=dw h1
 exact aO [hc e,u5 9 d,hc hd]
def alV (hu:∀ n,n<18446744073709551616->ag ab G 180 [.int .u64 ((n:Nat):Int)] (W n)) (g:lK ab G 179) (a:Int) (h1 : -9223372036854775808<=a) (i:a<9223372036854775808):ag ab G 127 [.int .i64 a] (aP a):=by
 have h:=xT a.natAbs
 have b:=g (decide (a<0)) a.natAbs (by omega)
 rw [Iq] at b
 have c:=hu a.natAbs (by omega)
 by_cases f:a<0
 have e:decide (a<0)=true:=eL f
 rw [e] at b
 rw [<- show de.wrap (0-(de.wrap a))=(a.natAbs:Int) by rw [iu,iu];omega] at c
 exact aO [hb 4 e,hc c,hc b]
 have e:decide (a<0)=false:=dw f
 rw [e] at b
 rw [<- show de.wrap a=(a.natAbs:Int) by rw [iu];omega] at c
 exact aO [hb 4 e,hc c,hc b]
def alf (u:∀ z:Int,ae z.natAbs<=4194304000000->ag ab G 219 [aP z] (aP z))
  (w:∀ m n,ae m<=4194304000000->ae n<=4194304000000->ag ab G 220 [W m,W n] (W (m+n))) (r:lK ab G 179) (v:∀ m n,ae m<=4194304000000->ae n<=4194304000000->ag ab G 221 [W m,W n] (.int .i64 (dI m n)))
  (t:∀ m n,n<=m->ae m<=4194304000000->ag ab G 222 [W m,W n] (W (m-n))) (a b:Int) (h:ae a.natAbs<=4194304000000) (i:ae b.natAbs<=4194304000000):ag ab G 175 [aP a,aP b] (aP (a+b)):=by
 have s:=u a h
 have o:=u b i
 have x:ae (a.natAbs+b.natAbs)<=4194304000001:=DW h i
 have q:=w a.natAbs b.natAbs h i
 have k:=v a.natAbs b.natAbs h i
 by_cases f:decide (a<0)=decide (b<0)
 have l:(decide (a<0)==decide (b<0))=true:=by rw [f];exact beq_self_eq_true _
 have c:=r (decide (a<0)) (a.natAbs+b.natAbs) (by omega)
 rw [V8 f] at c
 exact aO [hc s,hc o,hb 13 l,hc q,hc c]
 have l:(decide (a<0)==decide (b<0))=false:=by simpa using f
 by_cases j:b.natAbs<=a.natAbs
 have p:decide (0<=dI a.natAbs b.natAbs)=true:=eL (by simp only [dI,eV];rw [if_neg (by omega)];split<;>decide)
 have g:=t a.natAbs b.natAbs j h
 have c:=r (decide (a<0)) (a.natAbs-b.natAbs) (by have:=ff (Ei a.natAbs b.natAbs);omega)
 rw [Ip f j] at c
 exact aO [hc s,hc o,hb 13 l,hc k,hb 27 p,hc g,hc c]
 have p:decide (0<=dI a.natAbs b.natAbs)=false:=dw (by simp only [dI,eV];rw [if_pos (by omega)];decide)
 have g:=t b.natAbs a.natAbs (by omega) i
 have c:=r (decide (b<0)) (b.natAbs-a.natAbs) (by have:=ff (Ei b.natAbs a.natAbs);omega)
 rw [Ip (λ e=>f e.symm) (by omega),Int.add_comm] at c
 exact aO [hc s,hc o,hb 13 l,hc k,hb 27 p,hc g,hc c]
def al4 (g:∀ z:Int,ae z.natAbs<=4194304000000->ag ab G 219 [aP z] (aP z))
  (i:∀ m n,ae m<=4194304000000->ae n<=4194304000000->ag ab G 225 [W m,W n] (W (m*n))) (j:lK ab G 179) (a b:Int) (h:ae a.natAbs<=4194304000000) (f:ae b.natAbs<=4194304000000):ag ab G 177 [aP a,aP b] (aP (a*b)):=by
 have l:=g a h
 have k:=g b f
 have e:=i a.natAbs b.natAbs h f
 have d:=j (!(decide (a<0)==decide (b<0))) (a.natAbs*b.natAbs) (by have:=Av a.natAbs b.natAbs;omega)
 rw [V9] at d
 exact aO [hc l,hc k,hc e,hc d]
def ahy (a b g:Int) (i:ag ab G 292 [aP a,aP b] (aP g)) (j:ag ab G 281 [aP g] (aP (-g)))
  (e:∀ x y:Int,(x=a \/ x=b)->(y=g \/ y = -g)->ag ab G 307 [aP x,aP y] (aP (x.fdiv y))):ag ab G 295 [aP a,aP b] (hV (a.fdiv (if b<0 then -g else g)) (b.fdiv (if b<0 then -g else g))):=by
 by_cases d:b<0
 have q1:=e a (-g) (.inl rfl) (.inr rfl)
 have f:=e b (-g) (.inr rfl) (.inr rfl)
 rw [if_pos d]
 have h:=eL d
 exact aO [hc i,hb 10 h,hc j,hc q1,hc f]
 have q1:=e a g (.inl rfl) (.inl rfl)
 have f:=e b g (.inr rfl) (.inl rfl)
 rw [if_neg d]
 have h:=dw d
 exact aO [hc i,hb 10 h,hc q1,hc f]
def al5 (a b c d:Int) (x:aa) {x1 bF:Int} (p:x=hV x1 bF) (n:∀ z,ag ab G 291 [aP z] (.bool (decide (z=1)))) (g:ag ab G 236 [aP a,aP c] (aP (a*c))) (h:ag ab G 236 [aP b,aP d] (aP (b*d))) (q:ag ab G 189 [] (aP 1))
  (m:ag ab G 295 [aP (a*c),aP (b*d)] x):ag ab G 284 [hV a b,hV c d] (if b=1/\d=1 then hV (a*c) 1 else x):=by
 subst p
 have l:=n b
 have o:=n d
 by_cases j:b=1
 have i:=eL j
 by_cases hd:d=1
 have k:=eL hd
 rw [if_pos ⟨j,hd⟩]
 unfold hV
 exact aO [hc l,hb 8 i,hc o,hb 12 k,hc g,hc q]
 have k:=dw hd
 rw [if_neg λ e=>hd e.2]
 unfold hV
 exact aO [hc l,hb 8 i,hc o,hb 12 k,hc g,hc h,hc m]
 have i:=dw j
 rw [if_neg λ e=>j e.1]
 unfold hV
 exact aO [hc l,hb 8 i,hc g,hc h,hc m]
def amK (g:gZ ab G 262):lK ab G 229 := λ neg n f=>by
 have c:=jq g n f
 have d := @dV n
 have j:=gL (n:=n)
 by_cases h:n=0
 have b:decide ((ae n:Int)=0)=true:=eL (by omega)
 have e:aP (ep neg n) = .agg [.bool false, .sl 1 []]:=by rw [h];cases neg<;>simp [aP,ep,W,iO,us]
 rw [e]
 refine ag.xM aY [hc c,ho 8 d,hb 9 b] [] (.agg [.bool false, .aq]) (by kernel_rfl) λ _ _=>View.agg (cp (jw (b8.bool _)) (cp (View.aq 1) c9.nil))
 have b:decide ((ae n:Int)=0)=false:=dw (by omega)
 have i:aP (ep neg n) = .agg [.bool neg,W n]:=by cases neg<;>simp only [aP,ep]<;>simp<;>omega
 rw [i]
 exact aO [hc c,ho 8 d,hb 9 b]
def amj (c:gZ ab G 223):lK ab G 179 := λ neg n d=>by
 have b:=jq c n d
 have f := @dV n
 have g:=gL (n:=n)
 have e:decide ((0:Int)<(ae n:Int))=decide (0<n):=by congr 1;apply propext;omega
 rw [aal, <- e]
 cases neg
 exact aO [hc b]
 exact aO [hc b,ho 10 f]
def akG (l:Kd ab G 234) (k:wj ab G 236) (q:PT ab G 235):P0 ab G 195 := λ a b h i=>by
 have h1:=l a h
 have j:=l b i
 have m:=mM a.num b.den
 have u:=mM b.num a.den
 rw [gS] at m u
 have p:=h.1
 have t:=h.2
 have o:=i.1
 have r:=i.2
 have n:=k a.num b.den (by omega) (by rw [gS];omega)
 have s:=k b.num a.den (by omega) (by rw [gS];omega)
 have v:=q (a.num*b.den) (b.num*a.den) (by omega) (by omega)
 by_cases f:dr a=dr b
 have d:(dr a != dr b)=false:=by simp [f]
 exact aO [hc h1,hc j,hb 13 d,hc n,hc s,hc v]
 have d:(dr a != dr b)=true:=by simp [f]
 rw [akH f]
 by_cases e:dr a<dr b
 have g:decide (dr a<dr b)=true:=eL e
 rw [if_pos e]
 exact aO [hc h1,hc j,hb 13 d,hb 16 g]
 have g:decide (dr a<dr b)=false:=dw e
 rw [if_neg e]
 exact aO [hc h1,hc j,hb 13 d,hb 16 g]
def akV (l:yq ab G 176) (j:E2 ab G 186) (g:E1 ab G 178) (a:Int) (b:Nat) (f:b≠0) (o:ae a.natAbs<=1677721600000) (e:ae b<=1677721600000):ag ab G 137 [aP a,aP b] (aV ((a:Rat)/((b:Int):Rat))):=by
 have h1:=l a b (by omega) e
 rw [gE] at h1
 have h:=j b e
 rw [og (by omega)] at h
 have m:0<cy a.natAbs b:=JC _ (by omega)
 have d:ae (((cy a.natAbs b:Nat):Int)).natAbs<=1677721600000:=bs (ff (Ej (by omega) (q2 _ _))) e
 have i:=g a (cy a.natAbs b:Nat) (by omega) (vG.2 (Ek _ _)) (by omega) d
 have k:=g b (cy a.natAbs b:Nat) (by omega) (vG.2 (by rw [gE];exact q2 _ _)) (by rw [gS];omega) d
 rw [akE a b f]
 have n:decide ((1:Int)<0)=false:=rfl
 exact aO [hc h1,hc h,hc i,hc k]
def al0 (g:gZ ab G 223) (neg:Bool) (ws:List Nat) (hw:fl ws) (i:ws.length<=9223372036854775807):ag ab G 249 [uA neg ws] (.bool (rR neg ws)):=by
 have a:jr false (.sl 1 (us ws))=some (.int .i64 ws.length):=by simp [jr,il]
 have e:=g ws hw i
 have f := @dV (val ws)
 rw [<- agx neg hw]
 have j:decide ((ae (val ws):Int)=(ws.length:Int))=decide (ae (val ws)=ws.length):=by congr 1;apply propext;omega
 have h:decide ((0:Int)<(ws.length:Int))=decide (0<ws.length):=by congr 1;apply propext;omega
 rw [<- j, <- h]
 by_cases c:(ae (val ws):Int)=(ws.length:Int)
 have b:decide ((ae (val ws):Int)=(ws.length:Int))=true:=eL c
 rw [b]
 cases neg
 exact aO [hc e,ho 6 f,ho 9 a,hb 10 b]
 exact aO [hc e,ho 6 f,ho 9 a,hb 10 b,ho 18 a]
 have b:decide ((ae (val ws):Int)=(ws.length:Int))=false:=dw c
 rw [b]
 exact aO [hc e,ho 6 f,ho 9 a,hb 10 b]
def af6 (s:gZ ab G 262)
  (t:∀ m n,ae m<=4194304000000->ae n<=4194304000000->ag ab G 305 [W m,W n] (W (m+n))) (q:lK ab G 229) (v:∀ m n,ae m<=4194304000000->ae n<=4194304000000->ag ab G 266 [W m,W n] (.int .i64 (dI m n)))
  (r:∀ m n,n<=m->ae m<=4194304000000->ag ab G 306 [W m,W n] (W (m-n))):Bn ab G 294 := λ a b x u=>by
 have i:=jq s a.natAbs (by omega)
 have h:=jq s b.natAbs (by omega)
 have o:=t a.natAbs b.natAbs (by omega) (by omega)
 have j:=v a.natAbs b.natAbs (by omega) (by omega)
 have w:ae (a.natAbs+b.natAbs)<=1677721600001:=DW x u
 by_cases f:decide (a<0)=decide (b<0)
 have l:(decide (a<0)==decide (b<0))=true:=by rw [f];exact beq_self_eq_true _
 have d:=q (decide (a<0)) (a.natAbs+b.natAbs) (by omega)
 rw [V8 f] at d
 exact aO [hc i,hc h,hb 17 l,hc o,hc d]
 have l:(decide (a<0)==decide (b<0))=false:=by simpa using f
 by_cases k:b.natAbs<=a.natAbs
 have p:decide (dI a.natAbs b.natAbs<0)=false:=dw (by simp only [dI,eV];rw [if_neg (by omega)];split<;>decide)
 have g:=r a.natAbs b.natAbs k (by omega)
 have d:=q (decide (a<0)) (a.natAbs-b.natAbs) (by have:=ff (Ei a.natAbs b.natAbs);omega)
 rw [Ip f k] at d
 exact aO [hc i,hc h,hb 17 l,hc j,hb 27 p,hc g,hc d]
 have p:decide (dI a.natAbs b.natAbs<0)=true:=eL (by simp only [dI,eV];rw [if_pos (by omega)];decide)
 have g:=r b.natAbs a.natAbs (by omega) (by omega)
 have d:=q (decide (b<0)) (b.natAbs-a.natAbs) (by have:=ff (Ei b.natAbs a.natAbs);omega)
 rw [Ip (λ e=>f e.symm) (by omega),Int.add_comm] at d
 exact aO [hc i,hc h,hb 17 l,hc j,hb 27 p,hc g,hc d]
def akR (h:yr ab G 174) (I:Bn ab G 175) (V:yq ab G 176) (r:wj ab G 177) (H:E1 ab G 178):E7 ab G 123 := λ a b Z hB=>by
 have w:=h a.den
 have T:=h b.den
 have j:=Jh a
 have o := @dV a.num.natAbs
 have p := @dV b.num.natAbs
 have n:=Jh b
 have aqR:=Z.1
 have s:=Z.2
 have kN:=hB.1
 have M:=hB.2
 have ⟨U,J⟩:=aaz a b
 by_cases a0:a=0
 rw [eL a0] at j
 rw [show a+b=b from by rw [a0,Rat.zero_add]]
 exact aO [ho 14 o,hb 15 j] (by kernel_rfl)
 rw [dw a0] at j
 by_cases R:b=0
 rw [eL R] at n
 rw [show a+b=a from by rw [R,Rat.add_zero]]
 exact aO [ho 14 o,hb 15 j,ho 20 p,hb 21 n] (by kernel_rfl)
 rw [dw R] at n
 by_cases f:(a.den:Int)=1/\(b.den:Int)=1
 have i:=eL f.1
 have m:=eL f.2
 have h1:=I a.num b.num (by omega) (by omega)
 have X:a+b=((a.num+b.num:Int):Rat):=by rw [Zc, <- yN f.1, <- yN f.2]
 have e:=wq (z:=a.num+b.num) (d:=a.den) (q:=a+b) (by rw [X];rfl) (by rw [X,f.1];rfl)
 rw [<- e]
 exact aO [ho 14 o,hb 15 j,ho 20 p,hb 21 n,hc w,hb 26 i,hc T,hb 30 m,hc h1] (by kernel_rfl)
 have l:ag ab G 176 [aP a.den,aP b.den] (aP (cy a.den b.den:Nat)):=V a.den b.den (by rw [gS];omega) (by rw [gS];omega)
 have w1:=mM a.num b.den
 have xS:=mM b.num a.den
 have X8:=mM a.den b.den
 rw [gS] at w1 xS X8
 rw [gS] at X8
 have F:=h (cy a.den b.den:Nat)
 have u:0<cy a.den b.den:=Nat.gcd_pos_of_pos_left _ a.den_pos
 generalize t:cy a.den b.den=g at *
 by_cases g1:g=1
 . subst g1
   have o4:=h 1
   have P:decide ((1:Int)=1)=true:=rfl
   have B:=r a.num b.den (by omega) (by rw [gS];omega)
   have C:=r b.num a.den (by omega) (by rw [gS];omega)
   have D:=r a.den b.den (by rw [gS];omega) (by rw [gS];omega)
   have v:=I (a.num*b.den) (b.num*a.den) (by omega) (by omega)
   simp only [Nat.div_one,Nat.gcd_one_right,Int.natCast_one,Int.ediv_one] at U J
   have e:=wq (z:=a.num*b.den+b.num*a.den) (d:=a.den*b.den) (q:=a+b) U (by rw [J];exact uf _ _)
   rw [<- e]
   rcases three _ _ f with ⟨i,m⟩ | ⟨i,m⟩ | ⟨i,m⟩
   exact aO [ho 14 o,hb 15 j,ho 20 p,hb 21 n,hc w,hb 26 i,hc T,hb 30 m,hc l,hc F,hc B,hc C,hc v,hc D] (by kernel_rfl)
   all_goals exact aO [ho 14 o,hb 15 j,ho 20 p,hb 21 n,hc w,hb 26 i,hc l,hc F,hc B,hc C,hc v,hc D] (by kernel_rfl)
 have P:decide ((g:Int)=1)=false:=dw (by omega)
 have E:g ∣ a.den:=t▸Ek _ _
 have A:g ∣ b.den:=t▸q2 _ _
 have K:ae ((g:Nat):Int).natAbs<=419430400000:=bs (ff (Ej a.den_pos E)) s
 have q1:=H a.den g (by omega) (El.2 E) (by rw [gS];omega) (by omega)
 have O:=H b.den g (by omega) (El.2 A) (by rw [gS];omega) (by omega)
 rw [<- Pa] at q1 O
 have art:ae (((a.den/g:Nat):Int)).natAbs<=419430400000:=bs (ff (ja _ _)) s
 have aru:ae (((b.den/g:Nat):Int)).natAbs<=419430400000:=bs (ff (ja _ _)) M
 generalize a.den/g=x at *
 generalize b.den/g=y at *
 have B:=r a.num y (by omega) (by omega)
 have C:=r b.num x (by omega) (by omega)
 have v1:=mM a.num y
 have v2:=mM b.num x
 have v:=I (a.num*y) (b.num*x) (by omega) (by omega)
 have v3:ae (a.num*y+b.num*x).natAbs<=838860800001:=bs (ff (Zb _ _)) (DW (k:=838860800000) (by omega) (by omega))
 generalize a.num*y+b.num*x=N at *
 have g2:=V N g (by omega) (by omega)
 rw [gE] at g2
 have hp:0<cy N.natAbs g:=JC _ u
 have Gz:ae (((cy N.natAbs g:Nat):Int)).natAbs<=419430400000:=bs (ff (Ej u (q2 _ _))) K
 have S:((cy N.natAbs g:Nat):Int) ∣ N:=vG.2 (Ek _ _)
 have L:cy N.natAbs g ∣ b.den:=Nat.dvd_trans (q2 _ _) A
 generalize cy N.natAbs g=k at *
 have Y:=H N k (by omega) S (by omega) (by omega)
 have Q:=H b.den k (by omega) (El.2 L) (by rw [gS];omega) (by omega)
 rw [<- Pa] at Q
 have D:=r x ((b.den/k:Nat):Int) (by omega) (bs (ff (ja _ _)) (by omega))
 have e:=wq (z:=N/k) (d:=x*((b.den/k:Nat):Int)) (q:=a+b) U (by rw [J];exact uf _ _)
 rw [<- e]
 rcases three _ _ f with ⟨i,m⟩ | ⟨i,m⟩ | ⟨i,m⟩
 exact aO [ho 14 o,hb 15 j,ho 20 p,hb 21 n,hc w,hb 26 i,hc T,hb 30 m,hc l,hc F,u5 45 P,hc q1,hc O,hc B,hc C,hc v,hc g2,hc Y,hc Q,hc D]
 all_goals exact aO [ho 14 o,hb 15 j,ho 20 p,hb 21 n,hc w,hb 26 i,hc l,hc F,u5 45 P,hc q1,hc O,hc B,hc C,hc v,hc g2,hc Y,hc Q,hc D]
def akW (x:ag ab G 89 [.int .i64 0] (aV 0)) (i:yr ab G 174) (r:wj ab G 177) (H:yq ab G 176) (o:E1 ab G 178):Kc ab G 124 := λ a b I D=>by
 have y:=i a.den
 have C:=i b.den
 have j:=Jh a
 have m := @dV a.num.natAbs
 have p := @dV b.num.natAbs
 have n:=Jh b
 have N:=I.1
 have w:=I.2
 have M:=D.1
 have t:=D.2
 have ⟨P,L⟩:=aip a b
 by_cases u:a=0 \/ b=0
 . rw [show a*b=0 from by rcases u with e | e<;>rw [e]<;>simp [Rat.zero_mul,Rat.mul_zero]]
   have O:(decide (a=0)=true/\decide (b=0)=true) \/ (decide (a=0)=true/\decide (b=0)=false) \/ (decide (a=0)=false/\decide (b=0)=true):=by
     by_cases R:a=0<;>by_cases V:b=0<;>simp_all
   rcases O with ⟨h,_⟩ | ⟨h,_⟩ | ⟨h,l⟩
   all_goals rw [h] at j
   exact aO [ho 10 m,hb 11 j,hc x] (by kernel_rfl)
   exact aO [ho 10 m,hb 11 j,hc x] (by kernel_rfl)
   rw [l] at n
   exact aO [ho 10 m,hb 11 j,ho 16 p,hb 17 n,hc x] (by kernel_rfl)
 rw [dw (λ e=>u (.inl e))] at j
 rw [dw (λ e=>u (.inr e))] at n
 by_cases f:(a.den:Int)=1/\(b.den:Int)=1
 have h:=eL f.1
 have l:=eL f.2
 have h1:=r a.num b.num (by omega) (by omega)
 have F:a*b=((a.num*b.num:Int):Rat):=by rw [Rat.intCast_mul, <- yN f.1, <- yN f.2]
 have e:=wq (z:=a.num*b.num) (d:=a.den) (q:=a*b) (by rw [F];rfl) (by rw [F,f.1];rfl)
 rw [<- e]
 exact aO [ho 10 m,hb 11 j,ho 16 p,hb 17 n,hc y,hb 23 h,hc C,hb 27 l,hc h1]
 have g1:ag ab G 176 [aP a.num,aP b.den] (aP (cy a.num.natAbs b.den:Nat)):=H a.num b.den (by omega) (by rw [gS];omega)
 have g2:ag ab G 176 [aP b.num,aP a.den] (aP (cy b.num.natAbs a.den:Nat)):=H b.num a.den (by omega) (by rw [gS];omega)
 have T:0<cy a.num.natAbs b.den:=JC _ b.den_pos
 have Q:0<cy b.num.natAbs a.den:=JC _ a.den_pos
 have x1:((cy a.num.natAbs b.den:Nat):Int) ∣ a.num:=vG.2 (Ek _ _)
 have bF:((cy b.num.natAbs a.den:Nat):Int) ∣ b.num:=vG.2 (Ek _ _)
 have E:cy a.num.natAbs b.den ∣ b.den:=q2 _ _
 have J:cy b.num.natAbs a.den ∣ a.den:=q2 _ _
 generalize cy a.num.natAbs b.den=g at *
 generalize cy b.num.natAbs a.den=k at *
 have U:ae ((g:Nat):Int).natAbs<=419430400000:=bs (ff (Ej b.den_pos E)) t
 have S:ae ((k:Nat):Int).natAbs<=419430400000:=bs (ff (Ej a.den_pos J)) w
 have q1:=o a.num g (by omega) x1 (by omega) (by omega)
 have A:=o b.num k (by omega) bF (by omega) (by omega)
 have s:=o a.den k (by omega) (El.2 J) (by rw [gS];omega) (by omega)
 have v:=o b.den g (by omega) (El.2 E) (by rw [gS];omega) (by omega)
 rw [<- Pa] at s v
 have K:=r (a.num/g) (b.num/k) (bs (ff (Ze _ _)) (by omega)) (bs (ff (Ze _ _)) (by omega))
 have B:=r ((a.den/k:Nat):Int) ((b.den/g:Nat):Int) (bs (ff (ja _ _)) (by omega)) (bs (ff (ja _ _)) (by omega))
 have e:=wq (z:=a.num/g*(b.num/k)) (d:=((a.den/k:Nat):Int)*((b.den/g:Nat):Int)) (q:=a*b) P (by rw [L];exact uf _ _)
 rw [<- e]
 rcases three _ _ f with ⟨h,l⟩ | ⟨h,l⟩ | ⟨h,l⟩
 exact aO [ho 10 m,hb 11 j,ho 16 p,hb 17 n,hc y,hb 23 h,hc C,hb 27 l,hc g1,hc g2,hc q1,hc A,hc K,hc s,hc v,hc B]
 all_goals exact aO [ho 10 m,hb 11 j,ho 16 p,hb 17 n,hc y,hb 23 h,hc g1,hc g2,hc q1,hc A,hc K,hc s,hc v,hc B]
def akU (j:Bo ab G 187) (a:Rat) (c:a≠0) (k:cI 419430400000 a):ag ab G 227 [aV a] (aV a⁻¹):=by
 have m:=k.1
 have n:=k.2
 have f:a.num≠0 := λ e=>c (oh.1 e)
 have i:=Rat.num_inv a
 have l:=Rat.den_inv a
 rw [if_neg f] at l
 by_cases h:a.num<0
 have g:=eL h
 have h1:=j a.num (by omega)
 have o:=j a.den (by rw [gS];omega)
 have e:=wq (z := -(a.den:Int)) (d := -a.num) (q:=a⁻¹) (by rw [i,x6 h];omega) (by omega)
 rw [<- e]
 exact aO [hb 5 g,hc o,hc h1]
 have g:=dw h
 have e:=wq (z:=(a.den:Int)) (d:=a.num) (q:=a⁻¹) (by rw [i,og (by omega)];omega) (by omega)
 rw [<- e]
 exact aO [hb 5 g]
def alz (q:PU ab G 219) (hd:∀ m n,n≠0->ae m<=3774873600000->ae n<=3774873600000->ag ab G 224 [W m,W n] (.aS [W (m/n),W (m%n)])) (x:lK ab G 179)
  (B:∀ a b:Int,ae a.natAbs<=4194304000000->ae b.natAbs<=4194304000000->ag ab G 177 [aP a,aP b] (aP (a*b))) (j:∀ a b:Int,ae a.natAbs<=4194304000000->ae b.natAbs<=4194304000000->ag ab G 259 [aP a,aP b] (aP (a-b)))
  (i:∀ z:Int,ae z.natAbs<=4194304000000->ag ab G 186 [aP z] (.int .i64 z.sign)) (a b:Int) (g:0<b) (f:b ∣ a) (l:ae a.natAbs<=3774873600000) (s:ae b.natAbs<=3774873600000) :
   ag ab G 226 [aP a,aP b] (.aS [aP (a/b),aP 0, .int .i64 0]):=by
 have h1:=q a (by omega)
 have C:=q b (by omega)
 have A:=hd a.natAbs b.natAbs (by omega) l s
 have e:a.natAbs/b.natAbs=(a/b).natAbs:=by
   obtain ⟨c,rfl⟩:=f
   rw [Eg _ (by omega),l3,Zf _ (by omega)]
 have hw:ae (a/b).natAbs<=3774873600000:=by rw [<- e];exact bs (ff (ja _ _)) l
 have k:=x (decide (a<0)) (a.natAbs/b.natAbs) (by rw [e];omega)
 have v:ep (decide (a<0)) (a.natAbs/b.natAbs)=a/b:=by
   obtain ⟨c,rfl⟩:=f
   rw [Eg _ (by omega),l3,Zf _ (by omega)]
   have:decide (b*c<0)=decide (c<0):=by
     congr 1;apply propext
     constructor
     intro h;rcases Int.lt_or_le c 0 with h1 | h1
     exact h1
     have:=Int.mul_nonneg (Int.le_of_lt g) h1;omega
     intro h;exact Int.mul_neg_of_pos_of_neg g h
   rw [this,Iq]
 rw [v] at k
 have o:=B (a/b) b (by omega) (by omega)
 rw [Int.ediv_mul_cancel f] at o
 have p:=j a a (by omega) (by omega)
 rw [Int.sub_self] at p
 have w:ag ab G 186 [aP 0] (.int .i64 0):=i 0 (by simp [ae,iO])
 have r:=i b (by omega)
 rw [og g] at r
 have u:ae b.natAbs≠0 := λ e=>by have:=gL.1 e;omega
 have t:decide ((ae b.natAbs:Int)=0)=false:=dw (by omega)
 have D := @dV b.natAbs
 have y:(!(decide (a<0)==decide (b<0)))=decide (a<0):=by rw [dw (show ¬ b<0 by omega)];cases decide (a<0)<;>rfl
 have w0:cF.wrap ((0:Int)*1)=0:=by decide
 rw [<- y] at k
 exact aO [hc h1,hc C,ho 17 D,hb 18 t,hc A,hc k,hc o,hc p,hc w,hc r]
def acS (w:gZ ab G 262) (hd:∀ m n,n≠0->ae m<=3774873600000->ae n<=3774873600000->ag ab G 303 [W m,W n] (.aS [W (m/n),W (m%n)]))
  (x:∀ m n,ae m<=4194304000000->ae n<=4194304000000->ag ab G 305 [W m,W n] (W (m+n))) (D:∀ m n,n<=m->ae m<=4194304000000->ag ab G 306 [W m,W n] (W (m-n))) (j:lK ab G 229) (a b:Int) (y:b≠0) (z:ae a.natAbs<=3774873600000) (E:ae b.natAbs<=3774873600000) :
   ag ab G 319 [aP a,aP b] (.aS [aP (ep (me a b) (FL a b)),aP (ep (decide (b<0)) (FM a b)), .int .i64 0]):=by
 have f:b.natAbs≠0:=by omega
 have C:ae b.natAbs≠0 := λ e=>f (gL.1 e)
 have k:decide ((ae b.natAbs:Int)=0)=false:=dw (by omega)
 have H:=aoW a.natAbs b.natAbs
 have I:=aoX a.natAbs b.natAbs
 have F:=aoZ (a.natAbs/b.natAbs)
 have K:ae (b.natAbs-a.natAbs%b.natAbs)<=ae b.natAbs:=ff (Ei _ _)
 have J:=DX
 have h:a.natAbs%b.natAbs<b.natAbs:=Nat.mod_lt _ (kX f)
 have p:=x (a.natAbs/b.natAbs) 1 (by omega) (by omega)
 have o:=D b.natAbs (a.natAbs%b.natAbs) (jt h) (by omega)
 have l:=jq w b.natAbs (by omega)
 have t2:=jq w a.natAbs (by omega)
 have g:=hd a.natAbs b.natAbs f z E
 have r := @dV b.natAbs
 have v := @dV (a.natAbs%b.natAbs)
 have i:=gL (n:=a.natAbs%b.natAbs)
 have B:=j (decide (b<0)) (b.natAbs-a.natAbs%b.natAbs) (by omega)
 have u:=j (decide (b<0)) (a.natAbs%b.natAbs) (by omega)
 have s0:=j (me a b) (a.natAbs/b.natAbs) (by omega)
 have A:=j (me a b) (a.natAbs/b.natAbs+1) (by omega)
 unfold FL FM
 by_cases d:me a b=true
 by_cases i:0<a.natAbs%b.natAbs
 have q:decide ((0:Int)<(ae (a.natAbs%b.natAbs):Int))=true:=eL (by omega)
 rw [if_pos ⟨d,i⟩,if_pos ⟨d,i⟩]
 exact aO [hc l,ho 14 r,hb 15 k,hc t2,hc g,hb 31 d,ho 33 v,hb 34 q,qw [([33],⟨us [1],1,false⟩)] p (cp (jw (uH _)) (cp (aow (t:=false)) c9.nil)),hc o,hc A,hc B]
 have q:decide ((0:Int)<(ae (a.natAbs%b.natAbs):Int))=false:=dw (by omega)
 rw [if_neg (λ e=>i e.2),if_neg (λ e=>i e.2)]
 exact aO [hc l,ho 14 r,hb 15 k,hc t2,hc g,hb 31 d,ho 33 v,hb 34 q,hc s0,hc u]
 have s:me a b=false:=by simpa using d
 rw [if_neg (λ e=>d e.1),if_neg (λ e=>d e.1)]
 exact aO [hc l,ho 14 r,hb 15 k,hc t2,hc g,hb 31 s,hc s0,hc u]
def akN (a b m n:Int) (h1:ag ab G 309 [aP a] (.aS [aP m, .bool true])) (d:ag ab G 309 [aP b] (.aS [aP n, .bool true])):ag ab G 299 [hV a b] (.aS [hV m n, .bool true]):=by
 haveI:bg (hV m n):=by unfold hV;infer_instance
 exact aO [hc h1,hc d]
def abl (z:Int) (s:z.natAbs≠0) (q:ae z.natAbs<=4194304000000) (r:ag ab G 262 [W z.natAbs] (W z.natAbs)) (u:∀ w:Nat,w<af->ag ab G 322 [.int .u32 (w:Int)] (.int .i64 (dL w:Int))) :
   ∃ b:Nat,z.natAbs<2 ^ b/\b<=32*ae z.natAbs/\ag ab G 324 [aP z] (.int .i64 (b:Int)):=by
 have ⟨a,t,hd,h,d,j,p⟩:=acR s
 have x:dL t<=32:=by
   have y:=(wA d (kX h)).2
   rcases Nat.lt_or_ge 32 (dL t) with m | m
   exfalso
   have:=dv (n:=2) (by decide) m
   unfold af at d
   omega
   exact m
 refine ⟨32*a.length+dL t,j,by omega, ?_⟩
 have o:=u t d
 have g:jr false (W z.natAbs)=some (.int .i64 ((a.length+1:Nat):Int)):=by unfold W;rw [hd];simp [jr,us]
 have v:(((a.length+1:Nat):Int)==0)=false:=by rw [beq_eq_false_iff_ne];omega
 have e:cF.wrap (((a.length+1:Nat):Int)-1)=(a.length:Int):=by rw [cM];omega
 have l:cF.wrap (32*(a.length:Int))=((32*a.length:Nat):Int):=by rw [cM];omega
 have i:fY 1 (W z.natAbs) (.int .i64 (a.length:Int))=some (.c2 (aa.int .u32 (t:Int)).cells 0):=tt (k:=1) rfl (by unfold us;rw [hd];simp)
 have f:cF.wrap (((32*a.length:Nat):Int)+(dL t:Int))=((32*a.length+dL t:Nat):Int):=by rw [cM];omega
 exact aO [hc r,ho 8 g,hb 9 v,ho 11 g,hw 12 e,hw 13 l,ho 16 g,hw 17 e,ho 18 i,hc o,hw 21 f]
def amF (n:Nat) (v:n<=10000000000000):ag ab G 325 [.int .i64 (n:Int)] (W (2 ^ n)):=by
 have q:cF.wrap ((n:Int).tdiv 32)=((n/32:Nat):Int):=by rw [cM,AR (by omega)];omega
 have t:cF.wrap (((n/32:Nat):Int)+1)=((n/32+1:Nat):Int):=by rw [cM];omega
 have r:∀ (σ : aL) (p:aF.Id),(∀ y∈([]:List (aF.Id × aN)), σ y.1=some y.2)->bS σ p (.oV 1 4 (.int .u32 0) (.int .i64 ((n/32+1:Nat):Int)) (.int .i64 ((n/32+1:Nat):Int)))=some { val := .ai p 1 0 (n/32+1) false,up:=[(p,some ⟨us (bG (n/32+1) 0),1,false⟩)] } := λ σ p _=>Hl (by omega)
 have l:(n:Int).tmod 32=((n%32:Nat):Int):=by rw [Int.tmod_eq_emod_of_nonneg (by omega)];omega
 have g:2 ^ (n%32)<af:=Nat.pow_lt_pow_right (by decide) (Nat.mod_lt _ (by decide))
 have i:gD.wrap (1*2 ^ (min ((n%32:Nat):Int).toNat gD.bits))=((2 ^ (n%32):Nat):Int):=by
   have e:min ((n%32:Nat):Int).toNat gD.bits=n%32:=by simp only [IntKind.bits,Int.toNat_natCast];omega
   rw [e,Int.one_mul,show ((2:Int) ^ (n%32))=((2 ^ (n%32):Nat):Int) by simp]
   generalize 2 ^ (n%32)=w at *
   unfold af at g
   rw [IntKind.wrap_u32];omega
 have f:fY 1 (.ai [4] 1 0 (n/32+1) false) (.int .i64 ((n/32:Nat):Int))=some (.ref [4] (n/32) 0):=va (by omega)
 have d:(bG (n/32+1) 0).set (n/32) (2 ^ (n%32))=digits (2 ^ n):=by
   rw [Rg,List.replicate_succ',List.set_append,if_neg (by simp)]
   simp
 have k:∀ (σ : aL) (p:aF.Id),(∀ y∈[([4],(⟨us (bG (n/32+1) 0),1,false⟩:aN))], σ y.1=some y.2)->bS σ p (.store 1 (.ref [4] (n/32) 0) (.int .u32 ((2 ^ (n%32):Nat):Int)))=some { val := .aS [],rd:=[[4]],up:=[([4],some ⟨us (digits (2 ^ n)),1,false⟩)] } := λ σ p j=>by
   rw [<- d]
   exact NK (j ([4],⟨us (bG (n/32+1) 0),1,false⟩) (by simp)) (by simp)
 have b:(digits (2 ^ n)).length=n/32+1:=by rw [Rg];simp
 exact ag.xM aY [hw 5 q,hw 6 t, .st 7 [] _ _ r,hw 10 q,hw 12 l,hw 13 i .u32,ho 14 f, .st 100014 _ _ _ k] [([4],⟨us (digits (2 ^ n)),1,false⟩)] (.ai [4] 1 0 (n/32+1) false) (by kernel_rfl) (λ σ j=>by
   have h:=j ([4],⟨us (digits (2 ^ n)),1,false⟩) (by simp)
   have e:(us (digits (2 ^ n))).length=n/32+1:=by simp [us,b]
   rw [<- e]
   exact kY (au:=⟨us (digits (2 ^ n)),1,false⟩) h rfl (by simp) (by rw [iZ,List.take_length];exact jx (by intro c hc;have ⟨e,u,hc⟩:=iK.1 hc;obtain ⟨w,_,rfl⟩:=bn.1 u;rcases bJ.1 hc with rfl;exact b8.int _ _)) rfl (by intro a s;obtain ⟨w,_,rfl⟩:=bn.1 s;rfl))
def ags (z:Int) (s b:Nat) (A:0<z) (g:ki z.natAbs s) (hb:z.natAbs<2 ^ b) (m:b<=10000000000000) (h1:ag ab G 264 [aP z] (.int .i64 1)) (k:ag ab G 324 [aP z] (.int .i64 (b:Int))) (u:ag ab G 325 [.int .i64 ((b/2+1:Nat):Int)] (W (2 ^ (b/2+1)))) (w:ag ab G 262 [W z.natAbs] (W z.natAbs))
  (o:∀ n,0<n->n<=2 ^ (b/2+1)->ag ab G 303 [W z.natAbs,W n] (.aS [W (z.natAbs/n),W (z.natAbs%n)])) (x:∀ n,s<=n->n<=2 ^ (b/2+1)->ag ab G 305 [W n,W (z.natAbs/n)] (W (n+z.natAbs/n))) (v:∀ n,s<=n->n<=2 ^ (b/2+1)->ag ab G 326 [W (n+z.natAbs/n)] (W ((n+z.natAbs/n)/2)))
  (r:∀ n,s<=n->n<=2 ^ (b/2+1)->ag ab G 266 [W ((n+z.natAbs/n)/2),W n] (.int .i64 (dI ((n+z.natAbs/n)/2) n))) (q:ag ab G 229 [.bool false,W s] (aP (s:Int))):ag ab G 320 [aP z] (.aS [aP (s:Int), .int .i64 0]):=by
 have p:0<s:=by
   rcases Nat.eq_zero_or_pos s with e | e
   exfalso
   have:=g.2
   rw [e] at this
   omega
   exact e
 have h:s<=2 ^ (b/2+1):=by
   rcases Nat.lt_or_ge (2 ^ (b/2+1)) s with c | d
   exfalso
   have t:=lH (jt c) (jt c)
   have B:=g.1
   rw [<- Nat.pow_add] at t
   have y:2 ^ b<=2 ^ (b/2+1+(b/2+1)):=dv (by decide) (by omega)
   omega
   exact d
 have l:=agr (P:=ab) (G:=G) z (2 ^ (b/2+1)) s g p h (2 ^ (b/2+1)) (a4 _) w o x v r q 1000
 have l':=l.mono (Q' := λ e s'=>e = .ret/\bz G [] s' ⟨zj [1],kd (cf [([1],⟨[aP (s:Int)],2,false⟩)]),1000+30*(2 ^ (b/2+1)-s+2)⟩) λ e s' j=>⟨j.1,bz.toT (by simp) j.2⟩
 have f:cF.wrap ((b:Int).tdiv 2)=((b/2:Nat):Int):=by rw [cM,AR (by omega)];omega
 have i:cF.wrap (((b/2:Nat):Int)+1)=((b/2+1:Nat):Int):=by rw [cM];omega
 exact aO [hc h1,hc k,hw 19 f,hw 20 i,hc u, .iA [] _ _ _ _ _ _ _ _ l']
def VV (m n:Nat) (i:ae m<=6710886400000) (j:ae n<=6710886400000):ag ab G 251 [aP (m:Int),aP (n:Int)] (.bool (decide (m=n))):=by
 have d:jr false (W m)=some (.int .i64 (ae m:Int)):=dV _
 have c:jr false (W n)=some (.int .i64 (ae n:Int)):=dV _
 have b:(!(decide ((m:Int)<0)==decide ((n:Int)<0)))=false:=by rw [dw (by omega),dw (by omega)];rfl
 by_cases f:ae m=ae n
 have a:((ae m:Int) != (ae n:Int))=false:=by rw [f];simp
 by_cases g:m=n
 subst g
 rw [decide_eq_true rfl]
 exact aO [hb 10 b,ho 14 d,ho 17 c,hb 18 a, .iA [] _ _ _ _ _ _ _ _ (amR m i)]
 rw [decide_eq_false g]
 exact aO [hb 10 b,ho 14 d,ho 17 c,hb 18 a, .iA [] _ _ _ _ _ _ _ _ (amS m n g f i)]
 have a:((ae m:Int) != (ae n:Int))=true:=bne_iff_ne.2 (by omega)
 rw [decide_eq_false (λ e=>f (by rw [e]))]
 exact aO [hb 10 b,ho 14 d,ho 17 c,hb 18 a]
def VW (b:gZ ab G 223) {ws:List Nat} (hw:fl ws) (c:ws.length<=4194304000000):ag ab G 179 [.bool false, .sl 1 (us ws)] (aP ((val ws:Nat):Int)):=by
 have e:aP ((val ws:Nat):Int) = .agg [.bool false,W (val ws)]:=by
   unfold aP
   rw [dw (by omega : ¬ ((val ws:Nat):Int)<0)];rfl
 rw [e]
 exact aO [hc (b ws hw (by omega))]
def amJ (j:gZ ab G 262) (z:Int) (k:ae z.natAbs<=4194304000000):ag ab G 264 [aP z] (.int .i64 z.sign):=by
 have i:ae z.natAbs=0↔z=0:=by rw [gL];omega
 have h:=jq j z.natAbs (by omega)
 have c := @dV z.natAbs
 by_cases d:z=0
 have b:decide ((ae z.natAbs:Int)=0)=true:=eL (by have:=i.2 d;omega)
 rw [show z.sign=0 by rw [d];rfl]
 exact aO [hc h,ho 7 c,hb 8 b]
 have b:decide ((ae z.natAbs:Int)=0)=false:=dw (by have := λ e=>d (i.1 e);omega)
 by_cases f:z<0
 have g:decide (z<0)=true:=eL f
 rw [x6 f]
 exact aO [hc h,ho 7 c,hb 8 b,hb 11 g]
 have g:decide (z<0)=false:=dw f
 rw [og (by omega)]
 exact aO [hc h,ho 7 c,hb 8 b,hb 11 g]
def amh (b:∀ z:Int,ae z.natAbs<=4194304000000->ag ab G 219 [aP z] (aP z)) (z:Int) (j:ae z.natAbs<=4194304000000):ag ab G 186 [aP z] (.int .i64 z.sign):=by
 have i:ae z.natAbs=0↔z=0:=by rw [gL];omega
 have g:=b z j
 have d := @dV z.natAbs
 by_cases h:z=0
 have c:decide ((ae z.natAbs:Int)=0)=true:=eL (by have:=i.2 h;omega)
 rw [show z.sign=0 by rw [h];rfl]
 exact aO [hc g,ho 7 d,hb 8 c]
 have c:decide ((ae z.natAbs:Int)=0)=false:=dw (by have := λ e=>h (i.1 e);omega)
 by_cases b:z<0
 have f:decide (z<0)=true:=eL b
 rw [x6 b]
 exact aO [hc g,ho 7 d,hb 8 c,hb 10 f]
 have f:decide (z<0)=false:=dw b
 rw [og (by omega)]
 exact aO [hc g,ho 7 d,hb 8 c,hb 10 f]
def aiO (h:gZ ab G 262) (c:∀ n,ae n<=4194304000000->ag ab G 185 [W n] (W n)) (e:lK ab G 229) (z:Int) (d:ae z.natAbs<=4194304000000):ag ab G 281 [aP z] (aP (-z)):=by
 have b:=e (!decide (z<0)) z.natAbs (by omega)
 rw [qJ] at b
 have g:=jq h z.natAbs (by omega)
 have f:=c z.natAbs d
 exact aO [hc g,hc f,hc b]
def aiq (c:gZ ab G 262) (d:∀ m n,ae m<=4194304000000->ae n<=4194304000000->ag ab G 267 [W m,W n] (W (m*n))) (g:lK ab G 229) (y z:Int) (e:ae y.natAbs<=4194304000000) (f:ae z.natAbs<=4194304000000):ag ab G 236 [aP y,aP z] (aP (y*z)):=by
 have b:=g (!(decide (y<0)==decide (z<0))) (y.natAbs*z.natAbs) (by have:=Av y.natAbs z.natAbs;omega)
 rw [V9] at b
 have i:=jq c y.natAbs (by omega)
 have t2:=jq c z.natAbs (by omega)
 have h:=d y.natAbs z.natAbs e f
 exact aO [hc i,hc t2,hc h,hc b]
def adQ (hu:∀ n,n<18446744073709551616->ag ab G 230 [.int .u64 ((n:Nat):Int)] (W n)) (g:lK ab G 229) (a:Int) (h1 : -9223372036854775808<=a) (i:a<9223372036854775808):ag ab G 188 [.int .i64 a] (aP a):=by
 have h:=xT a.natAbs
 have d:=g (decide (a<0)) a.natAbs (by omega)
 rw [Iq] at d
 have b:=hu a.natAbs (by omega)
 by_cases f:a<0
 have e:decide (a<0)=true:=eL f
 rw [<- show de.wrap (0-(de.wrap a))=(a.natAbs:Int) by rw [iu,iu];omega] at b
 exact aO [hb 7 e,hc b,hc d]
 have e:decide (a<0)=false:=dw f
 rw [<- show de.wrap a=(a.natAbs:Int) by rw [iu];omega] at b
 exact aO [hb 7 e,hc b,hc d]
def alW (a:Int) (d:ag ab G 188 [.int .i64 a] (aP a)) (c:ag ab G 189 [] (aP 1)):ag ab G 139 [.int .i64 a] (hV a 1)   := by
 exact aO [hc d,hc c]
def akT (a:Int) (d:ag ab G 127 [.int .i64 a] (aP a)) (c:ag ab G 127 [.int .i64 1] (aP 1)):ag ab G 89 [.int .i64 a] (hV a 1):=by
 exact aO [hc d,hc c]
def ahE (c:∀ x,x<af->ag ab G 322 [.int .u32 ((x:Nat):Int)] (.int .i64 (dL x:Int))) (x:Nat) (b:x<af) (d:0<x):ag ab G 313 [.int .u32 (x:Int)] (.int .i64 ((32-dL x:Nat):Int)):=by
 have hb:dL x<=32:=by
   have h1:=(wA b d).2
   have f:2 ^ dL x<2 ^ 33:=by unfold af at b;omega
   have:=(Nat.pow_lt_pow_iff_right (by decide:1<2)).1 f
   omega
 have e:cF.wrap ((32:Int)-((dL x:Nat):Int))=((32-dL x:Nat):Int):=by rw [cM];omega
 have g:=c x b
 rw [<- e]
 exact aO [hc g]
def amn (i:∀ z:Int,ae z.natAbs<=4194304000000->ag ab G 187 [aP z] (aP (-z)))
  (h:∀ a b:Int,ae a.natAbs<=4194304000000->ae b.natAbs<=4194304000000->ag ab G 175 [aP a,aP b] (aP (a+b))) (a b:Int) (f:ae a.natAbs<=4194304000000) (d:ae b.natAbs<=4194304000000):ag ab G 259 [aP a,aP b] (aP (a-b)):=by
 have e:=h a (-b) f (by rw [Int.natAbs_neg];exact d)
 rw [<- Int.sub_eq_add_neg] at e
 have g:=i b d
 exact aO [hc g,hc e]
def ago (z:Int):ag ab G 308 [aP z] (.bool (decide (z=0))):=by
 have e:decide ((ae z.natAbs:Int)=0)=decide (z=0):=by
   have:=gL (n:=z.natAbs)
   congr 1;apply propext;omega
 rw [<- e]
 exact aO [ho 5 (@dV z.natAbs)]
end
end Go.Proofs.YtpcofcmencgkbaaGreat
namespace Go.aF
def fr (n:Nat) (l:List (Nat × aa)):List aa:=l.foldl (λ t x=>t.set x.1 x.2) (bG n .top)
def tM (ρ : Id->Id) (l:List (Nat × aa)):List (Nat × aa):=l.map λ x=>(x.1,x.2.aX ρ)
def u0 {ρ : Id->Id} {n:Nat} {l:List (Nat × aa)}:bx ρ (fr n l)=fr n (tM ρ l):=by
 have h:∀ (l:List (Nat × aa)) (t:List aa),bx ρ (l.foldl (λ t x=>t.set x.1 x.2) t)=(tM ρ l).foldl (λ t x=>t.set x.1 x.2) (bx ρ t) := λ l=>by
   induction l with
   | nil=>exact λ t=>rfl
   | cons x l a =>
     intro t
     show bx ρ (l.foldl _ (t.set x.1 x.2))=(tM ρ l).foldl _ ((bx ρ t).set x.1 (x.2.aX ρ))
     rw [a,jl,jl,List.map_set]
 show bx ρ (l.foldl _ _)=_
 rw [h,xy];rfl
class hU (l:List (Nat × aa)):Prop where
 fix:∀ ρ,tM ρ l=l
instance:hU []:=⟨λ _=>rfl⟩
instance {k:Nat} {c:aa} {l:List (Nat × aa)} [h:bg c] [g:hU l]:hU ((k,c)::l):=⟨λ ρ => by show (k,c.aX ρ)::tM ρ l=_;rw [h.fix,g.fix]⟩
def hU.fr {n:Nat} {l:List (Nat × aa)} [h:hU l] {ρ : Id->Id}:bx ρ (fr n l)=fr n l:=by rw [u0,h.fix]
def cB.loops:cB->List cB
 | .seq a b=>a.loops++b.loops
 | .cond _ a b=>a.loops++b.loops
 | .block _ c=>c.loops
 | .loop c=>c::c.loops
 | _=>[]
def aU (aH:dS) (k:Nat):cB:=aH.body.loops.getD k .skip
def a5:Nat->Nat
 | 0=>200
 | l+1=>10000*a5 l
def lb (l s:Nat):Nat:=a5 (l+1)*s+1000
def le (l s:Nat):Nat:=a5 (l+1)*(s+1)
def TN:∀ l,200<=a5 l
 | 0=>a4 _
 | l+1=>by have:=TN l;show 200<=10000*a5 l;omega
def CB {l s N:Nat} (h:N<=9000):lb l s+a5 l*N+a5 l<=le l s:=by
 have h1:a5 l*N<=a5 l*9000:=Nat.mul_le_mul_left _ h
 have b:=TN l
 have a:a5 (l+1)=10000*a5 l:=rfl
 show a5 (l+1)*s+1000+a5 l*N+a5 l<=a5 (l+1)*(s+1)
 rw [dC,mS,a]
 omega
class cU (k:Nat) (c:aa):Prop where
 pu:bg c
 size:c.size=k
 cells:∀ d∈c.cells,b8 d
 one:c.cells.all aa.one=true
def kept (b:Nat->Bool) (x:Nat->aa) (i:Nat):List aa:=((ba i).filter b).map x
def Tr {b:Nat->Bool} {x:Nat->aa} {i:Nat} (h:b i=true):kept b x (i+1)=kept b x i++[x i]:=by
 unfold kept
 rw [ke,pg,dU]
 simp [h]
def ag1 {b:Nat->Bool} {x:Nat->aa} {i:Nat} (h:b i=false):kept b x (i+1)=kept b x i:=by
 unfold kept
 rw [ke,pg,dU]
 simp [h]
def ag0 (b:Nat->Bool) (x:Nat->aa) (i:Nat):(kept b x i).length<=i:=by
 unfold kept
 rw [List.length_map]
 have:=List.length_filter_le b (ba i)
 rwa [List.length_range] at this
def agZ {b:Nat->Bool} {x:Nat->aa} {p:aa->Prop} (h:∀ i,p (x i)) {i:Nat}:∀ e∈kept b x i,p e := λ e a=>by
 obtain ⟨j,_,rfl⟩:=bn.1 a
 exact h j
def bq (q:Id) (k:Nat) (l:List aa):aa:=if l=[] then .aq else .ai q k 0 l.length false
def a8 (q:Id) (k:Nat) (l:List aa):List (Id × aN):=if l=[] then [] else [(q,⟨l,k,false⟩)]
def dA {q:Id} {k:Nat} {l:List aa} (h:l≠[]):bq q k l = .ai q k 0 l.length false:=if_neg h
def dx {q:Id} {k:Nat} {l:List aa} (h:l≠[]):a8 q k l=[(q,⟨l,k,false⟩)]:=if_neg h
def T9 (q:Id) (k:Nat) (l:List aa):((a8 q k l).map (·.1)).Nodup:=by
 by_cases h:l=[]
 subst h;exact gm
 rw [dx h];simp
def jL {F:List (Id × aN)}:∀ {t a:List aa} (k:Nat) {v v':aa},eU F t a->hX F v v'->eU F (t.set k v) (a.set k v')
 | [],[],_,_,_,h,_=>h
 | _::_,_::_,0,_,_,h,hv=>⟨hv,h.2⟩
 | _::_,_::_,k+1,_,_,h,hv=>⟨h.1,jL k h.2 hv⟩
 | [],_::_,_,_,_,h,_=>h.elim
 | _::_,[],_,_,_,h,_=>h.elim
def ny {F:List (Id × aN)}:∀ (l:List (Nat × aa)) {t a:List aa},eU F t a->eU F (l.foldl (λ t x=>t.set x.1 x.2) t) (l.foldl (λ t x=>t.set x.1 x.2) a)
 | [],_,_,h=>h
 | x::l,_,_,h=>ny l (jL x.1 h (hX.same F x.2))
def OA {q:Id} {k:Nat} {l:List aa} (h:∀ e∈l,cU k e):hX (a8 q k l) (bq q k l) (.sl k l):=by
 by_cases a:l=[]
 subst a;exact l4 (View.aq k)
 rw [dA a,dx a]
 refine l4 (kY (au:=⟨l,k,false⟩) (by simp [bk]) rfl (by simp) ?_ rfl λ d hd=>(h d hd).size)
 rw [iZ,hM (a4 _)]
 exact jx λ c hc=>by
   have ⟨e,b,hc⟩:=iK.1 hc
   exact (h e b).cells c hc
section
variable {P:Program} {G:Nat->Option (List aa)}
def ag.xh {f:FuncId} {args:List aa} {r:bM} {d:aa} {p:Id} (h:cu P G f args p [] r) (hv:View (l6 (λ _=>none) r.up) r.val d):ag P G f args d:=by
 refine ⟨h.1, λ w vs ok o q => ?_⟩
 refine (h.2 _ _ w _ vs (by simp) o q (λ _ _=>rfl)).mono λ e w' s => ?_
 obtain ⟨v,E',rfl,i⟩:=s
 refine ⟨v,(E'.jf (l6 (λ _=>none) r.up)).ok,rfl, ?_, ?_,hv _ _ _ _ _ i.inv i.rep⟩
 have a:=i.jc
 refine ⟨⟨λ _ _ h=>(by cases h), λ b hb => .inl (a.step.ok b hb),a.step.same⟩,a.os,a.tape,a.output,a.size,a.block, λ b hb => ?_⟩
 rcases hb with hb | ⟨id,au,k,N,l,c⟩
 exact a.qG b hb
 have ⟨g,n,m,ty,j⟩:=i.inv.blk id au l
 rw [j.μ] at c
 simp only [a7,cY] at c
 rw [<- c.1];exact .inr j.own
 rintro b (hb | ⟨id,au,k,N,l,c⟩)
 exact i.inv.hh b hb
 have ⟨g,n,m,ty,j⟩:=i.inv.blk id au l
 rw [j.μ] at c
 simp only [a7,cY] at c
 rw [<- c.1];exact lN j.heap
abbrev mC (aH:dS) (args:List aa) (a:List (aZ P G)):uE P G:=bX true 1000 aH.body [0] a ⟨args++bG (aH.aK-args.length) (.aS []),cf [],0⟩
def ag.Ob {f:FuncId} {aH:dS} (h:gX P f aH) (a:List (aZ P G)) {args:List aa} {r:aa} [br args] [b:bg r] (c:mE aH.results [] (mC aH args a)=mD r [] (mC aH args a)):ag P G f args r :=
 ag.xh (p:=[0]) (cu.Oa h (λ _=>[]) a args [] r c (br.fix _) rfl (b.fix _) gm) (jw b.pure)
def ag.pc {f:FuncId} {aH:dS} (h:gX P f aH) (a:List (aZ P G)) (K:List (Id × aN)) (eA:aa) {args:List aa} {r:aa} [br args] (d:mE aH.results (K++rest K []) (mC aH args a)=mD eA (K++rest K []) (mC aH args a))
   (g:dX (bN 0 [0] λ _=>[]) K=K) (i:eA.aX (bN 0 [0] λ _=>[])=eA) (hd:(K.map (·.1)).Nodup) (hv:∀ σ : aL,(∀ x∈K, σ x.1=some x.2)->View σ eA r):ag P G f args r:=by
 refine ag.xh (p:=[0]) (cu.j7 h (λ _=>[]) a args [] eA K d (br.fix _) rfl i g gm hd) (hv _ λ x c => ?_)
 have key:∀ (U:List (Id × aN)) (σ : aL),(U.map (·.1)).Nodup->∀ w∈U, σ.app (U.map λ x=>(x.1,some x.2)) w.1=some w.2:=by
   intro U
   induction U with
   | nil=>intro σ _ w hw;simp at hw
   | cons u U j =>
     intro σ b w hw
     simp only [hQ,iF] at b
     simp only [hQ,l6]
     rcases cr.1 hw with rfl | hw
     rw [aL.Fq,aL.vn]
     rintro x c e
     obtain ⟨v,hv,rfl⟩:=bn.1 c
     exact b.1 (bn.2 ⟨v,hv,e⟩)
     exact j _ b.2 w hw
 exact key K _ hd x c
def TL {c:cB} {n N w n0 l:Nat} {e:cw} {F:Nat->List (Nat × aa)} {b:List (Nat × aa)} [v:∀ i,hU (F i)] [hU b] (f:∀ i,i<N->List (aZ P G)) (m:List (aZ P G)) (k:e ≠ .normal)
   (h:∀ i (g:i<N),h8 [] (fr n (F (i+1))) w (bX true 1000 c [0] (f i g) ⟨fr n (F i),cf [],0⟩)=h7 .normal [] (fr n (F (i+1))) (bX true 1000 c [0] (f i g) ⟨fr n (F i),cf [],0⟩))
   (u:h8 [] (fr n b) w (bX true 1000 c [0] m ⟨fr n (F N),cf [],0⟩)=h7 e [] (fr n b) (bX true 1000 c [0] m ⟨fr n (F N),cf [],0⟩)) (q:n0+w*N+w<=l) :
   bu P G [0] (.loop c) (λ t s'=>t=e/\bz G [0] s' ⟨fr n b,kd [],l⟩) ⟨fr n (F 0),bk [],n0⟩:=by
 refine bu.qz (α := Nat) (λ i=>⟨fr n (F i),bk [],n0+w*i⟩) (λ i=>i<=N) (λ i=>N-i) 0 (by rw [iY];exact bz.refl _ _ _) (et _) ?_
 intro i g
 by_cases a:i<N
 refine iG (λ _=>[]) (f i a) (fr n (F i)) [] .normal (fr n (F (i+1))) [] w (h i a) hU.fr rfl hU.fr rfl gm λ s hw=>⟨i+1,a,by simp only [];omega, ?_⟩
 have e:n0+w*i+w=n0+w*(i+1):=by rw [dC,mS];omega
 simp only [];rw [<- e];exact hw
 obtain rfl:i=N:=by omega
 refine iG (λ _=>[]) m (fr n (F i)) [] e (fr n b) [] w u hU.fr rfl hU.fr rfl gm λ s hw => ?_
 have p:bz G [0] s ⟨fr n b,kd [],l⟩:=bz.toT (K:=[]) gm (hw.trans (bz.slots (gF.same _) q))
 cases e with
 | normal=>exact (k rfl).elim
 | exit j=>exact ⟨rfl,p⟩
 | ret=>exact ⟨rfl,p⟩
def w5 (aH:dS) (k l s N:Nat) (F:Nat->List (Nat × aa)) (e:cw) (a:List (Nat × aa)) [m:∀ i,hU (F i)] [hU a] (d:∀ i,i<N->List (aZ P G)) (b:List (aZ P G))
   (j:N<=9000:=by omega)
   (h:∀ i (f:i<N),h8 [] (fr aH.aK (F (i+1))) (a5 l) (bX true 1000 (aU aH k) [0] (d i f) ⟨fr aH.aK (F i),cf [],0⟩)=h7 .normal [] (fr aH.aK (F (i+1))) (bX true 1000 (aU aH k) [0] (d i f) ⟨fr aH.aK (F i),cf [],0⟩):=by intros;kernel_rfl)
   (g:h8 [] (fr aH.aK a) (a5 l) (bX true 1000 (aU aH k) [0] b ⟨fr aH.aK (F N),cf [],0⟩)=h7 e [] (fr aH.aK a) (bX true 1000 (aU aH k) [0] b ⟨fr aH.aK (F N),cf [],0⟩):=by kernel_rfl) (c:e ≠ .normal:=by simp):aZ P G :=
 .iA [0] (aU aH k) (fr aH.aK (F 0)) [] (lb l s) e (fr aH.aK a) [] (le l s) (TL d b c h g (CB j))
def rJ (key k bytes q:Nat) (l:List aa) (x:aa) [d:cU k x] (c:(l.length+1)*bytes<=140737488355328) (hb:0<bytes) (f:(l.all λ e=>e.cells.all aa.one)=true):aZ P G :=
 .st key [([q,0],⟨[x],k,false⟩),([1],⟨l,k,false⟩)] (.append k bytes (.ai [1] k 0 l.length false) (.ai [q,0] k 0 1 false)) (λ p=>{ val := .ai p k 0 (l.length+1) false,rd:=[[1],[q,0]],up:=[([1],none),(p,some ⟨l++[x],k,false⟩)] })
   (λ σ p a=>by
     have h:=a ([q,0],⟨[x],k,false⟩) (by simp)
     have b:=a ([1],⟨l,k,false⟩) (by simp)
     exact DJ (σ := σ) (p:=p) (id:=[1]) (k:=k) (bytes:=bytes) (len:=l.length) (x := .ai [q,0] k 0 1 false) (els:=l) (ys:=[x]) (rd:=[[q,0]]) (by rw [FT h rfl (by simp)];rfl) (by simp) b rfl c (tz (by have:=Nat.le_mul_of_pos_right (l.length+1) hb;simp;omega)) (by simpa using d.one) f)
structure qe (k bytes N:Nat) (l:List aa):Prop where
 len:(l.length+1)*bytes<=140737488355328
 one:(l.all fun e=>e.cells.all aa.one)=true
def kI (P:Program) (G:Nat->Option (List aa)) (aH:dS) (k l:Nat) (e:cw) (F b:List (Nat × aa)):Prop:=∃ a:List (aZ P G),h8 [] (fr aH.aK b) (a5 l) (bX true 1000 (aU aH k) [0] a ⟨fr aH.aK F,cf [],0⟩)=h7 e [] (fr aH.aK b) (bX true 1000 (aU aH k) [0] a ⟨fr aH.aK F,cf [],0⟩)
def rd {aH:dS} {k l:Nat} {e:cw} {F b:List (Nat × aa)} (a:List (aZ P G)) (h:h8 [] (fr aH.aK b) (a5 l) (bX true 1000 (aU aH k) [0] a ⟨fr aH.aK F,cf [],0⟩)=h7 e [] (fr aH.aK b) (bX true 1000 (aU aH k) [0] a ⟨fr aH.aK F,cf [],0⟩):=by kernel_rfl):kI P G aH k l e F b:=⟨a,h⟩
noncomputable def fb (aH:dS) (k l s N:Nat) (F:Nat->List (Nat × aa)) (e:cw) (c:List (Nat × aa)) [j:∀ i,hU (F i)] [hU c] (h:∀ i,i<N->kI P G aH k l .normal (F i) (F (i+1))) (f:kI P G aH k l e (F N) c) (g:N<=9000:=by omega) (d:e ≠ .normal:=by simp):aZ P G :=
 w5 aH k l s N F e c (λ i b=>q7 (h i b)) (q7 f) g (λ i b=>oi (h i b)) (oi f) d
def Bi (P:Program) (G:Nat->Option (List aa)) (aH:dS) (k l N c bytes key so:Nat) (hb:0<bytes) (x:aa) [cU c x] (F d:List (Nat × aa)):Prop:=∃ (q a:Nat) (b:List (aZ P G)->List (aZ P G)),
 (h8 [([a,0],⟨[x],c,false⟩)] (fr aH.aK ((so, .ai [a,0] c 0 1 false)::d)) (a5 l) (bX true 1000 (aU aH k) [0] (b []) ⟨fr aH.aK ((so, .aq)::F),cf [],0⟩)=h7 .normal [([a,0],⟨[x],c,false⟩)] (fr aH.aK ((so, .ai [a,0] c 0 1 false)::d)) (bX true 1000 (aU aH k) [0] (b []) ⟨fr aH.aK ((so, .aq)::F),cf [],0⟩)) /\
 ∀ (l':List aa) (e:qe c bytes N l'),h8 [([a,0],⟨l'++[x],c,false⟩)] (fr aH.aK ((so, .ai [a,0] c 0 (l'.length+1) false)::d)) (a5 l) (bX true 1000 (aU aH k) [0] (b [rJ key c bytes q l' x e.len hb e.one]) ⟨fr aH.aK ((so, .ai [1] c 0 l'.length false)::F),cf [([1],⟨l',c,false⟩)],0⟩)=h7 .normal [([a,0],⟨l'++[x],c,false⟩)] (fr aH.aK ((so, .ai [a,0] c 0 (l'.length+1) false)::d)) (bX true 1000 (aU aH k) [0] (b [rJ key c bytes q l' x e.len hb e.one]) ⟨fr aH.aK ((so, .ai [1] c 0 l'.length false)::F),cf [([1],⟨l',c,false⟩)],0⟩)
def ru {aH:dS} {k l N c bytes key so:Nat} {hb:0<bytes} {x:aa} [cU c x] {F d:List (Nat × aa)} (q a:Nat) (b:List (aZ P G)->List (aZ P G))
 (f:h8 [([a,0],⟨[x],c,false⟩)] (fr aH.aK ((so, .ai [a,0] c 0 1 false)::d)) (a5 l) (bX true 1000 (aU aH k) [0] (b []) ⟨fr aH.aK ((so, .aq)::F),cf [],0⟩)=h7 .normal [([a,0],⟨[x],c,false⟩)] (fr aH.aK ((so, .ai [a,0] c 0 1 false)::d)) (bX true 1000 (aU aH k) [0] (b []) ⟨fr aH.aK ((so, .aq)::F),cf [],0⟩):=by kernel_rfl)
 (h1:∀ (l':List aa) (e:qe c bytes N l'),h8 [([a,0],⟨l'++[x],c,false⟩)] (fr aH.aK ((so, .ai [a,0] c 0 (l'.length+1) false)::d)) (a5 l) (bX true 1000 (aU aH k) [0] (b [rJ key c bytes q l' x e.len hb e.one]) ⟨fr aH.aK ((so, .ai [1] c 0 l'.length false)::F),cf [([1],⟨l',c,false⟩)],0⟩)=h7 .normal [([a,0],⟨l'++[x],c,false⟩)] (fr aH.aK ((so, .ai [a,0] c 0 (l'.length+1) false)::d)) (bX true 1000 (aU aH k) [0] (b [rJ key c bytes q l' x e.len hb e.one]) ⟨fr aH.aK ((so, .ai [1] c 0 l'.length false)::F),cf [([1],⟨l',c,false⟩)],0⟩):=by intros;kernel_rfl):Bi P G aH k l N c bytes key so hb x F d:=⟨q,a,b,f,h1⟩
def yu (P:Program) (G:Nat->Option (List aa)) (aH:dS) (k l c so:Nat) (e:cw) (F b:List (Nat × aa)):Prop:=∃ a:List (aZ P G),
 h8 [] (fr aH.aK ((so, .aq)::b)) (a5 l) (bX true 1000 (aU aH k) [0] a ⟨fr aH.aK ((so, .aq)::F),cf [],0⟩)=h7 e [] (fr aH.aK ((so, .aq)::b)) (bX true 1000 (aU aH k) [0] a ⟨fr aH.aK ((so, .aq)::F),cf [],0⟩) /\
 ∀ l':List aa,h8 [([1],⟨l',c,false⟩)] (fr aH.aK ((so, .ai [1] c 0 l'.length false)::b)) (a5 l) (bX true 1000 (aU aH k) [0] a ⟨fr aH.aK ((so, .ai [1] c 0 l'.length false)::F),cf [([1],⟨l',c,false⟩)],0⟩)=h7 e [([1],⟨l',c,false⟩)] (fr aH.aK ((so, .ai [1] c 0 l'.length false)::b)) (bX true 1000 (aU aH k) [0] a ⟨fr aH.aK ((so, .ai [1] c 0 l'.length false)::F),cf [([1],⟨l',c,false⟩)],0⟩)
def tO {aH:dS} {k l c so:Nat} {e:cw} {F b:List (Nat × aa)} (a:List (aZ P G))
 (d:h8 [] (fr aH.aK ((so, .aq)::b)) (a5 l) (bX true 1000 (aU aH k) [0] a ⟨fr aH.aK ((so, .aq)::F),cf [],0⟩)=h7 e [] (fr aH.aK ((so, .aq)::b)) (bX true 1000 (aU aH k) [0] a ⟨fr aH.aK ((so, .aq)::F),cf [],0⟩):=by kernel_rfl)
 (h1:∀ l':List aa,h8 [([1],⟨l',c,false⟩)] (fr aH.aK ((so, .ai [1] c 0 l'.length false)::b)) (a5 l) (bX true 1000 (aU aH k) [0] a ⟨fr aH.aK ((so, .ai [1] c 0 l'.length false)::F),cf [([1],⟨l',c,false⟩)],0⟩)=h7 e [([1],⟨l',c,false⟩)] (fr aH.aK ((so, .ai [1] c 0 l'.length false)::b)) (bX true 1000 (aU aH k) [0] a ⟨fr aH.aK ((so, .ai [1] c 0 l'.length false)::F),cf [([1],⟨l',c,false⟩)],0⟩):=by intros;kernel_rfl):yu P G aH k l c so e F b:=⟨a,d,h1⟩
def ahA {aH:dS} {u l N n0 E k bytes key so:Nat} {e:cw} {F:Nat->List (Nat × aa)} {r:List (Nat × aa)} [hF:∀ i,hU (F i)] [hU r] {b:Nat->Bool} {x:Nat->aa} [hx:∀ i,cU k (x i)] (hb:0<bytes) (S:e ≠ .normal)
   (h1:∀ i,i<N->b i=true->Bi P G aH u l N k bytes key so hb (x i) (F i) (F (i+1))) (I:∀ i,i<N->b i=false->yu P G aH u l k so .normal (F i) (F (i+1))) (h3:yu P G aH u l k so e (F N) r) (V:n0+a5 l*N+a5 l<=E) (bo:(N+1)*bytes<=140737488355328) :
   bu P G [0] (.loop (aU aH u)) (λ O s'=>O=e/\bz G [0] s' ⟨fr aH.aK ((so, .sl k (kept b x N))::r),kd [],E⟩) ⟨fr aH.aK ((so, .aq)::F 0),bk [],n0⟩:=by
 have ⟨J,jF,T⟩:=h3
 revert V
 generalize C:a5 l=w
 intro V
 rw [C] at jF T
 have B:∀ i,∀ e∈kept b x i,cU k e := λ i=>agZ hx
 have p:∀ i ρ,bx ρ (kept b x i)=kept b x i := λ i ρ => by
   rw [jl]
   exact (List.map_congr_left λ c hc=>(B i c hc).pu.fix ρ).trans (List.map_id _)
 have d:∀ {i:Nat} {ρ : Id->Id} {o:aa},bx ρ (fr aH.aK ((so,o)::F i))=fr aH.aK ((so,o.aX ρ)::F i) := λ {i ρ o}=>by
   rw [u0];show fr aH.aK ((so,o.aX ρ)::tM ρ (F i))=_;rw [(hF i).fix]
 have D:∀ {ρ : Id->Id} {o:aa},bx ρ (fr aH.aK ((so,o)::r))=fr aH.aK ((so,o.aX ρ)::r) := λ {ρ o}=>by
   rw [u0];show fr aH.aK ((so,o.aX ρ)::tM ρ r)=_;rw [hU.fix]
 have R:∀ i,i<N->qe k bytes N (kept b x i) := λ i X=>⟨by
   have:=ag0 b x i
   exact bs (Nat.mul_le_mul_right _ (by omega)) bo,eO.2 λ e J=>(B i e J).one⟩
 refine bu.qz (α := Nat × Nat) (λ z=>⟨fr aH.aK ((so,bq [z.2,0] k (kept b x z.1))::F z.1),bk (a8 [z.2,0] k (kept b x z.1)),n0+w*z.1⟩) (λ z=>z.1<=N) (λ z=>N-z.1) (0,0) (by rw [iY];exact bz.refl _ _ _) (et _) ?_
 rintro ⟨i,j⟩ X
 simp only [] at X ⊢
 have step:n0+w*i+w=n0+w*(i+1):=by rw [dC,mS];omega
 generalize hm:n0+w*i=m at *
 by_cases n:i<N
 cases v:b i with
 | true =>
   have ⟨q,a,hs,PJ,Z⟩:=h1 i n v
   rw [C] at PJ Z
   by_cases g:kept b x i=[]
   have f:=Tr (x:=x) v
   rw [g,List.nil_append] at f
   rw [g]
   refine iG (λ _=>[]) (hs []) (fr aH.aK ((so, .aq)::F i)) [] .normal (fr aH.aK ((so, .ai [a,0] k 0 1 false)::F (i+1))) [([a,0],⟨[x i],k,false⟩)] w PJ d rfl rfl rfl gm λ s hw=>⟨(i+1,m+a),n,by simp only [];omega, ?_⟩
   rw [d] at hw
   have Q:dX (bN m [0] λ _=>[]) [([a,0],(⟨[x i],k,false⟩:aN))]=[([m+a,0],⟨[x i],k,false⟩)]:=by
     rw [fK,fL]
     show [(bN m [0] _ ([]++[a,0]),_)]=_
     rw [jm,fM,o8,pQ,(hx i).pu.fix];rfl
   have L:aa.aX (bN m [0] λ _=>[]) (.ai [a,0] k 0 1 false) = .ai [m+a,0] k 0 1 false:=by
     show aa.ai (bN m [0] _ ([]++[a,0])) _ _ _ _=_
     rw [jm];rfl
   rw [Q,L,step] at hw
   simp only [f]
   rw [dA (by simp),dx (by simp)]
   exact hw
   have f:=Tr (x:=x) v
   have h:=p i
   have t:=R i n
   have M:∀ ρ,bx ρ (kept b x i++[x i])=kept b x i++[x i] := λ ρ => by rw [<- f];exact p (i+1) ρ
   rw [dA g,dx g]
   refine iG (λ _=>[j,0]) (hs [rJ key k bytes q (kept b x i) (x i) t.len hb t.one]) (fr aH.aK ((so, .ai [1] k 0 (kept b x i).length false)::F i)) [([1],⟨kept b x i,k,false⟩)] .normal (fr aH.aK ((so, .ai [a,0] k 0 ((kept b x i).length+1) false)::F (i+1))) [([a,0],⟨kept b x i++[x i],k,false⟩)] w (Z _ t) d (by rw [fK,fL,fM,h];try rfl) rfl rfl (by simp) λ s hw=>⟨(i+1,m+a),n,by simp only [];omega, ?_⟩
   rw [d] at hw
   have Q:dX (bN m [0] λ _=>[j,0]) [([a,0],(⟨kept b x i++[x i],k,false⟩:aN))]=[([m+a,0],⟨kept b x i++[x i],k,false⟩)]:=by
     rw [fK,fL]
     show [(bN m [0] _ ([]++[a,0]),_)]=_
     rw [jm,fM,M];rfl
   have L:aa.aX (bN m [0] λ _=>[j,0]) (.ai [a,0] k 0 ((kept b x i).length+1) false) = .ai [m+a,0] k 0 ((kept b x i).length+1) false:=by
     show aa.ai (bN m [0] _ ([]++[a,0])) _ _ _ _=_
     rw [jm];rfl
   rw [Q,L,step] at hw
   simp only [f]
   rw [dA (by simp),dx (by simp),cd,List.length_singleton]
   exact hw
 | false =>
   obtain ⟨Y,PK,PL⟩:=I i n v
   rw [C] at PK PL
   have f:=ag1 (x:=x) v
   by_cases g:kept b x i=[]
   rw [g] at f ⊢
   refine iG (λ _=>[]) Y (fr aH.aK ((so, .aq)::F i)) [] .normal (fr aH.aK ((so, .aq)::F (i+1))) [] w PK d rfl d rfl gm λ s hw=>⟨(i+1,j),n,by simp only [];omega, ?_⟩
   rw [step] at hw
   simp only [f]
   exact hw
   have h:=p i
   rw [dA g,dx g]
   refine iG (λ _=>[j,0]) Y (fr aH.aK ((so, .ai [1] k 0 (kept b x i).length false)::F i)) [([1],⟨kept b x i,k,false⟩)] .normal (fr aH.aK ((so, .ai [1] k 0 (kept b x i).length false)::F (i+1))) [([1],⟨kept b x i,k,false⟩)] w (PL _) d (by rw [fK,fL,fM,h];try rfl) d (by rw [fK,fL,fM,h];try rfl) (by simp) λ s hw=>⟨(i+1,j),n,by simp only [];omega, ?_⟩
   rw [step] at hw
   simp only [f]
   rw [dA g,dx g]
   exact hw
 obtain rfl:i=N:=by omega
 have H:∀ (q':Id) s,bz G [0] s ⟨fr aH.aK ((so,bq q' k (kept b x i))::r),bk (a8 q' k (kept b x i)),m+w⟩->bz G [0] s ⟨fr aH.aK ((so, .sl k (kept b x i))::r),kd [],E⟩ := λ q' s hw =>
   hw.trans (bz.mh (a8 q' k (kept b x i)) (λ y hy=>xd (T9 _ _ _) hy) (ny r (jL so (hN _ _) (OA (B i)))) (λ _ => .inl rfl) (by omega))
 have A:∀ s,bz G [0] s ⟨fr aH.aK ((so, .sl k (kept b x i))::r),kd [],E⟩->PX G [0] (λ z:Nat × Nat=>(⟨fr aH.aK ((so,bq [z.2,0] k (kept b x z.1))::F z.1),bk (a8 [z.2,0] k (kept b x z.1)),n0+w*z.1⟩:dt)) (λ z=>z.1<=i) (λ z=>i-z.1) (i,j) (λ O s'=>O=e/\bz G [0] s' ⟨fr aH.aK ((so, .sl k (kept b x i))::r),kd [],E⟩) e s := λ s I=>by
   cases e with
   | normal=>exact (S rfl).elim
   | exit j=>exact ⟨rfl,I⟩
   | ret=>exact ⟨rfl,I⟩
 by_cases g:kept b x i=[]
 have h0:bq [j,0] k (kept b x i) = .aq:=by rw [g];rfl
 have h1:a8 [j,0] k (kept b x i)=[]:=by rw [g];rfl
 rw [h0,h1]
 refine iG (λ _=>[]) J (fr aH.aK ((so, .aq)::F i)) [] e (fr aH.aK ((so, .aq)::r)) [] w jF d rfl D rfl gm λ s hw=>A s (H [j,0] s ?_)
 rw [h0,h1]
 exact hw
 have h:=p i
 rw [dA g,dx g]
 refine iG (λ _=>[j,0]) J (fr aH.aK ((so, .ai [1] k 0 (kept b x i).length false)::F i)) [([1],⟨kept b x i,k,false⟩)] e (fr aH.aK ((so, .ai [1] k 0 (kept b x i).length false)::r)) [([1],⟨kept b x i,k,false⟩)] w (T _) d (by rw [fK,fL,fM,h];try rfl) D (by rw [fK,fL,fM,h];try rfl) (by simp) λ s hw=>A s (H [j,0] s ?_)
 rw [dA g,dx g]
 exact hw
noncomputable def ahz (aH:dS) (k l s N c bytes key so:Nat) (b:Nat->Bool) (x:Nat->aa) (L:List aa) (F:Nat->List (Nat × aa)) (e:cw) (a:List (Nat × aa)) (hb:0<bytes/\bytes<=10000) [n:∀ i,hU (F i)] [hU a] [m:∀ i,cU c (x i)]
   (h1:∀ i,i<N->b i=true->Bi P G aH k l N c bytes key so hb.1 (x i) (F i) (F (i+1))) (j:∀ i,i<N->b i=false->yu P G aH k l c so .normal (F i) (F (i+1))) (h:yu P G aH k l c so e (F N) a) (g:kept b x N=L) (f:N<=9000:=by omega) (d:e ≠ .normal:=by simp):aZ P G :=
 .iA [0] (aU aH k) (fr aH.aK ((so, .aq)::F 0)) [] (lb l s) e (fr aH.aK ((so, .sl c L)::a)) [] (le l s) (g▸ahA hb.1 d h1 j h (CB f) (by
   have:=lH (show N+1<=9001 by omega) hb.2
   omega))
noncomputable def tB (aH:dS) (k l s N c bytes key so:Nat) (x:Nat->aa) (L:List aa) (F:Nat->List (Nat × aa)) (e:cw) (a:List (Nat × aa)) (hb:0<bytes/\bytes<=10000) [m:∀ i,hU (F i)] [hU a] [n:∀ i,cU c (x i)]
   (h1:∀ i,i<N->Bi P G aH k l N c bytes key so hb.1 (x i) (F i) (F (i+1))) (f:yu P G aH k l c so e (F N) a) (g:(ba N).map x=L) (d:N<=9000:=by omega) (b:e ≠ .normal:=by simp):aZ P G :=
 ahz aH k l s N c bytes key so (λ _=>true) x L F e a hb (λ i j _=>h1 i j) (λ _ _ h=>by cases h) f (by unfold kept;rw [List.filter_eq_self.2 λ _ _=>rfl];exact g) d b
def bu.adR {c:cB} {n n0 so kk:Nat} {i:Id} {el:aa} {cs:List aa} {F:List (Nat × aa)} {Q:cw->dt->Prop} [a:br cs] (hc:el.cells=cs)
   (h:bu P G [0] (.loop c) Q ⟨fr n ((so, .c2 cs 0)::F),bk [],n0⟩):bu P G [0] (.loop c) Q ⟨fr n ((so, .ref i 0 0)::F),bk [(i,⟨[el],kk,false⟩)],n0⟩:=by
 subst hc
 exact bu.gV (bz.mh [(i,⟨[el],kk,false⟩)] (λ y b=>xd (by simp) b) (ny F (jL so (hN _ _) (l4 (View.ref (au:=⟨[el],kk,false⟩) (by simp [bk]) rfl (jx a.pure))))) (λ _ => .inl rfl) (a4 _)) h
noncomputable def zq (aH:dS) (k l s N so kk:Nat) (i:Id) (el:aa) (cs:List aa) (F:Nat->List (Nat × aa)) (e:cw) (d:List (Nat × aa)) [m:br cs] [n:∀ j,hU (F j)] [hU d]
   (h:∀ j,j<N->kI P G aH k l .normal ((so, .c2 cs 0)::F j) ((so, .c2 cs 0)::F (j+1))) (f:kI P G aH k l e ((so, .c2 cs 0)::F N) d) (hc:el.cells=cs:=by rfl) (g:N<=9000:=by omega) (c:e ≠ .normal:=by simp):aZ P G :=
 .iA [0] (aU aH k) (fr aH.aK ((so, .ref i 0 0)::F 0)) [(i,⟨[el],kk,false⟩)] (lb l s) e (fr aH.aK d) [] (le l s)
   (bu.adR hc (TL (F := λ j=>(so, .c2 cs 0)::F j) (λ j b=>q7 (h j b)) (q7 f) c (λ j b=>oi (h j b)) (oi f) (CB g)))
structure aB where
 a:Id
 b:Id
 c:Id
 d:Id
end
end Go.aF
namespace Go.aF.aB
def map (ρ : Id->Id) (q:aB):aB:=⟨ρ q.a, ρ q.b, ρ q.c, ρ q.d⟩
def l (q:aB):List Id:=[q.a,q.b,q.c,q.d]
def s:aB:=⟨[1],[2],[3],[4]⟩
def fin (E:Nat):aB:=⟨[E,0],[E+1,0],[E+2,0],[E+3,0]⟩
end Go.aF.aB
namespace Go.aF
class kj (f:aB->aa):Prop where
 nat:∀ ρ q,(f q).aX ρ = f (q.map ρ)
class qd (f:aB->List aa):Prop where
 nat:∀ ρ q,bx ρ (f q)=f (q.map ρ)
class gb (f:aB->List (Nat × aa)):Prop where
 nat:∀ ρ q,tM ρ (f q)=f (q.map ρ)
class pz (f:aB->aN):Prop where
 nat:∀ ρ q,(f q).aX ρ = f (q.map ρ)
class dy (f:aB->List (Id × aN)):Prop where
 nat:∀ ρ q,dX ρ (f q)=f (q.map ρ)
 sub:∀ q,((f q).map (·.1)).Sublist q.l
instance arf {c:aa} [h:bg c]:kj (λ _=>c):=⟨λ ρ _=>h.fix ρ⟩
instance {k o n:Nat} {t:Bool}:kj (λ q => .ai q.a k o n t):=⟨λ _ _=>rfl⟩
instance {k o n:Nat} {t:Bool}:kj (λ q => .ai q.b k o n t):=⟨λ _ _=>rfl⟩
instance {k o n:Nat} {t:Bool}:kj (λ q => .ai q.c k o n t):=⟨λ _ _=>rfl⟩
instance {k o n:Nat} {t:Bool}:kj (λ q => .ai q.d k o n t):=⟨λ _ _=>rfl⟩
instance {e o:Nat}:kj (λ q => .ref q.a e o):=⟨λ _ _=>rfl⟩
instance {e o:Nat}:kj (λ q => .ref q.b e o):=⟨λ _ _=>rfl⟩
instance {e o:Nat}:kj (λ q => .ref q.c e o):=⟨λ _ _=>rfl⟩
instance {e o:Nat}:kj (λ q => .ref q.d e o):=⟨λ _ _=>rfl⟩
def Mv {ρ : Id->Id} {q:Id} {k:Nat} {l:List aa}:(bq q k l).aX ρ = bq (ρ q) k l:=by unfold bq;split<;>rfl
instance {k:Nat} {l:List aa}:kj (λ q=>bq q.a k l):=⟨λ _ _=>Mv⟩
instance {k:Nat} {l:List aa}:kj (λ q=>bq q.b k l):=⟨λ _ _=>Mv⟩
instance {k:Nat} {l:List aa}:kj (λ q=>bq q.c k l):=⟨λ _ _=>Mv⟩
instance ari {l:List aa} [h:br l]:qd (λ _=>l):=⟨λ ρ _=>h.fix ρ⟩
instance (priority:=900) {f:aB->aa} {g:aB->List aa} [h:kj f] [k:qd g]:qd (λ q=>f q::g q):=⟨λ ρ q=>by show (f q).aX ρ :: bx ρ (g q)=_;rw [h.nat,k.nat]⟩
instance (priority:=900) {f g:aB->List aa} [h:qd f] [k:qd g]:qd (λ q=>f q++g q):=⟨λ ρ q=>by show bx ρ (f q++g q)=_;rw [r9,h.nat,k.nat]⟩
instance (priority:=900) {f:aB->List aa} [h:qd f]:kj (λ q => .agg (f q)):=⟨λ ρ q=>by show aa.agg (bx ρ (f q))=_;rw [h.nat]⟩
instance (priority:=900) {f:aB->List aa} [h:qd f]:kj (λ q => .aS (f q)):=⟨λ ρ q=>by show aa.aS (bx ρ (f q))=_;rw [h.nat]⟩
instance:gb (λ _=>[]):=⟨λ _ _=>rfl⟩
instance {k:Nat} {f:aB->aa} {g:aB->List (Nat × aa)} [h:kj f] [j:gb g]:gb (λ q=>(k,f q)::g q):=⟨λ ρ q=>by show (k,(f q).aX ρ)::tM ρ (g q)=_;rw [h.nat,j.nat]⟩
instance (priority:=800) arh {l:List (Nat × aa)} [h:hU l]:gb (λ _=>l):=⟨λ ρ _=>h.fix ρ⟩
instance {f:aB->List aa} {k:Nat} {b:Bool} [h:qd f]:pz (λ q=>⟨f q,k,b⟩):=⟨λ ρ q=>by show aN.mk (bx ρ (f q)) k b=_;rw [h.nat]⟩
instance:dy (λ _=>[]):=⟨λ _ _=>rfl, λ _=>nF _⟩
section
variable {x y z:aB->aN} [hx:pz x] [hy:pz y] [hz:pz z]
instance:dy (λ q=>[(q.a,x q)]):=⟨λ ρ q=>by show [(ρ q.a,(x q).aX ρ)]=_;rw [hx.nat];rfl, λ q => .cons_cons _ (nF _)⟩
instance:dy (λ q=>[(q.b,x q)]):=⟨λ ρ q=>by show [(ρ q.b,(x q).aX ρ)]=_;rw [hx.nat];rfl, λ q => .cons _ (.cons_cons _ (nF _))⟩
instance:dy (λ q=>[(q.c,x q)]):=⟨λ ρ q=>by show [(ρ q.c,(x q).aX ρ)]=_;rw [hx.nat];rfl, λ q => .cons _ (.cons _ (.cons_cons _ (nF _)))⟩
instance:dy (λ q=>[(q.a,x q),(q.b,y q)]):=⟨λ ρ q=>by show [(ρ q.a,(x q).aX ρ),(ρ q.b,(y q).aX ρ)]=_;rw [hx.nat,hy.nat];rfl, λ q => .cons_cons _ (.cons_cons _ (nF _))⟩
instance:dy (λ q=>[(q.b,x q),(q.c,y q)]):=⟨λ ρ q=>by show [(ρ q.b,(x q).aX ρ),(ρ q.c,(y q).aX ρ)]=_;rw [hx.nat,hy.nat];rfl, λ q => .cons _ (.cons_cons _ (.cons_cons _ (nF _)))⟩
instance:dy (λ q=>[(q.a,x q),(q.c,y q)]):=⟨λ ρ q=>by show [(ρ q.a,(x q).aX ρ),(ρ q.c,(y q).aX ρ)]=_;rw [hx.nat,hy.nat];rfl, λ q => .cons_cons _ (.cons _ (.cons_cons _ (nF _)))⟩
instance:dy (λ q=>[(q.a,x q),(q.b,y q),(q.c,z q)]):=⟨λ ρ q=>by show [(ρ q.a,(x q).aX ρ),(ρ q.b,(y q).aX ρ),(ρ q.c,(z q).aX ρ)]=_;rw [hx.nat,hy.nat,hz.nat];rfl, λ q => .cons_cons _ (.cons_cons _ (.cons_cons _ (nF _)))⟩
end
def vp {ρ : Id->Id} {K L:List (Id × aN)}:dX ρ (K++L)=dX ρ K++dX ρ L:=dU
def zt {ρ : Id->Id} {q:Id} {k:Nat} {l:List aa} [h:br l]:dX ρ (a8 q k l)=a8 (ρ q) k l:=by
 unfold a8
 split
 rfl
 show [(ρ q,aN.mk (bx ρ l) k false)]=_;rw [h.fix]
def w6 {q:Id} {k:Nat} {l:List aa} {K:List (Id × aN)} {L:List Id} (h:(K.map (·.1)).Sublist L):((a8 q k l++K).map (·.1)).Sublist (q::L):=by
 unfold a8
 split
 exact .cons _ h
 exact .cons_cons _ h
section
variable {y z:aB->aN} [hy:pz y] [hz:pz z] {k:Nat} {l:List aa} [hl:br l] {k':Nat} {l':List aa} [aq1:br l']
instance:dy (λ q=>a8 q.a k l++[]):=⟨λ ρ q=>by show dX ρ (a8 q.a k l++[])=_;rw [vp,zt];rfl, λ q=>w6 (nF _)⟩
instance:dy (λ q=>a8 q.a k l++[(q.b,y q)]):=⟨λ ρ q=>by show dX ρ (a8 q.a k l++_)=_;rw [vp,zt];show _++[(ρ q.b,(y q).aX ρ)]=_;rw [hy.nat];rfl, λ q=>w6 (.cons_cons _ (nF _))⟩
instance:dy (λ q=>a8 q.a k l++[(q.b,y q),(q.c,z q)]):=⟨λ ρ q=>by show dX ρ (a8 q.a k l++_)=_;rw [vp,zt];show _++[(ρ q.b,(y q).aX ρ),(ρ q.c,(z q).aX ρ)]=_;rw [hy.nat,hz.nat];rfl, λ q=>w6 (.cons_cons _ (.cons_cons _ (nF _)))⟩
instance:dy (λ q=>a8 q.a k l++(a8 q.b k' l'++[])):=⟨λ ρ q=>by show dX ρ (a8 q.a k l++_)=_;rw [vp,zt,vp,zt];rfl, λ q=>w6 (w6 (nF _))⟩
end
structure eQ (m:Nat) (q:aB):Prop where
 nd:q.l.Nodup
 old:∀ i∈q.l,∀ j,m<=j -> ¬ [j,0] <:+ i
def zi:Id->Bool
 | [k+1]=>Nat.ble k 3
 | _=>false
def LX (w:Nat):Id->Bool
 | []=>false
 | a :: i=>match i with
   | []=>false
   | b::c=>match c with
     | []=>Nat.beq b 0&&Nat.blt a w
     | _::_=>LX w (b::c)
def Hu:List Id->Bool
 | []=>true
 | i::l=>(l.all λ j => !nb i j)&&Hu l
def kx (w:Nat) (τ : aB):Bool:=Hu τ.l && τ.l.all λ i=>zi i||LX w i
def GY {i:Id} (h:zi i=true):i=[1] \/ i=[2] \/ i=[3] \/ i=[4]:=by
 unfold zi at h
 split at h
 . next k =>
   have:k<=3:=Ee h
   have:k=0 \/ k=1 \/ k=2 \/ k=3:=by omega
   rcases this with rfl | rfl | rfl | rfl
   exact .inl rfl
   exact .inr (.inl rfl)
   exact .inr (.inr (.inl rfl))
   exact .inr (.inr (.inr rfl))
 cases h
def wY {w:Nat}:∀ {i:Id},LX w i=true->∃ l a,a<w/\i=l++[a,0]
 | [a,b],h=>by
   have d:(Nat.beq b 0&&Nat.blt a w)=true:=h
   rw [hJ] at d
   have h1:b=0:=Nat.eq_of_beq_eq_true d.1
   subst h1
   exact ⟨[],a,Ee d.2,rfl⟩
 | a::b::c::i,h=>by
   have ⟨l,x,f,e⟩:=wY (i:=b::c::i) h
   exact ⟨a::l,x,f,by rw [e];rfl⟩
def MJ:∀ {l:List Id},Hu l=true->l.Nodup
 | [],_=>gm
 | i::l,h=>by
   have a:((l.all λ j => !nb i j)&&Hu l)=true:=h
   rw [hJ] at a
   refine iF.2 ⟨λ b => ?_,MJ a.2⟩
   have:=eO.1 a.1 i b
   rw [tu.2 rfl] at this
   cases this
def V6 {m a j:Nat} {l:Id} (h:[j,0] <:+ l++[m+a,0]):j=m+a:=by
 have ⟨t,e⟩:=h
 have:=(Zh e rfl).2
 simpa using this
def amB {k j:Nat} : ¬ [j,0] <:+ [k] := λ h=>by
 have:=h.length_le
 simp at this
def aB.κ (q:aB):Nat->Id
 | 1=>q.a
 | 2=>q.b
 | 3=>q.c
 | 4=>q.d
 | k=>[k]
def aB.Mp (q:aB) (m:Nat):aB.s.map (bN m [0] q.κ)=q:=rfl
def eQ.start {m:Nat} {q:aB} (h:kx m q=true):eQ m q:=by
 unfold kx at h
 rw [hJ] at h
 refine ⟨MJ h.1, λ i c j e b => ?_⟩
 have:=eO.1 h.2 i c
 rw [Pb] at this
 rcases this with h1 | h1
 rcases GY h1 with rfl | rfl | rfl | rfl<;>exact amB b
 obtain ⟨l,a,d,rfl⟩:=wY h1
 have:j=0+a:=V6 (m:=0) (by rwa [Nat.zero_add])
 omega
def eQ.next {m w:Nat} {q τ : aB} (g:eQ m q) (h:kx w τ = true):eQ (m+w) (τ.map (bN m [0] q.κ)):=by
 unfold kx at h
 rw [hJ] at h
 have t:(τ.map (bN m [0] q.κ)).l = τ.l.map (bN m [0] q.κ):=rfl
 have B:=g.nd
 simp only [aB.l,iF,cr,cX,or_false,not_or] at B
 have c:∀ i,zi i=true->bN m [0] q.κ i∈q.l := λ i d=>by
   rcases GY d with rfl | rfl | rfl | rfl<;>simp [bN,aB.κ,aB.l]
 have A:∀ i j,zi i=true->zi j=true->bN m [0] q.κ i=bN m [0] q.κ j->i=j := λ i j d n e=>by
   rcases GY d with rfl | rfl | rfl | rfl<;>rcases GY n with rfl | rfl | rfl | rfl<;>simp only [bN,aB.κ] at e<;>first | rfl | (exfalso;grind)
 have r:∀ i ∈ τ.l,∀ j ∈ τ.l,bN m [0] q.κ i=bN m [0] q.κ j->i=j := λ i d j n e=>by
   have h1:=eO.1 h.2 i d
   have f:=eO.1 h.2 j n
   rw [Pb] at h1 f
   rcases h1 with h1 | h1<;>rcases f with f | f
   exact A i j h1 f e
   obtain ⟨l,a,k,rfl⟩:=wY f
   rw [jm] at e
   exact (g.old _ (c i h1) (m+a) (ud _ _) (e▸Zi _ _)).elim
   obtain ⟨l,a,k,rfl⟩:=wY h1
   rw [jm] at e
   exact (g.old _ (c j f) (m+a) (ud _ _) (e▸Zi _ _)).elim
   obtain ⟨l,a,k,rfl⟩:=wY h1
   obtain ⟨l',a',z,rfl⟩:=wY f
   rw [jm,jm] at e
   have ⟨y,v⟩:=Zh e rfl
   simp only [List.cons.injEq,and_true] at v
   rw [y,show a=a' by omega]
 refine ⟨?_, λ i d j n p => ?_⟩
 rw [t]
 have s:=MJ h.1
 unfold List.Nodup at s ⊢
 rw [List.pairwise_map]
 refine List.Pairwise.imp_of_mem ?_ s
 exact λ {a b} k hb o e=>o (r a k b hb e)
 rw [t] at d
 obtain ⟨x,u,rfl⟩:=bn.1 d
 have h1:=eO.1 h.2 x u
 rw [Pb] at h1
 rcases h1 with h1 | h1
 exact g.old _ (c x h1) j (by omega) p
 obtain ⟨l,a,k,rfl⟩:=wY h1
 rw [jm] at p
 have:=V6 p
 omega
section
variable {P:Program} {G:Nat->Option (List aa)}
def a2 (P:Program) (G:Nat->Option (List aa)) (c:cB) (n w:Nat) (e:cw) (A:aB->List (Nat × aa)) (bZ:aB->List (Id × aN)) (B:aB->List (Nat × aa)) (ct:aB->List (Id × aN)):Prop :=
 ∀ (q:aB) (m:Nat),eQ m q->bu P G [0] c (λ a s'=>a=e/\∃ q',eQ (m+w) q'/\bz G [0] s' ⟨fr n (B q'),bk (ct q'),m+w⟩) ⟨fr n (A q),bk (bZ q),m⟩
def dy.nd {K:aB->List (Id × aN)} [h:dy K] {m:Nat} {q:aB} (g:eQ m q):((K q).map (·.1)).Nodup:=g.nd.sublist (h.sub q)
def aW {c:cB} {n w:Nat} {e:cw} {A B:aB->List (Nat × aa)} {bZ ct:aB->List (Id × aN)} [gb A] [gb B] [dy bZ] [dy ct] (τ : aB) (a:List (aZ P G))
   (h:h8 (ct τ) (fr n (B τ)) w (bX true 1000 c [0] a ⟨fr n (A aB.s),cf (bZ aB.s),0⟩)=h7 e (ct τ) (fr n (B τ)) (bX true 1000 c [0] a ⟨fr n (A aB.s),cf (bZ aB.s),0⟩):=by kernel_rfl)
   (b:kx w τ = true:=by kernel_rfl):a2 P G c n w e A bZ B ct := λ q m g=>by
 refine iG q.κ a (fr n (A aB.s)) (bZ aB.s) e (fr n (B τ)) (ct τ) w h (by rw [u0,gb.nat,aB.Mp]) (by rw [dy.nat,aB.Mp]) rfl rfl (dy.nd g) λ s hw=>⟨rfl, τ.map (bN m [0] q.κ),g.next b, ?_⟩
 rw [u0,gb.nat,dy.nat] at hw
 exact hw
def a2.gV {c:cB} {n w:Nat} {e:cw} {A B b:aB->List (Nat × aa)} {bZ ct a:aB->List (Id × aN)} (h:a2 P G c n w e A bZ B ct) (k:∀ q m,eQ m q->bz G [0] ⟨fr n (B q),bk (ct q),m⟩ ⟨fr n (b q),bk (a q),m⟩):a2 P G c n w e A bZ b a := λ q m g =>
 (h q m g).mono λ i s' ⟨h1,q',d,f⟩=>⟨h1,q',d,f.trans (k q' _ d)⟩
def bz.fin {n m E:Nat} {T:aB->List (Nat × aa)} {K:aB->List (Id × aN)} [gb T] [dy K] {q:aB} (g:eQ m q) (J:m<=E):bz G [0] ⟨fr n (T q),bk (K q),m⟩ ⟨fr n (T (aB.fin E)),bk (K (aB.fin E)),E+4⟩:=by
 have f:∀ {q q':aB} {m E:Nat} (i:Id),m<=E->q.l.Nodup->q.map (mv i [E,0])=q'->bz G [0] ⟨fr n (T q),bk (K q),m⟩ ⟨fr n (T q'),bk (K q'),E+1⟩ := λ {q q' m E} i M A e=>by
   have:=bz.aij (G:=G) (π := [0]) (q:=i) (t:=fr n (T q)) (K:=K q) M (A.sublist (dy.sub q))
   rw [u0,gb.nat,dy.nat,e] at this
   exact this
 have A:=g.nd
 have v:=g.old
 simp only [aB.l,iF,cr,cX,or_false,not_or] at A
 simp only [aB.l,cr,cX,or_false,forall_eq_or_imp,forall_eq] at v
 have ⟨U,O,oZ,D⟩:=v
 have r:∀ {i:Id} {j:Nat},(∀ j,m<=j -> ¬ [j,0] <:+ i)->m<=j->[j,0]≠i := λ h Q e=>h _ Q (e▸List.suffix_refl _)
 have ⟨⟨B,H,C⟩,⟨x,s⟩,p,_⟩:=A
 have ⟨a,b,c,d⟩:=q
 simp only at *
 have L:=f (q:=⟨a,b,c,d⟩) (q':=⟨[E,0],b,c,d⟩) (m:=m) (E:=E) a J g.nd (by simp only [aB.map,CO,oW (c3 B),oW (c3 H),oW (c3 C)])
 have w:=r O (show m<=E by omega);have o:=r oZ (show m<=E by omega);have k:=r D (show m<=E by omega)
 have z:=r oZ (show m<=E+1 by omega);have tk:=r D (show m<=E+1 by omega)
 have u:=r D (show m<=E+2 by omega)
 have y:([E,0]:Id)≠[E+1,0]:=by simp
 have F:([E,0]:Id)≠[E+2,0]:=by simp
 have I:([E+1,0]:Id)≠[E+2,0]:=by simp
 have N:=f (q:=⟨[E,0],b,c,d⟩) (q':=⟨[E,0],[E+1,0],c,d⟩) (m:=E+1) (E:=E+1) b (a4 _) (by simp only [aB.l,iF,cr,cX,or_false,not_or];exact ⟨⟨w,o,k⟩,⟨x,s⟩,p,not_false,gm⟩) (by simp only [aB.map,CO,oW w,oW (c3 x),oW (c3 s)])
 have R:=f (q:=⟨[E,0],[E+1,0],c,d⟩) (q':=⟨[E,0],[E+1,0],[E+2,0],d⟩) (m:=E+2) (E:=E+2) c (a4 _) (by simp only [aB.l,iF,cr,cX,or_false,not_or];exact ⟨⟨y,o,k⟩,⟨z,tk⟩,p,not_false,gm⟩) (by simp only [aB.map,CO,oW o,oW z,oW (c3 p)])
 have S:=f (q:=⟨[E,0],[E+1,0],[E+2,0],d⟩) (q':=aB.fin E) (m:=E+3) (E:=E+3) d (a4 _) (by simp only [aB.l,iF,cr,cX,or_false,not_or];exact ⟨⟨y,F,k⟩,⟨I,tk⟩,u,not_false,gm⟩) (by simp only [aB.map,CO,oW k,oW tk,oW u];rfl)
 exact ((L.trans N).trans R).trans S
def Hb {c:cB} {n N w n0 E:Nat} {e:cw} {d:aB} {T:Nat->aB->List (Nat × aa)} {K:Nat->aB->List (Id × aN)} {fH:aB->List (Nat × aa)} {fy:aB->List (Id × aN)} [gb fH] [dy fy] (u:eQ n0 d)
   (B:∀ i,i<N->a2 P G c n w .normal (T i) (K i) (T (i+1)) (K (i+1))) (x:a2 P G c n w e (T N) (K N) fH fy) (o:e ≠ .normal) (A:n0+w*N+w<=E) :
   bu P G [0] (.loop c) (λ k s'=>k=e/\bz G [0] s' ⟨fr n (fH (aB.fin E)),kd (cf (fy (aB.fin E))),E+4⟩) ⟨fr n (T 0 d),bk (K 0 d),n0⟩:=by
 refine bu.qz (α := Nat × aB) (λ z=>⟨fr n (T z.1 z.2),bk (K z.1 z.2),n0+w*z.1⟩) (λ z=>z.1<=N/\eQ (n0+w*z.1) z.2) (λ z=>N-z.1) (0,d) (by rw [iY];exact bz.refl _ _ _) ⟨et _,by rw [iY];exact u⟩ ?_
 rintro ⟨i,q⟩ ⟨v,p⟩
 simp only [] at v p ⊢
 by_cases a:i<N
 refine (B i a q _ p).mono λ k s' r => ?_
 obtain ⟨rfl,q',h,b⟩:=r
 have e:n0+w*i+w=n0+w*(i+1):=by rw [dC,mS];omega
 rw [e] at h b
 exact ⟨(i+1,q'),⟨a,h⟩,by simp only [];omega,b⟩
 obtain rfl:i=N:=by omega
 refine (x q _ p).mono λ k s' r => ?_
 obtain ⟨rfl,q',h,b⟩:=r
 have m:(aB.fin E).l.Nodup:=by simp [aB.fin,aB.l]
 have s:=bz.toT (m.sublist (dy.sub (f:=fy) _)) (b.trans (bz.fin h A))
 cases k with
 | normal=>exact (o rfl).elim
 | exit j=>exact ⟨rfl,s⟩
 | ret=>exact ⟨rfl,s⟩
noncomputable def ck (aH:dS) (k l s N:Nat) (a:aB) (T:Nat->aB->List (Nat × aa)) (K:Nat->aB->List (Id × aN)) (e:cw) (fH:aB->List (Nat × aa)) (fy:aB->List (Id × aN)) [gb fH] [dy fy]
   (d:∀ i,i<N->a2 P G (aU aH k) aH.aK (a5 l) .normal (T i) (K i) (T (i+1)) (K (i+1))) (g:a2 P G (aU aH k) aH.aK (a5 l) e (T N) (K N) fH fy) (f:kx (lb l s) a=true:=by kernel_rfl) (c:N<=9000:=by omega) (b:e ≠ .normal:=by simp):aZ P G :=
 .iA [0] (aU aH k) (fr aH.aK (T 0 a)) (K 0 a) (lb l s) e (fr aH.aK (fH (aB.fin (le l s)))) (cf (fy (aB.fin (le l s)))) (le l s+4) (Hb (eQ.start f) d g b (CB c))
def jQ {c:cB} {n w k bytes key so N:Nat} {hb:0<bytes} {A B:aB->List (Nat × aa)} {bZ ct:aB->List (Id × aN)} {l:List aa} {x:aa} [i:cU k x] [gb A] [gb B] [dy (λ q=>a8 q.a k l++bZ q)] [dy (λ q=>a8 q.a k (l++[x])++ct q)] (d:l≠[]) (b:qe k bytes N l) (q:Nat) (τ : aB) (e:List (aZ P G)->List (aZ P G))
   (h1:h8 ([(τ.a,⟨l++[x],k,false⟩)]++ct τ) (fr n ((so, .ai τ.a k 0 (l.length+1) false)::B τ)) w (bX true 1000 c [0] (e [rJ key k bytes q l x b.len hb b.one]) ⟨fr n ((so, .ai [1] k 0 l.length false)::A aB.s),cf ([([1],⟨l,k,false⟩)]++bZ aB.s),0⟩)=h7 .normal ([(τ.a,⟨l++[x],k,false⟩)]++ct τ) (fr n ((so, .ai τ.a k 0 (l.length+1) false)::B τ)) (bX true 1000 c [0] (e [rJ key k bytes q l x b.len hb b.one]) ⟨fr n ((so, .ai [1] k 0 l.length false)::A aB.s),cf ([([1],⟨l,k,false⟩)]++bZ aB.s),0⟩):=by kernel_rfl)
   (h:kx w τ = true:=by kernel_rfl):a2 P G c n w .normal (λ q=>(so,bq q.a k l)::A q) (λ q=>a8 q.a k l++bZ q) (λ q=>(so,bq q.a k (l++[x]))::B q) (λ q=>a8 q.a k (l++[x])++ct q):=by
 have g:∀ p,bq p k (l++[x]) = .ai p k 0 (l.length+1) false := λ p=>by rw [dA (by simp),cd];rfl
 have f:∀ p,a8 p k (l++[x])=[(p,⟨l++[x],k,false⟩)] := λ p=>dx (by simp)
 refine aW τ (e [rJ key k bytes q l x b.len hb b.one]) ?_ h
 simp only [g,f,dA d,dx d]
 exact h1
def Qd {c:cB} {n w k so:Nat} {A B:aB->List (Nat × aa)} {bZ ct:aB->List (Id × aN)} {x:aa} [h:cU k x] [gb A] [gb B] [dy (λ q=>a8 q.a k []++bZ q)] [dy (λ q=>a8 q.a k [x]++ct q)] (τ : aB) (b:List (aZ P G))
   (g:h8 ([(τ.a,⟨[x],k,false⟩)]++ct τ) (fr n ((so, .ai τ.a k 0 1 false)::B τ)) w (bX true 1000 c [0] b ⟨fr n ((so, .aq)::A aB.s),cf (bZ aB.s),0⟩)=h7 .normal ([(τ.a,⟨[x],k,false⟩)]++ct τ) (fr n ((so, .ai τ.a k 0 1 false)::B τ)) (bX true 1000 c [0] b ⟨fr n ((so, .aq)::A aB.s),cf (bZ aB.s),0⟩):=by kernel_rfl)
   (e:kx w τ = true:=by kernel_rfl):a2 P G c n w .normal (λ q=>(so,bq q.a k [])::A q) (λ q=>a8 q.a k []++bZ q) (λ q=>(so,bq q.a k [x])::B q) (λ q=>a8 q.a k [x]++ct q):=by
 have d:∀ p,bq p k [x] = .ai p k 0 1 false := λ p=>dA (by simp)
 have f:∀ p,a8 p k [x]=[(p,⟨[x],k,false⟩)] := λ p=>dx (by simp)
 refine aW τ b ?_ e
 simp only [d,f]
 exact g
def sZ {c:cB} {n w k bytes key so N:Nat} {hb:0<bytes} {A B:aB->List (Nat × aa)} {bZ ct:aB->List (Id × aN)} {l:List aa} {x:aa} [i:cU k x] [br l] [gb A] [gb B] [h1:dy (λ q=>a8 q.a k l++bZ q)] [g:dy (λ q=>a8 q.a k (l++[x])++ct q)] (d:qe k bytes N l) (q:Nat) (τ : aB) (b:List (aZ P G)->List (aZ P G))
   (eA:l=[]->h8 ([(τ.a,⟨[x],k,false⟩)]++ct τ) (fr n ((so, .ai τ.a k 0 1 false)::B τ)) w (bX true 1000 c [0] (b []) ⟨fr n ((so, .aq)::A aB.s),cf (bZ aB.s),0⟩)=h7 .normal ([(τ.a,⟨[x],k,false⟩)]++ct τ) (fr n ((so, .ai τ.a k 0 1 false)::B τ)) (bX true 1000 c [0] (b []) ⟨fr n ((so, .aq)::A aB.s),cf (bZ aB.s),0⟩):=by intros;kernel_rfl)
   (h:l≠[]->h8 ([(τ.a,⟨l++[x],k,false⟩)]++ct τ) (fr n ((so, .ai τ.a k 0 (l.length+1) false)::B τ)) w (bX true 1000 c [0] (b [rJ key k bytes q l x d.len hb d.one]) ⟨fr n ((so, .ai [1] k 0 l.length false)::A aB.s),cf ([([1],⟨l,k,false⟩)]++bZ aB.s),0⟩)=h7 .normal ([(τ.a,⟨l++[x],k,false⟩)]++ct τ) (fr n ((so, .ai τ.a k 0 (l.length+1) false)::B τ)) (bX true 1000 c [0] (b [rJ key k bytes q l x d.len hb d.one]) ⟨fr n ((so, .ai [1] k 0 l.length false)::A aB.s),cf ([([1],⟨l,k,false⟩)]++bZ aB.s),0⟩):=by intros;kernel_rfl)
   (f:kx w τ = true:=by kernel_rfl):a2 P G c n w .normal (λ q=>(so,bq q.a k l)::A q) (λ q=>a8 q.a k l++bZ q) (λ q=>(so,bq q.a k (l++[x]))::B q) (λ q=>a8 q.a k (l++[x])++ct q):=by
 by_cases e:l=[]
 subst e
 haveI:dy (λ q=>a8 q.a k [x]++ct q):=g
 exact Qd τ (b []) (eA rfl) f
 exact jQ e d q τ b (h e) f
def kT {c:cB} {n w k so:Nat} {e:cw} {A B:aB->List (Nat × aa)} {bZ ct:aB->List (Id × aN)} {l:List aa} [gb A] [gb B] [dy (λ q=>a8 q.a k l++bZ q)] [dy (λ q=>a8 q.a k l++ct q)] (τ : aB) (b:List (aZ P G))
   (g:l=[]->h8 (ct τ) (fr n ((so, .aq)::B τ)) w (bX true 1000 c [0] b ⟨fr n ((so, .aq)::A aB.s),cf (bZ aB.s),0⟩)=h7 e (ct τ) (fr n ((so, .aq)::B τ)) (bX true 1000 c [0] b ⟨fr n ((so, .aq)::A aB.s),cf (bZ aB.s),0⟩):=by intros;kernel_rfl)
   (h1:l≠[]->h8 ([(τ.a,⟨l,k,false⟩)]++ct τ) (fr n ((so, .ai τ.a k 0 l.length false)::B τ)) w (bX true 1000 c [0] b ⟨fr n ((so, .ai [1] k 0 l.length false)::A aB.s),cf ([([1],⟨l,k,false⟩)]++bZ aB.s),0⟩)=h7 e ([(τ.a,⟨l,k,false⟩)]++ct τ) (fr n ((so, .ai τ.a k 0 l.length false)::B τ)) (bX true 1000 c [0] b ⟨fr n ((so, .ai [1] k 0 l.length false)::A aB.s),cf ([([1],⟨l,k,false⟩)]++bZ aB.s),0⟩):=by intros;kernel_rfl)
   (d:kx w τ = true:=by kernel_rfl):a2 P G c n w e (λ q=>(so,bq q.a k l)::A q) (λ q=>a8 q.a k l++bZ q) (λ q=>(so,bq q.a k l)::B q) (λ q=>a8 q.a k l++ct q):=by
 by_cases h:l=[]
 refine aW τ b ?_ d
 have f1:∀ p,bq p k l = .aq := λ p=>by rw [h];rfl
 have f:∀ p,a8 p k l=[] := λ p=>by rw [h];rfl
 simp only [f1,f]
 exact g h
 refine aW τ b ?_ d
 simp only [dA h,dx h]
 exact h1 h
def aov {F:List (Id × aN)} {q:Id} {k n:Nat} {t:Bool} {l:List aa} (h:bk F q=some ⟨l,k,false⟩) (b:n<=l.length) (a:∀ e∈l,cU k e):hX F (.ai q k 0 n t) (.sl k (l.take n)):=by
 refine l4 (kY (au:=⟨l,k,false⟩) h rfl (by simpa using b) ?_ (by simp;omega) λ d hd=>(a d (gq hd)).size)
 rw [iZ]
 exact jx λ c hc=>by
   have ⟨e,f,hc⟩:=iK.1 hc
   exact (a e (gq f)).cells c hc
def sz {F:List (Id × aN)} {q:Id} {k:Nat} {t:Bool} {l:List aa} (h:bk F q=some ⟨l,k,false⟩) (a:∀ e∈l,cU k e):hX F (.ai q k 0 l.length t) (.sl k l):=by
 have:=aov (t:=t) h (a4 _) a
 rwa [hM (a4 _)] at this
def bz.yV {n m:Nat} {B:List (Nat × aa)} {K:List (Id × aN)} {a:List (Nat × aa)} (hd:(K.map (·.1)).Nodup) (h:eU K (fr n B) (fr n a)):bz G [0] ⟨fr n B,bk K,m⟩ ⟨fr n a,bk [],m⟩ :=
 bz.mh K (λ y b=>xd hd b) h (λ _ => .inl rfl) (a4 _)
def eU.app {F:List (Id × aN)}:∀ {a b c d:List aa},eU F a b->eU F c d->eU F (a++c) (b++d)
 | [],[],_,_,_,h=>h
 | _::_,_::_,_,_,h,k=>⟨h.1,eU.app h.2 k⟩
 | [],_::_,_,_,h,_=>h.elim
 | _::_,[],_,_,h,_=>h.elim
def yp.same {F:List (Id × aN)} {i:Id} {au:aN} (a:∀ x∈F,x.1≠i) (b:∀ e∈au.els,e.size=au.k):yp F i au au:=⟨rfl, .inl rfl, λ _=>a,rfl,b,hN _ _⟩
def bz.Gc {n m so ln c kQ:Nat} {t:Bool} {F:List (Nat × aa)} {q:aB} {L row:List aa} (g:eQ m q) (u:∀ e∈L,e.size=1) (r:∀ e∈row,cU c e) (k:kQ=row.length) :
   bz G [0] ⟨fr n ((so, .ai q.a 1 0 ln false)::F),bk [(q.a,⟨L++[.ai q.b c 0 kQ t],1,false⟩),(q.b,⟨row,c,false⟩)],m⟩ ⟨fr n ((so, .ai q.a 1 0 ln false)::F),bk [(q.a,⟨L++[.sl c row],1,false⟩)],m⟩:=by
 subst k
 have d:q.a≠q.b := λ e=>by
   have:=g.nd
   simp [aB.l] at this
   exact this.1.1 e
 have f:(q.b==q.a)=false:=by simpa using c3 d
 have v:∀ e∈L++[aa.sl c row],e.size=1 := λ e s=>by
   rcases List.mem_append.1 s with h | h
   exact u e h
   rw [bJ.1 h];rfl
 refine bz.mh [(q.b,⟨row,c,false⟩)] (λ y p => ?_) (hN _ _) (λ i => ?_) (a4 _)
 rw [bJ.1 p]
 show cD _ _=_
 rw [kc,f]
 simp [cD]
 by_cases j:i=q.a
 subst j
 refine .inr ⟨⟨L++[.ai q.b c 0 row.length t],1,false⟩,⟨L++[.sl c row],1,false⟩,by simp [bk,cD],by simp [bk,cD],rfl, .inl rfl, λ _ x o=>by rw [bJ.1 o];exact c3 d,by simp,v, ?_⟩
 show eU _ (flat (L++[_])) (flat (L++[_]))
 rw [show ∀ y,flat (L++[y])=flat L++y.cells from λ y=>by simp [flat]]
 rw [show ∀ y,flat (L++[y])=flat L++y.cells from λ y=>by simp [flat]]
 exact eU.app (hN _ _) ⟨sz (by simp [bk,cD]) r,trivial⟩
 refine .inl ?_
 have:(i==q.a)=false:=by simpa using j
 show cD _ _=_
 rw [kc,this]
 rfl
def a2.rH {c:cB} {n w so k:Nat} {e:cw} {A:aB->List (Nat × aa)} {bZ:aB->List (Id × aN)} {B:List (Nat × aa)} {l:List aa} (h:a2 P G c n w e A bZ (λ q=>(so,bq q.a k l)::B) (λ q=>a8 q.a k l++[])) (b:∀ e∈l,cU k e):a2 P G c n w e A bZ (λ _=>(so, .sl k l)::B) (λ _=>[]) :=
 h.gV λ q m g=>by
   rw [List.append_nil]
   exact bz.yV (T9 _ _ _) (ny B (jL so (hN _ _) (OA b)))
def a2.adW {c:cB} {n w so k ln:Nat} {e:cw} {t:Bool} {A:aB->List (Nat × aa)} {bZ:aB->List (Id × aN)} {B:List (Nat × aa)} {l:List aa} (h:a2 P G c n w e A bZ (λ q=>(so, .ai q.a k 0 ln t)::B) (λ q=>[(q.a,⟨l,k,false⟩)])) (d:ln=l.length) (b:∀ e∈l,cU k e):a2 P G c n w e A bZ (λ _=>(so, .sl k l)::B) (λ _=>[]) :=
 h.gV λ q m g=>by
   subst d
   exact bz.yV (by simp) (ny B (jL so (hN _ _) (sz (by simp [bk,cD]) b)))
structure ee where
 f:Nat->Rat
 c:∀ e:Rat,0<e->∃ N,∀ m n,N<=m->N<=n->f m-f n<e
end
end Go.aF
namespace Go.aF.ee
def abr (f:Nat->Rat) (N:Nat):∃ B:Rat,0<B/\∀ n,n<N -> -B<f n/\f n<B:=by
 induction N with
 | zero=>exact ⟨1,by decide, λ n h=>by omega⟩
 | succ N a =>
   have ⟨B,g,h⟩:=a
   by_cases d:0<=f N
   refine ⟨B+f N+1,by grind, λ n b => ?_⟩
   by_cases e:n=N
   subst e;grind
   have:=h n ;grind
   refine ⟨B-f N+1,by grind, λ n b => ?_⟩
   by_cases e:n=N
   subst e;grind
   have:=h n ;grind
def Bw (a:ee):∃ B:Rat,0<B/\∀ n, -B<a.f n/\a.f n<B:=by
 have ⟨N,b⟩:=a.c 1 (by decide)
 have ⟨B,e,h⟩:=abr a.f (N+1)
 refine ⟨B+1,by grind, λ n => ?_⟩
 by_cases d:n<N+1
 have:=h n d;grind
 have h1:=b n N (by omega) (a4 _)
 have g:=b N n (a4 _)
 have:=h N
 grind
def tI {x d B e:Rat} (h1 : -B<x) (h:x<B) (g : -e<d) (b:d<e):x*d<B*e:=by
 have i:0<(B-x)*(e+d):=fO (by grind) (by grind)
 have a:0<(B+x)*(e-d):=fO (by grind) (by grind)
 grind
def eh (a b:ee):Prop:=∀ e:Rat,0<e->∃ N,∀ n,N<=n->a.f n-b.f n<e/\b.f n-a.f n<e
def RN {a b:ee} (h:∀ n,a.f n=b.f n):eh a b := λ e d=>⟨0, λ n _=>by rw [h n];grind⟩
instance:Setoid ee:=⟨eh, λ a=>RN λ _=>rfl, λ h e g=>by
 have ⟨N,b⟩:=h e g
 exact ⟨N, λ n d=>⟨(b n d).2,(b n d).1⟩⟩, λ h k e g=>by
 obtain ⟨N,b⟩:=h (e/2) (by grind)
 have ⟨M,i⟩:=k (e/2) (by grind)
 refine ⟨N+M, λ n d => ?_⟩
 have h1:=b n (by omega)
 have j:=i n (by omega)
 grind⟩
def add (a b:ee):ee:=⟨λ n=>a.f n+b.f n, λ e i=>by
 have ⟨N,d⟩:=a.c (e/2) (by grind)
 obtain ⟨M,g⟩:=b.c (e/2) (by grind)
 refine ⟨N+M, λ m n h k => ?_⟩
 have h1:=d m n (by omega) (by omega)
 have j:=g m n (by omega) (by omega)
 grind⟩
def neg (a:ee):ee:=⟨λ n => - a.f n, λ e d=>by
 have ⟨N,b⟩:=a.c e d
 refine ⟨N, λ m n h g => ?_⟩
 have h1:=b n m
 grind⟩
def const (q:Rat):ee:=⟨λ _=>q, λ e a=>⟨0, λ m n _ _=>by grind⟩⟩
def mul (a b:ee):ee:=⟨λ n=>a.f n*b.f n, λ e k=>by
 have ⟨A,p,g⟩:=a.Bw
 obtain ⟨B,q,h⟩:=b.Bw
 have hd:0<e/(A+B):=by rw [JD];exact fO k (sF.2 (by grind))
 have ⟨N,j⟩:=a.c (e/(A+B)) hd
 obtain ⟨M,i⟩:=b.c (e/(A+B)) hd
 refine ⟨N+M, λ m n r v => ?_⟩
 have h1:=j m n (by omega) (by omega)
 have o:=i m n (by omega) (by omega)
 have mi:=j n m (by omega) (by omega)
 have l:=i n m (by omega) (by omega)
 have s:=tI (g m).1 (g m).2 (d:=b.f m-b.f n) (e:=e/(A+B)) (by grind) o
 have u:=tI (h n).1 (h n).2 (d:=a.f m-a.f n) (e:=e/(A+B)) (by grind) h1
 have t:A*(e/(A+B))+B*(e/(A+B))=e:=by grind
 grind⟩
def aay {a a' b d:ee} (h:a ≈ a') (k:b ≈ d):add a b ≈ add a' d := λ e j=>by
 have ⟨N,g⟩:=h (e/2) (by grind)
 have ⟨M,i⟩:=k (e/2) (by grind)
 refine ⟨N+M, λ n l => ?_⟩
 have h1:=g n
 have m:=i n
 simp only [add]
 grind
def aiN {a a':ee} (h:a ≈ a'):neg a ≈ neg a' := λ e d=>by
 have ⟨N,b⟩:=h e d
 refine ⟨N, λ n g => ?_⟩
 have h1:=b n g
 simp only [neg]
 grind
def aio {a a' b g:ee} (h:a ≈ a') (k:b ≈ g):mul a b ≈ mul a' g := λ e q=>by
 have ⟨A,r,j⟩:=a.Bw
 have ⟨B,o,i⟩:=g.Bw
 have hd:0<e/(A+B):=by rw [JD];exact fO q (sF.2 (by grind))
 have ⟨N,m⟩:=h (e/(A+B)) hd
 have ⟨M,p⟩:=k (e/(A+B)) hd
 refine ⟨N+M, λ n s => ?_⟩
 have h1:=m n (by omega)
 have l:=p n (by omega)
 have w:=tI (j n).1 (j n).2 (d:=b.f n-g.f n) (e:=e/(A+B)) (by grind) l.1
 have v:=tI (i n).1 (i n).2 (d:=a.f n-a'.f n) (e:=e/(A+B)) (by grind) h1.1
 have t:=tI (j n).1 (j n).2 (d:=g.f n-b.f n) (e:=e/(A+B)) (by grind) l.2
 have u:=tI (i n).1 (i n).2 (d:=a'.f n-a.f n) (e:=e/(A+B)) (by grind) h1.2
 have x:A*(e/(A+B))+B*(e/(A+B))=e:=by grind
 simp only [mul]
 grind
end Go.aF.ee
namespace Go.aF
def aC:Type:=Quotient (inferInstance:Setoid ee)
end Go.aF
namespace Go.aF.aC
def mk (a:ee):aC:=Quotient.mk _ a
def sound {a b:ee} (h:a ≈ b):mk a=mk b:=Quotient.sound h
def ex (x:aC):∃ a,x=mk a:=by
 induction x using Quotient.ind with
 | _ a=>exact ⟨a,rfl⟩
instance:Add aC:=⟨Zk (λ a b=>mk (a.add b)) λ _ _ _ _ h k=>sound (ee.aay h k)⟩
instance:Mul aC:=⟨Zk (λ a b=>mk (a.mul b)) λ _ _ _ _ h k=>sound (ee.aio h k)⟩
instance:Neg aC:=⟨Quotient.lift (λ a=>mk a.neg) λ _ _ h=>sound (ee.aiN h)⟩
instance:Sub aC:=⟨λ a b=>a + -b⟩
def ofRat (q:Rat):aC:=mk (ee.const q)
instance:NatCast aC:=⟨λ n=>ofRat n⟩
instance:IntCast aC:=⟨λ n=>ofRat n⟩
instance (n:Nat):OfNat aC n:=⟨ofRat n⟩
def same {a b:ee} (h:∀ n,a.f n=b.f n):mk a=mk b:=sound (ee.RN h)
def MR (n:Nat):(OfNat.ofNat n:aC)=ofRat n:=rfl
def npow (a:aC):Nat->aC
 | 0=>1
 | n+1=>npow a n*a
instance:HPow aC Nat aC:=⟨npow⟩
instance:SMul Nat aC:=⟨λ n a=>(n:aC)*a⟩
instance:SMul Int aC:=⟨λ n a=>(n:aC)*a⟩
def ofRat_add (p q:Rat):ofRat p+ofRat q=ofRat (p+q):=same λ _=>rfl
def ofRat_mul (p q:Rat):ofRat p*ofRat q=ofRat (p*q):=same λ _=>rfl
def ofRat_neg (p:Rat) : - ofRat p=ofRat (-p):=same λ _=>rfl
def tE (a b:aC):a*b=b*a:=by
 obtain ⟨a,rfl⟩:=ex a;obtain ⟨b,rfl⟩:=ex b
 exact same λ n=>Rat.mul_comm _ _
def ah5 (a b c:aC):a*b*c=a*(b*c):=by
 obtain ⟨a,rfl⟩:=ex a;obtain ⟨b,rfl⟩:=ex b;obtain ⟨c,rfl⟩:=ex c
 exact same λ n=>Rat.mul_assoc _ _ _
def Mn (a:aC):a*1=a:=by
 obtain ⟨a,rfl⟩:=ex a
 exact same λ n=>Rat.mul_one _
def Mo (a:aC):a*0=0:=by
 obtain ⟨a,rfl⟩:=ex a
 exact same λ n=>Rat.mul_zero _
def Tv (a b c:aC):a*(b+c)=a*b+a*c:=by
 obtain ⟨a,rfl⟩:=ex a;obtain ⟨b,rfl⟩:=ex b;obtain ⟨c,rfl⟩:=ex c
 exact same λ n=>Rat.mul_add _ _ _
def aaw (a b:aC):a+b=b+a:=by
 obtain ⟨a,rfl⟩:=ex a;obtain ⟨b,rfl⟩:=ex b
 exact same λ n=>Rat.add_comm _ _
def aav (a b c:aC):a+b+c=a+(b+c):=by
 obtain ⟨a,rfl⟩:=ex a;obtain ⟨b,rfl⟩:=ex b;obtain ⟨c,rfl⟩:=ex c
 exact same λ n=>Rat.add_assoc _ _ _
def aax (a:aC):a+0=a:=by
 obtain ⟨a,rfl⟩:=ex a
 exact same λ n=>Rat.add_zero _
def aiK (a:aC) : -a+a=0:=by
 obtain ⟨a,rfl⟩:=ex a
 exact same λ n=>by show-a.f n+a.f n=0;grind
def intCast_neg (i:Int):((-i:Int):aC) = - (i:aC):=by
 show ofRat _ = - ofRat _
 rw [ofRat_neg,Rat.intCast_neg]
instance ring:Lean.Grind.CommRing aC where
 nsmul:=inferInstance
 npow:=inferInstance
 zsmul:=inferInstance
 add_zero:=aax
 add_comm:=aaw
 add_assoc:=aav
 mul_assoc:=ah5
 mul_one:=Mn
 one_mul a:=by rw [tE,Mn]
 left_distrib:=Tv
 right_distrib a b c:=by rw [tE,Tv,tE c,tE c]
 zero_mul a:=by rw [tE,Mo]
 mul_zero:=Mo
 pow_zero _:=rfl
 pow_succ _ _:=rfl
 ofNat_succ n:=by
   rw [MR,MR,MR,ofRat_add]
   congr 1
   exact Em _ _
 ofNat_eq_natCast _:=rfl
 nsmul_eq_natCast_mul _ _:=rfl
 neg_add_cancel:=aiK
 sub_eq_add_neg _ _:=rfl
 neg_zsmul i a:=by
   show ((-i:Int):aC)*a = - ((i:aC)*a)
   rw [intCast_neg]
   obtain ⟨a,rfl⟩:=ex a
   exact same λ n=>by show-(i:Rat)*a.f n = -((i:Rat)*a.f n);grind
 zsmul_natCast_eq_nsmul n a:=by
   show ((n:Int):aC)*a=(n:aC)*a
   congr 1
 intCast_ofNat n:=rfl
 intCast_neg:=intCast_neg
 mul_comm:=tE
end Go.aF.aC
namespace Go.aF.ee
def le (a b:ee):Prop:=∀ e:Rat,0<e->∃ N,∀ n,N<=n->a.f n<b.f n+e
def Tx {a a' b d:ee} (h:a ≈ a') (k:b ≈ d) (l:le a b):le a' d := λ e o=>by
 have ⟨N,i⟩:=h (e/3) (by grind)
 have ⟨M,j⟩:=k (e/3) (by grind)
 have ⟨L,g⟩:=l (e/3) (by grind)
 refine ⟨N+M+L, λ n p => ?_⟩
 have h1:=i n
 have q:=j n
 have m:=g n
 grind
def Gi {a b:ee} (h : ¬ le a b):∃ e:Rat,0<e/\∃ N,∀ n,N<=n->b.f n+e<a.f n:=by
 unfold le at h
 simp only [Classical.not_forall,not_exists] at h
 have ⟨e,o,h⟩:=h
 have ⟨N,g⟩:=a.c (e/4) (by grind)
 have ⟨M,j⟩:=b.c (e/4) (by grind)
 have ⟨k,l⟩:=h (N+M)
 have ⟨i,m⟩:=l
 refine ⟨e/4,by grind,N+M, λ n q => ?_⟩
 have h1:=g k n
 have p:=j n k
 grind
def ML {a b:ee} {e:Rat} (g:0<e) {N:Nat} (h:∀ n,N<=n->b.f n+e<a.f n) : ¬ le a b := λ d=>by
 have ⟨M,i⟩:=d e g
 have h1:=i (N+M)
 have j:=h (N+M)
 grind
end Go.aF.ee
namespace Go.aF.aC
def le (x y:aC):Prop:=Quotient.liftOn₂ x y ee.le λ _ _ _ _ h k=>propext ⟨ee.Tx h k,ee.Tx (Zl h) (Zl k)⟩
instance:LE aC:=⟨le⟩
instance:LT aC:=⟨λ x y => ¬ y<=x⟩
def lt_def {x y:aC}:x<y ↔ ¬ y<=x:=Iff.rfl
def total (x y:aC):x<=y \/ y<=x:=by
 obtain ⟨a,rfl⟩:=ex x;obtain ⟨b,rfl⟩:=ex y
 by_cases h:ee.le a b
 exact .inl h
 have ⟨e,g,N,c⟩:=ee.Gi h
 exact .inr λ d hd=>⟨N, λ n f=>by have:=c n f;grind⟩
def trans {x y z:aC} (h:x<=y) (k:y<=z):x<=z:=by
 obtain ⟨a,rfl⟩:=ex x;obtain ⟨b,rfl⟩:=ex y;obtain ⟨c,rfl⟩:=ex z
 intro e i
 have ⟨N,d⟩:=h (e/2) (by grind)
 have ⟨M,f⟩:=k (e/2) (by grind)
 refine ⟨N+M, λ n g => ?_⟩
 have h1:=d n
 have j:=f n
 grind
def aaC {x y:aC} (h:x<=y) (k:y<=x):x=y:=by
 obtain ⟨a,rfl⟩:=ex x;obtain ⟨b,rfl⟩:=ex y
 refine sound λ e c => ?_
 have ⟨N,d⟩:=h e c
 have ⟨M,f⟩:=k e c
 refine ⟨N+M, λ n g => ?_⟩
 have h1:=d n
 have i:=f n
 grind
instance:Std.IsLinearOrder aC where
 le_refl x:=(total x x).elim id id
 le_trans _ _ _:=trans
 le_antisymm _ _:=aaC
 le_total:=total
instance:Std.LawfulOrderLT aC where
 lt_iff x y:=⟨λ h=>⟨(total x y).resolve_right h,h⟩, λ h=>h.2⟩
def Fh (x y z:aC) (h:x<=y):x+z<=y+z:=by
 obtain ⟨a,rfl⟩:=ex x;obtain ⟨b,rfl⟩:=ex y;obtain ⟨c,rfl⟩:=ex z
 intro e g
 have ⟨N,d⟩:=h e g
 exact ⟨N, λ n i=>by have:=d n i;show a.f n+c.f n<b.f n+c.f n+e;grind⟩
def mul_pos {x y:aC} (h:0<x) (k:0<y):0<x*y:=by
 obtain ⟨a,rfl⟩:=ex x;obtain ⟨b,rfl⟩:=ex y
 have ⟨e,c,N,g⟩:=ee.Gi h
 have ⟨d,hd,M,i⟩:=ee.Gi k
 refine ee.ML (e:=e*d) (N:=N+M) (fO c hd) λ n j => ?_
 have h1:(0:Rat)+e<a.f n:=g n (by omega)
 have m:(0:Rat)+d<b.f n:=i n (by omega)
 have o:0<(a.f n-e)*b.f n:=fO (by grind) (by grind)
 have l:0<e*(b.f n-d):=fO c (by grind)
 show (0:Rat)+e*d<a.f n*b.f n
 grind
def sub_pos {x y:aC}:x<y↔0<y-x:=by
 rw [lt_def,lt_def]
 refine not_congr ⟨λ h => ?_, λ h => ?_⟩
 have:=Fh y x (-x) h
 rwa [<- sG, <- sG,show x-x=0 by grind] at this
 have:=Fh (y-x) 0 x h
 rwa [show y-x+x=y by grind,show (0:aC)+x=x by grind] at this
def tI {x y z:aC} (h:x<y) (k:0<z):z*x<z*y:=by
 rw [sub_pos] at h ⊢
 have:=mul_pos k h
 rwa [show z*(y-x)=z*y-z*x by grind] at this
instance:Lean.Grind.OrderedRing aC where
 add_le_left_iff {a b} c:=⟨Fh a b c, λ h=>by
   have:=Fh _ _ (-c) h
   rwa [show a+c + -c=a by grind,show b+c + -c=b by grind] at this⟩
 zero_lt_one:=ee.ML (a:=ee.const 1) (b:=ee.const 0) (e:=1/2) (N:=0) (by grind) λ n _=>by show (0:Rat)+1/2<1;grind
 mul_lt_mul_of_pos_left:=tI
 mul_lt_mul_of_pos_right {a b c} h k:=by
   rw [tE a c,tE b c]
   exact tI h k
def inv_pos {x:aC} (h:0<x):∃ y,x*y=1:=by
 obtain ⟨a,rfl⟩:=ex x
 have ⟨e,g,N,p⟩:=ee.Gi h
 have b:∀ n,N<=n->e<a.f n := λ n o=>by have h1:(0:Rat)+e<a.f n:=p n o;grind
 refine ⟨mk ⟨λ n=>(a.f (n+N))⁻¹, λ d hd => ?_⟩,sound λ d hd => ?_⟩
 have ⟨M,j⟩:=a.c (d*(e*e)) (fO hd (fO g g))
 refine ⟨M, λ m n D o => ?_⟩
 have h1:=b (m+N)
 have r:=b (n+N)
 have s:=j (n+N) (m+N)
 generalize a.f (m+N)=u at *
 generalize a.f (n+N)=v at *
 have q:0<d*((u-e)*v):=fO hd (fO (by grind) (by grind))
 have z:0<d*(e*(v-e)):=fO hd (fO g (by grind))
 have A:v-u<d*(u*v):=by grind
 have hu:=q8 u (by grind)
 have i:=q8 v (by grind)
 have k:0<u⁻¹ * v⁻¹ := fO (sF.2 (by grind)) (sF.2 (by grind))
 generalize u⁻¹ = x at *
 generalize v⁻¹ = y at *
 have l:0<(d*(u*v)-(v-u))*(x*y):=fO (by grind) k
 have e:(d*(u*v)-(v-u))*(x*y)=d*((u*x)*(v*y))-((v*y)*x-(u*x)*y):=by grind
 rw [e,hu,i] at l
 grind
 have ⟨B,w,C⟩:=a.Bw
 have ⟨M,j⟩:=a.c (d*e) (fO hd g)
 refine ⟨M+N, λ n o => ?_⟩
 have h1:=b n
 have r:=b (n+N)
 have s:=j n (n+N)
 have q:=j (n+N) n
 show a.f n*(a.f (n+N))⁻¹ - 1<d/\1-a.f n*(a.f (n+N))⁻¹ < d
 generalize a.f (n+N)=v at *
 generalize a.f n=u at *
 have i:=q8 v (by grind)
 have k:0<v⁻¹ := sF.2 (by grind)
 have z:0<d*(v-e):=fO hd (by grind)
 generalize v⁻¹ = y at *
 have l:0<(d*v-(u-v))*y:=fO (by grind) k
 have t:0<(d*v-(v-u))*y:=fO (by grind) k
 rw [show (d*v-(u-v))*y=d*(v*y)-(u*y-v*y) by grind,i] at l
 rw [show (d*v-(v-u))*y=d*(v*y)-(v*y-u*y) by grind,i] at t
 grind
def wX {x:aC} (h:x≠0):∃ y,x*y=1:=by
 by_cases h1:0<x
 exact inv_pos h1
 have ⟨y,a⟩:=inv_pos (x := -x) (by grind)
 exact ⟨-y,by grind⟩
open Classical in
noncomputable instance:_root_.Inv aC:=⟨fun x=>if h:x=0 then 0 else q7 (wX h)⟩
noncomputable instance:Div aC:=⟨λ x y=>x*y⁻¹⟩
noncomputable def zpow (a:aC):Int->aC
 | .ofNat n=>npow a n
 | .negSucc n=>(npow a (n+1))⁻¹
noncomputable instance:HPow aC Int aC:=⟨zpow⟩
def D8:(0:aC)⁻¹ = 0:=dif_pos rfl
def tH {x:aC} (h:x≠0):x*x⁻¹ = 1:=by
 have e:x⁻¹ = q7 (wX h):=dif_neg h
 rw [e]
 exact oi (wX h)
def zero_ne_one:(0:aC)≠1 := λ h=>by
 have:(0:aC)<1:=aqy
 rw [<- h] at this
 grind
def inv_inv (x:aC):x⁻¹⁻¹ = x:=by
 by_cases h:x=0
 rw [h,D8,D8]
 have h1:=tH h
 have a:x⁻¹ ≠ 0 := λ e=>by rw [e,Mo] at h1;exact zero_ne_one h1
 have b:=tH a
 generalize x⁻¹ = y at *
 generalize y⁻¹ = z at *
 grind
noncomputable instance:Lean.Grind.Field aC where
 zpow:=inferInstance
 div_eq_mul_inv _ _:=rfl
 zero_ne_one:=zero_ne_one
 inv_zero:=D8
 mul_inv_cancel:=tH
 zpow_zero _:=rfl
 zpow_succ _ _:=rfl
 zpow_neg a n:=by
   cases n with
   | ofNat n =>
     cases n with
     | zero =>
       show npow a 0=(npow a 0)⁻¹
       have:=tH (x:=1) (λ h=>zero_ne_one h.symm)
       rw [tE,Mn] at this
       exact this.symm
     | succ n=>rfl
   | negSucc n=>exact (inv_inv _).symm
def Hz {p q:Rat} (h:p<q):ofRat p<ofRat q:=ee.ML (a:=ee.const q) (b:=ee.const p) (e:=(q-p)/2) (N:=0) (by grind) λ n _=>by show p+(q-p)/2<q;grind
def Hy {p q:Rat} (h:ofRat p=ofRat q):p=q:=by
 by_cases h1:p<q
 have:=Hz h1;rw [h] at this;grind
 by_cases a:q<p
 have:=Hz a;rw [h] at this;grind
 grind
def aiM (q d:Rat) (H:0<=q) (hd:0<d):∃ r:Rat,0<=r/\r*r<=q/\q<r*r+d:=by
 have ⟨t,a,B,y⟩:∃ t:Rat,0<t/\t<=1/\t*(2*(q+1)+1)<=d:=by
   by_cases h:(2*(q+1)+1)<=d
   exact ⟨1,by decide,by grind,by grind⟩
   have p:0<(2*(q+1)+1):=by grind
   have g:=q8 (2*(q+1)+1) (by grind)
   have c:=sF.2 p
   generalize (2*(q+1)+1)=s at *
   generalize s⁻¹ = i at *
   have h1:0<(s-d)*i:=fO (by grind) c
   exact ⟨d*i,fO hd c,by grind,by rw [show d*i*s=d*(s*i) by grind,g];grind⟩
 have f:∃ k:Nat,q<(k*t)*(k*t):=by
   have g:=q8 (t*t) (by have:=fO a a;grind)
   have c:=sF.2 (fO a a)
   have x:=Zm (q*(t*t)⁻¹)
   generalize J:(q*(t*t)⁻¹).floor+1=n at x
   generalize (t*t)⁻¹ = i at *
   have I:0<=q*i:=by
     by_cases h:q=0
     rw [h];grind
     have:=fO (show 0<q by grind) c;grind
   have F:(0:Rat)<n:=by grind
   have E:0<n:=by
     by_cases h:0<n
     exact h
     have:(n:Rat)<=((0:Int):Rat):=sH.2 (by omega)
     have o:((0:Int):Rat)=0:=rfl
     grind
   refine ⟨n.toNat, ?_⟩
   have e:((n.toNat:Nat):Rat)=(n:Rat):=by
     have:((n.toNat:Nat):Int)=n:=by omega
     rw [<- this];rfl
   rw [e]
   have h1:(1:Rat)<=n:=by
     have:((1:Int):Rat)<=(n:Rat):=sH.2 (by omega)
     exact this
   have l:0<=((n:Rat)-1)*n:=jM (by grind) (by grind)
   have u:0<((n:Rat)-q*i)*(t*t):=fO (by grind) (fO a a)
   have v:0<=(((n:Rat)-1)*n)*(t*t):=jM l (by have:=fO a a;grind)
   have G:((n:Rat)-q*i)*(t*t)=n*(t*t)-q*((t*t)*i):=by grind
   rw [g] at G
   grind
 have ⟨k,m⟩:=f
 have b:∀ k:Nat,q<(k*t)*(k*t)->∃ j:Nat,(j*t)*(j*t)<=q/\q<((j+1:Nat)*t)*((j+1:Nat)*t):=by
   intro k
   induction k with
   | zero=>intro h;have o:((0:Nat):Rat)=0:=rfl;rw [o] at h;grind
   | succ k w =>
     intro h
     by_cases h1:q<(k*t)*(k*t)
     exact w h1
     exact ⟨k,by grind,h⟩
 have ⟨j,h1,l⟩:=b k m
 have z:((j+1:Nat):Rat)=j+1:=Em _ _
 rw [z,show ((j:Rat)+1)*t=j*t+t by grind] at l
 have D:(0:Rat)<=j:=Zo
 have C:0<=(j:Rat)*t:=jM D (by grind)
 refine ⟨j*t,C,h1, ?_⟩
 generalize (j:Rat)*t=r at *
 have A:r<=q+1:=by
   by_cases h:r<=q+1
   exact h
   have:=fO (show 0<r-1 by grind) (show 0<r by grind)
   grind
 have u:0<=t*(q+1-r):=jM (by grind) (by grind)
 have v:0<=t*(1-t):=jM (by grind) (by grind)
 clear b m
 grind
def NH {x:aC} (h:0<=x):∃ y,0<=y/\y*y=x:=by
 obtain ⟨a,rfl⟩:=ex x
 have q:∀ n:Nat,∃ r:Rat,0<=r/\r*r<=max (a.f n) 0/\max (a.f n) 0<r*r+1/((n:Rat)+1) := λ n =>
   aiM _ _ (by grind) (by
     have:(0:Rat)<=n:=Zo
     rw [JD];exact fO (by decide) (sF.2 (by grind)))
 let b (n:Nat):=q7 (q n)
 have hb:∀ n,0<=b n/\b n*b n<=max (a.f n) 0/\max (a.f n) 0<b n*b n+1/((n:Rat)+1) := λ n=>oi (q n)
 have o:∀ e:Rat,0<e->∃ N:Nat,∀ n,N<=n->1/((n:Rat)+1)<e := λ e g=>by
   have w:=q8 e (by grind)
   have L:=sF.2 g
   have H:=Zm e⁻¹
   refine ⟨(e⁻¹.floor+1).toNat, λ n B => ?_⟩
   have h1:((e⁻¹.floor+1:Int):Rat)<=((n:Int):Rat):=sH.2 (by omega)
   have E:((n:Int):Rat)=n:=rfl
   rw [E] at h1
   generalize (n:Rat)=k at *
   generalize e⁻¹ = i at *
   have D:=q8 (k+1) (by grind)
   have A:=sF.2 (show 0<k+1 by grind)
   rw [JD]
   generalize (k+1)⁻¹ = j at *
   have C:0<(k+1-i)*(e*j):=fO (by grind) (fO g A)
   have t:(k+1-i)*(e*j)=e*((k+1)*j)-(e*i)*j:=by grind
   rw [D,w] at t
   grind
 have p:∀ e:Rat,0<e->∃ N:Nat,∀ m n,N<=m->N<=n->b m-b n<e := λ e g=>by
   have ⟨N,s⟩:=a.c (e*e/2) (by have:=fO g g;grind)
   have ⟨M,z⟩:=o (e*e/2) (by have:=fO g g;grind)
   refine ⟨N+M, λ m n I B => ?_⟩
   have h1:=s m n (by omega) (by omega)
   have C:=z n
   have t:=hb m
   have F:=hb n
   generalize b m=u at *
   generalize b n=v at *
   generalize 1/((n:Rat)+1)=k at *
   generalize 1/((m:Rat)+1)=l at *
   by_cases w:u-v<e
   exact w
   have G:0<=(u-v-e)*(u-v+e):=jM (by grind) (by grind)
   have J:0<=v*(u-v):=jM F.1 (by grind)
   have K:max (a.f m) 0<=max (a.f n) 0+e*e/2:=by have:=fO g g;grind
   grind
 refine ⟨mk ⟨b,p⟩, λ e g=>⟨0, λ n _=>by show (0:Rat)<b n+e;have:=(hb n).1;grind⟩,sound λ e g => ?_⟩
 have ⟨N,s⟩:=h e g
 have ⟨M,z⟩:=o e g
 refine ⟨N+M, λ n B => ?_⟩
 have h1:(0:Rat)<a.f n+e:=s n (by omega)
 have C:=z n
 have t:=hb n
 show b n*b n-a.f n<e/\a.f n-b n*b n<e
 grind
noncomputable def rt (x:aC):aC:=open Classical in if h:0<=x then q7 (NH h) else 0
def Nq (x:aC):0<=rt x:=by
 unfold rt
 split
 rename_i h;exact (oi (NH h)).1
 grind
def sc {x:aC} (h:0<=x):rt x*rt x=x:=by
 unfold rt
 rw [dif_pos h]
 exact (oi (NH h)).2
def am9 {x y:aC} (c:0<=x) (d:0<=y) (h:x*x=y*y):x=y:=by
 by_cases e:x=y
 exact e
 have h1:(x-y)*(x+y)=0:=by grind
 have f:x+y=0:=by
   have:=Zp (a:=x-y) (by grind)
   generalize (x-y)⁻¹ = i at *
   grind
 grind
def rt_eq {x y:aC} (b:0<=y) (h:y*y=x):rt x=y:=by
 have a:0<=x:=by
   rw [<- h]
   by_cases e:y=0
   rw [e];grind
   have:=mul_pos (x:=y) (y:=y) (by grind) (by grind);grind
 exact am9 (Nq x) b (by rw [sc a,h])
def V0 {x:aC} (h:0<x):0<rt x:=by
 have h1:=Nq x
 have a:=sc (x:=x) (by grind)
 by_cases e:rt x=0
 rw [e] at a;grind
 grind
end Go.aF.aC
namespace Go.aF
def ah:Nat->Type
 | 0=>Rat
 | h+1=>ah h × ah h
def aE:Nat->Type
 | 0=>Unit
 | h+1=>aE h × ah h
def ah.rat:(h:Nat)->Rat->ah h
 | 0,q=>q
 | h+1,q=>(ah.rat h q,ah.rat h 0)
def ah.add:{h:Nat}->ah h->ah h->ah h
 | 0,a,b=>Rat.add a b
 | _+1,a,b=>(ah.add a.1 b.1,ah.add a.2 b.2)
def ah.neg:{h:Nat}->ah h->ah h
 | 0,a=>Rat.neg a
 | _+1,a=>(ah.neg a.1,ah.neg a.2)
def ah.mul:{h:Nat}->aE h->ah h->ah h->ah h
 | 0,_,a,b=>Rat.mul a b
 | _+1,t,a,b=>(ah.add (ah.mul t.1 a.1 b.1) (ah.mul t.1 (ah.mul t.1 a.2 b.2) t.2),ah.add (ah.mul t.1 a.1 b.2) (ah.mul t.1 a.2 b.1))
def ah.norm {h:Nat} (t:aE (h+1)) (a:ah (h+1)):ah h:=ah.add (ah.mul t.1 a.1 a.1) (ah.neg (ah.mul t.1 (ah.mul t.1 a.2 a.2) t.2))
def ah.inv:{h:Nat}->aE h->ah h->ah h
 | 0,_,a=>Rat.inv a
 | _+1,t,a=>(ah.mul t.1 a.1 (ah.inv t.1 (ah.norm t a)),ah.neg (ah.mul t.1 a.2 (ah.inv t.1 (ah.norm t a))))
noncomputable def ah.val:{h:Nat}->aE h->ah h->aC
 | 0,_,a=>aC.ofRat a
 | _+1,t,a=>ah.val t.1 a.1+ah.val t.1 a.2*aC.rt (ah.val t.1 t.2)
def aE.Pos:{h:Nat}->aE h->Prop
 | 0,_=>True
 | _+1,t=>t.1.Pos/\0<ah.val t.1 t.2
def aE.bK:{h:Nat}->aE h->Prop
 | 0,_=>True
 | _+1,t=>t.1.bK/\0<ah.val t.1 t.2/\∀ w,ah.val t.1 w*ah.val t.1 w≠ah.val t.1 t.2
def aE.bK.pos:∀ {h:Nat} {t:aE h},t.bK->t.Pos
 | 0,_,_=>trivial
 | _+1,_,h=>⟨h.1.pos,h.2.1⟩
def ai7:aC.ofRat 0=0:=rfl
def CW:aC.ofRat 1=1:=rfl
def S7 (a:Rat) (h:aC.ofRat a≠0):aC.ofRat a*aC.ofRat a⁻¹ = 1:=by
 rw [aC.ofRat_mul,q8 a (λ e=>h (by rw [e];rfl)),CW]
def ano (a b:Rat) (e:a + -b=0):a=b:=by grind
end Go.aF
namespace Go.aF.ah
def tT:∀ {h:Nat} (t:aE h) (q:Rat),val t (rat h q)=aC.ofRat q
 | 0,_,_=>rfl
 | h+1,t,q=>by
   show val t.1 (rat h q)+val t.1 (rat h 0)*_=_
   rw [tT,tT,ai7];grind
def val_add:∀ {h:Nat} (t:aE h) (a b:ah h),val t (add a b)=val t a+val t b
 | 0,_,a,b=>(aC.ofRat_add a b).symm
 | h+1,t,a,b=>by
   show val t.1 (add a.1 b.1)+val t.1 (add a.2 b.2)*_=(val t.1 a.1+val t.1 a.2*_)+(val t.1 b.1+val t.1 b.2*_)
   rw [val_add,val_add];grind
def val_neg:∀ {h:Nat} (t:aE h) (a:ah h),val t (neg a) = - val t a
 | 0,_,a=>(aC.ofRat_neg a).symm
 | h+1,t,a=>by
   show val t.1 (neg a.1)+val t.1 (neg a.2)*_ = -(val t.1 a.1+val t.1 a.2*_)
   rw [val_neg,val_neg];grind
def val_mul:∀ {h:Nat} {t:aE h},t.Pos->∀ a b:ah h,val t (mul t a b)=val t a*val t b
 | 0,_,_,a,b=>(aC.ofRat_mul a b).symm
 | h+1,t,c,a,b=>by
   have d:=aC.sc (x:=val t.1 t.2) (by have:=c.2;grind)
   show val t.1 (add (mul t.1 a.1 b.1) (mul t.1 (mul t.1 a.2 b.2) t.2))+val t.1 (add (mul t.1 a.1 b.2) (mul t.1 a.2 b.1))*_=(val t.1 a.1+val t.1 a.2*_)*(val t.1 b.1+val t.1 b.2*_)
   rw [val_add,val_add,val_mul c.1,val_mul c.1,val_mul c.1,val_mul c.1,val_mul c.1]
   generalize aC.rt (val t.1 t.2)=s at *
   rw [<- d];grind
def qO {h:Nat} {t:aE (h+1)} (b:t.1.Pos) (a:ah (h+1)):val t.1 (norm t a)=val t.1 a.1*val t.1 a.1-val t.1 a.2*val t.1 a.2*val t.1 t.2:=by
 unfold norm
 rw [val_add,val_neg,val_mul b,val_mul b,val_mul b];grind
def val_zero {h:Nat} (t:aE h):val t (rat h 0)=0:=tT t 0
def red:∀ {h:Nat} {t:aE h},t.bK->(∀ a:ah h,val t a=0->a=rat h 0)/\∀ a:ah h,val t a≠0->val t a*val t (inv t a)=1
 | 0,_,_=>⟨λ a h=>aC.Hy h, λ a h=>S7 a h⟩
 | h + 1,t,b=>by
   have ⟨k,g⟩:=red b.1
   have n:=aC.sc (x:=val t.1 t.2) (by have:=b.2.1;grind)
   have A:=aC.V0 b.2.1
   have j:∀ x y:ah h,val t.1 y≠0->val t.1 x*val t.1 x≠val t.1 y*val t.1 y*val t.1 t.2 := λ x y c e=>by
     have l:=g y c
     refine b.2.2 (mul t.1 x (inv t.1 y)) ?_
     rw [val_mul b.1.pos]
     generalize val t.1 x=u at *
     generalize val t.1 y=v at *
     generalize val t.1 (inv t.1 y)=i at *
     generalize val t.1 t.2=r at *
     grind
   have m:∀ a:ah (h+1),val t a=val t.1 a.1+val t.1 a.2*aC.rt (val t.1 t.2) := λ _=>rfl
   have p:∀ a:ah (h+1),val t a=0->val t.1 a.1=0/\val t.1 a.2=0 := λ a f=>by
     rw [m] at f
     by_cases c:val t.1 a.2=0
     rw [c] at f;exact ⟨by grind,c⟩
     have:=j a.1 a.2 c
     generalize aC.rt (val t.1 t.2)=s at *
     exfalso;apply this;rw [<- n];grind
   refine ⟨λ a f => ?_, λ a f => ?_⟩
   have ⟨h1,q⟩:=p a f
   exact Prod.ext (k _ h1) (k _ q)
   have w:val t.1 (norm t a)≠0:=by
     rw [qO b.1.pos]
     intro e
     by_cases c:val t.1 a.2=0
     rw [c] at e
     have z:val t.1 a.1*val t.1 a.1=0:=by grind
     have d:val t.1 a.1=0:=by
       have:=Zp (a:=val t.1 a.1)
       generalize (val t.1 a.1)⁻¹ = i at *
       by_cases d:val t.1 a.1=0
       exact d
       have:=this d;grind
     exact f (by rw [m,c,d];grind)
     exact j a.1 a.2 c (by grind)
   have l:=g _ w
   have e:val t (inv t a)=val t.1 (mul t.1 a.1 (inv t.1 (norm t a)))+val t.1 (neg (mul t.1 a.2 (inv t.1 (norm t a))))*aC.rt (val t.1 t.2):=rfl
   rw [e,m,val_neg,val_mul b.1.pos,val_mul b.1.pos]
   rw [qO b.1.pos] at l
   generalize val t.1 (inv t.1 (norm t a))=i at *
   generalize aC.rt (val t.1 t.2)=s at *
   rw [<- n] at l
   grind
def inj {h:Nat} {t:aE h} (d:t.bK) {a b:ah h} (e:val t a=val t b):a=b:=by
 have key:∀ {h:Nat} (a b:ah h),add a (neg b)=rat h 0->a=b:=by
   intro h
   induction h with
   | zero=>intro a b e;exact ano a b e
   | succ h c=>intro a b e;exact Prod.ext (c _ _ (congrArg Prod.fst e)) (c _ _ (congrArg Prod.snd e))
 exact key a b ((red d).1 _ (by rw [val_add,val_neg,e];grind))
def I3 {h:Nat} {t:aE h} (c:t.bK) {a:ah h} (b:val t a≠0):val t (inv t a)=(val t a)⁻¹ := by
 have h1:=(red c).2 a b
 have d:=aC.tH b
 generalize (val t a)⁻¹ = i at *
 generalize val t (inv t a)=j at *
 grind
def mF:{h:Nat}->aE h->ah h->Int
 | 0,_,a=>(Rat.num a).sign
 | _+1,t,a=>if mF t.1 a.2=0 \/ mF t.1 a.1=mF t.1 a.2 then mF t.1 a.1 else if mF t.1 a.1=0 then mF t.1 a.2 else mF t.1 a.1*mF t.1 (norm t a)
end Go.aF.ah
namespace Go.aF
noncomputable def aC.ep (x:aC):Int:=open Classical in if 0<x then 1 else if x=0 then 0 else -1
end Go.aF
namespace Go.aF.aC
def qK {x:aC}:ep x=1↔0<x:=by
 unfold ep
 split
 simp_all
 split<;>simp_all
def Ds {x:aC}:ep x=0↔x=0:=by
 unfold ep
 split
 rename_i h;constructor
 intro e;cases e
 intro e;rw [e] at h;grind
 split<;>simp_all
def qJ {x:aC}:ep x = -1↔x<0:=by
 unfold ep
 split
 rename_i h;constructor
 intro e;cases e
 intro e;grind
 rename_i h
 split
 rename_i h1;rw [h1];constructor
 intro e;cases e
 intro e;grind
 constructor
 intro _;grind
 intro _;rfl
def xF (x:aC):ep x=1/\0<x \/ ep x=0/\x=0 \/ ep x = -1/\x<0:=by
 by_cases h1:0<x
 exact .inl ⟨qK.2 h1,h1⟩
 by_cases a:x=0
 exact .inr (.inl ⟨Ds.2 a,a⟩)
 exact .inr (.inr ⟨qJ.2 (by grind),by grind⟩)
def amD (q:Rat):ep (ofRat q)=q.num.sign:=by
 rcases Int.lt_trichotomy q.num 0 with h | h | h
 rw [x6 h]
 exact qJ.2 (Hz (by have := @En q;grind))
 rw [h]
 exact Ds.2 (by rw [oh.1 h];rfl)
 rw [og h]
 exact qK.2 (Hz (by have := @En q;have := @oh q;grind))
end Go.aF.aC
namespace Go.aF
def ah.Io:∀ {h:Nat} {t:aE h},t.Pos->∀ a:ah h,mF t a=aC.ep (val t a)
 | 0,_,_,a=>(aC.amD a).symm
 | h+1,t,g,a=>by
   have n:=aC.sc (x:=val t.1 t.2) (by have:=g.2;grind)
   have q:=aC.V0 g.2
   have o:val t a=val t.1 a.1+val t.1 a.2*aC.rt (val t.1 t.2):=rfl
   have m:=qO (t:=t) g.1 a
   unfold mF
   rw [Io g.1,Io g.1,Io g.1,m,o]
   generalize aC.rt (val t.1 t.2)=s at *
   rw [<- n]
   generalize val t.1 a.1=x at *
   generalize val t.1 a.2=y at *
   have c:∀ {z:aC},0<z->0<z*s := λ h=>aC.mul_pos h q
   have l:(x*x-y*y*(s*s))=(x-y*s)*(x+y*s):=by grind
   rcases aC.xF x with ⟨j,h1⟩ | ⟨j,h1⟩ | ⟨j,h1⟩<;>rcases aC.xF y with ⟨k,d⟩ | ⟨k,d⟩ | ⟨k,d⟩<;>rw [j,k]
   rw [if_pos (.inr rfl)];exact (aC.qK.2 (by have:=c d;grind)).symm
   rw [if_pos (.inl rfl),d];exact (aC.qK.2 (by grind)).symm
   rw [if_neg (by decide),if_neg (by decide),l]
   have i:0<x-y*s:=by have:=c (z := -y) (by grind);grind
   rcases aC.xF (x+y*s) with ⟨e,h⟩ | ⟨e,h⟩ | ⟨e,h⟩
   rw [e,aC.qK.2 (aC.mul_pos i h)];rfl
   rw [e,h,aC.Ds.2 (by grind)];rfl
   rw [e,aC.qJ.2 (by have:=aC.mul_pos i (show 0 < -(x+y*s) by grind);grind)];rfl
   rw [if_neg (by decide),if_pos rfl,h1];exact (aC.qK.2 (by have:=c d;grind)).symm
   rw [if_pos (.inl rfl),h1,d];exact (aC.Ds.2 (by grind)).symm
   rw [if_neg (by decide),if_pos rfl,h1];exact (aC.qJ.2 (by have:=c (z := -y) (by grind);grind)).symm
   rw [if_neg (by decide),if_neg (by decide),l]
   have i:0 < -(x-y*s):=by have:=c d;grind
   rcases aC.xF (x+y*s) with ⟨e,h⟩ | ⟨e,h⟩ | ⟨e,h⟩
   rw [e,aC.qJ.2 (by have:=aC.mul_pos i h;grind)];rfl
   rw [e,h,aC.Ds.2 (by grind)];rfl
   rw [e,aC.qK.2 (by have:=aC.mul_pos i (show 0 < -(x+y*s) by grind);grind)];rfl
   rw [if_pos (.inl rfl),d];exact (aC.qJ.2 (by grind)).symm
   rw [if_pos (.inr rfl)];exact (aC.qJ.2 (by have:=c (z := -y) (by grind);grind)).symm
def aC.vl {x y:aC} (h:x*y=0):x=0 \/ y=0:=by
 by_cases a:x=0
 exact .inl a
 have:=aC.tH a
 generalize x⁻¹ = i at *
 exact .inr (by grind)
def aC.NG {x y:aC} (h:x*x=y*y):x=y \/ x = -y:=by
 have h1:(x-y)*(x+y)=0:=by grind
 rcases aC.vl h1 with e | e
 exact .inl (by grind)
 exact .inr (by grind)
end Go.aF
namespace Go.aF.ah
def qh {h:Nat} (t:aE h) (a:ah h):Prop:=∃ w,val t w*val t w=val t a
section
variable {h:Nat} {t:aE (h+1)}
def halves (i:t.bK) {x y u v:aC} (f:∃ a,val t.1 a=x) (j:∃ a,val t.1 a=y) (hu:∃ a,val t.1 a=u) (g:∃ a,val t.1 a=v) (e:x+y*aC.rt (val t.1 t.2)=u+v*aC.rt (val t.1 t.2)):x=u/\y=v:=by
 obtain ⟨a,rfl⟩:=f;obtain ⟨b,rfl⟩:=j;obtain ⟨c,rfl⟩:=hu;obtain ⟨d,rfl⟩:=g
 have:=inj i (a:=((a,b):ah (h+1))) (b:=((c,d):ah (h+1))) e
 exact ⟨congrArg (val t.1) (congrArg Prod.fst this),congrArg (val t.1) (congrArg Prod.snd this)⟩
def Dv (c:t.bK) {a w:ah (h+1)} (e:val t w*val t w=val t a) :
   val t.1 w.1*val t.1 w.1+val t.1 w.2*val t.1 w.2*val t.1 t.2=val t.1 a.1/\2*(val t.1 w.1*val t.1 w.2)=val t.1 a.2:=by
 have d:=aC.sc (x:=val t.1 t.2) (by have:=c.2.1;grind)
 have b:=c.1.pos
 refine halves c ⟨add (mul t.1 w.1 w.1) (mul t.1 (mul t.1 w.2 w.2) t.2),by rw [val_add,val_mul b,val_mul b,val_mul b]⟩ ⟨add (mul t.1 w.1 w.2) (mul t.1 w.1 w.2),by rw [val_add,val_mul b];grind⟩ ⟨_,rfl⟩ ⟨_,rfl⟩ ?_
 have f:(val t.1 w.1+val t.1 w.2*aC.rt (val t.1 t.2))*(val t.1 w.1+val t.1 w.2*aC.rt (val t.1 t.2))=val t.1 a.1+val t.1 a.2*aC.rt (val t.1 t.2):=e
 rw [<- f]
 generalize aC.rt (val t.1 t.2)=s at *
 rw [<- d];grind
def WI (b:t.bK) {a:ah (h+1)} (g:val t.1 a.2=0) (h1 : ¬ qh t.1 a.1) (d : ¬ qh t.1 (mul t.1 a.1 (inv t.1 t.2))) : ¬ qh t a := λ ⟨w,f⟩=>by
 have ⟨p,q⟩:=Dv b f
 have c:val t.1 t.2≠0:=by have:=b.2.1;grind
 have j:=(red b.1).2 _ c
 rw [g] at q
 rcases aC.vl (x:=val t.1 w.1) (y:=val t.1 w.2) (by grind) with e | e
 refine d ⟨w.2, ?_⟩
 rw [val_mul b.1.pos]
 rw [e] at p
 generalize val t.1 (inv t.1 t.2)=i at *
 generalize val t.1 t.2=r at *
 rw [<- p];grind
 exact h1 ⟨w.1,by rw [e] at p;grind⟩
def WK (b:t.bK) {a:ah (h+1)} (j:val t.1 a.2=0) {w:ah h} (d:val t.1 w*val t.1 w=val t.1 (mul t.1 a.1 (inv t.1 t.2))):val t ((rat h 0,w):ah (h+1))*val t ((rat h 0,w):ah (h+1))=val t a:=by
 have c:val t.1 t.2≠0:=by have:=b.2.1;grind
 have g:=(red b.1).2 _ c
 have f:=aC.sc (x:=val t.1 t.2) (by have:=b.2.1;grind)
 rw [val_mul b.1.pos] at d
 show (val t.1 (rat h 0)+val t.1 w*aC.rt (val t.1 t.2))*(val t.1 (rat h 0)+val t.1 w*aC.rt (val t.1 t.2))=val t.1 a.1+val t.1 a.2*aC.rt (val t.1 t.2)
 rw [val_zero,j]
 generalize aC.rt (val t.1 t.2)=s at *
 generalize val t.1 (inv t.1 t.2)=i at *
 generalize val t.1 t.2=r at *
 generalize val t.1 w=x at *
 have e:x*x*(s*s)=val t.1 a.1*(r*i):=by rw [f,d];grind
 rw [g] at e
 grind
def WJ {a:ah (h+1)} (b:val t.1 a.2=0) {w:ah h} (c:val t.1 w*val t.1 w=val t.1 a.1):val t ((w,rat h 0):ah (h+1))*val t ((w,rat h 0):ah (h+1))=val t a:=by
 show (val t.1 w+val t.1 (rat h 0)*_)*(val t.1 w+val t.1 (rat h 0)*_)=val t.1 a.1+val t.1 a.2*aC.rt (val t.1 t.2)
 rw [val_zero,b];grind
def WL (c:t.bK) {a:ah (h+1)} (d:qh t a):qh t.1 (norm t a):=by
 have ⟨w,e⟩:=d
 have ⟨p,q⟩:=Dv c e
 have b:=c.1.pos
 refine ⟨add (mul t.1 w.1 w.1) (neg (mul t.1 (mul t.1 w.2 w.2) t.2)), ?_⟩
 rw [qO b,val_add,val_neg,val_mul b,val_mul b,val_mul b, <- p, <- q];grind
def Ut (c:t.bK) {a:ah (h+1)} (g:val t.1 a.2≠0) {n:aC} (d:n*n=val t.1 (norm t a)):val t.1 a.1+n≠0 := λ e=>by
 rw [qO c.1.pos] at d
 have:n = - val t.1 a.1:=by grind
 rw [this] at d
 have i:val t.1 a.2*(val t.1 a.2*val t.1 t.2)=0:=by grind
 rcases aC.vl i with b | b
 exact g b
 rcases aC.vl b with f | f
 exact g f
 have:=c.2.1;grind
def WG (b:t.bK) {a:ah (h+1)} (i:qh t a) {n:aC} (f:n*n=val t.1 (norm t a)) {c d:ah h} (g:val t.1 c=(val t.1 a.1+n)/2) (hd:val t.1 d=(val t.1 a.1-n)/2):qh t.1 c \/ qh t.1 d:=by
 have ⟨w,j⟩:=i
 have ⟨p,q⟩:=Dv b j
 rw [qO b.1.pos] at f
 have h1:n*n=(val t.1 w.1*val t.1 w.1-val t.1 w.2*val t.1 w.2*val t.1 t.2)*(val t.1 w.1*val t.1 w.1-val t.1 w.2*val t.1 w.2*val t.1 t.2):=by rw [f, <- p, <- q];grind
 rcases aC.NG h1 with e | e
 exact .inl ⟨w.1,by rw [g,e, <- p];grind⟩
 exact .inr ⟨w.1,by rw [hd,e, <- p];grind⟩
def ana (d:t.bK) {a:ah (h+1)} (i:val t.1 a.2≠0) {n:aC} (c:n*n=val t.1 (norm t a)) {w v:ah h} (j:val t.1 w*val t.1 w=(val t.1 a.1+n)/2) (e:val t.1 v*(2*val t.1 w)=val t.1 a.2) :
   val t ((w,v):ah (h+1))*val t ((w,v):ah (h+1))=val t a:=by
 have f:=aC.sc (x:=val t.1 t.2) (by have:=d.2.1;grind)
 have b:=Ut d i c
 rw [qO d.1.pos] at c
 show (val t.1 w+val t.1 v*aC.rt (val t.1 t.2))*(val t.1 w+val t.1 v*aC.rt (val t.1 t.2))=val t.1 a.1+val t.1 a.2*aC.rt (val t.1 t.2)
 generalize aC.rt (val t.1 t.2)=s at *
 generalize val t.1 t.2=r at *
 generalize val t.1 w=x at *
 generalize val t.1 v=y at *
 generalize val t.1 a.1=u at *
 generalize val t.1 a.2=z at *
 subst e
 have k:(u+n)*(x*x+y*y*r-u)=0:=by
   have l:u+n=2*(x*x):=by grind
   have g:n=2*(x*x)-u:=by grind
   rw [g] at c
   grind
 rcases aC.vl k with k | k
 exact absurd k b
 have:(x+y*s)*(x+y*s)=x*x+y*y*(s*s)+y*(2*x)*s:=by grind
 rw [this,f];grind
end
end Go.aF.ah
