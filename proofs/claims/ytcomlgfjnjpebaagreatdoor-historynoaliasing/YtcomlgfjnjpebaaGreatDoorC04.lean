/- For the claim of HistoryNoAliasing: parts VL29, VL38, VL39, VL40, HHV, GA, CLex, CB, GI, WN, CI1, CI2, CI3, CI4. -/
import Derived.Test.YtcomlgfjnjpebaaGreatDoorC03
import Derived.KernelRfl
import Derived.Test.YtcomlgfjnjpebaaGreatDoorProg
import Derived.Laws.Bits64
set_option linter.unusedSimpArgs false
set_option linter.unusedVariables false
set_option maxRecDepth 100000
namespace Go.VL
section
variable {P:Program} {G:Nat->Option (List AV)}
theorem nZ {σ : aa}:∀ (a b:List (Id × Option a8)), σ.app (a++b)=(σ.app a).app b:=by
 intro a
 induction a generalizing σ with
 | nil=>intro b;rfl
 | cons x a ih=>intro b;simp only [List.cons_append,aa.app];exact ih b
theorem aq.xv {f:FuncId} {args eD:List AV} {p:Id} {S:List (Id × a8)} {r:eB} (F:List (Id × a8)) (h:aq P G f eD p S r) (hv:dU F args eD)
   (hd:∀ x∈S,∀ y∈F,y.1≠x.1) (hk:∀ x∈F,∀ e∈x.2.els,e.size=x.2.k):aq P G f args p (F++S) { val:=r.val,rd:=F.map (·.1)++r.rd,up:=nX F++r.up }:=by
 refine ⟨h.1,fun own E w σ vs hS hi hr hμ => ?_⟩
 have hF:∀ x∈F, σ x.1=some x.2:=fun x hx=>hS x (List.mem_append_left _ hx)
 have hS2:∀ x∈S, σ x.1=some x.2:=fun x hx=>hS x (List.mem_append_right _ hx)
 have sP:=fun i=>uA (σ := σ) i F σ hF
 obtain ⟨ha,TF⟩:=mM (p:=p) (σ' := σ.app (nX F)) F hF (fun i=>by
   rw [sP i]
   split
   . rename_i pc
     obtain ⟨x,hx,rfl⟩:=pc
     rw [hF x hx]
     exact .inr ⟨x.2,x.2.fz,rfl,rfl,rfl, .inr ⟨rfl,hx⟩,fun h=>by simp [a8.fz] at h,rfl,hk x hx,dU.same F _⟩
   . rename_i FN
     cases hb : σ i with
     | none=>exact .inl rfl
     | some bk =>
       obtain ⟨g,N,cur,ty,hB⟩:=hi.blk i bk hb
       exact .inr ⟨bk,bk,rfl,rfl,rfl, .inl rfl,fun _ x hx e=>FN ⟨x,hx,e⟩,rfl,hB.k,dU.same F _⟩) hi
 have vS:=hv.tw (hi.sub (aa.mf hF)) hr
 refine (h.2 own _ w (σ.app (nX F)) vs (fun x hx => ?_) TF vS hμ).mono fun e w' he => ?_
 . rw [sP x.1,if_neg]
   . exact hS2 x hx
   . rintro ⟨y,hy,e⟩;exact hd x hx y hy e
 . obtain ⟨v,E',rfl,hp⟩:=he
   exact ⟨v,E',rfl,ha.toAdv.trans hp.yG,by rw [nZ];exact hp.inv,hp.rep,hp.ids⟩
end
theorem dM {σ : aa} {k:Nat} {es:List AV}:dB σ k (.sl k es)=some (es,[]):=by simp [dB]
theorem dY {σ : aa} {k:Nat} {id:Id} {off len:Nat} {t:Bool} {bk:a8} (h : σ id=some bk) (hk:bk.k=k) (hl:off+len<=bk.els.length):dB σ k (.osl id k off len t)=some ((bk.els.drop off).take len,[id]):=by
 simp [dB,h,hk,hl]
theorem jf {σ : aa} {p id:Id} {k bytes len:Nat} {x:AV} {els ys:List AV} {rd:List Id} (hx:dB σ k x=some (ys,rd)) (hy:ys≠[]) (h : σ id=some ⟨els,k,false⟩) (hl:len=els.length)
   (hb:(len+ys.length)*bytes<=140737488355328) (hm:len+ys.length<=maxLen) (h1:(ys.all fun e=>e.cells.all AV.one)=true) (h2:(els.all fun e=>e.cells.all AV.one)=true) :
   bQ σ p k bytes (.osl id k 0 len false) x=some { val := .osl p k 0 (len+ys.length) false,rd:=id::rd,up:=[(id,none),(p,some ⟨els++ys,k,false⟩)] }:=by
 have hne:ys.isEmpty=false:=by cases ys<;>simp at hy ⊢
 unfold bQ
 rw [hx]
 simp only [hne,h,h1,h2,hl,Bool.false_eq_true,if_false]
 rw [if_pos ⟨trivial,trivial,trivial,Nat.le_refl _,by rw [<- hl];exact hb,by rw [<- hl];exact hm,trivial⟩]
 simp
theorem nF {σ : aa} {p:Id} {k bytes:Nat} {x:AV} {ys:List AV} {rd:List Id} (hx:dB σ k x=some (ys,rd)) (hy:ys≠[]) (hb:ys.length*bytes<=140737488355328) (hm:ys.length<=maxLen) (h1:(ys.all fun e=>e.cells.all AV.one)=true) :
   bQ σ p k bytes .nils x=some { val := .osl p k 0 ys.length false,rd,up:=[(p,some ⟨ys,k,false⟩)] }:=by
 have hne:ys.isEmpty=false:=by cases ys<;>simp at hy ⊢
 unfold bQ
 rw [hx]
 simp only [hne,h1,Bool.false_eq_true,if_false]
 rw [if_pos ⟨hb,hm,trivial⟩]
theorem cY {σ : aa} {p:Id} {k bytes:Nat} {x:AV} {es ys:List AV} {rd:List Id} (hx:dB σ k x=some (ys,rd)) (hy:ys≠[]) (hb:(es.length+ys.length)*bytes<=140737488355328) (hm:es.length+ys.length<=maxLen) (h1:((es++ys).all fun e=>e.cells.all AV.one)=true) :
   bQ σ p k bytes (.tsl k es) x=some { val := .osl p k 0 (es.length+ys.length) false,rd,up:=[(p,some ⟨es++ys,k,false⟩)] }:=by
 have hne:ys.isEmpty=false:=by cases ys<;>simp at hy ⊢
 unfold bQ
 rw [hx]
 simp only [hne,h1,Bool.false_eq_true,if_false]
 rw [if_pos ⟨trivial,hb,hm,trivial⟩]
theorem rB {σ : aa} {p id:Id} {k bytes off len:Nat} {t:Bool} {x:AV} {rd:List Id} (hx:dB σ k x=some ([],rd)):bQ σ p k bytes (.osl id k off len t) x=some { val := .osl id k off len t,rd }:=by
 unfold bQ;rw [hx];rfl
theorem gR {σ : aa} {p:Id} {k k' bytes:Nat} {es:List AV} {x:AV} {rd:List Id} (hx:dB σ k x=some ([],rd)):bQ σ p k bytes (.tsl k' es) x=some { val := .tsl k' es,rd }:=by
 unfold bQ;rw [hx];rfl
theorem bE {n:Nat} (h:n<=140737488355328):n<=maxLen:=Nat.le_trans h (by decide)
theorem Wp {σ : aa} {p:Id} {k:Nat} {z:AV} (hz:z.size=k) (ZD:z.cells.all AV.one=true):bu σ p (.buildSl k 0 z [])=some { val := .tsl k [] }:=by
 rw [tC];simp only [jD,List.replicate_zero];rw [if_pos ⟨hz,ZD⟩,if_pos trivial]
theorem XA {σ : aa} {p:Id} {k:Nat} {z x:AV} (hx:x.size=k) (FO:x.cells.all AV.one=true) (hz:z.size=k) (ZD:z.cells.all AV.one=true) :
   bu σ p (.buildSl k 1 z [(0,x)])=some { val := .osl p k 0 1 false,up:=[(p,some ⟨[x],k,false⟩)] }:=by
 rw [tC]
 have e:jD k (List.replicate 1 z) [(0,x)]=some [x]:=by simp only [jD,List.replicate_succ,List.replicate_zero];rw [if_pos ⟨hx,by simp,FO⟩];rfl
 rw [e];simp only [];rw [if_pos ⟨hz,ZD⟩,if_neg (by decide)]
theorem bs2 {σ : aa} {p:Id} {k:Nat} {z x y:AV} (hx:x.size=k) (FO:x.cells.all AV.one=true) (hy:y.size=k) (C4:y.cells.all AV.one=true) (hz:z.size=k) (ZD:z.cells.all AV.one=true) :
   bu σ p (.buildSl k 2 z [(0,x),(1,y)])=some { val := .osl p k 0 2 false,up:=[(p,some ⟨[x,y],k,false⟩)] }:=by
 rw [tC]
 have e:jD k (List.replicate 2 z) [(0,x),(1,y)]=some [x,y]:=by
   simp only [jD,List.replicate_succ,List.replicate_zero]
   rw [if_pos ⟨hx,by simp,FO⟩,if_pos ⟨hy,by simp,C4⟩];rfl
 rw [e];simp only [];rw [if_pos ⟨hz,ZD⟩,if_neg (by decide)]
section
variable {P:Program} {G:Nat->Option (List AV)}
theorem bZ {p:Id} {S:List (Id × a8)} {rs:List pO} {r:eB} {s:VS}:N7 G p S rs r .ret s=∃ r0,fY rs s=some r0/\Fin G p S s.σ r0 r:=by simp [N7]
theorem HV {p:Id} {S:List (Id × a8)} {rs:List pO} {r:eB} {s:VS}:N7 G p S rs r .normal s=∃ r0,fY rs s=some r0/\Fin G p S s.σ r0 r:=by simp [N7]
theorem aW {p:Id} {S:List (Id × a8)} {rs:List pO} {r:eB} {s:VS} (h:fY rs s=some r.val) (hs:∀ i,(aa.of S).app r.up i=none∨(aa.of S).app r.up i=s.σ i):∃ r0,fY rs s=some r0/\Fin G p S s.σ r0 r:=⟨_,h,Fin.same rfl hs⟩
end
theorem ak {σ : aa} {id:Id} {x:AV} {k:Nat} {b agg:Bool} {n o:Nat}:fX (σ.put id (some ⟨[x],k,b⟩)) agg n (.ref id 0 o)=(part agg x.cells o n).map fun v=>{ val:=v,rd:=[id] } :=
 gO (aa.a6 _ _ _) rfl
theorem ay {σ : aa} {id id':Id} {b:Option a8} {agg:Bool} {n e o:Nat} (h:id'≠id):fX (σ.put id b) agg n (.ref id' e o)=fX σ agg n (.ref id' e o):=by
 unfold fX;simp only [aa.bb _ _ _ h]
theorem dw {σ : aa} {id:Id} {els:List AV} {k n e o:Nat} {el v:AV} (h : σ id=some ⟨els,k,false⟩) (he:els[e]? = some el) (hn:v.cells.length=n) (ho:o+n<=el.size) (h1:v.cells.all AV.one=true) :
   eO σ n (.ref id e o) v=some { val := .tup [],rd:=[id],up:=[(id,some ⟨els.set e (el.upd o v.cells),k,false⟩)] }:=by
 simp only [eO,h,he]
 rw [if_pos ⟨trivial,hn,ho,h1⟩]
section
variable {P:Program} {G:Nat->Option (List AV)} {π : Id} {Q:bB->VS->Prop} {s:VS}
theorem zz:decide ((0:Int)<((0:Nat):Int))=false:=by decide
theorem VW.once {x:bA} (h:sF P G π x (Then (fun _=>False) Q) s):VW P G π (.loop x) Q s:=VW.rounds 1 (VW.of h)
end
section
mutual
def AV.di (ρ : Id->Id):AV->AV
 | .fn f a c => .fn f (bJ ρ a) (bJ ρ c)
 | .agg cs => .agg (bJ ρ cs)
 | .tup cs => .tup (bJ ρ cs)
 | .sl k es => .sl k (bJ ρ es)
 | .tsl k es => .tsl k (bJ ρ es)
 | .osl i k o l t => .osl (ρ i) k o l t
 | .ref i e o => .ref (ρ i) e o
 | .ep cs o => .ep (bJ ρ cs) o
 | .bool b => .bool b
 | .int k n => .int k n
 | .str l => .str l
 | .nilp => .nilp
 | .nilf => .nilf
 | .nils => .nils
 | .top => .top
 | .anyb => .anyb
 | .ige n => .ige n
def bJ (ρ : Id->Id):List AV->List AV
 | []=>[]
 | c::cs=>c.di ρ :: bJ ρ cs
end
def a8.di (ρ : Id->Id) (b:a8):a8:=⟨bJ ρ b.els,b.k,b.fr⟩
section
variable {ρ : Id->Id}
theorem fG:∀ {cs:List AV},bJ ρ cs=cs.map (AV.di ρ)
 | []=>rfl
 | c::cs=>by simp only [bJ,List.map_cons,fG (cs:=cs)]
theorem gS {cs:List AV}:(bJ ρ cs).length=cs.length:=by rw [fG,List.length_map]
theorem yU (c:AV):(c.di ρ).cells=bJ ρ c.cells:=by cases c<;>rfl
theorem HW (c:AV):(c.di ρ).size=c.size:=by unfold AV.size;rw [yU,gS]
theorem fZ {xs ys:List AV}:bJ ρ (xs++ys)=bJ ρ xs++bJ ρ ys:=by simp only [fG,List.map_append]
theorem BR:∀ {es:List AV},flat (bJ ρ es)=bJ ρ (flat es)
 | []=>rfl
 | e::es=>by
   have h1:flat (e::es)=e.cells++flat es:=by simp [flat]
   have h2:flat (bJ ρ (e::es))=(e.di ρ).cells++flat (bJ ρ es):=by simp [flat,bJ]
   rw [h1,h2,yU,fZ,BR (es:=es)]
theorem yV {k:Nat} {es:List AV} (h:∀ e∈es,e.size=k):∀ e∈bJ ρ es,e.size=k:=by
 intro e he;rw [fG] at he;obtain ⟨x,hx,rfl⟩:=List.mem_map.1 he;rw [HW];exact h x hx
theorem vT {k:Nat} {es:List AV} (h:∀ e∈bJ ρ es,e.size=k):∀ e∈es,e.size=k:=by
 intro e he;rw [<- HW (ρ := ρ)];exact h _ (by rw [fG];exact List.mem_map.2 ⟨e,he,rfl⟩)
mutual
theorem aD.di {E E':Env} {w:World} (hμ : ∀ i x,E.μ i=some x->E'.μ (ρ i)=some x) (dI:∀ b,E.ok b->E'.ok b):∀ (c:AV) (v:Value),aD E w c v->aD E' w (c.di ρ) v
 | .bool _,_,r=>by simpa [aD,AV.di] using r
 | .int _ _,_,r=>by simpa [aD,AV.di] using r
 | .str _,_,r=>by simpa [aD,AV.di] using r
 | .nilp,_,r=>by simpa [aD,AV.di] using r
 | .nilf,_,r=>by simpa [aD,AV.di] using r
 | .nils,_,r=>by simpa [aD,AV.di] using r
 | .top,_,_=>by simp [aD,AV.di]
 | .anyb,_,r=>by simpa [aD,AV.di] using r
 | .ige _,_,r=>by simpa [aD,AV.di] using r
 | .fn f a c,v,r=>by
   simp only [aD,AV.di] at r ⊢
   obtain ⟨xs,ys,e,ra,rc⟩:=r
   exact ⟨xs,ys,e,aF.di hμ dI a _ ra,aF.di hμ dI c _ rc⟩
 | .agg cs,v,r=>by
   simp only [aD,AV.di] at r ⊢
   obtain ⟨xs,e,ra⟩:=r
   exact ⟨xs,e,aF.di hμ dI cs _ ra⟩
 | .tup cs,v,r=>by
   simp only [aD,AV.di] at r ⊢
   obtain ⟨xs,e,ra⟩:=r
   exact ⟨xs,e,aF.di hμ dI cs _ ra⟩
 | .sl k es,v,r=>by
   simp only [aD,AV.di] at r ⊢
   obtain ⟨a,cap,e,h1,h2,hk,h3⟩:=r
   refine ⟨a,cap,by rw [gS];exact e,by rw [gS];exact h1,h2,yV hk,h3.imp (fun h=>by rw [h];rfl) ?_⟩
   rintro ⟨b,o,ea,hb,hr⟩
   exact ⟨b,o,ea,dI b hb,bd.di hμ dI es o hr⟩
 | .tsl k es,v,r=>by
   simp only [aD,AV.di] at r ⊢
   obtain ⟨a,e,h2,hk,h3⟩:=r
   refine ⟨a,by rw [gS];exact e,by rw [gS];exact h2,yV hk,h3.imp (fun h=>by rw [h];rfl) ?_⟩
   rintro ⟨b,o,ea,hb,hr⟩
   exact ⟨b,o,ea,dI b hb,bd.di hμ dI es o hr⟩
 | .osl id k off len t,v,r=>by
   simp only [aD,AV.di] at r ⊢
   obtain ⟨g,N,cap,hm,rest⟩:=r
   exact ⟨g,N,cap,hμ _ _ hm,rest⟩
 | .ref id e o,v,r=>by
   simp only [aD,AV.di] at r ⊢
   obtain ⟨g,k,N,hm,rest⟩:=r
   exact ⟨g,k,N,hμ _ _ hm,rest⟩
 | .ep cs o,v,r=>by
   simp only [aD,AV.di] at r ⊢
   obtain ⟨b,p,e,hb,hr⟩:=r
   exact ⟨b,p,e,dI b hb,aX.di hμ dI cs p hr⟩
theorem aF.di {E E':Env} {w:World} (hμ : ∀ i x,E.μ i=some x->E'.μ (ρ i)=some x) (dI:∀ b,E.ok b->E'.ok b):∀ (cs:List AV) (vs:List Value),aF E w cs vs->aF E' w (bJ ρ cs) vs
 | [],_,r=>by simpa [aF,bJ] using r
 | c::cs,vs,r=>by
   simp only [aF,bJ] at r ⊢
   obtain ⟨v,rest,e,r1,r2⟩:=r
   exact ⟨v,rest,e,aD.di hμ dI c v r1,aF.di hμ dI cs rest r2⟩
theorem bd.di {E E':Env} {w:World} (hμ : ∀ i x,E.μ i=some x->E'.μ (ρ i)=some x) (dI:∀ b,E.ok b->E'.ok b) {b:Nat}:∀ (es:List AV) (o:Nat),bd E w b o es->bd E' w b o (bJ ρ es)
 | [],_,_=>by simp [bd,bJ]
 | .agg cs::es,o,r=>by
   simp only [bd,bJ,AV.di,gS] at r ⊢
   exact ⟨aX.di hμ dI cs o r.1,bd.di hμ dI es _ r.2⟩
 | .bool _::es,o,r | .int _ _::es,o,r | .str _::es,o,r | .nilp::es,o,r | .nilf::es,o,r | .nils::es,o,r | .top::es,o,r | .anyb::es,o,r | .ige _::es,o,r | .fn _ _ _::es,o,r
 | .tup _::es,o,r | .sl _ _::es,o,r | .tsl _ _::es,o,r | .osl _ _ _ _ _::es,o,r | .ref _ _ _::es,o,r | .ep _ _::es,o,r=>by
   simp only [bd,bJ,AV.di] at r ⊢
   obtain ⟨⟨v,hv,hr⟩,r2⟩:=r
   have:=aD.di hμ dI _ v hr
   simp only [AV.di] at this
   exact ⟨⟨v,hv,this⟩,bd.di hμ dI es _ r2⟩
theorem aX.di {E E':Env} {w:World} (hμ : ∀ i x,E.μ i=some x->E'.μ (ρ i)=some x) (dI:∀ b,E.ok b->E'.ok b) {b:Nat}:∀ (cs:List AV) (o:Nat),aX E w b o cs->aX E' w b o (bJ ρ cs)
 | [],_,_=>by simp [aX,bJ]
 | c::cs,o,r=>by
   simp only [aX,bJ] at r ⊢
   obtain ⟨⟨v,hv,hr⟩,r2⟩:=r
   exact ⟨⟨v,hv,aD.di hμ dI c v hr⟩,aX.di hμ dI cs _ r2⟩
end
mutual
theorem aD.dm {E E':Env} {w:World} (hμ : ∀ i x,E'.μ (ρ i)=some x->E.μ i=some x) (dI:∀ b,E'.ok b->E.ok b):∀ (c:AV) (v:Value),aD E' w (c.di ρ) v->aD E w c v
 | .bool _,_,r=>by simpa [aD,AV.di] using r
 | .int _ _,_,r=>by simpa [aD,AV.di] using r
 | .str _,_,r=>by simpa [aD,AV.di] using r
 | .nilp,_,r=>by simpa [aD,AV.di] using r
 | .nilf,_,r=>by simpa [aD,AV.di] using r
 | .nils,_,r=>by simpa [aD,AV.di] using r
 | .top,_,_=>by simp [aD]
 | .anyb,_,r=>by simpa [aD,AV.di] using r
 | .ige _,_,r=>by simpa [aD,AV.di] using r
 | .fn f a c,v,r=>by
   simp only [aD,AV.di] at r ⊢
   obtain ⟨xs,ys,e,ra,rc⟩:=r
   exact ⟨xs,ys,e,aF.dm hμ dI a _ ra,aF.dm hμ dI c _ rc⟩
 | .agg cs,v,r=>by
   simp only [aD,AV.di] at r ⊢
   obtain ⟨xs,e,ra⟩:=r
   exact ⟨xs,e,aF.dm hμ dI cs _ ra⟩
 | .tup cs,v,r=>by
   simp only [aD,AV.di] at r ⊢
   obtain ⟨xs,e,ra⟩:=r
   exact ⟨xs,e,aF.dm hμ dI cs _ ra⟩
 | .sl k es,v,r=>by
   simp only [aD,AV.di,gS] at r ⊢
   obtain ⟨a,cap,e,h1,h2,hk,h3⟩:=r
   refine ⟨a,cap,e,h1,h2,vT hk,h3.imp (fun h=>by have:=congrArg List.length h;rw [gS] at this;exact List.length_eq_zero_iff.1 this) ?_⟩
   rintro ⟨b,o,ea,hb,hr⟩
   exact ⟨b,o,ea,dI b hb,bd.dm hμ dI es o hr⟩
 | .tsl k es,v,r=>by
   simp only [aD,AV.di,gS] at r ⊢
   obtain ⟨a,e,h2,hk,h3⟩:=r
   refine ⟨a,e,h2,vT hk,h3.imp (fun h=>by have:=congrArg List.length h;rw [gS] at this;exact List.length_eq_zero_iff.1 this) ?_⟩
   rintro ⟨b,o,ea,hb,hr⟩
   exact ⟨b,o,ea,dI b hb,bd.dm hμ dI es o hr⟩
 | .osl id k off len t,v,r=>by
   simp only [aD,AV.di] at r ⊢
   obtain ⟨g,N,cap,hm,rest⟩:=r
   exact ⟨g,N,cap,hμ _ _ hm,rest⟩
 | .ref id e o,v,r=>by
   simp only [aD,AV.di] at r ⊢
   obtain ⟨g,k,N,hm,rest⟩:=r
   exact ⟨g,k,N,hμ _ _ hm,rest⟩
 | .ep cs o,v,r=>by
   simp only [aD,AV.di] at r ⊢
   obtain ⟨b,p,e,hb,hr⟩:=r
   exact ⟨b,p,e,dI b hb,aX.dm hμ dI cs p hr⟩
theorem aF.dm {E E':Env} {w:World} (hμ : ∀ i x,E'.μ (ρ i)=some x->E.μ i=some x) (dI:∀ b,E'.ok b->E.ok b):∀ (cs:List AV) (vs:List Value),aF E' w (bJ ρ cs) vs->aF E w cs vs
 | [],_,r=>by simpa [aF,bJ] using r
 | c::cs,vs,r=>by
   simp only [aF,bJ] at r ⊢
   obtain ⟨v,rest,e,r1,r2⟩:=r
   exact ⟨v,rest,e,aD.dm hμ dI c v r1,aF.dm hμ dI cs rest r2⟩
theorem bd.dm {E E':Env} {w:World} (hμ : ∀ i x,E'.μ (ρ i)=some x->E.μ i=some x) (dI:∀ b,E'.ok b->E.ok b) {b:Nat}:∀ (es:List AV) (o:Nat),bd E' w b o (bJ ρ es)->bd E w b o es
 | [],_,_=>by simp [bd]
 | .agg cs::es,o,r=>by
   simp only [bd,bJ,AV.di,gS] at r ⊢
   exact ⟨aX.dm hμ dI cs o r.1,bd.dm hμ dI es _ r.2⟩
 | .bool b1::es,o,r=>by simp only [bd,bJ,AV.di] at r ⊢;obtain ⟨⟨v,hv,hr⟩,r2⟩:=r;exact ⟨⟨v,hv,aD.dm hμ dI (.bool b1) v hr⟩,bd.dm hμ dI es _ r2⟩
 | .int a1 a2::es,o,r=>by simp only [bd,bJ,AV.di] at r ⊢;obtain ⟨⟨v,hv,hr⟩,r2⟩:=r;exact ⟨⟨v,hv,aD.dm hμ dI (.int a1 a2) v hr⟩,bd.dm hμ dI es _ r2⟩
 | .str a1::es,o,r=>by simp only [bd,bJ,AV.di] at r ⊢;obtain ⟨⟨v,hv,hr⟩,r2⟩:=r;exact ⟨⟨v,hv,aD.dm hμ dI (.str a1) v hr⟩,bd.dm hμ dI es _ r2⟩
 | .nilp::es,o,r=>by simp only [bd,bJ,AV.di] at r ⊢;obtain ⟨⟨v,hv,hr⟩,r2⟩:=r;exact ⟨⟨v,hv,aD.dm hμ dI .nilp v hr⟩,bd.dm hμ dI es _ r2⟩
 | .nilf::es,o,r=>by simp only [bd,bJ,AV.di] at r ⊢;obtain ⟨⟨v,hv,hr⟩,r2⟩:=r;exact ⟨⟨v,hv,aD.dm hμ dI .nilf v hr⟩,bd.dm hμ dI es _ r2⟩
 | .nils::es,o,r=>by simp only [bd,bJ,AV.di] at r ⊢;obtain ⟨⟨v,hv,hr⟩,r2⟩:=r;exact ⟨⟨v,hv,aD.dm hμ dI .nils v hr⟩,bd.dm hμ dI es _ r2⟩
 | .top::es,o,r=>by simp only [bd,bJ,AV.di] at r ⊢;obtain ⟨⟨v,hv,hr⟩,r2⟩:=r;exact ⟨⟨v,hv,aD.dm hμ dI .top v hr⟩,bd.dm hμ dI es _ r2⟩
 | .anyb::es,o,r=>by simp only [bd,bJ,AV.di] at r ⊢;obtain ⟨⟨v,hv,hr⟩,r2⟩:=r;exact ⟨⟨v,hv,aD.dm hμ dI .anyb v hr⟩,bd.dm hμ dI es _ r2⟩
 | .ige a1::es,o,r=>by simp only [bd,bJ,AV.di] at r ⊢;obtain ⟨⟨v,hv,hr⟩,r2⟩:=r;exact ⟨⟨v,hv,aD.dm hμ dI (.ige a1) v hr⟩,bd.dm hμ dI es _ r2⟩
 | .fn a1 a2 a3::es,o,r=>by simp only [bd,bJ,AV.di] at r ⊢;obtain ⟨⟨v,hv,hr⟩,r2⟩:=r;exact ⟨⟨v,hv,aD.dm hμ dI (.fn a1 a2 a3) v (by simpa only [AV.di] using hr)⟩,bd.dm hμ dI es _ r2⟩
 | .tup a1::es,o,r=>by simp only [bd,bJ,AV.di] at r ⊢;obtain ⟨⟨v,hv,hr⟩,r2⟩:=r;exact ⟨⟨v,hv,aD.dm hμ dI (.tup a1) v (by simpa only [AV.di] using hr)⟩,bd.dm hμ dI es _ r2⟩
 | .sl a1 a2::es,o,r=>by simp only [bd,bJ,AV.di] at r ⊢;obtain ⟨⟨v,hv,hr⟩,r2⟩:=r;exact ⟨⟨v,hv,aD.dm hμ dI (.sl a1 a2) v (by simpa only [AV.di] using hr)⟩,bd.dm hμ dI es _ r2⟩
 | .tsl a1 a2::es,o,r=>by simp only [bd,bJ,AV.di] at r ⊢;obtain ⟨⟨v,hv,hr⟩,r2⟩:=r;exact ⟨⟨v,hv,aD.dm hμ dI (.tsl a1 a2) v (by simpa only [AV.di] using hr)⟩,bd.dm hμ dI es _ r2⟩
 | .osl a1 a2 a3 a4 a5::es,o,r=>by simp only [bd,bJ,AV.di] at r ⊢;obtain ⟨⟨v,hv,hr⟩,r2⟩:=r;exact ⟨⟨v,hv,aD.dm hμ dI (.osl a1 a2 a3 a4 a5) v (by simpa only [AV.di] using hr)⟩,bd.dm hμ dI es _ r2⟩
 | .ref a1 a2 a3::es,o,r=>by simp only [bd,bJ,AV.di] at r ⊢;obtain ⟨⟨v,hv,hr⟩,r2⟩:=r;exact ⟨⟨v,hv,aD.dm hμ dI (.ref a1 a2 a3) v (by simpa only [AV.di] using hr)⟩,bd.dm hμ dI es _ r2⟩
 | .ep a1 a2::es,o,r=>by simp only [bd,bJ,AV.di] at r ⊢;obtain ⟨⟨v,hv,hr⟩,r2⟩:=r;exact ⟨⟨v,hv,aD.dm hμ dI (.ep a1 a2) v (by simpa only [AV.di] using hr)⟩,bd.dm hμ dI es _ r2⟩
theorem aX.dm {E E':Env} {w:World} (hμ : ∀ i x,E'.μ (ρ i)=some x->E.μ i=some x) (dI:∀ b,E'.ok b->E.ok b) {b:Nat}:∀ (cs:List AV) (o:Nat),aX E' w b o (bJ ρ cs)->aX E w b o cs
 | [],_,_=>by simp [aX]
 | c::cs,o,r=>by
   simp only [aX,bJ] at r ⊢
   obtain ⟨⟨v,hv,hr⟩,r2⟩:=r
   exact ⟨⟨v,hv,aD.dm hμ dI c v hr⟩,aX.dm hμ dI cs _ r2⟩
end
theorem eh.di {E E':Env} {w:World} (hμ : ∀ i x,E.μ i=some x->E'.μ (ρ i)=some x) (dI:∀ b,E.ok b->E'.ok b) {b o:Nat} {cs:List AV} (h:eh E w b o cs):eh E' w b o (bJ ρ cs) :=
 dP.1 (aX.di hμ dI cs o (dP.2 h))
theorem eh.dm {E E':Env} {w:World} (hμ : ∀ i x,E'.μ (ρ i)=some x->E.μ i=some x) (dI:∀ b,E'.ok b->E.ok b) {b o:Nat} {cs:List AV} (h:eh E' w b o (bJ ρ cs)):eh E w b o cs :=
 dP.1 (aX.dm hμ dI cs o (dP.2 h))
end
def j2 (n:Nat) (π : Id) (κ : Nat->Id):Id->Id
 | []=>[]
 | a :: ar=>match ar with
   | []=>match a with | 0 => π | k+1 => κ (k+1)
   | b::bs=>match b,bs with
     | 0,[]=>(n+a) :: π
     | _,_=>a::j2 n π κ ar
theorem lr {n:Nat} {π : Id} {κ : Nat->Id} {q:Nat}:∀ l:Id,j2 n π κ (l++[q,0])=l++((n+q) :: π)
 | []=>rfl
 | [a]=>by simp [j2]
 | a::b::l=>by
   have:=lr (n:=n) (π := π) (κ := κ) (q:=q) (b::l)
   simp only [List.cons_append] at this ⊢
   rw [<- this]
   cases h:l++[q,0] with
   | nil=>simp at h
   | cons c cs=>cases b<;>simp [j2]
theorem FP {i:Id} (h:[0] <:+ i):i=[0]∨∃ l q,i=l++[q,0]:=by
 obtain ⟨t,rfl⟩:=h
 rcases List.eq_nil_or_concat t with rfl | ⟨l,q,rfl⟩
 . exact .inl rfl
 . exact .inr ⟨l,q,by simp⟩
theorem Uk {n:Nat} {π : Id} {κ : Nat->Id} {i j:Id} (hi:[0] <:+ i) (hj:[0] <:+ j) (h:j2 n π κ i=j2 n π κ j):i=j:=by
 rcases FP hi with rfl | ⟨l,q,rfl⟩<;>rcases FP hj with rfl | ⟨l',q',rfl⟩
 . rfl
 . rw [lr] at h;have:=congrArg List.length h;simp [j2] at this;omega
 . rw [lr] at h;have:=congrArg List.length h;simp [j2] at this;omega
 . rw [lr,lr] at h
   have hl:l.length=l'.length:=by have:=congrArg List.length h;simp at this;omega
   obtain ⟨h1,h2⟩:=List.append_inj h hl
   simp only [List.cons.injEq,and_true] at h2
   have:q=q':=by omega
   rw [h1,this]
section
variable {P:Program} {G:Nat->Option (List AV)}
open Classical in
noncomputable def xw (n:Nat) (π : Id) (κ : Nat->Id) (E E0:Env):Env:=⟨fun j=>if h:∃ i,[0] <:+ i/\j2 n π κ i=j then E0.μ h.choose else E.μ j,E0.ok⟩
theorem zX {n:Nat} {π : Id} {κ : Nat->Id} {E E0:Env} {i:Id} (hi:[0] <:+ i):(xw n π κ E E0).μ (j2 n π κ i)=E0.μ i:=by
 have hex:∃ i',[0] <:+ i'/\j2 n π κ i'=j2 n π κ i:=⟨i,hi,rfl⟩
 simp only [xw]
 rw [dif_pos hex]
 exact congrArg E0.μ (Uk hex.choose_spec.1 hi hex.choose_spec.2)
theorem pt {n:Nat} {π : Id} {κ : Nat->Id} {E E0:Env} {j:Id} (h:∀ i,[0] <:+ i->j2 n π κ i≠j):(xw n π κ E E0).μ j=E.μ j:=by
 simp only [xw]
 rw [dif_neg];rintro ⟨i,hi,e⟩;exact h i hi e
theorem BS {n:Nat} {π : Id} {κ : Nat->Id} {E:Env} (hf:uP E π n) {i:Id} (hi:[0] <:+ i):E.μ (j2 n π κ i)=none:=by
 rcases FP hi with rfl | ⟨l,q,rfl⟩
 . exact hf.self
 . rw [lr];exact hf.at (q:=n+q) (Nat.le_add_right _ _) ⟨l,rfl⟩
def Oa (ρ : Id->Id) (σ0 σ : aa):Prop:=(∀ i b, σ0 i=some b -> σ (ρ i)=some (b.di ρ))/\∀ j, σ j=none∨∃ i b, σ0 i=some b /\ ρ i=j /\ σ j=some (b.di ρ)
theorem VW.di {vc:bA} {Q0:bB->VS->Prop} {t0:List AV} {σ0 σ : aa} {n:Nat} {π : Id} {κ : Nat->Id} (h:VW P G [0] vc Q0 ⟨t0, σ0,0⟩)
   (hσ : ∀ i b, σ0 i=some b -> σ (j2 n π κ i)=some (b.di (j2 n π κ))) (aej:∀ i j, σ0 i≠none -> σ0 j≠none->i≠j->j2 n π κ i≠j2 n π κ j) :
   VW P G π vc (fun e s=>∃ s0,Q0 e s0/\s.t=bJ (j2 n π κ) s0.t/\s.n=n+s0.n/\Oa (j2 n π κ) s0.σ s.σ) ⟨bJ (j2 n π κ) t0, σ,n⟩:=by
 intro c hc own E w a R hm hR
 obtain ⟨Bf,hi,pj,aek⟩:=hm
 let E0:Env:=⟨fun i=>E.μ (j2 n π κ i),E.ok⟩
 have Qb:ib G [0] own E0 w ⟨t0, σ0,0⟩ a:=by
   refine ⟨aF.dm (E:=E0) (E':=E) (fun i x hx=>hx) (fun b hb=>hb) _ _ Bf, ?_,fun j hj _=>BS pj hj,aek⟩
   refine ⟨hi.okb,fun id bk hs => ?_,fun i j x y fK hj' hne hx hy => ?_,hi.glob,hi.new⟩
   . obtain ⟨g,N,cur,ty,hB⟩:=hi.blk _ _ (hσ id bk hs)
     refine ⟨g,N,cur,ty,hB.μ,hB.heap,hB.size, ?_,hB.most,hB.own,hB.ok,hB.no,vT hB.k, ?_⟩
     . have:=hB.len;rwa [show (bk.di (j2 n π κ)).els.length=bk.els.length from gS] at this
     . have:=hB.row
       rw [show (bk.di (j2 n π κ)).els=bJ (j2 n π κ) bk.els from rfl,BR] at this
       exact eh.dm (E:=E0) (E':=E) (fun i x hx=>hx) (fun b hb=>hb) this
   . obtain ⟨b,hb⟩:=Option.ne_none_iff_exists'.1 fK
     obtain ⟨b',PD⟩:=Option.ne_none_iff_exists'.1 hj'
     exact hi.inj _ _ x y (by show σ _≠none;rw [hσ i b hb];simp) (by show σ _≠none;rw [hσ j b' PD];simp) (aej i j fK hj' hne) hx hy
 refine h c hc own E0 w a R Qb ?_
 intro e s0 E0' w' a' hq had mL
 obtain ⟨aem,fK,Ke,aaJ⟩:=mL
 let E':=xw n π κ E E0'
 have hμ : ∀ i x,E0'.μ i=some x->E'.μ (j2 n π κ i)=some x:=by
   intro i x hx
   by_cases h0:[0] <:+ i
   . exact (zX h0).trans hx
   . have h1:E.μ (j2 n π κ i)=some x:=by have:=had.ids i h0;rw [hx] at this;exact this.symm
     exact (pt fun i' fK e=>by have:=BS (κ := κ) pj fK;rw [e,h1] at this;cases this).trans h1
 have hold:∀ j x,E.μ j=some x->E'.μ j=some x:=fun j x hx=>(pt fun i' fK e=>by have:=BS (κ := κ) pj fK;rw [e,hx] at this;cases this).trans hx
 have hS:∀ j b,(∃ i b0,s0.σ i=some b0/\j2 n π κ i=j/\b=b0.di (j2 n π κ))->∃ i g N cur ty b0,s0.σ i=some b0/\j2 n π κ i=j/\o6 E0' own w' i b0 g N cur ty/\o6 E' own w' j b g N cur ty:=by
   rintro j b ⟨i,b0,h1,rfl,rfl⟩
   obtain ⟨g,N,cur,ty,hB⟩:=fK.blk i b0 h1
   refine ⟨i,g,N,cur,ty,b0,h1,rfl,hB,hμ _ _ hB.μ,hB.heap,hB.size, ?_,hB.most,hB.own,hB.ok,hB.no,yV hB.k, ?_⟩
   . rw [show (b0.di (j2 n π κ)).els.length=b0.els.length from gS];exact hB.len
   . rw [show (b0.di (j2 n π κ)).els=bJ (j2 n π κ) b0.els from rfl,BR]
     exact eh.di hμ (fun b hb=>hb) hB.row
 classical
 let σ':aa:=fun j=>if h:∃ i b,s0.σ i=some b/\j2 n π κ i=j then some (h.choose_spec.choose.di (j2 n π κ)) else none
 have QL:∀ j, σ' j=none∨∃ i b,s0.σ i=some b/\j2 n π κ i=j /\ σ' j=some (b.di (j2 n π κ)):=fun j=>by
   by_cases h:∃ i b,s0.σ i=some b/\j2 n π κ i=j
   . right;exact ⟨h.choose,h.choose_spec.choose,h.choose_spec.choose_spec.1,h.choose_spec.choose_spec.2,dif_pos h⟩
   . left;exact dif_neg h
 have aen:Inv G own E' w' σ':=by
   refine ⟨fK.okb,fun j bk hs => ?_,fun j j' x y hj hj' hne hx hy => ?_,fK.glob,fK.new⟩
   . rcases QL j with h1 | ⟨i,b,h1,h2,h3⟩
     . rw [h1] at hs;cases hs
     . rw [h3] at hs
       simp only [Option.some.injEq] at hs
       obtain ⟨i',g,N,cur,ty,b0,_,_,_,hB⟩:=hS j bk ⟨i,b,h1,h2,hs.symm⟩
       exact ⟨g,N,cur,ty,hB⟩
   . rcases QL j with h1 | ⟨i,b,h1,h2,h3⟩
     . exact absurd h1 hj
     rcases QL j' with h4 | ⟨i',b',h4,h5,h6⟩
     . exact absurd h4 hj'
     obtain ⟨g,N,cur,ty,hB⟩:=fK.blk i b h1
     obtain ⟨g',N',vK,JK,Db⟩:=fK.blk i' b' h4
     have e1:=hμ _ _ hB.μ
     have e2:=hμ _ _ Db.μ
     rw [h2,hx] at e1
     rw [h5,hy] at e2
     simp only [Option.some.injEq] at e1 e2
     rw [e1,e2]
     exact fK.inj i i' _ _ (by rw [h1];simp) (by rw [h4];simp) (fun e=>hne (by rw [<- h2, <- h5,e])) hB.μ Db.μ
 have aaK:∀ i b,s0.σ i=some b -> σ' (j2 n π κ i)=some (b.di (j2 n π κ)):=fun i b h1=>by
   rcases QL (j2 n π κ i) with h2 | ⟨i',b',h3,h4,h5⟩
   . exact absurd ((dif_pos ⟨i,b,h1,rfl⟩).symm.trans h2) (by simp)
   . obtain ⟨g,N,cur,ty,hB⟩:=fK.blk i b h1
     obtain ⟨g',N',vK,JK,Db⟩:=fK.blk i' b' h3
     by_cases e:i'=i
     . subst e;rw [h1] at h3;simp only [Option.some.injEq] at h3;subst h3;exact h5
     . have e1:=hμ _ _ hB.μ
       have e2:=hμ _ _ Db.μ
       rw [h4,e1] at e2
       simp only [Option.some.injEq,Prod.mk.injEq] at e2
       exact absurd e2.1.symm (fK.inj i' i _ _ (by rw [h3];simp) (by rw [h1];simp) e Db.μ hB.μ)
 refine hR e ⟨bJ (j2 n π κ) s0.t, σ',n+s0.n⟩ E' w' a' ⟨s0,hq,rfl,rfl,aaK,QL⟩ ⟨⟨⟨hold,had.step.ok,had.step.same⟩,had.os,had.tape,had.output,had.size,had.block,had.PB⟩,fun j hj=>pt fun i hi e=>hj ?_⟩ ⟨aF.di hμ (fun b hb=>hb) _ _ aem,aen,fun j hj hq' => ?_,aaJ⟩
 . rcases FP hi with rfl | ⟨l,q,rfl⟩
   . rw [<- e];exact List.suffix_refl _
   . rw [lr] at e;rw [<- e];exact ⟨l++[n+q],by simp⟩
 . by_cases hex:∃ i,[0] <:+ i/\j2 n π κ i=j
   . obtain ⟨i,N5,rfl⟩:=hex
     refine (zX N5).trans (Ke i N5 fun q Wq hs=>hq' (n+q) (by show n+q<n+s0.n;omega) ?_)
     obtain ⟨t,rfl⟩:=hs
     rw [lr];exact ⟨t,rfl⟩
   . refine (pt fun i hi e=>hex ⟨i,hi,e⟩).trans (pj j hj fun q Wq=>hq' q (Nat.lt_of_lt_of_le Wq (Nat.le_add_right _ _)))
theorem HX {ρ : Id->Id} {agg:Bool} {cs:List AV} {o n:Nat} {v:AV} (h:part agg cs o n=some v):part agg (bJ ρ cs) o n=some (v.di ρ):=by
 unfold part at h ⊢
 rw [gS]
 split at h
 . rename_i h1
   rw [if_pos h1]
   split at h
   . rename_i h2
     rw [if_pos h2]
     simp only [Option.some.injEq] at h
     subst h
     simp only [AV.di,fG,List.map_take,List.map_drop]
   . rename_i h2
     rw [if_neg h2]
     split at h
     . rename_i h3;rw [if_pos h3,fG,List.getElem?_map,h];rfl
     . cases h
 . cases h
theorem Ob {ρ : Id->Id} {σ0 σ : aa} (hs:Oa ρ σ0 σ) {agg:Bool} {n:Nat} {x:AV} {r:eB} (h:fX σ0 agg n x=some r):∃ r',fX σ agg n (x.di ρ)=some r'/\r'.val=r.val.di ρ := by
 cases x<;>simp only [fX,reduceCtorEq] at h
 case ref id e o =>
   cases hb : σ0 id with
   | none=>rw [hb] at h;cases h
   | some bk =>
     rw [hb] at h
     simp only [] at h
     cases he:bk.els[e]? with
     | none=>rw [he] at h;cases h
     | some el =>
       rw [he] at h
       simp only [Option.map_eq_some_iff] at h
       obtain ⟨v,hv,rfl⟩:=h
       refine ⟨{ val:=v.di ρ,rd:=[ρ id] }, ?_,rfl⟩
       have e1:(bk.di ρ).els[e]? = some (el.di ρ):=by
         show (bJ ρ bk.els)[e]? = _
         rw [fG,List.getElem?_map,he];rfl
       simp only [AV.di,fX,hs.1 id bk hb,e1,yU,HX hv,Option.map_some]
 case ep cs o =>
   simp only [Option.map_eq_some_iff] at h
   obtain ⟨v,hv,rfl⟩:=h
   refine ⟨{ val:=v.di ρ }, ?_,rfl⟩
   simp only [AV.di,fX,HX hv,Option.map_some]
theorem HY {ρ : Id->Id} {t:List AV} {k:Nat}:(bJ ρ t).getD k (.tup [])=(t.getD k (.tup [])).di ρ := by
 rw [List.getD_eq_getElem?_getD,List.getD_eq_getElem?_getD,fG,List.getElem?_map]
 cases t[k]? <;> rfl
theorem Oc {ρ : Id->Id} {s0 s:VS} (ht:s.t=bJ ρ s0.t) (hs:Oa ρ s0.σ s.σ) {x:pO} {v:AV} (h:iR s0 x=some v):iR s x=some (v.di ρ):=by
 cases x with
 | tmp k=>simp only [iR,Option.some.injEq] at h ⊢;rw [ht,HY,h]
 | cell k agg n =>
   simp only [iR,Option.map_eq_some_iff] at h ⊢
   obtain ⟨r,hr,rfl⟩:=h
   obtain ⟨r',h1,h2⟩:=Ob hs hr
   exact ⟨r',by rw [ht,HY];exact h1,h2⟩
theorem HZ {ρ : Id->Id} {s0 s:VS} (ht:s.t=bJ ρ s0.t) (hs:Oa ρ s0.σ s.σ):∀ {rs:List pO} {vs:List AV},rs.mapM (iR s0)=some vs->rs.mapM (iR s)=some (bJ ρ vs)
 | [],vs,h=>by simp only [List.mapM_nil,Option.pure_def,Option.some.injEq] at h ⊢;subst h;rfl
 | x::rs,vs,h=>by
   simp only [List.mapM_cons,Option.bind_eq_bind,Option.bind_eq_some_iff,Option.pure_def,Option.some.injEq] at h ⊢
   obtain ⟨v,hv,vs',JO,rfl⟩:=h
   exact ⟨_,Oc ht hs hv,_,HZ ht hs JO,rfl⟩
theorem Od {ρ : Id->Id} {s0 s:VS} (ht:s.t=bJ ρ s0.t) (hs:Oa ρ s0.σ s.σ) {rs:List pO} {v:AV} (h:fY rs s0=some v):fY rs s=some (v.di ρ):=by
 unfold fY at h ⊢
 cases hm:rs.mapM (iR s0) with
 | none=>rw [hm] at h;cases h
 | some vs =>
   rw [hm] at h
   rw [HZ ht hs hm]
   match vs,h with
   | [],h=>simp only [Option.some.injEq] at h;subst h;rfl
   | [v],h=>simp only [Option.some.injEq] at h;subst h;rfl
   | v::v'::vs,h=>simp only [Option.some.injEq] at h;subst h;rfl
end
end
abbrev bP:=List (Id × Option a8)
def My:Id->Id->Bool
 | [],[]=>true
 | a::ar,b::bs=>Nat.beq a b&&My ar bs
 | _,_=>false
theorem mC:∀ {a b:Id},My a b=true↔a=b
 | [],[]=>by simp [My]
 | a::ar,b::bs=>by simp only [My,Bool.and_eq_true,Nat.beq_eq,mC (a:=ar),List.cons.injEq]
 | [],_::_=>by simp [My]
 | _::_,[]=>by simp [My]
def bP.find:bP->Id->Option a8
 | [],_=>none
 | (j,b)::S,i=>match My i j with
   | true=>b
   | false=>bP.find S i
def bP.to (S:bP):aa:=fun i=>S.find i
def bP.app (S:bP):List (Id × Option a8)->bP
 | []=>S
 | x::up=>bP.app (x::S) up
theorem bP.XB (i:Id) (b:Option a8) (S:bP):bP.to ((i,b)::S)=S.to.put i b:=by
 funext j
 show bP.find _ j=_
 simp only [bP.find,aa.put]
 cases h:My j i with
 | true=>rw [if_pos (mC.1 h)]
 | false=>rw [if_neg (fun e=>by rw [mC.2 e] at h;cases h)];rfl
theorem bP.Ki:∀ (up:List (Id × Option a8)) (S:bP),(S.app up).to=S.to.app up
 | [],_=>rfl
 | (i,b)::up,S=>by simp only [bP.app,aa.app,bP.Ki up,bP.XB]
inductive Hint (P:Program) (G:Nat->Option (List AV)) where
 | ev (k:Nat) (o:Option eB) (r:eB) (h:o=some r)
 | eq (k:Nat) (a b:AV) (h:a=b)
 | br (k:Nat) (x b:Bool) (h:x=b)
 | st (k:Nat) (S:List (Id × a8)) (op:gj AV) (r:Id->eB) (h:∀ σ p,(∀ x∈S, σ x.1=some x.2)->bu σ p op=some (r p))
 | vp (f:FuncId) (args:List AV) (r:AV) (h:VP P G f args r) (hp:∀ c∈args,af c)
 | rel (f:FuncId) (args:List AV) (S:List (Id × a8)) (r:Id->eB) (h:∀ p,(∀ x∈S, ¬ p <:+ x.1)->aq P G f args p S (r p)) (hr:∀ p,∀ x∈S,x.1∈(r p).rd)
 | lp (π : Id) (c:bA) (t0:List AV) (S0:List (Id × a8)) (n0:Nat) (e:bB) (t1:List AV) (S1:bP) (n1:Nat) (h:VW P G π (.loop c) (fun e' s'=>e'=e/\Wk G π s' ⟨t1,S1.to,n1⟩) ⟨t0,aa.of S0,n0⟩)
inductive JP where
 | ev (o:Option eB)
 | val (a:AV)
 | op (o:gj AV) (S:List (Option a8))
 | call (f:FuncId) (args:List AV) (S:List (Option a8))
 | lp (π : Id) (c:bA) (t:List AV) (S:List (Option a8))
def QM:Id->Id->Bool
 | p,[]=>My p []
 | p,a::ar=>My p (a::ar)||QM p ar
theorem H0 {p:Id}:∀ {i:Id},QM p i=false -> ¬ p <:+ i
 | [],h=>by
   simp only [QM] at h
   intro hs
   have:p=[]:=List.suffix_nil.1 hs
   rw [mC.2 this] at h;cases h
 | a::ar,h=>by
   simp only [QM,Bool.or_eq_false_iff] at h
   intro hs
   rcases List.suffix_cons_iff.1 hs with e | e
   . rw [mC.2 e] at h;cases h.1
   . exact H0 h.2 e
structure TS where
 t:List AV
 S:bP
 n:Nat
def TS.to (s:TS):VS:=⟨s.t,s.S.to,s.n⟩
def BU:List AV->List AV->List AV
 | c::cs,d::ds=>(match d with | .top => .top | _=>c)::BU cs ds
 | cs,_=>cs
theorem xx:∀ {cs ds:List AV},BU cs ds=ds->Fg cs ds
 | [],[],_=>trivial
 | c::cs,d::ds,h=>by
   simp only [BU,List.cons.injEq] at h
   refine ⟨?_,xx h.2⟩
   cases d<;>simp_all
 | [],_::_,h=>by simp [BU] at h
 | _::_,[],h=>by simp [BU] at h
def keyOf (o:bg):Nat:=match o.dst with
 | some d=>d
 | none=>match o.op with
   | .store _ (.t x) _=>x+100000
   | _=>0
def xy (a b:List Id):Bool:=a.all fun i => !b.any fun j=>My i j
def Mz (a b:eB):Bool:=xy (a.up.map (·.1)) b.rd&&xy (a.up.map (·.1)) (b.up.map (·.1))&&xy (b.up.map (·.1)) a.rd
def vU (rs:List eB) (ps:List (Nat × Nat)):Bool:=ps.all fun q=>match rs[q.1]?,rs[q.2]? with
 | some a,some b=>Mz a b
 | _,_=>true
theorem rC {a b:List Id} (h:xy a b=true) {i:Id} (hi:i∈a):i ∉ b:=by
 simp only [xy,List.all_eq_true,Bool.not_eq_true',List.any_eq_false] at h
 exact fun hj=>h i hi i hj (mC.2 rfl)
theorem Ay {rs:List eB} {ps:List (Nat × Nat)} (h:vU rs ps=true):aJ rs ps:=by
 intro q hq a b ha hb
 simp only [vU,List.all_eq_true] at h
 have:=h q hq
 rw [ha,hb] at this
 simp only [Mz,Bool.and_eq_true] at this
 obtain ⟨⟨h1,h2⟩,h3⟩:=this
 exact ⟨fun x hx=>⟨rC h1 (List.mem_map.2 ⟨x,hx,rfl⟩),rC h2 (List.mem_map.2 ⟨x,hx,rfl⟩)⟩,fun x hx=>rC h3 (List.mem_map.2 ⟨x,hx,rfl⟩)⟩
abbrev JQ:=List (JP × JP)
section
variable {P:Program} {G:Nat->Option (List AV)}
def vB (S:bP) (p:Id) (op:gj AV) (hs:List (Hint P G)):Option (JQ × List (Hint P G) × eB):=match bu S.to p op with
 | some r=>some ([],hs,r)
 | none=>none
def QN (S:bP) (p:Id) (k:Nat) (op:gj AV) (hs:List (Hint P G)):Option (JQ × List (Hint P G) × eB) :=
 match op with
 | .call f ar=>match f with
   | .fn (.func g) first cap=>match hs with
     | .vp f' eD r _ _::dr=>some ([(.call g (first++ar++cap) [], .call f' eD [])],dr,{ val:=r })
     | .rel f' eD S' r _ _::dr=>match S'.all fun x => !QM p x.1 with
       | true=>some ([(.call g (first++ar++cap) (S'.map fun x=>S.find x.1), .call f' eD (S'.map fun x=>some x.2))],dr,r p)
       | false=>none
     | _=>none
   | _=>none
 | op=>match hs with
   | .ev k' o r _::dr=>match Nat.beq k' k with
     | true=>some ([(.ev (bu S.to p op), .ev o)],dr,r)
     | false=>vB S p op hs
   | .eq k' a b _::dr=>match Nat.beq k' k with
     | true=>match bu S.to p op with
       | some r=>some ([(.val r.val, .val a)],dr,{ r with val:=b })
       | none=>none
     | false=>vB S p op hs
   | .st k' S' FQ r _::dr=>match Nat.beq k' k with
     | true=>some ([(.op op (S'.map fun x=>S.find x.1), .op FQ (S'.map fun x=>some x.2))],dr,r p)
     | false=>vB S p op hs
   | _=>vB S p op hs
def FR (π : Id) (base:Nat):List bg->Nat->List eB->List AV->bP->List (Hint P G)->Option (JQ × List (Hint P G) × List eB × List AV × bP)
 | [],_,acc,t,S,hs=>some ([],hs,acc,t,S)
 | o :: os,i,acc,t,S,hs=>match eP t o.guard with
   | none=>none
   | some false=>FR π base os (i+1) ({ val := .tup [] }::acc) (fL t o.dst (.tup [])) S hs
   | some true=>match QN S ((base+i) :: π) (keyOf o) (o.op.map (aO.ev G t)) hs with
     | none=>none
     | some (c,dr,r)=>match FR π base os (i+1) (r::acc) (fL t o.dst r.val) (S.app r.up) dr with
       | none=>none
       | some (cs,x)=>some (c++cs,x)
def aaL:aO->Nat
 | .t k=>k
 | _=>0
def eC : Bool->Nat->bA->Id->List (Hint P G)->TS->Option (JQ × List (Hint P G) × bB × TS)
 | _,0,_,_,_,_=>none
 | z,m+1,c, π,hs,s=>match c with
   | .skip=>some ([],hs, .normal,s)
   | .ret=>some ([],hs, .ret,s)
   | .exit i=>some ([],hs, .exit i,s)
   | .seq a b=>match eC true m a π hs s with
     | some (cs,dr, .normal,s')=>match eC true m b π dr s' with
       | some (fA,x)=>some (cs++fA,x)
       | none=>none
     | r=>r
   | .cond c a b=>match hs with
     | .br k x v _::dr=>match Nat.beq k (aaL c) with
       | true=>match eC true m (match v with | true=>a | false=>b) π dr s with
         | some (cs,y)=>some ((.val (c.ev G s.t), .val (.bool x))::cs,y)
         | none=>none
       | false=>match c.ev G s.t with
         | .bool true=>eC true m a π hs s
         | .bool false=>eC true m b π hs s
         | _=>none
     | _=>match c.ev G s.t with
       | .bool true=>eC true m a π hs s
       | .bool false=>eC true m b π hs s
       | _=>none
   | .block i c=>match eC true m c π hs s with
     | some (cs,dr, .exit j,s')=>match Nat.beq j i with
       | true=>some (cs,dr, .normal,s')
       | false=>some (cs,dr, .exit j,s')
     | r=>r
   | .loop c=>match z,hs with
     | true, .lp π' c' t0 S0 n0 e t1 S1 n1 _::dr=>match Nat.ble s.n n0 with
       | true=>some ([(.lp π c (BU s.t t0) (S0.map fun x=>s.S.find x.1), .lp π' c' t0 (S0.map fun x=>some x.2))],dr,e,⟨t1,S1,n1⟩)
       | false=>none
     | _,_=>match eC true m c π hs s with
       | some (cs,dr, .normal,s')=>match eC false m (.loop c) π dr s' with
         | some (fA,x)=>some (cs++fA,x)
         | none=>none
       | r=>r
   | .reg ps os=>match FR π s.n os 0 [] s.t s.S hs with
     | none=>none
     | some (cs,dr,rs,t,S)=>match ps with
       | none=>some (cs,dr, .normal,⟨t,S,s.n+os.length⟩)
       | some ps=>match vU rs.reverse ps with
         | true=>some (cs,dr, .normal,⟨t,S,s.n+os.length⟩)
         | false=>none
def mX (cs:JQ):Prop:=∀ x∈cs,x.1=x.2
theorem mX.of_map {cs:JQ} (h:cs.map (·.1)=cs.map (·.2)):mX cs:=by
 intro x hx
 obtain ⟨i,hi⟩:=List.getElem?_of_mem hx
 have:=congrArg (·[i]?) h
 simpa [List.getElem?_map,hi] using this
theorem mX.left {a b:JQ} (h:mX (a++b)):mX a:=fun x hx=>h x (List.mem_append_left _ hx)
theorem mX.right {a b:JQ} (h:mX (a++b)):mX b:=fun x hx=>h x (List.mem_append_right _ hx)
theorem j8 {S:bP} {S':List (Id × a8)} (h:(S'.map fun x=>S.find x.1)=S'.map fun x=>some x.2):∀ x∈S',S.to x.1=some x.2:=by
 intro x hx
 obtain ⟨i,hi⟩:=List.getElem?_of_mem hx
 have:=congrArg (·[i]?) h
 have e:S.find x.1=some x.2:=by simpa [List.getElem?_map,hi] using this
 exact e
theorem zY {S:bP} {p:Id} {k:Nat} {op:gj AV} {hs dr:List (Hint P G)} {cs:JQ} {r:eB} (h:QN S p k op hs=some (cs,dr,r)) (hc:mX cs) {K:eB->Prop} (hK:K r):tu P G S.to p op K:=by
 have auto:∀ {cs dr},vB S p op hs=some (cs,dr,r)->op.pW=false->tu P G S.to p op K:=by
   intro cs dr h o8
   unfold vB at h
   rw [qB o8]
   split at h
   . rename_i r' hr;simp only [Option.some.injEq,Prod.mk.injEq] at h;obtain ⟨_,_,rfl⟩:=h;rw [hr];exact hK
   . cases h
 have other:∀ {cs dr},op.pW=false->mX cs->(match hs with
   | .ev k' o r _::dr=>match Nat.beq k' k with
     | true=>some ([((JP.ev (bu S.to p op)), .ev o)],dr,r)
     | false=>vB S p op hs
   | .eq k' a b _::dr=>match Nat.beq k' k with
     | true=>match bu S.to p op with
       | some r=>some ([(.val r.val, .val a)],dr,{ r with val:=b })
       | none=>none
     | false=>vB S p op hs
   | .st k' S' FQ r _::dr=>match Nat.beq k' k with
     | true=>some ([(.op op (S'.map fun x=>S.find x.1), .op FQ (S'.map fun x=>some x.2))],dr,r p)
     | false=>vB S p op hs
   | _=>vB S p op hs)=some (cs,dr,r)->tu P G S.to p op K:=by
   intro cs dr o8 hc h
   cases hs with
   | nil=>exact auto h o8
   | cons x ic =>
     cases x with
     | ev k' o r' ho =>
       simp only [] at h
       split at h
       . simp only [Option.some.injEq,Prod.mk.injEq] at h
         obtain ⟨rfl,_,rfl⟩:=h
         have:=hc _ (List.mem_singleton.2 rfl)
         simp only [JP.ev.injEq] at this
         rw [qB o8,this,ho];exact hK
       . exact auto h o8
     | eq k' a b AU =>
       simp only [] at h
       split at h
       . split at h
         . rename_i r' hr
           simp only [Option.some.injEq,Prod.mk.injEq] at h
           obtain ⟨rfl,_,rfl⟩:=h
           have:=hc _ (List.mem_singleton.2 rfl)
           simp only [JP.val.injEq] at this
           rw [qB o8,hr]
           have e:{ r' with val:=b }=r':=by rw [<- AU, <- this]
           rw [e] at hK;exact hK
         . cases h
       . exact auto h o8
     | st k' S' FQ r' ho =>
       simp only [] at h
       split at h
       . simp only [Option.some.injEq,Prod.mk.injEq] at h
         obtain ⟨rfl,_,rfl⟩:=h
         have:=hc _ (List.mem_singleton.2 rfl)
         simp only [JP.op.injEq] at this
         rw [qB o8,this.1,ho _ _ (j8 this.2)];exact hK
       . exact auto h o8
     | _=>exact auto h o8
 cases op with
 | call f ar =>
   simp only [QN] at h
   simp only [tu]
   split at h
   . cases hs with
     | nil=>cases h
     | cons x ic =>
       cases x with
       | vp f' eD r' hv hp =>
         simp only [Option.some.injEq,Prod.mk.injEq] at h
         obtain ⟨rfl,_,rfl⟩:=h
         have:=hc _ (List.mem_singleton.2 rfl)
         simp only [JP.call.injEq,and_true] at this
         obtain ⟨rfl,e⟩:=this
         exact ⟨[],_,e▸aq.LI hv hp p,by simp,by simp,hK⟩
       | rel f' eD S' r' hv hr =>
         simp only [] at h
         split at h
         . rename_i ZK
           simp only [Option.some.injEq,Prod.mk.injEq] at h
           obtain ⟨rfl,_,rfl⟩:=h
           have:=hc _ (List.mem_singleton.2 rfl)
           simp only [JP.call.injEq] at this
           obtain ⟨rfl,e,e2⟩:=this
           refine ⟨S',_,e▸hv p fun x hx=>H0 ?_,j8 e2,hr p,hK⟩
           have:=List.all_eq_true.1 ZK x hx
           simpa using this
         . cases h
       | _=>cases h
   . cases h
 | _=>exact other rfl hc h
theorem BV {π : Id} {base:Nat} {rs:List eB} {t':List AV} {S':bP} {dr:List (Hint P G)} {K:List eB->List AV->aa->Prop} (hK:K rs.reverse t' S'.to) :
   ∀ (os:List bg) (i:Nat) (acc:List eB) (t:List AV) (S:bP) (hs:List (Hint P G)) (cs:JQ),FR π base os i acc t S hs=some (cs,dr,rs,t',S')->mX cs->xd P G π base K os i acc t S.to
 | [],i,acc,t,S,hs,cs,h,_=>by
   simp only [FR,Option.some.injEq,Prod.mk.injEq] at h
   obtain ⟨_,_,rfl,rfl,rfl⟩:=h
   exact hK
 | o :: os,i,acc,t,S,hs,cs,h,hc=>by
   simp only [FR] at h
   simp only [xd]
   split at h
   . cases h
   . rename_i hw;rw [hw];exact BV hK os _ _ _ _ _ _ h hc
   . rename_i hw
     rw [hw]
     split at h
     . cases h
     . rename_i c ic r hr
       split at h
       . cases h
       . rename_i cs1 x hx
         simp only [Option.some.injEq,Prod.mk.injEq] at h
         obtain ⟨rfl,rfl⟩:=h
         have:=BV hK os _ _ _ _ _ _ hx hc.right
         rw [bP.Ki] at this
         exact zY hr hc.left this
theorem BW {π : Id} {base:Nat} {rs:List eB} {t':List AV} {S':bP} {dr:List (Hint P G)} {K:List AV->aa->Prop} (hK:K t' S'.to) :
   ∀ (os:List bg) (i:Nat) (acc:List eB) (t:List AV) (S:bP) (hs:List (Hint P G)) (cs:JQ),FR π base os i acc t S hs=some (cs,dr,rs,t',S')->mX cs->xc P G π base K os i t S.to
 | [],i,acc,t,S,hs,cs,h,_=>by
   simp only [FR,Option.some.injEq,Prod.mk.injEq] at h
   obtain ⟨_,_,rfl,rfl,rfl⟩:=h
   exact hK
 | o :: os,i,acc,t,S,hs,cs,h,hc=>by
   simp only [FR] at h
   simp only [xc]
   split at h
   . cases h
   . rename_i hw;rw [hw];exact BW hK os _ _ _ _ _ _ h hc
   . rename_i hw
     rw [hw]
     split at h
     . cases h
     . rename_i c ic r hr
       split at h
       . cases h
       . rename_i cs1 x hx
         simp only [Option.some.injEq,Prod.mk.injEq] at h
         obtain ⟨rfl,rfl⟩:=h
         have:=BW hK os _ _ _ _ _ _ hx hc.right
         rw [bP.Ki] at this
         exact zY hr hc.left this
theorem zZ {c:bA} {π : Id}:∀ (m:Nat),(∀ m'<m,∀ (hs dr:List (Hint P G)) cs s s' e,eC true m' c π hs s=some (cs,dr,e,s')->mX cs->VW P G π c (fun e' s2=>e'=e/\s2=s'.to) s.to) ->
   ∀ (hs dr:List (Hint P G)) cs s s' e,eC false m (.loop c) π hs s=some (cs,dr,e,s')->mX cs->∃ n,VRd P G π c (fun e' s2=>e'=e/\s2=s'.to) n s.to
 | 0,_,_,_,_,_,_,_,h,_=>by simp [eC] at h
 | m + 1,hb,hs,dr,cs,s,s',e,h,hc=>by
   simp only [eC] at h
   split at h
   . rename_i c1 ic s1 h1
     split at h
     . rename_i c2 x h2
       simp only [Option.some.injEq,Prod.mk.injEq] at h
       obtain ⟨rfl,rfl⟩:=h
       obtain ⟨n,hn⟩:=zZ m (fun m' hm=>hb m' (by omega)) ic dr c2 s1 s' e h2 hc.right
       refine ⟨n+1,(hb m (by omega) hs ic c1 s s1 _ h1 hc.left).mono fun e' s2 hq => ?_⟩
       obtain ⟨rfl,rfl⟩:=hq
       exact hn
     . cases h
   . rename_i h1
     refine ⟨1,(hb m (by omega) hs dr cs s s' e h hc).mono fun e' s2 hq => ?_⟩
     obtain ⟨rfl,rfl⟩:=hq
     cases e' with
     | normal=>exact absurd h (h1 _ _ _)
     | exit i=>exact ⟨rfl,rfl⟩
     | ret=>exact ⟨rfl,rfl⟩
theorem VW.post {vc:bA} {π : Id} {Q:bB->VS->Prop} {s:VS} (h:VW P G π vc (fun e s'=>∃ s1,Q e s1/\Wk G π s' s1) s):VW P G π vc Q s:=by
 intro c hc own E w a R hm hR
 refine h c hc own E w a R hm fun e s' E' w' a' hq had mL => ?_
 obtain ⟨s1,h1,h2⟩:=hq
 obtain ⟨E1,a1,m1⟩:=h2 own E' w' a' mL
 exact hR e s1 E1 w' a' h1 (had.trans a1) m1
theorem dz : ∀ (m:Nat) (c:bA) (π : Id) (hs dr:List (Hint P G)) (cs:JQ) (s s':TS) (e:bB),eC true m c π hs s=some (cs,dr,e,s')->mX cs->VW P G π c (fun e' s2=>e'=e/\s2=s'.to) s.to
 | 0,_,_,_,_,_,_,_,_,h,_=>by simp [eC] at h
 | m + 1, c, π,hs,dr,cs,s,s',e,h,hc=>by
   have cnd:∀ {hs dr:List (Hint P G)} {cs:JQ} {a b:bA} {x:aO},(match x.ev G s.t with
       | .bool true=>eC true m a π hs s
       | .bool false=>eC true m b π hs s
       | _=>none)=some (cs,dr,e,s')->mX cs->VW P G π (.cond x a b) (fun e' s2=>e'=e/\s2=s'.to) s.to:=by
     intro hs dr cs a b x h hc
     split at h
     . rename_i hb;exact VW.cond hb (by simpa using dz m a π _ _ _ s s' e h hc)
     . rename_i hb;exact VW.cond hb (by simpa using dz m b π _ _ _ s s' e h hc)
     . cases h
   cases c with
   | skip=>simp only [eC,Option.some.injEq,Prod.mk.injEq] at h;obtain ⟨_,_,rfl,rfl⟩:=h;exact VW.skip ⟨rfl,rfl⟩
   | ret=>simp only [eC,Option.some.injEq,Prod.mk.injEq] at h;obtain ⟨_,_,rfl,rfl⟩:=h;exact VW.ret ⟨rfl,rfl⟩
   | exit i=>simp only [eC,Option.some.injEq,Prod.mk.injEq] at h;obtain ⟨_,_,rfl,rfl⟩:=h;exact VW.exit ⟨rfl,rfl⟩
   | seq a b =>
     simp only [eC] at h
     refine VW.seq ?_
     split at h
     . rename_i c1 ic s1 h1
       split at h
       . rename_i c2 x h2
         simp only [Option.some.injEq,Prod.mk.injEq] at h
         obtain ⟨rfl,rfl⟩:=h
         refine (dz m a π _ _ _ s s1 _ h1 hc.left).mono fun e' s2 hq => ?_
         obtain ⟨rfl,rfl⟩:=hq
         exact dz m b π _ _ _ s1 s' e h2 hc.right
       . cases h
     . rename_i h1
       refine (dz m a π _ _ _ s s' e h hc).mono fun e' s2 hq => ?_
       obtain ⟨rfl,rfl⟩:=hq
       cases e' with
       | normal=>exact absurd h (h1 _ _ _)
       | exit i=>exact ⟨rfl,rfl⟩
       | ret=>exact ⟨rfl,rfl⟩
   | cond x a b =>
     simp only [eC] at h
     cases hs with
     | nil=>exact cnd h hc
     | cons y ic =>
       cases y with
       | br k y v hv =>
         simp only [] at h
         split at h
         . split at h
           . rename_i c1 y1 h1
             simp only [Option.some.injEq,Prod.mk.injEq] at h
             obtain ⟨rfl,rfl⟩:=h
             have h2:=hc _ (List.mem_cons_self ..)
             simp only [JP.val.injEq] at h2
             have hc':mX c1:=fun z hz=>hc z (List.mem_cons_of_mem _ hz)
             refine VW.cond (b:=v) (by rw [<- hv];exact h2) ?_
             cases v with
             | true=>simpa using dz m a π _ _ _ s s' e h1 hc'
             | false=>simpa using dz m b π _ _ _ s s' e h1 hc'
           . cases h
         . exact cnd h hc
       | _=>exact cnd h hc
   | block i c =>
     simp only [eC] at h
     refine VW.block ?_
     split at h
     . rename_i c1 ic j s1 h1
       split at h
       . rename_i hj
         simp only [Option.some.injEq,Prod.mk.injEq] at h
         obtain ⟨rfl,rfl,rfl,rfl⟩:=h
         refine (dz m c π _ _ _ s _ _ h1 hc).mono fun e' s2 hq => ?_
         obtain ⟨rfl,rfl⟩:=hq
         simp [Nat.beq_eq▸hj]
       . rename_i hj
         simp only [Option.some.injEq,Prod.mk.injEq] at h
         obtain ⟨rfl,rfl,rfl,rfl⟩:=h
         refine (dz m c π _ _ _ s _ _ h1 hc).mono fun e' s2 hq => ?_
         obtain ⟨rfl,rfl⟩:=hq
         have : ¬ j=i:=fun e=>by rw [e,Nat.beq_refl] at hj;cases hj
         simp [this]
     . rename_i h1
       refine (dz m c π _ _ _ s s' e h hc).mono fun e' s2 hq => ?_
       obtain ⟨rfl,rfl⟩:=hq
       cases e' with
       | normal=>exact ⟨rfl,rfl⟩
       | exit i=>exact absurd h (h1 _ _ _ _)
       | ret=>exact ⟨rfl,rfl⟩
   | loop c =>
     have plain:∀ {h1':(match eC true m c π hs s with
       | some (cs,dr, .normal,s')=>match eC false m (.loop c) π dr s' with
         | some (fA,x)=>some (cs++fA,x)
         | none=>none
       | r=>r)=some (cs,dr,e,s')},VW P G π (.loop c) (fun e' s2=>e'=e/\s2=s'.to) s.to:=by
       intro h
       split at h
       . rename_i c1 ic s1 h1
         split at h
         . rename_i c2 x h2
           simp only [Option.some.injEq,Prod.mk.injEq] at h
           obtain ⟨rfl,rfl⟩:=h
           obtain ⟨n,hn⟩:=zZ m (fun m' hm hs dr cs s s' e hr hc=>dz m' c π hs dr cs s s' e hr hc) ic dr c2 s1 s' e h2 hc.right
           refine VW.rounds (n+1) ((dz m c π hs ic c1 s s1 _ h1 hc.left).mono fun e' s2 hq => ?_)
           obtain ⟨rfl,rfl⟩:=hq
           exact hn
         . cases h
       . rename_i h1
         refine VW.rounds 1 ((dz m c π hs dr cs s s' e h hc).mono fun e' s2 hq => ?_)
         obtain ⟨rfl,rfl⟩:=hq
         cases e' with
         | normal=>exact absurd h (h1 _ _ _)
         | exit i=>exact ⟨rfl,rfl⟩
         | ret=>exact ⟨rfl,rfl⟩
     cases hs with
     | nil=>simp only [eC] at h;exact plain (h1':=h)
     | cons y ic =>
     cases y with
     | lp π' c' t0 S0 n0 e1 t1 S1 n1 hv =>
       simp only [eC] at h
       split at h
       . rename_i hn
         simp only [Option.some.injEq,Prod.mk.injEq] at h
         obtain ⟨rfl,_,rfl,rfl⟩:=h
         have h2:=hc _ (List.mem_singleton.2 rfl)
         simp only [JP.lp.injEq] at h2
         obtain ⟨rfl,rfl,h3,h4⟩:=h2
         exact VW.wk (Wk.forget (xx h3) (fun i=>aa.mf (j8 h4) i) (Nat.le_of_ble_eq_true hn)) (VW.post (hv.mono fun e' s2 hq=>⟨_,⟨hq.1,rfl⟩,hq.2⟩))
       . cases h
     | _=>simp only [eC] at h;exact plain (h1':=h)
   | reg ps os =>
     simp only [eC] at h
     split at h
     . cases h
     . rename_i c1 ic rs t S h1
       cases ps with
       | none =>
         simp only [Option.some.injEq,Prod.mk.injEq] at h
         obtain ⟨rfl,rfl,rfl,rfl⟩:=h
         exact VW.Ql (BW ⟨rfl,rfl⟩ os _ _ _ _ _ _ h1 hc)
       | some ps =>
         simp only [] at h
         split at h
         . rename_i yD
           simp only [Option.some.injEq,Prod.mk.injEq] at h
           obtain ⟨rfl,rfl,rfl,rfl⟩:=h
           exact VW.Qm (BV ⟨Ay yD,rfl,rfl⟩ os _ _ _ _ _ _ h1 hc)
         . cases h
 termination_by m=>m
end
class PU (c:AV):Prop where
 pure:af c
 fix:∀ ρ,c.di ρ = c
class C5 (l:List AV):Prop where
 pure:∀ c∈l,af c
 fix:∀ ρ,bJ ρ l=l
instance:C5 []:=⟨by simp,fun _=>rfl⟩
instance {c:AV} {l:List AV} [h:PU c] [k:C5 l]:C5 (c::l):=⟨by intro d hd;rcases List.mem_cons.1 hd with rfl | hd;exact h.pure;exact k.pure d hd,fun ρ => by simp only [bJ,h.fix,k.fix]⟩
instance {b:Bool}:PU (.bool b):=⟨af.bool b,fun _=>rfl⟩
instance {k:IntKind} {n:Int}:PU (.int k n):=⟨af.int k n,fun _=>rfl⟩
instance {l:List UInt8}:PU (.str l):=⟨af.str l,fun _=>rfl⟩
instance:PU .nils:=⟨af.nils,fun _=>rfl⟩
instance:PU .nilp:=⟨af.nilp,fun _=>rfl⟩
instance:PU .nilf:=⟨af.nilf,fun _=>rfl⟩
instance {l:List AV} [h:C5 l]:PU (.agg l):=⟨af.agg h.pure,fun ρ => by simp only [AV.di,h.fix]⟩
instance {l:List AV} [h:C5 l]:PU (.tup l):=⟨af.tup h.pure,fun ρ => by simp only [AV.di,h.fix]⟩
instance {l:List AV} {o:Nat} [h:C5 l]:PU (.ep l o):=⟨af.ep h.pure,fun ρ => by simp only [AV.di,h.fix]⟩
instance {f:Fn} {a c:List AV} [h:C5 a] [k:C5 c]:PU (.fn f a c):=⟨af.fn h.pure k.pure,fun ρ => by simp only [AV.di,h.fix,k.fix]⟩
theorem PU.slice {k:Nat} {l:List AV} (h:∀ c∈flat l,af c) (hf:∀ c∈l,∀ ρ,c.di ρ = c):PU (.sl k l):=⟨af.sl h,fun ρ => by
 have e:bJ ρ l=l:=by rw [fG];exact (List.map_congr_left fun c hc=>hf c hc ρ).trans (List.map_id l)
 simp only [AV.di,e]⟩
instance {k:Nat}:PU (.sl k []):=PU.slice (by simp [flat]) (by simp)
section
variable {P:Program} {G:Nat->Option (List AV)}
def hc {f:FuncId} {args:List AV} {r:AV} (h:VP P G f args r) [p:C5 args]:Hint P G := .vp f args r h p.pure
def hb (k:Nat) {x b:Bool} (h:x=b):Hint P G := .eq k (.bool x) (.bool b) (by rw [h])
def hw (k:Nat) {x y:Int} (h:x=y) (i:IntKind := .i64):Hint P G := .eq k (.int i x) (.int i y) (by rw [h])
def hv (k:Nat) {a b:AV} (h:a=b):Hint P G := .eq k a b h
def ho (k:Nat) {o:Option AV} {v:AV} (h:o=some v):Hint P G := .ev k (bo o) { val:=v } (by rw [h];rfl)
def hbr (k:Nat) {x b:Bool} (h:x=b):Hint P G := .br k x b h
abbrev Kj (P:Program) (G:Nat->Option (List AV)):=Option (JQ × List (Hint P G) × bB × TS)
def MA:bB->Bool
 | .normal=>true
 | .ret=>true
 | _=>false
def BX (rs:List pO):Kj P G->Option (List JP × Bool × Option AV)
 | some (cs,_,e,s)=>some (cs.map (·.1),MA e,fY rs s.to)
 | none=>none
def BZ (r:AV):Kj P G->Option (List JP × Bool × Option AV)
 | some (cs,_,_,_)=>some (cs.map (·.2),true,some r)
 | none=>some ([],true,none)
theorem rD {e:bB} (h:MA e=true):e = .normal∨e = .ret:=by cases e<;>simp [MA] at h ⊢
abbrev Az (vf:aL) (args:List AV) (hs:List (Hint P G)):Kj P G:=eC true 1000 vf.body [] hs ⟨args++List.replicate (vf.nt-args.length) (.tup []),[],0⟩
theorem VP.tr {f:FuncId} {vf:aL} (h:Has P f vf) (hs:List (Hint P G)) {args:List AV} {r:AV} [hp:PU r] (hr:BX vf.results (Az vf args hs)=BZ r (Az vf args hs):=by kernel_rfl):VP P G f args r:=by
 obtain ⟨fn,hf,hc⟩:=h
 refine VP.LJ hf hc ?_
 cases hx:Az vf args hs with
 | none=>rw [hx] at hr;simp [BX,BZ] at hr
 | some y =>
   obtain ⟨cs,dr,e,s⟩:=y
   rw [hx] at hr
   simp only [BX,BZ,Option.some.injEq,Prod.mk.injEq] at hr
   refine (dz 1000 _ _ _ _ _ _ _ _ hx (mX.of_map hr.1)).mono fun e' s2 hq => ?_
   obtain ⟨rfl,rfl⟩:=hq
   exact ⟨rD hr.2.1,r,hr.2.2,View.pure hp.pure⟩
def tD (rs:List pO) (K:List (Id × a8)):Kj P G->Option (List JP × Bool × Option AV × List (Option a8))
 | some (cs,_,e,s)=>some (cs.map (·.1),MA e,fY rs s.to,K.map fun x=>s.S.find x.1)
 | none=>none
def tE (r:AV) (K:List (Id × a8)):Kj P G->Option (List JP × Bool × Option AV × List (Option a8))
 | some (cs,_,_,_)=>some (cs.map (·.2),true,some r,K.map fun x=>some x.2)
 | none=>some ([],true,none,[])
theorem VP.trV {f:FuncId} {vf:aL} (h:Has P f vf) (hs:List (Hint P G)) (K:List (Id × a8)) (r0:AV) {args:List AV} {r:AV} (hr:tD vf.results K (Az vf args hs)=tE r0 K (Az vf args hs))
   (hv:∀ σ : aa,(∀ x∈K, σ x.1=some x.2)->View σ r0 r):VP P G f args r:=by
 obtain ⟨fn,hf,hc⟩:=h
 refine VP.LJ hf hc ?_
 cases hx:Az vf args hs with
 | none=>rw [hx] at hr;simp [tD,tE] at hr
 | some y =>
   obtain ⟨cs,dr,e,s⟩:=y
   rw [hx] at hr
   simp only [tD,tE,Option.some.injEq,Prod.mk.injEq] at hr
   refine (dz 1000 _ _ _ _ _ _ _ _ hx (mX.of_map hr.1)).mono fun e' s2 hq => ?_
   obtain ⟨rfl,rfl⟩:=hq
   exact ⟨rD hr.2.1,r0,hr.2.2.1,hv _ (j8 hr.2.2.2)⟩
def uQ (ρ : Id->Id) (K:List (Id × a8)):List (Id × a8):=K.map fun x=>(ρ x.1,x.2.di ρ)
def rE (K:List (Id × a8)):bP:=K.map fun x=>(x.1,some x.2)
theorem xz:∀ {K:List (Id × a8)} {i:Id} {b:a8},(rE K).to i=some b->(i,b)∈K
 | [],_,_,h=>by cases h
 | (j,c)::K,i,b,h=>by
   have h':bP.find ((j,some c)::rE K) i=some b:=h
   simp only [bP.find] at h'
   split at h'
   . rename_i he;simp only [Option.some.injEq] at h';subst h';rw [mC.1 he];simp
   . exact List.mem_cons_of_mem _ (xz h')
theorem lH:∀ {S:List (Id × a8)} {x:Id × a8},(S.map (·.1)).Nodup->x∈S->aa.of S x.1=some x.2
 | [],x,_,hx=>by simp at hx
 | (j,c)::S,x,AW,hx=>by
   simp only [List.map_cons,List.nodup_cons] at AW
   rcases List.mem_cons.1 hx with rfl | hx
   . simp [aa.of]
   . have hne:x.1≠j:=fun e=>AW.1 (List.mem_map.2 ⟨x,hx,e⟩)
     show List.lookup _ _=_
     rw [List.lookup_cons]
     have:(x.1==j)=false:=by simpa using hne
     rw [this]
     exact lH AW.2 hx
theorem H2 {ρ : Id->Id}:∀ {K:List (Id × a8)},((uQ ρ K).map (·.1)).Nodup->∀ x∈K,∀ y∈K,x.1≠y.1 -> ρ x.1 ≠ ρ y.1
 | [],_,x,hx,_,_,_=>by simp at hx
 | z::K,h,x,hx,y,hy,hne=>by
   have h':((ρ z.1,z.2.di ρ)::uQ ρ K).map (·.1) |>.Nodup:=h
   simp only [List.map_cons,List.nodup_cons] at h'
   have hm:∀ w∈K, ρ w.1∈(uQ ρ K).map (·.1):=fun w hw=>List.mem_map.2 ⟨(ρ w.1,w.2.di ρ),List.mem_map.2 ⟨w,hw,rfl⟩,rfl⟩
   rcases List.mem_cons.1 hx with FO | FO<;>rcases List.mem_cons.1 hy with C4 | C4
   . exact absurd (by rw [FO,C4]) hne
   . subst FO;exact fun e=>h'.1 (e▸hm y C4)
   . subst C4;exact fun e=>h'.1 (e▸hm x FO)
   . exact H2 h'.2 x FO y C4 hne
theorem VW.trR {vc:bA} {π : Id} {n:Nat} {κ : Nat->Id} {hs dr:List (Hint P G)} {cs:JQ} {t0:List AV} {S0:List (Id × a8)} {e:bB} {s:TS} (hr:eC true 1000 vc [0] hs ⟨t0,rE S0,0⟩=some (cs,dr,e,s)) (hc:mX cs) (hd:((uQ (j2 n π κ) S0).map (·.1)).Nodup) :
   VW P G π vc (fun e' s'=>e'=e/\s'.t=bJ (j2 n π κ) s.t/\s'.n=n+s.n/\Oa (j2 n π κ) s.S.to s'.σ) ⟨bJ (j2 n π κ) t0,aa.of (uQ (j2 n π κ) S0),n⟩:=by
 refine (VW.di (κ := κ) (n:=n) (dz 1000 _ _ _ _ _ _ _ _ hr hc) (fun i b hb => ?_) fun i j hi hj hne => ?_).mono fun e' s' hq => ?_
 . exact lH hd (List.mem_map.2 ⟨(i,b),xz hb,rfl⟩)
 . obtain ⟨b,hb⟩:=Option.ne_none_iff_exists'.1 hi
   obtain ⟨c,hc⟩:=Option.ne_none_iff_exists'.1 hj
   exact H2 hd _ (xz hb) _ (xz hc) hne
 . obtain ⟨s0,⟨rfl,rfl⟩,h1,h2,h3⟩:=hq
   exact ⟨rfl,h1,h2,h3⟩
def rest (wM S0:List (Id × a8)):List (Id × a8):=S0.filter fun x => !wM.any fun y=>My y.1 x.1
theorem aq.tr {f:FuncId} {vf:aL} (h:Has P f vf) (κ : Nat->Id) {p:Id} (hs:List (Hint P G)) {args:List AV} {S up:List (Id × a8)} {val:AV} (ma:List AV) (S0:List (Id × a8)) (Oe:AV) (wM:List (Id × a8))
   (hr:tD vf.results (wM++rest wM S0) (eC true 1000 vf.body [0] hs ⟨ma++List.replicate (vf.nt-ma.length) (.tup []),rE S0,0⟩)=tE Oe (wM++rest wM S0) (eC true 1000 vf.body [0] hs ⟨ma++List.replicate (vf.nt-ma.length) (.tup []),rE S0,0⟩))
   (ha:bJ (j2 0 p κ) ma=args) (hS:uQ (j2 0 p κ) S0=S) (hv:Oe.di (j2 0 p κ)=val) (hu:uQ (j2 0 p κ) wM=up) (hd:(S.map (·.1)).Nodup) (hd2:(up.map (·.1)).Nodup) :
   aq P G f args p S { val,rd:=S.map (·.1),up:=up.map fun x=>(x.1,some x.2) }:=by
 subst ha;subst hS;subst hv;subst hu
 obtain ⟨fn,hf,hcf⟩:=h
 cases hx:eC true 1000 vf.body [0] hs ⟨ma++List.replicate (vf.nt-ma.length) (.tup []),rE S0,0⟩ with
 | none=>rw [hx] at hr;simp [tD,tE] at hr
 | some y =>
   obtain ⟨cs,dr,e,s⟩:=y
   rw [hx] at hr
   simp only [tD,tE,Option.some.injEq,Prod.mk.injEq] at hr
   obtain ⟨hk,he,ho,hK⟩:=hr
   have hK':=j8 hK
   refine aq.V5 hf hcf ?_
   have e0:bJ (j2 0 p κ) ma++List.replicate (vf.nt-(bJ (j2 0 p κ) ma).length) (.tup [])=bJ (j2 0 p κ) (ma++List.replicate (vf.nt-ma.length) (.tup [])):=by
     rw [fZ,gS]
     congr 1
     rw [fG,List.map_replicate];rfl
   rw [e0]
   refine (VW.trR (κ := κ) (n:=0) (π := p) hx (mX.of_map hk) hd).mono fun e' s' hq => ?_
   obtain ⟨rfl,h1,h2,h3⟩:=hq
   refine ⟨rD he,_,Od (s0:=s.to) h1 h3 ho,Fin.same rfl fun j => ?_⟩
   by_cases hj:∃ x∈(uQ (j2 0 p κ) wM).map (fun x=>(x.1,some x.2)),x.1=j
   . right
     obtain ⟨x,FO,rfl⟩:=hj
     obtain ⟨y,hy,rfl⟩:=List.mem_map.1 FO
     obtain ⟨z,hz,rfl⟩:=List.mem_map.1 hy
     have a1:s'.σ (j2 0 p κ z.1)=some (z.2.di (j2 0 p κ)):=h3.1 _ _ (hK' z (List.mem_append_left _ hz))
     have a2:∀ (U:List (Id × a8)) (σ : aa),(U.map (·.1)).Nodup->∀ w∈U, σ.app (U.map fun x=>(x.1,some x.2)) w.1=some w.2:=by
       intro U
       induction U with
       | nil=>intro σ _ w hw;simp at hw
       | cons u U ih =>
         intro σ hn w hw
         simp only [List.map_cons,List.nodup_cons] at hn
         simp only [List.map_cons,aa.app]
         rcases List.mem_cons.1 hw with rfl | hw
         . rw [aa.FM,aa.a6]
           rintro x hx e
           obtain ⟨v,hv,rfl⟩:=List.mem_map.1 hx
           exact hn.1 (List.mem_map.2 ⟨v,hv,e⟩)
         . exact ih _ hn.2 w hw
     rw [a1]
     exact a2 _ _ hd2 _ (List.mem_map.2 ⟨z,hz,rfl⟩)
   . rw [aa.FM _ _ _ fun x hx e=>hj ⟨x,hx,e⟩]
     cases hl:(uQ (j2 0 p κ) S0).lookup j with
     | none=>exact .inl hl
     | some b =>
       right
       show List.lookup _ _=_
       rw [hl]
       obtain ⟨z,hz,ez⟩:=List.mem_map.1 (eR hl)
       simp only [Prod.mk.injEq] at ez
       obtain ⟨rfl,rfl⟩:=ez
       have hz2:z∈rest wM S0:=by
         refine List.mem_filter.2 ⟨hz, ?_⟩
         cases hb:wM.any fun y=>My y.1 z.1 with
         | false=>rfl
         | true =>
           obtain ⟨y,hy,hyz⟩:=List.any_eq_true.1 hb
           exact absurd ⟨(j2 0 p κ y.1,some (y.2.di (j2 0 p κ))),List.mem_map.2 ⟨_,List.mem_map.2 ⟨y,hy,rfl⟩,rfl⟩,by rw [mC.1 hyz]⟩ hj
       exact (h3.1 _ _ (hK' z (List.mem_append_right _ hz2))).symm
def Eu (K:List (Id × a8)) (t1:List AV) (n1:Nat):Kj P G->Option (List JP × bB × Bool × List AV × List (Option a8))
 | some (cs,_,e,s)=>some (cs.map (·.1),e,Nat.ble s.n n1,BU s.t t1,K.map fun x=>s.S.find x.1)
 | none=>none
def Ev (e1:bB) (K:List (Id × a8)) (t1:List AV):Kj P G->Option (List JP × bB × Bool × List AV × List (Option a8))
 | some (cs,_,_,_)=>some (cs.map (·.2),e1,true,t1,K.map fun x=>some x.2)
 | none=>some ([],e1,true,[],[])
theorem QO {ρ : Id->Id}:∀ {cs ds:List AV},Fg cs ds->Fg (bJ ρ cs) (bJ ρ ds)
 | [],[],_=>trivial
 | c::cs,d::ds,h=>by
   simp only [Fg] at h
   refine ⟨?_,QO h.2⟩
   rcases h.1 with rfl | rfl
   . exact .inl rfl
   . exact .inr rfl
 | [],_::_,h=>by simp [Fg] at h
 | _::_,[],h=>by simp [Fg] at h
theorem VW.tr {vc:bA} {π : Id} {n:Nat} (κ : Nat->Id) (hs:List (Hint P G)) {t t':List AV} {S K:List (Id × a8)} {Q:bB->VS->Prop} (t0:List AV) (S0:List (Id × a8)) (e1:bB) (t1:List AV) (K0:List (Id × a8)) (n1:Nat)
   (hr:Eu K0 t1 n1 (eC true 1000 vc [0] hs ⟨t0,rE S0,0⟩)=Ev e1 K0 t1 (eC true 1000 vc [0] hs ⟨t0,rE S0,0⟩))
   (ht:bJ (j2 n π κ) t0=t) (hS:uQ (j2 n π κ) S0=S) (uB:bJ (j2 n π κ) t1=t') (hK:uQ (j2 n π κ) K0=K) (hd:(S.map (·.1)).Nodup) (hq:∀ s,Wk G π s ⟨t',aa.of K,n+n1⟩->Q e1 s) :
   VW P G π vc Q ⟨t,aa.of S,n⟩:=by
 subst ht;subst hS;subst uB;subst hK
 cases hx:eC true 1000 vc [0] hs ⟨t0,rE S0,0⟩ with
 | none=>rw [hx] at hr;simp only [Eu,Ev] at hr;cases hr
 | some y =>
   obtain ⟨cs,dr,e,s⟩:=y
   rw [hx] at hr
   simp only [Eu,Ev,Option.some.injEq,Prod.mk.injEq] at hr
   obtain ⟨hk,rfl,hn,hm,hK⟩:=hr
   refine (VW.trR (κ := κ) (n:=n) (π := π) hx (mX.of_map hk) hd).mono fun e' s' hq' => ?_
   obtain ⟨rfl,h1,h2,h3⟩:=hq'
   refine hq s' ?_
   obtain ⟨t2, σ2,n2⟩:=s'
   simp only [] at h1 h2 h3
   subst h1;subst h2
   refine Wk.forget (QO (xx hm)) (fun j=>aa.mf (fun x hx => ?_) j) (Nat.add_le_add_left (Nat.le_of_ble_eq_true hn) _)
   obtain ⟨z,hz,rfl⟩:=List.mem_map.1 hx
   exact h3.1 _ _ (j8 hK z hz)
end
end Go.VL
namespace Go.Proofs.YtcomlgfjnjpebaaGreatDoor
section
open Go.VL Go.Proofs
noncomputable def co (n:Nat):Option aL:=(Tryz.prog.funcs[n]?).bind (Bi Tryz.prog)
noncomputable def cn (n:Nat):aL:=(co n).getD ⟨0,[], .skip⟩
abbrev Hn (n:Nat):Prop:=Has Tryz.prog n (cn n)
theorem hN {n:Nat} (e:(co n).isSome=true:=by kernel_rfl):Hn n:=by
 obtain ⟨x,hx⟩:=Option.isSome_iff_exists.1 e
 have h:=hx
 rw [co,Option.bind_eq_some_iff] at h
 obtain ⟨fn,h1,h2⟩:=h
 exact ⟨fn,h1,by rw [cn,hx];exact h2⟩
theorem vt {n:Nat} {G:Nat->Option (List AV)} (l:List (Hint Tryz.prog G)) {args:List AV} {r:AV} [PU r] (hr:BX (cn n).results (Az (cn n) args l)=BZ r (Az (cn n) args l):=by kernel_rfl) (e:(co n).isSome=true:=by kernel_rfl):VP Tryz.prog G n args r:=VP.tr (hN e) l hr
end
end Go.Proofs.YtcomlgfjnjpebaaGreatDoor
namespace Go.VL
def mh:aL:=⟨17,[(.tmp 2)],(cS [oB 2 false] (cS [oM 3 0,⟨some 4,.bin .geq .int (.t 3) (.c (.int .u8 97)),none⟩,oM 5 4,gM 6 0 5 true,⟨some 7,.bin .leq .int (.t 6) (.c (.int .u8 122)),some (5,true)⟩,nY 8 5 7,oM 9 8,gM 10 0 9 false,⟨some 11,.bin .geq .int (.t 10) (.c (.int .u8 65)),some (9,false)⟩,gM 12 11 9 false,gM 13 0 12 true,⟨some 14,.bin .leq .int (.t 13) (.c (.int .u8 90)),some (12,true)⟩,⟨some 15,.pick (.t 12) (.t 14) (.c (.bool false)),some (9,false)⟩,tf 16 9 15,oM 2 16] .ret))⟩
def mY:aL:=⟨9,[(.tmp 2)],(cS [oB 2 false] (cS [oM 3 0,⟨some 4,.bin .geq .int (.t 3) (.c (.int .u8 48)),none⟩,oM 5 4,gM 6 0 5 true,⟨some 7,.bin .leq .int (.t 6) (.c (.int .u8 57)),some (5,true)⟩,nY 8 5 7,oM 2 8] .ret))⟩
def rF:aL:=⟨20,[(.tmp 4)],(cS [oI 4 0] (cS [oI 5 0] (.seq (.block 0 (.loop (.seq (cS [oM 6 5,oM 7 0,⟨some 8,.len true (.t 7),none⟩,oT 9 .lss 6 8,oM 10 9,gM 11 1 10 true,gM 12 0 10 true,gM 13 5 10 true,⟨some 14,.indexS (.t 12) (.t 13),some (10,true)⟩,⟨some 15,.call (.t 11) [.t 14],some (10,true)⟩,nY 16 10 15] (.cond (.t 16) .skip (.exit 0))) (.block 1 (cR [oM 17 5,da 18 .add 17 1,oM 5 18]))))) (cS [oM 19 5,oM 4 19] .ret))))⟩
def j9 (yW FT B0:Nat):aL:=⟨22,[(.tmp 2)],(cS [oB 2 false] (cS [oM 3 0,⟨some 4,.bin .neq .str (.t 3) (.c (.str [])),none⟩,oM 5 4,gM 6 0 5 true,⟨some 7,.len true (.t 6),some (5,true)⟩,⟨some 8,.bin .leq .int (.t 7) (.c (.int .i64 24)),some (5,true)⟩,nY 9 5 8,oM 10 9,gM 11 0 10 true,⟨some 12,.indexS (.t 11) (.c (.int .i64 0)),some (10,true)⟩,⟨some 13,.call (.f yW) [.t 12],some (10,true)⟩,nY 14 10 13,oM 15 14,gM 16 0 15 true,⟨some 17,.call (.f FT) [(.t 16),(.f B0)],some (15,true)⟩,gM 18 0 15 true,⟨some 19,.len true (.t 18),some (15,true)⟩,gT 20 .eql 17 19 15 true,nY 21 15 20,oM 2 21] .ret))⟩
def cJ (c:UInt8):Bool:=(decide ((97:Int)<=c.toNat)&&decide ((c.toNat:Int)<=122))||(decide ((65:Int)<=c.toNat)&&decide ((c.toNat:Int)<=90))
def jE (c:UInt8):Bool:=decide ((48:Int)<=c.toNat)&&decide ((c.toNat:Int)<=57)
def db (c:UInt8):Bool:=cJ c||jE c||decide ((c.toNat:Int)=95)
def ga (c:UInt8):AV := .int .u8 c.toNat
theorem eX (c:UInt8):af (ga c):=af.int _ _
section
variable {P:Program} {G:Nat->Option (List AV)}
theorem H3 {f:FuncId} (h:Has P f mh) (c:UInt8):VP P G f [ga c] (.bool (cJ c)):=by
 refine VP.has h ?_
 unfold cJ
 by_cases h1:(97:Int)<=c.toNat<;>by_cases h2:(c.toNat:Int)<=122<;>by_cases h3:(65:Int)<=c.toNat<;>by_cases h4:(c.toNat:Int)<=90 <;>
   (simp only [mh,ga,SS,Nat.reduceAdd,h1,h2,h3,h4,decide_true,decide_false,Bool.and_self,Bool.and_true,Bool.and_false,Bool.or_false,Bool.or_true,Bool.or_self]
    exact ah▸ae rfl (af.bool _))
theorem Kk {f:FuncId} (h:Has P f mY) (c:UInt8):VP P G f [ga c] (.bool (jE c)):=by
 refine VP.has h ?_
 unfold jE
 by_cases h1:(48:Int)<=c.toNat<;>by_cases h2:(c.toNat:Int)<=57 <;>
   (simp only [mY,ga,SS,Nat.reduceAdd,h1,h2,decide_true,decide_false,Bool.and_self,Bool.and_true,Bool.and_false]
    exact ah▸ae rfl (af.bool _))
def fH (p:UInt8->Bool) (s:List UInt8):Nat:=(s.takeWhile p).length
theorem B1 (p:UInt8->Bool):∀ s:List UInt8,fH p s<=s.length
 | []=>Nat.le_refl _
 | c::s=>by unfold fH;simp only [List.takeWhile_cons];split<;>simp;exact B1 p s
theorem B2 (p:UInt8->Bool):∀ (s:List UInt8) (k:Nat),k<fH p s->∃ c,s[k]? = some c/\p c=true
 | [],k,h=>by simp [fH] at h
 | c :: s,k,h=>by
   unfold fH at h;simp only [List.takeWhile_cons] at h
   split at h
   . rename_i hc
     cases k with
     | zero=>exact ⟨c,rfl,hc⟩
     | succ k=>simpa using B2 p s k (by simpa [fH] using h)
   . simp at h
theorem vV (p:UInt8->Bool):∀ (s:List UInt8),s[fH p s]? = none∨∃ c,s[fH p s]? = some c/\p c=false
 | [] => .inl rfl
 | c::s=>by
   unfold fH;simp only [List.takeWhile_cons]
   split
   . simpa [fH] using vV p s
   . rename_i hc;exact .inr ⟨c,rfl,by simpa using hc⟩
theorem dH {s:List UInt8} {k:Nat} {c:UInt8} (h:s[k]? = some c):(if (0:Int)<=(k:Int) then bo ((s[(k:Int).toNat]?).map fun b=>AV.int .u8 b.toNat) else none)=bo (some (ga c)):=by
 rw [if_pos (by omega),Int.toNat_natCast,h];rfl
theorem FU (k:Nat) (h:k<=9223372036854775807):IntKind.i64.wrap (k:Int)=k:=by rw [IntKind.wrap_i64];omega
theorem ao (k:Nat) (h:k<9223372036854775807):IntKind.i64.wrap ((k:Int)+1)=((k+1:Nat):Int):=by rw [IntKind.wrap_i64];omega
theorem Ul {f fw:FuncId} (h:Has P f rF) {p:UInt8->Bool} (hw:∀ c,VP P G fw [ga c] (.bool (p c))) (s:List UInt8) (hs:s.length<9223372036854775807) :
   VP P G f [.str s, .fn (.func fw) [] []] (.int .i64 (fH p s)):=by
 refine VP.has h ?_
 simp only [rF,SS,Nat.reduceAdd,az]
 refine VW.bG (α := Nat × Nat) (fun x=>⟨[.str s, .fn (.func fw) [] [], .top, .top, .top, .int .i64 x.1]++List.replicate 14 .top,fun _=>none,x.2⟩) (fun x=>x.1<=fH p s) (fun x=>fH p s-x.1) (0,2) ?_ (Nat.zero_le _) ?_
 . exact Wk.slots (by simp [Fg,List.replicate]) (Nat.le_refl _)
 rintro ⟨k,n⟩ hk
 simp only [] at hk
 have FV:=B1 p s
 simp only [SS,Nat.reduceAdd]
 by_cases hlt:k<fH p s
 . obtain ⟨c,hc,QP⟩:=B2 p s k hlt
   have h1:(k:Int)<(s.length:Int):=by omega
   simp only [SS,Nat.reduceAdd,h1,decide_true,dH hc]
   refine aj (hw c) (by simp [eX]) ?_
   rw [QP]
   simp only [SS,Nat.reduceAdd,ao k (by omega)]
   exact ⟨(k+1,_),by simp only [];omega,by simp only [];omega,Wk.slots (by simp [Fg]) (Nat.le_refl _)⟩
 . have MB:k=fH p s:=by omega
   rcases vV p s with h0 | ⟨c,hc,QP⟩
   . have h1 : ¬ (k:Int)<(s.length:Int):=by have:=List.getElem?_eq_none_iff.1 h0;omega
     simp only [SS,Nat.reduceAdd,h1,decide_false]
     rw [MB]
     exact ah▸ae rfl (af.int _ _)
   . have h1:(k:Int)<(s.length:Int):=by have:=(List.getElem?_eq_some_iff.1 hc).1;omega
     rw [<- MB] at hc
     simp only [SS,Nat.reduceAdd,h1,decide_true,dH hc]
     refine aj (hw c) (by simp [eX]) ?_
     rw [QP]
     simp only [SS,Nat.reduceAdd]
     rw [MB]
     exact ah▸ae rfl (af.int _ _)
def b7 (s:List UInt8):Bool:=match s with
 | []=>false
 | c::_=>decide (s.length<=24)&&cJ c&&decide (fH db s=s.length)
theorem Of {f fl fs fw:FuncId} (h:Has P f (j9 fl fs fw)) (hl:∀ c,VP P G fl [ga c] (.bool (cJ c)))
   (hs:∀ s:List UInt8,s.length<9223372036854775807->VP P G fs [.str s, .fn (.func fw) [] []] (.int .i64 (fH db s))) (s:List UInt8):VP P G f [.str s] (.bool (b7 s)):=by
 refine VP.has h ?_
 cases s with
 | nil =>
   simp only [j9,SS,Nat.reduceAdd]
   exact ah▸ae rfl (af.bool _)
 | cons c s =>
   have e0:(!((c::s)==([]:List UInt8)))=true:=rfl
   by_cases h1:(((s.length+1:Nat)):Int)<=24
   . have e1:(if (0:Int)<=0 then bo (Option.map (fun b=>AV.int IntKind.u8 ↑b.toNat) (c::s)[Int.toNat 0]?) else none)=bo (some (ga c)):=rfl
     simp only [j9,SS,Nat.reduceAdd,e0,h1,decide_true,e1]
     refine aj (hl c) (by simp [eX]) ?_
     cases h2:cJ c
     . simp only [SS,Nat.reduceAdd]
       have:b7 (c::s)=false:=by unfold b7;simp [h2]
       rw [this]
       exact ah▸ae rfl (af.bool _)
     . simp only [SS,Nat.reduceAdd]
       refine aj (hs (c::s) (by simp only [List.length_cons];omega)) (by simp;exact ⟨af.str _,af.fn (by simp) (by simp)⟩) ?_
       by_cases h3:fH db (c::s)=(s.length+1)
       . have h4:(fH db (c::s):Int)=((s.length+1:Nat):Int):=by omega
         simp only [SS,Nat.reduceAdd,h4,decide_true]
         have:b7 (c::s)=true:=by unfold b7;simp [h2,h3];omega
         rw [this]
         exact ah▸ae rfl (af.bool _)
       . have h4 : ¬ (fH db (c::s):Int)=((s.length+1:Nat):Int):=by omega
         simp only [SS,Nat.reduceAdd,h4,decide_false]
         have:b7 (c::s)=false:=by unfold b7;simp [h3]
         rw [this]
         exact ah▸ae rfl (af.bool _)
   . simp only [j9,SS,Nat.reduceAdd,e0,h1,decide_false]
     have:b7 (c::s)=false:=by unfold b7;simp only [List.length_cons];simp;intro h;omega
     rw [this]
     exact ah▸ae rfl (af.bool _)
end
theorem aN {k kk:Nat} {es:List AV} {e:AV} {ik:IntKind} {i:Nat} (hk:kk=k) (h:es[i]? = some e):aV k (.sl kk es) (.int ik (i:Int))=some (.ep e.cells 0):=by
 subst hk
 simp [aV,h]
def vW:Option Nat->Int
 | some i=>i
 | none => -1
theorem nG {α : Type} {p : α -> Bool} {l:List α} (h:∀ (j:Nat) x,l[j]? = some x->p x=false):l.findIdx? p=none:=by
 rw [List.findIdx?_eq_none_iff]
 intro x hx
 obtain ⟨j,hj⟩:=List.getElem?_of_mem hx
 exact h j x hj
theorem nH {α : Type} {p : α -> Bool} {l:List α} {i:Nat} {x : α} (hi:l[i]? = some x) (hx:p x=true) (h:∀ (j:Nat) x,j<i->l[j]? = some x->p x=false):l.findIdx? p=some i:=by
 rw [List.findIdx?_eq_some_iff_getElem]
 obtain ⟨hlt,he⟩:=List.getElem?_eq_some_iff.1 hi
 refine ⟨hlt,by rw [he];exact hx,fun j AX => ?_⟩
 have:=h j _ AX (List.getElem?_eq_getElem (by omega))
 simp [this]
def dt:aL:=⟨21,[(.tmp 2)],(cS [oZ 2] (.seq (.block 0 (.loop (.seq (cS [oM 3 0,oN 4 3,da 5 .gtr 4 0,oM 6 5,gM 7 0 6 true,gM 8 0 6 true,gN 9 8 6 true,⟨some 10,.bin .sub .int (.t 9) (.c (.int .i64 1)),some (6,true)⟩,⟨some 11,.iaddrS 1 (.t 7) (.t 10),some (6,true)⟩,gL 12 1 11 6 true,⟨some 13,.bin .eql .int (.t 12) (.c (.int .u32 0)),some (6,true)⟩,nY 14 6 13] (.cond (.t 14) .skip (.exit 0))) (.block 1 (cR [oM 15 0,oM 16 0,oN 17 16,da 18 .sub 17 1,⟨some 19,.slice 1 (.t 15) none (some (.t 18)) none,none⟩,oM 0 19]))))) (cS [oM 20 0,oM 2 20] .ret)))⟩
def jg (cg:Nat):aL:=⟨10,[(.tmp 2)],(cS [oZ 2] (cS [oM 3 0,oK 4 .u32 3,oM 5 0,⟨some 6,.bin .shr .int (.t 5) (.c (.int .u64 32)),none⟩,oK 7 .u32 6,⟨some 8,.buildSl 1 2 (.int .u32 0) [(0,(.t 4)),(1,(.t 7))],none⟩,oC 9 cg 8,oM 2 9] .ret))⟩
def lJ (xA tF:Nat):aL:=⟨41,[(.tmp 4)],(cS [oI 4 0] (.seq (cS [oM 6 0,oN 7 6,oM 8 1,oN 9 8,oT 10 .neq 7 9] (.cond (.t 10) (cS [oM 11 0,oN 12 11,oM 13 1,oN 14 13,qC 15 xA 12 14,oM 4 15] .ret) .skip)) (.seq (cS [oM 16 0,oN 17 16,da 18 .sub 17 1,oM 5 18] (.block 0 (.loop (.seq (cS [oM 19 5,da 20 .geq 19 0] (.cond (.t 20) .skip (.exit 0))) (.seq (.block 1 (.seq (.reg (some []) [oM 23 0,oM 24 5,oA 25 1 23 24,oL 26 1 25,oM 27 1,oM 28 5,oA 29 1 27 28,oL 30 1 29,oT 31 .neq 26 30]) (.cond (.t 31) (.seq (.reg (some []) [oM 32 0,oM 33 5,oA 34 1 32 33,oL 35 1 34,oM 36 1,oM 37 5,oA 38 1 36 37,oL 39 1 38,qC 40 tF 35 39,oM 4 40]) .ret) .skip))) (cR [oM 21 5,da 22 .sub 21 1,oM 5 22])))))) (cS [oI 4 0] .ret))))⟩
def n5:aL:=⟨58,[(.tmp 4)],(cS [oZ 4] (.seq (cS [oM 9 0,oN 10 9,oM 11 1,oN 12 11,oT 13 .lss 10 12] (.cond (.t 13) (cR [oM 14 1,oM 15 0,oM 0 14,oM 1 15]) .skip)) (cS [oM 16 0,oN 17 16,da 18 .add 17 1,⟨some 19,.mksl 1 4 (.int .u32 0) (.c (.int .i64 0)) (.t 18),none⟩,oM 5 19] (cS [⟨some 6,.mv (.c (.int .u64 0)),none⟩] (.seq (cS [oM 20 0,oN 21 20,oI 22 0] (.block 0 (.loop (cS [oT 23 .lss 22 21] (.seq (.cond (.t 23) .skip (.exit 0)) (.seq (.block 1 (cS [oM 24 22,oA 25 1 20 22,oL 26 1 25,oM 7 24,oM 8 26] (cS [oM 27 6,oM 28 8,oK 29 .u64 28,oT 30 .add 27 29,oM 6 30] (.seq (cS [oM 31 7,oM 32 1,oN 33 32,oT 34 .lss 31 33] (.cond (.t 34) (cR [oM 35 6,oM 36 1,oM 37 7,oA 38 1 36 37,oL 39 1 38,oK 40 .u64 39,oT 41 .add 35 40,oM 6 41]) .skip)) (cS [oM 42 5,oM 43 6,oK 44 .u32 43,⟨some 45,.buildSl 1 1 (.int .u32 0) [(0,(.t 44))],none⟩,Es 46 1 4 42 45,oM 5 46] (cR [oM 47 6,⟨some 48,.bin .shr .int (.t 47) (.c (.int .u64 32)),none⟩,oM 6 48])))))) (cR [da 49 .add 22 1,oM 22 49]))))))) (.seq (cS [oM 50 6,⟨some 51,.bin .gtr .int (.t 50) (.c (.int .u64 0)),none⟩] (.cond (.t 51) (cR [oM 52 5,oM 53 6,oK 54 .u32 53,⟨some 55,.buildSl 1 1 (.int .u32 0) [(0,(.t 54))],none⟩,Es 56 1 4 52 55,oM 5 56]) .skip)) (cS [oM 57 5,oM 4 57] .ret)))))))⟩
def mZ (cg:Nat):aL:=⟨45,[(.tmp 4)],(cS [oZ 4] (cS [oM 10 0,oN 11 10,⟨some 12,.mksl 1 4 (.int .u32 0) (.t 11) (.t 11),none⟩,oM 5 12] (cS [⟨some 6,.mv (.c (.int .u64 0)),none⟩] (.seq (cS [oM 13 0,oN 14 13,oI 15 0] (.block 0 (.loop (cS [oT 16 .lss 15 14] (.seq (.cond (.t 16) .skip (.exit 0)) (.seq (.block 1 (cS [oM 17 15,oA 18 1 13 15,oL 19 1 18,oM 7 17,oM 8 19] (cS [oM 20 8,oK 21 .u64 20,oM 22 6,oT 23 .sub 21 22,oM 9 23] (.seq (cS [oM 24 7,oM 25 1,oN 26 25,oT 27 .lss 24 26] (.cond (.t 27) (cR [oM 28 9,oM 29 1,oM 30 7,oA 31 1 29 30,oL 32 1 31,oK 33 .u64 32,oT 34 .sub 28 33,oM 9 34]) .skip)) (cS [oM 35 5,oM 36 7,oM 37 9,oK 38 .u32 37,oA 39 1 35 36,oS 1 39 38] (cR [oM 40 9,⟨some 41,.bin .shr .int (.t 40) (.c (.int .u64 63)),none⟩,oM 6 41])))))) (cR [da 42 .add 15 1,oM 15 42]))))))) (cS [oM 43 5,oC 44 cg 43,oM 4 44] .ret)))))⟩
def na (cg:Nat):aL:=⟨75,[(.tmp 4)],(cS [oZ 4] (.seq (cS [oM 11 0,oN 12 11,da 13 .eql 12 0,oM 14 13,gM 15 1 14 false,gN 16 15 14 false,⟨some 17,.bin .eql .int (.t 16) (.c (.int .i64 0)),some (14,false)⟩,tf 18 14 17] (.cond (.t 18) (cS [oZ 4] .ret) .skip)) (cS [oM 19 0,oN 20 19,oM 21 1,oN 22 21,oT 23 .add 20 22,⟨some 24,.mksl 1 4 (.int .u32 0) (.t 23) (.t 23),none⟩,oM 5 24] (.seq (cS [oM 25 0,oN 26 25,oI 27 0] (.block 0 (.loop (cS [oT 28 .lss 27 26] (.seq (.cond (.t 28) .skip (.exit 0)) (.seq (.block 1 (cS [oM 29 27,oA 30 1 25 27,oL 31 1 30,oM 6 29,oM 7 31] (cS [⟨some 8,.mv (.c (.int .u64 0)),none⟩] (.seq (cS [oM 32 1,oN 33 32,oI 34 0] (.block 2 (.loop (cS [oT 35 .lss 34 33] (.seq (.cond (.t 35) .skip (.exit 2)) (.seq (.block 3 (cS [oM 36 34,oA 37 1 32 34,oL 38 1 37,oM 9 36,oM 10 38] (cS [oM 39 8,oM 40 7,oK 41 .u64 40,oM 42 10,oK 43 .u64 42,oT 44 .mul 41 43,oM 45 5,oM 46 6,oM 47 9,oT 48 .add 46 47,oA 49 1 45 48,oL 50 1 49,oK 51 .u64 50,oT 52 .add 44 51,oT 53 .add 39 52,oM 8 53] (cS [oM 54 5,oM 55 6,oM 56 9,oT 57 .add 55 56,oM 58 8,oK 59 .u32 58,oA 60 1 54 57,oS 1 60 59] (cR [oM 61 8,⟨some 62,.bin .shr .int (.t 61) (.c (.int .u64 32)),none⟩,oM 8 62]))))) (cR [da 63 .add 34 1,oM 34 63]))))))) (cR [oM 64 5,oM 65 6,oM 66 1,oN 67 66,oT 68 .add 65 67,oM 69 8,oK 70 .u32 69,oA 71 1 64 68,oS 1 71 70]))))) (cR [da 72 .add 27 1,oM 27 72]))))))) (cS [oM 73 5,oC 74 cg 73,oM 4 74] .ret)))))⟩
def iJ:aL:=⟨41,[(.tmp 4)],(cS [oZ 4] (cS [oM 9 0,oN 10 9,da 11 .add 10 1,⟨some 12,.mksl 1 4 (.int .u32 0) (.t 11) (.t 11),none⟩,oM 5 12] (.seq (cS [oM 13 0,oN 14 13,oI 15 0] (.block 0 (.loop (cS [oT 16 .lss 15 14] (.seq (.cond (.t 16) .skip (.exit 0)) (.seq (.block 1 (cS [oM 17 15,oA 18 1 13 15,oL 19 1 18,oM 6 17,oM 7 19] (cS [oM 20 7,oK 21 .u64 20,oM 22 1,oT 23 .shl 21 22,oM 8 23] (cS [oM 24 5,oM 25 6,oA 26 1 24 25,oL 27 1 26,oM 28 8,oK 29 .u32 28,oT 30 .or 27 29,oA 31 1 24 25,oS 1 31 30] (cR [oM 32 5,oM 33 6,da 34 .add 33 1,oM 35 8,⟨some 36,.bin .shr .int (.t 35) (.c (.int .u64 32)),none⟩,oK 37 .u32 36,oA 38 1 32 34,oS 1 38 37]))))) (cR [da 39 .add 15 1,oM 15 39]))))))) (cS [oM 40 5,oM 4 40] .ret))))⟩
def ij:aL:=⟨47,[(.tmp 4)],(cS [oZ 4] (cS [oM 8 0,oN 9 8,⟨some 10,.mksl 1 4 (.int .u32 0) (.t 9) (.t 9),none⟩,oM 5 10] (.seq (cS [oM 11 0,oN 12 11,oI 13 0] (.block 0 (.loop (cS [oT 14 .lss 13 12] (.seq (.cond (.t 14) .skip (.exit 0)) (.seq (.block 1 (cS [oM 15 13,oA 16 1 11 13,oL 17 1 16,oM 6 15,oM 7 17] (cS [oM 18 5,oM 19 6,oM 20 7,oM 21 1,oT 22 .shr 20 21,oA 23 1 18 19,oS 1 23 22] (cS [oM 24 6,da 25 .add 24 1,oM 26 0,oN 27 26,oT 28 .lss 25 27] (.cond (.t 28) (.reg (some []) [oM 29 5,oM 30 6,oA 31 1 29 30,oL 32 1 31,oM 33 0,oM 34 6,da 35 .add 34 1,oA 36 1 33 35,oL 37 1 36,oK 38 .u64 37,oM 39 1,⟨some 40,.bin .sub .int (.c (.int .i64 32)) (.t 39),none⟩,oT 41 .shl 38 40,oK 42 .u32 41,oT 43 .or 32 42,oA 44 1 29 30,oS 1 44 43]) .skip))))) (cR [da 45 .add 13 1,oM 13 45]))))))) (cS [oM 46 5,oM 4 46] .ret))))⟩
def ke (cg fN:Nat):aL:=⟨43,[(.tmp 4),(.tmp 5)],(cS [oZ 4,oZ 5] (cS [oM 9 0,oN 10 9,⟨some 11,.mksl 1 4 (.int .u32 0) (.t 10) (.t 10),none⟩,oM 6 11] (cS [⟨some 7,.mv (.c (.int .u64 0)),none⟩] (.seq (cS [oM 12 0,oN 13 12,da 14 .sub 13 1,oM 8 14] (.block 0 (.loop (.seq (cS [oM 15 8,da 16 .geq 15 0] (.cond (.t 16) .skip (.exit 0))) (.seq (.block 1 (cS [oM 19 7,⟨some 20,.bin .shl .int (.t 19) (.c (.int .u64 32)),none⟩,oM 21 0,oM 22 8,oA 23 1 21 22,oL 24 1 23,oK 25 .u64 24,oT 26 .or 20 25,oM 7 26] (cS [oM 27 6,oM 28 8,oM 29 7,oM 30 1,oK 31 .u64 30,oT 32 .quo 29 31,oK 33 .u32 32,oA 34 1 27 28,oS 1 34 33] (cR [oM 35 7,oM 36 1,oK 37 .u64 36,oT 38 .rem 35 37,oM 7 38])))) (cR [oM 17 8,da 18 .sub 17 1,oM 8 18])))))) (cS [oM 39 6,oC 40 cg 39,oM 41 7,oC 42 fN 41,oM 4 40,oM 5 42] .ret)))))⟩
def mi (xB cv iS fN tG n7 nz cg vX xC tH:Nat):aL:=⟨177,[(.tmp 4),(.tmp 5)],(cS [oZ 4,oZ 5] (.seq (.block 0 (cS [oM 20 0,oM 21 1,qC 22 xB 20 21,da 23 .lss 22 0,oM 19 23] (.cond (.t 19) (cS [oM 24 0,oC 25 cv 24,oZ 4,oM 5 25] .ret) (cS [oM 27 0,oN 28 27,da 29 .leq 28 2,oM 26 29] (.cond (.t 26) (cS [oM 30 0,oC 31 iS 30,oM 32 1,oC 33 iS 32,oM 6 31,oM 7 33] (.seq (.reg (some []) [oM 34 6,oM 35 7,oT 36 .quo 34 35,oC 37 fN 36,oM 38 6,oM 39 7,oT 40 .rem 38 39,oC 41 fN 40,oM 4 37,oM 5 41]) .ret)) (cS [oM 43 1,oN 44 43,da 45 .eql 44 1,oM 42 45] (.cond (.t 42) (cS [oM 46 0,oM 47 1,⟨some 48,.iaddrS 1 (.t 47) (.c (.int .i64 0)),none⟩,oL 49 1 48,qC 50 tG 46 49,oE 51 50 0,oE 52 50 1,oM 4 51,oM 5 52] .ret) .skip))))))) (cS [oM 53 1,oM 54 1,oN 55 54,da 56 .sub 55 1,oA 57 1 53 56,oL 58 1 57,oC 59 n7 58,oM 8 59] (cS [oM 60 0,oM 61 8,qC 62 nz 60 61,oM 63 1,oM 64 8,qC 65 nz 63 64,oC 66 cg 65,oM 9 62,oM 10 66] (cS [oM 67 10,oN 68 67,oM 11 68] (cS [oM 69 9,oN 70 69,oM 71 11,oT 72 .sub 70 71,⟨some 73,.mksl 1 4 (.int .u32 0) (.t 72) (.t 72),none⟩,oM 12 73] (.seq (.reg (some []) [oM 74 10,oM 75 11,da 76 .sub 75 1,oA 77 1 74 76,oL 78 1 77,oK 79 .u64 78,oM 80 10,oM 81 11,da 82 .sub 81 2,oA 83 1 80 82,oL 84 1 83,oK 85 .u64 84,oM 13 79,oM 14 85]) (.seq (cS [oM 86 12,oN 87 86,da 88 .sub 87 1,oM 15 88] (.block 1 (.loop (.seq (cS [oM 89 15,da 90 .geq 89 0] (.cond (.t 90) .skip (.exit 1))) (.seq (.block 2 (.seq (.reg (some []) [oM 93 9,oM 94 15,oM 95 11,oT 96 .add 94 95,oA 97 1 93 96,oL 98 1 97,oK 99 .u64 98,⟨some 100,.bin .shl .int (.t 99) (.c (.int .u64 32)),none⟩,oM 101 9,oM 102 15,oM 103 11,oT 104 .add 102 103,da 105 .sub 104 1,oA 106 1 101 105,oL 107 1 106,oK 108 .u64 107,oT 109 .or 100 108,oM 16 109]) (.seq (.reg (some []) [oM 110 16,oM 111 13,oT 112 .quo 110 111,oM 113 16,oM 114 13,oT 115 .rem 113 114,oM 17 112,oM 18 115]) (.seq (.block 3 (.loop (.seq (cS [oM 116 17,⟨some 117,.bin .geq .int (.t 116) (.c (.int .u64 4294967296)),none⟩,oM 118 117,gM 119 17 118 false,gM 120 14 118 false,gT 121 .mul 119 120 118 false,gM 122 18 118 false,⟨some 123,.bin .shl .int (.t 122) (.c (.int .u64 32)),some (118,false)⟩,gM 124 9 118 false,gM 125 15 118 false,gM 126 11 118 false,gT 127 .add 125 126 118 false,⟨some 128,.bin .sub .int (.t 127) (.c (.int .i64 2)),some (118,false)⟩,⟨some 129,.iaddrS 1 (.t 124) (.t 128),some (118,false)⟩,gL 130 1 129 118 false,⟨some 131,.toInt .u64 (.t 130),some (118,false)⟩,gT 132 .or 123 131 118 false,gT 133 .gtr 121 132 118 false,tf 134 118 133] (.cond (.t 134) .skip (.exit 3))) (.block 4 (cS [oM 135 17,⟨some 136,.bin .sub .int (.t 135) (.c (.int .u64 1)),none⟩,oM 17 136] (cS [oM 137 18,oM 138 13,oT 139 .add 137 138,oM 18 139] (cS [oM 140 18,⟨some 141,.bin .geq .int (.t 140) (.c (.int .u64 4294967296)),none⟩] (.cond (.t 141) (.exit 3) .skip)))))))) (.seq (cS [oM 142 9,oM 143 15,oM 144 15,oM 145 11,oT 146 .add 144 145,da 147 .add 146 1,⟨some 148,.slice 1 (.t 142) (some (.t 143)) (some (.t 147)) none,none⟩,oM 149 10,oM 150 17,⟨some 151,.call (.f vX) [(.t 148),(.t 149),(.t 150)],none⟩] (.cond (.t 151) (cS [oM 152 17,⟨some 153,.bin .sub .int (.t 152) (.c (.int .u64 1)),none⟩,oM 17 153] (cR [oM 154 9,oM 155 15,oM 156 15,oM 157 11,oT 158 .add 156 157,da 159 .add 158 1,⟨some 160,.slice 1 (.t 154) (some (.t 155)) (some (.t 159)) none,none⟩,oM 161 10,qC 162 xC 160 161])) .skip)) (cR [oM 163 12,oM 164 15,oM 165 17,oK 166 .u32 165,oA 167 1 163 164,oS 1 167 166])))))) (cR [oM 91 15,da 92 .sub 91 1,oM 15 92])))))) (.seq (.reg (some [(1,4)]) [oM 168 12,oC 169 cg 168,oM 170 9,oM 171 11,⟨some 172,.slice 1 (.t 170) none (some (.t 171)) none,none⟩,oC 173 cg 172,oM 174 8,qC 175 tH 173 174,oC 176 cg 175,oM 4 169,oM 5 176]) .ret)))))))))⟩
def jh:aL:=⟨63,[(.tmp 6)],(cS [oB 6 false] (cS [⟨some 7,.mv (.c (.int .u64 0)),none⟩] (.seq (cS [oM 13 1,oN 14 13,oI 15 0] (.block 0 (.loop (cS [oT 16 .lss 15 14] (.seq (.cond (.t 16) .skip (.exit 0)) (.seq (.block 1 (cS [oM 17 15,oA 18 1 13 15,oL 19 1 18,oM 8 17,oM 9 19] (cS [oM 20 9,oK 21 .u64 20,oM 22 2,oT 23 .mul 21 22,oM 24 7,oT 25 .add 23 24,oM 10 25] (cS [oM 26 0,oM 27 8,oA 28 1 26 27,oL 29 1 28,oK 30 .u64 29,oM 31 10,oK 32 .u32 31,oK 33 .u64 32,oT 34 .sub 30 33,oM 11 34] (cS [oM 35 0,oM 36 8,oM 37 11,oK 38 .u32 37,oA 39 1 35 36,oS 1 39 38] (cR [oM 40 10,⟨some 41,.bin .shr .int (.t 40) (.c (.int .u64 32)),none⟩,oM 42 11,⟨some 43,.bin .shr .int (.t 42) (.c (.int .u64 63)),none⟩,oT 44 .add 41 43,oM 7 44])))))) (cR [da 45 .add 15 1,oM 15 45]))))))) (cS [oM 46 0,oM 47 1,oN 48 47,oA 49 1 46 48,oL 50 1 49,oK 51 .u64 50,oM 52 7,oT 53 .sub 51 52,oM 12 53] (cS [oM 54 0,oM 55 1,oN 56 55,oM 57 12,oK 58 .u32 57,oA 59 1 54 56,oS 1 59 58] (cS [oM 60 12,⟨some 61,.bin .shr .int (.t 60) (.c (.int .u64 63)),none⟩,⟨some 62,.bin .eql .int (.t 61) (.c (.int .u64 1)),none⟩,oM 6 62] .ret))))))⟩
def jZ:aL:=⟨41,[],(cS [⟨some 4,.mv (.c (.int .u64 0)),none⟩] (.seq (cS [oM 7 1,oN 8 7,oI 9 0] (.block 0 (.loop (cS [oT 10 .lss 9 8] (.seq (.cond (.t 10) .skip (.exit 0)) (.seq (.block 1 (cS [oM 11 9,oA 12 1 7 9,oL 13 1 12,oM 5 11,oM 6 13] (cS [oM 14 4,oM 15 0,oM 16 5,oA 17 1 15 16,oL 18 1 17,oK 19 .u64 18,oM 20 6,oK 21 .u64 20,oT 22 .add 19 21,oT 23 .add 14 22,oM 4 23] (cS [oM 24 0,oM 25 5,oM 26 4,oK 27 .u32 26,oA 28 1 24 25,oS 1 28 27] (cR [oM 29 4,⟨some 30,.bin .shr .int (.t 29) (.c (.int .u64 32)),none⟩,oM 4 30]))))) (cR [da 31 .add 9 1,oM 9 31]))))))) (cR [oM 32 0,oM 33 1,oN 34 33,oA 35 1 32 34,oL 36 1 35,oM 37 4,oK 38 .u32 37,oT 39 .add 36 38,oA 40 1 32 34,oS 1 40 39])))⟩
def nb:aL:=⟨27,[(.tmp 2)],(cS [oX 1 0,oB 2 false] (cS [oF 4 1 1,oL 5 1 4,oN 6 5,oM 3 6] (cS [oM 7 3,da 8 .eql 7 0,oM 9 8,gF 10 0 1 9 true,gL 11 1 10 9 true,⟨some 12,.un .not (.t 11),some (9,true)⟩,nY 13 9 12,oM 14 13,gM 15 3 14 false,⟨some 16,.bin .gtr .int (.t 15) (.c (.int .i64 0)),some (14,false)⟩,gM 17 16 14 false,gF 18 1 1 17 true,gL 19 1 18 17 true,gM 20 3 17 true,⟨some 21,.bin .sub .int (.t 20) (.c (.int .i64 1)),some (17,true)⟩,⟨some 22,.iaddrS 1 (.t 19) (.t 21),some (17,true)⟩,gL 23 1 22 17 true,⟨some 24,.bin .neq .int (.t 23) (.c (.int .u32 0)),some (17,true)⟩,⟨some 25,.pick (.t 17) (.t 24) (.c (.bool false)),some (14,false)⟩,tf 26 14 25,oM 2 26] .ret)))⟩
def pX (cg yX cv qD iS fN:Nat):aL:=⟨57,[(.cell 4 true 2)],(cS [oX 2 0,oX 3 1,⟨some 4,.box (.c (.agg [(.bool false),.nils])),none⟩] (.seq (.reg (some [(2,4)]) [oF 11 1 2,oL 12 1 11,oC 13 cg 12,oF 14 1 3,oL 15 1 14,oC 16 cg 15,oM 5 13,oM 6 16]) (.seq (.block 0 (.loop (.seq (cS [oM 17 6,oN 18 17,da 19 .gtr 18 2,oM 20 19,gM 21 5 20 false,gN 22 21 20 false,⟨some 23,.bin .gtr .int (.t 22) (.c (.int .i64 2)),some (20,false)⟩,gM 24 23 20 false,gM 25 6 24 true,gN 26 25 24 true,⟨some 27,.bin .gtr .int (.t 26) (.c (.int .i64 0)),some (24,true)⟩,⟨some 28,.pick (.t 24) (.t 27) (.c (.bool false)),some (20,false)⟩,tf 29 20 28] (.cond (.t 29) .skip (.exit 0))) (.block 1 (cS [oM 31 5,oM 32 6,qC 33 yX 31 32,oM 30 33,oE 34 30 0,oE 35 30 1,oM 7 34,oM 8 35] (cR [oM 36 6,oM 37 8,oM 5 36,oM 6 37])))))) (.seq (cS [oM 38 6,oN 39 38,da 40 .eql 39 0] (.cond (.t 40) (cS [oM 41 5,oC 42 cv 41,⟨some 43,.call (.f qD) [(.c (.bool false)),(.t 42)],none⟩,oS 2 4 43] .ret) .skip)) (cS [oM 44 5,oC 45 iS 44,oM 46 6,oC 47 iS 46,oM 9 45,oM 10 47] (.seq (.block 2 (.loop (.seq (cS [oM 48 10,⟨some 49,.bin .neq .int (.t 48) (.c (.int .u64 0)),none⟩] (.cond (.t 49) .skip (.exit 2))) (.block 3 (.reg (some []) [oM 50 10,oM 51 9,oM 52 10,oT 53 .rem 51 52,oM 9 50,oM 10 53]))))) (cS [oM 54 9,oC 55 fN 54,⟨some 56,.call (.f qD) [(.c (.bool false)),(.t 55)],none⟩,oS 2 4 56] .ret)))))))⟩
def mj (sI n8 Dr yY:Nat):aL:=⟨25,[(.tmp 2)],(cS [oX 1 0,oB 2 false] (cS [oF 3 0 1,jJ 4 2 3,oC 5 sI 4,oM 6 5,gF 7 2 1 6 true,Et 8 2 7 6 true,⟨some 9,.call (.f sI) [.t 8],some (6,true)⟩,nY 10 6 9,oM 11 10,gF 12 2 1 11 true,Et 13 2 12 11 true,⟨some 14,.call (.f n8) [.t 13],some (11,true)⟩,⟨some 15,.bin .gtr .int (.t 14) (.c (.int .i64 0)),some (11,true)⟩,nY 16 11 15,oM 17 16,gF 18 0 1 17 true,Et 19 2 18 17 true,gF 20 2 1 17 true,Et 21 2 20 17 true,⟨some 22,.call (.f Dr) [(.t 19),(.t 21)],some (17,true)⟩,⟨some 23,.call (.f yY) [.t 22],some (17,true)⟩,nY 24 17 23,oM 2 24] .ret))⟩
def nc (n8:Nat):aL:=⟨6,[(.tmp 2)],(cS [oX 1 0,oI 2 0] (cS [oF 3 0 1,jJ 4 2 3,oC 5 n8 4,oM 2 5] .ret))⟩
def lK:aL:=⟨19,[(.tmp 2)],(cS [oI 2 0] (.seq (cS [oM 3 0,⟨some 4,.bin .geq .int (.t 3) (.c (.int .u32 65536)),none⟩] (.cond (.t 4) (cS [oM 5 0,⟨some 6,.bin .shr .int (.t 5) (.c (.int .u64 16)),none⟩,oM 0 6] (cR [oI 2 16])) .skip)) (.seq (cS [oM 7 0,⟨some 8,.bin .geq .int (.t 7) (.c (.int .u32 256)),none⟩] (.cond (.t 8) (cS [oM 9 0,⟨some 10,.bin .shr .int (.t 9) (.c (.int .u64 8)),none⟩,oM 0 10] (cR [oM 11 2,da 12 .add 11 8,oM 2 12])) .skip)) (cS [oM 13 2,oM 14 0,oK 15 .u8 14,⟨some 16,.indexS (.c (.str [0,1,2,2,3,3,3,3,4,4,4,4,4,4,4,4,5,5,5,5,5,5,5,5,5,5,5,5,5,5,5,5,6,6,6,6,6,6,6,6,6,6,6,6,6,6,6,6,6,6,6,6,6,6,6,6,6,6,6,6,6,6,6,6,7,7,7,7,7,7,7,7,7,7,7,7,7,7,7,7,7,7,7,7,7,7,7,7,7,7,7,7,7,7,7,7,7,7,7,7,7,7,7,7,7,7,7,7,7,7,7,7,7,7,7,7,7,7,7,7,7,7,7,7,7,7,7,7,8,8,8,8,8,8,8,8,8,8,8,8,8,8,8,8,8,8,8,8,8,8,8,8,8,8,8,8,8,8,8,8,8,8,8,8,8,8,8,8,8,8,8,8,8,8,8,8,8,8,8,8,8,8,8,8,8,8,8,8,8,8,8,8,8,8,8,8,8,8,8,8,8,8,8,8,8,8,8,8,8,8,8,8,8,8,8,8,8,8,8,8,8,8,8,8,8,8,8,8,8,8,8,8,8,8,8,8,8,8,8,8,8,8,8,8,8,8,8,8,8,8,8,8,8,8,8,8])) (.t 15),none⟩,oK 17 .i64 16,oT 18 .add 13 17,oM 2 18] .ret))))⟩
def nd:aL:=⟨6,[(.tmp 2)],(cS [oB 2 false] (cS [oM 3 0,oM 4 0,oT 5 .neq 3 4,oM 2 5] .ret))⟩
def lf:aL:=⟨6,[(.tmp 2)],(cS [oB 2 false] (cS [oM 3 0,oM 4 0,oT 5 .neq 3 4,oM 2 5] .ret))⟩
def lL (sJ:Nat):aL:=⟨20,[(.tmp 4)],(cS [oI 4 0] (cS [oM 7 0,oC 8 sJ 7,oM 5 8] (cS [oM 9 1,oC 10 sJ 9,oM 6 10] (.seq (cS [oM 11 5] (.cond (.t 11) (.seq (cS [oM 12 6] (.cond (.t 12) (cS [oI 4 0] .ret) .skip)) (cS [oI 4 (-1-0)] .ret)) .skip)) (.seq (cS [oM 13 6] (.cond (.t 13) (cS [oI 4 1] .ret) .skip)) (.seq (cS [oM 14 0,oM 15 1,oT 16 .lss 14 15] (.cond (.t 16) (cS [oI 4 (-1-0)] .ret) .skip)) (.seq (cS [oM 17 0,oM 18 1,oT 19 .gtr 17 18] (.cond (.t 19) (cS [oI 4 1] .ret) .skip)) (cS [oI 4 0] .ret))))))))⟩
def kf (n9:Nat):aL:=⟨20,[(.tmp 4)],(cS [oI 4 0] (cS [oM 7 0,oC 8 n9 7,oM 5 8] (cS [oM 9 1,oC 10 n9 9,oM 6 10] (.seq (cS [oM 11 5] (.cond (.t 11) (.seq (cS [oM 12 6] (.cond (.t 12) (cS [oI 4 0] .ret) .skip)) (cS [oI 4 (-1-0)] .ret)) .skip)) (.seq (cS [oM 13 6] (.cond (.t 13) (cS [oI 4 1] .ret) .skip)) (.seq (cS [oM 14 0,oM 15 1,oT 16 .lss 14 15] (.cond (.t 16) (cS [oI 4 (-1-0)] .ret) .skip)) (.seq (cS [oM 17 0,oM 18 1,oT 19 .gtr 17 18] (.cond (.t 19) (cS [oI 4 1] .ret) .skip)) (cS [oI 4 0] .ret))))))))⟩
def aQ:aL:=⟨8,[(.tmp 2)],(cS [oZ 2] (.seq (cS [oM 3 0,⟨some 4,.bin .eql .slice (.t 3) (.c .nils),none⟩] (.cond (.t 4) (cS [oZ 2] .ret) .skip)) (cS [⟨some 5,.buildSl 1 0 (.int .u32 0) [],none⟩,oM 6 0,Es 7 1 4 5 6,oM 2 7] .ret)))⟩
def au:Nat:=4294967296
theorem FW:1<au:=by decide
theorem cP:0<au:=by decide
def val:List Nat->Nat
 | []=>0
 | w::r=>w+au*val r
def Wd (ws:List Nat):Prop:=∀ w∈ws,w<au
def digits (n:Nat):List Nat:=if _h:n=0 then [] else n%au::digits (n/au)
termination_by n
decreasing_by exact Nat.div_lt_self (Nat.pos_of_ne_zero _h) FW
theorem bh:digits 0=[]:=by rw [digits];simp
theorem iw {n:Nat} (h:n≠0):digits n=n%au::digits (n/au):=by rw [digits];simp [h]
theorem aH (n:Nat):val (digits n)=n:=by
 induction n using Nat.strongRecOn with
 | _ n ih =>
   by_cases h:n=0
   . subst h;rw [bh];rfl
   . rw [iw h,val,ih _ (Nat.div_lt_self (Nat.pos_of_ne_zero h) FW)]
     exact Nat.mod_add_div n au
theorem aK (n:Nat):Wd (digits n):=by
 induction n using Nat.strongRecOn with
 | _ n ih =>
   by_cases h:n=0
   . subst h;rw [bh];intro w hw;simp at hw
   . rw [iw h]
     intro w hw
     rcases List.mem_cons.1 hw with rfl | hw
     . exact Nat.mod_lt _ (by decide)
     . exact ih _ (Nat.div_lt_self (Nat.pos_of_ne_zero h) FW) w hw
theorem pY {n:Nat}:digits n=[]↔n=0:=by
 constructor
 . intro h
   have:=aH n
   rw [h] at this
   exact this.symm
 . rintro rfl;exact bh
theorem cj (a b:List Nat):val (a++b)=val a+au ^ a.length*val b:=by
 induction a with
 | nil=>simp [val]
 | cons x a ih =>
   simp only [List.cons_append,val,ih,List.length_cons,Nat.pow_succ]
   rw [Nat.mul_add, <- Nat.add_assoc]
   congr 1
   rw [<- Nat.mul_assoc,Nat.mul_comm (au ^ a.length) au]
theorem kg {ws:List Nat} (h:Wd ws):val ws<au ^ ws.length:=by
 induction ws with
 | nil=>simp [val]
 | cons w ws ih =>
   have h1:=ih (fun x hx=>h x (List.mem_cons_of_mem _ hx))
   have h2:=h w (by simp)
   simp only [val,List.length_cons,Nat.pow_succ]
   have h3:au*(val ws+1)<=au*au ^ ws.length:=Nat.mul_le_mul_left _ h1
   rw [Nat.mul_comm (au ^ ws.length) au]
   rw [Nat.mul_add] at h3
   omega
theorem yZ {ws:List Nat} (h:∀ w∈ws,w=0):val ws=0:=by
 induction ws with
 | nil=>rfl
 | cons w ws ih=>simp only [val];rw [ih (fun x hx=>h x (List.mem_cons_of_mem _ hx)),h w (by simp)];rfl
theorem kh {ws:List Nat} (h:Wd ws) (h0:ws=[]∨∃ w,ws.getLast? = some w/\w≠0):digits (val ws)=ws:=by
 induction ws with
 | nil=>simp [val,bh]
 | cons w ws ih =>
   have hw:=h w (by simp)
   have hws:Wd ws:=fun x hx=>h x (List.mem_cons_of_mem _ hx)
   cases ws with
   | nil =>
     rcases h0 with h0 | ⟨x,hx,hne⟩
     . simp at h0
     . simp at hx;subst hx
       simp only [val,Nat.mul_zero,Nat.add_zero]
       rw [iw hne,Nat.mod_eq_of_lt hw,Nat.div_eq_of_lt hw,bh]
   | cons y ws =>
     have hl:∃ x,(y::ws).getLast? = some x/\x≠0:=by
       rcases h0 with h0 | ⟨x,hx,hne⟩
       . simp at h0
       . exact ⟨x,by simpa [List.getLast?_cons_cons] using hx,hne⟩
     have hih:=ih hws (.inr hl)
     have hv:val (y::ws)≠0:=by
       intro e
       have:digits (val (y::ws))=[]:=by rw [e,bh]
       rw [hih] at this;simp at this
     have hne:val (w::y::ws)≠0:=by
       simp only [val] at hv ⊢
       have:0<au*(y+au*val ws):=Nat.mul_pos (by decide) (Nat.pos_of_ne_zero hv)
       omega
     rw [iw hne]
     have e1:val (w::y::ws)%au=w:=by
       show (w+au*val (y::ws))%au=w
       rw [Nat.add_mul_mod_self_left];exact Nat.mod_eq_of_lt hw
     have e2:val (w::y::ws)/au=val (y::ws):=by
       show (w+au*val (y::ws))/au=_
       rw [Nat.add_mul_div_left _ _ (by decide),Nat.div_eq_of_lt hw,Nat.zero_add]
     rw [e1,e2,hih]
theorem z6 {n:Nat}:digits n=[]∨∃ w,(digits n).getLast? = some w/\w≠0:=by
 induction n using Nat.strongRecOn with
 | _ n ih =>
   by_cases h:n=0
   . left;subst h;exact bh
   . right
     rw [iw h]
     rcases ih _ (Nat.div_lt_self (Nat.pos_of_ne_zero h) FW) with h1 | ⟨w,h1,h2⟩
     . have hd:=pY.1 h1
       rw [h1]
       refine ⟨n%au,rfl, ?_⟩
       rw [Nat.mod_eq_of_lt]
       . exact h
       . rcases Nat.div_eq_zero_iff.1 hd with h3 | h3
         . exact absurd h3 (by decide)
         . exact h3
     . cases hd:digits (n/au) with
       | nil=>rw [hd] at h1;simp at h1
       | cons x xs=>rw [hd] at h1;exact ⟨w,by simpa [List.getLast?_cons_cons] using h1,h2⟩
theorem jK (ws:List Nat):val (ws++[0])=val ws:=by rw [cj];simp [val]
theorem pw {ws:List Nat} (h:Wd ws) (k:Nat):Wd (ws.take k):=fun w hw=>h w (List.mem_of_mem_take hw)
theorem cw {a b:List Nat} (ha:Wd a) (hb:Wd b):Wd (a++b):=fun w hw=>(List.mem_append.1 hw).elim (ha w) (hb w)
def ab (n:Nat):Nat:=(digits n).length
theorem cG (n:Nat):n<au ^ ab n:=by have:=kg (aK n);rwa [aH] at this
theorem iK {n k:Nat} (h:n<au ^ k):ab n<=k:=by
 induction k generalizing n with
 | zero=>simp at h;subst h;simp [ab,bh]
 | succ k ih =>
   by_cases h0:n=0
   . subst h0;simp [ab,bh]
   . unfold ab
     rw [iw h0]
     have:n/au<au ^ k:=by rw [Nat.pow_succ] at h;exact Nat.div_lt_of_lt_mul (by rwa [Nat.mul_comm])
     have:=ih this
     simp only [List.length_cons]
     unfold ab at this
     omega
theorem c9 {m n:Nat} (h:m<=n):ab m<=ab n:=iK (Nat.lt_of_le_of_lt h (cG n))
theorem px {n:Nat} (h:n≠0):au ^ (ab n-1)<=n:=by
 rcases Nat.lt_or_ge n (au ^ (ab n-1)) with h1 | h1
 . have:=iK h1
   have h2:0<ab n:=by
     unfold ab
     cases hd:digits n with
     | nil=>exact absurd (pY.1 hd) h
     | cons _ _=>simp
   omega
 . exact h1
theorem oa (m n:Nat):ab (m*n)<=ab m+ab n:=by
 refine iK ?_
 rw [Nat.pow_add]
 exact Nat.mul_lt_mul'' (cG m) (cG n)
def us (ws:List Nat):List AV:=ws.map fun w:Nat => .int .u32 (w:Int)
def W (n:Nat):AV := .sl 1 (us (digits n))
theorem dD (ws:List Nat):(us ws).length=ws.length:=by simp [us]
theorem tI {ws:List Nat} {i w:Nat} (h:ws[i]? = some w):(us ws)[i]? = some (.int .u32 (w:Int)):=by simp [us,h]
theorem MC (ws:List Nat) (k:Nat):(us ws).take k=us (ws.take k):=by simp [us,List.map_take]
theorem y0 (a b:List Nat):us (a++b)=us a++us b:=by simp [us]
theorem FY (ws:List Nat):flat (us ws)=us ws:=by
 induction ws with
 | nil=>rfl
 | cons w ws ih=>simp only [us,List.map_cons,flat,List.flatMap_cons,AV.cells] at ih ⊢;rw [ih];rfl
theorem kz (ws:List Nat):af (.sl 1 (us ws)):=af.sl (by rw [FY];intro c hc;simp only [us,List.mem_map] at hc;obtain ⟨w,_,rfl⟩:=hc;exact af.int _ _)
theorem qE (ws:List Nat):∀ c∈flat (us ws),af c:=by rw [FY];intro c hc;simp only [us,List.mem_map] at hc;obtain ⟨w,_,rfl⟩:=hc;exact af.int _ _
theorem uC (ws:List Nat):∀ e∈us ws,e.size=1:=by intro e he;simp only [us,List.mem_map] at he;obtain ⟨w,_,rfl⟩:=he;rfl
theorem y2 (ws:List Nat):((us ws).all fun e=>e.cells.all AV.one)=true:=by rw [List.all_eq_true];intro e he;simp only [us,List.mem_map] at he;obtain ⟨w,_,rfl⟩:=he;rfl
theorem bp (n:Nat):af (W n):=kz _
theorem bl {k:IntKind} {n:Int}:part false (AV.int k n).cells 0 1=some (.int k n):=rfl
theorem pZ (k:Nat) (h:0<k) (h2:k<=9223372036854775807):IntKind.i64.wrap ((k:Int)-1)=((k-1:Nat):Int):=by rw [IntKind.wrap_i64];omega
theorem ai {p:Prop} [Decidable p] (h:p):decide p=true:=decide_eq_true h
theorem ag {p:Prop} [Decidable p] (h : ¬ p):decide p=false:=decide_eq_false h
theorem QQ {k kk:Nat} {es:List AV} {h:Nat} (hk:kk=k) (hh:h<=es.length):bR k (.sl kk es) none (some (.int .i64 (h:Int))) none=some (.sl k (es.take h)):=by
 subst hk
 simp [bR,cm,dT,hh]
section
variable {P:Program} {G:Nat->Option (List AV)}
theorem MD {f:FuncId} (h:Has P f dt) {ws:List Nat} (hw:Wd ws) (hl:ws.length<=9223372036854775807):VP P G f [.sl 1 (us ws)] (W (val ws)):=by
 refine VP.has h ?_
 simp only [dt,SS,az]
 refine VW.bG (α := Nat × Nat) (fun x=>⟨[.sl 1 (us (ws.take x.1))]++List.replicate 20 .top,fun _=>none,x.2⟩) (fun x=>x.1<=ws.length/\val (ws.take x.1)=val ws) (fun x=>x.1) (ws.length,1) ?_ ⟨Nat.le_refl _,by rw [List.take_length]⟩ ?_
 . exact Wk.slots (by simp [Fg,List.replicate]) (Nat.le_refl _)
 rintro ⟨k,n⟩ ⟨hk,hv⟩
 simp only [] at hk hv
 have TC:(us (ws.take k)).length=k:=by rw [dD,List.length_take];omega
 simp only [SS,Nat.reduceAdd,TC]
 by_cases h0:k=0
 . subst h0
   have d0:decide ((0:Int)<((0:Nat):Int))=false:=by decide
   simp only [SS,Nat.reduceAdd,d0]
   refine ah▸ae (r:=W (val ws)) ?_ (bp _)
   have:digits (val ws)=[]:=by rw [<- hv];simp [val,bh]
   simp [fY,iR,W,us,this]
 . have mK:0<k:=Nat.pos_of_ne_zero h0
   have d0:decide ((0:Int)<(k:Int))=true:=ai (by omega)
   have mW:=pZ k mK (by omega)
   obtain ⟨w,hwk⟩:∃ w,ws[k-1]? = some w:=⟨ws[k-1],by rw [List.getElem?_eq_getElem]⟩
   have aaO:(ws.take k)[k-1]? = some w:=by rw [List.getElem?_take_of_lt (by omega)];exact hwk
   have JR:ws.take k=ws.take (k-1)++[w]:=by
     have:=List.take_add_one (l:=ws) (i:=k-1)
     rw [hwk,show k-1+1=k from by omega] at this
     simpa using this
   have FV:k-1<=(us (ws.take k)).length:=by rw [TC];omega
   by_cases hz:w=0
   . have d1:decide ((w:Int)=0)=true:=ai (by omega)
     simp only [SS,Nat.reduceAdd,d0,mW,aN rfl (tI aaO),ax,bl,d1,TC,QQ rfl FV]
     have hm:min (k-1) k=k-1:=Nat.min_eq_left (Nat.sub_le _ _)
     refine ⟨(k-1,_),⟨by simp only [];omega, ?_⟩,by simp only [];omega,Wk.slots (by simp [Fg,MC,List.take_take,hm]) (Nat.le_refl _)⟩
     simp only []
     rw [<- hv,JR,hz,jK]
   . have d1:decide ((w:Int)=0)=false:=ag (by omega)
     simp only [SS,Nat.reduceAdd,d0,mW,aN rfl (tI aaO),ax,bl,d1,TC]
     refine ah▸ae (r:=W (val ws)) ?_ (bp _)
     have e:digits (val ws)=ws.take k:=by
       rw [<- hv]
       exact kh (pw hw k) (.inr ⟨w,by rw [JR];simp,hz⟩)
     simp [fY,iR,W,e]
end
def iy (a b:Int):Int:=if a<b then -1 else if b<a then 1 else 0
def gr (m n:Nat):Int:=iy m n
def IV (z:Int):AV := .agg [.bool (decide (z<0)),W z.natAbs]
def iL (neg:Bool) (n:Nat):Int:=if neg then -(n:Int) else n
theorem kA (z:Int):af (IV z):=af.agg (by intro c hc;simp at hc;rcases hc with rfl | rfl;exact af.bool _;exact bp _)
theorem y5 (z:Int):((IV z).cells.all AV.one=true)=True:=by simp [IV,AV.cells,AV.one,W]
theorem Ws (z:Int):part false (IV z).cells 0 1=some (.bool (decide (z<0))):=rfl
theorem z7 (z:Int):part false (IV z).cells 1 1=some (W z.natAbs):=rfl
theorem Kl (z:Int):part true (IV z).cells 0 2=some (IV z):=rfl
theorem gC {id:Id} {ws:List Nat} {b t:Bool} {n:Nat} (hn:n=ws.length):View (aa.of [(id,⟨us ws,1,b⟩)]) (.osl id 1 0 n t) (.sl 1 (us ws)):=by
 subst hn
 refine View.osl (bk:=⟨us ws,1,b⟩) (by simp [aa.of]) rfl (by rw [dD];omega) ?_ (by rw [dD]) (uC ws)
 rw [List.drop_zero,List.take_of_length_le (by rw [dD];exact Nat.le_refl _)]
 exact aI.pure (qE ws)
theorem AY {a b:List Nat} (ha:Wd a) (_hb:Wd b) (hl:a.length=b.length) {i x y:Nat} (hx:a[i]? = some x) (hy:b[i]? = some y) (hd:a.drop (i+1)=b.drop (i+1)) (nO:x<y):val a<val b:=by
 have fT:=(List.getElem?_eq_some_iff.1 hx).1
 have XC:=(List.getElem?_eq_some_iff.1 hy).1
 have ea:a=a.take i++x::a.drop (i+1):=by
   have:=List.take_append_drop i a
   rw [List.drop_eq_getElem_cons fT] at this
   obtain ⟨_,h2⟩:=List.getElem?_eq_some_iff.1 hx
   rw [h2] at this;exact this.symm
 have eb:b=b.take i++y::b.drop (i+1):=by
   have:=List.take_append_drop i b
   rw [List.drop_eq_getElem_cons XC] at this
   obtain ⟨_,h2⟩:=List.getElem?_eq_some_iff.1 hy
   rw [h2] at this;exact this.symm
 rw [ea,eb,cj,cj, <- hd]
 have hta:(a.take i).length=i:=by rw [List.length_take];omega
 have htb:(b.take i).length=i:=by rw [List.length_take];omega
 have h1:=kg (pw ha i)
 rw [hta] at h1 ⊢
 rw [htb]
 simp only [val]
 have h2:au ^ i*(x+1)<=au ^ i*y:=Nat.mul_le_mul_left _ nO
 rw [Nat.mul_add,Nat.mul_one] at h2
 rw [Nat.mul_add,Nat.mul_add]
 omega
section
variable {P:Program} {G:Nat->Option (List AV)}
theorem Km {f:FuncId} (h:Has P f nd) (a:Int):VP P G f [.int .i64 a] (.bool false):=by
 refine VP.has h ?_
 have e:decide (a≠a)=false:=by simp
 simp only [nd,SS,Nat.reduceAdd,e]
 exact ah▸ae rfl (af.bool _)
theorem Kn {f fn:FuncId} (h:Has P f (lL fn)) (hn:∀ a,VP P G fn [.int .i64 a] (.bool false)) (a b:Int):VP P G f [.int .i64 a, .int .i64 b] (.int .i64 (iy a b)):=by
 refine VP.has h ?_
 simp only [lL,SS,Nat.reduceAdd]
 refine aj (hn a) (by simp [af.int]) ?_
 simp only [SS,Nat.reduceAdd]
 refine aj (hn b) (by simp [af.int]) ?_
 unfold iy
 by_cases h1:a<b
 . simp only [SS,Nat.reduceAdd,h1,decide_true]
   exact ah▸ae rfl (af.int _ _)
 . by_cases h2:b<a
   . simp only [SS,Nat.reduceAdd,h1,h2,decide_true,decide_false]
     exact ah▸ae rfl (af.int _ _)
   . simp only [SS,Nat.reduceAdd,h1,h2,decide_false]
     exact ah▸ae rfl (af.int _ _)
theorem Ds {f:FuncId} (h:Has P f lf) (a:Int):VP P G f [.int .u32 a] (.bool false):=by
 refine VP.has h ?_
 have e:decide (a≠a)=false:=by simp
 simp only [lf,SS,Nat.reduceAdd,e]
 exact ah▸ae rfl (af.bool _)
theorem Dt {f fn:FuncId} (h:Has P f (kf fn)) (hn:∀ a,VP P G fn [.int .u32 a] (.bool false)) (a b:Int):VP P G f [.int .u32 a, .int .u32 b] (.int .i64 (iy a b)):=by
 refine VP.has h ?_
 simp only [kf,SS,Nat.reduceAdd]
 refine aj (hn a) (by simp [af.int]) ?_
 simp only [SS,Nat.reduceAdd]
 refine aj (hn b) (by simp [af.int]) ?_
 unfold iy
 by_cases h1:a<b
 . simp only [SS,Nat.reduceAdd,h1,decide_true]
   exact ah▸ae rfl (af.int _ _)
 . by_cases h2:b<a
   . simp only [SS,Nat.reduceAdd,h1,h2,decide_true,decide_false]
     exact ah▸ae rfl (af.int _ _)
   . simp only [SS,Nat.reduceAdd,h1,h2,decide_false]
     exact ah▸ae rfl (af.int _ _)
def gU (P:Program) (G:Nat->Option (List AV)) (f:FuncId):Prop:=∀ ws:List Nat,Wd ws->ws.length<=9223372036854775807->VP P G f [.sl 1 (us ws)] (W (val ws))
theorem z8 {f ft:FuncId} (h:Has P f (jg ft)) (ht:gU P G ft) (n:Nat) (hn:n<18446744073709551616):VP P G f [.int .u64 (n:Int)] (W n):=by
 refine VP.has h ?_
 have e1:IntKind.u32.wrap (n:Int)=((n%au:Nat):Int):=by rw [IntKind.wrap_u32];unfold au;omega
 have e2:bn .shr .int (.int .u64 (n:Int)) (.int .u64 32)=some (.int .u64 ((n/au:Nat):Int)):=by
   rw [po (by decide)]
   have:(n:Int).fdiv (2 ^ (min (32:Int).toNat IntKind.u64.bits))=((n/au:Nat):Int):=by
     show (n:Int).fdiv (2 ^ 32)=_
     rw [Int.fdiv_eq_ediv_of_nonneg _ (by decide)];unfold au;omega
   rw [this]
 have e3:IntKind.u32.wrap ((n/au:Nat):Int)=((n/au:Nat):Int):=by rw [IntKind.wrap_u32];unfold au;omega
 have hb:∀ (σ : aa) (q:Id),bu σ q (.buildSl 1 2 (.int .u32 0) [(0, .int .u32 ((n%au:Nat):Int)),(1, .int .u32 ((n/au:Nat):Int))])=some { val := .osl q 1 0 2 false,up:=[(q,some ⟨us [n%au,n/au],1,false⟩)] }:=fun σ q=>bs2 rfl rfl rfl rfl rfl rfl
 have hw:Wd [n%au,n/au]:=by intro w hw;simp at hw;rcases hw with rfl | rfl<;>unfold au<;>omega
 have hv:val [n%au,n/au]=n:=by simp [val,Nat.mod_add_div]
 have uB:=ht [n%au,n/au] hw (by simp)
 rw [hv] at uB
 simp only [jg,SS,Nat.reduceAdd,e1,e2,e3,hb]
 refine cW [([6],⟨us [n%au,n/au],1,false⟩)] uB (aI.cons (gC rfl) aI.nil) (by simp [aa.put]) ?_
 simp only [SS,Nat.reduceAdd]
 exact ah▸ae rfl (bp _)
end
theorem uD {a b:Int} (h:a<b):iy a b = -1:=by simp [iy,h]
theorem uE {a b:Int} (h:b<a):iy a b=1:=by simp [iy,h];omega
theorem FZ {a b:Int} (h:a=b):iy a b=0:=by simp [iy,h]
theorem bc (m:Nat):ky false (W m)=some (.int .i64 (ab m)):=by simp [W,ky,dD,ab]
theorem rG {m n:Nat} (h:ab m<ab n):m<n:=by
 rcases Nat.lt_or_ge m n with h1 | h1
 . exact h1
 . have:=c9 h1;omega
theorem cZ {m i w:Nat} (h:(digits m)[i]? = some w):aV 1 (W m) (.int .i64 (i:Int))=some (.ep (AV.int .u32 (w:Int)).cells 0):=aN rfl (tI h)
section
variable {P:Program} {G:Nat->Option (List AV)}
theorem Ko {f fi fw:FuncId} (h:Has P f (lJ fi fw)) (hi:∀ a b:Int,VP P G fi [.int .i64 a, .int .i64 b] (.int .i64 (iy a b))) (hw:∀ a b:Int,VP P G fw [.int .u32 a, .int .u32 b] (.int .i64 (iy a b)))
   (m n:Nat) (hm:ab m<9223372036854775807) (hn:ab n<9223372036854775807):VP P G f [W m,W n] (.int .i64 (gr m n)):=by
 refine VP.has h ?_
 simp only [lJ,SS,Nat.reduceAdd,bc]
 by_cases hl:ab m=ab n
 case neg =>
   have d:decide ((ab m:Int)≠(ab n:Int))=true:=ai (by omega)
   simp only [SS,Nat.reduceAdd,bc,d]
   refine aj (hi _ _) (by simp [af.int]) ?_
   simp only [SS,Nat.reduceAdd]
   have e:iy (ab m:Int) (ab n:Int)=gr m n:=by
     rcases Nat.lt_or_ge (ab m) (ab n) with h1 | h1
     . have h2:=rG h1
       rw [uD (by omega)];unfold gr;rw [uD (by omega)]
     . have h1':ab n<ab m:=by omega
       have h2:=rG h1'
       rw [uE (by omega)];unfold gr;rw [uE (by omega)]
   rw [e]
   exact ah▸ae rfl (af.int _ _)
 have d:decide ((ab m:Int)≠(ab n:Int))=false:=ag (by omega)
 have ew:IntKind.i64.wrap ((ab m:Int)-1)=(ab m:Int)-1:=by rw [IntKind.wrap_i64];omega
 have ZL:(digits m).drop (ab m)=(digits n).drop (ab m):=by
   have e1:(digits m).drop (ab m)=[]:=List.drop_of_length_le (Nat.le_refl _)
   have e2:(digits n).drop (ab m)=[]:=List.drop_of_length_le (by show ab n<=ab m;omega)
   rw [e1,e2]
 simp only [SS,Nat.reduceAdd,bc,d,ew,az]
 refine VW.bG (α := Nat × Nat) (fun x=>⟨[W m,W n, .top, .top, .top, .int .i64 ((x.1:Int)-1)]++List.replicate 35 .top,fun _=>none,x.2⟩) (fun x=>x.1<=ab m/\(digits m).drop x.1=(digits n).drop x.1) (fun x=>x.1) (ab m,10) ?_
   ⟨Nat.le_refl _,ZL⟩ ?_
 . exact Wk.slots (by simp [Fg,List.replicate]) (Nat.le_refl _)
 rintro ⟨j,q⟩ ⟨hj,hd⟩
 simp only [] at hj hd
 simp only [SS,Nat.reduceAdd]
 by_cases h0:j=0
 . subst h0
   have d0:decide ((0:Int)<=((0:Nat):Int)-1)=false:=by decide
   simp only [SS,d0]
   have e:m=n:=by
     simp only [List.drop_zero] at hd
     rw [<- aH m,hd,aH]
   have e2:gr m n=0:=FZ (by omega)
   rw [e2]
   exact ah▸ae rfl (af.int _ _)
 . have mK:0<j:=Nat.pos_of_ne_zero h0
   have d0:decide ((0:Int)<=((j-1:Nat):Int))=true:=ai (by omega)
   have ej:(j:Int)-1=((j-1:Nat):Int):=by omega
   have XE:j-1<(digits m).length:=by show j-1<ab m;omega
   have JZ:j-1<(digits n).length:=by show j-1<ab n;omega
   have ew2:IntKind.i64.wrap (((j-1:Nat):Int)-1)=((j-1:Nat):Int)-1:=by rw [IntKind.wrap_i64];omega
   obtain ⟨x,hx⟩:∃ x,(digits m)[j-1]? = some x:=⟨_,List.getElem?_eq_getElem XE⟩
   obtain ⟨y,hy⟩:∃ y,(digits n)[j-1]? = some y:=⟨_,List.getElem?_eq_getElem JZ⟩
   have PC:(digits m).drop (j-1+1)=(digits n).drop (j-1+1):=by rw [show j-1+1=j from by omega];exact hd
   have yD:aJ (([]:List eB)) ([]:List (Nat × Nat)):=by simp [aJ]
   by_cases nO:x=y
   . have d1:decide ((x:Int)≠(y:Int))=false:=ag (by omega)
     simp only [SS,DD,Nat.reduceAdd,d0,ej,cZ hx,cZ hy,ax,bl,d1,ew2]
     refine ⟨by simp [aJ],(j-1,_),⟨by simp only [];omega, ?_⟩,by simp only [];omega,Wk.slots (by simp [Fg]) (Nat.le_refl _)⟩
     simp only []
     rw [List.drop_eq_getElem_cons XE,List.drop_eq_getElem_cons JZ,PC]
     obtain ⟨_,h1⟩:=List.getElem?_eq_some_iff.1 hx
     obtain ⟨_,h2⟩:=List.getElem?_eq_some_iff.1 hy
     rw [h1,h2,nO]
   . have d1:decide ((x:Int)≠(y:Int))=true:=ai (by omega)
     have e:iy (x:Int) (y:Int)=gr m n:=by
       rcases Nat.lt_or_ge x y with h1 | h1
       . have:=AY (aK m) (aK n) hl hx hy PC h1
         rw [aH,aH] at this
         rw [uD (by omega)];unfold gr;rw [uD (by omega)]
       . have:=AY (aK n) (aK m) hl.symm hy hx PC.symm (by omega)
         rw [aH,aH] at this
         rw [uE (by omega)];unfold gr;rw [uE (by omega)]
     simp only [SS,DD,Nat.reduceAdd,d0,ej,cZ hx,cZ hy,ax,bl,d1]
     refine ⟨by simp [aJ], ?_⟩
     refine dG (hw _ _) (by simp [af.int]) ?_
     simp only [SS,DD,Nat.reduceAdd,e]
     refine ⟨by simp [aJ], ?_⟩
     exact ah▸ae rfl (af.int _ _)
end
theorem xD {o:List Nat} (h:Wd o) (rn:o=[]∨au ^ (o.length-1)<=val o):digits (val o)=o:=by
 refine kh h ?_
 rcases rn with h0 | rn
 . exact .inl h0
 . by_cases h0:o=[]
   . exact .inl h0
   . right
     refine ⟨o.getLast h0,List.getLast?_eq_some_getLast h0,fun hz => ?_⟩
     have e:=List.dropLast_concat_getLast h0
     rw [hz] at e
     have hv:val o=val o.dropLast:=by rw [<- e,jK,List.dropLast_concat]
     have hlt:=kg (ws:=o.dropLast) (fun w hw=>h w ((List.dropLast_sublist _).subset hw))
     rw [List.length_dropLast] at hlt
     omega
theorem aC {a:List Nat} {i x:Nat} (h:a[i]? = some x):val (a.take (i+1))=val (a.take i)+au ^ i*x:=by
 have hlt:=(List.getElem?_eq_some_iff.1 h).1
 have e:a.take (i+1)=a.take i++[x]:=by rw [List.take_add_one,h];rfl
 rw [e,cj]
 have:(a.take i).length=i:=by rw [List.length_take];omega
 rw [this];simp [val]
theorem iz {a:List Nat} {i:Nat} (h:a.length<=i):val (a.take (i+1))=val (a.take i):=by
 rw [List.take_of_length_le h,List.take_of_length_le (by omega)]
theorem kO {o:List Nat} {i c va vb x y s:Nat} (ho:o.length=i) (hv:val o+au ^ i*c=va+vb) (hs:s=c+x+y):val (o++[s%au])+au ^ (i+1)*(s/au)=(va+au ^ i*x)+(vb+au ^ i*y):=by
 have e2:=Nat.mod_add_div s au
 rw [cj,ho]
 simp only [val,Nat.mul_zero,Nat.add_zero,Nat.pow_succ]
 rw [Nat.mul_assoc,Nat.add_assoc, <- Nat.mul_add,e2,hs]
 rw [Nat.mul_add,Nat.mul_add]
 omega
theorem mD {o:List Nat} (h:Wd o) (s:Nat):Wd (o++[s%au]):=cw h (by intro w hw;simp at hw;subst hw;exact Nat.mod_lt _ cP)
theorem sK (s:Nat):IntKind.u32.wrap (s:Int)=((s%au:Nat):Int):=by rw [IntKind.wrap_u32];unfold au;omega
theorem w64 (s:Nat) (h:s<18446744073709551616):IntKind.u64.wrap (s:Int)=(s:Int):=by rw [IntKind.wrap_u64];omega
theorem mb (s:Nat):bn .shr .int (.int .u64 (s:Int)) (.int .u64 32)=some (.int .u64 ((s/au:Nat):Int)):=by
 rw [po (by decide)]
 have:(s:Int).fdiv (2 ^ (min (32:Int).toNat IntKind.u64.bits))=((s/au:Nat):Int):=by
   show (s:Int).fdiv (2 ^ 32)=_
   rw [Int.fdiv_eq_ediv_of_nonneg _ (by decide)];unfold au;omega
 rw [this]
theorem bf (x:Nat) (h:x<au):IntKind.u64.wrap (x:Int)=(x:Int):=w64 x (by unfold au at h;omega)
theorem mN (a b:Nat) (h:a+b<18446744073709551616):IntKind.u64.wrap ((a:Int)+(b:Int))=((a+b:Nat):Int):=by rw [IntKind.wrap_u64];omega
theorem xE {σ : aa} {q:Id} {x:Nat}:bu σ q (.buildSl 1 1 (.int .u32 0) [(0, .int .u32 (x:Int))])=some { val := .osl q 1 0 1 false,up:=[(q,some ⟨us [x],1,false⟩)] }:=XA rfl rfl rfl rfl
theorem Wt {p:Id} {c:Nat} (h:c*4<=140737488355328):j4 p 1 4 (.int .u32 0) (.int .i64 0) (.int .i64 (c:Int))=some { val := .osl p 1 0 0 false,up:=[(p,some ⟨us [],1,false⟩)] }:=by
 have hm:=bE (n:=c) (by omega)
 show (if (0:Int)<=0/\(0:Int)<=(c:Int)/\(c:Int)*((4:Nat):Int)<=140737488355328/\(c:Int)<=((maxLen:Nat):Int)/\(AV.int IntKind.u32 0).size=1/\(AV.int IntKind.u32 0).cells.all AV.one=true then _ else none)=_
 rw [if_pos ⟨by omega,by omega,by omega,by omega,rfl,rfl⟩]
 rfl
theorem vY {σ : aa} {p id q:Id} {o:List Nat} {x len:Nat} (hq:q≠id) (hl:len=o.length) (hb:(len+1)*4<=140737488355328) (h : σ id=some ⟨us o,1,false⟩) :
   bQ (σ.put q (some ⟨us [x],1,false⟩)) p 1 4 (.osl id 1 0 len false) (.osl q 1 0 1 false)=some { val := .osl p 1 0 (len+1) false,rd:=[id,q],up:=[(id,none),(p,some ⟨us (o++[x]),1,false⟩)] }:=by
 have:=jf (σ := σ.put q (some ⟨us [x],1,false⟩)) (p:=p) (id:=id) (k:=1) (bytes:=4) (len:=len) (els:=us o) (x := .osl q 1 0 1 false) (ys:=us [x]) (rd:=[q])
   (dY (bk:=⟨us [x],1,false⟩) (aa.a6 _ _ _) rfl (by simp [dD])) (by simp [us]) (by rw [aa.bb _ _ _ hq.symm];exact h) (by rw [dD];exact hl) (by rw [dD];exact hb) (bE (by rw [dD];simp;omega)) (y2 _) (y2 _)
 rw [this,y0]
 simp [dD]
theorem B3 {rs:List pO} {s:VS} {id:Id} {n:Nat} {t b:Bool} {o:List Nat} (h1:fY rs s=some (.osl id 1 0 n t)) (h2:s.σ id=some ⟨us o,1,b⟩) (hn:n=o.length):∃ r0,fY rs s=some r0/\View s.σ r0 (.sl 1 (us o)):=by
 subst hn
 refine ⟨_,h1,View.osl (bk:=⟨us o,1,b⟩) h2 rfl (by simp [dD]) ?_ (by rw [dD]) (uC o)⟩
 rw [List.drop_zero,List.take_of_length_le (by rw [dD];exact Nat.le_refl _)]
 exact aI.pure (qE o)
section
variable {P:Program} {G:Nat->Option (List AV)}
theorem Um {f:FuncId} (h:Has P f n5) (m n:Nat) (hm:ab m<=1000000) (hn:ab n<=1000000):VP P G f [W m,W n] (W (m+n)):=by
 refine VP.has h ?_
 simp only [n5,SS,Nat.reduceAdd,bc]
 by_cases hs:ab m<ab n
 . have hle:ab m<=ab n:=by omega
   have hlx:ab n<=1000000:=hn
   have hd:decide ((ab m:Int)<(ab n:Int))=true:=by first | exact ai (by omega) | exact ag (by omega)
   have ew:IntKind.i64.wrap ((ab n:Int)+1)=((ab n+1:Nat):Int):=ao _ (by omega)
   have uR:∀ p:Id,j4 p 1 4 (.int .u32 0) (.int .i64 0) (.int .i64 ((ab n+1:Nat):Int))=some { val := .osl p 1 0 0 false,up:=[(p,some ⟨us [],1,false⟩)] }:=fun p=>Wt (by omega)
   simp only [SS,Nat.reduceAdd,bc,hd,ew,uR,az]
   refine VW.bG (α := Nat × Nat × Nat × List Nat × Nat) (fun x=>⟨[W n,W m, .top, .top, .top, .osl [x.2.2.1] 1 0 x.1 false, .int .u64 (x.2.2.2.2:Int), .top, .top]++List.replicate 11 .top++[W n, .int .i64 (ab n), .int .i64 x.1]++List.replicate 35 .top,
     aa.put (fun _=>none) [x.2.2.1] (some ⟨us x.2.2.2.1,1,false⟩),x.2.1⟩)
     (fun x=>x.1<=ab n/\x.2.2.1<x.2.1/\x.2.2.2.1.length=x.1/\Wd x.2.2.2.1/\x.2.2.2.2<=1/\val x.2.2.2.1+au ^ x.1*x.2.2.2.2=val ((digits n).take x.1)+val ((digits m).take x.1)) (fun x=>ab n-x.1) (0,19,13,[],0) ?_ ?_ ?_
   . exact Wk.slots (by simp [Fg,List.replicate]) (Nat.le_refl _)
   . exact ⟨Nat.zero_le _,by decide,rfl,by intro w hw;simp at hw,by decide,by simp [val]⟩
   rintro ⟨i,nn,q,o,c⟩ ⟨hi,hq,ho,hwd,hc,hv⟩
   simp only [] at hi hq ho hwd hc hv
   have oH:i<ab n->decide ((i:Int)<(ab n:Int))=true:=fun h=>ai (by omega)
   have hd2 : ¬ i<ab n->decide ((i:Int)<(ab n:Int))=false:=fun h=>ag (by omega)
   have XF:(i+1)*4<=140737488355328:=by omega
   have cI : ¬ i<ab n->i=ab n:=by omega
   have py:=ao i (by omega)
   simp only [SS]
   by_cases hlt:i<ab n
   . have ic:i+1<=ab n/\ab n-(i+1)<ab n-i:=by omega
     obtain ⟨a,ha⟩:∃ a,(digits n)[i]? = some a:=⟨_,List.getElem?_eq_getElem hlt⟩
     have rH:=aK n a (List.mem_of_getElem? ha)
     have f1:=bf a rH
     have f2:=mN c a (by unfold au at rH;omega)
     by_cases hy:i<ab m
     . obtain ⟨b,hb⟩:∃ b,(digits m)[i]? = some b:=⟨_,List.getElem?_eq_getElem hy⟩
       have wN:=aK m b (List.mem_of_getElem? hb)
       have d3:decide ((i:Int)<(ab m:Int))=true:=ai (by omega)
       have f3:=bf b wN
       have f4:=mN (c+a) b (by unfold au at rH wN;omega)
       have H4:(c+a+b)/au<=1:=by unfold au at rH wN ⊢;omega
       simp only [SS,Nat.reduceAdd,oH hlt,cZ ha,cZ hb,bc,ax,bl,f1,f2,d3,f3,f4,sK,xE]
       rw [vY (o:=o)]
       . simp only [SS,Nat.reduceAdd,mb,py]
         refine ⟨(i+1,_,nn+1+5+5+4+8+4,o++[(c+a+b)%au],(c+a+b)/au),⟨ic.1, ?_,by simp [ho],mD hwd _,H4, ?_⟩,ic.2,Wk.forget (by simp [Fg]) (fun j => ?_) (Nat.le_refl _)⟩
         . simp only [];omega
         . show val (o++[(c+a+b)%au])+au ^ (i+1)*((c+a+b)/au)=_
           rw [aC ha,aC hb]
           exact kO ho hv rfl
         . simp only [aa.put];split<;>simp
       . intro e;simp at e;omega
       . exact ho.symm
       . exact XF
       . exact aa.a6 _ _ _
     . have d3:decide ((i:Int)<(ab m:Int))=false:=ag (by omega)
       have H4:(c+a)/au<=1:=by unfold au at rH ⊢;omega
       simp only [SS,Nat.reduceAdd,oH hlt,cZ ha,bc,ax,bl,f1,f2,d3,sK,xE]
       rw [vY (o:=o)]
       . simp only [SS,Nat.reduceAdd,mb,py]
         refine ⟨(i+1,_,nn+1+5+5+4+4,o++[(c+a)%au],(c+a)/au),⟨ic.1, ?_,by simp [ho],mD hwd _,H4, ?_⟩,ic.2,Wk.forget (by simp [Fg]) (fun j => ?_) (Nat.le_refl _)⟩
         . simp only [];omega
         . show val (o++[(c+a)%au])+au ^ (i+1)*((c+a)/au)=_
           rw [aC ha,iz (by show ab m<=i;omega)]
           have:=kO (x:=a) (y:=0) (s:=c+a) ho hv (by omega)
           simpa using this
         . simp only [aa.put];split<;>simp
       . intro e;simp at e;omega
       . exact ho.symm
       . exact XF
       . exact aa.a6 _ _ _
   . have mE:=cI hlt
     have xF:val o+au ^ i*c=m+n:=by
       have e1:(digits n).take (ab n)=digits n:=List.take_of_length_le (Nat.le_refl _)
       have e2:(digits m).take (ab n)=digits m:=List.take_of_length_le hle
       rw [hv,mE,e1,e2,aH,aH]
       all_goals omega
     by_cases h0:c=0
     . have d4:decide ((0:Int)<(c:Int))=false:=ag (by omega)
       have e:W (m+n) = .sl 1 (us o):=by
         rw [h0] at xF
         simp only [Nat.mul_zero,Nat.add_zero] at xF
         unfold W
         rw [<- xF,xD hwd]
         rcases Nat.eq_zero_or_pos i with h1 | h1
         . left;rw [h1] at ho;exact List.length_eq_zero_iff.1 ho
         . right
           rw [xF,ho,mE]
           have Og:n≠0:=by rintro e;rw [e] at mE;simp [ab,bh] at mE;omega
           have:=px Og
           omega
       simp only [SS,Nat.reduceAdd,hd2 hlt,d4]
       rw [e]
       exact ah▸B3 (b:=false) rfl (by simp [aa.put]) ho.symm
     . have PF:c=1:=by omega
       have d4:decide ((0:Int)<(c:Int))=true:=ai (by omega)
       have e1:c%au=1:=by rw [PF];rfl
       have e:W (m+n) = .sl 1 (us (o++[1])):=by
         have l0:val (o++[1])=m+n:=by rw [cj,ho, <- xF,PF];simp [val]
         unfold W
         rw [<- l0,kh (cw hwd (by intro w hw;simp at hw;subst hw;decide)) (.inr ⟨1,by simp,by decide⟩)]
       simp only [SS,Nat.reduceAdd,hd2 hlt,d4,sK,e1,xE]
       rw [vY (o:=o)]
       . simp only [SS,Nat.reduceAdd]
         rw [e]
         exact ah▸B3 (b:=false) rfl (by simp [aa.put]) (by simp [ho])
       . intro e;simp at e;omega
       . exact ho.symm
       . exact XF
       . exact aa.a6 _ _ _
 . have hle:ab n<=ab m:=by omega
   have hlx:ab m<=1000000:=hm
   have hd:decide ((ab m:Int)<(ab n:Int))=false:=by first | exact ai (by omega) | exact ag (by omega)
   have ew:IntKind.i64.wrap ((ab m:Int)+1)=((ab m+1:Nat):Int):=ao _ (by omega)
   have uR:∀ p:Id,j4 p 1 4 (.int .u32 0) (.int .i64 0) (.int .i64 ((ab m+1:Nat):Int))=some { val := .osl p 1 0 0 false,up:=[(p,some ⟨us [],1,false⟩)] }:=fun p=>Wt (by omega)
   simp only [SS,Nat.reduceAdd,bc,hd,ew,uR,az]
   refine VW.bG (α := Nat × Nat × Nat × List Nat × Nat) (fun x=>⟨[W m,W n, .top, .top, .top, .osl [x.2.2.1] 1 0 x.1 false, .int .u64 (x.2.2.2.2:Int), .top, .top]++List.replicate 11 .top++[W m, .int .i64 (ab m), .int .i64 x.1]++List.replicate 35 .top,
     aa.put (fun _=>none) [x.2.2.1] (some ⟨us x.2.2.2.1,1,false⟩),x.2.1⟩)
     (fun x=>x.1<=ab m/\x.2.2.1<x.2.1/\x.2.2.2.1.length=x.1/\Wd x.2.2.2.1/\x.2.2.2.2<=1/\val x.2.2.2.1+au ^ x.1*x.2.2.2.2=val ((digits m).take x.1)+val ((digits n).take x.1)) (fun x=>ab m-x.1) (0,15,9,[],0) ?_ ?_ ?_
   . exact Wk.slots (by simp [Fg,List.replicate]) (Nat.le_refl _)
   . exact ⟨Nat.zero_le _,by decide,rfl,by intro w hw;simp at hw,by decide,by simp [val]⟩
   rintro ⟨i,nn,q,o,c⟩ ⟨hi,hq,ho,hwd,hc,hv⟩
   simp only [] at hi hq ho hwd hc hv
   have oH:i<ab m->decide ((i:Int)<(ab m:Int))=true:=fun h=>ai (by omega)
   have hd2 : ¬ i<ab m->decide ((i:Int)<(ab m:Int))=false:=fun h=>ag (by omega)
   have XF:(i+1)*4<=140737488355328:=by omega
   have cI : ¬ i<ab m->i=ab m:=by omega
   have py:=ao i (by omega)
   simp only [SS]
   by_cases hlt:i<ab m
   . have ic:i+1<=ab m/\ab m-(i+1)<ab m-i:=by omega
     obtain ⟨a,ha⟩:∃ a,(digits m)[i]? = some a:=⟨_,List.getElem?_eq_getElem hlt⟩
     have rH:=aK m a (List.mem_of_getElem? ha)
     have f1:=bf a rH
     have f2:=mN c a (by unfold au at rH;omega)
     by_cases hy:i<ab n
     . obtain ⟨b,hb⟩:∃ b,(digits n)[i]? = some b:=⟨_,List.getElem?_eq_getElem hy⟩
       have wN:=aK n b (List.mem_of_getElem? hb)
       have d3:decide ((i:Int)<(ab n:Int))=true:=ai (by omega)
       have f3:=bf b wN
       have f4:=mN (c+a) b (by unfold au at rH wN;omega)
       have H4:(c+a+b)/au<=1:=by unfold au at rH wN ⊢;omega
       simp only [SS,Nat.reduceAdd,oH hlt,cZ ha,cZ hb,bc,ax,bl,f1,f2,d3,f3,f4,sK,xE]
       rw [vY (o:=o)]
       . simp only [SS,Nat.reduceAdd,mb,py]
         refine ⟨(i+1,_,nn+1+5+5+4+8+4,o++[(c+a+b)%au],(c+a+b)/au),⟨ic.1, ?_,by simp [ho],mD hwd _,H4, ?_⟩,ic.2,Wk.forget (by simp [Fg]) (fun j => ?_) (Nat.le_refl _)⟩
         . simp only [];omega
         . show val (o++[(c+a+b)%au])+au ^ (i+1)*((c+a+b)/au)=_
           rw [aC ha,aC hb]
           exact kO ho hv rfl
         . simp only [aa.put];split<;>simp
       . intro e;simp at e;omega
       . exact ho.symm
       . exact XF
       . exact aa.a6 _ _ _
     . have d3:decide ((i:Int)<(ab n:Int))=false:=ag (by omega)
       have H4:(c+a)/au<=1:=by unfold au at rH ⊢;omega
       simp only [SS,Nat.reduceAdd,oH hlt,cZ ha,bc,ax,bl,f1,f2,d3,sK,xE]
       rw [vY (o:=o)]
       . simp only [SS,Nat.reduceAdd,mb,py]
         refine ⟨(i+1,_,nn+1+5+5+4+4,o++[(c+a)%au],(c+a)/au),⟨ic.1, ?_,by simp [ho],mD hwd _,H4, ?_⟩,ic.2,Wk.forget (by simp [Fg]) (fun j => ?_) (Nat.le_refl _)⟩
         . simp only [];omega
         . show val (o++[(c+a)%au])+au ^ (i+1)*((c+a)/au)=_
           rw [aC ha,iz (by show ab n<=i;omega)]
           have:=kO (x:=a) (y:=0) (s:=c+a) ho hv (by omega)
           simpa using this
         . simp only [aa.put];split<;>simp
       . intro e;simp at e;omega
       . exact ho.symm
       . exact XF
       . exact aa.a6 _ _ _
   . have mE:=cI hlt
     have xF:val o+au ^ i*c=m+n:=by
       have e1:(digits m).take (ab m)=digits m:=List.take_of_length_le (Nat.le_refl _)
       have e2:(digits n).take (ab m)=digits n:=List.take_of_length_le hle
       rw [hv,mE,e1,e2,aH,aH]
       all_goals omega
     by_cases h0:c=0
     . have d4:decide ((0:Int)<(c:Int))=false:=ag (by omega)
       have e:W (m+n) = .sl 1 (us o):=by
         rw [h0] at xF
         simp only [Nat.mul_zero,Nat.add_zero] at xF
         unfold W
         rw [<- xF,xD hwd]
         rcases Nat.eq_zero_or_pos i with h1 | h1
         . left;rw [h1] at ho;exact List.length_eq_zero_iff.1 ho
         . right
           rw [xF,ho,mE]
           have Og:m≠0:=by rintro e;rw [e] at mE;simp [ab,bh] at mE;omega
           have:=px Og
           omega
       simp only [SS,Nat.reduceAdd,hd2 hlt,d4]
       rw [e]
       exact ah▸B3 (b:=false) rfl (by simp [aa.put]) ho.symm
     . have PF:c=1:=by omega
       have d4:decide ((0:Int)<(c:Int))=true:=ai (by omega)
       have e1:c%au=1:=by rw [PF];rfl
       have e:W (m+n) = .sl 1 (us (o++[1])):=by
         have l0:val (o++[1])=m+n:=by rw [cj,ho, <- xF,PF];simp [val]
         unfold W
         rw [<- l0,kh (cw hwd (by intro w hw;simp at hw;subst hw;decide)) (.inr ⟨1,by simp,by decide⟩)]
       simp only [SS,Nat.reduceAdd,hd2 hlt,d4,sK,e1,xE]
       rw [vY (o:=o)]
       . simp only [SS,Nat.reduceAdd]
         rw [e]
         exact ah▸B3 (b:=false) rfl (by simp [aa.put]) (by simp [ho])
       . intro e;simp at e;omega
       . exact ho.symm
       . exact XF
       . exact aa.a6 _ _ _
end
end Go.VL
