/- For the claim of FeatureOffset: parts VL38, VL39, VL40, PUI, CQR, OI1, OI2, QVL, OJ1, OJ2, CQS, OJ3, CS1, CS2, OA1, OA2. -/
import Derived.Test.YtndoagbiakehnaaGreatC05
import Derived.Test.YtndoagbiakehnaaGreatC09
import Derived.Test.YtndoagbiakehnaaGreatC07
import Derived.Test.YtndoagbiakehnaaGreatC03
import Derived.KernelRfl
import Derived.Test.YtndoagbiakehnaaGreatC08
set_option linter.unusedSimpArgs false
set_option linter.unusedVariables false
section
namespace Go.VL
mutual
def AV.dJ (ρ : Id->Id):AV->AV
 | .fn f a c => .fn f (bQ ρ a) (bQ ρ c)
 | .agg cs => .agg (bQ ρ cs)
 | .tup cs => .tup (bQ ρ cs)
 | .sl k es => .sl k (bQ ρ es)
 | .tsl k es => .tsl k (bQ ρ es)
 | .osl i k o l t => .osl (ρ i) k o l t
 | .ref i e o => .ref (ρ i) e o
 | .ep cs o => .ep (bQ ρ cs) o
 | .bool b => .bool b
 | .int k n => .int k n
 | .str l => .str l
 | .nilp => .nilp
 | .nilf => .nilf
 | .nils => .nils
 | .top => .top
 | .anyb => .anyb
 | .ige n => .ige n
def bQ (ρ : Id->Id):List AV->List AV
 | []=>[]
 | c::cs=>c.dJ ρ :: bQ ρ cs
end
def dc.dJ (ρ : Id->Id) (b:dc):dc:=⟨bQ ρ b.els,b.k,b.fr⟩
section
variable {ρ : Id->Id}
theorem iV:∀ {cs:List AV},bQ ρ cs=cs.map (AV.dJ ρ)
 | []=>rfl
 | c::cs=>by simp only [bQ,List.map_cons,iV (cs:=cs)]
theorem iq {cs:List AV}:(bQ ρ cs).length=cs.length:=by rw [iV,List.length_map]
theorem Bv (c:AV):(c.dJ ρ).cells=bQ ρ c.cells:=by cases c<;>rfl
theorem Ox (c:AV):(c.dJ ρ).size=c.size:=by unfold AV.size;rw [Bv,iq]
theorem cL {xs ys:List AV}:bQ ρ (xs++ys)=bQ ρ xs++bQ ρ ys:=by simp only [iV,List.map_append]
theorem D9:∀ {es:List AV},flat (bQ ρ es)=bQ ρ (flat es)
 | []=>rfl
 | e::es=>by
   have h1:flat (e::es)=e.cells++flat es:=by simp [flat]
   have h2:flat (bQ ρ (e::es))=(e.dJ ρ).cells++flat (bQ ρ es):=by simp [flat,bQ]
   rw [h1,h2,Bv,cL,D9 (es:=es)]
theorem Bw {k:Nat} {es:List AV} (h:∀ e∈es,e.size=k):∀ e∈bQ ρ es,e.size=k:=by
 intro e he;rw [iV] at he;obtain ⟨x,hx,rfl⟩:=List.mem_map.1 he;rw [Ox];exact h x hx
theorem C0 {k:Nat} {es:List AV} (h:∀ e∈bQ ρ es,e.size=k):∀ e∈es,e.size=k:=by
 intro e he;rw [<- Ox (ρ := ρ)];exact h _ (by rw [iV];exact List.mem_map.2 ⟨e,he,rfl⟩)
mutual
theorem aN.dJ {E E':Env} {w:World} (hμ : ∀ i x,E.μ i=some x->E'.μ (ρ i)=some x) (ib:∀ b,E.ok b->E'.ok b):∀ (c:AV) (v:Value),aN E w c v->aN E' w (c.dJ ρ) v
 | .bool _,_,r=>by simpa [aN,AV.dJ] using r
 | .int _ _,_,r=>by simpa [aN,AV.dJ] using r
 | .str _,_,r=>by simpa [aN,AV.dJ] using r
 | .nilp,_,r=>by simpa [aN,AV.dJ] using r
 | .nilf,_,r=>by simpa [aN,AV.dJ] using r
 | .nils,_,r=>by simpa [aN,AV.dJ] using r
 | .top,_,_=>by simp [aN,AV.dJ]
 | .anyb,_,r=>by simpa [aN,AV.dJ] using r
 | .ige _,_,r=>by simpa [aN,AV.dJ] using r
 | .fn f a c,v,r=>by
   simp only [aN,AV.dJ] at r ⊢
   obtain ⟨xs,ys,e,ra,rc⟩:=r
   exact ⟨xs,ys,e,aU.dJ hμ ib a _ ra,aU.dJ hμ ib c _ rc⟩
 | .agg cs,v,r=>by
   simp only [aN,AV.dJ] at r ⊢
   obtain ⟨xs,e,ra⟩:=r
   exact ⟨xs,e,aU.dJ hμ ib cs _ ra⟩
 | .tup cs,v,r=>by
   simp only [aN,AV.dJ] at r ⊢
   obtain ⟨xs,e,ra⟩:=r
   exact ⟨xs,e,aU.dJ hμ ib cs _ ra⟩
 | .sl k es,v,r=>by
   simp only [aN,AV.dJ] at r ⊢
   obtain ⟨a,cap,e,h1,h2,hk,h3⟩:=r
   refine ⟨a,cap,by rw [iq];exact e,by rw [iq];exact h1,h2,Bw hk,h3.imp (fun h=>by rw [h];rfl) ?_⟩
   rintro ⟨b,o,ea,hb,hr⟩
   exact ⟨b,o,ea,ib b hb,bm.dJ hμ ib es o hr⟩
 | .tsl k es,v,r=>by
   simp only [aN,AV.dJ] at r ⊢
   obtain ⟨a,e,h2,hk,h3⟩:=r
   refine ⟨a,by rw [iq];exact e,by rw [iq];exact h2,Bw hk,h3.imp (fun h=>by rw [h];rfl) ?_⟩
   rintro ⟨b,o,ea,hb,hr⟩
   exact ⟨b,o,ea,ib b hb,bm.dJ hμ ib es o hr⟩
 | .osl id k off len t,v,r=>by
   simp only [aN,AV.dJ] at r ⊢
   obtain ⟨g,N,cap,hm,rest⟩:=r
   exact ⟨g,N,cap,hμ _ _ hm,rest⟩
 | .ref id e o,v,r=>by
   simp only [aN,AV.dJ] at r ⊢
   obtain ⟨g,k,N,hm,rest⟩:=r
   exact ⟨g,k,N,hμ _ _ hm,rest⟩
 | .ep cs o,v,r=>by
   simp only [aN,AV.dJ] at r ⊢
   obtain ⟨b,p,e,hb,hr⟩:=r
   exact ⟨b,p,e,ib b hb,bq.dJ hμ ib cs p hr⟩
theorem aU.dJ {E E':Env} {w:World} (hμ : ∀ i x,E.μ i=some x->E'.μ (ρ i)=some x) (ib:∀ b,E.ok b->E'.ok b):∀ (cs:List AV) (vs:List Value),aU E w cs vs->aU E' w (bQ ρ cs) vs
 | [],_,r=>by simpa [aU,bQ] using r
 | c::cs,vs,r=>by
   simp only [aU,bQ] at r ⊢
   obtain ⟨v,rest,e,r1,r2⟩:=r
   exact ⟨v,rest,e,aN.dJ hμ ib c v r1,aU.dJ hμ ib cs rest r2⟩
theorem bm.dJ {E E':Env} {w:World} (hμ : ∀ i x,E.μ i=some x->E'.μ (ρ i)=some x) (ib:∀ b,E.ok b->E'.ok b) {b:Nat}:∀ (es:List AV) (o:Nat),bm E w b o es->bm E' w b o (bQ ρ es)
 | [],_,_=>by simp [bm,bQ]
 | .agg cs::es,o,r=>by
   simp only [bm,bQ,AV.dJ,iq] at r ⊢
   exact ⟨bq.dJ hμ ib cs o r.1,bm.dJ hμ ib es _ r.2⟩
 | .bool _::es,o,r | .int _ _::es,o,r | .str _::es,o,r | .nilp::es,o,r | .nilf::es,o,r | .nils::es,o,r | .top::es,o,r | .anyb::es,o,r | .ige _::es,o,r | .fn _ _ _::es,o,r
 | .tup _::es,o,r | .sl _ _::es,o,r | .tsl _ _::es,o,r | .osl _ _ _ _ _::es,o,r | .ref _ _ _::es,o,r | .ep _ _::es,o,r=>by
   simp only [bm,bQ,AV.dJ] at r ⊢
   obtain ⟨⟨v,hv,hr⟩,r2⟩:=r
   have:=aN.dJ hμ ib _ v hr
   simp only [AV.dJ] at this
   exact ⟨⟨v,hv,this⟩,bm.dJ hμ ib es _ r2⟩
theorem bq.dJ {E E':Env} {w:World} (hμ : ∀ i x,E.μ i=some x->E'.μ (ρ i)=some x) (ib:∀ b,E.ok b->E'.ok b) {b:Nat}:∀ (cs:List AV) (o:Nat),bq E w b o cs->bq E' w b o (bQ ρ cs)
 | [],_,_=>by simp [bq,bQ]
 | c::cs,o,r=>by
   simp only [bq,bQ] at r ⊢
   obtain ⟨⟨v,hv,hr⟩,r2⟩:=r
   exact ⟨⟨v,hv,aN.dJ hμ ib c v hr⟩,bq.dJ hμ ib cs _ r2⟩
end
mutual
theorem aN.dE {E E':Env} {w:World} (hμ : ∀ i x,E'.μ (ρ i)=some x->E.μ i=some x) (ib:∀ b,E'.ok b->E.ok b):∀ (c:AV) (v:Value),aN E' w (c.dJ ρ) v->aN E w c v
 | .bool _,_,r=>by simpa [aN,AV.dJ] using r
 | .int _ _,_,r=>by simpa [aN,AV.dJ] using r
 | .str _,_,r=>by simpa [aN,AV.dJ] using r
 | .nilp,_,r=>by simpa [aN,AV.dJ] using r
 | .nilf,_,r=>by simpa [aN,AV.dJ] using r
 | .nils,_,r=>by simpa [aN,AV.dJ] using r
 | .top,_,_=>by simp [aN]
 | .anyb,_,r=>by simpa [aN,AV.dJ] using r
 | .ige _,_,r=>by simpa [aN,AV.dJ] using r
 | .fn f a c,v,r=>by
   simp only [aN,AV.dJ] at r ⊢
   obtain ⟨xs,ys,e,ra,rc⟩:=r
   exact ⟨xs,ys,e,aU.dE hμ ib a _ ra,aU.dE hμ ib c _ rc⟩
 | .agg cs,v,r=>by
   simp only [aN,AV.dJ] at r ⊢
   obtain ⟨xs,e,ra⟩:=r
   exact ⟨xs,e,aU.dE hμ ib cs _ ra⟩
 | .tup cs,v,r=>by
   simp only [aN,AV.dJ] at r ⊢
   obtain ⟨xs,e,ra⟩:=r
   exact ⟨xs,e,aU.dE hμ ib cs _ ra⟩
 | .sl k es,v,r=>by
   simp only [aN,AV.dJ,iq] at r ⊢
   obtain ⟨a,cap,e,h1,h2,hk,h3⟩:=r
   refine ⟨a,cap,e,h1,h2,C0 hk,h3.imp (fun h=>by have:=congrArg List.length h;rw [iq] at this;exact List.length_eq_zero_iff.1 this) ?_⟩
   rintro ⟨b,o,ea,hb,hr⟩
   exact ⟨b,o,ea,ib b hb,bm.dE hμ ib es o hr⟩
 | .tsl k es,v,r=>by
   simp only [aN,AV.dJ,iq] at r ⊢
   obtain ⟨a,e,h2,hk,h3⟩:=r
   refine ⟨a,e,h2,C0 hk,h3.imp (fun h=>by have:=congrArg List.length h;rw [iq] at this;exact List.length_eq_zero_iff.1 this) ?_⟩
   rintro ⟨b,o,ea,hb,hr⟩
   exact ⟨b,o,ea,ib b hb,bm.dE hμ ib es o hr⟩
 | .osl id k off len t,v,r=>by
   simp only [aN,AV.dJ] at r ⊢
   obtain ⟨g,N,cap,hm,rest⟩:=r
   exact ⟨g,N,cap,hμ _ _ hm,rest⟩
 | .ref id e o,v,r=>by
   simp only [aN,AV.dJ] at r ⊢
   obtain ⟨g,k,N,hm,rest⟩:=r
   exact ⟨g,k,N,hμ _ _ hm,rest⟩
 | .ep cs o,v,r=>by
   simp only [aN,AV.dJ] at r ⊢
   obtain ⟨b,p,e,hb,hr⟩:=r
   exact ⟨b,p,e,ib b hb,bq.dE hμ ib cs p hr⟩
theorem aU.dE {E E':Env} {w:World} (hμ : ∀ i x,E'.μ (ρ i)=some x->E.μ i=some x) (ib:∀ b,E'.ok b->E.ok b):∀ (cs:List AV) (vs:List Value),aU E' w (bQ ρ cs) vs->aU E w cs vs
 | [],_,r=>by simpa [aU,bQ] using r
 | c::cs,vs,r=>by
   simp only [aU,bQ] at r ⊢
   obtain ⟨v,rest,e,r1,r2⟩:=r
   exact ⟨v,rest,e,aN.dE hμ ib c v r1,aU.dE hμ ib cs rest r2⟩
theorem bm.dE {E E':Env} {w:World} (hμ : ∀ i x,E'.μ (ρ i)=some x->E.μ i=some x) (ib:∀ b,E'.ok b->E.ok b) {b:Nat}:∀ (es:List AV) (o:Nat),bm E' w b o (bQ ρ es)->bm E w b o es
 | [],_,_=>by simp [bm]
 | .agg cs::es,o,r=>by
   simp only [bm,bQ,AV.dJ,iq] at r ⊢
   exact ⟨bq.dE hμ ib cs o r.1,bm.dE hμ ib es _ r.2⟩
 | .bool b1::es,o,r=>by simp only [bm,bQ,AV.dJ] at r ⊢;obtain ⟨⟨v,hv,hr⟩,r2⟩:=r;exact ⟨⟨v,hv,aN.dE hμ ib (.bool b1) v hr⟩,bm.dE hμ ib es _ r2⟩
 | .int a1 a2::es,o,r=>by simp only [bm,bQ,AV.dJ] at r ⊢;obtain ⟨⟨v,hv,hr⟩,r2⟩:=r;exact ⟨⟨v,hv,aN.dE hμ ib (.int a1 a2) v hr⟩,bm.dE hμ ib es _ r2⟩
 | .str a1::es,o,r=>by simp only [bm,bQ,AV.dJ] at r ⊢;obtain ⟨⟨v,hv,hr⟩,r2⟩:=r;exact ⟨⟨v,hv,aN.dE hμ ib (.str a1) v hr⟩,bm.dE hμ ib es _ r2⟩
 | .nilp::es,o,r=>by simp only [bm,bQ,AV.dJ] at r ⊢;obtain ⟨⟨v,hv,hr⟩,r2⟩:=r;exact ⟨⟨v,hv,aN.dE hμ ib .nilp v hr⟩,bm.dE hμ ib es _ r2⟩
 | .nilf::es,o,r=>by simp only [bm,bQ,AV.dJ] at r ⊢;obtain ⟨⟨v,hv,hr⟩,r2⟩:=r;exact ⟨⟨v,hv,aN.dE hμ ib .nilf v hr⟩,bm.dE hμ ib es _ r2⟩
 | .nils::es,o,r=>by simp only [bm,bQ,AV.dJ] at r ⊢;obtain ⟨⟨v,hv,hr⟩,r2⟩:=r;exact ⟨⟨v,hv,aN.dE hμ ib .nils v hr⟩,bm.dE hμ ib es _ r2⟩
 | .top::es,o,r=>by simp only [bm,bQ,AV.dJ] at r ⊢;obtain ⟨⟨v,hv,hr⟩,r2⟩:=r;exact ⟨⟨v,hv,aN.dE hμ ib .top v hr⟩,bm.dE hμ ib es _ r2⟩
 | .anyb::es,o,r=>by simp only [bm,bQ,AV.dJ] at r ⊢;obtain ⟨⟨v,hv,hr⟩,r2⟩:=r;exact ⟨⟨v,hv,aN.dE hμ ib .anyb v hr⟩,bm.dE hμ ib es _ r2⟩
 | .ige a1::es,o,r=>by simp only [bm,bQ,AV.dJ] at r ⊢;obtain ⟨⟨v,hv,hr⟩,r2⟩:=r;exact ⟨⟨v,hv,aN.dE hμ ib (.ige a1) v hr⟩,bm.dE hμ ib es _ r2⟩
 | .fn a1 a2 a3::es,o,r=>by simp only [bm,bQ,AV.dJ] at r ⊢;obtain ⟨⟨v,hv,hr⟩,r2⟩:=r;exact ⟨⟨v,hv,aN.dE hμ ib (.fn a1 a2 a3) v (by simpa only [AV.dJ] using hr)⟩,bm.dE hμ ib es _ r2⟩
 | .tup a1::es,o,r=>by simp only [bm,bQ,AV.dJ] at r ⊢;obtain ⟨⟨v,hv,hr⟩,r2⟩:=r;exact ⟨⟨v,hv,aN.dE hμ ib (.tup a1) v (by simpa only [AV.dJ] using hr)⟩,bm.dE hμ ib es _ r2⟩
 | .sl a1 a2::es,o,r=>by simp only [bm,bQ,AV.dJ] at r ⊢;obtain ⟨⟨v,hv,hr⟩,r2⟩:=r;exact ⟨⟨v,hv,aN.dE hμ ib (.sl a1 a2) v (by simpa only [AV.dJ] using hr)⟩,bm.dE hμ ib es _ r2⟩
 | .tsl a1 a2::es,o,r=>by simp only [bm,bQ,AV.dJ] at r ⊢;obtain ⟨⟨v,hv,hr⟩,r2⟩:=r;exact ⟨⟨v,hv,aN.dE hμ ib (.tsl a1 a2) v (by simpa only [AV.dJ] using hr)⟩,bm.dE hμ ib es _ r2⟩
 | .osl a1 a2 a3 a4 a5::es,o,r=>by simp only [bm,bQ,AV.dJ] at r ⊢;obtain ⟨⟨v,hv,hr⟩,r2⟩:=r;exact ⟨⟨v,hv,aN.dE hμ ib (.osl a1 a2 a3 a4 a5) v (by simpa only [AV.dJ] using hr)⟩,bm.dE hμ ib es _ r2⟩
 | .ref a1 a2 a3::es,o,r=>by simp only [bm,bQ,AV.dJ] at r ⊢;obtain ⟨⟨v,hv,hr⟩,r2⟩:=r;exact ⟨⟨v,hv,aN.dE hμ ib (.ref a1 a2 a3) v (by simpa only [AV.dJ] using hr)⟩,bm.dE hμ ib es _ r2⟩
 | .ep a1 a2::es,o,r=>by simp only [bm,bQ,AV.dJ] at r ⊢;obtain ⟨⟨v,hv,hr⟩,r2⟩:=r;exact ⟨⟨v,hv,aN.dE hμ ib (.ep a1 a2) v (by simpa only [AV.dJ] using hr)⟩,bm.dE hμ ib es _ r2⟩
theorem bq.dE {E E':Env} {w:World} (hμ : ∀ i x,E'.μ (ρ i)=some x->E.μ i=some x) (ib:∀ b,E'.ok b->E.ok b) {b:Nat}:∀ (cs:List AV) (o:Nat),bq E' w b o (bQ ρ cs)->bq E w b o cs
 | [],_,_=>by simp [bq]
 | c::cs,o,r=>by
   simp only [bq,bQ] at r ⊢
   obtain ⟨⟨v,hv,hr⟩,r2⟩:=r
   exact ⟨⟨v,hv,aN.dE hμ ib c v hr⟩,bq.dE hμ ib cs _ r2⟩
end
theorem fy.dJ {E E':Env} {w:World} (hμ : ∀ i x,E.μ i=some x->E'.μ (ρ i)=some x) (ib:∀ b,E.ok b->E'.ok b) {b o:Nat} {cs:List AV} (h:fy E w b o cs):fy E' w b o (bQ ρ cs) :=
 fN.1 (bq.dJ hμ ib cs o (fN.2 h))
theorem fy.dE {E E':Env} {w:World} (hμ : ∀ i x,E'.μ (ρ i)=some x->E.μ i=some x) (ib:∀ b,E'.ok b->E.ok b) {b o:Nat} {cs:List AV} (h:fy E' w b o (bQ ρ cs)):fy E w b o cs :=
 fN.1 (bq.dE hμ ib cs o (fN.2 h))
end
def mZ (n:Nat) (π : Id) (κ : Nat->Id):Id->Id
 | []=>[]
 | a :: ar=>match ar with
   | []=>match a with | 0 => π | k+1 => κ (k+1)
   | b::bs=>match b,bs with
     | 0,[]=>(n+a) :: π
     | _,_=>a::mZ n π κ ar
theorem oW {n:Nat} {π : Id} {κ : Nat->Id} {q:Nat}:∀ l:Id,mZ n π κ (l++[q,0])=l++((n+q) :: π)
 | []=>rfl
 | [a]=>by simp [mZ]
 | a::b::l=>by
   have:=oW (n:=n) (π := π) (κ := κ) (q:=q) (b::l)
   simp only [List.cons_append] at this ⊢
   rw [<- this]
   cases h:l++[q,0] with
   | nil=>simp at h
   | cons c cs=>cases b<;>simp [mZ]
theorem LW {i:Id} (h:[0] <:+ i):i=[0]∨∃ l q,i=l++[q,0]:=by
 obtain ⟨t,rfl⟩:=h
 rcases List.eq_nil_or_concat t with rfl | ⟨l,q,rfl⟩
 . exact .inl rfl
 . exact .inr ⟨l,q,by simp⟩
theorem aau {n:Nat} {π : Id} {κ : Nat->Id} {i j:Id} (hi:[0] <:+ i) (hj:[0] <:+ j) (h:mZ n π κ i=mZ n π κ j):i=j:=by
 rcases LW hi with rfl | ⟨l,q,rfl⟩<;>rcases LW hj with rfl | ⟨l',q',rfl⟩
 . rfl
 . rw [oW] at h;have:=congrArg List.length h;simp [mZ] at this;omega
 . rw [oW] at h;have:=congrArg List.length h;simp [mZ] at this;omega
 . rw [oW,oW] at h
   have hl:l.length=l'.length:=by have:=congrArg List.length h;simp at this;omega
   obtain ⟨h1,h2⟩:=List.append_inj h hl
   simp only [List.cons.injEq,and_true] at h2
   have:q=q':=by omega
   rw [h1,this]
section
variable {P:Program} {G:Nat->Option (List AV)}
open Classical in
noncomputable def Ea (n:Nat) (π : Id) (κ : Nat->Id) (E E0:Env):Env:=⟨fun j=>if h:∃ i,[0] <:+ i/\mZ n π κ i=j then E0.μ h.choose else E.μ j,E0.ok⟩
theorem FQ {n:Nat} {π : Id} {κ : Nat->Id} {E E0:Env} {i:Id} (hi:[0] <:+ i):(Ea n π κ E E0).μ (mZ n π κ i)=E0.μ i:=by
 have hex:∃ i',[0] <:+ i'/\mZ n π κ i'=mZ n π κ i:=⟨i,hi,rfl⟩
 simp only [Ea]
 rw [dif_pos hex]
 exact congrArg E0.μ (aau hex.choose_spec.1 hi hex.choose_spec.2)
theorem uD {n:Nat} {π : Id} {κ : Nat->Id} {E E0:Env} {j:Id} (h:∀ i,[0] <:+ i->mZ n π κ i≠j):(Ea n π κ E E0).μ j=E.μ j:=by
 simp only [Ea]
 rw [dif_neg];rintro ⟨i,hi,e⟩;exact h i hi e
theorem Ip {n:Nat} {π : Id} {κ : Nat->Id} {E:Env} (hf:BJ E π n) {i:Id} (hi:[0] <:+ i):E.μ (mZ n π κ i)=none:=by
 rcases LW hi with rfl | ⟨l,q,rfl⟩
 . exact hf.self
 . rw [oW];exact hf.at (q:=n+q) (Nat.le_add_right _ _) ⟨l,rfl⟩
def Uk (ρ : Id->Id) (σ0 σ : ae):Prop:=(∀ i b, σ0 i=some b -> σ (ρ i)=some (b.dJ ρ))/\∀ j, σ j=none∨∃ i b, σ0 i=some b /\ ρ i=j /\ σ j=some (b.dJ ρ)
theorem VW.dJ {vc:bY} {Q0:bM->VS->Prop} {t0:List AV} {σ0 σ : ae} {n:Nat} {π : Id} {κ : Nat->Id} (h:VW P G [0] vc Q0 ⟨t0, σ0,0⟩)
   (hσ : ∀ i b, σ0 i=some b -> σ (mZ n π κ i)=some (b.dJ (mZ n π κ))) (amg:∀ i j, σ0 i≠none -> σ0 j≠none->i≠j->mZ n π κ i≠mZ n π κ j) :
   VW P G π vc (fun e s=>∃ s0,Q0 e s0/\s.t=bQ (mZ n π κ) s0.t/\s.n=n+s0.n/\Uk (mZ n π κ) s0.σ s.σ) ⟨bQ (mZ n π κ) t0, σ,n⟩:=by
 intro c hc own E w a R hm hR
 obtain ⟨I0,hi,rf,aer⟩:=hm
 let E0:Env:=⟨fun i=>E.μ (mZ n π κ i),E.ok⟩
 have hm0:mR G [0] own E0 w ⟨t0, σ0,0⟩ a:=by
   refine ⟨aU.dE (E:=E0) (E':=E) (fun i x hx=>hx) (fun b hb=>hb) _ _ I0, ?_,fun j hj _=>Ip rf hj,aer⟩
   refine ⟨hi.okb,fun id bk hs => ?_,fun i j x y qY hj' hne hx hy => ?_,hi.glob,hi.new⟩
   . obtain ⟨g,N,cur,ty,hB⟩:=hi.blk _ _ (hσ id bk hs)
     refine ⟨g,N,cur,ty,hB.μ,hB.heap,hB.size, ?_,hB.most,hB.own,hB.ok,hB.no,C0 hB.k, ?_⟩
     . have:=hB.len;rwa [show (bk.dJ (mZ n π κ)).els.length=bk.els.length from iq] at this
     . have:=hB.row
       rw [show (bk.dJ (mZ n π κ)).els=bQ (mZ n π κ) bk.els from rfl,D9] at this
       exact fy.dE (E:=E0) (E':=E) (fun i x hx=>hx) (fun b hb=>hb) this
   . obtain ⟨b,hb⟩:=Option.ne_none_iff_exists'.1 qY
     obtain ⟨b',JI⟩:=Option.ne_none_iff_exists'.1 hj'
     exact hi.inj _ _ x y (by show σ _≠none;rw [hσ i b hb];simp) (by show σ _≠none;rw [hσ j b' JI];simp) (amg i j qY hj' hne) hx hy
 refine h c hc own E0 w a R hm0 ?_
 intro e s0 E0' w' a' hq had tI
 obtain ⟨ami,qY,PC,ah4⟩:=tI
 let E':=Ea n π κ E E0'
 have hμ : ∀ i x,E0'.μ i=some x->E'.μ (mZ n π κ i)=some x:=by
   intro i x hx
   by_cases h0:[0] <:+ i
   . exact (FQ h0).trans hx
   . have h1:E.μ (mZ n π κ i)=some x:=by have:=had.ids i h0;rw [hx] at this;exact this.symm
     exact (uD fun i' qY e=>by have:=Ip (κ := κ) rf qY;rw [e,h1] at this;cases this).trans h1
 have hold:∀ j x,E.μ j=some x->E'.μ j=some x:=fun j x hx=>(uD fun i' qY e=>by have:=Ip (κ := κ) rf qY;rw [e,hx] at this;cases this).trans hx
 have hS:∀ j b,(∃ i b0,s0.σ i=some b0/\mZ n π κ i=j/\b=b0.dJ (mZ n π κ))->∃ i g N cur ty b0,s0.σ i=some b0/\mZ n π κ i=j/\yq E0' own w' i b0 g N cur ty/\yq E' own w' j b g N cur ty:=by
   rintro j b ⟨i,b0,h1,rfl,rfl⟩
   obtain ⟨g,N,cur,ty,hB⟩:=qY.blk i b0 h1
   refine ⟨i,g,N,cur,ty,b0,h1,rfl,hB,hμ _ _ hB.μ,hB.heap,hB.size, ?_,hB.most,hB.own,hB.ok,hB.no,Bw hB.k, ?_⟩
   . rw [show (b0.dJ (mZ n π κ)).els.length=b0.els.length from iq];exact hB.len
   . rw [show (b0.dJ (mZ n π κ)).els=bQ (mZ n π κ) b0.els from rfl,D9]
     exact fy.dJ hμ (fun b hb=>hb) hB.row
 classical
 let σ':ae:=fun j=>if h:∃ i b,s0.σ i=some b/\mZ n π κ i=j then some (h.choose_spec.choose.dJ (mZ n π κ)) else none
 have Xr:∀ j, σ' j=none∨∃ i b,s0.σ i=some b/\mZ n π κ i=j /\ σ' j=some (b.dJ (mZ n π κ)):=fun j=>by
   by_cases h:∃ i b,s0.σ i=some b/\mZ n π κ i=j
   . right;exact ⟨h.choose,h.choose_spec.choose,h.choose_spec.choose_spec.1,h.choose_spec.choose_spec.2,dif_pos h⟩
   . left;exact dif_neg h
 have amj:Inv G own E' w' σ':=by
   refine ⟨qY.okb,fun j bk hs => ?_,fun j j' x y hj hj' hne hx hy => ?_,qY.glob,qY.new⟩
   . rcases Xr j with h1 | ⟨i,b,h1,h2,h3⟩
     . rw [h1] at hs;cases hs
     . rw [h3] at hs
       simp only [Option.some.injEq] at hs
       obtain ⟨i',g,N,cur,ty,b0,_,_,_,hB⟩:=hS j bk ⟨i,b,h1,h2,hs.symm⟩
       exact ⟨g,N,cur,ty,hB⟩
   . rcases Xr j with h1 | ⟨i,b,h1,h2,h3⟩
     . exact absurd h1 hj
     rcases Xr j' with h4 | ⟨i',b',h4,h5,h6⟩
     . exact absurd h4 hj'
     obtain ⟨g,N,cur,ty,hB⟩:=qY.blk i b h1
     obtain ⟨g',N',Ms,Pp,Jy⟩:=qY.blk i' b' h4
     have e1:=hμ _ _ hB.μ
     have e2:=hμ _ _ Jy.μ
     rw [h2,hx] at e1
     rw [h5,hy] at e2
     simp only [Option.some.injEq] at e1 e2
     rw [e1,e2]
     exact qY.inj i i' _ _ (by rw [h1];simp) (by rw [h4];simp) (fun e=>hne (by rw [<- h2, <- h5,e])) hB.μ Jy.μ
 have ah5:∀ i b,s0.σ i=some b -> σ' (mZ n π κ i)=some (b.dJ (mZ n π κ)):=fun i b h1=>by
   rcases Xr (mZ n π κ i) with h2 | ⟨i',b',h3,h4,h5⟩
   . exact absurd ((dif_pos ⟨i,b,h1,rfl⟩).symm.trans h2) (by simp)
   . obtain ⟨g,N,cur,ty,hB⟩:=qY.blk i b h1
     obtain ⟨g',N',Ms,Pp,Jy⟩:=qY.blk i' b' h3
     by_cases e:i'=i
     . subst e;rw [h1] at h3;simp only [Option.some.injEq] at h3;subst h3;exact h5
     . have e1:=hμ _ _ hB.μ
       have e2:=hμ _ _ Jy.μ
       rw [h4,e1] at e2
       simp only [Option.some.injEq,Prod.mk.injEq] at e2
       exact absurd e2.1.symm (qY.inj i' i _ _ (by rw [h3];simp) (by rw [h1];simp) e Jy.μ hB.μ)
 refine hR e ⟨bQ (mZ n π κ) s0.t, σ',n+s0.n⟩ E' w' a' ⟨s0,hq,rfl,rfl,ah5,Xr⟩ ⟨⟨⟨hold,had.step.ok,had.step.same⟩,had.os,had.tape,had.output,had.size,had.block,had.YE⟩,fun j hj=>uD fun i hi e=>hj ?_⟩ ⟨aU.dJ hμ (fun b hb=>hb) _ _ ami,amj,fun j hj hq' => ?_,ah4⟩
 . rcases LW hi with rfl | ⟨l,q,rfl⟩
   . rw [<- e];exact List.suffix_refl _
   . rw [oW] at e;rw [<- e];exact ⟨l++[n+q],by simp⟩
 . by_cases hex:∃ i,[0] <:+ i/\mZ n π κ i=j
   . obtain ⟨i,Mo,rfl⟩:=hex
     refine (FQ Mo).trans (PC i Mo fun q YP hs=>hq' (n+q) (by show n+q<n+s0.n;omega) ?_)
     obtain ⟨t,rfl⟩:=hs
     rw [oW];exact ⟨t,rfl⟩
   . refine (uD fun i hi e=>hex ⟨i,hi,e⟩).trans (rf j hj fun q YP=>hq' q (Nat.lt_of_lt_of_le YP (Nat.le_add_right _ _)))
theorem Oy {ρ : Id->Id} {agg:Bool} {cs:List AV} {o n:Nat} {v:AV} (h:part agg cs o n=some v):part agg (bQ ρ cs) o n=some (v.dJ ρ):=by
 unfold part at h ⊢
 rw [iq]
 split at h
 . rename_i h1
   rw [if_pos h1]
   split at h
   . rename_i h2
     rw [if_pos h2]
     simp only [Option.some.injEq] at h
     subst h
     simp only [AV.dJ,iV,List.map_take,List.map_drop]
   . rename_i h2
     rw [if_neg h2]
     split at h
     . rename_i h3;rw [if_pos h3,iV,List.getElem?_map,h];rfl
     . cases h
 . cases h
theorem Ul {ρ : Id->Id} {σ0 σ : ae} (hs:Uk ρ σ0 σ) {agg:Bool} {n:Nat} {x:AV} {r:fL} (h:lK σ0 agg n x=some r):∃ r',lK σ agg n (x.dJ ρ)=some r'/\r'.val=r.val.dJ ρ := by
 cases x<;>simp only [lK,reduceCtorEq] at h
 case ref id e o =>
   cases hb : σ0 id with
   | none=>rw [hb] at h;cases h
   | some bk =>
     rw [hb] at h
     simp only [] at h
     cases he:bk.els[e]? with
     | none=>rw [he] at h;cases h
     | some el =>
       rw [he] at h
       simp only [Option.map_eq_some_iff] at h
       obtain ⟨v,hv,rfl⟩:=h
       refine ⟨{ val:=v.dJ ρ,rd:=[ρ id] }, ?_,rfl⟩
       have e1:(bk.dJ ρ).els[e]? = some (el.dJ ρ):=by
         show (bQ ρ bk.els)[e]? = _
         rw [iV,List.getElem?_map,he];rfl
       simp only [AV.dJ,lK,hs.1 id bk hb,e1,Bv,Oy hv,Option.map_some]
 case ep cs o =>
   simp only [Option.map_eq_some_iff] at h
   obtain ⟨v,hv,rfl⟩:=h
   refine ⟨{ val:=v.dJ ρ }, ?_,rfl⟩
   simp only [AV.dJ,lK,Oy hv,Option.map_some]
theorem Oz {ρ : Id->Id} {t:List AV} {k:Nat}:(bQ ρ t).getD k (.tup [])=(t.getD k (.tup [])).dJ ρ := by
 rw [List.getD_eq_getElem?_getD,List.getD_eq_getElem?_getD,iV,List.getElem?_map]
 cases t[k]? <;> rfl
theorem Um {ρ : Id->Id} {s0 s:VS} (ht:s.t=bQ ρ s0.t) (hs:Uk ρ s0.σ s.σ) {x:vI} {v:AV} (h:bC s0 x=some v):bC s x=some (v.dJ ρ):=by
 cases x with
 | tmp k=>simp only [bC,Option.some.injEq] at h ⊢;rw [ht,Oz,h]
 | cell k agg n =>
   simp only [bC,Option.map_eq_some_iff] at h ⊢
   obtain ⟨r,hr,rfl⟩:=h
   obtain ⟨r',h1,h2⟩:=Ul hs hr
   exact ⟨r',by rw [ht,Oz];exact h1,h2⟩
theorem OA {ρ : Id->Id} {s0 s:VS} (ht:s.t=bQ ρ s0.t) (hs:Uk ρ s0.σ s.σ):∀ {rs:List vI} {vs:List AV},rs.mapM (bC s0)=some vs->rs.mapM (bC s)=some (bQ ρ vs)
 | [],vs,h=>by simp only [List.mapM_nil,Option.pure_def,Option.some.injEq] at h ⊢;subst h;rfl
 | x::rs,vs,h=>by
   simp only [List.mapM_cons,Option.bind_eq_bind,Option.bind_eq_some_iff,Option.pure_def,Option.some.injEq] at h ⊢
   obtain ⟨v,hv,vs',Pg,rfl⟩:=h
   exact ⟨_,Um ht hs hv,_,OA ht hs Pg,rfl⟩
theorem Un {ρ : Id->Id} {s0 s:VS} (ht:s.t=bQ ρ s0.t) (hs:Uk ρ s0.σ s.σ) {rs:List vI} {v:AV} (h:bn rs s0=some v):bn rs s=some (v.dJ ρ):=by
 unfold bn at h ⊢
 cases hm:rs.mapM (bC s0) with
 | none=>rw [hm] at h;cases h
 | some vs =>
   rw [hm] at h
   rw [OA ht hs hm]
   match vs,h with
   | [],h=>simp only [Option.some.injEq] at h;subst h;rfl
   | [v],h=>simp only [Option.some.injEq] at h;subst h;rfl
   | v::v'::vs,h=>simp only [Option.some.injEq] at h;subst h;rfl
end
end Go.VL
end

section
namespace Go.VL
abbrev cz:=List (Id × Option dc)
def Uo:Id->Id->Bool
 | [],[]=>true
 | a::ar,b::bs=>Nat.beq a b&&Uo ar bs
 | _,_=>false
theorem uE:∀ {a b:Id},Uo a b=true↔a=b
 | [],[]=>by simp [Uo]
 | a::ar,b::bs=>by simp only [Uo,Bool.and_eq_true,Nat.beq_eq,uE (a:=ar),List.cons.injEq]
 | [],_::_=>by simp [Uo]
 | _::_,[]=>by simp [Uo]
def cz.find:cz->Id->Option dc
 | [],_=>none
 | (j,b)::S,i=>match Uo i j with
   | true=>b
   | false=>cz.find S i
def cz.to (S:cz):ae:=fun i=>S.find i
def cz.app (S:cz):List (Id × Option dc)->cz
 | []=>S
 | x::up=>cz.app (x::S) up
theorem cz.aes (i:Id) (b:Option dc) (S:cz):cz.to ((i,b)::S)=S.to.put i b:=by
 funext j
 show cz.find _ j=_
 simp only [cz.find,ae.put]
 cases h:Uo j i with
 | true=>rw [if_pos (uE.1 h)]
 | false=>rw [if_neg (fun e=>by rw [uE.2 e] at h;cases h)];rfl
theorem cz.Qk:∀ (up:List (Id × Option dc)) (S:cz),(S.app up).to=S.to.app up
 | [],_=>rfl
 | (i,b)::up,S=>by simp only [cz.app,ae.app,cz.Qk up,cz.aes]
inductive Hint (P:Program) (G:Nat->Option (List AV)) where
 | ev (k:Nat) (o:Option fL) (r:fL) (h:o=some r)
 | eq (k:Nat) (a b:AV) (h:a=b)
 | br (k:Nat) (x b:Bool) (h:x=b)
 | st (k:Nat) (S:List (Id × dc)) (op:hH AV) (r:Id->fL) (h:∀ σ p,(∀ x∈S, σ x.1=some x.2)->bW σ p op=some (r p))
 | vp (f:FuncId) (args:List AV) (r:AV) (h:VP P G f args r) (hp:∀ c∈args,ab c)
 | rel (f:FuncId) (args:List AV) (S:List (Id × dc)) (r:Id->fL) (h:∀ p,(∀ x∈S, ¬ p <:+ x.1)->aM P G f args p S (r p)) (hr:∀ p,∀ x∈S,x.1∈(r p).rd)
 | lp (π : Id) (c:bY) (t0:List AV) (S0:List (Id × dc)) (n0:Nat) (e:bM) (t1:List AV) (S1:cz) (n1:Nat) (h:VW P G π (.loop c) (fun e' s'=>e'=e/\Wk G π s' ⟨t1,S1.to,n1⟩) ⟨t0,ae.of S0,n0⟩)
inductive Pl where
 | ev (o:Option fL)
 | val (a:AV)
 | op (o:hH AV) (S:List (Option dc))
 | call (f:FuncId) (args:List AV) (S:List (Option dc))
 | lp (π : Id) (c:bY) (t:List AV) (S:List (Option dc))
def Xs:Id->Id->Bool
 | p,[]=>Uo p []
 | p,a::ar=>Uo p (a::ar)||Xs p ar
theorem OC {p:Id}:∀ {i:Id},Xs p i=false -> ¬ p <:+ i
 | [],h=>by
   simp only [Xs] at h
   intro hs
   have:p=[]:=List.suffix_nil.1 hs
   rw [uE.2 this] at h;cases h
 | a::ar,h=>by
   simp only [Xs,Bool.or_eq_false_iff] at h
   intro hs
   rcases List.suffix_cons_iff.1 hs with e | e
   . rw [uE.2 e] at h;cases h.1
   . exact OC h.2 e
structure TS where
 t:List AV
 S:cz
 n:Nat
def TS.to (s:TS):VS:=⟨s.t,s.S.to,s.n⟩
def Iq:List AV->List AV->List AV
 | c::cs,d::ds=>(match d with | .top => .top | _=>c)::Iq cs ds
 | cs,_=>cs
theorem Ir:∀ {cs ds:List AV},Iq cs ds=ds->Fg cs ds
 | [],[],_=>trivial
 | c::cs,d::ds,h=>by
   simp only [Iq,List.cons.injEq] at h
   refine ⟨?_,Ir h.2⟩
   cases d<;>simp_all
 | [],_::_,h=>by simp [Iq] at h
 | _::_,[],h=>by simp [Iq] at h
def keyOf (o:bx):Nat:=match o.dst with
 | some d=>d
 | none=>match o.op with
   | .store _ (.t x) _=>x+100000
   | _=>0
def Eb (a b:List Id):Bool:=a.all fun i => !b.any fun j=>Uo i j
def Sw (a b:fL):Bool:=Eb (a.up.map (·.1)) b.rd&&Eb (a.up.map (·.1)) (b.up.map (·.1))&&Eb (b.up.map (·.1)) a.rd
def C1 (rs:List fL) (ps:List (Nat × Nat)):Bool:=ps.all fun q=>match rs[q.1]?,rs[q.2]? with
 | some a,some b=>Sw a b
 | _,_=>true
theorem ym {a b:List Id} (h:Eb a b=true) {i:Id} (hi:i∈a):i ∉ b:=by
 simp only [Eb,List.all_eq_true,Bool.not_eq_true',List.any_eq_false] at h
 exact fun hj=>h i hi i hj (uE.2 rfl)
theorem Gm {rs:List fL} {ps:List (Nat × Nat)} (h:C1 rs ps=true):ag rs ps:=by
 intro q hq a b ha hb
 simp only [C1,List.all_eq_true] at h
 have:=h q hq
 rw [ha,hb] at this
 simp only [Sw,Bool.and_eq_true] at this
 obtain ⟨⟨h1,h2⟩,h3⟩:=this
 exact ⟨fun x hx=>⟨ym h1 (List.mem_map.2 ⟨x,hx,rfl⟩),ym h2 (List.mem_map.2 ⟨x,hx,rfl⟩)⟩,fun x hx=>ym h3 (List.mem_map.2 ⟨x,hx,rfl⟩)⟩
abbrev Ql:=List (Pl × Pl)
section
variable {P:Program} {G:Nat->Option (List AV)}
def Cl (S:cz) (p:Id) (op:hH AV) (hs:List (Hint P G)):Option (Ql × List (Hint P G) × fL):=match bW S.to p op with
 | some r=>some ([],hs,r)
 | none=>none
def Xt (S:cz) (p:Id) (k:Nat) (op:hH AV) (hs:List (Hint P G)):Option (Ql × List (Hint P G) × fL) :=
 match op with
 | .call f ar=>match f with
   | .fn (.func g) first cap=>match hs with
     | .vp f' lZ r _ _::e8=>some ([(.call g (first++ar++cap) [], .call f' lZ [])],e8,{ val:=r })
     | .rel f' lZ S' r _ _::e8=>match S'.all fun x => !Xs p x.1 with
       | true=>some ([(.call g (first++ar++cap) (S'.map fun x=>S.find x.1), .call f' lZ (S'.map fun x=>some x.2))],e8,r p)
       | false=>none
     | _=>none
   | _=>none
 | op=>match hs with
   | .ev k' o r _::e8=>match Nat.beq k' k with
     | true=>some ([(.ev (bW S.to p op), .ev o)],e8,r)
     | false=>Cl S p op hs
   | .eq k' a b _::e8=>match Nat.beq k' k with
     | true=>match bW S.to p op with
       | some r=>some ([(.val r.val, .val a)],e8,{ r with val:=b })
       | none=>none
     | false=>Cl S p op hs
   | .st k' S' op' r _::e8=>match Nat.beq k' k with
     | true=>some ([(.op op (S'.map fun x=>S.find x.1), .op op' (S'.map fun x=>some x.2))],e8,r p)
     | false=>Cl S p op hs
   | _=>Cl S p op hs
def LX (π : Id) (base:Nat):List bx->Nat->List fL->List AV->cz->List (Hint P G)->Option (Ql × List (Hint P G) × List fL × List AV × cz)
 | [],_,acc,t,S,hs=>some ([],hs,acc,t,S)
 | o :: os,i,acc,t,S,hs=>match fP t o.guard with
   | none=>none
   | some false=>LX π base os (i+1) ({ val := .tup [] }::acc) (hJ t o.dst (.tup [])) S hs
   | some true=>match Xt S ((base+i) :: π) (keyOf o) (o.op.map (aV.ev G t)) hs with
     | none=>none
     | some (c,e8,r)=>match LX π base os (i+1) (r::acc) (hJ t o.dst r.val) (S.app r.up) e8 with
       | none=>none
       | some (cs,x)=>some (c++cs,x)
def ah6:aV->Nat
 | .t k=>k
 | _=>0
def jL : Bool->Nat->bY->Id->List (Hint P G)->TS->Option (Ql × List (Hint P G) × bM × TS)
 | _,0,_,_,_,_=>none
 | z,m+1,c, π,hs,s=>match c with
   | .skip=>some ([],hs, .normal,s)
   | .ret=>some ([],hs, .ret,s)
   | .exit i=>some ([],hs, .exit i,s)
   | .seq a b=>match jL true m a π hs s with
     | some (cs,e8, .normal,s')=>match jL true m b π e8 s' with
       | some (C4,x)=>some (cs++C4,x)
       | none=>none
     | r=>r
   | .cond c a b=>match hs with
     | .br k x v _::e8=>match Nat.beq k (ah6 c) with
       | true=>match jL true m (match v with | true=>a | false=>b) π e8 s with
         | some (cs,y)=>some ((.val (c.ev G s.t), .val (.bool x))::cs,y)
         | none=>none
       | false=>match c.ev G s.t with
         | .bool true=>jL true m a π hs s
         | .bool false=>jL true m b π hs s
         | _=>none
     | _=>match c.ev G s.t with
       | .bool true=>jL true m a π hs s
       | .bool false=>jL true m b π hs s
       | _=>none
   | .block i c=>match jL true m c π hs s with
     | some (cs,e8, .exit j,s')=>match Nat.beq j i with
       | true=>some (cs,e8, .normal,s')
       | false=>some (cs,e8, .exit j,s')
     | r=>r
   | .loop c=>match z,hs with
     | true, .lp π' c' t0 S0 n0 e t1 S1 n1 _::e8=>match Nat.ble s.n n0 with
       | true=>some ([(.lp π c (Iq s.t t0) (S0.map fun x=>s.S.find x.1), .lp π' c' t0 (S0.map fun x=>some x.2))],e8,e,⟨t1,S1,n1⟩)
       | false=>none
     | _,_=>match jL true m c π hs s with
       | some (cs,e8, .normal,s')=>match jL false m (.loop c) π e8 s' with
         | some (C4,x)=>some (cs++C4,x)
         | none=>none
       | r=>r
   | .reg ps os=>match LX π s.n os 0 [] s.t s.S hs with
     | none=>none
     | some (cs,e8,rs,t,S)=>match ps with
       | none=>some (cs,e8, .normal,⟨t,S,s.n+os.length⟩)
       | some ps=>match C1 rs.reverse ps with
         | true=>some (cs,e8, .normal,⟨t,S,s.n+os.length⟩)
         | false=>none
def uc (cs:Ql):Prop:=∀ x∈cs,x.1=x.2
theorem uc.of_map {cs:Ql} (h:cs.map (·.1)=cs.map (·.2)):uc cs:=by
 intro x hx
 obtain ⟨i,hi⟩:=List.getElem?_of_mem hx
 have:=congrArg (·[i]?) h
 simpa [List.getElem?_map,hi] using this
theorem uc.left {a b:Ql} (h:uc (a++b)):uc a:=fun x hx=>h x (List.mem_append_left _ hx)
theorem uc.right {a b:Ql} (h:uc (a++b)):uc b:=fun x hx=>h x (List.mem_append_right _ hx)
theorem oY {S:cz} {S':List (Id × dc)} (h:(S'.map fun x=>S.find x.1)=S'.map fun x=>some x.2):∀ x∈S',S.to x.1=some x.2:=by
 intro x hx
 obtain ⟨i,hi⟩:=List.getElem?_of_mem hx
 have:=congrArg (·[i]?) h
 have e:S.find x.1=some x.2:=by simpa [List.getElem?_map,hi] using this
 exact e
theorem FR {S:cz} {p:Id} {k:Nat} {op:hH AV} {hs e8:List (Hint P G)} {cs:Ql} {r:fL} (h:Xt S p k op hs=some (cs,e8,r)) (hc:uc cs) {K:fL->Prop} (hK:K r):zM P G S.to p op K:=by
 have auto:∀ {cs e8},Cl S p op hs=some (cs,e8,r)->op.uN=false->zM P G S.to p op K:=by
   intro cs e8 h I4
   unfold Cl at h
   rw [vM I4]
   split at h
   . rename_i r' hr;simp only [Option.some.injEq,Prod.mk.injEq] at h;obtain ⟨_,_,rfl⟩:=h;rw [hr];exact hK
   . cases h
 have other:∀ {cs e8},op.uN=false->uc cs->(match hs with
   | .ev k' o r _::e8=>match Nat.beq k' k with
     | true=>some ([((Pl.ev (bW S.to p op)), .ev o)],e8,r)
     | false=>Cl S p op hs
   | .eq k' a b _::e8=>match Nat.beq k' k with
     | true=>match bW S.to p op with
       | some r=>some ([(.val r.val, .val a)],e8,{ r with val:=b })
       | none=>none
     | false=>Cl S p op hs
   | .st k' S' op' r _::e8=>match Nat.beq k' k with
     | true=>some ([(.op op (S'.map fun x=>S.find x.1), .op op' (S'.map fun x=>some x.2))],e8,r p)
     | false=>Cl S p op hs
   | _=>Cl S p op hs)=some (cs,e8,r)->zM P G S.to p op K:=by
   intro cs e8 I4 hc h
   cases hs with
   | nil=>exact auto h I4
   | cons x jT =>
     cases x with
     | ev k' o r' ho =>
       simp only [] at h
       split at h
       . simp only [Option.some.injEq,Prod.mk.injEq] at h
         obtain ⟨rfl,_,rfl⟩:=h
         have:=hc _ (List.mem_singleton.2 rfl)
         simp only [Pl.ev.injEq] at this
         rw [vM I4,this,ho];exact hK
       . exact auto h I4
     | eq k' a b Mq =>
       simp only [] at h
       split at h
       . split at h
         . rename_i r' hr
           simp only [Option.some.injEq,Prod.mk.injEq] at h
           obtain ⟨rfl,_,rfl⟩:=h
           have:=hc _ (List.mem_singleton.2 rfl)
           simp only [Pl.val.injEq] at this
           rw [vM I4,hr]
           have e:{ r' with val:=b }=r':=by rw [<- Mq, <- this]
           rw [e] at hK;exact hK
         . cases h
       . exact auto h I4
     | st k' S' op' r' ho =>
       simp only [] at h
       split at h
       . simp only [Option.some.injEq,Prod.mk.injEq] at h
         obtain ⟨rfl,_,rfl⟩:=h
         have:=hc _ (List.mem_singleton.2 rfl)
         simp only [Pl.op.injEq] at this
         rw [vM I4,this.1,ho _ _ (oY this.2)];exact hK
       . exact auto h I4
     | _=>exact auto h I4
 cases op with
 | call f ar =>
   simp only [Xt] at h
   simp only [zM]
   split at h
   . cases hs with
     | nil=>cases h
     | cons x jT =>
       cases x with
       | vp f' lZ r' hv hp =>
         simp only [Option.some.injEq,Prod.mk.injEq] at h
         obtain ⟨rfl,_,rfl⟩:=h
         have:=hc _ (List.mem_singleton.2 rfl)
         simp only [Pl.call.injEq,and_true] at this
         obtain ⟨rfl,e⟩:=this
         exact ⟨[],_,e▸aM.QY hv hp p,by simp,by simp,hK⟩
       | rel f' lZ S' r' hv hr =>
         simp only [] at h
         split at h
         . rename_i hsf
           simp only [Option.some.injEq,Prod.mk.injEq] at h
           obtain ⟨rfl,_,rfl⟩:=h
           have:=hc _ (List.mem_singleton.2 rfl)
           simp only [Pl.call.injEq] at this
           obtain ⟨rfl,e,e2⟩:=this
           refine ⟨S',_,e▸hv p fun x hx=>OC ?_,oY e2,hr p,hK⟩
           have:=List.all_eq_true.1 hsf x hx
           simpa using this
         . cases h
       | _=>cases h
   . cases h
 | _=>exact other rfl hc h
theorem Is {π : Id} {base:Nat} {rs:List fL} {t':List AV} {S':cz} {e8:List (Hint P G)} {K:List fL->List AV->ae->Prop} (hK:K rs.reverse t' S'.to) :
   ∀ (os:List bx) (i:Nat) (acc:List fL) (t:List AV) (S:cz) (hs:List (Hint P G)) (cs:Ql),LX π base os i acc t S hs=some (cs,e8,rs,t',S')->uc cs->Df P G π base K os i acc t S.to
 | [],i,acc,t,S,hs,cs,h,_=>by
   simp only [LX,Option.some.injEq,Prod.mk.injEq] at h
   obtain ⟨_,_,rfl,rfl,rfl⟩:=h
   exact hK
 | o :: os,i,acc,t,S,hs,cs,h,hc=>by
   simp only [LX] at h
   simp only [Df]
   split at h
   . cases h
   . rename_i hw;rw [hw];exact Is hK os _ _ _ _ _ _ h hc
   . rename_i hw
     rw [hw]
     split at h
     . cases h
     . rename_i c jT r hr
       split at h
       . cases h
       . rename_i cs1 x hx
         simp only [Option.some.injEq,Prod.mk.injEq] at h
         obtain ⟨rfl,rfl⟩:=h
         have:=Is hK os _ _ _ _ _ _ hx hc.right
         rw [cz.Qk] at this
         exact FR hr hc.left this
theorem Iu {π : Id} {base:Nat} {rs:List fL} {t':List AV} {S':cz} {e8:List (Hint P G)} {K:List AV->ae->Prop} (hK:K t' S'.to) :
   ∀ (os:List bx) (i:Nat) (acc:List fL) (t:List AV) (S:cz) (hs:List (Hint P G)) (cs:Ql),LX π base os i acc t S hs=some (cs,e8,rs,t',S')->uc cs->De P G π base K os i t S.to
 | [],i,acc,t,S,hs,cs,h,_=>by
   simp only [LX,Option.some.injEq,Prod.mk.injEq] at h
   obtain ⟨_,_,rfl,rfl,rfl⟩:=h
   exact hK
 | o :: os,i,acc,t,S,hs,cs,h,hc=>by
   simp only [LX] at h
   simp only [De]
   split at h
   . cases h
   . rename_i hw;rw [hw];exact Iu hK os _ _ _ _ _ _ h hc
   . rename_i hw
     rw [hw]
     split at h
     . cases h
     . rename_i c jT r hr
       split at h
       . cases h
       . rename_i cs1 x hx
         simp only [Option.some.injEq,Prod.mk.injEq] at h
         obtain ⟨rfl,rfl⟩:=h
         have:=Iu hK os _ _ _ _ _ _ hx hc.right
         rw [cz.Qk] at this
         exact FR hr hc.left this
theorem FT {c:bY} {π : Id}:∀ (m:Nat),(∀ m'<m,∀ (hs e8:List (Hint P G)) cs s s' e,jL true m' c π hs s=some (cs,e8,e,s')->uc cs->VW P G π c (fun e' s2=>e'=e/\s2=s'.to) s.to) ->
   ∀ (hs e8:List (Hint P G)) cs s s' e,jL false m (.loop c) π hs s=some (cs,e8,e,s')->uc cs->∃ n,gy P G π c (fun e' s2=>e'=e/\s2=s'.to) n s.to
 | 0,_,_,_,_,_,_,_,h,_=>by simp [jL] at h
 | m + 1,hb,hs,e8,cs,s,s',e,h,hc=>by
   simp only [jL] at h
   split at h
   . rename_i c1 jT s1 h1
     split at h
     . rename_i c2 x h2
       simp only [Option.some.injEq,Prod.mk.injEq] at h
       obtain ⟨rfl,rfl⟩:=h
       obtain ⟨n,hn⟩:=FT m (fun m' hm=>hb m' (by omega)) jT e8 c2 s1 s' e h2 hc.right
       refine ⟨n+1,(hb m (by omega) hs jT c1 s s1 _ h1 hc.left).mono fun e' s2 hq => ?_⟩
       obtain ⟨rfl,rfl⟩:=hq
       exact hn
     . cases h
   . rename_i h1
     refine ⟨1,(hb m (by omega) hs e8 cs s s' e h hc).mono fun e' s2 hq => ?_⟩
     obtain ⟨rfl,rfl⟩:=hq
     cases e' with
     | normal=>exact absurd h (h1 _ _ _)
     | exit i=>exact ⟨rfl,rfl⟩
     | ret=>exact ⟨rfl,rfl⟩
theorem VW.post {vc:bY} {π : Id} {Q:bM->VS->Prop} {s:VS} (h:VW P G π vc (fun e s'=>∃ s1,Q e s1/\Wk G π s' s1) s):VW P G π vc Q s:=by
 intro c hc own E w a R hm hR
 refine h c hc own E w a R hm fun e s' E' w' a' hq had tI => ?_
 obtain ⟨s1,h1,h2⟩:=hq
 obtain ⟨E1,a1,m1⟩:=h2 own E' w' a' tI
 exact hR e s1 E1 w' a' h1 (had.trans a1) m1
theorem eN : ∀ (m:Nat) (c:bY) (π : Id) (hs e8:List (Hint P G)) (cs:Ql) (s s':TS) (e:bM),jL true m c π hs s=some (cs,e8,e,s')->uc cs->VW P G π c (fun e' s2=>e'=e/\s2=s'.to) s.to
 | 0,_,_,_,_,_,_,_,_,h,_=>by simp [jL] at h
 | m + 1, c, π,hs,e8,cs,s,s',e,h,hc=>by
   have cnd:∀ {hs e8:List (Hint P G)} {cs:Ql} {a b:bY} {x:aV},(match x.ev G s.t with
       | .bool true=>jL true m a π hs s
       | .bool false=>jL true m b π hs s
       | _=>none)=some (cs,e8,e,s')->uc cs->VW P G π (.cond x a b) (fun e' s2=>e'=e/\s2=s'.to) s.to:=by
     intro hs e8 cs a b x h hc
     split at h
     . rename_i hb;exact VW.cond hb (by simpa using eN m a π _ _ _ s s' e h hc)
     . rename_i hb;exact VW.cond hb (by simpa using eN m b π _ _ _ s s' e h hc)
     . cases h
   cases c with
   | skip=>simp only [jL,Option.some.injEq,Prod.mk.injEq] at h;obtain ⟨_,_,rfl,rfl⟩:=h;exact VW.skip ⟨rfl,rfl⟩
   | ret=>simp only [jL,Option.some.injEq,Prod.mk.injEq] at h;obtain ⟨_,_,rfl,rfl⟩:=h;exact VW.ret ⟨rfl,rfl⟩
   | exit i=>simp only [jL,Option.some.injEq,Prod.mk.injEq] at h;obtain ⟨_,_,rfl,rfl⟩:=h;exact VW.exit ⟨rfl,rfl⟩
   | seq a b =>
     simp only [jL] at h
     refine VW.seq ?_
     split at h
     . rename_i c1 jT s1 h1
       split at h
       . rename_i c2 x h2
         simp only [Option.some.injEq,Prod.mk.injEq] at h
         obtain ⟨rfl,rfl⟩:=h
         refine (eN m a π _ _ _ s s1 _ h1 hc.left).mono fun e' s2 hq => ?_
         obtain ⟨rfl,rfl⟩:=hq
         exact eN m b π _ _ _ s1 s' e h2 hc.right
       . cases h
     . rename_i h1
       refine (eN m a π _ _ _ s s' e h hc).mono fun e' s2 hq => ?_
       obtain ⟨rfl,rfl⟩:=hq
       cases e' with
       | normal=>exact absurd h (h1 _ _ _)
       | exit i=>exact ⟨rfl,rfl⟩
       | ret=>exact ⟨rfl,rfl⟩
   | cond x a b =>
     simp only [jL] at h
     cases hs with
     | nil=>exact cnd h hc
     | cons y jT =>
       cases y with
       | br k y v hv =>
         simp only [] at h
         split at h
         . split at h
           . rename_i c1 y1 h1
             simp only [Option.some.injEq,Prod.mk.injEq] at h
             obtain ⟨rfl,rfl⟩:=h
             have h2:=hc _ (List.mem_cons_self ..)
             simp only [Pl.val.injEq] at h2
             have hc':uc c1:=fun z hz=>hc z (List.mem_cons_of_mem _ hz)
             refine VW.cond (b:=v) (by rw [<- hv];exact h2) ?_
             cases v with
             | true=>simpa using eN m a π _ _ _ s s' e h1 hc'
             | false=>simpa using eN m b π _ _ _ s s' e h1 hc'
           . cases h
         . exact cnd h hc
       | _=>exact cnd h hc
   | block i c =>
     simp only [jL] at h
     refine VW.block ?_
     split at h
     . rename_i c1 jT j s1 h1
       split at h
       . rename_i hj
         simp only [Option.some.injEq,Prod.mk.injEq] at h
         obtain ⟨rfl,rfl,rfl,rfl⟩:=h
         refine (eN m c π _ _ _ s _ _ h1 hc).mono fun e' s2 hq => ?_
         obtain ⟨rfl,rfl⟩:=hq
         simp [Nat.beq_eq▸hj]
       . rename_i hj
         simp only [Option.some.injEq,Prod.mk.injEq] at h
         obtain ⟨rfl,rfl,rfl,rfl⟩:=h
         refine (eN m c π _ _ _ s _ _ h1 hc).mono fun e' s2 hq => ?_
         obtain ⟨rfl,rfl⟩:=hq
         have : ¬ j=i:=fun e=>by rw [e,Nat.beq_refl] at hj;cases hj
         simp [this]
     . rename_i h1
       refine (eN m c π _ _ _ s s' e h hc).mono fun e' s2 hq => ?_
       obtain ⟨rfl,rfl⟩:=hq
       cases e' with
       | normal=>exact ⟨rfl,rfl⟩
       | exit i=>exact absurd h (h1 _ _ _ _)
       | ret=>exact ⟨rfl,rfl⟩
   | loop c =>
     have plain:∀ {h1':(match jL true m c π hs s with
       | some (cs,e8, .normal,s')=>match jL false m (.loop c) π e8 s' with
         | some (C4,x)=>some (cs++C4,x)
         | none=>none
       | r=>r)=some (cs,e8,e,s')},VW P G π (.loop c) (fun e' s2=>e'=e/\s2=s'.to) s.to:=by
       intro h
       split at h
       . rename_i c1 jT s1 h1
         split at h
         . rename_i c2 x h2
           simp only [Option.some.injEq,Prod.mk.injEq] at h
           obtain ⟨rfl,rfl⟩:=h
           obtain ⟨n,hn⟩:=FT m (fun m' hm hs e8 cs s s' e hr hc=>eN m' c π hs e8 cs s s' e hr hc) jT e8 c2 s1 s' e h2 hc.right
           refine VW.rounds (n+1) ((eN m c π hs jT c1 s s1 _ h1 hc.left).mono fun e' s2 hq => ?_)
           obtain ⟨rfl,rfl⟩:=hq
           exact hn
         . cases h
       . rename_i h1
         refine VW.rounds 1 ((eN m c π hs e8 cs s s' e h hc).mono fun e' s2 hq => ?_)
         obtain ⟨rfl,rfl⟩:=hq
         cases e' with
         | normal=>exact absurd h (h1 _ _ _)
         | exit i=>exact ⟨rfl,rfl⟩
         | ret=>exact ⟨rfl,rfl⟩
     cases hs with
     | nil=>simp only [jL] at h;exact plain (h1':=h)
     | cons y jT =>
     cases y with
     | lp π' c' t0 S0 n0 e1 t1 S1 n1 hv =>
       simp only [jL] at h
       split at h
       . rename_i hn
         simp only [Option.some.injEq,Prod.mk.injEq] at h
         obtain ⟨rfl,_,rfl,rfl⟩:=h
         have h2:=hc _ (List.mem_singleton.2 rfl)
         simp only [Pl.lp.injEq] at h2
         obtain ⟨rfl,rfl,h3,h4⟩:=h2
         exact VW.wk (Wk.forget (Ir h3) (fun i=>ae.xi (oY h4) i) (Nat.le_of_ble_eq_true hn)) (VW.post (hv.mono fun e' s2 hq=>⟨_,⟨hq.1,rfl⟩,hq.2⟩))
       . cases h
     | _=>simp only [jL] at h;exact plain (h1':=h)
   | reg ps os =>
     simp only [jL] at h
     split at h
     . cases h
     . rename_i c1 jT rs t S h1
       cases ps with
       | none =>
         simp only [Option.some.injEq,Prod.mk.injEq] at h
         obtain ⟨rfl,rfl,rfl,rfl⟩:=h
         exact VW.Vy (Iu ⟨rfl,rfl⟩ os _ _ _ _ _ _ h1 hc)
       | some ps =>
         simp only [] at h
         split at h
         . rename_i hap
           simp only [Option.some.injEq,Prod.mk.injEq] at h
           obtain ⟨rfl,rfl,rfl,rfl⟩:=h
           exact VW.Vz (Is ⟨Gm hap,rfl,rfl⟩ os _ _ _ _ _ _ h1 hc)
         . cases h
 termination_by m=>m
end
end Go.VL
end

section
namespace Go.VL
class PU (c:AV):Prop where
 pure:ab c
 fix:∀ ρ,c.dJ ρ = c
class Cm (l:List AV):Prop where
 pure:∀ c∈l,ab c
 fix:∀ ρ,bQ ρ l=l
instance:Cm []:=⟨by simp,fun _=>rfl⟩
instance {c:AV} {l:List AV} [h:PU c] [k:Cm l]:Cm (c::l):=⟨by intro d hd;rcases List.mem_cons.1 hd with rfl | hd;exact h.pure;exact k.pure d hd,fun ρ => by simp only [bQ,h.fix,k.fix]⟩
instance {b:Bool}:PU (.bool b):=⟨ab.bool b,fun _=>rfl⟩
instance {k:IntKind} {n:Int}:PU (.int k n):=⟨ab.int k n,fun _=>rfl⟩
instance {l:List UInt8}:PU (.str l):=⟨ab.str l,fun _=>rfl⟩
instance:PU .nils:=⟨ab.nils,fun _=>rfl⟩
instance:PU .nilp:=⟨ab.nilp,fun _=>rfl⟩
instance:PU .nilf:=⟨ab.nilf,fun _=>rfl⟩
instance {l:List AV} [h:Cm l]:PU (.agg l):=⟨ab.agg h.pure,fun ρ => by simp only [AV.dJ,h.fix]⟩
instance {l:List AV} [h:Cm l]:PU (.tup l):=⟨ab.tup h.pure,fun ρ => by simp only [AV.dJ,h.fix]⟩
instance {l:List AV} {o:Nat} [h:Cm l]:PU (.ep l o):=⟨ab.ep h.pure,fun ρ => by simp only [AV.dJ,h.fix]⟩
instance {f:Fn} {a c:List AV} [h:Cm a] [k:Cm c]:PU (.fn f a c):=⟨ab.fn h.pure k.pure,fun ρ => by simp only [AV.dJ,h.fix,k.fix]⟩
theorem PU.slice {k:Nat} {l:List AV} (h:∀ c∈flat l,ab c) (hf:∀ c∈l,∀ ρ,c.dJ ρ = c):PU (.sl k l):=⟨ab.sl h,fun ρ => by
 have e:bQ ρ l=l:=by rw [iV];exact (List.map_congr_left fun c hc=>hf c hc ρ).trans (List.map_id l)
 simp only [AV.dJ,e]⟩
instance {k:Nat}:PU (.sl k []):=PU.slice (by simp [flat]) (by simp)
section
variable {P:Program} {G:Nat->Option (List AV)}
def hc {f:FuncId} {args:List AV} {r:AV} (h:VP P G f args r) [p:Cm args]:Hint P G := .vp f args r h p.pure
def hb (k:Nat) {x b:Bool} (h:x=b):Hint P G := .eq k (.bool x) (.bool b) (by rw [h])
def hw (k:Nat) {x y:Int} (h:x=y) (i:IntKind := .i64):Hint P G := .eq k (.int i x) (.int i y) (by rw [h])
def hv (k:Nat) {a b:AV} (h:a=b):Hint P G := .eq k a b h
def ho (k:Nat) {o:Option AV} {v:AV} (h:o=some v):Hint P G := .ev k (bB o) { val:=v } (by rw [h];rfl)
abbrev Qm (P:Program) (G:Nat->Option (List AV)):=Option (Ql × List (Hint P G) × bM × TS)
def Sx:bM->Bool
 | .normal=>true
 | .ret=>true
 | _=>false
def Xu (rs:List vI):Qm P G->Option (List Pl × Bool × Option AV)
 | some (cs,_,e,s)=>some (cs.map (·.1),Sx e,bn rs s.to)
 | none=>none
def Xv (r:AV):Qm P G->Option (List Pl × Bool × Option AV)
 | some (cs,_,_,_)=>some (cs.map (·.2),true,some r)
 | none=>some ([],true,none)
theorem C2 {e:bM} (h:Sx e=true):e = .normal∨e = .ret:=by cases e<;>simp [Sx] at h ⊢
abbrev OD (vf:ax) (args:List AV) (hs:List (Hint P G)):Qm P G:=jL true 1000 vf.body [] hs ⟨args++List.replicate (vf.nt-args.length) (.tup []),[],0⟩
theorem VP.tr {f:FuncId} {vf:ax} (h:Has P f vf) (hs:List (Hint P G)) {args:List AV} {r:AV} [hp:PU r] (hr:Xu vf.results (OD vf args hs)=Xv r (OD vf args hs)):VP P G f args r:=by
 obtain ⟨fn,hf,hc⟩:=h
 refine VP.VA hf hc ?_
 cases hx:OD vf args hs with
 | none=>rw [hx] at hr;simp [Xu,Xv] at hr
 | some y =>
   obtain ⟨cs,e8,e,s⟩:=y
   rw [hx] at hr
   simp only [Xu,Xv,Option.some.injEq,Prod.mk.injEq] at hr
   refine (eN 1000 _ _ _ _ _ _ _ _ hx (uc.of_map hr.1)).mono fun e' s2 hq => ?_
   obtain ⟨rfl,rfl⟩:=hq
   exact ⟨C2 hr.2.1,r,hr.2.2,View.pure hp.pure⟩
def Ec (rs:List vI) (K:List (Id × dc)):Qm P G->Option (List Pl × Bool × Option AV × List (Option dc))
 | some (cs,_,e,s)=>some (cs.map (·.1),Sx e,bn rs s.to,K.map fun x=>s.S.find x.1)
 | none=>none
def Ed (r:AV) (K:List (Id × dc)):Qm P G->Option (List Pl × Bool × Option AV × List (Option dc))
 | some (cs,_,_,_)=>some (cs.map (·.2),true,some r,K.map fun x=>some x.2)
 | none=>some ([],true,none,[])
theorem VP.n7 {f:FuncId} {vf:ax} (h:Has P f vf) (hs:List (Hint P G)) (K:List (Id × dc)) (r0:AV) {args:List AV} {r:AV} (hr:Ec vf.results K (OD vf args hs)=Ed r0 K (OD vf args hs))
   (hv:∀ σ : ae,(∀ x∈K, σ x.1=some x.2)->View σ r0 r):VP P G f args r:=by
 obtain ⟨fn,hf,hc⟩:=h
 refine VP.VA hf hc ?_
 cases hx:OD vf args hs with
 | none=>rw [hx] at hr;simp [Ec,Ed] at hr
 | some y =>
   obtain ⟨cs,e8,e,s⟩:=y
   rw [hx] at hr
   simp only [Ec,Ed,Option.some.injEq,Prod.mk.injEq] at hr
   refine (eN 1000 _ _ _ _ _ _ _ _ hx (uc.of_map hr.1)).mono fun e' s2 hq => ?_
   obtain ⟨rfl,rfl⟩:=hq
   exact ⟨C2 hr.2.1,r0,hr.2.2.1,hv _ (oY hr.2.2.2)⟩
def yn (ρ : Id->Id) (K:List (Id × dc)):List (Id × dc):=K.map fun x=>(ρ x.1,x.2.dJ ρ)
def FU (K:List (Id × dc)):cz:=K.map fun x=>(x.1,some x.2)
theorem Ee:∀ {K:List (Id × dc)} {i:Id} {b:dc},(FU K).to i=some b->(i,b)∈K
 | [],_,_,h=>by cases h
 | (j,c)::K,i,b,h=>by
   have h':cz.find ((j,some c)::FU K) i=some b:=h
   simp only [cz.find] at h'
   split at h'
   . rename_i he;simp only [Option.some.injEq] at h';subst h';rw [uE.1 he];simp
   . exact List.mem_cons_of_mem _ (Ee h')
theorem r7:∀ {S:List (Id × dc)} {x:Id × dc},(S.map (·.1)).Nodup->x∈S->ae.of S x.1=some x.2
 | [],x,_,hx=>by simp at hx
 | (j,c)::S,x,hnd,hx=>by
   simp only [List.map_cons,List.nodup_cons] at hnd
   rcases List.mem_cons.1 hx with rfl | hx
   . simp [ae.of]
   . have hne:x.1≠j:=fun e=>hnd.1 (List.mem_map.2 ⟨x,hx,e⟩)
     show List.lookup _ _=_
     rw [List.lookup_cons]
     have:(x.1==j)=false:=by simpa using hne
     rw [this]
     exact r7 hnd.2 hx
theorem OE {ρ : Id->Id}:∀ {K:List (Id × dc)},((yn ρ K).map (·.1)).Nodup->∀ x∈K,∀ y∈K,x.1≠y.1 -> ρ x.1 ≠ ρ y.1
 | [],_,x,hx,_,_,_=>by simp at hx
 | z::K,h,x,hx,y,hy,hne=>by
   have h':((ρ z.1,z.2.dJ ρ)::yn ρ K).map (·.1) |>.Nodup:=h
   simp only [List.map_cons,List.nodup_cons] at h'
   have hm:∀ w∈K, ρ w.1∈(yn ρ K).map (·.1):=fun w hw=>List.mem_map.2 ⟨(ρ w.1,w.2.dJ ρ),List.mem_map.2 ⟨w,hw,rfl⟩,rfl⟩
   rcases List.mem_cons.1 hx with Lq | Lq<;>rcases List.mem_cons.1 hy with QQ | QQ
   . exact absurd (by rw [Lq,QQ]) hne
   . subst Lq;exact fun e=>h'.1 (e▸hm y QQ)
   . subst QQ;exact fun e=>h'.1 (e▸hm x Lq)
   . exact OE h'.2 x Lq y QQ hne
theorem VW.trR {vc:bY} {π : Id} {n:Nat} {κ : Nat->Id} {hs e8:List (Hint P G)} {cs:Ql} {t0:List AV} {S0:List (Id × dc)} {e:bM} {s:TS} (hr:jL true 1000 vc [0] hs ⟨t0,FU S0,0⟩=some (cs,e8,e,s)) (hc:uc cs) (hd:((yn (mZ n π κ) S0).map (·.1)).Nodup) :
   VW P G π vc (fun e' s'=>e'=e/\s'.t=bQ (mZ n π κ) s.t/\s'.n=n+s.n/\Uk (mZ n π κ) s.S.to s'.σ) ⟨bQ (mZ n π κ) t0,ae.of (yn (mZ n π κ) S0),n⟩:=by
 refine (VW.dJ (κ := κ) (n:=n) (eN 1000 _ _ _ _ _ _ _ _ hr hc) (fun i b hb => ?_) fun i j hi hj hne => ?_).mono fun e' s' hq => ?_
 . exact r7 hd (List.mem_map.2 ⟨(i,b),Ee hb,rfl⟩)
 . obtain ⟨b,hb⟩:=Option.ne_none_iff_exists'.1 hi
   obtain ⟨c,hc⟩:=Option.ne_none_iff_exists'.1 hj
   exact OE hd _ (Ee hb) _ (Ee hc) hne
 . obtain ⟨s0,⟨rfl,rfl⟩,h1,h2,h3⟩:=hq
   exact ⟨rfl,h1,h2,h3⟩
def rest (YS S0:List (Id × dc)):List (Id × dc):=S0.filter fun x => !YS.any fun y=>Uo y.1 x.1
theorem aM.tr {f:FuncId} {vf:ax} (h:Has P f vf) (κ : Nat->Id) {p:Id} (hs:List (Hint P G)) {args:List AV} {S up:List (Id × dc)} {val:AV} (qn:List AV) (S0:List (Id × dc)) (Up:AV) (YS:List (Id × dc))
   (hr:Ec vf.results (YS++rest YS S0) (jL true 1000 vf.body [0] hs ⟨qn++List.replicate (vf.nt-qn.length) (.tup []),FU S0,0⟩)=Ed Up (YS++rest YS S0) (jL true 1000 vf.body [0] hs ⟨qn++List.replicate (vf.nt-qn.length) (.tup []),FU S0,0⟩))
   (ha:bQ (mZ 0 p κ) qn=args) (hS:yn (mZ 0 p κ) S0=S) (hv:Up.dJ (mZ 0 p κ)=val) (hu:yn (mZ 0 p κ) YS=up) (hd:(S.map (·.1)).Nodup) (xh:(up.map (·.1)).Nodup) :
   aM P G f args p S { val,rd:=S.map (·.1),up:=up.map fun x=>(x.1,some x.2) }:=by
 subst ha;subst hS;subst hv;subst hu
 obtain ⟨fn,hf,hcf⟩:=h
 cases hx:jL true 1000 vf.body [0] hs ⟨qn++List.replicate (vf.nt-qn.length) (.tup []),FU S0,0⟩ with
 | none=>rw [hx] at hr;simp [Ec,Ed] at hr
 | some y =>
   obtain ⟨cs,e8,e,s⟩:=y
   rw [hx] at hr
   simp only [Ec,Ed,Option.some.injEq,Prod.mk.injEq] at hr
   obtain ⟨hk,he,ho,hK⟩:=hr
   have hK':=oY hK
   refine aM.abJ hf hcf ?_
   have e0:bQ (mZ 0 p κ) qn++List.replicate (vf.nt-(bQ (mZ 0 p κ) qn).length) (.tup [])=bQ (mZ 0 p κ) (qn++List.replicate (vf.nt-qn.length) (.tup [])):=by
     rw [cL,iq]
     congr 1
     rw [iV,List.map_replicate];rfl
   rw [e0]
   refine (VW.trR (κ := κ) (n:=0) (π := p) hx (uc.of_map hk) hd).mono fun e' s' hq => ?_
   obtain ⟨rfl,h1,h2,h3⟩:=hq
   refine ⟨C2 he,_,Un (s0:=s.to) h1 h3 ho,Fin.same rfl fun j => ?_⟩
   by_cases hj:∃ x∈(yn (mZ 0 p κ) YS).map (fun x=>(x.1,some x.2)),x.1=j
   . right
     obtain ⟨x,Lq,rfl⟩:=hj
     obtain ⟨y,hy,rfl⟩:=List.mem_map.1 Lq
     obtain ⟨z,hz,rfl⟩:=List.mem_map.1 hy
     have a1:s'.σ (mZ 0 p κ z.1)=some (z.2.dJ (mZ 0 p κ)):=h3.1 _ _ (hK' z (List.mem_append_left _ hz))
     have a2:∀ (U:List (Id × dc)) (σ : ae),(U.map (·.1)).Nodup->∀ w∈U, σ.app (U.map fun x=>(x.1,some x.2)) w.1=some w.2:=by
       intro U
       induction U with
       | nil=>intro σ _ w hw;simp at hw
       | cons u U ih =>
         intro σ hn w hw
         simp only [List.map_cons,List.nodup_cons] at hn
         simp only [List.map_cons,ae.app]
         rcases List.mem_cons.1 hw with rfl | hw
         . rw [ae.K1,ae.dO]
           rintro x hx e
           obtain ⟨v,hv,rfl⟩:=List.mem_map.1 hx
           exact hn.1 (List.mem_map.2 ⟨v,hv,e⟩)
         . exact ih _ hn.2 w hw
     rw [a1]
     exact a2 _ _ xh _ (List.mem_map.2 ⟨z,hz,rfl⟩)
   . rw [ae.K1 _ _ _ fun x hx e=>hj ⟨x,hx,e⟩]
     cases hl:(yn (mZ 0 p κ) S0).lookup j with
     | none=>exact .inl hl
     | some b =>
       right
       show List.lookup _ _=_
       rw [hl]
       obtain ⟨z,hz,ez⟩:=List.mem_map.1 (iO hl)
       simp only [Prod.mk.injEq] at ez
       obtain ⟨rfl,rfl⟩:=ez
       have hz2:z∈rest YS S0:=by
         refine List.mem_filter.2 ⟨hz, ?_⟩
         cases hb:YS.any fun y=>Uo y.1 z.1 with
         | false=>rfl
         | true =>
           obtain ⟨y,hy,hyz⟩:=List.any_eq_true.1 hb
           exact absurd ⟨(mZ 0 p κ y.1,some (y.2.dJ (mZ 0 p κ))),List.mem_map.2 ⟨_,List.mem_map.2 ⟨y,hy,rfl⟩,rfl⟩,by rw [uE.1 hyz]⟩ hj
       exact (h3.1 _ _ (hK' z (List.mem_append_right _ hz2))).symm
theorem aM.trs {f:FuncId} {vf:ax} (h:Has P f vf) (κ : Nat->Id) {p:Id} (hs:List (Hint P G)) {args:List AV} {S:List (Id × dc)} {val:AV} (qn:List AV) (S0:List (Id × dc)) (Up:AV)
   (hr:Ec vf.results S0 (jL true 1000 vf.body [0] hs ⟨qn++List.replicate (vf.nt-qn.length) (.tup []),FU S0,0⟩)=Ed Up S0 (jL true 1000 vf.body [0] hs ⟨qn++List.replicate (vf.nt-qn.length) (.tup []),FU S0,0⟩))
   (ha:bQ (mZ 0 p κ) qn=args) (hS:yn (mZ 0 p κ) S0=S) (hv:Up.dJ (mZ 0 p κ)=val) (hd:(S.map (·.1)).Nodup) :
   aM P G f args p S { val,rd:=S.map (·.1) }:=by
 have e:([]:List (Id × dc))++rest [] S0=S0:=by
   unfold rest
   rw [List.nil_append,List.filter_eq_self]
   intro x _;rfl
 exact aM.tr (up:=[]) h κ hs qn S0 Up [] (by rw [e];exact hr) ha hS hv rfl hd List.nodup_nil
def Xw (K:List (Id × dc)) (t1:List AV) (n1:Nat):Qm P G->Option (List Pl × bM × Bool × List AV × List (Option dc))
 | some (cs,_,e,s)=>some (cs.map (·.1),e,Nat.ble s.n n1,Iq s.t t1,K.map fun x=>s.S.find x.1)
 | none=>none
def Xx (e1:bM) (K:List (Id × dc)) (t1:List AV):Qm P G->Option (List Pl × bM × Bool × List AV × List (Option dc))
 | some (cs,_,_,_)=>some (cs.map (·.2),e1,true,t1,K.map fun x=>some x.2)
 | none=>some ([],e1,true,[],[])
theorem Xy {ρ : Id->Id}:∀ {cs ds:List AV},Fg cs ds->Fg (bQ ρ cs) (bQ ρ ds)
 | [],[],_=>trivial
 | c::cs,d::ds,h=>by
   simp only [Fg] at h
   refine ⟨?_,Xy h.2⟩
   rcases h.1 with rfl | rfl
   . exact .inl rfl
   . exact .inr rfl
 | [],_::_,h=>by simp [Fg] at h
 | _::_,[],h=>by simp [Fg] at h
theorem VW.tr {vc:bY} {π : Id} {n:Nat} (κ : Nat->Id) (hs:List (Hint P G)) {t t':List AV} {S K:List (Id × dc)} {Q:bM->VS->Prop} (t0:List AV) (S0:List (Id × dc)) (e1:bM) (t1:List AV) (K0:List (Id × dc)) (n1:Nat)
   (hr:Xw K0 t1 n1 (jL true 1000 vc [0] hs ⟨t0,FU S0,0⟩)=Xx e1 K0 t1 (jL true 1000 vc [0] hs ⟨t0,FU S0,0⟩))
   (ht:bQ (mZ n π κ) t0=t) (hS:yn (mZ n π κ) S0=S) (Bn:bQ (mZ n π κ) t1=t') (hK:yn (mZ n π κ) K0=K) (hd:(S.map (·.1)).Nodup) (hq:∀ s,Wk G π s ⟨t',ae.of K,n+n1⟩->Q e1 s) :
   VW P G π vc Q ⟨t,ae.of S,n⟩:=by
 subst ht;subst hS;subst Bn;subst hK
 cases hx:jL true 1000 vc [0] hs ⟨t0,FU S0,0⟩ with
 | none=>rw [hx] at hr;simp only [Xw,Xx] at hr;cases hr
 | some y =>
   obtain ⟨cs,e8,e,s⟩:=y
   rw [hx] at hr
   simp only [Xw,Xx,Option.some.injEq,Prod.mk.injEq] at hr
   obtain ⟨hk,rfl,hn,hm,hK⟩:=hr
   refine (VW.trR (κ := κ) (n:=n) (π := π) hx (uc.of_map hk) hd).mono fun e' s' hq' => ?_
   obtain ⟨rfl,h1,h2,h3⟩:=hq'
   refine hq s' ?_
   obtain ⟨t2, σ2,n2⟩:=s'
   simp only [] at h1 h2 h3
   subst h1;subst h2
   refine Wk.forget (Xy (Ir hm)) (fun j=>ae.xi (fun x hx => ?_) j) (Nat.add_le_add_left (Nat.le_of_ble_eq_true hn) _)
   obtain ⟨z,hz,rfl⟩:=List.mem_map.1 hx
   exact h3.1 _ _ (oY hK z hz)
end
end Go.VL
end

section
set_option linter.unusedVariables false
namespace Go.VL
theorem Qn (ws:List Nat) (ρ : Id->Id):bQ ρ (us ws)=us ws:=by
 rw [iV];unfold us;rw [List.map_map];rfl
theorem Cm.map {α : Type} {f : α -> AV} (h:∀ x,PU (f x)) (l:List α):Cm (l.map f):=⟨by intro c hc;obtain ⟨x,_,rfl⟩:=List.mem_map.1 hc;exact (h x).pure,fun ρ => by rw [iV,List.map_map];exact List.map_congr_left fun x _=>(h x).fix ρ⟩
theorem Cm.cells {c:AV} (h:PU c) (hp:∀ d∈c.cells,ab d):Cm c.cells:=⟨hp,fun ρ => by rw [<- Bv,h.fix]⟩
theorem PU.rows {α : Type} {f : α -> AV} {k:Nat} (h:∀ x,PU (f x)) (hp:∀ x,∀ d∈(f x).cells,ab d) (l:List α):PU (.sl k (l.map f)):=PU.slice (by
 intro c hc
 simp only [flat,List.mem_flatMap,List.mem_map] at hc
 obtain ⟨_,⟨x,_,rfl⟩,hc⟩:=hc
 exact hp x c hc) (by intro c hc ρ;obtain ⟨x,_,rfl⟩:=List.mem_map.1 hc;exact (h x).fix ρ)
instance {ws:List Nat}:PU (.sl 1 (us ws)):=⟨Bm ws,fun ρ => by show AV.sl 1 (bQ ρ (us ws))=_;rw [Qn]⟩
instance {i:IntKind} {n:Int}:PU (.sl 1 [.int i n]):=PU.slice (by intro c hc;simp [flat,AV.cells] at hc;subst hc;exact ab.int _ _) (by intro c hc ρ;simp at hc;subst hc;rfl)
instance {n:Nat}:PU (W n):=⟨aC n,fun ρ => by show AV.sl 1 (bQ ρ (us (digits n)))=_;rw [Qn];rfl⟩
instance {z:Int}:PU (IV z):=by unfold IV;infer_instance
instance {q:Rat}:PU (QV q):=by unfold QV RV;infer_instance
instance {q:Rat}:PU (EV q):=PU.slice (by intro c hc;simp only [flat,List.flatMap_cons,List.flatMap_nil,List.append_nil] at hc;exact qc q c hc) (by intro c hc ρ;simp at hc;subst hc;exact PU.fix ρ)
instance {q:Rat}:PU (NV q):=by unfold NV;infer_instance
instance {v:Q2}:PU (V2 v):=by unfold V2;infer_instance
instance {x:CX}:PU x.av:=by unfold CX.av CX.cells;infer_instance
instance {x:NX}:PU x.av:=by unfold NX.av CX.cells;infer_instance
instance {x:DX}:PU x.av:=by unfold DX.av;infer_instance
instance {l:List NX}:PU (vG l):=PU.rows (fun x=>inferInstance) D6 l
instance {l:List CX}:PU (YQ l):=PU.rows (fun x=>inferInstance) Ii l
instance {l:List DX}:PU (Pk l):=PU.rows (fun x=>inferInstance) (fun x d hd=>by
 simp only [DX.av,AV.cells,List.mem_cons,List.not_mem_nil,or_false] at hd
 rcases hd with rfl | rfl | rfl | rfl | rfl | rfl | rfl | rfl<;>first | exact ab.bool _ | exact ab.int _ _) l
instance {l:List (List UInt8)}:PU (strs l):=PU.rows (f:=AV.str) (fun x=>inferInstance) (fun x d hd=>by simp only [AV.cells,List.mem_singleton] at hd;subst hd;exact ab.str x) l
theorem bA {ρ : Id->Id} {c:AV} {l:List AV}:bQ ρ (c::l)=c.dJ ρ :: bQ ρ l:=rfl
theorem cd {ρ : Id->Id}:bQ ρ []=[]:=rfl
theorem eZ {ρ : Id->Id} {n:Nat}:bQ ρ (List.replicate n .top)=List.replicate n .top:=by rw [iV,List.map_replicate];rfl
theorem PU.fixed {c:AV} [h:PU c] {ρ : Id->Id}:c.dJ ρ = c:=h.fix ρ
theorem Bx {ρ : Id->Id} {i:Id} {e o:Nat}:AV.dJ ρ (.ref i e o) = .ref (ρ i) e o:=rfl
theorem Ef {ρ : Id->Id} {i:Id} {k o l:Nat} {t:Bool}:AV.dJ ρ (.osl i k o l t) = .osl (ρ i) k o l t:=rfl
theorem kV {ρ : Id->Id}:AV.dJ ρ .top = .top:=rfl
theorem ck {ρ : Id->Id} {l:List AV} {k:Nat} {b:Bool}:dc.dJ ρ ⟨l,k,b⟩=⟨bQ ρ l,k,b⟩:=rfl
theorem bl {ρ : Id->Id} {x:Id × dc} {K:List (Id × dc)}:yn ρ (x::K)=(ρ x.1,x.2.dJ ρ)::yn ρ K:=rfl
theorem bG {ρ : Id->Id}:yn ρ []=[]:=rfl
section
variable {P:Program} {G:Nat->Option (List AV)}
def fR {f:FuncId} {args lZ:List AV} {r:AV} (S:List (Id × dc)) (h:VP P G f lZ r) (hv:az (ae.of S) args lZ):Hint P G := .rel f args S (fun _=>{ val:=r,rd:=S.map (·.1),up:=FC S }) (fun p _=>aM.K4 h hv) (fun p x hx=>List.mem_map.2 ⟨x,hx,rfl⟩)
def aP {f:FuncId} {args:List AV} {r:AV} (id:Id) (h:bu P G f args r):Hint P G := .rel f (.ref id 0 0::args) [(id,eB)] (fun _=>{ val:=r,rd:=[id] }) (fun p hp=>h p id (hp (id,eB) (by simp))) (fun p x hx=>by simp at hx;subst hx;simp)
theorem bu.tr {f:FuncId} {vf:ax} (h:Has P f vf) (hs:List (Hint P G)) {args:List AV} {r:AV} [ha:Cm args] [hr:PU r]
   (hx:Ec vf.results [([1],eB)] (jL true 1000 vf.body [0] hs ⟨(.ref [1] 0 0::args)++List.replicate (vf.nt-(AV.ref [1] 0 0::args).length) (.tup []),FU [([1],eB)],0⟩)=Ed r [([1],eB)] (jL true 1000 vf.body [0] hs ⟨(.ref [1] 0 0::args)++List.replicate (vf.nt-(AV.ref [1] 0 0::args).length) (.tup []),FU [([1],eB)],0⟩)):bu P G f args r:=fun p id qg =>
 aM.trs h (fun _=>id) hs (.ref [1] 0 0::args) [([1],eB)] r hx (by rw [bA,ha.fix];rfl) rfl (hr.fix _) (by simp)
end
end Go.VL
end

section
set_option linter.unusedSimpArgs false
set_option linter.unusedVariables false
set_option maxRecDepth 100000
namespace Go.VL
open Go.Lib
theorem aav {a:Int} (h:a.natAbs<ay):Sm 1 (a:Rat):=⟨dH (by rw [Nat.pow_one];exact h),A8⟩
section
variable {P:Program} {G:Nat->Option (List AV)}
end
end Go.VL
end

section
set_option maxRecDepth 100000
namespace Go.Proofs.YtndoagbiakehnaaGreat
open Go.VL Go.Proofs
section
variable (G:Nat->Option (List AV))
theorem t145:ja Tryz.prog G 141:=fun _ hw hl=>RO ET hw hl
theorem c95 (n:Nat) (hn:aa n<=1000000):VP Tryz.prog G 204 [W n] (W n):=TF qi n hn
theorem LY:js Tryz.prog G 260:=PR Cz (t145 G)
theorem Sy (n:Nat) (hn:n<18446744073709551616):VP Tryz.prog G 261 [.int .u64 ((n:Nat):Int)] (W n):=FK AU (t145 G) n hn
theorem acB (n:Nat) (hn:n<18446744073709551616):VP Tryz.prog G 301 [W n] (.int .u64 ((n:Nat):Int)):=Tryz.toUint_vp G n hn
theorem aml (a:Int):VP Tryz.prog G 298 [.int .i64 a] (.bool false):=PJ DL a
theorem amm (a:Int):VP Tryz.prog G 308 [.int .u32 a] (.bool false):=Jl AY a
theorem ah8 (a b:Int):VP Tryz.prog G 280 [.int .i64 a, .int .i64 b] (.int .i64 (iF a b)):=PK BQ (aml G) a b
theorem amn (a b:Int):VP Tryz.prog G 299 [.int .u32 a, .int .u32 b] (.int .i64 (iF a b)):=Jm xU (amm G) a b
theorem Uq (m n:Nat) (hm:aa m<=1000000) (hn:aa n<=1000000):VP Tryz.prog G 281 [W m,W n] (.int .i64 (eM m n)):=PL BM (ah8 G) (amn G) m n (by omega) (by omega)
theorem Xz (m n:Nat) (hm:aa m<=1000000) (hn:aa n<=1000000):VP Tryz.prog G 292 [W m,W n] (W (m+n)):=Zv EU m n hm hn
theorem ah9 (m n:Nat) (zH:n<=m) (hm:aa m<=1000000):VP Tryz.prog G 293 [W m,W n] (W (m-n)):=Wb DG (t145 G) m n zH hm
theorem amo (m n:Nat) (hm:aa m<=1000000) (hn:aa n<=1000000):VP Tryz.prog G 282 [W m,W n] (W (m*n)):=Wc DI (t145 G) m n hm hn
theorem d189 (m w:Nat) (hm:aa m<=1000000) (hw:w<ay) (h0:w≠0):VP Tryz.prog G 309 [W m, .int .u32 (w:Int)] (.tup [W (m/w),W (m%w)]):=Jn xT (t145 G) (Sy G) m w hm hw h0
theorem l90 (x:Nat) (hx:x<ay):VP Tryz.prog G 318 [.int .u32 (x:Int)] (.int .i64 (gg x:Int)):=DW jO x hx
theorem amp (x:Nat) (hx:x<ay) (h0:0<x):VP Tryz.prog G 310 [.int .u32 (x:Int)] (.int .i64 ((32-gg x:Nat):Int)):=ZC rH (l90 G) x hx h0
theorem d164 (m n:Nat) (Gv:n≠0) (hm:aa m<=900000) (hn:aa n<=900000):VP Tryz.prog G 300 [W m,W n] (.tup [W (m/n),W (m%n)]) :=
 TN CA (Uq G) (c95 G) (acB G) (Sy G) (d189 G) (amp G) zy (t145 G) AW BN iz m n Gv hm hn
theorem aaw (z:Int) (hz:aa z.natAbs<=1000000):VP Tryz.prog G 76 [IV z] (.int .i64 z.sign):=ZD EW (t145 G) z hz
theorem acC (a:Int) (h1 : -9223372036854775808<=a) (h2:a<9223372036854775808):VP Tryz.prog G 232 [.int .i64 a] (IV a):=PS BO (Sy G) (LY G) a h1 h2
theorem aia (z:Int) (hz:aa z.natAbs<=1000000):VP Tryz.prog G 265 [IV z] (IV (-z)):=adG Gg (t145 G) (c95 G) (LY G) z hz
theorem aib (y z:Int) (hy:aa y.natAbs<=1000000) (hz:aa z.natAbs<=1000000):VP Tryz.prog G 257 [IV y,IV z] (IV (y*z)):=adH Gh (t145 G) (amo G) (LY G) y z hy hz
theorem aic (y z:Int) (hy:aa y.natAbs<=1000000) (hz:aa z.natAbs<=1000000):VP Tryz.prog G 256 [IV y,IV z] (.int .i64 (iF y z)):=adI Gf (aaw G) (ah8 G) (t145 G) (Uq G) y z hy hz
theorem aid (a b:Int) (Gl:b≠0) (ha:aa a.natAbs<=900000) (hb:aa b.natAbs<=900000):VP Tryz.prog G 305 [IV a,IV b] (.tup [IV (a.fdiv b),IV (a.fmod b), .int .i64 0]):=by
 have h:=TH CB (t145 G) (d164 G) (Xz G) (ah9 G) (LY G) a b Gl ha hb
 rw [(Wt a b Gl).1,(Wt a b Gl).2] at h;exact h
theorem aie (a b:Int) (ha:aa a.natAbs<=900000) (hb:aa b.natAbs<=900000):VP Tryz.prog G 286 [IV a,IV b] (IV (Nat.gcd a.natAbs b.natAbs:Nat)):=adR Gi (t145 G) (d164 G) (c95 G) (LY G) (acB G) (Sy G) a b ha hb
theorem aif (neg:Bool) (ws:List Nat) (hl:ws.length<=9223372036854775807):VP Tryz.prog G 285 [IR neg ws] (.bool (gE neg ws)):=TK DJ neg ws hl
theorem aet:VP Tryz.prog G 233 [] (IV 1):=adJ EX (acC G 1 (by decide) (by decide))
theorem i138 (z:Int):VP Tryz.prog G 273 [IV z] (.bool (decide (z=1))):=Wn CD z
theorem amq (a b:Int) (Gl:b≠0) (ha:aa a.natAbs<=900000) (hb:aa b.natAbs<=900000):VP Tryz.prog G 294 [IV a,IV b] (IV (a.fdiv b)):=adN EY a b (i138 G b) (aid G a b Gl ha hb)
theorem aeu (a:Int) (h1 : -9223372036854775808<=a) (h2:a<9223372036854775808):VP Tryz.prog G 198 [.int .i64 a] (RV a 1):=NM AX a (acC G a h1 h2) (aet G)
theorem aih (a b:Int) (ha:aa a.natAbs<=1000000):VP Tryz.prog G 32 [RV a b] (.int .i64 a.sign):=NN DK a b (aaw G a ha)
theorem aii (a b:Int) (Gl:b≠0) (ha:aa a.natAbs<=900000) (hb:aa b.natAbs<=900000) :
   VP Tryz.prog G 275 [IV a,IV b] (RV (a.fdiv (if b<0 then -(Nat.gcd a.natAbs b.natAbs:Nat) else (Nat.gcd a.natAbs b.natAbs:Nat))) (b.fdiv (if b<0 then -(Nat.gcd a.natAbs b.natAbs:Nat) else (Nat.gcd a.natAbs b.natAbs:Nat)))):=by
 have hg0:0<Nat.gcd a.natAbs b.natAbs:=Nat.gcd_pos_of_pos_right _ (by omega)
 have hgl:aa (Nat.gcd a.natAbs b.natAbs)<=900000:=Nat.le_trans (bg (Nat.le_of_dvd (by omega) (Nat.gcd_dvd_right _ _))) hb
 refine TJ BP a b (Nat.gcd a.natAbs b.natAbs:Nat) (aie G a b ha hb) (aia G _ (by rw [Int.natAbs_natCast];omega)) ?_
 intro x y hx hy
 have PV:y≠0:=by rcases hy with rfl | rfl<;>omega
 have hyl:aa y.natAbs<=900000:=by rcases hy with rfl | rfl<;>simpa using hgl
 exact amq G x y PV (by rcases hx with rfl | rfl<;>assumption) hyl
end
end Go.Proofs.YtndoagbiakehnaaGreat
end

section
set_option maxRecDepth 100000
namespace Go.Proofs.YtndoagbiakehnaaGreat
open Go.VL Go.Proofs
section
variable (G:Nat->Option (List AV))
theorem aij:Has Tryz.prog 128 gQ:=oz
theorem amr:Has Tryz.prog 132 (ku 128):=u9
theorem t203:ja Tryz.prog G 128:=fun _ hw hl=>RO aij hw hl
theorem Qo:js Tryz.prog G 126:=PZ m8 (t203 G)
theorem aax (z:Int) (hz:aa z.natAbs<=1000000):VP Tryz.prog G 125 [IV z] (IV z):=WI wv (Qo G) z hz
theorem aev (z:Int) (hz:aa z.natAbs<=1000000):VP Tryz.prog G 96 [IV z] (.int .i64 z.sign):=TR wB (aax G) z hz
theorem aik (n:Nat) (hn:n<18446744073709551616):VP Tryz.prog G 132 [.int .u64 ((n:Nat):Int)] (W n):=FK amr (t203 G) n hn
theorem Sz (a:Int) (h1 : -9223372036854775808<=a) (h2:a<9223372036854775808):VP Tryz.prog G 66 [.int .i64 a] (IV a):=TT s7 (aik G) (Qo G) a h1 h2
theorem aew (m n:Nat) (hm:aa m<=1000000) (hn:aa n<=1000000):VP Tryz.prog G 177 [W m,W n] (.int .i64 (eM m n)):=NZ s9 m n hm hn
theorem ams (m n:Nat) (hm:aa m<=1000000) (hn:aa n<=1000000):VP Tryz.prog G 222 [W m,W n] (W (m+n)):=WK wz (t203 G) m n hm hn
theorem amt (m n:Nat) (zH:n<=m) (hm:aa m<=1000000):VP Tryz.prog G 183 [W m,W n] (W (m-n)):=Kn nJ (t203 G) m n zH hm
theorem ail (m:Nat) (ws:List Nat) (hw:Wd ws) (hm:aa m<=1000000) (hl:ws.length<=1000000):VP Tryz.prog G 127 [W m, .sl 1 (us ws)] (W (m*val ws)):=H9 jD (t203 G) m hw hm hl
theorem amu (m n:Nat) (hm:aa m<=1000000) (hn:aa n<=1000000):VP Tryz.prog G 127 [W m,W n] (W (m*n)):=TU jD (t203 G) m n hm hn
theorem amv (m w:Nat) (hm:aa m<=1000000) (hw:w<ay) (h0:w≠0):VP Tryz.prog G 179 [W m, .int .u32 (w:Int)] (.tup [W (m/w), .int .u32 ((m%w:Nat):Int)]):=aee zz (t203 G) m w hm hw h0
theorem aim (n:Nat) (hn:n<18446744073709551616):VP Tryz.prog G 178 [W n] (.int .u64 (n:Int)):=WJ ve n hn
theorem ain (m s:Nat) (hm:aa m<=1000000) (hs:s<=31):VP Tryz.prog G 184 [W m, .int .i64 (s:Int)] (W (m/2 ^ s)):=ZT wA (t203 G) m s hm hs
theorem d204 (m n:Nat) (Gv:n≠0) (hm:aa m<=900000) (hn:aa n<=900000):VP Tryz.prog G 129 [W m,W n] (.tup [W (m/n),W (m%n)]) :=
 P1 tW (aew G) (aim G) (aik G) (amv G) m9 ta (t203 G) aij vg (ail G) nJ (ain G) m n Gv hm hn
theorem acD (z:Int) (hz:aa z.natAbs<=1000000):VP Tryz.prog G 213 [IV z] (IV (-z)):=ZP xV (Qo G) z hz
theorem aio (a b:Int) (ha:aa a.natAbs<=1000000) (hb:aa b.natAbs<=1000000):VP Tryz.prog G 186 [IV a,IV b] (IV (a+b)):=ZV xW (aax G) (ams G) (Qo G) (aew G) (amt G) a b ha hb
theorem acE (a b:Int) (ha:aa a.natAbs<=1000000) (hb:aa b.natAbs<=1000000):VP Tryz.prog G 185 [IV a,IV b] (IV (a-b)):=ZW xX (acD G) (aio G) a b ha hb
theorem acF (a b:Int) (ha:aa a.natAbs<=1000000) (hb:aa b.natAbs<=1000000):VP Tryz.prog G 60 [IV a,IV b] (IV (a*b)):=WS xY (aax G) (amu G) (Qo G) a b ha hb
theorem amw (a b:Int) (ha:aa a.natAbs<=900000) (hb:aa b.natAbs<=900000):VP Tryz.prog G 61 [IV a,IV b] (IV (Nat.gcd a.natAbs b.natAbs:Nat)):=ZX xZ (t203 G) (d204 G) (Qo G) a b ha hb
theorem XA (neg:Bool) (ws:List Nat) (hw:Wd ws) (hl:ws.length<=9223372036854775807):VP Tryz.prog G 135 [IR neg ws] (.bool (gE neg ws)):=P3 u7 (t203 G) neg ws hw hl
theorem aex (a:Int) (h1 : -9223372036854775808<=a) (h2:a<9223372036854775808):VP Tryz.prog G 24 [.int .i64 a] (RV a 1):=LB tc a (Sz G a h1 h2) (Sz G 1 (by decide) (by decide))
theorem aip (z:Int):VP Tryz.prog G 59 [IV z] (.bool (decide (z=1))):=WU x4 z
theorem amx:Has Tryz.prog 39 (nY 96):=wC
theorem aiq (a b:Int) (ha:aa a.natAbs<=1000000):VP Tryz.prog G 39 [RV a b] (.int .i64 a.sign):=NN amx a b (aev G a ha)
theorem air:Has Tryz.prog 71 (jW 135 96 61 59):=vk
end
end Go.Proofs.YtndoagbiakehnaaGreat
end

section
set_option maxRecDepth 100000
namespace Go.VL
theorem XB (z:Int):gE (decide (z<0)) (digits z.natAbs)=true:=by
 unfold gE
 by_cases h:digits z.natAbs=[]
 . rw [if_pos h]
   have:=lr.1 h
   have : ¬ z<0:=by omega
   simp [this]
 . rw [if_neg h]
   obtain ⟨w,h1,h2⟩:=(uv (n:=z.natAbs)).resolve_left h
   rw [List.getLast?_eq_getElem?] at h1
   rw [h1];simpa using h2
section
variable {P:Program} {G:Nat->Option (List AV)}
theorem acG {f:FuncId} (h:∀ neg ws,Wd ws->ws.length<=9223372036854775807->VP P G f [IR neg ws] (.bool (gE neg ws))) (z:Int) (hz:aa z.natAbs<=1000000):VP P G f [IV z] (.bool true):=by
 have:=h (decide (z<0)) (digits z.natAbs) (aQ _) (by unfold aa at hz;omega)
 rw [XB] at this;exact this
theorem Kw {f fv fs fg fo:FuncId} (h:Has P f (jW fv fs fg fo)) (hv:∀ z:Int,aa z.natAbs<=1000000->VP P G fv [IV z] (.bool true)) (hs:LD P G fs) (hg:Ko P G fg) (ho:Ig P G fo):LF P G f:=fun q hq=>by
 have h1:=hv q.num (by have:=hq.1;omega)
 have h2:=hv q.den (by have:=hq.2;rw [Int.natAbs_natCast];omega)
 have h3:=hs q.den (by have:=hq.2;rw [Int.natAbs_natCast];omega)
 have h4:=hg q.num q.den (by have:=hq.1;omega) (by have:=hq.2;rw [Int.natAbs_natCast];omega)
 have h5:=ho ((Nat.gcd q.num.natAbs (q.den:Int).natAbs:Nat):Int)
 rw [Int.natAbs_natCast] at h4 h5
 have e:Nat.gcd q.num.natAbs q.den=1:=q.reduced
 rw [e] at h4 h5
 rw [Int.sign_eq_one_of_pos (wR q)] at h3
 exact VP.tr h [hc h1,hc h2,hc h3,hc h4,hc h5] (by kernel_rfl)
theorem aay {f fi fm fo fl:FuncId} (h:Has P f (pw fi fm fo fl)) (hi:Ig P G fi) (hm:FM P G fm) (ho:VP P G fo [] (IV 1)) (hl:Z1 P G fl):Sf P G f:=fun a b ha hb=>by
 obtain ⟨a1,a2⟩:=ha
 obtain ⟨b1,b2⟩:=hb
 have n1:=cj a.num b.num
 have n2:=cj (a.den:Int) (b.den:Int)
 rw [Int.natAbs_natCast,Int.natAbs_natCast] at n2
 have tG:=hl (a.num*b.num) (a.den*b.den) (yk a b) (by omega) (by omega)
 rw [<- Sc] at tG
 have h1:=ZI h a.num a.den b.num b.den (QV (a*b)) (x1:=(a*b).num) (x2:=(a*b).den) rfl hi (hm _ _ (by omega) (by omega)) (hm _ _ (by rw [Int.natAbs_natCast];omega) (by rw [Int.natAbs_natCast];omega)) ho tG
 by_cases hd:(a.den:Int)=1/\(b.den:Int)=1
 . rw [if_pos hd] at h1
   have e:a*b=((a.num*b.num:Int):Rat):=by
     rw [Sc,hd.1,hd.2];show ((a.num*b.num:Int):Rat)/(1:Rat)=_;rw [Rat.div_def,show (1:Rat)⁻¹ = 1 from by decide +kernel,Rat.mul_one]
   rw [e];exact h1
 . rw [if_neg hd] at h1;exact h1
end
end Go.VL
end

section
set_option maxRecDepth 100000
namespace Go.Proofs.YtndoagbiakehnaaGreat
open Go.VL Go.Proofs
section
variable (G:Nat->Option (List AV))
theorem amy:Ob Tryz.prog G 274:=Z2 Gj (t145 G) (Xz G) (LY G) (Uq G) (ah9 G)
theorem Ur:FM Tryz.prog G 257:=fun a b ha hb=>aib G a b (by omega) (by omega)
theorem amz:Oc Tryz.prog G 265:=fun a ha=>aia G a (by omega)
theorem XC:LD Tryz.prog G 76:=fun a ha=>aaw G a (by omega)
theorem aey:acb Tryz.prog G 256:=fun a b ha hb=>aic G a b (by omega) (by omega)
theorem aez:Ig Tryz.prog G 273:=fun z=>i138 G z
theorem amA:Ko Tryz.prog G 286:=fun a b ha hb=>aie G a b (by omega) (by omega)
theorem aeA:Z1 Tryz.prog G 275:=fun a b hb ha UT=>by rw [<- Ie a b hb];exact aii G a b hb (by omega) (by omega)
theorem LZ:LF Tryz.prog G 264:=Kw CE (acG fun neg ws _ hl=>aif G neg ws hl) (XC G) (amA G) (aez G)
theorem ais:Sg Tryz.prog G 237:=Z3 E6 (amz G)
theorem Ky:P9 Tryz.prog G 32:=fun q hq=>aih G q.num q.den (by have:=hq.1;omega)
theorem ait:acd Tryz.prog G 227:=Z4 E4 (Ky G) (Ur G) (aey G)
theorem Us:Se Tryz.prog G 244:=Z5 E5 (aez G) (amy G) (aet G) (Ur G) (aeA G)
theorem aeB:Sf Tryz.prog G 268:=aay EZ (aez G) (Ur G) (aet G) (aeA G)
theorem Iv:acf Tryz.prog G 198:=fun a h1 h2=>aeu G a h1 h2
theorem aiu (z:Int):VP Tryz.prog G 291 [IV z] (.bool (decide (z=0))):=T7 BR z
theorem aiv:ace Tryz.prog G 271:=Z6 E7 (aiu G) (Ur G) (aeA G)
theorem acH:WW Tryz.prog G 125:=fun z hz=>aax G z hz
theorem amB:Ob Tryz.prog G 186:=fun a b ha hb=>aio G a b (by omega) (by omega)
theorem aaz:FM Tryz.prog G 60:=fun a b ha hb=>acF G a b (by omega) (by omega)
theorem aeC:Oc Tryz.prog G 213:=fun a ha=>acD G a (by omega)
theorem SA:LD Tryz.prog G 96:=fun a ha=>aev G a (by omega)
theorem aaA:Ig Tryz.prog G 59:=fun z=>aip G z
theorem XD:Ko Tryz.prog G 61:=fun a b ha hb=>amw G a b (by omega) (by omega)
theorem aeD:Si Tryz.prog G 62:=fun a b hb hd ha UT=>WY x3 a b (WX tX (acH G) (d204 G) (Qo G) (acF G) (acE G) (aev G) a b hb hd (by omega) (by omega))
theorem Gn:acf Tryz.prog G 24:=fun a h1 h2=>aex G a h1 h2
theorem XE:P9 Tryz.prog G 39:=fun q hq=>aiq G q.num q.den (by have:=hq.1;omega)
theorem XF:Se Tryz.prog G 221:=W5 x7 (aaA G) (amB G) (XD G) (aaz G) (aeD G)
theorem aeE:Sf Tryz.prog G 17:=Ua x5 (Gn G 0 (by decide) (by decide)) (aaA G) (aaz G) (XD G) (aeD G)
theorem aaB:Sg Tryz.prog G 167:=WZ x8 (aeC G)
theorem Qp:LF Tryz.prog G 71:=Kw air (acG fun neg ws hw hl=>XA G neg ws hw hl) (SA G) (XD G) (aaA G)
theorem acI:Xh Tryz.prog G 188:=fun a b Gl hb h1 h2=>by
 have a1:aa a.natAbs<=1:=dH (by rw [Nat.pow_one];unfold ay;omega)
 have b1:aa b<=1:=dH (by rw [Nat.pow_one];unfold ay;omega)
 exact T9 wF a b Gl (Sz G a (by omega) (by omega)) (Sz G b (by omega) (by omega)) (T8 wE (XD G) (SA G) (aeD G) a b Gl (by omega) (by omega))
end
end Go.Proofs.YtndoagbiakehnaaGreat
end

section
set_option maxRecDepth 100000
namespace Go.Proofs.YtndoagbiakehnaaGreat
open Go.VL Go.Proofs
theorem L0 {σ : ae} {i:VL.Id} {x:Rat} {b t:Bool} (h : σ i=some ⟨[QV x],4,b⟩):View σ (.osl i 4 0 1 t) (EV x):=rN h rfl (qc x)
theorem aeF {σ : ae} {i:VL.Id} {x y:Rat} {b t:Bool} (h : σ i=some ⟨[NV x,NV y],2,b⟩):View σ (.osl i 2 0 2 t) (.sl 2 [NV x,NV y]):=Fm h rfl rfl (kg x) (kg y)
theorem vT {σ : ae} {a b:AV} {e:Int} (h:View σ a b):View σ (.tup [a, .int .i64 e]) (.tup [b, .int .i64 e]):=View.tup (az.cons h (az.cons (View.pure (ab.int _ _)) az.nil))
theorem vN0 {σ : ae} {i:VL.Id} {x:Rat} {b t:Bool} (h : σ i=some ⟨[QV x],4,b⟩):View σ (.agg [.nils, .osl i 4 0 1 t]) (NV x):=View.agg (az.cons (View.pure ab.nils) (az.cons (L0 h) az.nil))
theorem vwN {i:VL.Id} {x y:Rat}:az (ae.of [(i,⟨[NV x,NV y],2,false⟩)]) [.osl i 2 0 2 false] [.sl 2 [NV x,NV y]]:=az.cons (aeF (b:=false) (by simp [ae.of])) az.nil
instance {x y:Rat}:PU (.sl 2 [NV x,NV y]):=PU.slice (by
 intro c hc
 simp only [flat,List.flatMap_cons,List.flatMap_nil,List.append_nil,List.mem_append] at hc
 rcases hc with hc | hc
 . exact kg x c hc
 . exact kg y c hc) (by intro c hc ρ;simp at hc;rcases hc with rfl | rfl<;>exact PU.fix ρ)
section
variable (G:Nat->Option (List AV))
theorem tn (q:Rat) (hq:Sm 100000 q):VP Tryz.prog G 236 [EV q, .int .i64 1] (.bool true):=by
 have n1:VP Tryz.prog G 263 [QV q] (.bool false):=VP.tr rS [hc (LZ G q hq)] (by kernel_rfl)
 have h1:VP Tryz.prog G 284 [EV q, .fn (.func 263) [] []] (.int .i64 (-1)):=VP.tr cZ [hc n1] (by kernel_rfl)
 have h2:VP Tryz.prog G 262 [EV q, .fn (.func 263) [] []] (.bool false):=VP.tr cJ [hc h1] (by kernel_rfl)
 exact VP.tr um [hc h2] (by kernel_rfl)
theorem trd:VP Tryz.prog G 235 [.nils] (.bool true):=VP.tr ny [] (by kernel_rfl)
theorem tF (q:Rat) (hq:Sm 100000 q):VP Tryz.prog G 202 [.nils,EV q] (.bool true):=VP.tr qJ [hc (trd G),hc (tn G q hq)] (by kernel_rfl)
theorem tf (a b:Rat) (ha:Sm 100000 a) (hb:Sm 100000 b):VP Tryz.prog G 208 [.nils,EV a,EV b] (.bool true):=VP.tr qK [hc (tF G a ha),hc (tn G b hb)] (by kernel_rfl)
theorem aiw (a b:Rat) (ha:Sm 100000 a) (hb:Sm 100000 b):VP Tryz.prog G 209 [EV a,EV b] (EV (a+b)):=VP.n7 nK [hc (Us G a b ha hb)] [([3],⟨[QV (a+b)],4,false⟩)] (.osl [3] 4 0 1 false) (by kernel_rfl) (fun σ h=>L0 (h ([3],⟨[QV (a+b)],4,false⟩) (by simp)))
theorem amC (a b:Rat) (ha:Sm 100000 a) (hb:Sm 100000 b):VP Tryz.prog G 155 [.nils,EV a,EV b] (EV (a+b)):=VP.tr Cc [hc (tf G a b ha hb),hc (aiw G a b ha hb)] (by kernel_rfl)
theorem amD (a b:Rat) (ha:Sm 100000 a) (hb:Sm 100000 b):VP Tryz.prog G 206 [.nils,EV a,EV b] (EV (a*b)):=by
 have h:VP Tryz.prog G 242 [.nils,EV a,EV b] (EV (a*b)):=VP.n7 lq [hc (aeB G a b ha hb)] [([12],⟨[QV (a*b)],4,false⟩)] (.osl [12] 4 0 1 false) (by kernel_rfl) (fun σ h=>L0 (h ([12],⟨[QV (a*b)],4,false⟩) (by simp)))
 exact VP.tr vn [hc (tf G a b ha hb),hc h] (by kernel_rfl)
theorem Iw (q:Rat) (hq:Sm 100000 q):VP Tryz.prog G 149 [QV q] (QV q):=VP.tr CF [hc (c95 G q.num.natAbs (by have:=hq.1;omega)),hc (c95 G q.den (by have:=hq.2;omega))] (by kernel_rfl)
theorem Ut (q:Rat) (hq:Sm 100000 q):VP Tryz.prog G 82 [QV q] (NV q):=VP.n7 CG [hc (Iw G q hq)] [([4],⟨[QV q],4,false⟩)] (.agg [.nils, .osl [4] 4 0 1 false]) (by kernel_rfl) (fun σ h=>vN0 (h ([4],⟨[QV q],4,false⟩) (by simp)))
theorem Uu:VP Tryz.prog G 191 [.nils, .nils] (.bool true):=by
 have h:VP Tryz.prog G 224 [.nils, .nils, .fn (.func 192) [] []] (.bool true):=VP.tr b6 [] (by kernel_rfl)
 exact VP.tr lO [hc h] (by kernel_rfl)
theorem aeG (q:Rat):VP Tryz.prog G 231 [EV q] (EV q):=VP.n7 dG [] [([5],⟨[QV q],4,false⟩)] (.osl [5] 4 0 1 false) (by kernel_rfl) (fun σ h=>L0 (h ([5],⟨[QV q],4,false⟩) (by simp)))
theorem aix (q:Rat):VP Tryz.prog G 197 [.nils,EV q] (EV q):=VP.tr te [hc (aeG G q)] (by kernel_rfl)
theorem amE (q:Rat) (hq:Sm 100000 q):VP Tryz.prog G 201 [EV q] (EV q):=VP.n7 im [hc (Iw G q hq)] [([3],⟨[QV q],4,false⟩)] (.osl [3] 4 0 1 false) (by kernel_rfl) (fun σ h=>L0 (h ([3],⟨[QV q],4,false⟩) (by simp)))
theorem aeH (q:Rat) (hq:Sm 100000 q):VP Tryz.prog G 147 [NV q] (NV q):=VP.tr lN [hc (amE G q hq)] (by kernel_rfl)
theorem acJ (a b:Rat) (ha:Sm 100000 a) (hb:Sm 100000 b):VP Tryz.prog G 193 [.sl 2 [NV a,NV b]] (.tup [.sl 2 [NV a,NV b], .int .i64 0]):=by
 have h:VP Tryz.prog G 228 [.sl 2 [NV a,NV b]] (.tup [.nils, .int .i64 0]):=VP.tr lP [hc (Uu G),hc (Uu G)] (by kernel_rfl)
 exact VP.n7 n4 [hc h,hc (Uu G),hc (aix G a),hc (aeH G a ha),hc (Uu G),hc (aix G b),hc (aeH G b hb)] [([65],⟨[NV a,NV b],2,false⟩)] (.tup [.osl [65] 2 0 2 false, .int .i64 0]) (by kernel_rfl) (fun σ h=>vT (aeF (h ([65],⟨[NV a,NV b],2,false⟩) (by simp))))
theorem acK (f:Nat) (a b c:Rat) (ha:Sm 100000 a) (hb:Sm 100000 b) (h:VP Tryz.prog G f [.nils,EV a,EV b] (EV c)):VP Tryz.prog G 154 [NV a,NV b, .fn (.func f) [] []] (.tup [NV c, .int .i64 0]):=VP.tr iS [fR [([6],⟨[NV a,NV b],2,false⟩)] (acJ G a b ha hb) vwN,hc h] (by kernel_rfl)
theorem Uv (a b:Rat) (ha:Sm 100000 a) (hb:Sm 100000 b):VP Tryz.prog G 86 [NV a,NV b] (.tup [NV (a+b), .int .i64 0]):=VP.tr pM [hc (acK G 155 a b _ ha hb (amC G a b ha hb))] (by kernel_rfl)
theorem L1 (a b:Rat) (ha:Sm 100000 a) (hb:Sm 100000 b):VP Tryz.prog G 152 [NV a,NV b] (.tup [NV (a*b), .int .i64 0]):=VP.tr pN [hc (acK G 206 a b _ ha hb (amD G a b ha hb))] (by kernel_rfl)
theorem acL (f:Nat) (a b r:Q2) (h1:VP Tryz.prog G f [NV a.1,NV b.1] (.tup [NV r.1, .int .i64 0])) (h2:VP Tryz.prog G f [NV a.2,NV b.2] (.tup [NV r.2, .int .i64 0])):VP Tryz.prog G 156 [V2 a,V2 b, .fn (.func f) [] []] (.tup [V2 r, .int .i64 0]):=VP.tr jf [hc h1,hc h2] (by kernel_rfl)
theorem aiy (a b:Q2) (ha:bR 100000 a) (hb:bR 100000 b):VP Tryz.prog G 158 [V2 a,V2 b] (.tup [V2 (nh a b), .int .i64 0]):=VP.tr AZ [hc (acL G 86 a b (nh a b) (Uv G _ _ ha.1 hb.1) (Uv G _ _ ha.2 hb.2))] (by kernel_rfl)
theorem XG (a:Q2) (n:Rat) (ha:bR 100000 a) (hn:Sm 100000 n):VP Tryz.prog G 159 [V2 a,NV n] (.tup [V2 (mN a n), .int .i64 0]):=VP.tr wD [hc (acL G 152 a (n,n) (mN a n) (L1 G _ _ ha.1 hn) (L1 G _ _ ha.2 hn))] (by kernel_rfl)
theorem aiz (a:Q2):bu Tryz.prog G 142 [V2 a, .int .i64 0] (V2 a):=bu.tr dw [] (by kernel_rfl)
theorem amF:Xj Tryz.prog G 89:=fun a b ha hb=>bu.tr mI [hc (aiy G a b (ha.mono (by omega)) (hb.mono (by omega))),aP [1] (aiz G (nh a b))] (by kernel_rfl)
theorem aeI:LO Tryz.prog G 90:=fun a n ha hn=>bu.tr kQ [hc (XG G a n (ha.mono (by omega)) (hn.mono (by omega))),aP [1] (aiz G (mN a n))] (by kernel_rfl)
theorem r6R (q:Rat) (hq:Sm 100000 q):VP Tryz.prog G 249 [EV q, .int .i64 1] (.bool true):=VP.tr nM [hc (Qp G q hq)] (by kernel_rfl)
theorem r6T:VP Tryz.prog G 248 [.nils] (.bool true):=VP.tr jE [] (by kernel_rfl)
theorem r6F (q:Rat) (hq:Sm 100000 q):VP Tryz.prog G 215 [.nils,EV q] (.bool true):=VP.tr jb [hc (r6T G),hc (r6R G q hq)] (by kernel_rfl)
theorem aiA (a b:Rat) (ha:Sm 100000 a) (hb:Sm 100000 b):VP Tryz.prog G 172 [.nils,EV a,EV b] (EV (a+b)):=VP.n7 iA [hc (XF G a b ha hb)] [([18],⟨[QV (a+b)],4,false⟩)] (.osl [18] 4 0 1 false) (by kernel_rfl) (fun σ h=>L0 (h ([18],⟨[QV (a+b)],4,false⟩) (by simp)))
theorem aiB (a b:Rat) (ha:Sm 100000 a) (hb:Sm 100000 b):VP Tryz.prog G 171 [.nils,EV a,EV b] (EV (a*b)):=VP.n7 dC [hc (aeE G a b ha hb)] [([11],⟨[QV (a*b)],4,false⟩)] (.osl [11] 4 0 1 false) (by kernel_rfl) (fun σ h=>L0 (h ([11],⟨[QV (a*b)],4,false⟩) (by simp)))
theorem aiC (a:Rat) (ha:Sm 100000 a):VP Tryz.prog G 101 [.nils,EV a] (EV (-a)):=VP.n7 kP [hc (aaB G a ha)] [([14],⟨[QV (-a)],4,false⟩)] (.osl [14] 4 0 1 false) (by kernel_rfl) (fun σ h=>L0 (h ([14],⟨[QV (-a)],4,false⟩) (by simp)))
theorem r9L (a:Rat):VP Tryz.prog G 254 [.nils,EV a] (EV a):=VP.n7 j8 [] [([3],⟨[QV a],4,false⟩)] (.osl [3] 4 0 1 false) (by kernel_rfl) (fun σ h=>L0 (h ([3],⟨[QV a],4,false⟩) (by simp)))
theorem r9B:VP Tryz.prog G 252 [.nils, .nils] (.bool true):=VP.tr gl [] (by kernel_rfl)
theorem r9J (a b:Rat):VP Tryz.prog G 220 [.sl 2 [NV a,NV b]] (.tup [.sl 2 [NV a,NV b], .int .i64 0]):=VP.n7 gZ [hc (r9B G),hc (r9B G),hc (r9B G),hc (r9L G a),hc (r9B G),hc (r9L G b)] [([135],⟨[NV a,NV b],2,false⟩)] (.tup [.osl [135] 2 0 2 false, .int .i64 0]) (by kernel_rfl) (fun σ h=>vT (aeF (h ([135],⟨[NV a,NV b],2,false⟩) (by simp))))
theorem r9T (a b:Rat):VP Tryz.prog G 170 [NV a,NV b] (.tup [NV a,NV b, .int .i64 0]):=VP.tr iB [fR [([7],⟨[NV a,NV b],2,false⟩)] (r9J G a b) vwN] (by kernel_rfl)
theorem OG (a b:Rat) (ha:Sm 100000 a) (hb:Sm 100000 b):VP Tryz.prog G 106 [NV a,NV b] (.tup [NV (a+b), .int .i64 0]):=VP.tr iC [hc (r9T G a b),hc (aiA G a b ha hb)] (by kernel_rfl)
theorem OH (a b:Rat) (ha:Sm 100000 a) (hb:Sm 100000 b):VP Tryz.prog G 105 [NV a,NV b] (.tup [NV (a*b), .int .i64 0]):=VP.tr iD [hc (r9T G a b),hc (aiB G a b ha hb)] (by kernel_rfl)
theorem OI (a:Rat) (ha:Sm 100000 a):VP Tryz.prog G 43 [NV a] (NV (-a)):=VP.tr pP [hc (aiC G a ha)] (by kernel_rfl)
theorem aiD (a b:Rat) (ha:Sm 100000 a) (hb:Sm 100000 b):VP Tryz.prog G 108 [NV a,NV b] (.tup [NV (a-b), .int .i64 0]):=by rw [Rat.sub_eq_add_neg];exact VP.tr pQ [hc (OI G b hb),hc (OG G a (-b) ha hb.neg)] (by kernel_rfl)
theorem r7S (a:Rat) (ha:Sm 100000 a):VP Tryz.prog G 166 [.nils,EV a] (.int .i64 (aZ a)):=VP.tr dW [hc (XE G a ha)] (by kernel_rfl)
theorem Qq (a:Rat) (ha:Sm 100000 a):VP Tryz.prog G 42 [NV a] (.int .i64 (aZ a)):=by
 have h:VP Tryz.prog G 100 [.nils,EV a] (.int .i64 (aZ a)):=VP.tr oG [hc (r7S G a ha)] (by kernel_rfl)
 exact VP.tr oH [hc h] (by kernel_rfl)
theorem aeJ (a b:Rat) (ha:Sm 45000 a) (zE:Sm 45000 b):VP Tryz.prog G 18 [NV a,NV b] (.bool (decide (a=b))):=by
 have h:VP Tryz.prog G 63 [NV a,NV b] (.tup [.int .i64 (aZ (a-b)), .int .i64 0]):=VP.tr pR [hc (aiD G a b (ha.mono (by omega)) (zE.mono (by omega))),hc (Qq G _ ((ha.sub zE).mono (by omega)))] (by kernel_rfl)
 have e:(aZ (a-b)==0)=decide (a=b):=(Kv (a-b)).trans (decide_eq_decide.2 ⟨fun h=>by grind,fun h=>by grind⟩)
 exact VP.tr nN [hc h,hb 17 e] (by kernel_rfl)
theorem r8R:VP Tryz.prog G 214 [.nils] (.bool true):=VP.tr iT [] (by kernel_rfl)
theorem XH (a:Rat) (ha:Sm 100000 a):VP Tryz.prog G 175 [NV a] (.bool true):=VP.tr nO [hc (r6F G a ha),hc (r8R G)] (by kernel_rfl)
theorem Ix (q:Rat):VP Tryz.prog G 16 [QV q] (NV q):=VP.n7 tg [] [([3],⟨[QV q],4,false⟩)] (.agg [.nils, .osl [3] 4 0 1 false]) (by kernel_rfl) (fun σ h=>vN0 (h ([3],⟨[QV q],4,false⟩) (by simp)))
theorem SB (v:Q2):VP Tryz.prog G 67 [QV v.1,QV v.2] (V2 v):=VP.tr wH [hc (Ix G v.1),hc (Ix G v.2)] (by kernel_rfl)
theorem aaC:VP Tryz.prog G 173 [.int .i64 0, .int .i64 0] (.int .i64 0):=VP.tr vq [] (by kernel_rfl)
theorem aiE (v:Q2):VP Tryz.prog G 174 [NV v.1,NV v.2, .int .i64 0] (.tup [V2 v, .int .i64 0]):=VP.tr pS [] (by kernel_rfl)
theorem XI (a b:Q2) (ha:bR 100000 a) (hb:bR 100000 b):VP Tryz.prog G 109 [V2 a,V2 b] (.tup [V2 (nh a b), .int .i64 0]):=VP.tr pT [hc (OG G _ _ ha.1 hb.1),hc (OG G _ _ ha.2 hb.2),hc (aaC G),hc (aiE G (nh a b))] (by kernel_rfl)
theorem aeK (a:Q2) (ha:bR 100000 a):VP Tryz.prog G 114 [V2 a] (V2 (Sp a)):=VP.tr pU [hc (OI G _ ha.1),hc (OI G _ ha.2)] (by kernel_rfl)
theorem aeL (a b:Q2) (ha:bR 100000 a) (hb:bR 100000 b):VP Tryz.prog G 56 [V2 a,V2 b] (.tup [V2 (bf a b), .int .i64 0]):=by
 have e:bf a b=nh a (Sp b):=by unfold bf nh Sp;simp only [Rat.sub_eq_add_neg]
 rw [e]
 exact VP.tr pV [hc (aeK G b hb),hc (XI G a (Sp b) ha ⟨hb.1.neg,hb.2.neg⟩)] (by kernel_rfl)
theorem XJ (a:Q2) (n:Rat) (ha:bR 100000 a) (hn:Sm 100000 n):VP Tryz.prog G 110 [V2 a,NV n] (.tup [V2 (mN a n), .int .i64 0]):=VP.tr nQ [hc (OH G _ _ ha.1 hn),hc (OH G _ _ ha.2 hn),hc (aaC G),hc (aiE G (mN a n))] (by kernel_rfl)
theorem SC (a:Q2) (ha:bR 100000 a):VP Tryz.prog G 116 [V2 a] (V2 (-a.2,a.1)):=VP.tr wI [hc (OI G _ ha.2)] (by kernel_rfl)
theorem aeM (a b:Q2) (ha:bR 20000 a) (hb:bR 20000 b):VP Tryz.prog G 107 [V2 a,V2 b] (.tup [NV (nV a b), .int .i64 0]):=VP.tr pW [hc (OH G a.1 b.1 (ha.1.mono (by omega)) (hb.1.mono (by omega))),hc (OH G a.2 b.2 (ha.2.mono (by omega)) (hb.2.mono (by omega))),hc (OG G (a.1*b.1) (a.2*b.2) ((ha.1.mul hb.1).mono (by omega)) ((ha.2.mul hb.2).mono (by omega)))] (by kernel_rfl)
theorem XK (a b:Q2) (ha:bR 45000 a) (hb:bR 45000 b):VP Tryz.prog G 19 [V2 a,V2 b] (.bool (decide (a=b))):=by
 have h1:=aeJ G _ _ ha.1 hb.1
 have h2:=aeJ G _ _ ha.2 hb.2
 by_cases e1:a.1=b.1
 . rw [decide_eq_true e1] at h1
   have e:decide (a.2=b.2)=decide (a=b):=decide_eq_decide.2 ⟨fun h=>Prod.ext e1 h,fun h=>by rw [h]⟩
   rw [e] at h2
   exact VP.tr gJ [hc h1,hc h2] (by kernel_rfl)
 . rw [decide_eq_false e1] at h1
   rw [decide_eq_false (fun h=>e1 (by rw [h]) : ¬ a=b)]
   exact VP.tr gJ [hc h1] (by kernel_rfl)
theorem Iy (a:Q2) (ha:bR 100000 a):VP Tryz.prog G 112 [V2 a] (.bool true):=VP.tr nR [hc (XH G _ ha.1),hc (XH G _ ha.2)] (by kernel_rfl)
theorem SD:bu Tryz.prog G 165 [.int .i64 0] (.tup []):=bu.tr rJ [] (by kernel_rfl)
theorem aeN (a:Q2):bu Tryz.prog G 97 [V2 a, .int .i64 0] (V2 a):=bu.tr lR [aP [1] (SD G)] (by kernel_rfl)
theorem amH (a:Rat):bu Tryz.prog G 98 [NV a, .int .i64 0] (NV a):=bu.tr lQ [aP [1] (SD G)] (by kernel_rfl)
theorem aiF:Xj Tryz.prog G 51:=fun a b ha hb=>bu.tr lg [hc (XI G a b (ha.mono (by omega)) (hb.mono (by omega))),aP [1] (aeN G (nh a b))] (by kernel_rfl)
theorem Iz:acw Tryz.prog G 40:=fun a b ha hb=>bu.tr kp [hc (aeL G a b (ha.mono (by omega)) (hb.mono (by omega))),aP [1] (aeN G (bf a b))] (by kernel_rfl)
theorem aeO:LO Tryz.prog G 52:=fun a n ha hn=>bu.tr kq [hc (XJ G a n (ha.mono (by omega)) (hn.mono (by omega))),aP [1] (aeN G (mN a n))] (by kernel_rfl)
theorem SE (a:Q2) (ha:bR 20000 a):bu Tryz.prog G 45 [V2 a] (NV (nV a a)):=by
 have h:VP Tryz.prog G 103 [V2 a] (.tup [NV (nV a a), .int .i64 0]):=VP.tr na [hc (aeM G a a ha ha)] (by kernel_rfl)
 exact bu.tr j9 [hc h,aP [1] (amH G (nV a a))] (by kernel_rfl)
theorem aeP (a b:Q2) (ha:bR 5000 a) (hb:bR 5000 b):bu Tryz.prog G 15 [V2 a,V2 b] (NV (Kq a b)):=bu.tr lS [aP [1] (Iz G a b ha hb),aP [1] (SE G (bf a b) ((ha.sub hb).mono (by omega)))] (by kernel_rfl)
end
end Go.Proofs.YtndoagbiakehnaaGreat
end

section
set_option linter.unusedSimpArgs false
set_option linter.unusedVariables false
set_option maxRecDepth 100000
namespace Go.VL
open Go.Lib
theorem Uw {cs:List CX} {x:NX} (h:x∈named cs):∃ i,i<cs.length/\x.name=[107,47]++decDigits i/\x.c∈cs:=by
 unfold named at h
 obtain ⟨i,hi,e⟩:=List.mem_mapIdx.1 h
 subst e
 exact ⟨i,hi,rfl,List.getElem_mem hi⟩
section
variable {P:Program} {G:Nat->Option (List AV)}
theorem L3 {f fc:FuncId} (h:Has P f (gY fc)) (ds:List DX) (h6:6<ds.length):VP P G f [Pk ds, .int .i64 6] (.tup [.nils, .bool false]) :=
 VP.tr h [hb 13 (aw (by simp;omega):decide (((ds.map DX.av).length:Int)>6)=true)] (by kernel_rfl)
end
end Go.VL
end

section
set_option maxRecDepth 100000
namespace Go.Proofs.YtndoagbiakehnaaGreat
open Go.VL Go.Proofs Go.Lib
section
variable (G:Nat->Option (List AV))
theorem aiG (c:UInt8):VP Tryz.prog G 136 [kS c] (.bool (dX c)):=FJ Cy c
theorem amI (c:UInt8):VP Tryz.prog G 189 [kS c] (.bool (p7 c)):=H0 DF c
theorem aiH (c:UInt8):VP Tryz.prog G 138 [kS c] (.bool (dD c)):=Tz ER (aiG G) (amI G) c
theorem aiI (s:List UInt8) (hs:s.length<9223372036854775807):VP Tryz.prog G 137 [.str s, .fn (.func 138) [] []] (.int .i64 (gw dD s)):=Zs HT (aiH G) s hs
theorem XL (s:List UInt8):VP Tryz.prog G 72 [.str s] (.bool (e6 s)):=TA ES (aiG G) (aiI G) s
theorem aiJ:Has Tryz.prog 210 mS:=tV
theorem aiK:Has Tryz.prog 211 nW:=u6
theorem aiL (s:List UInt8) (hs:s.length<9223372036854775807):VP Tryz.prog G 164 [.str s, .int .i64 0] (.int .i64 ((wT s:Nat):Int)):=ZY wu (FJ aiJ) (H0 aiK) s hs
theorem aiM (s:List UInt8):VP Tryz.prog G 95 [.str s] (.bool (e6 s)):=P7 tU (aiL G) s
theorem XM:Sr Tryz.prog G 113:=fun x hx=>by
 have h1:=Sm.Kq hx.1 hx.2.2
 have h2:=Sm.Kq hx.2.1 hx.2.2
 exact Qc jF x (XK G _ _ (hx.1.mono (by omega)) (hx.2.1.mono (by omega))) (aeP G _ _ hx.1 hx.2.2) (aeP G _ _ hx.2.1 hx.2.2) (Qq G _ (h1.mono (by omega))) (aeJ G _ _ (h1.mono (by omega)) (h2.mono (by omega)))
theorem cAt (p:Int × Int) (u:Nat) (hp:ok8 p) (hu:u<256):VP Tryz.prog G 133 [I2 p, .int .u8 ((u:Nat):Int)] (V2 (wW p u)):=aap zA (acI G) (SB G) p hp u hu
theorem aiN (n:Nat) (hn:n<256):VP Tryz.prog G 134 [.int .u8 (n:Int)] (V2 (wV (n%16))):=Ue wJ (acI G) (SB G) n hn
theorem aeQ:VP Tryz.prog G 25 [.int .i64 0, .int .i64 0] (V2 (0,0)):=FO nP 0 0 (Gn G 0 (by decide) (by decide)) (Gn G 0 (by decide) (by decide)) (SB G (0,0))
theorem aeR (d:DX) (hd:d.Ok):VP Tryz.prog G 69 [d.av] (.tup [d.iL.av, .bool d.iL.valid]):=Qf vt d hd (cAt G) (aeQ G) (Iz G) (aiN G) (aeO G) (fun a ha=>SC G a (ha.mono (by omega))) (aiF G) (XM G)
theorem amJ (n:Nat) (hn:n<1000):VP Tryz.prog G 28 [.int .i64 (n:Int)] (.str (decDigits n)):=Ol tZ n (Oj tY n hn)
def Gp (ds:List DX):Bool:=decide (ds.length<=6) && !ds.any fun d => !d.iL.valid
def made (ds:List DX):List CX:=if Gp ds=true then ds.map DX.iL else []
theorem Bc {ds:List DX} (h:Gp ds=true):ds.length<=6/\∀ d∈ds,d.iL.valid=true:=by
 unfold Gp at h
 simp only [Bool.and_eq_true,decide_eq_true_eq,Bool.not_eq_true',List.any_eq_false] at h
 exact ⟨h.1,fun d hd=>by simpa using h.2 d hd⟩
theorem aaD (ds:List DX) (hd:∀ d∈ds,d.Ok):VP Tryz.prog G 27 [Pk ds, .int .i64 6] (if Gp ds=true then .tup [YQ (made ds), .bool true] else .tup [.nils, .bool false]):=by
 by_cases h6:6<ds.length
 . have:Gp ds=false:=by unfold Gp;rw [decide_eq_false (by omega)];rfl
   rw [this,if_neg (by decide)]
   exact L3 nb ds h6
 . have h:=Ot nb ds (fun d hm=>aeR G d (hd d hm)) (by omega)
   unfold made
   by_cases hf:Gp ds=true
   . rw [if_pos hf,if_pos hf]
     rw [if_neg] at h
     . exact h
     . rintro (h1 | h1)
       . exact h6 h1
       . obtain ⟨d,hd,hv⟩:=List.any_eq_true.1 h1
         rw [(Bc hf).2 d hd] at hv;simp at hv
   . rw [if_neg hf]
     rw [if_pos] at h
     . exact h
     . right
       unfold Gp at hf
       rw [decide_eq_true (by omega),Bool.true_and] at hf
       simpa using hf
theorem aiO (ds:List DX) (hd:∀ d∈ds,d.Ok):VP Tryz.prog G 6 [Pk ds] (.tup [vG (named (made ds)), .bool (Gp ds)]) :=
 Uf wK ds (Gp ds) (made ds) (fun h=>by unfold made;rw [h];rfl) (by
   unfold made
   split
   . rename_i h;rw [List.length_map];exact (Bc h).1
   . exact Nat.zero_le _) (aaD G ds hd) (amJ G)
theorem Ux {ds:List DX} (hd:∀ d∈ds,d.Ok) (hf:Gp ds=true):(named (made ds)).length<=6/\∀ z∈named (made ds),z.c.valid=true/\z.c.Sm 20/\z.name.length<=10:=by
 have hm:made ds=ds.map DX.iL:=by unfold made;rw [if_pos hf]
 refine ⟨by unfold named;rw [List.length_mapIdx,hm,List.length_map];exact (Bc hf).1,fun z hz => ?_⟩
 obtain ⟨i,hi,hn,hc⟩:=Uw hz
 rw [hm] at hc hi
 obtain ⟨d,hdm,e⟩:=List.mem_map.1 hc
 refine ⟨by rw [<- e];exact (Bc hf).2 d hdm,by rw [<- e];exact Oo (hd d hdm), ?_⟩
 have:=aep (i:=i) (by rw [List.length_map] at hi;have:=(Bc hf).1;omega)
 rw [hn];simp;omega
theorem XN (l:List NX) (hl:l.length<=1000) (s:List UInt8):VP Tryz.prog G 35 [vG l, .str s] (.int .i64 (jK l s)) :=
 Ug pX l s (ub aJ (a:=[]) (c:=[.ep [.str s] 0]) (p:=fun x=>x.name==s) (fun e _=>Qi nz e s) (by simp) (by simp [aas]) (by omega))
theorem aiP (l:List NX) (hl:l.length<=1000) (s:List UInt8):VP Tryz.prog G 74 [vG l, .str s] (if jK l s<0 then .tup [zC, .bool false] else .tup [(bh l s).av, .bool true]):=by
 split
 . rename_i h;exact Uh mW l s (XN G l hl s) h
 . rename_i h;exact Xq mW l s (XN G l hl s) h
open Classical in
theorem amK (l:List (List UInt8)) (hl:l.length<=1000):VP Tryz.prog G 73 [strs l] (.bool (decide (Jp l l.length))):=Ov mJ l (by omega) (fun i s _=>LU fx _ s (Ui gi _ s (by rw [List.length_take];omega)))
theorem pIn (nm:List UInt8) (l:List NX) (hl:l.length<=1000) (ins:List (List UInt8)) (hi:ins.length<=1000):VP Tryz.prog G 30 [.str nm,vG l,strs ins] (if dI nm l ins=0 then .tup [YQ (ins.map (bh l)), .int .i64 0] else .tup [.nils, .int .i64 (dI nm l ins)]) :=
 Qj om nm l ins (XL G nm) (amK G ins hi) (fun s _=>aiP G l hl s) hi
theorem aiQ (l:List (List UInt8)) (hl:l.length<=1000):VP Tryz.prog G 21 [strs l] (strs l) :=
 qU qh (by intro e he;obtain ⟨s,_,rfl⟩:=List.mem_map.1 he;rfl) (q8 (f:=AV.str) (fun x=>by simp [AV.cells,AV.one]) l) (by intro c hc;simp only [flat,List.mem_flatMap,List.mem_map] at hc;obtain ⟨_,⟨s,_,rfl⟩,hc⟩:=hc;simp only [AV.cells,List.mem_singleton] at hc;subst hc;exact ab.str s) (by rw [List.length_map];omega)
end
end Go.Proofs.YtndoagbiakehnaaGreat
end

section
set_option linter.unusedVariables false
set_option maxRecDepth 100000
namespace Go.VL
section
variable {P:Program} {G:Nat->Option (List AV)}
theorem aaE {f ff fi:FuncId} (h:Has P f (sW ff fi)) (a:Rat):bu P G f [NV a, .int .i64 0] (NV a):=bu.tr h [] (by kernel_rfl)
theorem GC {f fa fv:FuncId} (h:Has P f (sV fa fv)) (a b c:Q2) (ha:VP P G fa [V2 a,V2 b] (.tup [V2 c, .int .i64 0])) (hv:∀ a,bu P G fv [V2 a, .int .i64 0] (V2 a)):bu P G f [V2 a,V2 b] (V2 c):=bu.tr h [hc ha,aP [1] (hv c)] (by kernel_rfl)
theorem aaF {f fa fv:FuncId} (h:Has P f (sY fa fv)) (a b c:Rat) (ha:VP P G fa [NV a,NV b] (.tup [NV c, .int .i64 0])) (hv:∀ a,bu P G fv [NV a, .int .i64 0] (NV a)):bu P G f [NV a,NV b] (NV c):=bu.tr h [hc ha,aP [1] (hv c)] (by kernel_rfl)
theorem aaG {f fa fv:FuncId} (h:Has P f (sZ fa fv)) (a b c:Rat) (ha:VP P G fa [NV a,NV b] (.tup [NV c, .int .i64 0])) (hv:∀ a,bu P G fv [NV a, .int .i64 0] (NV a)):bu P G f [NV a,NV b] (NV c):=bu.tr h [hc ha,aP [1] (hv c)] (by kernel_rfl)
theorem SF {f fb fm fa:FuncId} (h:Has P f (Dz fb fm fa)) (a b:Q2) (hb:VP P G fb [V2 a,V2 b, .fn (.func fm) [] []] (.tup [V2 (a.1*b.1,a.2*b.2), .int .i64 0])) (ha:VP P G fa [NV (a.1*b.1),NV (a.2*b.2)] (.tup [NV (nV a b), .int .i64 0])):VP P G f [V2 a,V2 b] (.tup [NV (nV a b), .int .i64 0]):=VP.tr h [hc hb,hc ha] (by kernel_rfl)
theorem IA {f fd:FuncId} (h:Has P f (yA fd)) (a:Q2) (hd:VP P G fd [V2 a,V2 a] (.tup [NV (nV a a), .int .i64 0])):VP P G f [V2 a] (.tup [NV (nV a a), .int .i64 0]):=VP.tr h [hc hd] (by kernel_rfl)
theorem aaH {f fs fq:FuncId} (h:Has P f (yz fs fq)) (a:Q2) (m:Rat) (hs:VP P G fs [V2 a] (.tup [NV (nV a a), .int .i64 0])) (hq:VP P G fq [NV (nV a a)] (.tup [NV m, .int .i64 0])):VP P G f [V2 a] (.tup [NV m, .int .i64 0]):=VP.tr h [hc hs,hc hq] (by kernel_rfl)
theorem OJ {f fn:FuncId} (h:Has P f (yB fn)) (a:Rat) (hn:VP P G fn [NV a] (NV (-a))) (Y7:VP P G fn [NV (-a)] (NV a)):VP P G f [NV a] (NV a):=VP.tr h [hc hn,hc Y7] (by kernel_rfl)
theorem OK {f fn fc:FuncId} (h:Has P f (B7 fn fc)) (a:Q2) (hn:VP P G fn [NV a.2] (NV (-a.2))) (hc1:VP P G fc [NV a.1] (NV a.1)):VP P G f [V2 a] (V2 (-a.2,a.1)):=VP.tr h [hc hn,hc hc1] (by kernel_rfl)
theorem Uy {f fl fd:FuncId} (h:Has P f (AJ fl fd)) (a b c:Q2) (r:Rat) (hl:VP P G fl [V2 a] (V2 c)) (hd:VP P G fd [V2 c,V2 b] (.tup [NV r, .int .i64 0])):VP P G f [V2 a,V2 b] (.tup [NV r, .int .i64 0]):=VP.tr h [hc hl,hc hd] (by kernel_rfl)
theorem Uz {f fe:FuncId} (h:Has P f (Ab fe)) (a b:Q2) (h1:VP P G fe [NV a.1,NV b.1] (.bool (decide (a.1=b.1)))) (h2:VP P G fe [NV a.2,NV b.2] (.bool (decide (a.2=b.2)))):VP P G f [V2 a,V2 b] (.bool (decide (a=b))):=by
 by_cases e1:a.1=b.1
 . rw [decide_eq_true e1] at h1
   have e:decide (a=b)=decide (a.2=b.2):=decide_eq_decide.2 ⟨fun e=>by rw [e],fun e=>Prod.ext e1 e⟩
   rw [e]
   exact VP.tr h [hc h1,hc h2] (by kernel_rfl)
 . rw [decide_eq_false e1] at h1
   have e:decide (a=b)=false:=decide_eq_false fun e=>e1 (by rw [e])
   rw [e]
   exact VP.tr h [hc h1] (by kernel_rfl)
theorem Bd {f f1 f2 f3:FuncId} (h:Has P f (AK f1 f2 f3)):VP P G f [.nils] (.bool true):=VP.tr h [] (by kernel_rfl)
theorem FV {f f1 f2 f3:FuncId} (h:Has P f (yC f1 f2 f3)) (a m:Rat) (h1:VP P G f1 [.nils,EV a] (.tup [EV m, .bool true])) (h2:VP P G f2 [.nils,EV m] (.int .i64 1)):VP P G f [.nils,EV a] (.tup [EV m, .bool true]):=VP.tr h [hc h1,hc h2] (by kernel_rfl)
end
end Go.VL
end

section
set_option linter.unusedVariables false
set_option maxRecDepth 100000
namespace Go.VL
theorem Qr {n:Nat} (h:n<ay) (h0:n≠0):W n = .sl 1 [.int .u32 (n:Int)]:=by
 unfold W us
 rw [iU h0,Nat.mod_eq_of_lt h,Nat.div_eq_of_lt h,bo];rfl
section
variable {P:Program} {G:Nat->Option (List AV)}
theorem IB {f f1:FuncId} (h:Has P f (DB f1)):VP P G f [.nils] (.sl 1 []):=VP.n7 h [] [([3],⟨[],1,false⟩)] (.osl [3] 1 0 0 false) (by kernel_rfl) (fun σ hσ => View.osl (bk:=⟨[],1,false⟩) (ds:=[]) (hσ ([3],⟨[],1,false⟩) (by simp)) rfl (by simp) az.nil rfl (by simp))
theorem IC {f f1 f2 f4 f5 f6 f7 f8 f9 fa fb fc:FuncId} (h:Has P f (Ca f1 f2 f f4 f5 f6 f7 f8 f9 fa fb fc)) (a m:Rat) (h1:VP P G f1 [QV a] (.tup [QV m, .bool true])):VP P G f [.nils,EV a] (.tup [EV m, .bool true]) :=
 VP.n7 h [hc h1] [([16],⟨[QV m],4,false⟩)] (.tup [.osl [16] 4 0 1 false, .bool true]) (by kernel_rfl) (fun σ hσ => View.tup (az.cons (CU (hσ ([16],⟨[QV m],4,false⟩) (by simp))) (az.cons (View.pure (ab.bool _)) az.nil)))
theorem ID {f fc:FuncId} (h:Has P f (yx fc)) (q:Rat) (hc':VP P G fc [EV q] (EV q)):VP P G f [.agg [.sl 1 [],EV q]] (NV q):=VP.tr h [hc hc'] (by kernel_rfl)
theorem OM {f fa fd:FuncId} (h:Has P f (B8 fa fd)) (a m:Rat) (ha:VP P G fa [.nils,EV a] (.tup [.sl 1 [],EV m, .int .i64 0])) (hd:VP P G fd [.agg [.sl 1 [],EV m]] (NV m)):VP P G f [NV a] (.tup [NV m, .int .i64 0]):=VP.tr h [hc ha,hc hd] (by kernel_rfl)
theorem Kz {f f1 f2 f3 f4 f5 f6 f7:FuncId} (h:Has P f (B9 f1 f2 f3 f4 f5 f6 f7)) (a m:Rat) (h1:VP P G f1 [.nils,EV a] (.bool true)) (h2:VP P G f2 [.nils] (.bool true)) (h3:VP P G f3 [.nils,EV a] (.int .i64 1)) (h4:VP P G f4 [.nils,EV a] (.tup [EV m, .bool true])) (h5:VP P G f5 [.nils] (.sl 1 [])):VP P G f [.nils,EV a] (.tup [.sl 1 [],EV m, .int .i64 0]):=VP.tr h [hc h1,hc h2,hc h3,hc h4,hc h5] (by kernel_rfl)
theorem OO {f fr:FuncId} (h:Has P f (yD fr)) (a b m n:Int) (h1:VP P G fr [IV a] (.tup [IV m, .bool true])) (h2:VP P G fr [IV b] (.tup [IV n, .bool true])):VP P G f [RV a b] (.tup [RV m n, .bool true]):=by
 haveI:PU (RV m n):=by unfold RV;infer_instance
 exact VP.tr h [hc h1,hc h2] (by kernel_rfl)
theorem OP {f fs fm fc:FuncId} (h:Has P f (yF fs fm fc)) (a m:Int) (h1:VP P G fs [IV a] (.tup [IV m, .int .i64 0])) (h2:VP P G fm [IV m,IV m] (IV a)) (h3:VP P G fc [IV a,IV a] (.int .i64 0)):VP P G f [IV a] (.tup [IV m, .bool true]):=VP.tr h [hc h1,hc h2,hc h3] (by kernel_rfl)
theorem L4 {f fs ft:FuncId} (h:Has P f (AL fs ft)) (hs:Has P fs gR) (ht:ja P G ft) (n:Nat) (hn:aa n<=1000):VP P G f [W n] (W (n/2)):=by
 have h1:=Cj (G:=G) hs n 1 (by omega) (by decide)
 have h2:=ht (pad (aa n) (n/2 ^ 1)) (mM _ _) (by rw [dR];omega)
 rw [cH (Nat.lt_of_le_of_lt (Nat.div_le_self _ _) (de n))] at h2
 exact VP.tr h [hc h1,hc h2] (by kernel_rfl)
theorem KA {f:FuncId} (h:Has P f eQ) (k:Nat) (b:Int) (n:Nat) (hn:n<ay) (h0:n≠0) (hx:Ec eQ.results [([4],⟨[.int .u32 (n:Int)],1,false⟩)] (OD (P:=P) (G:=G) eQ [.int .i64 b] [])=Ed (.osl [4] 1 0 1 false) [([4],⟨[.int .u32 (n:Int)],1,false⟩)] (OD (P:=P) (G:=G) eQ [.int .i64 b] [])):VP P G f [.int .i64 b] (W n):=by
 rw [Qr hn h0]
 exact VP.n7 h [] _ _ hx (fun σ hσ => rN (hσ ([4],⟨[.int .u32 (n:Int)],1,false⟩) (by simp)) rfl (by intro c hc;simp [AV.cells] at hc;subst hc;exact ab.int _ _))
theorem OQ {f:FuncId} (h:Has P f eQ):VP P G f [.int .i64 3] (W 8):=KA h 0 3 8 (by decide) (by decide) (by kernel_rfl)
theorem OR {f:FuncId} (h:Has P f eQ):VP P G f [.int .i64 1] (W 2):=KA h 0 1 2 (by decide) (by decide) (by kernel_rfl)
theorem OS {f ft fl:FuncId} (h:Has P f (s5 ft fl)) (z:Int) (n:Nat) (hz:z.natAbs=n) (hn:n<ay) (h0:n≠0) (b:Int) (ht:VP P G ft [W n] (W n)) (hl:VP P G fl [.int .u32 (n:Int)] (.int .i64 b)) (yr:IntKind.i64.wrap (0+b)=b):VP P G f [IV z] (.int .i64 b):=by
 subst hz
 rw [Qr hn h0] at ht
 exact VP.tr h [hv 5 (Qr hn h0),hc ht,hc hl,hw 21 yr] (by kernel_rfl)
theorem Qs {f fg fb fh ft fd fp fa fc fs:FuncId} (h:Has P f (pJ fg fb fh ft fd fp fa fc fs)) (h1:VP P G fg [IV 16] (.int .i64 1)) (h2:VP P G fb [IV 16] (.int .i64 5)) (h3:VP P G fh [.int .i64 3] (W 8)) (h4:VP P G ft [W 16] (W 16)) (h5:∀ n,n≠0->n<100->VP P G fd [W 16,W n] (.tup [W (16/n),W (16%n)])) (h6:∀ m n,m<100->n<100->VP P G fp [W m,W n] (W (m+n))) (h7:∀ n,n<100->VP P G fa [W n] (W (n/2))) (h8:∀ m n,m<100->n<100->VP P G fc [W m,W n] (.int .i64 (eM m n))) (h9:VP P G fs [.bool false,W 4] (IV 4)):VP P G f [IV 16] (.tup [IV 4, .int .i64 0]) :=
 VP.tr h [hc h1,hc h2,hc h3,hc h4,hc (h5 8 (by decide) (by decide)),hc (h6 8 2 (by decide) (by decide)),hc (h7 10 (by decide)),hc (h8 5 8 (by decide) (by decide)),hc h4,hc (h5 5 (by decide) (by decide)),hc (h6 5 3 (by decide) (by decide)),hc (h7 8 (by decide)),hc (h8 4 5 (by decide) (by decide)),hc h4,hc (h5 4 (by decide) (by decide)),hc (h6 4 4 (by decide) (by decide)),hc (h7 8 (by decide)),hc (h8 4 4 (by decide) (by decide)),hc h9] (by kernel_rfl)
theorem UA {f fg fb fh ft fd fp fa fc fs:FuncId} (h:Has P f (pJ fg fb fh ft fd fp fa fc fs)) (h1:VP P G fg [IV 1] (.int .i64 1)) (h2:VP P G fb [IV 1] (.int .i64 1)) (h3:VP P G fh [.int .i64 1] (W 2)) (h4:VP P G ft [W 1] (W 1)) (h5:∀ n,n≠0->n<100->VP P G fd [W 1,W n] (.tup [W (1/n),W (1%n)])) (h6:∀ m n,m<100->n<100->VP P G fp [W m,W n] (W (m+n))) (h7:∀ n,n<100->VP P G fa [W n] (W (n/2))) (h8:∀ m n,m<100->n<100->VP P G fc [W m,W n] (.int .i64 (eM m n))) (h9:VP P G fs [.bool false,W 1] (IV 1)):VP P G f [IV 1] (.tup [IV 1, .int .i64 0]) :=
 VP.tr h [hc h1,hc h2,hc h3,hc h4,hc (h5 2 (by decide) (by decide)),hc (h6 2 0 (by decide) (by decide)),hc (h7 2 (by decide)),hc (h8 1 2 (by decide) (by decide)),hc h4,hc (h5 1 (by decide) (by decide)),hc (h6 1 1 (by decide) (by decide)),hc (h7 2 (by decide)),hc (h8 1 1 (by decide) (by decide)),hc h9] (by kernel_rfl)
end
end Go.VL
end

section
set_option maxRecDepth 100000
namespace Go.Proofs.YtndoagbiakehnaaGreat
open Go.VL Go.Proofs Go.Lib
theorem smq (q:Rat) (h:(decide (q.num.natAbs<4294967296)&&decide (q.den<4294967296))=true):Sm 5000 q:=by
 simp only [Bool.and_eq_true,decide_eq_true_eq] at h
 exact ⟨Nat.le_trans (dH (k:=1) (by rw [Nat.pow_one];exact h.1)) (by decide),Nat.le_trans (dH (k:=1) (by rw [Nat.pow_one];exact h.2)) (by decide)⟩
def qB (q:Rat):Bool:=decide (q.num.natAbs<4294967296)&&decide (q.den<4294967296)
def vB (v:Q2):Bool:=qB v.1&&qB v.2
theorem UZ {q:Rat} (h:qB q=true):Sm 5000 q:=smq q h
theorem Gq {v:Q2} (h:vB v=true):bR 5000 v:=by
 unfold vB at h
 simp only [Bool.and_eq_true] at h
 exact ⟨UZ h.1,UZ h.2⟩
theorem smL {q:Rat} (h:Sm 5000 q):Sm 100000 q:=h.mono (by omega)
section
variable (G:Nat->Option (List AV))
theorem acN (a:Rat) (ha:Sm 100000 a):VP Tryz.prog G 203 [EV a] (EV (-a)):=aaa Cb a (ais G a ha)
theorem amL (a:Rat) (ha:Sm 100000 a):VP Tryz.prog G 148 [.nils,EV a] (EV (-a)):=aac Jk a (tF G a ha) (acN G a ha)
theorem amM (a b:Rat) (ha:Sm 100000 a) (hb:Sm 100000 b):VP Tryz.prog G 157 [.nils,EV a,EV b] (EV (a-b)):=aab Ce a b (tf G a b ha hb) (acN G b hb) (Z9 nK a (-b) (Us G a (-b) ha hb.neg))
theorem sm1:Sm 100000 (1:Rat):=smL (UZ (by decide +kernel))
theorem aeS (a:Rat) (W6:a≠0) (ha:Sm 100000 a):VP Tryz.prog G 207 [.nils,EV a] (.tup [EV (1/a), .int .i64 0]):=aad Cf a (tF G a ha) (Of pK a (Iv G 1 (by decide) (by decide)) (aiv G 1 a W6 sm1 ha))
theorem XO (a b:Rat) (ha:Sm 100000 a) (hb:Sm 100000 b):VP Tryz.prog G 88 [NV a,NV b] (.tup [NV (a-b), .int .i64 0]):=aag HU a b _ (Qa iS a b _ (acJ G a b ha hb) (amM G a b ha hb))
theorem OT (a:Rat) (ha:Sm 100000 a):VP Tryz.prog G 81 [NV a] (NV (-a)):=aah HV a (aeH G a ha) (amL G a ha)
theorem amN (a b:Rat) (Gl:b≠0) (ha:Sm 5000 a) (hb:Sm 5000 b):VP Tryz.prog G 153 [NV a,NV b] (.tup [NV (a*(1/b)), .int .i64 0]):=aai mH a b _ (aeS G b Gl (smL hb)) (L1 G a (1/b) (smL ha) ((Sm.div (UZ (by decide +kernel):Sm 5000 1) hb (by omega)).mono (by omega)))
theorem aiR:VP Tryz.prog G 234 [.nils] (.bool true):=aak Ch (Iv G 0 (by decide) (by decide)) (Oi uo 0 (trd G) (LZ G 0 (smL (UZ (by decide +kernel)))) rI (Iv G 0 (by decide) (by decide))) (tF G 0 (smL (UZ (by decide +kernel))))
theorem OU (a:Rat) (ha:Sm 100000 a):VP Tryz.prog G 146 [.nils,EV a] (.int .i64 (aZ a)):=W9 Ci a (aaj Cg a (tF G a ha) (aiR G)) (W8 j7 a (Ky G a ha))
theorem acO (a:Rat) (ha:Sm 100000 a):VP Tryz.prog G 80 [NV a] (.int .i64 (aZ a)):=W7 yG a (OU G a ha)
theorem nEq (a b:Rat) (ha:Sm 100000 a) (hb:Sm 100000 b):VP Tryz.prog G 140 [NV a,NV b] (.bool (decide (a=b))):=Uc E8 a b (Uu G) (Sk pL a b (Sl dF a b (Og nL a b (ait G a b ha hb))))
theorem IE {n:Nat} (h:n<100):aa n<=1:=dH (by rw [Nat.pow_one];unfold ay;omega)
theorem amO (b:Nat) (h:gg 16=b):VP Tryz.prog G 318 [.int .u32 16] (.int .i64 (b:Int)):=by rw [<- h];exact DW jO 16 (by decide)
theorem aaI:VP Tryz.prog G 316 [IV 16] (.tup [IV 4, .int .i64 0]):=Qs qM (XC G 16 (Nat.le_trans (IE (n:=16) (by decide)) (by decide))) (OS qN 16 16 rfl (by decide) (by decide) 5 (ng (t145 G) 16 (by have:=IE (n:=16) (by decide);omega)) (amO G 5 (by decide +kernel)) (by decide)) (OQ nA) (ng (t145 G) 16 (by have:=IE (n:=16) (by decide);omega))
 (fun n h0 hn=>d164 G 16 n h0 (by have:=IE (n:=16) (by decide);omega) (by have:=IE hn;omega)) (fun m n hm hn=>Xz G m n (by have:=IE hm;omega) (by have:=IE hn;omega)) (fun n hn=>L4 qO iz (t145 G) n (by have:=IE hn;omega)) (fun m n hm hn=>Uq G m n (by have:=IE hm;omega) (by have:=IE hn;omega)) (LY G false 4 (by have:=IE (n:=4) (by decide);omega))
end
end Go.Proofs.YtndoagbiakehnaaGreat
end

section
set_option maxRecDepth 100000
namespace Go.Proofs.YtndoagbiakehnaaGreat
open Go.VL Go.Proofs Go.Lib
section
variable (G:Nat->Option (List AV))
theorem amP (b:Nat) (h:gg 1=b):VP Tryz.prog G 318 [.int .u32 1] (.int .i64 (b:Int)):=by rw [<- h];exact DW jO 1 (by decide)
theorem aeT:VP Tryz.prog G 316 [IV 1] (.tup [IV 1, .int .i64 0]):=UA qM (XC G 1 (Nat.le_trans (IE (n:=1) (by decide)) (by decide))) (OS qN 1 1 rfl (by decide) (by decide) 1 (ng (t145 G) 1 (by have:=IE (n:=1) (by decide);omega)) (amP G 1 (by decide +kernel)) (by decide)) (OR nA) (ng (t145 G) 1 (by have:=IE (n:=1) (by decide);omega))
 (fun n h0 hn=>d164 G 1 n h0 (by have:=IE (n:=1) (by decide);omega) (by have:=IE hn;omega)) (fun m n hm hn=>Xz G m n (by have:=IE hm;omega) (by have:=IE hn;omega)) (fun n hn=>L4 qO iz (t145 G) n (by have:=IE hn;omega)) (fun m n hm hn=>Uq G m n (by have:=IE hm;omega) (by have:=IE hn;omega)) (LY G false 1 (by have:=IE (n:=1) (by decide);omega))
theorem w4 {z:Int} (h:z.natAbs<100):aa z.natAbs<=400000:=Nat.le_trans (IE h) (by decide)
theorem aaJ:VP Tryz.prog G 302 [IV 16] (.tup [IV 4, .bool true]):=OP p4 16 4 (aaI G) (Ur G 4 4 (w4 (by decide)) (w4 (by decide))) (aey G 16 16 (w4 (by decide)) (w4 (by decide)))
theorem aeU:VP Tryz.prog G 302 [IV 1] (.tup [IV 1, .bool true]):=OP p4 1 1 (aeT G) (Ur G 1 1 (w4 (by decide)) (w4 (by decide))) (aey G 1 1 (w4 (by decide)) (w4 (by decide)))
theorem aaK:VP Tryz.prog G 287 [QV 16] (.tup [QV 4, .bool true]):=OO lT 16 1 4 1 (aaJ G) (aeU G)
theorem sB {q:Rat} (h:qB q=true):Sm 100000 q:=smL (UZ h)
theorem sgB {q:Rat} {s:Int} (h:qB q=true) (e:aZ q=s):VP Tryz.prog G 146 [.nils,EV q] (.int .i64 s):=e▸OU G q (sB h)
theorem aaL:VP Tryz.prog G 151 [NV 16] (.tup [NV 4, .int .i64 0]):=OM rK 16 4 (Kz rL 16 4 (tF G 16 (sB (by decide +kernel))) (Bd qL) (sgB G (by decide +kernel) (by decide +kernel)) (FV pZ 16 4 (IC rM 16 4 (aaK G)) (sgB G (by decide +kernel) (by decide +kernel))) (IB tj))
 (ID lN 4 (Ba im 4 (Iw G 4 (sB (by decide +kernel)))))
theorem OV (a:Rat):bu Tryz.prog G 78 [NV a, .int .i64 0] (NV a):=aaE mK a
theorem XP (a b c:Q2) (h:bf a b=c:=by decide +kernel) (h1:(vB a&&vB b)=true:=by decide +kernel):bu Tryz.prog G 77 [V2 a,V2 b] (V2 c):=by
 simp only [Bool.and_eq_true] at h1
 have s1:=(Gq h1.1).mono (k:=100000) (by omega)
 have s2:=(Gq h1.2).mono (k:=100000) (by omega)
 subst h
 exact GC jn a b _ (Sq A1 a b _ (D5 jf a b _ (XO G _ _ s1.1 s2.1) (XO G _ _ s1.2 s2.2))) (Bu dw)
theorem KB (a b c:Q2) (h:nh a b=c:=by decide +kernel) (h1:(vB a&&vB b)=true:=by decide +kernel):bu Tryz.prog G 89 [V2 a,V2 b] (V2 c):=by
 simp only [Bool.and_eq_true] at h1
 subst h;exact amF G a b (Gq h1.1) (Gq h1.2)
theorem kSc (a c:Q2) (n:Rat) (h:mN a n=c:=by decide +kernel) (h1:(vB a&&qB n)=true:=by decide +kernel):bu Tryz.prog G 90 [V2 a,NV n] (V2 c):=by
 simp only [Bool.and_eq_true] at h1
 subst h;exact aeI G a n (Gq h1.1) (UZ h1.2)
theorem aaM (a b c:Rat) (h:a*b=c:=by decide +kernel) (h1:(qB a&&qB b)=true:=by decide +kernel):bu Tryz.prog G 84 [NV a,NV b] (NV c):=by
 simp only [Bool.and_eq_true] at h1
 subst h;exact aaF A2 a b _ (L1 G a b (sB h1.1) (sB h1.2)) (OV G)
theorem OW (a b c:Rat) (h:a*(1/b)=c:=by decide +kernel) (h0:b≠0:=by decide +kernel) (h1:(qB a&&qB b)=true:=by decide +kernel):bu Tryz.prog G 85 [NV a,NV b] (NV c):=by
 simp only [Bool.and_eq_true] at h1
 subst h;exact aaG rn a b _ (amN G a b h0 (UZ h1.1) (UZ h1.2)) (OV G)
theorem kAd (a b c:Rat) (h:a+b=c:=by decide +kernel) (h1:(qB a&&qB b)=true:=by decide +kernel):VP Tryz.prog G 86 [NV a,NV b] (.tup [NV c, .int .i64 0]):=by
 simp only [Bool.and_eq_true] at h1
 subst h;exact Uv G a b (sB h1.1) (sB h1.2)
theorem kSb (a b c:Rat) (h:a-b=c:=by decide +kernel) (h1:(qB a&&qB b)=true:=by decide +kernel):VP Tryz.prog G 88 [NV a,NV b] (.tup [NV c, .int .i64 0]):=by
 simp only [Bool.and_eq_true] at h1
 subst h;exact XO G a b (sB h1.1) (sB h1.2)
theorem aaN (a b:Q2) (c:Rat) (h:nV a b=c:=by decide +kernel) (h1:(vB a&&vB b&&qB (a.1*b.1)&&qB (a.2*b.2))=true:=by decide +kernel):VP Tryz.prog G 87 [V2 a,V2 b] (.tup [NV c, .int .i64 0]):=by
 simp only [Bool.and_eq_true] at h1
 obtain ⟨⟨⟨a1,a2⟩,a3⟩,a4⟩:=h1
 have s1:=(Gq a1).mono (k:=100000) (by omega)
 have s2:=(Gq a2).mono (k:=100000) (by omega)
 subst h
 exact SF A3 a b (D5 jf a b (a.1*b.1,a.2*b.2) (L1 G _ _ s1.1 s2.1) (L1 G _ _ s1.2 s2.2)) (Uv G _ _ (sB a3) (sB a4))
theorem XQ (a:Q2) (h:nV a a=16:=by decide +kernel) (h1:(vB a&&vB a&&qB (a.1*a.1)&&qB (a.2*a.2))=true:=by decide +kernel):VP Tryz.prog G 83 [V2 a] (.tup [NV 4, .int .i64 0]) :=
 aaH pY a 4 (IA ur a (aaN G a a _ rfl h1)) (h▸aaL G)
theorem acP (a:Q2) (h1:vB a=true:=by decide +kernel):VP Tryz.prog G 131 [V2 a] (V2 (-a.2,a.1)):=by
 have s1:=(Gq h1).mono (k:=100000) (by omega)
 have hn:=OT G (-a.1) s1.1.neg
 rw [Rat.neg_neg] at hn
 exact OK yH a (OT G _ s1.2) (OJ uu _ (OT G _ s1.1) hn)
theorem kCr (a b c:Q2) (r:Rat) (e:(-a.2,a.1)=c:=by decide +kernel) (h:nV c b=r:=by decide +kernel) (h0:vB a=true:=by decide +kernel) (h1:(vB c&&vB b&&qB (c.1*b.1)&&qB (c.2*b.2))=true:=by decide +kernel):VP Tryz.prog G 79 [V2 a,V2 b] (.tup [NV r, .int .i64 0]):=Uy Fa a b c r (e▸acP G a h0) (aaN G c b r h h1)
theorem kSg (q:Rat) (s:Int) (e:aZ q=s:=by decide +kernel) (h:qB q=true:=by decide +kernel):VP Tryz.prog G 80 [NV q] (.int .i64 s):=e▸acO G q (sB h)
theorem kFr (q:Rat) (h:qB q=true:=by decide +kernel):VP Tryz.prog G 82 [QV q] (NV q):=Ut G q (sB h)
theorem kEq (a b:Q2) (r:Bool) (e:decide (a=b)=r:=by decide +kernel) (h1:(vB a&&vB b)=true:=by decide +kernel):VP Tryz.prog G 75 [V2 a,V2 b] (.bool r):=by
 simp only [Bool.and_eq_true] at h1
 have s1:=(Gq h1.1).mono (k:=100000) (by omega)
 have s2:=(Gq h1.2).mono (k:=100000) (by omega)
 exact e▸Uz E9 a b (nEq G _ _ s1.1 s2.1) (nEq G _ _ s1.2 s2.2)
theorem kQs (q:Rat) (s:Int) (e:aZ q=s:=by decide +kernel) (h:qB q=true:=by decide +kernel):VP Tryz.prog G 32 [QV q] (.int .i64 s):=e▸Ky G q (sB h)
end
end Go.Proofs.YtndoagbiakehnaaGreat
end
