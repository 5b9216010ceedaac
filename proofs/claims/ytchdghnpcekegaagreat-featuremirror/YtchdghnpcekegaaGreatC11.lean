/- For the claim of FeatureMirror: parts VL38, VL39, VL40, PUI, CQN, CQR, MI1, MI2, QVL, MJ1, MJ2, CQS, MJ3, CS1, CS2, MA1, MA2, MA3. -/
import Derived.Test.YtchdghnpcekegaaGreatC05
import Derived.Test.YtchdghnpcekegaaGreatC10
import Derived.Test.YtchdghnpcekegaaGreatC07
import Derived.Test.YtchdghnpcekegaaGreatC03
import Derived.KernelRfl
import Derived.Test.YtchdghnpcekegaaGreatC08
set_option linter.unusedSimpArgs false
set_option linter.unusedVariables false
section
namespace Go.VL
mutual
def AV.dT (ρ : Id->Id):AV->AV
 | .fn f a c => .fn f (b9 ρ a) (b9 ρ c)
 | .agg cs => .agg (b9 ρ cs)
 | .tup cs => .tup (b9 ρ cs)
 | .sl k es => .sl k (b9 ρ es)
 | .tsl k es => .tsl k (b9 ρ es)
 | .osl i k o l t => .osl (ρ i) k o l t
 | .ref i e o => .ref (ρ i) e o
 | .ep cs o => .ep (b9 ρ cs) o
 | .bool b => .bool b
 | .int k n => .int k n
 | .str l => .str l
 | .nilp => .nilp
 | .nilf => .nilf
 | .nils => .nils
 | .top => .top
 | .anyb => .anyb
 | .ige n => .ige n
def b9 (ρ : Id->Id):List AV->List AV
 | []=>[]
 | c::cs=>c.dT ρ :: b9 ρ cs
end
def cZ.dT (ρ : Id->Id) (b:cZ):cZ:=⟨b9 ρ b.els,b.k,b.fr⟩
section
variable {ρ : Id->Id}
theorem ja:∀ {cs:List AV},b9 ρ cs=cs.map (AV.dT ρ)
 | []=>rfl
 | c::cs=>by simp only [b9,List.map_cons,ja (cs:=cs)]
theorem iB {cs:List AV}:(b9 ρ cs).length=cs.length:=by rw [ja,List.length_map]
theorem AJ (c:AV):(c.dT ρ).cells=b9 ρ c.cells:=by cases c<;>rfl
theorem Nt (c:AV):(c.dT ρ).size=c.size:=by unfold AV.size;rw [AJ,iB]
theorem qj {xs ys:List AV}:b9 ρ (xs++ys)=b9 ρ xs++b9 ρ ys:=by simp only [ja,List.map_append]
theorem HW:∀ {es:List AV},flat (b9 ρ es)=b9 ρ (flat es)
 | []=>rfl
 | e::es=>by
   have h1:flat (e::es)=e.cells++flat es:=by simp [flat]
   have h2:flat (b9 ρ (e::es))=(e.dT ρ).cells++flat (b9 ρ es):=by simp [flat,b9]
   rw [h1,h2,AJ,qj,HW (es:=es)]
theorem EK {k:Nat} {es:List AV} (h:∀ e∈es,e.size=k):∀ e∈b9 ρ es,e.size=k:=by
 intro e he;rw [ja] at he;obtain ⟨x,hx,rfl⟩:=List.mem_map.1 he;rw [Nt];exact h x hx
theorem B8 {k:Nat} {es:List AV} (h:∀ e∈b9 ρ es,e.size=k):∀ e∈es,e.size=k:=by
 intro e he;rw [<- Nt (ρ := ρ)];exact h _ (by rw [ja];exact List.mem_map.2 ⟨e,he,rfl⟩)
mutual
theorem aT.dT {E E':Env} {w:World} (hμ : ∀ i x,E.μ i=some x->E'.μ (ρ i)=some x) (ic:∀ b,E.ok b->E'.ok b):∀ (c:AV) (v:Value),aT E w c v->aT E' w (c.dT ρ) v
 | .bool _,_,r=>by simpa [aT,AV.dT] using r
 | .int _ _,_,r=>by simpa [aT,AV.dT] using r
 | .str _,_,r=>by simpa [aT,AV.dT] using r
 | .nilp,_,r=>by simpa [aT,AV.dT] using r
 | .nilf,_,r=>by simpa [aT,AV.dT] using r
 | .nils,_,r=>by simpa [aT,AV.dT] using r
 | .top,_,_=>by simp [aT,AV.dT]
 | .anyb,_,r=>by simpa [aT,AV.dT] using r
 | .ige _,_,r=>by simpa [aT,AV.dT] using r
 | .fn f a c,v,r=>by
   simp only [aT,AV.dT] at r ⊢
   obtain ⟨xs,ys,e,ra,rc⟩:=r
   exact ⟨xs,ys,e,bc.dT hμ ic a _ ra,bc.dT hμ ic c _ rc⟩
 | .agg cs,v,r=>by
   simp only [aT,AV.dT] at r ⊢
   obtain ⟨xs,e,ra⟩:=r
   exact ⟨xs,e,bc.dT hμ ic cs _ ra⟩
 | .tup cs,v,r=>by
   simp only [aT,AV.dT] at r ⊢
   obtain ⟨xs,e,ra⟩:=r
   exact ⟨xs,e,bc.dT hμ ic cs _ ra⟩
 | .sl k es,v,r=>by
   simp only [aT,AV.dT] at r ⊢
   obtain ⟨a,cap,e,h1,h2,hk,h3⟩:=r
   refine ⟨a,cap,by rw [iB];exact e,by rw [iB];exact h1,h2,EK hk,h3.imp (fun h=>by rw [h];rfl) ?_⟩
   rintro ⟨b,o,ea,hb,hr⟩
   exact ⟨b,o,ea,ic b hb,bm.dT hμ ic es o hr⟩
 | .tsl k es,v,r=>by
   simp only [aT,AV.dT] at r ⊢
   obtain ⟨a,e,h2,hk,h3⟩:=r
   refine ⟨a,by rw [iB];exact e,by rw [iB];exact h2,EK hk,h3.imp (fun h=>by rw [h];rfl) ?_⟩
   rintro ⟨b,o,ea,hb,hr⟩
   exact ⟨b,o,ea,ic b hb,bm.dT hμ ic es o hr⟩
 | .osl id k off len t,v,r=>by
   simp only [aT,AV.dT] at r ⊢
   obtain ⟨g,N,cap,hm,rest⟩:=r
   exact ⟨g,N,cap,hμ _ _ hm,rest⟩
 | .ref id e o,v,r=>by
   simp only [aT,AV.dT] at r ⊢
   obtain ⟨g,k,N,hm,rest⟩:=r
   exact ⟨g,k,N,hμ _ _ hm,rest⟩
 | .ep cs o,v,r=>by
   simp only [aT,AV.dT] at r ⊢
   obtain ⟨b,p,e,hb,hr⟩:=r
   exact ⟨b,p,e,ic b hb,bp.dT hμ ic cs p hr⟩
theorem bc.dT {E E':Env} {w:World} (hμ : ∀ i x,E.μ i=some x->E'.μ (ρ i)=some x) (ic:∀ b,E.ok b->E'.ok b):∀ (cs:List AV) (vs:List Value),bc E w cs vs->bc E' w (b9 ρ cs) vs
 | [],_,r=>by simpa [bc,b9] using r
 | c::cs,vs,r=>by
   simp only [bc,b9] at r ⊢
   obtain ⟨v,rest,e,r1,r2⟩:=r
   exact ⟨v,rest,e,aT.dT hμ ic c v r1,bc.dT hμ ic cs rest r2⟩
theorem bm.dT {E E':Env} {w:World} (hμ : ∀ i x,E.μ i=some x->E'.μ (ρ i)=some x) (ic:∀ b,E.ok b->E'.ok b) {b:Nat}:∀ (es:List AV) (o:Nat),bm E w b o es->bm E' w b o (b9 ρ es)
 | [],_,_=>by simp [bm,b9]
 | .agg cs::es,o,r=>by
   simp only [bm,b9,AV.dT,iB] at r ⊢
   exact ⟨bp.dT hμ ic cs o r.1,bm.dT hμ ic es _ r.2⟩
 | .bool _::es,o,r | .int _ _::es,o,r | .str _::es,o,r | .nilp::es,o,r | .nilf::es,o,r | .nils::es,o,r | .top::es,o,r | .anyb::es,o,r | .ige _::es,o,r | .fn _ _ _::es,o,r
 | .tup _::es,o,r | .sl _ _::es,o,r | .tsl _ _::es,o,r | .osl _ _ _ _ _::es,o,r | .ref _ _ _::es,o,r | .ep _ _::es,o,r=>by
   simp only [bm,b9,AV.dT] at r ⊢
   obtain ⟨⟨v,hv,hr⟩,r2⟩:=r
   have:=aT.dT hμ ic _ v hr
   simp only [AV.dT] at this
   exact ⟨⟨v,hv,this⟩,bm.dT hμ ic es _ r2⟩
theorem bp.dT {E E':Env} {w:World} (hμ : ∀ i x,E.μ i=some x->E'.μ (ρ i)=some x) (ic:∀ b,E.ok b->E'.ok b) {b:Nat}:∀ (cs:List AV) (o:Nat),bp E w b o cs->bp E' w b o (b9 ρ cs)
 | [],_,_=>by simp [bp,b9]
 | c::cs,o,r=>by
   simp only [bp,b9] at r ⊢
   obtain ⟨⟨v,hv,hr⟩,r2⟩:=r
   exact ⟨⟨v,hv,aT.dT hμ ic c v hr⟩,bp.dT hμ ic cs _ r2⟩
end
mutual
theorem aT.dA {E E':Env} {w:World} (hμ : ∀ i x,E'.μ (ρ i)=some x->E.μ i=some x) (ic:∀ b,E'.ok b->E.ok b):∀ (c:AV) (v:Value),aT E' w (c.dT ρ) v->aT E w c v
 | .bool _,_,r=>by simpa [aT,AV.dT] using r
 | .int _ _,_,r=>by simpa [aT,AV.dT] using r
 | .str _,_,r=>by simpa [aT,AV.dT] using r
 | .nilp,_,r=>by simpa [aT,AV.dT] using r
 | .nilf,_,r=>by simpa [aT,AV.dT] using r
 | .nils,_,r=>by simpa [aT,AV.dT] using r
 | .top,_,_=>by simp [aT]
 | .anyb,_,r=>by simpa [aT,AV.dT] using r
 | .ige _,_,r=>by simpa [aT,AV.dT] using r
 | .fn f a c,v,r=>by
   simp only [aT,AV.dT] at r ⊢
   obtain ⟨xs,ys,e,ra,rc⟩:=r
   exact ⟨xs,ys,e,bc.dA hμ ic a _ ra,bc.dA hμ ic c _ rc⟩
 | .agg cs,v,r=>by
   simp only [aT,AV.dT] at r ⊢
   obtain ⟨xs,e,ra⟩:=r
   exact ⟨xs,e,bc.dA hμ ic cs _ ra⟩
 | .tup cs,v,r=>by
   simp only [aT,AV.dT] at r ⊢
   obtain ⟨xs,e,ra⟩:=r
   exact ⟨xs,e,bc.dA hμ ic cs _ ra⟩
 | .sl k es,v,r=>by
   simp only [aT,AV.dT,iB] at r ⊢
   obtain ⟨a,cap,e,h1,h2,hk,h3⟩:=r
   refine ⟨a,cap,e,h1,h2,B8 hk,h3.imp (fun h=>by have:=congrArg List.length h;rw [iB] at this;exact List.length_eq_zero_iff.1 this) ?_⟩
   rintro ⟨b,o,ea,hb,hr⟩
   exact ⟨b,o,ea,ic b hb,bm.dA hμ ic es o hr⟩
 | .tsl k es,v,r=>by
   simp only [aT,AV.dT,iB] at r ⊢
   obtain ⟨a,e,h2,hk,h3⟩:=r
   refine ⟨a,e,h2,B8 hk,h3.imp (fun h=>by have:=congrArg List.length h;rw [iB] at this;exact List.length_eq_zero_iff.1 this) ?_⟩
   rintro ⟨b,o,ea,hb,hr⟩
   exact ⟨b,o,ea,ic b hb,bm.dA hμ ic es o hr⟩
 | .osl id k off len t,v,r=>by
   simp only [aT,AV.dT] at r ⊢
   obtain ⟨g,N,cap,hm,rest⟩:=r
   exact ⟨g,N,cap,hμ _ _ hm,rest⟩
 | .ref id e o,v,r=>by
   simp only [aT,AV.dT] at r ⊢
   obtain ⟨g,k,N,hm,rest⟩:=r
   exact ⟨g,k,N,hμ _ _ hm,rest⟩
 | .ep cs o,v,r=>by
   simp only [aT,AV.dT] at r ⊢
   obtain ⟨b,p,e,hb,hr⟩:=r
   exact ⟨b,p,e,ic b hb,bp.dA hμ ic cs p hr⟩
theorem bc.dA {E E':Env} {w:World} (hμ : ∀ i x,E'.μ (ρ i)=some x->E.μ i=some x) (ic:∀ b,E'.ok b->E.ok b):∀ (cs:List AV) (vs:List Value),bc E' w (b9 ρ cs) vs->bc E w cs vs
 | [],_,r=>by simpa [bc,b9] using r
 | c::cs,vs,r=>by
   simp only [bc,b9] at r ⊢
   obtain ⟨v,rest,e,r1,r2⟩:=r
   exact ⟨v,rest,e,aT.dA hμ ic c v r1,bc.dA hμ ic cs rest r2⟩
theorem bm.dA {E E':Env} {w:World} (hμ : ∀ i x,E'.μ (ρ i)=some x->E.μ i=some x) (ic:∀ b,E'.ok b->E.ok b) {b:Nat}:∀ (es:List AV) (o:Nat),bm E' w b o (b9 ρ es)->bm E w b o es
 | [],_,_=>by simp [bm]
 | .agg cs::es,o,r=>by
   simp only [bm,b9,AV.dT,iB] at r ⊢
   exact ⟨bp.dA hμ ic cs o r.1,bm.dA hμ ic es _ r.2⟩
 | .bool b1::es,o,r=>by simp only [bm,b9,AV.dT] at r ⊢;obtain ⟨⟨v,hv,hr⟩,r2⟩:=r;exact ⟨⟨v,hv,aT.dA hμ ic (.bool b1) v hr⟩,bm.dA hμ ic es _ r2⟩
 | .int a1 a2::es,o,r=>by simp only [bm,b9,AV.dT] at r ⊢;obtain ⟨⟨v,hv,hr⟩,r2⟩:=r;exact ⟨⟨v,hv,aT.dA hμ ic (.int a1 a2) v hr⟩,bm.dA hμ ic es _ r2⟩
 | .str a1::es,o,r=>by simp only [bm,b9,AV.dT] at r ⊢;obtain ⟨⟨v,hv,hr⟩,r2⟩:=r;exact ⟨⟨v,hv,aT.dA hμ ic (.str a1) v hr⟩,bm.dA hμ ic es _ r2⟩
 | .nilp::es,o,r=>by simp only [bm,b9,AV.dT] at r ⊢;obtain ⟨⟨v,hv,hr⟩,r2⟩:=r;exact ⟨⟨v,hv,aT.dA hμ ic .nilp v hr⟩,bm.dA hμ ic es _ r2⟩
 | .nilf::es,o,r=>by simp only [bm,b9,AV.dT] at r ⊢;obtain ⟨⟨v,hv,hr⟩,r2⟩:=r;exact ⟨⟨v,hv,aT.dA hμ ic .nilf v hr⟩,bm.dA hμ ic es _ r2⟩
 | .nils::es,o,r=>by simp only [bm,b9,AV.dT] at r ⊢;obtain ⟨⟨v,hv,hr⟩,r2⟩:=r;exact ⟨⟨v,hv,aT.dA hμ ic .nils v hr⟩,bm.dA hμ ic es _ r2⟩
 | .top::es,o,r=>by simp only [bm,b9,AV.dT] at r ⊢;obtain ⟨⟨v,hv,hr⟩,r2⟩:=r;exact ⟨⟨v,hv,aT.dA hμ ic .top v hr⟩,bm.dA hμ ic es _ r2⟩
 | .anyb::es,o,r=>by simp only [bm,b9,AV.dT] at r ⊢;obtain ⟨⟨v,hv,hr⟩,r2⟩:=r;exact ⟨⟨v,hv,aT.dA hμ ic .anyb v hr⟩,bm.dA hμ ic es _ r2⟩
 | .ige a1::es,o,r=>by simp only [bm,b9,AV.dT] at r ⊢;obtain ⟨⟨v,hv,hr⟩,r2⟩:=r;exact ⟨⟨v,hv,aT.dA hμ ic (.ige a1) v hr⟩,bm.dA hμ ic es _ r2⟩
 | .fn a1 a2 a3::es,o,r=>by simp only [bm,b9,AV.dT] at r ⊢;obtain ⟨⟨v,hv,hr⟩,r2⟩:=r;exact ⟨⟨v,hv,aT.dA hμ ic (.fn a1 a2 a3) v (by simpa only [AV.dT] using hr)⟩,bm.dA hμ ic es _ r2⟩
 | .tup a1::es,o,r=>by simp only [bm,b9,AV.dT] at r ⊢;obtain ⟨⟨v,hv,hr⟩,r2⟩:=r;exact ⟨⟨v,hv,aT.dA hμ ic (.tup a1) v (by simpa only [AV.dT] using hr)⟩,bm.dA hμ ic es _ r2⟩
 | .sl a1 a2::es,o,r=>by simp only [bm,b9,AV.dT] at r ⊢;obtain ⟨⟨v,hv,hr⟩,r2⟩:=r;exact ⟨⟨v,hv,aT.dA hμ ic (.sl a1 a2) v (by simpa only [AV.dT] using hr)⟩,bm.dA hμ ic es _ r2⟩
 | .tsl a1 a2::es,o,r=>by simp only [bm,b9,AV.dT] at r ⊢;obtain ⟨⟨v,hv,hr⟩,r2⟩:=r;exact ⟨⟨v,hv,aT.dA hμ ic (.tsl a1 a2) v (by simpa only [AV.dT] using hr)⟩,bm.dA hμ ic es _ r2⟩
 | .osl a1 a2 a3 a4 a5::es,o,r=>by simp only [bm,b9,AV.dT] at r ⊢;obtain ⟨⟨v,hv,hr⟩,r2⟩:=r;exact ⟨⟨v,hv,aT.dA hμ ic (.osl a1 a2 a3 a4 a5) v (by simpa only [AV.dT] using hr)⟩,bm.dA hμ ic es _ r2⟩
 | .ref a1 a2 a3::es,o,r=>by simp only [bm,b9,AV.dT] at r ⊢;obtain ⟨⟨v,hv,hr⟩,r2⟩:=r;exact ⟨⟨v,hv,aT.dA hμ ic (.ref a1 a2 a3) v (by simpa only [AV.dT] using hr)⟩,bm.dA hμ ic es _ r2⟩
 | .ep a1 a2::es,o,r=>by simp only [bm,b9,AV.dT] at r ⊢;obtain ⟨⟨v,hv,hr⟩,r2⟩:=r;exact ⟨⟨v,hv,aT.dA hμ ic (.ep a1 a2) v (by simpa only [AV.dT] using hr)⟩,bm.dA hμ ic es _ r2⟩
theorem bp.dA {E E':Env} {w:World} (hμ : ∀ i x,E'.μ (ρ i)=some x->E.μ i=some x) (ic:∀ b,E'.ok b->E.ok b) {b:Nat}:∀ (cs:List AV) (o:Nat),bp E' w b o (b9 ρ cs)->bp E w b o cs
 | [],_,_=>by simp [bp]
 | c::cs,o,r=>by
   simp only [bp,b9] at r ⊢
   obtain ⟨⟨v,hv,hr⟩,r2⟩:=r
   exact ⟨⟨v,hv,aT.dA hμ ic c v hr⟩,bp.dA hμ ic cs _ r2⟩
end
theorem eT.dT {E E':Env} {w:World} (hμ : ∀ i x,E.μ i=some x->E'.μ (ρ i)=some x) (ic:∀ b,E.ok b->E'.ok b) {b o:Nat} {cs:List AV} (h:eT E w b o cs):eT E' w b o (b9 ρ cs) :=
 eW.1 (bp.dT hμ ic cs o (eW.2 h))
theorem eT.dA {E E':Env} {w:World} (hμ : ∀ i x,E'.μ (ρ i)=some x->E.μ i=some x) (ic:∀ b,E'.ok b->E.ok b) {b o:Nat} {cs:List AV} (h:eT E' w b o (b9 ρ cs)):eT E w b o cs :=
 eW.1 (bp.dA hμ ic cs o (eW.2 h))
end
def m5 (n:Nat) (π : Id) (κ : Nat->Id):Id->Id
 | []=>[]
 | a :: ar=>match ar with
   | []=>match a with | 0 => π | k+1 => κ (k+1)
   | b::bs=>match b,bs with
     | 0,[]=>(n+a) :: π
     | _,_=>a::m5 n π κ ar
theorem n9 {n:Nat} {π : Id} {κ : Nat->Id} {q:Nat}:∀ l:Id,m5 n π κ (l++[q,0])=l++((n+q) :: π)
 | []=>rfl
 | [a]=>by simp [m5]
 | a::b::l=>by
   have:=n9 (n:=n) (π := π) (κ := κ) (q:=q) (b::l)
   simp only [List.cons_append] at this ⊢
   rw [<- this]
   cases h:l++[q,0] with
   | nil=>simp at h
   | cons c cs=>cases b<;>simp [m5]
theorem La {i:Id} (h:[0] <:+ i):i=[0]∨∃ l q,i=l++[q,0]:=by
 obtain ⟨t,rfl⟩:=h
 rcases List.eq_nil_or_concat t with rfl | ⟨l,q,rfl⟩
 . exact .inl rfl
 . exact .inr ⟨l,q,by simp⟩
theorem ZC {n:Nat} {π : Id} {κ : Nat->Id} {i j:Id} (hi:[0] <:+ i) (hj:[0] <:+ j) (h:m5 n π κ i=m5 n π κ j):i=j:=by
 rcases La hi with rfl | ⟨l,q,rfl⟩<;>rcases La hj with rfl | ⟨l',q',rfl⟩
 . rfl
 . rw [n9] at h;have:=congrArg List.length h;simp [m5] at this;omega
 . rw [n9] at h;have:=congrArg List.length h;simp [m5] at this;omega
 . rw [n9,n9] at h
   have hl:l.length=l'.length:=by have:=congrArg List.length h;simp at this;omega
   obtain ⟨h1,h2⟩:=List.append_inj h hl
   simp only [List.cons.injEq,and_true] at h2
   have:q=q':=by omega
   rw [h1,this]
section
variable {P:Program} {G:Nat->Option (List AV)}
open Classical in
noncomputable def Dw (n:Nat) (π : Id) (κ : Nat->Id) (E E0:Env):Env:=⟨fun j=>if h:∃ i,[0] <:+ i/\m5 n π κ i=j then E0.μ h.choose else E.μ j,E0.ok⟩
theorem Fp {n:Nat} {π : Id} {κ : Nat->Id} {E E0:Env} {i:Id} (hi:[0] <:+ i):(Dw n π κ E E0).μ (m5 n π κ i)=E0.μ i:=by
 have hex:∃ i',[0] <:+ i'/\m5 n π κ i'=m5 n π κ i:=⟨i,hi,rfl⟩
 simp only [Dw]
 rw [dif_pos hex]
 exact congrArg E0.μ (ZC hex.choose_spec.1 hi hex.choose_spec.2)
theorem tG {n:Nat} {π : Id} {κ : Nat->Id} {E E0:Env} {j:Id} (h:∀ i,[0] <:+ i->m5 n π κ i≠j):(Dw n π κ E E0).μ j=E.μ j:=by
 simp only [Dw]
 rw [dif_neg];rintro ⟨i,hi,e⟩;exact h i hi e
theorem HX {n:Nat} {π : Id} {κ : Nat->Id} {E:Env} (hf:AL E π n) {i:Id} (hi:[0] <:+ i):E.μ (m5 n π κ i)=none:=by
 rcases La hi with rfl | ⟨l,q,rfl⟩
 . exact hf.self
 . rw [n9];exact hf.at (q:=n+q) (Nat.le_add_right _ _) ⟨l,rfl⟩
def Tv (ρ : Id->Id) (σ0 σ : af):Prop:=(∀ i b, σ0 i=some b -> σ (ρ i)=some (b.dT ρ))/\∀ j, σ j=none∨∃ i b, σ0 i=some b /\ ρ i=j /\ σ j=some (b.dT ρ)
theorem VW.dT {vc:cy} {Q0:bX->VS->Prop} {t0:List AV} {σ0 σ : af} {n:Nat} {π : Id} {κ : Nat->Id} (h:VW P G [0] vc Q0 ⟨t0, σ0,0⟩)
   (hσ : ∀ i b, σ0 i=some b -> σ (m5 n π κ i)=some (b.dT (m5 n π κ))) (ai7:∀ i j, σ0 i≠none -> σ0 j≠none->i≠j->m5 n π κ i≠m5 n π κ j) :
   VW P G π vc (fun e s=>∃ s0,Q0 e s0/\s.t=b9 (m5 n π κ) s0.t/\s.n=n+s0.n/\Tv (m5 n π κ) s0.σ s.σ) ⟨b9 (m5 n π κ) t0, σ,n⟩:=by
 intro c hc own E w a R hm hR
 obtain ⟨IY,hi,s6,ai8⟩:=hm
 let E0:Env:=⟨fun i=>E.μ (m5 n π κ i),E.ok⟩
 have Ur:mR G [0] own E0 w ⟨t0, σ0,0⟩ a:=by
   refine ⟨bc.dA (E:=E0) (E':=E) (fun i x hx=>hx) (fun b hb=>hb) _ _ IY, ?_,fun j hj _=>HX s6 hj,ai8⟩
   refine ⟨hi.okb,fun id bk hs => ?_,fun i j x y qk hj' hne hx hy => ?_,hi.glob,hi.new⟩
   . obtain ⟨g,N,cur,ty,hB⟩:=hi.blk _ _ (hσ id bk hs)
     refine ⟨g,N,cur,ty,hB.μ,hB.heap,hB.size, ?_,hB.most,hB.own,hB.ok,hB.no,B8 hB.k, ?_⟩
     . have:=hB.len;rwa [show (bk.dT (m5 n π κ)).els.length=bk.els.length from iB] at this
     . have:=hB.row
       rw [show (bk.dT (m5 n π κ)).els=b9 (m5 n π κ) bk.els from rfl,HW] at this
       exact eT.dA (E:=E0) (E':=E) (fun i x hx=>hx) (fun b hb=>hb) this
   . obtain ⟨b,hb⟩:=Option.ne_none_iff_exists'.1 qk
     obtain ⟨b',RR⟩:=Option.ne_none_iff_exists'.1 hj'
     exact hi.inj _ _ x y (by show σ _≠none;rw [hσ i b hb];simp) (by show σ _≠none;rw [hσ j b' RR];simp) (ai7 i j qk hj' hne) hx hy
 refine h c hc own E0 w a R Ur ?_
 intro e s0 E0' w' a' hq had sC
 obtain ⟨aja,qk,On,afL⟩:=sC
 let E':=Dw n π κ E E0'
 have hμ : ∀ i x,E0'.μ i=some x->E'.μ (m5 n π κ i)=some x:=by
   intro i x hx
   by_cases h0:[0] <:+ i
   . exact (Fp h0).trans hx
   . have h1:E.μ (m5 n π κ i)=some x:=by have:=had.ids i h0;rw [hx] at this;exact this.symm
     exact (tG fun i' qk e=>by have:=HX (κ := κ) s6 qk;rw [e,h1] at this;cases this).trans h1
 have hold:∀ j x,E.μ j=some x->E'.μ j=some x:=fun j x hx=>(tG fun i' qk e=>by have:=HX (κ := κ) s6 qk;rw [e,hx] at this;cases this).trans hx
 have hS:∀ j b,(∃ i b0,s0.σ i=some b0/\m5 n π κ i=j/\b=b0.dT (m5 n π κ))->∃ i g N cur ty b0,s0.σ i=some b0/\m5 n π κ i=j/\ye E0' own w' i b0 g N cur ty/\ye E' own w' j b g N cur ty:=by
   rintro j b ⟨i,b0,h1,rfl,rfl⟩
   obtain ⟨g,N,cur,ty,hB⟩:=qk.blk i b0 h1
   refine ⟨i,g,N,cur,ty,b0,h1,rfl,hB,hμ _ _ hB.μ,hB.heap,hB.size, ?_,hB.most,hB.own,hB.ok,hB.no,EK hB.k, ?_⟩
   . rw [show (b0.dT (m5 n π κ)).els.length=b0.els.length from iB];exact hB.len
   . rw [show (b0.dT (m5 n π κ)).els=b9 (m5 n π κ) b0.els from rfl,HW]
     exact eT.dT hμ (fun b hb=>hb) hB.row
 classical
 let σ':af:=fun j=>if h:∃ i b,s0.σ i=some b/\m5 n π κ i=j then some (h.choose_spec.choose.dT (m5 n π κ)) else none
 have WJ:∀ j, σ' j=none∨∃ i b,s0.σ i=some b/\m5 n π κ i=j /\ σ' j=some (b.dT (m5 n π κ)):=fun j=>by
   by_cases h:∃ i b,s0.σ i=some b/\m5 n π κ i=j
   . right;exact ⟨h.choose,h.choose_spec.choose,h.choose_spec.choose_spec.1,h.choose_spec.choose_spec.2,dif_pos h⟩
   . left;exact dif_neg h
 have ajb:Inv G own E' w' σ':=by
   refine ⟨qk.okb,fun j bk hs => ?_,fun j j' x y hj hj' hne hx hy => ?_,qk.glob,qk.new⟩
   . rcases WJ j with h1 | ⟨i,b,h1,h2,h3⟩
     . rw [h1] at hs;cases hs
     . rw [h3] at hs
       simp only [Option.some.injEq] at hs
       obtain ⟨i',g,N,cur,ty,b0,_,_,_,hB⟩:=hS j bk ⟨i,b,h1,h2,hs.symm⟩
       exact ⟨g,N,cur,ty,hB⟩
   . rcases WJ j with h1 | ⟨i,b,h1,h2,h3⟩
     . exact absurd h1 hj
     rcases WJ j' with h4 | ⟨i',b',h4,h5,h6⟩
     . exact absurd h4 hj'
     obtain ⟨g,N,cur,ty,hB⟩:=qk.blk i b h1
     obtain ⟨g',N',Oa,PI,Lt⟩:=qk.blk i' b' h4
     have e1:=hμ _ _ hB.μ
     have e2:=hμ _ _ Lt.μ
     rw [h2,hx] at e1
     rw [h5,hy] at e2
     simp only [Option.some.injEq] at e1 e2
     rw [e1,e2]
     exact qk.inj i i' _ _ (by rw [h1];simp) (by rw [h4];simp) (fun e=>hne (by rw [<- h2, <- h5,e])) hB.μ Lt.μ
 have afM:∀ i b,s0.σ i=some b -> σ' (m5 n π κ i)=some (b.dT (m5 n π κ)):=fun i b h1=>by
   rcases WJ (m5 n π κ i) with h2 | ⟨i',b',h3,h4,h5⟩
   . exact absurd ((dif_pos ⟨i,b,h1,rfl⟩).symm.trans h2) (by simp)
   . obtain ⟨g,N,cur,ty,hB⟩:=qk.blk i b h1
     obtain ⟨g',N',Oa,PI,Lt⟩:=qk.blk i' b' h3
     by_cases e:i'=i
     . subst e;rw [h1] at h3;simp only [Option.some.injEq] at h3;subst h3;exact h5
     . have e1:=hμ _ _ hB.μ
       have e2:=hμ _ _ Lt.μ
       rw [h4,e1] at e2
       simp only [Option.some.injEq,Prod.mk.injEq] at e2
       exact absurd e2.1.symm (qk.inj i' i _ _ (by rw [h3];simp) (by rw [h1];simp) e Lt.μ hB.μ)
 refine hR e ⟨b9 (m5 n π κ) s0.t, σ',n+s0.n⟩ E' w' a' ⟨s0,hq,rfl,rfl,afM,WJ⟩ ⟨⟨⟨hold,had.step.ok,had.step.same⟩,had.os,had.tape,had.output,had.size,had.block,had.XD⟩,fun j hj=>tG fun i hi e=>hj ?_⟩ ⟨bc.dT hμ (fun b hb=>hb) _ _ aja,ajb,fun j hj hq' => ?_,afL⟩
 . rcases La hi with rfl | ⟨l,q,rfl⟩
   . rw [<- e];exact List.suffix_refl _
   . rw [n9] at e;rw [<- e];exact ⟨l++[n+q],by simp⟩
 . by_cases hex:∃ i,[0] <:+ i/\m5 n π κ i=j
   . obtain ⟨i,TT,rfl⟩:=hex
     refine (Fp TT).trans (On i TT fun q XM hs=>hq' (n+q) (by show n+q<n+s0.n;omega) ?_)
     obtain ⟨t,rfl⟩:=hs
     rw [n9];exact ⟨t,rfl⟩
   . refine (tG fun i hi e=>hex ⟨i,hi,e⟩).trans (s6 j hj fun q XM=>hq' q (Nat.lt_of_lt_of_le XM (Nat.le_add_right _ _)))
theorem Nu {ρ : Id->Id} {agg:Bool} {cs:List AV} {o n:Nat} {v:AV} (h:part agg cs o n=some v):part agg (b9 ρ cs) o n=some (v.dT ρ):=by
 unfold part at h ⊢
 rw [iB]
 split at h
 . rename_i h1
   rw [if_pos h1]
   split at h
   . rename_i h2
     rw [if_pos h2]
     simp only [Option.some.injEq] at h
     subst h
     simp only [AV.dT,ja,List.map_take,List.map_drop]
   . rename_i h2
     rw [if_neg h2]
     split at h
     . rename_i h3;rw [if_pos h3,ja,List.getElem?_map,h];rfl
     . cases h
 . cases h
theorem Tw {ρ : Id->Id} {σ0 σ : af} (hs:Tv ρ σ0 σ) {agg:Bool} {n:Nat} {x:AV} {r:eS} (h:kM σ0 agg n x=some r):∃ r',kM σ agg n (x.dT ρ)=some r'/\r'.val=r.val.dT ρ := by
 cases x<;>simp only [kM,reduceCtorEq] at h
 case ref id e o =>
   cases hb : σ0 id with
   | none=>rw [hb] at h;cases h
   | some bk =>
     rw [hb] at h
     simp only [] at h
     cases he:bk.els[e]? with
     | none=>rw [he] at h;cases h
     | some el =>
       rw [he] at h
       simp only [Option.map_eq_some_iff] at h
       obtain ⟨v,hv,rfl⟩:=h
       refine ⟨{ val:=v.dT ρ,rd:=[ρ id] }, ?_,rfl⟩
       have e1:(bk.dT ρ).els[e]? = some (el.dT ρ):=by
         show (b9 ρ bk.els)[e]? = _
         rw [ja,List.getElem?_map,he];rfl
       simp only [AV.dT,kM,hs.1 id bk hb,e1,AJ,Nu hv,Option.map_some]
 case ep cs o =>
   simp only [Option.map_eq_some_iff] at h
   obtain ⟨v,hv,rfl⟩:=h
   refine ⟨{ val:=v.dT ρ }, ?_,rfl⟩
   simp only [AV.dT,kM,Nu hv,Option.map_some]
theorem Nv {ρ : Id->Id} {t:List AV} {k:Nat}:(b9 ρ t).getD k (.tup [])=(t.getD k (.tup [])).dT ρ := by
 rw [List.getD_eq_getElem?_getD,List.getD_eq_getElem?_getD,ja,List.getElem?_map]
 cases t[k]? <;> rfl
theorem Tx {ρ : Id->Id} {s0 s:VS} (ht:s.t=b9 ρ s0.t) (hs:Tv ρ s0.σ s.σ) {x:uT} {v:AV} (h:a9 s0 x=some v):a9 s x=some (v.dT ρ):=by
 cases x with
 | tmp k=>simp only [a9,Option.some.injEq] at h ⊢;rw [ht,Nv,h]
 | cell k agg n =>
   simp only [a9,Option.map_eq_some_iff] at h ⊢
   obtain ⟨r,hr,rfl⟩:=h
   obtain ⟨r',h1,h2⟩:=Tw hs hr
   exact ⟨r',by rw [ht,Nv];exact h1,h2⟩
theorem Nw {ρ : Id->Id} {s0 s:VS} (ht:s.t=b9 ρ s0.t) (hs:Tv ρ s0.σ s.σ):∀ {rs:List uT} {vs:List AV},rs.mapM (a9 s0)=some vs->rs.mapM (a9 s)=some (b9 ρ vs)
 | [],vs,h=>by simp only [List.mapM_nil,Option.pure_def,Option.some.injEq] at h ⊢;subst h;rfl
 | x::rs,vs,h=>by
   simp only [List.mapM_cons,Option.bind_eq_bind,Option.bind_eq_some_iff,Option.pure_def,Option.some.injEq] at h ⊢
   obtain ⟨v,hv,vs',N5,rfl⟩:=h
   exact ⟨_,Tx ht hs hv,_,Nw ht hs N5,rfl⟩
theorem Ty {ρ : Id->Id} {s0 s:VS} (ht:s.t=b9 ρ s0.t) (hs:Tv ρ s0.σ s.σ) {rs:List uT} {v:AV} (h:aX rs s0=some v):aX rs s=some (v.dT ρ):=by
 unfold aX at h ⊢
 cases hm:rs.mapM (a9 s0) with
 | none=>rw [hm] at h;cases h
 | some vs =>
   rw [hm] at h
   rw [Nw ht hs hm]
   match vs,h with
   | [],h=>simp only [Option.some.injEq] at h;subst h;rfl
   | [v],h=>simp only [Option.some.injEq] at h;subst h;rfl
   | v::v'::vs,h=>simp only [Option.some.injEq] at h;subst h;rfl
end
end Go.VL
end

section
namespace Go.VL
abbrev dz:=List (Id × Option cZ)
def Tz:Id->Id->Bool
 | [],[]=>true
 | a::ar,b::bs=>Nat.beq a b&&Tz ar bs
 | _,_=>false
theorem tH:∀ {a b:Id},Tz a b=true↔a=b
 | [],[]=>by simp [Tz]
 | a::ar,b::bs=>by simp only [Tz,Bool.and_eq_true,Nat.beq_eq,tH (a:=ar),List.cons.injEq]
 | [],_::_=>by simp [Tz]
 | _::_,[]=>by simp [Tz]
def dz.find:dz->Id->Option cZ
 | [],_=>none
 | (j,b)::S,i=>match Tz i j with
   | true=>b
   | false=>dz.find S i
def dz.to (S:dz):af:=fun i=>S.find i
def dz.app (S:dz):List (Id × Option cZ)->dz
 | []=>S
 | x::up=>dz.app (x::S) up
theorem dz.acJ (i:Id) (b:Option cZ) (S:dz):dz.to ((i,b)::S)=S.to.put i b:=by
 funext j
 show dz.find _ j=_
 simp only [dz.find,af.put]
 cases h:Tz j i with
 | true=>rw [if_pos (tH.1 h)]
 | false=>rw [if_neg (fun e=>by rw [tH.2 e] at h;cases h)];rfl
theorem dz.Pl:∀ (up:List (Id × Option cZ)) (S:dz),(S.app up).to=S.to.app up
 | [],_=>rfl
 | (i,b)::up,S=>by simp only [dz.app,af.app,dz.Pl up,dz.acJ]
inductive Hint (P:Program) (G:Nat->Option (List AV)) where
 | ev (k:Nat) (o:Option eS) (r:eS) (h:o=some r)
 | eq (k:Nat) (a b:AV) (h:a=b)
 | br (k:Nat) (x b:Bool) (h:x=b)
 | st (k:Nat) (S:List (Id × cZ)) (op:gB AV) (r:Id->eS) (h:∀ σ p,(∀ x∈S, σ x.1=some x.2)->bO σ p op=some (r p))
 | vp (f:FuncId) (args:List AV) (r:AV) (h:VP P G f args r) (hp:∀ c∈args,aa c)
 | rel (f:FuncId) (args:List AV) (S:List (Id × cZ)) (r:Id->eS) (h:∀ p,(∀ x∈S, ¬ p <:+ x.1)->aZ P G f args p S (r p)) (hr:∀ p,∀ x∈S,x.1∈(r p).rd)
 | lp (π : Id) (c:cy) (t0:List AV) (S0:List (Id × cZ)) (n0:Nat) (e:bX) (t1:List AV) (S1:dz) (n1:Nat) (h:VW P G π (.loop c) (fun e' s'=>e'=e/\Wk G π s' ⟨t1,S1.to,n1⟩) ⟨t0,af.of S0,n0⟩)
inductive N7 where
 | ev (o:Option eS)
 | val (a:AV)
 | op (o:gB AV) (S:List (Option cZ))
 | call (f:FuncId) (args:List AV) (S:List (Option cZ))
 | lp (π : Id) (c:cy) (t:List AV) (S:List (Option cZ))
def WK:Id->Id->Bool
 | p,[]=>Tz p []
 | p,a::ar=>Tz p (a::ar)||WK p ar
theorem Nx {p:Id}:∀ {i:Id},WK p i=false -> ¬ p <:+ i
 | [],h=>by
   simp only [WK] at h
   intro hs
   have:p=[]:=List.suffix_nil.1 hs
   rw [tH.2 this] at h;cases h
 | a::ar,h=>by
   simp only [WK,Bool.or_eq_false_iff] at h
   intro hs
   rcases List.suffix_cons_iff.1 hs with e | e
   . rw [tH.2 e] at h;cases h.1
   . exact Nx h.2 e
structure TS where
 t:List AV
 S:dz
 n:Nat
def TS.to (s:TS):VS:=⟨s.t,s.S.to,s.n⟩
def HY:List AV->List AV->List AV
 | c::cs,d::ds=>(match d with | .top => .top | _=>c)::HY cs ds
 | cs,_=>cs
theorem HZ:∀ {cs ds:List AV},HY cs ds=ds->Fg cs ds
 | [],[],_=>trivial
 | c::cs,d::ds,h=>by
   simp only [HY,List.cons.injEq] at h
   refine ⟨?_,HZ h.2⟩
   cases d<;>simp_all
 | [],_::_,h=>by simp [HY] at h
 | _::_,[],h=>by simp [HY] at h
def keyOf (o:bx):Nat:=match o.dst with
 | some d=>d
 | none=>match o.op with
   | .store _ (.t x) _=>x+100000
   | _=>0
def Dx (a b:List Id):Bool:=a.all fun i => !b.any fun j=>Tz i j
def Rk (a b:eS):Bool:=Dx (a.up.map (·.1)) b.rd&&Dx (a.up.map (·.1)) (b.up.map (·.1))&&Dx (b.up.map (·.1)) a.rd
def B9 (rs:List eS) (ps:List (Nat × Nat)):Bool:=ps.all fun q=>match rs[q.1]?,rs[q.2]? with
 | some a,some b=>Rk a b
 | _,_=>true
theorem yb {a b:List Id} (h:Dx a b=true) {i:Id} (hi:i∈a):i ∉ b:=by
 simp only [Dx,List.all_eq_true,Bool.not_eq_true',List.any_eq_false] at h
 exact fun hj=>h i hi i hj (tH.2 rfl)
theorem FW {rs:List eS} {ps:List (Nat × Nat)} (h:B9 rs ps=true):ab rs ps:=by
 intro q hq a b ha hb
 simp only [B9,List.all_eq_true] at h
 have:=h q hq
 rw [ha,hb] at this
 simp only [Rk,Bool.and_eq_true] at this
 obtain ⟨⟨h1,h2⟩,h3⟩:=this
 exact ⟨fun x hx=>⟨yb h1 (List.mem_map.2 ⟨x,hx,rfl⟩),yb h2 (List.mem_map.2 ⟨x,hx,rfl⟩)⟩,fun x hx=>yb h3 (List.mem_map.2 ⟨x,hx,rfl⟩)⟩
abbrev Pm:=List (N7 × N7)
section
variable {P:Program} {G:Nat->Option (List AV)}
def Bk (S:dz) (p:Id) (op:gB AV) (hs:List (Hint P G)):Option (Pm × List (Hint P G) × eS):=match bO S.to p op with
 | some r=>some ([],hs,r)
 | none=>none
def WL (S:dz) (p:Id) (k:Nat) (op:gB AV) (hs:List (Hint P G)):Option (Pm × List (Hint P G) × eS) :=
 match op with
 | .call f ar=>match f with
   | .fn (.func g) first cap=>match hs with
     | .vp f' lL r _ _::eL=>some ([(.call g (first++ar++cap) [], .call f' lL [])],eL,{ val:=r })
     | .rel f' lL S' r _ _::eL=>match S'.all fun x => !WK p x.1 with
       | true=>some ([(.call g (first++ar++cap) (S'.map fun x=>S.find x.1), .call f' lL (S'.map fun x=>some x.2))],eL,r p)
       | false=>none
     | _=>none
   | _=>none
 | op=>match hs with
   | .ev k' o r _::eL=>match Nat.beq k' k with
     | true=>some ([(.ev (bO S.to p op), .ev o)],eL,r)
     | false=>Bk S p op hs
   | .eq k' a b _::eL=>match Nat.beq k' k with
     | true=>match bO S.to p op with
       | some r=>some ([(.val r.val, .val a)],eL,{ r with val:=b })
       | none=>none
     | false=>Bk S p op hs
   | .st k' S' op' r _::eL=>match Nat.beq k' k with
     | true=>some ([(.op op (S'.map fun x=>S.find x.1), .op op' (S'.map fun x=>some x.2))],eL,r p)
     | false=>Bk S p op hs
   | _=>Bk S p op hs
def Lc (π : Id) (base:Nat):List bx->Nat->List eS->List AV->dz->List (Hint P G)->Option (Pm × List (Hint P G) × List eS × List AV × dz)
 | [],_,acc,t,S,hs=>some ([],hs,acc,t,S)
 | o :: os,i,acc,t,S,hs=>match eY t o.guard with
   | none=>none
   | some false=>Lc π base os (i+1) ({ val := .tup [] }::acc) (gl t o.dst (.tup [])) S hs
   | some true=>match WL S ((base+i) :: π) (keyOf o) (o.op.map (a7.ev G t)) hs with
     | none=>none
     | some (c,eL,r)=>match Lc π base os (i+1) (r::acc) (gl t o.dst r.val) (S.app r.up) eL with
       | none=>none
       | some (cs,x)=>some (c++cs,x)
def afN:a7->Nat
 | .t k=>k
 | _=>0
def ju : Bool->Nat->cy->Id->List (Hint P G)->TS->Option (Pm × List (Hint P G) × bX × TS)
 | _,0,_,_,_,_=>none
 | z,m+1,c, π,hs,s=>match c with
   | .skip=>some ([],hs, .normal,s)
   | .ret=>some ([],hs, .ret,s)
   | .exit i=>some ([],hs, .exit i,s)
   | .seq a b=>match ju true m a π hs s with
     | some (cs,eL, .normal,s')=>match ju true m b π eL s' with
       | some (Ck,x)=>some (cs++Ck,x)
       | none=>none
     | r=>r
   | .cond c a b=>match hs with
     | .br k x v _::eL=>match Nat.beq k (afN c) with
       | true=>match ju true m (match v with | true=>a | false=>b) π eL s with
         | some (cs,y)=>some ((.val (c.ev G s.t), .val (.bool x))::cs,y)
         | none=>none
       | false=>match c.ev G s.t with
         | .bool true=>ju true m a π hs s
         | .bool false=>ju true m b π hs s
         | _=>none
     | _=>match c.ev G s.t with
       | .bool true=>ju true m a π hs s
       | .bool false=>ju true m b π hs s
       | _=>none
   | .block i c=>match ju true m c π hs s with
     | some (cs,eL, .exit j,s')=>match Nat.beq j i with
       | true=>some (cs,eL, .normal,s')
       | false=>some (cs,eL, .exit j,s')
     | r=>r
   | .loop c=>match z,hs with
     | true, .lp π' c' t0 S0 n0 e t1 S1 n1 _::eL=>match Nat.ble s.n n0 with
       | true=>some ([(.lp π c (HY s.t t0) (S0.map fun x=>s.S.find x.1), .lp π' c' t0 (S0.map fun x=>some x.2))],eL,e,⟨t1,S1,n1⟩)
       | false=>none
     | _,_=>match ju true m c π hs s with
       | some (cs,eL, .normal,s')=>match ju false m (.loop c) π eL s' with
         | some (Ck,x)=>some (cs++Ck,x)
         | none=>none
       | r=>r
   | .reg ps os=>match Lc π s.n os 0 [] s.t s.S hs with
     | none=>none
     | some (cs,eL,rs,t,S)=>match ps with
       | none=>some (cs,eL, .normal,⟨t,S,s.n+os.length⟩)
       | some ps=>match B9 rs.reverse ps with
         | true=>some (cs,eL, .normal,⟨t,S,s.n+os.length⟩)
         | false=>none
def sW (cs:Pm):Prop:=∀ x∈cs,x.1=x.2
theorem sW.of_map {cs:Pm} (h:cs.map (·.1)=cs.map (·.2)):sW cs:=by
 intro x hx
 obtain ⟨i,hi⟩:=List.getElem?_of_mem hx
 have:=congrArg (·[i]?) h
 simpa [List.getElem?_map,hi] using this
theorem sW.left {a b:Pm} (h:sW (a++b)):sW a:=fun x hx=>h x (List.mem_append_left _ hx)
theorem sW.right {a b:Pm} (h:sW (a++b)):sW b:=fun x hx=>h x (List.mem_append_right _ hx)
theorem od {S:dz} {S':List (Id × cZ)} (h:(S'.map fun x=>S.find x.1)=S'.map fun x=>some x.2):∀ x∈S',S.to x.1=some x.2:=by
 intro x hx
 obtain ⟨i,hi⟩:=List.getElem?_of_mem hx
 have:=congrArg (·[i]?) h
 have e:S.find x.1=some x.2:=by simpa [List.getElem?_map,hi] using this
 exact e
theorem Fq {S:dz} {p:Id} {k:Nat} {op:gB AV} {hs eL:List (Hint P G)} {cs:Pm} {r:eS} (h:WL S p k op hs=some (cs,eL,r)) (hc:sW cs) {K:eS->Prop} (hK:K r):y8 P G S.to p op K:=by
 have auto:∀ {cs eL},Bk S p op hs=some (cs,eL,r)->op.tO=false->y8 P G S.to p op K:=by
   intro cs eL h Ig
   unfold Bk at h
   rw [uX Ig]
   split at h
   . rename_i r' hr;simp only [Option.some.injEq,Prod.mk.injEq] at h;obtain ⟨_,_,rfl⟩:=h;rw [hr];exact hK
   . cases h
 have other:∀ {cs eL},op.tO=false->sW cs->(match hs with
   | .ev k' o r _::eL=>match Nat.beq k' k with
     | true=>some ([((N7.ev (bO S.to p op)), .ev o)],eL,r)
     | false=>Bk S p op hs
   | .eq k' a b _::eL=>match Nat.beq k' k with
     | true=>match bO S.to p op with
       | some r=>some ([(.val r.val, .val a)],eL,{ r with val:=b })
       | none=>none
     | false=>Bk S p op hs
   | .st k' S' op' r _::eL=>match Nat.beq k' k with
     | true=>some ([(.op op (S'.map fun x=>S.find x.1), .op op' (S'.map fun x=>some x.2))],eL,r p)
     | false=>Bk S p op hs
   | _=>Bk S p op hs)=some (cs,eL,r)->y8 P G S.to p op K:=by
   intro cs eL Ig hc h
   cases hs with
   | nil=>exact auto h Ig
   | cons x jv =>
     cases x with
     | ev k' o r' ho =>
       simp only [] at h
       split at h
       . simp only [Option.some.injEq,Prod.mk.injEq] at h
         obtain ⟨rfl,_,rfl⟩:=h
         have:=hc _ (List.mem_singleton.2 rfl)
         simp only [N7.ev.injEq] at this
         rw [uX Ig,this,ho];exact hK
       . exact auto h Ig
     | eq k' a b FV =>
       simp only [] at h
       split at h
       . split at h
         . rename_i r' hr
           simp only [Option.some.injEq,Prod.mk.injEq] at h
           obtain ⟨rfl,_,rfl⟩:=h
           have:=hc _ (List.mem_singleton.2 rfl)
           simp only [N7.val.injEq] at this
           rw [uX Ig,hr]
           have e:{ r' with val:=b }=r':=by rw [<- FV, <- this]
           rw [e] at hK;exact hK
         . cases h
       . exact auto h Ig
     | st k' S' op' r' ho =>
       simp only [] at h
       split at h
       . simp only [Option.some.injEq,Prod.mk.injEq] at h
         obtain ⟨rfl,_,rfl⟩:=h
         have:=hc _ (List.mem_singleton.2 rfl)
         simp only [N7.op.injEq] at this
         rw [uX Ig,this.1,ho _ _ (od this.2)];exact hK
       . exact auto h Ig
     | _=>exact auto h Ig
 cases op with
 | call f ar =>
   simp only [WL] at h
   simp only [y8]
   split at h
   . cases hs with
     | nil=>cases h
     | cons x jv =>
       cases x with
       | vp f' lL r' hv hp =>
         simp only [Option.some.injEq,Prod.mk.injEq] at h
         obtain ⟨rfl,_,rfl⟩:=h
         have:=hc _ (List.mem_singleton.2 rfl)
         simp only [N7.call.injEq,and_true] at this
         obtain ⟨rfl,e⟩:=this
         exact ⟨[],_,e▸aZ.PX hv hp p,by simp,by simp,hK⟩
       | rel f' lL S' r' hv hr =>
         simp only [] at h
         split at h
         . rename_i hsf
           simp only [Option.some.injEq,Prod.mk.injEq] at h
           obtain ⟨rfl,_,rfl⟩:=h
           have:=hc _ (List.mem_singleton.2 rfl)
           simp only [N7.call.injEq] at this
           obtain ⟨rfl,e,e2⟩:=this
           refine ⟨S',_,e▸hv p fun x hx=>Nx ?_,od e2,hr p,hK⟩
           have:=List.all_eq_true.1 hsf x hx
           simpa using this
         . cases h
       | _=>cases h
   . cases h
 | _=>exact other rfl hc h
theorem H0 {π : Id} {base:Nat} {rs:List eS} {t':List AV} {S':dz} {eL:List (Hint P G)} {K:List eS->List AV->af->Prop} (hK:K rs.reverse t' S'.to) :
   ∀ (os:List bx) (i:Nat) (acc:List eS) (t:List AV) (S:dz) (hs:List (Hint P G)) (cs:Pm),Lc π base os i acc t S hs=some (cs,eL,rs,t',S')->sW cs->Cr P G π base K os i acc t S.to
 | [],i,acc,t,S,hs,cs,h,_=>by
   simp only [Lc,Option.some.injEq,Prod.mk.injEq] at h
   obtain ⟨_,_,rfl,rfl,rfl⟩:=h
   exact hK
 | o :: os,i,acc,t,S,hs,cs,h,hc=>by
   simp only [Lc] at h
   simp only [Cr]
   split at h
   . cases h
   . rename_i hw;rw [hw];exact H0 hK os _ _ _ _ _ _ h hc
   . rename_i hw
     rw [hw]
     split at h
     . cases h
     . rename_i c jv r hr
       split at h
       . cases h
       . rename_i cs1 x hx
         simp only [Option.some.injEq,Prod.mk.injEq] at h
         obtain ⟨rfl,rfl⟩:=h
         have:=H0 hK os _ _ _ _ _ _ hx hc.right
         rw [dz.Pl] at this
         exact Fq hr hc.left this
theorem H2 {π : Id} {base:Nat} {rs:List eS} {t':List AV} {S':dz} {eL:List (Hint P G)} {K:List AV->af->Prop} (hK:K t' S'.to) :
   ∀ (os:List bx) (i:Nat) (acc:List eS) (t:List AV) (S:dz) (hs:List (Hint P G)) (cs:Pm),Lc π base os i acc t S hs=some (cs,eL,rs,t',S')->sW cs->Cq P G π base K os i t S.to
 | [],i,acc,t,S,hs,cs,h,_=>by
   simp only [Lc,Option.some.injEq,Prod.mk.injEq] at h
   obtain ⟨_,_,rfl,rfl,rfl⟩:=h
   exact hK
 | o :: os,i,acc,t,S,hs,cs,h,hc=>by
   simp only [Lc] at h
   simp only [Cq]
   split at h
   . cases h
   . rename_i hw;rw [hw];exact H2 hK os _ _ _ _ _ _ h hc
   . rename_i hw
     rw [hw]
     split at h
     . cases h
     . rename_i c jv r hr
       split at h
       . cases h
       . rename_i cs1 x hx
         simp only [Option.some.injEq,Prod.mk.injEq] at h
         obtain ⟨rfl,rfl⟩:=h
         have:=H2 hK os _ _ _ _ _ _ hx hc.right
         rw [dz.Pl] at this
         exact Fq hr hc.left this
theorem Fs {c:cy} {π : Id}:∀ (m:Nat),(∀ m'<m,∀ (hs eL:List (Hint P G)) cs s s' e,ju true m' c π hs s=some (cs,eL,e,s')->sW cs->VW P G π c (fun e' s2=>e'=e/\s2=s'.to) s.to) ->
   ∀ (hs eL:List (Hint P G)) cs s s' e,ju false m (.loop c) π hs s=some (cs,eL,e,s')->sW cs->∃ n,bY P G π c (fun e' s2=>e'=e/\s2=s'.to) n s.to
 | 0,_,_,_,_,_,_,_,h,_=>by simp [ju] at h
 | m + 1,hb,hs,eL,cs,s,s',e,h,hc=>by
   simp only [ju] at h
   split at h
   . rename_i c1 jv s1 h1
     split at h
     . rename_i c2 x h2
       simp only [Option.some.injEq,Prod.mk.injEq] at h
       obtain ⟨rfl,rfl⟩:=h
       obtain ⟨n,hn⟩:=Fs m (fun m' hm=>hb m' (by omega)) jv eL c2 s1 s' e h2 hc.right
       refine ⟨n+1,(hb m (by omega) hs jv c1 s s1 _ h1 hc.left).mono fun e' s2 hq => ?_⟩
       obtain ⟨rfl,rfl⟩:=hq
       exact hn
     . cases h
   . rename_i h1
     refine ⟨1,(hb m (by omega) hs eL cs s s' e h hc).mono fun e' s2 hq => ?_⟩
     obtain ⟨rfl,rfl⟩:=hq
     cases e' with
     | normal=>exact absurd h (h1 _ _ _)
     | exit i=>exact ⟨rfl,rfl⟩
     | ret=>exact ⟨rfl,rfl⟩
theorem VW.post {vc:cy} {π : Id} {Q:bX->VS->Prop} {s:VS} (h:VW P G π vc (fun e s'=>∃ s1,Q e s1/\Wk G π s' s1) s):VW P G π vc Q s:=by
 intro c hc own E w a R hm hR
 refine h c hc own E w a R hm fun e s' E' w' a' hq had sC => ?_
 obtain ⟨s1,h1,h2⟩:=hq
 obtain ⟨E1,a1,m1⟩:=h2 own E' w' a' sC
 exact hR e s1 E1 w' a' h1 (had.trans a1) m1
theorem et : ∀ (m:Nat) (c:cy) (π : Id) (hs eL:List (Hint P G)) (cs:Pm) (s s':TS) (e:bX),ju true m c π hs s=some (cs,eL,e,s')->sW cs->VW P G π c (fun e' s2=>e'=e/\s2=s'.to) s.to
 | 0,_,_,_,_,_,_,_,_,h,_=>by simp [ju] at h
 | m + 1, c, π,hs,eL,cs,s,s',e,h,hc=>by
   have cnd:∀ {hs eL:List (Hint P G)} {cs:Pm} {a b:cy} {x:a7},(match x.ev G s.t with
       | .bool true=>ju true m a π hs s
       | .bool false=>ju true m b π hs s
       | _=>none)=some (cs,eL,e,s')->sW cs->VW P G π (.cond x a b) (fun e' s2=>e'=e/\s2=s'.to) s.to:=by
     intro hs eL cs a b x h hc
     split at h
     . rename_i hb;exact VW.cond hb (by simpa using et m a π _ _ _ s s' e h hc)
     . rename_i hb;exact VW.cond hb (by simpa using et m b π _ _ _ s s' e h hc)
     . cases h
   cases c with
   | skip=>simp only [ju,Option.some.injEq,Prod.mk.injEq] at h;obtain ⟨_,_,rfl,rfl⟩:=h;exact VW.skip ⟨rfl,rfl⟩
   | ret=>simp only [ju,Option.some.injEq,Prod.mk.injEq] at h;obtain ⟨_,_,rfl,rfl⟩:=h;exact VW.ret ⟨rfl,rfl⟩
   | exit i=>simp only [ju,Option.some.injEq,Prod.mk.injEq] at h;obtain ⟨_,_,rfl,rfl⟩:=h;exact VW.exit ⟨rfl,rfl⟩
   | seq a b =>
     simp only [ju] at h
     refine VW.seq ?_
     split at h
     . rename_i c1 jv s1 h1
       split at h
       . rename_i c2 x h2
         simp only [Option.some.injEq,Prod.mk.injEq] at h
         obtain ⟨rfl,rfl⟩:=h
         refine (et m a π _ _ _ s s1 _ h1 hc.left).mono fun e' s2 hq => ?_
         obtain ⟨rfl,rfl⟩:=hq
         exact et m b π _ _ _ s1 s' e h2 hc.right
       . cases h
     . rename_i h1
       refine (et m a π _ _ _ s s' e h hc).mono fun e' s2 hq => ?_
       obtain ⟨rfl,rfl⟩:=hq
       cases e' with
       | normal=>exact absurd h (h1 _ _ _)
       | exit i=>exact ⟨rfl,rfl⟩
       | ret=>exact ⟨rfl,rfl⟩
   | cond x a b =>
     simp only [ju] at h
     cases hs with
     | nil=>exact cnd h hc
     | cons y jv =>
       cases y with
       | br k y v hv =>
         simp only [] at h
         split at h
         . split at h
           . rename_i c1 y1 h1
             simp only [Option.some.injEq,Prod.mk.injEq] at h
             obtain ⟨rfl,rfl⟩:=h
             have h2:=hc _ (List.mem_cons_self ..)
             simp only [N7.val.injEq] at h2
             have hc':sW c1:=fun z hz=>hc z (List.mem_cons_of_mem _ hz)
             refine VW.cond (b:=v) (by rw [<- hv];exact h2) ?_
             cases v with
             | true=>simpa using et m a π _ _ _ s s' e h1 hc'
             | false=>simpa using et m b π _ _ _ s s' e h1 hc'
           . cases h
         . exact cnd h hc
       | _=>exact cnd h hc
   | block i c =>
     simp only [ju] at h
     refine VW.block ?_
     split at h
     . rename_i c1 jv j s1 h1
       split at h
       . rename_i hj
         simp only [Option.some.injEq,Prod.mk.injEq] at h
         obtain ⟨rfl,rfl,rfl,rfl⟩:=h
         refine (et m c π _ _ _ s _ _ h1 hc).mono fun e' s2 hq => ?_
         obtain ⟨rfl,rfl⟩:=hq
         simp [Nat.beq_eq▸hj]
       . rename_i hj
         simp only [Option.some.injEq,Prod.mk.injEq] at h
         obtain ⟨rfl,rfl,rfl,rfl⟩:=h
         refine (et m c π _ _ _ s _ _ h1 hc).mono fun e' s2 hq => ?_
         obtain ⟨rfl,rfl⟩:=hq
         have : ¬ j=i:=fun e=>by rw [e,Nat.beq_refl] at hj;cases hj
         simp [this]
     . rename_i h1
       refine (et m c π _ _ _ s s' e h hc).mono fun e' s2 hq => ?_
       obtain ⟨rfl,rfl⟩:=hq
       cases e' with
       | normal=>exact ⟨rfl,rfl⟩
       | exit i=>exact absurd h (h1 _ _ _ _)
       | ret=>exact ⟨rfl,rfl⟩
   | loop c =>
     have plain:∀ {h1':(match ju true m c π hs s with
       | some (cs,eL, .normal,s')=>match ju false m (.loop c) π eL s' with
         | some (Ck,x)=>some (cs++Ck,x)
         | none=>none
       | r=>r)=some (cs,eL,e,s')},VW P G π (.loop c) (fun e' s2=>e'=e/\s2=s'.to) s.to:=by
       intro h
       split at h
       . rename_i c1 jv s1 h1
         split at h
         . rename_i c2 x h2
           simp only [Option.some.injEq,Prod.mk.injEq] at h
           obtain ⟨rfl,rfl⟩:=h
           obtain ⟨n,hn⟩:=Fs m (fun m' hm hs eL cs s s' e hr hc=>et m' c π hs eL cs s s' e hr hc) jv eL c2 s1 s' e h2 hc.right
           refine VW.rounds (n+1) ((et m c π hs jv c1 s s1 _ h1 hc.left).mono fun e' s2 hq => ?_)
           obtain ⟨rfl,rfl⟩:=hq
           exact hn
         . cases h
       . rename_i h1
         refine VW.rounds 1 ((et m c π hs eL cs s s' e h hc).mono fun e' s2 hq => ?_)
         obtain ⟨rfl,rfl⟩:=hq
         cases e' with
         | normal=>exact absurd h (h1 _ _ _)
         | exit i=>exact ⟨rfl,rfl⟩
         | ret=>exact ⟨rfl,rfl⟩
     cases hs with
     | nil=>simp only [ju] at h;exact plain (h1':=h)
     | cons y jv =>
     cases y with
     | lp π' c' t0 S0 n0 e1 t1 S1 n1 hv =>
       simp only [ju] at h
       split at h
       . rename_i hn
         simp only [Option.some.injEq,Prod.mk.injEq] at h
         obtain ⟨rfl,_,rfl,rfl⟩:=h
         have h2:=hc _ (List.mem_singleton.2 rfl)
         simp only [N7.lp.injEq] at h2
         obtain ⟨rfl,rfl,h3,h4⟩:=h2
         exact VW.wk (Wk.forget (HZ h3) (fun i=>af.wL (od h4) i) (Nat.le_of_ble_eq_true hn)) (VW.post (hv.mono fun e' s2 hq=>⟨_,⟨hq.1,rfl⟩,hq.2⟩))
       . cases h
     | _=>simp only [ju] at h;exact plain (h1':=h)
   | reg ps os =>
     simp only [ju] at h
     split at h
     . cases h
     . rename_i c1 jv rs t S h1
       cases ps with
       | none =>
         simp only [Option.some.injEq,Prod.mk.injEq] at h
         obtain ⟨rfl,rfl,rfl,rfl⟩:=h
         exact VW.UA (H2 ⟨rfl,rfl⟩ os _ _ _ _ _ _ h1 hc)
       | some ps =>
         simp only [] at h
         split at h
         . rename_i hap
           simp only [Option.some.injEq,Prod.mk.injEq] at h
           obtain ⟨rfl,rfl,rfl,rfl⟩:=h
           exact VW.UB (H0 ⟨FW hap,rfl,rfl⟩ os _ _ _ _ _ _ h1 hc)
         . cases h
 termination_by m=>m
end
end Go.VL
end

section
namespace Go.VL
class PU (c:AV):Prop where
 pure:aa c
 fix:∀ ρ,c.dT ρ = c
class H3 (l:List AV):Prop where
 pure:∀ c∈l,aa c
 fix:∀ ρ,b9 ρ l=l
instance:H3 []:=⟨by simp,fun _=>rfl⟩
instance {c:AV} {l:List AV} [h:PU c] [k:H3 l]:H3 (c::l):=⟨by intro d hd;rcases List.mem_cons.1 hd with rfl | hd;exact h.pure;exact k.pure d hd,fun ρ => by simp only [b9,h.fix,k.fix]⟩
instance {b:Bool}:PU (.bool b):=⟨aa.bool b,fun _=>rfl⟩
instance {k:IntKind} {n:Int}:PU (.int k n):=⟨aa.int k n,fun _=>rfl⟩
instance {l:List UInt8}:PU (.str l):=⟨aa.str l,fun _=>rfl⟩
instance:PU .nils:=⟨aa.nils,fun _=>rfl⟩
instance:PU .nilp:=⟨aa.nilp,fun _=>rfl⟩
instance:PU .nilf:=⟨aa.nilf,fun _=>rfl⟩
instance {l:List AV} [h:H3 l]:PU (.agg l):=⟨aa.agg h.pure,fun ρ => by simp only [AV.dT,h.fix]⟩
instance {l:List AV} [h:H3 l]:PU (.tup l):=⟨aa.tup h.pure,fun ρ => by simp only [AV.dT,h.fix]⟩
instance {l:List AV} {o:Nat} [h:H3 l]:PU (.ep l o):=⟨aa.ep h.pure,fun ρ => by simp only [AV.dT,h.fix]⟩
instance {f:Fn} {a c:List AV} [h:H3 a] [k:H3 c]:PU (.fn f a c):=⟨aa.fn h.pure k.pure,fun ρ => by simp only [AV.dT,h.fix,k.fix]⟩
theorem PU.slice {k:Nat} {l:List AV} (h:∀ c∈flat l,aa c) (hf:∀ c∈l,∀ ρ,c.dT ρ = c):PU (.sl k l):=⟨aa.sl h,fun ρ => by
 have e:b9 ρ l=l:=by rw [ja];exact (List.map_congr_left fun c hc=>hf c hc ρ).trans (List.map_id l)
 simp only [AV.dT,e]⟩
instance {k:Nat}:PU (.sl k []):=PU.slice (by simp [flat]) (by simp)
section
variable {P:Program} {G:Nat->Option (List AV)}
def hc {f:FuncId} {args:List AV} {r:AV} (h:VP P G f args r) [p:H3 args]:Hint P G := .vp f args r h p.pure
def hb (k:Nat) {x b:Bool} (h:x=b):Hint P G := .eq k (.bool x) (.bool b) (by rw [h])
def hw (k:Nat) {x y:Int} (h:x=y) (i:IntKind := .i64):Hint P G := .eq k (.int i x) (.int i y) (by rw [h])
def hv (k:Nat) {a b:AV} (h:a=b):Hint P G := .eq k a b h
def ho (k:Nat) {o:Option AV} {v:AV} (h:o=some v):Hint P G := .ev k (bz o) { val:=v } (by rw [h];rfl)
abbrev Pn (P:Program) (G:Nat->Option (List AV)):=Option (Pm × List (Hint P G) × bX × TS)
def Rl:bX->Bool
 | .normal=>true
 | .ret=>true
 | _=>false
def WM (rs:List uT):Pn P G->Option (List N7 × Bool × Option AV)
 | some (cs,_,e,s)=>some (cs.map (·.1),Rl e,aX rs s.to)
 | none=>none
def WN (r:AV):Pn P G->Option (List N7 × Bool × Option AV)
 | some (cs,_,_,_)=>some (cs.map (·.2),true,some r)
 | none=>some ([],true,none)
theorem Ca {e:bX} (h:Rl e=true):e = .normal∨e = .ret:=by cases e<;>simp [Rl] at h ⊢
abbrev Ny (vf:az) (args:List AV) (hs:List (Hint P G)):Pn P G:=ju true 1000 vf.body [] hs ⟨args++List.replicate (vf.nt-args.length) (.tup []),[],0⟩
theorem VP.tr {f:FuncId} {vf:az} (h:Has P f vf) (hs:List (Hint P G)) {args:List AV} {r:AV} [hp:PU r] (hr:WM vf.results (Ny vf args hs)=WN r (Ny vf args hs)):VP P G f args r:=by
 obtain ⟨fn,hf,hc⟩:=h
 refine VP.UC hf hc ?_
 cases hx:Ny vf args hs with
 | none=>rw [hx] at hr;simp [WM,WN] at hr
 | some y =>
   obtain ⟨cs,eL,e,s⟩:=y
   rw [hx] at hr
   simp only [WM,WN,Option.some.injEq,Prod.mk.injEq] at hr
   refine (et 1000 _ _ _ _ _ _ _ _ hx (sW.of_map hr.1)).mono fun e' s2 hq => ?_
   obtain ⟨rfl,rfl⟩:=hq
   exact ⟨Ca hr.2.1,r,hr.2.2,View.pure hp.pure⟩
def Dy (rs:List uT) (K:List (Id × cZ)):Pn P G->Option (List N7 × Bool × Option AV × List (Option cZ))
 | some (cs,_,e,s)=>some (cs.map (·.1),Rl e,aX rs s.to,K.map fun x=>s.S.find x.1)
 | none=>none
def Dz (r:AV) (K:List (Id × cZ)):Pn P G->Option (List N7 × Bool × Option AV × List (Option cZ))
 | some (cs,_,_,_)=>some (cs.map (·.2),true,some r,K.map fun x=>some x.2)
 | none=>some ([],true,none,[])
theorem VP.trV {f:FuncId} {vf:az} (h:Has P f vf) (hs:List (Hint P G)) (K:List (Id × cZ)) (r0:AV) {args:List AV} {r:AV} (hr:Dy vf.results K (Ny vf args hs)=Dz r0 K (Ny vf args hs))
   (hv:∀ σ : af,(∀ x∈K, σ x.1=some x.2)->View σ r0 r):VP P G f args r:=by
 obtain ⟨fn,hf,hc⟩:=h
 refine VP.UC hf hc ?_
 cases hx:Ny vf args hs with
 | none=>rw [hx] at hr;simp [Dy,Dz] at hr
 | some y =>
   obtain ⟨cs,eL,e,s⟩:=y
   rw [hx] at hr
   simp only [Dy,Dz,Option.some.injEq,Prod.mk.injEq] at hr
   refine (et 1000 _ _ _ _ _ _ _ _ hx (sW.of_map hr.1)).mono fun e' s2 hq => ?_
   obtain ⟨rfl,rfl⟩:=hq
   exact ⟨Ca hr.2.1,r0,hr.2.2.1,hv _ (od hr.2.2.2)⟩
def A2 (ρ : Id->Id) (K:List (Id × cZ)):List (Id × cZ):=K.map fun x=>(ρ x.1,x.2.dT ρ)
def N8 (K:List (Id × cZ)):dz:=K.map fun x=>(x.1,some x.2)
theorem Gc:∀ {K:List (Id × cZ)} {i:Id} {b:cZ},(N8 K).to i=some b->(i,b)∈K
 | [],_,_,h=>by cases h
 | (j,c)::K,i,b,h=>by
   have h':dz.find ((j,some c)::N8 K) i=some b:=h
   simp only [dz.find] at h'
   split at h'
   . rename_i he;simp only [Option.some.injEq] at h';subst h';rw [tH.1 he];simp
   . exact List.mem_cons_of_mem _ (Gc h')
theorem yc:∀ {S:List (Id × cZ)} {x:Id × cZ},(S.map (·.1)).Nodup->x∈S->af.of S x.1=some x.2
 | [],x,_,hx=>by simp at hx
 | (j,c)::S,x,hnd,hx=>by
   simp only [List.map_cons,List.nodup_cons] at hnd
   rcases List.mem_cons.1 hx with rfl | hx
   . simp [af.of]
   . have hne:x.1≠j:=fun e=>hnd.1 (List.mem_map.2 ⟨x,hx,e⟩)
     show List.lookup _ _=_
     rw [List.lookup_cons]
     have:(x.1==j)=false:=by simpa using hne
     rw [this]
     exact yc hnd.2 hx
theorem Nz {ρ : Id->Id}:∀ {K:List (Id × cZ)},((A2 ρ K).map (·.1)).Nodup->∀ x∈K,∀ y∈K,x.1≠y.1 -> ρ x.1 ≠ ρ y.1
 | [],_,x,hx,_,_,_=>by simp at hx
 | z::K,h,x,hx,y,hy,hne=>by
   have h':((ρ z.1,z.2.dT ρ)::A2 ρ K).map (·.1) |>.Nodup:=h
   simp only [List.map_cons,List.nodup_cons] at h'
   have hm:∀ w∈K, ρ w.1∈(A2 ρ K).map (·.1):=fun w hw=>List.mem_map.2 ⟨(ρ w.1,w.2.dT ρ),List.mem_map.2 ⟨w,hw,rfl⟩,rfl⟩
   rcases List.mem_cons.1 hx with Ic | Ic<;>rcases List.mem_cons.1 hy with PR | PR
   . exact absurd (by rw [Ic,PR]) hne
   . subst Ic;exact fun e=>h'.1 (e▸hm y PR)
   . subst PR;exact fun e=>h'.1 (e▸hm x Ic)
   . exact Nz h'.2 x Ic y PR hne
theorem VW.trR {vc:cy} {π : Id} {n:Nat} {κ : Nat->Id} {hs eL:List (Hint P G)} {cs:Pm} {t0:List AV} {S0:List (Id × cZ)} {e:bX} {s:TS} (hr:ju true 1000 vc [0] hs ⟨t0,N8 S0,0⟩=some (cs,eL,e,s)) (hc:sW cs) (hd:((A2 (m5 n π κ) S0).map (·.1)).Nodup) :
   VW P G π vc (fun e' s'=>e'=e/\s'.t=b9 (m5 n π κ) s.t/\s'.n=n+s.n/\Tv (m5 n π κ) s.S.to s'.σ) ⟨b9 (m5 n π κ) t0,af.of (A2 (m5 n π κ) S0),n⟩:=by
 refine (VW.dT (κ := κ) (n:=n) (et 1000 _ _ _ _ _ _ _ _ hr hc) (fun i b hb => ?_) fun i j hi hj hne => ?_).mono fun e' s' hq => ?_
 . exact yc hd (List.mem_map.2 ⟨(i,b),Gc hb,rfl⟩)
 . obtain ⟨b,hb⟩:=Option.ne_none_iff_exists'.1 hi
   obtain ⟨c,hc⟩:=Option.ne_none_iff_exists'.1 hj
   exact Nz hd _ (Gc hb) _ (Gc hc) hne
 . obtain ⟨s0,⟨rfl,rfl⟩,h1,h2,h3⟩:=hq
   exact ⟨rfl,h1,h2,h3⟩
def rest (XO S0:List (Id × cZ)):List (Id × cZ):=S0.filter fun x => !XO.any fun y=>Tz y.1 x.1
theorem aZ.tr {f:FuncId} {vf:az} (h:Has P f vf) (κ : Nat->Id) {p:Id} (hs:List (Hint P G)) {args:List AV} {S up:List (Id × cZ)} {val:AV} (pw:List AV) (S0:List (Id × cZ)) (TA:AV) (XO:List (Id × cZ))
   (hr:Dy vf.results (XO++rest XO S0) (ju true 1000 vf.body [0] hs ⟨pw++List.replicate (vf.nt-pw.length) (.tup []),N8 S0,0⟩)=Dz TA (XO++rest XO S0) (ju true 1000 vf.body [0] hs ⟨pw++List.replicate (vf.nt-pw.length) (.tup []),N8 S0,0⟩))
   (ha:b9 (m5 0 p κ) pw=args) (hS:A2 (m5 0 p κ) S0=S) (hv:TA.dT (m5 0 p κ)=val) (hu:A2 (m5 0 p κ) XO=up) (hd:(S.map (·.1)).Nodup) (yw:(up.map (·.1)).Nodup) :
   aZ P G f args p S { val,rd:=S.map (·.1),up:=up.map fun x=>(x.1,some x.2) }:=by
 subst ha;subst hS;subst hv;subst hu
 obtain ⟨fn,hf,hcf⟩:=h
 cases hx:ju true 1000 vf.body [0] hs ⟨pw++List.replicate (vf.nt-pw.length) (.tup []),N8 S0,0⟩ with
 | none=>rw [hx] at hr;simp [Dy,Dz] at hr
 | some y =>
   obtain ⟨cs,eL,e,s⟩:=y
   rw [hx] at hr
   simp only [Dy,Dz,Option.some.injEq,Prod.mk.injEq] at hr
   obtain ⟨hk,he,ho,hK⟩:=hr
   have hK':=od hK
   refine aZ.aap hf hcf ?_
   have e0:b9 (m5 0 p κ) pw++List.replicate (vf.nt-(b9 (m5 0 p κ) pw).length) (.tup [])=b9 (m5 0 p κ) (pw++List.replicate (vf.nt-pw.length) (.tup [])):=by
     rw [qj,iB]
     congr 1
     rw [ja,List.map_replicate];rfl
   rw [e0]
   refine (VW.trR (κ := κ) (n:=0) (π := p) hx (sW.of_map hk) hd).mono fun e' s' hq => ?_
   obtain ⟨rfl,h1,h2,h3⟩:=hq
   refine ⟨Ca he,_,Ty (s0:=s.to) h1 h3 ho,Fin.same rfl fun j => ?_⟩
   by_cases hj:∃ x∈(A2 (m5 0 p κ) XO).map (fun x=>(x.1,some x.2)),x.1=j
   . right
     obtain ⟨x,Ic,rfl⟩:=hj
     obtain ⟨y,hy,rfl⟩:=List.mem_map.1 Ic
     obtain ⟨z,hz,rfl⟩:=List.mem_map.1 hy
     have a1:s'.σ (m5 0 p κ z.1)=some (z.2.dT (m5 0 p κ)):=h3.1 _ _ (hK' z (List.mem_append_left _ hz))
     have a2:∀ (U:List (Id × cZ)) (σ : af),(U.map (·.1)).Nodup->∀ w∈U, σ.app (U.map fun x=>(x.1,some x.2)) w.1=some w.2:=by
       intro U
       induction U with
       | nil=>intro σ _ w hw;simp at hw
       | cons u U ih =>
         intro σ hn w hw
         simp only [List.map_cons,List.nodup_cons] at hn
         simp only [List.map_cons,af.app]
         rcases List.mem_cons.1 hw with rfl | hw
         . rw [af.Kq,af.dE]
           rintro x hx e
           obtain ⟨v,hv,rfl⟩:=List.mem_map.1 hx
           exact hn.1 (List.mem_map.2 ⟨v,hv,e⟩)
         . exact ih _ hn.2 w hw
     rw [a1]
     exact a2 _ _ yw _ (List.mem_map.2 ⟨z,hz,rfl⟩)
   . rw [af.Kq _ _ _ fun x hx e=>hj ⟨x,hx,e⟩]
     cases hl:(A2 (m5 0 p κ) S0).lookup j with
     | none=>exact .inl hl
     | some b =>
       right
       show List.lookup _ _=_
       rw [hl]
       obtain ⟨z,hz,ez⟩:=List.mem_map.1 (iq hl)
       simp only [Prod.mk.injEq] at ez
       obtain ⟨rfl,rfl⟩:=ez
       have hz2:z∈rest XO S0:=by
         refine List.mem_filter.2 ⟨hz, ?_⟩
         cases hb:XO.any fun y=>Tz y.1 z.1 with
         | false=>rfl
         | true =>
           obtain ⟨y,hy,hyz⟩:=List.any_eq_true.1 hb
           exact absurd ⟨(m5 0 p κ y.1,some (y.2.dT (m5 0 p κ))),List.mem_map.2 ⟨_,List.mem_map.2 ⟨y,hy,rfl⟩,rfl⟩,by rw [tH.1 hyz]⟩ hj
       exact (h3.1 _ _ (hK' z (List.mem_append_right _ hz2))).symm
theorem aZ.trs {f:FuncId} {vf:az} (h:Has P f vf) (κ : Nat->Id) {p:Id} (hs:List (Hint P G)) {args:List AV} {S:List (Id × cZ)} {val:AV} (pw:List AV) (S0:List (Id × cZ)) (TA:AV)
   (hr:Dy vf.results S0 (ju true 1000 vf.body [0] hs ⟨pw++List.replicate (vf.nt-pw.length) (.tup []),N8 S0,0⟩)=Dz TA S0 (ju true 1000 vf.body [0] hs ⟨pw++List.replicate (vf.nt-pw.length) (.tup []),N8 S0,0⟩))
   (ha:b9 (m5 0 p κ) pw=args) (hS:A2 (m5 0 p κ) S0=S) (hv:TA.dT (m5 0 p κ)=val) (hd:(S.map (·.1)).Nodup) :
   aZ P G f args p S { val,rd:=S.map (·.1) }:=by
 have e:([]:List (Id × cZ))++rest [] S0=S0:=by
   unfold rest
   rw [List.nil_append,List.filter_eq_self]
   intro x _;rfl
 exact aZ.tr (up:=[]) h κ hs pw S0 TA [] (by rw [e];exact hr) ha hS hv rfl hd List.nodup_nil
def WO (K:List (Id × cZ)) (t1:List AV) (n1:Nat):Pn P G->Option (List N7 × bX × Bool × List AV × List (Option cZ))
 | some (cs,_,e,s)=>some (cs.map (·.1),e,Nat.ble s.n n1,HY s.t t1,K.map fun x=>s.S.find x.1)
 | none=>none
def WQ (e1:bX) (K:List (Id × cZ)) (t1:List AV):Pn P G->Option (List N7 × bX × Bool × List AV × List (Option cZ))
 | some (cs,_,_,_)=>some (cs.map (·.2),e1,true,t1,K.map fun x=>some x.2)
 | none=>some ([],e1,true,[],[])
theorem WR {ρ : Id->Id}:∀ {cs ds:List AV},Fg cs ds->Fg (b9 ρ cs) (b9 ρ ds)
 | [],[],_=>trivial
 | c::cs,d::ds,h=>by
   simp only [Fg] at h
   refine ⟨?_,WR h.2⟩
   rcases h.1 with rfl | rfl
   . exact .inl rfl
   . exact .inr rfl
 | [],_::_,h=>by simp [Fg] at h
 | _::_,[],h=>by simp [Fg] at h
theorem VW.tr {vc:cy} {π : Id} {n:Nat} (κ : Nat->Id) (hs:List (Hint P G)) {t t':List AV} {S K:List (Id × cZ)} {Q:bX->VS->Prop} (t0:List AV) (S0:List (Id × cZ)) (e1:bX) (t1:List AV) (K0:List (Id × cZ)) (n1:Nat)
   (hr:WO K0 t1 n1 (ju true 1000 vc [0] hs ⟨t0,N8 S0,0⟩)=WQ e1 K0 t1 (ju true 1000 vc [0] hs ⟨t0,N8 S0,0⟩))
   (ht:b9 (m5 n π κ) t0=t) (hS:A2 (m5 n π κ) S0=S) (Ay:b9 (m5 n π κ) t1=t') (hK:A2 (m5 n π κ) K0=K) (hd:(S.map (·.1)).Nodup) (hq:∀ s,Wk G π s ⟨t',af.of K,n+n1⟩->Q e1 s) :
   VW P G π vc Q ⟨t,af.of S,n⟩:=by
 subst ht;subst hS;subst Ay;subst hK
 cases hx:ju true 1000 vc [0] hs ⟨t0,N8 S0,0⟩ with
 | none=>rw [hx] at hr;simp only [WO,WQ] at hr;cases hr
 | some y =>
   obtain ⟨cs,eL,e,s⟩:=y
   rw [hx] at hr
   simp only [WO,WQ,Option.some.injEq,Prod.mk.injEq] at hr
   obtain ⟨hk,rfl,hn,hm,hK⟩:=hr
   refine (VW.trR (κ := κ) (n:=n) (π := π) hx (sW.of_map hk) hd).mono fun e' s' hq' => ?_
   obtain ⟨rfl,h1,h2,h3⟩:=hq'
   refine hq s' ?_
   obtain ⟨t2, σ2,n2⟩:=s'
   simp only [] at h1 h2 h3
   subst h1;subst h2
   refine Wk.forget (WR (HZ hm)) (fun j=>af.wL (fun x hx => ?_) j) (Nat.add_le_add_left (Nat.le_of_ble_eq_true hn) _)
   obtain ⟨z,hz,rfl⟩:=List.mem_map.1 hx
   exact h3.1 _ _ (od hK z hz)
end
end Go.VL
end

section
set_option linter.unusedVariables false
namespace Go.VL
theorem WS (ws:List Nat) (ρ : Id->Id):b9 ρ (us ws)=us ws:=by
 rw [ja];unfold us;rw [List.map_map];rfl
theorem H3.map {α : Type} {f : α -> AV} (h:∀ x,PU (f x)) (l:List α):H3 (l.map f):=⟨by intro c hc;obtain ⟨x,_,rfl⟩:=List.mem_map.1 hc;exact (h x).pure,fun ρ => by rw [ja,List.map_map];exact List.map_congr_left fun x _=>(h x).fix ρ⟩
theorem H3.cells {c:AV} (h:PU c) (hp:∀ d∈c.cells,aa d):H3 c.cells:=⟨hp,fun ρ => by rw [<- AJ,h.fix]⟩
theorem PU.rows {α : Type} {f : α -> AV} {k:Nat} (h:∀ x,PU (f x)) (hp:∀ x,∀ d∈(f x).cells,aa d) (l:List α):PU (.sl k (l.map f)):=PU.slice (by
 intro c hc
 simp only [flat,List.mem_flatMap,List.mem_map] at hc
 obtain ⟨_,⟨x,_,rfl⟩,hc⟩:=hc
 exact hp x c hc) (by intro c hc ρ;obtain ⟨x,_,rfl⟩:=List.mem_map.1 hc;exact (h x).fix ρ)
instance {ws:List Nat}:PU (.sl 1 (us ws)):=⟨C6 ws,fun ρ => by show AV.sl 1 (b9 ρ (us ws))=_;rw [WS]⟩
instance {i:IntKind} {n:Int}:PU (.sl 1 [.int i n]):=PU.slice (by intro c hc;simp [flat,AV.cells] at hc;subst hc;exact aa.int _ _) (by intro c hc ρ;simp at hc;subst hc;rfl)
instance {n:Nat}:PU (W n):=⟨aB n,fun ρ => by show AV.sl 1 (b9 ρ (us (digits n)))=_;rw [WS];rfl⟩
instance {z:Int}:PU (IV z):=by unfold IV;infer_instance
instance {q:Rat}:PU (QV q):=by unfold QV RV;infer_instance
instance {q:Rat}:PU (EV q):=PU.slice (by intro c hc;simp only [flat,List.flatMap_cons,List.flatMap_nil,List.append_nil] at hc;exact Dn q c hc) (by intro c hc ρ;simp at hc;subst hc;exact PU.fix ρ)
instance {q:Rat}:PU (NV q):=by unfold NV;infer_instance
instance {v:Q2}:PU (V2 v):=by unfold V2;infer_instance
instance {x:CX}:PU x.av:=by unfold CX.av CX.cells;infer_instance
instance {x:NX}:PU x.av:=by unfold NX.av CX.cells;infer_instance
instance {x:DX}:PU x.av:=by unfold DX.av;infer_instance
instance {l:List NX}:PU (dB l):=PU.rows (fun x=>inferInstance) Dt l
instance {l:List CX}:PU (IP l):=PU.rows (fun x=>inferInstance) HR l
instance {l:List DX}:PU (Lq l):=PU.rows (fun x=>inferInstance) (fun x d hd=>by
 simp only [DX.av,AV.cells,List.mem_cons,List.not_mem_nil,or_false] at hd
 rcases hd with rfl | rfl | rfl | rfl | rfl | rfl | rfl | rfl<;>first | exact aa.bool _ | exact aa.int _ _) l
instance {l:List (List UInt8)}:PU (strs l):=PU.rows (f:=AV.str) (fun x=>inferInstance) (fun x d hd=>by simp only [AV.cells,List.mem_singleton] at hd;subst hd;exact aa.str x) l
theorem kW {ρ : Id->Id} {c:AV} {l:List AV}:b9 ρ (c::l)=c.dT ρ :: b9 ρ l:=rfl
theorem pk {ρ : Id->Id}:b9 ρ []=[]:=rfl
theorem H4 {ρ : Id->Id} {n:Nat}:b9 ρ (List.replicate n .top)=List.replicate n .top:=by rw [ja,List.map_replicate];rfl
theorem PU.fixed {c:AV} [h:PU c] {ρ : Id->Id}:c.dT ρ = c:=h.fix ρ
theorem Ld {ρ : Id->Id} {i:Id} {e o:Nat}:AV.dT ρ (.ref i e o) = .ref (ρ i) e o:=rfl
theorem Le {ρ : Id->Id}:AV.dT ρ .top = .top:=rfl
theorem gj {ρ : Id->Id} {l:List AV} {k:Nat} {b:Bool}:cZ.dT ρ ⟨l,k,b⟩=⟨b9 ρ l,k,b⟩:=rfl
theorem dC {ρ : Id->Id} {x:Id × cZ} {K:List (Id × cZ)}:A2 ρ (x::K)=(ρ x.1,x.2.dT ρ)::A2 ρ K:=rfl
theorem eJ {ρ : Id->Id}:A2 ρ []=[]:=rfl
theorem tI {ρ : Id->Id} {l:List NX}:b9 ρ (l.map NX.av)=l.map NX.av:=(H3.map (fun x=>inferInstance) l).fix ρ
theorem acL {ρ : Id->Id}:eB.dT ρ = eB:=rfl
section
variable {P:Program} {G:Nat->Option (List AV)}
def il {f:FuncId} {args lL:List AV} {r:AV} (S:List (Id × cZ)) (h:VP P G f lL r) (hv:aG (af.of S) args lL):Hint P G := .rel f args S (fun _=>{ val:=r,rd:=S.map (·.1),up:=E6 S }) (fun p _=>aZ.Kt h hv) (fun p x hx=>List.mem_map.2 ⟨x,hx,rfl⟩)
def bj {f:FuncId} {args:List AV} {r:AV} (id:Id) (h:bF P G f args r):Hint P G := .rel f (.ref id 0 0::args) [(id,eB)] (fun _=>{ val:=r,rd:=[id] }) (fun p hp=>h p id (hp (id,eB) (by simp))) (fun p x hx=>by simp at hx;subst hx;simp)
theorem bF.tr {f:FuncId} {vf:az} (h:Has P f vf) (hs:List (Hint P G)) {args:List AV} {r:AV} [ha:H3 args] [hr:PU r]
   (hx:Dy vf.results [([1],eB)] (ju true 1000 vf.body [0] hs ⟨(.ref [1] 0 0::args)++List.replicate (vf.nt-(AV.ref [1] 0 0::args).length) (.tup []),N8 [([1],eB)],0⟩)=Dz r [([1],eB)] (ju true 1000 vf.body [0] hs ⟨(.ref [1] 0 0::args)++List.replicate (vf.nt-(AV.ref [1] 0 0::args).length) (.tup []),N8 [([1],eB)],0⟩)):bF P G f args r:=fun p id jZ =>
 aZ.trs h (fun _=>id) hs (.ref [1] 0 0::args) [([1],eB)] r hx (by rw [kW,ha.fix];rfl) rfl (hr.fix _) (by simp)
end
end Go.VL
end

section
set_option linter.unusedSimpArgs false
set_option linter.unusedVariables false
set_option maxRecDepth 100000
namespace Go.VL
open Go.Lib
theorem NA {q:Id} {l:List NX} (h:l≠[]):OL q 15 (l.map NX.av) = .osl q 15 0 l.length false:=by rw [Fm (by simpa using h)];simp
def BL (q:Id) (l:List NX):List (Id × cZ):=if l=[] then [] else [(q,⟨l.map NX.av,15,false⟩)]
theorem H5 {q:Id} {l:List NX} (h:l≠[]):BL q l=[(q,⟨l.map NX.av,15,false⟩)]:=if_neg h
section
variable {P:Program} {G:Nat->Option (List AV)} {Q:bX->VS->Prop}
end
end Go.VL
end

section
set_option linter.unusedSimpArgs false
set_option linter.unusedVariables false
set_option maxRecDepth 100000
namespace Go.VL
open Go.Lib
theorem afO {a:Int} (h:a.natAbs<aE):Sm 1 (a:Rat):=⟨fK (by rw [Nat.pow_one];exact h),wh⟩
section
variable {P:Program} {G:Nat->Option (List AV)}
theorem WT {f fg fs:FuncId} (h:Has P f (kF fg fs)) (L:List NX) (e:Int) (hg:VP P G fg [dB L] (.bool true)) (hs:VP P G fs [dB L,dB L] (.bool true)):VP P G f [dB L, .int .i64 e,dB L, .int .i64 e] (.bool true) :=
 VP.tr h [hb 11 (beq_self_eq_true e),hc hg,hc hs] (by kernel_rfl)
theorem TB {f fg fs:FuncId} (h:Has P f (kF fg fs)) (e:Int) (hg:VP P G fg [dB []] (.bool true)) (hs:VP P G fs [dB [],dB []] (.bool true)):VP P G f [.nils, .int .i64 e, .nils, .int .i64 e] (.bool true) :=
 VP.tr h [hb 11 (beq_self_eq_true e),il [] hg (aG.cons (View.nils 15) aG.nil),il [] hs (aG.cons (View.nils 15) (aG.cons (View.nils 15) aG.nil))] (by kernel_rfl)
end
end Go.VL
end

section
set_option maxRecDepth 100000
namespace Go.Proofs.YtchdghnpcekegaaGreat
open Go.VL Go.Proofs
section
variable (G:Nat->Option (List AV))
theorem t145:iW Tryz.prog G 127:=fun _ hw hl=>QK Ej hw hl
theorem c95 (n:Nat) (hn:ag n<=1000000):VP Tryz.prog G 175 [W n] (W n):=Su po n hn
theorem NB:iZ Tryz.prog G 191:=OG BG (t145 G)
theorem Rm (n:Nat) (hn:n<18446744073709551616):VP Tryz.prog G 192 [.int .u64 ((n:Nat):Int)] (W n):=Ff zS (t145 G) n hn
theorem aa8 (n:Nat) (hn:n<18446744073709551616):VP Tryz.prog G 296 [W n] (.int .u64 ((n:Nat):Int)):=Tryz.toUint_vp G n hn
theorem ajd (a:Int):VP Tryz.prog G 288 [.int .i64 a] (.bool false):=Ov CU a
theorem aje (a:Int):VP Tryz.prog G 301 [.int .u32 a] (.bool false):=II zV a
theorem afQ (a b:Int):VP Tryz.prog G 254 [.int .i64 a, .int .i64 b] (.int .i64 (jm a b)):=Ow AU (ajd G) a b
theorem ajf (a b:Int):VP Tryz.prog G 289 [.int .u32 a, .int .u32 b] (.int .i64 (jm a b)):=IJ xv (aje G) a b
theorem WU (m n:Nat) (hm:ag m<=1000000) (hn:ag n<=1000000):VP Tryz.prog G 255 [W m,W n] (.int .i64 (fY m n)):=Ox AO (afQ G) (ajf G) m n (by omega) (by omega)
theorem ZD (m n:Nat) (hm:ag m<=1000000) (hn:ag n<=1000000):VP Tryz.prog G 276 [W m,W n] (W (m+n)):=Yu Ek m n hm hn
theorem afR (m n:Nat) (uS:n<=m) (hm:ag m<=1000000):VP Tryz.prog G 277 [W m,W n] (W (m-n)):=Va CQ (t145 G) m n uS hm
theorem ajg (m n:Nat) (hm:ag m<=1000000) (hn:ag n<=1000000):VP Tryz.prog G 256 [W m,W n] (W (m*n)):=Vb CR (t145 G) m n hm hn
theorem d189 (m w:Nat) (hm:ag m<=1000000) (hw:w<aE) (h0:w≠0):VP Tryz.prog G 304 [W m, .int .u32 (w:Int)] (.tup [W (m/w),W (m%w)]):=IK xu (t145 G) (Rm G) m w hm hw h0
theorem l90 (x:Nat) (hx:x<aE):VP Tryz.prog G 316 [.int .u32 (x:Int)] (.int .i64 (iE x:Int)):=HB ni x hx
theorem ajh (x:Nat) (hx:x<aE) (h0:0<x):VP Tryz.prog G 305 [.int .u32 (x:Int)] (.int .i64 ((32-iE x:Nat):Int)):=YC qE (l90 G) x hx h0
theorem d164 (m n:Nat) (F0:n≠0) (hm:ag m<=900000) (hn:ag n<=900000):VP Tryz.prog G 295 [W m,W n] (.tup [W (m/n),W (m%n)]) :=
 SB BH (WU G) (c95 G) (aa8 G) (Rm G) (d189 G) (ajh G) yQ (t145 G) zT AP kH m n F0 hm hn
theorem acM (z:Int) (hz:ag z.natAbs<=1000000):VP Tryz.prog G 66 [IV z] (.int .i64 z.sign):=YD El (t145 G) z hz
theorem aa9 (a:Int) (h1 : -9223372036854775808<=a) (h2:a<9223372036854775808):VP Tryz.prog G 154 [.int .i64 a] (IV a):=OH AQ (Rm G) (NB G) a h1 h2
theorem afS (z:Int) (hz:ag z.natAbs<=1000000):VP Tryz.prog G 246 [IV z] (IV (-z)):=abY FH (t145 G) (c95 G) (NB G) z hz
theorem aji (y z:Int) (hy:ag y.natAbs<=1000000) (hz:ag z.natAbs<=1000000):VP Tryz.prog G 220 [IV y,IV z] (IV (y*z)):=abZ FI (t145 G) (ajg G) (NB G) y z hy hz
theorem ajj (y z:Int) (hy:ag y.natAbs<=1000000) (hz:ag z.natAbs<=1000000):VP Tryz.prog G 219 [IV y,IV z] (.int .i64 (jm y z)):=ab0 FG (acM G) (afQ G) (t145 G) (WU G) y z hy hz
theorem afT (a b:Int) (IL:b≠0) (ha:ag a.natAbs<=900000) (hb:ag b.natAbs<=900000):VP Tryz.prog G 300 [IV a,IV b] (.tup [IV (a.fdiv b),IV (a.fmod b), .int .i64 0]):=by
 have h:=Sw BI (t145 G) (d164 G) (ZD G) (afR G) (NB G) a b IL ha hb
 rw [(Vn a b IL).1,(Vn a b IL).2] at h;exact h
theorem afU (a b:Int) (ha:ag a.natAbs<=900000) (hb:ag b.natAbs<=900000):VP Tryz.prog G 271 [IV a,IV b] (IV (Nat.gcd a.natAbs b.natAbs:Nat)):=ab7 FJ (t145 G) (d164 G) (c95 G) (NB G) (aa8 G) (Rm G) a b ha hb
theorem afV (neg:Bool) (ws:List Nat) (hl:ws.length<=9223372036854775807):VP Tryz.prog G 270 [IR neg ws] (.bool (pU neg ws)):=Sz CS neg ws hl
theorem acN:VP Tryz.prog G 155 [] (IV 1):=ab1 Em (aa9 G 1 (by decide) (by decide))
theorem i138 (z:Int):VP Tryz.prog G 248 [IV z] (.bool (decide (z=1))):=Vi BJ z
theorem ajk (a b:Int) (IL:b≠0) (ha:ag a.natAbs<=900000) (hb:ag b.natAbs<=900000):VP Tryz.prog G 278 [IV a,IV b] (IV (a.fdiv b)):=ab5 En a b (i138 G b) (afT G a b IL ha hb)
theorem acO (a:Int) (h1 : -9223372036854775808<=a) (h2:a<9223372036854775808):VP Tryz.prog G 101 [.int .i64 a] (RV a 1):=MH zU a (aa9 G a h1 h2) (acN G)
theorem afW (a b:Int) (ha:ag a.natAbs<=1000000):VP Tryz.prog G 36 [RV a b] (.int .i64 a.sign):=MI CT a b (acM G a ha)
theorem afX (a b:Int) (IL:b≠0) (ha:ag a.natAbs<=900000) (hb:ag b.natAbs<=900000) :
   VP Tryz.prog G 250 [IV a,IV b] (RV (a.fdiv (if b<0 then -(Nat.gcd a.natAbs b.natAbs:Nat) else (Nat.gcd a.natAbs b.natAbs:Nat))) (b.fdiv (if b<0 then -(Nat.gcd a.natAbs b.natAbs:Nat) else (Nat.gcd a.natAbs b.natAbs:Nat)))):=by
 have hg0:0<Nat.gcd a.natAbs b.natAbs:=Nat.gcd_pos_of_pos_right _ (by omega)
 have hgl:ag (Nat.gcd a.natAbs b.natAbs)<=900000:=Nat.le_trans (bE (Nat.le_of_dvd (by omega) (Nat.gcd_dvd_right _ _))) hb
 refine Sy AR a b (Nat.gcd a.natAbs b.natAbs:Nat) (afU G a b ha hb) (afS G _ (by rw [Int.natAbs_natCast];omega)) ?_
 intro x y hx hy
 have Vq:y≠0:=by rcases hy with rfl | rfl<;>omega
 have hyl:ag y.natAbs<=900000:=by rcases hy with rfl | rfl<;>simpa using hgl
 exact ajk G x y Vq (by rcases hx with rfl | rfl<;>assumption) hyl
end
end Go.Proofs.YtchdghnpcekegaaGreat
end

section
set_option maxRecDepth 100000
namespace Go.Proofs.YtchdghnpcekegaaGreat
open Go.VL Go.Proofs
section
variable (G:Nat->Option (List AV))
theorem afY:Has Tryz.prog 138 gm:=vA
theorem ajl:Has Tryz.prog 84 (j6 138):=uo
theorem t203:iW Tryz.prog G 138:=fun _ hw hl=>QK afY hw hl
theorem Po:iZ Tryz.prog G 83:=OO sK (t203 G)
theorem ZE (z:Int) (hz:ag z.natAbs<=1000000):VP Tryz.prog G 252 [IV z] (IV z):=VB vC (Po G) z hz
theorem acP (z:Int) (hz:ag z.natAbs<=1000000):VP Tryz.prog G 215 [IV z] (.int .i64 z.sign):=SD vF (ZE G) z hz
theorem afZ (n:Nat) (hn:n<18446744073709551616):VP Tryz.prog G 84 [.int .u64 ((n:Nat):Int)] (W n):=Ff ajl (t203 G) n hn
theorem Rn (a:Int) (h1 : -9223372036854775808<=a) (h2:a<9223372036854775808):VP Tryz.prog G 40 [.int .i64 a] (IV a):=SE rX (afZ G) (Po G) a h1 h2
theorem af0 (m n:Nat) (hm:ag m<=1000000) (hn:ag n<=1000000):VP Tryz.prog G 279 [W m,W n] (.int .i64 (fY m n)):=MQ rY m n hm hn
theorem ajm (m n:Nat) (hm:ag m<=1000000) (hn:ag n<=1000000):VP Tryz.prog G 292 [W m,W n] (W (m+n)):=VD vD (t203 G) m n hm hn
theorem ajn (m n:Nat) (uS:n<=m) (hm:ag m<=1000000):VP Tryz.prog G 285 [W m,W n] (W (m-n)):=JP nw (t203 G) m n uS hm
theorem af1 (m:Nat) (ws:List Nat) (hw:Wd ws) (hm:ag m<=1000000) (hl:ws.length<=1000000):VP Tryz.prog G 293 [W m, .sl 1 (us ws)] (W (m*val ws)):=HI nx (t203 G) m hw hm hl
theorem ajo (m n:Nat) (hm:ag m<=1000000) (hn:ag n<=1000000):VP Tryz.prog G 293 [W m,W n] (W (m*n)):=SF nx (t203 G) m n hm hn
theorem ajp (m w:Nat) (hm:ag m<=1000000) (hw:w<aE) (h0:w≠0):VP Tryz.prog G 281 [W m, .int .u32 (w:Int)] (.tup [W (m/w), .int .u32 ((m%w:Nat):Int)]):=acu yR (t203 G) m w hm hw h0
theorem af2 (n:Nat) (hn:n<18446744073709551616):VP Tryz.prog G 280 [W n] (.int .u64 (n:Int)):=VC uq n hn
theorem af3 (m s:Nat) (hm:ag m<=1000000) (hs:s<=31):VP Tryz.prog G 286 [W m, .int .i64 (s:Int)] (W (m/2 ^ s)):=YR vE (t203 G) m s hm hs
theorem d204 (m n:Nat) (F0:n≠0) (hm:ag m<=900000) (hn:ag n<=900000):VP Tryz.prog G 251 [W m,W n] (.tup [W (m/n),W (m%n)]) :=
 OR sM (af0 G) (af2 G) (afZ G) (ajp G) sL rZ (t203 G) afY ur (af1 G) nw (af3 G) m n F0 hm hn
theorem aba (z:Int) (hz:ag z.natAbs<=1000000):VP Tryz.prog G 216 [IV z] (IV (-z)):=YO xw (Po G) z hz
theorem af4 (a b:Int) (ha:ag a.natAbs<=1000000) (hb:ag b.natAbs<=1000000):VP Tryz.prog G 264 [IV a,IV b] (IV (a+b)):=YT xx (ZE G) (ajm G) (Po G) (af0 G) (ajn G) a b ha hb
theorem af5 (a b:Int) (ha:ag a.natAbs<=1000000) (hb:ag b.natAbs<=1000000):VP Tryz.prog G 287 [IV a,IV b] (IV (a-b)):=YU xy (aba G) (af4 G) a b ha hb
theorem abb (a b:Int) (ha:ag a.natAbs<=1000000) (hb:ag b.natAbs<=1000000):VP Tryz.prog G 265 [IV a,IV b] (IV (a*b)):=VK xz (ZE G) (ajo G) (Po G) a b ha hb
theorem ajq (a b:Int) (ha:ag a.natAbs<=900000) (hb:ag b.natAbs<=900000):VP Tryz.prog G 214 [IV a,IV b] (IV (Nat.gcd a.natAbs b.natAbs:Nat)):=YV xA (t203 G) (d204 G) (Po G) a b ha hb
theorem af6 (neg:Bool) (ws:List Nat) (hw:Wd ws) (hl:ws.length<=9223372036854775807):VP Tryz.prog G 266 [IR neg ws] (.bool (pU neg ws)):=OS um (t203 G) neg ws hw hl
theorem acQ (a:Int) (h1 : -9223372036854775808<=a) (h2:a<9223372036854775808):VP Tryz.prog G 15 [.int .i64 a] (RV a 1):=KQ r6 a (Rn G a h1 h2) (Rn G 1 (by decide) (by decide))
theorem af7 (z:Int):VP Tryz.prog G 263 [IV z] (.bool (decide (z=1))):=VN xC z
theorem ajr:Has Tryz.prog 242 (nE 215):=vG
theorem af8 (a b:Int) (ha:ag a.natAbs<=1000000):VP Tryz.prog G 242 [RV a b] (.int .i64 a.sign):=MI ajr a b (acP G a ha)
theorem ajs:Has Tryz.prog 236 (pD 266 215 214 263):=uu
end
end Go.Proofs.YtchdghnpcekegaaGreat
end

section
set_option maxRecDepth 100000
namespace Go.VL
theorem WV (z:Int):pU (decide (z<0)) (digits z.natAbs)=true:=by
 unfold pU
 by_cases h:digits z.natAbs=[]
 . rw [if_pos h]
   have:=nA.1 h
   have : ¬ z<0:=by omega
   simp [this]
 . rw [if_neg h]
   obtain ⟨w,h1,h2⟩:=(Ac (n:=z.natAbs)).resolve_left h
   rw [List.getLast?_eq_getElem?] at h1
   rw [h1];simpa using h2
section
variable {P:Program} {G:Nat->Option (List AV)}
theorem abc {f:FuncId} (h:∀ neg ws,Wd ws->ws.length<=9223372036854775807->VP P G f [IR neg ws] (.bool (pU neg ws))) (z:Int) (hz:ag z.natAbs<=1000000):VP P G f [IV z] (.bool true):=by
 have:=h (decide (z<0)) (digits z.natAbs) (aW _) (by unfold ag at hz;omega)
 rw [WV] at this;exact this
theorem J1 {f fv fs fg fo:FuncId} (h:Has P f (pD fv fs fg fo)) (hv:∀ z:Int,ag z.natAbs<=1000000->VP P G fv [IV z] (.bool true)) (hs:KT P G fs) (hg:JR P G fg) (ho:HN P G fo):F5 P G f:=fun q hq=>by
 have h1:=hv q.num (by have:=hq.1;omega)
 have h2:=hv q.den (by have:=hq.2;rw [Int.natAbs_natCast];omega)
 have h3:=hs q.den (by have:=hq.2;rw [Int.natAbs_natCast];omega)
 have h4:=hg q.num q.den (by have:=hq.1;omega) (by have:=hq.2;rw [Int.natAbs_natCast];omega)
 have h5:=ho ((Nat.gcd q.num.natAbs (q.den:Int).natAbs:Nat):Int)
 rw [Int.natAbs_natCast] at h4 h5
 have e:Nat.gcd q.num.natAbs q.den=1:=q.reduced
 rw [e] at h4 h5
 rw [Int.sign_eq_one_of_pos (wj q)] at h3
 exact VP.tr h [hc h1,hc h2,hc h3,hc h4,hc h5] (by kernel_rfl)
theorem ZF {f fi fm fo fl:FuncId} (h:Has P f (ox fi fm fo fl)) (hi:HN P G fi) (hm:Fj P G fm) (ho:VP P G fo [] (IV 1)) (hl:YY P G fl):Q4 P G f:=fun a b ha hb=>by
 obtain ⟨a1,a2⟩:=ha
 obtain ⟨b1,b2⟩:=hb
 have n1:=cf a.num b.num
 have n2:=cf (a.den:Int) (b.den:Int)
 rw [Int.natAbs_natCast,Int.natAbs_natCast] at n2
 have Au:=hl (a.num*b.num) (a.den*b.den) (x9 a b) (by omega) (by omega)
 rw [<- VO] at Au
 have h1:=YH h a.num a.den b.num b.den (QV (a*b)) (x1:=(a*b).num) (x2:=(a*b).den) rfl hi (hm _ _ (by omega) (by omega)) (hm _ _ (by rw [Int.natAbs_natCast];omega) (by rw [Int.natAbs_natCast];omega)) ho Au
 by_cases hd:(a.den:Int)=1/\(b.den:Int)=1
 . rw [if_pos hd] at h1
   have e:a*b=((a.num*b.num:Int):Rat):=by
     rw [VO,hd.1,hd.2];show ((a.num*b.num:Int):Rat)/(1:Rat)=_;rw [Rat.div_def,show (1:Rat)⁻¹ = 1 from by decide +kernel,Rat.mul_one]
   rw [e];exact h1
 . rw [if_neg hd] at h1;exact h1
end
end Go.VL
end

section
set_option maxRecDepth 100000
namespace Go.Proofs.YtchdghnpcekegaaGreat
open Go.VL Go.Proofs
section
variable (G:Nat->Option (List AV))
theorem ajt:M1 Tryz.prog G 249:=YZ FK (t145 G) (ZD G) (NB G) (WU G) (afR G)
theorem TC:Fj Tryz.prog G 220:=fun a b ha hb=>aji G a b (by omega) (by omega)
theorem aju:M3 Tryz.prog G 246:=fun a ha=>afS G a (by omega)
theorem WW:KT Tryz.prog G 66:=fun a ha=>acM G a (by omega)
theorem acR:aaR Tryz.prog G 219:=fun a b ha hb=>ajj G a b (by omega) (by omega)
theorem acS:HN Tryz.prog G 248:=fun z=>i138 G z
theorem ajv:JR Tryz.prog G 271:=fun a b ha hb=>afU G a b (by omega) (by omega)
theorem acT:YY Tryz.prog G 250:=fun a b hb ha TW=>by rw [<- HL a b hb];exact afX G a b hb (by omega) (by omega)
theorem WX:F5 Tryz.prog G 245:=J1 BM (abc fun neg ws _ hl=>afV G neg ws hl) (WW G) (ajv G) (acS G)
theorem ajw:Q5 Tryz.prog G 208:=Y0 Es (aju G)
theorem WY:OY Tryz.prog G 36:=fun q hq=>afW G q.num q.den (by have:=hq.1;omega)
theorem ajx:aaS Tryz.prog G 185:=Y1 Ep (WY G) (TC G) (acR G)
theorem af9:Q3 Tryz.prog G 213:=Y2 Er (acS G) (ajt G) (acN G) (TC G) (acT G)
theorem ajy:Q4 Tryz.prog G 227:=ZF Eo (acS G) (TC G) (acN G) (acT G)
theorem ZG:aaU Tryz.prog G 101:=fun a h1 h2=>acO G a h1 h2
theorem aga (z:Int):VP Tryz.prog G 258 [IV z] (.bool (decide (z=0))):=SU AW z
theorem ajz:aaT Tryz.prog G 223:=Y3 Et (aga G) (TC G) (acT G)
theorem agb:VT Tryz.prog G 252:=fun z hz=>ZE G z hz
theorem ajA:M1 Tryz.prog G 264:=fun a b ha hb=>af4 G a b (by omega) (by omega)
theorem agc:Fj Tryz.prog G 265:=fun a b ha hb=>abb G a b (by omega) (by omega)
theorem agd:M3 Tryz.prog G 216:=fun a ha=>aba G a (by omega)
theorem abd:KT Tryz.prog G 215:=fun a ha=>acP G a (by omega)
theorem acU:HN Tryz.prog G 263:=fun z=>af7 G z
theorem ZH:JR Tryz.prog G 214:=fun a b ha hb=>ajq G a b (by omega) (by omega)
theorem acV:Q6 Tryz.prog G 217:=fun a b hb hd ha TW=>VV xB a b (VU sN (agb G) (d204 G) (Po G) (abb G) (af5 G) (acP G) a b hb hd (by omega) (by omega))
theorem Pp:aaU Tryz.prog G 15:=fun a h1 h2=>acQ G a h1 h2
theorem age:OY Tryz.prog G 242:=fun q hq=>af8 G q.num q.den (by have:=hq.1;omega)
theorem ajB:Q3 Tryz.prog G 230:=V3 xF (acU G) (ajA G) (ZH G) (agc G) (acV G)
theorem ajC:Q4 Tryz.prog G 231:=SZ xD (Pp G 0 (by decide) (by decide)) (acU G) (agc G) (ZH G) (acV G)
theorem ajD:Q5 Tryz.prog G 218:=VX xG (agd G)
theorem acW:F5 Tryz.prog G 236:=J1 ajs (abc fun neg ws hw hl=>af6 G neg ws hw hl) (abd G) (ZH G) (acU G)
theorem abe:Wt Tryz.prog G 140:=fun a b IL hb h1 h2=>by
 have a1:ag a.natAbs<=1:=fK (by rw [Nat.pow_one];unfold aE;omega)
 have b1:ag b<=1:=fK (by rw [Nat.pow_one];unfold aE;omega)
 exact SW vJ a b IL (Rn G a (by omega) (by omega)) (Rn G b (by omega) (by omega)) (SV vI (ZH G) (abd G) (acV G) a b IL (by omega) (by omega))
end
end Go.Proofs.YtchdghnpcekegaaGreat
end

section
set_option maxRecDepth 100000
namespace Go.Proofs.YtchdghnpcekegaaGreat
open Go.VL Go.Proofs
section
variable (G:Nat->Option (List AV))
theorem tn (q:Rat) (hq:Sm 100000 q):VP Tryz.prog G 207 [EV q, .int .i64 1] (.bool true):=OZ CV lC mW AX (WX G) q hq
theorem trd:VP Tryz.prog G 206 [.nils] (.bool true):=KU AY
theorem tF (q:Rat) (hq:Sm 100000 q):VP Tryz.prog G 173 [.nils,EV q] (.bool true):=O0 Eu q (trd G) (tn G q hq)
theorem tf (a b:Rat) (ha:Sm 100000 a) (hb:Sm 100000 b):VP Tryz.prog G 177 [.nils,EV a,EV b] (.bool true):=O1 Ev a b (tF G a ha) (tn G b hb)
theorem ajE (a b:Rat) (ha:Sm 100000 a) (hb:Sm 100000 b):VP Tryz.prog G 135 [.nils,EV a,EV b] (EV (a+b)):=Y8 Iz a b (tf G a b ha hb) (Q7 Bg a b (af9 G a b ha hb))
theorem ajF (a b:Rat) (ha:Sm 100000 a) (hb:Sm 100000 b):VP Tryz.prog G 156 [.nils,EV a,EV b] (EV (a*b)):=Zc ID a b (tf G a b ha hb) (Zb IC a b (ajy G a b ha hb))
theorem WZ (q:Rat) (hq:Sm 100000 q):VP Tryz.prog G 131 [QV q] (QV q):=O2 BN q (c95 G _ (by have:=hq.1;omega)) (c95 G _ (by have:=hq.2;omega))
theorem agf (q:Rat) (hq:Sm 100000 q):VP Tryz.prog G 72 [QV q] (NV q):=O3 BO q (WZ G q hq)
theorem ajG (i:Nat) (hi:i<=1000):VP Tryz.prog G 54 [.int .i64 (i:Int)] (NV (((i:Nat):Int):Rat)):=M6 BP i (ZG G i (by omega) (by omega)) (agf G _ ((acH hi).mono (by omega)))
theorem acX:VP Tryz.prog G 146 [.nils, .nils] (.bool true):=SY CZ (Zg fW)
theorem agh (q:Rat):VP Tryz.prog G 152 [.nils,EV q] (EV q):=acz Hj q (S2 oh q)
theorem acY (q:Rat) (hq:Sm 100000 q):VP Tryz.prog G 129 [NV q] (NV q):=SX td q (Fk qN q (WZ G q hq))
theorem W4 (a b:Rat) (ha:Sm 100000 a) (hb:Sm 100000 b):VP Tryz.prog G 148 [.sl 2 [NV a,NV b]] (.tup [.sl 2 [NV a,NV b], .int .i64 0]):=Zi FM a b (S3 C0 a b (acX G)) (acX G) (agh G a) (agh G b) (acY G a ha) (acY G b hb)
theorem W5 (a b:Rat) (ha:Sm 100000 a) (hb:Sm 100000 b):VP Tryz.prog G 76 [NV a,NV b] (.tup [NV (a+b), .int .i64 0]):=Zj Hk a b _ (B5 nR a b _ (W4 G a b ha hb) (ajE G a b ha hb))
theorem Lf (a b:Rat) (ha:Sm 100000 a) (hb:Sm 100000 b):VP Tryz.prog G 102 [NV a,NV b] (.tup [NV (a*b), .int .i64 0]):=Zl Hm a b _ (B5 nR a b _ (W4 G a b ha hb) (ajF G a b ha hb))
theorem ajH (a b:Q2) (ha:jt 100000 a) (hb:jt 100000 b):VP Tryz.prog G 137 [V2 a,V2 b] (.tup [V2 (kS a b), .int .i64 0]):=Zq Hq a b _ (wu iN a b _ (W5 G _ _ ha.1 hb.1) (W5 G _ _ ha.2 hb.2))
theorem W6 (a:Q2) (n:Rat) (ha:jt 100000 a) (hn:Sm 100000 n):VP Tryz.prog G 105 [V2 a,NV n] (.tup [V2 (iA a n), .int .i64 0]):=Ta Ex a _ n (wu iN a (n,n) _ (Lf G _ _ ha.1 hn) (Lf G _ _ ha.2 hn))
theorem ajI:Wx Tryz.prog G 79:=fun a b ha hb=>ZB zX a b (ajH G a b (ha.mono (by omega)) (hb.mono (by omega))) (Gb iV)
theorem acZ:K3 Tryz.prog G 80:=fun a n ha hn=>Tr xX a n (W6 G a n (ha.mono (by omega)) (hn.mono (by omega))) (Gb iV)
theorem r6R (q:Rat) (hq:Sm 100000 q):VP Tryz.prog G 199 [EV q, .int .i64 1] (.bool true):=O4 uw q (acW G q hq)
theorem r6T:VP Tryz.prog G 198 [.nils] (.bool true):=O5 ux
theorem r6F (q:Rat) (hq:Sm 100000 q):VP Tryz.prog G 166 [.nils,EV q] (.bool true):=M9 sO q (r6T G) (r6R G q hq)
theorem agi (a b:Rat) (ha:Sm 100000 a) (hb:Sm 100000 b):VP Tryz.prog G 195 [.nils,EV a,EV b] (EV (a+b)):=V8 xI a b (ajB G a b ha hb)
theorem agj (a b:Rat) (ha:Sm 100000 a) (hb:Sm 100000 b):VP Tryz.prog G 196 [.nils,EV a,EV b] (EV (a*b)):=Wa xK a b (ajC G a b ha hb)
theorem agk (a:Rat) (ha:Sm 100000 a):VP Tryz.prog G 181 [.nils,EV a] (EV (-a)):=V9 xJ a (ajD G a ha)
theorem r9J (a b:Rat):VP Tryz.prog G 229 [.sl 2 [NV a,NV b]] (.tup [.sl 2 [NV a,NV b], .int .i64 0]):=S8 vM a b (Na sP) (JT n6 a) (JT n6 b)
theorem r9T (a b:Rat):VP Tryz.prog G 194 [NV a,NV b] (.tup [NV a,NV b, .int .i64 0]):=Wc xM a b (r9J G a b)
theorem NC (a b:Rat) (ha:Sm 100000 a) (hb:Sm 100000 b):VP Tryz.prog G 159 [NV a,NV b] (.tup [NV (a+b), .int .i64 0]):=We xN a b (r9T G a b) (agi G a b ha hb)
theorem J2 (a b:Rat) (ha:Sm 100000 a) (hb:Sm 100000 b):VP Tryz.prog G 163 [NV a,NV b] (.tup [NV (a*b), .int .i64 0]):=Wf xQ a b (r9T G a b) (agj G a b ha hb)
theorem Ro (a:Rat) (ha:Sm 100000 a):VP Tryz.prog G 143 [NV a] (NV (-a)):=Wh xO a (agk G a ha)
theorem abf (a b:Rat) (ha:Sm 100000 a) (hb:Sm 100000 b):VP Tryz.prog G 165 [NV a,NV b] (.tup [NV (a-b), .int .i64 0]):=Wi xP a b (Ro G b hb) (NC G a (-b) ha hb.neg)
theorem r7S (a:Rat) (ha:Sm 100000 a):VP Tryz.prog G 204 [.nils,EV a] (.int .i64 (dm a)):=S6 vK a (age G a ha)
theorem EL (a:Rat) (ha:Sm 100000 a):VP Tryz.prog G 125 [NV a] (.int .i64 (dm a)):=S9 vN a (S7 vL a (r7S G a ha))
theorem agl (a b:Rat) (ha:Sm 45000 a) (hb:Sm 45000 b):VP Tryz.prog G 126 [NV a,NV b] (.tup [.int .i64 (dm (a-b)), .int .i64 0]):=Wj xR a b (abf G a b (ha.mono (by omega)) (hb.mono (by omega))) (EL G _ ((ha.sub hb).mono (by omega)))
theorem ac0 (a b:Rat) (ha:Sm 45000 a) (hb:Sm 45000 b):VP Tryz.prog G 65 [NV a,NV b] (.bool (decide (a=b))):=O6 uy a b (agl G a b ha hb)
theorem abg (a:Rat) (ha:Sm 100000 a):VP Tryz.prog G 123 [NV a] (.bool true):=O7 uz a (r6F G a ha) (KV r7)
theorem W7 (q:Rat):VP Tryz.prog G 86 [QV q] (NV q):=KW r8 q
theorem agm (i:Nat) (hi:i<=1000):VP Tryz.prog G 120 [.int .i64 (i:Int)] (NV (((i:Nat):Int):Rat)):=KX r9 i (Pp G i (by omega) (by omega)) (W7 G _)
theorem Rp (v:Q2):VP Tryz.prog G 42 [QV v.1,QV v.2] (V2 v):=O8 vP v (W7 G _) (W7 G _)
theorem agn:VP Tryz.prog G 161 [.int .i64 0, .int .i64 0] (.int .i64 0):=Nb uA
theorem ago (v:Q2):VP Tryz.prog G 160 [NV v.1,NV v.2, .int .i64 0] (.tup [V2 v, .int .i64 0]):=Tb xS v
theorem W8 (a b:Q2) (ha:jt 100000 a) (hb:jt 100000 b):VP Tryz.prog G 112 [V2 a,V2 b] (.tup [V2 (kS a b), .int .i64 0]):=Tc xT a b (NC G _ _ ha.1 hb.1) (NC G _ _ ha.2 hb.2) (agn G) (ago G (kS a b))
theorem ac1 (a:Q2) (ha:jt 100000 a):VP Tryz.prog G 113 [V2 a] (V2 (Ds a)):=Td xU a (Ro G _ ha.1) (Ro G _ ha.2)
theorem W9 (a b:Q2) (ha:jt 100000 a) (hb:jt 100000 b):VP Tryz.prog G 59 [V2 a,V2 b] (.tup [V2 (eR a b), .int .i64 0]):=Te xV a b (ac1 G b hb) (W8 G a (Ds b) ha ⟨hb.1.neg,hb.2.neg⟩)
theorem Xa (a:Q2) (n:Rat) (ha:jt 100000 a) (hn:Sm 100000 n):VP Tryz.prog G 142 [V2 a,NV n] (.tup [V2 (iA a n), .int .i64 0]):=Nc uB a n (J2 G _ _ ha.1 hn) (J2 G _ _ ha.2 hn) (agn G) (ago G (iA a n))
theorem Rq (a:Q2) (ha:jt 100000 a):VP Tryz.prog G 92 [V2 a] (V2 (-a.2,a.1)):=O9 vQ a (Ro G _ ha.2)
theorem ac2 (a b:Q2) (ha:jt 20000 a) (hb:jt 20000 b):VP Tryz.prog G 241 [V2 a,V2 b] (.tup [NV (fB a b), .int .i64 0]):=Tf xW a b (J2 G _ _ (ha.1.mono (by omega)) (hb.1.mono (by omega))) (J2 G _ _ (ha.2.mono (by omega)) (hb.2.mono (by omega))) (NC G _ _ ((ha.1.mul hb.1).mono (by omega)) ((ha.2.mul hb.2).mono (by omega)))
theorem DA (a b:Q2) (ha:jt 45000 a) (hb:jt 45000 b):VP Tryz.prog G 34 [V2 a,V2 b] (.bool (decide (a=b))):=Nd uC a b (ac0 G _ _ ha.1 hb.1) (ac0 G _ _ ha.2 hb.2)
theorem Pq (a:Q2) (ha:jt 100000 a):VP Tryz.prog G 63 [V2 a] (.bool true):=Nf uD a (abg G _ ha.1) (abg G _ ha.2)
theorem abh:bF Tryz.prog G 180 [.int .i64 0] (.tup []):=Zs qF
theorem ac3 (a:Q2):bF Tryz.prog G 141 [V2 a, .int .i64 0] (V2 a):=acC qW (abh G) a
theorem ajJ (a:Rat):bF Tryz.prog G 202 [NV a, .int .i64 0] (NV a):=acB qV (abh G) a
theorem agp:Wx Tryz.prog G 90:=fun a b ha hb=>Zt qG a b (W8 G a b (ha.mono (by omega)) (hb.mono (by omega))) (ac3 G)
theorem Xb:aa4 Tryz.prog G 88:=fun a b ha hb=>Wl qd a b (W9 G a b (ha.mono (by omega)) (hb.mono (by omega))) (ac3 G)
theorem ac4:K3 Tryz.prog G 91:=fun a n ha hn=>Wm qe a n (Xa G a n (ha.mono (by omega)) (hn.mono (by omega))) (ac3 G)
theorem ZI (a:Q2) (ha:jt 20000 a):bF Tryz.prog G 168 [V2 a] (NV (fB a a)):=Tg pO a (KY sQ a (ac2 G a a ha ha)) (ajJ G)
theorem agq (a b:Q2) (ha:jt 5000 a) (hb:jt 5000 b):bF Tryz.prog G 124 [V2 a,V2 b] (NV (JY a b)):=acD qX a b (Xb G a b ha hb) (ZI G _ ((ha.sub hb).mono (by omega)))
end
end Go.Proofs.YtchdghnpcekegaaGreat
end

section
set_option linter.unusedSimpArgs false
set_option linter.unusedVariables false
set_option maxRecDepth 100000
namespace Go.VL
open Go.Lib
theorem J3 (x:CX):x.same x=true:=by unfold CX.same;simp
theorem Ps (l:List NX):Ri l l=true:=by
 unfold Ri
 have:(l.zip l).any (fun p => !(p.1.name==p.2.name&&p.1.c.same p.2.c))=false:=by
   rw [List.any_eq_false]
   intro p hp
   obtain ⟨i,hi⟩:=List.getElem?_of_mem hp
   rw [List.getElem?_zip_eq_some] at hi
   have:p.1=p.2:=by have:=hi.1.symm.trans hi.2;simpa using this
   rw [this,J3];simp
 rw [this];simp
theorem J4 {cs:List CX} {x:NX} (h:x∈named cs):∃ i,i<cs.length/\x.name=[107,47]++decDigits i/\x.c∈cs:=by
 unfold named at h
 obtain ⟨i,hi,e⟩:=List.mem_mapIdx.1 h
 subst e
 exact ⟨i,hi,rfl,List.getElem_mem hi⟩
section
variable {P:Program} {G:Nat->Option (List AV)}
theorem Lg {f fc:FuncId} (h:Has P f (gz fc)) (ds:List DX) (h6:6<ds.length):VP P G f [Lq ds, .int .i64 6] (.tup [.nils, .bool false]) :=
 VP.tr h [hb 13 (ay (by simp;omega):decide (((ds.map DX.av).length:Int)>6)=true)] (by kernel_rfl)
end
end Go.VL
end

section
set_option maxRecDepth 100000
namespace Go.Proofs.YtchdghnpcekegaaGreat
open Go.VL Go.Proofs Go.Lib
section
variable (G:Nat->Option (List AV))
theorem agr (c:UInt8):VP Tryz.prog G 93 [kJ c] (.bool (dL c)):=Fe BF c
theorem ajK (c:UInt8):VP Tryz.prog G 144 [kJ c] (.bool (o9 c)):=Hu CP c
theorem ags (c:UInt8):VP Tryz.prog G 95 [kJ c] (.bool (dy c)):=Sk Eh (agr G) (ajK G) c
theorem agt (s:List UInt8) (hs:s.length<9223372036854775807):VP Tryz.prog G 94 [.str s, .fn (.func 95) [] []] (.int .i64 (fT dy s)):=Ys Hi (ags G) s hs
theorem Xc (s:List UInt8):VP Tryz.prog G 45 [.str s] (.bool (eK s)):=Sl Ei (agr G) (agt G) s
theorem agu:Has Tryz.prog 157 mS:=sJ
theorem agv:Has Tryz.prog 158 nC:=uk
theorem agw (s:List UInt8) (hs:s.length<9223372036854775807):VP Tryz.prog G 111 [.str s, .int .i64 0] (.int .i64 ((wo s:Nat):Int)):=YW vz (Fe agu) (Hu agv) s hs
theorem agx (s:List UInt8):VP Tryz.prog G 58 [.str s] (.bool (eK s)):=OV sI (agw G) s
theorem Xd:Rf Tryz.prog G 64:=fun x hx=>by
 have h1:=Sm.JY hx.1 hx.2.2
 have h2:=Sm.JY hx.2.1 hx.2.2
 exact Pb uE x (DA G _ _ (hx.1.mono (by omega)) (hx.2.1.mono (by omega))) (agq G _ _ hx.1 hx.2.2) (agq G _ _ hx.2.1 hx.2.2) (EL G _ (h1.mono (by omega))) (ac0 G _ _ (h1.mono (by omega)) (h2.mono (by omega)))
theorem cAt (p:Int × Int) (u:Nat) (hp:ok8 p) (hu:u<256):VP Tryz.prog G 87 [I2 p, .int .u8 ((u:Nat):Int)] (V2 (wz p u)):=Zv yS (abe G) (Rp G) p hp u hu
theorem agy (n:Nat) (hn:n<256):VP Tryz.prog G 89 [.int .u8 (n:Int)] (V2 (wv (n%16))):=Th vR (abe G) (Rp G) n hn
theorem ac5:VP Tryz.prog G 17 [.int .i64 0, .int .i64 0] (V2 (0,0)):=Fl ny 0 0 (Pp G 0 (by decide) (by decide)) (Pp G 0 (by decide) (by decide)) (Rp G (0,0))
theorem ac6 (d:DX) (hd:d.Ok):VP Tryz.prog G 43 [d.av] (.tup [d.ib.av, .bool d.ib.valid]):=Pd uF d hd (cAt G) (ac5 G) (Xb G) (agy G) (ac4 G) (fun a ha=>Rq G a (ha.mono (by omega))) (agp G) (Xd G)
theorem ajL (n:Nat) (hn:n<1000):VP Tryz.prog G 20 [.int .i64 (n:Int)] (.str (decDigits n)):=Ni sS n (Nh sR n hn)
def yW (ds:List DX):Bool:=decide (ds.length<=6) && !ds.any fun d => !d.ib.valid
def made (ds:List DX):List CX:=if yW ds=true then ds.map DX.ib else []
theorem Ao {ds:List DX} (h:yW ds=true):ds.length<=6/\∀ d∈ds,d.ib.valid=true:=by
 unfold yW at h
 simp only [Bool.and_eq_true,decide_eq_true_eq,Bool.not_eq_true',List.any_eq_false] at h
 exact ⟨h.1,fun d hd=>by simpa using h.2 d hd⟩
theorem ZJ (ds:List DX) (hd:∀ d∈ds,d.Ok):VP Tryz.prog G 19 [Lq ds, .int .i64 6] (if yW ds=true then .tup [IP (made ds), .bool true] else .tup [.nils, .bool false]):=by
 by_cases h6:6<ds.length
 . have:yW ds=false:=by unfold yW;rw [decide_eq_false (by omega)];rfl
   rw [this,if_neg (by decide)]
   exact Lg m8 ds h6
 . have h:=Nn m8 ds (fun d hm=>ac6 G d (hd d hm)) (by omega)
   unfold made
   by_cases hf:yW ds=true
   . rw [if_pos hf,if_pos hf]
     rw [if_neg] at h
     . exact h
     . rintro (h1 | h1)
       . exact h6 h1
       . obtain ⟨d,hd,hv⟩:=List.any_eq_true.1 h1
         rw [(Ao hf).2 d hd] at hv;simp at hv
   . rw [if_neg hf]
     rw [if_pos] at h
     . exact h
     . right
       unfold yW at hf
       rw [decide_eq_true (by omega),Bool.true_and] at hf
       simpa using hf
theorem agz (ds:List DX) (hd:∀ d∈ds,d.Ok):VP Tryz.prog G 5 [Lq ds] (.tup [dB (named (made ds)), .bool (yW ds)]) :=
 Tl vW ds (yW ds) (made ds) (fun h=>by unfold made;rw [h];rfl) (by
   unfold made
   split
   . rename_i h;rw [List.length_map];exact (Ao h).1
   . exact Nat.zero_le _) (ZJ G ds hd) (ajL G)
theorem J5 {ds:List DX} (hd:∀ d∈ds,d.Ok) (hf:yW ds=true):(named (made ds)).length<=6/\∀ z∈named (made ds),z.c.valid=true/\z.c.Sm 20/\z.name.length<=10:=by
 have hm:made ds=ds.map DX.ib:=by unfold made;rw [if_pos hf]
 refine ⟨by unfold named;rw [List.length_mapIdx,hm,List.length_map];exact (Ao hf).1,fun z hz => ?_⟩
 obtain ⟨i,hi,hn,hc⟩:=J4 hz
 rw [hm] at hc hi
 obtain ⟨d,hdm,e⟩:=List.mem_map.1 hc
 refine ⟨by rw [<- e];exact (Ao hf).2 d hdm,by rw [<- e];exact Nl (hd d hdm), ?_⟩
 have:=acG (i:=i) (by rw [List.length_map] at hi;have:=(Ao hf).1;omega)
 rw [hn];simp;omega
theorem ND (l:List NX) (hl:l.length<=1000) (s:List UInt8):VP Tryz.prog G 12 [dB l, .str s] (.int .i64 (da l s)):=Ti vS l s (by omega)
theorem agA (l more:List NX) (hl:l.length<=1000) (hm:more.length<=1000000):VP Tryz.prog G 62 [dB l,dB more] (.int .i64 (iG l more)):=Tj vU l more (by omega) hm (fun x _=>ND G l hl _)
theorem Pt (l:List NX) (hl:l.length<=1000) (s:List UInt8):VP Tryz.prog G 39 [dB l, .str s] (.int .i64 (da l s)) :=
 Tn te l s (iK aR (a:=[]) (c:=[.ep [.str s] 0]) (p:=fun x=>x.name==s) (fun e _=>Pj qO e s) (by simp) (by simp [Zz]) (by omega))
theorem agB (l:List NX) (hl:l.length<=1000) (s:List UInt8):VP Tryz.prog G 47 [dB l, .str s] (if da l s<0 then .tup [zC, .bool false] else .tup [(a6 l s).av, .bool true]):=by
 split
 . rename_i h;exact To mX l s (Pt G l hl s) h
 . rename_i h;exact WD mX l s (Pt G l hl s) h
open Classical in
theorem ajM (l:List (List UInt8)) (hl:l.length<=1000):VP Tryz.prog G 46 [strs l] (.bool (decide (HT l l.length))):=Nq mN l (by omega) (fun i s _=>K8 eN _ s (Tp fG _ s (by rw [List.length_take];omega)))
theorem pIn (nm:List UInt8) (l:List NX) (hl:l.length<=1000) (ins:List (List UInt8)) (hi:ins.length<=1000):VP Tryz.prog G 21 [.str nm,dB l,strs ins] (if dG nm l ins=0 then .tup [IP (ins.map (a6 l)), .int .i64 0] else .tup [.nils, .int .i64 (dG nm l ins)]) :=
 Pk nS nm l ins (Xc G nm) (ajM G ins hi) (fun s _=>agB G l hl s) hi
theorem agC (l more:List NX) (hl:l.length<=1000) (hm:more.length<=1000000):VP Tryz.prog G 56 [dB l,dB more] (.int .i64 (iG l more)) :=
 WH pP l more (by omega) hm
   (kT bh (iK aR (a:=[]) (c:=[]) (p:=fun x=>decide (200<x.name.length)) (fun e _=>WE nT e) (by simp) (by simp) hm) cg)
   (kT bh (iK aR (a:=[]) (c:=[.ep [dB l] 0]) (p:=fun x=>decide (0<=da l x.name)) (fun e _=>WG nU l e (Pt G l hl _)) (by simp) (by simp [aa.ep,aH]) hm) (ai3 (aa.ep (by simp [aH]))))
theorem agD (l more:List NX) (hl:l.length<=1000) (hm:more.length<=1000000) (h0:l≠[]) (h1:more≠[]):VP Tryz.prog G 27 [dB l,dB more] (if iG l more=0 then .tup [dB (l++more), .int .i64 0] else .tup [.nils, .int .i64 (iG l more)]) :=
 ZA pQ l more (agC G l more hl hm) (fun h=>Tq dS er l more h0 h1 (wB h))
theorem abi (L:List NX) (hl:L.length<=1000) (hL:∀ z∈L,z.c.Sm 5000):VP Tryz.prog G 18 [dB L,dB L] (.bool true):=by
 have h:=Tm (G:=G) jW L L (by omega) (fun x y hxy=>by
   have hx:=hL x (List.of_mem_zip hxy).1
   have hy:=hL y (List.of_mem_zip hxy).2
   refine HS gi x.c y.c fun u v huv => ?_
   simp only [List.mem_cons,Prod.mk.injEq,List.not_mem_nil,or_false] at huv
   rcases huv with ⟨rfl,rfl⟩ | ⟨rfl,rfl⟩ | ⟨rfl,rfl⟩
   . exact DA G _ _ (hx.1.mono (by omega)) (hy.1.mono (by omega))
   . exact DA G _ _ (hx.2.1.mono (by omega)) (hy.2.1.mono (by omega))
   . exact DA G _ _ (hx.2.2.mono (by omega)) (hy.2.2.mono (by omega)))
 rw [Ps] at h;exact h
theorem abj (L:List NX) (hl:L.length<=1000) (hL:∀ z∈L,z.c.valid=true/\z.c.Sm 5000):VP Tryz.prog G 33 [dB L] (.bool true):=by
 have h:=Tk (G:=G) vV L (by omega) (fun x hx=>by
   have hs:=(hL x hx).2
   exact ⟨Pq G _ (hs.1.mono (by omega)),Pq G _ (hs.2.1.mono (by omega)),Pq G _ (hs.2.2.mono (by omega)),Xd G x.c hs⟩)
 have e:(L.any fun x => !x.c.valid)=false:=by rw [List.any_eq_false];intro z hz;rw [(hL z hz).1];decide
 rw [e] at h;exact h
theorem ac7 (L:List NX) (e:Int) (hl:L.length<=1000) (hL:∀ z∈L,z.c.valid=true/\z.c.Sm 5000):VP Tryz.prog G 10 [dB L, .int .i64 e,dB L, .int .i64 e] (.bool true):=WT nz L e (abj G L hl hL) (abi G L hl fun z hz=>(hL z hz).2)
theorem ZK (e:Int):VP Tryz.prog G 10 [.nils, .int .i64 e, .nils, .int .i64 e] (.bool true):=TB nz e (abj G [] (by simp) (by simp)) (abi G [] (by simp) (by simp))
theorem agF (l:List (List UInt8)) (hl:l.length<=1000):VP Tryz.prog G 8 [strs l] (strs l) :=
 pV js (by intro e he;obtain ⟨s,_,rfl⟩:=List.mem_map.1 he;rfl) (pg (f:=AV.str) (fun x=>by simp [AV.cells,AV.one]) l) (by intro c hc;simp only [flat,List.mem_flatMap,List.mem_map] at hc;obtain ⟨_,⟨s,_,rfl⟩,hc⟩:=hc;simp only [AV.cells,List.mem_singleton] at hc;subst hc;exact aa.str s) (by rw [List.length_map];omega)
end
end Go.Proofs.YtchdghnpcekegaaGreat
end

section
set_option linter.unusedVariables false
set_option maxRecDepth 100000
namespace Go.VL
section
variable {P:Program} {G:Nat->Option (List AV)}
theorem ZL {f ff fi:FuncId} (h:Has P f (rQ ff fi)) (a:Rat):bF P G f [NV a, .int .i64 0] (NV a):=bF.tr h [] (by kernel_rfl)
theorem ZM {f fa fv:FuncId} (h:Has P f (rP fa fv)) (a b c:Q2) (ha:VP P G fa [V2 a,V2 b] (.tup [V2 c, .int .i64 0])) (hv:∀ a,bF P G fv [V2 a, .int .i64 0] (V2 a)):bF P G f [V2 a,V2 b] (V2 c):=bF.tr h [hc ha,bj [1] (hv c)] (by kernel_rfl)
theorem ZN {f fa fv:FuncId} (h:Has P f (rR fa fv)) (a b c:Rat) (ha:VP P G fa [NV a,NV b] (.tup [NV c, .int .i64 0])) (hv:∀ a,bF P G fv [NV a, .int .i64 0] (NV a)):bF P G f [NV a,NV b] (NV c):=bF.tr h [hc ha,bj [1] (hv c)] (by kernel_rfl)
theorem ZO {f fa fv:FuncId} (h:Has P f (rS fa fv)) (a b c:Rat) (ha:VP P G fa [NV a,NV b] (.tup [NV c, .int .i64 0])) (hv:∀ a,bF P G fv [NV a, .int .i64 0] (NV a)):bF P G f [NV a,NV b] (NV c):=bF.tr h [hc ha,bj [1] (hv c)] (by kernel_rfl)
theorem Rr {f fb fm fa:FuncId} (h:Has P f (CJ fb fm fa)) (a b:Q2) (hb:VP P G fb [V2 a,V2 b, .fn (.func fm) [] []] (.tup [V2 (a.1*b.1,a.2*b.2), .int .i64 0])) (ha:VP P G fa [NV (a.1*b.1),NV (a.2*b.2)] (.tup [NV (fB a b), .int .i64 0])):VP P G f [V2 a,V2 b] (.tup [NV (fB a b), .int .i64 0]):=VP.tr h [hc hb,hc ha] (by kernel_rfl)
theorem H6 {f fd:FuncId} (h:Has P f (yn fd)) (a:Q2) (hd:VP P G fd [V2 a,V2 a] (.tup [NV (fB a a), .int .i64 0])):VP P G f [V2 a] (.tup [NV (fB a a), .int .i64 0]):=VP.tr h [hc hd] (by kernel_rfl)
theorem ZP {f fs fq:FuncId} (h:Has P f (ym fs fq)) (a:Q2) (m:Rat) (hs:VP P G fs [V2 a] (.tup [NV (fB a a), .int .i64 0])) (hq:VP P G fq [NV (fB a a)] (.tup [NV m, .int .i64 0])):VP P G f [V2 a] (.tup [NV m, .int .i64 0]):=VP.tr h [hc hs,hc hq] (by kernel_rfl)
theorem Xe {f fn:FuncId} (h:Has P f (yo fn)) (a:Rat) (hn:VP P G fn [NV a] (NV (-a))) (XG:VP P G fn [NV (-a)] (NV a)):VP P G f [NV a] (NV a):=VP.tr h [hc hn,hc XG] (by kernel_rfl)
theorem Xf {f fn fc:FuncId} (h:Has P f (Bc fn fc)) (a:Q2) (hn:VP P G fn [NV a.2] (NV (-a.2))) (Yw:VP P G fc [NV a.1] (NV a.1)):VP P G f [V2 a] (V2 (-a.2,a.1)):=VP.tr h [hc hn,hc Yw] (by kernel_rfl)
theorem TD {f fl fd:FuncId} (h:Has P f (zL fl fd)) (a b c:Q2) (r:Rat) (hl:VP P G fl [V2 a] (V2 c)) (hd:VP P G fd [V2 c,V2 b] (.tup [NV r, .int .i64 0])):VP P G f [V2 a,V2 b] (.tup [NV r, .int .i64 0]):=VP.tr h [hc hl,hc hd] (by kernel_rfl)
theorem J6 {f fe:FuncId} (h:Has P f (zB fe)) (a b:Q2) (h1:VP P G fe [NV a.1,NV b.1] (.bool (decide (a.1=b.1)))) (h2:VP P G fe [NV a.2,NV b.2] (.bool (decide (a.2=b.2)))):VP P G f [V2 a,V2 b] (.bool (decide (a=b))):=by
 by_cases e1:a.1=b.1
 . rw [decide_eq_true e1] at h1
   have e:decide (a=b)=decide (a.2=b.2):=decide_eq_decide.2 ⟨fun e=>by rw [e],fun e=>Prod.ext e1 e⟩
   rw [e]
   exact VP.tr h [hc h1,hc h2] (by kernel_rfl)
 . rw [decide_eq_false e1] at h1
   have e:decide (a=b)=false:=decide_eq_false fun e=>e1 (by rw [e])
   rw [e]
   exact VP.tr h [hc h1] (by kernel_rfl)
theorem NF {f f1 f2 f3:FuncId} (h:Has P f (zM f1 f2 f3)):VP P G f [.nils] (.bool true):=VP.tr h [] (by kernel_rfl)
theorem NG {f f1 f2 f3:FuncId} (h:Has P f (yp f1 f2 f3)) (a m:Rat) (h1:VP P G f1 [.nils,EV a] (.tup [EV m, .bool true])) (h2:VP P G f2 [.nils,EV m] (.int .i64 1)):VP P G f [.nils,EV a] (.tup [EV m, .bool true]):=VP.tr h [hc h1,hc h2] (by kernel_rfl)
end
end Go.VL
end

section
set_option linter.unusedVariables false
set_option maxRecDepth 100000
namespace Go.VL
theorem Pu {n:Nat} (h:n<aE) (h0:n≠0):W n = .sl 1 [.int .u32 (n:Int)]:=by
 unfold W us
 rw [iz h0,Nat.mod_eq_of_lt h,Nat.div_eq_of_lt h,bA];rfl
section
variable {P:Program} {G:Nat->Option (List AV)}
theorem Pv {f f1:FuncId} (h:Has P f (CL f1)):VP P G f [.nils] (.sl 1 []):=VP.trV h [] [([3],⟨[],1,false⟩)] (.osl [3] 1 0 0 false) (by kernel_rfl) (fun σ hσ => View.osl (bk:=⟨[],1,false⟩) (ds:=[]) (hσ ([3],⟨[],1,false⟩) (by simp)) rfl (by simp) aG.nil rfl (by simp))
theorem Pw {f f1 f2 f4 f5 f6 f7 f8 f9 fa fb fc:FuncId} (h:Has P f (Bf f1 f2 f f4 f5 f6 f7 f8 f9 fa fb fc)) (a m:Rat) (h1:VP P G f1 [QV a] (.tup [QV m, .bool true])):VP P G f [.nils,EV a] (.tup [EV m, .bool true]) :=
 VP.trV h [hc h1] [([16],⟨[QV m],4,false⟩)] (.tup [.osl [16] 4 0 1 false, .bool true]) (by kernel_rfl) (fun σ hσ => View.tup (aG.cons (pW (hσ ([16],⟨[QV m],4,false⟩) (by simp))) (aG.cons (View.pure (aa.bool _)) aG.nil)))
theorem Px {f fc:FuncId} (h:Has P f (nF fc)) (q:Rat) (hc':VP P G fc [EV q] (EV q)):VP P G f [.agg [.sl 1 [],EV q]] (NV q):=VP.tr h [hc hc'] (by kernel_rfl)
theorem Xg {f fa fd:FuncId} (h:Has P f (Bd fa fd)) (a m:Rat) (ha:VP P G fa [.nils,EV a] (.tup [.sl 1 [],EV m, .int .i64 0])) (hd:VP P G fd [.agg [.sl 1 [],EV m]] (NV m)):VP P G f [NV a] (.tup [NV m, .int .i64 0]):=VP.tr h [hc ha,hc hd] (by kernel_rfl)
theorem TE {f f1 f2 f3 f4 f5 f6 f7:FuncId} (h:Has P f (Be f1 f2 f3 f4 f5 f6 f7)) (a m:Rat) (h1:VP P G f1 [.nils,EV a] (.bool true)) (h2:VP P G f2 [.nils] (.bool true)) (h3:VP P G f3 [.nils,EV a] (.int .i64 1)) (h4:VP P G f4 [.nils,EV a] (.tup [EV m, .bool true])) (h5:VP P G f5 [.nils] (.sl 1 [])):VP P G f [.nils,EV a] (.tup [.sl 1 [],EV m, .int .i64 0]):=VP.tr h [hc h1,hc h2,hc h3,hc h4,hc h5] (by kernel_rfl)
theorem Xh {f fr:FuncId} (h:Has P f (yq fr)) (a b m n:Int) (h1:VP P G fr [IV a] (.tup [IV m, .bool true])) (h2:VP P G fr [IV b] (.tup [IV n, .bool true])):VP P G f [RV a b] (.tup [RV m n, .bool true]):=by
 haveI:PU (RV m n):=by unfold RV;infer_instance
 exact VP.tr h [hc h1,hc h2] (by kernel_rfl)
theorem NH {f fs fm fc:FuncId} (h:Has P f (yt fs fm fc)) (a m:Int) (h1:VP P G fs [IV a] (.tup [IV m, .int .i64 0])) (h2:VP P G fm [IV m,IV m] (IV a)) (h3:VP P G fc [IV a,IV a] (.int .i64 0)):VP P G f [IV a] (.tup [IV m, .bool true]):=VP.tr h [hc h1,hc h2,hc h3] (by kernel_rfl)
theorem Rs {f fs ft:FuncId} (h:Has P f (zP fs ft)) (hs:Has P fs gn) (ht:iW P G ft) (n:Nat) (hn:ag n<=1000):VP P G f [W n] (W (n/2)):=by
 have h1:=Bh (G:=G) hs n 1 (by omega) (by decide)
 have h2:=ht (pad (ag n) (n/2 ^ 1)) (sk _ _) (by rw [kK];omega)
 rw [fZ (Nat.lt_of_le_of_lt (Nat.div_le_self _ _) (cV n))] at h2
 exact VP.tr h [hc h1,hc h2] (by kernel_rfl)
theorem J7 {f:FuncId} (h:Has P f fx) (k:Nat) (b:Int) (n:Nat) (hn:n<aE) (h0:n≠0) (hx:Dy fx.results [([4],⟨[.int .u32 (n:Int)],1,false⟩)] (Ny (P:=P) (G:=G) fx [.int .i64 b] [])=Dz (.osl [4] 1 0 1 false) [([4],⟨[.int .u32 (n:Int)],1,false⟩)] (Ny (P:=P) (G:=G) fx [.int .i64 b] [])):VP P G f [.int .i64 b] (W n):=by
 rw [Pu hn h0]
 exact VP.trV h [] _ _ hx (fun σ hσ => OX (hσ ([4],⟨[.int .u32 (n:Int)],1,false⟩) (by simp)) rfl (by intro c hc;simp [AV.cells] at hc;subst hc;exact aa.int _ _))
theorem NI {f:FuncId} (h:Has P f fx):VP P G f [.int .i64 3] (W 8):=J7 h 0 3 8 (by decide) (by decide) (by kernel_rfl)
theorem NJ {f:FuncId} (h:Has P f fx):VP P G f [.int .i64 1] (W 2):=J7 h 0 1 2 (by decide) (by decide) (by kernel_rfl)
theorem NK {f ft fl:FuncId} (h:Has P f (zO ft fl)) (z:Int) (n:Nat) (hz:z.natAbs=n) (hn:n<aE) (h0:n≠0) (b:Int) (ht:VP P G ft [W n] (W n)) (hl:VP P G fl [.int .u32 (n:Int)] (.int .i64 b)) (yY:IntKind.i64.wrap (0+b)=b):VP P G f [IV z] (.int .i64 b):=by
 subst hz
 rw [Pu hn h0] at ht
 exact VP.tr h [hv 5 (Pu hn h0),hc ht,hc hl,hw 21 yY] (by kernel_rfl)
theorem Py {f fg fb fh ft fd fp fa fc fs:FuncId} (h:Has P f (rT fg fb fh ft fd fp fa fc fs)) (h1:VP P G fg [IV 16] (.int .i64 1)) (h2:VP P G fb [IV 16] (.int .i64 5)) (h3:VP P G fh [.int .i64 3] (W 8)) (h4:VP P G ft [W 16] (W 16)) (h5:∀ n,n≠0->n<100->VP P G fd [W 16,W n] (.tup [W (16/n),W (16%n)])) (h6:∀ m n,m<100->n<100->VP P G fp [W m,W n] (W (m+n))) (h7:∀ n,n<100->VP P G fa [W n] (W (n/2))) (h8:∀ m n,m<100->n<100->VP P G fc [W m,W n] (.int .i64 (fY m n))) (h9:VP P G fs [.bool false,W 4] (IV 4)):VP P G f [IV 16] (.tup [IV 4, .int .i64 0]) :=
 VP.tr h [hc h1,hc h2,hc h3,hc h4,hc (h5 8 (by decide) (by decide)),hc (h6 8 2 (by decide) (by decide)),hc (h7 10 (by decide)),hc (h8 5 8 (by decide) (by decide)),hc h4,hc (h5 5 (by decide) (by decide)),hc (h6 5 3 (by decide) (by decide)),hc (h7 8 (by decide)),hc (h8 4 5 (by decide) (by decide)),hc h4,hc (h5 4 (by decide) (by decide)),hc (h6 4 4 (by decide) (by decide)),hc (h7 8 (by decide)),hc (h8 4 4 (by decide) (by decide)),hc h9] (by kernel_rfl)
theorem TF {f fg fb fh ft fd fp fa fc fs:FuncId} (h:Has P f (rT fg fb fh ft fd fp fa fc fs)) (h1:VP P G fg [IV 1] (.int .i64 1)) (h2:VP P G fb [IV 1] (.int .i64 1)) (h3:VP P G fh [.int .i64 1] (W 2)) (h4:VP P G ft [W 1] (W 1)) (h5:∀ n,n≠0->n<100->VP P G fd [W 1,W n] (.tup [W (1/n),W (1%n)])) (h6:∀ m n,m<100->n<100->VP P G fp [W m,W n] (W (m+n))) (h7:∀ n,n<100->VP P G fa [W n] (W (n/2))) (h8:∀ m n,m<100->n<100->VP P G fc [W m,W n] (.int .i64 (fY m n))) (h9:VP P G fs [.bool false,W 1] (IV 1)):VP P G f [IV 1] (.tup [IV 1, .int .i64 0]) :=
 VP.tr h [hc h1,hc h2,hc h3,hc h4,hc (h5 2 (by decide) (by decide)),hc (h6 2 0 (by decide) (by decide)),hc (h7 2 (by decide)),hc (h8 1 2 (by decide) (by decide)),hc h4,hc (h5 1 (by decide) (by decide)),hc (h6 1 1 (by decide) (by decide)),hc (h7 2 (by decide)),hc (h8 1 1 (by decide) (by decide)),hc h9] (by kernel_rfl)
end
end Go.VL
end

section
set_option maxRecDepth 100000
namespace Go.Proofs.YtchdghnpcekegaaGreat
open Go.VL Go.Proofs Go.Lib
theorem smq (q:Rat) (h:(decide (q.num.natAbs<4294967296)&&decide (q.den<4294967296))=true):Sm 5000 q:=by
 simp only [Bool.and_eq_true,decide_eq_true_eq] at h
 exact ⟨Nat.le_trans (fK (k:=1) (by rw [Nat.pow_one];exact h.1)) (by decide),Nat.le_trans (fK (k:=1) (by rw [Nat.pow_one];exact h.2)) (by decide)⟩
def qB (q:Rat):Bool:=decide (q.num.natAbs<4294967296)&&decide (q.den<4294967296)
def vB (v:Q2):Bool:=qB v.1&&qB v.2
theorem XP {q:Rat} (h:qB q=true):Sm 5000 q:=smq q h
theorem FX {v:Q2} (h:vB v=true):jt 5000 v:=by
 unfold vB at h
 simp only [Bool.and_eq_true] at h
 exact ⟨XP h.1,XP h.2⟩
theorem smL {q:Rat} (h:Sm 5000 q):Sm 100000 q:=h.mono (by omega)
section
variable (G:Nat->Option (List AV))
theorem abk (a:Rat) (ha:Sm 100000 a):VP Tryz.prog G 174 [EV a] (EV (-a)):=Y6 Iy a (ajw G a ha)
theorem ajN (a:Rat) (ha:Sm 100000 a):VP Tryz.prog G 130 [.nils,EV a] (EV (-a)):=Za IB a (tF G a ha) (abk G a ha)
theorem ajO (a b:Rat) (ha:Sm 100000 a) (hb:Sm 100000 b):VP Tryz.prog G 136 [.nils,EV a,EV b] (EV (a-b)):=Y9 IA a b (tf G a b ha hb) (abk G b hb) (Q7 Bg a (-b) (af9 G a (-b) ha hb.neg))
theorem sm1:Sm 100000 (1:Rat):=smL (XP (by decide +kernel))
theorem ajP (a:Rat) (ha0:a≠0) (ha:Sm 100000 a):VP Tryz.prog G 153 [.nils,EV a] (.tup [EV (1/a), .int .i64 0]):=Zd IE a (tF G a ha) (M5 CY a (ZG G 1 (by decide) (by decide)) (ajz G 1 a ha0 sm1 ha))
theorem TG (a b:Rat) (ha:Sm 100000 a) (hb:Sm 100000 b):VP Tryz.prog G 78 [NV a,NV b] (.tup [NV (a-b), .int .i64 0]):=Zk Hl a b _ (B5 nR a b _ (W4 G a b ha hb) (ajO G a b ha hb))
theorem ZQ (a:Rat) (ha:Sm 100000 a):VP Tryz.prog G 71 [NV a] (NV (-a)):=Zm Hn a (acY G a ha) (ajN G a ha)
theorem NL (a b:Rat) (IL:b≠0) (ha:Sm 5000 a) (hb:Sm 5000 b):VP Tryz.prog G 99 [NV a,NV b] (.tup [NV (a*(1/b)), .int .i64 0]):=Zn Ho a b _ (ajP G b IL (smL hb)) (Lf G a (1/b) (smL ha) ((Sm.div (XP (by decide +kernel):Sm 5000 1) hb (by omega)).mono (by omega)))
theorem agG:VP Tryz.prog G 205 [.nils] (.bool true):=Zp IG (ZG G 0 (by decide) (by decide)) (M8 CW 0 (trd G) (WX G 0 (smL (XP (by decide +kernel)))) FL (ZG G 0 (by decide) (by decide))) (tF G 0 (smL (XP (by decide +kernel))))
theorem abl (a:Rat) (ha:Sm 100000 a):VP Tryz.prog G 128 [.nils,EV a] (.int .i64 (dm a)):=V7 IH a (Zo IF a (tF G a ha) (agG G)) (V6 Hp a (WY G a ha))
theorem abm (a:Rat) (ha:Sm 100000 a):VP Tryz.prog G 70 [NV a] (.int .i64 (dm a)):=V5 FN a (abl G a ha)
theorem nEq (a b:Rat) (ha:Sm 100000 a) (hb:Sm 100000 b):VP Tryz.prog G 97 [NV a,NV b] (.bool (decide (a=b))):=S4 Ew a b (acX G) (Ze xE a b (Zf gE a b (V1 uv a b (ajx G a b ha hb))))
theorem H7 {n:Nat} (h:n<100):ag n<=1:=fK (by rw [Nat.pow_one];unfold aE;omega)
theorem ajQ (b:Nat) (h:iE 16=b):VP Tryz.prog G 316 [.int .u32 16] (.int .i64 (b:Int)):=by rw [<- h];exact HB ni 16 (by decide)
theorem ZR:VP Tryz.prog G 311 [IV 16] (.tup [IV 4, .int .i64 0]):=Py vY (WW G 16 (Nat.le_trans (H7 (n:=16) (by decide)) (by decide))) (NK vZ 16 16 rfl (by decide) (by decide) 5 (pb (t145 G) 16 (by have:=H7 (n:=16) (by decide);omega)) (ajQ G 5 (by decide +kernel)) (by decide)) (NI qP) (pb (t145 G) 16 (by have:=H7 (n:=16) (by decide);omega))
 (fun n h0 hn=>d164 G 16 n h0 (by have:=H7 (n:=16) (by decide);omega) (by have:=H7 hn;omega)) (fun m n hm hn=>ZD G m n (by have:=H7 hm;omega) (by have:=H7 hn;omega)) (fun n hn=>Rs wa kH (t145 G) n (by have:=H7 hn;omega)) (fun m n hm hn=>WU G m n (by have:=H7 hm;omega) (by have:=H7 hn;omega)) (NB G false 4 (by have:=H7 (n:=4) (by decide);omega))
end
end Go.Proofs.YtchdghnpcekegaaGreat
end

section
set_option maxRecDepth 100000
namespace Go.Proofs.YtchdghnpcekegaaGreat
open Go.VL Go.Proofs Go.Lib
section
variable (G:Nat->Option (List AV))
theorem ajR (b:Nat) (h:iE 1=b):VP Tryz.prog G 316 [.int .u32 1] (.int .i64 (b:Int)):=by rw [<- h];exact HB ni 1 (by decide)
theorem ac8:VP Tryz.prog G 311 [IV 1] (.tup [IV 1, .int .i64 0]):=TF vY (WW G 1 (Nat.le_trans (H7 (n:=1) (by decide)) (by decide))) (NK vZ 1 1 rfl (by decide) (by decide) 1 (pb (t145 G) 1 (by have:=H7 (n:=1) (by decide);omega)) (ajR G 1 (by decide +kernel)) (by decide)) (NJ qP) (pb (t145 G) 1 (by have:=H7 (n:=1) (by decide);omega))
 (fun n h0 hn=>d164 G 1 n h0 (by have:=H7 (n:=1) (by decide);omega) (by have:=H7 hn;omega)) (fun m n hm hn=>ZD G m n (by have:=H7 hm;omega) (by have:=H7 hn;omega)) (fun n hn=>Rs wa kH (t145 G) n (by have:=H7 hn;omega)) (fun m n hm hn=>WU G m n (by have:=H7 hm;omega) (by have:=H7 hn;omega)) (NB G false 1 (by have:=H7 (n:=1) (by decide);omega))
theorem w4 {z:Int} (h:z.natAbs<100):ag z.natAbs<=400000:=Nat.le_trans (H7 h) (by decide)
theorem ZT:VP Tryz.prog G 297 [IV 16] (.tup [IV 4, .bool true]):=NH ti 16 4 (ZR G) (TC G 4 4 (w4 (by decide)) (w4 (by decide))) (acR G 16 16 (w4 (by decide)) (w4 (by decide)))
theorem ac9:VP Tryz.prog G 297 [IV 1] (.tup [IV 1, .bool true]):=NH ti 1 1 (ac8 G) (TC G 1 1 (w4 (by decide)) (w4 (by decide))) (acR G 1 1 (w4 (by decide)) (w4 (by decide)))
theorem ZU:VP Tryz.prog G 272 [QV 16] (.tup [QV 4, .bool true]):=Xh C4 16 1 4 1 (ZT G) (ac9 G)
theorem sB {q:Rat} (h:qB q=true):Sm 100000 q:=smL (XP h)
theorem sgB {q:Rat} {s:Int} (h:qB q=true) (e:dm q=s):VP Tryz.prog G 128 [.nils,EV q] (.int .i64 s):=e▸abl G q (sB h)
theorem ZV:VP Tryz.prog G 133 [NV 16] (.tup [NV 4, .int .i64 0]):=Xg FP 16 4 (TE FQ 16 4 (tF G 16 (sB (by decide +kernel))) (NF Ez) (sgB G (by decide +kernel) (by decide +kernel)) (NG C3 16 4 (Pw FR 16 4 (ZU G)) (sgB G (by decide +kernel) (by decide +kernel))) (Pv Hr))
 (Px td 4 (Fk qN 4 (WZ G 4 (sB (by decide +kernel)))))
theorem NM (a:Rat):bF Tryz.prog G 68 [NV a, .int .i64 0] (NV a):=ZL z5 a
theorem Xi (a b c:Q2) (h:eR a b=c:=by decide +kernel) (h1:(vB a&&vB b)=true:=by decide +kernel):bF Tryz.prog G 67 [V2 a,V2 b] (V2 c):=by
 simp only [Bool.and_eq_true] at h1
 have s1:=(FX h1.1).mono (k:=100000) (by omega)
 have s2:=(FX h1.2).mono (k:=100000) (by omega)
 subst h
 exact ZM zZ a b _ (Ra zW a b _ (wu iN a b _ (TG G _ _ s1.1 s2.1) (TG G _ _ s1.2 s2.2))) (Gb iV)
theorem J8 (a b c:Q2) (h:kS a b=c:=by decide +kernel) (h1:(vB a&&vB b)=true:=by decide +kernel):bF Tryz.prog G 79 [V2 a,V2 b] (V2 c):=by
 simp only [Bool.and_eq_true] at h1
 subst h;exact ajI G a b (FX h1.1) (FX h1.2)
theorem kSc (a c:Q2) (n:Rat) (h:iA a n=c:=by decide +kernel) (h1:(vB a&&qB n)=true:=by decide +kernel):bF Tryz.prog G 80 [V2 a,NV n] (V2 c):=by
 simp only [Bool.and_eq_true] at h1
 subst h;exact acZ G a n (FX h1.1) (XP h1.2)
theorem ZW (a b c:Rat) (h:a*b=c:=by decide +kernel) (h1:(qB a&&qB b)=true:=by decide +kernel):bF Tryz.prog G 74 [NV a,NV b] (NV c):=by
 simp only [Bool.and_eq_true] at h1
 subst h;exact ZN z6 a b _ (Lf G a b (sB h1.1) (sB h1.2)) (NM G)
theorem NN (a b c:Rat) (h:a*(1/b)=c:=by decide +kernel) (h0:b≠0:=by decide +kernel) (h1:(qB a&&qB b)=true:=by decide +kernel):bF Tryz.prog G 75 [NV a,NV b] (NV c):=by
 simp only [Bool.and_eq_true] at h1
 subst h;exact ZO z7 a b _ (NL G a b h0 (XP h1.1) (XP h1.2)) (NM G)
theorem kAd (a b c:Rat) (h:a+b=c:=by decide +kernel) (h1:(qB a&&qB b)=true:=by decide +kernel):VP Tryz.prog G 76 [NV a,NV b] (.tup [NV c, .int .i64 0]):=by
 simp only [Bool.and_eq_true] at h1
 subst h;exact W5 G a b (sB h1.1) (sB h1.2)
theorem kSb (a b c:Rat) (h:a-b=c:=by decide +kernel) (h1:(qB a&&qB b)=true:=by decide +kernel):VP Tryz.prog G 78 [NV a,NV b] (.tup [NV c, .int .i64 0]):=by
 simp only [Bool.and_eq_true] at h1
 subst h;exact TG G a b (sB h1.1) (sB h1.2)
theorem ZX (a b:Q2) (c:Rat) (h:fB a b=c:=by decide +kernel) (h1:(vB a&&vB b&&qB (a.1*b.1)&&qB (a.2*b.2))=true:=by decide +kernel):VP Tryz.prog G 77 [V2 a,V2 b] (.tup [NV c, .int .i64 0]):=by
 simp only [Bool.and_eq_true] at h1
 obtain ⟨⟨⟨a1,a2⟩,a3⟩,a4⟩:=h1
 have s1:=(FX a1).mono (k:=100000) (by omega)
 have s2:=(FX a2).mono (k:=100000) (by omega)
 subst h
 exact Rr z8 a b (wu iN a b (a.1*b.1,a.2*b.2) (Lf G _ _ s1.1 s2.1) (Lf G _ _ s1.2 s2.2)) (W5 G _ _ (sB a3) (sB a4))
theorem Xj (a:Q2) (h:fB a a=16:=by decide +kernel) (h1:(vB a&&vB a&&qB (a.1*a.1)&&qB (a.2*a.2))=true:=by decide +kernel):VP Tryz.prog G 73 [V2 a] (.tup [NV 4, .int .i64 0]) :=
 ZP C1 a 4 (H6 th a (ZX G a a _ rfl h1)) (h▸ZV G)
theorem abn (a:Q2) (h1:vB a=true:=by decide +kernel):VP Tryz.prog G 85 [V2 a] (V2 (-a.2,a.1)):=by
 have s1:=(FX h1).mono (k:=100000) (by omega)
 have hn:=ZQ G (-a.1) s1.1.neg
 rw [Rat.neg_neg] at hn
 exact Xf FO a (ZQ G _ s1.2) (Xe C2 _ (ZQ G _ s1.1) hn)
theorem kCr (a b c:Q2) (r:Rat) (e:(-a.2,a.1)=c:=by decide +kernel) (h:fB c b=r:=by decide +kernel) (h0:vB a=true:=by decide +kernel) (h1:(vB c&&vB b&&qB (c.1*b.1)&&qB (c.2*b.2))=true:=by decide +kernel):VP Tryz.prog G 69 [V2 a,V2 b] (.tup [NV r, .int .i64 0]):=TD Ey a b c r (e▸abn G a h0) (ZX G c b r h h1)
theorem kSg (q:Rat) (s:Int) (e:dm q=s:=by decide +kernel) (h:qB q=true:=by decide +kernel):VP Tryz.prog G 70 [NV q] (.int .i64 s):=e▸abm G q (sB h)
theorem kFr (q:Rat) (h:qB q=true:=by decide +kernel):VP Tryz.prog G 72 [QV q] (NV q):=agf G q (sB h)
theorem kEq (a b:Q2) (r:Bool) (e:decide (a=b)=r:=by decide +kernel) (h1:(vB a&&vB b)=true:=by decide +kernel):VP Tryz.prog G 48 [V2 a,V2 b] (.bool r):=by
 simp only [Bool.and_eq_true] at h1
 have s1:=(FX h1.1).mono (k:=100000) (by omega)
 have s2:=(FX h1.2).mono (k:=100000) (by omega)
 exact e▸J6 vH a b (nEq G _ _ s1.1 s2.1) (nEq G _ _ s1.2 s2.2)
theorem kQs (q:Rat) (s:Int) (e:dm q=s:=by decide +kernel) (h:qB q=true:=by decide +kernel):VP Tryz.prog G 36 [QV q] (.int .i64 s):=e▸WY G q (sB h)
end
end Go.Proofs.YtchdghnpcekegaaGreat
end

section
set_option maxRecDepth 100000
namespace Go.Proofs.YtchdghnpcekegaaGreat
open Go.VL Go.Proofs Go.Lib
def sg (a b:Q2):AV := .agg [.bool false, .nils,EV a.1, .nils,EV a.2, .nils,EV b.1, .nils,EV b.2, .nils, .nils, .nils, .nils, .bool false]
def rh (s:List UInt8) (c:AV):AV := .agg (.str s::c.cells)
instance {a b:Q2}:PU (sg a b):=by unfold sg;infer_instance
instance {s:List UInt8} {a b:Q2}:PU (rh s (sg a b)):=by unfold rh sg AV.cells;infer_instance
def sA:AV:=sg (0,0) (4,0)
def sB':AV:=sg (0,0) (0,4)
instance:PU sA:=by unfold sA;infer_instance
instance:PU sB':=by unfold sB';infer_instance
theorem H8 {a b:Q2}:∀ c∈(sg a b).cells,aa c:=by intro c hc;simp only [sg,AV.cells,List.mem_cons,List.not_mem_nil,or_false] at hc;rcases hc with rfl | rfl | rfl | rfl | rfl | rfl | rfl | rfl | rfl | rfl | rfl | rfl | rfl | rfl<;>first | exact aa.bool _ | exact aa.nils | exact aD _
theorem dD {s:List UInt8} {a b:Q2}:∀ c∈(rh s (sg a b)).cells,aa c:=by
 intro c hc
 rcases List.mem_cons.1 hc with rfl | hc
 . exact aa.str _
 . exact H8 c hc
section
variable (G:Nat->Option (List AV))
theorem Rt:VP Tryz.prog G 35 [sA,sB'] (.tup [V2 (0,0),V2 (4,0),V2 (0,4), .bool true]):=VP.tr BU [hc (kEq G (0,0) (0,0) true)] (by kernel_rfl)
theorem agH:VP Tryz.prog G 38 [sA,V2 (0,0),V2 (1,0)] (sg (1,0) (4,0)):=VP.tr qf [hc (kEq G (0,0) (0,0) true)] (by kernel_rfl)
theorem agI:VP Tryz.prog G 38 [sB',V2 (0,0),V2 (0,1)] (sg (0,1) (0,4)):=VP.tr qf [hc (kEq G (0,0) (0,0) true)] (by kernel_rfl)
def rnd (a b c:Q2) (w:Bool):AV := .agg [.nils,EV a.1, .nils,EV a.2, .nils,EV b.1, .nils,EV b.2, .nils,EV c.1, .nils,EV c.2, .bool w]
instance {a b c:Q2} {w:Bool}:PU (rnd a b c w):=by unfold rnd;infer_instance
theorem ZY:VP Tryz.prog G 37 [V2 (0,0),V2 (4,0),V2 (0,4),QV 1] (.tup [rnd (1,0) (0,1) (1,1) true, .int .i64 0]):=VP.tr tg
 [bj [7] (Xi G (4,0) (0,0) (4,0)),bj [7] (Xi G (0,4) (0,0) (0,4)),hc (kCr G (4,0) (0,4) (0,4) 16),bj [7] (NM G 16),hc (kSg G 16 1),hc (kSg G 16 1),hc (kFr G 1),hc (Xj G (4,0)),bj [7] (NM G 4),hc (Xj G (0,4)),bj [7] (NM G 4),bj [7] (ZW G 4 4 16),
  hc (ZX G (4,0) (0,4) 0),bj [7] (NM G 0),hc (kAd G 16 0 16),bj [7] (NM G 16),bj [7] (ZW G 1 16 16),bj [7] (NN G 16 16 1),hc (kSb G 4 1 3),bj [7] (NM G 3),hc (kSb G 4 1 3),bj [7] (NM G 3),hc (kSg G 3 1),hc (kSg G 3 1),
  bj [7] (NN G 1 4 (1/4)),bj [7] (kSc G (4,0) (1,0) (1/4)),bj [7] (J8 G (0,0) (1,0) (1,0)),bj [7] (NN G 1 4 (1/4)),bj [7] (kSc G (0,4) (0,1) (1/4)),bj [7] (J8 G (0,0) (0,1) (0,1)),
  bj [7] (NN G 1 4 (1/4)),bj [7] (kSc G (4,0) (1,0) (1/4)),bj [7] (NN G 1 4 (1/4)),bj [7] (kSc G (0,4) (0,1) (1/4)),bj [7] (J8 G (1,0) (0,1) (1,1)),bj [7] (NN G 16 16 1),bj [7] (kSc G (1,1) (1,1) 1),bj [7] (J8 G (0,0) (1,1) (1,1))] (by kernel_rfl)
theorem Z0:VP Tryz.prog G 37 [V2 (0,0),V2 (4,0),V2 (0,4),QV 4] (.tup [.agg [.nils, .nils, .nils, .nils, .nils, .nils, .nils, .nils, .nils, .nils, .nils, .nils, .bool true], .int .i64 16]):=VP.tr tg
 [bj [7] (Xi G (4,0) (0,0) (4,0)),bj [7] (Xi G (0,4) (0,0) (0,4)),hc (kCr G (4,0) (0,4) (0,4) 16),bj [7] (NM G 16),hc (kSg G 16 1),hc (kSg G 16 1),hc (kFr G 4),hc (Xj G (4,0)),bj [7] (NM G 4),hc (Xj G (0,4)),bj [7] (NM G 4),bj [7] (ZW G 4 4 16),
  hc (ZX G (4,0) (0,4) 0),bj [7] (NM G 0),hc (kAd G 16 0 16),bj [7] (NM G 16),bj [7] (ZW G 4 16 64),bj [7] (NN G 64 16 4),hc (kSb G 4 4 0),bj [7] (NM G 0),hc (kSb G 4 4 0),bj [7] (NM G 0),hc (kSg G 0 0)] (by kernel_rfl)
theorem ajV:VP Tryz.prog G 41 [sA,QV 2] (.tup [sg (0,2) (4,2), .int .i64 0]):=VP.tr zY
 [hc (kFr G 2),bj [5] (Xi G (4,0) (0,0) (4,0)),hc ((show ((-(0:Rat)),(4:Rat))=((0:Rat),(4:Rat)) by decide +kernel)▸abn G (4,0):VP Tryz.prog G 85 [V2 (4,0)] (V2 (0,4))),hc (Xj G (0,4)),bj [5] (NM G 4),bj [5] (NN G 2 4 (1/2)),bj [5] (kSc G (0,4) (0,2) (1/2)),bj [5] (J8 G (0,0) (0,2) (0,2)),bj [5] (J8 G (4,0) (0,2) (4,2))] (by kernel_rfl)
end
end Go.Proofs.YtchdghnpcekegaaGreat
end
