/- For the claim of FeatureMirror: parts CQ8, CQ9, CQA, CQB, CQP, CQC, CQE, CQF, CQG, CQH, CQI, CQJ, CQK, CQL, CQM. -/
import Derived.Test.YtchdghnpcekegaaGreatC09
import Derived.Test.YtchdghnpcekegaaGreatC08
import Derived.Test.YtchdghnpcekegaaGreatC03
import Derived.Test.YtchdghnpcekegaaGreatC04
set_option linter.unusedSimpArgs false
set_option linter.unusedVariables false
section
set_option linter.unusedVariables false
set_option linter.unusedVariables false
namespace Go.VL
open Go.Lib
structure NX where
 name:List UInt8
 c:CX
def NX.av (x:NX):AV := .agg (.str x.name::x.c.cells)
abbrev dB (l:List NX):AV := .sl 15 (l.map NX.av)
theorem Dt (x:NX):∀ c∈x.av.cells,aa c:=by
 intro c hc
 rcases List.mem_cons.1 hc with rfl | hc
 . exact aa.str _
 . exact HR x.c c hc
theorem bl (x:NX):aa x.av:=aa.agg (Dt x)
theorem Du (l:List NX):∀ c∈flat (l.map NX.av),aa c:=by
 intro c hc
 simp only [flat,List.mem_flatMap,List.mem_map] at hc
 obtain ⟨_,⟨x,_,rfl⟩,hc⟩:=hc
 exact Dt x c hc
theorem aH (l:List NX):aa (dB l):=aa.sl (Du l)
theorem nX (x:NX):(x.av.cells.all AV.one=true)=True:=by
 have:=of_eq_true (B6 x.c)
 simp only [NX.av,AV.cells,List.all_cons,AV.one,Bool.true_and]
 simpa [CX.av,AV.cells] using this
theorem Wu (x:NX):part true x.av.cells 0 15=some x.av:=rfl
theorem Bj (x:NX):part false x.av.cells 0 1=some (.str x.name):=rfl
theorem Wv (x:NX):part true x.av.cells 1 14=some x.c.av:=rfl
theorem mP {l:List NX} {i:Nat} {x:NX} (h:l[i]? = some x):cx 15 (dB l) (.int .i64 (i:Int))=some (.ep x.av.cells 0):=fX rfl (by rw [List.getElem?_map,h];rfl)
theorem pX {l:List (List UInt8)} {i:Nat} {x:List UInt8} (h:l[i]? = some x):cx 1 (strs l) (.int .i64 (i:Int))=some (.ep (AV.str x).cells 0):=fX rfl (by rw [List.getElem?_map,h];rfl)
theorem Am (s:List UInt8):part false (AV.str s).cells 0 1=some (.str s):=rfl
def da (l:List NX) (nm:List UInt8):Int:=yT (l.findIdx? fun x=>x.name==nm)
def HT (ins:List (List UInt8)) (n:Nat):Prop:=∃ j k x,j<k/\k<n/\ins[j]? = some x/\ins[k]? = some x
open Classical in
noncomputable def dG (nm:List UInt8) (l:List NX) (ins:List (List UInt8)):Int :=
 if eK nm=false∨ins=[] then 1 else if HT ins ins.length then 1 else if (ins.any fun s=>decide (da l s<0))=true then 4 else 0
theorem J0 {ins:List (List UInt8)} {i:Nat} {x:List UInt8} (hx:ins[i]? = some x) (h : ¬ HT ins i) (hk:∀ j,j<i->ins[j]? ≠ some x) : ¬ HT ins (i+1):=by
 rintro ⟨j,k,y,h1,h2,h3,h4⟩
 rcases (by omega:k<i∨k=i) with e | rfl
 . exact h ⟨j,k,y,h1,e,h3,h4⟩
 . rw [hx] at h4;simp only [Option.some.injEq] at h4;subst h4;exact hk j h1 h3
def iG (l more:List NX):Int :=
 if 200<l.length+more.length then 3 else if (more.any fun x=>decide (200<x.name.length))=true then 3 else if (more.any fun x=>decide (0<=da l x.name))=true then 5 else 0
section
variable {P:Program} {G:Nat->Option (List AV)}
theorem Ti {f:FuncId} (h:Has P f lx) (l:List NX) (nm:List UInt8) (hl:l.length<=1000000):VP P G f [dB l, .str nm] (.int .i64 (da l nm)):=by
 refine VP.has h ?_
 simp only [lx,SS,Nat.reduceAdd,aP]
 refine VW.scan l (fun e=>e.name==nm) (fun i=>[dB l, .str nm, .top, .top, .top, .int .i64 i]++List.replicate 14 .top) (fun _=>none) 1000 (Wk.slots (by simp [Fg,List.replicate]) (by omega)) (fun i m x hx hlt hn d => ?_) (fun m hn d => ?_)
 . cases hb:x.name==nm
   . skip
     repeat (first
       | simp (disch:=first | decide | exact rfl) only [SS,Nat.reduceAdd,List.length_map,d,mP hx,aI,Bj,hb,aL i (by omega)]
       | with_reducible refine ah (by assumption) (by simp [aw,aB,aA,aa.int,aa.bool,aa.str,aS,aD,aF,aJ,a8,bl,aH,cg]) ?_
       | with_reducible refine ak (by assumption) (by simp [aw,aB,aA,aa.int,aa.bool,aa.str,aS,aD,aF,aJ,a8,bl,aH,cg]) ?_
       | with_reducible refine And.intro (a:=ab _ _) (by simp [ab,apart]) ?_
       | with_reducible refine VW.aC 3 (VW.of ?_)
       | with_reducible refine bY.next _ (VW.of ?_)
       | rw [aj (by exact rfl) (by exact rfl) (by exact rfl) (by exact rfl) (by exact rfl)]
       | rw [bZ (by exact rfl) (by exact rfl) (by exact rfl) (by exact rfl)]
       | rw [b6 (by exact rfl) (by exact rfl) (by exact rfl) (by exact rfl) (by exact rfl) (by exact rfl)]
       | fail)
     exact ⟨(i+1,_),⟨hlt,hn.succ hx hb⟩,by simp only [];omega,Wk.slots (by simp [Fg]) (Nat.le_refl _)⟩
   . skip
     repeat (first
       | simp (disch:=first | decide | exact rfl) only [SS,Nat.reduceAdd,List.length_map,d,mP hx,aI,Bj,hb]
       | with_reducible refine ah (by assumption) (by simp [aw,aB,aA,aa.int,aa.bool,aa.str,aS,aD,aF,aJ,a8,bl,aH,cg]) ?_
       | with_reducible refine ak (by assumption) (by simp [aw,aB,aA,aa.int,aa.bool,aa.str,aS,aD,aF,aJ,a8,bl,aH,cg]) ?_
       | with_reducible refine And.intro (a:=ab _ _) (by simp [ab,apart]) ?_
       | with_reducible refine VW.aC 3 (VW.of ?_)
       | with_reducible refine bY.next _ (VW.of ?_)
       | rw [aj (by exact rfl) (by exact rfl) (by exact rfl) (by exact rfl) (by exact rfl)]
       | rw [bZ (by exact rfl) (by exact rfl) (by exact rfl) (by exact rfl)]
       | rw [b6 (by exact rfl) (by exact rfl) (by exact rfl) (by exact rfl) (by exact rfl) (by exact rfl)]
       | fail)
     unfold da
     rw [re hx hb hn]
     exact ai▸ae rfl (aa.int _ _)
 . skip
   repeat (first
     | simp (disch:=first | decide | exact rfl) only [SS,Nat.reduceAdd,List.length_map,d]
     | with_reducible refine ah (by assumption) (by simp [aw,aB,aA,aa.int,aa.bool,aa.str,aS,aD,aF,aJ,a8,bl,aH,cg]) ?_
     | with_reducible refine ak (by assumption) (by simp [aw,aB,aA,aa.int,aa.bool,aa.str,aS,aD,aF,aJ,a8,bl,aH,cg]) ?_
     | with_reducible refine And.intro (a:=ab _ _) (by simp [ab,apart]) ?_
     | with_reducible refine VW.aC 3 (VW.of ?_)
     | with_reducible refine bY.next _ (VW.of ?_)
     | rw [aj (by exact rfl) (by exact rfl) (by exact rfl) (by exact rfl) (by exact rfl)]
     | rw [bZ (by exact rfl) (by exact rfl) (by exact rfl) (by exact rfl)]
     | rw [b6 (by exact rfl) (by exact rfl) (by exact rfl) (by exact rfl) (by exact rfl) (by exact rfl)]
     | fail)
   unfold da
   rw [rb (fun j e hj=>hn j e (List.getElem?_eq_some_iff.1 hj).1 hj)]
   exact ai▸ae rfl (aa.int _ _)
set_option maxHeartbeats 1000000 in
theorem Nj {f fn fF:FuncId} (h:Has P f (jS fn fF)) (nm:List UInt8) (l:List NX) (ins:List (List UInt8)) (hN:VP P G fn [.str nm] (.bool (eK nm))) (hF:∀ s∈ins,VP P G fF [dB l, .str s] (.int .i64 (da l s))) (hl:ins.length<=1000) :
   VP P G f [.str nm,dB l,strs ins] (.int .i64 (dG nm l ins)):=by
 refine VP.has h ?_
 unfold dG
 simp only [jS]
 cases uS:eK nm<;>rw [uS] at hN
 . rw [if_pos (.inl rfl)]
   repeat (first
     | simp (disch:=first | decide | exact rfl) only [SS,Nat.reduceAdd]
     | with_reducible refine ah (by assumption) (by simp [aa.str]) ?_
     | with_reducible refine ak (by assumption) (by simp [aa.str]) ?_
     | with_reducible refine And.intro (a:=ab _ _) (by simp [ab,apart]) ?_
     | with_reducible refine VW.aC 3 (VW.of ?_)
     | with_reducible refine bY.next _ (VW.of ?_)
     | rw [aj (by exact rfl) (by exact rfl) (by exact rfl) (by exact rfl) (by exact rfl)]
     | rw [bZ (by exact rfl) (by exact rfl) (by exact rfl) (by exact rfl)]
     | rw [b6 (by exact rfl) (by exact rfl) (by exact rfl) (by exact rfl) (by exact rfl) (by exact rfl)]
     | fail)
   exact ai▸ae rfl (aa.int _ _)
 by_cases h0:ins=[]
 . have d0:decide ((ins.length:Int)=0)=true:=ay (by rw [h0];rfl)
   rw [if_pos (.inr h0)]
   repeat (first
     | simp (disch:=first | decide | exact rfl) only [SS,Nat.reduceAdd,gK,d0]
     | with_reducible refine ah (by assumption) (by simp [aa.str]) ?_
     | with_reducible refine ak (by assumption) (by simp [aa.str]) ?_
     | with_reducible refine And.intro (a:=ab _ _) (by simp [ab,apart]) ?_
     | with_reducible refine VW.aC 3 (VW.of ?_)
     | with_reducible refine bY.next _ (VW.of ?_)
     | rw [aj (by exact rfl) (by exact rfl) (by exact rfl) (by exact rfl) (by exact rfl)]
     | rw [bZ (by exact rfl) (by exact rfl) (by exact rfl) (by exact rfl)]
     | rw [b6 (by exact rfl) (by exact rfl) (by exact rfl) (by exact rfl) (by exact rfl) (by exact rfl)]
     | fail)
   exact ai▸ae rfl (aa.int _ _)
 rw [if_neg (by simp [h0])]
 have d0:decide ((ins.length:Int)=0)=false:=au (fun e=>h0 (List.length_eq_zero_iff.1 (by omega)))
 simp only [SS,Nat.reduceAdd]
 refine ah hN (by simp [aa.str]) ?_
 simp only [SS,Nat.reduceAdd,gK,d0,aP]
 refine VW.ey (α := Nat × Nat) (fun x=>⟨[.str nm,dB l,strs ins, .top, .top, .top, .top, .int .i64 x.1]++List.replicate 43 .top,fun _=>none,x.2⟩) (fun x=>x.1<=ins.length /\ ¬ HT ins x.1) (fun x=>ins.length-x.1) (0,1000) ?_ ⟨Nat.zero_le _,fun ⟨j,k,_,_,h,_⟩=>by simp only [] at h;omega⟩ ?_
 . exact Wk.slots (by simp [Fg,List.replicate]) (by simp only [];omega)
 rintro ⟨i,n⟩ ⟨hi,hd⟩
 simp only [] at hi hd
 by_cases hlt:i<ins.length
 . obtain ⟨x,hx⟩:∃ x,ins[i]? = some x:=⟨ins[i],by simp [hlt]⟩
   have d:decide ((i:Int)<(ins.length:Int))=true:=ay (by omega)
   simp only [SS,Nat.reduceAdd,gK,d,aP]
   refine VW.ey (α := Nat × Nat) (fun x=>⟨[.str nm,dB l,strs ins, .top, .top, .top, .top, .int .i64 i, .int .i64 x.1]++List.replicate 42 .top,fun _=>none,x.2⟩) (fun y=>y.1<=i/\∀ j,j<y.1->ins[j]? ≠ some x) (fun x=>i-x.1) (0,n+1000) ?_ ⟨Nat.zero_le _,fun j hj=>absurd hj (Nat.not_lt_zero j)⟩ ?_
   . exact Wk.slots (by simp [Fg,List.replicate]) (by simp only [];omega)
   rintro ⟨k,m⟩ ⟨hk,hn⟩
   simp only [] at hk hn
   by_cases Yk:k<i
   . obtain ⟨y,hy⟩:∃ y,ins[k]? = some y:=⟨ins[k],by simp⟩
     have dk:decide ((k:Int)<(i:Int))=true:=ay (by omega)
     cases hb:x==y
     . have hne:y≠x:=fun e=>by rw [e] at hb;simp at hb
       repeat (first
         | simp (disch:=first | decide | exact rfl) only [SS,DD,Nat.reduceAdd,dk,pX hx,pX hy,aI,Am,hb,aL k (by omega)]
         | with_reducible refine ah (by assumption) (by simp [aa.str]) ?_
         | with_reducible refine ak (by assumption) (by simp [aa.str]) ?_
         | with_reducible refine And.intro (a:=ab _ _) (by simp [ab,apart]) ?_
         | with_reducible refine VW.aC 3 (VW.of ?_)
         | with_reducible refine bY.next _ (VW.of ?_)
         | rw [aj (by exact rfl) (by exact rfl) (by exact rfl) (by exact rfl) (by exact rfl)]
         | rw [bZ (by exact rfl) (by exact rfl) (by exact rfl) (by exact rfl)]
         | rw [b6 (by exact rfl) (by exact rfl) (by exact rfl) (by exact rfl) (by exact rfl) (by exact rfl)]
         | fail)
       refine ⟨(k+1,_),⟨by simp only [];omega,fun j hj => ?_⟩,by simp only [];omega,Wk.slots (by simp [Fg]) (Nat.le_refl _)⟩
       rcases (by simp only [] at hj;omega:j<k∨j=k) with e | rfl
       . exact hn j e
       . rw [hy];simpa using hne
     . have he:x=y:=by simpa using hb
       repeat (first
         | simp (disch:=first | decide | exact rfl) only [SS,DD,Nat.reduceAdd,dk,pX hx,pX hy,aI,Am,hb]
         | with_reducible refine ah (by assumption) (by simp [aa.str]) ?_
         | with_reducible refine ak (by assumption) (by simp [aa.str]) ?_
         | with_reducible refine And.intro (a:=ab _ _) (by simp [ab,apart]) ?_
         | with_reducible refine VW.aC 3 (VW.of ?_)
         | with_reducible refine bY.next _ (VW.of ?_)
         | rw [aj (by exact rfl) (by exact rfl) (by exact rfl) (by exact rfl) (by exact rfl)]
         | rw [bZ (by exact rfl) (by exact rfl) (by exact rfl) (by exact rfl)]
         | rw [b6 (by exact rfl) (by exact rfl) (by exact rfl) (by exact rfl) (by exact rfl) (by exact rfl)]
         | fail)
       rw [if_pos ⟨k,i,x,Yk,hlt,by rw [hy,he],hx⟩]
       exact ai▸ae rfl (aa.int _ _)
   . have dk:decide ((k:Int)<(i:Int))=false:=au (by omega)
     repeat (first
       | simp (disch:=first | decide | exact rfl) only [SS,Nat.reduceAdd,aP,dk,aL i (by omega)]
       | with_reducible refine ah (by assumption) (by simp [aa.str]) ?_
       | with_reducible refine ak (by assumption) (by simp [aa.str]) ?_
       | with_reducible refine And.intro (a:=ab _ _) (by simp [ab,apart]) ?_
       | with_reducible refine VW.aC 3 (VW.of ?_)
       | with_reducible refine bY.next _ (VW.of ?_)
       | rw [aj (by exact rfl) (by exact rfl) (by exact rfl) (by exact rfl) (by exact rfl)]
       | rw [bZ (by exact rfl) (by exact rfl) (by exact rfl) (by exact rfl)]
       | rw [b6 (by exact rfl) (by exact rfl) (by exact rfl) (by exact rfl) (by exact rfl) (by exact rfl)]
       | fail)
     refine ⟨(i+1,_),⟨by simp only [];omega,J0 hx hd fun j hj=>hn j (by omega)⟩,by simp only [];omega,Wk.slots (by simp [Fg]) (Nat.le_refl _)⟩
 . have d:decide ((i:Int)<(ins.length:Int))=false:=au (by omega)
   have Ww:i=ins.length:=by omega
   rw [Ww] at hd
   rw [if_neg hd]
   simp only [SS,Nat.reduceAdd,gK,d,aP]
   refine VW.scan ins (fun y=>decide (da l y<0)) (fun i=>[.str nm,dB l,strs ins, .top, .top, .top, .top, .top, .top, .int .i64 i]++List.replicate 41 .top) (fun _=>none) (n+1000) (Wk.slots (by simp [Fg,List.replicate]) (by omega)) (fun k m y hy Uy hn dk => ?_) (fun m hn dk => ?_)
   . have hv:=hF y (List.mem_of_getElem? hy)
     cases hb:decide (da l y<0)
     . skip
       repeat (first
         | simp (disch:=first | decide | exact rfl) only [SS,Nat.reduceAdd,dk,gK,pX hy,aI,Am,hb,aL k (by omega)]
         | with_reducible refine ah (by assumption) (by simp [aa.str,aH]) ?_
         | with_reducible refine ak (by assumption) (by simp [aa.str,aH]) ?_
         | with_reducible refine And.intro (a:=ab _ _) (by simp [ab,apart]) ?_
         | with_reducible refine VW.aC 3 (VW.of ?_)
         | with_reducible refine bY.next _ (VW.of ?_)
         | rw [aj (by exact rfl) (by exact rfl) (by exact rfl) (by exact rfl) (by exact rfl)]
         | rw [bZ (by exact rfl) (by exact rfl) (by exact rfl) (by exact rfl)]
         | rw [b6 (by exact rfl) (by exact rfl) (by exact rfl) (by exact rfl) (by exact rfl) (by exact rfl)]
         | fail)
       exact ⟨(k+1,_),⟨Uy,hn.succ hy hb⟩,by simp only [];omega,Wk.slots (by simp [Fg]) (Nat.le_refl _)⟩
     . skip
       repeat (first
         | simp (disch:=first | decide | exact rfl) only [SS,Nat.reduceAdd,dk,gK,pX hy,aI,Am,hb]
         | with_reducible refine ah (by assumption) (by simp [aa.str,aH]) ?_
         | with_reducible refine ak (by assumption) (by simp [aa.str,aH]) ?_
         | with_reducible refine And.intro (a:=ab _ _) (by simp [ab,apart]) ?_
         | with_reducible refine VW.aC 3 (VW.of ?_)
         | with_reducible refine bY.next _ (VW.of ?_)
         | rw [aj (by exact rfl) (by exact rfl) (by exact rfl) (by exact rfl) (by exact rfl)]
         | rw [bZ (by exact rfl) (by exact rfl) (by exact rfl) (by exact rfl)]
         | rw [b6 (by exact rfl) (by exact rfl) (by exact rfl) (by exact rfl) (by exact rfl) (by exact rfl)]
         | fail)
       rw [if_pos (Al hy hb)]
       exact ai▸ae rfl (aa.int _ _)
   . skip
     repeat (first
       | simp (disch:=first | decide | exact rfl) only [SS,Nat.reduceAdd,dk,gK]
       | with_reducible refine ah (by assumption) (by simp [aa.str]) ?_
       | with_reducible refine ak (by assumption) (by simp [aa.str]) ?_
       | with_reducible refine And.intro (a:=ab _ _) (by simp [ab,apart]) ?_
       | with_reducible refine VW.aC 3 (VW.of ?_)
       | with_reducible refine bY.next _ (VW.of ?_)
       | rw [aj (by exact rfl) (by exact rfl) (by exact rfl) (by exact rfl) (by exact rfl)]
       | rw [bZ (by exact rfl) (by exact rfl) (by exact rfl) (by exact rfl)]
       | rw [b6 (by exact rfl) (by exact rfl) (by exact rfl) (by exact rfl) (by exact rfl) (by exact rfl)]
       | fail)
     rw [if_neg (by rw [hn.any (Nat.le_refl _)];decide)]
     exact ai▸ae rfl (aa.int _ _)
theorem Tj {f fF:FuncId} (h:Has P f (ly fF)) (l more:List NX) (hl:l.length<=1000000) (hm:more.length<=1000000) (hF:∀ x∈more,VP P G fF [dB l, .str x.name] (.int .i64 (da l x.name))):VP P G f [dB l,dB more] (.int .i64 (iG l more)):=by
 have hw:IntKind.i64.wrap ((l.length:Int)+(more.length:Int))=((l.length+more.length:Nat):Int):=by rw [IntKind.wrap_i64];omega
 refine VP.has h ?_
 unfold iG
 simp only [ly]
 by_cases h0:200<l.length+more.length
 . have d0:decide ((200:Int)<((l.length+more.length:Nat):Int))=true:=ay (by omega)
   rw [if_pos h0]
   repeat (first
     | simp (disch:=first | decide | exact rfl) only [SS,Nat.reduceAdd,List.length_map,hw,d0]
     | with_reducible refine ah (by assumption) (by simp [aw,aB,aA,aa.int,aa.bool,aa.str,aS,aD,aF,aJ,a8,bl,aH,cg]) ?_
     | with_reducible refine ak (by assumption) (by simp [aw,aB,aA,aa.int,aa.bool,aa.str,aS,aD,aF,aJ,a8,bl,aH,cg]) ?_
     | with_reducible refine And.intro (a:=ab _ _) (by simp [ab,apart]) ?_
     | with_reducible refine VW.aC 3 (VW.of ?_)
     | with_reducible refine bY.next _ (VW.of ?_)
     | rw [aj (by exact rfl) (by exact rfl) (by exact rfl) (by exact rfl) (by exact rfl)]
     | rw [bZ (by exact rfl) (by exact rfl) (by exact rfl) (by exact rfl)]
     | rw [b6 (by exact rfl) (by exact rfl) (by exact rfl) (by exact rfl) (by exact rfl) (by exact rfl)]
     | fail)
   exact ai▸ae rfl (aa.int _ _)
 have d0:decide ((200:Int)<((l.length+more.length:Nat):Int))=false:=au (by omega)
 rw [if_neg h0]
 simp only [SS,Nat.reduceAdd,List.length_map,hw,d0,aP]
 refine VW.scan more (fun x=>decide (200<x.name.length)) (fun i=>[dB l,dB more, .top, .top, .top, .int .i64 i]++List.replicate 34 .top) (fun _=>none) 1000 (Wk.slots (by simp [Fg,List.replicate]) (by omega)) (fun i m x hx hlt hn d => ?_) (fun m hn d => ?_)
 . have e:decide ((200:Int)<(x.name.length:Int))=decide (200<x.name.length):=by congr 1;exact propext (by omega)
   cases hb:decide (200<x.name.length)
   . skip
     repeat (first
       | simp (disch:=first | decide | exact rfl) only [SS,Nat.reduceAdd,List.length_map,d,mP hx,aI,Bj,e,hb,aL i (by omega)]
       | with_reducible refine ah (by assumption) (by simp [aw,aB,aA,aa.int,aa.bool,aa.str,aS,aD,aF,aJ,a8,bl,aH,cg]) ?_
       | with_reducible refine ak (by assumption) (by simp [aw,aB,aA,aa.int,aa.bool,aa.str,aS,aD,aF,aJ,a8,bl,aH,cg]) ?_
       | with_reducible refine And.intro (a:=ab _ _) (by simp [ab,apart]) ?_
       | with_reducible refine VW.aC 3 (VW.of ?_)
       | with_reducible refine bY.next _ (VW.of ?_)
       | rw [aj (by exact rfl) (by exact rfl) (by exact rfl) (by exact rfl) (by exact rfl)]
       | rw [bZ (by exact rfl) (by exact rfl) (by exact rfl) (by exact rfl)]
       | rw [b6 (by exact rfl) (by exact rfl) (by exact rfl) (by exact rfl) (by exact rfl) (by exact rfl)]
       | fail)
     exact ⟨(i+1,_),⟨hlt,hn.succ hx hb⟩,by simp only [];omega,Wk.slots (by simp [Fg]) (Nat.le_refl _)⟩
   . skip
     repeat (first
       | simp (disch:=first | decide | exact rfl) only [SS,Nat.reduceAdd,List.length_map,d,mP hx,aI,Bj,e,hb]
       | with_reducible refine ah (by assumption) (by simp [aw,aB,aA,aa.int,aa.bool,aa.str,aS,aD,aF,aJ,a8,bl,aH,cg]) ?_
       | with_reducible refine ak (by assumption) (by simp [aw,aB,aA,aa.int,aa.bool,aa.str,aS,aD,aF,aJ,a8,bl,aH,cg]) ?_
       | with_reducible refine And.intro (a:=ab _ _) (by simp [ab,apart]) ?_
       | with_reducible refine VW.aC 3 (VW.of ?_)
       | with_reducible refine bY.next _ (VW.of ?_)
       | rw [aj (by exact rfl) (by exact rfl) (by exact rfl) (by exact rfl) (by exact rfl)]
       | rw [bZ (by exact rfl) (by exact rfl) (by exact rfl) (by exact rfl)]
       | rw [b6 (by exact rfl) (by exact rfl) (by exact rfl) (by exact rfl) (by exact rfl) (by exact rfl)]
       | fail)
     rw [if_pos (Al hx hb)]
     exact ai▸ae rfl (aa.int _ _)
 . rw [if_neg (by rw [hn.any (Nat.le_refl _)];decide)]
   simp only [SS,Nat.reduceAdd,List.length_map,d,aP]
   refine VW.scan more (fun x=>decide (0<=da l x.name)) (fun i=>[dB l,dB more, .top, .top, .top, .top, .int .i64 i]++List.replicate 33 .top) (fun _=>none) (m+1000) (Wk.slots (by simp [Fg,List.replicate]) (by omega)) (fun i m x hx hlt hn d => ?_) (fun m hn d => ?_)
   . have hv:=hF x (List.mem_of_getElem? hx)
     cases hb:decide (0<=da l x.name)
     . skip
       repeat (first
         | simp (disch:=first | decide | exact rfl) only [SS,Nat.reduceAdd,List.length_map,d,mP hx,aI,Bj,hb,aL i (by omega)]
         | with_reducible refine ah (by assumption) (by simp [aa.str,aH]) ?_
         | with_reducible refine ak (by assumption) (by simp [aa.str,aH]) ?_
         | with_reducible refine And.intro (a:=ab _ _) (by simp [ab,apart]) ?_
         | with_reducible refine VW.aC 3 (VW.of ?_)
         | with_reducible refine bY.next _ (VW.of ?_)
         | rw [aj (by exact rfl) (by exact rfl) (by exact rfl) (by exact rfl) (by exact rfl)]
         | rw [bZ (by exact rfl) (by exact rfl) (by exact rfl) (by exact rfl)]
         | rw [b6 (by exact rfl) (by exact rfl) (by exact rfl) (by exact rfl) (by exact rfl) (by exact rfl)]
         | fail)
       exact ⟨(i+1,_),⟨hlt,hn.succ hx hb⟩,by simp only [];omega,Wk.slots (by simp [Fg]) (Nat.le_refl _)⟩
     . skip
       repeat (first
         | simp (disch:=first | decide | exact rfl) only [SS,Nat.reduceAdd,List.length_map,d,mP hx,aI,Bj,hb]
         | with_reducible refine ah (by assumption) (by simp [aa.str,aH]) ?_
         | with_reducible refine ak (by assumption) (by simp [aa.str,aH]) ?_
         | with_reducible refine And.intro (a:=ab _ _) (by simp [ab,apart]) ?_
         | with_reducible refine VW.aC 3 (VW.of ?_)
         | with_reducible refine bY.next _ (VW.of ?_)
         | rw [aj (by exact rfl) (by exact rfl) (by exact rfl) (by exact rfl) (by exact rfl)]
         | rw [bZ (by exact rfl) (by exact rfl) (by exact rfl) (by exact rfl)]
         | rw [b6 (by exact rfl) (by exact rfl) (by exact rfl) (by exact rfl) (by exact rfl) (by exact rfl)]
         | fail)
       rw [if_pos (Al hx hb)]
       exact ai▸ae rfl (aa.int _ _)
   . skip
     repeat (first
       | simp (disch:=first | decide | exact rfl) only [SS,Nat.reduceAdd,List.length_map,d]
       | with_reducible refine ah (by assumption) (by simp [aw,aB,aA,aa.int,aa.bool,aa.str,aS,aD,aF,aJ,a8,bl,aH,cg]) ?_
       | with_reducible refine ak (by assumption) (by simp [aw,aB,aA,aa.int,aa.bool,aa.str,aS,aD,aF,aJ,a8,bl,aH,cg]) ?_
       | with_reducible refine And.intro (a:=ab _ _) (by simp [ab,apart]) ?_
       | with_reducible refine VW.aC 3 (VW.of ?_)
       | with_reducible refine bY.next _ (VW.of ?_)
       | rw [aj (by exact rfl) (by exact rfl) (by exact rfl) (by exact rfl) (by exact rfl)]
       | rw [bZ (by exact rfl) (by exact rfl) (by exact rfl) (by exact rfl)]
       | rw [b6 (by exact rfl) (by exact rfl) (by exact rfl) (by exact rfl) (by exact rfl) (by exact rfl)]
       | fail)
     rw [if_neg (by rw [hn.any (Nat.le_refl _)];decide)]
     exact ai▸ae rfl (aa.int _ _)
theorem Tk {f fv fV:FuncId} (h:Has P f (lA fv fV)) (l:List NX) (hl:l.length<=1000000) (hv:∀ x∈l,VP P G fv [V2 x.c.a] (.bool true)/\VP P G fv [V2 x.c.b] (.bool true)/\VP P G fv [V2 x.c.c] (.bool true)/\VP P G fV [x.c.av] (.bool x.c.valid)):VP P G f [dB l] (.bool !(l.any fun x => !x.c.valid)):=by
 refine VP.has h ?_
 simp only [lA,SS,Nat.reduceAdd,aP]
 refine VW.scan l (fun x => !x.c.valid) (fun i=>[dB l, .top, .top, .int .i64 i]++List.replicate 37 .top) (fun _=>none) 1000 (Wk.slots (by simp [Fg,List.replicate]) (by omega)) (fun i m x hx hlt hn d => ?_) (fun m hn d => ?_)
 . obtain ⟨v1,v2,v3,v4⟩:=hv x (List.mem_of_getElem? hx)
   cases hb : !x.c.valid<;>cases yV:x.c.Aj
   all_goals
     have RR:x.c.valid = !(!x.c.valid):=by simp
     rw [hb] at RR
     rw [RR] at v4
     repeat (first
       | simp (disch:=first | decide | exact rfl) only [SS,Nat.reduceAdd,ao,List.length_map,d,mP hx,aI,Wv,qI,JV,JW,JX,Ng,iP,yV,aL i (by omega)]
       | with_reducible refine ah (by assumption) (by simp [aJ,a8]) ?_
       | with_reducible refine ak (by assumption) (by simp [a8]) ?_
       | with_reducible refine And.intro (a:=ab _ _) (by simp [ab,apart]) ?_
       | with_reducible refine VW.aC 3 (VW.of ?_)
       | with_reducible refine bY.next _ (VW.of ?_)
       | rw [aj (by repeat (first | exact cz | refine (dM (by simp)).trans ?_)) (by exact rfl) (by exact rfl) (by exact rfl) (by exact rfl)]
       | rw [bZ (by exact rfl) (by exact rfl) (by exact rfl) (by exact rfl)]
       | rw [b6 (by exact rfl) (by exact rfl) (by exact rfl) (by exact rfl) (by exact rfl) (by exact rfl)]
       | fail)
     first
       | exact ⟨(i+1,_),⟨hlt,hn.succ hx hb⟩,by simp only [];omega,Wk.forget (by simp [Fg]) (fun _ => .inl rfl) (Nat.le_refl _)⟩
       | (rw [Al hx hb];exact ai▸ae rfl (aa.bool _))
 . skip
   repeat (first
     | simp (disch:=first | decide | exact rfl) only [SS,Nat.reduceAdd,List.length_map,d]
     | with_reducible refine ah (by assumption) (by simp [aw,aB,aA,aa.int,aa.bool,aa.str,aS,aD,aF,aJ,a8,bl,aH,cg]) ?_
     | with_reducible refine ak (by assumption) (by simp [aw,aB,aA,aa.int,aa.bool,aa.str,aS,aD,aF,aJ,a8,bl,aH,cg]) ?_
     | with_reducible refine And.intro (a:=ab _ _) (by simp [ab,apart]) ?_
     | with_reducible refine VW.aC 3 (VW.of ?_)
     | with_reducible refine bY.next _ (VW.of ?_)
     | rw [aj (by exact rfl) (by exact rfl) (by exact rfl) (by exact rfl) (by exact rfl)]
     | rw [bZ (by exact rfl) (by exact rfl) (by exact rfl) (by exact rfl)]
     | rw [b6 (by exact rfl) (by exact rfl) (by exact rfl) (by exact rfl) (by exact rfl) (by exact rfl)]
     | fail)
   rw [hn.any (Nat.le_refl _)]
   exact ai▸ae rfl (aa.bool _)
end
end Go.VL
end

section
set_option linter.unusedVariables false
set_option linter.unusedVariables false
set_option maxRecDepth 100000
namespace Go.VL
open Go.Lib
def jt (k:Nat) (v:Q2):Prop:=Sm k v.1/\Sm k v.2
theorem jt.mono {j k:Nat} {v:Q2} (h:jt j v) (MU:j<=k):jt k v:=⟨h.1.mono MU,h.2.mono MU⟩
theorem jt.add {j k:Nat} {a b:Q2} (ha:jt j a) (hb:jt k b):jt (j+k+1) (kS a b):=⟨ha.1.add hb.1,ha.2.add hb.2⟩
theorem jt.sub {j k:Nat} {a b:Q2} (ha:jt j a) (hb:jt k b):jt (j+k+1) (eR a b):=⟨ha.1.sub hb.1,ha.2.sub hb.2⟩
theorem jt.scale {j k:Nat} {a:Q2} {n:Rat} (ha:jt j a) (hn:Sm k n):jt (j+k) (iA a n):=⟨ha.1.mul hn,ha.2.mul hn⟩
theorem jt.left {j:Nat} {a:Q2} (ha:jt j a):jt j (-a.2,a.1):=⟨ha.2.neg,ha.1⟩
theorem Sm.dot {j k:Nat} {a b:Q2} (ha:jt j a) (hb:jt k b):Sm (j+k+(j+k)+1) (fB a b):=(ha.1.mul hb.1).add (ha.2.mul hb.2)
theorem Sm.JY {j k:Nat} {a b:Q2} (ha:jt j a) (hb:jt k b):Sm (4*(j+k+1)+1) (JY a b):=(Sm.dot (ha.sub hb) (ha.sub hb)).mono (by omega)
def CX.Sm (k:Nat) (x:CX):Prop:=jt k x.a/\jt k x.b/\jt k x.c
theorem CX.Sm.mono {j k:Nat} {x:CX} (h:x.Sm j) (MU:j<=k):x.Sm k:=⟨h.1.mono MU,h.2.1.mono MU,h.2.2.mono MU⟩
theorem Dv {a:Int} {b:Nat} (hb:b≠0) (h1:a.natAbs<aE) (h2:b<aE):Sm 1 ((a:Rat)/((b:Int):Rat)):=by
 rw [<- Rat.divInt_eq_div]
 exact ⟨Nat.le_trans (uN _ _) (fK (by rw [Nat.pow_one];exact h1)),Nat.le_trans (uO _ _ (by omega)) (fK (by rw [Nat.pow_one];exact h2))⟩
theorem K2 {p:Int × Int} (hp:ok8 p) (u:Nat):jt 1 (wz p u):=by
 obtain ⟨q1,q2,q3,q4⟩:=hp
 exact ⟨Dv (by omega) (by unfold aE;omega) (by unfold aE;omega),Dv (by omega) (by unfold aE;omega) (by unfold aE;omega)⟩
theorem Nk {k:Nat} (hk:k<16):jt 1 (wv k):=by
 obtain ⟨a,b,c,hu,c0,c1,a1,a2,b1,b2,_⟩:=JZ hk
 unfold wv;rw [hu]
 exact ⟨Dv c0 (by unfold aE;omega) (by unfold aE;omega),Dv c0 (by unfold aE;omega) (by unfold aE;omega)⟩
theorem Nl {d:DX} (hd:d.Ok):d.ib.Sm 20:=by
 obtain ⟨h1,h2,h3,h4⟩:=hd
 have sa:=K2 h1 d.unit
 have sb:=K2 h2 d.unit
 have su:=Nk (Nat.mod_lt d.step (by decide:0<16))
 unfold DX.ib
 split
 . exact ⟨sb.mono (by omega),(sa.add (((sb.sub sa).scale su.1).add (((sb.sub sa).left).scale su.2))).mono (by omega),sa.mono (by omega)⟩
 . exact ⟨sa.mono (by omega),sb.mono (by omega),⟨Sm.zero.mono (by omega),Sm.zero.mono (by omega)⟩⟩
def Wx (P:Program) (G:Nat->Option (List AV)) (f:FuncId):Prop:=∀ a b:Q2,jt 5000 a->jt 5000 b->bF P G f [V2 a,V2 b] (V2 (kS a b))
def aa4 (P:Program) (G:Nat->Option (List AV)) (f:FuncId):Prop:=∀ a b:Q2,jt 5000 a->jt 5000 b->bF P G f [V2 a,V2 b] (V2 (eR a b))
def K3 (P:Program) (G:Nat->Option (List AV)) (f:FuncId):Prop:=∀ (a:Q2) (n:Rat),jt 5000 a->Sm 5000 n->bF P G f [V2 a,NV n] (V2 (iA a n))
def Rf (P:Program) (G:Nat->Option (List AV)) (f:FuncId):Prop:=∀ x:CX,x.Sm 5000->VP P G f [x.av] (.bool x.valid)
theorem Wy (r w:Bool) (a b c:Q2):jq [.bool false, .nils, .nils, .nils, .nils, .nils, .nils, .nils, .nils, .nils, .nils, .nils, .nils, .bool false] [(0,(1, .bool r)),(13,(1, .bool w)),(1,(4,V2 a)),(5,(4,V2 b)),(9,(4,V2 c))]=some (CX.cells ⟨r,a,b,c,w⟩):=rfl
theorem aa5 (x:CX):AV.agg x.cells=x.av:=rfl
section
variable {P:Program} {G:Nat->Option (List AV)}
set_option maxHeartbeats 1000000 in
theorem Pd {f fa fw fm fu fs fl fp fv:FuncId} (h:Has P f (kx fa fw fm fu fs fl fp fv)) (d:DX) (hd:d.Ok) (ha:∀ p u,ok8 p->u<256->VP P G fa [I2 p, .int .u8 ((u:Nat):Int)] (V2 (wz p u))) (hw:VP P G fw [.int .i64 0, .int .i64 0] (V2 (0,0)))
   (hm:aa4 P G fm) (hu:∀ n:Nat,n<256->VP P G fu [.int .u8 (n:Int)] (V2 (wv (n%16)))) (hs:K3 P G fs) (hl:∀ a:Q2,jt 5000 a->VP P G fl [V2 a] (V2 (-a.2,a.1))) (hp:Wx P G fp) (hv:Rf P G fv):VP P G f [d.av] (.tup [d.ib.av, .bool d.ib.valid]):=by
 have rn:=hv d.ib ((Nl hd).mono (by omega))
 obtain ⟨h1,h2,h3,h4⟩:=hd
 have sa:=K2 h1 d.unit
 have sb:=K2 h2 d.unit
 have a1:=ha d.a d.unit h1 h4
 have a2:=ha d.b d.unit h2 h4
 refine VP.has h ?_
 simp only [kx]
 cases yV:d.Aj
 . have e:d.ib=⟨false,wz d.a d.unit,wz d.b d.unit,(0,0),d.cw⟩:=by unfold DX.ib;rw [if_neg (by rw [yV];decide)]
   rw [e] at rn ⊢
   repeat (first
     | simp (disch:=first | decide | exact rfl) only [SS,DD,Nat.reduceAdd,aq,ao,Wp,aaY,aaZ,aa0,aa1,aa2,yV,iP,Wy,aa5,qI]
     | with_reducible refine ah (by assumption) (by simp [aa.int,KZ]) ?_
     | with_reducible refine ak (by assumption) (by simp [aa.int,a8,KZ]) ?_
     | with_reducible refine And.intro (a:=ab _ _) (by simp [ab,apart]) ?_
     | with_reducible refine VW.aC 3 (VW.of ?_)
     | with_reducible refine bY.next _ (VW.of ?_)
     | rw [aj (by exact rfl) (by exact rfl) (by exact rfl) (by exact rfl) (by exact rfl)]
     | rw [bZ (by exact rfl) (by exact rfl) (by exact rfl) (by exact rfl)]
     | rw [b6 (by exact rfl) (by exact rfl) (by exact rfl) (by exact rfl) (by exact rfl) (by exact rfl)]
     | fail)
   refine ai▸ae (r := .tup [CX.av ⟨false,wz d.a d.unit,wz d.b d.unit,(0,0),d.cw⟩, .bool (CX.valid ⟨false,wz d.a d.unit,wz d.b d.unit,(0,0),d.cw⟩)]) ?_ (aa.tup (by simp [a8,aa.bool]))
   simp (disch:=decide) only [RS,aX,a9,ao,qI]
 . have su:=Nk (Nat.mod_lt d.step (by decide:0<16))
   have u1:=hu d.step h3
   have m1:=hm _ _ (sb.mono (by omega)) (sa.mono (by omega))
   have sv:=sb.sub sa
   have s1:=hs _ _ (sv.mono (by omega)) (su.1.mono (by omega))
   have l1:=hl _ (sv.mono (by omega))
   have s2:=hs _ _ (sv.left.mono (by omega)) (su.2.mono (by omega))
   have p1:=hp _ _ ((sv.scale su.1).mono (by omega)) ((sv.left.scale su.2).mono (by omega))
   have p2:=hp _ _ (sa.mono (by omega)) (((sv.scale su.1).add (sv.left.scale su.2)).mono (by omega))
   have e0:jq [.int .i64 0] []=some [.int .i64 0]:=rfl
   have e1:((AV.cells (.agg [.int .i64 0])).all AV.one=true)=True:=by simp [AV.cells,AV.one]
   have e:d.ib=⟨true,wz d.b d.unit,kS (wz d.a d.unit) (kS (iA (eR (wz d.b d.unit) (wz d.a d.unit)) (wv (d.step%16)).1) (iA (-(eR (wz d.b d.unit) (wz d.a d.unit)).2,(eR (wz d.b d.unit) (wz d.a d.unit)).1) (wv (d.step%16)).2)),wz d.a d.unit,d.cw⟩:=by unfold DX.ib;rw [if_pos yV]
   rw [e] at rn ⊢
   generalize hV:eR (wz d.b d.unit) (wz d.a d.unit)=v at *
   generalize wv (d.step%16)=w at *
   generalize hR:kS (wz d.a d.unit) (kS (iA v w.1) (iA (-v.2,v.1) w.2))=r at *
   repeat (first
     | simp (disch:=first | decide | exact rfl) only [SS,DD,Nat.reduceAdd,aq,ao,Wp,aaY,aaZ,aa0,aa1,afF,aa2,yV,iP,dr,Wy,aa5,qI,JW,JX,Ng,dK,Dq,Dr,e0,e1]
     | with_reducible refine ah (by assumption) (by simp [a8]) ?_
     | with_reducible refine ak (by assumption) (by simp [aa.int,aJ,a8,KZ]) ?_
     | with_reducible refine And.intro (a:=ab _ _) (by simp [ab,apart]) ?_
     | with_reducible refine VW.aC 3 (VW.of ?_)
     | with_reducible refine bY.next _ (VW.of ?_)
     | rw [aj (by exact rfl) (by exact rfl) (by exact rfl) (by exact rfl) (by exact rfl)]
     | rw [bZ (by exact rfl) (by exact rfl) (by exact rfl) (by exact rfl)]
     | rw [b6 (by exact rfl) (by exact rfl) (by exact rfl) (by exact rfl) (by exact rfl) (by exact rfl)]
     | rw [Rb (by exact rfl)]
     | rw [Rc (by exact rfl)]
     | rw [Re (by exact rfl)]
     | refine kL m1 (by decide) (by exact rfl) ?_
     | refine kL s1 (by decide) (by exact rfl) ?_
     | refine kL s2 (by decide) (by exact rfl) ?_
     | refine kL p1 (by decide) (by exact rfl) ?_
     | refine kL p2 (by decide) (by exact rfl) ?_
     | fail)
   refine ai▸ae (r := .tup [CX.av ⟨true,wz d.b d.unit,r,wz d.a d.unit,d.cw⟩, .bool (CX.valid ⟨true,wz d.b d.unit,r,wz d.a d.unit,d.cw⟩)]) ?_ (aa.tup (by simp [a8,aa.bool]))
   simp (disch:=decide) only [RS,aX,a9,ao,qI]
end
end Go.VL
end

section
set_option linter.unusedVariables false
set_option linter.unusedVariables false
set_option maxRecDepth 100000
namespace Go.VL
open Go.Lib
def OL (q:Id) (k:Nat) (l:List AV):AV:=if l=[] then .nils else .osl q k 0 l.length false
def OB (k:Nat) (l:List AV):Option cZ:=if l=[] then none else some ⟨l,k,false⟩
theorem Pe {q:Id} {k:Nat}:OL q k [] = .nils:=rfl
theorem Wz {k:Nat}:OB k []=none:=rfl
theorem Fm {q:Id} {k:Nat} {l:List AV} (h:l≠[]):OL q k l = .osl q k 0 l.length false:=if_neg h
theorem Nm {k:Nat} {l:List AV} (h:l≠[]):OB k l=some ⟨l,k,false⟩:=if_neg h
theorem Rg {q:Id} {k:Nat} {l:List AV} {x:AV}:OL q k (l++[x]) = .osl q k 0 (l.length+1) false:=by rw [Fm (by simp)];simp
theorem WA {q:Id} {k:Nat} {x:AV}:OL q k [x] = .osl q k 0 1 false:=rfl
theorem Rh {k:Nat} {l:List AV} {x:AV}:OB k (l++[x])=some ⟨l++[x],k,false⟩:=Nm (by simp)
theorem AE {σ : af} {p id Cf:Id} {k bytes:Nat} {l:List AV} {x:AV} {b t:Bool} (h : σ id=some ⟨[x],k,b⟩) (h2 : σ Cf=some ⟨l,k,false⟩) (hb:(l.length+1)*bytes<=140737488355328) (h0:0<bytes) (h1:x.cells.all AV.one=true) (h3:(l.all fun e=>e.cells.all AV.one)=true) :
   eu σ p k bytes (.osl Cf k 0 l.length false) (.osl id k 0 1 t)=some { val := .osl p k 0 (l.length+1) false,rd:=[Cf,id],up:=[(Cf,none),(p,some ⟨l++[x],k,false⟩)] } :=
 q9 (σ := σ) (p:=p) (id:=Cf) (k:=k) (bytes:=bytes) (len:=l.length) (x := .osl id k 0 1 t) (els:=l) (ys:=[x]) (rd:=[id]) (by rw [tj h rfl (by simp)];rfl) (by simp) h2 rfl hb (eD (by have:=Nat.le_mul_of_pos_right (l.length+1) h0;simp;omega)) (by simpa using h1) h3
theorem K4 {σ : af} {q:Id} {k:Nat} {l:List AV} (h:l=[] ∨ σ q=some ⟨l,k,false⟩) (hk:∀ e∈l,e.size=k) (hp:∀ c∈flat l,aa c):View σ (OL q k l) (.sl k l):=by
 by_cases hl:l=[]
 . subst hl;exact View.nils k
 . rw [Fm hl]
   exact View.osl (bk:=⟨l,k,false⟩) (h.resolve_left hl) rfl (by simp) (by simpa using aG.pure hp) (by simp) hk
theorem wA {α β : Type} {l:List α} {i:Nat} {x : α} {f : α -> β} (h:l[i]? = some x):(l.take (i+1)).map f=(l.take i).map f++[f x]:=by
 rw [List.take_add_one,h];simp
abbrev IP (l:List CX):AV := .sl 14 (l.map CX.av)
abbrev Lq (l:List DX):AV := .sl 8 (l.map DX.av)
theorem HU (l:List CX):∀ c∈flat (l.map CX.av),aa c:=by
 intro c hc
 simp only [flat,List.mem_flatMap,List.mem_map] at hc
 obtain ⟨_,⟨x,_,rfl⟩,hc⟩:=hc
 exact HR x c hc
theorem ck (l:List CX):aa (IP l):=aa.sl (HU l)
theorem WB (l:List DX):aa (Lq l):=aa.sl (by
 intro c hc
 simp only [flat,List.mem_flatMap,List.mem_map] at hc
 obtain ⟨_,⟨x,_,rfl⟩,hc⟩:=hc
 simp only [DX.av,AV.cells,List.mem_cons,List.not_mem_nil,or_false] at hc
 rcases hc with rfl | rfl | rfl | rfl | rfl | rfl | rfl | rfl<;>first | exact aa.bool _ | exact aa.int _ _)
theorem K5 {l:List DX} {i:Nat} {x:DX} (h:l[i]? = some x):cx 8 (Lq l) (.int .i64 (i:Int))=some (.ep x.av.cells 0):=fX rfl (by rw [List.getElem?_map,h];rfl)
theorem K6 {l:List CX} {i:Nat} {x:CX} (h:l[i]? = some x):cx 14 (IP l) (.int .i64 (i:Int))=some (.ep x.av.cells 0):=fX rfl (by rw [List.getElem?_map,h];rfl)
theorem pg {α : Type} {f : α -> AV} (h:∀ x,((f x).cells.all AV.one=true)=True) (l:List α):((l.map f).all fun e=>e.cells.all AV.one)=true:=by
 rw [List.all_eq_true];intro e he;obtain ⟨x,_,rfl⟩:=List.mem_map.1 he;exact of_eq_true (h x)
section
variable {P:Program} {G:Nat->Option (List AV)}
set_option maxHeartbeats 1000000 in
theorem Nn {f fc:FuncId} (h:Has P f (gz fc)) (ds:List DX) (hc:∀ d∈ds,VP P G fc [d.av] (.tup [d.ib.av, .bool d.ib.valid])) (hl:ds.length<=1000000) :
   VP P G f [Lq ds, .int .i64 6] (if 6<ds.length∨(ds.any (fun d:DX => !d.ib.valid))=true then .tup [.nils, .bool false] else .tup [IP (ds.map DX.ib), .bool true]):=by
 refine VP.has h ?_
 simp only [gz]
 by_cases h6:6<ds.length
 . have d0:decide ((6:Int)<(ds.length:Int))=true:=ay (by omega)
   rw [if_pos (.inl h6)]
   repeat (first
     | simp (disch:=first | decide | exact rfl) only [SS,Nat.reduceAdd,List.length_map,d0]
     | with_reducible refine ah (by assumption) (by simp [aw,aB,aA,aa.int,aa.bool,aa.str,aS,aD,aF,aJ,a8,bl,aH,nI,cg]) ?_
     | with_reducible refine ak (by assumption) (by simp [aw,aB,aA,aa.int,aa.bool,aa.str,aS,aD,aF,aJ,a8,bl,aH,nI,cg]) ?_
     | with_reducible refine And.intro (a:=ab _ _) (by simp [ab,apart]) ?_
     | with_reducible refine VW.aC 3 (VW.of ?_)
     | with_reducible refine bY.next _ (VW.of ?_)
     | rw [aj (by exact rfl) (by exact rfl) (by exact rfl) (by exact rfl) (by exact rfl)]
     | rw [bZ (by exact rfl) (by exact rfl) (by exact rfl) (by exact rfl)]
     | rw [b6 (by exact rfl) (by exact rfl) (by exact rfl) (by exact rfl) (by exact rfl) (by exact rfl)]
     | fail)
   exact ai▸ae rfl (aa.tup (by simp [aS,aa.bool]))
 have d0:decide ((6:Int)<(ds.length:Int))=false:=au (by omega)
 simp only [SS,Nat.reduceAdd,List.length_map,d0,aP]
 refine VW.ey (α := Nat × Nat × Nat) (fun y=>⟨[Lq ds, .int .i64 6, .top, .top, .top, .top,OL [y.2.2] 14 ((ds.take y.1).map fun d:DX=>d.ib.av), .int .i64 (y.1:Nat)]++List.replicate 27 .top,af.put (fun _=>none) [y.2.2] (OB 14 ((ds.take y.1).map fun d:DX=>d.ib.av)),y.2.1⟩)
   (fun y=>y.1<=ds.length/\y.2.2<y.2.1/\Ak ds (fun d:DX => !d.ib.valid) y.1) (fun y=>ds.length-y.1) (0,1000,0) ?_ ?_ ?_
 . exact Wk.forget (by simp [Fg,List.replicate,OL]) (fun j => .inl (by simp [af.put,OB])) (by simp only [];omega)
 . exact ⟨Nat.zero_le _,by decide,fun j e hj=>absurd hj (Nat.not_lt_zero j)⟩
 rintro ⟨i,m,q⟩ ⟨hi,hq,hn⟩
 simp only [] at hi hq hn
 by_cases hlt:i<ds.length
 . obtain ⟨x,hx⟩:∃ x,ds[i]? = some x:=⟨ds[i],by simp [hlt]⟩
   have d:decide ((i:Int)<(ds.length:Int))=true:=ay (by omega)
   have hv:=hc x (List.mem_of_getElem? hx)
   have EJ:=wA (f:=fun d:DX=>d.ib.av) hx
   have DO:(((ds.take i).map fun d:DX=>d.ib.av).all fun e=>e.cells.all AV.one)=true:=pg (f:=fun d:DX=>d.ib.av) (fun d=>B6 d.ib) _
   have hlen:((ds.take i).map fun d:DX=>d.ib.av).length<=6:=by simp;omega
   simp only []
   generalize hL:((ds.take i).map fun d:DX=>d.ib.av)=L at *
   have hnq:∀ j,m<=j->([j]:Id)≠[q]:=fun j hj=>by simp;omega
   cases hb:x.ib.valid<;>rw [hb] at hv
   . by_cases Fo:L=[]
     . rw [Fo]
       repeat (first
         | simp (disch:=first | decide | exact rfl) only [SS,Nat.reduceAdd,g0,g1,List.length_map,d,K5 hx,aI,K1,iP,Pe]
         | with_reducible refine ah (by assumption) (by simp [nI]) ?_
         | with_reducible refine ak (by assumption) (by simp [nI]) ?_
         | with_reducible refine And.intro (a:=ab _ _) (by simp [ab,apart]) ?_
         | with_reducible refine VW.aC 3 (VW.of ?_)
         | with_reducible refine bY.next _ (VW.of ?_)
         | rw [aj (by repeat (first | exact cz | refine (dM (by simp)).trans ?_)) (by exact rfl) (by exact rfl) (by exact rfl) (by exact rfl)]
         | rw [bZ (by exact rfl) (by exact rfl) (by exact rfl) (by exact rfl)]
         | rw [b6 (by exact rfl) (by exact rfl) (by exact rfl) (by exact rfl) (by exact rfl) (by exact rfl)]
         | fail)
       rw [if_pos (.inr (Al hx (by simp [hb])))]
       exact ai▸ae rfl (aa.tup (by simp [aS,aa.bool]))
     . rw [Fm Fo]
       repeat (first
         | simp (disch:=first | decide | exact rfl) only [SS,Nat.reduceAdd,g0,g1,List.length_map,d,K5 hx,aI,K1,iP]
         | with_reducible refine ah (by assumption) (by simp [nI]) ?_
         | with_reducible refine ak (by assumption) (by simp [nI]) ?_
         | with_reducible refine And.intro (a:=ab _ _) (by simp [ab,apart]) ?_
         | with_reducible refine VW.aC 3 (VW.of ?_)
         | with_reducible refine bY.next _ (VW.of ?_)
         | rw [aj (by repeat (first | exact cz | refine (dM (by simp)).trans ?_)) (by exact rfl) (by exact rfl) (by exact rfl) (by exact rfl)]
         | rw [bZ (by exact rfl) (by exact rfl) (by exact rfl) (by exact rfl)]
         | rw [b6 (by exact rfl) (by exact rfl) (by exact rfl) (by exact rfl) (by exact rfl) (by exact rfl)]
         | fail)
       rw [if_pos (.inr (Al hx (by simp [hb])))]
       exact ai▸ae rfl (aa.tup (by simp [aS,aa.bool]))
   . by_cases Fo:L=[]
     . subst Fo
       repeat (first
         | simp (disch:=first | decide | exact rfl) only [SS,Nat.reduceAdd,ao,g0,g1,List.length_map,d,K5 hx,aI,K1,qI,iP,Pe,Wz,aL i (by omega)]
         | with_reducible refine ah (by assumption) (by simp [nI]) ?_
         | with_reducible refine ak (by assumption) (by simp [nI]) ?_
         | with_reducible refine And.intro (a:=ab _ _) (by simp [ab,apart]) ?_
         | with_reducible refine VW.aC 3 (VW.of ?_)
         | with_reducible refine bY.next _ (VW.of ?_)
         | rw [aj (by repeat (first | exact cz | refine (dM (by simp)).trans ?_)) (by exact rfl) (by exact rfl) (by exact rfl) (by exact rfl)]
         | rw [bZ (by exact rfl) (by exact rfl) (by exact rfl) (by exact rfl)]
         | rw [b6 (by exact rfl) (by exact rfl) (by exact rfl) (by exact rfl) (by exact rfl) (by exact rfl)]
         | rw [uP cz (by decide) (by exact rfl)]
         | fail)
       refine ⟨(i+1,_,m+4+11+2+3),⟨hlt, ?_,hn.succ hx (by simp [hb])⟩,by simp only [];omega,Wk.forget (by simp [Fg,EJ,WA]) (fun j => ?_) (Nat.le_refl _)⟩
       . simp only [];omega
       . rw [EJ];simp only [af.put,List.nil_append];split<;>simp_all [OB]
     . rw [Fm Fo,Nm Fo]
       repeat (first
         | simp (disch:=first | decide | exact rfl) only [SS,Nat.reduceAdd,ao,g0,g1,List.length_map,d,K5 hx,aI,K1,qI,iP,aL i (by omega)]
         | with_reducible refine ah (by assumption) (by simp [nI]) ?_
         | with_reducible refine ak (by assumption) (by simp [nI]) ?_
         | with_reducible refine And.intro (a:=ab _ _) (by simp [ab,apart]) ?_
         | with_reducible refine VW.aC 3 (VW.of ?_)
         | with_reducible refine bY.next _ (VW.of ?_)
         | rw [aj (by repeat (first | exact cz | refine (dM (by simp)).trans ?_)) (by exact rfl) (by exact rfl) (by exact rfl) (by exact rfl)]
         | rw [bZ (by exact rfl) (by exact rfl) (by exact rfl) (by exact rfl)]
         | rw [b6 (by exact rfl) (by exact rfl) (by exact rfl) (by exact rfl) (by exact rfl) (by exact rfl)]
         | rw [AE (l:=L) cz (by repeat (first | exact cz | refine (dM (by simp;omega)).trans ?_)) (by omega) (by decide) (by exact rfl) DO]
         | fail)
       refine ⟨(i+1,_,m+4+11+2+3),⟨hlt, ?_,hn.succ hx (by simp [hb])⟩,by simp only [];omega,Wk.forget (by simp [Fg,EJ,Rg]) (fun j => ?_) (Nat.le_refl _)⟩
       . simp only [];omega
       . rw [EJ,Rh];simp only [af.put];split<;>simp_all
 . have d:decide ((i:Int)<(ds.length:Int))=false:=au (by omega)
   have Ww:i=ds.length:=by omega
   subst Ww
   rw [if_neg (by simp only [not_or];exact ⟨h6,by rw [hn.any (Nat.le_refl _)];decide⟩)]
   simp only [List.take_length]
   repeat (first
     | simp (disch:=first | decide | exact rfl) only [SS,Nat.reduceAdd,List.length_map,d]
     | with_reducible refine ah (by assumption) (by simp [aw,aB,aA,aa.int,aa.bool,aa.str,aS,aD,aF,aJ,a8,bl,aH,nI,cg]) ?_
     | with_reducible refine ak (by assumption) (by simp [aw,aB,aA,aa.int,aa.bool,aa.str,aS,aD,aF,aJ,a8,bl,aH,nI,cg]) ?_
     | with_reducible refine And.intro (a:=ab _ _) (by simp [ab,apart]) ?_
     | with_reducible refine VW.aC 3 (VW.of ?_)
     | with_reducible refine bY.next _ (VW.of ?_)
     | rw [aj (by repeat (first | exact cz | refine (dM (by simp)).trans ?_)) (by exact rfl) (by exact rfl) (by exact rfl) (by exact rfl)]
     | rw [bZ (by exact rfl) (by exact rfl) (by exact rfl) (by exact rfl)]
     | rw [b6 (by exact rfl) (by exact rfl) (by exact rfl) (by exact rfl) (by exact rfl) (by exact rfl)]
     | fail)
   refine ai▸⟨_,rfl,View.tup (.cons ?_ (.cons (View.pure (aa.bool _)) .nil))⟩
   have e:(ds.map fun d:DX=>d.ib.av)=(ds.map DX.ib).map CX.av:=by rw [List.map_map];rfl
   rw [e]
   refine K4 ?_ (by intro a ha;obtain ⟨y,_,rfl⟩:=List.mem_map.1 ha;rfl) (HU _)
   by_cases h0:(ds.map DX.ib).map CX.av=[]
   . exact .inl h0
   . right;simp only [af.put,if_true];exact Nm h0
def named (cs:List CX):List NX:=cs.mapIdx fun i c=>⟨[107,47]++decDigits i,c⟩
theorem Pf {cs:List CX} {i:Nat} {x:CX} (h:cs[i]? = some x):(named (cs.take (i+1))).map NX.av=(named (cs.take i)).map NX.av++[NX.av ⟨[107,47]++decDigits i,x⟩]:=by
 have hlt:=(List.getElem?_eq_some_iff.1 h).1
 unfold named
 rw [List.take_add_one,h,List.mapIdx_append]
 simp [List.length_take,Nat.min_eq_left (Nat.le_of_lt hlt)]
theorem Pg (s:List UInt8) (x:CX):jq [.str [], .bool false, .nils, .nils, .nils, .nils, .nils, .nils, .nils, .nils, .nils, .nils, .nils, .nils, .bool false] [(0,(1, .str s)),(1,(14,x.av))]=some (.str s::x.cells):=rfl
theorem WC (s:List UInt8) (x:CX):AV.agg (.str s::x.cells)=NX.av ⟨s,x⟩:=rfl
set_option maxHeartbeats 1000000 in
theorem Tl {f fc fd:FuncId} (h:Has P f (lB fc fd)) (ds:List DX) (b:Bool) (cs:List CX) (hb:b=false->cs=[]) (hl:cs.length<=6) (hc:VP P G fc [Lq ds, .int .i64 6] (if b=true then .tup [IP cs, .bool true] else .tup [.nils, .bool false])) (hd:∀ n:Nat,n<1000->VP P G fd [.int .i64 (n:Int)] (.str (decDigits n))) :
   VP P G f [Lq ds] (.tup [dB (named cs), .bool b]):=by
 refine VP.has h ?_
 simp only [lB]
 have hp0:∀ c∈[Lq ds, .int .i64 6],aa c:=by simp [WB,aa.int]
 cases b
 . rw [hb rfl]
   rw [if_neg (by decide)] at hc
   simp only [SS,Nat.reduceAdd]
   refine ah hc hp0 ?_
   repeat (first
     | simp (disch:=first | decide | exact rfl) only [SS,Nat.reduceAdd,aP,ZZ,g0,g1]
     | with_reducible refine ah (by assumption) (by simp [aa.int]) ?_
     | with_reducible refine ak (by assumption) (by simp [aa.int]) ?_
     | with_reducible refine And.intro (a:=ab _ _) (by simp [ab,apart]) ?_
     | with_reducible refine VW.aC 3 (VW.of ?_)
     | with_reducible refine bY.next _ (VW.of ?_)
     | rw [aj (by exact rfl) (by exact rfl) (by exact rfl) (by exact rfl) (by exact rfl)]
     | rw [bZ (by exact rfl) (by exact rfl) (by exact rfl) (by exact rfl)]
     | rw [b6 (by exact rfl) (by exact rfl) (by exact rfl) (by exact rfl) (by exact rfl) (by exact rfl)]
     | fail)
   exact ai▸⟨_,rfl,View.tup (.cons (View.nils 15) (.cons (View.pure (aa.bool _)) .nil))⟩
 rw [if_pos rfl] at hc
 simp only [SS,Nat.reduceAdd]
 refine ah hc hp0 ?_
 simp only [SS,Nat.reduceAdd,g0,g1,aP]
 refine VW.ey (α := Nat × Nat × Nat) (fun y=>⟨[Lq ds, .top, .top, .top,IP cs, .bool true,OL [y.2.2] 15 ((named (cs.take y.1)).map NX.av), .int .i64 (y.1:Nat)]++List.replicate 24 .top,af.put (fun _=>none) [y.2.2] (OB 15 ((named (cs.take y.1)).map NX.av)),y.2.1⟩)
   (fun y=>y.1<=cs.length/\y.2.2<y.2.1) (fun y=>cs.length-y.1) (0,1000,0) ?_ ⟨Nat.zero_le _,by decide⟩ ?_
 . exact Wk.forget (by simp [Fg,List.replicate,OL,named]) (fun j => .inl (by simp [af.put,OB,named])) (by simp only [];omega)
 rintro ⟨i,m,q⟩ ⟨hi,hq⟩
 simp only [] at hi hq
 by_cases hlt:i<cs.length
 . obtain ⟨x,hx⟩:∃ x,cs[i]? = some x:=⟨cs[i],by simp [hlt]⟩
   have d:decide ((i:Int)<(cs.length:Int))=true:=ay (by omega)
   have hv:=hd i (by omega)
   have EJ:=Pf hx
   have DO:(((named (cs.take i)).map NX.av).all fun e=>e.cells.all AV.one)=true:=pg nX _
   have hlen:((named (cs.take i)).map NX.av).length<=6:=by simp [named];omega
   have afI:bR .add .str (.str [107,47]) (.str (decDigits i))=some (.str ([107,47]++decDigits i)):=tE (by rw [qi (by omega)];simp)
   simp only []
   generalize ([107,47]++decDigits i)=nm at *
   generalize hL:(named (cs.take i)).map NX.av=L at *
   by_cases Fo:L=[]
   . subst Fo
     repeat (first
       | simp (disch:=first | decide | exact rfl) only [SS,DD,Nat.reduceAdd,List.length_map,d,K6 hx,aI,qI,afI,Pg,WC,Pe,Wz,aL i (by omega)]
       | with_reducible refine ah (by assumption) (by simp [aa.int]) ?_
       | with_reducible refine ak (by assumption) (by simp [aa.int]) ?_
       | with_reducible refine And.intro (a:=ab _ _) (by simp [ab,apart]) ?_
       | with_reducible refine VW.aC 3 (VW.of ?_)
       | with_reducible refine bY.next _ (VW.of ?_)
       | rw [aj (by repeat (first | exact cz | refine (dM (by simp)).trans ?_)) (by exact rfl) (by exact rfl) (by exact rfl) (by exact rfl)]
       | rw [bZ (by exact rfl) (by exact rfl) (by exact rfl) (by exact rfl)]
       | rw [b6 (by exact rfl) (by exact rfl) (by exact rfl) (by exact rfl) (by exact rfl) (by exact rfl)]
       | rw [uP cz (by decide) (by exact rfl)]
       | fail)
     refine ⟨(i+1,_,m+4+10),⟨hlt, ?_⟩,by simp only [];omega,Wk.forget (by simp [Fg,EJ,WA]) (fun j => ?_) (Nat.le_refl _)⟩
     . simp only [];omega
     . rw [EJ];simp only [af.put,List.nil_append];split<;>simp_all [OB]
   . rw [Fm Fo,Nm Fo]
     repeat (first
       | simp (disch:=first | decide | exact rfl) only [SS,DD,Nat.reduceAdd,List.length_map,d,K6 hx,aI,qI,afI,Pg,WC,aL i (by omega)]
       | with_reducible refine ah (by assumption) (by simp [aa.int]) ?_
       | with_reducible refine ak (by assumption) (by simp [aa.int]) ?_
       | with_reducible refine And.intro (a:=ab _ _) (by simp [ab,apart]) ?_
       | with_reducible refine VW.aC 3 (VW.of ?_)
       | with_reducible refine bY.next _ (VW.of ?_)
       | rw [aj (by repeat (first | exact cz | refine (dM (by simp)).trans ?_)) (by exact rfl) (by exact rfl) (by exact rfl) (by exact rfl)]
       | rw [bZ (by exact rfl) (by exact rfl) (by exact rfl) (by exact rfl)]
       | rw [b6 (by exact rfl) (by exact rfl) (by exact rfl) (by exact rfl) (by exact rfl) (by exact rfl)]
       | rw [AE (l:=L) cz (by repeat (first | exact cz | refine (dM (by simp;omega)).trans ?_)) (by omega) (by decide) (by exact rfl) DO]
       | fail)
     refine ⟨(i+1,_,m+4+10),⟨hlt, ?_⟩,by simp only [];omega,Wk.forget (by simp [Fg,EJ,Rg]) (fun j => ?_) (Nat.le_refl _)⟩
     . simp only [];omega
     . rw [EJ,Rh];simp only [af.put];split<;>simp_all
 . have d:decide ((i:Int)<(cs.length:Int))=false:=au (by omega)
   have Ww:i=cs.length:=by omega
   subst Ww
   simp only [List.take_length]
   repeat (first
     | simp (disch:=first | decide | exact rfl) only [SS,Nat.reduceAdd,List.length_map,d]
     | with_reducible refine ah (by assumption) (by simp [aa.int]) ?_
     | with_reducible refine ak (by assumption) (by simp [aa.int]) ?_
     | with_reducible refine And.intro (a:=ab _ _) (by simp [ab,apart]) ?_
     | with_reducible refine VW.aC 3 (VW.of ?_)
     | with_reducible refine bY.next _ (VW.of ?_)
     | rw [aj (by repeat (first | exact cz | refine (dM (by simp)).trans ?_)) (by exact rfl) (by exact rfl) (by exact rfl) (by exact rfl)]
     | rw [bZ (by exact rfl) (by exact rfl) (by exact rfl) (by exact rfl)]
     | rw [b6 (by exact rfl) (by exact rfl) (by exact rfl) (by exact rfl) (by exact rfl) (by exact rfl)]
     | fail)
   refine ai▸⟨_,rfl,View.tup (.cons (K4 ?_ (by intro a ha;obtain ⟨y,_,rfl⟩:=List.mem_map.1 ha;rfl) (Du _)) (.cons (View.pure (aa.bool _)) .nil))⟩
   by_cases h0:(named cs).map NX.av=[]
   . exact .inl h0
   . right;simp only [af.put,if_true];exact Nm h0
end
end Go.VL
end

section
set_option linter.unusedVariables false
set_option linter.unusedVariables false
set_option maxRecDepth 100000
namespace Go.VL
open Go.Lib
theorem Zw {σ : af} {p:Id} {l:List NX} (h0:l≠[]) (hl:l.length<=1000000):eu σ p 15 320 (.tsl 15 []) (dB l)=some { val := .osl p 15 0 l.length false,up:=[(p,some ⟨l.map NX.av,15,false⟩)] }:=by
 rw [j3 (es:=[]) (ys:=l.map NX.av) eO (by simpa using h0) (by simp;omega) (eD (by simp;omega)) (by simpa using pg nX l)]
 simp
theorem Zx {σ : af} {p id:Id} {l m:List NX} (h : σ id=some ⟨l.map NX.av,15,false⟩) (h0:m≠[]) (hl:l.length+m.length<=1000000):eu σ p 15 320 (.osl id 15 0 l.length false) (dB m)=some { val := .osl p 15 0 (l++m).length false,rd:=[id],up:=[(id,none),(p,some ⟨(l++m).map NX.av,15,false⟩)] }:=by
 have:=q9 (σ := σ) (p:=p) (id:=id) (k:=15) (bytes:=320) (len:=l.length) (x:=dB m) (els:=l.map NX.av) (ys:=m.map NX.av) (rd:=[]) eO (by simpa using h0) h (by simp) (by simp;omega) (eD (by simp;omega)) (pg nX m) (pg nX l)
 simpa using this
theorem F8 {σ : af} {id:Id} {l:List NX} {b t:Bool} (h : σ id=some ⟨l.map NX.av,15,b⟩):View σ (.osl id 15 0 l.length t) (dB l):=by
 have e:(l.map NX.av).length=l.length:=List.length_map ..
 rw [<- e]
 exact View.osl (bk:=⟨l.map NX.av,15,b⟩) h rfl (by simp) (by rw [List.drop_zero,List.take_length];exact aG.pure (Du l)) (by simp) (by intro a ha;obtain ⟨y,_,rfl⟩:=List.mem_map.1 ha;rfl)
theorem wB {l m:List NX} (h:iG l m=0):l.length+m.length<=200:=by
 unfold iG at h
 split at h
 . cases h
 . omega
def Ri (a b:List NX):Bool:=decide (a.length=b.length) && !((a.zip b).any fun p => !(p.1.name==p.2.name&&p.1.c.same p.2.c))
def CX.shift (x:CX) (w:Q2):CX:=⟨x.Aj,kS x.a w,kS x.b w,if x.Aj then kS x.c w else x.c,x.cw⟩
def a6 (l:List NX) (s:List UInt8):CX:=match l[(da l s).toNat]? with | some x=>x.c | none=>⟨false,(0,0),(0,0),(0,0),false⟩
theorem acG {i:Nat} (h:i<1000):(decDigits i).length<=3:=by
 by_cases h1:i<10
 . rw [qi h1];simp
 . rw [HK h1]
   by_cases h2:i/10<10
   . rw [qi h2];simp
   . rw [HK h2,qi (by omega)];simp
theorem jY {l:List NX} {s:List UInt8} (h : ¬ da l s<0):∃ (k:Nat) (x:NX),da l s=(k:Int)/\l[k]? = some x/\x.name=s/\a6 l s=x.c:=by
 unfold da at h ⊢
 cases hf:l.findIdx? fun x=>x.name==s with
 | none=>rw [hf] at h;simp [yT] at h
 | some k =>
   rw [List.findIdx?_eq_some_iff_getElem] at hf
   obtain ⟨hlt,he,_⟩:=hf
   refine ⟨k,l[k],rfl,by simp [hlt],by simpa using he, ?_⟩
   have h2:da l s=(k:Int):=by
     unfold da
     have:(l.findIdx? fun x=>x.name==s)=some k:=by rw [List.findIdx?_eq_some_iff_getElem];exact ⟨hlt,he,by assumption⟩
     rw [this];rfl
   unfold a6
   rw [h2];simp [hlt]
theorem pY {nm:List UInt8} {l:List NX} {ins:List (List UInt8)} (h:dG nm l ins=0):eK nm=true/\ins≠[]/\∀ s∈ins, ¬ da l s<0:=by
 unfold dG at h
 split at h
 . cases h
 rename_i h1
 split at h
 . cases h
 split at h
 . cases h
 rename_i h3
 refine ⟨by simp only [not_or] at h1;simpa using h1.1,fun e=>h1 (.inr e),fun s hs hn=>h3 (List.any_eq_true.2 ⟨s,hs,decide_eq_true hn⟩)⟩
section
variable {P:Program} {G:Nat->Option (List AV)}
theorem Ph {f ff:FuncId} (h:Has P f (kA ff)) (l more:List NX) (hf:VP P G ff [dB l,dB more] (.int .i64 (iG l more))) (hl:l≠[]) (hm:more≠[]) :
   VP P G f [dB l,dB more] (if iG l more=0 then .tup [dB (l++more), .int .i64 0] else .tup [.nils, .int .i64 (iG l more)]):=by
 refine VP.has h ?_
 simp only [kA]
 by_cases h0:iG l more=0
 . have d0:decide (iG l more≠0)=false:=au (by simpa using h0)
   have hlen:=wB h0
   have bs:∀ (σ : af) (p:Id),bO σ p (.buildSl 15 0 (.agg [.str [], .bool false, .nils, .nils, .nils, .nils, .nils, .nils, .nils, .nils, .nils, .nils, .nils, .nils, .bool false]) [])=some { val := .tsl 15 [] }:=fun σ p=>bs0 rfl rfl
   rw [if_pos h0]
   repeat (first
     | simp (disch:=first | decide | exact rfl) only [SS,Nat.reduceAdd,d0,bs,Zw hl (by omega:l.length<=1000000)]
     | with_reducible refine ah (by assumption) (by simp [aH]) ?_
     | with_reducible refine ak (by assumption) (by simp [aH]) ?_
     | with_reducible refine And.intro (a:=ab _ _) (by simp [ab,apart]) ?_
     | with_reducible refine VW.aC 3 (VW.of ?_)
     | with_reducible refine bY.next _ (VW.of ?_)
     | rw [aj (by exact rfl) (by exact rfl) (by exact rfl) (by exact rfl) (by exact rfl)]
     | rw [bZ (by exact rfl) (by exact rfl) (by exact rfl) (by exact rfl)]
     | rw [b6 (by exact rfl) (by exact rfl) (by exact rfl) (by exact rfl) (by exact rfl) (by exact rfl)]
     | rw [Zx (l:=l) cz hm (by omega)]
     | fail)
   refine ai▸⟨_,rfl,View.tup (.cons (F8 (by exact rfl)) (.cons (View.pure (aa.int _ _)) .nil))⟩
 . have d0:decide (iG l more≠0)=true:=ay h0
   rw [if_neg h0]
   repeat (first
     | simp (disch:=first | decide | exact rfl) only [SS,Nat.reduceAdd,d0]
     | with_reducible refine ah (by assumption) (by simp [aH]) ?_
     | with_reducible refine ak (by assumption) (by simp [aH]) ?_
     | with_reducible refine And.intro (a:=ab _ _) (by simp [ab,apart]) ?_
     | with_reducible refine VW.aC 3 (VW.of ?_)
     | with_reducible refine bY.next _ (VW.of ?_)
     | rw [aj (by exact rfl) (by exact rfl) (by exact rfl) (by exact rfl) (by exact rfl)]
     | rw [bZ (by exact rfl) (by exact rfl) (by exact rfl) (by exact rfl)]
     | rw [b6 (by exact rfl) (by exact rfl) (by exact rfl) (by exact rfl) (by exact rfl) (by exact rfl)]
     | fail)
   exact ai▸ae rfl (aa.tup (by simp [aS,aa.int]))
theorem Tm {f fe:FuncId} (h:Has P f (lz fe)) (a b:List NX) (ha:a.length<=1000000) (he:∀ x y,(x,y)∈a.zip b->VP P G fe [x.c.av,y.c.av] (.bool (x.c.same y.c))):VP P G f [dB a,dB b] (.bool (Ri a b)):=by
 refine VP.has h ?_
 simp only [lz]
 unfold Ri
 by_cases hl:a.length=b.length
 . have d0:decide ((a.length:Int)≠(b.length:Int))=false:=au (by omega)
   rw [decide_eq_true hl,Bool.true_and]
   simp only [SS,Nat.reduceAdd,List.length_map,d0,aP]
   have hz:(a.zip b).length=a.length:=by rw [List.length_zip];omega
   refine VW.scan (a.zip b) (fun p => !(p.1.name==p.2.name&&p.1.c.same p.2.c)) (fun i=>[dB a,dB b, .top, .top, .top, .int .i64 i]++List.replicate 36 .top) (fun _=>none) 1000 (Wk.slots (by simp [Fg,List.replicate]) (by omega)) (fun i m e hx hlt hn d => ?_) (fun m hn d => ?_)
   . rw [hz] at d
     obtain ⟨x,y⟩:=e
     have Ic:a[i]? = some x/\b[i]? = some y:=by rw [List.getElem?_zip_eq_some] at hx;exact hx
     have hv:=he x y (List.mem_of_getElem? hx)
     cases yY:x.name==y.name<;>cases DI:x.c.same y.c<;>rw [DI] at hv
     all_goals
       repeat (first
         | simp (disch:=first | decide | exact rfl) only [SS,DD,Nat.reduceAdd,List.length_map,d,mP Ic.1,mP Ic.2,aI,Bj,Wv,yY,aL i (by omega)]
         | with_reducible refine ah (by assumption) (by simp [a8]) ?_
         | with_reducible refine ak (by assumption) (by simp [a8]) ?_
         | with_reducible refine And.intro (a:=ab _ _) (by simp [ab,apart]) ?_
         | with_reducible refine VW.aC 3 (VW.of ?_)
         | with_reducible refine bY.next _ (VW.of ?_)
         | rw [aj (by repeat (first | exact cz | refine (dM (by simp)).trans ?_)) (by exact rfl) (by exact rfl) (by exact rfl) (by exact rfl)]
         | rw [bZ (by exact rfl) (by exact rfl) (by exact rfl) (by exact rfl)]
         | rw [b6 (by exact rfl) (by exact rfl) (by exact rfl) (by exact rfl) (by exact rfl) (by exact rfl)]
         | fail)
       first
         | exact ⟨(i+1,_),⟨hlt,hn.succ hx (by simp [yY,DI])⟩,by simp only [];omega,Wk.slots (by simp [Fg]) (Nat.le_refl _)⟩
         | (rw [Al hx (by simp [yY,DI])];exact ai▸ae rfl (aa.bool _))
   . rw [hz] at d
     repeat (first
       | simp (disch:=first | decide | exact rfl) only [SS,Nat.reduceAdd,List.length_map,d,hz]
       | with_reducible refine ah (by assumption) (by simp [aw,aB,aA,aa.int,aa.bool,aa.str,aS,aD,aF,aJ,a8,bl,aH,aY,cg]) ?_
       | with_reducible refine ak (by assumption) (by simp [aw,aB,aA,aa.int,aa.bool,aa.str,aS,aD,aF,aJ,a8,bl,aH,aY,cg]) ?_
       | with_reducible refine And.intro (a:=ab _ _) (by simp [ab,apart]) ?_
       | with_reducible refine VW.aC 3 (VW.of ?_)
       | with_reducible refine bY.next _ (VW.of ?_)
       | rw [aj (by exact rfl) (by exact rfl) (by exact rfl) (by exact rfl) (by exact rfl)]
       | rw [bZ (by exact rfl) (by exact rfl) (by exact rfl) (by exact rfl)]
       | rw [b6 (by exact rfl) (by exact rfl) (by exact rfl) (by exact rfl) (by exact rfl) (by exact rfl)]
       | fail)
     rw [hn.any (Nat.le_refl _)]
     exact ai▸ae rfl (aa.bool _)
 . have d0:decide ((a.length:Int)≠(b.length:Int))=true:=ay (by omega)
   rw [decide_eq_false hl,Bool.false_and]
   repeat (first
     | simp (disch:=first | decide | exact rfl) only [SS,Nat.reduceAdd,List.length_map,d0]
     | with_reducible refine ah (by assumption) (by simp [aw,aB,aA,aa.int,aa.bool,aa.str,aS,aD,aF,aJ,a8,bl,aH,aY,cg]) ?_
     | with_reducible refine ak (by assumption) (by simp [aw,aB,aA,aa.int,aa.bool,aa.str,aS,aD,aF,aJ,a8,bl,aH,aY,cg]) ?_
     | with_reducible refine And.intro (a:=ab _ _) (by simp [ab,apart]) ?_
     | with_reducible refine VW.aC 3 (VW.of ?_)
     | with_reducible refine bY.next _ (VW.of ?_)
     | rw [aj (by exact rfl) (by exact rfl) (by exact rfl) (by exact rfl) (by exact rfl)]
     | rw [bZ (by exact rfl) (by exact rfl) (by exact rfl) (by exact rfl)]
     | rw [b6 (by exact rfl) (by exact rfl) (by exact rfl) (by exact rfl) (by exact rfl) (by exact rfl)]
     | fail)
   exact ai▸ae rfl (aa.bool _)
end
end Go.VL
end

section
set_option linter.unusedVariables false
set_option linter.unusedVariables false
set_option maxRecDepth 100000
namespace Go.VL
open Go.Lib
theorem nJ {σ : af} {p:Id} {a c:Nat} {b:Option cZ} (h:c≠a):(σ.put (a::p) b) (c::p) = σ (c::p):=dM (by simp [h])
theorem Np {σ : af}:∀ i,(fun _=>none:af) i=none∨(fun _=>none:af) i = σ i:=fun _ => .inl rfl
theorem K7 {σ σ':af} {id:Id} {b:Option cZ} (h : σ id=b) (hs:∀ i, σ' i=none ∨ σ' i = σ i) (i:Id):(σ'.put id b) i=none∨(σ'.put id b) i = σ i:=by
 by_cases e:i=id
 . subst e;right;rw [cz,h]
 . rw [dM e];exact hs i
section
variable {P:Program} {G:Nat->Option (List AV)} {Q:bX->VS->Prop}
end
end Go.VL
end

section
set_option linter.unusedVariables false
set_option linter.unusedVariables false
set_option maxRecDepth 100000
namespace Go.VL
open Go.Lib
theorem AG (q:Rat):decide (dm q=0)=decide (q=0):=by congr 1;exact propext HM
theorem acH {i:Nat} (h:i<=1000):Sm 1 (((i:Nat):Int):Rat):=⟨fK (by rw [Nat.pow_one];show i<aE;unfold aE;omega),wh⟩
section
variable {P:Program} {G:Nat->Option (List AV)} {Q:bX->VS->Prop}
end
section
variable {P:Program} {G:Nat->Option (List AV)}
end
end Go.VL
end

section
set_option linter.unusedVariables false
set_option linter.unusedVariables false
set_option maxRecDepth 100000
namespace Go.VL
open Go.Lib
section
variable {P:Program} {G:Nat->Option (List AV)}
theorem afJ {s:List UInt8}:part false [AV.str s] 0 1=some (.str s):=rfl
theorem Zy {s:List UInt8}:((AV.str s).cells.all AV.one=true)=True:=by simp [AV.cells,AV.one]
theorem ai3 {f:FuncId} {c:AV} (h:aa c):aa (.fn (.func f) [] [c]):=aa.fn (by simp) (by simpa using h)
theorem Zz {s:List UInt8}:aa (.ep [.str s] 0):=aa.ep (by simp [aa.str])
theorem Pj {f:FuncId} (h:Has P f oW) (x:NX) (nm:List UInt8):VP P G f [x.av, .ep [.str nm] 0] (.bool (x.name==nm)):=by
 refine VP.has h ?_
 simp only [oW]
 repeat (first
   | simp (disch:=first | decide | exact rfl) only [SS,Nat.reduceAdd,ao,nX,Bj,aI,afJ]
   | with_reducible refine ah (by assumption) (by simp [aw,aB,aA,aa.int,aa.bool,aa.str,aS,aD,aF,aJ,a8,bl,aH,aY,ck,cg]) ?_
   | with_reducible refine ak (by assumption) (by simp [aw,aB,aA,aa.int,aa.bool,aa.str,aS,aD,aF,aJ,a8,bl,aH,aY,ck,cg]) ?_
   | with_reducible refine And.intro (a:=ab _ _) (by simp [ab,apart]) ?_
   | with_reducible refine VW.aC 3 (VW.of ?_)
   | with_reducible refine bY.next _ (VW.of ?_)
   | rw [aj (by exact rfl) (by exact rfl) (by exact rfl) (by exact rfl) (by exact rfl)]
   | rw [bZ (by exact rfl) (by exact rfl) (by exact rfl) (by exact rfl)]
   | rw [b6 (by exact rfl) (by exact rfl) (by exact rfl) (by exact rfl) (by exact rfl) (by exact rfl)]
   | fail)
 exact ai▸ae rfl (aa.bool _)
theorem iK {f fw:FuncId} (h:Has P f dI) {a c:List AV} {l:List NX} {p:NX->Bool} (hw:∀ e∈l,VP P G fw (a++[e.av]++c) (.bool (p e)))
   (ha:∀ x∈a,aa x) (hc:∀ x∈c,aa x) (hl:l.length<=1000000):VP P G f [dB l, .fn (.func fw) a c] (.int .i64 (yT (l.findIdx? p))):=by
 refine VP.has h ?_
 simp only [dI,SS,Nat.reduceAdd,aP]
 refine VW.scan l p (fun i=>[dB l, .fn (.func fw) a c, .top, .top, .top, .top, .top, .int .i64 l.length, .int .i64 i]++List.replicate 10 .top) (fun _=>none) 1000 (Wk.slots (by simp [Fg,List.replicate]) (by omega)) (fun i m x hx hlt hn d => ?_) (fun m hn d => ?_)
 . have hm:=List.mem_of_getElem? hx
   have hv:=hw x hm
   have aa6:∀ y∈a++[x.av]++c,aa y:=by
     intro y hy
     simp only [List.mem_append,List.mem_singleton] at hy
     rcases hy with (hy | rfl) | hy
     . exact ha y hy
     . exact bl _
     . exact hc y hy
   cases hb:p x<;>rw [hb] at hv<;>replace hv:=fun _:Unit=>hv
   . skip
     repeat (first
       | simp (disch:=first | decide | exact rfl) only [SS,Nat.reduceAdd,d,mP hx,aI,Wu,aL i (by omega)]
       | with_reducible refine ah (by assumption) (by simp [aw,aB,aA,aa.int,aa.bool,aa.str,aS,aD,aF,aJ,a8,bl,aH,aY,ck,cg]) ?_
       | with_reducible refine ak (by assumption) (by simp [aw,aB,aA,aa.int,aa.bool,aa.str,aS,aD,aF,aJ,a8,bl,aH,aY,ck,cg]) ?_
       | with_reducible refine And.intro (a:=ab _ _) (by simp [ab,apart]) ?_
       | with_reducible refine VW.aC 3 (VW.of ?_)
       | with_reducible refine bY.next _ (VW.of ?_)
       | rw [aj (by exact rfl) (by exact rfl) (by exact rfl) (by exact rfl) (by exact rfl)]
       | rw [bZ (by exact rfl) (by exact rfl) (by exact rfl) (by exact rfl)]
       | rw [b6 (by exact rfl) (by exact rfl) (by exact rfl) (by exact rfl) (by exact rfl) (by exact rfl)]
       | refine ah (hv ()) aa6 ?_
       | fail)
     exact ⟨(i+1,_),⟨hlt,hn.succ hx hb⟩,by simp only [];omega,Wk.slots (by simp [Fg]) (Nat.le_refl _)⟩
   . skip
     repeat (first
       | simp (disch:=first | decide | exact rfl) only [SS,Nat.reduceAdd,d,mP hx,aI,Wu]
       | with_reducible refine ah (by assumption) (by simp [aw,aB,aA,aa.int,aa.bool,aa.str,aS,aD,aF,aJ,a8,bl,aH,aY,ck,cg]) ?_
       | with_reducible refine ak (by assumption) (by simp [aw,aB,aA,aa.int,aa.bool,aa.str,aS,aD,aF,aJ,a8,bl,aH,aY,ck,cg]) ?_
       | with_reducible refine And.intro (a:=ab _ _) (by simp [ab,apart]) ?_
       | with_reducible refine VW.aC 3 (VW.of ?_)
       | with_reducible refine bY.next _ (VW.of ?_)
       | rw [aj (by exact rfl) (by exact rfl) (by exact rfl) (by exact rfl) (by exact rfl)]
       | rw [bZ (by exact rfl) (by exact rfl) (by exact rfl) (by exact rfl)]
       | rw [b6 (by exact rfl) (by exact rfl) (by exact rfl) (by exact rfl) (by exact rfl) (by exact rfl)]
       | refine ah (hv ()) aa6 ?_
       | fail)
     rw [re hx hb hn]
     exact ai▸ae rfl (aa.int _ _)
 . skip
   repeat (first
     | simp (disch:=first | decide | exact rfl) only [SS,d]
     | with_reducible refine ah (by assumption) (by simp [aw,aB,aA,aa.int,aa.bool,aa.str,aS,aD,aF,aJ,a8,bl,aH,aY,ck,cg]) ?_
     | with_reducible refine ak (by assumption) (by simp [aw,aB,aA,aa.int,aa.bool,aa.str,aS,aD,aF,aJ,a8,bl,aH,aY,ck,cg]) ?_
     | with_reducible refine And.intro (a:=ab _ _) (by simp [ab,apart]) ?_
     | with_reducible refine VW.aC 3 (VW.of ?_)
     | with_reducible refine bY.next _ (VW.of ?_)
     | rw [aj (by exact rfl) (by exact rfl) (by exact rfl) (by exact rfl) (by exact rfl)]
     | rw [bZ (by exact rfl) (by exact rfl) (by exact rfl) (by exact rfl)]
     | rw [b6 (by exact rfl) (by exact rfl) (by exact rfl) (by exact rfl) (by exact rfl) (by exact rfl)]
     | fail)
   rw [rb (fun j e hj=>hn j e (List.getElem?_eq_some_iff.1 hj).1 hj)]
   exact ai▸ae rfl (aa.int _ _)
theorem kT {f fi fw:FuncId} (h:Has P f (du fi)) {a c:List AV} {l:List NX} {p:NX->Bool} (hi:VP P G fi [dB l, .fn (.func fw) a c] (.int .i64 (yT (l.findIdx? p)))) (N3:aa (.fn (.func fw) a c)):VP P G f [dB l, .fn (.func fw) a c] (.bool (l.any p)):=by
 have e:decide (0<=yT (l.findIdx? p))=l.any p:=by
   rw [<- List.findIdx?_isSome]
   cases l.findIdx? p<;>simp [yT]
 replace hi:=fun _:Unit=>hi
 refine VP.has h ?_
 simp only [du]
 repeat (first
   | simp (disch:=first | decide | exact rfl) only [SS,Nat.reduceAdd,e]
   | with_reducible refine ah (by assumption) (by simp [aw,aB,aA,aa.int,aa.bool,aa.str,aS,aD,aF,aJ,a8,bl,aH,aY,ck,cg]) ?_
   | with_reducible refine ak (by assumption) (by simp [aw,aB,aA,aa.int,aa.bool,aa.str,aS,aD,aF,aJ,a8,bl,aH,aY,ck,cg]) ?_
   | with_reducible refine And.intro (a:=ab _ _) (by simp [ab,apart]) ?_
   | with_reducible refine VW.aC 3 (VW.of ?_)
   | with_reducible refine bY.next _ (VW.of ?_)
   | rw [aj (by exact rfl) (by exact rfl) (by exact rfl) (by exact rfl) (by exact rfl)]
   | rw [bZ (by exact rfl) (by exact rfl) (by exact rfl) (by exact rfl)]
   | rw [b6 (by exact rfl) (by exact rfl) (by exact rfl) (by exact rfl) (by exact rfl) (by exact rfl)]
   | refine ah (hi ()) (by intro x hx;simp at hx;rcases hx with rfl | rfl;exact aH l;exact N3) ?_
   | fail)
 exact ai▸ae rfl (aa.bool _)
theorem Tn {f f1 fi:FuncId} (h:Has P f (qC f1 fi)) (l:List NX) (nm:List UInt8) (hi:VP P G fi [dB l, .fn (.func f1) [] [.ep [.str nm] 0]] (.int .i64 (da l nm))):VP P G f [dB l, .str nm] (.int .i64 (da l nm)):=by
 refine VP.has h ?_
 simp only [qC]
 repeat (first
   | simp (disch:=first | decide | exact rfl) only [SS,Nat.reduceAdd,OW,Zy]
   | with_reducible refine ah (by assumption) (by simp [aH]) ?_
   | with_reducible refine ak (by assumption) (by simp [aH]) ?_
   | with_reducible refine And.intro (a:=ab _ _) (by simp [ab,apart]) ?_
   | with_reducible refine VW.aC 3 (VW.of ?_)
   | with_reducible refine bY.next _ (VW.of ?_)
   | rw [aj (by exact rfl) (by exact rfl) (by exact rfl) (by exact rfl) (by exact rfl)]
   | rw [bZ (by exact rfl) (by exact rfl) (by exact rfl) (by exact rfl)]
   | rw [b6 (by exact rfl) (by exact rfl) (by exact rfl) (by exact rfl) (by exact rfl) (by exact rfl)]
   | refine bJ [([0],⟨[.str nm],1,false⟩)] hi (aG.cons (View.pure (aH l)) (aG.cons (View.fn aG.nil (aG.cons (View.ref (bk:=⟨[.str nm],1,false⟩) (by simp [af.of]) rfl (aG.pure (by simp [AV.cells,aa.str]))) aG.nil)) aG.nil)) (by simp [af.put,AV.size,AV.cells]) ?_
   | fail)
 exact ai▸ae rfl (aa.int _ _)
theorem WD {f fi:FuncId} (h:Has P f (mK fi)) (l:List NX) (nm:List UInt8) (hi:VP P G fi [dB l, .str nm] (.int .i64 (da l nm))) (hf : ¬ da l nm<0):VP P G f [dB l, .str nm] (.tup [(a6 l nm).av, .bool true]):=by
 obtain ⟨k,z,hk,hz,F9,hcu⟩:=jY hf
 rw [hk] at hi
 rw [hcu]
 have d1:decide ((k:Int)<0)=false:=au (by omega)
 refine VP.has h ?_
 simp only [mK]
 repeat (first
   | simp (disch:=first | decide | exact rfl) only [SS,Nat.reduceAdd,d1,mP hz,aI,Wv,iP]
   | with_reducible refine ah (by assumption) (by simp [aa.str,aH]) ?_
   | with_reducible refine ak (by assumption) (by simp [aa.str,aH]) ?_
   | with_reducible refine And.intro (a:=ab _ _) (by simp [ab,apart]) ?_
   | with_reducible refine VW.aC 3 (VW.of ?_)
   | with_reducible refine bY.next _ (VW.of ?_)
   | rw [aj (by exact rfl) (by exact rfl) (by exact rfl) (by exact rfl) (by exact rfl)]
   | rw [bZ (by exact rfl) (by exact rfl) (by exact rfl) (by exact rfl)]
   | rw [b6 (by exact rfl) (by exact rfl) (by exact rfl) (by exact rfl) (by exact rfl) (by exact rfl)]
   | fail)
 refine ai▸ae (r := .tup [z.c.av, .bool true]) ?_ (aa.tup (by simp [a8,aa.bool]))
 simp (disch:=decide) only [RS,aX,a9,ao,qI]
theorem To {f fi:FuncId} (h:Has P f (mK fi)) (l:List NX) (nm:List UInt8) (hi:VP P G fi [dB l, .str nm] (.int .i64 (da l nm))) (hf:da l nm<0):VP P G f [dB l, .str nm] (.tup [zC, .bool false]):=by
 have d1:decide (da l nm<0)=true:=ay hf
 have e0:jq [.bool false, .nils, .nils, .nils, .nils, .nils, .nils, .nils, .nils, .nils, .nils, .nils, .nils, .bool false] []=some [.bool false, .nils, .nils, .nils, .nils, .nils, .nils, .nils, .nils, .nils, .nils, .nils, .nils, .bool false]:=rfl
 refine VP.has h ?_
 simp only [mK]
 repeat (first
   | simp (disch:=first | decide | exact rfl) only [SS,Nat.reduceAdd,d1,iP,e0]
   | with_reducible refine ah (by assumption) (by simp [aa.str,aH]) ?_
   | with_reducible refine ak (by assumption) (by simp [aa.str,aH]) ?_
   | with_reducible refine And.intro (a:=ab _ _) (by simp [ab,apart]) ?_
   | with_reducible refine VW.aC 3 (VW.of ?_)
   | with_reducible refine bY.next _ (VW.of ?_)
   | rw [aj (by exact rfl) (by exact rfl) (by exact rfl) (by exact rfl) (by exact rfl)]
   | rw [bZ (by exact rfl) (by exact rfl) (by exact rfl) (by exact rfl)]
   | rw [b6 (by exact rfl) (by exact rfl) (by exact rfl) (by exact rfl) (by exact rfl) (by exact rfl)]
   | fail)
 refine ai▸ae (r := .tup [zC, .bool false]) ?_ (aa.tup (by simp [zC,aa.agg,aa.bool,aS]))
 simp (disch:=decide) only [RS,aX,a9,ao];rfl
end
end Go.VL
end

section
set_option linter.unusedVariables false
set_option linter.unusedVariables false
set_option maxRecDepth 100000
namespace Go.VL
open Go.Lib
theorem IQ {l:List (List UInt8)} {h:Nat} (hh:h<=l.length):ek 1 (strs l) none (some (.int .i64 (h:Int))) none=some (strs (l.take h)):=by
 simp [strs,ek,gw,jA,hh,List.map_take]
section
variable {P:Program} {G:Nat->Option (List AV)}
theorem Tp {f:FuncId} (h:Has P f gr) (l:List (List UInt8)) (s:List UInt8) (hl:l.length<=1000000):VP P G f [strs l, .str s] (.int .i64 (yT (l.findIdx? fun x=>s==x))):=by
 refine VP.has h ?_
 simp only [gr,SS,Nat.reduceAdd,gK,aP]
 refine VW.scan l (fun x=>s==x) (fun i=>[strs l, .str s, .top, .top, .top, .top, .top, .int .i64 l.length, .int .i64 i]++List.replicate 10 .top) (fun _=>none) 1000 (Wk.slots (by simp [Fg,List.replicate]) (by omega)) (fun i m x hx hlt hn d => ?_) (fun m hn d => ?_)
 . cases hb:s==x
   . skip
     repeat (first
       | simp (disch:=first | decide | exact rfl) only [SS,Nat.reduceAdd,d,pX hx,Am,aI,hb,aL i (by omega)]
       | with_reducible refine ah (by assumption) (by simp [aw,aB,aA,aa.int,aa.bool,aa.str,aS,aD,aF,aJ,a8,bl,aH,aY,ck,cg]) ?_
       | with_reducible refine ak (by assumption) (by simp [aw,aB,aA,aa.int,aa.bool,aa.str,aS,aD,aF,aJ,a8,bl,aH,aY,ck,cg]) ?_
       | with_reducible refine And.intro (a:=ab _ _) (by simp [ab,apart]) ?_
       | with_reducible refine VW.aC 3 (VW.of ?_)
       | with_reducible refine bY.next _ (VW.of ?_)
       | rw [aj (by exact rfl) (by exact rfl) (by exact rfl) (by exact rfl) (by exact rfl)]
       | rw [bZ (by exact rfl) (by exact rfl) (by exact rfl) (by exact rfl)]
       | rw [b6 (by exact rfl) (by exact rfl) (by exact rfl) (by exact rfl) (by exact rfl) (by exact rfl)]
       | fail)
     exact ⟨(i+1,_),⟨hlt,hn.succ hx hb⟩,by simp only [];omega,Wk.slots (by simp [Fg]) (Nat.le_refl _)⟩
   . skip
     repeat (first
       | simp (disch:=first | decide | exact rfl) only [SS,Nat.reduceAdd,d,pX hx,Am,aI,hb]
       | with_reducible refine ah (by assumption) (by simp [aw,aB,aA,aa.int,aa.bool,aa.str,aS,aD,aF,aJ,a8,bl,aH,aY,ck,cg]) ?_
       | with_reducible refine ak (by assumption) (by simp [aw,aB,aA,aa.int,aa.bool,aa.str,aS,aD,aF,aJ,a8,bl,aH,aY,ck,cg]) ?_
       | with_reducible refine And.intro (a:=ab _ _) (by simp [ab,apart]) ?_
       | with_reducible refine VW.aC 3 (VW.of ?_)
       | with_reducible refine bY.next _ (VW.of ?_)
       | rw [aj (by exact rfl) (by exact rfl) (by exact rfl) (by exact rfl) (by exact rfl)]
       | rw [bZ (by exact rfl) (by exact rfl) (by exact rfl) (by exact rfl)]
       | rw [b6 (by exact rfl) (by exact rfl) (by exact rfl) (by exact rfl) (by exact rfl) (by exact rfl)]
       | fail)
     rw [re hx hb hn]
     exact ai▸ae rfl (aa.int _ _)
 . skip
   repeat (first
     | simp (disch:=first | decide | exact rfl) only [SS,d]
     | with_reducible refine ah (by assumption) (by simp [aw,aB,aA,aa.int,aa.bool,aa.str,aS,aD,aF,aJ,a8,bl,aH,aY,ck,cg]) ?_
     | with_reducible refine ak (by assumption) (by simp [aw,aB,aA,aa.int,aa.bool,aa.str,aS,aD,aF,aJ,a8,bl,aH,aY,ck,cg]) ?_
     | with_reducible refine And.intro (a:=ab _ _) (by simp [ab,apart]) ?_
     | with_reducible refine VW.aC 3 (VW.of ?_)
     | with_reducible refine bY.next _ (VW.of ?_)
     | rw [aj (by exact rfl) (by exact rfl) (by exact rfl) (by exact rfl) (by exact rfl)]
     | rw [bZ (by exact rfl) (by exact rfl) (by exact rfl) (by exact rfl)]
     | rw [b6 (by exact rfl) (by exact rfl) (by exact rfl) (by exact rfl) (by exact rfl) (by exact rfl)]
     | fail)
   rw [rb (fun j e hj=>hn j e (List.getElem?_eq_some_iff.1 hj).1 hj)]
   exact ai▸ae rfl (aa.int _ _)
theorem K8 {f fi:FuncId} (h:Has P f (e8 fi)) (l:List (List UInt8)) (s:List UInt8) (hi:VP P G fi [strs l, .str s] (.int .i64 (yT (l.findIdx? fun x=>s==x)))):VP P G f [strs l, .str s] (.bool (l.any fun x=>s==x)):=by
 have e:decide (0<=yT (l.findIdx? fun x=>s==x))=l.any fun x=>s==x:=by
   rw [<- List.findIdx?_isSome]
   cases l.findIdx? fun x=>s==x<;>simp [yT]
 refine VP.has h ?_
 simp only [e8]
 repeat (first
   | simp (disch:=first | decide | exact rfl) only [SS,Nat.reduceAdd,e]
   | with_reducible refine ah (by assumption) (by simp [aa.str,aY]) ?_
   | with_reducible refine ak (by assumption) (by simp [aa.str,aY]) ?_
   | with_reducible refine And.intro (a:=ab _ _) (by simp [ab,apart]) ?_
   | with_reducible refine VW.aC 3 (VW.of ?_)
   | with_reducible refine bY.next _ (VW.of ?_)
   | rw [aj (by exact rfl) (by exact rfl) (by exact rfl) (by exact rfl) (by exact rfl)]
   | rw [bZ (by exact rfl) (by exact rfl) (by exact rfl) (by exact rfl)]
   | rw [b6 (by exact rfl) (by exact rfl) (by exact rfl) (by exact rfl) (by exact rfl) (by exact rfl)]
   | fail)
 exact ai▸ae rfl (aa.bool _)
open Classical in
theorem Nq {f fc:FuncId} (h:Has P f (nP fc)) (l:List (List UInt8)) (hl:l.length<=1000000) (hc:∀ (i:Nat) s,l[i]? = some s->VP P G fc [strs (l.take i), .str s] (.bool ((l.take i).any fun x=>s==x))):VP P G f [strs l] (.bool (decide (HT l l.length))):=by
 refine VP.has h ?_
 simp only [nP,SS,Nat.reduceAdd,gK,aP]
 refine VW.ey (α := Nat × Nat) (fun y=>⟨[strs l, .top, .top, .top, .top,strs l, .int .i64 l.length, .int .i64 (y.1:Nat)]++List.replicate 10 .top,fun _=>none,y.2⟩) (fun y=>y.1<=l.length /\ ¬ HT l y.1) (fun y=>l.length-y.1) (0,1000) ?_ ⟨Nat.zero_le _,fun ⟨j,k,_,_,h,_⟩=>by simp only [] at h;omega⟩ ?_
 . exact Wk.slots (by simp [Fg,List.replicate]) (by simp only [];omega)
 rintro ⟨i,n⟩ ⟨hi,hd⟩
 simp only [] at hi hd
 by_cases hlt:i<l.length
 . obtain ⟨x,hx⟩:∃ x,l[i]? = some x:=⟨l[i],by simp [hlt]⟩
   have d:decide ((i:Int)<(l.length:Int))=true:=ay (by omega)
   have hv:=hc i x hx
   have hw:=aL i (by omega)
   have Ya:=IQ (l:=l) (h:=i) hi
   cases hb:(l.take i).any fun y=>x==y<;>rw [hb] at hv
   . skip
     repeat (first
       | simp (disch:=first | decide | exact rfl) only [SS,Nat.reduceAdd,d,pX hx,Am,aI,Ya,hw]
       | with_reducible refine ah (by assumption) (by simp [aa.str,aY]) ?_
       | with_reducible refine ak (by assumption) (by simp [aa.str,aY]) ?_
       | with_reducible refine And.intro (a:=ab _ _) (by simp [ab,apart]) ?_
       | with_reducible refine VW.aC 3 (VW.of ?_)
       | with_reducible refine bY.next _ (VW.of ?_)
       | rw [aj (by exact rfl) (by exact rfl) (by exact rfl) (by exact rfl) (by exact rfl)]
       | rw [bZ (by exact rfl) (by exact rfl) (by exact rfl) (by exact rfl)]
       | rw [b6 (by exact rfl) (by exact rfl) (by exact rfl) (by exact rfl) (by exact rfl) (by exact rfl)]
       | fail)
     refine ⟨(i+1,_),⟨hlt,J0 hx hd fun j hj e => ?_⟩,by simp only [];omega,Wk.slots (by simp [Fg]) (Nat.le_refl _)⟩
     have:((l.take i).any fun y=>x==y)=true:=List.any_eq_true.2 ⟨x,List.mem_of_getElem? (by rw [List.getElem?_take_of_lt hj];exact e),by simp⟩
     rw [this] at hb;cases hb
   . skip
     repeat (first
       | simp (disch:=first | decide | exact rfl) only [SS,Nat.reduceAdd,d,pX hx,Am,aI,Ya]
       | with_reducible refine ah (by assumption) (by simp [aa.str,aY]) ?_
       | with_reducible refine ak (by assumption) (by simp [aa.str,aY]) ?_
       | with_reducible refine And.intro (a:=ab _ _) (by simp [ab,apart]) ?_
       | with_reducible refine VW.aC 3 (VW.of ?_)
       | with_reducible refine bY.next _ (VW.of ?_)
       | rw [aj (by exact rfl) (by exact rfl) (by exact rfl) (by exact rfl) (by exact rfl)]
       | rw [bZ (by exact rfl) (by exact rfl) (by exact rfl) (by exact rfl)]
       | rw [b6 (by exact rfl) (by exact rfl) (by exact rfl) (by exact rfl) (by exact rfl) (by exact rfl)]
       | fail)
     obtain ⟨y,hy,hyx⟩:=List.any_eq_true.1 hb
     obtain ⟨j,hj⟩:=List.getElem?_of_mem hy
     have U8:j<i:=by have:=(List.getElem?_eq_some_iff.1 hj).1;simp at this;omega
     rw [List.getElem?_take_of_lt U8] at hj
     have ai5:x=y:=by simpa using hyx
     rw [decide_eq_true (show HT l l.length from ⟨j,i,x,U8,hlt,by rw [hj,ai5],hx⟩)]
     exact ai▸ae rfl (aa.bool _)
 . have d:decide ((i:Int)<(l.length:Int))=false:=au (by omega)
   have Ww:i=l.length:=by omega
   rw [Ww] at hd
   rw [decide_eq_false hd]
   repeat (first
     | simp (disch:=first | decide | exact rfl) only [SS,d]
     | with_reducible refine ah (by assumption) (by simp [aw,aB,aA,aa.int,aa.bool,aa.str,aS,aD,aF,aJ,a8,bl,aH,aY,ck,cg]) ?_
     | with_reducible refine ak (by assumption) (by simp [aw,aB,aA,aa.int,aa.bool,aa.str,aS,aD,aF,aJ,a8,bl,aH,aY,ck,cg]) ?_
     | with_reducible refine And.intro (a:=ab _ _) (by simp [ab,apart]) ?_
     | with_reducible refine VW.aC 3 (VW.of ?_)
     | with_reducible refine bY.next _ (VW.of ?_)
     | rw [aj (by exact rfl) (by exact rfl) (by exact rfl) (by exact rfl) (by exact rfl)]
     | rw [bZ (by exact rfl) (by exact rfl) (by exact rfl) (by exact rfl)]
     | rw [b6 (by exact rfl) (by exact rfl) (by exact rfl) (by exact rfl) (by exact rfl) (by exact rfl)]
     | fail)
   exact ai▸ae rfl (aa.bool _)
end
end Go.VL
end

section
set_option linter.unusedVariables false
set_option linter.unusedVariables false
set_option maxRecDepth 100000
namespace Go.VL
open Go.Lib
theorem aa7 {p:Id} {k bytes n:Nat} {z:AV} (hb:n*bytes<=140737488355328) (hn:n<=1000000) (hz:z.size=k) (h1:z.cells.all AV.one=true):jr p k bytes z (.int .i64 (n:Int)) (.int .i64 (n:Int))=some { val := .osl p k 0 n false,up:=[(p,some ⟨List.replicate n z,k,false⟩)] }:=by
 simp only [jr]
 rw [if_pos ⟨by omega,by omega,by rw [<- Int.natCast_mul];exact Int.ofNat_le.2 hb,by have:n<=maxLen:=eD (by omega);omega,hz,h1⟩]
 simp
theorem Nr {A:List AV} {x z:AV} {i k:Nat} (h:A.length=i):(A++List.replicate (k+1) z).set i x=A++[x]++List.replicate k z:=by
 rw [List.set_append_right _ _ (by omega),h,Nat.sub_self,List.replicate_succ,List.set_cons_zero];simp
section
variable {P:Program} {G:Nat->Option (List AV)}
open Classical in
set_option maxHeartbeats 1000000 in
theorem Pk {f fn fr fF:FuncId} (h:Has P f (pK fn fr fF)) (nm:List UInt8) (l:List NX) (ins:List (List UInt8)) (hN:VP P G fn [.str nm] (.bool (eK nm))) (hR:VP P G fr [strs ins] (.bool (decide (HT ins ins.length))))
   (hF:∀ s∈ins,VP P G fF [dB l, .str s] (if da l s<0 then .tup [zC, .bool false] else .tup [(a6 l s).av, .bool true])) (hl:ins.length<=1000) :
   VP P G f [.str nm,dB l,strs ins] (if dG nm l ins=0 then .tup [IP (ins.map (a6 l)), .int .i64 0] else .tup [.nils, .int .i64 (dG nm l ins)]):=by
 refine VP.has h ?_
 simp only [pK]
 cases uS:eK nm<;>rw [uS] at hN
 . have hE:dG nm l ins=1:=by unfold dG;rw [if_pos (.inl uS)]
   rw [hE,if_neg (by decide)]
   repeat (first
     | simp (disch:=first | decide | exact rfl) only [SS,Nat.reduceAdd]
     | with_reducible refine ah (by assumption) (by simp [aa.str,aY]) ?_
     | with_reducible refine ak (by assumption) (by simp [aY]) ?_
     | with_reducible refine And.intro (a:=ab _ _) (by simp [ab,apart]) ?_
     | with_reducible refine VW.aC 3 (VW.of ?_)
     | with_reducible refine bY.next _ (VW.of ?_)
     | rw [aj (by exact rfl) (by exact rfl) (by exact rfl) (by exact rfl) (by exact rfl)]
     | rw [bZ (by exact rfl) (by exact rfl) (by exact rfl) (by exact rfl)]
     | rw [b6 (by exact rfl) (by exact rfl) (by exact rfl) (by exact rfl) (by exact rfl) (by exact rfl)]
     | fail)
   exact ai▸ae rfl (aa.tup (by simp [aS,aa.int]))
 by_cases h0:ins=[]
 . have d0:decide ((ins.length:Int)=0)=true:=ay (by rw [h0];rfl)
   have hE:dG nm l ins=1:=by unfold dG;rw [if_pos (.inr h0)]
   rw [hE,if_neg (by decide)]
   repeat (first
     | simp (disch:=first | decide | exact rfl) only [SS,Nat.reduceAdd,gK,d0]
     | with_reducible refine ah (by assumption) (by simp [aa.str,aY]) ?_
     | with_reducible refine ak (by assumption) (by simp [aY]) ?_
     | with_reducible refine And.intro (a:=ab _ _) (by simp [ab,apart]) ?_
     | with_reducible refine VW.aC 3 (VW.of ?_)
     | with_reducible refine bY.next _ (VW.of ?_)
     | rw [aj (by exact rfl) (by exact rfl) (by exact rfl) (by exact rfl) (by exact rfl)]
     | rw [bZ (by exact rfl) (by exact rfl) (by exact rfl) (by exact rfl)]
     | rw [b6 (by exact rfl) (by exact rfl) (by exact rfl) (by exact rfl) (by exact rfl) (by exact rfl)]
     | fail)
   exact ai▸ae rfl (aa.tup (by simp [aS,aa.int]))
 have d0:decide ((ins.length:Int)=0)=false:=au (fun e=>h0 (List.length_eq_zero_iff.1 (by omega)))
 have XN : ¬ (eK nm=false∨ins=[]):=by simp [h0,uS]
 by_cases hd:HT ins ins.length
 . rw [decide_eq_true hd] at hR
   have hE:dG nm l ins=1:=by unfold dG;rw [if_neg XN,if_pos hd]
   rw [hE,if_neg (by decide)]
   repeat (first
     | simp (disch:=first | decide | exact rfl) only [SS,Nat.reduceAdd,gK,d0]
     | with_reducible refine ah (by assumption) (by simp [aa.str,aY]) ?_
     | with_reducible refine ak (by assumption) (by simp [aY]) ?_
     | with_reducible refine And.intro (a:=ab _ _) (by simp [ab,apart]) ?_
     | with_reducible refine VW.aC 3 (VW.of ?_)
     | with_reducible refine bY.next _ (VW.of ?_)
     | rw [aj (by exact rfl) (by exact rfl) (by exact rfl) (by exact rfl) (by exact rfl)]
     | rw [bZ (by exact rfl) (by exact rfl) (by exact rfl) (by exact rfl)]
     | rw [b6 (by exact rfl) (by exact rfl) (by exact rfl) (by exact rfl) (by exact rfl) (by exact rfl)]
     | fail)
   exact ai▸ae rfl (aa.tup (by simp [aS,aa.int]))
 rw [decide_eq_false hd] at hR
 have uM:=fun p:Id=>aa7 (p:=p) (k:=14) (bytes:=304) (n:=ins.length) (z:=zC) (by omega) (by omega) rfl rfl
 unfold zC at uM
 repeat (first
   | simp (disch:=first | decide | exact rfl) only [SS,Nat.reduceAdd,gK,d0,uM]
   | with_reducible refine ah (by assumption) (by simp [aa.str,aY]) ?_
   | with_reducible refine ak (by assumption) (by simp [aY]) ?_
   | with_reducible refine And.intro (a:=ab _ _) (by simp [ab,apart]) ?_
   | rw [aj (by exact rfl) (by exact rfl) (by exact rfl) (by exact rfl) (by exact rfl)]
   | rw [bZ (by exact rfl) (by exact rfl) (by exact rfl) (by exact rfl)]
   | rw [b6 (by exact rfl) (by exact rfl) (by exact rfl) (by exact rfl) (by exact rfl) (by exact rfl)]
   | fail)
 simp only [aP]
 refine VW.ey (α := Nat × Nat) (fun y=>⟨[.str nm,dB l,strs ins]++List.replicate 5 .top++[.osl [16] 14 0 ins.length false]++List.replicate 19 .top++[strs ins, .int .i64 ins.length, .int .i64 (y.1:Nat)]++List.replicate 18 .top,
   af.put (fun _=>none) [16] (some ⟨(ins.take y.1).map (fun s=>(a6 l s).av)++List.replicate (ins.length-y.1) zC,14,false⟩),y.2⟩)
   (fun y=>y.1<=ins.length/\Ak ins (fun s=>decide (da l s<0)) y.1/\1000<=y.2) (fun y=>ins.length-y.1) (0,1000) ?_ ⟨Nat.zero_le _,fun j e hj=>absurd hj (Nat.not_lt_zero j),Nat.le_refl _⟩ ?_
 . refine Wk.forget (by simp [Fg,List.replicate]) (K7 (by simp [af.put,zC]) Np) (by omega)
 rintro ⟨i,m⟩ ⟨hi,hn,hm⟩
 simp only [] at hi hn hm
 by_cases hlt:i<ins.length
 . obtain ⟨s,hs⟩:∃ s,ins[i]? = some s:=⟨ins[i],by simp [hlt]⟩
   have d:decide ((i:Int)<(ins.length:Int))=true:=ay (by omega)
   have hv:=hF s (List.mem_of_getElem? hs)
   have hw:=aL i (by omega)
   have l16:16<m:=by omega
   have zo:(zC.cells.all AV.one=true)=True:=by simp [zC,AV.cells,AV.one]
   by_cases hb:da l s<0
   . rw [if_pos hb] at hv
     clear hF uM
     repeat (first
       | simp (disch:=first | decide | exact rfl | with_reducible assumption | exact Nat.ne_of_lt (by repeat (first | with_reducible assumption | apply Nat.lt_add_right))) only [SS,Nat.reduceAdd,g0,g1,d,pX hs,Am,aI,iP]
       | with_reducible refine ah (by assumption) (by simp [aa.str,aH]) ?_
       | with_reducible refine ak (by assumption) (by simp [aa.str,aH]) ?_
       | with_reducible refine And.intro (a:=ab _ _) (by simp [ab,apart];try assumption) ?_
       | rw [aj (by repeat (first | with_reducible exact cz | refine (nJ (by first | with_reducible assumption | decide | exact Nat.ne_of_lt (by repeat (first | with_reducible assumption | apply Nat.lt_add_right)))).trans ?_)) (by exact rfl) (by exact rfl) (by exact rfl) (by exact rfl)]
       | rw [bZ (by exact rfl) (by exact rfl) (by exact rfl) (by exact rfl)]
       | rw [b6 (by exact rfl) (by exact rfl) (by exact rfl) (by exact rfl) (by exact rfl) (by exact rfl)]
       | fail)
     have hE:dG nm l ins=4:=by unfold dG;rw [if_neg XN,if_neg hd,if_pos (Al hs (by simp [hb]))]
     rw [hE,if_neg (by decide)]
     exact ai▸ae rfl (aa.tup (by simp [aS,aa.int]))
   . rw [if_neg hb] at hv
     have mY:cx 14 (.osl [16] 14 0 ins.length false) (.int .i64 (i:Int))=some (.ref [16] i 0):=by rw [Hx hlt,Nat.zero_add]
     have EJ:=wA (f:=fun s=>(a6 l s).av) hs
     obtain ⟨k,hk⟩:∃ k,ins.length-i=k+1:=⟨ins.length-i-1,by omega⟩
     have hk2:ins.length-(i+1)=k:=by omega
     have hA:((ins.take i).map fun s=>(a6 l s).av).length=i:=by simp;omega
     have hst:∀ σ : af, σ [16]=some ⟨(ins.take i).map (fun s=>(a6 l s).av)++List.replicate (ins.length-i) zC,14,false⟩->fD σ 14 (.ref [16] i 0) (a6 l s).av=some { val := .tup [],rd:=[[16]],up:=[([16],some ⟨(ins.take (i+1)).map (fun s=>(a6 l s).av)++List.replicate (ins.length-(i+1)) zC,14,false⟩)] }:=fun σ hσ => by
       rw [fy (n:=14) (v:=(a6 l s).av) (el:=zC) hσ (by rw [hk,List.getElem?_append_right (by omega),hA,Nat.sub_self];rfl) rfl (by decide) (of_eq_true (B6 _))]
       rw [EJ,hk2,hk,Nr hA]
       rfl
     clear hF uM
     repeat (first
       | simp (disch:=first | decide | exact rfl | with_reducible assumption | exact Nat.ne_of_lt (by repeat (first | with_reducible assumption | apply Nat.lt_add_right))) only [SS,Nat.reduceAdd,ao,g0,g1,d,pX hs,Am,aI,iP,qI,mY,hw]
       | with_reducible refine ah (by assumption) (by simp [aa.str,aH]) ?_
       | with_reducible refine ak (by assumption) (by simp [aa.str,aH]) ?_
       | with_reducible refine And.intro (a:=ab _ _) (by simp [ab,apart];try assumption) ?_
       | rw [aj (by repeat (first | with_reducible exact cz | refine (nJ (by first | with_reducible assumption | decide | exact Nat.ne_of_lt (by repeat (first | with_reducible assumption | apply Nat.lt_add_right)))).trans ?_)) (by exact rfl) (by exact rfl) (by exact rfl) (by exact rfl)]
       | rw [bZ (by exact rfl) (by exact rfl) (by exact rfl) (by exact rfl)]
       | rw [b6 (by exact rfl) (by exact rfl) (by exact rfl) (by exact rfl) (by exact rfl) (by exact rfl)]
       | rw [hst _ (by repeat (first | with_reducible exact cz | refine (nJ (by first | with_reducible assumption | decide | exact Nat.ne_of_lt (by repeat (first | with_reducible assumption | apply Nat.lt_add_right)))).trans ?_))]
       | fail)
     exact ⟨(i+1,_),⟨hlt,hn.succ hs (by simp [hb]),by simp only [];omega⟩,by simp only [];omega,Wk.forget (by simp [Fg]) (K7 (by exact cz) Np) (Nat.le_refl _)⟩
 . have d:decide ((i:Int)<(ins.length:Int))=false:=au (by omega)
   have Ww:i=ins.length:=by omega
   subst Ww
   have hE:dG nm l ins=0:=by unfold dG;rw [if_neg XN,if_neg hd,if_neg (by rw [hn.any (Nat.le_refl _)];decide)]
   rw [if_pos hE]
   simp only [List.take_length,Nat.sub_self,List.replicate_zero,List.append_nil]
   clear hF uM
   repeat (first
     | simp (disch:=first | decide | exact rfl | with_reducible assumption | exact Nat.ne_of_lt (by repeat (first | with_reducible assumption | apply Nat.lt_add_right))) only [SS,Nat.reduceAdd,d]
     | with_reducible refine ah (by assumption) (by simp [aY]) ?_
     | with_reducible refine ak (by assumption) (by simp [aY]) ?_
     | with_reducible refine And.intro (a:=ab _ _) (by simp [ab,apart];try assumption) ?_
     | rw [aj (by repeat (first | with_reducible exact cz | refine (nJ (by first | with_reducible assumption | decide | exact Nat.ne_of_lt (by repeat (first | with_reducible assumption | apply Nat.lt_add_right)))).trans ?_)) (by exact rfl) (by exact rfl) (by exact rfl) (by exact rfl)]
     | rw [bZ (by exact rfl) (by exact rfl) (by exact rfl) (by exact rfl)]
     | rw [b6 (by exact rfl) (by exact rfl) (by exact rfl) (by exact rfl) (by exact rfl) (by exact rfl)]
     | fail)
   refine ai▸⟨_,rfl,View.tup (.cons ?_ (.cons (View.pure (aa.int _ _)) .nil))⟩
   have e:(ins.map fun s=>(a6 l s).av)=(ins.map (a6 l)).map CX.av:=by rw [List.map_map];rfl
   have:=K4 (σ := af.put (fun _=>none) [16] (some ⟨(ins.map (a6 l)).map CX.av,14,false⟩)) (q:=[16]) (k:=14) (l:=(ins.map (a6 l)).map CX.av) (.inr cz) (by intro a ha;obtain ⟨y,_,rfl⟩:=List.mem_map.1 ha;rfl) (HU _)
   rw [Fm (by simpa using h0)] at this
   have hlen:((ins.map (a6 l)).map CX.av).length=ins.length:=by simp
   rw [hlen] at this
   rw [e]
   exact this
end
end Go.VL
end

section
set_option linter.unusedVariables false
set_option linter.unusedVariables false
set_option maxRecDepth 100000
namespace Go.VL
open Go.Lib
theorem Ga {l:List NX}:((dB l).cells.all AV.one=true)=True:=by simp [AV.cells,AV.one]
theorem afK {l:List NX}:part false [dB l] 0 1=some (dB l):=rfl
theorem Ns {l:List NX}:part false (dB l).cells 0 1=some (dB l):=rfl
section
variable {P:Program} {G:Nat->Option (List AV)}
theorem WE {f:FuncId} (h:Has P f pL) (x:NX):VP P G f [x.av] (.bool (decide (200<x.name.length))):=by
 have e:decide ((200:Int)<(x.name.length:Int))=decide (200<x.name.length):=by congr 1;exact propext (by omega)
 refine VP.has h ?_
 simp only [pL]
 repeat (first
   | simp (disch:=first | decide | exact rfl) only [SS,Nat.reduceAdd,ao,nX,Bj,e]
   | with_reducible refine ah (by assumption) (by simp [aw,aB,aA,aa.int,aa.bool,aa.str,aS,aD,aF,aJ,a8,bl,aH,aY,ck,cg]) ?_
   | with_reducible refine ak (by assumption) (by simp [aw,aB,aA,aa.int,aa.bool,aa.str,aS,aD,aF,aJ,a8,bl,aH,aY,ck,cg]) ?_
   | with_reducible refine And.intro (a:=ab _ _) (by simp [ab,apart]) ?_
   | with_reducible refine VW.aC 3 (VW.of ?_)
   | with_reducible refine bY.next _ (VW.of ?_)
   | rw [aj (by exact rfl) (by exact rfl) (by exact rfl) (by exact rfl) (by exact rfl)]
   | rw [bZ (by exact rfl) (by exact rfl) (by exact rfl) (by exact rfl)]
   | rw [b6 (by exact rfl) (by exact rfl) (by exact rfl) (by exact rfl) (by exact rfl) (by exact rfl)]
   | fail)
 exact ai▸ae rfl (aa.bool _)
theorem WG {f fi:FuncId} (h:Has P f (pM fi)) (l:List NX) (x:NX) (hi:VP P G fi [dB l, .str x.name] (.int .i64 (da l x.name))):VP P G f [x.av, .ep [dB l] 0] (.bool (decide (0<=da l x.name))):=by
 refine VP.has h ?_
 simp only [pM]
 repeat (first
   | simp (disch:=first | decide | exact rfl) only [SS,Nat.reduceAdd,ao,nX,Bj,aI,afK]
   | with_reducible refine ah (by assumption) (by simp [aa.str,aH]) ?_
   | with_reducible refine ak (by assumption) (by simp [aa.str,aH]) ?_
   | with_reducible refine And.intro (a:=ab _ _) (by simp [ab,apart]) ?_
   | with_reducible refine VW.aC 3 (VW.of ?_)
   | with_reducible refine bY.next _ (VW.of ?_)
   | rw [aj (by exact rfl) (by exact rfl) (by exact rfl) (by exact rfl) (by exact rfl)]
   | rw [bZ (by exact rfl) (by exact rfl) (by exact rfl) (by exact rfl)]
   | rw [b6 (by exact rfl) (by exact rfl) (by exact rfl) (by exact rfl) (by exact rfl) (by exact rfl)]
   | fail)
 exact ai▸ae rfl (aa.bool _)
set_option maxHeartbeats 2000000 in
theorem WH {f f1 f2 fc:FuncId} (h:Has P f (rL f1 f2 fc)) (l more:List NX) (hl:l.length<=1000000) (hm:more.length<=1000000) (h1:VP P G fc [dB more, .fn (.func f1) [] []] (.bool (more.any fun x=>decide (200<x.name.length))))
   (h2:VP P G fc [dB more, .fn (.func f2) [] [.ep [dB l] 0]] (.bool (more.any fun x=>decide (0<=da l x.name)))):VP P G f [dB l,dB more] (.int .i64 (iG l more)):=by
 have hw:IntKind.i64.wrap ((l.length:Int)+(more.length:Int))=((l.length+more.length:Nat):Int):=by rw [IntKind.wrap_i64];omega
 refine VP.has h ?_
 unfold iG
 simp only [rL]
 by_cases h0:200<l.length+more.length
 . have d0:decide ((200:Int)<((l.length+more.length:Nat):Int))=true:=ay (by omega)
   rw [if_pos h0]
   repeat (first
     | simp (disch:=first | decide | exact rfl) only [SS,Nat.reduceAdd,ao,Ga,Ns,List.length_map,hw,d0]
     | with_reducible refine ah (by assumption) (by simp [aH]) ?_
     | with_reducible refine ak (by assumption) (by simp [aH]) ?_
     | with_reducible refine And.intro (a:=ab _ _) (by simp [ab,apart]) ?_
     | with_reducible refine VW.aC 3 (VW.of ?_)
     | with_reducible refine bY.next _ (VW.of ?_)
     | rw [aj (by exact rfl) (by exact rfl) (by exact rfl) (by exact rfl) (by exact rfl)]
     | rw [bZ (by exact rfl) (by exact rfl) (by exact rfl) (by exact rfl)]
     | rw [b6 (by exact rfl) (by exact rfl) (by exact rfl) (by exact rfl) (by exact rfl) (by exact rfl)]
     | fail)
   exact ai▸ae rfl (aa.int _ _)
 have d0:decide ((200:Int)<((l.length+more.length:Nat):Int))=false:=au (by omega)
 rw [if_neg h0]
 cases hb:more.any fun x=>decide (200<x.name.length)<;>rw [hb] at h1
 . rw [if_neg (by decide)]
   cases hc:more.any fun x=>decide (0<=da l x.name)<;>rw [hc] at h2
   . rw [if_neg (by decide)]
     repeat (first
       | simp (disch:=first | decide | exact rfl) only [SS,Nat.reduceAdd,ao,OW,Ga,Ns,List.length_map,hw,d0]
       | with_reducible refine ah (by assumption) (by simp [aH,cg]) ?_
       | with_reducible refine ak (by assumption) (by simp [aH]) ?_
       | with_reducible refine And.intro (a:=ab _ _) (by simp [ab,apart]) ?_
       | with_reducible refine VW.aC 3 (VW.of ?_)
       | with_reducible refine bY.next _ (VW.of ?_)
       | rw [aj (by exact rfl) (by exact rfl) (by exact rfl) (by exact rfl) (by exact rfl)]
       | rw [bZ (by exact rfl) (by exact rfl) (by exact rfl) (by exact rfl)]
       | rw [b6 (by exact rfl) (by exact rfl) (by exact rfl) (by exact rfl) (by exact rfl) (by exact rfl)]
       | refine bJ [([0],⟨[dB l],1,false⟩)] h2 (aG.cons (View.pure (aH more)) (aG.cons (View.fn aG.nil (aG.cons (View.ref (bk:=⟨[dB l],1,false⟩) (by simp [af.of]) rfl (aG.pure (by simp [AV.cells,aH]))) aG.nil)) aG.nil)) (by simp [af.put,AV.size,AV.cells]) ?_
       | fail)
     exact ai▸ae rfl (aa.int _ _)
   . rw [if_pos rfl]
     repeat (first
       | simp (disch:=first | decide | exact rfl) only [SS,Nat.reduceAdd,ao,OW,Ga,Ns,List.length_map,hw,d0]
       | with_reducible refine ah (by assumption) (by simp [aH,cg]) ?_
       | with_reducible refine ak (by assumption) (by simp [aH]) ?_
       | with_reducible refine And.intro (a:=ab _ _) (by simp [ab,apart]) ?_
       | with_reducible refine VW.aC 3 (VW.of ?_)
       | with_reducible refine bY.next _ (VW.of ?_)
       | rw [aj (by exact rfl) (by exact rfl) (by exact rfl) (by exact rfl) (by exact rfl)]
       | rw [bZ (by exact rfl) (by exact rfl) (by exact rfl) (by exact rfl)]
       | rw [b6 (by exact rfl) (by exact rfl) (by exact rfl) (by exact rfl) (by exact rfl) (by exact rfl)]
       | refine bJ [([0],⟨[dB l],1,false⟩)] h2 (aG.cons (View.pure (aH more)) (aG.cons (View.fn aG.nil (aG.cons (View.ref (bk:=⟨[dB l],1,false⟩) (by simp [af.of]) rfl (aG.pure (by simp [AV.cells,aH]))) aG.nil)) aG.nil)) (by simp [af.put,AV.size,AV.cells]) ?_
       | fail)
     exact ai▸ae rfl (aa.int _ _)
 . rw [if_pos rfl]
   repeat (first
     | simp (disch:=first | decide | exact rfl) only [SS,Nat.reduceAdd,ao,Ga,Ns,List.length_map,hw,d0]
     | with_reducible refine ah (by assumption) (by simp [aH,cg]) ?_
     | with_reducible refine ak (by assumption) (by simp [aH]) ?_
     | with_reducible refine And.intro (a:=ab _ _) (by simp [ab,apart]) ?_
     | with_reducible refine VW.aC 3 (VW.of ?_)
     | with_reducible refine bY.next _ (VW.of ?_)
     | rw [aj (by exact rfl) (by exact rfl) (by exact rfl) (by exact rfl) (by exact rfl)]
     | rw [bZ (by exact rfl) (by exact rfl) (by exact rfl) (by exact rfl)]
     | rw [b6 (by exact rfl) (by exact rfl) (by exact rfl) (by exact rfl) (by exact rfl) (by exact rfl)]
     | fail)
   exact ai▸ae rfl (aa.int _ _)
end
end Go.VL
end

section
set_option linter.unusedVariables false
set_option linter.unusedVariables false
set_option maxRecDepth 100000
namespace Go.VL
open Go.Lib
abbrev zN:AV := .agg [.str [], .bool false, .nils, .nils, .nils, .nils, .nils, .nils, .nils, .nils, .nils, .nils, .nils, .nils, .bool false]
theorem AH {a b:List NX}:aa (.sl 1 [dB a,dB b]):=aa.sl (by intro c hc;simp [flat,AV.cells] at hc;rcases hc with rfl | rfl<;>exact aH _)
theorem acI {q:Id} {n:Nat} (h0:0<n) (hn:n<=1000):I0 q 15 320 zN .nils (.int .i64 (n:Int))=some { val := .osl q 15 0 n false,up:=[(q,some ⟨List.replicate n zN,15,false⟩)] }:=by
 simp only [I0]
 rw [if_pos ⟨by omega,by omega,by have:n<=maxLen:=eD (by omega);omega,rfl,rfl⟩]
 simp
theorem Kp {σ : af} {p id:Id} {A:List AV} {ys:List NX} {k:Nat} (h : σ id=some ⟨A++List.replicate (ys.length+k) zN,15,false⟩) (h0:ys≠[]) (hl:A.length+ys.length<=1000) :
   eu σ p 15 320 (.osl id 15 0 A.length false) (dB ys)=some { val := .osl id 15 0 (A.length+ys.length) false,rd:=[id],up:=[(id,some ⟨A++ys.map NX.av++List.replicate k zN,15,false⟩)] }:=by
 have hy:0<ys.length:=List.length_pos_iff.2 h0
 have e1:(ys.map NX.av).isEmpty=false:=by simpa using h0
 have hmx:A.length+ys.length<=maxLen:=eD (by omega)
 simp only [eu,eO,e1,h,List.length_map]
 rw [if_neg (by decide),if_pos ⟨trivial,trivial,trivial,by simp,by omega,hmx,pg nX ys⟩,if_neg (by decide),if_neg (fun hh=>by have:=hh.1;rw [List.length_append,List.length_replicate] at this;omega),if_pos ⟨by simp,trivial⟩]
 simp [List.drop_append]
section
variable {P:Program} {G:Nat->Option (List AV)}
theorem K9 {f:FuncId} (h:Has P f dv) (n:Nat) (h0:0<n) (hn:n<=1000) (p:Id):aZ P G f [.nils, .int .i64 (n:Int)] p [] { val := .osl (18::p) 15 0 0 false,up:=[(18::p,some ⟨List.replicate n zN,15,false⟩)] }:=by
 have d1:decide ((n:Int)<0)=false:=au (by omega)
 have d2:decide ((0:Int)<(n:Int))=true:=ay (by omega)
 have w1:IntKind.i64.wrap ((0:Int)-0)=0:=by decide
 have w2:IntKind.i64.wrap ((n:Int)-0)=(n:Int):=by rw [IntKind.wrap_i64];omega
 have cp:T6 .nils=some (.int .i64 0):=rfl
 have so:∀ q:Id,ek 15 (.osl q 15 0 n false) none (some (.int .i64 0)) none=some (.osl q 15 0 0 false):=fun q=>HF (h:=0) (Nat.zero_le _)
 refine aZ.has h ?_
 simp only [dv]
 repeat (first
   | simp (disch:=first | decide | exact rfl) only [SS,Nat.reduceAdd,d1,d2,w1,w2,cp,Fi,acI h0 hn,so]
   | with_reducible refine ah (by assumption) (by simp [aw,aB,aA,aa.int,aa.bool,aa.str,aS,aD,aF,aJ,a8,bl,aH,aY,ck,AH,cg]) ?_
   | with_reducible refine ak (by assumption) (by simp [aw,aB,aA,aa.int,aa.bool,aa.str,aS,aD,aF,aJ,a8,bl,aH,aY,ck,AH,cg]) ?_
   | with_reducible refine And.intro (a:=ab _ _) (by simp [ab,apart]) ?_
   | with_reducible refine VW.aC 3 (VW.of ?_)
   | with_reducible refine bY.next _ (VW.of ?_)
   | rw [aj (by repeat (first | exact cz | refine (dM (by simp)).trans ?_)) (by exact rfl) (by exact rfl) (by exact rfl) (by exact rfl)]
   | rw [bZ (by exact rfl) (by exact rfl) (by exact rfl) (by exact rfl)]
   | rw [b6 (by exact rfl) (by exact rfl) (by exact rfl) (by exact rfl) (by exact rfl) (by exact rfl)]
   | fail)
 refine eI▸bH rfl (fun i => ?_)
 by_cases e:i=18::p
 . right;subst e;simp [af.app,af.put]
 . left;simp [af.app,af.put,af.of,e]
theorem Tq {f fg:FuncId} (h:Has P f (eo fg)) (hg:Has P fg dv) (l more:List NX) (hl:l≠[]) (hm:more≠[]) (hlen:l.length+more.length<=200):VP P G f [.sl 1 [dB l,dB more]] (dB (l++more)):=by
 have l0:0<l.length:=List.length_pos_iff.2 hl
 have w1:IntKind.i64.wrap ((0:Int)+(l.length:Int))=(l.length:Int):=by rw [IntKind.wrap_i64];omega
 have w2:IntKind.i64.wrap ((l.length:Int)+(more.length:Int))=((l.length+more.length:Nat):Int):=by rw [IntKind.wrap_i64];omega
 have d1:decide ((l.length:Int)<0)=false:=au (by omega)
 have d2:decide (((l.length+more.length:Nat):Int)<0)=false:=au (by omega)
 have d3:qS false (.sl 1 [dB l,dB more])=some (.int .i64 2):=rfl
 have a1:∀ (σ : af) (p id:Id), σ id=some ⟨List.replicate (l.length+more.length) zN,15,false⟩->eu σ p 15 320 (.osl id 15 0 0 false) (dB l)=some { val := .osl id 15 0 l.length false,rd:=[id],up:=[(id,some ⟨l.map NX.av++List.replicate more.length zN,15,false⟩)] }:=fun σ p id hσ => by
   have:=Kp (σ := σ) (p:=p) (id:=id) (A:=[]) (ys:=l) (k:=more.length) (by simpa using hσ) hl (by simp;omega)
   simpa using this
 have a2:∀ (σ : af) (p id:Id), σ id=some ⟨l.map NX.av++List.replicate more.length zN,15,false⟩->eu σ p 15 320 (.osl id 15 0 l.length false) (dB more)=some { val := .osl id 15 0 (l++more).length false,rd:=[id],up:=[(id,some ⟨(l++more).map NX.av,15,false⟩)] }:=fun σ p id hσ => by
   have:=Kp (σ := σ) (p:=p) (id:=id) (A:=l.map NX.av) (ys:=more) (k:=0) (by simpa using hσ) hm (by simp;omega)
   simpa using this
 refine VP.has h ?_
 simp only [eo]
 repeat (first
   | simp (disch:=first | decide | exact rfl) only [SS,Nat.reduceAdd,aP,ZZ,d3,MZ,SR,aI,Ns,List.length_map,w1,w2,d1,d2]
   | with_reducible refine ah (by assumption) (by simp [aw,aB,aA,aa.int,aa.bool,aa.str,aS,aD,aF,aJ,a8,bl,aH,aY,ck,AH,cg]) ?_
   | with_reducible refine ak (by assumption) (by simp [aw,aB,aA,aa.int,aa.bool,aa.str,aS,aD,aF,aJ,a8,bl,aH,aY,ck,AH,cg]) ?_
   | with_reducible refine And.intro (a:=ab _ _) (by simp [ab,apart]) ?_
   | with_reducible refine VW.aC 3 (VW.of ?_)
   | with_reducible refine bY.next _ (VW.of ?_)
   | rw [aj (by exact rfl) (by exact rfl) (by exact rfl) (by exact rfl) (by exact rfl)]
   | rw [bZ (by exact rfl) (by exact rfl) (by exact rfl) (by exact rfl)]
   | rw [b6 (by exact rfl) (by exact rfl) (by exact rfl) (by exact rfl) (by exact rfl) (by exact rfl)]
   | refine ⟨[],_,K9 hg (l.length+more.length) (by omega) (by omega) _,by simp,by simp, ?_⟩
   | rw [a1 _ _ _ (by exact rfl)]
   | rw [a2 _ _ _ (by exact rfl)]
   | fail)
 refine ai▸⟨_,rfl,F8 (by exact rfl)⟩
theorem ZA {f fr fc:FuncId} (h:Has P f (rM fr fc)) (l more:List NX) (hr:VP P G fr [dB l,dB more] (.int .i64 (iG l more))) (hc:iG l more=0->VP P G fc [.sl 1 [dB l,dB more]] (dB (l++more))) :
   VP P G f [dB l,dB more] (if iG l more=0 then .tup [dB (l++more), .int .i64 0] else .tup [.nils, .int .i64 (iG l more)]):=by
 refine VP.has h ?_
 simp only [rM]
 by_cases h0:iG l more=0
 . have d0:decide (iG l more≠0)=false:=au (by simpa using h0)
   have Yw:=hc h0
   rw [if_pos h0]
   have hv:aG (af.of [([10],⟨[dB l,dB more],1,false⟩)]) [.osl [10] 1 0 2 false] [.sl 1 [dB l,dB more]]:=aG.cons (VR (b:=false) (by simp [af.of]) rfl rfl (by intro c hc;simp [AV.cells] at hc;subst hc;exact aH _) (by intro c hc;simp [AV.cells] at hc;subst hc;exact aH _)) aG.nil
   repeat (first
     | simp (disch:=first | decide | exact rfl) only [SS,Nat.reduceAdd,OW,d0]
     | with_reducible refine ah (by assumption) (by simp [aH,AH]) ?_
     | with_reducible refine ak (by assumption) (by simp [AH]) ?_
     | with_reducible refine And.intro (a:=ab _ _) (by simp [ab,apart]) ?_
     | with_reducible refine VW.aC 3 (VW.of ?_)
     | with_reducible refine bY.next _ (VW.of ?_)
     | rw [aj (by exact rfl) (by exact rfl) (by exact rfl) (by exact rfl) (by exact rfl)]
     | rw [bZ (by exact rfl) (by exact rfl) (by exact rfl) (by exact rfl)]
     | rw [b6 (by exact rfl) (by exact rfl) (by exact rfl) (by exact rfl) (by exact rfl) (by exact rfl)]
     | refine bJ _ Yw hv (by simp [af.put]) ?_
     | fail)
   exact ai▸ae rfl (aa.tup (by simp [aH,aa.int]))
 . have d0:decide (iG l more≠0)=true:=ay h0
   rw [if_neg h0]
   repeat (first
     | simp (disch:=first | decide | exact rfl) only [SS,Nat.reduceAdd,d0]
     | with_reducible refine ah (by assumption) (by simp [aH]) ?_
     | with_reducible refine ak (by assumption) (by simp [aH]) ?_
     | with_reducible refine And.intro (a:=ab _ _) (by simp [ab,apart]) ?_
     | with_reducible refine VW.aC 3 (VW.of ?_)
     | with_reducible refine bY.next _ (VW.of ?_)
     | rw [aj (by exact rfl) (by exact rfl) (by exact rfl) (by exact rfl) (by exact rfl)]
     | rw [bZ (by exact rfl) (by exact rfl) (by exact rfl) (by exact rfl)]
     | rw [b6 (by exact rfl) (by exact rfl) (by exact rfl) (by exact rfl) (by exact rfl) (by exact rfl)]
     | fail)
   exact ai▸ae rfl (aa.tup (by simp [aS,aa.int]))
end
end Go.VL
end

section
set_option linter.unusedVariables false
set_option linter.unusedVariables false
set_option maxRecDepth 100000
namespace Go.VL
open Go.Lib
section
variable {P:Program} {G:Nat->Option (List AV)}
theorem HV {f:FuncId} (h:Has P f cj) {es:List AV} (hk:∀ e∈es,e.size=15) (h1:(es.all fun e=>e.cells.all AV.one)=true) (hp:∀ c∈flat es,aa c) (hl:es.length*320<=140737488355328):VP P G f [.sl 15 es] (.sl 15 es):=by
 refine VP.has h ?_
 have hb:∀ (σ : af) (p:Id),bO σ p (.buildSl 15 0 zN [])=some { val := .tsl 15 [] }:=fun σ p=>bs0 rfl rfl
 cases es with
 | nil =>
   simp only [cj,SS,Nat.reduceAdd]
   refine ⟨?_, ?_⟩
   . exact ai▸⟨.nils,rfl,View.nils 15⟩
   . simp only [SS,Nat.reduceAdd,hb,o8 eO]
     exact ai▸⟨_,rfl,View.Yn 15⟩
 | cons e es =>
   simp only [cj,SS,Nat.reduceAdd,hb]
   rw [j3 (es:=[]) eO (by simp) (by simpa using hl) (eD (by simp at hl ⊢;omega)) (by simpa using h1)]
   simp only [SS,Nat.reduceAdd]
   refine ai▸⟨_,rfl,View.osl (bk:=⟨e::es,15,false⟩) rfl rfl (by simp) ?_ (by simp) hk⟩
   simpa using aG.pure hp
theorem IU {f:FuncId} (h:Has P f cj) (l:List NX) (hl:l.length<=1000000):VP P G f [dB l] (dB l) :=
 HV h (by intro a ha;obtain ⟨y,_,rfl⟩:=List.mem_map.1 ha;rfl) (pg nX l) (Du l) (by simp;omega)
end
end Go.VL
end

section
set_option linter.unusedVariables false
set_option linter.unusedVariables false
set_option maxRecDepth 100000
namespace Go.VL
open Go.Lib
section
variable {P:Program} {G:Nat->Option (List AV)}
theorem Gb {f ff fi:FuncId} (h:Has P f (nN ff fi)) (a:Q2):bF P G f [V2 a, .int .i64 0] (V2 a):=fun p id jZ=>by
 have hq:=pe jZ
 refine aZ.has h ?_
 simp only [nN]
 repeat (first
   | simp (disch:=first | decide | exact rfl) only [jo,SS,Nat.reduceAdd,ao,ZZ,gG,dK,dr]
   | with_reducible refine ah (by assumption) (by simp [aw,aB,aA,aa.int,aa.bool,aa.str,aS,aD,aF,aJ,a8,bl,aH,aY,ck,cg]) ?_
   | with_reducible refine ak (by assumption) (by simp [aw,aB,aA,aa.int,aa.bool,aa.str,aS,aD,aF,aJ,a8,bl,aH,aY,ck,cg]) ?_
   | with_reducible refine And.intro (a:=ab _ _) (by simp [ab,apart]) ?_
   | with_reducible refine VW.aC 3 (VW.of ?_)
   | with_reducible refine bY.next _ (VW.of ?_)
   | rw [aj (by repeat (first | exact cz | refine (dM (by simp)).trans ?_)) (by exact rfl) (by exact rfl) (by exact rfl) (by exact rfl)]
   | rw [bZ (by exact rfl) (by exact rfl) (by exact rfl) (by exact rfl)]
   | rw [b6 (by exact rfl) (by exact rfl) (by exact rfl) (by exact rfl) (by exact rfl) (by exact rfl)]
   | fail)
 refine eI▸bH (by simp (disch:=decide) only [RS,aX,a9,ao,dK]) (Ai (by simp [af.put,af.of,hq]))
theorem ZB {f fa fv:FuncId} (h:Has P f (nO fa fv)) (a b:Q2) (ha:VP P G fa [V2 a,V2 b] (.tup [V2 (kS a b), .int .i64 0])) (hv:∀ a,bF P G fv [V2 a, .int .i64 0] (V2 a)):bF P G f [V2 a,V2 b] (V2 (kS a b)):=fun p id jZ=>by
 have hq:=pe jZ
 refine aZ.has h ?_
 simp only [nO]
 repeat (first
   | simp (disch:=first | decide | exact rfl) only [jo,SS,Nat.reduceAdd,ao,g0,g1,gG,dK,dr]
   | with_reducible refine ah (by assumption) (by simp [aJ]) ?_
   | with_reducible refine ak (by assumption) (by simp [aJ]) ?_
   | with_reducible refine And.intro (a:=ab _ _) (by simp [ab,apart]) ?_
   | with_reducible refine VW.aC 3 (VW.of ?_)
   | with_reducible refine bY.next _ (VW.of ?_)
   | rw [aj (by repeat (first | exact cz | refine (dM (by simp)).trans ?_)) (by exact rfl) (by exact rfl) (by exact rfl) (by exact rfl)]
   | rw [bZ (by exact rfl) (by exact rfl) (by exact rfl) (by exact rfl)]
   | rw [b6 (by exact rfl) (by exact rfl) (by exact rfl) (by exact rfl) (by exact rfl) (by exact rfl)]
   | refine hZ (hv _) jZ (by simp [af.put,af.of,hq]) ?_
   | fail)
 refine eI▸bH (by simp (disch:=decide) only [RS,aX,a9,ao,dK]) (Ai (by simp [af.put,af.of,hq]))
theorem Tr {f fa fv:FuncId} (h:Has P f (mJ fa fv)) (a:Q2) (n:Rat) (ha:VP P G fa [V2 a,NV n] (.tup [V2 (iA a n), .int .i64 0])) (hv:∀ a,bF P G fv [V2 a, .int .i64 0] (V2 a)):bF P G f [V2 a,NV n] (V2 (iA a n)):=fun p id jZ=>by
 have hq:=pe jZ
 refine aZ.has h ?_
 simp only [mJ]
 repeat (first
   | simp (disch:=first | decide | exact rfl) only [jo,SS,Nat.reduceAdd,ao,g0,g1,gG,dK,g8,cB,dr]
   | with_reducible refine ah (by assumption) (by simp [aF,aJ]) ?_
   | with_reducible refine ak (by assumption) (by simp [aF,aJ]) ?_
   | with_reducible refine And.intro (a:=ab _ _) (by simp [ab,apart]) ?_
   | with_reducible refine VW.aC 3 (VW.of ?_)
   | with_reducible refine bY.next _ (VW.of ?_)
   | rw [aj (by repeat (first | exact cz | refine (dM (by simp)).trans ?_)) (by exact rfl) (by exact rfl) (by exact rfl) (by exact rfl)]
   | rw [bZ (by exact rfl) (by exact rfl) (by exact rfl) (by exact rfl)]
   | rw [b6 (by exact rfl) (by exact rfl) (by exact rfl) (by exact rfl) (by exact rfl) (by exact rfl)]
   | refine hZ (hv _) jZ (by simp [af.put,af.of,hq]) ?_
   | fail)
 refine eI▸bH (by simp (disch:=decide) only [RS,aX,a9,ao,dK]) (Ai (by simp [af.put,af.of,hq]))
end
end Go.VL
end

section
set_option linter.unusedVariables false
set_option linter.unusedVariables false
set_option maxRecDepth 100000
namespace Go.VL
open Go.Lib
def ImC (P:Program) (G:Nat->Option (List AV)) (f:FuncId) (IW:List AV) (S:List (Id × cZ)) (im:Q2->Q2) (ok:Q2->Prop):Prop :=
 ∀ p:Id,(∀ x∈S, ¬ p <:+ x.1)->∀ a:Q2,ok a->aZ P G f (V2 a::IW) p S { val:=V2 (im a),rd:=S.map (·.1) }
section
variable {P:Program} {G:Nat->Option (List AV)}
end
end Go.VL
end

section
set_option linter.unusedVariables false
set_option linter.unusedVariables false
set_option maxRecDepth 100000
namespace Go.VL
open Go.Lib
def CX.img (x:CX) (im:Q2->Q2) (pj:Bool):CX:=⟨x.Aj,im x.a,im x.b,if x.Aj then im x.c else x.c,if x.Aj then !(x.cw==pj) else x.cw⟩
theorem WI {σ σ':af} {id:Id} {b:Option cZ} (h : σ' id=none) (hs:∀ i, σ' i=none ∨ σ' i = σ i) (i:Id) : σ' i=none ∨ σ' i=(σ.put id b) i:=by
 by_cases e:i=id
 . subst e;exact .inl h
 . rw [dM e];exact hs i
theorem sub_self {σ : af}:∀ i, σ i=none ∨ σ i = σ i:=fun _ => .inr rfl
section
variable {P:Program} {G:Nat->Option (List AV)} {π : Id} {base:Nat} {Q:bX->VS->Prop} {n:Nat} {ps:List (Nat × Nat)} {d:Option Nat} {os:List bx} {i:Nat} {t:List AV} {σ : af} {acc:List eS} {f:FuncId} {IW:List AV} {S:List (Id × cZ)} {im:Q2->Q2} {ok:Q2->Prop} {a:Q2}
theorem Rj {p:Id} {x:Id} {m:Nat} (h : ¬ p <:+ x) : ¬ (m::p) <:+ x:=fun ⟨q,e⟩=>h ⟨q++[m],by simpa using e⟩
theorem Ts (h:ImC P G f IW S im ok) (hp:∀ x∈S, ¬ π <:+ x.1) (ha:ok a) (hσ : ∀ x∈S, σ x.1=some x.2) (k:vs P G π base Q n os (i+1) (gl t d (V2 (im a))) σ):Bq P G π base Q n d os i t σ f (V2 a::IW) :=
 ⟨_,_,h _ (fun x hx=>Rj (hp x hx)) a ha,hσ,fun x hx=>List.mem_map.2 ⟨x,hx,rfl⟩,k⟩
theorem Tt (h:ImC P G f IW S im ok) (hp:∀ x∈S, ¬ π <:+ x.1) (ha:ok a) (hσ : ∀ x∈S, σ x.1=some x.2) (k:vd P G π base Q n ps os (i+1) ({ val:=V2 (im a),rd:=S.map (·.1) }::acc) (gl t d (V2 (im a))) σ):D2 P G π base Q n ps d os i acc t σ f (V2 a::IW) :=
 ⟨_,_,h _ (fun x hx=>Rj (hp x hx)) a ha,hσ,fun x hx=>List.mem_map.2 ⟨x,hx,rfl⟩,k⟩
end
section
variable {P:Program} {G:Nat->Option (List AV)}
set_option maxHeartbeats 2000000 in
theorem Tu {f fi:FuncId} (h:Has P f pN) (pre:List UInt8) (ins:List (List UInt8)) (g:List UInt8->CX) {IW:List AV} {S:List (Id × cZ)} {im:Q2->Q2} {ok:Q2->Prop} (pj:Bool) (hI:ImC P G fi IW S im ok) (hS:∀ x∈S,af.of S x.1=some x.2)
   (ic:∀ s∈ins,ok (g s).a/\ok (g s).b/\ok (g s).c) (hlen:ins.length<=1000) (anj:pre.length<=100000) (jv:∀ s∈ins,s.length<=100000) (p:Id) (hp:∀ x∈S, ¬ p <:+ x.1) (F:List UInt8->AV) (hF:∀ s,F s=NX.av ⟨pre++[47]++s,(g s).img im pj⟩) :
   aZ P G f [.str pre,strs ins,IP (ins.map g), .fn (.func fi) [] IW, .bool pj] p S { val := .osl (3::p) 15 0 ins.length false,rd:=S.map (·.1),up:=[(3::p,some ⟨ins.map F,15,false⟩)] }:=by
 have hne:∀ x∈S,∀ q,x.1≠q::p:=fun x hx q=>pe (hp x hx) q
 have h0:∀ q,af.of S (q::p)=none:=fun q=>by
   show S.lookup (q::p)=none
   rw [List.lookup_eq_none_iff]
   intro x hx
   simpa using fun e=>hne x hx q e.symm
 have uM:=fun q:Id=>aa7 (p:=q) (k:=15) (bytes:=320) (n:=ins.length) (z:=zN) (by omega) (by omega) rfl rfl
 refine aZ.has h ?_
 simp only [pN]
 repeat (first
   | simp (disch:=first | decide | exact rfl | with_reducible assumption | exact Nat.ne_of_lt (by repeat (first | with_reducible assumption | apply Nat.lt_add_right))) only [SS,Nat.reduceAdd,gK,uM,List.length_map]
   | with_reducible refine ah (by assumption) (by simp [aw,aB,aA,aa.int,aa.bool,aa.str,aS,aD,aF,aJ,a8,bl,aH,aY,ck,cg]) ?_
   | with_reducible refine ak (by assumption) (by simp [aw,aB,aA,aa.int,aa.bool,aa.str,aS,aD,aF,aJ,a8,bl,aH,aY,ck,cg]) ?_
   | with_reducible refine And.intro (a:=ab _ _) (by simp [ab,apart];try assumption) ?_
   | rw [aj (by repeat (first | with_reducible exact cz | refine (nJ (by first | with_reducible assumption | decide | exact Nat.ne_of_lt (by repeat (first | with_reducible assumption | apply Nat.lt_add_right)))).trans ?_)) (by exact rfl) (by exact rfl) (by exact rfl) (by exact rfl)]
   | rw [bZ (by exact rfl) (by exact rfl) (by exact rfl) (by exact rfl)]
   | rw [b6 (by exact rfl) (by exact rfl) (by exact rfl) (by exact rfl) (by exact rfl) (by exact rfl)]
   | fail)
 simp only [aP]
 refine VW.ey (α := Nat × Nat) (fun y=>⟨[.str pre,strs ins,IP (ins.map g), .fn (.func fi) [] IW, .bool pj]++List.replicate 6 .top++[.osl (3::p) 15 0 ins.length false]++List.replicate 5 .top++[IP (ins.map g), .int .i64 ins.length, .int .i64 (y.1:Nat)]++List.replicate 40 .top,
   (af.of S).put (3::p) (some ⟨(ins.take y.1).map F++List.replicate (ins.length-y.1) zN,15,false⟩),y.2⟩)
   (fun y=>y.1<=ins.length/\1000<=y.2) (fun y=>ins.length-y.1) (0,1000) ?_ ⟨Nat.zero_le _,Nat.le_refl _⟩ ?_
 . exact Wk.slots (by simp [Fg,List.replicate]) (by omega)
 rintro ⟨i,m⟩ ⟨hi,hm⟩
 simp only [] at hi hm
 by_cases hlt:i<ins.length
 . obtain ⟨s,hs⟩:∃ s,ins[i]? = some s:=⟨ins[i],by simp [hlt]⟩
   have d:decide ((i:Int)<(ins.length:Int))=true:=ay (by omega)
   have hms:=List.mem_of_getElem? hs
   obtain ⟨oa,ob,oc⟩:=ic s hms
   have hc:(ins.map g)[i]? = some (g s):=by rw [List.getElem?_map,hs];rfl
   have hw:=aL i (by omega)
   have l3:3<m:=by omega
   have b1:i+1<=ins.length:=hlt
   have b2:ins.length-(i+1)<ins.length-i:=by omega
   have c1:=tE (a:=pre) (b:=[47]) (by simp;omega)
   have c2:=tE (a:=pre++[47]) (b:=s) (by have:=jv s hms;simp;omega)
   have mY:cx 15 (.osl (3::p) 15 0 ins.length false) (.int .i64 (i:Int))=some (.ref (3::p) i 0):=by rw [Hx hlt,Nat.zero_add]
   have EJ:=wA (f:=F) hs
   obtain ⟨k,hk⟩:∃ k,ins.length-i=k+1:=⟨ins.length-i-1,by omega⟩
   have hk2:ins.length-(i+1)=k:=by omega
   have hA:((ins.take i).map F).length=i:=by simp;omega
   have hst:∀ (σ : af) (x:CX),x=(g s).img im pj -> σ (3::p)=some ⟨(ins.take i).map F++List.replicate (ins.length-i) zN,15,false⟩->fD σ 15 (.ref (3::p) i 0) (NX.av ⟨pre++[47]++s,x⟩)=some { val := .tup [],rd:=[3::p],up:=[(3::p,some ⟨(ins.take (i+1)).map F++List.replicate (ins.length-(i+1)) zN,15,false⟩)] }:=fun σ x hx hσ => by
     rw [fy (n:=15) (v:=NX.av ⟨pre++[47]++s,x⟩) (el:=zN) hσ (by rw [hk,List.getElem?_append_right (by omega),hA,Nat.sub_self];rfl) rfl (by decide) (of_eq_true (nX _))]
     rw [EJ,hk2,hk,Nr hA,hF s,hx]
     rfl
   clear ic uM jv EJ hA
   simp only []
   generalize g s=z at *
   generalize pre++[47]++s=nm at *
   rcases z with ⟨_ | _,za,zb,zc,zw⟩
   all_goals
     repeat (first
       | simp (disch:=first | decide | exact rfl | with_reducible assumption | exact Nat.ne_of_lt (by repeat (first | with_reducible assumption | apply Nat.lt_add_right))) only [SS,DD,Nat.reduceAdd,ao,d,K6 hc,pX hs,Am,aI,qI,JV,JW,JX,Ng,Wn,iP,c1,c2,Pg,WC,mY,hw]
       | with_reducible refine ah (by assumption) (by simp [aw,aB,aA,aa.int,aa.bool,aa.str,aS,aD,aF,aJ,a8,bl,aH,aY,ck,cg]) ?_
       | with_reducible refine ak (by assumption) (by simp [aw,aB,aA,aa.int,aa.bool,aa.str,aS,aD,aF,aJ,a8,bl,aH,aY,ck,cg]) ?_
       | with_reducible refine And.intro (a:=ab _ _) (by simp [ab,apart];try assumption) ?_
       | rw [aj (by repeat (first | with_reducible exact cz | refine (nJ (by first | with_reducible assumption | decide | exact Nat.ne_of_lt (by repeat (first | with_reducible assumption | apply Nat.lt_add_right)))).trans ?_)) (by exact rfl) (by exact rfl) (by exact rfl) (by exact rfl)]
       | rw [bZ (by exact rfl) (by exact rfl) (by exact rfl) (by exact rfl)]
       | rw [b6 (by exact rfl) (by exact rfl) (by exact rfl) (by exact rfl) (by exact rfl) (by exact rfl)]
       | rw [Rb (by repeat (first | with_reducible exact cz | refine (nJ (by first | with_reducible assumption | decide | exact Nat.ne_of_lt (by repeat (first | with_reducible assumption | apply Nat.lt_add_right)))).trans ?_))]
       | rw [Rc (by repeat (first | with_reducible exact cz | refine (nJ (by first | with_reducible assumption | decide | exact Nat.ne_of_lt (by repeat (first | with_reducible assumption | apply Nat.lt_add_right)))).trans ?_))]
       | rw [Re (by repeat (first | with_reducible exact cz | refine (nJ (by first | with_reducible assumption | decide | exact Nat.ne_of_lt (by repeat (first | with_reducible assumption | apply Nat.lt_add_right)))).trans ?_))]
       | rw [Wo (by repeat (first | with_reducible exact cz | refine (nJ (by first | with_reducible assumption | decide | exact Nat.ne_of_lt (by repeat (first | with_reducible assumption | apply Nat.lt_add_right)))).trans ?_))]
       | refine Tt hI hp (by with_reducible assumption) (fun x hx=>by repeat (first | exact hS x hx | refine (dM (hne x hx _)).trans ?_)) ?_
       | refine Ts hI hp (by with_reducible assumption) (fun x hx=>by repeat (first | exact hS x hx | refine (dM (hne x hx _)).trans ?_)) ?_
       | rw [hst _ _ (by exact rfl) (by repeat (first | with_reducible exact cz | refine (nJ (by first | with_reducible assumption | decide | exact Nat.ne_of_lt (by repeat (first | with_reducible assumption | apply Nat.lt_add_right)))).trans ?_))]
       | fail)
     exact ⟨(i+1,_),⟨b1,by simp only [];omega⟩,b2,Wk.forget (by simp [Fg]) (K7 (by exact cz) (by repeat (first | exact sub_self | refine WI (h0 _) ?_))) (Nat.le_refl _)⟩
 . have d:decide ((i:Int)<(ins.length:Int))=false:=au (by omega)
   have Ww:i=ins.length:=by omega
   subst Ww
   simp only [List.take_length,Nat.sub_self,List.replicate_zero,List.append_nil]
   clear ic uM
   repeat (first
     | simp (disch:=first | decide | exact rfl | with_reducible assumption | exact Nat.ne_of_lt (by repeat (first | with_reducible assumption | apply Nat.lt_add_right))) only [SS,Nat.reduceAdd,d]
     | with_reducible refine ah (by assumption) (by simp [aw,aB,aA,aa.int,aa.bool,aa.str,aS,aD,aF,aJ,a8,bl,aH,aY,ck,cg]) ?_
     | with_reducible refine ak (by assumption) (by simp [aw,aB,aA,aa.int,aa.bool,aa.str,aS,aD,aF,aJ,a8,bl,aH,aY,ck,cg]) ?_
     | with_reducible refine And.intro (a:=ab _ _) (by simp [ab,apart];try assumption) ?_
     | rw [aj (by repeat (first | with_reducible exact cz | refine (nJ (by first | with_reducible assumption | decide | exact Nat.ne_of_lt (by repeat (first | with_reducible assumption | apply Nat.lt_add_right)))).trans ?_)) (by exact rfl) (by exact rfl) (by exact rfl) (by exact rfl)]
     | rw [bZ (by exact rfl) (by exact rfl) (by exact rfl) (by exact rfl)]
     | rw [b6 (by exact rfl) (by exact rfl) (by exact rfl) (by exact rfl) (by exact rfl) (by exact rfl)]
     | fail)
   exact eI▸bH rfl (fun i => .inr rfl)
end
end Go.VL
end
