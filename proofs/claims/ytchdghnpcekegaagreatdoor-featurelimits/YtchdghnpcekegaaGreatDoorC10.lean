/- For the claim of FeatureLimits: parts CQ8, CQ9, CQA, CQB, GC, CQP, GC2, CQC, CQE, CQF. -/
import Derived.Test.YtchdghnpcekegaaGreatDoorC09
import Derived.Test.YtchdghnpcekegaaGreatDoorC08
import Derived.Test.YtchdghnpcekegaaGreatDoorC03
import Derived.Test.YtchdghnpcekegaaGreatDoorC05
set_option linter.unusedSimpArgs false
set_option linter.unusedVariables false
section
set_option linter.unusedVariables false
set_option linter.unusedVariables false
namespace Go.VL
open Go.Lib
structure NX where
 name:List UInt8
 c:CX
def NX.av (x:NX):AV := .agg (.str x.name::x.c.cells)
abbrev dP (l:List NX):AV := .sl 15 (l.map NX.av)
theorem CH (x:NX):∀ c∈x.av.cells,aa c:=by
 intro c hc
 rcases List.mem_cons.1 hc with rfl | hc
 . exact aa.str _
 . exact Ha x.c c hc
theorem bf (x:NX):aa x.av:=aa.agg (CH x)
theorem zt (l:List NX):∀ c∈flat (l.map NX.av),aa c:=by
 intro c hc
 simp only [flat,List.mem_flatMap,List.mem_map] at hc
 obtain ⟨_,⟨x,_,rfl⟩,hc⟩:=hc
 exact CH x c hc
theorem aD (l:List NX):aa (dP l):=aa.sl (zt l)
theorem kC (x:NX):(x.av.cells.all AV.one=true)=True:=by
 have:=of_eq_true (Bc x.c)
 simp only [NX.av,AV.cells,List.all_cons,AV.one,Bool.true_and]
 simpa [CX.av,AV.cells] using this
theorem Vf (x:NX):part true x.av.cells 0 15=some x.av:=rfl
theorem Av (x:NX):part false x.av.cells 0 1=some (.str x.name):=rfl
theorem Mu (x:NX):part true x.av.cells 1 14=some x.c.av:=rfl
theorem oV {l:List NX} {i:Nat} {x:NX} (h:l[i]? = some x):cn 15 (dP l) (.int .i64 (i:Int))=some (.ep x.av.cells 0):=iM rfl (by rw [List.getElem?_map,h];rfl)
theorem nI {l:List (List UInt8)} {i:Nat} {x:List UInt8} (h:l[i]? = some x):cn 1 (strs l) (.int .i64 (i:Int))=some (.ep (AV.str x).cells 0):=iM rfl (by rw [List.getElem?_map,h];rfl)
theorem vk (s:List UInt8):part false (AV.str s).cells 0 1=some (.str s):=rfl
def dY (l:List NX) (nm:List UInt8):Int:=Ab (l.findIdx? fun x=>x.name==nm)
def HZ (ins:List (List UInt8)) (n:Nat):Prop:=∃ j k x,j<k/\k<n/\ins[j]? = some x/\ins[k]? = some x
open Classical in
noncomputable def dw (nm:List UInt8) (l:List NX) (ins:List (List UInt8)):Int :=
 if eA nm=false∨ins=[] then 1 else if HZ ins ins.length then 1 else if (ins.any fun s=>decide (dY l s<0))=true then 4 else 0
theorem Jf {ins:List (List UInt8)} {i:Nat} {x:List UInt8} (hx:ins[i]? = some x) (h : ¬ HZ ins i) (hk:∀ j,j<i->ins[j]? ≠ some x) : ¬ HZ ins (i+1):=by
 rintro ⟨j,k,y,h1,h2,h3,h4⟩
 rcases (by omega:k<i∨k=i) with e | rfl
 . exact h ⟨j,k,y,h1,e,h3,h4⟩
 . rw [hx] at h4;simp only [Option.some.injEq] at h4;subst h4;exact hk j h1 h3
def iE (l more:List NX):Int :=
 if 200<l.length+more.length then 3 else if (more.any fun x=>decide (200<x.name.length))=true then 3 else if (more.any fun x=>decide (0<=dY l x.name))=true then 5 else 0
section
variable {P:Program} {G:Nat->Option (List AV)}
theorem R7 {f:FuncId} (h:Has P f lj) (l:List NX) (nm:List UInt8) (hl:l.length<=1000000):VP P G f [dP l, .str nm] (.int .i64 (dY l nm)):=by
 refine VP.has h ?_
 simp only [lj,SS,Nat.reduceAdd,aK]
 refine VW.scan l (fun e=>e.name==nm) (fun i=>[dP l, .str nm, .top, .top, .top, .int .i64 i]++List.replicate 14 .top) (fun _=>none) 1000 (Wk.slots (by simp [Fg,List.replicate]) (by omega)) (fun i m x hx hlt hn d => ?_) (fun m hn d => ?_)
 . cases hb:x.name==nm
   . skip
     repeat (first
       | simp (disch:=first | decide | exact rfl) only [SS,Nat.reduceAdd,List.length_map,d,oV hx,aH,Av,hb,aI i (by omega)]
       | with_reducible refine ah (by assumption) (by simp [au,ay,ax,aa.int,aa.bool,aa.str,aP,az,aC,aG,aV,bf,aD,bT]) ?_
       | with_reducible refine aj (by assumption) (by simp [au,ay,ax,aa.int,aa.bool,aa.str,aP,az,aC,aG,aV,bf,aD,bT]) ?_
       | with_reducible refine And.intro (a:=ab _ _) (by simp [ab,apart]) ?_
       | with_reducible refine VW.aA 3 (VW.of ?_)
       | with_reducible refine bW.next _ (VW.of ?_)
       | rw [ai (by exact rfl) (by exact rfl) (by exact rfl) (by exact rfl) (by exact rfl)]
       | rw [bQ (by exact rfl) (by exact rfl) (by exact rfl) (by exact rfl)]
       | rw [bR (by exact rfl) (by exact rfl) (by exact rfl) (by exact rfl) (by exact rfl) (by exact rfl)]
       | fail)
     exact ⟨(i+1,_),⟨hlt,hn.succ hx hb⟩,by simp only [];omega,Wk.slots (by simp [Fg]) (Nat.le_refl _)⟩
   . skip
     repeat (first
       | simp (disch:=first | decide | exact rfl) only [SS,Nat.reduceAdd,List.length_map,d,oV hx,aH,Av,hb]
       | with_reducible refine ah (by assumption) (by simp [au,ay,ax,aa.int,aa.bool,aa.str,aP,az,aC,aG,aV,bf,aD,bT]) ?_
       | with_reducible refine aj (by assumption) (by simp [au,ay,ax,aa.int,aa.bool,aa.str,aP,az,aC,aG,aV,bf,aD,bT]) ?_
       | with_reducible refine And.intro (a:=ab _ _) (by simp [ab,apart]) ?_
       | with_reducible refine VW.aA 3 (VW.of ?_)
       | with_reducible refine bW.next _ (VW.of ?_)
       | rw [ai (by exact rfl) (by exact rfl) (by exact rfl) (by exact rfl) (by exact rfl)]
       | rw [bQ (by exact rfl) (by exact rfl) (by exact rfl) (by exact rfl)]
       | rw [bR (by exact rfl) (by exact rfl) (by exact rfl) (by exact rfl) (by exact rfl) (by exact rfl)]
       | fail)
     unfold dY
     rw [qM hx hb hn]
     exact ak▸ae rfl (aa.int _ _)
 . skip
   repeat (first
     | simp (disch:=first | decide | exact rfl) only [SS,Nat.reduceAdd,List.length_map,d]
     | with_reducible refine ah (by assumption) (by simp [au,ay,ax,aa.int,aa.bool,aa.str,aP,az,aC,aG,aV,bf,aD,bT]) ?_
     | with_reducible refine aj (by assumption) (by simp [au,ay,ax,aa.int,aa.bool,aa.str,aP,az,aC,aG,aV,bf,aD,bT]) ?_
     | with_reducible refine And.intro (a:=ab _ _) (by simp [ab,apart]) ?_
     | with_reducible refine VW.aA 3 (VW.of ?_)
     | with_reducible refine bW.next _ (VW.of ?_)
     | rw [ai (by exact rfl) (by exact rfl) (by exact rfl) (by exact rfl) (by exact rfl)]
     | rw [bQ (by exact rfl) (by exact rfl) (by exact rfl) (by exact rfl)]
     | rw [bR (by exact rfl) (by exact rfl) (by exact rfl) (by exact rfl) (by exact rfl) (by exact rfl)]
     | fail)
   unfold dY
   rw [qL (fun j e hj=>hn j e (List.getElem?_eq_some_iff.1 hj).1 hj)]
   exact ak▸ae rfl (aa.int _ _)
set_option maxHeartbeats 1000000 in
theorem Mv {f fn fF:FuncId} (h:Has P f (jM fn fF)) (nm:List UInt8) (l:List NX) (ins:List (List UInt8)) (hN:VP P G fn [.str nm] (.bool (eA nm))) (hF:∀ s∈ins,VP P G fF [dP l, .str s] (.int .i64 (dY l s))) (hl:ins.length<=1000) :
   VP P G f [.str nm,dP l,strs ins] (.int .i64 (dw nm l ins)):=by
 refine VP.has h ?_
 unfold dw
 simp only [jM]
 cases qU:eA nm<;>rw [qU] at hN
 . rw [if_pos (.inl rfl)]
   repeat (first
     | simp (disch:=first | decide | exact rfl) only [SS,Nat.reduceAdd]
     | with_reducible refine ah (by assumption) (by simp [aa.str]) ?_
     | with_reducible refine aj (by assumption) (by simp [aa.str]) ?_
     | with_reducible refine And.intro (a:=ab _ _) (by simp [ab,apart]) ?_
     | with_reducible refine VW.aA 3 (VW.of ?_)
     | with_reducible refine bW.next _ (VW.of ?_)
     | rw [ai (by exact rfl) (by exact rfl) (by exact rfl) (by exact rfl) (by exact rfl)]
     | rw [bQ (by exact rfl) (by exact rfl) (by exact rfl) (by exact rfl)]
     | rw [bR (by exact rfl) (by exact rfl) (by exact rfl) (by exact rfl) (by exact rfl) (by exact rfl)]
     | fail)
   exact ak▸ae rfl (aa.int _ _)
 by_cases h0:ins=[]
 . have d0:decide ((ins.length:Int)=0)=true:=aw (by rw [h0];rfl)
   rw [if_pos (.inr h0)]
   repeat (first
     | simp (disch:=first | decide | exact rfl) only [SS,Nat.reduceAdd,gH,d0]
     | with_reducible refine ah (by assumption) (by simp [aa.str]) ?_
     | with_reducible refine aj (by assumption) (by simp [aa.str]) ?_
     | with_reducible refine And.intro (a:=ab _ _) (by simp [ab,apart]) ?_
     | with_reducible refine VW.aA 3 (VW.of ?_)
     | with_reducible refine bW.next _ (VW.of ?_)
     | rw [ai (by exact rfl) (by exact rfl) (by exact rfl) (by exact rfl) (by exact rfl)]
     | rw [bQ (by exact rfl) (by exact rfl) (by exact rfl) (by exact rfl)]
     | rw [bR (by exact rfl) (by exact rfl) (by exact rfl) (by exact rfl) (by exact rfl) (by exact rfl)]
     | fail)
   exact ak▸ae rfl (aa.int _ _)
 rw [if_neg (by simp [h0])]
 have d0:decide ((ins.length:Int)=0)=false:=ar (fun e=>h0 (List.length_eq_zero_iff.1 (by omega)))
 simp only [SS,Nat.reduceAdd]
 refine ah hN (by simp [aa.str]) ?_
 simp only [SS,Nat.reduceAdd,gH,d0,aK]
 refine VW.dQ (α := Nat × Nat) (fun x=>⟨[.str nm,dP l,strs ins, .top, .top, .top, .top, .int .i64 x.1]++List.replicate 43 .top,fun _=>none,x.2⟩) (fun x=>x.1<=ins.length /\ ¬ HZ ins x.1) (fun x=>ins.length-x.1) (0,1000) ?_ ⟨Nat.zero_le _,fun ⟨j,k,_,_,h,_⟩=>by simp only [] at h;omega⟩ ?_
 . exact Wk.slots (by simp [Fg,List.replicate]) (by simp only [];omega)
 rintro ⟨i,n⟩ ⟨hi,hd⟩
 simp only [] at hi hd
 by_cases hlt:i<ins.length
 . obtain ⟨x,hx⟩:∃ x,ins[i]? = some x:=⟨ins[i],by simp [hlt]⟩
   have d:decide ((i:Int)<(ins.length:Int))=true:=aw (by omega)
   simp only [SS,Nat.reduceAdd,gH,d,aK]
   refine VW.dQ (α := Nat × Nat) (fun x=>⟨[.str nm,dP l,strs ins, .top, .top, .top, .top, .int .i64 i, .int .i64 x.1]++List.replicate 42 .top,fun _=>none,x.2⟩) (fun y=>y.1<=i/\∀ j,j<y.1->ins[j]? ≠ some x) (fun x=>i-x.1) (0,n+1000) ?_ ⟨Nat.zero_le _,fun j hj=>absurd hj (Nat.not_lt_zero j)⟩ ?_
   . exact Wk.slots (by simp [Fg,List.replicate]) (by simp only [];omega)
   rintro ⟨k,m⟩ ⟨hk,hn⟩
   simp only [] at hk hn
   by_cases Xa:k<i
   . obtain ⟨y,hy⟩:∃ y,ins[k]? = some y:=⟨ins[k],by simp⟩
     have dk:decide ((k:Int)<(i:Int))=true:=aw (by omega)
     cases hb:x==y
     . have hne:y≠x:=fun e=>by rw [e] at hb;simp at hb
       repeat (first
         | simp (disch:=first | decide | exact rfl) only [SS,DD,Nat.reduceAdd,dk,nI hx,nI hy,aH,vk,hb,aI k (by omega)]
         | with_reducible refine ah (by assumption) (by simp [aa.str]) ?_
         | with_reducible refine aj (by assumption) (by simp [aa.str]) ?_
         | with_reducible refine And.intro (a:=ab _ _) (by simp [ab,apart]) ?_
         | with_reducible refine VW.aA 3 (VW.of ?_)
         | with_reducible refine bW.next _ (VW.of ?_)
         | rw [ai (by exact rfl) (by exact rfl) (by exact rfl) (by exact rfl) (by exact rfl)]
         | rw [bQ (by exact rfl) (by exact rfl) (by exact rfl) (by exact rfl)]
         | rw [bR (by exact rfl) (by exact rfl) (by exact rfl) (by exact rfl) (by exact rfl) (by exact rfl)]
         | fail)
       refine ⟨(k+1,_),⟨by simp only [];omega,fun j hj => ?_⟩,by simp only [];omega,Wk.slots (by simp [Fg]) (Nat.le_refl _)⟩
       rcases (by simp only [] at hj;omega:j<k∨j=k) with e | rfl
       . exact hn j e
       . rw [hy];simpa using hne
     . have he:x=y:=by simpa using hb
       repeat (first
         | simp (disch:=first | decide | exact rfl) only [SS,DD,Nat.reduceAdd,dk,nI hx,nI hy,aH,vk,hb]
         | with_reducible refine ah (by assumption) (by simp [aa.str]) ?_
         | with_reducible refine aj (by assumption) (by simp [aa.str]) ?_
         | with_reducible refine And.intro (a:=ab _ _) (by simp [ab,apart]) ?_
         | with_reducible refine VW.aA 3 (VW.of ?_)
         | with_reducible refine bW.next _ (VW.of ?_)
         | rw [ai (by exact rfl) (by exact rfl) (by exact rfl) (by exact rfl) (by exact rfl)]
         | rw [bQ (by exact rfl) (by exact rfl) (by exact rfl) (by exact rfl)]
         | rw [bR (by exact rfl) (by exact rfl) (by exact rfl) (by exact rfl) (by exact rfl) (by exact rfl)]
         | fail)
       rw [if_pos ⟨k,i,x,Xa,hlt,by rw [hy,he],hx⟩]
       exact ak▸ae rfl (aa.int _ _)
   . have dk:decide ((k:Int)<(i:Int))=false:=ar (by omega)
     repeat (first
       | simp (disch:=first | decide | exact rfl) only [SS,Nat.reduceAdd,aK,dk,aI i (by omega)]
       | with_reducible refine ah (by assumption) (by simp [aa.str]) ?_
       | with_reducible refine aj (by assumption) (by simp [aa.str]) ?_
       | with_reducible refine And.intro (a:=ab _ _) (by simp [ab,apart]) ?_
       | with_reducible refine VW.aA 3 (VW.of ?_)
       | with_reducible refine bW.next _ (VW.of ?_)
       | rw [ai (by exact rfl) (by exact rfl) (by exact rfl) (by exact rfl) (by exact rfl)]
       | rw [bQ (by exact rfl) (by exact rfl) (by exact rfl) (by exact rfl)]
       | rw [bR (by exact rfl) (by exact rfl) (by exact rfl) (by exact rfl) (by exact rfl) (by exact rfl)]
       | fail)
     refine ⟨(i+1,_),⟨by simp only [];omega,Jf hx hd fun j hj=>hn j (by omega)⟩,by simp only [];omega,Wk.slots (by simp [Fg]) (Nat.le_refl _)⟩
 . have d:decide ((i:Int)<(ins.length:Int))=false:=ar (by omega)
   have Vg:i=ins.length:=by omega
   rw [Vg] at hd
   rw [if_neg hd]
   simp only [SS,Nat.reduceAdd,gH,d,aK]
   refine VW.scan ins (fun y=>decide (dY l y<0)) (fun i=>[.str nm,dP l,strs ins, .top, .top, .top, .top, .top, .top, .int .i64 i]++List.replicate 41 .top) (fun _=>none) (n+1000) (Wk.slots (by simp [Fg,List.replicate]) (by omega)) (fun k m y hy Tp hn dk => ?_) (fun m hn dk => ?_)
   . have hv:=hF y (List.mem_of_getElem? hy)
     cases hb:decide (dY l y<0)
     . skip
       repeat (first
         | simp (disch:=first | decide | exact rfl) only [SS,Nat.reduceAdd,dk,gH,nI hy,aH,vk,hb,aI k (by omega)]
         | with_reducible refine ah (by assumption) (by simp [aa.str,aD]) ?_
         | with_reducible refine aj (by assumption) (by simp [aa.str,aD]) ?_
         | with_reducible refine And.intro (a:=ab _ _) (by simp [ab,apart]) ?_
         | with_reducible refine VW.aA 3 (VW.of ?_)
         | with_reducible refine bW.next _ (VW.of ?_)
         | rw [ai (by exact rfl) (by exact rfl) (by exact rfl) (by exact rfl) (by exact rfl)]
         | rw [bQ (by exact rfl) (by exact rfl) (by exact rfl) (by exact rfl)]
         | rw [bR (by exact rfl) (by exact rfl) (by exact rfl) (by exact rfl) (by exact rfl) (by exact rfl)]
         | fail)
       exact ⟨(k+1,_),⟨Tp,hn.succ hy hb⟩,by simp only [];omega,Wk.slots (by simp [Fg]) (Nat.le_refl _)⟩
     . skip
       repeat (first
         | simp (disch:=first | decide | exact rfl) only [SS,Nat.reduceAdd,dk,gH,nI hy,aH,vk,hb]
         | with_reducible refine ah (by assumption) (by simp [aa.str,aD]) ?_
         | with_reducible refine aj (by assumption) (by simp [aa.str,aD]) ?_
         | with_reducible refine And.intro (a:=ab _ _) (by simp [ab,apart]) ?_
         | with_reducible refine VW.aA 3 (VW.of ?_)
         | with_reducible refine bW.next _ (VW.of ?_)
         | rw [ai (by exact rfl) (by exact rfl) (by exact rfl) (by exact rfl) (by exact rfl)]
         | rw [bQ (by exact rfl) (by exact rfl) (by exact rfl) (by exact rfl)]
         | rw [bR (by exact rfl) (by exact rfl) (by exact rfl) (by exact rfl) (by exact rfl) (by exact rfl)]
         | fail)
       rw [if_pos (zr hy hb)]
       exact ak▸ae rfl (aa.int _ _)
   . skip
     repeat (first
       | simp (disch:=first | decide | exact rfl) only [SS,Nat.reduceAdd,dk,gH]
       | with_reducible refine ah (by assumption) (by simp [aa.str]) ?_
       | with_reducible refine aj (by assumption) (by simp [aa.str]) ?_
       | with_reducible refine And.intro (a:=ab _ _) (by simp [ab,apart]) ?_
       | with_reducible refine VW.aA 3 (VW.of ?_)
       | with_reducible refine bW.next _ (VW.of ?_)
       | rw [ai (by exact rfl) (by exact rfl) (by exact rfl) (by exact rfl) (by exact rfl)]
       | rw [bQ (by exact rfl) (by exact rfl) (by exact rfl) (by exact rfl)]
       | rw [bR (by exact rfl) (by exact rfl) (by exact rfl) (by exact rfl) (by exact rfl) (by exact rfl)]
       | fail)
     rw [if_neg (by rw [hn.any (Nat.le_refl _)];decide)]
     exact ak▸ae rfl (aa.int _ _)
theorem R8 {f fF:FuncId} (h:Has P f (ln fF)) (l more:List NX) (hl:l.length<=1000000) (hm:more.length<=1000000) (hF:∀ x∈more,VP P G fF [dP l, .str x.name] (.int .i64 (dY l x.name))):VP P G f [dP l,dP more] (.int .i64 (iE l more)):=by
 have hw:IntKind.i64.wrap ((l.length:Int)+(more.length:Int))=((l.length+more.length:Nat):Int):=by rw [IntKind.wrap_i64];omega
 refine VP.has h ?_
 unfold iE
 simp only [ln]
 by_cases h0:200<l.length+more.length
 . have d0:decide ((200:Int)<((l.length+more.length:Nat):Int))=true:=aw (by omega)
   rw [if_pos h0]
   repeat (first
     | simp (disch:=first | decide | exact rfl) only [SS,Nat.reduceAdd,List.length_map,hw,d0]
     | with_reducible refine ah (by assumption) (by simp [au,ay,ax,aa.int,aa.bool,aa.str,aP,az,aC,aG,aV,bf,aD,bT]) ?_
     | with_reducible refine aj (by assumption) (by simp [au,ay,ax,aa.int,aa.bool,aa.str,aP,az,aC,aG,aV,bf,aD,bT]) ?_
     | with_reducible refine And.intro (a:=ab _ _) (by simp [ab,apart]) ?_
     | with_reducible refine VW.aA 3 (VW.of ?_)
     | with_reducible refine bW.next _ (VW.of ?_)
     | rw [ai (by exact rfl) (by exact rfl) (by exact rfl) (by exact rfl) (by exact rfl)]
     | rw [bQ (by exact rfl) (by exact rfl) (by exact rfl) (by exact rfl)]
     | rw [bR (by exact rfl) (by exact rfl) (by exact rfl) (by exact rfl) (by exact rfl) (by exact rfl)]
     | fail)
   exact ak▸ae rfl (aa.int _ _)
 have d0:decide ((200:Int)<((l.length+more.length:Nat):Int))=false:=ar (by omega)
 rw [if_neg h0]
 simp only [SS,Nat.reduceAdd,List.length_map,hw,d0,aK]
 refine VW.scan more (fun x=>decide (200<x.name.length)) (fun i=>[dP l,dP more, .top, .top, .top, .int .i64 i]++List.replicate 34 .top) (fun _=>none) 1000 (Wk.slots (by simp [Fg,List.replicate]) (by omega)) (fun i m x hx hlt hn d => ?_) (fun m hn d => ?_)
 . have e:decide ((200:Int)<(x.name.length:Int))=decide (200<x.name.length):=by congr 1;exact propext (by omega)
   cases hb:decide (200<x.name.length)
   . skip
     repeat (first
       | simp (disch:=first | decide | exact rfl) only [SS,Nat.reduceAdd,List.length_map,d,oV hx,aH,Av,e,hb,aI i (by omega)]
       | with_reducible refine ah (by assumption) (by simp [au,ay,ax,aa.int,aa.bool,aa.str,aP,az,aC,aG,aV,bf,aD,bT]) ?_
       | with_reducible refine aj (by assumption) (by simp [au,ay,ax,aa.int,aa.bool,aa.str,aP,az,aC,aG,aV,bf,aD,bT]) ?_
       | with_reducible refine And.intro (a:=ab _ _) (by simp [ab,apart]) ?_
       | with_reducible refine VW.aA 3 (VW.of ?_)
       | with_reducible refine bW.next _ (VW.of ?_)
       | rw [ai (by exact rfl) (by exact rfl) (by exact rfl) (by exact rfl) (by exact rfl)]
       | rw [bQ (by exact rfl) (by exact rfl) (by exact rfl) (by exact rfl)]
       | rw [bR (by exact rfl) (by exact rfl) (by exact rfl) (by exact rfl) (by exact rfl) (by exact rfl)]
       | fail)
     exact ⟨(i+1,_),⟨hlt,hn.succ hx hb⟩,by simp only [];omega,Wk.slots (by simp [Fg]) (Nat.le_refl _)⟩
   . skip
     repeat (first
       | simp (disch:=first | decide | exact rfl) only [SS,Nat.reduceAdd,List.length_map,d,oV hx,aH,Av,e,hb]
       | with_reducible refine ah (by assumption) (by simp [au,ay,ax,aa.int,aa.bool,aa.str,aP,az,aC,aG,aV,bf,aD,bT]) ?_
       | with_reducible refine aj (by assumption) (by simp [au,ay,ax,aa.int,aa.bool,aa.str,aP,az,aC,aG,aV,bf,aD,bT]) ?_
       | with_reducible refine And.intro (a:=ab _ _) (by simp [ab,apart]) ?_
       | with_reducible refine VW.aA 3 (VW.of ?_)
       | with_reducible refine bW.next _ (VW.of ?_)
       | rw [ai (by exact rfl) (by exact rfl) (by exact rfl) (by exact rfl) (by exact rfl)]
       | rw [bQ (by exact rfl) (by exact rfl) (by exact rfl) (by exact rfl)]
       | rw [bR (by exact rfl) (by exact rfl) (by exact rfl) (by exact rfl) (by exact rfl) (by exact rfl)]
       | fail)
     rw [if_pos (zr hx hb)]
     exact ak▸ae rfl (aa.int _ _)
 . rw [if_neg (by rw [hn.any (Nat.le_refl _)];decide)]
   simp only [SS,Nat.reduceAdd,List.length_map,d,aK]
   refine VW.scan more (fun x=>decide (0<=dY l x.name)) (fun i=>[dP l,dP more, .top, .top, .top, .top, .int .i64 i]++List.replicate 33 .top) (fun _=>none) (m+1000) (Wk.slots (by simp [Fg,List.replicate]) (by omega)) (fun i m x hx hlt hn d => ?_) (fun m hn d => ?_)
   . have hv:=hF x (List.mem_of_getElem? hx)
     cases hb:decide (0<=dY l x.name)
     . skip
       repeat (first
         | simp (disch:=first | decide | exact rfl) only [SS,Nat.reduceAdd,List.length_map,d,oV hx,aH,Av,hb,aI i (by omega)]
         | with_reducible refine ah (by assumption) (by simp [aa.str,aD]) ?_
         | with_reducible refine aj (by assumption) (by simp [aa.str,aD]) ?_
         | with_reducible refine And.intro (a:=ab _ _) (by simp [ab,apart]) ?_
         | with_reducible refine VW.aA 3 (VW.of ?_)
         | with_reducible refine bW.next _ (VW.of ?_)
         | rw [ai (by exact rfl) (by exact rfl) (by exact rfl) (by exact rfl) (by exact rfl)]
         | rw [bQ (by exact rfl) (by exact rfl) (by exact rfl) (by exact rfl)]
         | rw [bR (by exact rfl) (by exact rfl) (by exact rfl) (by exact rfl) (by exact rfl) (by exact rfl)]
         | fail)
       exact ⟨(i+1,_),⟨hlt,hn.succ hx hb⟩,by simp only [];omega,Wk.slots (by simp [Fg]) (Nat.le_refl _)⟩
     . skip
       repeat (first
         | simp (disch:=first | decide | exact rfl) only [SS,Nat.reduceAdd,List.length_map,d,oV hx,aH,Av,hb]
         | with_reducible refine ah (by assumption) (by simp [aa.str,aD]) ?_
         | with_reducible refine aj (by assumption) (by simp [aa.str,aD]) ?_
         | with_reducible refine And.intro (a:=ab _ _) (by simp [ab,apart]) ?_
         | with_reducible refine VW.aA 3 (VW.of ?_)
         | with_reducible refine bW.next _ (VW.of ?_)
         | rw [ai (by exact rfl) (by exact rfl) (by exact rfl) (by exact rfl) (by exact rfl)]
         | rw [bQ (by exact rfl) (by exact rfl) (by exact rfl) (by exact rfl)]
         | rw [bR (by exact rfl) (by exact rfl) (by exact rfl) (by exact rfl) (by exact rfl) (by exact rfl)]
         | fail)
       rw [if_pos (zr hx hb)]
       exact ak▸ae rfl (aa.int _ _)
   . skip
     repeat (first
       | simp (disch:=first | decide | exact rfl) only [SS,Nat.reduceAdd,List.length_map,d]
       | with_reducible refine ah (by assumption) (by simp [au,ay,ax,aa.int,aa.bool,aa.str,aP,az,aC,aG,aV,bf,aD,bT]) ?_
       | with_reducible refine aj (by assumption) (by simp [au,ay,ax,aa.int,aa.bool,aa.str,aP,az,aC,aG,aV,bf,aD,bT]) ?_
       | with_reducible refine And.intro (a:=ab _ _) (by simp [ab,apart]) ?_
       | with_reducible refine VW.aA 3 (VW.of ?_)
       | with_reducible refine bW.next _ (VW.of ?_)
       | rw [ai (by exact rfl) (by exact rfl) (by exact rfl) (by exact rfl) (by exact rfl)]
       | rw [bQ (by exact rfl) (by exact rfl) (by exact rfl) (by exact rfl)]
       | rw [bR (by exact rfl) (by exact rfl) (by exact rfl) (by exact rfl) (by exact rfl) (by exact rfl)]
       | fail)
     rw [if_neg (by rw [hn.any (Nat.le_refl _)];decide)]
     exact ak▸ae rfl (aa.int _ _)
theorem R9 {f fv fV:FuncId} (h:Has P f (lu fv fV)) (l:List NX) (hl:l.length<=1000000) (hv:∀ x∈l,VP P G fv [V2 x.c.a] (.bool true)/\VP P G fv [V2 x.c.b] (.bool true)/\VP P G fv [V2 x.c.c] (.bool true)/\VP P G fV [x.c.av] (.bool x.c.valid)):VP P G f [dP l] (.bool !(l.any fun x => !x.c.valid)):=by
 refine VP.has h ?_
 simp only [lu,SS,Nat.reduceAdd,aK]
 refine VW.scan l (fun x => !x.c.valid) (fun i=>[dP l, .top, .top, .int .i64 i]++List.replicate 37 .top) (fun _=>none) 1000 (Wk.slots (by simp [Fg,List.replicate]) (by omega)) (fun i m x hx hlt hn d => ?_) (fun m hn d => ?_)
 . obtain ⟨v1,v2,v3,v4⟩:=hv x (List.mem_of_getElem? hx)
   cases hb : !x.c.valid<;>cases Kc:x.c.G9
   all_goals
     have QM:x.c.valid = !(!x.c.valid):=by simp
     rw [hb] at QM
     rw [QM] at v4
     repeat (first
       | simp (disch:=first | decide | exact rfl) only [SS,Nat.reduceAdd,ao,List.length_map,d,oV hx,aH,Mu,oU,Ev,Ew,Ex,Hb,gu,Kc,aI i (by omega)]
       | with_reducible refine ah (by assumption) (by simp [aG,aV]) ?_
       | with_reducible refine aj (by assumption) (by simp [aV]) ?_
       | with_reducible refine And.intro (a:=ab _ _) (by simp [ab,apart]) ?_
       | with_reducible refine VW.aA 3 (VW.of ?_)
       | with_reducible refine bW.next _ (VW.of ?_)
       | rw [ai (by repeat (first | exact aZ | refine (di (by simp)).trans ?_)) (by exact rfl) (by exact rfl) (by exact rfl) (by exact rfl)]
       | rw [bQ (by exact rfl) (by exact rfl) (by exact rfl) (by exact rfl)]
       | rw [bR (by exact rfl) (by exact rfl) (by exact rfl) (by exact rfl) (by exact rfl) (by exact rfl)]
       | fail)
     first
       | exact ⟨(i+1,_),⟨hlt,hn.succ hx hb⟩,by simp only [];omega,Wk.forget (by simp [Fg]) (fun _ => .inl rfl) (Nat.le_refl _)⟩
       | (rw [zr hx hb];exact ak▸ae rfl (aa.bool _))
 . skip
   repeat (first
     | simp (disch:=first | decide | exact rfl) only [SS,Nat.reduceAdd,List.length_map,d]
     | with_reducible refine ah (by assumption) (by simp [au,ay,ax,aa.int,aa.bool,aa.str,aP,az,aC,aG,aV,bf,aD,bT]) ?_
     | with_reducible refine aj (by assumption) (by simp [au,ay,ax,aa.int,aa.bool,aa.str,aP,az,aC,aG,aV,bf,aD,bT]) ?_
     | with_reducible refine And.intro (a:=ab _ _) (by simp [ab,apart]) ?_
     | with_reducible refine VW.aA 3 (VW.of ?_)
     | with_reducible refine bW.next _ (VW.of ?_)
     | rw [ai (by exact rfl) (by exact rfl) (by exact rfl) (by exact rfl) (by exact rfl)]
     | rw [bQ (by exact rfl) (by exact rfl) (by exact rfl) (by exact rfl)]
     | rw [bR (by exact rfl) (by exact rfl) (by exact rfl) (by exact rfl) (by exact rfl) (by exact rfl)]
     | fail)
   rw [hn.any (Nat.le_refl _)]
   exact ak▸ae rfl (aa.bool _)
end
end Go.VL
end

section
set_option linter.unusedVariables false
set_option linter.unusedVariables false
set_option maxRecDepth 100000
namespace Go.VL
open Go.Lib
def nd (k:Nat) (v:Q2):Prop:=Sm k v.1/\Sm k v.2
theorem nd.mono {j k:Nat} {v:Q2} (h:nd j v) (NU:j<=k):nd k v:=⟨h.1.mono NU,h.2.mono NU⟩
theorem nd.add {j k:Nat} {a b:Q2} (ha:nd j a) (hb:nd k b):nd (j+k+1) (gm a b):=⟨ha.1.add hb.1,ha.2.add hb.2⟩
theorem nd.sub {j k:Nat} {a b:Q2} (ha:nd j a) (hb:nd k b):nd (j+k+1) (jn a b):=⟨ha.1.sub hb.1,ha.2.sub hb.2⟩
theorem nd.scale {j k:Nat} {a:Q2} {n:Rat} (ha:nd j a) (hn:Sm k n):nd (j+k) (fS a n):=⟨ha.1.mul hn,ha.2.mul hn⟩
theorem nd.left {j:Nat} {a:Q2} (ha:nd j a):nd j (-a.2,a.1):=⟨ha.2.neg,ha.1⟩
theorem Sm.dot {j k:Nat} {a b:Q2} (ha:nd j a) (hb:nd k b):Sm (j+k+(j+k)+1) (rU a b):=(ha.1.mul hb.1).add (ha.2.mul hb.2)
theorem Sm.Ky {j k:Nat} {a b:Q2} (ha:nd j a) (hb:nd k b):Sm (4*(j+k+1)+1) (Ky a b):=(Sm.dot (ha.sub hb) (ha.sub hb)).mono (by omega)
def CX.Sm (k:Nat) (x:CX):Prop:=nd k x.a/\nd k x.b/\nd k x.c
theorem CX.Sm.mono {j k:Nat} {x:CX} (h:x.Sm j) (NU:j<=k):x.Sm k:=⟨h.1.mono NU,h.2.1.mono NU,h.2.2.mono NU⟩
theorem CI {a:Int} {b:Nat} (hb:b≠0) (h1:a.natAbs<aE) (h2:b<aE):Sm 1 ((a:Rat)/((b:Int):Rat)):=by
 rw [<- Rat.divInt_eq_div]
 exact ⟨Nat.le_trans (ud _ _) (fC (by rw [Nat.pow_one];exact h1)),Nat.le_trans (ue _ _ (by omega)) (fC (by rw [Nat.pow_one];exact h2))⟩
theorem Kf {p:Int × Int} (hp:ok8 p) (u:Nat):nd 1 (vg p u):=by
 obtain ⟨q1,q2,q3,q4⟩:=hp
 exact ⟨CI (by omega) (by unfold aE;omega) (by unfold aE;omega),CI (by omega) (by unfold aE;omega) (by unfold aE;omega)⟩
theorem Mw {k:Nat} (hk:k<16):nd 1 (ve k):=by
 obtain ⟨a,b,c,hu,c0,c1,a1,a2,b1,b2,_⟩:=Je hk
 unfold ve;rw [hu]
 exact ⟨CI c0 (by unfold aE;omega) (by unfold aE;omega),CI c0 (by unfold aE;omega) (by unfold aE;omega)⟩
theorem Mx {d:DX} (hd:d.Ok):d.ig.Sm 20:=by
 obtain ⟨h1,h2,h3,h4⟩:=hd
 have sa:=Kf h1 d.unit
 have sb:=Kf h2 d.unit
 have su:=Mw (Nat.mod_lt d.step (by decide:0<16))
 unfold DX.ig
 split
 . exact ⟨sb.mono (by omega),(sa.add (((sb.sub sa).scale su.1).add (((sb.sub sa).left).scale su.2))).mono (by omega),sa.mono (by omega)⟩
 . exact ⟨sa.mono (by omega),sb.mono (by omega),⟨Sm.zero.mono (by omega),Sm.zero.mono (by omega)⟩⟩
def CJ (P:Program) (G:Nat->Option (List AV)) (f:FuncId):Prop:=∀ a b:Q2,nd 5000 a->nd 5000 b->cX P G f [V2 a,V2 b] (V2 (gm a b))
def ZY (P:Program) (G:Nat->Option (List AV)) (f:FuncId):Prop:=∀ a b:Q2,nd 5000 a->nd 5000 b->cX P G f [V2 a,V2 b] (V2 (jn a b))
def xp (P:Program) (G:Nat->Option (List AV)) (f:FuncId):Prop:=∀ (a:Q2) (n:Rat),nd 5000 a->Sm 5000 n->cX P G f [V2 a,NV n] (V2 (fS a n))
def Qe (P:Program) (G:Nat->Option (List AV)) (f:FuncId):Prop:=∀ x:CX,x.Sm 5000->VP P G f [x.av] (.bool x.valid)
theorem Vh (r w:Bool) (a b c:Q2):iN [.bool false, .nils, .nils, .nils, .nils, .nils, .nils, .nils, .nils, .nils, .nils, .nils, .nils, .bool false] [(0,(1, .bool r)),(13,(1, .bool w)),(1,(4,V2 a)),(5,(4,V2 b)),(9,(4,V2 c))]=some (CX.cells ⟨r,a,b,c,w⟩):=rfl
theorem Z0 (x:CX):AV.agg x.cells=x.av:=rfl
section
variable {P:Program} {G:Nat->Option (List AV)}
set_option maxHeartbeats 1000000 in
theorem Oj {f fa fw fm fu fs fl fp fv:FuncId} (h:Has P f (kq fa fw fm fu fs fl fp fv)) (d:DX) (hd:d.Ok) (ha:∀ p u,ok8 p->u<256->VP P G fa [I2 p, .int .u8 ((u:Nat):Int)] (V2 (vg p u))) (hw:VP P G fw [.int .i64 0, .int .i64 0] (V2 (0,0)))
   (hm:ZY P G fm) (hu:∀ n:Nat,n<256->VP P G fu [.int .u8 (n:Int)] (V2 (ve (n%16)))) (hs:xp P G fs) (hl:∀ a:Q2,nd 5000 a->VP P G fl [V2 a] (V2 (-a.2,a.1))) (hp:CJ P G fp) (hv:Qe P G fv):VP P G f [d.av] (.tup [d.ig.av, .bool d.ig.valid]):=by
 have qT:=hv d.ig ((Mx hd).mono (by omega))
 obtain ⟨h1,h2,h3,h4⟩:=hd
 have sa:=Kf h1 d.unit
 have sb:=Kf h2 d.unit
 have a1:=ha d.a d.unit h1 h4
 have a2:=ha d.b d.unit h2 h4
 refine VP.has h ?_
 simp only [kq]
 cases Kc:d.G9
 . have e:d.ig=⟨false,vg d.a d.unit,vg d.b d.unit,(0,0),d.cw⟩:=by unfold DX.ig;rw [if_neg (by rw [Kc];decide)]
   rw [e] at qT ⊢
   repeat (first
     | simp (disch:=first | decide | exact rfl) only [SS,DD,Nat.reduceAdd,aq,ao,Vb,ZR,ZT,ZU,ZV,ZW,Kc,gu,Vh,Z0,oU]
     | with_reducible refine ah (by assumption) (by simp [aa.int,Kd]) ?_
     | with_reducible refine aj (by assumption) (by simp [aa.int,aV,Kd]) ?_
     | with_reducible refine And.intro (a:=ab _ _) (by simp [ab,apart]) ?_
     | with_reducible refine VW.aA 3 (VW.of ?_)
     | with_reducible refine bW.next _ (VW.of ?_)
     | rw [ai (by exact rfl) (by exact rfl) (by exact rfl) (by exact rfl) (by exact rfl)]
     | rw [bQ (by exact rfl) (by exact rfl) (by exact rfl) (by exact rfl)]
     | rw [bR (by exact rfl) (by exact rfl) (by exact rfl) (by exact rfl) (by exact rfl) (by exact rfl)]
     | fail)
   refine ak▸ae (r := .tup [CX.av ⟨false,vg d.a d.unit,vg d.b d.unit,(0,0),d.cw⟩, .bool (CX.valid ⟨false,vg d.a d.unit,vg d.b d.unit,(0,0),d.cw⟩)]) ?_ (aa.tup (by simp [aV,aa.bool]))
   simp (disch:=decide) only [RS,aY,a7,ao,oU]
 . have su:=Mw (Nat.mod_lt d.step (by decide:0<16))
   have u1:=hu d.step h3
   have m1:=hm _ _ (sb.mono (by omega)) (sa.mono (by omega))
   have sv:=sb.sub sa
   have s1:=hs _ _ (sv.mono (by omega)) (su.1.mono (by omega))
   have l1:=hl _ (sv.mono (by omega))
   have s2:=hs _ _ (sv.left.mono (by omega)) (su.2.mono (by omega))
   have p1:=hp _ _ ((sv.scale su.1).mono (by omega)) ((sv.left.scale su.2).mono (by omega))
   have p2:=hp _ _ (sa.mono (by omega)) (((sv.scale su.1).add (sv.left.scale su.2)).mono (by omega))
   have e0:iN [.int .i64 0] []=some [.int .i64 0]:=rfl
   have e1:((AV.cells (.agg [.int .i64 0])).all AV.one=true)=True:=by simp [AV.cells,AV.one]
   have e:d.ig=⟨true,vg d.b d.unit,gm (vg d.a d.unit) (gm (fS (jn (vg d.b d.unit) (vg d.a d.unit)) (ve (d.step%16)).1) (fS (-(jn (vg d.b d.unit) (vg d.a d.unit)).2,(jn (vg d.b d.unit) (vg d.a d.unit)).1) (ve (d.step%16)).2)),vg d.a d.unit,d.cw⟩:=by unfold DX.ig;rw [if_pos Kc]
   rw [e] at qT ⊢
   generalize hV:jn (vg d.b d.unit) (vg d.a d.unit)=v at *
   generalize ve (d.step%16)=w at *
   generalize hR:gm (vg d.a d.unit) (gm (fS v w.1) (fS (-v.2,v.1) w.2))=r at *
   repeat (first
     | simp (disch:=first | decide | exact rfl) only [SS,DD,Nat.reduceAdd,aq,ao,Vb,ZR,ZT,ZU,ZV,aes,ZW,Kc,gu,cx,Vh,Z0,oU,Ew,Ex,Hb,cK,CB,CD,e0,e1]
     | with_reducible refine ah (by assumption) (by simp [aV]) ?_
     | with_reducible refine aj (by assumption) (by simp [aa.int,aG,aV,Kd]) ?_
     | with_reducible refine And.intro (a:=ab _ _) (by simp [ab,apart]) ?_
     | with_reducible refine VW.aA 3 (VW.of ?_)
     | with_reducible refine bW.next _ (VW.of ?_)
     | rw [ai (by exact rfl) (by exact rfl) (by exact rfl) (by exact rfl) (by exact rfl)]
     | rw [bQ (by exact rfl) (by exact rfl) (by exact rfl) (by exact rfl)]
     | rw [bR (by exact rfl) (by exact rfl) (by exact rfl) (by exact rfl) (by exact rfl) (by exact rfl)]
     | rw [Fm (by exact rfl)]
     | rw [Fo (by exact rfl)]
     | rw [Fp (by exact rfl)]
     | refine eC m1 (by decide) (by exact rfl) ?_
     | refine eC s1 (by decide) (by exact rfl) ?_
     | refine eC s2 (by decide) (by exact rfl) ?_
     | refine eC p1 (by decide) (by exact rfl) ?_
     | refine eC p2 (by decide) (by exact rfl) ?_
     | fail)
   refine ak▸ae (r := .tup [CX.av ⟨true,vg d.b d.unit,r,vg d.a d.unit,d.cw⟩, .bool (CX.valid ⟨true,vg d.b d.unit,r,vg d.a d.unit,d.cw⟩)]) ?_ (aa.tup (by simp [aV,aa.bool]))
   simp (disch:=decide) only [RS,aY,a7,ao,oU]
end
end Go.VL
end

section
set_option linter.unusedVariables false
set_option linter.unusedVariables false
set_option maxRecDepth 100000
namespace Go.VL
open Go.Lib
def OL (q:Id) (k:Nat) (l:List AV):AV:=if l=[] then .nils else .osl q k 0 l.length false
def OB (k:Nat) (l:List AV):Option da:=if l=[] then none else some ⟨l,k,false⟩
theorem Kg {q:Id} {k:Nat}:OL q k [] = .nils:=rfl
theorem Ol {k:Nat}:OB k []=none:=rfl
theorem Ey {q:Id} {k:Nat} {l:List AV} (h:l≠[]):OL q k l = .osl q k 0 l.length false:=if_neg h
theorem Jg {k:Nat} {l:List AV} (h:l≠[]):OB k l=some ⟨l,k,false⟩:=if_neg h
theorem Fq {q:Id} {k:Nat} {l:List AV} {x:AV}:OL q k (l++[x]) = .osl q k 0 (l.length+1) false:=by rw [Ey (by simp)];simp
theorem Kh {q:Id} {k:Nat} {x:AV}:OL q k [x] = .osl q k 0 1 false:=rfl
theorem Fs {k:Nat} {l:List AV} {x:AV}:OB k (l++[x])=some ⟨l++[x],k,false⟩:=Jg (by simp)
theorem CK {σ : af} {p id D9:Id} {k bytes:Nat} {l:List AV} {x:AV} {b t:Bool} (h : σ id=some ⟨[x],k,b⟩) (h2 : σ D9=some ⟨l,k,false⟩) (hb:(l.length+1)*bytes<=140737488355328) (h0:0<bytes) (h1:x.cells.all AV.one=true) (h3:(l.all fun e=>e.cells.all AV.one)=true) :
   eh σ p k bytes (.osl D9 k 0 l.length false) (.osl id k 0 1 t)=some { val := .osl p k 0 (l.length+1) false,rd:=[D9,id],up:=[(D9,none),(p,some ⟨l++[x],k,false⟩)] } :=
 oJ (σ := σ) (p:=p) (id:=D9) (k:=k) (bytes:=bytes) (len:=l.length) (x := .osl id k 0 1 t) (els:=l) (ys:=[x]) (rd:=[id]) (by rw [jW h rfl (by simp)];rfl) (by simp) h2 rfl hb (eN (by have:=Nat.le_mul_of_pos_right (l.length+1) h0;simp;omega)) (by simpa using h1) h3
theorem CL {σ : af} {q:Id} {k:Nat} {l:List AV} (h:l=[] ∨ σ q=some ⟨l,k,false⟩) (hk:∀ e∈l,e.size=k) (hp:∀ c∈flat l,aa c):View σ (OL q k l) (.sl k l):=by
 by_cases hl:l=[]
 . subst hl;exact View.nils k
 . rw [Ey hl]
   exact View.osl (bk:=⟨l,k,false⟩) (h.resolve_left hl) rfl (by simp) (by simpa using aF.pure hp) (by simp) hk
theorem zL {α β : Type} {l:List α} {i:Nat} {x : α} {f : α -> β} (h:l[i]? = some x):(l.take (i+1)).map f=(l.take i).map f++[f x]:=by
 rw [List.take_add_one,h];simp
abbrev My (l:List CX):AV := .sl 14 (l.map CX.av)
abbrev Ft (l:List DX):AV := .sl 8 (l.map DX.av)
theorem Hc (l:List CX):∀ c∈flat (l.map CX.av),aa c:=by
 intro c hc
 simp only [flat,List.mem_flatMap,List.mem_map] at hc
 obtain ⟨_,⟨x,_,rfl⟩,hc⟩:=hc
 exact Ha x c hc
theorem bL (l:List CX):aa (My l):=aa.sl (Hc l)
theorem Vi (l:List DX):aa (Ft l):=aa.sl (by
 intro c hc
 simp only [flat,List.mem_flatMap,List.mem_map] at hc
 obtain ⟨_,⟨x,_,rfl⟩,hc⟩:=hc
 simp only [DX.av,AV.cells,List.mem_cons,List.not_mem_nil,or_false] at hc
 rcases hc with rfl | rfl | rfl | rfl | rfl | rfl | rfl | rfl<;>first | exact aa.bool _ | exact aa.int _ _)
theorem Ki {l:List DX} {i:Nat} {x:DX} (h:l[i]? = some x):cn 8 (Ft l) (.int .i64 (i:Int))=some (.ep x.av.cells 0):=iM rfl (by rw [List.getElem?_map,h];rfl)
theorem Kj {l:List CX} {i:Nat} {x:CX} (h:l[i]? = some x):cn 14 (My l) (.int .i64 (i:Int))=some (.ep x.av.cells 0):=iM rfl (by rw [List.getElem?_map,h];rfl)
theorem mK {α : Type} {f : α -> AV} (h:∀ x,((f x).cells.all AV.one=true)=True) (l:List α):((l.map f).all fun e=>e.cells.all AV.one)=true:=by
 rw [List.all_eq_true];intro e he;obtain ⟨x,_,rfl⟩:=List.mem_map.1 he;exact of_eq_true (h x)
section
variable {P:Program} {G:Nat->Option (List AV)}
set_option maxHeartbeats 1000000 in
theorem Mz {f fc:FuncId} (h:Has P f (gq fc)) (ds:List DX) (hc:∀ d∈ds,VP P G fc [d.av] (.tup [d.ig.av, .bool d.ig.valid])) (hl:ds.length<=1000000) :
   VP P G f [Ft ds, .int .i64 6] (if 6<ds.length∨(ds.any (fun d:DX => !d.ig.valid))=true then .tup [.nils, .bool false] else .tup [My (ds.map DX.ig), .bool true]):=by
 refine VP.has h ?_
 simp only [gq]
 by_cases h6:6<ds.length
 . have d0:decide ((6:Int)<(ds.length:Int))=true:=aw (by omega)
   rw [if_pos (.inl h6)]
   repeat (first
     | simp (disch:=first | decide | exact rfl) only [SS,Nat.reduceAdd,List.length_map,d0]
     | with_reducible refine ah (by assumption) (by simp [au,ay,ax,aa.int,aa.bool,aa.str,aP,az,aC,aG,aV,bf,aD,nr,bT]) ?_
     | with_reducible refine aj (by assumption) (by simp [au,ay,ax,aa.int,aa.bool,aa.str,aP,az,aC,aG,aV,bf,aD,nr,bT]) ?_
     | with_reducible refine And.intro (a:=ab _ _) (by simp [ab,apart]) ?_
     | with_reducible refine VW.aA 3 (VW.of ?_)
     | with_reducible refine bW.next _ (VW.of ?_)
     | rw [ai (by exact rfl) (by exact rfl) (by exact rfl) (by exact rfl) (by exact rfl)]
     | rw [bQ (by exact rfl) (by exact rfl) (by exact rfl) (by exact rfl)]
     | rw [bR (by exact rfl) (by exact rfl) (by exact rfl) (by exact rfl) (by exact rfl) (by exact rfl)]
     | fail)
   exact ak▸ae rfl (aa.tup (by simp [aP,aa.bool]))
 have d0:decide ((6:Int)<(ds.length:Int))=false:=ar (by omega)
 simp only [SS,Nat.reduceAdd,List.length_map,d0,aK]
 refine VW.dQ (α := Nat × Nat × Nat) (fun y=>⟨[Ft ds, .int .i64 6, .top, .top, .top, .top,OL [y.2.2] 14 ((ds.take y.1).map fun d:DX=>d.ig.av), .int .i64 (y.1:Nat)]++List.replicate 27 .top,af.put (fun _=>none) [y.2.2] (OB 14 ((ds.take y.1).map fun d:DX=>d.ig.av)),y.2.1⟩)
   (fun y=>y.1<=ds.length/\y.2.2<y.2.1/\zp ds (fun d:DX => !d.ig.valid) y.1) (fun y=>ds.length-y.1) (0,1000,0) ?_ ?_ ?_
 . exact Wk.forget (by simp [Fg,List.replicate,OL]) (fun j => .inl (by simp [af.put,OB])) (by simp only [];omega)
 . exact ⟨Nat.zero_le _,by decide,fun j e hj=>absurd hj (Nat.not_lt_zero j)⟩
 rintro ⟨i,m,q⟩ ⟨hi,hq,hn⟩
 simp only [] at hi hq hn
 by_cases hlt:i<ds.length
 . obtain ⟨x,hx⟩:∃ x,ds[i]? = some x:=⟨ds[i],by simp [hlt]⟩
   have d:decide ((i:Int)<(ds.length:Int))=true:=aw (by omega)
   have hv:=hc x (List.mem_of_getElem? hx)
   have Bm:=zL (f:=fun d:DX=>d.ig.av) hx
   have vE:(((ds.take i).map fun d:DX=>d.ig.av).all fun e=>e.cells.all AV.one)=true:=mK (f:=fun d:DX=>d.ig.av) (fun d=>Bc d.ig) _
   have hlen:((ds.take i).map fun d:DX=>d.ig.av).length<=6:=by simp;omega
   simp only []
   generalize hL:((ds.take i).map fun d:DX=>d.ig.av)=L at *
   have hnq:∀ j,m<=j->([j]:Id)≠[q]:=fun j hj=>by simp;omega
   cases hb:x.ig.valid<;>rw [hb] at hv
   . by_cases Be:L=[]
     . rw [Be]
       repeat (first
         | simp (disch:=first | decide | exact rfl) only [SS,Nat.reduceAdd,g0,g1,List.length_map,d,Ki hx,aH,Ke,gu,Kg]
         | with_reducible refine ah (by assumption) (by simp [nr]) ?_
         | with_reducible refine aj (by assumption) (by simp [nr]) ?_
         | with_reducible refine And.intro (a:=ab _ _) (by simp [ab,apart]) ?_
         | with_reducible refine VW.aA 3 (VW.of ?_)
         | with_reducible refine bW.next _ (VW.of ?_)
         | rw [ai (by repeat (first | exact aZ | refine (di (by simp)).trans ?_)) (by exact rfl) (by exact rfl) (by exact rfl) (by exact rfl)]
         | rw [bQ (by exact rfl) (by exact rfl) (by exact rfl) (by exact rfl)]
         | rw [bR (by exact rfl) (by exact rfl) (by exact rfl) (by exact rfl) (by exact rfl) (by exact rfl)]
         | fail)
       rw [if_pos (.inr (zr hx (by simp [hb])))]
       exact ak▸ae rfl (aa.tup (by simp [aP,aa.bool]))
     . rw [Ey Be]
       repeat (first
         | simp (disch:=first | decide | exact rfl) only [SS,Nat.reduceAdd,g0,g1,List.length_map,d,Ki hx,aH,Ke,gu]
         | with_reducible refine ah (by assumption) (by simp [nr]) ?_
         | with_reducible refine aj (by assumption) (by simp [nr]) ?_
         | with_reducible refine And.intro (a:=ab _ _) (by simp [ab,apart]) ?_
         | with_reducible refine VW.aA 3 (VW.of ?_)
         | with_reducible refine bW.next _ (VW.of ?_)
         | rw [ai (by repeat (first | exact aZ | refine (di (by simp)).trans ?_)) (by exact rfl) (by exact rfl) (by exact rfl) (by exact rfl)]
         | rw [bQ (by exact rfl) (by exact rfl) (by exact rfl) (by exact rfl)]
         | rw [bR (by exact rfl) (by exact rfl) (by exact rfl) (by exact rfl) (by exact rfl) (by exact rfl)]
         | fail)
       rw [if_pos (.inr (zr hx (by simp [hb])))]
       exact ak▸ae rfl (aa.tup (by simp [aP,aa.bool]))
   . by_cases Be:L=[]
     . subst Be
       repeat (first
         | simp (disch:=first | decide | exact rfl) only [SS,Nat.reduceAdd,ao,g0,g1,List.length_map,d,Ki hx,aH,Ke,oU,gu,Kg,Ol,aI i (by omega)]
         | with_reducible refine ah (by assumption) (by simp [nr]) ?_
         | with_reducible refine aj (by assumption) (by simp [nr]) ?_
         | with_reducible refine And.intro (a:=ab _ _) (by simp [ab,apart]) ?_
         | with_reducible refine VW.aA 3 (VW.of ?_)
         | with_reducible refine bW.next _ (VW.of ?_)
         | rw [ai (by repeat (first | exact aZ | refine (di (by simp)).trans ?_)) (by exact rfl) (by exact rfl) (by exact rfl) (by exact rfl)]
         | rw [bQ (by exact rfl) (by exact rfl) (by exact rfl) (by exact rfl)]
         | rw [bR (by exact rfl) (by exact rfl) (by exact rfl) (by exact rfl) (by exact rfl) (by exact rfl)]
         | rw [zl aZ (by decide) (by exact rfl)]
         | fail)
       refine ⟨(i+1,_,m+4+11+2+3),⟨hlt, ?_,hn.succ hx (by simp [hb])⟩,by simp only [];omega,Wk.forget (by simp [Fg,Bm,Kh]) (fun j => ?_) (Nat.le_refl _)⟩
       . simp only [];omega
       . rw [Bm];simp only [af.put,List.nil_append];split<;>simp_all [OB]
     . rw [Ey Be,Jg Be]
       repeat (first
         | simp (disch:=first | decide | exact rfl) only [SS,Nat.reduceAdd,ao,g0,g1,List.length_map,d,Ki hx,aH,Ke,oU,gu,aI i (by omega)]
         | with_reducible refine ah (by assumption) (by simp [nr]) ?_
         | with_reducible refine aj (by assumption) (by simp [nr]) ?_
         | with_reducible refine And.intro (a:=ab _ _) (by simp [ab,apart]) ?_
         | with_reducible refine VW.aA 3 (VW.of ?_)
         | with_reducible refine bW.next _ (VW.of ?_)
         | rw [ai (by repeat (first | exact aZ | refine (di (by simp)).trans ?_)) (by exact rfl) (by exact rfl) (by exact rfl) (by exact rfl)]
         | rw [bQ (by exact rfl) (by exact rfl) (by exact rfl) (by exact rfl)]
         | rw [bR (by exact rfl) (by exact rfl) (by exact rfl) (by exact rfl) (by exact rfl) (by exact rfl)]
         | rw [CK (l:=L) aZ (by repeat (first | exact aZ | refine (di (by simp;omega)).trans ?_)) (by omega) (by decide) (by exact rfl) vE]
         | fail)
       refine ⟨(i+1,_,m+4+11+2+3),⟨hlt, ?_,hn.succ hx (by simp [hb])⟩,by simp only [];omega,Wk.forget (by simp [Fg,Bm,Fq]) (fun j => ?_) (Nat.le_refl _)⟩
       . simp only [];omega
       . rw [Bm,Fs];simp only [af.put];split<;>simp_all
 . have d:decide ((i:Int)<(ds.length:Int))=false:=ar (by omega)
   have Vg:i=ds.length:=by omega
   subst Vg
   rw [if_neg (by simp only [not_or];exact ⟨h6,by rw [hn.any (Nat.le_refl _)];decide⟩)]
   simp only [List.take_length]
   repeat (first
     | simp (disch:=first | decide | exact rfl) only [SS,Nat.reduceAdd,List.length_map,d]
     | with_reducible refine ah (by assumption) (by simp [au,ay,ax,aa.int,aa.bool,aa.str,aP,az,aC,aG,aV,bf,aD,nr,bT]) ?_
     | with_reducible refine aj (by assumption) (by simp [au,ay,ax,aa.int,aa.bool,aa.str,aP,az,aC,aG,aV,bf,aD,nr,bT]) ?_
     | with_reducible refine And.intro (a:=ab _ _) (by simp [ab,apart]) ?_
     | with_reducible refine VW.aA 3 (VW.of ?_)
     | with_reducible refine bW.next _ (VW.of ?_)
     | rw [ai (by repeat (first | exact aZ | refine (di (by simp)).trans ?_)) (by exact rfl) (by exact rfl) (by exact rfl) (by exact rfl)]
     | rw [bQ (by exact rfl) (by exact rfl) (by exact rfl) (by exact rfl)]
     | rw [bR (by exact rfl) (by exact rfl) (by exact rfl) (by exact rfl) (by exact rfl) (by exact rfl)]
     | fail)
   refine ak▸⟨_,rfl,View.tup (.cons ?_ (.cons (View.pure (aa.bool _)) .nil))⟩
   have e:(ds.map fun d:DX=>d.ig.av)=(ds.map DX.ig).map CX.av:=by rw [List.map_map];rfl
   rw [e]
   refine CL ?_ (by intro a ha;obtain ⟨y,_,rfl⟩:=List.mem_map.1 ha;rfl) (Hc _)
   by_cases h0:(ds.map DX.ig).map CX.av=[]
   . exact .inl h0
   . right;simp only [af.put,if_true];exact Jg h0
def named (cs:List CX):List NX:=cs.mapIdx fun i c=>⟨[107,47]++decDigits i,c⟩
theorem Om {cs:List CX} {i:Nat} {x:CX} (h:cs[i]? = some x):(named (cs.take (i+1))).map NX.av=(named (cs.take i)).map NX.av++[NX.av ⟨[107,47]++decDigits i,x⟩]:=by
 have hlt:=(List.getElem?_eq_some_iff.1 h).1
 unfold named
 rw [List.take_add_one,h,List.mapIdx_append]
 simp [List.length_take,Nat.min_eq_left (Nat.le_of_lt hlt)]
theorem Hd (s:List UInt8) (x:CX):iN [.str [], .bool false, .nils, .nils, .nils, .nils, .nils, .nils, .nils, .nils, .nils, .nils, .nils, .nils, .bool false] [(0,(1, .str s)),(1,(14,x.av))]=some (.str s::x.cells):=rfl
theorem MA (s:List UInt8) (x:CX):AV.agg (.str s::x.cells)=NX.av ⟨s,x⟩:=rfl
set_option maxHeartbeats 1000000 in
theorem Sa {f fc fd:FuncId} (h:Has P f (iA fc fd)) (ds:List DX) (b:Bool) (cs:List CX) (hb:b=false->cs=[]) (hl:cs.length<=6) (hc:VP P G fc [Ft ds, .int .i64 6] (if b=true then .tup [My cs, .bool true] else .tup [.nils, .bool false])) (hd:∀ n:Nat,n<1000->VP P G fd [.int .i64 (n:Int)] (.str (decDigits n))) :
   VP P G f [Ft ds] (.tup [dP (named cs), .bool b]):=by
 refine VP.has h ?_
 simp only [iA]
 have hp0:∀ c∈[Ft ds, .int .i64 6],aa c:=by simp [Vi,aa.int]
 cases b
 . rw [hb rfl]
   rw [if_neg (by decide)] at hc
   simp only [SS,Nat.reduceAdd]
   refine ah hc hp0 ?_
   repeat (first
     | simp (disch:=first | decide | exact rfl) only [SS,Nat.reduceAdd,aK,ZZ,g0,g1]
     | with_reducible refine ah (by assumption) (by simp [aa.int]) ?_
     | with_reducible refine aj (by assumption) (by simp [aa.int]) ?_
     | with_reducible refine And.intro (a:=ab _ _) (by simp [ab,apart]) ?_
     | with_reducible refine VW.aA 3 (VW.of ?_)
     | with_reducible refine bW.next _ (VW.of ?_)
     | rw [ai (by exact rfl) (by exact rfl) (by exact rfl) (by exact rfl) (by exact rfl)]
     | rw [bQ (by exact rfl) (by exact rfl) (by exact rfl) (by exact rfl)]
     | rw [bR (by exact rfl) (by exact rfl) (by exact rfl) (by exact rfl) (by exact rfl) (by exact rfl)]
     | fail)
   exact ak▸⟨_,rfl,View.tup (.cons (View.nils 15) (.cons (View.pure (aa.bool _)) .nil))⟩
 rw [if_pos rfl] at hc
 simp only [SS,Nat.reduceAdd]
 refine ah hc hp0 ?_
 simp only [SS,Nat.reduceAdd,g0,g1,aK]
 refine VW.dQ (α := Nat × Nat × Nat) (fun y=>⟨[Ft ds, .top, .top, .top,My cs, .bool true,OL [y.2.2] 15 ((named (cs.take y.1)).map NX.av), .int .i64 (y.1:Nat)]++List.replicate 24 .top,af.put (fun _=>none) [y.2.2] (OB 15 ((named (cs.take y.1)).map NX.av)),y.2.1⟩)
   (fun y=>y.1<=cs.length/\y.2.2<y.2.1) (fun y=>cs.length-y.1) (0,1000,0) ?_ ⟨Nat.zero_le _,by decide⟩ ?_
 . exact Wk.forget (by simp [Fg,List.replicate,OL,named]) (fun j => .inl (by simp [af.put,OB,named])) (by simp only [];omega)
 rintro ⟨i,m,q⟩ ⟨hi,hq⟩
 simp only [] at hi hq
 by_cases hlt:i<cs.length
 . obtain ⟨x,hx⟩:∃ x,cs[i]? = some x:=⟨cs[i],by simp [hlt]⟩
   have d:decide ((i:Int)<(cs.length:Int))=true:=aw (by omega)
   have hv:=hd i (by omega)
   have Bm:=Om hx
   have vE:(((named (cs.take i)).map NX.av).all fun e=>e.cells.all AV.one)=true:=mK kC _
   have hlen:((named (cs.take i)).map NX.av).length<=6:=by simp [named];omega
   have On:bM .add .str (.str [107,47]) (.str (decDigits i))=some (.str ([107,47]++decDigits i)):=jt (by rw [nc (by omega)];simp)
   simp only []
   generalize ([107,47]++decDigits i)=nm at *
   generalize hL:(named (cs.take i)).map NX.av=L at *
   by_cases Be:L=[]
   . subst Be
     repeat (first
       | simp (disch:=first | decide | exact rfl) only [SS,DD,Nat.reduceAdd,List.length_map,d,Kj hx,aH,oU,On,Hd,MA,Kg,Ol,aI i (by omega)]
       | with_reducible refine ah (by assumption) (by simp [aa.int]) ?_
       | with_reducible refine aj (by assumption) (by simp [aa.int]) ?_
       | with_reducible refine And.intro (a:=ab _ _) (by simp [ab,apart]) ?_
       | with_reducible refine VW.aA 3 (VW.of ?_)
       | with_reducible refine bW.next _ (VW.of ?_)
       | rw [ai (by repeat (first | exact aZ | refine (di (by simp)).trans ?_)) (by exact rfl) (by exact rfl) (by exact rfl) (by exact rfl)]
       | rw [bQ (by exact rfl) (by exact rfl) (by exact rfl) (by exact rfl)]
       | rw [bR (by exact rfl) (by exact rfl) (by exact rfl) (by exact rfl) (by exact rfl) (by exact rfl)]
       | rw [zl aZ (by decide) (by exact rfl)]
       | fail)
     refine ⟨(i+1,_,m+4+10),⟨hlt, ?_⟩,by simp only [];omega,Wk.forget (by simp [Fg,Bm,Kh]) (fun j => ?_) (Nat.le_refl _)⟩
     . simp only [];omega
     . rw [Bm];simp only [af.put,List.nil_append];split<;>simp_all [OB]
   . rw [Ey Be,Jg Be]
     repeat (first
       | simp (disch:=first | decide | exact rfl) only [SS,DD,Nat.reduceAdd,List.length_map,d,Kj hx,aH,oU,On,Hd,MA,aI i (by omega)]
       | with_reducible refine ah (by assumption) (by simp [aa.int]) ?_
       | with_reducible refine aj (by assumption) (by simp [aa.int]) ?_
       | with_reducible refine And.intro (a:=ab _ _) (by simp [ab,apart]) ?_
       | with_reducible refine VW.aA 3 (VW.of ?_)
       | with_reducible refine bW.next _ (VW.of ?_)
       | rw [ai (by repeat (first | exact aZ | refine (di (by simp)).trans ?_)) (by exact rfl) (by exact rfl) (by exact rfl) (by exact rfl)]
       | rw [bQ (by exact rfl) (by exact rfl) (by exact rfl) (by exact rfl)]
       | rw [bR (by exact rfl) (by exact rfl) (by exact rfl) (by exact rfl) (by exact rfl) (by exact rfl)]
       | rw [CK (l:=L) aZ (by repeat (first | exact aZ | refine (di (by simp;omega)).trans ?_)) (by omega) (by decide) (by exact rfl) vE]
       | fail)
     refine ⟨(i+1,_,m+4+10),⟨hlt, ?_⟩,by simp only [];omega,Wk.forget (by simp [Fg,Bm,Fq]) (fun j => ?_) (Nat.le_refl _)⟩
     . simp only [];omega
     . rw [Bm,Fs];simp only [af.put];split<;>simp_all
 . have d:decide ((i:Int)<(cs.length:Int))=false:=ar (by omega)
   have Vg:i=cs.length:=by omega
   subst Vg
   simp only [List.take_length]
   repeat (first
     | simp (disch:=first | decide | exact rfl) only [SS,Nat.reduceAdd,List.length_map,d]
     | with_reducible refine ah (by assumption) (by simp [aa.int]) ?_
     | with_reducible refine aj (by assumption) (by simp [aa.int]) ?_
     | with_reducible refine And.intro (a:=ab _ _) (by simp [ab,apart]) ?_
     | with_reducible refine VW.aA 3 (VW.of ?_)
     | with_reducible refine bW.next _ (VW.of ?_)
     | rw [ai (by repeat (first | exact aZ | refine (di (by simp)).trans ?_)) (by exact rfl) (by exact rfl) (by exact rfl) (by exact rfl)]
     | rw [bQ (by exact rfl) (by exact rfl) (by exact rfl) (by exact rfl)]
     | rw [bR (by exact rfl) (by exact rfl) (by exact rfl) (by exact rfl) (by exact rfl) (by exact rfl)]
     | fail)
   refine ak▸⟨_,rfl,View.tup (.cons (CL ?_ (by intro a ha;obtain ⟨y,_,rfl⟩:=List.mem_map.1 ha;rfl) (zt _)) (.cons (View.pure (aa.bool _)) .nil))⟩
   by_cases h0:(named cs).map NX.av=[]
   . exact .inl h0
   . right;simp only [af.put,if_true];exact Jg h0
end
end Go.VL
end

section
set_option linter.unusedVariables false
set_option linter.unusedVariables false
set_option maxRecDepth 100000
namespace Go.VL
open Go.Lib
theorem Yl {σ : af} {p:Id} {l:List NX} (h0:l≠[]) (hl:l.length<=1000000):eh σ p 15 320 (.tsl 15 []) (dP l)=some { val := .osl p 15 0 l.length false,up:=[(p,some ⟨l.map NX.av,15,false⟩)] }:=by
 rw [p5 (es:=[]) (ys:=l.map NX.av) ky (by simpa using h0) (by simp;omega) (eN (by simp;omega)) (by simpa using mK kC l)]
 simp
theorem Ym {σ : af} {p id:Id} {l m:List NX} (h : σ id=some ⟨l.map NX.av,15,false⟩) (h0:m≠[]) (hl:l.length+m.length<=1000000):eh σ p 15 320 (.osl id 15 0 l.length false) (dP m)=some { val := .osl p 15 0 (l++m).length false,rd:=[id],up:=[(id,none),(p,some ⟨(l++m).map NX.av,15,false⟩)] }:=by
 have:=oJ (σ := σ) (p:=p) (id:=id) (k:=15) (bytes:=320) (len:=l.length) (x:=dP m) (els:=l.map NX.av) (ys:=m.map NX.av) (rd:=[]) ky (by simpa using h0) h (by simp) (by simp;omega) (eN (by simp;omega)) (mK kC m) (mK kC l)
 simpa using this
theorem Fu {σ : af} {id:Id} {l:List NX} {b t:Bool} (h : σ id=some ⟨l.map NX.av,15,b⟩):View σ (.osl id 15 0 l.length t) (dP l):=by
 have e:(l.map NX.av).length=l.length:=List.length_map ..
 rw [<- e]
 exact View.osl (bk:=⟨l.map NX.av,15,b⟩) h rfl (by simp) (by rw [List.drop_zero,List.take_length];exact aF.pure (zt l)) (by simp) (by intro a ha;obtain ⟨y,_,rfl⟩:=List.mem_map.1 ha;rfl)
theorem D2 {l m:List NX} (h:iE l m=0):l.length+m.length<=200:=by
 unfold iE at h
 split at h
 . cases h
 . omega
def Qf (a b:List NX):Bool:=decide (a.length=b.length) && !((a.zip b).any fun p => !(p.1.name==p.2.name&&p.1.c.same p.2.c))
def CX.shift (x:CX) (w:Q2):CX:=⟨x.G9,gm x.a w,gm x.b w,if x.G9 then gm x.c w else x.c,x.cw⟩
def eD (l:List NX) (s:List UInt8):CX:=match l[(dY l s).toNat]? with | some x=>x.c | none=>⟨false,(0,0),(0,0),(0,0),false⟩
def sT (nm:List UInt8) (l:List NX) (w:Q2) (i:Nat) (s:List UInt8):NX:=⟨nm++[47]++decDigits i++[47]++s,(eD l s).shift (fS w (i:Int))⟩
def bH (nm:List UInt8) (l:List NX) (w:Q2) (ins:List (List UInt8)):Nat->List NX
 | 0=>[]
 | k+1=>bH nm l w ins k++ins.map (sT nm l w (k+1))
noncomputable def MB (nm:List UInt8) (l:List NX) (ins:List (List UInt8)) (x y:Rat) (n:Int):Int :=
 if n<1∨50<n then 1 else if dw nm l ins≠0 then dw nm l ins else if x=0/\y=0 then 6 else iE l (bH nm l (x,y) ins n.toNat)
noncomputable def Sb (nm:List UInt8) (l:List NX) (ins:List (List UInt8)) (x y:Rat) (n:Int):AV :=
 if MB nm l ins x y n=0 then .tup [dP (l++bH nm l (x,y) ins n.toNat), .int .i64 0] else .tup [.nils, .int .i64 (MB nm l ins x y n)]
theorem D3 {i:Nat} (h:i<1000):(decDigits i).length<=3:=by
 by_cases h1:i<10
 . rw [nc h1];simp
 . rw [D1 h1]
   by_cases h2:i/10<10
   . rw [nc h2];simp
   . rw [D1 h2,nc (by omega)];simp
theorem p7 (nm:List UInt8) (l:List NX) (w:Q2) (ins:List (List UInt8)):∀ k,(bH nm l w ins k).length=k*ins.length
 | 0=>by simp [bH]
 | k+1=>by simp [bH,p7 nm l w ins k,Nat.add_mul]
theorem zu {l:List NX} {s:List UInt8} (h : ¬ dY l s<0):∃ (k:Nat) (x:NX),dY l s=(k:Int)/\l[k]? = some x/\x.name=s/\eD l s=x.c:=by
 unfold dY at h ⊢
 cases hf:l.findIdx? fun x=>x.name==s with
 | none=>rw [hf] at h;simp [Ab] at h
 | some k =>
   rw [List.findIdx?_eq_some_iff_getElem] at hf
   obtain ⟨hlt,he,_⟩:=hf
   refine ⟨k,l[k],rfl,by simp [hlt],by simpa using he, ?_⟩
   have h2:dY l s=(k:Int):=by
     unfold dY
     have:(l.findIdx? fun x=>x.name==s)=some k:=by rw [List.findIdx?_eq_some_iff_getElem];exact ⟨hlt,he,by assumption⟩
     rw [this];rfl
   unfold eD
   rw [h2];simp [hlt]
theorem Bf {nm:List UInt8} {l:List NX} {ins:List (List UInt8)} (h:dw nm l ins=0):eA nm=true/\ins≠[]/\∀ s∈ins, ¬ dY l s<0:=by
 unfold dw at h
 split at h
 . cases h
 rename_i h1
 split at h
 . cases h
 split at h
 . cases h
 rename_i h3
 refine ⟨by simp only [not_or] at h1;simpa using h1.1,fun e=>h1 (.inr e),fun s hs hn=>h3 (List.any_eq_true.2 ⟨s,hs,decide_eq_true hn⟩)⟩
section
variable {P:Program} {G:Nat->Option (List AV)}
theorem Oo {f ff:FuncId} (h:Has P f (kt ff)) (l more:List NX) (hf:VP P G ff [dP l,dP more] (.int .i64 (iE l more))) (hl:l≠[]) (hm:more≠[]) :
   VP P G f [dP l,dP more] (if iE l more=0 then .tup [dP (l++more), .int .i64 0] else .tup [.nils, .int .i64 (iE l more)]):=by
 refine VP.has h ?_
 simp only [kt]
 by_cases h0:iE l more=0
 . have d0:decide (iE l more≠0)=false:=ar (by simpa using h0)
   have hlen:=D2 h0
   have bs:∀ (σ : af) (p:Id),bU σ p (.buildSl 15 0 (.agg [.str [], .bool false, .nils, .nils, .nils, .nils, .nils, .nils, .nils, .nils, .nils, .nils, .nils, .nils, .bool false]) [])=some { val := .tsl 15 [] }:=fun σ p=>bs0 rfl rfl
   rw [if_pos h0]
   repeat (first
     | simp (disch:=first | decide | exact rfl) only [SS,Nat.reduceAdd,d0,bs,Yl hl (by omega:l.length<=1000000)]
     | with_reducible refine ah (by assumption) (by simp [aD]) ?_
     | with_reducible refine aj (by assumption) (by simp [aD]) ?_
     | with_reducible refine And.intro (a:=ab _ _) (by simp [ab,apart]) ?_
     | with_reducible refine VW.aA 3 (VW.of ?_)
     | with_reducible refine bW.next _ (VW.of ?_)
     | rw [ai (by exact rfl) (by exact rfl) (by exact rfl) (by exact rfl) (by exact rfl)]
     | rw [bQ (by exact rfl) (by exact rfl) (by exact rfl) (by exact rfl)]
     | rw [bR (by exact rfl) (by exact rfl) (by exact rfl) (by exact rfl) (by exact rfl) (by exact rfl)]
     | rw [Ym (l:=l) aZ hm (by omega)]
     | fail)
   refine ak▸⟨_,rfl,View.tup (.cons (Fu (by exact rfl)) (.cons (View.pure (aa.int _ _)) .nil))⟩
 . have d0:decide (iE l more≠0)=true:=aw h0
   rw [if_neg h0]
   repeat (first
     | simp (disch:=first | decide | exact rfl) only [SS,Nat.reduceAdd,d0]
     | with_reducible refine ah (by assumption) (by simp [aD]) ?_
     | with_reducible refine aj (by assumption) (by simp [aD]) ?_
     | with_reducible refine And.intro (a:=ab _ _) (by simp [ab,apart]) ?_
     | with_reducible refine VW.aA 3 (VW.of ?_)
     | with_reducible refine bW.next _ (VW.of ?_)
     | rw [ai (by exact rfl) (by exact rfl) (by exact rfl) (by exact rfl) (by exact rfl)]
     | rw [bQ (by exact rfl) (by exact rfl) (by exact rfl) (by exact rfl)]
     | rw [bR (by exact rfl) (by exact rfl) (by exact rfl) (by exact rfl) (by exact rfl) (by exact rfl)]
     | fail)
   exact ak▸ae rfl (aa.tup (by simp [aP,aa.int]))
theorem Sc {f fe:FuncId} (h:Has P f (lq fe)) (a b:List NX) (ha:a.length<=1000000) (he:∀ x y,(x,y)∈a.zip b->VP P G fe [x.c.av,y.c.av] (.bool (x.c.same y.c))):VP P G f [dP a,dP b] (.bool (Qf a b)):=by
 refine VP.has h ?_
 simp only [lq]
 unfold Qf
 by_cases hl:a.length=b.length
 . have d0:decide ((a.length:Int)≠(b.length:Int))=false:=ar (by omega)
   rw [decide_eq_true hl,Bool.true_and]
   simp only [SS,Nat.reduceAdd,List.length_map,d0,aK]
   have hz:(a.zip b).length=a.length:=by rw [List.length_zip];omega
   refine VW.scan (a.zip b) (fun p => !(p.1.name==p.2.name&&p.1.c.same p.2.c)) (fun i=>[dP a,dP b, .top, .top, .top, .int .i64 i]++List.replicate 36 .top) (fun _=>none) 1000 (Wk.slots (by simp [Fg,List.replicate]) (by omega)) (fun i m e hx hlt hn d => ?_) (fun m hn d => ?_)
   . rw [hz] at d
     obtain ⟨x,y⟩:=e
     have Hs:a[i]? = some x/\b[i]? = some y:=by rw [List.getElem?_zip_eq_some] at hx;exact hx
     have hv:=he x y (List.mem_of_getElem? hx)
     cases ye:x.name==y.name<;>cases C1:x.c.same y.c<;>rw [C1] at hv
     all_goals
       repeat (first
         | simp (disch:=first | decide | exact rfl) only [SS,DD,Nat.reduceAdd,List.length_map,d,oV Hs.1,oV Hs.2,aH,Av,Mu,ye,aI i (by omega)]
         | with_reducible refine ah (by assumption) (by simp [aV]) ?_
         | with_reducible refine aj (by assumption) (by simp [aV]) ?_
         | with_reducible refine And.intro (a:=ab _ _) (by simp [ab,apart]) ?_
         | with_reducible refine VW.aA 3 (VW.of ?_)
         | with_reducible refine bW.next _ (VW.of ?_)
         | rw [ai (by repeat (first | exact aZ | refine (di (by simp)).trans ?_)) (by exact rfl) (by exact rfl) (by exact rfl) (by exact rfl)]
         | rw [bQ (by exact rfl) (by exact rfl) (by exact rfl) (by exact rfl)]
         | rw [bR (by exact rfl) (by exact rfl) (by exact rfl) (by exact rfl) (by exact rfl) (by exact rfl)]
         | fail)
       first
         | exact ⟨(i+1,_),⟨hlt,hn.succ hx (by simp [ye,C1])⟩,by simp only [];omega,Wk.slots (by simp [Fg]) (Nat.le_refl _)⟩
         | (rw [zr hx (by simp [ye,C1])];exact ak▸ae rfl (aa.bool _))
   . rw [hz] at d
     repeat (first
       | simp (disch:=first | decide | exact rfl) only [SS,Nat.reduceAdd,List.length_map,d,hz]
       | with_reducible refine ah (by assumption) (by simp [au,ay,ax,aa.int,aa.bool,aa.str,aP,az,aC,aG,aV,bf,aD,aR,bT]) ?_
       | with_reducible refine aj (by assumption) (by simp [au,ay,ax,aa.int,aa.bool,aa.str,aP,az,aC,aG,aV,bf,aD,aR,bT]) ?_
       | with_reducible refine And.intro (a:=ab _ _) (by simp [ab,apart]) ?_
       | with_reducible refine VW.aA 3 (VW.of ?_)
       | with_reducible refine bW.next _ (VW.of ?_)
       | rw [ai (by exact rfl) (by exact rfl) (by exact rfl) (by exact rfl) (by exact rfl)]
       | rw [bQ (by exact rfl) (by exact rfl) (by exact rfl) (by exact rfl)]
       | rw [bR (by exact rfl) (by exact rfl) (by exact rfl) (by exact rfl) (by exact rfl) (by exact rfl)]
       | fail)
     rw [hn.any (Nat.le_refl _)]
     exact ak▸ae rfl (aa.bool _)
 . have d0:decide ((a.length:Int)≠(b.length:Int))=true:=aw (by omega)
   rw [decide_eq_false hl,Bool.false_and]
   repeat (first
     | simp (disch:=first | decide | exact rfl) only [SS,Nat.reduceAdd,List.length_map,d0]
     | with_reducible refine ah (by assumption) (by simp [au,ay,ax,aa.int,aa.bool,aa.str,aP,az,aC,aG,aV,bf,aD,aR,bT]) ?_
     | with_reducible refine aj (by assumption) (by simp [au,ay,ax,aa.int,aa.bool,aa.str,aP,az,aC,aG,aV,bf,aD,aR,bT]) ?_
     | with_reducible refine And.intro (a:=ab _ _) (by simp [ab,apart]) ?_
     | with_reducible refine VW.aA 3 (VW.of ?_)
     | with_reducible refine bW.next _ (VW.of ?_)
     | rw [ai (by exact rfl) (by exact rfl) (by exact rfl) (by exact rfl) (by exact rfl)]
     | rw [bQ (by exact rfl) (by exact rfl) (by exact rfl) (by exact rfl)]
     | rw [bR (by exact rfl) (by exact rfl) (by exact rfl) (by exact rfl) (by exact rfl) (by exact rfl)]
     | fail)
   exact ak▸ae rfl (aa.bool _)
end
end Go.VL
end

section
set_option maxRecDepth 100000
namespace Go.VL
abbrev Vj (cu a8 bY:Nat):cg:=(.seq (cS [oM 58 20,oM 59 2,oN 60 59,oT 61 .lss 58 60] (.cond (.t 61) .skip (.exit 2))) (.seq (.block 3 (cS [oM 64 1,oM 65 1,oM 66 2,oM 67 20,oA 68 1 66 67,oL 69 1 68,bo 70 cu 65 69,oA 71 15 64 70,oF 72 1 71,aQ 73 14 72,⟨some 21,.box (.c (.agg [(.bool false),.nils,.nils,.nils,.nils,.nils,.nils,.nils,.nils,.nils,.nils,.nils,.nils,(.bool false)])),none⟩,oS 14 21 73] (.seq (.reg (some [(4,7),(4,8)]) [oM 74 15,oF 75 1 21,aQ 76 4 75,aQ 77 4 19,⟨some 78,.call (.f a8) [(.t 74),(.t 76),(.t 77)],none⟩,oM 79 15,oF 80 5 21,aQ 81 4 80,aQ 82 4 19,⟨some 83,.call (.f a8) [(.t 79),(.t 81),(.t 82)],none⟩,oF 84 1 21,oS 4 84 78,oF 85 5 21,oS 4 85 83]) (.seq (cS [oF 86 0 21,oL 87 1 86] (.cond (.t 87) (cR [oM 88 15,oF 89 9 21,aQ 90 4 89,aQ 91 4 19,⟨some 92,.call (.f a8) [(.t 88),(.t 90),(.t 91)],none⟩,oF 93 9 21,oS 4 93 92]) .skip)) (.reg (some [(4,10),(4,12)]) [oM 94 17,oM 95 0,⟨some 96,.bin .add .str (.t 95) (.c (.str [47])),none⟩,oM 97 18,oC 98 bY 97,⟨some 99,.bin .add .str (.t 96) (.t 98),none⟩,⟨some 100,.bin .add .str (.t 99) (.c (.str [47])),none⟩,oM 101 2,oM 102 20,oA 103 1 101 102,oL 104 1 103,⟨some 105,.bin .add .str (.t 100) (.t 104),none⟩,aQ 106 14 21,⟨some 107,.build [(.str []),(.bool false),.nils,.nils,.nils,.nils,.nils,.nils,.nils,.nils,.nils,.nils,.nils,.nils,(.bool false)] [(0,(1,(.t 105))),(1,(14,(.t 106)))],none⟩,⟨some 108,.buildSl 15 1 (.agg [(.str []),(.bool false),.nils,.nils,.nils,.nils,.nils,.nils,.nils,.nils,.nils,.nils,.nils,.nils,(.bool false)]) [(0,(.t 107))],none⟩,zF 109 15 320 94 108,oM 17 109]))))) (cR [oM 62 20,bp 63 .add 62 1,oM 20 63])))
end Go.VL
end

section
set_option linter.unusedVariables false
set_option linter.unusedVariables false
set_option maxRecDepth 100000
namespace Go.VL
open Go.Lib
theorem bz {σ : af} {p:Id} {a c:Nat} {b:Option da} (h:c≠a):(σ.put (a::p) b) (c::p) = σ (c::p):=di (by simp [h])
theorem oW {σ : af}:∀ i,(fun _=>none:af) i=none∨(fun _=>none:af) i = σ i:=fun _ => .inl rfl
theorem dB {σ σ':af} {id:Id} {b:Option da} (h : σ id=b) (hs:∀ i, σ' i=none ∨ σ' i = σ i) (i:Id):(σ'.put id b) i=none∨(σ'.put id b) i = σ i:=by
 by_cases e:i=id
 . subst e;right;rw [aZ,h]
 . rw [di e];exact hs i
theorem Vk {k:Nat} {x:AV}:OB k [x]=some ⟨[x],k,false⟩:=rfl
def NOk (k:Nat) (x:NX):Prop:=x.name.length<=1000/\x.c.Sm k
section
variable {P:Program} {G:Nat->Option (List AV)} {Q:bX->VS->Prop}
set_option maxHeartbeats 4000000 in
theorem MC {fF fp fd:FuncId} (nm:List UInt8) (l:List NX) (ins:List (List UInt8)) (N i:Nat) (v w:Q2) (L0:List NX) (r q m:Nat) (F:List UInt8->NX) (hFd:∀ s,F s=⟨nm++[47]++decDigits i++[47]++s,(eD l s).shift w⟩)
   (hF:∀ s∈ins,VP P G fF [dP l, .str s] (.int .i64 (dY l s))) (iI:∀ s∈ins, ¬ dY l s<0) (hP:CJ P G fp) (hD:VP P G fd [.int .i64 (i:Int)] (.str (decDigits i))) (qU:nm.length<=1000) (hl:∀ z∈l,NOk 2000 z) (yc:ins.length<=10) (hL:L0.length<=500) (hi:i<1000) (Rc:nd 1001 w)
   (r26:26≠r) (r31:31≠r) (hrm:r<m) (Kw:999<=q) (hqm:q<m) (KH:q≠r) (hm:1000<=m)
   (hQ:∀ m' q',999<=q'->q'<m'->q'≠r->m<=m'->Q (.exit 2) ⟨[.str nm,dP l,strs ins, .top, .top, .int .i64 (N:Int)]++List.replicate 9 .top++[.ref [26] 0 0, .ref [31] 0 0,OL [q'] 15 ((L0++ins.map F).map NX.av), .int .i64 (i:Int), .ref [r] 0 0, .int .i64 (ins.length:Int)]++List.replicate 37 .top++[.int .i64 (ins.length:Int),strs ins, .int .i64 (ins.length:Int), .bool false]++List.replicate 62 .top,(((af.put (fun _=>none) [26] (some eB)).put [31] (some ⟨[V2 v],4,false⟩)).put [r] (some ⟨[V2 w],4,false⟩)).put [q'] (OB 15 ((L0++ins.map F).map NX.av)),m'+4⟩) :
   VW P G [] (.loop (Vj fF fp fd)) Q ⟨[.str nm,dP l,strs ins, .top, .top, .int .i64 (N:Int)]++List.replicate 9 .top++[.ref [26] 0 0, .ref [31] 0 0,OL [q] 15 (L0.map NX.av), .int .i64 (i:Int), .ref [r] 0 0, .int .i64 0]++List.replicate 103 .top,(((af.put (fun _=>none) [26] (some eB)).put [31] (some ⟨[V2 v],4,false⟩)).put [r] (some ⟨[V2 w],4,false⟩)).put [q] (OB 15 (L0.map NX.av)),m⟩:=by
 refine VW.dQ (α := Nat × Nat × Nat) (fun z=>⟨[.str nm,dP l,strs ins, .top, .top, .int .i64 (N:Int)]++List.replicate 9 .top++[.ref [26] 0 0, .ref [31] 0 0,OL [z.2.2] 15 ((L0++(ins.take z.1).map F).map NX.av), .int .i64 (i:Int), .ref [r] 0 0, .int .i64 (z.1:Nat)]++List.replicate 103 .top,(((af.put (fun _=>none) [26] (some eB)).put [31] (some ⟨[V2 v],4,false⟩)).put [r] (some ⟨[V2 w],4,false⟩)).put [z.2.2] (OB 15 ((L0++(ins.take z.1).map F).map NX.av)),z.2.1⟩)
   (fun z=>z.1<=ins.length/\999<=z.2.2/\z.2.2<z.2.1/\z.2.2≠r/\m<=z.2.1) (fun z=>ins.length-z.1) (0,m,q) ?_ ⟨Nat.zero_le _,Kw,hqm,KH,Nat.le_refl _⟩ ?_
 . simp only [List.take_zero,List.map_nil,List.append_nil]
   exact Wk.slots (by simp [Fg,List.replicate]) (Nat.le_refl _)
 rintro ⟨j,m',q'⟩ ⟨hj,aev,hq',abD,qG⟩
 simp only [] at hj aev hq' abD qG
 have l26:26<m':=by omega
 have l31:31<m':=by omega
 have lr:r<m':=by omega
 have f2:r≠q':=fun e=>abD e.symm
 have f4:26≠q':=by omega
 have f5:31≠q':=by omega
 by_cases Vl:j<ins.length
 . have b1:999<=m'+4+12+14+2+15/\m'+4+12+14+2+15<m'+4+12+14+2+17+3/\m'+4+12+14+2+15≠r:=by omega
   have b2:999<=m'+4+12+14+2+7+15/\m'+4+12+14+2+7+15<m'+4+12+14+2+7+17+3/\m'+4+12+14+2+7+15≠r:=by omega
   have b3:ins.length-(j+1)<ins.length-j:=by omega
   have b4:m<=m'+4+12+14+2+17+3/\m<=m'+4+12+14+2+7+17+3:=by omega
   obtain ⟨s,hs⟩:∃ s,ins[j]? = some s:=⟨ins[j],by simp [Vl]⟩
   have d5:decide ((j:Int)<(ins.length:Int))=true:=aw (by omega)
   have NF:=aI j (by omega)
   have hdl:=D3 hi
   have Bm:((L0++(ins.take (j+1)).map F).map NX.av)=((L0++(ins.take j).map F).map NX.av)++[NX.av (F s)]:=by rw [zL hs];simp
   have vE:(((L0++(ins.take j).map F).map NX.av).all fun e=>e.cells.all AV.one)=true:=mK kC _
   have hlL:(((L0++(ins.take j).map F).map NX.av).length+1)*320<=140737488355328:=by simp;omega
   have hms:=List.mem_of_getElem? hs
   have hf:=hF s hms
   obtain ⟨k,z,hk,hz,hzn,Z1⟩:=zu (iI s hms)
   rw [hk] at hf
   have hzm:=hl z (List.mem_of_getElem? hz)
   have M8:s.length<=1000:=by rw [<- hzn];exact hzm.1
   have c1:=jt (a:=nm) (b:=[47]) (by simp;omega)
   have c2:=jt (a:=nm++[47]) (b:=decDigits i) (by simp;omega)
   have c3:=jt (a:=nm++[47]++decDigits i) (b:=[47]) (by simp;omega)
   have c4:=jt (a:=nm++[47]++decDigits i++[47]) (b:=s) (by simp;omega)
   rw [hFd s,Z1] at Bm
   have sz:=hzm.2
   have p1:=hP z.c.a w (sz.1.mono (by omega)) (Rc.mono (by omega))
   have p2:=hP z.c.b w (sz.2.1.mono (by omega)) (Rc.mono (by omega))
   have p3:=hP z.c.c w (sz.2.2.mono (by omega)) (Rc.mono (by omega))
   clear iI hF hl hQ hm qG Kw hqm KH hrm hi yc hL Rc sz hzm M8 hdl qU Z1 hk hzn hms hP
   simp only []
   obtain ⟨zn,zc⟩:=z
   simp only [] at hz p1 p2 p3 Bm
   generalize nm++[47]++decDigits i++[47]++s=nm4 at *
   generalize nm++[47]++decDigits i++[47]=nm3 at *
   generalize nm++[47]++decDigits i=nm2 at *
   generalize nm++[47]=nm1 at *
   generalize ((L0++(ins.take j).map F).map NX.av)=L at *
   by_cases Be:L=[]
   . subst Be
     rcases zc with ⟨_ | _,za,zb,zc',zw⟩
     all_goals
       repeat (first
         | simp (disch:=first | decide | exact rfl | with_reducible assumption | exact Nat.ne_of_lt (by repeat (first | with_reducible assumption | apply Nat.lt_add_right))) only [eG,SS,DD,Nat.reduceAdd,ao,gH,d5,nI hs,vk,aH,oV hz,Mu,oU,Ev,Ew,Ex,Hb,cK,gu,c1,c2,c3,c4,Hd,MA,Kg,Ol,NF]
         | with_reducible refine ah (by assumption) (by simp [aa.str,aD]) ?_
         | with_reducible refine aj (by assumption) (by simp [aa.int,aa.str,aD]) ?_
         | with_reducible refine And.intro (a:=ab _ _) (by simp [ab,apart];try assumption) ?_
         | rw [ai (by repeat (first | with_reducible exact aZ | refine (bz (by first | with_reducible assumption | decide | exact Nat.ne_of_lt (by repeat (first | with_reducible assumption | apply Nat.lt_add_right)))).trans ?_)) (by exact rfl) (by exact rfl) (by exact rfl) (by exact rfl)]
         | rw [bQ (by exact rfl) (by exact rfl) (by exact rfl) (by exact rfl)]
         | rw [bR (by exact rfl) (by exact rfl) (by exact rfl) (by exact rfl) (by exact rfl) (by exact rfl)]
         | rw [Fm (by repeat (first | with_reducible exact aZ | refine (bz (by first | with_reducible assumption | decide | exact Nat.ne_of_lt (by repeat (first | with_reducible assumption | apply Nat.lt_add_right)))).trans ?_))]
         | rw [Fo (by repeat (first | with_reducible exact aZ | refine (bz (by first | with_reducible assumption | decide | exact Nat.ne_of_lt (by repeat (first | with_reducible assumption | apply Nat.lt_add_right)))).trans ?_))]
         | rw [Fp (by repeat (first | with_reducible exact aZ | refine (bz (by first | with_reducible assumption | decide | exact Nat.ne_of_lt (by repeat (first | with_reducible assumption | apply Nat.lt_add_right)))).trans ?_))]
         | refine eC p1 (by repeat (first | with_reducible exact l26 | apply Nat.lt_add_right)) (by repeat (first | with_reducible exact aZ | refine (bz (by first | with_reducible assumption | decide | exact Nat.ne_of_lt (by repeat (first | with_reducible assumption | apply Nat.lt_add_right)))).trans ?_)) ?_
         | refine eC p2 (by repeat (first | with_reducible exact l26 | apply Nat.lt_add_right)) (by repeat (first | with_reducible exact aZ | refine (bz (by first | with_reducible assumption | decide | exact Nat.ne_of_lt (by repeat (first | with_reducible assumption | apply Nat.lt_add_right)))).trans ?_)) ?_
         | refine CG p3 (by repeat (first | with_reducible exact l26 | apply Nat.lt_add_right)) (by repeat (first | with_reducible exact aZ | refine (bz (by first | with_reducible assumption | decide | exact Nat.ne_of_lt (by repeat (first | with_reducible assumption | apply Nat.lt_add_right)))).trans ?_)) ?_
         | rw [zl (by with_reducible exact aZ) (by decide) (by exact rfl)]
         | fail)
     . exact ⟨(j+1,_,m'+4+12+14+2+15),⟨Vl,b1.1,b1.2.1,b1.2.2,b4.1⟩,b3,Wk.forget (by simp only [Bm,List.nil_append,Kh];simp [Fg]) (dB (by simp only [Bm,List.nil_append,Vk];exact aZ.trans (by rfl)) (dB (by repeat (first | with_reducible exact aZ | refine (bz (by first | with_reducible assumption | decide | exact Nat.ne_of_lt (by repeat (first | with_reducible assumption | apply Nat.lt_add_right)))).trans ?_)) (dB (by repeat (first | with_reducible exact aZ | refine (bz (by first | with_reducible assumption | decide | exact Nat.ne_of_lt (by repeat (first | with_reducible assumption | apply Nat.lt_add_right)))).trans ?_)) (dB (by repeat (first | with_reducible exact aZ | refine (bz (by first | with_reducible assumption | decide | exact Nat.ne_of_lt (by repeat (first | with_reducible assumption | apply Nat.lt_add_right)))).trans ?_)) oW)))) (Nat.le_refl _)⟩
     . exact ⟨(j+1,_,m'+4+12+14+2+7+15),⟨Vl,b2.1,b2.2.1,b2.2.2,b4.2⟩,b3,Wk.forget (by simp only [Bm,List.nil_append,Kh];simp [Fg]) (dB (by simp only [Bm,List.nil_append,Vk];exact aZ.trans (by rfl)) (dB (by repeat (first | with_reducible exact aZ | refine (bz (by first | with_reducible assumption | decide | exact Nat.ne_of_lt (by repeat (first | with_reducible assumption | apply Nat.lt_add_right)))).trans ?_)) (dB (by repeat (first | with_reducible exact aZ | refine (bz (by first | with_reducible assumption | decide | exact Nat.ne_of_lt (by repeat (first | with_reducible assumption | apply Nat.lt_add_right)))).trans ?_)) (dB (by repeat (first | with_reducible exact aZ | refine (bz (by first | with_reducible assumption | decide | exact Nat.ne_of_lt (by repeat (first | with_reducible assumption | apply Nat.lt_add_right)))).trans ?_)) oW)))) (Nat.le_refl _)⟩
   . rw [Ey Be,Jg Be]
     rcases zc with ⟨_ | _,za,zb,zc',zw⟩
     all_goals
       repeat (first
         | simp (disch:=first | decide | exact rfl | with_reducible assumption | exact Nat.ne_of_lt (by repeat (first | with_reducible assumption | apply Nat.lt_add_right))) only [eG,SS,DD,Nat.reduceAdd,ao,gH,d5,nI hs,vk,aH,oV hz,Mu,oU,Ev,Ew,Ex,Hb,cK,gu,c1,c2,c3,c4,Hd,MA,NF]
         | with_reducible refine ah (by assumption) (by simp [aa.str,aD]) ?_
         | with_reducible refine aj (by assumption) (by simp [aa.int,aa.str,aD]) ?_
         | with_reducible refine And.intro (a:=ab _ _) (by simp [ab,apart];try assumption) ?_
         | rw [ai (by repeat (first | with_reducible exact aZ | refine (bz (by first | with_reducible assumption | decide | exact Nat.ne_of_lt (by repeat (first | with_reducible assumption | apply Nat.lt_add_right)))).trans ?_)) (by exact rfl) (by exact rfl) (by exact rfl) (by exact rfl)]
         | rw [bQ (by exact rfl) (by exact rfl) (by exact rfl) (by exact rfl)]
         | rw [bR (by exact rfl) (by exact rfl) (by exact rfl) (by exact rfl) (by exact rfl) (by exact rfl)]
         | rw [Fm (by repeat (first | with_reducible exact aZ | refine (bz (by first | with_reducible assumption | decide | exact Nat.ne_of_lt (by repeat (first | with_reducible assumption | apply Nat.lt_add_right)))).trans ?_))]
         | rw [Fo (by repeat (first | with_reducible exact aZ | refine (bz (by first | with_reducible assumption | decide | exact Nat.ne_of_lt (by repeat (first | with_reducible assumption | apply Nat.lt_add_right)))).trans ?_))]
         | rw [Fp (by repeat (first | with_reducible exact aZ | refine (bz (by first | with_reducible assumption | decide | exact Nat.ne_of_lt (by repeat (first | with_reducible assumption | apply Nat.lt_add_right)))).trans ?_))]
         | refine eC p1 (by repeat (first | with_reducible exact l26 | apply Nat.lt_add_right)) (by repeat (first | with_reducible exact aZ | refine (bz (by first | with_reducible assumption | decide | exact Nat.ne_of_lt (by repeat (first | with_reducible assumption | apply Nat.lt_add_right)))).trans ?_)) ?_
         | refine eC p2 (by repeat (first | with_reducible exact l26 | apply Nat.lt_add_right)) (by repeat (first | with_reducible exact aZ | refine (bz (by first | with_reducible assumption | decide | exact Nat.ne_of_lt (by repeat (first | with_reducible assumption | apply Nat.lt_add_right)))).trans ?_)) ?_
         | refine CG p3 (by repeat (first | with_reducible exact l26 | apply Nat.lt_add_right)) (by repeat (first | with_reducible exact aZ | refine (bz (by first | with_reducible assumption | decide | exact Nat.ne_of_lt (by repeat (first | with_reducible assumption | apply Nat.lt_add_right)))).trans ?_)) ?_
         | rw [CK (l:=L) (by with_reducible exact aZ) (by repeat (first | with_reducible exact aZ | refine (bz (by first | with_reducible assumption | decide | exact Nat.ne_of_lt (by repeat (first | with_reducible assumption | apply Nat.lt_add_right)))).trans ?_)) hlL (by decide) (by exact rfl) vE]
         | fail)
     . exact ⟨(j+1,_,m'+4+12+14+2+15),⟨Vl,b1.1,b1.2.1,b1.2.2,b4.1⟩,b3,Wk.forget (by simp only [Bm,Fq];simp [Fg]) (dB (by simp only [Bm,Fs];exact aZ.trans (by rfl)) (dB (by repeat (first | with_reducible exact aZ | refine (bz (by first | with_reducible assumption | decide | exact Nat.ne_of_lt (by repeat (first | with_reducible assumption | apply Nat.lt_add_right)))).trans ?_)) (dB (by repeat (first | with_reducible exact aZ | refine (bz (by first | with_reducible assumption | decide | exact Nat.ne_of_lt (by repeat (first | with_reducible assumption | apply Nat.lt_add_right)))).trans ?_)) (dB (by repeat (first | with_reducible exact aZ | refine (bz (by first | with_reducible assumption | decide | exact Nat.ne_of_lt (by repeat (first | with_reducible assumption | apply Nat.lt_add_right)))).trans ?_)) oW)))) (Nat.le_refl _)⟩
     . exact ⟨(j+1,_,m'+4+12+14+2+7+15),⟨Vl,b2.1,b2.2.1,b2.2.2,b4.2⟩,b3,Wk.forget (by simp only [Bm,Fq];simp [Fg]) (dB (by simp only [Bm,Fs];exact aZ.trans (by rfl)) (dB (by repeat (first | with_reducible exact aZ | refine (bz (by first | with_reducible assumption | decide | exact Nat.ne_of_lt (by repeat (first | with_reducible assumption | apply Nat.lt_add_right)))).trans ?_)) (dB (by repeat (first | with_reducible exact aZ | refine (bz (by first | with_reducible assumption | decide | exact Nat.ne_of_lt (by repeat (first | with_reducible assumption | apply Nat.lt_add_right)))).trans ?_)) (dB (by repeat (first | with_reducible exact aZ | refine (bz (by first | with_reducible assumption | decide | exact Nat.ne_of_lt (by repeat (first | with_reducible assumption | apply Nat.lt_add_right)))).trans ?_)) oW)))) (Nat.le_refl _)⟩
 . have hjj:j=ins.length:=by omega
   subst hjj
   have d5:decide ((ins.length:Int)<(ins.length:Int))=false:=ar (by omega)
   simp only [List.take_length]
   have KV:=hQ m' q' aev hq' abD qG
   clear hF iI hP hD hl hQ
   repeat (first
     | simp (disch:=first | decide | exact rfl | with_reducible assumption | exact Nat.ne_of_lt (by repeat (first | with_reducible assumption | apply Nat.lt_add_right))) only [SS,Nat.reduceAdd,gH,d5]
     | with_reducible refine ah (by assumption) (by simp [au,ay,ax,aa.int,aa.bool,aa.str,aP,az,aC,aG,aV,bf,aD,aR,bT]) ?_
     | with_reducible refine aj (by assumption) (by simp [au,ay,ax,aa.int,aa.bool,aa.str,aP,az,aC,aG,aV,bf,aD,aR,bT]) ?_
     | with_reducible refine And.intro (a:=ab _ _) (by simp [ab,apart];try assumption) ?_
     | rw [ai (by repeat (first | with_reducible exact aZ | refine (bz (by first | with_reducible assumption | decide | exact Nat.ne_of_lt (by repeat (first | with_reducible assumption | apply Nat.lt_add_right)))).trans ?_)) (by exact rfl) (by exact rfl) (by exact rfl) (by exact rfl)]
     | rw [bQ (by exact rfl) (by exact rfl) (by exact rfl) (by exact rfl)]
     | rw [bR (by exact rfl) (by exact rfl) (by exact rfl) (by exact rfl) (by exact rfl) (by exact rfl)]
     | fail)
   exact KV
end
end Go.VL
end

section
set_option maxRecDepth 100000
namespace Go.VL
abbrev Vm (er cL cu a8 bY:Nat):cg:=(.seq (cS [oM 48 18,oM 49 5,oT 50 .leq 48 49] (.cond (.t 50) .skip (.exit 0))) (.seq (.block 1 (.seq (.reg (some [(1,3),(1,5),(3,5),(4,5)]) [oM 53 15,aQ 54 4 16,oM 55 18,oC 56 er 55,⟨some 57,.call (.f cL) [(.t 53),(.t 54),(.t 56)],none⟩,⟨some 19,.box (.c (.agg [.nils,.nils,.nils,.nils])),none⟩,oS 4 19 57]) (cS [oI 20 0] (.block 2 (.loop (.seq (cS [oM 58 20,oM 59 2,oN 60 59,oT 61 .lss 58 60] (.cond (.t 61) .skip (.exit 2))) (.seq (.block 3 (cS [oM 64 1,oM 65 1,oM 66 2,oM 67 20,oA 68 1 66 67,oL 69 1 68,bo 70 cu 65 69,oA 71 15 64 70,oF 72 1 71,aQ 73 14 72,⟨some 21,.box (.c (.agg [(.bool false),.nils,.nils,.nils,.nils,.nils,.nils,.nils,.nils,.nils,.nils,.nils,.nils,(.bool false)])),none⟩,oS 14 21 73] (.seq (.reg (some [(4,7),(4,8)]) [oM 74 15,oF 75 1 21,aQ 76 4 75,aQ 77 4 19,⟨some 78,.call (.f a8) [(.t 74),(.t 76),(.t 77)],none⟩,oM 79 15,oF 80 5 21,aQ 81 4 80,aQ 82 4 19,⟨some 83,.call (.f a8) [(.t 79),(.t 81),(.t 82)],none⟩,oF 84 1 21,oS 4 84 78,oF 85 5 21,oS 4 85 83]) (.seq (cS [oF 86 0 21,oL 87 1 86] (.cond (.t 87) (cR [oM 88 15,oF 89 9 21,aQ 90 4 89,aQ 91 4 19,⟨some 92,.call (.f a8) [(.t 88),(.t 90),(.t 91)],none⟩,oF 93 9 21,oS 4 93 92]) .skip)) (.reg (some [(4,10),(4,12)]) [oM 94 17,oM 95 0,⟨some 96,.bin .add .str (.t 95) (.c (.str [47])),none⟩,oM 97 18,oC 98 bY 97,⟨some 99,.bin .add .str (.t 96) (.t 98),none⟩,⟨some 100,.bin .add .str (.t 99) (.c (.str [47])),none⟩,oM 101 2,oM 102 20,oA 103 1 101 102,oL 104 1 103,⟨some 105,.bin .add .str (.t 100) (.t 104),none⟩,aQ 106 14 21,⟨some 107,.build [(.str []),(.bool false),.nils,.nils,.nils,.nils,.nils,.nils,.nils,.nils,.nils,.nils,.nils,.nils,(.bool false)] [(0,(1,(.t 105))),(1,(14,(.t 106)))],none⟩,⟨some 108,.buildSl 15 1 (.agg [(.str []),(.bool false),.nils,.nils,.nils,.nils,.nils,.nils,.nils,.nils,.nils,.nils,.nils,.nils,(.bool false)]) [(0,(.t 107))],none⟩,zF 109 15 320 94 108,oM 17 109]))))) (cR [oM 62 20,bp 63 .add 62 1,oM 20 63])))))))) (cR [oM 51 18,bp 52 .add 51 1,oM 18 52])))
end Go.VL
end

section
set_option linter.unusedVariables false
set_option linter.unusedVariables false
set_option maxRecDepth 100000
namespace Go.VL
open Go.Lib
theorem zM (q:Rat):decide (df q=0)=decide (q=0):=by congr 1;exact propext G2
theorem He {i:Nat} (h:i<=1000):Sm 1 (((i:Nat):Int):Rat):=⟨fC (by rw [Nat.pow_one];show i<aE;unfold aE;omega),u0⟩
section
variable {P:Program} {G:Nat->Option (List AV)} {Q:bX->VS->Prop}
set_option maxHeartbeats 4000000 in
theorem MD {fn fc fF fp fd:FuncId} (nm:List UInt8) (l:List NX) (ins:List (List UInt8)) (N:Nat) (v:Q2) (hN0:N<=50) (hv:nd 1000 v) (hN:∀ i:Nat,i<=1000->VP P G fn [.int .i64 (i:Int)] (NV (((i:Nat):Int):Rat))) (hC:xp P G fc)
   (hF:∀ s∈ins,VP P G fF [dP l, .str s] (.int .i64 (dY l s))) (iI:∀ s∈ins, ¬ dY l s<0) (hP:CJ P G fp) (hD:∀ n:Nat,n<1000->VP P G fd [.int .i64 (n:Int)] (.str (decDigits n))) (qU:nm.length<=1000) (hl:∀ z∈l,NOk 2000 z) (yc:ins.length<=10)
   (hQ:∀ m q,999<=q->q<m->Q (.exit 0) ⟨[.str nm,dP l,strs ins, .top, .top, .int .i64 (N:Int)]++List.replicate 9 .top++[.ref [26] 0 0, .ref [31] 0 0,OL [q] 15 ((bH nm l v ins N).map NX.av), .int .i64 ((N+1:Nat):Int)]++List.replicate 29 .top++[.int .i64 ((N+1:Nat):Int), .int .i64 (N:Int), .bool false]++List.replicate 73 .top,((af.put (fun _=>none) [26] (some eB)).put [31] (some ⟨[V2 v],4,false⟩)).put [q] (OB 15 ((bH nm l v ins N).map NX.av)),m+3⟩) :
   VW P G [] (.loop (Vm fn fc fF fp fd)) Q ⟨[.str nm,dP l,strs ins, .top, .top, .int .i64 (N:Int)]++List.replicate 9 .top++[.ref [26] 0 0, .ref [31] 0 0,OL [999] 15 ((bH nm l v ins 0).map NX.av), .int .i64 ((0+1:Nat):Int)]++List.replicate 105 .top,((af.put (fun _=>none) [26] (some eB)).put [31] (some ⟨[V2 v],4,false⟩)).put [999] (OB 15 ((bH nm l v ins 0).map NX.av)),1000⟩:=by
 refine VW.dQ (α := Nat × Nat × Nat) (fun z=>⟨[.str nm,dP l,strs ins, .top, .top, .int .i64 (N:Int)]++List.replicate 9 .top++[.ref [26] 0 0, .ref [31] 0 0,OL [z.2.2] 15 ((bH nm l v ins z.1).map NX.av), .int .i64 ((z.1+1:Nat):Int)]++List.replicate 105 .top,((af.put (fun _=>none) [26] (some eB)).put [31] (some ⟨[V2 v],4,false⟩)).put [z.2.2] (OB 15 ((bH nm l v ins z.1).map NX.av)),z.2.1⟩)
   (fun z=>z.1<=N/\999<=z.2.2/\z.2.2<z.2.1/\1000<=z.2.1) (fun z=>N-z.1) (0,1000,999) ?_ ⟨Nat.zero_le _,by decide,by decide,by decide⟩ ?_
 . exact Wk.slots (by simp [Fg,List.replicate]) (Nat.le_refl _)
 rintro ⟨c,m,q⟩ ⟨hc,Kw,hq,hm⟩
 simp only [] at hc Kw hq hm
 have k1:26≠q:=by omega
 have k2:31≠q:=by omega
 by_cases hlt:c<N
 . have d4:decide (((c+1:Nat):Int)<=(N:Int))=true:=aw (by omega)
   have n1:=hN (c+1) (by omega)
   have sw:Sm 1 (((c+1:Nat):Int):Rat):=He (by omega)
   have s1:=hC v (((c+1:Nat):Int):Rat) (hv.mono (by omega)) (sw.mono (by omega))
   have Rc:nd 1001 (fS v (((c+1:Nat):Int):Rat)):=hv.scale sw
   have hD1:=hD (c+1) (by omega)
   have Vn:(bH nm l v ins c).length<=500:=by rw [p7];exact Nat.le_trans (Nat.mul_le_mul (by omega:c<=50) yc) (by decide)
   have Yn:=aI (c+1) (by omega)
   have ahL:26<m:=by omega
   have k3:26≠m+3+5:=by omega
   have k4:31≠m+3+5:=by omega
   have k5 : ¬ m=23 /\ ¬ m=18:=by omega
   have k6:q≠m+3+5:=by omega
   have k7:N-(c+1)<N-c:=by omega
   have key:=fun (Q':bX->VS->Prop) (mm:Nat) (h1:m+3+5<mm) (h2:q<mm) (h3:1000<=mm)=>MC (P:=P) (G:=G) (Q:=Q') (fF:=fF) (fp:=fp) (fd:=fd) nm l ins N (c+1) v (fS v (((c+1:Nat):Int):Rat)) (bH nm l v ins c) (m+3+5) q mm (sT nm l v (c+1)) (fun s=>rfl) hF iI hP hD1 qU hl yc Vn (by omega) Rc k3 k4 h1 Kw h2 k6 h3
   generalize hW:fS v (((c+1:Nat):Int):Rat)=w at *
   clear hN hC hF iI hP hD hl hQ
   repeat (first
     | simp (disch:=first | decide | exact rfl | with_reducible assumption | exact Nat.ne_of_lt (by repeat (first | with_reducible assumption | apply Nat.lt_add_right))) only [eG,SS,DD,Nat.reduceAdd,ao,cK,d4,cx]
     | with_reducible refine ah (by assumption) (by simp [aa.int]) ?_
     | with_reducible refine aj (by assumption) (by simp [aa.int]) ?_
     | with_reducible refine And.intro (a:=ab _ _) (by simp [ab,apart];try assumption) ?_
     | rw [ai (by repeat (first | with_reducible exact aZ | refine (bz (by first | with_reducible assumption | decide | exact Nat.ne_of_lt (by repeat (first | with_reducible assumption | apply Nat.lt_add_right)))).trans ?_)) (by exact rfl) (by exact rfl) (by exact rfl) (by exact rfl)]
     | rw [bQ (by exact rfl) (by exact rfl) (by exact rfl) (by exact rfl)]
     | rw [bR (by exact rfl) (by exact rfl) (by exact rfl) (by exact rfl) (by exact rfl) (by exact rfl)]
     | refine eC s1 (by repeat (first | with_reducible exact ahL | apply Nat.lt_add_right)) (by repeat (first | with_reducible exact aZ | refine (bz (by first | with_reducible assumption | decide | exact Nat.ne_of_lt (by repeat (first | with_reducible assumption | apply Nat.lt_add_right)))).trans ?_)) ?_
     | fail)
   simp only [aK]
   refine VW.wk (Wk.forget (by simp [Fg,List.replicate]) (dB (by repeat (first | with_reducible exact aZ | refine (bz (by first | with_reducible assumption | decide | exact Nat.ne_of_lt (by repeat (first | with_reducible assumption | apply Nat.lt_add_right)))).trans ?_)) (dB (by exact aZ.trans (by rfl)) (dB (by repeat (first | with_reducible exact aZ | refine (bz (by first | with_reducible assumption | decide | exact Nat.ne_of_lt (by repeat (first | with_reducible assumption | apply Nat.lt_add_right)))).trans ?_)) (dB (by repeat (first | with_reducible exact aZ | refine (bz (by first | with_reducible assumption | decide | exact Nat.ne_of_lt (by repeat (first | with_reducible assumption | apply Nat.lt_add_right)))).trans ?_)) oW)))) (Nat.le_add_right _ 1000)) (key _ _ (by omega) (by omega) (by omega) fun m' q' g1 g2 g3 g4 => ?_)
   have f2:26≠q':=by omega
   have f3:31≠q':=by omega
   have f4:999<=q'/\q'<m'+4+3/\1000<=m'+4+3:=by omega
   repeat (first
     | simp (disch:=first | decide | exact rfl | with_reducible assumption | exact Nat.ne_of_lt (by repeat (first | with_reducible assumption | apply Nat.lt_add_right))) only [SS,Nat.reduceAdd,Yn]
     | with_reducible refine ah (by assumption) (by simp [aa.int]) ?_
     | with_reducible refine aj (by assumption) (by simp [aa.int]) ?_
     | with_reducible refine And.intro (a:=ab _ _) (by simp [ab,apart];try assumption) ?_
     | rw [ai (by repeat (first | with_reducible exact aZ | refine (bz (by first | with_reducible assumption | decide | exact Nat.ne_of_lt (by repeat (first | with_reducible assumption | apply Nat.lt_add_right)))).trans ?_)) (by exact rfl) (by exact rfl) (by exact rfl) (by exact rfl)]
     | rw [bQ (by exact rfl) (by exact rfl) (by exact rfl) (by exact rfl)]
     | rw [bR (by exact rfl) (by exact rfl) (by exact rfl) (by exact rfl) (by exact rfl) (by exact rfl)]
     | fail)
   exact ⟨(c+1,_,q'),⟨hlt,f4.1,f4.2.1,f4.2.2⟩,k7,Wk.forget (by simp only [bH];simp [Fg]) (dB (by simp only [bH];exact aZ) (dB (by repeat (first | with_reducible exact aZ | refine (bz (by first | with_reducible assumption | decide | exact Nat.ne_of_lt (by repeat (first | with_reducible assumption | apply Nat.lt_add_right)))).trans ?_)) (dB (by repeat (first | with_reducible exact aZ | refine (bz (by first | with_reducible assumption | decide | exact Nat.ne_of_lt (by repeat (first | with_reducible assumption | apply Nat.lt_add_right)))).trans ?_)) oW))) (Nat.le_refl _)⟩
 . have hcc:c=N:=by omega
   subst hcc
   have d4:decide (((c+1:Nat):Int)<=(c:Int))=false:=ar (by omega)
   have KV:=hQ m q Kw hq
   clear hN hC hF iI hP hD hl hQ
   repeat (first
     | simp (disch:=first | decide | exact rfl | with_reducible assumption | exact Nat.ne_of_lt (by repeat (first | with_reducible assumption | apply Nat.lt_add_right))) only [SS,Nat.reduceAdd,d4]
     | with_reducible refine ah (by assumption) (by simp [au,ay,ax,aa.int,aa.bool,aa.str,aP,az,aC,aG,aV,bf,aD,aR,bT]) ?_
     | with_reducible refine aj (by assumption) (by simp [au,ay,ax,aa.int,aa.bool,aa.str,aP,az,aC,aG,aV,bf,aD,aR,bT]) ?_
     | with_reducible refine And.intro (a:=ab _ _) (by simp [ab,apart];try assumption) ?_
     | rw [ai (by repeat (first | with_reducible exact aZ | refine (bz (by first | with_reducible assumption | decide | exact Nat.ne_of_lt (by repeat (first | with_reducible assumption | apply Nat.lt_add_right)))).trans ?_)) (by exact rfl) (by exact rfl) (by exact rfl) (by exact rfl)]
     | rw [bQ (by exact rfl) (by exact rfl) (by exact rfl) (by exact rfl)]
     | rw [bR (by exact rfl) (by exact rfl) (by exact rfl) (by exact rfl) (by exact rfl) (by exact rfl)]
     | fail)
   exact KV
end
section
variable {P:Program} {G:Nat->Option (List AV)}
set_option maxHeartbeats 4000000 in
theorem Kk {f fi fs fm fn fc fF fp fd fa:FuncId} (h:Has P f (jg fi fs fm fn fc fF fp fd fa)) (nm:List UInt8) (l:List NX) (ins:List (List UInt8)) (x y:Rat) (n:Int) (D7 : -1000<=n/\n<=1000)
   (hI:VP P G fi [.str nm,dP l,strs ins] (.int .i64 (dw nm l ins))) (hS:∀ q,Sm 1000 q->VP P G fs [QV q] (.int .i64 (df q))) (hM:∀ v:Q2,VP P G fm [QV v.1,QV v.2] (V2 v)) (hN:∀ i:Nat,i<=1000->VP P G fn [.int .i64 (i:Int)] (NV (((i:Nat):Int):Rat)))
   (hC:xp P G fc) (hF:∀ s∈ins,VP P G fF [dP l, .str s] (.int .i64 (dY l s))) (hP:CJ P G fp) (hD:∀ n:Nat,n<1000->VP P G fd [.int .i64 (n:Int)] (.str (decDigits n)))
   (hA:∀ more:List NX,more.length<=1000000->l≠[]->more≠[]->VP P G fa [dP l,dP more] (if iE l more=0 then .tup [dP (l++more), .int .i64 0] else .tup [.nils, .int .i64 (iE l more)]))
   (qU:nm.length<=1000) (hl:∀ z∈l,NOk 2000 z) (hlen:l.length<=1000) (yc:ins.length<=10) (hx:Sm 1000 x) (hy:Sm 1000 y):VP P G f [.str nm,dP l,strs ins,QV x,QV y, .int .i64 n] (Sb nm l ins x y n):=by
 have ZH:=hS x hx
 have hsy:=hS y hy
 have qx:=zM x
 have qy:=zM y
 refine VP.has h ?_
 unfold Sb MB
 simp only [jg]
 by_cases hn:n<1∨50<n
 . rw [if_pos hn,if_neg (by decide)]
   rcases (by omega:n<1∨(¬ n<1/\50<n)) with h1 | ⟨h1,h2⟩
   . have d1:decide (n<1)=true:=aw h1
     repeat (first
       | simp (disch:=first | decide | exact rfl) only [SS,Nat.reduceAdd,ey,d1]
       | with_reducible refine ah (by assumption) (by simp [ax]) ?_
       | with_reducible refine aj (by assumption) (by simp [ax]) ?_
       | with_reducible refine And.intro (a:=ab _ _) (by simp [ab,apart]) ?_
       | with_reducible refine VW.aA 3 (VW.of ?_)
       | with_reducible refine bW.next _ (VW.of ?_)
       | rw [ai (by exact rfl) (by exact rfl) (by exact rfl) (by exact rfl) (by exact rfl)]
       | rw [bQ (by exact rfl) (by exact rfl) (by exact rfl) (by exact rfl)]
       | rw [bR (by exact rfl) (by exact rfl) (by exact rfl) (by exact rfl) (by exact rfl) (by exact rfl)]
       | fail)
     exact ak▸ae rfl (aa.tup (by simp [aP,aa.int]))
   . have d1:decide (n<1)=false:=ar h1
     have d2:decide (50<n)=true:=aw h2
     repeat (first
       | simp (disch:=first | decide | exact rfl) only [SS,Nat.reduceAdd,ey,d1,d2]
       | with_reducible refine ah (by assumption) (by simp [ax]) ?_
       | with_reducible refine aj (by assumption) (by simp [ax]) ?_
       | with_reducible refine And.intro (a:=ab _ _) (by simp [ab,apart]) ?_
       | with_reducible refine VW.aA 3 (VW.of ?_)
       | with_reducible refine bW.next _ (VW.of ?_)
       | rw [ai (by exact rfl) (by exact rfl) (by exact rfl) (by exact rfl) (by exact rfl)]
       | rw [bQ (by exact rfl) (by exact rfl) (by exact rfl) (by exact rfl)]
       | rw [bR (by exact rfl) (by exact rfl) (by exact rfl) (by exact rfl) (by exact rfl) (by exact rfl)]
       | fail)
     exact ak▸ae rfl (aa.tup (by simp [aP,aa.int]))
 have d1:decide (n<1)=false:=ar (by omega)
 have d2:decide (50<n)=false:=ar (by omega)
 rw [if_neg hn]
 by_cases p9:dw nm l ins=0
 case neg =>
   have d3:decide (dw nm l ins≠0)=true:=aw p9
   rw [if_pos p9,if_neg p9]
   repeat (first
     | simp (disch:=first | decide | exact rfl) only [SS,Nat.reduceAdd,ey,d1,d2,d3]
     | with_reducible refine ah (by assumption) (by simp [ax,aa.str,aD,aR]) ?_
     | with_reducible refine aj (by assumption) (by simp [ax]) ?_
     | with_reducible refine And.intro (a:=ab _ _) (by simp [ab,apart]) ?_
     | with_reducible refine VW.aA 3 (VW.of ?_)
     | with_reducible refine bW.next _ (VW.of ?_)
     | rw [ai (by exact rfl) (by exact rfl) (by exact rfl) (by exact rfl) (by exact rfl)]
     | rw [bQ (by exact rfl) (by exact rfl) (by exact rfl) (by exact rfl)]
     | rw [bR (by exact rfl) (by exact rfl) (by exact rfl) (by exact rfl) (by exact rfl) (by exact rfl)]
     | fail)
   exact ak▸ae rfl (aa.tup (by simp [aP,aa.int]))
 have d3:decide (dw nm l ins≠0)=false:=ar (by simpa using p9)
 rw [if_neg (show ¬ (dw nm l ins≠0) by simp [p9])]
 by_cases JS:x=0/\y=0
 . rw [decide_eq_true JS.1] at qx
   rw [decide_eq_true JS.2] at qy
   rw [if_pos JS,if_neg (by decide)]
   repeat (first
     | simp (disch:=first | decide | exact rfl) only [SS,Nat.reduceAdd,aq,ao,ey,cy,d1,d2,d3,qx,qy]
     | with_reducible refine ah (by assumption) (by simp [ax,aa.str,aD,aR]) ?_
     | with_reducible refine aj (by assumption) (by simp [ax]) ?_
     | with_reducible refine And.intro (a:=ab _ _) (by simp [ab,apart]) ?_
     | with_reducible refine VW.aA 3 (VW.of ?_)
     | with_reducible refine bW.next _ (VW.of ?_)
     | rw [ai (by exact rfl) (by exact rfl) (by exact rfl) (by exact rfl) (by exact rfl)]
     | rw [bQ (by exact rfl) (by exact rfl) (by exact rfl) (by exact rfl)]
     | rw [bR (by exact rfl) (by exact rfl) (by exact rfl) (by exact rfl) (by exact rfl) (by exact rfl)]
     | fail)
   exact ak▸ae rfl (aa.tup (by simp [aP,aa.int]))
 rw [if_neg JS]
 obtain ⟨ui,hne,iI⟩:=Bf p9
 obtain ⟨N,rfl⟩:∃ N:Nat,n=(N:Int):=⟨n.toNat,by omega⟩
 rw [Int.toNat_natCast]
 have Ku:l≠[]:=by
   rintro rfl
   cases ins with
   | nil=>exact hne rfl
   | cons s _=>exact iI s (by simp) (by simp [dY,Ab])
 have sr:=hM (x,y)
 simp only [] at sr
 have e0:iN [.int .i64 0] []=some [.int .i64 0]:=rfl
 have e1:((AV.cells (.agg [.int .i64 0])).all AV.one=true)=True:=by simp [AV.cells,AV.one]
 have key:∀ b1 b2:Bool,(b1,b2)=(decide (x=0),decide (y=0))->(b1=false∨(b1=true/\b2=false)):=by
   intro b1 b2 he
   simp only [Prod.mk.injEq] at he
   by_cases h1:x=0
   . right;exact ⟨by rw [he.1,decide_eq_true h1],by rw [he.2,decide_eq_false (fun h2=>JS ⟨h1,h2⟩)]⟩
   . left;rw [he.1,decide_eq_false h1]
 have hw:nd 1000 (x,y):=⟨hx,hy⟩
 rcases key _ _ rfl with h1 | ⟨h1,h2⟩
 all_goals
   rw [h1] at qx
   try rw [h2] at qy
   repeat (first
     | simp (disch:=first | decide | exact rfl) only [SS,Nat.reduceAdd,aq,ao,ey,cy,d1,d2,d3,qx,qy,cx,e0,e1]
     | with_reducible refine ah (by assumption) (by simp [ax,aa.str,aD,aR]) ?_
     | with_reducible refine aj (by assumption) (by simp [ax]) ?_
     | with_reducible refine And.intro (a:=ab _ _) (by simp [ab,apart]) ?_
     | rw [ai (by exact rfl) (by exact rfl) (by exact rfl) (by exact rfl) (by exact rfl)]
     | rw [bQ (by exact rfl) (by exact rfl) (by exact rfl) (by exact rfl)]
     | rw [bR (by exact rfl) (by exact rfl) (by exact rfl) (by exact rfl) (by exact rfl) (by exact rfl)]
     | fail)
   simp only [aK]
   refine VW.wk (Wk.forget (by simp [Fg,List.replicate,OL,bH]) (dB (by rfl) (dB (by rfl) (dB (by rfl) oW))) (by omega)) (MD (fn:=fn) (fc:=fc) (fF:=fF) (fp:=fp) (fd:=fd) nm l ins N (x,y) (by omega) hw hN hC hF iI hP hD qU hl yc fun m q Kw hq => ?_)
   have f2:26≠q:=by omega
   have hml:(bH nm l (x,y) ins N).length<=500:=by rw [p7];exact Nat.le_trans (Nat.mul_le_mul (by omega:N<=50) yc) (by decide)
   have Vo:(bH nm l (x,y) ins N).map NX.av≠[]:=by
     cases N with
     | zero=>omega
     | succ k=>simp [bH,hne]
   have Vp:=hA (bH nm l (x,y) ins N) (by omega) Ku (by simpa using Vo)
   have ld:∀ b:Option da,jl (af.put ((af.put (fun _=>none) [26] (some eB)).put [31] (some ⟨[V2 (x,y)],4,false⟩)) [q] b) false 1 (.ref [26] 0 0)=some { val := .int .i64 0,rd:=[[26]] }:=fun _=>by
     rw [eG f2,aq (by simp)];rfl
   by_cases h0:iE l (bH nm l (x,y) ins N)=0
   . rw [if_pos h0] at Vp ⊢
     clear hI hS hM hN hC hF hP hD hA hl iI key
     repeat (first
       | simp (disch:=first | decide | exact rfl | with_reducible assumption | exact Nat.ne_of_lt (by repeat (first | with_reducible assumption | apply Nat.lt_add_right))) only [SS,Nat.reduceAdd,ZZ,J2,g0,g1,ld]
       | with_reducible refine ah (by assumption) (by simp [aD]) ?_
       | with_reducible refine aj (by assumption) (by simp [aD]) ?_
       | with_reducible refine And.intro (a:=ab _ _) (by simp [ab,apart];try assumption) ?_
       | rw [ai (by repeat (first | with_reducible exact aZ | refine (bz (by first | with_reducible assumption | decide | exact Nat.ne_of_lt (by repeat (first | with_reducible assumption | apply Nat.lt_add_right)))).trans ?_)) (by exact rfl) (by exact rfl) (by exact rfl) (by exact rfl)]
       | rw [bQ (by exact rfl) (by exact rfl) (by exact rfl) (by exact rfl)]
       | rw [bR (by exact rfl) (by exact rfl) (by exact rfl) (by exact rfl) (by exact rfl) (by exact rfl)]
       | refine bB [([q],⟨(bH nm l (x,y) ins N).map NX.av,15,false⟩)] Vp (aF.cons (View.pure (aD l)) (aF.cons (CL (.inr (by simp [af.of])) (by intro a ha;obtain ⟨y,_,rfl⟩:=List.mem_map.1 ha;rfl) (zt _)) aF.nil)) (by simp [af.put,OB,Vo]) ?_
       | fail)
     exact ak▸ae rfl (aa.tup (by simp [aD,aa.int]))
   . rw [if_neg h0] at Vp ⊢
     clear hI hS hM hN hC hF hP hD hA hl iI key
     repeat (first
       | simp (disch:=first | decide | exact rfl | with_reducible assumption | exact Nat.ne_of_lt (by repeat (first | with_reducible assumption | apply Nat.lt_add_right))) only [SS,Nat.reduceAdd,ZZ,J2,g0,g1,ld]
       | with_reducible refine ah (by assumption) (by simp [aD]) ?_
       | with_reducible refine aj (by assumption) (by simp [aD]) ?_
       | with_reducible refine And.intro (a:=ab _ _) (by simp [ab,apart];try assumption) ?_
       | rw [ai (by repeat (first | with_reducible exact aZ | refine (bz (by first | with_reducible assumption | decide | exact Nat.ne_of_lt (by repeat (first | with_reducible assumption | apply Nat.lt_add_right)))).trans ?_)) (by exact rfl) (by exact rfl) (by exact rfl) (by exact rfl)]
       | rw [bQ (by exact rfl) (by exact rfl) (by exact rfl) (by exact rfl)]
       | rw [bR (by exact rfl) (by exact rfl) (by exact rfl) (by exact rfl) (by exact rfl) (by exact rfl)]
       | refine bB [([q],⟨(bH nm l (x,y) ins N).map NX.av,15,false⟩)] Vp (aF.cons (View.pure (aD l)) (aF.cons (CL (.inr (by simp [af.of])) (by intro a ha;obtain ⟨y,_,rfl⟩:=List.mem_map.1 ha;rfl) (zt _)) aF.nil)) (by simp [af.put,OB,Vo]) ?_
       | fail)
     exact ak▸ae rfl (aa.tup (by simp [aP,aa.int]))
end
end Go.VL
end

section
set_option linter.unusedVariables false
set_option linter.unusedVariables false
set_option maxRecDepth 100000
namespace Go.VL
open Go.Lib
section
variable {P:Program} {G:Nat->Option (List AV)}
theorem aex {s:List UInt8}:part false [AV.str s] 0 1=some (.str s):=rfl
theorem Yo {s:List UInt8}:((AV.str s).cells.all AV.one=true)=True:=by simp [AV.cells,AV.one]
theorem ahM {f:FuncId} {c:AV} (h:aa c):aa (.fn (.func f) [] [c]):=aa.fn (by simp) (by simpa using h)
theorem Yp {s:List UInt8}:aa (.ep [.str s] 0):=aa.ep (by simp [aa.str])
theorem Oq {f:FuncId} (h:Has P f oD) (x:NX) (nm:List UInt8):VP P G f [x.av, .ep [.str nm] 0] (.bool (x.name==nm)):=by
 refine VP.has h ?_
 simp only [oD]
 repeat (first
   | simp (disch:=first | decide | exact rfl) only [SS,Nat.reduceAdd,ao,kC,Av,aH,aex]
   | with_reducible refine ah (by assumption) (by simp [au,ay,ax,aa.int,aa.bool,aa.str,aP,az,aC,aG,aV,bf,aD,aR,bL,bT]) ?_
   | with_reducible refine aj (by assumption) (by simp [au,ay,ax,aa.int,aa.bool,aa.str,aP,az,aC,aG,aV,bf,aD,aR,bL,bT]) ?_
   | with_reducible refine And.intro (a:=ab _ _) (by simp [ab,apart]) ?_
   | with_reducible refine VW.aA 3 (VW.of ?_)
   | with_reducible refine bW.next _ (VW.of ?_)
   | rw [ai (by exact rfl) (by exact rfl) (by exact rfl) (by exact rfl) (by exact rfl)]
   | rw [bQ (by exact rfl) (by exact rfl) (by exact rfl) (by exact rfl)]
   | rw [bR (by exact rfl) (by exact rfl) (by exact rfl) (by exact rfl) (by exact rfl) (by exact rfl)]
   | fail)
 exact ak▸ae rfl (aa.bool _)
theorem iJ {f fw:FuncId} (h:Has P f dE) {a c:List AV} {l:List NX} {p:NX->Bool} (hw:∀ e∈l,VP P G fw (a++[e.av]++c) (.bool (p e)))
   (ha:∀ x∈a,aa x) (hc:∀ x∈c,aa x) (hl:l.length<=1000000):VP P G f [dP l, .fn (.func fw) a c] (.int .i64 (Ab (l.findIdx? p))):=by
 refine VP.has h ?_
 simp only [dE,SS,Nat.reduceAdd,aK]
 refine VW.scan l p (fun i=>[dP l, .fn (.func fw) a c, .top, .top, .top, .top, .top, .int .i64 l.length, .int .i64 i]++List.replicate 10 .top) (fun _=>none) 1000 (Wk.slots (by simp [Fg,List.replicate]) (by omega)) (fun i m x hx hlt hn d => ?_) (fun m hn d => ?_)
 . have hm:=List.mem_of_getElem? hx
   have hv:=hw x hm
   have Z2:∀ y∈a++[x.av]++c,aa y:=by
     intro y hy
     simp only [List.mem_append,List.mem_singleton] at hy
     rcases hy with (hy | rfl) | hy
     . exact ha y hy
     . exact bf _
     . exact hc y hy
   cases hb:p x<;>rw [hb] at hv<;>replace hv:=fun _:Unit=>hv
   . skip
     repeat (first
       | simp (disch:=first | decide | exact rfl) only [SS,Nat.reduceAdd,d,oV hx,aH,Vf,aI i (by omega)]
       | with_reducible refine ah (by assumption) (by simp [au,ay,ax,aa.int,aa.bool,aa.str,aP,az,aC,aG,aV,bf,aD,aR,bL,bT]) ?_
       | with_reducible refine aj (by assumption) (by simp [au,ay,ax,aa.int,aa.bool,aa.str,aP,az,aC,aG,aV,bf,aD,aR,bL,bT]) ?_
       | with_reducible refine And.intro (a:=ab _ _) (by simp [ab,apart]) ?_
       | with_reducible refine VW.aA 3 (VW.of ?_)
       | with_reducible refine bW.next _ (VW.of ?_)
       | rw [ai (by exact rfl) (by exact rfl) (by exact rfl) (by exact rfl) (by exact rfl)]
       | rw [bQ (by exact rfl) (by exact rfl) (by exact rfl) (by exact rfl)]
       | rw [bR (by exact rfl) (by exact rfl) (by exact rfl) (by exact rfl) (by exact rfl) (by exact rfl)]
       | refine ah (hv ()) Z2 ?_
       | fail)
     exact ⟨(i+1,_),⟨hlt,hn.succ hx hb⟩,by simp only [];omega,Wk.slots (by simp [Fg]) (Nat.le_refl _)⟩
   . skip
     repeat (first
       | simp (disch:=first | decide | exact rfl) only [SS,Nat.reduceAdd,d,oV hx,aH,Vf]
       | with_reducible refine ah (by assumption) (by simp [au,ay,ax,aa.int,aa.bool,aa.str,aP,az,aC,aG,aV,bf,aD,aR,bL,bT]) ?_
       | with_reducible refine aj (by assumption) (by simp [au,ay,ax,aa.int,aa.bool,aa.str,aP,az,aC,aG,aV,bf,aD,aR,bL,bT]) ?_
       | with_reducible refine And.intro (a:=ab _ _) (by simp [ab,apart]) ?_
       | with_reducible refine VW.aA 3 (VW.of ?_)
       | with_reducible refine bW.next _ (VW.of ?_)
       | rw [ai (by exact rfl) (by exact rfl) (by exact rfl) (by exact rfl) (by exact rfl)]
       | rw [bQ (by exact rfl) (by exact rfl) (by exact rfl) (by exact rfl)]
       | rw [bR (by exact rfl) (by exact rfl) (by exact rfl) (by exact rfl) (by exact rfl) (by exact rfl)]
       | refine ah (hv ()) Z2 ?_
       | fail)
     rw [qM hx hb hn]
     exact ak▸ae rfl (aa.int _ _)
 . skip
   repeat (first
     | simp (disch:=first | decide | exact rfl) only [SS,d]
     | with_reducible refine ah (by assumption) (by simp [au,ay,ax,aa.int,aa.bool,aa.str,aP,az,aC,aG,aV,bf,aD,aR,bL,bT]) ?_
     | with_reducible refine aj (by assumption) (by simp [au,ay,ax,aa.int,aa.bool,aa.str,aP,az,aC,aG,aV,bf,aD,aR,bL,bT]) ?_
     | with_reducible refine And.intro (a:=ab _ _) (by simp [ab,apart]) ?_
     | with_reducible refine VW.aA 3 (VW.of ?_)
     | with_reducible refine bW.next _ (VW.of ?_)
     | rw [ai (by exact rfl) (by exact rfl) (by exact rfl) (by exact rfl) (by exact rfl)]
     | rw [bQ (by exact rfl) (by exact rfl) (by exact rfl) (by exact rfl)]
     | rw [bR (by exact rfl) (by exact rfl) (by exact rfl) (by exact rfl) (by exact rfl) (by exact rfl)]
     | fail)
   rw [qL (fun j e hj=>hn j e (List.getElem?_eq_some_iff.1 hj).1 hj)]
   exact ak▸ae rfl (aa.int _ _)
theorem kJ {f fi fw:FuncId} (h:Has P f (dm fi)) {a c:List AV} {l:List NX} {p:NX->Bool} (hi:VP P G fi [dP l, .fn (.func fw) a c] (.int .i64 (Ab (l.findIdx? p)))) (Ik:aa (.fn (.func fw) a c)):VP P G f [dP l, .fn (.func fw) a c] (.bool (l.any p)):=by
 have e:decide (0<=Ab (l.findIdx? p))=l.any p:=by
   rw [<- List.findIdx?_isSome]
   cases l.findIdx? p<;>simp [Ab]
 replace hi:=fun _:Unit=>hi
 refine VP.has h ?_
 simp only [dm]
 repeat (first
   | simp (disch:=first | decide | exact rfl) only [SS,Nat.reduceAdd,e]
   | with_reducible refine ah (by assumption) (by simp [au,ay,ax,aa.int,aa.bool,aa.str,aP,az,aC,aG,aV,bf,aD,aR,bL,bT]) ?_
   | with_reducible refine aj (by assumption) (by simp [au,ay,ax,aa.int,aa.bool,aa.str,aP,az,aC,aG,aV,bf,aD,aR,bL,bT]) ?_
   | with_reducible refine And.intro (a:=ab _ _) (by simp [ab,apart]) ?_
   | with_reducible refine VW.aA 3 (VW.of ?_)
   | with_reducible refine bW.next _ (VW.of ?_)
   | rw [ai (by exact rfl) (by exact rfl) (by exact rfl) (by exact rfl) (by exact rfl)]
   | rw [bQ (by exact rfl) (by exact rfl) (by exact rfl) (by exact rfl)]
   | rw [bR (by exact rfl) (by exact rfl) (by exact rfl) (by exact rfl) (by exact rfl) (by exact rfl)]
   | refine ah (hi ()) (by intro x hx;simp at hx;rcases hx with rfl | rfl;exact aD l;exact Ik) ?_
   | fail)
 exact ak▸ae rfl (aa.bool _)
theorem Sd {f f1 fi:FuncId} (h:Has P f (qm f1 fi)) (l:List NX) (nm:List UInt8) (hi:VP P G fi [dP l, .fn (.func f1) [] [.ep [.str nm] 0]] (.int .i64 (dY l nm))):VP P G f [dP l, .str nm] (.int .i64 (dY l nm)):=by
 refine VP.has h ?_
 simp only [qm]
 repeat (first
   | simp (disch:=first | decide | exact rfl) only [SS,Nat.reduceAdd,J2,Yo]
   | with_reducible refine ah (by assumption) (by simp [aD]) ?_
   | with_reducible refine aj (by assumption) (by simp [aD]) ?_
   | with_reducible refine And.intro (a:=ab _ _) (by simp [ab,apart]) ?_
   | with_reducible refine VW.aA 3 (VW.of ?_)
   | with_reducible refine bW.next _ (VW.of ?_)
   | rw [ai (by exact rfl) (by exact rfl) (by exact rfl) (by exact rfl) (by exact rfl)]
   | rw [bQ (by exact rfl) (by exact rfl) (by exact rfl) (by exact rfl)]
   | rw [bR (by exact rfl) (by exact rfl) (by exact rfl) (by exact rfl) (by exact rfl) (by exact rfl)]
   | refine bB [([0],⟨[.str nm],1,false⟩)] hi (aF.cons (View.pure (aD l)) (aF.cons (View.fn aF.nil (aF.cons (View.ref (bk:=⟨[.str nm],1,false⟩) (by simp [af.of]) rfl (aF.pure (by simp [AV.cells,aa.str]))) aF.nil)) aF.nil)) (by simp [af.put,AV.size,AV.cells]) ?_
   | fail)
 exact ak▸ae rfl (aa.int _ _)
theorem Vq {f fi:FuncId} (h:Has P f (mr fi)) (l:List NX) (nm:List UInt8) (hi:VP P G fi [dP l, .str nm] (.int .i64 (dY l nm))) (hf : ¬ dY l nm<0):VP P G f [dP l, .str nm] (.tup [(eD l nm).av, .bool true]):=by
 obtain ⟨k,z,hk,hz,hzn,Z1⟩:=zu hf
 rw [hk] at hi
 rw [Z1]
 have d1:decide ((k:Int)<0)=false:=ar (by omega)
 refine VP.has h ?_
 simp only [mr]
 repeat (first
   | simp (disch:=first | decide | exact rfl) only [SS,Nat.reduceAdd,d1,oV hz,aH,Mu,gu]
   | with_reducible refine ah (by assumption) (by simp [aa.str,aD]) ?_
   | with_reducible refine aj (by assumption) (by simp [aa.str,aD]) ?_
   | with_reducible refine And.intro (a:=ab _ _) (by simp [ab,apart]) ?_
   | with_reducible refine VW.aA 3 (VW.of ?_)
   | with_reducible refine bW.next _ (VW.of ?_)
   | rw [ai (by exact rfl) (by exact rfl) (by exact rfl) (by exact rfl) (by exact rfl)]
   | rw [bQ (by exact rfl) (by exact rfl) (by exact rfl) (by exact rfl)]
   | rw [bR (by exact rfl) (by exact rfl) (by exact rfl) (by exact rfl) (by exact rfl) (by exact rfl)]
   | fail)
 refine ak▸ae (r := .tup [z.c.av, .bool true]) ?_ (aa.tup (by simp [aV,aa.bool]))
 simp (disch:=decide) only [RS,aY,a7,ao,oU]
theorem Se {f fi:FuncId} (h:Has P f (mr fi)) (l:List NX) (nm:List UInt8) (hi:VP P G fi [dP l, .str nm] (.int .i64 (dY l nm))) (hf:dY l nm<0):VP P G f [dP l, .str nm] (.tup [zC, .bool false]):=by
 have d1:decide (dY l nm<0)=true:=aw hf
 have e0:iN [.bool false, .nils, .nils, .nils, .nils, .nils, .nils, .nils, .nils, .nils, .nils, .nils, .nils, .bool false] []=some [.bool false, .nils, .nils, .nils, .nils, .nils, .nils, .nils, .nils, .nils, .nils, .nils, .nils, .bool false]:=rfl
 refine VP.has h ?_
 simp only [mr]
 repeat (first
   | simp (disch:=first | decide | exact rfl) only [SS,Nat.reduceAdd,d1,gu,e0]
   | with_reducible refine ah (by assumption) (by simp [aa.str,aD]) ?_
   | with_reducible refine aj (by assumption) (by simp [aa.str,aD]) ?_
   | with_reducible refine And.intro (a:=ab _ _) (by simp [ab,apart]) ?_
   | with_reducible refine VW.aA 3 (VW.of ?_)
   | with_reducible refine bW.next _ (VW.of ?_)
   | rw [ai (by exact rfl) (by exact rfl) (by exact rfl) (by exact rfl) (by exact rfl)]
   | rw [bQ (by exact rfl) (by exact rfl) (by exact rfl) (by exact rfl)]
   | rw [bR (by exact rfl) (by exact rfl) (by exact rfl) (by exact rfl) (by exact rfl) (by exact rfl)]
   | fail)
 refine ak▸ae (r := .tup [zC, .bool false]) ?_ (aa.tup (by simp [zC,aa.agg,aa.bool,aP]))
 simp (disch:=decide) only [RS,aY,a7,ao];rfl
end
end Go.VL
end

section
set_option linter.unusedVariables false
set_option linter.unusedVariables false
set_option maxRecDepth 100000
namespace Go.VL
open Go.Lib
theorem H0 {l:List (List UInt8)} {h:Nat} (hh:h<=l.length):gP 1 (strs l) none (some (.int .i64 (h:Int))) none=some (strs (l.take h)):=by
 simp [strs,gP,gO,kN,hh,List.map_take]
section
variable {P:Program} {G:Nat->Option (List AV)}
theorem Sf {f:FuncId} (h:Has P f gi) (l:List (List UInt8)) (s:List UInt8) (hl:l.length<=1000000):VP P G f [strs l, .str s] (.int .i64 (Ab (l.findIdx? fun x=>s==x))):=by
 refine VP.has h ?_
 simp only [gi,SS,Nat.reduceAdd,gH,aK]
 refine VW.scan l (fun x=>s==x) (fun i=>[strs l, .str s, .top, .top, .top, .top, .top, .int .i64 l.length, .int .i64 i]++List.replicate 10 .top) (fun _=>none) 1000 (Wk.slots (by simp [Fg,List.replicate]) (by omega)) (fun i m x hx hlt hn d => ?_) (fun m hn d => ?_)
 . cases hb:s==x
   . skip
     repeat (first
       | simp (disch:=first | decide | exact rfl) only [SS,Nat.reduceAdd,d,nI hx,vk,aH,hb,aI i (by omega)]
       | with_reducible refine ah (by assumption) (by simp [au,ay,ax,aa.int,aa.bool,aa.str,aP,az,aC,aG,aV,bf,aD,aR,bL,bT]) ?_
       | with_reducible refine aj (by assumption) (by simp [au,ay,ax,aa.int,aa.bool,aa.str,aP,az,aC,aG,aV,bf,aD,aR,bL,bT]) ?_
       | with_reducible refine And.intro (a:=ab _ _) (by simp [ab,apart]) ?_
       | with_reducible refine VW.aA 3 (VW.of ?_)
       | with_reducible refine bW.next _ (VW.of ?_)
       | rw [ai (by exact rfl) (by exact rfl) (by exact rfl) (by exact rfl) (by exact rfl)]
       | rw [bQ (by exact rfl) (by exact rfl) (by exact rfl) (by exact rfl)]
       | rw [bR (by exact rfl) (by exact rfl) (by exact rfl) (by exact rfl) (by exact rfl) (by exact rfl)]
       | fail)
     exact ⟨(i+1,_),⟨hlt,hn.succ hx hb⟩,by simp only [];omega,Wk.slots (by simp [Fg]) (Nat.le_refl _)⟩
   . skip
     repeat (first
       | simp (disch:=first | decide | exact rfl) only [SS,Nat.reduceAdd,d,nI hx,vk,aH,hb]
       | with_reducible refine ah (by assumption) (by simp [au,ay,ax,aa.int,aa.bool,aa.str,aP,az,aC,aG,aV,bf,aD,aR,bL,bT]) ?_
       | with_reducible refine aj (by assumption) (by simp [au,ay,ax,aa.int,aa.bool,aa.str,aP,az,aC,aG,aV,bf,aD,aR,bL,bT]) ?_
       | with_reducible refine And.intro (a:=ab _ _) (by simp [ab,apart]) ?_
       | with_reducible refine VW.aA 3 (VW.of ?_)
       | with_reducible refine bW.next _ (VW.of ?_)
       | rw [ai (by exact rfl) (by exact rfl) (by exact rfl) (by exact rfl) (by exact rfl)]
       | rw [bQ (by exact rfl) (by exact rfl) (by exact rfl) (by exact rfl)]
       | rw [bR (by exact rfl) (by exact rfl) (by exact rfl) (by exact rfl) (by exact rfl) (by exact rfl)]
       | fail)
     rw [qM hx hb hn]
     exact ak▸ae rfl (aa.int _ _)
 . skip
   repeat (first
     | simp (disch:=first | decide | exact rfl) only [SS,d]
     | with_reducible refine ah (by assumption) (by simp [au,ay,ax,aa.int,aa.bool,aa.str,aP,az,aC,aG,aV,bf,aD,aR,bL,bT]) ?_
     | with_reducible refine aj (by assumption) (by simp [au,ay,ax,aa.int,aa.bool,aa.str,aP,az,aC,aG,aV,bf,aD,aR,bL,bT]) ?_
     | with_reducible refine And.intro (a:=ab _ _) (by simp [ab,apart]) ?_
     | with_reducible refine VW.aA 3 (VW.of ?_)
     | with_reducible refine bW.next _ (VW.of ?_)
     | rw [ai (by exact rfl) (by exact rfl) (by exact rfl) (by exact rfl) (by exact rfl)]
     | rw [bQ (by exact rfl) (by exact rfl) (by exact rfl) (by exact rfl)]
     | rw [bR (by exact rfl) (by exact rfl) (by exact rfl) (by exact rfl) (by exact rfl) (by exact rfl)]
     | fail)
   rw [qL (fun j e hj=>hn j e (List.getElem?_eq_some_iff.1 hj).1 hj)]
   exact ak▸ae rfl (aa.int _ _)
theorem Kl {f fi:FuncId} (h:Has P f (e6 fi)) (l:List (List UInt8)) (s:List UInt8) (hi:VP P G fi [strs l, .str s] (.int .i64 (Ab (l.findIdx? fun x=>s==x)))):VP P G f [strs l, .str s] (.bool (l.any fun x=>s==x)):=by
 have e:decide (0<=Ab (l.findIdx? fun x=>s==x))=l.any fun x=>s==x:=by
   rw [<- List.findIdx?_isSome]
   cases l.findIdx? fun x=>s==x<;>simp [Ab]
 refine VP.has h ?_
 simp only [e6]
 repeat (first
   | simp (disch:=first | decide | exact rfl) only [SS,Nat.reduceAdd,e]
   | with_reducible refine ah (by assumption) (by simp [aa.str,aR]) ?_
   | with_reducible refine aj (by assumption) (by simp [aa.str,aR]) ?_
   | with_reducible refine And.intro (a:=ab _ _) (by simp [ab,apart]) ?_
   | with_reducible refine VW.aA 3 (VW.of ?_)
   | with_reducible refine bW.next _ (VW.of ?_)
   | rw [ai (by exact rfl) (by exact rfl) (by exact rfl) (by exact rfl) (by exact rfl)]
   | rw [bQ (by exact rfl) (by exact rfl) (by exact rfl) (by exact rfl)]
   | rw [bR (by exact rfl) (by exact rfl) (by exact rfl) (by exact rfl) (by exact rfl) (by exact rfl)]
   | fail)
 exact ak▸ae rfl (aa.bool _)
open Classical in
theorem ME {f fc:FuncId} (h:Has P f (nA fc)) (l:List (List UInt8)) (hl:l.length<=1000000) (hc:∀ (i:Nat) s,l[i]? = some s->VP P G fc [strs (l.take i), .str s] (.bool ((l.take i).any fun x=>s==x))):VP P G f [strs l] (.bool (decide (HZ l l.length))):=by
 refine VP.has h ?_
 simp only [nA,SS,Nat.reduceAdd,gH,aK]
 refine VW.dQ (α := Nat × Nat) (fun y=>⟨[strs l, .top, .top, .top, .top,strs l, .int .i64 l.length, .int .i64 (y.1:Nat)]++List.replicate 10 .top,fun _=>none,y.2⟩) (fun y=>y.1<=l.length /\ ¬ HZ l y.1) (fun y=>l.length-y.1) (0,1000) ?_ ⟨Nat.zero_le _,fun ⟨j,k,_,_,h,_⟩=>by simp only [] at h;omega⟩ ?_
 . exact Wk.slots (by simp [Fg,List.replicate]) (by simp only [];omega)
 rintro ⟨i,n⟩ ⟨hi,hd⟩
 simp only [] at hi hd
 by_cases hlt:i<l.length
 . obtain ⟨x,hx⟩:∃ x,l[i]? = some x:=⟨l[i],by simp [hlt]⟩
   have d:decide ((i:Int)<(l.length:Int))=true:=aw (by omega)
   have hv:=hc i x hx
   have hw:=aI i (by omega)
   have hsl:=H0 (l:=l) (h:=i) hi
   cases hb:(l.take i).any fun y=>x==y<;>rw [hb] at hv
   . skip
     repeat (first
       | simp (disch:=first | decide | exact rfl) only [SS,Nat.reduceAdd,d,nI hx,vk,aH,hsl,hw]
       | with_reducible refine ah (by assumption) (by simp [aa.str,aR]) ?_
       | with_reducible refine aj (by assumption) (by simp [aa.str,aR]) ?_
       | with_reducible refine And.intro (a:=ab _ _) (by simp [ab,apart]) ?_
       | with_reducible refine VW.aA 3 (VW.of ?_)
       | with_reducible refine bW.next _ (VW.of ?_)
       | rw [ai (by exact rfl) (by exact rfl) (by exact rfl) (by exact rfl) (by exact rfl)]
       | rw [bQ (by exact rfl) (by exact rfl) (by exact rfl) (by exact rfl)]
       | rw [bR (by exact rfl) (by exact rfl) (by exact rfl) (by exact rfl) (by exact rfl) (by exact rfl)]
       | fail)
     refine ⟨(i+1,_),⟨hlt,Jf hx hd fun j hj e => ?_⟩,by simp only [];omega,Wk.slots (by simp [Fg]) (Nat.le_refl _)⟩
     have:((l.take i).any fun y=>x==y)=true:=List.any_eq_true.2 ⟨x,List.mem_of_getElem? (by rw [List.getElem?_take_of_lt hj];exact e),by simp⟩
     rw [this] at hb;cases hb
   . skip
     repeat (first
       | simp (disch:=first | decide | exact rfl) only [SS,Nat.reduceAdd,d,nI hx,vk,aH,hsl]
       | with_reducible refine ah (by assumption) (by simp [aa.str,aR]) ?_
       | with_reducible refine aj (by assumption) (by simp [aa.str,aR]) ?_
       | with_reducible refine And.intro (a:=ab _ _) (by simp [ab,apart]) ?_
       | with_reducible refine VW.aA 3 (VW.of ?_)
       | with_reducible refine bW.next _ (VW.of ?_)
       | rw [ai (by exact rfl) (by exact rfl) (by exact rfl) (by exact rfl) (by exact rfl)]
       | rw [bQ (by exact rfl) (by exact rfl) (by exact rfl) (by exact rfl)]
       | rw [bR (by exact rfl) (by exact rfl) (by exact rfl) (by exact rfl) (by exact rfl) (by exact rfl)]
       | fail)
     obtain ⟨y,hy,hyx⟩:=List.any_eq_true.1 hb
     obtain ⟨j,hj⟩:=List.getElem?_of_mem hy
     have TZ:j<i:=by have:=(List.getElem?_eq_some_iff.1 hj).1;simp at this;omega
     rw [List.getElem?_take_of_lt TZ] at hj
     have ahN:x=y:=by simpa using hyx
     rw [decide_eq_true (show HZ l l.length from ⟨j,i,x,TZ,hlt,by rw [hj,ahN],hx⟩)]
     exact ak▸ae rfl (aa.bool _)
 . have d:decide ((i:Int)<(l.length:Int))=false:=ar (by omega)
   have Vg:i=l.length:=by omega
   rw [Vg] at hd
   rw [decide_eq_false hd]
   repeat (first
     | simp (disch:=first | decide | exact rfl) only [SS,d]
     | with_reducible refine ah (by assumption) (by simp [au,ay,ax,aa.int,aa.bool,aa.str,aP,az,aC,aG,aV,bf,aD,aR,bL,bT]) ?_
     | with_reducible refine aj (by assumption) (by simp [au,ay,ax,aa.int,aa.bool,aa.str,aP,az,aC,aG,aV,bf,aD,aR,bL,bT]) ?_
     | with_reducible refine And.intro (a:=ab _ _) (by simp [ab,apart]) ?_
     | with_reducible refine VW.aA 3 (VW.of ?_)
     | with_reducible refine bW.next _ (VW.of ?_)
     | rw [ai (by exact rfl) (by exact rfl) (by exact rfl) (by exact rfl) (by exact rfl)]
     | rw [bQ (by exact rfl) (by exact rfl) (by exact rfl) (by exact rfl)]
     | rw [bR (by exact rfl) (by exact rfl) (by exact rfl) (by exact rfl) (by exact rfl) (by exact rfl)]
     | fail)
   exact ak▸ae rfl (aa.bool _)
end
end Go.VL
end
