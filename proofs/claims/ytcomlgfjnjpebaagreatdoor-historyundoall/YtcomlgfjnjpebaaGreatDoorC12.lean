/- For the claim of HistoryUndoAll: parts CG16, PLX, CG17, CG19, CG18, PLY, PLZ, CG20, CG21, CG22, CG23, CG24, HOJ, VL35, OXH, OXO, VL30. -/
import Derived.Test.YtcomlgfjnjpebaaGreatDoorC11
import Derived.Test.YtcomlgfjnjpebaaGreatDoorC10
import Derived.Test.YtcomlgfjnjpebaaGreatDoorC09
import Derived.Deep.Slices
import Derived.Test.YtcomlgfjnjpebaaGreatDoorProg
import Derived.KernelRfl
import Derived.OpenShut
import Derived.ProofKit
import Derived.Test.YtcomlgfjnjpebaaGreatDoorC03
set_option linter.unusedSimpArgs false
set_option linter.unusedVariables false
section
set_option linter.unusedVariables false
set_option linter.unusedVariables false
namespace Go.VL
section
variable {P:Program} {G:Nat->Option (List AV)} {π : Id} {base:Nat} {Q:cD->VS->Prop} {n:Nat} {d:Option Nat} {os:List bp} {i:Nat} {t:List AV} {σ : aa}
theorem rn {f:FuncId} {l:List FX} {id:Id} {tt:Bool} {y r:AV} (h:VP P G f [dr l,y] r) (hy:af y) (hf:b7 r) (hσ : σ id=some ⟨l.map FX.av,5,false⟩) (k:vs P G π base Q n os (i+1) (fK t d r) σ):pT P G π base Q n d os i t σ f [.osl id 5 0 l.length tt,y] :=
 iG [(id,⟨l.map FX.av,5,false⟩)] h (aW.cons (dU (by simp [aa.of])) (aW.cons (View.pure hy) .nil)) hf (by simpa using hσ) k
theorem wG {f:FuncId} {y r:AV} (h:VP P G f [dr [],y] r) (hy:af y) (hf:b7 r) (k:vs P G π base Q n os (i+1) (fK t d r) σ):pT P G π base Q n d os i t σ f [.tsl 5 [],y] :=
 iG [] h (aW.cons (View.PS 5) (aW.cons (View.pure hy) .nil)) hf (by simp) k
end
noncomputable def BJ (hid:Id) (ls:List (List FX)) (now:Nat) (l:List FX) (X:FX):Int × List (Id × Option dC) :=
 if X.valid=false then (1,[]) else if dh l X.name<0 then (4,[]) else if pL (l.set (dh l X.name).toNat X)=true then (0,DZ hid ls now l (l.set (dh l X.name).toNat X)) else (4,[])
noncomputable def JC (hid:Id) (ls:List (List FX)) (now:Nat) (l:List FX) (nm:List UInt8) (on:Bool):Int × List (Id × Option dC) :=
 if dh l nm<0 then (4,[]) else (0,DZ hid ls now l (l.set (dh l nm).toNat ((l.getD (dh l nm).toNat ⟨[],0,[],[],false⟩).bM on)))
theorem ti (nm:List UInt8):dh [] nm = -1:=rfl
theorem zJ {bc:FX->Prop} {l:List FX} {i:Nat} {X:FX} (hg:∀ Y∈l,bc Y) (hX:bc X):∀ Y∈l.set i X,bc Y:=by
 intro Y hY
 rcases List.mem_or_eq_of_mem_set hY with h | h
 . exact hg Y h
 . rw [h];exact hX
section
variable {P:Program} {G:Nat->Option (List AV)} {bc:FX->Prop} {f fp fv ff fc z8 fs ym:FuncId}
set_option maxHeartbeats 4000000 in
theorem SH (h:Has P f (jZ fv fp fc ff z8 fs ym)) (H:HH P G bc fp fv ff fc z8 fs ym) {hid:Id} {ls:List (List FX)} {now:Nat} {l:List FX} (hl:ls[now]? = some l) (xN:ls.length<=1000)
   (hlen:l.length<=200) (hg:∀ X∈l,bc X) (X:FX) (hX:bc X) (p:Id) (qR : ¬ p <:+ hid) :
   aB P G f [.ref hid 0 0,X.av] p [(hid,e9 ls now)] { val := .int .i64 (BJ hid ls now l X).1,rd:=[hid],up:=(BJ hid ls now l X).2 }:=by
 unfold BJ
 have hne:∀ q:Id,q++p≠hid:=fun q e=>qR ⟨q,e⟩
 have n0:(0::p)≠hid:=hne [0]
 have n57:(5::7::p)≠hid:=hne [5,7]
 have n05:(0::p)≠5::7::p:=by simp
 have WC:af X.av:=FX.pure X
 refine aB.has h ?_
 simp only [jZ,SS,Nat.reduceAdd,FX.one,ae,FX.whole]
 refine aj (H.valid X hX) (by simp [WC]) ?_
 cases hval:X.valid
 . rw [if_pos rfl]
   simp only [SS,Nat.reduceAdd]
   exact aS▸aA rfl (gb (up:=[]) (by simp) (by simp [aa.put,n0.symm,bC]))
 rw [if_neg (by decide)]
 simp only [SS,Nat.reduceAdd]
 refine ⟨[(hid,e9 ls now)],_,jL H.present hl _,by simp [aa.put,n0.symm,bC],by simp, ?_⟩
 simp only [SS,Nat.reduceAdd]
 by_cases h0:l=[]
 . subst h0
   refine aj (tf H.cloneL) (by simp [de]) ?_
   simp only [SS,Nat.reduceAdd,ae,FX.c0,aa.app]
   refine wG (H.find [] X.name (by simp) hg) (af.str _) (b7.int _ _) ?_
   have d0:decide ((-1:Int)<0)=true:=rfl
   rw [if_pos (show dh [] X.name<0 from by rw [ti];decide)]
   simp only [ti,SS,Nat.reduceAdd,d0]
   exact aS▸aA rfl (gb (up:=[]) (by simp) (by simp [aa.put,n0.symm,bC]))
 refine ⟨[],_,th H.cloneL h0 (by omega) _,by simp,by simp, ?_⟩
 simp only [SS,Nat.reduceAdd]
 rw [ai n05,ae,FX.c0]
 simp only [SS,Nat.reduceAdd]
 refine rn (H.find l X.name (by omega) hg) (af.str _) (b7.int _ _) (by simp [aa.put]) ?_
 simp only [SS,Nat.reduceAdd]
 by_cases h3:dh l X.name<0
 . rw [if_pos h3,ao h3]
   simp only [SS,Nat.reduceAdd]
   exact aS▸aA rfl (gb (up:=[]) (by simp) (by simp [aa.put,n0.symm,n57.symm,bC]))
 rw [if_neg h3,ak h3]
 obtain ⟨i,hi,hlt⟩:=jz h3
 rw [hi,Int.toNat_natCast]
 obtain ⟨Y,hY⟩:∃ Y,l[i]? = some Y:=⟨_,List.getElem?_eq_getElem hlt⟩
 have Ew:(l.map FX.av)[i]? = some Y.av:=by rw [List.getElem?_map,hY];rfl
 have G5:∀ Z∈l.set i X,bc Z:=zJ hg hX
 have Cy:(l.set i X).length=l.length:=List.length_set
 simp only [SS,Nat.reduceAdd]
 rw [ai n05,ae,FX.whole]
 simp only [SS,Nat.reduceAdd]
 refine aj (H.clone X hX) (by simp [WC]) ?_
 simp only [SS,Nat.reduceAdd,lE hlt]
 rw [uD (k:=5) (els:=l.map FX.av) (x:=Y.av) (y:=X.av) (by simp [aa.put]) Ew rfl rfl (of_eq_true (FX.one _)) rfl,map_set]
 simp only [SS,Nat.reduceAdd]
 rw [<- Cy]
 refine eH (H.sat _ (by omega) G5) (b7.bool _) (by simp [aa.put]) ?_
 cases hB:pL (l.set i X)
 . simp only [SS,Nat.reduceAdd]
   exact aS▸aA rfl (gb (up:=[]) (by simp) (by simp [aa.put,n0.symm,n57.symm,bC]))
 . simp only [SS,Nat.reduceAdd]
   refine kz (id:=5::7::p) (bk:=⟨(l.set i X).map FX.av,5,false⟩) (H.change hid ls now l (l.set i X) _ hl xN (by omega) (by omega) hg G5 (fun q=>hne [q,_])) (dU (l:=l.set i X) (by simp [aa.of])) n57 wV (by simp [aa.put]) (by simp [aa.put,n0.symm,n57.symm,bC]) ?_
   simp only [SS,Nat.reduceAdd]
   exact aS▸aA rfl (gb qA (by simp [aa.put,aa.app,rC,n0.symm,n57.symm,bC]))
set_option maxHeartbeats 4000000 in
theorem Vk (h:Has P f (hJ fp fc ff ym)) (H:HH P G bc fp fv ff fc z8 fs ym) {hid:Id} {ls:List (List FX)} {now:Nat} {l:List FX} (hl:ls[now]? = some l) (xN:ls.length<=1000)
   (hlen:l.length<=200) (hg:∀ X∈l,bc X) (hgs:∀ X∈l,∀ b,bc (X.bM b)) (nm:List UInt8) (on:Bool) (p:Id) (qR : ¬ p <:+ hid) :
   aB P G f [.ref hid 0 0, .str nm, .bool on] p [(hid,e9 ls now)] { val := .int .i64 (JC hid ls now l nm on).1,rd:=[hid],up:=(JC hid ls now l nm on).2 }:=by
 unfold JC
 have hne:∀ q:Id,q++p≠hid:=fun q e=>qR ⟨q,e⟩
 have G6:(5::3::p)≠hid:=hne [5,3]
 refine aB.has h ?_
 simp only [hJ,SS,Nat.reduceAdd]
 refine ⟨[(hid,e9 ls now)],_,jL H.present hl _,by simp [bC],by simp, ?_⟩
 simp only [SS,Nat.reduceAdd]
 by_cases h0:l=[]
 . subst h0
   refine aj (tf H.cloneL) (by simp [de]) ?_
   simp only [SS,Nat.reduceAdd]
   refine wG (H.find [] nm (by simp) hg) (af.str _) (b7.int _ _) ?_
   have d0:decide ((-1:Int)<0)=true:=rfl
   rw [if_pos (show dh [] nm<0 from by rw [ti];decide)]
   simp only [ti,SS,Nat.reduceAdd,d0]
   exact aS▸aA rfl (gb (up:=[]) (by simp) bC)
 refine ⟨[],_,th H.cloneL h0 (by omega) _,by simp,by simp, ?_⟩
 simp only [SS,Nat.reduceAdd]
 refine rn (H.find l nm (by omega) hg) (af.str _) (b7.int _ _) (by simp [aa.put]) ?_
 simp only [SS,Nat.reduceAdd]
 by_cases h3:dh l nm<0
 . rw [if_pos h3,ao h3]
   simp only [SS,Nat.reduceAdd]
   exact aS▸aA rfl (gb (up:=[]) (by simp) (by simp [aa.put,G6.symm,bC]))
 rw [if_neg h3,ak h3]
 obtain ⟨i,hi,hlt⟩:=jz h3
 rw [hi,Int.toNat_natCast]
 obtain ⟨Y,hY⟩:∃ Y,l[i]? = some Y:=⟨_,List.getElem?_eq_getElem hlt⟩
 have D6:l.getD i ⟨[],0,[],[],false⟩=Y:=by rw [List.getD_eq_getElem?_getD,hY];rfl
 rw [D6]
 have Ew:(l.map FX.av)[i]? = some Y.av:=by rw [List.getElem?_map,hY];rfl
 have G5:∀ Z∈l.set i (Y.bM on),bc Z:=zJ hg (hgs Y (List.mem_of_getElem? hY) on)
 have Cy:(l.set i (Y.bM on)).length=l.length:=List.length_set
 simp only [SS,Nat.reduceAdd,lE hlt]
 rw [cA (n:=1) (v := .bool on) (els:=l.map FX.av) (el:=Y.av) (k:=5) (by simp [aa.put]) Ew rfl (show 4+1<=5 by decide) rfl,show Y.av.upd 4 (AV.bool on).cells=(Y.bM on).av from rfl,map_set]
 simp only [SS,Nat.reduceAdd]
 rw [<- Cy]
 refine kz (id:=5::3::p) (bk:=⟨(l.set i (Y.bM on)).map FX.av,5,false⟩) (H.change hid ls now l (l.set i (Y.bM on)) _ hl xN (by omega) (by omega) hg G5 (fun q=>hne [q,_])) (dU (l:=l.set i (Y.bM on)) (by simp [aa.of])) G6 wV (by simp [aa.put]) (by simp [aa.put,G6.symm,bC]) ?_
 simp only [SS,Nat.reduceAdd]
 exact aS▸aA rfl (gb qA (by simp [aa.put,aa.app,rC,G6.symm,bC]))
theorem D0 (h:Has P f eS) {hid:Id} {ls:List (List FX)} {now:Nat} (hb:now<=1000000) (p:Id) :
   aB P G f [.ref hid 0 0] p [(hid,e9 ls now)] { val := .bool (decide (now≠0)),rd:=[hid],up:=if now=0 then [] else [(hid,some (e9 ls (now-1)))] }:=by
 have e1:∀ o,gh (aa.of [(hid,e9 ls now)]) false 1 (.ref hid 0 o)=(part false (bf ls now).cells o 1).map fun v=>{ val:=v,rd:=[hid] }:=fun o=>M6 bC
 refine aB.has h ?_
 simp only [eS,SS,Nat.reduceAdd,e1,jA]
 by_cases h0:now=0
 . rw [ao (by omega:(now:Int)=0),if_pos h0,ak (by omega : ¬ now≠0)]
   simp only [SS,Nat.reduceAdd]
   exact aS▸aA rfl fun i => .inr rfl
 . rw [ak (by omega : ¬ (now:Int)=0),if_neg h0,ao (by omega:now≠0)]
   simp only [SS,Nat.reduceAdd,e1,jA,oi h0 hb]
   rw [fN (x:=bf ls now) (y:=bf ls (now-1)) (k:=2) (σ := aa.of [(hid,e9 ls now)]) (id:=hid) (bC (b:=e9 ls now)) rfl rfl (show 1+1<=2 by decide) rfl]
   simp only [SS,Nat.reduceAdd]
   exact aS▸aA rfl fun i => .inr rfl
theorem D1 (h:Has P f gE) {hid:Id} {ls:List (List FX)} {now:Nat} (hb:ls.length<=1000000) (hlt:now<ls.length) (p:Id) :
   aB P G f [.ref hid 0 0] p [(hid,e9 ls now)] { val := .bool (decide (now+1≠ls.length)),rd:=[hid],up:=if now+1=ls.length then [] else [(hid,some (e9 ls (now+1)))] }:=by
 have e1:∀ o,gh (aa.of [(hid,e9 ls now)]) false 1 (.ref hid 0 o)=(part false (bf ls now).cells o 1).map fun v=>{ val:=v,rd:=[hid] }:=fun o=>M6 bC
 refine aB.has h ?_
 simp only [gE,SS,DD,Nat.reduceAdd,e1,jA,lG,wE,oi (show ls.length≠0 by omega) hb]
 refine ⟨by simp [ar], ?_⟩
 by_cases h0:now+1=ls.length
 . rw [ao (by omega:(now:Int)=((ls.length-1:Nat):Int)),if_pos h0,ak (by omega : ¬ now+1≠ls.length)]
   simp only [SS,Nat.reduceAdd]
   exact aS▸aA rfl fun i => .inr rfl
 . rw [ak (by omega : ¬ (now:Int)=((ls.length-1:Nat):Int)),if_neg h0,ao (by omega:now+1≠ls.length)]
   simp only [SS,Nat.reduceAdd,e1,jA,aq now (by omega)]
   rw [fN (x:=bf ls now) (y:=bf ls (now+1)) (k:=2) (σ := aa.of [(hid,e9 ls now)]) (id:=hid) (bC (b:=e9 ls now)) rfl rfl (show 1+1<=2 by decide) rfl]
   simp only [SS,Nat.reduceAdd]
   exact aS▸aA rfl fun i => .inr rfl
end
end Go.VL
end

section
set_option linter.unusedVariables false
set_option linter.unusedVariables false
namespace Go.VL
theorem D2 {l:List FX} {nm:List UInt8}:dh l nm<0↔nm ∉ bZ l:=by
 unfold dh bZ
 cases h:l.findIdx? fun X=>X.name==nm with
 | none =>
   have:=List.findIdx?_eq_none_iff.1 h
   constructor
   . intro _ hm
     obtain ⟨X,hX,rfl⟩:=List.mem_map.1 hm
     have:=this X hX
     simp at this
   . intro _;show x6 none<0;decide
 | some i =>
   have:=List.findIdx?_eq_some_iff_getElem.1 h
   obtain ⟨hi,hp,_⟩:=this
   constructor
   . intro hn;exact absurd hn (by show ¬ ((i:Int)<0);omega)
   . intro hn
     exact absurd (List.mem_map.2 ⟨l[i],List.getElem_mem hi,by simpa using hp⟩) hn
theorem tj {l:List FX} {nm:List UInt8} {i:Nat} (h:dh l nm=(i:Int)):∃ X,l[i]? = some X/\X.name=nm:=by
 unfold dh at h
 cases hf:l.findIdx? fun X=>X.name==nm with
 | none=>rw [hf] at h;simp [x6] at h<;>omega
 | some k =>
   rw [hf] at h
   simp only [x6] at h
   obtain rfl:k=i:=by omega
   obtain ⟨hi,hp,_⟩:=List.findIdx?_eq_some_iff_getElem.1 hf
   exact ⟨l[k],List.getElem?_eq_getElem hi,by simpa using hp⟩
def JD (l:List FX):Prop:=∀ X∈l,X.valid=true
theorem FM {l:List FX} {i:Nat} {X:FX} (hX:l[i]? = some X):xF l i=true↔∀ n∈dX X,n∈bZ (l.take i):=by
 unfold xF
 rw [hX]
 simp only [List.all_eq_true]
 constructor
 . intro h n hn
   have:=h n hn
   by_cases hm:n∈bZ (l.take i)
   . exact hm
   . rw [ao (D2.2 hm)] at this;cases this
 . intro h n hn
   rw [ak (fun hp=>D2.1 hp (h n hn))];rfl
theorem JE {l:List FX} {i:Nat} {X:FX} (hX:l[i]? = some X):B7 l i=true↔X.valid=true/\X.name ∉ bZ (l.take i)/\∀ n∈dX X,n∈bZ (l.take i):=by
 unfold B7
 rw [hX]
 simp only [Bool.and_eq_true,List.all_eq_true,Bool.not_eq_true',List.contains_iff_mem,and_assoc]
 constructor
 . rintro ⟨h1,h2,h3⟩
   exact ⟨h1,by simpa using h2,h3⟩
 . rintro ⟨h1,h2,h3⟩
   exact ⟨h1,by simpa using h2,h3⟩
theorem JF {l:List FX}:pL l=true↔∀ i X,l[i]? = some X->∀ n∈dX X,n∈bZ (l.take i):=by
 unfold pL
 rw [List.all_eq_true]
 constructor
 . intro h i X hX
   exact (FM hX).1 (h i (List.mem_range.2 (List.getElem?_eq_some_iff.1 hX).1))
 . intro h i hi
   have jc:=List.mem_range.1 hi
   exact (FM (List.getElem?_eq_getElem jc)).2 (h i _ (List.getElem?_eq_getElem jc))
theorem mO {l:List FX}:eg l=true↔(∀ i X,l[i]? = some X->X.valid=true/\X.name ∉ bZ (l.take i)/\∀ n∈dX X,n∈bZ (l.take i))/\l.length<=200:=by
 unfold eg
 rw [Bool.and_eq_true,List.all_eq_true,decide_eq_true_eq]
 constructor
 . rintro ⟨h,h2⟩
   exact ⟨fun i X hX=>(JE hX).1 (h i (List.mem_range.2 (List.getElem?_eq_some_iff.1 hX).1)),h2⟩
 . rintro ⟨h,h2⟩
   refine ⟨fun i hi => ?_,h2⟩
   have jc:=List.mem_range.1 hi
   exact (JE (List.getElem?_eq_getElem jc)).2 (h i _ (List.getElem?_eq_getElem jc))
theorem nodup_iff {l:List FX}:(bZ l).Nodup↔∀ i X,l[i]? = some X->X.name ∉ bZ (l.take i):=by
 induction l with
 | nil=>simp [bZ]
 | cons Y l ih =>
   have e:bZ (Y::l)=Y.name::bZ l:=rfl
   rw [e,List.nodup_cons,ih]
   constructor
   . rintro ⟨h1,h2⟩ i X hX
     cases i with
     | zero=>simp [bZ]
     | succ i =>
       have hX':l[i]? = some X:=by simpa using hX
       show X.name ∉ Y.name::bZ (l.take i)
       rw [List.mem_cons,not_or]
       exact ⟨fun he=>h1 (he▸List.mem_map.2 ⟨X,List.mem_of_getElem? hX',rfl⟩),h2 i X hX'⟩
   . intro h
     refine ⟨fun hm => ?_,fun i X hX => ?_⟩
     . obtain ⟨X,hX,he⟩:=List.mem_map.1 hm
       obtain ⟨i,hi,rfl⟩:=List.getElem_of_mem hX
       refine h (i+1) l[i] (by simp [hi]) ?_
       show l[i].name∈Y.name::bZ (l.take i)
       rw [he];exact List.mem_cons_self
     . have:=h (i+1) X (by simpa using hX)
       exact fun hm=>this (List.mem_cons_of_mem _ hm)
theorem uE {l:List FX} (hv:JD l) (hn:(bZ l).Nodup) (hl:l.length<=200):eg l=pL l:=by
 by_cases h:pL l=true
 . rw [h,mO]
   exact ⟨fun i X hX=>⟨hv X (List.mem_of_getElem? hX),nodup_iff.1 hn i X hX,JF.1 h i X hX⟩,hl⟩
 . rw [Bool.not_eq_true] at h
   rw [h]
   cases hL:eg l
   . rfl
   . exact absurd (JF.2 fun i X hX=>((mO.1 hL).1 i X hX).2.2) (by rw [h];decide)
theorem JG {l:List FX} (h:eg l=true):JD l:=fun X hX=>by
 obtain ⟨i,hi,rfl⟩:=List.getElem_of_mem hX
 exact ((mO.1 h).1 i _ (List.getElem?_eq_getElem hi)).1
theorem JH {l:List FX} (h:eg l=true):(bZ l).Nodup:=nodup_iff.2 fun i X hX=>((mO.1 h).1 i X hX).2.1
theorem iB {l:List FX} (h:eg l=true):l.length<=200:=(mO.1 h).2
theorem FN {l:List FX} {i:Nat} {X Y:FX} (hY:l[i]? = some Y) (h:X.name=Y.name):bZ (l.set i X)=bZ l:=by
 unfold bZ
 rw [List.map_set,h]
 exact DT (by rw [List.getElem?_map,hY];rfl)
theorem O0 (l m:List FX):bZ (l++m)=bZ l++bZ m:=List.map_append ..
theorem JI {l:List FX} {i:Nat} {X:FX} (hX:l[i]? = some X):List.Perm l (X::gg l i):=by
 obtain ⟨hi,rfl⟩:=List.getElem?_eq_some_iff.1 hX
 unfold gg
 have e:l=l.take i++l[i]::l.drop (i+1):=by
   rw [<- List.drop_eq_getElem_cons hi,List.take_append_drop]
 conv=>lhs;rw [e]
 exact List.perm_middle
theorem SI (m:List FX) (j:Nat) (X:FX):List.Perm (oU m j X) (X::m):=by
 unfold oU
 rw [List.append_assoc]
 refine (List.perm_middle (l₁:=m.take j) (a:=X) (l₂:=m.drop j)).trans ?_
 rw [List.take_append_drop]
theorem D3 {l m:List FX} (h:List.Perm l m) (hn:(bZ l).Nodup):(bZ m).Nodup:=(h.map _).nodup_iff.1 hn
theorem Vl {l:List FX} {i:Nat} {X Y:FX} (hY:l[i]? = some Y):oU (gg l i) i X=l.set i X:=by
 obtain ⟨hi,rfl⟩:=List.getElem?_eq_some_iff.1 hY
 unfold oU gg
 have h1:(l.take i).length=i:=by rw [List.length_take];omega
 rw [List.take_left' h1,List.drop_left' h1,List.set_eq_take_append_cons_drop,if_pos hi,List.append_assoc]
 rfl
theorem Le {l:List FX} {i:Nat} {Y:FX} {b:Bool} (hY:l[i]? = some Y) (h:eg l=true):eg (l.set i (Y.bM b))=true:=by
 have hn:∀ k,bZ ((l.set i (Y.bM b)).take k)=bZ (l.take k):=fun k=>by
   have:=FN (X:=Y.bM b) hY rfl
   unfold bZ at this ⊢
   rw [List.map_take,List.map_take,this]
 rw [mO]
 refine ⟨fun k X hX => ?_,by rw [List.length_set];exact iB h⟩
 rw [hn]
 by_cases hk:k=i
 . subst hk
   rw [List.getElem?_set_self (List.getElem?_eq_some_iff.1 hY).1] at hX
   simp only [Option.some.injEq] at hX;subst hX
   exact (mO.1 h).1 k Y hY
 . rw [List.getElem?_set_ne (Ne.symm hk)] at hX
   exact (mO.1 h).1 k X hX
end Go.VL
end

section
set_option linter.unusedVariables false
set_option linter.unusedVariables false
namespace Go.VL
def zF:AV := .agg [.str [], .int .i64 0, .nils, .nils, .bool false]
theorem aeE {σ : aa} {id:Id} {n i:Nat} (h:i<n):∃ v,kM σ 5 (.osl id 5 0 n false) (some (.int .i64 (i:Int))) (some (.int .i64 ((i+1:Nat):Int))) (some (.int .i64 (n:Int))) (bU 5 (.osl id 5 0 n false) (some (.int .i64 (i:Int))) (some (.int .i64 ((i+1:Nat):Int))) (some (.int .i64 (n:Int))))=some { val:=v }:=by
 have hb:cJ n (some (.int .i64 (i:Int))) (some (.int .i64 ((i+1:Nat):Int)))=some (i,i+1):=by
   unfold cJ
   simp only [dV]
   rw [if_pos ⟨by omega,by omega⟩]
   simp only [Int.toNat_natCast]
   rw [if_pos ⟨by omega,by omega⟩]
 unfold bU
 simp only [hb,if_true,Option.isNone_some,Bool.false_eq_true,if_false]
 split
 . exact ⟨_,rfl⟩
 . refine ⟨.top, ?_⟩
   simp only [kM,Pn,if_true,hb]
   rw [if_pos ⟨by omega,by omega⟩]
theorem SJ {id:Id} {n j:Nat} (h0:0<j) (h:j<n):bU 5 (.osl id 5 0 n false) (some (.int .i64 (j:Int))) none none=some (.osl id 5 j (n-j) false):=by
 simp [bU,cJ,dV,Nat.le_of_lt h,Nat.ne_of_gt h0,Nat.ne_of_lt h]
theorem M8 {id:Id} {n:Nat} (h0:0<n):bU 5 (.osl id 5 0 n false) (some (.int .i64 (n:Int))) none none=some (.sl 5 []):=by
 simp [bU,cJ,dV,Nat.ne_of_gt h0]
theorem zK {id:Id} {n j:Nat} (h:j<n):bU 5 (.osl id 5 0 n false) (some (.int .i64 (j:Int))) none none=some (.osl id 5 j (n-j) false):=by
 rcases Nat.eq_zero_or_pos j with rfl | hp
 . simp [bU,cJ,dV]
 . exact SJ hp h
theorem Vm {id:Id} {n j:Nat} (h:j<=n):∃ v,bU 5 (.osl id 5 0 n false) (some (.int .i64 (j:Int))) none none=some v:=by
 rcases Nat.lt_or_ge j n with h1 | h1
 . exact ⟨_,zK h1⟩
 . obtain rfl:j=n:=by omega
   rcases Nat.eq_zero_or_pos j with rfl | hp
   . exact ⟨.osl id 5 0 0 false,by simp [bU,cJ,dV]⟩
   . exact ⟨_,M8 hp⟩
theorem YC {σ : aa} {id:Id} {n h:Nat} {bk:dC} (hσ : σ id=some bk) (hk:bk.k=5) (hl:bk.els.length=h) (hn:n<h) :
   kM σ 5 (.osl id 5 0 n false) none (some (.int .i64 (h:Int))) none (bU 5 (.osl id 5 0 n false) none (some (.int .i64 (h:Int))) none)=some { val := .osl id 5 0 h false,rd:=[id] }:=by
 have e:bU 5 (.osl id 5 0 n false) none (some (.int .i64 (h:Int))) none=none:=by
   simp [bU,cJ,dV,show ¬ h<=n by omega]
 rw [e]
 simp [kM,hσ,hk,hl,bU,cJ,dV]
theorem JJ {σ : aa} {id:Id} {n m:Nat} {bk:dC} (hσ : σ id=some bk) (hk:bk.k=5) (hm:m=n+1) (hl:bk.els.length=n+1) :
   kM σ 5 (.osl id 5 0 n false) (some (.int .i64 (n:Int))) (some (.int .i64 (m:Int))) none (bU 5 (.osl id 5 0 n false) (some (.int .i64 (n:Int))) (some (.int .i64 (m:Int))) none)=some { val := .osl id 5 n 1 false,rd:=[id] }:=by
 subst hm
 have hle : ¬ ((n:Int)+1<=n):=by omega
 have h0:(0:Int)<=(n:Int)+1:=by omega
 have h1:((n:Int)+1).toNat=n+1:=by omega
 have e:bU 5 (.osl id 5 0 n false) (some (.int .i64 (n:Int))) (some (.int .i64 ((n+1:Nat):Int))) none=none:=by
   simp [bU,cJ,dV,hle]
 rw [e]
 rcases Nat.eq_zero_or_pos n with rfl | hp
 . simp [kM,hσ,hk,hl,bU,cJ,dV]
 . have hn:(n:Int)<=(n:Int)+1:=by omega
   have e1:n+1-n=1:=by omega
   simp [kM,hσ,hk,hl,bU,cJ,dV,h0,h1,hn,Nat.ne_of_gt hp,e1]
theorem SK {σ : aa} {p id:Id} {E:List AV} {n i:Nat} (h : σ id=some ⟨E,5,false⟩) (hE:E.length=n) (hi:i+1<n) (hn:n<=1000) (h1:(E.all fun e=>e.cells.all AV.one)=true) :
   b6 σ p 5 80 (.osl id 5 0 i false) (.osl id 5 (i+1) (n-(i+1)) false)=some { val := .osl id 5 0 (n-1) false,rd:=[id,id],up:=[(id,some ⟨E.take i++E.drop (i+1)++E.drop (n-1),5,false⟩)] }:=by
 have hys:(E.drop (i+1)).take (n-(i+1))=E.drop (i+1):=List.take_of_length_le (by rw [List.length_drop];omega)
 have hyl:(E.drop (i+1)).length=n-(i+1):=by rw [List.length_drop];omega
 have hne:(E.drop (i+1)).isEmpty=false:=by
   cases hc:E.drop (i+1) with
   | nil=>rw [hc] at hyl;simp at hyl;omega
   | cons _ _=>rfl
 have ha:((E.drop (i+1)).all fun e=>e.cells.all AV.one)=true:=by
   rw [List.all_eq_true] at h1 ⊢;exact fun e he=>h1 e (List.mem_of_mem_drop he)
 have e2:i+(n-(i+1))=n-1:=by omega
 unfold b6
 rw [jH h rfl (by simp;omega)]
 simp only [hys,hne,h,hyl,ha,e2,Bool.false_eq_true,if_false]
 rw [if_pos ⟨trivial,trivial,trivial,by omega,by omega,cK (by omega),trivial⟩,if_neg (by omega),if_pos ⟨by omega,trivial⟩]
theorem JK {σ : aa} {id:Id} {E:List AV} {n:Nat} (h : σ id=some ⟨E,5,false⟩) (hE:E.length=n+1):xH σ 5 (.agg [.str [], .int .i64 0, .nils, .nils, .bool false]) (.osl id 5 n 1 false)=some { val := .tup [],rd:=[id],up:=[(id,some ⟨E.take n++[zF],5,false⟩)] }:=by
 have hd:E.drop (n+1)=[]:=List.drop_of_length_le (by omega)
 simp [xH,uH,h,hE,hd,AV.size,AV.cells,AV.one,zF]
theorem O1 {σ : aa}:dA σ 5 (.sl 5 [])=some ([],[]):=rfl
section
variable {P:Program} {G:Nat->Option (List AV)}
set_option maxHeartbeats 1000000 in
theorem FO {f:FuncId} (h:Has P f bx) {id:Id} {l:List FX} {i:Nat} (hi:i<l.length) (hl:l.length<=1000) (p:Id) :
   aB P G f [.osl id 5 0 l.length false, .int .i64 (i:Int), .int .i64 ((i+1:Nat):Int)] p [(id,⟨l.map FX.av,5,false⟩)]
     { val := .osl id 5 0 (l.length-1) false,rd:=[id],up:=[(id,some ⟨(gg l i).map FX.av++[zF],5,false⟩)] }:=by
 refine aB.has h ?_
 obtain ⟨v13,aeF⟩:=aeE (σ := aa.of [(id,⟨l.map FX.av,5,false⟩)]) (id:=id) hi
 have d0:decide ((i:Int)=((i+1:Nat):Int))=false:=ak (by omega)
 have hst:aa.of [(id,⟨l.map FX.av,5,false⟩)] id=some ⟨l.map FX.av,5,false⟩:=bC
 have QW:l.length-1+1=l.length:=by omega
 simp only [bx,SS,DD,Nat.reduceAdd,aeF,d0,Dn (Nat.le_of_lt hi)]
 have h1:=nD l
 by_cases hj:i+1=l.length
 . have e25:bU 5 (.osl id 5 0 l.length false) (some (.int .i64 ((i+1:Nat):Int))) none none=some (.sl 5 []):=by rw [hj];exact M8 (by omega)
   simp only [e25,SS,DD,Nat.reduceAdd,lO O1]
   refine ⟨by simp [ar], ?_⟩
   have ht:=JJ (σ := aa.of [(id,⟨l.map FX.av,5,false⟩)]) (id:=id) (n:=i) (m:=l.length) bC rfl hj.symm (by simp [hj])
   simp only [SS,Nat.reduceAdd,ht]
   rw [JK bC (by simp [hj])]
   simp only [SS,Nat.reduceAdd]
   refine aS▸aA ?_ fun i' => ?_
   . simp only [RS,bP,cu,show l.length-1=i by omega]
   . right
     have e:(gg l i).map FX.av++[zF]=(l.map FX.av).take i++[zF]:=by
       unfold gg
       rw [List.drop_of_length_le (show l.length<=i+1 by omega),List.append_nil,List.map_take]
     rw [e]
     rfl
 . rw [SJ (Nat.succ_pos i) (show i+1<l.length by omega)]
   simp only [SS,DD,Nat.reduceAdd]
   rw [SK (n:=l.length) bC (by simp) (by omega) hl h1]
   simp only [SS,DD,Nat.reduceAdd]
   refine ⟨by simp [ar], ?_⟩
   have hE:((l.map FX.av).take i++(l.map FX.av).drop (i+1)++(l.map FX.av).drop (l.length-1)).length=l.length-1+1:=by simp;omega
   rw [JJ (m:=l.length) (aa.a8 _ _ _) rfl QW.symm hE]
   simp only [SS,Nat.reduceAdd]
   rw [JK (aa.a8 _ _ _) hE]
   simp only [SS,Nat.reduceAdd]
   refine aS▸aA rfl fun i' => ?_
   right
   have e:(gg l i).map FX.av++[zF]=((l.map FX.av).take i++(l.map FX.av).drop (i+1)++(l.map FX.av).drop (l.length-1)).take (l.length-1)++[zF]:=by
     have hx:((l.map FX.av).take i++(l.map FX.av).drop (i+1)).length=l.length-1:=by simp;omega
     rw [List.take_left' hx]
     unfold gg
     rw [List.map_append,List.map_take,List.map_drop]
   rw [e]
   by_cases q:i'=id
   . subst q;simp [aa.app,aa.put]
   . simp [aa.app,aa.put,q]
end
end Go.VL
end

section
set_option linter.unusedVariables false
set_option linter.unusedVariables false
namespace Go.VL
theorem SL {A:List AV} {z x:AV} {j:Nat} (hj:j<A.length) :
   (((A++[z]).take (j+1)++((A++[z]).drop j).take (A.length-j)++(A++[z]).drop (j+1+(A.length-j))).take j)++[x]++(((A++[z]).take (j+1)++((A++[z]).drop j).take (A.length-j)++(A++[z]).drop (j+1+(A.length-j))).drop (j+1))=A.take j++[x]++A.drop j:=by
 have h1:(A++[z]).drop (j+1+(A.length-j))=[]:=List.drop_of_length_le (by simp;omega)
 have h2:(A++[z]).take (j+1)=A.take (j+1):=List.take_append_of_le_length (by omega)
 have h3:(A++[z]).drop j=A.drop j++[z]:=List.drop_append_of_le_length (by omega)
 have h4:(A.drop j++[z]).take (A.length-j)=A.drop j:=List.take_left' (by simp)
 have h5:(A.take (j+1)).length=j+1:=by rw [List.length_take];omega
 rw [h1,h2,h3,h4,List.append_nil,List.drop_left' h5,List.take_append_of_le_length (by omega),List.take_take,Nat.min_eq_left (by omega)]
theorem Kf {σ : aa} {p id q:Id} {A:List AV} {z:AV} {X:FX} (h : σ id=some ⟨A++[z],5,false⟩) (hq : σ q=some ⟨[X.av],5,false⟩) (hA:A.length<=1000) :
   b6 σ p 5 80 (.osl id 5 0 A.length false) (.osl q 5 0 1 false)=some { val := .osl id 5 0 (A.length+1) false,rd:=[id,q],up:=[(id,some ⟨A++[X.av],5,false⟩)] }:=by
 have h1:([X.av].all fun e=>e.cells.all AV.one)=true:=nD [X]
 unfold b6
 rw [oV hq]
 simp only [h,h1,List.isEmpty_cons,Bool.false_eq_true,if_false,List.length_cons,List.length_nil,List.length_append]
 rw [if_pos ⟨trivial,trivial,trivial,by omega,by omega,cK (by omega),trivial⟩,if_neg (by omega),if_pos ⟨by omega,trivial⟩]
 have e:(A++[z]).take A.length++[X.av]++(A++[z]).drop (A.length+(0+1))=A++[X.av]:=by
   rw [List.take_left' rfl,List.drop_of_length_le (by simp),List.append_nil]
 simp only [e,Nat.zero_add]
theorem Vn {σ : aa} {id:Id} {n:Nat} {bk:dC} (h : σ id=some bk):yo σ (.osl id 5 0 n false) (Nh (.osl id 5 0 n false))=some { val := .ige bk.els.length,rd:=[id] }:=by
 simp [yo,Nh,h]
theorem Vo {a n:Nat} (h:a<=n):bo .gtr .int (.int .i64 (a:Int)) (.ige n)=some (.bool false):=by
 simp [bo,kW,Ln,h]
theorem YD {σ : aa} {id q:Id} {o1 l1 o2 l2:Nat} {b1 b2:dC} (hne:q≠id) (h1 : σ q=some b1) (h2 : σ id=some b2) (hk:0<b2.k) (hl:0<b2.els.length):G8 σ (.osl q 5 o1 l1 false) (.osl id 5 o2 l2 false)=some { val := .bool false,rd:=[q,id] }:=by
 simp [G8,hne,h1,h2,hk,hl]
theorem O2 {σ : aa} {id:Id} {E:List AV} {n j:Nat} (h : σ id=some ⟨E,5,false⟩) (hE:E.length=n+1) (hj:j<n) (h1:(E.all fun e=>e.cells.all AV.one)=true) :
   yn σ 5 (.osl id 5 (j+1) (n+1-(j+1)) false) (.osl id 5 j (n+1-j) false)=some { val := .int .i64 ((n-j:Nat):Int),rd:=[id,id],up:=[(id,some ⟨E.take (j+1)++(E.drop j).take (n-j)++E.drop (j+1+(n-j)),5,false⟩)] }:=by
 have e1:((E.drop j).take (n+1-j)).take (n+1-(j+1))=(E.drop j).take (n-j):=by
   rw [List.take_take,Nat.min_eq_left (by omega)];congr 1;omega
 have hl:((E.drop j).take (n-j)).length=n-j:=by rw [List.length_take,List.length_drop];omega
 have hne:((E.drop j).take (n-j)).isEmpty=false:=by
   cases hc:(E.drop j).take (n-j) with
   | nil=>rw [hc] at hl;simp at hl;omega
   | cons _ _=>rfl
 have ha:(((E.drop j).take (n-j)).all fun e=>e.cells.all AV.one)=true:=by
   rw [List.all_eq_true] at h1 ⊢;exact fun e he=>h1 e (List.mem_of_mem_drop (List.mem_of_mem_take he))
 unfold yn
 rw [jH h rfl (by simp;omega)]
 simp only [e1,hne,uH,h,hl,ha,if_true,Bool.false_eq_true,if_false]
 rw [if_pos ⟨trivial,by omega,trivial,trivial⟩]
theorem SM {σ : aa} {id q:Id} {E:List AV} {n j:Nat} {X:FX} (h : σ id=some ⟨E,5,false⟩) (hq : σ q=some ⟨[X.av],5,false⟩) (hE:E.length=n+1) (hj:j<n) :
   yn σ 5 (.osl id 5 j (n+1-j) false) (.osl q 5 0 1 false)=some { val := .int .i64 1,rd:=[id,q],up:=[(id,some ⟨E.take j++[X.av]++E.drop (j+1),5,false⟩)] }:=by
 have h1:([X.av].all fun e=>e.cells.all AV.one)=true:=nD [X]
 have e1:[X.av].take (n+1-j)=[X.av]:=List.take_of_length_le (by simp;omega)
 unfold yn
 rw [oV hq]
 simp only [e1,uH,h,h1,List.isEmpty_cons,if_true,Bool.false_eq_true,if_false,List.length_cons,List.length_nil]
 rw [if_pos ⟨trivial,by omega,trivial,trivial⟩]
 rfl
section
variable {P:Program} {G:Nat->Option (List AV)}
set_option maxHeartbeats 2000000 in
theorem O3 {f fr:FuncId} (h:Has P f (bQ fr)) {id q:Id} {M:List FX} {j:Nat} {X:FX} (hj:j<=M.length) (hM:M.length<=1000) (hq:q≠id) (p:Id) :
   aB P G f [.osl id 5 0 M.length false, .int .i64 (j:Int), .osl q 5 0 1 false] p [(id,⟨M.map FX.av++[zF],5,false⟩),(q,⟨[X.av],5,false⟩)]
     { val := .osl id 5 0 (M.length+1) false,rd:=[id,q],up:=[(id,some ⟨(oU M j X).map FX.av,5,false⟩)] }:=by
 refine aB.has h ?_
 generalize hA:M.map FX.av=A
 have hAl:A.length=M.length:=by rw [<- hA,List.length_map]
 have abz:(oU M j X).map FX.av=A.take j++[X.av]++A.drop j:=by
   unfold oU;rw [<- hA];simp
 have hA1:((A++[zF]).all fun e=>e.cells.all AV.one)=true:=by
   rw [<- hA,List.all_append,nD];rfl
 rw [abz]
 rw [<- hAl] at hj hM ⊢
 clear abz hAl hA
 have s1:aa.of [(id,⟨A++[zF],5,false⟩),(q,⟨[X.av],5,false⟩)] id=some ⟨A++[zF],5,false⟩:=by simp [aa.of]
 have s2:aa.of [(id,⟨A++[zF],5,false⟩),(q,⟨[X.av],5,false⟩)] q=some ⟨[X.av],5,false⟩:=by
   have hb:(q==id)=false:=by simpa using hq
   simp [aa.of,List.lookup_cons,hb]
 obtain ⟨v12,aeG⟩:=Vm (id:=id) hj
 have d1:decide (((1:Nat):Int)=0)=false:=rfl
 have w1:IntKind.i64.wrap ((A.length:Int)+((1:Nat):Int))=((A.length+1:Nat):Int):=aq A.length (by omega)
 have w2:IntKind.i64.wrap ((j:Int)+((1:Nat):Int))=((j+1:Nat):Int):=aq j (by omega)
 simp only [bQ,SS,Nat.reduceAdd,aeG,d1]
 by_cases J0:j=A.length
 . rw [ao (by omega:(j:Int)=(A.length:Int))]
   simp only [SS,Nat.reduceAdd]
   rw [Kf s1 s2 hM]
   simp only [SS,Nat.reduceAdd]
   refine aS▸aA rfl fun i => ?_
   right
   rw [J0,List.take_length,List.drop_length,List.append_nil]
   rfl
 rw [ak (by omega : ¬ (j:Int)=(A.length:Int))]
 have hlt:j<A.length:=by omega
 have g1:=Vo (a:=A.length+1) (n:=(A++[zF]).length) (by simp)
 have u1:=YC (n:=A.length) (h:=A.length+1) s1 rfl (by simp) (by omega)
 simp only [SS,Nat.reduceAdd,w1,Vn s1,g1,u1,w2]
 rw [zK (show j+1<A.length+1 by omega)]
 simp only [SS,Nat.reduceAdd]
 rw [YD hq s2 s1 (show 0<5 by decide) (by simp)]
 simp only [SS,DD,Nat.reduceAdd,w2]
 rw [zK (show j+1<A.length+1 by omega)]
 simp only [SS,DD,Nat.reduceAdd]
 rw [zK (show j<A.length+1 by omega)]
 simp only [SS,DD,Nat.reduceAdd]
 rw [O2 s1 (by simp) hlt hA1]
 simp only [SS,DD,Nat.reduceAdd]
 refine ⟨by simp [ar], ?_⟩
 have mU:((A++[zF]).take (j+1)++((A++[zF]).drop j).take (A.length-j)++(A++[zF]).drop (j+1+(A.length-j))).length=A.length+1:=by simp;omega
 rw [zK (show j<A.length+1 by omega)]
 simp only [SS,Nat.reduceAdd]
 rw [SM (n:=A.length) (X:=X) (aa.a8 _ _ _) (by rw [aa.bg _ _ _ hq];exact s2) mU hlt,SL hlt]
 simp only [SS,Nat.reduceAdd]
 refine aS▸aA rfl fun i => ?_
 right
 by_cases e:i=id
 . subst e;simp [aa.app,aa.put]
 . simp [aa.app,aa.put,e]
end
end Go.VL
end

section
set_option linter.unusedVariables false
set_option linter.unusedVariables false
namespace Go.VL
theorem FP {σ : aa} {id:Id} {m:List FX} {r:List AV} {t:Bool} {n:Nat} (hn:n=m.length) (h : σ id=some ⟨m.map FX.av++r,5,false⟩):View σ (.osl id 5 0 n t) (dr m):=by
 subst hn
 refine View.osl (bk:=⟨m.map FX.av++r,5,false⟩) h rfl (by simp) ?_ (by simp) (fun d hd => ?_)
 . have e:((m.map FX.av++r).drop 0).take m.length=m.map FX.av:=by
     rw [List.drop_zero,List.take_left' (by simp)]
   simp only [e]
   refine aW.pure fun c hc => ?_
   simp only [flat,List.mem_flatMap] at hc
   obtain ⟨v,hv,hc⟩:=hc
   obtain ⟨y,_,rfl⟩:=List.mem_map.1 hv
   exact FX.j8 y c hc
 . obtain ⟨y,_,rfl⟩:=List.mem_map.1 hd
   rfl
section
variable {P:Program} {G:Nat->Option (List AV)} {π : Id} {base:Nat} {Q:cD->VS->Prop} {n:Nat} {d:Option Nat} {os:List bp} {i:Nat} {t:List AV} {σ : aa}
theorem JL {f:FuncId} {m:List FX} {r0:List AV} {id:Id} {tt:Bool} {k0:Nat} {r:AV} (h:VP P G f [dr m] r) (hn:k0=m.length) (hf:b7 r) (hσ : σ id=some ⟨m.map FX.av++r0,5,false⟩) (k:vs P G π base Q n os (i+1) (fK t d r) σ):pT P G π base Q n d os i t σ f [.osl id 5 0 k0 tt] :=
 iG [(id,⟨m.map FX.av++r0,5,false⟩)] h (aW.cons (FP (r:=r0) hn (by simp [aa.of])) .nil) hf (fun x hx=>by rw [List.mem_singleton] at hx;subst hx;exact hσ) k
end
noncomputable def JM (hid:Id) (ls:List (List FX)) (now:Nat) (l:List FX) (nm:List UInt8):Int × List (Id × Option dC) :=
 if dh l nm<0 then (4,[]) else if pL (gg l (dh l nm).toNat)=true then (0,DZ hid ls now l (gg l (dh l nm).toNat)) else (14,[])
noncomputable def BL (hid:Id) (ls:List (List FX)) (now:Nat) (l:List FX) (nm:List UInt8) (pP:Int):Int × List (Id × Option dC) :=
 if pP<0∨(l.length:Int)<=pP then (1,[]) else if dh l nm<0 then (4,[]) else
   let m:=oU (gg l (dh l nm).toNat) pP.toNat (l.getD (dh l nm).toNat ⟨[],0,[],[],false⟩)
   if pL m=true then (0,DZ hid ls now l m) else (14,[])
theorem qB {bc:FX->Prop} {l:List FX} {i:Nat} (hg:∀ Y∈l,bc Y):∀ Y∈gg l i,bc Y:=by
 intro Y hY
 unfold gg at hY
 rcases List.mem_append.1 hY with h | h
 . exact hg Y (List.mem_of_mem_take h)
 . exact hg Y (List.mem_of_mem_drop h)
theorem zL {bc:FX->Prop} {m:List FX} {j:Nat} {X:FX} (hg:∀ Y∈m,bc Y) (hX:bc X):∀ Y∈oU m j X,bc Y:=by
 intro Y hY
 unfold oU at hY
 simp only [List.mem_append,List.mem_singleton] at hY
 rcases hY with (h | h) | h
 . exact hg Y (List.mem_of_mem_take h)
 . rw [h];exact hX
 . exact hg Y (List.mem_of_mem_drop h)
theorem szR {m:List FX}:∀ e∈m.map FX.av++[zF],e.size=5:=by
 intro e he
 rcases List.mem_append.1 he with h | h
 . exact wV e h
 . rw [List.mem_singleton] at h;subst h;rfl
section
variable {P:Program} {G:Nat->Option (List AV)} {bc:FX->Prop} {f fp fv ff fc z8 fs ym fd abA:FuncId}
set_option maxHeartbeats 4000000 in
theorem Vp (h:Has P f (fT fp fc ff fd fs ym)) (hd:Has P fd bx) (H:HH P G bc fp fv ff fc z8 fs ym) {hid:Id} {ls:List (List FX)} {now:Nat} {l:List FX} (hl:ls[now]? = some l) (xN:ls.length<=1000)
   (hlen:l.length<=200) (hg:∀ X∈l,bc X) (nm:List UInt8) (p:Id) (qR : ¬ p <:+ hid) :
   aB P G f [.ref hid 0 0, .str nm] p [(hid,e9 ls now)] { val := .int .i64 (JM hid ls now l nm).1,rd:=[hid],up:=(JM hid ls now l nm).2 }:=by
 unfold JM
 have hne:∀ q:Id,q++p≠hid:=fun q e=>qR ⟨q,e⟩
 have G6:(5::3::p)≠hid:=hne [5,3]
 refine aB.has h ?_
 simp only [fT,SS,Nat.reduceAdd]
 refine ⟨[(hid,e9 ls now)],_,jL H.present hl _,by simp [bC],by simp, ?_⟩
 simp only [SS,Nat.reduceAdd]
 by_cases h0:l=[]
 . subst h0
   refine aj (tf H.cloneL) (by simp [de]) ?_
   simp only [SS,Nat.reduceAdd]
   refine wG (H.find [] nm (by simp) hg) (af.str _) (b7.int _ _) ?_
   have d0:decide ((-1:Int)<0)=true:=rfl
   rw [if_pos (show dh [] nm<0 from by rw [ti];decide)]
   simp only [ti,SS,Nat.reduceAdd,d0]
   exact aS▸aA rfl (gb (up:=[]) (by simp) bC)
 refine ⟨[],_,th H.cloneL h0 (by omega) _,by simp,by simp, ?_⟩
 simp only [SS,Nat.reduceAdd]
 refine rn (H.find l nm (by omega) hg) (af.str _) (b7.int _ _) (by simp [aa.put]) ?_
 simp only [SS,Nat.reduceAdd]
 by_cases h3:dh l nm<0
 . rw [if_pos h3,ao h3]
   simp only [SS,Nat.reduceAdd]
   exact aS▸aA rfl (gb (up:=[]) (by simp) (by simp [aa.put,G6.symm,bC]))
 rw [if_neg h3,ak h3]
 obtain ⟨i,hi,hlt⟩:=jz h3
 rw [hi,Int.toNat_natCast]
 have uU:=oW hlt
 have G5:∀ Z∈gg l i,bc Z:=qB hg
 simp only [SS,Nat.reduceAdd,aq i (by omega)]
 refine ⟨[(5::3::p,⟨l.map FX.av,5,false⟩)],_,FO hd hlt (by omega) _,by simp [aa.put],by simp, ?_⟩
 simp only [SS,Nat.reduceAdd]
 refine JL (r0:=[zF]) (H.sat _ (by omega) G5) (by omega) (b7.bool _) (by simp [aa.put]) ?_
 cases hB:pL (gg l i)
 . simp only [SS,Nat.reduceAdd]
   exact aS▸aA rfl (gb (up:=[]) (by simp) (by simp [aa.put,G6.symm,bC]))
 . simp only [SS,Nat.reduceAdd]
   refine kz (id:=5::3::p) (bk:=⟨(gg l i).map FX.av++[zF],5,false⟩) (H.change hid ls now l (gg l i) _ hl xN (by omega) (by omega) hg G5 (fun q=>hne [q,_])) (FP (r:=[zF]) (by omega) (by simp [aa.of])) G6 szR (by simp [aa.put]) (by simp [aa.put,G6.symm,bC]) ?_
   simp only [SS,Nat.reduceAdd]
   exact aS▸aA rfl (gb qA (by simp [aa.put,aa.app,rC,G6.symm,bC]))
set_option maxHeartbeats 4000000 in
theorem SN (h:Has P f (gG fp fc ff fd abA fs ym)) (hd:Has P fd bx) {fr:FuncId} (GK:Has P abA (bQ fr)) (H:HH P G bc fp fv ff fc z8 fs ym) {hid:Id} {ls:List (List FX)} {now:Nat} {l:List FX} (hl:ls[now]? = some l) (xN:ls.length<=1000)
   (hlen:l.length<=200) (hg:∀ X∈l,bc X) (nm:List UInt8) (pP:Int) (p:Id) (qR : ¬ p <:+ hid) :
   aB P G f [.ref hid 0 0, .str nm, .int .i64 pP] p [(hid,e9 ls now)] { val := .int .i64 (BL hid ls now l nm pP).1,rd:=[hid],up:=(BL hid ls now l nm pP).2 }:=by
 unfold BL
 have hne:∀ q:Id,q++p≠hid:=fun q e=>qR ⟨q,e⟩
 have G6:(5::3::p)≠hid:=hne [5,3]
 refine aB.has h ?_
 simp only [gG,SS,Nat.reduceAdd]
 refine ⟨[(hid,e9 ls now)],_,jL H.present hl _,by simp [bC],by simp, ?_⟩
 simp only [SS,Nat.reduceAdd]
 by_cases h0:l=[]
 . subst h0
   rw [if_pos (show pP<0∨(([]:List FX).length:Int)<=pP from by simp;omega)]
   refine aj (tf H.cloneL) (by simp [de]) ?_
   simp only [SS,Nat.reduceAdd]
   by_cases t1:pP<0
   . simp only [SS,Nat.reduceAdd,ao t1]
     exact aS▸aA rfl (gb (up:=[]) (by simp) bC)
   . have t2:decide (((0:Nat):Int)<=pP)=true:=ao (by omega)
     simp only [SS,Nat.reduceAdd,ak t1,t2]
     exact aS▸aA rfl (gb (up:=[]) (by simp) bC)
 refine ⟨[],_,th H.cloneL h0 (by omega) _,by simp,by simp, ?_⟩
 simp only [SS,Nat.reduceAdd]
 by_cases t1:pP<0
 . rw [if_pos (.inl t1)]
   simp only [SS,Nat.reduceAdd,ao t1]
   exact aS▸aA rfl (gb (up:=[]) (by simp) (by simp [aa.put,G6.symm,bC]))
 simp only [SS,Nat.reduceAdd,ak t1]
 by_cases t2:(l.length:Int)<=pP
 . rw [if_pos (.inr t2)]
   simp only [SS,Nat.reduceAdd,ao t2]
   exact aS▸aA rfl (gb (up:=[]) (by simp) (by simp [aa.put,G6.symm,bC]))
 rw [if_neg (by omega)]
 simp only [SS,Nat.reduceAdd,ak t2]
 refine rn (H.find l nm (by omega) hg) (af.str _) (b7.int _ _) (by simp [aa.put]) ?_
 simp only [SS,Nat.reduceAdd]
 by_cases h3:dh l nm<0
 . rw [if_pos h3,ao h3]
   simp only [SS,Nat.reduceAdd]
   exact aS▸aA rfl (gb (up:=[]) (by simp) (by simp [aa.put,G6.symm,bC]))
 rw [if_neg h3,ak h3]
 obtain ⟨i,hi,hlt⟩:=jz h3
 obtain ⟨j,hj⟩:∃ j:Nat,pP=(j:Int):=⟨pP.toNat,by omega⟩
 rw [hi,Int.toNat_natCast,hj,Int.toNat_natCast]
 obtain ⟨X,hX⟩:∃ X,l[i]? = some X:=⟨_,List.getElem?_eq_getElem hlt⟩
 have hgx:(l.map FX.av)[i]? = some X.av:=by rw [List.getElem?_map,hX];rfl
 have D6:l.getD i ⟨[],0,[],[],false⟩=X:=by rw [List.getD_eq_getElem?_getD,hX];rfl
 rw [D6]
 have uU:=oW hlt
 have nL:j<=(gg l i).length:=by omega
 have J1:=zH (X:=X) nL
 have G5:∀ Z∈oU (gg l i) j X,bc Z:=zL (qB hg) (hg X (List.mem_of_getElem? hX))
 simp only [SS,Nat.reduceAdd,lE hlt]
 rw [mK (bk:=⟨l.map FX.av,5,false⟩) (by simp [aa.put]) hgx,FX.whole]
 simp only [SS,Nat.reduceAdd,jb]
 have n23:(23::p)≠hid:=hne [23]
 have aeH:l.length-1=(gg l i).length:=by omega
 rw [oh (k:=(AV.agg [.str [], .int .i64 0, .nils, .nils, .bool false]).size) (by simp [aa.put])]
 simp only [SS,DD,Nat.reduceAdd,aq i (by omega)]
 refine ⟨[(5::3::p,⟨l.map FX.av,5,false⟩)],_,FO hd hlt (by omega) _,by simp [aa.put],by simp, ?_⟩
 simp only [SS,DD,Nat.reduceAdd]
 rw [aeH,ai (by simp),ae,FX.whole]
 simp only [SS,DD,Nat.reduceAdd,xE]
 have n32:(32::p)≠hid:=hne [32]
 refine ⟨[(5::3::p,⟨(gg l i).map FX.av++[zF],5,false⟩),(32::p,⟨[X.av],5,false⟩)],_,O3 GK nL (by omega) (by simp) _, ?_, ?_, ?_⟩
 . intro x hx
   simp only [List.mem_cons,List.not_mem_nil,or_false] at hx
   rcases hx with rfl | rfl
   . simp [aa.put]
   . exact aa.a8 _ _ _
 . intro x hx
   simp only [List.mem_cons,List.not_mem_nil,or_false] at hx
   rcases hx with rfl | rfl<;>simp
 simp only [SS,DD,Nat.reduceAdd]
 refine ⟨by simp [ar,apart], ?_⟩
 rw [<- J1]
 refine eH (H.sat _ (by omega) G5) (b7.bool _) (by simp [aa.put]) ?_
 cases hB:pL (oU (gg l i) j X)
 . simp only [SS,Nat.reduceAdd]
   exact aS▸aA rfl (gb (up:=[]) (by simp) (by simp [aa.put,G6.symm,n23.symm,n32.symm,bC]))
 . simp only [SS,Nat.reduceAdd]
   refine kz (id:=5::3::p) (bk:=⟨(oU (gg l i) j X).map FX.av,5,false⟩) (H.change hid ls now l (oU (gg l i) j X) _ hl xN (by omega) (by omega) hg G5 (fun q=>hne [q,_])) (dU (by simp [aa.of])) G6 wV (by simp [aa.put]) (by simp [aa.put,G6.symm,n23.symm,n32.symm,bC]) ?_
   simp only [SS,Nat.reduceAdd]
   exact aS▸aA rfl (gb qA (by simp [aa.put,aa.app,rC,G6.symm,n23.symm,n32.symm,bC]))
end
end Go.VL
end

section
set_option linter.unusedVariables false
set_option linter.unusedVariables false
namespace Go.VL
noncomputable def qC (hid:Id) (ls:List (List FX)) (now:Nat) (l:List FX) (o:OX):Int × List (Id × Option dC) :=
 if o.kind%7=0 then JB hid ls now l o.F else if o.kind%7=1 then BJ hid ls now l o.F else if o.kind%7=2 then JC hid ls now l o.name o.on
 else if o.kind%7=3 then BL hid ls now l o.name o.pP else JM hid ls now l o.name
def FQ (l:List FX) (o:OX):List FX × Int :=
 if o.kind%7=0 then (if o.F.valid=false then ([],1) else if l.length=200 then ([],3) else if 0<=dh l o.F.name then ([],5) else if pL (l++[o.F])=true then (l++[o.F],0) else ([],4))
 else if o.kind%7=1 then (if o.F.valid=false then ([],1) else if dh l o.F.name<0 then ([],4) else if pL (l.set (dh l o.F.name).toNat o.F)=true then (l.set (dh l o.F.name).toNat o.F,0) else ([],4))
 else if o.kind%7=2 then (if dh l o.name<0 then ([],4) else (l.set (dh l o.name).toNat ((l.getD (dh l o.name).toNat ⟨[],0,[],[],false⟩).bM o.on),0))
 else if o.kind%7=3 then (if o.pP<0∨(l.length:Int)<=o.pP then ([],1) else if dh l o.name<0 then ([],4) else
   if pL (oU (gg l (dh l o.name).toNat) o.pP.toNat (l.getD (dh l o.name).toNat ⟨[],0,[],[],false⟩))=true then (oU (gg l (dh l o.name).toNat) o.pP.toNat (l.getD (dh l o.name).toNat ⟨[],0,[],[],false⟩),0) else ([],14))
 else (if dh l o.name<0 then ([],4) else if pL (gg l (dh l o.name).toNat)=true then (gg l (dh l o.name).toNat,0) else ([],14))
theorem FR (hid:Id) (ls:List (List FX)) (now:Nat) (l:List FX) (o:OX):qC hid ls now l o=((FQ l o).2,if (FQ l o).2=0 then DZ hid ls now l (FQ l o).1 else []):=by
 unfold qC FQ JB BJ JC BL JM
 simp only []
 repeat' split
 all_goals first | rfl | (simp_all;done) | skip
 all_goals simp_all
theorem Lf {l:List FX} {X:FX} (hn:(bZ l).Nodup) (h:dh l X.name<0):(bZ (l++[X])).Nodup:=by
 rw [O0,List.nodup_append]
 refine ⟨hn,by simp [bZ], ?_⟩
 intro a ha b hb MP
 simp [bZ] at hb
 subst MP;subst hb
 exact D2.1 h ha
theorem O4 {l:List FX} {i:Nat} {X:FX} (hX:l[i]? = some X) (hn:(bZ l).Nodup):(bZ (gg l i)).Nodup:=by
 have:=D3 (JI hX) hn
 exact (List.nodup_cons.1 this).2
theorem O5 {l:List FX} {i j:Nat} {X:FX} (hX:l[i]? = some X) (hn:(bZ l).Nodup):(bZ (oU (gg l i) j X)).Nodup :=
 D3 ((JI hX).trans (SI _ _ _).symm) hn
theorem step_eq {l:List FX} {o:OX} (hL:eg l=true) (hk:o.kind%7<5):FQ l o=b9 l o:=by
 have hlen:=iB hL
 have hval:=JG hL
 have Aw:=JH hL
 unfold FQ b9
 by_cases k0:o.kind%7=0
 . rw [if_pos k0,if_pos k0]
   cases hv:o.F.valid
   . rw [if_pos (show false=false from rfl),if_pos (show false=false from rfl)]
   rw [if_neg (show ¬ (true=false) by decide),if_neg (show ¬ (true=false) by decide)]
   by_cases h2:l.length=200
   . rw [if_pos h2,if_pos (show 200<=l.length by omega)]
   rw [if_neg h2,if_neg (show ¬ 200<=l.length by omega)]
   by_cases h3:0<=dh l o.F.name
   . rw [if_pos h3,if_pos h3]
   rw [if_neg h3,if_neg h3]
   rw [uE (l:=l++[o.F]) (fun X hX=>by
     rcases List.mem_append.1 hX with h | h
     . exact hval X h
     . rw [List.mem_singleton] at h;rw [h];exact hv) (Lf Aw (by omega)) (by simp;omega)]
 rw [if_neg k0,if_neg k0]
 by_cases k1:o.kind%7=1
 . rw [if_pos k1,if_pos k1]
   cases hv:o.F.valid
   . rw [if_pos (show false=false from rfl),if_pos (show false=false from rfl)]
   rw [if_neg (show ¬ (true=false) by decide),if_neg (show ¬ (true=false) by decide)]
   by_cases h3:dh l o.F.name<0
   . rw [if_pos h3,if_pos h3]
   rw [if_neg h3,if_neg h3]
   obtain ⟨i,hi,hlt⟩:=jz h3
   obtain ⟨Y,hY,hYn⟩:=tj hi
   rw [hi,Int.toNat_natCast]
   rw [uE (l:=l.set i o.F) (fun X hX=>by
     rcases List.mem_or_eq_of_mem_set hX with h | h
     . exact hval X h
     . rw [h];exact hv) (by rw [FN hY hYn.symm];exact Aw) (by rw [List.length_set];exact hlen)]
 rw [if_neg k1,if_neg k1]
 by_cases k2:o.kind%7=2
 . rw [if_pos k2,if_neg (show ¬ (o.kind%7=3/\(o.pP<0∨(l.length:Int)<=o.pP)) from fun h=>by omega)]
   by_cases h3:dh l o.name<0
   . rw [if_pos h3,if_pos h3]
   rw [if_neg h3,if_neg h3]
   obtain ⟨i,hi,hlt⟩:=jz h3
   obtain ⟨Y,hY,hYn⟩:=tj hi
   have D6:l.getD i ⟨[],0,[],[],false⟩=Y:=by rw [List.getD_eq_getElem?_getD,hY];rfl
   rw [hi,Int.toNat_natCast,D6]
   simp only [if_pos k2,D6]
   rw [Vl hY,if_pos (Le hY hL)]
 rw [if_neg k2]
 by_cases k3:o.kind%7=3
 . rw [if_pos k3]
   by_cases h1:o.pP<0∨(l.length:Int)<=o.pP
   . rw [if_pos h1,if_pos ⟨k3,h1⟩]
   rw [if_neg h1,if_neg (show ¬ (o.kind%7=3/\(o.pP<0∨(l.length:Int)<=o.pP)) from fun h=>h1 h.2)]
   by_cases h3:dh l o.name<0
   . rw [if_pos h3,if_pos h3]
   rw [if_neg h3,if_neg h3]
   obtain ⟨i,hi,hlt⟩:=jz h3
   obtain ⟨Y,hY,hYn⟩:=tj hi
   have D6:l.getD i ⟨[],0,[],[],false⟩=Y:=by rw [List.getD_eq_getElem?_getD,hY];rfl
   rw [hi,Int.toNat_natCast,D6]
   simp only [if_neg k2,if_pos k3,D6]
   have nL:o.pP.toNat<=(gg l i).length:=by have:=oW hlt;omega
   rw [uE (l:=oU (gg l i) o.pP.toNat Y) (zL (qB hval) (hval Y (List.mem_of_getElem? hY))) (O5 hY Aw) (by rw [zH nL,oW hlt];exact hlen)]
 . rw [if_neg k3,if_neg (show ¬ (o.kind%7=3/\(o.pP<0∨(l.length:Int)<=o.pP)) from fun h=>k3 h.1)]
   by_cases h3:dh l o.name<0
   . rw [if_pos h3,if_pos h3]
   rw [if_neg h3,if_neg h3]
   obtain ⟨i,hi,hlt⟩:=jz h3
   obtain ⟨Y,hY,hYn⟩:=tj hi
   rw [hi,Int.toNat_natCast]
   simp only [if_neg k2,if_neg k3]
   rw [uE (l:=gg l i) (qB hval) (O4 hY Aw) (by have:=oW hlt;omega)]
end Go.VL
end

section
set_option linter.unusedVariables false
set_option linter.unusedVariables false
namespace Go.VL
theorem SP {hid:Id} {ls:List (List FX)} {now:Nat} {l:List FX} {o:OX}:∀ x∈(qC hid ls now l o).2,x.1=hid:=by
 intro x hx
 rw [FR] at hx
 simp only [] at hx
 split at hx
 . exact qA x hx
 . simp at hx
theorem nE {hid:Id} {ls:List (List FX)} {now:Nat} {l:List FX} {o:OX} {σ : aa} (ha:ls[now]? = some l) (hL:eg l=true) (hk:o.kind%7<5) (hσ : σ hid=some (e9 ls now)) :
   (qC hid ls now l o).1=(wF ls now o).2.2.1/\(σ.app (qC hid ls now l o).2) hid=some (e9 (wF ls now o).1 (wF ls now o).2.1):=by
 have D6:ls.getD now []=l:=by rw [List.getD_eq_getElem?_getD,ha];rfl
 rw [FR,step_eq hL hk]
 unfold wF
 rw [if_neg (show ¬ o.kind%7=5 by omega),if_neg (show ¬ o.kind%7=6 by omega),D6]
 simp only []
 generalize b9 l o=c
 obtain ⟨m,e⟩:=c
 simp only []
 by_cases he:e=0
 . subst he
   rw [if_pos rfl]
   unfold DZ
   by_cases hq:gY m l=true
   . rw [if_pos hq,if_pos (.inr hq)]
     exact ⟨rfl,hσ⟩
   . rw [if_neg hq,if_neg (by simpa using hq)]
     exact ⟨rfl,aa.a8 _ _ _⟩
 . rw [if_neg he,if_pos (.inl he)]
   exact ⟨rfl,hσ⟩
theorem zM {l:List FX} {o:OX} (h:(b9 l o).2=0):eg (b9 l o).1=true:=by
 generalize hc:b9 l o=c at *
 unfold b9 at hc
 simp only [] at hc
 repeat' (split at hc)
 all_goals subst hc
 all_goals first | (exact absurd h (by simp only [];decide)) | assumption
theorem zN {bc:FX->Prop} {l:List FX} {o:OX} (hg:∀ X∈l,bc X) (hF:bc o.F) (hs:∀ X b,bc X->bc (X.bM b)):∀ X∈(b9 l o).1,bc X:=by
 have nil:∀ X∈([]:List FX),bc X:=fun X h=>absurd h (by simp)
 unfold b9
 by_cases k0:o.kind%7=0
 . rw [if_pos k0]
   repeat' split
   all_goals first | exact nil | skip
   intro X hX
   rcases List.mem_append.1 hX with h | h
   . exact hg X h
   . rw [List.mem_singleton] at h;rw [h];exact hF
 rw [if_neg k0]
 by_cases k1:o.kind%7=1
 . rw [if_pos k1]
   repeat' split
   all_goals first | exact nil | skip
   exact zJ hg hF
 rw [if_neg k1]
 split
 . exact nil
 split
 . exact nil
 rename_i h3
 obtain ⟨i,hi,hlt⟩:=jz h3
 obtain ⟨Y,hY,_⟩:=tj hi
 have D6:l.getD i ⟨[],0,[],[],false⟩=Y:=by rw [List.getD_eq_getElem?_getD,hY];rfl
 have hYg:=hg Y (List.mem_of_getElem? hY)
 rw [hi,Int.toNat_natCast]
 simp only [D6]
 repeat' split
 all_goals first | exact nil | exact zL (qB hg) (hs Y _ hYg) | exact zL (qB hg) hYg | exact qB hg
structure zO (bc:FX->Prop) (ls:List (List FX)) (now:Nat):Prop where
 lt:now<ls.length
 list:∀ l∈ls,eg l=true
 bc:∀ l∈ls,∀ X∈l,bc X
theorem Vq (bc:FX->Prop):zO bc [[]] 0:=⟨by simp,by intro l hl;simp at hl;subst hl;rfl,by intro l hl X hX;simp at hl;subst hl;simp at hX⟩
theorem YE {bc:FX->Prop} {ls:List (List FX)} {now:Nat} {o:OX} (h:zO bc ls now) (hF:bc o.F) (hs:∀ X b,bc X->bc (X.bM b)) :
   zO bc (wF ls now o).1 (wF ls now o).2.1/\(wF ls now o).1.length<=ls.length+1:=by
 unfold wF
 by_cases h5:o.kind%7=5
 . rw [if_pos h5]
   split
   . exact ⟨h,by simp⟩
   . exact ⟨⟨by have:=h.lt;simp only [];omega,h.list,h.bc⟩,by simp⟩
 rw [if_neg h5]
 by_cases h6:o.kind%7=6
 . rw [if_pos h6]
   split
   . exact ⟨h,by simp⟩
   . exact ⟨⟨by have:=h.lt;simp only [];omega,h.list,h.bc⟩,by simp⟩
 rw [if_neg h6]
 simp only []
 have hlt:=h.lt
 have hm:ls.getD now []∈ls:=by
   rw [List.getD_eq_getElem?_getD,List.getElem?_eq_getElem hlt];exact List.getElem_mem hlt
 generalize ls.getD now []=l at hm
 have Pb:=zM (l:=l) (o:=o)
 have Il:=zN (l:=l) (o:=o) (h.bc l hm) hF hs
 generalize b9 l o=c at *
 split
 . exact ⟨h,by simp⟩
 . rename_i hne
   have he:c.2=0:=Classical.byContradiction fun q=>hne (.inl q)
   refine ⟨⟨by simp;omega, ?_, ?_⟩,by simp;omega⟩
   . intro x hx
     simp only [List.mem_append,List.mem_singleton] at hx
     rcases hx with hx | rfl
     . exact h.list x (List.mem_of_mem_take hx)
     . exact Pb he
   . intro x hx
     simp only [List.mem_append,List.mem_singleton] at hx
     rcases hx with hx | rfl
     . exact h.bc x (List.mem_of_mem_take hx)
     . exact Il
end Go.VL
end

section
set_option linter.unusedVariables false
set_option linter.unusedVariables false
namespace Go.VL
theorem SQ {hid:Id} {ls:List (List FX)} {now:Nat} {σ : aa} (h : σ hid=some (e9 ls now)):gh σ true 2 (.ref hid 0 0)=some { val:=bf ls now,rd:=[hid] }:=by
 rw [mK (bk:=e9 ls now) h rfl,jB];rfl
theorem SR {Ba:Id} {ls ls':List (List FX)} {now YF:Nat} {σ : aa} (h : σ Ba=some (e9 ls now)):eL σ 2 (.ref Ba 0 0) (bf ls' YF)=some { val := .tup [],rd:=[Ba],up:=[(Ba,some (e9 ls' YF))] }:=by
 rw [cA (n:=2) (v:=bf ls' YF) (els:=[bf ls now]) (el:=bf ls now) (k:=2) h rfl rfl (show 0+2<=2 by decide) (of_eq_true (A9 _ _))]
 rfl
theorem zP {σ : aa} {id:Id} {ls:List (List FX)} {a:Nat} {k:Nat} (h : σ id=some ⟨[.agg [.nils, .int .i64 0]],k,false⟩):eL σ 2 (.ref id 0 0) (bf ls a)=some { val := .tup [],rd:=[id],up:=[(id,some ⟨[bf ls a],k,false⟩)] } :=
 jK (x:=qz ls) (b:=a) rfl rfl h
theorem GR {hid Ba:Id} {b b':dC} {σ : aa} {up:List (Id × Option dC)} (hne:hid≠Ba) (hup:∀ x∈up,x.1=hid) (hh:(σ.app up) hid=some b') (hm : σ Ba=some b') (i:Id) :
   (aa.of [(hid,b),(Ba,b)]).app [(hid,some b'),(Ba,some b')] i=none∨(aa.of [(hid,b),(Ba,b)]).app [(hid,some b'),(Ba,some b')] i=(σ.app up) i:=by
 by_cases e1:i=Ba
 . subst e1
   right
   rw [M7 up (fun x hx he=>hne ((hup x hx)▸he)),hm]
   exact aa.a8 _ _ _
 by_cases e2:i=hid
 . subst e2
   right
   rw [hh]
   simp [aa.app,aa.put,e1]
 . left
   have h1:(i==hid)=false:=by simpa using e2
   have h2:(i==Ba)=false:=by simpa using e1
   simp [aa.app,aa.put,e1,e2,aa.of,List.lookup_cons,h1,h2]
structure PH (P:Program) (G:Nat->Option (List AV)) (bc:FX->Prop) (M9 zQ Na zR Nb zS wH D5:FuncId):Prop where
 do_:∀ (ls:List (List FX)) (a:Nat) (o:OX),zO bc ls a->ls.length<=900->bc o.F->VP P G M9 [bf ls a,o.av] (.tup [bf (wF ls a o).1 (wF ls a o).2.1, .int .i64 (wF ls a o).2.2.1, .bool (wF ls a o).2.2.2])
 app:∀ (hid:Id) (ls:List (List FX)) (now:Nat) (l:List FX) (X:FX) (p:Id),ls[now]? = some l->zO bc ls now->ls.length<=900->bc X -> ¬ p <:+ hid ->
   aB P G zQ [.ref hid 0 0,X.av] p [(hid,e9 ls now)] { val := .int .i64 (JB hid ls now l X).1,rd:=[hid],up:=(JB hid ls now l X).2 }
 ed:∀ (hid:Id) (ls:List (List FX)) (now:Nat) (l:List FX) (X:FX) (p:Id),ls[now]? = some l->zO bc ls now->ls.length<=900->bc X -> ¬ p <:+ hid ->
   aB P G Na [.ref hid 0 0,X.av] p [(hid,e9 ls now)] { val := .int .i64 (BJ hid ls now l X).1,rd:=[hid],up:=(BJ hid ls now l X).2 }
 sup:∀ (hid:Id) (ls:List (List FX)) (now:Nat) (l:List FX) (nm:List UInt8) (on:Bool) (p:Id),ls[now]? = some l->zO bc ls now->ls.length<=900 -> ¬ p <:+ hid ->
   aB P G zR [.ref hid 0 0, .str nm, .bool on] p [(hid,e9 ls now)] { val := .int .i64 (JC hid ls now l nm on).1,rd:=[hid],up:=(JC hid ls now l nm on).2 }
 mv:∀ (hid:Id) (ls:List (List FX)) (now:Nat) (l:List FX) (nm:List UInt8) (pP:Int) (p:Id),ls[now]? = some l->zO bc ls now->ls.length<=900 -> ¬ p <:+ hid ->
   aB P G Nb [.ref hid 0 0, .str nm, .int .i64 pP] p [(hid,e9 ls now)] { val := .int .i64 (BL hid ls now l nm pP).1,rd:=[hid],up:=(BL hid ls now l nm pP).2 }
 del:∀ (hid:Id) (ls:List (List FX)) (now:Nat) (l:List FX) (nm:List UInt8) (p:Id),ls[now]? = some l->zO bc ls now->ls.length<=900 -> ¬ p <:+ hid ->
   aB P G zS [.ref hid 0 0, .str nm] p [(hid,e9 ls now)] { val := .int .i64 (JM hid ls now l nm).1,rd:=[hid],up:=(JM hid ls now l nm).2 }
 undo:Has P wH eS
 redo:Has P D5 gE
section
variable {P:Program} {G:Nat->Option (List AV)} {bc:FX->Prop} {f M9 zQ Na zR Nb zS wH D5:FuncId}
set_option maxHeartbeats 4000000 in
theorem Lg (h:Has P f (ey M9 zQ Na zR Nb zS wH D5)) (H:PH P G bc M9 zQ Na zR Nb zS wH D5) {hid Ba:Id} (hne:hid≠Ba) {ls:List (List FX)} {now:Nat} {o:OX} (hI:zO bc ls now) (xN:ls.length<=900) (hF:bc o.F)
   (p:Id) (qR : ¬ p <:+ hid) (aeJ : ¬ p <:+ Ba) :
   aB P G f [.ref hid 0 0, .ref Ba 0 0,o.av] p [(hid,e9 ls now),(Ba,e9 ls now)]
     { val := .bool true,rd:=[hid,Ba],up:=[(hid,some (e9 (wF ls now o).1 (wF ls now o).2.1)),(Ba,some (e9 (wF ls now o).1 (wF ls now o).2.1))] }:=by
 have hnh:∀ q:Id,q++p≠hid:=fun q e=>qR ⟨q,e⟩
 have yi:∀ q:Id,q++p≠Ba:=fun q e=>aeJ ⟨q,e⟩
 have a0:(0::p)≠hid:=hnh [0]
 have a1:(0::p)≠Ba:=yi [0]
 have b0:(11::p)≠hid:=hnh [11]
 have b1:(11::p)≠Ba:=yi [11]
 have O6:(0::p)≠11::p:=by simp
 have sx:∀ j:Nat, ¬ (j::p) <:+ hid:=fun j hs=>qR ((List.suffix_cons j p).trans hs)
 obtain ⟨l,hl⟩:∃ l,ls[now]? = some l:=⟨_,List.getElem?_eq_getElem hI.lt⟩
 have hL:=hI.list l (List.mem_of_getElem? hl)
 have hk7:o.kind%7<7:=Nat.mod_lt _ (by decide)
 have WW:(Ba==hid)=false:=by simpa using Ne.symm hne
 have s0:aa.of [(hid,e9 ls now),(Ba,e9 ls now)] hid=some (e9 ls now):=by simp [aa.of]
 have s1:aa.of [(hid,e9 ls now),(Ba,e9 ls now)] Ba=some (e9 ls now):=by simp [aa.of,List.lookup_cons,WW]
 have hdo:=H.do_ ls now o hI xN hF
 have We:∀ {σ : aa},o.kind%7<5 -> σ hid=some (e9 ls now)->_:=fun {σ} hk hσ => nE (hid:=hid) (o:=o) (σ := σ) hl hL hk hσ
 have Tp:=SP (hid:=hid) (ls:=ls) (now:=now) (l:=l) (o:=o)
 have hmp:=lF ls now
 have hop:=OX.pure o
 have aiK:∀ X:Nat,True:=fun _=>trivial
 refine aB.has h ?_
 simp only [ey,SS,DD,Nat.reduceAdd,OX.one]
 rw [SQ (by rw [aa.bg _ _ _ a1.symm];exact s1)]
 simp only [SS,DD,Nat.reduceAdd,ae,OX.whole]
 refine ax hdo (by simp [hmp,hop]) ?_
 simp only [SS,DD,Nat.reduceAdd,DY,qo,qp,qq]
 rw [zP (k:=(AV.agg [.nils, .int .i64 0]).size) (by simp [aa.put])]
 simp only [SS,DD,Nat.reduceAdd]
 refine ⟨by simp [ar,apart,b1], ?_⟩
 simp only [SS,Nat.reduceAdd,ae,jB]
 rw [SR (ls:=ls) (now:=now) (by simp [aa.put,a1.symm,b1.symm,s1])]
 simp only [SS,Nat.reduceAdd,ai a1,ai O6,ae,OX.p0]
 have hk:o.kind%7=0∨o.kind%7=1∨o.kind%7=2∨o.kind%7=3∨o.kind%7=4∨o.kind%7=5∨o.kind%7=6:=by omega
 rcases hk with hk | hk | hk | hk | hk | hk | hk
 . have hr:bo .rem .int (.int .u8 (o.kind:Int)) (.int .u8 7)=some (.int .u8 0):=by rw [A6,hk];rfl
   have K7:qC hid ls now l o=JB hid ls now l o.F:=by unfold qC;simp [hk]
   have he:=(nE (hid:=hid) (o:=o) (σ := aa.of [(hid,e9 ls now)]) hl hL (by omega) bC).1
   have hf:∀ σ : aa, σ hid=some (e9 ls now)->_:=fun σ hσ => (nE (hid:=hid) (o:=o) (σ := σ) hl hL (by omega) hσ).2
   rw [K7] at he Tp hf
   simp only [SS,Nat.reduceAdd,hr,decide_true,ai a1,ai O6,ae,OX.pF]
   refine ⟨[(hid,e9 ls now)],_,H.app hid ls now l o.F _ hl hI xN hF (sx _),by simp [aa.put,a0.symm,b0.symm,s0,hne],by simp, ?_⟩
   simp only [SS,Nat.reduceAdd,he,decide_true]
   exact aS▸aA rfl (GR hne Tp (hf _ (by simp [aa.put,a0.symm,b0.symm,s0,hne])) (by simp [aa.put]))
 . have hr:bo .rem .int (.int .u8 (o.kind:Int)) (.int .u8 7)=some (.int .u8 1):=by rw [A6,hk];rfl
   have K7:qC hid ls now l o=BJ hid ls now l o.F:=by unfold qC;simp [hk]
   have he:=(nE (hid:=hid) (o:=o) (σ := aa.of [(hid,e9 ls now)]) hl hL (by omega) bC).1
   have hf:∀ σ : aa, σ hid=some (e9 ls now)->_:=fun σ hσ => (nE (hid:=hid) (o:=o) (σ := σ) hl hL (by omega) hσ).2
   rw [K7] at he Tp hf
   simp only [SS,Nat.reduceAdd,hr,(show decide ((1:Int)=0)=false from rfl),decide_true,ai a1,ai O6,ae,OX.pF]
   refine ⟨[(hid,e9 ls now)],_,H.ed hid ls now l o.F _ hl hI xN hF (sx _),by simp [aa.put,a0.symm,b0.symm,s0,hne],by simp, ?_⟩
   simp only [SS,Nat.reduceAdd,he,decide_true]
   exact aS▸aA rfl (GR hne Tp (hf _ (by simp [aa.put,a0.symm,b0.symm,s0,hne])) (by simp [aa.put]))
 . have hr:bo .rem .int (.int .u8 (o.kind:Int)) (.int .u8 7)=some (.int .u8 2):=by rw [A6,hk];rfl
   have K7:qC hid ls now l o=JC hid ls now l o.name o.on:=by unfold qC;simp [hk]
   have he:=(nE (hid:=hid) (o:=o) (σ := aa.of [(hid,e9 ls now)]) hl hL (by omega) bC).1
   have hf:∀ σ : aa, σ hid=some (e9 ls now)->_:=fun σ hσ => (nE (hid:=hid) (o:=o) (σ := σ) hl hL (by omega) hσ).2
   rw [K7] at he Tp hf
   simp only [SS,Nat.reduceAdd,hr,(show decide ((2:Int)=0)=false from rfl),(show decide ((2:Int)=1)=false from rfl),decide_true,ai a1,ai O6,ae,OX.p6,OX.p7]
   refine ⟨[(hid,e9 ls now)],_,H.sup hid ls now l o.name o.on _ hl hI xN (sx _),by simp [aa.put,a0.symm,b0.symm,s0,hne],by simp, ?_⟩
   simp only [SS,Nat.reduceAdd,he,decide_true]
   exact aS▸aA rfl (GR hne Tp (hf _ (by simp [aa.put,a0.symm,b0.symm,s0,hne])) (by simp [aa.put]))
 . have hr:bo .rem .int (.int .u8 (o.kind:Int)) (.int .u8 7)=some (.int .u8 3):=by rw [A6,hk];rfl
   have K7:qC hid ls now l o=BL hid ls now l o.name o.pP:=by unfold qC;simp [hk]
   have he:=(nE (hid:=hid) (o:=o) (σ := aa.of [(hid,e9 ls now)]) hl hL (by omega) bC).1
   have hf:∀ σ : aa, σ hid=some (e9 ls now)->_:=fun σ hσ => (nE (hid:=hid) (o:=o) (σ := σ) hl hL (by omega) hσ).2
   rw [K7] at he Tp hf
   simp only [SS,Nat.reduceAdd,hr,(show decide ((3:Int)=0)=false from rfl),(show decide ((3:Int)=1)=false from rfl),(show decide ((3:Int)=2)=false from rfl),decide_true,ai a1,ai O6,ae,OX.p6,OX.p8]
   refine ⟨[(hid,e9 ls now)],_,H.mv hid ls now l o.name o.pP _ hl hI xN (sx _),by simp [aa.put,a0.symm,b0.symm,s0,hne],by simp, ?_⟩
   simp only [SS,Nat.reduceAdd,he,decide_true]
   exact aS▸aA rfl (GR hne Tp (hf _ (by simp [aa.put,a0.symm,b0.symm,s0,hne])) (by simp [aa.put]))
 . have hr:bo .rem .int (.int .u8 (o.kind:Int)) (.int .u8 7)=some (.int .u8 4):=by rw [A6,hk];rfl
   have K7:qC hid ls now l o=JM hid ls now l o.name:=by unfold qC;simp [hk]
   have he:=(nE (hid:=hid) (o:=o) (σ := aa.of [(hid,e9 ls now)]) hl hL (by omega) bC).1
   have hf:∀ σ : aa, σ hid=some (e9 ls now)->_:=fun σ hσ => (nE (hid:=hid) (o:=o) (σ := σ) hl hL (by omega) hσ).2
   rw [K7] at he Tp hf
   simp only [SS,Nat.reduceAdd,hr,(show decide ((4:Int)=0)=false from rfl),(show decide ((4:Int)=1)=false from rfl),(show decide ((4:Int)=2)=false from rfl),(show decide ((4:Int)=3)=false from rfl),decide_true,ai a1,ai O6,ae,OX.p6]
   refine ⟨[(hid,e9 ls now)],_,H.del hid ls now l o.name _ hl hI xN (sx _),by simp [aa.put,a0.symm,b0.symm,s0,hne],by simp, ?_⟩
   simp only [SS,Nat.reduceAdd,he,decide_true]
   exact aS▸aA rfl (GR hne Tp (hf _ (by simp [aa.put,a0.symm,b0.symm,s0,hne])) (by simp [aa.put]))
 . have hr:bo .rem .int (.int .u8 (o.kind:Int)) (.int .u8 7)=some (.int .u8 5):=by rw [A6,hk];rfl
   have TR:=hI.lt
   by_cases h0:now=0
   . have hd:wF ls now o=(ls,now,0,false):=by unfold wF;rw [if_pos hk,if_pos h0]
     have hu:∀ p,aB P G wH [.ref hid 0 0] p [(hid,e9 ls now)] { val := .bool false,rd:=[hid],up:=[] }:=fun p=>by
       have:=D0 (G:=G) H.undo (hid:=hid) (ls:=ls) (now:=now) (by omega) p
       rwa [if_pos h0,ak (by omega : ¬ now≠0)] at this
     simp only [hd]
     simp only [SS,Nat.reduceAdd,hr,(show decide ((5:Int)=0)=false from rfl),(show decide ((5:Int)=1)=false from rfl),(show decide ((5:Int)=2)=false from rfl),(show decide ((5:Int)=3)=false from rfl),(show decide ((5:Int)=4)=false from rfl),decide_true]
     refine ⟨[(hid,e9 ls now)],_,hu _,by simp [aa.put,a0.symm,b0.symm,s0,hne],by simp, ?_⟩
     simp only [SS,Nat.reduceAdd]
     exact aS▸aA rfl (GR hne (up:=[]) (by simp) (by simp [aa.put,aa.app,a0.symm,b0.symm,s0,hne]) (by simp [aa.put]))
   . have hd:wF ls now o=(ls,now-1,0,true):=by unfold wF;rw [if_pos hk,if_neg h0]
     have hu:∀ p,aB P G wH [.ref hid 0 0] p [(hid,e9 ls now)] { val := .bool true,rd:=[hid],up:=[(hid,some (e9 ls (now-1)))] }:=fun p=>by
       have:=D0 (G:=G) H.undo (hid:=hid) (ls:=ls) (now:=now) (by omega) p
       rwa [if_neg h0,ao (by omega:now≠0)] at this
     simp only [hd]
     simp only [SS,Nat.reduceAdd,hr,(show decide ((5:Int)=0)=false from rfl),(show decide ((5:Int)=1)=false from rfl),(show decide ((5:Int)=2)=false from rfl),(show decide ((5:Int)=3)=false from rfl),(show decide ((5:Int)=4)=false from rfl),decide_true]
     refine ⟨[(hid,e9 ls now)],_,hu _,by simp [aa.put,a0.symm,b0.symm,s0,hne],by simp, ?_⟩
     simp only [SS,Nat.reduceAdd]
     exact aS▸aA rfl (GR hne (up:=[(hid,some (e9 ls (now-1)))]) (by simp) (by simp [aa.put,aa.app]) (by simp [aa.put]))
 . have hr:bo .rem .int (.int .u8 (o.kind:Int)) (.int .u8 7)=some (.int .u8 6):=by rw [A6,hk];rfl
   have TR:=hI.lt
   by_cases h0:now+1=ls.length
   . have hd:wF ls now o=(ls,now,0,false):=by unfold wF;rw [if_neg (by omega),if_pos hk,if_pos h0]
     have hu:∀ p,aB P G D5 [.ref hid 0 0] p [(hid,e9 ls now)] { val := .bool false,rd:=[hid],up:=[] }:=fun p=>by
       have:=D1 (G:=G) H.redo (hid:=hid) (ls:=ls) (now:=now) (by omega) TR p
       rwa [if_pos h0,ak (by omega : ¬ now+1≠ls.length)] at this
     simp only [hd]
     simp only [SS,Nat.reduceAdd,hr,(show decide ((6:Int)=0)=false from rfl),(show decide ((6:Int)=1)=false from rfl),(show decide ((6:Int)=2)=false from rfl),(show decide ((6:Int)=3)=false from rfl),(show decide ((6:Int)=4)=false from rfl),(show decide ((6:Int)=5)=false from rfl)]
     refine ⟨[(hid,e9 ls now)],_,hu _,by simp [aa.put,a0.symm,b0.symm,s0,hne],by simp, ?_⟩
     simp only [SS,Nat.reduceAdd]
     exact aS▸aA rfl (GR hne (up:=[]) (by simp) (by simp [aa.put,aa.app,a0.symm,b0.symm,s0,hne]) (by simp [aa.put]))
   . have hd:wF ls now o=(ls,now+1,0,true):=by unfold wF;rw [if_neg (by omega),if_pos hk,if_neg h0]
     have hu:∀ p,aB P G D5 [.ref hid 0 0] p [(hid,e9 ls now)] { val := .bool true,rd:=[hid],up:=[(hid,some (e9 ls (now+1)))] }:=fun p=>by
       have:=D1 (G:=G) H.redo (hid:=hid) (ls:=ls) (now:=now) (by omega) TR p
       rwa [if_neg h0,ao (by omega:now+1≠ls.length)] at this
     simp only [hd]
     simp only [SS,Nat.reduceAdd,hr,(show decide ((6:Int)=0)=false from rfl),(show decide ((6:Int)=1)=false from rfl),(show decide ((6:Int)=2)=false from rfl),(show decide ((6:Int)=3)=false from rfl),(show decide ((6:Int)=4)=false from rfl),(show decide ((6:Int)=5)=false from rfl)]
     refine ⟨[(hid,e9 ls now)],_,hu _,by simp [aa.put,a0.symm,b0.symm,s0,hne],by simp, ?_⟩
     simp only [SS,Nat.reduceAdd]
     exact aS▸aA rfl (GR hne (up:=[(hid,some (e9 ls (now+1)))]) (by simp) (by simp [aa.put,aa.app]) (by simp [aa.put]))
end
end Go.VL
end

section
set_option linter.unusedVariables false
set_option linter.unusedVariables false
namespace Go.VL
theorem SU {σ : aa} {p q:Id} {X:FX} (hq : σ q=some ⟨[X.av],5,false⟩):b6 σ p 5 80 .nils (.osl q 5 0 1 false)=some { val := .osl p 5 0 1 false,rd:=[q],up:=[(p,some ⟨[X].map FX.av,5,false⟩)] } :=
 uh (x := .osl q 5 0 1 false) (ys:=[X.av]) (oV hq) (by simp) (by simp) (cK (by simp)) (nD [X])
theorem O7 {l:List FX} {i:Nat} {X:FX} (h:l[i]? = some X):l.take (i+1)=l.take i++[X]:=by rw [List.take_add_one,h];rfl
def ym (id:Id) (l:List FX):AV:=if l=[] then .nils else .osl id 5 0 l.length false
section
variable {P:Program} {G:Nat->Option (List AV)}
set_option maxHeartbeats 2000000 in
theorem GU {f fp z8:FuncId} (h:Has P f (dK fp z8)) (hp:Has P fp bD) {hid:Id} {ls:List (List FX)} {now:Nat} {l:List FX} (hl:ls[now]? = some l) (hlen:l.length<=1000)
   (uU:∀ X∈l,VP P G z8 [X.av] X.av) (p:Id) (qR : ¬ p <:+ hid) :
   aB P G f [.ref hid 0 0] p [(hid,e9 ls now)] { val:=dr l,rd:=[hid] }:=by
 have hne:∀ q:Id,q++p≠hid:=fun q e=>qR ⟨q,e⟩
 have I2:∀ q:Nat,q::p≠hid:=fun q=>hne [q]
 refine aB.has h ?_
 simp only [dK,SS,Nat.reduceAdd]
 refine ⟨[(hid,e9 ls now)],_,jL hp hl _,by simp [bC],by simp, ?_⟩
 simp only [SS,Nat.reduceAdd,my,aC]
 refine VW.bJ (α := Nat × Nat × Nat) (fun x=>⟨[.ref hid 0 0, .top, .top,ym (x.2.1::p) (l.take x.1), .top, .top, .top,dr l, .int .i64 (l.length:Int), .int .i64 (x.1:Int)]++List.replicate 10 .top,
     (aa.of [(hid,e9 ls now)]).put (x.2.1::p) (if l.take x.1=[] then none else some ⟨(l.take x.1).map FX.av,5,false⟩),x.2.2⟩)
   (fun x=>x.1<=l.length/\x.2.1<x.2.2) (fun x=>l.length-x.1) (0,0,1000) ?_ ⟨Nat.zero_le _,by simp only [];omega⟩ ?_
 . refine Wk.forget (by simp [Fg,List.replicate,ym]) (fun j => ?_) (by simp only [];omega)
   by_cases h1:j=0::p
   . subst h1;left;simp [aa.put]
   . right;simp [aa.put,h1]
 rintro ⟨i,ck,nn⟩ ⟨hi,Rl⟩
 simp only [] at hi Rl
 have Es:(l.take i).length=i:=by rw [List.length_take];omega
 by_cases hlt:i<l.length
 . obtain ⟨X,hX⟩:∃ X,l[i]? = some X:=⟨_,List.getElem?_eq_getElem hlt⟩
   have hm:=List.mem_of_getElem? hX
   have dd:decide ((i:Int)<(l.length:Int))=true:=ao (by omega)
   have hg:(l.map FX.av)[i]? = some X.av:=by rw [List.getElem?_map,hX];rfl
   have iA:br 5 (dr l) (.int .i64 (i:Int))=some (.ep X.av.cells 0):=aQ rfl hg
   have WC:af X.av:=FX.pure X
   have hn:=O7 hX
   have Lq:=uU X hm
   generalize sw:l.take i=m at *
   simp only [SS,Nat.reduceAdd,List.replicate,dd,iA,az,FX.whole,jb]
   rw [oh (k:=(AV.agg [.str [], .int .i64 0, .nils, .nils, .bool false]).size) (by simp [aa.put])]
   simp only [SS,Nat.reduceAdd,ae,FX.whole]
   refine aj Lq (by simp [WC]) ?_
   simp only [SS,Nat.reduceAdd,xE]
   by_cases h0:m=[]
   . have e0:ym (ck::p) m = .nils:=if_pos h0
     rw [e0,SU (X:=X) (by simp [aa.put])]
     simp only [SS,Nat.reduceAdd,aq i (by omega)]
     refine ⟨(i+1,nn+1+4+4,nn+1000),⟨by simp only [];omega,by simp only [];omega⟩,by simp only [];omega, ?_⟩
     simp only [hn,h0,List.nil_append]
     refine Wk.forget (by simp [Fg,ym]) (fun j => ?_) (by omega)
     by_cases h1:j=(nn+1+4+4)::p
     . right;subst h1;simp [aa.put]
     . by_cases h2:j=hid
       . right;subst h2;simp [aa.put,(I2 _).symm]
       . left;simp [aa.put,h1,aa.of,h2]
   . have e0:ym (ck::p) m = .osl (ck::p) 5 0 m.length false:=if_neg h0
     have q1 : ¬ ck=nn+1+2:=by omega
     have q2 : ¬ ck=nn+1+4+3:=by omega
     rw [e0,wD (l:=m) (X:=X) (by simp [aa.put,q1,q2,h0]) (by simp [aa.put]) (by omega)]
     simp only [SS,Nat.reduceAdd,aq i (by omega)]
     refine ⟨(i+1,nn+1+4+4,nn+1000),⟨by simp only [];omega,by simp only [];omega⟩,by simp only [];omega, ?_⟩
     have Jh : ¬ m++[X]=[]:=by simp
     simp only [hn,ym,if_neg Jh]
     refine Wk.forget (by simp [Fg]) (fun j => ?_) (by omega)
     by_cases h1:j=(nn+1+4+4)::p
     . right;subst h1;simp [aa.put]
     . by_cases h2:j=hid
       . right;subst h2;simp [aa.put,(I2 _).symm]
       . left;simp [aa.put,h1,aa.of,h2]
 . have dd:decide ((i:Int)<(l.length:Int))=false:=ak (by omega)
   have LA:l.take i=l:=List.take_of_length_le (by omega)
   simp only [LA]
   simp only [SS,Nat.reduceAdd,List.replicate,dd]
   by_cases h0:l=[]
   . have e0:ym (ck::p) l = .nils:=if_pos h0
     rw [e0]
     refine aS▸⟨.nils,rfl,Fin.rC [] (by simp) (kR.view (by rw [h0];exact View.nils 5)) fun j => ?_⟩
     by_cases h2:j=hid
     . subst h2
       refine .inr ⟨e9 ls now,e9 ls now,by simp [aa.put,(I2 _).symm,bC],by simp [aa.app,bC],rfl, .inl rfl,fun _ x hx=>by simp at hx,rfl, ?_,eW.same _ _⟩
       intro e he;simp [e9] at he;subst he;rfl
     . left;simp [aa.app,aa.of,h2]
   . have e0:ym (ck::p) l = .osl (ck::p) 5 0 l.length false:=if_neg h0
     rw [e0]
     refine aS▸⟨.osl (ck::p) 5 0 l.length false,rfl,Fin.rC [(ck::p,⟨l.map FX.av,5,false⟩)] (by intro x hx;simp only [List.mem_singleton] at hx;subst hx;simp [aa.put,h0]) (kR.view (dU bC)) fun j => ?_⟩
     by_cases h2:j=hid
     . subst h2
       refine .inr ⟨e9 ls now,e9 ls now,by simp [aa.put,(I2 _).symm,bC],by simp [aa.app,bC],rfl, .inl rfl,fun _ x hx=>by simp only [List.mem_singleton] at hx;subst hx;exact I2 _,rfl, ?_,eW.same _ _⟩
       intro e he;simp [e9] at he;subst he;rfl
     . left;simp [aa.app,aa.of,h2]
end
end Go.VL
end

section
set_option linter.unusedVariables false
set_option linter.unusedVariables false
namespace Go.VL
def nN (l:List OX):AV := .sl 9 (l.map OX.av)
theorem GV (l:List OX):jM false (nN l)=some (.int .i64 (l.length:Int)):=by simp [nN,jM]
theorem JN (l:List OX):af (nN l):=af.sl (by
 intro c hc
 simp only [flat,List.mem_flatMap,List.mem_map] at hc
 obtain ⟨v,⟨o,_,rfl⟩,hc⟩:=hc
 simp [OX.av,AV.cells] at hc
 rcases hc with rfl | rfl | rfl | rfl | rfl | rfl | rfl | rfl | rfl
 . exact af.int _ _
 . exact af.str _
 . exact af.int _ _
 . exact gX _
 . exact EX.eJ _
 . exact af.bool _
 . exact af.str _
 . exact af.bool _
 . exact af.int _ _)
theorem SV {l:List OX} {i:Nat} {o:OX} (h:l[i]? = some o):br 9 (nN l) (.int .i64 (i:Int))=some (.ep o.av.cells 0):=aQ rfl (by rw [List.getElem?_map,h];rfl)
theorem SW:((AV.agg [.int .u8 0, .str [], .int .i64 0, .nils, .nils, .bool false, .str [], .bool false, .int .i64 0]).cells.all AV.one=true)=True:=by simp [AV.cells,AV.one]
theorem JO {σ : aa} {id:Id} {o:OX} {k:Nat} (h : σ id=some ⟨[.agg [.int .u8 0, .str [], .int .i64 0, .nils, .nils, .bool false, .str [], .bool false, .int .i64 0]],k,false⟩):eL σ 9 (.ref id 0 0) o.av=some { val := .tup [],rd:=[id],up:=[(id,some ⟨[o.av],k,false⟩)] }:=by
 rw [cA (n:=9) (v:=o.av) h rfl rfl (by simp [AV.size,AV.cells]) (of_eq_true (OX.one o))]
 rfl
def uF (o:OX):Bool:=o.F.small&&decide (o.name.length<=100)
def kt (l:List OX):Bool:=l.all uF&&decide (l.length<=40)
noncomputable def FT (s:List (List FX) × Nat) (o:OX):List (List FX) × Nat:=((wF s.1 s.2 o).1,(wF s.1 s.2 o).2.1)
noncomputable def qS (l:List OX):List (List FX) × Nat:=l.foldl FT ([[]],0)
theorem JP (l:List OX) (o:OX):qS (l++[o])=FT (qS l) o:=by unfold qS;rw [List.foldl_append];rfl
theorem Nc {bc:FX->Prop} (hs:∀ X b,bc X->bc (X.bM b)) {l:List OX} (hg:∀ o∈l,bc o.F) (i:Nat):zO bc (qS (l.take i)).1 (qS (l.take i)).2/\(qS (l.take i)).1.length<=i+1:=by
 induction i with
 | zero=>exact ⟨Vq bc,by simp [qS]⟩
 | succ i ih =>
   rcases Nat.lt_or_ge i l.length with h | h
   . rw [List.take_add_one,List.getElem?_eq_getElem h,Option.toList_some,JP]
     have:=YE (o:=l[i]) ih.1 (hg _ (List.getElem_mem h)) hs
     exact ⟨this.1,by have h2:=this.2;have h3:=ih.2;unfold FT;simp only [];omega⟩
   . rw [List.take_of_length_le (by omega)]
     rw [List.take_of_length_le h] at ih
     exact ⟨ih.1,by have:=ih.2;omega⟩
theorem abB {a b c:Nat} {p:Id} (h:a≠c) : ¬ (a::p) <:+ (b::c::p):=fun hs=>by
 rcases List.suffix_cons_iff.1 hs with h1 | h1
 . have:=congrArg List.length h1;simp at this
 . have:=h1.eq_of_length (by simp);simp at this;exact h this
theorem abC {a c:Nat} {p:Id} (h:a≠c) : ¬ (a::p) <:+ (c::p):=fun hs=>by
 have:=hs.eq_of_length (by simp);simp at this;exact h this
section
variable {P:Program} {G:Nat->Option (List AV)} {bc:FX->Prop} {f fs GX zT zU M9 zQ Na zR Nb zS wH D5:FuncId}
theorem Lh (h:Has P f (j0 fs)) (l:List OX) (hl:l.length<=9223372036854775807) (yw:∀ o∈l,o.name.length<=9223372036854775807) (hS:∀ o∈l,VP P G fs [o.F.av] (.bool o.F.small)):VP P G f [nN l] (.bool (kt l)):=by
 refine VP.has h ?_
 simp only [j0,SS,Nat.reduceAdd,GV,aC]
 refine VW.bJ (α := Nat × Nat) (fun x=>⟨[nN l, .top, .top, .top, .top,nN l, .int .i64 (l.length:Int), .int .i64 (x.1:Int)]++List.replicate 17 .top,fun _=>none,x.2⟩)
   (fun x=>x.1<=l.length/\∀ (j:Nat) o,j<x.1->l[j]? = some o->uF o=true) (fun x=>l.length-x.1) (0,1000) ?_ ⟨Nat.zero_le _,fun j o hj=>absurd hj (Nat.not_lt_zero j)⟩ ?_
 . exact Wk.slots (by simp [Fg,List.replicate]) (by omega)
 rintro ⟨i,nn⟩ ⟨hi,cz⟩
 simp only [] at hi cz
 by_cases hlt:i<l.length
 . obtain ⟨o,ho⟩:∃ o,l[i]? = some o:=⟨_,List.getElem?_eq_getElem hlt⟩
   have hm:=List.mem_of_getElem? ho
   have dd:decide ((i:Int)<(l.length:Int))=true:=ao (by omega)
   have hpF:af o.F.av:=FX.pure o.F
   have Sb:uF o=false->kt l=false:=fun hb=>by
     unfold kt
     rw [List.all_eq_false.2 ⟨o,hm,by rw [hb];decide⟩,Bool.false_and]
   simp only [SS,Nat.reduceAdd,List.replicate,dd,SV ho,az,OX.whole,SW]
   rw [JO (k:=(AV.agg [.int .u8 0, .str [], .int .i64 0, .nils, .nils, .bool false, .str [], .bool false, .int .i64 0]).size) (by simp [aa.put])]
   simp only [SS,Nat.reduceAdd,ae,OX.pF]
   refine aj (hS o hm) (by simp [hpF]) ?_
   cases hsm:o.F.small
   . simp only [SS,Nat.reduceAdd]
     rw [Sb (by unfold uF;rw [hsm];rfl)]
     exact ag▸ab rfl (af.bool _)
   simp only [SS,Nat.reduceAdd,ae,OX.p6]
   by_cases hn:o.name.length<=100
   . have d1:decide ((100:Int)<(o.name.length:Int))=false:=ak (by omega)
     simp only [SS,Nat.reduceAdd,d1,aq i (by omega)]
     refine ⟨(i+1,nn+1000),⟨by simp only [];omega, ?_⟩,by simp only [];omega,Wk.forget (by simp [Fg]) (fun j => .inl rfl) (by omega)⟩
     intro j o' hj hjo
     by_cases Ce:j<i
     . exact cz j o' Ce hjo
     . have:j=i:=by simp only [] at hj;omega
       subst this;rw [ho] at hjo;simp only [Option.some.injEq] at hjo;subst hjo
       unfold uF;rw [hsm,ao hn];rfl
   . have d1:decide ((100:Int)<(o.name.length:Int))=true:=ao (by omega)
     simp only [SS,d1]
     rw [Sb (by unfold uF;rw [ak hn,Bool.and_false])]
     exact ag▸ab rfl (af.bool _)
 . have dd:decide ((i:Int)<(l.length:Int))=false:=ak (by omega)
   have e:kt l=decide ((l.length:Int)<=40):=by
     unfold kt
     rw [List.all_eq_true.2 fun o ho=>by
       obtain ⟨j,hj,rfl⟩:=List.getElem_of_mem ho
       exact cz j _ (by omega) (List.getElem?_eq_getElem hj),Bool.true_and]
     by_cases q:l.length<=40
     . rw [ao q,ao (by omega)]
     . rw [ak q,ak (by omega)]
   rw [e]
   simp only [SS,Nat.reduceAdd,List.replicate,dd,GV]
   exact ag▸ab rfl (af.bool _)
set_option maxHeartbeats 2000000 in
theorem Vr (h:Has P f (ir GX zT zU)) (hn:Has P GX kx) (PG:Has P zT fX) (hpf:Has P zU (ey M9 zQ Na zR Nb zS wH D5)) (H:PH P G bc M9 zQ Na zR Nb zS wH D5)
   (hs:∀ X b,bc X->bc (X.bM b)) {l:List OX} (hg:∀ o∈l,bc o.F) (hl:l.length<=100) (p:Id) :
   aB P G f [nN l] p [] { val := .tup [.ref (3::3::p) 0 0,bf (qS l).1 (qS l).2, .bool true],up:=[(3::3::p,some (e9 (qS l).1 (qS l).2))] }:=by
 refine aB.has h ?_
 simp only [ir,SS,Nat.reduceAdd,DY]
 refine ⟨[],_,Vj hn _,by simp,by simp, ?_⟩
 simp only [SS,Nat.reduceAdd]
 refine aj (Yz PG) (by simp) ?_
 simp only [SS,Nat.reduceAdd,DY]
 rw [zP (k:=(AV.agg [.nils, .int .i64 0]).size) (by simp [aa.put])]
 simp only [SS,Nat.reduceAdd,GV,aC]
 have k1:(1::p)≠(3::3::p):=fun e=>by have:=congrArg List.length e;simp at this
 have k2:(5::p)≠(3::3::p):=fun e=>by have:=congrArg List.length e;simp at this
 have k3:(1::p)≠(5::p):=by simp
 refine VW.bJ (α := Nat × Nat) (fun x=>⟨[nN l, .top, .top, .ref (1::p) 0 0, .top, .ref (3::3::p) 0 0, .ref (5::p) 0 0, .top, .top, .top, .top, .top, .top, .top,nN l, .int .i64 (l.length:Int), .int .i64 (x.1:Int)]++List.replicate 11 .top,
     aa.put (aa.put (aa.put (fun _=>none) (1::p) (some ⟨[.agg [.nils, .int .i64 0]],2,false⟩)) (3::3::p) (some (e9 (qS (l.take x.1)).1 (qS (l.take x.1)).2))) (5::p) (some (e9 (qS (l.take x.1)).1 (qS (l.take x.1)).2)),x.2⟩)
   (fun x=>x.1<=l.length/\1000<=x.2) (fun x=>l.length-x.1) (0,1000) ?_ ⟨Nat.zero_le _,Nat.le_refl _⟩ ?_
 . refine Wk.forget (by simp [Fg,List.replicate]) (fun j => ?_) (by omega)
   by_cases h5:j=5::p
   . subst h5;right;simp [aa.put,qS,e9];rfl
   by_cases h3:j=3::3::p
   . subst h3;right;simp [aa.put,qS,k2.symm]
   by_cases h1:j=1::p
   . subst h1;right;simp [aa.put,k1,k3];rfl
   . left;simp [aa.put,h1,h3,h5]
 rintro ⟨i,nn⟩ ⟨hi,TL⟩
 simp only [] at hi TL
 obtain ⟨hI,hIl⟩:=Nc hs hg i
 by_cases hlt:i<l.length
 . obtain ⟨o,ho⟩:∃ o,l[i]? = some o:=⟨_,List.getElem?_eq_getElem hlt⟩
   have hm:=List.mem_of_getElem? ho
   have dd:decide ((i:Int)<(l.length:Int))=true:=ao (by omega)
   have hrun:qS (l.take (i+1))=FT (qS (l.take i)) o:=by rw [List.take_add_one,ho,Option.toList_some,JP]
   have hop:=OX.pure o
   generalize qS (l.take i)=s at *
   obtain ⟨ls,a⟩:=s
   simp only [] at hI hIl
   simp only [SS,Nat.reduceAdd,List.replicate,dd,SV ho,az,OX.whole,SW]
   rw [JO (k:=(AV.agg [.int .u8 0, .str [], .int .i64 0, .nils, .nils, .bool false, .str [], .bool false, .int .i64 0]).size) (by simp [aa.put])]
   simp only [SS,Nat.reduceAdd,ae,OX.whole]
   have n2 : ¬ nn=2:=by omega
   have Qx:=Lg (p:=(nn+1+4+2)::p) hpf H k2.symm hI (by omega) (hg o hm) (abB (by omega)) (abC (by omega))
   refine ⟨[(3::3::p,e9 ls a),(5::p,e9 ls a)],_,Qx, ?_, ?_, ?_⟩
   . intro x hx
     simp only [List.mem_cons,List.not_mem_nil,or_false] at hx
     rcases hx with rfl | rfl
     . simp [aa.put,k2.symm];try omega
     . simp [aa.put,n2]
   . intro x hx
     simp only [List.mem_cons,List.not_mem_nil,or_false] at hx
     rcases hx with rfl | rfl<;>simp
   simp only [SS,Nat.reduceAdd,aq i (by omega)]
   refine ⟨(i+1,nn+1000),⟨by simp only [];omega,by simp only [];omega⟩,by simp only [];omega, ?_⟩
   simp only [hrun]
   refine Wk.forget (by simp [Fg]) (fun j => ?_) (by omega)
   by_cases h5:j=5::p
   . subst h5;right;simp [aa.put,FT]
   by_cases h3:j=3::3::p
   . subst h3;right;simp [aa.put,FT,k2.symm]
   by_cases h1:j=1::p
   . subst h1;right;simp [aa.put,k1,k3];try omega
   . left;simp [aa.put,h1,h3,h5]
 . have dd:decide ((i:Int)<(l.length:Int))=false:=ak (by omega)
   have LA:l.take i=l:=List.take_of_length_le (by omega)
   rw [LA] at hI
   simp only [LA]
   generalize qS l=s at *
   obtain ⟨ls,a⟩:=s
   simp only [SS,DD,Nat.reduceAdd,List.replicate,dd]
   rw [SQ (ls:=ls) (now:=a) (aa.a8 _ _ _)]
   simp only [SS,DD,Nat.reduceAdd]
   rw [zP (k:=2) (by simp [aa.put,k1,k3])]
   simp only [SS,DD,Nat.reduceAdd]
   refine ⟨by simp [ar], ?_⟩
   refine aS▸aA ?_ fun j => ?_
   . simp only [RS,bP,cu,ae,jB]
   . by_cases h3:j=3::3::p
     . subst h3;right;simp [aa.put,aa.app,k2.symm,k1.symm]
     . left;simp [aa.put,aa.app,h3,aa.of]
end
end Go.VL
end

section
set_option linter.unusedVariables false
set_option linter.unusedVariables false
namespace Go.VL
structure LH (P:Program) (G:Nat->Option (List AV)) (bc:FX->Prop) (Zc Vh FU YG SX FV JQ GX zT zU fp z8 M9 zQ Na zR Nb zS wH D5:FuncId):Prop where
 aw:VP P G Zc [] (.bool true)
 play:Has P FU (ir GX zT zU)
 new:Has P GX kx
 new2:Has P zT fX
 perf:Has P zU (ey M9 zQ Na zR Nb zS wH D5)
 ph:PH P G bc M9 zQ Na zR Nb zS wH D5
 fe:Has P YG (dK fp z8)
 pres:Has P fp bD
 clone:∀ X,bc X->VP P G z8 [X.av] X.av
 now:Has P SX iF
 same:∀ l m:List FX,l.length<=1000->m.length<=1000->(∀ X∈l,bc X)->(∀ X∈m,bc X)->VP P G FV [dr l,dr m] (.bool (gY l m))
 list:∀ l:List FX,l.length<=1000->(∀ X∈l,bc X)->VP P G JQ [dr l] (.bool (eg l))
 supp:∀ X b,bc X->bc (X.bM b)
section
variable {P:Program} {G:Nat->Option (List AV)} {bc:FX->Prop} {f Zc Vh FU YG SX FV JQ GX zT zU fp z8 M9 zQ Na zR Nb zS wH D5:FuncId}
theorem LH.JR (H:LH P G bc Zc Vh FU YG SX FV JQ GX zT zU fp z8 M9 zQ Na zR Nb zS wH D5) {hid:Id} {ls:List (List FX)} {now:Nat} {l:List FX} (hI:zO bc ls now) (hl:ls[now]? = some l) (p:Id) (qR : ¬ p <:+ hid) :
   aB P G YG [.ref hid 0 0] p [(hid,e9 ls now)] { val:=dr l,rd:=[hid] } :=
 GU H.fe H.pres hl (Nat.le_trans (iB (hI.list l (List.mem_of_getElem? hl))) (by omega)) (fun X hX=>H.clone X (hI.bc l (List.mem_of_getElem? hl) X hX)) p qR
end
end Go.VL
end

section
set_option linter.unusedVariables false
set_option linter.unusedVariables false
namespace Go.VL
theorem Vs {i:Nat} (h:i<=1000000):IntKind.i64.wrap ((i:Int)-1)=(i:Int)-1:=by
 rcases Nat.eq_zero_or_pos i with rfl | hp
 . rfl
 . rw [oi (by omega) h];omega
theorem abD {a b c d:Nat} {p:Id} (h:a≠d) : ¬ (a::p) <:+ (b::c::d::p):=fun hs=>by
 rcases List.suffix_cons_iff.1 hs with h1 | h1
 . have:=congrArg List.length h1;simp at this
 . exact abB h h1
section
variable {P:Program} {G:Nat->Option (List AV)} {bc:FX->Prop} {f Zc Vh FU YG SX FV JQ GX zT zU fp z8 M9 zQ Na zR Nb zS wH D5:FuncId}
set_option maxHeartbeats 2000000 in
theorem Li (h:Has P f (fk Zc Vh FU YG FV wH D5)) (H:LH P G bc Zc Vh FU YG SX FV JQ GX zT zU fp z8 M9 zQ Na zR Nb zS wH D5)
   {l:List OX} (hsm:VP P G Vh [nN l] (.bool (kt l))) (hg:kt l=true->∀ o∈l,bc o.F):VP P G f [nN l] (.bool true):=by
 refine VP.has h ?_
 have hop:=JN l
 simp only [fk,SS,Nat.reduceAdd]
 refine aj H.aw (by simp) ?_
 simp only [SS,Nat.reduceAdd]
 refine aj hsm (by simp [hop]) ?_
 cases hb:kt l
 . simp only [SS,Nat.reduceAdd]
   refine aj H.aw (by simp) ?_
   simp only [SS,Nat.reduceAdd]
   exact ag▸ab rfl (af.bool _)
 have Rv:=hg hb
 have hlen:l.length<=40:=by unfold kt at hb;simp at hb;exact hb.2
 obtain ⟨hI,hIl⟩:=Nc H.supp Rv l.length
 rw [List.take_length] at hI hIl
 simp only [SS,Nat.reduceAdd]
 refine ⟨[],_,Vr H.play H.new H.new2 H.perf H.ph H.supp Rv (by omega) _,by simp,by simp, ?_⟩
 generalize qS l=s at *
 obtain ⟨ls,a⟩:=s
 simp only [] at hI hIl
 have Gg:=hI.lt
 have TN:∀ (i:Nat) m,ls[i]? = some m->m.length<=200/\(∀ X∈m,bc X):=fun i m hm=>⟨iB (hI.list m (List.mem_of_getElem? hm)),hI.bc m (List.mem_of_getElem? hm)⟩
 have hIn:∀ i,i<ls.length->zO bc ls i:=fun i hi=>⟨hi,hI.list,hI.bc⟩
 simp only [SS,Nat.reduceAdd,qo,qp,qq,DY]
 rw [zP (k:=(AV.agg [.nils, .int .i64 0]).size) (by simp [aa.put])]
 simp only [SS,Nat.reduceAdd,ae,jA,aC]
 have e0:(((a+1:Nat):Int)-1)=(a:Int):=by omega
 refine VW.bJ (α := Nat × Nat) (fun x=>⟨[nN l, .top, .top, .ref [3,3,9] 0 0, .ref [14] 0 0, .top, .int .i64 ((x.1:Int)-1)]++List.replicate 66 .top,
     aa.put (aa.put (fun _=>none) [3,3,9] (some (e9 ls (x.1-1)))) [14] (some ⟨[bf ls a],2,false⟩),x.2⟩)
   (fun x=>x.1<=a+1/\1000<=x.2) (fun x=>x.1) (a+1,1000) ?_ ⟨Nat.le_refl _,Nat.le_refl _⟩ ?_
 . simp only [e0,Nat.add_sub_cancel]
   refine Wk.forget (by simp [Fg,List.replicate]) (fun j => ?_) (by omega)
   by_cases h5:j=[14]
   . subst h5;right;simp [aa.put];rfl
   by_cases h3:j=[3,3,9]
   . subst h3;right;simp [aa.put]
   . left;simp [aa.put,h3,h5]
 rintro ⟨j,nn⟩ ⟨hj,TL⟩
 simp only [] at hj TL
 by_cases hj0:j=0
 case neg =>
   obtain ⟨i,rfl⟩:∃ i,j=i+1:=⟨j-1,by omega⟩
   have hi:i<ls.length:=by omega
   have ei:(((i+1:Nat):Int)-1)=(i:Int):=by omega
   obtain ⟨m,hm⟩:∃ m,ls[i]? = some m:=⟨_,List.getElem?_eq_getElem hi⟩
   obtain ⟨hml,hmg⟩:=TN i m hm
   have dd:decide ((0:Int)<=(i:Int))=true:=ao (by omega)
   have dg:decide ((0:Int)<(i:Int))=decide (i≠0):=by
     by_cases q:i=0
     . rw [ak (by omega : ¬ i≠0),ak (by omega)]
     . rw [ao q,ao (by omega)]
   have hu:=fun p=>D0 (G:=G) H.ph.undo (hid:=[3,3,9]) (ls:=ls) (now:=i) (by omega) p
   have k1:([14]:List Nat)≠[3,3,9]:=by decide
   have Y2:(!(decide (i≠0)==decide (i≠0)))=false:=by simp
   simp only [ei,Nat.add_sub_cancel]
   simp only [SS,DD,Nat.reduceAdd,List.replicate,dd]
   refine ⟨[([3,3,9],e9 ls i)],_,H.JR (hIn i hi) hm _ (abD (by omega)),by simp [aa.put],by simp, ?_⟩
   simp only [SS,DD,Nat.reduceAdd,ae,lG,Cn hm,az,zI]
   refine ax (H.same m m (by omega) (by omega) hmg hmg) (by simp [de]) ?_
   rw [bT rfl]
   simp only [SS,DD,Nat.reduceAdd]
   refine ⟨[([3,3,9],e9 ls i)],_,hu _,by simp [aa.put],by simp, ?_⟩
   simp only [SS,DD,Nat.reduceAdd,dg]
   refine ⟨?_, ?_⟩
   . simp [ar,apart]
   simp only [Vs (show i<=1000000 by omega)]
   refine ⟨(i,nn+1000),⟨by simp only [];omega,by simp only [];omega⟩,by simp only [];omega,Wk.forget (by simp [Fg]) (fun j => ?_) (by omega)⟩
   by_cases h5:j=[14]
   . subst h5;right
     by_cases q:i=0
     . simp [aa.put,aa.app,q]
     . simp [aa.put,aa.app,q]
   by_cases h3:j=[3,3,9]
   . subst h3;right
     by_cases q:i=0
     . simp [aa.put,aa.app,q]
     . simp [aa.put,aa.app,q]
   . left;simp [aa.put,h3,h5]
 subst hj0
 have dd:decide ((0:Int)<=((0:Nat):Int)-1)=false:=by decide
 simp only [SS,Nat.reduceAdd,List.replicate,dd,ae,lG,wE,aC]
 refine VW.bJ (α := Nat × Nat) (fun x=>⟨[nN l, .top, .top, .ref [3,3,9] 0 0, .ref [14] 0 0]++List.replicate 43 .top++[.int .i64 (ls.length:Int), .int .i64 (x.1:Int)]++List.replicate 23 .top,
     aa.put (aa.put (fun _=>none) [3,3,9] (some (e9 ls (min x.1 (ls.length-1))))) [14] (some ⟨[bf ls a],2,false⟩),x.2⟩)
   (fun x=>x.1<=ls.length/\1000<=x.2) (fun x=>ls.length-x.1) (0,nn+1000) ?_ ⟨Nat.zero_le _,by simp only [];omega⟩ ?_
 . refine Wk.forget (by simp [Fg,List.replicate]) (fun j => ?_) (by simp only [];omega)
   by_cases h5:j=[14]
   . subst h5;right;simp [aa.put]
   by_cases h3:j=[3,3,9]
   . subst h3;right;simp [aa.put]
   . left;simp [aa.put,h3,h5]
 rintro ⟨i,mm⟩ ⟨hi,EG⟩
 simp only [] at hi EG
 by_cases hlt:i<ls.length
 . obtain ⟨m,hm⟩:∃ m,ls[i]? = some m:=⟨_,List.getElem?_eq_getElem hlt⟩
   obtain ⟨hml,hmg⟩:=TN i m hm
   have dl:decide ((i:Int)<(ls.length:Int))=true:=ao (by omega)
   have dg:decide ((i:Int)<((ls.length-1:Nat):Int))=decide (i+1≠ls.length):=by
     by_cases q:i+1=ls.length
     . rw [ak (by omega : ¬ i+1≠ls.length),ak (by omega)]
     . rw [ao q,ao (by omega)]
   have hu:=fun p=>D1 (G:=G) H.ph.redo (hid:=[3,3,9]) (ls:=ls) (now:=i) (by omega) hlt p
   have Y2:(!(decide (i+1≠ls.length)==decide (i+1≠ls.length)))=false:=by simp
   have aeK:min i (ls.length-1)=i:=by omega
   simp only [aeK]
   simp only [SS,DD,Nat.reduceAdd,List.replicate,dl]
   refine ⟨[([3,3,9],e9 ls i)],_,H.JR (hIn i hlt) hm _ (abD (by omega)),by simp [aa.put],by simp, ?_⟩
   simp only [SS,DD,Nat.reduceAdd,ae,lG,Cn hm,az,zI]
   refine ax (H.same m m (by omega) (by omega) hmg hmg) (by simp [de]) ?_
   rw [bT rfl]
   simp only [SS,DD,Nat.reduceAdd]
   by_cases q:i+1=ls.length
   . have Uq:∀ p,aB P G D5 [.ref [3,3,9] 0 0] p [([3,3,9],e9 ls i)] { val := .bool false,rd:=[[3,3,9]],up:=[] }:=fun p=>by
       have:=hu p
       rwa [if_pos q,ak (show ¬ i+1≠ls.length by omega)] at this
     have dg2:decide ((i:Int)<((ls.length-1:Nat):Int))=false:=ak (by omega)
     refine ⟨[([3,3,9],e9 ls i)],_,Uq _,by simp [aa.put],by simp, ?_⟩
     simp only [SS,DD,Nat.reduceAdd]
     skip
     simp only [SS,DD,Nat.reduceAdd,ae,lG,wE,oi (show ls.length≠0 by omega) (show ls.length<=1000000 by omega),dg2,aq i (by omega)]
     refine ⟨by simp [ar,apart], ?_⟩
     refine ⟨(i+1,mm+1000),⟨by simp only [];omega,by simp only [];omega⟩,by simp only [];omega,Wk.forget (by simp [Fg]) (fun j => ?_) (by omega)⟩
     have em:min (i+1) (ls.length-1)=i:=by omega
     by_cases h5:j=[14]
     . subst h5;right;simp [aa.put]
     by_cases h3:j=[3,3,9]
     . subst h3;right;simp [em,aa.put]
     . left;simp [aa.put,h3,h5]
   . have Uq:∀ p,aB P G D5 [.ref [3,3,9] 0 0] p [([3,3,9],e9 ls i)] { val := .bool true,rd:=[[3,3,9]],up:=[([3,3,9],some (e9 ls (i+1)))] }:=fun p=>by
       have:=hu p
       rwa [if_neg q,ao (show i+1≠ls.length by omega)] at this
     have dg2:decide ((i:Int)<((ls.length-1:Nat):Int))=true:=ao (by omega)
     refine ⟨[([3,3,9],e9 ls i)],_,Uq _,by simp [aa.put],by simp, ?_⟩
     simp only [SS,DD,Nat.reduceAdd]
     rw [ai (by decide)]
     simp only [SS,DD,Nat.reduceAdd,ae,lG,wE,oi (show ls.length≠0 by omega) (show ls.length<=1000000 by omega),dg2,aq i (by omega)]
     refine ⟨by simp [ar,apart], ?_⟩
     refine ⟨(i+1,mm+1000),⟨by simp only [];omega,by simp only [];omega⟩,by simp only [];omega,Wk.forget (by simp [Fg]) (fun j => ?_) (by omega)⟩
     have em:min (i+1) (ls.length-1)=i+1:=by omega
     by_cases h5:j=[14]
     . subst h5;right;simp [aa.put]
     by_cases h3:j=[3,3,9]
     . subst h3;right;simp [em,aa.put]
     . left;simp [aa.put,h3,h5]
 . have dl:decide ((i:Int)<(ls.length:Int))=false:=ak (by omega)
   simp only [SS,List.replicate,dl]
   exact ag▸ab rfl (af.bool _)
end
end Go.VL
end

section
set_option maxRecDepth 100000
set_option linter.unusedVariables false
namespace Go.Proofs.YtcomlgfjnjpebaaGreatDoor
open Go.VL Go.Proofs Go.RowKit
def bc (X:FX):Prop:=X.Ok/\X.small=true
theorem pQ (X:FX) (b:Bool) (h:bc X):bc (X.bM b):=⟨⟨h.1.name,h.1.ins,h.1.inl,h.1.vl,h.1.vals⟩,h.2⟩
theorem O8 {X:FX} (h:bc X):X.inputs.length<=1000/\X.vals.length<=1000:=by
 obtain ⟨h1,h2,_,_⟩:=qw h.2
 omega
theorem FX.one' (X:FX):X.av.cells.all AV.one=true:=of_eq_true (FX.one X)
section
variable (m:Int)
theorem abF (l k:List (List UInt8)) (hl:l.length<=9223372036854775807) (hk:k.length<=9223372036854775807):VP Tryz.prog (gN m) 96 [strs l,strs k] (.bool (gY l k)):=od nK l k hl hk
theorem YH (l k:List Nat) (hl:l.length<=9223372036854775807) (hk:k.length<=9223372036854775807):VP Tryz.prog (gN m) 135 [.sl 1 (us l), .sl 1 (us k)] (.bool (gY l k)):=oe nJ l k hl hk
theorem abG (e:EX) (he:e.Ok) (e':EX) (Vz:e'.Ok):VP Tryz.prog (gN m) 98 [e.av,e'.av] (.bool (gY e e')) :=
 Sz zD (fun b b' ws M5 h1 h2=>Jp wA b b' ws M5 (YH m ws M5 h1 h2)) cU e he e' Vz
theorem YI (X Y:FX) (hX:X.Ok) (hY:Y.Ok):VP Tryz.prog (gN m) 68 [X.av,Y.av] (.bool (gY X Y)) :=
 Vc A3 (abF m) cU (abG m) X Y hX hY
theorem abH (l k:List FX) (hl:l.length<=1000) (hk:k.length<=1000) (h1:∀ X∈l,bc X) (h2:∀ X∈k,bc X):VP Tryz.prog (gN m) 67 [dr l,dr k, .fn (.func 68) [] []] (.bool (gY l k)) :=
 eh dW FX.av (fun _=>rfl) FX.pure FX.one' FX.whole FX.abu l k (by omega) (by omega) (fun X hX Y hY=>YI m X Y (h1 X hX).1 (h2 Y hY).1)
theorem SY (e:EX) (he:e.Ok) (e':EX) (Vz:e'.Ok):VP Tryz.prog (gN m) 69 [e.av,e'.av] (.bool (gY e e')) :=
 OQ sj (fun n1 w1 n2 w2 DC Cj DF Ck q1 q2 q3 q4=>SA sR n1 w1 n2 w2 DC Cj DF Ck (DO lA n1 DC w1 Cj q1 q3) (DO lA n2 DF w2 Ck q2 q4)) e he e' Vz
theorem SZ (l k:List FX) (hl:l.length<=1000) (hk:k.length<=1000) (h1:∀ X∈l,bc X) (h2:∀ X∈k,bc X):VP Tryz.prog (gN m) 19 [dr l,dr k] (.bool (gY l k)) :=
 Ve s9 l k (by omega) (by omega) (fun X hX Y hY=>DR oa (SY m) X Y (h1 X hX).1 (h2 Y hY).1)
theorem S0 (ws:List Nat) (h:ws.length<=1000):VP Tryz.prog (gN m) 95 [.sl 1 (us ws)] (.sl 1 (us ws)):=Fq fy (wO _) (AQ _) (sU _) (by rw [dD];omega)
theorem S1 (e:EX) (hs:n9 e=true):VP Tryz.prog (gN m) 66 [e.av] e.av:=by
 unfold n9 at hs
 simp only [Bool.and_eq_true,decide_eq_true_eq] at hs
 exact GO vu (S0 m) gR e hs.2 (by omega)
theorem S2 (l:List (List UInt8)) (h:l.length<=1000):VP Tryz.prog (gN m) 64 [strs l] (strs l) :=
 n8 nI (by intro e he;obtain ⟨s,_,rfl⟩:=List.mem_map.1 he;rfl) (s6 l) (by rw [wv];intro c hc;obtain ⟨s,_,rfl⟩:=List.mem_map.1 hc;exact af.str s) (by rw [List.length_map];omega)
theorem Nd (X:FX) (hX:bc X):VP Tryz.prog (gN m) 39 [X.av] X.av:=by
 obtain ⟨h1,h2,_,h4⟩:=qw hX.2
 exact OR y9 X (by omega) (S2 m X.inputs (by omega)) gR (fun e he=>S1 m e (h4 e he))
theorem S3 (l:List FX) (nm:List UInt8) (hl:l.length<=1000) (hg:∀ X∈l,bc X):VP Tryz.prog (gN m) 37 [dr l, .str nm] (.int .i64 (dh l nm)) :=
 SG vn (fun F n=>Ov sJ F n) jd hl (fun X hX=>O8 (hg X hX)) nm
theorem abI (l:List FX) (hl:l.length<=1000) (hg:∀ X∈l,bc X):VP Tryz.prog (gN m) 40 [dr l] (.bool (pL l)) :=
 GQ qf l hl (fun X hX=>Va m X (hg X hX).1 (hg X hX).2) (fun X hX=>FF (hg X hX).2)
   (fun i nm=>S3 m (l.take i) nm (by rw [List.length_take];omega) (fun X hX=>hg X (List.mem_of_mem_take hX)))
theorem S4 (l:List FX) (hl:l.length<=1000) (hg:∀ X∈l,bc X):VP Tryz.prog (gN m) 23 [dr l] (.bool (eg l)) :=
 Vg ta l hl (fun X hX=>Cl m X (hg X hX).1 (hg X hX).2) (fun X hX=>Vb m X (hg X hX).1 (hg X hX).2) (fun X hX=>FF (hg X hX).2) (fun l s h=>Sf nx l h s)
theorem hh:HH Tryz.prog (gN m) bc 36 29 37 38 39 40 41 where
 present:=eK
 valid:=fun X hX=>M3 m X hX.1 hX.2
 find:=S3 m
 cloneL:=kp
 clone:=Nd m
 sat:=abI m
 change:=fun hid ls now l k p ha xN hl hk Rv hgk hne=>by
   have hq:=abH m k l hk hl hgk Rv
   unfold DZ
   by_cases h:k=l
   . subst h
     rw [if_pos (bT rfl)]
     rw [bT rfl] at hq
     exact JA lz eK ha hq p
   . rw [if_neg (by rw [bj h];decide)]
     rw [bj h] at hq
     exact Lc lz eK ha xN hq p hne
theorem O9 (l:List FX) (o:OX) (hk:o.kind%7<5) (hL:eg l=true) (hg:∀ X∈l,bc X) (hF:bc o.F):VP Tryz.prog (gN m) 70 [dr l,o.av] (.tup [dr (b9 l o).1, .int .i64 (b9 l o).2]):=by
 have hl:=iB hL
 have hp:∀ nm,VP Tryz.prog (gN m) 100 [dr l, .str nm] (.int .i64 (dh l nm)):=fun nm=>Jq pI l nm (by omega)
 have hc:∀ i,i<l.length->VP Tryz.prog (gN m) 101 [dr l, .int .i64 (i:Int)] (dr (gg l i)):=fun i hi=>Vf uB l i hi (by omega)
 have A8:∀ k:List FX,k.length<=1000->(∀ X∈k,bc X)->VP Tryz.prog (gN m) 23 [dr k] (.bool (eg k)):=fun k h1 h2=>S4 m k h1 h2
 have h0:o.kind%7=0∨o.kind%7=1∨o.kind%7=2∨o.kind%7=3∨o.kind%7=4:=by omega
 rcases h0 with h0 | h0 | h0 | h0 | h0
 . exact Js dM l o h0 (by omega) (Cl m o.F hF.1 hF.2) hp (A8 _ (by simp;omega) (by
     intro X hX
     rcases List.mem_append.1 hX with h | h
     . exact hg X h
     . rw [List.mem_singleton] at h;rw [h];exact hF))
 . exact Jt dM l o h0 (by omega) (Cl m o.F hF.1 hF.2) hp (fun i=>A8 _ (by rw [List.length_set];omega) (zJ hg hF))
 . exact Jv dM l o h0 (by omega) hg pQ hp (fun k h1 h2=>A8 k (by omega) h2) hc
 . exact Ju dM l o h0 (by omega) hg pQ hp (fun k h1 h2=>A8 k (by omega) h2) hc
 . exact Jw dM l o h0 (by omega) hg pQ hp (fun k h1 h2=>A8 k (by omega) h2) hc
theorem aeM (ls:List (List FX)) (a:Nat) (o:OX) (hI:zO bc ls a) (xN:ls.length<=900) (hF:bc o.F) :
   VP Tryz.prog (gN m) 43 [bf ls a,o.av] (.tup [bf (wF ls a o).1 (wF ls a o).2.1, .int .i64 (wF ls a o).2.2.1, .bool (wF ls a o).2.2.2]):=by
 obtain ⟨l,hl⟩:∃ l,ls[a]? = some l:=⟨_,List.getElem?_eq_getElem hI.lt⟩
 have hm:=List.mem_of_getElem? hl
 have hL:=hI.list l hm
 have Rv:=hI.bc l hm
 have Tg:=iB hL
 exact abx vv ls a o hl (by omega) (Yy nC ls a hl) (fun hk=>O9 m l o hk hL Rv hF)
   (fun hk h0=>SZ m _ _ (by have:=iB (zM h0);omega) (by omega) (zN Rv hF pQ) Rv)
theorem ph:PH Tryz.prog (gN m) bc 43 14 44 45 26 27 24 25 where
 do_:=aeM m
 app:=fun hid ls now l X p hl hI xN hX hp=>Ld qe (hh m) hl (by omega) (iB (hI.list l (List.mem_of_getElem? hl))) (hI.bc l (List.mem_of_getElem? hl)) X hX p hp
 ed:=fun hid ls now l X p hl hI xN hX hp=>SH sq (hh m) hl (by omega) (iB (hI.list l (List.mem_of_getElem? hl))) (hI.bc l (List.mem_of_getElem? hl)) X hX p hp
 sup:=fun hid ls now l nm on p hl hI xN hp=>Vk pw (hh m) hl (by omega) (iB (hI.list l (List.mem_of_getElem? hl))) (hI.bc l (List.mem_of_getElem? hl)) (fun X hX b=>pQ X b (hI.bc l (List.mem_of_getElem? hl) X hX)) nm on p hp
 mv:=fun hid ls now l nm pP p hl hI xN hp=>SN sr eZ ke (hh m) hl (by omega) (iB (hI.list l (List.mem_of_getElem? hl))) (hI.bc l (List.mem_of_getElem? hl)) nm pP p hp
 del:=fun hid ls now l nm p hl hI xN hp=>Vp qx eZ (hh m) hl (by omega) (iB (hI.list l (List.mem_of_getElem? hl))) (hI.bc l (List.mem_of_getElem? hl)) nm p hp
 undo:=sk
 redo:=sn
theorem lh (uj:VP Tryz.prog (fun _=>none) 9 [] (.bool true)):LH Tryz.prog (gN m) bc 9 17 18 16 20 19 23 13 21 22 36 39 43 14 44 45 26 27 24 25 where
 aw:=VP.up uj
 play:=tc
 new:=B1
 new2:=uC
 perf:=qy
 ph:=ph m
 fe:=pn
 pres:=eK
 clone:=Nd m
 now:=nC
 same:=SZ m
 list:=S4 m
 supp:=pQ
def Nf (l:List OX):Prop:=l.length<=9223372036854775807/\∀ o∈l,o.F.Ok/\o.name.length<=9223372036854775807
theorem Vt (l:List OX) (h:Nf l):VP Tryz.prog (gN m) 17 [nN l] (.bool (kt l)) :=
 Lh su l h.1 (fun o ho=>(h.2 o ho).2) (fun o ho=>U9 m o.F (h.2 o ho).1)
theorem S5 {l:List OX} (h:Nf l) (hs:kt l=true):∀ o∈l,bc o.F:=fun o ho=>by
 unfold kt at hs
 simp only [Bool.and_eq_true,List.all_eq_true] at hs
 have:=hs.1 o ho
 unfold uF at this
 simp only [Bool.and_eq_true] at this
 exact ⟨(h.2 o ho).1,this.1⟩
theorem aeN (uj:VP Tryz.prog (fun _=>none) 9 [] (.bool true)) (l:List OX) (h:Nf l):VP Tryz.prog (gN m) 7 [nN l] (.bool true) :=
 Li mS (lh m uj) (Vt m l h) (S5 h)
end
end Go.Proofs.YtcomlgfjnjpebaaGreatDoor
end

section
namespace Go.VL
section
variable {H:Type} {enc:TypeId × Value->H} {P:Program} {w:World} {spare:Nat->Bool} {held:Bool}
def jC (w:World):Env:=⟨fun _=>none,fun b=>b<w.heap.size⟩
theorem kA {α β : Type} {f : α -> β} {Q : α -> Prop}:∀ {es:List β},(∀ c∈es,∃ x,c=f x/\Q x)->∃ l:List α,es=l.map f/\∀ x∈l,Q x
 | [],_=>⟨[],rfl,by simp⟩
 | c::es,h=>by
   obtain ⟨x,hx,hq⟩:=h c (by simp)
   obtain ⟨l,hl,V5⟩:=kA (es:=es) fun y hy=>h y (by simp [hy])
   exact ⟨x::l,by rw [hx,hl];rfl,by intro y hy;rcases List.mem_cons.1 hy with rfl | hy;exact hq;exact V5 y hy⟩
theorem zV {t e:TypeId} {fuel k:Nat} {cs:List Value} {x:DataW H × List MemPlace} (ht:P.underlying t=some (.slice e)) (hk:P.cellsOf e=k) (J4:0<k) (h:DataW.trod enc P w 0 spare held fuel t cs=some x) (Good:AV->Prop)
   (F:∀ n fW y,fuel=n+1->DataW.trod enc P w 0 spare held n e fW=some y->∃ c:AV,Good c/\c.size=k/\aM (jC w) w c.cells fW) :
   ∃ (es:List AV) (v:Value),cs=[v]/\aL (jC w) w (.sl k es) v/\(∀ c∈es,Good c)/\es.length<=maxLen:=by
 rcases DataW.trod_slice ht h with ⟨rfl,rfl⟩ | ⟨a,len,cap,elems,rest,n,Y5,rfl,rfl,_,hl,hm,hlen,vz,_,_⟩
 . exact ⟨[],_,rfl,by simp only [aL];exact ⟨none,0,rfl,Nat.le_refl _,Nat.zero_le _,by simp, .inl trivial⟩,by simp,Nat.zero_le _⟩
 have hC:∀ i,i<len->∃ c:AV,Good c/\c.size=k/\∃ fW,w.cells? 0 (a.add (i*k)) k=some fW/\aM (jC w) w c.cells fW:=by
   intro i hi
   have h1:=vz i hi
   rw [List.getElem?_eq_getElem (by omega),hk] at h1
   obtain ⟨fW,h2,h3⟩:=Option.bind_eq_some_iff.1 h1
   obtain ⟨c,hg,hs,hr⟩:=F n fW _ Y5 h3
   exact ⟨c,hg,hs,fW,h2,hr⟩
 have hC':∀ i:_root_.Fin len,∃ c:AV,Good c/\c.size=k/\∃ fW,w.cells? 0 (a.add (i.1*k)) k=some fW/\aM (jC w) w c.cells fW:=fun i=>hC i.1 i.2
 let C:_root_.Fin len->AV:=fun i=>(hC' i).choose
 have hCs:∀ i,Good (C i)/\(C i).size=k/\∃ fW,w.cells? 0 (a.add (i.1*k)) k=some fW/\aM (jC w) w (C i).cells fW:=fun i=>(hC' i).choose_spec
 have hsz:∀ c∈List.ofFn C,c.size=k:=by intro c hc;obtain ⟨i,rfl⟩:=List.mem_ofFn.1 hc;exact (hCs i).2.1
 refine ⟨List.ofFn C,_,rfl, ?_,by intro c hc;obtain ⟨i,rfl⟩:=List.mem_ofFn.1 hc;exact (hCs i).1,by rw [List.length_ofFn];omega⟩
 simp only [aL]
 refine ⟨some a,cap,by rw [List.length_ofFn],by rw [List.length_ofFn];exact hl,hm,hsz, ?_⟩
 by_cases h0:len=0
 . left;exact List.length_eq_zero_iff.1 (by rw [List.length_ofFn];exact h0)
 right
 have hcell:∀ (i:_root_.Fin len) (r:Nat) (c:AV),(C i).cells[r]? = some c->∃ v,w.cell? ((a.add (i.1*k)).add r)=some v/\aL (jC w) w c v:=by
   intro i r c hc
   obtain ⟨_,hs,fW,h1,h2⟩:=hCs i
   obtain ⟨uI,hp⟩:=bz.1 h2
   obtain ⟨v,hv,wW⟩:=hp r c hc
   refine ⟨v, ?_,wW⟩
   have hrk:r<k:=by have:=(List.getElem?_eq_some_iff.1 hc).1;rw [<- hs];exact this
   rw [(World.cells?_some h1).2.2 r hrk,hv]
 obtain ⟨b,o,spot⟩:=a
 have hz:0<len:=Nat.pos_of_ne_zero h0
 obtain ⟨c0,J5⟩:∃ c,(C ⟨0,hz⟩).cells[0]? = some c:=⟨_,List.getElem?_eq_getElem (by have:=(hCs ⟨0,hz⟩).2.1;unfold AV.size at this;omega)⟩
 obtain ⟨v0,hv0,_⟩:=hcell ⟨0,hz⟩ 0 c0 J5
 have abJ:((⟨b,o,spot⟩:Addr).add (0*k)).add 0=⟨b,o,spot⟩:=by simp [Addr.add]
 have abK:w.cell? ⟨b,o,spot⟩=some v0:=by rw [<- abJ];exact hv0
 have hsp:spot=none:=World.cell?_spot abK
 subst hsp
 refine ⟨b,o,rfl,World.block_lt_of_cell? _ _ abK,dG.2 ?_⟩
 intro j c hj
 have nL:j<(flat (List.ofFn C)).length:=(List.getElem?_eq_some_iff.1 hj).1
 rw [cC hsz,List.length_ofFn] at nL
 have hjk:j/k<len:=(Nat.div_lt_iff_lt_mul J4).2 nL
 have XY:j%k<k:=Nat.mod_lt _ J4
 have aeO:(List.ofFn C)[j/k]? = some (C ⟨j/k,hjk⟩):=by rw [List.getElem?_ofFn,dif_pos hjk]
 have Cp:=flat_get hsz aeO XY
 have hjj:j/k*k+j%k=j:=by rw [Nat.mul_comm];exact Nat.div_add_mod j k
 rw [hjj,hj] at Cp
 obtain ⟨v,hv,hr⟩:=hcell ⟨j/k,hjk⟩ (j%k) c Cp.symm
 refine ⟨v, ?_,hr⟩
 have aeP:((⟨b,o,none⟩:Addr).add (j/k*k)).add (j%k)=⟨b,o+j,none⟩:=by
   have h1:∀ (o n:Nat),(⟨b,o,none⟩:Addr).add n=⟨b,o+n,none⟩:=fun o n=>by unfold Addr.add;split<;>simp_all
   rw [h1,h1,Nat.add_assoc,hjj]
 rw [<- aeP];exact hv
end
end Go.VL
end

section
set_option maxRecDepth 100000
namespace Go.Proofs
open Go.VL
theorem pR:maxLen<=9223372036854775807:=Nat.le_refl _
section
variable {H:Type} {enc:TypeId × Value->H} {w:World} {spare:Nat->Bool} {held:Bool} {fuel:Nat} {cs:List Value} {x:DataW H × List MemPlace}
theorem GY (h:DataW.trod enc Tryz.prog w 0 spare held fuel 9 cs=some x):∃ s:List UInt8,aM (jC w) w [.str s] cs/\s.length<=9223372036854775807:=by
 obtain ⟨s,rfl,_,hs⟩:=DataW.trod_string Tryz.underlying9 h
 refine ⟨s.data.toList, ?_, ?_⟩
 . simp only [aM,aL]
   exact ⟨_,[],rfl,rfl,rfl⟩
 . have e:s.data.toList.length=s.size:=Array.length_toList
   rw [e];exact Nat.le_trans hs pR
theorem Lj (h:DataW.trod enc Tryz.prog w 0 spare held fuel 3 cs=some x):∃ n:Int,aM (jC w) w [.int .i64 n] cs /\ -9223372036854775808<=n/\n<=9223372036854775807:=by
 obtain ⟨n,rfl,_,hw⟩:=DataW.trod_int Tryz.underlying3 h
 exact ⟨n,by simp [aM,aL],(bounds_i64 hw).1,(bounds_i64 hw).2⟩
theorem GZ (h:DataW.trod enc Tryz.prog w 0 spare held fuel 4 cs=some x):∃ b:Bool,aM (jC w) w [.bool b] cs:=by
 obtain ⟨b,rfl,_⟩:=DataW.trod_bool Tryz.underlying4 h
 exact ⟨b,by simp [aM,aL]⟩
theorem S6 (h:DataW.trod enc Tryz.prog w 0 spare held fuel 57 cs=some x):∃ ws:List Nat,aM (jC w) w [.sl 1 (us ws)] cs/\Wd ws/\ws.length<=9223372036854775807:=by
 obtain ⟨es,v,rfl,hr,hg,hl⟩:=zV (k:=1) Tryz.underlying57 (by kernel_rfl) (by decide) h (fun c=>∃ n:Nat,c = .int .u32 (n:Int)/\n<au) (fun n fW y _ hy=>by
   obtain ⟨n,rfl,_,hw⟩:=DataW.trod_int Tryz.underlying116 hy
   have hb:=bounds_u32 hw
   obtain ⟨m,rfl⟩:=Int.eq_ofNat_of_zero_le hb.1
   exact ⟨.int .u32 (m:Int),⟨m,rfl,by unfold au;omega⟩,rfl,by simp [AV.cells,aM,aL]⟩)
 obtain ⟨ws,rfl,hw⟩:=kA hg
 refine ⟨ws,by simp only [aM];exact ⟨v,[],rfl,hr,rfl⟩,hw, ?_⟩
 rw [List.length_map] at hl
 exact Nat.le_trans hl pR
theorem Vu (h:DataW.trod enc Tryz.prog w 0 spare held fuel 22 cs=some x):∃ l:List (List UInt8),aM (jC w) w [strs l] cs/\(∀ s∈l,s.length<=9223372036854775807)/\l.length<=9223372036854775807:=by
 obtain ⟨es,v,rfl,hr,hg,hl⟩:=zV (k:=1) Tryz.underlying22 (by kernel_rfl) (by decide) h (fun c=>∃ s:List UInt8,c = .str s/\s.length<=9223372036854775807) (fun n fW y _ hy=>by
   obtain ⟨s,hs,hl⟩:=GY hy
   exact ⟨.str s,⟨s,rfl,hl⟩,rfl,hs⟩)
 obtain ⟨l,rfl,hw⟩:=kA hg
 refine ⟨l,by simp only [aM];exact ⟨v,[],rfl,hr,rfl⟩,hw, ?_⟩
 rw [List.length_map] at hl
 exact Nat.le_trans hl pR
theorem S7 (h:DataW.trod enc Tryz.prog w 0 spare held fuel 59 cs=some x):∃ (b:Bool) (ws:List Nat),aM (jC w) w [.bool b, .sl 1 (us ws)] cs/\Wd ws/\ws.length<=9223372036854775807:=by
 obtain ⟨xs,n,_,_,hl,Nt,hf⟩:=DataW.trod_struct Tryz.underlying59 h
 have hC:Tryz.prog.cellsOf 59=2:=by kernel_rfl
 have h4:Tryz.prog.cellsOf 4=1:=by kernel_rfl
 have h57:Tryz.prog.cellsOf 57=1:=by kernel_rfl
 rw [hC] at hl
 have hxs:xs.length=2:=Nt
 match cs,hl with
 | [c0,c1],_ =>
   have f0:DataW.trod enc Tryz.prog w 0 spare held n 4 (List.take (Tryz.prog.cellsOf 4) (List.drop 0 [c0,c1]))=xs[0]? := hf 0 _ rfl
   have f1:DataW.trod enc Tryz.prog w 0 spare held n 57 (List.take (Tryz.prog.cellsOf 57) (List.drop 1 [c0,c1]))=xs[1]? := hf 1 _ rfl
   rw [List.getElem?_eq_getElem (by omega)] at f0 f1
   simp only [h4,h57,List.drop_zero,List.drop_succ_cons,List.take_succ_cons,List.take_zero] at f0 f1
   obtain ⟨b,hb⟩:=GZ f0
   obtain ⟨ws,hw,hwd,hwl⟩:=S6 f1
   exact ⟨b,ws,aM.append (xs:=[.bool b]) (us:=[c0]) hb hw,hwd,hwl⟩
theorem YJ (h:DataW.trod enc Tryz.prog w 0 spare held fuel 61 cs=some x):∃ (n1:Bool) (w1:List Nat) (n2:Bool) (w2:List Nat),aM (jC w) w [.bool n1, .sl 1 (us w1), .bool n2, .sl 1 (us w2)] cs/\Wd w1/\Wd w2/\w1.length<=9223372036854775807/\w2.length<=9223372036854775807:=by
 obtain ⟨xs,n,_,_,hl,Nt,hf⟩:=DataW.trod_struct Tryz.underlying61 h
 have hC:Tryz.prog.cellsOf 61=4:=by kernel_rfl
 have h59:Tryz.prog.cellsOf 59=2:=by kernel_rfl
 rw [hC] at hl
 have hxs:xs.length=2:=Nt
 match cs,hl with
 | [c0,c1,c2,c3],_ =>
   have f0:DataW.trod enc Tryz.prog w 0 spare held n 59 (List.take (Tryz.prog.cellsOf 59) (List.drop 0 [c0,c1,c2,c3]))=xs[0]? := hf 0 _ rfl
   have f1:DataW.trod enc Tryz.prog w 0 spare held n 59 (List.take (Tryz.prog.cellsOf 59) (List.drop 2 [c0,c1,c2,c3]))=xs[1]? := hf 1 _ rfl
   rw [List.getElem?_eq_getElem (by omega)] at f0 f1
   simp only [h59,List.drop_zero,List.drop_succ_cons,List.take_succ_cons,List.take_zero] at f0 f1
   obtain ⟨n1,w1,h1,qD,mU⟩:=S7 f0
   obtain ⟨n2,w2,h2,tE,uI⟩:=S7 f1
   exact ⟨n1,w1,n2,w2,aM.append (xs:=[.bool n1, .sl 1 (us w1)]) (us:=[c0,c1]) h1 h2,qD,tE,mU,uI⟩
theorem Vv:∀ (fuel:Nat) (cs:List Value) (x:DataW H × List MemPlace),DataW.trod enc Tryz.prog w 0 spare held fuel 63 cs=some x->∃ e:EX,e.Ok/\aM (jC w) w e.av.cells cs:=by
 intro fuel
 induction fuel using Nat.strongRecOn with
 | ind fuel ih =>
   intro cs x h
   obtain ⟨xs,n,Y5,_,hl,Nt,hf⟩:=DataW.trod_struct Tryz.underlying63 h
   have hC:Tryz.prog.cellsOf 63=7:=by kernel_rfl
   have h3:Tryz.prog.cellsOf 3=1:=by kernel_rfl
   have h61:Tryz.prog.cellsOf 61=4:=by kernel_rfl
   have h9:Tryz.prog.cellsOf 9=1:=by kernel_rfl
   have h23:Tryz.prog.cellsOf 23=1:=by kernel_rfl
   rw [hC] at hl
   have hxs:xs.length=4:=Nt
   match cs,hl with
   | [c0,c1,c2,c3,c4,c5,c6],_ =>
     have f0:DataW.trod enc Tryz.prog w 0 spare held n 3 (List.take (Tryz.prog.cellsOf 3) (List.drop 0 [c0,c1,c2,c3,c4,c5,c6]))=xs[0]? := hf 0 _ rfl
     have f1:DataW.trod enc Tryz.prog w 0 spare held n 61 (List.take (Tryz.prog.cellsOf 61) (List.drop 1 [c0,c1,c2,c3,c4,c5,c6]))=xs[1]? := hf 1 _ rfl
     have f2:DataW.trod enc Tryz.prog w 0 spare held n 9 (List.take (Tryz.prog.cellsOf 9) (List.drop 5 [c0,c1,c2,c3,c4,c5,c6]))=xs[2]? := hf 2 _ rfl
     have f3:DataW.trod enc Tryz.prog w 0 spare held n 23 (List.take (Tryz.prog.cellsOf 23) (List.drop 6 [c0,c1,c2,c3,c4,c5,c6]))=xs[3]? := hf 3 _ rfl
     rw [List.getElem?_eq_getElem (by omega)] at f0 f1 f2 f3
     simp only [h3,h61,h9,h23,List.drop_zero,List.drop_succ_cons,List.take_succ_cons,List.take_zero] at f0 f1 f2 f3
     obtain ⟨op,ho,qF,G0⟩:=Lj f0
     obtain ⟨n1,w1,n2,w2,hr,qD,tE,mU,uI⟩:=YJ f1
     obtain ⟨nm,hn,yw⟩:=GY f2
     obtain ⟨es,v,hv,J3,hg,vz⟩:=zV (k:=7) Tryz.underlying23 hC (by decide) f3 (fun c=>∃ e:EX,c=e.av/\e.Ok) (fun m fW y hm hy=>by
       obtain ⟨e,he,her⟩:=ih m (by omega) fW y hy
       exact ⟨e.av,⟨e,rfl,he⟩,EX.size e,her⟩)
     obtain ⟨args,rfl,mo⟩:=kA hg
     rw [List.length_map] at vz
     have Gg:=Nat.le_trans vz pR
     refine ⟨.mk op n1 w1 n2 w2 nm args, ?_, ?_⟩
     . rw [EX.Ok]
       exact ⟨qF,by omega,qD,tE,mU,uI,yw,Gg,EX.GH.2 mo⟩
     . rw [EX.av,EX.cF]
       have kO:aM (jC w) w [.sl 7 (args.map EX.av)] [c6]:=by
         rw [hv];simp only [aM];exact ⟨v,[],rfl,J3,rfl⟩
       exact aM.append (xs:=[.int .i64 op]) (us:=[c0]) ho (aM.append (xs:=[.bool n1, .sl 1 (us w1), .bool n2, .sl 1 (us w2)]) (us:=[c1,c2,c3,c4]) hr (aM.append (xs:=[.str nm]) (us:=[c5]) hn kO))
theorem Lk (ht:Tryz.prog.underlying 25=Tryz.prog.underlying 25) (h:DataW.trod enc Tryz.prog w 0 spare held fuel 25 cs=some x):∃ X:FX,X.Ok/\aM (jC w) w X.av.cells cs:=by
 obtain ⟨xs,n,Y5,_,hl,Nt,hf⟩:=DataW.trod_struct Tryz.underlying25 h
 have hC:Tryz.prog.cellsOf 25=5:=by kernel_rfl
 have h9:Tryz.prog.cellsOf 9=1:=by kernel_rfl
 have h3:Tryz.prog.cellsOf 3=1:=by kernel_rfl
 have h22:Tryz.prog.cellsOf 22=1:=by kernel_rfl
 have h23:Tryz.prog.cellsOf 23=1:=by kernel_rfl
 have h4:Tryz.prog.cellsOf 4=1:=by kernel_rfl
 have h63:Tryz.prog.cellsOf 63=7:=by kernel_rfl
 rw [hC] at hl
 have hxs:xs.length=5:=Nt
 match cs,hl with
 | [c0,c1,c2,c3,c4],_ =>
   have f0:DataW.trod enc Tryz.prog w 0 spare held n 9 (List.take (Tryz.prog.cellsOf 9) (List.drop 0 [c0,c1,c2,c3,c4]))=xs[0]? := hf 0 _ rfl
   have f1:DataW.trod enc Tryz.prog w 0 spare held n 3 (List.take (Tryz.prog.cellsOf 3) (List.drop 1 [c0,c1,c2,c3,c4]))=xs[1]? := hf 1 _ rfl
   have f2:DataW.trod enc Tryz.prog w 0 spare held n 22 (List.take (Tryz.prog.cellsOf 22) (List.drop 2 [c0,c1,c2,c3,c4]))=xs[2]? := hf 2 _ rfl
   have f3:DataW.trod enc Tryz.prog w 0 spare held n 23 (List.take (Tryz.prog.cellsOf 23) (List.drop 3 [c0,c1,c2,c3,c4]))=xs[3]? := hf 3 _ rfl
   have f4:DataW.trod enc Tryz.prog w 0 spare held n 4 (List.take (Tryz.prog.cellsOf 4) (List.drop 4 [c0,c1,c2,c3,c4]))=xs[4]? := hf 4 _ rfl
   rw [List.getElem?_eq_getElem (by omega)] at f0 f1 f2 f3 f4
   simp only [h3,h9,h22,h23,h4,List.drop_zero,List.drop_succ_cons,List.take_succ_cons,List.take_zero] at f0 f1 f2 f3 f4
   obtain ⟨nm,hn,yw⟩:=GY f0
   obtain ⟨kd,hk,_,_⟩:=Lj f1
   obtain ⟨l,hi,LA,Tg⟩:=Vu f2
   obtain ⟨es,v,hv,J3,hg,vz⟩:=zV (k:=7) Tryz.underlying23 h63 (by decide) f3 (fun c=>∃ e:EX,c=e.av/\e.Ok) (fun m fW y hm hy=>by
     obtain ⟨e,he,her⟩:=Vv m fW y hy
     exact ⟨e.av,⟨e,rfl,he⟩,EX.size e,her⟩)
   obtain ⟨vals,rfl,mo⟩:=kA hg
   rw [List.length_map] at vz
   obtain ⟨sp,hs⟩:=GZ f4
   refine ⟨⟨nm,kd,l,vals,sp⟩,⟨yw,Tg,LA,Nat.le_trans vz pR,mo⟩, ?_⟩
   have abL:aM (jC w) w [.sl 7 (EX.kV vals)] [c3]:=by
     rw [hv,EX.cF];simp only [aM];exact ⟨v,[],rfl,J3,rfl⟩
   show aM (jC w) w [.str nm, .int .i64 kd,strs l, .sl 7 (EX.kV vals), .bool sp] _
   exact aM.append (xs:=[.str nm]) (us:=[c0]) hn (aM.append (xs:=[.int .i64 kd]) (us:=[c1]) hk (aM.append (xs:=[strs l]) (us:=[c2]) hi (aM.append (xs:=[.sl 7 (EX.kV vals)]) (us:=[c3]) abL hs)))
end
end Go.Proofs
end

section
set_option maxRecDepth 100000
set_option linter.unusedVariables false
namespace Go.Proofs
open Go.VL Go.Proofs.YtcomlgfjnjpebaaGreatDoor
section
variable {H:Type} {enc:TypeId × Value->H} {w:World} {spare:Nat->Bool} {held:Bool} {fuel:Nat} {cs:List Value} {x:DataW H × List MemPlace}
theorem abM (h:DataW.trod enc Tryz.prog w 0 spare held fuel 5 cs=some x):∃ n:Nat,aM (jC w) w [.int .u8 (n:Int)] cs:=by
 obtain ⟨n,rfl,_,hw⟩:=DataW.trod_int Tryz.underlying5 h
 obtain ⟨m,rfl⟩:=Int.eq_ofNat_of_zero_le (bounds_u8 hw).1
 exact ⟨m,by simp [aM,aL]⟩
theorem abN (h:DataW.trod enc Tryz.prog w 0 spare held fuel 49 cs=some x):∃ o:OX,o.F.Ok/\o.name.length<=9223372036854775807/\aM (jC w) w o.av.cells cs:=by
 obtain ⟨xs,n,Y5,_,hl,Nt,hf⟩:=DataW.trod_struct Tryz.underlying49 h
 have hC:Tryz.prog.cellsOf 49=9:=by kernel_rfl
 have h5:Tryz.prog.cellsOf 5=1:=by kernel_rfl
 have h25:Tryz.prog.cellsOf 25=5:=by kernel_rfl
 have h9:Tryz.prog.cellsOf 9=1:=by kernel_rfl
 have h4:Tryz.prog.cellsOf 4=1:=by kernel_rfl
 have h3:Tryz.prog.cellsOf 3=1:=by kernel_rfl
 rw [hC] at hl
 have hxs:xs.length=5:=Nt
 match cs,hl with
 | [c0,c1,c2,c3,c4,c5,c6,c7,c8],_ =>
   have f0:DataW.trod enc Tryz.prog w 0 spare held n 5 (List.take (Tryz.prog.cellsOf 5) (List.drop 0 [c0,c1,c2,c3,c4,c5,c6,c7,c8]))=xs[0]? := hf 0 _ rfl
   have f1:DataW.trod enc Tryz.prog w 0 spare held n 25 (List.take (Tryz.prog.cellsOf 25) (List.drop 1 [c0,c1,c2,c3,c4,c5,c6,c7,c8]))=xs[1]? := hf 1 _ rfl
   have f2:DataW.trod enc Tryz.prog w 0 spare held n 9 (List.take (Tryz.prog.cellsOf 9) (List.drop 6 [c0,c1,c2,c3,c4,c5,c6,c7,c8]))=xs[2]? := hf 2 _ rfl
   have f3:DataW.trod enc Tryz.prog w 0 spare held n 4 (List.take (Tryz.prog.cellsOf 4) (List.drop 7 [c0,c1,c2,c3,c4,c5,c6,c7,c8]))=xs[3]? := hf 3 _ rfl
   have f4:DataW.trod enc Tryz.prog w 0 spare held n 3 (List.take (Tryz.prog.cellsOf 3) (List.drop 8 [c0,c1,c2,c3,c4,c5,c6,c7,c8]))=xs[4]? := hf 4 _ rfl
   rw [List.getElem?_eq_getElem (by omega)] at f0 f1 f2 f3 f4
   simp only [h5,h25,h9,h4,h3,List.drop_zero,List.drop_succ_cons,List.take_succ_cons,List.take_zero] at f0 f1 f2 f3 f4
   obtain ⟨k,hk⟩:=abM f0
   obtain ⟨X,hX,hXr⟩:=Lk rfl f1
   obtain ⟨nm,hn,yw⟩:=GY f2
   obtain ⟨on,ho⟩:=GZ f3
   obtain ⟨tg,ht,_,_⟩:=Lj f4
   refine ⟨⟨k,X,nm,on,tg⟩,hX,yw, ?_⟩
   have aeS:aM (jC w) w [.str X.name, .int .i64 X.kind,strs X.inputs, .sl 7 (EX.kV X.vals), .bool X.supp] [c1,c2,c3,c4,c5]:=hXr
   show aM (jC w) w [.int .u8 (k:Int), .str X.name, .int .i64 X.kind,strs X.inputs, .sl 7 (EX.kV X.vals), .bool X.supp, .str nm, .bool on, .int .i64 tg] _
   exact aM.append (xs:=[.int .u8 (k:Int)]) (us:=[c0]) hk (aM.append (xs:=[.str X.name, .int .i64 X.kind,strs X.inputs, .sl 7 (EX.kV X.vals), .bool X.supp]) (us:=[c1,c2,c3,c4,c5]) aeS (aM.append (xs:=[.str nm]) (us:=[c6]) hn (aM.append (xs:=[.bool on]) (us:=[c7]) ho ht)))
theorem YK (h:DataW.trod enc Tryz.prog w 0 spare held fuel 38 cs=some x):∃ l:List OX,Nf l/\aM (jC w) w [nN l] cs:=by
 have hC:Tryz.prog.cellsOf 49=9:=by kernel_rfl
 obtain ⟨es,v,rfl,hr,hg,hl⟩:=zV (k:=9) Tryz.underlying38 hC (by decide) h (fun c=>∃ o:OX,c=o.av/\o.F.Ok/\o.name.length<=9223372036854775807) (fun n fW y _ hy=>by
   obtain ⟨o,h1,h2,h3⟩:=abN hy
   exact ⟨o.av,⟨o,rfl,h1,h2⟩,OX.sz o,h3⟩)
 obtain ⟨l,rfl,hw⟩:=kA hg
 rw [List.length_map] at hl
 exact ⟨l,⟨Nat.le_trans hl pR,hw⟩,by simp only [aM];exact ⟨v,[],rfl,hr,rfl⟩⟩
end
end Go.Proofs
end

section
namespace Go.VL
open Go.ChangeShapes Go.WideShapes Go.ChangeAt Go.RowKit
section
variable {H:Type} {enc:TypeId × Value->H} {P:Program}
theorem xG (hl:laidOutB P=true) {W W':World} {sp:Nat->Bool} (hB:Below W.heap.size W W'):∀ {ts:List TypeId} {vs:List Value} {ds:List (DataW H)} {ps:List MemPlace},
   (∀ t∈ts,P.readableRec t=true/\t<P.types.size)->DataW.TrodAll enc P W 0 (fun _=>true) true ts vs ds ps->(∀ p∈ps,p.block<W.heap.size)->(∀ p∈ps,sp p.block=true) ->
   DataW.TrodAll enc P W' 0 sp true ts vs ds ps
 | [],[],[],ps,_,h,_,_=>by simpa [DataW.TrodAll] using h
 | t::ts,v::vs,d::ds,ps,hr,h,hlt,hsp=>by
   simp only [DataW.TrodAll] at h ⊢
   obtain ⟨p,q,h1,h2,rfl⟩:=h
   refine ⟨p,q, ?_,xG hl hB (fun x hx=>hr x (by simp [hx])) h2 (fun x hx=>hlt x (by simp [hx])) (fun x hx=>hsp x (by simp [hx])),rfl⟩
   exact WideElems.Trod_stays hl (hr t (by simp)).1 (hr t (by simp)).2 h1 (fun x hx=>hB.same (hlt x (by simp [hx]))) (fun x hx=>hsp x (by simp [hx]))
 | [],[],_::_,_,_,h,_,_=>by simp [DataW.TrodAll] at h
 | [],_::_,_,_,_,h,_,_=>by simp [DataW.TrodAll] at h
 | _::_,[],_,_,_,h,_,_=>by simp [DataW.TrodAll] at h
 | _::_,_::_,[],_,_,h,_,_=>by simp [DataW.TrodAll] at h
theorem S8 {f:Func} {s:ChangeSpec} {apart fresh handsOn:Bool} {W W':World} {args:Array Value} {ds gs:List (DataW H)} {before:List MemPlace}
   (hl:laidOutB P=true) (hr:∀ t∈f.params.toList,P.readableRec t=true/\t<P.types.size) (hv:s.vars=[])
   (hs:(s.fn H (ds++gs))={ results:=[.lit (.bool true)],args:=ds }) {tb:TypeId} (BP:f.resultTypes = #[tb]) (htb:P.underlying tb=some .bool)
   (hW:DataW.Whole enc P f.params.toList s.vars apart W args.toList ds gs before) (hB:Below W.heap.size W W') :
   s.post enc P f apart fresh handsOn false W args (.bool true) W':=by
 have hlt:=hW.lt
 have hW':=hW
 obtain ⟨p,q,h1,h2,rfl,h3,h4⟩:=hW
 rw [hv] at h2
 have hq:q=[]/\gs=[]:=by
   cases gs with
   | nil=>simp only [DataW.TrodVars] at h2;exact ⟨h2,rfl⟩
   | cons _ _=>simp [DataW.TrodVars] at h2
 obtain ⟨rfl,rfl⟩:=hq
 refine ⟨ds,[],p++[],[],p,[],hW', ?_, ?_, ?_,hB.frame _,fun h=>by simp at h⟩
 . rw [hs,BP]
   exact trodAll_mk1 ⟨1,by simp [DataW.trod,htb,Value.cells]⟩
 . rw [hs]
   exact xG hl hB hr h1 (fun x hx=>hlt x (by simp [hx])) (fun x hx=>by simpa using hlt x (by simp [hx]))
 . rw [hs,hv];simp [DataW.TrodVars]
end
theorem JS {P:Program} {G:Nat->Option (List AV)} {f:FuncId} {args:List AV} {r:dN} (h:aB P G f args [] [] r) (hr:r.val = .bool true) {w:World} {ok:Nat->Prop}
   (mo:∀ b,ok b->b<w.heap.size) (hg:∀ g cs,G g=some cs->ok g/\cm ⟨fun _=>none,ok⟩ w g 0 cs) {vs:List Value} (ha:aM ⟨fun _=>none,ok⟩ w args vs) :
   Calls P f vs.toArray w fun e w'=>e = .returned (.bool true)/\Below w.heap.size w w':=by
 have hi:Inv G (fun k=>w.heap.size<=k) ⟨fun _=>none,ok⟩ w (fun _=>none):=⟨mo,fun id bk h=>by simp at h,fun i j x y h=>absurd rfl h,hg,fun k hk=>hk⟩
 refine (h.2 _ _ w _ vs (by simp) hi ha (fun _ _=>rfl)).mono fun e w' he => ?_
 obtain ⟨v,E',rfl,hp⟩:=he
 have hv:=hp.rep
 rw [hr] at hv
 simp only [aL] at hv
 subst hv
 exact ⟨rfl,hp.Cr.os,hp.Cr.tape,hp.Cr.output,hp.Cr.size,fun k hk=>hp.Cr.block k hk (by omega)⟩
end Go.VL
end
