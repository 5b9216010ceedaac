/- For every input, HistoryValid returns true, and its argument reads afterwards as it read before. Conditions: the card's (the listed package-level variables start as the program's text lays them). -/
import Derived.Test.YtcomlgfjnjpebaaGreatDoorC11
import Derived.Test.YtcomlgfjnjpebaaGreatDoorC10
import Derived.Test.YtcomlgfjnjpebaaGreatDoorC09
import Derived.Deep.Slices
import Derived.Test.YtcomlgfjnjpebaaGreatDoorProg
import Derived.KernelRfl
import Derived.OpenShut
import Derived.ProofKit
import Derived.Test.YtcomlgfjnjpebaaGreatDoorC03
import Derived.Test.YtcomlgfjnjpebaaGreatDoorRows
import Derived.Test.YtcomlgfjnjpebaaGreatDoorTie
import Derived.Test.YtcomlgfjnjpebaaGreatDoorCards
import Derived.Test.YtcomlgfjnjpebaaGreatDoorC04
import Derived.LaidMore
import Derived.DataShut
import Derived.Stop.Joined
import Derived.SevenTiedAt
import Derived.HandedShaped
import Derived.Lib.LaidU8
set_option linter.unusedSimpArgs false
set_option linter.unusedVariables false
section
set_option linter.unusedVariables false
set_option linter.unusedVariables false
namespace Go.VL
section
variable {P:Program} {G:Nat->Option (List AV)} {π : Id} {base:Nat} {Q:cD->VS->Prop} {n:Nat} {d:Option Nat} {os:List bp} {i:Nat} {t:List AV} {σ : aa}
theorem rb {f:FuncId} {l:List FX} {id:Id} {tt:Bool} {y r:AV} (h:VP P G f [dm l,y] r) (hy:af y) (hf:b7 r) (hσ : σ id=some ⟨l.map FX.av,5,false⟩) (k:vs P G π base Q n os (i+1) (fG t d r) σ):pO P G π base Q n d os i t σ f [.osl id 5 0 l.length tt,y] :=
 iF [(id,⟨l.map FX.av,5,false⟩)] h (aW.cons (dU (by simp [aa.of])) (aW.cons (View.pure hy) .nil)) hf (by simpa using hσ) k
theorem wD {f:FuncId} {y r:AV} (h:VP P G f [dm [],y] r) (hy:af y) (hf:b7 r) (k:vs P G π base Q n os (i+1) (fG t d r) σ):pO P G π base Q n d os i t σ f [.tsl 5 [],y] :=
 iF [] h (aW.cons (View.PM 5) (aW.cons (View.pure hy) .nil)) hf (by simp) k
end
noncomputable def Bz (hid:Id) (ls:List (List FX)) (now:Nat) (l:List FX) (X:FX):Int × List (Id × Option dC) :=
 if X.valid=false then (1,[]) else if dh l X.name<0 then (4,[]) else if pG (l.set (dh l X.name).toNat X)=true then (0,DL hid ls now l (l.set (dh l X.name).toNat X)) else (4,[])
noncomputable def Jq (hid:Id) (ls:List (List FX)) (now:Nat) (l:List FX) (nm:List UInt8) (on:Bool):Int × List (Id × Option dC) :=
 if dh l nm<0 then (4,[]) else (0,DL hid ls now l (l.set (dh l nm).toNat ((l.getD (dh l nm).toNat ⟨[],0,[],[],false⟩).bM on)))
theorem te (nm:List UInt8):dh [] nm = -1:=rfl
theorem zE {bh:FX->Prop} {l:List FX} {i:Nat} {X:FX} (hg:∀ Y∈l,bh Y) (hX:bh X):∀ Y∈l.set i X,bh Y:=by
 intro Y hY
 rcases List.mem_or_eq_of_mem_set hY with h | h
 . exact hg Y h
 . rw [h];exact hX
section
variable {P:Program} {G:Nat->Option (List AV)} {bh:FX->Prop} {f fp fv ff fc AD fs yj:FuncId}
set_option maxHeartbeats 4000000 in
theorem SB (h:Has P f (jX fv fp fc ff AD fs yj)) (H:HH P G bh fp fv ff fc AD fs yj) {hid:Id} {ls:List (List FX)} {now:Nat} {l:List FX} (hl:ls[now]? = some l) (xL:ls.length<=1000)
   (hlen:l.length<=200) (hg:∀ X∈l,bh X) (X:FX) (hX:bh X) (p:Id) (qK : ¬ p <:+ hid) :
   aB P G f [.ref hid 0 0,X.av] p [(hid,ga ls now)] { val := .int .i64 (Bz hid ls now l X).1,rd:=[hid],up:=(Bz hid ls now l X).2 }:=by
 unfold Bz
 have hne:∀ q:Id,q++p≠hid:=fun q e=>qK ⟨q,e⟩
 have n0:(0::p)≠hid:=hne [0]
 have n57:(5::7::p)≠hid:=hne [5,7]
 have n05:(0::p)≠5::7::p:=by simp
 have Wu:af X.av:=FX.pure X
 refine aB.has h ?_
 simp only [jX,SS,Nat.reduceAdd,FX.one,ae,FX.whole]
 refine aj (H.valid X hX) (by simp [Wu]) ?_
 cases hval:X.valid
 . rw [if_pos rfl]
   simp only [SS,Nat.reduceAdd]
   exact aV▸aA rfl (gb (up:=[]) (by simp) (by simp [aa.put,n0.symm,bC]))
 rw [if_neg (by decide)]
 simp only [SS,Nat.reduceAdd]
 refine ⟨[(hid,ga ls now)],_,jJ H.present hl _,by simp [aa.put,n0.symm,bC],by simp, ?_⟩
 simp only [SS,Nat.reduceAdd]
 by_cases h0:l=[]
 . subst h0
   refine aj (tc H.cloneL) (by simp [du]) ?_
   simp only [SS,Nat.reduceAdd,ae,FX.c0,aa.app]
   refine wD (H.find [] X.name (by simp) hg) (af.str _) (b7.int _ _) ?_
   have d0:decide ((-1:Int)<0)=true:=rfl
   rw [if_pos (show dh [] X.name<0 from by rw [te];decide)]
   simp only [te,SS,Nat.reduceAdd,d0]
   exact aV▸aA rfl (gb (up:=[]) (by simp) (by simp [aa.put,n0.symm,bC]))
 refine ⟨[],_,td H.cloneL h0 (by omega) _,by simp,by simp, ?_⟩
 simp only [SS,Nat.reduceAdd]
 rw [ai n05,ae,FX.c0]
 simp only [SS,Nat.reduceAdd]
 refine rb (H.find l X.name (by omega) hg) (af.str _) (b7.int _ _) (by simp [aa.put]) ?_
 simp only [SS,Nat.reduceAdd]
 by_cases h3:dh l X.name<0
 . rw [if_pos h3,ao h3]
   simp only [SS,Nat.reduceAdd]
   exact aV▸aA rfl (gb (up:=[]) (by simp) (by simp [aa.put,n0.symm,n57.symm,bC]))
 rw [if_neg h3,ak h3]
 obtain ⟨i,hi,hlt⟩:=jz h3
 rw [hi,Int.toNat_natCast]
 obtain ⟨Y,hY⟩:∃ Y,l[i]? = some Y:=⟨_,List.getElem?_eq_getElem hlt⟩
 have El:(l.map FX.av)[i]? = some Y.av:=by rw [List.getElem?_map,hY];rfl
 have GN:∀ Z∈l.set i X,bh Z:=zE hg hX
 have Co:(l.set i X).length=l.length:=List.length_set
 simp only [SS,Nat.reduceAdd]
 rw [ai n05,ae,FX.whole]
 simp only [SS,Nat.reduceAdd]
 refine aj (H.clone X hX) (by simp [Wu]) ?_
 simp only [SS,Nat.reduceAdd,lA hlt]
 rw [uC (k:=5) (els:=l.map FX.av) (x:=Y.av) (y:=X.av) (by simp [aa.put]) El rfl rfl (of_eq_true (FX.one _)) rfl,map_set]
 simp only [SS,Nat.reduceAdd]
 rw [<- Co]
 refine eG (H.sat _ (by omega) GN) (b7.bool _) (by simp [aa.put]) ?_
 cases hB:pG (l.set i X)
 . simp only [SS,Nat.reduceAdd]
   exact aV▸aA rfl (gb (up:=[]) (by simp) (by simp [aa.put,n0.symm,n57.symm,bC]))
 . simp only [SS,Nat.reduceAdd]
   refine kv (id:=5::7::p) (bk:=⟨(l.set i X).map FX.av,5,false⟩) (H.change hid ls now l (l.set i X) _ hl xL (by omega) (by omega) hg GN (fun q=>hne [q,_])) (dU (l:=l.set i X) (by simp [aa.of])) n57 wS (by simp [aa.put]) (by simp [aa.put,n0.symm,n57.symm,bC]) ?_
   simp only [SS,Nat.reduceAdd]
   exact aV▸aA rfl (gb qq (by simp [aa.put,aa.app,rq,n0.symm,n57.symm,bC]))
set_option maxHeartbeats 4000000 in
theorem Vc (h:Has P f (hJ fp fc ff yj)) (H:HH P G bh fp fv ff fc AD fs yj) {hid:Id} {ls:List (List FX)} {now:Nat} {l:List FX} (hl:ls[now]? = some l) (xL:ls.length<=1000)
   (hlen:l.length<=200) (hg:∀ X∈l,bh X) (hgs:∀ X∈l,∀ b,bh (X.bM b)) (nm:List UInt8) (on:Bool) (p:Id) (qK : ¬ p <:+ hid) :
   aB P G f [.ref hid 0 0, .str nm, .bool on] p [(hid,ga ls now)] { val := .int .i64 (Jq hid ls now l nm on).1,rd:=[hid],up:=(Jq hid ls now l nm on).2 }:=by
 unfold Jq
 have hne:∀ q:Id,q++p≠hid:=fun q e=>qK ⟨q,e⟩
 have GO:(5::3::p)≠hid:=hne [5,3]
 refine aB.has h ?_
 simp only [hJ,SS,Nat.reduceAdd]
 refine ⟨[(hid,ga ls now)],_,jJ H.present hl _,by simp [bC],by simp, ?_⟩
 simp only [SS,Nat.reduceAdd]
 by_cases h0:l=[]
 . subst h0
   refine aj (tc H.cloneL) (by simp [du]) ?_
   simp only [SS,Nat.reduceAdd]
   refine wD (H.find [] nm (by simp) hg) (af.str _) (b7.int _ _) ?_
   have d0:decide ((-1:Int)<0)=true:=rfl
   rw [if_pos (show dh [] nm<0 from by rw [te];decide)]
   simp only [te,SS,Nat.reduceAdd,d0]
   exact aV▸aA rfl (gb (up:=[]) (by simp) bC)
 refine ⟨[],_,td H.cloneL h0 (by omega) _,by simp,by simp, ?_⟩
 simp only [SS,Nat.reduceAdd]
 refine rb (H.find l nm (by omega) hg) (af.str _) (b7.int _ _) (by simp [aa.put]) ?_
 simp only [SS,Nat.reduceAdd]
 by_cases h3:dh l nm<0
 . rw [if_pos h3,ao h3]
   simp only [SS,Nat.reduceAdd]
   exact aV▸aA rfl (gb (up:=[]) (by simp) (by simp [aa.put,GO.symm,bC]))
 rw [if_neg h3,ak h3]
 obtain ⟨i,hi,hlt⟩:=jz h3
 rw [hi,Int.toNat_natCast]
 obtain ⟨Y,hY⟩:∃ Y,l[i]? = some Y:=⟨_,List.getElem?_eq_getElem hlt⟩
 have DX:l.getD i ⟨[],0,[],[],false⟩=Y:=by rw [List.getD_eq_getElem?_getD,hY];rfl
 rw [DX]
 have El:(l.map FX.av)[i]? = some Y.av:=by rw [List.getElem?_map,hY];rfl
 have GN:∀ Z∈l.set i (Y.bM on),bh Z:=zE hg (hgs Y (List.mem_of_getElem? hY) on)
 have Co:(l.set i (Y.bM on)).length=l.length:=List.length_set
 simp only [SS,Nat.reduceAdd,lA hlt]
 rw [cA (n:=1) (v := .bool on) (els:=l.map FX.av) (el:=Y.av) (k:=5) (by simp [aa.put]) El rfl (show 4+1<=5 by decide) rfl,show Y.av.upd 4 (AV.bool on).cells=(Y.bM on).av from rfl,map_set]
 simp only [SS,Nat.reduceAdd]
 rw [<- Co]
 refine kv (id:=5::3::p) (bk:=⟨(l.set i (Y.bM on)).map FX.av,5,false⟩) (H.change hid ls now l (l.set i (Y.bM on)) _ hl xL (by omega) (by omega) hg GN (fun q=>hne [q,_])) (dU (l:=l.set i (Y.bM on)) (by simp [aa.of])) GO wS (by simp [aa.put]) (by simp [aa.put,GO.symm,bC]) ?_
 simp only [SS,Nat.reduceAdd]
 exact aV▸aA rfl (gb qq (by simp [aa.put,aa.app,rq,GO.symm,bC]))
theorem Jr (h:Has P f eR) {hid:Id} {ls:List (List FX)} {now:Nat} (hb:now<=1000000) (p:Id) :
   aB P G f [.ref hid 0 0] p [(hid,ga ls now)] { val := .bool (decide (now≠0)),rd:=[hid],up:=if now=0 then [] else [(hid,some (ga ls (now-1)))] }:=by
 have e1:∀ o,gh (aa.of [(hid,ga ls now)]) false 1 (.ref hid 0 o)=(part false (bl ls now).cells o 1).map fun v=>{ val:=v,rd:=[hid] }:=fun o=>M0 bC
 refine aB.has h ?_
 simp only [eR,SS,Nat.reduceAdd,e1,ko]
 by_cases h0:now=0
 . rw [ao (by omega:(now:Int)=0),if_pos h0,ak (by omega : ¬ now≠0)]
   simp only [SS,Nat.reduceAdd]
   exact aV▸aA rfl fun i => .inr rfl
 . rw [ak (by omega : ¬ (now:Int)=0),if_neg h0,ao (by omega:now≠0)]
   simp only [SS,Nat.reduceAdd,e1,ko,wR h0 hb]
   rw [fJ (x:=bl ls now) (y:=bl ls (now-1)) (k:=2) (σ := aa.of [(hid,ga ls now)]) (id:=hid) (bC (b:=ga ls now)) rfl rfl (show 1+1<=2 by decide) rfl]
   simp only [SS,Nat.reduceAdd]
   exact aV▸aA rfl fun i => .inr rfl
theorem Js (h:Has P f gE) {hid:Id} {ls:List (List FX)} {now:Nat} (hb:ls.length<=1000000) (hlt:now<ls.length) (p:Id) :
   aB P G f [.ref hid 0 0] p [(hid,ga ls now)] { val := .bool (decide (now+1≠ls.length)),rd:=[hid],up:=if now+1=ls.length then [] else [(hid,some (ga ls (now+1)))] }:=by
 have e1:∀ o,gh (aa.of [(hid,ga ls now)]) false 1 (.ref hid 0 o)=(part false (bl ls now).cells o 1).map fun v=>{ val:=v,rd:=[hid] }:=fun o=>M0 bC
 refine aB.has h ?_
 simp only [gE,SS,DD,Nat.reduceAdd,e1,ko,ta,Jl,wR (show ls.length≠0 by omega) hb]
 refine ⟨by simp [ar], ?_⟩
 by_cases h0:now+1=ls.length
 . rw [ao (by omega:(now:Int)=((ls.length-1:Nat):Int)),if_pos h0,ak (by omega : ¬ now+1≠ls.length)]
   simp only [SS,Nat.reduceAdd]
   exact aV▸aA rfl fun i => .inr rfl
 . rw [ak (by omega : ¬ (now:Int)=((ls.length-1:Nat):Int)),if_neg h0,ao (by omega:now+1≠ls.length)]
   simp only [SS,Nat.reduceAdd,e1,ko,aq now (by omega)]
   rw [fJ (x:=bl ls now) (y:=bl ls (now+1)) (k:=2) (σ := aa.of [(hid,ga ls now)]) (id:=hid) (bC (b:=ga ls now)) rfl rfl (show 1+1<=2 by decide) rfl]
   simp only [SS,Nat.reduceAdd]
   exact aV▸aA rfl fun i => .inr rfl
end
end Go.VL
end

section
set_option linter.unusedVariables false
set_option linter.unusedVariables false
namespace Go.VL
theorem DM {l:List FX} {nm:List UInt8}:dh l nm<0↔nm ∉ bZ l:=by
 unfold dh bZ
 cases h:l.findIdx? fun X=>X.name==nm with
 | none =>
   have:=List.findIdx?_eq_none_iff.1 h
   constructor
   . intro _ hm
     obtain ⟨X,hX,rfl⟩:=List.mem_map.1 hm
     have:=this X hX
     simp at this
   . intro _;show x4 none<0;decide
 | some i =>
   have:=List.findIdx?_eq_some_iff_getElem.1 h
   obtain ⟨hi,hp,_⟩:=this
   constructor
   . intro hn;exact absurd hn (by show ¬ ((i:Int)<0);omega)
   . intro hn
     exact absurd (List.mem_map.2 ⟨l[i],List.getElem_mem hi,by simpa using hp⟩) hn
theorem tf {l:List FX} {nm:List UInt8} {i:Nat} (h:dh l nm=(i:Int)):∃ X,l[i]? = some X/\X.name=nm:=by
 unfold dh at h
 cases hf:l.findIdx? fun X=>X.name==nm with
 | none=>rw [hf] at h;simp [x4] at h<;>omega
 | some k =>
   rw [hf] at h
   simp only [x4] at h
   obtain rfl:k=i:=by omega
   obtain ⟨hi,hp,_⟩:=List.findIdx?_eq_some_iff_getElem.1 hf
   exact ⟨l[k],List.getElem?_eq_getElem hi,by simpa using hp⟩
def Jt (l:List FX):Prop:=∀ X∈l,X.valid=true
theorem FB {l:List FX} {i:Nat} {X:FX} (hX:l[i]? = some X):xD l i=true↔∀ n∈dX X,n∈bZ (l.take i):=by
 unfold xD
 rw [hX]
 simp only [List.all_eq_true]
 constructor
 . intro h n hn
   have:=h n hn
   by_cases hm:n∈bZ (l.take i)
   . exact hm
   . rw [ao (DM.2 hm)] at this;cases this
 . intro h n hn
   rw [ak (fun hp=>DM.1 hp (h n hn))];rfl
theorem Ju {l:List FX} {i:Nat} {X:FX} (hX:l[i]? = some X):BX l i=true↔X.valid=true/\X.name ∉ bZ (l.take i)/\∀ n∈dX X,n∈bZ (l.take i):=by
 unfold BX
 rw [hX]
 simp only [Bool.and_eq_true,List.all_eq_true,Bool.not_eq_true',List.contains_iff_mem,and_assoc]
 constructor
 . rintro ⟨h1,h2,h3⟩
   exact ⟨h1,by simpa using h2,h3⟩
 . rintro ⟨h1,h2,h3⟩
   exact ⟨h1,by simpa using h2,h3⟩
theorem Jv {l:List FX}:pG l=true↔∀ i X,l[i]? = some X->∀ n∈dX X,n∈bZ (l.take i):=by
 unfold pG
 rw [List.all_eq_true]
 constructor
 . intro h i X hX
   exact (FB hX).1 (h i (List.mem_range.2 (List.getElem?_eq_some_iff.1 hX).1))
 . intro h i hi
   have jc:=List.mem_range.1 hi
   exact (FB (List.getElem?_eq_getElem jc)).2 (h i _ (List.getElem?_eq_getElem jc))
theorem mK {l:List FX}:eg l=true↔(∀ i X,l[i]? = some X->X.valid=true/\X.name ∉ bZ (l.take i)/\∀ n∈dX X,n∈bZ (l.take i))/\l.length<=200:=by
 unfold eg
 rw [Bool.and_eq_true,List.all_eq_true,decide_eq_true_eq]
 constructor
 . rintro ⟨h,h2⟩
   exact ⟨fun i X hX=>(Ju hX).1 (h i (List.mem_range.2 (List.getElem?_eq_some_iff.1 hX).1)),h2⟩
 . rintro ⟨h,h2⟩
   refine ⟨fun i hi => ?_,h2⟩
   have jc:=List.mem_range.1 hi
   exact (Ju (List.getElem?_eq_getElem jc)).2 (h i _ (List.getElem?_eq_getElem jc))
theorem nodup_iff {l:List FX}:(bZ l).Nodup↔∀ i X,l[i]? = some X->X.name ∉ bZ (l.take i):=by
 induction l with
 | nil=>simp [bZ]
 | cons Y l ih =>
   have e:bZ (Y::l)=Y.name::bZ l:=rfl
   rw [e,List.nodup_cons,ih]
   constructor
   . rintro ⟨h1,h2⟩ i X hX
     cases i with
     | zero=>simp [bZ]
     | succ i =>
       have hX':l[i]? = some X:=by simpa using hX
       show X.name ∉ Y.name::bZ (l.take i)
       rw [List.mem_cons,not_or]
       exact ⟨fun he=>h1 (he▸List.mem_map.2 ⟨X,List.mem_of_getElem? hX',rfl⟩),h2 i X hX'⟩
   . intro h
     refine ⟨fun hm => ?_,fun i X hX => ?_⟩
     . obtain ⟨X,hX,he⟩:=List.mem_map.1 hm
       obtain ⟨i,hi,rfl⟩:=List.getElem_of_mem hX
       refine h (i+1) l[i] (by simp [hi]) ?_
       show l[i].name∈Y.name::bZ (l.take i)
       rw [he];exact List.mem_cons_self
     . have:=h (i+1) X (by simpa using hX)
       exact fun hm=>this (List.mem_cons_of_mem _ hm)
theorem uD {l:List FX} (hv:Jt l) (hn:(bZ l).Nodup) (hl:l.length<=200):eg l=pG l:=by
 by_cases h:pG l=true
 . rw [h,mK]
   exact ⟨fun i X hX=>⟨hv X (List.mem_of_getElem? hX),nodup_iff.1 hn i X hX,Jv.1 h i X hX⟩,hl⟩
 . rw [Bool.not_eq_true] at h
   rw [h]
   cases hL:eg l
   . rfl
   . exact absurd (Jv.2 fun i X hX=>((mK.1 hL).1 i X hX).2.2) (by rw [h];decide)
theorem Jw {l:List FX} (h:eg l=true):Jt l:=fun X hX=>by
 obtain ⟨i,hi,rfl⟩:=List.getElem_of_mem hX
 exact ((mK.1 h).1 i _ (List.getElem?_eq_getElem hi)).1
theorem Jy {l:List FX} (h:eg l=true):(bZ l).Nodup:=nodup_iff.2 fun i X hX=>((mK.1 h).1 i X hX).2.1
theorem iz {l:List FX} (h:eg l=true):l.length<=200:=(mK.1 h).2
theorem FC {l:List FX} {i:Nat} {X Y:FX} (hY:l[i]? = some Y) (h:X.name=Y.name):bZ (l.set i X)=bZ l:=by
 unfold bZ
 rw [List.map_set,h]
 exact DF (by rw [List.getElem?_map,hY];rfl)
theorem OT (l m:List FX):bZ (l++m)=bZ l++bZ m:=List.map_append ..
theorem Jz {l:List FX} {i:Nat} {X:FX} (hX:l[i]? = some X):List.Perm l (X::gg l i):=by
 obtain ⟨hi,rfl⟩:=List.getElem?_eq_some_iff.1 hX
 unfold gg
 have e:l=l.take i++l[i]::l.drop (i+1):=by
   rw [<- List.drop_eq_getElem_cons hi,List.take_append_drop]
 conv=>lhs;rw [e]
 exact List.perm_middle
theorem SC (m:List FX) (j:Nat) (X:FX):List.Perm (oJ m j X) (X::m):=by
 unfold oJ
 rw [List.append_assoc]
 refine (List.perm_middle (l₁:=m.take j) (a:=X) (l₂:=m.drop j)).trans ?_
 rw [List.take_append_drop]
theorem DN {l m:List FX} (h:List.Perm l m) (hn:(bZ l).Nodup):(bZ m).Nodup:=(h.map _).nodup_iff.1 hn
theorem Vd {l:List FX} {i:Nat} {X Y:FX} (hY:l[i]? = some Y):oJ (gg l i) i X=l.set i X:=by
 obtain ⟨hi,rfl⟩:=List.getElem?_eq_some_iff.1 hY
 unfold oJ gg
 have h1:(l.take i).length=i:=by rw [List.length_take];omega
 rw [List.take_left' h1,List.drop_left' h1,List.set_eq_take_append_cons_drop,if_pos hi,List.append_assoc]
 rfl
theorem K9 {l:List FX} {i:Nat} {Y:FX} {b:Bool} (hY:l[i]? = some Y) (h:eg l=true):eg (l.set i (Y.bM b))=true:=by
 have hn:∀ k,bZ ((l.set i (Y.bM b)).take k)=bZ (l.take k):=fun k=>by
   have:=FC (X:=Y.bM b) hY rfl
   unfold bZ at this ⊢
   rw [List.map_take,List.map_take,this]
 rw [mK]
 refine ⟨fun k X hX => ?_,by rw [List.length_set];exact iz h⟩
 rw [hn]
 by_cases hk:k=i
 . subst hk
   rw [List.getElem?_set_self (List.getElem?_eq_some_iff.1 hY).1] at hX
   simp only [Option.some.injEq] at hX;subst hX
   exact (mK.1 h).1 k Y hY
 . rw [List.getElem?_set_ne (Ne.symm hk)] at hX
   exact (mK.1 h).1 k X hX
end Go.VL
end

section
set_option linter.unusedVariables false
set_option linter.unusedVariables false
namespace Go.VL
def zF:AV := .agg [.str [], .int .i64 0, .nils, .nils, .bool false]
theorem aey {σ : aa} {id:Id} {n i:Nat} (h:i<n):∃ v,kI σ 5 (.osl id 5 0 n false) (some (.int .i64 (i:Int))) (some (.int .i64 ((i+1:Nat):Int))) (some (.int .i64 (n:Int))) (bT 5 (.osl id 5 0 n false) (some (.int .i64 (i:Int))) (some (.int .i64 ((i+1:Nat):Int))) (some (.int .i64 (n:Int))))=some { val:=v }:=by
 have hb:cJ n (some (.int .i64 (i:Int))) (some (.int .i64 ((i+1:Nat):Int)))=some (i,i+1):=by
   unfold cJ
   simp only [dV]
   rw [if_pos ⟨by omega,by omega⟩]
   simp only [Int.toNat_natCast]
   rw [if_pos ⟨by omega,by omega⟩]
 unfold bT
 simp only [hb,if_true,Option.isNone_some,Bool.false_eq_true,if_false]
 split
 . exact ⟨_,rfl⟩
 . refine ⟨.top, ?_⟩
   simp only [kI,Ph,if_true,hb]
   rw [if_pos ⟨by omega,by omega⟩]
theorem SD {id:Id} {n j:Nat} (h0:0<j) (h:j<n):bT 5 (.osl id 5 0 n false) (some (.int .i64 (j:Int))) none none=some (.osl id 5 j (n-j) false):=by
 simp [bT,cJ,dV,Nat.le_of_lt h,Nat.ne_of_gt h0,Nat.ne_of_lt h]
theorem M3 {id:Id} {n:Nat} (h0:0<n):bT 5 (.osl id 5 0 n false) (some (.int .i64 (n:Int))) none none=some (.sl 5 []):=by
 simp [bT,cJ,dV,Nat.ne_of_gt h0]
theorem zG {id:Id} {n j:Nat} (h:j<n):bT 5 (.osl id 5 0 n false) (some (.int .i64 (j:Int))) none none=some (.osl id 5 j (n-j) false):=by
 rcases Nat.eq_zero_or_pos j with rfl | hp
 . simp [bT,cJ,dV]
 . exact SD hp h
theorem Ve {id:Id} {n j:Nat} (h:j<=n):∃ v,bT 5 (.osl id 5 0 n false) (some (.int .i64 (j:Int))) none none=some v:=by
 rcases Nat.lt_or_ge j n with h1 | h1
 . exact ⟨_,zG h1⟩
 . obtain rfl:j=n:=by omega
   rcases Nat.eq_zero_or_pos j with rfl | hp
   . exact ⟨.osl id 5 0 0 false,by simp [bT,cJ,dV]⟩
   . exact ⟨_,M3 hp⟩
theorem Yv {σ : aa} {id:Id} {n h:Nat} {bk:dC} (hσ : σ id=some bk) (hk:bk.k=5) (hl:bk.els.length=h) (hn:n<h) :
   kI σ 5 (.osl id 5 0 n false) none (some (.int .i64 (h:Int))) none (bT 5 (.osl id 5 0 n false) none (some (.int .i64 (h:Int))) none)=some { val := .osl id 5 0 h false,rd:=[id] }:=by
 have e:bT 5 (.osl id 5 0 n false) none (some (.int .i64 (h:Int))) none=none:=by
   simp [bT,cJ,dV,show ¬ h<=n by omega]
 rw [e]
 simp [kI,hσ,hk,hl,bT,cJ,dV]
theorem JA {σ : aa} {id:Id} {n m:Nat} {bk:dC} (hσ : σ id=some bk) (hk:bk.k=5) (hm:m=n+1) (hl:bk.els.length=n+1) :
   kI σ 5 (.osl id 5 0 n false) (some (.int .i64 (n:Int))) (some (.int .i64 (m:Int))) none (bT 5 (.osl id 5 0 n false) (some (.int .i64 (n:Int))) (some (.int .i64 (m:Int))) none)=some { val := .osl id 5 n 1 false,rd:=[id] }:=by
 subst hm
 have hle : ¬ ((n:Int)+1<=n):=by omega
 have h0:(0:Int)<=(n:Int)+1:=by omega
 have h1:((n:Int)+1).toNat=n+1:=by omega
 have e:bT 5 (.osl id 5 0 n false) (some (.int .i64 (n:Int))) (some (.int .i64 ((n+1:Nat):Int))) none=none:=by
   simp [bT,cJ,dV,hle]
 rw [e]
 rcases Nat.eq_zero_or_pos n with rfl | hp
 . simp [kI,hσ,hk,hl,bT,cJ,dV]
 . have hn:(n:Int)<=(n:Int)+1:=by omega
   have e1:n+1-n=1:=by omega
   simp [kI,hσ,hk,hl,bT,cJ,dV,h0,h1,hn,Nat.ne_of_gt hp,e1]
theorem SE {σ : aa} {p id:Id} {E:List AV} {n i:Nat} (h : σ id=some ⟨E,5,false⟩) (hE:E.length=n) (hi:i+1<n) (hn:n<=1000) (h1:(E.all fun e=>e.cells.all AV.one)=true) :
   b6 σ p 5 80 (.osl id 5 0 i false) (.osl id 5 (i+1) (n-(i+1)) false)=some { val := .osl id 5 0 (n-1) false,rd:=[id,id],up:=[(id,some ⟨E.take i++E.drop (i+1)++E.drop (n-1),5,false⟩)] }:=by
 have hys:(E.drop (i+1)).take (n-(i+1))=E.drop (i+1):=List.take_of_length_le (by rw [List.length_drop];omega)
 have hyl:(E.drop (i+1)).length=n-(i+1):=by rw [List.length_drop];omega
 have hne:(E.drop (i+1)).isEmpty=false:=by
   cases hc:E.drop (i+1) with
   | nil=>rw [hc] at hyl;simp at hyl;omega
   | cons _ _=>rfl
 have ha:((E.drop (i+1)).all fun e=>e.cells.all AV.one)=true:=by
   rw [List.all_eq_true] at h1 ⊢;exact fun e he=>h1 e (List.mem_of_mem_drop he)
 have e2:i+(n-(i+1))=n-1:=by omega
 unfold b6
 rw [jF h rfl (by simp;omega)]
 simp only [hys,hne,h,hyl,ha,e2,Bool.false_eq_true,if_false]
 rw [if_pos ⟨trivial,trivial,trivial,by omega,by omega,cK (by omega),trivial⟩,if_neg (by omega),if_pos ⟨by omega,trivial⟩]
theorem JB {σ : aa} {id:Id} {E:List AV} {n:Nat} (h : σ id=some ⟨E,5,false⟩) (hE:E.length=n+1):xF σ 5 (.agg [.str [], .int .i64 0, .nils, .nils, .bool false]) (.osl id 5 n 1 false)=some { val := .tup [],rd:=[id],up:=[(id,some ⟨E.take n++[zF],5,false⟩)] }:=by
 have hd:E.drop (n+1)=[]:=List.drop_of_length_le (by omega)
 simp [xF,uG,h,hE,hd,AV.size,AV.cells,AV.one,zF]
theorem OU {σ : aa}:dA σ 5 (.sl 5 [])=some ([],[]):=rfl
section
variable {P:Program} {G:Nat->Option (List AV)}
set_option maxHeartbeats 1000000 in
theorem FD {f:FuncId} (h:Has P f bx) {id:Id} {l:List FX} {i:Nat} (hi:i<l.length) (hl:l.length<=1000) (p:Id) :
   aB P G f [.osl id 5 0 l.length false, .int .i64 (i:Int), .int .i64 ((i+1:Nat):Int)] p [(id,⟨l.map FX.av,5,false⟩)]
     { val := .osl id 5 0 (l.length-1) false,rd:=[id],up:=[(id,some ⟨(gg l i).map FX.av++[zF],5,false⟩)] }:=by
 refine aB.has h ?_
 obtain ⟨v13,aez⟩:=aey (σ := aa.of [(id,⟨l.map FX.av,5,false⟩)]) (id:=id) hi
 have d0:decide ((i:Int)=((i+1:Nat):Int))=false:=ak (by omega)
 have hst:aa.of [(id,⟨l.map FX.av,5,false⟩)] id=some ⟨l.map FX.av,5,false⟩:=bC
 have QR:l.length-1+1=l.length:=by omega
 simp only [bx,SS,DD,Nat.reduceAdd,aez,d0,Dd (Nat.le_of_lt hi)]
 have h1:=ny l
 by_cases hj:i+1=l.length
 . have e25:bT 5 (.osl id 5 0 l.length false) (some (.int .i64 ((i+1:Nat):Int))) none none=some (.sl 5 []):=by rw [hj];exact M3 (by omega)
   simp only [e25,SS,DD,Nat.reduceAdd,lJ OU]
   refine ⟨by simp [ar], ?_⟩
   have ht:=JA (σ := aa.of [(id,⟨l.map FX.av,5,false⟩)]) (id:=id) (n:=i) (m:=l.length) bC rfl hj.symm (by simp [hj])
   simp only [SS,Nat.reduceAdd,ht]
   rw [JB bC (by simp [hj])]
   simp only [SS,Nat.reduceAdd]
   refine aV▸aA ?_ fun i' => ?_
   . simp only [RS,bR,cv,show l.length-1=i by omega]
   . right
     have e:(gg l i).map FX.av++[zF]=(l.map FX.av).take i++[zF]:=by
       unfold gg
       rw [List.drop_of_length_le (show l.length<=i+1 by omega),List.append_nil,List.map_take]
     rw [e]
     rfl
 . rw [SD (Nat.succ_pos i) (show i+1<l.length by omega)]
   simp only [SS,DD,Nat.reduceAdd]
   rw [SE (n:=l.length) bC (by simp) (by omega) hl h1]
   simp only [SS,DD,Nat.reduceAdd]
   refine ⟨by simp [ar], ?_⟩
   have hE:((l.map FX.av).take i++(l.map FX.av).drop (i+1)++(l.map FX.av).drop (l.length-1)).length=l.length-1+1:=by simp;omega
   rw [JA (m:=l.length) (aa.bb _ _ _) rfl QR.symm hE]
   simp only [SS,Nat.reduceAdd]
   rw [JB (aa.bb _ _ _) hE]
   simp only [SS,Nat.reduceAdd]
   refine aV▸aA rfl fun i' => ?_
   right
   have e:(gg l i).map FX.av++[zF]=((l.map FX.av).take i++(l.map FX.av).drop (i+1)++(l.map FX.av).drop (l.length-1)).take (l.length-1)++[zF]:=by
     have hx:((l.map FX.av).take i++(l.map FX.av).drop (i+1)).length=l.length-1:=by simp;omega
     rw [List.take_left' hx]
     unfold gg
     rw [List.map_append,List.map_take,List.map_drop]
   rw [e]
   by_cases q:i'=id
   . subst q;simp [aa.app,aa.put]
   . simp [aa.app,aa.put,q]
end
end Go.VL
end

section
set_option linter.unusedVariables false
set_option linter.unusedVariables false
namespace Go.VL
theorem SF {A:List AV} {z x:AV} {j:Nat} (hj:j<A.length) :
   (((A++[z]).take (j+1)++((A++[z]).drop j).take (A.length-j)++(A++[z]).drop (j+1+(A.length-j))).take j)++[x]++(((A++[z]).take (j+1)++((A++[z]).drop j).take (A.length-j)++(A++[z]).drop (j+1+(A.length-j))).drop (j+1))=A.take j++[x]++A.drop j:=by
 have h1:(A++[z]).drop (j+1+(A.length-j))=[]:=List.drop_of_length_le (by simp;omega)
 have h2:(A++[z]).take (j+1)=A.take (j+1):=List.take_append_of_le_length (by omega)
 have h3:(A++[z]).drop j=A.drop j++[z]:=List.drop_append_of_le_length (by omega)
 have h4:(A.drop j++[z]).take (A.length-j)=A.drop j:=List.take_left' (by simp)
 have h5:(A.take (j+1)).length=j+1:=by rw [List.length_take];omega
 rw [h1,h2,h3,h4,List.append_nil,List.drop_left' h5,List.take_append_of_le_length (by omega),List.take_take,Nat.min_eq_left (by omega)]
theorem J9 {σ : aa} {p id q:Id} {A:List AV} {z:AV} {X:FX} (h : σ id=some ⟨A++[z],5,false⟩) (hq : σ q=some ⟨[X.av],5,false⟩) (hA:A.length<=1000) :
   b6 σ p 5 80 (.osl id 5 0 A.length false) (.osl q 5 0 1 false)=some { val := .osl id 5 0 (A.length+1) false,rd:=[id,q],up:=[(id,some ⟨A++[X.av],5,false⟩)] }:=by
 have h1:([X.av].all fun e=>e.cells.all AV.one)=true:=ny [X]
 unfold b6
 rw [oO hq]
 simp only [h,h1,List.isEmpty_cons,Bool.false_eq_true,if_false,List.length_cons,List.length_nil,List.length_append]
 rw [if_pos ⟨trivial,trivial,trivial,by omega,by omega,cK (by omega),trivial⟩,if_neg (by omega),if_pos ⟨by omega,trivial⟩]
 have e:(A++[z]).take A.length++[X.av]++(A++[z]).drop (A.length+(0+1))=A++[X.av]:=by
   rw [List.take_left' rfl,List.drop_of_length_le (by simp),List.append_nil]
 simp only [e,Nat.zero_add]
theorem Vf {σ : aa} {id:Id} {n:Nat} {bk:dC} (h : σ id=some bk):yl σ (.osl id 5 0 n false) (Na (.osl id 5 0 n false))=some { val := .ige bk.els.length,rd:=[id] }:=by
 simp [yl,Na,h]
theorem Vg {a n:Nat} (h:a<=n):bo .gtr .int (.int .i64 (a:Int)) (.ige n)=some (.bool false):=by
 simp [bo,kS,Li,h]
theorem Yw {σ : aa} {id q:Id} {o1 l1 o2 l2:Nat} {b1 b2:dC} (hne:q≠id) (h1 : σ q=some b1) (h2 : σ id=some b2) (hk:0<b2.k) (hl:0<b2.els.length):GR σ (.osl q 5 o1 l1 false) (.osl id 5 o2 l2 false)=some { val := .bool false,rd:=[q,id] }:=by
 simp [GR,hne,h1,h2,hk,hl]
theorem OV {σ : aa} {id:Id} {E:List AV} {n j:Nat} (h : σ id=some ⟨E,5,false⟩) (hE:E.length=n+1) (hj:j<n) (h1:(E.all fun e=>e.cells.all AV.one)=true) :
   yk σ 5 (.osl id 5 (j+1) (n+1-(j+1)) false) (.osl id 5 j (n+1-j) false)=some { val := .int .i64 ((n-j:Nat):Int),rd:=[id,id],up:=[(id,some ⟨E.take (j+1)++(E.drop j).take (n-j)++E.drop (j+1+(n-j)),5,false⟩)] }:=by
 have e1:((E.drop j).take (n+1-j)).take (n+1-(j+1))=(E.drop j).take (n-j):=by
   rw [List.take_take,Nat.min_eq_left (by omega)];congr 1;omega
 have hl:((E.drop j).take (n-j)).length=n-j:=by rw [List.length_take,List.length_drop];omega
 have hne:((E.drop j).take (n-j)).isEmpty=false:=by
   cases hc:(E.drop j).take (n-j) with
   | nil=>rw [hc] at hl;simp at hl;omega
   | cons _ _=>rfl
 have ha:(((E.drop j).take (n-j)).all fun e=>e.cells.all AV.one)=true:=by
   rw [List.all_eq_true] at h1 ⊢;exact fun e he=>h1 e (List.mem_of_mem_drop (List.mem_of_mem_take he))
 unfold yk
 rw [jF h rfl (by simp;omega)]
 simp only [e1,hne,uG,h,hl,ha,if_true,Bool.false_eq_true,if_false]
 rw [if_pos ⟨trivial,by omega,trivial,trivial⟩]
theorem SG {σ : aa} {id q:Id} {E:List AV} {n j:Nat} {X:FX} (h : σ id=some ⟨E,5,false⟩) (hq : σ q=some ⟨[X.av],5,false⟩) (hE:E.length=n+1) (hj:j<n) :
   yk σ 5 (.osl id 5 j (n+1-j) false) (.osl q 5 0 1 false)=some { val := .int .i64 1,rd:=[id,q],up:=[(id,some ⟨E.take j++[X.av]++E.drop (j+1),5,false⟩)] }:=by
 have h1:([X.av].all fun e=>e.cells.all AV.one)=true:=ny [X]
 have e1:[X.av].take (n+1-j)=[X.av]:=List.take_of_length_le (by simp;omega)
 unfold yk
 rw [oO hq]
 simp only [e1,uG,h,h1,List.isEmpty_cons,if_true,Bool.false_eq_true,if_false,List.length_cons,List.length_nil]
 rw [if_pos ⟨trivial,by omega,trivial,trivial⟩]
 rfl
section
variable {P:Program} {G:Nat->Option (List AV)}
set_option maxHeartbeats 2000000 in
theorem OW {f fr:FuncId} (h:Has P f (bP fr)) {id q:Id} {M:List FX} {j:Nat} {X:FX} (hj:j<=M.length) (hM:M.length<=1000) (hq:q≠id) (p:Id) :
   aB P G f [.osl id 5 0 M.length false, .int .i64 (j:Int), .osl q 5 0 1 false] p [(id,⟨M.map FX.av++[zF],5,false⟩),(q,⟨[X.av],5,false⟩)]
     { val := .osl id 5 0 (M.length+1) false,rd:=[id,q],up:=[(id,some ⟨(oJ M j X).map FX.av,5,false⟩)] }:=by
 refine aB.has h ?_
 generalize hA:M.map FX.av=A
 have hAl:A.length=M.length:=by rw [<- hA,List.length_map]
 have abu:(oJ M j X).map FX.av=A.take j++[X.av]++A.drop j:=by
   unfold oJ;rw [<- hA];simp
 have hA1:((A++[zF]).all fun e=>e.cells.all AV.one)=true:=by
   rw [<- hA,List.all_append,ny];rfl
 rw [abu]
 rw [<- hAl] at hj hM ⊢
 clear abu hAl hA
 have s1:aa.of [(id,⟨A++[zF],5,false⟩),(q,⟨[X.av],5,false⟩)] id=some ⟨A++[zF],5,false⟩:=by simp [aa.of]
 have s2:aa.of [(id,⟨A++[zF],5,false⟩),(q,⟨[X.av],5,false⟩)] q=some ⟨[X.av],5,false⟩:=by
   have hb:(q==id)=false:=by simpa using hq
   simp [aa.of,List.lookup_cons,hb]
 obtain ⟨v12,aeA⟩:=Ve (id:=id) hj
 have d1:decide (((1:Nat):Int)=0)=false:=rfl
 have w1:IntKind.i64.wrap ((A.length:Int)+((1:Nat):Int))=((A.length+1:Nat):Int):=aq A.length (by omega)
 have w2:IntKind.i64.wrap ((j:Int)+((1:Nat):Int))=((j+1:Nat):Int):=aq j (by omega)
 simp only [bP,SS,Nat.reduceAdd,aeA,d1]
 by_cases JU:j=A.length
 . rw [ao (by omega:(j:Int)=(A.length:Int))]
   simp only [SS,Nat.reduceAdd]
   rw [J9 s1 s2 hM]
   simp only [SS,Nat.reduceAdd]
   refine aV▸aA rfl fun i => ?_
   right
   rw [JU,List.take_length,List.drop_length,List.append_nil]
   rfl
 rw [ak (by omega : ¬ (j:Int)=(A.length:Int))]
 have hlt:j<A.length:=by omega
 have g1:=Vg (a:=A.length+1) (n:=(A++[zF]).length) (by simp)
 have u1:=Yv (n:=A.length) (h:=A.length+1) s1 rfl (by simp) (by omega)
 simp only [SS,Nat.reduceAdd,w1,Vf s1,g1,u1,w2]
 rw [zG (show j+1<A.length+1 by omega)]
 simp only [SS,Nat.reduceAdd]
 rw [Yw hq s2 s1 (show 0<5 by decide) (by simp)]
 simp only [SS,DD,Nat.reduceAdd,w2]
 rw [zG (show j+1<A.length+1 by omega)]
 simp only [SS,DD,Nat.reduceAdd]
 rw [zG (show j<A.length+1 by omega)]
 simp only [SS,DD,Nat.reduceAdd]
 rw [OV s1 (by simp) hlt hA1]
 simp only [SS,DD,Nat.reduceAdd]
 refine ⟨by simp [ar], ?_⟩
 have mO:((A++[zF]).take (j+1)++((A++[zF]).drop j).take (A.length-j)++(A++[zF]).drop (j+1+(A.length-j))).length=A.length+1:=by simp;omega
 rw [zG (show j<A.length+1 by omega)]
 simp only [SS,Nat.reduceAdd]
 rw [SG (n:=A.length) (X:=X) (aa.bb _ _ _) (by rw [aa.bd _ _ _ hq];exact s2) mO hlt,SF hlt]
 simp only [SS,Nat.reduceAdd]
 refine aV▸aA rfl fun i => ?_
 right
 by_cases e:i=id
 . subst e;simp [aa.app,aa.put]
 . simp [aa.app,aa.put,e]
end
end Go.VL
end

section
set_option linter.unusedVariables false
set_option linter.unusedVariables false
namespace Go.VL
theorem FE {σ : aa} {id:Id} {m:List FX} {r:List AV} {t:Bool} {n:Nat} (hn:n=m.length) (h : σ id=some ⟨m.map FX.av++r,5,false⟩):View σ (.osl id 5 0 n t) (dm m):=by
 subst hn
 refine View.osl (bk:=⟨m.map FX.av++r,5,false⟩) h rfl (by simp) ?_ (by simp) (fun d hd => ?_)
 . have e:((m.map FX.av++r).drop 0).take m.length=m.map FX.av:=by
     rw [List.drop_zero,List.take_left' (by simp)]
   simp only [e]
   refine aW.pure fun c hc => ?_
   simp only [flat,List.mem_flatMap] at hc
   obtain ⟨v,hv,hc⟩:=hc
   obtain ⟨y,_,rfl⟩:=List.mem_map.1 hv
   exact FX.j4 y c hc
 . obtain ⟨y,_,rfl⟩:=List.mem_map.1 hd
   rfl
section
variable {P:Program} {G:Nat->Option (List AV)} {π : Id} {base:Nat} {Q:cD->VS->Prop} {n:Nat} {d:Option Nat} {os:List bp} {i:Nat} {t:List AV} {σ : aa}
theorem JC {f:FuncId} {m:List FX} {r0:List AV} {id:Id} {tt:Bool} {k0:Nat} {r:AV} (h:VP P G f [dm m] r) (hn:k0=m.length) (hf:b7 r) (hσ : σ id=some ⟨m.map FX.av++r0,5,false⟩) (k:vs P G π base Q n os (i+1) (fG t d r) σ):pO P G π base Q n d os i t σ f [.osl id 5 0 k0 tt] :=
 iF [(id,⟨m.map FX.av++r0,5,false⟩)] h (aW.cons (FE (r:=r0) hn (by simp [aa.of])) .nil) hf (fun x hx=>by rw [List.mem_singleton] at hx;subst hx;exact hσ) k
end
noncomputable def JD (hid:Id) (ls:List (List FX)) (now:Nat) (l:List FX) (nm:List UInt8):Int × List (Id × Option dC) :=
 if dh l nm<0 then (4,[]) else if pG (gg l (dh l nm).toNat)=true then (0,DL hid ls now l (gg l (dh l nm).toNat)) else (14,[])
noncomputable def BA (hid:Id) (ls:List (List FX)) (now:Nat) (l:List FX) (nm:List UInt8) (pK:Int):Int × List (Id × Option dC) :=
 if pK<0∨(l.length:Int)<=pK then (1,[]) else if dh l nm<0 then (4,[]) else
   let m:=oJ (gg l (dh l nm).toNat) pK.toNat (l.getD (dh l nm).toNat ⟨[],0,[],[],false⟩)
   if pG m=true then (0,DL hid ls now l m) else (14,[])
theorem qu {bh:FX->Prop} {l:List FX} {i:Nat} (hg:∀ Y∈l,bh Y):∀ Y∈gg l i,bh Y:=by
 intro Y hY
 unfold gg at hY
 rcases List.mem_append.1 hY with h | h
 . exact hg Y (List.mem_of_mem_take h)
 . exact hg Y (List.mem_of_mem_drop h)
theorem zH {bh:FX->Prop} {m:List FX} {j:Nat} {X:FX} (hg:∀ Y∈m,bh Y) (hX:bh X):∀ Y∈oJ m j X,bh Y:=by
 intro Y hY
 unfold oJ at hY
 simp only [List.mem_append,List.mem_singleton] at hY
 rcases hY with (h | h) | h
 . exact hg Y (List.mem_of_mem_take h)
 . rw [h];exact hX
 . exact hg Y (List.mem_of_mem_drop h)
theorem szR {m:List FX}:∀ e∈m.map FX.av++[zF],e.size=5:=by
 intro e he
 rcases List.mem_append.1 he with h | h
 . exact wS e h
 . rw [List.mem_singleton] at h;subst h;rfl
section
variable {P:Program} {G:Nat->Option (List AV)} {bh:FX->Prop} {f fp fv ff fc AD fs yj fd abv:FuncId}
set_option maxHeartbeats 4000000 in
theorem Vh (h:Has P f (fP fp fc ff fd fs yj)) (hd:Has P fd bx) (H:HH P G bh fp fv ff fc AD fs yj) {hid:Id} {ls:List (List FX)} {now:Nat} {l:List FX} (hl:ls[now]? = some l) (xL:ls.length<=1000)
   (hlen:l.length<=200) (hg:∀ X∈l,bh X) (nm:List UInt8) (p:Id) (qK : ¬ p <:+ hid) :
   aB P G f [.ref hid 0 0, .str nm] p [(hid,ga ls now)] { val := .int .i64 (JD hid ls now l nm).1,rd:=[hid],up:=(JD hid ls now l nm).2 }:=by
 unfold JD
 have hne:∀ q:Id,q++p≠hid:=fun q e=>qK ⟨q,e⟩
 have GO:(5::3::p)≠hid:=hne [5,3]
 refine aB.has h ?_
 simp only [fP,SS,Nat.reduceAdd]
 refine ⟨[(hid,ga ls now)],_,jJ H.present hl _,by simp [bC],by simp, ?_⟩
 simp only [SS,Nat.reduceAdd]
 by_cases h0:l=[]
 . subst h0
   refine aj (tc H.cloneL) (by simp [du]) ?_
   simp only [SS,Nat.reduceAdd]
   refine wD (H.find [] nm (by simp) hg) (af.str _) (b7.int _ _) ?_
   have d0:decide ((-1:Int)<0)=true:=rfl
   rw [if_pos (show dh [] nm<0 from by rw [te];decide)]
   simp only [te,SS,Nat.reduceAdd,d0]
   exact aV▸aA rfl (gb (up:=[]) (by simp) bC)
 refine ⟨[],_,td H.cloneL h0 (by omega) _,by simp,by simp, ?_⟩
 simp only [SS,Nat.reduceAdd]
 refine rb (H.find l nm (by omega) hg) (af.str _) (b7.int _ _) (by simp [aa.put]) ?_
 simp only [SS,Nat.reduceAdd]
 by_cases h3:dh l nm<0
 . rw [if_pos h3,ao h3]
   simp only [SS,Nat.reduceAdd]
   exact aV▸aA rfl (gb (up:=[]) (by simp) (by simp [aa.put,GO.symm,bC]))
 rw [if_neg h3,ak h3]
 obtain ⟨i,hi,hlt⟩:=jz h3
 rw [hi,Int.toNat_natCast]
 have uT:=oP hlt
 have GN:∀ Z∈gg l i,bh Z:=qu hg
 simp only [SS,Nat.reduceAdd,aq i (by omega)]
 refine ⟨[(5::3::p,⟨l.map FX.av,5,false⟩)],_,FD hd hlt (by omega) _,by simp [aa.put],by simp, ?_⟩
 simp only [SS,Nat.reduceAdd]
 refine JC (r0:=[zF]) (H.sat _ (by omega) GN) (by omega) (b7.bool _) (by simp [aa.put]) ?_
 cases hB:pG (gg l i)
 . simp only [SS,Nat.reduceAdd]
   exact aV▸aA rfl (gb (up:=[]) (by simp) (by simp [aa.put,GO.symm,bC]))
 . simp only [SS,Nat.reduceAdd]
   refine kv (id:=5::3::p) (bk:=⟨(gg l i).map FX.av++[zF],5,false⟩) (H.change hid ls now l (gg l i) _ hl xL (by omega) (by omega) hg GN (fun q=>hne [q,_])) (FE (r:=[zF]) (by omega) (by simp [aa.of])) GO szR (by simp [aa.put]) (by simp [aa.put,GO.symm,bC]) ?_
   simp only [SS,Nat.reduceAdd]
   exact aV▸aA rfl (gb qq (by simp [aa.put,aa.app,rq,GO.symm,bC]))
set_option maxHeartbeats 4000000 in
theorem SH (h:Has P f (gG fp fc ff fd abv fs yj)) (hd:Has P fd bx) {fr:FuncId} (Gs:Has P abv (bP fr)) (H:HH P G bh fp fv ff fc AD fs yj) {hid:Id} {ls:List (List FX)} {now:Nat} {l:List FX} (hl:ls[now]? = some l) (xL:ls.length<=1000)
   (hlen:l.length<=200) (hg:∀ X∈l,bh X) (nm:List UInt8) (pK:Int) (p:Id) (qK : ¬ p <:+ hid) :
   aB P G f [.ref hid 0 0, .str nm, .int .i64 pK] p [(hid,ga ls now)] { val := .int .i64 (BA hid ls now l nm pK).1,rd:=[hid],up:=(BA hid ls now l nm pK).2 }:=by
 unfold BA
 have hne:∀ q:Id,q++p≠hid:=fun q e=>qK ⟨q,e⟩
 have GO:(5::3::p)≠hid:=hne [5,3]
 refine aB.has h ?_
 simp only [gG,SS,Nat.reduceAdd]
 refine ⟨[(hid,ga ls now)],_,jJ H.present hl _,by simp [bC],by simp, ?_⟩
 simp only [SS,Nat.reduceAdd]
 by_cases h0:l=[]
 . subst h0
   rw [if_pos (show pK<0∨(([]:List FX).length:Int)<=pK from by simp;omega)]
   refine aj (tc H.cloneL) (by simp [du]) ?_
   simp only [SS,Nat.reduceAdd]
   by_cases t1:pK<0
   . simp only [SS,Nat.reduceAdd,ao t1]
     exact aV▸aA rfl (gb (up:=[]) (by simp) bC)
   . have t2:decide (((0:Nat):Int)<=pK)=true:=ao (by omega)
     simp only [SS,Nat.reduceAdd,ak t1,t2]
     exact aV▸aA rfl (gb (up:=[]) (by simp) bC)
 refine ⟨[],_,td H.cloneL h0 (by omega) _,by simp,by simp, ?_⟩
 simp only [SS,Nat.reduceAdd]
 by_cases t1:pK<0
 . rw [if_pos (.inl t1)]
   simp only [SS,Nat.reduceAdd,ao t1]
   exact aV▸aA rfl (gb (up:=[]) (by simp) (by simp [aa.put,GO.symm,bC]))
 simp only [SS,Nat.reduceAdd,ak t1]
 by_cases t2:(l.length:Int)<=pK
 . rw [if_pos (.inr t2)]
   simp only [SS,Nat.reduceAdd,ao t2]
   exact aV▸aA rfl (gb (up:=[]) (by simp) (by simp [aa.put,GO.symm,bC]))
 rw [if_neg (by omega)]
 simp only [SS,Nat.reduceAdd,ak t2]
 refine rb (H.find l nm (by omega) hg) (af.str _) (b7.int _ _) (by simp [aa.put]) ?_
 simp only [SS,Nat.reduceAdd]
 by_cases h3:dh l nm<0
 . rw [if_pos h3,ao h3]
   simp only [SS,Nat.reduceAdd]
   exact aV▸aA rfl (gb (up:=[]) (by simp) (by simp [aa.put,GO.symm,bC]))
 rw [if_neg h3,ak h3]
 obtain ⟨i,hi,hlt⟩:=jz h3
 obtain ⟨j,hj⟩:∃ j:Nat,pK=(j:Int):=⟨pK.toNat,by omega⟩
 rw [hi,Int.toNat_natCast,hj,Int.toNat_natCast]
 obtain ⟨X,hX⟩:∃ X,l[i]? = some X:=⟨_,List.getElem?_eq_getElem hlt⟩
 have hgx:(l.map FX.av)[i]? = some X.av:=by rw [List.getElem?_map,hX];rfl
 have DX:l.getD i ⟨[],0,[],[],false⟩=X:=by rw [List.getD_eq_getElem?_getD,hX];rfl
 rw [DX]
 have uT:=oP hlt
 have nH:j<=(gg l i).length:=by omega
 have JV:=zD (X:=X) nH
 have GN:∀ Z∈oJ (gg l i) j X,bh Z:=zH (qu hg) (hg X (List.mem_of_getElem? hX))
 simp only [SS,Nat.reduceAdd,lA hlt]
 rw [mG (bk:=⟨l.map FX.av,5,false⟩) (by simp [aa.put]) hgx,FX.whole]
 simp only [SS,Nat.reduceAdd,jb]
 have n23:(23::p)≠hid:=hne [23]
 have aeB:l.length-1=(gg l i).length:=by omega
 rw [oa (k:=(AV.agg [.str [], .int .i64 0, .nils, .nils, .bool false]).size) (by simp [aa.put])]
 simp only [SS,DD,Nat.reduceAdd,aq i (by omega)]
 refine ⟨[(5::3::p,⟨l.map FX.av,5,false⟩)],_,FD hd hlt (by omega) _,by simp [aa.put],by simp, ?_⟩
 simp only [SS,DD,Nat.reduceAdd]
 rw [aeB,ai (by simp),ae,FX.whole]
 simp only [SS,DD,Nat.reduceAdd,xC]
 have n32:(32::p)≠hid:=hne [32]
 refine ⟨[(5::3::p,⟨(gg l i).map FX.av++[zF],5,false⟩),(32::p,⟨[X.av],5,false⟩)],_,OW Gs nH (by omega) (by simp) _, ?_, ?_, ?_⟩
 . intro x hx
   simp only [List.mem_cons,List.not_mem_nil,or_false] at hx
   rcases hx with rfl | rfl
   . simp [aa.put]
   . exact aa.bb _ _ _
 . intro x hx
   simp only [List.mem_cons,List.not_mem_nil,or_false] at hx
   rcases hx with rfl | rfl<;>simp
 simp only [SS,DD,Nat.reduceAdd]
 refine ⟨by simp [ar,apart], ?_⟩
 rw [<- JV]
 refine eG (H.sat _ (by omega) GN) (b7.bool _) (by simp [aa.put]) ?_
 cases hB:pG (oJ (gg l i) j X)
 . simp only [SS,Nat.reduceAdd]
   exact aV▸aA rfl (gb (up:=[]) (by simp) (by simp [aa.put,GO.symm,n23.symm,n32.symm,bC]))
 . simp only [SS,Nat.reduceAdd]
   refine kv (id:=5::3::p) (bk:=⟨(oJ (gg l i) j X).map FX.av,5,false⟩) (H.change hid ls now l (oJ (gg l i) j X) _ hl xL (by omega) (by omega) hg GN (fun q=>hne [q,_])) (dU (by simp [aa.of])) GO wS (by simp [aa.put]) (by simp [aa.put,GO.symm,n23.symm,n32.symm,bC]) ?_
   simp only [SS,Nat.reduceAdd]
   exact aV▸aA rfl (gb qq (by simp [aa.put,aa.app,rq,GO.symm,n23.symm,n32.symm,bC]))
end
end Go.VL
end

section
set_option linter.unusedVariables false
set_option linter.unusedVariables false
namespace Go.VL
noncomputable def qv (hid:Id) (ls:List (List FX)) (now:Nat) (l:List FX) (o:OX):Int × List (Id × Option dC) :=
 if o.kind%7=0 then Jp hid ls now l o.F else if o.kind%7=1 then Bz hid ls now l o.F else if o.kind%7=2 then Jq hid ls now l o.name o.on
 else if o.kind%7=3 then BA hid ls now l o.name o.pK else JD hid ls now l o.name
def FF (l:List FX) (o:OX):List FX × Int :=
 if o.kind%7=0 then (if o.F.valid=false then ([],1) else if l.length=200 then ([],3) else if 0<=dh l o.F.name then ([],5) else if pG (l++[o.F])=true then (l++[o.F],0) else ([],4))
 else if o.kind%7=1 then (if o.F.valid=false then ([],1) else if dh l o.F.name<0 then ([],4) else if pG (l.set (dh l o.F.name).toNat o.F)=true then (l.set (dh l o.F.name).toNat o.F,0) else ([],4))
 else if o.kind%7=2 then (if dh l o.name<0 then ([],4) else (l.set (dh l o.name).toNat ((l.getD (dh l o.name).toNat ⟨[],0,[],[],false⟩).bM o.on),0))
 else if o.kind%7=3 then (if o.pK<0∨(l.length:Int)<=o.pK then ([],1) else if dh l o.name<0 then ([],4) else
   if pG (oJ (gg l (dh l o.name).toNat) o.pK.toNat (l.getD (dh l o.name).toNat ⟨[],0,[],[],false⟩))=true then (oJ (gg l (dh l o.name).toNat) o.pK.toNat (l.getD (dh l o.name).toNat ⟨[],0,[],[],false⟩),0) else ([],14))
 else (if dh l o.name<0 then ([],4) else if pG (gg l (dh l o.name).toNat)=true then (gg l (dh l o.name).toNat,0) else ([],14))
theorem FG (hid:Id) (ls:List (List FX)) (now:Nat) (l:List FX) (o:OX):qv hid ls now l o=((FF l o).2,if (FF l o).2=0 then DL hid ls now l (FF l o).1 else []):=by
 unfold qv FF Jp Bz Jq BA JD
 simp only []
 repeat' split
 all_goals first | rfl | (simp_all;done) | skip
 all_goals simp_all
theorem La {l:List FX} {X:FX} (hn:(bZ l).Nodup) (h:dh l X.name<0):(bZ (l++[X])).Nodup:=by
 rw [OT,List.nodup_append]
 refine ⟨hn,by simp [bZ], ?_⟩
 intro a ha b hb MJ
 simp [bZ] at hb
 subst MJ;subst hb
 exact DM.1 h ha
theorem OY {l:List FX} {i:Nat} {X:FX} (hX:l[i]? = some X) (hn:(bZ l).Nodup):(bZ (gg l i)).Nodup:=by
 have:=DN (Jz hX) hn
 exact (List.nodup_cons.1 this).2
theorem OZ {l:List FX} {i j:Nat} {X:FX} (hX:l[i]? = some X) (hn:(bZ l).Nodup):(bZ (oJ (gg l i) j X)).Nodup :=
 DN ((Jz hX).trans (SC _ _ _).symm) hn
theorem step_eq {l:List FX} {o:OX} (hL:eg l=true) (hk:o.kind%7<5):FF l o=b9 l o:=by
 have hlen:=iz hL
 have hval:=Jw hL
 have Ah:=Jy hL
 unfold FF b9
 by_cases k0:o.kind%7=0
 . rw [if_pos k0,if_pos k0]
   cases hv:o.F.valid
   . rw [if_pos (show false=false from rfl),if_pos (show false=false from rfl)]
   rw [if_neg (show ¬ (true=false) by decide),if_neg (show ¬ (true=false) by decide)]
   by_cases h2:l.length=200
   . rw [if_pos h2,if_pos (show 200<=l.length by omega)]
   rw [if_neg h2,if_neg (show ¬ 200<=l.length by omega)]
   by_cases h3:0<=dh l o.F.name
   . rw [if_pos h3,if_pos h3]
   rw [if_neg h3,if_neg h3]
   rw [uD (l:=l++[o.F]) (fun X hX=>by
     rcases List.mem_append.1 hX with h | h
     . exact hval X h
     . rw [List.mem_singleton] at h;rw [h];exact hv) (La Ah (by omega)) (by simp;omega)]
 rw [if_neg k0,if_neg k0]
 by_cases k1:o.kind%7=1
 . rw [if_pos k1,if_pos k1]
   cases hv:o.F.valid
   . rw [if_pos (show false=false from rfl),if_pos (show false=false from rfl)]
   rw [if_neg (show ¬ (true=false) by decide),if_neg (show ¬ (true=false) by decide)]
   by_cases h3:dh l o.F.name<0
   . rw [if_pos h3,if_pos h3]
   rw [if_neg h3,if_neg h3]
   obtain ⟨i,hi,hlt⟩:=jz h3
   obtain ⟨Y,hY,hYn⟩:=tf hi
   rw [hi,Int.toNat_natCast]
   rw [uD (l:=l.set i o.F) (fun X hX=>by
     rcases List.mem_or_eq_of_mem_set hX with h | h
     . exact hval X h
     . rw [h];exact hv) (by rw [FC hY hYn.symm];exact Ah) (by rw [List.length_set];exact hlen)]
 rw [if_neg k1,if_neg k1]
 by_cases k2:o.kind%7=2
 . rw [if_pos k2,if_neg (show ¬ (o.kind%7=3/\(o.pK<0∨(l.length:Int)<=o.pK)) from fun h=>by omega)]
   by_cases h3:dh l o.name<0
   . rw [if_pos h3,if_pos h3]
   rw [if_neg h3,if_neg h3]
   obtain ⟨i,hi,hlt⟩:=jz h3
   obtain ⟨Y,hY,hYn⟩:=tf hi
   have DX:l.getD i ⟨[],0,[],[],false⟩=Y:=by rw [List.getD_eq_getElem?_getD,hY];rfl
   rw [hi,Int.toNat_natCast,DX]
   simp only [if_pos k2,DX]
   rw [Vd hY,if_pos (K9 hY hL)]
 rw [if_neg k2]
 by_cases k3:o.kind%7=3
 . rw [if_pos k3]
   by_cases h1:o.pK<0∨(l.length:Int)<=o.pK
   . rw [if_pos h1,if_pos ⟨k3,h1⟩]
   rw [if_neg h1,if_neg (show ¬ (o.kind%7=3/\(o.pK<0∨(l.length:Int)<=o.pK)) from fun h=>h1 h.2)]
   by_cases h3:dh l o.name<0
   . rw [if_pos h3,if_pos h3]
   rw [if_neg h3,if_neg h3]
   obtain ⟨i,hi,hlt⟩:=jz h3
   obtain ⟨Y,hY,hYn⟩:=tf hi
   have DX:l.getD i ⟨[],0,[],[],false⟩=Y:=by rw [List.getD_eq_getElem?_getD,hY];rfl
   rw [hi,Int.toNat_natCast,DX]
   simp only [if_neg k2,if_pos k3,DX]
   have nH:o.pK.toNat<=(gg l i).length:=by have:=oP hlt;omega
   rw [uD (l:=oJ (gg l i) o.pK.toNat Y) (zH (qu hval) (hval Y (List.mem_of_getElem? hY))) (OZ hY Ah) (by rw [zD nH,oP hlt];exact hlen)]
 . rw [if_neg k3,if_neg (show ¬ (o.kind%7=3/\(o.pK<0∨(l.length:Int)<=o.pK)) from fun h=>k3 h.1)]
   by_cases h3:dh l o.name<0
   . rw [if_pos h3,if_pos h3]
   rw [if_neg h3,if_neg h3]
   obtain ⟨i,hi,hlt⟩:=jz h3
   obtain ⟨Y,hY,hYn⟩:=tf hi
   rw [hi,Int.toNat_natCast]
   simp only [if_neg k2,if_neg k3]
   rw [uD (l:=gg l i) (qu hval) (OY hY Ah) (by have:=oP hlt;omega)]
end Go.VL
end

section
set_option linter.unusedVariables false
set_option linter.unusedVariables false
namespace Go.VL
theorem SI {hid:Id} {ls:List (List FX)} {now:Nat} {l:List FX} {o:OX}:∀ x∈(qv hid ls now l o).2,x.1=hid:=by
 intro x hx
 rw [FG] at hx
 simp only [] at hx
 split at hx
 . exact qq x hx
 . simp at hx
theorem nz {hid:Id} {ls:List (List FX)} {now:Nat} {l:List FX} {o:OX} {σ : aa} (ha:ls[now]? = some l) (hL:eg l=true) (hk:o.kind%7<5) (hσ : σ hid=some (ga ls now)) :
   (qv hid ls now l o).1=(vv ls now o).2.2.1/\(σ.app (qv hid ls now l o).2) hid=some (ga (vv ls now o).1 (vv ls now o).2.1):=by
 have DX:ls.getD now []=l:=by rw [List.getD_eq_getElem?_getD,ha];rfl
 rw [FG,step_eq hL hk]
 unfold vv
 rw [if_neg (show ¬ o.kind%7=5 by omega),if_neg (show ¬ o.kind%7=6 by omega),DX]
 simp only []
 generalize b9 l o=c
 obtain ⟨m,e⟩:=c
 simp only []
 by_cases he:e=0
 . subst he
   rw [if_pos rfl]
   unfold DL
   by_cases hq:gY m l=true
   . rw [if_pos hq,if_pos (.inr hq)]
     exact ⟨rfl,hσ⟩
   . rw [if_neg hq,if_neg (by simpa using hq)]
     exact ⟨rfl,aa.bb _ _ _⟩
 . rw [if_neg he,if_pos (.inl he)]
   exact ⟨rfl,hσ⟩
theorem zI {l:List FX} {o:OX} (h:(b9 l o).2=0):eg (b9 l o).1=true:=by
 generalize hc:b9 l o=c at *
 unfold b9 at hc
 simp only [] at hc
 repeat' (split at hc)
 all_goals subst hc
 all_goals first | (exact absurd h (by simp only [];decide)) | assumption
theorem zJ {bh:FX->Prop} {l:List FX} {o:OX} (hg:∀ X∈l,bh X) (hF:bh o.F) (hs:∀ X b,bh X->bh (X.bM b)):∀ X∈(b9 l o).1,bh X:=by
 have nil:∀ X∈([]:List FX),bh X:=fun X h=>absurd h (by simp)
 unfold b9
 by_cases k0:o.kind%7=0
 . rw [if_pos k0]
   repeat' split
   all_goals first | exact nil | skip
   intro X hX
   rcases List.mem_append.1 hX with h | h
   . exact hg X h
   . rw [List.mem_singleton] at h;rw [h];exact hF
 rw [if_neg k0]
 by_cases k1:o.kind%7=1
 . rw [if_pos k1]
   repeat' split
   all_goals first | exact nil | skip
   exact zE hg hF
 rw [if_neg k1]
 split
 . exact nil
 split
 . exact nil
 rename_i h3
 obtain ⟨i,hi,hlt⟩:=jz h3
 obtain ⟨Y,hY,_⟩:=tf hi
 have DX:l.getD i ⟨[],0,[],[],false⟩=Y:=by rw [List.getD_eq_getElem?_getD,hY];rfl
 have hYg:=hg Y (List.mem_of_getElem? hY)
 rw [hi,Int.toNat_natCast]
 simp only [DX]
 repeat' split
 all_goals first | exact nil | exact zH (qu hg) (hs Y _ hYg) | exact zH (qu hg) hYg | exact qu hg
structure AY (bh:FX->Prop) (ls:List (List FX)) (now:Nat):Prop where
 lt:now<ls.length
 list:∀ l∈ls,eg l=true
 bh:∀ l∈ls,∀ X∈l,bh X
theorem Vi (bh:FX->Prop):AY bh [[]] 0:=⟨by simp,by intro l hl;simp at hl;subst hl;rfl,by intro l hl X hX;simp at hl;subst hl;simp at hX⟩
theorem Yx {bh:FX->Prop} {ls:List (List FX)} {now:Nat} {o:OX} (h:AY bh ls now) (hF:bh o.F) (hs:∀ X b,bh X->bh (X.bM b)) :
   AY bh (vv ls now o).1 (vv ls now o).2.1/\(vv ls now o).1.length<=ls.length+1:=by
 unfold vv
 by_cases h5:o.kind%7=5
 . rw [if_pos h5]
   split
   . exact ⟨h,by simp⟩
   . exact ⟨⟨by have:=h.lt;simp only [];omega,h.list,h.bh⟩,by simp⟩
 rw [if_neg h5]
 by_cases h6:o.kind%7=6
 . rw [if_pos h6]
   split
   . exact ⟨h,by simp⟩
   . exact ⟨⟨by have:=h.lt;simp only [];omega,h.list,h.bh⟩,by simp⟩
 rw [if_neg h6]
 simp only []
 have hlt:=h.lt
 have hm:ls.getD now []∈ls:=by
   rw [List.getD_eq_getElem?_getD,List.getElem?_eq_getElem hlt];exact List.getElem_mem hlt
 generalize ls.getD now []=l at hm
 have O5:=zI (l:=l) (o:=o)
 have H6:=zJ (l:=l) (o:=o) (h.bh l hm) hF hs
 generalize b9 l o=c at *
 split
 . exact ⟨h,by simp⟩
 . rename_i hne
   have he:c.2=0:=Classical.byContradiction fun q=>hne (.inl q)
   refine ⟨⟨by simp;omega, ?_, ?_⟩,by simp;omega⟩
   . intro x hx
     simp only [List.mem_append,List.mem_singleton] at hx
     rcases hx with hx | rfl
     . exact h.list x (List.mem_of_mem_take hx)
     . exact O5 he
   . intro x hx
     simp only [List.mem_append,List.mem_singleton] at hx
     rcases hx with hx | rfl
     . exact h.bh x (List.mem_of_mem_take hx)
     . exact H6
end Go.VL
end

section
set_option linter.unusedVariables false
set_option linter.unusedVariables false
namespace Go.VL
theorem Yy {hid:Id} {ls:List (List FX)} {now:Nat} {σ : aa} (h : σ hid=some (ga ls now)):gh σ true 2 (.ref hid 0 0)=some { val:=bl ls now,rd:=[hid] }:=by
 rw [mG (bk:=ga ls now) h rfl,ku];rfl
theorem SJ {mid:Id} {ls Y5:List (List FX)} {now Yz:Nat} {σ : aa} (h : σ mid=some (ga ls now)):eK σ 2 (.ref mid 0 0) (bl Y5 Yz)=some { val := .tup [],rd:=[mid],up:=[(mid,some (ga Y5 Yz))] }:=by
 rw [cA (n:=2) (v:=bl Y5 Yz) (els:=[bl ls now]) (el:=bl ls now) (k:=2) h rfl rfl (show 0+2<=2 by decide) (of_eq_true (AX _ _))]
 rfl
theorem JE {σ : aa} {id:Id} {ls:List (List FX)} {a:Nat} {k:Nat} (h : σ id=some ⟨[.agg [.nils, .int .i64 0]],k,false⟩):eK σ 2 (.ref id 0 0) (bl ls a)=some { val := .tup [],rd:=[id],up:=[(id,some ⟨[bl ls a],k,false⟩)] } :=
 jI (x:=qp ls) (b:=a) rfl rfl h
theorem Gy {hid mid:Id} {b b':dC} {σ : aa} {up:List (Id × Option dC)} (hne:hid≠mid) (hup:∀ x∈up,x.1=hid) (hh:(σ.app up) hid=some b') (hm : σ mid=some b') (i:Id) :
   (aa.of [(hid,b),(mid,b)]).app [(hid,some b'),(mid,some b')] i=none∨(aa.of [(hid,b),(mid,b)]).app [(hid,some b'),(mid,some b')] i=(σ.app up) i:=by
 by_cases e1:i=mid
 . subst e1
   right
   rw [M1 up (fun x hx he=>hne ((hup x hx)▸he)),hm]
   exact aa.bb _ _ _
 by_cases e2:i=hid
 . subst e2
   right
   rw [hh]
   simp [aa.app,aa.put,e1]
 . left
   have h1:(i==hid)=false:=by simpa using e2
   have h2:(i==mid)=false:=by simpa using e1
   simp [aa.app,aa.put,e1,e2,aa.of,List.lookup_cons,h1,h2]
structure PH (P:Program) (G:Nat->Option (List AV)) (bh:FX->Prop) (SK DO SL DR SM DT AZ JR:FuncId):Prop where
 do_:∀ (ls:List (List FX)) (a:Nat) (o:OX),AY bh ls a->ls.length<=900->bh o.F->VP P G SK [bl ls a,o.av] (.tup [bl (vv ls a o).1 (vv ls a o).2.1, .int .i64 (vv ls a o).2.2.1, .bool (vv ls a o).2.2.2])
 app:∀ (hid:Id) (ls:List (List FX)) (now:Nat) (l:List FX) (X:FX) (p:Id),ls[now]? = some l->AY bh ls now->ls.length<=900->bh X -> ¬ p <:+ hid ->
   aB P G DO [.ref hid 0 0,X.av] p [(hid,ga ls now)] { val := .int .i64 (Jp hid ls now l X).1,rd:=[hid],up:=(Jp hid ls now l X).2 }
 ed:∀ (hid:Id) (ls:List (List FX)) (now:Nat) (l:List FX) (X:FX) (p:Id),ls[now]? = some l->AY bh ls now->ls.length<=900->bh X -> ¬ p <:+ hid ->
   aB P G SL [.ref hid 0 0,X.av] p [(hid,ga ls now)] { val := .int .i64 (Bz hid ls now l X).1,rd:=[hid],up:=(Bz hid ls now l X).2 }
 sup:∀ (hid:Id) (ls:List (List FX)) (now:Nat) (l:List FX) (nm:List UInt8) (on:Bool) (p:Id),ls[now]? = some l->AY bh ls now->ls.length<=900 -> ¬ p <:+ hid ->
   aB P G DR [.ref hid 0 0, .str nm, .bool on] p [(hid,ga ls now)] { val := .int .i64 (Jq hid ls now l nm on).1,rd:=[hid],up:=(Jq hid ls now l nm on).2 }
 mv:∀ (hid:Id) (ls:List (List FX)) (now:Nat) (l:List FX) (nm:List UInt8) (pK:Int) (p:Id),ls[now]? = some l->AY bh ls now->ls.length<=900 -> ¬ p <:+ hid ->
   aB P G SM [.ref hid 0 0, .str nm, .int .i64 pK] p [(hid,ga ls now)] { val := .int .i64 (BA hid ls now l nm pK).1,rd:=[hid],up:=(BA hid ls now l nm pK).2 }
 del:∀ (hid:Id) (ls:List (List FX)) (now:Nat) (l:List FX) (nm:List UInt8) (p:Id),ls[now]? = some l->AY bh ls now->ls.length<=900 -> ¬ p <:+ hid ->
   aB P G DT [.ref hid 0 0, .str nm] p [(hid,ga ls now)] { val := .int .i64 (JD hid ls now l nm).1,rd:=[hid],up:=(JD hid ls now l nm).2 }
 undo:Has P AZ eR
 redo:Has P JR gE
section
variable {P:Program} {G:Nat->Option (List AV)} {bh:FX->Prop} {f SK DO SL DR SM DT AZ JR:FuncId}
set_option maxHeartbeats 4000000 in
theorem Lb (h:Has P f (fQ SK DO SL DR SM DT AZ JR)) (H:PH P G bh SK DO SL DR SM DT AZ JR) {hid mid:Id} (hne:hid≠mid) {ls:List (List FX)} {now:Nat} {o:OX} (hI:AY bh ls now) (xL:ls.length<=900) (hF:bh o.F)
   (p:Id) (qK : ¬ p <:+ hid) (aeC : ¬ p <:+ mid) :
   aB P G f [.ref hid 0 0, .ref mid 0 0,o.av] p [(hid,ga ls now),(mid,ga ls now)]
     { val := .bool true,rd:=[hid,mid],up:=[(hid,some (ga (vv ls now o).1 (vv ls now o).2.1)),(mid,some (ga (vv ls now o).1 (vv ls now o).2.1))] }:=by
 have hnh:∀ q:Id,q++p≠hid:=fun q e=>qK ⟨q,e⟩
 have yf:∀ q:Id,q++p≠mid:=fun q e=>aeC ⟨q,e⟩
 have a0:(0::p)≠hid:=hnh [0]
 have a1:(0::p)≠mid:=yf [0]
 have b0:(11::p)≠hid:=hnh [11]
 have b1:(11::p)≠mid:=yf [11]
 have O0:(0::p)≠11::p:=by simp
 have sx:∀ j:Nat, ¬ (j::p) <:+ hid:=fun j hs=>qK ((List.suffix_cons j p).trans hs)
 obtain ⟨l,hl⟩:∃ l,ls[now]? = some l:=⟨_,List.getElem?_eq_getElem hI.lt⟩
 have hL:=hI.list l (List.mem_of_getElem? hl)
 have hk7:o.kind%7<7:=Nat.mod_lt _ (by decide)
 have WO:(mid==hid)=false:=by simpa using Ne.symm hne
 have s0:aa.of [(hid,ga ls now),(mid,ga ls now)] hid=some (ga ls now):=by simp [aa.of]
 have s1:aa.of [(hid,ga ls now),(mid,ga ls now)] mid=some (ga ls now):=by simp [aa.of,List.lookup_cons,WO]
 have hdo:=H.do_ ls now o hI xL hF
 have V4:∀ {σ : aa},o.kind%7<5 -> σ hid=some (ga ls now)->_:=fun {σ} hk hσ => nz (hid:=hid) (o:=o) (σ := σ) hl hL hk hσ
 have Tl:=SI (hid:=hid) (ls:=ls) (now:=now) (l:=l) (o:=o)
 have hmp:=lB ls now
 have hop:=OX.pure o
 have aiD:∀ X:Nat,True:=fun _=>trivial
 refine aB.has h ?_
 simp only [fQ,SS,DD,Nat.reduceAdd,OX.one]
 rw [Yy (by rw [aa.bd _ _ _ a1.symm];exact s1)]
 simp only [SS,DD,Nat.reduceAdd,ae,OX.whole]
 refine ax hdo (by simp [hmp,hop]) ?_
 simp only [SS,DD,Nat.reduceAdd,K5,r7,r8,r9]
 rw [JE (k:=(AV.agg [.nils, .int .i64 0]).size) (by simp [aa.put])]
 simp only [SS,DD,Nat.reduceAdd]
 refine ⟨by simp [ar,apart,b1], ?_⟩
 simp only [SS,Nat.reduceAdd,ae,ku]
 rw [SJ (ls:=ls) (now:=now) (by simp [aa.put,a1.symm,b1.symm,s1])]
 simp only [SS,Nat.reduceAdd,ai a1,ai O0,ae,OX.p0]
 have hk:o.kind%7=0∨o.kind%7=1∨o.kind%7=2∨o.kind%7=3∨o.kind%7=4∨o.kind%7=5∨o.kind%7=6:=by omega
 rcases hk with hk | hk | hk | hk | hk | hk | hk
 . have hr:bo .rem .int (.int .u8 (o.kind:Int)) (.int .u8 7)=some (.int .u8 0):=by rw [AR,hk];rfl
   have K1:qv hid ls now l o=Jp hid ls now l o.F:=by unfold qv;simp [hk]
   have he:=(nz (hid:=hid) (o:=o) (σ := aa.of [(hid,ga ls now)]) hl hL (by omega) bC).1
   have hf:∀ σ : aa, σ hid=some (ga ls now)->_:=fun σ hσ => (nz (hid:=hid) (o:=o) (σ := σ) hl hL (by omega) hσ).2
   rw [K1] at he Tl hf
   simp only [SS,Nat.reduceAdd,hr,decide_true,ai a1,ai O0,ae,OX.pF]
   refine ⟨[(hid,ga ls now)],_,H.app hid ls now l o.F _ hl hI xL hF (sx _),by simp [aa.put,a0.symm,b0.symm,s0,hne],by simp, ?_⟩
   simp only [SS,Nat.reduceAdd,he,decide_true]
   exact aV▸aA rfl (Gy hne Tl (hf _ (by simp [aa.put,a0.symm,b0.symm,s0,hne])) (by simp [aa.put]))
 . have hr:bo .rem .int (.int .u8 (o.kind:Int)) (.int .u8 7)=some (.int .u8 1):=by rw [AR,hk];rfl
   have K1:qv hid ls now l o=Bz hid ls now l o.F:=by unfold qv;simp [hk]
   have he:=(nz (hid:=hid) (o:=o) (σ := aa.of [(hid,ga ls now)]) hl hL (by omega) bC).1
   have hf:∀ σ : aa, σ hid=some (ga ls now)->_:=fun σ hσ => (nz (hid:=hid) (o:=o) (σ := σ) hl hL (by omega) hσ).2
   rw [K1] at he Tl hf
   simp only [SS,Nat.reduceAdd,hr,(show decide ((1:Int)=0)=false from rfl),decide_true,ai a1,ai O0,ae,OX.pF]
   refine ⟨[(hid,ga ls now)],_,H.ed hid ls now l o.F _ hl hI xL hF (sx _),by simp [aa.put,a0.symm,b0.symm,s0,hne],by simp, ?_⟩
   simp only [SS,Nat.reduceAdd,he,decide_true]
   exact aV▸aA rfl (Gy hne Tl (hf _ (by simp [aa.put,a0.symm,b0.symm,s0,hne])) (by simp [aa.put]))
 . have hr:bo .rem .int (.int .u8 (o.kind:Int)) (.int .u8 7)=some (.int .u8 2):=by rw [AR,hk];rfl
   have K1:qv hid ls now l o=Jq hid ls now l o.name o.on:=by unfold qv;simp [hk]
   have he:=(nz (hid:=hid) (o:=o) (σ := aa.of [(hid,ga ls now)]) hl hL (by omega) bC).1
   have hf:∀ σ : aa, σ hid=some (ga ls now)->_:=fun σ hσ => (nz (hid:=hid) (o:=o) (σ := σ) hl hL (by omega) hσ).2
   rw [K1] at he Tl hf
   simp only [SS,Nat.reduceAdd,hr,(show decide ((2:Int)=0)=false from rfl),(show decide ((2:Int)=1)=false from rfl),decide_true,ai a1,ai O0,ae,OX.p6,OX.p7]
   refine ⟨[(hid,ga ls now)],_,H.sup hid ls now l o.name o.on _ hl hI xL (sx _),by simp [aa.put,a0.symm,b0.symm,s0,hne],by simp, ?_⟩
   simp only [SS,Nat.reduceAdd,he,decide_true]
   exact aV▸aA rfl (Gy hne Tl (hf _ (by simp [aa.put,a0.symm,b0.symm,s0,hne])) (by simp [aa.put]))
 . have hr:bo .rem .int (.int .u8 (o.kind:Int)) (.int .u8 7)=some (.int .u8 3):=by rw [AR,hk];rfl
   have K1:qv hid ls now l o=BA hid ls now l o.name o.pK:=by unfold qv;simp [hk]
   have he:=(nz (hid:=hid) (o:=o) (σ := aa.of [(hid,ga ls now)]) hl hL (by omega) bC).1
   have hf:∀ σ : aa, σ hid=some (ga ls now)->_:=fun σ hσ => (nz (hid:=hid) (o:=o) (σ := σ) hl hL (by omega) hσ).2
   rw [K1] at he Tl hf
   simp only [SS,Nat.reduceAdd,hr,(show decide ((3:Int)=0)=false from rfl),(show decide ((3:Int)=1)=false from rfl),(show decide ((3:Int)=2)=false from rfl),decide_true,ai a1,ai O0,ae,OX.p6,OX.p8]
   refine ⟨[(hid,ga ls now)],_,H.mv hid ls now l o.name o.pK _ hl hI xL (sx _),by simp [aa.put,a0.symm,b0.symm,s0,hne],by simp, ?_⟩
   simp only [SS,Nat.reduceAdd,he,decide_true]
   exact aV▸aA rfl (Gy hne Tl (hf _ (by simp [aa.put,a0.symm,b0.symm,s0,hne])) (by simp [aa.put]))
 . have hr:bo .rem .int (.int .u8 (o.kind:Int)) (.int .u8 7)=some (.int .u8 4):=by rw [AR,hk];rfl
   have K1:qv hid ls now l o=JD hid ls now l o.name:=by unfold qv;simp [hk]
   have he:=(nz (hid:=hid) (o:=o) (σ := aa.of [(hid,ga ls now)]) hl hL (by omega) bC).1
   have hf:∀ σ : aa, σ hid=some (ga ls now)->_:=fun σ hσ => (nz (hid:=hid) (o:=o) (σ := σ) hl hL (by omega) hσ).2
   rw [K1] at he Tl hf
   simp only [SS,Nat.reduceAdd,hr,(show decide ((4:Int)=0)=false from rfl),(show decide ((4:Int)=1)=false from rfl),(show decide ((4:Int)=2)=false from rfl),(show decide ((4:Int)=3)=false from rfl),decide_true,ai a1,ai O0,ae,OX.p6]
   refine ⟨[(hid,ga ls now)],_,H.del hid ls now l o.name _ hl hI xL (sx _),by simp [aa.put,a0.symm,b0.symm,s0,hne],by simp, ?_⟩
   simp only [SS,Nat.reduceAdd,he,decide_true]
   exact aV▸aA rfl (Gy hne Tl (hf _ (by simp [aa.put,a0.symm,b0.symm,s0,hne])) (by simp [aa.put]))
 . have hr:bo .rem .int (.int .u8 (o.kind:Int)) (.int .u8 7)=some (.int .u8 5):=by rw [AR,hk];rfl
   have Ha:=hI.lt
   by_cases h0:now=0
   . have hd:vv ls now o=(ls,now,0,false):=by unfold vv;rw [if_pos hk,if_pos h0]
     have hu:∀ p,aB P G AZ [.ref hid 0 0] p [(hid,ga ls now)] { val := .bool false,rd:=[hid],up:=[] }:=fun p=>by
       have:=Jr (G:=G) H.undo (hid:=hid) (ls:=ls) (now:=now) (by omega) p
       rwa [if_pos h0,ak (by omega : ¬ now≠0)] at this
     simp only [hd]
     simp only [SS,Nat.reduceAdd,hr,(show decide ((5:Int)=0)=false from rfl),(show decide ((5:Int)=1)=false from rfl),(show decide ((5:Int)=2)=false from rfl),(show decide ((5:Int)=3)=false from rfl),(show decide ((5:Int)=4)=false from rfl),decide_true]
     refine ⟨[(hid,ga ls now)],_,hu _,by simp [aa.put,a0.symm,b0.symm,s0,hne],by simp, ?_⟩
     simp only [SS,Nat.reduceAdd]
     exact aV▸aA rfl (Gy hne (up:=[]) (by simp) (by simp [aa.put,aa.app,a0.symm,b0.symm,s0,hne]) (by simp [aa.put]))
   . have hd:vv ls now o=(ls,now-1,0,true):=by unfold vv;rw [if_pos hk,if_neg h0]
     have hu:∀ p,aB P G AZ [.ref hid 0 0] p [(hid,ga ls now)] { val := .bool true,rd:=[hid],up:=[(hid,some (ga ls (now-1)))] }:=fun p=>by
       have:=Jr (G:=G) H.undo (hid:=hid) (ls:=ls) (now:=now) (by omega) p
       rwa [if_neg h0,ao (by omega:now≠0)] at this
     simp only [hd]
     simp only [SS,Nat.reduceAdd,hr,(show decide ((5:Int)=0)=false from rfl),(show decide ((5:Int)=1)=false from rfl),(show decide ((5:Int)=2)=false from rfl),(show decide ((5:Int)=3)=false from rfl),(show decide ((5:Int)=4)=false from rfl),decide_true]
     refine ⟨[(hid,ga ls now)],_,hu _,by simp [aa.put,a0.symm,b0.symm,s0,hne],by simp, ?_⟩
     simp only [SS,Nat.reduceAdd]
     exact aV▸aA rfl (Gy hne (up:=[(hid,some (ga ls (now-1)))]) (by simp) (by simp [aa.put,aa.app]) (by simp [aa.put]))
 . have hr:bo .rem .int (.int .u8 (o.kind:Int)) (.int .u8 7)=some (.int .u8 6):=by rw [AR,hk];rfl
   have Ha:=hI.lt
   by_cases h0:now+1=ls.length
   . have hd:vv ls now o=(ls,now,0,false):=by unfold vv;rw [if_neg (by omega),if_pos hk,if_pos h0]
     have hu:∀ p,aB P G JR [.ref hid 0 0] p [(hid,ga ls now)] { val := .bool false,rd:=[hid],up:=[] }:=fun p=>by
       have:=Js (G:=G) H.redo (hid:=hid) (ls:=ls) (now:=now) (by omega) Ha p
       rwa [if_pos h0,ak (by omega : ¬ now+1≠ls.length)] at this
     simp only [hd]
     simp only [SS,Nat.reduceAdd,hr,(show decide ((6:Int)=0)=false from rfl),(show decide ((6:Int)=1)=false from rfl),(show decide ((6:Int)=2)=false from rfl),(show decide ((6:Int)=3)=false from rfl),(show decide ((6:Int)=4)=false from rfl),(show decide ((6:Int)=5)=false from rfl)]
     refine ⟨[(hid,ga ls now)],_,hu _,by simp [aa.put,a0.symm,b0.symm,s0,hne],by simp, ?_⟩
     simp only [SS,Nat.reduceAdd]
     exact aV▸aA rfl (Gy hne (up:=[]) (by simp) (by simp [aa.put,aa.app,a0.symm,b0.symm,s0,hne]) (by simp [aa.put]))
   . have hd:vv ls now o=(ls,now+1,0,true):=by unfold vv;rw [if_neg (by omega),if_pos hk,if_neg h0]
     have hu:∀ p,aB P G JR [.ref hid 0 0] p [(hid,ga ls now)] { val := .bool true,rd:=[hid],up:=[(hid,some (ga ls (now+1)))] }:=fun p=>by
       have:=Js (G:=G) H.redo (hid:=hid) (ls:=ls) (now:=now) (by omega) Ha p
       rwa [if_neg h0,ao (by omega:now+1≠ls.length)] at this
     simp only [hd]
     simp only [SS,Nat.reduceAdd,hr,(show decide ((6:Int)=0)=false from rfl),(show decide ((6:Int)=1)=false from rfl),(show decide ((6:Int)=2)=false from rfl),(show decide ((6:Int)=3)=false from rfl),(show decide ((6:Int)=4)=false from rfl),(show decide ((6:Int)=5)=false from rfl)]
     refine ⟨[(hid,ga ls now)],_,hu _,by simp [aa.put,a0.symm,b0.symm,s0,hne],by simp, ?_⟩
     simp only [SS,Nat.reduceAdd]
     exact aV▸aA rfl (Gy hne (up:=[(hid,some (ga ls (now+1)))]) (by simp) (by simp [aa.put,aa.app]) (by simp [aa.put]))
end
end Go.VL
end

section
set_option linter.unusedVariables false
set_option linter.unusedVariables false
namespace Go.VL
theorem SN {σ : aa} {p q:Id} {X:FX} (hq : σ q=some ⟨[X.av],5,false⟩):b6 σ p 5 80 .nils (.osl q 5 0 1 false)=some { val := .osl p 5 0 1 false,rd:=[q],up:=[(p,some ⟨[X].map FX.av,5,false⟩)] } :=
 ug (x := .osl q 5 0 1 false) (ys:=[X.av]) (oO hq) (by simp) (by simp) (cK (by simp)) (ny [X])
theorem O1 {l:List FX} {i:Nat} {X:FX} (h:l[i]? = some X):l.take (i+1)=l.take i++[X]:=by rw [List.take_add_one,h];rfl
def yj (id:Id) (l:List FX):AV:=if l=[] then .nils else .osl id 5 0 l.length false
section
variable {P:Program} {G:Nat->Option (List AV)}
set_option maxHeartbeats 2000000 in
theorem Gz {f fp AD:FuncId} (h:Has P f (dK fp AD)) (hp:Has P fp bD) {hid:Id} {ls:List (List FX)} {now:Nat} {l:List FX} (hl:ls[now]? = some l) (hlen:l.length<=1000)
   (uT:∀ X∈l,VP P G AD [X.av] X.av) (p:Id) (qK : ¬ p <:+ hid) :
   aB P G f [.ref hid 0 0] p [(hid,ga ls now)] { val:=dm l,rd:=[hid] }:=by
 have hne:∀ q:Id,q++p≠hid:=fun q e=>qK ⟨q,e⟩
 have IJ:∀ q:Nat,q::p≠hid:=fun q=>hne [q]
 refine aB.has h ?_
 simp only [dK,SS,Nat.reduceAdd]
 refine ⟨[(hid,ga ls now)],_,jJ hp hl _,by simp [bC],by simp, ?_⟩
 simp only [SS,Nat.reduceAdd,mo,aD]
 refine VW.bL (α := Nat × Nat × Nat) (fun x=>⟨[.ref hid 0 0, .top, .top,yj (x.2.1::p) (l.take x.1), .top, .top, .top,dm l, .int .i64 (l.length:Int), .int .i64 (x.1:Int)]++List.replicate 10 .top,
     (aa.of [(hid,ga ls now)]).put (x.2.1::p) (if l.take x.1=[] then none else some ⟨(l.take x.1).map FX.av,5,false⟩),x.2.2⟩)
   (fun x=>x.1<=l.length/\x.2.1<x.2.2) (fun x=>l.length-x.1) (0,0,1000) ?_ ⟨Nat.zero_le _,by simp only [];omega⟩ ?_
 . refine Wk.forget (by simp [Fg,List.replicate,yj]) (fun j => ?_) (by simp only [];omega)
   by_cases h1:j=0::p
   . subst h1;left;simp [aa.put]
   . right;simp [aa.put,h1]
 rintro ⟨i,ck,nn⟩ ⟨hi,Rg⟩
 simp only [] at hi Rg
 have Eh:(l.take i).length=i:=by rw [List.length_take];omega
 by_cases hlt:i<l.length
 . obtain ⟨X,hX⟩:∃ X,l[i]? = some X:=⟨_,List.getElem?_eq_getElem hlt⟩
   have hm:=List.mem_of_getElem? hX
   have dd:decide ((i:Int)<(l.length:Int))=true:=ao (by omega)
   have hg:(l.map FX.av)[i]? = some X.av:=by rw [List.getElem?_map,hX];rfl
   have iy:br 5 (dm l) (.int .i64 (i:Int))=some (.ep X.av.cells 0):=aQ rfl hg
   have Wu:af X.av:=FX.pure X
   have hn:=O1 hX
   have Lk:=uT X hm
   generalize qx:l.take i=m at *
   simp only [SS,Nat.reduceAdd,List.replicate,dd,iy,az,FX.whole,jb]
   rw [oa (k:=(AV.agg [.str [], .int .i64 0, .nils, .nils, .bool false]).size) (by simp [aa.put])]
   simp only [SS,Nat.reduceAdd,ae,FX.whole]
   refine aj Lk (by simp [Wu]) ?_
   simp only [SS,Nat.reduceAdd,xC]
   by_cases h0:m=[]
   . have e0:yj (ck::p) m = .nils:=if_pos h0
     rw [e0,SN (X:=X) (by simp [aa.put])]
     simp only [SS,Nat.reduceAdd,aq i (by omega)]
     refine ⟨(i+1,nn+1+4+4,nn+1000),⟨by simp only [];omega,by simp only [];omega⟩,by simp only [];omega, ?_⟩
     simp only [hn,h0,List.nil_append]
     refine Wk.forget (by simp [Fg,yj]) (fun j => ?_) (by omega)
     by_cases h1:j=(nn+1+4+4)::p
     . right;subst h1;simp [aa.put]
     . by_cases h2:j=hid
       . right;subst h2;simp [aa.put,(IJ _).symm]
       . left;simp [aa.put,h1,aa.of,h2]
   . have e0:yj (ck::p) m = .osl (ck::p) 5 0 m.length false:=if_neg h0
     have q1 : ¬ ck=nn+1+2:=by omega
     have q2 : ¬ ck=nn+1+4+3:=by omega
     rw [e0,wC (l:=m) (X:=X) (by simp [aa.put,q1,q2,h0]) (by simp [aa.put]) (by omega)]
     simp only [SS,Nat.reduceAdd,aq i (by omega)]
     refine ⟨(i+1,nn+1+4+4,nn+1000),⟨by simp only [];omega,by simp only [];omega⟩,by simp only [];omega, ?_⟩
     have I4 : ¬ m++[X]=[]:=by simp
     simp only [hn,yj,if_neg I4]
     refine Wk.forget (by simp [Fg]) (fun j => ?_) (by omega)
     by_cases h1:j=(nn+1+4+4)::p
     . right;subst h1;simp [aa.put]
     . by_cases h2:j=hid
       . right;subst h2;simp [aa.put,(IJ _).symm]
       . left;simp [aa.put,h1,aa.of,h2]
 . have dd:decide ((i:Int)<(l.length:Int))=false:=ak (by omega)
   have PB:l.take i=l:=List.take_of_length_le (by omega)
   simp only [PB]
   simp only [SS,Nat.reduceAdd,List.replicate,dd]
   by_cases h0:l=[]
   . have e0:yj (ck::p) l = .nils:=if_pos h0
     rw [e0]
     refine aV▸⟨.nils,rfl,Fin.rq [] (by simp) (kN.view (by rw [h0];exact View.nils 5)) fun j => ?_⟩
     by_cases h2:j=hid
     . subst h2
       refine .inr ⟨ga ls now,ga ls now,by simp [aa.put,(IJ _).symm,bC],by simp [aa.app,bC],rfl, .inl rfl,fun _ x hx=>by simp at hx,rfl, ?_,eT.same _ _⟩
       intro e he;simp [ga] at he;subst he;rfl
     . left;simp [aa.app,aa.of,h2]
   . have e0:yj (ck::p) l = .osl (ck::p) 5 0 l.length false:=if_neg h0
     rw [e0]
     refine aV▸⟨.osl (ck::p) 5 0 l.length false,rfl,Fin.rq [(ck::p,⟨l.map FX.av,5,false⟩)] (by intro x hx;simp only [List.mem_singleton] at hx;subst hx;simp [aa.put,h0]) (kN.view (dU bC)) fun j => ?_⟩
     by_cases h2:j=hid
     . subst h2
       refine .inr ⟨ga ls now,ga ls now,by simp [aa.put,(IJ _).symm,bC],by simp [aa.app,bC],rfl, .inl rfl,fun _ x hx=>by simp only [List.mem_singleton] at hx;subst hx;exact IJ _,rfl, ?_,eT.same _ _⟩
       intro e he;simp [ga] at he;subst he;rfl
     . left;simp [aa.app,aa.of,h2]
end
end Go.VL
end

section
set_option linter.unusedVariables false
set_option linter.unusedVariables false
namespace Go.VL
def qw (l:List OX):AV := .sl 9 (l.map OX.av)
theorem GC (l:List OX):jK false (qw l)=some (.int .i64 (l.length:Int)):=by simp [qw,jK]
theorem JF (l:List OX):af (qw l):=af.sl (by
 intro c hc
 simp only [flat,List.mem_flatMap,List.mem_map] at hc
 obtain ⟨v,⟨o,_,rfl⟩,hc⟩:=hc
 simp [OX.av,AV.cells] at hc
 rcases hc with rfl | rfl | rfl | rfl | rfl | rfl | rfl | rfl | rfl
 . exact af.int _ _
 . exact af.str _
 . exact af.int _ _
 . exact gX _
 . exact EX.eI _
 . exact af.bool _
 . exact af.str _
 . exact af.bool _
 . exact af.int _ _)
theorem SP {l:List OX} {i:Nat} {o:OX} (h:l[i]? = some o):br 9 (qw l) (.int .i64 (i:Int))=some (.ep o.av.cells 0):=aQ rfl (by rw [List.getElem?_map,h];rfl)
theorem SQ:((AV.agg [.int .u8 0, .str [], .int .i64 0, .nils, .nils, .bool false, .str [], .bool false, .int .i64 0]).cells.all AV.one=true)=True:=by simp [AV.cells,AV.one]
theorem JG {σ : aa} {id:Id} {o:OX} {k:Nat} (h : σ id=some ⟨[.agg [.int .u8 0, .str [], .int .i64 0, .nils, .nils, .bool false, .str [], .bool false, .int .i64 0]],k,false⟩):eK σ 9 (.ref id 0 0) o.av=some { val := .tup [],rd:=[id],up:=[(id,some ⟨[o.av],k,false⟩)] }:=by
 rw [cA (n:=9) (v:=o.av) h rfl rfl (by simp [AV.size,AV.cells]) (of_eq_true (OX.one o))]
 rfl
def uE (o:OX):Bool:=o.F.small&&decide (o.name.length<=100)
def kp (l:List OX):Bool:=l.all uE&&decide (l.length<=40)
noncomputable def JH (s:List (List FX) × Nat) (o:OX):List (List FX) × Nat:=((vv s.1 s.2 o).1,(vv s.1 s.2 o).2.1)
noncomputable def xi (l:List OX):List (List FX) × Nat:=l.foldl JH ([[]],0)
theorem JI (l:List OX) (o:OX):xi (l++[o])=JH (xi l) o:=by unfold xi;rw [List.foldl_append];rfl
theorem M4 {bh:FX->Prop} (hs:∀ X b,bh X->bh (X.bM b)) {l:List OX} (hg:∀ o∈l,bh o.F) (i:Nat):AY bh (xi (l.take i)).1 (xi (l.take i)).2/\(xi (l.take i)).1.length<=i+1:=by
 induction i with
 | zero=>exact ⟨Vi bh,by simp [xi]⟩
 | succ i ih =>
   rcases Nat.lt_or_ge i l.length with h | h
   . rw [List.take_add_one,List.getElem?_eq_getElem h,Option.toList_some,JI]
     have:=Yx (o:=l[i]) ih.1 (hg _ (List.getElem_mem h)) hs
     exact ⟨this.1,by have h2:=this.2;have h3:=ih.2;unfold JH;simp only [];omega⟩
   . rw [List.take_of_length_le (by omega)]
     rw [List.take_of_length_le h] at ih
     exact ⟨ih.1,by have:=ih.2;omega⟩
theorem abw {a b c:Nat} {p:Id} (h:a≠c) : ¬ (a::p) <:+ (b::c::p):=fun hs=>by
 rcases List.suffix_cons_iff.1 hs with h1 | h1
 . have:=congrArg List.length h1;simp at this
 . have:=h1.eq_of_length (by simp);simp at this;exact h this
theorem abx {a c:Nat} {p:Id} (h:a≠c) : ¬ (a::p) <:+ (c::p):=fun hs=>by
 have:=hs.eq_of_length (by simp);simp at this;exact h this
section
variable {P:Program} {G:Nat->Option (List AV)} {bh:FX->Prop} {f fs Lc DU DV SK DO SL DR SM DT AZ JR:FuncId}
theorem Ld (h:Has P f (jY fs)) (l:List OX) (hl:l.length<=9223372036854775807) (yt:∀ o∈l,o.name.length<=9223372036854775807) (hS:∀ o∈l,VP P G fs [o.F.av] (.bool o.F.small)):VP P G f [qw l] (.bool (kp l)):=by
 refine VP.has h ?_
 simp only [jY,SS,Nat.reduceAdd,GC,aD]
 refine VW.bL (α := Nat × Nat) (fun x=>⟨[qw l, .top, .top, .top, .top,qw l, .int .i64 (l.length:Int), .int .i64 (x.1:Int)]++List.replicate 17 .top,fun _=>none,x.2⟩)
   (fun x=>x.1<=l.length/\∀ (j:Nat) o,j<x.1->l[j]? = some o->uE o=true) (fun x=>l.length-x.1) (0,1000) ?_ ⟨Nat.zero_le _,fun j o hj=>absurd hj (Nat.not_lt_zero j)⟩ ?_
 . exact Wk.slots (by simp [Fg,List.replicate]) (by omega)
 rintro ⟨i,nn⟩ ⟨hi,cz⟩
 simp only [] at hi cz
 by_cases hlt:i<l.length
 . obtain ⟨o,ho⟩:∃ o,l[i]? = some o:=⟨_,List.getElem?_eq_getElem hlt⟩
   have hm:=List.mem_of_getElem? ho
   have dd:decide ((i:Int)<(l.length:Int))=true:=ao (by omega)
   have hpF:af o.F.av:=FX.pure o.F
   have R5:uE o=false->kp l=false:=fun hb=>by
     unfold kp
     rw [List.all_eq_false.2 ⟨o,hm,by rw [hb];decide⟩,Bool.false_and]
   simp only [SS,Nat.reduceAdd,List.replicate,dd,SP ho,az,OX.whole,SQ]
   rw [JG (k:=(AV.agg [.int .u8 0, .str [], .int .i64 0, .nils, .nils, .bool false, .str [], .bool false, .int .i64 0]).size) (by simp [aa.put])]
   simp only [SS,Nat.reduceAdd,ae,OX.pF]
   refine aj (hS o hm) (by simp [hpF]) ?_
   cases hsm:o.F.small
   . simp only [SS,Nat.reduceAdd]
     rw [R5 (by unfold uE;rw [hsm];rfl)]
     exact ag▸ab rfl (af.bool _)
   simp only [SS,Nat.reduceAdd,ae,OX.p6]
   by_cases hn:o.name.length<=100
   . have d1:decide ((100:Int)<(o.name.length:Int))=false:=ak (by omega)
     simp only [SS,Nat.reduceAdd,d1,aq i (by omega)]
     refine ⟨(i+1,nn+1000),⟨by simp only [];omega, ?_⟩,by simp only [];omega,Wk.forget (by simp [Fg]) (fun j => .inl rfl) (by omega)⟩
     intro j o' hj hjo
     by_cases B4:j<i
     . exact cz j o' B4 hjo
     . have:j=i:=by simp only [] at hj;omega
       subst this;rw [ho] at hjo;simp only [Option.some.injEq] at hjo;subst hjo
       unfold uE;rw [hsm,ao hn];rfl
   . have d1:decide ((100:Int)<(o.name.length:Int))=true:=ao (by omega)
     simp only [SS,d1]
     rw [R5 (by unfold uE;rw [ak hn,Bool.and_false])]
     exact ag▸ab rfl (af.bool _)
 . have dd:decide ((i:Int)<(l.length:Int))=false:=ak (by omega)
   have e:kp l=decide ((l.length:Int)<=40):=by
     unfold kp
     rw [List.all_eq_true.2 fun o ho=>by
       obtain ⟨j,hj,rfl⟩:=List.getElem_of_mem ho
       exact cz j _ (by omega) (List.getElem?_eq_getElem hj),Bool.true_and]
     by_cases q:l.length<=40
     . rw [ao q,ao (by omega)]
     . rw [ak q,ak (by omega)]
   rw [e]
   simp only [SS,Nat.reduceAdd,List.replicate,dd,GC]
   exact ag▸ab rfl (af.bool _)
end
end Go.VL
end

section
set_option linter.unusedVariables false
set_option linter.unusedVariables false
namespace Go.VL
structure LH (P:Program) (G:Nat->Option (List AV)) (bh:FX->Prop) (faw Wt M5 Y6 Vj M6 JJ Lc DU DV fp AD SK DO SL DR SM DT AZ JR:FuncId):Prop where
 aw:VP P G faw [] (.bool true)
 play:Has P M5 (nI Lc DU DV)
 new:Has P Lc lZ
 new2:Has P DU iD
 perf:Has P DV (fQ SK DO SL DR SM DT AZ JR)
 ph:PH P G bh SK DO SL DR SM DT AZ JR
 fe:Has P Y6 (dK fp AD)
 pres:Has P fp bD
 clone:∀ X,bh X->VP P G AD [X.av] X.av
 now:Has P Vj iE
 same:∀ l m:List FX,l.length<=1000->m.length<=1000->(∀ X∈l,bh X)->(∀ X∈m,bh X)->VP P G M6 [dm l,dm m] (.bool (gY l m))
 list:∀ l:List FX,l.length<=1000->(∀ X∈l,bh X)->VP P G JJ [dm l] (.bool (eg l))
 supp:∀ X b,bh X->bh (X.bM b)
section
variable {P:Program} {G:Nat->Option (List AV)} {bh:FX->Prop} {f faw Wt M5 Y6 Vj M6 JJ Lc DU DV fp AD SK DO SL DR SM DT AZ JR:FuncId}
theorem LH.SR (H:LH P G bh faw Wt M5 Y6 Vj M6 JJ Lc DU DV fp AD SK DO SL DR SM DT AZ JR) {hid:Id} {ls:List (List FX)} {now:Nat} {l:List FX} (hI:AY bh ls now) (hl:ls[now]? = some l) (p:Id) (qK : ¬ p <:+ hid) :
   aB P G Y6 [.ref hid 0 0] p [(hid,ga ls now)] { val:=dm l,rd:=[hid] } :=
 Gz H.fe H.pres hl (Nat.le_trans (iz (hI.list l (List.mem_of_getElem? hl))) (by omega)) (fun X hX=>H.clone X (hI.bh l (List.mem_of_getElem? hl) X hX)) p qK
set_option maxHeartbeats 2000000 in
theorem JK (h:Has P f (fW faw Wt Lc DU DV Y6 JJ)) (H:LH P G bh faw Wt M5 Y6 Vj M6 JJ Lc DU DV fp AD SK DO SL DR SM DT AZ JR)
   {l:List OX} (hsm:VP P G Wt [qw l] (.bool (kp l))) (hg:kp l=true->∀ o∈l,bh o.F):VP P G f [qw l] (.bool true):=by
 refine VP.has h ?_
 have hop:=JF l
 simp only [fW,SS,Nat.reduceAdd]
 refine aj H.aw (by simp) ?_
 simp only [SS,Nat.reduceAdd]
 refine aj hsm (by simp [hop]) ?_
 cases hb:kp l
 . simp only [SS,Nat.reduceAdd]
   refine aj H.aw (by simp) ?_
   simp only [SS,Nat.reduceAdd]
   exact ag▸ab rfl (af.bool _)
 have O7:=hg hb
 have hlen:l.length<=40:=by unfold kp at hb;simp at hb;exact hb.2
 simp only [SS,Nat.reduceAdd]
 refine ⟨[],_,Vb H.new _,by simp,by simp, ?_⟩
 simp only [SS,Nat.reduceAdd]
 refine aj (Ys H.new2) (by simp) ?_
 simp only [SS,Nat.reduceAdd,K5]
 rw [JE (k:=(AV.agg [.nils, .int .i64 0]).size) (by simp [aa.put])]
 simp only [SS,Nat.reduceAdd,GC,aD]
 refine VW.bL (α := Nat × Nat) (fun x=>⟨[qw l, .top, .top, .ref [3,8] 0 0, .ref [10] 0 0]++List.replicate 14 .top++[qw l, .int .i64 (l.length:Int), .int .i64 (x.1:Int)]++List.replicate 14 .top,
     aa.put (aa.put (fun _=>none) [3,8] (some (ga (xi (l.take x.1)).1 (xi (l.take x.1)).2))) [10] (some (ga (xi (l.take x.1)).1 (xi (l.take x.1)).2)),x.2⟩)
   (fun x=>x.1<=l.length/\1000<=x.2) (fun x=>l.length-x.1) (0,1000) ?_ ⟨Nat.zero_le _,Nat.le_refl _⟩ ?_
 . refine Wk.forget (by simp [Fg,List.replicate]) (fun j => ?_) (by omega)
   by_cases h5:j=[10]
   . subst h5;right;simp [aa.put,xi,ga];rfl
   by_cases h3:j=[3,8]
   . subst h3;right;simp [aa.put,xi]
   . left;simp [aa.put,h3,h5]
 rintro ⟨i,nn⟩ ⟨hi,WG⟩
 simp only [] at hi WG
 by_cases hlt:i<l.length
 . obtain ⟨o,ho⟩:∃ o,l[i]? = some o:=⟨_,List.getElem?_eq_getElem hlt⟩
   have hm:=List.mem_of_getElem? ho
   have dd:decide ((i:Int)<(l.length:Int))=true:=ao (by omega)
   obtain ⟨hI,hIl⟩:=M4 H.supp O7 i
   obtain ⟨Ha,YA⟩:=M4 H.supp O7 (i+1)
   have hrun:xi (l.take (i+1))=JH (xi (l.take i)) o:=by rw [List.take_add_one,ho,Option.toList_some,JI]
   have aiF:=OX.pure o
   generalize xi (l.take i)=s at *
   obtain ⟨ls,a⟩:=s
   simp only [] at hI hIl
   rw [hrun] at Ha YA
   unfold JH at Ha YA hrun
   simp only [] at Ha YA hrun
   have n2 : ¬ nn+1+2=10:=by omega
   have n3 : ¬ nn=7:=by omega
   simp only [SS,Nat.reduceAdd,List.replicate,dd,SP ho,az,OX.whole,SQ]
   rw [JG (k:=(AV.agg [.int .u8 0, .str [], .int .i64 0, .nils, .nils, .bool false, .str [], .bool false, .int .i64 0]).size) (by simp [aa.put])]
   simp only [SS,Nat.reduceAdd,ae,OX.whole]
   have Qs:=Lb (p:=[nn+1+4+2]) (hid:=[3,8]) (mid:=[10]) H.perf H.ph (by decide) hI (by omega) (O7 o hm) (abw (by omega)) (abx (by omega))
   refine ⟨[([3,8],ga ls a),([10],ga ls a)],_,Qs, ?_, ?_, ?_⟩
   . intro x hx
     simp only [List.mem_cons,List.not_mem_nil,or_false] at hx
     rcases hx with rfl | rfl
     . simp [aa.put]
     . simp [aa.put,n3]
   . intro x hx
     simp only [List.mem_cons,List.not_mem_nil,or_false] at hx
     rcases hx with rfl | rfl<;>simp
   simp only [SS,Nat.reduceAdd]
   generalize (vv ls a o).1=Y5 at *
   generalize (vv ls a o).2.1=a' at *
   obtain ⟨m,qx⟩:∃ m,Y5[a']? = some m:=⟨_,List.getElem?_eq_getElem Ha.lt⟩
   have hmL:=Ha.list m (List.mem_of_getElem? qx)
   have hml:=iz hmL
   have hmg:=Ha.bh m (List.mem_of_getElem? qx)
   refine ⟨[([3,8],ga Y5 a')],_,H.SR Ha qx _ (abw (by omega)),by simp [aa.put],by simp, ?_⟩
   simp only [SS,Nat.reduceAdd]
   refine aj (H.list m (by omega) hmg) (by simp [du]) ?_
   rw [hmL]
   simp only [SS,Nat.reduceAdd,aq i (by omega)]
   refine ⟨(i+1,nn+1000),⟨by simp only [];omega,by simp only [];omega⟩,by simp only [];omega, ?_⟩
   simp only [hrun]
   refine Wk.forget (by simp [Fg]) (fun j => ?_) (by omega)
   by_cases h5:j=[10]
   . subst h5;right;simp [aa.put]
   by_cases h3:j=[3,8]
   . subst h3;right;simp [aa.put]
   . left;simp [aa.put,h3,h5]
 . have dd:decide ((i:Int)<(l.length:Int))=false:=ak (by omega)
   simp only [SS,List.replicate,dd]
   exact ag▸ab rfl (af.bool _)
end
end Go.VL
end

section
set_option maxRecDepth 100000
set_option linter.unusedVariables false
namespace Go.Proofs.YtcomlgfjnjpebaaGreatDoor
open Go.VL Go.Proofs Go.RowKit
def bh (X:FX):Prop:=X.Ok/\X.small=true
theorem pL (X:FX) (b:Bool) (h:bh X):bh (X.bM b):=⟨⟨h.1.name,h.1.ins,h.1.inl,h.1.vl,h.1.vals⟩,h.2⟩
theorem O2 {X:FX} (h:bh X):X.inputs.length<=1000/\X.vals.length<=1000:=by
 obtain ⟨h1,h2,_,_⟩:=qm h.2
 omega
theorem FX.one' (X:FX):X.av.cells.all AV.one=true:=of_eq_true (FX.one X)
section
variable (m:Int)
theorem abz (l k:List (List UInt8)) (hl:l.length<=9223372036854775807) (hk:k.length<=9223372036854775807):VP Tryz.prog (gN m) 96 [strs l,strs k] (.bool (gY l k)):=n7 nF l k hl hk
theorem YB (l k:List Nat) (hl:l.length<=9223372036854775807) (hk:k.length<=9223372036854775807):VP Tryz.prog (gN m) 135 [.sl 1 (us l), .sl 1 (us k)] (.bool (gY l k)):=n8 nE l k hl hk
theorem abA (e:EX) (he:e.Ok) (e':EX) (Vq:e'.Ok):VP Tryz.prog (gN m) 98 [e.av,e'.av] (.bool (gY e e')) :=
 St zA (fun b b' ws MY h1 h2=>Jc wz b b' ws MY (YB m ws MY h1 h2)) cU e he e' Vq
theorem YC (X Y:FX) (hX:X.Ok) (hY:Y.Ok):VP Tryz.prog (gN m) 68 [X.av,Y.av] (.bool (gY X Y)) :=
 U5 AO (abz m) cU (abA m) X Y hX hY
theorem abB (l k:List FX) (hl:l.length<=1000) (hk:k.length<=1000) (h1:∀ X∈l,bh X) (h2:∀ X∈k,bh X):VP Tryz.prog (gN m) 67 [dm l,dm k, .fn (.func 68) [] []] (.bool (gY l k)) :=
 eh dW FX.av (fun _=>rfl) FX.pure FX.one' FX.whole FX.abo l k (by omega) (by omega) (fun X hX Y hY=>YC m X Y (h1 X hX).1 (h2 Y hY).1)
theorem SU (e:EX) (he:e.Ok) (e':EX) (Vq:e'.Ok):VP Tryz.prog (gN m) 69 [e.av,e'.av] (.bool (gY e e')) :=
 OJ sc (fun n1 w1 n2 w2 Ds B9 Dt Ca q1 q2 q3 q4=>Su sN n1 w1 n2 w2 Ds B9 Dt Ca (DB lv n1 Ds w1 B9 q1 q3) (DB lv n2 Dt w2 Ca q2 q4)) e he e' Vq
theorem SV (l k:List FX) (hl:l.length<=1000) (hk:k.length<=1000) (h1:∀ X∈l,bh X) (h2:∀ X∈k,bh X):VP Tryz.prog (gN m) 19 [dm l,dm k] (.bool (gY l k)) :=
 U7 sZ l k (by omega) (by omega) (fun X hX Y hY=>DC n5 (SU m) X Y (h1 X hX).1 (h2 Y hY).1)
theorem SW (ws:List Nat) (h:ws.length<=1000):VP Tryz.prog (gN m) 95 [.sl 1 (us ws)] (.sl 1 (us ws)):=Fc e9 (wK _) (AA _) (sQ _) (by rw [dD];omega)
theorem SX (e:EX) (hs:nZ e=true):VP Tryz.prog (gN m) 66 [e.av] e.av:=by
 unfold nZ at hs
 simp only [Bool.and_eq_true,decide_eq_true_eq] at hs
 exact Gw vt (SW m) gR e hs.2 (by omega)
theorem SY (l:List (List UInt8)) (h:l.length<=1000):VP Tryz.prog (gN m) 64 [strs l] (strs l) :=
 nY nD (by intro e he;obtain ⟨s,_,rfl⟩:=List.mem_map.1 he;rfl) (sX l) (by rw [wu];intro c hc;obtain ⟨s,_,rfl⟩:=List.mem_map.1 hc;exact af.str s) (by rw [List.length_map];omega)
theorem M7 (X:FX) (hX:bh X):VP Tryz.prog (gN m) 39 [X.av] X.av:=by
 obtain ⟨h1,h2,_,h4⟩:=qm hX.2
 exact OK y5 X (by omega) (SY m X.inputs (by omega)) gR (fun e he=>SX m e (h4 e he))
theorem SZ (l:List FX) (nm:List UInt8) (hl:l.length<=1000) (hg:∀ X∈l,bh X):VP Tryz.prog (gN m) 37 [dm l, .str nm] (.int .i64 (dh l nm)) :=
 SA vk (fun F n=>Om sF F n) jd hl (fun X hX=>O2 (hg X hX)) nm
theorem abC (l:List FX) (hl:l.length<=1000) (hg:∀ X∈l,bh X):VP Tryz.prog (gN m) 40 [dm l] (.bool (pG l)) :=
 Gx qb l hl (fun X hX=>U3 m X (hg X hX).1 (hg X hX).2) (fun X hX=>Fu (hg X hX).2)
   (fun i nm=>SZ m (l.take i) nm (by rw [List.length_take];omega) (fun X hX=>hg X (List.mem_of_mem_take hX)))
theorem S0 (l:List FX) (hl:l.length<=1000) (hg:∀ X∈l,bh X):VP Tryz.prog (gN m) 23 [dm l] (.bool (eg l)) :=
 U9 s5 l hl (fun X hX=>Cb m X (hg X hX).1 (hg X hX).2) (fun X hX=>U4 m X (hg X hX).1 (hg X hX).2) (fun X hX=>Fu (hg X hX).2) (fun l s h=>R9 nk l h s)
theorem hh:HH Tryz.prog (gN m) bh 36 29 37 38 39 40 41 where
 present:=eJ
 valid:=fun X hX=>MW m X hX.1 hX.2
 find:=SZ m
 cloneL:=kh
 clone:=M7 m
 sat:=abC m
 change:=fun hid ls now l k p ha xL hl hk O7 hgk hne=>by
   have hq:=abB m k l hk hl hgk O7
   unfold DL
   by_cases h:k=l
   . subst h
     rw [if_pos (bY rfl)]
     rw [bY rfl] at hq
     exact Jo lu eJ ha hq p
   . rw [if_neg (by rw [bg h];decide)]
     rw [bg h] at hq
     exact K7 lu eJ ha xL hq p hne
theorem O3 (l:List FX) (o:OX) (hk:o.kind%7<5) (hL:eg l=true) (hg:∀ X∈l,bh X) (hF:bh o.F):VP Tryz.prog (gN m) 70 [dm l,o.av] (.tup [dm (b9 l o).1, .int .i64 (b9 l o).2]):=by
 have hl:=iz hL
 have hp:∀ nm,VP Tryz.prog (gN m) 100 [dm l, .str nm] (.int .i64 (dh l nm)):=fun nm=>Jd pC l nm (by omega)
 have hc:∀ i,i<l.length->VP Tryz.prog (gN m) 101 [dm l, .int .i64 (i:Int)] (dm (gg l i)):=fun i hi=>U8 uA l i hi (by omega)
 have AW:∀ k:List FX,k.length<=1000->(∀ X∈k,bh X)->VP Tryz.prog (gN m) 23 [dm k] (.bool (eg k)):=fun k h1 h2=>S0 m k h1 h2
 have h0:o.kind%7=0∨o.kind%7=1∨o.kind%7=2∨o.kind%7=3∨o.kind%7=4:=by omega
 rcases h0 with h0 | h0 | h0 | h0 | h0
 . exact Jf dM l o h0 (by omega) (Cb m o.F hF.1 hF.2) hp (AW _ (by simp;omega) (by
     intro X hX
     rcases List.mem_append.1 hX with h | h
     . exact hg X h
     . rw [List.mem_singleton] at h;rw [h];exact hF))
 . exact Jg dM l o h0 (by omega) (Cb m o.F hF.1 hF.2) hp (fun i=>AW _ (by rw [List.length_set];omega) (zE hg hF))
 . exact Ji dM l o h0 (by omega) hg pL hp (fun k h1 h2=>AW k (by omega) h2) hc
 . exact Jh dM l o h0 (by omega) hg pL hp (fun k h1 h2=>AW k (by omega) h2) hc
 . exact Jj dM l o h0 (by omega) hg pL hp (fun k h1 h2=>AW k (by omega) h2) hc
theorem aeD (ls:List (List FX)) (a:Nat) (o:OX) (hI:AY bh ls a) (xL:ls.length<=900) (hF:bh o.F) :
   VP Tryz.prog (gN m) 43 [bl ls a,o.av] (.tup [bl (vv ls a o).1 (vv ls a o).2.1, .int .i64 (vv ls a o).2.2.1, .bool (vv ls a o).2.2.2]):=by
 obtain ⟨l,hl⟩:∃ l,ls[a]? = some l:=⟨_,List.getElem?_eq_getElem hI.lt⟩
 have hm:=List.mem_of_getElem? hl
 have hL:=hI.list l hm
 have O7:=hI.bh l hm
 have Tc:=iz hL
 exact abr vu ls a o hl (by omega) (Yr nx ls a hl) (fun hk=>O3 m l o hk hL O7 hF)
   (fun hk h0=>SV m _ _ (by have:=iz (zI h0);omega) (by omega) (zJ O7 hF pL) O7)
theorem ph:PH Tryz.prog (gN m) bh 43 14 44 45 26 27 24 25 where
 do_:=aeD m
 app:=fun hid ls now l X p hl hI xL hX hp=>K8 qa (hh m) hl (by omega) (iz (hI.list l (List.mem_of_getElem? hl))) (hI.bh l (List.mem_of_getElem? hl)) X hX p hp
 ed:=fun hid ls now l X p hl hI xL hX hp=>SB sj (hh m) hl (by omega) (iz (hI.list l (List.mem_of_getElem? hl))) (hI.bh l (List.mem_of_getElem? hl)) X hX p hp
 sup:=fun hid ls now l nm on p hl hI xL hp=>Vc pg (hh m) hl (by omega) (iz (hI.list l (List.mem_of_getElem? hl))) (hI.bh l (List.mem_of_getElem? hl)) (fun X hX b=>pL X b (hI.bh l (List.mem_of_getElem? hl) X hX)) nm on p hp
 mv:=fun hid ls now l nm pK p hl hI xL hp=>SH sk eY j6 (hh m) hl (by omega) (iz (hI.list l (List.mem_of_getElem? hl))) (hI.bh l (List.mem_of_getElem? hl)) nm pK p hp
 del:=fun hid ls now l nm p hl hI xL hp=>Vh qn eY (hh m) hl (by omega) (iz (hI.list l (List.mem_of_getElem? hl))) (hI.bh l (List.mem_of_getElem? hl)) nm p hp
 undo:=se
 redo:=si
theorem lh (ui:VP Tryz.prog (fun _=>none) 9 [] (.bool true)):LH Tryz.prog (gN m) bh 9 17 18 16 20 19 23 13 21 22 36 39 43 14 44 45 26 27 24 25 where
 aw:=VP.up ui
 play:=s6
 new:=BQ
 new2:=uB
 perf:=qo
 ph:=ph m
 fe:=pb
 pres:=eJ
 clone:=M7 m
 now:=nx
 same:=SV m
 list:=S0 m
 supp:=pL
def M8 (l:List OX):Prop:=l.length<=9223372036854775807/\∀ o∈l,o.F.Ok/\o.name.length<=9223372036854775807
theorem Vk (l:List OX) (h:M8 l):VP Tryz.prog (gN m) 17 [qw l] (.bool (kp l)) :=
 Ld sn l h.1 (fun o ho=>(h.2 o ho).2) (fun o ho=>U2 m o.F (h.2 o ho).1)
theorem S1 {l:List OX} (h:M8 l) (hs:kp l=true):∀ o∈l,bh o.F:=fun o ho=>by
 unfold kp at hs
 simp only [Bool.and_eq_true,List.all_eq_true] at hs
 have:=hs.1 o ho
 unfold uE at this
 simp only [Bool.and_eq_true] at this
 exact ⟨(h.2 o ho).1,this.1⟩
theorem aeE (ui:VP Tryz.prog (fun _=>none) 9 [] (.bool true)) (l:List OX) (h:M8 l):VP Tryz.prog (gN m) 6 [qw l] (.bool true) :=
 JK nG (lh m ui) (Vk m l h) (S1 h)
end
end Go.Proofs.YtcomlgfjnjpebaaGreatDoor
end

section
namespace Go.VL
section
variable {H:Type} {enc:TypeId × Value->H} {P:Program} {w:World} {spare:Nat->Bool} {held:Bool}
def jA (w:World):Env:=⟨fun _=>none,fun b=>b<w.heap.size⟩
theorem kx {α β : Type} {f : α -> β} {Q : α -> Prop}:∀ {es:List β},(∀ c∈es,∃ x,c=f x/\Q x)->∃ l:List α,es=l.map f/\∀ x∈l,Q x
 | [],_=>⟨[],rfl,by simp⟩
 | c::es,h=>by
   obtain ⟨x,hx,hq⟩:=h c (by simp)
   obtain ⟨l,hl,VV⟩:=kx (es:=es) fun y hy=>h y (by simp [hy])
   exact ⟨x::l,by rw [hx,hl];rfl,by intro y hy;rcases List.mem_cons.1 hy with rfl | hy;exact hq;exact VV y hy⟩
theorem zK {t e:TypeId} {fuel k:Nat} {cs:List Value} {x:DataW H × List MemPlace} (ht:P.underlying t=some (.slice e)) (hk:P.cellsOf e=k) (JY:0<k) (h:DataW.trod enc P w 0 spare held fuel t cs=some x) (Good:AV->Prop)
   (F:∀ n fU y,fuel=n+1->DataW.trod enc P w 0 spare held n e fU=some y->∃ c:AV,Good c/\c.size=k/\aM (jA w) w c.cells fU) :
   ∃ (es:List AV) (v:Value),cs=[v]/\aL (jA w) w (.sl k es) v/\(∀ c∈es,Good c)/\es.length<=maxLen:=by
 rcases DataW.trod_slice ht h with ⟨rfl,rfl⟩ | ⟨a,len,cap,elems,rest,n,YY,rfl,rfl,_,hl,hm,hlen,vz,_,_⟩
 . exact ⟨[],_,rfl,by simp only [aL];exact ⟨none,0,rfl,Nat.le_refl _,Nat.zero_le _,by simp, .inl trivial⟩,by simp,Nat.zero_le _⟩
 have hC:∀ i,i<len->∃ c:AV,Good c/\c.size=k/\∃ fU,w.cells? 0 (a.add (i*k)) k=some fU/\aM (jA w) w c.cells fU:=by
   intro i hi
   have h1:=vz i hi
   rw [List.getElem?_eq_getElem (by omega),hk] at h1
   obtain ⟨fU,h2,h3⟩:=Option.bind_eq_some_iff.1 h1
   obtain ⟨c,hg,hs,hr⟩:=F n fU _ YY h3
   exact ⟨c,hg,hs,fU,h2,hr⟩
 have hC':∀ i:_root_.Fin len,∃ c:AV,Good c/\c.size=k/\∃ fU,w.cells? 0 (a.add (i.1*k)) k=some fU/\aM (jA w) w c.cells fU:=fun i=>hC i.1 i.2
 let C:_root_.Fin len->AV:=fun i=>(hC' i).choose
 have hCs:∀ i,Good (C i)/\(C i).size=k/\∃ fU,w.cells? 0 (a.add (i.1*k)) k=some fU/\aM (jA w) w (C i).cells fU:=fun i=>(hC' i).choose_spec
 have hsz:∀ c∈List.ofFn C,c.size=k:=by intro c hc;obtain ⟨i,rfl⟩:=List.mem_ofFn.1 hc;exact (hCs i).2.1
 refine ⟨List.ofFn C,_,rfl, ?_,by intro c hc;obtain ⟨i,rfl⟩:=List.mem_ofFn.1 hc;exact (hCs i).1,by rw [List.length_ofFn];omega⟩
 simp only [aL]
 refine ⟨some a,cap,by rw [List.length_ofFn],by rw [List.length_ofFn];exact hl,hm,hsz, ?_⟩
 by_cases h0:len=0
 . left;exact List.length_eq_zero_iff.1 (by rw [List.length_ofFn];exact h0)
 right
 have hcell:∀ (i:_root_.Fin len) (r:Nat) (c:AV),(C i).cells[r]? = some c->∃ v,w.cell? ((a.add (i.1*k)).add r)=some v/\aL (jA w) w c v:=by
   intro i r c hc
   obtain ⟨_,hs,fU,h1,h2⟩:=hCs i
   obtain ⟨uH,hp⟩:=bz.1 h2
   obtain ⟨v,hv,wT⟩:=hp r c hc
   refine ⟨v, ?_,wT⟩
   have hrk:r<k:=by have:=(List.getElem?_eq_some_iff.1 hc).1;rw [<- hs];exact this
   rw [(World.cells?_some h1).2.2 r hrk,hv]
 obtain ⟨b,o,spot⟩:=a
 have hz:0<len:=Nat.pos_of_ne_zero h0
 obtain ⟨c0,JZ⟩:∃ c,(C ⟨0,hz⟩).cells[0]? = some c:=⟨_,List.getElem?_eq_getElem (by have:=(hCs ⟨0,hz⟩).2.1;unfold AV.size at this;omega)⟩
 obtain ⟨v0,hv0,_⟩:=hcell ⟨0,hz⟩ 0 c0 JZ
 have abD:((⟨b,o,spot⟩:Addr).add (0*k)).add 0=⟨b,o,spot⟩:=by simp [Addr.add]
 have abE:w.cell? ⟨b,o,spot⟩=some v0:=by rw [<- abD];exact hv0
 have hsp:spot=none:=World.cell?_spot abE
 subst hsp
 refine ⟨b,o,rfl,World.block_lt_of_cell? _ _ abE,dG.2 ?_⟩
 intro j c hj
 have nH:j<(flat (List.ofFn C)).length:=(List.getElem?_eq_some_iff.1 hj).1
 rw [cC hsz,List.length_ofFn] at nH
 have hjk:j/k<len:=(Nat.div_lt_iff_lt_mul JY).2 nH
 have XR:j%k<k:=Nat.mod_lt _ JY
 have aeF:(List.ofFn C)[j/k]? = some (C ⟨j/k,hjk⟩):=by rw [List.getElem?_ofFn,dif_pos hjk]
 have Cf:=flat_get hsz aeF XR
 have hjj:j/k*k+j%k=j:=by rw [Nat.mul_comm];exact Nat.div_add_mod j k
 rw [hjj,hj] at Cf
 obtain ⟨v,hv,hr⟩:=hcell ⟨j/k,hjk⟩ (j%k) c Cf.symm
 refine ⟨v, ?_,hr⟩
 have aeG:((⟨b,o,none⟩:Addr).add (j/k*k)).add (j%k)=⟨b,o+j,none⟩:=by
   have h1:∀ (o n:Nat),(⟨b,o,none⟩:Addr).add n=⟨b,o+n,none⟩:=fun o n=>by unfold Addr.add;split<;>simp_all
   rw [h1,h1,Nat.add_assoc,hjj]
 rw [<- aeG];exact hv
end
end Go.VL
end

section
set_option maxRecDepth 100000
namespace Go.Proofs
open Go.VL
theorem pM:maxLen<=9223372036854775807:=Nat.le_refl _
section
variable {H:Type} {enc:TypeId × Value->H} {w:World} {spare:Nat->Bool} {held:Bool} {fuel:Nat} {cs:List Value} {x:DataW H × List MemPlace}
theorem GD (h:DataW.trod enc Tryz.prog w 0 spare held fuel 9 cs=some x):∃ s:List UInt8,aM (jA w) w [.str s] cs/\s.length<=9223372036854775807:=by
 obtain ⟨s,rfl,_,hs⟩:=DataW.trod_string Tryz.underlying9 h
 refine ⟨s.data.toList, ?_, ?_⟩
 . simp only [aM,aL]
   exact ⟨_,[],rfl,rfl,rfl⟩
 . have e:s.data.toList.length=s.size:=Array.length_toList
   rw [e];exact Nat.le_trans hs pM
theorem Le (h:DataW.trod enc Tryz.prog w 0 spare held fuel 3 cs=some x):∃ n:Int,aM (jA w) w [.int .i64 n] cs /\ -9223372036854775808<=n/\n<=9223372036854775807:=by
 obtain ⟨n,rfl,_,hw⟩:=DataW.trod_int Tryz.underlying3 h
 exact ⟨n,by simp [aM,aL],(bounds_i64 hw).1,(bounds_i64 hw).2⟩
theorem GF (h:DataW.trod enc Tryz.prog w 0 spare held fuel 4 cs=some x):∃ b:Bool,aM (jA w) w [.bool b] cs:=by
 obtain ⟨b,rfl,_⟩:=DataW.trod_bool Tryz.underlying4 h
 exact ⟨b,by simp [aM,aL]⟩
theorem S2 (h:DataW.trod enc Tryz.prog w 0 spare held fuel 57 cs=some x):∃ ws:List Nat,aM (jA w) w [.sl 1 (us ws)] cs/\Wd ws/\ws.length<=9223372036854775807:=by
 obtain ⟨es,v,rfl,hr,hg,hl⟩:=zK (k:=1) Tryz.underlying57 (by kernel_rfl) (by decide) h (fun c=>∃ n:Nat,c = .int .u32 (n:Int)/\n<au) (fun n fU y _ hy=>by
   obtain ⟨n,rfl,_,hw⟩:=DataW.trod_int Tryz.underlying116 hy
   have hb:=bounds_u32 hw
   obtain ⟨m,rfl⟩:=Int.eq_ofNat_of_zero_le hb.1
   exact ⟨.int .u32 (m:Int),⟨m,rfl,by unfold au;omega⟩,rfl,by simp [AV.cells,aM,aL]⟩)
 obtain ⟨ws,rfl,hw⟩:=kx hg
 refine ⟨ws,by simp only [aM];exact ⟨v,[],rfl,hr,rfl⟩,hw, ?_⟩
 rw [List.length_map] at hl
 exact Nat.le_trans hl pM
theorem Vl (h:DataW.trod enc Tryz.prog w 0 spare held fuel 22 cs=some x):∃ l:List (List UInt8),aM (jA w) w [strs l] cs/\(∀ s∈l,s.length<=9223372036854775807)/\l.length<=9223372036854775807:=by
 obtain ⟨es,v,rfl,hr,hg,hl⟩:=zK (k:=1) Tryz.underlying22 (by kernel_rfl) (by decide) h (fun c=>∃ s:List UInt8,c = .str s/\s.length<=9223372036854775807) (fun n fU y _ hy=>by
   obtain ⟨s,hs,hl⟩:=GD hy
   exact ⟨.str s,⟨s,rfl,hl⟩,rfl,hs⟩)
 obtain ⟨l,rfl,hw⟩:=kx hg
 refine ⟨l,by simp only [aM];exact ⟨v,[],rfl,hr,rfl⟩,hw, ?_⟩
 rw [List.length_map] at hl
 exact Nat.le_trans hl pM
theorem S3 (h:DataW.trod enc Tryz.prog w 0 spare held fuel 59 cs=some x):∃ (b:Bool) (ws:List Nat),aM (jA w) w [.bool b, .sl 1 (us ws)] cs/\Wd ws/\ws.length<=9223372036854775807:=by
 obtain ⟨xs,n,_,_,hl,Nl,hf⟩:=DataW.trod_struct Tryz.underlying59 h
 have hC:Tryz.prog.cellsOf 59=2:=by kernel_rfl
 have h4:Tryz.prog.cellsOf 4=1:=by kernel_rfl
 have h57:Tryz.prog.cellsOf 57=1:=by kernel_rfl
 rw [hC] at hl
 have hxs:xs.length=2:=Nl
 match cs,hl with
 | [c0,c1],_ =>
   have f0:DataW.trod enc Tryz.prog w 0 spare held n 4 (List.take (Tryz.prog.cellsOf 4) (List.drop 0 [c0,c1]))=xs[0]? := hf 0 _ rfl
   have f1:DataW.trod enc Tryz.prog w 0 spare held n 57 (List.take (Tryz.prog.cellsOf 57) (List.drop 1 [c0,c1]))=xs[1]? := hf 1 _ rfl
   rw [List.getElem?_eq_getElem (by omega)] at f0 f1
   simp only [h4,h57,List.drop_zero,List.drop_succ_cons,List.take_succ_cons,List.take_zero] at f0 f1
   obtain ⟨b,hb⟩:=GF f0
   obtain ⟨ws,hw,hwd,hwl⟩:=S2 f1
   exact ⟨b,ws,aM.append (xs:=[.bool b]) (us:=[c0]) hb hw,hwd,hwl⟩
theorem YD (h:DataW.trod enc Tryz.prog w 0 spare held fuel 61 cs=some x):∃ (n1:Bool) (w1:List Nat) (n2:Bool) (w2:List Nat),aM (jA w) w [.bool n1, .sl 1 (us w1), .bool n2, .sl 1 (us w2)] cs/\Wd w1/\Wd w2/\w1.length<=9223372036854775807/\w2.length<=9223372036854775807:=by
 obtain ⟨xs,n,_,_,hl,Nl,hf⟩:=DataW.trod_struct Tryz.underlying61 h
 have hC:Tryz.prog.cellsOf 61=4:=by kernel_rfl
 have h59:Tryz.prog.cellsOf 59=2:=by kernel_rfl
 rw [hC] at hl
 have hxs:xs.length=2:=Nl
 match cs,hl with
 | [c0,c1,c2,c3],_ =>
   have f0:DataW.trod enc Tryz.prog w 0 spare held n 59 (List.take (Tryz.prog.cellsOf 59) (List.drop 0 [c0,c1,c2,c3]))=xs[0]? := hf 0 _ rfl
   have f1:DataW.trod enc Tryz.prog w 0 spare held n 59 (List.take (Tryz.prog.cellsOf 59) (List.drop 2 [c0,c1,c2,c3]))=xs[1]? := hf 1 _ rfl
   rw [List.getElem?_eq_getElem (by omega)] at f0 f1
   simp only [h59,List.drop_zero,List.drop_succ_cons,List.take_succ_cons,List.take_zero] at f0 f1
   obtain ⟨n1,w1,h1,qy,mO⟩:=S3 f0
   obtain ⟨n2,w2,h2,tz,uH⟩:=S3 f1
   exact ⟨n1,w1,n2,w2,aM.append (xs:=[.bool n1, .sl 1 (us w1)]) (us:=[c0,c1]) h1 h2,qy,tz,mO,uH⟩
theorem Vm:∀ (fuel:Nat) (cs:List Value) (x:DataW H × List MemPlace),DataW.trod enc Tryz.prog w 0 spare held fuel 63 cs=some x->∃ e:EX,e.Ok/\aM (jA w) w e.av.cells cs:=by
 intro fuel
 induction fuel using Nat.strongRecOn with
 | ind fuel ih =>
   intro cs x h
   obtain ⟨xs,n,YY,_,hl,Nl,hf⟩:=DataW.trod_struct Tryz.underlying63 h
   have hC:Tryz.prog.cellsOf 63=7:=by kernel_rfl
   have h3:Tryz.prog.cellsOf 3=1:=by kernel_rfl
   have h61:Tryz.prog.cellsOf 61=4:=by kernel_rfl
   have h9:Tryz.prog.cellsOf 9=1:=by kernel_rfl
   have h23:Tryz.prog.cellsOf 23=1:=by kernel_rfl
   rw [hC] at hl
   have hxs:xs.length=4:=Nl
   match cs,hl with
   | [c0,c1,c2,c3,c4,c5,c6],_ =>
     have f0:DataW.trod enc Tryz.prog w 0 spare held n 3 (List.take (Tryz.prog.cellsOf 3) (List.drop 0 [c0,c1,c2,c3,c4,c5,c6]))=xs[0]? := hf 0 _ rfl
     have f1:DataW.trod enc Tryz.prog w 0 spare held n 61 (List.take (Tryz.prog.cellsOf 61) (List.drop 1 [c0,c1,c2,c3,c4,c5,c6]))=xs[1]? := hf 1 _ rfl
     have f2:DataW.trod enc Tryz.prog w 0 spare held n 9 (List.take (Tryz.prog.cellsOf 9) (List.drop 5 [c0,c1,c2,c3,c4,c5,c6]))=xs[2]? := hf 2 _ rfl
     have f3:DataW.trod enc Tryz.prog w 0 spare held n 23 (List.take (Tryz.prog.cellsOf 23) (List.drop 6 [c0,c1,c2,c3,c4,c5,c6]))=xs[3]? := hf 3 _ rfl
     rw [List.getElem?_eq_getElem (by omega)] at f0 f1 f2 f3
     simp only [h3,h61,h9,h23,List.drop_zero,List.drop_succ_cons,List.take_succ_cons,List.take_zero] at f0 f1 f2 f3
     obtain ⟨op,ho,qA,GG⟩:=Le f0
     obtain ⟨n1,w1,n2,w2,hr,qy,tz,mO,uH⟩:=YD f1
     obtain ⟨nm,hn,yt⟩:=GD f2
     obtain ⟨es,v,hv,JX,hg,vz⟩:=zK (k:=7) Tryz.underlying23 hC (by decide) f3 (fun c=>∃ e:EX,c=e.av/\e.Ok) (fun m fU y hm hy=>by
       obtain ⟨e,he,her⟩:=ih m (by omega) fU y hy
       exact ⟨e.av,⟨e,rfl,he⟩,EX.size e,her⟩)
     obtain ⟨args,rfl,mh⟩:=kx hg
     rw [List.length_map] at vz
     have GK:=Nat.le_trans vz pM
     refine ⟨.mk op n1 w1 n2 w2 nm args, ?_, ?_⟩
     . rw [EX.Ok]
       exact ⟨qA,by omega,qy,tz,mO,uH,yt,GK,EX.Gp.2 mh⟩
     . rw [EX.av,EX.cF]
       have kK:aM (jA w) w [.sl 7 (args.map EX.av)] [c6]:=by
         rw [hv];simp only [aM];exact ⟨v,[],rfl,JX,rfl⟩
       exact aM.append (xs:=[.int .i64 op]) (us:=[c0]) ho (aM.append (xs:=[.bool n1, .sl 1 (us w1), .bool n2, .sl 1 (us w2)]) (us:=[c1,c2,c3,c4]) hr (aM.append (xs:=[.str nm]) (us:=[c5]) hn kK))
theorem Lf (ht:Tryz.prog.underlying 25=Tryz.prog.underlying 25) (h:DataW.trod enc Tryz.prog w 0 spare held fuel 25 cs=some x):∃ X:FX,X.Ok/\aM (jA w) w X.av.cells cs:=by
 obtain ⟨xs,n,YY,_,hl,Nl,hf⟩:=DataW.trod_struct Tryz.underlying25 h
 have hC:Tryz.prog.cellsOf 25=5:=by kernel_rfl
 have h9:Tryz.prog.cellsOf 9=1:=by kernel_rfl
 have h3:Tryz.prog.cellsOf 3=1:=by kernel_rfl
 have h22:Tryz.prog.cellsOf 22=1:=by kernel_rfl
 have h23:Tryz.prog.cellsOf 23=1:=by kernel_rfl
 have h4:Tryz.prog.cellsOf 4=1:=by kernel_rfl
 have h63:Tryz.prog.cellsOf 63=7:=by kernel_rfl
 rw [hC] at hl
 have hxs:xs.length=5:=Nl
 match cs,hl with
 | [c0,c1,c2,c3,c4],_ =>
   have f0:DataW.trod enc Tryz.prog w 0 spare held n 9 (List.take (Tryz.prog.cellsOf 9) (List.drop 0 [c0,c1,c2,c3,c4]))=xs[0]? := hf 0 _ rfl
   have f1:DataW.trod enc Tryz.prog w 0 spare held n 3 (List.take (Tryz.prog.cellsOf 3) (List.drop 1 [c0,c1,c2,c3,c4]))=xs[1]? := hf 1 _ rfl
   have f2:DataW.trod enc Tryz.prog w 0 spare held n 22 (List.take (Tryz.prog.cellsOf 22) (List.drop 2 [c0,c1,c2,c3,c4]))=xs[2]? := hf 2 _ rfl
   have f3:DataW.trod enc Tryz.prog w 0 spare held n 23 (List.take (Tryz.prog.cellsOf 23) (List.drop 3 [c0,c1,c2,c3,c4]))=xs[3]? := hf 3 _ rfl
   have f4:DataW.trod enc Tryz.prog w 0 spare held n 4 (List.take (Tryz.prog.cellsOf 4) (List.drop 4 [c0,c1,c2,c3,c4]))=xs[4]? := hf 4 _ rfl
   rw [List.getElem?_eq_getElem (by omega)] at f0 f1 f2 f3 f4
   simp only [h3,h9,h22,h23,h4,List.drop_zero,List.drop_succ_cons,List.take_succ_cons,List.take_zero] at f0 f1 f2 f3 f4
   obtain ⟨nm,hn,yt⟩:=GD f0
   obtain ⟨kd,hk,_,_⟩:=Le f1
   obtain ⟨l,hi,PB,Tc⟩:=Vl f2
   obtain ⟨es,v,hv,JX,hg,vz⟩:=zK (k:=7) Tryz.underlying23 h63 (by decide) f3 (fun c=>∃ e:EX,c=e.av/\e.Ok) (fun m fU y hm hy=>by
     obtain ⟨e,he,her⟩:=Vm m fU y hy
     exact ⟨e.av,⟨e,rfl,he⟩,EX.size e,her⟩)
   obtain ⟨vals,rfl,mh⟩:=kx hg
   rw [List.length_map] at vz
   obtain ⟨sp,hs⟩:=GF f4
   refine ⟨⟨nm,kd,l,vals,sp⟩,⟨yt,Tc,PB,Nat.le_trans vz pM,mh⟩, ?_⟩
   have abF:aM (jA w) w [.sl 7 (EX.kR vals)] [c3]:=by
     rw [hv,EX.cF];simp only [aM];exact ⟨v,[],rfl,JX,rfl⟩
   show aM (jA w) w [.str nm, .int .i64 kd,strs l, .sl 7 (EX.kR vals), .bool sp] _
   exact aM.append (xs:=[.str nm]) (us:=[c0]) hn (aM.append (xs:=[.int .i64 kd]) (us:=[c1]) hk (aM.append (xs:=[strs l]) (us:=[c2]) hi (aM.append (xs:=[.sl 7 (EX.kR vals)]) (us:=[c3]) abF hs)))
end
end Go.Proofs
end

section
set_option maxRecDepth 100000
set_option linter.unusedVariables false
namespace Go.Proofs
open Go.VL Go.Proofs.YtcomlgfjnjpebaaGreatDoor
section
variable {H:Type} {enc:TypeId × Value->H} {w:World} {spare:Nat->Bool} {held:Bool} {fuel:Nat} {cs:List Value} {x:DataW H × List MemPlace}
theorem abG (h:DataW.trod enc Tryz.prog w 0 spare held fuel 5 cs=some x):∃ n:Nat,aM (jA w) w [.int .u8 (n:Int)] cs:=by
 obtain ⟨n,rfl,_,hw⟩:=DataW.trod_int Tryz.underlying5 h
 obtain ⟨m,rfl⟩:=Int.eq_ofNat_of_zero_le (bounds_u8 hw).1
 exact ⟨m,by simp [aM,aL]⟩
theorem abH (h:DataW.trod enc Tryz.prog w 0 spare held fuel 49 cs=some x):∃ o:OX,o.F.Ok/\o.name.length<=9223372036854775807/\aM (jA w) w o.av.cells cs:=by
 obtain ⟨xs,n,YY,_,hl,Nl,hf⟩:=DataW.trod_struct Tryz.underlying49 h
 have hC:Tryz.prog.cellsOf 49=9:=by kernel_rfl
 have h5:Tryz.prog.cellsOf 5=1:=by kernel_rfl
 have h25:Tryz.prog.cellsOf 25=5:=by kernel_rfl
 have h9:Tryz.prog.cellsOf 9=1:=by kernel_rfl
 have h4:Tryz.prog.cellsOf 4=1:=by kernel_rfl
 have h3:Tryz.prog.cellsOf 3=1:=by kernel_rfl
 rw [hC] at hl
 have hxs:xs.length=5:=Nl
 match cs,hl with
 | [c0,c1,c2,c3,c4,c5,c6,c7,c8],_ =>
   have f0:DataW.trod enc Tryz.prog w 0 spare held n 5 (List.take (Tryz.prog.cellsOf 5) (List.drop 0 [c0,c1,c2,c3,c4,c5,c6,c7,c8]))=xs[0]? := hf 0 _ rfl
   have f1:DataW.trod enc Tryz.prog w 0 spare held n 25 (List.take (Tryz.prog.cellsOf 25) (List.drop 1 [c0,c1,c2,c3,c4,c5,c6,c7,c8]))=xs[1]? := hf 1 _ rfl
   have f2:DataW.trod enc Tryz.prog w 0 spare held n 9 (List.take (Tryz.prog.cellsOf 9) (List.drop 6 [c0,c1,c2,c3,c4,c5,c6,c7,c8]))=xs[2]? := hf 2 _ rfl
   have f3:DataW.trod enc Tryz.prog w 0 spare held n 4 (List.take (Tryz.prog.cellsOf 4) (List.drop 7 [c0,c1,c2,c3,c4,c5,c6,c7,c8]))=xs[3]? := hf 3 _ rfl
   have f4:DataW.trod enc Tryz.prog w 0 spare held n 3 (List.take (Tryz.prog.cellsOf 3) (List.drop 8 [c0,c1,c2,c3,c4,c5,c6,c7,c8]))=xs[4]? := hf 4 _ rfl
   rw [List.getElem?_eq_getElem (by omega)] at f0 f1 f2 f3 f4
   simp only [h5,h25,h9,h4,h3,List.drop_zero,List.drop_succ_cons,List.take_succ_cons,List.take_zero] at f0 f1 f2 f3 f4
   obtain ⟨k,hk⟩:=abG f0
   obtain ⟨X,hX,hXr⟩:=Lf rfl f1
   obtain ⟨nm,hn,yt⟩:=GD f2
   obtain ⟨on,ho⟩:=GF f3
   obtain ⟨tg,ht,_,_⟩:=Le f4
   refine ⟨⟨k,X,nm,on,tg⟩,hX,yt, ?_⟩
   have aeJ:aM (jA w) w [.str X.name, .int .i64 X.kind,strs X.inputs, .sl 7 (EX.kR X.vals), .bool X.supp] [c1,c2,c3,c4,c5]:=hXr
   show aM (jA w) w [.int .u8 (k:Int), .str X.name, .int .i64 X.kind,strs X.inputs, .sl 7 (EX.kR X.vals), .bool X.supp, .str nm, .bool on, .int .i64 tg] _
   exact aM.append (xs:=[.int .u8 (k:Int)]) (us:=[c0]) hk (aM.append (xs:=[.str X.name, .int .i64 X.kind,strs X.inputs, .sl 7 (EX.kR X.vals), .bool X.supp]) (us:=[c1,c2,c3,c4,c5]) aeJ (aM.append (xs:=[.str nm]) (us:=[c6]) hn (aM.append (xs:=[.bool on]) (us:=[c7]) ho ht)))
theorem YE (h:DataW.trod enc Tryz.prog w 0 spare held fuel 38 cs=some x):∃ l:List OX,M8 l/\aM (jA w) w [qw l] cs:=by
 have hC:Tryz.prog.cellsOf 49=9:=by kernel_rfl
 obtain ⟨es,v,rfl,hr,hg,hl⟩:=zK (k:=9) Tryz.underlying38 hC (by decide) h (fun c=>∃ o:OX,c=o.av/\o.F.Ok/\o.name.length<=9223372036854775807) (fun n fU y _ hy=>by
   obtain ⟨o,h1,h2,h3⟩:=abH hy
   exact ⟨o.av,⟨o,rfl,h1,h2⟩,OX.sz o,h3⟩)
 obtain ⟨l,rfl,hw⟩:=kx hg
 rw [List.length_map] at hl
 exact ⟨l,⟨Nat.le_trans hl pM,hw⟩,by simp only [aM];exact ⟨v,[],rfl,hr,rfl⟩⟩
end
end Go.Proofs
end

section
namespace Go.VL
open Go.ChangeShapes Go.WideShapes Go.ChangeAt Go.RowKit
section
variable {H:Type} {enc:TypeId × Value->H} {P:Program}
theorem xE (hl:laidOutB P=true) {W W':World} {sp:Nat->Bool} (hB:Below W.heap.size W W'):∀ {ts:List TypeId} {vs:List Value} {ds:List (DataW H)} {ps:List MemPlace},
   (∀ t∈ts,P.readableRec t=true/\t<P.types.size)->DataW.TrodAll enc P W 0 (fun _=>true) true ts vs ds ps->(∀ p∈ps,p.block<W.heap.size)->(∀ p∈ps,sp p.block=true) ->
   DataW.TrodAll enc P W' 0 sp true ts vs ds ps
 | [],[],[],ps,_,h,_,_=>by simpa [DataW.TrodAll] using h
 | t::ts,v::vs,d::ds,ps,hr,h,hlt,hsp=>by
   simp only [DataW.TrodAll] at h ⊢
   obtain ⟨p,q,h1,h2,rfl⟩:=h
   refine ⟨p,q, ?_,xE hl hB (fun x hx=>hr x (by simp [hx])) h2 (fun x hx=>hlt x (by simp [hx])) (fun x hx=>hsp x (by simp [hx])),rfl⟩
   exact WideElems.Trod_stays hl (hr t (by simp)).1 (hr t (by simp)).2 h1 (fun x hx=>hB.same (hlt x (by simp [hx]))) (fun x hx=>hsp x (by simp [hx]))
 | [],[],_::_,_,_,h,_,_=>by simp [DataW.TrodAll] at h
 | [],_::_,_,_,_,h,_,_=>by simp [DataW.TrodAll] at h
 | _::_,[],_,_,_,h,_,_=>by simp [DataW.TrodAll] at h
 | _::_,_::_,[],_,_,h,_,_=>by simp [DataW.TrodAll] at h
theorem S4 {f:Func} {s:ChangeSpec} {apart fresh handsOn:Bool} {W W':World} {args:Array Value} {ds gs:List (DataW H)} {before:List MemPlace}
   (hl:laidOutB P=true) (hr:∀ t∈f.params.toList,P.readableRec t=true/\t<P.types.size) (hv:s.vars=[])
   (hs:(s.fn H (ds++gs))={ results:=[.lit (.bool true)],args:=ds }) {tb:TypeId} (BF:f.resultTypes = #[tb]) (htb:P.underlying tb=some .bool)
   (hW:DataW.Whole enc P f.params.toList s.vars apart W args.toList ds gs before) (hB:Below W.heap.size W W') :
   s.post enc P f apart fresh handsOn false W args (.bool true) W':=by
 have hlt:=hW.lt
 have hW':=hW
 obtain ⟨p,q,h1,h2,rfl,h3,h4⟩:=hW
 rw [hv] at h2
 have hq:q=[]/\gs=[]:=by
   cases gs with
   | nil=>simp only [DataW.TrodVars] at h2;exact ⟨h2,rfl⟩
   | cons _ _=>simp [DataW.TrodVars] at h2
 obtain ⟨rfl,rfl⟩:=hq
 refine ⟨ds,[],p++[],[],p,[],hW', ?_, ?_, ?_,hB.frame _,fun h=>by simp at h⟩
 . rw [hs,BF]
   exact trodAll_mk1 ⟨1,by simp [DataW.trod,htb,Value.cells]⟩
 . rw [hs]
   exact xE hl hB hr h1 (fun x hx=>hlt x (by simp [hx])) (fun x hx=>by simpa using hlt x (by simp [hx]))
 . rw [hs,hv];simp [DataW.TrodVars]
end
theorem JL {P:Program} {G:Nat->Option (List AV)} {f:FuncId} {args:List AV} {r:dN} (h:aB P G f args [] [] r) (hr:r.val = .bool true) {w:World} {ok:Nat->Prop}
   (mh:∀ b,ok b->b<w.heap.size) (hg:∀ g cs,G g=some cs->ok g/\cm ⟨fun _=>none,ok⟩ w g 0 cs) {vs:List Value} (ha:aM ⟨fun _=>none,ok⟩ w args vs) :
   Calls P f vs.toArray w fun e w'=>e = .returned (.bool true)/\Below w.heap.size w w':=by
 have hi:Inv G (fun k=>w.heap.size<=k) ⟨fun _=>none,ok⟩ w (fun _=>none):=⟨mh,fun id bk h=>by simp at h,fun i j x y h=>absurd rfl h,hg,fun k hk=>hk⟩
 refine (h.2 _ _ w _ vs (by simp) hi ha (fun _ _=>rfl)).mono fun e w' he => ?_
 obtain ⟨v,E',rfl,hp⟩:=he
 have hv:=hp.rep
 rw [hr] at hv
 simp only [aL] at hv
 subst hv
 exact ⟨rfl,hp.Ch.os,hp.Ch.tape,hp.Ch.output,hp.Ch.size,fun k hk=>hp.Ch.block k hk (by omega)⟩
end Go.VL
end

section
namespace Go.Proofs.YtcomlgfjnjpebaaGreatDoor
open Go.ChangeShapes Go.WideShapes Go.ChangeAt Go.WideMaps Go.WideElems Go.RowKit
theorem Tryz.own:ownKnob Tryz.prog.godebug=none:=by kernel_rfl
theorem Tryz.laidOut:laidOutB Tryz.prog=true:=by kernel_rfl
set_option maxRecDepth 100000 in
theorem S5:VL.VP Tryz.prog (fun _=>none) 9 [] (.bool true):=VL.VP.TT ZM rfl rfl (VL.b7.bool true)
theorem zL {H:Type} {enc:TypeId × Value->H} {a:Assume} {C:Checked} {os:Os} {f:FuncId} {fn:Func} {s:ChangeSpec} {conds:List PathCond} {apart fresh handsOn again:Bool} {X:World->Array Value->Prop}
   (hX:∀ (w w':World) (args:Array Value),w.heap=w'.heap->X w args->X w' args)
   (own:ownKnob C.prog.godebug=none) (started:os.Started) (YF:C.prog.inits.idxOf? f=none) (FU:C.prog.funcs[f]? = some fn)
   (witness:∃ (w:World) (tape:Tape) (i:Input),w.os=os/\(w.forCall tape i).Shaped C.prog/\i.vars=[]/\Input.okWide C.prog (w.forCall tape i) .any w.heap.size f i /\
     ((s.pre enc C.prog fn conds apart (w.forCall tape i).memory i.args/\X (w.forCall tape i).memory i.args)/\sizedMet enc C.prog fn (OpenSpec.ofChange s) apart (w.forCall tape i).memory i.args)/\a.holds C.prog (lone (Frame.enter C.prog f i.args .normal) [] (w.forCall tape i)))
   (contract:∀ (W:World) (base:Nat) (args:Array Value) (ds gs:List (DataW H)) (before:List MemPlace),
     (∀ (j:Nat) t v,fn.params[j]? = some t->args[j]? = some v->Value.okWide C.prog W .any base t v) ->
     DataW.Whole enc C.prog fn.params.toList s.vars apart W args.toList ds gs before->X W args->W.ShapedOpen C.prog ->
     Calls C.prog f args W fun e W'=>∃ v,e = .returned v/\s.post enc C.prog fn apart fresh handsOn again W args v W') :
   ReturnsInHanded a C os f .any (fun w args=>(s.pre enc C.prog fn conds apart w args/\X w args)/\sizedMet enc C.prog fn (OpenSpec.ofChange s) apart w args) (s.post enc C.prog fn apart fresh handsOn again):=by
 refine returnsInHanded_of_calls own started YF witness ?_
 intro w tape i _ BC _ mh aeL _
 obtain ⟨_,_,_,fn',aeM,_,_,_,_,hval⟩:=mh
 have e:fn'=fn:=Option.some.inj (aeM.symm.trans FU)
 subst e
 obtain ⟨⟨⟨ds,gs,before,hw,_⟩,hx⟩,_⟩:=aeL
 have hw':=DataW.Whole.of_heap (w':=w.forCall tape i) (by rfl) hw
 refine (contract (w.forCall tape i) w.heap.size i.args ds gs before hval hw' (hX _ _ _ (by rfl) hx) BC).mono fun e W' ⟨v,he,hp⟩ => ?_
 subst he
 exact ChangeSpec.post_blind hp
theorem FH {P:Program} {w:World} {n:String} {k:IntKind} {zs:List Int} {g t e:Nat} (h:Lib.VarReads P w n (.agg (zs.map fun z => .lit (.int k z)))) (hg:P.globalNamed n=some g) (ht:(P.globals[g]?).map (·.type)=some t)
   (hu:P.underlying t=some (.array zs.length e)) (he:P.underlying e=some (.int k)) (hc:P.cellsOf e=1) (E:VL.Env) :
   g<w.heap.size/\VL.cm E w g 0 (zs.map fun z=>VL.AV.int k z):=by
 obtain ⟨g',t',cs,fuel,p,h1,h2,h3,h4⟩:=h
 obtain rfl:g'=g:=Option.some.inj (h1.symm.trans hg)
 obtain rfl:t'=t:=Option.some.inj (h2.symm.trans ht)
 have hcell:∃ ty fr,w.heap[g']? = some (.cells cs ty fr):=by
   unfold World.var? at h3
   rw [hg] at h3
   simp only [Option.bind_some] at h3
   cases hh:w.heap[g']? with
   | none=>rw [hh] at h3;cases h3
   | some o =>
     rw [hh] at h3
     cases o<;>simp at h3
     subst h3
     exact ⟨_,_,rfl⟩
 obtain ⟨ty,fr,hcell⟩:=hcell
 refine ⟨VL.dH hcell,VL.gA.2 fun j c hj => ?_⟩
 rw [List.getElem?_map] at hj
 cases hz:zs[j]? with
 | none=>rw [hz] at hj;cases hj
 | some z =>
   rw [hz] at hj
   simp only [Option.map_some,Option.some.injEq] at hj
   subst hj
   have hlt:j<zs.length:=(List.getElem?_eq_some_iff.1 hz).1
   obtain ⟨afU,d,q,hd,hr⟩:=Lib.array_elem hu h4 j hlt
   rw [List.getElem?_map,hz] at hd
   simp only [Option.map_some,Option.some.injEq] at hd
   subst hd
   rw [hc,Nat.mul_one] at hr
   obtain ⟨m,hm,hx,_⟩:=DataW.trod_int he hr
   simp only [Prod.mk.injEq,DataW.lit.injEq,Lit.int.injEq,true_and] at hx
   obtain ⟨rfl,_⟩:=hx
   have h0:=congrArg (·[0]?) hm
   simp only [List.getElem?_take,List.getElem?_drop,Nat.add_zero,Nat.zero_lt_one,if_true,Array.getElem?_toList,List.getElem?_cons_zero] at h0
   refine ⟨.int k z, ?_,by simp only [VL.aL]⟩
   unfold World.cell?
   rw [Nat.zero_add,show ((⟨g',j,none⟩:Addr)).block=g' from rfl,hcell]
   simpa using h0
theorem abI {W:World} (hL:laidMetH Tryz.prog Rows.historyValidRow.laid W) (BC:W.ShapedOpen Tryz.prog):∃ m,∀ g cs,gN m g=some cs->g<W.heap.size/\VL.cm (VL.jA W) W g 0 cs:=by
 have Tx:laidMet Tryz.prog Rows.historyValidRow.laid W:=hL
 have h0:=FH (zs:=[0,0,0,1,2,2,2,2]) (k := .i64) (g:=0) (t:=126) (e:=3) (Lib.laidMet.reads Tx (n := "setsquare/formula.operands") (d:=Rows.laid_setsquare_formula_operands) (by simp [Rows.historyValidRow])) (by kernel_rfl) (by kernel_rfl) Tryz.underlying126 Tryz.underlying3 (by kernel_rfl) (VL.jA W)
 have h2:=FH (zs:=(List.range 20).map fun i=>((10 ^ i:Nat):Int)) (k := .u64) (g:=2) (t:=209) (e:=118) (Lib.laidMet.reads Tx (n := "internal/strconv.uint64pow10") (d:=Rows.laid_internal_strconv_uint64pow10) (by simp [Rows.historyValidRow])) (by kernel_rfl) (by kernel_rfl) Tryz.underlying209 Tryz.underlying118 (by kernel_rfl) (VL.jA W)
 obtain ⟨m,hm⟩:=Tryz.Qn.s1_3 W BC
 have h1:W.cell? ⟨1,0,none⟩=some (.int .i64 m):=hm
 refine ⟨m,fun g cs hg => ?_⟩
 match g,hg with
 | 0,hg=>cases hg;exact h0
 | 1,hg =>
   cases hg
   exact ⟨World.block_lt_of_cell? _ _ h1,by simp only [VL.cm,VL.aL];exact ⟨⟨_,h1,rfl⟩,trivial⟩⟩
 | 2,hg =>
   cases hg
   rw [List.map_map] at h2
   exact h2
 | n+3,hg=>cases hg
theorem S6 (os:Os) (args:Array Value):laidMetH Tryz.prog Rows.historyValidRow.laid ((World.doorLaid Tryz.prog 400 os).forCall (fun _ _=>0) ⟨#[],args,[]⟩).memory :=
 laidMetH_of_parts3 (fuel:=8) (laidMet_of_run' 8 (by kernel_rfl) (by kernel_rfl)) (by kernel_rfl) (by kernel_rfl)
set_option maxRecDepth 100000 in
theorem lifted (os:Os) (started:os.Started) (H:Type) (enc:TypeId × Value->H) :
   ReturnsInHanded {} Tryz.checked os 6 .any (fun w args=>(Rows.historyValidSpec.pre enc Tryz.prog Tryz.f6 [] false w args/\laidMetH Tryz.prog Rows.historyValidRow.laid w)/\sizedMet enc Tryz.prog Tryz.f6 (OpenSpec.ofChange Rows.historyValidSpec) false w args)
     (Rows.historyValidSpec.post enc Tryz.prog Tryz.f6 false true false false):=by
 refine zL (C:=Tryz.checked) (X:=fun w _=>laidMetH Tryz.prog Rows.historyValidRow.laid w) (fun _ _ _ hh h=>h.of_heap hh) Tryz.own started (by kernel_rfl) Tryz.func6
   (ChangeSpec.witness_shaped (enc:=enc) (C:=Tryz.checked) (os:=os) (X:=fun w _=>laidMetH Tryz.prog Rows.historyValidRow.laid w) false (World.doorLaid Tryz.prog 400 os) #[.slice none 0 0] 8 rfl (World.shaped_of_RefB (by kernel_rfl) (by kernel_rfl)) (by kernel_rfl) (by kernel_rfl) (by kernel_rfl) (S6 os _)) ?_
 intro W base args ds gs before Wv hW hL BC
 have hval:∀ (j:Nat) t v,Tryz.f6.params[j]? = some t->args[j]? = some v->Value.okWide Tryz.prog W .any base t v:=Wv
 have hW':=hW
 obtain ⟨p,q,V2,hV,rfl,hfz,Ah⟩:=hW
 have hA:DataW.TrodAll enc Tryz.prog W 0 (fun _=>true) true Tryz.f6.params.toList args.toList ds p:=V2
 rw [Tryz.params6] at hA hval
 obtain ⟨v0,d0,rfl,rfl,h0⟩:=trodAll_one hA
 obtain ⟨rfl,rfl⟩:=trodVars_none hV
 clear V2 Wv
 obtain ⟨a0,len,cap,rfl⟩:=okWide_slice Tryz.underlying38 (hval 0 38 v0 rfl rfl)
 obtain ⟨fuel,hf⟩:=h0
 obtain ⟨l,hl,hR⟩:=YE hf
 obtain ⟨m,hm⟩:=abI hL BC
 have ND:VL.aM (VL.jA W) W [VL.qw l] [.slice a0 len cap]:=hR
 refine (VL.JL (ok:=fun b=>b<W.heap.size) (VL.aB.PN (aeE m S5 l hl) (by intro c hc;simp at hc;subst hc;exact VL.JF l) []) rfl (fun _ h=>h) hm (vs:=[.slice a0 len cap]) ND).mono fun e W' he => ?_
 obtain ⟨rfl,hB⟩:=he
 exact ⟨_,rfl,VL.S4 Tryz.laidOut (by rw [Tryz.params6];intro t ht;simp at ht;subst ht;exact ⟨by kernel_rfl,by decide +kernel⟩) rfl rfl rfl (tb:=4) Tryz.underlying4 hW' hB⟩
theorem A1:Rows.HistoryValidSaid :=
 OpenClaim.holds_of_wide 6 Tryz.f6 rfl rfl rfl rfl rfl rfl rfl ⟨rfl,rfl,rfl,rfl,rfl⟩ rfl rfl rfl rfl rfl (by kernel_rfl) Tryz.func6 (by kernel_rfl)
   (of_decide_eq_true (by kernel_rfl)) (by unfold Func.isWrapper;first | (rw [if_pos (by decide +kernel)];kernel_rfl) | (rw [if_neg (by decide +kernel)];exact ⟨rfl,rfl⟩))
   (fun os started H enc _=>lifted os started H enc)
theorem historyValid_card:Rows.HistoryValidCardSaid :=
 Claim7.holds_tied_plain_at .later [] [.data, .data, .data, .data] true (true, "3d11a4bf1dee2d66407522a903d62afb625a42b086ed699c822710aab6d4fdf7") false
   A1 (fun _ h=>by cases h) (by kernel_rfl) (fun _ h=>by cases h) historyValid_row_tie rfl ⟨rfl,rfl⟩ (by kernel_rfl) rfl
   (fun f fn hf FU=>by
     obtain rfl:f=6:=Option.some.inj ((show Tryz.prog.funcNamed Tryz.f6.name=some 6 by kernel_rfl).symm.trans hf) |>.symm
     obtain rfl:fn=Tryz.f6:=(Option.some.inj (Tryz.func6.symm.trans FU)).symm
     exact ⟨by kernel_rfl,fun j t ht=>by
       rw [Tryz.params6] at ht
       have hm:t∈[38]:=by simpa using Array.mem_of_getElem? ht
       have cz:([38].all fun u => !Tryz.prog.wantsStandIn u)=true:=by kernel_rfl
       exact (show Tryz.prog.wantsStandIn t=false by simpa using List.all_eq_true.1 cz t hm)⟩)
   (by kernel_rfl)
end Go.Proofs.YtcomlgfjnjpebaaGreatDoor
end
