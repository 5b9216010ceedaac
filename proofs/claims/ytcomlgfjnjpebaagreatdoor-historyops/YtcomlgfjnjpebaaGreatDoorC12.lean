/- For every input, HistoryOps returns true, and its argument reads afterwards as it read before. Conditions: the card's (the listed package-level variables start as the program's text lays them). -/
import Derived.Test.YtcomlgfjnjpebaaGreatDoorC11
import Derived.Test.YtcomlgfjnjpebaaGreatDoorC10
import Derived.Test.YtcomlgfjnjpebaaGreatDoorC09
import Derived.Deep.Slices
import Derived.Test.YtcomlgfjnjpebaaGreatDoorProg
import Derived.KernelRfl
import Derived.OpenShut
import Derived.ProofKit
import Derived.Test.YtcomlgfjnjpebaaGreatDoorC03
import Derived.Test.YtcomlgfjnjpebaaGreatDoorRows
import Derived.Test.YtcomlgfjnjpebaaGreatDoorTie
import Derived.Test.YtcomlgfjnjpebaaGreatDoorCards
import Derived.Test.YtcomlgfjnjpebaaGreatDoorC04
import Derived.LaidMore
import Derived.DataShut
import Derived.Stop.Joined
import Derived.SevenTiedAt
import Derived.HandedShaped
import Derived.Lib.LaidU8
set_option linter.unusedSimpArgs false
set_option linter.unusedVariables false
section
set_option linter.unusedVariables false
set_option linter.unusedVariables false
namespace Go.VL
section
variable {P:Program} {G:Nat->Option (List AV)} {π : Id} {base:Nat} {Q:cH->VS->Prop} {n:Nat} {d:Option Nat} {os:List bu} {i:Nat} {t:List AV} {σ : aa}
theorem q9 {f:FuncId} {l:List FX} {id:Id} {tt:Bool} {y r:AV} (h:VP P G f [du l,y] r) (hy:af y) (hf:cj r) (hσ : σ id=some ⟨l.map FX.av,5,false⟩) (k:vs P G π base Q n os (i+1) (fK t d r) σ):pM P G π base Q n d os i t σ f [.osl id 5 0 l.length tt,y] :=
 iJ [(id,⟨l.map FX.av,5,false⟩)] h (aY.cons (dX (by simp [aa.of])) (aY.cons (View.pure hy) .nil)) hf (by simpa using hσ) k
theorem wu {f:FuncId} {y r:AV} (h:VP P G f [du [],y] r) (hy:af y) (hf:cj r) (k:vs P G π base Q n os (i+1) (fK t d r) σ):pM P G π base Q n d os i t σ f [.tsl 5 [],y] :=
 iJ [] h (aY.cons (View.Py 5) (aY.cons (View.pure hy) .nil)) hf (by simp) k
end
noncomputable def Br (hid:Id) (ls:List (List FX)) (now:Nat) (l:List FX) (X:FX):Int × List (Id × Option dF) :=
 if X.valid=false then (1,[]) else if dq l X.name<0 then (4,[]) else if pC (l.set (dq l X.name).toNat X)=true then (0,DJ hid ls now l (l.set (dq l X.name).toNat X)) else (4,[])
noncomputable def Jj (hid:Id) (ls:List (List FX)) (now:Nat) (l:List FX) (nm:List UInt8) (on:Bool):Int × List (Id × Option dF) :=
 if dq l nm<0 then (4,[]) else (0,DJ hid ls now l (l.set (dq l nm).toNat ((l.getD (dq l nm).toNat ⟨[],0,[],[],false⟩).bQ on)))
theorem s6 (nm:List UInt8):dq [] nm = -1:=rfl
theorem zx {bh:FX->Prop} {l:List FX} {i:Nat} {X:FX} (hg:∀ Y∈l,bh Y) (hX:bh X):∀ Y∈l.set i X,bh Y:=by
 intro Y hY
 rcases List.mem_or_eq_of_mem_set hY with h | h
 . exact hg Y h
 . rw [h];exact hX
section
variable {P:Program} {G:Nat->Option (List AV)} {bh:FX->Prop} {f fp fv ff fc Av fs yc:FuncId}
set_option maxHeartbeats 4000000 in
theorem Sq (h:Has P f (j0 fv fp fc ff Av fs yc)) (H:HH P G bh fp fv ff fc Av fs yc) {hid:Id} {ls:List (List FX)} {now:Nat} {l:List FX} (hl:ls[now]? = some l) (xD:ls.length<=1000)
   (hlen:l.length<=200) (hg:∀ X∈l,bh X) (X:FX) (hX:bh X) (p:Id) (qJ : ¬ p <:+ hid) :
   aB P G f [.ref hid 0 0,X.av] p [(hid,fY ls now)] { val := .int .i64 (Br hid ls now l X).1,rd:=[hid],up:=(Br hid ls now l X).2 }:=by
 unfold Br
 have bY:∀ q:Id,q++p≠hid:=fun q e=>qJ ⟨q,e⟩
 have n0:(0::p)≠hid:=bY [0]
 have n57:(5::7::p)≠hid:=bY [5,7]
 have n05:(0::p)≠5::7::p:=by simp
 have Wf:af X.av:=FX.pure X
 refine aB.has h ?_
 simp only [j0,SS,Nat.reduceAdd,FX.one,ae,FX.whole]
 refine aj (H.valid X hX) (by simp [Wf]) ?_
 cases kX:X.valid
 . rw [if_pos rfl]
   simp only [SS,Nat.reduceAdd]
   exact aU▸aA rfl (gg (up:=[]) (by simp) (by simp [aa.put,n0.symm,bF]))
 rw [if_neg (by decide)]
 simp only [SS,Nat.reduceAdd]
 refine ⟨[(hid,fY ls now)],_,jM H.present hl _,by simp [aa.put,n0.symm,bF],by simp, ?_⟩
 simp only [SS,Nat.reduceAdd]
 by_cases h0:l=[]
 . subst h0
   refine aj (sZ H.cloneL) (by simp [dx]) ?_
   simp only [SS,Nat.reduceAdd,ae,FX.c0,aa.app]
   refine wu (H.find [] X.name (by simp) hg) (af.str _) (cj.int _ _) ?_
   have d0:decide ((-1:Int)<0)=true:=rfl
   rw [if_pos (show dq [] X.name<0 from by rw [s6];decide)]
   simp only [s6,SS,Nat.reduceAdd,d0]
   exact aU▸aA rfl (gg (up:=[]) (by simp) (by simp [aa.put,n0.symm,bF]))
 refine ⟨[],_,s5 H.cloneL h0 (by omega) _,by simp,by simp, ?_⟩
 simp only [SS,Nat.reduceAdd]
 rw [ai n05,ae,FX.c0]
 simp only [SS,Nat.reduceAdd]
 refine q9 (H.find l X.name (by omega) hg) (af.str _) (cj.int _ _) (by simp [aa.put]) ?_
 simp only [SS,Nat.reduceAdd]
 by_cases h3:dq l X.name<0
 . rw [if_pos h3,an h3]
   simp only [SS,Nat.reduceAdd]
   exact aU▸aA rfl (gg (up:=[]) (by simp) (by simp [aa.put,n0.symm,n57.symm,bF]))
 rw [if_neg h3,ak h3]
 obtain ⟨i,hi,aN⟩:=jC h3
 rw [hi,Int.toNat_natCast]
 obtain ⟨Y,hY⟩:∃ Y,l[i]? = some Y:=⟨_,List.getElem?_eq_getElem aN⟩
 have Ed:(l.map FX.av)[i]? = some Y.av:=by rw [List.getElem?_map,hY];rfl
 have GJ:∀ Z∈l.set i X,bh Z:=zx hg hX
 have Cn:(l.set i X).length=l.length:=List.length_set
 simp only [SS,Nat.reduceAdd]
 rw [ai n05,ae,FX.whole]
 simp only [SS,Nat.reduceAdd]
 refine aj (H.clone X hX) (by simp [Wf]) ?_
 simp only [SS,Nat.reduceAdd,lF aN]
 rw [ux (k:=5) (els:=l.map FX.av) (x:=Y.av) (y:=X.av) (by simp [aa.put]) Ed rfl rfl (of_eq_true (FX.one _)) rfl,map_set]
 simp only [SS,Nat.reduceAdd]
 rw [<- Cn]
 refine eK (H.sat _ (by omega) GJ) (cj.bool _) (by simp [aa.put]) ?_
 cases hB:pC (l.set i X)
 . simp only [SS,Nat.reduceAdd]
   exact aU▸aA rfl (gg (up:=[]) (by simp) (by simp [aa.put,n0.symm,n57.symm,bF]))
 . simp only [SS,Nat.reduceAdd]
   refine kA (id:=5::7::p) (bk:=⟨(l.set i X).map FX.av,5,false⟩) (H.change hid ls now l (l.set i X) _ hl xD (by omega) (by omega) hg GJ (fun q=>bY [q,_])) (dX (l:=l.set i X) (by simp [aa.of])) n57 wL (by simp [aa.put]) (by simp [aa.put,n0.symm,n57.symm,bF]) ?_
   simp only [SS,Nat.reduceAdd]
   exact aU▸aA rfl (gg qt (by simp [aa.put,aa.app,rm,n0.symm,n57.symm,bF]))
set_option maxHeartbeats 4000000 in
theorem UY (h:Has P f (hP fp fc ff yc)) (H:HH P G bh fp fv ff fc Av fs yc) {hid:Id} {ls:List (List FX)} {now:Nat} {l:List FX} (hl:ls[now]? = some l) (xD:ls.length<=1000)
   (hlen:l.length<=200) (hg:∀ X∈l,bh X) (hgs:∀ X∈l,∀ b,bh (X.bQ b)) (nm:List UInt8) (on:Bool) (p:Id) (qJ : ¬ p <:+ hid) :
   aB P G f [.ref hid 0 0, .str nm, .bool on] p [(hid,fY ls now)] { val := .int .i64 (Jj hid ls now l nm on).1,rd:=[hid],up:=(Jj hid ls now l nm on).2 }:=by
 unfold Jj
 have bY:∀ q:Id,q++p≠hid:=fun q e=>qJ ⟨q,e⟩
 have GK:(5::3::p)≠hid:=bY [5,3]
 refine aB.has h ?_
 simp only [hP,SS,Nat.reduceAdd]
 refine ⟨[(hid,fY ls now)],_,jM H.present hl _,by simp [bF],by simp, ?_⟩
 simp only [SS,Nat.reduceAdd]
 by_cases h0:l=[]
 . subst h0
   refine aj (sZ H.cloneL) (by simp [dx]) ?_
   simp only [SS,Nat.reduceAdd]
   refine wu (H.find [] nm (by simp) hg) (af.str _) (cj.int _ _) ?_
   have d0:decide ((-1:Int)<0)=true:=rfl
   rw [if_pos (show dq [] nm<0 from by rw [s6];decide)]
   simp only [s6,SS,Nat.reduceAdd,d0]
   exact aU▸aA rfl (gg (up:=[]) (by simp) bF)
 refine ⟨[],_,s5 H.cloneL h0 (by omega) _,by simp,by simp, ?_⟩
 simp only [SS,Nat.reduceAdd]
 refine q9 (H.find l nm (by omega) hg) (af.str _) (cj.int _ _) (by simp [aa.put]) ?_
 simp only [SS,Nat.reduceAdd]
 by_cases h3:dq l nm<0
 . rw [if_pos h3,an h3]
   simp only [SS,Nat.reduceAdd]
   exact aU▸aA rfl (gg (up:=[]) (by simp) (by simp [aa.put,GK.symm,bF]))
 rw [if_neg h3,ak h3]
 obtain ⟨i,hi,aN⟩:=jC h3
 rw [hi,Int.toNat_natCast]
 obtain ⟨Y,hY⟩:∃ Y,l[i]? = some Y:=⟨_,List.getElem?_eq_getElem aN⟩
 have DO:l.getD i ⟨[],0,[],[],false⟩=Y:=by rw [List.getD_eq_getElem?_getD,hY];rfl
 rw [DO]
 have Ed:(l.map FX.av)[i]? = some Y.av:=by rw [List.getElem?_map,hY];rfl
 have GJ:∀ Z∈l.set i (Y.bQ on),bh Z:=zx hg (hgs Y (List.mem_of_getElem? hY) on)
 have Cn:(l.set i (Y.bQ on)).length=l.length:=List.length_set
 simp only [SS,Nat.reduceAdd,lF aN]
 rw [cE (n:=1) (v := .bool on) (els:=l.map FX.av) (el:=Y.av) (k:=5) (by simp [aa.put]) Ed rfl (show 4+1<=5 by decide) rfl,show Y.av.s9 4 (AV.bool on).cells=(Y.bQ on).av from rfl,map_set]
 simp only [SS,Nat.reduceAdd]
 rw [<- Cn]
 refine kA (id:=5::3::p) (bk:=⟨(l.set i (Y.bQ on)).map FX.av,5,false⟩) (H.change hid ls now l (l.set i (Y.bQ on)) _ hl xD (by omega) (by omega) hg GJ (fun q=>bY [q,_])) (dX (l:=l.set i (Y.bQ on)) (by simp [aa.of])) GK wL (by simp [aa.put]) (by simp [aa.put,GK.symm,bF]) ?_
 simp only [SS,Nat.reduceAdd]
 exact aU▸aA rfl (gg qt (by simp [aa.put,aa.app,rm,GK.symm,bF]))
theorem Jk (h:Has P f eX) {hid:Id} {ls:List (List FX)} {now:Nat} (hb:now<=1000000) (p:Id) :
   aB P G f [.ref hid 0 0] p [(hid,fY ls now)] { val := .bool (decide (now≠0)),rd:=[hid],up:=if now=0 then [] else [(hid,some (fY ls (now-1)))] }:=by
 have e1:∀ o,gi (aa.of [(hid,fY ls now)]) false 1 (.ref hid 0 o)=(part false (bn ls now).cells o 1).map fun v=>{ val:=v,rd:=[hid] }:=fun o=>MN bF
 refine aB.has h ?_
 simp only [eX,SS,Nat.reduceAdd,e1,kt]
 by_cases h0:now=0
 . rw [an (by omega:(now:Int)=0),if_pos h0,ak (by omega : ¬ now≠0)]
   simp only [SS,Nat.reduceAdd]
   exact aU▸aA rfl fun i => .inr rfl
 . rw [ak (by omega : ¬ (now:Int)=0),if_neg h0,an (by omega:now≠0)]
   simp only [SS,Nat.reduceAdd,e1,kt,wK h0 hb]
   rw [fN (x:=bn ls now) (y:=bn ls (now-1)) (k:=2) (σ := aa.of [(hid,fY ls now)]) (id:=hid) (bF (b:=fY ls now)) rfl rfl (show 1+1<=2 by decide) rfl]
   simp only [SS,Nat.reduceAdd]
   exact aU▸aA rfl fun i => .inr rfl
theorem Jl (h:Has P f gE) {hid:Id} {ls:List (List FX)} {now:Nat} (hb:ls.length<=1000000) (aN:now<ls.length) (p:Id) :
   aB P G f [.ref hid 0 0] p [(hid,fY ls now)] { val := .bool (decide (now+1≠ls.length)),rd:=[hid],up:=if now+1=ls.length then [] else [(hid,some (fY ls (now+1)))] }:=by
 have e1:∀ o,gi (aa.of [(hid,fY ls now)]) false 1 (.ref hid 0 o)=(part false (bn ls now).cells o 1).map fun v=>{ val:=v,rd:=[hid] }:=fun o=>MN bF
 refine aB.has h ?_
 simp only [gE,SS,DD,Nat.reduceAdd,e1,kt,sY,Je,wK (show ls.length≠0 by omega) hb]
 refine ⟨by simp [ar], ?_⟩
 by_cases h0:now+1=ls.length
 . rw [an (by omega:(now:Int)=((ls.length-1:Nat):Int)),if_pos h0,ak (by omega : ¬ now+1≠ls.length)]
   simp only [SS,Nat.reduceAdd]
   exact aU▸aA rfl fun i => .inr rfl
 . rw [ak (by omega : ¬ (now:Int)=((ls.length-1:Nat):Int)),if_neg h0,an (by omega:now+1≠ls.length)]
   simp only [SS,Nat.reduceAdd,e1,kt,aq now (by omega)]
   rw [fN (x:=bn ls now) (y:=bn ls (now+1)) (k:=2) (σ := aa.of [(hid,fY ls now)]) (id:=hid) (bF (b:=fY ls now)) rfl rfl (show 1+1<=2 by decide) rfl]
   simp only [SS,Nat.reduceAdd]
   exact aU▸aA rfl fun i => .inr rfl
end
end Go.VL
end

section
set_option linter.unusedVariables false
set_option linter.unusedVariables false
namespace Go.VL
theorem DK {l:List FX} {nm:List UInt8}:dq l nm<0↔nm ∉ cd l:=by
 unfold dq cd
 cases h:l.findIdx? fun X=>X.name==nm with
 | none =>
   have:=List.findIdx?_eq_none_iff.1 h
   constructor
   . intro _ hm
     obtain ⟨X,hX,rfl⟩:=List.mem_map.1 hm
     have:=this X hX
     simp at this
   . intro _;show xT none<0;decide
 | some i =>
   have:=List.findIdx?_eq_some_iff_getElem.1 h
   obtain ⟨hi,hp,_⟩:=this
   constructor
   . intro hn;exact absurd hn (by show ¬ ((i:Int)<0);omega)
   . intro hn
     exact absurd (List.mem_map.2 ⟨l[i],List.getElem_mem hi,by simpa using hp⟩) hn
theorem s7 {l:List FX} {nm:List UInt8} {i:Nat} (h:dq l nm=(i:Int)):∃ X,l[i]? = some X/\X.name=nm:=by
 unfold dq at h
 cases hf:l.findIdx? fun X=>X.name==nm with
 | none=>rw [hf] at h;simp [xT] at h<;>omega
 | some k =>
   rw [hf] at h
   simp only [xT] at h
   obtain rfl:k=i:=by omega
   obtain ⟨hi,hp,_⟩:=List.findIdx?_eq_some_iff_getElem.1 hf
   exact ⟨l[k],List.getElem?_eq_getElem hi,by simpa using hp⟩
def Jm (l:List FX):Prop:=∀ X∈l,X.valid=true
theorem Ft {l:List FX} {i:Nat} {X:FX} (hX:l[i]? = some X):xv l i=true↔∀ n∈ec X,n∈cd (l.take i):=by
 unfold xv
 rw [hX]
 simp only [List.all_eq_true]
 constructor
 . intro h n hn
   have:=h n hn
   by_cases hm:n∈cd (l.take i)
   . exact hm
   . rw [an (DK.2 hm)] at this;cases this
 . intro h n hn
   rw [ak (fun hp=>DK.1 hp (h n hn))];rfl
theorem Jn {l:List FX} {i:Nat} {X:FX} (hX:l[i]? = some X):BU l i=true↔X.valid=true/\X.name ∉ cd (l.take i)/\∀ n∈ec X,n∈cd (l.take i):=by
 unfold BU
 rw [hX]
 simp only [Bool.and_eq_true,List.all_eq_true,Bool.not_eq_true',List.contains_iff_mem,and_assoc]
 constructor
 . rintro ⟨h1,h2,h3⟩
   exact ⟨h1,by simpa using h2,h3⟩
 . rintro ⟨h1,h2,h3⟩
   exact ⟨h1,by simpa using h2,h3⟩
theorem Jo {l:List FX}:pC l=true↔∀ i X,l[i]? = some X->∀ n∈ec X,n∈cd (l.take i):=by
 unfold pC
 rw [List.all_eq_true]
 constructor
 . intro h i X hX
   exact (Ft hX).1 (h i (List.mem_range.2 (List.getElem?_eq_some_iff.1 hX).1))
 . intro h i hi
   have jf:=List.mem_range.1 hi
   exact (Ft (List.getElem?_eq_getElem jf)).2 (h i _ (List.getElem?_eq_getElem jf))
theorem mN {l:List FX}:ek l=true↔(∀ i X,l[i]? = some X->X.valid=true/\X.name ∉ cd (l.take i)/\∀ n∈ec X,n∈cd (l.take i))/\l.length<=200:=by
 unfold ek
 rw [Bool.and_eq_true,List.all_eq_true,decide_eq_true_eq]
 constructor
 . rintro ⟨h,h2⟩
   exact ⟨fun i X hX=>(Jn hX).1 (h i (List.mem_range.2 (List.getElem?_eq_some_iff.1 hX).1)),h2⟩
 . rintro ⟨h,h2⟩
   refine ⟨fun i hi => ?_,h2⟩
   have jf:=List.mem_range.1 hi
   exact (Jn (List.getElem?_eq_getElem jf)).2 (h i _ (List.getElem?_eq_getElem jf))
theorem nodup_iff {l:List FX}:(cd l).Nodup↔∀ i X,l[i]? = some X->X.name ∉ cd (l.take i):=by
 induction l with
 | nil=>simp [cd]
 | cons Y l ih =>
   have e:cd (Y::l)=Y.name::cd l:=rfl
   rw [e,List.nodup_cons,ih]
   constructor
   . rintro ⟨h1,h2⟩ i X hX
     cases i with
     | zero=>simp [cd]
     | succ i =>
       have hX':l[i]? = some X:=by simpa using hX
       show X.name ∉ Y.name::cd (l.take i)
       rw [List.mem_cons,not_or]
       exact ⟨fun he=>h1 (he▸List.mem_map.2 ⟨X,List.mem_of_getElem? hX',rfl⟩),h2 i X hX'⟩
   . intro h
     refine ⟨fun hm => ?_,fun i X hX => ?_⟩
     . obtain ⟨X,hX,he⟩:=List.mem_map.1 hm
       obtain ⟨i,hi,rfl⟩:=List.getElem_of_mem hX
       refine h (i+1) l[i] (by simp [hi]) ?_
       show l[i].name∈Y.name::cd (l.take i)
       rw [he];exact List.mem_cons_self
     . have:=h (i+1) X (by simpa using hX)
       exact fun hm=>this (List.mem_cons_of_mem _ hm)
theorem uy {l:List FX} (hv:Jm l) (hn:(cd l).Nodup) (hl:l.length<=200):ek l=pC l:=by
 by_cases h:pC l=true
 . rw [h,mN]
   exact ⟨fun i X hX=>⟨hv X (List.mem_of_getElem? hX),nodup_iff.1 hn i X hX,Jo.1 h i X hX⟩,hl⟩
 . rw [Bool.not_eq_true] at h
   rw [h]
   cases hL:ek l
   . rfl
   . exact absurd (Jo.2 fun i X hX=>((mN.1 hL).1 i X hX).2.2) (by rw [h];decide)
theorem Jp {l:List FX} (h:ek l=true):Jm l:=fun X hX=>by
 obtain ⟨i,hi,rfl⟩:=List.getElem_of_mem hX
 exact ((mN.1 h).1 i _ (List.getElem?_eq_getElem hi)).1
theorem Jq {l:List FX} (h:ek l=true):(cd l).Nodup:=nodup_iff.2 fun i X hX=>((mN.1 h).1 i X hX).2.1
theorem iD {l:List FX} (h:ek l=true):l.length<=200:=(mN.1 h).2
theorem Fu {l:List FX} {i:Nat} {X Y:FX} (hY:l[i]? = some Y) (h:X.name=Y.name):cd (l.set i X)=cd l:=by
 unfold cd
 rw [List.map_set,h]
 exact DC (by rw [List.getElem?_map,hY];rfl)
theorem OC (l m:List FX):cd (l++m)=cd l++cd m:=List.map_append ..
theorem Jr {l:List FX} {i:Nat} {X:FX} (hX:l[i]? = some X):List.Perm l (X::gh l i):=by
 obtain ⟨hi,rfl⟩:=List.getElem?_eq_some_iff.1 hX
 unfold gh
 have e:l=l.take i++l[i]::l.drop (i+1):=by
   rw [<- List.drop_eq_getElem_cons hi,List.take_append_drop]
 conv=>lhs;rw [e]
 exact List.perm_middle
theorem Sr (m:List FX) (j:Nat) (X:FX):List.Perm (oH m j X) (X::m):=by
 unfold oH
 rw [List.append_assoc]
 refine (List.perm_middle (l₁:=m.take j) (a:=X) (l₂:=m.drop j)).trans ?_
 rw [List.take_append_drop]
theorem DL {l m:List FX} (h:List.Perm l m) (hn:(cd l).Nodup):(cd m).Nodup:=(h.map _).nodup_iff.1 hn
theorem UZ {l:List FX} {i:Nat} {X Y:FX} (hY:l[i]? = some Y):oH (gh l i) i X=l.set i X:=by
 obtain ⟨hi,rfl⟩:=List.getElem?_eq_some_iff.1 hY
 unfold oH gh
 have h1:(l.take i).length=i:=by rw [List.length_take];omega
 rw [List.take_left' h1,List.drop_left' h1,List.set_eq_take_append_cons_drop,if_pos hi,List.append_assoc]
 rfl
theorem KX {l:List FX} {i:Nat} {Y:FX} {b:Bool} (hY:l[i]? = some Y) (h:ek l=true):ek (l.set i (Y.bQ b))=true:=by
 have hn:∀ k,cd ((l.set i (Y.bQ b)).take k)=cd (l.take k):=fun k=>by
   have:=Fu (X:=Y.bQ b) hY rfl
   unfold cd at this ⊢
   rw [List.map_take,List.map_take,this]
 rw [mN]
 refine ⟨fun k X hX => ?_,by rw [List.length_set];exact iD h⟩
 rw [hn]
 by_cases hk:k=i
 . subst hk
   rw [List.getElem?_set_self (List.getElem?_eq_some_iff.1 hY).1] at hX
   simp only [Option.some.injEq] at hX;subst hX
   exact (mN.1 h).1 k Y hY
 . rw [List.getElem?_set_ne (Ne.symm hk)] at hX
   exact (mN.1 h).1 k X hX
end Go.VL
end

section
set_option linter.unusedVariables false
set_option linter.unusedVariables false
namespace Go.VL
def zF:AV := .agg [.str [], .int .i64 0, .nils, .nils, .bool false]
theorem aer {σ : aa} {id:Id} {n i:Nat} (h:i<n):∃ v,kO σ 5 (.osl id 5 0 n false) (some (.int .i64 (i:Int))) (some (.int .i64 ((i+1:Nat):Int))) (some (.int .i64 (n:Int))) (bZ 5 (.osl id 5 0 n false) (some (.int .i64 (i:Int))) (some (.int .i64 ((i+1:Nat):Int))) (some (.int .i64 (n:Int))))=some { val:=v }:=by
 have hb:cN n (some (.int .i64 (i:Int))) (some (.int .i64 ((i+1:Nat):Int)))=some (i,i+1):=by
   unfold cN
   simp only [dY]
   rw [if_pos ⟨by omega,by omega⟩]
   simp only [Int.toNat_natCast]
   rw [if_pos ⟨by omega,by omega⟩]
 unfold bZ
 simp only [hb,if_true,Option.isNone_some,Bool.false_eq_true,if_false]
 split
 . exact ⟨_,rfl⟩
 . refine ⟨.top, ?_⟩
   simp only [kO,O4,if_true,hb]
   rw [if_pos ⟨by omega,by omega⟩]
theorem Ss {id:Id} {n j:Nat} (h0:0<j) (h:j<n):bZ 5 (.osl id 5 0 n false) (some (.int .i64 (j:Int))) none none=some (.osl id 5 j (n-j) false):=by
 simp [bZ,cN,dY,Nat.le_of_lt h,Nat.ne_of_gt h0,Nat.ne_of_lt h]
theorem MP {id:Id} {n:Nat} (h0:0<n):bZ 5 (.osl id 5 0 n false) (some (.int .i64 (n:Int))) none none=some (.sl 5 []):=by
 simp [bZ,cN,dY,Nat.ne_of_gt h0]
theorem zy {id:Id} {n j:Nat} (h:j<n):bZ 5 (.osl id 5 0 n false) (some (.int .i64 (j:Int))) none none=some (.osl id 5 j (n-j) false):=by
 rcases Nat.eq_zero_or_pos j with rfl | hp
 . simp [bZ,cN,dY]
 . exact Ss hp h
theorem U0 {id:Id} {n j:Nat} (h:j<=n):∃ v,bZ 5 (.osl id 5 0 n false) (some (.int .i64 (j:Int))) none none=some v:=by
 rcases Nat.lt_or_ge j n with h1 | h1
 . exact ⟨_,zy h1⟩
 . obtain rfl:j=n:=by omega
   rcases Nat.eq_zero_or_pos j with rfl | hp
   . exact ⟨.osl id 5 0 0 false,by simp [bZ,cN,dY]⟩
   . exact ⟨_,MP hp⟩
theorem Yg {σ : aa} {id:Id} {n h:Nat} {bk:dF} (hσ : σ id=some bk) (hk:bk.k=5) (hl:bk.els.length=h) (hn:n<h) :
   kO σ 5 (.osl id 5 0 n false) none (some (.int .i64 (h:Int))) none (bZ 5 (.osl id 5 0 n false) none (some (.int .i64 (h:Int))) none)=some { val := .osl id 5 0 h false,rd:=[id] }:=by
 have e:bZ 5 (.osl id 5 0 n false) none (some (.int .i64 (h:Int))) none=none:=by
   simp [bZ,cN,dY,show ¬ h<=n by omega]
 rw [e]
 simp [kO,hσ,hk,hl,bZ,cN,dY]
theorem Js {σ : aa} {id:Id} {n m:Nat} {bk:dF} (hσ : σ id=some bk) (hk:bk.k=5) (hm:m=n+1) (hl:bk.els.length=n+1) :
   kO σ 5 (.osl id 5 0 n false) (some (.int .i64 (n:Int))) (some (.int .i64 (m:Int))) none (bZ 5 (.osl id 5 0 n false) (some (.int .i64 (n:Int))) (some (.int .i64 (m:Int))) none)=some { val := .osl id 5 n 1 false,rd:=[id] }:=by
 subst hm
 have hle : ¬ ((n:Int)+1<=n):=by omega
 have h0:(0:Int)<=(n:Int)+1:=by omega
 have h1:((n:Int)+1).toNat=n+1:=by omega
 have e:bZ 5 (.osl id 5 0 n false) (some (.int .i64 (n:Int))) (some (.int .i64 ((n+1:Nat):Int))) none=none:=by
   simp [bZ,cN,dY,hle]
 rw [e]
 rcases Nat.eq_zero_or_pos n with rfl | hp
 . simp [kO,hσ,hk,hl,bZ,cN,dY]
 . have hn:(n:Int)<=(n:Int)+1:=by omega
   have e1:n+1-n=1:=by omega
   simp [kO,hσ,hk,hl,bZ,cN,dY,h0,h1,hn,Nat.ne_of_gt hp,e1]
theorem St {σ : aa} {p id:Id} {E:List AV} {n i:Nat} (h : σ id=some ⟨E,5,false⟩) (hE:E.length=n) (hi:i+1<n) (hn:n<=1000) (h1:(E.all fun e=>e.cells.all AV.one)=true) :
   cg σ p 5 80 (.osl id 5 0 i false) (.osl id 5 (i+1) (n-(i+1)) false)=some { val := .osl id 5 0 (n-1) false,rd:=[id,id],up:=[(id,some ⟨E.take i++E.drop (i+1)++E.drop (n-1),5,false⟩)] }:=by
 have hys:(E.drop (i+1)).take (n-(i+1))=E.drop (i+1):=List.take_of_length_le (by rw [List.length_drop];omega)
 have hyl:(E.drop (i+1)).length=n-(i+1):=by rw [List.length_drop];omega
 have bY:(E.drop (i+1)).isEmpty=false:=by
   cases hc:E.drop (i+1) with
   | nil=>rw [hc] at hyl;simp at hyl;omega
   | cons _ _=>rfl
 have ha:((E.drop (i+1)).all fun e=>e.cells.all AV.one)=true:=by
   rw [List.all_eq_true] at h1 ⊢;exact fun e he=>h1 e (List.mem_of_mem_drop he)
 have e2:i+(n-(i+1))=n-1:=by omega
 unfold cg
 rw [jI h rfl (by simp;omega)]
 simp only [hys,bY,h,hyl,ha,e2,Bool.false_eq_true,if_false]
 rw [if_pos ⟨trivial,trivial,trivial,by omega,by omega,cO (by omega),trivial⟩,if_neg (by omega),if_pos ⟨by omega,trivial⟩]
theorem Jt {σ : aa} {id:Id} {E:List AV} {n:Nat} (h : σ id=some ⟨E,5,false⟩) (hE:E.length=n+1):xx σ 5 (.agg [.str [], .int .i64 0, .nils, .nils, .bool false]) (.osl id 5 n 1 false)=some { val := .tup [],rd:=[id],up:=[(id,some ⟨E.take n++[zF],5,false⟩)] }:=by
 have hd:E.drop (n+1)=[]:=List.drop_of_length_le (by omega)
 simp [xx,uB,h,hE,hd,AV.size,AV.cells,AV.one,zF]
theorem OD {σ : aa}:dD σ 5 (.sl 5 [])=some ([],[]):=rfl
section
variable {P:Program} {G:Nat->Option (List AV)}
set_option maxHeartbeats 1000000 in
theorem Fv {f:FuncId} (h:Has P f bB) {id:Id} {l:List FX} {i:Nat} (hi:i<l.length) (hl:l.length<=1000) (p:Id) :
   aB P G f [.osl id 5 0 l.length false, .int .i64 (i:Int), .int .i64 ((i+1:Nat):Int)] p [(id,⟨l.map FX.av,5,false⟩)]
     { val := .osl id 5 0 (l.length-1) false,rd:=[id],up:=[(id,some ⟨(gh l i).map FX.av++[zF],5,false⟩)] }:=by
 refine aB.has h ?_
 obtain ⟨v13,aes⟩:=aer (σ := aa.of [(id,⟨l.map FX.av,5,false⟩)]) (id:=id) hi
 have d0:decide ((i:Int)=((i+1:Nat):Int))=false:=ak (by omega)
 have pK:aa.of [(id,⟨l.map FX.av,5,false⟩)] id=some ⟨l.map FX.av,5,false⟩:=bF
 have QF:l.length-1+1=l.length:=by omega
 simp only [bB,SS,DD,Nat.reduceAdd,aes,d0,Dc (Nat.le_of_lt hi)]
 have h1:=ny l
 by_cases hj:i+1=l.length
 . have e25:bZ 5 (.osl id 5 0 l.length false) (some (.int .i64 ((i+1:Nat):Int))) none none=some (.sl 5 []):=by rw [hj];exact MP (by omega)
   simp only [e25,SS,DD,Nat.reduceAdd,lN OD]
   refine ⟨by simp [ar], ?_⟩
   have ht:=Js (σ := aa.of [(id,⟨l.map FX.av,5,false⟩)]) (id:=id) (n:=i) (m:=l.length) bF rfl hj.symm (by simp [hj])
   simp only [SS,Nat.reduceAdd,ht]
   rw [Jt bF (by simp [hj])]
   simp only [SS,Nat.reduceAdd]
   refine aU▸aA ?_ fun i' => ?_
   . simp only [RS,bU,cy,show l.length-1=i by omega]
   . right
     have e:(gh l i).map FX.av++[zF]=(l.map FX.av).take i++[zF]:=by
       unfold gh
       rw [List.drop_of_length_le (show l.length<=i+1 by omega),List.append_nil,List.map_take]
     rw [e]
     rfl
 . rw [Ss (Nat.succ_pos i) (show i+1<l.length by omega)]
   simp only [SS,DD,Nat.reduceAdd]
   rw [St (n:=l.length) bF (by simp) (by omega) hl h1]
   simp only [SS,DD,Nat.reduceAdd]
   refine ⟨by simp [ar], ?_⟩
   have hE:((l.map FX.av).take i++(l.map FX.av).drop (i+1)++(l.map FX.av).drop (l.length-1)).length=l.length-1+1:=by simp;omega
   rw [Js (m:=l.length) (aa.bd _ _ _) rfl QF.symm hE]
   simp only [SS,Nat.reduceAdd]
   rw [Jt (aa.bd _ _ _) hE]
   simp only [SS,Nat.reduceAdd]
   refine aU▸aA rfl fun i' => ?_
   right
   have e:(gh l i).map FX.av++[zF]=((l.map FX.av).take i++(l.map FX.av).drop (i+1)++(l.map FX.av).drop (l.length-1)).take (l.length-1)++[zF]:=by
     have hx:((l.map FX.av).take i++(l.map FX.av).drop (i+1)).length=l.length-1:=by simp;omega
     rw [List.take_left' hx]
     unfold gh
     rw [List.map_append,List.map_take,List.map_drop]
   rw [e]
   by_cases q:i'=id
   . subst q;simp [aa.app,aa.put]
   . simp [aa.app,aa.put,q]
end
end Go.VL
end

section
set_option linter.unusedVariables false
set_option linter.unusedVariables false
namespace Go.VL
theorem Su {A:List AV} {z x:AV} {j:Nat} (hj:j<A.length) :
   (((A++[z]).take (j+1)++((A++[z]).drop j).take (A.length-j)++(A++[z]).drop (j+1+(A.length-j))).take j)++[x]++(((A++[z]).take (j+1)++((A++[z]).drop j).take (A.length-j)++(A++[z]).drop (j+1+(A.length-j))).drop (j+1))=A.take j++[x]++A.drop j:=by
 have h1:(A++[z]).drop (j+1+(A.length-j))=[]:=List.drop_of_length_le (by simp;omega)
 have h2:(A++[z]).take (j+1)=A.take (j+1):=List.take_append_of_le_length (by omega)
 have h3:(A++[z]).drop j=A.drop j++[z]:=List.drop_append_of_le_length (by omega)
 have h4:(A.drop j++[z]).take (A.length-j)=A.drop j:=List.take_left' (by simp)
 have h5:(A.take (j+1)).length=j+1:=by rw [List.length_take];omega
 rw [h1,h2,h3,h4,List.append_nil,List.drop_left' h5,List.take_append_of_le_length (by omega),List.take_take,Nat.min_eq_left (by omega)]
theorem J0 {σ : aa} {p id q:Id} {A:List AV} {z:AV} {X:FX} (h : σ id=some ⟨A++[z],5,false⟩) (hq : σ q=some ⟨[X.av],5,false⟩) (hA:A.length<=1000) :
   cg σ p 5 80 (.osl id 5 0 A.length false) (.osl q 5 0 1 false)=some { val := .osl id 5 0 (A.length+1) false,rd:=[id,q],up:=[(id,some ⟨A++[X.av],5,false⟩)] }:=by
 have h1:([X.av].all fun e=>e.cells.all AV.one)=true:=ny [X]
 unfold cg
 rw [oJ hq]
 simp only [h,h1,List.isEmpty_cons,Bool.false_eq_true,if_false,List.length_cons,List.length_nil,List.length_append]
 rw [if_pos ⟨trivial,trivial,trivial,by omega,by omega,cO (by omega),trivial⟩,if_neg (by omega),if_pos ⟨by omega,trivial⟩]
 have e:(A++[z]).take A.length++[X.av]++(A++[z]).drop (A.length+(0+1))=A++[X.av]:=by
   rw [List.take_left' rfl,List.drop_of_length_le (by simp),List.append_nil]
 simp only [e,Nat.zero_add]
theorem U1 {σ : aa} {id:Id} {n:Nat} {bk:dF} (h : σ id=some bk):ye σ (.osl id 5 0 n false) (MV (.osl id 5 0 n false))=some { val := .ige bk.els.length,rd:=[id] }:=by
 simp [ye,MV,h]
theorem U2 {a n:Nat} (h:a<=n):br .gtr .int (.int .i64 (a:Int)) (.ige n)=some (.bool false):=by
 simp [br,kZ,K5,h]
theorem Yh {σ : aa} {id q:Id} {o1 l1 o2 l2:Nat} {b1 b2:dF} (bY:q≠id) (h1 : σ q=some b1) (h2 : σ id=some b2) (hk:0<b2.k) (hl:0<b2.els.length):GM σ (.osl q 5 o1 l1 false) (.osl id 5 o2 l2 false)=some { val := .bool false,rd:=[q,id] }:=by
 simp [GM,bY,h1,h2,hk,hl]
theorem OE {σ : aa} {id:Id} {E:List AV} {n j:Nat} (h : σ id=some ⟨E,5,false⟩) (hE:E.length=n+1) (hj:j<n) (h1:(E.all fun e=>e.cells.all AV.one)=true) :
   yd σ 5 (.osl id 5 (j+1) (n+1-(j+1)) false) (.osl id 5 j (n+1-j) false)=some { val := .int .i64 ((n-j:Nat):Int),rd:=[id,id],up:=[(id,some ⟨E.take (j+1)++(E.drop j).take (n-j)++E.drop (j+1+(n-j)),5,false⟩)] }:=by
 have e1:((E.drop j).take (n+1-j)).take (n+1-(j+1))=(E.drop j).take (n-j):=by
   rw [List.take_take,Nat.min_eq_left (by omega)];congr 1;omega
 have hl:((E.drop j).take (n-j)).length=n-j:=by rw [List.length_take,List.length_drop];omega
 have bY:((E.drop j).take (n-j)).isEmpty=false:=by
   cases hc:(E.drop j).take (n-j) with
   | nil=>rw [hc] at hl;simp at hl;omega
   | cons _ _=>rfl
 have ha:(((E.drop j).take (n-j)).all fun e=>e.cells.all AV.one)=true:=by
   rw [List.all_eq_true] at h1 ⊢;exact fun e he=>h1 e (List.mem_of_mem_drop (List.mem_of_mem_take he))
 unfold yd
 rw [jI h rfl (by simp;omega)]
 simp only [e1,bY,uB,h,hl,ha,if_true,Bool.false_eq_true,if_false]
 rw [if_pos ⟨trivial,by omega,trivial,trivial⟩]
theorem Sv {σ : aa} {id q:Id} {E:List AV} {n j:Nat} {X:FX} (h : σ id=some ⟨E,5,false⟩) (hq : σ q=some ⟨[X.av],5,false⟩) (hE:E.length=n+1) (hj:j<n) :
   yd σ 5 (.osl id 5 j (n+1-j) false) (.osl q 5 0 1 false)=some { val := .int .i64 1,rd:=[id,q],up:=[(id,some ⟨E.take j++[X.av]++E.drop (j+1),5,false⟩)] }:=by
 have h1:([X.av].all fun e=>e.cells.all AV.one)=true:=ny [X]
 have e1:[X.av].take (n+1-j)=[X.av]:=List.take_of_length_le (by simp;omega)
 unfold yd
 rw [oJ hq]
 simp only [e1,uB,h,h1,List.isEmpty_cons,if_true,Bool.false_eq_true,if_false,List.length_cons,List.length_nil]
 rw [if_pos ⟨trivial,by omega,trivial,trivial⟩]
 rfl
section
variable {P:Program} {G:Nat->Option (List AV)}
set_option maxHeartbeats 2000000 in
theorem OG {f fr:FuncId} (h:Has P f (bV fr)) {id q:Id} {M:List FX} {j:Nat} {X:FX} (hj:j<=M.length) (hM:M.length<=1000) (hq:q≠id) (p:Id) :
   aB P G f [.osl id 5 0 M.length false, .int .i64 (j:Int), .osl q 5 0 1 false] p [(id,⟨M.map FX.av++[zF],5,false⟩),(q,⟨[X.av],5,false⟩)]
     { val := .osl id 5 0 (M.length+1) false,rd:=[id,q],up:=[(id,some ⟨(oH M j X).map FX.av,5,false⟩)] }:=by
 refine aB.has h ?_
 generalize hA:M.map FX.av=A
 have hAl:A.length=M.length:=by rw [<- hA,List.length_map]
 have abf:(oH M j X).map FX.av=A.take j++[X.av]++A.drop j:=by
   unfold oH;rw [<- hA];simp
 have hA1:((A++[zF]).all fun e=>e.cells.all AV.one)=true:=by
   rw [<- hA,List.all_append,ny];rfl
 rw [abf]
 rw [<- hAl] at hj hM ⊢
 clear abf hAl hA
 have s1:aa.of [(id,⟨A++[zF],5,false⟩),(q,⟨[X.av],5,false⟩)] id=some ⟨A++[zF],5,false⟩:=by simp [aa.of]
 have s2:aa.of [(id,⟨A++[zF],5,false⟩),(q,⟨[X.av],5,false⟩)] q=some ⟨[X.av],5,false⟩:=by
   have hb:(q==id)=false:=by simpa using hq
   simp [aa.of,List.lookup_cons,hb]
 obtain ⟨v12,aet⟩:=U0 (id:=id) hj
 have d1:decide (((1:Nat):Int)=0)=false:=rfl
 have w1:IntKind.i64.wrap ((A.length:Int)+((1:Nat):Int))=((A.length+1:Nat):Int):=aq A.length (by omega)
 have w2:IntKind.i64.wrap ((j:Int)+((1:Nat):Int))=((j+1:Nat):Int):=aq j (by omega)
 simp only [bV,SS,Nat.reduceAdd,aet,d1]
 by_cases JL:j=A.length
 . rw [an (by omega:(j:Int)=(A.length:Int))]
   simp only [SS,Nat.reduceAdd]
   rw [J0 s1 s2 hM]
   simp only [SS,Nat.reduceAdd]
   refine aU▸aA rfl fun i => ?_
   right
   rw [JL,List.take_length,List.drop_length,List.append_nil]
   rfl
 rw [ak (by omega : ¬ (j:Int)=(A.length:Int))]
 have aN:j<A.length:=by omega
 have g1:=U2 (a:=A.length+1) (n:=(A++[zF]).length) (by simp)
 have u1:=Yg (n:=A.length) (h:=A.length+1) s1 rfl (by simp) (by omega)
 simp only [SS,Nat.reduceAdd,w1,U1 s1,g1,u1,w2]
 rw [zy (show j+1<A.length+1 by omega)]
 simp only [SS,Nat.reduceAdd]
 rw [Yh hq s2 s1 (show 0<5 by decide) (by simp)]
 simp only [SS,DD,Nat.reduceAdd,w2]
 rw [zy (show j+1<A.length+1 by omega)]
 simp only [SS,DD,Nat.reduceAdd]
 rw [zy (show j<A.length+1 by omega)]
 simp only [SS,DD,Nat.reduceAdd]
 rw [OE s1 (by simp) aN hA1]
 simp only [SS,DD,Nat.reduceAdd]
 refine ⟨by simp [ar], ?_⟩
 have mR:((A++[zF]).take (j+1)++((A++[zF]).drop j).take (A.length-j)++(A++[zF]).drop (j+1+(A.length-j))).length=A.length+1:=by simp;omega
 rw [zy (show j<A.length+1 by omega)]
 simp only [SS,Nat.reduceAdd]
 rw [Sv (n:=A.length) (X:=X) (aa.bd _ _ _) (by rw [aa.bj _ _ _ hq];exact s2) mR aN,Su aN]
 simp only [SS,Nat.reduceAdd]
 refine aU▸aA rfl fun i => ?_
 right
 by_cases e:i=id
 . subst e;simp [aa.app,aa.put]
 . simp [aa.app,aa.put,e]
end
end Go.VL
end

section
set_option linter.unusedVariables false
set_option linter.unusedVariables false
namespace Go.VL
theorem Fw {σ : aa} {id:Id} {m:List FX} {r:List AV} {t:Bool} {n:Nat} (hn:n=m.length) (h : σ id=some ⟨m.map FX.av++r,5,false⟩):View σ (.osl id 5 0 n t) (du m):=by
 subst hn
 refine View.osl (bk:=⟨m.map FX.av++r,5,false⟩) h rfl (by simp) ?_ (by simp) (fun d hd => ?_)
 . have e:((m.map FX.av++r).drop 0).take m.length=m.map FX.av:=by
     rw [List.drop_zero,List.take_left' (by simp)]
   simp only [e]
   refine aY.pure fun c hc => ?_
   simp only [flat,List.mem_flatMap] at hc
   obtain ⟨v,hv,hc⟩:=hc
   obtain ⟨y,_,rfl⟩:=List.mem_map.1 hv
   exact FX.j7 y c hc
 . obtain ⟨y,_,rfl⟩:=List.mem_map.1 hd
   rfl
section
variable {P:Program} {G:Nat->Option (List AV)} {π : Id} {base:Nat} {Q:cH->VS->Prop} {n:Nat} {d:Option Nat} {os:List bu} {i:Nat} {t:List AV} {σ : aa}
theorem Ju {f:FuncId} {m:List FX} {r0:List AV} {id:Id} {tt:Bool} {k0:Nat} {r:AV} (h:VP P G f [du m] r) (hn:k0=m.length) (hf:cj r) (hσ : σ id=some ⟨m.map FX.av++r0,5,false⟩) (k:vs P G π base Q n os (i+1) (fK t d r) σ):pM P G π base Q n d os i t σ f [.osl id 5 0 k0 tt] :=
 iJ [(id,⟨m.map FX.av++r0,5,false⟩)] h (aY.cons (Fw (r:=r0) hn (by simp [aa.of])) .nil) hf (fun x hx=>by rw [List.mem_singleton] at hx;subst hx;exact hσ) k
end
noncomputable def Jv (hid:Id) (ls:List (List FX)) (now:Nat) (l:List FX) (nm:List UInt8):Int × List (Id × Option dF) :=
 if dq l nm<0 then (4,[]) else if pC (gh l (dq l nm).toNat)=true then (0,DJ hid ls now l (gh l (dq l nm).toNat)) else (14,[])
noncomputable def Bt (hid:Id) (ls:List (List FX)) (now:Nat) (l:List FX) (nm:List UInt8) (pH:Int):Int × List (Id × Option dF) :=
 if pH<0∨(l.length:Int)<=pH then (1,[]) else if dq l nm<0 then (4,[]) else
   let m:=oH (gh l (dq l nm).toNat) pH.toNat (l.getD (dq l nm).toNat ⟨[],0,[],[],false⟩)
   if pC m=true then (0,DJ hid ls now l m) else (14,[])
theorem qu {bh:FX->Prop} {l:List FX} {i:Nat} (hg:∀ Y∈l,bh Y):∀ Y∈gh l i,bh Y:=by
 intro Y hY
 unfold gh at hY
 rcases List.mem_append.1 hY with h | h
 . exact hg Y (List.mem_of_mem_take h)
 . exact hg Y (List.mem_of_mem_drop h)
theorem zA {bh:FX->Prop} {m:List FX} {j:Nat} {X:FX} (hg:∀ Y∈m,bh Y) (hX:bh X):∀ Y∈oH m j X,bh Y:=by
 intro Y hY
 unfold oH at hY
 simp only [List.mem_append,List.mem_singleton] at hY
 rcases hY with (h | h) | h
 . exact hg Y (List.mem_of_mem_take h)
 . rw [h];exact hX
 . exact hg Y (List.mem_of_mem_drop h)
theorem szR {m:List FX}:∀ e∈m.map FX.av++[zF],e.size=5:=by
 intro e he
 rcases List.mem_append.1 he with h | h
 . exact wL e h
 . rw [List.mem_singleton] at h;subst h;rfl
section
variable {P:Program} {G:Nat->Option (List AV)} {bh:FX->Prop} {f fp fv ff fc Av fs yc fd abg:FuncId}
set_option maxHeartbeats 4000000 in
theorem U3 (h:Has P f (fU fp fc ff fd fs yc)) (hd:Has P fd bB) (H:HH P G bh fp fv ff fc Av fs yc) {hid:Id} {ls:List (List FX)} {now:Nat} {l:List FX} (hl:ls[now]? = some l) (xD:ls.length<=1000)
   (hlen:l.length<=200) (hg:∀ X∈l,bh X) (nm:List UInt8) (p:Id) (qJ : ¬ p <:+ hid) :
   aB P G f [.ref hid 0 0, .str nm] p [(hid,fY ls now)] { val := .int .i64 (Jv hid ls now l nm).1,rd:=[hid],up:=(Jv hid ls now l nm).2 }:=by
 unfold Jv
 have bY:∀ q:Id,q++p≠hid:=fun q e=>qJ ⟨q,e⟩
 have GK:(5::3::p)≠hid:=bY [5,3]
 refine aB.has h ?_
 simp only [fU,SS,Nat.reduceAdd]
 refine ⟨[(hid,fY ls now)],_,jM H.present hl _,by simp [bF],by simp, ?_⟩
 simp only [SS,Nat.reduceAdd]
 by_cases h0:l=[]
 . subst h0
   refine aj (sZ H.cloneL) (by simp [dx]) ?_
   simp only [SS,Nat.reduceAdd]
   refine wu (H.find [] nm (by simp) hg) (af.str _) (cj.int _ _) ?_
   have d0:decide ((-1:Int)<0)=true:=rfl
   rw [if_pos (show dq [] nm<0 from by rw [s6];decide)]
   simp only [s6,SS,Nat.reduceAdd,d0]
   exact aU▸aA rfl (gg (up:=[]) (by simp) bF)
 refine ⟨[],_,s5 H.cloneL h0 (by omega) _,by simp,by simp, ?_⟩
 simp only [SS,Nat.reduceAdd]
 refine q9 (H.find l nm (by omega) hg) (af.str _) (cj.int _ _) (by simp [aa.put]) ?_
 simp only [SS,Nat.reduceAdd]
 by_cases h3:dq l nm<0
 . rw [if_pos h3,an h3]
   simp only [SS,Nat.reduceAdd]
   exact aU▸aA rfl (gg (up:=[]) (by simp) (by simp [aa.put,GK.symm,bF]))
 rw [if_neg h3,ak h3]
 obtain ⟨i,hi,aN⟩:=jC h3
 rw [hi,Int.toNat_natCast]
 have uP:=oO aN
 have GJ:∀ Z∈gh l i,bh Z:=qu hg
 simp only [SS,Nat.reduceAdd,aq i (by omega)]
 refine ⟨[(5::3::p,⟨l.map FX.av,5,false⟩)],_,Fv hd aN (by omega) _,by simp [aa.put],by simp, ?_⟩
 simp only [SS,Nat.reduceAdd]
 refine Ju (r0:=[zF]) (H.sat _ (by omega) GJ) (by omega) (cj.bool _) (by simp [aa.put]) ?_
 cases hB:pC (gh l i)
 . simp only [SS,Nat.reduceAdd]
   exact aU▸aA rfl (gg (up:=[]) (by simp) (by simp [aa.put,GK.symm,bF]))
 . simp only [SS,Nat.reduceAdd]
   refine kA (id:=5::3::p) (bk:=⟨(gh l i).map FX.av++[zF],5,false⟩) (H.change hid ls now l (gh l i) _ hl xD (by omega) (by omega) hg GJ (fun q=>bY [q,_])) (Fw (r:=[zF]) (by omega) (by simp [aa.of])) GK szR (by simp [aa.put]) (by simp [aa.put,GK.symm,bF]) ?_
   simp only [SS,Nat.reduceAdd]
   exact aU▸aA rfl (gg qt (by simp [aa.put,aa.app,rm,GK.symm,bF]))
set_option maxHeartbeats 4000000 in
theorem Sw (h:Has P f (gG fp fc ff fd abg fs yc)) (hd:Has P fd bB) {fr:FuncId} (Gl:Has P abg (bV fr)) (H:HH P G bh fp fv ff fc Av fs yc) {hid:Id} {ls:List (List FX)} {now:Nat} {l:List FX} (hl:ls[now]? = some l) (xD:ls.length<=1000)
   (hlen:l.length<=200) (hg:∀ X∈l,bh X) (nm:List UInt8) (pH:Int) (p:Id) (qJ : ¬ p <:+ hid) :
   aB P G f [.ref hid 0 0, .str nm, .int .i64 pH] p [(hid,fY ls now)] { val := .int .i64 (Bt hid ls now l nm pH).1,rd:=[hid],up:=(Bt hid ls now l nm pH).2 }:=by
 unfold Bt
 have bY:∀ q:Id,q++p≠hid:=fun q e=>qJ ⟨q,e⟩
 have GK:(5::3::p)≠hid:=bY [5,3]
 refine aB.has h ?_
 simp only [gG,SS,Nat.reduceAdd]
 refine ⟨[(hid,fY ls now)],_,jM H.present hl _,by simp [bF],by simp, ?_⟩
 simp only [SS,Nat.reduceAdd]
 by_cases h0:l=[]
 . subst h0
   rw [if_pos (show pH<0∨(([]:List FX).length:Int)<=pH from by simp;omega)]
   refine aj (sZ H.cloneL) (by simp [dx]) ?_
   simp only [SS,Nat.reduceAdd]
   by_cases t1:pH<0
   . simp only [SS,Nat.reduceAdd,an t1]
     exact aU▸aA rfl (gg (up:=[]) (by simp) bF)
   . have t2:decide (((0:Nat):Int)<=pH)=true:=an (by omega)
     simp only [SS,Nat.reduceAdd,ak t1,t2]
     exact aU▸aA rfl (gg (up:=[]) (by simp) bF)
 refine ⟨[],_,s5 H.cloneL h0 (by omega) _,by simp,by simp, ?_⟩
 simp only [SS,Nat.reduceAdd]
 by_cases t1:pH<0
 . rw [if_pos (.inl t1)]
   simp only [SS,Nat.reduceAdd,an t1]
   exact aU▸aA rfl (gg (up:=[]) (by simp) (by simp [aa.put,GK.symm,bF]))
 simp only [SS,Nat.reduceAdd,ak t1]
 by_cases t2:(l.length:Int)<=pH
 . rw [if_pos (.inr t2)]
   simp only [SS,Nat.reduceAdd,an t2]
   exact aU▸aA rfl (gg (up:=[]) (by simp) (by simp [aa.put,GK.symm,bF]))
 rw [if_neg (by omega)]
 simp only [SS,Nat.reduceAdd,ak t2]
 refine q9 (H.find l nm (by omega) hg) (af.str _) (cj.int _ _) (by simp [aa.put]) ?_
 simp only [SS,Nat.reduceAdd]
 by_cases h3:dq l nm<0
 . rw [if_pos h3,an h3]
   simp only [SS,Nat.reduceAdd]
   exact aU▸aA rfl (gg (up:=[]) (by simp) (by simp [aa.put,GK.symm,bF]))
 rw [if_neg h3,ak h3]
 obtain ⟨i,hi,aN⟩:=jC h3
 obtain ⟨j,hj⟩:∃ j:Nat,pH=(j:Int):=⟨pH.toNat,by omega⟩
 rw [hi,Int.toNat_natCast,hj,Int.toNat_natCast]
 obtain ⟨X,hX⟩:∃ X,l[i]? = some X:=⟨_,List.getElem?_eq_getElem aN⟩
 have AD:(l.map FX.av)[i]? = some X.av:=by rw [List.getElem?_map,hX];rfl
 have DO:l.getD i ⟨[],0,[],[],false⟩=X:=by rw [List.getD_eq_getElem?_getD,hX];rfl
 rw [DO]
 have uP:=oO aN
 have nH:j<=(gh l i).length:=by omega
 have JM:=zw (X:=X) nH
 have GJ:∀ Z∈oH (gh l i) j X,bh Z:=zA (qu hg) (hg X (List.mem_of_getElem? hX))
 simp only [SS,Nat.reduceAdd,lF aN]
 rw [mJ (bk:=⟨l.map FX.av,5,false⟩) (by simp [aa.put]) AD,FX.whole]
 simp only [SS,Nat.reduceAdd,je]
 have n23:(23::p)≠hid:=bY [23]
 have aeu:l.length-1=(gh l i).length:=by omega
 rw [n9 (k:=(AV.agg [.str [], .int .i64 0, .nils, .nils, .bool false]).size) (by simp [aa.put])]
 simp only [SS,DD,Nat.reduceAdd,aq i (by omega)]
 refine ⟨[(5::3::p,⟨l.map FX.av,5,false⟩)],_,Fv hd aN (by omega) _,by simp [aa.put],by simp, ?_⟩
 simp only [SS,DD,Nat.reduceAdd]
 rw [aeu,ai (by simp),ae,FX.whole]
 simp only [SS,DD,Nat.reduceAdd,xu]
 have n32:(32::p)≠hid:=bY [32]
 refine ⟨[(5::3::p,⟨(gh l i).map FX.av++[zF],5,false⟩),(32::p,⟨[X.av],5,false⟩)],_,OG Gl nH (by omega) (by simp) _, ?_, ?_, ?_⟩
 . intro x hx
   simp only [List.mem_cons,List.not_mem_nil,or_false] at hx
   rcases hx with rfl | rfl
   . simp [aa.put]
   . exact aa.bd _ _ _
 . intro x hx
   simp only [List.mem_cons,List.not_mem_nil,or_false] at hx
   rcases hx with rfl | rfl<;>simp
 simp only [SS,DD,Nat.reduceAdd]
 refine ⟨by simp [ar,apart], ?_⟩
 rw [<- JM]
 refine eK (H.sat _ (by omega) GJ) (cj.bool _) (by simp [aa.put]) ?_
 cases hB:pC (oH (gh l i) j X)
 . simp only [SS,Nat.reduceAdd]
   exact aU▸aA rfl (gg (up:=[]) (by simp) (by simp [aa.put,GK.symm,n23.symm,n32.symm,bF]))
 . simp only [SS,Nat.reduceAdd]
   refine kA (id:=5::3::p) (bk:=⟨(oH (gh l i) j X).map FX.av,5,false⟩) (H.change hid ls now l (oH (gh l i) j X) _ hl xD (by omega) (by omega) hg GJ (fun q=>bY [q,_])) (dX (by simp [aa.of])) GK wL (by simp [aa.put]) (by simp [aa.put,GK.symm,n23.symm,n32.symm,bF]) ?_
   simp only [SS,Nat.reduceAdd]
   exact aU▸aA rfl (gg qt (by simp [aa.put,aa.app,rm,GK.symm,n23.symm,n32.symm,bF]))
end
end Go.VL
end

section
set_option linter.unusedVariables false
set_option linter.unusedVariables false
namespace Go.VL
noncomputable def qv (hid:Id) (ls:List (List FX)) (now:Nat) (l:List FX) (o:OX):Int × List (Id × Option dF) :=
 if o.kind%7=0 then Ji hid ls now l o.F else if o.kind%7=1 then Br hid ls now l o.F else if o.kind%7=2 then Jj hid ls now l o.name o.on
 else if o.kind%7=3 then Bt hid ls now l o.name o.pH else Jv hid ls now l o.name
def Fx (l:List FX) (o:OX):List FX × Int :=
 if o.kind%7=0 then (if o.F.valid=false then ([],1) else if l.length=200 then ([],3) else if 0<=dq l o.F.name then ([],5) else if pC (l++[o.F])=true then (l++[o.F],0) else ([],4))
 else if o.kind%7=1 then (if o.F.valid=false then ([],1) else if dq l o.F.name<0 then ([],4) else if pC (l.set (dq l o.F.name).toNat o.F)=true then (l.set (dq l o.F.name).toNat o.F,0) else ([],4))
 else if o.kind%7=2 then (if dq l o.name<0 then ([],4) else (l.set (dq l o.name).toNat ((l.getD (dq l o.name).toNat ⟨[],0,[],[],false⟩).bQ o.on),0))
 else if o.kind%7=3 then (if o.pH<0∨(l.length:Int)<=o.pH then ([],1) else if dq l o.name<0 then ([],4) else
   if pC (oH (gh l (dq l o.name).toNat) o.pH.toNat (l.getD (dq l o.name).toNat ⟨[],0,[],[],false⟩))=true then (oH (gh l (dq l o.name).toNat) o.pH.toNat (l.getD (dq l o.name).toNat ⟨[],0,[],[],false⟩),0) else ([],14))
 else (if dq l o.name<0 then ([],4) else if pC (gh l (dq l o.name).toNat)=true then (gh l (dq l o.name).toNat,0) else ([],14))
theorem Fy (hid:Id) (ls:List (List FX)) (now:Nat) (l:List FX) (o:OX):qv hid ls now l o=((Fx l o).2,if (Fx l o).2=0 then DJ hid ls now l (Fx l o).1 else []):=by
 unfold qv Fx Ji Br Jj Bt Jv
 simp only []
 repeat' split
 all_goals first | rfl | (simp_all;done) | skip
 all_goals simp_all
theorem KY {l:List FX} {X:FX} (hn:(cd l).Nodup) (h:dq l X.name<0):(cd (l++[X])).Nodup:=by
 rw [OC,List.nodup_append]
 refine ⟨hn,by simp [cd], ?_⟩
 intro a ha b hb Mw
 simp [cd] at hb
 subst Mw;subst hb
 exact DK.1 h ha
theorem OH {l:List FX} {i:Nat} {X:FX} (hX:l[i]? = some X) (hn:(cd l).Nodup):(cd (gh l i)).Nodup:=by
 have:=DL (Jr hX) hn
 exact (List.nodup_cons.1 this).2
theorem OI {l:List FX} {i j:Nat} {X:FX} (hX:l[i]? = some X) (hn:(cd l).Nodup):(cd (oH (gh l i) j X)).Nodup :=
 DL ((Jr hX).trans (Sr _ _ _).symm) hn
theorem step_eq {l:List FX} {o:OX} (hL:ek l=true) (hk:o.kind%7<5):Fx l o=cm l o:=by
 have hlen:=iD hL
 have kX:=Jp hL
 have Ac:=Jq hL
 unfold Fx cm
 by_cases k0:o.kind%7=0
 . rw [if_pos k0,if_pos k0]
   cases hv:o.F.valid
   . rw [if_pos (show false=false from rfl),if_pos (show false=false from rfl)]
   rw [if_neg (show ¬ (true=false) by decide),if_neg (show ¬ (true=false) by decide)]
   by_cases h2:l.length=200
   . rw [if_pos h2,if_pos (show 200<=l.length by omega)]
   rw [if_neg h2,if_neg (show ¬ 200<=l.length by omega)]
   by_cases h3:0<=dq l o.F.name
   . rw [if_pos h3,if_pos h3]
   rw [if_neg h3,if_neg h3]
   rw [uy (l:=l++[o.F]) (fun X hX=>by
     rcases List.mem_append.1 hX with h | h
     . exact kX X h
     . rw [List.mem_singleton] at h;rw [h];exact hv) (KY Ac (by omega)) (by simp;omega)]
 rw [if_neg k0,if_neg k0]
 by_cases k1:o.kind%7=1
 . rw [if_pos k1,if_pos k1]
   cases hv:o.F.valid
   . rw [if_pos (show false=false from rfl),if_pos (show false=false from rfl)]
   rw [if_neg (show ¬ (true=false) by decide),if_neg (show ¬ (true=false) by decide)]
   by_cases h3:dq l o.F.name<0
   . rw [if_pos h3,if_pos h3]
   rw [if_neg h3,if_neg h3]
   obtain ⟨i,hi,aN⟩:=jC h3
   obtain ⟨Y,hY,hYn⟩:=s7 hi
   rw [hi,Int.toNat_natCast]
   rw [uy (l:=l.set i o.F) (fun X hX=>by
     rcases List.mem_or_eq_of_mem_set hX with h | h
     . exact kX X h
     . rw [h];exact hv) (by rw [Fu hY hYn.symm];exact Ac) (by rw [List.length_set];exact hlen)]
 rw [if_neg k1,if_neg k1]
 by_cases k2:o.kind%7=2
 . rw [if_pos k2,if_neg (show ¬ (o.kind%7=3/\(o.pH<0∨(l.length:Int)<=o.pH)) from fun h=>by omega)]
   by_cases h3:dq l o.name<0
   . rw [if_pos h3,if_pos h3]
   rw [if_neg h3,if_neg h3]
   obtain ⟨i,hi,aN⟩:=jC h3
   obtain ⟨Y,hY,hYn⟩:=s7 hi
   have DO:l.getD i ⟨[],0,[],[],false⟩=Y:=by rw [List.getD_eq_getElem?_getD,hY];rfl
   rw [hi,Int.toNat_natCast,DO]
   simp only [if_pos k2,DO]
   rw [UZ hY,if_pos (KX hY hL)]
 rw [if_neg k2]
 by_cases k3:o.kind%7=3
 . rw [if_pos k3]
   by_cases h1:o.pH<0∨(l.length:Int)<=o.pH
   . rw [if_pos h1,if_pos ⟨k3,h1⟩]
   rw [if_neg h1,if_neg (show ¬ (o.kind%7=3/\(o.pH<0∨(l.length:Int)<=o.pH)) from fun h=>h1 h.2)]
   by_cases h3:dq l o.name<0
   . rw [if_pos h3,if_pos h3]
   rw [if_neg h3,if_neg h3]
   obtain ⟨i,hi,aN⟩:=jC h3
   obtain ⟨Y,hY,hYn⟩:=s7 hi
   have DO:l.getD i ⟨[],0,[],[],false⟩=Y:=by rw [List.getD_eq_getElem?_getD,hY];rfl
   rw [hi,Int.toNat_natCast,DO]
   simp only [if_neg k2,if_pos k3,DO]
   have nH:o.pH.toNat<=(gh l i).length:=by have:=oO aN;omega
   rw [uy (l:=oH (gh l i) o.pH.toNat Y) (zA (qu kX) (kX Y (List.mem_of_getElem? hY))) (OI hY Ac) (by rw [zw nH,oO aN];exact hlen)]
 . rw [if_neg k3,if_neg (show ¬ (o.kind%7=3/\(o.pH<0∨(l.length:Int)<=o.pH)) from fun h=>k3 h.1)]
   by_cases h3:dq l o.name<0
   . rw [if_pos h3,if_pos h3]
   rw [if_neg h3,if_neg h3]
   obtain ⟨i,hi,aN⟩:=jC h3
   obtain ⟨Y,hY,hYn⟩:=s7 hi
   rw [hi,Int.toNat_natCast]
   simp only [if_neg k2,if_neg k3]
   rw [uy (l:=gh l i) (qu kX) (OH hY Ac) (by have:=oO aN;omega)]
end Go.VL
end

section
set_option linter.unusedVariables false
set_option linter.unusedVariables false
namespace Go.VL
theorem Sx {hid:Id} {ls:List (List FX)} {now:Nat} {l:List FX} {o:OX}:∀ x∈(qv hid ls now l o).2,x.1=hid:=by
 intro x hx
 rw [Fy] at hx
 simp only [] at hx
 split at hx
 . exact qt x hx
 . simp at hx
theorem nz {hid:Id} {ls:List (List FX)} {now:Nat} {l:List FX} {o:OX} {σ : aa} (ha:ls[now]? = some l) (hL:ek l=true) (hk:o.kind%7<5) (hσ : σ hid=some (fY ls now)) :
   (qv hid ls now l o).1=(wq ls now o).2.2.1/\(σ.app (qv hid ls now l o).2) hid=some (fY (wq ls now o).1 (wq ls now o).2.1):=by
 have DO:ls.getD now []=l:=by rw [List.getD_eq_getElem?_getD,ha];rfl
 rw [Fy,step_eq hL hk]
 unfold wq
 rw [if_neg (show ¬ o.kind%7=5 by omega),if_neg (show ¬ o.kind%7=6 by omega),DO]
 simp only []
 generalize cm l o=c
 obtain ⟨m,e⟩:=c
 simp only []
 by_cases he:e=0
 . subst he
   rw [if_pos rfl]
   unfold DJ
   by_cases hq:gZ m l=true
   . rw [if_pos hq,if_pos (.inr hq)]
     exact ⟨rfl,hσ⟩
   . rw [if_neg hq,if_neg (by simpa using hq)]
     exact ⟨rfl,aa.bd _ _ _⟩
 . rw [if_neg he,if_pos (.inl he)]
   exact ⟨rfl,hσ⟩
theorem zB {l:List FX} {o:OX} (h:(cm l o).2=0):ek (cm l o).1=true:=by
 generalize hc:cm l o=c at *
 unfold cm at hc
 simp only [] at hc
 repeat' (split at hc)
 all_goals subst hc
 all_goals first | (exact absurd h (by simp only [];decide)) | assumption
theorem zC {bh:FX->Prop} {l:List FX} {o:OX} (hg:∀ X∈l,bh X) (hF:bh o.F) (hs:∀ X b,bh X->bh (X.bQ b)):∀ X∈(cm l o).1,bh X:=by
 have nil:∀ X∈([]:List FX),bh X:=fun X h=>absurd h (by simp)
 unfold cm
 by_cases k0:o.kind%7=0
 . rw [if_pos k0]
   repeat' split
   all_goals first | exact nil | skip
   intro X hX
   rcases List.mem_append.1 hX with h | h
   . exact hg X h
   . rw [List.mem_singleton] at h;rw [h];exact hF
 rw [if_neg k0]
 by_cases k1:o.kind%7=1
 . rw [if_pos k1]
   repeat' split
   all_goals first | exact nil | skip
   exact zx hg hF
 rw [if_neg k1]
 split
 . exact nil
 split
 . exact nil
 rename_i h3
 obtain ⟨i,hi,aN⟩:=jC h3
 obtain ⟨Y,hY,_⟩:=s7 hi
 have DO:l.getD i ⟨[],0,[],[],false⟩=Y:=by rw [List.getD_eq_getElem?_getD,hY];rfl
 have hYg:=hg Y (List.mem_of_getElem? hY)
 rw [hi,Int.toNat_natCast]
 simp only [DO]
 repeat' split
 all_goals first | exact nil | exact zA (qu hg) (hs Y _ hYg) | exact zA (qu hg) hYg | exact qu hg
structure AN (bh:FX->Prop) (ls:List (List FX)) (now:Nat):Prop where
 lt:now<ls.length
 list:∀ l∈ls,ek l=true
 bh:∀ l∈ls,∀ X∈l,bh X
theorem U4 (bh:FX->Prop):AN bh [[]] 0:=⟨by simp,by intro l hl;simp at hl;subst hl;rfl,by intro l hl X hX;simp at hl;subst hl;simp at hX⟩
theorem Yi {bh:FX->Prop} {ls:List (List FX)} {now:Nat} {o:OX} (h:AN bh ls now) (hF:bh o.F) (hs:∀ X b,bh X->bh (X.bQ b)) :
   AN bh (wq ls now o).1 (wq ls now o).2.1/\(wq ls now o).1.length<=ls.length+1:=by
 unfold wq
 by_cases h5:o.kind%7=5
 . rw [if_pos h5]
   split
   . exact ⟨h,by simp⟩
   . exact ⟨⟨by have:=h.lt;simp only [];omega,h.list,h.bh⟩,by simp⟩
 rw [if_neg h5]
 by_cases h6:o.kind%7=6
 . rw [if_pos h6]
   split
   . exact ⟨h,by simp⟩
   . exact ⟨⟨by have:=h.lt;simp only [];omega,h.list,h.bh⟩,by simp⟩
 rw [if_neg h6]
 simp only []
 have aN:=h.lt
 have hm:ls.getD now []∈ls:=by
   rw [List.getD_eq_getElem?_getD,List.getElem?_eq_getElem aN];exact List.getElem_mem aN
 generalize ls.getD now []=l at hm
 have OS:=zB (l:=l) (o:=o)
 have HZ:=zC (l:=l) (o:=o) (h.bh l hm) hF hs
 generalize cm l o=c at *
 split
 . exact ⟨h,by simp⟩
 . rename_i bY
   have he:c.2=0:=Classical.byContradiction fun q=>bY (.inl q)
   refine ⟨⟨by simp;omega, ?_, ?_⟩,by simp;omega⟩
   . intro x hx
     simp only [List.mem_append,List.mem_singleton] at hx
     rcases hx with hx | rfl
     . exact h.list x (List.mem_of_mem_take hx)
     . exact OS he
   . intro x hx
     simp only [List.mem_append,List.mem_singleton] at hx
     rcases hx with hx | rfl
     . exact h.bh x (List.mem_of_mem_take hx)
     . exact HZ
end Go.VL
end

section
set_option linter.unusedVariables false
set_option linter.unusedVariables false
namespace Go.VL
theorem Sy {hid:Id} {ls:List (List FX)} {now:Nat} {σ : aa} (h : σ hid=some (fY ls now)):gi σ true 2 (.ref hid 0 0)=some { val:=bn ls now,rd:=[hid] }:=by
 rw [mJ (bk:=fY ls now) h rfl,iC];rfl
theorem Sz {AO:Id} {ls ls':List (List FX)} {now Yj:Nat} {σ : aa} (h : σ AO=some (fY ls now)):eO σ 2 (.ref AO 0 0) (bn ls' Yj)=some { val := .tup [],rd:=[AO],up:=[(AO,some (fY ls' Yj))] }:=by
 rw [cE (n:=2) (v:=bn ls' Yj) (els:=[bn ls now]) (el:=bn ls now) (k:=2) h rfl rfl (show 0+2<=2 by decide) (of_eq_true (AM _ _))]
 rfl
theorem zD {σ : aa} {id:Id} {ls:List (List FX)} {a:Nat} {k:Nat} (h : σ id=some ⟨[.agg [.nils, .int .i64 0]],k,false⟩):eO σ 2 (.ref id 0 0) (bn ls a)=some { val := .tup [],rd:=[id],up:=[(id,some ⟨[bn ls a],k,false⟩)] } :=
 jL (x:=qq ls) (b:=a) rfl rfl h
theorem Gs {hid AO:Id} {b b':dF} {σ : aa} {up:List (Id × Option dF)} (bY:hid≠AO) (hup:∀ x∈up,x.1=hid) (hh:(σ.app up) hid=some b') (hm : σ AO=some b') (i:Id) :
   (aa.of [(hid,b),(AO,b)]).app [(hid,some b'),(AO,some b')] i=none∨(aa.of [(hid,b),(AO,b)]).app [(hid,some b'),(AO,some b')] i=(σ.app up) i:=by
 by_cases e1:i=AO
 . subst e1
   right
   rw [MO up (fun x hx he=>bY ((hup x hx)▸he)),hm]
   exact aa.bd _ _ _
 by_cases e2:i=hid
 . subst e2
   right
   rw [hh]
   simp [aa.app,aa.put,e1]
 . left
   have h1:(i==hid)=false:=by simpa using e2
   have h2:(i==AO)=false:=by simpa using e1
   simp [aa.app,aa.put,e1,e2,aa.of,List.lookup_cons,h1,h2]
structure PH (P:Program) (G:Nat->Option (List AV)) (bh:FX->Prop) (OJ AP OK AQ OL AR x7 GH:FuncId):Prop where
 do_:∀ (ls:List (List FX)) (a:Nat) (o:OX),AN bh ls a->ls.length<=900->bh o.F->VP P G OJ [bn ls a,o.av] (.tup [bn (wq ls a o).1 (wq ls a o).2.1, .int .i64 (wq ls a o).2.2.1, .bool (wq ls a o).2.2.2])
 app:∀ (hid:Id) (ls:List (List FX)) (now:Nat) (l:List FX) (X:FX) (p:Id),ls[now]? = some l->AN bh ls now->ls.length<=900->bh X -> ¬ p <:+ hid ->
   aB P G AP [.ref hid 0 0,X.av] p [(hid,fY ls now)] { val := .int .i64 (Ji hid ls now l X).1,rd:=[hid],up:=(Ji hid ls now l X).2 }
 ed:∀ (hid:Id) (ls:List (List FX)) (now:Nat) (l:List FX) (X:FX) (p:Id),ls[now]? = some l->AN bh ls now->ls.length<=900->bh X -> ¬ p <:+ hid ->
   aB P G OK [.ref hid 0 0,X.av] p [(hid,fY ls now)] { val := .int .i64 (Br hid ls now l X).1,rd:=[hid],up:=(Br hid ls now l X).2 }
 sup:∀ (hid:Id) (ls:List (List FX)) (now:Nat) (l:List FX) (nm:List UInt8) (on:Bool) (p:Id),ls[now]? = some l->AN bh ls now->ls.length<=900 -> ¬ p <:+ hid ->
   aB P G AQ [.ref hid 0 0, .str nm, .bool on] p [(hid,fY ls now)] { val := .int .i64 (Jj hid ls now l nm on).1,rd:=[hid],up:=(Jj hid ls now l nm on).2 }
 mv:∀ (hid:Id) (ls:List (List FX)) (now:Nat) (l:List FX) (nm:List UInt8) (pH:Int) (p:Id),ls[now]? = some l->AN bh ls now->ls.length<=900 -> ¬ p <:+ hid ->
   aB P G OL [.ref hid 0 0, .str nm, .int .i64 pH] p [(hid,fY ls now)] { val := .int .i64 (Bt hid ls now l nm pH).1,rd:=[hid],up:=(Bt hid ls now l nm pH).2 }
 del:∀ (hid:Id) (ls:List (List FX)) (now:Nat) (l:List FX) (nm:List UInt8) (p:Id),ls[now]? = some l->AN bh ls now->ls.length<=900 -> ¬ p <:+ hid ->
   aB P G AR [.ref hid 0 0, .str nm] p [(hid,fY ls now)] { val := .int .i64 (Jv hid ls now l nm).1,rd:=[hid],up:=(Jv hid ls now l nm).2 }
 undo:Has P x7 eX
 redo:Has P GH gE
section
variable {P:Program} {G:Nat->Option (List AV)} {bh:FX->Prop} {f OJ AP OK AQ OL AR x7 GH:FuncId}
set_option maxHeartbeats 4000000 in
theorem KZ (h:Has P f (eB OJ AP OK AQ OL AR x7 GH)) (H:PH P G bh OJ AP OK AQ OL AR x7 GH) {hid AO:Id} (bY:hid≠AO) {ls:List (List FX)} {now:Nat} {o:OX} (hI:AN bh ls now) (xD:ls.length<=900) (hF:bh o.F)
   (p:Id) (qJ : ¬ p <:+ hid) (aew : ¬ p <:+ AO) :
   aB P G f [.ref hid 0 0, .ref AO 0 0,o.av] p [(hid,fY ls now),(AO,fY ls now)]
     { val := .bool true,rd:=[hid,AO],up:=[(hid,some (fY (wq ls now o).1 (wq ls now o).2.1)),(AO,some (fY (wq ls now o).1 (wq ls now o).2.1))] }:=by
 have hnh:∀ q:Id,q++p≠hid:=fun q e=>qJ ⟨q,e⟩
 have x8:∀ q:Id,q++p≠AO:=fun q e=>aew ⟨q,e⟩
 have a0:(0::p)≠hid:=hnh [0]
 have a1:(0::p)≠AO:=x8 [0]
 have b0:(11::p)≠hid:=hnh [11]
 have b1:(11::p)≠AO:=x8 [11]
 have OM:(0::p)≠11::p:=by simp
 have sx:∀ j:Nat, ¬ (j::p) <:+ hid:=fun j hs=>qJ ((List.suffix_cons j p).trans hs)
 obtain ⟨l,hl⟩:∃ l,ls[now]? = some l:=⟨_,List.getElem?_eq_getElem hI.lt⟩
 have hL:=hI.list l (List.mem_of_getElem? hl)
 have hk7:o.kind%7<7:=Nat.mod_lt _ (by decide)
 have Wz:(AO==hid)=false:=by simpa using Ne.symm bY
 have s0:aa.of [(hid,fY ls now),(AO,fY ls now)] hid=some (fY ls now):=by simp [aa.of]
 have s1:aa.of [(hid,fY ls now),(AO,fY ls now)] AO=some (fY ls now):=by simp [aa.of,List.lookup_cons,Wz]
 have hdo:=H.do_ ls now o hI xD hF
 have VO:∀ {σ : aa},o.kind%7<5 -> σ hid=some (fY ls now)->_:=fun {σ} hk hσ => nz (hid:=hid) (o:=o) (σ := σ) hl hL hk hσ
 have Ta:=Sx (hid:=hid) (ls:=ls) (now:=now) (l:=l) (o:=o)
 have hmp:=ke ls now
 have BX:=OX.pure o
 have ai5:∀ X:Nat,True:=fun _=>trivial
 refine aB.has h ?_
 simp only [eB,SS,DD,Nat.reduceAdd,OX.one]
 rw [Sy (by rw [aa.bj _ _ _ a1.symm];exact s1)]
 simp only [SS,DD,Nat.reduceAdd,ae,OX.whole]
 refine ax hdo (by simp [hmp,BX]) ?_
 simp only [SS,DD,Nat.reduceAdd,DI,qi,qj,qk]
 rw [zD (k:=(AV.agg [.nils, .int .i64 0]).size) (by simp [aa.put])]
 simp only [SS,DD,Nat.reduceAdd]
 refine ⟨by simp [ar,apart,b1], ?_⟩
 simp only [SS,Nat.reduceAdd,ae,iC]
 rw [Sz (ls:=ls) (now:=now) (by simp [aa.put,a1.symm,b1.symm,s1])]
 simp only [SS,Nat.reduceAdd,ai a1,ai OM,ae,OX.p0]
 have hk:o.kind%7=0∨o.kind%7=1∨o.kind%7=2∨o.kind%7=3∨o.kind%7=4∨o.kind%7=5∨o.kind%7=6:=by omega
 rcases hk with hk | hk | hk | hk | hk | hk | hk
 . have hr:br .rem .int (.int .u8 (o.kind:Int)) (.int .u8 7)=some (.int .u8 0):=by rw [AJ,hk];rfl
   have KQ:qv hid ls now l o=Ji hid ls now l o.F:=by unfold qv;simp [hk]
   have he:=(nz (hid:=hid) (o:=o) (σ := aa.of [(hid,fY ls now)]) hl hL (by omega) bF).1
   have hf:∀ σ : aa, σ hid=some (fY ls now)->_:=fun σ hσ => (nz (hid:=hid) (o:=o) (σ := σ) hl hL (by omega) hσ).2
   rw [KQ] at he Ta hf
   simp only [SS,Nat.reduceAdd,hr,decide_true,ai a1,ai OM,ae,OX.pF]
   refine ⟨[(hid,fY ls now)],_,H.app hid ls now l o.F _ hl hI xD hF (sx _),by simp [aa.put,a0.symm,b0.symm,s0,bY],by simp, ?_⟩
   simp only [SS,Nat.reduceAdd,he,decide_true]
   exact aU▸aA rfl (Gs bY Ta (hf _ (by simp [aa.put,a0.symm,b0.symm,s0,bY])) (by simp [aa.put]))
 . have hr:br .rem .int (.int .u8 (o.kind:Int)) (.int .u8 7)=some (.int .u8 1):=by rw [AJ,hk];rfl
   have KQ:qv hid ls now l o=Br hid ls now l o.F:=by unfold qv;simp [hk]
   have he:=(nz (hid:=hid) (o:=o) (σ := aa.of [(hid,fY ls now)]) hl hL (by omega) bF).1
   have hf:∀ σ : aa, σ hid=some (fY ls now)->_:=fun σ hσ => (nz (hid:=hid) (o:=o) (σ := σ) hl hL (by omega) hσ).2
   rw [KQ] at he Ta hf
   simp only [SS,Nat.reduceAdd,hr,(show decide ((1:Int)=0)=false from rfl),decide_true,ai a1,ai OM,ae,OX.pF]
   refine ⟨[(hid,fY ls now)],_,H.ed hid ls now l o.F _ hl hI xD hF (sx _),by simp [aa.put,a0.symm,b0.symm,s0,bY],by simp, ?_⟩
   simp only [SS,Nat.reduceAdd,he,decide_true]
   exact aU▸aA rfl (Gs bY Ta (hf _ (by simp [aa.put,a0.symm,b0.symm,s0,bY])) (by simp [aa.put]))
 . have hr:br .rem .int (.int .u8 (o.kind:Int)) (.int .u8 7)=some (.int .u8 2):=by rw [AJ,hk];rfl
   have KQ:qv hid ls now l o=Jj hid ls now l o.name o.on:=by unfold qv;simp [hk]
   have he:=(nz (hid:=hid) (o:=o) (σ := aa.of [(hid,fY ls now)]) hl hL (by omega) bF).1
   have hf:∀ σ : aa, σ hid=some (fY ls now)->_:=fun σ hσ => (nz (hid:=hid) (o:=o) (σ := σ) hl hL (by omega) hσ).2
   rw [KQ] at he Ta hf
   simp only [SS,Nat.reduceAdd,hr,(show decide ((2:Int)=0)=false from rfl),(show decide ((2:Int)=1)=false from rfl),decide_true,ai a1,ai OM,ae,OX.p6,OX.p7]
   refine ⟨[(hid,fY ls now)],_,H.sup hid ls now l o.name o.on _ hl hI xD (sx _),by simp [aa.put,a0.symm,b0.symm,s0,bY],by simp, ?_⟩
   simp only [SS,Nat.reduceAdd,he,decide_true]
   exact aU▸aA rfl (Gs bY Ta (hf _ (by simp [aa.put,a0.symm,b0.symm,s0,bY])) (by simp [aa.put]))
 . have hr:br .rem .int (.int .u8 (o.kind:Int)) (.int .u8 7)=some (.int .u8 3):=by rw [AJ,hk];rfl
   have KQ:qv hid ls now l o=Bt hid ls now l o.name o.pH:=by unfold qv;simp [hk]
   have he:=(nz (hid:=hid) (o:=o) (σ := aa.of [(hid,fY ls now)]) hl hL (by omega) bF).1
   have hf:∀ σ : aa, σ hid=some (fY ls now)->_:=fun σ hσ => (nz (hid:=hid) (o:=o) (σ := σ) hl hL (by omega) hσ).2
   rw [KQ] at he Ta hf
   simp only [SS,Nat.reduceAdd,hr,(show decide ((3:Int)=0)=false from rfl),(show decide ((3:Int)=1)=false from rfl),(show decide ((3:Int)=2)=false from rfl),decide_true,ai a1,ai OM,ae,OX.p6,OX.p8]
   refine ⟨[(hid,fY ls now)],_,H.mv hid ls now l o.name o.pH _ hl hI xD (sx _),by simp [aa.put,a0.symm,b0.symm,s0,bY],by simp, ?_⟩
   simp only [SS,Nat.reduceAdd,he,decide_true]
   exact aU▸aA rfl (Gs bY Ta (hf _ (by simp [aa.put,a0.symm,b0.symm,s0,bY])) (by simp [aa.put]))
 . have hr:br .rem .int (.int .u8 (o.kind:Int)) (.int .u8 7)=some (.int .u8 4):=by rw [AJ,hk];rfl
   have KQ:qv hid ls now l o=Jv hid ls now l o.name:=by unfold qv;simp [hk]
   have he:=(nz (hid:=hid) (o:=o) (σ := aa.of [(hid,fY ls now)]) hl hL (by omega) bF).1
   have hf:∀ σ : aa, σ hid=some (fY ls now)->_:=fun σ hσ => (nz (hid:=hid) (o:=o) (σ := σ) hl hL (by omega) hσ).2
   rw [KQ] at he Ta hf
   simp only [SS,Nat.reduceAdd,hr,(show decide ((4:Int)=0)=false from rfl),(show decide ((4:Int)=1)=false from rfl),(show decide ((4:Int)=2)=false from rfl),(show decide ((4:Int)=3)=false from rfl),decide_true,ai a1,ai OM,ae,OX.p6]
   refine ⟨[(hid,fY ls now)],_,H.del hid ls now l o.name _ hl hI xD (sx _),by simp [aa.put,a0.symm,b0.symm,s0,bY],by simp, ?_⟩
   simp only [SS,Nat.reduceAdd,he,decide_true]
   exact aU▸aA rfl (Gs bY Ta (hf _ (by simp [aa.put,a0.symm,b0.symm,s0,bY])) (by simp [aa.put]))
 . have hr:br .rem .int (.int .u8 (o.kind:Int)) (.int .u8 7)=some (.int .u8 5):=by rw [AJ,hk];rfl
   have Tz:=hI.lt
   by_cases h0:now=0
   . have hd:wq ls now o=(ls,now,0,false):=by unfold wq;rw [if_pos hk,if_pos h0]
     have hu:∀ p,aB P G x7 [.ref hid 0 0] p [(hid,fY ls now)] { val := .bool false,rd:=[hid],up:=[] }:=fun p=>by
       have:=Jk (G:=G) H.undo (hid:=hid) (ls:=ls) (now:=now) (by omega) p
       rwa [if_pos h0,ak (by omega : ¬ now≠0)] at this
     simp only [hd]
     simp only [SS,Nat.reduceAdd,hr,(show decide ((5:Int)=0)=false from rfl),(show decide ((5:Int)=1)=false from rfl),(show decide ((5:Int)=2)=false from rfl),(show decide ((5:Int)=3)=false from rfl),(show decide ((5:Int)=4)=false from rfl),decide_true]
     refine ⟨[(hid,fY ls now)],_,hu _,by simp [aa.put,a0.symm,b0.symm,s0,bY],by simp, ?_⟩
     simp only [SS,Nat.reduceAdd]
     exact aU▸aA rfl (Gs bY (up:=[]) (by simp) (by simp [aa.put,aa.app,a0.symm,b0.symm,s0,bY]) (by simp [aa.put]))
   . have hd:wq ls now o=(ls,now-1,0,true):=by unfold wq;rw [if_pos hk,if_neg h0]
     have hu:∀ p,aB P G x7 [.ref hid 0 0] p [(hid,fY ls now)] { val := .bool true,rd:=[hid],up:=[(hid,some (fY ls (now-1)))] }:=fun p=>by
       have:=Jk (G:=G) H.undo (hid:=hid) (ls:=ls) (now:=now) (by omega) p
       rwa [if_neg h0,an (by omega:now≠0)] at this
     simp only [hd]
     simp only [SS,Nat.reduceAdd,hr,(show decide ((5:Int)=0)=false from rfl),(show decide ((5:Int)=1)=false from rfl),(show decide ((5:Int)=2)=false from rfl),(show decide ((5:Int)=3)=false from rfl),(show decide ((5:Int)=4)=false from rfl),decide_true]
     refine ⟨[(hid,fY ls now)],_,hu _,by simp [aa.put,a0.symm,b0.symm,s0,bY],by simp, ?_⟩
     simp only [SS,Nat.reduceAdd]
     exact aU▸aA rfl (Gs bY (up:=[(hid,some (fY ls (now-1)))]) (by simp) (by simp [aa.put,aa.app]) (by simp [aa.put]))
 . have hr:br .rem .int (.int .u8 (o.kind:Int)) (.int .u8 7)=some (.int .u8 6):=by rw [AJ,hk];rfl
   have Tz:=hI.lt
   by_cases h0:now+1=ls.length
   . have hd:wq ls now o=(ls,now,0,false):=by unfold wq;rw [if_neg (by omega),if_pos hk,if_pos h0]
     have hu:∀ p,aB P G GH [.ref hid 0 0] p [(hid,fY ls now)] { val := .bool false,rd:=[hid],up:=[] }:=fun p=>by
       have:=Jl (G:=G) H.redo (hid:=hid) (ls:=ls) (now:=now) (by omega) Tz p
       rwa [if_pos h0,ak (by omega : ¬ now+1≠ls.length)] at this
     simp only [hd]
     simp only [SS,Nat.reduceAdd,hr,(show decide ((6:Int)=0)=false from rfl),(show decide ((6:Int)=1)=false from rfl),(show decide ((6:Int)=2)=false from rfl),(show decide ((6:Int)=3)=false from rfl),(show decide ((6:Int)=4)=false from rfl),(show decide ((6:Int)=5)=false from rfl)]
     refine ⟨[(hid,fY ls now)],_,hu _,by simp [aa.put,a0.symm,b0.symm,s0,bY],by simp, ?_⟩
     simp only [SS,Nat.reduceAdd]
     exact aU▸aA rfl (Gs bY (up:=[]) (by simp) (by simp [aa.put,aa.app,a0.symm,b0.symm,s0,bY]) (by simp [aa.put]))
   . have hd:wq ls now o=(ls,now+1,0,true):=by unfold wq;rw [if_neg (by omega),if_pos hk,if_neg h0]
     have hu:∀ p,aB P G GH [.ref hid 0 0] p [(hid,fY ls now)] { val := .bool true,rd:=[hid],up:=[(hid,some (fY ls (now+1)))] }:=fun p=>by
       have:=Jl (G:=G) H.redo (hid:=hid) (ls:=ls) (now:=now) (by omega) Tz p
       rwa [if_neg h0,an (by omega:now+1≠ls.length)] at this
     simp only [hd]
     simp only [SS,Nat.reduceAdd,hr,(show decide ((6:Int)=0)=false from rfl),(show decide ((6:Int)=1)=false from rfl),(show decide ((6:Int)=2)=false from rfl),(show decide ((6:Int)=3)=false from rfl),(show decide ((6:Int)=4)=false from rfl),(show decide ((6:Int)=5)=false from rfl)]
     refine ⟨[(hid,fY ls now)],_,hu _,by simp [aa.put,a0.symm,b0.symm,s0,bY],by simp, ?_⟩
     simp only [SS,Nat.reduceAdd]
     exact aU▸aA rfl (Gs bY (up:=[(hid,some (fY ls (now+1)))]) (by simp) (by simp [aa.put,aa.app]) (by simp [aa.put]))
end
end Go.VL
end

section
set_option linter.unusedVariables false
set_option linter.unusedVariables false
namespace Go.VL
theorem SA {σ : aa} {p q:Id} {X:FX} (hq : σ q=some ⟨[X.av],5,false⟩):cg σ p 5 80 .nils (.osl q 5 0 1 false)=some { val := .osl p 5 0 1 false,rd:=[q],up:=[(p,some ⟨[X].map FX.av,5,false⟩)] } :=
 ub (x := .osl q 5 0 1 false) (ys:=[X.av]) (oJ hq) (by simp) (by simp) (cO (by simp)) (ny [X])
theorem ON {l:List FX} {i:Nat} {X:FX} (h:l[i]? = some X):l.take (i+1)=l.take i++[X]:=by rw [List.take_add_one,h];rfl
def yc (id:Id) (l:List FX):AV:=if l=[] then .nils else .osl id 5 0 l.length false
section
variable {P:Program} {G:Nat->Option (List AV)}
set_option maxHeartbeats 2000000 in
theorem Gt {f fp Av:FuncId} (h:Has P f (dN fp Av)) (hp:Has P fp bH) {hid:Id} {ls:List (List FX)} {now:Nat} {l:List FX} (hl:ls[now]? = some l) (hlen:l.length<=1000)
   (uP:∀ X∈l,VP P G Av [X.av] X.av) (p:Id) (qJ : ¬ p <:+ hid) :
   aB P G f [.ref hid 0 0] p [(hid,fY ls now)] { val:=du l,rd:=[hid] }:=by
 have bY:∀ q:Id,q++p≠hid:=fun q e=>qJ ⟨q,e⟩
 have IC:∀ q:Nat,q::p≠hid:=fun q=>bY [q]
 refine aB.has h ?_
 simp only [dN,SS,Nat.reduceAdd]
 refine ⟨[(hid,fY ls now)],_,jM hp hl _,by simp [bF],by simp, ?_⟩
 simp only [SS,Nat.reduceAdd,mu,aE]
 refine VW.bR (α := Nat × Nat × Nat) (fun x=>⟨[.ref hid 0 0, .top, .top,yc (x.2.1::p) (l.take x.1), .top, .top, .top,du l, .int .i64 (l.length:Int), .int .i64 (x.1:Int)]++List.replicate 10 .top,
     (aa.of [(hid,fY ls now)]).put (x.2.1::p) (if l.take x.1=[] then none else some ⟨(l.take x.1).map FX.av,5,false⟩),x.2.2⟩)
   (fun x=>x.1<=l.length/\x.2.1<x.2.2) (fun x=>l.length-x.1) (0,0,1000) ?_ ⟨Nat.zero_le _,by simp only [];omega⟩ ?_
 . refine Wk.forget (by simp [Fg,List.replicate,yc]) (fun j => ?_) (by simp only [];omega)
   by_cases h1:j=0::p
   . subst h1;left;simp [aa.put]
   . right;simp [aa.put,h1]
 rintro ⟨i,ck,nn⟩ ⟨hi,Q3⟩
 simp only [] at hi Q3
 have D9:(l.take i).length=i:=by rw [List.length_take];omega
 by_cases aN:i<l.length
 . obtain ⟨X,hX⟩:∃ X,l[i]? = some X:=⟨_,List.getElem?_eq_getElem aN⟩
   have hm:=List.mem_of_getElem? hX
   have dd:decide ((i:Int)<(l.length:Int))=true:=an (by omega)
   have hg:(l.map FX.av)[i]? = some X.av:=by rw [List.getElem?_map,hX];rfl
   have iB:bz 5 (du l) (.int .i64 (i:Int))=some (.ep X.av.cells 0):=aS rfl hg
   have Wf:af X.av:=FX.pure X
   have hn:=ON hX
   have K7:=uP X hm
   generalize sc:l.take i=m at *
   simp only [SS,Nat.reduceAdd,List.replicate,dd,iB,az,FX.whole,je]
   rw [n9 (k:=(AV.agg [.str [], .int .i64 0, .nils, .nils, .bool false]).size) (by simp [aa.put])]
   simp only [SS,Nat.reduceAdd,ae,FX.whole]
   refine aj K7 (by simp [Wf]) ?_
   simp only [SS,Nat.reduceAdd,xu]
   by_cases h0:m=[]
   . have e0:yc (ck::p) m = .nils:=if_pos h0
     rw [e0,SA (X:=X) (by simp [aa.put])]
     simp only [SS,Nat.reduceAdd,aq i (by omega)]
     refine ⟨(i+1,nn+1+4+4,nn+1000),⟨by simp only [];omega,by simp only [];omega⟩,by simp only [];omega, ?_⟩
     simp only [hn,h0,List.nil_append]
     refine Wk.forget (by simp [Fg,yc]) (fun j => ?_) (by omega)
     by_cases h1:j=(nn+1+4+4)::p
     . right;subst h1;simp [aa.put]
     . by_cases h2:j=hid
       . right;subst h2;simp [aa.put,(IC _).symm]
       . left;simp [aa.put,h1,aa.of,h2]
   . have e0:yc (ck::p) m = .osl (ck::p) 5 0 m.length false:=if_neg h0
     have q1 : ¬ ck=nn+1+2:=by omega
     have q2 : ¬ ck=nn+1+4+3:=by omega
     rw [e0,wo (l:=m) (X:=X) (by simp [aa.put,q1,q2,h0]) (by simp [aa.put]) (by omega)]
     simp only [SS,Nat.reduceAdd,aq i (by omega)]
     refine ⟨(i+1,nn+1+4+4,nn+1000),⟨by simp only [];omega,by simp only [];omega⟩,by simp only [];omega, ?_⟩
     have IX : ¬ m++[X]=[]:=by simp
     simp only [hn,yc,if_neg IX]
     refine Wk.forget (by simp [Fg]) (fun j => ?_) (by omega)
     by_cases h1:j=(nn+1+4+4)::p
     . right;subst h1;simp [aa.put]
     . by_cases h2:j=hid
       . right;subst h2;simp [aa.put,(IC _).symm]
       . left;simp [aa.put,h1,aa.of,h2]
 . have dd:decide ((i:Int)<(l.length:Int))=false:=ak (by omega)
   have Lh:l.take i=l:=List.take_of_length_le (by omega)
   simp only [Lh]
   simp only [SS,Nat.reduceAdd,List.replicate,dd]
   by_cases h0:l=[]
   . have e0:yc (ck::p) l = .nils:=if_pos h0
     rw [e0]
     refine aU▸⟨.nils,rfl,Fin.rm [] (by simp) (kT.view (by rw [h0];exact View.nils 5)) fun j => ?_⟩
     by_cases h2:j=hid
     . subst h2
       refine .inr ⟨fY ls now,fY ls now,by simp [aa.put,(IC _).symm,bF],by simp [aa.app,bF],rfl, .inl rfl,fun _ x hx=>by simp at hx,rfl, ?_,eZ.same _ _⟩
       intro e he;simp [fY] at he;subst he;rfl
     . left;simp [aa.app,aa.of,h2]
   . have e0:yc (ck::p) l = .osl (ck::p) 5 0 l.length false:=if_neg h0
     rw [e0]
     refine aU▸⟨.osl (ck::p) 5 0 l.length false,rfl,Fin.rm [(ck::p,⟨l.map FX.av,5,false⟩)] (by intro x hx;simp only [List.mem_singleton] at hx;subst hx;simp [aa.put,h0]) (kT.view (dX bF)) fun j => ?_⟩
     by_cases h2:j=hid
     . subst h2
       refine .inr ⟨fY ls now,fY ls now,by simp [aa.put,(IC _).symm,bF],by simp [aa.app,bF],rfl, .inl rfl,fun _ x hx=>by simp only [List.mem_singleton] at hx;subst hx;exact IC _,rfl, ?_,eZ.same _ _⟩
       intro e he;simp [fY] at he;subst he;rfl
     . left;simp [aa.app,aa.of,h2]
end
end Go.VL
end

section
set_option linter.unusedVariables false
set_option linter.unusedVariables false
namespace Go.VL
def pt (l:List OX):AV := .sl 9 (l.map OX.av)
theorem Gu (l:List OX):jN false (pt l)=some (.int .i64 (l.length:Int)):=by simp [pt,jN]
theorem Jw (l:List OX):af (pt l):=af.sl (by
 intro c hc
 simp only [flat,List.mem_flatMap,List.mem_map] at hc
 obtain ⟨v,⟨o,_,rfl⟩,hc⟩:=hc
 simp [OX.av,AV.cells] at hc
 rcases hc with rfl | rfl | rfl | rfl | rfl | rfl | rfl | rfl | rfl
 . exact af.int _ _
 . exact af.str _
 . exact af.int _ _
 . exact gY _
 . exact EX.eM _
 . exact af.bool _
 . exact af.str _
 . exact af.bool _
 . exact af.int _ _)
theorem SB {l:List OX} {i:Nat} {o:OX} (h:l[i]? = some o):bz 9 (pt l) (.int .i64 (i:Int))=some (.ep o.av.cells 0):=aS rfl (by rw [List.getElem?_map,h];rfl)
theorem SC:((AV.agg [.int .u8 0, .str [], .int .i64 0, .nils, .nils, .bool false, .str [], .bool false, .int .i64 0]).cells.all AV.one=true)=True:=by simp [AV.cells,AV.one]
theorem Jy {σ : aa} {id:Id} {o:OX} {k:Nat} (h : σ id=some ⟨[.agg [.int .u8 0, .str [], .int .i64 0, .nils, .nils, .bool false, .str [], .bool false, .int .i64 0]],k,false⟩):eO σ 9 (.ref id 0 0) o.av=some { val := .tup [],rd:=[id],up:=[(id,some ⟨[o.av],k,false⟩)] }:=by
 rw [cE (n:=9) (v:=o.av) h rfl rfl (by simp [AV.size,AV.cells]) (of_eq_true (OX.one o))]
 rfl
def uz (o:OX):Bool:=o.F.small&&decide (o.name.length<=100)
def ku (l:List OX):Bool:=l.all uz&&decide (l.length<=40)
noncomputable def Fz (s:List (List FX) × Nat) (o:OX):List (List FX) × Nat:=((wq s.1 s.2 o).1,(wq s.1 s.2 o).2.1)
noncomputable def qK (l:List OX):List (List FX) × Nat:=l.foldl Fz ([[]],0)
theorem Jz (l:List OX) (o:OX):qK (l++[o])=Fz (qK l) o:=by unfold qK;rw [List.foldl_append];rfl
theorem MQ {bh:FX->Prop} (hs:∀ X b,bh X->bh (X.bQ b)) {l:List OX} (hg:∀ o∈l,bh o.F) (i:Nat):AN bh (qK (l.take i)).1 (qK (l.take i)).2/\(qK (l.take i)).1.length<=i+1:=by
 induction i with
 | zero=>exact ⟨U4 bh,by simp [qK]⟩
 | succ i ih =>
   rcases Nat.lt_or_ge i l.length with h | h
   . rw [List.take_add_one,List.getElem?_eq_getElem h,Option.toList_some,Jz]
     have:=Yi (o:=l[i]) ih.1 (hg _ (List.getElem_mem h)) hs
     exact ⟨this.1,by have h2:=this.2;have h3:=ih.2;unfold Fz;simp only [];omega⟩
   . rw [List.take_of_length_le (by omega)]
     rw [List.take_of_length_le h] at ih
     exact ⟨ih.1,by have:=ih.2;omega⟩
theorem aex {a b c:Nat} {p:Id} (h:a≠c) : ¬ (a::p) <:+ (b::c::p):=fun hs=>by
 rcases List.suffix_cons_iff.1 hs with h1 | h1
 . have:=congrArg List.length h1;simp at this
 . have:=h1.eq_of_length (by simp);simp at this;exact h this
theorem abh {a c:Nat} {p:Id} (h:a≠c) : ¬ (a::p) <:+ (c::p):=fun hs=>by
 have:=hs.eq_of_length (by simp);simp at this;exact h this
section
variable {P:Program} {G:Nat->Option (List AV)} {bh:FX->Prop} {f fs JA Bu Bv OJ AP OK AQ OL AR x7 GH:FuncId}
theorem K0 (h:Has P f (j1 fs)) (l:List OX) (hl:l.length<=9223372036854775807) (yl:∀ o∈l,o.name.length<=9223372036854775807) (hS:∀ o∈l,VP P G fs [o.F.av] (.bool o.F.small)):VP P G f [pt l] (.bool (ku l)):=by
 refine VP.has h ?_
 simp only [j1,SS,Nat.reduceAdd,Gu,aE]
 refine VW.bR (α := Nat × Nat) (fun x=>⟨[pt l, .top, .top, .top, .top,pt l, .int .i64 (l.length:Int), .int .i64 (x.1:Int)]++List.replicate 17 .top,fun _=>none,x.2⟩)
   (fun x=>x.1<=l.length/\∀ (j:Nat) o,j<x.1->l[j]? = some o->uz o=true) (fun x=>l.length-x.1) (0,1000) ?_ ⟨Nat.zero_le _,fun j o hj=>absurd hj (Nat.not_lt_zero j)⟩ ?_
 . exact Wk.bc (by simp [Fg,List.replicate]) (by omega)
 rintro ⟨i,nn⟩ ⟨hi,cD⟩
 simp only [] at hi cD
 by_cases aN:i<l.length
 . obtain ⟨o,ho⟩:∃ o,l[i]? = some o:=⟨_,List.getElem?_eq_getElem aN⟩
   have hm:=List.mem_of_getElem? ho
   have dd:decide ((i:Int)<(l.length:Int))=true:=an (by omega)
   have hpF:af o.F.av:=FX.pure o.F
   have RP:uz o=false->ku l=false:=fun hb=>by
     unfold ku
     rw [List.all_eq_false.2 ⟨o,hm,by rw [hb];decide⟩,Bool.false_and]
   simp only [SS,Nat.reduceAdd,List.replicate,dd,SB ho,az,OX.whole,SC]
   rw [Jy (k:=(AV.agg [.int .u8 0, .str [], .int .i64 0, .nils, .nils, .bool false, .str [], .bool false, .int .i64 0]).size) (by simp [aa.put])]
   simp only [SS,Nat.reduceAdd,ae,OX.pF]
   refine aj (hS o hm) (by simp [hpF]) ?_
   cases YW:o.F.small
   . simp only [SS,Nat.reduceAdd]
     rw [RP (by unfold uz;rw [YW];rfl)]
     exact ag▸ab rfl (af.bool _)
   simp only [SS,Nat.reduceAdd,ae,OX.p6]
   by_cases hn:o.name.length<=100
   . have d1:decide ((100:Int)<(o.name.length:Int))=false:=ak (by omega)
     simp only [SS,Nat.reduceAdd,d1,aq i (by omega)]
     refine ⟨(i+1,nn+1000),⟨by simp only [];omega, ?_⟩,by simp only [];omega,Wk.forget (by simp [Fg]) (fun j => .inl rfl) (by omega)⟩
     intro j o' hj hjo
     by_cases B2:j<i
     . exact cD j o' B2 hjo
     . have:j=i:=by simp only [] at hj;omega
       subst this;rw [ho] at hjo;simp only [Option.some.injEq] at hjo;subst hjo
       unfold uz;rw [YW,an hn];rfl
   . have d1:decide ((100:Int)<(o.name.length:Int))=true:=an (by omega)
     simp only [SS,d1]
     rw [RP (by unfold uz;rw [ak hn,Bool.and_false])]
     exact ag▸ab rfl (af.bool _)
 . have dd:decide ((i:Int)<(l.length:Int))=false:=ak (by omega)
   have e:ku l=decide ((l.length:Int)<=40):=by
     unfold ku
     rw [List.all_eq_true.2 fun o ho=>by
       obtain ⟨j,hj,rfl⟩:=List.getElem_of_mem ho
       exact cD j _ (by omega) (List.getElem?_eq_getElem hj),Bool.true_and]
     by_cases q:l.length<=40
     . rw [an q,an (by omega)]
     . rw [ak q,ak (by omega)]
   rw [e]
   simp only [SS,Nat.reduceAdd,List.replicate,dd,Gu]
   exact ag▸ab rfl (af.bool _)
set_option maxHeartbeats 2000000 in
theorem U5 (h:Has P f (ir JA Bu Bv)) (hn:Has P JA ky) (Pn:Has P Bu fZ) (hpf:Has P Bv (eB OJ AP OK AQ OL AR x7 GH)) (H:PH P G bh OJ AP OK AQ OL AR x7 GH)
   (hs:∀ X b,bh X->bh (X.bQ b)) {l:List OX} (hg:∀ o∈l,bh o.F) (hl:l.length<=100) (p:Id) :
   aB P G f [pt l] p [] { val := .tup [.ref (3::3::p) 0 0,bn (qK l).1 (qK l).2, .bool true],up:=[(3::3::p,some (fY (qK l).1 (qK l).2))] }:=by
 refine aB.has h ?_
 simp only [ir,SS,Nat.reduceAdd,DI]
 refine ⟨[],_,UX hn _,by simp,by simp, ?_⟩
 simp only [SS,Nat.reduceAdd]
 refine aj (Yd Pn) (by simp) ?_
 simp only [SS,Nat.reduceAdd,DI]
 rw [zD (k:=(AV.agg [.nils, .int .i64 0]).size) (by simp [aa.put])]
 simp only [SS,Nat.reduceAdd,Gu,aE]
 have k1:(1::p)≠(3::3::p):=fun e=>by have:=congrArg List.length e;simp at this
 have k2:(5::p)≠(3::3::p):=fun e=>by have:=congrArg List.length e;simp at this
 have k3:(1::p)≠(5::p):=by simp
 refine VW.bR (α := Nat × Nat) (fun x=>⟨[pt l, .top, .top, .ref (1::p) 0 0, .top, .ref (3::3::p) 0 0, .ref (5::p) 0 0, .top, .top, .top, .top, .top, .top, .top,pt l, .int .i64 (l.length:Int), .int .i64 (x.1:Int)]++List.replicate 11 .top,
     aa.put (aa.put (aa.put (fun _=>none) (1::p) (some ⟨[.agg [.nils, .int .i64 0]],2,false⟩)) (3::3::p) (some (fY (qK (l.take x.1)).1 (qK (l.take x.1)).2))) (5::p) (some (fY (qK (l.take x.1)).1 (qK (l.take x.1)).2)),x.2⟩)
   (fun x=>x.1<=l.length/\1000<=x.2) (fun x=>l.length-x.1) (0,1000) ?_ ⟨Nat.zero_le _,Nat.le_refl _⟩ ?_
 . refine Wk.forget (by simp [Fg,List.replicate]) (fun j => ?_) (by omega)
   by_cases h5:j=5::p
   . subst h5;right;simp [aa.put,qK,fY];rfl
   by_cases h3:j=3::3::p
   . subst h3;right;simp [aa.put,qK,k2.symm]
   by_cases h1:j=1::p
   . subst h1;right;simp [aa.put,k1,k3];rfl
   . left;simp [aa.put,h1,h3,h5]
 rintro ⟨i,nn⟩ ⟨hi,Wr⟩
 simp only [] at hi Wr
 obtain ⟨hI,hIl⟩:=MQ hs hg i
 by_cases aN:i<l.length
 . obtain ⟨o,ho⟩:∃ o,l[i]? = some o:=⟨_,List.getElem?_eq_getElem aN⟩
   have hm:=List.mem_of_getElem? ho
   have dd:decide ((i:Int)<(l.length:Int))=true:=an (by omega)
   have eH:qK (l.take (i+1))=Fz (qK (l.take i)) o:=by rw [List.take_add_one,ho,Option.toList_some,Jz]
   have BX:=OX.pure o
   generalize qK (l.take i)=s at *
   obtain ⟨ls,a⟩:=s
   simp only [] at hI hIl
   simp only [SS,Nat.reduceAdd,List.replicate,dd,SB ho,az,OX.whole,SC]
   rw [Jy (k:=(AV.agg [.int .u8 0, .str [], .int .i64 0, .nils, .nils, .bool false, .str [], .bool false, .int .i64 0]).size) (by simp [aa.put])]
   simp only [SS,Nat.reduceAdd,ae,OX.whole]
   have n2 : ¬ nn=2:=by omega
   have Qf:=KZ (p:=(nn+1+4+2)::p) hpf H k2.symm hI (by omega) (hg o hm) (aex (by omega)) (abh (by omega))
   refine ⟨[(3::3::p,fY ls a),(5::p,fY ls a)],_,Qf, ?_, ?_, ?_⟩
   . intro x hx
     simp only [List.mem_cons,List.not_mem_nil,or_false] at hx
     rcases hx with rfl | rfl
     . simp [aa.put,k2.symm];try omega
     . simp [aa.put,n2]
   . intro x hx
     simp only [List.mem_cons,List.not_mem_nil,or_false] at hx
     rcases hx with rfl | rfl<;>simp
   simp only [SS,Nat.reduceAdd,aq i (by omega)]
   refine ⟨(i+1,nn+1000),⟨by simp only [];omega,by simp only [];omega⟩,by simp only [];omega, ?_⟩
   simp only [eH]
   refine Wk.forget (by simp [Fg]) (fun j => ?_) (by omega)
   by_cases h5:j=5::p
   . subst h5;right;simp [aa.put,Fz]
   by_cases h3:j=3::3::p
   . subst h3;right;simp [aa.put,Fz,k2.symm]
   by_cases h1:j=1::p
   . subst h1;right;simp [aa.put,k1,k3];try omega
   . left;simp [aa.put,h1,h3,h5]
 . have dd:decide ((i:Int)<(l.length:Int))=false:=ak (by omega)
   have Lh:l.take i=l:=List.take_of_length_le (by omega)
   rw [Lh] at hI
   simp only [Lh]
   generalize qK l=s at *
   obtain ⟨ls,a⟩:=s
   simp only [SS,DD,Nat.reduceAdd,List.replicate,dd]
   rw [Sy (ls:=ls) (now:=a) (aa.bd _ _ _)]
   simp only [SS,DD,Nat.reduceAdd]
   rw [zD (k:=2) (by simp [aa.put,k1,k3])]
   simp only [SS,DD,Nat.reduceAdd]
   refine ⟨by simp [ar], ?_⟩
   refine aU▸aA ?_ fun j => ?_
   . simp only [RS,bU,cy,ae,iC]
   . by_cases h3:j=3::3::p
     . subst h3;right;simp [aa.put,aa.app,k2.symm,k1.symm]
     . left;simp [aa.put,aa.app,h3,aa.of]
end
end Go.VL
end

section
set_option linter.unusedVariables false
set_option linter.unusedVariables false
namespace Go.VL
structure LH (P:Program) (G:Nat->Option (List AV)) (bh:FX->Prop) (faw We JB YP SD JC MR JA Bu Bv fp Av OJ AP OK AQ OL AR x7 GH:FuncId):Prop where
 aw:VP P G faw [] (.bool true)
 play:Has P JB (ir JA Bu Bv)
 new:Has P JA ky
 new2:Has P Bu fZ
 perf:Has P Bv (eB OJ AP OK AQ OL AR x7 GH)
 ph:PH P G bh OJ AP OK AQ OL AR x7 GH
 fe:Has P YP (dN fp Av)
 pres:Has P fp bH
 clone:∀ X,bh X->VP P G Av [X.av] X.av
 now:Has P SD iI
 same:∀ l m:List FX,l.length<=1000->m.length<=1000->(∀ X∈l,bh X)->(∀ X∈m,bh X)->VP P G JC [du l,du m] (.bool (gZ l m))
 list:∀ l:List FX,l.length<=1000->(∀ X∈l,bh X)->VP P G MR [du l] (.bool (ek l))
 supp:∀ X b,bh X->bh (X.bQ b)
section
variable {P:Program} {G:Nat->Option (List AV)} {bh:FX->Prop} {f faw We JB YP SD JC MR JA Bu Bv fp Av OJ AP OK AQ OL AR x7 GH:FuncId}
theorem LH.SE (H:LH P G bh faw We JB YP SD JC MR JA Bu Bv fp Av OJ AP OK AQ OL AR x7 GH) {hid:Id} {ls:List (List FX)} {now:Nat} {l:List FX} (hI:AN bh ls now) (hl:ls[now]? = some l) (p:Id) (qJ : ¬ p <:+ hid) :
   aB P G YP [.ref hid 0 0] p [(hid,fY ls now)] { val:=du l,rd:=[hid] } :=
 Gt H.fe H.pres hl (Nat.le_trans (iD (hI.list l (List.mem_of_getElem? hl))) (by omega)) (fun X hX=>H.clone X (hI.bh l (List.mem_of_getElem? hl) X hX)) p qJ
set_option maxHeartbeats 2000000 in
theorem OO (h:Has P f (gH faw We JB YP SD JC)) (H:LH P G bh faw We JB YP SD JC MR JA Bu Bv fp Av OJ AP OK AQ OL AR x7 GH)
   {l:List OX} (YW:VP P G We [pt l] (.bool (ku l))) (hg:ku l=true->∀ o∈l,bh o.F):VP P G f [pt l] (.bool true):=by
 refine VP.has h ?_
 have BX:=Jw l
 simp only [gH,SS,Nat.reduceAdd]
 refine aj H.aw (by simp) ?_
 simp only [SS,Nat.reduceAdd]
 refine aj YW (by simp [BX]) ?_
 cases hb:ku l
 . simp only [SS,Nat.reduceAdd]
   refine aj H.aw (by simp) ?_
   simp only [SS,Nat.reduceAdd]
   exact ag▸ab rfl (af.bool _)
 have Re:=hg hb
 have hlen:l.length<=40:=by unfold ku at hb;simp at hb;exact hb.2
 obtain ⟨hI,hIl⟩:=MQ H.supp Re l.length
 rw [List.take_length] at hI hIl
 simp only [SS,Nat.reduceAdd]
 refine ⟨[],_,U5 H.play H.new H.new2 H.perf H.ph H.supp Re (by omega) _,by simp,by simp, ?_⟩
 generalize qK l=s at *
 obtain ⟨ls,a⟩:=s
 simp only [] at hI hIl
 obtain ⟨m,hm⟩:∃ m,ls[a]? = some m:=⟨_,List.getElem?_eq_getElem hI.lt⟩
 have hml:=iD (hI.list m (List.mem_of_getElem? hm))
 have hmg:=hI.bh m (List.mem_of_getElem? hm)
 simp only [SS,Nat.reduceAdd,qi,qj,qk,DI]
 rw [zD (k:=(AV.agg [.nils, .int .i64 0]).size) (by simp [aa.put])]
 simp only [SS,DD,Nat.reduceAdd]
 refine ⟨[(_,fY ls a)],_,H.SE hI hm _ ?_, ?_, ?_, ?_⟩
 . decide
 . simp [aa.put]
 . simp
 simp only [SS,DD,Nat.reduceAdd,ae,iC]
 refine ax (Sl H.now ls a hm) (by simp [ke]) ?_
 simp only [SS,DD,Nat.reduceAdd]
 refine ax (H.same m m (by omega) (by omega) hmg hmg) (by simp [dx]) ?_
 rw [bX rfl]
 simp only [SS,DD,Nat.reduceAdd]
 refine ⟨by simp [ar,apart], ?_⟩
 exact ag▸ab rfl (af.bool _)
end
end Go.VL
end

section
set_option maxRecDepth 100000
set_option linter.unusedVariables false
namespace Go.Proofs.YtcomlgfjnjpebaaGreatDoor
open Go.VL Go.Proofs Go.RowKit
def bh (X:FX):Prop:=X.Ok/\X.small=true
theorem pI (X:FX) (b:Bool) (h:bh X):bh (X.bQ b):=⟨⟨h.1.name,h.1.ins,h.1.inl,h.1.vl,h.1.bG⟩,h.2⟩
theorem OP {X:FX} (h:bh X):X.aC.length<=1000/\X.bG.length<=1000:=by
 obtain ⟨h1,h2,_,_⟩:=qn h.2
 omega
theorem FX.aey (X:FX):X.av.cells.all AV.one=true:=of_eq_true (FX.one X)
section
variable (m:Int)
theorem abk (l k:List (List UInt8)) (hl:l.length<=9223372036854775807) (hk:k.length<=9223372036854775807):VP Tryz.prog (gN m) 96 [strs l,strs k] (.bool (gZ l k)):=n5 nG l k hl hk
theorem Yk (l k:List Nat) (hl:l.length<=9223372036854775807) (hk:k.length<=9223372036854775807):VP Tryz.prog (gN m) 135 [.sl 1 (us l), .sl 1 (us k)] (.bool (gZ l k)):=n7 nF l k hl hk
theorem abl (e:EX) (he:e.Ok) (e':EX) (Vd:e'.Ok):VP Tryz.prog (gN m) 98 [e.av,e'.av] (.bool (gZ e e')) :=
 Sf zr (fun b b' ws ML h1 h2=>I5 wi b b' ws ML (Yk m ws ML h1 h2)) cY e he e' Vd
theorem Yl (X Y:FX) (hX:X.Ok) (hY:Y.Ok):VP Tryz.prog (gN m) 68 [X.av,Y.av] (.bool (gZ X Y)) :=
 UQ AF (abk m) cY (abl m) X Y hX hY
theorem abm (l k:List FX) (hl:l.length<=1000) (hk:k.length<=1000) (h1:∀ X∈l,bh X) (h2:∀ X∈k,bh X):VP Tryz.prog (gN m) 67 [du l,du k, .fn (.func 68) [] []] (.bool (gZ l k)) :=
 et dZ FX.av (fun _=>rfl) FX.pure FX.aey FX.whole FX.aba l k (by omega) (by omega) (fun X hX Y hY=>Yl m X Y (h1 X hX).1 (h2 Y hY).1)
theorem SF (e:EX) (he:e.Ok) (e':EX) (Vd:e'.Ok):VP Tryz.prog (gN m) 69 [e.av,e'.av] (.bool (gZ e e')) :=
 Ot r6 (fun n1 w1 n2 w2 Dr B7 Ds B8 q1 q2 q3 q4=>Sg sH n1 w1 n2 w2 Dr B7 Ds B8 (DA lB n1 Dr w1 B7 q1 q3) (DA lB n2 Ds w2 B8 q2 q4)) e he e' Vd
theorem SG (l k:List FX) (hl:l.length<=1000) (hk:k.length<=1000) (h1:∀ X∈l,bh X) (h2:∀ X∈k,bh X):VP Tryz.prog (gN m) 19 [du l,du k] (.bool (gZ l k)) :=
 US sT l k (by omega) (by omega) (fun X hX Y hY=>DB nZ (SF m) X Y (h1 X hX).1 (h2 Y hY).1)
theorem SH (ws:List Nat) (h:ws.length<=1000):VP Tryz.prog (gN m) 95 [.sl 1 (us ws)] (.sl 1 (us ws)):=EZ fA (wD _) (As _) (sK _) (by rw [dG];omega)
theorem SI (e:EX) (hs:nY e=true):VP Tryz.prog (gN m) 66 [e.av] e.av:=by
 unfold nY at hs
 simp only [Bool.and_eq_true,decide_eq_true_eq] at hs
 exact Gq vj (SH m) gS e hs.2 (by omega)
theorem SJ (l:List (List UInt8)) (h:l.length<=1000):VP Tryz.prog (gN m) 64 [strs l] (strs l) :=
 nX nE (by intro e he;obtain ⟨s,_,rfl⟩:=List.mem_map.1 he;rfl) (sR l) (by rw [wc];intro c hc;obtain ⟨s,_,rfl⟩:=List.mem_map.1 hc;exact af.str s) (by rw [List.length_map];omega)
theorem MS (X:FX) (hX:bh X):VP Tryz.prog (gN m) 39 [X.av] X.av:=by
 obtain ⟨h1,h2,_,h4⟩:=qn hX.2
 exact Ou yU X (by omega) (SJ m X.aC (by omega)) gS (fun e he=>SI m e (h4 e he))
theorem SK (l:List FX) (nm:List UInt8) (hl:l.length<=1000) (hg:∀ X∈l,bh X):VP Tryz.prog (gN m) 37 [du l, .str nm] (.int .i64 (dq l nm)) :=
 Sp u7 (fun F n=>N5 sy F n) jg hl (fun X hX=>OP (hg X hX)) nm
theorem abn (l:List FX) (hl:l.length<=1000) (hg:∀ X∈l,bh X):VP Tryz.prog (gN m) 40 [du l] (.bool (pC l)) :=
 Gr p9 l hl (fun X hX=>UO m X (hg X hX).1 (hg X hX).2) (fun X hX=>Fk (hg X hX).2)
   (fun i nm=>SK m (l.take i) nm (by rw [List.length_take];omega) (fun X hX=>hg X (List.mem_of_mem_take hX)))
theorem SL (l:List FX) (hl:l.length<=1000) (hg:∀ X∈l,bh X):VP Tryz.prog (gN m) 23 [du l] (.bool (ek l)) :=
 UU sU l hl (fun X hX=>B9 m X (hg X hX).1 (hg X hX).2) (fun X hX=>UP m X (hg X hX).1 (hg X hX).2) (fun X hX=>Fk (hg X hX).2) (fun l s h=>RW np l h s)
theorem hh:HH Tryz.prog (gN m) bh 36 29 37 38 39 40 41 where
 present:=eN
 valid:=fun X hX=>MJ m X hX.1 hX.2
 find:=SK m
 cloneL:=kp
 clone:=MS m
 sat:=abn m
 change:=fun hid ls now l k p ha xD hl hk Re hgk bY=>by
   have hq:=abm m k l hk hl hgk Re
   unfold DJ
   by_cases h:k=l
   . subst h
     rw [if_pos (bX rfl)]
     rw [bX rfl] at hq
     exact Jh lA eN ha hq p
   . rw [if_neg (by rw [bm h];decide)]
     rw [bm h] at hq
     exact KV lA eN ha xD hq p bY
theorem OQ (l:List FX) (o:OX) (hk:o.kind%7<5) (hL:ek l=true) (hg:∀ X∈l,bh X) (hF:bh o.F):VP Tryz.prog (gN m) 70 [du l,o.av] (.tup [du (cm l o).1, .int .i64 (cm l o).2]):=by
 have hl:=iD hL
 have hp:∀ nm,VP Tryz.prog (gN m) 100 [du l, .str nm] (.int .i64 (dq l nm)):=fun nm=>I6 pz l nm (by omega)
 have hc:∀ i,i<l.length->VP Tryz.prog (gN m) 101 [du l, .int .i64 (i:Int)] (du (gh l i)):=fun i hi=>UT uv l i hi (by omega)
 have AL:∀ k:List FX,k.length<=1000->(∀ X∈k,bh X)->VP Tryz.prog (gN m) 23 [du k] (.bool (ek k)):=fun k h1 h2=>SL m k h1 h2
 have h0:o.kind%7=0∨o.kind%7=1∨o.kind%7=2∨o.kind%7=3∨o.kind%7=4:=by omega
 rcases h0 with h0 | h0 | h0 | h0 | h0
 . exact I8 dP l o h0 (by omega) (B9 m o.F hF.1 hF.2) hp (AL _ (by simp;omega) (by
     intro X hX
     rcases List.mem_append.1 hX with h | h
     . exact hg X h
     . rw [List.mem_singleton] at h;rw [h];exact hF))
 . exact I9 dP l o h0 (by omega) (B9 m o.F hF.1 hF.2) hp (fun i=>AL _ (by rw [List.length_set];omega) (zx hg hF))
 . exact Jb dP l o h0 (by omega) hg pI hp (fun k h1 h2=>AL k (by omega) h2) hc
 . exact Ja dP l o h0 (by omega) hg pI hp (fun k h1 h2=>AL k (by omega) h2) hc
 . exact Jc dP l o h0 (by omega) hg pI hp (fun k h1 h2=>AL k (by omega) h2) hc
theorem aez (ls:List (List FX)) (a:Nat) (o:OX) (hI:AN bh ls a) (xD:ls.length<=900) (hF:bh o.F) :
   VP Tryz.prog (gN m) 43 [bn ls a,o.av] (.tup [bn (wq ls a o).1 (wq ls a o).2.1, .int .i64 (wq ls a o).2.2.1, .bool (wq ls a o).2.2.2]):=by
 obtain ⟨l,hl⟩:∃ l,ls[a]? = some l:=⟨_,List.getElem?_eq_getElem hI.lt⟩
 have hm:=List.mem_of_getElem? hl
 have hL:=hI.list l hm
 have Re:=hI.bh l hm
 have S0:=iD hL
 exact abd vk ls a o hl (by omega) (Sl nx ls a hl) (fun hk=>OQ m l o hk hL Re hF)
   (fun hk h0=>SG m _ _ (by have:=iD (zB h0);omega) (by omega) (zC Re hF pI) Re)
theorem ph:PH Tryz.prog (gN m) bh 43 14 44 45 26 27 24 25 where
 do_:=aez m
 app:=fun hid ls now l X p hl hI xD hX hp=>KW p5 (hh m) hl (by omega) (iD (hI.list l (List.mem_of_getElem? hl))) (hI.bh l (List.mem_of_getElem? hl)) X hX p hp
 ed:=fun hid ls now l X p hl hI xD hX hp=>Sq r9 (hh m) hl (by omega) (iD (hI.list l (List.mem_of_getElem? hl))) (hI.bh l (List.mem_of_getElem? hl)) X hX p hp
 sup:=fun hid ls now l nm on p hl hI xD hp=>UY pe (hh m) hl (by omega) (iD (hI.list l (List.mem_of_getElem? hl))) (hI.bh l (List.mem_of_getElem? hl)) (fun X hX b=>pI X b (hI.bh l (List.mem_of_getElem? hl) X hX)) nm on p hp
 mv:=fun hid ls now l nm pH p hl hI xD hp=>Sw sa fk j9 (hh m) hl (by omega) (iD (hI.list l (List.mem_of_getElem? hl))) (hI.bh l (List.mem_of_getElem? hl)) nm pH p hp
 del:=fun hid ls now l nm p hl hI xD hp=>U3 qo fk (hh m) hl (by omega) (iD (hI.list l (List.mem_of_getElem? hl))) (hI.bh l (List.mem_of_getElem? hl)) nm p hp
 undo:=r7
 redo:=r8
theorem lh (ud:VP Tryz.prog (fun _=>none) 9 [] (.bool true)):LH Tryz.prog (gN m) bh 9 17 18 16 20 19 23 13 21 22 36 39 43 14 44 45 26 27 24 25 where
 aw:=VP.up ud
 play:=sV
 new:=BO
 new2:=uw
 perf:=qp
 ph:=ph m
 fe:=pa
 pres:=eN
 clone:=MS m
 now:=nx
 same:=SG m
 list:=SL m
 supp:=pI
def MT (l:List OX):Prop:=l.length<=9223372036854775807/\∀ o∈l,o.F.Ok/\o.name.length<=9223372036854775807
theorem U6 (l:List OX) (h:MT l):VP Tryz.prog (gN m) 17 [pt l] (.bool (ku l)) :=
 K0 sb l h.1 (fun o ho=>(h.2 o ho).2) (fun o ho=>UN m o.F (h.2 o ho).1)
theorem SM {l:List OX} (h:MT l) (hs:ku l=true):∀ o∈l,bh o.F:=fun o ho=>by
 unfold ku at hs
 simp only [Bool.and_eq_true,List.all_eq_true] at hs
 have:=hs.1 o ho
 unfold uz at this
 simp only [Bool.and_eq_true] at this
 exact ⟨(h.2 o ho).1,this.1⟩
theorem aeA (ud:VP Tryz.prog (fun _=>none) 9 [] (.bool true)) (l:List OX) (h:MT l):VP Tryz.prog (gN m) 5 [pt l] (.bool true) :=
 OO oG (lh m ud) (U6 m l h) (SM h)
end
end Go.Proofs.YtcomlgfjnjpebaaGreatDoor
end

section
namespace Go.VL
section
variable {H:Type} {enc:TypeId × Value->H} {P:Program} {w:World} {spare:Nat->Bool} {held:Bool}
def jD (w:World):Env:=⟨fun _=>none,fun b=>b<w.heap.size⟩
theorem kC {α β : Type} {f : α -> β} {Q : α -> Prop}:∀ {es:List β},(∀ c∈es,∃ x,c=f x/\Q x)->∃ l:List α,es=l.map f/\∀ x∈l,Q x
 | [],_=>⟨[],rfl,by simp⟩
 | c::es,h=>by
   obtain ⟨x,hx,hq⟩:=h c (by simp)
   obtain ⟨l,hl,VF⟩:=kC (es:=es) fun y hy=>h y (by simp [hy])
   exact ⟨x::l,by rw [hx,hl];rfl,by intro y hy;rcases List.mem_cons.1 hy with rfl | hy;exact hq;exact VF y hy⟩
theorem zE {t e:TypeId} {fuel k:Nat} {cs:List Value} {x:DataW H × List MemPlace} (ht:P.underlying t=some (.slice e)) (hk:P.cellsOf e=k) (JP:0<k) (h:DataW.trod enc P w 0 spare held fuel t cs=some x) (Good:AV->Prop)
   (F:∀ n fX y,fuel=n+1->DataW.trod enc P w 0 spare held n e fX=some y->∃ c:AV,Good c/\c.size=k/\aO (jD w) w c.cells fX) :
   ∃ (es:List AV) (v:Value),cs=[v]/\aM (jD w) w (.sl k es) v/\(∀ c∈es,Good c)/\es.length<=maxLen:=by
 rcases DataW.trod_slice ht h with ⟨rfl,rfl⟩ | ⟨a,len,cap,elems,rest,n,YI,rfl,rfl,_,hl,hm,hlen,vn,_,_⟩
 . exact ⟨[],_,rfl,by simp only [aM];exact ⟨none,0,rfl,Nat.le_refl _,Nat.zero_le _,by simp, .inl trivial⟩,by simp,Nat.zero_le _⟩
 have hC:∀ i,i<len->∃ c:AV,Good c/\c.size=k/\∃ fX,w.cells? 0 (a.add (i*k)) k=some fX/\aO (jD w) w c.cells fX:=by
   intro i hi
   have h1:=vn i hi
   rw [List.getElem?_eq_getElem (by omega),hk] at h1
   obtain ⟨fX,h2,h3⟩:=Option.bind_eq_some_iff.1 h1
   obtain ⟨c,hg,hs,hr⟩:=F n fX _ YI h3
   exact ⟨c,hg,hs,fX,h2,hr⟩
 have hC':∀ i:_root_.Fin len,∃ c:AV,Good c/\c.size=k/\∃ fX,w.cells? 0 (a.add (i.1*k)) k=some fX/\aO (jD w) w c.cells fX:=fun i=>hC i.1 i.2
 let C:_root_.Fin len->AV:=fun i=>(hC' i).choose
 have hCs:∀ i,Good (C i)/\(C i).size=k/\∃ fX,w.cells? 0 (a.add (i.1*k)) k=some fX/\aO (jD w) w (C i).cells fX:=fun i=>(hC' i).choose_spec
 have uD:∀ c∈List.ofFn C,c.size=k:=by intro c hc;obtain ⟨i,rfl⟩:=List.mem_ofFn.1 hc;exact (hCs i).2.1
 refine ⟨List.ofFn C,_,rfl, ?_,by intro c hc;obtain ⟨i,rfl⟩:=List.mem_ofFn.1 hc;exact (hCs i).1,by rw [List.length_ofFn];omega⟩
 simp only [aM]
 refine ⟨some a,cap,by rw [List.length_ofFn],by rw [List.length_ofFn];exact hl,hm,uD, ?_⟩
 by_cases h0:len=0
 . left;exact List.length_eq_zero_iff.1 (by rw [List.length_ofFn];exact h0)
 right
 have om:∀ (i:_root_.Fin len) (r:Nat) (c:AV),(C i).cells[r]? = some c->∃ v,w.cell? ((a.add (i.1*k)).add r)=some v/\aM (jD w) w c v:=by
   intro i r c hc
   obtain ⟨_,hs,fX,h1,h2⟩:=hCs i
   obtain ⟨uC,hp⟩:=bC.1 h2
   obtain ⟨v,hv,wM⟩:=hp r c hc
   refine ⟨v, ?_,wM⟩
   have hrk:r<k:=by have:=(List.getElem?_eq_some_iff.1 hc).1;rw [<- hs];exact this
   rw [(World.cells?_some h1).2.2 r hrk,hv]
 obtain ⟨b,o,spot⟩:=a
 have hz:0<len:=Nat.pos_of_ne_zero h0
 obtain ⟨c0,JQ⟩:∃ c,(C ⟨0,hz⟩).cells[0]? = some c:=⟨_,List.getElem?_eq_getElem (by have:=(hCs ⟨0,hz⟩).2.1;unfold AV.size at this;omega)⟩
 obtain ⟨v0,hv0,_⟩:=om ⟨0,hz⟩ 0 c0 JQ
 have abo:((⟨b,o,spot⟩:Addr).add (0*k)).add 0=⟨b,o,spot⟩:=by simp [Addr.add]
 have abp:w.cell? ⟨b,o,spot⟩=some v0:=by rw [<- abo];exact hv0
 have hsp:spot=none:=World.cell?_spot abp
 subst hsp
 refine ⟨b,o,rfl,World.block_lt_of_cell? _ _ abp,dJ.2 ?_⟩
 intro j c hj
 have nH:j<(flat (List.ofFn C)).length:=(List.getElem?_eq_some_iff.1 hj).1
 rw [cG uD,List.length_ofFn] at nH
 have hjk:j/k<len:=(Nat.div_lt_iff_lt_mul JP).2 nH
 have XC:j%k<k:=Nat.mod_lt _ JP
 have aeB:(List.ofFn C)[j/k]? = some (C ⟨j/k,hjk⟩):=by rw [List.getElem?_ofFn,dif_pos hjk]
 have Cc:=flat_get uD aeB XC
 have hjj:j/k*k+j%k=j:=by rw [Nat.mul_comm];exact Nat.div_add_mod j k
 rw [hjj,hj] at Cc
 obtain ⟨v,hv,hr⟩:=om ⟨j/k,hjk⟩ (j%k) c Cc.symm
 refine ⟨v, ?_,hr⟩
 have aeC:((⟨b,o,none⟩:Addr).add (j/k*k)).add (j%k)=⟨b,o+j,none⟩:=by
   have h1:∀ (o n:Nat),(⟨b,o,none⟩:Addr).add n=⟨b,o+n,none⟩:=fun o n=>by unfold Addr.add;split<;>simp_all
   rw [h1,h1,Nat.add_assoc,hjj]
 rw [<- aeC];exact hv
end
end Go.VL
end

section
set_option maxRecDepth 100000
namespace Go.Proofs
open Go.VL
theorem pJ:maxLen<=9223372036854775807:=Nat.le_refl _
section
variable {H:Type} {enc:TypeId × Value->H} {w:World} {spare:Nat->Bool} {held:Bool} {fuel:Nat} {cs:List Value} {x:DataW H × List MemPlace}
theorem Gv (h:DataW.trod enc Tryz.prog w 0 spare held fuel 9 cs=some x):∃ s:List UInt8,aO (jD w) w [.str s] cs/\s.length<=9223372036854775807:=by
 obtain ⟨s,rfl,_,hs⟩:=DataW.trod_string Tryz.underlying9 h
 refine ⟨s.data.toList, ?_, ?_⟩
 . simp only [aO,aM]
   exact ⟨_,[],rfl,rfl,rfl⟩
 . have e:s.data.toList.length=s.size:=Array.length_toList
   rw [e];exact Nat.le_trans hs pJ
theorem K1 (h:DataW.trod enc Tryz.prog w 0 spare held fuel 3 cs=some x):∃ n:Int,aO (jD w) w [.int .i64 n] cs /\ -9223372036854775808<=n/\n<=9223372036854775807:=by
 obtain ⟨n,rfl,_,hw⟩:=DataW.trod_int Tryz.underlying3 h
 exact ⟨n,by simp [aO,aM],(bounds_i64 hw).1,(bounds_i64 hw).2⟩
theorem Gw (h:DataW.trod enc Tryz.prog w 0 spare held fuel 4 cs=some x):∃ b:Bool,aO (jD w) w [.bool b] cs:=by
 obtain ⟨b,rfl,_⟩:=DataW.trod_bool Tryz.underlying4 h
 exact ⟨b,by simp [aO,aM]⟩
theorem SN (h:DataW.trod enc Tryz.prog w 0 spare held fuel 57 cs=some x):∃ ws:List Nat,aO (jD w) w [.sl 1 (us ws)] cs/\Wd ws/\ws.length<=9223372036854775807:=by
 obtain ⟨es,v,rfl,hr,hg,hl⟩:=zE (k:=1) Tryz.underlying57 (by kernel_rfl) (by decide) h (fun c=>∃ n:Nat,c = .int .u32 (n:Int)/\n<au) (fun n fX y _ hy=>by
   obtain ⟨n,rfl,_,hw⟩:=DataW.trod_int Tryz.underlying116 hy
   have hb:=bounds_u32 hw
   obtain ⟨m,rfl⟩:=Int.eq_ofNat_of_zero_le hb.1
   exact ⟨.int .u32 (m:Int),⟨m,rfl,by unfold au;omega⟩,rfl,by simp [AV.cells,aO,aM]⟩)
 obtain ⟨ws,rfl,hw⟩:=kC hg
 refine ⟨ws,by simp only [aO];exact ⟨v,[],rfl,hr,rfl⟩,hw, ?_⟩
 rw [List.length_map] at hl
 exact Nat.le_trans hl pJ
theorem U7 (h:DataW.trod enc Tryz.prog w 0 spare held fuel 22 cs=some x):∃ l:List (List UInt8),aO (jD w) w [strs l] cs/\(∀ s∈l,s.length<=9223372036854775807)/\l.length<=9223372036854775807:=by
 obtain ⟨es,v,rfl,hr,hg,hl⟩:=zE (k:=1) Tryz.underlying22 (by kernel_rfl) (by decide) h (fun c=>∃ s:List UInt8,c = .str s/\s.length<=9223372036854775807) (fun n fX y _ hy=>by
   obtain ⟨s,hs,hl⟩:=Gv hy
   exact ⟨.str s,⟨s,rfl,hl⟩,rfl,hs⟩)
 obtain ⟨l,rfl,hw⟩:=kC hg
 refine ⟨l,by simp only [aO];exact ⟨v,[],rfl,hr,rfl⟩,hw, ?_⟩
 rw [List.length_map] at hl
 exact Nat.le_trans hl pJ
theorem SO (h:DataW.trod enc Tryz.prog w 0 spare held fuel 59 cs=some x):∃ (b:Bool) (ws:List Nat),aO (jD w) w [.bool b, .sl 1 (us ws)] cs/\Wd ws/\ws.length<=9223372036854775807:=by
 obtain ⟨xs,n,_,_,hl,M6,hf⟩:=DataW.trod_struct Tryz.underlying59 h
 have hC:Tryz.prog.cellsOf 59=2:=by kernel_rfl
 have h4:Tryz.prog.cellsOf 4=1:=by kernel_rfl
 have h57:Tryz.prog.cellsOf 57=1:=by kernel_rfl
 rw [hC] at hl
 have hxs:xs.length=2:=M6
 match cs,hl with
 | [c0,c1],_ =>
   have f0:DataW.trod enc Tryz.prog w 0 spare held n 4 (List.take (Tryz.prog.cellsOf 4) (List.drop 0 [c0,c1]))=xs[0]? := hf 0 _ rfl
   have f1:DataW.trod enc Tryz.prog w 0 spare held n 57 (List.take (Tryz.prog.cellsOf 57) (List.drop 1 [c0,c1]))=xs[1]? := hf 1 _ rfl
   rw [List.getElem?_eq_getElem (by omega)] at f0 f1
   simp only [h4,h57,List.drop_zero,List.drop_succ_cons,List.take_succ_cons,List.take_zero] at f0 f1
   obtain ⟨b,hb⟩:=Gw f0
   obtain ⟨ws,hw,iu,hwl⟩:=SN f1
   exact ⟨b,ws,aO.append (xs:=[.bool b]) (us:=[c0]) hb hw,iu,hwl⟩
theorem Ym (h:DataW.trod enc Tryz.prog w 0 spare held fuel 61 cs=some x):∃ (n1:Bool) (w1:List Nat) (n2:Bool) (w2:List Nat),aO (jD w) w [.bool n1, .sl 1 (us w1), .bool n2, .sl 1 (us w2)] cs/\Wd w1/\Wd w2/\w1.length<=9223372036854775807/\w2.length<=9223372036854775807:=by
 obtain ⟨xs,n,_,_,hl,M6,hf⟩:=DataW.trod_struct Tryz.underlying61 h
 have hC:Tryz.prog.cellsOf 61=4:=by kernel_rfl
 have h59:Tryz.prog.cellsOf 59=2:=by kernel_rfl
 rw [hC] at hl
 have hxs:xs.length=2:=M6
 match cs,hl with
 | [c0,c1,c2,c3],_ =>
   have f0:DataW.trod enc Tryz.prog w 0 spare held n 59 (List.take (Tryz.prog.cellsOf 59) (List.drop 0 [c0,c1,c2,c3]))=xs[0]? := hf 0 _ rfl
   have f1:DataW.trod enc Tryz.prog w 0 spare held n 59 (List.take (Tryz.prog.cellsOf 59) (List.drop 2 [c0,c1,c2,c3]))=xs[1]? := hf 1 _ rfl
   rw [List.getElem?_eq_getElem (by omega)] at f0 f1
   simp only [h59,List.drop_zero,List.drop_succ_cons,List.take_succ_cons,List.take_zero] at f0 f1
   obtain ⟨n1,w1,h1,qw,mR⟩:=SO f0
   obtain ⟨n2,w2,h2,tp,uC⟩:=SO f1
   exact ⟨n1,w1,n2,w2,aO.append (xs:=[.bool n1, .sl 1 (us w1)]) (us:=[c0,c1]) h1 h2,qw,tp,mR,uC⟩
theorem U8:∀ (fuel:Nat) (cs:List Value) (x:DataW H × List MemPlace),DataW.trod enc Tryz.prog w 0 spare held fuel 63 cs=some x->∃ e:EX,e.Ok/\aO (jD w) w e.av.cells cs:=by
 intro fuel
 induction fuel using Nat.strongRecOn with
 | ind fuel ih =>
   intro cs x h
   obtain ⟨xs,n,YI,_,hl,M6,hf⟩:=DataW.trod_struct Tryz.underlying63 h
   have hC:Tryz.prog.cellsOf 63=7:=by kernel_rfl
   have h3:Tryz.prog.cellsOf 3=1:=by kernel_rfl
   have h61:Tryz.prog.cellsOf 61=4:=by kernel_rfl
   have h9:Tryz.prog.cellsOf 9=1:=by kernel_rfl
   have h23:Tryz.prog.cellsOf 23=1:=by kernel_rfl
   rw [hC] at hl
   have hxs:xs.length=4:=M6
   match cs,hl with
   | [c0,c1,c2,c3,c4,c5,c6],_ =>
     have f0:DataW.trod enc Tryz.prog w 0 spare held n 3 (List.take (Tryz.prog.cellsOf 3) (List.drop 0 [c0,c1,c2,c3,c4,c5,c6]))=xs[0]? := hf 0 _ rfl
     have f1:DataW.trod enc Tryz.prog w 0 spare held n 61 (List.take (Tryz.prog.cellsOf 61) (List.drop 1 [c0,c1,c2,c3,c4,c5,c6]))=xs[1]? := hf 1 _ rfl
     have f2:DataW.trod enc Tryz.prog w 0 spare held n 9 (List.take (Tryz.prog.cellsOf 9) (List.drop 5 [c0,c1,c2,c3,c4,c5,c6]))=xs[2]? := hf 2 _ rfl
     have f3:DataW.trod enc Tryz.prog w 0 spare held n 23 (List.take (Tryz.prog.cellsOf 23) (List.drop 6 [c0,c1,c2,c3,c4,c5,c6]))=xs[3]? := hf 3 _ rfl
     rw [List.getElem?_eq_getElem (by omega)] at f0 f1 f2 f3
     simp only [h3,h61,h9,h23,List.drop_zero,List.drop_succ_cons,List.take_succ_cons,List.take_zero] at f0 f1 f2 f3
     obtain ⟨op,ho,qz,Gx⟩:=K1 f0
     obtain ⟨n1,w1,n2,w2,hr,qw,tp,mR,uC⟩:=Ym f1
     obtain ⟨nm,hn,yl⟩:=Gv f2
     obtain ⟨es,v,hv,JO,hg,vn⟩:=zE (k:=7) Tryz.underlying23 hC (by decide) f3 (fun c=>∃ e:EX,c=e.av/\e.Ok) (fun m fX y hm hy=>by
       obtain ⟨e,he,her⟩:=ih m (by omega) fX y hy
       exact ⟨e.av,⟨e,rfl,he⟩,EX.size e,her⟩)
     obtain ⟨args,rfl,ml⟩:=kC hg
     rw [List.length_map] at vn
     have GF:=Nat.le_trans vn pJ
     refine ⟨.mk op n1 w1 n2 w2 nm args, ?_, ?_⟩
     . rw [EX.Ok]
       exact ⟨qz,by omega,qw,tp,mR,uC,yl,GF,EX.Gi.2 ml⟩
     . rw [EX.av,EX.cJ]
       have kQ:aO (jD w) w [.sl 7 (args.map EX.av)] [c6]:=by
         rw [hv];simp only [aO];exact ⟨v,[],rfl,JO,rfl⟩
       exact aO.append (xs:=[.int .i64 op]) (us:=[c0]) ho (aO.append (xs:=[.bool n1, .sl 1 (us w1), .bool n2, .sl 1 (us w2)]) (us:=[c1,c2,c3,c4]) hr (aO.append (xs:=[.str nm]) (us:=[c5]) hn kQ))
theorem K2 (ht:Tryz.prog.underlying 25=Tryz.prog.underlying 25) (h:DataW.trod enc Tryz.prog w 0 spare held fuel 25 cs=some x):∃ X:FX,X.Ok/\aO (jD w) w X.av.cells cs:=by
 obtain ⟨xs,n,YI,_,hl,M6,hf⟩:=DataW.trod_struct Tryz.underlying25 h
 have hC:Tryz.prog.cellsOf 25=5:=by kernel_rfl
 have h9:Tryz.prog.cellsOf 9=1:=by kernel_rfl
 have h3:Tryz.prog.cellsOf 3=1:=by kernel_rfl
 have h22:Tryz.prog.cellsOf 22=1:=by kernel_rfl
 have h23:Tryz.prog.cellsOf 23=1:=by kernel_rfl
 have h4:Tryz.prog.cellsOf 4=1:=by kernel_rfl
 have h63:Tryz.prog.cellsOf 63=7:=by kernel_rfl
 rw [hC] at hl
 have hxs:xs.length=5:=M6
 match cs,hl with
 | [c0,c1,c2,c3,c4],_ =>
   have f0:DataW.trod enc Tryz.prog w 0 spare held n 9 (List.take (Tryz.prog.cellsOf 9) (List.drop 0 [c0,c1,c2,c3,c4]))=xs[0]? := hf 0 _ rfl
   have f1:DataW.trod enc Tryz.prog w 0 spare held n 3 (List.take (Tryz.prog.cellsOf 3) (List.drop 1 [c0,c1,c2,c3,c4]))=xs[1]? := hf 1 _ rfl
   have f2:DataW.trod enc Tryz.prog w 0 spare held n 22 (List.take (Tryz.prog.cellsOf 22) (List.drop 2 [c0,c1,c2,c3,c4]))=xs[2]? := hf 2 _ rfl
   have f3:DataW.trod enc Tryz.prog w 0 spare held n 23 (List.take (Tryz.prog.cellsOf 23) (List.drop 3 [c0,c1,c2,c3,c4]))=xs[3]? := hf 3 _ rfl
   have f4:DataW.trod enc Tryz.prog w 0 spare held n 4 (List.take (Tryz.prog.cellsOf 4) (List.drop 4 [c0,c1,c2,c3,c4]))=xs[4]? := hf 4 _ rfl
   rw [List.getElem?_eq_getElem (by omega)] at f0 f1 f2 f3 f4
   simp only [h3,h9,h22,h23,h4,List.drop_zero,List.drop_succ_cons,List.take_succ_cons,List.take_zero] at f0 f1 f2 f3 f4
   obtain ⟨nm,hn,yl⟩:=Gv f0
   obtain ⟨kd,hk,_,_⟩:=K1 f1
   obtain ⟨l,hi,Lh,S0⟩:=U7 f2
   obtain ⟨es,v,hv,JO,hg,vn⟩:=zE (k:=7) Tryz.underlying23 h63 (by decide) f3 (fun c=>∃ e:EX,c=e.av/\e.Ok) (fun m fX y hm hy=>by
     obtain ⟨e,he,her⟩:=U8 m fX y hy
     exact ⟨e.av,⟨e,rfl,he⟩,EX.size e,her⟩)
   obtain ⟨bG,rfl,ml⟩:=kC hg
   rw [List.length_map] at vn
   obtain ⟨sp,hs⟩:=Gw f4
   refine ⟨⟨nm,kd,l,bG,sp⟩,⟨yl,S0,Lh,Nat.le_trans vn pJ,ml⟩, ?_⟩
   have abq:aO (jD w) w [.sl 7 (EX.kY bG)] [c3]:=by
     rw [hv,EX.cJ];simp only [aO];exact ⟨v,[],rfl,JO,rfl⟩
   show aO (jD w) w [.str nm, .int .i64 kd,strs l, .sl 7 (EX.kY bG), .bool sp] _
   exact aO.append (xs:=[.str nm]) (us:=[c0]) hn (aO.append (xs:=[.int .i64 kd]) (us:=[c1]) hk (aO.append (xs:=[strs l]) (us:=[c2]) hi (aO.append (xs:=[.sl 7 (EX.kY bG)]) (us:=[c3]) abq hs)))
end
end Go.Proofs
end

section
set_option maxRecDepth 100000
set_option linter.unusedVariables false
namespace Go.Proofs
open Go.VL Go.Proofs.YtcomlgfjnjpebaaGreatDoor
section
variable {H:Type} {enc:TypeId × Value->H} {w:World} {spare:Nat->Bool} {held:Bool} {fuel:Nat} {cs:List Value} {x:DataW H × List MemPlace}
theorem abr (h:DataW.trod enc Tryz.prog w 0 spare held fuel 5 cs=some x):∃ n:Nat,aO (jD w) w [.int .u8 (n:Int)] cs:=by
 obtain ⟨n,rfl,_,hw⟩:=DataW.trod_int Tryz.underlying5 h
 obtain ⟨m,rfl⟩:=Int.eq_ofNat_of_zero_le (bounds_u8 hw).1
 exact ⟨m,by simp [aO,aM]⟩
theorem abt (h:DataW.trod enc Tryz.prog w 0 spare held fuel 49 cs=some x):∃ o:OX,o.F.Ok/\o.name.length<=9223372036854775807/\aO (jD w) w o.av.cells cs:=by
 obtain ⟨xs,n,YI,_,hl,M6,hf⟩:=DataW.trod_struct Tryz.underlying49 h
 have hC:Tryz.prog.cellsOf 49=9:=by kernel_rfl
 have h5:Tryz.prog.cellsOf 5=1:=by kernel_rfl
 have h25:Tryz.prog.cellsOf 25=5:=by kernel_rfl
 have h9:Tryz.prog.cellsOf 9=1:=by kernel_rfl
 have h4:Tryz.prog.cellsOf 4=1:=by kernel_rfl
 have h3:Tryz.prog.cellsOf 3=1:=by kernel_rfl
 rw [hC] at hl
 have hxs:xs.length=5:=M6
 match cs,hl with
 | [c0,c1,c2,c3,c4,c5,c6,c7,c8],_ =>
   have f0:DataW.trod enc Tryz.prog w 0 spare held n 5 (List.take (Tryz.prog.cellsOf 5) (List.drop 0 [c0,c1,c2,c3,c4,c5,c6,c7,c8]))=xs[0]? := hf 0 _ rfl
   have f1:DataW.trod enc Tryz.prog w 0 spare held n 25 (List.take (Tryz.prog.cellsOf 25) (List.drop 1 [c0,c1,c2,c3,c4,c5,c6,c7,c8]))=xs[1]? := hf 1 _ rfl
   have f2:DataW.trod enc Tryz.prog w 0 spare held n 9 (List.take (Tryz.prog.cellsOf 9) (List.drop 6 [c0,c1,c2,c3,c4,c5,c6,c7,c8]))=xs[2]? := hf 2 _ rfl
   have f3:DataW.trod enc Tryz.prog w 0 spare held n 4 (List.take (Tryz.prog.cellsOf 4) (List.drop 7 [c0,c1,c2,c3,c4,c5,c6,c7,c8]))=xs[3]? := hf 3 _ rfl
   have f4:DataW.trod enc Tryz.prog w 0 spare held n 3 (List.take (Tryz.prog.cellsOf 3) (List.drop 8 [c0,c1,c2,c3,c4,c5,c6,c7,c8]))=xs[4]? := hf 4 _ rfl
   rw [List.getElem?_eq_getElem (by omega)] at f0 f1 f2 f3 f4
   simp only [h5,h25,h9,h4,h3,List.drop_zero,List.drop_succ_cons,List.take_succ_cons,List.take_zero] at f0 f1 f2 f3 f4
   obtain ⟨k,hk⟩:=abr f0
   obtain ⟨X,hX,hXr⟩:=K2 rfl f1
   obtain ⟨nm,hn,yl⟩:=Gv f2
   obtain ⟨on,ho⟩:=Gw f3
   obtain ⟨tg,ht,_,_⟩:=K1 f4
   refine ⟨⟨k,X,nm,on,tg⟩,hX,yl, ?_⟩
   have aeF:aO (jD w) w [.str X.name, .int .i64 X.kind,strs X.aC, .sl 7 (EX.kY X.bG), .bool X.supp] [c1,c2,c3,c4,c5]:=hXr
   show aO (jD w) w [.int .u8 (k:Int), .str X.name, .int .i64 X.kind,strs X.aC, .sl 7 (EX.kY X.bG), .bool X.supp, .str nm, .bool on, .int .i64 tg] _
   exact aO.append (xs:=[.int .u8 (k:Int)]) (us:=[c0]) hk (aO.append (xs:=[.str X.name, .int .i64 X.kind,strs X.aC, .sl 7 (EX.kY X.bG), .bool X.supp]) (us:=[c1,c2,c3,c4,c5]) aeF (aO.append (xs:=[.str nm]) (us:=[c6]) hn (aO.append (xs:=[.bool on]) (us:=[c7]) ho ht)))
theorem Yn (h:DataW.trod enc Tryz.prog w 0 spare held fuel 38 cs=some x):∃ l:List OX,MT l/\aO (jD w) w [pt l] cs:=by
 have hC:Tryz.prog.cellsOf 49=9:=by kernel_rfl
 obtain ⟨es,v,rfl,hr,hg,hl⟩:=zE (k:=9) Tryz.underlying38 hC (by decide) h (fun c=>∃ o:OX,c=o.av/\o.F.Ok/\o.name.length<=9223372036854775807) (fun n fX y _ hy=>by
   obtain ⟨o,h1,h2,h3⟩:=abt hy
   exact ⟨o.av,⟨o,rfl,h1,h2⟩,OX.sz o,h3⟩)
 obtain ⟨l,rfl,hw⟩:=kC hg
 rw [List.length_map] at hl
 exact ⟨l,⟨Nat.le_trans hl pJ,hw⟩,by simp only [aO];exact ⟨v,[],rfl,hr,rfl⟩⟩
end
end Go.Proofs
end

section
namespace Go.VL
open Go.ChangeShapes Go.WideShapes Go.ChangeAt Go.RowKit
section
variable {H:Type} {enc:TypeId × Value->H} {P:Program}
theorem xw (hl:laidOutB P=true) {W W':World} {sp:Nat->Bool} (hB:Below W.heap.size W W'):∀ {ts:List TypeId} {vs:List Value} {ds:List (DataW H)} {ps:List MemPlace},
   (∀ t∈ts,P.readableRec t=true/\t<P.types.size)->DataW.TrodAll enc P W 0 (fun _=>true) true ts vs ds ps->(∀ p∈ps,p.block<W.heap.size)->(∀ p∈ps,sp p.block=true) ->
   DataW.TrodAll enc P W' 0 sp true ts vs ds ps
 | [],[],[],ps,_,h,_,_=>by simpa [DataW.TrodAll] using h
 | t::ts,v::vs,d::ds,ps,hr,h,aN,hsp=>by
   simp only [DataW.TrodAll] at h ⊢
   obtain ⟨p,q,h1,h2,rfl⟩:=h
   refine ⟨p,q, ?_,xw hl hB (fun x hx=>hr x (by simp [hx])) h2 (fun x hx=>aN x (by simp [hx])) (fun x hx=>hsp x (by simp [hx])),rfl⟩
   exact WideElems.Trod_stays hl (hr t (by simp)).1 (hr t (by simp)).2 h1 (fun x hx=>hB.same (aN x (by simp [hx]))) (fun x hx=>hsp x (by simp [hx]))
 | [],[],_::_,_,_,h,_,_=>by simp [DataW.TrodAll] at h
 | [],_::_,_,_,_,h,_,_=>by simp [DataW.TrodAll] at h
 | _::_,[],_,_,_,h,_,_=>by simp [DataW.TrodAll] at h
 | _::_,_::_,[],_,_,h,_,_=>by simp [DataW.TrodAll] at h
theorem SP {f:Func} {s:ChangeSpec} {apart fresh handsOn:Bool} {W W':World} {args:Array Value} {ds gs:List (DataW H)} {before:List MemPlace}
   (hl:laidOutB P=true) (hr:∀ t∈f.params.toList,P.readableRec t=true/\t<P.types.size) (hv:s.vars=[])
   (hs:(s.fn H (ds++gs))={ results:=[.lit (.bool true)],args:=ds }) {tb:TypeId} (BB:f.resultTypes = #[tb]) (htb:P.underlying tb=some .bool)
   (hW:DataW.Whole enc P f.params.toList s.vars apart W args.toList ds gs before) (hB:Below W.heap.size W W') :
   s.post enc P f apart fresh handsOn false W args (.bool true) W':=by
 have aN:=hW.lt
 have hW':=hW
 obtain ⟨p,q,h1,h2,rfl,h3,h4⟩:=hW
 rw [hv] at h2
 have hq:q=[]/\gs=[]:=by
   cases gs with
   | nil=>simp only [DataW.TrodVars] at h2;exact ⟨h2,rfl⟩
   | cons _ _=>simp [DataW.TrodVars] at h2
 obtain ⟨rfl,rfl⟩:=hq
 refine ⟨ds,[],p++[],[],p,[],hW', ?_, ?_, ?_,hB.frame _,fun h=>by simp at h⟩
 . rw [hs,BB]
   exact trodAll_mk1 ⟨1,by simp [DataW.trod,htb,Value.cells]⟩
 . rw [hs]
   exact xw hl hB hr h1 (fun x hx=>aN x (by simp [hx])) (fun x hx=>by simpa using aN x (by simp [hx]))
 . rw [hs,hv];simp [DataW.TrodVars]
end
theorem JD {P:Program} {G:Nat->Option (List AV)} {f:FuncId} {args:List AV} {r:dQ} (h:aB P G f args [] [] r) (hr:r.val = .bool true) {w:World} {ok:Nat->Prop}
   (ml:∀ b,ok b->b<w.heap.size) (hg:∀ g cs,G g=some cs->ok g/\cv ⟨fun _=>none,ok⟩ w g 0 cs) {vs:List Value} (ha:aO ⟨fun _=>none,ok⟩ w args vs) :
   Calls P f vs.toArray w fun e w'=>e = .returned (.bool true)/\Below w.heap.size w w':=by
 have hi:Inv G (fun k=>w.heap.size<=k) ⟨fun _=>none,ok⟩ w (fun _=>none):=⟨ml,fun id bk h=>by simp at h,fun i j x y h=>absurd rfl h,hg,fun k hk=>hk⟩
 refine (h.2 _ _ w _ vs (by simp) hi ha (fun _ _=>rfl)).mono fun e w' he => ?_
 obtain ⟨v,E',rfl,hp⟩:=he
 have hv:=hp.rep
 rw [hr] at hv
 simp only [aM] at hv
 subst hv
 exact ⟨rfl,hp.Ce.os,hp.Ce.tape,hp.Ce.output,hp.Ce.size,fun k hk=>hp.Ce.block k hk (by omega)⟩
end Go.VL
end

section
namespace Go.Proofs.YtcomlgfjnjpebaaGreatDoor
open Go.ChangeShapes Go.WideShapes Go.ChangeAt Go.WideMaps Go.WideElems Go.RowKit
theorem Tryz.own:ownKnob Tryz.prog.godebug=none:=by kernel_rfl
theorem Tryz.laidOut:laidOutB Tryz.prog=true:=by kernel_rfl
set_option maxRecDepth 100000 in
theorem SQ:VL.VP Tryz.prog (fun _=>none) 9 [] (.bool true):=VL.VP.TH Zx rfl rfl (VL.cj.bool true)
theorem zG {H:Type} {enc:TypeId × Value->H} {a:Assume} {C:Checked} {os:Os} {f:FuncId} {fn:Func} {s:ChangeSpec} {conds:List PathCond} {apart fresh handsOn again:Bool} {X:World->Array Value->Prop}
   (hX:∀ (w w':World) (args:Array Value),w.heap=w'.heap->X w args->X w' args)
   (own:ownKnob C.prog.godebug=none) (started:os.Started) (Yo:C.prog.inits.idxOf? f=none) (FN:C.prog.funcs[f]? = some fn)
   (witness:∃ (w:World) (tape:Tape) (i:Input),w.os=os/\(w.forCall tape i).Shaped C.prog/\i.vars=[]/\Input.okWide C.prog (w.forCall tape i) .any w.heap.size f i /\
     ((s.pre enc C.prog fn conds apart (w.forCall tape i).memory i.args/\X (w.forCall tape i).memory i.args)/\sizedMet enc C.prog fn (OpenSpec.ofChange s) apart (w.forCall tape i).memory i.args)/\a.holds C.prog (lone (Frame.enter C.prog f i.args .normal) [] (w.forCall tape i)))
   (SR:∀ (W:World) (base:Nat) (args:Array Value) (ds gs:List (DataW H)) (before:List MemPlace),
     (∀ (j:Nat) t v,fn.params[j]? = some t->args[j]? = some v->Value.okWide C.prog W .any base t v) ->
     DataW.Whole enc C.prog fn.params.toList s.vars apart W args.toList ds gs before->X W args->W.ShapedOpen C.prog ->
     Calls C.prog f args W fun e W'=>∃ v,e = .returned v/\s.post enc C.prog fn apart fresh handsOn again W args v W') :
   ReturnsInHanded a C os f .any (fun w args=>(s.pre enc C.prog fn conds apart w args/\X w args)/\sizedMet enc C.prog fn (OpenSpec.ofChange s) apart w args) (s.post enc C.prog fn apart fresh handsOn again):=by
 refine returnsInHanded_of_calls own started Yo witness ?_
 intro w tape i _ Bx _ ml aeH _
 obtain ⟨_,_,_,fn',aeI,_,_,_,_,kX⟩:=ml
 have e:fn'=fn:=Option.some.inj (aeI.symm.trans FN)
 subst e
 obtain ⟨⟨⟨ds,gs,before,hw,_⟩,hx⟩,_⟩:=aeH
 have hw':=DataW.Whole.of_heap (w':=w.forCall tape i) (by rfl) hw
 refine (SR (w.forCall tape i) w.heap.size i.args ds gs before kX hw' (hX _ _ _ (by rfl) hx) Bx).mono fun e W' ⟨v,he,hp⟩ => ?_
 subst he
 exact ChangeSpec.post_blind hp
theorem FA {P:Program} {w:World} {n:String} {k:IntKind} {zs:List Int} {g t e:Nat} (h:Lib.VarReads P w n (.agg (zs.map fun z => .lit (.int k z)))) (hg:P.globalNamed n=some g) (ht:(P.globals[g]?).map (·.type)=some t)
   (hu:P.underlying t=some (.array zs.length e)) (he:P.underlying e=some (.int k)) (hc:P.cellsOf e=1) (E:VL.Env) :
   g<w.heap.size/\VL.cv E w g 0 (zs.map fun z=>VL.AV.int k z):=by
 obtain ⟨g',t',cs,fuel,p,h1,h2,h3,h4⟩:=h
 obtain rfl:g'=g:=Option.some.inj (h1.symm.trans hg)
 obtain rfl:t'=t:=Option.some.inj (h2.symm.trans ht)
 have om:∃ ty fr,w.heap[g']? = some (.cells cs ty fr):=by
   unfold World.var? at h3
   rw [hg] at h3
   simp only [Option.bind_some] at h3
   cases hh:w.heap[g']? with
   | none=>rw [hh] at h3;cases h3
   | some o =>
     rw [hh] at h3
     cases o<;>simp at h3
     subst h3
     exact ⟨_,_,rfl⟩
 obtain ⟨ty,fr,om⟩:=om
 refine ⟨VL.dK om,VL.gA.2 fun j c hj => ?_⟩
 rw [List.getElem?_map] at hj
 cases hz:zs[j]? with
 | none=>rw [hz] at hj;cases hj
 | some z =>
   rw [hz] at hj
   simp only [Option.map_some,Option.some.injEq] at hj
   subst hj
   have aN:j<zs.length:=(List.getElem?_eq_some_iff.1 hz).1
   obtain ⟨agk,d,q,hd,hr⟩:=Lib.array_elem hu h4 j aN
   rw [List.getElem?_map,hz] at hd
   simp only [Option.map_some,Option.some.injEq] at hd
   subst hd
   rw [hc,Nat.mul_one] at hr
   obtain ⟨m,hm,hx,_⟩:=DataW.trod_int he hr
   simp only [Prod.mk.injEq,DataW.lit.injEq,Lit.int.injEq,true_and] at hx
   obtain ⟨rfl,_⟩:=hx
   have h0:=congrArg (·[0]?) hm
   simp only [List.getElem?_take,List.getElem?_drop,Nat.add_zero,Nat.zero_lt_one,if_true,Array.getElem?_toList,List.getElem?_cons_zero] at h0
   refine ⟨.int k z, ?_,by simp only [VL.aM]⟩
   unfold World.cell?
   rw [Nat.zero_add,show ((⟨g',j,none⟩:Addr)).block=g' from rfl,om]
   simpa using h0
theorem abu {W:World} (hL:laidMetH Tryz.prog Rows.historyOpsRow.laid W) (Bx:W.ShapedOpen Tryz.prog):∃ m,∀ g cs,gN m g=some cs->g<W.heap.size/\VL.cv (VL.jD W) W g 0 cs:=by
 have Tm:laidMet Tryz.prog Rows.historyOpsRow.laid W:=hL
 have h0:=FA (zs:=[0,0,0,1,2,2,2,2]) (k := .i64) (g:=0) (t:=126) (e:=3) (Lib.laidMet.reads Tm (n := "setsquare/formula.operands") (d:=Rows.laid_setsquare_formula_operands) (by simp [Rows.historyOpsRow])) (by kernel_rfl) (by kernel_rfl) Tryz.underlying126 Tryz.underlying3 (by kernel_rfl) (VL.jD W)
 have h2:=FA (zs:=(List.range 20).map fun i=>((10 ^ i:Nat):Int)) (k := .u64) (g:=2) (t:=209) (e:=118) (Lib.laidMet.reads Tm (n := "internal/strconv.uint64pow10") (d:=Rows.laid_internal_strconv_uint64pow10) (by simp [Rows.historyOpsRow])) (by kernel_rfl) (by kernel_rfl) Tryz.underlying209 Tryz.underlying118 (by kernel_rfl) (VL.jD W)
 obtain ⟨m,hm⟩:=Tryz.Qa.s1_3 W Bx
 have h1:W.cell? ⟨1,0,none⟩=some (.int .i64 m):=hm
 refine ⟨m,fun g cs hg => ?_⟩
 match g,hg with
 | 0,hg=>cases hg;exact h0
 | 1,hg =>
   cases hg
   exact ⟨World.block_lt_of_cell? _ _ h1,by simp only [VL.cv,VL.aM];exact ⟨⟨_,h1,rfl⟩,trivial⟩⟩
 | 2,hg =>
   cases hg
   rw [List.map_map] at h2
   exact h2
 | n+3,hg=>cases hg
theorem SU (os:Os) (args:Array Value):laidMetH Tryz.prog Rows.historyOpsRow.laid ((World.doorLaid Tryz.prog 400 os).forCall (fun _ _=>0) ⟨#[],args,[]⟩).memory :=
 laidMetH_of_parts3 (fuel:=8) (laidMet_of_run' 8 (by kernel_rfl) (by kernel_rfl)) (by kernel_rfl) (by kernel_rfl)
set_option maxRecDepth 100000 in
theorem lifted (os:Os) (started:os.Started) (H:Type) (enc:TypeId × Value->H) :
   ReturnsInHanded {} Tryz.checked os 5 .any (fun w args=>(Rows.historyOpsSpec.pre enc Tryz.prog Tryz.f5 [] false w args/\laidMetH Tryz.prog Rows.historyOpsRow.laid w)/\sizedMet enc Tryz.prog Tryz.f5 (OpenSpec.ofChange Rows.historyOpsSpec) false w args)
     (Rows.historyOpsSpec.post enc Tryz.prog Tryz.f5 false true false false):=by
 refine zG (C:=Tryz.checked) (X:=fun w _=>laidMetH Tryz.prog Rows.historyOpsRow.laid w) (fun _ _ _ hh h=>h.of_heap hh) Tryz.own started (by kernel_rfl) Tryz.func5
   (ChangeSpec.witness_shaped (enc:=enc) (C:=Tryz.checked) (os:=os) (X:=fun w _=>laidMetH Tryz.prog Rows.historyOpsRow.laid w) false (World.doorLaid Tryz.prog 400 os) #[.slice none 0 0] 8 rfl (World.shaped_of_RefB (by kernel_rfl) (by kernel_rfl)) (by kernel_rfl) (by kernel_rfl) (by kernel_rfl) (SU os _)) ?_
 intro W base args ds gs before Wg hW hL Bx
 have kX:∀ (j:Nat) t v,Tryz.f5.params[j]? = some t->args[j]? = some v->Value.okWide Tryz.prog W .any base t v:=Wg
 have hW':=hW
 obtain ⟨p,q,VM,hV,rfl,hfz,Ac⟩:=hW
 have hA:DataW.TrodAll enc Tryz.prog W 0 (fun _=>true) true Tryz.f5.params.toList args.toList ds p:=VM
 rw [Tryz.params5] at hA kX
 obtain ⟨v0,d0,rfl,rfl,h0⟩:=trodAll_one hA
 obtain ⟨rfl,rfl⟩:=trodVars_none hV
 clear VM Wg
 obtain ⟨a0,len,cap,rfl⟩:=okWide_slice Tryz.underlying38 (kX 0 38 v0 rfl rfl)
 obtain ⟨fuel,hf⟩:=h0
 obtain ⟨l,hl,hR⟩:=Yn hf
 obtain ⟨m,hm⟩:=abu hL Bx
 have Np:VL.aO (VL.jD W) W [VL.pt l] [.slice a0 len cap]:=hR
 refine (VL.JD (ok:=fun b=>b<W.heap.size) (VL.aB.Pz (aeA m SQ l hl) (by intro c hc;simp at hc;subst hc;exact VL.Jw l) []) rfl (fun _ h=>h) hm (vs:=[.slice a0 len cap]) Np).mono fun e W' he => ?_
 obtain ⟨rfl,hB⟩:=he
 exact ⟨_,rfl,VL.SP Tryz.laidOut (by rw [Tryz.params5];intro t ht;simp at ht;subst ht;exact ⟨by kernel_rfl,by decide +kernel⟩) rfl rfl rfl (tb:=4) Tryz.underlying4 hW' hB⟩
theorem DM:Rows.HistoryOpsSaid :=
 OpenClaim.holds_of_wide 5 Tryz.f5 rfl rfl rfl rfl rfl rfl rfl ⟨rfl,rfl,rfl,rfl,rfl⟩ rfl rfl rfl rfl rfl (by kernel_rfl) Tryz.func5 (by kernel_rfl)
   (of_decide_eq_true (by kernel_rfl)) (by unfold Func.isWrapper;first | (rw [if_pos (by decide +kernel)];kernel_rfl) | (rw [if_neg (by decide +kernel)];exact ⟨rfl,rfl⟩))
   (fun os started H enc _=>lifted os started H enc)
theorem historyOps_card:Rows.HistoryOpsCardSaid :=
 Claim7.holds_tied_plain_at .later [] [.data, .data, .data, .data] true (true, "3d11a4bf1dee2d66407522a903d62afb625a42b086ed699c822710aab6d4fdf7") false
   DM (fun _ h=>by cases h) (by kernel_rfl) (fun _ h=>by cases h) historyOps_row_tie rfl ⟨rfl,rfl⟩ (by kernel_rfl) rfl
   (fun f fn hf FN=>by
     obtain rfl:f=5:=Option.some.inj ((show Tryz.prog.funcNamed Tryz.f5.name=some 5 by kernel_rfl).symm.trans hf) |>.symm
     obtain rfl:fn=Tryz.f5:=(Option.some.inj (Tryz.func5.symm.trans FN)).symm
     exact ⟨by kernel_rfl,fun j t ht=>by
       rw [Tryz.params5] at ht
       have hm:t∈[38]:=by simpa using Array.mem_of_getElem? ht
       have cD:([38].all fun u => !Tryz.prog.wantsStandIn u)=true:=by kernel_rfl
       exact (show Tryz.prog.wantsStandIn t=false by simpa using List.all_eq_true.1 cD t hm)⟩)
   (by kernel_rfl)
end Go.Proofs.YtcomlgfjnjpebaaGreatDoor
end
