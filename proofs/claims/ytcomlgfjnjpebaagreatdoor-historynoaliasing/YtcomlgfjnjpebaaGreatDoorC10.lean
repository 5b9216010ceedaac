/- For the claim of HistoryNoAliasing: parts PLZ, CG20, CG21, CG22, CQM, VL41, SCN, NA1, NA2, NA3, NA4, NA5, NA6, NA7, NA8, VN5, NA9, NAA, NAB, NAC, NAD, NAE, NAF, NAG, NAH, NAI, NAJ, NAK. -/
import Derived.Test.YtcomlgfjnjpebaaGreatDoorC09
import Derived.Test.YtcomlgfjnjpebaaGreatDoorC08
import Derived.Test.YtcomlgfjnjpebaaGreatDoorC03
import Derived.Test.YtcomlgfjnjpebaaGreatDoorC04
import Derived.Test.YtcomlgfjnjpebaaGreatDoorC05
import Derived.KernelRfl
set_option linter.unusedSimpArgs false
set_option linter.unusedVariables false
set_option maxRecDepth 100000
namespace Go.VL
theorem Sq {hid:Id} {ls:List (List FX)} {now:Nat} {l:List FX} {o:OX}:∀ x∈(qW hid ls now l o).2,x.1=hid:=by
 intro x hx
 rw [zt] at hx
 simp only [] at hx
 split at hx
 . exact CG x hx
 . simp at hx
theorem M5 {hid:Id} {ls:List (List FX)} {now:Nat} {l:List FX} {o:OX} {σ : aa} (ha:ls[now]? = some l) (hL:eZ l=true) (hk:o.kind%7<5) (hσ : σ hid=some (bH ls now)) :
   (qW hid ls now l o).1=(wy ls now o).2.2.1/\(σ.app (qW hid ls now l o).2) hid=some (bH (wy ls now o).1 (wy ls now o).2.1):=by
 have JV:ls.getD now []=l:=by rw [List.getD_eq_getElem?_getD,ha];rfl
 rw [zt,step_eq hL hk]
 unfold wy
 rw [if_neg (show ¬ o.kind%7=5 by omega),if_neg (show ¬ o.kind%7=6 by omega),JV]
 simp only []
 generalize bX l o=c
 obtain ⟨m,e⟩:=c
 simp only []
 by_cases he:e=0
 . subst he
   rw [if_pos rfl]
   unfold sa
   by_cases hq:gJ m l=true
   . rw [if_pos hq,if_pos (.inr hq)]
     exact ⟨rfl,hσ⟩
   . rw [if_neg hq,if_neg (by simpa using hq)]
     exact ⟨rfl,aa.a6 _ _ _⟩
 . rw [if_neg he,if_pos (.inl he)]
   exact ⟨rfl,hσ⟩
theorem yd {l:List FX} {o:OX} (h:(bX l o).2=0):eZ (bX l o).1=true:=by
 generalize hc:bX l o=c at *
 unfold bX at hc
 simp only [] at hc
 repeat' (split at hc)
 all_goals subst hc
 all_goals first | (exact absurd h (by simp only [];decide)) | assumption
theorem ye {aU:FX->Prop} {l:List FX} {o:OX} (hg:∀ X∈l,aU X) (hF:aU o.F) (hs:∀ X b,aU X->aU (X.bD b)):∀ X∈(bX l o).1,aU X:=by
 have nil:∀ X∈([]:List FX),aU X:=fun X h=>absurd h (by simp)
 unfold bX
 by_cases k0:o.kind%7=0
 . rw [if_pos k0]
   repeat' split
   all_goals first | exact nil | skip
   intro X hX
   rcases List.mem_append.1 hX with h | h
   . exact hg X h
   . rw [List.mem_singleton] at h;rw [h];exact hF
 rw [if_neg k0]
 by_cases k1:o.kind%7=1
 . rw [if_pos k1]
   repeat' split
   all_goals first | exact nil | skip
   exact x9 hg hF
 rw [if_neg k1]
 split
 . exact nil
 split
 . exact nil
 rename_i h3
 obtain ⟨i,hi,hlt⟩:=iY h3
 obtain ⟨Y,hY,_⟩:=qV hi
 have JV:l.getD i ⟨[],0,[],[],false⟩=Y:=by rw [List.getD_eq_getElem?_getD,hY];rfl
 have hYg:=hg Y (List.mem_of_getElem? hY)
 rw [hi,Int.toNat_natCast]
 simp only [JV]
 repeat' split
 all_goals first | exact nil | exact yc (ov hg) (hs Y _ hYg) | exact yc (ov hg) hYg | exact ov hg
structure uf (aU:FX->Prop) (ls:List (List FX)) (now:Nat):Prop where
 lt:now<ls.length
 list:∀ l∈ls,eZ l=true
 aU:∀ l∈ls,∀ X∈l,aU X
theorem Va (aU:FX->Prop):uf aU [[]] 0:=⟨by simp,by intro l hl;simp at hl;subst hl;rfl,by intro l hl X hX;simp at hl;subst hl;simp at hX⟩
theorem Sr {aU:FX->Prop} {ls:List (List FX)} {now:Nat} {o:OX} (h:uf aU ls now) (hF:aU o.F) (hs:∀ X b,aU X->aU (X.bD b)) :
   uf aU (wy ls now o).1 (wy ls now o).2.1/\(wy ls now o).1.length<=ls.length+1:=by
 unfold wy
 by_cases h5:o.kind%7=5
 . rw [if_pos h5]
   split
   . exact ⟨h,by simp⟩
   . exact ⟨⟨by have:=h.lt;simp only [];omega,h.list,h.aU⟩,by simp⟩
 rw [if_neg h5]
 by_cases h6:o.kind%7=6
 . rw [if_pos h6]
   split
   . exact ⟨h,by simp⟩
   . exact ⟨⟨by have:=h.lt;simp only [];omega,h.list,h.aU⟩,by simp⟩
 rw [if_neg h6]
 simp only []
 have hlt:=h.lt
 have hm:ls.getD now []∈ls:=by
   rw [List.getD_eq_getElem?_getD,List.getElem?_eq_getElem hlt];exact List.getElem_mem hlt
 generalize ls.getD now []=l at hm
 have PF:=yd (l:=l) (o:=o)
 have H4:=ye (l:=l) (o:=o) (h.aU l hm) hF hs
 generalize bX l o=c at *
 split
 . exact ⟨h,by simp⟩
 . rename_i hne
   have he:c.2=0:=Classical.byContradiction fun q=>hne (.inl q)
   refine ⟨⟨by simp;omega, ?_, ?_⟩,by simp;omega⟩
   . intro x hx
     simp only [List.mem_append,List.mem_singleton] at hx
     rcases hx with hx | rfl
     . exact h.list x (List.mem_of_mem_take hx)
     . exact PF he
   . intro x hx
     simp only [List.mem_append,List.mem_singleton] at hx
     rcases hx with hx | rfl
     . exact h.aU x (List.mem_of_mem_take hx)
     . exact H4
theorem YF {hid:Id} {ls:List (List FX)} {now:Nat} {σ : aa} (h : σ hid=some (bH ls now)):fX σ true 2 (.ref hid 0 0)=some { val:=b8 ls now,rd:=[hid] }:=by
 rw [gO (bk:=bH ls now) h rfl,ER];rfl
theorem Jg {σ : aa} {id:Id} {ls:List (List FX)} {a:Nat} {k:Nat} (h : σ id=some ⟨[.agg [.nils, .int .i64 0]],k,false⟩):eO σ 2 (.ref id 0 0) (b8 ls a)=some { val := .tup [],rd:=[id],up:=[(id,some ⟨[b8 ls a],k,false⟩)] } :=
 I2 (x:=r9 ls) (b:=a) rfl rfl h
section
variable {P:Program} {G:Nat->Option (List AV)} {aU:FX->Prop} {f fdo YG fed YH fmv YI YJ ZO:FuncId}
def Ss (P:Program) (G:Nat->Option (List AV)) (aU:FX->Prop) (f:FuncId):Prop:=∀ {hid mid:Id} (_:hid≠mid) {ls:List (List FX)} {now:Nat} {o:OX} (_:uf aU ls now) (_:ls.length<=900) (_:aU o.F) (p:Id) (_ : ¬ p <:+ hid) (_ : ¬ p <:+ mid),
   aq P G f [.ref hid 0 0, .ref mid 0 0,o.av] p [(hid,bH ls now),(mid,bH ls now)] { val := .bool true,rd:=[hid,mid],up:=[(hid,some (bH (wy ls now o).1 (wy ls now o).2.1)),(mid,some (bH (wy ls now o).1 (wy ls now o).2.1))] }
end
theorem St {σ : aa} {p q:Id} {X:FX} (hq : σ q=some ⟨[X.av],5,false⟩):bQ σ p 5 80 .nils (.osl q 5 0 1 false)=some { val := .osl p 5 0 1 false,rd:=[q],up:=[(p,some ⟨[X].map FX.av,5,false⟩)] } :=
 nF (x := .osl q 5 0 1 false) (ys:=[X.av]) (mS hq) (by simp) (by simp) (bE (by simp)) (lV [X])
theorem K9 {l:List FX} {i:Nat} {X:FX} (h:l[i]? = some X):l.take (i+1)=l.take i++[X]:=by rw [List.take_add_one,h];rfl
def GQ (id:Id) (l:List FX):AV:=if l=[] then .nils else .osl id 5 0 l.length false
section
variable {P:Program} {G:Nat->Option (List AV)}
set_option maxHeartbeats 2000000 in
theorem yf {f fp qu:FuncId} (h:Has P f (bV fp qu)) (hp:Has P fp bq) {hid:Id} {ls:List (List FX)} {now:Nat} {l:List FX} (hl:ls[now]? = some l) (hlen:l.length<=1000)
   (o8:∀ X∈l,VP P G qu [X.av] X.av) (p:Id) (CF : ¬ p <:+ hid) :
   aq P G f [.ref hid 0 0] p [(hid,bH ls now)] { val:=bT l,rd:=[hid] }:=by
 have hne:∀ q:Id,q++p≠hid:=fun q e=>CF ⟨q,e⟩
 have Jh:∀ q:Nat,q::p≠hid:=fun q=>hne [q]
 refine aq.has h ?_
 simp only [bV,SS,Nat.reduceAdd]
 refine ⟨[(hid,bH ls now)],_,lz hp hl _,by simp [dF],by simp, ?_⟩
 simp only [SS,Nat.reduceAdd,bO,az]
 refine VW.bG (α := Nat × Nat × Nat) (fun x=>⟨[.ref hid 0 0, .top, .top,GQ (x.2.1::p) (l.take x.1), .top, .top, .top,bT l, .int .i64 (l.length:Int), .int .i64 (x.1:Int)]++List.replicate 10 .top,
     (aa.of [(hid,bH ls now)]).put (x.2.1::p) (if l.take x.1=[] then none else some ⟨(l.take x.1).map FX.av,5,false⟩),x.2.2⟩)
   (fun x=>x.1<=l.length/\x.2.1<x.2.2) (fun x=>l.length-x.1) (0,0,1000) ?_ ⟨Nat.zero_le _,by simp only [];omega⟩ ?_
 . refine Wk.forget (by simp [Fg,List.replicate,GQ]) (fun j => ?_) (by simp only [];omega)
   by_cases h1:j=0::p
   . subst h1;left;simp [aa.put]
   . right;simp [aa.put,h1]
 rintro ⟨i,ck,nn⟩ ⟨hi,RN⟩
 simp only [] at hi RN
 have JT:(l.take i).length=i:=by rw [List.length_take];omega
 by_cases hlt:i<l.length
 . obtain ⟨X,hX⟩:∃ X,l[i]? = some X:=⟨_,List.getElem?_eq_getElem hlt⟩
   have hm:=List.mem_of_getElem? hX
   have dd:decide ((i:Int)<(l.length:Int))=true:=ai (by omega)
   have hg:(l.map FX.av)[i]? = some X.av:=by rw [List.getElem?_map,hX];rfl
   have fT:aV 5 (bT l) (.int .i64 (i:Int))=some (.ep X.av.cells 0):=aN rfl hg
   have hpX:af X.av:=FX.pure X
   have hn:=K9 hX
   have Lw:=o8 X hm
   generalize mL:l.take i=m at *
   simp only [SS,Nat.reduceAdd,List.replicate,dd,fT,ax,FX.whole,mG]
   rw [wx (k:=(AV.agg [.str [], .int .i64 0, .nils, .nils, .bool false]).size) (by simp [aa.put])]
   simp only [SS,Nat.reduceAdd,ak,FX.whole]
   refine aj Lw (by simp [hpX]) ?_
   simp only [SS,Nat.reduceAdd,WK]
   by_cases h0:m=[]
   . have e0:GQ (ck::p) m = .nils:=if_pos h0
     rw [e0,St (X:=X) (by simp [aa.put])]
     simp only [SS,Nat.reduceAdd,ao i (by omega)]
     refine ⟨(i+1,nn+1+4+4,nn+1000),⟨by simp only [];omega,by simp only [];omega⟩,by simp only [];omega, ?_⟩
     simp only [hn,h0,List.nil_append]
     refine Wk.forget (by simp [Fg,GQ]) (fun j => ?_) (by omega)
     by_cases h1:j=(nn+1+4+4)::p
     . right;subst h1;simp [aa.put]
     . by_cases h2:j=hid
       . right;subst h2;simp [aa.put,(Jh _).symm]
       . left;simp [aa.put,h1,aa.of,h2]
   . have e0:GQ (ck::p) m = .osl (ck::p) 5 0 m.length false:=if_neg h0
     have q1 : ¬ ck=nn+1+2:=by omega
     have q2 : ¬ ck=nn+1+4+3:=by omega
     rw [e0,IZ (l:=m) (X:=X) (by simp [aa.put,q1,q2,h0]) (by simp [aa.put]) (by omega)]
     simp only [SS,Nat.reduceAdd,ao i (by omega)]
     refine ⟨(i+1,nn+1+4+4,nn+1000),⟨by simp only [];omega,by simp only [];omega⟩,by simp only [];omega, ?_⟩
     have IE : ¬ m++[X]=[]:=by simp
     simp only [hn,GQ,if_neg IE]
     refine Wk.forget (by simp [Fg]) (fun j => ?_) (by omega)
     by_cases h1:j=(nn+1+4+4)::p
     . right;subst h1;simp [aa.put]
     . by_cases h2:j=hid
       . right;subst h2;simp [aa.put,(Jh _).symm]
       . left;simp [aa.put,h1,aa.of,h2]
 . have dd:decide ((i:Int)<(l.length:Int))=false:=ag (by omega)
   have LF:l.take i=l:=List.take_of_length_le (by omega)
   simp only [LF]
   simp only [SS,Nat.reduceAdd,List.replicate,dd]
   by_cases h0:l=[]
   . have e0:GQ (ck::p) l = .nils:=if_pos h0
     rw [e0]
     refine bZ▸⟨.nils,rfl,Fin.nX [] (by simp) (cX.view (by rw [h0];exact View.nils 5)) fun j => ?_⟩
     by_cases h2:j=hid
     . subst h2
       refine .inr ⟨bH ls now,bH ls now,by simp [aa.put,(Jh _).symm,dF],by simp [aa.app,dF],rfl, .inl rfl,fun _ x hx=>by simp at hx,rfl, ?_,dU.same _ _⟩
       intro e he;simp [bH] at he;subst he;rfl
     . left;simp [aa.app,aa.of,h2]
   . have e0:GQ (ck::p) l = .osl (ck::p) 5 0 l.length false:=if_neg h0
     rw [e0]
     refine bZ▸⟨.osl (ck::p) 5 0 l.length false,rfl,Fin.nX [(ck::p,⟨l.map FX.av,5,false⟩)] (by intro x hx;simp only [List.mem_singleton] at hx;subst hx;simp [aa.put,h0]) (cX.view (kS dF)) fun j => ?_⟩
     by_cases h2:j=hid
     . subst h2
       refine .inr ⟨bH ls now,bH ls now,by simp [aa.put,(Jh _).symm,dF],by simp [aa.app,dF],rfl, .inl rfl,fun _ x hx=>by simp only [List.mem_singleton] at hx;subst hx;exact Jh _,rfl, ?_,dU.same _ _⟩
       intro e he;simp [bH] at he;subst he;rfl
     . left;simp [aa.app,aa.of,h2]
end
def kU (l:List OX):AV := .sl 9 (l.map OX.av)
theorem Gt (l:List OX):ky false (kU l)=some (.int .i64 (l.length:Int)):=by simp [kU,ky]
theorem Ji (l:List OX):af (kU l):=af.sl (by
 intro c hc
 simp only [flat,List.mem_flatMap,List.mem_map] at hc
 obtain ⟨v,⟨o,_,rfl⟩,hc⟩:=hc
 simp [OX.av,AV.cells] at hc
 rcases hc with rfl | rfl | rfl | rfl | rfl | rfl | rfl | rfl | rfl
 . exact af.int _ _
 . exact af.str _
 . exact af.int _ _
 . exact gq _
 . exact EX.fQ _
 . exact af.bool _
 . exact af.str _
 . exact af.bool _
 . exact af.int _ _)
theorem Su {l:List OX} {i:Nat} {o:OX} (h:l[i]? = some o):aV 9 (kU l) (.int .i64 (i:Int))=some (.ep o.av.cells 0):=aN rfl (by rw [List.getElem?_map,h];rfl)
theorem Sv:((AV.agg [.int .u8 0, .str [], .int .i64 0, .nils, .nils, .bool false, .str [], .bool false, .int .i64 0]).cells.all AV.one=true)=True:=by simp [AV.cells,AV.one]
theorem Jj {σ : aa} {id:Id} {o:OX} {k:Nat} (h : σ id=some ⟨[.agg [.int .u8 0, .str [], .int .i64 0, .nils, .nils, .bool false, .str [], .bool false, .int .i64 0]],k,false⟩):eO σ 9 (.ref id 0 0) o.av=some { val := .tup [],rd:=[id],up:=[(id,some ⟨[o.av],k,false⟩)] }:=by
 rw [dw (n:=9) (v:=o.av) h rfl rfl (by simp [AV.size,AV.cells]) (of_eq_true (OX.one o))]
 rfl
def sc (o:OX):Bool:=o.F.small&&decide (o.name.length<=100)
def jH (l:List OX):Bool:=l.all sc&&decide (l.length<=40)
noncomputable def E6 (s:List (List FX) × Nat) (o:OX):List (List FX) × Nat:=((wy s.1 s.2 o).1,(wy s.1 s.2 o).2.1)
noncomputable def oO (l:List OX):List (List FX) × Nat:=l.foldl E6 ([[]],0)
theorem Jk (l:List OX) (o:OX):oO (l++[o])=E6 (oO l) o:=by unfold oO;rw [List.foldl_append];rfl
theorem M6 {aU:FX->Prop} (hs:∀ X b,aU X->aU (X.bD b)) {l:List OX} (hg:∀ o∈l,aU o.F) (i:Nat):uf aU (oO (l.take i)).1 (oO (l.take i)).2/\(oO (l.take i)).1.length<=i+1:=by
 induction i with
 | zero=>exact ⟨Va aU,by simp [oO]⟩
 | succ i ih =>
   rcases Nat.lt_or_ge i l.length with h | h
   . rw [List.take_add_one,List.getElem?_eq_getElem h,Option.toList_some,Jk]
     have:=Sr (o:=l[i]) ih.1 (hg _ (List.getElem_mem h)) hs
     exact ⟨this.1,by have h2:=this.2;have h3:=ih.2;unfold E6;simp only [];omega⟩
   . rw [List.take_of_length_le (by omega)]
     rw [List.take_of_length_le h] at ih
     exact ⟨ih.1,by have:=ih.2;omega⟩
theorem afs {a b c:Nat} {p:Id} (h:a≠c) : ¬ (a::p) <:+ (b::c::p):=fun hs=>by
 rcases List.suffix_cons_iff.1 hs with h1 | h1
 . have:=congrArg List.length h1;simp at this
 . have:=h1.eq_of_length (by simp);simp at this;exact h this
theorem abQ {a c:Nat} {p:Id} (h:a≠c) : ¬ (a::p) <:+ (c::p):=fun hs=>by
 have:=hs.eq_of_length (by simp);simp at this;exact h this
section
variable {P:Program} {G:Nat->Option (List AV)} {aU:FX->Prop} {f fs La CJ fperf fdo YG fed YH fmv YI YJ ZO:FuncId}
theorem Lb (h:Has P f (jr fs)) (l:List OX) (hl:l.length<=9223372036854775807) (vN:∀ o∈l,o.name.length<=9223372036854775807) (hS:∀ o∈l,VP P G fs [o.F.av] (.bool o.F.small)):VP P G f [kU l] (.bool (jH l)):=by
 refine VP.has h ?_
 simp only [jr,SS,Nat.reduceAdd,reduceIte,Gt,az]
 refine VW.bG (α := Nat × Nat) (fun x=>⟨[kU l, .top, .top, .top, .top,kU l, .int .i64 (l.length:Int), .int .i64 (x.1:Int)]++List.replicate 17 .top,fun _=>none,x.2⟩)
   (fun x=>x.1<=l.length/\∀ (j:Nat) o,j<x.1->l[j]? = some o->sc o=true) (fun x=>l.length-x.1) (0,1000) ?_ ⟨Nat.zero_le _,fun j o hj=>absurd hj (Nat.not_lt_zero j)⟩ ?_
 . exact Wk.slots (by simp [Fg,List.replicate]) (by omega)
 rintro ⟨i,nn⟩ ⟨hi,cx⟩
 simp only [] at hi cx
 by_cases hlt:i<l.length
 . obtain ⟨o,ho⟩:∃ o,l[i]? = some o:=⟨_,List.getElem?_eq_getElem hlt⟩
   have hm:=List.mem_of_getElem? ho
   have dd:decide ((i:Int)<(l.length:Int))=true:=ai (by omega)
   have hpF:af o.F.av:=FX.pure o.F
   have RF:sc o=false->jH l=false:=fun hb=>by
     unfold jH
     rw [List.all_eq_false.2 ⟨o,hm,by rw [hb];decide⟩,Bool.false_and]
   simp only [SS,Nat.reduceAdd,reduceIte,List.replicate,dd,Su ho,ax,OX.whole,Sv]
   rw [Jj (k:=(AV.agg [.int .u8 0, .str [], .int .i64 0, .nils, .nils, .bool false, .str [], .bool false, .int .i64 0]).size) (by simp [aa.put,aa.app])]
   simp only [SS,Nat.reduceAdd,reduceIte,ak,OX.pF]
   refine aj (hS o hm) (by simp [hpF]) ?_
   cases hsm:o.F.small
   . simp only [SS,Nat.reduceAdd,reduceIte]
     rw [RF (by unfold sc;rw [hsm];rfl)]
     exact ah▸ae rfl (af.bool _)
   simp only [SS,Nat.reduceAdd,reduceIte,ak,OX.p6]
   by_cases hn:o.name.length<=100
   . have d1:decide ((100:Int)<(o.name.length:Int))=false:=ag (by omega)
     simp only [SS,Nat.reduceAdd,reduceIte,d1,ao i (by omega)]
     refine ⟨(i+1,nn+1000),⟨by simp only [];omega, ?_⟩,by simp only [];omega,Wk.forget (by simp [Fg,List.replicate]) (fun j => .inl rfl) (by omega)⟩
     intro j o' hj hjo
     by_cases AX:j<i
     . exact cx j o' AX hjo
     . have:j=i:=by simp only [] at hj;omega
       subst this;rw [ho] at hjo;simp only [Option.some.injEq] at hjo;subst hjo
       unfold sc;rw [hsm,ai hn];rfl
   . have d1:decide ((100:Int)<(o.name.length:Int))=true:=ai (by omega)
     simp only [SS,Nat.reduceAdd,reduceIte,d1]
     rw [RF (by unfold sc;rw [ag hn,Bool.and_false])]
     exact ah▸ae rfl (af.bool _)
 . have dd:decide ((i:Int)<(l.length:Int))=false:=ag (by omega)
   have e:jH l=decide ((l.length:Int)<=40):=by
     unfold jH
     rw [List.all_eq_true.2 fun o ho=>by
       obtain ⟨j,hj,rfl⟩:=List.getElem_of_mem ho
       exact cx j _ (by omega) (List.getElem?_eq_getElem hj),Bool.true_and]
     by_cases q:l.length<=40
     . rw [ai q,ai (by omega)]
     . rw [ag q,ag (by omega)]
   rw [e]
   simp only [SS,Nat.reduceAdd,reduceIte,List.replicate,dd,Gt]
   exact ah▸ae rfl (af.bool _)
set_option maxHeartbeats 2000000 in
theorem Vb (h:Has P f (gX La CJ fperf)) (hn:Has P La kR) (Qd:Has P CJ gb) (WG:Ss P G aU fperf)
   (hs:∀ X b,aU X->aU (X.bD b)) {l:List OX} (hg:∀ o∈l,aU o.F) (hl:l.length<=100) (p:Id) :
   aq P G f [kU l] p [] { val := .tup [.ref (3::3::p) 0 0,b8 (oO l).1 (oO l).2, .bool true],up:=[(3::3::p,some (bH (oO l).1 (oO l).2))] }:=by
 refine aq.has h ?_
 simp only [gX,SS,Nat.reduceAdd,reduceIte,Sd]
 refine ⟨[],_,M3 hn _,by simp,by simp, ?_⟩
 simp only [SS,Nat.reduceAdd,reduceIte]
 refine aj (YB Qd) (by simp) ?_
 simp only [SS,Nat.reduceAdd,reduceIte,Sd]
 rw [Jg (k:=(AV.agg [.nils, .int .i64 0]).size) (by simp [aa.put,aa.app])]
 simp only [SS,Nat.reduceAdd,reduceIte,Gt,az]
 have k1:(1::p)≠(3::3::p):=fun e=>by have:=congrArg List.length e;simp at this
 have k2:(5::p)≠(3::3::p):=fun e=>by have:=congrArg List.length e;simp at this
 have k3:(1::p)≠(5::p):=by simp
 refine VW.bG (α := Nat × Nat) (fun x=>⟨[kU l, .top, .top, .ref (1::p) 0 0, .top, .ref (3::3::p) 0 0, .ref (5::p) 0 0, .top, .top, .top, .top, .top, .top, .top,kU l, .int .i64 (l.length:Int), .int .i64 (x.1:Int)]++List.replicate 11 .top,
     aa.put (aa.put (aa.put (fun _=>none) (1::p) (some ⟨[.agg [.nils, .int .i64 0]],2,false⟩)) (3::3::p) (some (bH (oO (l.take x.1)).1 (oO (l.take x.1)).2))) (5::p) (some (bH (oO (l.take x.1)).1 (oO (l.take x.1)).2)),x.2⟩)
   (fun x=>x.1<=l.length/\1000<=x.2) (fun x=>l.length-x.1) (0,1000) ?_ ⟨Nat.zero_le _,Nat.le_refl _⟩ ?_
 . refine Wk.forget (by simp [Fg,List.replicate]) (fun j => ?_) (by omega)
   by_cases h5:j=5::p
   . subst h5;right;simp [aa.put,aa.app,oO,bH];rfl
   by_cases h3:j=3::3::p
   . subst h3;right;simp [aa.put,aa.app,oO,k2.symm,k1.symm]
   by_cases h1:j=1::p
   . subst h1;right;simp [aa.put,aa.app,k1,k3];rfl
   . left;simp [aa.put,h1,h3,h5]
 rintro ⟨i,nn⟩ ⟨hi,Xq⟩
 simp only [] at hi Xq
 obtain ⟨hI,hIl⟩:=M6 hs hg i
 by_cases hlt:i<l.length
 . obtain ⟨o,ho⟩:∃ o,l[i]? = some o:=⟨_,List.getElem?_eq_getElem hlt⟩
   have hm:=List.mem_of_getElem? ho
   have dd:decide ((i:Int)<(l.length:Int))=true:=ai (by omega)
   have hrun:oO (l.take (i+1))=E6 (oO (l.take i)) o:=by rw [List.take_add_one,ho,Option.toList_some,Jk]
   have hop:=OX.pure o
   generalize oO (l.take i)=s at *
   obtain ⟨ls,a⟩:=s
   simp only [] at hI hIl
   simp only [SS,Nat.reduceAdd,reduceIte,List.replicate,dd,Su ho,ax,OX.whole,Sv]
   rw [Jj (k:=(AV.agg [.int .u8 0, .str [], .int .i64 0, .nils, .nils, .bool false, .str [], .bool false, .int .i64 0]).size) (by simp [aa.put,aa.app])]
   simp only [SS,Nat.reduceAdd,reduceIte,ak,OX.whole]
   have n2 : ¬ nn=2:=by omega
   have QP:=WG k2.symm hI (by omega) (hg o hm) ((nn+1+4+2)::p) (afs (by omega)) (abQ (by omega))
   refine ⟨[(3::3::p,bH ls a),(5::p,bH ls a)],_,QP, ?_, ?_, ?_⟩
   . intro x hx
     simp only [List.mem_cons,List.not_mem_nil,or_false] at hx
     rcases hx with rfl | rfl
     . simp [aa.put,aa.app,k2.symm];try omega
     . simp [aa.put,aa.app,n2]
   . intro x hx
     simp only [List.mem_cons,List.not_mem_nil,or_false] at hx
     rcases hx with rfl | rfl<;>simp
   simp only [SS,Nat.reduceAdd,reduceIte,ao i (by omega)]
   refine ⟨(i+1,nn+1000),⟨by simp only [];omega,by simp only [];omega⟩,by simp only [];omega, ?_⟩
   simp only [hrun]
   refine Wk.forget (by simp [Fg,List.replicate]) (fun j => ?_) (by omega)
   by_cases h5:j=5::p
   . subst h5;right;simp [aa.put,aa.app,E6]
   by_cases h3:j=3::3::p
   . subst h3;right;simp [aa.put,aa.app,E6,k2.symm]
   by_cases h1:j=1::p
   . subst h1;right;simp [aa.put,aa.app,k1,k3];try omega
   . left;simp [aa.put,h1,h3,h5]
 . have dd:decide ((i:Int)<(l.length:Int))=false:=ag (by omega)
   have LF:l.take i=l:=List.take_of_length_le (by omega)
   rw [LF] at hI
   simp only [LF]
   generalize oO l=s at *
   obtain ⟨ls,a⟩:=s
   simp only [SS,DD,Nat.reduceAdd,reduceIte,List.replicate,dd]
   rw [YF (ls:=ls) (now:=a) (aa.a6 _ _ _)]
   simp only [SS,DD,Nat.reduceAdd,reduceIte]
   rw [Jg (k:=2) (by simp [aa.put,aa.app,k1,k3])]
   simp only [SS,DD,Nat.reduceAdd,reduceIte]
   refine ⟨by simp [aJ], ?_⟩
   refine bZ▸aW ?_ fun j => ?_
   . simp only [RS,fY,iR,ak,ER]
   . by_cases h3:j=3::3::p
     . subst h3;right;simp [aa.put,aa.app,k2.symm,k1.symm]
     . left;simp [aa.put,aa.app,h3,aa.of]
end
section
open Go.Lib
theorem sub_self {σ : aa}:∀ i, σ i=none ∨ σ i = σ i:=fun _ => .inr rfl
end
section
variable {P:Program} {G:Nat->Option (List AV)}
theorem Fg.same:∀ t:List AV,Fg t t
 | []=>trivial
 | _::cs=>⟨.inr rfl,Fg.same cs⟩
theorem Wk.toT {π : Id} {s:VS} {t:List AV} {K:List (Id × a8)} {n:Nat} (hd:(K.map (·.1)).Nodup) (h:Wk G π s ⟨t,aa.of K,n⟩):Wk G π s ⟨t,bP.to (rE K),n⟩ :=
 h.trans (Wk.forget (Fg.same t) (fun j=>by
   cases hj:bP.to (rE K) j with
   | none=>exact .inl rfl
   | some b=>right;exact (lH hd (xz hj)).symm) (Nat.le_refl n))
end
section
variable {P:Program} {G:Nat->Option (List AV)} {π : Id} {c:bA} {α : Type}
theorem VW.CK (l:List α) (T:Nat->List AV) (S:Nat->List (Id × a8)) (w n0 N j:Nat) (t1:List AV) (S1:List (Id × a8)) (hd:(S1.map (·.1)).Nodup)
   (h:∀ i x,l[i]? = some x->i<l.length->∀ Q:bB->VS->Prop,(∀ s,Wk G π s ⟨T (i+1),aa.of (S (i+1)),n0+w*i+w⟩->Q .normal s)->VW P G π c Q ⟨T i,aa.of (S i),n0+w*i⟩)
   (he:∀ Q:bB->VS->Prop,(∀ s,Wk G π s ⟨t1,aa.of S1,N⟩->Q (.exit j) s)->VW P G π c Q ⟨T l.length,aa.of (S l.length),n0+w*l.length⟩) :
   VW P G π (.loop c) (fun e' s=>e' = .exit j/\Wk G π s ⟨t1,bP.to (rE S1),N⟩) ⟨T 0,aa.of (S 0),n0⟩:=by
 refine VW.MM (α := Nat) (fun i=>⟨T i,aa.of (S i),n0+w*i⟩) (fun i=>i<=l.length) (fun i=>l.length-i) 0 (by rw [Nat.mul_zero];exact Wk.refl _ _ _) (Nat.zero_le _) ?_
 intro i hi
 by_cases hlt:i<l.length
 . refine h i l[i] (by simp [hlt]) hlt _ fun s hw=>⟨i+1,hlt,by simp only [];omega, ?_⟩
   have e:n0+w*i+w=n0+w*(i+1):=by rw [Nat.mul_add,Nat.mul_one];omega
   simp only [];rw [<- e];exact hw
 . obtain rfl:i=l.length:=by omega
   exact he _ fun s hw=>⟨rfl,Wk.toT hd hw⟩
end
section
open Go.Lib
def sB (l:List (List UInt8)):a8:=⟨l.map AV.str,1,false⟩
theorem yg {ρ : Id->Id} {l:List (List UInt8)}:bJ ρ (l.map AV.str)=l.map AV.str:=(C5.map (fun x=>inferInstance) l).fix ρ
theorem yh (l:List (List UInt8)):((l.map AV.str).all fun e=>e.cells.all AV.one)=true:=M0 (fun x=>by simp [AV.cells,AV.one]) l
section
variable {P:Program} {G:Nat->Option (List AV)}
theorem CL {f:FuncId} (h:Has P f aR) (L:List (List UInt8)) (h0:L≠[]) (hl:L.length<=1000) (p q:Id):aq P G f [.osl q 1 0 L.length false] p [(q,sB L)] { val := .osl (5::p) 1 0 L.length false,rd:=[q],up:=[(5::p,some (sB L))] }:=by
 have a1:∀ (σ : aa) (p:Id),(∀ y∈[([1],sB L)], σ y.1=some y.2)->bu σ p (.append 1 16 (.tsl 1 []) (.osl [1] 1 0 L.length false))=some { val := .osl p 1 0 L.length false,rd:=[[1]],up:=[(p,some (sB L))] }:=fun σ p hσ => by
   have:=cY (σ := σ) (p:=p) (k:=1) (bytes:=16) (es:=[]) (x := .osl [1] 1 0 L.length false) (ys:=L.map AV.str) (rd:=[[1]]) (by rw [dY (show σ [1]=some ⟨L.map AV.str,1,false⟩ from hσ ([1],sB L) (by simp)) rfl (by simp),List.drop_zero];show some (List.take L.length (L.map AV.str),[[1]])=_;rw [List.take_of_length_le (by simp)]) (by simpa using h0) (by simp;omega) (bE (by simp;omega)) (by simpa using yh L)
   simp only [List.nil_append,List.length_nil,List.length_map,Nat.zero_add] at this
   exact this
 exact aq.tr (p:=p) (up:=[(5::p,sB L)]) h (fun _=>q) [.st 7 _ _ _ a1] [.osl [1] 1 0 L.length false] [([1],sB L)] (.osl [5,0] 1 0 L.length false) [([5,0],sB L)] (by kernel_rfl) rfl (by simp only [aY,bm,sB,cy,yg];rfl) rfl (by simp only [aY,bm,sB,cy,yg];rfl) (by simp) (by simp)
theorem EX.YK (ρ : Id->Id):∀ e:EX,e.av.di ρ = e.av:=EX.induct fun op n1 w1 n2 w2 nm args ih=>by
 have h:bJ ρ (EX.dy args)=EX.dy args:=by
   rw [EX.bY,fG,List.map_map]
   exact List.map_congr_left fun x hx=>ih x hx
 rw [EX.av]
 show AV.agg [.int .i64 op, .bool n1, .sl 1 (bJ ρ (us w1)), .bool n2, .sl 1 (bJ ρ (us w2)), .str nm, .sl 7 (bJ ρ (EX.dy args))]=_
 rw [Gk,Gk,h]
instance {e:EX}:PU e.av:=⟨EX.pure e,fun ρ => EX.YK ρ e⟩
instance {l:List EX}:PU (.sl 7 (EX.dy l)):=⟨EX.fQ l,fun ρ => by
 show AV.sl 7 (bJ ρ (EX.dy l))=_
 rw [EX.bY,(C5.map (fun x=>inferInstance) l).fix ρ]⟩
def FI (X:FX) (r:Id) (v:AV):AV := .agg [.str X.name, .int .i64 X.kind, .osl r 1 0 X.inputs.length false,v, .bool X.supp]
def fz:AV := .agg [.str [], .int .i64 0, .nils, .nils, .bool false]
def ZV:bA->Option bA
 | .loop c=>some c
 | .seq a b=>match ZV a with | some c=>some c | none=>ZV b
 | .block _ c=>ZV c
 | .cond _ a b=>match ZV a with | some c=>some c | none=>ZV b
 | _=>none
def lpB (v:aL):bA:=(ZV v.body).getD .skip
def Lc (a b:Id) (X:FX) (i:Nat):List AV:=[.top, .ref a 0 0, .ref b 0 0]++List.replicate 11 .top++[.int .i64 (X.vals.length:Int), .int .i64 (i:Int)]++List.replicate 14 .top
def AK (a b v r:Id) (X:FX) (E:List (Id × a8)):List (Id × a8):=(a,⟨[FI X r (.osl v 7 0 X.vals.length false)],5,false⟩)::(b,⟨[fz],5,false⟩)::(v,⟨EX.dy X.vals,7,false⟩)::(r,sB X.inputs)::E
theorem gZ {ρ : Id->Id} {X:FX} {r:Id} {v:AV}:(FI X r v).di ρ = FI X (ρ r) (v.di ρ):=rfl
theorem kt {ρ : Id->Id} {l:List EX}:bJ ρ (EX.dy l)=EX.dy l:=by
 rw [EX.bY]
 exact (C5.map (fun x=>inferInstance) l).fix ρ
theorem jB {ρ : Id->Id} {l:List (List UInt8)}:(sB l).di ρ = sB l:=by simp only [sB,cy,yg]
theorem pI {ρ : Id->Id} {a b:Id} {X:FX} {i:Nat}:bJ ρ (Lc a b X i)=Lc (ρ a) (ρ b) X i:=by
 unfold Lc
 simp only [fZ,bF,cd,uc,uI,xW,PU.fixed]
def clK:Nat->Id:=fun k=>match k with | 1=>[0,0] | 2=>[1,0] | 3=>[5,7,0] | 4=>[5,4,0] | _=>[1]
theorem E7 {fs fe fx:FuncId} (X:FX) (hv:X.vals.length<=1000) (hx:∀ e∈X.vals,VP P G fx [e.av] e.av) (E:List (Id × a8)) (hE:E=[]∨E=[([1],sB X.inputs)]) :
   VW P G [0] (.loop (lpB (dO fs fe fx))) (fun e s=>e = .exit 0/\Wk G [0] s ⟨Lc [0,0] [1,0] X X.vals.length,bP.to (rE (AK [0,0] [1,0] [5,7,0] [5,4,0] X E)),100000⟩) ⟨Lc [0,0] [1,0] X 0,aa.of (AK [0,0] [1,0] [5,7,0] [5,4,0] X E),1000⟩:=by
 refine VW.CK X.vals (fun i=>Lc [0,0] [1,0] X i) (fun _=>AK [0,0] [1,0] [5,7,0] [5,4,0] X E) 40 1000 100000 0 (Lc [0,0] [1,0] X X.vals.length) (AK [0,0] [1,0] [5,7,0] [5,4,0] X E) (by rcases hE with rfl | rfl<;>simp [AK]) ?_ ?_
 . intro i x Qa hlt Q hQ
   have d:decide ((i:Int)<(X.vals.length:Int))=true:=ai (by omega)
   have hg:(EX.dy X.vals)[i]? = some x.av:=by rw [EX.bY,List.getElem?_map,Qa];rfl
   have Uu:=hx x (List.mem_of_getElem? Qa)
   have E8:=ao i (by omega)
   have had:aV 7 (.osl [3] 7 0 X.vals.length false) (.int .i64 (i:Int))=some (.ref [3] i 0):=dV hlt
   have l1:∀ (σ : aa) (p:Id),(∀ y∈[([3],(⟨EX.dy X.vals,7,false⟩:a8))], σ y.1=some y.2)->bu σ p (.load true 7 (.ref [3] i 0))=some { val:=x.av,rd:=[[3]] }:=fun σ p hσ => by
     show fX σ true 7 (.ref [3] i 0)=_
     rw [gO (hσ ([3],⟨EX.dy X.vals,7,false⟩) (by simp)) hg,EX.all];rfl
   have s1:∀ (σ : aa) (p:Id),(∀ y∈[([3],(⟨EX.dy X.vals,7,false⟩:a8))], σ y.1=some y.2)->bu σ p (.store 7 (.ref [3] i 0) x.av)=some { val := .tup [],rd:=[[3]],up:=[([3],some ⟨EX.dy X.vals,7,false⟩)] }:=fun σ p hσ => by
     show eO σ 7 (.ref [3] i 0) x.av=_
     rw [ot (x:=x.av) (hσ ([3],⟨EX.dy X.vals,7,false⟩) (by simp)) hg (EX.size x) (EX.size x) (of_eq_true (EX.one x)) (by cases x;rw [EX.av];rfl),xX hg]
   rcases hE with rfl | rfl
   . refine VW.tr (π := [0]) (n:=1000+40*i) clK [hb 16 d,ho 24 had, .st 25 _ _ _ l1,hc Uu,ho 27 had, .st 100027 _ _ _ s1,hw 28 E8]
       (Lc [1] [2] X i) (AK [1] [2] [3] [4] X []) .normal (Lc [1] [2] X (i+1)) (AK [1] [2] [3] [4] X []) 40 (by kernel_rfl)
       pI (by simp only [AK,aY,bm,cy,bF,cd,gZ,nI,kt,jB];rfl) pI (by simp only [AK,aY,bm,cy,bF,cd,gZ,nI,kt,jB];rfl) (by simp [AK]) fun s hw=>hQ s hw
   . refine VW.tr (π := [0]) (n:=1000+40*i) clK [hb 16 d,ho 24 had, .st 25 _ _ _ l1,hc Uu,ho 27 had, .st 100027 _ _ _ s1,hw 28 E8]
       (Lc [1] [2] X i) (AK [1] [2] [3] [4] X [([5],sB X.inputs)]) .normal (Lc [1] [2] X (i+1)) (AK [1] [2] [3] [4] X [([5],sB X.inputs)]) 40 (by kernel_rfl)
       pI (by simp only [AK,aY,bm,cy,bF,cd,gZ,nI,kt,jB];rfl) pI (by simp only [AK,aY,bm,cy,bF,cd,gZ,nI,kt,jB];rfl) (by simp [AK]) fun s hw=>hQ s hw
 . intro Q hQ
   have d:decide ((X.vals.length:Int)<(X.vals.length:Int))=false:=ag (by omega)
   rcases hE with rfl | rfl
   . refine VW.tr (π := [0]) (n:=1000+40*X.vals.length) clK [hb 16 d] (Lc [1] [2] X X.vals.length) (AK [1] [2] [3] [4] X []) (.exit 0) (Lc [1] [2] X X.vals.length) (AK [1] [2] [3] [4] X []) 40 (by kernel_rfl)
       pI (by simp only [AK,aY,bm,cy,bF,cd,gZ,nI,kt,jB];rfl) pI (by simp only [AK,aY,bm,cy,bF,cd,gZ,nI,kt,jB];rfl) (by simp [AK]) fun s hw=>hQ s (hw.trans (Wk.forget (Fg.same _) (fun j => .inr rfl) (by omega)))
   . refine VW.tr (π := [0]) (n:=1000+40*X.vals.length) clK [hb 16 d] (Lc [1] [2] X X.vals.length) (AK [1] [2] [3] [4] X [([5],sB X.inputs)]) (.exit 0) (Lc [1] [2] X X.vals.length) (AK [1] [2] [3] [4] X [([5],sB X.inputs)]) 40 (by kernel_rfl)
       pI (by simp only [AK,aY,bm,cy,bF,cd,gZ,nI,kt,jB];rfl) pI (by simp only [AK,aY,bm,cy,bF,cd,gZ,nI,kt,jB];rfl) (by simp [AK]) fun s hw=>hQ s (hw.trans (Wk.forget (Fg.same _) (fun j => .inr rfl) (by omega)))
theorem Ld {f fs fe fx:FuncId} (h:Has P f (dO fs fe fx)) (X:FX) (h0:X.inputs≠[]) (hl:X.inputs.length<=1000) (ha:X.vals≠[]) (hv:X.vals.length<=1000) (hs:Has P fs aR) (he:Has P fe aE)
   (hx:∀ e∈X.vals,VP P G fx [e.av] e.av) (p q:Id) :
   aq P G f [FI X q (.sl 7 (EX.dy X.vals))] p [(q,sB X.inputs)] { val:=FI X (5::4::p) (.osl (5::7::p) 7 0 X.vals.length false),rd:=[q],up:=[(5::4::p,some (sB X.inputs)),(5::7::p,some ⟨EX.dy X.vals,7,false⟩)] } :=
 aq.tr (p:=p) (up:=[(5::4::p,sB X.inputs),(5::7::p,⟨EX.dy X.vals,7,false⟩)]) h (fun _=>q)
   [.rel fs [.osl [1] 1 0 X.inputs.length false] [([1],sB X.inputs)] _ (fun p hp=>CL hs X.inputs h0 hl p [1]) (by intro p x hx;rcases List.mem_singleton.1 hx with rfl;simp),
    .rel fe [.sl 7 (EX.dy X.vals)] [] _ (fun p hp=>r8 he ha (by omega) p) (by intro p x hx;cases hx),
    .lp [0] _ _ _ _ _ _ _ _ (E7 (fs:=fs) (fe:=fe) X hv hx [([1],sB X.inputs)] (.inr rfl))]
   [FI X [1] (.sl 7 (EX.dy X.vals))] [([1],sB X.inputs)] (FI X [5,4,0] (.osl [5,7,0] 7 0 X.vals.length false)) [([5,4,0],sB X.inputs),([5,7,0],⟨EX.dy X.vals,7,false⟩)] (by kernel_rfl)
   (by simp only [bF,cd,gZ,PU.fixed];rfl) (by simp only [aY,bm,jB];rfl) rfl (by simp only [aY,bm,jB,cy,kt];rfl) (by simp) (by simp)
theorem Jl {f fs fe fx:FuncId} (h:Has P f (dO fs fe fx)) (X:FX) (h0:X.inputs≠[]) (hl:X.inputs.length<=1000) (ha:X.vals=[]) (hs:Has P fs aR) (he:Has P fe aE) (p q:Id) :
   aq P G f [FI X q (.sl 7 (EX.dy X.vals))] p [(q,sB X.inputs)] { val:=FI X (5::4::p) (.sl 7 (EX.dy X.vals)),rd:=[q],up:=[(5::4::p,some (sB X.inputs))] }:=by
 have hE:=dh (G:=G) he (es:=[]) (by simp) rfl (by simp [flat]) (by simp)
 have e3:EX.dy X.vals=[]:=by rw [ha];rfl
 rw [e3]
 exact aq.tr (p:=p) (up:=[(5::4::p,sB X.inputs)]) h (fun _=>q)
   [.rel fs [.osl [1] 1 0 X.inputs.length false] [([1],sB X.inputs)] _ (fun p hp=>CL hs X.inputs h0 hl p [1]) (by intro p x hx;rcases List.mem_singleton.1 hx with rfl;simp),hc hE]
   [FI X [1] (.sl 7 [])] [([1],sB X.inputs)] (FI X [5,4,0] (.sl 7 [])) [([5,4,0],sB X.inputs)] (by kernel_rfl)
   (by simp only [bF,cd,gZ,PU.fixed];rfl) (by simp only [aY,bm,jB];rfl) rfl (by simp only [aY,bm,jB];rfl) (by simp) (by simp)
theorem CM {f:FuncId} (h:Has P f aR) (L:List (List UInt8)) (h0:L≠[]) (hl:L.length<=1000) (p:Id):aq P G f [strs L] p [] { val := .osl (5::p) 1 0 L.length false,rd:=[],up:=[(5::p,some (sB L))] }:=by
 obtain ⟨a,t,rfl⟩:=List.exists_cons_of_ne_nil h0
 have hl':t.length+1<=1000:=hl
 have a1:∀ (σ : aa) (p:Id),(∀ y∈([]:List (Id × a8)), σ y.1=some y.2)->bu σ p (.append 1 16 (.tsl 1 []) (strs (a::t)))=some { val := .osl p 1 0 (a::t).length false,rd:=[],up:=[(p,some (sB (a::t)))] }:=fun σ p hσ => by
   have:=cY (σ := σ) (p:=p) (k:=1) (bytes:=16) (es:=[]) (x:=strs (a::t)) (ys:=(a::t).map AV.str) (rd:=[]) dM (by simp) (by simp;omega) (bE (by simp;omega)) (by simpa using yh (a::t))
   simp only [List.nil_append,List.length_nil,List.length_map,Nat.zero_add] at this
   exact this
 exact aq.tr (p:=p) (up:=[(5::p,sB (a::t))]) h (fun _=>[]) [.st 7 _ _ _ a1] [strs (a::t)] [] (.osl [5,0] 1 0 (a::t).length false) [([5,0],sB (a::t))] (by kernel_rfl) (by rw [C5.fix]) rfl rfl (by simp only [aY,bm,jB];rfl) (by simp) (by simp)
theorem Le {f fs fe fx:FuncId} (h:Has P f (dO fs fe fx)) (X:FX) (h0:X.inputs≠[]) (hl:X.inputs.length<=1000) (ha:X.vals≠[]) (hv:X.vals.length<=1000) (hs:Has P fs aR) (he:Has P fe aE)
   (hx:∀ e∈X.vals,VP P G fx [e.av] e.av) (p:Id) :
   aq P G f [X.av] p [] { val:=FI X (5::4::p) (.osl (5::7::p) 7 0 X.vals.length false),rd:=[],up:=[(5::4::p,some (sB X.inputs)),(5::7::p,some ⟨EX.dy X.vals,7,false⟩)] } :=
 aq.tr (p:=p) (up:=[(5::4::p,sB X.inputs),(5::7::p,⟨EX.dy X.vals,7,false⟩)]) h (fun _=>[])
   [.rel fs [strs X.inputs] [] _ (fun p hp=>CM hs X.inputs h0 hl p) (by intro p x hx;cases hx),
    .rel fe [.sl 7 (EX.dy X.vals)] [] _ (fun p hp=>r8 he ha (by omega) p) (by intro p x hx;cases hx),
    .lp [0] _ _ _ _ _ _ _ _ (E7 (fs:=fs) (fe:=fe) X hv hx [] (.inl rfl))]
   [X.av] [] (FI X [5,4,0] (.osl [5,7,0] 7 0 X.vals.length false)) [([5,4,0],sB X.inputs),([5,7,0],⟨EX.dy X.vals,7,false⟩)] (by kernel_rfl)
   (by rw [bF,cd];show [AV.agg (bJ _ [_,_,strs X.inputs, .sl 7 (EX.dy X.vals),_])]=_;simp only [bF,cd,PU.fixed];rfl) rfl rfl (by simp only [aY,bm,jB,cy,kt];rfl) (by simp) (by simp)
theorem Jm {f fs fe fx:FuncId} (h:Has P f (dO fs fe fx)) (X:FX) (h0:X.inputs≠[]) (hl:X.inputs.length<=1000) (ha:X.vals=[]) (hs:Has P fs aR) (he:Has P fe aE) (p:Id) :
   aq P G f [X.av] p [] { val:=FI X (5::4::p) (.sl 7 (EX.dy X.vals)),rd:=[],up:=[(5::4::p,some (sB X.inputs))] }:=by
 have hE:=dh (G:=G) he (es:=[]) (by simp) rfl (by simp [flat]) (by simp)
 have e3:EX.dy X.vals=[]:=by rw [ha];rfl
 show aq P G f [.agg [.str X.name, .int .i64 X.kind,strs X.inputs, .sl 7 (EX.dy X.vals), .bool X.supp]] p [] _
 rw [e3]
 exact aq.tr (p:=p) (up:=[(5::4::p,sB X.inputs)]) h (fun _=>[])
   [.rel fs [strs X.inputs] [] _ (fun p hp=>CM hs X.inputs h0 hl p) (by intro p x hx;cases hx),hc hE]
   [.agg [.str X.name, .int .i64 X.kind,strs X.inputs, .sl 7 [], .bool X.supp]] [] (FI X [5,4,0] (.sl 7 [])) [([5,4,0],sB X.inputs)] (by kernel_rfl)
   (by simp only [bF,cd,PU.fixed]) rfl rfl (by simp only [aY,bm,jB];rfl) (by simp) (by simp)
end
end
section
open Go.Lib
section
variable {P:Program} {G:Nat->Option (List AV)}
theorem ug {U:List (Id × a8)} (hU:(U.map (·.1)).Nodup) {σ : aa}:∀ {x:Id × a8},x∈U -> σ.app (U.map fun x=>(x.1,some x.2)) x.1=some x.2:=by
 induction U generalizing σ with
 | nil=>intro x hx;cases hx
 | cons y U ih =>
   intro x hx
   rw [List.map_cons,List.nodup_cons] at hU
   rw [List.map_cons]
   show (σ.put y.1 (some y.2)).app _ x.1=_
   rcases List.mem_cons.1 hx with rfl | hx
   . rw [mH _ fun z hz e=>hU.1 (by
       obtain ⟨w,hw,rfl⟩:=List.mem_map.1 hz
       exact List.mem_map.2 ⟨w,hw,e⟩)]
     exact aa.a6 _ _ _
   . exact ih hU.2 hx
theorem aq.YL {f:FuncId} {args:List AV} {p:Id} {S:List (Id × a8)} {rd:List Id} {v0 v:AV} {U:List (Id × a8)} (h:aq P G f args p S { val:=v0,rd:=rd,up:=U.map fun x=>(x.1,some x.2) })
   (hU:(U.map (·.1)).Nodup) (hv:View (aa.of U) v0 v) (hk:∀ x∈U,∀ e∈x.2.els,e.size=x.2.k):aq P G f args p S { val:=v,rd:=rd,up:=(U.map fun x=>(x.1,some x.2))++nX U }:=by
 refine ⟨h.1,fun own E w σ vs hS hi hr hμ => ?_⟩
 refine (h.2 own E w σ vs hS hi hr hμ).mono fun e w' he => ?_
 obtain ⟨x,E',rfl,hp⟩:=he
 have hF:∀ y∈U,(σ.app (U.map fun x=>(x.1,some x.2))) y.1=some y.2:=fun y hy=>ug hU hy
 have hinv:=hp.inv
 simp only [] at hinv
 have eA:=nZ (σ := σ) (U.map fun x=>(x.1,some x.2)) (nX U)
 generalize σ.app (U.map fun x=>(x.1,some x.2)) = τ at *
 have sP:=fun i=>uA (σ := τ) i U τ hF
 obtain ⟨ha,TF⟩:=mM (p:=p) (σ' := τ.app (nX U)) U hF (fun i=>by
   rw [sP i]
   split
   . rename_i pc
     obtain ⟨x,hx,rfl⟩:=pc
     rw [hF x hx]
     exact .inr ⟨x.2,x.2.fz,rfl,rfl,rfl, .inr ⟨rfl,hx⟩,fun h=>by simp [a8.fz] at h,rfl,hk x hx,dU.same U _⟩
   . rename_i FN
     cases hb : τ i with
     | none=>exact .inl rfl
     | some bk =>
       obtain ⟨g,N,cur,ty,hB⟩:=hinv.blk i bk hb
       exact .inr ⟨bk,bk,rfl,rfl,rfl, .inl rfl,fun _ x hx e=>FN ⟨x,hx,e⟩,rfl,hB.k,dU.same U _⟩) hinv
 refine ⟨x,_,rfl,hp.yG.trans ha.toAdv, ?_, ?_, ?_⟩
 . show Inv G own _ w' (σ.app (_++nX U))
   rw [eA];exact TF
 . exact (cX.view hv) G own E' w' x (hinv.sub (aa.mf hF)) hp.rep
 . exact hp.ids
theorem aq.Sw {f:FuncId} {args:List AV} {p:Id} {S:List (Id × a8)} {rd:List Id} {v0 v:AV} {U:List (Id × a8)} (h:aq P G f args p S { val:=v0,rd:=rd,up:=U.map fun x=>(x.1,some x.2) })
   (hU:(U.map (·.1)).Nodup) (hp:∀ x∈U,p <:+ x.1) (hv:View (aa.of U) v0 v) (hk:∀ x∈U,∀ e∈x.2.els,e.size=x.2.k):aq P G f args p S { val:=v,rd:=rd }:=by
 have h':=h.YL hU hv hk
 refine ⟨h'.1,fun own E w σ vs hS hi hr hμ => ?_⟩
 refine (h'.2 own E w σ vs hS hi hr hμ).mono fun e w' he => ?_
 obtain ⟨x,E',rfl,hq⟩:=he
 refine ⟨x,E',rfl,hq.yG, ?_,hq.rep,hq.ids⟩
 show Inv G own E' w' σ
 refine hq.inv.sub fun i => ?_
 cases hb : σ i with
 | none=>exact .inl rfl
 | some b =>
   right
   have hn:∀ y∈U,y.1≠i:=fun y hy e=>by
     obtain ⟨g,N,cur,ty,hB⟩:=hi.blk i b hb
     have:=hμ i (e▸hp y hy)
     rw [hB.μ] at this;cases this
   show some b=(σ.app (_++nX U)) i
   rw [nZ,mH _ (fun z hz e=>by
     obtain ⟨y,hy,rfl⟩:=List.mem_map.1 hz
     exact hn y hy e),mH _ (fun z hz e=>by
     obtain ⟨y,hy,rfl⟩:=List.mem_map.1 hz
     exact hn y hy e),hb]
theorem E9 {σ : aa} {id:Id} {l:List EX} {b t:Bool} (h : σ id=some ⟨EX.dy l,7,b⟩):View σ (.osl id 7 0 l.length t) (.sl 7 (EX.dy l)) :=
 View.osl (bk:=⟨EX.dy l,7,b⟩) h rfl (by simp [EX.cL]) (by
   have e:(EX.dy l).take l.length=EX.dy l:=List.take_of_length_le (by rw [EX.cL];exact Nat.le_refl _)
   simp only [List.drop_zero,e]
   refine aI.pure fun c hc => ?_
   simp only [flat,List.mem_flatMap] at hc
   obtain ⟨v,hv,hc⟩:=hc
   rw [EX.bY] at hv
   obtain ⟨y,_,rfl⟩:=List.mem_map.1 hv
   exact EX.fP y c hc) (EX.cL _) (fun d hd=>by
   rw [EX.bY] at hd
   obtain ⟨y,_,rfl⟩:=List.mem_map.1 hd
   exact EX.size y)
theorem yi {σ : aa} {id:Id} {l:List (List UInt8)} {t:Bool} (h : σ id=some (sB l)):View σ (.osl id 1 0 l.length t) (strs l):=nP (t:=[]) (b:=false) (by rw [List.append_nil];exact h)
theorem FI.view {σ : aa} {X:FX} {r:Id} {v:AV} (hr : σ r=some (sB X.inputs)) (hv:View σ v (.sl 7 (EX.dy X.vals))):View σ (FI X r v) X.av :=
 View.agg (.cons (View.pure (af.str _)) (.cons (View.pure (af.int _ _)) (.cons (yi hr) (.cons hv (.cons (View.pure (af.bool _)) .nil)))))
theorem Jn {l:List (List UInt8)}:∀ e∈(sB l).els,e.size=(sB l).k:=fun e he=>by obtain ⟨x,_,rfl⟩:=List.mem_map.1 he;rfl
theorem Ph {f fs fe fx:FuncId} (h:Has P f (dO fs fe fx)) (X:FX) (h0:X.inputs≠[]) (hl:X.inputs.length<=1000) (hv:X.vals.length<=1000) (hs:Has P fs aR) (he:Has P fe aE)
   (hx:∀ e∈X.vals,VP P G fx [e.av] e.av) (p q:Id):aq P G f [FI X q (.sl 7 (EX.dy X.vals))] p [(q,sB X.inputs)] { val:=X.av,rd:=[q] }:=by
 by_cases ha:X.vals=[]
 . exact (Jl h X h0 hl ha hs he p q).Sw (U:=[(5::4::p,sB X.inputs)]) (by simp) (by intro x hx;rcases List.mem_singleton.1 hx with rfl;exact ⟨[5,4],rfl⟩) (FI.view (by simp [aa.of]) (View.pure (EX.fQ _))) (by intro x hx;rcases List.mem_singleton.1 hx with rfl;exact Jn)
 . exact (Ld h X h0 hl ha hv hs he hx p q).Sw (U:=[(5::4::p,sB X.inputs),(5::7::p,⟨EX.dy X.vals,7,false⟩)]) (by simp) (by intro x hx;simp at hx;rcases hx with rfl | rfl;exact ⟨[5,4],rfl⟩;exact ⟨[5,7],rfl⟩)
     (FI.view (by simp [aa.of]) (E9 (b:=false) (by simp [aa.of,List.lookup]))) (by
       intro x hx;simp at hx;rcases hx with rfl | rfl
       . exact Jn
       . intro d hd
         simp only [] at hd
         rw [EX.bY] at hd
         obtain ⟨y,_,rfl⟩:=List.mem_map.1 hd
         exact EX.size y)
end
end
section
open Go.Lib
instance {X:FX}:PU X.av:=by
 show PU (AV.agg [.str X.name, .int .i64 X.kind,strs X.inputs, .sl 7 (EX.dy X.vals), .bool X.supp])
 infer_instance
instance {l:List FX}:PU (bT l):=PU.rows (f:=FX.av) (fun x=>inferInstance) (fun x d hd=>FX.fP x d hd) l
instance {ls:List (List FX)}:PU (r9 ls):=PU.rows (f:=bT) (fun x=>inferInstance) (fun x d hd=>by rw [EP,List.mem_singleton] at hd;subst hd;exact kr x) ls
instance {ls:List (List FX)} {a:Nat}:PU (b8 ls a):=by unfold b8;infer_instance
theorem j1 {ρ : Id->Id} {ls:List (List FX)} {a:Nat}:(bH ls a).di ρ = bH ls a:=by simp only [bH,cy,bF,cd,PU.fixed]
theorem Vc {ρ : Id->Id} {l:List FX}:bJ ρ (l.map FX.av)=l.map FX.av:=(C5.map (fun x=>inferInstance) l).fix ρ
theorem Lf {σ : aa} {X:FX} {q:Id} (h : σ q=some (sB X.inputs)):aI σ [FI X q (.sl 7 (EX.dy X.vals))] [X.av] := .cons (FI.view h (View.pure (EX.fQ _))) .nil
def naK (q hid:Id):Nat->Id:=fun k=>match k with | 1=>q | _=>hid
theorem vS {i:Id} {b:a8} {r:Id->eB} (h:∀ p,(r p).rd=[i]:=by intro p;rfl):∀ p,∀ x∈[((i,b):Id × a8)],x.1∈(r p).rd:=by
 intro p x hx;rcases List.mem_singleton.1 hx with rfl;rw [h p];simp
end
section
open Go.Lib
def OI (X:FX) (q:Id):AV := .agg [.int .u8 0, .str X.name, .int .i64 X.kind, .osl q 1 0 X.inputs.length false, .sl 7 (EX.dy X.vals), .bool X.supp, .str [], .bool false, .int .i64 0]
theorem YM {ρ : Id->Id} {X:FX} {q:Id}:(OI X q).di ρ = OI X (ρ q):=by
 show AV.agg [.int .u8 0, .str X.name, .int .i64 X.kind, .osl (ρ q) 1 0 X.inputs.length false, .sl 7 (bJ ρ (EX.dy X.vals)), .bool X.supp, .str [], .bool false, .int .i64 0]=_
 rw [kt];rfl
theorem yj {a b:List AV}:flat (a++b)=flat a++flat b:=by simp [flat]
theorem aI.app {σ : aa}:∀ {a a' b b':List AV},aI σ a a'->aI σ b b'->aI σ (a++b) (a'++b'):=by
 intro a
 induction a with
 | nil =>
   intro a' b b' h hb
   have:a'=[]:=List.length_eq_zero_iff.1 h.1.symm
   subst this;exact hb
 | cons x a ih =>
   intro a' b b' h hb
   cases a' with
   | nil=>exact absurd h.1 (by simp)
   | cons y a'=>exact .cons (h.2 0 x y rfl rfl) (ih (a':=a') ⟨by simpa using h.1,fun j c d hc hd=>h.2 (j+1) c d (by simpa using hc) (by simpa using hd)⟩ hb)
def lI (l:List FX) (X:FX) (q:Id):List AV:=l.map FX.av++[FI X q (.sl 7 (EX.dy X.vals))]
theorem Sx {σ : aa} {id q:Id} {l:List FX} {X:FX} {t:Bool} (h : σ id=some ⟨lI l X q,5,false⟩) (hq : σ q=some (sB X.inputs)):View σ (.osl id 5 0 (l.length+1) t) (bT (l++[X])):=by
 refine View.osl (bk:=⟨lI l X q,5,false⟩) h rfl (by simp [lI]) ?_ (by simp) (fun d hd => ?_)
 . have e:(lI l X q).take (l.length+1)=lI l X q:=List.take_of_length_le (by simp [lI])
   show aI σ (flat (((lI l X q).drop 0).take (l.length+1))) (flat ((l++[X]).map FX.av))
   rw [List.drop_zero,e,lI,List.map_append,yj,yj]
   refine aI.app (aI.pure fun c hc => ?_) ?_
   . simp only [flat,List.mem_flatMap] at hc
     obtain ⟨v,hv,hc⟩:=hc
     obtain ⟨Y,_,rfl⟩:=List.mem_map.1 hv
     exact FX.fP Y c hc
   . show aI σ [.str X.name, .int .i64 X.kind, .osl q 1 0 X.inputs.length false, .sl 7 (EX.dy X.vals), .bool X.supp] [.str X.name, .int .i64 X.kind,strs X.inputs, .sl 7 (EX.dy X.vals), .bool X.supp]
     exact .cons (View.pure (af.str _)) (.cons (View.pure (af.int _ _)) (.cons (yi hq) (.cons (View.pure (EX.fQ _)) (.cons (View.pure (af.bool _)) .nil))))
 . obtain ⟨Y,_,rfl⟩:=List.mem_map.1 hd;rfl
theorem YN {ρ : Id->Id} {l:List FX} {X:FX} {q:Id}:bJ ρ (lI l X q)=lI l X (ρ q):=by
 unfold lI
 rw [fZ,Vc,bF,cd,gZ,PU.fixed]
section
variable {P:Program} {G:Nat->Option (List AV)} {f fv fp fl fc:FuncId}
theorem ZW {i j:Id} {b c:a8} {r:Id->eB} (h:∀ p,(r p).rd=[i,j]:=by intro p;rfl):∀ p,∀ x∈[((i,b):Id × a8),(j,c)],x.1∈(r p).rd:=by
 intro p x hx;rw [h p];simp at hx;rcases hx with rfl | rfl<;>simp
def Ah (l:List FX) (X:FX):Int:=if X.valid=false then 1 else if 200<=l.length then 3 else if 0<=cM l X.name then 5 else if eZ (l++[X])=true then 0 else 4
end
end
section
open Go.Lib
theorem Vd {ρ : Id->Id} {ls:List (List FX)}:bJ ρ (ls.map bT)=ls.map bT:=(C5.map (fun x=>inferInstance) ls).fix ρ
def Gu (m:List (List FX)) (k:Nat) (o:Id):List AV:=m.map bT++[.osl o 5 0 k false]
theorem M7 {ρ : Id->Id} {m:List (List FX)} {k:Nat} {o:Id}:bJ ρ (Gu m k o)=Gu m k (ρ o):=by
 unfold Gu
 rw [fZ,Vd];rfl
end
section
open Go.Lib
def M8 (X:FX):OX:=⟨0,X,[],false,0⟩
theorem CN (l:List FX) (X:FX):(bX l (M8 X)).2=Ah l X/\(Ah l X=0->(bX l (M8 X)).1=l++[X]):=by
 unfold bX Ah
 rw [if_pos (show (M8 X).kind%7=0 from rfl)]
 have eF:(M8 X).F=X:=rfl
 rw [eF]
 by_cases h1:X.valid=false
 . simp [h1]
 by_cases h2:200<=l.length
 . simp [h1,h2]
 by_cases h3:0<=cM l X.name
 . simp [h1,h2,h3]
 by_cases h4:eZ (l++[X])=true
 . simp [h1,h2,h3,h4]
 . simp [h1,h2,h3,h4]
theorem CO {hid:Id} {ls:List (List FX)} {now:Nat} {l:List FX} {X:FX} (hL:eZ l=true):DC hid ls now l X=(Ah l X,if Ah l X=0 then sa hid ls now l (l++[X]) else []):=by
 have h:=zt hid ls now l (M8 X)
 have hp:qW hid ls now l (M8 X)=DC hid ls now l X:=by unfold qW;simp [M8]
 rw [hp,step_eq hL (show 0%7<5 from by decide),(CN l X).1] at h
 rw [h]
 by_cases h0:Ah l X=0
 . rw [if_pos h0,if_pos h0,(CN l X).2 h0]
 . rw [if_neg h0,if_neg h0]
section
variable {P:Program} {G:Nat->Option (List AV)} {aU:FX->Prop} {f fdo YG fed YH fmv YI YJ ZO:FuncId}
def nbK (q hid mid:Id):Nat->Id:=fun k=>match k with | 1=>q | 2=>hid | _=>mid
theorem hr3 {i j k:Id} {b c d:a8} {r:Id->eB} (h:∀ p,(r p).rd=[i,j,k]:=by intro p;rfl):∀ p,∀ x∈[((i,b):Id × a8),(j,c),(k,d)],x.1∈(r p).rd:=by
 intro p x hx;rw [h p];simp at hx;rcases hx with rfl | rfl | rfl<;>simp
def YO (k:Nat) (o:Id) (now:Nat):a8:=⟨[.agg [.osl o 1 0 k false, .int .i64 (now:Int)]],2,false⟩
theorem Ve {ρ : Id->Id} {k now:Nat} {o:Id}:(YO k o now).di ρ = YO k (ρ o) now:=rfl
end
end
section
open Go.Lib
def mg (σ : aa) (R:List (Id × a8)):aa:=fun i=>match R.lookup i with | some b=>some b | none => σ i
theorem Fa {σ : aa} {R:List (Id × a8)} {i:Id} {b:a8} (h:R.lookup i=some b):mg σ R i=some b:=by unfold mg;rw [h]
theorem se {σ : aa} {R:List (Id × a8)} {i:Id} (h:R.lookup i=none):mg σ R i = σ i:=by unfold mg;rw [h]
section
variable {P:Program} {G:Nat->Option (List AV)} {π : Id} {Q:bB->VS->Prop}
theorem VW.frame {vc:bA} {t:List AV} {σ : aa} {n:Nat} (R:List (Id × a8)) (hR:∀ x∈R,x.2.fr=false) (hσ : ∀ x∈R, σ x.1=none)
   (h:VW P G π vc (fun e s'=>Q e ⟨s'.t,mg s'.σ R,s'.n⟩) ⟨t, σ,n⟩):VW P G π vc Q ⟨t,mg σ R,n⟩:=by
 intro c hc own E w a RR hm hRR
 have hinv:Inv G own E w (mg σ R):=hm.inv
 have Dz:∀ id bk, σ id=some bk->R.lookup id=none:=fun id bk hs=>by
   cases hl:R.lookup id with
   | none=>rfl
   | some b=>have:=hσ _ (eR hl);rw [hs] at this;cases this
 have hRB:∀ id b,R.lookup id=some b->VU E own w id b:=fun id b hl=>hinv.blk id b (Fa hl)
 have TC:∀ x∈R,∃ b,R.lookup x.1=some b:=fun x hx=>by
   cases hl:R.lookup x.1 with
   | some b=>exact ⟨b,rfl⟩
   | none=>rw [List.lookup_eq_none_iff] at hl;have:=hl x hx;simp at this
 have hmσ : ib G π (fun k=>own k/\∀ x∈R,∀ y,E.μ x.1=some y->y.1≠k) E w ⟨t, σ,n⟩ a:=by
   refine ⟨hm.frame,⟨hm.inv.okb,fun id bk hs => ?_,fun i j x y hi hj hne hx hy => ?_,hm.inv.glob,fun k hk=>⟨hm.inv.new k hk,fun x hx y hy => ?_⟩⟩,hm.free,hm.defers⟩
   . obtain ⟨g,N,cur,ty,hB⟩:=hinv.blk id bk ((se (Dz id bk hs)).trans hs)
     refine ⟨g,N,cur,ty,{ hB with own:=⟨hB.own,fun x hx y hy => ?_⟩ }⟩
     obtain ⟨b,hl⟩:=TC x hx
     refine hinv.inj x.1 id y _ (by rw [Fa hl];simp) (by rw [se (Dz id bk hs),show σ id=some bk from hs];simp) ?_ hy hB.μ
     rintro rfl
     rw [Dz _ bk hs] at hl;cases hl
   . obtain ⟨b,hb⟩:=Option.ne_none_iff_exists'.1 hi
     obtain ⟨d,hd⟩:=Option.ne_none_iff_exists'.1 hj
     exact hinv.inj i j x y (by rw [se (Dz i b hb),show σ i=some b from hb];simp) (by rw [se (Dz j d hd),show σ j=some d from hd];simp) hne hx hy
   . obtain ⟨b,hl⟩:=TC x hx
     obtain ⟨g,N,cur,ty,hB⟩:=hRB x.1 b hl
     rw [hB.μ] at hy
     simp only [Option.some.injEq] at hy
     subst hy
     have:=cV hB.heap
     simp only []
     omega
 refine h c hc _ E w a RR hmσ fun e s' E' w' a' hQ dS mL=>hRR e ⟨s'.t,mg s'.σ R,s'.n⟩ E' w' a' hQ ?_ ?_
 . exact ⟨⟨dS.step,dS.os,dS.tape,dS.output,dS.size,fun k hk ho=>dS.block k hk fun q=>ho q.1,fun b hb=>(dS.PB b hb).imp id fun q=>q.1⟩,dS.ids⟩
 . have M9:∀ id b,R.lookup id=some b->∃ g N cur ty,o6 E own w id b g N cur ty/\o6 E' own w' id b g N cur ty:=fun id b hl=>by
     obtain ⟨g,N,cur,ty,hB⟩:=hRB id b hl
     have hno : ¬ (own g/\∀ x∈R,∀ y,E.μ x.1=some y->y.1≠g):=fun q=>q.2 _ (eR hl) _ hB.μ rfl
     refine ⟨g,N,cur,ty,hB,hB.keep dS.step (dS.block g (cV hB.heap) hno) fun hf hb => ?_⟩
     rcases dS.PB g hb with h1 | h1
     . exact hB.no hf h1
     . exact hno h1
   refine ⟨mL.frame,⟨mL.inv.okb,fun id bk hs => ?_,fun i j x y hi hj hne hx hy => ?_,mL.inv.glob,fun k hk=>hm.inv.new k (Nat.le_trans dS.size hk)⟩,mL.free,mL.defers⟩
   . cases hl:R.lookup id with
     | some b =>
       have dr:mg s'.σ R id=some bk:=hs
       rw [Fa hl] at dr
       simp only [Option.some.injEq] at dr
       subst dr
       obtain ⟨g,N,cur,ty,_,hB⟩:=M9 id b hl
       exact ⟨g,N,cur,ty,hB⟩
     | none =>
       have dr:mg s'.σ R id=some bk:=hs
       rw [se hl] at dr
       obtain ⟨g,N,cur,ty,hB⟩:=mL.inv.blk id bk dr
       exact ⟨g,N,cur,ty,{ hB with own:=hB.own.1 }⟩
   . have fK:mg s'.σ R i≠none:=hi
     have hj':mg s'.σ R j≠none:=hj
     have WM:∀ i j x y b,R.lookup i=some b->R.lookup j=none->mg s'.σ R j≠none->E'.μ i=some x->E'.μ j=some y->x.1≠y.1:=fun i j x y b hl TE hj hx hy=>by
       obtain ⟨g,N,cur,ty,hB,Db⟩:=M9 i b hl
       rw [se TE] at hj
       obtain ⟨d,hd⟩:=Option.ne_none_iff_exists'.1 hj
       obtain ⟨g2,N2,Kc,ZG,hC⟩:=mL.inv.blk j d hd
       rw [Db.μ] at hx
       rw [hC.μ] at hy
       simp only [Option.some.injEq] at hx hy
       subst hx;subst hy
       exact hC.own.2 _ (eR hl) _ hB.μ
     cases PI:R.lookup i with
     | some b =>
       cases TE:R.lookup j with
       | some d =>
         obtain ⟨g,N,cur,ty,hB,Db⟩:=M9 i b PI
         obtain ⟨g2,N2,Kc,ZG,hC,hC'⟩:=M9 j d TE
         rw [Db.μ] at hx
         rw [hC'.μ] at hy
         simp only [Option.some.injEq] at hx hy
         subst hx;subst hy
         exact hinv.inj i j _ _ (by rw [Fa PI];simp) (by rw [Fa TE];simp) hne hB.μ hC.μ
       | none=>exact WM i j x y b PI TE hj' hx hy
     | none =>
       cases TE:R.lookup j with
       | some d=>exact (WM j i y x d TE PI fK hy hx).symm
       | none =>
         rw [se PI] at fK
         rw [se TE] at hj'
         exact mL.inv.inj i j x y fK hj' hne hx hy
end
end
section
open Go.Lib
section
variable {P:Program} {G:Nat->Option (List AV)}
theorem aq.Vf {f:FuncId} {args:List AV} {p:Id} {S:List (Id × a8)} {rd:List Id} {v0 v:AV} (K U:List (Id × a8)) (h:aq P G f args p S { val:=v0,rd:=rd,up:=(K++U).map fun x=>(x.1,some x.2) })
   (hd:((K++U).map (·.1)).Nodup) (hp:∀ x∈U,p <:+ x.1) (hv:cX U v0 v) (hk:∀ x∈U,∀ e∈x.2.els,e.size=x.2.k):aq P G f args p S { val:=v,rd:=rd,up:=K.map fun x=>(x.1,some x.2) }:=by
 refine ⟨h.1,fun own E w σ vs hS hi hr hμ => ?_⟩
 refine (h.2 own E w σ vs hS hi hr hμ).mono fun e w' he => ?_
 obtain ⟨x,E',rfl,hq⟩:=he
 have hF:∀ y∈U,(σ.app ((K++U).map fun x=>(x.1,some x.2))) y.1=some y.2:=fun y hy=>ug hd (List.mem_append_right _ hy)
 have hinv:Inv G own E' w' (σ.app ((K++U).map fun x=>(x.1,some x.2))):=hq.inv
 have Xv : σ.app ((K++U).map fun x=>(x.1,some x.2))=(σ.app (K.map fun x=>(x.1,some x.2))).app (U.map fun x=>(x.1,some x.2)):=by rw [List.map_append,nZ]
 generalize hτ : σ.app ((K++U).map fun x=>(x.1,some x.2)) = τ at *
 have sP:=fun i=>uA (σ := τ) i U τ hF
 obtain ⟨ha,TF⟩:=mM (p:=p) (σ' := τ.app (nX U)) U hF (fun i=>by
   rw [sP i]
   split
   . rename_i pc
     obtain ⟨x,hx,rfl⟩:=pc
     rw [hF x hx]
     exact .inr ⟨x.2,x.2.fz,rfl,rfl,rfl, .inr ⟨rfl,hx⟩,fun h=>by simp [a8.fz] at h,rfl,hk x hx,dU.same U _⟩
   . rename_i FN
     cases hb : τ i with
     | none=>exact .inl rfl
     | some bk =>
       obtain ⟨g,N,cur,ty,hB⟩:=hinv.blk i bk hb
       exact .inr ⟨bk,bk,rfl,rfl,rfl, .inl rfl,fun _ x hx e=>FN ⟨x,hx,e⟩,rfl,hB.k,dU.same U _⟩) hinv
 refine ⟨x,_,rfl,hq.yG.trans ha.toAdv, ?_,hv G own E' w' x (hinv.sub (aa.mf hF)) hq.rep,hq.ids⟩
 show Inv G own _ w' (σ.app (K.map fun x=>(x.1,some x.2)))
 refine TF.sub fun i => ?_
 rw [sP i]
 by_cases pc:∃ y∈U,y.1=i
 . left
   obtain ⟨y,hy,rfl⟩:=pc
   rw [mH _ (fun z hz e=>by
     obtain ⟨k,TX,rfl⟩:=List.mem_map.1 hz
     rw [List.map_append,List.nodup_append] at hd
     exact hd.2.2 _ (List.mem_map.2 ⟨k,TX,rfl⟩) _ (List.mem_map.2 ⟨y,hy,rfl⟩) e)]
   cases hb : σ y.1 with
   | none=>rfl
   | some b =>
     obtain ⟨g,N,cur,ty,hB⟩:=hi.blk _ b hb
     have:=hμ _ (hp y hy)
     rw [hB.μ] at this;cases this
 . right
   rw [if_neg pc,Xv,mH (U.map _) (fun z hz e=>by
     obtain ⟨y,hy,rfl⟩:=List.mem_map.1 hz
     exact pc ⟨y,hy,e⟩)]
theorem Pj {f fs fe fx:FuncId} (h:Has P f (dO fs fe fx)) (X:FX) (h0:X.inputs≠[]) (hl:X.inputs.length<=1000) (hv:X.vals.length<=1000) (hs:Has P fs aR) (he:Has P fe aE)
   (hx:∀ e∈X.vals,VP P G fx [e.av] e.av) (p:Id):aq P G f [X.av] p [] { val:=FI X (5::4::p) (.sl 7 (EX.dy X.vals)),rd:=[],up:=[(5::4::p,some (sB X.inputs))] }:=by
 by_cases ha:X.vals=[]
 . exact Jm h X h0 hl ha hs he p
 . have MV:View (aa.of [(5::7::p,(⟨EX.dy X.vals,7,false⟩:a8))]) (.osl (5::7::p) 7 0 X.vals.length false) (.sl 7 (EX.dy X.vals)):=E9 (b:=false) (by simp [aa.of])
   exact aq.Vf [(5::4::p,sB X.inputs)] [(5::7::p,⟨EX.dy X.vals,7,false⟩)] (Le h X h0 hl ha hv hs he hx p) (by simp) (by intro x hx;rcases List.mem_singleton.1 hx with rfl;exact ⟨[5,7],rfl⟩)
     (cX.agg ⟨cX.same _ _,cX.same _ _,cX.same _ _,cX.view MV,cX.same _ _,trivial⟩) (by
       intro x hx;rcases List.mem_singleton.1 hx with rfl
       intro d hd
       simp only [] at hd
       rw [EX.bY] at hd
       obtain ⟨y,_,rfl⟩:=List.mem_map.1 hd
       exact EX.size y)
end
end
def gl (g:Nat->AV) (i:Nat):List AV:=(List.range i).map g
theorem Sy {g:Nat->AV} {i:Nat}:(gl g i).length=i:=by simp [gl]
theorem Vg {g:Nat->AV} {i:Nat}:gl g (i+1)=gl g i++[g i]:=by simp [gl,List.range_succ]
theorem YP {g:Nat->AV} {i:Nat} {ρ : Id->Id} (h:∀ j,j<i->(g j).di ρ = g j):bJ ρ (gl g i)=gl g i:=by
 unfold gl
 rw [fG,List.map_map]
 exact List.map_congr_left fun j hj=>h j (List.mem_range.1 hj)
def JW (q:Id) (k:Nat) (i:Nat):AV:=if i=0 then .nils else .osl q k 0 i false
def Ai (q:Id) (k:Nat) (g:Nat->AV) (i:Nat):List (Id × a8):=if i=0 then [] else [(q,⟨gl g i,k,false⟩)]
theorem Na {k bytes:Nat} {x:AV} {a:Id} (hb:bytes<=140737488355328:=by decide) (h1:x.cells.all AV.one=true:=by rfl) :
   ∀ (σ : aa) (p:Id),(∀ y∈[(a,(⟨[x],k,false⟩:a8))], σ y.1=some y.2)->bu σ p (.append k bytes .nils (.osl a k 0 1 false))=some { val := .osl p k 0 1 false,rd:=[a],up:=[(p,some ⟨[x],k,false⟩)] } :=
 fun σ p hσ => Yt (hσ (a,⟨[x],k,false⟩) (by simp)) hb h1
section
open Go.Lib
def DF (X:FX) (r:Id):AV:=if X.inputs=[] then X.av else FI X r (.sl 7 (EX.dy X.vals))
theorem Gv {ρ : Id->Id} {X:FX} {r:Id}:(DF X r).di ρ = DF X (ρ r):=by
 unfold DF
 split
 . exact PU.fix ρ
 . rw [gZ,PU.fixed]
theorem Nb (X:FX) (r:Id):(DF X r).cells.all AV.one=true:=by
 unfold DF
 split
 . exact of_eq_true (FX.one X)
 . rfl
def XD (l:List FX) (j:Nat):FX:=l.getD j ⟨[],0,[],[],false⟩
theorem WN {l:List FX} {j:Nat} {X:FX} (h:l[j]? = some X):XD l j=X:=by unfold XD;rw [List.getD_eq_getElem?_getD,h];rfl
def rr (p:Id) (j:Nat):Id:=5::4::(1000+40*j+7)::p
def gE (p:Id) (l:List FX) (j:Nat):AV:=DF (XD l j) (rr p j)
def Vh (l:List FX) (j:Nat):AV:=DF (XD l j) [j+3]
def RI (p:Id) (l:List FX) (i:Nat):List (Id × a8):=(List.range i).flatMap fun j=>if (XD l j).inputs=[] then [] else [(rr p j,sB (XD l j).inputs)]
theorem CP {p:Id} {l:List FX} {i:Nat} {x:Id × a8} (h:x∈RI p l i):∃ j,j<i/\(XD l j).inputs≠[]/\x=(rr p j,sB (XD l j).inputs):=by
 obtain ⟨j,hj,hx⟩:=List.mem_flatMap.1 h
 rw [List.mem_range] at hj
 split at hx
 . cases hx
 . rename_i hne
   exact ⟨j,hj,hne,List.mem_singleton.1 hx⟩
theorem Gw {p:Id} {l:List FX} {i:Nat}:RI p l (i+1)=RI p l i++(if (XD l i).inputs=[] then [] else [(rr p i,sB (XD l i).inputs)]):=by
 unfold RI
 rw [List.range_succ,List.flatMap_append]
 simp
theorem Sz {p:Id} {i j:Nat} (h:rr p i=rr p j):i=j:=by
 unfold rr at h
 injection h with _ h;injection h with _ h;injection h with h _;omega
theorem CQ {p:Id} {l:List FX}:∀ i,((RI p l i).map (·.1)).Nodup
 | 0=>by simp [RI]
 | i + 1=>by
   rw [Gw,List.map_append,List.nodup_append]
   refine ⟨CQ i,by split<;>simp, ?_⟩
   intro a ha b hb AU
   subst AU
   obtain ⟨x,hx,rfl⟩:=List.mem_map.1 ha
   obtain ⟨j,hj,_,rfl⟩:=CP hx
   obtain ⟨y,hy,e⟩:=List.mem_map.1 hb
   split at hy
   . cases hy
   . rcases List.mem_singleton.1 hy with rfl
     have:=Sz e
     omega
def AL (hid:Id) (l:List FX) (i:Nat) (o:AV):List AV:=[.ref hid 0 0, .top, .top,o, .top, .top, .top,bT l, .int .i64 (l.length:Int), .int .i64 (i:Int)]++List.replicate 10 .top
theorem k9 {ρ : Id->Id} {hid:Id} {l:List FX} {i:Nat} {o:AV}:bJ ρ (AL hid l i o)=AL (ρ hid) l i (o.di ρ):=by
 unfold AL
 simp only [fZ,bF,cd,uc,PU.fixed,xW,uI]
def Vi (p hid:Id) (q:Nat):Nat->Id:=fun k=>match k with | 1=>q::p | 2=>hid | k=>rr p (k-3)
theorem uJ {p hid:Id} {q n:Nat} {l:List FX} {i:Nat}:bJ (j2 n p (Vi p hid q)) (gl (Vh l) i)=gl (gE p l) i:=by
 unfold gl
 rw [fG,List.map_map]
 refine List.map_congr_left fun j _ => ?_
 show (DF (XD l j) [j+3]).di _=DF (XD l j) (rr p j)
 rw [Gv]
 show DF (XD l j) (Vi p hid q (j+2+1))=_
 unfold Vi
 simp
end
section
open Go.Lib
theorem Nc {k bytes i:Nat} {x:AV} {a q:Id} {L:List AV} (hL:L.length=i) (hb:(i+1)*bytes<=140737488355328) (h0:0<bytes) (h1:x.cells.all AV.one=true) (h3:(L.all fun e=>e.cells.all AV.one)=true) :
   ∀ (σ : aa) (p:Id),(∀ y∈[(a,(⟨[x],k,false⟩:a8)),(q,⟨L,k,false⟩)], σ y.1=some y.2)->bu σ p (.append k bytes (.osl q k 0 i false) (.osl a k 0 1 false))=some { val := .osl p k 0 (i+1) false,rd:=[q,a],up:=[(q,none),(p,some ⟨L++[x],k,false⟩)] } :=
 fun σ p hσ => by
   subst hL
   exact Gj (σ := σ) (p:=p) (bytes:=bytes) (t:=false) (hσ (a,⟨[x],k,false⟩) (by simp)) (hσ (q,⟨L,k,false⟩) (by simp)) hb h0 h1 h3
theorem SA {g:Nat->AV} {i:Nat} (h:∀ j,(g j).cells.all AV.one=true):((gl g i).all fun e=>e.cells.all AV.one)=true:=by
 rw [List.all_eq_true]
 intro e he
 obtain ⟨j,_,rfl⟩:=List.mem_map.1 he
 exact h j
section
variable {P:Program} {G:Nat->Option (List AV)} {π : Id}
theorem VW.exact {vc:bA} {e1:bB} {c1 s0:VS} (h:VW P G π vc (fun e s=>e=e1/\Wk G π s c1) s0):VW P G π vc (fun e s=>e=e1/\s=c1) s0:=by
 intro c hc own E w a RR hm hRR
 refine h c hc own E w a RR hm fun e s' E' w' a' hQ dS mL => ?_
 obtain ⟨rfl,hw⟩:=hQ
 obtain ⟨E2,ha,sQ⟩:=hw own E' w' a' mL
 exact hRR _ c1 E2 w' a' ⟨rfl,rfl⟩ (dS.trans ha) sQ
variable {fp qu fs fe fx:FuncId}
abbrev feL (fp qu:FuncId):bA:=lpB (bV fp qu)
def oq (p:Id) (i:Nat):Id:=(1000+40*(i-1)+9)::p
def ZX (p:Id) (l:List FX) (i:Nat):List (Id × a8):=(oq p (i+1),⟨gl (gE p l) (i+1),5,false⟩)::(if (XD l i).inputs=[] then [] else [(rr p i,sB (XD l i).inputs)])
theorem Vj (p hid:Id) (l:List FX) (hl:l.length<=1000) {i:Nat} {X:FX} (hX:l[i]? = some X) (ZY:X.inputs=[]->VP P G qu [X.av] X.av) (hC:X.inputs≠[]->∀ p:Id,aq P G qu [X.av] p [] { val:=FI X (5::4::p) (.sl 7 (EX.dy X.vals)),rd:=[],up:=[(5::4::p,some (sB X.inputs))] }) :
   VW P G p (feL fp qu) (fun e s=>e = .normal/\Wk G p s ⟨AL hid l (i+1) (JW (oq p (i+1)) 5 (i+1)),aa.of (ZX p l i),1000+40*(i+1)⟩)
     ⟨AL hid l i (JW (oq p i) 5 i),aa.of (Ai (oq p i) 5 (gE p l) i),1000+40*i⟩:=by
 have hlt:i<l.length:=(List.getElem?_eq_some_iff.1 hX).1
 have d:decide ((i:Int)<(l.length:Int))=true:=ai (by omega)
 have fT:aV 5 (bT l) (.int .i64 (i:Int))=some (.ep X.av.cells 0):=aN rfl (by rw [List.getElem?_map,hX];rfl)
 have E8:=ao i (by omega)
 have Vk:=WN hX
 have en:1000+40*(i+1)=1000+40*i+40:=by omega
 rw [en]
 have e1:gl (gE p l) (i+1)=gl (gE p l) i++[DF X (rr p i)]:=by rw [Vg];unfold gE;rw [Vk]
 rcases Nat.eq_zero_or_pos i with N5 | N5
 . subst N5
   by_cases hi:X.inputs=[]
   . have a1:=Na (a:=[8,0]) (k:=5) (bytes:=80) (x:=X.av) (h1:=of_eq_true (FX.one X))
     refine VW.tr (π := p) (n:=1000+40*0) (Vi p hid 0) [hb 10 d,ho 11 fT,hc (ZY hi), .st 17 _ _ _ a1,hw 18 E8]
       (AL [2] l 0 .nils) [] .normal (AL [2] l 1 (.osl [9,0] 5 0 1 false)) [([9,0],⟨[X.av],5,false⟩)] 40 (by kernel_rfl)
       k9 rfl k9 (by simp only [aY,bm,cy,bF,cd,PU.fixed];rfl) (by simp [Ai]) fun s hw=>⟨rfl, ?_⟩
     unfold ZX
     rw [Vk,if_pos hi,e1]
     unfold DF
     rw [if_pos hi]
     exact hw
   . have a1:=Na (a:=[8,0]) (k:=5) (bytes:=80) (x:=FI X [5,4,7,0] (.sl 7 (EX.dy X.vals)))
     refine VW.tr (π := p) (n:=1000+40*0) (Vi p hid 0) [hb 10 d,ho 11 fT, .rel qu [X.av] [] _ (fun p _=>hC hi p) (by intro p x hx;cases hx), .st 17 _ _ _ a1,hw 18 E8]
       (AL [2] l 0 .nils) [] .normal (AL [2] l 1 (.osl [9,0] 5 0 1 false)) [([9,0],⟨[FI X [5,4,7,0] (.sl 7 (EX.dy X.vals))],5,false⟩),([5,4,7,0],sB X.inputs)] 40 (by kernel_rfl)
       k9 rfl k9 (by simp only [aY,bm,cy,bF,cd,gZ,PU.fixed,jB];rfl) (by simp [Ai]) fun s hw=>⟨rfl, ?_⟩
     unfold ZX
     rw [Vk,if_neg hi,e1]
     unfold DF
     rw [if_neg hi]
     exact hw
 . obtain ⟨k,rfl⟩:∃ k,i=k+1:=⟨i-1,by omega⟩
   by_cases hi:X.inputs=[]
   . have a1:=Nc (a:=[8,0]) (q:=[1]) (k:=5) (bytes:=80) (x:=X.av) (L:=gl (Vh l) (k+1)) Sy (by omega) (by decide) (of_eq_true (FX.one X)) (SA fun j=>Nb _ _)
     refine VW.tr (π := p) (n:=1000+40*(k+1)) (Vi p hid (1000+40*(k+1-1)+9)) [hb 10 d,ho 11 fT,hc (ZY hi), .st 17 _ _ _ a1,hw 18 E8]
       (AL [2] l (k+1) (.osl [1] 5 0 (k+1) false)) [([1],⟨gl (Vh l) (k+1),5,false⟩)] .normal (AL [2] l (k+1+1) (.osl [9,0] 5 0 (k+1+1) false)) [([9,0],⟨gl (Vh l) (k+1)++[X.av],5,false⟩)] 40 (by kernel_rfl)
       k9 (by simp only [aY,bm,cy,uJ];rfl) k9 (by simp only [aY,bm,cy,fZ,uJ,bF,cd,PU.fixed];rfl) (by simp [Ai]) fun s hw=>⟨rfl, ?_⟩
     unfold ZX
     rw [Vk,if_pos hi,e1]
     unfold DF
     rw [if_pos hi]
     exact hw
   . have a1:=Nc (a:=[8,0]) (q:=[1]) (k:=5) (bytes:=80) (x:=FI X [5,4,7,0] (.sl 7 (EX.dy X.vals))) (L:=gl (Vh l) (k+1)) Sy (by omega) (by decide) rfl (SA fun j=>Nb _ _)
     refine VW.tr (π := p) (n:=1000+40*(k+1)) (Vi p hid (1000+40*(k+1-1)+9)) [hb 10 d,ho 11 fT, .rel qu [X.av] [] _ (fun p _=>hC hi p) (by intro p x hx;cases hx), .st 17 _ _ _ a1,hw 18 E8]
       (AL [2] l (k+1) (.osl [1] 5 0 (k+1) false)) [([1],⟨gl (Vh l) (k+1),5,false⟩)] .normal (AL [2] l (k+1+1) (.osl [9,0] 5 0 (k+1+1) false)) [([9,0],⟨gl (Vh l) (k+1)++[FI X [5,4,7,0] (.sl 7 (EX.dy X.vals))],5,false⟩),([5,4,7,0],sB X.inputs)] 40 (by kernel_rfl)
       k9 (by simp only [aY,bm,cy,uJ];rfl) k9 (by simp only [aY,bm,cy,fZ,uJ,bF,cd,gZ,PU.fixed,jB];rfl) (by simp [Ai]) fun s hw=>⟨rfl, ?_⟩
     unfold ZX
     rw [Vk,if_neg hi,e1]
     unfold DF
     rw [if_neg hi]
     exact hw
end
end
section
open Go.Lib
theorem wz {σ : aa} {R:List (Id × a8)} (hd:(R.map (·.1)).Nodup) {x:Id × a8} (hx:x∈R):mg σ R x.1=some x.2:=Fa (lH hd hx)
theorem si {σ : aa} {R:List (Id × a8)} {i:Id} (h:∀ x∈R,x.1≠i):mg σ R i = σ i:=se (by rw [List.lookup_eq_none_iff];intro x hx;simpa using fun e=>h x hx e.symm)
theorem zu {S:List (Id × a8)} (hd:(S.map (·.1)).Nodup) {x:Id × a8} (hx:x∈S):aa.of S x.1=some x.2:=lH hd hx
theorem nL {S:List (Id × a8)} {i:Id} (h:∀ x∈S,x.1≠i):aa.of S i=none:=by
 show S.lookup i=none
 rw [List.lookup_eq_none_iff];intro x hx;simpa using fun e=>h x hx e.symm
theorem Fb {p:Id} {i j:Nat}:oq p i≠rr p j:=fun h=>by have:=congrArg List.length h;simp [oq,rr] at this
theorem Lg {p hid:Id} {j:Nat} (h : ¬ p <:+ hid):rr p j≠hid:=fun e=>h (e▸⟨[5,4,1000+40*j+7],rfl⟩)
theorem CR {p hid:Id} {j:Nat} (h : ¬ p <:+ hid):oq p j≠hid:=fun e=>h (e▸⟨[1000+40*(j-1)+9],rfl⟩)
theorem uK {q:Id} {k i:Nat} {g:Nat->AV} {x:Id × a8} (h:x∈Ai q k g i):x=(q,⟨gl g i,k,false⟩):=by
 unfold Ai at h
 split at h
 . cases h
 . exact List.mem_singleton.1 h
def FeU (p:Id) (l:List FX) (i:Nat):List (Id × a8):=Ai (oq p i) 5 (gE p l) i++RI p l i
theorem zw {p:Id} {l:List FX} {i:Nat}:((FeU p l i).map (·.1)).Nodup:=by
 unfold FeU
 rw [List.map_append,List.nodup_append]
 refine ⟨by unfold Ai;split<;>simp,CQ i, ?_⟩
 intro a ha b hb AU
 subst AU
 obtain ⟨x,hx,rfl⟩:=List.mem_map.1 ha
 obtain ⟨y,hy,e⟩:=List.mem_map.1 hb
 have:=uK hx;subst this
 obtain ⟨j,_,_,rfl⟩:=CP hy
 exact Fb e.symm
section
variable {P:Program} {G:Nat->Option (List AV)} {fp qu:FuncId}
theorem abS (p hid:Id) (l:List FX):VW P G p (feL fp qu) (fun e s=>e = .exit 0/\Wk G p s ⟨AL hid l l.length (JW (oq p l.length) 5 l.length),aa.of (Ai (oq p l.length) 5 (gE p l) l.length),1000+40*l.length+40⟩)
     ⟨AL hid l l.length (JW (oq p l.length) 5 l.length),aa.of (Ai (oq p l.length) 5 (gE p l) l.length),1000+40*l.length⟩:=by
 have d:decide ((l.length:Int)<(l.length:Int))=false:=ag (by omega)
 rcases Nat.eq_zero_or_pos l.length with h0 | h0
 . have e:JW (oq p l.length) 5 l.length = .nils:=if_pos h0
   have e2:Ai (oq p l.length) 5 (gE p l) l.length=[]:=if_pos h0
   rw [e,e2]
   exact VW.tr (π := p) (n:=1000+40*l.length) (Vi p hid 0) [hb 10 d] (AL [2] l l.length .nils) [] (.exit 0) (AL [2] l l.length .nils) [] 40 (by kernel_rfl)
     k9 rfl k9 rfl (by simp) fun s hw=>⟨rfl,hw⟩
 . have e:JW (oq p l.length) 5 l.length = .osl (oq p l.length) 5 0 l.length false:=if_neg (by omega)
   have e2:Ai (oq p l.length) 5 (gE p l) l.length=[(oq p l.length,⟨gl (gE p l) l.length,5,false⟩)]:=if_neg (by omega)
   rw [e,e2]
   exact VW.tr (π := p) (n:=1000+40*l.length) (Vi p hid (1000+40*(l.length-1)+9)) [hb 10 d] (AL [2] l l.length (.osl [1] 5 0 l.length false)) [([1],⟨gl (Vh l) l.length,5,false⟩)] (.exit 0)
     (AL [2] l l.length (.osl [1] 5 0 l.length false)) [([1],⟨gl (Vh l) l.length,5,false⟩)] 40 (by kernel_rfl)
     k9 (by simp only [aY,bm,cy,uJ];rfl) k9 (by simp only [aY,bm,cy,uJ];rfl) (by simp) fun s hw=>⟨rfl,hw⟩
def Pk (p hid:Id) (bk:a8) (l:List FX) (i:Nat):List (Id × a8):=(hid,bk)::RI p l i
theorem qX {p hid:Id} {bk:a8} {l:List FX} {i:Nat} (h : ¬ p <:+ hid):((Pk p hid bk l i).map (·.1)).Nodup:=by
 unfold Pk
 rw [List.map_cons,List.nodup_cons]
 refine ⟨fun hm => ?_,CQ i⟩
 obtain ⟨x,hx,e⟩:=List.mem_map.1 hm
 obtain ⟨j,_,_,rfl⟩:=CP hx
 exact Lg h e
theorem Gx {p hid:Id} {bk:a8} {l:List FX} {i:Nat} {x:Id × a8} (h:x∈Pk p hid bk l i):x=(hid,bk)∨∃ j,j<i/\(XD l j).inputs≠[]/\x=(rr p j,sB (XD l j).inputs):=by
 rcases List.mem_cons.1 h with h | h
 . exact .inl h
 . exact .inr (CP h)
def PK (p hid:Id) (bk:a8) (l:List FX) (i:Nat):aa:=mg (aa.of (Ai (oq p i) 5 (gE p l) i)) (Pk p hid bk l i)
theorem YQ (p hid:Id) (bk:a8) (hbf:bk.fr=false) (l:List FX) (hl:l.length<=1000) (hh : ¬ p <:+ hid) (ZY:∀ X∈l,X.inputs=[]->VP P G qu [X.av] X.av)
   (hC:∀ X∈l,X.inputs≠[]->∀ p:Id,aq P G qu [X.av] p [] { val:=FI X (5::4::p) (.sl 7 (EX.dy X.vals)),rd:=[],up:=[(5::4::p,some (sB X.inputs))] }) :
   VW P G p (.loop (feL fp qu)) (fun e s=>e = .exit 0/\Wk G p s ⟨AL hid l l.length (JW (oq p l.length) 5 l.length),PK p hid bk l l.length,1000+40*l.length+40⟩) ⟨AL hid l 0 .nils,PK p hid bk l 0,1000⟩:=by
 have hR:∀ i,∀ x∈Pk p hid bk l i,x.2.fr=false:=fun i x hx=>by
   rcases Gx hx with rfl | ⟨j,_,_,rfl⟩
   . exact hbf
   . rfl
 have hσ : ∀ i,∀ x∈Pk p hid bk l i,aa.of (Ai (oq p i) 5 (gE p l) i) x.1=none:=fun i x hx=>nL fun y hy=>by
   have:=uK hy;subst this
   rcases Gx hx with rfl | ⟨j,_,_,rfl⟩
   . exact CR hh
   . exact Fb
 refine VW.MM (α := Nat) (fun i=>⟨AL hid l i (JW (oq p i) 5 i),PK p hid bk l i,1000+40*i⟩) (fun i=>i<=l.length) (fun i=>l.length-i) 0 (Wk.refl _ _ _) (Nat.zero_le _) ?_
 intro i hi
 refine VW.frame _ (hR i) (hσ i) ?_
 by_cases hlt:i<l.length
 . obtain ⟨X,hX⟩:∃ X,l[i]? = some X:=⟨_,List.getElem?_eq_getElem hlt⟩
   have hm:=List.mem_of_getElem? hX
   refine (VW.exact (Vj p hid l hl hX (ZY X hm) (hC X hm))).mono fun e s hq => ?_
   obtain ⟨rfl,rfl⟩:=hq
   refine ⟨i+1,hlt,by simp only [];omega,Wk.forget (Fg.same _) (fun j => ?_) (Nat.le_refl _)⟩
   by_cases h1:∃ x∈Pk p hid bk l i,x.1=j
   . obtain ⟨x,hx,rfl⟩:=h1
     right
     show mg _ _ _=mg _ _ _
     rw [wz (qX hh) hx,wz (qX hh)]
     unfold Pk at hx ⊢
     rw [Gw]
     rcases List.mem_cons.1 hx with h | h
     . exact h▸List.mem_cons_self
     . exact List.mem_cons_of_mem _ (List.mem_append_left _ h)
   . have h1':∀ x∈Pk p hid bk l i,x.1≠j:=fun x hx e=>h1 ⟨x,hx,e⟩
     show PK p hid bk l (i+1) j=none∨_=mg _ _ _
     rw [si h1']
     unfold PK
     by_cases h2:∃ x∈Pk p hid bk l (i+1),x.1=j
     . obtain ⟨x,hx,rfl⟩:=h2
       right
       rw [wz (qX hh) hx]
       unfold Pk at hx
       rw [Gw, <- List.cons_append] at hx
       rcases List.mem_append.1 hx with h | h
       . exact absurd rfl (h1' x h)
       . symm
         refine zu ?_ (List.mem_cons_of_mem _ h)
         unfold ZX
         split
         . simp
         . simp [Fb]
     . have Tx:∀ x∈Pk p hid bk l (i+1),x.1≠j:=fun x hx e=>h2 ⟨x,hx,e⟩
       rw [si Tx]
       by_cases h3:oq p (i+1)=j
       . right
         subst h3
         show aa.of ([(oq p (i+1),⟨gl (gE p l) (i+1),5,false⟩)]) _=aa.of ((oq p (i+1),⟨gl (gE p l) (i+1),5,false⟩)::_) _
         simp [aa.of]
       . left
         refine nL fun x hx => ?_
         have:=uK hx;subst this
         exact h3
 . obtain rfl:i=l.length:=by omega
   refine (VW.exact (abS p hid l)).mono fun e s hq => ?_
   obtain ⟨rfl,rfl⟩:=hq
   exact ⟨rfl,Wk.refl _ _ _⟩
theorem Gy {f:FuncId} (h:Has P f (bV fp qu)) (hp:Has P fp bq) {ls:List (List FX)} {now:Nat} {l:List FX} (qA:ls[now]? = some l) (hl:l.length<=1000) (p hid:Id) (hh : ¬ p <:+ hid) (ZY:∀ X∈l,X.inputs=[]->VP P G qu [X.av] X.av)
   (hC:∀ X∈l,X.inputs≠[]->∀ p:Id,aq P G qu [X.av] p [] { val:=FI X (5::4::p) (.sl 7 (EX.dy X.vals)),rd:=[],up:=[(5::4::p,some (sB X.inputs))] }) :
   aq P G f [.ref hid 0 0] p [(hid,bH ls now)] { val:=JW (oq p l.length) 5 l.length,rd:=[hid],up:=(FeU p l l.length).map fun x=>(x.1,some x.2) }:=by
 refine aq.has h ?_
 simp only [bV,SS,Nat.reduceAdd,reduceIte]
 refine ⟨[(hid,bH ls now)],_,lz hp qA _,by simp [dF],by simp, ?_⟩
 simp only [SS,Nat.reduceAdd,reduceIte,bO,az]
 have Ha:∀ j,PK p hid (bH ls now) l 0 j=none∨PK p hid (bH ls now) l 0 j=aa.of [(hid,bH ls now)] j:=fun j=>by
   unfold PK Pk
   by_cases hj:j=hid
   . subst hj;right;simp [mg,RI,aa.of]
   . left;rw [si]
     . rfl
     . intro x hx;simp [RI] at hx;subst hx;exact fun e=>hj e.symm
 refine VW.wk (s':=⟨AL hid l 0 .nils,PK p hid (bH ls now) l 0,1000⟩) (Wk.forget (by simp [Fg,List.replicate,AL]) (fun j => ?_) (by omega)) ((VW.exact (YQ (fp:=fp) p hid (bH ls now) rfl l hl hh ZY hC)).mono fun e s hq => ?_)
 . rcases Ha j with h1 | h1
   . exact .inl h1
   . right;rw [h1]
 . obtain ⟨rfl,rfl⟩:=hq
   simp only [SS,Nat.reduceAdd,reduceIte,AL,List.replicate]
   refine bZ▸aW rfl fun i => ?_
   right
   show _=PK p hid (bH ls now) l l.length i
   by_cases h1:∃ x∈FeU p l l.length,x.1=i
   . obtain ⟨x,hx,rfl⟩:=h1
     rw [ug zw hx]
     unfold PK
     rcases List.mem_append.1 hx with h2 | h2
     . have e:=uK h2
       rw [si]
       . exact (zu (by unfold Ai;split<;>simp) h2).symm
       . intro y hy
         subst e
         rcases Gx hy with rfl | ⟨j,_,_,rfl⟩
         . exact (CR hh).symm
         . exact Fb.symm
     . exact (wz (qX hh) (List.mem_cons_of_mem _ h2)).symm
   . rw [mH _ (fun z hz e=>by
       obtain ⟨x,hx,rfl⟩:=List.mem_map.1 hz
       exact h1 ⟨x,hx,e⟩)]
     unfold PK
     by_cases h2:i=hid
     . subst h2
       rw [wz (x:=(i,bH ls now)) (qX hh) List.mem_cons_self]
       simp [aa.of]
     . rw [si (fun x hx e=>by
         rcases List.mem_cons.1 hx with rfl | h3
         . exact h2 e.symm
         . exact h1 ⟨x,List.mem_append_right _ h3,e⟩),nL (fun x hx e=>by
         rcases List.mem_singleton.1 hx with rfl
         exact h2 e.symm),nL (fun x hx e=>h1 ⟨x,List.mem_append_left _ hx,e⟩)]
end
end
section
open Go.Lib
def wA:Nat->bA->bA
 | 0,_ => .skip
 | k+1, .seq a b => .seq a (wA k b)
 | _+1,_ => .ret
def oP:Nat->bA->bA
 | 0,c=>c
 | k+1, .seq _ b=>oP k b
 | _+1,_ => .skip
section
variable {P:Program} {G:Nat->Option (List AV)} {π : Id} {Q:bB->VS->Prop}
theorem Fc:∀ (k m:Nat) (c:bA) (hs dr:List (Hint P G)) (cs:JQ) (s s':TS),eC true m (wA k c) π hs s=some (cs,dr, .normal,s')->mX cs->VW P G π (oP k c) Q s'.to->VW P G π c Q s.to
 | 0,0,c,hs,dr,cs,s,s',h,_,_=>by simp [eC] at h
 | 0,m+1,c,hs,dr,cs,s,s',h,_,hv=>by
   simp only [wA,eC,Option.some.injEq,Prod.mk.injEq] at h
   obtain ⟨_,_,_,rfl⟩:=h
   exact hv
 | k+1,0,c,hs,dr,cs,s,s',h,_,_=>by simp [eC] at h
 | k + 1,m+1, .seq a b,hs,dr,cs,s,s',h,hk,hv=>by
   simp only [wA,eC] at h
   cases h1:eC true m a π hs s with
   | none=>rw [h1] at h;cases h
   | some y =>
     obtain ⟨c1,h2,e1,s1⟩:=y
     rw [h1] at h
     cases e1 with
     | normal =>
       simp only [] at h
       cases h3:eC true m (wA k b) π h2 s1 with
       | none=>rw [h3] at h;cases h
       | some z =>
         obtain ⟨c2,h4,e2,s2⟩:=z
         rw [h3] at h
         simp only [Option.some.injEq,Prod.mk.injEq] at h
         obtain ⟨rfl,rfl,rfl,rfl⟩:=h
         refine VW.seq ((dz _ _ _ _ _ _ _ _ _ h1 fun x hx=>hk x (List.mem_append_left _ hx)).mono fun e s' hq => ?_)
         obtain ⟨rfl,rfl⟩:=hq
         exact Fc k m b _ _ _ _ _ h3 (fun x hx=>hk x (List.mem_append_right _ hx)) hv
     | exit i=>simp at h
     | ret=>simp at h
 | k+1,m+1, .skip,hs,dr,cs,s,s',h,_,_=>by simp [wA,eC] at h
 | k+1,m+1, .ret,hs,dr,cs,s,s',h,_,_=>by simp [wA,eC] at h
 | k+1,m+1, .exit _,hs,dr,cs,s,s',h,_,_=>by simp [wA,eC] at h
 | k+1,m+1, .cond _ _ _,hs,dr,cs,s,s',h,_,_=>by simp [wA,eC] at h
 | k+1,m+1, .block _ _,hs,dr,cs,s,s',h,_,_=>by simp [wA,eC] at h
 | k+1,m+1, .loop _,hs,dr,cs,s,s',h,_,_=>by simp [wA,eC] at h
 | k+1,m+1, .reg _ _,hs,dr,cs,s,s',h,_,_=>by simp [wA,eC] at h
theorem VW.SB (k:Nat) {c:bA} (hs:List (Hint P G)) {t0:List AV} (S0:List (Id × a8)) {n0:Nat} (t1:List AV) (K:List (Id × a8)) (n1:Nat)
   (hr:Eu K t1 n1 (eC true 1000 (wA k c) π hs ⟨t0,rE S0,n0⟩)=Ev .normal K t1 (eC true 1000 (wA k c) π hs ⟨t0,rE S0,n0⟩))
   (h:VW P G π (oP k c) Q ⟨t1,aa.of K,n1⟩):VW P G π c Q ⟨t0,bP.to (rE S0),n0⟩:=by
 cases hx:eC true 1000 (wA k c) π hs ⟨t0,rE S0,n0⟩ with
 | none=>rw [hx] at hr;simp only [Eu,Ev] at hr;cases hr
 | some y =>
   obtain ⟨cs,dr,e,s⟩:=y
   rw [hx] at hr
   simp only [Eu,Ev,Option.some.injEq,Prod.mk.injEq] at hr
   obtain ⟨hk,rfl,hn,hm,hK⟩:=hr
   refine Fc k _ _ _ _ _ _ _ hx (mX.of_map hk) (VW.wk (Wk.forget (xx hm) (fun j=>aa.mf (fun x hx => ?_) j) (Nat.le_of_ble_eq_true hn)) h)
   exact j8 hK x hx
theorem VP.abT {f:FuncId} {vf:aL} (h:Has P f vf) {args:List AV} {r:AV} (k:VW P G [] vf.body (Dp vf.results r) ⟨args++List.replicate (vf.nt-args.length) (.tup []),bP.to (rE []),0⟩):VP P G f args r:=by
 obtain ⟨fn,h1,h2⟩:=h
 exact VP.LJ h1 h2 k
theorem Vl {f:FuncId} (h:Has P f eH) (m:List (List FX)) (k:Nat) (li o p:Id) (n:Nat) (hn:n=m.length) :
   aq P G f [.agg [.osl o 1 0 (n+1) false, .int .i64 (n:Int)]] p [(o,⟨Gu m k li,1,false⟩)] { val := .osl li 5 0 k false,rd:=[o] }:=by
 have had:aV 1 (.osl [1] 1 0 (n+1) false) (.int .i64 (n:Int))=some (.ref [1] n 0):=dV (by omega)
 have hg:(Gu m k [2])[n]? = some (.osl [2] 5 0 k false):=by unfold Gu;rw [List.getElem?_append_right (by simp;omega)];simp [hn]
 have l1:∀ (σ : aa) (p:Id),(∀ y∈[([1],(⟨Gu m k [2],1,false⟩:a8))], σ y.1=some y.2)->bu σ p (.load false 1 (.ref [1] n 0))=some { val := .osl [2] 5 0 k false,rd:=[[1]] }:=fun σ p hσ => by
   show fX σ false 1 (.ref [1] n 0)=_
   rw [gO (hσ ([1],⟨Gu m k [2],1,false⟩) (by simp)) hg];rfl
 exact aq.tr (p:=p) (up:=[]) h (nbK o li p) [ho 7 had, .st 8 _ _ _ l1] [.agg [.osl [1] 1 0 (n+1) false, .int .i64 (n:Int)]] [([1],⟨Gu m k [2],1,false⟩)] (.osl [2] 5 0 k false) [] (by kernel_rfl)
   rfl (by simp only [aY,bm,cy,M7];rfl) rfl rfl (by simp) (by simp)
end
end
section
open Go.Lib
def Jo:bA->List bA
 | .loop c=>[c]
 | .seq a b=>Jo a++Jo b
 | .block _ c=>Jo c
 | .cond _ a b=>Jo a++Jo b
 | _=>[]
def wL (s:List UInt8) (l:List (List UInt8)) (j:Nat):List AV:=(List.replicate j s++l.drop j).map AV.str
def wB (s:List UInt8) (l:List (List UInt8)) (j:Nat):a8:=⟨wL s l j,1,false⟩
theorem YR {s:List UInt8} {l:List (List UInt8)}:wB s l 0=sB l:=by simp [wB,wL,sB]
theorem abU {s:List UInt8} {l:List (List UInt8)} {j:Nat} {x:List UInt8} (h:l[j]? = some x):(wL s l j)[j]? = some (.str x):=by
 unfold wL
 rw [List.getElem?_map,List.getElem?_append_right (by simp)]
 simp [h]
theorem YS {s:List UInt8} {l:List (List UInt8)} {j:Nat} {x:List UInt8} (h:l[j]? = some x):(wL s l j).set j (.str s)=wL s l (j+1):=by
 unfold wL
 have hj:=(List.getElem?_eq_some_iff.1 h).1
 have e:(List.replicate j s++l.drop j).set j s=List.replicate (j+1) s++l.drop (j+1):=by
   rw [List.set_append_right _ _ (by simp),List.drop_eq_getElem_cons hj,List.length_replicate,Nat.sub_self,List.set_cons_zero,List.replicate_succ',List.append_assoc];rfl
 rw [<- List.map_set,e]
theorem wC {ρ : Id->Id} {s:List UInt8} {l:List (List UInt8)} {j:Nat}:(wB s l j).di ρ = wB s l j:=by unfold wB wL;rw [cy,yg]
theorem WO {q:Id} {s x:List UInt8} {l:List (List UInt8)} {j:Nat} (h:l[j]? = some x) :
   ∀ (σ : aa) (p:Id),(∀ y∈[((q,wB s l j):Id × a8)], σ y.1=some y.2)->bu σ p (.store 1 (.ref q j 0) (.str s))=some { val := .tup [],rd:=[q],up:=[(q,some (wB s l (j+1)))] }:=fun σ p hσ => by
 show eO σ 1 (.ref q j 0) (.str s)=_
 rw [ot (x := .str x) (y := .str s) (hσ (q,wB s l j) (by simp)) (abU h) rfl rfl rfl rfl,YS h]
 rfl
def zx (l:List FX) (i j:Nat):AV:=DF (XD l j) (if j=i then [4] else [j+6])
def zbz:List UInt8:=[122,47,122]
def inK (bx:Id):Nat->Id:=fun k=>match k with | 5=>bx | k=>[k]
theorem Gz {n:Nat} {bx:Id} {l:List FX} {i N:Nat}:bJ (j2 n [0] (inK bx)) (gl (zx l i) N)=gl (zx l i) N:=YP fun j _=>by
 unfold zx
 rw [Gv]
 by_cases h:j=i
 . rw [if_pos h];rfl
 . rw [if_neg h];rfl
section
variable {P:Program} {G:Nat->Option (List AV)} {faw fsm fSm fplay fperf fnow ffe fsame:FuncId}
abbrev Fe (faw fsm fSm fplay fperf fnow ffe fsame:FuncId):aL:=de faw fsm fSm fplay fperf fnow ffe fsame
abbrev nB (faw fsm fSm fplay fperf fnow ffe fsame:FuncId):bA:=(Jo (Fe faw fsm fSm fplay fperf fnow ffe fsame).body).getD 1 .skip
abbrev nC (faw fsm fSm fplay fperf fnow ffe fsame:FuncId):bA:=(Jo (nB faw fsm fSm fplay fperf fnow ffe fsame)).getD 0 .skip
def TL (hid O bx:Id) (l':List FX) (N i len j:Nat):List AV:=List.replicate 5 .top++[.ref hid 0 0]++List.replicate 3 .top++[bT l']++[.top, .top]++[.ref bx 0 0]++List.replicate 79 .top++[.osl O 5 0 N false, .int .i64 (N:Int), .int .i64 (i:Int)]++List.replicate 5 .top++[.int .i64 (len:Int), .int .i64 (j:Int)]++List.replicate 12 .top
theorem A7 {ρ : Id->Id} {hid O bx:Id} {l':List FX} {N i len j:Nat}:bJ ρ (TL hid O bx l' N i len j)=TL (ρ hid) (ρ O) (ρ bx) l' N i len j:=by
 unfold TL
 simp only [fZ,bF,cd,uc,PU.fixed,xW,uI,nI]
def JX (O bx q:Id) (X:FX) (L:List AV) (j:Nat):List (Id × a8):=[(bx,⟨[FI X q (.sl 7 (EX.dy X.vals))],5,false⟩),(O,⟨L,5,false⟩),(q,wB zbz X.inputs j)]
theorem YT (l' l:List FX) (N i:Nat) (X:FX) (hX:X.inputs.length<=1000) (bx:Id) (hbx:bx=[3,0]) :
   VW P G [0] (.loop (nC faw fsm fSm fplay fperf fnow ffe fsame)) (fun e s=>e = .exit 4/\Wk G [0] s ⟨TL [3] [1] bx l' N i X.inputs.length X.inputs.length,bP.to (rE (JX [1] bx [4] X (gl (zx l i) N) X.inputs.length)),100000⟩)
     ⟨TL [3] [1] bx l' N i X.inputs.length 0,aa.of (JX [1] bx [4] X (gl (zx l i) N) 0),1000⟩:=by
 refine VW.CK X.inputs (fun j=>TL [3] [1] bx l' N i X.inputs.length j) (fun j=>JX [1] bx [4] X (gl (zx l i) N) j) 40 1000 100000 4 _ _ (by subst hbx;simp [JX]) ?_ ?_
 . intro j x Qa hlt Q hQ
   have d:decide ((j:Int)<(X.inputs.length:Int))=true:=ai (by omega)
   have E8:=ao j (by omega)
   have had:aV 1 (.osl [4] 1 0 X.inputs.length false) (.int .i64 (j:Int))=some (.ref [4] j 0):=dV hlt
   refine VW.tr (π := [0]) (n:=1000+40*j) (inK bx) [hb 102 d,ho 107 had, .st 100107 _ _ _ (WO (q:=[4]) (s:=zbz) Qa),hw 108 E8]
       (TL [3] [1] [5] l' N i X.inputs.length j) (JX [1] [5] [4] X (gl (zx l i) N) j) .normal (TL [3] [1] [5] l' N i X.inputs.length (j+1)) (JX [1] [5] [4] X (gl (zx l i) N) (j+1)) 40 (by kernel_rfl)
       A7 (by simp only [JX,aY,bm,cy,bF,cd,gZ,PU.fixed,wC,Gz];rfl) A7 (by simp only [JX,aY,bm,cy,bF,cd,gZ,PU.fixed,wC,Gz];rfl) (by subst hbx;simp [JX]) hQ
 . intro Q hQ
   have d:decide ((X.inputs.length:Int)<(X.inputs.length:Int))=false:=ag (by omega)
   exact VW.tr (π := [0]) (n:=1000+40*X.inputs.length) (inK bx) [hb 102 d]
       (TL [3] [1] [5] l' N i X.inputs.length X.inputs.length) (JX [1] [5] [4] X (gl (zx l i) N) X.inputs.length) (.exit 4) (TL [3] [1] [5] l' N i X.inputs.length X.inputs.length) (JX [1] [5] [4] X (gl (zx l i) N) X.inputs.length) 40 (by kernel_rfl)
       A7 (by simp only [JX,aY,bm,cy,bF,cd,gZ,PU.fixed,wC,Gz];rfl) A7 (by simp only [JX,aY,bm,cy,bF,cd,gZ,PU.fixed,wC,Gz];rfl) (by subst hbx;simp [JX]) (fun s hw=>hQ s (hw.trans (Wk.forget (Fg.same _) (fun j => .inr rfl) (by omega))))
end
end
section
open Go.Lib
def C8 (hid:Id) (l':List FX) (out:AV) (N i:Nat):List AV:=List.replicate 5 .top++[.ref hid 0 0]++List.replicate 3 .top++[bT l']++List.replicate 82 .top++[out, .int .i64 (N:Int), .int .i64 (i:Int)]++List.replicate 19 .top
theorem uL {ρ : Id->Id} {hid:Id} {l':List FX} {out:AV} {N i:Nat}:bJ ρ (C8 hid l' out N i)=C8 (ρ hid) l' (out.di ρ) N i:=by
 unfold C8
 simp only [fZ,bF,cd,uc,PU.fixed,xW,uI]
def ZZ (O hid p:Id) (i:Nat):Nat->Id:=fun k=>match k with | 1=>O | 3=>hid | 4=>rr p i | k=>rr p (k-6)
theorem A8 {n:Nat} {O hid p:Id} {l:List FX} {i N:Nat}:bJ (j2 n [] (ZZ O hid p i)) (gl (zx l i) N)=gl (gE p l) N:=by
 unfold gl
 rw [fG,List.map_map]
 refine List.map_congr_left fun j _ => ?_
 show (DF (XD l j) (if j=i then [4] else [j+6])).di _=DF (XD l j) (rr p j)
 rw [Gv]
 by_cases h:j=i
 . rw [if_pos h,h];rfl
 . rw [if_neg h]
   show DF (XD l j) (ZZ O hid p i (j+5+1))=_
   unfold ZZ
   simp
section
variable {P:Program} {G:Nat->Option (List AV)} {faw fsm fSm fplay fperf fnow ffe fsame:FuncId}
def SC (p:Id) (l:List FX) (i:Nat):List (Id × a8):=if (XD l i).inputs=[] then [] else [(rr p i,sB (XD l i).inputs)]
theorem Vm (hid O p:Id) (l' l:List FX) (N n:Nat) (hN:N<=1000) {i:Nat} (hi:i<N) {X:FX} (hX:l[i]? = some X) (hXl:X.inputs.length<=1000) (hO:∀ j,O≠rr p j) :
   VW P G [] (nB faw fsm fSm fplay fperf fnow ffe fsame) (fun e s=>e = .normal/\Wk G [] s ⟨C8 hid l' (.osl O 5 0 N false) N (i+1),aa.of [(O,⟨gl (gE p l) N,5,false⟩)],n+200000⟩)
     ⟨C8 hid l' (.osl O 5 0 N false) N i,aa.of ((O,⟨gl (gE p l) N,5,false⟩)::SC p l i),n⟩:=by
 have d:decide ((i:Int)<(N:Int))=true:=ai (by omega)
 have E8:=ao i (by omega)
 have Vk:=WN hX
 have had:aV 5 (.osl [1] 5 0 N false) (.int .i64 (i:Int))=some (.ref [1] i 0):=dV hi
 have hg:(gl (zx l i) N)[i]? = some (zx l i i):=by unfold gl;rw [List.getElem?_map,List.getElem?_range hi];rfl
 unfold SC
 rw [Vk]
 by_cases h0:X.inputs=[]
 . rw [if_pos h0]
   have e:zx l i i=X.av:=by unfold zx DF;rw [Vk,if_pos h0]
   rw [e] at hg
   have l1:∀ (σ : aa) (q:Id),(∀ y∈[([1],(⟨gl (zx l i) N,5,false⟩:a8))], σ y.1=some y.2)->bu σ q (.load true 5 (.ref [1] i 0))=some { val:=X.av,rd:=[[1]] }:=fun σ q hσ => by
     show fX σ true 5 (.ref [1] i 0)=_
     rw [gO (hσ ([1],⟨gl (zx l i) N,5,false⟩) (by simp)) hg,FX.whole];rfl
   have hz:decide ((0:Int)<(((X.inputs.map AV.str).length:Nat):Int))=false:=by rw [h0];rfl
   exact VW.tr (π := []) (n:=n) (ZZ O hid p i) [hb 95 d,ho 96 had, .st 97 _ _ _ l1,hb 102 hz,hw 109 E8]
     (C8 [3] l' (.osl [1] 5 0 N false) N i) [([1],⟨gl (zx l i) N,5,false⟩)] .normal (C8 [3] l' (.osl [1] 5 0 N false) N (i+1)) [([1],⟨gl (zx l i) N,5,false⟩)] 200000 (by kernel_rfl)
     uL (by simp only [aY,bm,cy,A8];rfl) uL (by simp only [aY,bm,cy,A8];rfl) (by simp) fun s hw=>⟨rfl,hw⟩
 . rw [if_neg h0]
   have e:zx l i i=FI X [4] (.sl 7 (EX.dy X.vals)):=by unfold zx DF;rw [Vk,if_neg h0,if_pos rfl]
   rw [e] at hg
   have l1:∀ (σ : aa) (q:Id),(∀ y∈[([1],(⟨gl (zx l i) N,5,false⟩:a8))], σ y.1=some y.2)->bu σ q (.load true 5 (.ref [1] i 0))=some { val:=FI X [4] (.sl 7 (EX.dy X.vals)),rd:=[[1]] }:=fun σ q hσ => by
     show fX σ true 5 (.ref [1] i 0)=_
     rw [gO (hσ ([1],⟨gl (zx l i) N,5,false⟩) (by simp)) hg];rfl
   have hL:=YT (P:=P) (G:=G) (faw:=faw) (fsm:=fsm) (fSm:=fSm) (fplay:=fplay) (fperf:=fperf) (fnow:=fnow) (ffe:=ffe) (fsame:=fsame) l' l N i X hXl [3,0] rfl
   rw [show JX [1] [3,0] [4] X (gl (zx l i) N) 0=[([3,0],⟨[FI X [4] (.sl 7 (EX.dy X.vals))],5,false⟩),([1],⟨gl (zx l i) N,5,false⟩),([4],sB X.inputs)] by unfold JX;rw [YR]] at hL
   exact VW.tr (π := []) (n:=n) (ZZ O hid p i) [hb 95 d,ho 96 had, .st 97 _ _ _ l1, .lp _ _ _ _ _ _ _ _ _ hL,hw 109 E8]
     (C8 [3] l' (.osl [1] 5 0 N false) N i) [([1],⟨gl (zx l i) N,5,false⟩),([4],sB X.inputs)] .normal (C8 [3] l' (.osl [1] 5 0 N false) N (i+1)) [([1],⟨gl (zx l i) N,5,false⟩)] 200000 (by kernel_rfl)
     uL (by simp only [aY,bm,cy,A8,jB];rfl) uL (by simp only [aY,bm,cy,A8];rfl) (by simpa using hO i) fun s hw=>⟨rfl,hw⟩
theorem abV (hid O p:Id) (l' l:List FX) (N n:Nat) :
   VW P G [] (nB faw fsm fSm fplay fperf fnow ffe fsame) (fun e s=>e = .exit 2/\Wk G [] s ⟨C8 hid l' .top N N,aa.of [],n+200000⟩)
     ⟨C8 hid l' (JW O 5 N) N N,aa.of (Ai O 5 (gE p l) N),n⟩:=by
 have d:decide ((N:Int)<(N:Int))=false:=ag (by omega)
 refine VW.wk (s':=⟨C8 hid l' .top N N,aa.of [],n⟩) (Wk.forget (by simp [C8,Fg,List.replicate]) (fun j => .inl rfl) (Nat.le_refl _)) ?_
 exact VW.tr (π := []) (n:=n) (ZZ O hid p 0) [hb 95 d] (C8 [3] l' .top N N) [] (.exit 2) (C8 [3] l' .top N N) [] 200000 (by kernel_rfl)
   uL rfl uL rfl (by simp) fun s hw=>⟨rfl,hw⟩
end
end
section
open Go.Lib
def TM (p:Id) (l:List FX):Nat->Nat->List (Id × a8)
 | _,0=>[]
 | i,k+1=>SC p l i++TM p l (i+1) k
theorem Nd {p:Id} {l:List FX} {i:Nat} {x:Id × a8} (h:x∈SC p l i):x=(rr p i,sB (XD l i).inputs)/\(XD l i).inputs≠[]:=by
 unfold SC at h
 split at h
 . cases h
 . rename_i hne
   exact ⟨List.mem_singleton.1 h,hne⟩
theorem yk {p:Id} {l:List FX} {x:Id × a8}:∀ {k i:Nat},x∈TM p l i k->∃ j,i<=j/\j<i+k/\(XD l j).inputs≠[]/\x=(rr p j,sB (XD l j).inputs)
 | 0,i,h=>by cases h
 | k + 1,i,h=>by
   rcases List.mem_append.1 h with h | h
   . obtain ⟨e,hne⟩:=Nd h
     exact ⟨i,Nat.le_refl _,by omega,hne,e⟩
   . obtain ⟨j,h1,h2,h3⟩:=yk h
     exact ⟨j,by omega,by omega,h3⟩
theorem Ff {p:Id} {l:List FX}:∀ (k i:Nat),((TM p l i k).map (·.1)).Nodup
 | 0,i=>by simp [TM]
 | k+1,i=>by
   unfold TM
   rw [List.map_append,List.nodup_append]
   refine ⟨by unfold SC;split<;>simp,Ff k (i+1), ?_⟩
   intro a ha b hb AU
   subst AU
   obtain ⟨x,hx,rfl⟩:=List.mem_map.1 ha
   obtain ⟨y,hy,e⟩:=List.mem_map.1 hb
   obtain ⟨rfl,_⟩:=Nd hx
   obtain ⟨j,hj,_,_,rfl⟩:=yk hy
   have:=Sz e
   omega
def Jp (p hid:Id) (bk:a8) (l:List FX) (i k:Nat):List (Id × a8):=(hid,bk)::TM p l i k
theorem Fh {p hid:Id} {bk:a8} {l:List FX} {i k:Nat} (h : ¬ p <:+ hid):((Jp p hid bk l i k).map (·.1)).Nodup:=by
 unfold Jp
 rw [List.map_cons,List.nodup_cons]
 refine ⟨fun hm => ?_,Ff k i⟩
 obtain ⟨x,hx,e⟩:=List.mem_map.1 hm
 obtain ⟨j,_,_,_,rfl⟩:=yk hx
 exact Lg h e
theorem Nf {p hid:Id} {bk:a8} {l:List FX} {i k:Nat} {x:Id × a8} (h:x∈Jp p hid bk l i k):x=(hid,bk)∨∃ j,i<=j/\x=(rr p j,sB (XD l j).inputs):=by
 rcases List.mem_cons.1 h with h | h
 . exact .inl h
 . obtain ⟨j,h1,_,_,h4⟩:=yk h
   exact .inr ⟨j,h1,h4⟩
theorem Lh {S R:List (Id × a8)} (hd:((S++R).map (·.1)).Nodup) {x:Id × a8} (hx:x∈S++R):mg (aa.of S) R x.1=some x.2:=by
 rw [List.map_append,List.nodup_append] at hd
 rcases List.mem_append.1 hx with h | h
 . rw [si fun y hy e=>hd.2.2 _ (List.mem_map.2 ⟨x,h,rfl⟩) _ (List.mem_map.2 ⟨y,hy,rfl⟩) e.symm]
   exact zu hd.1 h
 . exact wz hd.2.1 h
theorem WQ {S R:List (Id × a8)} {i:Id} (h:∀ x∈S++R,x.1≠i):mg (aa.of S) R i=none:=by
 rw [si fun x hx=>h x (List.mem_append_right _ hx)]
 exact nL fun x hx=>h x (List.mem_append_left _ hx)
theorem YU {S R S' R':List (Id × a8)} (hd:((S++R).map (·.1)).Nodup) (PC:((S'++R').map (·.1)).Nodup) (h:∀ x∈S'++R',x∈S++R) (i:Id):mg (aa.of S') R' i=none∨mg (aa.of S') R' i=mg (aa.of S) R i:=by
 by_cases h1:∃ x∈S'++R',x.1=i
 . obtain ⟨x,hx,rfl⟩:=h1
   right
   rw [Lh PC hx,Lh hd (h x hx)]
 . exact .inl (WQ fun x hx e=>h1 ⟨x,hx,e⟩)
section
variable {P:Program} {G:Nat->Option (List AV)} {faw fsm fSm fplay fperf fnow ffe fsame:FuncId}
theorem CS {p hid O:Id} {bk:a8} {l:List FX} {N i k:Nat} (hO:∀ j,O≠rr p j) (hh : ¬ p <:+ hid) (hOh:O≠hid):((Ai O 5 (gE p l) N++Jp p hid bk l i k).map (·.1)).Nodup:=by
 rw [List.map_append,List.nodup_append]
 refine ⟨by unfold Ai;split<;>simp,Fh hh, ?_⟩
 intro a ha b hb AU
 subst AU
 obtain ⟨x,hx,rfl⟩:=List.mem_map.1 ha
 obtain ⟨y,hy,e⟩:=List.mem_map.1 hb
 have:=uK hx;subst this
 rcases Nf hy with rfl | ⟨j,_,rfl⟩
 . exact hOh e.symm
 . exact hO j e.symm
theorem YV (hid O p:Id) (bk:a8) (hbf:bk.fr=false) (l' l:List FX) (n:Nat) (hl:l.length<=1000) (hX:∀ X∈l,X.inputs.length<=1000) (hO:∀ j,O≠rr p j) (hh : ¬ p <:+ hid) (hOh:O≠hid) :
   VW P G [] (.loop (nB faw fsm fSm fplay fperf fnow ffe fsame)) (fun e s=>e = .exit 2/\Wk G [] s ⟨C8 hid l' .top l.length l.length,aa.of [(hid,bk)],n+200000*l.length+200000⟩)
     ⟨C8 hid l' (JW O 5 l.length) l.length 0,mg (aa.of (Ai O 5 (gE p l) l.length)) (Jp p hid bk l 0 l.length),n⟩:=by
 have hR:∀ i k,∀ x∈Jp p hid bk l i k,x.2.fr=false:=fun i k x hx=>by
   rcases Nf hx with rfl | ⟨j,_,rfl⟩
   . exact hbf
   . rfl
 refine VW.MM (α := Nat) (fun i=>⟨C8 hid l' (JW O 5 l.length) l.length i,mg (aa.of (Ai O 5 (gE p l) l.length)) (Jp p hid bk l i (l.length-i)),n+200000*i⟩) (fun i=>i<=l.length) (fun i=>l.length-i) 0 (Wk.refl _ _ _) (Nat.zero_le _) ?_
 intro i hi
 by_cases hlt:i<l.length
 . obtain ⟨X,hXi⟩:∃ X,l[i]? = some X:=⟨_,List.getElem?_eq_getElem hlt⟩
   have hm:=List.mem_of_getElem? hXi
   obtain ⟨k,hk⟩:∃ k,l.length-i=k+1:=⟨l.length-i-1,by omega⟩
   have TX:l.length-(i+1)=k:=by omega
   have e1:JW O 5 l.length = .osl O 5 0 l.length false:=if_neg (by omega)
   have e2:Ai O 5 (gE p l) l.length=[(O,⟨gl (gE p l) l.length,5,false⟩)]:=if_neg (by omega)
   have hd:=CS (p:=p) (hid:=hid) (bk:=bk) (l:=l) (N:=l.length) (i:=i) (k:=k+1) hO hh hOh
   simp only [hk,e1]
   rw [e2] at hd ⊢
   have hd2:(((O,(⟨gl (gE p l) l.length,5,false⟩:a8))::SC p l i++Jp p hid bk l (i+1) k).map (·.1)).Nodup:=by
     have hp:List.Perm ((O,(⟨gl (gE p l) l.length,5,false⟩:a8))::SC p l i++Jp p hid bk l (i+1) k) ([(O,(⟨gl (gE p l) l.length,5,false⟩:a8))]++Jp p hid bk l i (k+1)):=by
       unfold Jp
       rw [show TM p l i (k+1)=SC p l i++TM p l (i+1) k from rfl]
       exact List.Perm.cons _ List.perm_middle
     exact (hp.map (·.1)).nodup_iff.2 hd
   refine VW.wk (s':=⟨C8 hid l' (.osl O 5 0 l.length false) l.length i,mg (aa.of ((O,⟨gl (gE p l) l.length,5,false⟩)::SC p l i)) (Jp p hid bk l (i+1) k),n+200000*i⟩) (Wk.forget (Fg.same _) (YU hd hd2 fun x hx => ?_) (Nat.le_refl _)) ?_
   . unfold Jp at hx ⊢
     rw [show TM p l i (k+1)=SC p l i++TM p l (i+1) k from rfl]
     simp only [List.mem_append,List.mem_cons,List.not_mem_nil,or_false] at hx ⊢
     rcases hx with (h | h) | h | h
     . exact .inl h
     . exact .inr (.inr (.inl h))
     . exact .inr (.inl h)
     . exact .inr (.inr (.inr h))
   refine VW.frame _ (hR _ _) (fun x hx=>nL fun y hy e => ?_) ?_
   . rw [List.map_append,List.nodup_append] at hd2
     exact hd2.2.2 _ (List.mem_map.2 ⟨y,hy,rfl⟩) _ (List.mem_map.2 ⟨x,hx,rfl⟩) e
   refine (VW.exact (Vm hid O p l' l l.length (n+200000*i) hl hlt hXi (hX X hm) hO)).mono fun e s hq => ?_
   obtain ⟨rfl,rfl⟩:=hq
   exact ⟨i+1,hlt,by simp only [];omega,Wk.forget (Fg.same _) (fun j => .inr (by rw [TX])) (by simp only [];omega)⟩
 . obtain rfl:i=l.length:=by omega
   rw [Nat.sub_self]
   refine VW.frame _ (hR _ _) (fun x hx=>nL fun y hy e => ?_) ?_
   . have hd:=CS (p:=p) (hid:=hid) (bk:=bk) (l:=l) (N:=l.length) (i:=l.length) (k:=0) hO hh hOh
     rw [List.map_append,List.nodup_append] at hd
     exact hd.2.2 _ (List.mem_map.2 ⟨y,hy,rfl⟩) _ (List.mem_map.2 ⟨x,hx,rfl⟩) e
   refine (VW.exact (abV hid O p l' l l.length (n+200000*l.length))).mono fun e s hq => ?_
   obtain ⟨rfl,rfl⟩:=hq
   refine ⟨rfl,Wk.forget (Fg.same _) (fun j => ?_) (Nat.le_refl _)⟩
   by_cases hj:j=hid
   . subst hj
     right
     show _=mg _ _ _
     rw [wz (x:=(j,bk)) (Fh hh) List.mem_cons_self]
     simp [aa.of]
   . left
     exact nL fun x hx e=>by
       rcases List.mem_singleton.1 hx with rfl
       exact hj e.symm
end
end
section
open Go.Lib
def YW (hid:Id) (l':List FX):List AV:=List.replicate 5 .top++[.ref hid 0 0]++List.replicate 3 .top++[bT l']++List.replicate 104 .top
theorem Vn {q:Id} {k n:Nat}:ky false (JW q k n)=some (.int .i64 (n:Int)):=by
 unfold JW
 by_cases h:n=0
 . rw [if_pos h,h];rfl
 . rw [if_neg h];rfl
theorem abW {p:Id} {l:List FX} {i j:Nat} (h:j<i) (hne:(XD l j).inputs≠[]):(rr p j,sB (XD l j).inputs)∈RI p l i :=
 List.mem_flatMap.2 ⟨j,List.mem_range.2 h,by rw [if_neg hne];simp⟩
theorem abX {p hid:Id} {bk:a8} {l:List FX} (hh : ¬ p <:+ hid) (i:Id):mg (aa.of (Ai (oq p l.length) 5 (gE p l) l.length)) (Jp p hid bk l 0 l.length) i=none ∨
   mg (aa.of (Ai (oq p l.length) 5 (gE p l) l.length)) (Jp p hid bk l 0 l.length) i=(aa.of [(hid,bk)]).app ((FeU p l l.length).map fun x=>(x.1,some x.2)) i:=by
 by_cases h1:∃ x∈Ai (oq p l.length) 5 (gE p l) l.length++Jp p hid bk l 0 l.length,x.1=i
 . obtain ⟨x,hx,rfl⟩:=h1
   right
   rw [Lh (CS (fun j=>Fb) hh (CR hh)) hx]
   rcases List.mem_append.1 hx with h | h
   . exact (ug zw (List.mem_append_left _ h)).symm
   . rcases List.mem_cons.1 h with rfl | h
     . rw [mH _ (fun z hz e=>by
         obtain ⟨y,hy,rfl⟩:=List.mem_map.1 hz
         rcases List.mem_append.1 hy with h2 | h2
         . have:=uK h2;subst this
           exact CR hh e
         . obtain ⟨j,_,_,rfl⟩:=CP h2
           exact Lg hh e)]
       simp [aa.of]
     . obtain ⟨j,_,hj,hne,rfl⟩:=yk h
       exact (ug (x:=(rr p j,sB (XD l j).inputs)) zw (List.mem_append_right _ (abW (by omega) hne))).symm
 . exact .inl (WQ fun x hx e=>h1 ⟨x,hx,e⟩)
section
variable {P:Program} {G:Nat->Option (List AV)} {faw fsm fSm fplay fperf fnow ffe fsame fp qu:FuncId}
theorem YX (DR:Has P ffe (bV fp qu)) (hp:Has P fp bq) {ls:List (List FX)} {now:Nat} {l':List FX} (qA:ls[now]? = some l') (hl:l'.length<=1000) (hX:∀ X∈l',X.inputs.length<=1000)
   (hC:∀ X∈l',VP P G qu [X.av] X.av) (hC1:∀ X∈l',X.inputs≠[]->∀ p:Id,aq P G qu [X.av] p [] { val:=FI X (5::4::p) (.sl 7 (EX.dy X.vals)),rd:=[],up:=[(5::4::p,some (sB X.inputs))] })
   (hS:VP P G fsame [bT l',bT l'] (.bool true)) :
   VW P G [] (oP 10 (Fe faw fsm fSm fplay fperf fnow ffe fsame).body) (Dp [(.tmp 4)] (.bool true)) ⟨YW [3,3,15] l',aa.of [([3,3,15],bH ls now)],20000⟩:=by
 have h1 : ¬ ([20001]:Id) <:+ [3,3,15]:=by decide
 have hF:=Gy (P:=P) (G:=G) DR hp qA hl [20001] [3,3,15] h1 (fun X hx _=>hC X hx) hC1
 refine VW.of ?_
 simp only [Fe,de,oP,SS,YW,List.replicate,List.cons_append,List.nil_append,Nat.reduceAdd]
 refine ⟨[([3,3,15],bH ls now)],_,hF,by simp [dF],by simp, ?_⟩
 simp only [SS,Nat.reduceAdd,Vn,az]
 refine VW.wk (s':=⟨C8 [3,3,15] l' (JW (oq [20001] l'.length) 5 l'.length) l'.length 0,mg (aa.of (Ai (oq [20001] l'.length) 5 (gE [20001] l') l'.length)) (Jp [20001] [3,3,15] (bH ls now) l' 0 l'.length),30000⟩)
   (Wk.forget (by simp [Fg,List.replicate,C8]) (fun j => ?_) (by omega))
   ((VW.exact (YV (faw:=faw) (fsm:=fsm) (fSm:=fSm) (fplay:=fplay) (fperf:=fperf) (fnow:=fnow) (ffe:=ffe) (fsame:=fsame) [3,3,15] (oq [20001] l'.length) [20001] (bH ls now) rfl l' l' 30000 hl hX (fun j=>Fb) h1 (CR h1))).mono fun e s hq => ?_)
 . exact abX h1 j
 . obtain ⟨rfl,rfl⟩:=hq
   simp only [SS,Nat.reduceAdd,C8,List.replicate,List.cons_append,List.nil_append]
   have h2 : ¬ ([30000+200000*l'.length+200000+1]:Id) <:+ [3,3,15]:=fun hs=>by
     rcases List.suffix_cons_iff.1 hs with h | h
     . cases h
     . rcases List.suffix_cons_iff.1 h with h | h
       . cases h
       . rcases List.suffix_cons_iff.1 h with h | h
         . simp only [List.cons.injEq,and_true] at h;omega
         . simp at h
   refine ⟨[([3,3,15],bH ls now)],_,yf DR hp qA hl hC _ h2,by simp [dF],by simp, ?_⟩
   simp only [SS,Nat.reduceAdd]
   refine aj hS (by simp [kr]) ?_
   simp only [SS,Nat.reduceAdd]
   exact ah▸ae rfl (af.bool _)
end
end
section
open Go.Lib
def xby:List UInt8:=[120,47,121]
def TN (hid b:Id) (l':List FX) (len j:AV):List AV:=List.replicate 5 .top++[.ref hid 0 0]++List.replicate 2 .top++[.ref b 0 0,bT l']++List.replicate 72 .top++[len,j]++List.replicate 30 .top
theorem A9 {ρ : Id->Id} {hid b:Id} {l':List FX} {len j:AV}:bJ ρ (TN hid b l' len j)=TN (ρ hid) (ρ b) l' (len.di ρ) (j.di ρ):=by
 unfold TN
 simp only [fZ,bF,cd,uc,PU.fixed,xW,uI]
def JY (hid b q:Id) (bk:a8) (X:FX) (j:Nat):List (Id × a8):=[(hid,bk),(b,⟨[FI X q (.sl 7 (EX.dy X.vals))],5,false⟩),(q,wB xby X.inputs j)]
def iaK:Nat->Id:=fun k=>match k with | 1=>[3,3,15] | 2=>[27] | _=>[32]
section
variable {P:Program} {G:Nat->Option (List AV)} {faw fsm fSm fplay fperf fnow ffe fsame fp qu:FuncId}
abbrev nA (faw fsm fSm fplay fperf fnow ffe fsame:FuncId):bA:=(Jo (Fe faw fsm fSm fplay fperf fnow ffe fsame).body).getD 0 .skip
theorem YY (l':List FX) (ls:List (List FX)) (now:Nat) (X:FX) (hX:X.inputs.length<=400) :
   VW P G [] (.loop (nA faw fsm fSm fplay fperf fnow ffe fsame)) (fun e s=>e = .exit 0/\Wk G [] s ⟨TN [3,3,15] [27] l' .top .top,bP.to (rE [([3,3,15],bH ls now)]),19000⟩)
     ⟨TN [3,3,15] [27] l' (.int .i64 (X.inputs.length:Int)) (.int .i64 ((0:Nat):Int)),aa.of (JY [3,3,15] [27] [32] (bH ls now) X 0),1000⟩:=by
 refine VW.CK X.inputs (fun j=>TN [3,3,15] [27] l' (.int .i64 (X.inputs.length:Int)) (.int .i64 (j:Int))) (fun j=>JY [3,3,15] [27] [32] (bH ls now) X j) 40 1000 19000 0 _ _ (by simp) ?_ ?_
 . intro j x Qa hlt Q hQ
   have d:decide ((j:Int)<(X.inputs.length:Int))=true:=ai (by omega)
   have E8:=ao j (by omega)
   have had:aV 1 (.osl [3] 1 0 X.inputs.length false) (.int .i64 (j:Int))=some (.ref [3] j 0):=dV hlt
   exact VW.tr (π := []) (n:=1000+40*j) iaK [hb 84 d,ho 89 had, .st 100089 _ _ _ (WO (q:=[3]) (s:=xby) Qa),hw 90 E8]
       (TN [1] [2] l' (.int .i64 (X.inputs.length:Int)) (.int .i64 (j:Int))) (JY [1] [2] [3] (bH ls now) X j) .normal (TN [1] [2] l' (.int .i64 (X.inputs.length:Int)) (.int .i64 ((j+1:Nat):Int))) (JY [1] [2] [3] (bH ls now) X (j+1)) 40 (by kernel_rfl)
       (by rw [A9];rfl) (by simp only [JY,aY,bm,cy,bF,cd,gZ,PU.fixed,wC,j1];rfl) (by rw [A9];rfl) (by simp only [JY,aY,bm,cy,bF,cd,gZ,PU.fixed,wC,j1];rfl) (by simp [JY]) hQ
 . intro Q hQ
   have d:decide ((X.inputs.length:Int)<(X.inputs.length:Int))=false:=ag (by omega)
   exact VW.tr (π := []) (n:=1000+40*X.inputs.length) iaK [hb 84 d]
       (TN [1] [2] l' (.int .i64 (X.inputs.length:Int)) (.int .i64 (X.inputs.length:Int))) (JY [1] [2] [3] (bH ls now) X X.inputs.length) (.exit 0) (TN [1] [2] l' .top .top) [([1],bH ls now)] 40 (by kernel_rfl)
       (by rw [A9];rfl) (by simp only [JY,aY,bm,cy,bF,cd,gZ,PU.fixed,wC,j1];rfl) (by rw [A9];rfl) (by simp only [aY,bm,j1];rfl) (by simp [JY]) (fun s hw=>hQ s (hw.trans (Wk.forget (Fg.same _) (fun j => .inr rfl) (by omega))))
def E0 (X:FX):AV := .agg [.str X.name, .int .i64 X.kind, .tsl 1 [], .sl 7 (EX.dy X.vals), .bool X.supp]
def glT (hid b:Id) (l':List FX):List AV:=List.replicate 5 .top++[.ref hid 0 0]++List.replicate 2 .top++[.ref b 0 0,bT l']++List.replicate 104 .top
theorem SD {Q:bB->VS->Prop} (l':List FX) (ls:List (List FX)) (now:Nat) (X:FX) (hX:X.inputs.length<=400) (h:VW P G [] (oP 10 (Fe faw fsm fSm fplay fperf fnow ffe fsame).body) Q ⟨YW [3,3,15] l',aa.of [([3,3,15],bH ls now)],20000⟩) :
   VW P G [] (oP 9 (Fe faw fsm fSm fplay fperf fnow ffe fsame).body) Q ⟨glT [3,3,15] [27] l',bP.to (rE (JY [3,3,15] [27] [32] (bH ls now) X 0)),200⟩ :=
 VW.SB 1 [.lp _ _ _ _ _ _ _ _ _ (YY (faw:=faw) (fsm:=fsm) (fSm:=fSm) (fplay:=fplay) (fperf:=fperf) (fnow:=fnow) (ffe:=ffe) (fsame:=fsame) l' ls now X hX)] (JY [3,3,15] [27] [32] (bH ls now) X 0) (YW [3,3,15] l') [([3,3,15],bH ls now)] 20000 (by kernel_rfl) h
theorem Vo {Q:bB->VS->Prop} (l':List FX) (ls:List (List FX)) (now:Nat) (X:FX) (h:VW P G [] (oP 10 (Fe faw fsm fSm fplay fperf fnow ffe fsame).body) Q ⟨YW [3,3,15] l',aa.of [([3,3,15],bH ls now)],20000⟩) :
   VW P G [] (oP 9 (Fe faw fsm fSm fplay fperf fnow ffe fsame).body) Q ⟨glT [3,3,15] [27] l',bP.to (rE [([3,3,15],bH ls now),([27],⟨[E0 X],5,false⟩)]),200⟩ :=
 VW.SB 1 [] [([3,3,15],bH ls now),([27],⟨[E0 X],5,false⟩)] (YW [3,3,15] l') [([3,3,15],bH ls now)] 20000 (by kernel_rfl) h
end
end
section
open Go.Lib
section
theorem GC {L:List (List UInt8)} (h0:L≠[]) (hl:L.length<=1000):∀ (σ : aa) (p:Id),(∀ y∈([]:List (Id × a8)), σ y.1=some y.2)->bu σ p (.append 1 16 (.tsl 1 []) (strs L))=some { val := .osl p 1 0 L.length false,rd:=[],up:=[(p,some (sB L))] }:=fun σ p _=>by
 have:=cY (σ := σ) (p:=p) (k:=1) (bytes:=16) (es:=[]) (x:=strs L) (ys:=L.map AV.str) (rd:=[]) dM (by simpa using h0) (by simp;omega) (bE (by simp;omega)) (by simpa using yh L)
 simp only [List.nil_append,List.length_nil,List.length_map,Nat.zero_add] at this
 exact this
theorem Ng {L:List (List UInt8)} (h0:L=[]):∀ (σ : aa) (p:Id),(∀ y∈([]:List (Id × a8)), σ y.1=some y.2)->bu σ p (.append 1 16 (.tsl 1 []) (strs L))=some { val := .tsl 1 [],rd:=[] }:=fun σ p _=>by
 subst h0;rfl
theorem Vp {L:List (List UInt8)} (h0:L≠[]) (hl:L.length<=1000) (q:Id):∀ (σ : aa) (p:Id),(∀ y∈[(q,sB L)], σ y.1=some y.2)->bu σ p (.append 1 16 (.tsl 1 []) (.osl q 1 0 L.length false))=some { val := .osl p 1 0 L.length false,rd:=[q],up:=[(p,some (sB L))] }:=fun σ p hσ => by
 have:=cY (σ := σ) (p:=p) (k:=1) (bytes:=16) (es:=[]) (x := .osl q 1 0 L.length false) (ys:=L.map AV.str) (rd:=[q]) (by rw [dY (show σ q=some ⟨L.map AV.str,1,false⟩ from hσ (q,sB L) (by simp)) rfl (by simp),List.drop_zero];show some (List.take L.length (L.map AV.str),[q])=_;rw [List.take_of_length_le (by simp)]) (by simpa using h0) (by simp;omega) (bE (by simp;omega)) (by simpa using yh L)
 simp only [List.nil_append,List.length_nil,List.length_map,Nat.zero_add] at this
 exact this
theorem Nh (l:List FX):((l.map FX.av).all fun e=>e.cells.all AV.one)=true:=by
 rw [List.all_eq_true]
 intro e he
 obtain ⟨X,_,rfl⟩:=List.mem_map.1 he
 exact of_eq_true (FX.one X)
theorem Vq {l:List FX} (h0:l≠[]) (hl:l.length<=1000):∀ (σ : aa) (p:Id),(∀ y∈([]:List (Id × a8)), σ y.1=some y.2)->bu σ p (.append 5 80 (.tsl 5 []) (bT l))=some { val := .osl p 5 0 l.length false,rd:=[],up:=[(p,some ⟨l.map FX.av,5,false⟩)] }:=fun σ p _=>by
 have:=cY (σ := σ) (p:=p) (k:=5) (bytes:=80) (es:=[]) (x:=bT l) (ys:=l.map FX.av) (rd:=[]) dM (by simpa using h0) (by simp;omega) (bE (by simp;omega)) (by simpa using Nh l)
 simp only [List.nil_append,List.length_nil,List.length_map,Nat.zero_add] at this
 exact this
theorem SE {l:List FX} (h0:l=[]):∀ (σ : aa) (p:Id),(∀ y∈([]:List (Id × a8)), σ y.1=some y.2)->bu σ p (.append 5 80 (.tsl 5 []) (bT l))=some { val := .tsl 5 [],rd:=[] }:=fun σ p _=>by
 subst h0;rfl
theorem zy {l:List FX} {X:FX} {q:Id}:(lI l X q).length=l.length+1:=by simp [lI]
theorem Vr {l:List FX} {X:FX} (hl:l.length<=900) (o q:Id):∀ (σ : aa) (p:Id),(∀ y∈[(o,(⟨lI l X q,5,false⟩:a8))], σ y.1=some y.2)->bu σ p (.append 5 80 (.tsl 5 []) (.osl o 5 0 (l.length+1) false))=some { val := .osl p 5 0 (l.length+1) false,rd:=[o],up:=[(p,some ⟨lI l X q,5,false⟩)] }:=fun σ p hσ => by
 have:=cY (σ := σ) (p:=p) (k:=5) (bytes:=80) (es:=[]) (x := .osl o 5 0 (l.length+1) false) (ys:=lI l X q) (rd:=[o]) (by rw [dY (show σ o=some ⟨lI l X q,5,false⟩ from hσ (o,⟨lI l X q,5,false⟩) (by simp)) rfl (by simp [zy]),List.drop_zero];show some (List.take (l.length+1) (lI l X q),[o])=_;rw [List.take_of_length_le (by simp [zy])]) (by intro h;have:=congrArg List.length h;simp [zy] at this) (by simp [zy];omega) (bE (by simp [zy];omega)) (by
     rw [List.nil_append]
     unfold lI
     rw [List.all_append,Nh];rfl)
 simp only [List.nil_append,List.length_nil,zy,Nat.zero_add] at this
 exact this
def FE (X:FX) (I:AV):AV := .agg [.str X.name, .int .i64 X.kind,I, .sl 7 (EX.dy X.vals), .bool X.supp]
def lE (l:List FX) (Y:FX) (I:AV):List AV:=l.map FX.av++[FE Y I]
theorem SF {l:List FX} {Y:FX} {I:AV}:(lE l Y I)[l.length]? = some (FE Y I):=by unfold lE;rw [List.getElem?_append_right (by simp)];simp
theorem Ni {l:List FX} {Y:FX} {I:AV} (w:Id) (hI:I.cells=[I]):∀ (σ : aa) (p:Id),(∀ y∈[(w,(⟨lE l Y I,5,false⟩:a8))], σ y.1=some y.2)->bu σ p (.load false 1 (.ref w l.length 0))=some { val := .str Y.name,rd:=[w] }:=fun σ p hσ => by
 show fX σ false 1 (.ref w l.length 0)=_
 rw [gO (hσ (w,⟨lE l Y I,5,false⟩) (by simp)) SF]
 unfold FE
 simp [AV.cells,flat,part]
theorem SG {l:List FX} {Y:FX} {I:AV} (w:Id) (hI:I.cells=[I]):∀ (σ : aa) (p:Id),(∀ y∈[(w,(⟨lE l Y I,5,false⟩:a8))], σ y.1=some y.2)->bu σ p (.load false 1 (.ref w l.length 2))=some { val:=I,rd:=[w] }:=fun σ p hσ => by
 show fX σ false 1 (.ref w l.length 2)=_
 rw [gO (hσ (w,⟨lE l Y I,5,false⟩) (by simp)) SF]
 unfold FE
 simp [AV.cells,flat,part]
theorem SH {l:List FX} {Y:FX} {I J:AV} (w:Id) (hJ:J.cells=[J]) (hJ1:J.one=true):∀ (σ : aa) (p:Id),(∀ y∈[(w,(⟨lE l Y I,5,false⟩:a8))], σ y.1=some y.2)->bu σ p (.store 1 (.ref w l.length 2) J)=some { val := .tup [],rd:=[w],up:=[(w,some ⟨lE l Y J,5,false⟩)] }:=fun σ p hσ => by
 show eO σ 1 (.ref w l.length 2) J=_
 rw [dw (n:=1) (v:=J) (hσ (w,⟨lE l Y I,5,false⟩) (by simp)) SF (by rw [hJ];rfl) (show 2+1<=5 by decide) (by rw [hJ];simp [hJ1])]
 unfold lE
 rw [List.set_append_right _ _ (by simp),hJ]
 simp [FE,AV.upd]
theorem Vs {l:List FX} {Y:FX}:(l++[Y]).map FX.av=lE l Y (strs Y.inputs):=by simp [lE];rfl
theorem uh:∀ {K:List (Id × a8)},bP.to (rE K)=aa.of K
 | []=>rfl
 | (j, b)::K=>by
   funext i
   have ih:=congrFun (uh (K:=K)) i
   show bP.find ((j,some b)::rE K) i=List.lookup i ((j,b)::K)
   simp only [bP.find,List.lookup]
   cases h:My i j with
   | true=>rw [mC.1 h];simp
   | false =>
     have:(i==j)=false:=by
       cases hb:i==j with
       | false=>rfl
       | true=>rw [mC.2 (eq_of_beq hb)] at h;cases h
     simp only [this]
     exact ih
end
def T7 (hid:Id):List AV:=List.replicate 3 .top++[.ref [0] 0 0, .top, .ref hid 0 0, .ref [20] 0 0, .top, .ref [27] 0 0]++List.replicate 105 .top
section
variable {P:Program} {G:Nat->Option (List AV)} {faw fsm fSm fplay fperf fnow ffe fsame fp qu:FuncId}
theorem Wk.SI {π : Id} {t t':List AV} {n:Nat} (F K:List (Id × a8)) (hd:((F++K).map (·.1)).Nodup) (ht:dU F t t') (hk:∀ x∈K,∀ e∈x.2.els,e.size=x.2.k):Wk G π ⟨t,aa.of (F++K),n⟩ ⟨t',aa.of K,n⟩:=by
 rw [List.map_append,List.nodup_append] at hd
 have ZL:((F++K).map (·.1)).Nodup:=by rw [List.map_append,List.nodup_append];exact hd
 refine Wk.nX F (fun x hx=>zu ZL (List.mem_append_left _ hx)) ht (fun i => ?_) (Nat.le_refl _)
 by_cases h1:∃ x∈K,x.1=i
 . obtain ⟨x,hx,rfl⟩:=h1
   right
   exact ⟨x.2,x.2,zu ZL (List.mem_append_right _ hx),zu hd.2.1 hx,rfl, .inl rfl,fun _ y hy e=>hd.2.2 _ (List.mem_map.2 ⟨y,hy,rfl⟩) _ (List.mem_map.2 ⟨x,hx,rfl⟩) e,rfl,hk x hx,dU.same _ _⟩
 . exact .inl (nL fun x hx e=>h1 ⟨x,hx,e⟩)
def S9 (ls:List (List FX)) (now:Nat) (E:a8) (S:List (Id × a8)):List (Id × a8):=([3,3,15],bH ls now)::([27],E)::S
def S7 (X:FX) (ls:List (List FX)) (now:Nat) (E:a8) (S:List (Id × a8)):List (Id × a8):=([0],⟨[X.av],5,false⟩)::([3,3,15],bH ls now)::([20],bH ls now)::([27],E)::S
def wT (W:AV):List AV:=List.replicate 5 .top++[.ref [3,3,15] 0 0]++List.replicate 2 .top++[.ref [27] 0 0,W]++List.replicate 104 .top
theorem GD {l:List FX} {Y:FX} (hl:l.length<=900):∀ (σ : aa) (p:Id),(∀ y∈([]:List (Id × a8)), σ y.1=some y.2)->bu σ p (.append 5 80 (.tsl 5 []) (bT (l++[Y])))=some { val := .osl p 5 0 (l.length+1) false,rd:=[],up:=[(p,some ⟨lE l Y (strs Y.inputs),5,false⟩)] }:=fun σ p hσ => by
 have:=Vq (l:=l++[Y]) (by simp) (by simp;omega) σ p hσ
 rw [Vs,List.length_append] at this
 exact this
theorem wD {F:List (Id × a8)} {c d:AV} {B:List AV} (h:cX F c d):∀ A:List AV,dU F (A++c::B) (A++d::B)
 | []=>⟨h,dU.same F B⟩
 | a::A=>⟨cX.same F a,wD h A⟩
theorem yl {F:List (Id × a8)} {W:AV} {l':List FX} (h:cX F W (bT l')):dU F (wT W) (glT [3,3,15] [27] l') :=
 wD h (List.replicate 5 .top++[.ref [3,3,15] 0 0]++List.replicate 2 .top++[.ref [27] 0 0])
theorem WR {ls:List (List FX)} {now:Nat} {E:a8} {S:List (Id × a8)} (hE:∀ e∈E.els,e.size=E.k) (hS:∀ x∈S,∀ e∈x.2.els,e.size=x.2.k):∀ x∈S9 ls now E S,∀ e∈x.2.els,e.size=x.2.k:=by
 intro x hx
 rcases List.mem_cons.1 hx with rfl | hx
 . intro e he;simp [bH] at he;subst he;rfl
 rcases List.mem_cons.1 hx with rfl | hx
 . exact hE
 . exact hS x hx
theorem Ba {F:aa} {w:Id} {l:List FX} {Y:FX} {I:AV} (hI:View F I (strs Y.inputs)) (h:F w=some ⟨lE l Y I,5,false⟩):View F (.osl w 5 0 (l.length+1) false) (bT (l++[Y])):=by
 refine View.osl (bk:=⟨lE l Y I,5,false⟩) h rfl (by simp [lE]) ?_ (by simp) (fun d hd => ?_)
 . have e:(lE l Y I).take (l.length+1)=lE l Y I:=List.take_of_length_le (by simp [lE])
   show aI F (flat (((lE l Y I).drop 0).take (l.length+1))) (flat ((l++[Y]).map FX.av))
   rw [List.drop_zero,e,lE,List.map_append,yj,yj]
   refine aI.app (aI.pure fun c hc => ?_) ?_
   . simp only [flat,List.mem_flatMap] at hc
     obtain ⟨v,hv,hc⟩:=hc
     obtain ⟨X,_,rfl⟩:=List.mem_map.1 hv
     exact FX.fP X c hc
   . exact .cons (View.pure (af.str _)) (.cons (View.pure (af.int _ _)) (.cons hI (.cons (View.pure (EX.fQ _)) (.cons (View.pure (af.bool _)) .nil))))
 . obtain ⟨X,_,rfl⟩:=List.mem_map.1 hd
   rfl
theorem YZ {Q:bB->VS->Prop} (l:List FX) (hl:l.length<=900) (Y:FX) (X:FX) (hn:(Y.name==X.name)=false) (ls:List (List FX)) (now:Nat) (E:a8) (S:List (Id × a8)) (b:a8) (hS:S=[]∨S=[([32],b)]) (hN:VP P G fnow [b8 ls now] (bT (l++[Y])))
   (h:VW P G [] (oP 9 (Fe faw fsm fSm fplay fperf fnow ffe fsame).body) Q ⟨wT (.osl [43] 5 0 (l.length+1) false),aa.of (([43],⟨lE l Y (strs Y.inputs),5,false⟩)::S9 ls now E S),200⟩) :
   VW P G [] (oP 7 (Fe faw fsm fSm fplay fperf fnow ffe fsame).body) Q ⟨T7 [3,3,15],bP.to (rE (S7 X ls now E S)),40⟩:=by
 have d:decide ((0:Int)<((l.length+1:Nat):Int))=true:=ai (by omega)
 have mW:IntKind.i64.wrap (((l.length+1:Nat):Int)-1)=(l.length:Int):=by rw [ly (by omega) (by omega)];omega
 have had:aV 5 (.osl [43] 5 0 (l.length+1) false) (.int .i64 (l.length:Int))=some (.ref [43] l.length 0):=dV (by omega)
 rcases hS with rfl | rfl <;>
 exact VW.SB 2 [hc hN, .st 49 _ _ _ (GD (l:=l) (Y:=Y) hl),hb 52 d,hw 57 mW,ho 58 had, .st 60 _ _ _ (Ni (l:=l) (Y:=Y) (I:=strs Y.inputs) [43] rfl),hb 63 hn] (S7 X ls now E _) (wT (.osl [43] 5 0 (l.length+1) false)) (([43],⟨lE l Y (strs Y.inputs),5,false⟩)::S9 ls now E _) 200 (by kernel_rfl) h
theorem Y0 {Q:bB->VS->Prop} (l:List FX) (hl:l.length<=900) (Y:FX) (hY:Y.inputs.length<=1000) (X:FX) (hn:(Y.name==X.name)=true) (ls:List (List FX)) (now:Nat) (E:a8) (S:List (Id × a8)) (b:a8) (hS:S=[]∨S=[([32],b)]) (hN:VP P G fnow [b8 ls now] (bT (l++[Y])))
   (h0:Y.inputs=[]->VW P G [] (oP 9 (Fe faw fsm fSm fplay fperf fnow ffe fsame).body) Q ⟨wT (.osl [43] 5 0 (l.length+1) false),aa.of (([43],⟨lE l Y (.tsl 1 []),5,false⟩)::S9 ls now E S),200⟩)
   (h1:Y.inputs≠[]->VW P G [] (oP 9 (Fe faw fsm fSm fplay fperf fnow ffe fsame).body) Q ⟨wT (.osl [43] 5 0 (l.length+1) false),aa.of (([43],⟨lE l Y (.osl [72] 1 0 Y.inputs.length false),5,false⟩)::([72],sB Y.inputs)::S9 ls now E S),200⟩) :
   VW P G [] (oP 7 (Fe faw fsm fSm fplay fperf fnow ffe fsame).body) Q ⟨T7 [3,3,15],bP.to (rE (S7 X ls now E S)),40⟩:=by
 have d:decide ((0:Int)<((l.length+1:Nat):Int))=true:=ai (by omega)
 have mW:IntKind.i64.wrap (((l.length+1:Nat):Int)-1)=(l.length:Int):=by rw [ly (by omega) (by omega)];omega
 have had:aV 5 (.osl [43] 5 0 (l.length+1) false) (.int .i64 (l.length:Int))=some (.ref [43] l.length 0):=dV (by omega)
 by_cases hi:Y.inputs=[]
 . replace h0:=h0 hi
   rcases hS with rfl | rfl <;>
   exact VW.SB 2 [hc hN, .st 49 _ _ _ (GD (l:=l) (Y:=Y) hl),hb 52 d,hw 57 mW,ho 58 had, .st 60 _ _ _ (Ni (l:=l) (Y:=Y) (I:=strs Y.inputs) [43] rfl),hb 63 hn,hw 68 mW,hw 73 mW,ho 74 had, .st 76 _ _ _ (SG (l:=l) (Y:=Y) (I:=strs Y.inputs) [43] rfl), .st 77 _ _ _ (Ng hi),ho 78 had, .st 100079 _ _ _ (SH (l:=l) (Y:=Y) (I:=strs Y.inputs) (J := .tsl 1 []) [43] rfl rfl)]
     (S7 X ls now E _) (wT (.osl [43] 5 0 (l.length+1) false)) (([43],⟨lE l Y (.tsl 1 []),5,false⟩)::S9 ls now E _) 200 (by kernel_rfl) h0
 . replace h1:=h1 hi
   rcases hS with rfl | rfl <;>
   exact VW.SB 2 [hc hN, .st 49 _ _ _ (GD (l:=l) (Y:=Y) hl),hb 52 d,hw 57 mW,ho 58 had, .st 60 _ _ _ (Ni (l:=l) (Y:=Y) (I:=strs Y.inputs) [43] rfl),hb 63 hn,hw 68 mW,hw 73 mW,ho 74 had, .st 76 _ _ _ (SG (l:=l) (Y:=Y) (I:=strs Y.inputs) [43] rfl), .st 77 _ _ _ (GC hi hY),ho 78 had, .st 100079 _ _ _ (SH (l:=l) (Y:=Y) (I:=strs Y.inputs) (J := .osl [72] 1 0 Y.inputs.length false) [43] rfl rfl)]
     (S7 X ls now E _) (wT (.osl [43] 5 0 (l.length+1) false)) (([43],⟨lE l Y (.osl [72] 1 0 Y.inputs.length false),5,false⟩)::([72],sB Y.inputs)::S9 ls now E _) 200 (by kernel_rfl) h1
theorem Y1 {Q:bB->VS->Prop} (l':List FX) (h0:l'=[]) (X:FX) (ls:List (List FX)) (now:Nat) (E:a8) (S:List (Id × a8)) (b:a8) (hS:S=[]∨S=[([32],b)]) (hN:VP P G fnow [b8 ls now] (bT l'))
   (h:VW P G [] (oP 9 (Fe faw fsm fSm fplay fperf fnow ffe fsame).body) Q ⟨wT (.tsl 5 []),aa.of (S9 ls now E S),200⟩) :
   VW P G [] (oP 7 (Fe faw fsm fSm fplay fperf fnow ffe fsame).body) Q ⟨T7 [3,3,15],bP.to (rE (S7 X ls now E S)),40⟩:=by
 rcases hS with rfl | rfl <;>
 exact VW.SB 2 [hc hN, .st 49 _ _ _ (SE h0)] (S7 X ls now E _) (wT (.tsl 5 [])) (S9 ls now E _) 200 (by kernel_rfl) h
end
end
section
open Go.Lib
section
variable {P:Program} {G:Nat->Option (List AV)} {faw fsm fSm fplay fperf fnow ffe fsame fp qu:FuncId}
theorem WS {Q:bB->VS->Prop} (l':List FX) (hl:l'.length<=900) (hi:∀ Y∈l',Y.inputs.length<=1000) (X:FX) (ls:List (List FX)) (now:Nat) (E:a8) (hE:∀ e∈E.els,e.size=E.k) (S:List (Id × a8)) (b:a8) (hb:∀ e∈b.els,e.size=b.k) (hS:S=[]∨S=[([32],b)]) (hN:VP P G fnow [b8 ls now] (bT l'))
   (h:VW P G [] (oP 9 (Fe faw fsm fSm fplay fperf fnow ffe fsame).body) Q ⟨glT [3,3,15] [27] l',aa.of (S9 ls now E S),200⟩) :
   VW P G [] (oP 7 (Fe faw fsm fSm fplay fperf fnow ffe fsame).body) Q ⟨T7 [3,3,15],bP.to (rE (S7 X ls now E S)),40⟩:=by
 have hk:∀ x∈S9 ls now E S,∀ e∈x.2.els,e.size=x.2.k:=WR hE (by
   rcases hS with rfl | rfl
   . intro x hx;cases hx
   . intro x hx;rcases List.mem_singleton.1 hx with rfl;exact hb)
 have WT:((S9 ls now E S).map (·.1)).Nodup/\[43] ∉ (S9 ls now E S).map (·.1)/\[72] ∉ (S9 ls now E S).map (·.1):=by
   rcases hS with rfl | rfl<;>simp [S9]
 rcases List.eq_nil_or_concat l' with h0 | ⟨l,Y,rfl⟩
 . refine Y1 l' h0 X ls now E S b hS hN (VW.wk (Wk.SI [] _ WT.1 (yl (cX.view ?_)) hk) h)
   rw [h0]
   exact View.FK 5
 . rw [List.concat_eq_append] at *
   have Kg:l.length<=900:=by simp at hl;omega
   have hYi:Y.inputs.length<=1000:=hi Y (by simp)
   cases hn:Y.name==X.name
   . refine YZ l Kg Y X hn ls now E S b hS hN (VW.wk (Wk.SI [([43],_)] _ ?_ (yl (cX.view (Ba (I:=strs Y.inputs) (View.pure ?_) ?_))) hk) h)
     . exact List.nodup_cons.2 ⟨WT.2.1,WT.1⟩
     . exact gq _
     . simp [aa.of]
   . refine Y0 l Kg Y hYi X hn ls now E S b hS hN (fun h0=>VW.wk (Wk.SI [([43],_)] _ ?_ (yl (cX.view (Ba (I := .tsl 1 []) ?_ ?_))) hk) h) (fun h1=>VW.wk (Wk.SI [([43],_),([72],_)] _ ?_ (yl (cX.view (Ba (I := .osl [72] 1 0 Y.inputs.length false) (yi ?_) ?_))) hk) h)
     . exact List.nodup_cons.2 ⟨WT.2.1,WT.1⟩
     . rw [h0];exact View.FK 1
     . simp [aa.of]
     . exact List.nodup_cons.2 ⟨fun hm=>(List.mem_cons.1 hm).elim (show ([43]:Id)=[72]->False by decide) WT.2.1,List.nodup_cons.2 ⟨WT.2.2,WT.1⟩⟩
     . simp [aa.of,List.lookup]
     . simp [aa.of]
end
end
section
open Go.Lib
section
variable {P:Program} {G:Nat->Option (List AV)} {faw fsm fSm fplay fperf fnow ffe fsame fp qu:FuncId}
abbrev liN:Id:=[27,16,6,38]
abbrev lsN:Id:=[40,6,38]
def S7N (X:FX) (ls:List (List FX)) (now:Nat) (l:List FX):List (Id × a8) :=
 [([0],⟨[X.av],5,false⟩),([3,3,15],bH (ls.take (now+1)++[l++[X]]) (now+1)),([20],YO (now+1+1) lsN (now+1)),([27],⟨[FI X [32] (.sl 7 (EX.dy X.vals))],5,false⟩),([32],sB X.inputs),
  (lsN,⟨Gu (ls.take (now+1)) (l.length+1) liN,1,false⟩),(liN,⟨lI l X [32],5,false⟩)]
theorem ab1 {Q:bB->VS->Prop} (afA:Has P fnow eH) (l:List FX) (hl:l.length<=900) (X:FX) (h0:X.inputs≠[]) (hX:X.inputs.length<=1000) (ls:List (List FX)) (now:Nat) (hlt:now<ls.length)
   (h:VW P G [] (oP 9 (Fe faw fsm fSm fplay fperf fnow ffe fsame).body) Q ⟨glT [3,3,15] [27] (l++[X]),aa.of (S9 (ls.take (now+1)++[l++[X]]) (now+1) ⟨[FI X [32] (.sl 7 (EX.dy X.vals))],5,false⟩ [([32],sB X.inputs)]),200⟩) :
   VW P G [] (oP 7 (Fe faw fsm fSm fplay fperf fnow ffe fsame).body) Q ⟨T7 [3,3,15],bP.to (rE (S7N X ls now l)),40⟩:=by
 have d:decide ((0:Int)<((l.length+1:Nat):Int))=true:=ai (by omega)
 have mW:IntKind.i64.wrap (((l.length+1:Nat):Int)-1)=(l.length:Int):=by rw [ly (by omega) (by omega)];omega
 have had:aV 5 (.osl [43] 5 0 (l.length+1) false) (.int .i64 (l.length:Int))=some (.ref [43] l.length 0):=dV (by omega)
 have hn:(X.name==X.name)=true:=beq_self_eq_true _
 have hk:∀ x∈S9 (ls.take (now+1)++[l++[X]]) (now+1) ⟨[FI X [32] (.sl 7 (EX.dy X.vals))],5,false⟩ [([32],sB X.inputs)],∀ e∈x.2.els,e.size=x.2.k :=
   WR (by intro e he;simp at he;subst he;rfl) (by intro x hx;rcases List.mem_singleton.1 hx with rfl;exact Jn)
 have h':=VW.wk (Wk.SI (G:=G) (π := []) (n:=200) (t:=wT (.osl [43] 5 0 (l.length+1) false)) [([43],⟨lE l X (.osl [72] 1 0 X.inputs.length false),5,false⟩),([72],sB X.inputs)] _ (by simp [S9])
   (yl (cX.view (Ba (I := .osl [72] 1 0 X.inputs.length false) (yi (by simp [aa.of,List.lookup])) (by simp [aa.of])))) hk) h
 exact VW.SB 2 [.rel fnow [.agg [.osl lsN 1 0 (now+1+1) false, .int .i64 ((now+1:Nat):Int)]] [(lsN,⟨Gu (ls.take (now+1)) (l.length+1) liN,1,false⟩)] _ (fun p hp=>Vl afA (ls.take (now+1)) (l.length+1) liN lsN p (now+1) (by rw [List.length_take];omega)) vS,
     .st 49 _ _ _ (Vr (l:=l) (X:=X) hl liN [32]),hb 52 d,hw 57 mW,ho 58 had, .st 60 _ _ _ (Ni (l:=l) (Y:=X) (I := .osl [32] 1 0 X.inputs.length false) [43] rfl),hb 63 hn,hw 68 mW,hw 73 mW,ho 74 had,
     .st 76 _ _ _ (SG (l:=l) (Y:=X) (I := .osl [32] 1 0 X.inputs.length false) [43] rfl), .st 77 _ _ _ (Vp h0 hX [32]),ho 78 had, .st 100079 _ _ _ (SH (l:=l) (Y:=X) (I := .osl [32] 1 0 X.inputs.length false) (J := .osl [72] 1 0 X.inputs.length false) [43] rfl rfl)]
     (S7N X ls now l) (wT (.osl [43] 5 0 (l.length+1) false)) _ 200 (by kernel_rfl) h'
end
end
end Go.VL
