/- For the claim of FeatureLimits: parts CI3, CI4, CI5, CI6, CI7, CI8, CI9, CI10, CI11, CI12, CI13, CI14, CI15, CI16, CI17, CI18, FD, CI19, CI20, CI21, CI23. -/
import Derived.Test.YtchdghnpcekegaaGreatDoorC05
import Derived.Laws.Bits64
import Derived.Laws.BitsAllLaws
set_option linter.unusedSimpArgs false
set_option linter.unusedVariables false
section
set_option linter.unusedVariables false
namespace Go.VL
theorem zH {a b:Int} (h:a<b):jj a b = -1:=by simp [jj,h]
theorem zI {a b:Int} (h:b<a):jj a b=1:=by simp [jj,h];omega
theorem PQ {a b:Int} (h:a=b):jj a b=0:=by simp [jj,h]
theorem bg (m:Nat):sX false (W m)=some (.int .i64 (ag m)):=by simp [W,sX,gj,ag]
theorem xf {m n:Nat} (h:ag m<ag n):m<n:=by
 rcases Nat.lt_or_ge m n with h1 | h1
 . exact h1
 . have:=bE h1;omega
theorem de {m i w:Nat} (h:(digits m)[i]? = some w):cn 1 (W m) (.int .i64 (i:Int))=some (.ep (AV.int .u32 (w:Int)).cells 0):=iM rfl (xd h)
section
variable {P:Program} {G:Nat->Option (List AV)}
theorem NB {f fi fw:FuncId} (h:Has P f (n7 fi fw)) (hi:∀ a b:Int,VP P G fi [.int .i64 a, .int .i64 b] (.int .i64 (jj a b))) (hw:∀ a b:Int,VP P G fw [.int .u32 a, .int .u32 b] (.int .i64 (jj a b)))
   (m n:Nat) (hm:ag m<9223372036854775807) (hn:ag n<9223372036854775807):VP P G f [W m,W n] (.int .i64 (fP m n)):=by
 refine VP.has h ?_
 simp only [n7,SS,Nat.reduceAdd,bg]
 by_cases hl:ag m=ag n
 case neg =>
   have d:decide ((ag m:Int)≠(ag n:Int))=true:=aw (by omega)
   simp only [SS,Nat.reduceAdd,bg,d]
   refine ah (hi _ _) (by simp [aa.int]) ?_
   simp only [SS,Nat.reduceAdd]
   have e:jj (ag m:Int) (ag n:Int)=fP m n:=by
     rcases Nat.lt_or_ge (ag m) (ag n) with h1 | h1
     . have h2:=xf h1
       rw [zH (by omega)];unfold fP;rw [zH (by omega)]
     . have h1':ag n<ag m:=by omega
       have h2:=xf h1'
       rw [zI (by omega)];unfold fP;rw [zI (by omega)]
   rw [e]
   exact ak▸ae rfl (aa.int _ _)
 have d:decide ((ag m:Int)≠(ag n:Int))=false:=ar (by omega)
 have ew:IntKind.i64.wrap ((ag m:Int)-1)=(ag m:Int)-1:=by rw [IntKind.wrap_i64];omega
 have hd0:(digits m).drop (ag m)=(digits n).drop (ag m):=by
   have e1:(digits m).drop (ag m)=[]:=List.drop_of_length_le (Nat.le_refl _)
   have e2:(digits n).drop (ag m)=[]:=List.drop_of_length_le (by show ag n<=ag m;omega)
   rw [e1,e2]
 simp only [SS,Nat.reduceAdd,bg,d,ew,aK]
 refine VW.dQ (α := Nat × Nat) (fun x=>⟨[W m,W n, .top, .top, .top, .int .i64 ((x.1:Int)-1)]++List.replicate 35 .top,fun _=>none,x.2⟩) (fun x=>x.1<=ag m/\(digits m).drop x.1=(digits n).drop x.1) (fun x=>x.1) (ag m,10) ?_
   ⟨Nat.le_refl _,hd0⟩ ?_
 . exact Wk.slots (by simp [Fg,List.replicate]) (Nat.le_refl _)
 rintro ⟨j,q⟩ ⟨hj,hd⟩
 simp only [] at hj hd
 simp only [SS,Nat.reduceAdd]
 by_cases h0:j=0
 . subst h0
   have d0:decide ((0:Int)<=((0:Nat):Int)-1)=false:=by decide
   simp only [SS,d0]
   have e:m=n:=by
     simp only [List.drop_zero] at hd
     rw [<- aU m,hd,aU]
   have e2:fP m n=0:=PQ (by omega)
   rw [e2]
   exact ak▸ae rfl (aa.int _ _)
 . have p8:0<j:=Nat.pos_of_ne_zero h0
   have d0:decide ((0:Int)<=((j-1:Nat):Int))=true:=aw (by omega)
   have ej:(j:Int)-1=((j-1:Nat):Int):=by omega
   have hjm:j-1<(digits m).length:=by show j-1<ag m;omega
   have QC:j-1<(digits n).length:=by show j-1<ag n;omega
   have ew2:IntKind.i64.wrap (((j-1:Nat):Int)-1)=((j-1:Nat):Int)-1:=by rw [IntKind.wrap_i64];omega
   obtain ⟨x,hx⟩:∃ x,(digits m)[j-1]? = some x:=⟨_,List.getElem?_eq_getElem hjm⟩
   obtain ⟨y,hy⟩:∃ y,(digits n)[j-1]? = some y:=⟨_,List.getElem?_eq_getElem QC⟩
   have Wt:(digits m).drop (j-1+1)=(digits n).drop (j-1+1):=by rw [show j-1+1=j from by omega];exact hd
   have hap:ab (([]:List eP)) ([]:List (Nat × Nat)):=by simp [ab]
   by_cases JS:x=y
   . have d1:decide ((x:Int)≠(y:Int))=false:=ar (by omega)
     simp only [SS,DD,Nat.reduceAdd,d0,ej,de hx,de hy,aH,bl,d1,ew2]
     refine ⟨by simp [ab],(j-1,_),⟨by simp only [];omega, ?_⟩,by simp only [];omega,Wk.slots (by simp [Fg]) (Nat.le_refl _)⟩
     simp only []
     rw [List.drop_eq_getElem_cons hjm,List.drop_eq_getElem_cons QC,Wt]
     obtain ⟨_,h1⟩:=List.getElem?_eq_some_iff.1 hx
     obtain ⟨_,h2⟩:=List.getElem?_eq_some_iff.1 hy
     rw [h1,h2,JS]
   . have d1:decide ((x:Int)≠(y:Int))=true:=aw (by omega)
     have e:jj (x:Int) (y:Int)=fP m n:=by
       rcases Nat.lt_or_ge x y with h1 | h1
       . have:=Ff (aX m) (aX n) hl hx hy Wt h1
         rw [aU,aU] at this
         rw [zH (by omega)];unfold fP;rw [zH (by omega)]
       . have:=Ff (aX n) (aX m) hl.symm hy hx Wt.symm (by omega)
         rw [aU,aU] at this
         rw [zI (by omega)];unfold fP;rw [zI (by omega)]
     simp only [SS,DD,Nat.reduceAdd,d0,ej,de hx,de hy,aH,bl,d1]
     refine ⟨by simp [ab], ?_⟩
     refine aj (hw _ _) (by simp [aa.int]) ?_
     simp only [SS,DD,Nat.reduceAdd,e]
     refine ⟨by simp [ab], ?_⟩
     exact ak▸ae rfl (aa.int _ _)
end
end Go.VL
end

section
set_option linter.unusedVariables false
namespace Go.VL
theorem Ck {o:List Nat} (h:Wd o) (KN:o=[]∨aE ^ (o.length-1)<=val o):digits (val o)=o:=by
 refine nG h ?_
 rcases KN with h0 | KN
 . exact .inl h0
 . by_cases h0:o=[]
   . exact .inl h0
   . right
     refine ⟨o.getLast h0,List.getLast?_eq_some_getLast h0,fun hz => ?_⟩
     have e:=List.dropLast_concat_getLast h0
     rw [hz] at e
     have hv:val o=val o.dropLast:=by rw [<- e,kM,List.dropLast_concat]
     have hlt:=mA (ws:=o.dropLast) (fun w hw=>h w ((List.dropLast_sublist _).subset hw))
     rw [List.length_dropLast] at hlt
     omega
theorem aM {a:List Nat} {i x:Nat} (h:a[i]? = some x):val (a.take (i+1))=val (a.take i)+aE ^ i*x:=by
 have hlt:=(List.getElem?_eq_some_iff.1 h).1
 have e:a.take (i+1)=a.take i++[x]:=by rw [List.take_add_one,h];rfl
 rw [e,cm]
 have:(a.take i).length=i:=by rw [List.length_take];omega
 rw [this];simp [val]
theorem jk {a:List Nat} {i:Nat} (h:a.length<=i):val (a.take (i+1))=val (a.take i):=by
 rw [List.take_of_length_le h,List.take_of_length_le (by omega)]
theorem nb {o:List Nat} {i c va vb x y s:Nat} (ho:o.length=i) (hv:val o+aE ^ i*c=va+vb) (hs:s=c+x+y):val (o++[s%aE])+aE ^ (i+1)*(s/aE)=(va+aE ^ i*x)+(vb+aE ^ i*y):=by
 have e2:=Nat.mod_add_div s aE
 rw [cm,ho]
 simp only [val,Nat.mul_zero,Nat.add_zero,Nat.pow_succ]
 rw [Nat.mul_assoc,Nat.add_assoc, <- Nat.mul_add,e2,hs]
 rw [Nat.mul_add,Nat.mul_add]
 omega
theorem pO {o:List Nat} (h:Wd o) (s:Nat):Wd (o++[s%aE]):=cM h (by intro w hw;simp at hw;subst hw;exact Nat.mod_lt _ cV)
theorem yf (s:Nat):IntKind.u32.wrap (s:Int)=((s%aE:Nat):Int):=by rw [IntKind.wrap_u32];unfold aE;omega
theorem w64 (s:Nat) (h:s<18446744073709551616):IntKind.u64.wrap (s:Int)=(s:Int):=by rw [IntKind.wrap_u64];omega
theorem o8 (s:Nat):bM .shr .int (.int .u64 (s:Int)) (.int .u64 32)=some (.int .u64 ((s/aE:Nat):Int)):=by
 rw [sE (by decide)]
 have:(s:Int).fdiv (2 ^ (min (32:Int).toNat IntKind.u64.bits))=((s/aE:Nat):Int):=by
   show (s:Int).fdiv (2 ^ 32)=_
   rw [Int.fdiv_eq_ediv_of_nonneg _ (by decide)];unfold aE;omega
 rw [this]
theorem bn (x:Nat) (h:x<aE):IntKind.u64.wrap (x:Int)=(x:Int):=w64 x (by unfold aE at h;omega)
theorem p6 (a b:Nat) (h:a+b<18446744073709551616):IntKind.u64.wrap ((a:Int)+(b:Int))=((a+b:Nat):Int):=by rw [IntKind.wrap_u64];omega
theorem Cl {σ : af} {q:Id} {x:Nat}:bU σ q (.buildSl 1 1 (.int .u32 0) [(0, .int .u32 (x:Int))])=some { val := .osl q 1 0 1 false,up:=[(q,some ⟨us [x],1,false⟩)] }:=bQ rfl rfl rfl rfl
theorem ZC {p:Id} {c:Nat} (h:c*4<=140737488355328):jm p 1 4 (.int .u32 0) (.int .i64 0) (.int .i64 (c:Int))=some { val := .osl p 1 0 0 false,up:=[(p,some ⟨us [],1,false⟩)] }:=by
 have hm:=eN (n:=c) (by omega)
 show (if (0:Int)<=0/\(0:Int)<=(c:Int)/\(c:Int)*((4:Nat):Int)<=140737488355328/\(c:Int)<=((maxLen:Nat):Int)/\(AV.int IntKind.u32 0).size=1/\(AV.int IntKind.u32 0).cells.all AV.one=true then _ else none)=_
 rw [if_pos ⟨by omega,by omega,by omega,by omega,rfl,rfl⟩]
 rfl
theorem DW {σ : af} {p id q:Id} {o:List Nat} {x len:Nat} (hq:q≠id) (hl:len=o.length) (hb:(len+1)*4<=140737488355328) (h : σ id=some ⟨us o,1,false⟩) :
   eh (σ.put q (some ⟨us [x],1,false⟩)) p 1 4 (.osl id 1 0 len false) (.osl q 1 0 1 false)=some { val := .osl p 1 0 (len+1) false,rd:=[id,q],up:=[(id,none),(p,some ⟨us (o++[x]),1,false⟩)] }:=by
 have:=oJ (σ := σ.put q (some ⟨us [x],1,false⟩)) (p:=p) (id:=id) (k:=1) (bytes:=4) (len:=len) (els:=us o) (x := .osl q 1 0 1 false) (ys:=us [x]) (rd:=[q])
   (jW (bk:=⟨us [x],1,false⟩) (af.dA _ _ _) rfl (by simp [gj])) (by simp [us]) (by rw [af.cB _ _ _ hq.symm];exact h) (by rw [gj];exact hl) (by rw [gj];exact hb) (eN (by rw [gj];simp;omega)) (Ny _) (Ny _)
 rw [this,DV]
 simp [gj]
theorem GM {rs:List ug} {s:VS} {id:Id} {n:Nat} {t b:Bool} {o:List Nat} (h1:aY rs s=some (.osl id 1 0 n t)) (h2:s.σ id=some ⟨us o,1,b⟩) (hn:n=o.length):∃ r0,aY rs s=some r0/\View s.σ r0 (.sl 1 (us o)):=by
 subst hn
 refine ⟨_,h1,View.osl (bk:=⟨us o,1,b⟩) h2 rfl (by simp [gj]) ?_ (by rw [gj]) (Cj o)⟩
 rw [List.drop_zero,List.take_of_length_le (by rw [gj];exact Nat.le_refl _)]
 exact aF.pure (zh o)
section
variable {P:Program} {G:Nat->Option (List AV)}
theorem Xj {f:FuncId} (h:Has P f qX) (m n:Nat) (hm:ag m<=1000000) (hn:ag n<=1000000):VP P G f [W m,W n] (W (m+n)):=by
 refine VP.has h ?_
 simp only [qX,SS,Nat.reduceAdd,bg]
 by_cases hs:ag m<ag n
 . have hle:ag m<=ag n:=by omega
   have hlx:ag n<=1000000:=hn
   have hd:decide ((ag m:Int)<(ag n:Int))=true:=by first | exact aw (by omega) | exact ar (by omega)
   have ew:IntKind.i64.wrap ((ag n:Int)+1)=((ag n+1:Nat):Int):=aI _ (by omega)
   have sr:∀ p:Id,jm p 1 4 (.int .u32 0) (.int .i64 0) (.int .i64 ((ag n+1:Nat):Int))=some { val := .osl p 1 0 0 false,up:=[(p,some ⟨us [],1,false⟩)] }:=fun p=>ZC (by omega)
   simp only [SS,Nat.reduceAdd,bg,hd,ew,sr,aK]
   refine VW.dQ (α := Nat × Nat × Nat × List Nat × Nat) (fun x=>⟨[W n,W m, .top, .top, .top, .osl [x.2.2.1] 1 0 x.1 false, .int .u64 (x.2.2.2.2:Int), .top, .top]++List.replicate 11 .top++[W n, .int .i64 (ag n), .int .i64 x.1]++List.replicate 35 .top,
     af.put (fun _=>none) [x.2.2.1] (some ⟨us x.2.2.2.1,1,false⟩),x.2.1⟩)
     (fun x=>x.1<=ag n/\x.2.2.1<x.2.1/\x.2.2.2.1.length=x.1/\Wd x.2.2.2.1/\x.2.2.2.2<=1/\val x.2.2.2.1+aE ^ x.1*x.2.2.2.2=val ((digits n).take x.1)+val ((digits m).take x.1)) (fun x=>ag n-x.1) (0,19,13,[],0) ?_ ?_ ?_
   . exact Wk.slots (by simp [Fg,List.replicate]) (Nat.le_refl _)
   . exact ⟨Nat.zero_le _,by decide,rfl,by intro w hw;simp at hw,by decide,by simp [val]⟩
   rintro ⟨i,nn,q,o,c⟩ ⟨hi,hq,ho,hwd,hc,hv⟩
   simp only [] at hi hq ho hwd hc hv
   have qS:i<ag n->decide ((i:Int)<(ag n:Int))=true:=fun h=>aw (by omega)
   have xK : ¬ i<ag n->decide ((i:Int)<(ag n:Int))=false:=fun h=>ar (by omega)
   have hb4:(i+1)*4<=140737488355328:=by omega
   have dD : ¬ i<ag n->i=ag n:=by omega
   have sP:=aI i (by omega)
   simp only [SS]
   by_cases hlt:i<ag n
   . have jq:i+1<=ag n/\ag n-(i+1)<ag n-i:=by omega
     obtain ⟨a,ha⟩:∃ a,(digits n)[i]? = some a:=⟨_,List.getElem?_eq_getElem hlt⟩
     have xg:=aX n a (List.mem_of_getElem? ha)
     have f1:=bn a xg
     have f2:=p6 c a (by unfold aE at xg;omega)
     by_cases hy:i<ag m
     . obtain ⟨b,hb⟩:∃ b,(digits m)[i]? = some b:=⟨_,List.getElem?_eq_getElem hy⟩
       have Hr:=aX m b (List.mem_of_getElem? hb)
       have d3:decide ((i:Int)<(ag m:Int))=true:=aw (by omega)
       have f3:=bn b Hr
       have f4:=p6 (c+a) b (by unfold aE at xg Hr;omega)
       have Xk:(c+a+b)/aE<=1:=by unfold aE at xg Hr ⊢;omega
       simp only [SS,Nat.reduceAdd,qS hlt,de ha,de hb,bg,aH,bl,f1,f2,d3,f3,f4,yf,Cl]
       rw [DW (o:=o)]
       . simp only [SS,Nat.reduceAdd,o8,sP]
         refine ⟨(i+1,_,nn+1+5+5+4+8+4,o++[(c+a+b)%aE],(c+a+b)/aE),⟨jq.1, ?_,by simp [ho],pO hwd _,Xk, ?_⟩,jq.2,Wk.forget (by simp [Fg]) (fun j => ?_) (Nat.le_refl _)⟩
         . simp only [];omega
         . show val (o++[(c+a+b)%aE])+aE ^ (i+1)*((c+a+b)/aE)=_
           rw [aM ha,aM hb]
           exact nb ho hv rfl
         . simp only [af.put];split<;>simp
       . intro e;simp at e;omega
       . exact ho.symm
       . exact hb4
       . exact af.dA _ _ _
     . have d3:decide ((i:Int)<(ag m:Int))=false:=ar (by omega)
       have Xk:(c+a)/aE<=1:=by unfold aE at xg ⊢;omega
       simp only [SS,Nat.reduceAdd,qS hlt,de ha,bg,aH,bl,f1,f2,d3,yf,Cl]
       rw [DW (o:=o)]
       . simp only [SS,Nat.reduceAdd,o8,sP]
         refine ⟨(i+1,_,nn+1+5+5+4+4,o++[(c+a)%aE],(c+a)/aE),⟨jq.1, ?_,by simp [ho],pO hwd _,Xk, ?_⟩,jq.2,Wk.forget (by simp [Fg]) (fun j => ?_) (Nat.le_refl _)⟩
         . simp only [];omega
         . show val (o++[(c+a)%aE])+aE ^ (i+1)*((c+a)/aE)=_
           rw [aM ha,jk (by show ag m<=i;omega)]
           have:=nb (x:=a) (y:=0) (s:=c+a) ho hv (by omega)
           simpa using this
         . simp only [af.put];split<;>simp
       . intro e;simp at e;omega
       . exact ho.symm
       . exact hb4
       . exact af.dA _ _ _
   . have pP:=dD hlt
     have Ac:val o+aE ^ i*c=m+n:=by
       have e1:(digits n).take (ag n)=digits n:=List.take_of_length_le (Nat.le_refl _)
       have e2:(digits m).take (ag n)=digits m:=List.take_of_length_le hle
       rw [hv,pP,e1,e2,aU,aU]
       all_goals omega
     by_cases h0:c=0
     . have d4:decide ((0:Int)<(c:Int))=false:=ar (by omega)
       have e:W (m+n) = .sl 1 (us o):=by
         rw [h0] at Ac
         simp only [Nat.mul_zero,Nat.add_zero] at Ac
         unfold W
         rw [<- Ac,Ck hwd]
         rcases Nat.eq_zero_or_pos i with h1 | h1
         . left;rw [h1] at ho;exact List.length_eq_zero_iff.1 ho
         . right
           rw [Ac,ho,pP]
           have HU:n≠0:=by rintro e;rw [e] at pP;simp [ag,bx] at pP;omega
           have:=sO HU
           omega
       simp only [SS,Nat.reduceAdd,xK hlt,d4]
       rw [e]
       exact ak▸GM (b:=false) rfl (by simp [af.put]) ho.symm
     . have Xl:c=1:=by omega
       have d4:decide ((0:Int)<(c:Int))=true:=aw (by omega)
       have e1:c%aE=1:=by rw [Xl];rfl
       have e:W (m+n) = .sl 1 (us (o++[1])):=by
         have qT:val (o++[1])=m+n:=by rw [cm,ho, <- Ac,Xl];simp [val]
         unfold W
         rw [<- qT,nG (cM hwd (by intro w hw;simp at hw;subst hw;decide)) (.inr ⟨1,by simp,by decide⟩)]
       simp only [SS,Nat.reduceAdd,xK hlt,d4,yf,e1,Cl]
       rw [DW (o:=o)]
       . simp only [SS,Nat.reduceAdd]
         rw [e]
         exact ak▸GM (b:=false) rfl (by simp [af.put]) (by simp [ho])
       . intro e;simp at e;omega
       . exact ho.symm
       . exact hb4
       . exact af.dA _ _ _
 . have hle:ag n<=ag m:=by omega
   have hlx:ag m<=1000000:=hm
   have hd:decide ((ag m:Int)<(ag n:Int))=false:=by first | exact aw (by omega) | exact ar (by omega)
   have ew:IntKind.i64.wrap ((ag m:Int)+1)=((ag m+1:Nat):Int):=aI _ (by omega)
   have sr:∀ p:Id,jm p 1 4 (.int .u32 0) (.int .i64 0) (.int .i64 ((ag m+1:Nat):Int))=some { val := .osl p 1 0 0 false,up:=[(p,some ⟨us [],1,false⟩)] }:=fun p=>ZC (by omega)
   simp only [SS,Nat.reduceAdd,bg,hd,ew,sr,aK]
   refine VW.dQ (α := Nat × Nat × Nat × List Nat × Nat) (fun x=>⟨[W m,W n, .top, .top, .top, .osl [x.2.2.1] 1 0 x.1 false, .int .u64 (x.2.2.2.2:Int), .top, .top]++List.replicate 11 .top++[W m, .int .i64 (ag m), .int .i64 x.1]++List.replicate 35 .top,
     af.put (fun _=>none) [x.2.2.1] (some ⟨us x.2.2.2.1,1,false⟩),x.2.1⟩)
     (fun x=>x.1<=ag m/\x.2.2.1<x.2.1/\x.2.2.2.1.length=x.1/\Wd x.2.2.2.1/\x.2.2.2.2<=1/\val x.2.2.2.1+aE ^ x.1*x.2.2.2.2=val ((digits m).take x.1)+val ((digits n).take x.1)) (fun x=>ag m-x.1) (0,15,9,[],0) ?_ ?_ ?_
   . exact Wk.slots (by simp [Fg,List.replicate]) (Nat.le_refl _)
   . exact ⟨Nat.zero_le _,by decide,rfl,by intro w hw;simp at hw,by decide,by simp [val]⟩
   rintro ⟨i,nn,q,o,c⟩ ⟨hi,hq,ho,hwd,hc,hv⟩
   simp only [] at hi hq ho hwd hc hv
   have qS:i<ag m->decide ((i:Int)<(ag m:Int))=true:=fun h=>aw (by omega)
   have xK : ¬ i<ag m->decide ((i:Int)<(ag m:Int))=false:=fun h=>ar (by omega)
   have hb4:(i+1)*4<=140737488355328:=by omega
   have dD : ¬ i<ag m->i=ag m:=by omega
   have sP:=aI i (by omega)
   simp only [SS]
   by_cases hlt:i<ag m
   . have jq:i+1<=ag m/\ag m-(i+1)<ag m-i:=by omega
     obtain ⟨a,ha⟩:∃ a,(digits m)[i]? = some a:=⟨_,List.getElem?_eq_getElem hlt⟩
     have xg:=aX m a (List.mem_of_getElem? ha)
     have f1:=bn a xg
     have f2:=p6 c a (by unfold aE at xg;omega)
     by_cases hy:i<ag n
     . obtain ⟨b,hb⟩:∃ b,(digits n)[i]? = some b:=⟨_,List.getElem?_eq_getElem hy⟩
       have Hr:=aX n b (List.mem_of_getElem? hb)
       have d3:decide ((i:Int)<(ag n:Int))=true:=aw (by omega)
       have f3:=bn b Hr
       have f4:=p6 (c+a) b (by unfold aE at xg Hr;omega)
       have Xk:(c+a+b)/aE<=1:=by unfold aE at xg Hr ⊢;omega
       simp only [SS,Nat.reduceAdd,qS hlt,de ha,de hb,bg,aH,bl,f1,f2,d3,f3,f4,yf,Cl]
       rw [DW (o:=o)]
       . simp only [SS,Nat.reduceAdd,o8,sP]
         refine ⟨(i+1,_,nn+1+5+5+4+8+4,o++[(c+a+b)%aE],(c+a+b)/aE),⟨jq.1, ?_,by simp [ho],pO hwd _,Xk, ?_⟩,jq.2,Wk.forget (by simp [Fg]) (fun j => ?_) (Nat.le_refl _)⟩
         . simp only [];omega
         . show val (o++[(c+a+b)%aE])+aE ^ (i+1)*((c+a+b)/aE)=_
           rw [aM ha,aM hb]
           exact nb ho hv rfl
         . simp only [af.put];split<;>simp
       . intro e;simp at e;omega
       . exact ho.symm
       . exact hb4
       . exact af.dA _ _ _
     . have d3:decide ((i:Int)<(ag n:Int))=false:=ar (by omega)
       have Xk:(c+a)/aE<=1:=by unfold aE at xg ⊢;omega
       simp only [SS,Nat.reduceAdd,qS hlt,de ha,bg,aH,bl,f1,f2,d3,yf,Cl]
       rw [DW (o:=o)]
       . simp only [SS,Nat.reduceAdd,o8,sP]
         refine ⟨(i+1,_,nn+1+5+5+4+4,o++[(c+a)%aE],(c+a)/aE),⟨jq.1, ?_,by simp [ho],pO hwd _,Xk, ?_⟩,jq.2,Wk.forget (by simp [Fg]) (fun j => ?_) (Nat.le_refl _)⟩
         . simp only [];omega
         . show val (o++[(c+a)%aE])+aE ^ (i+1)*((c+a)/aE)=_
           rw [aM ha,jk (by show ag n<=i;omega)]
           have:=nb (x:=a) (y:=0) (s:=c+a) ho hv (by omega)
           simpa using this
         . simp only [af.put];split<;>simp
       . intro e;simp at e;omega
       . exact ho.symm
       . exact hb4
       . exact af.dA _ _ _
   . have pP:=dD hlt
     have Ac:val o+aE ^ i*c=m+n:=by
       have e1:(digits m).take (ag m)=digits m:=List.take_of_length_le (Nat.le_refl _)
       have e2:(digits n).take (ag m)=digits n:=List.take_of_length_le hle
       rw [hv,pP,e1,e2,aU,aU]
       all_goals omega
     by_cases h0:c=0
     . have d4:decide ((0:Int)<(c:Int))=false:=ar (by omega)
       have e:W (m+n) = .sl 1 (us o):=by
         rw [h0] at Ac
         simp only [Nat.mul_zero,Nat.add_zero] at Ac
         unfold W
         rw [<- Ac,Ck hwd]
         rcases Nat.eq_zero_or_pos i with h1 | h1
         . left;rw [h1] at ho;exact List.length_eq_zero_iff.1 ho
         . right
           rw [Ac,ho,pP]
           have HU:m≠0:=by rintro e;rw [e] at pP;simp [ag,bx] at pP;omega
           have:=sO HU
           omega
       simp only [SS,Nat.reduceAdd,xK hlt,d4]
       rw [e]
       exact ak▸GM (b:=false) rfl (by simp [af.put]) ho.symm
     . have Xl:c=1:=by omega
       have d4:decide ((0:Int)<(c:Int))=true:=aw (by omega)
       have e1:c%aE=1:=by rw [Xl];rfl
       have e:W (m+n) = .sl 1 (us (o++[1])):=by
         have qT:val (o++[1])=m+n:=by rw [cm,ho, <- Ac,Xl];simp [val]
         unfold W
         rw [<- qT,nG (cM hwd (by intro w hw;simp at hw;subst hw;decide)) (.inr ⟨1,by simp,by decide⟩)]
       simp only [SS,Nat.reduceAdd,xK hlt,d4,yf,e1,Cl]
       rw [DW (o:=o)]
       . simp only [SS,Nat.reduceAdd]
         rw [e]
         exact ak▸GM (b:=false) rfl (by simp [af.put]) (by simp [ho])
       . intro e;simp at e;omega
       . exact ho.symm
       . exact hb4
       . exact af.dA _ _ _
end
end Go.VL
end

section
set_option linter.unusedVariables false
namespace Go.VL
theorem JT (c:Nat):List.replicate c (AV.int .u32 0)=us (List.replicate c 0):=by simp [us]
theorem aaN (o:List Nat) (i x:Nat):(us o).set i (.int .u32 (x:Int))=us (o.set i x):=by simp [us,List.map_set]
theorem nH {p:Id} {c:Nat} (h:c*4<=140737488355328):jm p 1 4 (.int .u32 0) (.int .i64 (c:Int)) (.int .i64 (c:Int))=some { val := .osl p 1 0 c false,up:=[(p,some ⟨us (List.replicate c 0),1,false⟩)] }:=by
 have hm:=eN (n:=c) (by omega)
 show (if (0:Int)<=(c:Int)/\(c:Int)<=(c:Int)/\(c:Int)*((4:Nat):Int)<=140737488355328/\(c:Int)<=((maxLen:Nat):Int)/\(AV.int IntKind.u32 0).size=1/\(AV.int IntKind.u32 0).cells.all AV.one=true then _ else none)=_
 rw [if_pos ⟨by omega,by omega,by omega,by omega,rfl,rfl⟩]
 simp only [Int.toNat_natCast,JT]
theorem cN {q:Id} {len i:Nat} {t:Bool} (h:i<len):cn 1 (.osl q 1 0 len t) (.int .i64 (i:Int))=some (.ref q i 0):=by
 simp only [cn]
 rw [if_pos ⟨trivial,by omega,by omega⟩]
 simp
theorem bO {σ : af} {q:Id} {o:List Nat} {i x:Nat} (h : σ q=some ⟨us o,1,false⟩) (hi:i<o.length):fy σ 1 (.ref q i 0) (.int .u32 (x:Int))=some { val := .tup [],rd:=[q],up:=[(q,some ⟨us (o.set i x),1,false⟩)] }:=by
 obtain ⟨w,hw⟩:∃ w,o[i]? = some w:=⟨_,List.getElem?_eq_getElem hi⟩
 rw [eO (n:=1) (v := .int .u32 (x:Int)) h (xd hw) rfl (by simp [AV.size,AV.cells]) rfl, <- aaN]
 rfl
theorem js {σ : af} {q:Id} {o:List Nat} {i x:Nat} {b:Bool} (h : σ q=some ⟨us o,1,b⟩) (hi:o[i]? = some x):jl σ false 1 (.ref q i 0)=some { val := .int .u32 (x:Int),rd:=[q] }:=by
 rw [qR h (xd hi)];rfl
theorem Xm (o:List Nat) (k x:Nat):(o++List.replicate (k+1) 0).set o.length x=(o++[x])++List.replicate k 0:=by
 rw [List.set_append_right _ _ (Nat.le_refl _),Nat.sub_self,List.replicate_succ,List.set_cons_zero]
 simp
theorem Fh {o:List Nat} {i x y:Nat} (h:o[i]? = some y):val (o.set i x)+aE ^ i*y=val o+aE ^ i*x:=by
 have hi:=(List.getElem?_eq_some_iff.1 h).1
 have ht:(o.take i).length=i:=by rw [List.length_take];omega
 have e1:o=o.take i++y::o.drop (i+1):=by
   have:=List.take_append_drop i o
   rw [List.drop_eq_getElem_cons hi] at this
   obtain ⟨_,h2⟩:=List.getElem?_eq_some_iff.1 h
   rw [h2] at this;exact this.symm
 have e2:o.set i x=o.take i++x::o.drop (i+1):=by rw [List.set_eq_take_append_cons_drop,if_pos hi]
 rw [e2]
 have e3:val o=val (o.take i++y::o.drop (i+1)):=congrArg val e1
 rw [e3,cm,cm,ht]
 simp only [val,Nat.mul_add]
 omega
theorem JU {o:List Nat} (h:Wd o) {i x:Nat} (hx:x<aE):Wd (o.set i x):=fun w hw=>by
 rcases List.mem_or_eq_of_mem_set hw with h1 | h1
 . exact h w h1
 . rw [h1];exact hx
theorem GN (k:Nat):Wd (List.replicate k 0):=fun w hw=>by rw [List.eq_of_mem_replicate hw];exact cV
theorem PR (o:List Nat) (k:Nat):val (o++List.replicate k 0)=val o:=by
 rw [cm,DU (fun w hw=>List.eq_of_mem_replicate hw)];omega
theorem LK {x y c:Nat} (hx:x<aE) (hy:y<aE) (hc:c<=1):∃ w c':Nat,w<aE/\c'<=1/\w+y+c=x+aE*c'/\IntKind.u32.wrap (IntKind.u64.wrap (IntKind.u64.wrap ((x:Int)-(c:Int))-(y:Int)))=(w:Int) /\
   bM .shr .int (.int .u64 (IntKind.u64.wrap (IntKind.u64.wrap ((x:Int)-(c:Int))-(y:Int)))) (.int .u64 63)=some (.int .u64 (c':Int)):=by
 have KE:∀ a:Int,bM .shr .int (.int .u64 a) (.int .u64 63)=some (.int .u64 (a/9223372036854775808)):=fun a=>by
   rw [sE (by decide)]
   show some (AV.int .u64 (a.fdiv (2 ^ 63)))=_
   rw [Int.fdiv_eq_ediv_of_nonneg _ (by decide)];rfl
 rw [KE]
 unfold aE at *
 by_cases h:c+y<=x
 . refine ⟨x-c-y,0,by omega,by omega,by omega, ?_, ?_⟩
   . rw [IntKind.wrap_u32,IntKind.wrap_u64,IntKind.wrap_u64];omega
   . rw [IntKind.wrap_u64,IntKind.wrap_u64];congr 2;omega
 . refine ⟨x+4294967296-c-y,1,by omega,by omega,by omega, ?_, ?_⟩
   . rw [IntKind.wrap_u32,IntKind.wrap_u64,IntKind.wrap_u64];omega
   . rw [IntKind.wrap_u64,IntKind.wrap_u64];congr 2;omega
theorem Rf {x c:Nat} (hx:x<aE) (hc:c<=1):∃ w c':Nat,w<aE/\c'<=1/\w+0+c=x+aE*c'/\IntKind.u32.wrap (IntKind.u64.wrap ((x:Int)-(c:Int)))=(w:Int) /\
   bM .shr .int (.int .u64 (IntKind.u64.wrap ((x:Int)-(c:Int)))) (.int .u64 63)=some (.int .u64 (c':Int)):=by
 obtain ⟨w,c',h1,h2,h3,h4,h5⟩:=LK (y:=0) hx cV hc
 have e:IntKind.u64.wrap (IntKind.u64.wrap ((x:Int)-(c:Int))-((0:Nat):Int))=IntKind.u64.wrap ((x:Int)-(c:Int)):=by rw [IntKind.wrap_u64,IntKind.wrap_u64];omega
 rw [e] at h4 h5
 exact ⟨w,c',h1,h2,h3,h4,h5⟩
theorem nQ {o:List Nat} {i c va vb x y w c':Nat} (ho:o.length=i) (hv:val o+vb=va+aE ^ i*c-aE ^ i*c+aE ^ i*c) (hw:w+y+c=x+aE*c'):val (o++[w])+(vb+aE ^ i*y)=(va+aE ^ i*x)+aE ^ (i+1)*c':=by
 have h:aE ^ i*w+aE ^ i*y+aE ^ i*c=aE ^ i*x+aE ^ i*(aE*c'):=by rw [<- Nat.mul_add, <- Nat.mul_add, <- Nat.mul_add,hw]
 rw [cm,ho]
 simp only [val,Nat.mul_zero,Nat.add_zero,Nat.pow_succ]
 rw [Nat.mul_assoc]
 omega
section
variable {P:Program} {G:Nat->Option (List AV)}
theorem T2 {f ft:FuncId} (h:Has P f (qa ft)) (ht:iT P G ft) (m n:Nat) (qU:n<=m) (hm:ag m<=1000000):VP P G f [W m,W n] (W (m-n)):=by
 refine VP.has h ?_
 have hle:ag n<=ag m:=bE qU
 have sr:∀ p:Id,jm p 1 4 (.int .u32 0) (.int .i64 (ag m:Int)) (.int .i64 (ag m:Int))=some { val := .osl p 1 0 (ag m) false,up:=[(p,some ⟨us (List.replicate (ag m) 0),1,false⟩)] }:=fun p=>nH (by omega)
 simp only [qa,SS,Nat.reduceAdd,bg,sr,aK]
 refine VW.dQ (α := Nat × Nat × List Nat × Nat) (fun x=>⟨[W m,W n, .top, .top, .top, .osl [3] 1 0 (ag m) false, .int .u64 (x.2.2.2:Int)]++List.replicate 6 .top++[W m, .int .i64 (ag m), .int .i64 x.1]++List.replicate 29 .top,
   af.put (fun _=>none) [3] (some ⟨us (x.2.2.1++List.replicate (ag m-x.1) 0),1,false⟩),x.2.1⟩)
   (fun x=>x.1<=ag m/\x.2.2.1.length=x.1/\Wd x.2.2.1/\x.2.2.2<=1/\val x.2.2.1+val ((digits n).take x.1)=val ((digits m).take x.1)+aE ^ x.1*x.2.2.2) (fun x=>ag m-x.1) (0,9,[],0) ?_ ?_ ?_
 . exact Wk.slots (by simp [Fg,List.replicate]) (Nat.le_refl _)
 . exact ⟨Nat.zero_le _,rfl,by intro w hw;simp at hw,by decide,by simp [val]⟩
 rintro ⟨i,nn,o,c⟩ ⟨hi,ho,hwd,hc,hv⟩
 simp only [] at hi ho hwd hc hv
 have qS:i<ag m->decide ((i:Int)<(ag m:Int))=true:=fun h=>aw (by omega)
 have xK : ¬ i<ag m->decide ((i:Int)<(ag m:Int))=false:=fun h=>ar (by omega)
 have dD : ¬ i<ag m->i=ag m:=by omega
 have sP:=aI i (by omega)
 have Ze:i<ag m->i<(o++List.replicate (ag m-i) 0).length:=fun h=>by rw [List.length_append,List.length_replicate];omega
 have Xn:i<ag m->∀ x,(o++List.replicate (ag m-i) 0).set i x=(o++[x])++List.replicate (ag m-(i+1)) 0:=fun h x=>by
   rw [show ag m-i=(ag m-(i+1))+1 from by omega, <- ho];exact Xm _ _ _
 have jq:i<ag m->i+1<=ag m/\ag m-(i+1)<ag m-i:=fun h=>by omega
 have hny : ¬ i<ag n->ag n<=i:=by omega
 have d3t:i<ag n->decide ((i:Int)<(ag n:Int))=true:=fun h=>aw (by omega)
 have d3f : ¬ i<ag n->decide ((i:Int)<(ag n:Int))=false:=fun h=>ar (by omega)
 simp only [SS]
 by_cases hlt:i<ag m
 . obtain ⟨a,ha⟩:∃ a,(digits m)[i]? = some a:=⟨_,List.getElem?_eq_getElem hlt⟩
   have xg:=aX m a (List.mem_of_getElem? ha)
   have f1:=bn a xg
   have nX:=cN (q:=[3]) (t:=false) hlt
   by_cases hy:i<ag n
   . obtain ⟨b,hb⟩:∃ b,(digits n)[i]? = some b:=⟨_,List.getElem?_eq_getElem hy⟩
     have Hr:=aX n b (List.mem_of_getElem? hb)
     have f3:=bn b Hr
     obtain ⟨w,c',h1,h2,h3,h4,h5⟩:=LK xg Hr hc
     have hv':=nQ (va:=val ((digits m).take i)) (vb:=val ((digits n).take i)) ho (by rw [hv];omega) h3
     simp only [SS,Nat.reduceAdd,qS hlt,de ha,de hb,bg,aH,bl,f1,f3,d3t hy,h4,nX]
     rw [bO (o:=o++List.replicate (ag m-i) 0) (by simp [af.put]) (Ze hlt),Xn hlt]
     simp only [SS,Nat.reduceAdd,h5,sP]
     refine ⟨(i+1,_,o++[w],c'),⟨(jq hlt).1,by simp [ho],cM hwd (by intro z hz;simp at hz;subst hz;exact h1),h2, ?_⟩,(jq hlt).2,Wk.forget (by simp [Fg]) (fun j => ?_) (Nat.le_refl _)⟩
     . show val (o++[w])+val ((digits n).take (i+1))=_
       rw [aM ha,aM hb];exact hv'
     . simp only [af.put];split<;>simp
   . obtain ⟨w,c',h1,h2,h3,h4,h5⟩:=Rf xg hc
     have hv':=nQ (va:=val ((digits m).take i)) (vb:=val ((digits n).take i)) ho (by rw [hv];omega) h3
     simp only [SS,Nat.reduceAdd,qS hlt,de ha,bg,aH,bl,f1,d3f hy,h4,nX]
     rw [bO (o:=o++List.replicate (ag m-i) 0) (by simp [af.put]) (Ze hlt),Xn hlt]
     simp only [SS,Nat.reduceAdd,h5,sP]
     refine ⟨(i+1,_,o++[w],c'),⟨(jq hlt).1,by simp [ho],cM hwd (by intro z hz;simp at hz;subst hz;exact h1),h2, ?_⟩,(jq hlt).2,Wk.forget (by simp [Fg]) (fun j => ?_) (Nat.le_refl _)⟩
     . show val (o++[w])+val ((digits n).take (i+1))=_
       rw [aM ha,jk (hny hy)]
       simpa using hv'
     . simp only [af.put];split<;>simp
 . have pP:=dD hlt
   have e1:(digits m).take (ag m)=digits m:=List.take_of_length_le (Nat.le_refl _)
   have e2:(digits n).take (ag m)=digits n:=List.take_of_length_le hle
   have Ac:val o+n=m+aE ^ ag m*c:=by rw [pP,e1,e2,aU,aU] at hv;exact hv
   have AA:val o=m-n:=by
     have:=mA hwd
     rw [ho,pP] at this
     rcases Nat.le_one_iff_eq_zero_or_eq_one.1 hc with h0 | h0
     . rw [h0] at Ac;omega
     . rw [h0] at Ac;omega
   have e3:o++List.replicate (ag m-i) 0=o:=by rw [pP,Nat.sub_self];simp
   have zG:=ht o hwd (by rw [ho];omega)
   rw [AA] at zG
   simp only [SS,Nat.reduceAdd,xK hlt,e3]
   refine bB [([3],⟨us o,1,false⟩)] zG (aF.cons (hH (by rw [ho,pP])) aF.nil) (by simp [af.put]) ?_
   simp only [SS,Nat.reduceAdd]
   exact ak▸ae rfl (ay _)
end
end Go.VL
end

section
set_option linter.unusedVariables false
namespace Go.VL
theorem PS (a b:Nat) (ha:a<aE) (hb:b<aE):IntKind.u64.wrap ((a:Int)*(b:Int))=((a*b:Nat):Int):=by
 have:a*b<=4294967295*4294967295:=Nat.mul_le_mul (by unfold aE at ha;omega) (by unfold aE at hb;omega)
 rw [<- Int.natCast_mul,IntKind.wrap_u64];omega
theorem NC {a b:Nat} (ha:a<aE) (hb:b<aE):a*b<=18446744065119617025:=by
 have:a*b<=4294967295*4294967295:=Nat.mul_le_mul (by unfold aE at ha;omega) (by unfold aE at hb;omega)
 omega
theorem oP (a b:Nat) (h:a+b<=9223372036854775807):IntKind.i64.wrap ((a:Int)+(b:Int))=((a+b:Nat):Int):=by rw [IntKind.wrap_i64];omega
theorem GO {o:List Nat} {k y:Nat} (h:val o<aE ^ k) (hy:o[k]? = some y):y=0:=by
 have:=Fh (x:=0) hy
 rcases Nat.eq_zero_or_pos y with h0 | h0
 . exact h0
 . have:aE ^ k*1<=aE ^ k*y:=Nat.mul_le_mul_left _ h0
   omega
theorem IZ {o o':List Nat} {i j c x y z s v:Nat} (hz:o'[i+j]? = some z) (hv:val o'+aE ^ (i+j)*c=val o+aE ^ i*(x*v)) (hs:s=c+(x*y+z)) :
   val (o'.set (i+j) (s%aE))+aE ^ (i+(j+1))*(s/aE)=val o+aE ^ i*(x*(v+aE ^ j*y)):=by
 have e1:=Fh (x:=s%aE) hz
 have e2:aE ^ (i+j)*(s%aE)+aE ^ (i+j)*(aE*(s/aE))=aE ^ (i+j)*c+aE ^ (i+j)*(x*y)+aE ^ (i+j)*z:=by
   rw [<- Nat.mul_add,Nat.mod_add_div,hs,Nat.mul_add,Nat.mul_add];omega
 have e3:aE ^ (i+(j+1))*(s/aE)=aE ^ (i+j)*(aE*(s/aE)):=by rw [<- Nat.add_assoc,Nat.pow_succ,Nat.mul_assoc]
 have e4:aE ^ i*(x*(v+aE ^ j*y))=aE ^ i*(x*v)+aE ^ (i+j)*(x*y):=by
   rw [Nat.mul_add,Nat.mul_add,Nat.pow_add]
   congr 1
   rw [Nat.mul_assoc,Nat.mul_left_comm x]
 rw [e3,e4]
 omega
theorem cG {n:Nat}:ag n=0↔n=0:=by
 constructor
 . intro h;exact na.1 (List.length_eq_zero_iff.1 h)
 . intro h;rw [h,ag,bx];rfl
section
variable {P:Program} {G:Nat->Option (List AV)}
theorem T3 {f ft:FuncId} (h:Has P f (qb ft)) (ht:iT P G ft) (m n:Nat) (hm:ag m<=1000000) (hn:ag n<=1000000):VP P G f [W m,W n] (W (m*n)):=by
 refine VP.has h ?_
 have z1:ag m=0->decide ((ag m:Int)=0)=true:=fun h=>aw (by omega)
 have z2 : ¬ ag m=0->decide ((ag m:Int)=0)=false:=fun h=>ar (by omega)
 have z3:ag n=0->decide ((ag n:Int)=0)=true:=fun h=>aw (by omega)
 have z4 : ¬ ag n=0->decide ((ag n:Int)=0)=false:=fun h=>ar (by omega)
 have Rg:m*n=0->∀ σ,View σ .nils (W (m*n)):=fun h σ => by rw [h];simp only [W,bx,us];exact View.nils 1
 have sr:∀ p:Id,jm p 1 4 (.int .u32 0) (.int .i64 ((ag m+ag n:Nat):Int)) (.int .i64 ((ag m+ag n:Nat):Int))=some { val := .osl p 1 0 (ag m+ag n) false,up:=[(p,some ⟨us (List.replicate (ag m+ag n) 0),1,false⟩)] }:=fun p=>nH (by omega)
 have hL:=oP (ag m) (ag n) (by omega)
 simp only [qb,SS,Nat.reduceAdd,bg]
 by_cases h0:ag m=0
 . simp only [SS,Nat.reduceAdd,z1 h0]
   refine ak▸⟨.nils,rfl,Rg (by rw [cG.1 h0];simp) _⟩
 by_cases h1:ag n=0
 . simp only [SS,Nat.reduceAdd,z2 h0,z3 h1,bg]
   refine ak▸⟨.nils,rfl,Rg (by rw [cG.1 h1];simp) _⟩
 simp only [SS,Nat.reduceAdd,z2 h0,z4 h1,bg,hL,sr,aK]
 refine VW.dQ (α := Nat × Nat × List Nat) (fun x=>⟨[W m,W n, .top, .top, .top, .osl [14] 1 0 (ag m+ag n) false]++List.replicate 19 .top++[W m, .int .i64 (ag m), .int .i64 x.1]++List.replicate 47 .top,
   af.put (fun _=>none) [14] (some ⟨us x.2.2,1,false⟩),x.2.1⟩)
   (fun x=>x.1<=ag m/\x.2.2.length=ag m+ag n/\Wd x.2.2/\val x.2.2=val ((digits m).take x.1)*n) (fun x=>ag m-x.1) (0,19,List.replicate (ag m+ag n) 0) ?_ ?_ ?_
 . exact Wk.slots (by simp [Fg,List.replicate]) (Nat.le_refl _)
 . exact ⟨Nat.zero_le _,List.length_replicate ..,GN _,by simp only [];rw [DU (fun w hw=>List.eq_of_mem_replicate hw)];simp [val]⟩
 rintro ⟨i,nn,o⟩ ⟨hi,ho,hwd,hv⟩
 simp only [] at hi ho hwd hv
 have qS:i<ag m->decide ((i:Int)<(ag m:Int))=true:=fun h=>aw (by omega)
 have xK : ¬ i<ag m->decide ((i:Int)<(ag m:Int))=false:=fun h=>ar (by omega)
 have dD : ¬ i<ag m->i=ag m:=by omega
 have sP:=aI i (by omega)
 have jq:i<ag m->i+1<=ag m/\ag m-(i+1)<ag m-i:=fun h=>by omega
 have p9:=oP i (ag n) (by omega)
 have ND:i<ag m->i+ag n<ag m+ag n:=fun h=>by omega
 simp only [SS]
 by_cases hlt:i<ag m
 . obtain ⟨a,ha⟩:∃ a,(digits m)[i]? = some a:=⟨_,List.getElem?_eq_getElem hlt⟩
   have xg:=aX m a (List.mem_of_getElem? ha)
   have f1:=bn a xg
   have Wz:o[i+ag n]? = some 0:=by
     obtain ⟨y,hy⟩:∃ y,o[i+ag n]? = some y:=⟨_,List.getElem?_eq_getElem (by rw [ho];exact ND hlt)⟩
     have e:=GO (k:=i+ag n) (by
       rw [hv,Nat.pow_add]
       have h2:val ((digits m).take i)<aE ^ i:=by
         have:=mA (sN (aX m) i)
         rwa [List.length_take,Nat.min_eq_left (show i<=(digits m).length from Nat.le_of_lt hlt)] at this
       exact Nat.mul_lt_mul'' h2 (cU n)) hy
     rw [e] at hy;exact hy
   simp only [SS,Nat.reduceAdd,qS hlt,de ha,bg,aH,bl,aK]
   refine VW.dQ (α := Nat × Nat × List Nat × Nat) (fun x=>⟨[W m,W n, .top, .top, .top, .osl [14] 1 0 (ag m+ag n) false, .int .i64 i, .int .u32 a, .int .u64 (x.2.2.2:Int)]++List.replicate 16 .top++[W m, .int .i64 (ag m), .int .i64 i]++List.replicate 4 .top++[W n, .int .i64 (ag n), .int .i64 x.1]++List.replicate 40 .top,
     af.put (fun _=>none) [14] (some ⟨us x.2.2.1,1,false⟩),x.2.1⟩)
     (fun x=>x.1<=ag n/\x.2.2.1.length=ag m+ag n/\Wd x.2.2.1/\x.2.2.2<aE/\x.2.2.1[i+ag n]? = some 0/\val x.2.2.1+aE ^ (i+x.1)*x.2.2.2=val o+aE ^ i*(a*val ((digits n).take x.1))) (fun x=>ag n-x.1) (0,nn+10,o,0) ?_ ?_ ?_
   . exact Wk.slots (by simp [Fg,List.replicate]) (by simp only [];omega)
   . exact ⟨Nat.zero_le _,ho,hwd,cV,Wz,by simp [val]⟩
   rintro ⟨j,mm,o',c⟩ ⟨hj,Rh,JV,hc,hz,hv'⟩
   simp only [] at hj Rh JV hc hz hv'
   have LL:j<ag n->decide ((j:Int)<(ag n:Int))=true:=fun h=>aw (by omega)
   have LM : ¬ j<ag n->decide ((j:Int)<(ag n:Int))=false:=fun h=>ar (by omega)
   have KA : ¬ j<ag n->j=ag n:=by omega
   have NF:=aI j (by omega)
   have Tz:j<ag n->j+1<=ag n/\ag n-(j+1)<ag n-j:=fun h=>by omega
   have QZ:=oP i j (by omega)
   have NG:j<ag n->i+j<ag m+ag n:=fun h=>by omega
   have hne:j<ag n->i+j≠i+ag n:=fun h=>by omega
   simp only [SS]
   by_cases C2:j<ag n
   . obtain ⟨b,hb⟩:∃ b,(digits n)[j]? = some b:=⟨_,List.getElem?_eq_getElem C2⟩
     have Hr:=aX n b (List.mem_of_getElem? hb)
     have f2:=bn b Hr
     obtain ⟨z,hzz⟩:∃ z,o'[i+j]? = some z:=⟨_,List.getElem?_eq_getElem (by rw [Rh];exact NG C2)⟩
     have Xo:=JV z (List.mem_of_getElem? hzz)
     have f3:=bn z Xo
     have f4:=PS a b xg Hr
     have hle:=NC xg Hr
     have f5:=p6 (a*b) z (by unfold aE at Xo;omega)
     have f6:=p6 c (a*b+z) (by unfold aE at Xo hc;omega)
     have hc':(c+(a*b+z))/aE<aE:=by unfold aE at Xo hc ⊢;omega
     have nX:=cN (q:=[14]) (t:=false) (NG C2)
     have hst:=IZ hzz hv' (rfl:c+(a*b+z)=c+(a*b+z))
     simp only [SS,Nat.reduceAdd,LL C2,de hb,aH,bl,f1,f2,f4,QZ,nX]
     rw [js (o:=o') (b:=false) (by simp [af.put]) hzz]
     simp only [SS,Nat.reduceAdd,f3,f5,f6,yf,QZ,nX]
     rw [bO (o:=o') (by simp [af.put]) (by rw [Rh];exact NG C2)]
     simp only [SS,Nat.reduceAdd,o8,NF]
     refine ⟨(j+1,_,o'.set (i+j) ((c+(a*b+z))%aE),(c+(a*b+z))/aE),⟨(Tz C2).1,by simp [Rh],JU JV (Nat.mod_lt _ cV),hc', ?_, ?_⟩,(Tz C2).2,Wk.forget (by simp [Fg]) (fun j => ?_) (Nat.le_refl _)⟩
     . rw [List.getElem?_set_ne (hne C2)];exact hz
     . show _=val o+aE ^ i*(a*val ((digits n).take (j+1)))
       rw [aM hb];exact hst
     . simp only [af.put];split<;>simp
   . have hjw:=KA C2
     have nX:=cN (q:=[14]) (t:=false) (ND hlt)
     have f7:IntKind.u32.wrap (c:Int)=(c:Int):=by rw [yf,Nat.mod_eq_of_lt hc]
     have hval:val (o'.set (i+ag n) c)=val ((digits m).take (i+1))*n:=by
       have e:=Fh (x:=c) hz
       have e2:(digits n).take (ag n)=digits n:=List.take_of_length_le (Nat.le_refl _)
       rw [hjw,e2,aU,hv] at hv'
       rw [aM ha,Nat.add_mul]
       have e3:aE ^ i*a*n=aE ^ i*(a*n):=Nat.mul_assoc _ _ _
       omega
     simp only [SS,Nat.reduceAdd,LM C2,bg,p9,f7,nX]
     rw [bO (o:=o') (by simp [af.put]) (by rw [Rh];exact ND hlt)]
     simp only [SS,Nat.reduceAdd,sP]
     refine ⟨(i+1,_,o'.set (i+ag n) c),⟨(jq hlt).1,by simp [Rh],JU JV hc,hval⟩,(jq hlt).2,Wk.forget (by simp [Fg]) (fun j => ?_) (Nat.le_refl _)⟩
     simp only [af.put];split<;>simp
 . have pP:=dD hlt
   have e1:(digits m).take (ag m)=digits m:=List.take_of_length_le (Nat.le_refl _)
   have AA:val o=m*n:=by rw [hv,pP,e1,aU]
   have zG:=ht o hwd (by rw [ho];omega)
   rw [AA] at zG
   simp only [SS,Nat.reduceAdd,xK hlt]
   refine bB [([14],⟨us o,1,false⟩)] zG (aF.cons (hH ho.symm) aF.nil) (by simp [af.put]) ?_
   simp only [SS,Nat.reduceAdd]
   exact ak▸ae rfl (ay _)
end
end Go.VL
end

section
set_option linter.unusedVariables false
namespace Go.VL
theorem NH {k:IntKind} {a b:Int}:bM .or .int (.int k a) (.int k b)=some (.int k (k.wrap (BitVec.ofInt k.bits a ||| BitVec.ofInt k.bits b).toNat)):=by
 simp only [bM];rw [show mO .or .int (.int k a) (.int k b)=some (.int k (k.wrap (BitVec.ofInt k.bits a ||| BitVec.ofInt k.bits b).toNat)) from by simp [mO,vz,bitsOf]]
theorem aaP (a b:Nat) (ha:a<18446744073709551616) (hb:b<18446744073709551616):bM .or .int (.int .u64 (a:Int)) (.int .u64 (b:Int))=some (.int .u64 ((a ||| b:Nat):Int)):=by
 have hx:a ||| b<2 ^ 64:=Nat.or_lt_two_pow (by omega) (by omega)
 have h1:(BitVec.ofInt 64 (a:Int)).toNat=a:=by
   rw [BitVec.ofInt_natCast,BitVec.toNat_ofNat];exact Nat.mod_eq_of_lt (by omega)
 have h2:(BitVec.ofInt 64 (b:Int)).toNat=b:=by
   rw [BitVec.ofInt_natCast,BitVec.toNat_ofNat];exact Nat.mod_eq_of_lt (by omega)
 rw [NH]
 show some (AV.int .u64 (IntKind.u64.wrap ((BitVec.ofInt 64 (a:Int) ||| BitVec.ofInt 64 (b:Int)).toNat:Int)))=_
 rw [BitVec.toNat_or,h1,h2,w64 _ (by omega)]
theorem aaQ (a b:Nat) (ha:a<aE) (hb:b<aE):bM .or .int (.int .u32 (a:Int)) (.int .u32 (b:Int))=some (.int .u32 ((a ||| b:Nat):Int)):=by
 unfold aE at ha hb
 have hx:a ||| b<2 ^ 32:=Nat.or_lt_two_pow (by omega) (by omega)
 have h1:(BitVec.ofInt 32 (a:Int)).toNat=a:=by
   rw [BitVec.ofInt_natCast,BitVec.toNat_ofNat];exact Nat.mod_eq_of_lt (by omega)
 have h2:(BitVec.ofInt 32 (b:Int)).toNat=b:=by
   rw [BitVec.ofInt_natCast,BitVec.toNat_ofNat];exact Nat.mod_eq_of_lt (by omega)
 rw [NH]
 show some (AV.int .u32 (IntKind.u32.wrap ((BitVec.ofInt 32 (a:Int) ||| BitVec.ofInt 32 (b:Int)).toNat:Int)))=_
 rw [BitVec.toNat_or,h1,h2,yf,Nat.mod_eq_of_lt (by unfold aE;omega)]
theorem I0 (a b:Nat) (ha:a<aE) (hb:b<aE):bM .or .int (.int .u64 ((aE*a:Nat):Int)) (.int .u64 (b:Int))=some (.int .u64 ((aE*a+b:Nat):Int)):=by
 rw [aaP _ _ (by unfold aE at *;omega) (by unfold aE at *;omega)]
 have:=Nat.two_pow_add_eq_or_of_lt (i:=32) (b:=b) (by unfold aE at hb;omega) a
 rw [show aE=2 ^ 32 from rfl,this]
theorem A2 (a:Nat) (ha:a<aE):bM .shl .int (.int .u64 (a:Int)) (.int .u64 32)=some (.int .u64 ((aE*a:Nat):Int)):=by
 rw [PI (by decide)]
 have:IntKind.u64.wrap ((a:Int)*2 ^ (min (32:Int).toNat IntKind.u64.bits))=((aE*a:Nat):Int):=by
   show IntKind.u64.wrap ((a:Int)*2 ^ 32)=_
   rw [IntKind.wrap_u64];unfold aE at *;omega
 rw [this]
theorem I1 (a b:Nat) (ha:a<18446744073709551616) (hb:b≠0):bM .quo .int (.int .u64 (a:Int)) (.int .u64 (b:Int))=some (.int .u64 ((a/b:Nat):Int)):=by
 rw [JI (by omega)]
 show some (AV.int .u64 (IntKind.u64.wrap ((a/b:Nat):Int)))=_
 rw [w64 _ (Nat.lt_of_le_of_lt (Nat.div_le_self _ _) ha)]
theorem I3 (a b:Nat) (hb:b≠0):bM .rem .int (.int .u64 (a:Int)) (.int .u64 (b:Int))=some (.int .u64 ((a%b:Nat):Int)):=by
 rw [PB (by omega)];rfl
def zs (k:Nat):List Nat:=List.replicate k 0
theorem xh:zs 0=[]:=rfl
theorem zi (q:List Nat) (j x:Nat):(zs (j+1)++q).set j x=zs j++x::q:=by
 unfold zs
 rw [List.replicate_succ',List.append_assoc,List.set_append_right _ _ (by simp)]
 simp
section
variable {P:Program} {G:Nat->Option (List AV)}
theorem HV {f ft fu:FuncId} (h:Has P f (lI ft fu)) (ht:iT P G ft) (hu:∀ n,n<18446744073709551616->VP P G fu [.int .u64 ((n:Nat):Int)] (W n)) (m w:Nat) (hm:ag m<=1000000) (hw:w<aE) (Nv:w≠0) :
   VP P G f [W m, .int .u32 (w:Int)] (.tup [W (m/w),W (m%w)]):=by
 refine VP.has h ?_
 have sr:∀ p:Id,jm p 1 4 (.int .u32 0) (.int .i64 (ag m:Int)) (.int .i64 (ag m:Int))=some { val := .osl p 1 0 (ag m) false,up:=[(p,some ⟨us (List.replicate (ag m) 0),1,false⟩)] }:=fun p=>nH (by omega)
 have hwL:IntKind.i64.wrap ((ag m:Int)-1)=(ag m:Int)-1:=by rw [IntKind.wrap_i64];omega
 have f0:=bn w hw
 have hwz:((w:Nat):Int)≠0:=by omega
 simp only [lI,SS,Nat.reduceAdd,bg,sr,hwL,aK]
 refine VW.dQ (α := Nat × Nat × List Nat × Nat) (fun x=>⟨[W m, .int .u32 (w:Int), .top, .top, .top, .top, .osl [4] 1 0 (ag m) false, .int .u64 (x.2.2.2:Int), .int .i64 ((x.1:Int)-1)]++List.replicate 34 .top,
   af.put (fun _=>none) [4] (some ⟨us (zs x.1++x.2.2.1),1,false⟩),x.2.1⟩)
   (fun x=>x.1+x.2.2.1.length=ag m/\Wd x.2.2.1/\x.2.2.2<w/\val ((digits m).drop x.1)=val x.2.2.1*w+x.2.2.2) (fun x=>x.1) (ag m,11,[],0) ?_ ?_ ?_
 . rw [List.append_nil];exact Wk.slots (by simp [Fg,List.replicate]) (Nat.le_refl _)
 . refine ⟨by simp,by intro w hw;simp at hw,Nat.pos_of_ne_zero Nv, ?_⟩
   show val ((digits m).drop (ag m))=_
   rw [List.drop_eq_nil_of_le (show (digits m).length<=ag m from Nat.le_refl _)];simp [val]
 rintro ⟨k,nn,q,r⟩ ⟨hk,hwd,hr,hv⟩
 simp only [] at hk hwd hr hv
 by_cases h0:k=0
 . subst h0
   have d0:decide ((0:Int)<=((0:Nat):Int)-1)=false:=by decide
   have e:m/w=val q/\m%w=r:=by
     rw [List.drop_zero,aU] at hv
     refine (Nat.div_mod_unique (Nat.pos_of_ne_zero Nv)).2 ⟨?_,hr⟩
     rw [hv,Nat.mul_comm w];omega
   have zG:=ht q hwd (by omega)
   rw [<- e.1] at zG
   have M9:=hu r (by unfold aE at hw;omega)
   have hq:ag m=q.length:=by omega
   simp only [SS,Nat.reduceAdd,d0,xh]
   refine bB [([4],⟨us q,1,false⟩)] zG (aF.cons (hH hq) aF.nil) (by simp [af.put]) ?_
   simp only [SS,Nat.reduceAdd]
   refine ah M9 (by simp [aa.int]) ?_
   simp only [SS,Nat.reduceAdd]
   rw [e.2]
   exact ak▸ae rfl (aa.tup (by intro c hc;simp at hc;rcases hc with rfl | rfl<;>exact ay _))
 . obtain ⟨j,rfl⟩:∃ j,k=j+1:=⟨k-1,by omega⟩
   have d0:decide ((0:Int)<=(j:Int))=true:=aw (by omega)
   have hj:((j+1:Nat):Int)-1=(j:Int):=by omega
   have yd:j<ag m:=by omega
   have NF:IntKind.i64.wrap ((j:Int)-1)=(j:Int)-1:=by rw [IntKind.wrap_i64];omega
   obtain ⟨a,ha⟩:∃ a,(digits m)[j]? = some a:=⟨_,List.getElem?_eq_getElem yd⟩
   have xg:=aX m a (List.mem_of_getElem? ha)
   have f1:=bn a xg
   have LN:r<aE:=by omega
   have f2:=A2 r LN
   have f3:=I0 r a LN xg
   have hlt:aE*r+a<18446744073709551616:=by unfold aE at *;omega
   have f4:=I1 (aE*r+a) w hlt Nv
   have f5:=I3 (aE*r+a) w Nv
   have T4:(aE*r+a)/w<aE:=by
     rw [Nat.div_lt_iff_lt_mul (Nat.pos_of_ne_zero Nv)]
     have:aE*(r+1)<=aE*w:=Nat.mul_le_mul_left _ hr
     rw [Nat.mul_add] at this
     omega
   have f6:IntKind.u32.wrap (((aE*r+a)/w:Nat):Int)=(((aE*r+a)/w:Nat):Int):=by rw [yf,Nat.mod_eq_of_lt T4]
   have nX:=cN (q:=[4]) (t:=false) yd
   have Ze:j<(zs (j+1)++q).length:=by simp [zs];omega
   have hv':val ((digits m).drop j)=val ((aE*r+a)/w::q)*w+(aE*r+a)%w:=by
     rw [List.drop_eq_getElem_cons (show j<(digits m).length from yd)]
     obtain ⟨_,h2⟩:=List.getElem?_eq_some_iff.1 ha
     rw [h2]
     simp only [val]
     rw [hv,Nat.add_mul,Nat.mul_add,Nat.mul_assoc aE]
     have:=Nat.div_add_mod (aE*r+a) w
     rw [Nat.mul_comm] at this
     omega
   have TY:j+((aE*r+a)/w::q).length=ag m:=by simp;omega
   simp only [SS,Nat.reduceAdd,d0,hj,de ha,aH,bl,f0,f1,f2,f3,f4,f6,nX]
   rw [bO (o:=zs (j+1)++q) (by simp [af.put]) Ze,zi]
   simp only [SS,Nat.reduceAdd,f0,f5,NF]
   refine ⟨(j,_,(aE*r+a)/w::q,(aE*r+a)%w),⟨TY, ?_,Nat.mod_lt _ (Nat.pos_of_ne_zero Nv),hv'⟩,Nat.lt_succ_self j,Wk.forget (by simp [Fg]) (fun j => ?_) (Nat.le_refl _)⟩
   . intro z hz
     rcases List.mem_cons.1 hz with rfl | hz
     . exact T4
     . exact hwd z hz
   . simp only [af.put];split<;>simp
end
end Go.VL
end

section
set_option linter.unusedVariables false
namespace Go.VL
def pad:Nat->Nat->List Nat
 | 0,_=>[]
 | k+1,n=>n%aE::pad k (n/aE)
theorem kA (k n:Nat):(pad k n).length=k:=by
 induction k generalizing n with
 | zero=>rfl
 | succ k ih=>simp [pad,ih]
theorem rR (k n:Nat):Wd (pad k n):=by
 induction k generalizing n with
 | zero=>intro w hw;simp [pad] at hw
 | succ k ih =>
   intro w hw
   rcases List.mem_cons.1 hw with rfl | hw
   . exact Nat.mod_lt _ cV
   . exact ih _ w hw
theorem A3 {o:List Nat} (h:Wd o):pad o.length (val o)=o:=by
 induction o with
 | nil=>rfl
 | cons w o ih =>
   have hw:=h w List.mem_cons_self
   simp only [List.length_cons,pad,val]
   rw [Nat.add_mul_mod_self_left,Nat.mod_eq_of_lt hw,Nat.add_mul_div_left _ _ cV,Nat.div_eq_of_lt hw,Nat.zero_add,ih fun z hz=>h z (List.mem_cons_of_mem _ hz)]
theorem fQ {k n:Nat} (h:n<aE ^ k):val (pad k n)=n:=by
 induction k generalizing n with
 | zero=>simp at h;simp [pad,val,h]
 | succ k ih =>
   simp only [pad,val]
   rw [ih (by rw [Nat.div_lt_iff_lt_mul cV];rwa [Nat.pow_succ] at h),Nat.mod_add_div]
theorem ZD (k:Nat):Wd (zs k):=GN k
theorem iU (k:Nat):zs (k+1)=0::zs k:=rfl
theorem xi (o:List Nat) (c:Nat) (t:List Nat) {i:Nat} (h:o.length=i):(o++c::t)[i]? = some c:=by subst h;simp
theorem fD (o:List Nat) (c:Nat) (t:List Nat) {i:Nat} (x:Nat) (h:o.length=i):(o++c::t).set i x=o++x::t:=by
 subst h;rw [List.set_append_right _ _ (Nat.le_refl _),Nat.sub_self,List.set_cons_zero]
theorem LO (o:List Nat) (c d:Nat) (t:List Nat) {i:Nat} (x:Nat) (h:o.length=i):(o++c::d::t).set (i+1) x=(o++[c])++x::t:=by
 have e:o++c::d::t=(o++[c])++d::t:=by simp
 rw [e];exact fD _ _ _ _ (by simp [h])
theorem uZ {s:Nat} (hs:s<=32):2 ^ (32-s)*2 ^ s=aE:=by
 rw [<- Nat.pow_add,Nat.sub_add_cancel hs];rfl
theorem LP {x c s:Nat} (hs:s<=32) (hc:c<2 ^ s) (hx:x<aE):c ||| ((x*2 ^ s)%aE)=c+(x*2 ^ s)%aE/\c+(x*2 ^ s)%aE<aE/\(x*2 ^ s)/aE<2 ^ s:=by
 have hB:=uZ hs
 have e:(x*2 ^ s)%aE=2 ^ s*(x%2 ^ (32-s)):=by rw [<- hB,Nat.mul_mod_mul_right,Nat.mul_comm]
 have hlt:x%2 ^ (32-s)<2 ^ (32-s):=Nat.mod_lt _ (Nat.two_pow_pos _)
 have h1:2 ^ s*(x%2 ^ (32-s)+1)<=2 ^ s*2 ^ (32-s):=Nat.mul_le_mul_left _ hlt
 rw [Nat.mul_add,Nat.mul_comm (2 ^ s) (2 ^ (32-s)),hB] at h1
 refine ⟨?_,by rw [e];omega, ?_⟩
 . rw [e,Nat.or_comm, <- Nat.two_pow_add_eq_or_of_lt hc,Nat.add_comm]
 . rw [Nat.div_lt_iff_lt_mul cV,Nat.mul_comm]
   exact Nat.mul_lt_mul_of_pos_left hx (Nat.two_pow_pos _)
theorem T5 (x s:Nat) (hs:s<=32) (hx:x<aE):bM .shl .int (.int .u64 (x:Int)) (.int .i64 (s:Int))=some (.int .u64 ((x*2 ^ s:Nat):Int)):=by
 rw [PI (by omega)]
 have h1:x*2 ^ s<18446744073709551616:=by
   have h2:2 ^ s<=2 ^ 32:=Nat.pow_le_pow_right (by decide) hs
   have h3:x*2 ^ s<=x*2 ^ 32:=Nat.mul_le_mul_left _ h2
   unfold aE at hx;omega
 have h2:min (s:Int).toNat IntKind.u64.bits=s:=by
   show min (s:Int).toNat 64=s
   rw [Int.toNat_natCast];omega
 have h3:(x:Int)*2 ^ s=((x*2 ^ s:Nat):Int):=by rw [Int.natCast_mul,Int.natCast_pow];rfl
 rw [h2,h3,w64 _ h1]
section
variable {P:Program} {G:Nat->Option (List AV)}
theorem Cm {f:FuncId} (h:Has P f jr) (m s:Nat) (hm:ag m<=1000000) (hs:s<=31) (p:Id) :
   aW P G f [W m, .int .i64 (s:Int)] p [] { val := .osl (4::p) 1 0 (ag m+1) false,rd:=[],up:=[(4::p,some ⟨us (pad (ag m+1) (m*2 ^ s)),1,false⟩)] }:=by
 refine aW.has h ?_
 have hL:=aI (ag m) (by omega)
 have sr:∀ p:Id,jm p 1 4 (.int .u32 0) (.int .i64 ((ag m+1:Nat):Int)) (.int .i64 ((ag m+1:Nat):Int))=some { val := .osl p 1 0 (ag m+1) false,up:=[(p,some ⟨us (List.replicate (ag m+1) 0),1,false⟩)] }:=fun p=>nH (by omega)
 have hz:us (List.replicate (ag m+1) 0)=us (0::zs (ag m)):=rfl
 simp only [jr,SS,Nat.reduceAdd,bg,hL,sr,aK]
 refine VW.dQ (α := Nat × Nat × List Nat × Nat) (fun x=>⟨[W m, .int .i64 (s:Int), .top, .top, .top, .osl (4::p) 1 0 (ag m+1) false]++List.replicate 7 .top++[W m, .int .i64 (ag m), .int .i64 x.1]++List.replicate 25 .top,
   af.put (af.of []) (4::p) (some ⟨us (x.2.2.1++x.2.2.2::zs (ag m-x.1)),1,false⟩),x.2.1⟩)
   (fun x=>x.1<=ag m/\x.2.2.1.length=x.1/\Wd x.2.2.1/\x.2.2.2<2 ^ s/\val x.2.2.1+aE ^ x.1*x.2.2.2=val ((digits m).take x.1)*2 ^ s) (fun x=>ag m-x.1) (0,9,[],0) ?_ ?_ ?_
 . exact Wk.slots (by simp [Fg,List.replicate]) (Nat.le_refl _)
 . exact ⟨Nat.zero_le _,rfl,by intro w hw;simp at hw,Nat.two_pow_pos _,by simp [val]⟩
 rintro ⟨i,nn,o,c⟩ ⟨hi,ho,hwd,hc,hv⟩
 simp only [] at hi ho hwd hc hv
 have qS:i<ag m->decide ((i:Int)<(ag m:Int))=true:=fun h=>aw (by omega)
 have xK : ¬ i<ag m->decide ((i:Int)<(ag m:Int))=false:=fun h=>ar (by omega)
 have dD : ¬ i<ag m->i=ag m:=by omega
 have sP:=aI i (by omega)
 have jq:i<ag m->i+1<=ag m/\ag m-(i+1)<ag m-i:=fun h=>by omega
 have hcB:c<aE:=by
   have h2:2 ^ s<=2 ^ 32:=Nat.pow_le_pow_right (by decide) (by omega)
   unfold aE;omega
 simp only [SS]
 by_cases hlt:i<ag m
 . obtain ⟨x,hx⟩:∃ x,(digits m)[i]? = some x:=⟨_,List.getElem?_eq_getElem hlt⟩
   have rX:=aX m x (List.mem_of_getElem? hx)
   have f1:=bn x rX
   have f2:=T5 x s (by omega) rX
   obtain ⟨g1,g2,g3⟩:=LP (s:=s) (by omega) hc rX
   have f3:=aaQ c (x*2 ^ s%aE) hcB (Nat.mod_lt _ cV)
   rw [g1] at f3
   have g4:x*2 ^ s/aE<aE:=by
     have h2:2 ^ s<=2 ^ 32:=Nat.pow_le_pow_right (by decide) (by omega)
     have:(2:Nat) ^ 32=aE:=rfl
     omega
   have f4:IntKind.u32.wrap ((x*2 ^ s/aE:Nat):Int)=((x*2 ^ s/aE:Nat):Int):=by rw [yf,Nat.mod_eq_of_lt g4]
   have nX:=cN (q:=4::p) (t:=false) (show i<ag m+1 by omega)
   have aaR:=cN (q:=4::p) (t:=false) (show i+1<ag m+1 by omega)
   obtain ⟨k,hk⟩:∃ k,ag m-i=k+1:=⟨ag m-i-1,by omega⟩
   have D6:ag m-(i+1)=k:=by omega
   have zB:i<(o++c::0::zs k).length:=by simp;omega
   have QG:i+1<(o++(c+x*2 ^ s%aE)::0::zs k).length:=by simp;omega
   have hv':val (o++[c+x*2 ^ s%aE])+aE ^ (i+1)*(x*2 ^ s/aE)=val ((digits m).take (i+1))*2 ^ s:=by
     rw [aM hx,cm,ho,Nat.add_mul, <- hv]
     simp only [val,Nat.mul_zero,Nat.add_zero,Nat.pow_succ]
     have e2:aE ^ i*(x*2 ^ s%aE)+aE ^ i*(aE*(x*2 ^ s/aE))=aE ^ i*(x*2 ^ s):=by rw [<- Nat.mul_add,Nat.mod_add_div]
     rw [Nat.mul_assoc,Nat.mul_assoc,Nat.mul_add]
     omega
   simp only [SS,Nat.reduceAdd,qS hlt,de hx,aH,bl,f1,f2,nX,hk,iU]
   rw [js (o:=o++c::0::zs k) (b:=false) (by simp [af.put]) (xi _ _ _ ho)]
   simp only [SS,Nat.reduceAdd,yf,f3,nX]
   rw [bO (o:=o++c::0::zs k) (by simp [af.put]) zB,fD _ _ _ _ ho]
   simp only [SS,Nat.reduceAdd,sP,o8,f4,aaR]
   rw [bO (o:=o++(c+x*2 ^ s%aE)::0::zs k) (by simp [af.put]) QG,LO _ _ _ _ _ ho]
   simp only [SS,Nat.reduceAdd,sP]
   refine ⟨(i+1,_,o++[c+x*2 ^ s%aE],x*2 ^ s/aE),⟨(jq hlt).1,by simp [ho],cM hwd (by intro z hz;simp at hz;subst hz;exact g2),g3,hv'⟩,(jq hlt).2,Wk.forget (by simp [Fg]) (fun j => ?_) (Nat.le_refl _)⟩
   simp only [af.put,D6];split<;>simp
 . have pP:=dD hlt
   have e1:(digits m).take (ag m)=digits m:=List.take_of_length_le (Nat.le_refl _)
   have AA:val (o++[c])=m*2 ^ s:=by
     rw [cm,ho];simp only [val,Nat.mul_zero,Nat.add_zero]
     rw [hv,pP,e1,aU]
   have hlen:(o++[c]).length=ag m+1:=by simp [ho,pP]
   have e:pad (ag m+1) (m*2 ^ s)=o++[c]:=by
     rw [<- AA, <- hlen]
     exact A3 (cM hwd (by intro z hz;simp at hz;subst hz;exact hcB))
   have e3:zs (ag m-i)=[]:=by rw [pP,Nat.sub_self];rfl
   simp only [SS,Nat.reduceAdd,xK hlt,e,e3]
   exact dX▸bF rfl fun i => .inr rfl
end
end Go.VL
end

section
set_option linter.unusedVariables false
namespace Go.VL
theorem Cn {x y s:Nat} (hs:s<=32) (hx:x<aE):(x/2 ^ s) ||| ((y*2 ^ (32-s))%aE)=x/2 ^ s+2 ^ (32-s)*(y%2 ^ s)/\x/2 ^ s+2 ^ (32-s)*(y%2 ^ s)<aE/\2 ^ s*(x/2 ^ s+2 ^ (32-s)*(y%2 ^ s))+x%2 ^ s=x+aE*(y%2 ^ s):=by
 have hB:=uZ hs
 have e:(y*2 ^ (32-s))%aE=2 ^ (32-s)*(y%2 ^ s):=by rw [<- hB,Nat.mul_comm y,Nat.mul_mod_mul_left]
 have hlt:y%2 ^ s<2 ^ s:=Nat.mod_lt _ (Nat.two_pow_pos _)
 have hd:x/2 ^ s<2 ^ (32-s):=by rw [Nat.div_lt_iff_lt_mul (Nat.two_pow_pos _),hB];exact hx
 have h1:2 ^ (32-s)*(y%2 ^ s+1)<=2 ^ (32-s)*2 ^ s:=Nat.mul_le_mul_left _ hlt
 rw [Nat.mul_add,hB] at h1
 refine ⟨?_,by omega, ?_⟩
 . rw [e,Nat.or_comm, <- Nat.two_pow_add_eq_or_of_lt hd,Nat.add_comm]
 . have h2:=Nat.div_add_mod x (2 ^ s)
   have h3:2 ^ s*(2 ^ (32-s)*(y%2 ^ s))=aE*(y%2 ^ s):=by rw [<- Nat.mul_assoc,Nat.mul_comm (2 ^ s),hB]
   rw [Nat.mul_add,h3];omega
theorem aaS (x s:Nat) (hs:s<=32):bM .shr .int (.int .u32 (x:Int)) (.int .i64 (s:Int))=some (.int .u32 ((x/2 ^ s:Nat):Int)):=by
 rw [sE (by omega)]
 have h2:min (s:Int).toNat IntKind.u32.bits=s:=by
   show min (s:Int).toNat 32=s
   rw [Int.toNat_natCast];omega
 have h3:(x:Int).fdiv (2 ^ s)=((x/2 ^ s:Nat):Int):=by
   have h4:(2:Int) ^ s=((2 ^ s:Nat):Int):=by rw [Int.natCast_pow];rfl
   rw [h4,Int.fdiv_eq_ediv_of_nonneg _ (Int.natCast_nonneg _)]
   exact (Int.natCast_ediv _ _).symm
 rw [h2,h3]
theorem zj (m:Nat):((digits m)[0]?).getD 0=m%aE:=by
 by_cases h:m=0
 . rw [h,bx];rfl
 . rw [iy h];rfl
section
variable {P:Program} {G:Nat->Option (List AV)}
theorem Au {f:FuncId} (h:Has P f fZ) (m s:Nat) (hm:ag m<=1000000) (hs:s<=31) :
   VP P G f [W m, .int .i64 (s:Int)] (.sl 1 (us (pad (ag m) (m/2 ^ s)))):=by
 refine VP.has h ?_
 have sr:∀ p:Id,jm p 1 4 (.int .u32 0) (.int .i64 (ag m:Int)) (.int .i64 (ag m:Int))=some { val := .osl p 1 0 (ag m) false,up:=[(p,some ⟨us (List.replicate (ag m) 0),1,false⟩)] }:=fun p=>nH (by omega)
 have hz:us (List.replicate (ag m) 0)=us ([]++zs (ag m-0)):=rfl
 have ag2:IntKind.i64.wrap (32-(s:Int))=((32-s:Nat):Int):=by rw [IntKind.wrap_i64];omega
 have h2s:2 ^ s*2 ^ (32-s)=aE:=by rw [Nat.mul_comm];exact uZ (by omega)
 simp only [fZ,SS,Nat.reduceAdd,bg,sr,hz,aK]
 refine VW.dQ (α := Nat × Nat × List Nat) (fun x=>⟨[W m, .int .i64 (s:Int), .top, .top, .top, .osl [3] 1 0 (ag m) false]++List.replicate 5 .top++[W m, .int .i64 (ag m), .int .i64 x.1]++List.replicate 33 .top,
   af.put (fun _=>none) [3] (some ⟨us (x.2.2++zs (ag m-x.1)),1,false⟩),x.2.1⟩)
   (fun x=>x.1<=ag m/\x.2.2.length=x.1/\Wd x.2.2/\2 ^ s*val x.2.2+m%2 ^ s=val ((digits m).take x.1)+aE ^ x.1*(((digits m)[x.1]?).getD 0%2 ^ s)) (fun x=>ag m-x.1) (0,8,[]) ?_ ?_ ?_
 . exact Wk.slots (by simp [Fg,List.replicate]) (Nat.le_refl _)
 . refine ⟨Nat.zero_le _,rfl,by intro w hw;simp at hw, ?_⟩
   show 2 ^ s*val []+m%2 ^ s=val ((digits m).take 0)+aE ^ 0*(((digits m)[0]?).getD 0%2 ^ s)
   rw [zj, <- h2s,Nat.mod_mul_right_mod]
   simp [val]
 rintro ⟨i,nn,o⟩ ⟨hi,ho,hwd,hv⟩
 simp only [] at hi ho hwd hv
 have qS:i<ag m->decide ((i:Int)<(ag m:Int))=true:=fun h=>aw (by omega)
 have xK : ¬ i<ag m->decide ((i:Int)<(ag m:Int))=false:=fun h=>ar (by omega)
 have LL:i+1<ag m->decide (((i+1:Nat):Int)<(ag m:Int))=true:=fun h=>aw (by omega)
 have LM : ¬ i+1<ag m->decide (((i+1:Nat):Int)<(ag m:Int))=false:=fun h=>ar (by omega)
 have dD : ¬ i<ag m->i=ag m:=by omega
 have aaT:i<ag m -> ¬ i+1<ag m->i+1=ag m:=by omega
 have sP:=aI i (by omega)
 have jq:i<ag m->i+1<=ag m/\ag m-(i+1)<ag m-i:=fun h=>by omega
 simp only [SS]
 by_cases hlt:i<ag m
 . obtain ⟨x,hx⟩:∃ x,(digits m)[i]? = some x:=⟨_,List.getElem?_eq_getElem hlt⟩
   have rX:=aX m x (List.mem_of_getElem? hx)
   have f2:=aaS x s (by omega)
   have nX:=cN (q:=[3]) (t:=false) hlt
   obtain ⟨k,hk⟩:∃ k,ag m-i=k+1:=⟨ag m-i-1,by omega⟩
   have D6:ag m-(i+1)=k:=by omega
   have zB:i<(o++0::zs k).length:=by simp;omega
   have QG:i<(o++(x/2 ^ s)::zs k).length:=by simp;omega
   have hstep:∀ y w,w=x/2 ^ s+2 ^ (32-s)*(y%2 ^ s)->2 ^ s*w+x%2 ^ s=x+aE*(y%2 ^ s)->((digits m)[i+1]?).getD 0=y ->
       2 ^ s*val (o++[w])+m%2 ^ s=val ((digits m).take (i+1))+aE ^ (i+1)*(((digits m)[i+1]?).getD 0%2 ^ s):=by
     intro y w _ hw hy
     rw [hx,Option.getD_some] at hv
     rw [aM hx,cm,ho,hy]
     simp only [val,Nat.mul_zero,Nat.add_zero,Nat.pow_succ]
     have e1:aE ^ i*(2 ^ s*w)+aE ^ i*(x%2 ^ s)=aE ^ i*x+aE ^ i*(aE*(y%2 ^ s)):=by rw [<- Nat.mul_add,hw,Nat.mul_add]
     have e2:2 ^ s*(val o+aE ^ i*w)=2 ^ s*val o+aE ^ i*(2 ^ s*w):=by rw [Nat.mul_add,Nat.mul_left_comm]
     rw [e2,Nat.mul_assoc]
     omega
   by_cases hn:i+1<ag m
   . obtain ⟨y,hy⟩:∃ y,(digits m)[i+1]? = some y:=⟨_,List.getElem?_eq_getElem hn⟩
     have DY:=aX m y (List.mem_of_getElem? hy)
     have f1:=bn y DY
     have f3:=T5 y (32-s) (by omega) DY
     obtain ⟨g1,g2,g3⟩:=Cn (y:=y) (s:=s) (by omega) rX
     have f4:=aaQ (x/2 ^ s) (y*2 ^ (32-s)%aE) (Nat.lt_of_le_of_lt (Nat.div_le_self _ _) rX) (Nat.mod_lt _ cV)
     rw [g1] at f4
     have hv':=hstep y _ rfl g3 (by rw [hy];rfl)
     simp only [SS,Nat.reduceAdd,qS hlt,de hx,aH,bl,f2,nX,hk,iU]
     rw [bO (o:=o++0::zs k) (by simp [af.put]) zB,fD _ _ _ _ ho]
     simp only [SS,DD,Nat.reduceAdd,sP,bg,LL hn,nX]
     rw [js (o:=o++(x/2 ^ s)::zs k) (b:=false) (by simp [af.put]) (xi _ _ _ ho)]
     simp only [SS,DD,Nat.reduceAdd,sP,de hy,aH,bl,f1,ag2,f3,yf,f4,nX]
     rw [bO (o:=o++(x/2 ^ s)::zs k) (by simp [af.put]) QG,fD _ _ _ _ ho]
     simp only [SS,DD,Nat.reduceAdd,sP]
     refine ⟨by simp [ab], ?_⟩
     refine ⟨(i+1,_,o++[x/2 ^ s+2 ^ (32-s)*(y%2 ^ s)]),⟨(jq hlt).1,by simp [ho],cM hwd (by intro z hz;simp at hz;subst hz;exact g2),hv'⟩,(jq hlt).2,Wk.forget (by simp [Fg]) (fun j => ?_) (Nat.le_refl _)⟩
     simp only [af.put,D6];split<;>simp
   . have BC:(digits m)[i+1]? = none:=List.getElem?_eq_none (by have:=aaT hlt hn;show ag m<=i+1;omega)
     obtain ⟨g1,g2,g3⟩:=Cn (y:=0) (s:=s) (by omega) rX
     have e0:x/2 ^ s+2 ^ (32-s)*(0%2 ^ s)=x/2 ^ s:=by simp
     rw [e0] at g2 g3
     have hv':=hstep 0 (x/2 ^ s) e0.symm g3 (by rw [BC];rfl)
     simp only [SS,Nat.reduceAdd,qS hlt,de hx,aH,bl,f2,nX,hk,iU]
     rw [bO (o:=o++0::zs k) (by simp [af.put]) zB,fD _ _ _ _ ho]
     simp only [SS,Nat.reduceAdd,sP,bg,LM hn]
     refine ⟨(i+1,_,o++[x/2 ^ s]),⟨(jq hlt).1,by simp [ho],cM hwd (by intro z hz;simp at hz;subst hz;exact g2),hv'⟩,(jq hlt).2,Wk.forget (by simp [Fg]) (fun j => ?_) (Nat.le_refl _)⟩
     simp only [af.put,D6];split<;>simp
 . have pP:=dD hlt
   have e1:(digits m).take (ag m)=digits m:=List.take_of_length_le (Nat.le_refl _)
   have BC:(digits m)[ag m]? = none:=List.getElem?_eq_none (Nat.le_refl _)
   have AA:val o=m/2 ^ s:=by
     rw [pP,e1,aU,BC] at hv
     have h1:=Nat.div_add_mod m (2 ^ s)
     have h2:2 ^ s*val o=2 ^ s*(m/2 ^ s):=by
       simp at hv;omega
     exact Nat.eq_of_mul_eq_mul_left (Nat.two_pow_pos _) h2
   have hlen:o.length=ag m:=by rw [ho,pP]
   have e:pad (ag m) (m/2 ^ s)=o:=by rw [<- AA, <- hlen];exact A3 hwd
   have e3:zs (ag m-i)=[]:=by rw [pP,Nat.sub_self];rfl
   simp only [SS,Nat.reduceAdd,xK hlt,e,e3]
   exact ak▸GM (b:=false) rfl (by simp [af.put]) hlen.symm
end
end Go.VL
end

section
set_option linter.unusedVariables false
namespace Go.VL
theorem Fi (k n c:Nat):pad k (n+aE ^ k*c)=pad k n:=by
 induction k generalizing n with
 | zero=>rfl
 | succ k ih =>
   have e:aE ^ (k+1)*c=aE*(aE ^ k*c):=by rw [Nat.pow_succ,Nat.mul_comm (aE ^ k),Nat.mul_assoc]
   simp only [pad]
   rw [e,Nat.add_mul_mod_self_left,Nat.add_mul_div_left _ _ cV,ih]
theorem pH {q:Id} {off len i:Nat} {t:Bool} (h:i<len):cn 1 (.osl q 1 off len t) (.int .i64 (i:Int))=some (.ref q (off+i) 0):=by
 simp only [cn]
 rw [if_pos ⟨trivial,by omega,by omega⟩]
 simp
theorem I4 {x k:Nat} (hx:x<aE) (hk:k<=aE):∃ w c':Nat,w<aE/\c'<=1/\w+k=x+aE*c'/\IntKind.u32.wrap (IntKind.u64.wrap ((x:Int)-(k:Int)))=(w:Int) /\
   bM .shr .int (.int .u64 (IntKind.u64.wrap ((x:Int)-(k:Int)))) (.int .u64 63)=some (.int .u64 (c':Int)):=by
 have KE:∀ a:Int,bM .shr .int (.int .u64 a) (.int .u64 63)=some (.int .u64 (a/9223372036854775808)):=fun a=>by
   rw [sE (by decide)]
   show some (AV.int .u64 (a.fdiv (2 ^ 63)))=_
   rw [Int.fdiv_eq_ediv_of_nonneg _ (by decide)];rfl
 rw [KE]
 unfold aE at *
 by_cases h:k<=x
 . refine ⟨x-k,0,by omega,by omega,by omega, ?_, ?_⟩
   . rw [IntKind.wrap_u32,IntKind.wrap_u64];omega
   . rw [IntKind.wrap_u64];congr 2;omega
 . refine ⟨x+4294967296-k,1,by omega,by omega,by omega, ?_, ?_⟩
   . rw [IntKind.wrap_u32,IntKind.wrap_u64];omega
   . rw [IntKind.wrap_u64];congr 2;omega
theorem Co {b:List Nat} {k:Nat} (h:b.length=k):val (b.take k)=val b:=by rw [List.take_of_length_le (Nat.le_of_eq h)]
theorem I5 {i j:Id} {b c:da} {d:Option da}:(af.of [(i,b)]).put i d j=(af.of [(i,c)]).put i d j:=by
 by_cases h:j=i
 . subst h;rw [af.dA,af.dA]
 . rw [af.cB _ _ _ h,af.cB _ _ _ h]
   have:(j==i)=false:=by simpa using h
   simp [af.of,List.lookup,this]
section
variable {P:Program} {G:Nat->Option (List AV)}
theorem LQ {f:FuncId} (h:Has P f j0) {id:Id} {a b t:List Nat} {v q:Nat} {tight:Bool} (hv:ag v<=1000000) (hb:b.length=ag v+1) (SP:Wd b) (hq:q<aE) (p:Id) :
   aW P G f [.osl id 1 a.length (ag v+1) tight,W v, .int .u64 (q:Int)] p [(id,⟨us (a++b++t),1,false⟩)]
     { val := .bool (decide (val b<q*v)),rd:=[id],up:=[(id,some ⟨us (a++pad (ag v+1) (val b+aE ^ (ag v+1)-q*v)++t),1,false⟩)] }:=by
 refine aW.has h ?_
 simp only [j0,SS,Nat.reduceAdd,bg,aK]
 refine VW.dQ (α := Nat × Nat × List Nat × Nat) (fun x=>⟨[.osl id 1 a.length (ag v+1) tight,W v, .int .u64 (q:Int), .top, .top, .top, .top, .int .u64 (x.2.2.2:Int)]++List.replicate 5 .top++[W v, .int .i64 (ag v), .int .i64 x.1]++List.replicate 47 .top,
   af.of [(id,⟨us ((a++x.2.2.1)++(b.drop x.1++t)),1,false⟩)],x.2.1⟩)
   (fun x=>x.1<=ag v/\x.2.2.1.length=x.1/\Wd x.2.2.1/\x.2.2.2<=aE/\val x.2.2.1+val ((digits v).take x.1)*q=val (b.take x.1)+aE ^ x.1*x.2.2.2) (fun x=>ag v-x.1) (0,5,[],0) ?_ ?_ ?_
 . exact Wk.forget (by simp [Fg,List.replicate]) (fun j=>by simp) (Nat.le_refl _)
 . exact ⟨Nat.zero_le _,rfl,by intro w hw;simp at hw,Nat.zero_le _,by simp [val]⟩
 rintro ⟨i,nn,o,k⟩ ⟨hi,ho,hwd,hk,hv'⟩
 simp only [] at hi ho hwd hk hv'
 have qS:i<ag v->decide ((i:Int)<(ag v:Int))=true:=fun h=>aw (by omega)
 have xK : ¬ i<ag v->decide ((i:Int)<(ag v:Int))=false:=fun h=>ar (by omega)
 have dD : ¬ i<ag v->i=ag v:=by omega
 have sP:=aI i (by omega)
 have jq:i<ag v->i+1<=ag v/\ag v-(i+1)<ag v-i:=fun h=>by omega
 have hib:i<b.length:=by omega
 have nX:=pH (q:=id) (off:=a.length) (t:=tight) (show i<ag v+1 by omega)
 obtain ⟨x,hx⟩:∃ x,b[i]? = some x:=⟨_,List.getElem?_eq_getElem hib⟩
 have rX:=SP x (List.mem_of_getElem? hx)
 have hdr:b.drop i=x::b.drop (i+1):=by
   obtain ⟨_,h2⟩:=List.getElem?_eq_some_iff.1 hx
   rw [List.drop_eq_getElem_cons hib,h2]
 have f1:=bn x rX
 have T6:(a++o).length=a.length+i:=by rw [List.length_append,ho]
 have zB:a.length+i<((a++o)++x::(b.drop (i+1)++t)).length:=by rw [List.length_append,T6];simp
 simp only [SS]
 by_cases hlt:i<ag v
 . obtain ⟨y,hy⟩:∃ y,(digits v)[i]? = some y:=⟨_,List.getElem?_eq_getElem hlt⟩
   have DY:=aX v y (List.mem_of_getElem? hy)
   have f2:=bn y DY
   have f3:=PS y q DY hq
   have hle:=NC DY hq
   have f4:=p6 (y*q) k (by unfold aE at hk;omega)
   have f5:IntKind.u64.wrap (((y*q+k)%aE:Nat):Int)=(((y*q+k)%aE:Nat):Int):=bn _ (Nat.mod_lt _ cV)
   obtain ⟨w,c',h1,h2,h3,h4,h5⟩:=I4 (k:=(y*q+k)%aE) rX (Nat.le_of_lt (Nat.mod_lt _ cV))
   have hdq:(y*q+k)/aE+1<=aE:=by unfold aE at hk ⊢;omega
   have f6:=p6 ((y*q+k)/aE) c' (by unfold aE at hdq ⊢;omega)
   have hk':(y*q+k)/aE+c'<=aE:=by omega
   have hst:w+y*q+k=x+aE*((y*q+k)/aE+c'):=by
     have:=Nat.mod_add_div (y*q+k) aE
     rw [Nat.mul_add];omega
   have T7:=nQ (va:=val (b.take i)) (vb:=val ((digits v).take i)*q) ho (by rw [hv'];omega) hst
   simp only [SS,Nat.reduceAdd,qS hlt,de hy,aH,bl,f2,f3,f4,nX,hdr]
   rw [js (o:=(a++o)++x::(b.drop (i+1)++t)) (b:=false) (by simp [af.of]) (xi _ _ _ T6)]
   simp only [SS,Nat.reduceAdd,f1,yf,f5,h4,nX]
   rw [bO (o:=(a++o)++x::(b.drop (i+1)++t)) (by simp [af.of]) zB,fD _ _ _ _ T6]
   simp only [SS,Nat.reduceAdd,o8,h5,f6,sP]
   refine ⟨(i+1,_,o++[w],(y*q+k)/aE+c'),⟨(jq hlt).1,by simp [ho],cM hwd (by intro z hz;simp at hz;subst hz;exact h1),hk', ?_⟩,(jq hlt).2,Wk.forget (by simp [Fg]) (fun j => ?_) (Nat.le_refl _)⟩
   . show val (o++[w])+val ((digits v).take (i+1))*q=_
     rw [aM hx,aM hy,Nat.add_mul,Nat.mul_assoc];exact T7
   . simp only [af.put,af.of];split<;>simp_all
 . have pP:=dD hlt
   subst pP
   obtain ⟨w,c',h1,h2,h3,h4,h5⟩:=I4 (k:=k) rX hk
   have Fe:b.drop (ag v+1)=[]:=List.drop_eq_nil_of_le (by omega)
   have e1:(digits v).take (ag v)=digits v:=List.take_of_length_le (Nat.le_refl _)
   have e2:val (b.take (ag v+1))=val b:=Co hb
   have T7:=nQ (va:=val (b.take (ag v))) (vb:=val ((digits v).take (ag v))*q) (y:=0) (c:=k) (w:=w) (c':=c') (x:=x) ho (by rw [hv'];omega) (by omega)
   rw [e1,aU, <- aM hx,e2,Nat.mul_zero,Nat.add_zero,Nat.mul_comm v q] at T7
   have Xp:Wd (o++[w]):=cM hwd (by intro z hz;simp at hz;subst hz;exact h1)
   have yi:(o++[w]).length=ag v+1:=by simp [ho]
   have ym:val (o++[w])<aE ^ (ag v+1):=by have:=mA Xp;rwa [yi] at this
   have e:pad (ag v+1) (val b+aE ^ (ag v+1)-q*v)=o++[w]/\decide ((c':Int)=1)=decide (val b<q*v):=by
     rcases Nat.le_one_iff_eq_zero_or_eq_one.1 h2 with h0 | h0
     . rw [h0] at T7 ⊢
       refine ⟨?_, ?_⟩
       . have:val b+aE ^ (ag v+1)-q*v=val (o++[w])+aE ^ (ag v+1)*1:=by omega
         rw [this,Fi, <- yi];exact A3 Xp
       . rw [ar (show ¬ val b<q*v by omega)];rfl
     . rw [h0] at T7 ⊢
       refine ⟨?_, ?_⟩
       . have:val b+aE ^ (ag v+1)-q*v=val (o++[w]):=by omega
         rw [this, <- yi];exact A3 Xp
       . rw [aw (show val b<q*v by omega)];rfl
   simp only [SS,Nat.reduceAdd,xK hlt,bg,nX,hdr]
   rw [js (o:=(a++o)++x::(b.drop (ag v+1)++t)) (b:=false) (by simp [af.of]) (xi _ _ _ T6)]
   simp only [SS,Nat.reduceAdd,f1,h4,nX,bg]
   rw [bO (o:=(a++o)++x::(b.drop (ag v+1)++t)) (by simp [af.of]) zB,fD _ _ _ _ T6,Fe]
   simp only [SS,Nat.reduceAdd,h5,e.2,e.1]
   have e5:a++(o++[w])++t=a++o++w::t:=by simp
   refine dX▸bF rfl fun i => .inr ?_
   simp only [af.app,e5];exact I5
end
end Go.VL
end

section
set_option linter.unusedVariables false
namespace Go.VL
section
variable {P:Program} {G:Nat->Option (List AV)}
theorem NI {f:FuncId} (h:Has P f lz) {id:Id} {a b t:List Nat} {v:Nat} {tight:Bool} (hv:ag v<=1000000) (hb:b.length=ag v+1) (SP:Wd b) (p:Id) :
   aW P G f [.osl id 1 a.length (ag v+1) tight,W v] p [(id,⟨us (a++b++t),1,false⟩)]
     { val := .tup [],rd:=[id],up:=[(id,some ⟨us (a++pad (ag v+1) (val b+v)++t),1,false⟩)] }:=by
 refine aW.has h ?_
 simp only [lz,SS,Nat.reduceAdd,bg,aK]
 refine VW.dQ (α := Nat × Nat × List Nat × Nat) (fun x=>⟨[.osl id 1 a.length (ag v+1) tight,W v, .top, .top, .int .u64 (x.2.2.2:Int)]++List.replicate 2 .top++[W v, .int .i64 (ag v), .int .i64 x.1]++List.replicate 31 .top,
   af.of [(id,⟨us ((a++x.2.2.1)++(b.drop x.1++t)),1,false⟩)],x.2.1⟩)
   (fun x=>x.1<=ag v/\x.2.2.1.length=x.1/\Wd x.2.2.1/\x.2.2.2<=1/\val x.2.2.1+aE ^ x.1*x.2.2.2=val (b.take x.1)+val ((digits v).take x.1)) (fun x=>ag v-x.1) (0,4,[],0) ?_ ?_ ?_
 . exact Wk.forget (by simp [Fg,List.replicate]) (fun j=>by simp) (Nat.le_refl _)
 . exact ⟨Nat.zero_le _,rfl,by intro w hw;simp at hw,Nat.zero_le _,by simp [val]⟩
 rintro ⟨i,nn,o,k⟩ ⟨hi,ho,hwd,hk,hv'⟩
 simp only [] at hi ho hwd hk hv'
 have qS:i<ag v->decide ((i:Int)<(ag v:Int))=true:=fun h=>aw (by omega)
 have xK : ¬ i<ag v->decide ((i:Int)<(ag v:Int))=false:=fun h=>ar (by omega)
 have dD : ¬ i<ag v->i=ag v:=by omega
 have sP:=aI i (by omega)
 have jq:i<ag v->i+1<=ag v/\ag v-(i+1)<ag v-i:=fun h=>by omega
 have hib:i<b.length:=by omega
 have nX:=pH (q:=id) (off:=a.length) (t:=tight) (show i<ag v+1 by omega)
 obtain ⟨x,hx⟩:∃ x,b[i]? = some x:=⟨_,List.getElem?_eq_getElem hib⟩
 have rX:=SP x (List.mem_of_getElem? hx)
 have hdr:b.drop i=x::b.drop (i+1):=by
   obtain ⟨_,h2⟩:=List.getElem?_eq_some_iff.1 hx
   rw [List.drop_eq_getElem_cons hib,h2]
 have f1:=bn x rX
 have T6:(a++o).length=a.length+i:=by rw [List.length_append,ho]
 have zB:a.length+i<((a++o)++x::(b.drop (i+1)++t)).length:=by rw [List.length_append,T6];simp
 simp only [SS]
 by_cases hlt:i<ag v
 . obtain ⟨y,hy⟩:∃ y,(digits v)[i]? = some y:=⟨_,List.getElem?_eq_getElem hlt⟩
   have DY:=aX v y (List.mem_of_getElem? hy)
   have f2:=bn y DY
   have f3:=p6 x y (by unfold aE at rX DY;omega)
   have f4:=p6 k (x+y) (by unfold aE at rX DY;omega)
   have hk':(k+(x+y))/aE<=1:=by unfold aE at rX DY ⊢;omega
   have T7:=nb (x:=x) (y:=y) (s:=k+(x+y)) ho hv' (by omega)
   simp only [SS,Nat.reduceAdd,qS hlt,de hy,aH,bl,nX,hdr]
   rw [js (o:=(a++o)++x::(b.drop (i+1)++t)) (b:=false) (by simp [af.of]) (xi _ _ _ T6)]
   simp only [SS,Nat.reduceAdd,f1,f2,f3,f4,yf,nX]
   rw [bO (o:=(a++o)++x::(b.drop (i+1)++t)) (by simp [af.of]) zB,fD _ _ _ _ T6]
   simp only [SS,Nat.reduceAdd,o8,sP]
   refine ⟨(i+1,_,o++[(k+(x+y))%aE],(k+(x+y))/aE),⟨(jq hlt).1,by simp [ho],pO hwd _,hk', ?_⟩,(jq hlt).2,Wk.forget (by simp [Fg]) (fun j => ?_) (Nat.le_refl _)⟩
   . show val (o++[(k+(x+y))%aE])+aE ^ (i+1)*((k+(x+y))/aE)=_
     rw [aM hx,aM hy];exact T7
   . simp only [af.put,af.of];split<;>simp_all
 . have pP:=dD hlt
   subst pP
   have Fe:b.drop (ag v+1)=[]:=List.drop_eq_nil_of_le (by omega)
   have e1:(digits v).take (ag v)=digits v:=List.take_of_length_le (Nat.le_refl _)
   have e2:val (b.take (ag v+1))=val b:=Co hb
   have T7:=nb (x:=x) (y:=0) (s:=k+x) ho hv' (by omega)
   rw [e1,aU, <- aM hx,e2] at T7
   simp only [Nat.mul_zero,Nat.add_zero] at T7
   have f5:IntKind.u32.wrap (k:Int)=(k:Int):=by rw [yf,Nat.mod_eq_of_lt (by unfold aE;omega)]
   have f6:IntKind.u32.wrap ((x:Int)+(k:Int))=(((k+x)%aE:Nat):Int):=by rw [IntKind.wrap_u32];unfold aE;omega
   have Xp:Wd (o++[(k+x)%aE]):=pO hwd _
   have yi:(o++[(k+x)%aE]).length=ag v+1:=by simp [ho]
   have e:pad (ag v+1) (val b+v)=o++[(k+x)%aE]:=by
     rw [<- T7,Fi, <- yi];exact A3 Xp
   simp only [SS,Nat.reduceAdd,xK hlt,bg,nX,hdr]
   rw [js (o:=(a++o)++x::(b.drop (ag v+1)++t)) (b:=false) (by simp [af.of]) (xi _ _ _ T6)]
   simp only [SS,Nat.reduceAdd,f5,f6,nX]
   rw [bO (o:=(a++o)++x::(b.drop (ag v+1)++t)) (by simp [af.of]) zB,fD _ _ _ _ T6,Fe]
   simp only [SS,Nat.reduceAdd,e]
   have e5:a++(o++[(k+x)%aE])++t=a++o++(k+x)%aE::t:=by simp
   refine Em▸bF rfl fun i => .inr ?_
   simp only [af.app,e5];exact I5
end
end Go.VL
end

section
set_option linter.unusedVariables false
namespace Go.VL
def lens:List UInt8:=[0,1,2,2,3,3,3,3,4,4,4,4,4,4,4,4,5,5,5,5,5,5,5,5,5,5,5,5,5,5,5,5,6,6,6,6,6,6,6,6,6,6,6,6,6,6,6,6,6,6,6,6,6,6,6,6,6,6,6,6,6,6,6,6,7,7,7,7,7,7,7,7,7,7,7,7,7,7,7,7,7,7,7,7,7,7,7,7,7,7,7,7,7,7,7,7,7,7,7,7,7,7,7,7,7,7,7,7,7,7,7,7,7,7,7,7,7,7,7,7,7,7,7,7,7,7,7,7,8,8,8,8,8,8,8,8,8,8,8,8,8,8,8,8,8,8,8,8,8,8,8,8,8,8,8,8,8,8,8,8,8,8,8,8,8,8,8,8,8,8,8,8,8,8,8,8,8,8,8,8,8,8,8,8,8,8,8,8,8,8,8,8,8,8,8,8,8,8,8,8,8,8,8,8,8,8,8,8,8,8,8,8,8,8,8,8,8,8,8,8,8,8,8,8,8,8,8,8,8,8,8,8,8,8,8,8,8,8,8,8,8,8,8,8,8,8,8,8,8,8,8,8,8,8,8,8]
def len8 (v:Nat):Nat:=((lens[v]?).getD 0).toNat
def iC (x:Nat):Nat :=
 if 65536<=x then (if 256<=x/65536 then 24+len8 (x/65536/256) else 16+len8 (x/65536)) else (if 256<=x then 8+len8 (x/256) else len8 x)
set_option maxRecDepth 100000 in
theorem T8 {v:Nat} (h:v<256):lens[v]? = some ((lens[v]?).getD 0):=by
 have:v<lens.length:=h
 rw [List.getElem?_eq_getElem this];rfl
theorem Cp (v:Nat):len8 v<256:=(((lens[v]?).getD 0)).toNat_lt
set_option maxRecDepth 100000 in
theorem T9:(List.range 256).all (fun v=>v==0||(decide (v<2 ^ len8 v)&&decide (2 ^ len8 v<=2*v)))=true:=by decide
theorem Cq {v:Nat} (h:v<256) (h0:0<v):v<2 ^ len8 v/\2 ^ len8 v<=2*v:=by
 have:=List.all_eq_true.1 T9 v (List.mem_range.2 h)
 simp only [Bool.or_eq_true,Bool.and_eq_true,beq_iff_eq,decide_eq_true_eq] at this
 rcases this with h1 | h1
 . omega
 . exact h1
theorem A4 {x a k j:Nat} (he:a=x/2 ^ j) (h:a<2 ^ k/\2 ^ k<=2*a):x<2 ^ (j+k)/\2 ^ (j+k)<=2*x:=by
 subst he
 have hp:=Nat.two_pow_pos j
 refine ⟨?_, ?_⟩
 . have:=(Nat.div_lt_iff_lt_mul hp).1 h.1
   rwa [Nat.pow_add,Nat.mul_comm]
 . have h1:=Nat.mul_le_mul_left (2 ^ j) h.2
   have h2:=Nat.mul_div_le x (2 ^ j)
   rw [Nat.pow_add,Nat.mul_left_comm] at *
   omega
theorem Cr {x:Nat} (h:x<aE) (h0:0<x):x<2 ^ iC x/\2 ^ iC x<=2*x:=by
 unfold aE at h
 unfold iC
 by_cases h1:65536<=x
 . by_cases h2:256<=x/65536
   . rw [if_pos h1,if_pos h2]
     exact A4 (j:=24) (a:=x/65536/256) (by rw [Nat.div_div_eq_div_mul]) (Cq (by omega) (by omega))
   . rw [if_pos h1,if_neg h2]
     exact A4 (j:=16) (a:=x/65536) rfl (Cq (by omega) (by omega))
 . by_cases h2:256<=x
   . rw [if_neg h1,if_pos h2]
     exact A4 (j:=8) (a:=x/256) rfl (Cq (by omega) (by omega))
   . rw [if_neg h1,if_neg h2]
     exact Cq (by omega) h0
section
variable {P:Program} {G:Nat->Option (List AV)}
set_option maxRecDepth 100000 in
theorem GQ {f:FuncId} (h:Has P f oh) (x:Nat) (hx:x<aE):VP P G f [.int .u32 (x:Int)] (.int .i64 (iC x:Int)):=by
 refine VP.has h ?_
 have s16:bM .shr .int (.int .u32 (x:Int)) (.int .u64 16)=some (.int .u32 ((x/65536:Nat):Int)):=by
   rw [sE (by decide)]
   have:(x:Int).fdiv (2 ^ (min (16:Int).toNat IntKind.u32.bits))=((x/65536:Nat):Int):=by
     show (x:Int).fdiv (2 ^ 16)=_
     rw [Int.fdiv_eq_ediv_of_nonneg _ (by decide)];omega
   rw [this]
 have s8:∀ y:Nat,bM .shr .int (.int .u32 (y:Int)) (.int .u64 8)=some (.int .u32 ((y/256:Nat):Int)):=fun y=>by
   rw [sE (by decide)]
   have:(y:Int).fdiv (2 ^ (min (8:Int).toNat IntKind.u32.bits))=((y/256:Nat):Int):=by
     show (y:Int).fdiv (2 ^ 8)=_
     rw [Int.fdiv_eq_ediv_of_nonneg _ (by decide)];omega
   rw [this]
 have w8:∀ y:Nat,y<256->IntKind.u8.wrap (y:Int)=(y:Int):=fun y h=>by rw [IntKind.wrap_u8'];omega
 have wl:∀ y:Nat,IntKind.i64.wrap ((len8 y:Nat):Int)=((len8 y:Nat):Int):=fun y=>by have:=Cp y;rw [IntKind.wrap_i64];omega
 have Xq:∀ (p:Id) (σ : af) (y:Nat),y<256->bU σ p (.indexS (.str [0,1,2,2,3,3,3,3,4,4,4,4,4,4,4,4,5,5,5,5,5,5,5,5,5,5,5,5,5,5,5,5,6,6,6,6,6,6,6,6,6,6,6,6,6,6,6,6,6,6,6,6,6,6,6,6,6,6,6,6,6,6,6,6,7,7,7,7,7,7,7,7,7,7,7,7,7,7,7,7,7,7,7,7,7,7,7,7,7,7,7,7,7,7,7,7,7,7,7,7,7,7,7,7,7,7,7,7,7,7,7,7,7,7,7,7,7,7,7,7,7,7,7,7,7,7,7,7,8,8,8,8,8,8,8,8,8,8,8,8,8,8,8,8,8,8,8,8,8,8,8,8,8,8,8,8,8,8,8,8,8,8,8,8,8,8,8,8,8,8,8,8,8,8,8,8,8,8,8,8,8,8,8,8,8,8,8,8,8,8,8,8,8,8,8,8,8,8,8,8,8,8,8,8,8,8,8,8,8,8,8,8,8,8,8,8,8,8,8,8,8,8,8,8,8,8,8,8,8,8,8,8,8,8,8,8,8,8,8,8,8,8,8,8,8,8,8,8,8,8,8,8,8,8,8,8]) (.int .u8 (y:Int)))=some { val := .int .u8 ((len8 y:Nat):Int) }:=fun p σ y h=>by
   show bU σ p (.indexS (.str lens) (.int .u8 (y:Int)))=_
   rw [AB,if_pos (by omega),Int.toNat_natCast,T8 h];rfl
 have hB:x<4294967296:=hx
 simp only [oh]
 by_cases h1:65536<=x
 . have d1:decide ((65536:Int)<=(x:Int))=true:=aw (by omega)
   by_cases h2:256<=x/65536
   . have d2:decide ((256:Int)<=((x/65536:Nat):Int))=true:=aw (by omega)
     have hb:x/65536/256<256:=by omega
     have e:iC x=24+len8 (x/65536/256):=by unfold iC;rw [if_pos h1,if_pos h2]
     have e1:IntKind.i64.wrap ((16:Int)+8)=24:=by rw [IntKind.wrap_i64];omega
     have e2:IntKind.i64.wrap ((24:Int)+((len8 (x/65536/256):Nat):Int))=((24+len8 (x/65536/256):Nat):Int):=by have:=Cp (x/65536/256);rw [IntKind.wrap_i64];omega
     simp only [SS,Nat.reduceAdd,d1,d2,s16,s8,w8 _ hb,Xq _ _ _ hb,wl,e1,e2]
     rw [e];exact ak▸ae rfl (aa.int _ _)
   . have d2:decide ((256:Int)<=((x/65536:Nat):Int))=false:=ar (by omega)
     have hb:x/65536<256:=by omega
     have e:iC x=16+len8 (x/65536):=by unfold iC;rw [if_pos h1,if_neg h2]
     have e2:IntKind.i64.wrap ((16:Int)+((len8 (x/65536):Nat):Int))=((16+len8 (x/65536):Nat):Int):=by have:=Cp (x/65536);rw [IntKind.wrap_i64];omega
     simp only [SS,Nat.reduceAdd,d1,d2,s16,w8 _ hb,Xq _ _ _ hb,wl,e2]
     rw [e];exact ak▸ae rfl (aa.int _ _)
 . have d1:decide ((65536:Int)<=(x:Int))=false:=ar (by omega)
   by_cases h2:256<=x
   . have d2:decide ((256:Int)<=(x:Int))=true:=aw (by omega)
     have hb:x/256<256:=by omega
     have e:iC x=8+len8 (x/256):=by unfold iC;rw [if_neg h1,if_pos h2]
     have e1:IntKind.i64.wrap ((0:Int)+8)=8:=by rw [IntKind.wrap_i64];omega
     have e2:IntKind.i64.wrap ((8:Int)+((len8 (x/256):Nat):Int))=((8+len8 (x/256):Nat):Int):=by have:=Cp (x/256);rw [IntKind.wrap_i64];omega
     simp only [SS,Nat.reduceAdd,d1,d2,s8,w8 _ hb,Xq _ _ _ hb,wl,e1,e2]
     rw [e];exact ak▸ae rfl (aa.int _ _)
   . have d2:decide ((256:Int)<=(x:Int))=false:=ar (by omega)
     have hb:x<256:=by omega
     have e:iC x=len8 x:=by unfold iC;rw [if_neg h1,if_neg h2]
     have e2:IntKind.i64.wrap ((0:Int)+((len8 x:Nat):Int))=((len8 x:Nat):Int):=by have:=Cp x;rw [IntKind.wrap_i64];omega
     simp only [SS,Nat.reduceAdd,d1,d2,w8 _ hb,Xq _ _ _ hb,wl,e2]
     rw [e];exact ak▸ae rfl (aa.int _ _)
theorem Xr {f fl:FuncId} (h:Has P f (iq fl)) (hl:∀ x,x<aE->VP P G fl [.int .u32 ((x:Nat):Int)] (.int .i64 (iC x:Int))) (x:Nat) (hx:x<aE) (h0:0<x):VP P G f [.int .u32 (x:Int)] (.int .i64 ((32-iC x:Nat):Int)):=by
 refine VP.has h ?_
 have hb:iC x<=32:=by
   have h1:=(Cr hx h0).2
   have h2:2 ^ iC x<2 ^ 33:=by unfold aE at hx;omega
   have:=(Nat.pow_lt_pow_iff_right (by decide:1<2)).1 h2
   omega
 have e:IntKind.i64.wrap ((32:Int)-((iC x:Nat):Int))=((32-iC x:Nat):Int):=by rw [IntKind.wrap_i64];omega
 simp only [iq,SS,Nat.reduceAdd]
 refine ah (hl x hx) (by simp [aa.int]) ?_
 simp only [SS,Nat.reduceAdd,e]
 exact ak▸ae rfl (aa.int _ _)
end
end Go.VL
end

section
set_option linter.unusedVariables false
namespace Go.VL
section
variable {P:Program} {G:Nat->Option (List AV)}
theorem Ri {f:FuncId} (h:Has P f db) {es:List AV} (hk:∀ e∈es,e.size=1) (h1:(es.all fun e=>e.cells.all AV.one)=true) (hp:∀ c∈flat es,aa c) (hl:es.length*4<=140737488355328):VP P G f [.sl 1 es] (.sl 1 es):=by
 refine VP.has h ?_
 have hb:∀ (σ : af) (p:Id),bU σ p (.buildSl 1 0 (.int .u32 0) [])=some { val := .tsl 1 [] }:=fun σ p=>bs0 rfl rfl
 cases es with
 | nil =>
   simp only [db,SS,Nat.reduceAdd]
   refine ⟨?_, ?_⟩
   . exact ak▸⟨.nils,rfl,View.nils 1⟩
   . simp only [SS,Nat.reduceAdd,hb,ze ky]
     exact ak▸⟨_,rfl,View.adp 1⟩
 | cons e es =>
   simp only [db,SS,Nat.reduceAdd,hb]
   rw [p5 (es:=[]) ky (by simp) (by simpa using hl) (eN (by simp at hl ⊢;omega)) (by simpa using h1)]
   simp only [SS,Nat.reduceAdd]
   refine ak▸⟨_,rfl,View.osl (bk:=⟨e::es,1,false⟩) rfl rfl (by simp) ?_ (by simp) hk⟩
   simpa using aF.pure hp
theorem Rj {f:FuncId} (h:Has P f db) (n:Nat) (hn:ag n<=1000000):VP P G f [W n] (W n) :=
 Ri h (Cj _) (Ny _) (zh _) (by rw [gj];show ag n*4<=_;omega)
end
end Go.VL
end

section
set_option linter.unusedVariables false
namespace Go.VL
theorem Cs (z:Int):xe (decide (z<0)) z.natAbs=z:=by
 unfold xe
 by_cases h:z<0
 . simp only [h,decide_true,if_true];omega
 . simp only [h,decide_false,Bool.false_eq_true,if_false];omega
theorem PT (z:Int):xe (!decide (z<0)) z.natAbs = -z:=by
 unfold xe
 by_cases h:z<0
 . simp only [h,decide_true,Bool.not_true,Bool.false_eq_true,if_false];omega
 . simp only [h,decide_false,Bool.not_false,if_true];omega
theorem PV (y z:Int):xe (!(decide (y<0)==decide (z<0))) (y.natAbs*z.natAbs)=y*z:=by
 rw [<- Int.natAbs_mul]
 unfold xe
 by_cases h:y<0<;>by_cases h2:z<0
 . have:=Int.mul_pos_of_neg_of_neg h h2
   simp [h,h2];omega
 . have h3:y*z<=0:=Int.mul_nonpos_of_nonpos_of_nonneg (by omega) (by omega)
   simp [h,h2];omega
 . have h3:y*z<=0:=Int.mul_nonpos_of_nonneg_of_nonpos (by omega) (by omega)
   simp [h,h2];omega
 . have h3:0<=y*z:=Int.mul_nonneg (by omega) (by omega)
   simp [h,h2];omega
theorem b9:((AV.cells (.agg [(.bool false), .nils])).all AV.one=true)=True:=by simp [AV.cells,AV.one]
theorem iV (σ : af) (id:Id) (k:Nat) (z:Int):fy (σ.put id (some ⟨[.agg [.bool false, .nils]],k,false⟩)) 2 (.ref id 0 0) (IV z)=some { val := .tup [],rd:=[id],up:=[(id,some ⟨[IV z],k,false⟩)] }:=by
 rw [eO (n:=2) (v:=IV z) (els:=[.agg [.bool false, .nils]]) (k:=k) (af.dA _ _ _) rfl rfl (by simp [AV.size,AV.cells]) rfl]
 rfl
section
variable {P:Program} {G:Nat->Option (List AV)}
theorem oQ {ft:FuncId} (ht:iT P G ft) (n:Nat) (hn:ag n<=9223372036854775807):VP P G ft [W n] (W n):=by
 have:=ht (digits n) (aX n) hn
 rw [aU] at this;exact this
def iW (P:Program) (G:Nat->Option (List AV)) (f:FuncId):Prop:=∀ (neg:Bool) (n:Nat),ag n<=9223372036854775807->VP P G f [.bool neg,W n] (IV (xe neg n))
theorem NJ {f ft:FuncId} (h:Has P f (mG ft)) (ht:iT P G ft):iW P G f:=fun neg n hn=>by
 have:=Re h ht neg (aX n) hn
 rw [aU] at this;exact this
theorem Xs {f ft:FuncId} (h:Has P f (qZ ft)) (ht:iT P G ft) (z:Int) (hz:ag z.natAbs<=1000000):VP P G f [IV z] (.int .i64 z.sign):=by
 refine VP.has h ?_
 have hl:ag z.natAbs=0↔z=0:=by rw [cG];omega
 simp only [qZ,SS,Nat.reduceAdd,gZ,ao,iD]
 refine ah (oQ ht z.natAbs (by omega)) (by simp [ay]) ?_
 simp only [SS,Nat.reduceAdd,bg]
 by_cases h0:z=0
 . have d0:decide ((ag z.natAbs:Int)=0)=true:=aw (by have:=hl.2 h0;omega)
   simp only [SS,Nat.reduceAdd,d0]
   rw [h0]
   exact ak▸ae rfl (aa.int _ _)
 . have d0:decide ((ag z.natAbs:Int)=0)=false:=ar (by have:=fun e=>h0 (hl.1 e);omega)
   by_cases hn:z<0
   . have d1:decide (z<0)=true:=aw hn
     simp only [SS,Nat.reduceAdd,d0,ao,jR,d1]
     rw [Int.sign_eq_neg_one_of_neg hn]
     exact ak▸ae rfl (aa.int _ _)
   . have d1:decide (z<0)=false:=ar hn
     simp only [SS,Nat.reduceAdd,d0,ao,jR,d1]
     rw [Int.sign_eq_one_of_pos (by omega)]
     exact ak▸ae rfl (aa.int _ _)
theorem pI (n:Nat) (hn:n<18446744073709551616):ag n<=2:=fC (by unfold aE;omega)
theorem NK {f fu fs:FuncId} (h:Has P f (n9 fu fs)) (hu:∀ n,n<18446744073709551616->VP P G fu [.int .u64 ((n:Nat):Int)] (W n)) (hs:iW P G fs) (a:Int) (h1 : -9223372036854775808<=a) (h2:a<9223372036854775808):VP P G f [.int .i64 a] (IV a):=by
 refine VP.has h ?_
 have hsz:=pI a.natAbs (by omega)
 have eE:=hs (decide (a<0)) a.natAbs (by omega)
 rw [Cs] at eE
 have M9:=hu a.natAbs (by omega)
 simp only [n9,SS,Nat.reduceAdd,b9]
 by_cases hn:a<0
 . have d1:decide (a<0)=true:=aw hn
   rw [d1] at eE
   have e1:IntKind.u64.wrap (0-(IntKind.u64.wrap a))=(a.natAbs:Int):=by rw [IntKind.wrap_u64,IntKind.wrap_u64];omega
   simp only [SS,Nat.reduceAdd,d1,e1]
   refine ah M9 (by simp [aa.int]) ?_
   simp only [SS,Nat.reduceAdd]
   refine ah eE (by simp [aa.bool,ay]) ?_
   simp only [SS,Nat.reduceAdd,iV]
   refine ak▸ae (r:=IV a) ?_ (au _)
   simp only [RS,aY,a7,ao];rfl
 . have d1:decide (a<0)=false:=ar hn
   rw [d1] at eE
   have e1:IntKind.u64.wrap a=(a.natAbs:Int):=by rw [IntKind.wrap_u64];omega
   simp only [SS,Nat.reduceAdd,d1,e1]
   refine ah M9 (by simp [aa.int]) ?_
   simp only [SS,Nat.reduceAdd]
   refine ah eE (by simp [aa.bool,ay]) ?_
   simp only [SS,Nat.reduceAdd,iV]
   refine ak▸ae (r:=IV a) ?_ (au _)
   simp only [RS,aY,a7,ao];rfl
theorem aaU {f ft fc fs:FuncId} (h:Has P f (s9 ft fc fs)) (ht:iT P G ft) (hc:∀ n,ag n<=1000000->VP P G fc [W n] (W n)) (hs:iW P G fs) (z:Int) (hz:ag z.natAbs<=1000000):VP P G f [IV z] (IV (-z)):=by
 refine VP.has h ?_
 have eE:=hs (!decide (z<0)) z.natAbs (by omega)
 rw [PT] at eE
 simp only [s9,SS,DD,Nat.reduceAdd,gZ,b9,aq (show ([0]:List Nat)≠[1] by decide),ao,jR,iD]
 refine aj (oQ ht z.natAbs (by omega)) (by simp [ay]) ?_
 simp only [SS,DD,Nat.reduceAdd]
 refine aj (hc z.natAbs hz) (by simp [ay]) ?_
 simp only [SS,DD,Nat.reduceAdd]
 refine aj eE (by simp [aa.bool,ay]) ?_
 simp only [SS,DD,Nat.reduceAdd,iV]
 refine ⟨by simp [ab,apart], ?_⟩
 refine ak▸ae (r:=IV (-z)) ?_ (au _)
 simp only [RS,aY,a7,ao];rfl
theorem aaV {f ft fm fs:FuncId} (h:Has P f (ta ft fm fs)) (ht:iT P G ft) (hm:∀ m n,ag m<=1000000->ag n<=1000000->VP P G fm [W m,W n] (W (m*n))) (hs:iW P G fs) (y z:Int) (hy:ag y.natAbs<=1000000) (hz:ag z.natAbs<=1000000):VP P G f [IV y,IV z] (IV (y*z)):=by
 refine VP.has h ?_
 have eE:=hs (!(decide (y<0)==decide (z<0))) (y.natAbs*z.natAbs) (by have:=zg y.natAbs z.natAbs;omega)
 rw [PV] at eE
 simp only [ta,SS,DD,Nat.reduceAdd,gZ,b9,aq (show ([0]:List Nat)≠[1] by decide),aq (show ([0]:List Nat)≠[2] by decide),aq (show ([1]:List Nat)≠[2] by decide),ao,jR,iD]
 refine aj (oQ ht y.natAbs (by omega)) (by simp [ay]) ?_
 simp only [SS,DD,Nat.reduceAdd,aq (show ([1]:List Nat)≠[2] by decide),ao,iD]
 refine aj (oQ ht z.natAbs (by omega)) (by simp [ay]) ?_
 simp only [SS,DD,Nat.reduceAdd]
 refine aj (hm y.natAbs z.natAbs hy hz) (by simp [ay]) ?_
 simp only [SS,DD,Nat.reduceAdd]
 refine aj eE (by simp [aa.bool,ay]) ?_
 simp only [SS,DD,Nat.reduceAdd,iV]
 refine ⟨by simp [ab,apart], ?_⟩
 refine ak▸ae (r:=IV (y*z)) ?_ (au _)
 simp only [RS,aY,a7,ao];rfl
end
end Go.VL
end

section
set_option linter.unusedVariables false
namespace Go.VL
theorem pJ (a b:Int):jj a b = -1/\a<b∨jj a b=0/\a=b∨jj a b=1/\b<a:=by
 unfold jj
 by_cases h1:a<b
 . simp [h1]
 . by_cases h2:b<a
   . simp [h1,h2]
   . right;left;simp [h1,h2];omega
theorem rS (z:Int):z.sign = -1/\z<0∨z.sign=0/\z=0∨z.sign=1/\0<z:=by
 rcases Int.lt_trichotomy z 0 with h | h | h
 . exact .inl ⟨Int.sign_eq_neg_one_of_neg h,h⟩
 . exact .inr (.inl ⟨by rw [h];rfl,h⟩)
 . exact .inr (.inr ⟨Int.sign_eq_one_of_pos h,h⟩)
theorem I6 {y z:Int} (h:y.sign≠z.sign):jj y.sign z.sign=jj y z:=by
 rcases pJ y z with ⟨e,c⟩ | ⟨e,c⟩ | ⟨e,c⟩<;>rcases pJ y.sign z.sign with ⟨e2,c2⟩ | ⟨e2,c2⟩ | ⟨e2,c2⟩<;>rcases rS y with ⟨s,p⟩ | ⟨s,p⟩ | ⟨s,p⟩<;>rcases rS z with ⟨s2,p2⟩ | ⟨s2,p2⟩ | ⟨s2,p2⟩<;>omega
theorem Xt {y z:Int} (h:y.sign=z.sign):y.sign*fP y.natAbs z.natAbs=jj y z:=by
 unfold fP
 rcases pJ y z with ⟨e,c⟩ | ⟨e,c⟩ | ⟨e,c⟩<;>rcases pJ (y.natAbs:Int) (z.natAbs:Int) with ⟨e2,c2⟩ | ⟨e2,c2⟩ | ⟨e2,c2⟩<;>rcases rS y with ⟨s,p⟩ | ⟨s,p⟩ | ⟨s,p⟩<;>rcases rS z with ⟨s2,p2⟩ | ⟨s2,p2⟩ | ⟨s2,p2⟩<;>rw [s,e2,e]<;>omega
section
variable {P:Program} {G:Nat->Option (List AV)}
theorem aaW {f fsg fci ft fc:FuncId} (h:Has P f (s7 fsg fci ft fc)) (LR:∀ z:Int,ag z.natAbs<=1000000->VP P G fsg [IV z] (.int .i64 z.sign)) (hci:∀ a b:Int,VP P G fci [.int .i64 a, .int .i64 b] (.int .i64 (jj a b))) (ht:iT P G ft)
   (hc:∀ m n,ag m<=1000000->ag n<=1000000->VP P G fc [W m,W n] (.int .i64 (fP m n))) (y z:Int) (hy:ag y.natAbs<=1000000) (hz:ag z.natAbs<=1000000):VP P G f [IV y,IV z] (.int .i64 (jj y z)):=by
 refine VP.has h ?_
 simp only [s7,SS,DD,Nat.reduceAdd,gZ,aq (show ([0]:List Nat)≠[1] by decide),ao,c9]
 refine aj (LR y hy) (by simp [au]) ?_
 simp only [SS,DD,Nat.reduceAdd,ao,c9]
 refine aj (LR z hz) (by simp [au]) ?_
 simp only [SS,DD,Nat.reduceAdd]
 refine ⟨by simp [ab,apart], ?_⟩
 by_cases hs:y.sign=z.sign
 . have d0:decide (y.sign≠z.sign)=false:=ar (by simpa using hs)
   have e1:IntKind.i64.wrap (y.sign*fP y.natAbs z.natAbs)=jj y z:=by
     rw [Xt hs,IntKind.wrap_i64]
     rcases pJ y z with ⟨e,_⟩ | ⟨e,_⟩ | ⟨e,_⟩<;>rw [e]<;>omega
   simp only [SS,DD,Nat.reduceAdd,d0,aq (show ([0]:List Nat)≠[1] by decide),ao,iD]
   refine aj (oQ ht y.natAbs (by omega)) (by simp [ay]) ?_
   simp only [SS,DD,Nat.reduceAdd,ao,iD]
   refine aj (oQ ht z.natAbs (by omega)) (by simp [ay]) ?_
   simp only [SS,DD,Nat.reduceAdd]
   refine aj (hc y.natAbs z.natAbs hy hz) (by simp [ay]) ?_
   simp only [SS,DD,Nat.reduceAdd,e1]
   refine ⟨by simp [ab,apart], ?_⟩
   exact ak▸ae rfl (aa.int _ _)
 . have d0:decide (y.sign≠z.sign)=true:=aw hs
   simp only [SS,Nat.reduceAdd,d0]
   refine ah (hci y.sign z.sign) (by simp [aa.int]) ?_
   simp only [SS,Nat.reduceAdd]
   rw [I6 hs]
   exact ak▸ae rfl (aa.int _ _)
end
end Go.VL
end

section
set_option linter.unusedVariables false
namespace Go.VL
def RV (a b:Int):AV := .agg [.bool (decide (a<0)),W a.natAbs, .bool (decide (b<0)),W b.natAbs]
theorem sQ (a b:Int):aa (RV a b):=aa.agg (by intro c hc;simp at hc;rcases hc with rfl | rfl | rfl | rfl;exact aa.bool _;exact ay _;exact aa.bool _;exact ay _)
theorem NL (a b:Int):((RV a b).cells.all AV.one=true)=True:=by simp [RV,AV.cells,AV.one,W]
theorem PW (a b:Int):part true (RV a b).cells 0 2=some (IV a):=rfl
theorem PX (a b:Int):part true (RV a b).cells 2 2=some (IV b):=rfl
theorem cv:((AV.cells (.agg [(.bool false), .nils,(.bool false), .nils])).all AV.one=true)=True:=by simp [AV.cells,AV.one]
theorem LS (σ : af) (id:Id) (k:Nat) (a b:Int):fy (σ.put id (some ⟨[.agg [.bool false, .nils, .bool false, .nils]],k,false⟩)) 4 (.ref id 0 0) (RV a b)=some { val := .tup [],rd:=[id],up:=[(id,some ⟨[RV a b],k,false⟩)] }:=by
 rw [eO (n:=4) (v:=RV a b) (els:=[.agg [.bool false, .nils, .bool false, .nils]]) (k:=k) (af.dA _ _ _) rfl rfl (by simp [AV.size,AV.cells]) rfl]
 rfl
theorem Ct (a b:Int):iN [.bool false, .nils, .bool false, .nils] [(0,(2,IV a)),(2,(2,IV b))]=some [.bool (decide (a<0)),W a.natAbs, .bool (decide (b<0)),W b.natAbs]:=rfl
section
variable {P:Program} {G:Nat->Option (List AV)}
theorem aaX {f fi:FuncId} (h:Has P f (q7 fi)) (hi:VP P G fi [.int .i64 1] (IV 1)):VP P G f [] (IV 1):=by
 refine VP.has h ?_
 simp only [q7,SS,Nat.reduceAdd,b9]
 refine ah hi (by simp [aa.int]) ?_
 simp only [SS,Nat.reduceAdd,iV]
 refine ak▸ae (r:=IV 1) ?_ (au _)
 simp only [RS,aY,a7,ao];rfl
theorem LU {f fi fo:FuncId} (h:Has P f (nw fi fo)) (a:Int) (hi:VP P G fi [.int .i64 a] (IV a)) (ho:VP P G fo [] (IV 1)):VP P G f [.int .i64 a] (RV a 1):=by
 refine VP.has h ?_
 have e:(AV.agg [.bool (decide (a<0)),W a.natAbs, .bool (decide ((1:Int)<0)),W (1:Int).natAbs])=RV a 1:=rfl
 simp only [nw,SS,Nat.reduceAdd,cv]
 refine ah hi (by simp [aa.int]) ?_
 simp only [SS,Nat.reduceAdd]
 refine ah ho (by simp) ?_
 simp only [SS,Nat.reduceAdd,Ct,e,LS]
 refine ak▸ae (r:=RV a 1) ?_ (sQ _ _)
 simp only [RS,aY,a7,ao];rfl
theorem LV {f fi:FuncId} (h:Has P f (ni fi)) (a b:Int) (hi:VP P G fi [IV a] (.int .i64 a.sign)):VP P G f [RV a b] (.int .i64 a.sign):=by
 refine VP.has h ?_
 simp only [ni,SS,Nat.reduceAdd,NL,ao,PW]
 refine ah hi (by simp [au]) ?_
 simp only [SS,Nat.reduceAdd]
 exact ak▸ae rfl (aa.int _ _)
theorem Ua {f:FuncId} (h:Has P f pj) (z:Int):VP P G f [IV z] (.bool (decide (z=1))):=by
 refine VP.has h ?_
 have hl:ag z.natAbs=1->∃ w,digits z.natAbs=[w]:=fun h=>List.length_eq_one_iff.1 h
 have h11:ag 1=1:=by unfold ag;rw [iy (by decide),show 1/aE=0 from rfl,bx];rfl
 simp only [pj,SS,Nat.reduceAdd,gZ,ao,jR]
 by_cases hn:z<0
 . have d0:decide (z<0)=true:=aw hn
   have e:decide (z=1)=false:=ar (by omega)
   simp only [SS,Nat.reduceAdd,d0,e]
   exact ak▸ae rfl (aa.bool _)
 . have d0:decide (z<0)=false:=ar hn
   by_cases h1:ag z.natAbs=1
   . have d1:decide ((ag z.natAbs:Int)=1)=true:=aw (by omega)
     obtain ⟨w,hw⟩:=hl h1
     have hg:(digits z.natAbs)[0]? = some w:=by rw [hw];rfl
     have Xq:cn 1 (W z.natAbs) (.int .i64 0)=some (.ep (AV.int .u32 (w:Int)).cells 0):=iM (i:=0) rfl (xd hg)
     have hv:z.natAbs=w:=by have:=aU z.natAbs;rw [hw] at this;simp [val] at this;omega
     have e:decide ((w:Int)=1)=decide (z=1):=by congr 1;apply propext;omega
     simp only [SS,Nat.reduceAdd,d0,ao,iD,bg,d1,Xq,aH,bl,e]
     exact ak▸ae rfl (aa.bool _)
   . have d1:decide ((ag z.natAbs:Int)=1)=false:=ar (by omega)
     have e:decide (z=1)=false:=ar (by intro e;rw [e] at h1;exact h1 h11)
     simp only [SS,Nat.reduceAdd,d0,ao,iD,bg,d1,e]
     exact ak▸ae rfl (aa.bool _)
end
end Go.VL
end

section
set_option linter.unusedVariables false
namespace Go.VL
theorem dh {σ : af} {id:Id} {k:Nat} {z:Int} {y:AV} (hs:y.size=2) (hu:y.upd 0 (IV z).cells=IV z) (h : σ id=some ⟨[y],k,false⟩):fy σ 2 (.ref id 0 0) (IV z)=some { val := .tup [],rd:=[id],up:=[(id,some ⟨[IV z],k,false⟩)] }:=by
 rw [eO (n:=2) (v:=IV z) h rfl rfl (by rw [hs];exact Nat.le_refl _) rfl]
 simp [hu]
theorem A5 (y z:Int):(IV y).upd 0 (IV z).cells=IV z:=rfl
theorem rT (z:Int):(AV.agg [.bool false, .nils]).upd 0 (IV z).cells=IV z:=rfl
theorem Xu {σ : af} {id:Id} {k:Nat} {z:Int} {b:Bool} (h : σ id=some ⟨[IV z],k,b⟩):jl σ true 2 (.ref id 0 0)=some { val:=IV z,rd:=[id] }:=by
 rw [qR h (el:=IV z) rfl,c9];rfl
theorem aaY {α : Type} {a b c : α}:[a,b,c][0]? = some a:=rfl
theorem aaZ {α : Type} {a b c : α}:[a,b,c][1]? = some b:=rfl
theorem aa0 {α : Type} {a b c : α}:[a,b,c][2]? = some c:=rfl
section
variable {P:Program} {G:Nat->Option (List AV)}
theorem aa1 {f fo fd:FuncId} (h:Has P f (q8 fo fd)) (a b:Int) (ho:VP P G fo [IV b] (.bool (decide (b=1)))) (hd:VP P G fd [IV a,IV b] (.tup [IV (a.fdiv b),IV (a.fmod b), .int .i64 0])):VP P G f [IV a,IV b] (IV (a.fdiv b)):=by
 refine VP.has h ?_
 simp only [q8,SS,Nat.reduceAdd,gZ,b9,aq (show ([1]:List Nat)≠[2] by decide),ao,c9]
 refine ah ho (by simp [au]) ?_
 by_cases h1:b=1
 . have d1:decide (b=1)=true:=aw h1
   have e:a.fdiv b=a:=by rw [h1,Int.fdiv_one]
   simp only [SS,Nat.reduceAdd,d1,aq (show ([0]:List Nat)≠[2] by decide),aq (show ([0]:List Nat)≠[1] by decide),ao,c9]
   rw [dh (k:=(AV.agg [.bool false, .nils]).size) (y := .agg [.bool false, .nils]) rfl (rT _) (by simp [af.put])]
   simp only [SS,Nat.reduceAdd,e]
   refine ak▸ae (r:=IV a) ?_ (au _)
   simp only [RS,aY,a7,ao];rfl
 . have d1:decide (b=1)=false:=ar h1
   simp only [SS,Nat.reduceAdd,d1,aq (show ([0]:List Nat)≠[2] by decide),aq (show ([0]:List Nat)≠[1] by decide),aq (show ([1]:List Nat)≠[2] by decide),ao,c9]
   refine ah hd (by simp [au]) ?_
   simp only [SS,Nat.reduceAdd,b9,aaY,aaZ,aa0]
   rw [dh (k:=(AV.agg [.bool false, .nils]).size) (y := .agg [.bool false, .nils]) rfl (rT _) (by simp [af.put])]
   simp only [SS,Nat.reduceAdd]
   rw [dh (k:=(AV.agg [.bool false, .nils]).size) (y := .agg [.bool false, .nils]) rfl (rT _) (by simp [af.put])]
   simp only [SS,Nat.reduceAdd]
   rw [Xu (z:=a.fdiv b) (k:=(AV.agg [.bool false, .nils]).size) (b:=false) (by simp [af.put])]
   simp only [SS,Nat.reduceAdd]
   rw [dh (k:=(AV.agg [.bool false, .nils]).size) (y := .agg [.bool false, .nils]) rfl (rT _) (by simp [af.put])]
   simp only [SS,Nat.reduceAdd]
   refine ak▸ae (r:=IV (a.fdiv b)) ?_ (au _)
   simp only [RS,aY,a7,ao];rfl
end
end Go.VL
end

section
set_option linter.unusedVariables false
namespace Go.VL
def LW (a b:Int):Bool := !(decide (a<0)==decide (b<0))
def Ub (a b:Int):Nat:=if LW a b=true/\0<a.natAbs%b.natAbs then a.natAbs/b.natAbs+1 else a.natAbs/b.natAbs
def Uc (a b:Int):Nat:=if LW a b=true/\0<a.natAbs%b.natAbs then b.natAbs-a.natAbs%b.natAbs else a.natAbs%b.natAbs
theorem GR:digits 1=[1]:=by rw [iy (by decide),show 1/aE=0 from rfl,bx];rfl
theorem Ud {id:Id} {b t:Bool}:View (af.of [(id,⟨us [1],1,b⟩)]) (.osl id 1 0 1 t) (W 1):=by
 unfold W;rw [GR];exact hH rfl
theorem Ue (m n:Nat):ag (m/n)<=ag m:=bE (Nat.div_le_self _ _)
theorem GU (m n:Nat):ag (m%n)<=ag m:=bE (Nat.mod_le _ _)
theorem Rk (m:Nat):ag (m+1)<=ag m+1:=fC (by
 have h1:=cU m
 rw [Nat.pow_succ]
 have h2:aE ^ ag m*2<=aE ^ ag m*aE:=Nat.mul_le_mul_left _ (by decide)
 omega)
theorem u0:ag 1<=1:=by unfold ag;rw [GR];decide
theorem A6 {α : Type} {a b : α}:[a,b][0]? = some a:=rfl
theorem A7 {α : Type} {a b : α}:[a,b][1]? = some b:=rfl
section
variable {P:Program} {G:Nat->Option (List AV)}
theorem Rl {f ft fd fp fm fs:FuncId} (h:Has P f (pg ft fd fp fm fs)) (ht:iT P G ft) (hd:∀ m n,n≠0->ag m<=900000->ag n<=900000->VP P G fd [W m,W n] (.tup [W (m/n),W (m%n)]))
   (hp:∀ m n,ag m<=1000000->ag n<=1000000->VP P G fp [W m,W n] (W (m+n))) (hm:∀ m n,n<=m->ag m<=1000000->VP P G fm [W m,W n] (W (m-n))) (hs:iW P G fs) (a b:Int) (HW:b≠0) (ha:ag a.natAbs<=900000) (hb:ag b.natAbs<=900000) :
   VP P G f [IV a,IV b] (.tup [IV (xe (LW a b) (Ub a b)),IV (xe (decide (b<0)) (Uc a b)), .int .i64 0]):=by
 refine VP.has h ?_
 have ZE:b.natAbs≠0:=by omega
 have SP:ag b.natAbs≠0:=fun e=>ZE (cG.1 e)
 have d0:decide ((ag b.natAbs:Int)=0)=false:=ar (by omega)
 have w1:=Ue a.natAbs b.natAbs
 have w2:=GU a.natAbs b.natAbs
 have w3:=Rk (a.natAbs/b.natAbs)
 have w4:ag (b.natAbs-a.natAbs%b.natAbs)<=ag b.natAbs:=bE (Nat.sub_le _ _)
 have w5:=u0
 have aav:a.natAbs%b.natAbs<b.natAbs:=Nat.mod_lt _ (Nat.pos_of_ne_zero ZE)
 have hpv:=hp (a.natAbs/b.natAbs) 1 (by omega) (by omega)
 have HX:=hm b.natAbs (a.natAbs%b.natAbs) (Nat.le_of_lt aav) (by omega)
 have ag5:0<a.natAbs%b.natAbs->decide ((0:Int)<(ag (a.natAbs%b.natAbs):Int))=true:=fun h=>aw (by
   have:ag (a.natAbs%b.natAbs)≠0:=fun e=>by have:=cG.1 e;omega
   omega)
 have adL : ¬ 0<a.natAbs%b.natAbs->decide ((0:Int)<(ag (a.natAbs%b.natAbs):Int))=false:=fun h=>ar (by
   have:ag (a.natAbs%b.natAbs)=0:=cG.2 (by omega)
   omega)
 have yb:([0]:List Nat)≠[1]:=by decide
 have DZ:([0]:List Nat)≠[2]:=by decide
 have k03:([0]:List Nat)≠[3]:=by decide
 have A8:([1]:List Nat)≠[2]:=by decide
 have ZF:([1]:List Nat)≠[3]:=by decide
 have JE:∀ (q r:Nat),q=Ub a b->r=Uc a b->ag q<=1000000->ag r<=1000000->VP P G fs [.bool (LW a b),W q] (IV (xe (LW a b) (Ub a b)))/\VP P G fs [.bool (decide (b<0)),W r] (IV (xe (decide (b<0)) (Uc a b))):=fun q r hq hr h1 h2=>by
   subst hq;subst hr
   exact ⟨hs _ _ (by omega),hs _ _ (by omega)⟩
 simp only [pg,SS,Nat.reduceAdd,gZ,b9,aq A8,aq ZF,ao,iD]
 refine ah (oQ ht b.natAbs (by omega)) (by simp [ay]) ?_
 simp only [SS,Nat.reduceAdd,bg,d0,aq yb,aq DZ,aq k03,ao,iD]
 refine ah (oQ ht a.natAbs (by omega)) (by simp [ay]) ?_
 simp only [SS,Nat.reduceAdd]
 refine ah (hd a.natAbs b.natAbs ZE ha hb) (by simp [ay]) ?_
 simp only [SS,Nat.reduceAdd,A6,A7,aq yb,aq DZ,aq k03,aq A8,aq ZF,ao,jR]
 have Wv:(!(decide (a<0)==decide (b<0)))=LW a b:=rfl
 simp only [Wv]
 have hbs:∀ (σ : af) (q:Id),bU σ q (.buildSl 1 1 (.int .u32 0) [(0, .int .u32 1)])=some { val := .osl q 1 0 1 false,up:=[(q,some ⟨us [1],1,false⟩)] }:=fun σ q=>Cl (x:=1)
 have k23:([2]:List Nat)≠[3]:=by decide
 have k0b:([0]:List Nat)≠[33]:=by decide
 have k1b:([1]:List Nat)≠[33]:=by decide
 by_cases LR:LW a b=true
 . by_cases hr:0<a.natAbs%b.natAbs
   . have d1:=ag5 hr
     obtain ⟨g1,g2⟩:=JE (a.natAbs/b.natAbs+1) (b.natAbs-a.natAbs%b.natAbs) (by unfold Ub;rw [if_pos ⟨LR,hr⟩]) (by unfold Uc;rw [if_pos ⟨LR,hr⟩]) (by omega) (by omega)
     rw [LR] at g1
     simp only [SS,Nat.reduceAdd,LR,bg,d1,hbs]
     refine bB [([33],⟨us [1],1,false⟩)] hpv (aF.cons (View.pure (ay _)) (aF.cons Ud aF.nil)) (by simp [af.put]) ?_
     simp only [SS,Nat.reduceAdd]
     refine ah HX (by simp [ay]) ?_
     simp only [SS,DD,Nat.reduceAdd,af.app,Di,aq yb,aq DZ,aq k03,aq A8,aq ZF,aq k0b,aq k1b,ao,jR,Wv,LR]
     refine aj g1 (by simp [aa.bool,ay]) ?_
     simp only [SS,DD,Nat.reduceAdd,aq A8,aq ZF,aq k1b,ao,jR]
     refine aj g2 (by simp [aa.bool,ay]) ?_
     simp only [SS,DD,Nat.reduceAdd]
     rw [dh (k:=(AV.agg [.bool false, .nils]).size) (y := .agg [.bool false, .nils]) rfl (rT _) (by simp [af.put])]
     simp only [SS,DD,Nat.reduceAdd]
     rw [dh (k:=(AV.agg [.bool false, .nils]).size) (y := .agg [.bool false, .nils]) rfl (rT _) (by simp [af.put])]
     simp only [SS,DD,Nat.reduceAdd]
     refine ⟨by simp [ab,apart], ?_⟩
     refine ak▸ae (r := .tup [IV (xe true (Ub a b)),IV (xe (decide (b<0)) (Uc a b)), .int .i64 0]) ?_ (aa.tup (by intro c hc;simp at hc;rcases hc with rfl | rfl | rfl;exact au _;exact au _;exact aa.int _ _))
     simp only [RS,aY,a7,aq k23,ao,c9]
   . have d1:=adL hr
     obtain ⟨g1,g2⟩:=JE (a.natAbs/b.natAbs) (a.natAbs%b.natAbs) (by unfold Ub;rw [if_neg (fun e=>hr e.2)]) (by unfold Uc;rw [if_neg (fun e=>hr e.2)]) (by omega) (by omega)
     rw [LR] at g1
     simp only [SS,DD,Nat.reduceAdd,LR,bg,d1]
     simp only [SS,DD,Nat.reduceAdd,af.app,aq yb,aq DZ,aq k03,aq A8,aq ZF,ao,jR,Wv,LR]
     refine aj g1 (by simp [aa.bool,ay]) ?_
     simp only [SS,DD,Nat.reduceAdd,aq A8,aq ZF,ao,jR]
     refine aj g2 (by simp [aa.bool,ay]) ?_
     simp only [SS,DD,Nat.reduceAdd]
     rw [dh (k:=(AV.agg [.bool false, .nils]).size) (y := .agg [.bool false, .nils]) rfl (rT _) (by simp [af.put])]
     simp only [SS,DD,Nat.reduceAdd]
     rw [dh (k:=(AV.agg [.bool false, .nils]).size) (y := .agg [.bool false, .nils]) rfl (rT _) (by simp [af.put])]
     simp only [SS,DD,Nat.reduceAdd]
     refine ⟨by simp [ab,apart], ?_⟩
     refine ak▸ae (r := .tup [IV (xe true (Ub a b)),IV (xe (decide (b<0)) (Uc a b)), .int .i64 0]) ?_ (aa.tup (by intro c hc;simp at hc;rcases hc with rfl | rfl | rfl;exact au _;exact au _;exact aa.int _ _))
     simp only [RS,aY,a7,aq k23,ao,c9]
 . have hsf:LW a b=false:=by simpa using LR
   obtain ⟨g1,g2⟩:=JE (a.natAbs/b.natAbs) (a.natAbs%b.natAbs) (by unfold Ub;rw [if_neg (fun e=>LR e.1)]) (by unfold Uc;rw [if_neg (fun e=>LR e.1)]) (by omega) (by omega)
   rw [hsf] at g1
   simp only [SS,DD,Nat.reduceAdd,hsf]
   simp only [SS,DD,Nat.reduceAdd,af.app,aq yb,aq DZ,aq k03,aq A8,aq ZF,ao,jR,Wv,hsf]
   refine aj g1 (by simp [aa.bool,ay]) ?_
   simp only [SS,DD,Nat.reduceAdd,aq A8,aq ZF,ao,jR]
   refine aj g2 (by simp [aa.bool,ay]) ?_
   simp only [SS,DD,Nat.reduceAdd]
   rw [dh (k:=(AV.agg [.bool false, .nils]).size) (y := .agg [.bool false, .nils]) rfl (rT _) (by simp [af.put])]
   simp only [SS,DD,Nat.reduceAdd]
   rw [dh (k:=(AV.agg [.bool false, .nils]).size) (y := .agg [.bool false, .nils]) rfl (rT _) (by simp [af.put])]
   simp only [SS,DD,Nat.reduceAdd]
   refine ⟨by simp [ab,apart], ?_⟩
   refine ak▸ae (r := .tup [IV (xe false (Ub a b)),IV (xe (decide (b<0)) (Uc a b)), .int .i64 0]) ?_ (aa.tup (by intro c hc;simp at hc;rcases hc with rfl | rfl | rfl;exact au _;exact au _;exact aa.int _ _))
   simp only [RS,aY,a7,aq k23,ao,c9]
end
end Go.VL
end

section
namespace Go.VL
theorem JW {a b q r:Int} (hb:0<b) (h:a=b*q+r) (h0:0<=r) (h1:r<b):a.fdiv b=q/\a.fmod b=r:=by
 have:=(Int.ediv_emod_unique (a:=a) (b:=b) (r:=r) (q:=q) hb).2 ⟨by omega,h0,h1⟩
 rw [Int.fdiv_eq_ediv_of_nonneg _ (Int.le_of_lt hb),Int.fmod_eq_emod_of_nonneg _ (Int.le_of_lt hb)]
 exact this
theorem aa2 (a b:Int):a.fdiv b=(-a).fdiv (-b)/\a.fmod b = -((-a).fmod (-b)):=by
 have h1:(-a).fdiv (-b)=a.fdiv b:=Int.neg_fdiv_neg a b
 refine ⟨h1.symm, ?_⟩
 have h2:=Int.mul_fdiv_add_fmod a b
 have h3:=Int.mul_fdiv_add_fmod (-a) (-b)
 rw [h1,Int.neg_mul] at h3
 omega
theorem Xv {m n:Nat} (hn:n≠0):((m:Int).fdiv n=(m/n:Nat)/\(m:Int).fmod n=(m%n:Nat)) /\
   (m%n=0->(-(m:Int)).fdiv n = -((m/n:Nat):Int)/\(-(m:Int)).fmod n=0)/\(0<m%n->(-(m:Int)).fdiv n = -((m/n+1:Nat):Int)/\(-(m:Int)).fmod n=((n-m%n:Nat):Int)):=by
 have hlt:m%n<n:=Nat.mod_lt _ (Nat.pos_of_ne_zero hn)
 have e:(m:Int)=(n:Int)*((m/n:Nat):Int)+((m%n:Nat):Int):=by
   rw [<- Int.natCast_mul, <- Int.natCast_add,Nat.div_add_mod]
 generalize m/n=q at *
 generalize m%n=r at *
 refine ⟨JW (by omega) e (by omega) (by omega),fun h=>JW (by omega) ?_ (by omega) (by omega),fun h=>JW (by omega) ?_ (by omega) (by omega)⟩
 . rw [Int.mul_neg];omega
 . rw [Int.mul_neg,Int.natCast_add,Int.mul_add];omega
theorem Uf (a b:Int) (hb:b≠0):xe (LW a b) (Ub a b)=a.fdiv b/\xe (decide (b<0)) (Uc a b)=a.fmod b:=by
 have ZE:b.natAbs≠0:=by omega
 obtain ⟨⟨c1,c2⟩,c3,c4⟩:=Xv (m:=a.natAbs) ZE
 unfold Ub Uc
 by_cases h1:b<0
 . have eb : -b=(b.natAbs:Int):=by omega
   obtain ⟨n1,n2⟩:=aa2 a b
   rw [n1,n2,eb]
   by_cases h2:a<0
   . have ea : -a=(a.natAbs:Int):=by omega
     have hd:LW a b=false:=by simp [LW,h1,h2]
     rw [ea,c1,c2,hd]
     simp [xe,h1]
   . have ea : -a = -(a.natAbs:Int):=by omega
     have hd:LW a b=true:=by simp [LW,h1,h2]
     rw [ea,hd]
     by_cases hr:0<a.natAbs%b.natAbs
     . rw [(c4 hr).1,(c4 hr).2,if_pos ⟨rfl,hr⟩,if_pos ⟨rfl,hr⟩]
       simp [xe,h1]
     . have h0:a.natAbs%b.natAbs=0:=by omega
       rw [(c3 h0).1,(c3 h0).2,if_neg (fun e=>hr e.2),if_neg (fun e=>hr e.2),h0]
       simp [xe,h1]
 . have eb:b=(b.natAbs:Int):=by omega
   have C1:decide (b<0)=false:=ar h1
   by_cases h2:a<0
   . have ea:a = -(a.natAbs:Int):=by omega
     have hd:LW a b=true:=by simp [LW,h1,h2]
     rw [hd,C1]
     by_cases hr:0<a.natAbs%b.natAbs
     . have q1:=(c4 hr).1
       have q2:=(c4 hr).2
       rw [<- ea, <- eb] at q1 q2
       rw [q1,q2,if_pos ⟨rfl,hr⟩,if_pos ⟨rfl,hr⟩]
       exact ⟨rfl,rfl⟩
     . have h0:a.natAbs%b.natAbs=0:=by omega
       have q1:=(c3 h0).1
       have q2:=(c3 h0).2
       rw [<- ea, <- eb] at q1 q2
       rw [q1,q2,if_neg (fun e=>hr e.2),if_neg (fun e=>hr e.2),h0]
       exact ⟨rfl,rfl⟩
   . have ea:a=(a.natAbs:Int):=by omega
     have hd:LW a b=false:=by simp [LW,h1,h2]
     rw [<- ea, <- eb] at c1 c2
     rw [c1,c2,hd,C1]
     simp [xe]
end Go.VL
end

section
set_option linter.unusedVariables false
namespace Go.VL
theorem u3 {σ : af} {id:Id} {k:Nat} {a b:Int} (h : σ id=some ⟨[.agg [.bool false, .nils, .bool false, .nils]],k,false⟩):fy σ 4 (.ref id 0 0) (RV a b)=some { val := .tup [],rd:=[id],up:=[(id,some ⟨[RV a b],k,false⟩)] }:=by
 rw [eO (n:=4) (v:=RV a b) h rfl rfl (by simp [AV.size,AV.cells]) rfl]
 rfl
section
variable {P:Program} {G:Nat->Option (List AV)}
theorem Rm {f fg fn fq:FuncId} (h:Has P f (oe fg fn fq)) (a b g:Int) (hg:VP P G fg [IV a,IV b] (IV g)) (hn:VP P G fn [IV g] (IV (-g)))
   (hq:∀ x y:Int,(x=a∨x=b)->(y=g∨y = -g)->VP P G fq [IV x,IV y] (IV (x.fdiv y))):VP P G f [IV a,IV b] (RV (a.fdiv (if b<0 then -g else g)) (b.fdiv (if b<0 then -g else g))):=by
 refine VP.has h ?_
 have yb:([0]:List Nat)≠[1]:=by decide
 have DZ:([0]:List Nat)≠[2]:=by decide
 have k06:([0]:List Nat)≠[6]:=by decide
 have A8:([1]:List Nat)≠[2]:=by decide
 have k16:([1]:List Nat)≠[6]:=by decide
 simp only [oe,SS,Nat.reduceAdd,gZ,cv,aq yb,aq DZ,aq A8,ao,c9]
 refine ah hg (by simp [au]) ?_
 simp only [SS,Nat.reduceAdd,b9,iV,aq A8,aq k16,ao,jR]
 have SQ:∀ x y:Int,(AV.agg [.bool (decide (x<0)),W x.natAbs, .bool (decide (y<0)),W y.natAbs])=RV x y:=fun _ _=>rfl
 by_cases JX:decide (b<0)=true
 . have e:(if b<0 then -g else g)=(-g):=by simp at JX;first | exact if_pos JX | exact if_neg (by omega)
   rw [e]
   have q1:=hq a (-g) (.inl rfl) (by simp)
   have q2:=hq b (-g) (.inr rfl) (by simp)
   simp only [SS,Nat.reduceAdd,JX,ao,c9]
   first
     | refine ah hn (by simp [au]) ?_
       simp only [SS,Nat.reduceAdd]
       rw [dh (k:=(AV.agg [.bool false, .nils]).size) (y:=IV g) rfl (A5 _ _) (by simp [af.put])]
       simp only [SS,DD,Nat.reduceAdd,aq yb,aq DZ,aq k06,ao,c9]
     | skip
   refine aj q1 (by simp [au]) ?_
   simp only [SS,DD,Nat.reduceAdd,aq A8,aq k16,ao,c9]
   refine aj q2 (by simp [au]) ?_
   simp only [SS,DD,Nat.reduceAdd,Ct,SQ]
   rw [u3 (k:=(AV.agg [.bool false, .nils, .bool false, .nils]).size) (by simp [af.put])]
   simp only [SS,DD,Nat.reduceAdd]
   refine ⟨by simp [ab,apart], ?_⟩
   refine ak▸ae (r:=RV (a.fdiv (-g)) (b.fdiv (-g))) ?_ (sQ _ _)
   simp only [RS,aY,a7,ao]
   rfl
 by_cases JY:decide (b<0)=false
 . have e:(if b<0 then -g else g)=g:=by simp at JY;first | exact if_pos JY | exact if_neg (by omega)
   rw [e]
   have q1:=hq a g (.inl rfl) (by simp)
   have q2:=hq b g (.inr rfl) (by simp)
   simp only [SS,DD,Nat.reduceAdd,JY,aq yb,aq DZ,aq k06,ao,c9]
   first
     | refine ah hn (by simp [au]) ?_
       simp only [SS,Nat.reduceAdd,reduceIte]
       rw [dh (k:=(AV.agg [.bool false, .nils]).size) (y:=IV g) rfl (A5 _ _) (by simp [af.put])]
       simp only [SS,DD,Nat.reduceAdd,reduceIte,aq yb,aq DZ,aq A8,aq k16,aq k06,ao,c9]
     | skip
   refine aj q1 (by simp [au]) ?_
   simp only [SS,DD,Nat.reduceAdd,aq A8,aq k16,ao,c9]
   refine aj q2 (by simp [au]) ?_
   simp only [SS,DD,Nat.reduceAdd,Ct,SQ]
   rw [u3 (k:=(AV.agg [.bool false, .nils, .bool false, .nils]).size) (by simp [af.put])]
   simp only [SS,DD,Nat.reduceAdd]
   refine ⟨by simp [ab,apart], ?_⟩
   refine ak▸ae (r:=RV (a.fdiv g) (b.fdiv g)) ?_ (sQ _ _)
   simp only [RS,aY,a7,ao]
   rfl
 . exfalso;revert JX JY;cases decide (b<0)<;>simp
end
end Go.VL
end

section
set_option linter.unusedVariables false
namespace Go.VL
section
variable {P:Program} {G:Nat->Option (List AV)}
theorem Xw {f fi fm fo fl:FuncId} (h:Has P f (og fi fm fo fl)) (a b c d:Int) (x:AV) {x1 x2:Int} (hx:x=RV x1 x2) (hi:∀ z,VP P G fi [IV z] (.bool (decide (z=1)))) (Zf:VP P G fm [IV a,IV c] (IV (a*c))) (Bu:VP P G fm [IV b,IV d] (IV (b*d))) (ho:VP P G fo [] (IV 1))
   (hl:VP P G fl [IV (a*c),IV (b*d)] x):VP P G f [RV a b,RV c d] (if b=1/\d=1 then RV (a*c) 1 else x):=by
 refine VP.has h ?_
 have yb:([0]:List Nat)≠[1]:=by decide
 have DZ:([0]:List Nat)≠[2]:=by decide
 have A8:([1]:List Nat)≠[2]:=by decide
 have SQ:∀ x y:Int,(AV.agg [.bool (decide (x<0)),W x.natAbs, .bool (decide (y<0)),W y.natAbs])=RV x y:=fun _ _=>rfl
 subst hx
 simp only [og,SS,Nat.reduceAdd,NL,cv,aq yb,aq DZ,ao,PX]
 refine ah (hi b) (by simp [au]) ?_
 have PY:∀ (h : ¬ (b=1/\d=1)),(if b=1/\d=1 then RV (a*c) 1 else RV x1 x2)=RV x1 x2:=fun h=>if_neg h
 by_cases hb:b=1
 . have d1:decide (b=1)=true:=aw hb
   simp only [SS,Nat.reduceAdd,d1,aq A8,ao,PX]
   refine ah (hi d) (by simp [au]) ?_
   by_cases hd:d=1
   . have d2:decide (d=1)=true:=aw hd
     rw [if_pos ⟨hb,hd⟩]
     simp only [SS,Nat.reduceAdd,d2,aq yb,aq DZ,aq A8,ao,PW]
     refine ah Zf (by simp [au]) ?_
     simp only [SS,Nat.reduceAdd]
     refine ah ho (by simp) ?_
     simp only [SS,Nat.reduceAdd,Ct,SQ]
     rw [u3 (k:=(AV.agg [.bool false, .nils, .bool false, .nils]).size) (by simp [af.put])]
     simp only [SS,Nat.reduceAdd]
     refine ak▸ae (r:=RV (a*c) 1) ?_ (sQ _ _)
     simp only [RS,aY,a7,ao]
     rfl
   . have d2:decide (d=1)=false:=ar hd
     rw [PY fun e=>hd e.2]
     simp only [SS,DD,Nat.reduceAdd,d2,aq yb,aq DZ,aq A8,ao,PW]
     refine aj Zf (by simp [au]) ?_
     simp only [SS,DD,Nat.reduceAdd,aq yb,aq DZ,aq A8,ao,PX]
     refine aj Bu (by simp [au]) ?_
     simp only [SS,DD,Nat.reduceAdd]
     refine aj hl (by simp [au]) ?_
     simp only [SS,DD,Nat.reduceAdd]
     rw [u3 (k:=(AV.agg [.bool false, .nils, .bool false, .nils]).size) (by simp [af.put])]
     simp only [SS,DD,Nat.reduceAdd]
     refine ⟨by simp [ab,apart], ?_⟩
     refine ak▸ae (r:=RV x1 x2) ?_ (sQ _ _)
     simp only [RS,aY,a7,ao]
     rfl
 . have d1:decide (b=1)=false:=ar hb
   rw [PY fun e=>hb e.1]
   simp only [SS,DD,Nat.reduceAdd,d1,aq yb,aq DZ,aq A8,ao,PW]
   refine aj Zf (by simp [au]) ?_
   simp only [SS,DD,Nat.reduceAdd,aq yb,aq DZ,aq A8,ao,PX]
   refine aj Bu (by simp [au]) ?_
   simp only [SS,DD,Nat.reduceAdd]
   refine aj hl (by simp [au]) ?_
   simp only [SS,DD,Nat.reduceAdd]
   rw [u3 (k:=(AV.agg [.bool false, .nils, .bool false, .nils]).size) (by simp [af.put])]
   simp only [SS,DD,Nat.reduceAdd]
   refine ⟨by simp [ab,apart], ?_⟩
   refine ak▸ae (r:=RV x1 x2) ?_ (sQ _ _)
   simp only [RS,aY,a7,ao]
   rfl
end
end Go.VL
end

section
set_option linter.unusedVariables false
namespace Go.VL
def IR (neg:Bool) (ws:List Nat):AV := .agg [.bool neg, .sl 1 (us ws)]
theorem Ug (neg:Bool) (ws:List Nat):((IR neg ws).cells.all AV.one=true)=True:=by simp [IR,AV.cells,AV.one]
theorem Uh (neg:Bool) (ws:List Nat):part false (IR neg ws).cells 0 1=some (.bool neg):=rfl
theorem LX (neg:Bool) (ws:List Nat):part false (IR neg ws).cells 1 1=some (.sl 1 (us ws)):=rfl
def pK (neg:Bool) (ws:List Nat):Bool:=if ws=[] then !neg else decide (ws[ws.length-1]?.getD 0≠0)
section
variable {P:Program} {G:Nat->Option (List AV)}
theorem Rn {f:FuncId} (h:Has P f qc) (neg:Bool) (ws:List Nat) (hl:ws.length<=9223372036854775807):VP P G f [IR neg ws] (.bool (pK neg ws)):=by
 refine VP.has h ?_
 have hlen:sX false (.sl 1 (us ws))=some (.int .i64 ws.length):=by simp [sX,gj]
 simp only [qc,SS,Nat.reduceAdd,Ug,ao,LX,hlen]
 by_cases h0:ws=[]
 . have d0:decide ((ws.length:Int)=0)=true:=aw (by rw [h0];rfl)
   have d1:decide ((0:Int)<(ws.length:Int))=false:=ar (by rw [h0];simp)
   have e:pK neg ws = !neg:=by unfold pK;rw [if_pos h0]
   rw [e]
   cases neg <;>
   . simp only [SS,Nat.reduceAdd,d0,d1,ao,Uh]
     exact ak▸ae rfl (aa.bool _)
 . have p8:0<ws.length:=List.length_pos_iff.2 h0
   have d0:decide ((ws.length:Int)=0)=false:=ar (by omega)
   have d1:decide ((0:Int)<(ws.length:Int))=true:=aw (by omega)
   obtain ⟨w,hw⟩:∃ w,ws[ws.length-1]? = some w:=⟨_,List.getElem?_eq_getElem (by omega)⟩
   have hp:=uc ws.length p8 hl
   have e:pK neg ws=decide ((w:Int)≠0):=by unfold pK;rw [if_neg h0,hw];simp
   rw [e]
   simp only [SS,Nat.reduceAdd,d0,d1,ao,LX,hp,iM rfl (xd hw),aH,bl]
   exact ak▸ae rfl (aa.bool _)
end
end Go.VL
end

section
set_option linter.unusedVariables false
namespace Go.VL
theorem sR {n:Nat} (h:ag n<=2):n<18446744073709551616:=by
 have h1:=cU n
 have h2:aE ^ ag n<=aE ^ 2:=Nat.pow_le_pow_right cV h
 have h3:aE ^ 2=18446744073709551616:=by decide
 omega
theorem zk {x y g:Nat} (hg:Nat.gcd x y=g):Nat.gcd y (x%y)=g:=by rw [<- hg,Nat.gcd_comm y, <- Nat.gcd_rec,Nat.gcd_comm]
theorem D0 (n:Nat):xe false n=(n:Int):=by simp [xe]
section
variable {P:Program} {G:Nat->Option (List AV)}
theorem aa3 {f ft fd fc fs ftu fu:FuncId} (h:Has P f (tc ft fd fc fs ftu fu)) (ht:iT P G ft) (hd:∀ m n,n≠0->ag m<=900000->ag n<=900000->VP P G fd [W m,W n] (.tup [W (m/n),W (m%n)]))
   (hc:∀ n,ag n<=1000000->VP P G fc [W n] (W n)) (hs:iW P G fs) (ZG:∀ n,n<18446744073709551616->VP P G ftu [W n] (.int .u64 ((n:Nat):Int))) (hu:∀ n,n<18446744073709551616->VP P G fu [.int .u64 ((n:Nat):Int)] (W n))
   (a b:Int) (ha:ag a.natAbs<=900000) (hb:ag b.natAbs<=900000):VP P G f [IV a,IV b] (IV (Nat.gcd a.natAbs b.natAbs:Nat)):=by
 refine VP.has h ?_
 have yb:([0]:List Nat)≠[1]:=by decide
 have DZ:([0]:List Nat)≠[2]:=by decide
 have A8:([1]:List Nat)≠[2]:=by decide
 simp only [tc,SS,DD,Nat.reduceAdd,gZ,b9,aq yb,aq DZ,ao,iD]
 refine aj (oQ ht a.natAbs (by omega)) (by simp [ay]) ?_
 simp only [SS,DD,Nat.reduceAdd,aq A8,ao,iD]
 refine aj (oQ ht b.natAbs (by omega)) (by simp [ay]) ?_
 simp only [SS,DD,Nat.reduceAdd]
 refine ⟨by simp [ab,apart], ?_⟩
 simp only [aK]
 refine VW.dQ (α := Nat × Nat × Nat) (fun x=>⟨[IV a,IV b, .top, .top, .ref [2] 0 0,W x.1,W x.2.1]++List.replicate 50 .top,
   af.put (fun _=>none) [2] (some ⟨[.agg [.bool false, .nils]],(AV.agg [.bool false, .nils]).size,false⟩),x.2.2⟩)
   (fun x=>Nat.gcd x.1 x.2.1=Nat.gcd a.natAbs b.natAbs/\ag x.1<=900000/\ag x.2.1<=900000) (fun x=>x.2.1) (a.natAbs,b.natAbs,1000) ?_ ?_ ?_
 . exact Wk.forget (by simp [Fg,List.replicate]) (fun j=>by simp only [af.put];split<;>simp_all) (by simp only [];omega)
 . exact ⟨rfl,ha,hb⟩
 rintro ⟨x,y,nn⟩ ⟨hg,hx,hy⟩
 simp only [] at hg hx hy
 have g1:2<ag y->decide ((2:Int)<(ag y:Int))=true:=fun h=>aw (by omega)
 have g2 : ¬ 2<ag y->decide ((2:Int)<(ag y:Int))=false:=fun h=>ar (by omega)
 have g3:2<ag x->decide ((2:Int)<(ag x:Int))=true:=fun h=>aw (by omega)
 have g4 : ¬ 2<ag x->decide ((2:Int)<(ag x:Int))=false:=fun h=>ar (by omega)
 have g5:0<ag y->decide ((0:Int)<(ag y:Int))=true:=fun h=>aw (by omega)
 have g6 : ¬ 0<ag y->decide ((0:Int)<(ag y:Int))=false:=fun h=>ar (by omega)
 have e1:0<ag y->decide ((ag y:Int)=0)=false:=fun h=>ar (by omega)
 have e2 : ¬ 0<ag y->decide ((ag y:Int)=0)=true:=fun h=>aw (by omega)
 have Ui:0<ag y->y≠0:=fun h e=>by have:=cG.2 e;omega
 have OU : ¬ 0<ag y->y=0:=fun h=>cG.1 (by omega)
 have hp2:2<ag y->0<ag y:=fun h=>by omega
 have w1:=GU x y
 have hw2:ag (x%y)<=900000:=by omega
 have hcx:ag x<=1000000:=by omega
 have ZH:ag x<=9223372036854775807:=by omega
 have hxx : ¬ 2<ag x->x<18446744073709551616:=fun h=>sR (by omega)
 have hyy : ¬ 2<ag y->y<18446744073709551616:=fun h=>sR (by omega)
 have PY:∀ g,g<18446744073709551616->ag g<=9223372036854775807:=fun g h=>by have:=pI g h;omega
 clear w1
 simp only [SS,Nat.reduceAdd]
 by_cases c1:2<ag y
 . have p8:=hp2 c1
   have hdv:=hd x y (Ui p8) hx hy
   simp only [SS,Nat.reduceAdd,bg,g1 c1]
   refine ah hdv (by simp [ay]) ?_
   simp only [SS,Nat.reduceAdd,A6,A7]
   exact ⟨(y,x%y,_),⟨zk hg,hy,hw2⟩,Nat.mod_lt _ (Nat.pos_of_ne_zero (Ui p8)),Wk.slots (by simp [Fg]) (Nat.le_refl _)⟩
 by_cases c3:0<ag y
 . by_cases c2:2<ag x
   . have hdv:=hd x y (Ui c3) hx hy
     simp only [SS,Nat.reduceAdd,bg,g2 c1,g3 c2,g5 c3]
     refine ah hdv (by simp [ay]) ?_
     simp only [SS,Nat.reduceAdd,A6,A7]
     exact ⟨(y,x%y,_),⟨zk hg,hy,hw2⟩,Nat.mod_lt _ (Nat.pos_of_ne_zero (Ui c3)),Wk.slots (by simp [Fg]) (Nat.le_refl _)⟩
   . simp only [SS,Nat.reduceAdd,bg,g2 c1,g4 c2,e1 c3]
     refine ah (ZG x (hxx c2)) (by simp [ay]) ?_
     simp only [SS,Nat.reduceAdd]
     refine ah (ZG y (hyy c1)) (by simp [ay]) ?_
     simp only [SS,Nat.reduceAdd,aK]
     refine VW.dQ (α := Nat × Nat × Nat) (fun x=>⟨[IV a,IV b, .top, .top, .ref [2] 0 0, .top, .top, .top, .top, .int .u64 ((x.1:Nat):Int), .int .u64 ((x.2.1:Nat):Int)]++List.replicate 46 .top,
       af.put (fun _=>none) [2] (some ⟨[.agg [.bool false, .nils]],(AV.agg [.bool false, .nils]).size,false⟩),x.2.2⟩)
       (fun x=>Nat.gcd x.1 x.2.1=Nat.gcd a.natAbs b.natAbs/\x.1<18446744073709551616/\x.2.1<18446744073709551616) (fun x=>x.2.1) (x,y,nn+1000) ?_ ?_ ?_
     . exact Wk.slots (by simp [Fg,List.replicate]) (by simp only [];omega)
     . exact ⟨hg,hxx c2,hyy c1⟩
     rintro ⟨u,v,mm⟩ ⟨Nh,M9,hv'⟩
     simp only [] at Nh M9 hv'
     by_cases v0:v=0
     . subst v0
       have d0:decide (((0:Nat):Int)≠0)=false:=by decide
       rw [Nat.gcd_zero_right] at Nh
       have eE:=hs false u (PY u M9)
       rw [D0] at eE
       simp only [SS,Nat.reduceAdd,d0]
       refine ah (hu u M9) (by simp [aa.int]) ?_
       simp only [SS,Nat.reduceAdd]
       refine ah eE (by simp [aa.bool,ay]) ?_
       simp only [SS,Nat.reduceAdd,iV]
       rw [<- Nh]
       refine ak▸ae (r:=IV (u:Int)) ?_ (au _)
       simp only [RS,aY,a7,ao];rfl
     . have d0:decide ((v:Int)≠0)=true:=aw (by omega)
       have f1:=I3 u v v0
       have hlt:u%v<18446744073709551616:=Nat.lt_of_le_of_lt (Nat.mod_le _ _) M9
       simp only [SS,DD,Nat.reduceAdd,d0,f1]
       first
       | exact ⟨(v,u%v,_),⟨zk Nh,hv',hlt⟩,Nat.mod_lt _ (Nat.pos_of_ne_zero v0),Wk.slots (by simp [Fg,List.replicate]) (Nat.le_refl _)⟩
       | exact ⟨by simp [ab,apart],(v,u%v,_),⟨zk Nh,hv',hlt⟩,Nat.mod_lt _ (Nat.pos_of_ne_zero v0),Wk.slots (by simp [Fg]) (Nat.le_refl _)⟩
 . have hyz:=OU c3
   rw [hyz,Nat.gcd_zero_right] at hg
   have eE:=hs false x ZH
   rw [D0] at eE
   by_cases c2:2<ag x
   . simp only [SS,Nat.reduceAdd,bg,g2 c1,g3 c2,g6 c3,e2 c3]
     refine ah (hc x hcx) (by simp [ay]) ?_
     simp only [SS,Nat.reduceAdd]
     refine ah eE (by simp [aa.bool,ay]) ?_
     simp only [SS,Nat.reduceAdd,iV]
     rw [<- hg]
     refine ak▸ae (r:=IV (x:Int)) ?_ (au _)
     simp only [RS,aY,a7,ao];rfl
   . simp only [SS,Nat.reduceAdd,bg,g2 c1,g4 c2,e2 c3]
     refine ah (hc x hcx) (by simp [ay]) ?_
     simp only [SS,Nat.reduceAdd]
     refine ah eE (by simp [aa.bool,ay]) ?_
     simp only [SS,Nat.reduceAdd,iV]
     rw [<- hg]
     refine ak▸ae (r:=IV (x:Int)) ?_ (au _)
     simp only [RS,aY,a7,ao];rfl
end
end Go.VL
end
