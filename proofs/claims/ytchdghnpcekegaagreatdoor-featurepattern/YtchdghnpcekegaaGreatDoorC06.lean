/- For the claim of FeaturePattern: parts CI3, CI4, CI5, CI6, CI7, CI8, CI9, CI10, CI11, CI12, CI13, CI14, CI15, CI16, CI17, CI18, FD, CI19, CI20, CI21, CI23. -/
import Derived.Test.YtchdghnpcekegaaGreatDoorC05
import Derived.Laws.Bits64
import Derived.Laws.BitsAllLaws
set_option linter.unusedSimpArgs false
set_option linter.unusedVariables false
section
set_option linter.unusedVariables false
namespace Go.VL
theorem zL {a b:Int} (h:a<b):jk a b = -1:=by simp [jk,h]
theorem zM {a b:Int} (h:b<a):jk a b=1:=by simp [jk,h];omega
theorem PI {a b:Int} (h:a=b):jk a b=0:=by simp [jk,h]
theorem bn (m:Nat):p7 false (W m)=some (.int .i64 (ak m)):=by simp [W,p7,gu,ak]
theorem xp {m n:Nat} (h:ak m<ak n):m<n:=by
 rcases Nat.lt_or_ge m n with h1 | h1
 . exact h1
 . have:=bJ h1;omega
theorem di {m i w:Nat} (h:(digits m)[i]? = some w):cW 1 (W m) (.int .i64 (i:Int))=some (.ep (AV.int .u32 (w:Int)).cells 0):=iM rfl (xm h)
section
variable {P:Program} {G:Nat->Option (List AV)}
theorem Nw {f fi fw:FuncId} (h:Has P f (nX fi fw)) (hi:∀ a b:Int,VP P G fi [.int .i64 a, .int .i64 b] (.int .i64 (jk a b))) (hw:∀ a b:Int,VP P G fw [.int .u32 a, .int .u32 b] (.int .i64 (jk a b)))
   (m n:Nat) (hm:ak m<9223372036854775807) (hn:ak n<9223372036854775807):VP P G f [W m,W n] (.int .i64 (fY m n)):=by
 refine VP.has h ?_
 simp only [nX,SS,Nat.reduceAdd,bn]
 by_cases hl:ak m=ak n
 case neg =>
   have d:decide ((ak m:Int)≠(ak n:Int))=true:=aG (by omega)
   simp only [SS,Nat.reduceAdd,bn,d]
   refine ao (hi _ _) (by simp [aa.int]) ?_
   simp only [SS,Nat.reduceAdd]
   have e:jk (ak m:Int) (ak n:Int)=fY m n:=by
     rcases Nat.lt_or_ge (ak m) (ak n) with h1 | h1
     . have h2:=xp h1
       rw [zL (by omega)];unfold fY;rw [zL (by omega)]
     . have h1':ak n<ak m:=by omega
       have h2:=xp h1'
       rw [zM (by omega)];unfold fY;rw [zM (by omega)]
   rw [e]
   exact ax▸ae rfl (aa.int _ _)
 have d:decide ((ak m:Int)≠(ak n:Int))=false:=aD (by omega)
 have ew:IntKind.i64.wrap ((ak m:Int)-1)=(ak m:Int)-1:=by rw [IntKind.wrap_i64];omega
 have hd0:(digits m).drop (ak m)=(digits n).drop (ak m):=by
   have e1:(digits m).drop (ak m)=[]:=List.drop_of_length_le (Nat.le_refl _)
   have e2:(digits n).drop (ak m)=[]:=List.drop_of_length_le (by show ak n<=ak m;omega)
   rw [e1,e2]
 simp only [SS,Nat.reduceAdd,bn,d,ew,az]
 refine VW.dU (α := Nat × Nat) (fun x=>⟨[W m,W n, .top, .top, .top, .int .i64 ((x.1:Int)-1)]++List.replicate 35 .top,fun _=>none,x.2⟩) (fun x=>x.1<=ak m/\(digits m).drop x.1=(digits n).drop x.1) (fun x=>x.1) (ak m,10) ?_
   ⟨Nat.le_refl _,hd0⟩ ?_
 . exact Wk.slots (by simp [Fg,List.replicate]) (Nat.le_refl _)
 rintro ⟨j,q⟩ ⟨hj,hd⟩
 simp only [] at hj hd
 simp only [SS,Nat.reduceAdd]
 by_cases h0:j=0
 . subst h0
   have d0:decide ((0:Int)<=((0:Nat):Int)-1)=false:=by decide
   simp only [SS,d0]
   have e:m=n:=by
     simp only [List.drop_zero] at hd
     rw [<- aZ m,hd,aZ]
   have e2:fY m n=0:=PI (by omega)
   rw [e2]
   exact ax▸ae rfl (aa.int _ _)
 . have p8:0<j:=Nat.pos_of_ne_zero h0
   have d0:decide ((0:Int)<=((j-1:Nat):Int))=true:=aG (by omega)
   have ej:(j:Int)-1=((j-1:Nat):Int):=by omega
   have hjm:j-1<(digits m).length:=by show j-1<ak m;omega
   have Qu:j-1<(digits n).length:=by show j-1<ak n;omega
   have ew2:IntKind.i64.wrap (((j-1:Nat):Int)-1)=((j-1:Nat):Int)-1:=by rw [IntKind.wrap_i64];omega
   obtain ⟨x,hx⟩:∃ x,(digits m)[j-1]? = some x:=⟨_,List.getElem?_eq_getElem hjm⟩
   obtain ⟨y,hy⟩:∃ y,(digits n)[j-1]? = some y:=⟨_,List.getElem?_eq_getElem Qu⟩
   have Wa:(digits m).drop (j-1+1)=(digits n).drop (j-1+1):=by rw [show j-1+1=j from by omega];exact hd
   have hap:ab (([]:List eT)) ([]:List (Nat × Nat)):=by simp [ab]
   by_cases JM:x=y
   . have d1:decide ((x:Int)≠(y:Int))=false:=aD (by omega)
     simp only [SS,DD,Nat.reduceAdd,d0,ej,di hx,di hy,aN,bq,d1,ew2]
     refine ⟨by simp [ab],(j-1,_),⟨by simp only [];omega, ?_⟩,by simp only [];omega,Wk.slots (by simp [Fg]) (Nat.le_refl _)⟩
     simp only []
     rw [List.drop_eq_getElem_cons hjm,List.drop_eq_getElem_cons Qu,Wa]
     obtain ⟨_,h1⟩:=List.getElem?_eq_some_iff.1 hx
     obtain ⟨_,h2⟩:=List.getElem?_eq_some_iff.1 hy
     rw [h1,h2,JM]
   . have d1:decide ((x:Int)≠(y:Int))=true:=aG (by omega)
     have e:jk (x:Int) (y:Int)=fY m n:=by
       rcases Nat.lt_or_ge x y with h1 | h1
       . have:=Fb (a7 m) (a7 n) hl hx hy Wa h1
         rw [aZ,aZ] at this
         rw [zL (by omega)];unfold fY;rw [zL (by omega)]
       . have:=Fb (a7 n) (a7 m) hl.symm hy hx Wa.symm (by omega)
         rw [aZ,aZ] at this
         rw [zM (by omega)];unfold fY;rw [zM (by omega)]
     simp only [SS,DD,Nat.reduceAdd,d0,ej,di hx,di hy,aN,bq,d1]
     refine ⟨by simp [ab], ?_⟩
     refine ay (hw _ _) (by simp [aa.int]) ?_
     simp only [SS,DD,Nat.reduceAdd,e]
     refine ⟨by simp [ab], ?_⟩
     exact ax▸ae rfl (aa.int _ _)
end
end Go.VL
end

section
set_option linter.unusedVariables false
namespace Go.VL
theorem Cp {o:List Nat} (h:Wd o) (KI:o=[]∨aK ^ (o.length-1)<=val o):digits (val o)=o:=by
 refine nD h ?_
 rcases KI with h0 | KI
 . exact .inl h0
 . by_cases h0:o=[]
   . exact .inl h0
   . right
     refine ⟨o.getLast h0,List.getLast?_eq_some_getLast h0,fun hz => ?_⟩
     have e:=List.dropLast_concat_getLast h0
     rw [hz] at e
     have hv:val o=val o.dropLast:=by rw [<- e,kL,List.dropLast_concat]
     have hlt:=mw (ws:=o.dropLast) (fun w hw=>h w ((List.dropLast_sublist _).subset hw))
     rw [List.length_dropLast] at hlt
     omega
theorem aS {a:List Nat} {i x:Nat} (h:a[i]? = some x):val (a.take (i+1))=val (a.take i)+aK ^ i*x:=by
 have hlt:=(List.getElem?_eq_some_iff.1 h).1
 have e:a.take (i+1)=a.take i++[x]:=by rw [List.take_add_one,h];rfl
 rw [e,cv]
 have:(a.take i).length=i:=by rw [List.length_take];omega
 rw [this];simp [val]
theorem jl {a:List Nat} {i:Nat} (h:a.length<=i):val (a.take (i+1))=val (a.take i):=by
 rw [List.take_of_length_le h,List.take_of_length_le (by omega)]
theorem m8 {o:List Nat} {i c va vb x y s:Nat} (ho:o.length=i) (hv:val o+aK ^ i*c=va+vb) (hs:s=c+x+y):val (o++[s%aK])+aK ^ (i+1)*(s/aK)=(va+aK ^ i*x)+(vb+aK ^ i*y):=by
 have e2:=Nat.mod_add_div s aK
 rw [cv,ho]
 simp only [val,Nat.mul_zero,Nat.add_zero,Nat.pow_succ]
 rw [Nat.mul_assoc,Nat.add_assoc, <- Nat.mul_add,e2,hs]
 rw [Nat.mul_add,Nat.mul_add]
 omega
theorem pM {o:List Nat} (h:Wd o) (s:Nat):Wd (o++[s%aK]):=cN h (by intro w hw;simp at hw;subst hw;exact Nat.mod_lt _ cX)
theorem yk (s:Nat):IntKind.u32.wrap (s:Int)=((s%aK:Nat):Int):=by rw [IntKind.wrap_u32];unfold aK;omega
theorem w64 (s:Nat) (h:s<18446744073709551616):IntKind.u64.wrap (s:Int)=(s:Int):=by rw [IntKind.wrap_u64];omega
theorem o6 (s:Nat):bY .shr .int (.int .u64 (s:Int)) (.int .u64 32)=some (.int .u64 ((s/aK:Nat):Int)):=by
 rw [sJ (by decide)]
 have:(s:Int).fdiv (2 ^ (min (32:Int).toNat IntKind.u64.bits))=((s/aK:Nat):Int):=by
   show (s:Int).fdiv (2 ^ 32)=_
   rw [Int.fdiv_eq_ediv_of_nonneg _ (by decide)];unfold aK;omega
 rw [this]
theorem bx (x:Nat) (h:x<aK):IntKind.u64.wrap (x:Int)=(x:Int):=w64 x (by unfold aK at h;omega)
theorem pZ (a b:Nat) (h:a+b<18446744073709551616):IntKind.u64.wrap ((a:Int)+(b:Int))=((a+b:Nat):Int):=by rw [IntKind.wrap_u64];omega
theorem Cq {σ : ah} {q:Id} {x:Nat}:b8 σ q (.buildSl 1 1 (.int .u32 0) [(0, .int .u32 (x:Int))])=some { val := .osl q 1 0 1 false,up:=[(q,some ⟨us [x],1,false⟩)] }:=bW rfl rfl rfl rfl
theorem Zg {p:Id} {c:Nat} (h:c*4<=140737488355328):jn p 1 4 (.int .u32 0) (.int .i64 0) (.int .i64 (c:Int))=some { val := .osl p 1 0 0 false,up:=[(p,some ⟨us [],1,false⟩)] }:=by
 have hm:=eC (n:=c) (by omega)
 show (if (0:Int)<=0/\(0:Int)<=(c:Int)/\(c:Int)*((4:Nat):Int)<=140737488355328/\(c:Int)<=((maxLen:Nat):Int)/\(AV.int IntKind.u32 0).size=1/\(AV.int IntKind.u32 0).cells.all AV.one=true then _ else none)=_
 rw [if_pos ⟨by omega,by omega,by omega,by omega,rfl,rfl⟩]
 rfl
theorem DT {σ : ah} {p id q:Id} {o:List Nat} {x len:Nat} (hq:q≠id) (hl:len=o.length) (hb:(len+1)*4<=140737488355328) (h : σ id=some ⟨us o,1,false⟩) :
   eu (σ.put q (some ⟨us [x],1,false⟩)) p 1 4 (.osl id 1 0 len false) (.osl q 1 0 1 false)=some { val := .osl p 1 0 (len+1) false,rd:=[id,q],up:=[(id,none),(p,some ⟨us (o++[x]),1,false⟩)] }:=by
 have:=oz (σ := σ.put q (some ⟨us [x],1,false⟩)) (p:=p) (id:=id) (k:=1) (bytes:=4) (len:=len) (els:=us o) (x := .osl q 1 0 1 false) (ys:=us [x]) (rd:=[q])
   (nL (bk:=⟨us [x],1,false⟩) (ah.dE _ _ _) rfl (by simp [gu])) (by simp [us]) (by rw [ah.cD _ _ _ hq.symm];exact h) (by rw [gu];exact hl) (by rw [gu];exact hb) (eC (by rw [gu];simp;omega)) (Nt _) (Nt _)
 rw [this,DR]
 simp [gu]
theorem GI {rs:List ur} {s:VS} {id:Id} {n:Nat} {t b:Bool} {o:List Nat} (h1:a8 rs s=some (.osl id 1 0 n t)) (h2:s.σ id=some ⟨us o,1,b⟩) (hn:n=o.length):∃ r0,a8 rs s=some r0/\View s.σ r0 (.sl 1 (us o)):=by
 subst hn
 refine ⟨_,h1,View.osl (bk:=⟨us o,1,b⟩) h2 rfl (by simp [gu]) ?_ (by rw [gu]) (Co o)⟩
 rw [List.drop_zero,List.take_of_length_le (by rw [gu];exact Nat.le_refl _)]
 exact aM.pure (zl o)
section
variable {P:Program} {G:Nat->Option (List AV)}
theorem W0 {f:FuncId} (h:Has P f qZ) (m n:Nat) (hm:ak m<=1000000) (hn:ak n<=1000000):VP P G f [W m,W n] (W (m+n)):=by
 refine VP.has h ?_
 simp only [qZ,SS,Nat.reduceAdd,bn]
 by_cases hs:ak m<ak n
 . have hle:ak m<=ak n:=by omega
   have hlx:ak n<=1000000:=hn
   have hd:decide ((ak m:Int)<(ak n:Int))=true:=by first | exact aG (by omega) | exact aD (by omega)
   have ew:IntKind.i64.wrap ((ak n:Int)+1)=((ak n+1:Nat):Int):=aP _ (by omega)
   have ss:∀ p:Id,jn p 1 4 (.int .u32 0) (.int .i64 0) (.int .i64 ((ak n+1:Nat):Int))=some { val := .osl p 1 0 0 false,up:=[(p,some ⟨us [],1,false⟩)] }:=fun p=>Zg (by omega)
   simp only [SS,Nat.reduceAdd,bn,hd,ew,ss,az]
   refine VW.dU (α := Nat × Nat × Nat × List Nat × Nat) (fun x=>⟨[W n,W m, .top, .top, .top, .osl [x.2.2.1] 1 0 x.1 false, .int .u64 (x.2.2.2.2:Int), .top, .top]++List.replicate 11 .top++[W n, .int .i64 (ak n), .int .i64 x.1]++List.replicate 35 .top,
     ah.put (fun _=>none) [x.2.2.1] (some ⟨us x.2.2.2.1,1,false⟩),x.2.1⟩)
     (fun x=>x.1<=ak n/\x.2.2.1<x.2.1/\x.2.2.2.1.length=x.1/\Wd x.2.2.2.1/\x.2.2.2.2<=1/\val x.2.2.2.1+aK ^ x.1*x.2.2.2.2=val ((digits n).take x.1)+val ((digits m).take x.1)) (fun x=>ak n-x.1) (0,19,13,[],0) ?_ ?_ ?_
   . exact Wk.slots (by simp [Fg,List.replicate]) (Nat.le_refl _)
   . exact ⟨Nat.zero_le _,by decide,rfl,by intro w hw;simp at hw,by decide,by simp [val]⟩
   rintro ⟨i,nn,q,o,c⟩ ⟨hi,hq,ho,hwd,hc,hv⟩
   simp only [] at hi hq ho hwd hc hv
   have qU:i<ak n->decide ((i:Int)<(ak n:Int))=true:=fun h=>aG (by omega)
   have xP : ¬ i<ak n->decide ((i:Int)<(ak n:Int))=false:=fun h=>aD (by omega)
   have hb4:(i+1)*4<=140737488355328:=by omega
   have dI : ¬ i<ak n->i=ak n:=by omega
   have sU:=aP i (by omega)
   simp only [SS]
   by_cases hlt:i<ak n
   . have js:i+1<=ak n/\ak n-(i+1)<ak n-i:=by omega
     obtain ⟨a,ha⟩:∃ a,(digits n)[i]? = some a:=⟨_,List.getElem?_eq_getElem hlt⟩
     have vg:=a7 n a (List.mem_of_getElem? ha)
     have f1:=bx a vg
     have f2:=pZ c a (by unfold aK at vg;omega)
     by_cases hy:i<ak m
     . obtain ⟨b,hb⟩:∃ b,(digits m)[i]? = some b:=⟨_,List.getElem?_eq_getElem hy⟩
       have Hn:=a7 m b (List.mem_of_getElem? hb)
       have d3:decide ((i:Int)<(ak m:Int))=true:=aG (by omega)
       have f3:=bx b Hn
       have f4:=pZ (c+a) b (by unfold aK at vg Hn;omega)
       have W4:(c+a+b)/aK<=1:=by unfold aK at vg Hn ⊢;omega
       simp only [SS,Nat.reduceAdd,qU hlt,di ha,di hb,bn,aN,bq,f1,f2,d3,f3,f4,yk,Cq]
       rw [DT (o:=o)]
       . simp only [SS,Nat.reduceAdd,o6,sU]
         refine ⟨(i+1,_,nn+1+5+5+4+8+4,o++[(c+a+b)%aK],(c+a+b)/aK),⟨js.1, ?_,by simp [ho],pM hwd _,W4, ?_⟩,js.2,Wk.forget (by simp [Fg]) (fun j => ?_) (Nat.le_refl _)⟩
         . simp only [];omega
         . show val (o++[(c+a+b)%aK])+aK ^ (i+1)*((c+a+b)/aK)=_
           rw [aS ha,aS hb]
           exact m8 ho hv rfl
         . simp only [ah.put];split<;>simp
       . intro e;simp at e;omega
       . exact ho.symm
       . exact hb4
       . exact ah.dE _ _ _
     . have d3:decide ((i:Int)<(ak m:Int))=false:=aD (by omega)
       have W4:(c+a)/aK<=1:=by unfold aK at vg ⊢;omega
       simp only [SS,Nat.reduceAdd,qU hlt,di ha,bn,aN,bq,f1,f2,d3,yk,Cq]
       rw [DT (o:=o)]
       . simp only [SS,Nat.reduceAdd,o6,sU]
         refine ⟨(i+1,_,nn+1+5+5+4+4,o++[(c+a)%aK],(c+a)/aK),⟨js.1, ?_,by simp [ho],pM hwd _,W4, ?_⟩,js.2,Wk.forget (by simp [Fg]) (fun j => ?_) (Nat.le_refl _)⟩
         . simp only [];omega
         . show val (o++[(c+a)%aK])+aK ^ (i+1)*((c+a)/aK)=_
           rw [aS ha,jl (by show ak m<=i;omega)]
           have:=m8 (x:=a) (y:=0) (s:=c+a) ho hv (by omega)
           simpa using this
         . simp only [ah.put];split<;>simp
       . intro e;simp at e;omega
       . exact ho.symm
       . exact hb4
       . exact ah.dE _ _ _
   . have pN:=dI hlt
     have Ag:val o+aK ^ i*c=m+n:=by
       have e1:(digits n).take (ak n)=digits n:=List.take_of_length_le (Nat.le_refl _)
       have e2:(digits m).take (ak n)=digits m:=List.take_of_length_le hle
       rw [hv,pN,e1,e2,aZ,aZ]
       all_goals omega
     by_cases h0:c=0
     . have d4:decide ((0:Int)<(c:Int))=false:=aD (by omega)
       have e:W (m+n) = .sl 1 (us o):=by
         rw [h0] at Ag
         simp only [Nat.mul_zero,Nat.add_zero] at Ag
         unfold W
         rw [<- Ag,Cp hwd]
         rcases Nat.eq_zero_or_pos i with h1 | h1
         . left;rw [h1] at ho;exact List.length_eq_zero_iff.1 ho
         . right
           rw [Ag,ho,pN]
           have HQ:n≠0:=by rintro e;rw [e] at pN;simp [ak,bD] at pN;omega
           have:=sT HQ
           omega
       simp only [SS,Nat.reduceAdd,xP hlt,d4]
       rw [e]
       exact ax▸GI (b:=false) rfl (by simp [ah.put]) ho.symm
     . have W5:c=1:=by omega
       have d4:decide ((0:Int)<(c:Int))=true:=aG (by omega)
       have e1:c%aK=1:=by rw [W5];rfl
       have e:W (m+n) = .sl 1 (us (o++[1])):=by
         have qW:val (o++[1])=m+n:=by rw [cv,ho, <- Ag,W5];simp [val]
         unfold W
         rw [<- qW,nD (cN hwd (by intro w hw;simp at hw;subst hw;decide)) (.inr ⟨1,by simp,by decide⟩)]
       simp only [SS,Nat.reduceAdd,xP hlt,d4,yk,e1,Cq]
       rw [DT (o:=o)]
       . simp only [SS,Nat.reduceAdd]
         rw [e]
         exact ax▸GI (b:=false) rfl (by simp [ah.put]) (by simp [ho])
       . intro e;simp at e;omega
       . exact ho.symm
       . exact hb4
       . exact ah.dE _ _ _
 . have hle:ak n<=ak m:=by omega
   have hlx:ak m<=1000000:=hm
   have hd:decide ((ak m:Int)<(ak n:Int))=false:=by first | exact aG (by omega) | exact aD (by omega)
   have ew:IntKind.i64.wrap ((ak m:Int)+1)=((ak m+1:Nat):Int):=aP _ (by omega)
   have ss:∀ p:Id,jn p 1 4 (.int .u32 0) (.int .i64 0) (.int .i64 ((ak m+1:Nat):Int))=some { val := .osl p 1 0 0 false,up:=[(p,some ⟨us [],1,false⟩)] }:=fun p=>Zg (by omega)
   simp only [SS,Nat.reduceAdd,bn,hd,ew,ss,az]
   refine VW.dU (α := Nat × Nat × Nat × List Nat × Nat) (fun x=>⟨[W m,W n, .top, .top, .top, .osl [x.2.2.1] 1 0 x.1 false, .int .u64 (x.2.2.2.2:Int), .top, .top]++List.replicate 11 .top++[W m, .int .i64 (ak m), .int .i64 x.1]++List.replicate 35 .top,
     ah.put (fun _=>none) [x.2.2.1] (some ⟨us x.2.2.2.1,1,false⟩),x.2.1⟩)
     (fun x=>x.1<=ak m/\x.2.2.1<x.2.1/\x.2.2.2.1.length=x.1/\Wd x.2.2.2.1/\x.2.2.2.2<=1/\val x.2.2.2.1+aK ^ x.1*x.2.2.2.2=val ((digits m).take x.1)+val ((digits n).take x.1)) (fun x=>ak m-x.1) (0,15,9,[],0) ?_ ?_ ?_
   . exact Wk.slots (by simp [Fg,List.replicate]) (Nat.le_refl _)
   . exact ⟨Nat.zero_le _,by decide,rfl,by intro w hw;simp at hw,by decide,by simp [val]⟩
   rintro ⟨i,nn,q,o,c⟩ ⟨hi,hq,ho,hwd,hc,hv⟩
   simp only [] at hi hq ho hwd hc hv
   have qU:i<ak m->decide ((i:Int)<(ak m:Int))=true:=fun h=>aG (by omega)
   have xP : ¬ i<ak m->decide ((i:Int)<(ak m:Int))=false:=fun h=>aD (by omega)
   have hb4:(i+1)*4<=140737488355328:=by omega
   have dI : ¬ i<ak m->i=ak m:=by omega
   have sU:=aP i (by omega)
   simp only [SS]
   by_cases hlt:i<ak m
   . have js:i+1<=ak m/\ak m-(i+1)<ak m-i:=by omega
     obtain ⟨a,ha⟩:∃ a,(digits m)[i]? = some a:=⟨_,List.getElem?_eq_getElem hlt⟩
     have vg:=a7 m a (List.mem_of_getElem? ha)
     have f1:=bx a vg
     have f2:=pZ c a (by unfold aK at vg;omega)
     by_cases hy:i<ak n
     . obtain ⟨b,hb⟩:∃ b,(digits n)[i]? = some b:=⟨_,List.getElem?_eq_getElem hy⟩
       have Hn:=a7 n b (List.mem_of_getElem? hb)
       have d3:decide ((i:Int)<(ak n:Int))=true:=aG (by omega)
       have f3:=bx b Hn
       have f4:=pZ (c+a) b (by unfold aK at vg Hn;omega)
       have W4:(c+a+b)/aK<=1:=by unfold aK at vg Hn ⊢;omega
       simp only [SS,Nat.reduceAdd,qU hlt,di ha,di hb,bn,aN,bq,f1,f2,d3,f3,f4,yk,Cq]
       rw [DT (o:=o)]
       . simp only [SS,Nat.reduceAdd,o6,sU]
         refine ⟨(i+1,_,nn+1+5+5+4+8+4,o++[(c+a+b)%aK],(c+a+b)/aK),⟨js.1, ?_,by simp [ho],pM hwd _,W4, ?_⟩,js.2,Wk.forget (by simp [Fg]) (fun j => ?_) (Nat.le_refl _)⟩
         . simp only [];omega
         . show val (o++[(c+a+b)%aK])+aK ^ (i+1)*((c+a+b)/aK)=_
           rw [aS ha,aS hb]
           exact m8 ho hv rfl
         . simp only [ah.put];split<;>simp
       . intro e;simp at e;omega
       . exact ho.symm
       . exact hb4
       . exact ah.dE _ _ _
     . have d3:decide ((i:Int)<(ak n:Int))=false:=aD (by omega)
       have W4:(c+a)/aK<=1:=by unfold aK at vg ⊢;omega
       simp only [SS,Nat.reduceAdd,qU hlt,di ha,bn,aN,bq,f1,f2,d3,yk,Cq]
       rw [DT (o:=o)]
       . simp only [SS,Nat.reduceAdd,o6,sU]
         refine ⟨(i+1,_,nn+1+5+5+4+4,o++[(c+a)%aK],(c+a)/aK),⟨js.1, ?_,by simp [ho],pM hwd _,W4, ?_⟩,js.2,Wk.forget (by simp [Fg]) (fun j => ?_) (Nat.le_refl _)⟩
         . simp only [];omega
         . show val (o++[(c+a)%aK])+aK ^ (i+1)*((c+a)/aK)=_
           rw [aS ha,jl (by show ak n<=i;omega)]
           have:=m8 (x:=a) (y:=0) (s:=c+a) ho hv (by omega)
           simpa using this
         . simp only [ah.put];split<;>simp
       . intro e;simp at e;omega
       . exact ho.symm
       . exact hb4
       . exact ah.dE _ _ _
   . have pN:=dI hlt
     have Ag:val o+aK ^ i*c=m+n:=by
       have e1:(digits m).take (ak m)=digits m:=List.take_of_length_le (Nat.le_refl _)
       have e2:(digits n).take (ak m)=digits n:=List.take_of_length_le hle
       rw [hv,pN,e1,e2,aZ,aZ]
       all_goals omega
     by_cases h0:c=0
     . have d4:decide ((0:Int)<(c:Int))=false:=aD (by omega)
       have e:W (m+n) = .sl 1 (us o):=by
         rw [h0] at Ag
         simp only [Nat.mul_zero,Nat.add_zero] at Ag
         unfold W
         rw [<- Ag,Cp hwd]
         rcases Nat.eq_zero_or_pos i with h1 | h1
         . left;rw [h1] at ho;exact List.length_eq_zero_iff.1 ho
         . right
           rw [Ag,ho,pN]
           have HQ:m≠0:=by rintro e;rw [e] at pN;simp [ak,bD] at pN;omega
           have:=sT HQ
           omega
       simp only [SS,Nat.reduceAdd,xP hlt,d4]
       rw [e]
       exact ax▸GI (b:=false) rfl (by simp [ah.put]) ho.symm
     . have W5:c=1:=by omega
       have d4:decide ((0:Int)<(c:Int))=true:=aG (by omega)
       have e1:c%aK=1:=by rw [W5];rfl
       have e:W (m+n) = .sl 1 (us (o++[1])):=by
         have qW:val (o++[1])=m+n:=by rw [cv,ho, <- Ag,W5];simp [val]
         unfold W
         rw [<- qW,nD (cN hwd (by intro w hw;simp at hw;subst hw;decide)) (.inr ⟨1,by simp,by decide⟩)]
       simp only [SS,Nat.reduceAdd,xP hlt,d4,yk,e1,Cq]
       rw [DT (o:=o)]
       . simp only [SS,Nat.reduceAdd]
         rw [e]
         exact ax▸GI (b:=false) rfl (by simp [ah.put]) (by simp [ho])
       . intro e;simp at e;omega
       . exact ho.symm
       . exact hb4
       . exact ah.dE _ _ _
end
end Go.VL
end

section
set_option linter.unusedVariables false
namespace Go.VL
theorem JN (c:Nat):List.replicate c (AV.int .u32 0)=us (List.replicate c 0):=by simp [us]
theorem aas (o:List Nat) (i x:Nat):(us o).set i (.int .u32 (x:Int))=us (o.set i x):=by simp [us,List.map_set]
theorem nE {p:Id} {c:Nat} (h:c*4<=140737488355328):jn p 1 4 (.int .u32 0) (.int .i64 (c:Int)) (.int .i64 (c:Int))=some { val := .osl p 1 0 c false,up:=[(p,some ⟨us (List.replicate c 0),1,false⟩)] }:=by
 have hm:=eC (n:=c) (by omega)
 show (if (0:Int)<=(c:Int)/\(c:Int)<=(c:Int)/\(c:Int)*((4:Nat):Int)<=140737488355328/\(c:Int)<=((maxLen:Nat):Int)/\(AV.int IntKind.u32 0).size=1/\(AV.int IntKind.u32 0).cells.all AV.one=true then _ else none)=_
 rw [if_pos ⟨by omega,by omega,by omega,by omega,rfl,rfl⟩]
 simp only [Int.toNat_natCast,JN]
theorem cO {q:Id} {len i:Nat} {t:Bool} (h:i<len):cW 1 (.osl q 1 0 len t) (.int .i64 (i:Int))=some (.ref q i 0):=by
 simp only [cW]
 rw [if_pos ⟨trivial,by omega,by omega⟩]
 simp
theorem bU {σ : ah} {q:Id} {o:List Nat} {i x:Nat} (h : σ q=some ⟨us o,1,false⟩) (hi:i<o.length):fJ σ 1 (.ref q i 0) (.int .u32 (x:Int))=some { val := .tup [],rd:=[q],up:=[(q,some ⟨us (o.set i x),1,false⟩)] }:=by
 obtain ⟨w,hw⟩:∃ w,o[i]? = some w:=⟨_,List.getElem?_eq_getElem hi⟩
 rw [fH (n:=1) (v := .int .u32 (x:Int)) h (xm hw) rfl (by simp [AV.size,AV.cells]) rfl, <- aas]
 rfl
theorem ju {σ : ah} {q:Id} {o:List Nat} {i x:Nat} {b:Bool} (h : σ q=some ⟨us o,1,b⟩) (hi:o[i]? = some x):jm σ false 1 (.ref q i 0)=some { val := .int .u32 (x:Int),rd:=[q] }:=by
 rw [qT h (xm hi)];rfl
theorem W6 (o:List Nat) (k x:Nat):(o++List.replicate (k+1) 0).set o.length x=(o++[x])++List.replicate k 0:=by
 rw [List.set_append_right _ _ (Nat.le_refl _),Nat.sub_self,List.replicate_succ,List.set_cons_zero]
 simp
theorem Fc {o:List Nat} {i x y:Nat} (h:o[i]? = some y):val (o.set i x)+aK ^ i*y=val o+aK ^ i*x:=by
 have hi:=(List.getElem?_eq_some_iff.1 h).1
 have ht:(o.take i).length=i:=by rw [List.length_take];omega
 have e1:o=o.take i++y::o.drop (i+1):=by
   have:=List.take_append_drop i o
   rw [List.drop_eq_getElem_cons hi] at this
   obtain ⟨_,h2⟩:=List.getElem?_eq_some_iff.1 h
   rw [h2] at this;exact this.symm
 have e2:o.set i x=o.take i++x::o.drop (i+1):=by rw [List.set_eq_take_append_cons_drop,if_pos hi]
 rw [e2]
 have e3:val o=val (o.take i++y::o.drop (i+1)):=congrArg val e1
 rw [e3,cv,cv,ht]
 simp only [val,Nat.mul_add]
 omega
theorem JO {o:List Nat} (h:Wd o) {i x:Nat} (hx:x<aK):Wd (o.set i x):=fun w hw=>by
 rcases List.mem_or_eq_of_mem_set hw with h1 | h1
 . exact h w h1
 . rw [h1];exact hx
theorem GJ (k:Nat):Wd (List.replicate k 0):=fun w hw=>by rw [List.eq_of_mem_replicate hw];exact cX
theorem PJ (o:List Nat) (k:Nat):val (o++List.replicate k 0)=val o:=by
 rw [cv,DO (fun w hw=>List.eq_of_mem_replicate hw)];omega
theorem LD {x y c:Nat} (hx:x<aK) (hy:y<aK) (hc:c<=1):∃ w c':Nat,w<aK/\c'<=1/\w+y+c=x+aK*c'/\IntKind.u32.wrap (IntKind.u64.wrap (IntKind.u64.wrap ((x:Int)-(c:Int))-(y:Int)))=(w:Int) /\
   bY .shr .int (.int .u64 (IntKind.u64.wrap (IntKind.u64.wrap ((x:Int)-(c:Int))-(y:Int)))) (.int .u64 63)=some (.int .u64 (c':Int)):=by
 have KA:∀ a:Int,bY .shr .int (.int .u64 a) (.int .u64 63)=some (.int .u64 (a/9223372036854775808)):=fun a=>by
   rw [sJ (by decide)]
   show some (AV.int .u64 (a.fdiv (2 ^ 63)))=_
   rw [Int.fdiv_eq_ediv_of_nonneg _ (by decide)];rfl
 rw [KA]
 unfold aK at *
 by_cases h:c+y<=x
 . refine ⟨x-c-y,0,by omega,by omega,by omega, ?_, ?_⟩
   . rw [IntKind.wrap_u32,IntKind.wrap_u64,IntKind.wrap_u64];omega
   . rw [IntKind.wrap_u64,IntKind.wrap_u64];congr 2;omega
 . refine ⟨x+4294967296-c-y,1,by omega,by omega,by omega, ?_, ?_⟩
   . rw [IntKind.wrap_u32,IntKind.wrap_u64,IntKind.wrap_u64];omega
   . rw [IntKind.wrap_u64,IntKind.wrap_u64];congr 2;omega
theorem Q6 {x c:Nat} (hx:x<aK) (hc:c<=1):∃ w c':Nat,w<aK/\c'<=1/\w+0+c=x+aK*c'/\IntKind.u32.wrap (IntKind.u64.wrap ((x:Int)-(c:Int)))=(w:Int) /\
   bY .shr .int (.int .u64 (IntKind.u64.wrap ((x:Int)-(c:Int)))) (.int .u64 63)=some (.int .u64 (c':Int)):=by
 obtain ⟨w,c',h1,h2,h3,h4,h5⟩:=LD (y:=0) hx cX hc
 have e:IntKind.u64.wrap (IntKind.u64.wrap ((x:Int)-(c:Int))-((0:Nat):Int))=IntKind.u64.wrap ((x:Int)-(c:Int)):=by rw [IntKind.wrap_u64,IntKind.wrap_u64];omega
 rw [e] at h4 h5
 exact ⟨w,c',h1,h2,h3,h4,h5⟩
theorem nN {o:List Nat} {i c va vb x y w c':Nat} (ho:o.length=i) (hv:val o+vb=va+aK ^ i*c-aK ^ i*c+aK ^ i*c) (hw:w+y+c=x+aK*c'):val (o++[w])+(vb+aK ^ i*y)=(va+aK ^ i*x)+aK ^ (i+1)*c':=by
 have h:aK ^ i*w+aK ^ i*y+aK ^ i*c=aK ^ i*x+aK ^ i*(aK*c'):=by rw [<- Nat.mul_add, <- Nat.mul_add, <- Nat.mul_add,hw]
 rw [cv,ho]
 simp only [val,Nat.mul_zero,Nat.add_zero,Nat.pow_succ]
 rw [Nat.mul_assoc]
 omega
section
variable {P:Program} {G:Nat->Option (List AV)}
theorem TP {f ft:FuncId} (h:Has P f (qa ft)) (ht:iT P G ft) (m n:Nat) (ta:n<=m) (hm:ak m<=1000000):VP P G f [W m,W n] (W (m-n)):=by
 refine VP.has h ?_
 have hle:ak n<=ak m:=bJ ta
 have ss:∀ p:Id,jn p 1 4 (.int .u32 0) (.int .i64 (ak m:Int)) (.int .i64 (ak m:Int))=some { val := .osl p 1 0 (ak m) false,up:=[(p,some ⟨us (List.replicate (ak m) 0),1,false⟩)] }:=fun p=>nE (by omega)
 simp only [qa,SS,Nat.reduceAdd,bn,ss,az]
 refine VW.dU (α := Nat × Nat × List Nat × Nat) (fun x=>⟨[W m,W n, .top, .top, .top, .osl [3] 1 0 (ak m) false, .int .u64 (x.2.2.2:Int)]++List.replicate 6 .top++[W m, .int .i64 (ak m), .int .i64 x.1]++List.replicate 29 .top,
   ah.put (fun _=>none) [3] (some ⟨us (x.2.2.1++List.replicate (ak m-x.1) 0),1,false⟩),x.2.1⟩)
   (fun x=>x.1<=ak m/\x.2.2.1.length=x.1/\Wd x.2.2.1/\x.2.2.2<=1/\val x.2.2.1+val ((digits n).take x.1)=val ((digits m).take x.1)+aK ^ x.1*x.2.2.2) (fun x=>ak m-x.1) (0,9,[],0) ?_ ?_ ?_
 . exact Wk.slots (by simp [Fg,List.replicate]) (Nat.le_refl _)
 . exact ⟨Nat.zero_le _,rfl,by intro w hw;simp at hw,by decide,by simp [val]⟩
 rintro ⟨i,nn,o,c⟩ ⟨hi,ho,hwd,hc,hv⟩
 simp only [] at hi ho hwd hc hv
 have qU:i<ak m->decide ((i:Int)<(ak m:Int))=true:=fun h=>aG (by omega)
 have xP : ¬ i<ak m->decide ((i:Int)<(ak m:Int))=false:=fun h=>aD (by omega)
 have dI : ¬ i<ak m->i=ak m:=by omega
 have sU:=aP i (by omega)
 have YS:i<ak m->i<(o++List.replicate (ak m-i) 0).length:=fun h=>by rw [List.length_append,List.length_replicate];omega
 have W7:i<ak m->∀ x,(o++List.replicate (ak m-i) 0).set i x=(o++[x])++List.replicate (ak m-(i+1)) 0:=fun h x=>by
   rw [show ak m-i=(ak m-(i+1))+1 from by omega, <- ho];exact W6 _ _ _
 have js:i<ak m->i+1<=ak m/\ak m-(i+1)<ak m-i:=fun h=>by omega
 have hny : ¬ i<ak n->ak n<=i:=by omega
 have d3t:i<ak n->decide ((i:Int)<(ak n:Int))=true:=fun h=>aG (by omega)
 have d3f : ¬ i<ak n->decide ((i:Int)<(ak n:Int))=false:=fun h=>aD (by omega)
 simp only [SS]
 by_cases hlt:i<ak m
 . obtain ⟨a,ha⟩:∃ a,(digits m)[i]? = some a:=⟨_,List.getElem?_eq_getElem hlt⟩
   have vg:=a7 m a (List.mem_of_getElem? ha)
   have f1:=bx a vg
   have mE:=cO (q:=[3]) (t:=false) hlt
   by_cases hy:i<ak n
   . obtain ⟨b,hb⟩:∃ b,(digits n)[i]? = some b:=⟨_,List.getElem?_eq_getElem hy⟩
     have Hn:=a7 n b (List.mem_of_getElem? hb)
     have f3:=bx b Hn
     obtain ⟨w,c',h1,h2,h3,h4,h5⟩:=LD vg Hn hc
     have hv':=nN (va:=val ((digits m).take i)) (vb:=val ((digits n).take i)) ho (by rw [hv];omega) h3
     simp only [SS,Nat.reduceAdd,qU hlt,di ha,di hb,bn,aN,bq,f1,f3,d3t hy,h4,mE]
     rw [bU (o:=o++List.replicate (ak m-i) 0) (by simp [ah.put]) (YS hlt),W7 hlt]
     simp only [SS,Nat.reduceAdd,h5,sU]
     refine ⟨(i+1,_,o++[w],c'),⟨(js hlt).1,by simp [ho],cN hwd (by intro z hz;simp at hz;subst hz;exact h1),h2, ?_⟩,(js hlt).2,Wk.forget (by simp [Fg]) (fun j => ?_) (Nat.le_refl _)⟩
     . show val (o++[w])+val ((digits n).take (i+1))=_
       rw [aS ha,aS hb];exact hv'
     . simp only [ah.put];split<;>simp
   . obtain ⟨w,c',h1,h2,h3,h4,h5⟩:=Q6 vg hc
     have hv':=nN (va:=val ((digits m).take i)) (vb:=val ((digits n).take i)) ho (by rw [hv];omega) h3
     simp only [SS,Nat.reduceAdd,qU hlt,di ha,bn,aN,bq,f1,d3f hy,h4,mE]
     rw [bU (o:=o++List.replicate (ak m-i) 0) (by simp [ah.put]) (YS hlt),W7 hlt]
     simp only [SS,Nat.reduceAdd,h5,sU]
     refine ⟨(i+1,_,o++[w],c'),⟨(js hlt).1,by simp [ho],cN hwd (by intro z hz;simp at hz;subst hz;exact h1),h2, ?_⟩,(js hlt).2,Wk.forget (by simp [Fg]) (fun j => ?_) (Nat.le_refl _)⟩
     . show val (o++[w])+val ((digits n).take (i+1))=_
       rw [aS ha,jl (hny hy)]
       simpa using hv'
     . simp only [ah.put];split<;>simp
 . have pN:=dI hlt
   have e1:(digits m).take (ak m)=digits m:=List.take_of_length_le (Nat.le_refl _)
   have e2:(digits n).take (ak m)=digits n:=List.take_of_length_le hle
   have Ag:val o+n=m+aK ^ ak m*c:=by rw [pN,e1,e2,aZ,aZ] at hv;exact hv
   have AH:val o=m-n:=by
     have:=mw hwd
     rw [ho,pN] at this
     rcases Nat.le_one_iff_eq_zero_or_eq_one.1 hc with h0 | h0
     . rw [h0] at Ag;omega
     . rw [h0] at Ag;omega
   have e3:o++List.replicate (ak m-i) 0=o:=by rw [pN,Nat.sub_self];simp
   have zK:=ht o hwd (by rw [ho];omega)
   rw [AH] at zK
   simp only [SS,Nat.reduceAdd,xP hlt,e3]
   refine bG [([3],⟨us o,1,false⟩)] zK (aM.cons (gZ (by rw [ho,pN])) aM.nil) (by simp [ah.put]) ?_
   simp only [SS,Nat.reduceAdd]
   exact ax▸ae rfl (aq _)
end
end Go.VL
end

section
set_option linter.unusedVariables false
namespace Go.VL
theorem PK (a b:Nat) (ha:a<aK) (hb:b<aK):IntKind.u64.wrap ((a:Int)*(b:Int))=((a*b:Nat):Int):=by
 have:a*b<=4294967295*4294967295:=Nat.mul_le_mul (by unfold aK at ha;omega) (by unfold aK at hb;omega)
 rw [<- Int.natCast_mul,IntKind.wrap_u64];omega
theorem Nx {a b:Nat} (ha:a<aK) (hb:b<aK):a*b<=18446744065119617025:=by
 have:a*b<=4294967295*4294967295:=Nat.mul_le_mul (by unfold aK at ha;omega) (by unfold aK at hb;omega)
 omega
theorem oH (a b:Nat) (h:a+b<=9223372036854775807):IntKind.i64.wrap ((a:Int)+(b:Int))=((a+b:Nat):Int):=by rw [IntKind.wrap_i64];omega
theorem GK {o:List Nat} {k y:Nat} (h:val o<aK ^ k) (hy:o[k]? = some y):y=0:=by
 have:=Fc (x:=0) hy
 rcases Nat.eq_zero_or_pos y with h0 | h0
 . exact h0
 . have:aK ^ k*1<=aK ^ k*y:=Nat.mul_le_mul_left _ h0
   omega
theorem IP {o o':List Nat} {i j c x y z s v:Nat} (hz:o'[i+j]? = some z) (hv:val o'+aK ^ (i+j)*c=val o+aK ^ i*(x*v)) (hs:s=c+(x*y+z)) :
   val (o'.set (i+j) (s%aK))+aK ^ (i+(j+1))*(s/aK)=val o+aK ^ i*(x*(v+aK ^ j*y)):=by
 have e1:=Fc (x:=s%aK) hz
 have e2:aK ^ (i+j)*(s%aK)+aK ^ (i+j)*(aK*(s/aK))=aK ^ (i+j)*c+aK ^ (i+j)*(x*y)+aK ^ (i+j)*z:=by
   rw [<- Nat.mul_add,Nat.mod_add_div,hs,Nat.mul_add,Nat.mul_add];omega
 have e3:aK ^ (i+(j+1))*(s/aK)=aK ^ (i+j)*(aK*(s/aK)):=by rw [<- Nat.add_assoc,Nat.pow_succ,Nat.mul_assoc]
 have e4:aK ^ i*(x*(v+aK ^ j*y))=aK ^ i*(x*v)+aK ^ (i+j)*(x*y):=by
   rw [Nat.mul_add,Nat.mul_add,Nat.pow_add]
   congr 1
   rw [Nat.mul_assoc,Nat.mul_left_comm x]
 rw [e3,e4]
 omega
theorem cI {n:Nat}:ak n=0↔n=0:=by
 constructor
 . intro h;exact m7.1 (List.length_eq_zero_iff.1 h)
 . intro h;rw [h,ak,bD];rfl
section
variable {P:Program} {G:Nat->Option (List AV)}
theorem TQ {f ft:FuncId} (h:Has P f (qb ft)) (ht:iT P G ft) (m n:Nat) (hm:ak m<=1000000) (hn:ak n<=1000000):VP P G f [W m,W n] (W (m*n)):=by
 refine VP.has h ?_
 have z1:ak m=0->decide ((ak m:Int)=0)=true:=fun h=>aG (by omega)
 have z2 : ¬ ak m=0->decide ((ak m:Int)=0)=false:=fun h=>aD (by omega)
 have z3:ak n=0->decide ((ak n:Int)=0)=true:=fun h=>aG (by omega)
 have z4 : ¬ ak n=0->decide ((ak n:Int)=0)=false:=fun h=>aD (by omega)
 have Q7:m*n=0->∀ σ,View σ .nils (W (m*n)):=fun h σ => by rw [h];simp only [W,bD,us];exact View.nils 1
 have ss:∀ p:Id,jn p 1 4 (.int .u32 0) (.int .i64 ((ak m+ak n:Nat):Int)) (.int .i64 ((ak m+ak n:Nat):Int))=some { val := .osl p 1 0 (ak m+ak n) false,up:=[(p,some ⟨us (List.replicate (ak m+ak n) 0),1,false⟩)] }:=fun p=>nE (by omega)
 have hL:=oH (ak m) (ak n) (by omega)
 simp only [qb,SS,Nat.reduceAdd,bn]
 by_cases h0:ak m=0
 . simp only [SS,Nat.reduceAdd,z1 h0]
   refine ax▸⟨.nils,rfl,Q7 (by rw [cI.1 h0];simp) _⟩
 by_cases h1:ak n=0
 . simp only [SS,Nat.reduceAdd,z2 h0,z3 h1,bn]
   refine ax▸⟨.nils,rfl,Q7 (by rw [cI.1 h1];simp) _⟩
 simp only [SS,Nat.reduceAdd,z2 h0,z4 h1,bn,hL,ss,az]
 refine VW.dU (α := Nat × Nat × List Nat) (fun x=>⟨[W m,W n, .top, .top, .top, .osl [14] 1 0 (ak m+ak n) false]++List.replicate 19 .top++[W m, .int .i64 (ak m), .int .i64 x.1]++List.replicate 47 .top,
   ah.put (fun _=>none) [14] (some ⟨us x.2.2,1,false⟩),x.2.1⟩)
   (fun x=>x.1<=ak m/\x.2.2.length=ak m+ak n/\Wd x.2.2/\val x.2.2=val ((digits m).take x.1)*n) (fun x=>ak m-x.1) (0,19,List.replicate (ak m+ak n) 0) ?_ ?_ ?_
 . exact Wk.slots (by simp [Fg,List.replicate]) (Nat.le_refl _)
 . exact ⟨Nat.zero_le _,List.length_replicate ..,GJ _,by simp only [];rw [DO (fun w hw=>List.eq_of_mem_replicate hw)];simp [val]⟩
 rintro ⟨i,nn,o⟩ ⟨hi,ho,hwd,hv⟩
 simp only [] at hi ho hwd hv
 have qU:i<ak m->decide ((i:Int)<(ak m:Int))=true:=fun h=>aG (by omega)
 have xP : ¬ i<ak m->decide ((i:Int)<(ak m:Int))=false:=fun h=>aD (by omega)
 have dI : ¬ i<ak m->i=ak m:=by omega
 have sU:=aP i (by omega)
 have js:i<ak m->i+1<=ak m/\ak m-(i+1)<ak m-i:=fun h=>by omega
 have p9:=oH i (ak n) (by omega)
 have Ny:i<ak m->i+ak n<ak m+ak n:=fun h=>by omega
 simp only [SS]
 by_cases hlt:i<ak m
 . obtain ⟨a,ha⟩:∃ a,(digits m)[i]? = some a:=⟨_,List.getElem?_eq_getElem hlt⟩
   have vg:=a7 m a (List.mem_of_getElem? ha)
   have f1:=bx a vg
   have Wi:o[i+ak n]? = some 0:=by
     obtain ⟨y,hy⟩:∃ y,o[i+ak n]? = some y:=⟨_,List.getElem?_eq_getElem (by rw [ho];exact Ny hlt)⟩
     have e:=GK (k:=i+ak n) (by
       rw [hv,Nat.pow_add]
       have h2:val ((digits m).take i)<aK ^ i:=by
         have:=mw (sS (a7 m) i)
         rwa [List.length_take,Nat.min_eq_left (show i<=(digits m).length from Nat.le_of_lt hlt)] at this
       exact Nat.mul_lt_mul'' h2 (cV n)) hy
     rw [e] at hy;exact hy
   simp only [SS,Nat.reduceAdd,qU hlt,di ha,bn,aN,bq,az]
   refine VW.dU (α := Nat × Nat × List Nat × Nat) (fun x=>⟨[W m,W n, .top, .top, .top, .osl [14] 1 0 (ak m+ak n) false, .int .i64 i, .int .u32 a, .int .u64 (x.2.2.2:Int)]++List.replicate 16 .top++[W m, .int .i64 (ak m), .int .i64 i]++List.replicate 4 .top++[W n, .int .i64 (ak n), .int .i64 x.1]++List.replicate 40 .top,
     ah.put (fun _=>none) [14] (some ⟨us x.2.2.1,1,false⟩),x.2.1⟩)
     (fun x=>x.1<=ak n/\x.2.2.1.length=ak m+ak n/\Wd x.2.2.1/\x.2.2.2<aK/\x.2.2.1[i+ak n]? = some 0/\val x.2.2.1+aK ^ (i+x.1)*x.2.2.2=val o+aK ^ i*(a*val ((digits n).take x.1))) (fun x=>ak n-x.1) (0,nn+10,o,0) ?_ ?_ ?_
   . exact Wk.slots (by simp [Fg,List.replicate]) (by simp only [];omega)
   . exact ⟨Nat.zero_le _,ho,hwd,cX,Wi,by simp [val]⟩
   rintro ⟨j,mm,o',c⟩ ⟨hj,Q8,JP,hc,hz,hv'⟩
   simp only [] at hj Q8 JP hc hz hv'
   have LF:j<ak n->decide ((j:Int)<(ak n:Int))=true:=fun h=>aG (by omega)
   have LG : ¬ j<ak n->decide ((j:Int)<(ak n:Int))=false:=fun h=>aD (by omega)
   have Kv : ¬ j<ak n->j=ak n:=by omega
   have Nz:=aP j (by omega)
   have To:j<ak n->j+1<=ak n/\ak n-(j+1)<ak n-j:=fun h=>by omega
   have QP:=oH i j (by omega)
   have NA:j<ak n->i+j<ak m+ak n:=fun h=>by omega
   have hne:j<ak n->i+j≠i+ak n:=fun h=>by omega
   simp only [SS]
   by_cases CZ:j<ak n
   . obtain ⟨b,hb⟩:∃ b,(digits n)[j]? = some b:=⟨_,List.getElem?_eq_getElem CZ⟩
     have Hn:=a7 n b (List.mem_of_getElem? hb)
     have f2:=bx b Hn
     obtain ⟨z,hzz⟩:∃ z,o'[i+j]? = some z:=⟨_,List.getElem?_eq_getElem (by rw [Q8];exact NA CZ)⟩
     have W8:=JP z (List.mem_of_getElem? hzz)
     have f3:=bx z W8
     have f4:=PK a b vg Hn
     have hle:=Nx vg Hn
     have f5:=pZ (a*b) z (by unfold aK at W8;omega)
     have f6:=pZ c (a*b+z) (by unfold aK at W8 hc;omega)
     have hc':(c+(a*b+z))/aK<aK:=by unfold aK at W8 hc ⊢;omega
     have mE:=cO (q:=[14]) (t:=false) (NA CZ)
     have hst:=IP hzz hv' (rfl:c+(a*b+z)=c+(a*b+z))
     simp only [SS,Nat.reduceAdd,LF CZ,di hb,aN,bq,f1,f2,f4,QP,mE]
     rw [ju (o:=o') (b:=false) (by simp [ah.put]) hzz]
     simp only [SS,Nat.reduceAdd,f3,f5,f6,yk,QP,mE]
     rw [bU (o:=o') (by simp [ah.put]) (by rw [Q8];exact NA CZ)]
     simp only [SS,Nat.reduceAdd,o6,Nz]
     refine ⟨(j+1,_,o'.set (i+j) ((c+(a*b+z))%aK),(c+(a*b+z))/aK),⟨(To CZ).1,by simp [Q8],JO JP (Nat.mod_lt _ cX),hc', ?_, ?_⟩,(To CZ).2,Wk.forget (by simp [Fg]) (fun j => ?_) (Nat.le_refl _)⟩
     . rw [List.getElem?_set_ne (hne CZ)];exact hz
     . show _=val o+aK ^ i*(a*val ((digits n).take (j+1)))
       rw [aS hb];exact hst
     . simp only [ah.put];split<;>simp
   . have hjw:=Kv CZ
     have mE:=cO (q:=[14]) (t:=false) (Ny hlt)
     have f7:IntKind.u32.wrap (c:Int)=(c:Int):=by rw [yk,Nat.mod_eq_of_lt hc]
     have hval:val (o'.set (i+ak n) c)=val ((digits m).take (i+1))*n:=by
       have e:=Fc (x:=c) hz
       have e2:(digits n).take (ak n)=digits n:=List.take_of_length_le (Nat.le_refl _)
       rw [hjw,e2,aZ,hv] at hv'
       rw [aS ha,Nat.add_mul]
       have e3:aK ^ i*a*n=aK ^ i*(a*n):=Nat.mul_assoc _ _ _
       omega
     simp only [SS,Nat.reduceAdd,LG CZ,bn,p9,f7,mE]
     rw [bU (o:=o') (by simp [ah.put]) (by rw [Q8];exact Ny hlt)]
     simp only [SS,Nat.reduceAdd,sU]
     refine ⟨(i+1,_,o'.set (i+ak n) c),⟨(js hlt).1,by simp [Q8],JO JP hc,hval⟩,(js hlt).2,Wk.forget (by simp [Fg]) (fun j => ?_) (Nat.le_refl _)⟩
     simp only [ah.put];split<;>simp
 . have pN:=dI hlt
   have e1:(digits m).take (ak m)=digits m:=List.take_of_length_le (Nat.le_refl _)
   have AH:val o=m*n:=by rw [hv,pN,e1,aZ]
   have zK:=ht o hwd (by rw [ho];omega)
   rw [AH] at zK
   simp only [SS,Nat.reduceAdd,xP hlt]
   refine bG [([14],⟨us o,1,false⟩)] zK (aM.cons (gZ ho.symm) aM.nil) (by simp [ah.put]) ?_
   simp only [SS,Nat.reduceAdd]
   exact ax▸ae rfl (aq _)
end
end Go.VL
end

section
set_option linter.unusedVariables false
namespace Go.VL
theorem NB {k:IntKind} {a b:Int}:bY .or .int (.int k a) (.int k b)=some (.int k (k.wrap (BitVec.ofInt k.bits a ||| BitVec.ofInt k.bits b).toNat)):=by
 simp only [bY];rw [show mJ .or .int (.int k a) (.int k b)=some (.int k (k.wrap (BitVec.ofInt k.bits a ||| BitVec.ofInt k.bits b).toNat)) from by simp [mJ,vK,bitsOf]]
theorem aau (a b:Nat) (ha:a<18446744073709551616) (hb:b<18446744073709551616):bY .or .int (.int .u64 (a:Int)) (.int .u64 (b:Int))=some (.int .u64 ((a ||| b:Nat):Int)):=by
 have hx:a ||| b<2 ^ 64:=Nat.or_lt_two_pow (by omega) (by omega)
 have h1:(BitVec.ofInt 64 (a:Int)).toNat=a:=by
   rw [BitVec.ofInt_natCast,BitVec.toNat_ofNat];exact Nat.mod_eq_of_lt (by omega)
 have h2:(BitVec.ofInt 64 (b:Int)).toNat=b:=by
   rw [BitVec.ofInt_natCast,BitVec.toNat_ofNat];exact Nat.mod_eq_of_lt (by omega)
 rw [NB]
 show some (AV.int .u64 (IntKind.u64.wrap ((BitVec.ofInt 64 (a:Int) ||| BitVec.ofInt 64 (b:Int)).toNat:Int)))=_
 rw [BitVec.toNat_or,h1,h2,w64 _ (by omega)]
theorem aav (a b:Nat) (ha:a<aK) (hb:b<aK):bY .or .int (.int .u32 (a:Int)) (.int .u32 (b:Int))=some (.int .u32 ((a ||| b:Nat):Int)):=by
 unfold aK at ha hb
 have hx:a ||| b<2 ^ 32:=Nat.or_lt_two_pow (by omega) (by omega)
 have h1:(BitVec.ofInt 32 (a:Int)).toNat=a:=by
   rw [BitVec.ofInt_natCast,BitVec.toNat_ofNat];exact Nat.mod_eq_of_lt (by omega)
 have h2:(BitVec.ofInt 32 (b:Int)).toNat=b:=by
   rw [BitVec.ofInt_natCast,BitVec.toNat_ofNat];exact Nat.mod_eq_of_lt (by omega)
 rw [NB]
 show some (AV.int .u32 (IntKind.u32.wrap ((BitVec.ofInt 32 (a:Int) ||| BitVec.ofInt 32 (b:Int)).toNat:Int)))=_
 rw [BitVec.toNat_or,h1,h2,yk,Nat.mod_eq_of_lt (by unfold aK;omega)]
theorem IQ (a b:Nat) (ha:a<aK) (hb:b<aK):bY .or .int (.int .u64 ((aK*a:Nat):Int)) (.int .u64 (b:Int))=some (.int .u64 ((aK*a+b:Nat):Int)):=by
 rw [aau _ _ (by unfold aK at *;omega) (by unfold aK at *;omega)]
 have:=Nat.two_pow_add_eq_or_of_lt (i:=32) (b:=b) (by unfold aK at hb;omega) a
 rw [show aK=2 ^ 32 from rfl,this]
theorem A7 (a:Nat) (ha:a<aK):bY .shl .int (.int .u64 (a:Int)) (.int .u64 32)=some (.int .u64 ((aK*a:Nat):Int)):=by
 rw [PB (by decide)]
 have:IntKind.u64.wrap ((a:Int)*2 ^ (min (32:Int).toNat IntKind.u64.bits))=((aK*a:Nat):Int):=by
   show IntKind.u64.wrap ((a:Int)*2 ^ 32)=_
   rw [IntKind.wrap_u64];unfold aK at *;omega
 rw [this]
theorem IU (a b:Nat) (ha:a<18446744073709551616) (hb:b≠0):bY .quo .int (.int .u64 (a:Int)) (.int .u64 (b:Int))=some (.int .u64 ((a/b:Nat):Int)):=by
 rw [JC (by omega)]
 show some (AV.int .u64 (IntKind.u64.wrap ((a/b:Nat):Int)))=_
 rw [w64 _ (Nat.lt_of_le_of_lt (Nat.div_le_self _ _) ha)]
theorem IW (a b:Nat) (hb:b≠0):bY .rem .int (.int .u64 (a:Int)) (.int .u64 (b:Int))=some (.int .u64 ((a%b:Nat):Int)):=by
 rw [Pu (by omega)];rfl
def zs (k:Nat):List Nat:=List.replicate k 0
theorem xq:zs 0=[]:=rfl
theorem zm (q:List Nat) (j x:Nat):(zs (j+1)++q).set j x=zs j++x::q:=by
 unfold zs
 rw [List.replicate_succ',List.append_assoc,List.set_append_right _ _ (by simp)]
 simp
section
variable {P:Program} {G:Nat->Option (List AV)}
theorem HR {f ft fu:FuncId} (h:Has P f (lF ft fu)) (ht:iT P G ft) (hu:∀ n,n<18446744073709551616->VP P G fu [.int .u64 ((n:Nat):Int)] (W n)) (m w:Nat) (hm:ak m<=1000000) (hw:w<aK) (Nq:w≠0) :
   VP P G f [W m, .int .u32 (w:Int)] (.tup [W (m/w),W (m%w)]):=by
 refine VP.has h ?_
 have ss:∀ p:Id,jn p 1 4 (.int .u32 0) (.int .i64 (ak m:Int)) (.int .i64 (ak m:Int))=some { val := .osl p 1 0 (ak m) false,up:=[(p,some ⟨us (List.replicate (ak m) 0),1,false⟩)] }:=fun p=>nE (by omega)
 have hwL:IntKind.i64.wrap ((ak m:Int)-1)=(ak m:Int)-1:=by rw [IntKind.wrap_i64];omega
 have f0:=bx w hw
 have hwz:((w:Nat):Int)≠0:=by omega
 simp only [lF,SS,Nat.reduceAdd,bn,ss,hwL,az]
 refine VW.dU (α := Nat × Nat × List Nat × Nat) (fun x=>⟨[W m, .int .u32 (w:Int), .top, .top, .top, .top, .osl [4] 1 0 (ak m) false, .int .u64 (x.2.2.2:Int), .int .i64 ((x.1:Int)-1)]++List.replicate 34 .top,
   ah.put (fun _=>none) [4] (some ⟨us (zs x.1++x.2.2.1),1,false⟩),x.2.1⟩)
   (fun x=>x.1+x.2.2.1.length=ak m/\Wd x.2.2.1/\x.2.2.2<w/\val ((digits m).drop x.1)=val x.2.2.1*w+x.2.2.2) (fun x=>x.1) (ak m,11,[],0) ?_ ?_ ?_
 . rw [List.append_nil];exact Wk.slots (by simp [Fg,List.replicate]) (Nat.le_refl _)
 . refine ⟨by simp,by intro w hw;simp at hw,Nat.pos_of_ne_zero Nq, ?_⟩
   show val ((digits m).drop (ak m))=_
   rw [List.drop_eq_nil_of_le (show (digits m).length<=ak m from Nat.le_refl _)];simp [val]
 rintro ⟨k,nn,q,r⟩ ⟨hk,hwd,hr,hv⟩
 simp only [] at hk hwd hr hv
 by_cases h0:k=0
 . subst h0
   have d0:decide ((0:Int)<=((0:Nat):Int)-1)=false:=by decide
   have e:m/w=val q/\m%w=r:=by
     rw [List.drop_zero,aZ] at hv
     refine (Nat.div_mod_unique (Nat.pos_of_ne_zero Nq)).2 ⟨?_,hr⟩
     rw [hv,Nat.mul_comm w];omega
   have zK:=ht q hwd (by omega)
   rw [<- e.1] at zK
   have M1:=hu r (by unfold aK at hw;omega)
   have hq:ak m=q.length:=by omega
   simp only [SS,Nat.reduceAdd,d0,xq]
   refine bG [([4],⟨us q,1,false⟩)] zK (aM.cons (gZ hq) aM.nil) (by simp [ah.put]) ?_
   simp only [SS,Nat.reduceAdd]
   refine ao M1 (by simp [aa.int]) ?_
   simp only [SS,Nat.reduceAdd]
   rw [e.2]
   exact ax▸ae rfl (aa.tup (by intro c hc;simp at hc;rcases hc with rfl | rfl<;>exact aq _))
 . obtain ⟨j,rfl⟩:∃ j,k=j+1:=⟨k-1,by omega⟩
   have d0:decide ((0:Int)<=(j:Int))=true:=aG (by omega)
   have hj:((j+1:Nat):Int)-1=(j:Int):=by omega
   have yi:j<ak m:=by omega
   have Nz:IntKind.i64.wrap ((j:Int)-1)=(j:Int)-1:=by rw [IntKind.wrap_i64];omega
   obtain ⟨a,ha⟩:∃ a,(digits m)[j]? = some a:=⟨_,List.getElem?_eq_getElem yi⟩
   have vg:=a7 m a (List.mem_of_getElem? ha)
   have f1:=bx a vg
   have LH:r<aK:=by omega
   have f2:=A7 r LH
   have f3:=IQ r a LH vg
   have hlt:aK*r+a<18446744073709551616:=by unfold aK at *;omega
   have f4:=IU (aK*r+a) w hlt Nq
   have f5:=IW (aK*r+a) w Nq
   have TR:(aK*r+a)/w<aK:=by
     rw [Nat.div_lt_iff_lt_mul (Nat.pos_of_ne_zero Nq)]
     have:aK*(r+1)<=aK*w:=Nat.mul_le_mul_left _ hr
     rw [Nat.mul_add] at this
     omega
   have f6:IntKind.u32.wrap (((aK*r+a)/w:Nat):Int)=(((aK*r+a)/w:Nat):Int):=by rw [yk,Nat.mod_eq_of_lt TR]
   have mE:=cO (q:=[4]) (t:=false) yi
   have YS:j<(zs (j+1)++q).length:=by simp [zs];omega
   have hv':val ((digits m).drop j)=val ((aK*r+a)/w::q)*w+(aK*r+a)%w:=by
     rw [List.drop_eq_getElem_cons (show j<(digits m).length from yi)]
     obtain ⟨_,h2⟩:=List.getElem?_eq_some_iff.1 ha
     rw [h2]
     simp only [val]
     rw [hv,Nat.add_mul,Nat.mul_add,Nat.mul_assoc aK]
     have:=Nat.div_add_mod (aK*r+a) w
     rw [Nat.mul_comm] at this
     omega
   have TL:j+((aK*r+a)/w::q).length=ak m:=by simp;omega
   simp only [SS,Nat.reduceAdd,d0,hj,di ha,aN,bq,f0,f1,f2,f3,f4,f6,mE]
   rw [bU (o:=zs (j+1)++q) (by simp [ah.put]) YS,zm]
   simp only [SS,Nat.reduceAdd,f0,f5,Nz]
   refine ⟨(j,_,(aK*r+a)/w::q,(aK*r+a)%w),⟨TL, ?_,Nat.mod_lt _ (Nat.pos_of_ne_zero Nq),hv'⟩,Nat.lt_succ_self j,Wk.forget (by simp [Fg]) (fun j => ?_) (Nat.le_refl _)⟩
   . intro z hz
     rcases List.mem_cons.1 hz with rfl | hz
     . exact TR
     . exact hwd z hz
   . simp only [ah.put];split<;>simp
end
end Go.VL
end

section
set_option linter.unusedVariables false
namespace Go.VL
def pad:Nat->Nat->List Nat
 | 0,_=>[]
 | k+1,n=>n%aK::pad k (n/aK)
theorem kz (k n:Nat):(pad k n).length=k:=by
 induction k generalizing n with
 | zero=>rfl
 | succ k ih=>simp [pad,ih]
theorem rT (k n:Nat):Wd (pad k n):=by
 induction k generalizing n with
 | zero=>intro w hw;simp [pad] at hw
 | succ k ih =>
   intro w hw
   rcases List.mem_cons.1 hw with rfl | hw
   . exact Nat.mod_lt _ cX
   . exact ih _ w hw
theorem A8 {o:List Nat} (h:Wd o):pad o.length (val o)=o:=by
 induction o with
 | nil=>rfl
 | cons w o ih =>
   have hw:=h w List.mem_cons_self
   simp only [List.length_cons,pad,val]
   rw [Nat.add_mul_mod_self_left,Nat.mod_eq_of_lt hw,Nat.add_mul_div_left _ _ cX,Nat.div_eq_of_lt hw,Nat.zero_add,ih fun z hz=>h z (List.mem_cons_of_mem _ hz)]
theorem fZ {k n:Nat} (h:n<aK ^ k):val (pad k n)=n:=by
 induction k generalizing n with
 | zero=>simp at h;simp [pad,val,h]
 | succ k ih =>
   simp only [pad,val]
   rw [ih (by rw [Nat.div_lt_iff_lt_mul cX];rwa [Nat.pow_succ] at h),Nat.mod_add_div]
theorem Zh (k:Nat):Wd (zs k):=GJ k
theorem iU (k:Nat):zs (k+1)=0::zs k:=rfl
theorem xr (o:List Nat) (c:Nat) (t:List Nat) {i:Nat} (h:o.length=i):(o++c::t)[i]? = some c:=by subst h;simp
theorem fO (o:List Nat) (c:Nat) (t:List Nat) {i:Nat} (x:Nat) (h:o.length=i):(o++c::t).set i x=o++x::t:=by
 subst h;rw [List.set_append_right _ _ (Nat.le_refl _),Nat.sub_self,List.set_cons_zero]
theorem LI (o:List Nat) (c d:Nat) (t:List Nat) {i:Nat} (x:Nat) (h:o.length=i):(o++c::d::t).set (i+1) x=(o++[c])++x::t:=by
 have e:o++c::d::t=(o++[c])++d::t:=by simp
 rw [e];exact fO _ _ _ _ (by simp [h])
theorem vk {s:Nat} (hs:s<=32):2 ^ (32-s)*2 ^ s=aK:=by
 rw [<- Nat.pow_add,Nat.sub_add_cancel hs];rfl
theorem LJ {x c s:Nat} (hs:s<=32) (hc:c<2 ^ s) (hx:x<aK):c ||| ((x*2 ^ s)%aK)=c+(x*2 ^ s)%aK/\c+(x*2 ^ s)%aK<aK/\(x*2 ^ s)/aK<2 ^ s:=by
 have hB:=vk hs
 have e:(x*2 ^ s)%aK=2 ^ s*(x%2 ^ (32-s)):=by rw [<- hB,Nat.mul_mod_mul_right,Nat.mul_comm]
 have hlt:x%2 ^ (32-s)<2 ^ (32-s):=Nat.mod_lt _ (Nat.two_pow_pos _)
 have h1:2 ^ s*(x%2 ^ (32-s)+1)<=2 ^ s*2 ^ (32-s):=Nat.mul_le_mul_left _ hlt
 rw [Nat.mul_add,Nat.mul_comm (2 ^ s) (2 ^ (32-s)),hB] at h1
 refine ⟨?_,by rw [e];omega, ?_⟩
 . rw [e,Nat.or_comm, <- Nat.two_pow_add_eq_or_of_lt hc,Nat.add_comm]
 . rw [Nat.div_lt_iff_lt_mul cX,Nat.mul_comm]
   exact Nat.mul_lt_mul_of_pos_left hx (Nat.two_pow_pos _)
theorem TT (x s:Nat) (hs:s<=32) (hx:x<aK):bY .shl .int (.int .u64 (x:Int)) (.int .i64 (s:Int))=some (.int .u64 ((x*2 ^ s:Nat):Int)):=by
 rw [PB (by omega)]
 have h1:x*2 ^ s<18446744073709551616:=by
   have h2:2 ^ s<=2 ^ 32:=Nat.pow_le_pow_right (by decide) hs
   have h3:x*2 ^ s<=x*2 ^ 32:=Nat.mul_le_mul_left _ h2
   unfold aK at hx;omega
 have h2:min (s:Int).toNat IntKind.u64.bits=s:=by
   show min (s:Int).toNat 64=s
   rw [Int.toNat_natCast];omega
 have h3:(x:Int)*2 ^ s=((x*2 ^ s:Nat):Int):=by rw [Int.natCast_mul,Int.natCast_pow];rfl
 rw [h2,h3,w64 _ h1]
section
variable {P:Program} {G:Nat->Option (List AV)}
theorem Cr {f:FuncId} (h:Has P f jt) (m s:Nat) (hm:ak m<=1000000) (hs:s<=31) (p:Id) :
   bc P G f [W m, .int .i64 (s:Int)] p [] { val := .osl (4::p) 1 0 (ak m+1) false,rd:=[],up:=[(4::p,some ⟨us (pad (ak m+1) (m*2 ^ s)),1,false⟩)] }:=by
 refine bc.has h ?_
 have hL:=aP (ak m) (by omega)
 have ss:∀ p:Id,jn p 1 4 (.int .u32 0) (.int .i64 ((ak m+1:Nat):Int)) (.int .i64 ((ak m+1:Nat):Int))=some { val := .osl p 1 0 (ak m+1) false,up:=[(p,some ⟨us (List.replicate (ak m+1) 0),1,false⟩)] }:=fun p=>nE (by omega)
 have hz:us (List.replicate (ak m+1) 0)=us (0::zs (ak m)):=rfl
 simp only [jt,SS,Nat.reduceAdd,bn,hL,ss,az]
 refine VW.dU (α := Nat × Nat × List Nat × Nat) (fun x=>⟨[W m, .int .i64 (s:Int), .top, .top, .top, .osl (4::p) 1 0 (ak m+1) false]++List.replicate 7 .top++[W m, .int .i64 (ak m), .int .i64 x.1]++List.replicate 25 .top,
   ah.put (ah.of []) (4::p) (some ⟨us (x.2.2.1++x.2.2.2::zs (ak m-x.1)),1,false⟩),x.2.1⟩)
   (fun x=>x.1<=ak m/\x.2.2.1.length=x.1/\Wd x.2.2.1/\x.2.2.2<2 ^ s/\val x.2.2.1+aK ^ x.1*x.2.2.2=val ((digits m).take x.1)*2 ^ s) (fun x=>ak m-x.1) (0,9,[],0) ?_ ?_ ?_
 . exact Wk.slots (by simp [Fg,List.replicate]) (Nat.le_refl _)
 . exact ⟨Nat.zero_le _,rfl,by intro w hw;simp at hw,Nat.two_pow_pos _,by simp [val]⟩
 rintro ⟨i,nn,o,c⟩ ⟨hi,ho,hwd,hc,hv⟩
 simp only [] at hi ho hwd hc hv
 have qU:i<ak m->decide ((i:Int)<(ak m:Int))=true:=fun h=>aG (by omega)
 have xP : ¬ i<ak m->decide ((i:Int)<(ak m:Int))=false:=fun h=>aD (by omega)
 have dI : ¬ i<ak m->i=ak m:=by omega
 have sU:=aP i (by omega)
 have js:i<ak m->i+1<=ak m/\ak m-(i+1)<ak m-i:=fun h=>by omega
 have hcB:c<aK:=by
   have h2:2 ^ s<=2 ^ 32:=Nat.pow_le_pow_right (by decide) (by omega)
   unfold aK;omega
 simp only [SS]
 by_cases hlt:i<ak m
 . obtain ⟨x,hx⟩:∃ x,(digits m)[i]? = some x:=⟨_,List.getElem?_eq_getElem hlt⟩
   have rY:=a7 m x (List.mem_of_getElem? hx)
   have f1:=bx x rY
   have f2:=TT x s (by omega) rY
   obtain ⟨g1,g2,g3⟩:=LJ (s:=s) (by omega) hc rY
   have f3:=aav c (x*2 ^ s%aK) hcB (Nat.mod_lt _ cX)
   rw [g1] at f3
   have g4:x*2 ^ s/aK<aK:=by
     have h2:2 ^ s<=2 ^ 32:=Nat.pow_le_pow_right (by decide) (by omega)
     have:(2:Nat) ^ 32=aK:=rfl
     omega
   have f4:IntKind.u32.wrap ((x*2 ^ s/aK:Nat):Int)=((x*2 ^ s/aK:Nat):Int):=by rw [yk,Nat.mod_eq_of_lt g4]
   have mE:=cO (q:=4::p) (t:=false) (show i<ak m+1 by omega)
   have aaw:=cO (q:=4::p) (t:=false) (show i+1<ak m+1 by omega)
   obtain ⟨k,hk⟩:∃ k,ak m-i=k+1:=⟨ak m-i-1,by omega⟩
   have D4:ak m-(i+1)=k:=by omega
   have zH:i<(o++c::0::zs k).length:=by simp;omega
   have Qy:i+1<(o++(c+x*2 ^ s%aK)::0::zs k).length:=by simp;omega
   have hv':val (o++[c+x*2 ^ s%aK])+aK ^ (i+1)*(x*2 ^ s/aK)=val ((digits m).take (i+1))*2 ^ s:=by
     rw [aS hx,cv,ho,Nat.add_mul, <- hv]
     simp only [val,Nat.mul_zero,Nat.add_zero,Nat.pow_succ]
     have e2:aK ^ i*(x*2 ^ s%aK)+aK ^ i*(aK*(x*2 ^ s/aK))=aK ^ i*(x*2 ^ s):=by rw [<- Nat.mul_add,Nat.mod_add_div]
     rw [Nat.mul_assoc,Nat.mul_assoc,Nat.mul_add]
     omega
   simp only [SS,Nat.reduceAdd,qU hlt,di hx,aN,bq,f1,f2,mE,hk,iU]
   rw [ju (o:=o++c::0::zs k) (b:=false) (by simp [ah.put]) (xr _ _ _ ho)]
   simp only [SS,Nat.reduceAdd,yk,f3,mE]
   rw [bU (o:=o++c::0::zs k) (by simp [ah.put]) zH,fO _ _ _ _ ho]
   simp only [SS,Nat.reduceAdd,sU,o6,f4,aaw]
   rw [bU (o:=o++(c+x*2 ^ s%aK)::0::zs k) (by simp [ah.put]) Qy,LI _ _ _ _ _ ho]
   simp only [SS,Nat.reduceAdd,sU]
   refine ⟨(i+1,_,o++[c+x*2 ^ s%aK],x*2 ^ s/aK),⟨(js hlt).1,by simp [ho],cN hwd (by intro z hz;simp at hz;subst hz;exact g2),g3,hv'⟩,(js hlt).2,Wk.forget (by simp [Fg]) (fun j => ?_) (Nat.le_refl _)⟩
   simp only [ah.put,D4];split<;>simp
 . have pN:=dI hlt
   have e1:(digits m).take (ak m)=digits m:=List.take_of_length_le (Nat.le_refl _)
   have AH:val (o++[c])=m*2 ^ s:=by
     rw [cv,ho];simp only [val,Nat.mul_zero,Nat.add_zero]
     rw [hv,pN,e1,aZ]
   have hlen:(o++[c]).length=ak m+1:=by simp [ho,pN]
   have e:pad (ak m+1) (m*2 ^ s)=o++[c]:=by
     rw [<- AH, <- hlen]
     exact A8 (cN hwd (by intro z hz;simp at hz;subst hz;exact hcB))
   have e3:zs (ak m-i)=[]:=by rw [pN,Nat.sub_self];rfl
   simp only [SS,Nat.reduceAdd,xP hlt,e,e3]
   exact eh▸bK rfl fun i => .inr rfl
end
end Go.VL
end

section
set_option linter.unusedVariables false
namespace Go.VL
theorem Cs {x y s:Nat} (hs:s<=32) (hx:x<aK):(x/2 ^ s) ||| ((y*2 ^ (32-s))%aK)=x/2 ^ s+2 ^ (32-s)*(y%2 ^ s)/\x/2 ^ s+2 ^ (32-s)*(y%2 ^ s)<aK/\2 ^ s*(x/2 ^ s+2 ^ (32-s)*(y%2 ^ s))+x%2 ^ s=x+aK*(y%2 ^ s):=by
 have hB:=vk hs
 have e:(y*2 ^ (32-s))%aK=2 ^ (32-s)*(y%2 ^ s):=by rw [<- hB,Nat.mul_comm y,Nat.mul_mod_mul_left]
 have hlt:y%2 ^ s<2 ^ s:=Nat.mod_lt _ (Nat.two_pow_pos _)
 have hd:x/2 ^ s<2 ^ (32-s):=by rw [Nat.div_lt_iff_lt_mul (Nat.two_pow_pos _),hB];exact hx
 have h1:2 ^ (32-s)*(y%2 ^ s+1)<=2 ^ (32-s)*2 ^ s:=Nat.mul_le_mul_left _ hlt
 rw [Nat.mul_add,hB] at h1
 refine ⟨?_,by omega, ?_⟩
 . rw [e,Nat.or_comm, <- Nat.two_pow_add_eq_or_of_lt hd,Nat.add_comm]
 . have h2:=Nat.div_add_mod x (2 ^ s)
   have h3:2 ^ s*(2 ^ (32-s)*(y%2 ^ s))=aK*(y%2 ^ s):=by rw [<- Nat.mul_assoc,Nat.mul_comm (2 ^ s),hB]
   rw [Nat.mul_add,h3];omega
theorem aax (x s:Nat) (hs:s<=32):bY .shr .int (.int .u32 (x:Int)) (.int .i64 (s:Int))=some (.int .u32 ((x/2 ^ s:Nat):Int)):=by
 rw [sJ (by omega)]
 have h2:min (s:Int).toNat IntKind.u32.bits=s:=by
   show min (s:Int).toNat 32=s
   rw [Int.toNat_natCast];omega
 have h3:(x:Int).fdiv (2 ^ s)=((x/2 ^ s:Nat):Int):=by
   have h4:(2:Int) ^ s=((2 ^ s:Nat):Int):=by rw [Int.natCast_pow];rfl
   rw [h4,Int.fdiv_eq_ediv_of_nonneg _ (Int.natCast_nonneg _)]
   exact (Int.natCast_ediv _ _).symm
 rw [h2,h3]
theorem zp (m:Nat):((digits m)[0]?).getD 0=m%aK:=by
 by_cases h:m=0
 . rw [h,bD];rfl
 . rw [iy h];rfl
section
variable {P:Program} {G:Nat->Option (List AV)}
theorem Az {f:FuncId} (h:Has P f gl) (m s:Nat) (hm:ak m<=1000000) (hs:s<=31) :
   VP P G f [W m, .int .i64 (s:Int)] (.sl 1 (us (pad (ak m) (m/2 ^ s)))):=by
 refine VP.has h ?_
 have ss:∀ p:Id,jn p 1 4 (.int .u32 0) (.int .i64 (ak m:Int)) (.int .i64 (ak m:Int))=some { val := .osl p 1 0 (ak m) false,up:=[(p,some ⟨us (List.replicate (ak m) 0),1,false⟩)] }:=fun p=>nE (by omega)
 have hz:us (List.replicate (ak m) 0)=us ([]++zs (ak m-0)):=rfl
 have agK:IntKind.i64.wrap (32-(s:Int))=((32-s:Nat):Int):=by rw [IntKind.wrap_i64];omega
 have h2s:2 ^ s*2 ^ (32-s)=aK:=by rw [Nat.mul_comm];exact vk (by omega)
 simp only [gl,SS,Nat.reduceAdd,bn,ss,hz,az]
 refine VW.dU (α := Nat × Nat × List Nat) (fun x=>⟨[W m, .int .i64 (s:Int), .top, .top, .top, .osl [3] 1 0 (ak m) false]++List.replicate 5 .top++[W m, .int .i64 (ak m), .int .i64 x.1]++List.replicate 33 .top,
   ah.put (fun _=>none) [3] (some ⟨us (x.2.2++zs (ak m-x.1)),1,false⟩),x.2.1⟩)
   (fun x=>x.1<=ak m/\x.2.2.length=x.1/\Wd x.2.2/\2 ^ s*val x.2.2+m%2 ^ s=val ((digits m).take x.1)+aK ^ x.1*(((digits m)[x.1]?).getD 0%2 ^ s)) (fun x=>ak m-x.1) (0,8,[]) ?_ ?_ ?_
 . exact Wk.slots (by simp [Fg,List.replicate]) (Nat.le_refl _)
 . refine ⟨Nat.zero_le _,rfl,by intro w hw;simp at hw, ?_⟩
   show 2 ^ s*val []+m%2 ^ s=val ((digits m).take 0)+aK ^ 0*(((digits m)[0]?).getD 0%2 ^ s)
   rw [zp, <- h2s,Nat.mod_mul_right_mod]
   simp [val]
 rintro ⟨i,nn,o⟩ ⟨hi,ho,hwd,hv⟩
 simp only [] at hi ho hwd hv
 have qU:i<ak m->decide ((i:Int)<(ak m:Int))=true:=fun h=>aG (by omega)
 have xP : ¬ i<ak m->decide ((i:Int)<(ak m:Int))=false:=fun h=>aD (by omega)
 have LF:i+1<ak m->decide (((i+1:Nat):Int)<(ak m:Int))=true:=fun h=>aG (by omega)
 have LG : ¬ i+1<ak m->decide (((i+1:Nat):Int)<(ak m:Int))=false:=fun h=>aD (by omega)
 have dI : ¬ i<ak m->i=ak m:=by omega
 have aay:i<ak m -> ¬ i+1<ak m->i+1=ak m:=by omega
 have sU:=aP i (by omega)
 have js:i<ak m->i+1<=ak m/\ak m-(i+1)<ak m-i:=fun h=>by omega
 simp only [SS]
 by_cases hlt:i<ak m
 . obtain ⟨x,hx⟩:∃ x,(digits m)[i]? = some x:=⟨_,List.getElem?_eq_getElem hlt⟩
   have rY:=a7 m x (List.mem_of_getElem? hx)
   have f2:=aax x s (by omega)
   have mE:=cO (q:=[3]) (t:=false) hlt
   obtain ⟨k,hk⟩:∃ k,ak m-i=k+1:=⟨ak m-i-1,by omega⟩
   have D4:ak m-(i+1)=k:=by omega
   have zH:i<(o++0::zs k).length:=by simp;omega
   have Qy:i<(o++(x/2 ^ s)::zs k).length:=by simp;omega
   have hstep:∀ y w,w=x/2 ^ s+2 ^ (32-s)*(y%2 ^ s)->2 ^ s*w+x%2 ^ s=x+aK*(y%2 ^ s)->((digits m)[i+1]?).getD 0=y ->
       2 ^ s*val (o++[w])+m%2 ^ s=val ((digits m).take (i+1))+aK ^ (i+1)*(((digits m)[i+1]?).getD 0%2 ^ s):=by
     intro y w _ hw hy
     rw [hx,Option.getD_some] at hv
     rw [aS hx,cv,ho,hy]
     simp only [val,Nat.mul_zero,Nat.add_zero,Nat.pow_succ]
     have e1:aK ^ i*(2 ^ s*w)+aK ^ i*(x%2 ^ s)=aK ^ i*x+aK ^ i*(aK*(y%2 ^ s)):=by rw [<- Nat.mul_add,hw,Nat.mul_add]
     have e2:2 ^ s*(val o+aK ^ i*w)=2 ^ s*val o+aK ^ i*(2 ^ s*w):=by rw [Nat.mul_add,Nat.mul_left_comm]
     rw [e2,Nat.mul_assoc]
     omega
   by_cases hn:i+1<ak m
   . obtain ⟨y,hy⟩:∃ y,(digits m)[i+1]? = some y:=⟨_,List.getElem?_eq_getElem hn⟩
     have DU:=a7 m y (List.mem_of_getElem? hy)
     have f1:=bx y DU
     have f3:=TT y (32-s) (by omega) DU
     obtain ⟨g1,g2,g3⟩:=Cs (y:=y) (s:=s) (by omega) rY
     have f4:=aav (x/2 ^ s) (y*2 ^ (32-s)%aK) (Nat.lt_of_le_of_lt (Nat.div_le_self _ _) rY) (Nat.mod_lt _ cX)
     rw [g1] at f4
     have hv':=hstep y _ rfl g3 (by rw [hy];rfl)
     simp only [SS,Nat.reduceAdd,qU hlt,di hx,aN,bq,f2,mE,hk,iU]
     rw [bU (o:=o++0::zs k) (by simp [ah.put]) zH,fO _ _ _ _ ho]
     simp only [SS,DD,Nat.reduceAdd,sU,bn,LF hn,mE]
     rw [ju (o:=o++(x/2 ^ s)::zs k) (b:=false) (by simp [ah.put]) (xr _ _ _ ho)]
     simp only [SS,DD,Nat.reduceAdd,sU,di hy,aN,bq,f1,agK,f3,yk,f4,mE]
     rw [bU (o:=o++(x/2 ^ s)::zs k) (by simp [ah.put]) Qy,fO _ _ _ _ ho]
     simp only [SS,DD,Nat.reduceAdd,sU]
     refine ⟨by simp [ab], ?_⟩
     refine ⟨(i+1,_,o++[x/2 ^ s+2 ^ (32-s)*(y%2 ^ s)]),⟨(js hlt).1,by simp [ho],cN hwd (by intro z hz;simp at hz;subst hz;exact g2),hv'⟩,(js hlt).2,Wk.forget (by simp [Fg]) (fun j => ?_) (Nat.le_refl _)⟩
     simp only [ah.put,D4];split<;>simp
   . have BI:(digits m)[i+1]? = none:=List.getElem?_eq_none (by have:=aay hlt hn;show ak m<=i+1;omega)
     obtain ⟨g1,g2,g3⟩:=Cs (y:=0) (s:=s) (by omega) rY
     have e0:x/2 ^ s+2 ^ (32-s)*(0%2 ^ s)=x/2 ^ s:=by simp
     rw [e0] at g2 g3
     have hv':=hstep 0 (x/2 ^ s) e0.symm g3 (by rw [BI];rfl)
     simp only [SS,Nat.reduceAdd,qU hlt,di hx,aN,bq,f2,mE,hk,iU]
     rw [bU (o:=o++0::zs k) (by simp [ah.put]) zH,fO _ _ _ _ ho]
     simp only [SS,Nat.reduceAdd,sU,bn,LG hn]
     refine ⟨(i+1,_,o++[x/2 ^ s]),⟨(js hlt).1,by simp [ho],cN hwd (by intro z hz;simp at hz;subst hz;exact g2),hv'⟩,(js hlt).2,Wk.forget (by simp [Fg]) (fun j => ?_) (Nat.le_refl _)⟩
     simp only [ah.put,D4];split<;>simp
 . have pN:=dI hlt
   have e1:(digits m).take (ak m)=digits m:=List.take_of_length_le (Nat.le_refl _)
   have BI:(digits m)[ak m]? = none:=List.getElem?_eq_none (Nat.le_refl _)
   have AH:val o=m/2 ^ s:=by
     rw [pN,e1,aZ,BI] at hv
     have h1:=Nat.div_add_mod m (2 ^ s)
     have h2:2 ^ s*val o=2 ^ s*(m/2 ^ s):=by
       simp at hv;omega
     exact Nat.eq_of_mul_eq_mul_left (Nat.two_pow_pos _) h2
   have hlen:o.length=ak m:=by rw [ho,pN]
   have e:pad (ak m) (m/2 ^ s)=o:=by rw [<- AH, <- hlen];exact A8 hwd
   have e3:zs (ak m-i)=[]:=by rw [pN,Nat.sub_self];rfl
   simp only [SS,Nat.reduceAdd,xP hlt,e,e3]
   exact ax▸GI (b:=false) rfl (by simp [ah.put]) hlen.symm
end
end Go.VL
end

section
set_option linter.unusedVariables false
namespace Go.VL
theorem Fe (k n c:Nat):pad k (n+aK ^ k*c)=pad k n:=by
 induction k generalizing n with
 | zero=>rfl
 | succ k ih =>
   have e:aK ^ (k+1)*c=aK*(aK ^ k*c):=by rw [Nat.pow_succ,Nat.mul_comm (aK ^ k),Nat.mul_assoc]
   simp only [pad]
   rw [e,Nat.add_mul_mod_self_left,Nat.add_mul_div_left _ _ cX,ih]
theorem pF {q:Id} {off len i:Nat} {t:Bool} (h:i<len):cW 1 (.osl q 1 off len t) (.int .i64 (i:Int))=some (.ref q (off+i) 0):=by
 simp only [cW]
 rw [if_pos ⟨trivial,by omega,by omega⟩]
 simp
theorem IX {x k:Nat} (hx:x<aK) (hk:k<=aK):∃ w c':Nat,w<aK/\c'<=1/\w+k=x+aK*c'/\IntKind.u32.wrap (IntKind.u64.wrap ((x:Int)-(k:Int)))=(w:Int) /\
   bY .shr .int (.int .u64 (IntKind.u64.wrap ((x:Int)-(k:Int)))) (.int .u64 63)=some (.int .u64 (c':Int)):=by
 have KA:∀ a:Int,bY .shr .int (.int .u64 a) (.int .u64 63)=some (.int .u64 (a/9223372036854775808)):=fun a=>by
   rw [sJ (by decide)]
   show some (AV.int .u64 (a.fdiv (2 ^ 63)))=_
   rw [Int.fdiv_eq_ediv_of_nonneg _ (by decide)];rfl
 rw [KA]
 unfold aK at *
 by_cases h:k<=x
 . refine ⟨x-k,0,by omega,by omega,by omega, ?_, ?_⟩
   . rw [IntKind.wrap_u32,IntKind.wrap_u64];omega
   . rw [IntKind.wrap_u64];congr 2;omega
 . refine ⟨x+4294967296-k,1,by omega,by omega,by omega, ?_, ?_⟩
   . rw [IntKind.wrap_u32,IntKind.wrap_u64];omega
   . rw [IntKind.wrap_u64];congr 2;omega
theorem Ct {b:List Nat} {k:Nat} (h:b.length=k):val (b.take k)=val b:=by rw [List.take_of_length_le (Nat.le_of_eq h)]
theorem IY {i j:Id} {b c:dA} {d:Option dA}:(ah.of [(i,b)]).put i d j=(ah.of [(i,c)]).put i d j:=by
 by_cases h:j=i
 . subst h;rw [ah.dE,ah.dE]
 . rw [ah.cD _ _ _ h,ah.cD _ _ _ h]
   have:(j==i)=false:=by simpa using h
   simp [ah.of,List.lookup,this]
section
variable {P:Program} {G:Nat->Option (List AV)}
theorem LK {f:FuncId} (h:Has P f j0) {id:Id} {a b t:List Nat} {v q:Nat} {tight:Bool} (hv:ak v<=1000000) (hb:b.length=ak v+1) (SC:Wd b) (hq:q<aK) (p:Id) :
   bc P G f [.osl id 1 a.length (ak v+1) tight,W v, .int .u64 (q:Int)] p [(id,⟨us (a++b++t),1,false⟩)]
     { val := .bool (decide (val b<q*v)),rd:=[id],up:=[(id,some ⟨us (a++pad (ak v+1) (val b+aK ^ (ak v+1)-q*v)++t),1,false⟩)] }:=by
 refine bc.has h ?_
 simp only [j0,SS,Nat.reduceAdd,bn,az]
 refine VW.dU (α := Nat × Nat × List Nat × Nat) (fun x=>⟨[.osl id 1 a.length (ak v+1) tight,W v, .int .u64 (q:Int), .top, .top, .top, .top, .int .u64 (x.2.2.2:Int)]++List.replicate 5 .top++[W v, .int .i64 (ak v), .int .i64 x.1]++List.replicate 47 .top,
   ah.of [(id,⟨us ((a++x.2.2.1)++(b.drop x.1++t)),1,false⟩)],x.2.1⟩)
   (fun x=>x.1<=ak v/\x.2.2.1.length=x.1/\Wd x.2.2.1/\x.2.2.2<=aK/\val x.2.2.1+val ((digits v).take x.1)*q=val (b.take x.1)+aK ^ x.1*x.2.2.2) (fun x=>ak v-x.1) (0,5,[],0) ?_ ?_ ?_
 . exact Wk.forget (by simp [Fg,List.replicate]) (fun j=>by simp) (Nat.le_refl _)
 . exact ⟨Nat.zero_le _,rfl,by intro w hw;simp at hw,Nat.zero_le _,by simp [val]⟩
 rintro ⟨i,nn,o,k⟩ ⟨hi,ho,hwd,hk,hv'⟩
 simp only [] at hi ho hwd hk hv'
 have qU:i<ak v->decide ((i:Int)<(ak v:Int))=true:=fun h=>aG (by omega)
 have xP : ¬ i<ak v->decide ((i:Int)<(ak v:Int))=false:=fun h=>aD (by omega)
 have dI : ¬ i<ak v->i=ak v:=by omega
 have sU:=aP i (by omega)
 have js:i<ak v->i+1<=ak v/\ak v-(i+1)<ak v-i:=fun h=>by omega
 have hib:i<b.length:=by omega
 have mE:=pF (q:=id) (off:=a.length) (t:=tight) (show i<ak v+1 by omega)
 obtain ⟨x,hx⟩:∃ x,b[i]? = some x:=⟨_,List.getElem?_eq_getElem hib⟩
 have rY:=SC x (List.mem_of_getElem? hx)
 have hdr:b.drop i=x::b.drop (i+1):=by
   obtain ⟨_,h2⟩:=List.getElem?_eq_some_iff.1 hx
   rw [List.drop_eq_getElem_cons hib,h2]
 have f1:=bx x rY
 have TU:(a++o).length=a.length+i:=by rw [List.length_append,ho]
 have zH:a.length+i<((a++o)++x::(b.drop (i+1)++t)).length:=by rw [List.length_append,TU];simp
 simp only [SS]
 by_cases hlt:i<ak v
 . obtain ⟨y,hy⟩:∃ y,(digits v)[i]? = some y:=⟨_,List.getElem?_eq_getElem hlt⟩
   have DU:=a7 v y (List.mem_of_getElem? hy)
   have f2:=bx y DU
   have f3:=PK y q DU hq
   have hle:=Nx DU hq
   have f4:=pZ (y*q) k (by unfold aK at hk;omega)
   have f5:IntKind.u64.wrap (((y*q+k)%aK:Nat):Int)=(((y*q+k)%aK:Nat):Int):=bx _ (Nat.mod_lt _ cX)
   obtain ⟨w,c',h1,h2,h3,h4,h5⟩:=IX (k:=(y*q+k)%aK) rY (Nat.le_of_lt (Nat.mod_lt _ cX))
   have hdq:(y*q+k)/aK+1<=aK:=by unfold aK at hk ⊢;omega
   have f6:=pZ ((y*q+k)/aK) c' (by unfold aK at hdq ⊢;omega)
   have hk':(y*q+k)/aK+c'<=aK:=by omega
   have hst:w+y*q+k=x+aK*((y*q+k)/aK+c'):=by
     have:=Nat.mod_add_div (y*q+k) aK
     rw [Nat.mul_add];omega
   have TV:=nN (va:=val (b.take i)) (vb:=val ((digits v).take i)*q) ho (by rw [hv'];omega) hst
   simp only [SS,Nat.reduceAdd,qU hlt,di hy,aN,bq,f2,f3,f4,mE,hdr]
   rw [ju (o:=(a++o)++x::(b.drop (i+1)++t)) (b:=false) (by simp [ah.of]) (xr _ _ _ TU)]
   simp only [SS,Nat.reduceAdd,f1,yk,f5,h4,mE]
   rw [bU (o:=(a++o)++x::(b.drop (i+1)++t)) (by simp [ah.of]) zH,fO _ _ _ _ TU]
   simp only [SS,Nat.reduceAdd,o6,h5,f6,sU]
   refine ⟨(i+1,_,o++[w],(y*q+k)/aK+c'),⟨(js hlt).1,by simp [ho],cN hwd (by intro z hz;simp at hz;subst hz;exact h1),hk', ?_⟩,(js hlt).2,Wk.forget (by simp [Fg]) (fun j => ?_) (Nat.le_refl _)⟩
   . show val (o++[w])+val ((digits v).take (i+1))*q=_
     rw [aS hx,aS hy,Nat.add_mul,Nat.mul_assoc];exact TV
   . simp only [ah.put,ah.of];split<;>simp_all
 . have pN:=dI hlt
   subst pN
   obtain ⟨w,c',h1,h2,h3,h4,h5⟩:=IX (k:=k) rY hk
   have Fa:b.drop (ak v+1)=[]:=List.drop_eq_nil_of_le (by omega)
   have e1:(digits v).take (ak v)=digits v:=List.take_of_length_le (Nat.le_refl _)
   have e2:val (b.take (ak v+1))=val b:=Ct hb
   have TV:=nN (va:=val (b.take (ak v))) (vb:=val ((digits v).take (ak v))*q) (y:=0) (c:=k) (w:=w) (c':=c') (x:=x) ho (by rw [hv'];omega) (by omega)
   rw [e1,aZ, <- aS hx,e2,Nat.mul_zero,Nat.add_zero,Nat.mul_comm v q] at TV
   have W9:Wd (o++[w]):=cN hwd (by intro z hz;simp at hz;subst hz;exact h1)
   have yn:(o++[w]).length=ak v+1:=by simp [ho]
   have yr:val (o++[w])<aK ^ (ak v+1):=by have:=mw W9;rwa [yn] at this
   have e:pad (ak v+1) (val b+aK ^ (ak v+1)-q*v)=o++[w]/\decide ((c':Int)=1)=decide (val b<q*v):=by
     rcases Nat.le_one_iff_eq_zero_or_eq_one.1 h2 with h0 | h0
     . rw [h0] at TV ⊢
       refine ⟨?_, ?_⟩
       . have:val b+aK ^ (ak v+1)-q*v=val (o++[w])+aK ^ (ak v+1)*1:=by omega
         rw [this,Fe, <- yn];exact A8 W9
       . rw [aD (show ¬ val b<q*v by omega)];rfl
     . rw [h0] at TV ⊢
       refine ⟨?_, ?_⟩
       . have:val b+aK ^ (ak v+1)-q*v=val (o++[w]):=by omega
         rw [this, <- yn];exact A8 W9
       . rw [aG (show val b<q*v by omega)];rfl
   simp only [SS,Nat.reduceAdd,xP hlt,bn,mE,hdr]
   rw [ju (o:=(a++o)++x::(b.drop (ak v+1)++t)) (b:=false) (by simp [ah.of]) (xr _ _ _ TU)]
   simp only [SS,Nat.reduceAdd,f1,h4,mE,bn]
   rw [bU (o:=(a++o)++x::(b.drop (ak v+1)++t)) (by simp [ah.of]) zH,fO _ _ _ _ TU,Fa]
   simp only [SS,Nat.reduceAdd,h5,e.2,e.1]
   have e5:a++(o++[w])++t=a++o++w::t:=by simp
   refine eh▸bK rfl fun i => .inr ?_
   simp only [ah.app,e5];exact IY
end
end Go.VL
end

section
set_option linter.unusedVariables false
namespace Go.VL
section
variable {P:Program} {G:Nat->Option (List AV)}
theorem NC {f:FuncId} (h:Has P f lv) {id:Id} {a b t:List Nat} {v:Nat} {tight:Bool} (hv:ak v<=1000000) (hb:b.length=ak v+1) (SC:Wd b) (p:Id) :
   bc P G f [.osl id 1 a.length (ak v+1) tight,W v] p [(id,⟨us (a++b++t),1,false⟩)]
     { val := .tup [],rd:=[id],up:=[(id,some ⟨us (a++pad (ak v+1) (val b+v)++t),1,false⟩)] }:=by
 refine bc.has h ?_
 simp only [lv,SS,Nat.reduceAdd,bn,az]
 refine VW.dU (α := Nat × Nat × List Nat × Nat) (fun x=>⟨[.osl id 1 a.length (ak v+1) tight,W v, .top, .top, .int .u64 (x.2.2.2:Int)]++List.replicate 2 .top++[W v, .int .i64 (ak v), .int .i64 x.1]++List.replicate 31 .top,
   ah.of [(id,⟨us ((a++x.2.2.1)++(b.drop x.1++t)),1,false⟩)],x.2.1⟩)
   (fun x=>x.1<=ak v/\x.2.2.1.length=x.1/\Wd x.2.2.1/\x.2.2.2<=1/\val x.2.2.1+aK ^ x.1*x.2.2.2=val (b.take x.1)+val ((digits v).take x.1)) (fun x=>ak v-x.1) (0,4,[],0) ?_ ?_ ?_
 . exact Wk.forget (by simp [Fg,List.replicate]) (fun j=>by simp) (Nat.le_refl _)
 . exact ⟨Nat.zero_le _,rfl,by intro w hw;simp at hw,Nat.zero_le _,by simp [val]⟩
 rintro ⟨i,nn,o,k⟩ ⟨hi,ho,hwd,hk,hv'⟩
 simp only [] at hi ho hwd hk hv'
 have qU:i<ak v->decide ((i:Int)<(ak v:Int))=true:=fun h=>aG (by omega)
 have xP : ¬ i<ak v->decide ((i:Int)<(ak v:Int))=false:=fun h=>aD (by omega)
 have dI : ¬ i<ak v->i=ak v:=by omega
 have sU:=aP i (by omega)
 have js:i<ak v->i+1<=ak v/\ak v-(i+1)<ak v-i:=fun h=>by omega
 have hib:i<b.length:=by omega
 have mE:=pF (q:=id) (off:=a.length) (t:=tight) (show i<ak v+1 by omega)
 obtain ⟨x,hx⟩:∃ x,b[i]? = some x:=⟨_,List.getElem?_eq_getElem hib⟩
 have rY:=SC x (List.mem_of_getElem? hx)
 have hdr:b.drop i=x::b.drop (i+1):=by
   obtain ⟨_,h2⟩:=List.getElem?_eq_some_iff.1 hx
   rw [List.drop_eq_getElem_cons hib,h2]
 have f1:=bx x rY
 have TU:(a++o).length=a.length+i:=by rw [List.length_append,ho]
 have zH:a.length+i<((a++o)++x::(b.drop (i+1)++t)).length:=by rw [List.length_append,TU];simp
 simp only [SS]
 by_cases hlt:i<ak v
 . obtain ⟨y,hy⟩:∃ y,(digits v)[i]? = some y:=⟨_,List.getElem?_eq_getElem hlt⟩
   have DU:=a7 v y (List.mem_of_getElem? hy)
   have f2:=bx y DU
   have f3:=pZ x y (by unfold aK at rY DU;omega)
   have f4:=pZ k (x+y) (by unfold aK at rY DU;omega)
   have hk':(k+(x+y))/aK<=1:=by unfold aK at rY DU ⊢;omega
   have TV:=m8 (x:=x) (y:=y) (s:=k+(x+y)) ho hv' (by omega)
   simp only [SS,Nat.reduceAdd,qU hlt,di hy,aN,bq,mE,hdr]
   rw [ju (o:=(a++o)++x::(b.drop (i+1)++t)) (b:=false) (by simp [ah.of]) (xr _ _ _ TU)]
   simp only [SS,Nat.reduceAdd,f1,f2,f3,f4,yk,mE]
   rw [bU (o:=(a++o)++x::(b.drop (i+1)++t)) (by simp [ah.of]) zH,fO _ _ _ _ TU]
   simp only [SS,Nat.reduceAdd,o6,sU]
   refine ⟨(i+1,_,o++[(k+(x+y))%aK],(k+(x+y))/aK),⟨(js hlt).1,by simp [ho],pM hwd _,hk', ?_⟩,(js hlt).2,Wk.forget (by simp [Fg]) (fun j => ?_) (Nat.le_refl _)⟩
   . show val (o++[(k+(x+y))%aK])+aK ^ (i+1)*((k+(x+y))/aK)=_
     rw [aS hx,aS hy];exact TV
   . simp only [ah.put,ah.of];split<;>simp_all
 . have pN:=dI hlt
   subst pN
   have Fa:b.drop (ak v+1)=[]:=List.drop_eq_nil_of_le (by omega)
   have e1:(digits v).take (ak v)=digits v:=List.take_of_length_le (Nat.le_refl _)
   have e2:val (b.take (ak v+1))=val b:=Ct hb
   have TV:=m8 (x:=x) (y:=0) (s:=k+x) ho hv' (by omega)
   rw [e1,aZ, <- aS hx,e2] at TV
   simp only [Nat.mul_zero,Nat.add_zero] at TV
   have f5:IntKind.u32.wrap (k:Int)=(k:Int):=by rw [yk,Nat.mod_eq_of_lt (by unfold aK;omega)]
   have f6:IntKind.u32.wrap ((x:Int)+(k:Int))=(((k+x)%aK:Nat):Int):=by rw [IntKind.wrap_u32];unfold aK;omega
   have W9:Wd (o++[(k+x)%aK]):=pM hwd _
   have yn:(o++[(k+x)%aK]).length=ak v+1:=by simp [ho]
   have e:pad (ak v+1) (val b+v)=o++[(k+x)%aK]:=by
     rw [<- TV,Fe, <- yn];exact A8 W9
   simp only [SS,Nat.reduceAdd,xP hlt,bn,mE,hdr]
   rw [ju (o:=(a++o)++x::(b.drop (ak v+1)++t)) (b:=false) (by simp [ah.of]) (xr _ _ _ TU)]
   simp only [SS,Nat.reduceAdd,f5,f6,mE]
   rw [bU (o:=(a++o)++x::(b.drop (ak v+1)++t)) (by simp [ah.of]) zH,fO _ _ _ _ TU,Fa]
   simp only [SS,Nat.reduceAdd,e]
   have e5:a++(o++[(k+x)%aK])++t=a++o++(k+x)%aK::t:=by simp
   refine Ej▸bK rfl fun i => .inr ?_
   simp only [ah.app,e5];exact IY
end
end Go.VL
end

section
set_option linter.unusedVariables false
namespace Go.VL
def lens:List UInt8:=[0,1,2,2,3,3,3,3,4,4,4,4,4,4,4,4,5,5,5,5,5,5,5,5,5,5,5,5,5,5,5,5,6,6,6,6,6,6,6,6,6,6,6,6,6,6,6,6,6,6,6,6,6,6,6,6,6,6,6,6,6,6,6,6,7,7,7,7,7,7,7,7,7,7,7,7,7,7,7,7,7,7,7,7,7,7,7,7,7,7,7,7,7,7,7,7,7,7,7,7,7,7,7,7,7,7,7,7,7,7,7,7,7,7,7,7,7,7,7,7,7,7,7,7,7,7,7,7,8,8,8,8,8,8,8,8,8,8,8,8,8,8,8,8,8,8,8,8,8,8,8,8,8,8,8,8,8,8,8,8,8,8,8,8,8,8,8,8,8,8,8,8,8,8,8,8,8,8,8,8,8,8,8,8,8,8,8,8,8,8,8,8,8,8,8,8,8,8,8,8,8,8,8,8,8,8,8,8,8,8,8,8,8,8,8,8,8,8,8,8,8,8,8,8,8,8,8,8,8,8,8,8,8,8,8,8,8,8,8,8,8,8,8,8,8,8,8,8,8,8,8,8,8,8,8,8]
def len8 (v:Nat):Nat:=((lens[v]?).getD 0).toNat
def iC (x:Nat):Nat :=
 if 65536<=x then (if 256<=x/65536 then 24+len8 (x/65536/256) else 16+len8 (x/65536)) else (if 256<=x then 8+len8 (x/256) else len8 x)
set_option maxRecDepth 100000 in
theorem TW {v:Nat} (h:v<256):lens[v]? = some ((lens[v]?).getD 0):=by
 have:v<lens.length:=h
 rw [List.getElem?_eq_getElem this];rfl
theorem Cu (v:Nat):len8 v<256:=(((lens[v]?).getD 0)).toNat_lt
set_option maxRecDepth 100000 in
theorem TX:(List.range 256).all (fun v=>v==0||(decide (v<2 ^ len8 v)&&decide (2 ^ len8 v<=2*v)))=true:=by decide
theorem Cv {v:Nat} (h:v<256) (h0:0<v):v<2 ^ len8 v/\2 ^ len8 v<=2*v:=by
 have:=List.all_eq_true.1 TX v (List.mem_range.2 h)
 simp only [Bool.or_eq_true,Bool.and_eq_true,beq_iff_eq,decide_eq_true_eq] at this
 rcases this with h1 | h1
 . omega
 . exact h1
theorem A9 {x a k j:Nat} (he:a=x/2 ^ j) (h:a<2 ^ k/\2 ^ k<=2*a):x<2 ^ (j+k)/\2 ^ (j+k)<=2*x:=by
 subst he
 have hp:=Nat.two_pow_pos j
 refine ⟨?_, ?_⟩
 . have:=(Nat.div_lt_iff_lt_mul hp).1 h.1
   rwa [Nat.pow_add,Nat.mul_comm]
 . have h1:=Nat.mul_le_mul_left (2 ^ j) h.2
   have h2:=Nat.mul_div_le x (2 ^ j)
   rw [Nat.pow_add,Nat.mul_left_comm] at *
   omega
theorem Cw {x:Nat} (h:x<aK) (h0:0<x):x<2 ^ iC x/\2 ^ iC x<=2*x:=by
 unfold aK at h
 unfold iC
 by_cases h1:65536<=x
 . by_cases h2:256<=x/65536
   . rw [if_pos h1,if_pos h2]
     exact A9 (j:=24) (a:=x/65536/256) (by rw [Nat.div_div_eq_div_mul]) (Cv (by omega) (by omega))
   . rw [if_pos h1,if_neg h2]
     exact A9 (j:=16) (a:=x/65536) rfl (Cv (by omega) (by omega))
 . by_cases h2:256<=x
   . rw [if_neg h1,if_pos h2]
     exact A9 (j:=8) (a:=x/256) rfl (Cv (by omega) (by omega))
   . rw [if_neg h1,if_neg h2]
     exact Cv (by omega) h0
section
variable {P:Program} {G:Nat->Option (List AV)}
set_option maxRecDepth 100000 in
theorem GL {f:FuncId} (h:Has P f n9) (x:Nat) (hx:x<aK):VP P G f [.int .u32 (x:Int)] (.int .i64 (iC x:Int)):=by
 refine VP.has h ?_
 have s16:bY .shr .int (.int .u32 (x:Int)) (.int .u64 16)=some (.int .u32 ((x/65536:Nat):Int)):=by
   rw [sJ (by decide)]
   have:(x:Int).fdiv (2 ^ (min (16:Int).toNat IntKind.u32.bits))=((x/65536:Nat):Int):=by
     show (x:Int).fdiv (2 ^ 16)=_
     rw [Int.fdiv_eq_ediv_of_nonneg _ (by decide)];omega
   rw [this]
 have s8:∀ y:Nat,bY .shr .int (.int .u32 (y:Int)) (.int .u64 8)=some (.int .u32 ((y/256:Nat):Int)):=fun y=>by
   rw [sJ (by decide)]
   have:(y:Int).fdiv (2 ^ (min (8:Int).toNat IntKind.u32.bits))=((y/256:Nat):Int):=by
     show (y:Int).fdiv (2 ^ 8)=_
     rw [Int.fdiv_eq_ediv_of_nonneg _ (by decide)];omega
   rw [this]
 have w8:∀ y:Nat,y<256->IntKind.u8.wrap (y:Int)=(y:Int):=fun y h=>by rw [IntKind.wrap_u8'];omega
 have wl:∀ y:Nat,IntKind.i64.wrap ((len8 y:Nat):Int)=((len8 y:Nat):Int):=fun y=>by have:=Cu y;rw [IntKind.wrap_i64];omega
 have Xa:∀ (p:Id) (σ : ah) (y:Nat),y<256->b8 σ p (.indexS (.str [0,1,2,2,3,3,3,3,4,4,4,4,4,4,4,4,5,5,5,5,5,5,5,5,5,5,5,5,5,5,5,5,6,6,6,6,6,6,6,6,6,6,6,6,6,6,6,6,6,6,6,6,6,6,6,6,6,6,6,6,6,6,6,6,7,7,7,7,7,7,7,7,7,7,7,7,7,7,7,7,7,7,7,7,7,7,7,7,7,7,7,7,7,7,7,7,7,7,7,7,7,7,7,7,7,7,7,7,7,7,7,7,7,7,7,7,7,7,7,7,7,7,7,7,7,7,7,7,8,8,8,8,8,8,8,8,8,8,8,8,8,8,8,8,8,8,8,8,8,8,8,8,8,8,8,8,8,8,8,8,8,8,8,8,8,8,8,8,8,8,8,8,8,8,8,8,8,8,8,8,8,8,8,8,8,8,8,8,8,8,8,8,8,8,8,8,8,8,8,8,8,8,8,8,8,8,8,8,8,8,8,8,8,8,8,8,8,8,8,8,8,8,8,8,8,8,8,8,8,8,8,8,8,8,8,8,8,8,8,8,8,8,8,8,8,8,8,8,8,8,8,8,8,8,8,8]) (.int .u8 (y:Int)))=some { val := .int .u8 ((len8 y:Nat):Int) }:=fun p σ y h=>by
   show b8 σ p (.indexS (.str lens) (.int .u8 (y:Int)))=_
   rw [AJ,if_pos (by omega),Int.toNat_natCast,TW h];rfl
 have hB:x<4294967296:=hx
 simp only [n9]
 by_cases h1:65536<=x
 . have d1:decide ((65536:Int)<=(x:Int))=true:=aG (by omega)
   by_cases h2:256<=x/65536
   . have d2:decide ((256:Int)<=((x/65536:Nat):Int))=true:=aG (by omega)
     have hb:x/65536/256<256:=by omega
     have e:iC x=24+len8 (x/65536/256):=by unfold iC;rw [if_pos h1,if_pos h2]
     have e1:IntKind.i64.wrap ((16:Int)+8)=24:=by rw [IntKind.wrap_i64];omega
     have e2:IntKind.i64.wrap ((24:Int)+((len8 (x/65536/256):Nat):Int))=((24+len8 (x/65536/256):Nat):Int):=by have:=Cu (x/65536/256);rw [IntKind.wrap_i64];omega
     simp only [SS,Nat.reduceAdd,d1,d2,s16,s8,w8 _ hb,Xa _ _ _ hb,wl,e1,e2]
     rw [e];exact ax▸ae rfl (aa.int _ _)
   . have d2:decide ((256:Int)<=((x/65536:Nat):Int))=false:=aD (by omega)
     have hb:x/65536<256:=by omega
     have e:iC x=16+len8 (x/65536):=by unfold iC;rw [if_pos h1,if_neg h2]
     have e2:IntKind.i64.wrap ((16:Int)+((len8 (x/65536):Nat):Int))=((16+len8 (x/65536):Nat):Int):=by have:=Cu (x/65536);rw [IntKind.wrap_i64];omega
     simp only [SS,Nat.reduceAdd,d1,d2,s16,w8 _ hb,Xa _ _ _ hb,wl,e2]
     rw [e];exact ax▸ae rfl (aa.int _ _)
 . have d1:decide ((65536:Int)<=(x:Int))=false:=aD (by omega)
   by_cases h2:256<=x
   . have d2:decide ((256:Int)<=(x:Int))=true:=aG (by omega)
     have hb:x/256<256:=by omega
     have e:iC x=8+len8 (x/256):=by unfold iC;rw [if_neg h1,if_pos h2]
     have e1:IntKind.i64.wrap ((0:Int)+8)=8:=by rw [IntKind.wrap_i64];omega
     have e2:IntKind.i64.wrap ((8:Int)+((len8 (x/256):Nat):Int))=((8+len8 (x/256):Nat):Int):=by have:=Cu (x/256);rw [IntKind.wrap_i64];omega
     simp only [SS,Nat.reduceAdd,d1,d2,s8,w8 _ hb,Xa _ _ _ hb,wl,e1,e2]
     rw [e];exact ax▸ae rfl (aa.int _ _)
   . have d2:decide ((256:Int)<=(x:Int))=false:=aD (by omega)
     have hb:x<256:=by omega
     have e:iC x=len8 x:=by unfold iC;rw [if_neg h1,if_neg h2]
     have e2:IntKind.i64.wrap ((0:Int)+((len8 x:Nat):Int))=((len8 x:Nat):Int):=by have:=Cu x;rw [IntKind.wrap_i64];omega
     simp only [SS,Nat.reduceAdd,d1,d2,w8 _ hb,Xa _ _ _ hb,wl,e2]
     rw [e];exact ax▸ae rfl (aa.int _ _)
theorem Xb {f fl:FuncId} (h:Has P f (iq fl)) (hl:∀ x,x<aK->VP P G fl [.int .u32 ((x:Nat):Int)] (.int .i64 (iC x:Int))) (x:Nat) (hx:x<aK) (h0:0<x):VP P G f [.int .u32 (x:Int)] (.int .i64 ((32-iC x:Nat):Int)):=by
 refine VP.has h ?_
 have hb:iC x<=32:=by
   have h1:=(Cw hx h0).2
   have h2:2 ^ iC x<2 ^ 33:=by unfold aK at hx;omega
   have:=(Nat.pow_lt_pow_iff_right (by decide:1<2)).1 h2
   omega
 have e:IntKind.i64.wrap ((32:Int)-((iC x:Nat):Int))=((32-iC x:Nat):Int):=by rw [IntKind.wrap_i64];omega
 simp only [iq,SS,Nat.reduceAdd]
 refine ao (hl x hx) (by simp [aa.int]) ?_
 simp only [SS,Nat.reduceAdd,e]
 exact ax▸ae rfl (aa.int _ _)
end
end Go.VL
end

section
set_option linter.unusedVariables false
namespace Go.VL
section
variable {P:Program} {G:Nat->Option (List AV)}
theorem Q9 {f:FuncId} (h:Has P f df) {es:List AV} (hk:∀ e∈es,e.size=1) (h1:(es.all fun e=>e.cells.all AV.one)=true) (hp:∀ c∈flat es,aa c) (hl:es.length*4<=140737488355328):VP P G f [.sl 1 es] (.sl 1 es):=by
 refine VP.has h ?_
 have hb:∀ (σ : ah) (p:Id),b8 σ p (.buildSl 1 0 (.int .u32 0) [])=some { val := .tsl 1 [] }:=fun σ p=>bs0 rfl rfl
 cases es with
 | nil =>
   simp only [df,SS,Nat.reduceAdd]
   refine ⟨?_, ?_⟩
   . exact ax▸⟨.nils,rfl,View.nils 1⟩
   . simp only [SS,Nat.reduceAdd,hb,oD fX]
     exact ax▸⟨_,rfl,View.WT 1⟩
 | cons e es =>
   simp only [df,SS,Nat.reduceAdd,hb]
   rw [nM (es:=[]) fX (by simp) (by simpa using hl) (eC (by simp at hl ⊢;omega)) (by simpa using h1)]
   simp only [SS,Nat.reduceAdd]
   refine ax▸⟨_,rfl,View.osl (bk:=⟨e::es,1,false⟩) rfl rfl (by simp) ?_ (by simp) hk⟩
   simpa using aM.pure hp
theorem Ra {f:FuncId} (h:Has P f df) (n:Nat) (hn:ak n<=1000000):VP P G f [W n] (W n) :=
 Q9 h (Co _) (Nt _) (zl _) (by rw [gu];show ak n*4<=_;omega)
end
end Go.VL
end

section
set_option linter.unusedVariables false
namespace Go.VL
theorem Cx (z:Int):xn (decide (z<0)) z.natAbs=z:=by
 unfold xn
 by_cases h:z<0
 . simp only [h,decide_true,if_true];omega
 . simp only [h,decide_false,Bool.false_eq_true,if_false];omega
theorem PL (z:Int):xn (!decide (z<0)) z.natAbs = -z:=by
 unfold xn
 by_cases h:z<0
 . simp only [h,decide_true,Bool.not_true,Bool.false_eq_true,if_false];omega
 . simp only [h,decide_false,Bool.not_false,if_true];omega
theorem PM (y z:Int):xn (!(decide (y<0)==decide (z<0))) (y.natAbs*z.natAbs)=y*z:=by
 rw [<- Int.natAbs_mul]
 unfold xn
 by_cases h:y<0<;>by_cases h2:z<0
 . have:=Int.mul_pos_of_neg_of_neg h h2
   simp [h,h2];omega
 . have h3:y*z<=0:=Int.mul_nonpos_of_nonpos_of_nonneg (by omega) (by omega)
   simp [h,h2];omega
 . have h3:y*z<=0:=Int.mul_nonpos_of_nonneg_of_nonpos (by omega) (by omega)
   simp [h,h2];omega
 . have h3:0<=y*z:=Int.mul_nonneg (by omega) (by omega)
   simp [h,h2];omega
theorem bZ:((AV.cells (.agg [(.bool false), .nils])).all AV.one=true)=True:=by simp [AV.cells,AV.one]
theorem iV (σ : ah) (id:Id) (k:Nat) (z:Int):fJ (σ.put id (some ⟨[.agg [.bool false, .nils]],k,false⟩)) 2 (.ref id 0 0) (IV z)=some { val := .tup [],rd:=[id],up:=[(id,some ⟨[IV z],k,false⟩)] }:=by
 rw [fH (n:=2) (v:=IV z) (els:=[.agg [.bool false, .nils]]) (k:=k) (ah.dE _ _ _) rfl rfl (by simp [AV.size,AV.cells]) rfl]
 rfl
section
variable {P:Program} {G:Nat->Option (List AV)}
theorem oJ {ft:FuncId} (ht:iT P G ft) (n:Nat) (hn:ak n<=9223372036854775807):VP P G ft [W n] (W n):=by
 have:=ht (digits n) (a7 n) hn
 rw [aZ] at this;exact this
def iW (P:Program) (G:Nat->Option (List AV)) (f:FuncId):Prop:=∀ (neg:Bool) (n:Nat),ak n<=9223372036854775807->VP P G f [.bool neg,W n] (IV (xn neg n))
theorem ND {f ft:FuncId} (h:Has P f (mB ft)) (ht:iT P G ft):iW P G f:=fun neg n hn=>by
 have:=Q5 h ht neg (a7 n) hn
 rw [aZ] at this;exact this
theorem Xc {f ft:FuncId} (h:Has P f (q8 ft)) (ht:iT P G ft) (z:Int) (hz:ak z.natAbs<=1000000):VP P G f [IV z] (.int .i64 z.sign):=by
 refine VP.has h ?_
 have hl:ak z.natAbs=0↔z=0:=by rw [cI];omega
 simp only [q8,SS,Nat.reduceAdd,eX,ai,iD]
 refine ao (oJ ht z.natAbs (by omega)) (by simp [aq]) ?_
 simp only [SS,Nat.reduceAdd,bn]
 by_cases h0:z=0
 . have d0:decide ((ak z.natAbs:Int)=0)=true:=aG (by have:=hl.2 h0;omega)
   simp only [SS,Nat.reduceAdd,d0]
   rw [h0]
   exact ax▸ae rfl (aa.int _ _)
 . have d0:decide ((ak z.natAbs:Int)=0)=false:=aD (by have:=fun e=>h0 (hl.1 e);omega)
   by_cases hn:z<0
   . have d1:decide (z<0)=true:=aG hn
     simp only [SS,Nat.reduceAdd,d0,ai,jR,d1]
     rw [Int.sign_eq_neg_one_of_neg hn]
     exact ax▸ae rfl (aa.int _ _)
   . have d1:decide (z<0)=false:=aD hn
     simp only [SS,Nat.reduceAdd,d0,ai,jR,d1]
     rw [Int.sign_eq_one_of_pos (by omega)]
     exact ax▸ae rfl (aa.int _ _)
theorem pG (n:Nat) (hn:n<18446744073709551616):ak n<=2:=fN (by unfold aK;omega)
theorem NF {f fu fs:FuncId} (h:Has P f (nZ fu fs)) (hu:∀ n,n<18446744073709551616->VP P G fu [.int .u64 ((n:Nat):Int)] (W n)) (hs:iW P G fs) (a:Int) (h1 : -9223372036854775808<=a) (h2:a<9223372036854775808):VP P G f [.int .i64 a] (IV a):=by
 refine VP.has h ?_
 have hsz:=pG a.natAbs (by omega)
 have eK:=hs (decide (a<0)) a.natAbs (by omega)
 rw [Cx] at eK
 have M1:=hu a.natAbs (by omega)
 simp only [nZ,SS,Nat.reduceAdd,bZ]
 by_cases hn:a<0
 . have d1:decide (a<0)=true:=aG hn
   rw [d1] at eK
   have e1:IntKind.u64.wrap (0-(IntKind.u64.wrap a))=(a.natAbs:Int):=by rw [IntKind.wrap_u64,IntKind.wrap_u64];omega
   simp only [SS,Nat.reduceAdd,d1,e1]
   refine ao M1 (by simp [aa.int]) ?_
   simp only [SS,Nat.reduceAdd]
   refine ao eK (by simp [aa.bool,aq]) ?_
   simp only [SS,Nat.reduceAdd,iV]
   refine ax▸ae (r:=IV a) ?_ (ag _)
   simp only [RS,a8,bg,ai];rfl
 . have d1:decide (a<0)=false:=aD hn
   rw [d1] at eK
   have e1:IntKind.u64.wrap a=(a.natAbs:Int):=by rw [IntKind.wrap_u64];omega
   simp only [SS,Nat.reduceAdd,d1,e1]
   refine ao M1 (by simp [aa.int]) ?_
   simp only [SS,Nat.reduceAdd]
   refine ao eK (by simp [aa.bool,aq]) ?_
   simp only [SS,Nat.reduceAdd,iV]
   refine ax▸ae (r:=IV a) ?_ (ag _)
   simp only [RS,a8,bg,ai];rfl
theorem aaz {f ft fc fs:FuncId} (h:Has P f (ti ft fc fs)) (ht:iT P G ft) (hc:∀ n,ak n<=1000000->VP P G fc [W n] (W n)) (hs:iW P G fs) (z:Int) (hz:ak z.natAbs<=1000000):VP P G f [IV z] (IV (-z)):=by
 refine VP.has h ?_
 have eK:=hs (!decide (z<0)) z.natAbs (by omega)
 rw [PL] at eK
 simp only [ti,SS,DD,Nat.reduceAdd,eX,bZ,af (show ([0]:List Nat)≠[1] by decide),ai,jR,iD]
 refine ay (oJ ht z.natAbs (by omega)) (by simp [aq]) ?_
 simp only [SS,DD,Nat.reduceAdd]
 refine ay (hc z.natAbs hz) (by simp [aq]) ?_
 simp only [SS,DD,Nat.reduceAdd]
 refine ay eK (by simp [aa.bool,aq]) ?_
 simp only [SS,DD,Nat.reduceAdd,iV]
 refine ⟨by simp [ab,apart], ?_⟩
 refine ax▸ae (r:=IV (-z)) ?_ (ag _)
 simp only [RS,a8,bg,ai];rfl
theorem aaA {f ft fm fs:FuncId} (h:Has P f (tj ft fm fs)) (ht:iT P G ft) (hm:∀ m n,ak m<=1000000->ak n<=1000000->VP P G fm [W m,W n] (W (m*n))) (hs:iW P G fs) (y z:Int) (hy:ak y.natAbs<=1000000) (hz:ak z.natAbs<=1000000):VP P G f [IV y,IV z] (IV (y*z)):=by
 refine VP.has h ?_
 have eK:=hs (!(decide (y<0)==decide (z<0))) (y.natAbs*z.natAbs) (by have:=zk y.natAbs z.natAbs;omega)
 rw [PM] at eK
 simp only [tj,SS,DD,Nat.reduceAdd,eX,bZ,af (show ([0]:List Nat)≠[1] by decide),af (show ([0]:List Nat)≠[2] by decide),af (show ([1]:List Nat)≠[2] by decide),ai,jR,iD]
 refine ay (oJ ht y.natAbs (by omega)) (by simp [aq]) ?_
 simp only [SS,DD,Nat.reduceAdd,af (show ([1]:List Nat)≠[2] by decide),ai,iD]
 refine ay (oJ ht z.natAbs (by omega)) (by simp [aq]) ?_
 simp only [SS,DD,Nat.reduceAdd]
 refine ay (hm y.natAbs z.natAbs hy hz) (by simp [aq]) ?_
 simp only [SS,DD,Nat.reduceAdd]
 refine ay eK (by simp [aa.bool,aq]) ?_
 simp only [SS,DD,Nat.reduceAdd,iV]
 refine ⟨by simp [ab,apart], ?_⟩
 refine ax▸ae (r:=IV (y*z)) ?_ (ag _)
 simp only [RS,a8,bg,ai];rfl
end
end Go.VL
end

section
set_option linter.unusedVariables false
namespace Go.VL
theorem pH (a b:Int):jk a b = -1/\a<b∨jk a b=0/\a=b∨jk a b=1/\b<a:=by
 unfold jk
 by_cases h1:a<b
 . simp [h1]
 . by_cases h2:b<a
   . simp [h1,h2]
   . right;left;simp [h1,h2];omega
theorem rU (z:Int):z.sign = -1/\z<0∨z.sign=0/\z=0∨z.sign=1/\0<z:=by
 rcases Int.lt_trichotomy z 0 with h | h | h
 . exact .inl ⟨Int.sign_eq_neg_one_of_neg h,h⟩
 . exact .inr (.inl ⟨by rw [h];rfl,h⟩)
 . exact .inr (.inr ⟨Int.sign_eq_one_of_pos h,h⟩)
theorem IZ {y z:Int} (h:y.sign≠z.sign):jk y.sign z.sign=jk y z:=by
 rcases pH y z with ⟨e,c⟩ | ⟨e,c⟩ | ⟨e,c⟩<;>rcases pH y.sign z.sign with ⟨e2,c2⟩ | ⟨e2,c2⟩ | ⟨e2,c2⟩<;>rcases rU y with ⟨s,p⟩ | ⟨s,p⟩ | ⟨s,p⟩<;>rcases rU z with ⟨s2,p2⟩ | ⟨s2,p2⟩ | ⟨s2,p2⟩<;>omega
theorem Xd {y z:Int} (h:y.sign=z.sign):y.sign*fY y.natAbs z.natAbs=jk y z:=by
 unfold fY
 rcases pH y z with ⟨e,c⟩ | ⟨e,c⟩ | ⟨e,c⟩<;>rcases pH (y.natAbs:Int) (z.natAbs:Int) with ⟨e2,c2⟩ | ⟨e2,c2⟩ | ⟨e2,c2⟩<;>rcases rU y with ⟨s,p⟩ | ⟨s,p⟩ | ⟨s,p⟩<;>rcases rU z with ⟨s2,p2⟩ | ⟨s2,p2⟩ | ⟨s2,p2⟩<;>rw [s,e2,e]<;>omega
section
variable {P:Program} {G:Nat->Option (List AV)}
theorem aaB {f fsg fci ft fc:FuncId} (h:Has P f (th fsg fci ft fc)) (LL:∀ z:Int,ak z.natAbs<=1000000->VP P G fsg [IV z] (.int .i64 z.sign)) (hci:∀ a b:Int,VP P G fci [.int .i64 a, .int .i64 b] (.int .i64 (jk a b))) (ht:iT P G ft)
   (hc:∀ m n,ak m<=1000000->ak n<=1000000->VP P G fc [W m,W n] (.int .i64 (fY m n))) (y z:Int) (hy:ak y.natAbs<=1000000) (hz:ak z.natAbs<=1000000):VP P G f [IV y,IV z] (.int .i64 (jk y z)):=by
 refine VP.has h ?_
 simp only [th,SS,DD,Nat.reduceAdd,eX,af (show ([0]:List Nat)≠[1] by decide),ai,c9]
 refine ay (LL y hy) (by simp [ag]) ?_
 simp only [SS,DD,Nat.reduceAdd,ai,c9]
 refine ay (LL z hz) (by simp [ag]) ?_
 simp only [SS,DD,Nat.reduceAdd]
 refine ⟨by simp [ab,apart], ?_⟩
 by_cases hs:y.sign=z.sign
 . have d0:decide (y.sign≠z.sign)=false:=aD (by simpa using hs)
   have e1:IntKind.i64.wrap (y.sign*fY y.natAbs z.natAbs)=jk y z:=by
     rw [Xd hs,IntKind.wrap_i64]
     rcases pH y z with ⟨e,_⟩ | ⟨e,_⟩ | ⟨e,_⟩<;>rw [e]<;>omega
   simp only [SS,DD,Nat.reduceAdd,d0,af (show ([0]:List Nat)≠[1] by decide),ai,iD]
   refine ay (oJ ht y.natAbs (by omega)) (by simp [aq]) ?_
   simp only [SS,DD,Nat.reduceAdd,ai,iD]
   refine ay (oJ ht z.natAbs (by omega)) (by simp [aq]) ?_
   simp only [SS,DD,Nat.reduceAdd]
   refine ay (hc y.natAbs z.natAbs hy hz) (by simp [aq]) ?_
   simp only [SS,DD,Nat.reduceAdd,e1]
   refine ⟨by simp [ab,apart], ?_⟩
   exact ax▸ae rfl (aa.int _ _)
 . have d0:decide (y.sign≠z.sign)=true:=aG hs
   simp only [SS,Nat.reduceAdd,d0]
   refine ao (hci y.sign z.sign) (by simp [aa.int]) ?_
   simp only [SS,Nat.reduceAdd]
   rw [IZ hs]
   exact ax▸ae rfl (aa.int _ _)
end
end Go.VL
end

section
set_option linter.unusedVariables false
namespace Go.VL
def RV (a b:Int):AV := .agg [.bool (decide (a<0)),W a.natAbs, .bool (decide (b<0)),W b.natAbs]
theorem sV (a b:Int):aa (RV a b):=aa.agg (by intro c hc;simp at hc;rcases hc with rfl | rfl | rfl | rfl;exact aa.bool _;exact aq _;exact aa.bool _;exact aq _)
theorem NG (a b:Int):((RV a b).cells.all AV.one=true)=True:=by simp [RV,AV.cells,AV.one,W]
theorem PN (a b:Int):part true (RV a b).cells 0 2=some (IV a):=rfl
theorem PO (a b:Int):part true (RV a b).cells 2 2=some (IV b):=rfl
theorem bR:((AV.cells (.agg [(.bool false), .nils,(.bool false), .nils])).all AV.one=true)=True:=by simp [AV.cells,AV.one]
theorem LM (σ : ah) (id:Id) (k:Nat) (a b:Int):fJ (σ.put id (some ⟨[.agg [.bool false, .nils, .bool false, .nils]],k,false⟩)) 4 (.ref id 0 0) (RV a b)=some { val := .tup [],rd:=[id],up:=[(id,some ⟨[RV a b],k,false⟩)] }:=by
 rw [fH (n:=4) (v:=RV a b) (els:=[.agg [.bool false, .nils, .bool false, .nils]]) (k:=k) (ah.dE _ _ _) rfl rfl (by simp [AV.size,AV.cells]) rfl]
 rfl
theorem Cy (a b:Int):iN [.bool false, .nils, .bool false, .nils] [(0,(2,IV a)),(2,(2,IV b))]=some [.bool (decide (a<0)),W a.natAbs, .bool (decide (b<0)),W b.natAbs]:=rfl
section
variable {P:Program} {G:Nat->Option (List AV)}
theorem aaC {f fi:FuncId} (h:Has P f (q9 fi)) (hi:VP P G fi [.int .i64 1] (IV 1)):VP P G f [] (IV 1):=by
 refine VP.has h ?_
 simp only [q9,SS,Nat.reduceAdd,bZ]
 refine ao hi (by simp [aa.int]) ?_
 simp only [SS,Nat.reduceAdd,iV]
 refine ax▸ae (r:=IV 1) ?_ (ag _)
 simp only [RS,a8,bg,ai];rfl
theorem LN {f fi fo:FuncId} (h:Has P f (np fi fo)) (a:Int) (hi:VP P G fi [.int .i64 a] (IV a)) (ho:VP P G fo [] (IV 1)):VP P G f [.int .i64 a] (RV a 1):=by
 refine VP.has h ?_
 have e:(AV.agg [.bool (decide (a<0)),W a.natAbs, .bool (decide ((1:Int)<0)),W (1:Int).natAbs])=RV a 1:=rfl
 simp only [np,SS,Nat.reduceAdd,bR]
 refine ao hi (by simp [aa.int]) ?_
 simp only [SS,Nat.reduceAdd]
 refine ao ho (by simp) ?_
 simp only [SS,Nat.reduceAdd,Cy,e,LM]
 refine ax▸ae (r:=RV a 1) ?_ (sV _ _)
 simp only [RS,a8,bg,ai];rfl
theorem LO {f fi:FuncId} (h:Has P f (nc fi)) (a b:Int) (hi:VP P G fi [IV a] (.int .i64 a.sign)):VP P G f [RV a b] (.int .i64 a.sign):=by
 refine VP.has h ?_
 simp only [nc,SS,Nat.reduceAdd,NG,ai,PN]
 refine ao hi (by simp [ag]) ?_
 simp only [SS,Nat.reduceAdd]
 exact ax▸ae rfl (aa.int _ _)
theorem TY {f:FuncId} (h:Has P f pe) (z:Int):VP P G f [IV z] (.bool (decide (z=1))):=by
 refine VP.has h ?_
 have hl:ak z.natAbs=1->∃ w,digits z.natAbs=[w]:=fun h=>List.length_eq_one_iff.1 h
 have h11:ak 1=1:=by unfold ak;rw [iy (by decide),show 1/aK=0 from rfl,bD];rfl
 simp only [pe,SS,Nat.reduceAdd,eX,ai,jR]
 by_cases hn:z<0
 . have d0:decide (z<0)=true:=aG hn
   have e:decide (z=1)=false:=aD (by omega)
   simp only [SS,Nat.reduceAdd,d0,e]
   exact ax▸ae rfl (aa.bool _)
 . have d0:decide (z<0)=false:=aD hn
   by_cases h1:ak z.natAbs=1
   . have d1:decide ((ak z.natAbs:Int)=1)=true:=aG (by omega)
     obtain ⟨w,hw⟩:=hl h1
     have hg:(digits z.natAbs)[0]? = some w:=by rw [hw];rfl
     have Xa:cW 1 (W z.natAbs) (.int .i64 0)=some (.ep (AV.int .u32 (w:Int)).cells 0):=iM (i:=0) rfl (xm hg)
     have hv:z.natAbs=w:=by have:=aZ z.natAbs;rw [hw] at this;simp [val] at this;omega
     have e:decide ((w:Int)=1)=decide (z=1):=by congr 1;apply propext;omega
     simp only [SS,Nat.reduceAdd,d0,ai,iD,bn,d1,Xa,aN,bq,e]
     exact ax▸ae rfl (aa.bool _)
   . have d1:decide ((ak z.natAbs:Int)=1)=false:=aD (by omega)
     have e:decide (z=1)=false:=aD (by intro e;rw [e] at h1;exact h1 h11)
     simp only [SS,Nat.reduceAdd,d0,ai,iD,bn,d1,e]
     exact ax▸ae rfl (aa.bool _)
end
end Go.VL
end

section
set_option linter.unusedVariables false
namespace Go.VL
theorem dp {σ : ah} {id:Id} {k:Nat} {z:Int} {y:AV} (hs:y.size=2) (hu:y.upd 0 (IV z).cells=IV z) (h : σ id=some ⟨[y],k,false⟩):fJ σ 2 (.ref id 0 0) (IV z)=some { val := .tup [],rd:=[id],up:=[(id,some ⟨[IV z],k,false⟩)] }:=by
 rw [fH (n:=2) (v:=IV z) h rfl rfl (by rw [hs];exact Nat.le_refl _) rfl]
 simp [hu]
theorem Ba (y z:Int):(IV y).upd 0 (IV z).cells=IV z:=rfl
theorem rV (z:Int):(AV.agg [.bool false, .nils]).upd 0 (IV z).cells=IV z:=rfl
theorem Xe {σ : ah} {id:Id} {k:Nat} {z:Int} {b:Bool} (h : σ id=some ⟨[IV z],k,b⟩):jm σ true 2 (.ref id 0 0)=some { val:=IV z,rd:=[id] }:=by
 rw [qT h (el:=IV z) rfl,c9];rfl
theorem aaD {α : Type} {a b c : α}:[a,b,c][0]? = some a:=rfl
theorem aaE {α : Type} {a b c : α}:[a,b,c][1]? = some b:=rfl
theorem aaF {α : Type} {a b c : α}:[a,b,c][2]? = some c:=rfl
section
variable {P:Program} {G:Nat->Option (List AV)}
theorem aaG {f fo fd:FuncId} (h:Has P f (rb fo fd)) (a b:Int) (ho:VP P G fo [IV b] (.bool (decide (b=1)))) (hd:VP P G fd [IV a,IV b] (.tup [IV (a.fdiv b),IV (a.fmod b), .int .i64 0])):VP P G f [IV a,IV b] (IV (a.fdiv b)):=by
 refine VP.has h ?_
 simp only [rb,SS,Nat.reduceAdd,eX,bZ,af (show ([1]:List Nat)≠[2] by decide),ai,c9]
 refine ao ho (by simp [ag]) ?_
 by_cases h1:b=1
 . have d1:decide (b=1)=true:=aG h1
   have e:a.fdiv b=a:=by rw [h1,Int.fdiv_one]
   simp only [SS,Nat.reduceAdd,d1,af (show ([0]:List Nat)≠[2] by decide),af (show ([0]:List Nat)≠[1] by decide),ai,c9]
   rw [dp (k:=(AV.agg [.bool false, .nils]).size) (y := .agg [.bool false, .nils]) rfl (rV _) (by simp [ah.put])]
   simp only [SS,Nat.reduceAdd,e]
   refine ax▸ae (r:=IV a) ?_ (ag _)
   simp only [RS,a8,bg,ai];rfl
 . have d1:decide (b=1)=false:=aD h1
   simp only [SS,Nat.reduceAdd,d1,af (show ([0]:List Nat)≠[2] by decide),af (show ([0]:List Nat)≠[1] by decide),af (show ([1]:List Nat)≠[2] by decide),ai,c9]
   refine ao hd (by simp [ag]) ?_
   simp only [SS,Nat.reduceAdd,bZ,aaD,aaE,aaF]
   rw [dp (k:=(AV.agg [.bool false, .nils]).size) (y := .agg [.bool false, .nils]) rfl (rV _) (by simp [ah.put])]
   simp only [SS,Nat.reduceAdd]
   rw [dp (k:=(AV.agg [.bool false, .nils]).size) (y := .agg [.bool false, .nils]) rfl (rV _) (by simp [ah.put])]
   simp only [SS,Nat.reduceAdd]
   rw [Xe (z:=a.fdiv b) (k:=(AV.agg [.bool false, .nils]).size) (b:=false) (by simp [ah.put])]
   simp only [SS,Nat.reduceAdd]
   rw [dp (k:=(AV.agg [.bool false, .nils]).size) (y := .agg [.bool false, .nils]) rfl (rV _) (by simp [ah.put])]
   simp only [SS,Nat.reduceAdd]
   refine ax▸ae (r:=IV (a.fdiv b)) ?_ (ag _)
   simp only [RS,a8,bg,ai];rfl
end
end Go.VL
end

section
set_option linter.unusedVariables false
namespace Go.VL
def LP (a b:Int):Bool := !(decide (a<0)==decide (b<0))
def TZ (a b:Int):Nat:=if LP a b=true/\0<a.natAbs%b.natAbs then a.natAbs/b.natAbs+1 else a.natAbs/b.natAbs
def T1 (a b:Int):Nat:=if LP a b=true/\0<a.natAbs%b.natAbs then b.natAbs-a.natAbs%b.natAbs else a.natAbs%b.natAbs
theorem GM:digits 1=[1]:=by rw [iy (by decide),show 1/aK=0 from rfl,bD];rfl
theorem T2 {id:Id} {b t:Bool}:View (ah.of [(id,⟨us [1],1,b⟩)]) (.osl id 1 0 1 t) (W 1):=by
 unfold W;rw [GM];exact gZ rfl
theorem T3 (m n:Nat):ak (m/n)<=ak m:=bJ (Nat.div_le_self _ _)
theorem GN (m n:Nat):ak (m%n)<=ak m:=bJ (Nat.mod_le _ _)
theorem Rb (m:Nat):ak (m+1)<=ak m+1:=fN (by
 have h1:=cV m
 rw [Nat.pow_succ]
 have h2:aK ^ ak m*2<=aK ^ ak m*aK:=Nat.mul_le_mul_left _ (by decide)
 omega)
theorem vn:ak 1<=1:=by unfold ak;rw [GM];decide
theorem Bb {α : Type} {a b : α}:[a,b][0]? = some a:=rfl
theorem Bc {α : Type} {a b : α}:[a,b][1]? = some b:=rfl
section
variable {P:Program} {G:Nat->Option (List AV)}
theorem Rc {f ft fd fp fm fs:FuncId} (h:Has P f (pc ft fd fp fm fs)) (ht:iT P G ft) (hd:∀ m n,n≠0->ak m<=900000->ak n<=900000->VP P G fd [W m,W n] (.tup [W (m/n),W (m%n)]))
   (hp:∀ m n,ak m<=1000000->ak n<=1000000->VP P G fp [W m,W n] (W (m+n))) (hm:∀ m n,n<=m->ak m<=1000000->VP P G fm [W m,W n] (W (m-n))) (hs:iW P G fs) (a b:Int) (HS:b≠0) (ha:ak a.natAbs<=900000) (hb:ak b.natAbs<=900000) :
   VP P G f [IV a,IV b] (.tup [IV (xn (LP a b) (TZ a b)),IV (xn (decide (b<0)) (T1 a b)), .int .i64 0]):=by
 refine VP.has h ?_
 have Zi:b.natAbs≠0:=by omega
 have SC:ak b.natAbs≠0:=fun e=>Zi (cI.1 e)
 have d0:decide ((ak b.natAbs:Int)=0)=false:=aD (by omega)
 have w1:=T3 a.natAbs b.natAbs
 have w2:=GN a.natAbs b.natAbs
 have w3:=Rb (a.natAbs/b.natAbs)
 have w4:ak (b.natAbs-a.natAbs%b.natAbs)<=ak b.natAbs:=bJ (Nat.sub_le _ _)
 have w5:=vn
 have aaa:a.natAbs%b.natAbs<b.natAbs:=Nat.mod_lt _ (Nat.pos_of_ne_zero Zi)
 have hpv:=hp (a.natAbs/b.natAbs) 1 (by omega) (by omega)
 have Re:=hm b.natAbs (a.natAbs%b.natAbs) (Nat.le_of_lt aaa) (by omega)
 have agN:0<a.natAbs%b.natAbs->decide ((0:Int)<(ak (a.natAbs%b.natAbs):Int))=true:=fun h=>aG (by
   have:ak (a.natAbs%b.natAbs)≠0:=fun e=>by have:=cI.1 e;omega
   omega)
 have adt : ¬ 0<a.natAbs%b.natAbs->decide ((0:Int)<(ak (a.natAbs%b.natAbs):Int))=false:=fun h=>aD (by
   have:ak (a.natAbs%b.natAbs)=0:=cI.2 (by omega)
   omega)
 have yf:([0]:List Nat)≠[1]:=by decide
 have DV:([0]:List Nat)≠[2]:=by decide
 have k03:([0]:List Nat)≠[3]:=by decide
 have Bd:([1]:List Nat)≠[2]:=by decide
 have Zj:([1]:List Nat)≠[3]:=by decide
 have Jy:∀ (q r:Nat),q=TZ a b->r=T1 a b->ak q<=1000000->ak r<=1000000->VP P G fs [.bool (LP a b),W q] (IV (xn (LP a b) (TZ a b)))/\VP P G fs [.bool (decide (b<0)),W r] (IV (xn (decide (b<0)) (T1 a b))):=fun q r hq hr h1 h2=>by
   subst hq;subst hr
   exact ⟨hs _ _ (by omega),hs _ _ (by omega)⟩
 simp only [pc,SS,Nat.reduceAdd,eX,bZ,af Bd,af Zj,ai,iD]
 refine ao (oJ ht b.natAbs (by omega)) (by simp [aq]) ?_
 simp only [SS,Nat.reduceAdd,bn,d0,af yf,af DV,af k03,ai,iD]
 refine ao (oJ ht a.natAbs (by omega)) (by simp [aq]) ?_
 simp only [SS,Nat.reduceAdd]
 refine ao (hd a.natAbs b.natAbs Zi ha hb) (by simp [aq]) ?_
 simp only [SS,Nat.reduceAdd,Bb,Bc,af yf,af DV,af k03,af Bd,af Zj,ai,jR]
 have Wc:(!(decide (a<0)==decide (b<0)))=LP a b:=rfl
 simp only [Wc]
 have hbs:∀ (σ : ah) (q:Id),b8 σ q (.buildSl 1 1 (.int .u32 0) [(0, .int .u32 1)])=some { val := .osl q 1 0 1 false,up:=[(q,some ⟨us [1],1,false⟩)] }:=fun σ q=>Cq (x:=1)
 have k23:([2]:List Nat)≠[3]:=by decide
 have k0b:([0]:List Nat)≠[33]:=by decide
 have k1b:([1]:List Nat)≠[33]:=by decide
 by_cases LL:LP a b=true
 . by_cases hr:0<a.natAbs%b.natAbs
   . have d1:=agN hr
     obtain ⟨g1,g2⟩:=Jy (a.natAbs/b.natAbs+1) (b.natAbs-a.natAbs%b.natAbs) (by unfold TZ;rw [if_pos ⟨LL,hr⟩]) (by unfold T1;rw [if_pos ⟨LL,hr⟩]) (by omega) (by omega)
     rw [LL] at g1
     simp only [SS,Nat.reduceAdd,LL,bn,d1,hbs]
     refine bG [([33],⟨us [1],1,false⟩)] hpv (aM.cons (View.pure (aq _)) (aM.cons T2 aM.nil)) (by simp [ah.put]) ?_
     simp only [SS,Nat.reduceAdd]
     refine ao Re (by simp [aq]) ?_
     simp only [SS,DD,Nat.reduceAdd,ah.app,Df,af yf,af DV,af k03,af Bd,af Zj,af k0b,af k1b,ai,jR,Wc,LL]
     refine ay g1 (by simp [aa.bool,aq]) ?_
     simp only [SS,DD,Nat.reduceAdd,af Bd,af Zj,af k1b,ai,jR]
     refine ay g2 (by simp [aa.bool,aq]) ?_
     simp only [SS,DD,Nat.reduceAdd]
     rw [dp (k:=(AV.agg [.bool false, .nils]).size) (y := .agg [.bool false, .nils]) rfl (rV _) (by simp [ah.put])]
     simp only [SS,DD,Nat.reduceAdd]
     rw [dp (k:=(AV.agg [.bool false, .nils]).size) (y := .agg [.bool false, .nils]) rfl (rV _) (by simp [ah.put])]
     simp only [SS,DD,Nat.reduceAdd]
     refine ⟨by simp [ab,apart], ?_⟩
     refine ax▸ae (r := .tup [IV (xn true (TZ a b)),IV (xn (decide (b<0)) (T1 a b)), .int .i64 0]) ?_ (aa.tup (by intro c hc;simp at hc;rcases hc with rfl | rfl | rfl;exact ag _;exact ag _;exact aa.int _ _))
     simp only [RS,a8,bg,af k23,ai,c9]
   . have d1:=adt hr
     obtain ⟨g1,g2⟩:=Jy (a.natAbs/b.natAbs) (a.natAbs%b.natAbs) (by unfold TZ;rw [if_neg (fun e=>hr e.2)]) (by unfold T1;rw [if_neg (fun e=>hr e.2)]) (by omega) (by omega)
     rw [LL] at g1
     simp only [SS,DD,Nat.reduceAdd,LL,bn,d1]
     simp only [SS,DD,Nat.reduceAdd,ah.app,af yf,af DV,af k03,af Bd,af Zj,ai,jR,Wc,LL]
     refine ay g1 (by simp [aa.bool,aq]) ?_
     simp only [SS,DD,Nat.reduceAdd,af Bd,af Zj,ai,jR]
     refine ay g2 (by simp [aa.bool,aq]) ?_
     simp only [SS,DD,Nat.reduceAdd]
     rw [dp (k:=(AV.agg [.bool false, .nils]).size) (y := .agg [.bool false, .nils]) rfl (rV _) (by simp [ah.put])]
     simp only [SS,DD,Nat.reduceAdd]
     rw [dp (k:=(AV.agg [.bool false, .nils]).size) (y := .agg [.bool false, .nils]) rfl (rV _) (by simp [ah.put])]
     simp only [SS,DD,Nat.reduceAdd]
     refine ⟨by simp [ab,apart], ?_⟩
     refine ax▸ae (r := .tup [IV (xn true (TZ a b)),IV (xn (decide (b<0)) (T1 a b)), .int .i64 0]) ?_ (aa.tup (by intro c hc;simp at hc;rcases hc with rfl | rfl | rfl;exact ag _;exact ag _;exact aa.int _ _))
     simp only [RS,a8,bg,af k23,ai,c9]
 . have hsf:LP a b=false:=by simpa using LL
   obtain ⟨g1,g2⟩:=Jy (a.natAbs/b.natAbs) (a.natAbs%b.natAbs) (by unfold TZ;rw [if_neg (fun e=>LL e.1)]) (by unfold T1;rw [if_neg (fun e=>LL e.1)]) (by omega) (by omega)
   rw [hsf] at g1
   simp only [SS,DD,Nat.reduceAdd,hsf]
   simp only [SS,DD,Nat.reduceAdd,ah.app,af yf,af DV,af k03,af Bd,af Zj,ai,jR,Wc,hsf]
   refine ay g1 (by simp [aa.bool,aq]) ?_
   simp only [SS,DD,Nat.reduceAdd,af Bd,af Zj,ai,jR]
   refine ay g2 (by simp [aa.bool,aq]) ?_
   simp only [SS,DD,Nat.reduceAdd]
   rw [dp (k:=(AV.agg [.bool false, .nils]).size) (y := .agg [.bool false, .nils]) rfl (rV _) (by simp [ah.put])]
   simp only [SS,DD,Nat.reduceAdd]
   rw [dp (k:=(AV.agg [.bool false, .nils]).size) (y := .agg [.bool false, .nils]) rfl (rV _) (by simp [ah.put])]
   simp only [SS,DD,Nat.reduceAdd]
   refine ⟨by simp [ab,apart], ?_⟩
   refine ax▸ae (r := .tup [IV (xn false (TZ a b)),IV (xn (decide (b<0)) (T1 a b)), .int .i64 0]) ?_ (aa.tup (by intro c hc;simp at hc;rcases hc with rfl | rfl | rfl;exact ag _;exact ag _;exact aa.int _ _))
   simp only [RS,a8,bg,af k23,ai,c9]
end
end Go.VL
end

section
namespace Go.VL
theorem JQ {a b q r:Int} (hb:0<b) (h:a=b*q+r) (h0:0<=r) (h1:r<b):a.fdiv b=q/\a.fmod b=r:=by
 have:=(Int.ediv_emod_unique (a:=a) (b:=b) (r:=r) (q:=q) hb).2 ⟨by omega,h0,h1⟩
 rw [Int.fdiv_eq_ediv_of_nonneg _ (Int.le_of_lt hb),Int.fmod_eq_emod_of_nonneg _ (Int.le_of_lt hb)]
 exact this
theorem aaH (a b:Int):a.fdiv b=(-a).fdiv (-b)/\a.fmod b = -((-a).fmod (-b)):=by
 have h1:(-a).fdiv (-b)=a.fdiv b:=Int.neg_fdiv_neg a b
 refine ⟨h1.symm, ?_⟩
 have h2:=Int.mul_fdiv_add_fmod a b
 have h3:=Int.mul_fdiv_add_fmod (-a) (-b)
 rw [h1,Int.neg_mul] at h3
 omega
theorem Xf {m n:Nat} (hn:n≠0):((m:Int).fdiv n=(m/n:Nat)/\(m:Int).fmod n=(m%n:Nat)) /\
   (m%n=0->(-(m:Int)).fdiv n = -((m/n:Nat):Int)/\(-(m:Int)).fmod n=0)/\(0<m%n->(-(m:Int)).fdiv n = -((m/n+1:Nat):Int)/\(-(m:Int)).fmod n=((n-m%n:Nat):Int)):=by
 have hlt:m%n<n:=Nat.mod_lt _ (Nat.pos_of_ne_zero hn)
 have e:(m:Int)=(n:Int)*((m/n:Nat):Int)+((m%n:Nat):Int):=by
   rw [<- Int.natCast_mul, <- Int.natCast_add,Nat.div_add_mod]
 generalize m/n=q at *
 generalize m%n=r at *
 refine ⟨JQ (by omega) e (by omega) (by omega),fun h=>JQ (by omega) ?_ (by omega) (by omega),fun h=>JQ (by omega) ?_ (by omega) (by omega)⟩
 . rw [Int.mul_neg];omega
 . rw [Int.mul_neg,Int.natCast_add,Int.mul_add];omega
theorem T4 (a b:Int) (hb:b≠0):xn (LP a b) (TZ a b)=a.fdiv b/\xn (decide (b<0)) (T1 a b)=a.fmod b:=by
 have Zi:b.natAbs≠0:=by omega
 obtain ⟨⟨c1,c2⟩,c3,c4⟩:=Xf (m:=a.natAbs) Zi
 unfold TZ T1
 by_cases h1:b<0
 . have eb : -b=(b.natAbs:Int):=by omega
   obtain ⟨n1,n2⟩:=aaH a b
   rw [n1,n2,eb]
   by_cases h2:a<0
   . have ea : -a=(a.natAbs:Int):=by omega
     have hd:LP a b=false:=by simp [LP,h1,h2]
     rw [ea,c1,c2,hd]
     simp [xn,h1]
   . have ea : -a = -(a.natAbs:Int):=by omega
     have hd:LP a b=true:=by simp [LP,h1,h2]
     rw [ea,hd]
     by_cases hr:0<a.natAbs%b.natAbs
     . rw [(c4 hr).1,(c4 hr).2,if_pos ⟨rfl,hr⟩,if_pos ⟨rfl,hr⟩]
       simp [xn,h1]
     . have h0:a.natAbs%b.natAbs=0:=by omega
       rw [(c3 h0).1,(c3 h0).2,if_neg (fun e=>hr e.2),if_neg (fun e=>hr e.2),h0]
       simp [xn,h1]
 . have eb:b=(b.natAbs:Int):=by omega
   have CY:decide (b<0)=false:=aD h1
   by_cases h2:a<0
   . have ea:a = -(a.natAbs:Int):=by omega
     have hd:LP a b=true:=by simp [LP,h1,h2]
     rw [hd,CY]
     by_cases hr:0<a.natAbs%b.natAbs
     . have q1:=(c4 hr).1
       have q2:=(c4 hr).2
       rw [<- ea, <- eb] at q1 q2
       rw [q1,q2,if_pos ⟨rfl,hr⟩,if_pos ⟨rfl,hr⟩]
       exact ⟨rfl,rfl⟩
     . have h0:a.natAbs%b.natAbs=0:=by omega
       have q1:=(c3 h0).1
       have q2:=(c3 h0).2
       rw [<- ea, <- eb] at q1 q2
       rw [q1,q2,if_neg (fun e=>hr e.2),if_neg (fun e=>hr e.2),h0]
       exact ⟨rfl,rfl⟩
   . have ea:a=(a.natAbs:Int):=by omega
     have hd:LP a b=false:=by simp [LP,h1,h2]
     rw [<- ea, <- eb] at c1 c2
     rw [c1,c2,hd,CY]
     simp [xn]
end Go.VL
end

section
set_option linter.unusedVariables false
namespace Go.VL
theorem vq {σ : ah} {id:Id} {k:Nat} {a b:Int} (h : σ id=some ⟨[.agg [.bool false, .nils, .bool false, .nils]],k,false⟩):fJ σ 4 (.ref id 0 0) (RV a b)=some { val := .tup [],rd:=[id],up:=[(id,some ⟨[RV a b],k,false⟩)] }:=by
 rw [fH (n:=4) (v:=RV a b) h rfl rfl (by simp [AV.size,AV.cells]) rfl]
 rfl
section
variable {P:Program} {G:Nat->Option (List AV)}
theorem Rf {f fg fn fq:FuncId} (h:Has P f (n7 fg fn fq)) (a b g:Int) (hg:VP P G fg [IV a,IV b] (IV g)) (hn:VP P G fn [IV g] (IV (-g)))
   (hq:∀ x y:Int,(x=a∨x=b)->(y=g∨y = -g)->VP P G fq [IV x,IV y] (IV (x.fdiv y))):VP P G f [IV a,IV b] (RV (a.fdiv (if b<0 then -g else g)) (b.fdiv (if b<0 then -g else g))):=by
 refine VP.has h ?_
 have yf:([0]:List Nat)≠[1]:=by decide
 have DV:([0]:List Nat)≠[2]:=by decide
 have k06:([0]:List Nat)≠[6]:=by decide
 have Bd:([1]:List Nat)≠[2]:=by decide
 have k16:([1]:List Nat)≠[6]:=by decide
 simp only [n7,SS,Nat.reduceAdd,eX,bR,af yf,af DV,af Bd,ai,c9]
 refine ao hg (by simp [ag]) ?_
 simp only [SS,Nat.reduceAdd,bZ,iV,af Bd,af k16,ai,jR]
 have SD:∀ x y:Int,(AV.agg [.bool (decide (x<0)),W x.natAbs, .bool (decide (y<0)),W y.natAbs])=RV x y:=fun _ _=>rfl
 by_cases JR:decide (b<0)=true
 . have e:(if b<0 then -g else g)=(-g):=by simp at JR;first | exact if_pos JR | exact if_neg (by omega)
   rw [e]
   have q1:=hq a (-g) (.inl rfl) (by simp)
   have q2:=hq b (-g) (.inr rfl) (by simp)
   simp only [SS,Nat.reduceAdd,JR,ai,c9]
   first
     | refine ao hn (by simp [ag]) ?_
       simp only [SS,Nat.reduceAdd]
       rw [dp (k:=(AV.agg [.bool false, .nils]).size) (y:=IV g) rfl (Ba _ _) (by simp [ah.put])]
       simp only [SS,DD,Nat.reduceAdd,af yf,af DV,af k06,ai,c9]
     | skip
   refine ay q1 (by simp [ag]) ?_
   simp only [SS,DD,Nat.reduceAdd,af Bd,af k16,ai,c9]
   refine ay q2 (by simp [ag]) ?_
   simp only [SS,DD,Nat.reduceAdd,Cy,SD]
   rw [vq (k:=(AV.agg [.bool false, .nils, .bool false, .nils]).size) (by simp [ah.put])]
   simp only [SS,DD,Nat.reduceAdd]
   refine ⟨by simp [ab,apart], ?_⟩
   refine ax▸ae (r:=RV (a.fdiv (-g)) (b.fdiv (-g))) ?_ (sV _ _)
   simp only [RS,a8,bg,ai]
   rfl
 by_cases JS:decide (b<0)=false
 . have e:(if b<0 then -g else g)=g:=by simp at JS;first | exact if_pos JS | exact if_neg (by omega)
   rw [e]
   have q1:=hq a g (.inl rfl) (by simp)
   have q2:=hq b g (.inr rfl) (by simp)
   simp only [SS,DD,Nat.reduceAdd,JS,af yf,af DV,af k06,ai,c9]
   first
     | refine ao hn (by simp [ag]) ?_
       simp only [SS,Nat.reduceAdd,reduceIte]
       rw [dp (k:=(AV.agg [.bool false, .nils]).size) (y:=IV g) rfl (Ba _ _) (by simp [ah.put])]
       simp only [SS,DD,Nat.reduceAdd,reduceIte,af yf,af DV,af Bd,af k16,af k06,ai,c9]
     | skip
   refine ay q1 (by simp [ag]) ?_
   simp only [SS,DD,Nat.reduceAdd,af Bd,af k16,ai,c9]
   refine ay q2 (by simp [ag]) ?_
   simp only [SS,DD,Nat.reduceAdd,Cy,SD]
   rw [vq (k:=(AV.agg [.bool false, .nils, .bool false, .nils]).size) (by simp [ah.put])]
   simp only [SS,DD,Nat.reduceAdd]
   refine ⟨by simp [ab,apart], ?_⟩
   refine ax▸ae (r:=RV (a.fdiv g) (b.fdiv g)) ?_ (sV _ _)
   simp only [RS,a8,bg,ai]
   rfl
 . exfalso;revert JR JS;cases decide (b<0)<;>simp
end
end Go.VL
end

section
set_option linter.unusedVariables false
namespace Go.VL
section
variable {P:Program} {G:Nat->Option (List AV)}
theorem Xg {f fi fm fo fl:FuncId} (h:Has P f (n8 fi fm fo fl)) (a b c d:Int) (x:AV) {x1 x2:Int} (hx:x=RV x1 x2) (hi:∀ z,VP P G fi [IV z] (.bool (decide (z=1)))) (YT:VP P G fm [IV a,IV c] (IV (a*c))) (BA:VP P G fm [IV b,IV d] (IV (b*d))) (ho:VP P G fo [] (IV 1))
   (hl:VP P G fl [IV (a*c),IV (b*d)] x):VP P G f [RV a b,RV c d] (if b=1/\d=1 then RV (a*c) 1 else x):=by
 refine VP.has h ?_
 have yf:([0]:List Nat)≠[1]:=by decide
 have DV:([0]:List Nat)≠[2]:=by decide
 have Bd:([1]:List Nat)≠[2]:=by decide
 have SD:∀ x y:Int,(AV.agg [.bool (decide (x<0)),W x.natAbs, .bool (decide (y<0)),W y.natAbs])=RV x y:=fun _ _=>rfl
 subst hx
 simp only [n8,SS,Nat.reduceAdd,NG,bR,af yf,af DV,ai,PO]
 refine ao (hi b) (by simp [ag]) ?_
 have PQ:∀ (h : ¬ (b=1/\d=1)),(if b=1/\d=1 then RV (a*c) 1 else RV x1 x2)=RV x1 x2:=fun h=>if_neg h
 by_cases hb:b=1
 . have d1:decide (b=1)=true:=aG hb
   simp only [SS,Nat.reduceAdd,d1,af Bd,ai,PO]
   refine ao (hi d) (by simp [ag]) ?_
   by_cases hd:d=1
   . have d2:decide (d=1)=true:=aG hd
     rw [if_pos ⟨hb,hd⟩]
     simp only [SS,Nat.reduceAdd,d2,af yf,af DV,af Bd,ai,PN]
     refine ao YT (by simp [ag]) ?_
     simp only [SS,Nat.reduceAdd]
     refine ao ho (by simp) ?_
     simp only [SS,Nat.reduceAdd,Cy,SD]
     rw [vq (k:=(AV.agg [.bool false, .nils, .bool false, .nils]).size) (by simp [ah.put])]
     simp only [SS,Nat.reduceAdd]
     refine ax▸ae (r:=RV (a*c) 1) ?_ (sV _ _)
     simp only [RS,a8,bg,ai]
     rfl
   . have d2:decide (d=1)=false:=aD hd
     rw [PQ fun e=>hd e.2]
     simp only [SS,DD,Nat.reduceAdd,d2,af yf,af DV,af Bd,ai,PN]
     refine ay YT (by simp [ag]) ?_
     simp only [SS,DD,Nat.reduceAdd,af yf,af DV,af Bd,ai,PO]
     refine ay BA (by simp [ag]) ?_
     simp only [SS,DD,Nat.reduceAdd]
     refine ay hl (by simp [ag]) ?_
     simp only [SS,DD,Nat.reduceAdd]
     rw [vq (k:=(AV.agg [.bool false, .nils, .bool false, .nils]).size) (by simp [ah.put])]
     simp only [SS,DD,Nat.reduceAdd]
     refine ⟨by simp [ab,apart], ?_⟩
     refine ax▸ae (r:=RV x1 x2) ?_ (sV _ _)
     simp only [RS,a8,bg,ai]
     rfl
 . have d1:decide (b=1)=false:=aD hb
   rw [PQ fun e=>hb e.1]
   simp only [SS,DD,Nat.reduceAdd,d1,af yf,af DV,af Bd,ai,PN]
   refine ay YT (by simp [ag]) ?_
   simp only [SS,DD,Nat.reduceAdd,af yf,af DV,af Bd,ai,PO]
   refine ay BA (by simp [ag]) ?_
   simp only [SS,DD,Nat.reduceAdd]
   refine ay hl (by simp [ag]) ?_
   simp only [SS,DD,Nat.reduceAdd]
   rw [vq (k:=(AV.agg [.bool false, .nils, .bool false, .nils]).size) (by simp [ah.put])]
   simp only [SS,DD,Nat.reduceAdd]
   refine ⟨by simp [ab,apart], ?_⟩
   refine ax▸ae (r:=RV x1 x2) ?_ (sV _ _)
   simp only [RS,a8,bg,ai]
   rfl
end
end Go.VL
end

section
set_option linter.unusedVariables false
namespace Go.VL
def IR (neg:Bool) (ws:List Nat):AV := .agg [.bool neg, .sl 1 (us ws)]
theorem T5 (neg:Bool) (ws:List Nat):((IR neg ws).cells.all AV.one=true)=True:=by simp [IR,AV.cells,AV.one]
theorem T6 (neg:Bool) (ws:List Nat):part false (IR neg ws).cells 0 1=some (.bool neg):=rfl
theorem LQ (neg:Bool) (ws:List Nat):part false (IR neg ws).cells 1 1=some (.sl 1 (us ws)):=rfl
def pI (neg:Bool) (ws:List Nat):Bool:=if ws=[] then !neg else decide (ws[ws.length-1]?.getD 0≠0)
section
variable {P:Program} {G:Nat->Option (List AV)}
theorem Rg {f:FuncId} (h:Has P f qc) (neg:Bool) (ws:List Nat) (hl:ws.length<=9223372036854775807):VP P G f [IR neg ws] (.bool (pI neg ws)):=by
 refine VP.has h ?_
 have hlen:p7 false (.sl 1 (us ws))=some (.int .i64 ws.length):=by simp [p7,gu]
 simp only [qc,SS,Nat.reduceAdd,T5,ai,LQ,hlen]
 by_cases h0:ws=[]
 . have d0:decide ((ws.length:Int)=0)=true:=aG (by rw [h0];rfl)
   have d1:decide ((0:Int)<(ws.length:Int))=false:=aD (by rw [h0];simp)
   have e:pI neg ws = !neg:=by unfold pI;rw [if_pos h0]
   rw [e]
   cases neg <;>
   . simp only [SS,Nat.reduceAdd,d0,d1,ai,T6]
     exact ax▸ae rfl (aa.bool _)
 . have p8:0<ws.length:=List.length_pos_iff.2 h0
   have d0:decide ((ws.length:Int)=0)=false:=aD (by omega)
   have d1:decide ((0:Int)<(ws.length:Int))=true:=aG (by omega)
   obtain ⟨w,hw⟩:∃ w,ws[ws.length-1]? = some w:=⟨_,List.getElem?_eq_getElem (by omega)⟩
   have hp:=uj ws.length p8 hl
   have e:pI neg ws=decide ((w:Int)≠0):=by unfold pI;rw [if_neg h0,hw];simp
   rw [e]
   simp only [SS,Nat.reduceAdd,d0,d1,ai,LQ,hp,iM rfl (xm hw),aN,bq]
   exact ax▸ae rfl (aa.bool _)
end
end Go.VL
end

section
set_option linter.unusedVariables false
namespace Go.VL
theorem sW {n:Nat} (h:ak n<=2):n<18446744073709551616:=by
 have h1:=cV n
 have h2:aK ^ ak n<=aK ^ 2:=Nat.pow_le_pow_right cX h
 have h3:aK ^ 2=18446744073709551616:=by decide
 omega
theorem zr {x y g:Nat} (hg:Nat.gcd x y=g):Nat.gcd y (x%y)=g:=by rw [<- hg,Nat.gcd_comm y, <- Nat.gcd_rec,Nat.gcd_comm]
theorem DW (n:Nat):xn false n=(n:Int):=by simp [xn]
section
variable {P:Program} {G:Nat->Option (List AV)}
theorem aaI {f ft fd fc fs ftu fu:FuncId} (h:Has P f (tk ft fd fc fs ftu fu)) (ht:iT P G ft) (hd:∀ m n,n≠0->ak m<=900000->ak n<=900000->VP P G fd [W m,W n] (.tup [W (m/n),W (m%n)]))
   (hc:∀ n,ak n<=1000000->VP P G fc [W n] (W n)) (hs:iW P G fs) (Zk:∀ n,n<18446744073709551616->VP P G ftu [W n] (.int .u64 ((n:Nat):Int))) (hu:∀ n,n<18446744073709551616->VP P G fu [.int .u64 ((n:Nat):Int)] (W n))
   (a b:Int) (ha:ak a.natAbs<=900000) (hb:ak b.natAbs<=900000):VP P G f [IV a,IV b] (IV (Nat.gcd a.natAbs b.natAbs:Nat)):=by
 refine VP.has h ?_
 have yf:([0]:List Nat)≠[1]:=by decide
 have DV:([0]:List Nat)≠[2]:=by decide
 have Bd:([1]:List Nat)≠[2]:=by decide
 simp only [tk,SS,DD,Nat.reduceAdd,eX,bZ,af yf,af DV,ai,iD]
 refine ay (oJ ht a.natAbs (by omega)) (by simp [aq]) ?_
 simp only [SS,DD,Nat.reduceAdd,af Bd,ai,iD]
 refine ay (oJ ht b.natAbs (by omega)) (by simp [aq]) ?_
 simp only [SS,DD,Nat.reduceAdd]
 refine ⟨by simp [ab,apart], ?_⟩
 simp only [az]
 refine VW.dU (α := Nat × Nat × Nat) (fun x=>⟨[IV a,IV b, .top, .top, .ref [2] 0 0,W x.1,W x.2.1]++List.replicate 50 .top,
   ah.put (fun _=>none) [2] (some ⟨[.agg [.bool false, .nils]],(AV.agg [.bool false, .nils]).size,false⟩),x.2.2⟩)
   (fun x=>Nat.gcd x.1 x.2.1=Nat.gcd a.natAbs b.natAbs/\ak x.1<=900000/\ak x.2.1<=900000) (fun x=>x.2.1) (a.natAbs,b.natAbs,1000) ?_ ?_ ?_
 . exact Wk.forget (by simp [Fg,List.replicate]) (fun j=>by simp only [ah.put];split<;>simp_all) (by simp only [];omega)
 . exact ⟨rfl,ha,hb⟩
 rintro ⟨x,y,nn⟩ ⟨hg,hx,hy⟩
 simp only [] at hg hx hy
 have g1:2<ak y->decide ((2:Int)<(ak y:Int))=true:=fun h=>aG (by omega)
 have g2 : ¬ 2<ak y->decide ((2:Int)<(ak y:Int))=false:=fun h=>aD (by omega)
 have g3:2<ak x->decide ((2:Int)<(ak x:Int))=true:=fun h=>aG (by omega)
 have g4 : ¬ 2<ak x->decide ((2:Int)<(ak x:Int))=false:=fun h=>aD (by omega)
 have g5:0<ak y->decide ((0:Int)<(ak y:Int))=true:=fun h=>aG (by omega)
 have g6 : ¬ 0<ak y->decide ((0:Int)<(ak y:Int))=false:=fun h=>aD (by omega)
 have e1:0<ak y->decide ((ak y:Int)=0)=false:=fun h=>aD (by omega)
 have e2 : ¬ 0<ak y->decide ((ak y:Int)=0)=true:=fun h=>aG (by omega)
 have T7:0<ak y->y≠0:=fun h e=>by have:=cI.2 e;omega
 have OO : ¬ 0<ak y->y=0:=fun h=>cI.1 (by omega)
 have hp2:2<ak y->0<ak y:=fun h=>by omega
 have w1:=GN x y
 have hw2:ak (x%y)<=900000:=by omega
 have Z6:ak x<=1000000:=by omega
 have Zl:ak x<=9223372036854775807:=by omega
 have hxx : ¬ 2<ak x->x<18446744073709551616:=fun h=>sW (by omega)
 have hyy : ¬ 2<ak y->y<18446744073709551616:=fun h=>sW (by omega)
 have PQ:∀ g,g<18446744073709551616->ak g<=9223372036854775807:=fun g h=>by have:=pG g h;omega
 clear w1
 simp only [SS,Nat.reduceAdd]
 by_cases c1:2<ak y
 . have p8:=hp2 c1
   have hdv:=hd x y (T7 p8) hx hy
   simp only [SS,Nat.reduceAdd,bn,g1 c1]
   refine ao hdv (by simp [aq]) ?_
   simp only [SS,Nat.reduceAdd,Bb,Bc]
   exact ⟨(y,x%y,_),⟨zr hg,hy,hw2⟩,Nat.mod_lt _ (Nat.pos_of_ne_zero (T7 p8)),Wk.slots (by simp [Fg]) (Nat.le_refl _)⟩
 by_cases c3:0<ak y
 . by_cases c2:2<ak x
   . have hdv:=hd x y (T7 c3) hx hy
     simp only [SS,Nat.reduceAdd,bn,g2 c1,g3 c2,g5 c3]
     refine ao hdv (by simp [aq]) ?_
     simp only [SS,Nat.reduceAdd,Bb,Bc]
     exact ⟨(y,x%y,_),⟨zr hg,hy,hw2⟩,Nat.mod_lt _ (Nat.pos_of_ne_zero (T7 c3)),Wk.slots (by simp [Fg]) (Nat.le_refl _)⟩
   . simp only [SS,Nat.reduceAdd,bn,g2 c1,g4 c2,e1 c3]
     refine ao (Zk x (hxx c2)) (by simp [aq]) ?_
     simp only [SS,Nat.reduceAdd]
     refine ao (Zk y (hyy c1)) (by simp [aq]) ?_
     simp only [SS,Nat.reduceAdd,az]
     refine VW.dU (α := Nat × Nat × Nat) (fun x=>⟨[IV a,IV b, .top, .top, .ref [2] 0 0, .top, .top, .top, .top, .int .u64 ((x.1:Nat):Int), .int .u64 ((x.2.1:Nat):Int)]++List.replicate 46 .top,
       ah.put (fun _=>none) [2] (some ⟨[.agg [.bool false, .nils]],(AV.agg [.bool false, .nils]).size,false⟩),x.2.2⟩)
       (fun x=>Nat.gcd x.1 x.2.1=Nat.gcd a.natAbs b.natAbs/\x.1<18446744073709551616/\x.2.1<18446744073709551616) (fun x=>x.2.1) (x,y,nn+1000) ?_ ?_ ?_
     . exact Wk.slots (by simp [Fg,List.replicate]) (by simp only [];omega)
     . exact ⟨hg,hxx c2,hyy c1⟩
     rintro ⟨u,v,mm⟩ ⟨Nb,M1,hv'⟩
     simp only [] at Nb M1 hv'
     by_cases v0:v=0
     . subst v0
       have d0:decide (((0:Nat):Int)≠0)=false:=by decide
       rw [Nat.gcd_zero_right] at Nb
       have eK:=hs false u (PQ u M1)
       rw [DW] at eK
       simp only [SS,Nat.reduceAdd,d0]
       refine ao (hu u M1) (by simp [aa.int]) ?_
       simp only [SS,Nat.reduceAdd]
       refine ao eK (by simp [aa.bool,aq]) ?_
       simp only [SS,Nat.reduceAdd,iV]
       rw [<- Nb]
       refine ax▸ae (r:=IV (u:Int)) ?_ (ag _)
       simp only [RS,a8,bg,ai];rfl
     . have d0:decide ((v:Int)≠0)=true:=aG (by omega)
       have f1:=IW u v v0
       have hlt:u%v<18446744073709551616:=Nat.lt_of_le_of_lt (Nat.mod_le _ _) M1
       simp only [SS,DD,Nat.reduceAdd,d0,f1]
       first
       | exact ⟨(v,u%v,_),⟨zr Nb,hv',hlt⟩,Nat.mod_lt _ (Nat.pos_of_ne_zero v0),Wk.slots (by simp [Fg,List.replicate]) (Nat.le_refl _)⟩
       | exact ⟨by simp [ab,apart],(v,u%v,_),⟨zr Nb,hv',hlt⟩,Nat.mod_lt _ (Nat.pos_of_ne_zero v0),Wk.slots (by simp [Fg]) (Nat.le_refl _)⟩
 . have hyz:=OO c3
   rw [hyz,Nat.gcd_zero_right] at hg
   have eK:=hs false x Zl
   rw [DW] at eK
   by_cases c2:2<ak x
   . simp only [SS,Nat.reduceAdd,bn,g2 c1,g3 c2,g6 c3,e2 c3]
     refine ao (hc x Z6) (by simp [aq]) ?_
     simp only [SS,Nat.reduceAdd]
     refine ao eK (by simp [aa.bool,aq]) ?_
     simp only [SS,Nat.reduceAdd,iV]
     rw [<- hg]
     refine ax▸ae (r:=IV (x:Int)) ?_ (ag _)
     simp only [RS,a8,bg,ai];rfl
   . simp only [SS,Nat.reduceAdd,bn,g2 c1,g4 c2,e2 c3]
     refine ao (hc x Z6) (by simp [aq]) ?_
     simp only [SS,Nat.reduceAdd]
     refine ao eK (by simp [aa.bool,aq]) ?_
     simp only [SS,Nat.reduceAdd,iV]
     rw [<- hg]
     refine ax▸ae (r:=IV (x:Int)) ?_ (ag _)
     simp only [RS,a8,bg,ai];rfl
end
end Go.VL
end
