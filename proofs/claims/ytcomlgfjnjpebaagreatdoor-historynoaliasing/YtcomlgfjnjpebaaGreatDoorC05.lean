/- For the claim of HistoryNoAliasing: parts CI5, CI6, CI7, CI8, CI9, CI10, CI11, CI12, CI13, CI14, CI15, CI16, CI17, CI18, FD, CI19, CI21, CI22, CI23, KD, KE, VL31, CI24. -/
import Derived.Test.YtcomlgfjnjpebaaGreatDoorC04
import Derived.Laws.BitsAllLaws
set_option linter.unusedSimpArgs false
set_option linter.unusedVariables false
set_option maxRecDepth 100000
namespace Go.VL
theorem F0 (c:Nat):List.replicate c (AV.int .u32 0)=us (List.replicate c 0):=by simp [us]
theorem XG (o:List Nat) (i x:Nat):(us o).set i (.int .u32 (x:Int))=us (o.set i x):=by simp [us,List.map_set]
theorem lg {p:Id} {c:Nat} (h:c*4<=140737488355328):j4 p 1 4 (.int .u32 0) (.int .i64 (c:Int)) (.int .i64 (c:Int))=some { val := .osl p 1 0 c false,up:=[(p,some ⟨us (List.replicate c 0),1,false⟩)] }:=by
 have hm:=bE (n:=c) (by omega)
 show (if (0:Int)<=(c:Int)/\(c:Int)<=(c:Int)/\(c:Int)*((4:Nat):Int)<=140737488355328/\(c:Int)<=((maxLen:Nat):Int)/\(AV.int IntKind.u32 0).size=1/\(AV.int IntKind.u32 0).cells.all AV.one=true then _ else none)=_
 rw [if_pos ⟨by omega,by omega,by omega,by omega,rfl,rfl⟩]
 simp only [Int.toNat_natCast,F0]
theorem cA {q:Id} {len i:Nat} {t:Bool} (h:i<len):aV 1 (.osl q 1 0 len t) (.int .i64 (i:Int))=some (.ref q i 0):=by
 simp only [aV]
 rw [if_pos ⟨trivial,by omega,by omega⟩]
 simp
theorem bL {σ : aa} {q:Id} {o:List Nat} {i x:Nat} (h : σ q=some ⟨us o,1,false⟩) (hi:i<o.length):eO σ 1 (.ref q i 0) (.int .u32 (x:Int))=some { val := .tup [],rd:=[q],up:=[(q,some ⟨us (o.set i x),1,false⟩)] }:=by
 obtain ⟨w,hw⟩:∃ w,o[i]? = some w:=⟨_,List.getElem?_eq_getElem hi⟩
 rw [dw (n:=1) (v := .int .u32 (x:Int)) h (tI hw) rfl (by simp [AV.size,AV.cells]) rfl, <- XG]
 rfl
theorem im {σ : aa} {q:Id} {o:List Nat} {i x:Nat} {b:Bool} (h : σ q=some ⟨us o,1,b⟩) (hi:o[i]? = some x):fX σ false 1 (.ref q i 0)=some { val := .int .u32 (x:Int),rd:=[q] }:=by
 rw [gO h (tI hi)];rfl
theorem Un (o:List Nat) (k x:Nat):(o++List.replicate (k+1) 0).set o.length x=(o++[x])++List.replicate k 0:=by
 rw [List.set_append_right _ _ (Nat.le_refl _),Nat.sub_self,List.replicate_succ,List.set_cons_zero]
 simp
theorem AZ {o:List Nat} {i x y:Nat} (h:o[i]? = some y):val (o.set i x)+au ^ i*y=val o+au ^ i*x:=by
 have hi:=(List.getElem?_eq_some_iff.1 h).1
 have ht:(o.take i).length=i:=by rw [List.length_take];omega
 have e1:o=o.take i++y::o.drop (i+1):=by
   have:=List.take_append_drop i o
   rw [List.drop_eq_getElem_cons hi] at this
   obtain ⟨_,h2⟩:=List.getElem?_eq_some_iff.1 h
   rw [h2] at this;exact this.symm
 have e2:o.set i x=o.take i++x::o.drop (i+1):=by rw [List.set_eq_take_append_cons_drop,if_pos hi]
 rw [e2]
 have e3:val o=val (o.take i++y::o.drop (i+1)):=congrArg val e1
 rw [e3,cj,cj,ht]
 simp only [val,Nat.mul_add]
 omega
theorem F1 {o:List Nat} (h:Wd o) {i x:Nat} (hx:x<au):Wd (o.set i x):=fun w hw=>by
 rcases List.mem_or_eq_of_mem_set hw with h1 | h1
 . exact h w h1
 . rw [h1];exact hx
theorem B4 (k:Nat):Wd (List.replicate k 0):=fun w hw=>by rw [List.eq_of_mem_replicate hw];exact cP
theorem ME (o:List Nat) (k:Nat):val (o++List.replicate k 0)=val o:=by
 rw [cj,yZ (fun w hw=>List.eq_of_mem_replicate hw)];omega
theorem H5 {x y c:Nat} (hx:x<au) (hy:y<au) (hc:c<=1):∃ w c':Nat,w<au/\c'<=1/\w+y+c=x+au*c'/\IntKind.u32.wrap (IntKind.u64.wrap (IntKind.u64.wrap ((x:Int)-(c:Int))-(y:Int)))=(w:Int) /\
   bn .shr .int (.int .u64 (IntKind.u64.wrap (IntKind.u64.wrap ((x:Int)-(c:Int))-(y:Int)))) (.int .u64 63)=some (.int .u64 (c':Int)):=by
 have Au:∀ a:Int,bn .shr .int (.int .u64 a) (.int .u64 63)=some (.int .u64 (a/9223372036854775808)):=fun a=>by
   rw [po (by decide)]
   show some (AV.int .u64 (a.fdiv (2 ^ 63)))=_
   rw [Int.fdiv_eq_ediv_of_nonneg _ (by decide)];rfl
 rw [Au]
 unfold au at *
 by_cases h:c+y<=x
 . refine ⟨x-c-y,0,by omega,by omega,by omega, ?_, ?_⟩
   . rw [IntKind.wrap_u32,IntKind.wrap_u64,IntKind.wrap_u64];omega
   . rw [IntKind.wrap_u64,IntKind.wrap_u64];congr 2;omega
 . refine ⟨x+4294967296-c-y,1,by omega,by omega,by omega, ?_, ?_⟩
   . rw [IntKind.wrap_u32,IntKind.wrap_u64,IntKind.wrap_u64];omega
   . rw [IntKind.wrap_u64,IntKind.wrap_u64];congr 2;omega
theorem Oh {x c:Nat} (hx:x<au) (hc:c<=1):∃ w c':Nat,w<au/\c'<=1/\w+0+c=x+au*c'/\IntKind.u32.wrap (IntKind.u64.wrap ((x:Int)-(c:Int)))=(w:Int) /\
   bn .shr .int (.int .u64 (IntKind.u64.wrap ((x:Int)-(c:Int)))) (.int .u64 63)=some (.int .u64 (c':Int)):=by
 obtain ⟨w,c',h1,h2,h3,h4,h5⟩:=H5 (y:=0) hx cP hc
 have e:IntKind.u64.wrap (IntKind.u64.wrap ((x:Int)-(c:Int))-((0:Nat):Int))=IntKind.u64.wrap ((x:Int)-(c:Int)):=by rw [IntKind.wrap_u64,IntKind.wrap_u64];omega
 rw [e] at h4 h5
 exact ⟨w,c',h1,h2,h3,h4,h5⟩
theorem lu {o:List Nat} {i c va vb x y w c':Nat} (ho:o.length=i) (hv:val o+vb=va+au ^ i*c-au ^ i*c+au ^ i*c) (hw:w+y+c=x+au*c'):val (o++[w])+(vb+au ^ i*y)=(va+au ^ i*x)+au ^ (i+1)*c':=by
 have h:au ^ i*w+au ^ i*y+au ^ i*c=au ^ i*x+au ^ i*(au*c'):=by rw [<- Nat.mul_add, <- Nat.mul_add, <- Nat.mul_add,hw]
 rw [cj,ho]
 simp only [val,Nat.mul_zero,Nat.add_zero,Nat.pow_succ]
 rw [Nat.mul_assoc]
 omega
section
variable {P:Program} {G:Nat->Option (List AV)}
theorem QR {f ft:FuncId} (h:Has P f (mZ ft)) (ht:gU P G ft) (m n:Nat) (yI:n<=m) (hm:ab m<=1000000):VP P G f [W m,W n] (W (m-n)):=by
 refine VP.has h ?_
 have hle:ab n<=ab m:=c9 yI
 have uR:∀ p:Id,j4 p 1 4 (.int .u32 0) (.int .i64 (ab m:Int)) (.int .i64 (ab m:Int))=some { val := .osl p 1 0 (ab m) false,up:=[(p,some ⟨us (List.replicate (ab m) 0),1,false⟩)] }:=fun p=>lg (by omega)
 simp only [mZ,SS,Nat.reduceAdd,bc,uR,az]
 refine VW.bG (α := Nat × Nat × List Nat × Nat) (fun x=>⟨[W m,W n, .top, .top, .top, .osl [3] 1 0 (ab m) false, .int .u64 (x.2.2.2:Int)]++List.replicate 6 .top++[W m, .int .i64 (ab m), .int .i64 x.1]++List.replicate 29 .top,
   aa.put (fun _=>none) [3] (some ⟨us (x.2.2.1++List.replicate (ab m-x.1) 0),1,false⟩),x.2.1⟩)
   (fun x=>x.1<=ab m/\x.2.2.1.length=x.1/\Wd x.2.2.1/\x.2.2.2<=1/\val x.2.2.1+val ((digits n).take x.1)=val ((digits m).take x.1)+au ^ x.1*x.2.2.2) (fun x=>ab m-x.1) (0,9,[],0) ?_ ?_ ?_
 . exact Wk.slots (by simp [Fg,List.replicate]) (Nat.le_refl _)
 . exact ⟨Nat.zero_le _,rfl,by intro w hw;simp at hw,by decide,by simp [val]⟩
 rintro ⟨i,nn,o,c⟩ ⟨hi,ho,hwd,hc,hv⟩
 simp only [] at hi ho hwd hc hv
 have oH:i<ab m->decide ((i:Int)<(ab m:Int))=true:=fun h=>ai (by omega)
 have hd2 : ¬ i<ab m->decide ((i:Int)<(ab m:Int))=false:=fun h=>ag (by omega)
 have cI : ¬ i<ab m->i=ab m:=by omega
 have py:=ao i (by omega)
 have TA:i<ab m->i<(o++List.replicate (ab m-i) 0).length:=fun h=>by rw [List.length_append,List.length_replicate];omega
 have Uo:i<ab m->∀ x,(o++List.replicate (ab m-i) 0).set i x=(o++[x])++List.replicate (ab m-(i+1)) 0:=fun h x=>by
   rw [show ab m-i=(ab m-(i+1))+1 from by omega, <- ho];exact Un _ _ _
 have ic:i<ab m->i+1<=ab m/\ab m-(i+1)<ab m-i:=fun h=>by omega
 have hny : ¬ i<ab n->ab n<=i:=by omega
 have d3t:i<ab n->decide ((i:Int)<(ab n:Int))=true:=fun h=>ai (by omega)
 have d3f : ¬ i<ab n->decide ((i:Int)<(ab n:Int))=false:=fun h=>ag (by omega)
 simp only [SS]
 by_cases hlt:i<ab m
 . obtain ⟨a,ha⟩:∃ a,(digits m)[i]? = some a:=⟨_,List.getElem?_eq_getElem hlt⟩
   have rH:=aK m a (List.mem_of_getElem? ha)
   have f1:=bf a rH
   have fT:=cA (q:=[3]) (t:=false) hlt
   by_cases hy:i<ab n
   . obtain ⟨b,hb⟩:∃ b,(digits n)[i]? = some b:=⟨_,List.getElem?_eq_getElem hy⟩
     have wN:=aK n b (List.mem_of_getElem? hb)
     have f3:=bf b wN
     obtain ⟨w,c',h1,h2,h3,h4,h5⟩:=H5 rH wN hc
     have hv':=lu (va:=val ((digits m).take i)) (vb:=val ((digits n).take i)) ho (by rw [hv];omega) h3
     simp only [SS,Nat.reduceAdd,oH hlt,cZ ha,cZ hb,bc,ax,bl,f1,f3,d3t hy,h4,fT]
     rw [bL (o:=o++List.replicate (ab m-i) 0) (by simp [aa.put]) (TA hlt),Uo hlt]
     simp only [SS,Nat.reduceAdd,h5,py]
     refine ⟨(i+1,_,o++[w],c'),⟨(ic hlt).1,by simp [ho],cw hwd (by intro z hz;simp at hz;subst hz;exact h1),h2, ?_⟩,(ic hlt).2,Wk.forget (by simp [Fg]) (fun j => ?_) (Nat.le_refl _)⟩
     . show val (o++[w])+val ((digits n).take (i+1))=_
       rw [aC ha,aC hb];exact hv'
     . simp only [aa.put];split<;>simp
   . obtain ⟨w,c',h1,h2,h3,h4,h5⟩:=Oh rH hc
     have hv':=lu (va:=val ((digits m).take i)) (vb:=val ((digits n).take i)) ho (by rw [hv];omega) h3
     simp only [SS,Nat.reduceAdd,oH hlt,cZ ha,bc,ax,bl,f1,d3f hy,h4,fT]
     rw [bL (o:=o++List.replicate (ab m-i) 0) (by simp [aa.put]) (TA hlt),Uo hlt]
     simp only [SS,Nat.reduceAdd,h5,py]
     refine ⟨(i+1,_,o++[w],c'),⟨(ic hlt).1,by simp [ho],cw hwd (by intro z hz;simp at hz;subst hz;exact h1),h2, ?_⟩,(ic hlt).2,Wk.forget (by simp [Fg]) (fun j => ?_) (Nat.le_refl _)⟩
     . show val (o++[w])+val ((digits n).take (i+1))=_
       rw [aC ha,iz (hny hy)]
       simpa using hv'
     . simp only [aa.put];split<;>simp
 . have mE:=cI hlt
   have e1:(digits m).take (ab m)=digits m:=List.take_of_length_le (Nat.le_refl _)
   have e2:(digits n).take (ab m)=digits n:=List.take_of_length_le hle
   have xF:val o+n=m+au ^ ab m*c:=by rw [mE,e1,e2,aH,aH] at hv;exact hv
   have vQ:val o=m-n:=by
     have:=kg hwd
     rw [ho,mE] at this
     rcases Nat.le_one_iff_eq_zero_or_eq_one.1 hc with h0 | h0
     . rw [h0] at xF;omega
     . rw [h0] at xF;omega
   have e3:o++List.replicate (ab m-i) 0=o:=by rw [mE,Nat.sub_self];simp
   have uB:=ht o hwd (by rw [ho];omega)
   rw [vQ] at uB
   simp only [SS,Nat.reduceAdd,hd2 hlt,e3]
   refine cW [([3],⟨us o,1,false⟩)] uB (aI.cons (gC (by rw [ho,mE])) aI.nil) (by simp [aa.put]) ?_
   simp only [SS,Nat.reduceAdd]
   exact ah▸ae rfl (bp _)
end
theorem MF (a b:Nat) (ha:a<au) (hb:b<au):IntKind.u64.wrap ((a:Int)*(b:Int))=((a*b:Nat):Int):=by
 have:a*b<=4294967295*4294967295:=Nat.mul_le_mul (by unfold au at ha;omega) (by unfold au at hb;omega)
 rw [<- Int.natCast_mul,IntKind.wrap_u64];omega
theorem Kp {a b:Nat} (ha:a<au) (hb:b<au):a*b<=18446744065119617025:=by
 have:a*b<=4294967295*4294967295:=Nat.mul_le_mul (by unfold au at ha;omega) (by unfold au at hb;omega)
 omega
theorem lM (a b:Nat) (h:a+b<=9223372036854775807):IntKind.i64.wrap ((a:Int)+(b:Int))=((a+b:Nat):Int):=by rw [IntKind.wrap_i64];omega
theorem B5 {o:List Nat} {k y:Nat} (h:val o<au ^ k) (hy:o[k]? = some y):y=0:=by
 have:=AZ (x:=0) hy
 rcases Nat.eq_zero_or_pos y with h0 | h0
 . exact h0
 . have:au ^ k*1<=au ^ k*y:=Nat.mul_le_mul_left _ h0
   omega
theorem Ew {o o':List Nat} {i j c x y z s v:Nat} (hz:o'[i+j]? = some z) (hv:val o'+au ^ (i+j)*c=val o+au ^ i*(x*v)) (hs:s=c+(x*y+z)) :
   val (o'.set (i+j) (s%au))+au ^ (i+(j+1))*(s/au)=val o+au ^ i*(x*(v+au ^ j*y)):=by
 have e1:=AZ (x:=s%au) hz
 have e2:au ^ (i+j)*(s%au)+au ^ (i+j)*(au*(s/au))=au ^ (i+j)*c+au ^ (i+j)*(x*y)+au ^ (i+j)*z:=by
   rw [<- Nat.mul_add,Nat.mod_add_div,hs,Nat.mul_add,Nat.mul_add];omega
 have e3:au ^ (i+(j+1))*(s/au)=au ^ (i+j)*(au*(s/au)):=by rw [<- Nat.add_assoc,Nat.pow_succ,Nat.mul_assoc]
 have e4:au ^ i*(x*(v+au ^ j*y))=au ^ i*(x*v)+au ^ (i+j)*(x*y):=by
   rw [Nat.mul_add,Nat.mul_add,Nat.pow_add]
   congr 1
   rw [Nat.mul_assoc,Nat.mul_left_comm x]
 rw [e3,e4]
 omega
theorem bC {n:Nat}:ab n=0↔n=0:=by
 constructor
 . intro h;exact pY.1 (List.length_eq_zero_iff.1 h)
 . intro h;rw [h,ab,bh];rfl
section
variable {P:Program} {G:Nat->Option (List AV)}
theorem QS {f ft:FuncId} (h:Has P f (na ft)) (ht:gU P G ft) (m n:Nat) (hm:ab m<=1000000) (hn:ab n<=1000000):VP P G f [W m,W n] (W (m*n)):=by
 refine VP.has h ?_
 have z1:ab m=0->decide ((ab m:Int)=0)=true:=fun h=>ai (by omega)
 have z2 : ¬ ab m=0->decide ((ab m:Int)=0)=false:=fun h=>ag (by omega)
 have z3:ab n=0->decide ((ab n:Int)=0)=true:=fun h=>ai (by omega)
 have z4 : ¬ ab n=0->decide ((ab n:Int)=0)=false:=fun h=>ag (by omega)
 have B6:m*n=0->∀ σ,View σ .nils (W (m*n)):=fun h σ => by rw [h];simp only [W,bh,us];exact View.nils 1
 have uR:∀ p:Id,j4 p 1 4 (.int .u32 0) (.int .i64 ((ab m+ab n:Nat):Int)) (.int .i64 ((ab m+ab n:Nat):Int))=some { val := .osl p 1 0 (ab m+ab n) false,up:=[(p,some ⟨us (List.replicate (ab m+ab n) 0),1,false⟩)] }:=fun p=>lg (by omega)
 have hL:=lM (ab m) (ab n) (by omega)
 simp only [na,SS,Nat.reduceAdd,bc]
 by_cases h0:ab m=0
 . simp only [SS,Nat.reduceAdd,z1 h0]
   refine ah▸⟨.nils,rfl,B6 (by rw [bC.1 h0];simp) _⟩
 by_cases h1:ab n=0
 . simp only [SS,Nat.reduceAdd,z2 h0,z3 h1,bc]
   refine ah▸⟨.nils,rfl,B6 (by rw [bC.1 h1];simp) _⟩
 simp only [SS,Nat.reduceAdd,z2 h0,z4 h1,bc,hL,uR,az]
 refine VW.bG (α := Nat × Nat × List Nat) (fun x=>⟨[W m,W n, .top, .top, .top, .osl [14] 1 0 (ab m+ab n) false]++List.replicate 19 .top++[W m, .int .i64 (ab m), .int .i64 x.1]++List.replicate 47 .top,
   aa.put (fun _=>none) [14] (some ⟨us x.2.2,1,false⟩),x.2.1⟩)
   (fun x=>x.1<=ab m/\x.2.2.length=ab m+ab n/\Wd x.2.2/\val x.2.2=val ((digits m).take x.1)*n) (fun x=>ab m-x.1) (0,19,List.replicate (ab m+ab n) 0) ?_ ?_ ?_
 . exact Wk.slots (by simp [Fg,List.replicate]) (Nat.le_refl _)
 . exact ⟨Nat.zero_le _,List.length_replicate ..,B4 _,by simp only [];rw [yZ (fun w hw=>List.eq_of_mem_replicate hw)];simp [val]⟩
 rintro ⟨i,nn,o⟩ ⟨hi,ho,hwd,hv⟩
 simp only [] at hi ho hwd hv
 have oH:i<ab m->decide ((i:Int)<(ab m:Int))=true:=fun h=>ai (by omega)
 have hd2 : ¬ i<ab m->decide ((i:Int)<(ab m:Int))=false:=fun h=>ag (by omega)
 have cI : ¬ i<ab m->i=ab m:=by omega
 have py:=ao i (by omega)
 have ic:i<ab m->i+1<=ab m/\ab m-(i+1)<ab m-i:=fun h=>by omega
 have pc:=lM i (ab n) (by omega)
 have Kq:i<ab m->i+ab n<ab m+ab n:=fun h=>by omega
 simp only [SS]
 by_cases hlt:i<ab m
 . obtain ⟨a,ha⟩:∃ a,(digits m)[i]? = some a:=⟨_,List.getElem?_eq_getElem hlt⟩
   have rH:=aK m a (List.mem_of_getElem? ha)
   have f1:=bf a rH
   have TG:o[i+ab n]? = some 0:=by
     obtain ⟨y,hy⟩:∃ y,o[i+ab n]? = some y:=⟨_,List.getElem?_eq_getElem (by rw [ho];exact Kq hlt)⟩
     have e:=B5 (k:=i+ab n) (by
       rw [hv,Nat.pow_add]
       have h2:val ((digits m).take i)<au ^ i:=by
         have:=kg (pw (aK m) i)
         rwa [List.length_take,Nat.min_eq_left (show i<=(digits m).length from Nat.le_of_lt hlt)] at this
       exact Nat.mul_lt_mul'' h2 (cG n)) hy
     rw [e] at hy;exact hy
   simp only [SS,Nat.reduceAdd,oH hlt,cZ ha,bc,ax,bl,az]
   refine VW.bG (α := Nat × Nat × List Nat × Nat) (fun x=>⟨[W m,W n, .top, .top, .top, .osl [14] 1 0 (ab m+ab n) false, .int .i64 i, .int .u32 a, .int .u64 (x.2.2.2:Int)]++List.replicate 16 .top++[W m, .int .i64 (ab m), .int .i64 i]++List.replicate 4 .top++[W n, .int .i64 (ab n), .int .i64 x.1]++List.replicate 40 .top,
     aa.put (fun _=>none) [14] (some ⟨us x.2.2.1,1,false⟩),x.2.1⟩)
     (fun x=>x.1<=ab n/\x.2.2.1.length=ab m+ab n/\Wd x.2.2.1/\x.2.2.2<au/\x.2.2.1[i+ab n]? = some 0/\val x.2.2.1+au ^ (i+x.1)*x.2.2.2=val o+au ^ i*(a*val ((digits n).take x.1))) (fun x=>ab n-x.1) (0,nn+10,o,0) ?_ ?_ ?_
   . exact Wk.slots (by simp [Fg,List.replicate]) (by simp only [];omega)
   . exact ⟨Nat.zero_le _,ho,hwd,cP,TG,by simp [val]⟩
   rintro ⟨j,mm,o',c⟩ ⟨hj,H6,F2,hc,hz,hv'⟩
   simp only [] at hj H6 F2 hc hz hv'
   have H7:j<ab n->decide ((j:Int)<(ab n:Int))=true:=fun h=>ai (by omega)
   have H8 : ¬ j<ab n->decide ((j:Int)<(ab n:Int))=false:=fun h=>ag (by omega)
   have u7 : ¬ j<ab n->j=ab n:=by omega
   have MG:=ao j (by omega)
   have mV:j<ab n->j+1<=ab n/\ab n-(j+1)<ab n-j:=fun h=>by omega
   have Kf:=lM i j (by omega)
   have Kr:j<ab n->i+j<ab m+ab n:=fun h=>by omega
   have hne:j<ab n->i+j≠i+ab n:=fun h=>by omega
   simp only [SS]
   by_cases yE:j<ab n
   . obtain ⟨b,hb⟩:∃ b,(digits n)[j]? = some b:=⟨_,List.getElem?_eq_getElem yE⟩
     have wN:=aK n b (List.mem_of_getElem? hb)
     have f2:=bf b wN
     obtain ⟨z,XH⟩:∃ z,o'[i+j]? = some z:=⟨_,List.getElem?_eq_getElem (by rw [H6];exact Kr yE)⟩
     have Up:=F2 z (List.mem_of_getElem? XH)
     have f3:=bf z Up
     have f4:=MF a b rH wN
     have hle:=Kp rH wN
     have f5:=mN (a*b) z (by unfold au at Up;omega)
     have f6:=mN c (a*b+z) (by unfold au at Up hc;omega)
     have hc':(c+(a*b+z))/au<au:=by unfold au at Up hc ⊢;omega
     have fT:=cA (q:=[14]) (t:=false) (Kr yE)
     have hst:=Ew XH hv' (rfl:c+(a*b+z)=c+(a*b+z))
     simp only [SS,Nat.reduceAdd,H7 yE,cZ hb,ax,bl,f1,f2,f4,Kf,fT]
     rw [im (o:=o') (b:=false) (by simp [aa.put]) XH]
     simp only [SS,Nat.reduceAdd,f3,f5,f6,sK,Kf,fT]
     rw [bL (o:=o') (by simp [aa.put]) (by rw [H6];exact Kr yE)]
     simp only [SS,Nat.reduceAdd,mb,MG]
     refine ⟨(j+1,_,o'.set (i+j) ((c+(a*b+z))%au),(c+(a*b+z))/au),⟨(mV yE).1,by simp [H6],F1 F2 (Nat.mod_lt _ cP),hc', ?_, ?_⟩,(mV yE).2,Wk.forget (by simp [Fg]) (fun j => ?_) (Nat.le_refl _)⟩
     . rw [List.getElem?_set_ne (hne yE)];exact hz
     . show _=val o+au ^ i*(a*val ((digits n).take (j+1)))
       rw [aC hb];exact hst
     . simp only [aa.put];split<;>simp
   . have hjw:=u7 yE
     have fT:=cA (q:=[14]) (t:=false) (Kq hlt)
     have f7:IntKind.u32.wrap (c:Int)=(c:Int):=by rw [sK,Nat.mod_eq_of_lt hc]
     have hval:val (o'.set (i+ab n) c)=val ((digits m).take (i+1))*n:=by
       have e:=AZ (x:=c) hz
       have e2:(digits n).take (ab n)=digits n:=List.take_of_length_le (Nat.le_refl _)
       rw [hjw,e2,aH,hv] at hv'
       rw [aC ha,Nat.add_mul]
       have e3:au ^ i*a*n=au ^ i*(a*n):=Nat.mul_assoc _ _ _
       omega
     simp only [SS,Nat.reduceAdd,H8 yE,bc,pc,f7,fT]
     rw [bL (o:=o') (by simp [aa.put]) (by rw [H6];exact Kq hlt)]
     simp only [SS,Nat.reduceAdd,py]
     refine ⟨(i+1,_,o'.set (i+ab n) c),⟨(ic hlt).1,by simp [H6],F1 F2 hc,hval⟩,(ic hlt).2,Wk.forget (by simp [Fg]) (fun j => ?_) (Nat.le_refl _)⟩
     simp only [aa.put];split<;>simp
 . have mE:=cI hlt
   have e1:(digits m).take (ab m)=digits m:=List.take_of_length_le (Nat.le_refl _)
   have vQ:val o=m*n:=by rw [hv,mE,e1,aH]
   have uB:=ht o hwd (by rw [ho];omega)
   rw [vQ] at uB
   simp only [SS,Nat.reduceAdd,hd2 hlt]
   refine cW [([14],⟨us o,1,false⟩)] uB (aI.cons (gC ho.symm) aI.nil) (by simp [aa.put]) ?_
   simp only [SS,Nat.reduceAdd]
   exact ah▸ae rfl (bp _)
end
theorem Ks {k:IntKind} {a b:Int}:bn .or .int (.int k a) (.int k b)=some (.int k (k.wrap (BitVec.ofInt k.bits a ||| BitVec.ofInt k.bits b).toNat)):=by
 simp only [bn];rw [show j3 .or .int (.int k a) (.int k b)=some (.int k (k.wrap (BitVec.ofInt k.bits a ||| BitVec.ofInt k.bits b).toNat)) from by simp [j3,qw,bitsOf]]
theorem XI (a b:Nat) (ha:a<18446744073709551616) (hb:b<18446744073709551616):bn .or .int (.int .u64 (a:Int)) (.int .u64 (b:Int))=some (.int .u64 ((a ||| b:Nat):Int)):=by
 have hx:a ||| b<2 ^ 64:=Nat.or_lt_two_pow (by omega) (by omega)
 have h1:(BitVec.ofInt 64 (a:Int)).toNat=a:=by
   rw [BitVec.ofInt_natCast,BitVec.toNat_ofNat];exact Nat.mod_eq_of_lt (by omega)
 have h2:(BitVec.ofInt 64 (b:Int)).toNat=b:=by
   rw [BitVec.ofInt_natCast,BitVec.toNat_ofNat];exact Nat.mod_eq_of_lt (by omega)
 rw [Ks]
 show some (AV.int .u64 (IntKind.u64.wrap ((BitVec.ofInt 64 (a:Int) ||| BitVec.ofInt 64 (b:Int)).toNat:Int)))=_
 rw [BitVec.toNat_or,h1,h2,w64 _ (by omega)]
theorem XJ (a b:Nat) (ha:a<au) (hb:b<au):bn .or .int (.int .u32 (a:Int)) (.int .u32 (b:Int))=some (.int .u32 ((a ||| b:Nat):Int)):=by
 unfold au at ha hb
 have hx:a ||| b<2 ^ 32:=Nat.or_lt_two_pow (by omega) (by omega)
 have h1:(BitVec.ofInt 32 (a:Int)).toNat=a:=by
   rw [BitVec.ofInt_natCast,BitVec.toNat_ofNat];exact Nat.mod_eq_of_lt (by omega)
 have h2:(BitVec.ofInt 32 (b:Int)).toNat=b:=by
   rw [BitVec.ofInt_natCast,BitVec.toNat_ofNat];exact Nat.mod_eq_of_lt (by omega)
 rw [Ks]
 show some (AV.int .u32 (IntKind.u32.wrap ((BitVec.ofInt 32 (a:Int) ||| BitVec.ofInt 32 (b:Int)).toNat:Int)))=_
 rw [BitVec.toNat_or,h1,h2,sK,Nat.mod_eq_of_lt (by unfold au;omega)]
theorem B7 (a b:Nat) (ha:a<au) (hb:b<au):bn .or .int (.int .u64 ((au*a:Nat):Int)) (.int .u64 (b:Int))=some (.int .u64 ((au*a+b:Nat):Int)):=by
 rw [XI _ _ (by unfold au at *;omega) (by unfold au at *;omega)]
 have:=Nat.two_pow_add_eq_or_of_lt (i:=32) (b:=b) (by unfold au at hb;omega) a
 rw [show au=2 ^ 32 from rfl,this]
theorem tJ (a:Nat) (ha:a<au):bn .shl .int (.int .u64 (a:Int)) (.int .u64 32)=some (.int .u64 ((au*a:Nat):Int)):=by
 rw [Mu (by decide)]
 have:IntKind.u64.wrap ((a:Int)*2 ^ (min (32:Int).toNat IntKind.u64.bits))=((au*a:Nat):Int):=by
   show IntKind.u64.wrap ((a:Int)*2 ^ 32)=_
   rw [IntKind.wrap_u64];unfold au at *;omega
 rw [this]
theorem B8 (a b:Nat) (ha:a<18446744073709551616) (hb:b≠0):bn .quo .int (.int .u64 (a:Int)) (.int .u64 (b:Int))=some (.int .u64 ((a/b:Nat):Int)):=by
 rw [Mn (by omega)]
 show some (AV.int .u64 (IntKind.u64.wrap ((a/b:Nat):Int)))=_
 rw [w64 _ (Nat.lt_of_le_of_lt (Nat.div_le_self _ _) ha)]
theorem B9 (a b:Nat) (hb:b≠0):bn .rem .int (.int .u64 (a:Int)) (.int .u64 (b:Int))=some (.int .u64 ((a%b:Nat):Int)):=by
 rw [Uj (by omega)];rfl
def zs (k:Nat):List Nat:=List.replicate k 0
theorem rI:zs 0=[]:=rfl
theorem tK (q:List Nat) (j x:Nat):(zs (j+1)++q).set j x=zs j++x::q:=by
 unfold zs
 rw [List.replicate_succ',List.append_assoc,List.set_append_right _ _ (by simp)]
 simp
section
variable {P:Program} {G:Nat->Option (List AV)}
theorem Du {f ft fu:FuncId} (h:Has P f (ke ft fu)) (ht:gU P G ft) (hu:∀ n,n<18446744073709551616->VP P G fu [.int .u64 ((n:Nat):Int)] (W n)) (m w:Nat) (hm:ab m<=1000000) (hw:w<au) (Ha:w≠0) :
   VP P G f [W m, .int .u32 (w:Int)] (.tup [W (m/w),W (m%w)]):=by
 refine VP.has h ?_
 have uR:∀ p:Id,j4 p 1 4 (.int .u32 0) (.int .i64 (ab m:Int)) (.int .i64 (ab m:Int))=some { val := .osl p 1 0 (ab m) false,up:=[(p,some ⟨us (List.replicate (ab m) 0),1,false⟩)] }:=fun p=>lg (by omega)
 have XK:IntKind.i64.wrap ((ab m:Int)-1)=(ab m:Int)-1:=by rw [IntKind.wrap_i64];omega
 have f0:=bf w hw
 have hwz:((w:Nat):Int)≠0:=by omega
 simp only [ke,SS,Nat.reduceAdd,bc,uR,XK,az]
 refine VW.bG (α := Nat × Nat × List Nat × Nat) (fun x=>⟨[W m, .int .u32 (w:Int), .top, .top, .top, .top, .osl [4] 1 0 (ab m) false, .int .u64 (x.2.2.2:Int), .int .i64 ((x.1:Int)-1)]++List.replicate 34 .top,
   aa.put (fun _=>none) [4] (some ⟨us (zs x.1++x.2.2.1),1,false⟩),x.2.1⟩)
   (fun x=>x.1+x.2.2.1.length=ab m/\Wd x.2.2.1/\x.2.2.2<w/\val ((digits m).drop x.1)=val x.2.2.1*w+x.2.2.2) (fun x=>x.1) (ab m,11,[],0) ?_ ?_ ?_
 . rw [List.append_nil];exact Wk.slots (by simp [Fg,List.replicate]) (Nat.le_refl _)
 . refine ⟨by simp,by intro w hw;simp at hw,Nat.pos_of_ne_zero Ha, ?_⟩
   show val ((digits m).drop (ab m))=_
   rw [List.drop_eq_nil_of_le (show (digits m).length<=ab m from Nat.le_refl _)];simp [val]
 rintro ⟨k,nn,q,r⟩ ⟨hk,hwd,hr,hv⟩
 simp only [] at hk hwd hr hv
 by_cases h0:k=0
 . subst h0
   have d0:decide ((0:Int)<=((0:Nat):Int)-1)=false:=by decide
   have e:m/w=val q/\m%w=r:=by
     rw [List.drop_zero,aH] at hv
     refine (Nat.div_mod_unique (Nat.pos_of_ne_zero Ha)).2 ⟨?_,hr⟩
     rw [hv,Nat.mul_comm w];omega
   have uB:=ht q hwd (by omega)
   rw [<- e.1] at uB
   have DV:=hu r (by unfold au at hw;omega)
   have hq:ab m=q.length:=by omega
   simp only [SS,Nat.reduceAdd,d0,rI]
   refine cW [([4],⟨us q,1,false⟩)] uB (aI.cons (gC hq) aI.nil) (by simp [aa.put]) ?_
   simp only [SS,Nat.reduceAdd]
   refine aj DV (by simp [af.int]) ?_
   simp only [SS,Nat.reduceAdd]
   rw [e.2]
   exact ah▸ae rfl (af.tup (by intro c hc;simp at hc;rcases hc with rfl | rfl<;>exact bp _))
 . obtain ⟨j,rfl⟩:∃ j,k=j+1:=⟨k-1,by omega⟩
   have d0:decide ((0:Int)<=(j:Int))=true:=ai (by omega)
   have hj:((j+1:Nat):Int)-1=(j:Int):=by omega
   have l9:j<ab m:=by omega
   have MG:IntKind.i64.wrap ((j:Int)-1)=(j:Int)-1:=by rw [IntKind.wrap_i64];omega
   obtain ⟨a,ha⟩:∃ a,(digits m)[j]? = some a:=⟨_,List.getElem?_eq_getElem l9⟩
   have rH:=aK m a (List.mem_of_getElem? ha)
   have f1:=bf a rH
   have C6:r<au:=by omega
   have f2:=tJ r C6
   have f3:=B7 r a C6 rH
   have hlt:au*r+a<18446744073709551616:=by unfold au at *;omega
   have f4:=B8 (au*r+a) w hlt Ha
   have f5:=B9 (au*r+a) w Ha
   have H9:(au*r+a)/w<au:=by
     rw [Nat.div_lt_iff_lt_mul (Nat.pos_of_ne_zero Ha)]
     have:au*(r+1)<=au*w:=Nat.mul_le_mul_left _ hr
     rw [Nat.mul_add] at this
     omega
   have f6:IntKind.u32.wrap (((au*r+a)/w:Nat):Int)=(((au*r+a)/w:Nat):Int):=by rw [sK,Nat.mod_eq_of_lt H9]
   have fT:=cA (q:=[4]) (t:=false) l9
   have TA:j<(zs (j+1)++q).length:=by simp [zs];omega
   have hv':val ((digits m).drop j)=val ((au*r+a)/w::q)*w+(au*r+a)%w:=by
     rw [List.drop_eq_getElem_cons (show j<(digits m).length from l9)]
     obtain ⟨_,h2⟩:=List.getElem?_eq_some_iff.1 ha
     rw [h2]
     simp only [val]
     rw [hv,Nat.add_mul,Nat.mul_add,Nat.mul_assoc au]
     have:=Nat.div_add_mod (au*r+a) w
     rw [Nat.mul_comm] at this
     omega
   have FV:j+((au*r+a)/w::q).length=ab m:=by simp;omega
   simp only [SS,Nat.reduceAdd,d0,hj,cZ ha,ax,bl,f0,f1,f2,f3,f4,f6,fT]
   rw [bL (o:=zs (j+1)++q) (by simp [aa.put]) TA,tK]
   simp only [SS,Nat.reduceAdd,f0,f5,MG]
   refine ⟨(j,_,(au*r+a)/w::q,(au*r+a)%w),⟨FV, ?_,Nat.mod_lt _ (Nat.pos_of_ne_zero Ha),hv'⟩,Nat.lt_succ_self j,Wk.forget (by simp [Fg]) (fun j => ?_) (Nat.le_refl _)⟩
   . intro z hz
     rcases List.mem_cons.1 hz with rfl | hz
     . exact H9
     . exact hwd z hz
   . simp only [aa.put];split<;>simp
end
def pad:Nat->Nat->List Nat
 | 0,_=>[]
 | k+1,n=>n%au::pad k (n/au)
theorem j0 (k n:Nat):(pad k n).length=k:=by
 induction k generalizing n with
 | zero=>rfl
 | succ k ih=>simp [pad,ih]
theorem p5 (k n:Nat):Wd (pad k n):=by
 induction k generalizing n with
 | zero=>intro w hw;simp [pad] at hw
 | succ k ih =>
   intro w hw
   rcases List.mem_cons.1 hw with rfl | hw
   . exact Nat.mod_lt _ cP
   . exact ih _ w hw
theorem vZ {o:List Nat} (h:Wd o):pad o.length (val o)=o:=by
 induction o with
 | nil=>rfl
 | cons w o ih =>
   have hw:=h w List.mem_cons_self
   simp only [List.length_cons,pad,val]
   rw [Nat.add_mul_mod_self_left,Nat.mod_eq_of_lt hw,Nat.add_mul_div_left _ _ cP,Nat.div_eq_of_lt hw,Nat.zero_add,ih fun z hz=>h z (List.mem_cons_of_mem _ hz)]
theorem gu {k n:Nat} (h:n<au ^ k):val (pad k n)=n:=by
 induction k generalizing n with
 | zero=>simp at h;simp [pad,val,h]
 | succ k ih =>
   simp only [pad,val]
   rw [ih (by rw [Nat.div_lt_iff_lt_mul cP];rwa [Nat.pow_succ] at h),Nat.mod_add_div]
theorem QT (k:Nat):Wd (zs k):=B4 k
theorem iq (k:Nat):zs (k+1)=0::zs k:=rfl
theorem rJ (o:List Nat) (c:Nat) (t:List Nat) {i:Nat} (h:o.length=i):(o++c::t)[i]? = some c:=by subst h;simp
theorem fB (o:List Nat) (c:Nat) (t:List Nat) {i:Nat} (x:Nat) (h:o.length=i):(o++c::t).set i x=o++x::t:=by
 subst h;rw [List.set_append_right _ _ (Nat.le_refl _),Nat.sub_self,List.set_cons_zero]
theorem Ia (o:List Nat) (c d:Nat) (t:List Nat) {i:Nat} (x:Nat) (h:o.length=i):(o++c::d::t).set (i+1) x=(o++[c])++x::t:=by
 have e:o++c::d::t=(o++[c])++d::t:=by simp
 rw [e];exact fB _ _ _ _ (by simp [h])
theorem qF {s:Nat} (hs:s<=32):2 ^ (32-s)*2 ^ s=au:=by
 rw [<- Nat.pow_add,Nat.sub_add_cancel hs];rfl
theorem Ib {x c s:Nat} (hs:s<=32) (hc:c<2 ^ s) (hx:x<au):c ||| ((x*2 ^ s)%au)=c+(x*2 ^ s)%au/\c+(x*2 ^ s)%au<au/\(x*2 ^ s)/au<2 ^ s:=by
 have hB:=qF hs
 have e:(x*2 ^ s)%au=2 ^ s*(x%2 ^ (32-s)):=by rw [<- hB,Nat.mul_mod_mul_right,Nat.mul_comm]
 have hlt:x%2 ^ (32-s)<2 ^ (32-s):=Nat.mod_lt _ (Nat.two_pow_pos _)
 have h1:2 ^ s*(x%2 ^ (32-s)+1)<=2 ^ s*2 ^ (32-s):=Nat.mul_le_mul_left _ hlt
 rw [Nat.mul_add,Nat.mul_comm (2 ^ s) (2 ^ (32-s)),hB] at h1
 refine ⟨?_,by rw [e];omega, ?_⟩
 . rw [e,Nat.or_comm, <- Nat.two_pow_add_eq_or_of_lt hc,Nat.add_comm]
 . rw [Nat.div_lt_iff_lt_mul cP,Nat.mul_comm]
   exact Nat.mul_lt_mul_of_pos_left hx (Nat.two_pow_pos _)
theorem QU (x s:Nat) (hs:s<=32) (hx:x<au):bn .shl .int (.int .u64 (x:Int)) (.int .i64 (s:Int))=some (.int .u64 ((x*2 ^ s:Nat):Int)):=by
 rw [Mu (by omega)]
 have h1:x*2 ^ s<18446744073709551616:=by
   have h2:2 ^ s<=2 ^ 32:=Nat.pow_le_pow_right (by decide) hs
   have h3:x*2 ^ s<=x*2 ^ 32:=Nat.mul_le_mul_left _ h2
   unfold au at hx;omega
 have h2:min (s:Int).toNat IntKind.u64.bits=s:=by
   show min (s:Int).toNat 64=s
   rw [Int.toNat_natCast];omega
 have h3:(x:Int)*2 ^ s=((x*2 ^ s:Nat):Int):=by rw [Int.natCast_mul,Int.natCast_pow];rfl
 rw [h2,h3,w64 _ h1]
section
variable {P:Program} {G:Nat->Option (List AV)}
theorem xG {f:FuncId} (h:Has P f iJ) (m s:Nat) (hm:ab m<=1000000) (hs:s<=31) (p:Id) :
   aq P G f [W m, .int .i64 (s:Int)] p [] { val := .osl (4::p) 1 0 (ab m+1) false,rd:=[],up:=[(4::p,some ⟨us (pad (ab m+1) (m*2 ^ s)),1,false⟩)] }:=by
 refine aq.has h ?_
 have hL:=ao (ab m) (by omega)
 have uR:∀ p:Id,j4 p 1 4 (.int .u32 0) (.int .i64 ((ab m+1:Nat):Int)) (.int .i64 ((ab m+1:Nat):Int))=some { val := .osl p 1 0 (ab m+1) false,up:=[(p,some ⟨us (List.replicate (ab m+1) 0),1,false⟩)] }:=fun p=>lg (by omega)
 have hz:us (List.replicate (ab m+1) 0)=us (0::zs (ab m)):=rfl
 simp only [iJ,SS,Nat.reduceAdd,bc,hL,uR,az]
 refine VW.bG (α := Nat × Nat × List Nat × Nat) (fun x=>⟨[W m, .int .i64 (s:Int), .top, .top, .top, .osl (4::p) 1 0 (ab m+1) false]++List.replicate 7 .top++[W m, .int .i64 (ab m), .int .i64 x.1]++List.replicate 25 .top,
   aa.put (aa.of []) (4::p) (some ⟨us (x.2.2.1++x.2.2.2::zs (ab m-x.1)),1,false⟩),x.2.1⟩)
   (fun x=>x.1<=ab m/\x.2.2.1.length=x.1/\Wd x.2.2.1/\x.2.2.2<2 ^ s/\val x.2.2.1+au ^ x.1*x.2.2.2=val ((digits m).take x.1)*2 ^ s) (fun x=>ab m-x.1) (0,9,[],0) ?_ ?_ ?_
 . exact Wk.slots (by simp [Fg,List.replicate]) (Nat.le_refl _)
 . exact ⟨Nat.zero_le _,rfl,by intro w hw;simp at hw,Nat.two_pow_pos _,by simp [val]⟩
 rintro ⟨i,nn,o,c⟩ ⟨hi,ho,hwd,hc,hv⟩
 simp only [] at hi ho hwd hc hv
 have oH:i<ab m->decide ((i:Int)<(ab m:Int))=true:=fun h=>ai (by omega)
 have hd2 : ¬ i<ab m->decide ((i:Int)<(ab m:Int))=false:=fun h=>ag (by omega)
 have cI : ¬ i<ab m->i=ab m:=by omega
 have py:=ao i (by omega)
 have ic:i<ab m->i+1<=ab m/\ab m-(i+1)<ab m-i:=fun h=>by omega
 have hcB:c<au:=by
   have h2:2 ^ s<=2 ^ 32:=Nat.pow_le_pow_right (by decide) (by omega)
   unfold au;omega
 simp only [SS]
 by_cases hlt:i<ab m
 . obtain ⟨x,hx⟩:∃ x,(digits m)[i]? = some x:=⟨_,List.getElem?_eq_getElem hlt⟩
   have oJ:=aK m x (List.mem_of_getElem? hx)
   have f1:=bf x oJ
   have f2:=QU x s (by omega) oJ
   obtain ⟨g1,g2,g3⟩:=Ib (s:=s) (by omega) hc oJ
   have f3:=XJ c (x*2 ^ s%au) hcB (Nat.mod_lt _ cP)
   rw [g1] at f3
   have g4:x*2 ^ s/au<au:=by
     have h2:2 ^ s<=2 ^ 32:=Nat.pow_le_pow_right (by decide) (by omega)
     have:(2:Nat) ^ 32=au:=rfl
     omega
   have f4:IntKind.u32.wrap ((x*2 ^ s/au:Nat):Int)=((x*2 ^ s/au:Nat):Int):=by rw [sK,Nat.mod_eq_of_lt g4]
   have fT:=cA (q:=4::p) (t:=false) (show i<ab m+1 by omega)
   have XL:=cA (q:=4::p) (t:=false) (show i+1<ab m+1 by omega)
   obtain ⟨k,hk⟩:∃ k,ab m-i=k+1:=⟨ab m-i-1,by omega⟩
   have zL:ab m-(i+1)=k:=by omega
   have lF:i<(o++c::0::zs k).length:=by simp;omega
   have sD:i+1<(o++(c+x*2 ^ s%au)::0::zs k).length:=by simp;omega
   have hv':val (o++[c+x*2 ^ s%au])+au ^ (i+1)*(x*2 ^ s/au)=val ((digits m).take (i+1))*2 ^ s:=by
     rw [aC hx,cj,ho,Nat.add_mul, <- hv]
     simp only [val,Nat.mul_zero,Nat.add_zero,Nat.pow_succ]
     have e2:au ^ i*(x*2 ^ s%au)+au ^ i*(au*(x*2 ^ s/au))=au ^ i*(x*2 ^ s):=by rw [<- Nat.mul_add,Nat.mod_add_div]
     rw [Nat.mul_assoc,Nat.mul_assoc,Nat.mul_add]
     omega
   simp only [SS,Nat.reduceAdd,oH hlt,cZ hx,ax,bl,f1,f2,fT,hk,iq]
   rw [im (o:=o++c::0::zs k) (b:=false) (by simp [aa.put]) (rJ _ _ _ ho)]
   simp only [SS,Nat.reduceAdd,sK,f3,fT]
   rw [bL (o:=o++c::0::zs k) (by simp [aa.put]) lF,fB _ _ _ _ ho]
   simp only [SS,Nat.reduceAdd,py,mb,f4,XL]
   rw [bL (o:=o++(c+x*2 ^ s%au)::0::zs k) (by simp [aa.put]) sD,Ia _ _ _ _ _ ho]
   simp only [SS,Nat.reduceAdd,py]
   refine ⟨(i+1,_,o++[c+x*2 ^ s%au],x*2 ^ s/au),⟨(ic hlt).1,by simp [ho],cw hwd (by intro z hz;simp at hz;subst hz;exact g2),g3,hv'⟩,(ic hlt).2,Wk.forget (by simp [Fg]) (fun j => ?_) (Nat.le_refl _)⟩
   simp only [aa.put,zL];split<;>simp
 . have mE:=cI hlt
   have e1:(digits m).take (ab m)=digits m:=List.take_of_length_le (Nat.le_refl _)
   have vQ:val (o++[c])=m*2 ^ s:=by
     rw [cj,ho];simp only [val,Nat.mul_zero,Nat.add_zero]
     rw [hv,mE,e1,aH]
   have hlen:(o++[c]).length=ab m+1:=by simp [ho,mE]
   have e:pad (ab m+1) (m*2 ^ s)=o++[c]:=by
     rw [<- vQ, <- hlen]
     exact vZ (cw hwd (by intro z hz;simp at hz;subst hz;exact hcB))
   have e3:zs (ab m-i)=[]:=by rw [mE,Nat.sub_self];rfl
   simp only [SS,Nat.reduceAdd,hd2 hlt,e,e3]
   exact bZ▸aW rfl fun i => .inr rfl
end
theorem xH {x y s:Nat} (hs:s<=32) (hx:x<au):(x/2 ^ s) ||| ((y*2 ^ (32-s))%au)=x/2 ^ s+2 ^ (32-s)*(y%2 ^ s)/\x/2 ^ s+2 ^ (32-s)*(y%2 ^ s)<au/\2 ^ s*(x/2 ^ s+2 ^ (32-s)*(y%2 ^ s))+x%2 ^ s=x+au*(y%2 ^ s):=by
 have hB:=qF hs
 have e:(y*2 ^ (32-s))%au=2 ^ (32-s)*(y%2 ^ s):=by rw [<- hB,Nat.mul_comm y,Nat.mul_mod_mul_left]
 have hlt:y%2 ^ s<2 ^ s:=Nat.mod_lt _ (Nat.two_pow_pos _)
 have hd:x/2 ^ s<2 ^ (32-s):=by rw [Nat.div_lt_iff_lt_mul (Nat.two_pow_pos _),hB];exact hx
 have h1:2 ^ (32-s)*(y%2 ^ s+1)<=2 ^ (32-s)*2 ^ s:=Nat.mul_le_mul_left _ hlt
 rw [Nat.mul_add,hB] at h1
 refine ⟨?_,by omega, ?_⟩
 . rw [e,Nat.or_comm, <- Nat.two_pow_add_eq_or_of_lt hd,Nat.add_comm]
 . have h2:=Nat.div_add_mod x (2 ^ s)
   have h3:2 ^ s*(2 ^ (32-s)*(y%2 ^ s))=au*(y%2 ^ s):=by rw [<- Nat.mul_assoc,Nat.mul_comm (2 ^ s),hB]
   rw [Nat.mul_add,h3];omega
theorem XM (x s:Nat) (hs:s<=32):bn .shr .int (.int .u32 (x:Int)) (.int .i64 (s:Int))=some (.int .u32 ((x/2 ^ s:Nat):Int)):=by
 rw [po (by omega)]
 have h2:min (s:Int).toNat IntKind.u32.bits=s:=by
   show min (s:Int).toNat 32=s
   rw [Int.toNat_natCast];omega
 have h3:(x:Int).fdiv (2 ^ s)=((x/2 ^ s:Nat):Int):=by
   have h4:(2:Int) ^ s=((2 ^ s:Nat):Int):=by rw [Int.natCast_pow];rfl
   rw [h4,Int.fdiv_eq_ediv_of_nonneg _ (Int.natCast_nonneg _)]
   exact (Int.natCast_ediv _ _).symm
 rw [h2,h3]
theorem tL (m:Nat):((digits m)[0]?).getD 0=m%au:=by
 by_cases h:m=0
 . rw [h,bh];rfl
 . rw [iw h];rfl
section
variable {P:Program} {G:Nat->Option (List AV)}
theorem Dv {f:FuncId} (h:Has P f ij) (m s:Nat) (hm:ab m<=1000000) (hs:s<=31) :
   VP P G f [W m, .int .i64 (s:Int)] (.sl 1 (us (pad (ab m) (m/2 ^ s)))):=by
 refine VP.has h ?_
 have uR:∀ p:Id,j4 p 1 4 (.int .u32 0) (.int .i64 (ab m:Int)) (.int .i64 (ab m:Int))=some { val := .osl p 1 0 (ab m) false,up:=[(p,some ⟨us (List.replicate (ab m) 0),1,false⟩)] }:=fun p=>lg (by omega)
 have hz:us (List.replicate (ab m) 0)=us ([]++zs (ab m-0)):=rfl
 have aer:IntKind.i64.wrap (32-(s:Int))=((32-s:Nat):Int):=by rw [IntKind.wrap_i64];omega
 have h2s:2 ^ s*2 ^ (32-s)=au:=by rw [Nat.mul_comm];exact qF (by omega)
 simp only [ij,SS,Nat.reduceAdd,bc,uR,hz,az]
 refine VW.bG (α := Nat × Nat × List Nat) (fun x=>⟨[W m, .int .i64 (s:Int), .top, .top, .top, .osl [3] 1 0 (ab m) false]++List.replicate 5 .top++[W m, .int .i64 (ab m), .int .i64 x.1]++List.replicate 33 .top,
   aa.put (fun _=>none) [3] (some ⟨us (x.2.2++zs (ab m-x.1)),1,false⟩),x.2.1⟩)
   (fun x=>x.1<=ab m/\x.2.2.length=x.1/\Wd x.2.2/\2 ^ s*val x.2.2+m%2 ^ s=val ((digits m).take x.1)+au ^ x.1*(((digits m)[x.1]?).getD 0%2 ^ s)) (fun x=>ab m-x.1) (0,8,[]) ?_ ?_ ?_
 . exact Wk.slots (by simp [Fg,List.replicate]) (Nat.le_refl _)
 . refine ⟨Nat.zero_le _,rfl,by intro w hw;simp at hw, ?_⟩
   show 2 ^ s*val []+m%2 ^ s=val ((digits m).take 0)+au ^ 0*(((digits m)[0]?).getD 0%2 ^ s)
   rw [tL, <- h2s,Nat.mod_mul_right_mod]
   simp [val]
 rintro ⟨i,nn,o⟩ ⟨hi,ho,hwd,hv⟩
 simp only [] at hi ho hwd hv
 have oH:i<ab m->decide ((i:Int)<(ab m:Int))=true:=fun h=>ai (by omega)
 have hd2 : ¬ i<ab m->decide ((i:Int)<(ab m:Int))=false:=fun h=>ag (by omega)
 have H7:i+1<ab m->decide (((i+1:Nat):Int)<(ab m:Int))=true:=fun h=>ai (by omega)
 have H8 : ¬ i+1<ab m->decide (((i+1:Nat):Int)<(ab m:Int))=false:=fun h=>ag (by omega)
 have cI : ¬ i<ab m->i=ab m:=by omega
 have XN:i<ab m -> ¬ i+1<ab m->i+1=ab m:=by omega
 have py:=ao i (by omega)
 have ic:i<ab m->i+1<=ab m/\ab m-(i+1)<ab m-i:=fun h=>by omega
 simp only [SS]
 by_cases hlt:i<ab m
 . obtain ⟨x,hx⟩:∃ x,(digits m)[i]? = some x:=⟨_,List.getElem?_eq_getElem hlt⟩
   have oJ:=aK m x (List.mem_of_getElem? hx)
   have f2:=XM x s (by omega)
   have fT:=cA (q:=[3]) (t:=false) hlt
   obtain ⟨k,hk⟩:∃ k,ab m-i=k+1:=⟨ab m-i-1,by omega⟩
   have zL:ab m-(i+1)=k:=by omega
   have lF:i<(o++0::zs k).length:=by simp;omega
   have sD:i<(o++(x/2 ^ s)::zs k).length:=by simp;omega
   have hstep:∀ y w,w=x/2 ^ s+2 ^ (32-s)*(y%2 ^ s)->2 ^ s*w+x%2 ^ s=x+au*(y%2 ^ s)->((digits m)[i+1]?).getD 0=y ->
       2 ^ s*val (o++[w])+m%2 ^ s=val ((digits m).take (i+1))+au ^ (i+1)*(((digits m)[i+1]?).getD 0%2 ^ s):=by
     intro y w _ hw hy
     rw [hx,Option.getD_some] at hv
     rw [aC hx,cj,ho,hy]
     simp only [val,Nat.mul_zero,Nat.add_zero,Nat.pow_succ]
     have e1:au ^ i*(2 ^ s*w)+au ^ i*(x%2 ^ s)=au ^ i*x+au ^ i*(au*(y%2 ^ s)):=by rw [<- Nat.mul_add,hw,Nat.mul_add]
     have e2:2 ^ s*(val o+au ^ i*w)=2 ^ s*val o+au ^ i*(2 ^ s*w):=by rw [Nat.mul_add,Nat.mul_left_comm]
     rw [e2,Nat.mul_assoc]
     omega
   by_cases hn:i+1<ab m
   . obtain ⟨y,hy⟩:∃ y,(digits m)[i+1]? = some y:=⟨_,List.getElem?_eq_getElem hn⟩
     have y7:=aK m y (List.mem_of_getElem? hy)
     have f1:=bf y y7
     have f3:=QU y (32-s) (by omega) y7
     obtain ⟨g1,g2,g3⟩:=xH (y:=y) (s:=s) (by omega) oJ
     have f4:=XJ (x/2 ^ s) (y*2 ^ (32-s)%au) (Nat.lt_of_le_of_lt (Nat.div_le_self _ _) oJ) (Nat.mod_lt _ cP)
     rw [g1] at f4
     have hv':=hstep y _ rfl g3 (by rw [hy];rfl)
     simp only [SS,Nat.reduceAdd,oH hlt,cZ hx,ax,bl,f2,fT,hk,iq]
     rw [bL (o:=o++0::zs k) (by simp [aa.put]) lF,fB _ _ _ _ ho]
     simp only [SS,DD,Nat.reduceAdd,py,bc,H7 hn,fT]
     rw [im (o:=o++(x/2 ^ s)::zs k) (b:=false) (by simp [aa.put]) (rJ _ _ _ ho)]
     simp only [SS,DD,Nat.reduceAdd,py,cZ hy,ax,bl,f1,aer,f3,sK,f4,fT]
     rw [bL (o:=o++(x/2 ^ s)::zs k) (by simp [aa.put]) sD,fB _ _ _ _ ho]
     simp only [SS,DD,Nat.reduceAdd,py]
     refine ⟨by simp [aJ], ?_⟩
     refine ⟨(i+1,_,o++[x/2 ^ s+2 ^ (32-s)*(y%2 ^ s)]),⟨(ic hlt).1,by simp [ho],cw hwd (by intro z hz;simp at hz;subst hz;exact g2),hv'⟩,(ic hlt).2,Wk.forget (by simp [Fg]) (fun j => ?_) (Nat.le_refl _)⟩
     simp only [aa.put,zL];split<;>simp
   . have xg:(digits m)[i+1]? = none:=List.getElem?_eq_none (by have:=XN hlt hn;show ab m<=i+1;omega)
     obtain ⟨g1,g2,g3⟩:=xH (y:=0) (s:=s) (by omega) oJ
     have e0:x/2 ^ s+2 ^ (32-s)*(0%2 ^ s)=x/2 ^ s:=by simp
     rw [e0] at g2 g3
     have hv':=hstep 0 (x/2 ^ s) e0.symm g3 (by rw [xg];rfl)
     simp only [SS,Nat.reduceAdd,oH hlt,cZ hx,ax,bl,f2,fT,hk,iq]
     rw [bL (o:=o++0::zs k) (by simp [aa.put]) lF,fB _ _ _ _ ho]
     simp only [SS,Nat.reduceAdd,py,bc,H8 hn]
     refine ⟨(i+1,_,o++[x/2 ^ s]),⟨(ic hlt).1,by simp [ho],cw hwd (by intro z hz;simp at hz;subst hz;exact g2),hv'⟩,(ic hlt).2,Wk.forget (by simp [Fg]) (fun j => ?_) (Nat.le_refl _)⟩
     simp only [aa.put,zL];split<;>simp
 . have mE:=cI hlt
   have e1:(digits m).take (ab m)=digits m:=List.take_of_length_le (Nat.le_refl _)
   have xg:(digits m)[ab m]? = none:=List.getElem?_eq_none (Nat.le_refl _)
   have vQ:val o=m/2 ^ s:=by
     rw [mE,e1,aH,xg] at hv
     have h1:=Nat.div_add_mod m (2 ^ s)
     have h2:2 ^ s*val o=2 ^ s*(m/2 ^ s):=by
       simp at hv;omega
     exact Nat.eq_of_mul_eq_mul_left (Nat.two_pow_pos _) h2
   have hlen:o.length=ab m:=by rw [ho,mE]
   have e:pad (ab m) (m/2 ^ s)=o:=by rw [<- vQ, <- hlen];exact vZ hwd
   have e3:zs (ab m-i)=[]:=by rw [mE,Nat.sub_self];rfl
   simp only [SS,Nat.reduceAdd,hd2 hlt,e,e3]
   exact ah▸B3 (b:=false) rfl (by simp [aa.put]) hlen.symm
end
theorem A1 (k n c:Nat):pad k (n+au ^ k*c)=pad k n:=by
 induction k generalizing n with
 | zero=>rfl
 | succ k ih =>
   have e:au ^ (k+1)*c=au*(au ^ k*c):=by rw [Nat.pow_succ,Nat.mul_comm (au ^ k),Nat.mul_assoc]
   simp only [pad]
   rw [e,Nat.add_mul_mod_self_left,Nat.add_mul_div_left _ _ cP,ih]
theorem ml {q:Id} {off len i:Nat} {t:Bool} (h:i<len):aV 1 (.osl q 1 off len t) (.int .i64 (i:Int))=some (.ref q (off+i) 0):=by
 simp only [aV]
 rw [if_pos ⟨trivial,by omega,by omega⟩]
 simp
theorem Ex {x k:Nat} (hx:x<au) (hk:k<=au):∃ w c':Nat,w<au/\c'<=1/\w+k=x+au*c'/\IntKind.u32.wrap (IntKind.u64.wrap ((x:Int)-(k:Int)))=(w:Int) /\
   bn .shr .int (.int .u64 (IntKind.u64.wrap ((x:Int)-(k:Int)))) (.int .u64 63)=some (.int .u64 (c':Int)):=by
 have Au:∀ a:Int,bn .shr .int (.int .u64 a) (.int .u64 63)=some (.int .u64 (a/9223372036854775808)):=fun a=>by
   rw [po (by decide)]
   show some (AV.int .u64 (a.fdiv (2 ^ 63)))=_
   rw [Int.fdiv_eq_ediv_of_nonneg _ (by decide)];rfl
 rw [Au]
 unfold au at *
 by_cases h:k<=x
 . refine ⟨x-k,0,by omega,by omega,by omega, ?_, ?_⟩
   . rw [IntKind.wrap_u32,IntKind.wrap_u64];omega
   . rw [IntKind.wrap_u64];congr 2;omega
 . refine ⟨x+4294967296-k,1,by omega,by omega,by omega, ?_, ?_⟩
   . rw [IntKind.wrap_u32,IntKind.wrap_u64];omega
   . rw [IntKind.wrap_u64];congr 2;omega
theorem xI {b:List Nat} {k:Nat} (h:b.length=k):val (b.take k)=val b:=by rw [List.take_of_length_le (Nat.le_of_eq h)]
theorem Ey {i j:Id} {b c:a8} {d:Option a8}:(aa.of [(i,b)]).put i d j=(aa.of [(i,c)]).put i d j:=by
 by_cases h:j=i
 . subst h;rw [aa.a6,aa.a6]
 . rw [aa.bb _ _ _ h,aa.bb _ _ _ h]
   have:(j==i)=false:=by simpa using h
   simp [aa.of,List.lookup,this]
section
variable {P:Program} {G:Nat->Option (List AV)}
theorem Ic {f:FuncId} (h:Has P f jh) {id:Id} {a b t:List Nat} {v q:Nat} {tight:Bool} (hv:ab v<=1000000) (hb:b.length=ab v+1) (A2:Wd b) (hq:q<au) (p:Id) :
   aq P G f [.osl id 1 a.length (ab v+1) tight,W v, .int .u64 (q:Int)] p [(id,⟨us (a++b++t),1,false⟩)]
     { val := .bool (decide (val b<q*v)),rd:=[id],up:=[(id,some ⟨us (a++pad (ab v+1) (val b+au ^ (ab v+1)-q*v)++t),1,false⟩)] }:=by
 refine aq.has h ?_
 simp only [jh,SS,Nat.reduceAdd,bc,az]
 refine VW.bG (α := Nat × Nat × List Nat × Nat) (fun x=>⟨[.osl id 1 a.length (ab v+1) tight,W v, .int .u64 (q:Int), .top, .top, .top, .top, .int .u64 (x.2.2.2:Int)]++List.replicate 5 .top++[W v, .int .i64 (ab v), .int .i64 x.1]++List.replicate 47 .top,
   aa.of [(id,⟨us ((a++x.2.2.1)++(b.drop x.1++t)),1,false⟩)],x.2.1⟩)
   (fun x=>x.1<=ab v/\x.2.2.1.length=x.1/\Wd x.2.2.1/\x.2.2.2<=au/\val x.2.2.1+val ((digits v).take x.1)*q=val (b.take x.1)+au ^ x.1*x.2.2.2) (fun x=>ab v-x.1) (0,5,[],0) ?_ ?_ ?_
 . exact Wk.forget (by simp [Fg,List.replicate]) (fun j=>by simp) (Nat.le_refl _)
 . exact ⟨Nat.zero_le _,rfl,by intro w hw;simp at hw,Nat.zero_le _,by simp [val]⟩
 rintro ⟨i,nn,o,k⟩ ⟨hi,ho,hwd,hk,hv'⟩
 simp only [] at hi ho hwd hk hv'
 have oH:i<ab v->decide ((i:Int)<(ab v:Int))=true:=fun h=>ai (by omega)
 have hd2 : ¬ i<ab v->decide ((i:Int)<(ab v:Int))=false:=fun h=>ag (by omega)
 have cI : ¬ i<ab v->i=ab v:=by omega
 have py:=ao i (by omega)
 have ic:i<ab v->i+1<=ab v/\ab v-(i+1)<ab v-i:=fun h=>by omega
 have XC:i<b.length:=by omega
 have fT:=ml (q:=id) (off:=a.length) (t:=tight) (show i<ab v+1 by omega)
 obtain ⟨x,hx⟩:∃ x,b[i]? = some x:=⟨_,List.getElem?_eq_getElem XC⟩
 have oJ:=A2 x (List.mem_of_getElem? hx)
 have hdr:b.drop i=x::b.drop (i+1):=by
   obtain ⟨_,h2⟩:=List.getElem?_eq_some_iff.1 hx
   rw [List.drop_eq_getElem_cons XC,h2]
 have f1:=bf x oJ
 have QV:(a++o).length=a.length+i:=by rw [List.length_append,ho]
 have lF:a.length+i<((a++o)++x::(b.drop (i+1)++t)).length:=by rw [List.length_append,QV];simp
 simp only [SS]
 by_cases hlt:i<ab v
 . obtain ⟨y,hy⟩:∃ y,(digits v)[i]? = some y:=⟨_,List.getElem?_eq_getElem hlt⟩
   have y7:=aK v y (List.mem_of_getElem? hy)
   have f2:=bf y y7
   have f3:=MF y q y7 hq
   have hle:=Kp y7 hq
   have f4:=mN (y*q) k (by unfold au at hk;omega)
   have f5:IntKind.u64.wrap (((y*q+k)%au:Nat):Int)=(((y*q+k)%au:Nat):Int):=bf _ (Nat.mod_lt _ cP)
   obtain ⟨w,c',h1,h2,h3,h4,h5⟩:=Ex (k:=(y*q+k)%au) oJ (Nat.le_of_lt (Nat.mod_lt _ cP))
   have hdq:(y*q+k)/au+1<=au:=by unfold au at hk ⊢;omega
   have f6:=mN ((y*q+k)/au) c' (by unfold au at hdq ⊢;omega)
   have TX:(y*q+k)/au+c'<=au:=by omega
   have hst:w+y*q+k=x+au*((y*q+k)/au+c'):=by
     have:=Nat.mod_add_div (y*q+k) au
     rw [Nat.mul_add];omega
   have QW:=lu (va:=val (b.take i)) (vb:=val ((digits v).take i)*q) ho (by rw [hv'];omega) hst
   simp only [SS,Nat.reduceAdd,oH hlt,cZ hy,ax,bl,f2,f3,f4,fT,hdr]
   rw [im (o:=(a++o)++x::(b.drop (i+1)++t)) (b:=false) (by simp [aa.of]) (rJ _ _ _ QV)]
   simp only [SS,Nat.reduceAdd,f1,sK,f5,h4,fT]
   rw [bL (o:=(a++o)++x::(b.drop (i+1)++t)) (by simp [aa.of]) lF,fB _ _ _ _ QV]
   simp only [SS,Nat.reduceAdd,mb,h5,f6,py]
   refine ⟨(i+1,_,o++[w],(y*q+k)/au+c'),⟨(ic hlt).1,by simp [ho],cw hwd (by intro z hz;simp at hz;subst hz;exact h1),TX, ?_⟩,(ic hlt).2,Wk.forget (by simp [Fg]) (fun j => ?_) (Nat.le_refl _)⟩
   . show val (o++[w])+val ((digits v).take (i+1))*q=_
     rw [aC hx,aC hy,Nat.add_mul,Nat.mul_assoc];exact QW
   . simp only [aa.put,aa.of];split<;>simp_all
 . have mE:=cI hlt
   subst mE
   obtain ⟨w,c',h1,h2,h3,h4,h5⟩:=Ex (k:=k) oJ hk
   have vM:b.drop (ab v+1)=[]:=List.drop_eq_nil_of_le (by omega)
   have e1:(digits v).take (ab v)=digits v:=List.take_of_length_le (Nat.le_refl _)
   have e2:val (b.take (ab v+1))=val b:=xI hb
   have QW:=lu (va:=val (b.take (ab v))) (vb:=val ((digits v).take (ab v))*q) (y:=0) (c:=k) (w:=w) (c':=c') (x:=x) ho (by rw [hv'];omega) (by omega)
   rw [e1,aH, <- aC hx,e2,Nat.mul_zero,Nat.add_zero,Nat.mul_comm v q] at QW
   have Uq:Wd (o++[w]):=cw hwd (by intro z hz;simp at hz;subst hz;exact h1)
   have rz:(o++[w]).length=ab v+1:=by simp [ho]
   have pV:val (o++[w])<au ^ (ab v+1):=by have:=kg Uq;rwa [rz] at this
   have e:pad (ab v+1) (val b+au ^ (ab v+1)-q*v)=o++[w]/\decide ((c':Int)=1)=decide (val b<q*v):=by
     rcases Nat.le_one_iff_eq_zero_or_eq_one.1 h2 with h0 | h0
     . rw [h0] at QW ⊢
       refine ⟨?_, ?_⟩
       . have:val b+au ^ (ab v+1)-q*v=val (o++[w])+au ^ (ab v+1)*1:=by omega
         rw [this,A1, <- rz];exact vZ Uq
       . rw [ag (show ¬ val b<q*v by omega)];rfl
     . rw [h0] at QW ⊢
       refine ⟨?_, ?_⟩
       . have:val b+au ^ (ab v+1)-q*v=val (o++[w]):=by omega
         rw [this, <- rz];exact vZ Uq
       . rw [ai (show val b<q*v by omega)];rfl
   simp only [SS,Nat.reduceAdd,hd2 hlt,bc,fT,hdr]
   rw [im (o:=(a++o)++x::(b.drop (ab v+1)++t)) (b:=false) (by simp [aa.of]) (rJ _ _ _ QV)]
   simp only [SS,Nat.reduceAdd,f1,h4,fT,bc]
   rw [bL (o:=(a++o)++x::(b.drop (ab v+1)++t)) (by simp [aa.of]) lF,fB _ _ _ _ QV,vM]
   simp only [SS,Nat.reduceAdd,h5,e.2,e.1]
   have e5:a++(o++[w])++t=a++o++w::t:=by simp
   refine bZ▸aW rfl fun i => .inr ?_
   simp only [aa.app,e5];exact Ey
end
section
variable {P:Program} {G:Nat->Option (List AV)}
theorem Kt {f:FuncId} (h:Has P f jZ) {id:Id} {a b t:List Nat} {v:Nat} {tight:Bool} (hv:ab v<=1000000) (hb:b.length=ab v+1) (A2:Wd b) (p:Id) :
   aq P G f [.osl id 1 a.length (ab v+1) tight,W v] p [(id,⟨us (a++b++t),1,false⟩)]
     { val := .tup [],rd:=[id],up:=[(id,some ⟨us (a++pad (ab v+1) (val b+v)++t),1,false⟩)] }:=by
 refine aq.has h ?_
 simp only [jZ,SS,Nat.reduceAdd,bc,az]
 refine VW.bG (α := Nat × Nat × List Nat × Nat) (fun x=>⟨[.osl id 1 a.length (ab v+1) tight,W v, .top, .top, .int .u64 (x.2.2.2:Int)]++List.replicate 2 .top++[W v, .int .i64 (ab v), .int .i64 x.1]++List.replicate 31 .top,
   aa.of [(id,⟨us ((a++x.2.2.1)++(b.drop x.1++t)),1,false⟩)],x.2.1⟩)
   (fun x=>x.1<=ab v/\x.2.2.1.length=x.1/\Wd x.2.2.1/\x.2.2.2<=1/\val x.2.2.1+au ^ x.1*x.2.2.2=val (b.take x.1)+val ((digits v).take x.1)) (fun x=>ab v-x.1) (0,4,[],0) ?_ ?_ ?_
 . exact Wk.forget (by simp [Fg,List.replicate]) (fun j=>by simp) (Nat.le_refl _)
 . exact ⟨Nat.zero_le _,rfl,by intro w hw;simp at hw,Nat.zero_le _,by simp [val]⟩
 rintro ⟨i,nn,o,k⟩ ⟨hi,ho,hwd,hk,hv'⟩
 simp only [] at hi ho hwd hk hv'
 have oH:i<ab v->decide ((i:Int)<(ab v:Int))=true:=fun h=>ai (by omega)
 have hd2 : ¬ i<ab v->decide ((i:Int)<(ab v:Int))=false:=fun h=>ag (by omega)
 have cI : ¬ i<ab v->i=ab v:=by omega
 have py:=ao i (by omega)
 have ic:i<ab v->i+1<=ab v/\ab v-(i+1)<ab v-i:=fun h=>by omega
 have XC:i<b.length:=by omega
 have fT:=ml (q:=id) (off:=a.length) (t:=tight) (show i<ab v+1 by omega)
 obtain ⟨x,hx⟩:∃ x,b[i]? = some x:=⟨_,List.getElem?_eq_getElem XC⟩
 have oJ:=A2 x (List.mem_of_getElem? hx)
 have hdr:b.drop i=x::b.drop (i+1):=by
   obtain ⟨_,h2⟩:=List.getElem?_eq_some_iff.1 hx
   rw [List.drop_eq_getElem_cons XC,h2]
 have f1:=bf x oJ
 have QV:(a++o).length=a.length+i:=by rw [List.length_append,ho]
 have lF:a.length+i<((a++o)++x::(b.drop (i+1)++t)).length:=by rw [List.length_append,QV];simp
 simp only [SS]
 by_cases hlt:i<ab v
 . obtain ⟨y,hy⟩:∃ y,(digits v)[i]? = some y:=⟨_,List.getElem?_eq_getElem hlt⟩
   have y7:=aK v y (List.mem_of_getElem? hy)
   have f2:=bf y y7
   have f3:=mN x y (by unfold au at oJ y7;omega)
   have f4:=mN k (x+y) (by unfold au at oJ y7;omega)
   have TX:(k+(x+y))/au<=1:=by unfold au at oJ y7 ⊢;omega
   have QW:=kO (x:=x) (y:=y) (s:=k+(x+y)) ho hv' (by omega)
   simp only [SS,Nat.reduceAdd,oH hlt,cZ hy,ax,bl,fT,hdr]
   rw [im (o:=(a++o)++x::(b.drop (i+1)++t)) (b:=false) (by simp [aa.of]) (rJ _ _ _ QV)]
   simp only [SS,Nat.reduceAdd,f1,f2,f3,f4,sK,fT]
   rw [bL (o:=(a++o)++x::(b.drop (i+1)++t)) (by simp [aa.of]) lF,fB _ _ _ _ QV]
   simp only [SS,Nat.reduceAdd,mb,py]
   refine ⟨(i+1,_,o++[(k+(x+y))%au],(k+(x+y))/au),⟨(ic hlt).1,by simp [ho],mD hwd _,TX, ?_⟩,(ic hlt).2,Wk.forget (by simp [Fg]) (fun j => ?_) (Nat.le_refl _)⟩
   . show val (o++[(k+(x+y))%au])+au ^ (i+1)*((k+(x+y))/au)=_
     rw [aC hx,aC hy];exact QW
   . simp only [aa.put,aa.of];split<;>simp_all
 . have mE:=cI hlt
   subst mE
   have vM:b.drop (ab v+1)=[]:=List.drop_eq_nil_of_le (by omega)
   have e1:(digits v).take (ab v)=digits v:=List.take_of_length_le (Nat.le_refl _)
   have e2:val (b.take (ab v+1))=val b:=xI hb
   have QW:=kO (x:=x) (y:=0) (s:=k+x) ho hv' (by omega)
   rw [e1,aH, <- aC hx,e2] at QW
   simp only [Nat.mul_zero,Nat.add_zero] at QW
   have f5:IntKind.u32.wrap (k:Int)=(k:Int):=by rw [sK,Nat.mod_eq_of_lt (by unfold au;omega)]
   have f6:IntKind.u32.wrap ((x:Int)+(k:Int))=(((k+x)%au:Nat):Int):=by rw [IntKind.wrap_u32];unfold au;omega
   have Uq:Wd (o++[(k+x)%au]):=mD hwd _
   have rz:(o++[(k+x)%au]).length=ab v+1:=by simp [ho]
   have e:pad (ab v+1) (val b+v)=o++[(k+x)%au]:=by
     rw [<- QW,A1, <- rz];exact vZ Uq
   simp only [SS,Nat.reduceAdd,hd2 hlt,bc,fT,hdr]
   rw [im (o:=(a++o)++x::(b.drop (ab v+1)++t)) (b:=false) (by simp [aa.of]) (rJ _ _ _ QV)]
   simp only [SS,Nat.reduceAdd,f5,f6,fT]
   rw [bL (o:=(a++o)++x::(b.drop (ab v+1)++t)) (by simp [aa.of]) lF,fB _ _ _ _ QV,vM]
   simp only [SS,Nat.reduceAdd,e]
   have e5:a++(o++[(k+x)%au])++t=a++o++(k+x)%au::t:=by simp
   refine HV▸aW rfl fun i => .inr ?_
   simp only [aa.app,e5];exact Ey
end
def lens:List UInt8:=[0,1,2,2,3,3,3,3,4,4,4,4,4,4,4,4,5,5,5,5,5,5,5,5,5,5,5,5,5,5,5,5,6,6,6,6,6,6,6,6,6,6,6,6,6,6,6,6,6,6,6,6,6,6,6,6,6,6,6,6,6,6,6,6,7,7,7,7,7,7,7,7,7,7,7,7,7,7,7,7,7,7,7,7,7,7,7,7,7,7,7,7,7,7,7,7,7,7,7,7,7,7,7,7,7,7,7,7,7,7,7,7,7,7,7,7,7,7,7,7,7,7,7,7,7,7,7,7,8,8,8,8,8,8,8,8,8,8,8,8,8,8,8,8,8,8,8,8,8,8,8,8,8,8,8,8,8,8,8,8,8,8,8,8,8,8,8,8,8,8,8,8,8,8,8,8,8,8,8,8,8,8,8,8,8,8,8,8,8,8,8,8,8,8,8,8,8,8,8,8,8,8,8,8,8,8,8,8,8,8,8,8,8,8,8,8,8,8,8,8,8,8,8,8,8,8,8,8,8,8,8,8,8,8,8,8,8,8,8,8,8,8,8,8,8,8,8,8,8,8,8,8,8,8,8,8]
def len8 (v:Nat):Nat:=((lens[v]?).getD 0).toNat
def ir (x:Nat):Nat :=
 if 65536<=x then (if 256<=x/65536 then 24+len8 (x/65536/256) else 16+len8 (x/65536)) else (if 256<=x then 8+len8 (x/256) else len8 x)
set_option maxRecDepth 100000 in
theorem QX {v:Nat} (h:v<256):lens[v]? = some ((lens[v]?).getD 0):=by
 have:v<lens.length:=h
 rw [List.getElem?_eq_getElem this];rfl
theorem xJ (v:Nat):len8 v<256:=(((lens[v]?).getD 0)).toNat_lt
set_option maxRecDepth 100000 in
theorem QY:(List.range 256).all (fun v=>v==0||(decide (v<2 ^ len8 v)&&decide (2 ^ len8 v<=2*v)))=true:=by decide
theorem xK {v:Nat} (h:v<256) (h0:0<v):v<2 ^ len8 v/\2 ^ len8 v<=2*v:=by
 have:=List.all_eq_true.1 QY v (List.mem_range.2 h)
 simp only [Bool.or_eq_true,Bool.and_eq_true,beq_iff_eq,decide_eq_true_eq] at this
 rcases this with h1 | h1
 . omega
 . exact h1
theorem wa {x a k j:Nat} (he:a=x/2 ^ j) (h:a<2 ^ k/\2 ^ k<=2*a):x<2 ^ (j+k)/\2 ^ (j+k)<=2*x:=by
 subst he
 have hp:=Nat.two_pow_pos j
 refine ⟨?_, ?_⟩
 . have:=(Nat.div_lt_iff_lt_mul hp).1 h.1
   rwa [Nat.pow_add,Nat.mul_comm]
 . have h1:=Nat.mul_le_mul_left (2 ^ j) h.2
   have h2:=Nat.mul_div_le x (2 ^ j)
   rw [Nat.pow_add,Nat.mul_left_comm] at *
   omega
theorem xL {x:Nat} (h:x<au) (h0:0<x):x<2 ^ ir x/\2 ^ ir x<=2*x:=by
 unfold au at h
 unfold ir
 by_cases h1:65536<=x
 . by_cases h2:256<=x/65536
   . rw [if_pos h1,if_pos h2]
     exact wa (j:=24) (a:=x/65536/256) (by rw [Nat.div_div_eq_div_mul]) (xK (by omega) (by omega))
   . rw [if_pos h1,if_neg h2]
     exact wa (j:=16) (a:=x/65536) rfl (xK (by omega) (by omega))
 . by_cases h2:256<=x
   . rw [if_neg h1,if_pos h2]
     exact wa (j:=8) (a:=x/256) rfl (xK (by omega) (by omega))
   . rw [if_neg h1,if_neg h2]
     exact xK (by omega) h0
section
variable {P:Program} {G:Nat->Option (List AV)}
set_option maxRecDepth 100000 in
theorem QZ {f:FuncId} (h:Has P f lK) (x:Nat) (hx:x<au):VP P G f [.int .u32 (x:Int)] (.int .i64 (ir x:Int)):=by
 refine VP.has h ?_
 have s16:bn .shr .int (.int .u32 (x:Int)) (.int .u64 16)=some (.int .u32 ((x/65536:Nat):Int)):=by
   rw [po (by decide)]
   have:(x:Int).fdiv (2 ^ (min (16:Int).toNat IntKind.u32.bits))=((x/65536:Nat):Int):=by
     show (x:Int).fdiv (2 ^ 16)=_
     rw [Int.fdiv_eq_ediv_of_nonneg _ (by decide)];omega
   rw [this]
 have s8:∀ y:Nat,bn .shr .int (.int .u32 (y:Int)) (.int .u64 8)=some (.int .u32 ((y/256:Nat):Int)):=fun y=>by
   rw [po (by decide)]
   have:(y:Int).fdiv (2 ^ (min (8:Int).toNat IntKind.u32.bits))=((y/256:Nat):Int):=by
     show (y:Int).fdiv (2 ^ 8)=_
     rw [Int.fdiv_eq_ediv_of_nonneg _ (by decide)];omega
   rw [this]
 have w8:∀ y:Nat,y<256->IntKind.u8.wrap (y:Int)=(y:Int):=fun y h=>by rw [IntKind.wrap_u8'];omega
 have wl:∀ y:Nat,IntKind.i64.wrap ((len8 y:Nat):Int)=((len8 y:Nat):Int):=fun y=>by have:=xJ y;rw [IntKind.wrap_i64];omega
 have hix:∀ (p:Id) (σ : aa) (y:Nat),y<256->bu σ p (.indexS (.str [0,1,2,2,3,3,3,3,4,4,4,4,4,4,4,4,5,5,5,5,5,5,5,5,5,5,5,5,5,5,5,5,6,6,6,6,6,6,6,6,6,6,6,6,6,6,6,6,6,6,6,6,6,6,6,6,6,6,6,6,6,6,6,6,7,7,7,7,7,7,7,7,7,7,7,7,7,7,7,7,7,7,7,7,7,7,7,7,7,7,7,7,7,7,7,7,7,7,7,7,7,7,7,7,7,7,7,7,7,7,7,7,7,7,7,7,7,7,7,7,7,7,7,7,7,7,7,7,8,8,8,8,8,8,8,8,8,8,8,8,8,8,8,8,8,8,8,8,8,8,8,8,8,8,8,8,8,8,8,8,8,8,8,8,8,8,8,8,8,8,8,8,8,8,8,8,8,8,8,8,8,8,8,8,8,8,8,8,8,8,8,8,8,8,8,8,8,8,8,8,8,8,8,8,8,8,8,8,8,8,8,8,8,8,8,8,8,8,8,8,8,8,8,8,8,8,8,8,8,8,8,8,8,8,8,8,8,8,8,8,8,8,8,8,8,8,8,8,8,8,8,8,8,8,8,8]) (.int .u8 (y:Int)))=some { val := .int .u8 ((len8 y:Nat):Int) }:=fun p σ y h=>by
   show bu σ p (.indexS (.str lens) (.int .u8 (y:Int)))=_
   rw [vR,if_pos (by omega),Int.toNat_natCast,QX h];rfl
 have hB:x<4294967296:=hx
 simp only [lK]
 by_cases h1:65536<=x
 . have d1:decide ((65536:Int)<=(x:Int))=true:=ai (by omega)
   by_cases h2:256<=x/65536
   . have d2:decide ((256:Int)<=((x/65536:Nat):Int))=true:=ai (by omega)
     have hb:x/65536/256<256:=by omega
     have e:ir x=24+len8 (x/65536/256):=by unfold ir;rw [if_pos h1,if_pos h2]
     have e1:IntKind.i64.wrap ((16:Int)+8)=24:=by rw [IntKind.wrap_i64];omega
     have e2:IntKind.i64.wrap ((24:Int)+((len8 (x/65536/256):Nat):Int))=((24+len8 (x/65536/256):Nat):Int):=by have:=xJ (x/65536/256);rw [IntKind.wrap_i64];omega
     simp only [SS,Nat.reduceAdd,d1,d2,s16,s8,w8 _ hb,hix _ _ _ hb,wl,e1,e2]
     rw [e];exact ah▸ae rfl (af.int _ _)
   . have d2:decide ((256:Int)<=((x/65536:Nat):Int))=false:=ag (by omega)
     have hb:x/65536<256:=by omega
     have e:ir x=16+len8 (x/65536):=by unfold ir;rw [if_pos h1,if_neg h2]
     have e2:IntKind.i64.wrap ((16:Int)+((len8 (x/65536):Nat):Int))=((16+len8 (x/65536):Nat):Int):=by have:=xJ (x/65536);rw [IntKind.wrap_i64];omega
     simp only [SS,Nat.reduceAdd,d1,d2,s16,w8 _ hb,hix _ _ _ hb,wl,e2]
     rw [e];exact ah▸ae rfl (af.int _ _)
 . have d1:decide ((65536:Int)<=(x:Int))=false:=ag (by omega)
   by_cases h2:256<=x
   . have d2:decide ((256:Int)<=(x:Int))=true:=ai (by omega)
     have hb:x/256<256:=by omega
     have e:ir x=8+len8 (x/256):=by unfold ir;rw [if_neg h1,if_pos h2]
     have e1:IntKind.i64.wrap ((0:Int)+8)=8:=by rw [IntKind.wrap_i64];omega
     have e2:IntKind.i64.wrap ((8:Int)+((len8 (x/256):Nat):Int))=((8+len8 (x/256):Nat):Int):=by have:=xJ (x/256);rw [IntKind.wrap_i64];omega
     simp only [SS,Nat.reduceAdd,d1,d2,s8,w8 _ hb,hix _ _ _ hb,wl,e1,e2]
     rw [e];exact ah▸ae rfl (af.int _ _)
   . have d2:decide ((256:Int)<=(x:Int))=false:=ag (by omega)
     have hb:x<256:=by omega
     have e:ir x=len8 x:=by unfold ir;rw [if_neg h1,if_neg h2]
     have e2:IntKind.i64.wrap ((0:Int)+((len8 x:Nat):Int))=((len8 x:Nat):Int):=by have:=xJ x;rw [IntKind.wrap_i64];omega
     simp only [SS,Nat.reduceAdd,d1,d2,w8 _ hb,hix _ _ _ hb,wl,e2]
     rw [e];exact ah▸ae rfl (af.int _ _)
end
section
variable {P:Program} {G:Nat->Option (List AV)}
theorem Ez {f:FuncId} (h:Has P f aQ) {es:List AV} (hk:∀ e∈es,e.size=1) (h1:(es.all fun e=>e.cells.all AV.one)=true) (hp:∀ c∈flat es,af c) (hl:es.length*4<=140737488355328):VP P G f [.sl 1 es] (.sl 1 es):=by
 refine VP.has h ?_
 have hb:∀ (σ : aa) (p:Id),bu σ p (.buildSl 1 0 (.int .u32 0) [])=some { val := .tsl 1 [] }:=fun σ p=>Wp rfl rfl
 cases es with
 | nil =>
   simp only [aQ,SS,Nat.reduceAdd]
   refine ⟨?_, ?_⟩
   . exact ah▸⟨.nils,rfl,View.nils 1⟩
   . simp only [SS,Nat.reduceAdd,hb,gR dM]
     exact ah▸⟨_,rfl,View.FK 1⟩
 | cons e es =>
   simp only [aQ,SS,Nat.reduceAdd,hb]
   rw [cY (es:=[]) dM (by simp) (by simpa using hl) (bE (by simp at hl ⊢;omega)) (by simpa using h1)]
   simp only [SS,Nat.reduceAdd]
   refine ah▸⟨_,rfl,View.osl (bk:=⟨e::es,1,false⟩) rfl rfl (by simp) ?_ (by simp) hk⟩
   simpa using aI.pure hp
theorem EA {f:FuncId} (h:Has P f aQ) (n:Nat) (hn:ab n<=1000000):VP P G f [W n] (W n) :=
 Ez h (uC _) (y2 _) (qE _) (by rw [dD];show ab n*4<=_;omega)
end
theorem Ca (z:Int):iL (decide (z<0)) z.natAbs=z:=by
 unfold iL
 by_cases h:z<0
 . simp only [h,decide_true,if_true];omega
 . simp only [h,decide_false,Bool.false_eq_true,if_false];omega
theorem MH (z:Int):iL (!decide (z<0)) z.natAbs = -z:=by
 unfold iL
 by_cases h:z<0
 . simp only [h,decide_true,Bool.not_true,Bool.false_eq_true,if_false];omega
 . simp only [h,decide_false,Bool.not_false,if_true];omega
theorem MI (y z:Int):iL (!(decide (y<0)==decide (z<0))) (y.natAbs*z.natAbs)=y*z:=by
 rw [<- Int.natAbs_mul]
 unfold iL
 by_cases h:y<0<;>by_cases h2:z<0
 . have:=Int.mul_pos_of_neg_of_neg h h2
   simp [h,h2];omega
 . have h3:y*z<=0:=Int.mul_nonpos_of_nonpos_of_nonneg (by omega) (by omega)
   simp [h,h2];omega
 . have h3:y*z<=0:=Int.mul_nonpos_of_nonneg_of_nonpos (by omega) (by omega)
   simp [h,h2];omega
 . have h3:0<=y*z:=Int.mul_nonneg (by omega) (by omega)
   simp [h,h2];omega
theorem uF:((AV.cells (.agg [(.bool false), .nils])).all AV.one=true)=True:=by simp [AV.cells,AV.one]
theorem xM (σ : aa) (id:Id) (k:Nat) (z:Int):eO (σ.put id (some ⟨[.agg [.bool false, .nils]],k,false⟩)) 2 (.ref id 0 0) (IV z)=some { val := .tup [],rd:=[id],up:=[(id,some ⟨[IV z],k,false⟩)] }:=by
 rw [dw (n:=2) (v:=IV z) (els:=[.agg [.bool false, .nils]]) (k:=k) (aa.a6 _ _ _) rfl rfl (by simp [AV.size,AV.cells]) rfl]
 rfl
section
variable {P:Program} {G:Nat->Option (List AV)}
theorem nD {ft:FuncId} (ht:gU P G ft) (n:Nat) (hn:ab n<=9223372036854775807):VP P G ft [W n] (W n):=by
 have:=ht (digits n) (aK n) hn
 rw [aH] at this;exact this
def iM (P:Program) (G:Nat->Option (List AV)) (f:FuncId):Prop:=∀ (neg:Bool) (n:Nat),ab n<=9223372036854775807->VP P G f [.bool neg,W n] (IV (iL neg n))
theorem mn (n:Nat) (hn:n<18446744073709551616):ab n<=2:=iK (by unfold au;omega)
end
theorem od (a b:Int):iy a b = -1/\a<b∨iy a b=0/\a=b∨iy a b=1/\b<a:=by
 unfold iy
 by_cases h1:a<b
 . simp [h1]
 . by_cases h2:b<a
   . simp [h1,h2]
   . right;left;simp [h1,h2];omega
theorem ki (z:Int):z.sign = -1/\z<0∨z.sign=0/\z=0∨z.sign=1/\0<z:=by
 rcases Int.lt_trichotomy z 0 with h | h | h
 . exact .inl ⟨Int.sign_eq_neg_one_of_neg h,h⟩
 . exact .inr (.inl ⟨by rw [h];rfl,h⟩)
 . exact .inr (.inr ⟨Int.sign_eq_one_of_pos h,h⟩)
theorem Oi {y z:Int} (h:y.sign≠z.sign):iy y.sign z.sign=iy y z:=by
 rcases od y z with ⟨e,c⟩ | ⟨e,c⟩ | ⟨e,c⟩<;>rcases od y.sign z.sign with ⟨e2,c2⟩ | ⟨e2,c2⟩ | ⟨e2,c2⟩<;>rcases ki y with ⟨s,p⟩ | ⟨s,p⟩ | ⟨s,p⟩<;>rcases ki z with ⟨s2,p2⟩ | ⟨s2,p2⟩ | ⟨s2,p2⟩<;>omega
theorem Ur {y z:Int} (h:y.sign=z.sign):y.sign*gr y.natAbs z.natAbs=iy y z:=by
 unfold gr
 rcases od y z with ⟨e,c⟩ | ⟨e,c⟩ | ⟨e,c⟩<;>rcases od (y.natAbs:Int) (z.natAbs:Int) with ⟨e2,c2⟩ | ⟨e2,c2⟩ | ⟨e2,c2⟩<;>rcases ki y with ⟨s,p⟩ | ⟨s,p⟩ | ⟨s,p⟩<;>rcases ki z with ⟨s2,p2⟩ | ⟨s2,p2⟩ | ⟨s2,p2⟩<;>rw [s,e2,e]<;>omega
def RV (a b:Int):AV := .agg [.bool (decide (a<0)),W a.natAbs, .bool (decide (b<0)),W b.natAbs]
theorem mF (a b:Int):af (RV a b):=af.agg (by intro c hc;simp at hc;rcases hc with rfl | rfl | rfl | rfl;exact af.bool _;exact bp _;exact af.bool _;exact bp _)
theorem Cb (a b:Int):((RV a b).cells.all AV.one=true)=True:=by simp [RV,AV.cells,AV.one,W]
theorem Q1 (a b:Int):part true (RV a b).cells 0 2=some (IV a):=rfl
theorem Wu (a b:Int):part true (RV a b).cells 2 2=some (IV b):=rfl
theorem y8:((AV.cells (.agg [(.bool false), .nils,(.bool false), .nils])).all AV.one=true)=True:=by simp [AV.cells,AV.one]
section
variable {P:Program} {G:Nat->Option (List AV)}
theorem Q2 {f fi:FuncId} (h:Has P f (nc fi)) (a b:Int) (hi:VP P G fi [IV a] (.int .i64 a.sign)):VP P G f [RV a b] (.int .i64 a.sign):=by
 refine VP.has h ?_
 simp only [nc,SS,Nat.reduceAdd,Cb,ak,Q1]
 refine aj hi (by simp [kA]) ?_
 simp only [SS,Nat.reduceAdd]
 exact ah▸ae rfl (af.int _ _)
end
theorem y9 {σ : aa} {id:Id} {k:Nat} {z:Int} {y:AV} (hs:y.size=2) (hu:y.upd 0 (IV z).cells=IV z) (h : σ id=some ⟨[y],k,false⟩):eO σ 2 (.ref id 0 0) (IV z)=some { val := .tup [],rd:=[id],up:=[(id,some ⟨[IV z],k,false⟩)] }:=by
 rw [dw (n:=2) (v:=IV z) h rfl rfl (by rw [hs];exact Nat.le_refl _) rfl]
 simp [hu]
theorem XO (y z:Int):(IV y).upd 0 (IV z).cells=IV z:=rfl
theorem Wv (z:Int):(AV.agg [.bool false, .nils]).upd 0 (IV z).cells=IV z:=rfl
theorem wb {α : Type} {a b c : α}:[a,b,c][0]? = some a:=rfl
theorem we {α : Type} {a b c : α}:[a,b,c][1]? = some b:=rfl
theorem wh {α : Type} {a b c : α}:[a,b,c][2]? = some c:=rfl
def JS (a b:Int):Bool := !(decide (a<0)==decide (b<0))
def dmq (a b:Int):Nat:=if JS a b=true/\0<a.natAbs%b.natAbs then a.natAbs/b.natAbs+1 else a.natAbs/b.natAbs
def dmr (a b:Int):Nat:=if JS a b=true/\0<a.natAbs%b.natAbs then b.natAbs-a.natAbs%b.natAbs else a.natAbs%b.natAbs
theorem Cc:digits 1=[1]:=by rw [iw (by decide),show 1/au=0 from rfl,bh];rfl
theorem Q3 {id:Id} {b t:Bool}:View (aa.of [(id,⟨us [1],1,b⟩)]) (.osl id 1 0 1 t) (W 1):=by
 unfold W;rw [Cc];exact gC rfl
theorem Ie (m n:Nat):ab (m/n)<=ab m:=c9 (Nat.div_le_self _ _)
theorem xN (m n:Nat):ab (m%n)<=ab m:=c9 (Nat.mod_le _ _)
theorem Oj (m:Nat):ab (m+1)<=ab m+1:=iK (by
 have h1:=cG m
 rw [Nat.pow_succ]
 have h2:au ^ ab m*2<=au ^ ab m*au:=Nat.mul_le_mul_left _ (by decide)
 omega)
theorem qG:ab 1<=1:=by unfold ab;rw [Cc];decide
theorem wi {α : Type} {a b : α}:[a,b][0]? = some a:=rfl
theorem wj {α : Type} {a b : α}:[a,b][1]? = some b:=rfl
theorem F3 {a b q r:Int} (hb:0<b) (h:a=b*q+r) (h0:0<=r) (h1:r<b):a.fdiv b=q/\a.fmod b=r:=by
 have:=(Int.ediv_emod_unique (a:=a) (b:=b) (r:=r) (q:=q) hb).2 ⟨by omega,h0,h1⟩
 rw [Int.fdiv_eq_ediv_of_nonneg _ (Int.le_of_lt hb),Int.fmod_eq_emod_of_nonneg _ (Int.le_of_lt hb)]
 exact this
theorem XP (a b:Int):a.fdiv b=(-a).fdiv (-b)/\a.fmod b = -((-a).fmod (-b)):=by
 have h1:(-a).fdiv (-b)=a.fdiv b:=Int.neg_fdiv_neg a b
 refine ⟨h1.symm, ?_⟩
 have h2:=Int.mul_fdiv_add_fmod a b
 have h3:=Int.mul_fdiv_add_fmod (-a) (-b)
 rw [h1,Int.neg_mul] at h3
 omega
theorem Us {m n:Nat} (hn:n≠0):((m:Int).fdiv n=(m/n:Nat)/\(m:Int).fmod n=(m%n:Nat)) /\
   (m%n=0->(-(m:Int)).fdiv n = -((m/n:Nat):Int)/\(-(m:Int)).fmod n=0)/\(0<m%n->(-(m:Int)).fdiv n = -((m/n+1:Nat):Int)/\(-(m:Int)).fmod n=((n-m%n:Nat):Int)):=by
 have hlt:m%n<n:=Nat.mod_lt _ (Nat.pos_of_ne_zero hn)
 have e:(m:Int)=(n:Int)*((m/n:Nat):Int)+((m%n:Nat):Int):=by
   rw [<- Int.natCast_mul, <- Int.natCast_add,Nat.div_add_mod]
 generalize m/n=q at *
 generalize m%n=r at *
 refine ⟨F3 (by omega) e (by omega) (by omega),fun h=>F3 (by omega) ?_ (by omega) (by omega),fun h=>F3 (by omega) ?_ (by omega) (by omega)⟩
 . rw [Int.mul_neg];omega
 . rw [Int.mul_neg,Int.natCast_add,Int.mul_add];omega
theorem Q4 (a b:Int) (hb:b≠0):iL (JS a b) (dmq a b)=a.fdiv b/\iL (decide (b<0)) (dmr a b)=a.fmod b:=by
 have hbn:b.natAbs≠0:=by omega
 obtain ⟨⟨c1,c2⟩,c3,c4⟩:=Us (m:=a.natAbs) hbn
 unfold dmq dmr
 by_cases h1:b<0
 . have eb : -b=(b.natAbs:Int):=by omega
   obtain ⟨n1,n2⟩:=XP a b
   rw [n1,n2,eb]
   by_cases h2:a<0
   . have ea : -a=(a.natAbs:Int):=by omega
     have hd:JS a b=false:=by simp [JS,h1,h2]
     rw [ea,c1,c2,hd]
     simp [iL,h1]
   . have ea : -a = -(a.natAbs:Int):=by omega
     have hd:JS a b=true:=by simp [JS,h1,h2]
     rw [ea,hd]
     by_cases hr:0<a.natAbs%b.natAbs
     . rw [(c4 hr).1,(c4 hr).2,if_pos ⟨rfl,hr⟩,if_pos ⟨rfl,hr⟩]
       simp [iL,h1]
     . have h0:a.natAbs%b.natAbs=0:=by omega
       rw [(c3 h0).1,(c3 h0).2,if_neg (fun e=>hr e.2),if_neg (fun e=>hr e.2),h0]
       simp [iL,h1]
 . have eb:b=(b.natAbs:Int):=by omega
   have Fu:decide (b<0)=false:=ag h1
   by_cases h2:a<0
   . have ea:a = -(a.natAbs:Int):=by omega
     have hd:JS a b=true:=by simp [JS,h1,h2]
     rw [hd,Fu]
     by_cases hr:0<a.natAbs%b.natAbs
     . have q1:=(c4 hr).1
       have q2:=(c4 hr).2
       rw [<- ea, <- eb] at q1 q2
       rw [q1,q2,if_pos ⟨rfl,hr⟩,if_pos ⟨rfl,hr⟩]
       exact ⟨rfl,rfl⟩
     . have h0:a.natAbs%b.natAbs=0:=by omega
       have q1:=(c3 h0).1
       have q2:=(c3 h0).2
       rw [<- ea, <- eb] at q1 q2
       rw [q1,q2,if_neg (fun e=>hr e.2),if_neg (fun e=>hr e.2),h0]
       exact ⟨rfl,rfl⟩
   . have ea:a=(a.natAbs:Int):=by omega
     have hd:JS a b=false:=by simp [JS,h1,h2]
     rw [<- ea, <- eb] at c1 c2
     rw [c1,c2,hd,Fu]
     simp [iL]
theorem za {σ : aa} {id:Id} {k:Nat} {a b:Int} (h : σ id=some ⟨[.agg [.bool false, .nils, .bool false, .nils]],k,false⟩):eO σ 4 (.ref id 0 0) (RV a b)=some { val := .tup [],rd:=[id],up:=[(id,some ⟨[RV a b],k,false⟩)] }:=by
 rw [dw (n:=4) (v:=RV a b) h rfl rfl (by simp [AV.size,AV.cells]) rfl]
 rfl
def IR (neg:Bool) (ws:List Nat):AV := .agg [.bool neg, .sl 1 (us ws)]
theorem zb (neg:Bool) (ws:List Nat):((IR neg ws).cells.all AV.one=true)=True:=by simp [IR,AV.cells,AV.one]
theorem aaS (neg:Bool) (ws:List Nat):part false (IR neg ws).cells 0 1=some (.bool neg):=rfl
theorem Ww (neg:Bool) (ws:List Nat):part false (IR neg ws).cells 1 1=some (.sl 1 (us ws)):=rfl
def fj (neg:Bool) (ws:List Nat):Bool:=if ws=[] then !neg else decide (ws[ws.length-1]?.getD 0≠0)
theorem EB {neg:Bool} {ws:List Nat} (hw:Wd ws) (h:fj neg ws=true):IR neg ws=IV (iL neg (val ws)):=by
 unfold fj at h
 by_cases h0:ws=[]
 . subst h0
   rw [if_pos rfl] at h
   have:neg=false:=by simpa using h
   subst this
   simp [IR,IV,iL,val,W,bh,us]
 . rw [if_neg h0] at h
   have hl:0<ws.length:=List.length_pos_iff.2 h0
   obtain ⟨w,th⟩:∃ w,ws[ws.length-1]? = some w:=⟨_,List.getElem?_eq_getElem (by omega)⟩
   rw [th] at h
   have hwz:w≠0:=by simpa using h
   have hd:digits (val ws)=ws:=kh hw (.inr ⟨w,by rw [List.getLast?_eq_getElem?];exact th,hwz⟩)
   have hne:val ws≠0:=fun e=>h0 (by rw [<- hd,e,bh])
   have e1:decide (iL neg (val ws)<0)=neg:=by cases neg<;>simp [iL]<;>omega
   have e2:(iL neg (val ws)).natAbs=val ws:=by cases neg<;>simp [iL]
   unfold IV IR W
   rw [e1,e2,hd]
section
variable {P:Program} {G:Nat->Option (List AV)}
theorem Ol {f:FuncId} (h:Has P f nb) (neg:Bool) (ws:List Nat) (hl:ws.length<=9223372036854775807):VP P G f [IR neg ws] (.bool (fj neg ws)):=by
 refine VP.has h ?_
 have hlen:ky false (.sl 1 (us ws))=some (.int .i64 ws.length):=by simp [ky,dD]
 simp only [nb,SS,Nat.reduceAdd,zb,ak,Ww,hlen]
 by_cases h0:ws=[]
 . have d0:decide ((ws.length:Int)=0)=true:=ai (by rw [h0];rfl)
   have d1:decide ((0:Int)<(ws.length:Int))=false:=ag (by rw [h0];simp)
   have e:fj neg ws = !neg:=by unfold fj;rw [if_pos h0]
   rw [e]
   cases neg <;>
   . simp only [SS,Nat.reduceAdd,d0,d1,ak,aaS]
     exact ah▸ae rfl (af.bool _)
 . have mK:0<ws.length:=List.length_pos_iff.2 h0
   have d0:decide ((ws.length:Int)=0)=false:=ag (by omega)
   have d1:decide ((0:Int)<(ws.length:Int))=true:=ai (by omega)
   obtain ⟨w,hw⟩:∃ w,ws[ws.length-1]? = some w:=⟨_,List.getElem?_eq_getElem (by omega)⟩
   have hp:=pZ ws.length mK hl
   have e:fj neg ws=decide ((w:Int)≠0):=by unfold fj;rw [if_neg h0,hw];simp
   rw [e]
   simp only [SS,Nat.reduceAdd,d0,d1,ak,Ww,hp,aN rfl (tI hw),ax,bl]
   exact ah▸ae rfl (af.bool _)
end
def RR (n1:Bool) (w1:List Nat) (n2:Bool) (w2:List Nat):AV := .agg [.bool n1, .sl 1 (us w1), .bool n2, .sl 1 (us w2)]
theorem uG (neg:Bool) (ws:List Nat):af (IR neg ws):=af.agg (by intro c hc;simp at hc;rcases hc with rfl | rfl;exact af.bool _;exact kz _)
theorem Ce (n1:Bool) (w1:List Nat) (n2:Bool) (w2:List Nat):((RR n1 w1 n2 w2).cells.all AV.one=true)=True:=by simp [RR,AV.cells,AV.one]
theorem Wx (n1:Bool) (w1:List Nat) (n2:Bool) (w2:List Nat):part true (RR n1 w1 n2 w2).cells 0 2=some (IR n1 w1):=rfl
theorem Q5 (n1:Bool) (w1:List Nat) (n2:Bool) (w2:List Nat):part true (RR n1 w1 n2 w2).cells 2 2=some (IR n2 w2):=rfl
section
variable {P:Program} {G:Nat->Option (List AV)}
theorem Om {f fv fs fg fo:FuncId} (h:Has P f (mj fv fs fg fo)) (n1:Bool) (w1:List Nat) (n2:Bool) (w2:List Nat) (mW:Wd w1) (th:Wd w2) (g:Int)
   (l0:VP P G fv [IR n1 w1] (.bool (fj n1 w1))) (oG:VP P G fv [IR n2 w2] (.bool (fj n2 w2))) (hs:VP P G fs [IV (iL n2 (val w2))] (.int .i64 (iL n2 (val w2)).sign))
   (hg:0<iL n2 (val w2)->VP P G fg [IV (iL n1 (val w1)),IV (iL n2 (val w2))] (IV g)) (ho:VP P G fo [IV g] (.bool (decide (g=1)))) :
   VP P G f [RR n1 w1 n2 w2] (.bool (fj n1 w1&&fj n2 w2&&decide (0<iL n2 (val w2))&&decide (g=1))):=by
 refine VP.has h ?_
 simp only [mj,SS,Nat.reduceAdd,Ce,ak,Wx]
 refine aj l0 (by simp [uG]) ?_
 by_cases c1:fj n1 w1=true
 . have e1:=EB mW c1
   simp only [SS,Nat.reduceAdd,c1,ak,Q5,Bool.true_and]
   refine aj oG (by simp [uG]) ?_
   by_cases c2:fj n2 w2=true
   . have e2:=EB th c2
     simp only [SS,Nat.reduceAdd,c2,ak,Q5,Bool.true_and,e2]
     refine aj hs (by simp [kA]) ?_
     by_cases c3:0<iL n2 (val w2)
     . have d3:decide (0<(iL n2 (val w2)).sign)=true:=ai (by rw [Int.sign_eq_one_of_pos c3];decide)
       have d4:decide (0<iL n2 (val w2))=true:=ai c3
       simp only [SS,Nat.reduceAdd,d3,d4,ak,Wx,Q5,Bool.true_and,e1,e2]
       refine aj (hg c3) (by simp [kA]) ?_
       simp only [SS,Nat.reduceAdd]
       refine aj ho (by simp [kA]) ?_
       simp only [SS,Nat.reduceAdd]
       exact ah▸ae rfl (af.bool _)
     . have d3:decide (0<(iL n2 (val w2)).sign)=false:=ag (by rcases ki (iL n2 (val w2)) with ⟨e,p⟩ | ⟨e,p⟩ | ⟨e,p⟩<;>omega)
       have d4:decide (0<iL n2 (val w2))=false:=ag c3
       simp only [SS,Nat.reduceAdd,d3,d4,Bool.false_and]
       exact ah▸ae rfl (af.bool _)
   . have c2':fj n2 w2=false:=by simpa using c2
     simp only [SS,Nat.reduceAdd,c2',Bool.false_and]
     exact ah▸ae rfl (af.bool _)
 . have c1':fj n1 w1=false:=by simpa using c1
   simp only [SS,Nat.reduceAdd,c1',Bool.false_and]
   exact ah▸ae rfl (af.bool _)
end
theorem pz {n:Nat} (h:ab n<=2):n<18446744073709551616:=by
 have h1:=cG n
 have h2:au ^ ab n<=au ^ 2:=Nat.pow_le_pow_right cP h
 have h3:au ^ 2=18446744073709551616:=by decide
 omega
theorem tM {x y g:Nat} (hg:Nat.gcd x y=g):Nat.gcd y (x%y)=g:=by rw [<- hg,Nat.gcd_comm y, <- Nat.gcd_rec,Nat.gcd_comm]
theorem mo (n:Nat):iL false n=(n:Int):=by simp [iL]
section
variable {P:Program} {G:Nat->Option (List AV)}
theorem XQ {f ft fd fc fs ftu fu:FuncId} (h:Has P f (pX ft fd fc fs ftu fu)) (ht:gU P G ft) (hd:∀ m n,n≠0->ab m<=900000->ab n<=900000->VP P G fd [W m,W n] (.tup [W (m/n),W (m%n)]))
   (hc:∀ n,ab n<=1000000->VP P G fc [W n] (W n)) (hs:iM P G fs) (Wy:∀ n,n<18446744073709551616->VP P G ftu [W n] (.int .u64 ((n:Nat):Int))) (hu:∀ n,n<18446744073709551616->VP P G fu [.int .u64 ((n:Nat):Int)] (W n))
   (a b:Int) (ha:ab a.natAbs<=900000) (hb:ab b.natAbs<=900000):VP P G f [IV a,IV b] (IV (Nat.gcd a.natAbs b.natAbs:Nat)):=by
 refine VP.has h ?_
 have lG:([0]:List Nat)≠[1]:=by decide
 have k02:([0]:List Nat)≠[2]:=by decide
 have k12:([1]:List Nat)≠[2]:=by decide
 simp only [pX,SS,DD,Nat.reduceAdd,y5,uF,ay lG,ay k02,ak,z7]
 refine dG (nD ht a.natAbs (by omega)) (by simp [bp]) ?_
 simp only [SS,DD,Nat.reduceAdd,ay k12,ak,z7]
 refine dG (nD ht b.natAbs (by omega)) (by simp [bp]) ?_
 simp only [SS,DD,Nat.reduceAdd]
 refine ⟨by simp [aJ,apart], ?_⟩
 simp only [az]
 refine VW.bG (α := Nat × Nat × Nat) (fun x=>⟨[IV a,IV b, .top, .top, .ref [2] 0 0,W x.1,W x.2.1]++List.replicate 50 .top,
   aa.put (fun _=>none) [2] (some ⟨[.agg [.bool false, .nils]],(AV.agg [.bool false, .nils]).size,false⟩),x.2.2⟩)
   (fun x=>Nat.gcd x.1 x.2.1=Nat.gcd a.natAbs b.natAbs/\ab x.1<=900000/\ab x.2.1<=900000) (fun x=>x.2.1) (a.natAbs,b.natAbs,1000) ?_ ?_ ?_
 . exact Wk.forget (by simp [Fg,List.replicate]) (fun j=>by simp only [aa.put];split<;>simp_all) (by simp only [];omega)
 . exact ⟨rfl,ha,hb⟩
 rintro ⟨x,y,nn⟩ ⟨hg,hx,hy⟩
 simp only [] at hg hx hy
 have g1:2<ab y->decide ((2:Int)<(ab y:Int))=true:=fun h=>ai (by omega)
 have g2 : ¬ 2<ab y->decide ((2:Int)<(ab y:Int))=false:=fun h=>ag (by omega)
 have g3:2<ab x->decide ((2:Int)<(ab x:Int))=true:=fun h=>ai (by omega)
 have g4 : ¬ 2<ab x->decide ((2:Int)<(ab x:Int))=false:=fun h=>ag (by omega)
 have g5:0<ab y->decide ((0:Int)<(ab y:Int))=true:=fun h=>ai (by omega)
 have g6 : ¬ 0<ab y->decide ((0:Int)<(ab y:Int))=false:=fun h=>ag (by omega)
 have e1:0<ab y->decide ((ab y:Int)=0)=false:=fun h=>ag (by omega)
 have e2 : ¬ 0<ab y->decide ((ab y:Int)=0)=true:=fun h=>ai (by omega)
 have Ut:0<ab y->y≠0:=fun h e=>by have:=bC.2 e;omega
 have C4 : ¬ 0<ab y->y=0:=fun h=>bC.1 (by omega)
 have Z7:2<ab y->0<ab y:=fun h=>by omega
 have w1:=xN x y
 have th:ab (x%y)<=900000:=by omega
 have Lw:ab x<=1000000:=by omega
 have hsx:ab x<=9223372036854775807:=by omega
 have Uu : ¬ 2<ab x->x<18446744073709551616:=fun h=>pz (by omega)
 have hyy : ¬ 2<ab y->y<18446744073709551616:=fun h=>pz (by omega)
 have Ig:∀ g,g<18446744073709551616->ab g<=9223372036854775807:=fun g h=>by have:=mn g h;omega
 clear w1
 simp only [SS,Nat.reduceAdd]
 by_cases c1:2<ab y
 . have mK:=Z7 c1
   have Q6:=hd x y (Ut mK) hx hy
   simp only [SS,Nat.reduceAdd,bc,g1 c1]
   refine aj Q6 (by simp [bp]) ?_
   simp only [SS,Nat.reduceAdd,wi,wj]
   exact ⟨(y,x%y,_),⟨tM hg,hy,th⟩,Nat.mod_lt _ (Nat.pos_of_ne_zero (Ut mK)),Wk.slots (by simp [Fg]) (Nat.le_refl _)⟩
 by_cases c3:0<ab y
 . by_cases c2:2<ab x
   . have Q6:=hd x y (Ut c3) hx hy
     simp only [SS,Nat.reduceAdd,bc,g2 c1,g3 c2,g5 c3]
     refine aj Q6 (by simp [bp]) ?_
     simp only [SS,Nat.reduceAdd,wi,wj]
     exact ⟨(y,x%y,_),⟨tM hg,hy,th⟩,Nat.mod_lt _ (Nat.pos_of_ne_zero (Ut c3)),Wk.slots (by simp [Fg]) (Nat.le_refl _)⟩
   . simp only [SS,Nat.reduceAdd,bc,g2 c1,g4 c2,e1 c3]
     refine aj (Wy x (Uu c2)) (by simp [bp]) ?_
     simp only [SS,Nat.reduceAdd]
     refine aj (Wy y (hyy c1)) (by simp [bp]) ?_
     simp only [SS,Nat.reduceAdd,az]
     refine VW.bG (α := Nat × Nat × Nat) (fun x=>⟨[IV a,IV b, .top, .top, .ref [2] 0 0, .top, .top, .top, .top, .int .u64 ((x.1:Nat):Int), .int .u64 ((x.2.1:Nat):Int)]++List.replicate 46 .top,
       aa.put (fun _=>none) [2] (some ⟨[.agg [.bool false, .nils]],(AV.agg [.bool false, .nils]).size,false⟩),x.2.2⟩)
       (fun x=>Nat.gcd x.1 x.2.1=Nat.gcd a.natAbs b.natAbs/\x.1<18446744073709551616/\x.2.1<18446744073709551616) (fun x=>x.2.1) (x,y,nn+1000) ?_ ?_ ?_
     . exact Wk.slots (by simp [Fg,List.replicate]) (by simp only [];omega)
     . exact ⟨hg,Uu c2,hyy c1⟩
     rintro ⟨u,v,mm⟩ ⟨GR,DV,hv'⟩
     simp only [] at GR DV hv'
     by_cases v0:v=0
     . subst v0
       have d0:decide (((0:Nat):Int)≠0)=false:=by decide
       rw [Nat.gcd_zero_right] at GR
       have dr:=hs false u (Ig u DV)
       rw [mo] at dr
       simp only [SS,Nat.reduceAdd,d0]
       refine aj (hu u DV) (by simp [af.int]) ?_
       simp only [SS,Nat.reduceAdd]
       refine aj dr (by simp [af.bool,bp]) ?_
       simp only [SS,Nat.reduceAdd,xM]
       rw [<- GR]
       refine ah▸ae (r:=IV (u:Int)) ?_ (kA _)
       simp only [RS,fY,iR,ak];rfl
     . have d0:decide ((v:Int)≠0)=true:=ai (by omega)
       have f1:=B9 u v v0
       have hlt:u%v<18446744073709551616:=Nat.lt_of_le_of_lt (Nat.mod_le _ _) DV
       simp only [SS,DD,Nat.reduceAdd,d0,f1]
       first
       | exact ⟨(v,u%v,_),⟨tM GR,hv',hlt⟩,Nat.mod_lt _ (Nat.pos_of_ne_zero v0),Wk.slots (by simp [Fg,List.replicate]) (Nat.le_refl _)⟩
       | exact ⟨by simp [aJ,apart],(v,u%v,_),⟨tM GR,hv',hlt⟩,Nat.mod_lt _ (Nat.pos_of_ne_zero v0),Wk.slots (by simp [Fg]) (Nat.le_refl _)⟩
 . have hyz:=C4 c3
   rw [hyz,Nat.gcd_zero_right] at hg
   have dr:=hs false x hsx
   rw [mo] at dr
   by_cases c2:2<ab x
   . simp only [SS,Nat.reduceAdd,bc,g2 c1,g3 c2,g6 c3,e2 c3]
     refine aj (hc x Lw) (by simp [bp]) ?_
     simp only [SS,Nat.reduceAdd]
     refine aj dr (by simp [af.bool,bp]) ?_
     simp only [SS,Nat.reduceAdd,xM]
     rw [<- hg]
     refine ah▸ae (r:=IV (x:Int)) ?_ (kA _)
     simp only [RS,fY,iR,ak];rfl
   . simp only [SS,Nat.reduceAdd,bc,g2 c1,g4 c2,e2 c3]
     refine aj (hc x Lw) (by simp [bp]) ?_
     simp only [SS,Nat.reduceAdd]
     refine aj dr (by simp [af.bool,bp]) ?_
     simp only [SS,Nat.reduceAdd,xM]
     rw [<- hg]
     refine ah▸ae (r:=IV (x:Int)) ?_ (kA _)
     simp only [RS,fY,iR,ak];rfl
end
section
variable {b M h l v' V num u2 u' U:Nat}
theorem aaU (hV:V=(h*b+l)*M+v'):V=h*(b*M)+l*M+v':=by rw [hV,Nat.add_mul,Nat.mul_assoc]
theorem aev (hU:U=(num*b+u2)*M+u'):U=num*(b*M)+u2*M+u':=by rw [hU,Nat.add_mul,Nat.mul_assoc]
theorem aaV (h2:u2<b) (h1:u'<M):u2*M+u'<b*M:=by
 have:(u2+1)*M<=b*M:=Nat.mul_le_mul_right _ h2
 rw [Nat.add_mul] at this;omega
theorem Ih (h0:0<h) (hV:V=(h*b+l)*M+v') (hU:U=(num*b+u2)*M+u') (h2:u2<b) (h1:u'<M):U/V<=num/h:=by
 have hbM:=aaV h2 h1
 have eV:=aaU hV
 have eU:=aev hU
 have PG:0<V:=by
   have:1*(b*M)<=h*(b*M):=Nat.mul_le_mul_right _ h0
   omega
 refine Nat.le_of_lt_succ ((Nat.div_lt_iff_lt_mul PG).2 ?_)
 have hq:num+1<=(num/h+1)*h:=by rw [Nat.mul_comm];exact Nat.lt_mul_div_succ num h0
 have h3:(num/h+1)*(h*(b*M))<=(num/h+1)*V:=Nat.mul_le_mul_left _ (by omega)
 have h4:(num+1)*(b*M)<=(num/h+1)*h*(b*M):=Nat.mul_le_mul_right _ hq
 rw [Nat.mul_assoc] at h4
 rw [Nat.add_mul] at h4
 show U<(num/h+1)*V
 omega
theorem Uv {q r:Nat} (hV:V=(h*b+l)*M+v') (hU:U=(num*b+u2)*M+u') (h1:u'<M) (hq:q*h+r=num) (ht:r*b+u2<q*l):U/V<=q-1:=by
 have h3:num*b+u2+1<=q*(h*b+l):=by
   rw [<- hq,Nat.add_mul,Nat.mul_add, <- Nat.mul_assoc];omega
 have h4:(num*b+u2+1)*M<=q*(h*b+l)*M:=Nat.mul_le_mul_right _ h3
 have h5:U<q*V:=by
   rw [hV,Nat.mul_add, <- Nat.mul_assoc]
   rw [Nat.add_mul] at h4
   omega
 have PG:0<V:=by
   rcases Nat.eq_zero_or_pos V with e | e
   . rw [e] at h5;simp at h5
   . exact e
 have:=(Nat.div_lt_iff_lt_mul PG).2 h5
 omega
theorem MJ {q r:Nat} (h0:0<h) (hV:V=(h*b+l)*M+v') (hU:U=(num*b+u2)*M+u') (hv:v'<M) (hqb:q<b) (hq:q*h+r=num) (ht:q*l<=r*b+u2):q<=U/V+1:=by
 have h3:q*(h*b+l)<=num*b+u2:=by
   rw [<- hq,Nat.add_mul,Nat.mul_add, <- Nat.mul_assoc];omega
 have h4:q*(h*b+l)*M<=(num*b+u2)*M:=Nat.mul_le_mul_right _ h3
 have h5:q*v'<=b*M:=by
   have a1:q*v'<=b*v':=Nat.mul_le_mul_right _ (Nat.le_of_lt hqb)
   have a2:b*v'<=b*M:=Nat.mul_le_mul_left _ (Nat.le_of_lt hv)
   omega
 have eV:=aaU hV
 have h6:1*(b*M)<=h*(b*M):=Nat.mul_le_mul_right _ h0
 have h7:q*V<=U+V:=by
   have:q*V=q*(h*b+l)*M+q*v':=by rw [hV,Nat.mul_add, <- Nat.mul_assoc]
   omega
 rcases Nat.eq_zero_or_pos q with e | e
 . rw [e];exact Nat.zero_le _
 . have h8:(q-1)*V<=U:=by
     have:q*V=(q-1)*V+V:=by
       have:=Nat.sub_add_cancel e
       calc q*V=(q-1+1)*V:=by rw [this]
         _=(q-1)*V+V:=by rw [Nat.add_mul,Nat.one_mul]
     omega
   have PG:0<V:=by
     have hM:0<M:=by omega
     have:0<b*M:=Nat.mul_pos (by omega) hM
     omega
   have:=(Nat.le_div_iff_mul_le PG).2 h8
   omega
theorem Q7 {q r:Nat} (hn:num<(h+1)*b) (hl:l<b) (hq:q*h+r=num) (hr:b<=r):q<b/\q*l<=r*b+u2:=by
 have hqb:q<b:=by
   rw [Nat.add_mul,Nat.one_mul] at hn
   have h1:q*h<b*h:=by rw [Nat.mul_comm b h];omega
   exact Nat.lt_of_mul_lt_mul_right h1
 refine ⟨hqb, ?_⟩
 have h1:q*l<=b*b:=Nat.mul_le_mul (Nat.le_of_lt hqb) (Nat.le_of_lt hl)
 have h2:b*b<=r*b:=Nat.mul_le_mul_right _ hr
 omega
theorem XR {q:Nat} (PG:0<V) (hle:U/V<=q) (Wz:q<=U/V+1):(U<q*V/\q=U/V+1∨q*V<=U/\q=U/V):=by
 by_cases h:U<q*V
 . left
   have:=(Nat.div_lt_iff_lt_mul PG).2 h
   exact ⟨h,by omega⟩
 . right
   have:=(Nat.le_div_iff_mul_le PG).2 (Nat.le_of_not_lt h)
   exact ⟨by omega,by omega⟩
end
theorem aaW {ds:List Nat} {j h l:Nat} (hw:Wd ds) (hl:ds.length=j+2) (h1:ds[j+1]? = some h) (h0:ds[j]? = some l) :
   val ds=(h*au+l)*au ^ j+val (ds.take j)/\val (ds.take j)<au ^ j:=by
 have e1:=aC h1
 have e0:=aC h0
 have e2:ds.take (j+1+1)=ds:=List.take_of_length_le (by omega)
 have h3:=kg (pw hw j)
 rw [List.length_take,Nat.min_eq_left (by omega)] at h3
 rw [e2,e0] at e1
 refine ⟨?_,h3⟩
 have e4:(h*au+l)*au ^ j=au ^ (j+1)*h+au ^ j*l:=by
   rw [Nat.add_mul,Nat.pow_succ,Nat.mul_comm l,Nat.mul_assoc,Nat.mul_comm h,Nat.mul_comm au]
 omega
theorem aaX {ds:List Nat} {j x2 x1 x0:Nat} (hw:Wd ds) (hl:ds.length=j+3) (h2:ds[j+2]? = some x2) (h1:ds[j+1]? = some x1) (h0:ds[j]? = some x0) :
   val ds=((x2*au+x1)*au+x0)*au ^ j+val (ds.take j)/\val (ds.take j)<au ^ j:=by
 have e2:=aC h2
 have e1:=aC h1
 have e0:=aC h0
 have e3:ds.take (j+2+1)=ds:=List.take_of_length_le (by omega)
 have h3:=kg (pw hw j)
 rw [List.length_take,Nat.min_eq_left (by omega)] at h3
 rw [e3,e1,e0] at e2
 refine ⟨?_,h3⟩
 have e4:((x2*au+x1)*au+x0)*au ^ j=au ^ (j+2)*x2+au ^ (j+1)*x1+au ^ j*x0:=by
   rw [Nat.add_mul,Nat.add_mul,Nat.add_mul,Nat.mul_comm x0]
   have a:au ^ (j+1)*x1=x1*au*au ^ j:=by rw [Nat.pow_succ,Nat.mul_comm,Nat.mul_assoc,Nat.mul_comm au]
   have b:au ^ (j+2)*x2=x2*au*au*au ^ j:=by
     have e:au ^ (j+2)=au ^ j*au*au:=by rw [show j+2=j+1+1 from rfl,Nat.pow_succ,Nat.pow_succ]
     rw [e]
     generalize au ^ j=Y
     generalize au=Z
     simp only [Nat.mul_comm,Nat.mul_left_comm]
   omega
 omega
theorem MK {x:Nat} (h:x<au) (h0:0<x):1<=ir x/\ir x<=32:=by
 obtain ⟨a,b⟩:=xL h h0
 constructor
 . rcases Nat.eq_zero_or_pos (ir x) with e | e
   . rw [e] at a;simp at a;omega
   . exact e
 . have h2:2 ^ ir x<2 ^ 33:=by unfold au at h;omega
   have:=(Nat.pow_lt_pow_iff_right (by decide:1<2)).1 h2
   omega
theorem xO {n x k:Nat} (hk:ab n=k+1) (hx:(digits n)[k]? = some x) :
   0<x/\x<au/\n*2 ^ (32-ir x)<au ^ (k+1)/\ab (n*2 ^ (32-ir x))=k+1/\32-ir x<=31:=by
 have oJ:=aK n x (List.mem_of_getElem? hx)
 have Og:0<x:=by
   rcases z6 (n:=n) with h | ⟨w,h,hw⟩
   . rw [h] at hx;simp at hx
   . rw [List.getLast?_eq_getElem?,show (digits n).length-1=k from by show ab n-1=k;omega,hx] at h
     simp only [Option.some.injEq] at h;omega
 obtain ⟨sE,Fu⟩:=MK oJ Og
 have tp:=(xL oJ Og).1
 have e:=aC hx
 rw [List.take_of_length_le (show (digits n).length<=k+1 from by show ab n<=k+1;omega),aH] at e
 have h3:=kg (pw (aK n) k)
 rw [List.length_take,Nat.min_eq_left (show k<=(digits n).length from by show k<=ab n;omega)] at h3
 have h4:n+1<=au ^ k*2 ^ ir x:=by
   have:au ^ k*(x+1)<=au ^ k*2 ^ ir x:=Nat.mul_le_mul_left _ tp
   rw [Nat.mul_add] at this;omega
 have h5:(n+1)*2 ^ (32-ir x)<=au ^ (k+1):=by
   have:=Nat.mul_le_mul_right (2 ^ (32-ir x)) h4
   rw [Nat.mul_assoc, <- Nat.pow_add,show ir x+(32-ir x)=32 from by omega] at this
   rw [Nat.pow_succ];exact this
 have hp:=Nat.two_pow_pos (32-ir x)
 have h6:n*2 ^ (32-ir x)<au ^ (k+1):=by rw [Nat.add_mul] at h5;omega
 refine ⟨Og,oJ,h6, ?_,by omega⟩
 have h7:=iK h6
 have h8:ab n<=ab (n*2 ^ (32-ir x)):=c9 (Nat.le_mul_of_pos_right _ hp)
 omega
theorem aaY {x R V:Nat} (hx:x<au) (hR:R<V):x+au*R<au*V/\(x+au*R)/V<au:=by
 have:au*(R+1)<=au*V:=Nat.mul_le_mul_left _ hR
 have h:x+au*R<au*V:=by rw [Nat.mul_add] at this;omega
 exact ⟨h,Nat.div_lt_of_lt_mul (by rw [Nat.mul_comm V];exact h)⟩
theorem XS {num u2 M u' h l v' V D:Nat} (hl:l<au) (hv:v'<M) (hV:V=(h*au+l)*M+v') (hD:D=(num*au+u2)*M+u') (hlt:D<au*V):num<(h+1)*au:=by
 have h1:V<(h+1)*au*M:=by
   have:(h*au+l+1)*M<=(h+1)*au*M:=Nat.mul_le_mul_right _ (by rw [Nat.add_mul];omega)
   rw [Nat.add_mul,Nat.one_mul] at this;omega
 have h2:num*(au*M)<=D:=by
   have:num*au*M<=(num*au+u2)*M:=Nat.mul_le_mul_right _ (by omega)
   rw [Nat.mul_assoc] at this;omega
 have h3:au*V<(h+1)*au*(au*M):=by
   have:=Nat.mul_lt_mul_of_pos_left h1 cP
   rw [Nat.mul_left_comm] at this;exact this
 exact Nat.lt_of_mul_lt_mul_right (a:=au*M) (by omega)
theorem Ii {U a0 i x O V R q r:Nat} (hU:U=a0+au ^ i*x+au ^ (i+1)*(O*V+R)) (hD:x+au*R=q*V+r):U=a0+au ^ i*((q+au*O)*V+r):=by
 have e:au ^ (i+1)*(O*V+R)=au ^ i*(au*(O*V))+au ^ i*(au*R):=by
   rw [Nat.pow_succ,Nat.mul_assoc, <- Nat.mul_add, <- Nat.mul_add]
 have e2:au ^ i*((q+au*O)*V+r)=au ^ i*(q*V+r)+au ^ i*(au*(O*V)):=by
   rw [<- Nat.mul_add,Nat.add_mul,Nat.mul_assoc];congr 1;omega
 rw [hU,e,e2, <- hD,Nat.mul_add];omega
theorem F4 {k r:Nat} (h:r<au ^ k):pad (k+1) r=pad k r++[0]:=by
 have e1:val (pad k r++[0])=r:=by rw [jK,gu h]
 have e2:(pad k r++[0]).length=k+1:=by simp [j0]
 have h1:=vZ (cw (p5 k r) (b:=[0]) (fun z hz=>by rw [List.mem_singleton.1 hz];exact cP))
 rw [e1,e2] at h1
 exact h1
theorem Q8 {k D V q:Nat} (h:D%V<au ^ k) (hq:q=D/V):pad (k+1) (D+au ^ (k+1)-q*V)=pad k (D%V)++[0]:=by
 have h1:=Nat.mod_add_div D V
 rw [Nat.mul_comm] at h1
 have:D+au ^ (k+1)-q*V=D%V+au ^ (k+1)*1:=by rw [hq];omega
 rw [this,A1,F4 h]
theorem Q9 {k D V q:Nat} (h0:0<V) (h:D%V<au ^ k) (hV:V<au ^ k) (hq:q=D/V+1):pad (k+1) (val (pad (k+1) (D+au ^ (k+1)-q*V))+V)=pad k (D%V)++[0]:=by
 have h1:=Nat.mod_add_div D V
 rw [Nat.mul_comm] at h1
 have e:q*V=D/V*V+V:=by rw [hq,Nat.add_mul,Nat.one_mul]
 have h2:au ^ k<=au ^ (k+1):=Nat.pow_le_pow_right cP (by omega)
 have h3:D%V<V:=Nat.mod_lt _ h0
 rw [gu (by omega)]
 have:D+au ^ (k+1)-q*V+V=D%V+au ^ (k+1)*1:=by omega
 rw [this,A1,F4 h]
theorem Ij {m s V N k c A R:Nat} (hN:V=N*2 ^ s) (hNk:au ^ (k-1)<=N) (hm:m<au ^ (c+(k-1))) (hU:m*2 ^ s=A+au ^ c*R):R<V:=by
 rcases Nat.lt_or_ge R V with h | h
 . exact h
 . exfalso
   have h1:au ^ c*V<=au ^ c*R:=Nat.mul_le_mul_left _ h
   have h2:au ^ c*(au ^ (k-1)*2 ^ s)<=au ^ c*V:=by rw [hN];exact Nat.mul_le_mul_left _ (Nat.mul_le_mul_right _ hNk)
   rw [<- Nat.mul_assoc, <- Nat.pow_add] at h2
   have h3:=Nat.mul_lt_mul_of_pos_right hm (Nat.two_pow_pos s)
   omega
theorem XT {q r num h l u2 M u' v' V D:Nat} (hl:l<au) (ZM:v'<M) (ZN:u'<M) (h0:0<h) (hV:V=(h*au+l)*M+v') (hD:D=(num*au+u2)*M+u') (hlt:D<au*V) (hdB:D/V<au)
   (hq:q*h+r=num) (hle:D/V<=q) (ht:au<=q∨r*au+u2<q*l):1<=q/\D/V<=q-1/\(q-1)*h+(r+h)=num/\(au<=r+h->q-1<au/\q-1<=D/V+1):=by
 have hq1:1<=q:=by
   rcases Nat.eq_zero_or_pos q with e | e
   . subst e
     rcases ht with h1 | h1
     . unfold au at h1;omega
     . simp at h1
   . exact e
 have XU:D/V<=q-1:=by
   rcases ht with h1 | h1
   . omega
   . exact Uv hV hD ZN hq h1
 have hs:(q-1)*h+(r+h)=num:=by
   obtain ⟨p,rfl⟩:∃ p,q=p+1:=⟨q-1,by omega⟩
   rw [Nat.add_mul] at hq
   simp only [Nat.add_sub_cancel];omega
 refine ⟨hq1,XU,hs,fun hb => ?_⟩
 obtain ⟨a,c⟩:=Q7 (u2:=u2) (XS hl ZM hV hD hlt) hl hs hb
 exact ⟨a,MJ h0 hV hD ZM a hs c⟩
theorem ML {m n s O r:Nat} (_hn:n≠0) (hU:m*2 ^ s=O*(n*2 ^ s)+r) (hr:r<n*2 ^ s):O=m/n/\r/2 ^ s=m%n/\ab r<=ab (n*2 ^ s):=by
 have hp:=Nat.two_pow_pos s
 have h1:r=(m-O*n)*2 ^ s:=by
   rw [Nat.sub_mul,Nat.mul_assoc];omega
 have h2:m-O*n<n:=by
   rw [h1] at hr;exact Nat.lt_of_mul_lt_mul_right hr
 have h3:O*n<=m:=by
   have:O*n*2 ^ s<=m*2 ^ s:=by rw [Nat.mul_assoc];omega
   exact Nat.le_of_mul_le_mul_right this hp
 have h4:(m-O*n)+n*O=m:=by rw [Nat.mul_comm n];omega
 have h5:m/n=O/\m%n=m-O*n:=(Nat.div_mod_unique (Nat.pos_of_ne_zero _hn)).2 ⟨h4,h2⟩
 refine ⟨h5.1.symm, ?_,c9 (Nat.le_of_lt hr)⟩
 rw [h1,Nat.mul_div_cancel _ hp,h5.2]
theorem rK {a b t:List Nat} {i j x:Nat} (ha:a.length=i) (h:b[j]? = some x):(a++b++t)[i+j]? = some x:=by
 have hj:=(List.getElem?_eq_some_iff.1 h).1
 rw [List.append_assoc,List.getElem?_append_right (by omega),List.getElem?_append_left (by omega), <- h]
 congr 1;omega
theorem rL {a:List Nat} {i:Nat} (h:a.length=i+1):∃ b x,a=b++[x]/\b.length=i:=by
 refine ⟨a.take i,a[i]'(by omega), ?_,by simp;omega⟩
 rw [<- List.take_succ_eq_append_getElem,List.take_of_length_le (by omega)]
section
variable {P:Program} {G:Nat->Option (List AV)} {π : Id} {Q:bB->VS->Prop} {s:VS}
theorem VW.On {x y:bA} (h:VW P G π x (Then (VW P G π y Q) Q) s):VW P G π (.seq x y) Q s :=
 VW.seq (h.mono fun e _ hq=>by cases e<;>exact hq)
theorem VW.Ra {id:Nat} {x:bA} (h:VW P G π x (N4 id Q) s):VW P G π (.block id x) Q s :=
 VW.block (h.mono fun e _ hq=>by cases e<;>exact hq)
theorem VW.cut {x:bA} {s':VS} (hw:Wk G π s s') (h:sF P G π x Q s'):VW P G π x Q s:=VW.wk hw (VW.of h)
theorem VW.MM {α : Type} {x:bA} {s:VS} (st : α -> VS) (Pr : α -> Prop) (m : α -> Nat) (x0 : α) (hw:Wk G π s (st x0)) (h0:Pr x0)
   (h:∀ a,Pr a->VW P G π x (Hj G π st Pr m a Q) (st a)):VW P G π (.loop x) Q s:=by
 refine VW.wk hw ?_
 intro c hc own E w a R hm hR
 cases c<;>simp only [eL,Option.some.injEq,reduceCtorEq] at hc
 case loop cb =>
   cases h1:eL P cb with
   | none=>simp [h1] at hc
   | some vb =>
     simp only [h1,Option.map_some,Option.some.injEq,bA.loop.injEq] at hc
     subst hc
     refine zP (α := α) (fun g a' w'=>Pr g/\∃ E',j7 own π E E' w w'/\ib G π own E' w' (st g) a') m (x:=x0) ⟨h0,E,j7.refl own π E w,hm⟩ ?_
     rintro g a2 w2 ⟨hI2,E2,Ud,sQ⟩
     refine (h g hI2) cb h1 own E2 w2 a2 _ sQ ?_
     intro e s' E' w' a' hq had mL
     cases e with
     | normal =>
       obtain ⟨g',hI3,hlt,hw3⟩:=hq
       obtain ⟨E3,ad3,hm3⟩:=hw3 own E' w' a' mL
       exact ⟨g',⟨hI3,E3,(Ud.trans had).trans ad3,hm3⟩,hlt⟩
     | exit id=>exact hR (.exit id) s' E' w' a' hq (Ud.trans had) mL
     | ret=>exact hR .ret s' E' w' a' hq (Ud.trans had) mL
 case region=>exfalso;revert hc;unfold kZ;(repeat' split)<;>simp
 all_goals (exfalso;revert hc;(repeat' split)<;>simp)
theorem Aa {base:Nat} {n:Nat} {ps:List (Nat × Nat)} {d:Option Nat} {os:List bg} {i:Nat} {acc:List eB} {t:List AV} {σ : aa} {f:FuncId} {args eD:List AV} {r:AV} (S:List (Id × a8))
   (h:VP P G f eD r) (hv:aI (aa.of S) args eD) (hS:∀ x∈S, σ x.1=some x.2) (k:vd P G π base Q n ps os (i+1) ({ val:=r,rd:=S.map (·.1),up:=nX S }::acc) (fL t d r) (σ.app (nX S))):FL P G π base Q n ps d os i acc t σ f args :=
 ⟨S,_,aq.AR h hv,hS,fun x hx=>List.mem_map.2 ⟨x,hx,rfl⟩,k⟩
end
theorem EC {id:Id} {k len l h:Nat} (h1:l<h) (h2:h<=len):bR k (.osl id k 0 len false) (some (.int .i64 (l:Int))) (some (.int .i64 (h:Int))) none=some (.osl id k l (h-l) false):=by
 rcases Nat.eq_zero_or_pos l with rfl | hp
 . simp [bR,cm,dT,h2]
 . simp [bR,cm,dT,h2,Nat.le_of_lt h1,Nat.ne_of_gt hp,Nat.ne_of_lt h1]
theorem Cf {id:Id} {k len h:Nat} (h2:h<=len):bR k (.osl id k 0 len false) none (some (.int .i64 (h:Int))) none=some (.osl id k 0 h false):=by
 simp [bR,cm,dT,h2]
section
variable {P:Program} {G:Nat->Option (List AV)}
theorem XV {q Q:Nat} (h1:q=Q+1) (h2:q<au):IntKind.u64.wrap ((q:Int)-1)=((Q:Nat):Int):=by
 subst h1;rw [IntKind.wrap_u64];unfold au at h2;omega
theorem Ik {id:Id} {a t:List Nat} {b tt:Bool} {n:Nat} (hn:n=a.length):View (aa.of [(id,⟨us (a++t),1,b⟩)]) (.osl id 1 0 n tt) (.sl 1 (us a)):=by
 subst hn
 refine View.osl (bk:=⟨us (a++t),1,b⟩) (by simp [aa.of]) rfl (by simp [dD]) ?_ (by rw [dD]) (uC a)
 have:((us (a++t)).drop 0).take a.length=us a:=by rw [List.drop_zero,MC];simp
 show aI _ (flat (((us (a++t)).drop 0).take a.length)) _
 rw [this]
 exact aI.pure (qE a)
set_option maxRecDepth 100000 in
set_option maxHeartbeats 4000000 in
theorem Oo {f fc qu ftu fu fdw flz fsl ft fsu ZO fsr:FuncId} (h:Has P f (mi fc qu ftu fu fdw flz fsl ft fsu ZO fsr))
   (hc:∀ m n,ab m<=1000000->ab n<=1000000->VP P G fc [W m,W n] (.int .i64 (gr m n))) (o8:∀ n,ab n<=1000000->VP P G qu [W n] (W n))
   (Wy:∀ n,n<18446744073709551616->VP P G ftu [W n] (.int .u64 ((n:Nat):Int))) (hu:∀ n,n<18446744073709551616->VP P G fu [.int .u64 ((n:Nat):Int)] (W n))
   (hdw:∀ m w:Nat,ab m<=1000000->w<au->w≠0->VP P G fdw [W m, .int .u32 (w:Int)] (.tup [W (m/w),W (m%w)]))
   (hlz:∀ x:Nat,x<au->0<x->VP P G flz [.int .u32 (x:Int)] (.int .i64 ((32-ir x:Nat):Int)))
   (vP:Has P fsl iJ) (ht:gU P G ft) (hsu:Has P fsu jh) (hre:Has P ZO jZ) (hsr:Has P fsr ij)
   (m n:Nat) (ry:n≠0) (hm:ab m<=900000) (hn:ab n<=900000):VP P G f [W m,W n] (.tup [W (m/n),W (m%n)]):=by
 refine VP.has h ?_
 have XW:=hc m n (by omega) (by omega)
 have aex:=o8 m (by omega)
 have B6:m/n=0->∀ σ,View σ .nils (W (m/n)):=fun h σ => by rw [h];simp only [W,bh,us];exact View.nils 1
 have XX:m<n->m/n=0/\m%n=m:=fun h=>⟨Nat.div_eq_of_lt h,Nat.mod_eq_of_lt h⟩
 have c1:m<n->decide (gr m n<0)=true:=fun h=>ai (by simp only [gr,iy];rw [if_pos (by omega)];decide)
 have c2 : ¬ m<n->decide (gr m n<0)=false:=fun h=>ag (by simp only [gr,iy];rw [if_neg (by omega)];split<;>decide)
 have l1:ab m<=2->decide ((ab m:Int)<=2)=true:=fun h=>ai (by omega)
 have l2 : ¬ ab m<=2->decide ((ab m:Int)<=2)=false:=fun h=>ag (by omega)
 have b1:ab n=1->decide ((ab n:Int)=1)=true:=fun h=>ai (by omega)
 have b2 : ¬ ab n=1->decide ((ab n:Int)=1)=false:=fun h=>ag (by omega)
 simp only [mi,SS,Nat.reduceAdd]
 refine aj XW (by simp [bp]) ?_
 by_cases h1:m<n
 . simp only [SS,Nat.reduceAdd,c1 h1]
   refine aj aex (by simp [bp]) ?_
   simp only [SS,Nat.reduceAdd]
   obtain ⟨e1,e2⟩:=XX h1
   refine ah▸⟨.tup [.nils,W m],rfl,View.tup (aI.cons (B6 e1 _) (aI.cons ?_ aI.nil))⟩
   rw [e2];exact View.pure (bp _)
 have yI:n<=m:=by omega
 have hwn:ab n≠0:=fun e=>ry (bC.1 e)
 by_cases h2:ab m<=2
 . have sQ:=pz h2
   have Qd:n<18446744073709551616:=by omega
   have hq:=B8 m n sQ ry
   have hr:=B9 m n ry
   have TB:=hu (m/n) (Nat.lt_of_le_of_lt (Nat.div_le_self _ _) sQ)
   have Xl:=hu (m%n) (Nat.lt_of_le_of_lt (Nat.mod_le _ _) sQ)
   simp only [SS,Nat.reduceAdd,c2 h1,bc,l1 h2]
   refine aj (Wy m sQ) (by simp [bp]) ?_
   simp only [SS,Nat.reduceAdd]
   refine aj (Wy n Qd) (by simp [bp]) ?_
   simp only [SS,DD,Nat.reduceAdd,hq]
   refine dG TB (by simp [af.int]) ?_
   simp only [SS,DD,Nat.reduceAdd,hr]
   refine dG Xl (by simp [af.int]) ?_
   simp only [SS,DD,Nat.reduceAdd]
   refine ⟨by simp [aJ,apart], ?_⟩
   exact ah▸ae rfl (af.tup (by intro c hc;simp at hc;rcases hc with rfl | rfl<;>exact bp _))
 by_cases h3:ab n=1
 . obtain ⟨x,hx⟩:∃ x,(digits n)[0]? = some x:=⟨_,List.getElem?_eq_getElem (by show 0<ab n;omega)⟩
   have Oq:x=n:=by
     have e:=aC hx
     rw [List.take_of_length_le (show (digits n).length<=1 from by show ab n<=1;omega),aH] at e
     simp [val] at e;omega
   have hg:=cZ hx
   rw [Oq] at hg
   have hnB:n<au:=by rw [<- Oq];exact aK n x (List.mem_of_getElem? hx)
   have Q6:=hdw m n (by omega) hnB ry
   have GR:aV 1 (W n) (.int .i64 0)=some (.ep (AV.int .u32 (n:Int)).cells 0):=hg
   simp only [SS,Nat.reduceAdd,c2 h1,bc,l2 h2,b1 h3,GR,ax,bl]
   refine aj Q6 (by simp [bp,af.int]) ?_
   simp only [SS,Nat.reduceAdd,wi,wj]
   exact ah▸ae rfl (af.tup (by intro c hc;simp at hc;rcases hc with rfl | rfl<;>exact bp _))
 -- Knuth's algorithm D
 obtain ⟨k,hk⟩:∃ k,ab n=k+2:=⟨ab n-2,by omega⟩
 obtain ⟨x,hx⟩:∃ x,(digits n)[k+1]? = some x:=⟨_,List.getElem?_eq_getElem (by show k+1<ab n;omega)⟩
 obtain ⟨Og,XY,hV,XZ,hs⟩:=xO hk hx
 generalize hsd:32-ir x=s at hV XZ hs
 have aa0:=hlz x XY Og
 rw [hsd] at aa0
 have p1:IntKind.i64.wrap (((k+2:Nat):Int)-1)=((k+1:Nat):Int):=by rw [IntKind.wrap_i64];omega
 have p2:IntKind.i64.wrap (((k+2:Nat):Int)-2)=((k:Nat):Int):=by rw [IntKind.wrap_i64];omega
 obtain ⟨V,Ot⟩:∃ V,V=n*2 ^ s:=⟨_,rfl⟩
 obtain ⟨U,Uw⟩:∃ U,U=m*2 ^ s:=⟨_,rfl⟩
 rw [<- Ot] at hV XZ
 have Ku:=xG (G:=G) vP m s (by omega) hs
 have Kv:=xG (G:=G) vP n s (by omega) hs
 rw [<- Ot] at Kv
 rw [<- Uw] at Ku
 obtain ⟨L,hL⟩:∃ L,ab m+1=L+(k+2):=⟨ab m+1-(k+2),by have:=c9 yI;omega⟩
 have hUB:U<au ^ (ab m+1):=by
   have h4:2 ^ s<=2 ^ 32:=Nat.pow_le_pow_right (by decide) (by omega)
   have h5:m*2 ^ s<=m*2 ^ 32:=Nat.mul_le_mul_left _ h4
   have h6:m*2 ^ 32<au ^ ab m*2 ^ 32:=Nat.mul_lt_mul_of_pos_right (cG m) (by decide)
   rw [Nat.pow_succ,Uw];exact Nat.lt_of_le_of_lt h5 h6
 obtain ⟨A0,R0,X0,WA,hR0⟩:∃ A R,pad (ab m+1) U=A++R++[]/\A.length=L/\R.length=k+2 :=
   ⟨(pad (ab m+1) U).take L,(pad (ab m+1) U).drop L,by simp,by simp [j0];omega,by simp [j0];omega⟩
 have hAw:Wd A0/\Wd R0:=by
   have h4:=p5 (ab m+1) U
   rw [X0] at h4
   exact ⟨fun w hw=>h4 w (by simp [hw]),fun w hw=>h4 w (by simp [hw])⟩
 have hU0:U=val A0+au ^ L*val R0:=by
   have h4:=gu hUB
   rw [X0,List.append_nil,cj,WA] at h4
   exact h4.symm
 have Rb:val R0<V:=Ij (k:=k+2) Ot (by have:=px ry;rw [hk] at this;exact this) (by
   have h4:=cG m
   have:L+(k+2-1)=ab m:=by omega
   rw [this];exact h4) (Uw▸hU0)
 have Cg:ab V=k+2:=XZ
 obtain ⟨hh,Rc⟩:∃ y,(digits V)[k+1]? = some y:=⟨_,List.getElem?_eq_getElem (by show k+1<ab V;omega)⟩
 obtain ⟨ll,llg⟩:∃ y,(digits V)[k]? = some y:=⟨_,List.getElem?_eq_getElem (by show k<ab V;omega)⟩
 have hhB:=aK V hh (List.mem_of_getElem? Rc)
 have llB:=aK V ll (List.mem_of_getElem? llg)
 have f1:=bf hh hhB
 have f2:=bf ll llB
 obtain ⟨X1,ZM⟩:=aaW (aK V) Cg Rc llg
 rw [aH] at X1
 have ZP:0<hh:=by
   rcases z6 (n:=V) with h4 | ⟨w,h4,hw⟩
   . rw [h4] at Rc;simp at Rc
   . rw [List.getLast?_eq_getElem?,show (digits V).length-1=k+1 from by show ab V-1=k+1;omega,Rc] at h4
     simp only [Option.some.injEq] at h4;omega
 have TH:0<V:=Nat.lt_of_le_of_lt (Nat.zero_le _) Rb
 have Re:IntKind.i64.wrap (((ab m+1:Nat):Int)-((k+2:Nat):Int))=((L:Nat):Int):=by rw [IntKind.wrap_i64];omega
 have vq:IntKind.i64.wrap (((L:Nat):Int)-1)=(L:Int)-1:=by rw [IntKind.wrap_i64];omega
 have uR:∀ p:Id,j4 p 1 4 (.int .u32 0) (.int .i64 ((L:Nat):Int)) (.int .i64 ((L:Nat):Int))=some { val := .osl p 1 0 L false,up:=[(p,some ⟨us (List.replicate L 0),1,false⟩)] }:=fun p=>lg (by omega)
 rw [X0] at Ku
 rw [hk] at Kv
 have b3:decide (((k+2:Nat):Int)=1)=false:=ag (by omega)
 have PG:V<au ^ (k+2+1):=Nat.lt_of_lt_of_le hV (Nat.pow_le_pow_right cP (by omega))
 have Kw:VP P G ft [.sl 1 (us (pad (k+2+1) V))] (W V):=by
   have:=ht (pad (k+2+1) V) (p5 _ _) (by rw [j0];omega)
   rwa [gu PG] at this
 simp only [SS,Nat.reduceAdd,c2 h1,bc,l2 h2,b3,hk,p1,cZ hx,ax,bl]
 refine aj aa0 (by simp [af.int]) ?_
 simp only [SS,Nat.reduceAdd]
 refine ⟨[],_,Ku _,by simp,by simp, ?_⟩
 simp only [SS,Nat.reduceAdd]
 refine ⟨[],_,Kv _,by simp,by simp, ?_⟩
 simp only [SS,Nat.reduceAdd]
 refine cW [([4,28],⟨us (pad (k+2+1) V),1,false⟩)] Kw (aI.cons (gC (j0 _ _).symm) aI.nil) (by simp [aa.put]) ?_
 simp only [SS,Nat.reduceAdd]
 simp only [SS,DD,Nat.reduceAdd,bc,Cg,Re,vq,uR,p1,p2,cZ Rc,cZ llg,ax,bl,f1,f2]
 refine ⟨by simp [aJ], ?_⟩
 simp only [az]
 refine VW.MM (α := Nat × List Nat × List Nat × List Nat × List Nat × Nat) (fun x=>⟨List.replicate 8 .top++[.int .i64 (s:Int), .osl [4,25] 1 0 (ab m+1) false,W V, .int .i64 ((k+2:Nat):Int), .osl [39] 1 0 L false, .int .u64 (hh:Int), .int .u64 (ll:Int), .int .i64 ((x.1:Int)-1)]++List.replicate 161 .top,
   aa.put (aa.put (fun _=>none) [4,25] (some ⟨us (x.2.1++x.2.2.1++x.2.2.2.1),1,false⟩)) [39] (some ⟨us (zs x.1++x.2.2.2.2.1),1,false⟩),x.2.2.2.2.2⟩)
   (fun x=>x.1+x.2.2.2.2.1.length=L/\x.2.1.length=x.1/\x.2.2.1.length=k+2/\x.1+(k+2)+x.2.2.2.1.length=ab m+1/\Wd x.2.1/\Wd x.2.2.1/\Wd x.2.2.2.2.1/\val x.2.2.1<V/\U=val x.2.1+au ^ x.1*(val x.2.2.2.2.1*V+val x.2.2.1)) (fun x=>x.1) (L,A0,R0,[],[],1000) ?_ ?_ ?_
 . refine Wk.forget (by simp [Fg,List.replicate]) (fun j => ?_) (by simp only [];omega)
   simp only [List.append_nil,aa.put,aa.app,nX,List.map_cons,List.map_nil,zs]
   by_cases e1:j=[39]
   . subst e1;simp
   . by_cases e2:j=[4,25]
     . subst e2;simp
     . simp [e1,e2]
 . refine ⟨by simp,WA,hR0,by simp;omega,hAw.1,hAw.2,by intro w hw;simp at hw,Rb, ?_⟩
   show U=val A0+au ^ L*(val []*V+val R0)
   rw [show val []=0 from rfl,Nat.zero_mul,Nat.zero_add];exact hU0
 rintro ⟨c,A,R,t,o,nn⟩ ⟨hc,hA,hR,JT,X2,X3,X4,X5,X6⟩
 simp only [] at hc hA hR JT X2 X3 X4 X5 X6
 rcases Nat.eq_zero_or_pos c with h0 | hcp
 . subst h0
   have d0:decide ((0:Int)<=((0:Nat):Int)-1)=false:=by decide
   refine VW.On (VW.of ?_)
   simp only [SS,DD,Nat.reduceAdd,d0]
   obtain rfl:A=[]:=List.length_eq_zero_iff.1 hA
   have hU':m*2 ^ s=val o*(n*2 ^ s)+val R:=by
     rw [<- Uw, <- Ot,X6]
     show val []+au ^ 0*_=_
     simp [val]
   obtain ⟨g1,g2,g3⟩:=ML ry hU' (Ot▸X5)
   have hoL:L=o.length:=by omega
   have htq:=ht o X4 (by omega)
   rw [g1] at htq
   have htR:=ht R X3 (by omega)
   have hwR:ab (val R)<=1000000:=by rw [<- Ot,Cg] at g3;omega
   have aeE:=Dv (G:=G) hsr (val R) s hwR hs
   have MN:VP P G ft [.sl 1 (us (pad (ab (val R)) (val R/2 ^ s)))] (W (m%n)):=by
     have e:=ht (pad (ab (val R)) (val R/2 ^ s)) (p5 _ _) (by rw [j0];omega)
     rw [gu (Nat.lt_of_le_of_lt (Nat.div_le_self _ _) (cG _))] at e
     rw [<- g2];exact e
   have Il:bR 1 (.osl [4,25] 1 0 (ab m+1) false) none (some (.int .i64 ((k+2:Nat):Int))) none=some (.osl [4,25] 1 0 (k+2) false):=Cf (by omega)
   rw [rI,List.nil_append,List.nil_append]
   refine Aa [([39],⟨us o,1,false⟩)] htq (aI.cons (gC hoL) aI.nil) (by simp [aa.put]) ?_
   simp only [SS,DD,Nat.reduceAdd,Il]
   refine Aa [([4,25],⟨us (R++t),1,false⟩)] htR (aI.cons (Ik hR.symm) aI.nil) (by simp [aa.put,aa.app,nX]) ?_
   simp only [SS,DD,Nat.reduceAdd]
   refine dG aeE (by simp [bp,af.int]) ?_
   simp only [SS,DD,Nat.reduceAdd]
   refine dG MN (by simp [kz]) ?_
   simp only [SS,DD,Nat.reduceAdd]
   refine ⟨by simp [aJ,apart,nX], ?_⟩
   exact ah▸ae rfl (af.tup (by intro c hc;simp at hc;rcases hc with rfl | rfl<;>exact bp _))
 obtain ⟨i,rfl⟩:∃ i,c=i+1:=⟨c-1,by omega⟩
 have d0:decide ((0:Int)<=(i:Int))=true:=ai (by omega)
 have hj:((i+1:Nat):Int)-1=(i:Int):=by omega
 have AX:IntKind.i64.wrap ((i:Int)-1)=(i:Int)-1:=by rw [IntKind.wrap_i64];omega
 refine VW.On (VW.of ?_)
 simp only [SS,Nat.reduceAdd,hj,d0]
 obtain ⟨A',y,rfl,hA'⟩:=rL hA
 obtain ⟨b,vM⟩:∃ b,b=y::R:=⟨_,rfl⟩
 have eb:A'++[y]++R++t=A'++b++t:=by rw [vM];simp
 rw [eb]
 have X7:y<au:=X2 y (by simp)
 have X8:Wd A':=fun w hw=>X2 w (by simp [hw])
 have tp:b.length=k+3:=by rw [vM];simp [hR]
 have GO:Wd b:=by
   intro w hw;rw [vM] at hw
   rcases List.mem_cons.1 hw with rfl | hw
   . exact X7
   . exact X3 w hw
 have hbv:val b=y+au*val R:=by rw [vM];rfl
 obtain ⟨WB,TI⟩:=aaY X7 X5
 rw [<- hbv] at WB TI
 obtain ⟨x2,X9⟩:∃ z,b[k+2]? = some z:=⟨_,List.getElem?_eq_getElem (by omega)⟩
 obtain ⟨x1,FO⟩:∃ z,b[k+1]? = some z:=⟨_,List.getElem?_eq_getElem (by omega)⟩
 obtain ⟨z0,TG⟩:∃ z,b[k]? = some z:=⟨_,List.getElem?_eq_getElem (by omega)⟩
 have Ky:=GO x2 (List.mem_of_getElem? X9)
 have Rf:=GO x1 (List.mem_of_getElem? FO)
 have Rg:=GO z0 (List.mem_of_getElem? TG)
 obtain ⟨hD,ZN⟩:=aaX GO tp X9 FO TG
 rw [show x2*au+x1=au*x2+x1 from by rw [Nat.mul_comm]] at hD
 obtain ⟨num,Ch⟩:∃ z,z=au*x2+x1:=⟨_,rfl⟩
 rw [<- Ch] at hD
 have MO:num<18446744073709551616:=by rw [Ch];unfold au at *;omega
 have a1:=lM i (k+2) (by omega)
 have a2:IntKind.i64.wrap (((i+(k+2):Nat):Int)-1)=((i+(k+1):Nat):Int):=by rw [IntKind.wrap_i64];omega
 have a3:IntKind.i64.wrap (((i+(k+2):Nat):Int)-2)=((i+k:Nat):Int):=by rw [IntKind.wrap_i64];omega
 have a4:IntKind.i64.wrap (((i+(k+2):Nat):Int)+1)=((i+(k+3):Nat):Int):=by rw [IntKind.wrap_i64];omega
 have ia2:=cA (q:=[4,25]) (t:=false) (show i+(k+2)<ab m+1 by omega)
 have ia1:=cA (q:=[4,25]) (t:=false) (show i+(k+1)<ab m+1 by omega)
 have ia0:=cA (q:=[4,25]) (t:=false) (show i+k<ab m+1 by omega)
 have iaq:=cA (q:=[39]) (t:=false) (show i<L by omega)
 have Il:bR 1 (.osl [4,25] 1 0 (ab m+1) false) (some (.int .i64 (i:Int))) (some (.int .i64 ((i+(k+3):Nat):Int))) none=some (.osl [4,25] 1 A'.length (ab V+1) false):=by
   rw [EC (by omega) (by omega),hA',Cg]
   congr 2;omega
 generalize hσ : aa.put (aa.put (fun _=>none) [4,25] (some ⟨us (A'++b++t),1,false⟩)) [39] (some ⟨us (zs (i+1)++o),1,false⟩) = σ0
 have Ux : σ0 [4,25]=some ⟨us (A'++b++t),1,false⟩:=by rw [<- hσ];simp [aa.put]
 have hσQ : σ0 [39]=some ⟨us (zs (i+1)++o),1,false⟩:=by rw [<- hσ];simp [aa.put]
 have ld2:=im Ux (rK (t:=t) hA' X9)
 have ld1:=im Ux (rK (t:=t) hA' FO)
 have ld0:=im Ux (rK (t:=t) hA' TG)
 have w2:=bf x2 Ky
 have w1:=bf x1 Rf
 have w0:=bf z0 Rg
 have s2:=tJ x2 Ky
 have o2:=B7 x2 x1 Ky Rf
 rw [<- Ch] at o2
 have q1:=B8 num hh MO (by omega)
 have r1:=B9 num hh (by omega)
 refine VW.On (VW.Ra (VW.On (VW.of ?_)))
 simp only [SS,DD,Nat.reduceAdd,a1,a2,ia2,ia1,ld2,ld1,w2,w1,s2,o2]
 refine ⟨by simp [aJ],VW.On (VW.of ?_)⟩
 simp only [SS,DD,Nat.reduceAdd,q1,r1]
 refine ⟨by simp [aJ],VW.On (VW.Ra ?_)⟩
 have aa7:num/hh*hh+num%hh=num:=by rw [Nat.mul_comm];exact Nat.div_add_mod num hh
 have F5:=Ih ZP X1 hD Rg ZN
 refine VW.mono (Q:=fun e s'=>∃ q n2,e = .exit 3/\(q<au/\val b/V<=q/\q<=val b/V+1)/\Wk G [] s' ⟨List.replicate 8 .top++[.int .i64 (s:Int), .osl [4,25] 1 0 (ab m+1) false,W V, .int .i64 ((k+2:Nat):Int), .osl [39] 1 0 L false, .int .u64 (hh:Int), .int .u64 (ll:Int), .int .i64 (i:Int), .top, .int .u64 (q:Int)]++List.replicate 159 .top, σ0,n2⟩) ?_ ?_
 . refine VW.bG (α := Nat × Nat × Nat) (fun x=>⟨List.replicate 8 .top++[.int .i64 (s:Int), .osl [4,25] 1 0 (ab m+1) false,W V, .int .i64 ((k+2:Nat):Int), .osl [39] 1 0 L false, .int .u64 (hh:Int), .int .u64 (ll:Int), .int .i64 (i:Int), .top, .int .u64 (x.1:Int), .int .u64 (x.2.1:Int)]++List.replicate 158 .top, σ0,x.2.2⟩)
     (fun x=>x.1*hh+x.2.1=num/\val b/V<=x.1/\x.2.1<au/\x.1<18446744073709551616) (fun x=>x.1) (num/hh,num%hh,nn+1000) ?_ ?_ ?_
   . exact Wk.slots (by simp [Fg,List.replicate]) (by simp only [];omega)
   . exact ⟨aa7,F5,Nat.lt_trans (Nat.mod_lt _ ZP) hhB,Nat.lt_of_le_of_lt (Nat.div_le_self _ _) MO⟩
   rintro ⟨q,r,n3⟩ ⟨GZ,hle,C6,aeJ⟩
   simp only [] at GZ hle C6 aeJ
   have d1:au<=q->decide ((4294967296:Int)<=(q:Int))=true:=fun h=>ai (by unfold au at h;omega)
   have d2 : ¬ au<=q->decide ((4294967296:Int)<=(q:Int))=false:=fun h=>ag (by unfold au at h;omega)
   have d3:au<=r+hh->decide ((4294967296:Int)<=((r+hh:Nat):Int))=true:=fun h=>ai (by unfold au at h;omega)
   have d4 : ¬ au<=r+hh->decide ((4294967296:Int)<=((r+hh:Nat):Int))=false:=fun h=>ag (by unfold au at h;omega)
   have d5:au*r+z0<q*ll->decide (((au*r+z0:Nat):Int)<((q*ll:Nat):Int))=true:=fun h=>ai (by omega)
   have d6 : ¬ au*r+z0<q*ll->decide (((au*r+z0:Nat):Int)<((q*ll:Nat):Int))=false:=fun h=>ag (by omega)
   have m1 : ¬ au<=q->IntKind.u64.wrap ((q:Int)*(ll:Int))=((q*ll:Nat):Int):=fun h=>MF q ll (by omega) llB
   have s3:=tJ r C6
   have o3:=B7 r z0 C6 Rg
   have p3:=mN r hh (by unfold au at *;omega)
   have G9:=fun ht=>XT (q:=q) (r:=r) llB ZM ZN ZP X1 hD WB TI GZ hle ht
   have dI : ¬ au<=q->q*ll<=r*au+z0->q<=val b/V+1:=fun h1 h2=>MJ ZP X1 hD ZM (by omega) GZ h2
   have LA:r*au=au*r:=Nat.mul_comm _ _
   rw [LA] at G9 dI
   have pq:1<=q->IntKind.u64.wrap ((q:Int)-1)=((q-1:Nat):Int):=fun h=>by rw [IntKind.wrap_u64];omega
   have WC:q-1<18446744073709551616:=by omega
   have hmq:1<=q->q-1<q:=fun h=>by omega
   have hrh : ¬ au<=r+hh->r+hh<au:=fun h=>by omega
   by_cases cq:au<=q
   . obtain ⟨k1,k2,k3,k4⟩:=G9 (.inl cq)
     by_cases cr:au<=r+hh
     . simp only [SS,Nat.reduceAdd,d1 cq,pq k1,p3,d3 cr]
       exact ⟨q-1,_,trivial,⟨(k4 cr).1,k2,(k4 cr).2⟩,Wk.slots (by simp [Fg]) (Nat.le_refl _)⟩
     . simp only [SS,Nat.reduceAdd,d1 cq,pq k1,p3,d4 cr]
       exact ⟨(q-1,r+hh,_),⟨k3,k2,hrh cr,WC⟩,hmq k1,Wk.slots (by simp [Fg]) (Nat.le_refl _)⟩
   . by_cases ct:au*r+z0<q*ll
     . obtain ⟨k1,k2,k3,k4⟩:=G9 (.inr ct)
       by_cases cr:au<=r+hh
       . simp only [SS,Nat.reduceAdd,d2 cq,m1 cq,s3,a1,a3,ia0,ld0,w0,o3,d5 ct,pq k1,p3,d3 cr]
         exact ⟨q-1,_,trivial,⟨(k4 cr).1,k2,(k4 cr).2⟩,Wk.slots (by simp [Fg]) (Nat.le_refl _)⟩
       . simp only [SS,Nat.reduceAdd,d2 cq,m1 cq,s3,a1,a3,ia0,ld0,w0,o3,d5 ct,pq k1,p3,d4 cr]
         exact ⟨(q-1,r+hh,_),⟨k3,k2,hrh cr,WC⟩,hmq k1,Wk.slots (by simp [Fg]) (Nat.le_refl _)⟩
     . have hp:=dI cq (by omega)
       have aeK:q<au:=by omega
       simp only [SS,Nat.reduceAdd,d2 cq,m1 cq,s3,a1,a3,ia0,ld0,w0,o3,d6 ct]
       exact ⟨q,_,trivial,⟨aeK,hle,hp⟩,Wk.slots (by simp [Fg]) (Nat.le_refl _)⟩
 rintro e s' ⟨q,n2,rfl,⟨hqB,hle,Wz⟩,hw⟩
 simp only [uz,if_true,pn]
 refine VW.cut hw ?_
 have vO:=Ic (G:=G) hsu (id:=[4,25]) (a:=A') (b:=b) (t:=t) (v:=V) (q:=q) (tight:=false) (by omega) (by omega) GO hqB
 have Aw:=Kt (G:=G) hre (id:=[4,25]) (a:=A') (b:=pad (ab V+1) (val b+au ^ (ab V+1)-q*V)) (t:=t) (v:=V) (tight:=false) (by omega) (j0 _ _) (p5 _ _)
 have hVB:V<au ^ (k+2):=hV
 have ED:val b%V<V:=Nat.mod_lt _ TH
 have MP:val b%V<au ^ (k+2):=Nat.lt_trans ED hVB
 simp only [SS,Nat.reduceAdd,a1,a4,Il]
 refine ⟨[([4,25],⟨us (A'++b++t),1,false⟩)],_,vO _,by simp [Ux],by simp, ?_⟩
 have hqL:i<(zs (i+1)++o).length:=by simp [zs];omega
 have xj:val b=val b/V*V+val b%V:=by have:=Nat.div_add_mod (val b) V;rw [Nat.mul_comm] at this;omega
 have hUn:U=val A'+au ^ i*(val (val b/V::o)*V+val (pad (k+2) (val b%V))):=by
   rw [gu MP]
   refine Ii (x:=y) (R:=val R) (O:=val o) ?_ (by rw [<- hbv];exact xj)
   rw [X6,cj,hA']
   simp only [val,Nat.mul_zero,Nat.add_zero]
 have qv:i+(val b/V::o).length=L/\A'.length=i/\(pad (k+2) (val b%V)).length=k+2/\i+(k+2)+(0::t).length=ab m+1/\Wd A'/\Wd (pad (k+2) (val b%V))/\Wd (val b/V::o)/\val (pad (k+2) (val b%V))<V/\U=val A'+au ^ i*(val (val b/V::o)*V+val (pad (k+2) (val b%V))):=by
   refine ⟨by simp;omega,hA',j0 _ _,by simp;omega,X8,p5 _ _, ?_,by rw [gu MP];exact ED,hUn⟩
   intro w hw
   rcases List.mem_cons.1 hw with rfl | hw
   . exact TI
   . exact X4 w hw
 have TJ:IntKind.u32.wrap ((val b/V:Nat):Int)=((val b/V:Nat):Int):=by rw [sK,Nat.mod_eq_of_lt TI]
 have V2:((i:Nat):Int)-1=(((i:Nat):Int)-1):=rfl
 rcases XR TH hle Wz with ⟨hlt,Uy⟩ | ⟨rn,Uy⟩
 . have dn:decide (val b<q*V)=true:=ai hlt
   have pq:=XV Uy hqB
   have ZC:pad (ab V+1) (val (pad (ab V+1) (val b+au ^ (ab V+1)-q*V))+V)=pad (k+2) (val b%V)++[0]:=by
     rw [Cg];exact Q9 TH MP hVB Uy
   have ef:A'++(pad (k+2) (val b%V)++[0])++t=A'++pad (k+2) (val b%V)++(0::t):=by simp
   rw [ZC,ef] at Aw
   simp only [SS,Nat.reduceAdd,dn,pq,a1,a4,Il]
   refine ⟨[([4,25],⟨us (A'++pad (ab V+1) (val b+au ^ (ab V+1)-q*V)++t),1,false⟩)],_,Aw _,by simp [aa.put],by simp, ?_⟩
   simp only [SS,Nat.reduceAdd,TJ,iaq]
   rw [bL (o:=zs (i+1)++o) (by simp [aa.put,hσQ]) hqL,tK]
   simp only [SS,Nat.reduceAdd]
   refine VW.of ?_
   simp only [SS,Nat.reduceAdd,AX]
   refine ⟨(i,A',pad (k+2) (val b%V),0::t,val b/V::o,_),qv,Nat.lt_succ_self i,Wk.forget (by simp [Fg]) (fun j => ?_) (Nat.le_refl _)⟩
   by_cases e1:j=[39]
   . subst e1;simp [aa.put]
   . by_cases e2:j=[4,25]
     . subst e2;simp [aa.put]
     . simp [aa.put,e1,e2]
 . have dn:decide (val b<q*V)=false:=ag (by omega)
   have ZC:pad (ab V+1) (val b+au ^ (ab V+1)-q*V)=pad (k+2) (val b%V)++[0]:=by
     rw [Cg];exact Q8 MP Uy
   have ef:A'++(pad (k+2) (val b%V)++[0])++t=A'++pad (k+2) (val b%V)++(0::t):=by simp
   rw [ZC,ef]
   simp only [SS,Nat.reduceAdd,dn]
   rw [Uy]
   simp only [SS,Nat.reduceAdd,TJ,iaq]
   rw [bL (o:=zs (i+1)++o) (by simp [aa.put,hσQ]) hqL,tK]
   simp only [SS,Nat.reduceAdd]
   refine VW.of ?_
   simp only [SS,Nat.reduceAdd,AX]
   refine ⟨(i,A',pad (k+2) (val b%V),0::t,val b/V::o,_),qv,Nat.lt_succ_self i,Wk.forget (by simp [Fg]) (fun j => ?_) (Nat.le_refl _)⟩
   by_cases e1:j=[39]
   . subst e1;simp [aa.put]
   . by_cases e2:j=[4,25]
     . subst e2;simp [aa.put]
     . simp [aa.put,e1,e2]
end
end Go.VL
