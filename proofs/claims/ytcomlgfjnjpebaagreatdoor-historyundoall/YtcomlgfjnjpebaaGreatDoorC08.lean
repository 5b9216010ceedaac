/- For the claim of HistoryUndoAll: parts CR8, CR9, CR10, DT, CR11, TUV, FMT, VL32, FMH, BKH, VL33, FRH, FVH, CF1. -/
import Derived.Test.YtcomlgfjnjpebaaGreatDoorC07
import Derived.Lib.ItoaNum
import Derived.Test.YtcomlgfjnjpebaaGreatDoorC05
import Derived.RangeFuncCalls
import Derived.RangeFuncBox
import Derived.RangeFuncLeaves
import Derived.Shelf.Abstract
import Derived.WalkKit
import Derived.OwnWalkIn
import Derived.TacticsInMore
import Derived.LoopNIn
import Derived.LoopIn
import Derived.Test.YtcomlgfjnjpebaaGreatDoorC04
set_option linter.unusedSimpArgs false
set_option linter.unusedVariables false
section
set_option linter.unusedVariables false
namespace Go.VL
theorem UA {k r j y:Nat} (h:(pad (k+1) r)[j]? = some y) (hr:r<au ^ (k+1)):y=(if j<ah r then ((digits r)[j]?).getD 0 else 0):=by
 obtain ⟨z,hz⟩:=trimmed (pad (k+1) r) (sb _ _)
 rw [gq hr] at hz
 rw [hz] at h
 by_cases hj:j<ah r
 . rw [if_pos hj]
   rw [List.getElem?_append_left (show j<(digits r).length from hj)] at h
   rw [h];rfl
 . rw [if_neg hj]
   rw [List.getElem?_append_right (show (digits r).length<=j from by show ah r<=j;omega)] at h
   exact List.eq_of_mem_replicate (List.mem_of_getElem? h)
theorem Q7 {a p b t:List Nat} {k j w:Nat} (hp:p.length=k) (hb:b.length=k) (hj:j<k):(a++(p.take j++b.drop j)++t).set (a.length+j) w=a++(p.take j++w::b.drop (j+1))++t:=by
 have h1:(p.take j).length=j:=by rw [List.length_take];omega
 obtain ⟨x,hx⟩:∃ x,b.drop j=x::b.drop (j+1):=⟨_,List.drop_eq_getElem_cons (show j<b.length by omega)⟩
 rw [hx,List.append_assoc,List.set_append_right _ _ (by omega),show a.length+j-a.length=j from by omega,List.append_assoc,List.set_append_right _ _ (by omega),h1,Nat.sub_self]
 simp
theorem Og {a p b t:List Nat} {k j v w:Nat} (hp:p.length=k) (hj:j<k):(a++(p.take j++v::b)++t).set (a.length+j) w=a++(p.take j++w::b)++t:=by
 have h1:(p.take j).length=j:=by rw [List.length_take];omega
 rw [List.append_assoc,List.set_append_right _ _ (by omega),show a.length+j-a.length=j from by omega,List.append_assoc,List.set_append_right _ _ (by omega),h1,Nat.sub_self]
 simp
section
variable {P:Program} {G:Nat->Option (List AV)}
set_option maxRecDepth 100000 in
set_option maxHeartbeats 4000000 in
theorem KF {f fc fsh fw fby fl fsd ft fdg fmi fbk ftm:FuncId} (h:Has P f (js fc fsh fw fby fl fsd ft fdg fmi fbk))
   (hc:∀ m n,ah m<=1000000->ah n<=1000000->VP P G fc [W m,W n] (.int .i64 (gp m n)))
   (V9:∀ n,n<18446744073709551616->VP P G fsh [W n] (.int .u64 ((n:Nat):Int))) (hu:∀ n,n<18446744073709551616->VP P G fw [.int .u64 ((n:Nat):Int)] (W n))
   (JY:∀ m w:Nat,ah m<=1000000->w<au->w≠0->VP P G fby [W m, .int .u32 (w:Int)] (.tup [W (m/w), .int .u32 ((m%w:Nat):Int)]))
   (hlen:Has P fl gl) (hsd:Has P fsd fU) (ht:gU P G ft) (MM:Has P ft du)
   (hdg:Has P fdg (gI ftm ft fc fmi)) (BO:∀ (m:Nat) (ws:List Nat),Wd ws->ah m<=1000000->ws.length<=1000000->VP P G ftm [W m, .sl 1 (us ws)] (W (m*val ws)))
   (hmi:Has P fmi (dS ft)) (J8:∀ m s:Nat,ah m<=1000000->s<=31->VP P G fbk [W m, .int .i64 (s:Int)] (W (m/2 ^ s)))
   (m n:Nat) (tC:n≠0) (hm:ah m<=900000) (hn:ah n<=900000):VP P G f [W m,W n] (.tup [W (m/n),W (m%n)]):=by
 refine VP.has h ?_
 have XG:=hc m n (by omega) (by omega)
 have Dg:m/n=0->∀ σ,View σ .nils (W (m/n)):=fun h σ => by rw [h];simp only [W,bq,us];exact View.nils 1
 have XH:m<n->m/n=0/\m%n=m:=fun h=>⟨Nat.div_eq_of_lt h,Nat.mod_eq_of_lt h⟩
 have c1:m<n->decide (gp m n<0)=true:=fun h=>ao (by simp only [gp,iZ];rw [if_pos (by omega)];decide)
 have c2 : ¬ m<n->decide (gp m n<0)=false:=fun h=>ak (by simp only [gp,iZ];rw [if_neg (by omega)];split<;>decide)
 have l1:ah m<=2->decide ((ah m:Int)<=2)=true:=fun h=>ao (by omega)
 have l2 : ¬ ah m<=2->decide ((ah m:Int)<=2)=false:=fun h=>ak (by omega)
 have b1:ah n=1->decide ((ah n:Int)=1)=true:=fun h=>ao (by omega)
 simp only [js,SS,Nat.reduceAdd]
 refine aj XG (by simp [aJ]) ?_
 by_cases h1:m<n
 . simp only [SS,Nat.reduceAdd,c1 h1]
   obtain ⟨e1,e2⟩:=XH h1
   refine ag▸⟨.tup [.nils,W m],rfl,View.tup (aW.cons (Dg e1 _) (aW.cons ?_ aW.nil))⟩
   rw [e2];exact View.pure (aJ _)
 have yi:n<=m:=by omega
 have hwn:ah n≠0:=fun e=>tC (bE.1 e)
 by_cases h2:ah m<=2
 . have tp:=re h2
   have PG:n<18446744073709551616:=by omega
   have hq:=Di m n tp tC
   have hr:=Dj m n tC
   have V4:=hu (m/n) (Nat.lt_of_le_of_lt (Nat.div_le_self _ _) tp)
   have Uq:=hu (m%n) (Nat.lt_of_le_of_lt (Nat.mod_le _ _) tp)
   simp only [SS,Nat.reduceAdd,c2 h1,bh,l1 h2]
   refine aj (V9 m tp) (by simp [aJ]) ?_
   simp only [SS,Nat.reduceAdd]
   refine aj (V9 n PG) (by simp [aJ]) ?_
   simp only [SS,DD,Nat.reduceAdd,hq]
   refine ax V4 (by simp [af.int]) ?_
   simp only [SS,DD,Nat.reduceAdd,hr]
   refine ax Uq (by simp [af.int]) ?_
   simp only [SS,DD,Nat.reduceAdd]
   refine ⟨by simp [ar,apart], ?_⟩
   exact ag▸ab rfl (af.tup (by intro c hc;simp at hc;rcases hc with rfl | rfl<;>exact aJ _))
 by_cases h3:ah n=1
 . obtain ⟨x,hx⟩:∃ x,(digits n)[0]? = some x:=⟨_,List.getElem?_eq_getElem (by show 0<ah n;omega)⟩
   have N6:x=n:=by
     have e:=aE hx
     rw [List.take_of_length_le (show (digits n).length<=1 from by show ah n<=1;omega),aI] at e
     simp [val] at e;omega
   have hg:=db hx
   rw [N6] at hg
   have hnB:n<au:=by rw [<- N6];exact aO n x (List.mem_of_getElem? hx)
   have XA:=JY m n (by omega) hnB tC
   have JZ:br 1 (W n) (.int .i64 0)=some (.ep (AV.int .u32 (n:Int)).cells 0):=hg
   have hmB:m%n<au:=Nat.lt_trans (Nat.mod_lt _ (Nat.pos_of_ne_zero tC)) hnB
   have f9:=bn (m%n) hmB
   have hu9:=hu (m%n) (by unfold au at hmB;omega)
   simp only [SS,Nat.reduceAdd,c2 h1,bh,l2 h2,b1 h3,JZ,az,bm]
   refine aj XA (by simp [aJ,af.int]) ?_
   simp only [SS,Nat.reduceAdd,uo,uq,f9]
   refine aj hu9 (by simp [af.int]) ?_
   simp only [SS,Nat.reduceAdd]
   exact ag▸ab rfl (af.tup (by intro c hc;simp at hc;rcases hc with rfl | rfl<;>exact aJ _))
 obtain ⟨k,hk⟩:∃ k,ah n=k+2:=⟨ah n-2,by omega⟩
 obtain ⟨x,hx⟩:∃ x,(digits n)[k+1]? = some x:=⟨_,List.getElem?_eq_getElem (by show k+1<ah n;omega)⟩
 obtain ⟨NU,XI,hV,XJ,hs⟩:=zu hk hx
 obtain ⟨ahY,ahZ⟩:=MK XI NU
 have aar:=KD (G:=G) hlen hk hx (by omega)
 generalize ah0:32-iN x=s at hV XJ hs
 have m1:IntKind.i64.wrap (32*((k+2:Nat):Int))=((32*(k+2):Nat):Int):=by rw [IntKind.wrap_i64];omega
 have m2:IntKind.i64.wrap (((32*(k+2):Nat):Int)-((32*(k+1)+iN x:Nat):Int))=(s:Int):=by rw [IntKind.wrap_i64];omega
 obtain ⟨V,N7⟩:∃ V,V=n*2 ^ s:=⟨_,rfl⟩
 obtain ⟨U,Ur⟩:∃ U,U=m*2 ^ s:=⟨_,rfl⟩
 rw [<- N7] at hV XJ
 have Ky:=Ds (G:=G) hsd m s (by omega) hs
 have Kz:=Ds (G:=G) hsd n s (by omega) hs
 rw [<- N7] at Kz
 rw [<- Ur] at Ky
 obtain ⟨L,hL⟩:∃ L,ah m+1=L+(k+2):=⟨ah m+1-(k+2),by have:=cP yi;omega⟩
 have hUB:U<au ^ (ah m+1):=by
   have h4:2 ^ s<=2 ^ 32:=Nat.pow_le_pow_right (by decide) (by omega)
   have h5:m*2 ^ s<=m*2 ^ 32:=Nat.mul_le_mul_left _ h4
   have h6:m*2 ^ 32<au ^ ah m*2 ^ 32:=Nat.mul_lt_mul_of_pos_right (cN m) (by decide)
   rw [Nat.pow_succ,Ur];exact Nat.lt_of_le_of_lt h5 h6
 obtain ⟨A0,R0,XK,Wb,hR0⟩:∃ A R,pad (ah m+1) U=A++R++[]/\A.length=L/\R.length=k+2 :=
   ⟨(pad (ah m+1) U).take L,(pad (ah m+1) U).drop L,by simp,by simp [kT];omega,by simp [kT];omega⟩
 have hAw:Wd A0/\Wd R0:=by
   have h4:=sb (ah m+1) U
   rw [XK] at h4
   exact ⟨fun w hw=>h4 w (by simp [hw]),fun w hw=>h4 w (by simp [hw])⟩
 have hU0:U=val A0+au ^ L*val R0:=by
   have h4:=gq hUB
   rw [XK,List.append_nil,cv,Wb] at h4
   exact h4.symm
 have QU:val R0<V:=IL (k:=k+2) N7 (by have:=q9 tC;rw [hk] at this;exact this) (by
   have h4:=cN m
   have:L+(k+2-1)=ah m:=by omega
   rw [this];exact h4) (Ur▸hU0)
 have Dp:ah V=k+2:=XJ
 have Tl:0<V:=Nat.lt_of_le_of_lt (Nat.zero_le _) QU
 have xu:IntKind.i64.wrap (((ah m:Nat):Int)-((k+2:Nat):Int))=(L:Int)-1:=by rw [IntKind.wrap_i64];omega
 have xh:∀ p:Id,kX p 1 4 (.int .u32 0) (.int .i64 ((ah m:Nat):Int)) (.int .i64 ((ah m:Nat):Int))=some { val := .osl p 1 0 (ah m) false,up:=[(p,some ⟨us (List.replicate (ah m) 0),1,false⟩)] }:=fun p=>mD (by omega)
 rw [XK] at Ky
 rw [hk] at Kz
 have b3:decide (((k+2:Nat):Int)=1)=false:=ak (by omega)
 have Pc:V<au ^ (k+2+1):=Nat.lt_of_lt_of_le hV (Nat.pow_le_pow_right cV (by omega))
 have KA:VP P G ft [.sl 1 (us (pad (k+2+1) V))] (W V):=by
   have:=ht (pad (k+2+1) V) (sb _ _) (by rw [kT];omega)
   rwa [gq Pc] at this
 simp only [SS,Nat.reduceAdd,c2 h1,bh,l2 h2,b3,hk,m1]
 refine aj aar (by simp [aJ]) ?_
 simp only [SS,Nat.reduceAdd,m2]
 refine ⟨[],_,Ky _,by simp,by simp, ?_⟩
 simp only [SS,Nat.reduceAdd]
 refine ⟨[],_,Kz _,by simp,by simp, ?_⟩
 simp only [SS,Nat.reduceAdd]
 refine cM [([4,24],⟨us (pad (k+2+1) V),1,false⟩)] KA (aW.cons (gJ (kT _ _).symm) aW.nil) (by simp [aa.put]) ?_
 simp only [SS,Nat.reduceAdd,bh,Dp,xh,xu,aC]
 refine VW.bJ (α := Nat × List Nat × List Nat × Nat × List Nat × Nat) (fun x=>⟨List.replicate 10 .top++[.int .i64 (s:Int), .osl [4,21] 1 0 (ah m+1) false,W V, .osl [30] 1 0 (ah m) false, .int .i64 ((x.1:Int)-1)]++List.replicate 113 .top,
   aa.put (aa.put (fun _=>none) [4,21] (some ⟨us (x.2.1++x.2.2.1++zs x.2.2.2.1),1,false⟩)) [30] (some ⟨us (zs x.1++(x.2.2.2.2.1++zs (k+1))),1,false⟩),x.2.2.2.2.2⟩)
   (fun x=>x.1+x.2.2.2.2.1.length=L/\x.2.1.length=x.1/\x.2.2.1.length=k+2/\x.1+(k+2)+x.2.2.2.1=ah m+1/\Wd x.2.1/\Wd x.2.2.1/\Wd x.2.2.2.2.1/\val x.2.2.1<V/\U=val x.2.1+au ^ x.1*(val x.2.2.2.2.1*V+val x.2.2.1)/\1000<=x.2.2.2.2.2) (fun x=>x.1) (L,A0,R0,0,[],1000) ?_ ?_ ?_
 . refine Wk.forget (by simp [Fg,List.replicate]) (fun j => ?_) (by simp only [];omega)
   have hLk:zs (ah m)=zs L++([]++zs (k+1)):=by
     simp only [zs,List.nil_append,List.replicate_append_replicate];congr 1;omega
   simp only [List.append_nil,aa.put,aa.app,rC,List.map_cons,List.map_nil, <- hLk,uk]
   by_cases e1:j=[30]
   . subst e1;simp [zs]
   . by_cases e2:j=[4,21]
     . subst e2;simp
     . simp [e1,e2]
 . refine ⟨by simp,Wb,hR0,by simp only [];omega,hAw.1,hAw.2,by intro w hw;simp at hw,QU, ?_,Nat.le_refl _⟩
   show U=val A0+au ^ L*(val []*V+val R0)
   rw [show val []=0 from rfl,Nat.zero_mul,Nat.zero_add];exact hU0
 rintro ⟨c,A,R,tl,o,nn⟩ ⟨hcc,hA,hR,Es,XM,XN,XO,IH,XP,TL⟩
 simp only [] at hcc hA hR Es XM XN XO IH XP TL
 rcases Nat.eq_zero_or_pos c with h0 | hcp
 . subst h0
   have d0:decide ((0:Int)<=((0:Nat):Int)-1)=false:=by decide
   obtain rfl:A=[]:=List.length_eq_zero_iff.1 hA
   have hU':m*2 ^ s=val o*(n*2 ^ s)+val R:=by
     rw [<- Ur, <- N7,XP]
     show val []+au ^ 0*_=_
     simp [val]
   obtain ⟨g1,g2,g3⟩:=ML tC hU' (N7▸IH)
   have hoL:ah m=(o++zs (k+1)).length:=by simp [zs];omega
   have htq:=ht (o++zs (k+1)) (cw XO (QB _)) (by omega)
   rw [show val (o++zs (k+1))=val o from MC o (k+1),g1] at htq
   have hRl:ah m+1=(R++zs tl).length:=by simp [zs];omega
   have htR:=ht (R++zs tl) (cw XN (QB _)) (by omega)
   rw [show val (R++zs tl)=val R from MC R tl] at htR
   have hwR:ah (val R)<=1000000:=by rw [<- N7,Dp] at g3;omega
   have aas:=J8 (val R) s hwR hs
   rw [g2] at aas
   simp only [SS,Nat.reduceAdd,d0,uk]
   refine cM [([30],⟨us (o++zs (k+1)),1,false⟩)] htq (aW.cons (gJ hoL) aW.nil) (by simp [aa.put]) ?_
   simp only [SS,Nat.reduceAdd]
   refine cM [([4,21],⟨us (R++zs tl),1,false⟩)] htR (aW.cons (gJ hRl) aW.nil) (by simp [aa.put,aa.app,rC]) ?_
   simp only [SS,Nat.reduceAdd]
   refine aj aas (by simp [aJ,af.int]) ?_
   simp only [SS,Nat.reduceAdd]
   exact ag▸ab rfl (af.tup (by intro c hc;simp at hc;rcases hc with rfl | rfl<;>exact aJ _))
 obtain ⟨i,rfl⟩:∃ i,c=i+1:=⟨c-1,by omega⟩
 have d0:decide ((0:Int)<=(i:Int))=true:=ao (by omega)
 have hj:((i+1:Nat):Int)-1=(i:Int):=by omega
 have Ce:IntKind.i64.wrap ((i:Int)-1)=(i:Int)-1:=by rw [IntKind.wrap_i64];omega
 obtain ⟨A',y,rfl,hA'⟩:=uu hA
 obtain ⟨b,B9⟩:∃ b,b=y::R:=⟨_,rfl⟩
 have eb:A'++[y]++R++zs tl=A'++b++zs tl:=by rw [B9];simp
 have XQ:y<au:=XM y (by simp)
 have XR:Wd A':=fun w hw=>XM w (by simp [hw])
 have wX:b.length=k+3:=by rw [B9];simp [hR]
 have G4:Wd b:=by
   intro w hw;rw [B9] at hw
   rcases List.mem_cons.1 hw with rfl | hw
   . exact XQ
   . exact XN w hw
 have hbv:val b=y+au*val R:=by rw [B9];rfl
 obtain ⟨Wc,Tm⟩:=Z9 XQ IH
 rw [<- hbv] at Wc Tm
 have a1:=ny i (k+2) (by omega)
 have a4:IntKind.i64.wrap (((i+(k+2):Nat):Int)+1)=((i+(k+3):Nat):Int):=by rw [IntKind.wrap_i64];omega
 have iaq:=cB (q:=[30]) (t:=false) (show i<ah m by omega)
 have IQ:bU 1 (.osl [4,21] 1 0 (ah m+1) false) (some (.int .i64 (i:Int))) (some (.int .i64 ((i+(k+3):Nat):Int))) none=some (.osl [4,21] 1 A'.length (k+3) false):=by
   rw [Fu (by omega) (by omega),hA']
   congr 2;omega
 have hid:∀ j,1000<=j->∀ x,([4,21]:List Nat)≠x::[j]:=fun j h x e=>by simp at e;omega
 have adM:∀ j,1000<=j->_:=fun j hj=>Oe (G:=G) hdg BO MM hc (fun m n h1 h2=>Fw hmi ht m n h1 h2) (id:=[4,21]) (a:=A') (b:=b) (t:=zs tl) Dp wX G4 Wc (by omega) [j] (hid j hj)
 have aat:=Dt (G:=G) MM (id:=[4,21]) (a:=A') (b:=b) (t:=zs tl) G4 (by omega)
 rw [wX] at aat
 obtain ⟨z,hz⟩:=trimmed b G4
 have he:A'++b++zs tl=A'++digits (val b)++(zs z++zs tl):=by
   conv=>lhs;rw [hz]
   simp
 have Fv:val b%V<V:=Nat.mod_lt _ Tl
 have aau:val b-V*(val b/V)=val b%V:=by have:=Nat.div_add_mod (val b) V;omega
 have Ci:ah (val b)<=1000000:=by
   have h1:=lC G4
   rw [wX] at h1
   have:=jg h1;omega
 have aav:∀ j,1000<=j->_:=fun j hj=>Od (G:=G) hmi ht (id:=[4,21]) (a:=A') (t:=zs z++zs tl) (val b) (V*(val b/V)) (Nat.mul_div_le _ _) Ci [j] (hid j hj)
 rw [aau, <- he] at aav
 have hqL:i<(zs (i+1)++(o++zs (k+1))).length:=by simp [zs];omega
 rw [eb]
 simp only [SS,Nat.reduceAdd,hj,d0,bh,Dp,a1,a4,IQ]
 refine ⟨[([4,21],⟨us (A'++b++zs tl),1,false⟩)],_,adM _ (by omega),by simp [aa.put],by simp, ?_⟩
 simp only [SS,Nat.reduceAdd,uo,uq,iaq]
 rw [bR (o:=zs (i+1)++(o++zs (k+1))) (by simp [aa.put]) hqL,wi]
 simp only [SS,Nat.reduceAdd]
 refine ⟨[([4,21],⟨us (A'++b++zs tl),1,false⟩)],_,aat _,by simp [aa.put],by simp, ?_⟩
 simp only [SS,Nat.reduceAdd]
 refine ⟨[([4,21],⟨us (A'++b++zs tl),1,false⟩)],_,aav _ (by omega),by simp [aa.put],by simp, ?_⟩
 simp only [SS,Nat.reduceAdd,aC]
 obtain ⟨r,hr⟩:∃ r,r=val b%V:=⟨_,rfl⟩
 rw [<- hr] at Fv ⊢
 have D4:r<au ^ (k+2):=Nat.lt_trans Fv hV
 have adN:r<au ^ (k+2+1):=Nat.lt_of_lt_of_le D4 (Nat.pow_le_pow_right cV (by omega))
 obtain ⟨pd,We⟩:∃ pd,pd=pad (k+2+1) r:=⟨_,rfl⟩
 have Q8:pd.length=k+3:=by rw [We];exact kT _ _
 refine VW.bJ (α := Nat × Nat) (fun x=>⟨List.replicate 10 .top++[.int .i64 (s:Int), .osl [4,21] 1 0 (ah m+1) false,W V, .osl [30] 1 0 (ah m) false, .int .i64 (i:Int), .osl [4,21] 1 A'.length (k+3) false, .top, .top,W r, .int .i64 (x.1:Int)]++List.replicate 108 .top,
   aa.put (aa.put (fun _=>none) [4,21] (some ⟨us (A'++(pd.take x.1++b.drop x.1)++zs tl),1,false⟩)) [30] (some ⟨us (zs i++val b/V::(o++zs (k+1))),1,false⟩),x.2⟩)
   (fun x=>x.1<=k+3/\1000<=x.2) (fun x=>k+3-x.1) (0,nn+1000) ?_ ?_ ?_
 . refine Wk.forget (by simp [Fg,List.replicate]) (fun j => ?_) (by simp only [];omega)
   simp only [List.take_zero,List.drop_zero,List.nil_append,aa.put]
   by_cases e1:j=[30]
   . subst e1;simp
   . by_cases e2:j=[4,21]
     . subst e2;simp
     . simp [e1,e2]
 . exact ⟨Nat.zero_le _,by simp only [];omega⟩
 rintro ⟨j,mm⟩ ⟨hjk,EG⟩
 simp only [] at hjk EG
 have qD:j<k+3->decide ((j:Int)<((k+3:Nat):Int))=true:=fun h=>ao (by omega)
 have tE : ¬ j<k+3->decide ((j:Int)<((k+3:Nat):Int))=false:=fun h=>ak (by omega)
 have Iv:j<ah r->decide ((j:Int)<(ah r:Int))=true:=fun h=>ao (by omega)
 have Iw : ¬ j<ah r->decide ((j:Int)<(ah r:Int))=false:=fun h=>ak (by omega)
 have ME:=aq j (by omega)
 by_cases z7:j<k+3
 . have YZ:=nX (q:=[4,21]) (off:=A'.length) (t:=false) z7
   have ah3:(pd.take j++b.drop j).length=k+3:=by simp [Q8,wX];omega
   obtain ⟨y',hy'⟩:∃ y,pd[j]? = some y:=⟨_,List.getElem?_eq_getElem (by omega)⟩
   have hpm:=UA (We▸hy') adN
   have Uf:∀ w,(A'++(pd.take j++b.drop j)++zs tl).set (A'.length+j) w=A'++(pd.take j++w::b.drop (j+1))++zs tl:=fun w=>Q7 Q8 wX z7
   have aax:∀ v w,(A'++(pd.take j++v::b.drop (j+1))++zs tl).set (A'.length+j) w=A'++(pd.take j++w::b.drop (j+1))++zs tl:=fun v w=>Og Q8 z7
   have mU:A'.length+j<(A'++(pd.take j++b.drop j)++zs tl).length:=by simp [Q8,wX];omega
   have uI:∀ v,A'.length+j<(A'++(pd.take j++v::b.drop (j+1))++zs tl).length:=fun v=>by simp [Q8,wX];omega
   have JX:pd.take j++y'::b.drop (j+1)=pd.take (j+1)++b.drop (j+1):=by
     have:=List.take_add_one (l:=pd) (i:=j)
     rw [hy'] at this;rw [this];simp
   have aay:k+3-(j+1)<k+3-j:=by omega
   have aaz:∀ σ : aa, σ [4,21]=some ⟨us (A'++(pd.take j++b.drop j)++zs tl),1,false⟩->eL σ 1 (.ref [4,21] (A'.length+j) 0) (.int .u32 0)=some { val := .tup [],rd:=[[4,21]],up:=[([4,21],some ⟨us (A'++(pd.take j++0::b.drop (j+1))++zs tl),1,false⟩)] }:=fun σ hσ => by
     have:=bR (x:=0) hσ mU
     rw [Uf] at this;exact this
   by_cases XY:j<ah r
   . obtain ⟨dj,hdj⟩:∃ y,(digits r)[j]? = some y:=⟨_,List.getElem?_eq_getElem XY⟩
     rw [if_pos XY,hdj,Option.getD_some] at hpm
     subst hpm
     simp only [SS,Nat.reduceAdd,qD z7,YZ]
     rw [aaz _ (by simp [aa.put])]
     simp only [SS,Nat.reduceAdd,bh,Iv XY,db hdj,az,bm,YZ]
     rw [bR (o:=A'++(pd.take j++0::b.drop (j+1))++zs tl) (by simp [aa.put]) (uI _),aax,JX]
     simp only [SS,Nat.reduceAdd,ME]
     refine ⟨(j+1,_),⟨by simp only [];omega,by simp only [];omega⟩,aay,Wk.forget (by simp [Fg]) (fun q => ?_) (Nat.le_refl _)⟩
     simp only [aa.put]
     by_cases e1:q=[30]
     . subst e1;simp
     . by_cases e2:q=[4,21]
       . subst e2;simp
       . simp [e1,e2]
   . rw [if_neg XY] at hpm
     subst hpm
     simp only [SS,Nat.reduceAdd,qD z7,YZ]
     rw [aaz _ (by simp [aa.put]),JX]
     simp only [SS,Nat.reduceAdd,bh,Iw XY,ME]
     refine ⟨(j+1,_),⟨by simp only [];omega,by simp only [];omega⟩,aay,Wk.forget (by simp [Fg]) (fun q => ?_) (Nat.le_refl _)⟩
     simp only [aa.put]
     by_cases e1:q=[30]
     . subst e1;simp
     . by_cases e2:q=[4,21]
       . subst e2;simp
       . simp [e1,e2]
 . have xm:j=k+3:=by omega
   have uW:val b=val b/V*V+r:=by rw [hr];have:=Nat.div_add_mod (val b) V;rw [Nat.mul_comm] at this;omega
   have hUn:U=val A'+au ^ i*(val (val b/V::o)*V+val (pad (k+2) r)):=by
     rw [gq D4]
     refine IK (x:=y) (R:=val R) (O:=val o) ?_ (by rw [<- hbv];exact uW)
     rw [XP,cv,hA']
     simp only [val,Nat.mul_zero,Nat.add_zero]
   have hep:A'++(pd.take j++b.drop j)++zs tl=A'++pad (k+2) r++zs (tl+1):=by
     rw [xm,List.take_of_length_le (by omega),List.drop_eq_nil_of_le (by omega),We,Gx D4]
     simp [iM]
   rw [hep]
   simp only [SS,Nat.reduceAdd,tE z7,Ce]
   refine ⟨(i,A',pad (k+2) r,tl+1,val b/V::o,_),⟨by simp;omega,hA',kT _ _,by simp only [];omega,XR,sb _ _, ?_,by simp only [];rw [gq D4];exact Fv,hUn,by simp only [];omega⟩,Nat.lt_succ_self i,Wk.forget (by simp [Fg]) (fun q => ?_) (Nat.le_refl _)⟩
   . intro w hw
     rcases List.mem_cons.1 hw with rfl | hw
     . exact Tm
     . exact XO w hw
   . right;simp
end
end Go.VL
end

section
set_option linter.unusedVariables false
namespace Go.VL
theorem Q9 {a b:Int} (h:decide (a<0)=decide (b<0)):jD (decide (a<0)) (a.natAbs+b.natAbs)=a+b:=by
 unfold jD
 by_cases h1:a<0<;>by_cases h2:b<0<;>simp [h1,h2] at h ⊢ <;> omega
theorem IY {a b:Int} (h : ¬ decide (a<0)=decide (b<0)) (hn:b.natAbs<=a.natAbs):jD (decide (a<0)) (a.natAbs-b.natAbs)=a+b:=by
 unfold jD
 by_cases h1:a<0<;>by_cases h2:b<0<;>simp [h1,h2] at h ⊢ <;> omega
theorem not_neg (n:Nat):decide ((n:Int)<0)=false:=ak (by omega)
theorem kU (n:Nat):(n:Int).natAbs=n:=rfl
section
variable {P:Program} {G:Nat->Option (List AV)}
theorem UB {f fn fp fs fc fm:FuncId} (h:Has P f (lj fn fp fs fc fm)) (hn:∀ z:Int,ah z.natAbs<=1000000->VP P G fn [IV z] (IV z))
   (hp:∀ m n,ah m<=1000000->ah n<=1000000->VP P G fp [W m,W n] (W (m+n))) (hs:jh P G fs) (hc:∀ m n,ah m<=1000000->ah n<=1000000->VP P G fc [W m,W n] (.int .i64 (gp m n)))
   (hm:∀ m n,n<=m->ah m<=1000000->VP P G fm [W m,W n] (W (m-n))) (a b:Int) (ha:ah a.natAbs<=1000000) (hb:ah b.natAbs<=1000000):VP P G f [IV a,IV b] (IV (a+b)):=by
 refine VP.has h ?_
 have eE:([0]:List Nat)≠[1]:=by decide
 have mV:([0]:List Nat)≠[2]:=by decide
 have nZ:([1]:List Nat)≠[2]:=by decide
 have hwl:ah (a.natAbs+b.natAbs)<=9223372036854775807:=by
   have:ah (a.natAbs+b.natAbs)<=ah a.natAbs+ah b.natAbs+1:=jg (by
     have e1:=cN a.natAbs
     have e2:=cN b.natAbs
     have e3:au ^ ah a.natAbs<=au ^ (ah a.natAbs+ah b.natAbs):=Nat.pow_le_pow_right cV (by omega)
     have e4:au ^ ah b.natAbs<=au ^ (ah a.natAbs+ah b.natAbs):=Nat.pow_le_pow_right cV (by omega)
     have e5:au ^ (ah a.natAbs+ah b.natAbs)*2<=au ^ (ah a.natAbs+ah b.natAbs)*au:=Nat.mul_le_mul_left _ (by decide)
     rw [Nat.pow_succ];omega)
   omega
 have hpv:=hp a.natAbs b.natAbs ha hb
 have hcv:=hc a.natAbs b.natAbs ha hb
 simp only [lj,SS,DD,Nat.reduceAdd,ia,cx,ai eE,ai mV,ae,cp]
 refine ax (hn a ha) (by simp [aF]) ?_
 simp only [SS,DD,Nat.reduceAdd,ai nZ,ae,cp]
 refine ax (hn b hb) (by simp [aF]) ?_
 simp only [SS,DD,Nat.reduceAdd]
 rw [bB (k:=(IV a).size) (y:=IV a) rfl (sc _ _) (by simp [aa.put])]
 simp only [SS,DD,Nat.reduceAdd]
 rw [bB (k:=(IV b).size) (y:=IV b) rfl (sc _ _) (by simp [aa.put])]
 simp only [SS,DD,Nat.reduceAdd]
 refine ⟨by simp [ar,apart], ?_⟩
 simp only [SS,Nat.reduceAdd,ai eE,ae,jI]
 by_cases MP:decide (a<0)=decide (b<0)
 . have d0:(decide (a<0)==decide (b<0))=true:=by rw [MP];exact beq_self_eq_true _
   have Wf:=hs (decide (a<0)) (a.natAbs+b.natAbs) hwl
   rw [Q9 MP] at Wf
   simp only [SS,DD,Nat.reduceAdd,d0,ai eE,ae,jI,iu]
   refine ax hpv (by simp [aJ]) ?_
   simp only [SS,DD,Nat.reduceAdd]
   refine ax Wf (by simp [aJ,af.bool]) ?_
   simp only [SS,DD,Nat.reduceAdd]
   rw [bB (k:=(AV.agg [.bool false, .nils]).size) (y := .agg [.bool false, .nils]) rfl (jJ _) (by simp [aa.put])]
   simp only [SS,DD,Nat.reduceAdd]
   refine ⟨by simp [ar,apart], ?_⟩
   refine ag▸ab (r:=IV (a+b)) ?_ (aF _)
   simp only [RS,bP,cu,ae,cp]
 . have d0:(decide (a<0)==decide (b<0))=false:=by simpa using MP
   simp only [SS,Nat.reduceAdd,d0,ai eE,ae,iu]
   refine aj hcv (by simp [aJ]) ?_
   by_cases tk:b.natAbs<=a.natAbs
   . have d1:decide (0<=gp a.natAbs b.natAbs)=true:=ao (by simp only [gp,iZ];rw [if_neg (by omega)];split<;>decide)
     have MH:=hm a.natAbs b.natAbs tk ha
     have Wf:=hs (decide (a<0)) (a.natAbs-b.natAbs) (by have:=cP (Nat.sub_le a.natAbs b.natAbs);omega)
     rw [IY MP tk] at Wf
     simp only [SS,DD,Nat.reduceAdd,d1,ai eE,ae,jI,iu]
     refine ax MH (by simp [aJ]) ?_
     simp only [SS,DD,Nat.reduceAdd]
     refine ax Wf (by simp [aJ,af.bool]) ?_
     simp only [SS,DD,Nat.reduceAdd]
     rw [bB (k:=(AV.agg [.bool false, .nils]).size) (y := .agg [.bool false, .nils]) rfl (jJ _) (by simp [aa.put])]
     simp only [SS,DD,Nat.reduceAdd]
     refine ⟨by simp [ar,apart], ?_⟩
     refine ag▸ab (r:=IV (a+b)) ?_ (aF _)
     simp only [RS,bP,cu,ae,cp]
   . have d1:decide (0<=gp a.natAbs b.natAbs)=false:=ak (by simp only [gp,iZ];rw [if_pos (by omega)];decide)
     have MH:=hm b.natAbs a.natAbs (by omega) hb
     have Wf:=hs (decide (b<0)) (b.natAbs-a.natAbs) (by have:=cP (Nat.sub_le b.natAbs a.natAbs);omega)
     rw [IY (fun e=>MP e.symm) (by omega),Int.add_comm] at Wf
     simp only [SS,DD,Nat.reduceAdd,d1,ai eE,ae,jI,iu]
     refine ax MH (by simp [aJ]) ?_
     simp only [SS,DD,Nat.reduceAdd]
     refine ax Wf (by simp [aJ,af.bool]) ?_
     simp only [SS,DD,Nat.reduceAdd]
     rw [bB (k:=(AV.agg [.bool false, .nils]).size) (y := .agg [.bool false, .nils]) rfl (jJ _) (by simp [aa.put])]
     simp only [SS,DD,Nat.reduceAdd]
     refine ⟨by simp [ar,apart], ?_⟩
     refine ag▸ab (r:=IV (a+b)) ?_ (aF _)
     simp only [RS,bP,cu,ae,cp]
theorem UC {f fn fa:FuncId} (h:Has P f (ln fn fa)) (hn:∀ z:Int,ah z.natAbs<=1000000->VP P G fn [IV z] (IV (-z)))
   (ha:∀ a b:Int,ah a.natAbs<=1000000->ah b.natAbs<=1000000->VP P G fa [IV a,IV b] (IV (a+b))) (a b:Int) (hwa:ah a.natAbs<=1000000) (Ci:ah b.natAbs<=1000000):VP P G f [IV a,IV b] (IV (a-b)):=by
 refine VP.has h ?_
 have eE:([0]:List Nat)≠[1]:=by decide
 have mV:([0]:List Nat)≠[2]:=by decide
 have nZ:([1]:List Nat)≠[2]:=by decide
 have hav:=ha a (-b) hwa (by rw [Int.natAbs_neg];exact Ci)
 rw [<- Int.sub_eq_add_neg] at hav
 simp only [ln,SS,DD,Nat.reduceAdd,ia,cx,ai eE,ai mV,ai nZ,ae,cp]
 refine ax (hn b Ci) (by simp [aF]) ?_
 simp only [SS,DD,Nat.reduceAdd]
 refine ax hav (by simp [aF]) ?_
 simp only [SS,DD,Nat.reduceAdd]
 rw [bB (k:=(AV.agg [.bool false, .nils]).size) (y := .agg [.bool false, .nils]) rfl (jJ _) (by simp [aa.put])]
 simp only [SS,DD,Nat.reduceAdd]
 refine ⟨by simp [ar,apart], ?_⟩
 refine ag▸ab (r:=IV (a-b)) ?_ (aF _)
 simp only [RS,bP,cu,ae,cp]
theorem Ra {f fn ft fs:FuncId} (h:Has P f (lq fn ft fs)) (hn:∀ z:Int,ah z.natAbs<=1000000->VP P G fn [IV z] (IV z))
   (ht:∀ m n,ah m<=1000000->ah n<=1000000->VP P G ft [W m,W n] (W (m*n))) (hs:jh P G fs) (a b:Int) (ha:ah a.natAbs<=1000000) (hb:ah b.natAbs<=1000000):VP P G f [IV a,IV b] (IV (a*b)):=by
 refine VP.has h ?_
 have eE:([0]:List Nat)≠[1]:=by decide
 have mV:([0]:List Nat)≠[2]:=by decide
 have nZ:([1]:List Nat)≠[2]:=by decide
 have KA:=ht a.natAbs b.natAbs ha hb
 have l8:=hs (!(decide (a<0)==decide (b<0))) (a.natAbs*b.natAbs) (by have:=ql a.natAbs b.natAbs;omega)
 rw [MG] at l8
 simp only [lq,SS,DD,Nat.reduceAdd,ia,cx,ai eE,ai mV,ae,cp]
 refine ax (hn a ha) (by simp [aF]) ?_
 simp only [SS,DD,Nat.reduceAdd,ai nZ,ae,cp]
 refine ax (hn b hb) (by simp [aF]) ?_
 simp only [SS,DD,Nat.reduceAdd]
 rw [bB (k:=(IV a).size) (y:=IV a) rfl (sc _ _) (by simp [aa.put])]
 simp only [SS,DD,Nat.reduceAdd]
 rw [bB (k:=(IV b).size) (y:=IV b) rfl (sc _ _) (by simp [aa.put])]
 simp only [SS,DD,Nat.reduceAdd]
 refine ⟨by simp [ar,apart], ?_⟩
 simp only [SS,DD,Nat.reduceAdd,ai eE,ae,jI,iu]
 refine ax KA (by simp [aJ]) ?_
 simp only [SS,DD,Nat.reduceAdd]
 refine ax l8 (by simp [aJ,af.bool]) ?_
 simp only [SS,DD,Nat.reduceAdd]
 rw [bB (k:=(AV.agg [.bool false, .nils]).size) (y := .agg [.bool false, .nils]) rfl (jJ _) (by simp [aa.put])]
 simp only [SS,DD,Nat.reduceAdd]
 refine ⟨by simp [ar,apart], ?_⟩
 refine ag▸ab (r:=IV (a*b)) ?_ (aF _)
 simp only [RS,bP,cu,ae,cp]
theorem UD {f ft fd fs:FuncId} (h:Has P f (lr ft fd fs)) (ht:gU P G ft) (hd:∀ m n,n≠0->ah m<=900000->ah n<=900000->VP P G fd [W m,W n] (.tup [W (m/n),W (m%n)]))
   (hs:jh P G fs) (a b:Int) (ha:ah a.natAbs<=900000) (hb:ah b.natAbs<=900000):VP P G f [IV a,IV b] (IV (Nat.gcd a.natAbs b.natAbs:Nat)):=by
 refine VP.has h ?_
 have eE:([0]:List Nat)≠[1]:=by decide
 have mV:([0]:List Nat)≠[2]:=by decide
 have nZ:([1]:List Nat)≠[2]:=by decide
 simp only [lr,SS,DD,Nat.reduceAdd,ia,cx,ai eE,ai mV,ae,iu]
 refine ax (qm ht a.natAbs (by omega)) (by simp [aJ]) ?_
 simp only [SS,DD,Nat.reduceAdd,ai nZ,ae,iu]
 refine ax (qm ht b.natAbs (by omega)) (by simp [aJ]) ?_
 simp only [SS,DD,Nat.reduceAdd]
 refine ⟨by simp [ar,apart], ?_⟩
 simp only [aC]
 refine VW.bJ (α := Nat × Nat × Nat) (fun x=>⟨[IV a,IV b, .top, .top, .ref [2] 0 0,W x.1,W x.2.1]++List.replicate 21 .top,
   aa.put (fun _=>none) [2] (some ⟨[.agg [.bool false, .nils]],(AV.agg [.bool false, .nils]).size,false⟩),x.2.2⟩)
   (fun x=>Nat.gcd x.1 x.2.1=Nat.gcd a.natAbs b.natAbs/\ah x.1<=900000/\ah x.2.1<=900000) (fun x=>x.2.1) (a.natAbs,b.natAbs,1000) ?_ ?_ ?_
 . exact Wk.forget (by simp [Fg,List.replicate]) (fun j=>by simp only [aa.put];split<;>simp_all) (by simp only [];omega)
 . exact ⟨rfl,ha,hb⟩
 rintro ⟨x,y,nn⟩ ⟨hg,hx,hy⟩
 simp only [] at hg hx hy
 have w1:=zt x y
 by_cases c3:0<ah y
 . have Uo:y≠0:=fun e=>by have:=bE.2 e;omega
   have g5:decide ((0:Int)<(ah y:Int))=true:=ao (by omega)
   simp only [SS,Nat.reduceAdd,bh,g5]
   refine aj (hd x y Uo hx hy) (by simp [aJ]) ?_
   simp only [SS,Nat.reduceAdd,uo,uq]
   exact ⟨(y,x%y,_),⟨wm hg,hy,by simp only [];omega⟩,Nat.mod_lt _ (Nat.pos_of_ne_zero Uo),Wk.slots (by simp [Fg]) (Nat.le_refl _)⟩
 . have g5:decide ((0:Int)<(ah y:Int))=false:=ak (by omega)
   have hyz:y=0:=bE.1 (by omega)
   rw [hyz,Nat.gcd_zero_right] at hg
   have l8:=hs false x (by omega)
   rw [n5] at l8
   simp only [SS,Nat.reduceAdd,bh,g5]
   refine aj l8 (by simp [af.bool,aJ]) ?_
   simp only [SS,Nat.reduceAdd,gy]
   rw [<- hg]
   refine ag▸ab (r:=IV (x:Int)) ?_ (aF _)
   simp only [RS,bP,cu,ae];rfl
theorem KG {f fn fd fs fm fsu Z0 ffi fa:FuncId} (h:Has P f (jt fn fd fs fm fsu Z0 ffi fa)) (hn:∀ z:Int,ah z.natAbs<=1000000->VP P G fn [IV z] (IV z))
   (hd:∀ m n,n≠0->ah m<=900000->ah n<=900000->VP P G fd [W m,W n] (.tup [W (m/n),W (m%n)])) (hs:jh P G fs)
   (hm:∀ a b:Int,ah a.natAbs<=1000000->ah b.natAbs<=1000000->VP P G fm [IV a,IV b] (IV (a*b))) (hsu:∀ a b:Int,ah a.natAbs<=1000000->ah b.natAbs<=1000000->VP P G fsu [IV a,IV b] (IV (a-b)))
   (IB:∀ z:Int,ah z.natAbs<=1000000->VP P G Z0 [IV z] (.int .i64 z.sign)) (a b:Nat) (G3:b≠0) (ha:ah a<=900000) (hb:ah b<=900000) :
   VP P G f [IV (a:Int),IV (b:Int)] (.tup [IV ((a/b:Nat):Int),IV ((a%b:Nat):Int), .int .i64 0]):=by
 refine VP.has h ?_
 have eE:([0]:List Nat)≠[1]:=by decide
 have mV:([0]:List Nat)≠[2]:=by decide
 have Xx:([0]:List Nat)≠[3]:=by decide
 have nZ:([1]:List Nat)≠[2]:=by decide
 have Tk:([1]:List Nat)≠[3]:=by decide
 have Z3:([2]:List Nat)≠[3]:=by decide
 have Ci:ah b≠0:=fun e=>G3 (bE.1 e)
 have d0:decide ((ah b:Int)=0)=false:=ak (by omega)
 have w1:=IG a b
 have w2:=zt a b
 have l8:=hs false (a/b) (by omega)
 rw [n5] at l8
 have hle:a/b*b<=a:=Nat.div_mul_le_self a b
 have MH:=hm ((a/b:Nat):Int) (b:Int) (by rw [kU];omega) (by rw [kU];omega)
 have w3:ah (a/b*b)<=ah a:=cP hle
 rw [<- Int.natCast_mul] at MH
 have aaA:=hsu (a:Int) ((a/b*b:Nat):Int) (by rw [kU];omega) (by rw [kU];omega)
 have er:(a:Int)-((a/b*b:Nat):Int)=((a%b:Nat):Int):=by have:=Nat.div_add_mod a b;rw [Nat.mul_comm] at this;omega
 rw [er] at aaA
 have adO:=IB ((a%b:Nat):Int) (by rw [kU];omega)
 have adP:=IB (b:Int) (by rw [kU];omega)
 have d1:decide (IntKind.i64.wrap (((a%b:Nat):Int).sign*(b:Int).sign)<0)=false:=by
   have e1:(b:Int).sign=1:=Int.sign_eq_one_of_pos (by omega)
   rw [e1,Int.mul_one]
   rcases Nat.eq_zero_or_pos (a%b) with e | e
   . rw [e];decide
   . rw [Int.sign_eq_one_of_pos (by omega)];decide
 simp only [jt,SS,DD,Nat.reduceAdd,ia,cx,ai eE,ai mV,ai Xx,ae,cp]
 refine ax (hn a (by rw [kU];omega)) (by simp [aF]) ?_
 simp only [SS,DD,Nat.reduceAdd,ai nZ,ai Tk,ae,cp]
 refine ax (hn b (by rw [kU];omega)) (by simp [aF]) ?_
 simp only [SS,DD,Nat.reduceAdd]
 rw [bB (k:=(IV (a:Int)).size) (y:=IV (a:Int)) rfl (sc _ _) (by simp [aa.put])]
 simp only [SS,DD,Nat.reduceAdd]
 rw [bB (k:=(IV (b:Int)).size) (y:=IV (b:Int)) rfl (sc _ _) (by simp [aa.put])]
 simp only [SS,DD,Nat.reduceAdd]
 refine ⟨by simp [ar,apart], ?_⟩
 simp only [SS,Nat.reduceAdd,ai eE,ae,iu,kU,bh,d0]
 refine aj (hd a b G3 ha hb) (by simp [aJ]) ?_
 simp only [SS,Nat.reduceAdd,uo,uq,ai eE,ae,jI,not_neg]
 have z0:([0]:List Nat)≠[32]:=by decide
 have z1:([1]:List Nat)≠[32]:=by decide
 have z2:([2]:List Nat)≠[32]:=by decide
 have y0:([0]:List Nat)≠[39]:=by decide
 have y1:([1]:List Nat)≠[39]:=by decide
 have y2:([32]:List Nat)≠[39]:=by decide
 have y3:([32]:List Nat)≠[2]:=by decide
 have y4:([39]:List Nat)≠[2]:=by decide
 have k10:([1]:List Nat)≠[0]:=by decide
 refine aj l8 (by simp [af.bool,aJ]) ?_
 simp only [SS,DD,Nat.reduceAdd,cx,gy,ai eE,ai z0,ai z1,ae,cp]
 refine ax MH (by simp [aF]) ?_
 simp only [SS,DD,Nat.reduceAdd]
 refine ax aaA (by simp [aF]) ?_
 simp only [SS,DD,Nat.reduceAdd,cx,gy]
 refine ⟨by simp [ar,apart], ?_⟩
 simp only [SS,DD,ae,cp]
 refine ax adO (by simp [aF]) ?_
 simp only [SS,DD,Nat.reduceAdd,ai z1,ai y1,ae,cp]
 refine ax adP (by simp [aF]) ?_
 simp only [SS,DD,Nat.reduceAdd]
 refine ⟨by simp [ar,apart], ?_⟩
 simp only [SS,DD,Nat.reduceAdd,d1,ai y2,ae,cp]
 rw [bB (k:=(AV.agg [.bool false, .nils]).size) (y := .agg [.bool false, .nils]) rfl (jJ _) (by simp [aa.put])]
 simp only [SS,DD,Nat.reduceAdd]
 rw [bB (k:=(AV.agg [.bool false, .nils]).size) (y := .agg [.bool false, .nils]) rfl (jJ _) (by simp [aa.put])]
 simp only [SS,DD,Nat.reduceAdd]
 refine ⟨by simp [ar,apart], ?_⟩
 refine ag▸ab (r := .tup [IV ((a/b:Nat):Int),IV ((a%b:Nat):Int), .int .i64 0]) ?_ (af.tup (by intro c hc;simp at hc;rcases hc with rfl | rfl | rfl;exact aF _;exact aF _;exact af.int _ _))
 simp only [RS,bP,cu,ai Z3,ae,cp]
theorem Rb {f fc:FuncId} (h:Has P f (kK fc)) (hc:∀ m n,ah m<=1000000->ah n<=1000000->VP P G fc [W m,W n] (.int .i64 (gp m n))) (a b:Int) (ha:ah a.natAbs<=1000000) (hb:ah b.natAbs<=1000000) :
   VP P G f [IV a,IV b] (.bool (decide (a=b))):=by
 refine VP.has h ?_
 have eE:([0]:List Nat)≠[1]:=by decide
 simp only [kK,SS,Nat.reduceAdd,ia,ai eE,ae,jI]
 by_cases MP:decide (a<0)=decide (b<0)
 . have d0:(decide (a<0)==decide (b<0))=true:=by rw [MP];exact beq_self_eq_true _
   have d1:decide (gp a.natAbs b.natAbs=0)=decide (a=b):=by
     have ah7:(a<0)↔(b<0):=by simpa using MP
     by_cases e:a=b
     . rw [ao e,ao (by rw [e];exact Gq rfl)]
     . rw [ak e,ak (fun e2=>e (by
         simp only [gp,iZ] at e2
         split at e2
         . omega
         . split at e2<;>omega))]
   simp only [SS,Nat.reduceAdd,d0,ai eE,ae,iu]
   refine aj (hc _ _ ha hb) (by simp [aJ]) ?_
   simp only [SS,Nat.reduceAdd,d1]
   exact ag▸ab rfl (af.bool _)
 . have d0:(decide (a<0)==decide (b<0))=false:=by simpa using MP
   have d1:decide (a=b)=false:=ak (fun e=>MP (by rw [e]))
   rw [d1]
   simp only [SS,Nat.reduceAdd,d0]
   exact ag▸ab rfl (af.bool _)
theorem Rc {f fd:FuncId} (h:Has P f (lu fd)) (a b:Nat) (hd:VP P G fd [IV (a:Int),IV (b:Int)] (.tup [IV ((a/b:Nat):Int),IV ((a%b:Nat):Int), .int .i64 0])):VP P G f [IV (a:Int),IV (b:Int)] (IV ((a/b:Nat):Int)):=by
 refine VP.has h ?_
 have eE:([0]:List Nat)≠[1]:=by decide
 have mV:([0]:List Nat)≠[2]:=by decide
 have nZ:([1]:List Nat)≠[2]:=by decide
 have ka:([10]:List Nat)≠[11]:=by decide
 have kb:([2]:List Nat)≠[10]:=by decide
 have kc:([2]:List Nat)≠[11]:=by decide
 simp only [lu,SS,Nat.reduceAdd,ia,cx,ai eE,ai mV,ai nZ,ae,cp]
 refine aj hd (by simp [aF]) ?_
 simp only [SS,Nat.reduceAdd,qo,qp,qq,cx]
 rw [bB (k:=(AV.agg [.bool false, .nils]).size) (y := .agg [.bool false, .nils]) rfl (jJ _) (by simp [aa.put])]
 simp only [SS,Nat.reduceAdd]
 rw [bB (k:=(AV.agg [.bool false, .nils]).size) (y := .agg [.bool false, .nils]) rfl (jJ _) (by simp [aa.put])]
 simp only [SS,Nat.reduceAdd,ai ka,ae,cp]
 rw [bB (k:=(AV.agg [.bool false, .nils]).size) (y := .agg [.bool false, .nils]) rfl (jJ _) (by simp [aa.put])]
 simp only [SS,Nat.reduceAdd]
 refine ag▸ab (r:=IV ((a/b:Nat):Int)) ?_ (aF _)
 simp only [RS,bP,cu,ae,cp]
end
end Go.VL
end

section
set_option linter.unusedVariables false
namespace Go.VL
theorem Wh (a b:Int):part false (RV a b).cells 1 1=some (W a.natAbs):=rfl
theorem sX {ws:List Nat} (hw:Wd ws):ah (val ws)<=ws.length:=jg (lC hw)
theorem IZ (neg:Bool) {ws:List Nat} (hw:Wd ws):(decide (ah (val ws)=ws.length)&&(!neg||decide (0<ws.length)))=iy neg ws:=by
 unfold iy
 by_cases h0:ws=[]
 . subst h0;simp [ah,val,bq]
 . rw [if_neg h0]
   have oy:0<ws.length:=List.length_pos_iff.2 h0
   rw [ao oy,Bool.or_true,Bool.and_true]
   obtain ⟨k,hk⟩:∃ k,ws.length=k+1:=⟨ws.length-1,by omega⟩
   obtain ⟨b,x,rfl,hb⟩:=uu hk
   have e:(b++[x])[(b++[x]).length-1]?.getD 0=x:=by simp
   rw [e]
   by_cases hx:x=0
   . rw [ak (show ¬ x≠0 from fun h=>h hx),hx,ky]
     exact ak (by have:=sX (fun w hw'=>hw w (by simp [hw']):Wd b);simp;omega)
   . rw [ao hx]
     exact ao (by rw [ah,lD hw (.inr ⟨x,by simp,hx⟩)])
section
variable {P:Program} {G:Nat->Option (List AV)}
theorem KH {f ft:FuncId} (h:Has P f (j5 ft)) (ht:gU P G ft) (neg:Bool) (ws:List Nat) (hw:Wd ws) (hl:ws.length<=9223372036854775807):VP P G f [IR neg ws] (.bool (iy neg ws)):=by
 refine VP.has h ?_
 have hlen:jM false (.sl 1 (us ws))=some (.int .i64 ws.length):=by simp [jM,dD]
 have e:=IZ neg hw
 have d0:decide ((ah (val ws):Int)=(ws.length:Int))=decide (ah (val ws)=ws.length):=by congr 1;apply propext;omega
 have d1:decide ((0:Int)<(ws.length:Int))=decide (0<ws.length):=by congr 1;apply propext;omega
 rw [<- e]
 simp only [j5,SS,DD,Nat.reduceAdd,yb,ae,II]
 refine ax (ht ws hw hl) (by simp [kS]) ?_
 simp only [SS,DD,Nat.reduceAdd,bh,ae,II,hlen,d0]
 by_cases c:ah (val ws)=ws.length
 . have c1:decide (ah (val ws)=ws.length)=true:=ao c
   cases neg
   . simp only [SS,DD,Nat.reduceAdd,c1,ae,QO,Bool.true_and,Bool.true_or]
     refine ⟨by simp [ar,apart], ?_⟩
     exact ag▸ab rfl (af.bool _)
   . simp only [SS,DD,Nat.reduceAdd,c1,ae,QO,II,hlen,Bool.true_and,Bool.false_or,d1]
     refine ⟨by simp [ar,apart], ?_⟩
     exact ag▸ab rfl (af.bool _)
 . have c1:decide (ah (val ws)=ws.length)=false:=ak c
   simp only [SS,DD,Nat.reduceAdd,c1,Bool.false_and]
   refine ⟨by simp [ar,apart], ?_⟩
   exact ag▸ab rfl (af.bool _)
theorem Gz {f fi:FuncId} (h:Has P f (iX fi)) (a:Int) (hi:VP P G fi [.int .i64 a] (IV a)) (ho:VP P G fi [.int .i64 1] (IV 1)):VP P G f [.int .i64 a] (RV a 1):=by
 refine VP.has h ?_
 have e:(AV.agg [.bool (decide (a<0)),W a.natAbs, .bool (decide ((1:Int)<0)),W (1:Int).natAbs])=RV a 1:=rfl
 simp only [iX,SS,Nat.reduceAdd,mM]
 refine aj hi (by simp [af.int]) ?_
 simp only [SS,Nat.reduceAdd]
 refine aj ho (by simp [af.int]) ?_
 simp only [SS,Nat.reduceAdd,pH,e,IC]
 refine ag▸ab (r:=RV a 1) ?_ (fB _ _)
 simp only [RS,bP,cu,ae];rfl
theorem Re {f:FuncId} (h:Has P f lv) (z:Int):VP P G f [IV z] (.bool (decide (z=1))):=by
 refine VP.has h ?_
 have hl:ah z.natAbs=1->∃ w,digits z.natAbs=[w]:=fun h=>List.length_eq_one_iff.1 h
 have h11:ah 1=1:=by unfold ah;rw [iY (by decide),show 1/au=0 from rfl,bq];rfl
 simp only [lv,SS,Nat.reduceAdd,ia,ae,iu,bh]
 by_cases h1:ah z.natAbs=1
 . have d1:decide ((ah z.natAbs:Int)=1)=true:=ao (by omega)
   obtain ⟨w,hw⟩:=hl h1
   have hg:(digits z.natAbs)[0]? = some w:=by rw [hw];rfl
   have QI:br 1 (W z.natAbs) (.int .i64 0)=some (.ep (AV.int .u32 (w:Int)).cells 0):=aQ (i:=0) rfl (r9 hg)
   have hv:z.natAbs=w:=by have:=aI z.natAbs;rw [hw] at this;simp [val] at this;omega
   by_cases uK:w=1
   . have d2:decide ((w:Int)=1)=true:=ao (by omega)
     have e:(!decide (z<0))=decide (z=1):=by
       by_cases hn:z<0
       . rw [ao hn,ak (by omega)];rfl
       . rw [ak hn,ao (by omega)];rfl
     simp only [SS,Nat.reduceAdd,d1,ae,jI,iu,QI,az,bm,d2,e]
     exact ag▸ab rfl (af.bool _)
   . have d2:decide ((w:Int)=1)=false:=ak (by omega)
     have e:decide (z=1)=false:=ak (by omega)
     simp only [SS,Nat.reduceAdd,d1,ae,iu,QI,az,bm,d2,e]
     exact ag▸ab rfl (af.bool _)
 . have d1:decide ((ah z.natAbs:Int)=1)=false:=ak (by omega)
   have e:decide (z=1)=false:=ak (by intro e;rw [e] at h1;exact h1 h11)
   simp only [SS,Nat.reduceAdd,d1,e]
   exact ag▸ab rfl (af.bool _)
set_option maxHeartbeats 2000000 in
theorem Rf {f ff fo fm fg fq:FuncId} (h:Has P f (lx ff fo fm fg fq)) (a b c d:Nat) (J5:c≠0) (hf:VP P G ff [.int .i64 0] (RV 0 1)) (ho:∀ z:Int,VP P G fo [IV z] (.bool (decide (z=1))))
   (hm:∀ x y:Nat,x<=a->y<=c->VP P G fm [IV (x:Int),IV (y:Int)] (IV ((x*y:Nat):Int))) (tp:∀ x y:Nat,x<=b->y<=d->VP P G fm [IV (x:Int),IV (y:Int)] (IV ((x*y:Nat):Int)))
   (Y0:VP P G fg [IV (a:Int),IV (d:Int)] (IV ((Nat.gcd a d:Nat):Int))) (hg2:VP P G fg [IV (c:Int),IV (b:Int)] (IV ((Nat.gcd c b:Nat):Int)))
   (hq:∀ x y:Nat,(x=a∨x=b∨x=c∨x=d)->(y=Nat.gcd a d∨y=Nat.gcd c b)->VP P G fq [IV (x:Int),IV (y:Int)] (IV ((x/y:Nat):Int))) :
   VP P G f [RV (a:Int) (b:Int),RV (c:Int) (d:Int)] (if a=0 then RV 0 1 else if b=1/\d=1 then RV ((a*c:Nat):Int) (b:Int) else RV (((a/Nat.gcd a d)*(c/Nat.gcd c b):Nat):Int) (((b/Nat.gcd c b)*(d/Nat.gcd a d):Nat):Int)):=by
 refine VP.has h ?_
 have eE:([0]:List Nat)≠[1]:=by decide
 have mV:([0]:List Nat)≠[2]:=by decide
 have nZ:([1]:List Nat)≠[2]:=by decide
 have IH:∀ x y:Int,(AV.agg [.bool (decide (x<0)),W x.natAbs, .bool (decide (y<0)),W y.natAbs])=RV x y:=fun _ _=>rfl
 have hwc:ah c≠0:=fun e=>J5 (bE.1 e)
 have dc:decide ((ah c:Int)=0)=false:=ak (by omega)
 simp only [lx,SS,Nat.reduceAdd,ya,mM,ai eE,ai mV,ae,Wh,bh,kU]
 by_cases Y1:a=0
 . have da:decide ((ah a:Int)=0)=true:=ao (by have:=bE.2 Y1;omega)
   rw [if_pos Y1]
   simp only [SS,Nat.reduceAdd,da]
   refine aj hf (by simp [af.int]) ?_
   simp only [SS,Nat.reduceAdd]
   rw [gW (k:=(AV.agg [.bool false, .nils, .bool false, .nils]).size) (by simp [aa.put])]
   simp only [SS,Nat.reduceAdd]
   refine ag▸ab (r:=RV 0 1) ?_ (fB _ _)
   simp only [RS,bP,cu,ae]
   rfl
 have da:decide ((ah a:Int)=0)=false:=ak (by have:ah a≠0:=fun e=>Y1 (bE.1 e);omega)
 rw [if_neg Y1]
 simp only [SS,Nat.reduceAdd,da,ai eE,ai mV,ai nZ,ae,Wh,mj,bh,kU,dc]
 refine aj (ho b) (by simp [aF]) ?_
 have m0:([0]:List Nat)≠[33]:=by decide
 have m1:([1]:List Nat)≠[33]:=by decide
 have n0:([0]:List Nat)≠[34]:=by decide
 have n1:([1]:List Nat)≠[34]:=by decide
 have mn:([33]:List Nat)≠[34]:=by decide
 by_cases Rg:decide ((b:Int)=1)=true
 . simp only [SS,Nat.reduceAdd,Rg,ai nZ,ae,mj]
   first
   | refine aj (ho d) (by simp [aF]) ?_
     by_cases hd:d=1
     . have d2:decide ((d:Int)=1)=true:=ao (by omega)
       have qF:b=1:=by have:(b:Int)=1:=(by simpa using Rg);omega
       rw [if_pos ⟨qF,hd⟩]
       simp only [SS,DD,Nat.reduceAdd,d2,ai eE,ai mV,ai nZ,ae,nz]
       refine ax (hm a c (Nat.le_refl _) (Nat.le_refl _)) (by simp [aF]) ?_
       simp only [SS,DD,Nat.reduceAdd,ai eE,ai mV,ae,mj,pH,IH]
       rw [gW (k:=(AV.agg [.bool false, .nils, .bool false, .nils]).size) (by simp [aa.put])]
       simp only [SS,DD,Nat.reduceAdd]
       refine ⟨by simp [ar,apart], ?_⟩
       refine ag▸ab (r:=RV ((a*c:Nat):Int) (b:Int)) ?_ (fB _ _)
       simp only [RS,bP,cu,ae]
       rfl
     have d2:decide ((d:Int)=1)=false:=ak (by omega)
     rw [if_neg (fun e=>hd e.2)]
     simp only [SS,DD,Nat.reduceAdd,d2,ai eE,ai mV,ai nZ,ae,nz,mj]
   | have qF:b≠1:=by have:(b:Int)≠1:=(by simpa using Rg);omega
     rw [if_neg (fun e=>qF e.1)]
     simp only [SS,DD,Nat.reduceAdd,reduceIte,ai eE,ai mV,ai nZ,ae,nz,mj]
   refine ax Y0 (by simp [aF]) ?_
   simp only [SS,DD,Nat.reduceAdd,ai eE,ai mV,ai nZ,ae,nz,mj]
   refine ax hg2 (by simp [aF]) ?_
   simp only [SS,DD,Nat.reduceAdd,cx]
   rw [bB (k:=(AV.agg [.bool false, .nils]).size) (y := .agg [.bool false, .nils]) rfl (jJ _) (by simp [aa.put])]
   simp only [SS,DD,Nat.reduceAdd]
   rw [bB (k:=(AV.agg [.bool false, .nils]).size) (y := .agg [.bool false, .nils]) rfl (jJ _) (by simp [aa.put])]
   simp only [SS,DD,Nat.reduceAdd]
   refine ⟨by simp [ar,apart], ?_⟩
   simp only [SS,DD,Nat.reduceAdd,ai eE,ai mV,ai m0,ai n0,ai mn,ae,nz,cp]
   refine ax (hq a _ (.inl rfl) (.inl rfl)) (by simp [aF]) ?_
   simp only [SS,DD,Nat.reduceAdd,ai nZ,ai m1,ai n1,ae,nz,cp]
   refine ax (hq c _ (.inr (.inr (.inl rfl))) (.inr rfl)) (by simp [aF]) ?_
   simp only [SS,DD,Nat.reduceAdd]
   refine ax (hm (a/Nat.gcd a d) (c/Nat.gcd c b) (Nat.div_le_self _ _) (Nat.div_le_self _ _)) (by simp [aF]) ?_
   simp only [SS,DD,Nat.reduceAdd,ai eE,ai mV,ai m0,ai n0,ae,mj,cp]
   refine ax (hq b _ (.inr (.inl rfl)) (.inr rfl)) (by simp [aF]) ?_
   simp only [SS,DD,Nat.reduceAdd,ai nZ,ai m1,ai n1,ai mn,ae,mj,cp]
   refine ax (hq d _ (.inr (.inr (.inr rfl))) (.inl rfl)) (by simp [aF]) ?_
   simp only [SS,DD,Nat.reduceAdd]
   refine ax (tp (b/Nat.gcd c b) (d/Nat.gcd a d) (Nat.div_le_self _ _) (Nat.div_le_self _ _)) (by simp [aF]) ?_
   simp only [SS,DD,Nat.reduceAdd,pH,IH]
   rw [gW (k:=(AV.agg [.bool false, .nils, .bool false, .nils]).size) (by simp [aa.put])]
   simp only [SS,DD,Nat.reduceAdd]
   refine ⟨by simp [ar,apart], ?_⟩
   refine ag▸ab (r:=RV (((a/Nat.gcd a d)*(c/Nat.gcd c b):Nat):Int) (((b/Nat.gcd c b)*(d/Nat.gcd a d):Nat):Int)) ?_ (fB _ _)
   simp only [RS,bP,cu,ae]
   rfl
 by_cases KI:decide ((b:Int)=1)=false
 . simp only [SS,Nat.reduceAdd,KI]
   first
   | refine aj (ho d) (by simp [aF]) ?_
     by_cases hd:d=1
     . have d2:decide ((d:Int)=1)=true:=ao (by omega)
       have qF:b=1:=by have:(b:Int)=1:=(by simpa using KI);omega
       rw [if_pos ⟨qF,hd⟩]
       simp only [SS,DD,Nat.reduceAdd,reduceIte,d2,ai eE,ai mV,ai nZ,ae,nz,mj]
       refine ax (hm a c (Nat.le_refl _) (Nat.le_refl _)) (by simp [aF]) ?_
       simp only [SS,DD,Nat.reduceAdd,reduceIte,ai eE,ai mV,ai nZ,ae,nz,mj,pH,IH]
       rw [gW (k:=(AV.agg [.bool false, .nils, .bool false, .nils]).size) (by simp [aa.put])]
       simp only [SS,DD,Nat.reduceAdd,reduceIte]
       refine ⟨by simp [ar,apart], ?_⟩
       refine ag▸ab (r:=RV ((a*c:Nat):Int) (b:Int)) ?_ (fB _ _)
       simp only [RS,bP,cu,ae]
       rfl
     have d2:decide ((d:Int)=1)=false:=ak (by omega)
     rw [if_neg (fun e=>hd e.2)]
     simp only [SS,DD,Nat.reduceAdd,reduceIte,d2,ai eE,ai mV,ai nZ,ae,nz,mj]
   | have qF:b≠1:=by have:(b:Int)≠1:=(by simpa using KI);omega
     rw [if_neg (fun e=>qF e.1)]
     simp only [SS,DD,Nat.reduceAdd,ai eE,ai mV,ai nZ,ae,nz,mj]
   refine ax Y0 (by simp [aF]) ?_
   simp only [SS,DD,Nat.reduceAdd,ai eE,ai mV,ai nZ,ae,nz,mj]
   refine ax hg2 (by simp [aF]) ?_
   simp only [SS,DD,Nat.reduceAdd,cx]
   rw [bB (k:=(AV.agg [.bool false, .nils]).size) (y := .agg [.bool false, .nils]) rfl (jJ _) (by simp [aa.put])]
   simp only [SS,DD,Nat.reduceAdd]
   rw [bB (k:=(AV.agg [.bool false, .nils]).size) (y := .agg [.bool false, .nils]) rfl (jJ _) (by simp [aa.put])]
   simp only [SS,DD,Nat.reduceAdd]
   refine ⟨by simp [ar,apart], ?_⟩
   simp only [SS,DD,Nat.reduceAdd,ai eE,ai mV,ai m0,ai n0,ai mn,ae,nz,cp]
   refine ax (hq a _ (.inl rfl) (.inl rfl)) (by simp [aF]) ?_
   simp only [SS,DD,Nat.reduceAdd,ai nZ,ai m1,ai n1,ae,nz,cp]
   refine ax (hq c _ (.inr (.inr (.inl rfl))) (.inr rfl)) (by simp [aF]) ?_
   simp only [SS,DD,Nat.reduceAdd]
   refine ax (hm (a/Nat.gcd a d) (c/Nat.gcd c b) (Nat.div_le_self _ _) (Nat.div_le_self _ _)) (by simp [aF]) ?_
   simp only [SS,DD,Nat.reduceAdd,ai eE,ai mV,ai m0,ai n0,ae,mj,cp]
   refine ax (hq b _ (.inr (.inl rfl)) (.inr rfl)) (by simp [aF]) ?_
   simp only [SS,DD,Nat.reduceAdd,ai nZ,ai m1,ai n1,ai mn,ae,mj,cp]
   refine ax (hq d _ (.inr (.inr (.inr rfl))) (.inl rfl)) (by simp [aF]) ?_
   simp only [SS,DD,Nat.reduceAdd]
   refine ax (tp (b/Nat.gcd c b) (d/Nat.gcd a d) (Nat.div_le_self _ _) (Nat.div_le_self _ _)) (by simp [aF]) ?_
   simp only [SS,DD,Nat.reduceAdd,pH,IH]
   rw [gW (k:=(AV.agg [.bool false, .nils, .bool false, .nils]).size) (by simp [aa.put])]
   simp only [SS,DD,Nat.reduceAdd]
   refine ⟨by simp [ar,apart], ?_⟩
   refine ag▸ab (r:=RV (((a/Nat.gcd a d)*(c/Nat.gcd c b):Nat):Int) (((b/Nat.gcd c b)*(d/Nat.gcd a d):Nat):Int)) ?_ (fB _ _)
   simp only [RS,bP,cu,ae]
   rfl
 exfalso;cases hd:decide ((b:Int)=1)<;>simp_all
end
end Go.VL
end

section
namespace Go.VL
open Go.Lib
def pk:Nat->Nat->List UInt8
 | 0,_=>[]
 | k+1,r=>pk k (r/10)++[UInt8.ofNat (48+r%10)]
theorem wo {n:Nat} (h:n<10):decDigits n=[UInt8.ofNat (48+n)]:=decDigits_one h
theorem GC {n:Nat} (h : ¬ n<10):decDigits n=decDigits (n/10)++[UInt8.ofNat (48+n%10)]:=by rw [decDigits,dif_neg h]
theorem Rh (k:Nat):∀ {n:Nat},10 ^ k<=n->0<k->decDigits n=decDigits (n/10 ^ k)++pk k (n%10 ^ k):=by
 induction k with
 | zero=>intro n _ h;omega
 | succ k ih =>
   intro n h _
   have Tn:10<=n:=by
     have:0<10 ^ k:=Nat.pow_pos (by decide)
     rw [Nat.pow_succ] at h;omega
   rw [GC (by omega)]
   have e1:n%10 ^ (k+1)/10=n/10%10 ^ k:=by rw [Nat.pow_succ,Nat.mul_comm,Nat.mod_mul_right_div_self]
   have e2:n%10 ^ (k+1)%10=n%10:=by rw [Nat.pow_succ,Nat.mul_comm,Nat.mod_mul_right_mod]
   have e3:n/10 ^ (k+1)=n/10/10 ^ k:=by rw [Nat.pow_succ,Nat.mul_comm,Nat.div_div_eq_div_mul]
   simp only [pk]
   rw [e1,e2,e3, <- List.append_assoc]
   congr 1
   rcases Nat.eq_zero_or_pos k with hk | hk
   . subst hk;simp [pk]
   . refine ih ?_ hk
     rw [Nat.pow_succ,Nat.mul_comm] at h
     exact (Nat.le_div_iff_mul_le (by decide)).2 (by rw [Nat.mul_comm];exact h)
theorem MQ {k:Nat}:∀ {r:Nat},0<k->r<10 ^ k->nDigits r<=k:=by
 induction k with
 | zero=>intro r h;omega
 | succ k ih =>
   intro r _ h
   by_cases hr:r<10
   . rw [nDigits_small hr];omega
   . rw [nDigits_big hr]
     have hk:0<k:=by
       rcases Nat.eq_zero_or_pos k with e | e
       . subst e;simp at h;omega
       . exact e
     have:=ih (r:=r/10) hk (by rw [Nat.pow_succ] at h;exact Nat.div_lt_of_lt_mul (by rw [Nat.mul_comm];exact h))
     omega
theorem UE (k:Nat):pk k 0=List.replicate k 48:=by
 induction k with
 | zero=>rfl
 | succ k ih=>simp only [pk,Nat.zero_div,Nat.zero_mod];rw [ih,List.replicate_succ'];rfl
theorem Wi (k:Nat):∀ {r:Nat},0<k->r<10 ^ k->pk k r=List.replicate (k-nDigits r) 48++decDigits r:=by
 induction k with
 | zero=>intro r h;omega
 | succ k ih =>
   intro r _ h
   simp only [pk]
   by_cases hr:r<10
   . rw [nDigits_small hr,wo hr,Nat.div_eq_of_lt hr,Nat.mod_eq_of_lt hr]
     rw [UE,Nat.add_sub_cancel]
   . have hk:0<k:=by
       rcases Nat.eq_zero_or_pos k with e | e
       . subst e;simp at h;omega
       . exact e
     have hlt:r/10<10 ^ k:=by rw [Nat.pow_succ] at h;exact Nat.div_lt_of_lt_mul (by rw [Nat.mul_comm];exact h)
     rw [ih hk hlt,nDigits_big hr,GC hr, <- List.append_assoc]
     congr 3;omega
end Go.VL
end

section
set_option linter.unusedVariables false
namespace Go.VL
open Go.Lib
theorem UF (n:Nat) (hn:n≠0):(decDigits n).length<=10*ah n:=by
 rw [decDigits_length]
 have h1:=cN n
 have h2:au ^ ah n<=(10 ^ 10) ^ ah n:=Nat.pow_le_pow_left (by decide) _
 rw [<- Nat.pow_mul] at h2
 have hw:ah n≠0:=fun e=>hn (bE.1 e)
 exact MQ (by omega) (Nat.lt_of_lt_of_le h1 h2)
theorem UG {a b:List UInt8} (h:(a++b).length<=maxLen):bo .add .str (.str a) (.str b)=some (.str (a++b)):=by
 have h':a.length+b.length<=maxLen:=by rw [<- List.length_append];exact h
 simp [bo,kW,Pl,h']
theorem XZ {σ : aa} {q:Id} {x:Nat} (_hx:x<256):mI (σ.put q (some ⟨[.int .u8 (x:Int)],1,false⟩)) (.osl q 1 0 1 false)=some { val := .str [UInt8.ofNat x],rd:=[q] }:=by
 simp [mI,dA,aa.put,bytesOf]
theorem UH {σ : aa} {q:Id} {x:Nat}:b8 σ q (.buildSl 1 1 (.int .u8 0) [(0, .int .u8 (x:Int))])=some { val := .osl q 1 0 1 false,up:=[(q,some ⟨[.int .u8 (x:Int)],1,false⟩)] }:=Xg rfl rfl rfl rfl
section
variable {P:Program} {G:Nat->Option (List AV)}
theorem KJ {f fn fb:FuncId} (h:Has P f (jv fn fb)) (hn:∀ z:Int,ah z.natAbs<=1000000->VP P G fn [IV z] (IV z))
   (JY:∀ m w:Nat,ah m<=1000000->w<au->w≠0->VP P G fb [W m, .int .u32 (w:Int)] (.tup [W (m/w), .int .u32 ((m%w:Nat):Int)])) (n:Nat) (hw:ah n<=1000000):VP P G f [IV (n:Int)] (.str (decDigits n)):=by
 refine VP.has h ?_
 simp only [jv,SS,Nat.reduceAdd,ia,ae,cp]
 refine aj (hn n (by rw [kU];exact hw)) (by simp [aF]) ?_
 simp only [SS,Nat.reduceAdd]
 rw [bB (k:=(IV (n:Int)).size) (y:=IV (n:Int)) rfl (sc _ _) (by simp [aa.put])]
 simp only [SS,Nat.reduceAdd,ae,iu,kU,aC]
 refine VW.bJ (α := Nat × List UInt8 × Nat) (fun x=>⟨[.top, .ref [0] 0 0, .top, .str x.2.1,W x.1]++List.replicate 29 .top,
   aa.put (fun _=>none) [0] (some ⟨[IV (n:Int)],(IV (n:Int)).size,false⟩),x.2.2⟩)
   (fun x=>ah x.1<=ah n/\(x.1≠0->n≠0)/\(if x.1=0 then (if n=0 then x.2.1=[] else x.2.1=decDigits n) else decDigits n=decDigits x.1++x.2.1)) (fun x=>x.1) (n,[],1000) ?_ ?_ ?_
 . exact Wk.forget (by simp [Fg,List.replicate]) (fun j=>by simp only [aa.put];split<;>simp_all) (by simp only [];omega)
 . refine ⟨Nat.le_refl _,fun h=>h, ?_⟩
   simp only []
   by_cases h0:n=0
   . rw [if_pos h0,if_pos h0];trivial
   . rw [if_neg h0,List.append_nil]
 rintro ⟨m,s,nn⟩ ⟨hm,hmn,hs⟩
 simp only [] at hm hmn hs
 by_cases h0:m=0
 . rw [if_pos h0] at hs
   have d0:decide ((0:Int)<(ah m:Int))=false:=ak (by have:=bE.2 h0;omega)
   by_cases tC:n=0
   . rw [if_pos tC] at hs
     subst hs
     have e:decDigits n=[48]:=by rw [tC,wo (by decide)];rfl
     have ds:(([]:List UInt8)==[])=true:=by decide
     rw [e]
     simp only [SS,Nat.reduceAdd,bh,d0]
     exact ag▸ab rfl (af.str _)
   . rw [if_neg tC] at hs
     have hne:s≠[]:=by
       rw [hs];intro e
       have:=congrArg List.length e
       rw [decDigits_length] at this
       by_cases hr:n<10
       . rw [nDigits_small hr] at this;simp at this
       . rw [nDigits_big hr] at this;simp at this
     have ds:(s==[])=false:=by simpa using hne
     rw [<- hs]
     simp only [SS,Nat.reduceAdd,bh,d0,ds,ae,jI,not_neg]
     exact ag▸ab rfl (af.str _)
 . rw [if_neg h0] at hs
   have d0:decide ((0:Int)<(ah m:Int))=true:=ao (by have:ah m≠0:=fun e=>h0 (bE.1 e);omega)
   have hb:=JY m 10 (by omega) (by decide) (by decide)
   have hr:m%10<10:=Nat.mod_lt _ (by decide)
   have f1:IntKind.u32.wrap (48+((m%10:Nat):Int))=((48+m%10:Nat):Int):=by rw [IntKind.wrap_u32];omega
   have f2:IntKind.u8.wrap ((48+m%10:Nat):Int)=((48+m%10:Nat):Int):=by rw [IntKind.wrap_u8];omega
   have hlt:m/10<m:=Nat.div_lt_self (Nat.pos_of_ne_zero h0) (by decide)
   have hwm:ah (m/10)<=ah n:=Nat.le_trans (cP (Nat.div_le_self _ _)) hm
   have uT:(if m/10=0 then (if n=0 then [UInt8.ofNat (48+m%10)]++s=[] else [UInt8.ofNat (48+m%10)]++s=decDigits n) else decDigits n=decDigits (m/10)++([UInt8.ofNat (48+m%10)]++s)):=by
     by_cases hq:m/10=0
     . have aaB:m<10:=by omega
       rw [if_pos hq]
       rw [wo aaB] at hs
       rw [if_neg (hmn h0),Nat.mod_eq_of_lt aaB];exact hs.symm
     . rw [if_neg hq]
       rw [GC (n:=m) (by omega)] at hs
       rw [hs];simp
   have tC:=hmn h0
   have Cy:([UInt8.ofNat (48+m%10)]++s).length<=maxLen:=by
     have h1:=UF n tC
     have h2:=congrArg List.length hs
     rw [List.length_append,decDigits_length m] at h2
     have h3:1<=nDigits m:=by
       by_cases hr:m<10
       . rw [nDigits_small hr];exact Nat.le_refl _
       . rw [nDigits_big hr];omega
     refine cK ?_
     rw [List.length_append];simp;omega
   have hsa:bo .add .str (.str [UInt8.ofNat (48+m%10)]) (.str s)=some (.str ([UInt8.ofNat (48+m%10)]++s)):=UG Cy
   simp only [SS,Nat.reduceAdd,bh,d0]
   refine aj hb (by simp [aJ,af.int]) ?_
   simp only [SS,Nat.reduceAdd,uo,uq,f1,f2,UH,XZ (show 48+m%10<256 by omega),hsa]
   refine ⟨(m/10,[UInt8.ofNat (48+m%10)]++s,_),⟨hwm,fun _=>tC,uT⟩,hlt,Wk.forget (by simp [Fg]) (fun j => ?_) (Nat.le_refl _)⟩
   simp only [aa.put]
   by_cases e:j=[0]
   . subst e;right
     simp
   . left;simp [e]
end
end Go.VL
end

section
namespace Go.Proofs
open Go.VL Go.RowKit
def cQ (ws:List Nat):List Int:=ws.map fun w:Nat=>(w:Int)
theorem lP (ws:List Nat):(cQ ws).length=ws.length:=List.length_map ..
theorem Oh (a b:Nat) (ha:a<18446744073709551616) (hb:b<18446744073709551616):bits BinOp.or IntKind.u64 (a:Int) (b:Int)=((a ||| b:Nat):Int):=by
 have h:=Xm a b ha hb
 rw [Kt] at h
 simp only [Option.some.injEq,AV.int.injEq,true_and] at h
 rw [<- h];rfl
theorem Tryz.yc (r a:Nat) (hr:r<au) (ha:a<au):Tryz.C9 (r:Int) (a:Int)=((au*r+a:Nat):Int):=by
 unfold Tryz.C9
 have h1:IntKind.u64.wrap ((r:Int)*4294967296)=((au*r:Nat):Int):=by rw [IntKind.wrap_u64];unfold au at *;omega
 rw [h1,bn a ha,Oh _ _ (by unfold au at *;omega) (by unfold au at *;omega)]
 have:=Nat.two_pow_add_eq_or_of_lt (i:=32) (b:=a) (by unfold au at ha;omega) r
 rw [show au=2 ^ 32 from rfl,this]
theorem Tryz.toU_digits (n:Nat) (hn:n<18446744073709551616):Tryz.toU (Tryz.upto (Tryz.bw (cQ (digits n))) (cQ (digits n)).length)=(n:Int):=by
 have hw:=nY n hn
 have hd:=aO n
 have hv:=aI n
 unfold ah at hw
 generalize digits n=ds at hw hd hv
 match ds,hw,hd,hv with
 | [],_,_,hv=>subst hv;rfl
 | [a],_,hd,hv =>
   have ha:=hd a (by simp)
   have e:=Tryz.yc 0 a cV ha
   simp only [val,Nat.mul_zero,Nat.add_zero] at hv
   have:(n:Int)=((au*0+a:Nat):Int):=by omega
   rw [this, <- e];rfl
 | [a,b],_,hd,hv =>
   have ha:=hd a (by simp)
   have hb:=hd b (by simp)
   have e1:=Tryz.yc 0 b cV hb
   rw [Nat.mul_zero,Nat.zero_add] at e1
   have e2:=Tryz.yc b a hb ha
   simp only [val,Nat.mul_zero,Nat.add_zero] at hv
   have:(n:Int)=((au*b+a:Nat):Int):=by omega
   rw [this, <- e2]
   show Tryz.C9 (Tryz.C9 0 (b:Int)) (a:Int)=_
   have e3:Tryz.C9 0 (b:Int)=(b:Int):=e1
   rw [e3]
 | _::_::_::_,hw,_,_=>simp at hw
theorem Tryz.toUint_vp (G:Nat->Option (List AV)) (n:Nat) (hn:n<18446744073709551616):VP Tryz.prog G 165 [W n] (.int .u64 (n:Int)):=by
 refine VP.wN (r:={ val := .int .u64 (n:Int) }) (aB.vJ Tryz.func165 (by kernel_rfl) (by kernel_rfl) ?_) (b7.int _ _)
 intro own E w σ vs _ hi hr
 simp only [aM] at hr
 obtain ⟨v,_,rfl,hv,rfl⟩:=hr
 have hus:us (digits n)=(cQ (digits n)).map (AV.int .u32):=by simp [us,cQ]
 have vz:dA σ 1 (W n)=some ((cQ (digits n)).map (AV.int .u32),[]):=by rw [W,eX,hus]
 obtain ⟨a,cap,rfl,hle,rr⟩:=P1 hi hv vz
 have hI:Tryz.NQ w.heap.size w (.slice a (cQ (digits n)).length cap) (cQ (digits n)):=by
   rcases rr with h | ⟨b,o,rfl,hb,hc⟩
   . rw [h];exact .inl ⟨a,cap,rfl,rfl⟩
   . exact .inr ⟨b,o,cap,rfl,hb,hc⟩
 have hlen:(cQ (digits n)).length<=2:=by rw [lP];exact nY n hn
 refine (callsIn_wide (n:=3)).1 ((Tryz.toUint_in Fence.wide 3 trivial trivial trivial rfl (by omega) a _ cap _ (by omega) w hI).mono ?_)
 rintro e W' ⟨rfl,hB⟩
 rw [Tryz.toU_digits n hn]
 exact ⟨_,rfl,hB,fun E w=>by simp only [aL]⟩
end Go.Proofs
end

section
set_option linter.unusedVariables false
set_option maxRecDepth 100000
namespace Go.VL
open Go.Lib
def AU (X0:Nat):bX:=(.block 0 (.loop (.seq (.seq (.reg none [⟨(some 18),(.mv (.t 3)),none⟩,⟨(some 19),(.len false (.t 18)),none⟩,⟨(some 20),(.bin .gtr .int (.t 19) (.c (.int .i64 (0)))),none⟩]) (.cond (.t 20) .skip (.exit 0))) (.block 1 (.seq (.reg none [⟨(some 5),(.mv (.c (.int .u64 (0)))),none⟩]) (.seq (.seq (.reg none [⟨(some 21),(.mv (.t 3)),none⟩,⟨(some 22),(.len false (.t 21)),none⟩,⟨(some 23),(.bin .sub .int (.t 22) (.c (.int .i64 (1)))),none⟩,⟨(some 6),(.mv (.t 23)),none⟩]) (.block 2 (.loop (.seq (.seq (.reg none [⟨(some 24),(.mv (.t 6)),none⟩,⟨(some 25),(.bin .geq .int (.t 24) (.c (.int .i64 (0)))),none⟩]) (.cond (.t 25) .skip (.exit 2))) (.seq (.block 3 (.seq (.reg none [⟨(some 28),(.mv (.t 5)),none⟩,⟨(some 29),(.bin .shl .int (.t 28) (.c (.int .u64 (32)))),none⟩,⟨(some 30),(.mv (.t 3)),none⟩,⟨(some 31),(.mv (.t 6)),none⟩,⟨(some 32),(.iaddrS 1 (.t 30) (.t 31)),none⟩,⟨(some 33),(.load false 1 (.t 32)),none⟩,⟨(some 34),(.toInt .u64 (.t 33)),none⟩,⟨(some 35),(.bin .or .int (.t 29) (.t 34)),none⟩,⟨(some 5),(.mv (.t 35)),none⟩]) (.seq (.reg none [⟨(some 36),(.mv (.t 3)),none⟩,⟨(some 37),(.mv (.t 6)),none⟩,⟨(some 38),(.mv (.t 5)),none⟩,⟨(some 39),(.bin .quo .int (.t 38) (.c (.int .u64 (1000000000)))),none⟩,⟨(some 40),(.toInt .u32 (.t 39)),none⟩,⟨(some 41),(.iaddrS 1 (.t 36) (.t 37)),none⟩,⟨none,(.store 1 (.t 41) (.t 40)),none⟩]) (.reg none [⟨(some 42),(.mv (.t 5)),none⟩,⟨(some 43),(.bin .rem .int (.t 42) (.c (.int .u64 (1000000000)))),none⟩,⟨(some 5),(.mv (.t 43)),none⟩])))) (.reg none [⟨(some 26),(.mv (.t 6)),none⟩,⟨(some 27),(.bin .sub .int (.t 26) (.c (.int .i64 (1)))),none⟩,⟨(some 6),(.mv (.t 27)),none⟩])))))) (.seq (.reg none [⟨(some 44),(.mv (.t 3)),none⟩,⟨(some 45),(.call (.f X0) [(.t 44)]),none⟩,⟨(some 3),(.mv (.t 45)),none⟩]) (.reg none [⟨(some 46),(.load false 1 (.t 4)),none⟩,⟨(some 47),(.mv (.t 5)),none⟩,⟨(some 48),(.toInt .u32 (.t 47)),none⟩,⟨(some 49),(.buildSl 1 1 (.int .u32 (0)) [(0,(.t 48))]),none⟩,⟨(some 50),(.append 1 4 (.t 46) (.t 49)),none⟩,⟨none,(.store 1 (.t 4) (.t 50)),none⟩]))))))))
def pt:List Nat->List UInt8
 | []=>[]
 | c::cs=>pt cs++pk 9 c
theorem I0 (cs:List Nat) (r:Nat):pt (cs++[r])=pk 9 r++pt cs:=by
 induction cs with
 | nil=>simp [pt]
 | cons c cs ih=>simp only [List.cons_append,pt];rw [ih,List.append_assoc]
def Ri (n m:Nat) (cs:List Nat):Prop:=(m≠0->decDigits n=decDigits m++pt cs)/\(m=0->∃ fW r,cs=fW++[r]/\decDigits n=decDigits r++pt fW)
theorem Ri.step {n m:Nat} {cs:List Nat} (h:Ri n m cs) (hm:m≠0):Ri n (m/1000000000) (cs++[m%1000000000]):=by
 have h1:=h.1 hm
 constructor
 . intro hq
   have tk:10 ^ 9<=m:=by
     rcases Nat.lt_or_ge m (10 ^ 9) with e | e
     . exact absurd (Nat.div_eq_of_lt e) hq
     . exact e
   rw [I0,h1,Rh 9 tk (by decide),List.append_assoc]
 . intro hq
   have hlt:m<1000000000:=by omega
   exact ⟨cs,m%1000000000,rfl,by rw [Nat.mod_eq_of_lt hlt];exact h1⟩
def I1 (ck:Nat) (cs:List Nat):AV:=if cs=[] then .nils else .osl [ck] 1 0 cs.length false
theorem take_set {ds q t:List Nat} {j x:Nat} (hj:j<ds.length):(ds.take (j+1)++q++t).set j x=ds.take j++(x::q)++t:=by
 have h1:(ds.take j).length=j:=by rw [List.length_take];omega
 obtain ⟨y,hy⟩:∃ y,ds[j]? = some y:=⟨_,List.getElem?_eq_getElem hj⟩
 have e:ds.take (j+1)=ds.take j++[y]:=by
   have:=List.take_add_one (l:=ds) (i:=j)
   rw [hy] at this;simpa using this
 rw [e,List.append_assoc,List.append_assoc,List.set_append_right _ _ (by omega),h1,Nat.sub_self]
 simp
theorem Rj {ds q t:List Nat} {j a:Nat} (h:ds[j]? = some a):(ds.take (j+1)++q++t)[j]? = some a:=by
 have hj:=(List.getElem?_eq_some_iff.1 h).1
 rw [List.append_assoc,List.getElem?_append_left (by rw [List.length_take];omega),List.getElem?_take_of_lt (by omega)];exact h
theorem Du {σ : aa} {id:Id} {y v:AV} (hy:y.size=1) (hu:∀ v,y.upd 0 [v]=v) (hv:v.cells=[v]) (h : σ id=some ⟨[y],1,false⟩) (h1:v.cells.all AV.one=true):eL σ 1 (.ref id 0 0) v=some { val := .tup [],rd:=[id],up:=[(id,some ⟨[v],1,false⟩)] }:=by
 rw [cA (n:=1) (v:=v) (els:=[y]) (k:=1) h rfl (by rw [hv];rfl) (by rw [hy];exact Nat.le_refl _) h1,hv,hu]
 rfl
section
variable {P:Program} {G:Nat->Option (List AV)}
theorem Oi {f:FuncId} (h:Has P f aY) (n:Nat) (tC:n≠0) (hn:ah n<=1000000) (p:Id) :
   aB P G f [W n] p [] { val := .osl (5::p) 1 0 (ah n) false,up:=[(5::p,some ⟨us (digits n),1,false⟩)] }:=by
 refine aB.has h ?_
 have hb:∀ (σ : aa) (p:Id),b8 σ p (.buildSl 1 0 (.int .u32 0) [])=some { val := .tsl 1 [] }:=fun σ p=>Ub rfl rfl
 have hne:us (digits n)≠[]:=by
   intro e
   have:=congrArg List.length e
   rw [dD] at this
   exact tC (bE.1 this)
 have Dg:∀ es:List AV,es≠[]->bo .eql .slice (.sl 1 es) .nils=some (.bool false):=fun es h=>by
   cases es with
   | nil=>exact absurd rfl h
   | cons e es=>rfl
 simp only [aY,W,SS,Nat.reduceAdd,hb,Dg _ hne]
 rw [gS (es:=[]) eX hne (by rw [dD];show (0+ah n)*4<=_;omega) (cK (by rw [dD];show 0+ah n<=_;omega)) (AQ _)]
 simp only [SS,Nat.reduceAdd]
 rw [dD]
 refine aS▸aA rfl fun i => ?_
 by_cases e:i=5::p
 . subst e;right;simp [aa.app,aa.put]
 . left;simp [aa.app,aa.put,e,aa.of]
def xC (n:Nat) (m:Nat) (t cs:List Nat) (ck nn:Nat):VS:=⟨[.top, .ref [0] 0 0, .top, .osl [5,5] 1 0 (ah m) false, .ref [10] 0 0]++List.replicate 69 .top,
 aa.put (aa.put (aa.put (aa.put (fun _=>none) [0] (some ⟨[IV (n:Int)],2,false⟩)) [10] (some ⟨[I1 ck cs],1,false⟩)) [ck] (if cs=[] then none else some ⟨us cs,1,false⟩)) [5,5] (some ⟨us (digits m++t),1,false⟩),nn⟩
theorem Rk {ft:FuncId} (MM:Has P ft du) (n:Nat) (tC:n≠0) (hn:ah n<=1000000) {K:VS->Prop} {Q':cD->VS->Prop} {s:VS} (hs:Wk G [] s (xC n n [] [] 20 1000))
   (hK:∀ t fW r ck nn s,Wd (fW++[r])->(∀ c∈fW++[r],c<1000000000)->(fW++[r]).length<=10000000->decDigits n=decDigits r++pt fW->20<=ck->Wk G [] s (xC n 0 t (fW++[r]) ck nn)->K s) :
   sy P G [] (AU ft) (Then K Q') s:=by
 simp only [AU,Ap,aC]
 refine VW.mono (Q:=fun e s'=>e = .exit 0/\K s') ?_ (fun e s' h=>by obtain ⟨rfl,h⟩:=h;simp only [wM,if_true,qY];exact h)
 refine VW.bJ (α := Nat × List Nat × List Nat × Nat × Nat) (fun x=>xC n x.1 x.2.1 x.2.2.1 x.2.2.2.1 x.2.2.2.2)
   (fun x=>ah x.1+x.2.1.length=ah n/\Wd x.2.1/\Wd x.2.2.1/\(∀ c∈x.2.2.1,c<1000000000)/\Ri n x.1 x.2.2.1/\20<=x.2.2.2.1/\x.2.2.2.1<x.2.2.2.2/\1000000000 ^ x.2.2.1.length*x.1<=n/\x.2.2.1.length<=2*ah n+1) (fun x=>x.1) (n,[],[],20,1000) hs ?_ ?_
 . refine ⟨by simp,by intro w hw;simp at hw,by intro w hw;simp at hw,by intro w hw;simp at hw,⟨fun _=>by simp [pt],fun h=>absurd h tC⟩,Nat.le_refl _,by simp,by simp,by simp⟩
 rintro ⟨m,t,cs,ck,nn⟩ ⟨hl,htW,hcW,Wj,hI,Rl,TL,hpw,uU⟩
 simp only [] at hl htW hcW Wj hI Rl TL hpw uU
 unfold xC
 by_cases h0:m=0
 . subst h0
   have d0:decide ((0:Int)<(ah 0:Int))=false:=ak (by rw [show ah 0=0 from by rw [ah,bq];rfl];decide)
   obtain ⟨fW,r,rfl,UI⟩:=hI.2 rfl
   simp only [SS,Nat.reduceAdd,d0]
   refine ⟨trivial,hK t fW r ck (nn+1000) _ hcW Wj (by omega) UI Rl ?_⟩
   unfold xC
   exact Wk.slots (by simp [Fg,List.replicate]) (by omega)
 have d0:decide ((0:Int)<(ah m:Int))=true:=ao (by have:ah m≠0:=fun e=>h0 (bE.1 e);omega)
 have hwm:ah m<=1000000:=by omega
 have Xo:IntKind.i64.wrap ((ah m:Int)-1)=(ah m:Int)-1:=by rw [IntKind.wrap_i64];omega
 have ah9:cs.length<=2*ah n:=by
   have h1:1000000000 ^ cs.length<=n:=Nat.le_trans (Nat.le_mul_of_pos_right _ (Nat.pos_of_ne_zero h0)) hpw
   have h2:=cN n
   have h3:(2 ^ 29) ^ cs.length<=1000000000 ^ cs.length:=Nat.pow_le_pow_left (by decide) _
   rw [<- Nat.pow_mul] at h3
   have h4:au ^ ah n=2 ^ (32*ah n):=by rw [Nat.pow_mul];rfl
   rw [h4] at h2
   have h5:2 ^ (29*cs.length)<2 ^ (32*ah n):=by omega
   have:=(Nat.pow_lt_pow_iff_right (by decide:1<2)).1 h5
   omega
 simp only [SS,Nat.reduceAdd,d0,Xo,aC]
 generalize Rm:aa.put (aa.put (aa.put (fun _=>none) [0] (some ⟨[IV (n:Int)],2,false⟩)) [10] (some ⟨[I1 ck cs],1,false⟩)) [ck] (if cs=[] then none else some ⟨us cs,1,false⟩) = σb
 refine VW.bJ (α := Nat × List Nat × Nat × Nat) (fun x=>⟨[.top, .ref [0] 0 0, .top, .osl [5,5] 1 0 (ah m) false, .ref [10] 0 0, .int .u64 (x.2.2.1:Int), .int .i64 ((x.1:Int)-1)]++List.replicate 67 .top,
   σb.put [5,5] (some ⟨us ((digits m).take x.1++x.2.1++t),1,false⟩),x.2.2.2⟩)
   (fun x=>x.1+x.2.1.length=ah m/\Wd x.2.1/\x.2.2.1<1000000000/\val ((digits m).drop x.1)=val x.2.1*1000000000+x.2.2.1/\nn<=x.2.2.2) (fun x=>x.1) (ah m,[],0,nn+1000) ?_ ?_ ?_
 . rw [List.append_nil,List.take_of_length_le (show (digits m).length<=ah m from Nat.le_refl _)]
   exact Wk.slots (by simp [Fg,List.replicate]) (by simp only [];omega)
 . refine ⟨by simp,by intro w hw;simp at hw,(by decide:(0:Nat)<1000000000), ?_,by simp only [];omega⟩
   show val ((digits m).drop (ah m))=_
   rw [List.drop_eq_nil_of_le (show (digits m).length<=ah m from Nat.le_refl _)];simp [val]
 rintro ⟨k,q,r,n2⟩ ⟨hk,hqW,hr,hv,PG⟩
 simp only [] at hk hqW hr hv PG
 by_cases J4:k=0
 . subst J4
   have dk:decide ((0:Int)<=((0:Nat):Int)-1)=false:=by decide
   have Hc:m/1000000000=val q/\m%1000000000=r:=by
     rw [List.drop_zero,aI] at hv
     exact (Nat.div_mod_unique (by decide)).2 ⟨by rw [hv];omega,hr⟩
   have XV:=Dt (G:=G) MM (id:=[5,5]) (a:=[]) (b:=q) (t:=t) hqW (by omega)
   rw [show q.length=ah m by omega, <- Hc.1] at XV
   simp only [List.length_nil,List.nil_append] at XV
   obtain ⟨z,hz⟩:=trimmed q hqW
   have fr:IntKind.u32.wrap (r:Int)=(r:Int):=by rw [uQ,Nat.mod_eq_of_lt (by unfold au;omega)]
   have qF:∀ (σ : aa) (q:Id),b8 σ q (.buildSl 1 1 (.int .u32 0) [(0, .int .u32 (r:Int))])=some { val := .osl q 1 0 1 false,up:=[(q,some ⟨us [r],1,false⟩)] }:=fun σ q=>xA
   have MR:∀ y,gh (σb.put [5,5] y) false 1 (.ref [10] 0 0)=some { val:=I1 ck cs,rd:=[[10]] }:=fun y=>by
     rw [ai (by decide), <- Rm,ai (by intro h;simp at h;omega),ae]
     simp only [I1];split<;>rfl
   have Qt:us (q++t)=us (digits (m/1000000000)++(zs z++t)):=by
     rw [Hc.1]
     conv=>lhs;rw [hz]
     simp
   have hIn:=hI.step h0
   rw [Hc.2] at hIn
   have D4:r<au:=by unfold au;omega
   have uT:∀ n3 ck',nn<=n3->20<=ck'->ck'<n3->ah (m/1000000000)+(zs z++t).length=ah n/\Wd (zs z++t)/\Wd (cs++[r])/\(∀ c∈cs++[r],c<1000000000)/\Ri n (m/1000000000) (cs++[r])/\20<=ck'/\ck'<n3/\1000000000 ^ (cs++[r]).length*(m/1000000000)<=n/\(cs++[r]).length<=2*ah n+1:=by
     intro n3 ck' h1 h2 h3
     have VB:=congrArg List.length hz
     rw [List.length_append, <- Hc.1] at VB
     have aia:q.length=ah (m/1000000000)+(zs z).length:=VB
     refine ⟨by rw [List.length_append];omega,cw (QB _) htW,cw hcW (by intro w hw;simp at hw;subst hw;exact D4), ?_,hIn,h2,h3, ?_,by rw [List.length_append];simp;omega⟩
     . intro c hc
       rcases List.mem_append.1 hc with h | h
       . exact Wj c h
       . simp at h;subst h;exact hr
     . rw [List.length_append]
       simp only [List.length_singleton,Nat.pow_succ]
       have:=Nat.mul_div_le m 1000000000
       have h4:1000000000 ^ cs.length*(1000000000*(m/1000000000))<=1000000000 ^ cs.length*m:=Nat.mul_le_mul_left _ this
       rw [<- Nat.mul_assoc] at h4;omega
   have hlt:m/1000000000<m:=Nat.div_lt_self (Nat.pos_of_ne_zero h0) (by decide)
   simp only [SS,Nat.reduceAdd,dk,List.take_zero]
   refine ⟨[([5,5],⟨us (q++t),1,false⟩)],_,XV _,by simp [aa.put],by simp, ?_⟩
   have Tn:∀ y,(σb.put [5,5] y) [10]=some ⟨[I1 ck cs],1,false⟩:=fun y=>by rw [<- Rm];simp [aa.put];intro h;omega
   have aaE:I1 (n2+2+3+4) (cs++[r]) = .osl [n2+2+3+4] 1 0 (cs.length+1) false:=by unfold I1;rw [if_neg (by simp)];simp
   have e1:([10]:List Nat)≠[n2+2+3+3]:=by intro h;simp at h;omega
   have e2:([10]:List Nat)≠[n2+2+3+4]:=by intro h;simp at h;omega
   have e3:([0]:List Nat)≠[n2+2+3+3]:=by intro h;simp at h
   have e4:([0]:List Nat)≠[n2+2+3+4]:=by intro h;simp at h
   have e5:([0]:List Nat)≠[ck]:=by intro h;simp at h;omega
   have e6:([10]:List Nat)≠[ck]:=by intro h;simp at h;omega
   have e7:([ck]:List Nat)≠[n2+2+3+3]:=by intro h;simp at h;omega
   have e8:([ck]:List Nat)≠[n2+2+3+4]:=by intro h;simp at h;omega
   have I2 : ¬ cs++[r]=[]:=by simp
   by_cases hcs:cs=[]
   . subst hcs
     have hcn:I1 ck [] = .nils:=by simp [I1]
     have zZ:∀ (σ : aa) (p q:Id),b6 (σ.put q (some ⟨us [r],1,false⟩)) p 1 4 .nils (.osl q 1 0 1 false)=some { val := .osl p 1 0 1 false,rd:=[q],up:=[(p,some ⟨us [r],1,false⟩)] }:=fun σ p q =>
       uh (x := .osl q 1 0 1 false) (ys:=us [r]) (jH (bk:=⟨us [r],1,false⟩) (aa.a8 _ _ _) rfl (by simp [dD])) (by simp [us]) (by simp [us]) (cK (by simp [us])) (AQ _)
     rw [hcn] at MR Tn
     simp only [SS,Nat.reduceAdd,fr,MR,qF,zZ]
     rw [Du (y := .nils) (by rfl) (by intro v;rfl) rfl (by rw [aa.bg _ _ _ e2];first | (rw [aa.bg _ _ _ e1];exact Tn _) | (rw [aa.bg _ _ _ e6,aa.bg _ _ _ e1];exact Tn _)) (by rfl)]
     simp only [SS,Nat.reduceAdd]
     refine ⟨(m/1000000000,zs z++t,[]++[r],n2+2+3+4,n2+1000),uT (n2+1000) (n2+2+3+4) (by omega) (by omega) (by omega),hlt,Wk.forget (by simp [Fg]) (fun i => ?_) (by simp only [];omega)⟩
     simp only [aaE,if_neg I2,Qt]
     simp only [aa.put]
     by_cases i1:i=[5,5]
     . subst i1;right;simp
     . by_cases i2:i=[n2+2+3+4]
       . subst i2;right;simp [e2.symm]
       . by_cases i3:i=[10]
         . subst i3;right;simp [e2]
         . by_cases i4:i=[0]
           . subst i4;right;simp [e3,e4,e5, <- Rm,aa.put]
           . left;simp [i1,i2,i3,i4]
   . have zZ:∀ (p q:Id) (y:Option dC),q≠[ck]->b6 ((σb.put [5,5] y).put q (some ⟨us [r],1,false⟩)) p 1 4 (.osl [ck] 1 0 cs.length false) (.osl q 1 0 1 false)=some { val := .osl p 1 0 (cs.length+1) false,rd:=[[ck],q],up:=[([ck],none),(p,some ⟨us (cs++[r]),1,false⟩)] }:=fun p q y hq =>
       x7 hq rfl (by omega) (by rw [<- Rm];simp [aa.put,hcs])
     have hcc:I1 ck cs = .osl [ck] 1 0 cs.length false:=by unfold I1;rw [if_neg hcs]
     rw [hcc] at MR Tn
     simp only [SS,Nat.reduceAdd,fr,MR,qF]
     rw [zZ _ _ _ (by intro h;simp at h;omega)]
     simp only [SS,Nat.reduceAdd]
     rw [Du (y := .osl [ck] 1 0 cs.length false) (by rfl) (by intro v;rfl) rfl (by rw [aa.bg _ _ _ e2];first | (rw [aa.bg _ _ _ e1];exact Tn _) | (rw [aa.bg _ _ _ e6,aa.bg _ _ _ e1];exact Tn _)) (by rfl)]
     simp only [SS,Nat.reduceAdd]
     refine ⟨(m/1000000000,zs z++t,cs++[r],n2+2+3+4,n2+1000),uT (n2+1000) (n2+2+3+4) (by omega) (by omega) (by omega),hlt,Wk.forget (by simp [Fg]) (fun i => ?_) (by simp only [];omega)⟩
     simp only [aaE,if_neg I2,Qt]
     simp only [aa.put]
     by_cases i1:i=[5,5]
     . subst i1;right;simp
     . by_cases i2:i=[n2+2+3+4]
       . subst i2;right;simp [e2.symm]
       . by_cases i3:i=[10]
         . subst i3;right;simp [e2]
         . by_cases i4:i=[0]
           . subst i4;right;simp [e3,e4,e5, <- Rm,aa.put]
           . left;simp [i1,i2,i3,i4]
 . obtain ⟨j,rfl⟩:∃ j,k=j+1:=⟨k-1,by omega⟩
   have dk:decide ((0:Int)<=(j:Int))=true:=ao (by omega)
   have hj:((j+1:Nat):Int)-1=(j:Int):=by omega
   have nL:j<ah m:=by omega
   have ME:IntKind.i64.wrap ((j:Int)-1)=(j:Int)-1:=by rw [IntKind.wrap_i64];omega
   obtain ⟨a,ha⟩:∃ a,(digits m)[j]? = some a:=⟨_,List.getElem?_eq_getElem nL⟩
   have uj:=aO m a (List.mem_of_getElem? ha)
   have f1:=bn a uj
   have D4:r<au:=by unfold au;omega
   have f2:=wh r D4
   have f3:=Dh r a D4 uj
   have hlt:au*r+a<18446744073709551616:=by unfold au at *;omega
   have f4:bo .quo .int (.int .u64 ((au*r+a:Nat):Int)) (.int .u64 1000000000)=some (.int .u64 (((au*r+a)/1000000000:Nat):Int)):=Di (au*r+a) 1000000000 hlt (by decide)
   have f5:bo .rem .int (.int .u64 ((au*r+a:Nat):Int)) (.int .u64 1000000000)=some (.int .u64 (((au*r+a)%1000000000:Nat):Int)):=Dj (au*r+a) 1000000000 (by decide)
   have Ix:(au*r+a)/1000000000<au:=by unfold au at *;omega
   have f6:IntKind.u32.wrap (((au*r+a)/1000000000:Nat):Int)=(((au*r+a)/1000000000:Nat):Int):=by rw [uQ,Nat.mod_eq_of_lt Ix]
   have iA:=cB (q:=[5,5]) (t:=false) nL
   have Te:j<((digits m).take (j+1)++q++t).length:=by simp;have:(digits m).length=ah m:=rfl;omega
   have hv':val ((digits m).drop j)=val ((au*r+a)/1000000000::q)*1000000000+(au*r+a)%1000000000:=by
     rw [xB ha]
     simp only [val]
     rw [hv,Nat.add_mul,Nat.mul_add,Nat.mul_assoc au]
     have:=Nat.div_add_mod (au*r+a) 1000000000
     rw [Nat.mul_comm] at this
     omega
   have PC:(au*r+a)%1000000000<1000000000:=Nat.mod_lt _ (by decide)
   simp only [SS,Nat.reduceAdd,dk,hj,f2,iA]
   rw [iL (o:=(digits m).take (j+1)++q++t) (b:=false) (by simp [aa.put]) (Rj ha)]
   simp only [SS,Nat.reduceAdd,f1,f3,f4,f6,iA]
   rw [bR (o:=(digits m).take (j+1)++q++t) (by simp [aa.put]) Te,take_set (show j<(digits m).length from nL)]
   simp only [SS,Nat.reduceAdd,f5,ME]
   refine ⟨(j,(au*r+a)/1000000000::q,(au*r+a)%1000000000,_),⟨by simp;omega, ?_,PC,hv',by simp only [];omega⟩,Nat.lt_succ_self j,Wk.forget (by simp [Fg]) (fun i => ?_) (Nat.le_refl _)⟩
   . intro z hz
     rcases List.mem_cons.1 hz with rfl | hz
     . exact Ix
     . exact hqW z hz
   . simp only [aa.put];split<;>simp
end
end Go.VL
end

section
namespace Go.VL
section
variable {P:Program} {G:Nat->Option (List AV)} {π : Id}
def vt (P:Program) (G:Nat->Option (List AV)) (π : Id) (own:Nat->Prop) (E:Env) (w:World) (rest:Code) (R:Exit->Act->World->Prop) (s:VS):Prop :=
 ∀ E' w' a',kC own π E E' w w'->je G π own E' w' s a'->rest.wp P R a' w'
def Rn (G:Nat->Option (List AV)) (π : Id) (own:Nat->Prop) (E:Env) (w:World) (R:Exit->Act->World->Prop) (e:cD) (s:VS):Prop :=
 ∀ E' w' a',kC own π E E' w w'->je G π own E' w' s a'->R e.real a' w'
theorem vt.seq {own:Nat->Prop} {E:Env} {w:World} {c rest:Code} {vc:bX} {R:Exit->Act->World->Prop} {s:VS} (hc:eD P c=some vc)
   (k:sy P G π vc (Then (vt P G π own E w rest R) (Rn G π own E w R)) s):vt P G π own E w (.seq c rest) R s:=fun E' w' a' had hm=>by
 refine wp_seq ((VW.of k) c hc own E' w' a' _ hm fun e s2 E2 w2 a2 hq Gf tp => ?_)
 cases e with
 | normal=>exact hq E2 w2 a2 (had.trans Gf) tp
 | exit id=>exact hq E2 w2 a2 (had.trans Gf) tp
 | ret=>exact hq E2 w2 a2 (had.trans Gf) tp
theorem vt.wk {own:Nat->Prop} {E:Env} {w:World} {rest:Code} {R:Exit->Act->World->Prop} {s s':VS} (h:Wk G π s s') (k:vt P G π own E w rest R s'):vt P G π own E w rest R s:=fun E' w' a' had hm=>by
 obtain ⟨E2,Gf,tp⟩:=h own E' w' a' hm
 exact k E2 w' a' (had.trans Gf) tp
end
end Go.VL
end

section
set_option linter.unusedVariables false
set_option maxRecDepth 100000
namespace Go.Proofs
open Go.VL Go.RowKit
def Tryz.fv0:bX:=(.reg none [⟨(some 1),(.box (.t 0)),none⟩,⟨(some 2),(.mv (.c (.str []))),none⟩])
def Tryz.fv1:bX:=(.reg none [⟨(some 11),(.faddr 1 (.t 1)),none⟩,⟨(some 12),(.load false 1 (.t 11)),none⟩,⟨(some 13),(.call (.f 145) [(.t 12)]),none⟩,⟨(some 14),(.call (.f 95) [(.t 13)]),none⟩,⟨(some 3),(.mv (.t 14)),none⟩])
def Tryz.fv2:bX:=(.seq (.reg none [⟨(some 15),(.mv (.t 3)),none⟩,⟨(some 16),(.len false (.t 15)),none⟩,⟨(some 17),(.bin .eql .int (.t 16) (.c (.int .i64 (0)))),none⟩]) (.cond (.t 17) (.seq (.reg none [⟨(some 2),(.mv (.c (.str [48]))),none⟩]) .ret) .skip))
def Tryz.fv3:bX:=(.reg none [⟨(some 4),(.box (.c .nils)),none⟩])
theorem Tryz.KL (G:Nat->Option (List AV)) (n:Nat) (tC:n≠0) (hn:ah n<=1000000) (xD:gU Tryz.prog G 145) (MM:Has Tryz.prog 145 du) (uU:Has Tryz.prog 95 aY)
   {own:Nat->Prop} {E:Env} {w:World} {R:Exit->Act->World->Prop} {c0 c1 c2 c3 c4 rest:Code} (h0:eD Tryz.prog c0=some Tryz.fv0) (h1:eD Tryz.prog c1=some Tryz.fv1) (h2:eD Tryz.prog c2=some Tryz.fv2) (h3:eD Tryz.prog c3=some Tryz.fv3)
   (h4:eD Tryz.prog c4=some (AU 145))
   (hK:∀ t fW r ck nn,Wd (fW++[r])->(∀ c∈fW++[r],c<1000000000)->(fW++[r]).length<=10000000->Lib.decDigits n=Lib.decDigits r++pt fW->20<=ck->vt Tryz.prog G [] own E w rest R (xC n 0 t (fW++[r]) ck nn)) :
   vt Tryz.prog G [] own E w (.seq c0 (.seq c1 (.seq c2 (.seq c3 (.seq c4 rest))))) R ⟨IV (n:Int)::List.replicate 73 (.tup []),fun _=>none,0⟩:=by
 refine vt.seq h0 ?_
 simp only [Tryz.fv0,SS,Nat.reduceAdd,ia]
 refine vt.seq h1 ?_
 simp only [Tryz.fv1,SS,Nat.reduceAdd,ae,iu,kU]
 refine aj (qm xD n (by omega)) (by simp [aJ]) ?_
 simp only [SS,Nat.reduceAdd]
 refine ⟨[],_,Oi uU n tC hn _,by simp,by simp, ?_⟩
 have d0:decide ((ah n:Int)=0)=false:=ak (by have:ah n≠0:=fun e=>tC (bE.1 e);omega)
 simp only [SS,Nat.reduceAdd]
 refine vt.seq h2 ?_
 simp only [Tryz.fv2,SS,Nat.reduceAdd,d0]
 refine vt.seq h3 ?_
 have aaF:(AV.nils.cells.all AV.one=true)=True:=by simp [AV.cells,AV.one]
 simp only [Tryz.fv3,SS,Nat.reduceAdd,aaF]
 refine vt.seq h4 ?_
 refine Rk MM n tC hn (Wk.forget (by simp [Fg,List.replicate]) (fun j => ?_) (by simp [])) (fun t fW r ck nn s a1 a2 a3 a4 a5 hw=>vt.wk hw (hK t fW r ck nn a1 a2 a3 a4 a5))
 have e1:(IV (n:Int)).size=2:=rfl
 have e2:AV.nils.size=1:=rfl
 simp only [aa.put,e1,e2,List.append_nil,I1,if_true]
 by_cases i1:j=[5,5]
 . subst i1;right;simp
 . by_cases i3:j=[10]
   . subst i3;right;simp
   . by_cases i4:j=[0]
     . subst i4;right;simp
     . left;simp [i1,i3,i4]
end Go.Proofs
end

section
namespace Go.Proofs
open Go.RowKit Go.Shelf
attribute [local go_sem] Oper.semAt_some
set_option maxRecDepth 100000 in
set_option maxHeartbeats 2000000 in
theorem Tryz.X1 (F:Fence) (n:Nat) (h8:F.fn 172) (Ip:F.round=none) (hn:1<=n) (l Bs n₀ b off cap:Nat) (zs:List Int) (x4:zs.length*8<=140737488351232) (hb:b<n₀) (J Jx:List Nat->World->Prop)
   (hY:∀ pre x W,J pre W->pre.length<zs.length->YieldAt F (n-1) Tryz.prog l #[.int .i64 (Tryz.bw zs x).1, .int .u32 (Tryz.bw zs x).2] W fun e W' =>
     (e = .returned (.bool true)/\J (pre++[x]) W'/\Tryz.BK n₀ Bs W W')∨(e = .returned (.bool false)/\Jx (pre++[x]) W'))
   (W:World) (Xa:W.cell? ⟨Bs,0,none⟩=some (.slice (some ⟨b,off,none⟩) zs.length cap)) (hc:∀ j,j<zs.length->W.cell? ⟨b,off+j,none⟩=some (.int .u32 (zs[j]?.getD 0))) (h0:J [] W) :
   CallsIn F n Tryz.prog 172 #[.func (.yield l) #[] #[], .pointer (some ⟨Bs,0,none⟩)] W fun e W'=>(∃ v,e = .returned v) /\
     ((∃ ys,ys=Tryz.upto (fun i=>i) zs.length/\J ys W')∨(∃ pre,(∃ k,k<=zs.length/\pre=Tryz.upto (fun i=>i) k)/\Jx pre W')):=by
 refine callsIn_of_wp Tryz.func172 rfl h8 ?_ Ip
 simp only [Tryz.ntmps172,List.size_toArray,List.length_cons,List.length_nil,Nat.reduceAdd,Nat.reduceSub,Array.replicate_succ,Array.replicate_zero,List.push_toArray,List.append_toArray,List.nil_append,List.cons_append]
 gi_wp2
 gi_loopw [3] (fun i wr=>∃ k:Nat,k<=zs.length/\i = .int .i64 ((zs.length:Int)-1-k)/\J (Tryz.upto (fun i=>i) k) wr/\Tryz.BK n₀ Bs W wr)
   (fun i _=>(intOf i+1).toNat)
 case atStart=>exact ⟨0,Nat.zero_le _,by simp,h0,Tryz.BK.refl _ _ _⟩
 case round =>
   obtain ⟨k,hk,rfl,Xb,Xc⟩:=hrel
   have hBk:=Xc.2.trans Xa
   have Lq:∀ j,j<zs.length->wr.cell? ⟨b,off+j,none⟩=some (.int .u32 (zs[j]?.getD 0)):=fun j h=>(Xc.1.cell (p:=⟨b,off+j,none⟩) hb).trans (hc j h)
   by_cases hlt:k<zs.length
   . obtain ⟨q,hq⟩:∃ q,q=zs.length-1-k:=⟨_,rfl⟩
     have Ti:(zs.length:Int)-1-k=q:=by omega
     have V5:q<zs.length:=by omega
     have yj:Hid (Tryz.bw zs k=((q:Int),zs[q]?.getD 0)):=by show Tryz.bw zs k=_;rw [Tryz.bw, <- hq,Ti]
     have hqk:Hid (q+1+k=zs.length):=by show q+1+k=zs.length;omega
     clear hq
     have Xd:=Lq q V5
     generalize zs[q]?.getD 0=zq at yj Xd
     obtain ⟨fn,tmps,assign,body,hy,hR⟩:=hY _ k wr Xb (by rw [Tryz.Bq];exact hlt)
     rw [yj.out] at hy
     dsimp only at hy
     rw [Ti]
     clear Ti hY h0 hc Lq
     gi_wp2
     refine hR.mono ?_
     rintro e W3 (⟨rfl,hJ3,hk3⟩ | ⟨rfl,Xe⟩)
     . gi_wp2
       go_roundw
       case rel=>exact ⟨k+1,by omega,by have:=hqk.out;congr 1;omega,by rw [Tryz.pN];exact hJ3,Xc.trans hk3⟩
       case measure=>simp [intOf]
     . gi_wp2
       refine bodyPost_ret (results_none rfl _ _ _) rfl ?_
       exact ⟨⟨_,rfl⟩, .inr ⟨_,⟨k+1,by omega,by rw [Tryz.pN]⟩,Xe⟩⟩
   . obtain rfl:k=zs.length:=by omega
     have xg:(zs.length:Int)-1-zs.length = -1:=by omega
     rw [xg]
     gi_wp2
     go_end0
     exact ⟨⟨_,rfl⟩, .inl ⟨_,rfl,Xb⟩⟩
theorem Tryz.Ro (F:Fence) (n:Nat) (h8:F.fn 172) (Ip:F.round=none) (hn:1<=n) (Bs n₀ b off cap:Nat) (zs:List Int) (x4:zs.length*8<=140737488351232) (hb:b<n₀) (w:World) (hBs:Bs<w.heap.size) (V6:n₀<=w.heap.size)
   (hc:w.cell? ⟨Bs,0,none⟩=some (.slice (some ⟨b,off,none⟩) zs.length cap)) (hI:∀ j,j<zs.length->w.cell? ⟨b,off+j,none⟩=some (.int .u32 (zs[j]?.getD 0))) :
   SeqStopsK F n Tryz.prog 172 #[.pointer (some ⟨Bs,0,none⟩)] (fun x:Nat => #[Value.int .i64 (Tryz.bw zs x).1,Value.int .u32 (Tryz.bw zs x).2]) (Tryz.BK n₀ Bs) (fun ys=>ys=Tryz.upto (fun i=>i) zs.length)
     (fun pre=>∃ k,k<=zs.length/\pre=Tryz.upto (fun i=>i) k) zs.length w:=fun l J Jx W hW _ _ hY h0 =>
 Tryz.X1 F n h8 Ip hn l Bs n₀ b off cap zs x4 hb J Jx hY W ((hW.cell (p:=⟨Bs,0,none⟩) hBs).trans hc) (fun j hj=>(hW.cell (p:=⟨b,off+j,none⟩) (show b<w.heap.size by omega)).trans (hI j hj)) h0
end Go.Proofs
end

section
namespace Go.VL
theorem Fx {G:Nat->Option (List AV)} {own:Nat->Prop} {E:Env} {w:World} {σ : aa} {id:Id} {bk:dC} {e o:Nat} {v:Value} (hi:Inv G own E w σ) (hs : σ id=some bk) (hr:aL E w (.ref id e o) v) :
   ∃ g N,v = .pointer (some ⟨g,e*bk.k+o,none⟩)/\E.μ id=some (g,bk.k,N)/\g<w.heap.size/\∀ j c,(flat bk.els)[j]? = some c->∃ v,w.cell? ⟨g,j,none⟩=some v/\aL E w c v:=by
 obtain ⟨g,N,cur,ty,hB⟩:=hi.blk id bk hs
 simp only [aL] at hr
 obtain ⟨g',k,N',hm,rfl⟩:=hr
 rw [hB.μ] at hm
 simp only [Option.some.injEq,Prod.mk.injEq] at hm
 obtain ⟨rfl,rfl,_⟩:=hm
 refine ⟨g,N,rfl,hB.μ,dH hB.heap,fun j c hj => ?_⟩
 have:=hB.row j c hj
 rwa [Nat.zero_add] at this
theorem Oj {G:Nat->Option (List AV)} {own:Nat->Prop} {E:Env} {w:World} {σ : aa} {id:Id} {bk:dC} {k len:Nat} {t:Bool} {v:Value} (hi:Inv G own E w σ) (hs : σ id=some bk) (hr:aL E w (.osl id k 0 len t) v) :
   ∃ g cap,v = .slice (some ⟨g,0,none⟩) len cap/\g<w.heap.size/\∀ j c,(flat bk.els)[j]? = some c->∃ v,w.cell? ⟨g,j,none⟩=some v/\aL E w c v:=by
 obtain ⟨g,N,cur,ty,hB⟩:=hi.blk id bk hs
 simp only [aL] at hr
 obtain ⟨g',N',cap,hm,rfl,_⟩:=hr
 rw [hB.μ] at hm
 simp only [Option.some.injEq,Prod.mk.injEq] at hm
 obtain ⟨rfl,_,_⟩:=hm
 refine ⟨g,cap,by simp,dH hB.heap,fun j c hj => ?_⟩
 have:=hB.row j c hj
 rwa [Nat.zero_add] at this
end Go.VL
end

section
set_option linter.unusedVariables false
set_option maxRecDepth 100000
namespace Go.Proofs
open Go.VL Go.RowKit Go.Shelf
attribute [local go_sem] Oper.semAt_some
def wq (zs:List Int):List Nat->List UInt8
 | []=>[]
 | k::ks=>(if (Tryz.bw zs k).1<(zs.length:Int)-1 then pk 9 (Tryz.bw zs k).2.toNat else Lib.decDigits (Tryz.bw zs k).2.toNat)++wq zs ks
theorem Tryz.se (B b:Nat) (bs:List Value) (s:ByteArray) (w:World) (h:Lib.IsBuilderF 164 5 B b bs w) (hlen:bs.length+s.size<=140737488355328) (hBw:B<=w.heap.size) :
   Calls Tryz.prog 151 #[.pointer (some ⟨b,0,none⟩), .string s] w fun e w'=>e = .returned (.tuple #[.int .i64 s.size, .nilIface])/\(Lib.BuilderAtF 164 5 B b (.pointer (some ⟨b,0,none⟩)) (bs++Lib.strCells s) w'/\Below B w w'/\Lib.OthersKept 5 (some b) w w') :=
 Any.Builder_WriteString_k (P:=Tryz.prog) (ρ := Tryz.wb) { Tryz.Cc with } Tryz.q7 B b bs s w h hlen hBw
theorem wu (B b0:Nat) {β : Type} {T e:TypeId} {f : β -> List Value}:OwnFrom B (fun (s : β) W=>Lib.IsBuilderF T e b0 b0 (f s) W):=fun s W W' row h hg hr=>by
 have key:∀ p,Lib.BuilderAtF T e b0 b0 p (f s) W->Lib.BuilderAtF T e b0 b0 p (f s) W':=by
   rintro p ⟨hB,v,hb,NM,hne⟩
   have hlt:b0<W.heap.size:=(Array.getElem?_eq_some_iff.1 hb).1
   refine ⟨hB,v, ?_,NM.kept hg ?_,hne⟩
   . rw [hg.block b0 hlt (fun e => ?_)]
     . exact hb
     . obtain ⟨_,o,ho,PB⟩:=hr b0 e.symm
       rw [hb] at ho;cases ho;simp [Obj.isCells] at PB
   . cases hv:v.ownBlock with
     | none=>exact .inl rfl
     | some g =>
       refine .inr fun e => ?_
       obtain ⟨_,o,ho,PB⟩:=hr g e.symm
       rcases NM.2 with ⟨rfl,_⟩ | ⟨g',cap,cur,fz,rfl,_,G5,_⟩
       . simp [Value.ownBlock] at hv
       . simp [Value.ownBlock] at hv
         subst hv
         rw [G5] at ho;cases ho;simp [Obj.isCells] at PB
 exact h.imp (key _) (key _)
theorem Ol (B k:Nat) {β : Type} {cs:Array Value} {T:TypeId}:OwnFrom B (fun (_ : β) W=>W.heap[k]? = some (.cells cs T)):=fun s W W' row h hg hr=>by
 have hlt:k<W.heap.size:=(Array.getElem?_eq_some_iff.1 h).1
 show W'.heap[k]? = _
 have h':W.heap[k]? = some (.cells cs T):=h
 rw [hg.block k hlt (fun e => ?_)]
 . exact h'
 . obtain ⟨_,o,ho,PB⟩:=hr k e.symm
   rw [h'] at ho;cases ho;simp [Obj.isCells] at PB
theorem Bz {B b Bs:Nat} {W W2 W3:World} {cs:Array Value} (hb:b<B) (uJ:Below W.heap.size W W2) (Y2:∃ cb fz,W.heap[b]? = some (.cells cb 164 fz)) (Om:W.heap[Bs]? = some (.cells cs 57)) (hne:Bs≠b) (Y3:Below b W2 W3) (hO:Lib.OthersKept 5 (some b) W2 W3) :
   KeepsFrom B W W3/\Tryz.BK b Bs W W3/\W3.heap[Bs]? = some (.cells cs 57):=by
 have hlt:∀ k o,W.heap[k]? = some o->k<W.heap.size:=fun k o h=>(Array.getElem?_eq_some_iff.1 h).1
 have hk2:∀ k o,W.heap[k]? = some o->W2.heap[k]? = some o:=fun k o h=>by rw [uJ.block k (hlt k o h)];exact h
 obtain ⟨cb',fz',Wj⟩:=Y2
 have h57:W3.heap[Bs]? = some (.cells cs 57):=hO Bs _ (hk2 _ _ Om) (fun e=>hne (Option.some.inj e)) (fun c fz e=>by cases e)
 refine ⟨⟨Nat.le_trans uJ.size Y3.size,fun k o hBk hk ho => ?_⟩,⟨⟨Y3.os.trans uJ.os,Y3.tape.trans uJ.tape,Y3.output.trans uJ.output,Nat.le_trans uJ.size Y3.size,fun k hk => ?_⟩, ?_⟩,h57⟩
 . exact hO k o (hk2 _ _ hk) (fun e=>by have:=Option.some.inj e;omega) (fun c fz e=>by subst e;simp [Obj.isCells] at ho)
 . have hkb:k<W.heap.size:=Nat.lt_trans hk (hlt b _ Wj)
   rw [Y3.block k hk,uJ.block k hkb]
 . rw [World.cell?_of_block (a:=⟨Bs,0,none⟩) (w:=W) (w':=W3) (by show W3.heap[Bs]? = W.heap[Bs]?;rw [h57,Om])]
theorem AW (zs:List Int) (pre:List Nat) (k:Nat):wq zs (pre++[k])=wq zs pre++(if (Tryz.bw zs k).1<(zs.length:Int)-1 then pk 9 (Tryz.bw zs k).2.toNat else Lib.decDigits (Tryz.bw zs k).2.toNat):=by
 induction pre with
 | nil=>simp [wq]
 | cons a l ih=>simp only [List.cons_append,wq];rw [ih,List.append_assoc]
theorem MS {ws:List Nat} (h:∀ c∈ws,c<1000000000) (x:Nat):∃ c:Nat,Tryz.bw (cQ ws) x=(((cQ ws).length:Int)-1-x,(c:Int))/\c<1000000000:=by
 unfold Tryz.bw
 cases he:(cQ ws)[(cQ ws).length-1-x]? with
 | none=>exact ⟨0,rfl,by decide⟩
 | some z =>
   have hm:=List.mem_of_getElem? he
   unfold cQ at hm
   obtain ⟨c,hc,rfl⟩:=List.mem_map.1 hm
   exact ⟨c,rfl,h c hc⟩
theorem Rp {ws:List Nat} (h:∀ c∈ws,c<1000000000) (pre:List Nat):(wq (cQ ws) pre).length<=20*pre.length:=by
 have hd:∀ c:Nat,c<1000000000->(Lib.decDigits c).length<=9:=fun c hc=>by rw [Lib.decDigits_length];exact MQ (by decide) hc
 induction pre with
 | nil=>simp [wq]
 | cons x pre ih =>
   obtain ⟨c,yj,hc⟩:=MS h x
   have Hm:=hd c hc
   have WT:(pk 9 c).length=9:=by rw [Wi 9 (by decide) hc,List.length_append,List.length_replicate, <- Lib.decDigits_length];omega
   simp only [wq,yj,List.length_append,List.length_cons,Int.toNat_natCast]
   split<;>omega
theorem On {n:Int} (h0:0<=n) (h1:n<9223372036854775808):wrap64 n=n:=by unfold wrap64;omega
theorem repeatL_one (z:Nat):Lib.repeatL [(48:UInt8)] z=List.replicate z 48:=by
 induction z with
 | zero=>rfl
 | succ z ih=>rw [List.replicate_succ, <- ih];rfl
theorem Tryz.Wl (z:Nat) (hz:z<=1000) (w:World):Calls Tryz.prog 130 #[.string ⟨#[48]⟩, .int .i64 (z:Int)] w fun e w'=>e = .returned (.string ⟨(List.replicate z (48:UInt8)).toArray⟩)/\Below w.heap.size w w':=by
 match z,hz with
 | 0,_=>exact (Tryz.strings_Repeat_zero ⟨#[48]⟩ w).mono fun e w' h=>⟨h.1,h.2▸Below.refl _ _⟩
 | 1,_=>exact (Tryz.strings_Repeat_one ⟨#[48]⟩ w).mono fun e w' h=>⟨h.1,h.2▸Below.refl _ _⟩
 | z+2,hz =>
   have:=Tryz.strings_Repeat_main ⟨#[48]⟩ (z+2) w (by omega) (by omega) (by show 1*(z+2)<=_;omega) (by decide)
   rw [show Lib.repeatL (⟨#[48]⟩:ByteArray).data.toList (z+2)=List.replicate (z+2) 48 from repeatL_one _] at this
   exact this
theorem UJ (f:Nat->Value):(List.range 74).map f=[f 0,f 1,f 2,f 3,f 4,f 5,f 6,f 7,f 8,f 9,f 10,f 11,f 12,f 13,f 14,f 15,f 16,f 17,f 18,f 19,f 20,f 21,f 22,f 23,f 24,f 25,f 26,f 27,f 28,f 29,f 30,f 31,f 32,f 33,f 34,f 35,f 36,f 37,f 38,f 39,f 40,f 41,f 42,f 43,f 44,f 45,f 46,f 47,f 48,f 49,f 50,f 51,f 52,f 53,f 54,f 55,f 56,f 57,f 58,f 59,f 60,f 61,f 62,f 63,f 64,f 65,f 66,f 67,f 68,f 69,f 70,f 71,f 72,f 73]:=rfl
theorem UK {E:Env} {w:World} {a:Act} {t:List AV} (h:cn E w t a) (ht:t.length=74):∃ tv:Nat->Value,a.tmps = #[tv 0,tv 1,tv 2,tv 3,tv 4,tv 5,tv 6,tv 7,tv 8,tv 9,tv 10,tv 11,tv 12,tv 13,tv 14,tv 15,tv 16,tv 17,tv 18,tv 19,tv 20,tv 21,tv 22,tv 23,tv 24,tv 25,tv 26,tv 27,tv 28,tv 29,tv 30,tv 31,tv 32,tv 33,tv 34,tv 35,tv 36,tv 37,tv 38,tv 39,tv 40,tv 41,tv 42,tv 43,tv 44,tv 45,tv 46,tv 47,tv 48,tv 49,tv 50,tv 51,tv 52,tv 53,tv 54,tv 55,tv 56,tv 57,tv 58,tv 59,tv 60,tv 61,tv 62,tv 63,tv 64,tv 65,tv 66,tv 67,tv 68,tv 69,tv 70,tv 71,tv 72,tv 73]/\∀ j c,t[j]? = some c->aL E w c (tv j):=by
 obtain ⟨hl,hp⟩:=bz.1 h
 refine ⟨fun i=>a.tmps.toList.getD i undef, ?_,fun j c hj => ?_⟩
 . have e:a.tmps.toList=(List.range 74).map fun i=>a.tmps.toList.getD i undef:=by
     refine List.ext_getElem (by simp;rw [<- Array.length_toList];omega) fun i h1 h2 => ?_
     simp only [List.getElem_map,List.getElem_range,List.getD_eq_getElem?_getD]
     rw [List.getElem?_eq_getElem h1];rfl
   rw [UJ] at e
   rw [<- Array.toArray_toList (xs:=a.tmps)]
   exact congrArg List.toArray e
 . obtain ⟨v,hv,hr⟩:=hp j c hj
   show aL E w c (a.tmps.toList.getD j undef)
   rw [List.getD_eq_getElem?_getD,hv];exact hr
theorem Rq (fW:List Nat) (r:Nat):∀ k,k<=fW.length->wq (cQ (fW++[r])) (Tryz.upto (fun i=>i) (k+1))=Lib.decDigits r++pt (fW.drop (fW.length-k)):=by
 have hl:(cQ (fW++[r])).length=fW.length+1:=by rw [lP];simp
 intro k
 induction k with
 | zero =>
   intro _
   rw [Tryz.pN,AW]
   have e:(cQ (fW++[r]))[(cQ (fW++[r])).length-1-0]?.getD 0=(r:Int):=by
     rw [hl];unfold cQ;rw [List.getElem?_map,List.getElem?_append_right (by omega)];simp
   simp only [Tryz.bw,e]
   rw [if_neg (by omega)]
   simp [Tryz.upto,wq,pt]
 | succ k ih =>
   intro hk
   rw [Tryz.pN,AW,ih (by omega)]
   have hlt:fW.length-(k+1)<fW.length:=by omega
   have e:(cQ (fW++[r]))[(cQ (fW++[r])).length-1-(k+1)]?.getD 0=(fW[fW.length-(k+1)]:Int):=by
     rw [hl,show fW.length+1-1-(k+1)=fW.length-(k+1) from by omega];unfold cQ
     rw [List.getElem?_map,List.getElem?_append_left hlt,List.getElem?_eq_getElem hlt];rfl
   simp only [Tryz.bw,e]
   rw [if_pos (by omega),List.append_assoc]
   congr 1
   rw [List.drop_eq_getElem_cons hlt,show fW.length-(k+1)+1=fW.length-k from by omega]
   rfl
theorem Tryz.Oo (G:Nat->Option (List AV)) (n:Nat) (tC:n≠0) (hn:ah n<=1000000) (xD:gU Tryz.prog G 145) (MM:Has Tryz.prog 145 du) (uU:Has Tryz.prog 95 aY)
   (w:World) (vs:List Value) (ok:Nat->Prop) (hi:VL.Inv G (fun k=>w.heap.size<=k) ⟨fun _=>none,ok⟩ w (fun _=>none)) (hr:aM ⟨fun _=>none,ok⟩ w [IV (n:Int)] vs) (hp:Tryz.xy w) :
   Calls Tryz.prog 129 vs.toArray w fun e w'=>e = .returned (.string ⟨(Lib.decDigits n).toArray⟩)/\Below w.heap.size w w':=by
 refine (callsIn_wide (n:=3)).1 (callsIn_of_wp_marks Tryz.func129 rfl trivial ?_ rfl)
 rw [wpIn_wide]
 have Gg:vs.length=1:=aM.len hr
 have hm:je G [] (fun k=>w.heap.size<=k) ⟨fun _=>none,ok⟩ w ⟨IV (n:Int)::List.replicate 73 (.tup []),fun _=>none,0⟩
     { tmps:=vs.toArray++Array.replicate (Tryz.f129.ntmps-vs.toArray.size) undef,defers:=[] }:=by
   refine ⟨?_,hi,fun _ _ _=>rfl,rfl⟩
   show aM _ w _ _
   simp only [Array.toList_append,Array.toList_replicate,List.size_toArray,Gg,Tryz.ntmps129]
   refine aM.append (xs:=[IV (n:Int)]) (ys:=List.replicate 73 (.tup [])) hr (bz.2 ⟨by simp,fun j c hj => ?_⟩)
   have nL:j<73:=by have:=(List.getElem?_eq_some_iff.1 hj).1;simpa using this
   simp only [List.getElem?_replicate,nL,if_true,Option.some.injEq] at hj ⊢
   subst hj
   exact ⟨undef,by simp,by simp only [aL,undef];exact ⟨#[],rfl,by simp [aM]⟩⟩
 refine (Tryz.KL G n tC hn xD MM uU (own:=fun k=>w.heap.size<=k) (E:=⟨fun _=>none,ok⟩) (w:=w) (by kernel_rfl) (by kernel_rfl) (by kernel_rfl) (by kernel_rfl) (by kernel_rfl) ?_) _ _ _ (kC.refl _ _ _ _) hm
 intro t fW r ck nn hcW Wj adS UI Rl E' w1 a1 had G2
 have hinv:=G2.inv
 have D8:=G2.frame
 have hdf:=G2.defers
 obtain ⟨tv,etm,KA⟩:=UK D8 (by simp [xC])
 have h1:=KA 1 (.ref [0] 0 0) rfl
 have h4:=KA 4 (.ref [10] 0 0) rfl
 obtain ⟨tm,df⟩:=a1
 simp only [] at hdf etm
 subst hdf
 subst etm
 obtain ⟨g0,N0,et1,_,UL,aaG⟩:=Fx hinv (bk:=⟨[IV (n:Int)],2,false⟩) (by simp [xC,aa.put]<;>omega) h1
 obtain ⟨g10,N10,et4,_,adT,Wm⟩:=Fx hinv (bk:=⟨[I1 ck (fW++[r])],1,false⟩) (by simp [xC,aa.put]<;>omega) h4
 have xg:w1.cell? ⟨g0,0,none⟩=some (.bool false):=by
   obtain ⟨v,hv,VI⟩:=aaG 0 (.bool false) (by simp [flat,IV,AV.cells]<;>omega)
   rw [hv];simp only [aL] at VI;rw [VI]
 obtain ⟨v10,aaH,X2⟩:=Wm 0 (I1 ck (fW++[r])) (by unfold I1;rw [if_neg (by simp)];rfl)
 rw [show I1 ck (fW++[r]) = .osl [ck] 1 0 (fW++[r]).length false from by unfold I1;rw [if_neg (by simp)]] at X2
 obtain ⟨gc,cap,rfl,Wn,aaI⟩:=Oj hinv (bk:=⟨us (fW++[r]),1,false⟩) (by simp [xC,aa.put]<;>omega) X2
 have X3:Below w.heap.size w w1:=⟨had.os,had.tape,had.output,had.size,fun k hk=>had.block k hk (by omega)⟩
 have hp1:Tryz.xy w1:=fun i hi=>by
   have h1:=hp i hi
   exact (X3.cell (p:=⟨2,i,none⟩) (World.block_lt_of_cell? _ _ h1)).trans h1
 have tz:∀ j,j<(cQ (fW++[r])).length->w1.cell? ⟨gc,0+j,none⟩=some (.int .u32 ((cQ (fW++[r]))[j]?.getD 0)):=by
   intro j hj
   rw [lP] at hj
   obtain ⟨c,hc⟩:∃ c,(fW++[r])[j]? = some c:=⟨_,List.getElem?_eq_getElem hj⟩
   obtain ⟨v,hv,wW⟩:=aaI j (.int .u32 (c:Int)) (by rw [Gp];exact r9 hc)
   rw [Nat.zero_add,hv];simp only [aL] at wW
   have e:(cQ (fW++[r]))[j]? = some (c:Int):=by unfold cQ;rw [List.getElem?_map,hc];rfl
   rw [wW,e];rfl
 rw [<- lP (fW++[r])] at aaH
 clear D8 KA G2 hm hinv h1 h4 aaG Wm aaI X2
 rw [et1,et4]
 rw [<- wpIn_wide (n:=3)]
 have f149:Fence.wide.fn 149:=trivial
 have f172:Fence.wide.fn 172:=trivial
 have f150:Fence.wide.fn 150:=trivial
 have f130:Fence.wide.fn 130:=trivial
 have f151:Fence.wide.fn 151:=trivial
 have f152:Fence.wide.fn 152:=trivial
 gi_wp2_with (gi_at_call 149;refine (Tryz.Br Fence.wide 2 trivial rfl _ _ _ _).mono ?_;rintro e w' ⟨rfl,rfl⟩)
 have wX:(w1.alloc (.cells #[.pointer none, .slice none 0 0] 164)).heap.size=w1.heap.size+1:=by simp
 have bN:=Boxed.new (w1.alloc (.cells #[.pointer none, .slice none 0 0] 164)) 57 (.slice (some ⟨gc,0,none⟩) (cQ (fW++[r])).length cap)
 rw [wX] at bN
 have ZV:Below w1.heap.size w1 ((w1.alloc (.cells #[.pointer none, .slice none 0 0] 164)).alloc (.cells #[.slice (some ⟨gc,0,none⟩) (cQ (fW++[r])).length cap] 57)):=((Below.refl _ w1).alloc (Nat.le_refl _) _).alloc (by simp) _
 have aie:(fW++[r]).length<=10000000:=adS
 refine wpIn_rangeFunc_ownG (α := Nat) (F:=Fence.wide) (n:=3) rfl (by omega) (gf:=172) (lb := #[.pointer (some ⟨w1.heap.size+1,0,none⟩)]) rfl trivial (enters_of Tryz.func172 (by kernel_rfl) rfl)
   (Tryz.Ro Fence.wide 2 trivial rfl (by omega) (w1.heap.size+1) w1.heap.size gc 0 cap (cQ (fW++[r])) (by rw [lP];omega) Wn _ (by simp) (by simp;omega) bN.cell (fun j hj=>(ZV.cell (p:=⟨gc,0+j,none⟩) Wn).trans (tz j hj))) (fun h k=>h.trans k)
   (fun W l o o' hl h h2 h3=>⟨belowK_b (w:=w1) (Nat.le_refl _) W l o o' (by simp at hl;omega) h h2 h3,(belowK_b (w:=(w1.alloc (.cells #[.pointer none, .slice none 0 0] 164)).alloc (.cells #[.slice (some ⟨gc,0,none⟩) (cQ (fW++[r])).length cap] 57)) (Nat.le_refl _) W l o o' hl h h2 h3).cell (p:=⟨w1.heap.size+1,0,none⟩) (by simp)⟩) (Below.refl _ _) (by intro _;rfl)
   (fun pre W=>Lib.IsBuilderF 164 5 w1.heap.size w1.heap.size (Lib.byteCells (wq (cQ (fW++[r])) pre)) W/\(Below w1.heap.size w1 W/\W.heap[w1.heap.size+1]? = some (.cells #[.slice (some ⟨gc,0,none⟩) (cQ (fW++[r])).length cap] 57)))
   (fun _ _ _=>False)
   ?own
   (fun _ _ _ _ _ hs _ _=>hs)
   ?start
   (fun x=>{ tmps := #[tv 0, .pointer (some ⟨g0,0,none⟩),tv 2,tv 3, .pointer (some ⟨g10,0,none⟩),tv 5,tv 6, .pointer (some ⟨w1.heap.size,0,none⟩),(.int .i64 (Tryz.bw (cQ (fW++[r])) x).1),(.int .u32 (Tryz.bw (cQ (fW++[r])) x).2),tv 10,tv 11,tv 12,tv 13,tv 14,tv 15,tv 16,tv 17,tv 18,tv 19,tv 20,tv 21,tv 22,tv 23,tv 24,tv 25,tv 26,tv 27,tv 28,tv 29,tv 30,tv 31,tv 32,tv 33,tv 34,tv 35,tv 36,tv 37,tv 38,tv 39,tv 40,tv 41,tv 42,tv 43,tv 44,tv 45,tv 46,tv 47,tv 48,tv 49,tv 50, .pointer (some ⟨g0,0,none⟩), .bool false,tv 53, .slice (some ⟨gc,0,none⟩) (cQ (fW++[r])).length cap, .func (.func 172) #[] #[.pointer (some ⟨w1.heap.size+1,0,none⟩)],(.int .i64 (Tryz.bw (cQ (fW++[r])) x).1),(.int .u32 (Tryz.bw (cQ (fW++[r])) x).2),tv 58,tv 59,tv 60,tv 61,tv 62,tv 63,tv 64,tv 65,tv 66,tv 67,tv 68,tv 69,tv 70,tv 71,tv 72,tv 73],defers:=[] }) ?assign ?body ?done ?stop
 case own=>exact OwnFrom.and (wu _ _) (OwnFrom.and (ownFrom_below (Nat.le_refl _) (by simp;omega)) (Ol _ _))
 case start =>
   refine ⟨.inl ⟨Nat.le_refl _, .slice none 0 0, ?_,World.ownsRowF_nil _ _ _ _,by simp [Value.ownBlock]⟩,ZV, ?_⟩
   rotate_left
   . have:=World.alloc_heap_new (w1.alloc (.cells #[.pointer none, .slice none 0 0] 164)) (.cells #[.slice (some ⟨gc,0,none⟩) (cQ (fW++[r])).length cap] 57)
     rw [wX] at this;exact this
   exact (Below.heap_alloc _ _ _ (by simp)).trans (World.alloc_heap_new w1 _)
 case assign =>
   intro l x W K hK
   gi_wp2
   exact hK
 case body =>
   rintro l pre x W ⟨hIB,Y4,Om⟩ hN
   have aif:(Fence.wide.inRound l).fn 149:=trivial
   have aih:(Fence.wide.inRound l).fn 150:=trivial
   have aii:(Fence.wide.inRound l).fn 130:=trivial
   have aij:(Fence.wide.inRound l).fn 151:=trivial
   obtain ⟨c,yj,hc9⟩:∃ c:Nat,Tryz.bw (cQ (fW++[r])) x=(((cQ (fW++[r])).length:Int)-1-x,(c:Int))/\c<1000000000:=MS Wj x
   have hT:wq (cQ (fW++[r])) (pre++[x])=wq (cQ (fW++[r])) pre++(if (((cQ (fW++[r])).length:Int)-1-x)<((cQ (fW++[r])).length:Int)-1 then pk 9 c else Lib.decDigits c):=by
     rw [AW,yj];rfl
   rw [yj]
   have hpW:Tryz.xy W:=fun i hi=>by
     have h1:=hp1 i hi
     exact (Y4.cell (p:=⟨2,i,none⟩) (World.block_lt_of_cell? _ _ h1)).trans h1
   have hcw:IntKind.u64.wrap (c:Int)=(c:Int):=by rw [IntKind.wrap_u64];omega
   have Y5:=(callsIn_wide (n:=0)).2 (Tryz.C8 c (by omega) W hpW)
   gi_wp2
   refine (CallsIn.inRound l Y5).mono ?_
   rintro e W2 ⟨rfl,uJ⟩
   have hW0:Below w1.heap.size w1 W2:=Y4.trans (uJ.mono Y4.size)
   have ail:W2.cell? ⟨g10,0,none⟩=some (.slice (some ⟨gc,0,none⟩) (cQ (fW++[r])).length cap):=(hW0.cell (p:=⟨g10,0,none⟩) adT).trans aaH
   have aaL:Lib.IsBuilderF 164 5 w1.heap.size w1.heap.size (Lib.byteCells (wq (cQ (fW++[r])) pre)) W2 :=
     wu 0 w1.heap.size (f:=fun (l:List UInt8)=>Lib.byteCells l) _ W W2 none hIB ⟨uJ.os,uJ.tape,uJ.output,uJ.size,fun k hk _=>uJ.block k hk⟩ (fun r h=>by cases h)
   have afM:(wq (cQ (fW++[r])) pre).length<=20*pre.length:=Rp Wj pre
   have UM:(Lib.decDigits c).length<=9:=by rw [Lib.decDigits_length];exact MQ (by decide) hc9
   have hN':pre.length<10000000:=by rw [lP] at hN;omega
   have X4:w1.heap.size<=W2.heap.size:=hW0.size
   have Y2:∃ cb fz,W.heap[w1.heap.size]? = some (.cells cb 164 fz):=by
     rcases hIB with ⟨_,v,hb,_⟩ | ⟨_,v,hb,_⟩<;>exact ⟨_,_,hb⟩
   have hsz:∀ l:List UInt8,(⟨l.toArray⟩:ByteArray).size=l.length:=fun l=>by rw [Lib.size_eq]
   have hwl:wrap64 (((cQ (fW++[r])).length:Int)-1)=((cQ (fW++[r])).length:Int)-1:=On (by rw [lP];simp) (by rw [lP];omega)
   by_cases hx:((cQ (fW++[r])).length:Int)-1-x<((cQ (fW++[r])).length:Int)-1
   . rw [if_pos hx] at hT
     obtain ⟨z,hz⟩:∃ z,z+(Lib.decDigits c).length=9:=⟨9-(Lib.decDigits c).length,by omega⟩
     have hwz:(9:Int)-((Lib.decDigits c).length:Int)=(z:Int):=by omega
     have WT:pk 9 c=List.replicate z 48++Lib.decDigits c:=by rw [Wi 9 (by decide) hc9, <- Lib.decDigits_length];congr 2;omega
     gi_wp2
     refine (CallsIn.inRound l ((callsIn_wide (n:=0)).2 (Tryz.Wl z (by omega) W2))).mono ?_
     rintro e W3 ⟨rfl,To⟩
     have adU:Lib.IsBuilderF 164 5 w1.heap.size w1.heap.size (Lib.byteCells (wq (cQ (fW++[r])) pre)) W3 :=
       wu 0 w1.heap.size (f:=fun (l:List UInt8)=>Lib.byteCells l) _ W2 W3 none aaL ⟨To.os,To.tape,To.output,To.size,fun k hk _=>To.block k hk⟩ (fun r h=>by cases h)
     have G1:w1.heap.size<=W3.heap.size:=Nat.le_trans X4 To.size
     gi_wp2
     refine (CallsIn.inRound l ((callsIn_wide (n:=0)).2 (Tryz.se w1.heap.size w1.heap.size _ ⟨(List.replicate z (48:UInt8)).toArray⟩ W3 adU (by rw [Lib.byteCells_length,hsz,List.length_replicate];omega) G1))).mono ?_
     rintro e W4 ⟨rfl,hB4,X5,hO4⟩
     gi_wp2
     refine (CallsIn.inRound l ((callsIn_wide (n:=0)).2 (Tryz.se w1.heap.size w1.heap.size _ ⟨(Lib.decDigits c).toArray⟩ W4 (.inr hB4) (by rw [List.length_append,Lib.byteCells_length,Lib.strCells_length,hsz,hsz,List.length_replicate];omega) (Nat.le_trans G1 X5.size)))).mono ?_
     rintro e W5 ⟨rfl,hB5,aaM,hO5⟩
     gi_wp2
     obtain ⟨q1,q2,q3⟩:=Bz (B:=w1.heap.size+1+1) (by omega) (uJ.trans (To.mono uJ.size)) Y2 Om (by omega) (X5.trans aaM) (hO4.trans hO5)
     refine ⟨by simpa using q1,q2, ?_,hW0.trans ((To.mono X4).trans (X5.trans aaM)),q3⟩
     rw [hT,WT,Lib.byteCells_append,Lib.byteCells_append, <- List.append_assoc]
     exact .inr hB5
   . rw [if_neg hx] at hT
     gi_wp2
     refine (CallsIn.inRound l ((callsIn_wide (n:=0)).2 (Tryz.se w1.heap.size w1.heap.size _ ⟨(Lib.decDigits c).toArray⟩ W2 aaL (by rw [Lib.byteCells_length,hsz];omega) X4))).mono ?_
     rintro e W3 ⟨rfl,To,aaN,hO3⟩
     gi_wp2
     obtain ⟨q1,q2,q3⟩:=Bz (B:=w1.heap.size+1+1) (by omega) uJ Y2 Om (by omega) aaN hO3
     refine ⟨by simpa using q1,q2, ?_,hW0.trans aaN,q3⟩
     rw [hT,Lib.byteCells_append]
     exact .inr To
 case done =>
   rintro D ys W hD rfl ⟨hIB,Y4,Om⟩ hK
   have adV:wq (cQ (fW++[r])) (Tryz.upto (fun i=>i) (cQ (fW++[r])).length)=Lib.decDigits n:=by
     rw [UI,lP,List.length_append,List.length_singleton,Rq fW r fW.length (Nat.le_refl _),Nat.sub_self,List.drop_zero]
   rw [adV] at hIB
   gi_wp2
   refine ((callsIn_wide (n:=2)).2 (Tryz.Builder_String_any_k w1.heap.size w1.heap.size _ W hIB Y4.size)).mono ?_
   rintro e W2 ⟨rfl,uJ,adW,hO2⟩
   gi_wp2
   have hK2:W2.heap[D]? = some (.deferred (some [])):=hO2 D _ hK (fun e=>by have:=Option.some.inj e;simp at hD;omega) (fun c fz e=>by cases e)
   have aaO:Below w1.heap.size w1 W2:=Y4.trans adW
   refine ⟨by simp, .inl ⟨_,_,rfl,run_takeDeferred hK2, ?_⟩⟩
   refine ⟨_,results_tmp rfl _ _ _,by rw [UI];rfl, ?_⟩
   exact X3.trans ((aaO.trans (belowK_b (w:=w1) (Nat.le_refl _) W2 D _ _ (by simp at hD;omega) hK2 rfl rfl)).mono X3.size)
 case stop =>
   rintro D c pre W _ _ h _
   exact h.elim
end Go.Proofs
end

section
set_option linter.unusedVariables false
set_option maxRecDepth 100000
namespace Go.Proofs
open Go.VL Go.RowKit
theorem Tryz.I3 (G:Nat->Option (List AV)) (xD:gU Tryz.prog G 145) (uU:Has Tryz.prog 95 aY)
   {own:Nat->Prop} {E:Env} {w:World} {R:Exit->Act->World->Prop} {c0 c1 c2 rest:Code} (h0:eD Tryz.prog c0=some Tryz.fv0) (h1:eD Tryz.prog c1=some Tryz.fv1) (h2:eD Tryz.prog c2=some Tryz.fv2)
   (hK:∀ s,s.t[2]? = some (.str [48])->Rn G [] own E w R .ret s) :
   vt Tryz.prog G [] own E w (.seq c0 (.seq c1 (.seq c2 rest))) R ⟨IV (0:Int)::List.replicate 73 (.tup []),fun _=>none,0⟩:=by
 have ew:ah 0=0:=by rw [ah,bq];rfl
 have hW0:W 0 = .sl 1 []:=by rw [W,bq];rfl
 refine vt.seq h0 ?_
 simp only [Tryz.fv0,SS,Nat.reduceAdd,ia]
 refine vt.seq h1 ?_
 have e0:(IV (0:Int)).size=2:=rfl
 simp only [Tryz.fv1,SS,Nat.reduceAdd,ae,iu]
 refine aj (qm xD 0 (by rw [ew];omega)) (by simp [aJ]) ?_
 simp only [SS,Nat.reduceAdd]
 refine aj (Fs uU 0 (by rw [ew];omega)) (by simp [aJ]) ?_
 simp only [SS,Nat.reduceAdd]
 refine vt.seq h2 ?_
 have d0:decide ((ah 0:Int)=0)=true:=by rw [ew];rfl
 simp only [Tryz.fv2,SS,Nat.reduceAdd,bh,d0]
 show Rn G [] own E w R .ret _
 exact hK _ (by simp)
theorem Tryz.I4 (G:Nat->Option (List AV)) (xD:gU Tryz.prog G 145) (uU:Has Tryz.prog 95 aY)
   (w:World) (vs:List Value) (ok:Nat->Prop) (hi:VL.Inv G (fun k=>w.heap.size<=k) ⟨fun _=>none,ok⟩ w (fun _=>none)) (hr:aM ⟨fun _=>none,ok⟩ w [IV (0:Int)] vs) :
   Calls Tryz.prog 129 vs.toArray w fun e w'=>e = .returned (.string ⟨(Lib.decDigits 0).toArray⟩)/\Below w.heap.size w w':=by
 refine calls_of_wp Tryz.func129 rfl ?_
 have Gg:vs.length=1:=aM.len hr
 have hm:je G [] (fun k=>w.heap.size<=k) ⟨fun _=>none,ok⟩ w ⟨IV (0:Int)::List.replicate 73 (.tup []),fun _=>none,0⟩
     { tmps:=vs.toArray++Array.replicate (Tryz.f129.ntmps-vs.toArray.size) undef,defers:=[] }:=by
   refine ⟨?_,hi,fun _ _ _=>rfl,rfl⟩
   show aM _ w _ _
   simp only [Array.toList_append,Array.toList_replicate,List.size_toArray,Gg,Tryz.ntmps129]
   refine aM.append (xs:=[IV (0:Int)]) (ys:=List.replicate 73 (.tup [])) hr (bz.2 ⟨by simp,fun j c hj => ?_⟩)
   have nL:j<73:=by have:=(List.getElem?_eq_some_iff.1 hj).1;simpa using this
   simp only [List.getElem?_replicate,nL,if_true,Option.some.injEq] at hj ⊢
   subst hj
   exact ⟨undef,by simp,by simp only [aL,undef];exact ⟨#[],rfl,by simp [aM]⟩⟩
 refine (Tryz.I3 G xD uU (own:=fun k=>w.heap.size<=k) (E:=⟨fun _=>none,ok⟩) (w:=w) (by kernel_rfl) (by kernel_rfl) (by kernel_rfl) ?_) _ _ _ (kC.refl _ _ _ _) hm
 intro s hs E' w1 a1 had G2
 obtain ⟨v,hv,wW⟩:=(bz.1 G2.frame).2 2 _ hs
 simp only [aL] at wW
 subst wW
 refine ⟨G2.defers,_,results_tmp rfl _ _ _, ?_,⟨had.os,had.tape,had.output,had.size,fun k hk=>had.block k hk (by omega)⟩⟩
 have hz:Lib.decDigits 0=[48]:=by rw [wo (by decide)];rfl
 rw [hz]
 have e:a1.tmps.getD 2 undef = .string ⟨#[48]⟩:=by
   rw [Array.getElem?_toList] at hv
   simp only [Array.getD_eq_getD_getElem?,hv];rfl
 exact congrArg Ending.returned e
def GD:List AV:=(List.range 20).map fun i => .int .u64 ((10 ^ i:Nat):Int)
theorem Tryz.Rr {G:Nat->Option (List AV)} (hG:G 2=some GD) {own:Nat->Prop} {E:Env} {w:World} {σ : aa} (hi:VL.Inv G own E w σ):Tryz.xy w:=by
 have h:=(hi.glob 2 _ hG).2
 intro i hi
 obtain ⟨v,hv,hr⟩:=(gA.1 h) i _ (by unfold GD;rw [List.getElem?_map,List.getElem?_range hi];rfl)
 simp only [aL] at hr
 rw [Nat.zero_add] at hv
 rw [hv,hr]
theorem Tryz.Oq (G:Nat->Option (List AV)) (hG:G 2=some GD) (xD:gU Tryz.prog G 145) (MM:Has Tryz.prog 145 du) (uU:Has Tryz.prog 95 aY) (n:Nat) (hn:ah n<=1000000) :
   VP Tryz.prog G 129 [IV (n:Int)] (.str (Lib.decDigits n)):=by
 refine ⟨⟨_,Tryz.func129,by kernel_rfl,by kernel_rfl⟩,fun w vs ok hi hr => ?_⟩
 have key:Calls Tryz.prog 129 vs.toArray w fun e w'=>e = .returned (.string ⟨(Lib.decDigits n).toArray⟩)/\Below w.heap.size w w':=by
   by_cases h0:n=0
   . subst h0;exact Tryz.I4 G xD uU w vs ok hi hr
   . exact Tryz.Oo G n h0 hn xD MM uU w vs ok hi hr (Tryz.Rr hG hi)
 refine key.mono ?_
 rintro e w' ⟨rfl,hB⟩
 exact ⟨_,ok,rfl,⟨⟨fun _ _ h=>h,fun _ h=>h,fun b hb=>hB.block b (hi.okb b hb)⟩,hB.os,hB.tape,hB.output,hB.size,fun k hk _=>hB.block k hk,fun _ h => .inl h⟩,fun b hb=>Nat.lt_of_lt_of_le (hi.okb b hb) hB.size,by simp only [aL]⟩
theorem Tryz.Ot (G:Nat->Option (List AV)) (z:Nat) (hz:z<=1000):VP Tryz.prog G 130 [.str [48], .int .i64 (z:Int)] (.str (List.replicate z 48)):=by
 refine VP.wN (r:={ val := .str (List.replicate z 48) }) (aB.vJ Tryz.func130 (by kernel_rfl) (by kernel_rfl) ?_) (fun _ _ _ _ _=>by simp only [aL];exact id)
 intro own E w σ vs _ hi hr
 simp only [aM] at hr
 obtain ⟨v,_,rfl,rfl,v2,_,rfl,rfl,rfl⟩:=hr
 refine (Tryz.Wl z hz w).mono ?_
 rintro e W' ⟨rfl,hB⟩
 exact ⟨_,rfl,hB,fun E w=>by simp only [aL]⟩
end Go.Proofs
end

section
set_option linter.unusedVariables false
namespace Go.VL
open Go.Lib
def gz:Nat->Nat->Nat->Nat->Option (Nat × Nat)
 | 0,_,_,_=>none
 | n+1,p,a,b=>if b=1 then some (p,a) else gz n (p+1) (10*a/Nat.gcd (10*a) b) (b/Nat.gcd (10*a) b)
def cj (p m:Nat):List UInt8:=List.replicate (p+1-(decDigits m).length) 48++decDigits m
def qu (p m:Nat):List UInt8:=if p=0 then decDigits m else (cj p m).take ((cj p m).length-p)++[46]++(cj p m).drop ((cj p m).length-p)
def uv (lim a b:Nat):AV:=match gz lim 0 a b with
 | none => .tup [.str [], .bool false]
 | some (p,m) => .tup [.str (qu p m), .bool (decide ((qu p m).length<=40))]
def BA (lim a b:Nat):Bool:=match gz lim 0 a b with
 | none=>false
 | some (p,m)=>decide ((qu p m).length<=40)
theorem Dv:∀ (n p a b:Nat),gz (n+1) p a b=gz n p a b∨(gz n p a b=none/\∃ m,gz (n+1) p a b=some (p+n,m))
 | 0,p,a,b=>by
   by_cases h:b=1
   . right;exact ⟨rfl,a,by simp [gz,h]⟩
   . left;simp [gz,h]
 | n + 1,p,a,b=>by
   by_cases h:b=1
   . left;simp [gz,h]
   . have f1:gz (n+1+1) p a b=gz (n+1) (p+1) (10*a/Nat.gcd (10*a) b) (b/Nat.gcd (10*a) b):=by rw [gz,if_neg h]
     have f2:gz (n+1) p a b=gz n (p+1) (10*a/Nat.gcd (10*a) b) (b/Nat.gcd (10*a) b):=by rw [gz,if_neg h]
     rw [f1,f2]
     rcases Dv n (p+1) (10*a/Nat.gcd (10*a) b) (b/Nat.gcd (10*a) b) with e | ⟨e1,m,e2⟩
     . exact .inl e
     . exact .inr ⟨e1,m,by rw [e2,show p+1+n=p+(n+1) from by omega]⟩
theorem uw (p m:Nat):p+1<=(cj p m).length:=by unfold cj;rw [List.length_append,List.length_replicate];omega
theorem yd (p m:Nat) (hp:p≠0):(qu p m).length=(cj p m).length+1:=by
 unfold qu;rw [if_neg hp]
 have:=uw p m
 simp only [List.length_append,List.length_take,List.length_drop,List.length_singleton];omega
theorem Ou (a b:Nat):BA 41 a b=BA 40 a b:=by
 unfold BA
 rcases Dv 40 0 a b with e | ⟨e1,m,e2⟩
 . rw [e]
 . rw [e1,e2]
   have h1:=uw (0+40) m
   have h2:=yd (0+40) m (by decide)
   exact decide_eq_false (by omega)
theorem qv (a b:Int):part true (RV a b).cells 0 4=some (RV a b):=rfl
theorem Rs (n1:Bool) (w1:List Nat) (n2:Bool) (w2:List Nat):part true (RR n1 w1 n2 w2).cells 0 4=some (RR n1 w1 n2 w2):=rfl
theorem Fy {σ : aa} {id:Id} {k:Nat} {x y a b:Int} (h : σ id=some ⟨[RV x y],k,false⟩):eL σ 4 (.ref id 0 0) (RV a b)=some { val := .tup [],rd:=[id],up:=[(id,some ⟨[RV a b],k,false⟩)] }:=by
 rw [cA (n:=4) (v:=RV a b) h rfl rfl (by simp [AV.size,AV.cells,RV]) rfl]
 rfl
theorem fZ (s:List UInt8) (b:Bool):af (.tup [.str s, .bool b]):=af.tup (by intro c hc;simp at hc;rcases hc with rfl | rfl;exact af.str _;exact af.bool _)
theorem AX {s:List UInt8} {l:Nat} (h:l<=s.length):qT (.str s) none (some (.int .i64 (l:Int)))=some (.str (s.take l)):=by
 simp [qT,cJ,dV,h]
theorem Fz {s:List UInt8} {l:Nat} (h:l<=s.length):qT (.str s) (some (.int .i64 (l:Int))) none=some (.str (s.drop l)):=by
 simp [qT,cJ,dV,h]
theorem KM {a b c n m:Nat} (h:a<=b ^ c) (hb:0<b) (hm:c*n<=m):a ^ n<=b ^ m :=
 Nat.le_trans (Nat.pow_le_pow_left h n) (by rw [<- Nat.pow_mul];exact Nat.pow_le_pow_right hb hm)
theorem KN {x n k:Nat} (hk:0<k) (hx:ah x<=n) (h:10*n<=k):(decDigits x).length<=k:=by
 rw [decDigits_length]
 exact MQ hk (Nat.lt_of_lt_of_le (cN x) (Nat.le_trans (Nat.pow_le_pow_right cV hx) (KM (c:=10) (by decide) (by decide) h)))
theorem FA {x:Nat} (h:ah x<=100):(decDigits x).length<=1000:=KN (by decide) h (by decide)
theorem sY {a b:List UInt8} (h:a.length+b.length<=maxLen):bo .add .str (.str a) (.str b)=some (.str (a++b)):=by simp [bo,kW,Pl,h]
theorem I5 {a b:Nat} (hb:b≠0):b/Nat.gcd (10*a) b≠0/\Nat.gcd (10*a/Nat.gcd (10*a) b) (b/Nat.gcd (10*a) b)=1/\10*a/Nat.gcd (10*a) b<=10*a/\b/Nat.gcd (10*a) b<=b:=by
 have hg:0<Nat.gcd (10*a) b:=Nat.gcd_pos_of_pos_right _ (Nat.pos_of_ne_zero hb)
 refine ⟨?_,Nat.coprime_div_gcd_div_gcd hg,Nat.div_le_self _ _,Nat.div_le_self _ _⟩
 have:0<b/Nat.gcd (10*a) b:=Nat.div_pos (Nat.le_of_dvd (Nat.pos_of_ne_zero hb) (Nat.gcd_dvd_right _ _)) hg
 omega
section
variable {P:Program} {G:Nat->Option (List AV)}
theorem KO {f fV fS UN fI fC fM fF fR:FuncId} (h:Has P f (gi fV fS UN fI fC fM fF fR)) (a b:Nat) (hb:b≠0) (hg:Nat.gcd a b=1) (ha:ah a<=8) (Ci:ah b<=8)
   (hv:VP P G fV [RV (a:Int) (b:Int)] (.bool true)) (hs:VP P G fS [RV (a:Int) (b:Int)] (.int .i64 (a:Int).sign)) (PI:VP P G UN [.int .i64 10] (RV 10 1)) (hi:VP P G fI [.int .i64 1] (IV 1))
   (hc:∀ y:Nat,ah y<=1000->VP P G fC [IV (y:Int),IV 1] (.int .i64 (iZ y 1)))
   (hm:∀ a b:Nat,b≠0->Nat.gcd a b=1->ah a<=1000->ah b<=1000->VP P G fM [RV (a:Int) (b:Int),RV 10 1] (RV ((10*a/Nat.gcd (10*a) b:Nat):Int) ((b/Nat.gcd (10*a) b:Nat):Int)))
   (hf:∀ n:Nat,ah n<=1000->VP P G fF [IV (n:Int)] (.str (decDigits n))) (hr:∀ z:Nat,z<=1000->VP P G fR [.str [48], .int .i64 (z:Int)] (.str (List.replicate z 48))) :
   VP P G f [RV (a:Int) (b:Int)] (uv 40 a b):=by
 refine VP.has h ?_
 have d0:decide ((a:Int).sign<0)=false:=ak (by rcases mE (a:Int) with ⟨e,p⟩ | ⟨e,p⟩ | ⟨e,p⟩<;>omega)
 simp only [gi,SS,Nat.reduceAdd,ya,ae,qv]
 refine aj hv (by simp [fB]) ?_
 simp only [SS,Nat.reduceAdd,ae,qv]
 refine aj hs (by simp [fB]) ?_
 simp only [SS,Nat.reduceAdd,d0]
 refine aj PI (by simp [af.int]) ?_
 simp only [SS,Nat.reduceAdd,mM]
 rw [gW (k:=(AV.agg [.bool false, .nils, .bool false, .nils]).size) (by simp [aa.put])]
 simp only [SS,Nat.reduceAdd]
 refine aj hi (by simp [af.int]) ?_
 simp only [SS,Nat.reduceAdd,cx]
 rw [bB (k:=(AV.agg [.bool false, .nils]).size) (y := .agg [.bool false, .nils]) rfl (jJ _) (by simp [aa.put])]
 simp only [SS,Nat.reduceAdd,aC]
 refine VW.bJ (α := Nat × Nat × Nat × Nat) (fun x=>⟨[RV (a:Int) (b:Int), .ref [0] 0 0, .str [], .bool false, .ref [12] 0 0, .ref [15] 0 0, .int .i64 ((x.1:Nat):Int)]++List.replicate 58 .top,
   ((aa.put (fun _=>none) [0] (some ⟨[RV (x.2.1:Int) (x.2.2.1:Int)],4,false⟩)).put [12] (some ⟨[RV 10 1],4,false⟩)).put [15] (some ⟨[IV 1],2,false⟩),x.2.2.2⟩)
   (fun x=>x.1<=40/\x.2.2.1≠0/\Nat.gcd x.2.1 x.2.2.1=1/\ah x.2.1<=8+x.1/\ah x.2.2.1<=8/\gz 40 0 a b=gz (40-x.1) x.1 x.2.1 x.2.2.1) (fun x=>40-x.1) (0,a,b,1000) ?_ ?_ ?_
 . refine Wk.forget (by simp [Fg,List.replicate]) (fun j => ?_) (by simp only [];omega)
   by_cases h1:j=[15]
   . subst h1;right;simp [aa.put];rfl
   by_cases h2:j=[12]
   . subst h2;right;simp [aa.put];rfl
   by_cases h3:j=[0]
   . subst h3;right;simp [aa.put];rfl
   . left;simp [aa.put,h1,h2,h3]
 . exact ⟨Nat.zero_le _,hb,hg,ha,Ci,rfl⟩
 rintro ⟨p,x,y,nn⟩ ⟨hp,hy,Wn,hwx,hwy,hgo⟩
 simp only [] at hp hy Wn hwx hwy hgo
 unfold uv
 rw [hgo]
 by_cases adY:p<40
 case neg =>
   have dp:decide ((p:Int)<40)=false:=ak (by omega)
   rw [show 40-p=0 from by omega]
   simp only [SS,Nat.reduceAdd,dp,gz]
   exact ag▸ab rfl (fZ _ _)
 have dp:decide ((p:Int)<40)=true:=ao (by omega)
 obtain ⟨m,X6⟩:∃ m,40-p=m+1:=⟨40-p-1,by omega⟩
 rw [X6]
 have k1:([0]:List Nat)≠[12]:=by decide
 have k2:([0]:List Nat)≠[15]:=by decide
 have k3:([12]:List Nat)≠[15]:=by decide
 simp only [SS,Nat.reduceAdd,dp,ai k1,ai k2,ae,mj,cp]
 refine aj (hc y (by omega)) (by simp [aF]) ?_
 by_cases JV:y=1
 . have dc:decide (iZ (y:Int) 1≠0)=false:=ak (by rw [JV];decide)
   simp only [SS,Nat.reduceAdd,dc]
   have BP:gz (m+1) p x y=some (p,x):=by rw [gz,if_pos JV]
   have UM:=FA (x:=x) (by omega)
   rw [BP]
   simp only [SS,Nat.reduceAdd,ai k1,ai k2,ae,nz]
   refine aj (hf x (by omega)) (by simp [aF]) ?_
   have uW:∀ (t:List UInt8),t.length<=2000->(decide ((t.length:Int)<=40))=decide (t.length<=40):=fun t _=>by by_cases h:t.length<=40<;>simp [h]<;>omega
   by_cases X7:p=0
   . subst X7
     have d1:decide ((0:Int)<((0:Nat):Int))=false:=by decide
     have e0:qu 0 x=decDigits x:=if_pos rfl
     simp only [SS,Nat.reduceAdd,d1,e0]
     rw [uW _ (by omega)]
     exact ag▸ab rfl (fZ _ _)
   . have d1:decide ((0:Int)<(p:Int))=true:=ao (by omega)
     have J1:=uw p x
     have e0:qu p x=(cj p x).take ((cj p x).length-p)++[46]++(cj p x).drop ((cj p x).length-p):=if_neg X7
     have hL:=yd p x X7
     have xK:∀ q:Nat,q<=1100->p<=q->IntKind.i64.wrap ((q:Int)-(p:Int))=((q-p:Nat):Int):=fun q h1 h2=>by rw [IntKind.wrap_i64];omega
     have We:(cj p x).length<=1100:=by unfold cj;rw [List.length_append,List.length_replicate];omega
     have uK:IntKind.i64.wrap ((p:Int)+1)=((p+1:Nat):Int):=by rw [IntKind.wrap_i64];omega
     have wR:IntKind.i64.wrap (((p+1:Nat):Int)-((decDigits x).length:Int))=((p+1:Nat):Int)-((decDigits x).length:Int):=by rw [IntKind.wrap_i64];omega
     have z6:=xK _ We (by omega)
     have b1:=AX (s:=cj p x) (l:=(cj p x).length-p) (by omega)
     have b2:=Fz (s:=cj p x) (l:=(cj p x).length-p) (by omega)
     have zZ:bo .add .str (.str ((cj p x).take ((cj p x).length-p))) (.str [46])=some (.str ((cj p x).take ((cj p x).length-p)++[46])):=sY (by rw [List.length_take];simp [maxLen];omega)
     have I6:bo .add .str (.str ((cj p x).take ((cj p x).length-p)++[46])) (.str ((cj p x).drop ((cj p x).length-p)))=some (.str (qu p x)):=by rw [e0];exact sY (by rw [List.length_append,List.length_take,List.length_drop];simp [maxLen];omega)
     by_cases hn:(decDigits x).length<=p
     . have d2:decide ((0:Int)<((p+1-(decDigits x).length:Nat):Int))=true:=ao (by omega)
       have ez:((p+1:Nat):Int)-((decDigits x).length:Int)=((p+1-(decDigits x).length:Nat):Int):=by omega
       have epd:bo .add .str (.str (List.replicate (p+1-(decDigits x).length) 48)) (.str (decDigits x))=some (.str (cj p x)):=sY (by rw [List.length_replicate];simp [maxLen];omega)
       have WX:IntKind.i64.wrap ((p+1-(decDigits x).length:Nat):Int)=((p+1-(decDigits x).length:Nat):Int):=by rw [IntKind.wrap_i64];omega
       simp only [SS,Nat.reduceAdd,d1,uK,WX,d2,ez]
       refine aj (hr (p+1-(decDigits x).length) (by omega)) (by simp [af.str,af.int]) ?_
       simp only [SS,DD,Nat.reduceAdd,epd,z6,b1,b2,zZ,I6]
       refine ⟨by simp [ar,apart], ?_⟩
       rw [uW _ (by omega)]
       exact ag▸ab rfl (fZ _ _)
     . have d2:decide ((0:Int)<((p+1:Nat):Int)-((decDigits x).length:Int))=false:=ak (by omega)
       have epd:decDigits x=cj p x:=by unfold cj;rw [show p+1-(decDigits x).length=0 from by omega];rfl
       simp only [SS,Nat.reduceAdd,d1,uK,wR,d2]
       rw [epd]
       simp only [SS,DD,Nat.reduceAdd,z6,b1,b2,zZ,I6]
       refine ⟨by simp [ar,apart], ?_⟩
       rw [uW _ (by omega)]
       exact ag▸ab rfl (fZ _ _)
 . have dc:decide (iZ (y:Int) 1≠0)=true:=ao (by unfold iZ;split;(· decide);split;(· decide);omega)
   simp only [SS,Nat.reduceAdd,dc,ai k1,ai k2,ai k3,ae,qv]
   refine aj (hm x y hy Wn (by omega) (by omega)) (by simp [fB]) ?_
   simp only [SS,Nat.reduceAdd]
   rw [Fy (k:=4) (x:=(x:Int)) (y:=(y:Int)) (by simp [aa.put])]
   simp only [SS,Nat.reduceAdd]
   obtain ⟨r1,r2,r3,r4⟩:=I5 (a:=x) (b:=y) hy
   have hwp:IntKind.i64.wrap ((p:Int)+1)=((p+1:Nat):Int):=by rw [IntKind.wrap_i64];omega
   have X8:ah (10*x/Nat.gcd (10*x) y)<=8+(p+1):=by
     have h1:=cP r3
     have h2:=ql 10 x
     have h3:ah 10<=1:=jg (by decide)
     omega
   have X9:ah (y/Nat.gcd (10*x) y)<=8:=Nat.le_trans (cP r4) hwy
   have Ya:gz (m+1) p x y=gz (40-(p+1)) (p+1) (10*x/Nat.gcd (10*x) y) (y/Nat.gcd (10*x) y):=by
     rw [show 40-(p+1)=m from by omega,gz,if_neg JV]
   simp only [hwp]
   refine ⟨(p+1,10*x/Nat.gcd (10*x) y,y/Nat.gcd (10*x) y,nn+1000),⟨by simp only [];omega,r1,r2,X8,X9,Ya⟩,by simp only [];omega, ?_⟩
   refine Wk.forget (by simp [Fg]) (fun j => ?_) (by simp only [];omega)
   by_cases h1:j=[15]
   . subst h1;right;simp [aa.put]
   by_cases h2:j=[12]
   . subst h2;right;simp [aa.put]
   by_cases h3:j=[0]
   . subst h3;right;simp [aa.put]
   . left;simp [aa.put,h1,h2,h3]
end
end Go.VL
end
