/- For the claim of FeatureMirror: parts CR8, CR9, CR10, DT, MUW, RQ, CH2, CF8, CH3, CF12, CG1, VL36, CN1, CQ1, CN2, CN3. -/
import Derived.Test.YtchdghnpcekegaaGreatC07
import Derived.Lib.ItoaNum
import Derived.Test.YtchdghnpcekegaaGreatC05
import Derived.Test.YtchdghnpcekegaaGreatC03
import Derived.Lib.IndexMore
import Derived.Sort.KeysCollected
import Derived.Sort.Walk0
import Derived.Lib.SlicesCompact
import Derived.Test.YtchdghnpcekegaaGreatC04
set_option linter.unusedSimpArgs false
set_option linter.unusedVariables false
section
set_option linter.unusedVariables false
namespace Go.VL
theorem YS {k r j y:Nat} (h:(pad (k+1) r)[j]? = some y) (hr:r<aE ^ (k+1)):y=(if j<ag r then ((digits r)[j]?).getD 0 else 0):=by
 obtain ⟨z,hz⟩:=trimmed (pad (k+1) r) (sk _ _)
 rw [fZ hr] at hz
 rw [hz] at h
 by_cases hj:j<ag r
 . rw [if_pos hj]
   rw [List.getElem?_append_left (show j<(digits r).length from hj)] at h
   rw [h];rfl
 . rw [if_neg hj]
   rw [List.getElem?_append_right (show (digits r).length<=j from by show ag r<=j;omega)] at h
   exact List.eq_of_mem_replicate (List.mem_of_getElem? h)
theorem VI {a p b t:List Nat} {k j w:Nat} (hp:p.length=k) (hb:b.length=k) (hj:j<k):(a++(p.take j++b.drop j)++t).set (a.length+j) w=a++(p.take j++w::b.drop (j+1))++t:=by
 have h1:(p.take j).length=j:=by rw [List.length_take];omega
 obtain ⟨x,hx⟩:∃ x,b.drop j=x::b.drop (j+1):=⟨_,List.drop_eq_getElem_cons (show j<b.length by omega)⟩
 rw [hx,List.append_assoc,List.set_append_right _ _ (by omega),show a.length+j-a.length=j from by omega,List.append_assoc,List.set_append_right _ _ (by omega),h1,Nat.sub_self]
 simp
theorem SK {a p b t:List Nat} {k j v w:Nat} (hp:p.length=k) (hj:j<k):(a++(p.take j++v::b)++t).set (a.length+j) w=a++(p.take j++w::b)++t:=by
 have h1:(p.take j).length=j:=by rw [List.length_take];omega
 rw [List.append_assoc,List.set_append_right _ _ (by omega),show a.length+j-a.length=j from by omega,List.append_assoc,List.set_append_right _ _ (by omega),h1,Nat.sub_self]
 simp
section
variable {P:Program} {G:Nat->Option (List AV)}
set_option maxRecDepth 100000 in
set_option maxHeartbeats 4000000 in
theorem OR {f fc fsh fw fby fl fsd ft fdg fmi fbk ftm:FuncId} (h:Has P f (jG fc fsh fw fby fl fsd ft fdg fmi fbk))
   (hc:∀ m n,ag m<=1000000->ag n<=1000000->VP P G fc [W m,W n] (.int .i64 (fY m n)))
   (htu:∀ n,n<18446744073709551616->VP P G fsh [W n] (.int .u64 ((n:Nat):Int))) (hu:∀ n,n<18446744073709551616->VP P G fw [.int .u64 ((n:Nat):Int)] (W n))
   (hby:∀ m w:Nat,ag m<=1000000->w<aE->w≠0->VP P G fby [W m, .int .u32 (w:Int)] (.tup [W (m/w), .int .u32 ((m%w:Nat):Int)]))
   (hlen:Has P fl gy) (hsd:Has P fsd gb) (ht:iW P G ft) (htr:Has P ft gm)
   (hdg:Has P fdg (gP ftm ft fc fmi)) (Ft:∀ (m:Nat) (ws:List Nat),Wd ws->ag m<=1000000->ws.length<=1000000->VP P G ftm [W m, .sl 1 (us ws)] (W (m*val ws)))
   (hmi:Has P fmi (dX ft)) (Of:∀ m s:Nat,ag m<=1000000->s<=31->VP P G fbk [W m, .int .i64 (s:Int)] (W (m/2 ^ s)))
   (m n:Nat) (F0:n≠0) (hm:ag m<=900000) (hn:ag n<=900000):VP P G f [W m,W n] (.tup [W (m/n),W (m%n)]):=by
 refine VP.has h ?_
 have ace:=hc m n (by omega) (by omega)
 have Sr:m/n=0->∀ σ,View σ .nils (W (m/n)):=fun h σ => by rw [h];simp only [W,bA,us];exact View.nils 1
 have acf:m<n->m/n=0/\m%n=m:=fun h=>⟨Nat.div_eq_of_lt h,Nat.mod_eq_of_lt h⟩
 have c1:m<n->decide (fY m n<0)=true:=fun h=>ay (by simp only [fY,jm];rw [if_pos (by omega)];decide)
 have c2 : ¬ m<n->decide (fY m n<0)=false:=fun h=>au (by simp only [fY,jm];rw [if_neg (by omega)];split<;>decide)
 have l1:ag m<=2->decide ((ag m:Int)<=2)=true:=fun h=>ay (by omega)
 have l2 : ¬ ag m<=2->decide ((ag m:Int)<=2)=false:=fun h=>au (by omega)
 have b1:ag n=1->decide ((ag n:Int)=1)=true:=fun h=>ay (by omega)
 simp only [jG,SS,Nat.reduceAdd]
 refine ah ace (by simp [aB]) ?_
 by_cases h1:m<n
 . simp only [SS,Nat.reduceAdd,c1 h1]
   obtain ⟨e1,e2⟩:=acf h1
   refine ai▸⟨.tup [.nils,W m],rfl,View.tup (aG.cons (Sr e1 _) (aG.cons ?_ aG.nil))⟩
   rw [e2];exact View.pure (aB _)
 have uS:n<=m:=by omega
 have hwn:ag n≠0:=fun e=>F0 (cI.1 e)
 by_cases h2:ag m<=2
 . have Cn:=tv h2
   have XG:n<18446744073709551616:=by omega
   have hq:=JI m n Cn F0
   have hr:=JJ m n F0
   have hu1:=hu (m/n) (Nat.lt_of_le_of_lt (Nat.div_le_self _ _) Cn)
   have hu2:=hu (m%n) (Nat.lt_of_le_of_lt (Nat.mod_le _ _) Cn)
   simp only [SS,Nat.reduceAdd,c2 h1,bg,l1 h2]
   refine ah (htu m Cn) (by simp [aB]) ?_
   simp only [SS,Nat.reduceAdd]
   refine ah (htu n XG) (by simp [aB]) ?_
   simp only [SS,DD,Nat.reduceAdd,hq]
   refine ak hu1 (by simp [aa.int]) ?_
   simp only [SS,DD,Nat.reduceAdd,hr]
   refine ak hu2 (by simp [aa.int]) ?_
   simp only [SS,DD,Nat.reduceAdd]
   refine ⟨by simp [ab,apart], ?_⟩
   exact ai▸ae rfl (aa.tup (by intro c hc;simp at hc;rcases hc with rfl | rfl<;>exact aB _))
 by_cases h3:ag n=1
 . obtain ⟨x,hx⟩:∃ x,(digits n)[0]? = some x:=⟨_,List.getElem?_eq_getElem (by show 0<ag n;omega)⟩
   have hxn:x=n:=by
     have e:=aN hx
     rw [List.take_of_length_le (show (digits n).length<=1 from by show ag n<=1;omega),aV] at e
     simp [val] at e;omega
   have hg:=di hx
   rw [hxn] at hg
   have hnB:n<aE:=by rw [<- hxn];exact aW n x (List.mem_of_getElem? hx)
   have hdv:=hby m n (by omega) hnB F0
   have Ob:cx 1 (W n) (.int .i64 0)=some (.ep (AV.int .u32 (n:Int)).cells 0):=hg
   have hmB:m%n<aE:=Nat.lt_trans (Nat.mod_lt _ (Nat.pos_of_ne_zero F0)) hnB
   have f9:=bu (m%n) hmB
   have hu9:=hu (m%n) (by unfold aE at hmB;omega)
   simp only [SS,Nat.reduceAdd,c2 h1,bg,l2 h2,b1 h3,Ob,aI,bo]
   refine ah hdv (by simp [aB,aa.int]) ?_
   simp only [SS,Nat.reduceAdd,B1,B2,f9]
   refine ah hu9 (by simp [aa.int]) ?_
   simp only [SS,Nat.reduceAdd]
   exact ai▸ae rfl (aa.tup (by intro c hc;simp at hc;rcases hc with rfl | rfl<;>exact aB _))
 obtain ⟨k,hk⟩:∃ k,ag n=k+2:=⟨ag n-2,by omega⟩
 obtain ⟨x,hx⟩:∃ x,(digits n)[k+1]? = some x:=⟨_,List.getElem?_eq_getElem (by show k+1<ag n;omega)⟩
 obtain ⟨Sp,hxB,hV,hwV,hs⟩:=Di hk hx
 obtain ⟨am4,am5⟩:=QU hxB Sp
 have afr:=OP (G:=G) hlen hk hx (by omega)
 generalize am6:32-iE x=s at hV hwV hs
 have m1:IntKind.i64.wrap (32*((k+2:Nat):Int))=((32*(k+2):Nat):Int):=by rw [IntKind.wrap_i64];omega
 have m2:IntKind.i64.wrap (((32*(k+2):Nat):Int)-((32*(k+1)+iE x:Nat):Int))=(s:Int):=by rw [IntKind.wrap_i64];omega
 obtain ⟨V,SC⟩:∃ V,V=n*2 ^ s:=⟨_,rfl⟩
 obtain ⟨U,YK⟩:∃ U,U=m*2 ^ s:=⟨_,rfl⟩
 rw [<- SC] at hV hwV
 have OJ:=HJ (G:=G) hsd m s (by omega) hs
 have OK:=HJ (G:=G) hsd n s (by omega) hs
 rw [<- SC] at OK
 rw [<- YK] at OJ
 obtain ⟨L,hL⟩:∃ L,ag m+1=L+(k+2):=⟨ag m+1-(k+2),by have:=bE uS;omega⟩
 have hUB:U<aE ^ (ag m+1):=by
   have h4:2 ^ s<=2 ^ 32:=Nat.pow_le_pow_right (by decide) (by omega)
   have h5:m*2 ^ s<=m*2 ^ 32:=Nat.mul_le_mul_left _ h4
   have h6:m*2 ^ 32<aE ^ ag m*2 ^ 32:=Nat.mul_lt_mul_of_pos_right (cV m) (by decide)
   rw [Nat.pow_succ,YK];exact Nat.lt_of_le_of_lt h5 h6
 obtain ⟨A0,R0,hAR,hA0,hR0⟩:∃ A R,pad (ag m+1) U=A++R++[]/\A.length=L/\R.length=k+2 :=
   ⟨(pad (ag m+1) U).take L,(pad (ag m+1) U).drop L,by simp,by simp [kK];omega,by simp [kK];omega⟩
 have hAw:Wd A0/\Wd R0:=by
   have h4:=sk (ag m+1) U
   rw [hAR] at h4
   exact ⟨fun w hw=>h4 w (by simp [hw]),fun w hw=>h4 w (by simp [hw])⟩
 have hU0:U=val A0+aE ^ L*val R0:=by
   have h4:=fZ hUB
   rw [hAR,List.append_nil,cv,hA0] at h4
   exact h4.symm
 have Vv:val R0<V:=MN (k:=k+2) SC (by have:=tp F0;rw [hk] at this;exact this) (by
   have h4:=cV m
   have:L+(k+2-1)=ag m:=by omega
   rw [this];exact h4) (YK▸hU0)
 have HG:ag V=k+2:=hwV
 have XK:0<V:=Nat.lt_of_le_of_lt (Nat.zero_le _) Vv
 have LA:IntKind.i64.wrap (((ag m:Nat):Int)-((k+2:Nat):Int))=(L:Int)-1:=by rw [IntKind.wrap_i64];omega
 have uM:∀ p:Id,jr p 1 4 (.int .u32 0) (.int .i64 ((ag m:Nat):Int)) (.int .i64 ((ag m:Nat):Int))=some { val := .osl p 1 0 (ag m) false,up:=[(p,some ⟨us (List.replicate (ag m) 0),1,false⟩)] }:=fun p=>nW (by omega)
 rw [hAR] at OJ
 rw [hk] at OK
 have b3:decide (((k+2:Nat):Int)=1)=false:=au (by omega)
 have TY:V<aE ^ (k+2+1):=Nat.lt_of_lt_of_le hV (Nat.pow_le_pow_right cW (by omega))
 have Vx:VP P G ft [.sl 1 (us (pad (k+2+1) V))] (W V):=by
   have:=ht (pad (k+2+1) V) (sk _ _) (by rw [kK];omega)
   rwa [fZ TY] at this
 simp only [SS,Nat.reduceAdd,c2 h1,bg,l2 h2,b3,hk,m1]
 refine ah afr (by simp [aB]) ?_
 simp only [SS,Nat.reduceAdd,m2]
 refine ⟨[],_,OJ _,by simp,by simp, ?_⟩
 simp only [SS,Nat.reduceAdd]
 refine ⟨[],_,OK _,by simp,by simp, ?_⟩
 simp only [SS,Nat.reduceAdd]
 refine bJ [([4,24],⟨us (pad (k+2+1) V),1,false⟩)] Vx (aG.cons (g7 (kK _ _).symm) aG.nil) (by simp [af.put]) ?_
 simp only [SS,Nat.reduceAdd,bg,HG,uM,LA,aP]
 refine VW.ey (α := Nat × List Nat × List Nat × Nat × List Nat × Nat) (fun x=>⟨List.replicate 10 .top++[.int .i64 (s:Int), .osl [4,21] 1 0 (ag m+1) false,W V, .osl [30] 1 0 (ag m) false, .int .i64 ((x.1:Int)-1)]++List.replicate 113 .top,
   af.put (af.put (fun _=>none) [4,21] (some ⟨us (x.2.1++x.2.2.1++zs x.2.2.2.1),1,false⟩)) [30] (some ⟨us (zs x.1++(x.2.2.2.2.1++zs (k+1))),1,false⟩),x.2.2.2.2.2⟩)
   (fun x=>x.1+x.2.2.2.2.1.length=L/\x.2.1.length=x.1/\x.2.2.1.length=k+2/\x.1+(k+2)+x.2.2.2.1=ag m+1/\Wd x.2.1/\Wd x.2.2.1/\Wd x.2.2.2.2.1/\val x.2.2.1<V/\U=val x.2.1+aE ^ x.1*(val x.2.2.2.2.1*V+val x.2.2.1)/\1000<=x.2.2.2.2.2) (fun x=>x.1) (L,A0,R0,0,[],1000) ?_ ?_ ?_
 . refine Wk.forget (by simp [Fg,List.replicate]) (fun j => ?_) (by simp only [];omega)
   have hLk:zs (ag m)=zs L++([]++zs (k+1)):=by
     simp only [zs,List.nil_append,List.replicate_append_replicate];congr 1;omega
   simp only [List.append_nil,af.put,af.app,E6,List.map_cons,List.map_nil, <- hLk,x5]
   by_cases e1:j=[30]
   . subst e1;simp [zs]
   . by_cases e2:j=[4,21]
     . subst e2;simp
     . simp [e1,e2]
 . refine ⟨by simp,hA0,hR0,by simp only [];omega,hAw.1,hAw.2,by intro w hw;simp at hw,Vv, ?_,Nat.le_refl _⟩
   show U=val A0+aE ^ L*(val []*V+val R0)
   rw [show val []=0 from rfl,Nat.zero_mul,Nat.zero_add];exact hU0
 rintro ⟨c,A,R,tl,o,nn⟩ ⟨hcc,hA,hR,htl,hAW,hRW,hoW,TX,hUe,hnn⟩
 simp only [] at hcc hA hR htl hAW hRW hoW TX hUe hnn
 rcases Nat.eq_zero_or_pos c with h0 | hcp
 . subst h0
   have d0:decide ((0:Int)<=((0:Nat):Int)-1)=false:=by decide
   obtain rfl:A=[]:=List.length_eq_zero_iff.1 hA
   have hU':m*2 ^ s=val o*(n*2 ^ s)+val R:=by
     rw [<- YK, <- SC,hUe]
     show val []+aE ^ 0*_=_
     simp [val]
   obtain ⟨g1,g2,g3⟩:=QW F0 hU' (SC▸TX)
   have hoL:ag m=(o++zs (k+1)).length:=by simp [zs];omega
   have htq:=ht (o++zs (k+1)) (cM hoW (aaJ _)) (by omega)
   rw [show val (o++zs (k+1))=val o from QM o (k+1),g1] at htq
   have hRl:ag m+1=(R++zs tl).length:=by simp [zs];omega
   have htR:=ht (R++zs tl) (cM hRW (aaJ _)) (by omega)
   rw [show val (R++zs tl)=val R from QM R tl] at htR
   have hwR:ag (val R)<=1000000:=by rw [<- SC,HG] at g3;omega
   have afs:=Of (val R) s hwR hs
   rw [g2] at afs
   simp only [SS,Nat.reduceAdd,d0,x5]
   refine bJ [([30],⟨us (o++zs (k+1)),1,false⟩)] htq (aG.cons (g7 hoL) aG.nil) (by simp [af.put]) ?_
   simp only [SS,Nat.reduceAdd]
   refine bJ [([4,21],⟨us (R++zs tl),1,false⟩)] htR (aG.cons (g7 hRl) aG.nil) (by simp [af.put,af.app,E6]) ?_
   simp only [SS,Nat.reduceAdd]
   refine ah afs (by simp [aB,aa.int]) ?_
   simp only [SS,Nat.reduceAdd]
   exact ai▸ae rfl (aa.tup (by intro c hc;simp at hc;rcases hc with rfl | rfl<;>exact aB _))
 obtain ⟨i,rfl⟩:∃ i,c=i+1:=⟨c-1,by omega⟩
 have d0:decide ((0:Int)<=(i:Int))=true:=ay (by omega)
 have hj:((i+1:Nat):Int)-1=(i:Int):=by omega
 have U8:IntKind.i64.wrap ((i:Int)-1)=(i:Int)-1:=by rw [IntKind.wrap_i64];omega
 obtain ⟨A',y,rfl,hA'⟩:=x8 hA
 obtain ⟨b,F1⟩:∃ b,b=y::R:=⟨_,rfl⟩
 have eb:A'++[y]++R++zs tl=A'++b++zs tl:=by rw [F1];simp
 have hyB:y<aE:=hAW y (by simp)
 have acq:Wd A':=fun w hw=>hAW w (by simp [hw])
 have Ce:b.length=k+3:=by rw [F1];simp [hR]
 have Lp:Wd b:=by
   intro w hw;rw [F1] at hw
   rcases List.mem_cons.1 hw with rfl | hw
   . exact hyB
   . exact hRW w hw
 have hbv:val b=y+aE*val R:=by rw [F1];rfl
 obtain ⟨hDV,XL⟩:=ae8 hyB TX
 rw [<- hbv] at hDV XL
 have a1:=pa i (k+2) (by omega)
 have a4:IntKind.i64.wrap (((i+(k+2):Nat):Int)+1)=((i+(k+3):Nat):Int):=by rw [IntKind.wrap_i64];omega
 have iaq:=cN (q:=[30]) (t:=false) (show i<ag m by omega)
 have MP:ek 1 (.osl [4,21] 1 0 (ag m+1) false) (some (.int .i64 (i:Int))) (some (.int .i64 ((i+(k+3):Nat):Int))) none=some (.osl [4,21] 1 A'.length (k+3) false):=by
   rw [JN (by omega) (by omega),hA']
   congr 2;omega
 have jZ:∀ j,1000<=j->∀ x,([4,21]:List Nat)≠x::[j]:=fun j h x e=>by simp at e;omega
 have aiR:∀ j,1000<=j->_:=fun j hj=>SJ (G:=G) hdg Ft htr hc (fun m n h1 h2=>JP hmi ht m n h1 h2) (id:=[4,21]) (a:=A') (b:=b) (t:=zs tl) HG Ce Lp hDV (by omega) [j] (jZ j hj)
 have aft:=MT (G:=G) htr (id:=[4,21]) (a:=A') (b:=b) (t:=zs tl) Lp (by omega)
 rw [Ce] at aft
 obtain ⟨z,hz⟩:=trimmed b Lp
 have he:A'++b++zs tl=A'++digits (val b)++(zs z++zs tl):=by
   conv=>lhs;rw [hz]
   simp
 have JO:val b%V<V:=Nat.mod_lt _ XK
 have afu:val b-V*(val b/V)=val b%V:=by have:=Nat.div_add_mod (val b) V;omega
 have TW:ag (val b)<=1000000:=by
   have h1:=mO Lp
   rw [Ce] at h1
   have:=fK h1;omega
 have afv:∀ j,1000<=j->_:=fun j hj=>SI (G:=G) hmi ht (id:=[4,21]) (a:=A') (t:=zs z++zs tl) (val b) (V*(val b/V)) (Nat.mul_div_le _ _) TW [j] (jZ j hj)
 rw [afu, <- he] at afv
 have hqL:i<(zs (i+1)++(o++zs (k+1))).length:=by simp [zs];omega
 rw [eb]
 simp only [SS,Nat.reduceAdd,hj,d0,bg,HG,a1,a4,MP]
 refine ⟨[([4,21],⟨us (A'++b++zs tl),1,false⟩)],_,aiR _ (by omega),by simp [af.put],by simp, ?_⟩
 simp only [SS,Nat.reduceAdd,B1,B2,iaq]
 rw [bP (o:=zs (i+1)++(o++zs (k+1))) (by simp [af.put]) hqL,Af]
 simp only [SS,Nat.reduceAdd]
 refine ⟨[([4,21],⟨us (A'++b++zs tl),1,false⟩)],_,aft _,by simp [af.put],by simp, ?_⟩
 simp only [SS,Nat.reduceAdd]
 refine ⟨[([4,21],⟨us (A'++b++zs tl),1,false⟩)],_,afv _ (by omega),by simp [af.put],by simp, ?_⟩
 simp only [SS,Nat.reduceAdd,aP]
 obtain ⟨r,hr⟩:∃ r,r=val b%V:=⟨_,rfl⟩
 rw [<- hr] at JO ⊢
 have MB:r<aE ^ (k+2):=Nat.lt_trans JO hV
 have aiS:r<aE ^ (k+2+1):=Nat.lt_of_lt_of_le MB (Nat.pow_le_pow_right cW (by omega))
 obtain ⟨pd,hpd⟩:∃ pd,pd=pad (k+2+1) r:=⟨_,rfl⟩
 have VJ:pd.length=k+3:=by rw [hpd];exact kK _ _
 refine VW.ey (α := Nat × Nat) (fun x=>⟨List.replicate 10 .top++[.int .i64 (s:Int), .osl [4,21] 1 0 (ag m+1) false,W V, .osl [30] 1 0 (ag m) false, .int .i64 (i:Int), .osl [4,21] 1 A'.length (k+3) false, .top, .top,W r, .int .i64 (x.1:Int)]++List.replicate 108 .top,
   af.put (af.put (fun _=>none) [4,21] (some ⟨us (A'++(pd.take x.1++b.drop x.1)++zs tl),1,false⟩)) [30] (some ⟨us (zs i++val b/V::(o++zs (k+1))),1,false⟩),x.2⟩)
   (fun x=>x.1<=k+3/\1000<=x.2) (fun x=>k+3-x.1) (0,nn+1000) ?_ ?_ ?_
 . refine Wk.forget (by simp [Fg,List.replicate]) (fun j => ?_) (by simp only [];omega)
   simp only [List.take_zero,List.drop_zero,List.nil_append,af.put]
   by_cases e1:j=[30]
   . subst e1;simp
   . by_cases e2:j=[4,21]
     . subst e2;simp
     . simp [e1,e2]
 . exact ⟨Nat.zero_le _,by simp only [];omega⟩
 rintro ⟨j,mm⟩ ⟨MU,Kk⟩
 simp only [] at MU Kk
 have qQ:j<k+3->decide ((j:Int)<((k+3:Nat):Int))=true:=fun h=>ay (by omega)
 have yw : ¬ j<k+3->decide ((j:Int)<((k+3:Nat):Int))=false:=fun h=>au (by omega)
 have Mz:j<ag r->decide ((j:Int)<(ag r:Int))=true:=fun h=>ay (by omega)
 have MA : ¬ j<ag r->decide ((j:Int)<(ag r:Int))=false:=fun h=>au (by omega)
 have TV:=aL j (by omega)
 by_cases DJ:j<k+3
 . have hio:=pR (q:=[4,21]) (off:=A'.length) (t:=false) DJ
   have am9:(pd.take j++b.drop j).length=k+3:=by simp [VJ,Ce];omega
   obtain ⟨y',hy'⟩:∃ y,pd[j]? = some y:=⟨_,List.getElem?_eq_getElem (by omega)⟩
   have hpm:=YS (hpd▸hy') aiS
   have Yy:∀ w,(A'++(pd.take j++b.drop j)++zs tl).set (A'.length+j) w=A'++(pd.take j++w::b.drop (j+1))++zs tl:=fun w=>VI VJ Ce DJ
   have afw:∀ v w,(A'++(pd.take j++v::b.drop (j+1))++zs tl).set (A'.length+j) w=A'++(pd.take j++w::b.drop (j+1))++zs tl:=fun v w=>SK VJ DJ
   have Au:A'.length+j<(A'++(pd.take j++b.drop j)++zs tl).length:=by simp [VJ,Ce];omega
   have RN:∀ v,A'.length+j<(A'++(pd.take j++v::b.drop (j+1))++zs tl).length:=fun v=>by simp [VJ,Ce];omega
   have htk:pd.take j++y'::b.drop (j+1)=pd.take (j+1)++b.drop (j+1):=by
     have:=List.take_add_one (l:=pd) (i:=j)
     rw [hy'] at this;rw [this];simp
   have afx:k+3-(j+1)<k+3-j:=by omega
   have afy:∀ σ : af, σ [4,21]=some ⟨us (A'++(pd.take j++b.drop j)++zs tl),1,false⟩->fD σ 1 (.ref [4,21] (A'.length+j) 0) (.int .u32 0)=some { val := .tup [],rd:=[[4,21]],up:=[([4,21],some ⟨us (A'++(pd.take j++0::b.drop (j+1))++zs tl),1,false⟩)] }:=fun σ hσ => by
     have:=bP (x:=0) hσ Au
     rw [Yy] at this;exact this
   by_cases hjr:j<ag r
   . obtain ⟨dj,hdj⟩:∃ y,(digits r)[j]? = some y:=⟨_,List.getElem?_eq_getElem hjr⟩
     rw [if_pos hjr,hdj,Option.getD_some] at hpm
     subst hpm
     simp only [SS,Nat.reduceAdd,qQ DJ,hio]
     rw [afy _ (by simp [af.put])]
     simp only [SS,Nat.reduceAdd,bg,Mz hjr,di hdj,aI,bo,hio]
     rw [bP (o:=A'++(pd.take j++0::b.drop (j+1))++zs tl) (by simp [af.put]) (RN _),afw,htk]
     simp only [SS,Nat.reduceAdd,TV]
     refine ⟨(j+1,_),⟨by simp only [];omega,by simp only [];omega⟩,afx,Wk.forget (by simp [Fg]) (fun q => ?_) (Nat.le_refl _)⟩
     simp only [af.put]
     by_cases e1:q=[30]
     . subst e1;simp
     . by_cases e2:q=[4,21]
       . subst e2;simp
       . simp [e1,e2]
   . rw [if_neg hjr] at hpm
     subst hpm
     simp only [SS,Nat.reduceAdd,qQ DJ,hio]
     rw [afy _ (by simp [af.put]),htk]
     simp only [SS,Nat.reduceAdd,bg,MA hjr,TV]
     refine ⟨(j+1,_),⟨by simp only [];omega,by simp only [];omega⟩,afx,Wk.forget (by simp [Fg]) (fun q => ?_) (Nat.le_refl _)⟩
     simp only [af.put]
     by_cases e1:q=[30]
     . subst e1;simp
     . by_cases e2:q=[4,21]
       . subst e2;simp
       . simp [e1,e2]
 . have Ls:j=k+3:=by omega
   have Kr:val b=val b/V*V+r:=by rw [hr];have:=Nat.div_add_mod (val b) V;rw [Nat.mul_comm] at this;omega
   have hUn:U=val A'+aE ^ i*(val (val b/V::o)*V+val (pad (k+2) r)):=by
     rw [fZ MB]
     refine MM (x:=y) (R:=val R) (O:=val o) ?_ (by rw [<- hbv];exact Kr)
     rw [hUe,cv,hA']
     simp only [val,Nat.mul_zero,Nat.add_zero]
   have hep:A'++(pd.take j++b.drop j)++zs tl=A'++pad (k+2) r++zs (tl+1):=by
     rw [Ls,List.take_of_length_le (by omega),List.drop_eq_nil_of_le (by omega),hpd,KO MB]
     simp [iX]
   rw [hep]
   simp only [SS,Nat.reduceAdd,yw DJ,U8]
   refine ⟨(i,A',pad (k+2) r,tl+1,val b/V::o,_),⟨by simp;omega,hA',kK _ _,by simp only [];omega,acq,sk _ _, ?_,by simp only [];rw [fZ MB];exact JO,hUn,by simp only [];omega⟩,Nat.lt_succ_self i,Wk.forget (by simp [Fg]) (fun q => ?_) (Nat.le_refl _)⟩
   . intro w hw
     rcases List.mem_cons.1 hw with rfl | hw
     . exact XL
     . exact hoW w hw
   . right;simp
end
end Go.VL
end

section
set_option linter.unusedVariables false
namespace Go.VL
theorem MV {a b:Int} (h:decide (a<0)=decide (b<0)):x3 (decide (a<0)) (a.natAbs+b.natAbs)=a+b:=by
 unfold x3
 by_cases h1:a<0<;>by_cases h2:b<0<;>simp [h1,h2] at h ⊢ <;> omega
theorem Dj {a b:Int} (h : ¬ decide (a<0)=decide (b<0)) (hn:b.natAbs<=a.natAbs):x3 (decide (a<0)) (a.natAbs-b.natAbs)=a+b:=by
 unfold x3
 by_cases h1:a<0<;>by_cases h2:b<0<;>simp [h1,h2] at h ⊢ <;> omega
section
variable {P:Program} {G:Nat->Option (List AV)}
theorem YT {f fn fp fs fc fm:FuncId} (h:Has P f (lT fn fp fs fc fm)) (hn:∀ z:Int,ag z.natAbs<=1000000->VP P G fn [IV z] (IV z))
   (hp:∀ m n,ag m<=1000000->ag n<=1000000->VP P G fp [W m,W n] (W (m+n))) (hs:iZ P G fs) (hc:∀ m n,ag m<=1000000->ag n<=1000000->VP P G fc [W m,W n] (.int .i64 (fY m n)))
   (hm:∀ m n,n<=m->ag m<=1000000->VP P G fm [W m,W n] (W (m-n))) (a b:Int) (ha:ag a.natAbs<=1000000) (hb:ag b.natAbs<=1000000):VP P G f [IV a,IV b] (IV (a+b)):=by
 refine VP.has h ?_
 have yU:([0]:List Nat)≠[1]:=by decide
 have EG:([0]:List Nat)≠[2]:=by decide
 have B3:([1]:List Nat)≠[2]:=by decide
 have hwl:ag (a.natAbs+b.natAbs)<=9223372036854775807:=by
   have:ag (a.natAbs+b.natAbs)<=ag a.natAbs+ag b.natAbs+1:=fK (by
     have e1:=cV a.natAbs
     have e2:=cV b.natAbs
     have e3:aE ^ ag a.natAbs<=aE ^ (ag a.natAbs+ag b.natAbs):=Nat.pow_le_pow_right cW (by omega)
     have e4:aE ^ ag b.natAbs<=aE ^ (ag a.natAbs+ag b.natAbs):=Nat.pow_le_pow_right cW (by omega)
     have e5:aE ^ (ag a.natAbs+ag b.natAbs)*2<=aE ^ (ag a.natAbs+ag b.natAbs)*aE:=Nat.mul_le_mul_left _ (by decide)
     rw [Nat.pow_succ];omega)
   omega
 have hpv:=hp a.natAbs b.natAbs ha hb
 have hcv:=hc a.natAbs b.natAbs ha hb
 simp only [lT,SS,DD,Nat.reduceAdd,gZ,b7,aq yU,aq EG,ao,db]
 refine ak (hn a ha) (by simp [aw]) ?_
 simp only [SS,DD,Nat.reduceAdd,aq B3,ao,db]
 refine ak (hn b hb) (by simp [aw]) ?_
 simp only [SS,DD,Nat.reduceAdd]
 rw [dp (k:=(IV a).size) (y:=IV a) rfl (B0 _ _) (by simp [af.put])]
 simp only [SS,DD,Nat.reduceAdd]
 rw [dp (k:=(IV b).size) (y:=IV b) rfl (B0 _ _) (by simp [af.put])]
 simp only [SS,DD,Nat.reduceAdd]
 refine ⟨by simp [ab,apart], ?_⟩
 simp only [SS,Nat.reduceAdd,aq yU,ao,jX]
 by_cases FV:decide (a<0)=decide (b<0)
 . have d0:(decide (a<0)==decide (b<0))=true:=by rw [FV];exact beq_self_eq_true _
   have Q1:=hs (decide (a<0)) (a.natAbs+b.natAbs) hwl
   rw [MV FV] at Q1
   simp only [SS,DD,Nat.reduceAdd,d0,aq yU,ao,jX,iF]
   refine ak hpv (by simp [aB]) ?_
   simp only [SS,DD,Nat.reduceAdd]
   refine ak Q1 (by simp [aB,aa.bool]) ?_
   simp only [SS,DD,Nat.reduceAdd]
   rw [dp (k:=(AV.agg [.bool false, .nils]).size) (y := .agg [.bool false, .nils]) rfl (sr _) (by simp [af.put])]
   simp only [SS,DD,Nat.reduceAdd]
   refine ⟨by simp [ab,apart], ?_⟩
   refine ai▸ae (r:=IV (a+b)) ?_ (aw _)
   simp only [RS,aX,a9,ao,db]
 . have d0:(decide (a<0)==decide (b<0))=false:=by simpa using FV
   simp only [SS,Nat.reduceAdd,d0,aq yU,ao,iF]
   refine ah hcv (by simp [aB]) ?_
   by_cases Fv:b.natAbs<=a.natAbs
   . have d1:decide (0<=fY a.natAbs b.natAbs)=true:=ay (by simp only [fY,jm];rw [if_neg (by omega)];split<;>decide)
     have Sx:=hm a.natAbs b.natAbs Fv ha
     have Q1:=hs (decide (a<0)) (a.natAbs-b.natAbs) (by have:=bE (Nat.sub_le a.natAbs b.natAbs);omega)
     rw [Dj FV Fv] at Q1
     simp only [SS,DD,Nat.reduceAdd,d1,aq yU,ao,jX,iF]
     refine ak Sx (by simp [aB]) ?_
     simp only [SS,DD,Nat.reduceAdd]
     refine ak Q1 (by simp [aB,aa.bool]) ?_
     simp only [SS,DD,Nat.reduceAdd]
     rw [dp (k:=(AV.agg [.bool false, .nils]).size) (y := .agg [.bool false, .nils]) rfl (sr _) (by simp [af.put])]
     simp only [SS,DD,Nat.reduceAdd]
     refine ⟨by simp [ab,apart], ?_⟩
     refine ai▸ae (r:=IV (a+b)) ?_ (aw _)
     simp only [RS,aX,a9,ao,db]
   . have d1:decide (0<=fY a.natAbs b.natAbs)=false:=au (by simp only [fY,jm];rw [if_pos (by omega)];decide)
     have Sx:=hm b.natAbs a.natAbs (by omega) hb
     have Q1:=hs (decide (b<0)) (b.natAbs-a.natAbs) (by have:=bE (Nat.sub_le b.natAbs a.natAbs);omega)
     rw [Dj (fun e=>FV e.symm) (by omega),Int.add_comm] at Q1
     simp only [SS,DD,Nat.reduceAdd,d1,aq yU,ao,jX,iF]
     refine ak Sx (by simp [aB]) ?_
     simp only [SS,DD,Nat.reduceAdd]
     refine ak Q1 (by simp [aB,aa.bool]) ?_
     simp only [SS,DD,Nat.reduceAdd]
     rw [dp (k:=(AV.agg [.bool false, .nils]).size) (y := .agg [.bool false, .nils]) rfl (sr _) (by simp [af.put])]
     simp only [SS,DD,Nat.reduceAdd]
     refine ⟨by simp [ab,apart], ?_⟩
     refine ai▸ae (r:=IV (a+b)) ?_ (aw _)
     simp only [RS,aX,a9,ao,db]
theorem YU {f fn fa:FuncId} (h:Has P f (lU fn fa)) (hn:∀ z:Int,ag z.natAbs<=1000000->VP P G fn [IV z] (IV (-z)))
   (ha:∀ a b:Int,ag a.natAbs<=1000000->ag b.natAbs<=1000000->VP P G fa [IV a,IV b] (IV (a+b))) (a b:Int) (hwa:ag a.natAbs<=1000000) (TW:ag b.natAbs<=1000000):VP P G f [IV a,IV b] (IV (a-b)):=by
 refine VP.has h ?_
 have yU:([0]:List Nat)≠[1]:=by decide
 have EG:([0]:List Nat)≠[2]:=by decide
 have B3:([1]:List Nat)≠[2]:=by decide
 have hav:=ha a (-b) hwa (by rw [Int.natAbs_neg];exact TW)
 rw [<- Int.sub_eq_add_neg] at hav
 simp only [lU,SS,DD,Nat.reduceAdd,gZ,b7,aq yU,aq EG,aq B3,ao,db]
 refine ak (hn b TW) (by simp [aw]) ?_
 simp only [SS,DD,Nat.reduceAdd]
 refine ak hav (by simp [aw]) ?_
 simp only [SS,DD,Nat.reduceAdd]
 rw [dp (k:=(AV.agg [.bool false, .nils]).size) (y := .agg [.bool false, .nils]) rfl (sr _) (by simp [af.put])]
 simp only [SS,DD,Nat.reduceAdd]
 refine ⟨by simp [ab,apart], ?_⟩
 refine ai▸ae (r:=IV (a-b)) ?_ (aw _)
 simp only [RS,aX,a9,ao,db]
theorem VK {f fn ft fs:FuncId} (h:Has P f (lV fn ft fs)) (hn:∀ z:Int,ag z.natAbs<=1000000->VP P G fn [IV z] (IV z))
   (ht:∀ m n,ag m<=1000000->ag n<=1000000->VP P G ft [W m,W n] (W (m*n))) (hs:iZ P G fs) (a b:Int) (ha:ag a.natAbs<=1000000) (hb:ag b.natAbs<=1000000):VP P G f [IV a,IV b] (IV (a*b)):=by
 refine VP.has h ?_
 have yU:([0]:List Nat)≠[1]:=by decide
 have EG:([0]:List Nat)≠[2]:=by decide
 have B3:([1]:List Nat)≠[2]:=by decide
 have Vx:=ht a.natAbs b.natAbs ha hb
 have eL:=hs (!(decide (a<0)==decide (b<0))) (a.natAbs*b.natAbs) (by have:=Ad a.natAbs b.natAbs;omega)
 rw [QP] at eL
 simp only [lV,SS,DD,Nat.reduceAdd,gZ,b7,aq yU,aq EG,ao,db]
 refine ak (hn a ha) (by simp [aw]) ?_
 simp only [SS,DD,Nat.reduceAdd,aq B3,ao,db]
 refine ak (hn b hb) (by simp [aw]) ?_
 simp only [SS,DD,Nat.reduceAdd]
 rw [dp (k:=(IV a).size) (y:=IV a) rfl (B0 _ _) (by simp [af.put])]
 simp only [SS,DD,Nat.reduceAdd]
 rw [dp (k:=(IV b).size) (y:=IV b) rfl (B0 _ _) (by simp [af.put])]
 simp only [SS,DD,Nat.reduceAdd]
 refine ⟨by simp [ab,apart], ?_⟩
 simp only [SS,DD,Nat.reduceAdd,aq yU,ao,jX,iF]
 refine ak Vx (by simp [aB]) ?_
 simp only [SS,DD,Nat.reduceAdd]
 refine ak eL (by simp [aB,aa.bool]) ?_
 simp only [SS,DD,Nat.reduceAdd]
 rw [dp (k:=(AV.agg [.bool false, .nils]).size) (y := .agg [.bool false, .nils]) rfl (sr _) (by simp [af.put])]
 simp only [SS,DD,Nat.reduceAdd]
 refine ⟨by simp [ab,apart], ?_⟩
 refine ai▸ae (r:=IV (a*b)) ?_ (aw _)
 simp only [RS,aX,a9,ao,db]
theorem YV {f ft fd fs:FuncId} (h:Has P f (lW ft fd fs)) (ht:iW P G ft) (hd:∀ m n,n≠0->ag m<=900000->ag n<=900000->VP P G fd [W m,W n] (.tup [W (m/n),W (m%n)]))
   (hs:iZ P G fs) (a b:Int) (ha:ag a.natAbs<=900000) (hb:ag b.natAbs<=900000):VP P G f [IV a,IV b] (IV (Nat.gcd a.natAbs b.natAbs:Nat)):=by
 refine VP.has h ?_
 have yU:([0]:List Nat)≠[1]:=by decide
 have EG:([0]:List Nat)≠[2]:=by decide
 have B3:([1]:List Nat)≠[2]:=by decide
 simp only [lW,SS,DD,Nat.reduceAdd,gZ,b7,aq yU,aq EG,ao,iF]
 refine ak (pb ht a.natAbs (by omega)) (by simp [aB]) ?_
 simp only [SS,DD,Nat.reduceAdd,aq B3,ao,iF]
 refine ak (pb ht b.natAbs (by omega)) (by simp [aB]) ?_
 simp only [SS,DD,Nat.reduceAdd]
 refine ⟨by simp [ab,apart], ?_⟩
 simp only [aP]
 refine VW.ey (α := Nat × Nat × Nat) (fun x=>⟨[IV a,IV b, .top, .top, .ref [2] 0 0,W x.1,W x.2.1]++List.replicate 21 .top,
   af.put (fun _=>none) [2] (some ⟨[.agg [.bool false, .nils]],(AV.agg [.bool false, .nils]).size,false⟩),x.2.2⟩)
   (fun x=>Nat.gcd x.1 x.2.1=Nat.gcd a.natAbs b.natAbs/\ag x.1<=900000/\ag x.2.1<=900000) (fun x=>x.2.1) (a.natAbs,b.natAbs,1000) ?_ ?_ ?_
 . exact Wk.forget (by simp [Fg,List.replicate]) (fun j=>by simp only [af.put];split<;>simp_all) (by simp only [];omega)
 . exact ⟨rfl,ha,hb⟩
 rintro ⟨x,y,nn⟩ ⟨hg,hx,hy⟩
 simp only [] at hg hx hy
 have w1:=HE x y
 by_cases c3:0<ag y
 . have Vq:y≠0:=fun e=>by have:=cI.2 e;omega
   have g5:decide ((0:Int)<(ag y:Int))=true:=ay (by omega)
   simp only [SS,Nat.reduceAdd,bg,g5]
   refine ah (hd x y Vq hx hy) (by simp [aB]) ?_
   simp only [SS,Nat.reduceAdd,B1,B2]
   exact ⟨(y,x%y,_),⟨Ah hg,hy,by simp only [];omega⟩,Nat.mod_lt _ (Nat.pos_of_ne_zero Vq),Wk.slots (by simp [Fg]) (Nat.le_refl _)⟩
 . have g5:decide ((0:Int)<(ag y:Int))=false:=au (by omega)
   have hyz:y=0:=cI.1 (by omega)
   rw [hyz,Nat.gcd_zero_right] at hg
   have eL:=hs false x (by omega)
   rw [EH] at eL
   simp only [SS,Nat.reduceAdd,bg,g5]
   refine ah eL (by simp [aa.bool,aB]) ?_
   simp only [SS,Nat.reduceAdd,iY]
   rw [<- hg]
   refine ai▸ae (r:=IV (x:Int)) ?_ (aw _)
   simp only [RS,aX,a9,ao];rfl
end
end Go.VL
end

section
set_option linter.unusedVariables false
namespace Go.VL
theorem VM {ws:List Nat} (hw:Wd ws):ag (val ws)<=ws.length:=fK (mO hw)
theorem MW (neg:Bool) {ws:List Nat} (hw:Wd ws):(decide (ag (val ws)=ws.length)&&(!neg||decide (0<ws.length)))=pU neg ws:=by
 unfold pU
 by_cases h0:ws=[]
 . subst h0;simp [ag,val,bA]
 . rw [if_neg h0]
   have ql:0<ws.length:=List.length_pos_iff.2 h0
   rw [ay ql,Bool.or_true,Bool.and_true]
   obtain ⟨k,hk⟩:∃ k,ws.length=k+1:=⟨ws.length-1,by omega⟩
   obtain ⟨b,x,rfl,hb⟩:=x8 hk
   have e:(b++[x])[(b++[x]).length-1]?.getD 0=x:=by simp
   rw [e]
   by_cases hx:x=0
   . rw [au (show ¬ x≠0 from fun h=>h hx),hx,kV]
     exact au (by have:=VM (fun w hw'=>hw w (by simp [hw']):Wd b);simp;omega)
   . rw [ay hx]
     exact ay (by rw [ag,nV hw (.inr ⟨x,by simp,hx⟩)])
section
variable {P:Program} {G:Nat->Option (List AV)}
theorem OS {f ft:FuncId} (h:Has P f (j8 ft)) (ht:iW P G ft) (neg:Bool) (ws:List Nat) (hw:Wd ws) (hl:ws.length<=9223372036854775807):VP P G f [IR neg ws] (.bool (pU neg ws)):=by
 refine VP.has h ?_
 have hlen:qS false (.sl 1 (us ws))=some (.int .i64 ws.length):=by simp [qS,gv]
 have e:=MW neg hw
 have d0:decide ((ag (val ws):Int)=(ws.length:Int))=decide (ag (val ws)=ws.length):=by congr 1;apply propext;omega
 have d1:decide ((0:Int)<(ws.length:Int))=decide (0<ws.length):=by congr 1;apply propext;omega
 rw [<- e]
 simp only [j8,SS,DD,Nat.reduceAdd,Vo,ao,MK]
 refine ak (ht ws hw hl) (by simp [C6]) ?_
 simp only [SS,DD,Nat.reduceAdd,bg,ao,MK,hlen,d0]
 by_cases c:ag (val ws)=ws.length
 . have c1:decide (ag (val ws)=ws.length)=true:=ay c
   cases neg
   . simp only [SS,DD,Nat.reduceAdd,c1,ao,Vp,Bool.true_and,Bool.true_or]
     refine ⟨by simp [ab,apart], ?_⟩
     exact ai▸ae rfl (aa.bool _)
   . simp only [SS,DD,Nat.reduceAdd,c1,ao,Vp,MK,hlen,Bool.true_and,Bool.false_or,d1]
     refine ⟨by simp [ab,apart], ?_⟩
     exact ai▸ae rfl (aa.bool _)
 . have c1:decide (ag (val ws)=ws.length)=false:=au c
   simp only [SS,DD,Nat.reduceAdd,c1,Bool.false_and]
   refine ⟨by simp [ab,apart], ?_⟩
   exact ai▸ae rfl (aa.bool _)
theorem KQ {f fi:FuncId} (h:Has P f (jg fi)) (a:Int) (hi:VP P G fi [.int .i64 a] (IV a)) (ho:VP P G fi [.int .i64 1] (IV 1)):VP P G f [.int .i64 a] (RV a 1):=by
 refine VP.has h ?_
 have e:(AV.agg [.bool (decide (a<0)),W a.natAbs, .bool (decide ((1:Int)<0)),W (1:Int).natAbs])=RV a 1:=rfl
 simp only [jg,SS,Nat.reduceAdd,b8]
 refine ah hi (by simp [aa.int]) ?_
 simp only [SS,Nat.reduceAdd]
 refine ah ho (by simp [aa.int]) ?_
 simp only [SS,Nat.reduceAdd,Dh,e,MG]
 refine ai▸ae (r:=RV a 1) ?_ (tu _ _)
 simp only [RS,aX,a9,ao];rfl
theorem VN {f:FuncId} (h:Has P f lY) (z:Int):VP P G f [IV z] (.bool (decide (z=1))):=by
 refine VP.has h ?_
 have hl:ag z.natAbs=1->∃ w,digits z.natAbs=[w]:=fun h=>List.length_eq_one_iff.1 h
 have h11:ag 1=1:=by unfold ag;rw [iz (by decide),show 1/aE=0 from rfl,bA];rfl
 simp only [lY,SS,Nat.reduceAdd,gZ,ao,iF,bg]
 by_cases h1:ag z.natAbs=1
 . have d1:decide ((ag z.natAbs:Int)=1)=true:=ay (by omega)
   obtain ⟨w,hw⟩:=hl h1
   have hg:(digits z.natAbs)[0]? = some w:=by rw [hw];rfl
   have YB:cx 1 (W z.natAbs) (.int .i64 0)=some (.ep (AV.int .u32 (w:Int)).cells 0):=fX (i:=0) rfl (xZ hg)
   have hv:z.natAbs=w:=by have:=aV z.natAbs;rw [hw] at this;simp [val] at this;omega
   by_cases XJ:w=1
   . have d2:decide ((w:Int)=1)=true:=ay (by omega)
     have e:(!decide (z<0))=decide (z=1):=by
       by_cases hn:z<0
       . rw [ay hn,au (by omega)];rfl
       . rw [au hn,ay (by omega)];rfl
     simp only [SS,Nat.reduceAdd,d1,ao,jX,iF,YB,aI,bo,d2,e]
     exact ai▸ae rfl (aa.bool _)
   . have d2:decide ((w:Int)=1)=false:=au (by omega)
     have e:decide (z=1)=false:=au (by omega)
     simp only [SS,Nat.reduceAdd,d1,ao,iF,YB,aI,bo,d2,e]
     exact ai▸ae rfl (aa.bool _)
 . have d1:decide ((ag z.natAbs:Int)=1)=false:=au (by omega)
   have e:decide (z=1)=false:=au (by intro e;rw [e] at h1;exact h1 h11)
   simp only [SS,Nat.reduceAdd,d1,e]
   exact ai▸ae rfl (aa.bool _)
end
end Go.VL
end

section
namespace Go.VL
open Go.Lib
theorem qi {n:Nat} (h:n<10):decDigits n=[UInt8.ofNat (48+n)]:=decDigits_one h
theorem HK {n:Nat} (h : ¬ n<10):decDigits n=decDigits (n/10)++[UInt8.ofNat (48+n%10)]:=by rw [decDigits,dif_neg h]
end Go.VL
end

section
namespace Go.Proofs
open Go.VL Go.RowKit
def Dk (ws:List Nat):List Int:=ws.map fun w:Nat=>(w:Int)
theorem SL (ws:List Nat):(Dk ws).length=ws.length:=List.length_map ..
theorem SM (a b:Nat) (ha:a<18446744073709551616) (hb:b<18446744073709551616):bits BinOp.or IntKind.u64 (a:Int) (b:Int)=((a ||| b:Nat):Int):=by
 have h:=abT a b ha hb
 rw [OD] at h
 simp only [Option.some.injEq,AV.int.injEq,true_and] at h
 rw [<- h];rfl
theorem Tryz.B4 (r a:Nat) (hr:r<aE) (ha:a<aE):Tryz.Ht (r:Int) (a:Int)=((aE*r+a:Nat):Int):=by
 unfold Tryz.Ht
 have h1:IntKind.u64.wrap ((r:Int)*4294967296)=((aE*r:Nat):Int):=by rw [IntKind.wrap_u64];unfold aE at *;omega
 rw [h1,bu a ha,SM _ _ (by unfold aE at *;omega) (by unfold aE at *;omega)]
 have:=Nat.two_pow_add_eq_or_of_lt (i:=32) (b:=a) (by unfold aE at ha;omega) r
 rw [show aE=2 ^ 32 from rfl,this]
theorem Tryz.toU_digits (n:Nat) (hn:n<18446744073709551616):Tryz.toU (Tryz.upto (Tryz.bw (Dk (digits n))) (Dk (digits n)).length)=(n:Int):=by
 have hw:=pS n hn
 have hd:=aW n
 have hv:=aV n
 unfold ag at hw
 generalize digits n=ds at hw hd hv
 match ds,hw,hd,hv with
 | [],_,_,hv=>subst hv;rfl
 | [a],_,hd,hv =>
   have ha:=hd a (by simp)
   have e:=Tryz.B4 0 a cW ha
   simp only [val,Nat.mul_zero,Nat.add_zero] at hv
   have:(n:Int)=((aE*0+a:Nat):Int):=by omega
   rw [this, <- e];rfl
 | [a,b],_,hd,hv =>
   have ha:=hd a (by simp)
   have hb:=hd b (by simp)
   have e1:=Tryz.B4 0 b cW hb
   rw [Nat.mul_zero,Nat.zero_add] at e1
   have e2:=Tryz.B4 b a hb ha
   simp only [val,Nat.mul_zero,Nat.add_zero] at hv
   have:(n:Int)=((aE*b+a:Nat):Int):=by omega
   rw [this, <- e2]
   show Tryz.Ht (Tryz.Ht 0 (b:Int)) (a:Int)=_
   have e3:Tryz.Ht 0 (b:Int)=(b:Int):=e1
   rw [e3]
 | _::_::_::_,hw,_,_=>simp at hw
theorem Tryz.toUint_vp (G:Nat->Option (List AV)) (n:Nat) (hn:n<18446744073709551616):VP Tryz.prog G 296 [W n] (.int .u64 (n:Int)):=by
 refine VP.Yr (r:={ val := .int .u64 (n:Int) }) (aZ.UF Tryz.func296 (by kernel_rfl) (by kernel_rfl) ?_) (jC.int _ _)
 intro own E w σ vs _ hi hr
 simp only [bc] at hr
 obtain ⟨v,_,rfl,hv,rfl⟩:=hr
 have hus:us (digits n)=(Dk (digits n)).map (AV.int .u32):=by simp [us,Dk]
 have Cb:ga σ 1 (W n)=some ((Dk (digits n)).map (AV.int .u32),[]):=by rw [W,eO,hus]
 obtain ⟨a,cap,rfl,hle,wJ⟩:=UG hi hv Cb
 have hI:Tryz.Sj w.heap.size w (.slice a (Dk (digits n)).length cap) (Dk (digits n)):=by
   rcases wJ with h | ⟨b,o,rfl,hb,hc⟩
   . rw [h];exact .inl ⟨a,cap,rfl,rfl⟩
   . exact .inr ⟨b,o,cap,rfl,hb,hc⟩
 have hlen:(Dk (digits n)).length<=2:=by rw [SL];exact pS n hn
 refine (callsIn_wide (n:=3)).1 ((Tryz.toUint_in Fence.wide 3 trivial trivial trivial rfl (by omega) a _ cap _ (by omega) w hI).mono ?_)
 rintro e W' ⟨rfl,hB⟩
 rw [Tryz.toU_digits n hn]
 exact ⟨_,rfl,hB,fun E w=>by simp only [aT]⟩
end Go.Proofs
end

section
set_option linter.unusedSimpArgs false
namespace Go.VL
def QV (q:Rat):AV:=RV q.num q.den
theorem aA (q:Rat):aa (QV q):=tu _ _
def Sm (k:Nat) (q:Rat):Prop:=ag q.num.natAbs<=k/\ag q.den<=k
theorem Sm.mono {j k:Nat} {q:Rat} (h:Sm j q) (MU:j<=k):Sm k q:=⟨Nat.le_trans h.1 MU,Nat.le_trans h.2 MU⟩
theorem cf (a b:Int):ag (a*b).natAbs<=ag a.natAbs+ag b.natAbs:=by rw [Int.natAbs_mul];exact Ad _ _
theorem MX (a b:Int):Int.gcd a b=Nat.gcd a.natAbs b.natAbs:=rfl
theorem HL (a b:Int) (hb:b≠0):RV (a.fdiv (if b<0 then -((Nat.gcd a.natAbs b.natAbs:Nat):Int) else (Nat.gcd a.natAbs b.natAbs:Nat))) (b.fdiv (if b<0 then -((Nat.gcd a.natAbs b.natAbs:Nat):Int) else (Nat.gcd a.natAbs b.natAbs:Nat)))=QV ((a:Rat)/(b:Rat)):=by
 rw [<- Rat.divInt_eq_div]
 unfold QV
 rw [Rat.num_divInt,Rat.den_divInt,if_neg hb,MX,Nat.gcd_comm b.natAbs a.natAbs]
 have hg0:0<Nat.gcd a.natAbs b.natAbs:=Nat.gcd_pos_of_pos_right _ (by omega)
 obtain ⟨x,hx⟩:((Nat.gcd a.natAbs b.natAbs:Nat):Int) ∣ a:=Int.ofNat_dvd_left.2 (Nat.gcd_dvd_left _ _)
 obtain ⟨y,hy⟩:((Nat.gcd a.natAbs b.natAbs:Nat):Int) ∣ b:=Int.ofNat_dvd_left.2 (Nat.gcd_dvd_right _ _)
 generalize hg:Nat.gcd a.natAbs b.natAbs=g at *
 have hgz:(g:Int)≠0:=by omega
 have hba:b.natAbs/g=y.natAbs:=by
   rw [hy,Int.natAbs_mul,Int.natAbs_natCast,Nat.mul_div_cancel_left _ hg0]
 rw [hba]
 by_cases h:b<0
 . have Vq:y<0:=by
     rcases Int.lt_or_le y 0 with h1 | h1
     . exact h1
     . have:=Int.mul_nonneg (Int.natCast_nonneg g) h1;omega
   rw [if_pos h,Int.sign_eq_neg_one_of_neg h]
   have e1:a.fdiv (-(g:Int)) = -1*a/(g:Int):=by
     rw [hx,show -1*((g:Int)*x)=(g:Int)*(-x) from by rw [Int.mul_neg];omega,Int.mul_ediv_cancel_left _ hgz,show (g:Int)*x = -(g:Int)*(-x) from by rw [Int.neg_mul_neg]]
     exact Int.mul_fdiv_cancel_left _ (by omega)
   have e2:b.fdiv (-(g:Int))=(y.natAbs:Int):=by
     rw [show (y.natAbs:Int) = -y from by omega]
     conv=>lhs;rw [hy]
     rw [show (g:Int)*y = -(g:Int)*(-y) from by rw [Int.neg_mul_neg]]
     exact Int.mul_fdiv_cancel_left _ (by omega)
   rw [e1,e2]
 . have Vq:0<y:=by
     rcases Int.lt_or_le 0 y with h1 | h1
     . exact h1
     . have:=Int.mul_nonneg (Int.natCast_nonneg g) (show 0 <= -y by omega)
       rw [Int.mul_neg] at this;omega
   rw [if_neg h,Int.sign_eq_one_of_pos (by omega)]
   have e1:a.fdiv (g:Int)=1*a/(g:Int):=by
     rw [hx,Int.one_mul,Int.mul_ediv_cancel_left _ hgz]
     exact Int.mul_fdiv_cancel_left _ hgz
   have e2:b.fdiv (g:Int)=(y.natAbs:Int):=by
     rw [show (y.natAbs:Int)=y from by omega]
     conv=>lhs;rw [hy]
     exact Int.mul_fdiv_cancel_left _ hgz
   rw [e1,e2]
theorem uN (a b:Int):ag (Rat.divInt a b).num.natAbs<=ag a.natAbs:=by
 rw [Rat.num_divInt]
 refine bE ?_
 rcases Int.lt_trichotomy b 0 with h | h | h
 . rw [Int.sign_eq_neg_one_of_neg h]
   exact Nat.le_trans (Int.natAbs_ediv_le_natAbs _ _) (by omega)
 . subst h;simp
 . rw [Int.sign_eq_one_of_pos h]
   exact Nat.le_trans (Int.natAbs_ediv_le_natAbs _ _) (by omega)
theorem uO (a b:Int) (hb:b≠0):ag (Rat.divInt a b).den<=ag b.natAbs:=by
 rw [Rat.den_divInt,if_neg hb]
 exact bE (Nat.div_le_self _ _)
theorem aaQ (a b:Rat):a+b=((a.num*b.den+b.num*a.den:Int):Rat)/((a.den*b.den:Int):Rat):=by
 rw [<- Rat.divInt_eq_div,Rat.add_def', <- Rat.divInt_ofNat];simp
theorem VO (a b:Rat):a*b=((a.num*b.num:Int):Rat)/((a.den*b.den:Int):Rat):=by
 rw [<- Rat.divInt_eq_div,Rat.mul_def', <- Rat.divInt_ofNat];simp
theorem afA (a b:Rat):a/b=((a.num*b.den:Int):Rat)/((a.den*b.num:Int):Rat):=by
 rw [Rat.div_def,Rat.inv_def]
 conv=>lhs;lhs;rw [<- Rat.num_divInt_den a]
 rw [Rat.divInt_mul_divInt,Rat.divInt_eq_div]
theorem wj (q:Rat):(0:Int)<q.den:=by have:=q.den_nz;omega
theorem OT (q:Rat):(q.den:Int)≠0:=by have:=wj q;omega
theorem x9 (a b:Rat):(a.den*b.den:Int)≠0:=Int.mul_ne_zero (OT a) (OT b)
theorem Sm.neg {k:Nat} {a:Rat} (h:Sm k a):Sm k (-a):=⟨by rw [Rat.neg_num,Int.natAbs_neg];exact h.1,h.2⟩
theorem rf {m n k:Nat} (hm:ag m<=k) (hn:ag n<=k):ag (m+n)<=k+1:=by
 refine fK ?_
 have h1:=Nat.lt_of_lt_of_le (cV m) (Nat.pow_le_pow_right cW hm)
 have h2:=Nat.lt_of_lt_of_le (cV n) (Nat.pow_le_pow_right cW hn)
 rw [Nat.pow_succ]
 have:2<=aE:=by decide
 have h3:aE ^ k*2<=aE ^ k*aE:=Nat.mul_le_mul_left _ this
 omega
theorem Sm.add {j k:Nat} {a b:Rat} (ha:Sm j a) (hb:Sm k b):Sm (j+k+1) (a+b):=by
 rw [aaQ, <- Rat.divInt_eq_div]
 refine ⟨Nat.le_trans (uN _ _) ?_,Nat.le_trans (uO _ _ (x9 a b)) ?_⟩
 . have h1:=cf a.num b.den
   have h2:=cf b.num a.den
   have h3:((b.den:Nat):Int).natAbs=b.den:=rfl
   have h4:((a.den:Nat):Int).natAbs=a.den:=rfl
   rw [h3] at h1;rw [h4] at h2
   have:=ha.1;have:=ha.2;have:=hb.1;have:=hb.2
   exact Nat.le_trans (bE (Int.natAbs_add_le _ _)) (rf (k:=j+k) (by omega) (by omega))
 . have h1:=cf a.den b.den
   have h3:((b.den:Nat):Int).natAbs=b.den:=rfl
   have h4:((a.den:Nat):Int).natAbs=a.den:=rfl
   rw [h3,h4] at h1
   have:=ha.2;have:=hb.2
   omega
theorem Sm.sub {j k:Nat} {a b:Rat} (ha:Sm j a) (hb:Sm k b):Sm (j+k+1) (a-b):=by rw [Rat.sub_eq_add_neg];exact ha.add hb.neg
theorem Sm.mul {j k:Nat} {a b:Rat} (ha:Sm j a) (hb:Sm k b):Sm (j+k) (a*b):=by
 rw [VO, <- Rat.divInt_eq_div]
 refine ⟨Nat.le_trans (uN _ _) ?_,Nat.le_trans (uO _ _ (x9 a b)) ?_⟩
 . have h1:=cf a.num b.num
   have:=ha.1;have:=hb.1
   omega
 . have h1:=cf a.den b.den
   have h3:((b.den:Nat):Int).natAbs=b.den:=rfl
   have h4:((a.den:Nat):Int).natAbs=a.den:=rfl
   rw [h3,h4] at h1
   have:=ha.2;have:=hb.2
   omega
theorem Sm.inv {k:Nat} {a:Rat} (h:Sm k a) (hk:1<=k):Sm k a⁻¹ := by
 refine ⟨?_, ?_⟩
 . rw [Rat.num_inv,Int.natAbs_mul]
   refine Nat.le_trans (bE (n:=a.den) ?_) h.2
   have:a.num.sign.natAbs<=1:=by rcases sq a.num with ⟨h,_⟩ | ⟨h,_⟩ | ⟨h,_⟩<;>rw [h]<;>decide
   have h2:((a.den:Nat):Int).natAbs=a.den:=rfl
   rw [h2]
   exact Nat.le_trans (Nat.mul_le_mul_right _ this) (by omega)
 . rw [Rat.den_inv]
   split
   . exact Nat.le_trans wh hk
   . exact h.1
theorem Sm.div {j k:Nat} {a b:Rat} (ha:Sm j a) (hb:Sm k b) (hk:1<=k):Sm (j+k) (a/b):=by rw [Rat.div_def];exact ha.mul (hb.inv hk)
theorem Sm.zero:Sm 1 0:=⟨by simp [ag,bA],wh⟩
theorem Sm.int {z:Int} {k:Nat} (h:ag z.natAbs<=k) (hk:1<=k):Sm k (z:Rat):=⟨h,Nat.le_trans wh hk⟩
def dm (q:Rat):Int:=q.num.sign
theorem HM {q:Rat}:dm q=0↔q=0:=by unfold dm;rw [Int.sign_eq_zero_iff_zero,Rat.num_eq_zero]
def OU (a b:Rat):Int:=jm (a.num*b.den) (b.num*a.den)
theorem SN {a b:Rat}:OU a b=0↔a=b:=by
 rw [Rat.eq_iff_mul_eq_mul]
 unfold OU
 rcases pT (a.num*b.den) (b.num*a.den) with ⟨h1,h2⟩ | ⟨h1,h2⟩ | ⟨h1,h2⟩<;>rw [h1]<;>constructor<;>intro h<;>first | omega | rfl | (simp at h)
theorem SP {a b:Rat} (h:dm a≠dm b):OU a b=if dm a<dm b then -1 else 1:=by
 have key:=JM (y:=a.num*b.den) (z:=b.num*a.den) (by
   rw [Int.sign_mul,Int.sign_mul,Int.sign_eq_one_of_pos (wj a),Int.sign_eq_one_of_pos (wj b),Int.mul_one,Int.mul_one];exact h)
 unfold OU
 rw [<- key,Int.sign_mul,Int.sign_mul,Int.sign_eq_one_of_pos (wj a),Int.sign_eq_one_of_pos (wj b),Int.mul_one,Int.mul_one]
 unfold dm at h ⊢
 unfold jm
 split
 . rfl
 . rw [if_pos (by omega)]
end Go.VL
end

section
set_option linter.unusedVariables false
namespace Go.VL
structure ya where
 name:List UInt8
 kind:Int
 inputs:List (List UInt8)
 values:List AV
 aiU:Bool
def strs (l:List (List UInt8)):AV := .sl 1 (l.map .str)
def ya.av (f:ya):AV := .agg [.str f.name, .int .i64 f.kind,strs f.inputs, .sl 7 f.values, .bool f.aiU]
def wm (v:AV):Prop:=∃ cs,v = .agg cs/\cs.length=7/\∀ c∈cs,aa c/\c.one=true
structure ya.Ok (f:ya):Prop where
 vals:∀ v∈f.values,wm v
 ins:f.inputs.length<9223372036854775807
 vl:f.values.length<9223372036854775807
theorem wm.pure {v:AV} (h:wm v):aa v:=by
 obtain ⟨cs,rfl,_,hc⟩:=h
 exact aa.agg fun c h=>(hc c h).1
theorem wm.part {v:AV} (h:wm v):part true v.cells 0 7=some v:=by
 obtain ⟨cs,rfl,hl,_⟩:=h
 simp [VL.part,AV.cells,hl]
 rw [<- hl];exact List.take_length
theorem MY:∀ l:List (List UInt8),flat (l.map .str)=l.map .str
 | []=>rfl
 | s::l=>by have:=MY l;simp only [List.map_cons,flat,List.flatMap_cons,AV.cells] at this ⊢;rw [this];rfl
theorem aY (l:List (List UInt8)):aa (strs l):=aa.sl (by rw [MY];intro c hc;simp at hc;obtain ⟨s,_,rfl⟩:=hc;exact aa.str s)
theorem SQ {l:List AV} (h:∀ v∈l,wm v):aa (.sl 7 l):=aa.sl (by
 intro c hc
 simp only [flat,List.mem_flatMap] at hc
 obtain ⟨v,hv,hc⟩:=hc
 obtain ⟨cs,rfl,_,hcs⟩:=h v hv
 exact (hcs c hc).1)
theorem ya.Ok.pure {f:ya} (h:f.Ok):aa f.av:=aa.agg (by
 intro c hc
 simp only [List.mem_cons,List.not_mem_nil,or_false] at hc
 rcases hc with rfl | rfl | rfl | rfl | rfl
 . exact aa.str _
 . exact aa.int _ _
 . exact aY _
 . exact SQ h.vals
 . exact aa.bool _)
theorem ya.one (f:ya):(f.av.cells.all AV.one=true)=True:=by simp [ya.av,AV.cells,AV.one,strs]
theorem ya.p0 (f:ya):part false f.av.cells 0 1=some (.str f.name):=rfl
theorem ya.p1 (f:ya):part false f.av.cells 1 1=some (.int .i64 f.kind):=rfl
theorem ya.p2 (f:ya):part false f.av.cells 2 1=some (strs f.inputs):=rfl
theorem ya.p3 (f:ya):part false f.av.cells 3 1=some (.sl 7 f.values):=rfl
theorem ya.size (f:ya):f.av.size=5:=rfl
section
variable {P:Program} {G:Nat->Option (List AV)}
end
end Go.VL
end

section
set_option linter.unusedVariables false
set_option linter.unusedVariables false
namespace Go.VL
def wo (s:List UInt8):Nat:=match s with
 | []=>0
 | c::_=>if dL c=true then fT dy s else 0
section
variable {P:Program} {G:Nat->Option (List AV)}
theorem YW {f fl fd:FuncId} (h:Has P f (fO fl fd)) (hl:∀ c,VP P G fl [kJ c] (.bool (dL c))) (hd:∀ c,VP P G fd [kJ c] (.bool (o9 c)))
   (s:List UInt8) (hs:s.length<9223372036854775807):VP P G f [.str s, .int .i64 0] (.int .i64 ((wo s:Nat):Int)):=by
 cases s with
 | nil =>
   refine VP.has h ?_
   have z0:decide ((0:Int)=((0:Nat):Int))=true:=rfl
   have e:wo []=0:=rfl
   rw [e]
   simp only [fO,SS,Nat.reduceAdd,z0]
   exact ai▸ae rfl (aa.int _ _)
 | cons c0 s0 =>
   generalize hs0:c0::s0=s at hs ⊢
   have hlen:0<s.length:=by rw [<- hs0];simp
   have d0:decide ((0:Int)=(s.length:Int))=false:=au (by omega)
   have X0:s[0]? = some c0:=by rw [<- hs0];rfl
   have TT:=iO (k:=0) X0
   simp only [Int.natCast_zero] at TT
   cases YX:dL c0
   . have Ln:=hl c0
     rw [YX] at Ln
     have e:wo s=0:=by rw [<- hs0];simp [wo,YX]
     rw [e]
     refine VP.has h ?_
     simp only [fO,SS,Nat.reduceAdd,d0,TT]
     refine ah Ln (by simp [eC]) ?_
     simp only [SS,Nat.reduceAdd]
     exact ai▸ae rfl (aa.int _ _)
   have Ln:=hl c0
   rw [YX] at Ln
   have e:wo s=fT dy s:=by rw [<- hs0];simp [wo,YX]
   rw [e]
   refine VP.has h ?_
   simp only [fO,SS,Nat.reduceAdd,d0,TT]
   refine ah Ln (by simp [eC]) ?_
   simp only [SS,Nat.reduceAdd,aP]
   refine VW.ey (α := Nat × Nat) (fun x=>⟨[.str s, .int .i64 (x.1:Int), .top, .top, .top]++List.replicate 37 .top,fun _=>none,x.2⟩) (fun x=>x.1<=fT dy s) (fun x=>fT dy s-x.1) (0,1000) ?_ (Nat.zero_le _) ?_
   . exact Wk.slots (by simp [Fg,List.replicate]) (by omega)
   rintro ⟨k,n⟩ hk
   simp only [] at hk
   have QH:=Hv dy s
   by_cases hlt:k<s.length
   . obtain ⟨c,hc⟩:∃ c,s[k]? = some c:=⟨_,List.getElem?_eq_getElem hlt⟩
     have d1:decide ((k:Int)<(s.length:Int))=true:=ay (by omega)
     have Lm:=hl c
     have N6:=hd c
     have hwd:dy c=(dL c||o9 c||decide ((c.toNat:Int)=95)):=rfl
     have nk:dy c=true->k<fT dy s:=fun hw=>by
       rcases Nat.lt_or_ge k (fT dy s) with q | q
       . exact q
       . have TU:k=fT dy s:=by omega
         rcases BV dy s with h0 | ⟨c',hc',Yt⟩
         . rw [<- TU,hc] at h0;cases h0
         . rw [<- TU,hc] at hc';cases hc';rw [hw] at Yt;cases Yt
     have aiV:dy c=false->k=fT dy s:=fun hw=>by
       rcases Nat.lt_or_ge k (fT dy s) with q | q
       . obtain ⟨c',hc',Yt⟩:=Hw dy s k q
         rw [hc] at hc';cases hc';rw [hw] at Yt;cases Yt
       . omega
     have hby:(kJ c) = .int .u8 (c.toNat:Int):=rfl
     cases b1:dL c
     . rw [b1] at Lm hwd
       cases b2:o9 c
       . rw [b2] at N6 hwd
         cases b3:decide ((c.toNat:Int)=95)
         . rw [b3] at hwd
           have TU:=aiV hwd
           simp only [SS,Nat.reduceAdd,d1,iO hc]
           refine ah Lm (by simp [eC]) ?_
           simp only [SS,Nat.reduceAdd,iO hc]
           refine ah N6 (by simp [eC]) ?_
           simp only [SS,Nat.reduceAdd,iO hc,hby,b3]
           rw [<- TU]
           exact ai▸ae rfl (aa.int _ _)
         . rw [b3] at hwd
           have QH:=nk hwd
           simp only [SS,Nat.reduceAdd,d1,iO hc]
           refine ah Lm (by simp [eC]) ?_
           simp only [SS,Nat.reduceAdd,iO hc]
           refine ah N6 (by simp [eC]) ?_
           simp only [SS,Nat.reduceAdd,iO hc,hby,b3,aL k (by omega)]
           exact ⟨(k+1,_),by simp only [];omega,by simp only [];omega,Wk.slots (by simp [Fg]) (Nat.le_refl _)⟩
       . rw [b2] at N6 hwd
         have QH:=nk hwd
         simp only [SS,Nat.reduceAdd,d1,iO hc]
         refine ah Lm (by simp [eC]) ?_
         simp only [SS,Nat.reduceAdd,iO hc]
         refine ah N6 (by simp [eC]) ?_
         simp only [SS,Nat.reduceAdd,aL k (by omega)]
         exact ⟨(k+1,_),by simp only [];omega,by simp only [];omega,Wk.slots (by simp [Fg]) (Nat.le_refl _)⟩
     . rw [b1] at Lm hwd
       have QH:=nk hwd
       simp only [SS,Nat.reduceAdd,d1,iO hc]
       refine ah Lm (by simp [eC]) ?_
       simp only [SS,Nat.reduceAdd,aL k (by omega)]
       exact ⟨(k+1,_),by simp only [];omega,by simp only [];omega,Wk.slots (by simp [Fg]) (Nat.le_refl _)⟩
   . have d1:decide ((k:Int)<(s.length:Int))=false:=au (by omega)
     have TU:k=fT dy s:=by omega
     rw [<- TU]
     simp only [SS,Nat.reduceAdd,d1]
     exact ai▸ae rfl (aa.int _ _)
theorem OV {f fw:FuncId} (h:Has P f (eP fw)) (hw:∀ s:List UInt8,s.length<9223372036854775807->VP P G fw [.str s, .int .i64 0] (.int .i64 ((wo s:Nat):Int))) (s:List UInt8) :
   VP P G f [.str s] (.bool (eK s)):=by
 cases s with
 | nil =>
   refine VP.has h ?_
   simp only [eP,SS,Nat.reduceAdd]
   exact ai▸ae rfl (aa.bool _)
 | cons c s =>
   have e0:(!((c::s)==([]:List UInt8)))=true:=rfl
   by_cases h1:(((s.length+1:Nat)):Int)<=24
   . refine VP.has h ?_
     simp only [eP,SS,Nat.reduceAdd,e0,h1,decide_true]
     refine ah (hw (c::s) (by simp only [List.length_cons];omega)) (by simp [aa.str,aa.int]) ?_
     by_cases h3:wo (c::s)=s.length+1
     . have h4:(wo (c::s):Int)=((s.length+1:Nat):Int):=by omega
       have:eK (c::s)=true:=by
         have hv:eK (c::s)=(decide ((c::s).length<=24)&&dL c&&decide (fT dy (c::s)=(c::s).length)):=rfl
         have hwv:wo (c::s)=if dL c=true then fT dy (c::s) else 0:=rfl
         rw [hwv] at h3
         rw [hv]
         cases h2:dL c
         . rw [h2] at h3;simp at h3
         . rw [h2,if_pos rfl] at h3
           have g1:decide ((c::s).length<=24)=true:=ay (by rw [List.length_cons];omega)
           have g2:decide (fT dy (c::s)=(c::s).length)=true:=ay (by rw [List.length_cons];omega)
           rw [g1,g2];rfl
       rw [this]
       simp only [SS,Nat.reduceAdd,h4,decide_true]
       exact ai▸ae rfl (aa.bool _)
     . have h4 : ¬ (wo (c::s):Int)=((s.length+1:Nat):Int):=by omega
       have:eK (c::s)=false:=by
         have hv:eK (c::s)=(decide ((c::s).length<=24)&&dL c&&decide (fT dy (c::s)=(c::s).length)):=rfl
         have hwv:wo (c::s)=if dL c=true then fT dy (c::s) else 0:=rfl
         rw [hwv] at h3
         rw [hv]
         cases h2:dL c
         . rw [Bool.and_false,Bool.false_and]
         . rw [h2,if_pos rfl] at h3
           have g2:decide (fT dy (c::s)=(c::s).length)=false:=au (by rw [List.length_cons];omega)
           rw [g2,Bool.and_false]
       rw [this]
       simp only [SS,Nat.reduceAdd,h4,decide_false]
       exact ai▸ae rfl (aa.bool _)
   . refine VP.has h ?_
     have:eK (c::s)=false:=by unfold eK;simp only [List.length_cons];simp;intro h;omega
     rw [this]
     simp only [eP,SS,Nat.reduceAdd,e0,h1,decide_false]
     exact ai▸ae rfl (aa.bool _)
end
end Go.VL
end

section
set_option linter.unusedVariables false
namespace Go.VL
section
variable {P:Program} {G:Nat->Option (List AV)}
theorem pV {f:FuncId} (h:Has P f eA) {es:List AV} (hk:∀ e∈es,e.size=1) (h1:(es.all fun e=>e.cells.all AV.one)=true) (hp:∀ c∈flat es,aa c) (hl:es.length*16<=140737488355328):VP P G f [.sl 1 es] (.sl 1 es):=by
 refine VP.has h ?_
 have hb:∀ (σ : af) (p:Id),bO σ p (.buildSl 1 0 (AV.str []) [])=some { val := .tsl 1 [] }:=fun σ p=>bs0 rfl rfl
 cases es with
 | nil =>
   simp only [eA,SS,Nat.reduceAdd]
   refine ⟨?_, ?_⟩
   . exact ai▸⟨.nils,rfl,View.nils 1⟩
   . simp only [SS,Nat.reduceAdd,hb,o8 eO]
     exact ai▸⟨_,rfl,View.Yn 1⟩
 | cons e es =>
   simp only [eA,SS,Nat.reduceAdd,hb]
   rw [j3 (es:=[]) eO (by simp) (by simpa using hl) (eD (by simp at hl ⊢;omega)) (by simpa using h1)]
   simp only [SS,Nat.reduceAdd]
   refine ai▸⟨_,rfl,View.osl (bk:=⟨e::es,1,false⟩) rfl rfl (by simp) ?_ (by simp) hk⟩
   simpa using aG.pure hp
end
end Go.VL
end

section
set_option linter.unusedVariables false
set_option linter.unusedVariables false
namespace Go.VL
theorem gK (l:List (List UInt8)):qS false (strs l)=some (.int .i64 l.length):=by simp [strs,qS]
section
variable {P:Program} {G:Nat->Option (List AV)}
end
end Go.VL
end

section
set_option linter.unusedVariables false
set_option linter.unusedVariables false
namespace Go.VL
section
variable {P:Program} {G:Nat->Option (List AV)}
theorem aj {σ : af} {id:Id} {k kk:Nat} {z v:AV} (h : σ id=some ⟨[z],kk,false⟩) (hz:z.size=k) (hv:v.cells.length=k) (h1:v.cells.all AV.one=true) (hu:z.upd 0 v.cells=v) :
   fD σ k (.ref id 0 0) v=some { val := .tup [],rd:=[id],up:=[(id,some ⟨[v],kk,false⟩)] }:=by
 rw [fy (n:=k) (v:=v) h rfl (by rw [hv]) (by rw [hz];omega) h1]
 simp [hu]
end
end Go.VL
end

section
namespace Go.VL
section
variable {P:Program} {G:Nat->Option (List AV)} {π : Id} {Q:bX->VS->Prop} {s:VS} {x:cy}
theorem VW.aC (n:Nat) (h:VW P G π x (Then (bY P G π x Q n) Q) s):VW P G π (.loop x) Q s:=VW.rounds (n+1) h
theorem bY.next (n:Nat) (h:VW P G π x (Then (bY P G π x Q n) Q) s):bY P G π x Q (n+1) s:=h
end
theorem ZZ:(decide ((0:Int)<0)=false)/\(decide ((0:Int)<1)=true)/\(decide ((1:Int)<1)=false)/\(decide ((0:Int)<2)=true)/\(decide ((1:Int)<2)=true)/\(decide ((2:Int)<2)=false)/\(IntKind.i64.wrap ((0:Int)+1)=1)/\(IntKind.i64.wrap ((1:Int)+1)=2)/\(decide ((0:Int)=0)=true)/\(decide ((1:Int)=1)=true)/\(decide ((0:Int)≠0)=false)/\(decide ((1:Int)=0)=false)/\(decide ((0:Int)<=0)=true)/\(decide ((1:Int)≠1)=false)/\(decide ((2:Int)≠2)=false)/\(decide ((1:Int)≠0)=true)/\(decide ((1:Int)<=1)=true)/\(decide ((1:Int)<=0)=false)/\(decide ((0:Int)<=1)=true)/\(decide ((2:Int)=2)=true):=by decide +kernel
theorem CC:(((0:Nat):Int)=0)/\(((1:Nat):Int)=1)/\(((2:Nat):Int)=2):=⟨rfl,rfl,rfl⟩
theorem g0 {α : Type} {a : α} {l:List α}:(a::l)[0]? = some a:=rfl
theorem g1 {α : Type} {a b : α} {l:List α}:(a::b::l)[1]? = some b:=rfl
theorem g2 {α : Type} {a b c : α} {l:List α}:(a::b::c::l)[2]? = some c:=rfl
theorem Dl {σ : af} {id:Id} {x v y:AV} {k o:Nat} (h : σ id=some ⟨[x],k,false⟩) (hv:v.cells=[v]) (h1:v.one=true) (ho:o+1<=x.size) (hu:x.upd o [v]=y) :
   fD σ 1 (.ref id 0 o) v=some { val := .tup [],rd:=[id],up:=[(id,some ⟨[y],k,false⟩)] }:=by
 rw [fy (n:=1) (v:=v) (els:=[x]) (el:=x) (k:=k) h rfl (by rw [hv];rfl) ho (by rw [hv];simpa using h1),hv,hu]
 rfl
theorem OW {id:Id} {els:List AV} {k:Nat} {b:Bool}:E6 [(id,⟨els,k,b⟩)]=[(id,some ⟨els,k,true⟩)]:=rfl
theorem cg {f:FuncId}:aa (.fn (.func f) [] []):=aa.fn (by simp) (by simp)
theorem MZ {k:Nat} {e:AV} {es:List AV}:cx k (.sl k (e::es)) (.int .i64 0)=some (.ep e.cells 0):=by simp [cx]
theorem SR {k:Nat} {d e:AV} {es:List AV}:cx k (.sl k (d::e::es)) (.int .i64 1)=some (.ep e.cells 0):=by simp [cx]
theorem aiX {k:Nat} {id:Id} {n:Nat} {t:Bool}:cx k (.osl id k 0 (n+1) t) (.int .i64 0)=some (.ref id 0 0):=by
 simp only [cx];rw [if_pos ⟨trivial,by omega,by omega⟩];rfl
theorem M0 {k:Nat} {id:Id} {t:Bool}:cx k (.osl id k 0 1 t) (.int .i64 0)=some (.ref id 0 0):=aiX
theorem afB {p:Id} {k bytes:Nat} {z:AV} (hb:bytes<=140737488355328) (hz:z.size=k) (h1:z.cells.all AV.one=true):jr p k bytes z (.int .i64 1) (.int .i64 1)=some { val := .osl p k 0 1 false,up:=[(p,some ⟨[z],k,false⟩)] }:=by
 simp only [jr]
 rw [if_pos ⟨by decide,by decide,by omega,by decide,hz,h1⟩]
 rfl
theorem KR {p:Id}:jr p 4 64 (.agg [.bool false, .nils, .bool false, .nils]) (.int .i64 1) (.int .i64 1)=some { val := .osl p 4 0 1 false,up:=[(p,some ⟨[.agg [.bool false, .nils, .bool false, .nils]],4,false⟩)] }:=afB (by decide) rfl rfl
theorem JQ:bR .shl .int (.int .i64 1) (.int .i64 0)=some (.int .i64 1):=rfl
theorem Fi {k:Nat}:ek k .nils none (some (.int .i64 0)) none=some .nils:=rfl
theorem uP {σ : af} {p id:Id} {k bytes:Nat} {e:AV} {b t:Bool} (h : σ id=some ⟨[e],k,b⟩) (hb:bytes<=140737488355328) (h1:e.cells.all AV.one=true) :
   eu σ p k bytes .nils (.osl id k 0 1 t)=some { val := .osl p k 0 1 false,rd:=[id],up:=[(p,some ⟨[e],k,false⟩)] } :=
 KF (ys:=[e]) (by rw [tj h rfl (by simp)];rfl) (by simp) (by simpa using hb) (eD (by simp)) (by simpa using h1)
theorem VQ {σ : af} {p id Cf:Id} {k bytes:Nat} {d e:AV} {b t:Bool} (h : σ id=some ⟨[e],k,b⟩) (h2 : σ Cf=some ⟨[d],k,false⟩) (hb:2*bytes<=140737488355328) (h1:e.cells.all AV.one=true) (h3:d.cells.all AV.one=true) :
   eu σ p k bytes (.osl Cf k 0 1 false) (.osl id k 0 1 t)=some { val := .osl p k 0 2 false,rd:=[Cf,id],up:=[(Cf,none),(p,some ⟨[d,e],k,false⟩)] }:=by
 have:=q9 (σ := σ) (p:=p) (id:=Cf) (k:=k) (bytes:=bytes) (len:=1) (x := .osl id k 0 1 t) (els:=[d]) (ys:=[e]) (rd:=[id]) (by rw [tj h rfl (by simp)];rfl) (by simp) h2 rfl (by simpa using hb) (eD (by simp)) (by simpa using h1) (by simpa using h3)
 exact this
theorem OX {σ : af} {id:Id} {k:Nat} {e:AV} {b t:Bool} (h : σ id=some ⟨[e],k,b⟩) (hs:e.size=k) (hp:∀ c∈e.cells,aa c):View σ (.osl id k 0 1 t) (.sl k [e]):=by
 refine View.osl (bk:=⟨[e],k,b⟩) h rfl (by simp) ?_ (by simp) (by simpa using hs)
 simpa [flat] using aG.pure hp
theorem VR {σ : af} {id:Id} {k:Nat} {d e:AV} {b t:Bool} (h : σ id=some ⟨[d,e],k,b⟩) (hd:d.size=k) (hs:e.size=k) (hq:∀ c∈d.cells,aa c) (hp:∀ c∈e.cells,aa c):View σ (.osl id k 0 2 t) (.sl k [d,e]):=by
 refine View.osl (bk:=⟨[d,e],k,b⟩) h rfl (by simp) ?_ (by simp) (by simp [hd,hs])
 have:aG σ (flat [d,e]) (flat [d,e]):=aG.pure (by intro c hc;simp [flat] at hc;rcases hc with h | h;exact hq c h;exact hp c h)
 simpa using this
end Go.VL
end

section
set_option linter.unusedVariables false
set_option linter.unusedVariables false
namespace Go.VL
theorem tw (q:Rat):part true (QV q).cells 0 2=some (IV q.num):=rfl
theorem tz (q:Rat):part true (QV q).cells 2 2=some (IV q.den):=rfl
theorem cA (q:Rat):part true (QV q).cells 0 4=some (QV q):=rfl
theorem fH (q:Rat):((QV q).cells.all AV.one=true)=True:=OI _ _
theorem KS (q:Rat):(QV q).size=4:=rfl
theorem aS:aa .nils:=aa.nils
theorem ss (z:Int) (d:Int):jq [.bool false, .nils, .bool false, .nils] [(0,(2,IV z)),(2,(2,IV d))]=some [.bool (decide (z<0)),W z.natAbs, .bool (decide (d<0)),W d.natAbs]:=rfl
theorem Dm {z d:Int} {q:Rat} (h1:q.num=z) (h2:(q.den:Int)=d):AV.agg [.bool (decide (z<0)),W z.natAbs, .bool (decide (d<0)),W d.natAbs]=QV q:=by subst h1;subst h2;rfl
def M1 (P:Program) (G:Nat->Option (List AV)) (f:FuncId):Prop:=∀ a b:Int,ag a.natAbs<=400000->ag b.natAbs<=400000->VP P G f [IV a,IV b] (IV (a+b))
def Fj (P:Program) (G:Nat->Option (List AV)) (f:FuncId):Prop:=∀ a b:Int,ag a.natAbs<=400000->ag b.natAbs<=400000->VP P G f [IV a,IV b] (IV (a*b))
def M3 (P:Program) (G:Nat->Option (List AV)) (f:FuncId):Prop:=∀ a:Int,ag a.natAbs<=400000->VP P G f [IV a] (IV (-a))
def KT (P:Program) (G:Nat->Option (List AV)) (f:FuncId):Prop:=∀ a:Int,ag a.natAbs<=400000->VP P G f [IV a] (.int .i64 a.sign)
def aaR (P:Program) (G:Nat->Option (List AV)) (f:FuncId):Prop:=∀ a b:Int,ag a.natAbs<=400000->ag b.natAbs<=400000->VP P G f [IV a,IV b] (.int .i64 (jm a b))
def HN (P:Program) (G:Nat->Option (List AV)) (f:FuncId):Prop:=∀ z:Int,VP P G f [IV z] (.bool (decide (z=1)))
def YY (P:Program) (G:Nat->Option (List AV)) (f:FuncId):Prop:=∀ a b:Int,b≠0->ag a.natAbs<=400001->ag b.natAbs<=400000->VP P G f [IV a,IV b] (QV ((a:Rat)/(b:Rat)))
def Q3 (P:Program) (G:Nat->Option (List AV)) (f:FuncId):Prop:=∀ a b:Rat,Sm 100000 a->Sm 100000 b->VP P G f [QV a,QV b] (QV (a+b))
def Q4 (P:Program) (G:Nat->Option (List AV)) (f:FuncId):Prop:=∀ a b:Rat,Sm 100000 a->Sm 100000 b->VP P G f [QV a,QV b] (QV (a*b))
def Q5 (P:Program) (G:Nat->Option (List AV)) (f:FuncId):Prop:=∀ a:Rat,Sm 100000 a->VP P G f [QV a] (QV (-a))
def OY (P:Program) (G:Nat->Option (List AV)) (f:FuncId):Prop:=∀ a:Rat,Sm 100000 a->VP P G f [QV a] (.int .i64 (dm a))
def aaS (P:Program) (G:Nat->Option (List AV)) (f:FuncId):Prop:=∀ a b:Rat,Sm 100000 a->Sm 100000 b->VP P G f [QV a,QV b] (.int .i64 (OU a b))
def aaT (P:Program) (G:Nat->Option (List AV)) (f:FuncId):Prop:=∀ a b:Rat,b≠0->Sm 100000 a->Sm 100000 b->VP P G f [QV a,QV b] (.tup [QV (a/b), .int .i64 0])
def F5 (P:Program) (G:Nat->Option (List AV)) (f:FuncId):Prop:=∀ a:Rat,Sm 100000 a->VP P G f [QV a] (.bool true)
def aaU (P:Program) (G:Nat->Option (List AV)) (f:FuncId):Prop:=∀ a:Int, -9223372036854775808<=a->a<9223372036854775808->VP P G f [.int .i64 a] (QV (a:Rat))
theorem dF (n:Nat):ag ((n:Nat):Int).natAbs=ag n:=rfl
theorem AD {q:Rat} (h:(q.den:Int)=1):q=(q.num:Rat):=Rat.ext rfl (by rw [Rat.den_intCast];omega)
section
variable {P:Program} {G:Nat->Option (List AV)}
theorem YZ {f ft fp fs fc fm:FuncId} (h:Has P f (nr ft fp fs fc fm)) (ht:iW P G ft)
   (hp:∀ m n,ag m<=1000000->ag n<=1000000->VP P G fp [W m,W n] (W (m+n))) (hs:iZ P G fs) (hc:∀ m n,ag m<=1000000->ag n<=1000000->VP P G fc [W m,W n] (.int .i64 (fY m n)))
   (hm:∀ m n,n<=m->ag m<=1000000->VP P G fm [W m,W n] (W (m-n))):M1 P G f:=fun a b ha hb=>by
 have hta:=pb ht a.natAbs (by omega)
 have htb:=pb ht b.natAbs (by omega)
 have hpv:=hp a.natAbs b.natAbs (by omega) (by omega)
 have hcv:=hc a.natAbs b.natAbs (by omega) (by omega)
 have hwl:ag (a.natAbs+b.natAbs)<=400001:=rf ha hb
 refine VP.has h ?_
 by_cases FV:decide (a<0)=decide (b<0)
 . have d0:(decide (a<0)==decide (b<0))=true:=by rw [FV];exact beq_self_eq_true _
   have Q1:=hs (decide (a<0)) (a.natAbs+b.natAbs) (by omega)
   rw [MV FV] at Q1
   simp only [nr]
   repeat (first
     | simp (disch:=first | decide | exact rfl) only [SS,DD,Nat.reduceAdd,aq,ao,gZ,b7,jX,iF,d0]
     | with_reducible refine ah (by assumption) (by simp [aB,aa.bool]) ?_
     | with_reducible refine ak (by assumption) (by simp [aB,aa.bool]) ?_
     | with_reducible refine And.intro (a:=ab _ _) (by simp [ab,apart]) ?_
     | with_reducible refine VW.aC 3 (VW.of ?_)
     | with_reducible refine bY.next _ (VW.of ?_)
     | rw [aj (by exact rfl) (by exact rfl) (by exact rfl) (by exact rfl) (by exact rfl)]
     | rw [bZ (by exact rfl) (by exact rfl) (by exact rfl) (by exact rfl)]
     | rw [b6 (by exact rfl) (by exact rfl) (by exact rfl) (by exact rfl) (by exact rfl) (by exact rfl)]
     | fail)
   refine ai▸ae (r:=IV (a+b)) ?_ (aw _)
   simp only [RS,aX,a9,ao,db]
 . have d0:(decide (a<0)==decide (b<0))=false:=by simpa using FV
   by_cases Fv:b.natAbs<=a.natAbs
   . have d1:decide (fY a.natAbs b.natAbs<0)=false:=au (by simp only [fY,jm];rw [if_neg (by omega)];split<;>decide)
     have Sx:=hm a.natAbs b.natAbs Fv (by omega)
     have Q1:=hs (decide (a<0)) (a.natAbs-b.natAbs) (by have:=bE (Nat.sub_le a.natAbs b.natAbs);omega)
     rw [Dj FV Fv] at Q1
     simp only [nr]
     repeat (first
       | simp (disch:=first | decide | exact rfl) only [SS,DD,Nat.reduceAdd,aq,ao,gZ,b7,jX,iF,d0,d1]
       | with_reducible refine ah (by assumption) (by simp [aB,aa.bool]) ?_
       | with_reducible refine ak (by assumption) (by simp [aB,aa.bool]) ?_
       | with_reducible refine And.intro (a:=ab _ _) (by simp [ab,apart]) ?_
       | with_reducible refine VW.aC 3 (VW.of ?_)
       | with_reducible refine bY.next _ (VW.of ?_)
       | rw [aj (by exact rfl) (by exact rfl) (by exact rfl) (by exact rfl) (by exact rfl)]
       | rw [bZ (by exact rfl) (by exact rfl) (by exact rfl) (by exact rfl)]
       | rw [b6 (by exact rfl) (by exact rfl) (by exact rfl) (by exact rfl) (by exact rfl) (by exact rfl)]
       | fail)
     refine ai▸ae (r:=IV (a+b)) ?_ (aw _)
     simp only [RS,aX,a9,ao,db]
   . have d1:decide (fY a.natAbs b.natAbs<0)=true:=ay (by simp only [fY,jm];rw [if_pos (by omega)];decide)
     have Sx:=hm b.natAbs a.natAbs (by omega) (by omega)
     have Q1:=hs (decide (b<0)) (b.natAbs-a.natAbs) (by have:=bE (Nat.sub_le b.natAbs a.natAbs);omega)
     rw [Dj (fun e=>FV e.symm) (by omega),Int.add_comm] at Q1
     simp only [nr]
     repeat (first
       | simp (disch:=first | decide | exact rfl) only [SS,DD,Nat.reduceAdd,aq,ao,gZ,b7,jX,iF,d0,d1]
       | with_reducible refine ah (by assumption) (by simp [aB,aa.bool]) ?_
       | with_reducible refine ak (by assumption) (by simp [aB,aa.bool]) ?_
       | with_reducible refine And.intro (a:=ab _ _) (by simp [ab,apart]) ?_
       | with_reducible refine VW.aC 3 (VW.of ?_)
       | with_reducible refine bY.next _ (VW.of ?_)
       | rw [aj (by exact rfl) (by exact rfl) (by exact rfl) (by exact rfl) (by exact rfl)]
       | rw [bZ (by exact rfl) (by exact rfl) (by exact rfl) (by exact rfl)]
       | rw [b6 (by exact rfl) (by exact rfl) (by exact rfl) (by exact rfl) (by exact rfl) (by exact rfl)]
       | fail)
     refine ai▸ae (r:=IV (a+b)) ?_ (aw _)
     simp only [RS,aX,a9,ao,db]
theorem Y0 {f fn:FuncId} (h:Has P f (rE fn)) (hn:M3 P G fn):Q5 P G f:=fun q hq=>by
 have h1:=hn q.num (by have:=hq.1;omega)
 refine VP.has h ?_
 simp only [rE]
 repeat (first
   | simp (disch:=first | decide | exact rfl) only [SS,DD,Nat.reduceAdd,aq,ao,fH,b8,tw,tz,ss,Dm (z := -q.num) (d:=q.den) (q := -q) rfl rfl]
   | with_reducible refine ah (by assumption) (by simp [aw]) ?_
   | with_reducible refine ak (by assumption) (by simp [aw]) ?_
   | with_reducible refine And.intro (a:=ab _ _) (by simp [ab,apart]) ?_
   | with_reducible refine VW.aC 3 (VW.of ?_)
   | with_reducible refine bY.next _ (VW.of ?_)
   | rw [aj (by exact rfl) (by exact rfl) (by exact rfl) (by exact rfl) (by exact rfl)]
   | rw [bZ (by exact rfl) (by exact rfl) (by exact rfl) (by exact rfl)]
   | rw [b6 (by exact rfl) (by exact rfl) (by exact rfl) (by exact rfl) (by exact rfl) (by exact rfl)]
   | fail)
 refine ai▸ae (r:=QV (-q)) ?_ (aA _)
 simp only [RS,aX,a9,ao,cA]
theorem Y1 {f fs fm fc:FuncId} (h:Has P f (rC fs fm fc)) (hs:OY P G fs) (hm:Fj P G fm) (hc:aaR P G fc):aaS P G f:=fun a b ha hb=>by
 have h1:=hs a ha
 have h2:=hs b hb
 have w1:=cf a.num b.den
 have w2:=cf b.num a.den
 rw [dF] at w1 w2
 have ha1:=ha.1
 have ha2:=ha.2
 have yY:=hb.1
 have DI:=hb.2
 have h3:=hm a.num b.den (by omega) (by rw [dF];omega)
 have h4:=hm b.num a.den (by omega) (by rw [dF];omega)
 have h5:=hc (a.num*b.den) (b.num*a.den) (by omega) (by omega)
 refine VP.has h ?_
 simp only [rC]
 by_cases hq:dm a=dm b
 . have d0:decide (dm a≠dm b)=false:=au (by omega)
   repeat (first
     | simp (disch:=first | decide | exact rfl) only [SS,DD,Nat.reduceAdd,aq,ao,fH,tw,tz,cA,d0]
     | with_reducible refine ah (by assumption) (by simp [aw]) ?_
     | with_reducible refine ak (by assumption) (by simp [aw,aA]) ?_
     | with_reducible refine And.intro (a:=ab _ _) (by simp [ab,apart]) ?_
     | with_reducible refine VW.aC 3 (VW.of ?_)
     | with_reducible refine bY.next _ (VW.of ?_)
     | rw [aj (by exact rfl) (by exact rfl) (by exact rfl) (by exact rfl) (by exact rfl)]
     | rw [bZ (by exact rfl) (by exact rfl) (by exact rfl) (by exact rfl)]
     | rw [b6 (by exact rfl) (by exact rfl) (by exact rfl) (by exact rfl) (by exact rfl) (by exact rfl)]
     | fail)
   exact ai▸ae rfl (aa.int _ _)
 . have d0:decide (dm a≠dm b)=true:=ay (by omega)
   rw [SP hq]
   by_cases hl:dm a<dm b
   . have d1:decide (dm a<dm b)=true:=ay hl
     rw [if_pos hl]
     repeat (first
       | simp (disch:=first | decide | exact rfl) only [SS,DD,Nat.reduceAdd,aq,ao,fH,cA,d0,d1]
       | with_reducible refine ah (by assumption) (by simp [aw]) ?_
       | with_reducible refine ak (by assumption) (by simp [aw,aA]) ?_
       | with_reducible refine And.intro (a:=ab _ _) (by simp [ab,apart]) ?_
       | with_reducible refine VW.aC 3 (VW.of ?_)
       | with_reducible refine bY.next _ (VW.of ?_)
       | rw [aj (by exact rfl) (by exact rfl) (by exact rfl) (by exact rfl) (by exact rfl)]
       | rw [bZ (by exact rfl) (by exact rfl) (by exact rfl) (by exact rfl)]
       | rw [b6 (by exact rfl) (by exact rfl) (by exact rfl) (by exact rfl) (by exact rfl) (by exact rfl)]
       | fail)
     exact ai▸ae rfl (aa.int _ _)
   . have d1:decide (dm a<dm b)=false:=au hl
     rw [if_neg hl]
     repeat (first
       | simp (disch:=first | decide | exact rfl) only [SS,DD,Nat.reduceAdd,aq,ao,fH,cA,d0,d1]
       | with_reducible refine ah (by assumption) (by simp [aw]) ?_
       | with_reducible refine ak (by assumption) (by simp [aw,aA]) ?_
       | with_reducible refine And.intro (a:=ab _ _) (by simp [ab,apart]) ?_
       | with_reducible refine VW.aC 3 (VW.of ?_)
       | with_reducible refine bY.next _ (VW.of ?_)
       | rw [aj (by exact rfl) (by exact rfl) (by exact rfl) (by exact rfl) (by exact rfl)]
       | rw [bZ (by exact rfl) (by exact rfl) (by exact rfl) (by exact rfl)]
       | rw [b6 (by exact rfl) (by exact rfl) (by exact rfl) (by exact rfl) (by exact rfl) (by exact rfl)]
       | fail)
     exact ai▸ae rfl (aa.int _ _)
theorem Y2 {f fi fa fo fm fl:FuncId} (h:Has P f (rD fi fa fo fm fl)) (hi:HN P G fi) (hA:M1 P G fa) (ho:VP P G fo [] (IV 1)) (hm:Fj P G fm) (hl:YY P G fl):Q3 P G f:=fun a b ha hb=>by
 have i1:=hi a.den
 have i2:=hi b.den
 have w1:=cf a.num b.den
 have w2:=cf b.num a.den
 have w3:=cf a.den b.den
 rw [dF] at w1 w2 w3
 rw [dF] at w3
 have ha1:=ha.1
 have ha2:=ha.2
 have yY:=hb.1
 have DI:=hb.2
 have m1:=hm a.num b.den (by omega) (by rw [dF];omega)
 have m2:=hm b.num a.den (by omega) (by rw [dF];omega)
 have m3:=hm a.den b.den (by rw [dF];omega) (by rw [dF];omega)
 have s1:=hA (a.num*b.den) (b.num*a.den) (by omega) (by omega)
 have A1:ag (a.num*b.den+b.num*a.den).natAbs<=400001:=Nat.le_trans (bE (Int.natAbs_add_le _ _)) (rf (k:=400000) (by omega) (by omega))
 have l1:=hl (a.num*b.den+b.num*a.den) (a.den*b.den) (x9 a b) A1 (by omega)
 rw [<- aaQ] at l1
 have s2:=hA a.num b.num (by omega) (by omega)
 refine VP.has h ?_
 simp only [rD]
 by_cases hda:(a.den:Int)=1
 . have d1:decide ((a.den:Int)=1)=true:=ay hda
   by_cases hdb:(b.den:Int)=1
   . have d2:decide ((b.den:Int)=1)=true:=ay hdb
     have hq:a+b=((a.num+b.num:Int):Rat):=by rw [Rat.intCast_add, <- AD hda, <- AD hdb]
     repeat (first
       | simp (disch:=first | decide | exact rfl) only [SS,Nat.reduceAdd,aq,ao,fH,b8,tw,tz,d1,d2,ss]
       | with_reducible refine ah (by assumption) (by simp [aw]) ?_
       | with_reducible refine ak (by assumption) (by simp [aw]) ?_
       | with_reducible refine And.intro (a:=ab _ _) (by simp [ab,apart]) ?_
       | with_reducible refine VW.aC 3 (VW.of ?_)
       | with_reducible refine bY.next _ (VW.of ?_)
       | rw [aj (by exact rfl) (by exact rfl) (by exact rfl) (by exact rfl) (by exact rfl)]
       | rw [bZ (by exact rfl) (by exact rfl) (by exact rfl) (by exact rfl)]
       | rw [b6 (by exact rfl) (by exact rfl) (by exact rfl) (by exact rfl) (by exact rfl) (by exact rfl)]
       | fail)
     refine ai▸ae (r:=QV (a+b)) ?_ (aA _)
     simp only [RS,aX,a9,ao]
     rw [hq];rfl
   . have d2:decide ((b.den:Int)=1)=false:=au hdb
     repeat (first
       | simp (disch:=first | decide | exact rfl) only [SS,DD,Nat.reduceAdd,aq,ao,fH,b8,b7,db,tw,tz,d1,d2]
       | with_reducible refine ah (by assumption) (by simp [aw]) ?_
       | with_reducible refine ak (by assumption) (by simp [aw]) ?_
       | with_reducible refine And.intro (a:=ab _ _) (by simp [ab,apart]) ?_
       | with_reducible refine VW.aC 3 (VW.of ?_)
       | with_reducible refine bY.next _ (VW.of ?_)
       | rw [aj (by exact rfl) (by exact rfl) (by exact rfl) (by exact rfl) (by exact rfl)]
       | rw [bZ (by exact rfl) (by exact rfl) (by exact rfl) (by exact rfl)]
       | rw [b6 (by exact rfl) (by exact rfl) (by exact rfl) (by exact rfl) (by exact rfl) (by exact rfl)]
       | fail)
     refine ai▸ae (r:=QV (a+b)) ?_ (aA _)
     simp only [RS,aX,a9,ao,cA]
 . have d1:decide ((a.den:Int)=1)=false:=au hda
   repeat (first
     | simp (disch:=first | decide | exact rfl) only [SS,DD,Nat.reduceAdd,aq,ao,fH,b8,b7,db,tw,tz,d1]
     | with_reducible refine ah (by assumption) (by simp [aw]) ?_
     | with_reducible refine ak (by assumption) (by simp [aw]) ?_
     | with_reducible refine And.intro (a:=ab _ _) (by simp [ab,apart]) ?_
     | with_reducible refine VW.aC 3 (VW.of ?_)
     | with_reducible refine bY.next _ (VW.of ?_)
     | rw [aj (by exact rfl) (by exact rfl) (by exact rfl) (by exact rfl) (by exact rfl)]
     | rw [bZ (by exact rfl) (by exact rfl) (by exact rfl) (by exact rfl)]
     | rw [b6 (by exact rfl) (by exact rfl) (by exact rfl) (by exact rfl) (by exact rfl) (by exact rfl)]
     | fail)
   refine ai▸ae (r:=QV (a+b)) ?_ (aA _)
   simp only [RS,aX,a9,ao,cA]
theorem SU {f:FuncId} (h:Has P f oJ) (z:Int):VP P G f [IV z] (.bool (decide (z=0))):=by
 have e:decide ((ag z.natAbs:Int)=0)=decide (z=0):=by
   have:=cI (n:=z.natAbs)
   congr 1;apply propext;omega
 refine VP.has h ?_
 simp only [oJ]
 repeat (first
   | simp (disch:=first | decide | exact rfl) only [SS,Nat.reduceAdd,ao,gZ,iF,bg,e]
   | with_reducible refine ah (by assumption) (by simp [aw,aB,aA,aa.int,aa.bool,aa.str,aS]) ?_
   | with_reducible refine ak (by assumption) (by simp [aw,aB,aA,aa.int,aa.bool,aa.str,aS]) ?_
   | with_reducible refine And.intro (a:=ab _ _) (by simp [ab,apart]) ?_
   | with_reducible refine VW.aC 3 (VW.of ?_)
   | with_reducible refine bY.next _ (VW.of ?_)
   | rw [aj (by exact rfl) (by exact rfl) (by exact rfl) (by exact rfl) (by exact rfl)]
   | rw [bZ (by exact rfl) (by exact rfl) (by exact rfl) (by exact rfl)]
   | rw [b6 (by exact rfl) (by exact rfl) (by exact rfl) (by exact rfl) (by exact rfl) (by exact rfl)]
   | fail)
 exact ai▸ae rfl (aa.bool _)
theorem Y3 {f fz fm fl:FuncId} (h:Has P f (rF fz fm fl)) (hz:∀ z:Int,VP P G fz [IV z] (.bool (decide (z=0)))) (hm:Fj P G fm) (hl:YY P G fl):aaT P G f:=fun a b IL ha hb=>by
 have hbn:b.num≠0:=fun e=>IL (Rat.num_eq_zero.1 e)
 have i1:=hz b.num
 have d1:decide (b.num=0)=false:=au hbn
 rw [d1] at i1
 have w1:=cf a.num b.den
 have w2:=cf a.den b.num
 rw [dF] at w1 w2
 have ha1:=ha.1
 have ha2:=ha.2
 have yY:=hb.1
 have DI:=hb.2
 have m1:=hm a.num b.den (by omega) (by rw [dF];omega)
 have m2:=hm a.den b.num (by rw [dF];omega) (by omega)
 have l1:=hl (a.num*b.den) (a.den*b.num) (Int.mul_ne_zero (OT a) hbn) (by omega) (by omega)
 rw [<- afA] at l1
 refine VP.has h ?_
 simp only [rF]
 repeat (first
   | simp (disch:=first | decide | exact rfl) only [SS,DD,Nat.reduceAdd,aq,ao,fH,b8,tw,tz]
   | with_reducible refine ah (by assumption) (by simp [aw]) ?_
   | with_reducible refine ak (by assumption) (by simp [aw]) ?_
   | with_reducible refine And.intro (a:=ab _ _) (by simp [ab,apart]) ?_
   | with_reducible refine VW.aC 3 (VW.of ?_)
   | with_reducible refine bY.next _ (VW.of ?_)
   | rw [aj (by exact rfl) (by exact rfl) (by exact rfl) (by exact rfl) (by exact rfl)]
   | rw [bZ (by exact rfl) (by exact rfl) (by exact rfl) (by exact rfl)]
   | rw [b6 (by exact rfl) (by exact rfl) (by exact rfl) (by exact rfl) (by exact rfl) (by exact rfl)]
   | fail)
 refine ai▸ae (r := .tup [QV (a/b), .int .i64 0]) ?_ (aa.tup (by simp [aA,aa.int]))
 simp only [RS,aX,a9,ao,cA]
end
end Go.VL
end

section
set_option linter.unusedVariables false
set_option linter.unusedVariables false
namespace Go.VL
theorem afD (a:Int) (b:Nat) (hb:b≠0):QV ((a:Rat)/((b:Int):Rat))=RV (a/(Nat.gcd a.natAbs b:Nat)) ((b:Int)/(Nat.gcd a.natAbs b:Nat)):=by
 have h:=HL a b (by omega)
 rw [if_neg (by omega),Int.natAbs_natCast,Int.fdiv_eq_ediv_of_nonneg _ (Int.natCast_nonneg _),Int.fdiv_eq_ediv_of_nonneg _ (Int.natCast_nonneg _)] at h
 exact h.symm
theorem Y4 (a b:Rat):(a+b).num=(a.num*((b.den/Nat.gcd a.den b.den:Nat):Int)+b.num*((a.den/Nat.gcd a.den b.den:Nat):Int))/(Nat.gcd (a.num*((b.den/Nat.gcd a.den b.den:Nat):Int)+b.num*((a.den/Nat.gcd a.den b.den:Nat):Int)).natAbs (Nat.gcd a.den b.den):Nat) /\
   (a+b).den=a.den/Nat.gcd a.den b.den*(b.den/Nat.gcd (a.num*((b.den/Nat.gcd a.den b.den:Nat):Int)+b.num*((a.den/Nat.gcd a.den b.den:Nat):Int)).natAbs (Nat.gcd a.den b.den)):=by
 show (Rat.add a b).num=_/\(Rat.add a b).den=_
 unfold Rat.add
 dsimp only
 split
 . rename_i h
   simp [h]
 . unfold Rat.maybeNormalize
   have hd:∀ x:Nat,Nat.gcd x (Nat.gcd a.den b.den) ∣ b.den:=fun x=>Nat.dvd_trans (Nat.gcd_dvd_right _ _) (Nat.gcd_dvd_right _ _)
   split
   . rename_i h
     have e:∀ (N:Int) (k x y:Nat),k=1->N=N/(k:Int)/\x*y=x*(y/k):=by
       intro N k x y hk;subst hk;simp
     exact e _ _ _ _ h
   . refine ⟨rfl, ?_⟩
     exact Nat.mul_div_assoc _ (hd _)
theorem Y5 (a b:Rat):(a*b).num=a.num/(Nat.gcd a.num.natAbs b.den:Nat)*(b.num/(Nat.gcd b.num.natAbs a.den:Nat))/\(a*b).den=a.den/Nat.gcd b.num.natAbs a.den*(b.den/Nat.gcd a.num.natAbs b.den):=by
 show (Rat.mul a b).num=_/\(Rat.mul a b).den=_
 unfold Rat.mul
 simp
def VT (P:Program) (G:Nat->Option (List AV)) (f:FuncId):Prop:=∀ z:Int,ag z.natAbs<=1000000->VP P G f [IV z] (IV z)
def JR (P:Program) (G:Nat->Option (List AV)) (f:FuncId):Prop:=∀ a b:Int,ag a.natAbs<=400001->ag b.natAbs<=400000->VP P G f [IV a,IV b] (IV (Nat.gcd a.natAbs b.natAbs:Nat))
def Q6 (P:Program) (G:Nat->Option (List AV)) (f:FuncId):Prop:=∀ a b:Int,0<b->b ∣ a->ag a.natAbs<=400001->ag b.natAbs<=400000->VP P G f [IV a,IV b] (IV (a/b))
section
variable {P:Program} {G:Nat->Option (List AV)}
theorem VU {f fn fd fs fm fsu fsg ffi fa:FuncId} (h:Has P f (jH fn fd fs fm fsu fsg ffi fa)) (hn:VT P G fn) (hd:∀ m n,n≠0->ag m<=900000->ag n<=900000->VP P G fd [W m,W n] (.tup [W (m/n),W (m%n)])) (hs:iZ P G fs)
   (hm:∀ a b:Int,ag a.natAbs<=1000000->ag b.natAbs<=1000000->VP P G fm [IV a,IV b] (IV (a*b))) (hsu:∀ a b:Int,ag a.natAbs<=1000000->ag b.natAbs<=1000000->VP P G fsu [IV a,IV b] (IV (a-b)))
   (MF:∀ z:Int,ag z.natAbs<=1000000->VP P G fsg [IV z] (.int .i64 z.sign)) (a b:Int) (IL:0<b) (hba:b ∣ a) (ha:ag a.natAbs<=900000) (hb:ag b.natAbs<=900000) :
   VP P G f [IV a,IV b] (.tup [IV (a/b),IV 0, .int .i64 0]):=by
 have h1:=hn a (by omega)
 have h2:=hn b (by omega)
 have h3:=hd a.natAbs b.natAbs (by omega) ha hb
 have e:a.natAbs/b.natAbs=(a/b).natAbs:=by
   obtain ⟨c,rfl⟩:=hba
   rw [Int.mul_ediv_cancel_left _ (by omega),Int.natAbs_mul,Nat.mul_div_cancel_left _ (by omega)]
 have hw:ag (a/b).natAbs<=900000:=by rw [<- e];exact Nat.le_trans (bE (Nat.div_le_self _ _)) ha
 have h4:=hs (decide (a<0)) (a.natAbs/b.natAbs) (by rw [e];omega)
 have e4:x3 (decide (a<0)) (a.natAbs/b.natAbs)=a/b:=by
   obtain ⟨c,rfl⟩:=hba
   rw [Int.mul_ediv_cancel_left _ (by omega),Int.natAbs_mul,Nat.mul_div_cancel_left _ (by omega)]
   have:decide (b*c<0)=decide (c<0):=by
     congr 1;apply propext
     constructor
     . intro h;rcases Int.lt_or_le c 0 with h1 | h1
       . exact h1
       . have:=Int.mul_nonneg (Int.le_of_lt IL) h1;omega
     . intro h;exact Int.mul_neg_of_pos_of_neg IL h
   rw [this,Dg]
 rw [e4] at h4
 have h5:=hm (a/b) b (by omega) (by omega)
 rw [Int.ediv_mul_cancel hba] at h5
 have h6:=hsu a a (by omega) (by omega)
 rw [Int.sub_self] at h6
 have h7:VP P G fsg [IV 0] (.int .i64 0):=MF 0 (by simp [ag,bA])
 have h8:=MF b (by omega)
 rw [Int.sign_eq_one_of_pos IL] at h8
 have TW:ag b.natAbs≠0:=fun e=>by have:=cI.1 e;omega
 have d0:decide ((ag b.natAbs:Int)=0)=false:=au (by omega)
 have d1:(!(decide (a<0)==decide (b<0)))=decide (a<0):=by rw [au (show ¬ b<0 by omega)];cases decide (a<0)<;>rfl
 have w0:IntKind.i64.wrap ((0:Int)*1)=0:=by decide
 refine VP.has h ?_
 simp only [jH]
 repeat (first
   | simp (disch:=first | decide | exact rfl) only [SS,DD,Nat.reduceAdd,aq,ao,ZZ,g0,g1,gZ,b7,jX,iF,db,bg,d0,d1,w0]
   | with_reducible refine ah (by assumption) (by simp [aw,aB,aa.bool]) ?_
   | with_reducible refine ak (by assumption) (by simp [aw]) ?_
   | with_reducible refine And.intro (a:=ab _ _) (by simp [ab,apart]) ?_
   | with_reducible refine VW.aC 3 (VW.of ?_)
   | with_reducible refine bY.next _ (VW.of ?_)
   | rw [aj (by exact rfl) (by exact rfl) (by exact rfl) (by exact rfl) (by exact rfl)]
   | rw [bZ (by exact rfl) (by exact rfl) (by exact rfl) (by exact rfl)]
   | rw [b6 (by exact rfl) (by exact rfl) (by exact rfl) (by exact rfl) (by exact rfl) (by exact rfl)]
   | fail)
 refine ai▸ae (r := .tup [IV (a/b),IV 0, .int .i64 0]) ?_ (aa.tup (by simp [aw,aa.int]))
 simp (disch:=decide) only [RS,aX,a9,aq,ao,db]
theorem VV {f fd:FuncId} (h:Has P f (lX fd)) (a b:Int) (hd:VP P G fd [IV a,IV b] (.tup [IV (a/b),IV 0, .int .i64 0])):VP P G f [IV a,IV b] (IV (a/b)):=by
 refine VP.has h ?_
 simp only [lX]
 repeat (first
   | simp (disch:=first | decide | exact rfl) only [SS,Nat.reduceAdd,aq,ao,g0,g1,g2,gZ,b7,db]
   | with_reducible refine ah (by assumption) (by simp [aw]) ?_
   | with_reducible refine ak (by assumption) (by simp [aw]) ?_
   | with_reducible refine And.intro (a:=ab _ _) (by simp [ab,apart]) ?_
   | with_reducible refine VW.aC 3 (VW.of ?_)
   | with_reducible refine bY.next _ (VW.of ?_)
   | rw [aj (by exact rfl) (by exact rfl) (by exact rfl) (by exact rfl) (by exact rfl)]
   | rw [bZ (by exact rfl) (by exact rfl) (by exact rfl) (by exact rfl)]
   | rw [b6 (by exact rfl) (by exact rfl) (by exact rfl) (by exact rfl) (by exact rfl) (by exact rfl)]
   | fail)
 refine ai▸ae (r:=IV (a/b)) ?_ (aw _)
 simp (disch:=decide) only [RS,aX,a9,ao,db]
theorem VX {f fn:FuncId} (h:Has P f (l9 fn)) (hn:M3 P G fn):Q5 P G f:=fun q hq=>by
 have h1:=hn q.num (by have:=hq.1;omega)
 refine VP.has h ?_
 simp only [l9]
 repeat (first
   | simp (disch:=first | decide | exact rfl) only [SS,DD,Nat.reduceAdd,aq,ao,fH,b8,tw,tz,ss,Dm (z := -q.num) (d:=q.den) (q := -q) rfl rfl]
   | with_reducible refine ah (by assumption) (by simp [aw]) ?_
   | with_reducible refine ak (by assumption) (by simp [aw]) ?_
   | with_reducible refine And.intro (a:=ab _ _) (by simp [ab,apart]) ?_
   | with_reducible refine VW.aC 3 (VW.of ?_)
   | with_reducible refine bY.next _ (VW.of ?_)
   | rw [aj (by exact rfl) (by exact rfl) (by exact rfl) (by exact rfl) (by exact rfl)]
   | rw [bZ (by exact rfl) (by exact rfl) (by exact rfl) (by exact rfl)]
   | rw [b6 (by exact rfl) (by exact rfl) (by exact rfl) (by exact rfl) (by exact rfl) (by exact rfl)]
   | fail)
 refine ai▸ae (r:=QV (-q)) ?_ (aA _)
 simp only [RS,aX,a9,ao,cA]
theorem SV {f fg fs fn fq:FuncId} (h:Has P f (k7 fg fs fn fq)) (hg:JR P G fg) (hs:KT P G fs) (hq:Q6 P G fq) (a:Int) (b:Nat) (IL:b≠0) (ha:ag a.natAbs<=400000) (hb:ag b<=400000):VP P G f [IV a,IV b] (QV ((a:Rat)/((b:Int):Rat))):=by
 have h1:=hg a b (by omega) hb
 rw [Int.natAbs_natCast] at h1
 have h2:=hs b hb
 rw [Int.sign_eq_one_of_pos (by omega)] at h2
 have hgp:0<Nat.gcd a.natAbs b:=Nat.gcd_pos_of_pos_right _ (by omega)
 have hgl:ag (((Nat.gcd a.natAbs b:Nat):Int)).natAbs<=400000:=Nat.le_trans (bE (Nat.le_of_dvd (by omega) (Nat.gcd_dvd_right _ _))) hb
 have h3:=hq a (Nat.gcd a.natAbs b:Nat) (by omega) (Int.ofNat_dvd_left.2 (Nat.gcd_dvd_left _ _)) (by omega) hgl
 have h4:=hq b (Nat.gcd a.natAbs b:Nat) (by omega) (Int.ofNat_dvd_left.2 (by rw [Int.natAbs_natCast];exact Nat.gcd_dvd_right _ _)) (by rw [dF];omega) hgl
 have e:=afD a b IL
 have e2:AV.agg [.bool (decide (a/(Nat.gcd a.natAbs b:Nat)<0)),W (a/(Nat.gcd a.natAbs b:Nat)).natAbs, .bool (decide ((b:Int)/(Nat.gcd a.natAbs b:Nat)<0)),W ((b:Int)/(Nat.gcd a.natAbs b:Nat)).natAbs]=QV ((a:Rat)/((b:Int):Rat)):=e.symm
 have d0:decide ((1:Int)<0)=false:=rfl
 refine VP.has h ?_
 simp only [k7]
 repeat (first
   | simp (disch:=first | decide | exact rfl) only [SS,DD,Nat.reduceAdd,aq,ao,gZ,b7,b8,db,ss,e2,d0]
   | with_reducible refine ah (by assumption) (by simp [aw]) ?_
   | with_reducible refine ak (by assumption) (by simp [aw]) ?_
   | with_reducible refine And.intro (a:=ab _ _) (by simp [ab,apart]) ?_
   | with_reducible refine VW.aC 3 (VW.of ?_)
   | with_reducible refine bY.next _ (VW.of ?_)
   | rw [aj (by exact rfl) (by exact rfl) (by exact rfl) (by exact rfl) (by exact rfl)]
   | rw [bZ (by exact rfl) (by exact rfl) (by exact rfl) (by exact rfl)]
   | rw [b6 (by exact rfl) (by exact rfl) (by exact rfl) (by exact rfl) (by exact rfl) (by exact rfl)]
   | fail)
 refine ai▸ae (r:=QV ((a:Rat)/((b:Int):Rat))) ?_ (aA _)
 simp (disch:=decide) only [RS,aX,a9,ao,cA]
theorem SW {f fi fI fm:FuncId} (h:Has P f (k8 fi fI fm)) (a:Int) (b:Nat) (IL:b≠0) (h1:VP P G fI [.int .i64 a] (IV a)) (h2:VP P G fI [.int .i64 (b:Int)] (IV (b:Int))) (hm:VP P G fm [IV a,IV b] (QV ((a:Rat)/((b:Int):Rat)))):VP P G f [.int .i64 a, .int .i64 (b:Int)] (QV ((a:Rat)/((b:Int):Rat))):=by
 have d0:decide ((b:Int)=0)=false:=au (by omega)
 refine VP.has h ?_
 simp only [k8]
 repeat (first
   | simp (disch:=first | decide | exact rfl) only [SS,Nat.reduceAdd,b8,d0]
   | with_reducible refine ah (by assumption) (by simp [aw,aa.int]) ?_
   | with_reducible refine ak (by assumption) (by simp [aw]) ?_
   | with_reducible refine And.intro (a:=ab _ _) (by simp [ab,apart]) ?_
   | with_reducible refine VW.aC 3 (VW.of ?_)
   | with_reducible refine bY.next _ (VW.of ?_)
   | rw [aj (by exact rfl) (by exact rfl) (by exact rfl) (by exact rfl) (by exact rfl)]
   | rw [bZ (by exact rfl) (by exact rfl) (by exact rfl) (by exact rfl)]
   | rw [b6 (by exact rfl) (by exact rfl) (by exact rfl) (by exact rfl) (by exact rfl) (by exact rfl)]
   | fail)
 refine ai▸ae (r:=QV ((a:Rat)/((b:Int):Rat))) ?_ (aA _)
 simp (disch:=decide) only [RS,aX,a9,ao,cA]
end
end Go.VL
end

section
set_option linter.unusedVariables false
set_option linter.unusedVariables false
namespace Go.VL
def EV (q:Rat):AV := .sl 4 [QV q]
theorem Dn (q:Rat):∀ c∈(QV q).cells,aa c:=by
 intro c hc
 simp only [QV,RV,AV.cells,List.mem_cons,List.not_mem_nil,or_false] at hc
 rcases hc with rfl | rfl | rfl | rfl
 . exact aa.bool _
 . exact aB _
 . exact aa.bool _
 . exact aB _
theorem aD (q:Rat):aa (EV q):=aa.sl (by intro c hc;simp only [flat,List.flatMap_cons,List.flatMap_nil,List.append_nil] at hc;exact Dn q c hc)
theorem uQ (q:Rat):qS false (EV q)=some (.int .i64 1):=rfl
theorem tC (q:Rat):cx 4 (EV q) (.int .i64 0)=some (.ep (QV q).cells 0):=MZ
theorem pW {σ : af} {id:Id} {q:Rat} {b t:Bool} (h : σ id=some ⟨[QV q],4,b⟩):View σ (.osl id 4 0 1 t) (EV q):=OX h rfl (Dn q)
section
variable {P:Program} {G:Nat->Option (List AV)}
theorem nj {f fw:FuncId} (h:Has P f c9) {a c:List AV} {es:List AV} (hk:∀ e∈es,part true e.cells 0 4=some e) {p:AV->Bool} (hw:∀ e∈es,VP P G fw (a++[e]++c) (.bool (p e)))
   (hp:∀ e∈es,aa e) (ha:∀ x∈a,aa x) (hc:∀ x∈c,aa x) (hl:es.length<9223372036854775807):VP P G f [.sl 4 es, .fn (.func fw) a c] (.int .i64 (yT (es.findIdx? p))):=by
 refine VP.has h ?_
 simp only [c9,SS,Nat.reduceAdd,aP]
 refine VW.ey (α := Nat × Nat) (fun x=>⟨[.sl 4 es, .fn (.func fw) a c, .top, .top, .top, .top, .top, .int .i64 es.length, .int .i64 x.1]++List.replicate 10 .top,fun _=>none,x.2⟩) (fun x=>x.1<=es.length/\∀ (j:Nat) e,j<x.1->es[j]? = some e->p e=false) (fun x=>es.length-x.1) (0,4) ?_ ⟨Nat.zero_le _,fun j e hj=>absurd hj (Nat.not_lt_zero j)⟩ ?_
 . exact Wk.slots (by simp [Fg,List.replicate]) (Nat.le_refl _)
 rintro ⟨i,n⟩ ⟨hi,hn⟩
 simp only [] at hi hn
 simp only [SS]
 by_cases hlt:i<es.length
 . have h1:(i:Int)<(es.length:Int):=by omega
   obtain ⟨e,he⟩:∃ e,es[i]? = some e:=⟨es[i],by simp [hlt]⟩
   have hm:=List.mem_of_getElem? he
   simp only [SS,Nat.reduceAdd,h1,decide_true,fX rfl he,aI,hk e hm]
   refine ah (hw e hm) (by
     intro x hx
     simp only [List.mem_append,List.mem_singleton] at hx
     rcases hx with (hx | rfl) | hx
     . exact ha x hx
     . exact hp _ hm
     . exact hc x hx) ?_
   cases hpe:p e
   . simp only [SS,Nat.reduceAdd,aL i (by omega)]
     refine ⟨(i+1,_),⟨by simp only [];omega, ?_⟩,by simp only [];omega,Wk.slots (by simp [Fg]) (Nat.le_refl _)⟩
     intro j e' hj Ls
     by_cases U8:j<i
     . exact hn j e' U8 Ls
     . have:j=i:=by simp only [] at hj;omega
       subst this;rw [he] at Ls;simp only [Option.some.injEq] at Ls;subst Ls;exact hpe
   . simp only [SS,Nat.reduceAdd]
     rw [re he hpe hn]
     exact ai▸ae rfl (aa.int _ _)
 . have h1 : ¬ (i:Int)<(es.length:Int):=by omega
   simp only [SS,h1,decide_false]
   rw [rb (fun j e hj=>hn j e (by have:=(List.getElem?_eq_some_iff.1 hj).1;omega) hj)]
   exact ai▸ae rfl (aa.int _ _)
theorem lI {f fi fw:FuncId} (h:Has P f (cF fi)) {a c:List AV} {es:List AV} {p:AV->Bool} (hi:VP P G fi [.sl 4 es, .fn (.func fw) a c] (.int .i64 (yT (es.findIdx? p))))
   (hp:aa (.sl 4 es)) (N3:aa (.fn (.func fw) a c)):VP P G f [.sl 4 es, .fn (.func fw) a c] (.bool (es.any p)):=by
 refine VP.has h ?_
 simp only [cF,SS,Nat.reduceAdd]
 refine ah hi (by intro x hx;simp at hx;rcases hx with rfl | rfl<;>assumption) ?_
 simp only [SS,Nat.reduceAdd]
 have e:decide (0<=yT (es.findIdx? p))=es.any p:=by
   rw [<- List.findIdx?_isSome]
   cases es.findIdx? p<;>simp [yT]
 rw [e]
 exact ai▸ae rfl (aa.bool _)
theorem M4 {f fv:FuncId} (h:Has P f (lF fv)) (q:Rat) (hv:VP P G fv [QV q] (.bool true)):VP P G f [QV q] (.bool false):=by
 refine VP.has h ?_
 simp only [lF]
 repeat (first
   | simp (disch:=first | decide | exact rfl) only [SS,Nat.reduceAdd,ao,fH,cA]
   | with_reducible refine ah (by assumption) (by simp [aA]) ?_
   | with_reducible refine ak (by assumption) (by simp [aA]) ?_
   | with_reducible refine And.intro (a:=ab _ _) (by simp [ab,apart]) ?_
   | with_reducible refine VW.aC 3 (VW.of ?_)
   | with_reducible refine bY.next _ (VW.of ?_)
   | rw [aj (by exact rfl) (by exact rfl) (by exact rfl) (by exact rfl) (by exact rfl)]
   | rw [bZ (by exact rfl) (by exact rfl) (by exact rfl) (by exact rfl)]
   | rw [b6 (by exact rfl) (by exact rfl) (by exact rfl) (by exact rfl) (by exact rfl) (by exact rfl)]
   | fail)
 exact ai▸ae rfl (aa.bool _)
theorem OZ {f fc fi f1 fv:FuncId} (h:Has P f (qq fc f1)) (hc:Has P fc (cF fi)) (hi:Has P fi c9) (h1:Has P f1 (lF fv)) (hv:F5 P G fv)
   (q:Rat) (hq:Sm 100000 q):VP P G f [EV q, .int .i64 1] (.bool true):=by
 have k1:=nj (G:=G) hi (fw:=f1) (a:=[]) (c:=[]) (es:=[QV q]) (p:=fun _=>false) (by simp [cA]) (by simpa using M4 h1 q (hv q hq)) (by simp [aA]) (by simp) (by simp) (by simp)
 have k2:=lI hc k1 (aD q) cg
 have e:(([QV q]:List AV).any fun _=>false)=false:=rfl
 rw [e] at k2
 have k3:VP P G fc [EV q, .fn (.func f1) [] []] (.bool false):=k2
 have d1:decide ((1:Int)=1)=true:=rfl
 refine VP.has h ?_
 simp only [qq]
 repeat (first
   | simp (disch:=first | decide | exact rfl) only [SS,Nat.reduceAdd,decide_true,uQ]
   | with_reducible refine ah (by assumption) (by simp [aD,cg]) ?_
   | with_reducible refine ak (by assumption) (by simp [aD,cg]) ?_
   | with_reducible refine And.intro (a:=ab _ _) (by simp [ab,apart]) ?_
   | with_reducible refine VW.aC 3 (VW.of ?_)
   | with_reducible refine bY.next _ (VW.of ?_)
   | rw [aj (by exact rfl) (by exact rfl) (by exact rfl) (by exact rfl) (by exact rfl)]
   | rw [bZ (by exact rfl) (by exact rfl) (by exact rfl) (by exact rfl)]
   | rw [b6 (by exact rfl) (by exact rfl) (by exact rfl) (by exact rfl) (by exact rfl) (by exact rfl)]
   | fail)
 exact ai▸ae rfl (aa.bool _)
theorem KU {f fn:FuncId} (h:Has P f (oO fn)):VP P G f [.nils] (.bool true):=by
 refine VP.has h ?_
 simp only [oO]
 repeat (first
   | simp (disch:=first | decide | exact rfl) only [SS,Nat.reduceAdd,aP,ZZ,ZZ]
   | with_reducible refine ah (by assumption) (by simp [aw,aB,aA,aa.int,aa.bool,aa.str,aS,aD,cg]) ?_
   | with_reducible refine ak (by assumption) (by simp [aw,aB,aA,aa.int,aa.bool,aa.str,aS,aD,cg]) ?_
   | with_reducible refine And.intro (a:=ab _ _) (by simp [ab,apart]) ?_
   | with_reducible refine VW.aC 3 (VW.of ?_)
   | with_reducible refine bY.next _ (VW.of ?_)
   | rw [aj (by exact rfl) (by exact rfl) (by exact rfl) (by exact rfl) (by exact rfl)]
   | rw [bZ (by exact rfl) (by exact rfl) (by exact rfl) (by exact rfl)]
   | rw [b6 (by exact rfl) (by exact rfl) (by exact rfl) (by exact rfl) (by exact rfl) (by exact rfl)]
   | fail)
 exact ai▸ae rfl (aa.bool _)
theorem O0 {f fr fn:FuncId} (h:Has P f (rG fr fn)) (q:Rat) (hr:VP P G fr [.nils] (.bool true)) (hn:VP P G fn [EV q, .int .i64 1] (.bool true)):VP P G f [.nils,EV q] (.bool true):=by
 refine VP.has h ?_
 simp only [rG]
 repeat (first
   | simp (disch:=first | decide | exact rfl) only [SS,Nat.reduceAdd,JQ]
   | with_reducible refine ah (by assumption) (by simp [aa.int,aS,aD]) ?_
   | with_reducible refine ak (by assumption) (by simp [aa.int,aD]) ?_
   | with_reducible refine And.intro (a:=ab _ _) (by simp [ab,apart]) ?_
   | with_reducible refine VW.aC 3 (VW.of ?_)
   | with_reducible refine bY.next _ (VW.of ?_)
   | rw [aj (by exact rfl) (by exact rfl) (by exact rfl) (by exact rfl) (by exact rfl)]
   | rw [bZ (by exact rfl) (by exact rfl) (by exact rfl) (by exact rfl)]
   | rw [b6 (by exact rfl) (by exact rfl) (by exact rfl) (by exact rfl) (by exact rfl) (by exact rfl)]
   | fail)
 exact ai▸ae rfl (aa.bool _)
theorem O1 {f fF fn:FuncId} (h:Has P f (rH fF fn)) (a b:Rat) (hF:VP P G fF [.nils,EV a] (.bool true)) (hn:VP P G fn [EV b, .int .i64 1] (.bool true)):VP P G f [.nils,EV a,EV b] (.bool true):=by
 refine VP.has h ?_
 simp only [rH]
 repeat (first
   | simp (disch:=first | decide | exact rfl) only [SS,Nat.reduceAdd,JQ]
   | with_reducible refine ah (by assumption) (by simp [aa.int,aS,aD]) ?_
   | with_reducible refine ak (by assumption) (by simp [aa.int,aD]) ?_
   | with_reducible refine And.intro (a:=ab _ _) (by simp [ab,apart]) ?_
   | with_reducible refine VW.aC 3 (VW.of ?_)
   | with_reducible refine bY.next _ (VW.of ?_)
   | rw [aj (by exact rfl) (by exact rfl) (by exact rfl) (by exact rfl) (by exact rfl)]
   | rw [bZ (by exact rfl) (by exact rfl) (by exact rfl) (by exact rfl)]
   | rw [b6 (by exact rfl) (by exact rfl) (by exact rfl) (by exact rfl) (by exact rfl) (by exact rfl)]
   | fail)
 exact ai▸ae rfl (aa.bool _)
theorem Q7 {f fa:FuncId} (h:Has P f (zj fa)) (a b:Rat) (hA:VP P G fa [QV a,QV b] (QV (a+b))):VP P G f [EV a,EV b] (EV (a+b)):=by
 refine VP.has h ?_
 simp only [zj]
 repeat (first
   | simp (disch:=first | decide | exact rfl) only [SS,DD,Nat.reduceAdd,aP,ZZ,CC,uQ,tC,aI,cA,ZZ,KR,M0]
   | with_reducible refine ah (by assumption) (by simp [aA]) ?_
   | with_reducible refine ak (by assumption) (by simp [aA]) ?_
   | with_reducible refine And.intro (a:=ab _ _) (by simp [ab,apart]) ?_
   | with_reducible refine VW.aC 3 (VW.of ?_)
   | with_reducible refine bY.next _ (VW.of ?_)
   | rw [aj (by exact rfl) (by exact rfl) (by exact rfl) (by exact rfl) (by exact rfl)]
   | rw [bZ (by exact rfl) (by exact rfl) (by exact rfl) (by exact rfl)]
   | rw [b6 (by exact rfl) (by exact rfl) (by exact rfl) (by exact rfl) (by exact rfl) (by exact rfl)]
   | fail)
 refine ai▸⟨_,rfl,pW (by exact rfl)⟩
theorem Y6 {f fa:FuncId} (h:Has P f (zk fa)) (a:Rat) (hA:VP P G fa [QV a] (QV (-a))):VP P G f [EV a] (EV (-a)):=by
 refine VP.has h ?_
 simp only [zk]
 repeat (first
   | simp (disch:=first | decide | exact rfl) only [SS,Nat.reduceAdd,ao,aP,ZZ,uQ,tC,aI,cA,b8,ZZ,KR,M0]
   | with_reducible refine ah (by assumption) (by simp [aA]) ?_
   | with_reducible refine ak (by assumption) (by simp [aA]) ?_
   | with_reducible refine And.intro (a:=ab _ _) (by simp [ab,apart]) ?_
   | with_reducible refine VW.aC 3 (VW.of ?_)
   | with_reducible refine bY.next _ (VW.of ?_)
   | rw [aj (by exact rfl) (by exact rfl) (by exact rfl) (by exact rfl) (by exact rfl)]
   | rw [bZ (by exact rfl) (by exact rfl) (by exact rfl) (by exact rfl)]
   | rw [b6 (by exact rfl) (by exact rfl) (by exact rfl) (by exact rfl) (by exact rfl) (by exact rfl)]
   | fail)
 refine ai▸⟨_,rfl,pW (by exact rfl)⟩
end
end Go.VL
end

section
set_option linter.unusedVariables false
set_option linter.unusedVariables false
namespace Go.VL
def NV (q:Rat):AV := .agg [.nils,EV q]
theorem aF (q:Rat):aa (NV q):=aa.agg (by intro c hc;simp at hc;rcases hc with rfl | rfl;exact aa.nils;exact aD q)
theorem g8 (q:Rat):((NV q).cells.all AV.one=true)=True:=by simp [NV,AV.cells,AV.one,EV]
theorem tD (q:Rat):part false (NV q).cells 0 1=some .nils:=rfl
theorem wq (q:Rat):part false (NV q).cells 1 1=some (EV q):=rfl
theorem cB (q:Rat):part true (NV q).cells 0 2=some (NV q):=rfl
theorem HO (q:Rat):∀ c∈(NV q).cells,aa c:=by
 intro c hc
 simp only [NV,AV.cells,List.mem_cons,List.not_mem_nil,or_false] at hc
 rcases hc with rfl | rfl
 . exact aa.nils
 . exact aD q
theorem bU:((AV.cells (.agg [.nils, .nils])).all AV.one=true)=True:=by simp [AV.cells,AV.one]
theorem Y7 (q:Rat):jq [.nils, .nils] [(1,(1,EV q))]=some [.nils,EV q]:=rfl
theorem Q8 {id:Id} {t:Bool}:jq [.nils, .nils] [(1,(1, .osl id 4 0 1 t))]=some [.nils, .osl id 4 0 1 t]:=rfl
theorem Q9:jq [.nils, .nils] [(0,(1, .nils))]=some [.nils, .nils]:=rfl
theorem Dp (q:Rat):jq [.nils, .nils] [(0,(1, .nils)),(1,(1,EV q))]=some [.nils,EV q]:=rfl
theorem JS (q:Rat):AV.agg [.nils,EV q]=NV q:=rfl
theorem VY {σ : af} {id:Id} {q:Rat} {b t:Bool} (h : σ id=some ⟨[QV q],4,b⟩):View σ (.agg [.nils, .osl id 4 0 1 t]) (NV q) :=
 View.agg (.cons (View.pure aa.nils) (.cons (pW h) .nil))
theorem HP {σ : af} {id:Id} {k:Nat} {q:Rat} {x:AV} (h : σ id=some ⟨[.agg [.nils,x]],k,false⟩):fD σ 1 (.ref id 0 1) (EV q)=some { val := .tup [],rd:=[id],up:=[(id,some ⟨[NV q],k,false⟩)] } :=
 Dl h rfl rfl (by simp [AV.size,AV.cells]) rfl
theorem HQ {σ : af} {id:Id} {k:Nat} {q r:Rat} (h : σ id=some ⟨[NV q],k,false⟩):fD σ 1 (.ref id 0 1) (EV r)=some { val := .tup [],rd:=[id],up:=[(id,some ⟨[NV r],k,false⟩)] }:=HP h
theorem VZ {σ : af} {id:Id} {k:Nat} {q:Rat} (h : σ id=some ⟨[QV q],k,false⟩):fD σ 1 (.ref id 0 1) (W q.num.natAbs)=some { val := .tup [],rd:=[id],up:=[(id,some ⟨[QV q],k,false⟩)] } :=
 Dl h rfl rfl (by simp [KS]) rfl
theorem V0 {σ : af} {id:Id} {k:Nat} {q:Rat} (h : σ id=some ⟨[QV q],k,false⟩):fD σ 1 (.ref id 0 3) (W q.den)=some { val := .tup [],rd:=[id],up:=[(id,some ⟨[QV q],k,false⟩)] } :=
 Dl h rfl rfl (by simp [KS]) rfl
theorem Bi (q:Rat):part false (QV q).cells 1 1=some (W q.num.natAbs):=rfl
theorem afE (q:Rat):part false (QV q).cells 3 1=some (W q.den):=rfl
section
variable {P:Program} {G:Nat->Option (List AV)}
theorem Y8 {f ff fa:FuncId} (h:Has P f (zl ff fa)) (a b:Rat) (hf:VP P G ff [.nils,EV a,EV b] (.bool true)) (hA:VP P G fa [EV a,EV b] (EV (a+b))):VP P G f [.nils,EV a,EV b] (EV (a+b)):=by
 refine VP.has h ?_
 simp only [zl]
 repeat (first
   | simp (disch:=first | decide | exact rfl) only [SS,Nat.reduceAdd]
   | with_reducible refine ah (by assumption) (by simp [aS,aD]) ?_
   | with_reducible refine ak (by assumption) (by simp [aD]) ?_
   | with_reducible refine And.intro (a:=ab _ _) (by simp [ab,apart]) ?_
   | with_reducible refine VW.aC 3 (VW.of ?_)
   | with_reducible refine bY.next _ (VW.of ?_)
   | rw [aj (by exact rfl) (by exact rfl) (by exact rfl) (by exact rfl) (by exact rfl)]
   | rw [bZ (by exact rfl) (by exact rfl) (by exact rfl) (by exact rfl)]
   | rw [b6 (by exact rfl) (by exact rfl) (by exact rfl) (by exact rfl) (by exact rfl) (by exact rfl)]
   | fail)
 exact ai▸ae rfl (aD _)
theorem Y9 {f ff fn fa:FuncId} (h:Has P f (zm ff fn fa)) (a b:Rat) (hf:VP P G ff [.nils,EV a,EV b] (.bool true)) (hn:VP P G fn [EV b] (EV (-b))) (hA:VP P G fa [EV a,EV (-b)] (EV (a + -b))):VP P G f [.nils,EV a,EV b] (EV (a-b)):=by
 rw [<- Rat.sub_eq_add_neg] at hA
 refine VP.has h ?_
 simp only [zm]
 repeat (first
   | simp (disch:=first | decide | exact rfl) only [SS,Nat.reduceAdd]
   | with_reducible refine ah (by assumption) (by simp [aS,aD]) ?_
   | with_reducible refine ak (by assumption) (by simp [aD]) ?_
   | with_reducible refine And.intro (a:=ab _ _) (by simp [ab,apart]) ?_
   | with_reducible refine VW.aC 3 (VW.of ?_)
   | with_reducible refine bY.next _ (VW.of ?_)
   | rw [aj (by exact rfl) (by exact rfl) (by exact rfl) (by exact rfl) (by exact rfl)]
   | rw [bZ (by exact rfl) (by exact rfl) (by exact rfl) (by exact rfl)]
   | rw [b6 (by exact rfl) (by exact rfl) (by exact rfl) (by exact rfl) (by exact rfl) (by exact rfl)]
   | fail)
 exact ai▸ae rfl (aD _)
theorem Za {f ff fn:FuncId} (h:Has P f (zp ff fn)) (a:Rat) (hf:VP P G ff [.nils,EV a] (.bool true)) (hn:VP P G fn [EV a] (EV (-a))):VP P G f [.nils,EV a] (EV (-a)):=by
 refine VP.has h ?_
 simp only [zp]
 repeat (first
   | simp (disch:=first | decide | exact rfl) only [SS,Nat.reduceAdd]
   | with_reducible refine ah (by assumption) (by simp [aS,aD]) ?_
   | with_reducible refine ak (by assumption) (by simp [aD]) ?_
   | with_reducible refine And.intro (a:=ab _ _) (by simp [ab,apart]) ?_
   | with_reducible refine VW.aC 3 (VW.of ?_)
   | with_reducible refine bY.next _ (VW.of ?_)
   | rw [aj (by exact rfl) (by exact rfl) (by exact rfl) (by exact rfl) (by exact rfl)]
   | rw [bZ (by exact rfl) (by exact rfl) (by exact rfl) (by exact rfl)]
   | rw [b6 (by exact rfl) (by exact rfl) (by exact rfl) (by exact rfl) (by exact rfl) (by exact rfl)]
   | fail)
 exact ai▸ae rfl (aD _)
theorem Zb {f f1 f2 f3 f4 f5 f6 f7:FuncId} (h:Has P f (zr f1 f2 f3 f4 f5 f6 f7)) (a b:Rat) (hm:VP P G f1 [QV a,QV b] (QV (a*b))):VP P G f [.nils,EV a,EV b] (EV (a*b)):=by
 refine VP.has h ?_
 simp only [zr]
 repeat (first
   | simp (disch:=first | decide | exact rfl) only [SS,DD,Nat.reduceAdd,decide_true,tC,aI,cA]
   | with_reducible refine ah (by assumption) (by simp [aA]) ?_
   | with_reducible refine ak (by assumption) (by simp [aA]) ?_
   | with_reducible refine And.intro (a:=ab _ _) (by simp [ab,apart]) ?_
   | with_reducible refine VW.aC 3 (VW.of ?_)
   | with_reducible refine bY.next _ (VW.of ?_)
   | rw [aj (by exact rfl) (by exact rfl) (by exact rfl) (by exact rfl) (by exact rfl)]
   | rw [bZ (by exact rfl) (by exact rfl) (by exact rfl) (by exact rfl)]
   | rw [b6 (by exact rfl) (by exact rfl) (by exact rfl) (by exact rfl) (by exact rfl) (by exact rfl)]
   | fail)
 refine ai▸⟨_,rfl,pW (by exact rfl)⟩
theorem Zc {f ff fm:FuncId} (h:Has P f (zt ff fm)) (a b:Rat) (hf:VP P G ff [.nils,EV a,EV b] (.bool true)) (hA:VP P G fm [.nils,EV a,EV b] (EV (a*b))):VP P G f [.nils,EV a,EV b] (EV (a*b)):=by
 refine VP.has h ?_
 simp only [zt]
 repeat (first
   | simp (disch:=first | decide | exact rfl) only [SS,Nat.reduceAdd]
   | with_reducible refine ah (by assumption) (by simp [aS,aD]) ?_
   | with_reducible refine ak (by assumption) (by simp [aS,aD]) ?_
   | with_reducible refine And.intro (a:=ab _ _) (by simp [ab,apart]) ?_
   | with_reducible refine VW.aC 3 (VW.of ?_)
   | with_reducible refine bY.next _ (VW.of ?_)
   | rw [aj (by exact rfl) (by exact rfl) (by exact rfl) (by exact rfl) (by exact rfl)]
   | rw [bZ (by exact rfl) (by exact rfl) (by exact rfl) (by exact rfl)]
   | rw [b6 (by exact rfl) (by exact rfl) (by exact rfl) (by exact rfl) (by exact rfl) (by exact rfl)]
   | fail)
 exact ai▸ae rfl (aD _)
theorem M5 {f f1 f2 f3 f4 f6 f7 f8:FuncId} (h:Has P f (qv f1 f2 f3 f4 f f6 f7 f8)) (a:Rat) (hi:VP P G f1 [.int .i64 1] (QV 1)) (hd:VP P G f2 [QV 1,QV a] (.tup [QV (1/a), .int .i64 0])) :
   VP P G f [.nils,EV a] (.tup [EV (1/a), .bool true]):=by
 refine VP.has h ?_
 simp only [qv]
 repeat (first
   | simp (disch:=first | decide | exact rfl) only [SS,DD,Nat.reduceAdd,ao,g0,g1,decide_true,tC,aI,cA,b8]
   | with_reducible refine ah (by assumption) (by simp [aA]) ?_
   | with_reducible refine ak (by assumption) (by simp [aA,aa.int]) ?_
   | with_reducible refine And.intro (a:=ab _ _) (by simp [ab,apart]) ?_
   | with_reducible refine VW.aC 3 (VW.of ?_)
   | with_reducible refine bY.next _ (VW.of ?_)
   | rw [aj (by exact rfl) (by exact rfl) (by exact rfl) (by exact rfl) (by exact rfl)]
   | rw [bZ (by exact rfl) (by exact rfl) (by exact rfl) (by exact rfl)]
   | rw [b6 (by exact rfl) (by exact rfl) (by exact rfl) (by exact rfl) (by exact rfl) (by exact rfl)]
   | fail)
 refine ai▸⟨_,rfl,View.tup (.cons (pW (by exact rfl)) (.cons (View.pure (aa.bool _)) .nil))⟩
theorem Zd {f ff fi:FuncId} (h:Has P f (zu ff fi)) (a:Rat) (hf:VP P G ff [.nils,EV a] (.bool true)) (hi:VP P G fi [.nils,EV a] (.tup [EV (1/a), .bool true])) :
   VP P G f [.nils,EV a] (.tup [EV (1/a), .int .i64 0]):=by
 refine VP.has h ?_
 simp only [zu]
 repeat (first
   | simp (disch:=first | decide | exact rfl) only [SS,Nat.reduceAdd,g0,g1]
   | with_reducible refine ah (by assumption) (by simp [aS,aD]) ?_
   | with_reducible refine ak (by assumption) (by simp [aS,aD]) ?_
   | with_reducible refine And.intro (a:=ab _ _) (by simp [ab,apart]) ?_
   | with_reducible refine VW.aC 3 (VW.of ?_)
   | with_reducible refine bY.next _ (VW.of ?_)
   | rw [aj (by exact rfl) (by exact rfl) (by exact rfl) (by exact rfl) (by exact rfl)]
   | rw [bZ (by exact rfl) (by exact rfl) (by exact rfl) (by exact rfl)]
   | rw [b6 (by exact rfl) (by exact rfl) (by exact rfl) (by exact rfl) (by exact rfl) (by exact rfl)]
   | fail)
 exact ai▸ae rfl (aa.tup (by simp [aD,aa.int]))
theorem O2 {f fc:FuncId} (h:Has P f (pF fc)) (q:Rat) (h1:VP P G fc [W q.num.natAbs] (W q.num.natAbs)) (h2:VP P G fc [W q.den] (W q.den)):VP P G f [QV q] (QV q):=by
 refine VP.has h ?_
 simp only [pF]
 repeat (first
   | simp (disch:=first | decide | exact rfl) only [SS,DD,Nat.reduceAdd,aq,ao,fH,cA,Bi,afE,b8]
   | with_reducible refine ah (by assumption) (by simp [aB]) ?_
   | with_reducible refine ak (by assumption) (by simp [aB]) ?_
   | with_reducible refine And.intro (a:=ab _ _) (by simp [ab,apart]) ?_
   | with_reducible refine VW.aC 3 (VW.of ?_)
   | with_reducible refine bY.next _ (VW.of ?_)
   | rw [aj (by exact rfl) (by exact rfl) (by exact rfl) (by exact rfl) (by exact rfl)]
   | rw [bZ (by exact rfl) (by exact rfl) (by exact rfl) (by exact rfl)]
   | rw [b6 (by exact rfl) (by exact rfl) (by exact rfl) (by exact rfl) (by exact rfl) (by exact rfl)]
   | rw [VZ (by exact rfl)]
   | rw [V0 (by exact rfl)]
   | fail)
 refine ai▸ae (r:=QV q) ?_ (aA _)
 simp only [RS,aX,a9,ao,cA]
theorem O3 {f fc:FuncId} (h:Has P f (pG fc)) (q:Rat) (hc:VP P G fc [QV q] (QV q)):VP P G f [QV q] (NV q):=by
 refine VP.has h ?_
 simp only [pG]
 repeat (first
   | simp (disch:=first | decide | exact rfl) only [SS,Nat.reduceAdd,aq,ao,fH,cA,bU,Q8]
   | with_reducible refine ah (by assumption) (by simp [aA]) ?_
   | with_reducible refine ak (by assumption) (by simp [aA]) ?_
   | with_reducible refine And.intro (a:=ab _ _) (by simp [ab,apart]) ?_
   | with_reducible refine VW.aC 3 (VW.of ?_)
   | with_reducible refine bY.next _ (VW.of ?_)
   | rw [aj (by exact rfl) (by exact rfl) (by exact rfl) (by exact rfl) (by exact rfl)]
   | rw [bZ (by exact rfl) (by exact rfl) (by exact rfl) (by exact rfl)]
   | rw [b6 (by exact rfl) (by exact rfl) (by exact rfl) (by exact rfl) (by exact rfl) (by exact rfl)]
   | fail)
 refine ai▸⟨.agg [.nils, .osl [4] 4 0 1 false], ?_,VY (by exact rfl)⟩
 simp only [RS,aX,a9,ao]
 rfl
theorem M6 {f ff fi:FuncId} (h:Has P f (pI fi ff)) (a:Int) (hi:VP P G fi [.int .i64 a] (QV a)) (hf:VP P G ff [QV a] (NV a)):VP P G f [.int .i64 a] (NV a):=by
 refine VP.has h ?_
 simp only [pI]
 repeat (first
   | simp (disch:=first | decide | exact rfl) only [SS,Nat.reduceAdd,bU]
   | with_reducible refine ah (by assumption) (by simp [aA,aa.int]) ?_
   | with_reducible refine ak (by assumption) (by simp [aA]) ?_
   | with_reducible refine And.intro (a:=ab _ _) (by simp [ab,apart]) ?_
   | with_reducible refine VW.aC 3 (VW.of ?_)
   | with_reducible refine bY.next _ (VW.of ?_)
   | rw [aj (by exact rfl) (by exact rfl) (by exact rfl) (by exact rfl) (by exact rfl)]
   | rw [bZ (by exact rfl) (by exact rfl) (by exact rfl) (by exact rfl)]
   | rw [b6 (by exact rfl) (by exact rfl) (by exact rfl) (by exact rfl) (by exact rfl) (by exact rfl)]
   | fail)
 refine ai▸ae (r:=NV a) ?_ (aF _)
 simp only [RS,aX,a9,ao,cB]
theorem Fk {f fc:FuncId} (h:Has P f (oU fc)) (q:Rat) (hc:VP P G fc [QV q] (QV q)):VP P G f [EV q] (EV q):=by
 refine VP.has h ?_
 simp only [oU]
 repeat (first
   | simp (disch:=first | decide | exact rfl) only [SS,Nat.reduceAdd,ao,aP,ZZ,uQ,tC,aI,cA,b8,KR,M0]
   | with_reducible refine ah (by assumption) (by simp [aA]) ?_
   | with_reducible refine ak (by assumption) (by simp [aA]) ?_
   | with_reducible refine And.intro (a:=ab _ _) (by simp [ab,apart]) ?_
   | with_reducible refine VW.aC 3 (VW.of ?_)
   | with_reducible refine bY.next _ (VW.of ?_)
   | rw [aj (by exact rfl) (by exact rfl) (by exact rfl) (by exact rfl) (by exact rfl)]
   | rw [bZ (by exact rfl) (by exact rfl) (by exact rfl) (by exact rfl)]
   | rw [b6 (by exact rfl) (by exact rfl) (by exact rfl) (by exact rfl) (by exact rfl) (by exact rfl)]
   | fail)
 refine ai▸⟨_,rfl,pW (by exact rfl)⟩
theorem SX {f fc:FuncId} (h:Has P f (nF fc)) (q:Rat) (hc:VP P G fc [EV q] (EV q)):VP P G f [NV q] (NV q):=by
 refine VP.has h ?_
 simp only [nF]
 repeat (first
   | simp (disch:=first | decide | exact rfl) only [SS,Nat.reduceAdd,aq,ao,aP,ZZ,g8,tD,wq,cB,JS,bU,Y7]
   | with_reducible refine ah (by assumption) (by simp [aD]) ?_
   | with_reducible refine ak (by assumption) (by simp [aD]) ?_
   | with_reducible refine And.intro (a:=ab _ _) (by simp [ab,apart]) ?_
   | with_reducible refine VW.aC 3 (VW.of ?_)
   | with_reducible refine bY.next _ (VW.of ?_)
   | rw [aj (by exact rfl) (by exact rfl) (by exact rfl) (by exact rfl) (by exact rfl)]
   | rw [bZ (by exact rfl) (by exact rfl) (by exact rfl) (by exact rfl)]
   | rw [b6 (by exact rfl) (by exact rfl) (by exact rfl) (by exact rfl) (by exact rfl) (by exact rfl)]
   | fail)
 refine ai▸ae (r:=NV q) ?_ (aF _)
 simp only [RS,aX,a9,ao,cB]
theorem V1 {f fc:FuncId} (h:Has P f (ke fc)) (a b:Rat) (hc:VP P G fc [QV a,QV b] (.int .i64 (OU a b))):VP P G f [QV a,QV b] (.bool (decide (a=b))):=by
 have e:decide (OU a b=0)=decide (a=b):=by congr 1;exact propext SN
 refine VP.has h ?_
 simp only [ke]
 repeat (first
   | simp (disch:=first | decide | exact rfl) only [SS,Nat.reduceAdd,aq,ao,fH,cA,e]
   | with_reducible refine ah (by assumption) (by simp [aA]) ?_
   | with_reducible refine ak (by assumption) (by simp [aA]) ?_
   | with_reducible refine And.intro (a:=ab _ _) (by simp [ab,apart]) ?_
   | with_reducible refine VW.aC 3 (VW.of ?_)
   | with_reducible refine bY.next _ (VW.of ?_)
   | rw [aj (by exact rfl) (by exact rfl) (by exact rfl) (by exact rfl) (by exact rfl)]
   | rw [bZ (by exact rfl) (by exact rfl) (by exact rfl) (by exact rfl)]
   | rw [b6 (by exact rfl) (by exact rfl) (by exact rfl) (by exact rfl) (by exact rfl) (by exact rfl)]
   | fail)
 exact ai▸ae rfl (aa.bool _)
theorem Ze {f fe f1:FuncId} (h:Has P f (l6 fe f1)) (a b:Rat) {x:Bool} (he:VP P G fe [EV a,EV b, .fn (.func f1) [] []] (.bool x)):VP P G f [EV a,EV b] (.bool x):=by
 refine VP.has h ?_
 simp only [l6]
 repeat (first
   | simp (disch:=first | decide | exact rfl) only [SS,Nat.reduceAdd]
   | with_reducible refine ah (by assumption) (by simp [aD,cg]) ?_
   | with_reducible refine ak (by assumption) (by simp [aD,cg]) ?_
   | with_reducible refine And.intro (a:=ab _ _) (by simp [ab,apart]) ?_
   | with_reducible refine VW.aC 3 (VW.of ?_)
   | with_reducible refine bY.next _ (VW.of ?_)
   | rw [aj (by exact rfl) (by exact rfl) (by exact rfl) (by exact rfl) (by exact rfl)]
   | rw [bZ (by exact rfl) (by exact rfl) (by exact rfl) (by exact rfl)]
   | rw [b6 (by exact rfl) (by exact rfl) (by exact rfl) (by exact rfl) (by exact rfl) (by exact rfl)]
   | fail)
 exact ai▸ae rfl (aa.bool _)
theorem Zf {f f1:FuncId} (h:Has P f cd) (a b:Rat) (h1:VP P G f1 [QV a,QV b] (.bool (decide (a=b)))):VP P G f [EV a,EV b, .fn (.func f1) [] []] (.bool (decide (a=b))):=by
 refine VP.has h ?_
 simp only [cd]
 by_cases FV:a=b
 . have d:decide (a=b)=true:=ay FV
   rw [d] at h1 ⊢
   repeat (first
     | simp (disch:=first | decide | exact rfl) only [SS,Nat.reduceAdd,aq,ao,aP,ZZ,uQ,tC,aI,cA,b8]
     | with_reducible refine ah (by assumption) (by simp [aA]) ?_
     | with_reducible refine ak (by assumption) (by simp [aA]) ?_
     | with_reducible refine And.intro (a:=ab _ _) (by simp [ab,apart]) ?_
     | with_reducible refine VW.aC 3 (VW.of ?_)
     | with_reducible refine bY.next _ (VW.of ?_)
     | rw [aj (by exact rfl) (by exact rfl) (by exact rfl) (by exact rfl) (by exact rfl)]
     | rw [bZ (by exact rfl) (by exact rfl) (by exact rfl) (by exact rfl)]
     | rw [b6 (by exact rfl) (by exact rfl) (by exact rfl) (by exact rfl) (by exact rfl) (by exact rfl)]
     | fail)
   exact ai▸ae rfl (aa.bool _)
 . have d:decide (a=b)=false:=au FV
   rw [d] at h1 ⊢
   repeat (first
     | simp (disch:=first | decide | exact rfl) only [SS,Nat.reduceAdd,aq,ao,aP,ZZ,uQ,tC,aI,cA,b8]
     | with_reducible refine ah (by assumption) (by simp [aA]) ?_
     | with_reducible refine ak (by assumption) (by simp [aA]) ?_
     | with_reducible refine And.intro (a:=ab _ _) (by simp [ab,apart]) ?_
     | with_reducible refine VW.aC 3 (VW.of ?_)
     | with_reducible refine bY.next _ (VW.of ?_)
     | rw [aj (by exact rfl) (by exact rfl) (by exact rfl) (by exact rfl) (by exact rfl)]
     | rw [bZ (by exact rfl) (by exact rfl) (by exact rfl) (by exact rfl)]
     | rw [b6 (by exact rfl) (by exact rfl) (by exact rfl) (by exact rfl) (by exact rfl) (by exact rfl)]
     | fail)
   exact ai▸ae rfl (aa.bool _)
theorem Zg {f f1:FuncId} (h:Has P f bT):VP P G f [.nils, .nils, .fn (.func f1) [] []] (.bool true):=by
 refine VP.has h ?_
 simp only [bT]
 repeat (first
   | simp (disch:=first | decide | exact rfl) only [SS,Nat.reduceAdd,aP,ZZ]
   | with_reducible refine ah (by assumption) (by simp [aw,aB,aA,aa.int,aa.bool,aa.str,aS,aD,aF,cg]) ?_
   | with_reducible refine ak (by assumption) (by simp [aw,aB,aA,aa.int,aa.bool,aa.str,aS,aD,aF,cg]) ?_
   | with_reducible refine And.intro (a:=ab _ _) (by simp [ab,apart]) ?_
   | with_reducible refine VW.aC 3 (VW.of ?_)
   | with_reducible refine bY.next _ (VW.of ?_)
   | rw [aj (by exact rfl) (by exact rfl) (by exact rfl) (by exact rfl) (by exact rfl)]
   | rw [bZ (by exact rfl) (by exact rfl) (by exact rfl) (by exact rfl)]
   | rw [b6 (by exact rfl) (by exact rfl) (by exact rfl) (by exact rfl) (by exact rfl) (by exact rfl)]
   | fail)
 exact ai▸ae rfl (aa.bool _)
theorem SY {f fe f1:FuncId} (h:Has P f (qx fe f1)) (he:VP P G fe [.nils, .nils, .fn (.func f1) [] []] (.bool true)):VP P G f [.nils, .nils] (.bool true):=by
 refine VP.has h ?_
 simp only [qx]
 repeat (first
   | simp (disch:=first | decide | exact rfl) only [SS,Nat.reduceAdd,ZZ,Fi]
   | with_reducible refine ah (by assumption) (by simp [aS,cg]) ?_
   | with_reducible refine ak (by assumption) (by simp [aS,cg]) ?_
   | with_reducible refine And.intro (a:=ab _ _) (by simp [ab,apart]) ?_
   | with_reducible refine VW.aC 3 (VW.of ?_)
   | with_reducible refine bY.next _ (VW.of ?_)
   | rw [aj (by exact rfl) (by exact rfl) (by exact rfl) (by exact rfl) (by exact rfl)]
   | rw [bZ (by exact rfl) (by exact rfl) (by exact rfl) (by exact rfl)]
   | rw [b6 (by exact rfl) (by exact rfl) (by exact rfl) (by exact rfl) (by exact rfl) (by exact rfl)]
   | fail)
 exact ai▸ae rfl (aa.bool _)
end
end Go.VL
end
