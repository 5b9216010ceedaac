/- For the claim of FeatureOffset: parts CR8, CR9, CR10, DT, OUW, RQ, CH2, CF8, CH3, CF12, CG1, VL36, CN1, CQ1, CN2, CN3, CQ2. -/
import Derived.Test.YtndoagbiakehnaaGreatC07
import Derived.Lib.ItoaNum
import Derived.Test.YtndoagbiakehnaaGreatC05
import Derived.Test.YtndoagbiakehnaaGreatC03
import Derived.Lib.IndexMore
import Derived.Sort.KeysCollected
import Derived.Sort.Walk0
import Derived.Lib.SlicesCompact
import Derived.Test.YtndoagbiakehnaaGreatC04
set_option linter.unusedSimpArgs false
set_option linter.unusedVariables false
section
set_option linter.unusedVariables false
namespace Go.VL
theorem ZU {k r j y:Nat} (h:(pad (k+1) r)[j]? = some y) (hr:r<ay ^ (k+1)):y=(if j<aa r then ((digits r)[j]?).getD 0 else 0):=by
 obtain ⟨z,hz⟩:=trimmed (pad (k+1) r) (mM _ _)
 rw [cH hr] at hz
 rw [hz] at h
 by_cases hj:j<aa r
 . rw [if_pos hj]
   rw [List.getElem?_append_left (show j<(digits r).length from hj)] at h
   rw [h];rfl
 . rw [if_neg hj]
   rw [List.getElem?_append_right (show (digits r).length<=j from by show aa r<=j;omega)] at h
   exact List.eq_of_mem_replicate (List.mem_of_getElem? h)
theorem WQ {a p b t:List Nat} {k j w:Nat} (hp:p.length=k) (hb:b.length=k) (hj:j<k):(a++(p.take j++b.drop j)++t).set (a.length+j) w=a++(p.take j++w::b.drop (j+1))++t:=by
 have h1:(p.take j).length=j:=by rw [List.length_take];omega
 obtain ⟨x,hx⟩:∃ x,b.drop j=x::b.drop (j+1):=⟨_,List.drop_eq_getElem_cons (show j<b.length by omega)⟩
 rw [hx,List.append_assoc,List.set_append_right _ _ (by omega),show a.length+j-a.length=j from by omega,List.append_assoc,List.set_append_right _ _ (by omega),h1,Nat.sub_self]
 simp
theorem TZ {a p b t:List Nat} {k j v w:Nat} (hp:p.length=k) (hj:j<k):(a++(p.take j++v::b)++t).set (a.length+j) w=a++(p.take j++w::b)++t:=by
 have h1:(p.take j).length=j:=by rw [List.length_take];omega
 rw [List.append_assoc,List.set_append_right _ _ (by omega),show a.length+j-a.length=j from by omega,List.append_assoc,List.set_append_right _ _ (by omega),h1,Nat.sub_self]
 simp
section
variable {P:Program} {G:Nat->Option (List AV)}
set_option maxRecDepth 100000 in
set_option maxHeartbeats 4000000 in
theorem P1 {f fc fsh fw fby fl fsd ft fdg fmi fbk ftm:FuncId} (h:Has P f (jX fc fsh fw fby fl fsd ft fdg fmi fbk))
   (hc:∀ m n,aa m<=1000000->aa n<=1000000->VP P G fc [W m,W n] (.int .i64 (eM m n)))
   (htu:∀ n,n<18446744073709551616->VP P G fsh [W n] (.int .u64 ((n:Nat):Int))) (hu:∀ n,n<18446744073709551616->VP P G fw [.int .u64 ((n:Nat):Int)] (W n))
   (hby:∀ m w:Nat,aa m<=1000000->w<ay->w≠0->VP P G fby [W m, .int .u32 (w:Int)] (.tup [W (m/w), .int .u32 ((m%w:Nat):Int)]))
   (hlen:Has P fl fC) (hsd:Has P fsd gH) (ht:ja P G ft) (TQ:Has P ft gQ)
   (hdg:Has P fdg (iu ftm ft fc fmi)) (F0:∀ (m:Nat) (ws:List Nat),Wd ws->aa m<=1000000->ws.length<=1000000->VP P G ftm [W m, .sl 1 (us ws)] (W (m*val ws)))
   (UY:Has P fmi (eD ft)) (Pv:∀ m s:Nat,aa m<=1000000->s<=31->VP P G fbk [W m, .int .i64 (s:Int)] (W (m/2 ^ s)))
   (m n:Nat) (Gv:n≠0) (hm:aa m<=900000) (hn:aa n<=900000):VP P G f [W m,W n] (.tup [W (m/n),W (m%n)]):=by
 refine VP.has h ?_
 have adY:=hc m n (by omega) (by omega)
 have TD:m/n=0->∀ σ,View σ .nils (W (m/n)):=fun h σ => by rw [h];simp only [W,bo,us];exact View.nils 1
 have adZ:m<n->m/n=0/\m%n=m:=fun h=>⟨Nat.div_eq_of_lt h,Nat.mod_eq_of_lt h⟩
 have c1:m<n->decide (eM m n<0)=true:=fun h=>aw (by simp only [eM,iF];rw [if_pos (by omega)];decide)
 have c2 : ¬ m<n->decide (eM m n<0)=false:=fun h=>ak (by simp only [eM,iF];rw [if_neg (by omega)];split<;>decide)
 have l1:aa m<=2->decide ((aa m:Int)<=2)=true:=fun h=>aw (by omega)
 have l2 : ¬ aa m<=2->decide ((aa m:Int)<=2)=false:=fun h=>ak (by omega)
 have b1:aa n=1->decide ((aa n:Int)=1)=true:=fun h=>aw (by omega)
 simp only [jX,SS,Nat.reduceAdd]
 refine ah adY (by simp [aC]) ?_
 by_cases h1:m<n
 . simp only [SS,Nat.reduceAdd,c1 h1]
   obtain ⟨e1,e2⟩:=adZ h1
   refine ai▸⟨.tup [.nils,W m],rfl,View.tup (az.cons (TD e1 _) (az.cons ?_ az.nil))⟩
   rw [e2];exact View.pure (aC _)
 have zH:n<=m:=by omega
 have hwn:aa n≠0:=fun e=>Gv (cg.1 e)
 by_cases h2:aa m<=2
 . have BI:=uy h2
   have Y7:n<18446744073709551616:=by omega
   have hq:=Kg m n BI Gv
   have hr:=Kh m n Gv
   have hu1:=hu (m/n) (Nat.lt_of_le_of_lt (Nat.div_le_self _ _) BI)
   have hu2:=hu (m%n) (Nat.lt_of_le_of_lt (Nat.mod_le _ _) BI)
   simp only [SS,Nat.reduceAdd,c2 h1,bb,l1 h2]
   refine ah (htu m BI) (by simp [aC]) ?_
   simp only [SS,Nat.reduceAdd]
   refine ah (htu n Y7) (by simp [aC]) ?_
   simp only [SS,DD,Nat.reduceAdd,hq]
   refine ao hu1 (by simp [ab.int]) ?_
   simp only [SS,DD,Nat.reduceAdd,hr]
   refine ao hu2 (by simp [ab.int]) ?_
   simp only [SS,DD,Nat.reduceAdd]
   refine ⟨by simp [ag,apart], ?_⟩
   exact ai▸af rfl (ab.tup (by intro c hc;simp at hc;rcases hc with rfl | rfl<;>exact aC _))
 by_cases h3:aa n=1
 . obtain ⟨x,hx⟩:∃ x,(digits n)[0]? = some x:=⟨_,List.getElem?_eq_getElem (by show 0<aa n;omega)⟩
   have hxn:x=n:=by
     have e:=aG hx
     rw [List.take_of_length_le (show (digits n).length<=1 from by show aa n<=1;omega),aI] at e
     simp [val] at e;omega
   have hg:=dx hx
   rw [hxn] at hg
   have hnB:n<ay:=by rw [<- hxn];exact aQ n x (List.mem_of_getElem? hx)
   have YM:=hby m n (by omega) hnB Gv
   have Pq:bK 1 (W n) (.int .i64 0)=some (.ep (AV.int .u32 (n:Int)).cells 0):=hg
   have hmB:m%n<ay:=Nat.lt_trans (Nat.mod_lt _ (Nat.pos_of_ne_zero Gv)) hnB
   have f9:=bj (m%n) hmB
   have hu9:=hu (m%n) (by unfold ay at hmB;omega)
   simp only [SS,Nat.reduceAdd,c2 h1,bb,l2 h2,b1 h3,Pq,aK,bp]
   refine ah YM (by simp [aC,ab.int]) ?_
   simp only [SS,Nat.reduceAdd,CQ,CR,f9]
   refine ah hu9 (by simp [ab.int]) ?_
   simp only [SS,Nat.reduceAdd]
   exact ai▸af rfl (ab.tup (by intro c hc;simp at hc;rcases hc with rfl | rfl<;>exact aC _))
 obtain ⟨k,hk⟩:∃ k,aa n=k+2:=⟨aa n-2,by omega⟩
 obtain ⟨x,hx⟩:∃ x,(digits n)[k+1]? = some x:=⟨_,List.getElem?_eq_getElem (by show k+1<aa n;omega)⟩
 obtain ⟨NA,hxB,hV,hwV,hs⟩:=D0 hk hx
 obtain ⟨aqU,aqV⟩:=R7 hxB NA
 have ahH:=Ia (G:=G) hlen hk hx (by omega)
 generalize aqW:32-gg x=s at hV hwV hs
 have m1:IntKind.i64.wrap (32*((k+2:Nat):Int))=((32*(k+2):Nat):Int):=by rw [IntKind.wrap_i64];omega
 have m2:IntKind.i64.wrap (((32*(k+2):Nat):Int)-((32*(k+1)+gg x:Nat):Int))=(s:Int):=by rw [IntKind.wrap_i64];omega
 obtain ⟨V,TP⟩:∃ V,V=n*2 ^ s:=⟨_,rfl⟩
 obtain ⟨U,ZL⟩:∃ U,U=m*2 ^ s:=⟨_,rfl⟩
 rw [<- TP] at hV hwV
 have PW:=Ib (G:=G) hsd m s (by omega) hs
 have PX:=Ib (G:=G) hsd n s (by omega) hs
 rw [<- TP] at PX
 rw [<- ZL] at PW
 obtain ⟨L,hL⟩:∃ L,aa m+1=L+(k+2):=⟨aa m+1-(k+2),by have:=bg zH;omega⟩
 have hUB:U<ay ^ (aa m+1):=by
   have h4:2 ^ s<=2 ^ 32:=Nat.pow_le_pow_right (by decide) (by omega)
   have h5:m*2 ^ s<=m*2 ^ 32:=Nat.mul_le_mul_left _ h4
   have h6:m*2 ^ 32<ay ^ aa m*2 ^ 32:=Nat.mul_lt_mul_of_pos_right (de m) (by decide)
   rw [Nat.pow_succ,ZL];exact Nat.lt_of_le_of_lt h5 h6
 obtain ⟨A0,R0,hAR,hA0,hR0⟩:∃ A R,pad (aa m+1) U=A++R++[]/\A.length=L/\R.length=k+2 :=
   ⟨(pad (aa m+1) U).take L,(pad (aa m+1) U).drop L,by simp,by simp [dR];omega,by simp [dR];omega⟩
 have hAw:Wd A0/\Wd R0:=by
   have h4:=mM (aa m+1) U
   rw [hAR] at h4
   exact ⟨fun w hw=>h4 w (by simp [hw]),fun w hw=>h4 w (by simp [hw])⟩
 have hU0:U=val A0+ay ^ L*val R0:=by
   have h4:=cH hUB
   rw [hAR,List.append_nil,bO,hA0] at h4
   exact h4.symm
 have WB:val R0<V:=NT (k:=k+2) TP (by have:=uw Gv;rw [hk] at this;exact this) (by
   have h4:=de m
   have:L+(k+2-1)=aa m:=by omega
   rw [this];exact h4) (ZL▸hU0)
 have H7:aa V=k+2:=hwV
 have YN:0<V:=Nat.lt_of_le_of_lt (Nat.zero_le _) WB
 have MA:IntKind.i64.wrap (((aa m:Nat):Int)-((k+2:Nat):Int))=(L:Int)-1:=by rw [IntKind.wrap_i64];omega
 have tp:∀ p:Id,jJ p 1 4 (.int .u32 0) (.int .i64 ((aa m:Nat):Int)) (.int .i64 ((aa m:Nat):Int))=some { val := .osl p 1 0 (aa m) false,up:=[(p,some ⟨us (List.replicate (aa m) 0),1,false⟩)] }:=fun p=>lJ (by omega)
 rw [hAR] at PW
 rw [hk] at PX
 have b3:decide (((k+2:Nat):Int)=1)=false:=ak (by omega)
 have UX:V<ay ^ (k+2+1):=Nat.lt_of_lt_of_le hV (Nat.pow_le_pow_right bZ (by omega))
 have WD:VP P G ft [.sl 1 (us (pad (k+2+1) V))] (W V):=by
   have:=ht (pad (k+2+1) V) (mM _ _) (by rw [dR];omega)
   rwa [cH UX] at this
 simp only [SS,Nat.reduceAdd,c2 h1,bb,l2 h2,b3,hk,m1]
 refine ah ahH (by simp [aC]) ?_
 simp only [SS,Nat.reduceAdd,m2]
 refine ⟨[],_,PW _,by simp,by simp, ?_⟩
 simp only [SS,Nat.reduceAdd]
 refine ⟨[],_,PX _,by simp,by simp, ?_⟩
 simp only [SS,Nat.reduceAdd]
 refine cA [([4,24],⟨us (pad (k+2+1) V),1,false⟩)] WD (az.cons (iH (dR _ _).symm) az.nil) (by simp [ae.put]) ?_
 simp only [SS,Nat.reduceAdd,bb,H7,tp,MA,aY]
 refine VW.e9 (α := Nat × List Nat × List Nat × Nat × List Nat × Nat) (fun x=>⟨List.replicate 10 .top++[.int .i64 (s:Int), .osl [4,21] 1 0 (aa m+1) false,W V, .osl [30] 1 0 (aa m) false, .int .i64 ((x.1:Int)-1)]++List.replicate 113 .top,
   ae.put (ae.put (fun _=>none) [4,21] (some ⟨us (x.2.1++x.2.2.1++zs x.2.2.2.1),1,false⟩)) [30] (some ⟨us (zs x.1++(x.2.2.2.2.1++zs (k+1))),1,false⟩),x.2.2.2.2.2⟩)
   (fun x=>x.1+x.2.2.2.2.1.length=L/\x.2.1.length=x.1/\x.2.2.1.length=k+2/\x.1+(k+2)+x.2.2.2.1=aa m+1/\Wd x.2.1/\Wd x.2.2.1/\Wd x.2.2.2.2.1/\val x.2.2.1<V/\U=val x.2.1+ay ^ x.1*(val x.2.2.2.2.1*V+val x.2.2.1)/\1000<=x.2.2.2.2.2) (fun x=>x.1) (L,A0,R0,0,[],1000) ?_ ?_ ?_
 . refine Wk.forget (by simp [Fg,List.replicate]) (fun j => ?_) (by simp only [];omega)
   have hLk:zs (aa m)=zs L++([]++zs (k+1)):=by
     simp only [zs,List.nil_append,List.replicate_append_replicate];congr 1;omega
   simp only [List.append_nil,ae.put,ae.app,FC,List.map_cons,List.map_nil, <- hLk,yg]
   by_cases e1:j=[30]
   . subst e1;simp [zs]
   . by_cases e2:j=[4,21]
     . subst e2;simp
     . simp [e1,e2]
 . refine ⟨by simp,hA0,hR0,by simp only [];omega,hAw.1,hAw.2,by intro w hw;simp at hw,WB, ?_,Nat.le_refl _⟩
   show U=val A0+ay ^ L*(val []*V+val R0)
   rw [show val []=0 from rfl,Nat.zero_mul,Nat.zero_add];exact hU0
 rintro ⟨c,A,R,tl,o,nn⟩ ⟨hcc,hA,hR,htl,hAW,hRW,hoW,UW,hUe,YJ⟩
 simp only [] at hcc hA hR htl hAW hRW hoW UW hUe YJ
 rcases Nat.eq_zero_or_pos c with h0 | hcp
 . subst h0
   have d0:decide ((0:Int)<=((0:Nat):Int)-1)=false:=by decide
   obtain rfl:A=[]:=List.length_eq_zero_iff.1 hA
   have hU':m*2 ^ s=val o*(n*2 ^ s)+val R:=by
     rw [<- ZL, <- TP,hUe]
     show val []+ay ^ 0*_=_
     simp [val]
   obtain ⟨g1,g2,g3⟩:=R8 Gv hU' (TP▸UW)
   have hoL:aa m=(o++zs (k+1)).length:=by simp [zs];omega
   have htq:=ht (o++zs (k+1)) (c9 hoW (ab3 _)) (by omega)
   rw [show val (o++zs (k+1))=val o from RT o (k+1),g1] at htq
   have hRl:aa m+1=(R++zs tl).length:=by simp [zs];omega
   have htR:=ht (R++zs tl) (c9 hRW (ab3 _)) (by omega)
   rw [show val (R++zs tl)=val R from RT R tl] at htR
   have hwR:aa (val R)<=1000000:=by rw [<- TP,H7] at g3;omega
   have ahI:=Pv (val R) s hwR hs
   rw [g2] at ahI
   simp only [SS,Nat.reduceAdd,d0,yg]
   refine cA [([30],⟨us (o++zs (k+1)),1,false⟩)] htq (az.cons (iH hoL) az.nil) (by simp [ae.put]) ?_
   simp only [SS,Nat.reduceAdd]
   refine cA [([4,21],⟨us (R++zs tl),1,false⟩)] htR (az.cons (iH hRl) az.nil) (by simp [ae.put,ae.app,FC]) ?_
   simp only [SS,Nat.reduceAdd]
   refine ah ahI (by simp [aC,ab.int]) ?_
   simp only [SS,Nat.reduceAdd]
   exact ai▸af rfl (ab.tup (by intro c hc;simp at hc;rcases hc with rfl | rfl<;>exact aC _))
 obtain ⟨i,rfl⟩:∃ i,c=i+1:=⟨c-1,by omega⟩
 have d0:decide ((0:Int)<=(i:Int))=true:=aw (by omega)
 have hj:((i+1:Nat):Int)-1=(i:Int):=by omega
 have Zu:IntKind.i64.wrap ((i:Int)-1)=(i:Int)-1:=by rw [IntKind.wrap_i64];omega
 obtain ⟨A',y,rfl,hA'⟩:=yj hA
 obtain ⟨b,Gw⟩:∃ b,b=y::R:=⟨_,rfl⟩
 have eb:A'++[y]++R++zs tl=A'++b++zs tl:=by rw [Gw];simp
 have hyB:y<ay:=hAW y (by simp)
 have aeb:Wd A':=fun w hw=>hAW w (by simp [hw])
 have B2:b.length=k+3:=by rw [Gw];simp [hR]
 have Mp:Wd b:=by
   intro w hw;rw [Gw] at hw
   rcases List.mem_cons.1 hw with rfl | hw
   . exact hyB
   . exact hRW w hw
 have hbv:val b=y+ay*val R:=by rw [Gw];rfl
 obtain ⟨hDV,YO⟩:=ahp hyB UW
 rw [<- hbv] at hDV YO
 have a1:=lU i (k+2) (by omega)
 have a4:IntKind.i64.wrap (((i+(k+2):Nat):Int)+1)=((i+(k+3):Nat):Int):=by rw [IntKind.wrap_i64];omega
 have iaq:=b7 (q:=[30]) (t:=false) (show i<aa m by omega)
 have NW:gh 1 (.osl [4,21] 1 0 (aa m+1) false) (some (.int .i64 (i:Int))) (some (.int .i64 ((i+(k+3):Nat):Int))) none=some (.osl [4,21] 1 A'.length (k+3) false):=by
   rw [Kl (by omega) (by omega),hA']
   congr 2;omega
 have qg:∀ j,1000<=j->∀ x,([4,21]:List Nat)≠x::[j]:=fun j h x e=>by simp at e;omega
 have al3:∀ j,1000<=j->_:=fun j hj=>TY (G:=G) hdg F0 TQ hc (fun m n h1 h2=>Kn UY ht m n h1 h2) (id:=[4,21]) (a:=A') (b:=b) (t:=zs tl) H7 B2 Mp hDV (by omega) [j] (qg j hj)
 have ahJ:=N4 (G:=G) TQ (id:=[4,21]) (a:=A') (b:=b) (t:=zs tl) Mp (by omega)
 rw [B2] at ahJ
 obtain ⟨z,hz⟩:=trimmed b Mp
 have he:A'++b++zs tl=A'++digits (val b)++(zs z++zs tl):=by
   conv=>lhs;rw [hz]
   simp
 have Km:val b%V<V:=Nat.mod_lt _ YN
 have ahK:val b-V*(val b/V)=val b%V:=by have:=Nat.div_add_mod (val b) V;omega
 have UT:aa (val b)<=1000000:=by
   have h1:=eF Mp
   rw [B2] at h1
   have:=dH h1;omega
 have ahL:∀ j,1000<=j->_:=fun j hj=>TX (G:=G) UY ht (id:=[4,21]) (a:=A') (t:=zs z++zs tl) (val b) (V*(val b/V)) (Nat.mul_div_le _ _) UT [j] (qg j hj)
 rw [ahK, <- he] at ahL
 have hqL:i<(zs (i+1)++(o++zs (k+1))).length:=by simp [zs];omega
 rw [eb]
 simp only [SS,Nat.reduceAdd,hj,d0,bb,H7,a1,a4,NW]
 refine ⟨[([4,21],⟨us (A'++b++zs tl),1,false⟩)],_,al3 _ (by omega),by simp [ae.put],by simp, ?_⟩
 simp only [SS,Nat.reduceAdd,CQ,CR,iaq]
 rw [bV (o:=zs (i+1)++(o++zs (k+1))) (by simp [ae.put]) hqL,A6]
 simp only [SS,Nat.reduceAdd]
 refine ⟨[([4,21],⟨us (A'++b++zs tl),1,false⟩)],_,ahJ _,by simp [ae.put],by simp, ?_⟩
 simp only [SS,Nat.reduceAdd]
 refine ⟨[([4,21],⟨us (A'++b++zs tl),1,false⟩)],_,ahL _ (by omega),by simp [ae.put],by simp, ?_⟩
 simp only [SS,Nat.reduceAdd,aY]
 obtain ⟨r,hr⟩:∃ r,r=val b%V:=⟨_,rfl⟩
 rw [<- hr] at Km ⊢
 have NH:r<ay ^ (k+2):=Nat.lt_trans Km hV
 have al4:r<ay ^ (k+2+1):=Nat.lt_of_lt_of_le NH (Nat.pow_le_pow_right bZ (by omega))
 obtain ⟨pd,hpd⟩:∃ pd,pd=pad (k+2+1) r:=⟨_,rfl⟩
 have WR:pd.length=k+3:=by rw [hpd];exact dR _ _
 refine VW.e9 (α := Nat × Nat) (fun x=>⟨List.replicate 10 .top++[.int .i64 (s:Int), .osl [4,21] 1 0 (aa m+1) false,W V, .osl [30] 1 0 (aa m) false, .int .i64 (i:Int), .osl [4,21] 1 A'.length (k+3) false, .top, .top,W r, .int .i64 (x.1:Int)]++List.replicate 108 .top,
   ae.put (ae.put (fun _=>none) [4,21] (some ⟨us (A'++(pd.take x.1++b.drop x.1)++zs tl),1,false⟩)) [30] (some ⟨us (zs i++val b/V::(o++zs (k+1))),1,false⟩),x.2⟩)
   (fun x=>x.1<=k+3/\1000<=x.2) (fun x=>k+3-x.1) (0,nn+1000) ?_ ?_ ?_
 . refine Wk.forget (by simp [Fg,List.replicate]) (fun j => ?_) (by simp only [];omega)
   simp only [List.take_zero,List.drop_zero,List.nil_append,ae.put]
   by_cases e1:j=[30]
   . subst e1;simp
   . by_cases e2:j=[4,21]
     . subst e2;simp
     . simp [e1,e2]
 . exact ⟨Nat.zero_le _,by simp only [];omega⟩
 rintro ⟨j,mm⟩ ⟨P2,KV⟩
 simp only [] at P2 KV
 have vA:j<k+3->decide ((j:Int)<((k+3:Nat):Int))=true:=fun h=>aw (by omega)
 have xh : ¬ j<k+3->decide ((j:Int)<((k+3:Nat):Int))=false:=fun h=>ak (by omega)
 have NF:j<aa r->decide ((j:Int)<(aa r:Int))=true:=fun h=>aw (by omega)
 have NG : ¬ j<aa r->decide ((j:Int)<(aa r:Int))=false:=fun h=>ak (by omega)
 have RU:=aD j (by omega)
 by_cases C5:j<k+3
 . have hio:=qQ (q:=[4,21]) (off:=A'.length) (t:=false) C5
   have aqZ:(pd.take j++b.drop j).length=k+3:=by simp [WR,B2];omega
   obtain ⟨y',hy'⟩:∃ y,pd[j]? = some y:=⟨_,List.getElem?_eq_getElem (by omega)⟩
   have hpm:=ZU (hpd▸hy') al4
   have NC:∀ w,(A'++(pd.take j++b.drop j)++zs tl).set (A'.length+j) w=A'++(pd.take j++w::b.drop (j+1))++zs tl:=fun w=>WQ WR B2 C5
   have ahM:∀ v w,(A'++(pd.take j++v::b.drop (j+1))++zs tl).set (A'.length+j) w=A'++(pd.take j++w::b.drop (j+1))++zs tl:=fun v w=>TZ WR C5
   have tG:A'.length+j<(A'++(pd.take j++b.drop j)++zs tl).length:=by simp [WR,B2];omega
   have Mw:∀ v,A'.length+j<(A'++(pd.take j++v::b.drop (j+1))++zs tl).length:=fun v=>by simp [WR,B2];omega
   have RP:pd.take j++y'::b.drop (j+1)=pd.take (j+1)++b.drop (j+1):=by
     have:=List.take_add_one (l:=pd) (i:=j)
     rw [hy'] at this;rw [this];simp
   have ahN:k+3-(j+1)<k+3-j:=by omega
   have ahO:∀ σ : ae, σ [4,21]=some ⟨us (A'++(pd.take j++b.drop j)++zs tl),1,false⟩->ir σ 1 (.ref [4,21] (A'.length+j) 0) (.int .u32 0)=some { val := .tup [],rd:=[[4,21]],up:=[([4,21],some ⟨us (A'++(pd.take j++0::b.drop (j+1))++zs tl),1,false⟩)] }:=fun σ hσ => by
     have:=bV (x:=0) hσ tG
     rw [NC] at this;exact this
   by_cases hjr:j<aa r
   . obtain ⟨dj,hdj⟩:∃ y,(digits r)[j]? = some y:=⟨_,List.getElem?_eq_getElem hjr⟩
     rw [if_pos hjr,hdj,Option.getD_some] at hpm
     subst hpm
     simp only [SS,Nat.reduceAdd,vA C5,hio]
     rw [ahO _ (by simp [ae.put])]
     simp only [SS,Nat.reduceAdd,bb,NF hjr,dx hdj,aK,bp,hio]
     rw [bV (o:=A'++(pd.take j++0::b.drop (j+1))++zs tl) (by simp [ae.put]) (Mw _),ahM,RP]
     simp only [SS,Nat.reduceAdd,RU]
     refine ⟨(j+1,_),⟨by simp only [];omega,by simp only [];omega⟩,ahN,Wk.forget (by simp [Fg]) (fun q => ?_) (Nat.le_refl _)⟩
     simp only [ae.put]
     by_cases e1:q=[30]
     . subst e1;simp
     . by_cases e2:q=[4,21]
       . subst e2;simp
       . simp [e1,e2]
   . rw [if_neg hjr] at hpm
     subst hpm
     simp only [SS,Nat.reduceAdd,vA C5,hio]
     rw [ahO _ (by simp [ae.put]),RP]
     simp only [SS,Nat.reduceAdd,bb,NG hjr,RU]
     refine ⟨(j+1,_),⟨by simp only [];omega,by simp only [];omega⟩,ahN,Wk.forget (by simp [Fg]) (fun q => ?_) (Nat.le_refl _)⟩
     simp only [ae.put]
     by_cases e1:q=[30]
     . subst e1;simp
     . by_cases e2:q=[4,21]
       . subst e2;simp
       . simp [e1,e2]
 . have UN:j=k+3:=by omega
   have K2:val b=val b/V*V+r:=by rw [hr];have:=Nat.div_add_mod (val b) V;rw [Nat.mul_comm] at this;omega
   have hUn:U=val A'+ay ^ i*(val (val b/V::o)*V+val (pad (k+2) r)):=by
     rw [cH NH]
     refine NS (x:=y) (R:=val R) (O:=val o) ?_ (by rw [<- hbv];exact K2)
     rw [hUe,bO,hA']
     simp only [val,Nat.mul_zero,Nat.add_zero]
   have hep:A'++(pd.take j++b.drop j)++zs tl=A'++pad (k+2) r++zs (tl+1):=by
     rw [UN,List.take_of_length_le (by omega),List.drop_eq_nil_of_le (by omega),hpd,Lz NH]
     simp [jq]
   rw [hep]
   simp only [SS,Nat.reduceAdd,xh C5,Zu]
   refine ⟨(i,A',pad (k+2) r,tl+1,val b/V::o,_),⟨by simp;omega,hA',dR _ _,by simp only [];omega,aeb,mM _ _, ?_,by simp only [];rw [cH NH];exact Km,hUn,by simp only [];omega⟩,Nat.lt_succ_self i,Wk.forget (by simp [Fg]) (fun q => ?_) (Nat.le_refl _)⟩
   . intro w hw
     rcases List.mem_cons.1 hw with rfl | hw
     . exact YO
     . exact hoW w hw
   . right;simp
end
end Go.VL
end

section
set_option linter.unusedVariables false
namespace Go.VL
theorem N5 {a b:Int} (h:decide (a<0)=decide (b<0)):kT (decide (a<0)) (a.natAbs+b.natAbs)=a+b:=by
 unfold kT
 by_cases h1:a<0<;>by_cases h2:b<0<;>simp [h1,h2] at h ⊢ <;> omega
theorem D1 {a b:Int} (h : ¬ decide (a<0)=decide (b<0)) (hn:b.natAbs<=a.natAbs):kT (decide (a<0)) (a.natAbs-b.natAbs)=a+b:=by
 unfold kT
 by_cases h1:a<0<;>by_cases h2:b<0<;>simp [h1,h2] at h ⊢ <;> omega
section
variable {P:Program} {G:Nat->Option (List AV)}
theorem ZV {f fn fp fs fc fm:FuncId} (h:Has P f (ma fn fp fs fc fm)) (hn:∀ z:Int,aa z.natAbs<=1000000->VP P G fn [IV z] (IV z))
   (hp:∀ m n,aa m<=1000000->aa n<=1000000->VP P G fp [W m,W n] (W (m+n))) (hs:js P G fs) (hc:∀ m n,aa m<=1000000->aa n<=1000000->VP P G fc [W m,W n] (.int .i64 (eM m n)))
   (hm:∀ m n,n<=m->aa m<=1000000->VP P G fm [W m,W n] (W (m-n))) (a b:Int) (ha:aa a.natAbs<=1000000) (hb:aa b.natAbs<=1000000):VP P G f [IV a,IV b] (IV (a+b)):=by
 refine VP.has h ?_
 have zB:([0]:List Nat)≠[1]:=by decide
 have Fj:([0]:List Nat)≠[2]:=by decide
 have zF:([1]:List Nat)≠[2]:=by decide
 have hwl:aa (a.natAbs+b.natAbs)<=9223372036854775807:=by
   have:aa (a.natAbs+b.natAbs)<=aa a.natAbs+aa b.natAbs+1:=dH (by
     have e1:=de a.natAbs
     have e2:=de b.natAbs
     have e3:ay ^ aa a.natAbs<=ay ^ (aa a.natAbs+aa b.natAbs):=Nat.pow_le_pow_right bZ (by omega)
     have e4:ay ^ aa b.natAbs<=ay ^ (aa a.natAbs+aa b.natAbs):=Nat.pow_le_pow_right bZ (by omega)
     have e5:ay ^ (aa a.natAbs+aa b.natAbs)*2<=ay ^ (aa a.natAbs+aa b.natAbs)*ay:=Nat.mul_le_mul_left _ (by decide)
     rw [Nat.pow_succ];omega)
   omega
 have hpv:=hp a.natAbs b.natAbs ha hb
 have hcv:=hc a.natAbs b.natAbs ha hb
 simp only [ma,SS,DD,Nat.reduceAdd,iG,cu,aq zB,aq Fj,aj,di]
 refine ao (hn a ha) (by simp [aA]) ?_
 simp only [SS,DD,Nat.reduceAdd,aq zF,aj,di]
 refine ao (hn b hb) (by simp [aA]) ?_
 simp only [SS,DD,Nat.reduceAdd]
 rw [dy (k:=(IV a).size) (y:=IV a) rfl (CP _ _) (by simp [ae.put])]
 simp only [SS,DD,Nat.reduceAdd]
 rw [dy (k:=(IV b).size) (y:=IV b) rfl (CP _ _) (by simp [ae.put])]
 simp only [SS,DD,Nat.reduceAdd]
 refine ⟨by simp [ag,apart], ?_⟩
 simp only [SS,Nat.reduceAdd,aq zB,aj,kf]
 by_cases Mq:decide (a<0)=decide (b<0)
 . have d0:(decide (a<0)==decide (b<0))=true:=by rw [Mq];exact beq_self_eq_true _
   have Sb:=hs (decide (a<0)) (a.natAbs+b.natAbs) hwl
   rw [N5 Mq] at Sb
   simp only [SS,DD,Nat.reduceAdd,d0,aq zB,aj,kf,iZ]
   refine ao hpv (by simp [aC]) ?_
   simp only [SS,DD,Nat.reduceAdd]
   refine ao Sb (by simp [aC,ab.bool]) ?_
   simp only [SS,DD,Nat.reduceAdd]
   rw [dy (k:=(AV.agg [.bool false, .nils]).size) (y := .agg [.bool false, .nils]) rfl (tu _) (by simp [ae.put])]
   simp only [SS,DD,Nat.reduceAdd]
   refine ⟨by simp [ag,apart], ?_⟩
   refine ai▸af (r:=IV (a+b)) ?_ (aA _)
   simp only [RS,bn,bC,aj,di]
 . have d0:(decide (a<0)==decide (b<0))=false:=by simpa using Mq
   simp only [SS,Nat.reduceAdd,d0,aq zB,aj,iZ]
   refine ah hcv (by simp [aC]) ?_
   by_cases G1:b.natAbs<=a.natAbs
   . have d1:decide (0<=eM a.natAbs b.natAbs)=true:=aw (by simp only [eM,iF];rw [if_neg (by omega)];split<;>decide)
     have TI:=hm a.natAbs b.natAbs G1 ha
     have Sb:=hs (decide (a<0)) (a.natAbs-b.natAbs) (by have:=bg (Nat.sub_le a.natAbs b.natAbs);omega)
     rw [D1 Mq G1] at Sb
     simp only [SS,DD,Nat.reduceAdd,d1,aq zB,aj,kf,iZ]
     refine ao TI (by simp [aC]) ?_
     simp only [SS,DD,Nat.reduceAdd]
     refine ao Sb (by simp [aC,ab.bool]) ?_
     simp only [SS,DD,Nat.reduceAdd]
     rw [dy (k:=(AV.agg [.bool false, .nils]).size) (y := .agg [.bool false, .nils]) rfl (tu _) (by simp [ae.put])]
     simp only [SS,DD,Nat.reduceAdd]
     refine ⟨by simp [ag,apart], ?_⟩
     refine ai▸af (r:=IV (a+b)) ?_ (aA _)
     simp only [RS,bn,bC,aj,di]
   . have d1:decide (0<=eM a.natAbs b.natAbs)=false:=ak (by simp only [eM,iF];rw [if_pos (by omega)];decide)
     have TI:=hm b.natAbs a.natAbs (by omega) hb
     have Sb:=hs (decide (b<0)) (b.natAbs-a.natAbs) (by have:=bg (Nat.sub_le b.natAbs a.natAbs);omega)
     rw [D1 (fun e=>Mq e.symm) (by omega),Int.add_comm] at Sb
     simp only [SS,DD,Nat.reduceAdd,d1,aq zB,aj,kf,iZ]
     refine ao TI (by simp [aC]) ?_
     simp only [SS,DD,Nat.reduceAdd]
     refine ao Sb (by simp [aC,ab.bool]) ?_
     simp only [SS,DD,Nat.reduceAdd]
     rw [dy (k:=(AV.agg [.bool false, .nils]).size) (y := .agg [.bool false, .nils]) rfl (tu _) (by simp [ae.put])]
     simp only [SS,DD,Nat.reduceAdd]
     refine ⟨by simp [ag,apart], ?_⟩
     refine ai▸af (r:=IV (a+b)) ?_ (aA _)
     simp only [RS,bn,bC,aj,di]
theorem ZW {f fn fa:FuncId} (h:Has P f (mb fn fa)) (hn:∀ z:Int,aa z.natAbs<=1000000->VP P G fn [IV z] (IV (-z)))
   (ha:∀ a b:Int,aa a.natAbs<=1000000->aa b.natAbs<=1000000->VP P G fa [IV a,IV b] (IV (a+b))) (a b:Int) (hwa:aa a.natAbs<=1000000) (UT:aa b.natAbs<=1000000):VP P G f [IV a,IV b] (IV (a-b)):=by
 refine VP.has h ?_
 have zB:([0]:List Nat)≠[1]:=by decide
 have Fj:([0]:List Nat)≠[2]:=by decide
 have zF:([1]:List Nat)≠[2]:=by decide
 have hav:=ha a (-b) hwa (by rw [Int.natAbs_neg];exact UT)
 rw [<- Int.sub_eq_add_neg] at hav
 simp only [mb,SS,DD,Nat.reduceAdd,iG,cu,aq zB,aq Fj,aq zF,aj,di]
 refine ao (hn b UT) (by simp [aA]) ?_
 simp only [SS,DD,Nat.reduceAdd]
 refine ao hav (by simp [aA]) ?_
 simp only [SS,DD,Nat.reduceAdd]
 rw [dy (k:=(AV.agg [.bool false, .nils]).size) (y := .agg [.bool false, .nils]) rfl (tu _) (by simp [ae.put])]
 simp only [SS,DD,Nat.reduceAdd]
 refine ⟨by simp [ag,apart], ?_⟩
 refine ai▸af (r:=IV (a-b)) ?_ (aA _)
 simp only [RS,bn,bC,aj,di]
theorem WS {f fn ft fs:FuncId} (h:Has P f (mc fn ft fs)) (hn:∀ z:Int,aa z.natAbs<=1000000->VP P G fn [IV z] (IV z))
   (ht:∀ m n,aa m<=1000000->aa n<=1000000->VP P G ft [W m,W n] (W (m*n))) (hs:js P G fs) (a b:Int) (ha:aa a.natAbs<=1000000) (hb:aa b.natAbs<=1000000):VP P G f [IV a,IV b] (IV (a*b)):=by
 refine VP.has h ?_
 have zB:([0]:List Nat)≠[1]:=by decide
 have Fj:([0]:List Nat)≠[2]:=by decide
 have zF:([1]:List Nat)≠[2]:=by decide
 have WD:=ht a.natAbs b.natAbs ha hb
 have e8:=hs (!(decide (a<0)==decide (b<0))) (a.natAbs*b.natAbs) (by have:=rq a.natAbs b.natAbs;omega)
 rw [RY] at e8
 simp only [mc,SS,DD,Nat.reduceAdd,iG,cu,aq zB,aq Fj,aj,di]
 refine ao (hn a ha) (by simp [aA]) ?_
 simp only [SS,DD,Nat.reduceAdd,aq zF,aj,di]
 refine ao (hn b hb) (by simp [aA]) ?_
 simp only [SS,DD,Nat.reduceAdd]
 rw [dy (k:=(IV a).size) (y:=IV a) rfl (CP _ _) (by simp [ae.put])]
 simp only [SS,DD,Nat.reduceAdd]
 rw [dy (k:=(IV b).size) (y:=IV b) rfl (CP _ _) (by simp [ae.put])]
 simp only [SS,DD,Nat.reduceAdd]
 refine ⟨by simp [ag,apart], ?_⟩
 simp only [SS,DD,Nat.reduceAdd,aq zB,aj,kf,iZ]
 refine ao WD (by simp [aC]) ?_
 simp only [SS,DD,Nat.reduceAdd]
 refine ao e8 (by simp [aC,ab.bool]) ?_
 simp only [SS,DD,Nat.reduceAdd]
 rw [dy (k:=(AV.agg [.bool false, .nils]).size) (y := .agg [.bool false, .nils]) rfl (tu _) (by simp [ae.put])]
 simp only [SS,DD,Nat.reduceAdd]
 refine ⟨by simp [ag,apart], ?_⟩
 refine ai▸af (r:=IV (a*b)) ?_ (aA _)
 simp only [RS,bn,bC,aj,di]
theorem ZX {f ft fd fs:FuncId} (h:Has P f (me ft fd fs)) (ht:ja P G ft) (hd:∀ m n,n≠0->aa m<=900000->aa n<=900000->VP P G fd [W m,W n] (.tup [W (m/n),W (m%n)]))
   (hs:js P G fs) (a b:Int) (ha:aa a.natAbs<=900000) (hb:aa b.natAbs<=900000):VP P G f [IV a,IV b] (IV (Nat.gcd a.natAbs b.natAbs:Nat)):=by
 refine VP.has h ?_
 have zB:([0]:List Nat)≠[1]:=by decide
 have Fj:([0]:List Nat)≠[2]:=by decide
 have zF:([1]:List Nat)≠[2]:=by decide
 simp only [me,SS,DD,Nat.reduceAdd,iG,cu,aq zB,aq Fj,aj,iZ]
 refine ao (ng ht a.natAbs (by omega)) (by simp [aC]) ?_
 simp only [SS,DD,Nat.reduceAdd,aq zF,aj,iZ]
 refine ao (ng ht b.natAbs (by omega)) (by simp [aC]) ?_
 simp only [SS,DD,Nat.reduceAdd]
 refine ⟨by simp [ag,apart], ?_⟩
 simp only [aY]
 refine VW.e9 (α := Nat × Nat × Nat) (fun x=>⟨[IV a,IV b, .top, .top, .ref [2] 0 0,W x.1,W x.2.1]++List.replicate 21 .top,
   ae.put (fun _=>none) [2] (some ⟨[.agg [.bool false, .nils]],(AV.agg [.bool false, .nils]).size,false⟩),x.2.2⟩)
   (fun x=>Nat.gcd x.1 x.2.1=Nat.gcd a.natAbs b.natAbs/\aa x.1<=900000/\aa x.2.1<=900000) (fun x=>x.2.1) (a.natAbs,b.natAbs,1000) ?_ ?_ ?_
 . exact Wk.forget (by simp [Fg,List.replicate]) (fun j=>by simp only [ae.put];split<;>simp_all) (by simp only [];omega)
 . exact ⟨rfl,ha,hb⟩
 rintro ⟨x,y,nn⟩ ⟨hg,hx,hy⟩
 simp only [] at hg hx hy
 have w1:=H6 x y
 by_cases c3:0<aa y
 . have PV:y≠0:=fun e=>by have:=cg.2 e;omega
   have g5:decide ((0:Int)<(aa y:Int))=true:=aw (by omega)
   simp only [SS,Nat.reduceAdd,bb,g5]
   refine ah (hd x y PV hx hy) (by simp [aC]) ?_
   simp only [SS,Nat.reduceAdd,CQ,CR]
   exact ⟨(y,x%y,_),⟨A9 hg,hy,by simp only [];omega⟩,Nat.mod_lt _ (Nat.pos_of_ne_zero PV),Wk.slots (by simp [Fg]) (Nat.le_refl _)⟩
 . have g5:decide ((0:Int)<(aa y:Int))=false:=ak (by omega)
   have hyz:y=0:=cg.1 (by omega)
   rw [hyz,Nat.gcd_zero_right] at hg
   have e8:=hs false x (by omega)
   rw [Fk] at e8
   simp only [SS,Nat.reduceAdd,bb,g5]
   refine ah e8 (by simp [ab.bool,aC]) ?_
   simp only [SS,Nat.reduceAdd,jr]
   rw [<- hg]
   refine ai▸af (r:=IV (x:Int)) ?_ (aA _)
   simp only [RS,bn,bC,aj];rfl
end
end Go.VL
end

section
set_option linter.unusedVariables false
namespace Go.VL
theorem WT {ws:List Nat} (hw:Wd ws):aa (val ws)<=ws.length:=dH (eF hw)
theorem N6 (neg:Bool) {ws:List Nat} (hw:Wd ws):(decide (aa (val ws)=ws.length)&&(!neg||decide (0<ws.length)))=gE neg ws:=by
 unfold gE
 by_cases h0:ws=[]
 . subst h0;simp [aa,val,bo]
 . rw [if_neg h0]
   have re:0<ws.length:=List.length_pos_iff.2 h0
   rw [aw re,Bool.or_true,Bool.and_true]
   obtain ⟨k,hk⟩:∃ k,ws.length=k+1:=⟨ws.length-1,by omega⟩
   obtain ⟨b,x,rfl,hb⟩:=yj hk
   have e:(b++[x])[(b++[x]).length-1]?.getD 0=x:=by simp
   rw [e]
   by_cases hx:x=0
   . rw [ak (show ¬ x≠0 from fun h=>h hx),hx,jH]
     exact ak (by have:=WT (fun w hw'=>hw w (by simp [hw']):Wd b);simp;omega)
   . rw [aw hx]
     exact aw (by rw [aa,jG hw (.inr ⟨x,by simp,hx⟩)])
section
variable {P:Program} {G:Nat->Option (List AV)}
theorem P3 {f ft:FuncId} (h:Has P f (kx ft)) (ht:ja P G ft) (neg:Bool) (ws:List Nat) (hw:Wd ws) (hl:ws.length<=9223372036854775807):VP P G f [IR neg ws] (.bool (gE neg ws)):=by
 refine VP.has h ?_
 have hlen:ni false (.sl 1 (us ws))=some (.int .i64 ws.length):=by simp [ni,eL]
 have e:=N6 neg hw
 have d0:decide ((aa (val ws):Int)=(ws.length:Int))=decide (aa (val ws)=ws.length):=by congr 1;apply propext;omega
 have d1:decide ((0:Int)<(ws.length:Int))=decide (0<ws.length):=by congr 1;apply propext;omega
 rw [<- e]
 simp only [kx,SS,DD,Nat.reduceAdd,Wu,aj,NQ]
 refine ao (ht ws hw hl) (by simp [Bm]) ?_
 simp only [SS,DD,Nat.reduceAdd,bb,aj,NQ,hlen,d0]
 by_cases c:aa (val ws)=ws.length
 . have c1:decide (aa (val ws)=ws.length)=true:=aw c
   cases neg
   . simp only [SS,DD,Nat.reduceAdd,c1,aj,Wv,Bool.true_and,Bool.true_or]
     refine ⟨by simp [ag,apart], ?_⟩
     exact ai▸af rfl (ab.bool _)
   . simp only [SS,DD,Nat.reduceAdd,c1,aj,Wv,NQ,hlen,Bool.true_and,Bool.false_or,d1]
     refine ⟨by simp [ag,apart], ?_⟩
     exact ai▸af rfl (ab.bool _)
 . have c1:decide (aa (val ws)=ws.length)=false:=ak c
   simp only [SS,DD,Nat.reduceAdd,c1,Bool.false_and]
   refine ⟨by simp [ag,apart], ?_⟩
   exact ai▸af rfl (ab.bool _)
theorem LB {f fi:FuncId} (h:Has P f (jz fi)) (a:Int) (hi:VP P G fi [.int .i64 a] (IV a)) (ho:VP P G fi [.int .i64 1] (IV 1)):VP P G f [.int .i64 a] (RV a 1):=by
 refine VP.has h ?_
 have e:(AV.agg [.bool (decide (a<0)),W a.natAbs, .bool (decide ((1:Int)<0)),W (1:Int).natAbs])=RV a 1:=rfl
 simp only [jz,SS,Nat.reduceAdd,cD]
 refine ah hi (by simp [ab.int]) ?_
 simp only [SS,Nat.reduceAdd]
 refine ah ho (by simp [ab.int]) ?_
 simp only [SS,Nat.reduceAdd,DZ,e,NL]
 refine ai▸af (r:=RV a 1) ?_ (ux _ _)
 simp only [RS,bn,bC,aj];rfl
theorem WU {f:FuncId} (h:Has P f mg) (z:Int):VP P G f [IV z] (.bool (decide (z=1))):=by
 refine VP.has h ?_
 have hl:aa z.natAbs=1->∃ w,digits z.natAbs=[w]:=fun h=>List.length_eq_one_iff.1 h
 have h11:aa 1=1:=by unfold aa;rw [iU (by decide),show 1/ay=0 from rfl,bo];rfl
 simp only [mg,SS,Nat.reduceAdd,iG,aj,iZ,bb]
 by_cases h1:aa z.natAbs=1
 . have d1:decide ((aa z.natAbs:Int)=1)=true:=aw (by omega)
   obtain ⟨w,hw⟩:=hl h1
   have hg:(digits z.natAbs)[0]? = some w:=by rw [hw];rfl
   have ZB:bK 1 (W z.natAbs) (.int .i64 0)=some (.ep (AV.int .u32 (w:Int)).cells 0):=fG (i:=0) rfl (qP hg)
   have hv:z.natAbs=w:=by have:=aI z.natAbs;rw [hw] at this;simp [val] at this;omega
   by_cases QX:w=1
   . have d2:decide ((w:Int)=1)=true:=aw (by omega)
     have e:(!decide (z<0))=decide (z=1):=by
       by_cases hn:z<0
       . rw [aw hn,ak (by omega)];rfl
       . rw [ak hn,aw (by omega)];rfl
     simp only [SS,Nat.reduceAdd,d1,aj,kf,iZ,ZB,aK,bp,d2,e]
     exact ai▸af rfl (ab.bool _)
   . have d2:decide ((w:Int)=1)=false:=ak (by omega)
     have e:decide (z=1)=false:=ak (by omega)
     simp only [SS,Nat.reduceAdd,d1,aj,iZ,ZB,aK,bp,d2,e]
     exact ai▸af rfl (ab.bool _)
 . have d1:decide ((aa z.natAbs:Int)=1)=false:=ak (by omega)
   have e:decide (z=1)=false:=ak (by intro e;rw [e] at h1;exact h1 h11)
   simp only [SS,Nat.reduceAdd,d1,e]
   exact ai▸af rfl (ab.bool _)
end
end Go.VL
end

section
namespace Go.VL
open Go.Lib
theorem tv {n:Nat} (h:n<10):decDigits n=[UInt8.ofNat (48+n)]:=decDigits_one h
theorem Ic {n:Nat} (h : ¬ n<10):decDigits n=decDigits (n/10)++[UInt8.ofNat (48+n%10)]:=by rw [decDigits,dif_neg h]
end Go.VL
end

section
namespace Go.Proofs
open Go.VL Go.RowKit
def D2 (ws:List Nat):List Int:=ws.map fun w:Nat=>(w:Int)
theorem T2 (ws:List Nat):(D2 ws).length=ws.length:=List.length_map ..
theorem T3 (a b:Nat) (ha:a<18446744073709551616) (hb:b<18446744073709551616):bits BinOp.or IntKind.u64 (a:Int) (b:Int)=((a ||| b:Nat):Int):=by
 have h:=adC a b ha hb
 rw [PO] at h
 simp only [Option.some.injEq,AV.int.injEq,true_and] at h
 rw [<- h];rfl
theorem Tryz.CT (r a:Nat) (hr:r<ay) (ha:a<ay):Tryz.HZ (r:Int) (a:Int)=((ay*r+a:Nat):Int):=by
 unfold Tryz.HZ
 have h1:IntKind.u64.wrap ((r:Int)*4294967296)=((ay*r:Nat):Int):=by rw [IntKind.wrap_u64];unfold ay at *;omega
 rw [h1,bj a ha,T3 _ _ (by unfold ay at *;omega) (by unfold ay at *;omega)]
 have:=Nat.two_pow_add_eq_or_of_lt (i:=32) (b:=a) (by unfold ay at ha;omega) r
 rw [show ay=2 ^ 32 from rfl,this]
theorem Tryz.toU_digits (n:Nat) (hn:n<18446744073709551616):Tryz.toU (Tryz.upto (Tryz.bw (D2 (digits n))) (D2 (digits n)).length)=(n:Int):=by
 have hw:=qR n hn
 have hd:=aQ n
 have hv:=aI n
 unfold aa at hw
 generalize digits n=ds at hw hd hv
 match ds,hw,hd,hv with
 | [],_,_,hv=>subst hv;rfl
 | [a],_,hd,hv =>
   have ha:=hd a (by simp)
   have e:=Tryz.CT 0 a bZ ha
   simp only [val,Nat.mul_zero,Nat.add_zero] at hv
   have:(n:Int)=((ay*0+a:Nat):Int):=by omega
   rw [this, <- e];rfl
 | [a,b],_,hd,hv =>
   have ha:=hd a (by simp)
   have hb:=hd b (by simp)
   have e1:=Tryz.CT 0 b bZ hb
   rw [Nat.mul_zero,Nat.zero_add] at e1
   have e2:=Tryz.CT b a hb ha
   simp only [val,Nat.mul_zero,Nat.add_zero] at hv
   have:(n:Int)=((ay*b+a:Nat):Int):=by omega
   rw [this, <- e2]
   show Tryz.HZ (Tryz.HZ 0 (b:Int)) (a:Int)=_
   have e3:Tryz.HZ 0 (b:Int)=(b:Int):=e1
   rw [e3]
 | _::_::_::_,hw,_,_=>simp at hw
theorem Tryz.toUint_vp (G:Nat->Option (List AV)) (n:Nat) (hn:n<18446744073709551616):VP Tryz.prog G 301 [W n] (.int .u64 (n:Int)):=by
 refine VP.Zr (r:={ val := .int .u64 (n:Int) }) (aM.VD Tryz.func301 (by kernel_rfl) (by kernel_rfl) ?_) (jS.int _ _)
 intro own E w σ vs _ hi hr
 simp only [aU] at hr
 obtain ⟨v,_,rfl,hv,rfl⟩:=hr
 have hus:us (digits n)=(D2 (digits n)).map (AV.int .u32):=by simp [us,D2]
 have C3:gG σ 1 (W n)=some ((D2 (digits n)).map (AV.int .u32),[]):=by rw [W,gB,hus]
 obtain ⟨a,cap,rfl,hle,xf⟩:=VE hi hv C3
 have hI:Tryz.Ty w.heap.size w (.slice a (D2 (digits n)).length cap) (D2 (digits n)):=by
   rcases xf with h | ⟨b,o,rfl,hb,hc⟩
   . rw [h];exact .inl ⟨a,cap,rfl,rfl⟩
   . exact .inr ⟨b,o,cap,rfl,hb,hc⟩
 have hlen:(D2 (digits n)).length<=2:=by rw [T2];exact qR n hn
 refine (callsIn_wide (n:=3)).1 ((Tryz.toUint_in Fence.wide 3 trivial trivial trivial rfl (by omega) a _ cap _ (by omega) w hI).mono ?_)
 rintro e W' ⟨rfl,hB⟩
 rw [Tryz.toU_digits n hn]
 exact ⟨_,rfl,hB,fun E w=>by simp only [aN]⟩
end Go.Proofs
end

section
set_option linter.unusedSimpArgs false
namespace Go.VL
def QV (q:Rat):AV:=RV q.num q.den
theorem aR (q:Rat):ab (QV q):=ux _ _
def Sm (k:Nat) (q:Rat):Prop:=aa q.num.natAbs<=k/\aa q.den<=k
theorem Sm.mono {j k:Nat} {q:Rat} (h:Sm j q) (P2:j<=k):Sm k q:=⟨Nat.le_trans h.1 P2,Nat.le_trans h.2 P2⟩
theorem cj (a b:Int):aa (a*b).natAbs<=aa a.natAbs+aa b.natAbs:=by rw [Int.natAbs_mul];exact rq _ _
theorem N7 (a b:Int):Int.gcd a b=Nat.gcd a.natAbs b.natAbs:=rfl
theorem Ie (a b:Int) (hb:b≠0):RV (a.fdiv (if b<0 then -((Nat.gcd a.natAbs b.natAbs:Nat):Int) else (Nat.gcd a.natAbs b.natAbs:Nat))) (b.fdiv (if b<0 then -((Nat.gcd a.natAbs b.natAbs:Nat):Int) else (Nat.gcd a.natAbs b.natAbs:Nat)))=QV ((a:Rat)/(b:Rat)):=by
 rw [<- Rat.divInt_eq_div]
 unfold QV
 rw [Rat.num_divInt,Rat.den_divInt,if_neg hb,N7,Nat.gcd_comm b.natAbs a.natAbs]
 have hg0:0<Nat.gcd a.natAbs b.natAbs:=Nat.gcd_pos_of_pos_right _ (by omega)
 obtain ⟨x,hx⟩:((Nat.gcd a.natAbs b.natAbs:Nat):Int) ∣ a:=Int.ofNat_dvd_left.2 (Nat.gcd_dvd_left _ _)
 obtain ⟨y,hy⟩:((Nat.gcd a.natAbs b.natAbs:Nat):Int) ∣ b:=Int.ofNat_dvd_left.2 (Nat.gcd_dvd_right _ _)
 generalize hg:Nat.gcd a.natAbs b.natAbs=g at *
 have hgz:(g:Int)≠0:=by omega
 have hba:b.natAbs/g=y.natAbs:=by
   rw [hy,Int.natAbs_mul,Int.natAbs_natCast,Nat.mul_div_cancel_left _ hg0]
 rw [hba]
 by_cases h:b<0
 . have PV:y<0:=by
     rcases Int.lt_or_le y 0 with h1 | h1
     . exact h1
     . have:=Int.mul_nonneg (Int.natCast_nonneg g) h1;omega
   rw [if_pos h,Int.sign_eq_neg_one_of_neg h]
   have e1:a.fdiv (-(g:Int)) = -1*a/(g:Int):=by
     rw [hx,show -1*((g:Int)*x)=(g:Int)*(-x) from by rw [Int.mul_neg];omega,Int.mul_ediv_cancel_left _ hgz,show (g:Int)*x = -(g:Int)*(-x) from by rw [Int.neg_mul_neg]]
     exact Int.mul_fdiv_cancel_left _ (by omega)
   have e2:b.fdiv (-(g:Int))=(y.natAbs:Int):=by
     rw [show (y.natAbs:Int) = -y from by omega]
     conv=>lhs;rw [hy]
     rw [show (g:Int)*y = -(g:Int)*(-y) from by rw [Int.neg_mul_neg]]
     exact Int.mul_fdiv_cancel_left _ (by omega)
   rw [e1,e2]
 . have PV:0<y:=by
     rcases Int.lt_or_le 0 y with h1 | h1
     . exact h1
     . have:=Int.mul_nonneg (Int.natCast_nonneg g) (show 0 <= -y by omega)
       rw [Int.mul_neg] at this;omega
   rw [if_neg h,Int.sign_eq_one_of_pos (by omega)]
   have e1:a.fdiv (g:Int)=1*a/(g:Int):=by
     rw [hx,Int.one_mul,Int.mul_ediv_cancel_left _ hgz]
     exact Int.mul_fdiv_cancel_left _ hgz
   have e2:b.fdiv (g:Int)=(y.natAbs:Int):=by
     rw [show (y.natAbs:Int)=y from by omega]
     conv=>lhs;rw [hy]
     exact Int.mul_fdiv_cancel_left _ hgz
   rw [e1,e2]
theorem vD (a b:Int):aa (Rat.divInt a b).num.natAbs<=aa a.natAbs:=by
 rw [Rat.num_divInt]
 refine bg ?_
 rcases Int.lt_trichotomy b 0 with h | h | h
 . rw [Int.sign_eq_neg_one_of_neg h]
   exact Nat.le_trans (Int.natAbs_ediv_le_natAbs _ _) (by omega)
 . subst h;simp
 . rw [Int.sign_eq_one_of_pos h]
   exact Nat.le_trans (Int.natAbs_ediv_le_natAbs _ _) (by omega)
theorem vE (a b:Int) (hb:b≠0):aa (Rat.divInt a b).den<=aa b.natAbs:=by
 rw [Rat.den_divInt,if_neg hb]
 exact bg (Nat.div_le_self _ _)
theorem aca (a b:Rat):a+b=((a.num*b.den+b.num*a.den:Int):Rat)/((a.den*b.den:Int):Rat):=by
 rw [<- Rat.divInt_eq_div,Rat.add_def', <- Rat.divInt_ofNat];simp
theorem Sc (a b:Rat):a*b=((a.num*b.num:Int):Rat)/((a.den*b.den:Int):Rat):=by
 rw [<- Rat.divInt_eq_div,Rat.mul_def', <- Rat.divInt_ofNat];simp
theorem ahQ (a b:Rat):a/b=((a.num*b.den:Int):Rat)/((a.den*b.num:Int):Rat):=by
 rw [Rat.div_def,Rat.inv_def]
 conv=>lhs;lhs;rw [<- Rat.num_divInt_den a]
 rw [Rat.divInt_mul_divInt,Rat.divInt_eq_div]
theorem wR (q:Rat):(0:Int)<q.den:=by have:=q.den_nz;omega
theorem P4 (q:Rat):(q.den:Int)≠0:=by have:=wR q;omega
theorem yk (a b:Rat):(a.den*b.den:Int)≠0:=Int.mul_ne_zero (P4 a) (P4 b)
theorem Sm.neg {k:Nat} {a:Rat} (h:Sm k a):Sm k (-a):=⟨by rw [Rat.neg_num,Int.natAbs_neg];exact h.1,h.2⟩
theorem qb {m n k:Nat} (hm:aa m<=k) (hn:aa n<=k):aa (m+n)<=k+1:=by
 refine dH ?_
 have h1:=Nat.lt_of_lt_of_le (de m) (Nat.pow_le_pow_right bZ hm)
 have h2:=Nat.lt_of_lt_of_le (de n) (Nat.pow_le_pow_right bZ hn)
 rw [Nat.pow_succ]
 have:2<=ay:=by decide
 have h3:ay ^ k*2<=ay ^ k*ay:=Nat.mul_le_mul_left _ this
 omega
theorem Sm.add {j k:Nat} {a b:Rat} (ha:Sm j a) (hb:Sm k b):Sm (j+k+1) (a+b):=by
 rw [aca, <- Rat.divInt_eq_div]
 refine ⟨Nat.le_trans (vD _ _) ?_,Nat.le_trans (vE _ _ (yk a b)) ?_⟩
 . have h1:=cj a.num b.den
   have h2:=cj b.num a.den
   have h3:((b.den:Nat):Int).natAbs=b.den:=rfl
   have h4:((a.den:Nat):Int).natAbs=a.den:=rfl
   rw [h3] at h1;rw [h4] at h2
   have:=ha.1;have:=ha.2;have:=hb.1;have:=hb.2
   exact Nat.le_trans (bg (Int.natAbs_add_le _ _)) (qb (k:=j+k) (by omega) (by omega))
 . have h1:=cj a.den b.den
   have h3:((b.den:Nat):Int).natAbs=b.den:=rfl
   have h4:((a.den:Nat):Int).natAbs=a.den:=rfl
   rw [h3,h4] at h1
   have:=ha.2;have:=hb.2
   omega
theorem Sm.sub {j k:Nat} {a b:Rat} (ha:Sm j a) (hb:Sm k b):Sm (j+k+1) (a-b):=by rw [Rat.sub_eq_add_neg];exact ha.add hb.neg
theorem Sm.mul {j k:Nat} {a b:Rat} (ha:Sm j a) (hb:Sm k b):Sm (j+k) (a*b):=by
 rw [Sc, <- Rat.divInt_eq_div]
 refine ⟨Nat.le_trans (vD _ _) ?_,Nat.le_trans (vE _ _ (yk a b)) ?_⟩
 . have h1:=cj a.num b.num
   have:=ha.1;have:=hb.1
   omega
 . have h1:=cj a.den b.den
   have h3:((b.den:Nat):Int).natAbs=b.den:=rfl
   have h4:((a.den:Nat):Int).natAbs=a.den:=rfl
   rw [h3,h4] at h1
   have:=ha.2;have:=hb.2
   omega
theorem Sm.inv {k:Nat} {a:Rat} (h:Sm k a) (hk:1<=k):Sm k a⁻¹ := by
 refine ⟨?_, ?_⟩
 . rw [Rat.num_inv,Int.natAbs_mul]
   refine Nat.le_trans (bg (n:=a.den) ?_) h.2
   have:a.num.sign.natAbs<=1:=by rcases qT a.num with ⟨h,_⟩ | ⟨h,_⟩ | ⟨h,_⟩<;>rw [h]<;>decide
   have h2:((a.den:Nat):Int).natAbs=a.den:=rfl
   rw [h2]
   exact Nat.le_trans (Nat.mul_le_mul_right _ this) (by omega)
 . rw [Rat.den_inv]
   split
   . exact Nat.le_trans A8 hk
   . exact h.1
theorem Sm.div {j k:Nat} {a b:Rat} (ha:Sm j a) (hb:Sm k b) (hk:1<=k):Sm (j+k) (a/b):=by rw [Rat.div_def];exact ha.mul (hb.inv hk)
theorem Sm.zero:Sm 1 0:=⟨by simp [aa,bo],A8⟩
theorem Sm.int {z:Int} {k:Nat} (h:aa z.natAbs<=k) (hk:1<=k):Sm k (z:Rat):=⟨h,Nat.le_trans A8 hk⟩
def aZ (q:Rat):Int:=q.num.sign
theorem P5 {q:Rat}:aZ q=0↔q=0:=by unfold aZ;rw [Int.sign_eq_zero_iff_zero,Rat.num_eq_zero]
def P6 (a b:Rat):Int:=iF (a.num*b.den) (b.num*a.den)
theorem T4 {a b:Rat}:P6 a b=0↔a=b:=by
 rw [Rat.eq_iff_mul_eq_mul]
 unfold P6
 rcases qS (a.num*b.den) (b.num*a.den) with ⟨h1,h2⟩ | ⟨h1,h2⟩ | ⟨h1,h2⟩<;>rw [h1]<;>constructor<;>intro h<;>first | omega | rfl | (simp at h)
theorem T5 {a b:Rat} (h:aZ a≠aZ b):P6 a b=if aZ a<aZ b then -1 else 1:=by
 have key:=Kk (y:=a.num*b.den) (z:=b.num*a.den) (by
   rw [Int.sign_mul,Int.sign_mul,Int.sign_eq_one_of_pos (wR a),Int.sign_eq_one_of_pos (wR b),Int.mul_one,Int.mul_one];exact h)
 unfold P6
 rw [<- key,Int.sign_mul,Int.sign_mul,Int.sign_eq_one_of_pos (wR a),Int.sign_eq_one_of_pos (wR b),Int.mul_one,Int.mul_one]
 unfold aZ at h ⊢
 unfold iF
 split
 . rfl
 . rw [if_pos (by omega)]
end Go.VL
end

section
set_option linter.unusedVariables false
namespace Go.VL
structure yl where
 name:List UInt8
 kind:Int
 inputs:List (List UInt8)
 values:List AV
 al6:Bool
def strs (l:List (List UInt8)):AV := .sl 1 (l.map .str)
def yl.av (f:yl):AV := .agg [.str f.name, .int .i64 f.kind,strs f.inputs, .sl 7 f.values, .bool f.al6]
def wS (v:AV):Prop:=∃ cs,v = .agg cs/\cs.length=7/\∀ c∈cs,ab c/\c.one=true
structure yl.Ok (f:yl):Prop where
 vals:∀ v∈f.values,wS v
 ins:f.inputs.length<9223372036854775807
 vl:f.values.length<9223372036854775807
theorem wS.pure {v:AV} (h:wS v):ab v:=by
 obtain ⟨cs,rfl,_,hc⟩:=h
 exact ab.agg fun c h=>(hc c h).1
theorem wS.part {v:AV} (h:wS v):part true v.cells 0 7=some v:=by
 obtain ⟨cs,rfl,hl,_⟩:=h
 simp [VL.part,AV.cells,hl]
 rw [<- hl];exact List.take_length
theorem N8:∀ l:List (List UInt8),flat (l.map .str)=l.map .str
 | []=>rfl
 | s::l=>by have:=N8 l;simp only [List.map_cons,flat,List.flatMap_cons,AV.cells] at this ⊢;rw [this];rfl
theorem bz (l:List (List UInt8)):ab (strs l):=ab.sl (by rw [N8];intro c hc;simp at hc;obtain ⟨s,_,rfl⟩:=hc;exact ab.str s)
theorem T6 {l:List AV} (h:∀ v∈l,wS v):ab (.sl 7 l):=ab.sl (by
 intro c hc
 simp only [flat,List.mem_flatMap] at hc
 obtain ⟨v,hv,hc⟩:=hc
 obtain ⟨cs,rfl,_,hcs⟩:=h v hv
 exact (hcs c hc).1)
theorem yl.Ok.pure {f:yl} (h:f.Ok):ab f.av:=ab.agg (by
 intro c hc
 simp only [List.mem_cons,List.not_mem_nil,or_false] at hc
 rcases hc with rfl | rfl | rfl | rfl | rfl
 . exact ab.str _
 . exact ab.int _ _
 . exact bz _
 . exact T6 h.vals
 . exact ab.bool _)
theorem yl.one (f:yl):(f.av.cells.all AV.one=true)=True:=by simp [yl.av,AV.cells,AV.one,strs]
theorem yl.p0 (f:yl):part false f.av.cells 0 1=some (.str f.name):=rfl
theorem yl.p1 (f:yl):part false f.av.cells 1 1=some (.int .i64 f.kind):=rfl
theorem yl.p2 (f:yl):part false f.av.cells 2 1=some (strs f.inputs):=rfl
theorem yl.p3 (f:yl):part false f.av.cells 3 1=some (.sl 7 f.values):=rfl
theorem yl.size (f:yl):f.av.size=5:=rfl
section
variable {P:Program} {G:Nat->Option (List AV)}
end
end Go.VL
end

section
set_option linter.unusedVariables false
set_option linter.unusedVariables false
namespace Go.VL
def wT (s:List UInt8):Nat:=match s with
 | []=>0
 | c::_=>if dX c=true then gw dD s else 0
section
variable {P:Program} {G:Nat->Option (List AV)}
theorem ZY {f fl fd:FuncId} (h:Has P f (gp fl fd)) (hl:∀ c,VP P G fl [kS c] (.bool (dX c))) (hd:∀ c,VP P G fd [kS c] (.bool (p7 c)))
   (s:List UInt8) (hs:s.length<9223372036854775807):VP P G f [.str s, .int .i64 0] (.int .i64 ((wT s:Nat):Int)):=by
 cases s with
 | nil =>
   refine VP.has h ?_
   have z0:decide ((0:Int)=((0:Nat):Int))=true:=rfl
   have e:wT []=0:=rfl
   rw [e]
   simp only [gp,SS,Nat.reduceAdd,z0]
   exact ai▸af rfl (ab.int _ _)
 | cons c0 s0 =>
   generalize hs0:c0::s0=s at hs ⊢
   have hlen:0<s.length:=by rw [<- hs0];simp
   have d0:decide ((0:Int)=(s.length:Int))=false:=ak (by omega)
   have Y0:s[0]? = some c0:=by rw [<- hs0];rfl
   have Mo:=jg (k:=0) Y0
   simp only [Int.natCast_zero] at Mo
   cases Z0:dX c0
   . have Mn:=hl c0
     rw [Z0] at Mn
     have e:wT s=0:=by rw [<- hs0];simp [wT,Z0]
     rw [e]
     refine VP.has h ?_
     simp only [gp,SS,Nat.reduceAdd,d0,Mo]
     refine ah Mn (by simp [eR]) ?_
     simp only [SS,Nat.reduceAdd]
     exact ai▸af rfl (ab.int _ _)
   have Mn:=hl c0
   rw [Z0] at Mn
   have e:wT s=gw dD s:=by rw [<- hs0];simp [wT,Z0]
   rw [e]
   refine VP.has h ?_
   simp only [gp,SS,Nat.reduceAdd,d0,Mo]
   refine ah Mn (by simp [eR]) ?_
   simp only [SS,Nat.reduceAdd,aY]
   refine VW.e9 (α := Nat × Nat) (fun x=>⟨[.str s, .int .i64 (x.1:Int), .top, .top, .top]++List.replicate 37 .top,fun _=>none,x.2⟩) (fun x=>x.1<=gw dD s) (fun x=>gw dD s-x.1) (0,1000) ?_ (Nat.zero_le _) ?_
   . exact Wk.slots (by simp [Fg,List.replicate]) (by omega)
   rintro ⟨k,n⟩ hk
   simp only [] at hk
   have V9:=H2 dD s
   by_cases hlt:k<s.length
   . obtain ⟨c,hc⟩:∃ c,s[k]? = some c:=⟨_,List.getElem?_eq_getElem hlt⟩
     have d1:decide ((k:Int)<(s.length:Int))=true:=aw (by omega)
     have Mm:=hl c
     have Ph:=hd c
     have hwd:dD c=(dX c||p7 c||decide ((c.toNat:Int)=95)):=rfl
     have mQ:dD c=true->k<gw dD s:=fun hw=>by
       rcases Nat.lt_or_ge k (gw dD s) with q | q
       . exact q
       . have YL:k=gw dD s:=by omega
         rcases CI dD s with h0 | ⟨c',hc',Zt⟩
         . rw [<- YL,hc] at h0;cases h0
         . rw [<- YL,hc] at hc';cases hc';rw [hw] at Zt;cases Zt
     have al7:dD c=false->k=gw dD s:=fun hw=>by
       rcases Nat.lt_or_ge k (gw dD s) with q | q
       . obtain ⟨c',hc',Zt⟩:=H3 dD s k q
         rw [hc] at hc';cases hc';rw [hw] at Zt;cases Zt
       . omega
     have hby:(kS c) = .int .u8 (c.toNat:Int):=rfl
     cases b1:dX c
     . rw [b1] at Mm hwd
       cases b2:p7 c
       . rw [b2] at Ph hwd
         cases b3:decide ((c.toNat:Int)=95)
         . rw [b3] at hwd
           have YL:=al7 hwd
           simp only [SS,Nat.reduceAdd,d1,jg hc]
           refine ah Mm (by simp [eR]) ?_
           simp only [SS,Nat.reduceAdd,jg hc]
           refine ah Ph (by simp [eR]) ?_
           simp only [SS,Nat.reduceAdd,jg hc,hby,b3]
           rw [<- YL]
           exact ai▸af rfl (ab.int _ _)
         . rw [b3] at hwd
           have V9:=mQ hwd
           simp only [SS,Nat.reduceAdd,d1,jg hc]
           refine ah Mm (by simp [eR]) ?_
           simp only [SS,Nat.reduceAdd,jg hc]
           refine ah Ph (by simp [eR]) ?_
           simp only [SS,Nat.reduceAdd,jg hc,hby,b3,aD k (by omega)]
           exact ⟨(k+1,_),by simp only [];omega,by simp only [];omega,Wk.slots (by simp [Fg]) (Nat.le_refl _)⟩
       . rw [b2] at Ph hwd
         have V9:=mQ hwd
         simp only [SS,Nat.reduceAdd,d1,jg hc]
         refine ah Mm (by simp [eR]) ?_
         simp only [SS,Nat.reduceAdd,jg hc]
         refine ah Ph (by simp [eR]) ?_
         simp only [SS,Nat.reduceAdd,aD k (by omega)]
         exact ⟨(k+1,_),by simp only [];omega,by simp only [];omega,Wk.slots (by simp [Fg]) (Nat.le_refl _)⟩
     . rw [b1] at Mm hwd
       have V9:=mQ hwd
       simp only [SS,Nat.reduceAdd,d1,jg hc]
       refine ah Mm (by simp [eR]) ?_
       simp only [SS,Nat.reduceAdd,aD k (by omega)]
       exact ⟨(k+1,_),by simp only [];omega,by simp only [];omega,Wk.slots (by simp [Fg]) (Nat.le_refl _)⟩
   . have d1:decide ((k:Int)<(s.length:Int))=false:=ak (by omega)
     have YL:k=gw dD s:=by omega
     rw [<- YL]
     simp only [SS,Nat.reduceAdd,d1]
     exact ai▸af rfl (ab.int _ _)
theorem P7 {f fw:FuncId} (h:Has P f (fB fw)) (hw:∀ s:List UInt8,s.length<9223372036854775807->VP P G fw [.str s, .int .i64 0] (.int .i64 ((wT s:Nat):Int))) (s:List UInt8) :
   VP P G f [.str s] (.bool (e6 s)):=by
 cases s with
 | nil =>
   refine VP.has h ?_
   simp only [fB,SS,Nat.reduceAdd]
   exact ai▸af rfl (ab.bool _)
 | cons c s =>
   have e0:(!((c::s)==([]:List UInt8)))=true:=rfl
   by_cases h1:(((s.length+1:Nat)):Int)<=24
   . refine VP.has h ?_
     simp only [fB,SS,Nat.reduceAdd,e0,h1,decide_true]
     refine ah (hw (c::s) (by simp only [List.length_cons];omega)) (by simp [ab.str,ab.int]) ?_
     by_cases h3:wT (c::s)=s.length+1
     . have h4:(wT (c::s):Int)=((s.length+1:Nat):Int):=by omega
       have:e6 (c::s)=true:=by
         have hv:e6 (c::s)=(decide ((c::s).length<=24)&&dX c&&decide (gw dD (c::s)=(c::s).length)):=rfl
         have hwv:wT (c::s)=if dX c=true then gw dD (c::s) else 0:=rfl
         rw [hwv] at h3
         rw [hv]
         cases h2:dX c
         . rw [h2] at h3;simp at h3
         . rw [h2,if_pos rfl] at h3
           have g1:decide ((c::s).length<=24)=true:=aw (by rw [List.length_cons];omega)
           have g2:decide (gw dD (c::s)=(c::s).length)=true:=aw (by rw [List.length_cons];omega)
           rw [g1,g2];rfl
       rw [this]
       simp only [SS,Nat.reduceAdd,h4,decide_true]
       exact ai▸af rfl (ab.bool _)
     . have h4 : ¬ (wT (c::s):Int)=((s.length+1:Nat):Int):=by omega
       have:e6 (c::s)=false:=by
         have hv:e6 (c::s)=(decide ((c::s).length<=24)&&dX c&&decide (gw dD (c::s)=(c::s).length)):=rfl
         have hwv:wT (c::s)=if dX c=true then gw dD (c::s) else 0:=rfl
         rw [hwv] at h3
         rw [hv]
         cases h2:dX c
         . rw [Bool.and_false,Bool.false_and]
         . rw [h2,if_pos rfl] at h3
           have g2:decide (gw dD (c::s)=(c::s).length)=false:=ak (by rw [List.length_cons];omega)
           rw [g2,Bool.and_false]
       rw [this]
       simp only [SS,Nat.reduceAdd,h4,decide_false]
       exact ai▸af rfl (ab.bool _)
   . refine VP.has h ?_
     have:e6 (c::s)=false:=by unfold e6;simp only [List.length_cons];simp;intro h;omega
     rw [this]
     simp only [fB,SS,Nat.reduceAdd,e0,h1,decide_false]
     exact ai▸af rfl (ab.bool _)
end
end Go.VL
end

section
set_option linter.unusedVariables false
namespace Go.VL
section
variable {P:Program} {G:Nat->Option (List AV)}
theorem qU {f:FuncId} (h:Has P f eO) {es:List AV} (hk:∀ e∈es,e.size=1) (h1:(es.all fun e=>e.cells.all AV.one)=true) (hp:∀ c∈flat es,ab c) (hl:es.length*16<=140737488355328):VP P G f [.sl 1 es] (.sl 1 es):=by
 refine VP.has h ?_
 have hb:∀ (σ : ae) (p:Id),bW σ p (.buildSl 1 0 (AV.str []) [])=some { val := .tsl 1 [] }:=fun σ p=>bs0 rfl rfl
 cases es with
 | nil =>
   simp only [eO,SS,Nat.reduceAdd]
   refine ⟨?_, ?_⟩
   . exact ai▸⟨.nils,rfl,View.nils 1⟩
   . simp only [SS,Nat.reduceAdd,hb,p6 gB]
     exact ai▸⟨_,rfl,View.Zn 1⟩
 | cons e es =>
   simp only [eO,SS,Nat.reduceAdd,hb]
   rw [rp (es:=[]) gB (by simp) (by simpa using hl) (gC (by simp at hl ⊢;omega)) (by simpa using h1)]
   simp only [SS,Nat.reduceAdd]
   refine ai▸⟨_,rfl,View.osl (bk:=⟨e::es,1,false⟩) rfl rfl (by simp) ?_ (by simp) hk⟩
   simpa using az.pure hp
end
end Go.VL
end

section
set_option linter.unusedVariables false
set_option linter.unusedVariables false
namespace Go.VL
theorem jt (l:List (List UInt8)):ni false (strs l)=some (.int .i64 l.length):=by simp [strs,ni]
section
variable {P:Program} {G:Nat->Option (List AV)}
end
end Go.VL
end

section
set_option linter.unusedVariables false
set_option linter.unusedVariables false
namespace Go.VL
section
variable {P:Program} {G:Nat->Option (List AV)}
theorem au {σ : ae} {id:Id} {k kk:Nat} {z v:AV} (h : σ id=some ⟨[z],kk,false⟩) (hz:z.size=k) (hv:v.cells.length=k) (h1:v.cells.all AV.one=true) (hu:z.upd 0 v.cells=v) :
   ir σ k (.ref id 0 0) v=some { val := .tup [],rd:=[id],up:=[(id,some ⟨[v],kk,false⟩)] }:=by
 rw [gD (n:=k) (v:=v) h rfl (by rw [hv]) (by rw [hz];omega) h1]
 simp [hu]
end
end Go.VL
end

section
namespace Go.VL
section
variable {P:Program} {G:Nat->Option (List AV)} {π : Id} {Q:bM->VS->Prop} {s:VS} {x:bY}
theorem VW.aS (n:Nat) (h:VW P G π x (Then (gy P G π x Q n) Q) s):VW P G π (.loop x) Q s:=VW.rounds (n+1) h
theorem gy.next (n:Nat) (h:VW P G π x (Then (gy P G π x Q n) Q) s):gy P G π x Q (n+1) s:=h
end
theorem ZZ:(decide ((0:Int)<0)=false)/\(decide ((0:Int)<1)=true)/\(decide ((1:Int)<1)=false)/\(decide ((0:Int)<2)=true)/\(decide ((1:Int)<2)=true)/\(decide ((2:Int)<2)=false)/\(IntKind.i64.wrap ((0:Int)+1)=1)/\(IntKind.i64.wrap ((1:Int)+1)=2)/\(decide ((0:Int)=0)=true)/\(decide ((1:Int)=1)=true)/\(decide ((0:Int)≠0)=false)/\(decide ((1:Int)=0)=false)/\(decide ((0:Int)<=0)=true)/\(decide ((1:Int)≠1)=false)/\(decide ((2:Int)≠2)=false)/\(decide ((1:Int)≠0)=true)/\(decide ((1:Int)<=1)=true)/\(decide ((1:Int)<=0)=false)/\(decide ((0:Int)<=1)=true)/\(decide ((2:Int)=2)=true):=by decide +kernel
theorem CC:(((0:Nat):Int)=0)/\(((1:Nat):Int)=1)/\(((2:Nat):Int)=2):=⟨rfl,rfl,rfl⟩
theorem g0 {α : Type} {a : α} {l:List α}:(a::l)[0]? = some a:=rfl
theorem g1 {α : Type} {a b : α} {l:List α}:(a::b::l)[1]? = some b:=rfl
theorem g2 {α : Type} {a b c : α} {l:List α}:(a::b::c::l)[2]? = some c:=rfl
theorem WV {σ : ae} {id:Id} {x v y:AV} {k o:Nat} (h : σ id=some ⟨[x],k,false⟩) (hv:v.cells=[v]) (h1:v.one=true) (ho:o+1<=x.size) (hu:x.upd o [v]=y) :
   ir σ 1 (.ref id 0 o) v=some { val := .tup [],rd:=[id],up:=[(id,some ⟨[y],k,false⟩)] }:=by
 rw [gD (n:=1) (v:=v) (els:=[x]) (el:=x) (k:=k) h rfl (by rw [hv];rfl) ho (by rw [hv];simpa using h1),hv,hu]
 rfl
theorem aej {id:Id} {els:List AV} {k:Nat} {b:Bool}:FC [(id,⟨els,k,b⟩)]=[(id,some ⟨els,k,true⟩)]:=rfl
theorem lV {f:FuncId}:ab (.fn (.func f) [] []):=ab.fn (by simp) (by simp)
theorem aek {k:Nat} {e:AV} {es:List AV}:bK k (.sl k (e::es)) (.int .i64 0)=some (.ep e.cells 0):=by simp [bK]
theorem al9 {k:Nat} {d e:AV} {es:List AV}:bK k (.sl k (d::e::es)) (.int .i64 1)=some (.ep e.cells 0):=by simp [bK]
theorem ama {k:Nat} {id:Id} {n:Nat} {t:Bool}:bK k (.osl id k 0 (n+1) t) (.int .i64 0)=some (.ref id 0 0):=by
 simp only [bK];rw [if_pos ⟨trivial,by omega,by omega⟩];rfl
theorem N9 {k:Nat} {id:Id} {t:Bool}:bK k (.osl id k 0 1 t) (.int .i64 0)=some (.ref id 0 0):=ama
theorem ahR {p:Id} {k bytes:Nat} {z:AV} (hb:bytes<=140737488355328) (hz:z.size=k) (h1:z.cells.all AV.one=true):jJ p k bytes z (.int .i64 1) (.int .i64 1)=some { val := .osl p k 0 1 false,up:=[(p,some ⟨[z],k,false⟩)] }:=by
 simp only [jJ]
 rw [if_pos ⟨by decide,by decide,by omega,by decide,hz,h1⟩]
 rfl
theorem LC {p:Id}:jJ p 4 64 (.agg [.bool false, .nils, .bool false, .nils]) (.int .i64 1) (.int .i64 1)=some { val := .osl p 4 0 1 false,up:=[(p,some ⟨[.agg [.bool false, .nils, .bool false, .nils]],4,false⟩)] }:=ahR (by decide) rfl rfl
theorem ahS:bP .shl .int (.int .i64 1) (.int .i64 0)=some (.int .i64 1):=rfl
theorem Oa {k:Nat}:gh k .nils none (some (.int .i64 0)) none=some .nils:=rfl
theorem P8 {σ : ae} {p id:Id} {k bytes:Nat} {e:AV} {b t:Bool} (h : σ id=some ⟨[e],k,b⟩) (hb:bytes<=140737488355328) (h1:e.cells.all AV.one=true) :
   fK σ p k bytes .nils (.osl id k 0 1 t)=some { val := .osl p k 0 1 false,rd:=[id],up:=[(p,some ⟨[e],k,false⟩)] } :=
 Lp (ys:=[e]) (by rw [A4 h rfl (by simp)];rfl) (by simp) (by simpa using hb) (gC (by simp)) (by simpa using h1)
theorem rN {σ : ae} {id:Id} {k:Nat} {e:AV} {b t:Bool} (h : σ id=some ⟨[e],k,b⟩) (hs:e.size=k) (hp:∀ c∈e.cells,ab c):View σ (.osl id k 0 1 t) (.sl k [e]):=by
 refine View.osl (bk:=⟨[e],k,b⟩) h rfl (by simp) ?_ (by simp) (by simpa using hs)
 simpa [flat] using az.pure hp
theorem Fm {σ : ae} {id:Id} {k:Nat} {d e:AV} {b t:Bool} (h : σ id=some ⟨[d,e],k,b⟩) (hd:d.size=k) (hs:e.size=k) (hq:∀ c∈d.cells,ab c) (hp:∀ c∈e.cells,ab c):View σ (.osl id k 0 2 t) (.sl k [d,e]):=by
 refine View.osl (bk:=⟨[d,e],k,b⟩) h rfl (by simp) ?_ (by simp) (by simp [hd,hs])
 have:az σ (flat [d,e]) (flat [d,e]):=az.pure (by intro c hc;simp [flat] at hc;rcases hc with h | h;exact hq c h;exact hp c h)
 simpa using this
end Go.VL
end

section
set_option linter.unusedVariables false
set_option linter.unusedVariables false
namespace Go.VL
theorem uz (q:Rat):part true (QV q).cells 0 2=some (IV q.num):=rfl
theorem uA (q:Rat):part true (QV q).cells 2 2=some (IV q.den):=rfl
theorem eY (q:Rat):part true (QV q).cells 0 4=some (QV q):=rfl
theorem jd (q:Rat):((QV q).cells.all AV.one=true)=True:=PT _ _
theorem Sd (q:Rat):(QV q).size=4:=rfl
theorem cE:ab .nils:=ab.nils
theorem tw (z:Int) (d:Int):kW [.bool false, .nils, .bool false, .nils] [(0,(2,IV z)),(2,(2,IV d))]=some [.bool (decide (z<0)),W z.natAbs, .bool (decide (d<0)),W d.natAbs]:=rfl
theorem D3 {z d:Int} {q:Rat} (h1:q.num=z) (h2:(q.den:Int)=d):AV.agg [.bool (decide (z<0)),W z.natAbs, .bool (decide (d<0)),W d.natAbs]=QV q:=by subst h1;subst h2;rfl
def Ob (P:Program) (G:Nat->Option (List AV)) (f:FuncId):Prop:=∀ a b:Int,aa a.natAbs<=400000->aa b.natAbs<=400000->VP P G f [IV a,IV b] (IV (a+b))
def FM (P:Program) (G:Nat->Option (List AV)) (f:FuncId):Prop:=∀ a b:Int,aa a.natAbs<=400000->aa b.natAbs<=400000->VP P G f [IV a,IV b] (IV (a*b))
def Oc (P:Program) (G:Nat->Option (List AV)) (f:FuncId):Prop:=∀ a:Int,aa a.natAbs<=400000->VP P G f [IV a] (IV (-a))
def LD (P:Program) (G:Nat->Option (List AV)) (f:FuncId):Prop:=∀ a:Int,aa a.natAbs<=400000->VP P G f [IV a] (.int .i64 a.sign)
def acb (P:Program) (G:Nat->Option (List AV)) (f:FuncId):Prop:=∀ a b:Int,aa a.natAbs<=400000->aa b.natAbs<=400000->VP P G f [IV a,IV b] (.int .i64 (iF a b))
def Ig (P:Program) (G:Nat->Option (List AV)) (f:FuncId):Prop:=∀ z:Int,VP P G f [IV z] (.bool (decide (z=1)))
def Z1 (P:Program) (G:Nat->Option (List AV)) (f:FuncId):Prop:=∀ a b:Int,b≠0->aa a.natAbs<=400001->aa b.natAbs<=400000->VP P G f [IV a,IV b] (QV ((a:Rat)/(b:Rat)))
def Se (P:Program) (G:Nat->Option (List AV)) (f:FuncId):Prop:=∀ a b:Rat,Sm 100000 a->Sm 100000 b->VP P G f [QV a,QV b] (QV (a+b))
def Sf (P:Program) (G:Nat->Option (List AV)) (f:FuncId):Prop:=∀ a b:Rat,Sm 100000 a->Sm 100000 b->VP P G f [QV a,QV b] (QV (a*b))
def Sg (P:Program) (G:Nat->Option (List AV)) (f:FuncId):Prop:=∀ a:Rat,Sm 100000 a->VP P G f [QV a] (QV (-a))
def P9 (P:Program) (G:Nat->Option (List AV)) (f:FuncId):Prop:=∀ a:Rat,Sm 100000 a->VP P G f [QV a] (.int .i64 (aZ a))
def acd (P:Program) (G:Nat->Option (List AV)) (f:FuncId):Prop:=∀ a b:Rat,Sm 100000 a->Sm 100000 b->VP P G f [QV a,QV b] (.int .i64 (P6 a b))
def ace (P:Program) (G:Nat->Option (List AV)) (f:FuncId):Prop:=∀ a b:Rat,b≠0->Sm 100000 a->Sm 100000 b->VP P G f [QV a,QV b] (.tup [QV (a/b), .int .i64 0])
def LF (P:Program) (G:Nat->Option (List AV)) (f:FuncId):Prop:=∀ a:Rat,Sm 100000 a->VP P G f [QV a] (.bool true)
def acf (P:Program) (G:Nat->Option (List AV)) (f:FuncId):Prop:=∀ a:Int, -9223372036854775808<=a->a<9223372036854775808->VP P G f [.int .i64 a] (QV (a:Rat))
theorem dS (n:Nat):aa ((n:Nat):Int).natAbs=aa n:=rfl
theorem Bt {q:Rat} (h:(q.den:Int)=1):q=(q.num:Rat):=Rat.ext rfl (by rw [Rat.den_intCast];omega)
section
variable {P:Program} {G:Nat->Option (List AV)}
theorem Z2 {f ft fp fs fc fm:FuncId} (h:Has P f (nD ft fp fs fc fm)) (ht:ja P G ft)
   (hp:∀ m n,aa m<=1000000->aa n<=1000000->VP P G fp [W m,W n] (W (m+n))) (hs:js P G fs) (hc:∀ m n,aa m<=1000000->aa n<=1000000->VP P G fc [W m,W n] (.int .i64 (eM m n)))
   (hm:∀ m n,n<=m->aa m<=1000000->VP P G fm [W m,W n] (W (m-n))):Ob P G f:=fun a b ha hb=>by
 have hta:=ng ht a.natAbs (by omega)
 have htb:=ng ht b.natAbs (by omega)
 have hpv:=hp a.natAbs b.natAbs (by omega) (by omega)
 have hcv:=hc a.natAbs b.natAbs (by omega) (by omega)
 have hwl:aa (a.natAbs+b.natAbs)<=400001:=qb ha hb
 refine VP.has h ?_
 by_cases Mq:decide (a<0)=decide (b<0)
 . have d0:(decide (a<0)==decide (b<0))=true:=by rw [Mq];exact beq_self_eq_true _
   have Sb:=hs (decide (a<0)) (a.natAbs+b.natAbs) (by omega)
   rw [N5 Mq] at Sb
   simp only [nD]
   repeat (first
     | simp (disch:=first | decide | exact rfl) only [SS,DD,Nat.reduceAdd,aq,aj,iG,cu,kf,iZ,d0]
     | with_reducible refine ah (by assumption) (by simp [aC,ab.bool]) ?_
     | with_reducible refine ao (by assumption) (by simp [aC,ab.bool]) ?_
     | with_reducible refine And.intro (a:=ag _ _) (by simp [ag,apart]) ?_
     | with_reducible refine VW.aS 3 (VW.of ?_)
     | with_reducible refine gy.next _ (VW.of ?_)
     | rw [au (by exact rfl) (by exact rfl) (by exact rfl) (by exact rfl) (by exact rfl)]
     | rw [gK (by exact rfl) (by exact rfl) (by exact rfl) (by exact rfl)]
     | rw [gO (by exact rfl) (by exact rfl) (by exact rfl) (by exact rfl) (by exact rfl) (by exact rfl)]
     | fail)
   refine ai▸af (r:=IV (a+b)) ?_ (aA _)
   simp only [RS,bn,bC,aj,di]
 . have d0:(decide (a<0)==decide (b<0))=false:=by simpa using Mq
   by_cases G1:b.natAbs<=a.natAbs
   . have d1:decide (eM a.natAbs b.natAbs<0)=false:=ak (by simp only [eM,iF];rw [if_neg (by omega)];split<;>decide)
     have TI:=hm a.natAbs b.natAbs G1 (by omega)
     have Sb:=hs (decide (a<0)) (a.natAbs-b.natAbs) (by have:=bg (Nat.sub_le a.natAbs b.natAbs);omega)
     rw [D1 Mq G1] at Sb
     simp only [nD]
     repeat (first
       | simp (disch:=first | decide | exact rfl) only [SS,DD,Nat.reduceAdd,aq,aj,iG,cu,kf,iZ,d0,d1]
       | with_reducible refine ah (by assumption) (by simp [aC,ab.bool]) ?_
       | with_reducible refine ao (by assumption) (by simp [aC,ab.bool]) ?_
       | with_reducible refine And.intro (a:=ag _ _) (by simp [ag,apart]) ?_
       | with_reducible refine VW.aS 3 (VW.of ?_)
       | with_reducible refine gy.next _ (VW.of ?_)
       | rw [au (by exact rfl) (by exact rfl) (by exact rfl) (by exact rfl) (by exact rfl)]
       | rw [gK (by exact rfl) (by exact rfl) (by exact rfl) (by exact rfl)]
       | rw [gO (by exact rfl) (by exact rfl) (by exact rfl) (by exact rfl) (by exact rfl) (by exact rfl)]
       | fail)
     refine ai▸af (r:=IV (a+b)) ?_ (aA _)
     simp only [RS,bn,bC,aj,di]
   . have d1:decide (eM a.natAbs b.natAbs<0)=true:=aw (by simp only [eM,iF];rw [if_pos (by omega)];decide)
     have TI:=hm b.natAbs a.natAbs (by omega) (by omega)
     have Sb:=hs (decide (b<0)) (b.natAbs-a.natAbs) (by have:=bg (Nat.sub_le b.natAbs a.natAbs);omega)
     rw [D1 (fun e=>Mq e.symm) (by omega),Int.add_comm] at Sb
     simp only [nD]
     repeat (first
       | simp (disch:=first | decide | exact rfl) only [SS,DD,Nat.reduceAdd,aq,aj,iG,cu,kf,iZ,d0,d1]
       | with_reducible refine ah (by assumption) (by simp [aC,ab.bool]) ?_
       | with_reducible refine ao (by assumption) (by simp [aC,ab.bool]) ?_
       | with_reducible refine And.intro (a:=ag _ _) (by simp [ag,apart]) ?_
       | with_reducible refine VW.aS 3 (VW.of ?_)
       | with_reducible refine gy.next _ (VW.of ?_)
       | rw [au (by exact rfl) (by exact rfl) (by exact rfl) (by exact rfl) (by exact rfl)]
       | rw [gK (by exact rfl) (by exact rfl) (by exact rfl) (by exact rfl)]
       | rw [gO (by exact rfl) (by exact rfl) (by exact rfl) (by exact rfl) (by exact rfl) (by exact rfl)]
       | fail)
     refine ai▸af (r:=IV (a+b)) ?_ (aA _)
     simp only [RS,bn,bC,aj,di]
theorem Z3 {f fn:FuncId} (h:Has P f (sL fn)) (hn:Oc P G fn):Sg P G f:=fun q hq=>by
 have h1:=hn q.num (by have:=hq.1;omega)
 refine VP.has h ?_
 simp only [sL]
 repeat (first
   | simp (disch:=first | decide | exact rfl) only [SS,DD,Nat.reduceAdd,aq,aj,jd,cD,uz,uA,tw,D3 (z := -q.num) (d:=q.den) (q := -q) rfl rfl]
   | with_reducible refine ah (by assumption) (by simp [aA]) ?_
   | with_reducible refine ao (by assumption) (by simp [aA]) ?_
   | with_reducible refine And.intro (a:=ag _ _) (by simp [ag,apart]) ?_
   | with_reducible refine VW.aS 3 (VW.of ?_)
   | with_reducible refine gy.next _ (VW.of ?_)
   | rw [au (by exact rfl) (by exact rfl) (by exact rfl) (by exact rfl) (by exact rfl)]
   | rw [gK (by exact rfl) (by exact rfl) (by exact rfl) (by exact rfl)]
   | rw [gO (by exact rfl) (by exact rfl) (by exact rfl) (by exact rfl) (by exact rfl) (by exact rfl)]
   | fail)
 refine ai▸af (r:=QV (-q)) ?_ (aR _)
 simp only [RS,bn,bC,aj,eY]
theorem Z4 {f fs fm fc:FuncId} (h:Has P f (sJ fs fm fc)) (hs:P9 P G fs) (hm:FM P G fm) (hc:acb P G fc):acd P G f:=fun a b ha hb=>by
 have h1:=hs a ha
 have h2:=hs b hb
 have w1:=cj a.num b.den
 have w2:=cj b.num a.den
 rw [dS] at w1 w2
 have ha1:=ha.1
 have ha2:=ha.2
 have yr:=hb.1
 have zE:=hb.2
 have h3:=hm a.num b.den (by omega) (by rw [dS];omega)
 have h4:=hm b.num a.den (by omega) (by rw [dS];omega)
 have h5:=hc (a.num*b.den) (b.num*a.den) (by omega) (by omega)
 refine VP.has h ?_
 simp only [sJ]
 by_cases hq:aZ a=aZ b
 . have d0:decide (aZ a≠aZ b)=false:=ak (by omega)
   repeat (first
     | simp (disch:=first | decide | exact rfl) only [SS,DD,Nat.reduceAdd,aq,aj,jd,uz,uA,eY,d0]
     | with_reducible refine ah (by assumption) (by simp [aA]) ?_
     | with_reducible refine ao (by assumption) (by simp [aA,aR]) ?_
     | with_reducible refine And.intro (a:=ag _ _) (by simp [ag,apart]) ?_
     | with_reducible refine VW.aS 3 (VW.of ?_)
     | with_reducible refine gy.next _ (VW.of ?_)
     | rw [au (by exact rfl) (by exact rfl) (by exact rfl) (by exact rfl) (by exact rfl)]
     | rw [gK (by exact rfl) (by exact rfl) (by exact rfl) (by exact rfl)]
     | rw [gO (by exact rfl) (by exact rfl) (by exact rfl) (by exact rfl) (by exact rfl) (by exact rfl)]
     | fail)
   exact ai▸af rfl (ab.int _ _)
 . have d0:decide (aZ a≠aZ b)=true:=aw (by omega)
   rw [T5 hq]
   by_cases hl:aZ a<aZ b
   . have d1:decide (aZ a<aZ b)=true:=aw hl
     rw [if_pos hl]
     repeat (first
       | simp (disch:=first | decide | exact rfl) only [SS,DD,Nat.reduceAdd,aq,aj,jd,eY,d0,d1]
       | with_reducible refine ah (by assumption) (by simp [aA]) ?_
       | with_reducible refine ao (by assumption) (by simp [aA,aR]) ?_
       | with_reducible refine And.intro (a:=ag _ _) (by simp [ag,apart]) ?_
       | with_reducible refine VW.aS 3 (VW.of ?_)
       | with_reducible refine gy.next _ (VW.of ?_)
       | rw [au (by exact rfl) (by exact rfl) (by exact rfl) (by exact rfl) (by exact rfl)]
       | rw [gK (by exact rfl) (by exact rfl) (by exact rfl) (by exact rfl)]
       | rw [gO (by exact rfl) (by exact rfl) (by exact rfl) (by exact rfl) (by exact rfl) (by exact rfl)]
       | fail)
     exact ai▸af rfl (ab.int _ _)
   . have d1:decide (aZ a<aZ b)=false:=ak hl
     rw [if_neg hl]
     repeat (first
       | simp (disch:=first | decide | exact rfl) only [SS,DD,Nat.reduceAdd,aq,aj,jd,eY,d0,d1]
       | with_reducible refine ah (by assumption) (by simp [aA]) ?_
       | with_reducible refine ao (by assumption) (by simp [aA,aR]) ?_
       | with_reducible refine And.intro (a:=ag _ _) (by simp [ag,apart]) ?_
       | with_reducible refine VW.aS 3 (VW.of ?_)
       | with_reducible refine gy.next _ (VW.of ?_)
       | rw [au (by exact rfl) (by exact rfl) (by exact rfl) (by exact rfl) (by exact rfl)]
       | rw [gK (by exact rfl) (by exact rfl) (by exact rfl) (by exact rfl)]
       | rw [gO (by exact rfl) (by exact rfl) (by exact rfl) (by exact rfl) (by exact rfl) (by exact rfl)]
       | fail)
     exact ai▸af rfl (ab.int _ _)
theorem Z5 {f fi fa fo fm fl:FuncId} (h:Has P f (sK fi fa fo fm fl)) (hi:Ig P G fi) (hA:Ob P G fa) (ho:VP P G fo [] (IV 1)) (hm:FM P G fm) (hl:Z1 P G fl):Se P G f:=fun a b ha hb=>by
 have i1:=hi a.den
 have i2:=hi b.den
 have w1:=cj a.num b.den
 have w2:=cj b.num a.den
 have w3:=cj a.den b.den
 rw [dS] at w1 w2 w3
 rw [dS] at w3
 have ha1:=ha.1
 have ha2:=ha.2
 have yr:=hb.1
 have zE:=hb.2
 have m1:=hm a.num b.den (by omega) (by rw [dS];omega)
 have m2:=hm b.num a.den (by omega) (by rw [dS];omega)
 have m3:=hm a.den b.den (by rw [dS];omega) (by rw [dS];omega)
 have s1:=hA (a.num*b.den) (b.num*a.den) (by omega) (by omega)
 have yf:aa (a.num*b.den+b.num*a.den).natAbs<=400001:=Nat.le_trans (bg (Int.natAbs_add_le _ _)) (qb (k:=400000) (by omega) (by omega))
 have l1:=hl (a.num*b.den+b.num*a.den) (a.den*b.den) (yk a b) yf (by omega)
 rw [<- aca] at l1
 have s2:=hA a.num b.num (by omega) (by omega)
 refine VP.has h ?_
 simp only [sK]
 by_cases hda:(a.den:Int)=1
 . have d1:decide ((a.den:Int)=1)=true:=aw hda
   by_cases hdb:(b.den:Int)=1
   . have d2:decide ((b.den:Int)=1)=true:=aw hdb
     have hq:a+b=((a.num+b.num:Int):Rat):=by rw [Rat.intCast_add, <- Bt hda, <- Bt hdb]
     repeat (first
       | simp (disch:=first | decide | exact rfl) only [SS,Nat.reduceAdd,aq,aj,jd,cD,uz,uA,d1,d2,tw]
       | with_reducible refine ah (by assumption) (by simp [aA]) ?_
       | with_reducible refine ao (by assumption) (by simp [aA]) ?_
       | with_reducible refine And.intro (a:=ag _ _) (by simp [ag,apart]) ?_
       | with_reducible refine VW.aS 3 (VW.of ?_)
       | with_reducible refine gy.next _ (VW.of ?_)
       | rw [au (by exact rfl) (by exact rfl) (by exact rfl) (by exact rfl) (by exact rfl)]
       | rw [gK (by exact rfl) (by exact rfl) (by exact rfl) (by exact rfl)]
       | rw [gO (by exact rfl) (by exact rfl) (by exact rfl) (by exact rfl) (by exact rfl) (by exact rfl)]
       | fail)
     refine ai▸af (r:=QV (a+b)) ?_ (aR _)
     simp only [RS,bn,bC,aj]
     rw [hq];rfl
   . have d2:decide ((b.den:Int)=1)=false:=ak hdb
     repeat (first
       | simp (disch:=first | decide | exact rfl) only [SS,DD,Nat.reduceAdd,aq,aj,jd,cD,cu,di,uz,uA,d1,d2]
       | with_reducible refine ah (by assumption) (by simp [aA]) ?_
       | with_reducible refine ao (by assumption) (by simp [aA]) ?_
       | with_reducible refine And.intro (a:=ag _ _) (by simp [ag,apart]) ?_
       | with_reducible refine VW.aS 3 (VW.of ?_)
       | with_reducible refine gy.next _ (VW.of ?_)
       | rw [au (by exact rfl) (by exact rfl) (by exact rfl) (by exact rfl) (by exact rfl)]
       | rw [gK (by exact rfl) (by exact rfl) (by exact rfl) (by exact rfl)]
       | rw [gO (by exact rfl) (by exact rfl) (by exact rfl) (by exact rfl) (by exact rfl) (by exact rfl)]
       | fail)
     refine ai▸af (r:=QV (a+b)) ?_ (aR _)
     simp only [RS,bn,bC,aj,eY]
 . have d1:decide ((a.den:Int)=1)=false:=ak hda
   repeat (first
     | simp (disch:=first | decide | exact rfl) only [SS,DD,Nat.reduceAdd,aq,aj,jd,cD,cu,di,uz,uA,d1]
     | with_reducible refine ah (by assumption) (by simp [aA]) ?_
     | with_reducible refine ao (by assumption) (by simp [aA]) ?_
     | with_reducible refine And.intro (a:=ag _ _) (by simp [ag,apart]) ?_
     | with_reducible refine VW.aS 3 (VW.of ?_)
     | with_reducible refine gy.next _ (VW.of ?_)
     | rw [au (by exact rfl) (by exact rfl) (by exact rfl) (by exact rfl) (by exact rfl)]
     | rw [gK (by exact rfl) (by exact rfl) (by exact rfl) (by exact rfl)]
     | rw [gO (by exact rfl) (by exact rfl) (by exact rfl) (by exact rfl) (by exact rfl) (by exact rfl)]
     | fail)
   refine ai▸af (r:=QV (a+b)) ?_ (aR _)
   simp only [RS,bn,bC,aj,eY]
theorem T7 {f:FuncId} (h:Has P f pC) (z:Int):VP P G f [IV z] (.bool (decide (z=0))):=by
 have e:decide ((aa z.natAbs:Int)=0)=decide (z=0):=by
   have:=cg (n:=z.natAbs)
   congr 1;apply propext;omega
 refine VP.has h ?_
 simp only [pC]
 repeat (first
   | simp (disch:=first | decide | exact rfl) only [SS,Nat.reduceAdd,aj,iG,iZ,bb,e]
   | with_reducible refine ah (by assumption) (by simp [aA,aC,aR,ab.int,ab.bool,ab.str,cE]) ?_
   | with_reducible refine ao (by assumption) (by simp [aA,aC,aR,ab.int,ab.bool,ab.str,cE]) ?_
   | with_reducible refine And.intro (a:=ag _ _) (by simp [ag,apart]) ?_
   | with_reducible refine VW.aS 3 (VW.of ?_)
   | with_reducible refine gy.next _ (VW.of ?_)
   | rw [au (by exact rfl) (by exact rfl) (by exact rfl) (by exact rfl) (by exact rfl)]
   | rw [gK (by exact rfl) (by exact rfl) (by exact rfl) (by exact rfl)]
   | rw [gO (by exact rfl) (by exact rfl) (by exact rfl) (by exact rfl) (by exact rfl) (by exact rfl)]
   | fail)
 exact ai▸af rfl (ab.bool _)
theorem Z6 {f fz fm fl:FuncId} (h:Has P f (sM fz fm fl)) (hz:∀ z:Int,VP P G fz [IV z] (.bool (decide (z=0)))) (hm:FM P G fm) (hl:Z1 P G fl):ace P G f:=fun a b Gl ha hb=>by
 have hbn:b.num≠0:=fun e=>Gl (Rat.num_eq_zero.1 e)
 have i1:=hz b.num
 have d1:decide (b.num=0)=false:=ak hbn
 rw [d1] at i1
 have w1:=cj a.num b.den
 have w2:=cj a.den b.num
 rw [dS] at w1 w2
 have ha1:=ha.1
 have ha2:=ha.2
 have yr:=hb.1
 have zE:=hb.2
 have m1:=hm a.num b.den (by omega) (by rw [dS];omega)
 have m2:=hm a.den b.num (by rw [dS];omega) (by omega)
 have l1:=hl (a.num*b.den) (a.den*b.num) (Int.mul_ne_zero (P4 a) hbn) (by omega) (by omega)
 rw [<- ahQ] at l1
 refine VP.has h ?_
 simp only [sM]
 repeat (first
   | simp (disch:=first | decide | exact rfl) only [SS,DD,Nat.reduceAdd,aq,aj,jd,cD,uz,uA]
   | with_reducible refine ah (by assumption) (by simp [aA]) ?_
   | with_reducible refine ao (by assumption) (by simp [aA]) ?_
   | with_reducible refine And.intro (a:=ag _ _) (by simp [ag,apart]) ?_
   | with_reducible refine VW.aS 3 (VW.of ?_)
   | with_reducible refine gy.next _ (VW.of ?_)
   | rw [au (by exact rfl) (by exact rfl) (by exact rfl) (by exact rfl) (by exact rfl)]
   | rw [gK (by exact rfl) (by exact rfl) (by exact rfl) (by exact rfl)]
   | rw [gO (by exact rfl) (by exact rfl) (by exact rfl) (by exact rfl) (by exact rfl) (by exact rfl)]
   | fail)
 refine ai▸af (r := .tup [QV (a/b), .int .i64 0]) ?_ (ab.tup (by simp [aR,ab.int]))
 simp only [RS,bn,bC,aj,eY]
end
end Go.VL
end

section
set_option linter.unusedVariables false
set_option linter.unusedVariables false
namespace Go.VL
theorem ahV (a:Int) (b:Nat) (hb:b≠0):QV ((a:Rat)/((b:Int):Rat))=RV (a/(Nat.gcd a.natAbs b:Nat)) ((b:Int)/(Nat.gcd a.natAbs b:Nat)):=by
 have h:=Ie a b (by omega)
 rw [if_neg (by omega),Int.natAbs_natCast,Int.fdiv_eq_ediv_of_nonneg _ (Int.natCast_nonneg _),Int.fdiv_eq_ediv_of_nonneg _ (Int.natCast_nonneg _)] at h
 exact h.symm
theorem Z7 (a b:Rat):(a+b).num=(a.num*((b.den/Nat.gcd a.den b.den:Nat):Int)+b.num*((a.den/Nat.gcd a.den b.den:Nat):Int))/(Nat.gcd (a.num*((b.den/Nat.gcd a.den b.den:Nat):Int)+b.num*((a.den/Nat.gcd a.den b.den:Nat):Int)).natAbs (Nat.gcd a.den b.den):Nat) /\
   (a+b).den=a.den/Nat.gcd a.den b.den*(b.den/Nat.gcd (a.num*((b.den/Nat.gcd a.den b.den:Nat):Int)+b.num*((a.den/Nat.gcd a.den b.den:Nat):Int)).natAbs (Nat.gcd a.den b.den)):=by
 show (Rat.add a b).num=_/\(Rat.add a b).den=_
 unfold Rat.add
 dsimp only
 split
 . rename_i h
   simp [h]
 . unfold Rat.maybeNormalize
   have hd:∀ x:Nat,Nat.gcd x (Nat.gcd a.den b.den) ∣ b.den:=fun x=>Nat.dvd_trans (Nat.gcd_dvd_right _ _) (Nat.gcd_dvd_right _ _)
   split
   . rename_i h
     have e:∀ (N:Int) (k x y:Nat),k=1->N=N/(k:Int)/\x*y=x*(y/k):=by
       intro N k x y hk;subst hk;simp
     exact e _ _ _ _ h
   . refine ⟨rfl, ?_⟩
     exact Nat.mul_div_assoc _ (hd _)
theorem Z8 (a b:Rat):(a*b).num=a.num/(Nat.gcd a.num.natAbs b.den:Nat)*(b.num/(Nat.gcd b.num.natAbs a.den:Nat))/\(a*b).den=a.den/Nat.gcd b.num.natAbs a.den*(b.den/Nat.gcd a.num.natAbs b.den):=by
 show (Rat.mul a b).num=_/\(Rat.mul a b).den=_
 unfold Rat.mul
 simp
def WW (P:Program) (G:Nat->Option (List AV)) (f:FuncId):Prop:=∀ z:Int,aa z.natAbs<=1000000->VP P G f [IV z] (IV z)
def Ko (P:Program) (G:Nat->Option (List AV)) (f:FuncId):Prop:=∀ a b:Int,aa a.natAbs<=400001->aa b.natAbs<=400000->VP P G f [IV a,IV b] (IV (Nat.gcd a.natAbs b.natAbs:Nat))
def Si (P:Program) (G:Nat->Option (List AV)) (f:FuncId):Prop:=∀ a b:Int,0<b->b ∣ a->aa a.natAbs<=400001->aa b.natAbs<=400000->VP P G f [IV a,IV b] (IV (a/b))
section
variable {P:Program} {G:Nat->Option (List AV)}
theorem WX {f fn fd fs fm fsu fsg ffi fa:FuncId} (h:Has P f (jZ fn fd fs fm fsu fsg ffi fa)) (hn:WW P G fn) (hd:∀ m n,n≠0->aa m<=900000->aa n<=900000->VP P G fd [W m,W n] (.tup [W (m/n),W (m%n)])) (hs:js P G fs)
   (hm:∀ a b:Int,aa a.natAbs<=1000000->aa b.natAbs<=1000000->VP P G fm [IV a,IV b] (IV (a*b))) (hsu:∀ a b:Int,aa a.natAbs<=1000000->aa b.natAbs<=1000000->VP P G fsu [IV a,IV b] (IV (a-b)))
   (o9:∀ z:Int,aa z.natAbs<=1000000->VP P G fsg [IV z] (.int .i64 z.sign)) (a b:Int) (Gl:0<b) (hba:b ∣ a) (ha:aa a.natAbs<=900000) (hb:aa b.natAbs<=900000) :
   VP P G f [IV a,IV b] (.tup [IV (a/b),IV 0, .int .i64 0]):=by
 have h1:=hn a (by omega)
 have h2:=hn b (by omega)
 have h3:=hd a.natAbs b.natAbs (by omega) ha hb
 have e:a.natAbs/b.natAbs=(a/b).natAbs:=by
   obtain ⟨c,rfl⟩:=hba
   rw [Int.mul_ediv_cancel_left _ (by omega),Int.natAbs_mul,Nat.mul_div_cancel_left _ (by omega)]
 have hw:aa (a/b).natAbs<=900000:=by rw [<- e];exact Nat.le_trans (bg (Nat.div_le_self _ _)) ha
 have h4:=hs (decide (a<0)) (a.natAbs/b.natAbs) (by rw [e];omega)
 have e4:kT (decide (a<0)) (a.natAbs/b.natAbs)=a/b:=by
   obtain ⟨c,rfl⟩:=hba
   rw [Int.mul_ediv_cancel_left _ (by omega),Int.natAbs_mul,Nat.mul_div_cancel_left _ (by omega)]
   have:decide (b*c<0)=decide (c<0):=by
     congr 1;apply propext
     constructor
     . intro h;rcases Int.lt_or_le c 0 with h1 | h1
       . exact h1
       . have:=Int.mul_nonneg (Int.le_of_lt Gl) h1;omega
     . intro h;exact Int.mul_neg_of_pos_of_neg Gl h
   rw [this,DY]
 rw [e4] at h4
 have h5:=hm (a/b) b (by omega) (by omega)
 rw [Int.ediv_mul_cancel hba] at h5
 have h6:=hsu a a (by omega) (by omega)
 rw [Int.sub_self] at h6
 have h7:VP P G fsg [IV 0] (.int .i64 0):=o9 0 (by simp [aa,bo])
 have h8:=o9 b (by omega)
 rw [Int.sign_eq_one_of_pos Gl] at h8
 have UT:aa b.natAbs≠0:=fun e=>by have:=cg.1 e;omega
 have d0:decide ((aa b.natAbs:Int)=0)=false:=ak (by omega)
 have d1:(!(decide (a<0)==decide (b<0)))=decide (a<0):=by rw [ak (show ¬ b<0 by omega)];cases decide (a<0)<;>rfl
 have w0:IntKind.i64.wrap ((0:Int)*1)=0:=by decide
 refine VP.has h ?_
 simp only [jZ]
 repeat (first
   | simp (disch:=first | decide | exact rfl) only [SS,DD,Nat.reduceAdd,aq,aj,ZZ,g0,g1,iG,cu,kf,iZ,di,bb,d0,d1,w0]
   | with_reducible refine ah (by assumption) (by simp [aA,aC,ab.bool]) ?_
   | with_reducible refine ao (by assumption) (by simp [aA]) ?_
   | with_reducible refine And.intro (a:=ag _ _) (by simp [ag,apart]) ?_
   | with_reducible refine VW.aS 3 (VW.of ?_)
   | with_reducible refine gy.next _ (VW.of ?_)
   | rw [au (by exact rfl) (by exact rfl) (by exact rfl) (by exact rfl) (by exact rfl)]
   | rw [gK (by exact rfl) (by exact rfl) (by exact rfl) (by exact rfl)]
   | rw [gO (by exact rfl) (by exact rfl) (by exact rfl) (by exact rfl) (by exact rfl) (by exact rfl)]
   | fail)
 refine ai▸af (r := .tup [IV (a/b),IV 0, .int .i64 0]) ?_ (ab.tup (by simp [aA,ab.int]))
 simp (disch:=decide) only [RS,bn,bC,aq,aj,di]
theorem WY {f fd:FuncId} (h:Has P f (mf fd)) (a b:Int) (hd:VP P G fd [IV a,IV b] (.tup [IV (a/b),IV 0, .int .i64 0])):VP P G f [IV a,IV b] (IV (a/b)):=by
 refine VP.has h ?_
 simp only [mf]
 repeat (first
   | simp (disch:=first | decide | exact rfl) only [SS,Nat.reduceAdd,aq,aj,g0,g1,g2,iG,cu,di]
   | with_reducible refine ah (by assumption) (by simp [aA]) ?_
   | with_reducible refine ao (by assumption) (by simp [aA]) ?_
   | with_reducible refine And.intro (a:=ag _ _) (by simp [ag,apart]) ?_
   | with_reducible refine VW.aS 3 (VW.of ?_)
   | with_reducible refine gy.next _ (VW.of ?_)
   | rw [au (by exact rfl) (by exact rfl) (by exact rfl) (by exact rfl) (by exact rfl)]
   | rw [gK (by exact rfl) (by exact rfl) (by exact rfl) (by exact rfl)]
   | rw [gO (by exact rfl) (by exact rfl) (by exact rfl) (by exact rfl) (by exact rfl) (by exact rfl)]
   | fail)
 refine ai▸af (r:=IV (a/b)) ?_ (aA _)
 simp (disch:=decide) only [RS,bn,bC,aj,di]
theorem WZ {f fn:FuncId} (h:Has P f (mr fn)) (hn:Oc P G fn):Sg P G f:=fun q hq=>by
 have h1:=hn q.num (by have:=hq.1;omega)
 refine VP.has h ?_
 simp only [mr]
 repeat (first
   | simp (disch:=first | decide | exact rfl) only [SS,DD,Nat.reduceAdd,aq,aj,jd,cD,uz,uA,tw,D3 (z := -q.num) (d:=q.den) (q := -q) rfl rfl]
   | with_reducible refine ah (by assumption) (by simp [aA]) ?_
   | with_reducible refine ao (by assumption) (by simp [aA]) ?_
   | with_reducible refine And.intro (a:=ag _ _) (by simp [ag,apart]) ?_
   | with_reducible refine VW.aS 3 (VW.of ?_)
   | with_reducible refine gy.next _ (VW.of ?_)
   | rw [au (by exact rfl) (by exact rfl) (by exact rfl) (by exact rfl) (by exact rfl)]
   | rw [gK (by exact rfl) (by exact rfl) (by exact rfl) (by exact rfl)]
   | rw [gO (by exact rfl) (by exact rfl) (by exact rfl) (by exact rfl) (by exact rfl) (by exact rfl)]
   | fail)
 refine ai▸af (r:=QV (-q)) ?_ (aR _)
 simp only [RS,bn,bC,aj,eY]
theorem T8 {f fg fs fn fq:FuncId} (h:Has P f (lB fg fs fn fq)) (hg:Ko P G fg) (hs:LD P G fs) (hq:Si P G fq) (a:Int) (b:Nat) (Gl:b≠0) (ha:aa a.natAbs<=400000) (hb:aa b<=400000):VP P G f [IV a,IV b] (QV ((a:Rat)/((b:Int):Rat))):=by
 have h1:=hg a b (by omega) hb
 rw [Int.natAbs_natCast] at h1
 have h2:=hs b hb
 rw [Int.sign_eq_one_of_pos (by omega)] at h2
 have hgp:0<Nat.gcd a.natAbs b:=Nat.gcd_pos_of_pos_right _ (by omega)
 have hgl:aa (((Nat.gcd a.natAbs b:Nat):Int)).natAbs<=400000:=Nat.le_trans (bg (Nat.le_of_dvd (by omega) (Nat.gcd_dvd_right _ _))) hb
 have h3:=hq a (Nat.gcd a.natAbs b:Nat) (by omega) (Int.ofNat_dvd_left.2 (Nat.gcd_dvd_left _ _)) (by omega) hgl
 have h4:=hq b (Nat.gcd a.natAbs b:Nat) (by omega) (Int.ofNat_dvd_left.2 (by rw [Int.natAbs_natCast];exact Nat.gcd_dvd_right _ _)) (by rw [dS];omega) hgl
 have e:=ahV a b Gl
 have e2:AV.agg [.bool (decide (a/(Nat.gcd a.natAbs b:Nat)<0)),W (a/(Nat.gcd a.natAbs b:Nat)).natAbs, .bool (decide ((b:Int)/(Nat.gcd a.natAbs b:Nat)<0)),W ((b:Int)/(Nat.gcd a.natAbs b:Nat)).natAbs]=QV ((a:Rat)/((b:Int):Rat)):=e.symm
 have d0:decide ((1:Int)<0)=false:=rfl
 refine VP.has h ?_
 simp only [lB]
 repeat (first
   | simp (disch:=first | decide | exact rfl) only [SS,DD,Nat.reduceAdd,aq,aj,iG,cu,cD,di,tw,e2,d0]
   | with_reducible refine ah (by assumption) (by simp [aA]) ?_
   | with_reducible refine ao (by assumption) (by simp [aA]) ?_
   | with_reducible refine And.intro (a:=ag _ _) (by simp [ag,apart]) ?_
   | with_reducible refine VW.aS 3 (VW.of ?_)
   | with_reducible refine gy.next _ (VW.of ?_)
   | rw [au (by exact rfl) (by exact rfl) (by exact rfl) (by exact rfl) (by exact rfl)]
   | rw [gK (by exact rfl) (by exact rfl) (by exact rfl) (by exact rfl)]
   | rw [gO (by exact rfl) (by exact rfl) (by exact rfl) (by exact rfl) (by exact rfl) (by exact rfl)]
   | fail)
 refine ai▸af (r:=QV ((a:Rat)/((b:Int):Rat))) ?_ (aR _)
 simp (disch:=decide) only [RS,bn,bC,aj,eY]
theorem T9 {f fi fI fm:FuncId} (h:Has P f (lC fi fI fm)) (a:Int) (b:Nat) (Gl:b≠0) (h1:VP P G fI [.int .i64 a] (IV a)) (h2:VP P G fI [.int .i64 (b:Int)] (IV (b:Int))) (hm:VP P G fm [IV a,IV b] (QV ((a:Rat)/((b:Int):Rat)))):VP P G f [.int .i64 a, .int .i64 (b:Int)] (QV ((a:Rat)/((b:Int):Rat))):=by
 have d0:decide ((b:Int)=0)=false:=ak (by omega)
 refine VP.has h ?_
 simp only [lC]
 repeat (first
   | simp (disch:=first | decide | exact rfl) only [SS,Nat.reduceAdd,cD,d0]
   | with_reducible refine ah (by assumption) (by simp [aA,ab.int]) ?_
   | with_reducible refine ao (by assumption) (by simp [aA]) ?_
   | with_reducible refine And.intro (a:=ag _ _) (by simp [ag,apart]) ?_
   | with_reducible refine VW.aS 3 (VW.of ?_)
   | with_reducible refine gy.next _ (VW.of ?_)
   | rw [au (by exact rfl) (by exact rfl) (by exact rfl) (by exact rfl) (by exact rfl)]
   | rw [gK (by exact rfl) (by exact rfl) (by exact rfl) (by exact rfl)]
   | rw [gO (by exact rfl) (by exact rfl) (by exact rfl) (by exact rfl) (by exact rfl) (by exact rfl)]
   | fail)
 refine ai▸af (r:=QV ((a:Rat)/((b:Int):Rat))) ?_ (aR _)
 simp (disch:=decide) only [RS,bn,bC,aj,eY]
end
end Go.VL
end

section
set_option linter.unusedVariables false
set_option linter.unusedVariables false
namespace Go.VL
def EV (q:Rat):AV := .sl 4 [QV q]
theorem qc (q:Rat):∀ c∈(QV q).cells,ab c:=by
 intro c hc
 simp only [QV,RV,AV.cells,List.mem_cons,List.not_mem_nil,or_false] at hc
 rcases hc with rfl | rfl | rfl | rfl
 . exact ab.bool _
 . exact aC _
 . exact ab.bool _
 . exact aC _
theorem aW (q:Rat):ab (EV q):=ab.sl (by intro c hc;simp only [flat,List.flatMap_cons,List.flatMap_nil,List.append_nil] at hc;exact qc q c hc)
theorem Ih (q:Rat):ni false (EV q)=some (.int .i64 1):=rfl
theorem FN (q:Rat):bK 4 (EV q) (.int .i64 0)=some (.ep (QV q).cells 0):=aek
theorem CU {σ : ae} {id:Id} {q:Rat} {b t:Bool} (h : σ id=some ⟨[QV q],4,b⟩):View σ (.osl id 4 0 1 t) (EV q):=rN h rfl (qc q)
section
variable {P:Program} {G:Nat->Option (List AV)}
theorem Z9 {f fa:FuncId} (h:Has P f (zX fa)) (a b:Rat) (hA:VP P G fa [QV a,QV b] (QV (a+b))):VP P G f [EV a,EV b] (EV (a+b)):=by
 refine VP.has h ?_
 simp only [zX]
 repeat (first
   | simp (disch:=first | decide | exact rfl) only [SS,DD,Nat.reduceAdd,aY,ZZ,CC,Ih,FN,aK,eY,ZZ,LC,N9]
   | with_reducible refine ah (by assumption) (by simp [aR]) ?_
   | with_reducible refine ao (by assumption) (by simp [aR]) ?_
   | with_reducible refine And.intro (a:=ag _ _) (by simp [ag,apart]) ?_
   | with_reducible refine VW.aS 3 (VW.of ?_)
   | with_reducible refine gy.next _ (VW.of ?_)
   | rw [au (by exact rfl) (by exact rfl) (by exact rfl) (by exact rfl) (by exact rfl)]
   | rw [gK (by exact rfl) (by exact rfl) (by exact rfl) (by exact rfl)]
   | rw [gO (by exact rfl) (by exact rfl) (by exact rfl) (by exact rfl) (by exact rfl) (by exact rfl)]
   | fail)
 refine ai▸⟨_,rfl,CU (by exact rfl)⟩
theorem aaa {f fa:FuncId} (h:Has P f (zY fa)) (a:Rat) (hA:VP P G fa [QV a] (QV (-a))):VP P G f [EV a] (EV (-a)):=by
 refine VP.has h ?_
 simp only [zY]
 repeat (first
   | simp (disch:=first | decide | exact rfl) only [SS,Nat.reduceAdd,aj,aY,ZZ,Ih,FN,aK,eY,cD,ZZ,LC,N9]
   | with_reducible refine ah (by assumption) (by simp [aR]) ?_
   | with_reducible refine ao (by assumption) (by simp [aR]) ?_
   | with_reducible refine And.intro (a:=ag _ _) (by simp [ag,apart]) ?_
   | with_reducible refine VW.aS 3 (VW.of ?_)
   | with_reducible refine gy.next _ (VW.of ?_)
   | rw [au (by exact rfl) (by exact rfl) (by exact rfl) (by exact rfl) (by exact rfl)]
   | rw [gK (by exact rfl) (by exact rfl) (by exact rfl) (by exact rfl)]
   | rw [gO (by exact rfl) (by exact rfl) (by exact rfl) (by exact rfl) (by exact rfl) (by exact rfl)]
   | fail)
 refine ai▸⟨_,rfl,CU (by exact rfl)⟩
end
end Go.VL
end

section
set_option linter.unusedVariables false
set_option linter.unusedVariables false
namespace Go.VL
def NV (q:Rat):AV := .agg [.nils,EV q]
theorem bH (q:Rat):ab (NV q):=ab.agg (by intro c hc;simp at hc;rcases hc with rfl | rfl;exact ab.nils;exact aW q)
theorem CV (q:Rat):((NV q).cells.all AV.one=true)=True:=by simp [NV,AV.cells,AV.one,EV]
theorem Od (q:Rat):part false (NV q).cells 0 1=some .nils:=rfl
theorem Oe (q:Rat):part false (NV q).cells 1 1=some (EV q):=rfl
theorem tz (q:Rat):part true (NV q).cells 0 2=some (NV q):=rfl
theorem kg (q:Rat):∀ c∈(NV q).cells,ab c:=by
 intro c hc
 simp only [NV,AV.cells,List.mem_cons,List.not_mem_nil,or_false] at hc
 rcases hc with rfl | rfl
 . exact ab.nils
 . exact aW q
theorem ss:((AV.cells (.agg [.nils, .nils])).all AV.one=true)=True:=by simp [AV.cells,AV.one]
theorem Sj (q:Rat):kW [.nils, .nils] [(0,(1, .nils)),(1,(1,EV q))]=some [.nils,EV q]:=rfl
theorem ach (q:Rat):AV.agg [.nils,EV q]=NV q:=rfl
theorem W0 {σ : ae} {id:Id} {k:Nat} {q:Rat} {x:AV} (h : σ id=some ⟨[.agg [.nils,x]],k,false⟩):ir σ 1 (.ref id 0 1) (EV q)=some { val := .tup [],rd:=[id],up:=[(id,some ⟨[NV q],k,false⟩)] } :=
 WV h rfl rfl (by simp [AV.size,AV.cells]) rfl
theorem W4 {σ : ae} {id:Id} {k:Nat} {q r:Rat} (h : σ id=some ⟨[NV q],k,false⟩):ir σ 1 (.ref id 0 1) (EV r)=some { val := .tup [],rd:=[id],up:=[(id,some ⟨[NV r],k,false⟩)] }:=W0 h
theorem D4 (q:Rat):part false (QV q).cells 1 1=some (W q.num.natAbs):=rfl
section
variable {P:Program} {G:Nat->Option (List AV)}
theorem aab {f ff fn fa:FuncId} (h:Has P f (zZ ff fn fa)) (a b:Rat) (hf:VP P G ff [.nils,EV a,EV b] (.bool true)) (hn:VP P G fn [EV b] (EV (-b))) (hA:VP P G fa [EV a,EV (-b)] (EV (a + -b))):VP P G f [.nils,EV a,EV b] (EV (a-b)):=by
 rw [<- Rat.sub_eq_add_neg] at hA
 refine VP.has h ?_
 simp only [zZ]
 repeat (first
   | simp (disch:=first | decide | exact rfl) only [SS,Nat.reduceAdd]
   | with_reducible refine ah (by assumption) (by simp [cE,aW]) ?_
   | with_reducible refine ao (by assumption) (by simp [aW]) ?_
   | with_reducible refine And.intro (a:=ag _ _) (by simp [ag,apart]) ?_
   | with_reducible refine VW.aS 3 (VW.of ?_)
   | with_reducible refine gy.next _ (VW.of ?_)
   | rw [au (by exact rfl) (by exact rfl) (by exact rfl) (by exact rfl) (by exact rfl)]
   | rw [gK (by exact rfl) (by exact rfl) (by exact rfl) (by exact rfl)]
   | rw [gO (by exact rfl) (by exact rfl) (by exact rfl) (by exact rfl) (by exact rfl) (by exact rfl)]
   | fail)
 exact ai▸af rfl (aW _)
theorem aac {f ff fn:FuncId} (h:Has P f (z5 ff fn)) (a:Rat) (hf:VP P G ff [.nils,EV a] (.bool true)) (hn:VP P G fn [EV a] (EV (-a))):VP P G f [.nils,EV a] (EV (-a)):=by
 refine VP.has h ?_
 simp only [z5]
 repeat (first
   | simp (disch:=first | decide | exact rfl) only [SS,Nat.reduceAdd]
   | with_reducible refine ah (by assumption) (by simp [cE,aW]) ?_
   | with_reducible refine ao (by assumption) (by simp [aW]) ?_
   | with_reducible refine And.intro (a:=ag _ _) (by simp [ag,apart]) ?_
   | with_reducible refine VW.aS 3 (VW.of ?_)
   | with_reducible refine gy.next _ (VW.of ?_)
   | rw [au (by exact rfl) (by exact rfl) (by exact rfl) (by exact rfl) (by exact rfl)]
   | rw [gK (by exact rfl) (by exact rfl) (by exact rfl) (by exact rfl)]
   | rw [gO (by exact rfl) (by exact rfl) (by exact rfl) (by exact rfl) (by exact rfl) (by exact rfl)]
   | fail)
 exact ai▸af rfl (aW _)
theorem Of {f f1 f2 f3 f4 f6 f7 f8:FuncId} (h:Has P f (rC f1 f2 f3 f4 f f6 f7 f8)) (a:Rat) (hi:VP P G f1 [.int .i64 1] (QV 1)) (hd:VP P G f2 [QV 1,QV a] (.tup [QV (1/a), .int .i64 0])) :
   VP P G f [.nils,EV a] (.tup [EV (1/a), .bool true]):=by
 refine VP.has h ?_
 simp only [rC]
 repeat (first
   | simp (disch:=first | decide | exact rfl) only [SS,DD,Nat.reduceAdd,aj,g0,g1,decide_true,FN,aK,eY,cD]
   | with_reducible refine ah (by assumption) (by simp [aR]) ?_
   | with_reducible refine ao (by assumption) (by simp [aR,ab.int]) ?_
   | with_reducible refine And.intro (a:=ag _ _) (by simp [ag,apart]) ?_
   | with_reducible refine VW.aS 3 (VW.of ?_)
   | with_reducible refine gy.next _ (VW.of ?_)
   | rw [au (by exact rfl) (by exact rfl) (by exact rfl) (by exact rfl) (by exact rfl)]
   | rw [gK (by exact rfl) (by exact rfl) (by exact rfl) (by exact rfl)]
   | rw [gO (by exact rfl) (by exact rfl) (by exact rfl) (by exact rfl) (by exact rfl) (by exact rfl)]
   | fail)
 refine ai▸⟨_,rfl,View.tup (.cons (CU (by exact rfl)) (.cons (View.pure (ab.bool _)) .nil))⟩
theorem aad {f ff fi:FuncId} (h:Has P f (z6 ff fi)) (a:Rat) (hf:VP P G ff [.nils,EV a] (.bool true)) (hi:VP P G fi [.nils,EV a] (.tup [EV (1/a), .bool true])) :
   VP P G f [.nils,EV a] (.tup [EV (1/a), .int .i64 0]):=by
 refine VP.has h ?_
 simp only [z6]
 repeat (first
   | simp (disch:=first | decide | exact rfl) only [SS,Nat.reduceAdd,g0,g1]
   | with_reducible refine ah (by assumption) (by simp [cE,aW]) ?_
   | with_reducible refine ao (by assumption) (by simp [cE,aW]) ?_
   | with_reducible refine And.intro (a:=ag _ _) (by simp [ag,apart]) ?_
   | with_reducible refine VW.aS 3 (VW.of ?_)
   | with_reducible refine gy.next _ (VW.of ?_)
   | rw [au (by exact rfl) (by exact rfl) (by exact rfl) (by exact rfl) (by exact rfl)]
   | rw [gK (by exact rfl) (by exact rfl) (by exact rfl) (by exact rfl)]
   | rw [gO (by exact rfl) (by exact rfl) (by exact rfl) (by exact rfl) (by exact rfl) (by exact rfl)]
   | fail)
 exact ai▸af rfl (ab.tup (by simp [aW,ab.int]))
theorem Ba {f fc:FuncId} (h:Has P f (pE fc)) (q:Rat) (hc:VP P G fc [QV q] (QV q)):VP P G f [EV q] (EV q):=by
 refine VP.has h ?_
 simp only [pE]
 repeat (first
   | simp (disch:=first | decide | exact rfl) only [SS,Nat.reduceAdd,aj,aY,ZZ,Ih,FN,aK,eY,cD,LC,N9]
   | with_reducible refine ah (by assumption) (by simp [aR]) ?_
   | with_reducible refine ao (by assumption) (by simp [aR]) ?_
   | with_reducible refine And.intro (a:=ag _ _) (by simp [ag,apart]) ?_
   | with_reducible refine VW.aS 3 (VW.of ?_)
   | with_reducible refine gy.next _ (VW.of ?_)
   | rw [au (by exact rfl) (by exact rfl) (by exact rfl) (by exact rfl) (by exact rfl)]
   | rw [gK (by exact rfl) (by exact rfl) (by exact rfl) (by exact rfl)]
   | rw [gO (by exact rfl) (by exact rfl) (by exact rfl) (by exact rfl) (by exact rfl) (by exact rfl)]
   | fail)
 refine ai▸⟨_,rfl,CU (by exact rfl)⟩
theorem Og {f fc:FuncId} (h:Has P f (kz fc)) (a b:Rat) (hc:VP P G fc [QV a,QV b] (.int .i64 (P6 a b))):VP P G f [QV a,QV b] (.bool (decide (a=b))):=by
 have e:decide (P6 a b=0)=decide (a=b):=by congr 1;exact propext T4
 refine VP.has h ?_
 simp only [kz]
 repeat (first
   | simp (disch:=first | decide | exact rfl) only [SS,Nat.reduceAdd,aq,aj,jd,eY,e]
   | with_reducible refine ah (by assumption) (by simp [aR]) ?_
   | with_reducible refine ao (by assumption) (by simp [aR]) ?_
   | with_reducible refine And.intro (a:=ag _ _) (by simp [ag,apart]) ?_
   | with_reducible refine VW.aS 3 (VW.of ?_)
   | with_reducible refine gy.next _ (VW.of ?_)
   | rw [au (by exact rfl) (by exact rfl) (by exact rfl) (by exact rfl) (by exact rfl)]
   | rw [gK (by exact rfl) (by exact rfl) (by exact rfl) (by exact rfl)]
   | rw [gO (by exact rfl) (by exact rfl) (by exact rfl) (by exact rfl) (by exact rfl) (by exact rfl)]
   | fail)
 exact ai▸af rfl (ab.bool _)
theorem Sk {f fe f1:FuncId} (h:Has P f (mn fe f1)) (a b:Rat) {x:Bool} (he:VP P G fe [EV a,EV b, .fn (.func f1) [] []] (.bool x)):VP P G f [EV a,EV b] (.bool x):=by
 refine VP.has h ?_
 simp only [mn]
 repeat (first
   | simp (disch:=first | decide | exact rfl) only [SS,Nat.reduceAdd]
   | with_reducible refine ah (by assumption) (by simp [aW,lV]) ?_
   | with_reducible refine ao (by assumption) (by simp [aW,lV]) ?_
   | with_reducible refine And.intro (a:=ag _ _) (by simp [ag,apart]) ?_
   | with_reducible refine VW.aS 3 (VW.of ?_)
   | with_reducible refine gy.next _ (VW.of ?_)
   | rw [au (by exact rfl) (by exact rfl) (by exact rfl) (by exact rfl) (by exact rfl)]
   | rw [gK (by exact rfl) (by exact rfl) (by exact rfl) (by exact rfl)]
   | rw [gO (by exact rfl) (by exact rfl) (by exact rfl) (by exact rfl) (by exact rfl) (by exact rfl)]
   | fail)
 exact ai▸af rfl (ab.bool _)
theorem Sl {f f1:FuncId} (h:Has P f cx) (a b:Rat) (h1:VP P G f1 [QV a,QV b] (.bool (decide (a=b)))):VP P G f [EV a,EV b, .fn (.func f1) [] []] (.bool (decide (a=b))):=by
 refine VP.has h ?_
 simp only [cx]
 by_cases Mq:a=b
 . have d:decide (a=b)=true:=aw Mq
   rw [d] at h1 ⊢
   repeat (first
     | simp (disch:=first | decide | exact rfl) only [SS,Nat.reduceAdd,aq,aj,aY,ZZ,Ih,FN,aK,eY,cD]
     | with_reducible refine ah (by assumption) (by simp [aR]) ?_
     | with_reducible refine ao (by assumption) (by simp [aR]) ?_
     | with_reducible refine And.intro (a:=ag _ _) (by simp [ag,apart]) ?_
     | with_reducible refine VW.aS 3 (VW.of ?_)
     | with_reducible refine gy.next _ (VW.of ?_)
     | rw [au (by exact rfl) (by exact rfl) (by exact rfl) (by exact rfl) (by exact rfl)]
     | rw [gK (by exact rfl) (by exact rfl) (by exact rfl) (by exact rfl)]
     | rw [gO (by exact rfl) (by exact rfl) (by exact rfl) (by exact rfl) (by exact rfl) (by exact rfl)]
     | fail)
   exact ai▸af rfl (ab.bool _)
 . have d:decide (a=b)=false:=ak Mq
   rw [d] at h1 ⊢
   repeat (first
     | simp (disch:=first | decide | exact rfl) only [SS,Nat.reduceAdd,aq,aj,aY,ZZ,Ih,FN,aK,eY,cD]
     | with_reducible refine ah (by assumption) (by simp [aR]) ?_
     | with_reducible refine ao (by assumption) (by simp [aR]) ?_
     | with_reducible refine And.intro (a:=ag _ _) (by simp [ag,apart]) ?_
     | with_reducible refine VW.aS 3 (VW.of ?_)
     | with_reducible refine gy.next _ (VW.of ?_)
     | rw [au (by exact rfl) (by exact rfl) (by exact rfl) (by exact rfl) (by exact rfl)]
     | rw [gK (by exact rfl) (by exact rfl) (by exact rfl) (by exact rfl)]
     | rw [gO (by exact rfl) (by exact rfl) (by exact rfl) (by exact rfl) (by exact rfl) (by exact rfl)]
     | fail)
   exact ai▸af rfl (ab.bool _)
end
end Go.VL
end

section
set_option linter.unusedVariables false
set_option linter.unusedVariables false
namespace Go.VL
theorem Kp (q:Rat):decide ((aa q.num.natAbs:Int)=0)=decide (q=0):=by
 have h1:=cg (n:=q.num.natAbs)
 have h2:=Rat.num_eq_zero (q:=q)
 congr 1;apply propext
 rw [<- h2];omega
theorem three (a b:Int) (h : ¬ (a=1/\b=1)):(decide (a=1)=true/\decide (b=1)=false)∨(decide (a=1)=false/\decide (b=1)=false)∨(decide (a=1)=false/\decide (b=1)=true):=by
 by_cases h1:a=1<;>by_cases h2:b=1<;>simp_all
theorem aci (q:Rat):part false (QV q).cells 0 1=some (.bool (decide (q.num<0))):=rfl
section
variable {P:Program} {G:Nat->Option (List AV)}
set_option maxHeartbeats 1000000 in
theorem W5 {f fo fA fg fm fq:FuncId} (h:Has P f (mq fo fA fg fm fq)) (ho:Ig P G fo) (hA:Ob P G fA) (hg:Ko P G fg) (hm:FM P G fm) (hq:Si P G fq):Se P G f:=fun a b ha hb=>by
 have o1:=ho a.den
 have o2:=ho b.den
 have z1:=Kp a
 have z2:=Kp b
 have ha1:=ha.1
 have ha2:=ha.2
 have yr:=hb.1
 have zE:=hb.2
 obtain ⟨n1,n2⟩:=Z7 a b
 refine VP.has h ?_
 simp only [mq]
 by_cases a0:a=0
 . rw [aw a0] at z1
   rw [show a+b=b from by rw [a0,Rat.zero_add]]
   repeat (first
     | simp (disch:=first | decide | exact rfl) only [SS,Nat.reduceAdd,aq,aj,jd,D4,eY,bb,z1,cD]
     | with_reducible refine ah (by assumption) (by simp [aA]) ?_
     | with_reducible refine ao (by assumption) (by simp [aA]) ?_
     | with_reducible refine And.intro (a:=ag _ _) (by simp [ag,apart]) ?_
     | with_reducible refine VW.aS 3 (VW.of ?_)
     | with_reducible refine gy.next _ (VW.of ?_)
     | rw [au (by exact rfl) (by exact rfl) (by exact rfl) (by exact rfl) (by exact rfl)]
     | rw [gK (by exact rfl) (by exact rfl) (by exact rfl) (by exact rfl)]
     | rw [gO (by exact rfl) (by exact rfl) (by exact rfl) (by exact rfl) (by exact rfl) (by exact rfl)]
     | fail)
   refine ai▸af (r:=QV b) ?_ (aR _)
   simp (disch:=decide) only [RS,bn,bC,aj,eY]
 rw [ak a0] at z1
 by_cases b0:b=0
 . rw [aw b0] at z2
   rw [show a+b=a from by rw [b0,Rat.add_zero]]
   repeat (first
     | simp (disch:=first | decide | exact rfl) only [SS,Nat.reduceAdd,aq,aj,jd,D4,eY,bb,z1,z2,cD]
     | with_reducible refine ah (by assumption) (by simp [aA]) ?_
     | with_reducible refine ao (by assumption) (by simp [aA]) ?_
     | with_reducible refine And.intro (a:=ag _ _) (by simp [ag,apart]) ?_
     | with_reducible refine VW.aS 3 (VW.of ?_)
     | with_reducible refine gy.next _ (VW.of ?_)
     | rw [au (by exact rfl) (by exact rfl) (by exact rfl) (by exact rfl) (by exact rfl)]
     | rw [gK (by exact rfl) (by exact rfl) (by exact rfl) (by exact rfl)]
     | rw [gO (by exact rfl) (by exact rfl) (by exact rfl) (by exact rfl) (by exact rfl) (by exact rfl)]
     | fail)
   refine ai▸af (r:=QV a) ?_ (aR _)
   simp (disch:=decide) only [RS,bn,bC,aj,eY]
 rw [ak b0] at z2
 by_cases hdd:(a.den:Int)=1/\(b.den:Int)=1
 . have d3:=aw hdd.1
   have d4:=aw hdd.2
   have h1:=hA a.num b.num (by omega) (by omega)
   have hs:a+b=((a.num+b.num:Int):Rat):=by rw [Rat.intCast_add, <- Bt hdd.1, <- Bt hdd.2]
   have e:=D3 (z:=a.num+b.num) (d:=a.den) (q:=a+b) (by rw [hs];rfl) (by rw [hs,hdd.1];rfl)
   repeat (first
     | simp (disch:=first | decide | exact rfl) only [SS,DD,Nat.reduceAdd,aq,aj,jd,D4,uz,uA,bb,z1,z2,d3,d4,cD,tw,e]
     | with_reducible refine ah (by assumption) (by simp [aA]) ?_
     | with_reducible refine ao (by assumption) (by simp [aA]) ?_
     | with_reducible refine And.intro (a:=ag _ _) (by simp [ag,apart]) ?_
     | with_reducible refine VW.aS 3 (VW.of ?_)
     | with_reducible refine gy.next _ (VW.of ?_)
     | rw [au (by exact rfl) (by exact rfl) (by exact rfl) (by exact rfl) (by exact rfl)]
     | rw [gK (by exact rfl) (by exact rfl) (by exact rfl) (by exact rfl)]
     | rw [gO (by exact rfl) (by exact rfl) (by exact rfl) (by exact rfl) (by exact rfl) (by exact rfl)]
     | fail)
   refine ai▸af (r:=QV (a+b)) ?_ (aR _)
   simp (disch:=decide) only [RS,bn,bC,aj,eY]
 have hgd:VP P G fg [IV a.den,IV b.den] (IV (Nat.gcd a.den b.den:Nat)):=hg a.den b.den (by rw [dS];omega) (by rw [dS];omega)
 have w1:=cj a.num b.den
 have w2:=cj b.num a.den
 have w3:=cj a.den b.den
 rw [dS] at w1 w2 w3
 rw [dS] at w3
 have o3:=ho (Nat.gcd a.den b.den:Nat)
 have hgp:0<Nat.gcd a.den b.den:=Nat.gcd_pos_of_pos_left _ a.den_pos
 generalize hgg:Nat.gcd a.den b.den=g at *
 by_cases g1:g=1
 . subst g1
   have o4:=ho 1
   have d5:decide ((1:Int)=1)=true:=rfl
   have m1:=hm a.num b.den (by omega) (by rw [dS];omega)
   have m2:=hm b.num a.den (by omega) (by rw [dS];omega)
   have m3:=hm a.den b.den (by rw [dS];omega) (by rw [dS];omega)
   have s1:=hA (a.num*b.den) (b.num*a.den) (by omega) (by omega)
   simp only [Nat.div_one,Nat.gcd_one_right,Int.natCast_one,Int.ediv_one] at n1 n2
   have e:=D3 (z:=a.num*b.den+b.num*a.den) (d:=a.den*b.den) (q:=a+b) n1 (by rw [n2];exact Int.natCast_mul _ _)
   rcases three _ _ hdd with ⟨d3,d4⟩ | ⟨d3,d4⟩ | ⟨d3,d4⟩
   all_goals
     repeat (first
       | simp (disch:=first | decide | exact rfl) only [SS,DD,Nat.reduceAdd,aq,aj,CC,decide_true,jd,D4,uz,uA,bb,z1,z2,d3,d4,cD,cu,di,tw,e]
       | with_reducible refine ah (by assumption) (by simp [aA]) ?_
       | with_reducible refine ao (by assumption) (by simp [aA]) ?_
       | with_reducible refine And.intro (a:=ag _ _) (by simp [ag,apart]) ?_
       | with_reducible refine VW.aS 3 (VW.of ?_)
       | with_reducible refine gy.next _ (VW.of ?_)
       | rw [au (by exact rfl) (by exact rfl) (by exact rfl) (by exact rfl) (by exact rfl)]
       | rw [gK (by exact rfl) (by exact rfl) (by exact rfl) (by exact rfl)]
       | rw [gO (by exact rfl) (by exact rfl) (by exact rfl) (by exact rfl) (by exact rfl) (by exact rfl)]
       | fail)
     refine ai▸af (r:=QV (a+b)) ?_ (aR _)
     simp (disch:=decide) only [RS,bn,bC,aj,eY]
 . have d5:decide ((g:Int)=1)=false:=ak (by omega)
   have hga:g ∣ a.den:=hgg▸Nat.gcd_dvd_left _ _
   have hgb:g ∣ b.den:=hgg▸Nat.gcd_dvd_right _ _
   have hgl:aa ((g:Nat):Int).natAbs<=100000:=Nat.le_trans (bg (Nat.le_of_dvd a.den_pos hga)) ha2
   have q1:=hq a.den g (by omega) (Int.ofNat_dvd.2 hga) (by rw [dS];omega) (by omega)
   have q2:=hq b.den g (by omega) (Int.ofNat_dvd.2 hgb) (by rw [dS];omega) (by omega)
   rw [<- Int.natCast_ediv] at q1 q2
   have wx:aa (((a.den/g:Nat):Int)).natAbs<=100000:=Nat.le_trans (bg (Nat.div_le_self _ _)) ha2
   have wy:aa (((b.den/g:Nat):Int)).natAbs<=100000:=Nat.le_trans (bg (Nat.div_le_self _ _)) zE
   generalize a.den/g=x at *
   generalize b.den/g=y at *
   have m1:=hm a.num y (by omega) (by omega)
   have m2:=hm b.num x (by omega) (by omega)
   have v1:=cj a.num y
   have v2:=cj b.num x
   have s1:=hA (a.num*y) (b.num*x) (by omega) (by omega)
   have v3:aa (a.num*y+b.num*x).natAbs<=200001:=Nat.le_trans (bg (Int.natAbs_add_le _ _)) (qb (k:=200000) (by omega) (by omega))
   generalize a.num*y+b.num*x=N at *
   have g2:=hg N g (by omega) (by omega)
   rw [Int.natAbs_natCast] at g2
   have hp:0<Nat.gcd N.natAbs g:=Nat.gcd_pos_of_pos_right _ hgp
   have hhl:aa (((Nat.gcd N.natAbs g:Nat):Int)).natAbs<=100000:=Nat.le_trans (bg (Nat.le_of_dvd hgp (Nat.gcd_dvd_right _ _))) hgl
   have hdN:((Nat.gcd N.natAbs g:Nat):Int) ∣ N:=Int.ofNat_dvd_left.2 (Nat.gcd_dvd_left _ _)
   have hdb:Nat.gcd N.natAbs g ∣ b.den:=Nat.dvd_trans (Nat.gcd_dvd_right _ _) hgb
   generalize Nat.gcd N.natAbs g=k at *
   have q3:=hq N k (by omega) hdN (by omega) (by omega)
   have q4:=hq b.den k (by omega) (Int.ofNat_dvd.2 hdb) (by rw [dS];omega) (by omega)
   rw [<- Int.natCast_ediv] at q4
   have m3:=hm x ((b.den/k:Nat):Int) (by omega) (Nat.le_trans (bg (Nat.div_le_self _ _)) (by omega))
   have e:=D3 (z:=N/k) (d:=x*((b.den/k:Nat):Int)) (q:=a+b) n1 (by rw [n2];exact Int.natCast_mul _ _)
   rcases three _ _ hdd with ⟨d3,d4⟩ | ⟨d3,d4⟩ | ⟨d3,d4⟩
   all_goals
     repeat (first
       | simp (disch:=first | decide | exact rfl) only [SS,DD,Nat.reduceAdd,aq,aj,jd,D4,uz,uA,bb,z1,z2,d3,d4,d5,cD,cu,di,tw,e]
       | with_reducible refine ah (by assumption) (by simp [aA]) ?_
       | with_reducible refine ao (by assumption) (by simp [aA]) ?_
       | with_reducible refine And.intro (a:=ag _ _) (by simp [ag,apart]) ?_
       | with_reducible refine VW.aS 3 (VW.of ?_)
       | with_reducible refine gy.next _ (VW.of ?_)
       | rw [au (by exact rfl) (by exact rfl) (by exact rfl) (by exact rfl) (by exact rfl)]
       | rw [gK (by exact rfl) (by exact rfl) (by exact rfl) (by exact rfl)]
       | rw [gO (by exact rfl) (by exact rfl) (by exact rfl) (by exact rfl) (by exact rfl) (by exact rfl)]
       | fail)
     refine ai▸af (r:=QV (a+b)) ?_ (aR _)
     simp (disch:=decide) only [RS,bn,bC,aj,eY]
set_option maxHeartbeats 1000000 in
theorem Ua {f ff fo fm fg fq:FuncId} (h:Has P f (mh ff fo fm fg fq)) (hf:VP P G ff [.int .i64 0] (QV 0)) (ho:Ig P G fo) (hm:FM P G fm) (hg:Ko P G fg) (hq:Si P G fq):Sf P G f:=fun a b ha hb=>by
 have o1:=ho a.den
 have o2:=ho b.den
 have z1:=Kp a
 have z2:=Kp b
 have ha1:=ha.1
 have ha2:=ha.2
 have yr:=hb.1
 have zE:=hb.2
 obtain ⟨n1,n2⟩:=Z8 a b
 refine VP.has h ?_
 simp only [mh]
 by_cases h0:a=0∨b=0
 . rw [show a*b=0 from by rcases h0 with e | e<;>rw [e]<;>simp [Rat.zero_mul,Rat.mul_zero]]
   have h3:(decide (a=0)=true/\decide (b=0)=true)∨(decide (a=0)=true/\decide (b=0)=false)∨(decide (a=0)=false/\decide (b=0)=true):=by
     by_cases e1:a=0<;>by_cases e2:b=0<;>simp_all
   rcases h3 with ⟨d3,d4⟩ | ⟨d3,d4⟩ | ⟨d3,d4⟩
   all_goals
     rw [d3] at z1
     rw [d4] at z2
     repeat (first
       | simp (disch:=first | decide | exact rfl) only [SS,Nat.reduceAdd,aq,aj,jd,D4,bb,z1,z2,cD]
       | with_reducible refine ah (by assumption) (by simp [aA,ab.int]) ?_
       | with_reducible refine ao (by assumption) (by simp [aA]) ?_
       | with_reducible refine And.intro (a:=ag _ _) (by simp [ag,apart]) ?_
       | with_reducible refine VW.aS 3 (VW.of ?_)
       | with_reducible refine gy.next _ (VW.of ?_)
       | rw [au (by exact rfl) (by exact rfl) (by exact rfl) (by exact rfl) (by exact rfl)]
       | rw [gK (by exact rfl) (by exact rfl) (by exact rfl) (by exact rfl)]
       | rw [gO (by exact rfl) (by exact rfl) (by exact rfl) (by exact rfl) (by exact rfl) (by exact rfl)]
       | fail)
     refine ai▸af (r:=QV 0) ?_ (aR _)
     simp (disch:=decide) only [RS,bn,bC,aj,eY]
 rw [ak (fun e=>h0 (.inl e))] at z1
 rw [ak (fun e=>h0 (.inr e))] at z2
 by_cases hdd:(a.den:Int)=1/\(b.den:Int)=1
 . have d3:=aw hdd.1
   have d4:=aw hdd.2
   have h1:=hm a.num b.num (by omega) (by omega)
   have hs:a*b=((a.num*b.num:Int):Rat):=by rw [Rat.intCast_mul, <- Bt hdd.1, <- Bt hdd.2]
   have e:=D3 (z:=a.num*b.num) (d:=a.den) (q:=a*b) (by rw [hs];rfl) (by rw [hs,hdd.1];rfl)
   repeat (first
     | simp (disch:=first | decide | exact rfl) only [SS,DD,Nat.reduceAdd,aq,aj,jd,D4,uz,uA,bb,z1,z2,d3,d4,cD,tw,e]
     | with_reducible refine ah (by assumption) (by simp [aA]) ?_
     | with_reducible refine ao (by assumption) (by simp [aA]) ?_
     | with_reducible refine And.intro (a:=ag _ _) (by simp [ag,apart]) ?_
     | with_reducible refine VW.aS 3 (VW.of ?_)
     | with_reducible refine gy.next _ (VW.of ?_)
     | rw [au (by exact rfl) (by exact rfl) (by exact rfl) (by exact rfl) (by exact rfl)]
     | rw [gK (by exact rfl) (by exact rfl) (by exact rfl) (by exact rfl)]
     | rw [gO (by exact rfl) (by exact rfl) (by exact rfl) (by exact rfl) (by exact rfl) (by exact rfl)]
     | fail)
   refine ai▸af (r:=QV (a*b)) ?_ (aR _)
   simp (disch:=decide) only [RS,bn,bC,aj,eY]
 have g1:VP P G fg [IV a.num,IV b.den] (IV (Nat.gcd a.num.natAbs b.den:Nat)):=hg a.num b.den (by omega) (by rw [dS];omega)
 have g2:VP P G fg [IV b.num,IV a.den] (IV (Nat.gcd b.num.natAbs a.den:Nat)):=hg b.num a.den (by omega) (by rw [dS];omega)
 have p1:0<Nat.gcd a.num.natAbs b.den:=Nat.gcd_pos_of_pos_right _ b.den_pos
 have p2:0<Nat.gcd b.num.natAbs a.den:=Nat.gcd_pos_of_pos_right _ a.den_pos
 have x1:((Nat.gcd a.num.natAbs b.den:Nat):Int) ∣ a.num:=Int.ofNat_dvd_left.2 (Nat.gcd_dvd_left _ _)
 have x2:((Nat.gcd b.num.natAbs a.den:Nat):Int) ∣ b.num:=Int.ofNat_dvd_left.2 (Nat.gcd_dvd_left _ _)
 have y1:Nat.gcd a.num.natAbs b.den ∣ b.den:=Nat.gcd_dvd_right _ _
 have y2:Nat.gcd b.num.natAbs a.den ∣ a.den:=Nat.gcd_dvd_right _ _
 generalize Nat.gcd a.num.natAbs b.den=g at *
 generalize Nat.gcd b.num.natAbs a.den=k at *
 have l1:aa ((g:Nat):Int).natAbs<=100000:=Nat.le_trans (bg (Nat.le_of_dvd b.den_pos y1)) zE
 have l2:aa ((k:Nat):Int).natAbs<=100000:=Nat.le_trans (bg (Nat.le_of_dvd a.den_pos y2)) ha2
 have q1:=hq a.num g (by omega) x1 (by omega) (by omega)
 have q2:=hq b.num k (by omega) x2 (by omega) (by omega)
 have q3:=hq a.den k (by omega) (Int.ofNat_dvd.2 y2) (by rw [dS];omega) (by omega)
 have q4:=hq b.den g (by omega) (Int.ofNat_dvd.2 y1) (by rw [dS];omega) (by omega)
 rw [<- Int.natCast_ediv] at q3 q4
 have m1:=hm (a.num/g) (b.num/k) (Nat.le_trans (bg (Int.natAbs_ediv_le_natAbs _ _)) (by omega)) (Nat.le_trans (bg (Int.natAbs_ediv_le_natAbs _ _)) (by omega))
 have m2:=hm ((a.den/k:Nat):Int) ((b.den/g:Nat):Int) (Nat.le_trans (bg (Nat.div_le_self _ _)) (by omega)) (Nat.le_trans (bg (Nat.div_le_self _ _)) (by omega))
 have e:=D3 (z:=a.num/g*(b.num/k)) (d:=((a.den/k:Nat):Int)*((b.den/g:Nat):Int)) (q:=a*b) n1 (by rw [n2];exact Int.natCast_mul _ _)
 rcases three _ _ hdd with ⟨d3,d4⟩ | ⟨d3,d4⟩ | ⟨d3,d4⟩
 all_goals
   repeat (first
     | simp (disch:=first | decide | exact rfl) only [SS,DD,Nat.reduceAdd,aq,aj,jd,D4,uz,uA,bb,z1,z2,d3,d4,cD,cu,di,tw,e]
     | with_reducible refine ah (by assumption) (by simp [aA]) ?_
     | with_reducible refine ao (by assumption) (by simp [aA]) ?_
     | with_reducible refine And.intro (a:=ag _ _) (by simp [ag,apart]) ?_
     | with_reducible refine VW.aS 3 (VW.of ?_)
     | with_reducible refine gy.next _ (VW.of ?_)
     | rw [au (by exact rfl) (by exact rfl) (by exact rfl) (by exact rfl) (by exact rfl)]
     | rw [gK (by exact rfl) (by exact rfl) (by exact rfl) (by exact rfl)]
     | rw [gO (by exact rfl) (by exact rfl) (by exact rfl) (by exact rfl) (by exact rfl) (by exact rfl)]
     | fail)
   refine ai▸af (r:=QV (a*b)) ?_ (aR _)
   simp (disch:=decide) only [RS,bn,bC,aj,eY]
theorem Oh {f fn:FuncId} (h:Has P f (mw fn)) (hn:Oc P G fn) (a:Rat) (W6:a≠0) (ha:Sm 100000 a):VP P G f [QV a] (QV a⁻¹):=by
 have ha1:=ha.1
 have ha2:=ha.2
 have Gv:a.num≠0:=fun e=>W6 (Rat.num_eq_zero.1 e)
 have e1:=Rat.num_inv a
 have e2:=Rat.den_inv a
 rw [if_neg Gv] at e2
 refine VP.has h ?_
 simp only [mw]
 by_cases hs:a.num<0
 . have d1:=aw hs
   have h1:=hn a.num (by omega)
   have h2:=hn a.den (by rw [dS];omega)
   have e:=D3 (z := -(a.den:Int)) (d := -a.num) (q:=a⁻¹) (by rw [e1,Int.sign_eq_neg_one_of_neg hs];omega) (by omega)
   repeat (first
     | simp (disch:=first | decide | exact rfl) only [SS,DD,Nat.reduceAdd,aq,aj,jd,uz,uA,d1,cD,tw,e,aci]
     | with_reducible refine ah (by assumption) (by simp [aA]) ?_
     | with_reducible refine ao (by assumption) (by simp [aA]) ?_
     | with_reducible refine And.intro (a:=ag _ _) (by simp [ag,apart]) ?_
     | with_reducible refine VW.aS 3 (VW.of ?_)
     | with_reducible refine gy.next _ (VW.of ?_)
     | rw [au (by exact rfl) (by exact rfl) (by exact rfl) (by exact rfl) (by exact rfl)]
     | rw [gK (by exact rfl) (by exact rfl) (by exact rfl) (by exact rfl)]
     | rw [gO (by exact rfl) (by exact rfl) (by exact rfl) (by exact rfl) (by exact rfl) (by exact rfl)]
     | fail)
   refine ai▸af (r:=QV a⁻¹) ?_ (aR _)
   simp (disch:=decide) only [RS,bn,bC,aj,eY]
 . have d1:=ak hs
   have e:=D3 (z:=(a.den:Int)) (d:=a.num) (q:=a⁻¹) (by rw [e1,Int.sign_eq_one_of_pos (by omega)];omega) (by omega)
   rw [d1] at e
   repeat (first
     | simp (disch:=first | decide | exact rfl) only [SS,Nat.reduceAdd,aq,aj,jd,uz,uA,d1,cD,tw,e,aci]
     | with_reducible refine ah (by assumption) (by simp [aA,aC,aR,ab.int,ab.bool,ab.str,cE]) ?_
     | with_reducible refine ao (by assumption) (by simp [aA,aC,aR,ab.int,ab.bool,ab.str,cE]) ?_
     | with_reducible refine And.intro (a:=ag _ _) (by simp [ag,apart]) ?_
     | with_reducible refine VW.aS 3 (VW.of ?_)
     | with_reducible refine gy.next _ (VW.of ?_)
     | rw [au (by exact rfl) (by exact rfl) (by exact rfl) (by exact rfl) (by exact rfl)]
     | rw [gK (by exact rfl) (by exact rfl) (by exact rfl) (by exact rfl)]
     | rw [gO (by exact rfl) (by exact rfl) (by exact rfl) (by exact rfl) (by exact rfl) (by exact rfl)]
     | fail)
   refine ai▸af (r:=QV a⁻¹) ?_ (aR _)
   simp (disch:=decide) only [RS,bn,bC,aj,eY]
end
end Go.VL
end
