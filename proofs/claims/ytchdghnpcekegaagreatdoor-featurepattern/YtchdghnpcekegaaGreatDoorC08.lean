/- For the claim of FeaturePattern: parts CR8, CR9, CR10, DT, TUW, RQ, CH2, CF8, CH3, CF12, CG1, VL36, CN1, CQ1, CN2, CN3. -/
import Derived.Test.YtchdghnpcekegaaGreatDoorC07
import Derived.Lib.ItoaNum
import Derived.Test.YtchdghnpcekegaaGreatDoorC05
import Derived.Test.YtchdghnpcekegaaGreatDoorC03
import Derived.Lib.IndexMore
import Derived.Sort.KeysCollected
import Derived.Sort.Walk0
import Derived.Lib.SlicesCompact
import Derived.Test.YtchdghnpcekegaaGreatDoorC04
set_option linter.unusedSimpArgs false
set_option linter.unusedVariables false
section
set_option linter.unusedVariables false
namespace Go.VL
theorem Xq {k r j y:Nat} (h:(pad (k+1) r)[j]? = some y) (hr:r<aK ^ (k+1)):y=(if j<ak r then ((digits r)[j]?).getD 0 else 0):=by
 obtain ⟨z,hz⟩:=trimmed (pad (k+1) r) (rT _ _)
 rw [fZ hr] at hz
 rw [hz] at h
 by_cases hj:j<ak r
 . rw [if_pos hj]
   rw [List.getElem?_append_left (show j<(digits r).length from hj)] at h
   rw [h];rfl
 . rw [if_neg hj]
   rw [List.getElem?_append_right (show (digits r).length<=j from by show ak r<=j;omega)] at h
   exact List.eq_of_mem_replicate (List.mem_of_getElem? h)
theorem Up {a p b t:List Nat} {k j w:Nat} (hp:p.length=k) (hb:b.length=k) (hj:j<k):(a++(p.take j++b.drop j)++t).set (a.length+j) w=a++(p.take j++w::b.drop (j+1))++t:=by
 have h1:(p.take j).length=j:=by rw [List.length_take];omega
 obtain ⟨x,hx⟩:∃ x,b.drop j=x::b.drop (j+1):=⟨_,List.drop_eq_getElem_cons (show j<b.length by omega)⟩
 rw [hx,List.append_assoc,List.set_append_right _ _ (by omega),show a.length+j-a.length=j from by omega,List.append_assoc,List.set_append_right _ _ (by omega),h1,Nat.sub_self]
 simp
theorem Rr {a p b t:List Nat} {k j v w:Nat} (hp:p.length=k) (hj:j<k):(a++(p.take j++v::b)++t).set (a.length+j) w=a++(p.take j++w::b)++t:=by
 have h1:(p.take j).length=j:=by rw [List.length_take];omega
 rw [List.append_assoc,List.set_append_right _ _ (by omega),show a.length+j-a.length=j from by omega,List.append_assoc,List.set_append_right _ _ (by omega),h1,Nat.sub_self]
 simp
section
variable {P:Program} {G:Nat->Option (List AV)}
set_option maxRecDepth 100000 in
set_option maxHeartbeats 4000000 in
theorem NN {f fc fsh fw fby fl fsd ft fdg fmi fbk ftm:FuncId} (h:Has P f (jC fc fsh fw fby fl fsd ft fdg fmi fbk))
   (hc:∀ m n,ak m<=1000000->ak n<=1000000->VP P G fc [W m,W n] (.int .i64 (fY m n)))
   (Zk:∀ n,n<18446744073709551616->VP P G fsh [W n] (.int .u64 ((n:Nat):Int))) (hu:∀ n,n<18446744073709551616->VP P G fw [.int .u64 ((n:Nat):Int)] (W n))
   (hby:∀ m w:Nat,ak m<=1000000->w<aK->w≠0->VP P G fby [W m, .int .u32 (w:Int)] (.tup [W (m/w), .int .u32 ((m%w:Nat):Int)]))
   (hlen:Has P fl gz) (hsd:Has P fsd gh) (ht:iT P G ft) (htr:Has P ft gj)
   (hdg:Has P fdg (gR ftm ft fc fmi)) (EB:∀ (m:Nat) (ws:List Nat),Wd ws->ak m<=1000000->ws.length<=1000000->VP P G ftm [W m, .sl 1 (us ws)] (W (m*val ws)))
   (hmi:Has P fmi (dZ ft)) (Ng:∀ m s:Nat,ak m<=1000000->s<=31->VP P G fbk [W m, .int .i64 (s:Int)] (W (m/2 ^ s)))
   (m n:Nat) (CV:n≠0) (hm:ak m<=900000) (hn:ak n<=900000):VP P G f [W m,W n] (.tup [W (m/n),W (m%n)]):=by
 refine VP.has h ?_
 have aaP:=hc m n (by omega) (by omega)
 have Q7:m/n=0->∀ σ,View σ .nils (W (m/n)):=fun h σ => by rw [h];simp only [W,bD,us];exact View.nils 1
 have aaQ:m<n->m/n=0/\m%n=m:=fun h=>⟨Nat.div_eq_of_lt h,Nat.mod_eq_of_lt h⟩
 have c1:m<n->decide (fY m n<0)=true:=fun h=>aG (by simp only [fY,jk];rw [if_pos (by omega)];decide)
 have c2 : ¬ m<n->decide (fY m n<0)=false:=fun h=>aD (by simp only [fY,jk];rw [if_neg (by omega)];split<;>decide)
 have l1:ak m<=2->decide ((ak m:Int)<=2)=true:=fun h=>aG (by omega)
 have l2 : ¬ ak m<=2->decide ((ak m:Int)<=2)=false:=fun h=>aD (by omega)
 have b1:ak n=1->decide ((ak n:Int)=1)=true:=fun h=>aG (by omega)
 simp only [jC,SS,Nat.reduceAdd]
 refine ao aaP (by simp [aq]) ?_
 by_cases h1:m<n
 . simp only [SS,Nat.reduceAdd,c1 h1]
   obtain ⟨e1,e2⟩:=aaQ h1
   refine ax▸⟨.tup [.nils,W m],rfl,View.tup (aM.cons (Q7 e1 _) (aM.cons ?_ aM.nil))⟩
   rw [e2];exact View.pure (aq _)
 have ta:n<=m:=by omega
 have hwn:ak n≠0:=fun e=>CV (cI.1 e)
 by_cases h2:ak m<=2
 . have BA:=sW h2
   have WC:n<18446744073709551616:=by omega
   have hq:=IU m n BA CV
   have hr:=IW m n CV
   have hu1:=hu (m/n) (Nat.lt_of_le_of_lt (Nat.div_le_self _ _) BA)
   have hu2:=hu (m%n) (Nat.lt_of_le_of_lt (Nat.mod_le _ _) BA)
   simp only [SS,Nat.reduceAdd,c2 h1,bn,l1 h2]
   refine ao (Zk m BA) (by simp [aq]) ?_
   simp only [SS,Nat.reduceAdd]
   refine ao (Zk n WC) (by simp [aq]) ?_
   simp only [SS,DD,Nat.reduceAdd,hq]
   refine ay hu1 (by simp [aa.int]) ?_
   simp only [SS,DD,Nat.reduceAdd,hr]
   refine ay hu2 (by simp [aa.int]) ?_
   simp only [SS,DD,Nat.reduceAdd]
   refine ⟨by simp [ab,apart], ?_⟩
   exact ax▸ae rfl (aa.tup (by intro c hc;simp at hc;rcases hc with rfl | rfl<;>exact aq _))
 by_cases h3:ak n=1
 . obtain ⟨x,hx⟩:∃ x,(digits n)[0]? = some x:=⟨_,List.getElem?_eq_getElem (by show 0<ak n;omega)⟩
   have hxn:x=n:=by
     have e:=aS hx
     rw [List.take_of_length_le (show (digits n).length<=1 from by show ak n<=1;omega),aZ] at e
     simp [val] at e;omega
   have hg:=di hx
   rw [hxn] at hg
   have hnB:n<aK:=by rw [<- hxn];exact a7 n x (List.mem_of_getElem? hx)
   have hdv:=hby m n (by omega) hnB CV
   have Nb:cW 1 (W n) (.int .i64 0)=some (.ep (AV.int .u32 (n:Int)).cells 0):=hg
   have hmB:m%n<aK:=Nat.lt_trans (Nat.mod_lt _ (Nat.pos_of_ne_zero CV)) hnB
   have f9:=bx (m%n) hmB
   have hu9:=hu (m%n) (by unfold aK at hmB;omega)
   simp only [SS,Nat.reduceAdd,c2 h1,bn,l2 h2,b1 h3,Nb,aN,bq]
   refine ao hdv (by simp [aq,aa.int]) ?_
   simp only [SS,Nat.reduceAdd,Bb,Bc,f9]
   refine ao hu9 (by simp [aa.int]) ?_
   simp only [SS,Nat.reduceAdd]
   exact ax▸ae rfl (aa.tup (by intro c hc;simp at hc;rcases hc with rfl | rfl<;>exact aq _))
 obtain ⟨k,hk⟩:∃ k,ak n=k+2:=⟨ak n-2,by omega⟩
 obtain ⟨x,hx⟩:∃ x,(digits n)[k+1]? = some x:=⟨_,List.getElem?_eq_getElem (by show k+1<ak n;omega)⟩
 obtain ⟨HQ,hxB,hV,hwV,hs⟩:=Cz hk hx
 obtain ⟨alp,alq⟩:=PS hxB HQ
 have adW:=NL (G:=G) hlen hk hx (by omega)
 generalize alr:32-iC x=s at hV hwV hs
 have m1:IntKind.i64.wrap (32*((k+2:Nat):Int))=((32*(k+2):Nat):Int):=by rw [IntKind.wrap_i64];omega
 have m2:IntKind.i64.wrap (((32*(k+2):Nat):Int)-((32*(k+1)+iC x:Nat):Int))=(s:Int):=by rw [IntKind.wrap_i64];omega
 obtain ⟨V,Rj⟩:∃ V,V=n*2 ^ s:=⟨_,rfl⟩
 obtain ⟨U,Xi⟩:∃ U,U=m*2 ^ s:=⟨_,rfl⟩
 rw [<- Rj] at hV hwV
 have NH:=GV (G:=G) hsd m s (by omega) hs
 have NI:=GV (G:=G) hsd n s (by omega) hs
 rw [<- Rj] at NI
 rw [<- Xi] at NH
 obtain ⟨L,hL⟩:∃ L,ak m+1=L+(k+2):=⟨ak m+1-(k+2),by have:=bJ ta;omega⟩
 have hUB:U<aK ^ (ak m+1):=by
   have h4:2 ^ s<=2 ^ 32:=Nat.pow_le_pow_right (by decide) (by omega)
   have h5:m*2 ^ s<=m*2 ^ 32:=Nat.mul_le_mul_left _ h4
   have h6:m*2 ^ 32<aK ^ ak m*2 ^ 32:=Nat.mul_lt_mul_of_pos_right (cV m) (by decide)
   rw [Nat.pow_succ,Xi];exact Nat.lt_of_le_of_lt h5 h6
 obtain ⟨A0,R0,hAR,Zo,hR0⟩:∃ A R,pad (ak m+1) U=A++R++[]/\A.length=L/\R.length=k+2 :=
   ⟨(pad (ak m+1) U).take L,(pad (ak m+1) U).drop L,by simp,by simp [kz];omega,by simp [kz];omega⟩
 have hAw:Wd A0/\Wd R0:=by
   have h4:=rT (ak m+1) U
   rw [hAR] at h4
   exact ⟨fun w hw=>h4 w (by simp [hw]),fun w hw=>h4 w (by simp [hw])⟩
 have hU0:U=val A0+aK ^ L*val R0:=by
   have h4:=fZ hUB
   rw [hAR,List.append_nil,cv,Zo] at h4
   exact h4.symm
 have Uc:val R0<V:=LU (k:=k+2) Rj (by have:=sT CV;rw [hk] at this;exact this) (by
   have h4:=cV m
   have:L+(k+2-1)=ak m:=by omega
   rw [this];exact h4) (Xi▸hU0)
 have GQ:ak V=k+2:=hwV
 have Wj:0<V:=Nat.lt_of_le_of_lt (Nat.zero_le _) Uc
 have KG:IntKind.i64.wrap (((ak m:Nat):Int)-((k+2:Nat):Int))=(L:Int)-1:=by rw [IntKind.wrap_i64];omega
 have ss:∀ p:Id,jn p 1 4 (.int .u32 0) (.int .i64 ((ak m:Nat):Int)) (.int .i64 ((ak m:Nat):Int))=some { val := .osl p 1 0 (ak m) false,up:=[(p,some ⟨us (List.replicate (ak m) 0),1,false⟩)] }:=fun p=>nE (by omega)
 rw [hAR] at NH
 rw [hk] at NI
 have b3:decide (((k+2:Nat):Int)=1)=false:=aD (by omega)
 have SE:V<aK ^ (k+2+1):=Nat.lt_of_lt_of_le hV (Nat.pow_le_pow_right cX (by omega))
 have Ue:VP P G ft [.sl 1 (us (pad (k+2+1) V))] (W V):=by
   have:=ht (pad (k+2+1) V) (rT _ _) (by rw [kz];omega)
   rwa [fZ SE] at this
 simp only [SS,Nat.reduceAdd,c2 h1,bn,l2 h2,b3,hk,m1]
 refine ao adW (by simp [aq]) ?_
 simp only [SS,Nat.reduceAdd,m2]
 refine ⟨[],_,NH _,by simp,by simp, ?_⟩
 simp only [SS,Nat.reduceAdd]
 refine ⟨[],_,NI _,by simp,by simp, ?_⟩
 simp only [SS,Nat.reduceAdd]
 refine bG [([4,24],⟨us (pad (k+2+1) V),1,false⟩)] Ue (aM.cons (gZ (kz _ _).symm) aM.nil) (by simp [ah.put]) ?_
 simp only [SS,Nat.reduceAdd,bn,GQ,ss,KG,az]
 refine VW.dU (α := Nat × List Nat × List Nat × Nat × List Nat × Nat) (fun x=>⟨List.replicate 10 .top++[.int .i64 (s:Int), .osl [4,21] 1 0 (ak m+1) false,W V, .osl [30] 1 0 (ak m) false, .int .i64 ((x.1:Int)-1)]++List.replicate 113 .top,
   ah.put (ah.put (fun _=>none) [4,21] (some ⟨us (x.2.1++x.2.2.1++zs x.2.2.2.1),1,false⟩)) [30] (some ⟨us (zs x.1++(x.2.2.2.2.1++zs (k+1))),1,false⟩),x.2.2.2.2.2⟩)
   (fun x=>x.1+x.2.2.2.2.1.length=L/\x.2.1.length=x.1/\x.2.2.1.length=k+2/\x.1+(k+2)+x.2.2.2.1=ak m+1/\Wd x.2.1/\Wd x.2.2.1/\Wd x.2.2.2.2.1/\val x.2.2.1<V/\U=val x.2.1+aK ^ x.1*(val x.2.2.2.2.1*V+val x.2.2.1)/\1000<=x.2.2.2.2.2) (fun x=>x.1) (L,A0,R0,0,[],1000) ?_ ?_ ?_
 . refine Wk.forget (by simp [Fg,List.replicate]) (fun j => ?_) (by simp only [];omega)
   have hLk:zs (ak m)=zs L++([]++zs (k+1)):=by
     simp only [zs,List.nil_append,List.replicate_append_replicate];congr 1;omega
   simp only [List.append_nil,ah.put,ah.app,Df,List.map_cons,List.map_nil, <- hLk,xq]
   by_cases e1:j=[30]
   . subst e1;simp [zs]
   . by_cases e2:j=[4,21]
     . subst e2;simp
     . simp [e1,e2]
 . refine ⟨by simp,Zo,hR0,by simp only [];omega,hAw.1,hAw.2,by intro w hw;simp at hw,Uc, ?_,Nat.le_refl _⟩
   show U=val A0+aK ^ L*(val []*V+val R0)
   rw [show val []=0 from rfl,Nat.zero_mul,Nat.zero_add];exact hU0
 rintro ⟨c,A,R,tl,o,nn⟩ ⟨hcc,hA,hR,htl,hAW,hRW,hoW,SD,hUe,hnn⟩
 simp only [] at hcc hA hR htl hAW hRW hoW SD hUe hnn
 rcases Nat.eq_zero_or_pos c with h0 | hcp
 . subst h0
   have d0:decide ((0:Int)<=((0:Nat):Int)-1)=false:=by decide
   obtain rfl:A=[]:=List.length_eq_zero_iff.1 hA
   have hU':m*2 ^ s=val o*(n*2 ^ s)+val R:=by
     rw [<- Xi, <- Rj,hUe]
     show val []+aK ^ 0*_=_
     simp [val]
   obtain ⟨g1,g2,g3⟩:=PT CV hU' (Rj▸SD)
   have hoL:ak m=(o++zs (k+1)).length:=by simp [zs];omega
   have htq:=ht (o++zs (k+1)) (cN hoW (Zh _)) (by omega)
   rw [show val (o++zs (k+1))=val o from PJ o (k+1),g1] at htq
   have hRl:ak m+1=(R++zs tl).length:=by simp [zs];omega
   have htR:=ht (R++zs tl) (cN hRW (Zh _)) (by omega)
   rw [show val (R++zs tl)=val R from PJ R tl] at htR
   have hwR:ak (val R)<=1000000:=by rw [<- Rj,GQ] at g3;omega
   have adX:=Ng (val R) s hwR hs
   rw [g2] at adX
   simp only [SS,Nat.reduceAdd,d0,xq]
   refine bG [([30],⟨us (o++zs (k+1)),1,false⟩)] htq (aM.cons (gZ hoL) aM.nil) (by simp [ah.put]) ?_
   simp only [SS,Nat.reduceAdd]
   refine bG [([4,21],⟨us (R++zs tl),1,false⟩)] htR (aM.cons (gZ hRl) aM.nil) (by simp [ah.put,ah.app,Df]) ?_
   simp only [SS,Nat.reduceAdd]
   refine ao adX (by simp [aq,aa.int]) ?_
   simp only [SS,Nat.reduceAdd]
   exact ax▸ae rfl (aa.tup (by intro c hc;simp at hc;rcases hc with rfl | rfl<;>exact aq _))
 obtain ⟨i,rfl⟩:∃ i,c=i+1:=⟨c-1,by omega⟩
 have d0:decide ((0:Int)<=(i:Int))=true:=aG (by omega)
 have hj:((i+1:Nat):Int)-1=(i:Int):=by omega
 have TM:IntKind.i64.wrap ((i:Int)-1)=(i:Int)-1:=by rw [IntKind.wrap_i64];omega
 obtain ⟨A',y,rfl,hA'⟩:=xu hA
 obtain ⟨b,Fa⟩:∃ b,b=y::R:=⟨_,rfl⟩
 have eb:A'++[y]++R++zs tl=A'++b++zs tl:=by rw [Fa];simp
 have hyB:y<aK:=hAW y (by simp)
 have aa0:Wd A':=fun w hw=>hAW w (by simp [hw])
 have Bq:b.length=k+3:=by rw [Fa];simp [hR]
 have Kq:Wd b:=by
   intro w hw;rw [Fa] at hw
   rcases List.mem_cons.1 hw with rfl | hw
   . exact hyB
   . exact hRW w hw
 have hbv:val b=y+aK*val R:=by rw [Fa];rfl
 obtain ⟨Zp,Wl⟩:=adD hyB SD
 rw [<- hbv] at Zp Wl
 have a1:=oH i (k+2) (by omega)
 have a4:IntKind.i64.wrap (((i+(k+2):Nat):Int)+1)=((i+(k+3):Nat):Int):=by rw [IntKind.wrap_i64];omega
 have iaq:=cO (q:=[30]) (t:=false) (show i<ak m by omega)
 have LW:fK 1 (.osl [4,21] 1 0 (ak m+1) false) (some (.int .i64 (i:Int))) (some (.int .i64 ((i+(k+3):Nat):Int))) none=some (.osl [4,21] 1 A'.length (k+3) false):=by
   rw [I0 (by omega) (by omega),hA']
   congr 2;omega
 have jS:∀ j,1000<=j->∀ x,([4,21]:List Nat)≠x::[j]:=fun j h x e=>by simp at e;omega
 have ahh:∀ j,1000<=j->_:=fun j hj=>Rq (G:=G) hdg EB htr hc (fun m n h1 h2=>I3 hmi ht m n h1 h2) (id:=[4,21]) (a:=A') (b:=b) (t:=zs tl) GQ Bq Kq Zp (by omega) [j] (jS j hj)
 have adY:=L1 (G:=G) htr (id:=[4,21]) (a:=A') (b:=b) (t:=zs tl) Kq (by omega)
 rw [Bq] at adY
 obtain ⟨z,hz⟩:=trimmed b Kq
 have he:A'++b++zs tl=A'++digits (val b)++(zs z++zs tl):=by
   conv=>lhs;rw [hz]
   simp
 have I1:val b%V<V:=Nat.mod_lt _ Wj
 have adZ:val b-V*(val b/V)=val b%V:=by have:=Nat.div_add_mod (val b) V;omega
 have SC:ak (val b)<=1000000:=by
   have h1:=mw Kq
   rw [Bq] at h1
   have:=fN h1;omega
 have ad0:∀ j,1000<=j->_:=fun j hj=>Rp (G:=G) hmi ht (id:=[4,21]) (a:=A') (t:=zs z++zs tl) (val b) (V*(val b/V)) (Nat.mul_div_le _ _) SC [j] (jS j hj)
 rw [adZ, <- he] at ad0
 have hqL:i<(zs (i+1)++(o++zs (k+1))).length:=by simp [zs];omega
 rw [eb]
 simp only [SS,Nat.reduceAdd,hj,d0,bn,GQ,a1,a4,LW]
 refine ⟨[([4,21],⟨us (A'++b++zs tl),1,false⟩)],_,ahh _ (by omega),by simp [ah.put],by simp, ?_⟩
 simp only [SS,Nat.reduceAdd,Bb,Bc,iaq]
 rw [bU (o:=zs (i+1)++(o++zs (k+1))) (by simp [ah.put]) hqL,zm]
 simp only [SS,Nat.reduceAdd]
 refine ⟨[([4,21],⟨us (A'++b++zs tl),1,false⟩)],_,adY _,by simp [ah.put],by simp, ?_⟩
 simp only [SS,Nat.reduceAdd]
 refine ⟨[([4,21],⟨us (A'++b++zs tl),1,false⟩)],_,ad0 _ (by omega),by simp [ah.put],by simp, ?_⟩
 simp only [SS,Nat.reduceAdd,az]
 obtain ⟨r,hr⟩:∃ r,r=val b%V:=⟨_,rfl⟩
 rw [<- hr] at I1 ⊢
 have LH:r<aK ^ (k+2):=Nat.lt_trans I1 hV
 have ahi:r<aK ^ (k+2+1):=Nat.lt_of_lt_of_le LH (Nat.pow_le_pow_right cX (by omega))
 obtain ⟨pd,hpd⟩:∃ pd,pd=pad (k+2+1) r:=⟨_,rfl⟩
 have Uq:pd.length=k+3:=by rw [hpd];exact kz _ _
 refine VW.dU (α := Nat × Nat) (fun x=>⟨List.replicate 10 .top++[.int .i64 (s:Int), .osl [4,21] 1 0 (ak m+1) false,W V, .osl [30] 1 0 (ak m) false, .int .i64 (i:Int), .osl [4,21] 1 A'.length (k+3) false, .top, .top,W r, .int .i64 (x.1:Int)]++List.replicate 108 .top,
   ah.put (ah.put (fun _=>none) [4,21] (some ⟨us (A'++(pd.take x.1++b.drop x.1)++zs tl),1,false⟩)) [30] (some ⟨us (zs i++val b/V::(o++zs (k+1))),1,false⟩),x.2⟩)
   (fun x=>x.1<=k+3/\1000<=x.2) (fun x=>k+3-x.1) (0,nn+1000) ?_ ?_ ?_
 . refine Wk.forget (by simp [Fg,List.replicate]) (fun j => ?_) (by simp only [];omega)
   simp only [List.take_zero,List.drop_zero,List.nil_append,ah.put]
   by_cases e1:j=[30]
   . subst e1;simp
   . by_cases e2:j=[4,21]
     . subst e2;simp
     . simp [e1,e2]
 . exact ⟨Nat.zero_le _,by simp only [];omega⟩
 rintro ⟨j,mm⟩ ⟨NP,M0⟩
 simp only [] at NP M0
 have qU:j<k+3->decide ((j:Int)<((k+3:Nat):Int))=true:=fun h=>aG (by omega)
 have xP : ¬ j<k+3->decide ((j:Int)<((k+3:Nat):Int))=false:=fun h=>aD (by omega)
 have LF:j<ak r->decide ((j:Int)<(ak r:Int))=true:=fun h=>aG (by omega)
 have LG : ¬ j<ak r->decide ((j:Int)<(ak r:Int))=false:=fun h=>aD (by omega)
 have Nz:=aP j (by omega)
 by_cases CZ:j<k+3
 . have hio:=pF (q:=[4,21]) (off:=A'.length) (t:=false) CZ
   have alv:(pd.take j++b.drop j).length=k+3:=by simp [Uq,Bq];omega
   obtain ⟨y',hy'⟩:∃ y,pd[j]? = some y:=⟨_,List.getElem?_eq_getElem (by omega)⟩
   have hpm:=Xq (hpd▸hy') ahi
   have W7:∀ w,(A'++(pd.take j++b.drop j)++zs tl).set (A'.length+j) w=A'++(pd.take j++w::b.drop (j+1))++zs tl:=fun w=>Up Uq Bq CZ
   have ad1:∀ v w,(A'++(pd.take j++v::b.drop (j+1))++zs tl).set (A'.length+j) w=A'++(pd.take j++w::b.drop (j+1))++zs tl:=fun v w=>Rr Uq CZ
   have zH:A'.length+j<(A'++(pd.take j++b.drop j)++zs tl).length:=by simp [Uq,Bq];omega
   have Qy:∀ v,A'.length+j<(A'++(pd.take j++v::b.drop (j+1))++zs tl).length:=fun v=>by simp [Uq,Bq];omega
   have Zf:pd.take j++y'::b.drop (j+1)=pd.take (j+1)++b.drop (j+1):=by
     have:=List.take_add_one (l:=pd) (i:=j)
     rw [hy'] at this;rw [this];simp
   have ad4:k+3-(j+1)<k+3-j:=by omega
   have ad5:∀ σ : ah, σ [4,21]=some ⟨us (A'++(pd.take j++b.drop j)++zs tl),1,false⟩->fJ σ 1 (.ref [4,21] (A'.length+j) 0) (.int .u32 0)=some { val := .tup [],rd:=[[4,21]],up:=[([4,21],some ⟨us (A'++(pd.take j++0::b.drop (j+1))++zs tl),1,false⟩)] }:=fun σ hσ => by
     have:=bU (x:=0) hσ zH
     rw [W7] at this;exact this
   by_cases hjr:j<ak r
   . obtain ⟨dj,hdj⟩:∃ y,(digits r)[j]? = some y:=⟨_,List.getElem?_eq_getElem hjr⟩
     rw [if_pos hjr,hdj,Option.getD_some] at hpm
     subst hpm
     simp only [SS,Nat.reduceAdd,qU CZ,hio]
     rw [ad5 _ (by simp [ah.put])]
     simp only [SS,Nat.reduceAdd,bn,LF hjr,di hdj,aN,bq,hio]
     rw [bU (o:=A'++(pd.take j++0::b.drop (j+1))++zs tl) (by simp [ah.put]) (Qy _),ad1,Zf]
     simp only [SS,Nat.reduceAdd,Nz]
     refine ⟨(j+1,_),⟨by simp only [];omega,by simp only [];omega⟩,ad4,Wk.forget (by simp [Fg]) (fun q => ?_) (Nat.le_refl _)⟩
     simp only [ah.put]
     by_cases e1:q=[30]
     . subst e1;simp
     . by_cases e2:q=[4,21]
       . subst e2;simp
       . simp [e1,e2]
   . rw [if_neg hjr] at hpm
     subst hpm
     simp only [SS,Nat.reduceAdd,qU CZ,hio]
     rw [ad5 _ (by simp [ah.put]),Zf]
     simp only [SS,Nat.reduceAdd,bn,LG hjr,Nz]
     refine ⟨(j+1,_),⟨by simp only [];omega,by simp only [];omega⟩,ad4,Wk.forget (by simp [Fg]) (fun q => ?_) (Nat.le_refl _)⟩
     simp only [ah.put]
     by_cases e1:q=[30]
     . subst e1;simp
     . by_cases e2:q=[4,21]
       . subst e2;simp
       . simp [e1,e2]
 . have Kv:j=k+3:=by omega
   have Jy:val b=val b/V*V+r:=by rw [hr];have:=Nat.div_add_mod (val b) V;rw [Nat.mul_comm] at this;omega
   have hUn:U=val A'+aK ^ i*(val (val b/V::o)*V+val (pad (k+2) r)):=by
     rw [fZ LH]
     refine LS (x:=y) (R:=val R) (O:=val o) ?_ (by rw [<- hbv];exact Jy)
     rw [hUe,cv,hA']
     simp only [val,Nat.mul_zero,Nat.add_zero]
   have hep:A'++(pd.take j++b.drop j)++zs tl=A'++pad (k+2) r++zs (tl+1):=by
     rw [Kv,List.take_of_length_le (by omega),List.drop_eq_nil_of_le (by omega),hpd,JT LH]
     simp [iU]
   rw [hep]
   simp only [SS,Nat.reduceAdd,xP CZ,TM]
   refine ⟨(i,A',pad (k+2) r,tl+1,val b/V::o,_),⟨by simp;omega,hA',kz _ _,by simp only [];omega,aa0,rT _ _, ?_,by simp only [];rw [fZ LH];exact I1,hUn,by simp only [];omega⟩,Nat.lt_succ_self i,Wk.forget (by simp [Fg]) (fun q => ?_) (Nat.le_refl _)⟩
   . intro w hw
     rcases List.mem_cons.1 hw with rfl | hw
     . exact Wl
     . exact hoW w hw
   . right;simp
end
end Go.VL
end

section
set_option linter.unusedVariables false
namespace Go.VL
theorem L3 {a b:Int} (h:decide (a<0)=decide (b<0)):xn (decide (a<0)) (a.natAbs+b.natAbs)=a+b:=by
 unfold xn
 by_cases h1:a<0<;>by_cases h2:b<0<;>simp [h1,h2] at h ⊢ <;> omega
theorem CA {a b:Int} (h : ¬ decide (a<0)=decide (b<0)) (hn:b.natAbs<=a.natAbs):xn (decide (a<0)) (a.natAbs-b.natAbs)=a+b:=by
 unfold xn
 by_cases h1:a<0<;>by_cases h2:b<0<;>simp [h1,h2] at h ⊢ <;> omega
section
variable {P:Program} {G:Nat->Option (List AV)}
theorem Xr {f fn fp fs fc fm:FuncId} (h:Has P f (lL fn fp fs fc fm)) (hn:∀ z:Int,ak z.natAbs<=1000000->VP P G fn [IV z] (IV z))
   (hp:∀ m n,ak m<=1000000->ak n<=1000000->VP P G fp [W m,W n] (W (m+n))) (hs:iW P G fs) (hc:∀ m n,ak m<=1000000->ak n<=1000000->VP P G fc [W m,W n] (.int .i64 (fY m n)))
   (hm:∀ m n,n<=m->ak m<=1000000->VP P G fm [W m,W n] (W (m-n))) (a b:Int) (ha:ak a.natAbs<=1000000) (hb:ak b.natAbs<=1000000):VP P G f [IV a,IV b] (IV (a+b)):=by
 refine VP.has h ?_
 have yf:([0]:List Nat)≠[1]:=by decide
 have DV:([0]:List Nat)≠[2]:=by decide
 have Bd:([1]:List Nat)≠[2]:=by decide
 have hwl:ak (a.natAbs+b.natAbs)<=9223372036854775807:=by
   have:ak (a.natAbs+b.natAbs)<=ak a.natAbs+ak b.natAbs+1:=fN (by
     have e1:=cV a.natAbs
     have e2:=cV b.natAbs
     have e3:aK ^ ak a.natAbs<=aK ^ (ak a.natAbs+ak b.natAbs):=Nat.pow_le_pow_right cX (by omega)
     have e4:aK ^ ak b.natAbs<=aK ^ (ak a.natAbs+ak b.natAbs):=Nat.pow_le_pow_right cX (by omega)
     have e5:aK ^ (ak a.natAbs+ak b.natAbs)*2<=aK ^ (ak a.natAbs+ak b.natAbs)*aK:=Nat.mul_le_mul_left _ (by decide)
     rw [Nat.pow_succ];omega)
   omega
 have hpv:=hp a.natAbs b.natAbs ha hb
 have hcv:=hc a.natAbs b.natAbs ha hb
 simp only [lL,SS,DD,Nat.reduceAdd,eX,bZ,af yf,af DV,ai,c9]
 refine ay (hn a ha) (by simp [ag]) ?_
 simp only [SS,DD,Nat.reduceAdd,af Bd,ai,c9]
 refine ay (hn b hb) (by simp [ag]) ?_
 simp only [SS,DD,Nat.reduceAdd]
 rw [dp (k:=(IV a).size) (y:=IV a) rfl (Ba _ _) (by simp [ah.put])]
 simp only [SS,DD,Nat.reduceAdd]
 rw [dp (k:=(IV b).size) (y:=IV b) rfl (Ba _ _) (by simp [ah.put])]
 simp only [SS,DD,Nat.reduceAdd]
 refine ⟨by simp [ab,apart], ?_⟩
 simp only [SS,Nat.reduceAdd,af yf,ai,jR]
 by_cases M6:decide (a<0)=decide (b<0)
 . have d0:(decide (a<0)==decide (b<0))=true:=by rw [M6];exact beq_self_eq_true _
   have PX:=hs (decide (a<0)) (a.natAbs+b.natAbs) hwl
   rw [L3 M6] at PX
   simp only [SS,DD,Nat.reduceAdd,d0,af yf,ai,jR,iD]
   refine ay hpv (by simp [aq]) ?_
   simp only [SS,DD,Nat.reduceAdd]
   refine ay PX (by simp [aq,aa.bool]) ?_
   simp only [SS,DD,Nat.reduceAdd]
   rw [dp (k:=(AV.agg [.bool false, .nils]).size) (y := .agg [.bool false, .nils]) rfl (rV _) (by simp [ah.put])]
   simp only [SS,DD,Nat.reduceAdd]
   refine ⟨by simp [ab,apart], ?_⟩
   refine ax▸ae (r:=IV (a+b)) ?_ (ag _)
   simp only [RS,a8,bg,ai,c9]
 . have d0:(decide (a<0)==decide (b<0))=false:=by simpa using M6
   simp only [SS,Nat.reduceAdd,d0,af yf,ai,iD]
   refine ao hcv (by simp [aq]) ?_
   by_cases KI:b.natAbs<=a.natAbs
   . have d1:decide (0<=fY a.natAbs b.natAbs)=true:=aG (by simp only [fY,jk];rw [if_neg (by omega)];split<;>decide)
     have Re:=hm a.natAbs b.natAbs KI ha
     have PX:=hs (decide (a<0)) (a.natAbs-b.natAbs) (by have:=bJ (Nat.sub_le a.natAbs b.natAbs);omega)
     rw [CA M6 KI] at PX
     simp only [SS,DD,Nat.reduceAdd,d1,af yf,ai,jR,iD]
     refine ay Re (by simp [aq]) ?_
     simp only [SS,DD,Nat.reduceAdd]
     refine ay PX (by simp [aq,aa.bool]) ?_
     simp only [SS,DD,Nat.reduceAdd]
     rw [dp (k:=(AV.agg [.bool false, .nils]).size) (y := .agg [.bool false, .nils]) rfl (rV _) (by simp [ah.put])]
     simp only [SS,DD,Nat.reduceAdd]
     refine ⟨by simp [ab,apart], ?_⟩
     refine ax▸ae (r:=IV (a+b)) ?_ (ag _)
     simp only [RS,a8,bg,ai,c9]
   . have d1:decide (0<=fY a.natAbs b.natAbs)=false:=aD (by simp only [fY,jk];rw [if_pos (by omega)];decide)
     have Re:=hm b.natAbs a.natAbs (by omega) hb
     have PX:=hs (decide (b<0)) (b.natAbs-a.natAbs) (by have:=bJ (Nat.sub_le b.natAbs a.natAbs);omega)
     rw [CA (fun e=>M6 e.symm) (by omega),Int.add_comm] at PX
     simp only [SS,DD,Nat.reduceAdd,d1,af yf,ai,jR,iD]
     refine ay Re (by simp [aq]) ?_
     simp only [SS,DD,Nat.reduceAdd]
     refine ay PX (by simp [aq,aa.bool]) ?_
     simp only [SS,DD,Nat.reduceAdd]
     rw [dp (k:=(AV.agg [.bool false, .nils]).size) (y := .agg [.bool false, .nils]) rfl (rV _) (by simp [ah.put])]
     simp only [SS,DD,Nat.reduceAdd]
     refine ⟨by simp [ab,apart], ?_⟩
     refine ax▸ae (r:=IV (a+b)) ?_ (ag _)
     simp only [RS,a8,bg,ai,c9]
theorem Xs {f fn fa:FuncId} (h:Has P f (lM fn fa)) (hn:∀ z:Int,ak z.natAbs<=1000000->VP P G fn [IV z] (IV (-z)))
   (ha:∀ a b:Int,ak a.natAbs<=1000000->ak b.natAbs<=1000000->VP P G fa [IV a,IV b] (IV (a+b))) (a b:Int) (hwa:ak a.natAbs<=1000000) (SC:ak b.natAbs<=1000000):VP P G f [IV a,IV b] (IV (a-b)):=by
 refine VP.has h ?_
 have yf:([0]:List Nat)≠[1]:=by decide
 have DV:([0]:List Nat)≠[2]:=by decide
 have Bd:([1]:List Nat)≠[2]:=by decide
 have hav:=ha a (-b) hwa (by rw [Int.natAbs_neg];exact SC)
 rw [<- Int.sub_eq_add_neg] at hav
 simp only [lM,SS,DD,Nat.reduceAdd,eX,bZ,af yf,af DV,af Bd,ai,c9]
 refine ay (hn b SC) (by simp [ag]) ?_
 simp only [SS,DD,Nat.reduceAdd]
 refine ay hav (by simp [ag]) ?_
 simp only [SS,DD,Nat.reduceAdd]
 rw [dp (k:=(AV.agg [.bool false, .nils]).size) (y := .agg [.bool false, .nils]) rfl (rV _) (by simp [ah.put])]
 simp only [SS,DD,Nat.reduceAdd]
 refine ⟨by simp [ab,apart], ?_⟩
 refine ax▸ae (r:=IV (a-b)) ?_ (ag _)
 simp only [RS,a8,bg,ai,c9]
theorem Ur {f fn ft fs:FuncId} (h:Has P f (lN fn ft fs)) (hn:∀ z:Int,ak z.natAbs<=1000000->VP P G fn [IV z] (IV z))
   (ht:∀ m n,ak m<=1000000->ak n<=1000000->VP P G ft [W m,W n] (W (m*n))) (hs:iW P G fs) (a b:Int) (ha:ak a.natAbs<=1000000) (hb:ak b.natAbs<=1000000):VP P G f [IV a,IV b] (IV (a*b)):=by
 refine VP.has h ?_
 have yf:([0]:List Nat)≠[1]:=by decide
 have DV:([0]:List Nat)≠[2]:=by decide
 have Bd:([1]:List Nat)≠[2]:=by decide
 have Ue:=ht a.natAbs b.natAbs ha hb
 have eK:=hs (!(decide (a<0)==decide (b<0))) (a.natAbs*b.natAbs) (by have:=zk a.natAbs b.natAbs;omega)
 rw [PM] at eK
 simp only [lN,SS,DD,Nat.reduceAdd,eX,bZ,af yf,af DV,ai,c9]
 refine ay (hn a ha) (by simp [ag]) ?_
 simp only [SS,DD,Nat.reduceAdd,af Bd,ai,c9]
 refine ay (hn b hb) (by simp [ag]) ?_
 simp only [SS,DD,Nat.reduceAdd]
 rw [dp (k:=(IV a).size) (y:=IV a) rfl (Ba _ _) (by simp [ah.put])]
 simp only [SS,DD,Nat.reduceAdd]
 rw [dp (k:=(IV b).size) (y:=IV b) rfl (Ba _ _) (by simp [ah.put])]
 simp only [SS,DD,Nat.reduceAdd]
 refine ⟨by simp [ab,apart], ?_⟩
 simp only [SS,DD,Nat.reduceAdd,af yf,ai,jR,iD]
 refine ay Ue (by simp [aq]) ?_
 simp only [SS,DD,Nat.reduceAdd]
 refine ay eK (by simp [aq,aa.bool]) ?_
 simp only [SS,DD,Nat.reduceAdd]
 rw [dp (k:=(AV.agg [.bool false, .nils]).size) (y := .agg [.bool false, .nils]) rfl (rV _) (by simp [ah.put])]
 simp only [SS,DD,Nat.reduceAdd]
 refine ⟨by simp [ab,apart], ?_⟩
 refine ax▸ae (r:=IV (a*b)) ?_ (ag _)
 simp only [RS,a8,bg,ai,c9]
theorem Xt {f ft fd fs:FuncId} (h:Has P f (lO ft fd fs)) (ht:iT P G ft) (hd:∀ m n,n≠0->ak m<=900000->ak n<=900000->VP P G fd [W m,W n] (.tup [W (m/n),W (m%n)]))
   (hs:iW P G fs) (a b:Int) (ha:ak a.natAbs<=900000) (hb:ak b.natAbs<=900000):VP P G f [IV a,IV b] (IV (Nat.gcd a.natAbs b.natAbs:Nat)):=by
 refine VP.has h ?_
 have yf:([0]:List Nat)≠[1]:=by decide
 have DV:([0]:List Nat)≠[2]:=by decide
 have Bd:([1]:List Nat)≠[2]:=by decide
 simp only [lO,SS,DD,Nat.reduceAdd,eX,bZ,af yf,af DV,ai,iD]
 refine ay (oJ ht a.natAbs (by omega)) (by simp [aq]) ?_
 simp only [SS,DD,Nat.reduceAdd,af Bd,ai,iD]
 refine ay (oJ ht b.natAbs (by omega)) (by simp [aq]) ?_
 simp only [SS,DD,Nat.reduceAdd]
 refine ⟨by simp [ab,apart], ?_⟩
 simp only [az]
 refine VW.dU (α := Nat × Nat × Nat) (fun x=>⟨[IV a,IV b, .top, .top, .ref [2] 0 0,W x.1,W x.2.1]++List.replicate 21 .top,
   ah.put (fun _=>none) [2] (some ⟨[.agg [.bool false, .nils]],(AV.agg [.bool false, .nils]).size,false⟩),x.2.2⟩)
   (fun x=>Nat.gcd x.1 x.2.1=Nat.gcd a.natAbs b.natAbs/\ak x.1<=900000/\ak x.2.1<=900000) (fun x=>x.2.1) (a.natAbs,b.natAbs,1000) ?_ ?_ ?_
 . exact Wk.forget (by simp [Fg,List.replicate]) (fun j=>by simp only [ah.put];split<;>simp_all) (by simp only [];omega)
 . exact ⟨rfl,ha,hb⟩
 rintro ⟨x,y,nn⟩ ⟨hg,hx,hy⟩
 simp only [] at hg hx hy
 have w1:=GN x y
 by_cases c3:0<ak y
 . have T7:y≠0:=fun e=>by have:=cI.2 e;omega
   have g5:decide ((0:Int)<(ak y:Int))=true:=aG (by omega)
   simp only [SS,Nat.reduceAdd,bn,g5]
   refine ao (hd x y T7 hx hy) (by simp [aq]) ?_
   simp only [SS,Nat.reduceAdd,Bb,Bc]
   exact ⟨(y,x%y,_),⟨zr hg,hy,by simp only [];omega⟩,Nat.mod_lt _ (Nat.pos_of_ne_zero T7),Wk.slots (by simp [Fg]) (Nat.le_refl _)⟩
 . have g5:decide ((0:Int)<(ak y:Int))=false:=aD (by omega)
   have hyz:y=0:=cI.1 (by omega)
   rw [hyz,Nat.gcd_zero_right] at hg
   have eK:=hs false x (by omega)
   rw [DW] at eK
   simp only [SS,Nat.reduceAdd,bn,g5]
   refine ao eK (by simp [aa.bool,aq]) ?_
   simp only [SS,Nat.reduceAdd,iV]
   rw [<- hg]
   refine ax▸ae (r:=IV (x:Int)) ?_ (ag _)
   simp only [RS,a8,bg,ai];rfl
end
end Go.VL
end

section
set_option linter.unusedVariables false
namespace Go.VL
theorem Us {ws:List Nat} (hw:Wd ws):ak (val ws)<=ws.length:=fN (mw hw)
theorem L4 (neg:Bool) {ws:List Nat} (hw:Wd ws):(decide (ak (val ws)=ws.length)&&(!neg||decide (0<ws.length)))=pI neg ws:=by
 unfold pI
 by_cases h0:ws=[]
 . subst h0;simp [ak,val,bD]
 . rw [if_neg h0]
   have p8:0<ws.length:=List.length_pos_iff.2 h0
   rw [aG p8,Bool.or_true,Bool.and_true]
   obtain ⟨k,hk⟩:∃ k,ws.length=k+1:=⟨ws.length-1,by omega⟩
   obtain ⟨b,x,rfl,hb⟩:=xu hk
   have e:(b++[x])[(b++[x]).length-1]?.getD 0=x:=by simp
   rw [e]
   by_cases hx:x=0
   . rw [aD (show ¬ x≠0 from fun h=>h hx),hx,kL]
     exact aD (by have:=Us (fun w hw'=>hw w (by simp [hw']):Wd b);simp;omega)
   . rw [aG hx]
     exact aG (by rw [ak,nD hw (.inr ⟨x,by simp,hx⟩)])
section
variable {P:Program} {G:Nat->Option (List AV)}
theorem NQ {f ft:FuncId} (h:Has P f (j1 ft)) (ht:iT P G ft) (neg:Bool) (ws:List Nat) (hw:Wd ws) (hl:ws.length<=9223372036854775807):VP P G f [IR neg ws] (.bool (pI neg ws)):=by
 refine VP.has h ?_
 have hlen:p7 false (.sl 1 (us ws))=some (.int .i64 ws.length):=by simp [p7,gu]
 have e:=L4 neg hw
 have d0:decide ((ak (val ws):Int)=(ws.length:Int))=decide (ak (val ws)=ws.length):=by congr 1;apply propext;omega
 have d1:decide ((0:Int)<(ws.length:Int))=decide (0<ws.length):=by congr 1;apply propext;omega
 rw [<- e]
 simp only [j1,SS,DD,Nat.reduceAdd,T5,ai,LQ]
 refine ay (ht ws hw hl) (by simp [Cn]) ?_
 simp only [SS,DD,Nat.reduceAdd,bn,ai,LQ,hlen,d0]
 by_cases c:ak (val ws)=ws.length
 . have c1:decide (ak (val ws)=ws.length)=true:=aG c
   cases neg
   . simp only [SS,DD,Nat.reduceAdd,c1,ai,T6,Bool.true_and,Bool.true_or]
     refine ⟨by simp [ab,apart], ?_⟩
     exact ax▸ae rfl (aa.bool _)
   . simp only [SS,DD,Nat.reduceAdd,c1,ai,T6,LQ,hlen,Bool.true_and,Bool.false_or,d1]
     refine ⟨by simp [ab,apart], ?_⟩
     exact ax▸ae rfl (aa.bool _)
 . have c1:decide (ak (val ws)=ws.length)=false:=aD c
   simp only [SS,DD,Nat.reduceAdd,c1,Bool.false_and]
   refine ⟨by simp [ab,apart], ?_⟩
   exact ax▸ae rfl (aa.bool _)
theorem JV {f fi:FuncId} (h:Has P f (jc fi)) (a:Int) (hi:VP P G fi [.int .i64 a] (IV a)) (ho:VP P G fi [.int .i64 1] (IV 1)):VP P G f [.int .i64 a] (RV a 1):=by
 refine VP.has h ?_
 have e:(AV.agg [.bool (decide (a<0)),W a.natAbs, .bool (decide ((1:Int)<0)),W (1:Int).natAbs])=RV a 1:=rfl
 simp only [jc,SS,Nat.reduceAdd,bR]
 refine ao hi (by simp [aa.int]) ?_
 simp only [SS,Nat.reduceAdd]
 refine ao ho (by simp [aa.int]) ?_
 simp only [SS,Nat.reduceAdd,Cy,e,LM]
 refine ax▸ae (r:=RV a 1) ?_ (sV _ _)
 simp only [RS,a8,bg,ai];rfl
theorem Ut {f:FuncId} (h:Has P f lQ) (z:Int):VP P G f [IV z] (.bool (decide (z=1))):=by
 refine VP.has h ?_
 have hl:ak z.natAbs=1->∃ w,digits z.natAbs=[w]:=fun h=>List.length_eq_one_iff.1 h
 have h11:ak 1=1:=by unfold ak;rw [iy (by decide),show 1/aK=0 from rfl,bD];rfl
 simp only [lQ,SS,Nat.reduceAdd,eX,ai,iD,bn]
 by_cases h1:ak z.natAbs=1
 . have d1:decide ((ak z.natAbs:Int)=1)=true:=aG (by omega)
   obtain ⟨w,hw⟩:=hl h1
   have hg:(digits z.natAbs)[0]? = some w:=by rw [hw];rfl
   have Xa:cW 1 (W z.natAbs) (.int .i64 0)=some (.ep (AV.int .u32 (w:Int)).cells 0):=iM (i:=0) rfl (xm hg)
   have hv:z.natAbs=w:=by have:=aZ z.natAbs;rw [hw] at this;simp [val] at this;omega
   by_cases Wf:w=1
   . have d2:decide ((w:Int)=1)=true:=aG (by omega)
     have e:(!decide (z<0))=decide (z=1):=by
       by_cases hn:z<0
       . rw [aG hn,aD (by omega)];rfl
       . rw [aD hn,aG (by omega)];rfl
     simp only [SS,Nat.reduceAdd,d1,ai,jR,iD,Xa,aN,bq,d2,e]
     exact ax▸ae rfl (aa.bool _)
   . have d2:decide ((w:Int)=1)=false:=aD (by omega)
     have e:decide (z=1)=false:=aD (by omega)
     simp only [SS,Nat.reduceAdd,d1,ai,iD,Xa,aN,bq,d2,e]
     exact ax▸ae rfl (aa.bool _)
 . have d1:decide ((ak z.natAbs:Int)=1)=false:=aD (by omega)
   have e:decide (z=1)=false:=aD (by intro e;rw [e] at h1;exact h1 h11)
   simp only [SS,Nat.reduceAdd,d1,e]
   exact ax▸ae rfl (aa.bool _)
end
end Go.VL
end

section
namespace Go.VL
open Go.Lib
theorem oO {n:Nat} (h:n<10):decDigits n=[UInt8.ofNat (48+n)]:=decDigits_one h
theorem DY {n:Nat} (h : ¬ n<10):decDigits n=decDigits (n/10)++[UInt8.ofNat (48+n%10)]:=by rw [decDigits,dif_neg h]
end Go.VL
end

section
namespace Go.Proofs
open Go.VL Go.RowKit
def CB (ws:List Nat):List Int:=ws.map fun w:Nat=>(w:Int)
theorem Rs (ws:List Nat):(CB ws).length=ws.length:=List.length_map ..
theorem Rt (a b:Nat) (ha:a<18446744073709551616) (hb:b<18446744073709551616):bits BinOp.or IntKind.u64 (a:Int) (b:Int)=((a ||| b:Nat):Int):=by
 have h:=aau a b ha hb
 rw [NB] at h
 simp only [Option.some.injEq,AV.int.injEq,true_and] at h
 rw [<- h];rfl
theorem Tryz.Be (r a:Nat) (hr:r<aK) (ha:a<aK):Tryz.GC (r:Int) (a:Int)=((aK*r+a:Nat):Int):=by
 unfold Tryz.GC
 have h1:IntKind.u64.wrap ((r:Int)*4294967296)=((aK*r:Nat):Int):=by rw [IntKind.wrap_u64];unfold aK at *;omega
 rw [h1,bx a ha,Rt _ _ (by unfold aK at *;omega) (by unfold aK at *;omega)]
 have:=Nat.two_pow_add_eq_or_of_lt (i:=32) (b:=a) (by unfold aK at ha;omega) r
 rw [show aK=2 ^ 32 from rfl,this]
theorem Tryz.toU_digits (n:Nat) (hn:n<18446744073709551616):Tryz.toU (Tryz.upto (Tryz.bw (CB (digits n))) (CB (digits n)).length)=(n:Int):=by
 have hw:=pG n hn
 have hd:=a7 n
 have hv:=aZ n
 unfold ak at hw
 generalize digits n=ds at hw hd hv
 match ds,hw,hd,hv with
 | [],_,_,hv=>subst hv;rfl
 | [a],_,hd,hv =>
   have ha:=hd a (by simp)
   have e:=Tryz.Be 0 a cX ha
   simp only [val,Nat.mul_zero,Nat.add_zero] at hv
   have:(n:Int)=((aK*0+a:Nat):Int):=by omega
   rw [this, <- e];rfl
 | [a,b],_,hd,hv =>
   have ha:=hd a (by simp)
   have hb:=hd b (by simp)
   have e1:=Tryz.Be 0 b cX hb
   rw [Nat.mul_zero,Nat.zero_add] at e1
   have e2:=Tryz.Be b a hb ha
   simp only [val,Nat.mul_zero,Nat.add_zero] at hv
   have:(n:Int)=((aK*b+a:Nat):Int):=by omega
   rw [this, <- e2]
   show Tryz.GC (Tryz.GC 0 (b:Int)) (a:Int)=_
   have e3:Tryz.GC 0 (b:Int)=(b:Int):=e1
   rw [e3]
 | _::_::_::_,hw,_,_=>simp at hw
theorem Tryz.toUint_vp (G:Nat->Option (List AV)) (n:Nat) (hn:n<18446744073709551616):VP Tryz.prog G 289 [W n] (.int .u64 (n:Int)):=by
 refine VP.WX (r:={ val := .int .u64 (n:Int) }) (bc.Tl Tryz.func289 (by kernel_rfl) (by kernel_rfl) ?_) (jy.int _ _)
 intro own E w σ vs _ hi hr
 simp only [bf] at hr
 obtain ⟨v,_,rfl,hv,rfl⟩:=hr
 have hus:us (digits n)=(CB (digits n)).map (AV.int .u32):=by simp [us,CB]
 have Bo:gb σ 1 (W n)=some ((CB (digits n)).map (AV.int .u32),[]):=by rw [W,fX,hus]
 obtain ⟨a,cap,rfl,hle,vN⟩:=Tm hi hv Bo
 have hI:Tryz.QZ w.heap.size w (.slice a (CB (digits n)).length cap) (CB (digits n)):=by
   rcases vN with h | ⟨b,o,rfl,hb,hc⟩
   . rw [h];exact .inl ⟨a,cap,rfl,rfl⟩
   . exact .inr ⟨b,o,cap,rfl,hb,hc⟩
 have hlen:(CB (digits n)).length<=2:=by rw [Rs];exact pG n hn
 refine (callsIn_wide (n:=3)).1 ((Tryz.toUint_in Fence.wide 3 trivial trivial trivial rfl (by omega) a _ cap _ (by omega) w hI).mono ?_)
 rintro e W' ⟨rfl,hB⟩
 rw [Tryz.toU_digits n hn]
 exact ⟨_,rfl,hB,fun E w=>by simp only [aX]⟩
end Go.Proofs
end

section
set_option linter.unusedSimpArgs false
namespace Go.VL
def QV (q:Rat):AV:=RV q.num q.den
theorem aj (q:Rat):aa (QV q):=sV _ _
def Sm (k:Nat) (q:Rat):Prop:=ak q.num.natAbs<=k/\ak q.den<=k
theorem Sm.mono {j k:Nat} {q:Rat} (h:Sm j q) (NP:j<=k):Sm k q:=⟨Nat.le_trans h.1 NP,Nat.le_trans h.2 NP⟩
theorem ck (a b:Int):ak (a*b).natAbs<=ak a.natAbs+ak b.natAbs:=by rw [Int.natAbs_mul];exact zk _ _
theorem L5 (a b:Int):Int.gcd a b=Nat.gcd a.natAbs b.natAbs:=rfl
theorem GX (a b:Int) (hb:b≠0):RV (a.fdiv (if b<0 then -((Nat.gcd a.natAbs b.natAbs:Nat):Int) else (Nat.gcd a.natAbs b.natAbs:Nat))) (b.fdiv (if b<0 then -((Nat.gcd a.natAbs b.natAbs:Nat):Int) else (Nat.gcd a.natAbs b.natAbs:Nat)))=QV ((a:Rat)/(b:Rat)):=by
 rw [<- Rat.divInt_eq_div]
 unfold QV
 rw [Rat.num_divInt,Rat.den_divInt,if_neg hb,L5,Nat.gcd_comm b.natAbs a.natAbs]
 have hg0:0<Nat.gcd a.natAbs b.natAbs:=Nat.gcd_pos_of_pos_right _ (by omega)
 obtain ⟨x,hx⟩:((Nat.gcd a.natAbs b.natAbs:Nat):Int) ∣ a:=Int.ofNat_dvd_left.2 (Nat.gcd_dvd_left _ _)
 obtain ⟨y,hy⟩:((Nat.gcd a.natAbs b.natAbs:Nat):Int) ∣ b:=Int.ofNat_dvd_left.2 (Nat.gcd_dvd_right _ _)
 generalize hg:Nat.gcd a.natAbs b.natAbs=g at *
 have hgz:(g:Int)≠0:=by omega
 have hba:b.natAbs/g=y.natAbs:=by
   rw [hy,Int.natAbs_mul,Int.natAbs_natCast,Nat.mul_div_cancel_left _ hg0]
 rw [hba]
 by_cases h:b<0
 . have T7:y<0:=by
     rcases Int.lt_or_le y 0 with h1 | h1
     . exact h1
     . have:=Int.mul_nonneg (Int.natCast_nonneg g) h1;omega
   rw [if_pos h,Int.sign_eq_neg_one_of_neg h]
   have e1:a.fdiv (-(g:Int)) = -1*a/(g:Int):=by
     rw [hx,show -1*((g:Int)*x)=(g:Int)*(-x) from by rw [Int.mul_neg];omega,Int.mul_ediv_cancel_left _ hgz,show (g:Int)*x = -(g:Int)*(-x) from by rw [Int.neg_mul_neg]]
     exact Int.mul_fdiv_cancel_left _ (by omega)
   have e2:b.fdiv (-(g:Int))=(y.natAbs:Int):=by
     rw [show (y.natAbs:Int) = -y from by omega]
     conv=>lhs;rw [hy]
     rw [show (g:Int)*y = -(g:Int)*(-y) from by rw [Int.neg_mul_neg]]
     exact Int.mul_fdiv_cancel_left _ (by omega)
   rw [e1,e2]
 . have T7:0<y:=by
     rcases Int.lt_or_le 0 y with h1 | h1
     . exact h1
     . have:=Int.mul_nonneg (Int.natCast_nonneg g) (show 0 <= -y by omega)
       rw [Int.mul_neg] at this;omega
   rw [if_neg h,Int.sign_eq_one_of_pos (by omega)]
   have e1:a.fdiv (g:Int)=1*a/(g:Int):=by
     rw [hx,Int.one_mul,Int.mul_ediv_cancel_left _ hgz]
     exact Int.mul_fdiv_cancel_left _ hgz
   have e2:b.fdiv (g:Int)=(y.natAbs:Int):=by
     rw [show (y.natAbs:Int)=y from by omega]
     conv=>lhs;rw [hy]
     exact Int.mul_fdiv_cancel_left _ hgz
   rw [e1,e2]
theorem uk (a b:Int):ak (Rat.divInt a b).num.natAbs<=ak a.natAbs:=by
 rw [Rat.num_divInt]
 refine bJ ?_
 rcases Int.lt_trichotomy b 0 with h | h | h
 . rw [Int.sign_eq_neg_one_of_neg h]
   exact Nat.le_trans (Int.natAbs_ediv_le_natAbs _ _) (by omega)
 . subst h;simp
 . rw [Int.sign_eq_one_of_pos h]
   exact Nat.le_trans (Int.natAbs_ediv_le_natAbs _ _) (by omega)
theorem um (a b:Int) (hb:b≠0):ak (Rat.divInt a b).den<=ak b.natAbs:=by
 rw [Rat.den_divInt,if_neg hb]
 exact bJ (Nat.div_le_self _ _)
theorem Zq (a b:Rat):a+b=((a.num*b.den+b.num*a.den:Int):Rat)/((a.den*b.den:Int):Rat):=by
 rw [<- Rat.divInt_eq_div,Rat.add_def', <- Rat.divInt_ofNat];simp
theorem Uu (a b:Rat):a*b=((a.num*b.num:Int):Rat)/((a.den*b.den:Int):Rat):=by
 rw [<- Rat.divInt_eq_div,Rat.mul_def', <- Rat.divInt_ofNat];simp
theorem ad7 (a b:Rat):a/b=((a.num*b.den:Int):Rat)/((a.den*b.num:Int):Rat):=by
 rw [Rat.div_def,Rat.inv_def]
 conv=>lhs;lhs;rw [<- Rat.num_divInt_den a]
 rw [Rat.divInt_mul_divInt,Rat.divInt_eq_div]
theorem vt (q:Rat):(0:Int)<q.den:=by have:=q.den_nz;omega
theorem NR (q:Rat):(q.den:Int)≠0:=by have:=vt q;omega
theorem xv (a b:Rat):(a.den*b.den:Int)≠0:=Int.mul_ne_zero (NR a) (NR b)
theorem Sm.neg {k:Nat} {a:Rat} (h:Sm k a):Sm k (-a):=⟨by rw [Rat.neg_num,Int.natAbs_neg];exact h.1,h.2⟩
theorem qO {m n k:Nat} (hm:ak m<=k) (hn:ak n<=k):ak (m+n)<=k+1:=by
 refine fN ?_
 have h1:=Nat.lt_of_lt_of_le (cV m) (Nat.pow_le_pow_right cX hm)
 have h2:=Nat.lt_of_lt_of_le (cV n) (Nat.pow_le_pow_right cX hn)
 rw [Nat.pow_succ]
 have:2<=aK:=by decide
 have h3:aK ^ k*2<=aK ^ k*aK:=Nat.mul_le_mul_left _ this
 omega
theorem Sm.add {j k:Nat} {a b:Rat} (ha:Sm j a) (hb:Sm k b):Sm (j+k+1) (a+b):=by
 rw [Zq, <- Rat.divInt_eq_div]
 refine ⟨Nat.le_trans (uk _ _) ?_,Nat.le_trans (um _ _ (xv a b)) ?_⟩
 . have h1:=ck a.num b.den
   have h2:=ck b.num a.den
   have h3:((b.den:Nat):Int).natAbs=b.den:=rfl
   have h4:((a.den:Nat):Int).natAbs=a.den:=rfl
   rw [h3] at h1;rw [h4] at h2
   have:=ha.1;have:=ha.2;have:=hb.1;have:=hb.2
   exact Nat.le_trans (bJ (Int.natAbs_add_le _ _)) (qO (k:=j+k) (by omega) (by omega))
 . have h1:=ck a.den b.den
   have h3:((b.den:Nat):Int).natAbs=b.den:=rfl
   have h4:((a.den:Nat):Int).natAbs=a.den:=rfl
   rw [h3,h4] at h1
   have:=ha.2;have:=hb.2
   omega
theorem Sm.sub {j k:Nat} {a b:Rat} (ha:Sm j a) (hb:Sm k b):Sm (j+k+1) (a-b):=by rw [Rat.sub_eq_add_neg];exact ha.add hb.neg
theorem Sm.mul {j k:Nat} {a b:Rat} (ha:Sm j a) (hb:Sm k b):Sm (j+k) (a*b):=by
 rw [Uu, <- Rat.divInt_eq_div]
 refine ⟨Nat.le_trans (uk _ _) ?_,Nat.le_trans (um _ _ (xv a b)) ?_⟩
 . have h1:=ck a.num b.num
   have:=ha.1;have:=hb.1
   omega
 . have h1:=ck a.den b.den
   have h3:((b.den:Nat):Int).natAbs=b.den:=rfl
   have h4:((a.den:Nat):Int).natAbs=a.den:=rfl
   rw [h3,h4] at h1
   have:=ha.2;have:=hb.2
   omega
theorem Sm.inv {k:Nat} {a:Rat} (h:Sm k a) (hk:1<=k):Sm k a⁻¹ := by
 refine ⟨?_, ?_⟩
 . rw [Rat.num_inv,Int.natAbs_mul]
   refine Nat.le_trans (bJ (n:=a.den) ?_) h.2
   have:a.num.sign.natAbs<=1:=by rcases rU a.num with ⟨h,_⟩ | ⟨h,_⟩ | ⟨h,_⟩<;>rw [h]<;>decide
   have h2:((a.den:Nat):Int).natAbs=a.den:=rfl
   rw [h2]
   exact Nat.le_trans (Nat.mul_le_mul_right _ this) (by omega)
 . rw [Rat.den_inv]
   split
   . exact Nat.le_trans vn hk
   . exact h.1
theorem Sm.div {j k:Nat} {a b:Rat} (ha:Sm j a) (hb:Sm k b) (hk:1<=k):Sm (j+k) (a/b):=by rw [Rat.div_def];exact ha.mul (hb.inv hk)
theorem Sm.zero:Sm 1 0:=⟨by simp [ak,bD],vn⟩
theorem Sm.int {z:Int} {k:Nat} (h:ak z.natAbs<=k) (hk:1<=k):Sm k (z:Rat):=⟨h,Nat.le_trans vn hk⟩
def dm (q:Rat):Int:=q.num.sign
theorem GY {q:Rat}:dm q=0↔q=0:=by unfold dm;rw [Int.sign_eq_zero_iff_zero,Rat.num_eq_zero]
def NS (a b:Rat):Int:=jk (a.num*b.den) (b.num*a.den)
theorem Ru {a b:Rat}:NS a b=0↔a=b:=by
 rw [Rat.eq_iff_mul_eq_mul]
 unfold NS
 rcases pH (a.num*b.den) (b.num*a.den) with ⟨h1,h2⟩ | ⟨h1,h2⟩ | ⟨h1,h2⟩<;>rw [h1]<;>constructor<;>intro h<;>first | omega | rfl | (simp at h)
theorem Rv {a b:Rat} (h:dm a≠dm b):NS a b=if dm a<dm b then -1 else 1:=by
 have key:=IZ (y:=a.num*b.den) (z:=b.num*a.den) (by
   rw [Int.sign_mul,Int.sign_mul,Int.sign_eq_one_of_pos (vt a),Int.sign_eq_one_of_pos (vt b),Int.mul_one,Int.mul_one];exact h)
 unfold NS
 rw [<- key,Int.sign_mul,Int.sign_mul,Int.sign_eq_one_of_pos (vt a),Int.sign_eq_one_of_pos (vt b),Int.mul_one,Int.mul_one]
 unfold dm at h ⊢
 unfold jk
 split
 . rfl
 . rw [if_pos (by omega)]
end Go.VL
end

section
set_option linter.unusedVariables false
namespace Go.VL
structure xw where
 name:List UInt8
 kind:Int
 inputs:List (List UInt8)
 values:List AV
 ahk:Bool
def strs (l:List (List UInt8)):AV := .sl 1 (l.map .str)
def xw.av (f:xw):AV := .agg [.str f.name, .int .i64 f.kind,strs f.inputs, .sl 7 f.values, .bool f.ahk]
def vu (v:AV):Prop:=∃ cs,v = .agg cs/\cs.length=7/\∀ c∈cs,aa c/\c.one=true
structure xw.Ok (f:xw):Prop where
 vals:∀ v∈f.values,vu v
 ins:f.inputs.length<9223372036854775807
 vl:f.values.length<9223372036854775807
theorem vu.pure {v:AV} (h:vu v):aa v:=by
 obtain ⟨cs,rfl,_,hc⟩:=h
 exact aa.agg fun c h=>(hc c h).1
theorem vu.part {v:AV} (h:vu v):part true v.cells 0 7=some v:=by
 obtain ⟨cs,rfl,hl,_⟩:=h
 simp [VL.part,AV.cells,hl]
 rw [<- hl];exact List.take_length
theorem L6:∀ l:List (List UInt8),flat (l.map .str)=l.map .str
 | []=>rfl
 | s::l=>by have:=L6 l;simp only [List.map_cons,flat,List.flatMap_cons,AV.cells] at this ⊢;rw [this];rfl
theorem aH (l:List (List UInt8)):aa (strs l):=aa.sl (by rw [L6];intro c hc;simp at hc;obtain ⟨s,_,rfl⟩:=hc;exact aa.str s)
theorem Rw {l:List AV} (h:∀ v∈l,vu v):aa (.sl 7 l):=aa.sl (by
 intro c hc
 simp only [flat,List.mem_flatMap] at hc
 obtain ⟨v,hv,hc⟩:=hc
 obtain ⟨cs,rfl,_,hcs⟩:=h v hv
 exact (hcs c hc).1)
theorem xw.Ok.pure {f:xw} (h:f.Ok):aa f.av:=aa.agg (by
 intro c hc
 simp only [List.mem_cons,List.not_mem_nil,or_false] at hc
 rcases hc with rfl | rfl | rfl | rfl | rfl
 . exact aa.str _
 . exact aa.int _ _
 . exact aH _
 . exact Rw h.vals
 . exact aa.bool _)
theorem xw.one (f:xw):(f.av.cells.all AV.one=true)=True:=by simp [xw.av,AV.cells,AV.one,strs]
theorem xw.p0 (f:xw):part false f.av.cells 0 1=some (.str f.name):=rfl
theorem xw.p1 (f:xw):part false f.av.cells 1 1=some (.int .i64 f.kind):=rfl
theorem xw.p2 (f:xw):part false f.av.cells 2 1=some (strs f.inputs):=rfl
theorem xw.p3 (f:xw):part false f.av.cells 3 1=some (.sl 7 f.values):=rfl
theorem xw.size (f:xw):f.av.size=5:=rfl
section
variable {P:Program} {G:Nat->Option (List AV)}
end
end Go.VL
end

section
set_option linter.unusedVariables false
set_option linter.unusedVariables false
namespace Go.VL
def vv (s:List UInt8):Nat:=match s with
 | []=>0
 | c::_=>if dL c=true then fT dw s else 0
section
variable {P:Program} {G:Nat->Option (List AV)}
theorem Xu {f fl fd:FuncId} (h:Has P f (fQ fl fd)) (hl:∀ c,VP P G fl [ky c] (.bool (dL c))) (hd:∀ c,VP P G fd [ky c] (.bool (oG c)))
   (s:List UInt8) (hs:s.length<9223372036854775807):VP P G f [.str s, .int .i64 0] (.int .i64 ((vv s:Nat):Int)):=by
 cases s with
 | nil =>
   refine VP.has h ?_
   have z0:decide ((0:Int)=((0:Nat):Int))=true:=rfl
   have e:vv []=0:=rfl
   rw [e]
   simp only [fQ,SS,Nat.reduceAdd,z0]
   exact ax▸ae rfl (aa.int _ _)
 | cons c0 s0 =>
   generalize hs0:c0::s0=s at hs ⊢
   have hlen:0<s.length:=by rw [<- hs0];simp
   have d0:decide ((0:Int)=(s.length:Int))=false:=aD (by omega)
   have Ww:s[0]? = some c0:=by rw [<- hs0];rfl
   have QT:=iL (k:=0) Ww
   simp only [Int.natCast_zero] at QT
   cases Xv:dL c0
   . have Kp:=hl c0
     rw [Xv] at Kp
     have e:vv s=0:=by rw [<- hs0];simp [vv,Xv]
     rw [e]
     refine VP.has h ?_
     simp only [fQ,SS,Nat.reduceAdd,d0,QT]
     refine ao Kp (by simp [eA]) ?_
     simp only [SS,Nat.reduceAdd]
     exact ax▸ae rfl (aa.int _ _)
   have Kp:=hl c0
   rw [Xv] at Kp
   have e:vv s=fT dw s:=by rw [<- hs0];simp [vv,Xv]
   rw [e]
   refine VP.has h ?_
   simp only [fQ,SS,Nat.reduceAdd,d0,QT]
   refine ao Kp (by simp [eA]) ?_
   simp only [SS,Nat.reduceAdd,az]
   refine VW.dU (α := Nat × Nat) (fun x=>⟨[.str s, .int .i64 (x.1:Int), .top, .top, .top]++List.replicate 37 .top,fun _=>none,x.2⟩) (fun x=>x.1<=fT dw s) (fun x=>fT dw s-x.1) (0,1000) ?_ (Nat.zero_le _) ?_
   . exact Wk.slots (by simp [Fg,List.replicate]) (by omega)
   rintro ⟨k,n⟩ hk
   simp only [] at hk
   have TL:=GF dw s
   by_cases hlt:k<s.length
   . obtain ⟨c,hc⟩:∃ c,s[k]? = some c:=⟨_,List.getElem?_eq_getElem hlt⟩
     have d1:decide ((k:Int)<(s.length:Int))=true:=aG (by omega)
     have Ko:=hl c
     have M5:=hd c
     have hwd:dw c=(dL c||oG c||decide ((c.toNat:Int)=95)):=rfl
     have p9:dw c=true->k<fT dw s:=fun hw=>by
       rcases Nat.lt_or_ge k (fT dw s) with q | q
       . exact q
       . have Wh:k=fT dw s:=by omega
         rcases A6 dw s with h0 | ⟨c',hc',WZ⟩
         . rw [<- Wh,hc] at h0;cases h0
         . rw [<- Wh,hc] at hc';cases hc';rw [hw] at WZ;cases WZ
     have ahl:dw c=false->k=fT dw s:=fun hw=>by
       rcases Nat.lt_or_ge k (fT dw s) with q | q
       . obtain ⟨c',hc',WZ⟩:=GG dw s k q
         rw [hc] at hc';cases hc';rw [hw] at WZ;cases WZ
       . omega
     have hby:(ky c) = .int .u8 (c.toNat:Int):=rfl
     cases b1:dL c
     . rw [b1] at Ko hwd
       cases b2:oG c
       . rw [b2] at M5 hwd
         cases b3:decide ((c.toNat:Int)=95)
         . rw [b3] at hwd
           have Wh:=ahl hwd
           simp only [SS,Nat.reduceAdd,d1,iL hc]
           refine ao Ko (by simp [eA]) ?_
           simp only [SS,Nat.reduceAdd,iL hc]
           refine ao M5 (by simp [eA]) ?_
           simp only [SS,Nat.reduceAdd,iL hc,hby,b3]
           rw [<- Wh]
           exact ax▸ae rfl (aa.int _ _)
         . rw [b3] at hwd
           have TL:=p9 hwd
           simp only [SS,Nat.reduceAdd,d1,iL hc]
           refine ao Ko (by simp [eA]) ?_
           simp only [SS,Nat.reduceAdd,iL hc]
           refine ao M5 (by simp [eA]) ?_
           simp only [SS,Nat.reduceAdd,iL hc,hby,b3,aP k (by omega)]
           exact ⟨(k+1,_),by simp only [];omega,by simp only [];omega,Wk.slots (by simp [Fg]) (Nat.le_refl _)⟩
       . rw [b2] at M5 hwd
         have TL:=p9 hwd
         simp only [SS,Nat.reduceAdd,d1,iL hc]
         refine ao Ko (by simp [eA]) ?_
         simp only [SS,Nat.reduceAdd,iL hc]
         refine ao M5 (by simp [eA]) ?_
         simp only [SS,Nat.reduceAdd,aP k (by omega)]
         exact ⟨(k+1,_),by simp only [];omega,by simp only [];omega,Wk.slots (by simp [Fg]) (Nat.le_refl _)⟩
     . rw [b1] at Ko hwd
       have TL:=p9 hwd
       simp only [SS,Nat.reduceAdd,d1,iL hc]
       refine ao Ko (by simp [eA]) ?_
       simp only [SS,Nat.reduceAdd,aP k (by omega)]
       exact ⟨(k+1,_),by simp only [];omega,by simp only [];omega,Wk.slots (by simp [Fg]) (Nat.le_refl _)⟩
   . have d1:decide ((k:Int)<(s.length:Int))=false:=aD (by omega)
     have Wh:k=fT dw s:=by omega
     rw [<- Wh]
     simp only [SS,Nat.reduceAdd,d1]
     exact ax▸ae rfl (aa.int _ _)
theorem NT {f fw:FuncId} (h:Has P f (eN fw)) (hw:∀ s:List UInt8,s.length<9223372036854775807->VP P G fw [.str s, .int .i64 0] (.int .i64 ((vv s:Nat):Int))) (s:List UInt8) :
   VP P G f [.str s] (.bool (eH s)):=by
 cases s with
 | nil =>
   refine VP.has h ?_
   simp only [eN,SS,Nat.reduceAdd]
   exact ax▸ae rfl (aa.bool _)
 | cons c s =>
   have e0:(!((c::s)==([]:List UInt8)))=true:=rfl
   by_cases h1:(((s.length+1:Nat)):Int)<=24
   . refine VP.has h ?_
     simp only [eN,SS,Nat.reduceAdd,e0,h1,decide_true]
     refine ao (hw (c::s) (by simp only [List.length_cons];omega)) (by simp [aa.str,aa.int]) ?_
     by_cases h3:vv (c::s)=s.length+1
     . have h4:(vv (c::s):Int)=((s.length+1:Nat):Int):=by omega
       have:eH (c::s)=true:=by
         have hv:eH (c::s)=(decide ((c::s).length<=24)&&dL c&&decide (fT dw (c::s)=(c::s).length)):=rfl
         have hwv:vv (c::s)=if dL c=true then fT dw (c::s) else 0:=rfl
         rw [hwv] at h3
         rw [hv]
         cases h2:dL c
         . rw [h2] at h3;simp at h3
         . rw [h2,if_pos rfl] at h3
           have g1:decide ((c::s).length<=24)=true:=aG (by rw [List.length_cons];omega)
           have g2:decide (fT dw (c::s)=(c::s).length)=true:=aG (by rw [List.length_cons];omega)
           rw [g1,g2];rfl
       rw [this]
       simp only [SS,Nat.reduceAdd,h4,decide_true]
       exact ax▸ae rfl (aa.bool _)
     . have h4 : ¬ (vv (c::s):Int)=((s.length+1:Nat):Int):=by omega
       have:eH (c::s)=false:=by
         have hv:eH (c::s)=(decide ((c::s).length<=24)&&dL c&&decide (fT dw (c::s)=(c::s).length)):=rfl
         have hwv:vv (c::s)=if dL c=true then fT dw (c::s) else 0:=rfl
         rw [hwv] at h3
         rw [hv]
         cases h2:dL c
         . rw [Bool.and_false,Bool.false_and]
         . rw [h2,if_pos rfl] at h3
           have g2:decide (fT dw (c::s)=(c::s).length)=false:=aD (by rw [List.length_cons];omega)
           rw [g2,Bool.and_false]
       rw [this]
       simp only [SS,Nat.reduceAdd,h4,decide_false]
       exact ax▸ae rfl (aa.bool _)
   . refine VP.has h ?_
     have:eH (c::s)=false:=by unfold eH;simp only [List.length_cons];simp;intro h;omega
     rw [this]
     simp only [eN,SS,Nat.reduceAdd,e0,h1,decide_false]
     exact ax▸ae rfl (aa.bool _)
end
end Go.VL
end

section
set_option linter.unusedVariables false
namespace Go.VL
section
variable {P:Program} {G:Nat->Option (List AV)}
theorem pJ {f:FuncId} (h:Has P f ey) {es:List AV} (hk:∀ e∈es,e.size=1) (h1:(es.all fun e=>e.cells.all AV.one)=true) (hp:∀ c∈flat es,aa c) (hl:es.length*16<=140737488355328):VP P G f [.sl 1 es] (.sl 1 es):=by
 refine VP.has h ?_
 have hb:∀ (σ : ah) (p:Id),b8 σ p (.buildSl 1 0 (AV.str []) [])=some { val := .tsl 1 [] }:=fun σ p=>bs0 rfl rfl
 cases es with
 | nil =>
   simp only [ey,SS,Nat.reduceAdd]
   refine ⟨?_, ?_⟩
   . exact ax▸⟨.nils,rfl,View.nils 1⟩
   . simp only [SS,Nat.reduceAdd,hb,oD fX]
     exact ax▸⟨_,rfl,View.WT 1⟩
 | cons e es =>
   simp only [ey,SS,Nat.reduceAdd,hb]
   rw [nM (es:=[]) fX (by simp) (by simpa using hl) (eC (by simp at hl ⊢;omega)) (by simpa using h1)]
   simp only [SS,Nat.reduceAdd]
   refine ax▸⟨_,rfl,View.osl (bk:=⟨e::es,1,false⟩) rfl rfl (by simp) ?_ (by simp) hk⟩
   simpa using aM.pure hp
end
end Go.VL
end

section
set_option linter.unusedVariables false
set_option linter.unusedVariables false
namespace Go.VL
theorem eS (l:List (List UInt8)):p7 false (strs l)=some (.int .i64 l.length):=by simp [strs,p7]
section
variable {P:Program} {G:Nat->Option (List AV)}
end
end Go.VL
end

section
set_option linter.unusedVariables false
set_option linter.unusedVariables false
namespace Go.VL
section
variable {P:Program} {G:Nat->Option (List AV)}
theorem au {σ : ah} {id:Id} {k kk:Nat} {z v:AV} (h : σ id=some ⟨[z],kk,false⟩) (hz:z.size=k) (hv:v.cells.length=k) (h1:v.cells.all AV.one=true) (hu:z.upd 0 v.cells=v) :
   fJ σ k (.ref id 0 0) v=some { val := .tup [],rd:=[id],up:=[(id,some ⟨[v],kk,false⟩)] }:=by
 rw [fH (n:=k) (v:=v) h rfl (by rw [hv]) (by rw [hz];omega) h1]
 simp [hu]
end
end Go.VL
end

section
namespace Go.VL
section
variable {P:Program} {G:Nat->Option (List AV)} {π : Id} {Q:cd->VS->Prop} {s:VS} {x:cB}
theorem VW.aI (n:Nat) (h:VW P G π x (Then (b9 P G π x Q n) Q) s):VW P G π (.loop x) Q s:=VW.rounds (n+1) h
theorem b9.next (n:Nat) (h:VW P G π x (Then (b9 P G π x Q n) Q) s):b9 P G π x Q (n+1) s:=h
end
theorem ZZ:(decide ((0:Int)<0)=false)/\(decide ((0:Int)<1)=true)/\(decide ((1:Int)<1)=false)/\(decide ((0:Int)<2)=true)/\(decide ((1:Int)<2)=true)/\(decide ((2:Int)<2)=false)/\(IntKind.i64.wrap ((0:Int)+1)=1)/\(IntKind.i64.wrap ((1:Int)+1)=2)/\(decide ((0:Int)=0)=true)/\(decide ((1:Int)=1)=true)/\(decide ((0:Int)≠0)=false)/\(decide ((1:Int)=0)=false)/\(decide ((0:Int)<=0)=true)/\(decide ((1:Int)≠1)=false)/\(decide ((2:Int)≠2)=false)/\(decide ((1:Int)≠0)=true)/\(decide ((1:Int)<=1)=true)/\(decide ((1:Int)<=0)=false)/\(decide ((0:Int)<=1)=true)/\(decide ((2:Int)=2)=true):=by decide +kernel
theorem CC:(((0:Nat):Int)=0)/\(((1:Nat):Int)=1)/\(((2:Nat):Int)=2):=⟨rfl,rfl,rfl⟩
theorem g0 {α : Type} {a : α} {l:List α}:(a::l)[0]? = some a:=rfl
theorem g1 {α : Type} {a b : α} {l:List α}:(a::b::l)[1]? = some b:=rfl
theorem g2 {α : Type} {a b c : α} {l:List α}:(a::b::c::l)[2]? = some c:=rfl
theorem CD {σ : ah} {id:Id} {x v y:AV} {k o:Nat} (h : σ id=some ⟨[x],k,false⟩) (hv:v.cells=[v]) (h1:v.one=true) (ho:o+1<=x.size) (hu:x.upd o [v]=y) :
   fJ σ 1 (.ref id 0 o) v=some { val := .tup [],rd:=[id],up:=[(id,some ⟨[y],k,false⟩)] }:=by
 rw [fH (n:=1) (v:=v) (els:=[x]) (el:=x) (k:=k) h rfl (by rw [hv];rfl) ho (by rw [hv];simpa using h1),hv,hu]
 rfl
theorem aW {id:Id} {els:List AV} {k:Nat} {b:Bool}:Df [(id,⟨els,k,b⟩)]=[(id,some ⟨els,k,true⟩)]:=rfl
theorem aL {f:FuncId}:aa (.fn (.func f) [] []):=aa.fn (by simp) (by simp)
theorem L8 {k:Nat} {e:AV} {es:List AV}:cW k (.sl k (e::es)) (.int .i64 0)=some (.ep e.cells 0):=by simp [cW]
theorem Rx {k:Nat} {d e:AV} {es:List AV}:cW k (.sl k (d::e::es)) (.int .i64 1)=some (.ep e.cells 0):=by simp [cW]
theorem ahn {k:Nat} {id:Id} {n:Nat} {t:Bool}:cW k (.osl id k 0 (n+1) t) (.int .i64 0)=some (.ref id 0 0):=by
 simp only [cW];rw [if_pos ⟨trivial,by omega,by omega⟩];rfl
theorem L9 {k:Nat} {id:Id} {t:Bool}:cW k (.osl id k 0 1 t) (.int .i64 0)=some (.ref id 0 0):=ahn
theorem ad8 {p:Id} {k bytes:Nat} {z:AV} (hb:bytes<=140737488355328) (hz:z.size=k) (h1:z.cells.all AV.one=true):jn p k bytes z (.int .i64 1) (.int .i64 1)=some { val := .osl p k 0 1 false,up:=[(p,some ⟨[z],k,false⟩)] }:=by
 simp only [jn]
 rw [if_pos ⟨by decide,by decide,by omega,by decide,hz,h1⟩]
 rfl
theorem JW {p:Id}:jn p 4 64 (.agg [.bool false, .nils, .bool false, .nils]) (.int .i64 1) (.int .i64 1)=some { val := .osl p 4 0 1 false,up:=[(p,some ⟨[.agg [.bool false, .nils, .bool false, .nils]],4,false⟩)] }:=ad8 (by decide) rfl rfl
theorem I4:bY .shl .int (.int .i64 1) (.int .i64 0)=some (.int .i64 1):=rfl
theorem En {k:Nat}:fK k .nils none (some (.int .i64 0)) none=some .nils:=rfl
theorem Bf {σ : ah} {p id:Id} {k bytes:Nat} {e:AV} {b t:Bool} (h : σ id=some ⟨[e],k,b⟩) (hb:bytes<=140737488355328) (h1:e.cells.all AV.one=true) :
   eu σ p k bytes .nils (.osl id k 0 1 t)=some { val := .osl p k 0 1 false,rd:=[id],up:=[(p,some ⟨[e],k,false⟩)] } :=
 Cm (ys:=[e]) (by rw [nL h rfl (by simp)];rfl) (by simp) (by simpa using hb) (eC (by simp)) (by simpa using h1)
theorem Uv {σ : ah} {p id D6:Id} {k bytes:Nat} {d e:AV} {b t:Bool} (h : σ id=some ⟨[e],k,b⟩) (h2 : σ D6=some ⟨[d],k,false⟩) (hb:2*bytes<=140737488355328) (h1:e.cells.all AV.one=true) (h3:d.cells.all AV.one=true) :
   eu σ p k bytes (.osl D6 k 0 1 false) (.osl id k 0 1 t)=some { val := .osl p k 0 2 false,rd:=[D6,id],up:=[(D6,none),(p,some ⟨[d,e],k,false⟩)] }:=by
 have:=oz (σ := σ) (p:=p) (id:=D6) (k:=k) (bytes:=bytes) (len:=1) (x := .osl id k 0 1 t) (els:=[d]) (ys:=[e]) (rd:=[id]) (by rw [nL h rfl (by simp)];rfl) (by simp) h2 rfl (by simpa using hb) (eC (by simp)) (by simpa using h1) (by simpa using h3)
 exact this
theorem NU {σ : ah} {id:Id} {k:Nat} {e:AV} {b t:Bool} (h : σ id=some ⟨[e],k,b⟩) (hs:e.size=k) (hp:∀ c∈e.cells,aa c):View σ (.osl id k 0 1 t) (.sl k [e]):=by
 refine View.osl (bk:=⟨[e],k,b⟩) h rfl (by simp) ?_ (by simp) (by simpa using hs)
 simpa [flat] using aM.pure hp
theorem Uw {σ : ah} {id:Id} {k:Nat} {d e:AV} {b t:Bool} (h : σ id=some ⟨[d,e],k,b⟩) (hd:d.size=k) (hs:e.size=k) (hq:∀ c∈d.cells,aa c) (hp:∀ c∈e.cells,aa c):View σ (.osl id k 0 2 t) (.sl k [d,e]):=by
 refine View.osl (bk:=⟨[d,e],k,b⟩) h rfl (by simp) ?_ (by simp) (by simp [hd,hs])
 have:aM σ (flat [d,e]) (flat [d,e]):=aM.pure (by intro c hc;simp [flat] at hc;rcases hc with h | h;exact hq c h;exact hp c h)
 simpa using this
end Go.VL
end

section
set_option linter.unusedSimpArgs false
set_option linter.unusedVariables false
namespace Go.VL
theorem sX (q:Rat):part true (QV q).cells 0 2=some (IV q.num):=rfl
theorem sY (q:Rat):part true (QV q).cells 2 2=some (IV q.den):=rfl
theorem bT (q:Rat):part true (QV q).cells 0 4=some (QV q):=rfl
theorem dc (q:Rat):((QV q).cells.all AV.one=true)=True:=NG _ _
theorem JX (q:Rat):(QV q).size=4:=rfl
theorem aA:aa .nils:=aa.nils
theorem qv (z:Int) (d:Int):iN [.bool false, .nils, .bool false, .nils] [(0,(2,IV z)),(2,(2,IV d))]=some [.bool (decide (z<0)),W z.natAbs, .bool (decide (d<0)),W d.natAbs]:=rfl
theorem GZ {z d:Int} {q:Rat} (h1:q.num=z) (h2:(q.den:Int)=d):AV.agg [.bool (decide (z<0)),W z.natAbs, .bool (decide (d<0)),W d.natAbs]=QV q:=by subst h1;subst h2;rfl
def Ma (P:Program) (G:Nat->Option (List AV)) (f:FuncId):Prop:=∀ a b:Int,ak a.natAbs<=400000->ak b.natAbs<=400000->VP P G f [IV a,IV b] (IV (a+b))
def Eo (P:Program) (G:Nat->Option (List AV)) (f:FuncId):Prop:=∀ a b:Int,ak a.natAbs<=400000->ak b.natAbs<=400000->VP P G f [IV a,IV b] (IV (a*b))
def PY (P:Program) (G:Nat->Option (List AV)) (f:FuncId):Prop:=∀ a:Int,ak a.natAbs<=400000->VP P G f [IV a] (IV (-a))
def JY (P:Program) (G:Nat->Option (List AV)) (f:FuncId):Prop:=∀ a:Int,ak a.natAbs<=400000->VP P G f [IV a] (.int .i64 a.sign)
def Zr (P:Program) (G:Nat->Option (List AV)) (f:FuncId):Prop:=∀ a b:Int,ak a.natAbs<=400000->ak b.natAbs<=400000->VP P G f [IV a,IV b] (.int .i64 (jk a b))
def G0 (P:Program) (G:Nat->Option (List AV)) (f:FuncId):Prop:=∀ z:Int,VP P G f [IV z] (.bool (decide (z=1)))
def Xw (P:Program) (G:Nat->Option (List AV)) (f:FuncId):Prop:=∀ a b:Int,b≠0->ak a.natAbs<=400001->ak b.natAbs<=400000->VP P G f [IV a,IV b] (QV ((a:Rat)/(b:Rat)))
def PZ (P:Program) (G:Nat->Option (List AV)) (f:FuncId):Prop:=∀ a b:Rat,Sm 100000 a->Sm 100000 b->VP P G f [QV a,QV b] (QV (a+b))
def P0 (P:Program) (G:Nat->Option (List AV)) (f:FuncId):Prop:=∀ a b:Rat,Sm 100000 a->Sm 100000 b->VP P G f [QV a,QV b] (QV (a*b))
def P1 (P:Program) (G:Nat->Option (List AV)) (f:FuncId):Prop:=∀ a:Rat,Sm 100000 a->VP P G f [QV a] (QV (-a))
def NW (P:Program) (G:Nat->Option (List AV)) (f:FuncId):Prop:=∀ a:Rat,Sm 100000 a->VP P G f [QV a] (.int .i64 (dm a))
def Zs (P:Program) (G:Nat->Option (List AV)) (f:FuncId):Prop:=∀ a b:Rat,Sm 100000 a->Sm 100000 b->VP P G f [QV a,QV b] (.int .i64 (NS a b))
def Zt (P:Program) (G:Nat->Option (List AV)) (f:FuncId):Prop:=∀ a b:Rat,b≠0->Sm 100000 a->Sm 100000 b->VP P G f [QV a,QV b] (.tup [QV (a/b), .int .i64 0])
def Ff (P:Program) (G:Nat->Option (List AV)) (f:FuncId):Prop:=∀ a:Rat,Sm 100000 a->VP P G f [QV a] (.bool true)
def Zu (P:Program) (G:Nat->Option (List AV)) (f:FuncId):Prop:=∀ a:Int, -9223372036854775808<=a->a<9223372036854775808->VP P G f [.int .i64 a] (QV (a:Rat))
theorem dM (n:Nat):ak ((n:Nat):Int).natAbs=ak n:=rfl
theorem zP {q:Rat} (h:(q.den:Int)=1):q=(q.num:Rat):=Rat.ext rfl (by rw [Rat.den_intCast];omega)
section
variable {P:Program} {G:Nat->Option (List AV)}
theorem Xx {f ft fp fs fc fm:FuncId} (h:Has P f (mX ft fp fs fc fm)) (ht:iT P G ft)
   (hp:∀ m n,ak m<=1000000->ak n<=1000000->VP P G fp [W m,W n] (W (m+n))) (hs:iW P G fs) (hc:∀ m n,ak m<=1000000->ak n<=1000000->VP P G fc [W m,W n] (.int .i64 (fY m n)))
   (hm:∀ m n,n<=m->ak m<=1000000->VP P G fm [W m,W n] (W (m-n))):Ma P G f:=fun a b ha hb=>by
 have hta:=oJ ht a.natAbs (by omega)
 have htb:=oJ ht b.natAbs (by omega)
 have hpv:=hp a.natAbs b.natAbs (by omega) (by omega)
 have hcv:=hc a.natAbs b.natAbs (by omega) (by omega)
 have hwl:ak (a.natAbs+b.natAbs)<=400001:=qO ha hb
 refine VP.has h ?_
 by_cases M6:decide (a<0)=decide (b<0)
 . have d0:(decide (a<0)==decide (b<0))=true:=by rw [M6];exact beq_self_eq_true _
   have PX:=hs (decide (a<0)) (a.natAbs+b.natAbs) (by omega)
   rw [L3 M6] at PX
   simp only [mX]
   repeat (first
     | simp (disch:=first | decide | exact rfl) only [SS,DD,Nat.reduceAdd,reduceIte,af,ai,az,ZZ,CC,aW,g0,g1,g2,decide_true,decide_false,eX,bZ,jR,iD,d0]
     | with_reducible refine ao (by assumption) (by simp [ag,aq,aj,aa.int,aa.bool,aa.str,aA]) ?_
     | with_reducible refine ay (by assumption) (by simp [ag,aq,aj,aa.int,aa.bool,aa.str,aA]) ?_
     | with_reducible refine And.intro (a:=ab _ _) (by simp [ab,apart]) ?_
     | with_reducible refine VW.aI 3 (VW.of ?_)
     | with_reducible refine b9.next _ (VW.of ?_)
     | rw [au (by exact rfl) (by exact rfl) (by exact rfl) (by exact rfl) (by exact rfl)]
     | rw [bW (by exact rfl) (by exact rfl) (by exact rfl) (by exact rfl)]
     | rw [bX (by exact rfl) (by exact rfl) (by exact rfl) (by exact rfl) (by exact rfl) (by exact rfl)]
     | fail)
   refine ax▸ae (r:=IV (a+b)) ?_ (ag _)
   simp only [RS,a8,bg,ai,c9]
 . have d0:(decide (a<0)==decide (b<0))=false:=by simpa using M6
   by_cases KI:b.natAbs<=a.natAbs
   . have d1:decide (fY a.natAbs b.natAbs<0)=false:=aD (by simp only [fY,jk];rw [if_neg (by omega)];split<;>decide)
     have Re:=hm a.natAbs b.natAbs KI (by omega)
     have PX:=hs (decide (a<0)) (a.natAbs-b.natAbs) (by have:=bJ (Nat.sub_le a.natAbs b.natAbs);omega)
     rw [CA M6 KI] at PX
     simp only [mX]
     repeat (first
       | simp (disch:=first | decide | exact rfl) only [SS,DD,Nat.reduceAdd,reduceIte,af,ai,az,ZZ,CC,aW,g0,g1,g2,decide_true,decide_false,eX,bZ,jR,iD,d0,d1]
       | with_reducible refine ao (by assumption) (by simp [ag,aq,aj,aa.int,aa.bool,aa.str,aA]) ?_
       | with_reducible refine ay (by assumption) (by simp [ag,aq,aj,aa.int,aa.bool,aa.str,aA]) ?_
       | with_reducible refine And.intro (a:=ab _ _) (by simp [ab,apart]) ?_
       | with_reducible refine VW.aI 3 (VW.of ?_)
       | with_reducible refine b9.next _ (VW.of ?_)
       | rw [au (by exact rfl) (by exact rfl) (by exact rfl) (by exact rfl) (by exact rfl)]
       | rw [bW (by exact rfl) (by exact rfl) (by exact rfl) (by exact rfl)]
       | rw [bX (by exact rfl) (by exact rfl) (by exact rfl) (by exact rfl) (by exact rfl) (by exact rfl)]
       | fail)
     refine ax▸ae (r:=IV (a+b)) ?_ (ag _)
     simp only [RS,a8,bg,ai,c9]
   . have d1:decide (fY a.natAbs b.natAbs<0)=true:=aG (by simp only [fY,jk];rw [if_pos (by omega)];decide)
     have Re:=hm b.natAbs a.natAbs (by omega) (by omega)
     have PX:=hs (decide (b<0)) (b.natAbs-a.natAbs) (by have:=bJ (Nat.sub_le b.natAbs a.natAbs);omega)
     rw [CA (fun e=>M6 e.symm) (by omega),Int.add_comm] at PX
     simp only [mX]
     repeat (first
       | simp (disch:=first | decide | exact rfl) only [SS,DD,Nat.reduceAdd,reduceIte,af,ai,az,ZZ,CC,aW,g0,g1,g2,decide_true,decide_false,eX,bZ,jR,iD,d0,d1]
       | with_reducible refine ao (by assumption) (by simp [ag,aq,aj,aa.int,aa.bool,aa.str,aA]) ?_
       | with_reducible refine ay (by assumption) (by simp [ag,aq,aj,aa.int,aa.bool,aa.str,aA]) ?_
       | with_reducible refine And.intro (a:=ab _ _) (by simp [ab,apart]) ?_
       | with_reducible refine VW.aI 3 (VW.of ?_)
       | with_reducible refine b9.next _ (VW.of ?_)
       | rw [au (by exact rfl) (by exact rfl) (by exact rfl) (by exact rfl) (by exact rfl)]
       | rw [bW (by exact rfl) (by exact rfl) (by exact rfl) (by exact rfl)]
       | rw [bX (by exact rfl) (by exact rfl) (by exact rfl) (by exact rfl) (by exact rfl) (by exact rfl)]
       | fail)
     refine ax▸ae (r:=IV (a+b)) ?_ (ag _)
     simp only [RS,a8,bg,ai,c9]
theorem Xy {f fn:FuncId} (h:Has P f (ri fn)) (hn:PY P G fn):P1 P G f:=fun q hq=>by
 have h1:=hn q.num (by have:=hq.1;omega)
 refine VP.has h ?_
 simp only [ri]
 repeat (first
   | simp (disch:=first | decide | exact rfl) only [SS,DD,Nat.reduceAdd,reduceIte,af,ai,az,ZZ,CC,aW,g0,g1,g2,decide_true,decide_false,dc,bR,sX,sY,qv,GZ (z := -q.num) (d:=q.den) (q := -q) rfl rfl]
   | with_reducible refine ao (by assumption) (by simp [ag,aq,aj,aa.int,aa.bool,aa.str,aA]) ?_
   | with_reducible refine ay (by assumption) (by simp [ag,aq,aj,aa.int,aa.bool,aa.str,aA]) ?_
   | with_reducible refine And.intro (a:=ab _ _) (by simp [ab,apart]) ?_
   | with_reducible refine VW.aI 3 (VW.of ?_)
   | with_reducible refine b9.next _ (VW.of ?_)
   | rw [au (by exact rfl) (by exact rfl) (by exact rfl) (by exact rfl) (by exact rfl)]
   | rw [bW (by exact rfl) (by exact rfl) (by exact rfl) (by exact rfl)]
   | rw [bX (by exact rfl) (by exact rfl) (by exact rfl) (by exact rfl) (by exact rfl) (by exact rfl)]
   | fail)
 refine ax▸ae (r:=QV (-q)) ?_ (aj _)
 simp only [RS,a8,bg,ai,bT]
theorem Xz {f fs fm fc:FuncId} (h:Has P f (rf fs fm fc)) (hs:NW P G fs) (hm:Eo P G fm) (hc:Zr P G fc):Zs P G f:=fun a b ha hb=>by
 have h1:=hs a ha
 have h2:=hs b hb
 have w1:=ck a.num b.den
 have w2:=ck b.num a.den
 rw [dM] at w1 w2
 have ha1:=ha.1
 have ha2:=ha.2
 have yj:=hb.1
 have CY:=hb.2
 have h3:=hm a.num b.den (by omega) (by rw [dM];omega)
 have h4:=hm b.num a.den (by omega) (by rw [dM];omega)
 have h5:=hc (a.num*b.den) (b.num*a.den) (by omega) (by omega)
 refine VP.has h ?_
 simp only [rf]
 by_cases hq:dm a=dm b
 . have d0:decide (dm a≠dm b)=false:=aD (by omega)
   repeat (first
     | simp (disch:=first | decide | exact rfl) only [SS,DD,Nat.reduceAdd,reduceIte,af,ai,az,ZZ,CC,aW,g0,g1,g2,decide_true,decide_false,dc,bR,sX,sY,bT,d0]
     | with_reducible refine ao (by assumption) (by simp [ag,aq,aj,aa.int,aa.bool,aa.str,aA]) ?_
     | with_reducible refine ay (by assumption) (by simp [ag,aq,aj,aa.int,aa.bool,aa.str,aA]) ?_
     | with_reducible refine And.intro (a:=ab _ _) (by simp [ab,apart]) ?_
     | with_reducible refine VW.aI 3 (VW.of ?_)
     | with_reducible refine b9.next _ (VW.of ?_)
     | rw [au (by exact rfl) (by exact rfl) (by exact rfl) (by exact rfl) (by exact rfl)]
     | rw [bW (by exact rfl) (by exact rfl) (by exact rfl) (by exact rfl)]
     | rw [bX (by exact rfl) (by exact rfl) (by exact rfl) (by exact rfl) (by exact rfl) (by exact rfl)]
     | fail)
   exact ax▸ae rfl (aa.int _ _)
 . have d0:decide (dm a≠dm b)=true:=aG (by omega)
   rw [Rv hq]
   by_cases hl:dm a<dm b
   . have d1:decide (dm a<dm b)=true:=aG hl
     rw [if_pos hl]
     repeat (first
       | simp (disch:=first | decide | exact rfl) only [SS,DD,Nat.reduceAdd,reduceIte,af,ai,az,ZZ,CC,aW,g0,g1,g2,decide_true,decide_false,dc,bR,sX,sY,bT,d0,d1]
       | with_reducible refine ao (by assumption) (by simp [ag,aq,aj,aa.int,aa.bool,aa.str,aA]) ?_
       | with_reducible refine ay (by assumption) (by simp [ag,aq,aj,aa.int,aa.bool,aa.str,aA]) ?_
       | with_reducible refine And.intro (a:=ab _ _) (by simp [ab,apart]) ?_
       | with_reducible refine VW.aI 3 (VW.of ?_)
       | with_reducible refine b9.next _ (VW.of ?_)
       | rw [au (by exact rfl) (by exact rfl) (by exact rfl) (by exact rfl) (by exact rfl)]
       | rw [bW (by exact rfl) (by exact rfl) (by exact rfl) (by exact rfl)]
       | rw [bX (by exact rfl) (by exact rfl) (by exact rfl) (by exact rfl) (by exact rfl) (by exact rfl)]
       | fail)
     exact ax▸ae rfl (aa.int _ _)
   . have d1:decide (dm a<dm b)=false:=aD hl
     rw [if_neg hl]
     repeat (first
       | simp (disch:=first | decide | exact rfl) only [SS,DD,Nat.reduceAdd,reduceIte,af,ai,az,ZZ,CC,aW,g0,g1,g2,decide_true,decide_false,dc,bR,sX,sY,bT,d0,d1]
       | with_reducible refine ao (by assumption) (by simp [ag,aq,aj,aa.int,aa.bool,aa.str,aA]) ?_
       | with_reducible refine ay (by assumption) (by simp [ag,aq,aj,aa.int,aa.bool,aa.str,aA]) ?_
       | with_reducible refine And.intro (a:=ab _ _) (by simp [ab,apart]) ?_
       | with_reducible refine VW.aI 3 (VW.of ?_)
       | with_reducible refine b9.next _ (VW.of ?_)
       | rw [au (by exact rfl) (by exact rfl) (by exact rfl) (by exact rfl) (by exact rfl)]
       | rw [bW (by exact rfl) (by exact rfl) (by exact rfl) (by exact rfl)]
       | rw [bX (by exact rfl) (by exact rfl) (by exact rfl) (by exact rfl) (by exact rfl) (by exact rfl)]
       | fail)
     exact ax▸ae rfl (aa.int _ _)
theorem XA {f fi fa fo fm fl:FuncId} (h:Has P f (rh fi fa fo fm fl)) (hi:G0 P G fi) (hA:Ma P G fa) (ho:VP P G fo [] (IV 1)) (hm:Eo P G fm) (hl:Xw P G fl):PZ P G f:=fun a b ha hb=>by
 have i1:=hi a.den
 have i2:=hi b.den
 have w1:=ck a.num b.den
 have w2:=ck b.num a.den
 have w3:=ck a.den b.den
 rw [dM] at w1 w2 w3
 rw [dM] at w3
 have ha1:=ha.1
 have ha2:=ha.2
 have yj:=hb.1
 have CY:=hb.2
 have m1:=hm a.num b.den (by omega) (by rw [dM];omega)
 have m2:=hm b.num a.den (by omega) (by rw [dM];omega)
 have m3:=hm a.den b.den (by rw [dM];omega) (by rw [dM];omega)
 have s1:=hA (a.num*b.den) (b.num*a.den) (by omega) (by omega)
 have Ag:ak (a.num*b.den+b.num*a.den).natAbs<=400001:=Nat.le_trans (bJ (Int.natAbs_add_le _ _)) (qO (k:=400000) (by omega) (by omega))
 have l1:=hl (a.num*b.den+b.num*a.den) (a.den*b.den) (xv a b) Ag (by omega)
 rw [<- Zq] at l1
 have s2:=hA a.num b.num (by omega) (by omega)
 refine VP.has h ?_
 simp only [rh]
 by_cases hda:(a.den:Int)=1
 . have d1:decide ((a.den:Int)=1)=true:=aG hda
   by_cases hdb:(b.den:Int)=1
   . have d2:decide ((b.den:Int)=1)=true:=aG hdb
     have hq:a+b=((a.num+b.num:Int):Rat):=by rw [Rat.intCast_add, <- zP hda, <- zP hdb]
     repeat (first
       | simp (disch:=first | decide | exact rfl) only [SS,DD,Nat.reduceAdd,reduceIte,af,ai,az,ZZ,CC,aW,g0,g1,g2,decide_true,decide_false,dc,bR,bZ,sX,sY,bT,d1,d2,qv]
       | with_reducible refine ao (by assumption) (by simp [ag,aq,aj,aa.int,aa.bool,aa.str,aA]) ?_
       | with_reducible refine ay (by assumption) (by simp [ag,aq,aj,aa.int,aa.bool,aa.str,aA]) ?_
       | with_reducible refine And.intro (a:=ab _ _) (by simp [ab,apart]) ?_
       | with_reducible refine VW.aI 3 (VW.of ?_)
       | with_reducible refine b9.next _ (VW.of ?_)
       | rw [au (by exact rfl) (by exact rfl) (by exact rfl) (by exact rfl) (by exact rfl)]
       | rw [bW (by exact rfl) (by exact rfl) (by exact rfl) (by exact rfl)]
       | rw [bX (by exact rfl) (by exact rfl) (by exact rfl) (by exact rfl) (by exact rfl) (by exact rfl)]
       | fail)
     refine ax▸ae (r:=QV (a+b)) ?_ (aj _)
     simp only [RS,a8,bg,ai]
     rw [hq];rfl
   . have d2:decide ((b.den:Int)=1)=false:=aD hdb
     repeat (first
       | simp (disch:=first | decide | exact rfl) only [SS,DD,Nat.reduceAdd,reduceIte,af,ai,az,ZZ,CC,aW,g0,g1,g2,decide_true,decide_false,dc,bR,bZ,eX,c9,sX,sY,bT,d1,d2,qv]
       | with_reducible refine ao (by assumption) (by simp [ag,aq,aj,aa.int,aa.bool,aa.str,aA]) ?_
       | with_reducible refine ay (by assumption) (by simp [ag,aq,aj,aa.int,aa.bool,aa.str,aA]) ?_
       | with_reducible refine And.intro (a:=ab _ _) (by simp [ab,apart]) ?_
       | with_reducible refine VW.aI 3 (VW.of ?_)
       | with_reducible refine b9.next _ (VW.of ?_)
       | rw [au (by exact rfl) (by exact rfl) (by exact rfl) (by exact rfl) (by exact rfl)]
       | rw [bW (by exact rfl) (by exact rfl) (by exact rfl) (by exact rfl)]
       | rw [bX (by exact rfl) (by exact rfl) (by exact rfl) (by exact rfl) (by exact rfl) (by exact rfl)]
       | fail)
     refine ax▸ae (r:=QV (a+b)) ?_ (aj _)
     simp only [RS,a8,bg,ai,bT]
 . have d1:decide ((a.den:Int)=1)=false:=aD hda
   repeat (first
     | simp (disch:=first | decide | exact rfl) only [SS,DD,Nat.reduceAdd,reduceIte,af,ai,az,ZZ,CC,aW,g0,g1,g2,decide_true,decide_false,dc,bR,bZ,eX,c9,sX,sY,bT,d1,qv]
     | with_reducible refine ao (by assumption) (by simp [ag,aq,aj,aa.int,aa.bool,aa.str,aA]) ?_
     | with_reducible refine ay (by assumption) (by simp [ag,aq,aj,aa.int,aa.bool,aa.str,aA]) ?_
     | with_reducible refine And.intro (a:=ab _ _) (by simp [ab,apart]) ?_
     | with_reducible refine VW.aI 3 (VW.of ?_)
     | with_reducible refine b9.next _ (VW.of ?_)
     | rw [au (by exact rfl) (by exact rfl) (by exact rfl) (by exact rfl) (by exact rfl)]
     | rw [bW (by exact rfl) (by exact rfl) (by exact rfl) (by exact rfl)]
     | rw [bX (by exact rfl) (by exact rfl) (by exact rfl) (by exact rfl) (by exact rfl) (by exact rfl)]
     | fail)
   refine ax▸ae (r:=QV (a+b)) ?_ (aj _)
   simp only [RS,a8,bg,ai,bT]
theorem Ry {f:FuncId} (h:Has P f oi) (z:Int):VP P G f [IV z] (.bool (decide (z=0))):=by
 have e:decide ((ak z.natAbs:Int)=0)=decide (z=0):=by
   have:=cI (n:=z.natAbs)
   congr 1;apply propext;omega
 refine VP.has h ?_
 simp only [oi]
 repeat (first
   | simp (disch:=first | decide | exact rfl) only [SS,DD,Nat.reduceAdd,reduceIte,af,ai,az,ZZ,CC,aW,g0,g1,g2,decide_true,decide_false,eX,iD,bn,e]
   | with_reducible refine ao (by assumption) (by simp [ag,aq,aj,aa.int,aa.bool,aa.str,aA]) ?_
   | with_reducible refine ay (by assumption) (by simp [ag,aq,aj,aa.int,aa.bool,aa.str,aA]) ?_
   | with_reducible refine And.intro (a:=ab _ _) (by simp [ab,apart]) ?_
   | with_reducible refine VW.aI 3 (VW.of ?_)
   | with_reducible refine b9.next _ (VW.of ?_)
   | rw [au (by exact rfl) (by exact rfl) (by exact rfl) (by exact rfl) (by exact rfl)]
   | rw [bW (by exact rfl) (by exact rfl) (by exact rfl) (by exact rfl)]
   | rw [bX (by exact rfl) (by exact rfl) (by exact rfl) (by exact rfl) (by exact rfl) (by exact rfl)]
   | fail)
 exact ax▸ae rfl (aa.bool _)
theorem XB {f fz fm fl:FuncId} (h:Has P f (rj fz fm fl)) (hz:∀ z:Int,VP P G fz [IV z] (.bool (decide (z=0)))) (hm:Eo P G fm) (hl:Xw P G fl):Zt P G f:=fun a b HS ha hb=>by
 have Zi:b.num≠0:=fun e=>HS (Rat.num_eq_zero.1 e)
 have i1:=hz b.num
 have d1:decide (b.num=0)=false:=aD Zi
 rw [d1] at i1
 have w1:=ck a.num b.den
 have w2:=ck a.den b.num
 rw [dM] at w1 w2
 have ha1:=ha.1
 have ha2:=ha.2
 have yj:=hb.1
 have CY:=hb.2
 have m1:=hm a.num b.den (by omega) (by rw [dM];omega)
 have m2:=hm a.den b.num (by rw [dM];omega) (by omega)
 have l1:=hl (a.num*b.den) (a.den*b.num) (Int.mul_ne_zero (NR a) Zi) (by omega) (by omega)
 rw [<- ad7] at l1
 refine VP.has h ?_
 simp only [rj]
 repeat (first
   | simp (disch:=first | decide | exact rfl) only [SS,DD,Nat.reduceAdd,reduceIte,af,ai,az,ZZ,CC,aW,g0,g1,g2,decide_true,decide_false,dc,bR,bZ,eX,c9,sX,sY,bT,qv]
   | with_reducible refine ao (by assumption) (by simp [ag,aq,aj,aa.int,aa.bool,aa.str,aA]) ?_
   | with_reducible refine ay (by assumption) (by simp [ag,aq,aj,aa.int,aa.bool,aa.str,aA]) ?_
   | with_reducible refine And.intro (a:=ab _ _) (by simp [ab,apart]) ?_
   | with_reducible refine VW.aI 3 (VW.of ?_)
   | with_reducible refine b9.next _ (VW.of ?_)
   | rw [au (by exact rfl) (by exact rfl) (by exact rfl) (by exact rfl) (by exact rfl)]
   | rw [bW (by exact rfl) (by exact rfl) (by exact rfl) (by exact rfl)]
   | rw [bX (by exact rfl) (by exact rfl) (by exact rfl) (by exact rfl) (by exact rfl) (by exact rfl)]
   | fail)
 refine ax▸ae (r := .tup [QV (a/b), .int .i64 0]) ?_ (aa.tup (by simp [aj,aa.int]))
 simp only [RS,a8,bg,ai,bT]
end
end Go.VL
end

section
set_option linter.unusedSimpArgs false
set_option linter.unusedVariables false
namespace Go.VL
theorem ad9 (a:Int) (b:Nat) (hb:b≠0):QV ((a:Rat)/((b:Int):Rat))=RV (a/(Nat.gcd a.natAbs b:Nat)) ((b:Int)/(Nat.gcd a.natAbs b:Nat)):=by
 have h:=GX a b (by omega)
 rw [if_neg (by omega),Int.natAbs_natCast,Int.fdiv_eq_ediv_of_nonneg _ (Int.natCast_nonneg _),Int.fdiv_eq_ediv_of_nonneg _ (Int.natCast_nonneg _)] at h
 exact h.symm
theorem XC (a b:Rat):(a+b).num=(a.num*((b.den/Nat.gcd a.den b.den:Nat):Int)+b.num*((a.den/Nat.gcd a.den b.den:Nat):Int))/(Nat.gcd (a.num*((b.den/Nat.gcd a.den b.den:Nat):Int)+b.num*((a.den/Nat.gcd a.den b.den:Nat):Int)).natAbs (Nat.gcd a.den b.den):Nat) /\
   (a+b).den=a.den/Nat.gcd a.den b.den*(b.den/Nat.gcd (a.num*((b.den/Nat.gcd a.den b.den:Nat):Int)+b.num*((a.den/Nat.gcd a.den b.den:Nat):Int)).natAbs (Nat.gcd a.den b.den)):=by
 show (Rat.add a b).num=_/\(Rat.add a b).den=_
 unfold Rat.add
 dsimp only
 split
 . rename_i h
   simp [h]
 . unfold Rat.maybeNormalize
   have hd:∀ x:Nat,Nat.gcd x (Nat.gcd a.den b.den) ∣ b.den:=fun x=>Nat.dvd_trans (Nat.gcd_dvd_right _ _) (Nat.gcd_dvd_right _ _)
   split
   . rename_i h
     have e:∀ (N:Int) (k x y:Nat),k=1->N=N/(k:Int)/\x*y=x*(y/k):=by
       intro N k x y hk;subst hk;simp
     exact e _ _ _ _ h
   . refine ⟨rfl, ?_⟩
     exact Nat.mul_div_assoc _ (hd _)
theorem XD (a b:Rat):(a*b).num=a.num/(Nat.gcd a.num.natAbs b.den:Nat)*(b.num/(Nat.gcd b.num.natAbs a.den:Nat))/\(a*b).den=a.den/Nat.gcd b.num.natAbs a.den*(b.den/Nat.gcd a.num.natAbs b.den):=by
 show (Rat.mul a b).num=_/\(Rat.mul a b).den=_
 unfold Rat.mul
 simp
def Ux (P:Program) (G:Nat->Option (List AV)) (f:FuncId):Prop:=∀ z:Int,ak z.natAbs<=1000000->VP P G f [IV z] (IV z)
def I5 (P:Program) (G:Nat->Option (List AV)) (f:FuncId):Prop:=∀ a b:Int,ak a.natAbs<=400001->ak b.natAbs<=400000->VP P G f [IV a,IV b] (IV (Nat.gcd a.natAbs b.natAbs:Nat))
def P2 (P:Program) (G:Nat->Option (List AV)) (f:FuncId):Prop:=∀ a b:Int,0<b->b ∣ a->ak a.natAbs<=400001->ak b.natAbs<=400000->VP P G f [IV a,IV b] (IV (a/b))
section
variable {P:Program} {G:Nat->Option (List AV)}
theorem Uy {f fn fd fs fm fsu fsg ffi fa:FuncId} (h:Has P f (jD fn fd fs fm fsu fsg ffi fa)) (hn:Ux P G fn) (hd:∀ m n,n≠0->ak m<=900000->ak n<=900000->VP P G fd [W m,W n] (.tup [W (m/n),W (m%n)])) (hs:iW P G fs)
   (hm:∀ a b:Int,ak a.natAbs<=1000000->ak b.natAbs<=1000000->VP P G fm [IV a,IV b] (IV (a*b))) (hsu:∀ a b:Int,ak a.natAbs<=1000000->ak b.natAbs<=1000000->VP P G fsu [IV a,IV b] (IV (a-b)))
   (LL:∀ z:Int,ak z.natAbs<=1000000->VP P G fsg [IV z] (.int .i64 z.sign)) (a b:Int) (HS:0<b) (hba:b ∣ a) (ha:ak a.natAbs<=900000) (hb:ak b.natAbs<=900000) :
   VP P G f [IV a,IV b] (.tup [IV (a/b),IV 0, .int .i64 0]):=by
 have h1:=hn a (by omega)
 have h2:=hn b (by omega)
 have h3:=hd a.natAbs b.natAbs (by omega) ha hb
 have e:a.natAbs/b.natAbs=(a/b).natAbs:=by
   obtain ⟨c,rfl⟩:=hba
   rw [Int.mul_ediv_cancel_left _ (by omega),Int.natAbs_mul,Nat.mul_div_cancel_left _ (by omega)]
 have hw:ak (a/b).natAbs<=900000:=by rw [<- e];exact Nat.le_trans (bJ (Nat.div_le_self _ _)) ha
 have h4:=hs (decide (a<0)) (a.natAbs/b.natAbs) (by rw [e];omega)
 have e4:xn (decide (a<0)) (a.natAbs/b.natAbs)=a/b:=by
   obtain ⟨c,rfl⟩:=hba
   rw [Int.mul_ediv_cancel_left _ (by omega),Int.natAbs_mul,Nat.mul_div_cancel_left _ (by omega)]
   have:decide (b*c<0)=decide (c<0):=by
     congr 1;apply propext
     constructor
     . intro h;rcases Int.lt_or_le c 0 with h1 | h1
       . exact h1
       . have:=Int.mul_nonneg (Int.le_of_lt HS) h1;omega
     . intro h;exact Int.mul_neg_of_pos_of_neg HS h
   rw [this,Cx]
 rw [e4] at h4
 have h5:=hm (a/b) b (by omega) (by omega)
 rw [Int.ediv_mul_cancel hba] at h5
 have h6:=hsu a a (by omega) (by omega)
 rw [Int.sub_self] at h6
 have h7:VP P G fsg [IV 0] (.int .i64 0):=LL 0 (by simp [ak,bD])
 have h8:=LL b (by omega)
 rw [Int.sign_eq_one_of_pos HS] at h8
 have SC:ak b.natAbs≠0:=fun e=>by have:=cI.1 e;omega
 have d0:decide ((ak b.natAbs:Int)=0)=false:=aD (by omega)
 have d1:(!(decide (a<0)==decide (b<0)))=decide (a<0):=by rw [aD (show ¬ b<0 by omega)];cases decide (a<0)<;>rfl
 have w0:IntKind.i64.wrap ((0:Int)*1)=0:=by decide
 refine VP.has h ?_
 simp only [jD]
 repeat (first
   | simp (disch:=first | decide | exact rfl) only [SS,DD,Nat.reduceAdd,reduceIte,af,ai,az,ZZ,CC,aW,g0,g1,g2,decide_true,decide_false,eX,bZ,jR,iD,c9,bn,d0,d1,w0]
   | with_reducible refine ao (by assumption) (by simp [ag,aq,aj,aa.int,aa.bool,aa.str,aA]) ?_
   | with_reducible refine ay (by assumption) (by simp [ag,aq,aj,aa.int,aa.bool,aa.str,aA]) ?_
   | with_reducible refine And.intro (a:=ab _ _) (by simp [ab,apart]) ?_
   | with_reducible refine VW.aI 3 (VW.of ?_)
   | with_reducible refine b9.next _ (VW.of ?_)
   | rw [au (by exact rfl) (by exact rfl) (by exact rfl) (by exact rfl) (by exact rfl)]
   | rw [bW (by exact rfl) (by exact rfl) (by exact rfl) (by exact rfl)]
   | rw [bX (by exact rfl) (by exact rfl) (by exact rfl) (by exact rfl) (by exact rfl) (by exact rfl)]
   | fail)
 refine ax▸ae (r := .tup [IV (a/b),IV 0, .int .i64 0]) ?_ (aa.tup (by simp [ag,aa.int]))
 simp (disch:=decide) only [RS,a8,bg,af,ai,c9]
theorem Uz {f fd:FuncId} (h:Has P f (lP fd)) (a b:Int) (hd:VP P G fd [IV a,IV b] (.tup [IV (a/b),IV 0, .int .i64 0])):VP P G f [IV a,IV b] (IV (a/b)):=by
 refine VP.has h ?_
 simp only [lP]
 repeat (first
   | simp (disch:=first | decide | exact rfl) only [SS,DD,Nat.reduceAdd,reduceIte,af,ai,az,ZZ,CC,aW,g0,g1,g2,decide_true,decide_false,eX,bZ,c9]
   | with_reducible refine ao (by assumption) (by simp [ag,aq,aj,aa.int,aa.bool,aa.str,aA]) ?_
   | with_reducible refine ay (by assumption) (by simp [ag,aq,aj,aa.int,aa.bool,aa.str,aA]) ?_
   | with_reducible refine And.intro (a:=ab _ _) (by simp [ab,apart]) ?_
   | with_reducible refine VW.aI 3 (VW.of ?_)
   | with_reducible refine b9.next _ (VW.of ?_)
   | rw [au (by exact rfl) (by exact rfl) (by exact rfl) (by exact rfl) (by exact rfl)]
   | rw [bW (by exact rfl) (by exact rfl) (by exact rfl) (by exact rfl)]
   | rw [bX (by exact rfl) (by exact rfl) (by exact rfl) (by exact rfl) (by exact rfl) (by exact rfl)]
   | fail)
 refine ax▸ae (r:=IV (a/b)) ?_ (ag _)
 simp (disch:=decide) only [RS,a8,bg,af,ai,c9]
theorem UA {f fn:FuncId} (h:Has P f (lX fn)) (hn:PY P G fn):P1 P G f:=fun q hq=>by
 have h1:=hn q.num (by have:=hq.1;omega)
 refine VP.has h ?_
 simp only [lX]
 repeat (first
   | simp (disch:=first | decide | exact rfl) only [SS,DD,Nat.reduceAdd,reduceIte,af,ai,az,ZZ,CC,aW,g0,g1,g2,decide_true,decide_false,dc,bR,sX,sY,qv,GZ (z := -q.num) (d:=q.den) (q := -q) rfl rfl]
   | with_reducible refine ao (by assumption) (by simp [ag,aq,aj,aa.int,aa.bool,aa.str,aA]) ?_
   | with_reducible refine ay (by assumption) (by simp [ag,aq,aj,aa.int,aa.bool,aa.str,aA]) ?_
   | with_reducible refine And.intro (a:=ab _ _) (by simp [ab,apart]) ?_
   | with_reducible refine VW.aI 3 (VW.of ?_)
   | with_reducible refine b9.next _ (VW.of ?_)
   | rw [au (by exact rfl) (by exact rfl) (by exact rfl) (by exact rfl) (by exact rfl)]
   | rw [bW (by exact rfl) (by exact rfl) (by exact rfl) (by exact rfl)]
   | rw [bX (by exact rfl) (by exact rfl) (by exact rfl) (by exact rfl) (by exact rfl) (by exact rfl)]
   | fail)
 refine ax▸ae (r:=QV (-q)) ?_ (aj _)
 simp only [RS,a8,bg,ai,bT]
theorem Rz {f fg fs fn fq:FuncId} (h:Has P f (kQ fg fs fn fq)) (hg:I5 P G fg) (hs:JY P G fs) (hq:P2 P G fq) (a:Int) (b:Nat) (HS:b≠0) (ha:ak a.natAbs<=400000) (hb:ak b<=400000):VP P G f [IV a,IV b] (QV ((a:Rat)/((b:Int):Rat))):=by
 have h1:=hg a b (by omega) hb
 rw [Int.natAbs_natCast] at h1
 have h2:=hs b hb
 rw [Int.sign_eq_one_of_pos (by omega)] at h2
 have hgp:0<Nat.gcd a.natAbs b:=Nat.gcd_pos_of_pos_right _ (by omega)
 have hgl:ak (((Nat.gcd a.natAbs b:Nat):Int)).natAbs<=400000:=Nat.le_trans (bJ (Nat.le_of_dvd (by omega) (Nat.gcd_dvd_right _ _))) hb
 have h3:=hq a (Nat.gcd a.natAbs b:Nat) (by omega) (Int.ofNat_dvd_left.2 (Nat.gcd_dvd_left _ _)) (by omega) hgl
 have h4:=hq b (Nat.gcd a.natAbs b:Nat) (by omega) (Int.ofNat_dvd_left.2 (by rw [Int.natAbs_natCast];exact Nat.gcd_dvd_right _ _)) (by rw [dM];omega) hgl
 have e:=ad9 a b HS
 have e2:AV.agg [.bool (decide (a/(Nat.gcd a.natAbs b:Nat)<0)),W (a/(Nat.gcd a.natAbs b:Nat)).natAbs, .bool (decide ((b:Int)/(Nat.gcd a.natAbs b:Nat)<0)),W ((b:Int)/(Nat.gcd a.natAbs b:Nat)).natAbs]=QV ((a:Rat)/((b:Int):Rat)):=e.symm
 have d0:decide ((1:Int)<0)=false:=rfl
 refine VP.has h ?_
 simp only [kQ]
 repeat (first
   | simp (disch:=first | decide | exact rfl) only [SS,DD,Nat.reduceAdd,reduceIte,af,ai,az,ZZ,CC,aW,g0,g1,g2,decide_true,decide_false,eX,bZ,bR,c9,qv,e2,dc,d0]
   | with_reducible refine ao (by assumption) (by simp [ag,aq,aj,aa.int,aa.bool,aa.str,aA]) ?_
   | with_reducible refine ay (by assumption) (by simp [ag,aq,aj,aa.int,aa.bool,aa.str,aA]) ?_
   | with_reducible refine And.intro (a:=ab _ _) (by simp [ab,apart]) ?_
   | with_reducible refine VW.aI 3 (VW.of ?_)
   | with_reducible refine b9.next _ (VW.of ?_)
   | rw [au (by exact rfl) (by exact rfl) (by exact rfl) (by exact rfl) (by exact rfl)]
   | rw [bW (by exact rfl) (by exact rfl) (by exact rfl) (by exact rfl)]
   | rw [bX (by exact rfl) (by exact rfl) (by exact rfl) (by exact rfl) (by exact rfl) (by exact rfl)]
   | fail)
 refine ax▸ae (r:=QV ((a:Rat)/((b:Int):Rat))) ?_ (aj _)
 simp (disch:=decide) only [RS,a8,bg,af,ai,bT]
theorem RA {f fi fI fm:FuncId} (h:Has P f (kR fi fI fm)) (a:Int) (b:Nat) (HS:b≠0) (h1:VP P G fI [.int .i64 a] (IV a)) (h2:VP P G fI [.int .i64 (b:Int)] (IV (b:Int))) (hm:VP P G fm [IV a,IV b] (QV ((a:Rat)/((b:Int):Rat)))):VP P G f [.int .i64 a, .int .i64 (b:Int)] (QV ((a:Rat)/((b:Int):Rat))):=by
 have d0:decide ((b:Int)=0)=false:=aD (by omega)
 refine VP.has h ?_
 simp only [kR]
 repeat (first
   | simp (disch:=first | decide | exact rfl) only [SS,DD,Nat.reduceAdd,reduceIte,af,ai,az,ZZ,CC,aW,g0,g1,g2,decide_true,decide_false,bR,dc,d0]
   | with_reducible refine ao (by assumption) (by simp [ag,aq,aj,aa.int,aa.bool,aa.str,aA]) ?_
   | with_reducible refine ay (by assumption) (by simp [ag,aq,aj,aa.int,aa.bool,aa.str,aA]) ?_
   | with_reducible refine And.intro (a:=ab _ _) (by simp [ab,apart]) ?_
   | with_reducible refine VW.aI 3 (VW.of ?_)
   | with_reducible refine b9.next _ (VW.of ?_)
   | rw [au (by exact rfl) (by exact rfl) (by exact rfl) (by exact rfl) (by exact rfl)]
   | rw [bW (by exact rfl) (by exact rfl) (by exact rfl) (by exact rfl)]
   | rw [bX (by exact rfl) (by exact rfl) (by exact rfl) (by exact rfl) (by exact rfl) (by exact rfl)]
   | fail)
 refine ax▸ae (r:=QV ((a:Rat)/((b:Int):Rat))) ?_ (aj _)
 simp (disch:=decide) only [RS,a8,bg,af,ai,bT]
end
end Go.VL
end

section
set_option linter.unusedSimpArgs false
set_option linter.unusedVariables false
namespace Go.VL
def EV (q:Rat):AV := .sl 4 [QV q]
theorem CE (q:Rat):∀ c∈(QV q).cells,aa c:=by
 intro c hc
 simp only [QV,RV,AV.cells,List.mem_cons,List.not_mem_nil,or_false] at hc
 rcases hc with rfl | rfl | rfl | rfl
 . exact aa.bool _
 . exact aq _
 . exact aa.bool _
 . exact aq _
theorem ar (q:Rat):aa (EV q):=aa.sl (by intro c hc;simp only [flat,List.flatMap_cons,List.flatMap_nil,List.append_nil] at hc;exact CE q c hc)
theorem uo (q:Rat):p7 false (EV q)=some (.int .i64 1):=rfl
theorem vz (q:Rat):cW 4 (EV q) (.int .i64 0)=some (.ep (QV q).cells 0):=L8
theorem aa8 {id:Id} {k:Nat} {t:Bool}:p7 false (.osl id k 0 1 t)=some (.int .i64 1):=rfl
theorem qw {σ : ah} {id:Id} {q:Rat} {b t:Bool} (h : σ id=some ⟨[QV q],4,b⟩):View σ (.osl id 4 0 1 t) (EV q):=NU h rfl (CE q)
section
variable {P:Program} {G:Nat->Option (List AV)}
theorem mS {f fw:FuncId} (h:Has P f db) {a c:List AV} {es:List AV} (hk:∀ e∈es,part true e.cells 0 4=some e) {p:AV->Bool} (hw:∀ e∈es,VP P G fw (a++[e]++c) (.bool (p e)))
   (hp:∀ e∈es,aa e) (ha:∀ x∈a,aa x) (hc:∀ x∈c,aa x) (hl:es.length<9223372036854775807):VP P G f [.sl 4 es, .fn (.func fw) a c] (.int .i64 (Af (es.findIdx? p))):=by
 refine VP.has h ?_
 simp only [db,SS,Nat.reduceAdd,reduceIte,az]
 refine VW.dU (α := Nat × Nat) (fun x=>⟨[.sl 4 es, .fn (.func fw) a c, .top, .top, .top, .top, .top, .int .i64 es.length, .int .i64 x.1]++List.replicate 10 .top,fun _=>none,x.2⟩) (fun x=>x.1<=es.length/\∀ (j:Nat) e,j<x.1->es[j]? = some e->p e=false) (fun x=>es.length-x.1) (0,4) ?_ ⟨Nat.zero_le _,fun j e hj=>absurd hj (Nat.not_lt_zero j)⟩ ?_
 . exact Wk.slots (by simp [Fg,List.replicate]) (Nat.le_refl _)
 rintro ⟨i,n⟩ ⟨hi,hn⟩
 simp only [] at hi hn
 simp only [SS,Nat.reduceAdd,reduceIte]
 by_cases hlt:i<es.length
 . have h1:(i:Int)<(es.length:Int):=by omega
   obtain ⟨e,he⟩:∃ e,es[i]? = some e:=⟨es[i],by simp [hlt]⟩
   have hm:=List.mem_of_getElem? he
   simp only [SS,Nat.reduceAdd,reduceIte,h1,decide_true,iM rfl he,aN,hk e hm]
   refine ao (hw e hm) (by
     intro x hx
     simp only [List.mem_append,List.mem_singleton] at hx
     rcases hx with (hx | rfl) | hx
     . exact ha x hx
     . exact hp _ hm
     . exact hc x hx) ?_
   cases hpe:p e
   . simp only [SS,Nat.reduceAdd,reduceIte,aP i (by omega)]
     refine ⟨(i+1,_),⟨by simp only [];omega, ?_⟩,by simp only [];omega,Wk.slots (by simp [Fg,List.replicate]) (Nat.le_refl _)⟩
     intro j e' hj Kv
     by_cases TM:j<i
     . exact hn j e' TM Kv
     . have:j=i:=by simp only [] at hj;omega
       subst this;rw [he] at Kv;simp only [Option.some.injEq] at Kv;subst Kv;exact hpe
   . simp only [SS,Nat.reduceAdd,reduceIte]
     rw [qN he hpe hn]
     exact ax▸ae rfl (aa.int _ _)
 . have h1 : ¬ (i:Int)<(es.length:Int):=by omega
   simp only [SS,Nat.reduceAdd,reduceIte,h1,decide_false]
   rw [qM (fun j e hj=>hn j e (by have:=(List.getElem?_eq_some_iff.1 hj).1;omega) hj)]
   exact ax▸ae rfl (aa.int _ _)
theorem lA {f fi fw:FuncId} (h:Has P f (cG fi)) {a c:List AV} {es:List AV} {p:AV->Bool} (hi:VP P G fi [.sl 4 es, .fn (.func fw) a c] (.int .i64 (Af (es.findIdx? p))))
   (hp:aa (.sl 4 es)) (Ic:aa (.fn (.func fw) a c)):VP P G f [.sl 4 es, .fn (.func fw) a c] (.bool (es.any p)):=by
 refine VP.has h ?_
 simp only [cG,SS,Nat.reduceAdd,reduceIte]
 refine ao hi (by intro x hx;simp at hx;rcases hx with rfl | rfl<;>assumption) ?_
 simp only [SS,Nat.reduceAdd,reduceIte]
 have e:decide (0<=Af (es.findIdx? p))=es.any p:=by
   rw [<- List.findIdx?_isSome]
   cases es.findIdx? p<;>simp [Af]
 rw [e]
 exact ax▸ae rfl (aa.bool _)
theorem Mb {f fv:FuncId} (h:Has P f (lx fv)) (q:Rat) (hv:VP P G fv [QV q] (.bool true)):VP P G f [QV q] (.bool false):=by
 refine VP.has h ?_
 simp only [lx]
 repeat (first
   | simp (disch:=first | decide | exact rfl) only [SS,DD,Nat.reduceAdd,reduceIte,af,ai,az,ZZ,CC,aW,g0,g1,g2,decide_true,decide_false,dc,bT]
   | with_reducible refine ao (by assumption) (by simp [ag,aq,aj,aa.int,aa.bool,aa.str,aA,ar,aL]) ?_
   | with_reducible refine ay (by assumption) (by simp [ag,aq,aj,aa.int,aa.bool,aa.str,aA,ar,aL]) ?_
   | with_reducible refine And.intro (a:=ab _ _) (by simp [ab,apart]) ?_
   | with_reducible refine VW.aI 3 (VW.of ?_)
   | with_reducible refine b9.next _ (VW.of ?_)
   | rw [au (by exact rfl) (by exact rfl) (by exact rfl) (by exact rfl) (by exact rfl)]
   | rw [bW (by exact rfl) (by exact rfl) (by exact rfl) (by exact rfl)]
   | rw [bX (by exact rfl) (by exact rfl) (by exact rfl) (by exact rfl) (by exact rfl) (by exact rfl)]
   | fail)
 exact ax▸ae rfl (aa.bool _)
theorem NY {f fc fi f1 fv:FuncId} (h:Has P f (qe fc f1)) (hc:Has P fc (cG fi)) (hi:Has P fi db) (h1:Has P f1 (lx fv)) (hv:Ff P G fv)
   (q:Rat) (hq:Sm 100000 q):VP P G f [EV q, .int .i64 1] (.bool true):=by
 have k1:=mS (G:=G) hi (fw:=f1) (a:=[]) (c:=[]) (es:=[QV q]) (p:=fun _=>false) (by simp [bT]) (by simpa using Mb h1 q (hv q hq)) (by simp [aj]) (by simp) (by simp) (by simp)
 have k2:=lA hc k1 (ar q) aL
 have e:(([QV q]:List AV).any fun _=>false)=false:=rfl
 rw [e] at k2
 have k3:VP P G fc [EV q, .fn (.func f1) [] []] (.bool false):=k2
 have d1:decide ((1:Int)=1)=true:=rfl
 refine VP.has h ?_
 simp only [qe]
 repeat (first
   | simp (disch:=first | decide | exact rfl) only [SS,DD,Nat.reduceAdd,reduceIte,af,ai,az,ZZ,CC,aW,g0,g1,g2,decide_true,decide_false,uo,d1]
   | with_reducible refine ao (by assumption) (by simp [ag,aq,aj,aa.int,aa.bool,aa.str,aA,ar,aL]) ?_
   | with_reducible refine ay (by assumption) (by simp [ag,aq,aj,aa.int,aa.bool,aa.str,aA,ar,aL]) ?_
   | with_reducible refine And.intro (a:=ab _ _) (by simp [ab,apart]) ?_
   | with_reducible refine VW.aI 3 (VW.of ?_)
   | with_reducible refine b9.next _ (VW.of ?_)
   | rw [au (by exact rfl) (by exact rfl) (by exact rfl) (by exact rfl) (by exact rfl)]
   | rw [bW (by exact rfl) (by exact rfl) (by exact rfl) (by exact rfl)]
   | rw [bX (by exact rfl) (by exact rfl) (by exact rfl) (by exact rfl) (by exact rfl) (by exact rfl)]
   | fail)
 exact ax▸ae rfl (aa.bool _)
theorem JZ {f fn:FuncId} (h:Has P f (om fn)):VP P G f [.nils] (.bool true):=by
 refine VP.has h ?_
 simp only [om]
 repeat (first
   | simp (disch:=first | decide | exact rfl) only [SS,DD,Nat.reduceAdd,reduceIte,af,ai,az,ZZ,CC,aW,g0,g1,g2,decide_true,decide_false,ZZ]
   | with_reducible refine ao (by assumption) (by simp [ag,aq,aj,aa.int,aa.bool,aa.str,aA,ar,aL]) ?_
   | with_reducible refine ay (by assumption) (by simp [ag,aq,aj,aa.int,aa.bool,aa.str,aA,ar,aL]) ?_
   | with_reducible refine And.intro (a:=ab _ _) (by simp [ab,apart]) ?_
   | with_reducible refine VW.aI 3 (VW.of ?_)
   | with_reducible refine b9.next _ (VW.of ?_)
   | rw [au (by exact rfl) (by exact rfl) (by exact rfl) (by exact rfl) (by exact rfl)]
   | rw [bW (by exact rfl) (by exact rfl) (by exact rfl) (by exact rfl)]
   | rw [bX (by exact rfl) (by exact rfl) (by exact rfl) (by exact rfl) (by exact rfl) (by exact rfl)]
   | fail)
 exact ax▸ae rfl (aa.bool _)
theorem NZ {f fr fn:FuncId} (h:Has P f (rk fr fn)) (q:Rat) (hr:VP P G fr [.nils] (.bool true)) (hn:VP P G fn [EV q, .int .i64 1] (.bool true)):VP P G f [.nils,EV q] (.bool true):=by
 refine VP.has h ?_
 simp only [rk]
 repeat (first
   | simp (disch:=first | decide | exact rfl) only [SS,DD,Nat.reduceAdd,reduceIte,af,ai,az,ZZ,CC,aW,g0,g1,g2,decide_true,decide_false,I4,ZZ,dF]
   | with_reducible refine ao (by assumption) (by simp [ag,aq,aj,aa.int,aa.bool,aa.str,aA,ar,aL]) ?_
   | with_reducible refine ay (by assumption) (by simp [ag,aq,aj,aa.int,aa.bool,aa.str,aA,ar,aL]) ?_
   | with_reducible refine And.intro (a:=ab _ _) (by simp [ab,apart]) ?_
   | with_reducible refine VW.aI 3 (VW.of ?_)
   | with_reducible refine b9.next _ (VW.of ?_)
   | rw [au (by exact rfl) (by exact rfl) (by exact rfl) (by exact rfl) (by exact rfl)]
   | rw [bW (by exact rfl) (by exact rfl) (by exact rfl) (by exact rfl)]
   | rw [bX (by exact rfl) (by exact rfl) (by exact rfl) (by exact rfl) (by exact rfl) (by exact rfl)]
   | fail)
 exact ax▸ae rfl (aa.bool _)
theorem N0 {f fF fn:FuncId} (h:Has P f (rn fF fn)) (a b:Rat) (hF:VP P G fF [.nils,EV a] (.bool true)) (hn:VP P G fn [EV b, .int .i64 1] (.bool true)):VP P G f [.nils,EV a,EV b] (.bool true):=by
 refine VP.has h ?_
 simp only [rn]
 repeat (first
   | simp (disch:=first | decide | exact rfl) only [SS,DD,Nat.reduceAdd,reduceIte,af,ai,az,ZZ,CC,aW,g0,g1,g2,decide_true,decide_false,I4,ZZ,dF]
   | with_reducible refine ao (by assumption) (by simp [ag,aq,aj,aa.int,aa.bool,aa.str,aA,ar,aL]) ?_
   | with_reducible refine ay (by assumption) (by simp [ag,aq,aj,aa.int,aa.bool,aa.str,aA,ar,aL]) ?_
   | with_reducible refine And.intro (a:=ab _ _) (by simp [ab,apart]) ?_
   | with_reducible refine VW.aI 3 (VW.of ?_)
   | with_reducible refine b9.next _ (VW.of ?_)
   | rw [au (by exact rfl) (by exact rfl) (by exact rfl) (by exact rfl) (by exact rfl)]
   | rw [bW (by exact rfl) (by exact rfl) (by exact rfl) (by exact rfl)]
   | rw [bX (by exact rfl) (by exact rfl) (by exact rfl) (by exact rfl) (by exact rfl) (by exact rfl)]
   | fail)
 exact ax▸ae rfl (aa.bool _)
theorem P3 {f fa:FuncId} (h:Has P f (yA fa)) (a b:Rat) (hA:VP P G fa [QV a,QV b] (QV (a+b))):VP P G f [EV a,EV b] (EV (a+b)):=by
 refine VP.has h ?_
 simp only [yA]
 repeat (first
   | simp (disch:=first | decide | exact rfl) only [SS,DD,Nat.reduceAdd,reduceIte,af,ai,az,ZZ,CC,aW,g0,g1,g2,decide_true,decide_false,uo,vz,aN,bT,ZZ,JW,L9]
   | with_reducible refine ao (by assumption) (by simp [ag,aq,aj,aa.int,aa.bool,aa.str,aA,ar,aL]) ?_
   | with_reducible refine ay (by assumption) (by simp [ag,aq,aj,aa.int,aa.bool,aa.str,aA,ar,aL]) ?_
   | with_reducible refine And.intro (a:=ab _ _) (by simp [ab,apart]) ?_
   | with_reducible refine VW.aI 3 (VW.of ?_)
   | with_reducible refine b9.next _ (VW.of ?_)
   | rw [au (by exact rfl) (by exact rfl) (by exact rfl) (by exact rfl) (by exact rfl)]
   | rw [bW (by exact rfl) (by exact rfl) (by exact rfl) (by exact rfl)]
   | rw [bX (by exact rfl) (by exact rfl) (by exact rfl) (by exact rfl) (by exact rfl) (by exact rfl)]
   | fail)
 refine ax▸⟨_,rfl,qw (by exact rfl)⟩
theorem XE {f fa:FuncId} (h:Has P f (yB fa)) (a:Rat) (hA:VP P G fa [QV a] (QV (-a))):VP P G f [EV a] (EV (-a)):=by
 refine VP.has h ?_
 simp only [yB]
 repeat (first
   | simp (disch:=first | decide | exact rfl) only [SS,DD,Nat.reduceAdd,reduceIte,af,ai,az,ZZ,CC,aW,g0,g1,g2,decide_true,decide_false,uo,vz,aN,dc,bT,bR,ZZ,JW,L9]
   | with_reducible refine ao (by assumption) (by simp [ag,aq,aj,aa.int,aa.bool,aa.str,aA,ar,aL]) ?_
   | with_reducible refine ay (by assumption) (by simp [ag,aq,aj,aa.int,aa.bool,aa.str,aA,ar,aL]) ?_
   | with_reducible refine And.intro (a:=ab _ _) (by simp [ab,apart]) ?_
   | with_reducible refine VW.aI 3 (VW.of ?_)
   | with_reducible refine b9.next _ (VW.of ?_)
   | rw [au (by exact rfl) (by exact rfl) (by exact rfl) (by exact rfl) (by exact rfl)]
   | rw [bW (by exact rfl) (by exact rfl) (by exact rfl) (by exact rfl)]
   | rw [bX (by exact rfl) (by exact rfl) (by exact rfl) (by exact rfl) (by exact rfl) (by exact rfl)]
   | fail)
 refine ax▸⟨_,rfl,qw (by exact rfl)⟩
end
end Go.VL
end

section
set_option linter.unusedSimpArgs false
set_option linter.unusedVariables false
namespace Go.VL
def NV (q:Rat):AV := .agg [.nils,EV q]
theorem aw (q:Rat):aa (NV q):=aa.agg (by intro c hc;simp at hc;rcases hc with rfl | rfl;exact aa.nils;exact ar q)
theorem eM (q:Rat):((NV q).cells.all AV.one=true)=True:=by simp [NV,AV.cells,AV.one,EV]
theorem sZ (q:Rat):part false (NV q).cells 0 1=some .nils:=rfl
theorem vA (q:Rat):part false (NV q).cells 1 1=some (EV q):=rfl
theorem cA (q:Rat):part true (NV q).cells 0 2=some (NV q):=rfl
theorem G1 (q:Rat):∀ c∈(NV q).cells,aa c:=by
 intro c hc
 simp only [NV,AV.cells,List.mem_cons,List.not_mem_nil,or_false] at hc
 rcases hc with rfl | rfl
 . exact aa.nils
 . exact ar q
theorem b6:((AV.cells (.agg [.nils, .nils])).all AV.one=true)=True:=by simp [AV.cells,AV.one]
theorem XF (q:Rat):iN [.nils, .nils] [(1,(1,EV q))]=some [.nils,EV q]:=rfl
theorem P4 {id:Id} {t:Bool}:iN [.nils, .nils] [(1,(1, .osl id 4 0 1 t))]=some [.nils, .osl id 4 0 1 t]:=rfl
theorem P5:iN [.nils, .nils] [(0,(1, .nils))]=some [.nils, .nils]:=rfl
theorem CF (q:Rat):iN [.nils, .nils] [(0,(1, .nils)),(1,(1,EV q))]=some [.nils,EV q]:=rfl
theorem I6 (q:Rat):AV.agg [.nils,EV q]=NV q:=rfl
theorem UB {σ : ah} {id:Id} {q:Rat} {b t:Bool} (h : σ id=some ⟨[QV q],4,b⟩):View σ (.agg [.nils, .osl id 4 0 1 t]) (NV q) :=
 View.agg (.cons (View.pure aa.nils) (.cons (qw h) .nil))
theorem G2 {σ : ah} {id:Id} {k:Nat} {q:Rat} {x:AV} (h : σ id=some ⟨[.agg [.nils,x]],k,false⟩):fJ σ 1 (.ref id 0 1) (EV q)=some { val := .tup [],rd:=[id],up:=[(id,some ⟨[NV q],k,false⟩)] } :=
 CD h rfl rfl (by simp [AV.size,AV.cells]) rfl
theorem G3 {σ : ah} {id:Id} {k:Nat} {q r:Rat} (h : σ id=some ⟨[NV q],k,false⟩):fJ σ 1 (.ref id 0 1) (EV r)=some { val := .tup [],rd:=[id],up:=[(id,some ⟨[NV r],k,false⟩)] }:=G2 h
theorem UC {σ : ah} {id:Id} {k:Nat} {q:Rat} (h : σ id=some ⟨[QV q],k,false⟩):fJ σ 1 (.ref id 0 1) (W q.num.natAbs)=some { val := .tup [],rd:=[id],up:=[(id,some ⟨[QV q],k,false⟩)] } :=
 CD h rfl rfl (by simp [JX]) rfl
theorem UD {σ : ah} {id:Id} {k:Nat} {q:Rat} (h : σ id=some ⟨[QV q],k,false⟩):fJ σ 1 (.ref id 0 3) (W q.den)=some { val := .tup [],rd:=[id],up:=[(id,some ⟨[QV q],k,false⟩)] } :=
 CD h rfl rfl (by simp [JX]) rfl
theorem CG (q:Rat):part false (QV q).cells 1 1=some (W q.num.natAbs):=rfl
theorem aea (q:Rat):part false (QV q).cells 3 1=some (W q.den):=rfl
section
variable {P:Program} {G:Nat->Option (List AV)}
theorem XG {f ff fa:FuncId} (h:Has P f (yC ff fa)) (a b:Rat) (hf:VP P G ff [.nils,EV a,EV b] (.bool true)) (hA:VP P G fa [EV a,EV b] (EV (a+b))):VP P G f [.nils,EV a,EV b] (EV (a+b)):=by
 refine VP.has h ?_
 simp only [yC]
 repeat (first
   | simp (disch:=first | decide | exact rfl) only [SS,DD,Nat.reduceAdd,reduceIte,af,ai,az,ZZ,CC,aW,g0,g1,g2,decide_true,decide_false]
   | with_reducible refine ao (by assumption) (by simp [ag,aq,aj,aa.int,aa.bool,aa.str,aA,ar,aw,aL]) ?_
   | with_reducible refine ay (by assumption) (by simp [ag,aq,aj,aa.int,aa.bool,aa.str,aA,ar,aw,aL]) ?_
   | with_reducible refine And.intro (a:=ab _ _) (by simp [ab,apart]) ?_
   | with_reducible refine VW.aI 3 (VW.of ?_)
   | with_reducible refine b9.next _ (VW.of ?_)
   | rw [au (by exact rfl) (by exact rfl) (by exact rfl) (by exact rfl) (by exact rfl)]
   | rw [bW (by exact rfl) (by exact rfl) (by exact rfl) (by exact rfl)]
   | rw [bX (by exact rfl) (by exact rfl) (by exact rfl) (by exact rfl) (by exact rfl) (by exact rfl)]
   | fail)
 exact ax▸ae rfl (ar _)
theorem XH {f ff fn fa:FuncId} (h:Has P f (yD ff fn fa)) (a b:Rat) (hf:VP P G ff [.nils,EV a,EV b] (.bool true)) (hn:VP P G fn [EV b] (EV (-b))) (hA:VP P G fa [EV a,EV (-b)] (EV (a + -b))):VP P G f [.nils,EV a,EV b] (EV (a-b)):=by
 rw [<- Rat.sub_eq_add_neg] at hA
 refine VP.has h ?_
 simp only [yD]
 repeat (first
   | simp (disch:=first | decide | exact rfl) only [SS,DD,Nat.reduceAdd,reduceIte,af,ai,az,ZZ,CC,aW,g0,g1,g2,decide_true,decide_false]
   | with_reducible refine ao (by assumption) (by simp [ag,aq,aj,aa.int,aa.bool,aa.str,aA,ar,aw,aL]) ?_
   | with_reducible refine ay (by assumption) (by simp [ag,aq,aj,aa.int,aa.bool,aa.str,aA,ar,aw,aL]) ?_
   | with_reducible refine And.intro (a:=ab _ _) (by simp [ab,apart]) ?_
   | with_reducible refine VW.aI 3 (VW.of ?_)
   | with_reducible refine b9.next _ (VW.of ?_)
   | rw [au (by exact rfl) (by exact rfl) (by exact rfl) (by exact rfl) (by exact rfl)]
   | rw [bW (by exact rfl) (by exact rfl) (by exact rfl) (by exact rfl)]
   | rw [bX (by exact rfl) (by exact rfl) (by exact rfl) (by exact rfl) (by exact rfl) (by exact rfl)]
   | fail)
 exact ax▸ae rfl (ar _)
theorem XI {f ff fn:FuncId} (h:Has P f (yE ff fn)) (a:Rat) (hf:VP P G ff [.nils,EV a] (.bool true)) (hn:VP P G fn [EV a] (EV (-a))):VP P G f [.nils,EV a] (EV (-a)):=by
 refine VP.has h ?_
 simp only [yE]
 repeat (first
   | simp (disch:=first | decide | exact rfl) only [SS,DD,Nat.reduceAdd,reduceIte,af,ai,az,ZZ,CC,aW,g0,g1,g2,decide_true,decide_false]
   | with_reducible refine ao (by assumption) (by simp [ag,aq,aj,aa.int,aa.bool,aa.str,aA,ar,aw,aL]) ?_
   | with_reducible refine ay (by assumption) (by simp [ag,aq,aj,aa.int,aa.bool,aa.str,aA,ar,aw,aL]) ?_
   | with_reducible refine And.intro (a:=ab _ _) (by simp [ab,apart]) ?_
   | with_reducible refine VW.aI 3 (VW.of ?_)
   | with_reducible refine b9.next _ (VW.of ?_)
   | rw [au (by exact rfl) (by exact rfl) (by exact rfl) (by exact rfl) (by exact rfl)]
   | rw [bW (by exact rfl) (by exact rfl) (by exact rfl) (by exact rfl)]
   | rw [bX (by exact rfl) (by exact rfl) (by exact rfl) (by exact rfl) (by exact rfl) (by exact rfl)]
   | fail)
 exact ax▸ae rfl (ar _)
theorem XJ {f f1 f2 f3 f4 f5 f6 f7:FuncId} (h:Has P f (yF f1 f2 f3 f4 f5 f6 f7)) (a b:Rat) (hm:VP P G f1 [QV a,QV b] (QV (a*b))):VP P G f [.nils,EV a,EV b] (EV (a*b)):=by
 refine VP.has h ?_
 simp only [yF]
 repeat (first
   | simp (disch:=first | decide | exact rfl) only [SS,DD,Nat.reduceAdd,reduceIte,af,ai,az,ZZ,CC,aW,g0,g1,g2,decide_true,decide_false,dF,vz,aN,bT]
   | with_reducible refine ao (by assumption) (by simp [ag,aq,aj,aa.int,aa.bool,aa.str,aA,ar,aw,aL]) ?_
   | with_reducible refine ay (by assumption) (by simp [ag,aq,aj,aa.int,aa.bool,aa.str,aA,ar,aw,aL]) ?_
   | with_reducible refine And.intro (a:=ab _ _) (by simp [ab,apart]) ?_
   | with_reducible refine VW.aI 3 (VW.of ?_)
   | with_reducible refine b9.next _ (VW.of ?_)
   | rw [au (by exact rfl) (by exact rfl) (by exact rfl) (by exact rfl) (by exact rfl)]
   | rw [bW (by exact rfl) (by exact rfl) (by exact rfl) (by exact rfl)]
   | rw [bX (by exact rfl) (by exact rfl) (by exact rfl) (by exact rfl) (by exact rfl) (by exact rfl)]
   | fail)
 refine ax▸⟨_,rfl,qw (by exact rfl)⟩
theorem XK {f ff fm:FuncId} (h:Has P f (yG ff fm)) (a b:Rat) (hf:VP P G ff [.nils,EV a,EV b] (.bool true)) (hA:VP P G fm [.nils,EV a,EV b] (EV (a*b))):VP P G f [.nils,EV a,EV b] (EV (a*b)):=by
 refine VP.has h ?_
 simp only [yG]
 repeat (first
   | simp (disch:=first | decide | exact rfl) only [SS,DD,Nat.reduceAdd,reduceIte,af,ai,az,ZZ,CC,aW,g0,g1,g2,decide_true,decide_false]
   | with_reducible refine ao (by assumption) (by simp [ag,aq,aj,aa.int,aa.bool,aa.str,aA,ar,aw,aL]) ?_
   | with_reducible refine ay (by assumption) (by simp [ag,aq,aj,aa.int,aa.bool,aa.str,aA,ar,aw,aL]) ?_
   | with_reducible refine And.intro (a:=ab _ _) (by simp [ab,apart]) ?_
   | with_reducible refine VW.aI 3 (VW.of ?_)
   | with_reducible refine b9.next _ (VW.of ?_)
   | rw [au (by exact rfl) (by exact rfl) (by exact rfl) (by exact rfl) (by exact rfl)]
   | rw [bW (by exact rfl) (by exact rfl) (by exact rfl) (by exact rfl)]
   | rw [bX (by exact rfl) (by exact rfl) (by exact rfl) (by exact rfl) (by exact rfl) (by exact rfl)]
   | fail)
 exact ax▸ae rfl (ar _)
theorem Mc {f f1 f2 f3 f4 f6 f7 f8:FuncId} (h:Has P f (qg f1 f2 f3 f4 f f6 f7 f8)) (a:Rat) (hi:VP P G f1 [.int .i64 1] (QV 1)) (hd:VP P G f2 [QV 1,QV a] (.tup [QV (1/a), .int .i64 0])) :
   VP P G f [.nils,EV a] (.tup [EV (1/a), .bool true]):=by
 refine VP.has h ?_
 simp only [qg]
 repeat (first
   | simp (disch:=first | decide | exact rfl) only [SS,DD,Nat.reduceAdd,reduceIte,af,ai,az,ZZ,CC,aW,g0,g1,g2,decide_true,decide_false,dF,vz,aN,bT,bR]
   | with_reducible refine ao (by assumption) (by simp [ag,aq,aj,aa.int,aa.bool,aa.str,aA,ar,aw,aL]) ?_
   | with_reducible refine ay (by assumption) (by simp [ag,aq,aj,aa.int,aa.bool,aa.str,aA,ar,aw,aL]) ?_
   | with_reducible refine And.intro (a:=ab _ _) (by simp [ab,apart]) ?_
   | with_reducible refine VW.aI 3 (VW.of ?_)
   | with_reducible refine b9.next _ (VW.of ?_)
   | rw [au (by exact rfl) (by exact rfl) (by exact rfl) (by exact rfl) (by exact rfl)]
   | rw [bW (by exact rfl) (by exact rfl) (by exact rfl) (by exact rfl)]
   | rw [bX (by exact rfl) (by exact rfl) (by exact rfl) (by exact rfl) (by exact rfl) (by exact rfl)]
   | fail)
 refine ax▸⟨_,rfl,View.tup (.cons (qw (by exact rfl)) (.cons (View.pure (aa.bool _)) .nil))⟩
theorem XL {f ff fi:FuncId} (h:Has P f (yH ff fi)) (a:Rat) (hf:VP P G ff [.nils,EV a] (.bool true)) (hi:VP P G fi [.nils,EV a] (.tup [EV (1/a), .bool true])) :
   VP P G f [.nils,EV a] (.tup [EV (1/a), .int .i64 0]):=by
 refine VP.has h ?_
 simp only [yH]
 repeat (first
   | simp (disch:=first | decide | exact rfl) only [SS,DD,Nat.reduceAdd,reduceIte,af,ai,az,ZZ,CC,aW,g0,g1,g2,decide_true,decide_false]
   | with_reducible refine ao (by assumption) (by simp [ag,aq,aj,aa.int,aa.bool,aa.str,aA,ar,aw,aL]) ?_
   | with_reducible refine ay (by assumption) (by simp [ag,aq,aj,aa.int,aa.bool,aa.str,aA,ar,aw,aL]) ?_
   | with_reducible refine And.intro (a:=ab _ _) (by simp [ab,apart]) ?_
   | with_reducible refine VW.aI 3 (VW.of ?_)
   | with_reducible refine b9.next _ (VW.of ?_)
   | rw [au (by exact rfl) (by exact rfl) (by exact rfl) (by exact rfl) (by exact rfl)]
   | rw [bW (by exact rfl) (by exact rfl) (by exact rfl) (by exact rfl)]
   | rw [bX (by exact rfl) (by exact rfl) (by exact rfl) (by exact rfl) (by exact rfl) (by exact rfl)]
   | fail)
 exact ax▸ae rfl (aa.tup (by simp [ar,aa.int]))
theorem N3 {f fc:FuncId} (h:Has P f (pk fc)) (q:Rat) (h1:VP P G fc [W q.num.natAbs] (W q.num.natAbs)) (h2:VP P G fc [W q.den] (W q.den)):VP P G f [QV q] (QV q):=by
 refine VP.has h ?_
 simp only [pk]
 repeat (first
   | simp (disch:=first | decide | exact rfl) only [SS,DD,Nat.reduceAdd,reduceIte,af,ai,az,ZZ,CC,aW,g0,g1,g2,decide_true,decide_false,dc,bT,CG,aea,bR]
   | with_reducible refine ao (by assumption) (by simp [ag,aq,aj,aa.int,aa.bool,aa.str,aA,ar,aw,aL]) ?_
   | with_reducible refine ay (by assumption) (by simp [ag,aq,aj,aa.int,aa.bool,aa.str,aA,ar,aw,aL]) ?_
   | with_reducible refine And.intro (a:=ab _ _) (by simp [ab,apart]) ?_
   | with_reducible refine VW.aI 3 (VW.of ?_)
   | with_reducible refine b9.next _ (VW.of ?_)
   | rw [au (by exact rfl) (by exact rfl) (by exact rfl) (by exact rfl) (by exact rfl)]
   | rw [bW (by exact rfl) (by exact rfl) (by exact rfl) (by exact rfl)]
   | rw [bX (by exact rfl) (by exact rfl) (by exact rfl) (by exact rfl) (by exact rfl) (by exact rfl)]
   | rw [UC (by exact rfl)]
   | rw [UD (by exact rfl)]
   | fail)
 refine ax▸ae (r:=QV q) ?_ (aj _)
 simp only [RS,a8,bg,ai,bT]
theorem N4 {f fc:FuncId} (h:Has P f (pn fc)) (q:Rat) (hc:VP P G fc [QV q] (QV q)):VP P G f [QV q] (NV q):=by
 refine VP.has h ?_
 simp only [pn]
 repeat (first
   | simp (disch:=first | decide | exact rfl) only [SS,DD,Nat.reduceAdd,reduceIte,af,ai,az,ZZ,CC,aW,g0,g1,g2,decide_true,decide_false,dc,bT,b6,P4]
   | with_reducible refine ao (by assumption) (by simp [ag,aq,aj,aa.int,aa.bool,aa.str,aA,ar,aw,aL]) ?_
   | with_reducible refine ay (by assumption) (by simp [ag,aq,aj,aa.int,aa.bool,aa.str,aA,ar,aw,aL]) ?_
   | with_reducible refine And.intro (a:=ab _ _) (by simp [ab,apart]) ?_
   | with_reducible refine VW.aI 3 (VW.of ?_)
   | with_reducible refine b9.next _ (VW.of ?_)
   | rw [au (by exact rfl) (by exact rfl) (by exact rfl) (by exact rfl) (by exact rfl)]
   | rw [bW (by exact rfl) (by exact rfl) (by exact rfl) (by exact rfl)]
   | rw [bX (by exact rfl) (by exact rfl) (by exact rfl) (by exact rfl) (by exact rfl) (by exact rfl)]
   | fail)
 refine ax▸⟨.agg [.nils, .osl [4] 4 0 1 false], ?_,UB (by exact rfl)⟩
 simp only [RS,a8,bg,ai]
 rfl
theorem Md {f ff fi:FuncId} (h:Has P f (pt fi ff)) (a:Int) (hi:VP P G fi [.int .i64 a] (QV a)) (hf:VP P G ff [QV a] (NV a)):VP P G f [.int .i64 a] (NV a):=by
 refine VP.has h ?_
 simp only [pt]
 repeat (first
   | simp (disch:=first | decide | exact rfl) only [SS,DD,Nat.reduceAdd,reduceIte,af,ai,az,ZZ,CC,aW,g0,g1,g2,decide_true,decide_false,b6]
   | with_reducible refine ao (by assumption) (by simp [ag,aq,aj,aa.int,aa.bool,aa.str,aA,ar,aw,aL]) ?_
   | with_reducible refine ay (by assumption) (by simp [ag,aq,aj,aa.int,aa.bool,aa.str,aA,ar,aw,aL]) ?_
   | with_reducible refine And.intro (a:=ab _ _) (by simp [ab,apart]) ?_
   | with_reducible refine VW.aI 3 (VW.of ?_)
   | with_reducible refine b9.next _ (VW.of ?_)
   | rw [au (by exact rfl) (by exact rfl) (by exact rfl) (by exact rfl) (by exact rfl)]
   | rw [bW (by exact rfl) (by exact rfl) (by exact rfl) (by exact rfl)]
   | rw [bX (by exact rfl) (by exact rfl) (by exact rfl) (by exact rfl) (by exact rfl) (by exact rfl)]
   | fail)
 refine ax▸ae (r:=NV a) ?_ (aw _)
 simp only [RS,a8,bg,ai,cA]
theorem Ep {f fc:FuncId} (h:Has P f (ou fc)) (q:Rat) (hc:VP P G fc [QV q] (QV q)):VP P G f [EV q] (EV q):=by
 refine VP.has h ?_
 simp only [ou]
 repeat (first
   | simp (disch:=first | decide | exact rfl) only [SS,DD,Nat.reduceAdd,reduceIte,af,ai,az,ZZ,CC,aW,g0,g1,g2,decide_true,decide_false,uo,vz,aN,dc,bT,bR,JW,L9]
   | with_reducible refine ao (by assumption) (by simp [ag,aq,aj,aa.int,aa.bool,aa.str,aA,ar,aw,aL]) ?_
   | with_reducible refine ay (by assumption) (by simp [ag,aq,aj,aa.int,aa.bool,aa.str,aA,ar,aw,aL]) ?_
   | with_reducible refine And.intro (a:=ab _ _) (by simp [ab,apart]) ?_
   | with_reducible refine VW.aI 3 (VW.of ?_)
   | with_reducible refine b9.next _ (VW.of ?_)
   | rw [au (by exact rfl) (by exact rfl) (by exact rfl) (by exact rfl) (by exact rfl)]
   | rw [bW (by exact rfl) (by exact rfl) (by exact rfl) (by exact rfl)]
   | rw [bX (by exact rfl) (by exact rfl) (by exact rfl) (by exact rfl) (by exact rfl) (by exact rfl)]
   | fail)
 refine ax▸⟨_,rfl,qw (by exact rfl)⟩
theorem RB {f fc:FuncId} (h:Has P f (nd fc)) (q:Rat) (hc:VP P G fc [EV q] (EV q)):VP P G f [NV q] (NV q):=by
 refine VP.has h ?_
 simp only [nd]
 repeat (first
   | simp (disch:=first | decide | exact rfl) only [SS,DD,Nat.reduceAdd,reduceIte,af,ai,az,ZZ,CC,aW,g0,g1,g2,decide_true,decide_false,eM,sZ,vA,cA,I6,b6,XF,dF]
   | with_reducible refine ao (by assumption) (by simp [ag,aq,aj,aa.int,aa.bool,aa.str,aA,ar,aw,aL]) ?_
   | with_reducible refine ay (by assumption) (by simp [ag,aq,aj,aa.int,aa.bool,aa.str,aA,ar,aw,aL]) ?_
   | with_reducible refine And.intro (a:=ab _ _) (by simp [ab,apart]) ?_
   | with_reducible refine VW.aI 3 (VW.of ?_)
   | with_reducible refine b9.next _ (VW.of ?_)
   | rw [au (by exact rfl) (by exact rfl) (by exact rfl) (by exact rfl) (by exact rfl)]
   | rw [bW (by exact rfl) (by exact rfl) (by exact rfl) (by exact rfl)]
   | rw [bX (by exact rfl) (by exact rfl) (by exact rfl) (by exact rfl) (by exact rfl) (by exact rfl)]
   | fail)
 refine ax▸ae (r:=NV q) ?_ (aw _)
 simp only [RS,a8,bg,ai,cA]
theorem UE {f fc:FuncId} (h:Has P f (j4 fc)) (a b:Rat) (hc:VP P G fc [QV a,QV b] (.int .i64 (NS a b))):VP P G f [QV a,QV b] (.bool (decide (a=b))):=by
 have e:decide (NS a b=0)=decide (a=b):=by congr 1;exact propext Ru
 refine VP.has h ?_
 simp only [j4]
 repeat (first
   | simp (disch:=first | decide | exact rfl) only [SS,DD,Nat.reduceAdd,reduceIte,af,ai,az,ZZ,CC,aW,g0,g1,g2,decide_true,decide_false,dc,bT,e]
   | with_reducible refine ao (by assumption) (by simp [ag,aq,aj,aa.int,aa.bool,aa.str,aA,ar,aw,aL]) ?_
   | with_reducible refine ay (by assumption) (by simp [ag,aq,aj,aa.int,aa.bool,aa.str,aA,ar,aw,aL]) ?_
   | with_reducible refine And.intro (a:=ab _ _) (by simp [ab,apart]) ?_
   | with_reducible refine VW.aI 3 (VW.of ?_)
   | with_reducible refine b9.next _ (VW.of ?_)
   | rw [au (by exact rfl) (by exact rfl) (by exact rfl) (by exact rfl) (by exact rfl)]
   | rw [bW (by exact rfl) (by exact rfl) (by exact rfl) (by exact rfl)]
   | rw [bX (by exact rfl) (by exact rfl) (by exact rfl) (by exact rfl) (by exact rfl) (by exact rfl)]
   | fail)
 exact ax▸ae rfl (aa.bool _)
theorem XM {f fe f1:FuncId} (h:Has P f (lU fe f1)) (a b:Rat) {x:Bool} (he:VP P G fe [EV a,EV b, .fn (.func f1) [] []] (.bool x)):VP P G f [EV a,EV b] (.bool x):=by
 refine VP.has h ?_
 simp only [lU]
 repeat (first
   | simp (disch:=first | decide | exact rfl) only [SS,DD,Nat.reduceAdd,reduceIte,af,ai,az,ZZ,CC,aW,g0,g1,g2,decide_true,decide_false]
   | with_reducible refine ao (by assumption) (by simp [ag,aq,aj,aa.int,aa.bool,aa.str,aA,ar,aw,aL]) ?_
   | with_reducible refine ay (by assumption) (by simp [ag,aq,aj,aa.int,aa.bool,aa.str,aA,ar,aw,aL]) ?_
   | with_reducible refine And.intro (a:=ab _ _) (by simp [ab,apart]) ?_
   | with_reducible refine VW.aI 3 (VW.of ?_)
   | with_reducible refine b9.next _ (VW.of ?_)
   | rw [au (by exact rfl) (by exact rfl) (by exact rfl) (by exact rfl) (by exact rfl)]
   | rw [bW (by exact rfl) (by exact rfl) (by exact rfl) (by exact rfl)]
   | rw [bX (by exact rfl) (by exact rfl) (by exact rfl) (by exact rfl) (by exact rfl) (by exact rfl)]
   | fail)
 exact ax▸ae rfl (aa.bool _)
theorem XN {f f1:FuncId} (h:Has P f cj) (a b:Rat) (h1:VP P G f1 [QV a,QV b] (.bool (decide (a=b)))):VP P G f [EV a,EV b, .fn (.func f1) [] []] (.bool (decide (a=b))):=by
 refine VP.has h ?_
 simp only [cj]
 by_cases M6:a=b
 . have d:decide (a=b)=true:=aG M6
   rw [d] at h1 ⊢
   repeat (first
     | simp (disch:=first | decide | exact rfl) only [SS,DD,Nat.reduceAdd,reduceIte,af,ai,az,ZZ,CC,aW,g0,g1,g2,decide_true,decide_false,uo,vz,aN,dc,bT,bR]
     | with_reducible refine ao (by assumption) (by simp [ag,aq,aj,aa.int,aa.bool,aa.str,aA,ar,aw,aL]) ?_
     | with_reducible refine ay (by assumption) (by simp [ag,aq,aj,aa.int,aa.bool,aa.str,aA,ar,aw,aL]) ?_
     | with_reducible refine And.intro (a:=ab _ _) (by simp [ab,apart]) ?_
     | with_reducible refine VW.aI 3 (VW.of ?_)
     | with_reducible refine b9.next _ (VW.of ?_)
     | rw [au (by exact rfl) (by exact rfl) (by exact rfl) (by exact rfl) (by exact rfl)]
     | rw [bW (by exact rfl) (by exact rfl) (by exact rfl) (by exact rfl)]
     | rw [bX (by exact rfl) (by exact rfl) (by exact rfl) (by exact rfl) (by exact rfl) (by exact rfl)]
     | fail)
   exact ax▸ae rfl (aa.bool _)
 . have d:decide (a=b)=false:=aD M6
   rw [d] at h1 ⊢
   repeat (first
     | simp (disch:=first | decide | exact rfl) only [SS,DD,Nat.reduceAdd,reduceIte,af,ai,az,ZZ,CC,aW,g0,g1,g2,decide_true,decide_false,uo,vz,aN,dc,bT,bR]
     | with_reducible refine ao (by assumption) (by simp [ag,aq,aj,aa.int,aa.bool,aa.str,aA,ar,aw,aL]) ?_
     | with_reducible refine ay (by assumption) (by simp [ag,aq,aj,aa.int,aa.bool,aa.str,aA,ar,aw,aL]) ?_
     | with_reducible refine And.intro (a:=ab _ _) (by simp [ab,apart]) ?_
     | with_reducible refine VW.aI 3 (VW.of ?_)
     | with_reducible refine b9.next _ (VW.of ?_)
     | rw [au (by exact rfl) (by exact rfl) (by exact rfl) (by exact rfl) (by exact rfl)]
     | rw [bW (by exact rfl) (by exact rfl) (by exact rfl) (by exact rfl)]
     | rw [bX (by exact rfl) (by exact rfl) (by exact rfl) (by exact rfl) (by exact rfl) (by exact rfl)]
     | fail)
   exact ax▸ae rfl (aa.bool _)
theorem XO {f f1:FuncId} (h:Has P f b7):VP P G f [.nils, .nils, .fn (.func f1) [] []] (.bool true):=by
 refine VP.has h ?_
 simp only [b7]
 repeat (first
   | simp (disch:=first | decide | exact rfl) only [SS,DD,Nat.reduceAdd,reduceIte,af,ai,az,ZZ,CC,aW,g0,g1,g2,decide_true,decide_false,dF]
   | with_reducible refine ao (by assumption) (by simp [ag,aq,aj,aa.int,aa.bool,aa.str,aA,ar,aw,aL]) ?_
   | with_reducible refine ay (by assumption) (by simp [ag,aq,aj,aa.int,aa.bool,aa.str,aA,ar,aw,aL]) ?_
   | with_reducible refine And.intro (a:=ab _ _) (by simp [ab,apart]) ?_
   | with_reducible refine VW.aI 3 (VW.of ?_)
   | with_reducible refine b9.next _ (VW.of ?_)
   | rw [au (by exact rfl) (by exact rfl) (by exact rfl) (by exact rfl) (by exact rfl)]
   | rw [bW (by exact rfl) (by exact rfl) (by exact rfl) (by exact rfl)]
   | rw [bX (by exact rfl) (by exact rfl) (by exact rfl) (by exact rfl) (by exact rfl) (by exact rfl)]
   | fail)
 exact ax▸ae rfl (aa.bool _)
theorem RD {f fe f1:FuncId} (h:Has P f (qi fe f1)) (he:VP P G fe [.nils, .nils, .fn (.func f1) [] []] (.bool true)):VP P G f [.nils, .nils] (.bool true):=by
 refine VP.has h ?_
 simp only [qi]
 repeat (first
   | simp (disch:=first | decide | exact rfl) only [SS,DD,Nat.reduceAdd,reduceIte,af,ai,az,ZZ,CC,aW,g0,g1,g2,decide_true,decide_false,dF,En]
   | with_reducible refine ao (by assumption) (by simp [ag,aq,aj,aa.int,aa.bool,aa.str,aA,ar,aw,aL]) ?_
   | with_reducible refine ay (by assumption) (by simp [ag,aq,aj,aa.int,aa.bool,aa.str,aA,ar,aw,aL]) ?_
   | with_reducible refine And.intro (a:=ab _ _) (by simp [ab,apart]) ?_
   | with_reducible refine VW.aI 3 (VW.of ?_)
   | with_reducible refine b9.next _ (VW.of ?_)
   | rw [au (by exact rfl) (by exact rfl) (by exact rfl) (by exact rfl) (by exact rfl)]
   | rw [bW (by exact rfl) (by exact rfl) (by exact rfl) (by exact rfl)]
   | rw [bX (by exact rfl) (by exact rfl) (by exact rfl) (by exact rfl) (by exact rfl) (by exact rfl)]
   | fail)
 exact ax▸ae rfl (aa.bool _)
end
end Go.VL
end
