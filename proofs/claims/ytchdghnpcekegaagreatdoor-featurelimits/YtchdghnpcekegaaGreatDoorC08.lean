/- For the claim of FeatureLimits: parts CR8, CR9, CR10, DT, TUW, RQ, CH2, CF8, CF12, CG1, VL36, CN1, CQ1, CN2, CN3. -/
import Derived.Test.YtchdghnpcekegaaGreatDoorC07
import Derived.Lib.ItoaNum
import Derived.Test.YtchdghnpcekegaaGreatDoorC05
import Derived.Test.YtchdghnpcekegaaGreatDoorC03
import Derived.Lib.IndexMore
import Derived.Sort.KeysCollected
import Derived.Sort.Walk0
import Derived.Lib.SlicesCompact
import Derived.Test.YtchdghnpcekegaaGreatDoorC04
set_option linter.unusedSimpArgs false
set_option linter.unusedVariables false
section
set_option linter.unusedVariables false
namespace Go.VL
theorem XG {k r j y:Nat} (h:(pad (k+1) r)[j]? = some y) (hr:r<aE ^ (k+1)):y=(if j<ag r then ((digits r)[j]?).getD 0 else 0):=by
 obtain ⟨z,hz⟩:=trimmed (pad (k+1) r) (rR _ _)
 rw [fQ hr] at hz
 rw [hz] at h
 by_cases hj:j<ag r
 . rw [if_pos hj]
   rw [List.getElem?_append_left (show j<(digits r).length from hj)] at h
   rw [h];rfl
 . rw [if_neg hj]
   rw [List.getElem?_append_right (show (digits r).length<=j from by show ag r<=j;omega)] at h
   exact List.eq_of_mem_replicate (List.mem_of_getElem? h)
theorem UA {a p b t:List Nat} {k j w:Nat} (hp:p.length=k) (hb:b.length=k) (hj:j<k):(a++(p.take j++b.drop j)++t).set (a.length+j) w=a++(p.take j++w::b.drop (j+1))++t:=by
 have h1:(p.take j).length=j:=by rw [List.length_take];omega
 obtain ⟨x,hx⟩:∃ x,b.drop j=x::b.drop (j+1):=⟨_,List.drop_eq_getElem_cons (show j<b.length by omega)⟩
 rw [hx,List.append_assoc,List.set_append_right _ _ (by omega),show a.length+j-a.length=j from by omega,List.append_assoc,List.set_append_right _ _ (by omega),h1,Nat.sub_self]
 simp
theorem Ry {a p b t:List Nat} {k j v w:Nat} (hp:p.length=k) (hj:j<k):(a++(p.take j++v::b)++t).set (a.length+j) w=a++(p.take j++w::b)++t:=by
 have h1:(p.take j).length=j:=by rw [List.length_take];omega
 rw [List.append_assoc,List.set_append_right _ _ (by omega),show a.length+j-a.length=j from by omega,List.append_assoc,List.set_append_right _ _ (by omega),h1,Nat.sub_self]
 simp
section
variable {P:Program} {G:Nat->Option (List AV)}
set_option maxRecDepth 100000 in
set_option maxHeartbeats 4000000 in
theorem NT {f fc fsh fw fby fl fsd ft fdg fmi fbk ftm:FuncId} (h:Has P f (jB fc fsh fw fby fl fsd ft fdg fmi fbk))
   (hc:∀ m n,ag m<=1000000->ag n<=1000000->VP P G fc [W m,W n] (.int .i64 (fP m n)))
   (ZG:∀ n,n<18446744073709551616->VP P G fsh [W n] (.int .u64 ((n:Nat):Int))) (hu:∀ n,n<18446744073709551616->VP P G fw [.int .u64 ((n:Nat):Int)] (W n))
   (hby:∀ m w:Nat,ag m<=1000000->w<aE->w≠0->VP P G fby [W m, .int .u32 (w:Int)] (.tup [W (m/w), .int .u32 ((m%w:Nat):Int)]))
   (hlen:Has P fl gp) (hsd:Has P fsd fW) (ht:iT P G ft) (htr:Has P ft fY)
   (hdg:Has P fdg (gR ftm ft fc fmi)) (ED:∀ (m:Nat) (ws:List Nat),Wd ws->ag m<=1000000->ws.length<=1000000->VP P G ftm [W m, .sl 1 (us ws)] (W (m*val ws)))
   (hmi:Has P fmi (dU ft)) (Nl:∀ m s:Nat,ag m<=1000000->s<=31->VP P G fbk [W m, .int .i64 (s:Int)] (W (m/2 ^ s)))
   (m n:Nat) (D7:n≠0) (hm:ag m<=900000) (hn:ag n<=900000):VP P G f [W m,W n] (.tup [W (m/n),W (m%n)]):=by
 refine VP.has h ?_
 have aba:=hc m n (by omega) (by omega)
 have Rg:m/n=0->∀ σ,View σ .nils (W (m/n)):=fun h σ => by rw [h];simp only [W,bx,us];exact View.nils 1
 have abb:m<n->m/n=0/\m%n=m:=fun h=>⟨Nat.div_eq_of_lt h,Nat.mod_eq_of_lt h⟩
 have c1:m<n->decide (fP m n<0)=true:=fun h=>aw (by simp only [fP,jj];rw [if_pos (by omega)];decide)
 have c2 : ¬ m<n->decide (fP m n<0)=false:=fun h=>ar (by simp only [fP,jj];rw [if_neg (by omega)];split<;>decide)
 have l1:ag m<=2->decide ((ag m:Int)<=2)=true:=fun h=>aw (by omega)
 have l2 : ¬ ag m<=2->decide ((ag m:Int)<=2)=false:=fun h=>ar (by omega)
 have b1:ag n=1->decide ((ag n:Int)=1)=true:=fun h=>aw (by omega)
 simp only [jB,SS,Nat.reduceAdd]
 refine ah aba (by simp [ay]) ?_
 by_cases h1:m<n
 . simp only [SS,Nat.reduceAdd,c1 h1]
   obtain ⟨e1,e2⟩:=abb h1
   refine ak▸⟨.tup [.nils,W m],rfl,View.tup (aF.cons (Rg e1 _) (aF.cons ?_ aF.nil))⟩
   rw [e2];exact View.pure (ay _)
 have qU:n<=m:=by omega
 have hwn:ag n≠0:=fun e=>D7 (cG.1 e)
 by_cases h2:ag m<=2
 . have Bu:=sR h2
   have WV:n<18446744073709551616:=by omega
   have hq:=I1 m n Bu D7
   have hr:=I3 m n D7
   have hu1:=hu (m/n) (Nat.lt_of_le_of_lt (Nat.div_le_self _ _) Bu)
   have hu2:=hu (m%n) (Nat.lt_of_le_of_lt (Nat.mod_le _ _) Bu)
   simp only [SS,Nat.reduceAdd,c2 h1,bg,l1 h2]
   refine ah (ZG m Bu) (by simp [ay]) ?_
   simp only [SS,Nat.reduceAdd]
   refine ah (ZG n WV) (by simp [ay]) ?_
   simp only [SS,DD,Nat.reduceAdd,hq]
   refine aj hu1 (by simp [aa.int]) ?_
   simp only [SS,DD,Nat.reduceAdd,hr]
   refine aj hu2 (by simp [aa.int]) ?_
   simp only [SS,DD,Nat.reduceAdd]
   refine ⟨by simp [ab,apart], ?_⟩
   exact ak▸ae rfl (aa.tup (by intro c hc;simp at hc;rcases hc with rfl | rfl<;>exact ay _))
 by_cases h3:ag n=1
 . obtain ⟨x,hx⟩:∃ x,(digits n)[0]? = some x:=⟨_,List.getElem?_eq_getElem (by show 0<ag n;omega)⟩
   have hxn:x=n:=by
     have e:=aM hx
     rw [List.take_of_length_le (show (digits n).length<=1 from by show ag n<=1;omega),aU] at e
     simp [val] at e;omega
   have hg:=de hx
   rw [hxn] at hg
   have hnB:n<aE:=by rw [<- hxn];exact aX n x (List.mem_of_getElem? hx)
   have hdv:=hby m n (by omega) hnB D7
   have Nh:cn 1 (W n) (.int .i64 0)=some (.ep (AV.int .u32 (n:Int)).cells 0):=hg
   have hmB:m%n<aE:=Nat.lt_trans (Nat.mod_lt _ (Nat.pos_of_ne_zero D7)) hnB
   have f9:=bn (m%n) hmB
   have hu9:=hu (m%n) (by unfold aE at hmB;omega)
   simp only [SS,Nat.reduceAdd,c2 h1,bg,l2 h2,b1 h3,Nh,aH,bl]
   refine ah hdv (by simp [ay,aa.int]) ?_
   simp only [SS,Nat.reduceAdd,A6,A7,f9]
   refine ah hu9 (by simp [aa.int]) ?_
   simp only [SS,Nat.reduceAdd]
   exact ak▸ae rfl (aa.tup (by intro c hc;simp at hc;rcases hc with rfl | rfl<;>exact ay _))
 obtain ⟨k,hk⟩:∃ k,ag n=k+2:=⟨ag n-2,by omega⟩
 obtain ⟨x,hx⟩:∃ x,(digits n)[k+1]? = some x:=⟨_,List.getElem?_eq_getElem (by show k+1<ag n;omega)⟩
 obtain ⟨HU,hxB,hV,hwV,hs⟩:=Cu hk hx
 obtain ⟨alM,alN⟩:=P0 hxB HU
 have aef:=NR (G:=G) hlen hk hx (by omega)
 generalize alO:32-iC x=s at hV hwV hs
 have m1:IntKind.i64.wrap (32*((k+2:Nat):Int))=((32*(k+2):Nat):Int):=by rw [IntKind.wrap_i64];omega
 have m2:IntKind.i64.wrap (((32*(k+2):Nat):Int)-((32*(k+1)+iC x:Nat):Int))=(s:Int):=by rw [IntKind.wrap_i64];omega
 obtain ⟨V,Rq⟩:∃ V,V=n*2 ^ s:=⟨_,rfl⟩
 obtain ⟨U,Xy⟩:∃ U,U=m*2 ^ s:=⟨_,rfl⟩
 rw [<- Rq] at hV hwV
 have NM:=G0 (G:=G) hsd m s (by omega) hs
 have NN:=G0 (G:=G) hsd n s (by omega) hs
 rw [<- Rq] at NN
 rw [<- Xy] at NM
 obtain ⟨L,hL⟩:∃ L,ag m+1=L+(k+2):=⟨ag m+1-(k+2),by have:=bE qU;omega⟩
 have hUB:U<aE ^ (ag m+1):=by
   have h4:2 ^ s<=2 ^ 32:=Nat.pow_le_pow_right (by decide) (by omega)
   have h5:m*2 ^ s<=m*2 ^ 32:=Nat.mul_le_mul_left _ h4
   have h6:m*2 ^ 32<aE ^ ag m*2 ^ 32:=Nat.mul_lt_mul_of_pos_right (cU m) (by decide)
   rw [Nat.pow_succ,Xy];exact Nat.lt_of_le_of_lt h5 h6
 obtain ⟨A0,R0,hAR,ZJ,hR0⟩:∃ A R,pad (ag m+1) U=A++R++[]/\A.length=L/\R.length=k+2 :=
   ⟨(pad (ag m+1) U).take L,(pad (ag m+1) U).drop L,by simp,by simp [kA];omega,by simp [kA];omega⟩
 have hAw:Wd A0/\Wd R0:=by
   have h4:=rR (ag m+1) U
   rw [hAR] at h4
   exact ⟨fun w hw=>h4 w (by simp [hw]),fun w hw=>h4 w (by simp [hw])⟩
 have hU0:U=val A0+aE ^ L*val R0:=by
   have h4:=fQ hUB
   rw [hAR,List.append_nil,cm,ZJ] at h4
   exact h4.symm
 have Un:val R0<V:=L1 (k:=k+2) Rq (by have:=sO D7;rw [hk] at this;exact this) (by
   have h4:=cU m
   have:L+(k+2-1)=ag m:=by omega
   rw [this];exact h4) (Xy▸hU0)
 have GX:ag V=k+2:=hwV
 have WA:0<V:=Nat.lt_of_le_of_lt (Nat.zero_le _) Un
 have KL:IntKind.i64.wrap (((ag m:Nat):Int)-((k+2:Nat):Int))=(L:Int)-1:=by rw [IntKind.wrap_i64];omega
 have sr:∀ p:Id,jm p 1 4 (.int .u32 0) (.int .i64 ((ag m:Nat):Int)) (.int .i64 ((ag m:Nat):Int))=some { val := .osl p 1 0 (ag m) false,up:=[(p,some ⟨us (List.replicate (ag m) 0),1,false⟩)] }:=fun p=>nH (by omega)
 rw [hAR] at NM
 rw [hk] at NN
 have b3:decide (((k+2:Nat):Int)=1)=false:=ar (by omega)
 have SR:V<aE ^ (k+2+1):=Nat.lt_of_lt_of_le hV (Nat.pow_le_pow_right cV (by omega))
 have Up:VP P G ft [.sl 1 (us (pad (k+2+1) V))] (W V):=by
   have:=ht (pad (k+2+1) V) (rR _ _) (by rw [kA];omega)
   rwa [fQ SR] at this
 simp only [SS,Nat.reduceAdd,c2 h1,bg,l2 h2,b3,hk,m1]
 refine ah aef (by simp [ay]) ?_
 simp only [SS,Nat.reduceAdd,m2]
 refine ⟨[],_,NM _,by simp,by simp, ?_⟩
 simp only [SS,Nat.reduceAdd]
 refine ⟨[],_,NN _,by simp,by simp, ?_⟩
 simp only [SS,Nat.reduceAdd]
 refine bB [([4,24],⟨us (pad (k+2+1) V),1,false⟩)] Up (aF.cons (hH (kA _ _).symm) aF.nil) (by simp [af.put]) ?_
 simp only [SS,Nat.reduceAdd,bg,GX,sr,KL,aK]
 refine VW.dQ (α := Nat × List Nat × List Nat × Nat × List Nat × Nat) (fun x=>⟨List.replicate 10 .top++[.int .i64 (s:Int), .osl [4,21] 1 0 (ag m+1) false,W V, .osl [30] 1 0 (ag m) false, .int .i64 ((x.1:Int)-1)]++List.replicate 113 .top,
   af.put (af.put (fun _=>none) [4,21] (some ⟨us (x.2.1++x.2.2.1++zs x.2.2.2.1),1,false⟩)) [30] (some ⟨us (zs x.1++(x.2.2.2.2.1++zs (k+1))),1,false⟩),x.2.2.2.2.2⟩)
   (fun x=>x.1+x.2.2.2.2.1.length=L/\x.2.1.length=x.1/\x.2.2.1.length=k+2/\x.1+(k+2)+x.2.2.2.1=ag m+1/\Wd x.2.1/\Wd x.2.2.1/\Wd x.2.2.2.2.1/\val x.2.2.1<V/\U=val x.2.1+aE ^ x.1*(val x.2.2.2.2.1*V+val x.2.2.1)/\1000<=x.2.2.2.2.2) (fun x=>x.1) (L,A0,R0,0,[],1000) ?_ ?_ ?_
 . refine Wk.forget (by simp [Fg,List.replicate]) (fun j => ?_) (by simp only [];omega)
   have hLk:zs (ag m)=zs L++([]++zs (k+1)):=by
     simp only [zs,List.nil_append,List.replicate_append_replicate];congr 1;omega
   simp only [List.append_nil,af.put,af.app,Di,List.map_cons,List.map_nil, <- hLk,xh]
   by_cases e1:j=[30]
   . subst e1;simp [zs]
   . by_cases e2:j=[4,21]
     . subst e2;simp
     . simp [e1,e2]
 . refine ⟨by simp,ZJ,hR0,by simp only [];omega,hAw.1,hAw.2,by intro w hw;simp at hw,Un, ?_,Nat.le_refl _⟩
   show U=val A0+aE ^ L*(val []*V+val R0)
   rw [show val []=0 from rfl,Nat.zero_mul,Nat.zero_add];exact hU0
 rintro ⟨c,A,R,tl,o,nn⟩ ⟨hcc,hA,hR,WB,hAW,hRW,hoW,SQ,hUe,hnn⟩
 simp only [] at hcc hA hR WB hAW hRW hoW SQ hUe hnn
 rcases Nat.eq_zero_or_pos c with h0 | hcp
 . subst h0
   have d0:decide ((0:Int)<=((0:Nat):Int)-1)=false:=by decide
   obtain rfl:A=[]:=List.length_eq_zero_iff.1 hA
   have hU':m*2 ^ s=val o*(n*2 ^ s)+val R:=by
     rw [<- Xy, <- Rq,hUe]
     show val []+aE ^ 0*_=_
     simp [val]
   obtain ⟨g1,g2,g3⟩:=P1 D7 hU' (Rq▸SQ)
   have hoL:ag m=(o++zs (k+1)).length:=by simp [zs];omega
   have htq:=ht (o++zs (k+1)) (cM hoW (ZD _)) (by omega)
   rw [show val (o++zs (k+1))=val o from PR o (k+1),g1] at htq
   have hRl:ag m+1=(R++zs tl).length:=by simp [zs];omega
   have htR:=ht (R++zs tl) (cM hRW (ZD _)) (by omega)
   rw [show val (R++zs tl)=val R from PR R tl] at htR
   have hwR:ag (val R)<=1000000:=by rw [<- Rq,GX] at g3;omega
   have aeg:=Nl (val R) s hwR hs
   rw [g2] at aeg
   simp only [SS,Nat.reduceAdd,d0,xh]
   refine bB [([30],⟨us (o++zs (k+1)),1,false⟩)] htq (aF.cons (hH hoL) aF.nil) (by simp [af.put]) ?_
   simp only [SS,Nat.reduceAdd]
   refine bB [([4,21],⟨us (R++zs tl),1,false⟩)] htR (aF.cons (hH hRl) aF.nil) (by simp [af.put,af.app,Di]) ?_
   simp only [SS,Nat.reduceAdd]
   refine ah aeg (by simp [ay,aa.int]) ?_
   simp only [SS,Nat.reduceAdd]
   exact ak▸ae rfl (aa.tup (by intro c hc;simp at hc;rcases hc with rfl | rfl<;>exact ay _))
 obtain ⟨i,rfl⟩:∃ i,c=i+1:=⟨c-1,by omega⟩
 have d0:decide ((0:Int)<=(i:Int))=true:=aw (by omega)
 have hj:((i+1:Nat):Int)-1=(i:Int):=by omega
 have TZ:IntKind.i64.wrap ((i:Int)-1)=(i:Int)-1:=by rw [IntKind.wrap_i64];omega
 obtain ⟨A',y,rfl,hA'⟩:=xk hA
 obtain ⟨b,Fe⟩:∃ b,b=y::R:=⟨_,rfl⟩
 have eb:A'++[y]++R++zs tl=A'++b++zs tl:=by rw [Fe];simp
 have hyB:y<aE:=hAW y (by simp)
 have abl:Wd A':=fun w hw=>hAW w (by simp [hw])
 have Bl:b.length=k+3:=by rw [Fe];simp [hR]
 have Kv:Wd b:=by
   intro w hw;rw [Fe] at hw
   rcases List.mem_cons.1 hw with rfl | hw
   . exact hyB
   . exact hRW w hw
 have hbv:val b=y+aE*val R:=by rw [Fe];rfl
 obtain ⟨ZK,WC⟩:=adU hyB SQ
 rw [<- hbv] at ZK WC
 have a1:=oP i (k+2) (by omega)
 have a4:IntKind.i64.wrap (((i+(k+2):Nat):Int)+1)=((i+(k+3):Nat):Int):=by rw [IntKind.wrap_i64];omega
 have iaq:=cN (q:=[30]) (t:=false) (show i<ag m by omega)
 have L5:gP 1 (.osl [4,21] 1 0 (ag m+1) false) (some (.int .i64 (i:Int))) (some (.int .i64 ((i+(k+3):Nat):Int))) none=some (.osl [4,21] 1 A'.length (k+3) false):=by
   rw [I7 (by omega) (by omega),hA']
   congr 2;omega
 have jS:∀ j,1000<=j->∀ x,([4,21]:List Nat)≠x::[j]:=fun j h x e=>by simp at e;omega
 have ahy:∀ j,1000<=j->_:=fun j hj=>Rx (G:=G) hdg ED htr hc (fun m n h1 h2=>I9 hmi ht m n h1 h2) (id:=[4,21]) (a:=A') (b:=b) (t:=zs tl) GX Bl Kv ZK (by omega) [j] (jS j hj)
 have aeh:=Ma (G:=G) htr (id:=[4,21]) (a:=A') (b:=b) (t:=zs tl) Kv (by omega)
 rw [Bl] at aeh
 obtain ⟨z,hz⟩:=trimmed b Kv
 have he:A'++b++zs tl=A'++digits (val b)++(zs z++zs tl):=by
   conv=>lhs;rw [hz]
   simp
 have I8:val b%V<V:=Nat.mod_lt _ WA
 have aei:val b-V*(val b/V)=val b%V:=by have:=Nat.div_add_mod (val b) V;omega
 have SP:ag (val b)<=1000000:=by
   have h1:=mA Kv
   rw [Bl] at h1
   have:=fC h1;omega
 have aej:∀ j,1000<=j->_:=fun j hj=>Rw (G:=G) hmi ht (id:=[4,21]) (a:=A') (t:=zs z++zs tl) (val b) (V*(val b/V)) (Nat.mul_div_le _ _) SP [j] (jS j hj)
 rw [aei, <- he] at aej
 have hqL:i<(zs (i+1)++(o++zs (k+1))).length:=by simp [zs];omega
 rw [eb]
 simp only [SS,Nat.reduceAdd,hj,d0,bg,GX,a1,a4,L5]
 refine ⟨[([4,21],⟨us (A'++b++zs tl),1,false⟩)],_,ahy _ (by omega),by simp [af.put],by simp, ?_⟩
 simp only [SS,Nat.reduceAdd,A6,A7,iaq]
 rw [bO (o:=zs (i+1)++(o++zs (k+1))) (by simp [af.put]) hqL,zi]
 simp only [SS,Nat.reduceAdd]
 refine ⟨[([4,21],⟨us (A'++b++zs tl),1,false⟩)],_,aeh _,by simp [af.put],by simp, ?_⟩
 simp only [SS,Nat.reduceAdd]
 refine ⟨[([4,21],⟨us (A'++b++zs tl),1,false⟩)],_,aej _ (by omega),by simp [af.put],by simp, ?_⟩
 simp only [SS,Nat.reduceAdd,aK]
 obtain ⟨r,hr⟩:∃ r,r=val b%V:=⟨_,rfl⟩
 rw [<- hr] at I8 ⊢
 have LN:r<aE ^ (k+2):=Nat.lt_trans I8 hV
 have ahz:r<aE ^ (k+2+1):=Nat.lt_of_lt_of_le LN (Nat.pow_le_pow_right cV (by omega))
 obtain ⟨pd,hpd⟩:∃ pd,pd=pad (k+2+1) r:=⟨_,rfl⟩
 have UB:pd.length=k+3:=by rw [hpd];exact kA _ _
 refine VW.dQ (α := Nat × Nat) (fun x=>⟨List.replicate 10 .top++[.int .i64 (s:Int), .osl [4,21] 1 0 (ag m+1) false,W V, .osl [30] 1 0 (ag m) false, .int .i64 (i:Int), .osl [4,21] 1 A'.length (k+3) false, .top, .top,W r, .int .i64 (x.1:Int)]++List.replicate 108 .top,
   af.put (af.put (fun _=>none) [4,21] (some ⟨us (A'++(pd.take x.1++b.drop x.1)++zs tl),1,false⟩)) [30] (some ⟨us (zs i++val b/V::(o++zs (k+1))),1,false⟩),x.2⟩)
   (fun x=>x.1<=k+3/\1000<=x.2) (fun x=>k+3-x.1) (0,nn+1000) ?_ ?_ ?_
 . refine Wk.forget (by simp [Fg,List.replicate]) (fun j => ?_) (by simp only [];omega)
   simp only [List.take_zero,List.drop_zero,List.nil_append,af.put]
   by_cases e1:j=[30]
   . subst e1;simp
   . by_cases e2:j=[4,21]
     . subst e2;simp
     . simp [e1,e2]
 . exact ⟨Nat.zero_le _,by simp only [];omega⟩
 rintro ⟨j,mm⟩ ⟨NU,Jw⟩
 simp only [] at NU Jw
 have qS:j<k+3->decide ((j:Int)<((k+3:Nat):Int))=true:=fun h=>aw (by omega)
 have xK : ¬ j<k+3->decide ((j:Int)<((k+3:Nat):Int))=false:=fun h=>ar (by omega)
 have LL:j<ag r->decide ((j:Int)<(ag r:Int))=true:=fun h=>aw (by omega)
 have LM : ¬ j<ag r->decide ((j:Int)<(ag r:Int))=false:=fun h=>ar (by omega)
 have NF:=aI j (by omega)
 by_cases C2:j<k+3
 . have hio:=pH (q:=[4,21]) (off:=A'.length) (t:=false) C2
   have alR:(pd.take j++b.drop j).length=k+3:=by simp [UB,Bl];omega
   obtain ⟨y',hy'⟩:∃ y,pd[j]? = some y:=⟨_,List.getElem?_eq_getElem (by omega)⟩
   have hpm:=XG (hpd▸hy') ahz
   have Xn:∀ w,(A'++(pd.take j++b.drop j)++zs tl).set (A'.length+j) w=A'++(pd.take j++w::b.drop (j+1))++zs tl:=fun w=>UA UB Bl C2
   have aek:∀ v w,(A'++(pd.take j++v::b.drop (j+1))++zs tl).set (A'.length+j) w=A'++(pd.take j++w::b.drop (j+1))++zs tl:=fun v w=>Ry UB C2
   have zB:A'.length+j<(A'++(pd.take j++b.drop j)++zs tl).length:=by simp [UB,Bl];omega
   have QG:∀ v,A'.length+j<(A'++(pd.take j++v::b.drop (j+1))++zs tl).length:=fun v=>by simp [UB,Bl];omega
   have ZB:pd.take j++y'::b.drop (j+1)=pd.take (j+1)++b.drop (j+1):=by
     have:=List.take_add_one (l:=pd) (i:=j)
     rw [hy'] at this;rw [this];simp
   have ael:k+3-(j+1)<k+3-j:=by omega
   have aem:∀ σ : af, σ [4,21]=some ⟨us (A'++(pd.take j++b.drop j)++zs tl),1,false⟩->fy σ 1 (.ref [4,21] (A'.length+j) 0) (.int .u32 0)=some { val := .tup [],rd:=[[4,21]],up:=[([4,21],some ⟨us (A'++(pd.take j++0::b.drop (j+1))++zs tl),1,false⟩)] }:=fun σ hσ => by
     have:=bO (x:=0) hσ zB
     rw [Xn] at this;exact this
   by_cases hjr:j<ag r
   . obtain ⟨dj,hdj⟩:∃ y,(digits r)[j]? = some y:=⟨_,List.getElem?_eq_getElem hjr⟩
     rw [if_pos hjr,hdj,Option.getD_some] at hpm
     subst hpm
     simp only [SS,Nat.reduceAdd,qS C2,hio]
     rw [aem _ (by simp [af.put])]
     simp only [SS,Nat.reduceAdd,bg,LL hjr,de hdj,aH,bl,hio]
     rw [bO (o:=A'++(pd.take j++0::b.drop (j+1))++zs tl) (by simp [af.put]) (QG _),aek,ZB]
     simp only [SS,Nat.reduceAdd,NF]
     refine ⟨(j+1,_),⟨by simp only [];omega,by simp only [];omega⟩,ael,Wk.forget (by simp [Fg]) (fun q => ?_) (Nat.le_refl _)⟩
     simp only [af.put]
     by_cases e1:q=[30]
     . subst e1;simp
     . by_cases e2:q=[4,21]
       . subst e2;simp
       . simp [e1,e2]
   . rw [if_neg hjr] at hpm
     subst hpm
     simp only [SS,Nat.reduceAdd,qS C2,hio]
     rw [aem _ (by simp [af.put]),ZB]
     simp only [SS,Nat.reduceAdd,bg,LM hjr,NF]
     refine ⟨(j+1,_),⟨by simp only [];omega,by simp only [];omega⟩,ael,Wk.forget (by simp [Fg]) (fun q => ?_) (Nat.le_refl _)⟩
     simp only [af.put]
     by_cases e1:q=[30]
     . subst e1;simp
     . by_cases e2:q=[4,21]
       . subst e2;simp
       . simp [e1,e2]
 . have KA:j=k+3:=by omega
   have JE:val b=val b/V*V+r:=by rw [hr];have:=Nat.div_add_mod (val b) V;rw [Nat.mul_comm] at this;omega
   have hUn:U=val A'+aE ^ i*(val (val b/V::o)*V+val (pad (k+2) r)):=by
     rw [fQ LN]
     refine LZ (x:=y) (R:=val R) (O:=val o) ?_ (by rw [<- hbv];exact JE)
     rw [hUe,cm,hA']
     simp only [val,Nat.mul_zero,Nat.add_zero]
   have hep:A'++(pd.take j++b.drop j)++zs tl=A'++pad (k+2) r++zs (tl+1):=by
     rw [KA,List.take_of_length_le (by omega),List.drop_eq_nil_of_le (by omega),hpd,JZ LN]
     simp [iU]
   rw [hep]
   simp only [SS,Nat.reduceAdd,xK C2,TZ]
   refine ⟨(i,A',pad (k+2) r,tl+1,val b/V::o,_),⟨by simp;omega,hA',kA _ _,by simp only [];omega,abl,rR _ _, ?_,by simp only [];rw [fQ LN];exact I8,hUn,by simp only [];omega⟩,Nat.lt_succ_self i,Wk.forget (by simp [Fg]) (fun q => ?_) (Nat.le_refl _)⟩
   . intro w hw
     rcases List.mem_cons.1 hw with rfl | hw
     . exact WC
     . exact hoW w hw
   . right;simp
end
end Go.VL
end

section
set_option linter.unusedVariables false
namespace Go.VL
theorem Mb {a b:Int} (h:decide (a<0)=decide (b<0)):xe (decide (a<0)) (a.natAbs+b.natAbs)=a+b:=by
 unfold xe
 by_cases h1:a<0<;>by_cases h2:b<0<;>simp [h1,h2] at h ⊢ <;> omega
theorem Cv {a b:Int} (h : ¬ decide (a<0)=decide (b<0)) (hn:b.natAbs<=a.natAbs):xe (decide (a<0)) (a.natAbs-b.natAbs)=a+b:=by
 unfold xe
 by_cases h1:a<0<;>by_cases h2:b<0<;>simp [h1,h2] at h ⊢ <;> omega
section
variable {P:Program} {G:Nat->Option (List AV)}
theorem XH {f fn fp fs fc fm:FuncId} (h:Has P f (lO fn fp fs fc fm)) (hn:∀ z:Int,ag z.natAbs<=1000000->VP P G fn [IV z] (IV z))
   (hp:∀ m n,ag m<=1000000->ag n<=1000000->VP P G fp [W m,W n] (W (m+n))) (hs:iW P G fs) (hc:∀ m n,ag m<=1000000->ag n<=1000000->VP P G fc [W m,W n] (.int .i64 (fP m n)))
   (hm:∀ m n,n<=m->ag m<=1000000->VP P G fm [W m,W n] (W (m-n))) (a b:Int) (ha:ag a.natAbs<=1000000) (hb:ag b.natAbs<=1000000):VP P G f [IV a,IV b] (IV (a+b)):=by
 refine VP.has h ?_
 have yb:([0]:List Nat)≠[1]:=by decide
 have DZ:([0]:List Nat)≠[2]:=by decide
 have A8:([1]:List Nat)≠[2]:=by decide
 have hwl:ag (a.natAbs+b.natAbs)<=9223372036854775807:=by
   have:ag (a.natAbs+b.natAbs)<=ag a.natAbs+ag b.natAbs+1:=fC (by
     have e1:=cU a.natAbs
     have e2:=cU b.natAbs
     have e3:aE ^ ag a.natAbs<=aE ^ (ag a.natAbs+ag b.natAbs):=Nat.pow_le_pow_right cV (by omega)
     have e4:aE ^ ag b.natAbs<=aE ^ (ag a.natAbs+ag b.natAbs):=Nat.pow_le_pow_right cV (by omega)
     have e5:aE ^ (ag a.natAbs+ag b.natAbs)*2<=aE ^ (ag a.natAbs+ag b.natAbs)*aE:=Nat.mul_le_mul_left _ (by decide)
     rw [Nat.pow_succ];omega)
   omega
 have hpv:=hp a.natAbs b.natAbs ha hb
 have hcv:=hc a.natAbs b.natAbs ha hb
 simp only [lO,SS,DD,Nat.reduceAdd,gZ,b9,aq yb,aq DZ,ao,c9]
 refine aj (hn a ha) (by simp [au]) ?_
 simp only [SS,DD,Nat.reduceAdd,aq A8,ao,c9]
 refine aj (hn b hb) (by simp [au]) ?_
 simp only [SS,DD,Nat.reduceAdd]
 rw [dh (k:=(IV a).size) (y:=IV a) rfl (A5 _ _) (by simp [af.put])]
 simp only [SS,DD,Nat.reduceAdd]
 rw [dh (k:=(IV b).size) (y:=IV b) rfl (A5 _ _) (by simp [af.put])]
 simp only [SS,DD,Nat.reduceAdd]
 refine ⟨by simp [ab,apart], ?_⟩
 simp only [SS,Nat.reduceAdd,aq yb,ao,jR]
 by_cases Nc:decide (a<0)=decide (b<0)
 . have d0:(decide (a<0)==decide (b<0))=true:=by rw [Nc];exact beq_self_eq_true _
   have P4:=hs (decide (a<0)) (a.natAbs+b.natAbs) hwl
   rw [Mb Nc] at P4
   simp only [SS,DD,Nat.reduceAdd,d0,aq yb,ao,jR,iD]
   refine aj hpv (by simp [ay]) ?_
   simp only [SS,DD,Nat.reduceAdd]
   refine aj P4 (by simp [ay,aa.bool]) ?_
   simp only [SS,DD,Nat.reduceAdd]
   rw [dh (k:=(AV.agg [.bool false, .nils]).size) (y := .agg [.bool false, .nils]) rfl (rT _) (by simp [af.put])]
   simp only [SS,DD,Nat.reduceAdd]
   refine ⟨by simp [ab,apart], ?_⟩
   refine ak▸ae (r:=IV (a+b)) ?_ (au _)
   simp only [RS,aY,a7,ao,c9]
 . have d0:(decide (a<0)==decide (b<0))=false:=by simpa using Nc
   simp only [SS,Nat.reduceAdd,d0,aq yb,ao,iD]
   refine ah hcv (by simp [ay]) ?_
   by_cases KN:b.natAbs<=a.natAbs
   . have d1:decide (0<=fP a.natAbs b.natAbs)=true:=aw (by simp only [fP,jj];rw [if_neg (by omega)];split<;>decide)
     have HX:=hm a.natAbs b.natAbs KN ha
     have P4:=hs (decide (a<0)) (a.natAbs-b.natAbs) (by have:=bE (Nat.sub_le a.natAbs b.natAbs);omega)
     rw [Cv Nc KN] at P4
     simp only [SS,DD,Nat.reduceAdd,d1,aq yb,ao,jR,iD]
     refine aj HX (by simp [ay]) ?_
     simp only [SS,DD,Nat.reduceAdd]
     refine aj P4 (by simp [ay,aa.bool]) ?_
     simp only [SS,DD,Nat.reduceAdd]
     rw [dh (k:=(AV.agg [.bool false, .nils]).size) (y := .agg [.bool false, .nils]) rfl (rT _) (by simp [af.put])]
     simp only [SS,DD,Nat.reduceAdd]
     refine ⟨by simp [ab,apart], ?_⟩
     refine ak▸ae (r:=IV (a+b)) ?_ (au _)
     simp only [RS,aY,a7,ao,c9]
   . have d1:decide (0<=fP a.natAbs b.natAbs)=false:=ar (by simp only [fP,jj];rw [if_pos (by omega)];decide)
     have HX:=hm b.natAbs a.natAbs (by omega) hb
     have P4:=hs (decide (b<0)) (b.natAbs-a.natAbs) (by have:=bE (Nat.sub_le b.natAbs a.natAbs);omega)
     rw [Cv (fun e=>Nc e.symm) (by omega),Int.add_comm] at P4
     simp only [SS,DD,Nat.reduceAdd,d1,aq yb,ao,jR,iD]
     refine aj HX (by simp [ay]) ?_
     simp only [SS,DD,Nat.reduceAdd]
     refine aj P4 (by simp [ay,aa.bool]) ?_
     simp only [SS,DD,Nat.reduceAdd]
     rw [dh (k:=(AV.agg [.bool false, .nils]).size) (y := .agg [.bool false, .nils]) rfl (rT _) (by simp [af.put])]
     simp only [SS,DD,Nat.reduceAdd]
     refine ⟨by simp [ab,apart], ?_⟩
     refine ak▸ae (r:=IV (a+b)) ?_ (au _)
     simp only [RS,aY,a7,ao,c9]
theorem XI {f fn fa:FuncId} (h:Has P f (lP fn fa)) (hn:∀ z:Int,ag z.natAbs<=1000000->VP P G fn [IV z] (IV (-z)))
   (ha:∀ a b:Int,ag a.natAbs<=1000000->ag b.natAbs<=1000000->VP P G fa [IV a,IV b] (IV (a+b))) (a b:Int) (hwa:ag a.natAbs<=1000000) (SP:ag b.natAbs<=1000000):VP P G f [IV a,IV b] (IV (a-b)):=by
 refine VP.has h ?_
 have yb:([0]:List Nat)≠[1]:=by decide
 have DZ:([0]:List Nat)≠[2]:=by decide
 have A8:([1]:List Nat)≠[2]:=by decide
 have hav:=ha a (-b) hwa (by rw [Int.natAbs_neg];exact SP)
 rw [<- Int.sub_eq_add_neg] at hav
 simp only [lP,SS,DD,Nat.reduceAdd,gZ,b9,aq yb,aq DZ,aq A8,ao,c9]
 refine aj (hn b SP) (by simp [au]) ?_
 simp only [SS,DD,Nat.reduceAdd]
 refine aj hav (by simp [au]) ?_
 simp only [SS,DD,Nat.reduceAdd]
 rw [dh (k:=(AV.agg [.bool false, .nils]).size) (y := .agg [.bool false, .nils]) rfl (rT _) (by simp [af.put])]
 simp only [SS,DD,Nat.reduceAdd]
 refine ⟨by simp [ab,apart], ?_⟩
 refine ak▸ae (r:=IV (a-b)) ?_ (au _)
 simp only [RS,aY,a7,ao,c9]
theorem UC {f fn ft fs:FuncId} (h:Has P f (lQ fn ft fs)) (hn:∀ z:Int,ag z.natAbs<=1000000->VP P G fn [IV z] (IV z))
   (ht:∀ m n,ag m<=1000000->ag n<=1000000->VP P G ft [W m,W n] (W (m*n))) (hs:iW P G fs) (a b:Int) (ha:ag a.natAbs<=1000000) (hb:ag b.natAbs<=1000000):VP P G f [IV a,IV b] (IV (a*b)):=by
 refine VP.has h ?_
 have yb:([0]:List Nat)≠[1]:=by decide
 have DZ:([0]:List Nat)≠[2]:=by decide
 have A8:([1]:List Nat)≠[2]:=by decide
 have Up:=ht a.natAbs b.natAbs ha hb
 have eE:=hs (!(decide (a<0)==decide (b<0))) (a.natAbs*b.natAbs) (by have:=zg a.natAbs b.natAbs;omega)
 rw [PV] at eE
 simp only [lQ,SS,DD,Nat.reduceAdd,gZ,b9,aq yb,aq DZ,ao,c9]
 refine aj (hn a ha) (by simp [au]) ?_
 simp only [SS,DD,Nat.reduceAdd,aq A8,ao,c9]
 refine aj (hn b hb) (by simp [au]) ?_
 simp only [SS,DD,Nat.reduceAdd]
 rw [dh (k:=(IV a).size) (y:=IV a) rfl (A5 _ _) (by simp [af.put])]
 simp only [SS,DD,Nat.reduceAdd]
 rw [dh (k:=(IV b).size) (y:=IV b) rfl (A5 _ _) (by simp [af.put])]
 simp only [SS,DD,Nat.reduceAdd]
 refine ⟨by simp [ab,apart], ?_⟩
 simp only [SS,DD,Nat.reduceAdd,aq yb,ao,jR,iD]
 refine aj Up (by simp [ay]) ?_
 simp only [SS,DD,Nat.reduceAdd]
 refine aj eE (by simp [ay,aa.bool]) ?_
 simp only [SS,DD,Nat.reduceAdd]
 rw [dh (k:=(AV.agg [.bool false, .nils]).size) (y := .agg [.bool false, .nils]) rfl (rT _) (by simp [af.put])]
 simp only [SS,DD,Nat.reduceAdd]
 refine ⟨by simp [ab,apart], ?_⟩
 refine ak▸ae (r:=IV (a*b)) ?_ (au _)
 simp only [RS,aY,a7,ao,c9]
theorem XJ {f ft fd fs:FuncId} (h:Has P f (lR ft fd fs)) (ht:iT P G ft) (hd:∀ m n,n≠0->ag m<=900000->ag n<=900000->VP P G fd [W m,W n] (.tup [W (m/n),W (m%n)]))
   (hs:iW P G fs) (a b:Int) (ha:ag a.natAbs<=900000) (hb:ag b.natAbs<=900000):VP P G f [IV a,IV b] (IV (Nat.gcd a.natAbs b.natAbs:Nat)):=by
 refine VP.has h ?_
 have yb:([0]:List Nat)≠[1]:=by decide
 have DZ:([0]:List Nat)≠[2]:=by decide
 have A8:([1]:List Nat)≠[2]:=by decide
 simp only [lR,SS,DD,Nat.reduceAdd,gZ,b9,aq yb,aq DZ,ao,iD]
 refine aj (oQ ht a.natAbs (by omega)) (by simp [ay]) ?_
 simp only [SS,DD,Nat.reduceAdd,aq A8,ao,iD]
 refine aj (oQ ht b.natAbs (by omega)) (by simp [ay]) ?_
 simp only [SS,DD,Nat.reduceAdd]
 refine ⟨by simp [ab,apart], ?_⟩
 simp only [aK]
 refine VW.dQ (α := Nat × Nat × Nat) (fun x=>⟨[IV a,IV b, .top, .top, .ref [2] 0 0,W x.1,W x.2.1]++List.replicate 21 .top,
   af.put (fun _=>none) [2] (some ⟨[.agg [.bool false, .nils]],(AV.agg [.bool false, .nils]).size,false⟩),x.2.2⟩)
   (fun x=>Nat.gcd x.1 x.2.1=Nat.gcd a.natAbs b.natAbs/\ag x.1<=900000/\ag x.2.1<=900000) (fun x=>x.2.1) (a.natAbs,b.natAbs,1000) ?_ ?_ ?_
 . exact Wk.forget (by simp [Fg,List.replicate]) (fun j=>by simp only [af.put];split<;>simp_all) (by simp only [];omega)
 . exact ⟨rfl,ha,hb⟩
 rintro ⟨x,y,nn⟩ ⟨hg,hx,hy⟩
 simp only [] at hg hx hy
 have w1:=GU x y
 by_cases c3:0<ag y
 . have Ui:y≠0:=fun e=>by have:=cG.2 e;omega
   have g5:decide ((0:Int)<(ag y:Int))=true:=aw (by omega)
   simp only [SS,Nat.reduceAdd,bg,g5]
   refine ah (hd x y Ui hx hy) (by simp [ay]) ?_
   simp only [SS,Nat.reduceAdd,A6,A7]
   exact ⟨(y,x%y,_),⟨zk hg,hy,by simp only [];omega⟩,Nat.mod_lt _ (Nat.pos_of_ne_zero Ui),Wk.slots (by simp [Fg]) (Nat.le_refl _)⟩
 . have g5:decide ((0:Int)<(ag y:Int))=false:=ar (by omega)
   have hyz:y=0:=cG.1 (by omega)
   rw [hyz,Nat.gcd_zero_right] at hg
   have eE:=hs false x (by omega)
   rw [D0] at eE
   simp only [SS,Nat.reduceAdd,bg,g5]
   refine ah eE (by simp [aa.bool,ay]) ?_
   simp only [SS,Nat.reduceAdd,iV]
   rw [<- hg]
   refine ak▸ae (r:=IV (x:Int)) ?_ (au _)
   simp only [RS,aY,a7,ao];rfl
end
end Go.VL
end

section
set_option linter.unusedVariables false
namespace Go.VL
theorem UD {ws:List Nat} (hw:Wd ws):ag (val ws)<=ws.length:=fC (mA hw)
theorem Mc (neg:Bool) {ws:List Nat} (hw:Wd ws):(decide (ag (val ws)=ws.length)&&(!neg||decide (0<ws.length)))=pK neg ws:=by
 unfold pK
 by_cases h0:ws=[]
 . subst h0;simp [ag,val,bx]
 . rw [if_neg h0]
   have p8:0<ws.length:=List.length_pos_iff.2 h0
   rw [aw p8,Bool.or_true,Bool.and_true]
   obtain ⟨k,hk⟩:∃ k,ws.length=k+1:=⟨ws.length-1,by omega⟩
   obtain ⟨b,x,rfl,hb⟩:=xk hk
   have e:(b++[x])[(b++[x]).length-1]?.getD 0=x:=by simp
   rw [e]
   by_cases hx:x=0
   . rw [ar (show ¬ x≠0 from fun h=>h hx),hx,kM]
     exact ar (by have:=UD (fun w hw'=>hw w (by simp [hw']):Wd b);simp;omega)
   . rw [aw hx]
     exact aw (by rw [ag,nG hw (.inr ⟨x,by simp,hx⟩)])
section
variable {P:Program} {G:Nat->Option (List AV)}
theorem NW {f ft:FuncId} (h:Has P f (j1 ft)) (ht:iT P G ft) (neg:Bool) (ws:List Nat) (hw:Wd ws) (hl:ws.length<=9223372036854775807):VP P G f [IR neg ws] (.bool (pK neg ws)):=by
 refine VP.has h ?_
 have hlen:sX false (.sl 1 (us ws))=some (.int .i64 ws.length):=by simp [sX,gj]
 have e:=Mc neg hw
 have d0:decide ((ag (val ws):Int)=(ws.length:Int))=decide (ag (val ws)=ws.length):=by congr 1;apply propext;omega
 have d1:decide ((0:Int)<(ws.length:Int))=decide (0<ws.length):=by congr 1;apply propext;omega
 rw [<- e]
 simp only [j1,SS,DD,Nat.reduceAdd,Ug,ao,LX]
 refine aj (ht ws hw hl) (by simp [Ci]) ?_
 simp only [SS,DD,Nat.reduceAdd,bg,ao,LX,hlen,d0]
 by_cases c:ag (val ws)=ws.length
 . have c1:decide (ag (val ws)=ws.length)=true:=aw c
   cases neg
   . simp only [SS,DD,Nat.reduceAdd,c1,ao,Uh,Bool.true_and,Bool.true_or]
     refine ⟨by simp [ab,apart], ?_⟩
     exact ak▸ae rfl (aa.bool _)
   . simp only [SS,DD,Nat.reduceAdd,c1,ao,Uh,LX,hlen,Bool.true_and,Bool.false_or,d1]
     refine ⟨by simp [ab,apart], ?_⟩
     exact ak▸ae rfl (aa.bool _)
 . have c1:decide (ag (val ws)=ws.length)=false:=ar c
   simp only [SS,DD,Nat.reduceAdd,c1,Bool.false_and]
   refine ⟨by simp [ab,apart], ?_⟩
   exact ak▸ae rfl (aa.bool _)
theorem J1 {f fi:FuncId} (h:Has P f (jb fi)) (a:Int) (hi:VP P G fi [.int .i64 a] (IV a)) (ho:VP P G fi [.int .i64 1] (IV 1)):VP P G f [.int .i64 a] (RV a 1):=by
 refine VP.has h ?_
 have e:(AV.agg [.bool (decide (a<0)),W a.natAbs, .bool (decide ((1:Int)<0)),W (1:Int).natAbs])=RV a 1:=rfl
 simp only [jb,SS,Nat.reduceAdd,cv]
 refine ah hi (by simp [aa.int]) ?_
 simp only [SS,Nat.reduceAdd]
 refine ah ho (by simp [aa.int]) ?_
 simp only [SS,Nat.reduceAdd,Ct,e,LS]
 refine ak▸ae (r:=RV a 1) ?_ (sQ _ _)
 simp only [RS,aY,a7,ao];rfl
theorem UE {f:FuncId} (h:Has P f lT) (z:Int):VP P G f [IV z] (.bool (decide (z=1))):=by
 refine VP.has h ?_
 have hl:ag z.natAbs=1->∃ w,digits z.natAbs=[w]:=fun h=>List.length_eq_one_iff.1 h
 have h11:ag 1=1:=by unfold ag;rw [iy (by decide),show 1/aE=0 from rfl,bx];rfl
 simp only [lT,SS,Nat.reduceAdd,gZ,ao,iD,bg]
 by_cases h1:ag z.natAbs=1
 . have d1:decide ((ag z.natAbs:Int)=1)=true:=aw (by omega)
   obtain ⟨w,hw⟩:=hl h1
   have hg:(digits z.natAbs)[0]? = some w:=by rw [hw];rfl
   have Xq:cn 1 (W z.natAbs) (.int .i64 0)=some (.ep (AV.int .u32 (w:Int)).cells 0):=iM (i:=0) rfl (xd hg)
   have hv:z.natAbs=w:=by have:=aU z.natAbs;rw [hw] at this;simp [val] at this;omega
   by_cases Wx:w=1
   . have d2:decide ((w:Int)=1)=true:=aw (by omega)
     have e:(!decide (z<0))=decide (z=1):=by
       by_cases hn:z<0
       . rw [aw hn,ar (by omega)];rfl
       . rw [ar hn,aw (by omega)];rfl
     simp only [SS,Nat.reduceAdd,d1,ao,jR,iD,Xq,aH,bl,d2,e]
     exact ak▸ae rfl (aa.bool _)
   . have d2:decide ((w:Int)=1)=false:=ar (by omega)
     have e:decide (z=1)=false:=ar (by omega)
     simp only [SS,Nat.reduceAdd,d1,ao,iD,Xq,aH,bl,d2,e]
     exact ak▸ae rfl (aa.bool _)
 . have d1:decide ((ag z.natAbs:Int)=1)=false:=ar (by omega)
   have e:decide (z=1)=false:=ar (by intro e;rw [e] at h1;exact h1 h11)
   simp only [SS,Nat.reduceAdd,d1,e]
   exact ak▸ae rfl (aa.bool _)
end
end Go.VL
end

section
namespace Go.VL
open Go.Lib
theorem nc {n:Nat} (h:n<10):decDigits n=[UInt8.ofNat (48+n)]:=decDigits_one h
theorem D1 {n:Nat} (h : ¬ n<10):decDigits n=decDigits (n/10)++[UInt8.ofNat (48+n%10)]:=by rw [decDigits,dif_neg h]
end Go.VL
end

section
namespace Go.Proofs
open Go.VL Go.RowKit
def Cw (ws:List Nat):List Int:=ws.map fun w:Nat=>(w:Int)
theorem Rz (ws:List Nat):(Cw ws).length=ws.length:=List.length_map ..
theorem RA (a b:Nat) (ha:a<18446744073709551616) (hb:b<18446744073709551616):bits BinOp.or IntKind.u64 (a:Int) (b:Int)=((a ||| b:Nat):Int):=by
 have h:=aaP a b ha hb
 rw [NH] at h
 simp only [Option.some.injEq,AV.int.injEq,true_and] at h
 rw [<- h];rfl
theorem Tryz.A9 (r a:Nat) (hr:r<aE) (ha:a<aE):Tryz.GH (r:Int) (a:Int)=((aE*r+a:Nat):Int):=by
 unfold Tryz.GH
 have h1:IntKind.u64.wrap ((r:Int)*4294967296)=((aE*r:Nat):Int):=by rw [IntKind.wrap_u64];unfold aE at *;omega
 rw [h1,bn a ha,RA _ _ (by unfold aE at *;omega) (by unfold aE at *;omega)]
 have:=Nat.two_pow_add_eq_or_of_lt (i:=32) (b:=a) (by unfold aE at ha;omega) r
 rw [show aE=2 ^ 32 from rfl,this]
theorem Tryz.toU_digits (n:Nat) (hn:n<18446744073709551616):Tryz.toU (Tryz.upto (Tryz.bw (Cw (digits n))) (Cw (digits n)).length)=(n:Int):=by
 have hw:=pI n hn
 have hd:=aX n
 have hv:=aU n
 unfold ag at hw
 generalize digits n=ds at hw hd hv
 match ds,hw,hd,hv with
 | [],_,_,hv=>subst hv;rfl
 | [a],_,hd,hv =>
   have ha:=hd a (by simp)
   have e:=Tryz.A9 0 a cV ha
   simp only [val,Nat.mul_zero,Nat.add_zero] at hv
   have:(n:Int)=((aE*0+a:Nat):Int):=by omega
   rw [this, <- e];rfl
 | [a,b],_,hd,hv =>
   have ha:=hd a (by simp)
   have hb:=hd b (by simp)
   have e1:=Tryz.A9 0 b cV hb
   rw [Nat.mul_zero,Nat.zero_add] at e1
   have e2:=Tryz.A9 b a hb ha
   simp only [val,Nat.mul_zero,Nat.add_zero] at hv
   have:(n:Int)=((aE*b+a:Nat):Int):=by omega
   rw [this, <- e2]
   show Tryz.GH (Tryz.GH 0 (b:Int)) (a:Int)=_
   have e3:Tryz.GH 0 (b:Int)=(b:Int):=e1
   rw [e3]
 | _::_::_::_,hw,_,_=>simp at hw
theorem Tryz.toUint_vp (G:Nat->Option (List AV)) (n:Nat) (hn:n<18446744073709551616):VP Tryz.prog G 289 [W n] (.int .u64 (n:Int)):=by
 refine VP.Xg (r:={ val := .int .u64 (n:Int) }) (aW.Tw Tryz.func289 (by kernel_rfl) (by kernel_rfl) ?_) (jx.int _ _)
 intro own E w σ vs _ hi hr
 simp only [bd] at hr
 obtain ⟨v,_,rfl,hv,rfl⟩:=hr
 have hus:us (digits n)=(Cw (digits n)).map (AV.int .u32):=by simp [us,Cw]
 have Bj:fT σ 1 (W n)=some ((Cw (digits n)).map (AV.int .u32),[]):=by rw [W,ky,hus]
 obtain ⟨a,cap,rfl,hle,vF⟩:=Tx hi hv Bj
 have hI:Tryz.Q9 w.heap.size w (.slice a (Cw (digits n)).length cap) (Cw (digits n)):=by
   rcases vF with h | ⟨b,o,rfl,hb,hc⟩
   . rw [h];exact .inl ⟨a,cap,rfl,rfl⟩
   . exact .inr ⟨b,o,cap,rfl,hb,hc⟩
 have hlen:(Cw (digits n)).length<=2:=by rw [Rz];exact pI n hn
 refine (callsIn_wide (n:=3)).1 ((Tryz.toUint_in Fence.wide 3 trivial trivial trivial rfl (by omega) a _ cap _ (by omega) w hI).mono ?_)
 rintro e W' ⟨rfl,hB⟩
 rw [Tryz.toU_digits n hn]
 exact ⟨_,rfl,hB,fun E w=>by simp only [aT]⟩
end Go.Proofs
end

section
set_option linter.unusedSimpArgs false
namespace Go.VL
def QV (q:Rat):AV:=RV q.num q.den
theorem ax (q:Rat):aa (QV q):=sQ _ _
def Sm (k:Nat) (q:Rat):Prop:=ag q.num.natAbs<=k/\ag q.den<=k
theorem Sm.mono {j k:Nat} {q:Rat} (h:Sm j q) (NU:j<=k):Sm k q:=⟨Nat.le_trans h.1 NU,Nat.le_trans h.2 NU⟩
theorem cf (a b:Int):ag (a*b).natAbs<=ag a.natAbs+ag b.natAbs:=by rw [Int.natAbs_mul];exact zg _ _
theorem Md (a b:Int):Int.gcd a b=Nat.gcd a.natAbs b.natAbs:=rfl
theorem G1 (a b:Int) (hb:b≠0):RV (a.fdiv (if b<0 then -((Nat.gcd a.natAbs b.natAbs:Nat):Int) else (Nat.gcd a.natAbs b.natAbs:Nat))) (b.fdiv (if b<0 then -((Nat.gcd a.natAbs b.natAbs:Nat):Int) else (Nat.gcd a.natAbs b.natAbs:Nat)))=QV ((a:Rat)/(b:Rat)):=by
 rw [<- Rat.divInt_eq_div]
 unfold QV
 rw [Rat.num_divInt,Rat.den_divInt,if_neg hb,Md,Nat.gcd_comm b.natAbs a.natAbs]
 have hg0:0<Nat.gcd a.natAbs b.natAbs:=Nat.gcd_pos_of_pos_right _ (by omega)
 obtain ⟨x,hx⟩:((Nat.gcd a.natAbs b.natAbs:Nat):Int) ∣ a:=Int.ofNat_dvd_left.2 (Nat.gcd_dvd_left _ _)
 obtain ⟨y,hy⟩:((Nat.gcd a.natAbs b.natAbs:Nat):Int) ∣ b:=Int.ofNat_dvd_left.2 (Nat.gcd_dvd_right _ _)
 generalize hg:Nat.gcd a.natAbs b.natAbs=g at *
 have hgz:(g:Int)≠0:=by omega
 have hba:b.natAbs/g=y.natAbs:=by
   rw [hy,Int.natAbs_mul,Int.natAbs_natCast,Nat.mul_div_cancel_left _ hg0]
 rw [hba]
 by_cases h:b<0
 . have Ui:y<0:=by
     rcases Int.lt_or_le y 0 with h1 | h1
     . exact h1
     . have:=Int.mul_nonneg (Int.natCast_nonneg g) h1;omega
   rw [if_pos h,Int.sign_eq_neg_one_of_neg h]
   have e1:a.fdiv (-(g:Int)) = -1*a/(g:Int):=by
     rw [hx,show -1*((g:Int)*x)=(g:Int)*(-x) from by rw [Int.mul_neg];omega,Int.mul_ediv_cancel_left _ hgz,show (g:Int)*x = -(g:Int)*(-x) from by rw [Int.neg_mul_neg]]
     exact Int.mul_fdiv_cancel_left _ (by omega)
   have e2:b.fdiv (-(g:Int))=(y.natAbs:Int):=by
     rw [show (y.natAbs:Int) = -y from by omega]
     conv=>lhs;rw [hy]
     rw [show (g:Int)*y = -(g:Int)*(-y) from by rw [Int.neg_mul_neg]]
     exact Int.mul_fdiv_cancel_left _ (by omega)
   rw [e1,e2]
 . have Ui:0<y:=by
     rcases Int.lt_or_le 0 y with h1 | h1
     . exact h1
     . have:=Int.mul_nonneg (Int.natCast_nonneg g) (show 0 <= -y by omega)
       rw [Int.mul_neg] at this;omega
   rw [if_neg h,Int.sign_eq_one_of_pos (by omega)]
   have e1:a.fdiv (g:Int)=1*a/(g:Int):=by
     rw [hx,Int.one_mul,Int.mul_ediv_cancel_left _ hgz]
     exact Int.mul_fdiv_cancel_left _ hgz
   have e2:b.fdiv (g:Int)=(y.natAbs:Int):=by
     rw [show (y.natAbs:Int)=y from by omega]
     conv=>lhs;rw [hy]
     exact Int.mul_fdiv_cancel_left _ hgz
   rw [e1,e2]
theorem ud (a b:Int):ag (Rat.divInt a b).num.natAbs<=ag a.natAbs:=by
 rw [Rat.num_divInt]
 refine bE ?_
 rcases Int.lt_trichotomy b 0 with h | h | h
 . rw [Int.sign_eq_neg_one_of_neg h]
   exact Nat.le_trans (Int.natAbs_ediv_le_natAbs _ _) (by omega)
 . subst h;simp
 . rw [Int.sign_eq_one_of_pos h]
   exact Nat.le_trans (Int.natAbs_ediv_le_natAbs _ _) (by omega)
theorem ue (a b:Int) (hb:b≠0):ag (Rat.divInt a b).den<=ag b.natAbs:=by
 rw [Rat.den_divInt,if_neg hb]
 exact bE (Nat.div_le_self _ _)
theorem ZL (a b:Rat):a+b=((a.num*b.den+b.num*a.den:Int):Rat)/((a.den*b.den:Int):Rat):=by
 rw [<- Rat.divInt_eq_div,Rat.add_def', <- Rat.divInt_ofNat];simp
theorem UF (a b:Rat):a*b=((a.num*b.num:Int):Rat)/((a.den*b.den:Int):Rat):=by
 rw [<- Rat.divInt_eq_div,Rat.mul_def', <- Rat.divInt_ofNat];simp
theorem aeo (a b:Rat):a/b=((a.num*b.den:Int):Rat)/((a.den*b.num:Int):Rat):=by
 rw [Rat.div_def,Rat.inv_def]
 conv=>lhs;lhs;rw [<- Rat.num_divInt_den a]
 rw [Rat.divInt_mul_divInt,Rat.divInt_eq_div]
theorem u4 (q:Rat):(0:Int)<q.den:=by have:=q.den_nz;omega
theorem NY (q:Rat):(q.den:Int)≠0:=by have:=u4 q;omega
theorem xl (a b:Rat):(a.den*b.den:Int)≠0:=Int.mul_ne_zero (NY a) (NY b)
theorem Sm.neg {k:Nat} {a:Rat} (h:Sm k a):Sm k (-a):=⟨by rw [Rat.neg_num,Int.natAbs_neg];exact h.1,h.2⟩
theorem qN {m n k:Nat} (hm:ag m<=k) (hn:ag n<=k):ag (m+n)<=k+1:=by
 refine fC ?_
 have h1:=Nat.lt_of_lt_of_le (cU m) (Nat.pow_le_pow_right cV hm)
 have h2:=Nat.lt_of_lt_of_le (cU n) (Nat.pow_le_pow_right cV hn)
 rw [Nat.pow_succ]
 have:2<=aE:=by decide
 have h3:aE ^ k*2<=aE ^ k*aE:=Nat.mul_le_mul_left _ this
 omega
theorem Sm.add {j k:Nat} {a b:Rat} (ha:Sm j a) (hb:Sm k b):Sm (j+k+1) (a+b):=by
 rw [ZL, <- Rat.divInt_eq_div]
 refine ⟨Nat.le_trans (ud _ _) ?_,Nat.le_trans (ue _ _ (xl a b)) ?_⟩
 . have h1:=cf a.num b.den
   have h2:=cf b.num a.den
   have h3:((b.den:Nat):Int).natAbs=b.den:=rfl
   have h4:((a.den:Nat):Int).natAbs=a.den:=rfl
   rw [h3] at h1;rw [h4] at h2
   have:=ha.1;have:=ha.2;have:=hb.1;have:=hb.2
   exact Nat.le_trans (bE (Int.natAbs_add_le _ _)) (qN (k:=j+k) (by omega) (by omega))
 . have h1:=cf a.den b.den
   have h3:((b.den:Nat):Int).natAbs=b.den:=rfl
   have h4:((a.den:Nat):Int).natAbs=a.den:=rfl
   rw [h3,h4] at h1
   have:=ha.2;have:=hb.2
   omega
theorem Sm.sub {j k:Nat} {a b:Rat} (ha:Sm j a) (hb:Sm k b):Sm (j+k+1) (a-b):=by rw [Rat.sub_eq_add_neg];exact ha.add hb.neg
theorem Sm.mul {j k:Nat} {a b:Rat} (ha:Sm j a) (hb:Sm k b):Sm (j+k) (a*b):=by
 rw [UF, <- Rat.divInt_eq_div]
 refine ⟨Nat.le_trans (ud _ _) ?_,Nat.le_trans (ue _ _ (xl a b)) ?_⟩
 . have h1:=cf a.num b.num
   have:=ha.1;have:=hb.1
   omega
 . have h1:=cf a.den b.den
   have h3:((b.den:Nat):Int).natAbs=b.den:=rfl
   have h4:((a.den:Nat):Int).natAbs=a.den:=rfl
   rw [h3,h4] at h1
   have:=ha.2;have:=hb.2
   omega
theorem Sm.inv {k:Nat} {a:Rat} (h:Sm k a) (hk:1<=k):Sm k a⁻¹ := by
 refine ⟨?_, ?_⟩
 . rw [Rat.num_inv,Int.natAbs_mul]
   refine Nat.le_trans (bE (n:=a.den) ?_) h.2
   have:a.num.sign.natAbs<=1:=by rcases rS a.num with ⟨h,_⟩ | ⟨h,_⟩ | ⟨h,_⟩<;>rw [h]<;>decide
   have h2:((a.den:Nat):Int).natAbs=a.den:=rfl
   rw [h2]
   exact Nat.le_trans (Nat.mul_le_mul_right _ this) (by omega)
 . rw [Rat.den_inv]
   split
   . exact Nat.le_trans u0 hk
   . exact h.1
theorem Sm.div {j k:Nat} {a b:Rat} (ha:Sm j a) (hb:Sm k b) (hk:1<=k):Sm (j+k) (a/b):=by rw [Rat.div_def];exact ha.mul (hb.inv hk)
theorem Sm.zero:Sm 1 0:=⟨by simp [ag,bx],u0⟩
theorem Sm.int {z:Int} {k:Nat} (h:ag z.natAbs<=k) (hk:1<=k):Sm k (z:Rat):=⟨h,Nat.le_trans u0 hk⟩
def df (q:Rat):Int:=q.num.sign
theorem G2 {q:Rat}:df q=0↔q=0:=by unfold df;rw [Int.sign_eq_zero_iff_zero,Rat.num_eq_zero]
def NZ (a b:Rat):Int:=jj (a.num*b.den) (b.num*a.den)
theorem RB {a b:Rat}:NZ a b=0↔a=b:=by
 rw [Rat.eq_iff_mul_eq_mul]
 unfold NZ
 rcases pJ (a.num*b.den) (b.num*a.den) with ⟨h1,h2⟩ | ⟨h1,h2⟩ | ⟨h1,h2⟩<;>rw [h1]<;>constructor<;>intro h<;>first | omega | rfl | (simp at h)
theorem RD {a b:Rat} (h:df a≠df b):NZ a b=if df a<df b then -1 else 1:=by
 have key:=I6 (y:=a.num*b.den) (z:=b.num*a.den) (by
   rw [Int.sign_mul,Int.sign_mul,Int.sign_eq_one_of_pos (u4 a),Int.sign_eq_one_of_pos (u4 b),Int.mul_one,Int.mul_one];exact h)
 unfold NZ
 rw [<- key,Int.sign_mul,Int.sign_mul,Int.sign_eq_one_of_pos (u4 a),Int.sign_eq_one_of_pos (u4 b),Int.mul_one,Int.mul_one]
 unfold df at h ⊢
 unfold jj
 split
 . rfl
 . rw [if_pos (by omega)]
end Go.VL
end

section
set_option linter.unusedVariables false
namespace Go.VL
structure xm where
 name:List UInt8
 kind:Int
 inputs:List (List UInt8)
 values:List AV
 ahB:Bool
def strs (l:List (List UInt8)):AV := .sl 1 (l.map .str)
def xm.av (f:xm):AV := .agg [.str f.name, .int .i64 f.kind,strs f.inputs, .sl 7 f.values, .bool f.ahB]
def u5 (v:AV):Prop:=∃ cs,v = .agg cs/\cs.length=7/\∀ c∈cs,aa c/\c.one=true
structure xm.Ok (f:xm):Prop where
 vals:∀ v∈f.values,u5 v
 ins:f.inputs.length<9223372036854775807
 vl:f.values.length<9223372036854775807
theorem u5.pure {v:AV} (h:u5 v):aa v:=by
 obtain ⟨cs,rfl,_,hc⟩:=h
 exact aa.agg fun c h=>(hc c h).1
theorem u5.part {v:AV} (h:u5 v):part true v.cells 0 7=some v:=by
 obtain ⟨cs,rfl,hl,_⟩:=h
 simp [VL.part,AV.cells,hl]
 rw [<- hl];exact List.take_length
theorem Me:∀ l:List (List UInt8),flat (l.map .str)=l.map .str
 | []=>rfl
 | s::l=>by have:=Me l;simp only [List.map_cons,flat,List.flatMap_cons,AV.cells] at this ⊢;rw [this];rfl
theorem aR (l:List (List UInt8)):aa (strs l):=aa.sl (by rw [Me];intro c hc;simp at hc;obtain ⟨s,_,rfl⟩:=hc;exact aa.str s)
theorem RE {l:List AV} (h:∀ v∈l,u5 v):aa (.sl 7 l):=aa.sl (by
 intro c hc
 simp only [flat,List.mem_flatMap] at hc
 obtain ⟨v,hv,hc⟩:=hc
 obtain ⟨cs,rfl,_,hcs⟩:=h v hv
 exact (hcs c hc).1)
theorem xm.Ok.pure {f:xm} (h:f.Ok):aa f.av:=aa.agg (by
 intro c hc
 simp only [List.mem_cons,List.not_mem_nil,or_false] at hc
 rcases hc with rfl | rfl | rfl | rfl | rfl
 . exact aa.str _
 . exact aa.int _ _
 . exact aR _
 . exact RE h.vals
 . exact aa.bool _)
theorem xm.one (f:xm):(f.av.cells.all AV.one=true)=True:=by simp [xm.av,AV.cells,AV.one,strs]
theorem xm.p0 (f:xm):part false f.av.cells 0 1=some (.str f.name):=rfl
theorem xm.p1 (f:xm):part false f.av.cells 1 1=some (.int .i64 f.kind):=rfl
theorem xm.p2 (f:xm):part false f.av.cells 2 1=some (strs f.inputs):=rfl
theorem xm.p3 (f:xm):part false f.av.cells 3 1=some (.sl 7 f.values):=rfl
theorem xm.size (f:xm):f.av.size=5:=rfl
section
variable {P:Program} {G:Nat->Option (List AV)}
end
end Go.VL
end

section
set_option linter.unusedVariables false
set_option linter.unusedVariables false
namespace Go.VL
def u6 (s:List UInt8):Nat:=match s with
 | []=>0
 | c::_=>if dG c=true then fL dt s else 0
section
variable {P:Program} {G:Nat->Option (List AV)}
theorem XK {f fl fd:FuncId} (h:Has P f (fH fl fd)) (hl:∀ c,VP P G fl [kz c] (.bool (dG c))) (hd:∀ c,VP P G fd [kz c] (.bool (oO c)))
   (s:List UInt8) (hs:s.length<9223372036854775807):VP P G f [.str s, .int .i64 0] (.int .i64 ((u6 s:Nat):Int)):=by
 cases s with
 | nil =>
   refine VP.has h ?_
   have z0:decide ((0:Int)=((0:Nat):Int))=true:=rfl
   have e:u6 []=0:=rfl
   rw [e]
   simp only [fH,SS,Nat.reduceAdd,z0]
   exact ak▸ae rfl (aa.int _ _)
 | cons c0 s0 =>
   generalize hs0:c0::s0=s at hs ⊢
   have hlen:0<s.length:=by rw [<- hs0];simp
   have d0:decide ((0:Int)=(s.length:Int))=false:=ar (by omega)
   have WO:s[0]? = some c0:=by rw [<- hs0];rfl
   have O0:=iL (k:=0) WO
   simp only [Int.natCast_zero] at O0
   cases XL:dG c0
   . have Ku:=hl c0
     rw [XL] at Ku
     have e:u6 s=0:=by rw [<- hs0];simp [u6,XL]
     rw [e]
     refine VP.has h ?_
     simp only [fH,SS,Nat.reduceAdd,d0,O0]
     refine ah Ku (by simp [ek]) ?_
     simp only [SS,Nat.reduceAdd]
     exact ak▸ae rfl (aa.int _ _)
   have Ku:=hl c0
   rw [XL] at Ku
   have e:u6 s=fL dt s:=by rw [<- hs0];simp [u6,XL]
   rw [e]
   refine VP.has h ?_
   simp only [fH,SS,Nat.reduceAdd,d0,O0]
   refine ah Ku (by simp [ek]) ?_
   simp only [SS,Nat.reduceAdd,aK]
   refine VW.dQ (α := Nat × Nat) (fun x=>⟨[.str s, .int .i64 (x.1:Int), .top, .top, .top]++List.replicate 37 .top,fun _=>none,x.2⟩) (fun x=>x.1<=fL dt s) (fun x=>fL dt s-x.1) (0,1000) ?_ (Nat.zero_le _) ?_
   . exact Wk.slots (by simp [Fg,List.replicate]) (by omega)
   rintro ⟨k,n⟩ hk
   simp only [] at hk
   have TY:=GJ dt s
   by_cases hlt:k<s.length
   . obtain ⟨c,hc⟩:∃ c,s[k]? = some c:=⟨_,List.getElem?_eq_getElem hlt⟩
     have d1:decide ((k:Int)<(s.length:Int))=true:=aw (by omega)
     have Kt:=hl c
     have Nb:=hd c
     have hwd:dt c=(dG c||oO c||decide ((c.toNat:Int)=95)):=rfl
     have p9:dt c=true->k<fL dt s:=fun hw=>by
       rcases Nat.lt_or_ge k (fL dt s) with q | q
       . exact q
       . have Wy:k=fL dt s:=by omega
         rcases A1 dt s with h0 | ⟨c',hc',Xi⟩
         . rw [<- Wy,hc] at h0;cases h0
         . rw [<- Wy,hc] at hc';cases hc';rw [hw] at Xi;cases Xi
     have ahC:dt c=false->k=fL dt s:=fun hw=>by
       rcases Nat.lt_or_ge k (fL dt s) with q | q
       . obtain ⟨c',hc',Xi⟩:=GK dt s k q
         rw [hc] at hc';cases hc';rw [hw] at Xi;cases Xi
       . omega
     have hby:(kz c) = .int .u8 (c.toNat:Int):=rfl
     cases b1:dG c
     . rw [b1] at Kt hwd
       cases b2:oO c
       . rw [b2] at Nb hwd
         cases b3:decide ((c.toNat:Int)=95)
         . rw [b3] at hwd
           have Wy:=ahC hwd
           simp only [SS,Nat.reduceAdd,d1,iL hc]
           refine ah Kt (by simp [ek]) ?_
           simp only [SS,Nat.reduceAdd,iL hc]
           refine ah Nb (by simp [ek]) ?_
           simp only [SS,Nat.reduceAdd,iL hc,hby,b3]
           rw [<- Wy]
           exact ak▸ae rfl (aa.int _ _)
         . rw [b3] at hwd
           have TY:=p9 hwd
           simp only [SS,Nat.reduceAdd,d1,iL hc]
           refine ah Kt (by simp [ek]) ?_
           simp only [SS,Nat.reduceAdd,iL hc]
           refine ah Nb (by simp [ek]) ?_
           simp only [SS,Nat.reduceAdd,iL hc,hby,b3,aI k (by omega)]
           exact ⟨(k+1,_),by simp only [];omega,by simp only [];omega,Wk.slots (by simp [Fg]) (Nat.le_refl _)⟩
       . rw [b2] at Nb hwd
         have TY:=p9 hwd
         simp only [SS,Nat.reduceAdd,d1,iL hc]
         refine ah Kt (by simp [ek]) ?_
         simp only [SS,Nat.reduceAdd,iL hc]
         refine ah Nb (by simp [ek]) ?_
         simp only [SS,Nat.reduceAdd,aI k (by omega)]
         exact ⟨(k+1,_),by simp only [];omega,by simp only [];omega,Wk.slots (by simp [Fg]) (Nat.le_refl _)⟩
     . rw [b1] at Kt hwd
       have TY:=p9 hwd
       simp only [SS,Nat.reduceAdd,d1,iL hc]
       refine ah Kt (by simp [ek]) ?_
       simp only [SS,Nat.reduceAdd,aI k (by omega)]
       exact ⟨(k+1,_),by simp only [];omega,by simp only [];omega,Wk.slots (by simp [Fg]) (Nat.le_refl _)⟩
   . have d1:decide ((k:Int)<(s.length:Int))=false:=ar (by omega)
     have Wy:k=fL dt s:=by omega
     rw [<- Wy]
     simp only [SS,Nat.reduceAdd,d1]
     exact ak▸ae rfl (aa.int _ _)
theorem N0 {f fw:FuncId} (h:Has P f (eI fw)) (hw:∀ s:List UInt8,s.length<9223372036854775807->VP P G fw [.str s, .int .i64 0] (.int .i64 ((u6 s:Nat):Int))) (s:List UInt8) :
   VP P G f [.str s] (.bool (eA s)):=by
 cases s with
 | nil =>
   refine VP.has h ?_
   simp only [eI,SS,Nat.reduceAdd]
   exact ak▸ae rfl (aa.bool _)
 | cons c s =>
   have e0:(!((c::s)==([]:List UInt8)))=true:=rfl
   by_cases h1:(((s.length+1:Nat)):Int)<=24
   . refine VP.has h ?_
     simp only [eI,SS,Nat.reduceAdd,e0,h1,decide_true]
     refine ah (hw (c::s) (by simp only [List.length_cons];omega)) (by simp [aa.str,aa.int]) ?_
     by_cases h3:u6 (c::s)=s.length+1
     . have h4:(u6 (c::s):Int)=((s.length+1:Nat):Int):=by omega
       have:eA (c::s)=true:=by
         have hv:eA (c::s)=(decide ((c::s).length<=24)&&dG c&&decide (fL dt (c::s)=(c::s).length)):=rfl
         have hwv:u6 (c::s)=if dG c=true then fL dt (c::s) else 0:=rfl
         rw [hwv] at h3
         rw [hv]
         cases h2:dG c
         . rw [h2] at h3;simp at h3
         . rw [h2,if_pos rfl] at h3
           have g1:decide ((c::s).length<=24)=true:=aw (by rw [List.length_cons];omega)
           have g2:decide (fL dt (c::s)=(c::s).length)=true:=aw (by rw [List.length_cons];omega)
           rw [g1,g2];rfl
       rw [this]
       simp only [SS,Nat.reduceAdd,h4,decide_true]
       exact ak▸ae rfl (aa.bool _)
     . have h4 : ¬ (u6 (c::s):Int)=((s.length+1:Nat):Int):=by omega
       have:eA (c::s)=false:=by
         have hv:eA (c::s)=(decide ((c::s).length<=24)&&dG c&&decide (fL dt (c::s)=(c::s).length)):=rfl
         have hwv:u6 (c::s)=if dG c=true then fL dt (c::s) else 0:=rfl
         rw [hwv] at h3
         rw [hv]
         cases h2:dG c
         . rw [Bool.and_false,Bool.false_and]
         . rw [h2,if_pos rfl] at h3
           have g2:decide (fL dt (c::s)=(c::s).length)=false:=ar (by rw [List.length_cons];omega)
           rw [g2,Bool.and_false]
       rw [this]
       simp only [SS,Nat.reduceAdd,h4,decide_false]
       exact ak▸ae rfl (aa.bool _)
   . refine VP.has h ?_
     have:eA (c::s)=false:=by unfold eA;simp only [List.length_cons];simp;intro h;omega
     rw [this]
     simp only [eI,SS,Nat.reduceAdd,e0,h1,decide_false]
     exact ak▸ae rfl (aa.bool _)
end
end Go.VL
end

section
set_option linter.unusedVariables false
set_option linter.unusedVariables false
namespace Go.VL
theorem gH (l:List (List UInt8)):sX false (strs l)=some (.int .i64 l.length):=by simp [strs,sX]
section
variable {P:Program} {G:Nat->Option (List AV)}
end
end Go.VL
end

section
set_option linter.unusedVariables false
set_option linter.unusedVariables false
namespace Go.VL
section
variable {P:Program} {G:Nat->Option (List AV)}
theorem ai {σ : af} {id:Id} {k kk:Nat} {z v:AV} (h : σ id=some ⟨[z],kk,false⟩) (hz:z.size=k) (hv:v.cells.length=k) (h1:v.cells.all AV.one=true) (hu:z.upd 0 v.cells=v) :
   fy σ k (.ref id 0 0) v=some { val := .tup [],rd:=[id],up:=[(id,some ⟨[v],kk,false⟩)] }:=by
 rw [eO (n:=k) (v:=v) h rfl (by rw [hv]) (by rw [hz];omega) h1]
 simp [hu]
end
end Go.VL
end

section
namespace Go.VL
section
variable {P:Program} {G:Nat->Option (List AV)} {π : Id} {Q:bX->VS->Prop} {s:VS} {x:cg}
theorem VW.aA (n:Nat) (h:VW P G π x (Then (bW P G π x Q n) Q) s):VW P G π (.loop x) Q s:=VW.rounds (n+1) h
theorem bW.next (n:Nat) (h:VW P G π x (Then (bW P G π x Q n) Q) s):bW P G π x Q (n+1) s:=h
end
theorem ZZ:(decide ((0:Int)<0)=false)/\(decide ((0:Int)<1)=true)/\(decide ((1:Int)<1)=false)/\(decide ((0:Int)<2)=true)/\(decide ((1:Int)<2)=true)/\(decide ((2:Int)<2)=false)/\(IntKind.i64.wrap ((0:Int)+1)=1)/\(IntKind.i64.wrap ((1:Int)+1)=2)/\(decide ((0:Int)=0)=true)/\(decide ((1:Int)=1)=true)/\(decide ((0:Int)≠0)=false)/\(decide ((1:Int)=0)=false)/\(decide ((0:Int)<=0)=true)/\(decide ((1:Int)≠1)=false)/\(decide ((2:Int)≠2)=false)/\(decide ((1:Int)≠0)=true)/\(decide ((1:Int)<=1)=true)/\(decide ((1:Int)<=0)=false)/\(decide ((0:Int)<=1)=true)/\(decide ((2:Int)=2)=true):=by decide +kernel
theorem CC:(((0:Nat):Int)=0)/\(((1:Nat):Int)=1)/\(((2:Nat):Int)=2):=⟨rfl,rfl,rfl⟩
theorem g0 {α : Type} {a : α} {l:List α}:(a::l)[0]? = some a:=rfl
theorem g1 {α : Type} {a b : α} {l:List α}:(a::b::l)[1]? = some b:=rfl
theorem g2 {α : Type} {a b c : α} {l:List α}:(a::b::c::l)[2]? = some c:=rfl
theorem Cx {σ : af} {id:Id} {x v y:AV} {k o:Nat} (h : σ id=some ⟨[x],k,false⟩) (hv:v.cells=[v]) (h1:v.one=true) (ho:o+1<=x.size) (hu:x.upd o [v]=y) :
   fy σ 1 (.ref id 0 o) v=some { val := .tup [],rd:=[id],up:=[(id,some ⟨[y],k,false⟩)] }:=by
 rw [eO (n:=1) (v:=v) (els:=[x]) (el:=x) (k:=k) h rfl (by rw [hv];rfl) ho (by rw [hv];simpa using h1),hv,hu]
 rfl
theorem J2 {id:Id} {els:List AV} {k:Nat} {b:Bool}:Di [(id,⟨els,k,b⟩)]=[(id,some ⟨els,k,true⟩)]:=rfl
theorem bT {f:FuncId}:aa (.fn (.func f) [] []):=aa.fn (by simp) (by simp)
theorem Mf {k:Nat} {e:AV} {es:List AV}:cn k (.sl k (e::es)) (.int .i64 0)=some (.ep e.cells 0):=by simp [cn]
theorem RF {k:Nat} {d e:AV} {es:List AV}:cn k (.sl k (d::e::es)) (.int .i64 1)=some (.ep e.cells 0):=by simp [cn]
theorem ahE {k:Nat} {id:Id} {n:Nat} {t:Bool}:cn k (.osl id k 0 (n+1) t) (.int .i64 0)=some (.ref id 0 0):=by
 simp only [cn];rw [if_pos ⟨trivial,by omega,by omega⟩];rfl
theorem Mg {k:Nat} {id:Id} {t:Bool}:cn k (.osl id k 0 1 t) (.int .i64 0)=some (.ref id 0 0):=ahE
theorem aep {p:Id} {k bytes:Nat} {z:AV} (hb:bytes<=140737488355328) (hz:z.size=k) (h1:z.cells.all AV.one=true):jm p k bytes z (.int .i64 1) (.int .i64 1)=some { val := .osl p k 0 1 false,up:=[(p,some ⟨[z],k,false⟩)] }:=by
 simp only [jm]
 rw [if_pos ⟨by decide,by decide,by omega,by decide,hz,h1⟩]
 rfl
theorem J3 {p:Id}:jm p 4 64 (.agg [.bool false, .nils, .bool false, .nils]) (.int .i64 1) (.int .i64 1)=some { val := .osl p 4 0 1 false,up:=[(p,some ⟨[.agg [.bool false, .nils, .bool false, .nils]],4,false⟩)] }:=aep (by decide) rfl rfl
theorem Ja:bM .shl .int (.int .i64 1) (.int .i64 0)=some (.int .i64 1):=rfl
theorem Er {k:Nat}:gP k .nils none (some (.int .i64 0)) none=some .nils:=rfl
theorem zl {σ : af} {p id:Id} {k bytes:Nat} {e:AV} {b t:Bool} (h : σ id=some ⟨[e],k,b⟩) (hb:bytes<=140737488355328) (h1:e.cells.all AV.one=true) :
   eh σ p k bytes .nils (.osl id k 0 1 t)=some { val := .osl p k 0 1 false,rd:=[id],up:=[(p,some ⟨[e],k,false⟩)] } :=
 Ch (ys:=[e]) (by rw [jW h rfl (by simp)];rfl) (by simp) (by simpa using hb) (eN (by simp)) (by simpa using h1)
theorem UG {σ : af} {p id D9:Id} {k bytes:Nat} {d e:AV} {b t:Bool} (h : σ id=some ⟨[e],k,b⟩) (h2 : σ D9=some ⟨[d],k,false⟩) (hb:2*bytes<=140737488355328) (h1:e.cells.all AV.one=true) (h3:d.cells.all AV.one=true) :
   eh σ p k bytes (.osl D9 k 0 1 false) (.osl id k 0 1 t)=some { val := .osl p k 0 2 false,rd:=[D9,id],up:=[(D9,none),(p,some ⟨[d,e],k,false⟩)] }:=by
 have:=oJ (σ := σ) (p:=p) (id:=D9) (k:=k) (bytes:=bytes) (len:=1) (x := .osl id k 0 1 t) (els:=[d]) (ys:=[e]) (rd:=[id]) (by rw [jW h rfl (by simp)];rfl) (by simp) h2 rfl (by simpa using hb) (eN (by simp)) (by simpa using h1) (by simpa using h3)
 exact this
theorem J4 {σ : af} {id:Id} {k:Nat} {e:AV} {b t:Bool} (h : σ id=some ⟨[e],k,b⟩) (hs:e.size=k) (hp:∀ c∈e.cells,aa c):View σ (.osl id k 0 1 t) (.sl k [e]):=by
 refine View.osl (bk:=⟨[e],k,b⟩) h rfl (by simp) ?_ (by simp) (by simpa using hs)
 simpa [flat] using aF.pure hp
theorem UH {σ : af} {id:Id} {k:Nat} {d e:AV} {b t:Bool} (h : σ id=some ⟨[d,e],k,b⟩) (hd:d.size=k) (hs:e.size=k) (hq:∀ c∈d.cells,aa c) (hp:∀ c∈e.cells,aa c):View σ (.osl id k 0 2 t) (.sl k [d,e]):=by
 refine View.osl (bk:=⟨[d,e],k,b⟩) h rfl (by simp) ?_ (by simp) (by simp [hd,hs])
 have:aF σ (flat [d,e]) (flat [d,e]):=aF.pure (by intro c hc;simp [flat] at hc;rcases hc with h | h;exact hq c h;exact hp c h)
 simpa using this
end Go.VL
end

section
set_option linter.unusedVariables false
set_option linter.unusedVariables false
namespace Go.VL
theorem xH (q:Rat):part true (QV q).cells 0 2=some (IV q.num):=rfl
theorem xI (q:Rat):part true (QV q).cells 2 2=some (IV q.den):=rfl
theorem cy (q:Rat):part true (QV q).cells 0 4=some (QV q):=rfl
theorem ey (q:Rat):((QV q).cells.all AV.one=true)=True:=NL _ _
theorem J5 (q:Rat):(QV q).size=4:=rfl
theorem aP:aa .nils:=aa.nils
theorem xn (z:Int) (d:Int):iN [.bool false, .nils, .bool false, .nils] [(0,(2,IV z)),(2,(2,IV d))]=some [.bool (decide (z<0)),W z.natAbs, .bool (decide (d<0)),W d.natAbs]:=rfl
theorem G3 {z d:Int} {q:Rat} (h1:q.num=z) (h2:(q.den:Int)=d):AV.agg [.bool (decide (z<0)),W z.natAbs, .bool (decide (d<0)),W d.natAbs]=QV q:=by subst h1;subst h2;rfl
def Mh (P:Program) (G:Nat->Option (List AV)) (f:FuncId):Prop:=∀ a b:Int,ag a.natAbs<=400000->ag b.natAbs<=400000->VP P G f [IV a,IV b] (IV (a+b))
def Es (P:Program) (G:Nat->Option (List AV)) (f:FuncId):Prop:=∀ a b:Int,ag a.natAbs<=400000->ag b.natAbs<=400000->VP P G f [IV a,IV b] (IV (a*b))
def P5 (P:Program) (G:Nat->Option (List AV)) (f:FuncId):Prop:=∀ a:Int,ag a.natAbs<=400000->VP P G f [IV a] (IV (-a))
def J6 (P:Program) (G:Nat->Option (List AV)) (f:FuncId):Prop:=∀ a:Int,ag a.natAbs<=400000->VP P G f [IV a] (.int .i64 a.sign)
def ZM (P:Program) (G:Nat->Option (List AV)) (f:FuncId):Prop:=∀ a b:Int,ag a.natAbs<=400000->ag b.natAbs<=400000->VP P G f [IV a,IV b] (.int .i64 (jj a b))
def G4 (P:Program) (G:Nat->Option (List AV)) (f:FuncId):Prop:=∀ z:Int,VP P G f [IV z] (.bool (decide (z=1)))
def XM (P:Program) (G:Nat->Option (List AV)) (f:FuncId):Prop:=∀ a b:Int,b≠0->ag a.natAbs<=400001->ag b.natAbs<=400000->VP P G f [IV a,IV b] (QV ((a:Rat)/(b:Rat)))
def P6 (P:Program) (G:Nat->Option (List AV)) (f:FuncId):Prop:=∀ a b:Rat,Sm 100000 a->Sm 100000 b->VP P G f [QV a,QV b] (QV (a+b))
def P7 (P:Program) (G:Nat->Option (List AV)) (f:FuncId):Prop:=∀ a b:Rat,Sm 100000 a->Sm 100000 b->VP P G f [QV a,QV b] (QV (a*b))
def P8 (P:Program) (G:Nat->Option (List AV)) (f:FuncId):Prop:=∀ a:Rat,Sm 100000 a->VP P G f [QV a] (QV (-a))
def N3 (P:Program) (G:Nat->Option (List AV)) (f:FuncId):Prop:=∀ a:Rat,Sm 100000 a->VP P G f [QV a] (.int .i64 (df a))
def ZN (P:Program) (G:Nat->Option (List AV)) (f:FuncId):Prop:=∀ a b:Rat,Sm 100000 a->Sm 100000 b->VP P G f [QV a,QV b] (.int .i64 (NZ a b))
def ZO (P:Program) (G:Nat->Option (List AV)) (f:FuncId):Prop:=∀ a b:Rat,b≠0->Sm 100000 a->Sm 100000 b->VP P G f [QV a,QV b] (.tup [QV (a/b), .int .i64 0])
def Fj (P:Program) (G:Nat->Option (List AV)) (f:FuncId):Prop:=∀ a:Rat,Sm 100000 a->VP P G f [QV a] (.bool true)
def ZP (P:Program) (G:Nat->Option (List AV)) (f:FuncId):Prop:=∀ a:Int, -9223372036854775808<=a->a<9223372036854775808->VP P G f [.int .i64 a] (QV (a:Rat))
theorem dH (n:Nat):ag ((n:Nat):Int).natAbs=ag n:=rfl
theorem zK {q:Rat} (h:(q.den:Int)=1):q=(q.num:Rat):=Rat.ext rfl (by rw [Rat.den_intCast];omega)
section
variable {P:Program} {G:Nat->Option (List AV)}
theorem XN {f ft fp fs fc fm:FuncId} (h:Has P f (m4 ft fp fs fc fm)) (ht:iT P G ft)
   (hp:∀ m n,ag m<=1000000->ag n<=1000000->VP P G fp [W m,W n] (W (m+n))) (hs:iW P G fs) (hc:∀ m n,ag m<=1000000->ag n<=1000000->VP P G fc [W m,W n] (.int .i64 (fP m n)))
   (hm:∀ m n,n<=m->ag m<=1000000->VP P G fm [W m,W n] (W (m-n))):Mh P G f:=fun a b ha hb=>by
 have hta:=oQ ht a.natAbs (by omega)
 have htb:=oQ ht b.natAbs (by omega)
 have hpv:=hp a.natAbs b.natAbs (by omega) (by omega)
 have hcv:=hc a.natAbs b.natAbs (by omega) (by omega)
 have hwl:ag (a.natAbs+b.natAbs)<=400001:=qN ha hb
 refine VP.has h ?_
 by_cases Nc:decide (a<0)=decide (b<0)
 . have d0:(decide (a<0)==decide (b<0))=true:=by rw [Nc];exact beq_self_eq_true _
   have P4:=hs (decide (a<0)) (a.natAbs+b.natAbs) (by omega)
   rw [Mb Nc] at P4
   simp only [m4]
   repeat (first
     | simp (disch:=first | decide | exact rfl) only [SS,DD,Nat.reduceAdd,aq,ao,gZ,b9,jR,iD,d0]
     | with_reducible refine ah (by assumption) (by simp [ay,aa.bool]) ?_
     | with_reducible refine aj (by assumption) (by simp [ay,aa.bool]) ?_
     | with_reducible refine And.intro (a:=ab _ _) (by simp [ab,apart]) ?_
     | with_reducible refine VW.aA 3 (VW.of ?_)
     | with_reducible refine bW.next _ (VW.of ?_)
     | rw [ai (by exact rfl) (by exact rfl) (by exact rfl) (by exact rfl) (by exact rfl)]
     | rw [bQ (by exact rfl) (by exact rfl) (by exact rfl) (by exact rfl)]
     | rw [bR (by exact rfl) (by exact rfl) (by exact rfl) (by exact rfl) (by exact rfl) (by exact rfl)]
     | fail)
   refine ak▸ae (r:=IV (a+b)) ?_ (au _)
   simp only [RS,aY,a7,ao,c9]
 . have d0:(decide (a<0)==decide (b<0))=false:=by simpa using Nc
   by_cases KN:b.natAbs<=a.natAbs
   . have d1:decide (fP a.natAbs b.natAbs<0)=false:=ar (by simp only [fP,jj];rw [if_neg (by omega)];split<;>decide)
     have HX:=hm a.natAbs b.natAbs KN (by omega)
     have P4:=hs (decide (a<0)) (a.natAbs-b.natAbs) (by have:=bE (Nat.sub_le a.natAbs b.natAbs);omega)
     rw [Cv Nc KN] at P4
     simp only [m4]
     repeat (first
       | simp (disch:=first | decide | exact rfl) only [SS,DD,Nat.reduceAdd,aq,ao,gZ,b9,jR,iD,d0,d1]
       | with_reducible refine ah (by assumption) (by simp [ay,aa.bool]) ?_
       | with_reducible refine aj (by assumption) (by simp [ay,aa.bool]) ?_
       | with_reducible refine And.intro (a:=ab _ _) (by simp [ab,apart]) ?_
       | with_reducible refine VW.aA 3 (VW.of ?_)
       | with_reducible refine bW.next _ (VW.of ?_)
       | rw [ai (by exact rfl) (by exact rfl) (by exact rfl) (by exact rfl) (by exact rfl)]
       | rw [bQ (by exact rfl) (by exact rfl) (by exact rfl) (by exact rfl)]
       | rw [bR (by exact rfl) (by exact rfl) (by exact rfl) (by exact rfl) (by exact rfl) (by exact rfl)]
       | fail)
     refine ak▸ae (r:=IV (a+b)) ?_ (au _)
     simp only [RS,aY,a7,ao,c9]
   . have d1:decide (fP a.natAbs b.natAbs<0)=true:=aw (by simp only [fP,jj];rw [if_pos (by omega)];decide)
     have HX:=hm b.natAbs a.natAbs (by omega) (by omega)
     have P4:=hs (decide (b<0)) (b.natAbs-a.natAbs) (by have:=bE (Nat.sub_le b.natAbs a.natAbs);omega)
     rw [Cv (fun e=>Nc e.symm) (by omega),Int.add_comm] at P4
     simp only [m4]
     repeat (first
       | simp (disch:=first | decide | exact rfl) only [SS,DD,Nat.reduceAdd,aq,ao,gZ,b9,jR,iD,d0,d1]
       | with_reducible refine ah (by assumption) (by simp [ay,aa.bool]) ?_
       | with_reducible refine aj (by assumption) (by simp [ay,aa.bool]) ?_
       | with_reducible refine And.intro (a:=ab _ _) (by simp [ab,apart]) ?_
       | with_reducible refine VW.aA 3 (VW.of ?_)
       | with_reducible refine bW.next _ (VW.of ?_)
       | rw [ai (by exact rfl) (by exact rfl) (by exact rfl) (by exact rfl) (by exact rfl)]
       | rw [bQ (by exact rfl) (by exact rfl) (by exact rfl) (by exact rfl)]
       | rw [bR (by exact rfl) (by exact rfl) (by exact rfl) (by exact rfl) (by exact rfl) (by exact rfl)]
       | fail)
     refine ak▸ae (r:=IV (a+b)) ?_ (au _)
     simp only [RS,aY,a7,ao,c9]
theorem XO {f fn:FuncId} (h:Has P f (rf fn)) (hn:P5 P G fn):P8 P G f:=fun q hq=>by
 have h1:=hn q.num (by have:=hq.1;omega)
 refine VP.has h ?_
 simp only [rf]
 repeat (first
   | simp (disch:=first | decide | exact rfl) only [SS,DD,Nat.reduceAdd,aq,ao,ey,cv,xH,xI,xn,G3 (z := -q.num) (d:=q.den) (q := -q) rfl rfl]
   | with_reducible refine ah (by assumption) (by simp [au]) ?_
   | with_reducible refine aj (by assumption) (by simp [au]) ?_
   | with_reducible refine And.intro (a:=ab _ _) (by simp [ab,apart]) ?_
   | with_reducible refine VW.aA 3 (VW.of ?_)
   | with_reducible refine bW.next _ (VW.of ?_)
   | rw [ai (by exact rfl) (by exact rfl) (by exact rfl) (by exact rfl) (by exact rfl)]
   | rw [bQ (by exact rfl) (by exact rfl) (by exact rfl) (by exact rfl)]
   | rw [bR (by exact rfl) (by exact rfl) (by exact rfl) (by exact rfl) (by exact rfl) (by exact rfl)]
   | fail)
 refine ak▸ae (r:=QV (-q)) ?_ (ax _)
 simp only [RS,aY,a7,ao,cy]
theorem XP {f fs fm fc:FuncId} (h:Has P f (rb fs fm fc)) (hs:N3 P G fs) (hm:Es P G fm) (hc:ZM P G fc):ZN P G f:=fun a b ha hb=>by
 have h1:=hs a ha
 have h2:=hs b hb
 have w1:=cf a.num b.den
 have w2:=cf b.num a.den
 rw [dH] at w1 w2
 have ha1:=ha.1
 have ha2:=ha.2
 have ye:=hb.1
 have C1:=hb.2
 have h3:=hm a.num b.den (by omega) (by rw [dH];omega)
 have h4:=hm b.num a.den (by omega) (by rw [dH];omega)
 have h5:=hc (a.num*b.den) (b.num*a.den) (by omega) (by omega)
 refine VP.has h ?_
 simp only [rb]
 by_cases hq:df a=df b
 . have d0:decide (df a≠df b)=false:=ar (by omega)
   repeat (first
     | simp (disch:=first | decide | exact rfl) only [SS,DD,Nat.reduceAdd,aq,ao,ey,xH,xI,cy,d0]
     | with_reducible refine ah (by assumption) (by simp [au]) ?_
     | with_reducible refine aj (by assumption) (by simp [au,ax]) ?_
     | with_reducible refine And.intro (a:=ab _ _) (by simp [ab,apart]) ?_
     | with_reducible refine VW.aA 3 (VW.of ?_)
     | with_reducible refine bW.next _ (VW.of ?_)
     | rw [ai (by exact rfl) (by exact rfl) (by exact rfl) (by exact rfl) (by exact rfl)]
     | rw [bQ (by exact rfl) (by exact rfl) (by exact rfl) (by exact rfl)]
     | rw [bR (by exact rfl) (by exact rfl) (by exact rfl) (by exact rfl) (by exact rfl) (by exact rfl)]
     | fail)
   exact ak▸ae rfl (aa.int _ _)
 . have d0:decide (df a≠df b)=true:=aw (by omega)
   rw [RD hq]
   by_cases hl:df a<df b
   . have d1:decide (df a<df b)=true:=aw hl
     rw [if_pos hl]
     repeat (first
       | simp (disch:=first | decide | exact rfl) only [SS,DD,Nat.reduceAdd,aq,ao,ey,cy,d0,d1]
       | with_reducible refine ah (by assumption) (by simp [au]) ?_
       | with_reducible refine aj (by assumption) (by simp [au,ax]) ?_
       | with_reducible refine And.intro (a:=ab _ _) (by simp [ab,apart]) ?_
       | with_reducible refine VW.aA 3 (VW.of ?_)
       | with_reducible refine bW.next _ (VW.of ?_)
       | rw [ai (by exact rfl) (by exact rfl) (by exact rfl) (by exact rfl) (by exact rfl)]
       | rw [bQ (by exact rfl) (by exact rfl) (by exact rfl) (by exact rfl)]
       | rw [bR (by exact rfl) (by exact rfl) (by exact rfl) (by exact rfl) (by exact rfl) (by exact rfl)]
       | fail)
     exact ak▸ae rfl (aa.int _ _)
   . have d1:decide (df a<df b)=false:=ar hl
     rw [if_neg hl]
     repeat (first
       | simp (disch:=first | decide | exact rfl) only [SS,DD,Nat.reduceAdd,aq,ao,ey,cy,d0,d1]
       | with_reducible refine ah (by assumption) (by simp [au]) ?_
       | with_reducible refine aj (by assumption) (by simp [au,ax]) ?_
       | with_reducible refine And.intro (a:=ab _ _) (by simp [ab,apart]) ?_
       | with_reducible refine VW.aA 3 (VW.of ?_)
       | with_reducible refine bW.next _ (VW.of ?_)
       | rw [ai (by exact rfl) (by exact rfl) (by exact rfl) (by exact rfl) (by exact rfl)]
       | rw [bQ (by exact rfl) (by exact rfl) (by exact rfl) (by exact rfl)]
       | rw [bR (by exact rfl) (by exact rfl) (by exact rfl) (by exact rfl) (by exact rfl) (by exact rfl)]
       | fail)
     exact ak▸ae rfl (aa.int _ _)
theorem XQ {f fi fa fo fm fl:FuncId} (h:Has P f (re fi fa fo fm fl)) (hi:G4 P G fi) (hA:Mh P G fa) (ho:VP P G fo [] (IV 1)) (hm:Es P G fm) (hl:XM P G fl):P6 P G f:=fun a b ha hb=>by
 have i1:=hi a.den
 have i2:=hi b.den
 have w1:=cf a.num b.den
 have w2:=cf b.num a.den
 have w3:=cf a.den b.den
 rw [dH] at w1 w2 w3
 rw [dH] at w3
 have ha1:=ha.1
 have ha2:=ha.2
 have ye:=hb.1
 have C1:=hb.2
 have m1:=hm a.num b.den (by omega) (by rw [dH];omega)
 have m2:=hm b.num a.den (by omega) (by rw [dH];omega)
 have m3:=hm a.den b.den (by rw [dH];omega) (by rw [dH];omega)
 have s1:=hA (a.num*b.den) (b.num*a.den) (by omega) (by omega)
 have Ac:ag (a.num*b.den+b.num*a.den).natAbs<=400001:=Nat.le_trans (bE (Int.natAbs_add_le _ _)) (qN (k:=400000) (by omega) (by omega))
 have l1:=hl (a.num*b.den+b.num*a.den) (a.den*b.den) (xl a b) Ac (by omega)
 rw [<- ZL] at l1
 have s2:=hA a.num b.num (by omega) (by omega)
 refine VP.has h ?_
 simp only [re]
 by_cases hda:(a.den:Int)=1
 . have d1:decide ((a.den:Int)=1)=true:=aw hda
   by_cases hdb:(b.den:Int)=1
   . have d2:decide ((b.den:Int)=1)=true:=aw hdb
     have hq:a+b=((a.num+b.num:Int):Rat):=by rw [Rat.intCast_add, <- zK hda, <- zK hdb]
     repeat (first
       | simp (disch:=first | decide | exact rfl) only [SS,Nat.reduceAdd,aq,ao,ey,cv,xH,xI,d1,d2,xn]
       | with_reducible refine ah (by assumption) (by simp [au]) ?_
       | with_reducible refine aj (by assumption) (by simp [au]) ?_
       | with_reducible refine And.intro (a:=ab _ _) (by simp [ab,apart]) ?_
       | with_reducible refine VW.aA 3 (VW.of ?_)
       | with_reducible refine bW.next _ (VW.of ?_)
       | rw [ai (by exact rfl) (by exact rfl) (by exact rfl) (by exact rfl) (by exact rfl)]
       | rw [bQ (by exact rfl) (by exact rfl) (by exact rfl) (by exact rfl)]
       | rw [bR (by exact rfl) (by exact rfl) (by exact rfl) (by exact rfl) (by exact rfl) (by exact rfl)]
       | fail)
     refine ak▸ae (r:=QV (a+b)) ?_ (ax _)
     simp only [RS,aY,a7,ao]
     rw [hq];rfl
   . have d2:decide ((b.den:Int)=1)=false:=ar hdb
     repeat (first
       | simp (disch:=first | decide | exact rfl) only [SS,DD,Nat.reduceAdd,aq,ao,ey,cv,b9,c9,xH,xI,d1,d2]
       | with_reducible refine ah (by assumption) (by simp [au]) ?_
       | with_reducible refine aj (by assumption) (by simp [au]) ?_
       | with_reducible refine And.intro (a:=ab _ _) (by simp [ab,apart]) ?_
       | with_reducible refine VW.aA 3 (VW.of ?_)
       | with_reducible refine bW.next _ (VW.of ?_)
       | rw [ai (by exact rfl) (by exact rfl) (by exact rfl) (by exact rfl) (by exact rfl)]
       | rw [bQ (by exact rfl) (by exact rfl) (by exact rfl) (by exact rfl)]
       | rw [bR (by exact rfl) (by exact rfl) (by exact rfl) (by exact rfl) (by exact rfl) (by exact rfl)]
       | fail)
     refine ak▸ae (r:=QV (a+b)) ?_ (ax _)
     simp only [RS,aY,a7,ao,cy]
 . have d1:decide ((a.den:Int)=1)=false:=ar hda
   repeat (first
     | simp (disch:=first | decide | exact rfl) only [SS,DD,Nat.reduceAdd,aq,ao,ey,cv,b9,c9,xH,xI,d1]
     | with_reducible refine ah (by assumption) (by simp [au]) ?_
     | with_reducible refine aj (by assumption) (by simp [au]) ?_
     | with_reducible refine And.intro (a:=ab _ _) (by simp [ab,apart]) ?_
     | with_reducible refine VW.aA 3 (VW.of ?_)
     | with_reducible refine bW.next _ (VW.of ?_)
     | rw [ai (by exact rfl) (by exact rfl) (by exact rfl) (by exact rfl) (by exact rfl)]
     | rw [bQ (by exact rfl) (by exact rfl) (by exact rfl) (by exact rfl)]
     | rw [bR (by exact rfl) (by exact rfl) (by exact rfl) (by exact rfl) (by exact rfl) (by exact rfl)]
     | fail)
   refine ak▸ae (r:=QV (a+b)) ?_ (ax _)
   simp only [RS,aY,a7,ao,cy]
theorem RG {f:FuncId} (h:Has P f ot) (z:Int):VP P G f [IV z] (.bool (decide (z=0))):=by
 have e:decide ((ag z.natAbs:Int)=0)=decide (z=0):=by
   have:=cG (n:=z.natAbs)
   congr 1;apply propext;omega
 refine VP.has h ?_
 simp only [ot]
 repeat (first
   | simp (disch:=first | decide | exact rfl) only [SS,Nat.reduceAdd,ao,gZ,iD,bg,e]
   | with_reducible refine ah (by assumption) (by simp [au,ay,ax,aa.int,aa.bool,aa.str,aP]) ?_
   | with_reducible refine aj (by assumption) (by simp [au,ay,ax,aa.int,aa.bool,aa.str,aP]) ?_
   | with_reducible refine And.intro (a:=ab _ _) (by simp [ab,apart]) ?_
   | with_reducible refine VW.aA 3 (VW.of ?_)
   | with_reducible refine bW.next _ (VW.of ?_)
   | rw [ai (by exact rfl) (by exact rfl) (by exact rfl) (by exact rfl) (by exact rfl)]
   | rw [bQ (by exact rfl) (by exact rfl) (by exact rfl) (by exact rfl)]
   | rw [bR (by exact rfl) (by exact rfl) (by exact rfl) (by exact rfl) (by exact rfl) (by exact rfl)]
   | fail)
 exact ak▸ae rfl (aa.bool _)
theorem XR {f fz fm fl:FuncId} (h:Has P f (rh fz fm fl)) (hz:∀ z:Int,VP P G fz [IV z] (.bool (decide (z=0)))) (hm:Es P G fm) (hl:XM P G fl):ZO P G f:=fun a b HW ha hb=>by
 have ZE:b.num≠0:=fun e=>HW (Rat.num_eq_zero.1 e)
 have i1:=hz b.num
 have d1:decide (b.num=0)=false:=ar ZE
 rw [d1] at i1
 have w1:=cf a.num b.den
 have w2:=cf a.den b.num
 rw [dH] at w1 w2
 have ha1:=ha.1
 have ha2:=ha.2
 have ye:=hb.1
 have C1:=hb.2
 have m1:=hm a.num b.den (by omega) (by rw [dH];omega)
 have m2:=hm a.den b.num (by rw [dH];omega) (by omega)
 have l1:=hl (a.num*b.den) (a.den*b.num) (Int.mul_ne_zero (NY a) ZE) (by omega) (by omega)
 rw [<- aeo] at l1
 refine VP.has h ?_
 simp only [rh]
 repeat (first
   | simp (disch:=first | decide | exact rfl) only [SS,DD,Nat.reduceAdd,aq,ao,ey,cv,xH,xI]
   | with_reducible refine ah (by assumption) (by simp [au]) ?_
   | with_reducible refine aj (by assumption) (by simp [au]) ?_
   | with_reducible refine And.intro (a:=ab _ _) (by simp [ab,apart]) ?_
   | with_reducible refine VW.aA 3 (VW.of ?_)
   | with_reducible refine bW.next _ (VW.of ?_)
   | rw [ai (by exact rfl) (by exact rfl) (by exact rfl) (by exact rfl) (by exact rfl)]
   | rw [bQ (by exact rfl) (by exact rfl) (by exact rfl) (by exact rfl)]
   | rw [bR (by exact rfl) (by exact rfl) (by exact rfl) (by exact rfl) (by exact rfl) (by exact rfl)]
   | fail)
 refine ak▸ae (r := .tup [QV (a/b), .int .i64 0]) ?_ (aa.tup (by simp [ax,aa.int]))
 simp only [RS,aY,a7,ao,cy]
end
end Go.VL
end

section
set_option linter.unusedVariables false
set_option linter.unusedVariables false
namespace Go.VL
theorem aeq (a:Int) (b:Nat) (hb:b≠0):QV ((a:Rat)/((b:Int):Rat))=RV (a/(Nat.gcd a.natAbs b:Nat)) ((b:Int)/(Nat.gcd a.natAbs b:Nat)):=by
 have h:=G1 a b (by omega)
 rw [if_neg (by omega),Int.natAbs_natCast,Int.fdiv_eq_ediv_of_nonneg _ (Int.natCast_nonneg _),Int.fdiv_eq_ediv_of_nonneg _ (Int.natCast_nonneg _)] at h
 exact h.symm
theorem XS (a b:Rat):(a+b).num=(a.num*((b.den/Nat.gcd a.den b.den:Nat):Int)+b.num*((a.den/Nat.gcd a.den b.den:Nat):Int))/(Nat.gcd (a.num*((b.den/Nat.gcd a.den b.den:Nat):Int)+b.num*((a.den/Nat.gcd a.den b.den:Nat):Int)).natAbs (Nat.gcd a.den b.den):Nat) /\
   (a+b).den=a.den/Nat.gcd a.den b.den*(b.den/Nat.gcd (a.num*((b.den/Nat.gcd a.den b.den:Nat):Int)+b.num*((a.den/Nat.gcd a.den b.den:Nat):Int)).natAbs (Nat.gcd a.den b.den)):=by
 show (Rat.add a b).num=_/\(Rat.add a b).den=_
 unfold Rat.add
 dsimp only
 split
 . rename_i h
   simp [h]
 . unfold Rat.maybeNormalize
   have hd:∀ x:Nat,Nat.gcd x (Nat.gcd a.den b.den) ∣ b.den:=fun x=>Nat.dvd_trans (Nat.gcd_dvd_right _ _) (Nat.gcd_dvd_right _ _)
   split
   . rename_i h
     have e:∀ (N:Int) (k x y:Nat),k=1->N=N/(k:Int)/\x*y=x*(y/k):=by
       intro N k x y hk;subst hk;simp
     exact e _ _ _ _ h
   . refine ⟨rfl, ?_⟩
     exact Nat.mul_div_assoc _ (hd _)
theorem XT (a b:Rat):(a*b).num=a.num/(Nat.gcd a.num.natAbs b.den:Nat)*(b.num/(Nat.gcd b.num.natAbs a.den:Nat))/\(a*b).den=a.den/Nat.gcd b.num.natAbs a.den*(b.den/Nat.gcd a.num.natAbs b.den):=by
 show (Rat.mul a b).num=_/\(Rat.mul a b).den=_
 unfold Rat.mul
 simp
def UI (P:Program) (G:Nat->Option (List AV)) (f:FuncId):Prop:=∀ z:Int,ag z.natAbs<=1000000->VP P G f [IV z] (IV z)
def Jb (P:Program) (G:Nat->Option (List AV)) (f:FuncId):Prop:=∀ a b:Int,ag a.natAbs<=400001->ag b.natAbs<=400000->VP P G f [IV a,IV b] (IV (Nat.gcd a.natAbs b.natAbs:Nat))
def P9 (P:Program) (G:Nat->Option (List AV)) (f:FuncId):Prop:=∀ a b:Int,0<b->b ∣ a->ag a.natAbs<=400001->ag b.natAbs<=400000->VP P G f [IV a,IV b] (IV (a/b))
section
variable {P:Program} {G:Nat->Option (List AV)}
theorem UJ {f fn fd fs fm fsu fsg ffi fa:FuncId} (h:Has P f (jC fn fd fs fm fsu fsg ffi fa)) (hn:UI P G fn) (hd:∀ m n,n≠0->ag m<=900000->ag n<=900000->VP P G fd [W m,W n] (.tup [W (m/n),W (m%n)])) (hs:iW P G fs)
   (hm:∀ a b:Int,ag a.natAbs<=1000000->ag b.natAbs<=1000000->VP P G fm [IV a,IV b] (IV (a*b))) (hsu:∀ a b:Int,ag a.natAbs<=1000000->ag b.natAbs<=1000000->VP P G fsu [IV a,IV b] (IV (a-b)))
   (LR:∀ z:Int,ag z.natAbs<=1000000->VP P G fsg [IV z] (.int .i64 z.sign)) (a b:Int) (HW:0<b) (hba:b ∣ a) (ha:ag a.natAbs<=900000) (hb:ag b.natAbs<=900000) :
   VP P G f [IV a,IV b] (.tup [IV (a/b),IV 0, .int .i64 0]):=by
 have h1:=hn a (by omega)
 have h2:=hn b (by omega)
 have h3:=hd a.natAbs b.natAbs (by omega) ha hb
 have e:a.natAbs/b.natAbs=(a/b).natAbs:=by
   obtain ⟨c,rfl⟩:=hba
   rw [Int.mul_ediv_cancel_left _ (by omega),Int.natAbs_mul,Nat.mul_div_cancel_left _ (by omega)]
 have hw:ag (a/b).natAbs<=900000:=by rw [<- e];exact Nat.le_trans (bE (Nat.div_le_self _ _)) ha
 have h4:=hs (decide (a<0)) (a.natAbs/b.natAbs) (by rw [e];omega)
 have e4:xe (decide (a<0)) (a.natAbs/b.natAbs)=a/b:=by
   obtain ⟨c,rfl⟩:=hba
   rw [Int.mul_ediv_cancel_left _ (by omega),Int.natAbs_mul,Nat.mul_div_cancel_left _ (by omega)]
   have:decide (b*c<0)=decide (c<0):=by
     congr 1;apply propext
     constructor
     . intro h;rcases Int.lt_or_le c 0 with h1 | h1
       . exact h1
       . have:=Int.mul_nonneg (Int.le_of_lt HW) h1;omega
     . intro h;exact Int.mul_neg_of_pos_of_neg HW h
   rw [this,Cs]
 rw [e4] at h4
 have h5:=hm (a/b) b (by omega) (by omega)
 rw [Int.ediv_mul_cancel hba] at h5
 have h6:=hsu a a (by omega) (by omega)
 rw [Int.sub_self] at h6
 have h7:VP P G fsg [IV 0] (.int .i64 0):=LR 0 (by simp [ag,bx])
 have h8:=LR b (by omega)
 rw [Int.sign_eq_one_of_pos HW] at h8
 have SP:ag b.natAbs≠0:=fun e=>by have:=cG.1 e;omega
 have d0:decide ((ag b.natAbs:Int)=0)=false:=ar (by omega)
 have d1:(!(decide (a<0)==decide (b<0)))=decide (a<0):=by rw [ar (show ¬ b<0 by omega)];cases decide (a<0)<;>rfl
 have w0:IntKind.i64.wrap ((0:Int)*1)=0:=by decide
 refine VP.has h ?_
 simp only [jC]
 repeat (first
   | simp (disch:=first | decide | exact rfl) only [SS,DD,Nat.reduceAdd,aq,ao,ZZ,g0,g1,gZ,b9,jR,iD,c9,bg,d0,d1,w0]
   | with_reducible refine ah (by assumption) (by simp [au,ay,aa.bool]) ?_
   | with_reducible refine aj (by assumption) (by simp [au]) ?_
   | with_reducible refine And.intro (a:=ab _ _) (by simp [ab,apart]) ?_
   | with_reducible refine VW.aA 3 (VW.of ?_)
   | with_reducible refine bW.next _ (VW.of ?_)
   | rw [ai (by exact rfl) (by exact rfl) (by exact rfl) (by exact rfl) (by exact rfl)]
   | rw [bQ (by exact rfl) (by exact rfl) (by exact rfl) (by exact rfl)]
   | rw [bR (by exact rfl) (by exact rfl) (by exact rfl) (by exact rfl) (by exact rfl) (by exact rfl)]
   | fail)
 refine ak▸ae (r := .tup [IV (a/b),IV 0, .int .i64 0]) ?_ (aa.tup (by simp [au,aa.int]))
 simp (disch:=decide) only [RS,aY,a7,aq,ao,c9]
theorem UK {f fd:FuncId} (h:Has P f (lS fd)) (a b:Int) (hd:VP P G fd [IV a,IV b] (.tup [IV (a/b),IV 0, .int .i64 0])):VP P G f [IV a,IV b] (IV (a/b)):=by
 refine VP.has h ?_
 simp only [lS]
 repeat (first
   | simp (disch:=first | decide | exact rfl) only [SS,Nat.reduceAdd,aq,ao,g0,g1,g2,gZ,b9,c9]
   | with_reducible refine ah (by assumption) (by simp [au]) ?_
   | with_reducible refine aj (by assumption) (by simp [au]) ?_
   | with_reducible refine And.intro (a:=ab _ _) (by simp [ab,apart]) ?_
   | with_reducible refine VW.aA 3 (VW.of ?_)
   | with_reducible refine bW.next _ (VW.of ?_)
   | rw [ai (by exact rfl) (by exact rfl) (by exact rfl) (by exact rfl) (by exact rfl)]
   | rw [bQ (by exact rfl) (by exact rfl) (by exact rfl) (by exact rfl)]
   | rw [bR (by exact rfl) (by exact rfl) (by exact rfl) (by exact rfl) (by exact rfl) (by exact rfl)]
   | fail)
 refine ak▸ae (r:=IV (a/b)) ?_ (au _)
 simp (disch:=decide) only [RS,aY,a7,ao,c9]
theorem UL {f fn:FuncId} (h:Has P f (l4 fn)) (hn:P5 P G fn):P8 P G f:=fun q hq=>by
 have h1:=hn q.num (by have:=hq.1;omega)
 refine VP.has h ?_
 simp only [l4]
 repeat (first
   | simp (disch:=first | decide | exact rfl) only [SS,DD,Nat.reduceAdd,aq,ao,ey,cv,xH,xI,xn,G3 (z := -q.num) (d:=q.den) (q := -q) rfl rfl]
   | with_reducible refine ah (by assumption) (by simp [au]) ?_
   | with_reducible refine aj (by assumption) (by simp [au]) ?_
   | with_reducible refine And.intro (a:=ab _ _) (by simp [ab,apart]) ?_
   | with_reducible refine VW.aA 3 (VW.of ?_)
   | with_reducible refine bW.next _ (VW.of ?_)
   | rw [ai (by exact rfl) (by exact rfl) (by exact rfl) (by exact rfl) (by exact rfl)]
   | rw [bQ (by exact rfl) (by exact rfl) (by exact rfl) (by exact rfl)]
   | rw [bR (by exact rfl) (by exact rfl) (by exact rfl) (by exact rfl) (by exact rfl) (by exact rfl)]
   | fail)
 refine ak▸ae (r:=QV (-q)) ?_ (ax _)
 simp only [RS,aY,a7,ao,cy]
theorem RH {f fg fs fn fq:FuncId} (h:Has P f (kS fg fs fn fq)) (hg:Jb P G fg) (hs:J6 P G fs) (hq:P9 P G fq) (a:Int) (b:Nat) (HW:b≠0) (ha:ag a.natAbs<=400000) (hb:ag b<=400000):VP P G f [IV a,IV b] (QV ((a:Rat)/((b:Int):Rat))):=by
 have h1:=hg a b (by omega) hb
 rw [Int.natAbs_natCast] at h1
 have h2:=hs b hb
 rw [Int.sign_eq_one_of_pos (by omega)] at h2
 have hgp:0<Nat.gcd a.natAbs b:=Nat.gcd_pos_of_pos_right _ (by omega)
 have hgl:ag (((Nat.gcd a.natAbs b:Nat):Int)).natAbs<=400000:=Nat.le_trans (bE (Nat.le_of_dvd (by omega) (Nat.gcd_dvd_right _ _))) hb
 have h3:=hq a (Nat.gcd a.natAbs b:Nat) (by omega) (Int.ofNat_dvd_left.2 (Nat.gcd_dvd_left _ _)) (by omega) hgl
 have h4:=hq b (Nat.gcd a.natAbs b:Nat) (by omega) (Int.ofNat_dvd_left.2 (by rw [Int.natAbs_natCast];exact Nat.gcd_dvd_right _ _)) (by rw [dH];omega) hgl
 have e:=aeq a b HW
 have e2:AV.agg [.bool (decide (a/(Nat.gcd a.natAbs b:Nat)<0)),W (a/(Nat.gcd a.natAbs b:Nat)).natAbs, .bool (decide ((b:Int)/(Nat.gcd a.natAbs b:Nat)<0)),W ((b:Int)/(Nat.gcd a.natAbs b:Nat)).natAbs]=QV ((a:Rat)/((b:Int):Rat)):=e.symm
 have d0:decide ((1:Int)<0)=false:=rfl
 refine VP.has h ?_
 simp only [kS]
 repeat (first
   | simp (disch:=first | decide | exact rfl) only [SS,DD,Nat.reduceAdd,aq,ao,gZ,b9,cv,c9,xn,e2,d0]
   | with_reducible refine ah (by assumption) (by simp [au]) ?_
   | with_reducible refine aj (by assumption) (by simp [au]) ?_
   | with_reducible refine And.intro (a:=ab _ _) (by simp [ab,apart]) ?_
   | with_reducible refine VW.aA 3 (VW.of ?_)
   | with_reducible refine bW.next _ (VW.of ?_)
   | rw [ai (by exact rfl) (by exact rfl) (by exact rfl) (by exact rfl) (by exact rfl)]
   | rw [bQ (by exact rfl) (by exact rfl) (by exact rfl) (by exact rfl)]
   | rw [bR (by exact rfl) (by exact rfl) (by exact rfl) (by exact rfl) (by exact rfl) (by exact rfl)]
   | fail)
 refine ak▸ae (r:=QV ((a:Rat)/((b:Int):Rat))) ?_ (ax _)
 simp (disch:=decide) only [RS,aY,a7,ao,cy]
theorem RI {f fi fI fm:FuncId} (h:Has P f (kT fi fI fm)) (a:Int) (b:Nat) (HW:b≠0) (h1:VP P G fI [.int .i64 a] (IV a)) (h2:VP P G fI [.int .i64 (b:Int)] (IV (b:Int))) (hm:VP P G fm [IV a,IV b] (QV ((a:Rat)/((b:Int):Rat)))):VP P G f [.int .i64 a, .int .i64 (b:Int)] (QV ((a:Rat)/((b:Int):Rat))):=by
 have d0:decide ((b:Int)=0)=false:=ar (by omega)
 refine VP.has h ?_
 simp only [kT]
 repeat (first
   | simp (disch:=first | decide | exact rfl) only [SS,Nat.reduceAdd,cv,d0]
   | with_reducible refine ah (by assumption) (by simp [au,aa.int]) ?_
   | with_reducible refine aj (by assumption) (by simp [au]) ?_
   | with_reducible refine And.intro (a:=ab _ _) (by simp [ab,apart]) ?_
   | with_reducible refine VW.aA 3 (VW.of ?_)
   | with_reducible refine bW.next _ (VW.of ?_)
   | rw [ai (by exact rfl) (by exact rfl) (by exact rfl) (by exact rfl) (by exact rfl)]
   | rw [bQ (by exact rfl) (by exact rfl) (by exact rfl) (by exact rfl)]
   | rw [bR (by exact rfl) (by exact rfl) (by exact rfl) (by exact rfl) (by exact rfl) (by exact rfl)]
   | fail)
 refine ak▸ae (r:=QV ((a:Rat)/((b:Int):Rat))) ?_ (ax _)
 simp (disch:=decide) only [RS,aY,a7,ao,cy]
end
end Go.VL
end

section
set_option linter.unusedVariables false
set_option linter.unusedVariables false
namespace Go.VL
def EV (q:Rat):AV := .sl 4 [QV q]
theorem Cy (q:Rat):∀ c∈(QV q).cells,aa c:=by
 intro c hc
 simp only [QV,RV,AV.cells,List.mem_cons,List.not_mem_nil,or_false] at hc
 rcases hc with rfl | rfl | rfl | rfl
 . exact aa.bool _
 . exact ay _
 . exact aa.bool _
 . exact ay _
theorem az (q:Rat):aa (EV q):=aa.sl (by intro c hc;simp only [flat,List.flatMap_cons,List.flatMap_nil,List.append_nil] at hc;exact Cy q c hc)
theorem uf (q:Rat):sX false (EV q)=some (.int .i64 1):=rfl
theorem u7 (q:Rat):cn 4 (EV q) (.int .i64 0)=some (.ep (QV q).cells 0):=Mf
theorem qv {σ : af} {id:Id} {q:Rat} {b t:Bool} (h : σ id=some ⟨[QV q],4,b⟩):View σ (.osl id 4 0 1 t) (EV q):=J4 h rfl (Cy q)
section
variable {P:Program} {G:Nat->Option (List AV)}
theorem mY {f fw:FuncId} (h:Has P f cY) {a c:List AV} {es:List AV} (hk:∀ e∈es,part true e.cells 0 4=some e) {p:AV->Bool} (hw:∀ e∈es,VP P G fw (a++[e]++c) (.bool (p e)))
   (hp:∀ e∈es,aa e) (ha:∀ x∈a,aa x) (hc:∀ x∈c,aa x) (hl:es.length<9223372036854775807):VP P G f [.sl 4 es, .fn (.func fw) a c] (.int .i64 (Ab (es.findIdx? p))):=by
 refine VP.has h ?_
 simp only [cY,SS,Nat.reduceAdd,aK]
 refine VW.dQ (α := Nat × Nat) (fun x=>⟨[.sl 4 es, .fn (.func fw) a c, .top, .top, .top, .top, .top, .int .i64 es.length, .int .i64 x.1]++List.replicate 10 .top,fun _=>none,x.2⟩) (fun x=>x.1<=es.length/\∀ (j:Nat) e,j<x.1->es[j]? = some e->p e=false) (fun x=>es.length-x.1) (0,4) ?_ ⟨Nat.zero_le _,fun j e hj=>absurd hj (Nat.not_lt_zero j)⟩ ?_
 . exact Wk.slots (by simp [Fg,List.replicate]) (Nat.le_refl _)
 rintro ⟨i,n⟩ ⟨hi,hn⟩
 simp only [] at hi hn
 simp only [SS]
 by_cases hlt:i<es.length
 . have h1:(i:Int)<(es.length:Int):=by omega
   obtain ⟨e,he⟩:∃ e,es[i]? = some e:=⟨es[i],by simp [hlt]⟩
   have hm:=List.mem_of_getElem? he
   simp only [SS,Nat.reduceAdd,h1,decide_true,iM rfl he,aH,hk e hm]
   refine ah (hw e hm) (by
     intro x hx
     simp only [List.mem_append,List.mem_singleton] at hx
     rcases hx with (hx | rfl) | hx
     . exact ha x hx
     . exact hp _ hm
     . exact hc x hx) ?_
   cases hpe:p e
   . simp only [SS,Nat.reduceAdd,aI i (by omega)]
     refine ⟨(i+1,_),⟨by simp only [];omega, ?_⟩,by simp only [];omega,Wk.slots (by simp [Fg]) (Nat.le_refl _)⟩
     intro j e' hj KA
     by_cases TZ:j<i
     . exact hn j e' TZ KA
     . have:j=i:=by simp only [] at hj;omega
       subst this;rw [he] at KA;simp only [Option.some.injEq] at KA;subst KA;exact hpe
   . simp only [SS,Nat.reduceAdd]
     rw [qM he hpe hn]
     exact ak▸ae rfl (aa.int _ _)
 . have h1 : ¬ (i:Int)<(es.length:Int):=by omega
   simp only [SS,h1,decide_false]
   rw [qL (fun j e hj=>hn j e (by have:=(List.getElem?_eq_some_iff.1 hj).1;omega) hj)]
   exact ak▸ae rfl (aa.int _ _)
theorem lC {f fi fw:FuncId} (h:Has P f (cE fi)) {a c:List AV} {es:List AV} {p:AV->Bool} (hi:VP P G fi [.sl 4 es, .fn (.func fw) a c] (.int .i64 (Ab (es.findIdx? p))))
   (hp:aa (.sl 4 es)) (Ik:aa (.fn (.func fw) a c)):VP P G f [.sl 4 es, .fn (.func fw) a c] (.bool (es.any p)):=by
 refine VP.has h ?_
 simp only [cE,SS,Nat.reduceAdd]
 refine ah hi (by intro x hx;simp at hx;rcases hx with rfl | rfl<;>assumption) ?_
 simp only [SS,Nat.reduceAdd]
 have e:decide (0<=Ab (es.findIdx? p))=es.any p:=by
   rw [<- List.findIdx?_isSome]
   cases es.findIdx? p<;>simp [Ab]
 rw [e]
 exact ak▸ae rfl (aa.bool _)
theorem Mi {f fv:FuncId} (h:Has P f (lA fv)) (q:Rat) (hv:VP P G fv [QV q] (.bool true)):VP P G f [QV q] (.bool false):=by
 refine VP.has h ?_
 simp only [lA]
 repeat (first
   | simp (disch:=first | decide | exact rfl) only [SS,Nat.reduceAdd,ao,ey,cy]
   | with_reducible refine ah (by assumption) (by simp [ax]) ?_
   | with_reducible refine aj (by assumption) (by simp [ax]) ?_
   | with_reducible refine And.intro (a:=ab _ _) (by simp [ab,apart]) ?_
   | with_reducible refine VW.aA 3 (VW.of ?_)
   | with_reducible refine bW.next _ (VW.of ?_)
   | rw [ai (by exact rfl) (by exact rfl) (by exact rfl) (by exact rfl) (by exact rfl)]
   | rw [bQ (by exact rfl) (by exact rfl) (by exact rfl) (by exact rfl)]
   | rw [bR (by exact rfl) (by exact rfl) (by exact rfl) (by exact rfl) (by exact rfl) (by exact rfl)]
   | fail)
 exact ak▸ae rfl (aa.bool _)
theorem N4 {f fc fi f1 fv:FuncId} (h:Has P f (qe fc f1)) (hc:Has P fc (cE fi)) (hi:Has P fi cY) (h1:Has P f1 (lA fv)) (hv:Fj P G fv)
   (q:Rat) (hq:Sm 100000 q):VP P G f [EV q, .int .i64 1] (.bool true):=by
 have k1:=mY (G:=G) hi (fw:=f1) (a:=[]) (c:=[]) (es:=[QV q]) (p:=fun _=>false) (by simp [cy]) (by simpa using Mi h1 q (hv q hq)) (by simp [ax]) (by simp) (by simp) (by simp)
 have k2:=lC hc k1 (az q) bT
 have e:(([QV q]:List AV).any fun _=>false)=false:=rfl
 rw [e] at k2
 have k3:VP P G fc [EV q, .fn (.func f1) [] []] (.bool false):=k2
 have d1:decide ((1:Int)=1)=true:=rfl
 refine VP.has h ?_
 simp only [qe]
 repeat (first
   | simp (disch:=first | decide | exact rfl) only [SS,Nat.reduceAdd,decide_true,uf]
   | with_reducible refine ah (by assumption) (by simp [az,bT]) ?_
   | with_reducible refine aj (by assumption) (by simp [az,bT]) ?_
   | with_reducible refine And.intro (a:=ab _ _) (by simp [ab,apart]) ?_
   | with_reducible refine VW.aA 3 (VW.of ?_)
   | with_reducible refine bW.next _ (VW.of ?_)
   | rw [ai (by exact rfl) (by exact rfl) (by exact rfl) (by exact rfl) (by exact rfl)]
   | rw [bQ (by exact rfl) (by exact rfl) (by exact rfl) (by exact rfl)]
   | rw [bR (by exact rfl) (by exact rfl) (by exact rfl) (by exact rfl) (by exact rfl) (by exact rfl)]
   | fail)
 exact ak▸ae rfl (aa.bool _)
theorem J7 {f fn:FuncId} (h:Has P f (ou fn)):VP P G f [.nils] (.bool true):=by
 refine VP.has h ?_
 simp only [ou]
 repeat (first
   | simp (disch:=first | decide | exact rfl) only [SS,Nat.reduceAdd,aK,ZZ,ZZ]
   | with_reducible refine ah (by assumption) (by simp [au,ay,ax,aa.int,aa.bool,aa.str,aP,az,bT]) ?_
   | with_reducible refine aj (by assumption) (by simp [au,ay,ax,aa.int,aa.bool,aa.str,aP,az,bT]) ?_
   | with_reducible refine And.intro (a:=ab _ _) (by simp [ab,apart]) ?_
   | with_reducible refine VW.aA 3 (VW.of ?_)
   | with_reducible refine bW.next _ (VW.of ?_)
   | rw [ai (by exact rfl) (by exact rfl) (by exact rfl) (by exact rfl) (by exact rfl)]
   | rw [bQ (by exact rfl) (by exact rfl) (by exact rfl) (by exact rfl)]
   | rw [bR (by exact rfl) (by exact rfl) (by exact rfl) (by exact rfl) (by exact rfl) (by exact rfl)]
   | fail)
 exact ak▸ae rfl (aa.bool _)
theorem N5 {f fr fn:FuncId} (h:Has P f (ri fr fn)) (q:Rat) (hr:VP P G fr [.nils] (.bool true)) (hn:VP P G fn [EV q, .int .i64 1] (.bool true)):VP P G f [.nils,EV q] (.bool true):=by
 refine VP.has h ?_
 simp only [ri]
 repeat (first
   | simp (disch:=first | decide | exact rfl) only [SS,Nat.reduceAdd,Ja]
   | with_reducible refine ah (by assumption) (by simp [aa.int,aP,az]) ?_
   | with_reducible refine aj (by assumption) (by simp [aa.int,az]) ?_
   | with_reducible refine And.intro (a:=ab _ _) (by simp [ab,apart]) ?_
   | with_reducible refine VW.aA 3 (VW.of ?_)
   | with_reducible refine bW.next _ (VW.of ?_)
   | rw [ai (by exact rfl) (by exact rfl) (by exact rfl) (by exact rfl) (by exact rfl)]
   | rw [bQ (by exact rfl) (by exact rfl) (by exact rfl) (by exact rfl)]
   | rw [bR (by exact rfl) (by exact rfl) (by exact rfl) (by exact rfl) (by exact rfl) (by exact rfl)]
   | fail)
 exact ak▸ae rfl (aa.bool _)
theorem N6 {f fF fn:FuncId} (h:Has P f (rj fF fn)) (a b:Rat) (hF:VP P G fF [.nils,EV a] (.bool true)) (hn:VP P G fn [EV b, .int .i64 1] (.bool true)):VP P G f [.nils,EV a,EV b] (.bool true):=by
 refine VP.has h ?_
 simp only [rj]
 repeat (first
   | simp (disch:=first | decide | exact rfl) only [SS,Nat.reduceAdd,Ja]
   | with_reducible refine ah (by assumption) (by simp [aa.int,aP,az]) ?_
   | with_reducible refine aj (by assumption) (by simp [aa.int,az]) ?_
   | with_reducible refine And.intro (a:=ab _ _) (by simp [ab,apart]) ?_
   | with_reducible refine VW.aA 3 (VW.of ?_)
   | with_reducible refine bW.next _ (VW.of ?_)
   | rw [ai (by exact rfl) (by exact rfl) (by exact rfl) (by exact rfl) (by exact rfl)]
   | rw [bQ (by exact rfl) (by exact rfl) (by exact rfl) (by exact rfl)]
   | rw [bR (by exact rfl) (by exact rfl) (by exact rfl) (by exact rfl) (by exact rfl) (by exact rfl)]
   | fail)
 exact ak▸ae rfl (aa.bool _)
theorem Qa {f fa:FuncId} (h:Has P f (yv fa)) (a b:Rat) (hA:VP P G fa [QV a,QV b] (QV (a+b))):VP P G f [EV a,EV b] (EV (a+b)):=by
 refine VP.has h ?_
 simp only [yv]
 repeat (first
   | simp (disch:=first | decide | exact rfl) only [SS,DD,Nat.reduceAdd,aK,ZZ,CC,uf,u7,aH,cy,ZZ,J3,Mg]
   | with_reducible refine ah (by assumption) (by simp [ax]) ?_
   | with_reducible refine aj (by assumption) (by simp [ax]) ?_
   | with_reducible refine And.intro (a:=ab _ _) (by simp [ab,apart]) ?_
   | with_reducible refine VW.aA 3 (VW.of ?_)
   | with_reducible refine bW.next _ (VW.of ?_)
   | rw [ai (by exact rfl) (by exact rfl) (by exact rfl) (by exact rfl) (by exact rfl)]
   | rw [bQ (by exact rfl) (by exact rfl) (by exact rfl) (by exact rfl)]
   | rw [bR (by exact rfl) (by exact rfl) (by exact rfl) (by exact rfl) (by exact rfl) (by exact rfl)]
   | fail)
 refine ak▸⟨_,rfl,qv (by exact rfl)⟩
theorem XU {f fa:FuncId} (h:Has P f (yw fa)) (a:Rat) (hA:VP P G fa [QV a] (QV (-a))):VP P G f [EV a] (EV (-a)):=by
 refine VP.has h ?_
 simp only [yw]
 repeat (first
   | simp (disch:=first | decide | exact rfl) only [SS,Nat.reduceAdd,ao,aK,ZZ,uf,u7,aH,cy,cv,ZZ,J3,Mg]
   | with_reducible refine ah (by assumption) (by simp [ax]) ?_
   | with_reducible refine aj (by assumption) (by simp [ax]) ?_
   | with_reducible refine And.intro (a:=ab _ _) (by simp [ab,apart]) ?_
   | with_reducible refine VW.aA 3 (VW.of ?_)
   | with_reducible refine bW.next _ (VW.of ?_)
   | rw [ai (by exact rfl) (by exact rfl) (by exact rfl) (by exact rfl) (by exact rfl)]
   | rw [bQ (by exact rfl) (by exact rfl) (by exact rfl) (by exact rfl)]
   | rw [bR (by exact rfl) (by exact rfl) (by exact rfl) (by exact rfl) (by exact rfl) (by exact rfl)]
   | fail)
 refine ak▸⟨_,rfl,qv (by exact rfl)⟩
end
end Go.VL
end

section
set_option linter.unusedVariables false
set_option linter.unusedVariables false
namespace Go.VL
def NV (q:Rat):AV := .agg [.nils,EV q]
theorem aC (q:Rat):aa (NV q):=aa.agg (by intro c hc;simp at hc;rcases hc with rfl | rfl;exact aa.nils;exact az q)
theorem hJ (q:Rat):((NV q).cells.all AV.one=true)=True:=by simp [NV,AV.cells,AV.one,EV]
theorem sS (q:Rat):part false (NV q).cells 0 1=some .nils:=rfl
theorem u9 (q:Rat):part false (NV q).cells 1 1=some (EV q):=rfl
theorem cz (q:Rat):part true (NV q).cells 0 2=some (NV q):=rfl
theorem G5 (q:Rat):∀ c∈(NV q).cells,aa c:=by
 intro c hc
 simp only [NV,AV.cells,List.mem_cons,List.not_mem_nil,or_false] at hc
 rcases hc with rfl | rfl
 . exact aa.nils
 . exact az q
theorem bZ:((AV.cells (.agg [.nils, .nils])).all AV.one=true)=True:=by simp [AV.cells,AV.one]
theorem XV (q:Rat):iN [.nils, .nils] [(1,(1,EV q))]=some [.nils,EV q]:=rfl
theorem Qb {id:Id} {t:Bool}:iN [.nils, .nils] [(1,(1, .osl id 4 0 1 t))]=some [.nils, .osl id 4 0 1 t]:=rfl
theorem Qc:iN [.nils, .nils] [(0,(1, .nils))]=some [.nils, .nils]:=rfl
theorem Cz (q:Rat):iN [.nils, .nils] [(0,(1, .nils)),(1,(1,EV q))]=some [.nils,EV q]:=rfl
theorem Jc (q:Rat):AV.agg [.nils,EV q]=NV q:=rfl
theorem UM {σ : af} {id:Id} {q:Rat} {b t:Bool} (h : σ id=some ⟨[QV q],4,b⟩):View σ (.agg [.nils, .osl id 4 0 1 t]) (NV q) :=
 View.agg (.cons (View.pure aa.nils) (.cons (qv h) .nil))
theorem G6 {σ : af} {id:Id} {k:Nat} {q:Rat} {x:AV} (h : σ id=some ⟨[.agg [.nils,x]],k,false⟩):fy σ 1 (.ref id 0 1) (EV q)=some { val := .tup [],rd:=[id],up:=[(id,some ⟨[NV q],k,false⟩)] } :=
 Cx h rfl rfl (by simp [AV.size,AV.cells]) rfl
theorem G7 {σ : af} {id:Id} {k:Nat} {q r:Rat} (h : σ id=some ⟨[NV q],k,false⟩):fy σ 1 (.ref id 0 1) (EV r)=some { val := .tup [],rd:=[id],up:=[(id,some ⟨[NV r],k,false⟩)] }:=G6 h
theorem UN {σ : af} {id:Id} {k:Nat} {q:Rat} (h : σ id=some ⟨[QV q],k,false⟩):fy σ 1 (.ref id 0 1) (W q.num.natAbs)=some { val := .tup [],rd:=[id],up:=[(id,some ⟨[QV q],k,false⟩)] } :=
 Cx h rfl rfl (by simp [J5]) rfl
theorem UO {σ : af} {id:Id} {k:Nat} {q:Rat} (h : σ id=some ⟨[QV q],k,false⟩):fy σ 1 (.ref id 0 3) (W q.den)=some { val := .tup [],rd:=[id],up:=[(id,some ⟨[QV q],k,false⟩)] } :=
 Cx h rfl rfl (by simp [J5]) rfl
theorem CA (q:Rat):part false (QV q).cells 1 1=some (W q.num.natAbs):=rfl
theorem aer (q:Rat):part false (QV q).cells 3 1=some (W q.den):=rfl
section
variable {P:Program} {G:Nat->Option (List AV)}
theorem XW {f ff fa:FuncId} (h:Has P f (yx ff fa)) (a b:Rat) (hf:VP P G ff [.nils,EV a,EV b] (.bool true)) (hA:VP P G fa [EV a,EV b] (EV (a+b))):VP P G f [.nils,EV a,EV b] (EV (a+b)):=by
 refine VP.has h ?_
 simp only [yx]
 repeat (first
   | simp (disch:=first | decide | exact rfl) only [SS,Nat.reduceAdd]
   | with_reducible refine ah (by assumption) (by simp [aP,az]) ?_
   | with_reducible refine aj (by assumption) (by simp [az]) ?_
   | with_reducible refine And.intro (a:=ab _ _) (by simp [ab,apart]) ?_
   | with_reducible refine VW.aA 3 (VW.of ?_)
   | with_reducible refine bW.next _ (VW.of ?_)
   | rw [ai (by exact rfl) (by exact rfl) (by exact rfl) (by exact rfl) (by exact rfl)]
   | rw [bQ (by exact rfl) (by exact rfl) (by exact rfl) (by exact rfl)]
   | rw [bR (by exact rfl) (by exact rfl) (by exact rfl) (by exact rfl) (by exact rfl) (by exact rfl)]
   | fail)
 exact ak▸ae rfl (az _)
theorem XX {f ff fn fa:FuncId} (h:Has P f (yy ff fn fa)) (a b:Rat) (hf:VP P G ff [.nils,EV a,EV b] (.bool true)) (hn:VP P G fn [EV b] (EV (-b))) (hA:VP P G fa [EV a,EV (-b)] (EV (a + -b))):VP P G f [.nils,EV a,EV b] (EV (a-b)):=by
 rw [<- Rat.sub_eq_add_neg] at hA
 refine VP.has h ?_
 simp only [yy]
 repeat (first
   | simp (disch:=first | decide | exact rfl) only [SS,Nat.reduceAdd]
   | with_reducible refine ah (by assumption) (by simp [aP,az]) ?_
   | with_reducible refine aj (by assumption) (by simp [az]) ?_
   | with_reducible refine And.intro (a:=ab _ _) (by simp [ab,apart]) ?_
   | with_reducible refine VW.aA 3 (VW.of ?_)
   | with_reducible refine bW.next _ (VW.of ?_)
   | rw [ai (by exact rfl) (by exact rfl) (by exact rfl) (by exact rfl) (by exact rfl)]
   | rw [bQ (by exact rfl) (by exact rfl) (by exact rfl) (by exact rfl)]
   | rw [bR (by exact rfl) (by exact rfl) (by exact rfl) (by exact rfl) (by exact rfl) (by exact rfl)]
   | fail)
 exact ak▸ae rfl (az _)
theorem XY {f ff fn:FuncId} (h:Has P f (yz ff fn)) (a:Rat) (hf:VP P G ff [.nils,EV a] (.bool true)) (hn:VP P G fn [EV a] (EV (-a))):VP P G f [.nils,EV a] (EV (-a)):=by
 refine VP.has h ?_
 simp only [yz]
 repeat (first
   | simp (disch:=first | decide | exact rfl) only [SS,Nat.reduceAdd]
   | with_reducible refine ah (by assumption) (by simp [aP,az]) ?_
   | with_reducible refine aj (by assumption) (by simp [az]) ?_
   | with_reducible refine And.intro (a:=ab _ _) (by simp [ab,apart]) ?_
   | with_reducible refine VW.aA 3 (VW.of ?_)
   | with_reducible refine bW.next _ (VW.of ?_)
   | rw [ai (by exact rfl) (by exact rfl) (by exact rfl) (by exact rfl) (by exact rfl)]
   | rw [bQ (by exact rfl) (by exact rfl) (by exact rfl) (by exact rfl)]
   | rw [bR (by exact rfl) (by exact rfl) (by exact rfl) (by exact rfl) (by exact rfl) (by exact rfl)]
   | fail)
 exact ak▸ae rfl (az _)
theorem XZ {f f1 f2 f3 f4 f5 f6 f7:FuncId} (h:Has P f (yA f1 f2 f3 f4 f5 f6 f7)) (a b:Rat) (hm:VP P G f1 [QV a,QV b] (QV (a*b))):VP P G f [.nils,EV a,EV b] (EV (a*b)):=by
 refine VP.has h ?_
 simp only [yA]
 repeat (first
   | simp (disch:=first | decide | exact rfl) only [SS,DD,Nat.reduceAdd,decide_true,u7,aH,cy]
   | with_reducible refine ah (by assumption) (by simp [ax]) ?_
   | with_reducible refine aj (by assumption) (by simp [ax]) ?_
   | with_reducible refine And.intro (a:=ab _ _) (by simp [ab,apart]) ?_
   | with_reducible refine VW.aA 3 (VW.of ?_)
   | with_reducible refine bW.next _ (VW.of ?_)
   | rw [ai (by exact rfl) (by exact rfl) (by exact rfl) (by exact rfl) (by exact rfl)]
   | rw [bQ (by exact rfl) (by exact rfl) (by exact rfl) (by exact rfl)]
   | rw [bR (by exact rfl) (by exact rfl) (by exact rfl) (by exact rfl) (by exact rfl) (by exact rfl)]
   | fail)
 refine ak▸⟨_,rfl,qv (by exact rfl)⟩
theorem X0 {f ff fm:FuncId} (h:Has P f (yB ff fm)) (a b:Rat) (hf:VP P G ff [.nils,EV a,EV b] (.bool true)) (hA:VP P G fm [.nils,EV a,EV b] (EV (a*b))):VP P G f [.nils,EV a,EV b] (EV (a*b)):=by
 refine VP.has h ?_
 simp only [yB]
 repeat (first
   | simp (disch:=first | decide | exact rfl) only [SS,Nat.reduceAdd]
   | with_reducible refine ah (by assumption) (by simp [aP,az]) ?_
   | with_reducible refine aj (by assumption) (by simp [aP,az]) ?_
   | with_reducible refine And.intro (a:=ab _ _) (by simp [ab,apart]) ?_
   | with_reducible refine VW.aA 3 (VW.of ?_)
   | with_reducible refine bW.next _ (VW.of ?_)
   | rw [ai (by exact rfl) (by exact rfl) (by exact rfl) (by exact rfl) (by exact rfl)]
   | rw [bQ (by exact rfl) (by exact rfl) (by exact rfl) (by exact rfl)]
   | rw [bR (by exact rfl) (by exact rfl) (by exact rfl) (by exact rfl) (by exact rfl) (by exact rfl)]
   | fail)
 exact ak▸ae rfl (az _)
theorem Mj {f f1 f2 f3 f4 f6 f7 f8:FuncId} (h:Has P f (qg f1 f2 f3 f4 f f6 f7 f8)) (a:Rat) (hi:VP P G f1 [.int .i64 1] (QV 1)) (hd:VP P G f2 [QV 1,QV a] (.tup [QV (1/a), .int .i64 0])) :
   VP P G f [.nils,EV a] (.tup [EV (1/a), .bool true]):=by
 refine VP.has h ?_
 simp only [qg]
 repeat (first
   | simp (disch:=first | decide | exact rfl) only [SS,DD,Nat.reduceAdd,ao,g0,g1,decide_true,u7,aH,cy,cv]
   | with_reducible refine ah (by assumption) (by simp [ax]) ?_
   | with_reducible refine aj (by assumption) (by simp [ax,aa.int]) ?_
   | with_reducible refine And.intro (a:=ab _ _) (by simp [ab,apart]) ?_
   | with_reducible refine VW.aA 3 (VW.of ?_)
   | with_reducible refine bW.next _ (VW.of ?_)
   | rw [ai (by exact rfl) (by exact rfl) (by exact rfl) (by exact rfl) (by exact rfl)]
   | rw [bQ (by exact rfl) (by exact rfl) (by exact rfl) (by exact rfl)]
   | rw [bR (by exact rfl) (by exact rfl) (by exact rfl) (by exact rfl) (by exact rfl) (by exact rfl)]
   | fail)
 refine ak▸⟨_,rfl,View.tup (.cons (qv (by exact rfl)) (.cons (View.pure (aa.bool _)) .nil))⟩
theorem X1 {f ff fi:FuncId} (h:Has P f (yC ff fi)) (a:Rat) (hf:VP P G ff [.nils,EV a] (.bool true)) (hi:VP P G fi [.nils,EV a] (.tup [EV (1/a), .bool true])) :
   VP P G f [.nils,EV a] (.tup [EV (1/a), .int .i64 0]):=by
 refine VP.has h ?_
 simp only [yC]
 repeat (first
   | simp (disch:=first | decide | exact rfl) only [SS,Nat.reduceAdd,g0,g1]
   | with_reducible refine ah (by assumption) (by simp [aP,az]) ?_
   | with_reducible refine aj (by assumption) (by simp [aP,az]) ?_
   | with_reducible refine And.intro (a:=ab _ _) (by simp [ab,apart]) ?_
   | with_reducible refine VW.aA 3 (VW.of ?_)
   | with_reducible refine bW.next _ (VW.of ?_)
   | rw [ai (by exact rfl) (by exact rfl) (by exact rfl) (by exact rfl) (by exact rfl)]
   | rw [bQ (by exact rfl) (by exact rfl) (by exact rfl) (by exact rfl)]
   | rw [bR (by exact rfl) (by exact rfl) (by exact rfl) (by exact rfl) (by exact rfl) (by exact rfl)]
   | fail)
 exact ak▸ae rfl (aa.tup (by simp [az,aa.int]))
theorem N7 {f fc:FuncId} (h:Has P f (po fc)) (q:Rat) (h1:VP P G fc [W q.num.natAbs] (W q.num.natAbs)) (h2:VP P G fc [W q.den] (W q.den)):VP P G f [QV q] (QV q):=by
 refine VP.has h ?_
 simp only [po]
 repeat (first
   | simp (disch:=first | decide | exact rfl) only [SS,DD,Nat.reduceAdd,aq,ao,ey,cy,CA,aer,cv]
   | with_reducible refine ah (by assumption) (by simp [ay]) ?_
   | with_reducible refine aj (by assumption) (by simp [ay]) ?_
   | with_reducible refine And.intro (a:=ab _ _) (by simp [ab,apart]) ?_
   | with_reducible refine VW.aA 3 (VW.of ?_)
   | with_reducible refine bW.next _ (VW.of ?_)
   | rw [ai (by exact rfl) (by exact rfl) (by exact rfl) (by exact rfl) (by exact rfl)]
   | rw [bQ (by exact rfl) (by exact rfl) (by exact rfl) (by exact rfl)]
   | rw [bR (by exact rfl) (by exact rfl) (by exact rfl) (by exact rfl) (by exact rfl) (by exact rfl)]
   | rw [UN (by exact rfl)]
   | rw [UO (by exact rfl)]
   | fail)
 refine ak▸ae (r:=QV q) ?_ (ax _)
 simp only [RS,aY,a7,ao,cy]
theorem N8 {f fc:FuncId} (h:Has P f (pt fc)) (q:Rat) (hc:VP P G fc [QV q] (QV q)):VP P G f [QV q] (NV q):=by
 refine VP.has h ?_
 simp only [pt]
 repeat (first
   | simp (disch:=first | decide | exact rfl) only [SS,Nat.reduceAdd,aq,ao,ey,cy,bZ,Qb]
   | with_reducible refine ah (by assumption) (by simp [ax]) ?_
   | with_reducible refine aj (by assumption) (by simp [ax]) ?_
   | with_reducible refine And.intro (a:=ab _ _) (by simp [ab,apart]) ?_
   | with_reducible refine VW.aA 3 (VW.of ?_)
   | with_reducible refine bW.next _ (VW.of ?_)
   | rw [ai (by exact rfl) (by exact rfl) (by exact rfl) (by exact rfl) (by exact rfl)]
   | rw [bQ (by exact rfl) (by exact rfl) (by exact rfl) (by exact rfl)]
   | rw [bR (by exact rfl) (by exact rfl) (by exact rfl) (by exact rfl) (by exact rfl) (by exact rfl)]
   | fail)
 refine ak▸⟨.agg [.nils, .osl [4] 4 0 1 false], ?_,UM (by exact rfl)⟩
 simp only [RS,aY,a7,ao]
 rfl
theorem Mk {f ff fi:FuncId} (h:Has P f (px fi ff)) (a:Int) (hi:VP P G fi [.int .i64 a] (QV a)) (hf:VP P G ff [QV a] (NV a)):VP P G f [.int .i64 a] (NV a):=by
 refine VP.has h ?_
 simp only [px]
 repeat (first
   | simp (disch:=first | decide | exact rfl) only [SS,Nat.reduceAdd,bZ]
   | with_reducible refine ah (by assumption) (by simp [ax,aa.int]) ?_
   | with_reducible refine aj (by assumption) (by simp [ax]) ?_
   | with_reducible refine And.intro (a:=ab _ _) (by simp [ab,apart]) ?_
   | with_reducible refine VW.aA 3 (VW.of ?_)
   | with_reducible refine bW.next _ (VW.of ?_)
   | rw [ai (by exact rfl) (by exact rfl) (by exact rfl) (by exact rfl) (by exact rfl)]
   | rw [bQ (by exact rfl) (by exact rfl) (by exact rfl) (by exact rfl)]
   | rw [bR (by exact rfl) (by exact rfl) (by exact rfl) (by exact rfl) (by exact rfl) (by exact rfl)]
   | fail)
 refine ak▸ae (r:=NV a) ?_ (aC _)
 simp only [RS,aY,a7,ao,cz]
theorem Et {f fc:FuncId} (h:Has P f (oy fc)) (q:Rat) (hc:VP P G fc [QV q] (QV q)):VP P G f [EV q] (EV q):=by
 refine VP.has h ?_
 simp only [oy]
 repeat (first
   | simp (disch:=first | decide | exact rfl) only [SS,Nat.reduceAdd,ao,aK,ZZ,uf,u7,aH,cy,cv,J3,Mg]
   | with_reducible refine ah (by assumption) (by simp [ax]) ?_
   | with_reducible refine aj (by assumption) (by simp [ax]) ?_
   | with_reducible refine And.intro (a:=ab _ _) (by simp [ab,apart]) ?_
   | with_reducible refine VW.aA 3 (VW.of ?_)
   | with_reducible refine bW.next _ (VW.of ?_)
   | rw [ai (by exact rfl) (by exact rfl) (by exact rfl) (by exact rfl) (by exact rfl)]
   | rw [bQ (by exact rfl) (by exact rfl) (by exact rfl) (by exact rfl)]
   | rw [bR (by exact rfl) (by exact rfl) (by exact rfl) (by exact rfl) (by exact rfl) (by exact rfl)]
   | fail)
 refine ak▸⟨_,rfl,qv (by exact rfl)⟩
theorem RJ {f fc:FuncId} (h:Has P f (nj fc)) (q:Rat) (hc:VP P G fc [EV q] (EV q)):VP P G f [NV q] (NV q):=by
 refine VP.has h ?_
 simp only [nj]
 repeat (first
   | simp (disch:=first | decide | exact rfl) only [SS,Nat.reduceAdd,aq,ao,aK,ZZ,hJ,sS,u9,cz,Jc,bZ,XV]
   | with_reducible refine ah (by assumption) (by simp [az]) ?_
   | with_reducible refine aj (by assumption) (by simp [az]) ?_
   | with_reducible refine And.intro (a:=ab _ _) (by simp [ab,apart]) ?_
   | with_reducible refine VW.aA 3 (VW.of ?_)
   | with_reducible refine bW.next _ (VW.of ?_)
   | rw [ai (by exact rfl) (by exact rfl) (by exact rfl) (by exact rfl) (by exact rfl)]
   | rw [bQ (by exact rfl) (by exact rfl) (by exact rfl) (by exact rfl)]
   | rw [bR (by exact rfl) (by exact rfl) (by exact rfl) (by exact rfl) (by exact rfl) (by exact rfl)]
   | fail)
 refine ak▸ae (r:=NV q) ?_ (aC _)
 simp only [RS,aY,a7,ao,cz]
theorem UQ {f fc:FuncId} (h:Has P f (j4 fc)) (a b:Rat) (hc:VP P G fc [QV a,QV b] (.int .i64 (NZ a b))):VP P G f [QV a,QV b] (.bool (decide (a=b))):=by
 have e:decide (NZ a b=0)=decide (a=b):=by congr 1;exact propext RB
 refine VP.has h ?_
 simp only [j4]
 repeat (first
   | simp (disch:=first | decide | exact rfl) only [SS,Nat.reduceAdd,aq,ao,ey,cy,e]
   | with_reducible refine ah (by assumption) (by simp [ax]) ?_
   | with_reducible refine aj (by assumption) (by simp [ax]) ?_
   | with_reducible refine And.intro (a:=ab _ _) (by simp [ab,apart]) ?_
   | with_reducible refine VW.aA 3 (VW.of ?_)
   | with_reducible refine bW.next _ (VW.of ?_)
   | rw [ai (by exact rfl) (by exact rfl) (by exact rfl) (by exact rfl) (by exact rfl)]
   | rw [bQ (by exact rfl) (by exact rfl) (by exact rfl) (by exact rfl)]
   | rw [bR (by exact rfl) (by exact rfl) (by exact rfl) (by exact rfl) (by exact rfl) (by exact rfl)]
   | fail)
 exact ak▸ae rfl (aa.bool _)
theorem X2 {f fe f1:FuncId} (h:Has P f (lX fe f1)) (a b:Rat) {x:Bool} (he:VP P G fe [EV a,EV b, .fn (.func f1) [] []] (.bool x)):VP P G f [EV a,EV b] (.bool x):=by
 refine VP.has h ?_
 simp only [lX]
 repeat (first
   | simp (disch:=first | decide | exact rfl) only [SS,Nat.reduceAdd]
   | with_reducible refine ah (by assumption) (by simp [az,bT]) ?_
   | with_reducible refine aj (by assumption) (by simp [az,bT]) ?_
   | with_reducible refine And.intro (a:=ab _ _) (by simp [ab,apart]) ?_
   | with_reducible refine VW.aA 3 (VW.of ?_)
   | with_reducible refine bW.next _ (VW.of ?_)
   | rw [ai (by exact rfl) (by exact rfl) (by exact rfl) (by exact rfl) (by exact rfl)]
   | rw [bQ (by exact rfl) (by exact rfl) (by exact rfl) (by exact rfl)]
   | rw [bR (by exact rfl) (by exact rfl) (by exact rfl) (by exact rfl) (by exact rfl) (by exact rfl)]
   | fail)
 exact ak▸ae rfl (aa.bool _)
theorem X3 {f f1:FuncId} (h:Has P f cd) (a b:Rat) (h1:VP P G f1 [QV a,QV b] (.bool (decide (a=b)))):VP P G f [EV a,EV b, .fn (.func f1) [] []] (.bool (decide (a=b))):=by
 refine VP.has h ?_
 simp only [cd]
 by_cases Nc:a=b
 . have d:decide (a=b)=true:=aw Nc
   rw [d] at h1 ⊢
   repeat (first
     | simp (disch:=first | decide | exact rfl) only [SS,Nat.reduceAdd,aq,ao,aK,ZZ,uf,u7,aH,cy,cv]
     | with_reducible refine ah (by assumption) (by simp [ax]) ?_
     | with_reducible refine aj (by assumption) (by simp [ax]) ?_
     | with_reducible refine And.intro (a:=ab _ _) (by simp [ab,apart]) ?_
     | with_reducible refine VW.aA 3 (VW.of ?_)
     | with_reducible refine bW.next _ (VW.of ?_)
     | rw [ai (by exact rfl) (by exact rfl) (by exact rfl) (by exact rfl) (by exact rfl)]
     | rw [bQ (by exact rfl) (by exact rfl) (by exact rfl) (by exact rfl)]
     | rw [bR (by exact rfl) (by exact rfl) (by exact rfl) (by exact rfl) (by exact rfl) (by exact rfl)]
     | fail)
   exact ak▸ae rfl (aa.bool _)
 . have d:decide (a=b)=false:=ar Nc
   rw [d] at h1 ⊢
   repeat (first
     | simp (disch:=first | decide | exact rfl) only [SS,Nat.reduceAdd,aq,ao,aK,ZZ,uf,u7,aH,cy,cv]
     | with_reducible refine ah (by assumption) (by simp [ax]) ?_
     | with_reducible refine aj (by assumption) (by simp [ax]) ?_
     | with_reducible refine And.intro (a:=ab _ _) (by simp [ab,apart]) ?_
     | with_reducible refine VW.aA 3 (VW.of ?_)
     | with_reducible refine bW.next _ (VW.of ?_)
     | rw [ai (by exact rfl) (by exact rfl) (by exact rfl) (by exact rfl) (by exact rfl)]
     | rw [bQ (by exact rfl) (by exact rfl) (by exact rfl) (by exact rfl)]
     | rw [bR (by exact rfl) (by exact rfl) (by exact rfl) (by exact rfl) (by exact rfl) (by exact rfl)]
     | fail)
   exact ak▸ae rfl (aa.bool _)
theorem X4 {f f1:FuncId} (h:Has P f bV):VP P G f [.nils, .nils, .fn (.func f1) [] []] (.bool true):=by
 refine VP.has h ?_
 simp only [bV]
 repeat (first
   | simp (disch:=first | decide | exact rfl) only [SS,Nat.reduceAdd,aK,ZZ]
   | with_reducible refine ah (by assumption) (by simp [au,ay,ax,aa.int,aa.bool,aa.str,aP,az,aC,bT]) ?_
   | with_reducible refine aj (by assumption) (by simp [au,ay,ax,aa.int,aa.bool,aa.str,aP,az,aC,bT]) ?_
   | with_reducible refine And.intro (a:=ab _ _) (by simp [ab,apart]) ?_
   | with_reducible refine VW.aA 3 (VW.of ?_)
   | with_reducible refine bW.next _ (VW.of ?_)
   | rw [ai (by exact rfl) (by exact rfl) (by exact rfl) (by exact rfl) (by exact rfl)]
   | rw [bQ (by exact rfl) (by exact rfl) (by exact rfl) (by exact rfl)]
   | rw [bR (by exact rfl) (by exact rfl) (by exact rfl) (by exact rfl) (by exact rfl) (by exact rfl)]
   | fail)
 exact ak▸ae rfl (aa.bool _)
theorem RL {f fe f1:FuncId} (h:Has P f (qi fe f1)) (he:VP P G fe [.nils, .nils, .fn (.func f1) [] []] (.bool true)):VP P G f [.nils, .nils] (.bool true):=by
 refine VP.has h ?_
 simp only [qi]
 repeat (first
   | simp (disch:=first | decide | exact rfl) only [SS,Nat.reduceAdd,ZZ,Er]
   | with_reducible refine ah (by assumption) (by simp [aP,bT]) ?_
   | with_reducible refine aj (by assumption) (by simp [aP,bT]) ?_
   | with_reducible refine And.intro (a:=ab _ _) (by simp [ab,apart]) ?_
   | with_reducible refine VW.aA 3 (VW.of ?_)
   | with_reducible refine bW.next _ (VW.of ?_)
   | rw [ai (by exact rfl) (by exact rfl) (by exact rfl) (by exact rfl) (by exact rfl)]
   | rw [bQ (by exact rfl) (by exact rfl) (by exact rfl) (by exact rfl)]
   | rw [bR (by exact rfl) (by exact rfl) (by exact rfl) (by exact rfl) (by exact rfl) (by exact rfl)]
   | fail)
 exact ak▸ae rfl (aa.bool _)
end
end Go.VL
end
