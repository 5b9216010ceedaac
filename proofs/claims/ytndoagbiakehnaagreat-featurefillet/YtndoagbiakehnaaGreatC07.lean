/- For the claim of FeatureFillet: parts CR8, CR9, CR10, RQ, DT, CH2, CF8, CG1, VL36, CN1, CQ1, CN2, CN3, CQ2, CN4, CQ4, CQ5, CQ6, CQ7, VL37, CQ8, CQ9, CQA, PUI, CQB, CQC, CQI, CQJ, CQM, CQR. -/
import Derived.Test.YtndoagbiakehnaaGreatC06
import Derived.Lib.ItoaNum
import Derived.Test.YtndoagbiakehnaaGreatC05
import Derived.Test.YtndoagbiakehnaaGreatC03
import Derived.Test.YtndoagbiakehnaaGreatC04
import Derived.Lib.IndexMore
import Derived.Sort.KeysCollected
import Derived.Sort.Walk0
import Derived.Lib.SlicesCompact
import Derived.KernelRfl
set_option linter.unusedSimpArgs false
set_option linter.unusedVariables false
section
set_option linter.unusedVariables false
namespace Go.VL
theorem Tr {k r j y:Nat} (h:(pad (k+1) r)[j]? = some y) (hr:r<ak ^ (k+1)):y=(if j<aa r then ((digits r)[j]?).getD 0 else 0):=by
 obtain ⟨z,hz⟩:=trimmed (pad (k+1) r) (iS _ _)
 rw [bZ hr] at hz
 rw [hz] at h
 by_cases hj:j<aa r
 . rw [if_pos hj]
   rw [List.getElem?_append_left (show j<(digits r).length from hj)] at h
   rw [h];rfl
 . rw [if_neg hj]
   rw [List.getElem?_append_right (show (digits r).length<=j from by show aa r<=j;omega)] at h
   exact List.eq_of_mem_replicate (List.mem_of_getElem? h)
theorem PD {a p b t:List Nat} {k j w:Nat} (hp:p.length=k) (hb:b.length=k) (hj:j<k):(a++(p.take j++b.drop j)++t).set (a.length+j) w=a++(p.take j++w::b.drop (j+1))++t:=by
 have h1:(p.take j).length=j:=by rw [List.length_take];omega
 obtain ⟨x,hx⟩:∃ x,b.drop j=x::b.drop (j+1):=⟨_,List.drop_eq_getElem_cons (show j<b.length by omega)⟩
 rw [hx,List.append_assoc,List.set_append_right _ _ (by omega),show a.length+j-a.length=j from by omega,List.append_assoc,List.set_append_right _ _ (by omega),h1,Nat.sub_self]
 simp
theorem Mo {a p b t:List Nat} {k j v w:Nat} (hp:p.length=k) (hj:j<k):(a++(p.take j++v::b)++t).set (a.length+j) w=a++(p.take j++w::b)++t:=by
 have h1:(p.take j).length=j:=by rw [List.length_take];omega
 rw [List.append_assoc,List.set_append_right _ _ (by omega),show a.length+j-a.length=j from by omega,List.append_assoc,List.set_append_right _ _ (by omega),h1,Nat.sub_self]
 simp
section
variable {P:Program} {G:Nat->Option (List AV)}
set_option maxRecDepth 100000 in
set_option maxHeartbeats 4000000 in
theorem H5 {f fc fsh fw fby fl fsd ft fdg fmi fbk ftm:FuncId} (h:Has P f (gO fc fsh fw fby fl fsd ft fdg fmi fbk))
   (hc:∀ m n,aa m<=1000000->aa n<=1000000->VP P G fc [W m,W n] (.int .i64 (de m n)))
   (Vu:∀ n,n<18446744073709551616->VP P G fsh [W n] (.int .u64 ((n:Nat):Int))) (hu:∀ n,n<18446744073709551616->VP P G fw [.int .u64 ((n:Nat):Int)] (W n))
   (hby:∀ m w:Nat,aa m<=1000000->w<ak->w≠0->VP P G fby [W m, .int .u32 (w:Int)] (.tup [W (m/w), .int .u32 ((m%w:Nat):Int)]))
   (hlen:Has P fl dJ) (hsd:Has P fsd eu) (ht:fY P G ft) (Mi:Has P ft eD)
   (hdg:Has P fdg (fh ftm ft fc fmi)) (xK:∀ (m:Nat) (ws:List Nat),Wd ws->aa m<=1000000->ws.length<=1000000->VP P G ftm [W m, .sl 1 (us ws)] (W (m*val ws)))
   (hmi:Has P fmi (df ft)) (HD:∀ m s:Nat,aa m<=1000000->s<=31->VP P G fbk [W m, .int .i64 (s:Int)] (W (m/2 ^ s)))
   (m n:Nat) (x4:n≠0) (hm:aa m<=900000) (hn:aa n<=900000):VP P G f [W m,W n] (.tup [W (m/n),W (m%n)]):=by
 refine VP.has h ?_
 have XV:=hc m n (by omega) (by omega)
 have L6:m/n=0->∀ σ,View σ .nils (W (m/n)):=fun h σ => by rw [h];simp only [W,a9,us];exact View.nils 1
 have XW:m<n->m/n=0/\m%n=m:=fun h=>⟨Nat.div_eq_of_lt h,Nat.mod_eq_of_lt h⟩
 have c1:m<n->decide (de m n<0)=true:=fun h=>ai (by simp only [de,eP];rw [if_pos (by omega)];decide)
 have c2 : ¬ m<n->decide (de m n<0)=false:=fun h=>ag (by simp only [de,eP];rw [if_neg (by omega)];split<;>decide)
 have l1:aa m<=2->decide ((aa m:Int)<=2)=true:=fun h=>ai (by omega)
 have l2 : ¬ aa m<=2->decide ((aa m:Int)<=2)=false:=fun h=>ag (by omega)
 have b1:aa n=1->decide ((aa n:Int)=1)=true:=fun h=>ai (by omega)
 simp only [gO,SS,Nat.reduceAdd]
 refine aq XV (by simp [aM]) ?_
 by_cases h1:m<n
 . simp only [SS,Nat.reduceAdd,c1 h1]
   obtain ⟨e1,e2⟩:=XW h1
   refine ao▸⟨.tup [.nils,W m],rfl,View.tup (ah.cons (L6 e1 _) (ah.cons ?_ ah.nil))⟩
   rw [e2];exact View.pure (aM _)
 have x3:n<=m:=by omega
 have hwn:aa n≠0:=fun e=>x4 (bE.1 e)
 by_cases h2:aa m<=2
 . have uf:=nc h2
   have SJ:n<18446744073709551616:=by omega
   have hq:=BX m n uf x4
   have hr:=BZ m n x4
   have hu1:=hu (m/n) (Nat.lt_of_le_of_lt (Nat.div_le_self _ _) uf)
   have hu2:=hu (m%n) (Nat.lt_of_le_of_lt (Nat.mod_le _ _) uf)
   simp only [SS,Nat.reduceAdd,c2 h1,aQ,l1 h2]
   refine aq (Vu m uf) (by simp [aM]) ?_
   simp only [SS,Nat.reduceAdd]
   refine aq (Vu n SJ) (by simp [aM]) ?_
   simp only [SS,DD,Nat.reduceAdd,hq]
   refine aL hu1 (by simp [af.int]) ?_
   simp only [SS,DD,Nat.reduceAdd,hr]
   refine aL hu2 (by simp [af.int]) ?_
   simp only [SS,DD,Nat.reduceAdd]
   refine ⟨by simp [aB,apart], ?_⟩
   exact ao▸aj rfl (af.tup (by intro c hc;simp at hc;rcases hc with rfl | rfl<;>exact aM _))
 by_cases h3:aa n=1
 . obtain ⟨x,hx⟩:∃ x,(digits n)[0]? = some x:=⟨_,List.getElem?_eq_getElem (by show 0<aa n;omega)⟩
   have hxn:x=n:=by
     have e:=aA hx
     rw [List.take_of_length_le (show (digits n).length<=1 from by show aa n<=1;omega),aE] at e
     simp [val] at e;omega
   have hg:=cI hx
   rw [hxn] at hg
   have hnB:n<ak:=by rw [<- hxn];exact aH n x (List.mem_of_getElem? hx)
   have Kk:=hby m n (by omega) hnB x4
   have Hz:bG 1 (W n) (.int .i64 0)=some (.ep (AV.int .u32 (n:Int)).cells 0):=hg
   have hmB:m%n<ak:=Nat.lt_trans (Nat.mod_lt _ (Nat.pos_of_ne_zero x4)) hnB
   have f9:=aW (m%n) hmB
   have hu9:=hu (m%n) (by unfold ak at hmB;omega)
   simp only [SS,Nat.reduceAdd,c2 h1,aQ,l2 h2,b1 h3,Hz,aS,bg]
   refine aq Kk (by simp [aM,af.int]) ?_
   simp only [SS,Nat.reduceAdd,wD,wE,f9]
   refine aq hu9 (by simp [af.int]) ?_
   simp only [SS,Nat.reduceAdd]
   exact ao▸aj rfl (af.tup (by intro c hc;simp at hc;rcases hc with rfl | rfl<;>exact aM _))
 obtain ⟨k,hk⟩:∃ k,aa n=k+2:=⟨aa n-2,by omega⟩
 obtain ⟨x,hx⟩:∃ x,(digits n)[k+1]? = some x:=⟨_,List.getElem?_eq_getElem (by show k+1<aa n;omega)⟩
 obtain ⟨FD,XX,hV,XY,hs⟩:=u6 hk hx
 obtain ⟨anU,anV⟩:=Km XX FD
 have acz:=zI (G:=G) hlen hk hx (by omega)
 generalize anW:32-ee x=s at hV XY hs
 have m1:IntKind.i64.wrap (32*((k+2:Nat):Int))=((32*(k+2):Nat):Int):=by rw [IntKind.wrap_i64];omega
 have m2:IntKind.i64.wrap (((32*(k+2):Nat):Int)-((32*(k+1)+ee x:Nat):Int))=(s:Int):=by rw [IntKind.wrap_i64];omega
 obtain ⟨V,Mh⟩:∃ V,V=n*2 ^ s:=⟨_,rfl⟩
 obtain ⟨U,Tl⟩:∃ U,U=m*2 ^ s:=⟨_,rfl⟩
 rw [<- Mh] at hV XY
 have HZ:=zJ (G:=G) hsd m s (by omega) hs
 have H0:=zJ (G:=G) hsd n s (by omega) hs
 rw [<- Mh] at H0
 rw [<- Tl] at HZ
 obtain ⟨L,hL⟩:∃ L,aa m+1=L+(k+2):=⟨aa m+1-(k+2),by have:=aP x3;omega⟩
 have hUB:U<ak ^ (aa m+1):=by
   have h4:2 ^ s<=2 ^ 32:=Nat.pow_le_pow_right (by decide) (by omega)
   have h5:m*2 ^ s<=m*2 ^ 32:=Nat.mul_le_mul_left _ h4
   have h6:m*2 ^ 32<ak ^ aa m*2 ^ 32:=Nat.mul_lt_mul_of_pos_right (b7 m) (by decide)
   rw [Nat.pow_succ,Tl];exact Nat.lt_of_le_of_lt h5 h6
 obtain ⟨A0,R0,XZ,Vw,hR0⟩:∃ A R,pad (aa m+1) U=A++R++[]/\A.length=L/\R.length=k+2 :=
   ⟨(pad (aa m+1) U).take L,(pad (aa m+1) U).drop L,by simp,by simp [cP];omega,by simp [cP];omega⟩
 have hAw:Wd A0/\Wd R0:=by
   have h4:=iS (aa m+1) U
   rw [XZ] at h4
   exact ⟨fun w hw=>h4 w (by simp [hw]),fun w hw=>h4 w (by simp [hw])⟩
 have hU0:U=val A0+ak ^ L*val R0:=by
   have h4:=bZ hUB
   rw [XZ,List.append_nil,bq,Vw] at h4
   exact h4.symm
 have Ps:val R0<V:=FT (k:=k+2) Mh (by have:=nb x4;rw [hk] at this;exact this) (by
   have h4:=b7 m
   have:L+(k+2-1)=aa m:=by omega
   rw [this];exact h4) (Tl▸hU0)
 have zF:aa V=k+2:=XY
 have Ss:0<V:=Nat.lt_of_le_of_lt (Nat.zero_le _) Ps
 have Er:IntKind.i64.wrap (((aa m:Nat):Int)-((k+2:Nat):Int))=(L:Int)-1:=by rw [IntKind.wrap_i64];omega
 have qq:∀ p:Id,g8 p 1 4 (.int .u32 0) (.int .i64 ((aa m:Nat):Int)) (.int .i64 ((aa m:Nat):Int))=some { val := .osl p 1 0 (aa m) false,up:=[(p,some ⟨us (List.replicate (aa m) 0),1,false⟩)] }:=fun p=>iD (by omega)
 rw [XZ] at HZ
 rw [hk] at H0
 have b3:decide (((k+2:Nat):Int)=1)=false:=ag (by omega)
 have Ny:V<ak ^ (k+2+1):=Nat.lt_of_lt_of_le hV (Nat.pow_le_pow_right bx (by omega))
 have Pu:VP P G ft [.sl 1 (us (pad (k+2+1) V))] (W V):=by
   have:=ht (pad (k+2+1) V) (iS _ _) (by rw [cP];omega)
   rwa [bZ Ny] at this
 simp only [SS,Nat.reduceAdd,c2 h1,aQ,l2 h2,b3,hk,m1]
 refine aq acz (by simp [aM]) ?_
 simp only [SS,Nat.reduceAdd,m2]
 refine ⟨[],_,HZ _,by simp,by simp, ?_⟩
 simp only [SS,Nat.reduceAdd]
 refine ⟨[],_,H0 _,by simp,by simp, ?_⟩
 simp only [SS,Nat.reduceAdd]
 refine cB [([4,24],⟨us (pad (k+2+1) V),1,false⟩)] Pu (ah.cons (fk (cP _ _).symm) ah.nil) (by simp [ae.put]) ?_
 simp only [SS,Nat.reduceAdd,aQ,zF,qq,Er,bf]
 refine VW.dV (α := Nat × List Nat × List Nat × Nat × List Nat × Nat) (fun x=>⟨List.replicate 10 .top++[.int .i64 (s:Int), .osl [4,21] 1 0 (aa m+1) false,W V, .osl [30] 1 0 (aa m) false, .int .i64 ((x.1:Int)-1)]++List.replicate 113 .top,
   ae.put (ae.put (fun _=>none) [4,21] (some ⟨us (x.2.1++x.2.2.1++zs x.2.2.2.1),1,false⟩)) [30] (some ⟨us (zs x.1++(x.2.2.2.2.1++zs (k+1))),1,false⟩),x.2.2.2.2.2⟩)
   (fun x=>x.1+x.2.2.2.2.1.length=L/\x.2.1.length=x.1/\x.2.2.1.length=k+2/\x.1+(k+2)+x.2.2.2.1=aa m+1/\Wd x.2.1/\Wd x.2.2.1/\Wd x.2.2.2.2.1/\val x.2.2.1<V/\U=val x.2.1+ak ^ x.1*(val x.2.2.2.2.1*V+val x.2.2.1)/\1000<=x.2.2.2.2.2) (fun x=>x.1) (L,A0,R0,0,[],1000) ?_ ?_ ?_
 . refine Wk.forget (by simp [Fg,List.replicate]) (fun j => ?_) (by simp only [];omega)
   have hLk:zs (aa m)=zs L++([]++zs (k+1)):=by
     simp only [zs,List.nil_append,List.replicate_append_replicate];congr 1;omega
   simp only [List.append_nil,ae.put,ae.app,CV,List.map_cons,List.map_nil, <- hLk,pM]
   by_cases e1:j=[30]
   . subst e1;simp [zs]
   . by_cases e2:j=[4,21]
     . subst e2;simp
     . simp [e1,e2]
 . refine ⟨by simp,Vw,hR0,by simp only [];omega,hAw.1,hAw.2,by intro w hw;simp at hw,Ps, ?_,Nat.le_refl _⟩
   show U=val A0+ak ^ L*(val []*V+val R0)
   rw [show val []=0 from rfl,Nat.zero_mul,Nat.zero_add];exact hU0
 rintro ⟨c,A,R,tl,o,nn⟩ ⟨hcc,hA,hR,htl,X3,X4,X5,Ti,X6,hnn⟩
 simp only [] at hcc hA hR htl X3 X4 X5 Ti X6 hnn
 rcases Nat.eq_zero_or_pos c with h0 | hcp
 . subst h0
   have d0:decide ((0:Int)<=((0:Nat):Int)-1)=false:=by decide
   obtain rfl:A=[]:=List.length_eq_zero_iff.1 hA
   have hU':m*2 ^ s=val o*(n*2 ^ s)+val R:=by
     rw [<- Tl, <- Mh,X6]
     show val []+ak ^ 0*_=_
     simp [val]
   obtain ⟨g1,g2,g3⟩:=Kn x4 hU' (Mh▸Ti)
   have hoL:aa m=(o++zs (k+1)).length:=by simp [zs];omega
   have htq:=ht (o++zs (k+1)) (cz X5 (Vq _)) (by omega)
   rw [show val (o++zs (k+1))=val o from J9 o (k+1),g1] at htq
   have hRl:aa m+1=(R++zs tl).length:=by simp [zs];omega
   have htR:=ht (R++zs tl) (cz X4 (Vq _)) (by omega)
   rw [show val (R++zs tl)=val R from J9 R tl] at htR
   have hwR:aa (val R)<=1000000:=by rw [<- Mh,zF] at g3;omega
   have acA:=HD (val R) s hwR hs
   rw [g2] at acA
   simp only [SS,Nat.reduceAdd,d0,pM]
   refine cB [([30],⟨us (o++zs (k+1)),1,false⟩)] htq (ah.cons (fk hoL) ah.nil) (by simp [ae.put]) ?_
   simp only [SS,Nat.reduceAdd]
   refine cB [([4,21],⟨us (R++zs tl),1,false⟩)] htR (ah.cons (fk hRl) ah.nil) (by simp [ae.put,ae.app,CV]) ?_
   simp only [SS,Nat.reduceAdd]
   refine aq acA (by simp [aM,af.int]) ?_
   simp only [SS,Nat.reduceAdd]
   exact ao▸aj rfl (af.tup (by intro c hc;simp at hc;rcases hc with rfl | rfl<;>exact aM _))
 obtain ⟨i,rfl⟩:∃ i,c=i+1:=⟨c-1,by omega⟩
 have d0:decide ((0:Int)<=(i:Int))=true:=ai (by omega)
 have hj:((i+1:Nat):Int)-1=(i:Int):=by omega
 have hji:IntKind.i64.wrap ((i:Int)-1)=(i:Int)-1:=by rw [IntKind.wrap_i64];omega
 obtain ⟨A',y,rfl,hA'⟩:=pP hA
 obtain ⟨b,s6⟩:∃ b,b=y::R:=⟨_,rfl⟩
 have eb:A'++[y]++R++zs tl=A'++b++zs tl:=by rw [s6];simp
 have X7:y<ak:=X3 y (by simp)
 have X8:Wd A':=fun w hw=>X3 w (by simp [hw])
 have rp:b.length=k+3:=by rw [s6];simp [hR]
 have Ef:Wd b:=by
   intro w hw;rw [s6] at hw
   rcases List.mem_cons.1 hw with rfl | hw
   . exact X7
   . exact X4 w hw
 have hbv:val b=y+ak*val R:=by rw [s6];rfl
 obtain ⟨Vx,St⟩:=ace X7 Ti
 rw [<- hbv] at Vx St
 have a1:=iG i (k+2) (by omega)
 have a4:IntKind.i64.wrap (((i+(k+2):Nat):Int)+1)=((i+(k+3):Nat):Int):=by rw [IntKind.wrap_i64];omega
 have iaq:=bI (q:=[30]) (t:=false) (show i<aa m by omega)
 have FV:fC 1 (.osl [4,21] 1 0 (aa m+1) false) (some (.int .i64 (i:Int))) (some (.int .i64 ((i+(k+3):Nat):Int))) none=some (.osl [4,21] 1 A'.length (k+3) false):=by
   rw [B5 (by omega) (by omega),hA']
   congr 2;omega
 have kY:∀ j,1000<=j->∀ x,([4,21]:List Nat)≠x::[j]:=fun j h x e=>by simp at e;omega
 have aib:∀ j,1000<=j->_:=fun j hj=>Mn (G:=G) hdg xK Mi hc (fun m n h1 h2=>B7 hmi ht m n h1 h2) (id:=[4,21]) (a:=A') (b:=b) (t:=zs tl) zF rp Ef Vx (by omega) [j] (kY j hj)
 have acB:=FZ (G:=G) Mi (id:=[4,21]) (a:=A') (b:=b) (t:=zs tl) Ef (by omega)
 rw [rp] at acB
 obtain ⟨z,hz⟩:=trimmed b Ef
 have he:A'++b++zs tl=A'++digits (val b)++(zs z++zs tl):=by
   conv=>lhs;rw [hz]
   simp
 have B6:val b%V<V:=Nat.mod_lt _ Ss
 have acC:val b-V*(val b/V)=val b%V:=by have:=Nat.div_add_mod (val b) V;omega
 have Nw:aa (val b)<=1000000:=by
   have h1:=di Ef
   rw [rp] at h1
   have:=cK h1;omega
 have acD:∀ j,1000<=j->_:=fun j hj=>Mm (G:=G) hmi ht (id:=[4,21]) (a:=A') (t:=zs z++zs tl) (val b) (V*(val b/V)) (Nat.mul_div_le _ _) Nw [j] (kY j hj)
 rw [acC, <- he] at acD
 have hqL:i<(zs (i+1)++(o++zs (k+1))).length:=by simp [zs];omega
 rw [eb]
 simp only [SS,Nat.reduceAdd,hj,d0,aQ,zF,a1,a4,FV]
 refine ⟨[([4,21],⟨us (A'++b++zs tl),1,false⟩)],_,aib _ (by omega),by simp [ae.put],by simp, ?_⟩
 simp only [SS,Nat.reduceAdd,wD,wE,iaq]
 rw [bC (o:=zs (i+1)++(o++zs (k+1))) (by simp [ae.put]) hqL,qW]
 simp only [SS,Nat.reduceAdd]
 refine ⟨[([4,21],⟨us (A'++b++zs tl),1,false⟩)],_,acB _,by simp [ae.put],by simp, ?_⟩
 simp only [SS,Nat.reduceAdd]
 refine ⟨[([4,21],⟨us (A'++b++zs tl),1,false⟩)],_,acD _ (by omega),by simp [ae.put],by simp, ?_⟩
 simp only [SS,Nat.reduceAdd,bf]
 obtain ⟨r,hr⟩:∃ r,r=val b%V:=⟨_,rfl⟩
 rw [<- hr] at B6 ⊢
 have FK:r<ak ^ (k+2):=Nat.lt_trans B6 hV
 have aic:r<ak ^ (k+2+1):=Nat.lt_of_lt_of_le FK (Nat.pow_le_pow_right bx (by omega))
 obtain ⟨pd,hpd⟩:∃ pd,pd=pad (k+2+1) r:=⟨_,rfl⟩
 have PE:pd.length=k+3:=by rw [hpd];exact cP _ _
 refine VW.dV (α := Nat × Nat) (fun x=>⟨List.replicate 10 .top++[.int .i64 (s:Int), .osl [4,21] 1 0 (aa m+1) false,W V, .osl [30] 1 0 (aa m) false, .int .i64 (i:Int), .osl [4,21] 1 A'.length (k+3) false, .top, .top,W r, .int .i64 (x.1:Int)]++List.replicate 108 .top,
   ae.put (ae.put (fun _=>none) [4,21] (some ⟨us (A'++(pd.take x.1++b.drop x.1)++zs tl),1,false⟩)) [30] (some ⟨us (zs i++val b/V::(o++zs (k+1))),1,false⟩),x.2⟩)
   (fun x=>x.1<=k+3/\1000<=x.2) (fun x=>k+3-x.1) (0,nn+1000) ?_ ?_ ?_
 . refine Wk.forget (by simp [Fg,List.replicate]) (fun j => ?_) (by simp only [];omega)
   simp only [List.take_zero,List.drop_zero,List.nil_append,ae.put]
   by_cases e1:j=[30]
   . subst e1;simp
   . by_cases e2:j=[4,21]
     . subst e2;simp
     . simp [e1,e2]
 . exact ⟨Nat.zero_le _,by simp only [];omega⟩
 rintro ⟨j,mm⟩ ⟨H6,CO⟩
 simp only [] at H6 CO
 have nQ:j<k+3->decide ((j:Int)<((k+3:Nat):Int))=true:=fun h=>ai (by omega)
 have pw : ¬ j<k+3->decide ((j:Int)<((k+3:Nat):Int))=false:=fun h=>ag (by omega)
 have FI:j<aa r->decide ((j:Int)<(aa r:Int))=true:=fun h=>ai (by omega)
 have FJ : ¬ j<aa r->decide ((j:Int)<(aa r:Int))=false:=fun h=>ag (by omega)
 have Ka:=aF j (by omega)
 by_cases tW:j<k+3
 . have hio:=kT (q:=[4,21]) (off:=A'.length) (t:=false) tW
   have anZ:(pd.take j++b.drop j).length=k+3:=by simp [PE,rp];omega
   obtain ⟨y',hy'⟩:∃ y,pd[j]? = some y:=⟨_,List.getElem?_eq_getElem (by omega)⟩
   have hpm:=Tr (hpd▸hy') aic
   have FF:∀ w,(A'++(pd.take j++b.drop j)++zs tl).set (A'.length+j) w=A'++(pd.take j++w::b.drop (j+1))++zs tl:=fun w=>PD PE rp tW
   have acE:∀ v w,(A'++(pd.take j++v::b.drop (j+1))++zs tl).set (A'.length+j) w=A'++(pd.take j++w::b.drop (j+1))++zs tl:=fun v w=>Mo PE tW
   have mD:A'.length+j<(A'++(pd.take j++b.drop j)++zs tl).length:=by simp [PE,rp];omega
   have El:∀ v,A'.length+j<(A'++(pd.take j++v::b.drop (j+1))++zs tl).length:=fun v=>by simp [PE,rp];omega
   have J6:pd.take j++y'::b.drop (j+1)=pd.take (j+1)++b.drop (j+1):=by
     have:=List.take_add_one (l:=pd) (i:=j)
     rw [hy'] at this;rw [this];simp
   have acF:k+3-(j+1)<k+3-j:=by omega
   have acG:∀ σ : ae, σ [4,21]=some ⟨us (A'++(pd.take j++b.drop j)++zs tl),1,false⟩->j5 σ 1 (.ref [4,21] (A'.length+j) 0) (.int .u32 0)=some { val := .tup [],rd:=[[4,21]],up:=[([4,21],some ⟨us (A'++(pd.take j++0::b.drop (j+1))++zs tl),1,false⟩)] }:=fun σ hσ => by
     have:=bC (x:=0) hσ mD
     rw [FF] at this;exact this
   by_cases Yf:j<aa r
   . obtain ⟨dj,hdj⟩:∃ y,(digits r)[j]? = some y:=⟨_,List.getElem?_eq_getElem Yf⟩
     rw [if_pos Yf,hdj,Option.getD_some] at hpm
     subst hpm
     simp only [SS,Nat.reduceAdd,nQ tW,hio]
     rw [acG _ (by simp [ae.put])]
     simp only [SS,Nat.reduceAdd,aQ,FI Yf,cI hdj,aS,bg,hio]
     rw [bC (o:=A'++(pd.take j++0::b.drop (j+1))++zs tl) (by simp [ae.put]) (El _),acE,J6]
     simp only [SS,Nat.reduceAdd,Ka]
     refine ⟨(j+1,_),⟨by simp only [];omega,by simp only [];omega⟩,acF,Wk.forget (by simp [Fg]) (fun q => ?_) (Nat.le_refl _)⟩
     simp only [ae.put]
     by_cases e1:q=[30]
     . subst e1;simp
     . by_cases e2:q=[4,21]
       . subst e2;simp
       . simp [e1,e2]
   . rw [if_neg Yf] at hpm
     subst hpm
     simp only [SS,Nat.reduceAdd,nQ tW,hio]
     rw [acG _ (by simp [ae.put]),J6]
     simp only [SS,Nat.reduceAdd,aQ,FJ Yf,Ka]
     refine ⟨(j+1,_),⟨by simp only [];omega,by simp only [];omega⟩,acF,Wk.forget (by simp [Fg]) (fun q => ?_) (Nat.le_refl _)⟩
     simp only [ae.put]
     by_cases e1:q=[30]
     . subst e1;simp
     . by_cases e2:q=[4,21]
       . subst e2;simp
       . simp [e1,e2]
 . have Nr:j=k+3:=by omega
   have Ou:val b=val b/V*V+r:=by rw [hr];have:=Nat.div_add_mod (val b) V;rw [Nat.mul_comm] at this;omega
   have hUn:U=val A'+ak ^ i*(val (val b/V::o)*V+val (pad (k+2) r)):=by
     rw [bZ FK]
     refine FR (x:=y) (R:=val R) (O:=val o) ?_ (by rw [<- hbv];exact Ou)
     rw [X6,bq,hA']
     simp only [val,Nat.mul_zero,Nat.add_zero]
   have hep:A'++(pd.take j++b.drop j)++zs tl=A'++pad (k+2) r++zs (tl+1):=by
     rw [Nr,List.take_of_length_le (by omega),List.drop_eq_nil_of_le (by omega),hpd,Dg FK]
     simp [ga]
   rw [hep]
   simp only [SS,Nat.reduceAdd,pw tW,hji]
   refine ⟨(i,A',pad (k+2) r,tl+1,val b/V::o,_),⟨by simp;omega,hA',cP _ _,by simp only [];omega,X8,iS _ _, ?_,by simp only [];rw [bZ FK];exact B6,hUn,by simp only [];omega⟩,Nat.lt_succ_self i,Wk.forget (by simp [Fg]) (fun q => ?_) (Nat.le_refl _)⟩
   . intro w hw
     rcases List.mem_cons.1 hw with rfl | hw
     . exact St
     . exact X5 w hw
   . right;simp
end
end Go.VL
end

section
set_option linter.unusedVariables false
namespace Go.VL
theorem zK {a b:Int} (h:decide (a<0)=decide (b<0)):sgn (decide (a<0)) (a.natAbs+b.natAbs)=a+b:=by
 unfold sgn
 by_cases h1:a<0<;>by_cases h2:b<0<;>simp [h1,h2] at h ⊢ <;> omega
theorem oG {a b:Int} (h : ¬ decide (a<0)=decide (b<0)) (hn:b.natAbs<=a.natAbs):sgn (decide (a<0)) (a.natAbs-b.natAbs)=a+b:=by
 unfold sgn
 by_cases h1:a<0<;>by_cases h2:b<0<;>simp [h1,h2] at h ⊢ <;> omega
theorem Dj (a b:Int):aa (a+b).natAbs<=aa a.natAbs+aa b.natAbs+1:=by
 have h1:(a+b).natAbs<=a.natAbs+b.natAbs:=Int.natAbs_add_le a b
 have h2:aa (a.natAbs+b.natAbs)<=aa a.natAbs+aa b.natAbs+1:=cK (by
   have e1:=b7 a.natAbs
   have e2:=b7 b.natAbs
   have e3:ak ^ aa a.natAbs<=ak ^ (aa a.natAbs+aa b.natAbs):=Nat.pow_le_pow_right bx (by omega)
   have e4:ak ^ aa b.natAbs<=ak ^ (aa a.natAbs+aa b.natAbs):=Nat.pow_le_pow_right bx (by omega)
   have e5:ak ^ (aa a.natAbs+aa b.natAbs)*2<=ak ^ (aa a.natAbs+aa b.natAbs)*ak:=Nat.mul_le_mul_left _ (by decide)
   rw [Nat.pow_succ];omega)
 exact Nat.le_trans (aP h1) h2
section
variable {P:Program} {G:Nat->Option (List AV)}
theorem agv {f fn fp fs fc fm:FuncId} (h:Has P f (lu fn fp fs fc fm)) (hn:∀ z:Int,aa z.natAbs<=1000000->VP P G fn [IV z] (IV z))
   (hp:∀ m n,aa m<=1000000->aa n<=1000000->VP P G fp [W m,W n] (W (m+n))) (hs:fL P G fs) (hc:∀ m n,aa m<=1000000->aa n<=1000000->VP P G fc [W m,W n] (.int .i64 (de m n)))
   (hm:∀ m n,n<=m->aa m<=1000000->VP P G fm [W m,W n] (W (m-n))) (a b:Int) (ha:aa a.natAbs<=1000000) (hb:aa b.natAbs<=1000000):VP P G f [IV a,IV b] (IV (a+b)):=by
 refine VP.has h ?_
 have Df:([0]:List Nat)≠[1]:=by decide
 have Nx:([0]:List Nat)≠[2]:=by decide
 have FP:([1]:List Nat)≠[2]:=by decide
 have Yg:aa (a.natAbs+b.natAbs)<=9223372036854775807:=by
   have:aa (a.natAbs+b.natAbs)<=aa a.natAbs+aa b.natAbs+1:=cK (by
     have e1:=b7 a.natAbs
     have e2:=b7 b.natAbs
     have e3:ak ^ aa a.natAbs<=ak ^ (aa a.natAbs+aa b.natAbs):=Nat.pow_le_pow_right bx (by omega)
     have e4:ak ^ aa b.natAbs<=ak ^ (aa a.natAbs+aa b.natAbs):=Nat.pow_le_pow_right bx (by omega)
     have e5:ak ^ (aa a.natAbs+aa b.natAbs)*2<=ak ^ (aa a.natAbs+aa b.natAbs)*ak:=Nat.mul_le_mul_left _ (by decide)
     rw [Nat.pow_succ];omega)
   omega
 have Ts:=hp a.natAbs b.natAbs ha hb
 have hcv:=hc a.natAbs b.natAbs ha hb
 simp only [lu,SS,DD,Nat.reduceAdd,HQ,rF,bj Df,bj Nx,aY,zA]
 refine aL (hn a ha) (by simp [bU]) ?_
 simp only [SS,DD,Nat.reduceAdd,bj FP,aY,zA]
 refine aL (hn b hb) (by simp [bU]) ?_
 simp only [SS,DD,Nat.reduceAdd]
 rw [oz (k:=(IV a).size) (y:=IV a) rfl (Pg _ _) (by simp [ae.put])]
 simp only [SS,DD,Nat.reduceAdd]
 rw [oz (k:=(IV b).size) (y:=IV b) rfl (Pg _ _) (by simp [ae.put])]
 simp only [SS,DD,Nat.reduceAdd]
 refine ⟨by simp [aB,apart], ?_⟩
 simp only [SS,Nat.reduceAdd,bj Df,aY,J7]
 by_cases xl:decide (a<0)=decide (b<0)
 . have d0:(decide (a<0)==decide (b<0))=true:=by rw [xl];exact beq_self_eq_true _
   have xA:=hs (decide (a<0)) (a.natAbs+b.natAbs) Yg
   rw [zK xl] at xA
   simp only [SS,DD,Nat.reduceAdd,d0,bj Df,aY,J7,xu]
   refine aL Ts (by simp [aM]) ?_
   simp only [SS,DD,Nat.reduceAdd]
   refine aL xA (by simp [aM,af.bool]) ?_
   simp only [SS,DD,Nat.reduceAdd]
   rw [oz (k:=(AV.agg [.bool false, .nils]).size) (y := .agg [.bool false, .nils]) rfl (Ph _) (by simp [ae.put])]
   simp only [SS,DD,Nat.reduceAdd]
   refine ⟨by simp [aB,apart], ?_⟩
   refine ao▸aj (r:=IV (a+b)) ?_ (bU _)
   simp only [RS,dU,fU,aY,zA]
 . have d0:(decide (a<0)==decide (b<0))=false:=by simpa using xl
   simp only [SS,Nat.reduceAdd,d0,bj Df,aY,xu]
   refine aq hcv (by simp [aM]) ?_
   by_cases wW:b.natAbs<=a.natAbs
   . have d1:decide (0<=de a.natAbs b.natAbs)=true:=ai (by simp only [de,eP];rw [if_neg (by omega)];split<;>decide)
     have Di:=hm a.natAbs b.natAbs wW ha
     have xA:=hs (decide (a<0)) (a.natAbs-b.natAbs) (by have:=aP (Nat.sub_le a.natAbs b.natAbs);omega)
     rw [oG xl wW] at xA
     simp only [SS,DD,Nat.reduceAdd,d1,bj Df,aY,J7,xu]
     refine aL Di (by simp [aM]) ?_
     simp only [SS,DD,Nat.reduceAdd]
     refine aL xA (by simp [aM,af.bool]) ?_
     simp only [SS,DD,Nat.reduceAdd]
     rw [oz (k:=(AV.agg [.bool false, .nils]).size) (y := .agg [.bool false, .nils]) rfl (Ph _) (by simp [ae.put])]
     simp only [SS,DD,Nat.reduceAdd]
     refine ⟨by simp [aB,apart], ?_⟩
     refine ao▸aj (r:=IV (a+b)) ?_ (bU _)
     simp only [RS,dU,fU,aY,zA]
   . have d1:decide (0<=de a.natAbs b.natAbs)=false:=ag (by simp only [de,eP];rw [if_pos (by omega)];decide)
     have Di:=hm b.natAbs a.natAbs (by omega) hb
     have xA:=hs (decide (b<0)) (b.natAbs-a.natAbs) (by have:=aP (Nat.sub_le b.natAbs a.natAbs);omega)
     rw [oG (fun e=>xl e.symm) (by omega),Int.add_comm] at xA
     simp only [SS,DD,Nat.reduceAdd,d1,bj Df,aY,J7,xu]
     refine aL Di (by simp [aM]) ?_
     simp only [SS,DD,Nat.reduceAdd]
     refine aL xA (by simp [aM,af.bool]) ?_
     simp only [SS,DD,Nat.reduceAdd]
     rw [oz (k:=(AV.agg [.bool false, .nils]).size) (y := .agg [.bool false, .nils]) rfl (Ph _) (by simp [ae.put])]
     simp only [SS,DD,Nat.reduceAdd]
     refine ⟨by simp [aB,apart], ?_⟩
     refine ao▸aj (r:=IV (a+b)) ?_ (bU _)
     simp only [RS,dU,fU,aY,zA]
theorem Tt {f ft fd fs:FuncId} (h:Has P f (iP ft fd fs)) (ht:fY P G ft) (hd:∀ m n,n≠0->aa m<=900000->aa n<=900000->VP P G fd [W m,W n] (.tup [W (m/n),W (m%n)]))
   (hs:fL P G fs) (a b:Int) (ha:aa a.natAbs<=900000) (hb:aa b.natAbs<=900000):VP P G f [IV a,IV b] (IV (Nat.gcd a.natAbs b.natAbs:Nat)):=by
 refine VP.has h ?_
 have Df:([0]:List Nat)≠[1]:=by decide
 have Nx:([0]:List Nat)≠[2]:=by decide
 have FP:([1]:List Nat)≠[2]:=by decide
 simp only [iP,SS,DD,Nat.reduceAdd,HQ,rF,bj Df,bj Nx,aY,xu]
 refine aL (kp ht a.natAbs (by omega)) (by simp [aM]) ?_
 simp only [SS,DD,Nat.reduceAdd,bj FP,aY,xu]
 refine aL (kp ht b.natAbs (by omega)) (by simp [aM]) ?_
 simp only [SS,DD,Nat.reduceAdd]
 refine ⟨by simp [aB,apart], ?_⟩
 simp only [bf]
 refine VW.dV (α := Nat × Nat × Nat) (fun x=>⟨[IV a,IV b, .top, .top, .ref [2] 0 0,W x.1,W x.2.1]++List.replicate 21 .top,
   ae.put (fun _=>none) [2] (some ⟨[.agg [.bool false, .nils]],(AV.agg [.bool false, .nils]).size,false⟩),x.2.2⟩)
   (fun x=>Nat.gcd x.1 x.2.1=Nat.gcd a.natAbs b.natAbs/\aa x.1<=900000/\aa x.2.1<=900000) (fun x=>x.2.1) (a.natAbs,b.natAbs,1000) ?_ ?_ ?_
 . exact Wk.forget (by simp [Fg,List.replicate]) (fun j=>by simp only [ae.put];split<;>simp_all) (by simp only [];omega)
 . exact ⟨rfl,ha,hb⟩
 rintro ⟨x,y,nn⟩ ⟨hg,hx,hy⟩
 simp only [] at hg hx hy
 have w1:=zE x y
 by_cases c3:0<aa y
 . have Me:y≠0:=fun e=>by have:=bE.2 e;omega
   have g5:decide ((0:Int)<(aa y:Int))=true:=ai (by omega)
   simp only [SS,Nat.reduceAdd,aQ,g5]
   refine aq (hd x y Me hx hy) (by simp [aM]) ?_
   simp only [SS,Nat.reduceAdd,wD,wE]
   exact ⟨(y,x%y,_),⟨qZ hg,hy,by simp only [];omega⟩,Nat.mod_lt _ (Nat.pos_of_ne_zero Me),Wk.slots (by simp [Fg]) (Nat.le_refl _)⟩
 . have g5:decide ((0:Int)<(aa y:Int))=false:=ag (by omega)
   have hyz:y=0:=bE.1 (by omega)
   rw [hyz,Nat.gcd_zero_right] at hg
   have dP:=hs false x (by omega)
   rw [wG] at dP
   simp only [SS,Nat.reduceAdd,aQ,g5]
   refine aq dP (by simp [af.bool,aM]) ?_
   simp only [SS,Nat.reduceAdd,qY]
   rw [<- hg]
   refine ao▸aj (r:=IV (x:Int)) ?_ (bU _)
   simp only [RS,dU,fU,aY];rfl
end
end Go.VL
end

section
set_option linter.unusedVariables false
namespace Go.VL
theorem PF {ws:List Nat} (hw:Wd ws):aa (val ws)<=ws.length:=cK (di hw)
theorem F0 (neg:Bool) {ws:List Nat} (hw:Wd ws):(decide (aa (val ws)=ws.length)&&(!neg||decide (0<ws.length)))=eo neg ws:=by
 unfold eo
 by_cases h0:ws=[]
 . subst h0;simp [aa,val,a9]
 . rw [if_neg h0]
   have lq:0<ws.length:=List.length_pos_iff.2 h0
   rw [ai lq,Bool.or_true,Bool.and_true]
   obtain ⟨k,hk⟩:∃ k,ws.length=k+1:=⟨ws.length-1,by omega⟩
   obtain ⟨b,x,rfl,hb⟩:=pP hk
   have e:(b++[x])[(b++[x]).length-1]?.getD 0=x:=by simp
   rw [e]
   by_cases hx:x=0
   . rw [ag (show ¬ x≠0 from fun h=>h hx),hx,gq]
     exact ag (by have:=PF (fun w hw'=>hw w (by simp [hw']):Wd b);simp;omega)
   . rw [ai hx]
     exact ai (by rw [aa,gp hw (.inr ⟨x,by simp,hx⟩)])
section
variable {P:Program} {G:Nat->Option (List AV)}
end
end Go.VL
end

section
set_option linter.unusedSimpArgs false
namespace Go.VL
def QV (q:Rat):AV:=RV q.num q.den
theorem eC (q:Rat):af (QV q):=yg _ _
def Sm (k:Nat) (q:Rat):Prop:=aa q.num.natAbs<=k/\aa q.den<=k
theorem Sm.mono {j k:Nat} {q:Rat} (h:Sm j q) (H6:j<=k:=by omega):Sm k q:=⟨Nat.le_trans h.1 H6,Nat.le_trans h.2 H6⟩
theorem bF (a b:Int):aa (a*b).natAbs<=aa a.natAbs+aa b.natAbs:=by rw [Int.natAbs_mul];exact ly _ _
theorem F3 (a b:Int):Int.gcd a b=Nat.gcd a.natAbs b.natAbs:=rfl
theorem zL (a b:Int) (hb:b≠0):RV (a.fdiv (if b<0 then -((Nat.gcd a.natAbs b.natAbs:Nat):Int) else (Nat.gcd a.natAbs b.natAbs:Nat))) (b.fdiv (if b<0 then -((Nat.gcd a.natAbs b.natAbs:Nat):Int) else (Nat.gcd a.natAbs b.natAbs:Nat)))=QV ((a:Rat)/(b:Rat)):=by
 rw [<- Rat.divInt_eq_div]
 unfold QV
 rw [Rat.num_divInt,Rat.den_divInt,if_neg hb,F3,Nat.gcd_comm b.natAbs a.natAbs]
 have hg0:0<Nat.gcd a.natAbs b.natAbs:=Nat.gcd_pos_of_pos_right _ (by omega)
 obtain ⟨x,hx⟩:((Nat.gcd a.natAbs b.natAbs:Nat):Int) ∣ a:=Int.ofNat_dvd_left.2 (Nat.gcd_dvd_left _ _)
 obtain ⟨y,hy⟩:((Nat.gcd a.natAbs b.natAbs:Nat):Int) ∣ b:=Int.ofNat_dvd_left.2 (Nat.gcd_dvd_right _ _)
 generalize hg:Nat.gcd a.natAbs b.natAbs=g at *
 have hgz:(g:Int)≠0:=by omega
 have hba:b.natAbs/g=y.natAbs:=by
   rw [hy,Int.natAbs_mul,Int.natAbs_natCast,Nat.mul_div_cancel_left _ hg0]
 rw [hba]
 by_cases h:b<0
 . have Me:y<0:=by
     rcases Int.lt_or_le y 0 with h1 | h1
     . exact h1
     . have:=Int.mul_nonneg (Int.natCast_nonneg g) h1;omega
   rw [if_pos h,Int.sign_eq_neg_one_of_neg h]
   have e1:a.fdiv (-(g:Int)) = -1*a/(g:Int):=by
     rw [hx,show -1*((g:Int)*x)=(g:Int)*(-x) from by rw [Int.mul_neg];omega,Int.mul_ediv_cancel_left _ hgz,show (g:Int)*x = -(g:Int)*(-x) from by rw [Int.neg_mul_neg]]
     exact Int.mul_fdiv_cancel_left _ (by omega)
   have e2:b.fdiv (-(g:Int))=(y.natAbs:Int):=by
     rw [show (y.natAbs:Int) = -y from by omega]
     conv=>lhs;rw [hy]
     rw [show (g:Int)*y = -(g:Int)*(-y) from by rw [Int.neg_mul_neg]]
     exact Int.mul_fdiv_cancel_left _ (by omega)
   rw [e1,e2]
 . have Me:0<y:=by
     rcases Int.lt_or_le 0 y with h1 | h1
     . exact h1
     . have:=Int.mul_nonneg (Int.natCast_nonneg g) (show 0 <= -y by omega)
       rw [Int.mul_neg] at this;omega
   rw [if_neg h,Int.sign_eq_one_of_pos (by omega)]
   have e1:a.fdiv (g:Int)=1*a/(g:Int):=by
     rw [hx,Int.one_mul,Int.mul_ediv_cancel_left _ hgz]
     exact Int.mul_fdiv_cancel_left _ hgz
   have e2:b.fdiv (g:Int)=(y.natAbs:Int):=by
     rw [show (y.natAbs:Int)=y from by omega]
     conv=>lhs;rw [hy]
     exact Int.mul_fdiv_cancel_left _ hgz
   rw [e1,e2]
theorem nS (a b:Int):aa (Rat.divInt a b).num.natAbs<=aa a.natAbs:=by
 rw [Rat.num_divInt]
 refine aP ?_
 rcases Int.lt_trichotomy b 0 with h | h | h
 . rw [Int.sign_eq_neg_one_of_neg h]
   exact Nat.le_trans (Int.natAbs_ediv_le_natAbs _ _) (by omega)
 . subst h;simp
 . rw [Int.sign_eq_one_of_pos h]
   exact Nat.le_trans (Int.natAbs_ediv_le_natAbs _ _) (by omega)
theorem nV (a b:Int) (hb:b≠0):aa (Rat.divInt a b).den<=aa b.natAbs:=by
 rw [Rat.den_divInt,if_neg hb]
 exact aP (Nat.div_le_self _ _)
theorem Vy (a b:Rat):a+b=((a.num*b.den+b.num*a.den:Int):Rat)/((a.den*b.den:Int):Rat):=by
 rw [<- Rat.divInt_eq_div,Rat.add_def', <- Rat.divInt_ofNat];simp
theorem Kq (a b:Rat):a*b=((a.num*b.num:Int):Rat)/((a.den*b.den:Int):Rat):=by
 rw [<- Rat.divInt_eq_div,Rat.mul_def', <- Rat.divInt_ofNat];simp
theorem acI (a b:Rat):a/b=((a.num*b.den:Int):Rat)/((a.den*b.num:Int):Rat):=by
 rw [Rat.div_def,Rat.inv_def]
 conv=>lhs;lhs;rw [<- Rat.num_divInt_den a]
 rw [Rat.divInt_mul_divInt,Rat.divInt_eq_div]
theorem oH (q:Rat):(0:Int)<q.den:=by have:=q.den_nz;omega
theorem H7 (q:Rat):(q.den:Int)≠0:=by have:=oH q;omega
theorem pQ (a b:Rat):(a.den*b.den:Int)≠0:=Int.mul_ne_zero (H7 a) (H7 b)
theorem Sm.neg {k:Nat} {a:Rat} (h:Sm k a):Sm k (-a):=⟨by rw [Rat.neg_num,Int.natAbs_neg];exact h.1,h.2⟩
theorem jd {m n k:Nat} (hm:aa m<=k) (hn:aa n<=k):aa (m+n)<=k+1:=by
 refine cK ?_
 have h1:=Nat.lt_of_lt_of_le (b7 m) (Nat.pow_le_pow_right bx hm)
 have h2:=Nat.lt_of_lt_of_le (b7 n) (Nat.pow_le_pow_right bx hn)
 rw [Nat.pow_succ]
 have:2<=ak:=by decide
 have h3:ak ^ k*2<=ak ^ k*ak:=Nat.mul_le_mul_left _ this
 omega
theorem Sm.add {j k:Nat} {a b:Rat} (ha:Sm j a) (hb:Sm k b):Sm (j+k+1) (a+b):=by
 rw [Vy, <- Rat.divInt_eq_div]
 refine ⟨Nat.le_trans (nS _ _) ?_,Nat.le_trans (nV _ _ (pQ a b)) ?_⟩
 . have h1:=bF a.num b.den
   have h2:=bF b.num a.den
   have h3:((b.den:Nat):Int).natAbs=b.den:=rfl
   have h4:((a.den:Nat):Int).natAbs=a.den:=rfl
   rw [h3] at h1;rw [h4] at h2
   have:=ha.1;have:=ha.2;have:=hb.1;have:=hb.2
   exact Nat.le_trans (aP (Int.natAbs_add_le _ _)) (jd (k:=j+k) (by omega) (by omega))
 . have h1:=bF a.den b.den
   have h3:((b.den:Nat):Int).natAbs=b.den:=rfl
   have h4:((a.den:Nat):Int).natAbs=a.den:=rfl
   rw [h3,h4] at h1
   have:=ha.2;have:=hb.2
   omega
theorem Sm.sub {j k:Nat} {a b:Rat} (ha:Sm j a) (hb:Sm k b):Sm (j+k+1) (a-b):=by rw [Rat.sub_eq_add_neg];exact ha.add hb.neg
theorem Sm.mul {j k:Nat} {a b:Rat} (ha:Sm j a) (hb:Sm k b):Sm (j+k) (a*b):=by
 rw [Kq, <- Rat.divInt_eq_div]
 refine ⟨Nat.le_trans (nS _ _) ?_,Nat.le_trans (nV _ _ (pQ a b)) ?_⟩
 . have h1:=bF a.num b.num
   have:=ha.1;have:=hb.1
   omega
 . have h1:=bF a.den b.den
   have h3:((b.den:Nat):Int).natAbs=b.den:=rfl
   have h4:((a.den:Nat):Int).natAbs=a.den:=rfl
   rw [h3,h4] at h1
   have:=ha.2;have:=hb.2
   omega
theorem Sm.inv {k:Nat} {a:Rat} (h:Sm k a) (hk:1<=k):Sm k a⁻¹ := by
 refine ⟨?_, ?_⟩
 . rw [Rat.num_inv,Int.natAbs_mul]
   refine Nat.le_trans (aP (n:=a.den) ?_) h.2
   have:a.num.sign.natAbs<=1:=by rcases kW a.num with ⟨h,_⟩ | ⟨h,_⟩ | ⟨h,_⟩<;>rw [h]<;>decide
   have h2:((a.den:Nat):Int).natAbs=a.den:=rfl
   rw [h2]
   exact Nat.le_trans (Nat.mul_le_mul_right _ this) (by omega)
 . rw [Rat.den_inv]
   split
   . exact Nat.le_trans oD hk
   . exact h.1
theorem Sm.div {j k:Nat} {a b:Rat} (ha:Sm j a) (hb:Sm k b) (hk:1<=k):Sm (j+k) (a/b):=by rw [Rat.div_def];exact ha.mul (hb.inv hk)
theorem Sm.zero:Sm 1 0:=⟨by simp [aa,a9],oD⟩
def az (q:Rat):Int:=q.num.sign
theorem jL {q:Rat}:az q=0↔q=0:=by unfold az;rw [Int.sign_eq_zero_iff_zero,Rat.num_eq_zero]
def H8 (a b:Rat):Int:=eP (a.num*b.den) (b.num*a.den)
theorem Mp {a b:Rat}:H8 a b=0↔a=b:=by
 rw [Rat.eq_iff_mul_eq_mul]
 unfold H8
 rcases kV (a.num*b.den) (b.num*a.den) with ⟨h1,h2⟩ | ⟨h1,h2⟩ | ⟨h1,h2⟩<;>rw [h1]<;>constructor<;>intro h<;>first | omega | rfl | (simp at h)
theorem Mq {a b:Rat} (h:az a≠az b):H8 a b=if az a<az b then -1 else 1:=by
 have key:=B4 (y:=a.num*b.den) (z:=b.num*a.den) (by
   rw [Int.sign_mul,Int.sign_mul,Int.sign_eq_one_of_pos (oH a),Int.sign_eq_one_of_pos (oH b),Int.mul_one,Int.mul_one];exact h)
 unfold H8
 rw [<- key,Int.sign_mul,Int.sign_mul,Int.sign_eq_one_of_pos (oH a),Int.sign_eq_one_of_pos (oH b),Int.mul_one,Int.mul_one]
 unfold az at h ⊢
 unfold eP
 split
 . rfl
 . rw [if_pos (by omega)]
end Go.VL
end

section
namespace Go.VL
open Go.Lib
theorem kq {n:Nat} (h:n<10):decDigits n=[UInt8.ofNat (48+n)]:=decDigits_one h
theorem wH {n:Nat} (h : ¬ n<10):decDigits n=decDigits (n/10)++[UInt8.ofNat (48+n%10)]:=by rw [decDigits,dif_neg h]
end Go.VL
end

section
set_option linter.unusedVariables false
namespace Go.VL
def strs (l:List (List UInt8)):AV := .sl 1 (l.map .str)
theorem F4:∀ l:List (List UInt8),flat (l.map .str)=l.map .str
 | []=>rfl
 | s::l=>by have:=F4 l;simp only [List.map_cons,flat,List.flatMap_cons,AV.cells] at this ⊢;rw [this];rfl
theorem mb (l:List (List UInt8)):af (strs l):=af.sl (by rw [F4];intro c hc;simp at hc;obtain ⟨s,_,rfl⟩:=hc;exact af.str s)
section
variable {P:Program} {G:Nat->Option (List AV)}
end
end Go.VL
end

section
set_option linter.unusedVariables false
set_option linter.unusedVariables false
namespace Go.VL
def oJ (s:List UInt8):Nat:=match s with
 | []=>0
 | c::_=>if cy c=true then dZ cD s else 0
section
variable {P:Program} {G:Nat->Option (List AV)}
theorem Tu {f fl fd:FuncId} (h:Has P f (dW fl fd)) (hl:∀ c,VP P G fl [eH c] (.bool (cy c))) (hd:∀ c,VP P G fd [eH c] (.bool (gS c)))
   (s:List UInt8) (hs:s.length<9223372036854775807):VP P G f [.str s, .int .i64 0] (.int .i64 ((oJ s:Nat):Int)):=by
 cases s with
 | nil =>
   refine VP.has h ?_
   have z0:decide ((0:Int)=((0:Nat):Int))=true:=rfl
   have e:oJ []=0:=rfl
   rw [e]
   simp only [dW,SS,Nat.reduceAdd,z0]
   exact ao▸aj rfl (af.int _ _)
 | cons c0 s0 =>
   generalize hs0:c0::s0=s at hs ⊢
   have hlen:0<s.length:=by rw [<- hs0];simp
   have d0:decide ((0:Int)=(s.length:Int))=false:=ag (by omega)
   have SD:s[0]? = some c0:=by rw [<- hs0];rfl
   have On:=fR (k:=0) SD
   simp only [Int.natCast_zero] at On
   cases Tv:cy c0
   . have x5:=hl c0
     rw [Tv] at x5
     have e:oJ s=0:=by rw [<- hs0];simp [oJ,Tv]
     rw [e]
     refine VP.has h ?_
     simp only [dW,SS,Nat.reduceAdd,d0,On]
     refine aq x5 (by simp [dA]) ?_
     simp only [SS,Nat.reduceAdd]
     exact ao▸aj rfl (af.int _ _)
   have x5:=hl c0
   rw [Tv] at x5
   have e:oJ s=dZ cD s:=by rw [<- hs0];simp [oJ,Tv]
   rw [e]
   refine VP.has h ?_
   simp only [dW,SS,Nat.reduceAdd,d0,On]
   refine aq x5 (by simp [dA]) ?_
   simp only [SS,Nat.reduceAdd,bf]
   refine VW.dV (α := Nat × Nat) (fun x=>⟨[.str s, .int .i64 (x.1:Int), .top, .top, .top]++List.replicate 37 .top,fun _=>none,x.2⟩) (fun x=>x.1<=dZ cD s) (fun x=>dZ cD s-x.1) (0,1000) ?_ (Nat.zero_le _) ?_
   . exact Wk.slots (by simp [Fg,List.replicate]) (by omega)
   rintro ⟨k,n⟩ hk
   simp only [] at hk
   have O3:=zy cD s
   by_cases hlt:k<s.length
   . obtain ⟨c,hc⟩:∃ c,s[k]? = some c:=⟨_,List.getElem?_eq_getElem hlt⟩
     have d1:decide ((k:Int)<(s.length:Int))=true:=ai (by omega)
     have Ee:=hl c
     have Hr:=hd c
     have hwd:cD c=(cy c||gS c||decide ((c.toNat:Int)=95)):=rfl
     have fP:cD c=true->k<dZ cD s:=fun hw=>by
       rcases Nat.lt_or_ge k (dZ cD s) with q | q
       . exact q
       . have Sr:k=dZ cD s:=by omega
         rcases tk cD s with h0 | ⟨c',hc',S8⟩
         . rw [<- Sr,hc] at h0;cases h0
         . rw [<- Sr,hc] at hc';cases hc';rw [hw] at S8;cases S8
     have aid:cD c=false->k=dZ cD s:=fun hw=>by
       rcases Nat.lt_or_ge k (dZ cD s) with q | q
       . obtain ⟨c',hc',S8⟩:=zz cD s k q
         rw [hc] at hc';cases hc';rw [hw] at S8;cases S8
       . omega
     have hby:(eH c) = .int .u8 (c.toNat:Int):=rfl
     cases b1:cy c
     . rw [b1] at Ee hwd
       cases b2:gS c
       . rw [b2] at Hr hwd
         cases b3:decide ((c.toNat:Int)=95)
         . rw [b3] at hwd
           have Sr:=aid hwd
           simp only [SS,Nat.reduceAdd,d1,fR hc]
           refine aq Ee (by simp [dA]) ?_
           simp only [SS,Nat.reduceAdd,fR hc]
           refine aq Hr (by simp [dA]) ?_
           simp only [SS,Nat.reduceAdd,fR hc,hby,b3]
           rw [<- Sr]
           exact ao▸aj rfl (af.int _ _)
         . rw [b3] at hwd
           have O3:=fP hwd
           simp only [SS,Nat.reduceAdd,d1,fR hc]
           refine aq Ee (by simp [dA]) ?_
           simp only [SS,Nat.reduceAdd,fR hc]
           refine aq Hr (by simp [dA]) ?_
           simp only [SS,Nat.reduceAdd,fR hc,hby,b3,aF k (by omega)]
           exact ⟨(k+1,_),by simp only [];omega,by simp only [];omega,Wk.slots (by simp [Fg]) (Nat.le_refl _)⟩
       . rw [b2] at Hr hwd
         have O3:=fP hwd
         simp only [SS,Nat.reduceAdd,d1,fR hc]
         refine aq Ee (by simp [dA]) ?_
         simp only [SS,Nat.reduceAdd,fR hc]
         refine aq Hr (by simp [dA]) ?_
         simp only [SS,Nat.reduceAdd,aF k (by omega)]
         exact ⟨(k+1,_),by simp only [];omega,by simp only [];omega,Wk.slots (by simp [Fg]) (Nat.le_refl _)⟩
     . rw [b1] at Ee hwd
       have O3:=fP hwd
       simp only [SS,Nat.reduceAdd,d1,fR hc]
       refine aq Ee (by simp [dA]) ?_
       simp only [SS,Nat.reduceAdd,aF k (by omega)]
       exact ⟨(k+1,_),by simp only [];omega,by simp only [];omega,Wk.slots (by simp [Fg]) (Nat.le_refl _)⟩
   . have d1:decide ((k:Int)<(s.length:Int))=false:=ag (by omega)
     have Sr:k=dZ cD s:=by omega
     rw [<- Sr]
     simp only [SS,Nat.reduceAdd,d1]
     exact ao▸aj rfl (af.int _ _)
theorem H9 {f fw:FuncId} (h:Has P f (dI fw)) (hw:∀ s:List UInt8,s.length<9223372036854775807->VP P G fw [.str s, .int .i64 0] (.int .i64 ((oJ s:Nat):Int))) (s:List UInt8) :
   VP P G f [.str s] (.bool (dB s)):=by
 cases s with
 | nil =>
   refine VP.has h ?_
   simp only [dI,SS,Nat.reduceAdd]
   exact ao▸aj rfl (af.bool _)
 | cons c s =>
   have e0:(!((c::s)==([]:List UInt8)))=true:=rfl
   by_cases h1:(((s.length+1:Nat)):Int)<=24
   . refine VP.has h ?_
     simp only [dI,SS,Nat.reduceAdd,e0,h1,decide_true]
     refine aq (hw (c::s) (by simp only [List.length_cons];omega)) (by simp [af.str,af.int]) ?_
     by_cases h3:oJ (c::s)=s.length+1
     . have h4:(oJ (c::s):Int)=((s.length+1:Nat):Int):=by omega
       have:dB (c::s)=true:=by
         have hv:dB (c::s)=(decide ((c::s).length<=24)&&cy c&&decide (dZ cD (c::s)=(c::s).length)):=rfl
         have hwv:oJ (c::s)=if cy c=true then dZ cD (c::s) else 0:=rfl
         rw [hwv] at h3
         rw [hv]
         cases h2:cy c
         . rw [h2] at h3;simp at h3
         . rw [h2,if_pos rfl] at h3
           have g1:decide ((c::s).length<=24)=true:=ai (by rw [List.length_cons];omega)
           have g2:decide (dZ cD (c::s)=(c::s).length)=true:=ai (by rw [List.length_cons];omega)
           rw [g1,g2];rfl
       rw [this]
       simp only [SS,Nat.reduceAdd,h4,decide_true]
       exact ao▸aj rfl (af.bool _)
     . have h4 : ¬ (oJ (c::s):Int)=((s.length+1:Nat):Int):=by omega
       have:dB (c::s)=false:=by
         have hv:dB (c::s)=(decide ((c::s).length<=24)&&cy c&&decide (dZ cD (c::s)=(c::s).length)):=rfl
         have hwv:oJ (c::s)=if cy c=true then dZ cD (c::s) else 0:=rfl
         rw [hwv] at h3
         rw [hv]
         cases h2:cy c
         . rw [Bool.and_false,Bool.false_and]
         . rw [h2,if_pos rfl] at h3
           have g2:decide (dZ cD (c::s)=(c::s).length)=false:=ag (by rw [List.length_cons];omega)
           rw [g2,Bool.and_false]
       rw [this]
       simp only [SS,Nat.reduceAdd,h4,decide_false]
       exact ao▸aj rfl (af.bool _)
   . refine VP.has h ?_
     have:dB (c::s)=false:=by unfold dB;simp only [List.length_cons];simp;intro h;omega
     rw [this]
     simp only [dI,SS,Nat.reduceAdd,e0,h1,decide_false]
     exact ao▸aj rfl (af.bool _)
end
end Go.VL
end

section
set_option linter.unusedVariables false
set_option linter.unusedVariables false
namespace Go.VL
section
variable {P:Program} {G:Nat->Option (List AV)}
theorem bH {σ : ae} {id:Id} {k kk:Nat} {z v:AV} (h : σ id=some ⟨[z],kk,false⟩) (hz:z.size=k) (hv:v.cells.length=k) (h1:v.cells.all AV.one=true) (hu:z.upd 0 v.cells=v) :
   j5 σ k (.ref id 0 0) v=some { val := .tup [],rd:=[id],up:=[(id,some ⟨[v],kk,false⟩)] }:=by
 rw [lX (n:=k) (v:=v) h rfl (by rw [hv]) (by rw [hz];omega) h1]
 simp [hu]
end
end Go.VL
end

section
namespace Go.VL
section
variable {P:Program} {G:Nat->Option (List AV)} {π : Id} {Q:bP->VS->Prop} {s:VS} {x:bJ}
theorem VW.fJ (n:Nat) (h:VW P G π x (Then (s9 P G π x Q n) Q) s):VW P G π (.loop x) Q s:=VW.rounds (n+1) h
theorem s9.next (n:Nat) (h:VW P G π x (Then (s9 P G π x Q n) Q) s):s9 P G π x Q (n+1) s:=h
end
theorem ZZ:(decide ((0:Int)<0)=false)/\(decide ((0:Int)<1)=true)/\(decide ((1:Int)<1)=false)/\(decide ((0:Int)<2)=true)/\(decide ((1:Int)<2)=true)/\(decide ((2:Int)<2)=false)/\(IntKind.i64.wrap ((0:Int)+1)=1)/\(IntKind.i64.wrap ((1:Int)+1)=2)/\(decide ((0:Int)=0)=true)/\(decide ((1:Int)=1)=true)/\(decide ((0:Int)≠0)=false)/\(decide ((1:Int)=0)=false)/\(decide ((0:Int)<=0)=true)/\(decide ((1:Int)≠1)=false)/\(decide ((2:Int)≠2)=false)/\(decide ((1:Int)≠0)=true)/\(decide ((1:Int)<=1)=true)/\(decide ((1:Int)<=0)=false)/\(decide ((0:Int)<=1)=true)/\(decide ((2:Int)=2)=true):=by decide +kernel
theorem CC:(((0:Nat):Int)=0)/\(((1:Nat):Int)=1)/\(((2:Nat):Int)=2):=⟨rfl,rfl,rfl⟩
theorem g0 {α : Type} {a : α} {l:List α}:(a::l)[0]? = some a:=rfl
theorem g1 {α : Type} {a b : α} {l:List α}:(a::b::l)[1]? = some b:=rfl
theorem g2 {α : Type} {a b c : α} {l:List α}:(a::b::c::l)[2]? = some c:=rfl
theorem aif {id:Id} {els:List AV} {k:Nat} {b:Bool}:CV [(id,⟨els,k,b⟩)]=[(id,some ⟨els,k,true⟩)]:=rfl
theorem r8 {f:FuncId}:af (.fn (.func f) [] []):=af.fn (by simp) (by simp)
theorem aih {k:Nat} {e:AV} {es:List AV}:bG k (.sl k (e::es)) (.int .i64 0)=some (.ep e.cells 0):=by simp [bG]
theorem aii {k:Nat} {d e:AV} {es:List AV}:bG k (.sl k (d::e::es)) (.int .i64 1)=some (.ep e.cells 0):=by simp [bG]
theorem aij {k:Nat} {id:Id} {n:Nat} {t:Bool}:bG k (.osl id k 0 (n+1) t) (.int .i64 0)=some (.ref id 0 0):=by
 simp only [bG];rw [if_pos ⟨trivial,by omega,by omega⟩];rfl
theorem Vz {k:Nat} {id:Id} {t:Bool}:bG k (.osl id k 0 1 t) (.int .i64 0)=some (.ref id 0 0):=aij
theorem acJ {p:Id} {k bytes:Nat} {z:AV} (hb:bytes<=140737488355328) (hz:z.size=k) (h1:z.cells.all AV.one=true):g8 p k bytes z (.int .i64 1) (.int .i64 1)=some { val := .osl p k 0 1 false,up:=[(p,some ⟨[z],k,false⟩)] }:=by
 simp only [g8]
 rw [if_pos ⟨by decide,by decide,by omega,by decide,hz,h1⟩]
 rfl
theorem Yh {p:Id}:g8 p 4 64 (.agg [.bool false, .nils, .bool false, .nils]) (.int .i64 1) (.int .i64 1)=some { val := .osl p 4 0 1 false,up:=[(p,some ⟨[.agg [.bool false, .nils, .bool false, .nils]],4,false⟩)] }:=acJ (by decide) rfl rfl
theorem VA:bo .shl .int (.int .i64 1) (.int .i64 0)=some (.int .i64 1):=rfl
theorem F5 {k:Nat}:fC k .nils none (some (.int .i64 0)) none=some .nils:=rfl
theorem PG {σ : ae} {p id:Id} {k bytes:Nat} {e:AV} {b t:Bool} (h : σ id=some ⟨[e],k,b⟩) (hb:bytes<=140737488355328) (h1:e.cells.all AV.one=true) :
   dR σ p k bytes .nils (.osl id k 0 1 t)=some { val := .osl p k 0 1 false,rd:=[id],up:=[(p,some ⟨[e],k,false⟩)] } :=
 C3 (ys:=[e]) (by rw [qH h rfl (by simp)];rfl) (by simp) (by simpa using hb) (fQ (by simp)) (by simpa using h1)
theorem iT {σ : ae} {id:Id} {k:Nat} {e:AV} {b t:Bool} (h : σ id=some ⟨[e],k,b⟩) (hs:e.size=k) (hp:∀ c∈e.cells,af c):View σ (.osl id k 0 1 t) (.sl k [e]):=by
 refine View.osl (bk:=⟨[e],k,b⟩) h rfl (by simp) ?_ (by simp) (by simpa using hs)
 simpa [flat] using ah.pure hp
theorem kr {σ : ae} {id:Id} {k:Nat} {d e:AV} {b t:Bool} (h : σ id=some ⟨[d,e],k,b⟩) (hd:d.size=k) (hs:e.size=k) (hq:∀ c∈d.cells,af c) (hp:∀ c∈e.cells,af c):View σ (.osl id k 0 2 t) (.sl k [d,e]):=by
 refine View.osl (bk:=⟨[d,e],k,b⟩) h rfl (by simp) ?_ (by simp) (by simp [hd,hs])
 have:ah σ (flat [d,e]) (flat [d,e]):=ah.pure (by intro c hc;simp [flat] at hc;rcases hc with h | h;exact hq c h;exact hp c h)
 simpa using this
end Go.VL
end

section
set_option linter.unusedVariables false
set_option linter.unusedVariables false
namespace Go.VL
theorem Yj (q:Rat):part true (QV q).cells 0 4=some (QV q):=rfl
theorem PH (q:Rat):((QV q).cells.all AV.one=true)=True:=HY _ _
theorem Kr (q:Rat):(QV q).size=4:=rfl
theorem jj:af .nils:=af.nils
theorem zM {z d:Int} {q:Rat} (h1:q.num=z) (h2:(q.den:Int)=d):AV.agg [.bool (decide (z<0)),W z.natAbs, .bool (decide (d<0)),W d.natAbs]=QV q:=by subst h1;subst h2;rfl
def F6 (P:Program) (G:Nat->Option (List AV)) (f:FuncId):Prop:=∀ a b:Int,aa a.natAbs<=400000->aa b.natAbs<=400000->VP P G f [IV a,IV b] (IV (a+b))
def xB (P:Program) (G:Nat->Option (List AV)) (f:FuncId):Prop:=∀ a b:Int,aa a.natAbs<=400000->aa b.natAbs<=400000->VP P G f [IV a,IV b] (IV (a*b))
def F7 (P:Program) (G:Nat->Option (List AV)) (f:FuncId):Prop:=∀ a:Int,aa a.natAbs<=400000->VP P G f [IV a] (IV (-a))
def Dk (P:Program) (G:Nat->Option (List AV)) (f:FuncId):Prop:=∀ a:Int,aa a.natAbs<=400000->VP P G f [IV a] (.int .i64 a.sign)
def VB (P:Program) (G:Nat->Option (List AV)) (f:FuncId):Prop:=∀ a b:Int,aa a.natAbs<=400000->aa b.natAbs<=400000->VP P G f [IV a,IV b] (.int .i64 (eP a b))
def zO (P:Program) (G:Nat->Option (List AV)) (f:FuncId):Prop:=∀ z:Int,VP P G f [IV z] (.bool (decide (z=1)))
def lK (P:Program) (G:Nat->Option (List AV)) (f:FuncId):Prop:=∀ a b:Int,b≠0->aa a.natAbs<=400001->aa b.natAbs<=400000->VP P G f [IV a,IV b] (QV ((a:Rat)/(b:Rat)))
def Ks (P:Program) (G:Nat->Option (List AV)) (f:FuncId):Prop:=∀ a b:Rat,Sm 100000 a->Sm 100000 b->VP P G f [QV a,QV b] (QV (a+b))
def Kt (P:Program) (G:Nat->Option (List AV)) (f:FuncId):Prop:=∀ a b:Rat,Sm 100000 a->Sm 100000 b->VP P G f [QV a,QV b] (QV (a*b))
def Ku (P:Program) (G:Nat->Option (List AV)) (f:FuncId):Prop:=∀ a:Rat,Sm 100000 a->VP P G f [QV a] (QV (-a))
def Ia (P:Program) (G:Nat->Option (List AV)) (f:FuncId):Prop:=∀ a:Rat,Sm 100000 a->VP P G f [QV a] (.int .i64 (az a))
def VC (P:Program) (G:Nat->Option (List AV)) (f:FuncId):Prop:=∀ a b:Rat,Sm 100000 a->Sm 100000 b->VP P G f [QV a,QV b] (.int .i64 (H8 a b))
def VD (P:Program) (G:Nat->Option (List AV)) (f:FuncId):Prop:=∀ a b:Rat,b≠0->Sm 100000 a->Sm 100000 b->VP P G f [QV a,QV b] (.tup [QV (a/b), .int .i64 0])
def Dl (P:Program) (G:Nat->Option (List AV)) (f:FuncId):Prop:=∀ a:Rat,Sm 100000 a->VP P G f [QV a] (.bool true)
def VE (P:Program) (G:Nat->Option (List AV)) (f:FuncId):Prop:=∀ a:Int, -9223372036854775808<=a->a<9223372036854775808->VP P G f [.int .i64 a] (QV (a:Rat))
theorem cQ (n:Nat):aa ((n:Nat):Int).natAbs=aa n:=rfl
theorem rH {q:Rat} (h:(q.den:Int)=1):q=(q.num:Rat):=Rat.ext rfl (by rw [Rat.den_intCast];omega)
section
variable {P:Program} {G:Nat->Option (List AV)}
end
end Go.VL
end

section
set_option linter.unusedVariables false
set_option linter.unusedVariables false
namespace Go.VL
theorem acK (a:Int) (b:Nat) (hb:b≠0):QV ((a:Rat)/((b:Int):Rat))=RV (a/(Nat.gcd a.natAbs b:Nat)) ((b:Int)/(Nat.gcd a.natAbs b:Nat)):=by
 have h:=zL a b (by omega)
 rw [if_neg (by omega),Int.natAbs_natCast,Int.fdiv_eq_ediv_of_nonneg _ (Int.natCast_nonneg _),Int.fdiv_eq_ediv_of_nonneg _ (Int.natCast_nonneg _)] at h
 exact h.symm
theorem Tw (a b:Rat):(a+b).num=(a.num*((b.den/Nat.gcd a.den b.den:Nat):Int)+b.num*((a.den/Nat.gcd a.den b.den:Nat):Int))/(Nat.gcd (a.num*((b.den/Nat.gcd a.den b.den:Nat):Int)+b.num*((a.den/Nat.gcd a.den b.den:Nat):Int)).natAbs (Nat.gcd a.den b.den):Nat) /\
   (a+b).den=a.den/Nat.gcd a.den b.den*(b.den/Nat.gcd (a.num*((b.den/Nat.gcd a.den b.den:Nat):Int)+b.num*((a.den/Nat.gcd a.den b.den:Nat):Int)).natAbs (Nat.gcd a.den b.den)):=by
 show (Rat.add a b).num=_/\(Rat.add a b).den=_
 unfold Rat.add
 dsimp only
 split
 . rename_i h
   simp [h]
 . unfold Rat.maybeNormalize
   have hd:∀ x:Nat,Nat.gcd x (Nat.gcd a.den b.den) ∣ b.den:=fun x=>Nat.dvd_trans (Nat.gcd_dvd_right _ _) (Nat.gcd_dvd_right _ _)
   split
   . rename_i h
     have e:∀ (N:Int) (k x y:Nat),k=1->N=N/(k:Int)/\x*y=x*(y/k):=by
       intro N k x y hk;subst hk;simp
     exact e _ _ _ _ h
   . refine ⟨rfl, ?_⟩
     exact Nat.mul_div_assoc _ (hd _)
theorem Tx (a b:Rat):(a*b).num=a.num/(Nat.gcd a.num.natAbs b.den:Nat)*(b.num/(Nat.gcd b.num.natAbs a.den:Nat))/\(a*b).den=a.den/Nat.gcd b.num.natAbs a.den*(b.den/Nat.gcd a.num.natAbs b.den):=by
 show (Rat.mul a b).num=_/\(Rat.mul a b).den=_
 unfold Rat.mul
 simp
def PI (P:Program) (G:Nat->Option (List AV)) (f:FuncId):Prop:=∀ z:Int,aa z.natAbs<=1000000->VP P G f [IV z] (IV z)
def B8 (P:Program) (G:Nat->Option (List AV)) (f:FuncId):Prop:=∀ a b:Int,aa a.natAbs<=400001->aa b.natAbs<=400000->VP P G f [IV a,IV b] (IV (Nat.gcd a.natAbs b.natAbs:Nat))
def Kv (P:Program) (G:Nat->Option (List AV)) (f:FuncId):Prop:=∀ a b:Int,0<b->b ∣ a->aa a.natAbs<=400001->aa b.natAbs<=400000->VP P G f [IV a,IV b] (IV (a/b))
section
variable {P:Program} {G:Nat->Option (List AV)}
end
end Go.VL
end

section
set_option linter.unusedVariables false
set_option linter.unusedVariables false
namespace Go.VL
def EV (q:Rat):AV := .sl 4 [QV q]
theorem gU (q:Rat):∀ c∈(QV q).cells,af c:=by
 intro c hc
 simp only [QV,RV,AV.cells,List.mem_cons,List.not_mem_nil,or_false] at hc
 rcases hc with rfl | rfl | rfl | rfl
 . exact af.bool _
 . exact aM _
 . exact af.bool _
 . exact aM _
theorem b6 (q:Rat):af (EV q):=af.sl (by intro c hc;simp only [flat,List.flatMap_cons,List.flatMap_nil,List.append_nil] at hc;exact gU q c hc)
theorem Yk (q:Rat):jY false (EV q)=some (.int .i64 1):=rfl
theorem tC {σ : ae} {id:Id} {q:Rat} {b t:Bool} (h : σ id=some ⟨[QV q],4,b⟩):View σ (.osl id 4 0 1 t) (EV q):=iT h rfl (gU q)
section
variable {P:Program} {G:Nat->Option (List AV)}
end
end Go.VL
end

section
set_option linter.unusedVariables false
set_option linter.unusedVariables false
namespace Go.VL
def NV (q:Rat):AV := .agg [.nils,EV q]
theorem gb (q:Rat):af (NV q):=af.agg (by intro c hc;simp at hc;rcases hc with rfl | rfl;exact af.nils;exact b6 q)
theorem Yl (q:Rat):((NV q).cells.all AV.one=true)=True:=by simp [NV,AV.cells,AV.one,EV]
theorem acL (q:Rat):part false (NV q).cells 0 1=some .nils:=rfl
theorem acM (q:Rat):part false (NV q).cells 1 1=some (EV q):=rfl
theorem PJ (q:Rat):part true (NV q).cells 0 2=some (NV q):=rfl
theorem eg (q:Rat):∀ c∈(NV q).cells,af c:=by
 intro c hc
 simp only [NV,AV.cells,List.mem_cons,List.not_mem_nil,or_false] at hc
 rcases hc with rfl | rfl
 . exact af.nils
 . exact b6 q
theorem Mr:((AV.cells (.agg [.nils, .nils])).all AV.one=true)=True:=by simp [AV.cells,AV.one]
theorem Ty (q:Rat):lL [.nils, .nils] [(0,(1, .nils)),(1,(1,EV q))]=some [.nils,EV q]:=rfl
theorem acN (q:Rat):AV.agg [.nils,EV q]=NV q:=rfl
section
variable {P:Program} {G:Nat->Option (List AV)}
end
end Go.VL
end

section
set_option linter.unusedVariables false
set_option linter.unusedVariables false
namespace Go.VL
theorem B9 (q:Rat):decide ((aa q.num.natAbs:Int)=0)=decide (q=0):=by
 have h1:=bE (n:=q.num.natAbs)
 have h2:=Rat.num_eq_zero (q:=q)
 congr 1;apply propext
 rw [<- h2];omega
theorem three (a b:Int) (h : ¬ (a=1/\b=1)):(decide (a=1)=true/\decide (b=1)=false)∨(decide (a=1)=false/\decide (b=1)=false)∨(decide (a=1)=false/\decide (b=1)=true):=by
 by_cases h1:a=1<;>by_cases h2:b=1<;>simp_all
section
variable {P:Program} {G:Nat->Option (List AV)}
end
end Go.VL
end

section
set_option linter.unusedVariables false
set_option linter.unusedVariables false
namespace Go.VL
theorem Tz {σ : ae} {id:Id} {a b:Rat} {f t:Bool} (h : σ id=some ⟨[NV a,NV b],2,f⟩):View σ (.osl id 2 0 2 t) (.sl 2 [NV a,NV b]):=kr h rfl rfl (eg a) (eg b)
theorem TA {σ : ae} {id:Id} {a:Rat} {f t:Bool} (h : σ id=some ⟨[EV a],1,f⟩):View σ (.osl id 1 0 1 t) (.sl 1 [EV a]):=iT h rfl (by intro c hc;simp [EV,AV.cells] at hc;subst hc;exact b6 a)
section
variable {P:Program} {G:Nat->Option (List AV)}
theorem ks {f:FuncId} (h:Has P f cA) {es:List AV} (hk:∀ e∈es,e.size=4) (h1:(es.all fun e=>e.cells.all AV.one)=true) (hp:∀ c∈flat es,af c) (hl:es.length*64<=140737488355328):VP P G f [.sl 4 es] (.sl 4 es):=by
 refine VP.has h ?_
 have hb:∀ (σ : ae) (p:Id),bu σ p (.buildSl 4 0 (AV.agg [(.bool false), .nils,(.bool false), .nils]) [])=some { val := .tsl 4 [] }:=fun σ p=>bs0 rfl rfl
 cases es with
 | nil =>
   simp only [cA,SS,Nat.reduceAdd]
   refine ⟨?_, ?_⟩
   . exact ao▸⟨.nils,rfl,View.nils 4⟩
   . simp only [SS,Nat.reduceAdd,hb,mh gj]
     exact ao▸⟨_,rfl,View.Xw 4⟩
 | cons e es =>
   simp only [cA,SS,Nat.reduceAdd,hb]
   rw [mW (es:=[]) gj (by simp) (by simpa using hl) (fQ (by simp at hl ⊢;omega)) (by simpa using h1)]
   simp only [SS,Nat.reduceAdd]
   refine ao▸⟨_,rfl,View.osl (bk:=⟨e::es,4,false⟩) rfl rfl (by simp) ?_ (by simp) hk⟩
   simpa using ah.pure hp
theorem rI {f:FuncId} (h:Has P f cA) (q:Rat):VP P G f [EV q] (EV q) :=
 ks h (by simp [Kr]) (by simpa using (of_eq_true (PH q))) (by intro c hc;simp [flat] at hc;exact gU q c hc) (by simp)
theorem aik {f fc fi:FuncId} (h:Has P f (uQ fc fi)) (q:Rat) (hc:VP P G fc [EV q] (EV q)):VP P G f [.nils,EV q] (EV q):=by
 refine VP.has h ?_
 simp only [uQ]
 repeat (first
   | simp (disch:=first | decide | exact rfl) only [SS,Nat.reduceAdd,bf,ZZ,Yk,VA]
   | with_reducible refine aq (by assumption) (by simp [b6]) ?_
   | with_reducible refine aL (by assumption) (by simp [b6]) ?_
   | with_reducible refine And.intro (a:=aB _ _) (by simp [aB,apart]) ?_
   | with_reducible refine VW.fJ 3 (VW.of ?_)
   | with_reducible refine s9.next _ (VW.of ?_)
   | rw [bH (by exact rfl) (by exact rfl) (by exact rfl) (by exact rfl) (by exact rfl)]
   | rw [x7 (by exact rfl) (by exact rfl) (by exact rfl) (by exact rfl)]
   | rw [x8 (by exact rfl) (by exact rfl) (by exact rfl) (by exact rfl) (by exact rfl) (by exact rfl)]
   | fail)
 exact ao▸aj rfl (b6 _)
theorem Ib {f fj fo:FuncId} (h:Has P f (kS fj)) (a b c:Rat) (hj:VP P G fj [.sl 2 [NV a,NV b]] (.tup [.sl 2 [NV a,NV b], .int .i64 0])) (ho:VP P G fo [.nils,EV a,EV b] (EV c)) :
   VP P G f [NV a,NV b, .fn (.func fo) [] []] (.tup [NV c, .int .i64 0]):=by
 refine VP.has h ?_
 simp only [kS]
 repeat (first
   | simp (disch:=first | decide | exact rfl) only [SS,DD,Nat.reduceAdd,bj,aY,ZZ,aif,g0,g1,Yl,PJ,acL,acM,Mr,aih,aii,aS,Ty,acN]
   | with_reducible refine aq (by assumption) (by simp [jj,b6]) ?_
   | with_reducible refine aL (by assumption) (by simp [jj,b6]) ?_
   | with_reducible refine And.intro (a:=aB _ _) (by simp [aB,apart]) ?_
   | with_reducible refine VW.fJ 3 (VW.of ?_)
   | with_reducible refine s9.next _ (VW.of ?_)
   | rw [bH (by exact rfl) (by exact rfl) (by exact rfl) (by exact rfl) (by exact rfl)]
   | rw [x7 (by exact rfl) (by exact rfl) (by exact rfl) (by exact rfl)]
   | rw [x8 (by exact rfl) (by exact rfl) (by exact rfl) (by exact rfl) (by exact rfl) (by exact rfl)]
   | refine cB [([6],⟨[NV a,NV b],2,false⟩)] hj (ah.cons (Tz (by exact rfl)) ah.nil) (by simp [ae.put]) ?_
   | fail)
 refine ao▸aj (r := .tup [NV c, .int .i64 0]) ?_ (af.tup (by simp [gb,af.int]))
 simp only [RS,dU,fU,aY,PJ]
theorem Ms {f fi:FuncId} (h:Has P f (ld fi)) (hi:VP P G fi [.int .i64 0] (QV 0)) (p:Id):aw P G f [.int .i64 1] p [] { val := .osl (2::p) 4 0 1 false,rd:=[],up:=[(2::p,some ⟨[QV 0],4,false⟩)] }:=by
 refine aw.has h ?_
 simp only [ld]
 repeat (first
   | simp (disch:=first | decide | exact rfl) only [SS,Nat.reduceAdd,bf,ZZ,CC,Yh,Vz]
   | with_reducible refine aq (by assumption) (by simp [af.int]) ?_
   | with_reducible refine aL (by assumption) (by simp [af.int]) ?_
   | with_reducible refine And.intro (a:=aB _ _) (by simp [aB,apart]) ?_
   | with_reducible refine VW.fJ 3 (VW.of ?_)
   | with_reducible refine s9.next _ (VW.of ?_)
   | rw [bH (by exact rfl) (by exact rfl) (by exact rfl) (by exact rfl) (by exact rfl)]
   | rw [x7 (by exact rfl) (by exact rfl) (by exact rfl) (by exact rfl)]
   | rw [x8 (by exact rfl) (by exact rfl) (by exact rfl) (by exact rfl) (by exact rfl) (by exact rfl)]
   | rw [bH jm (by exact rfl) (by exact rfl) (by exact rfl) (by exact rfl)]
   | fail)
 refine jt▸dN (by simp [dU,fU]) fun i => ?_
 by_cases hi:i=2::p
 . right;subst hi;simp [ae.app,ae.put]
 . left;simp [ae.app,ae.put,hi,ae.of]
theorem F8 {f f1 f2 f3 fi:FuncId} (h:Has P f (lI f1 f2 f3)) (q:Rat) (h1:VP P G f1 [.nils] (.bool true)) (h2:VP P G f2 [QV q] (.bool true)) (h3:Has P f3 (ld fi)) (hi:VP P G fi [.int .i64 0] (QV 0)):VP P G f [.nils,QV q] (EV q):=by
 refine VP.has h ?_
 simp only [lI]
 repeat (first
   | simp (disch:=first | decide | exact rfl) only [SS,Nat.reduceAdd,bj,aY,PH,Yj,VA,Vz]
   | with_reducible refine aq (by assumption) (by simp [eC,af.int,jj]) ?_
   | with_reducible refine aL (by assumption) (by simp [af.int]) ?_
   | with_reducible refine And.intro (a:=aB _ _) (by simp [aB,apart]) ?_
   | with_reducible refine VW.fJ 3 (VW.of ?_)
   | with_reducible refine s9.next _ (VW.of ?_)
   | rw [bH (by exact rfl) (by exact rfl) (by exact rfl) (by exact rfl) (by exact rfl)]
   | rw [x7 (by exact rfl) (by exact rfl) (by exact rfl) (by exact rfl)]
   | rw [x8 (by exact rfl) (by exact rfl) (by exact rfl) (by exact rfl) (by exact rfl) (by exact rfl)]
   | refine ⟨_,_,Ms h3 hi _,by simp,by simp, ?_⟩
   | fail)
 refine ao▸⟨_,rfl,tC (by exact rfl)⟩
end
end Go.VL
end

section
set_option linter.unusedVariables false
set_option linter.unusedVariables false
namespace Go.VL
abbrev Q2:=Rat × Rat
def V2 (v:Q2):AV := .agg [.nils,EV v.1, .nils,EV v.2]
theorem fN (v:Q2):af (V2 v):=af.agg (by intro c hc;simp at hc;rcases hc with rfl | rfl | rfl | rfl;exact af.nils;exact b6 _;exact af.nils;exact b6 _)
theorem PK (v:Q2):part true (V2 v).cells 0 4=some (V2 v):=rfl
theorem Ca:((AV.cells (.agg [.nils, .nils, .nils, .nils])).all AV.one=true)=True:=by simp [AV.cells,AV.one]
def cX (a b:Q2):Rat:=a.1*b.1+a.2*b.2
def jW (a b:Q2):Q2:=(a.1+b.1,a.2+b.2)
def bR (a b:Q2):Q2:=(a.1-b.1,a.2-b.2)
def Kw (a:Q2):Q2:=(-a.1, -a.2)
def jN (a:Q2) (n:Rat):Q2:=(a.1*n,a.2*n)
section
variable {P:Program} {G:Nat->Option (List AV)}
end
end Go.VL
end

section
set_option linter.unusedVariables false
set_option linter.unusedVariables false
namespace Go.VL
def eB:cN:=⟨[.agg [.int .i64 0]],1,false⟩
def aC (P:Program) (G:Nat->Option (List AV)) (f:FuncId) (args:List AV) (r:AV):Prop :=
 ∀ (p id:Id), ¬ p <:+ id->aw P G f (.ref id 0 0::args) p [(id,eB)] { val:=r,rd:=[id] }
section
variable {P:Program} {G:Nat->Option (List AV)} {π : Id} {base:Nat} {Q:bP->VS->Prop} {n:Nat} {ps:List (Nat × Nat)} {d:Option Nat} {os:List bc} {i:Nat} {t:List AV} {σ : ae} {acc:List dH} {f:FuncId} {id:Id} {args:List AV} {r:AV}
end
section
variable {P:Program} {G:Nat->Option (List AV)}
end
end Go.VL
end

section
set_option linter.unusedVariables false
set_option linter.unusedVariables false
namespace Go.VL
open Go.Lib
structure CX where
 mF:Bool
 a:Q2
 b:Q2
 c:Q2
 cw:Bool
def CX.cells (x:CX):List AV:=[.bool x.mF, .nils,EV x.a.1, .nils,EV x.a.2, .nils,EV x.b.1, .nils,EV x.b.2, .nils,EV x.c.1, .nils,EV x.c.2, .bool x.cw]
def CX.av (x:CX):AV := .agg x.cells
theorem gE (x:CX):af x.av:=af.agg (by
 intro c hc
 simp only [CX.cells,List.mem_cons,List.not_mem_nil,or_false] at hc
 rcases hc with rfl | rfl | rfl | rfl | rfl | rfl | rfl | rfl | rfl | rfl | rfl | rfl | rfl | rfl<;>first | exact af.bool _ | exact af.nils | exact b6 _)
theorem oO (x:CX):∀ c∈x.av.cells,af c:=by
 intro c hc
 simp only [CX.av,AV.cells,CX.cells,List.mem_cons,List.not_mem_nil,or_false] at hc
 rcases hc with rfl | rfl | rfl | rfl | rfl | rfl | rfl | rfl | rfl | rfl | rfl | rfl | rfl | rfl<;>first | exact af.bool _ | exact af.nils | exact b6 _
theorem PL (x:CX):(x.av.cells.all AV.one=true)=True:=by simp [CX.av,CX.cells,AV.cells,AV.one,EV]
theorem Dm (x:CX):part true x.av.cells 0 14=some x.av:=rfl
def zC:AV := .agg [.bool false, .nils, .nils, .nils, .nils, .nils, .nils, .nils, .nils, .nils, .nils, .nils, .nils, .bool false]
theorem rJ:((AV.cells (.agg [.bool false, .nils, .nils, .nils, .nils, .nils, .nils, .nils, .nils, .nils, .nils, .nils, .nils, .bool false])).all AV.one=true)=True:=by simp [AV.cells,AV.one]
def F9 (u v:Q2):Rat:=cX (bR u v) (bR u v)
def CX.valid (x:CX):Bool:=if x.mF then decide (0<az (F9 x.a x.c))&&decide (F9 x.a x.c=F9 x.b x.c) else !decide (x.a=x.b)
theorem pR {a b:List UInt8} (h:a.length+b.length<=140737488355328):bo .add .str (.str a) (.str b)=some (.str (a++b)):=by
 have e:iH .add .str (.str a) (.str b)=some (.str (a++b)):=by
   simp only [iH,Sy];exact if_pos (by unfold maxLen;omega)
 simp only [bo,e]
theorem Ic {σ : ae} {p:Id} {k:IntKind} {n:Int} (h:0<=n/\n<128):bu σ p (.idStr (.int k n))=bd (some (.str [UInt8.ofNat n.toNat])):=if_pos h
section
variable {P:Program} {G:Nat->Option (List AV)}
theorem tD (m:Nat) (hm:m<1000):bo .rem .int (.int .i64 (m:Int)) (.int .i64 10)=some (.int .i64 ((m%10:Nat):Int))/\bo .add .int (.int .i64 48) (.int .i64 ((m%10:Nat):Int))=some (.int .i64 ((48+m%10:Nat):Int)) /\
   IntKind.i32.wrap ((48+m%10:Nat):Int)=((48+m%10:Nat):Int)/\(∀ σ p,bu σ p (.idStr (.int .i32 ((48+m%10:Nat):Int)))=bd (some (.str [UInt8.ofNat (48+m%10)])))/\bo .quo .int (.int .i64 (m:Int)) (.int .i64 10)=some (.int .i64 ((m/10:Nat):Int)):=by
 refine ⟨?_, ?_, ?_,fun σ p => ?_, ?_⟩
 . rw [show (10:Int)=((10:Nat):Int) from rfl,JP (by omega), <- Int.ofNat_tmod]
 . have e:IntKind.i64.wrap ((48:Int)+((m%10:Nat):Int))=((48+m%10:Nat):Int):=by rw [IntKind.wrap_i64];omega
   rw [CY,e]
 . rw [IntKind.wrap_i32];omega
 . have:=Ic (σ := σ) (p:=p) (k := .i32) (n:=((48+m%10:Nat):Int)) (by omega)
   rw [Int.toNat_natCast] at this;exact this
 . have e:IntKind.i64.wrap ((m:Int).tdiv 10)=((m/10:Nat):Int):=by rw [Int.tdiv_eq_ediv_of_nonneg (by omega),IntKind.wrap_i64];omega
   rw [CZ (by omega),e]
theorem Ga {f:FuncId} (h:Has P f gQ) (n:Nat) (hn:n<1000):VP P G f [.int .i64 (n:Int)] (.str (decDigits n)):=by
 have g1:((([]:List UInt8)==[])=true):=rfl
 have g2:∀ (x:UInt8) (l:List UInt8),((x::l)==[])=false:=fun _ _=>rfl
 obtain ⟨a1,a2,a3,a4,a5⟩:=tD n hn
 obtain ⟨b1,b2,b3,b4,b5⟩:=tD (n/10) (by omega)
 obtain ⟨c1,c2,c3,c4,c5⟩:=tD (n/10/10) (by omega)
 have s0:∀ x:UInt8,bo .add .str (.str [x]) (.str [])=some (.str [x]):=fun x=>pR (by simp)
 have s1:∀ x y:UInt8,bo .add .str (.str [x]) (.str [y])=some (.str [x,y]):=fun x y=>pR (by simp)
 have s2:∀ x y z:UInt8,bo .add .str (.str [x]) (.str [y,z])=some (.str [x,y,z]):=fun x y z=>pR (by simp)
 have e:decDigits n=if n<10 then [UInt8.ofNat (48+n%10)] else if n<100 then [UInt8.ofNat (48+n/10%10),UInt8.ofNat (48+n%10)] else [UInt8.ofNat (48+n/10/10%10),UInt8.ofNat (48+n/10%10),UInt8.ofNat (48+n%10)]:=by
   split
   . rw [kq (by assumption),Nat.mod_eq_of_lt (by assumption)]
   . split
     . rw [wH (by assumption),kq (by omega),Nat.mod_eq_of_lt (show n/10<10 by omega)];rfl
     . rw [wH (by assumption),wH (by omega),kq (by omega),Nat.mod_eq_of_lt (show n/10/10<10 by omega)];rfl
 rw [e]
 refine VP.has h ?_
 simp only [gQ]
 rcases (by omega:n<10∨(¬ n<10/\n<100)∨(¬ n<10 /\ ¬ n<100)) with k | ⟨k,k'⟩ | ⟨k,k'⟩
 . have d1:decide ((0:Int)<((n/10:Nat):Int))=false:=ag (by omega)
   rw [if_pos k]
   repeat (first
     | simp (disch:=first | decide | exact rfl) only [SS,Nat.reduceAdd,bf,g2,a1,a2,a3,a4,a5,s0,d1]
     | with_reducible refine aq (by assumption) (by simp [bU,aM,eC,af.int,af.bool,af.str,jj,b6,gb,fN,gE,r8]) ?_
     | with_reducible refine aL (by assumption) (by simp [bU,aM,eC,af.int,af.bool,af.str,jj,b6,gb,fN,gE,r8]) ?_
     | with_reducible refine And.intro (a:=aB _ _) (by simp [aB,apart]) ?_
     | with_reducible refine VW.fJ 3 (VW.of ?_)
     | with_reducible refine s9.next _ (VW.of ?_)
     | rw [bH (by exact rfl) (by exact rfl) (by exact rfl) (by exact rfl) (by exact rfl)]
     | rw [x7 (by exact rfl) (by exact rfl) (by exact rfl) (by exact rfl)]
     | rw [x8 (by exact rfl) (by exact rfl) (by exact rfl) (by exact rfl) (by exact rfl) (by exact rfl)]
     | fail)
   exact ao▸aj rfl (af.str _)
 . have d1:decide ((0:Int)<((n/10:Nat):Int))=true:=ai (by omega)
   have d2:decide ((0:Int)<((n/10/10:Nat):Int))=false:=ag (by omega)
   rw [if_neg k,if_pos k']
   repeat (first
     | simp (disch:=first | decide | exact rfl) only [SS,Nat.reduceAdd,bf,g2,a1,a2,a3,a4,a5,b1,b2,b3,b4,b5,s0,s1,d1,d2]
     | with_reducible refine aq (by assumption) (by simp [bU,aM,eC,af.int,af.bool,af.str,jj,b6,gb,fN,gE,r8]) ?_
     | with_reducible refine aL (by assumption) (by simp [bU,aM,eC,af.int,af.bool,af.str,jj,b6,gb,fN,gE,r8]) ?_
     | with_reducible refine And.intro (a:=aB _ _) (by simp [aB,apart]) ?_
     | with_reducible refine VW.fJ 3 (VW.of ?_)
     | with_reducible refine s9.next _ (VW.of ?_)
     | rw [bH (by exact rfl) (by exact rfl) (by exact rfl) (by exact rfl) (by exact rfl)]
     | rw [x7 (by exact rfl) (by exact rfl) (by exact rfl) (by exact rfl)]
     | rw [x8 (by exact rfl) (by exact rfl) (by exact rfl) (by exact rfl) (by exact rfl) (by exact rfl)]
     | fail)
   exact ao▸aj rfl (af.str _)
 . have d1:decide ((0:Int)<((n/10:Nat):Int))=true:=ai (by omega)
   have d2:decide ((0:Int)<((n/10/10:Nat):Int))=true:=ai (by omega)
   have d3:decide ((0:Int)<((n/10/10/10:Nat):Int))=false:=ag (by omega)
   rw [if_neg k,if_neg k']
   repeat (first
     | simp (disch:=first | decide | exact rfl) only [SS,Nat.reduceAdd,bf,g2,a1,a2,a3,a4,a5,b1,b2,b3,b4,b5,c1,c2,c3,c4,c5,s0,s1,s2,d1,d2,d3]
     | with_reducible refine aq (by assumption) (by simp [bU,aM,eC,af.int,af.bool,af.str,jj,b6,gb,fN,gE,r8]) ?_
     | with_reducible refine aL (by assumption) (by simp [bU,aM,eC,af.int,af.bool,af.str,jj,b6,gb,fN,gE,r8]) ?_
     | with_reducible refine And.intro (a:=aB _ _) (by simp [aB,apart]) ?_
     | with_reducible refine VW.fJ 3 (VW.of ?_)
     | with_reducible refine s9.next _ (VW.of ?_)
     | rw [bH (by exact rfl) (by exact rfl) (by exact rfl) (by exact rfl) (by exact rfl)]
     | rw [x7 (by exact rfl) (by exact rfl) (by exact rfl) (by exact rfl)]
     | rw [x8 (by exact rfl) (by exact rfl) (by exact rfl) (by exact rfl) (by exact rfl) (by exact rfl)]
     | fail)
   exact ao▸aj rfl (af.str _)
theorem Gb {f fd:FuncId} (h:Has P f (gR fd)) (n:Nat) (hd:VP P G fd [.int .i64 (n:Int)] (.str (decDigits n))):VP P G f [.int .i64 (n:Int)] (.str (decDigits n)):=by
 refine VP.has h ?_
 simp only [gR]
 repeat (first
   | simp (disch:=first | decide | exact rfl) only [SS,Nat.reduceAdd]
   | with_reducible refine aq (by assumption) (by simp [af.int]) ?_
   | with_reducible refine aL (by assumption) (by simp [af.int]) ?_
   | with_reducible refine And.intro (a:=aB _ _) (by simp [aB,apart]) ?_
   | with_reducible refine VW.fJ 3 (VW.of ?_)
   | with_reducible refine s9.next _ (VW.of ?_)
   | rw [bH (by exact rfl) (by exact rfl) (by exact rfl) (by exact rfl) (by exact rfl)]
   | rw [x7 (by exact rfl) (by exact rfl) (by exact rfl) (by exact rfl)]
   | rw [x8 (by exact rfl) (by exact rfl) (by exact rfl) (by exact rfl) (by exact rfl) (by exact rfl)]
   | fail)
 exact ao▸aj rfl (af.str _)
end
end Go.VL
end

section
set_option linter.unusedVariables false
set_option linter.unusedVariables false
set_option maxRecDepth 100000
namespace Go.VL
open Go.Lib
structure DX where
 mF:Bool
 cw:Bool
 a:Int × Int
 b:Int × Int
 step:Nat
 unit:Nat
def VF (p:Int × Int):Prop := -128<=p.1/\p.1<128 /\ -128<=p.2/\p.2<128
def DX.Ok (d:DX):Prop:=VF d.a/\VF d.b/\d.step<256/\d.unit<256
def I2 (p:Int × Int):AV := .agg [.int .i8 p.1, .int .i8 p.2]
def DX.av (d:DX):AV := .agg [.bool d.mF, .bool d.cw, .int .i8 d.a.1, .int .i8 d.a.2, .int .i8 d.b.1, .int .i8 d.b.2, .int .u8 d.step, .int .u8 d.unit]
def VG:List (Int × Int × Nat):=[(1,0,1),(3,4,5),(0,1,1),(-1,0,1),(0, -1,1),(4,3,5),(-3,4,5),(-4,3,5),(-4, -3,5),(-3, -4,5),(3, -4,5),(4, -3,5),(5,12,13),(12,5,13),(-5,12,13),(24,7,25)]
def oP (k:Nat):Q2:=match VG[k]? with | some (a,b,c)=>((a:Rat)/((c:Int):Rat),(b:Rat)/((c:Int):Rat)) | none=>(0,0)
def qv (p:Int × Int) (u:Nat):Q2:=((p.1:Rat)/(((u%4+1:Nat):Int):Rat),(p.2:Rat)/(((u%4+1:Nat):Int):Rat))
def DX.fx (d:DX):CX :=
 if d.mF then
   ⟨true,qv d.b d.unit,jW (qv d.a d.unit) (jW (jN (bR (qv d.b d.unit) (qv d.a d.unit)) (oP (d.step%16)).1) (jN (-(bR (qv d.b d.unit) (qv d.a d.unit)).2,(bR (qv d.b d.unit) (qv d.a d.unit)).1) (oP (d.step%16)).2)),qv d.a d.unit,d.cw⟩
 else ⟨false,qv d.a d.unit,qv d.b d.unit,(0,0),d.cw⟩
theorem jE (d:DX):af d.av:=af.agg (by simp [af.bool,af.int])
theorem Dn (d:DX):part true d.av.cells 0 8=some d.av:=rfl
theorem Ym (p:Int × Int):((I2 p).cells.all AV.one=true)=True:=by simp [I2,AV.cells,AV.one]
theorem acO (p:Int × Int):part false (I2 p).cells 0 1=some (.int .i8 p.1):=rfl
theorem acP (p:Int × Int):part false (I2 p).cells 1 1=some (.int .i8 p.2):=rfl
theorem TB (a b c:Int):lL [.int .i64 0, .int .i64 0, .int .i64 0] [(0,(1, .int .i64 a)),(1,(1, .int .i64 b)),(2,(1, .int .i64 c))]=some [.int .i64 a, .int .i64 b, .int .i64 c]:=rfl
def PM:List AV:=[.int .i64 1, .int .i64 0, .int .i64 1, .int .i64 3, .int .i64 4, .int .i64 5, .int .i64 0, .int .i64 1, .int .i64 1, .int .i64 (-1), .int .i64 0, .int .i64 1, .int .i64 0, .int .i64 (-1), .int .i64 1, .int .i64 4, .int .i64 3, .int .i64 5, .int .i64 (-3), .int .i64 4, .int .i64 5, .int .i64 (-4), .int .i64 3, .int .i64 5, .int .i64 (-4), .int .i64 (-3), .int .i64 5, .int .i64 (-3), .int .i64 (-4), .int .i64 5, .int .i64 3, .int .i64 (-4), .int .i64 5, .int .i64 4, .int .i64 (-3), .int .i64 5, .int .i64 5, .int .i64 12, .int .i64 13, .int .i64 12, .int .i64 5, .int .i64 13, .int .i64 (-5), .int .i64 12, .int .i64 13, .int .i64 24, .int .i64 7, .int .i64 25]
theorem Ie {z r:List AV} {ps:List (Nat × Nat × AV)} (h:lL z ps=some r):lL z ps=some r:=h
theorem ail {k:Nat} (h:k<16):k=0∨k=1∨k=2∨k=3∨k=4∨k=5∨k=6∨k=7∨k=8∨k=9∨k=10∨k=11∨k=12∨k=13∨k=14∨k=15:=by omega
theorem Cb {k:Nat} (h:k<16):∃ a b c,VG[k]? = some (a,b,c)/\c≠0/\c<=25 /\ -25<=a/\a<=25 /\ -25<=b/\b<=25/\part true (AV.agg PM).cells (k*3) 3=some (.agg [.int .i64 a, .int .i64 b, .int .i64 (c:Int)]):=by
 rcases ail h with rfl | rfl | rfl | rfl | rfl | rfl | rfl | rfl | rfl | rfl | rfl | rfl | rfl | rfl | rfl | rfl<;>exact ⟨_,_,_,rfl,by decide,by decide,by decide,by decide,by decide,by decide,rfl⟩
theorem PN:((-1-0:Int) = -1)/\((-1-2:Int) = -3)/\((-1-3:Int) = -4)/\((-1-4:Int) = -5):=by decide
theorem ia2 {id:Id}:j6 2 1 (.ref id 0 0) (.int .i64 0)=some (.ref id 0 0)/\j6 2 1 (.ref id 0 0) (.int .i64 1)=some (.ref id 0 1):=⟨rfl,rfl⟩
theorem ia3 {id:Id}:j6 3 1 (.ref id 0 0) (.int .i64 0)=some (.ref id 0 0)/\j6 3 1 (.ref id 0 0) (.int .i64 1)=some (.ref id 0 1)/\j6 3 1 (.ref id 0 0) (.int .i64 2)=some (.ref id 0 2):=⟨rfl,rfl,rfl⟩
def Ky (P:Program) (G:Nat->Option (List AV)) (f:FuncId):Prop:=∀ (a:Int) (b:Nat),b≠0->b<=1000 -> -1000<=a->a<=1000->VP P G f [.int .i64 a, .int .i64 (b:Int)] (QV ((a:Rat)/((b:Int):Rat)))
section
variable {P:Program} {G:Nat->Option (List AV)}
theorem agy {f fF fM:FuncId} (h:Has P f (lP fF fM)) (hF:Ky P G fF) (hM:∀ v:Q2,VP P G fM [QV v.1,QV v.2] (V2 v)) (p:Int × Int) (hp:VF p) (u:Nat) (hu:u<256):VP P G f [I2 p, .int .u8 (u:Int)] (V2 (qv p u)):=by
 obtain ⟨q1,q2,q3,q4⟩:=hp
 have r1:bo .rem .int (.int .u8 (u:Int)) (.int .u8 4)=some (.int .u8 ((u%4:Nat):Int)):=by
   show some (AV.int .u8 ((u:Int).tmod 4))=_
   rw [Int.tmod_eq_emod_of_nonneg (by omega)];rfl
 have r2:IntKind.i64.wrap ((u%4:Nat):Int)=((u%4:Nat):Int):=by rw [IntKind.wrap_i64];omega
 have r3:IntKind.i64.wrap (((u%4:Nat):Int)+1)=((u%4+1:Nat):Int):=by rw [IntKind.wrap_i64];omega
 have r4:IntKind.i64.wrap p.1=p.1:=by rw [IntKind.wrap_i64];omega
 have r5:IntKind.i64.wrap p.2=p.2:=by rw [IntKind.wrap_i64];omega
 have f1:=hF p.1 (u%4+1) (by omega) (by omega) (by omega) (by omega)
 have f2:=hF p.2 (u%4+1) (by omega) (by omega) (by omega) (by omega)
 have m1:VP P G fM _ _:=hM (qv p u)
 simp only [qv] at m1
 refine VP.has h ?_
 simp only [lP]
 repeat (first
   | simp (disch:=first | decide | exact rfl) only [SS,DD,Nat.reduceAdd,bj,aY,Ym,acO,acP,ia2,Ca,r1,r2,r3,r4,r5]
   | with_reducible refine aq (by assumption) (by simp [eC]) ?_
   | with_reducible refine aL (by assumption) (by simp [eC,af.int]) ?_
   | with_reducible refine And.intro (a:=aB _ _) (by simp [aB,apart]) ?_
   | with_reducible refine VW.fJ 3 (VW.of ?_)
   | with_reducible refine s9.next _ (VW.of ?_)
   | rw [bH (by exact rfl) (by exact rfl) (by exact rfl) (by exact rfl) (by exact rfl)]
   | rw [x7 (by exact rfl) (by exact rfl) (by exact rfl) (by exact rfl)]
   | rw [x8 (by exact rfl) (by exact rfl) (by exact rfl) (by exact rfl) (by exact rfl) (by exact rfl)]
   | fail)
 refine ao▸aj (r:=V2 (qv p u)) ?_ (fN _)
 simp (disch:=decide) only [RS,dU,fU,aY,PK,qv]
set_option maxHeartbeats 4000000 in
theorem Mt {f fF fM:FuncId} (h:Has P f (iA fF fM)) (hF:Ky P G fF) (hM:∀ v:Q2,VP P G fM [QV v.1,QV v.2] (V2 v)) (n:Nat) (hn:n<256):VP P G f [.int .u8 (n:Int)] (V2 (oP (n%16))):=by
 have r1:bo .rem .int (.int .u8 (n:Int)) (.int .u8 16)=some (.int .u8 ((n%16:Nat):Int)):=by
   show some (AV.int .u8 ((n:Int).tmod 16))=_
   rw [Int.tmod_eq_emod_of_nonneg (by omega)];rfl
 have hk:n%16<16:=Nat.mod_lt _ (by decide)
 generalize n%16=k at *
 have ia:∀ id:Id,j6 16 3 (.ref id 0 0) (.int .u8 (k:Int))=some (.ref id 0 (k*3)):=fun id=>by
   simp only [j6];rw [if_pos ⟨by omega,by omega⟩];simp
 obtain ⟨a,b,c,hu,c0,c1,a1,a2,b1,b2,hpt⟩:=Cb hk
 have f1:=hF a c c0 (by omega) (by omega) (by omega)
 have f2:=hF b c c0 (by omega) (by omega) (by omega)
 have m1:=hM (oP k)
 have e:oP k=((a:Rat)/((c:Int):Rat),(b:Rat)/((c:Int):Rat)):=by unfold oP;rw [hu]
 rw [e] at m1 ⊢
 simp only [] at m1
 have z1:((AV.cells (.agg [.int .i64 0, .int .i64 0, .int .i64 0])).all AV.one=true)=True:=by simp [AV.cells,AV.one]
 have z2:((AV.cells (.agg [.int .i64 a, .int .i64 b, .int .i64 (c:Int)])).all AV.one=true)=True:=by simp [AV.cells,AV.one]
 have p0:part false (AV.cells (.agg [.int .i64 a, .int .i64 b, .int .i64 (c:Int)])) 0 1=some (.int .i64 a):=rfl
 have p1:part false (AV.cells (.agg [.int .i64 a, .int .i64 b, .int .i64 (c:Int)])) 1 1=some (.int .i64 b):=rfl
 have p2:part false (AV.cells (.agg [.int .i64 a, .int .i64 b, .int .i64 (c:Int)])) 2 1=some (.int .i64 (c:Int)):=rfl
 refine VP.has h ?_
 simp only [iA,PN]
 repeat (first
   | simp (disch:=first | decide | exact rfl) only [SS,DD,Nat.reduceAdd,aY,TB,r1,ia,ia3,Ca,hpt,z1,p0,p1,p2]
   | with_reducible refine aq (by assumption) (by simp [eC]) ?_
   | with_reducible refine aL (by assumption) (by simp [eC,af.int]) ?_
   | with_reducible refine And.intro (a:=aB _ _) (by simp [aB,apart]) ?_
   | with_reducible refine VW.fJ 3 (VW.of ?_)
   | with_reducible refine s9.next _ (VW.of ?_)
   | rw [bH (by exact rfl) (by exact rfl) (by exact rfl) (by exact rfl) (by exact rfl)]
   | rw [x7 (by exact rfl) (by exact rfl) (by exact rfl) (by exact rfl)]
   | rw [x8 (by exact rfl) (by exact rfl) (by exact rfl) (by exact rfl) (by exact rfl) (by exact rfl)]
   | rw [Ie (r:=PM) (by exact rfl)]
   | rw [if_pos (by exact rfl)]
   | fail)
 refine ao▸aj (r:=V2 ((a:Rat)/((c:Int):Rat),(b:Rat)/((c:Int):Rat))) ?_ (fN _)
 simp (disch:=decide) only [RS,dU,fU,aY,PK]
end
end Go.VL
end

section
namespace Go.VL
def u7 {α : Type} (l:List α) (p : α -> Bool) (i:Nat):Prop:=∀ (j:Nat) y,j<i->l[j]? = some y->p y=false
theorem u7.any {α : Type} {l:List α} {p : α -> Bool} {i:Nat} (h:u7 l p i) (hi:l.length<=i):l.any p=false:=by
 rw [List.any_eq_false]
 intro x hx
 obtain ⟨j,hj⟩:=List.getElem?_of_mem hx
 rw [h j x (by have:=(List.getElem?_eq_some_iff.1 hj).1;omega) hj];simp
theorem PO {α : Type} {l:List α} {p : α -> Bool} {i:Nat} {x : α} (hx:l[i]? = some x) (hp:p x=true):l.any p=true:=List.any_eq_true.2 ⟨x,List.mem_of_getElem? hx,hp⟩
theorem u7.succ {α : Type} {l:List α} {p : α -> Bool} {i:Nat} {x : α} (h:u7 l p i) (hx:l[i]? = some x) (hp:p x=false):u7 l p (i+1):=by
 intro j y hj hy
 rcases (by omega:j<i∨j=i) with e | rfl
 . exact h j y e hy
 . rw [hx] at hy;simp only [Option.some.injEq] at hy;subst hy;exact hp
section
variable {P:Program} {G:Nat->Option (List AV)} {π : Id} {Q:bP->VS->Prop} {s:VS} {x:bJ}
end
end Go.VL
end

section
set_option linter.unusedVariables false
set_option linter.unusedVariables false
namespace Go.VL
open Go.Lib
structure NX where
 name:List UInt8
 c:CX
def NX.av (x:NX):AV := .agg (.str x.name::x.c.cells)
abbrev lg (l:List NX):AV := .sl 15 (l.map NX.av)
theorem u9 (x:NX):∀ c∈x.av.cells,af c:=by
 intro c hc
 rcases List.mem_cons.1 hc with rfl | hc
 . exact af.str _
 . exact oO x.c c hc
theorem lh (x:NX):af x.av:=af.agg (u9 x)
theorem zP (l:List NX):∀ c∈flat (l.map NX.av),af c:=by
 intro c hc
 simp only [flat,List.mem_flatMap,List.mem_map] at hc
 obtain ⟨_,⟨x,_,rfl⟩,hc⟩:=hc
 exact u9 x c hc
theorem iU (l:List NX):af (lg l):=af.sl (zP l)
theorem PQ (x:NX):(x.av.cells.all AV.one=true)=True:=by
 have:=of_eq_true (PL x.c)
 simp only [NX.av,AV.cells,List.all_cons,AV.one,Bool.true_and]
 simpa [CX.av,AV.cells] using this
theorem zS {l:List NX} {i:Nat} {x:NX} (h:l[i]? = some x):bG 15 (lg l) (.int .i64 (i:Int))=some (.ep x.av.cells 0):=eO rfl (by rw [List.getElem?_map,h];rfl)
def gV (l:List NX) (nm:List UInt8):Int:=AW (l.findIdx? fun x=>x.name==nm)
def TC (ins:List (List UInt8)) (n:Nat):Prop:=∃ j k x,j<k/\k<n/\ins[j]? = some x/\ins[k]? = some x
open Classical in
noncomputable def dk (nm:List UInt8) (l:List NX) (ins:List (List UInt8)):Int :=
 if dB nm=false∨ins=[] then 1 else if TC ins ins.length then 1 else if (ins.any fun s=>decide (gV l s<0))=true then 4 else 0
section
variable {P:Program} {G:Nat->Option (List AV)}
end
end Go.VL
end

section
set_option linter.unusedVariables false
set_option linter.unusedVariables false
set_option maxRecDepth 100000
namespace Go.VL
open Go.Lib
def bl (k:Nat) (v:Q2):Prop:=Sm k v.1/\Sm k v.2
theorem bl.mono {j k:Nat} {v:Q2} (h:bl j v) (H6:j<=k):bl k v:=⟨h.1.mono H6,h.2.mono H6⟩
theorem bl.add {j k:Nat} {a b:Q2} (ha:bl j a) (hb:bl k b):bl (j+k+1) (jW a b):=⟨ha.1.add hb.1,ha.2.add hb.2⟩
theorem bl.sub {j k:Nat} {a b:Q2} (ha:bl j a) (hb:bl k b):bl (j+k+1) (bR a b):=⟨ha.1.sub hb.1,ha.2.sub hb.2⟩
theorem bl.scale {j k:Nat} {a:Q2} {n:Rat} (ha:bl j a) (hn:Sm k n):bl (j+k) (jN a n):=⟨ha.1.mul hn,ha.2.mul hn⟩
theorem bl.left {j:Nat} {a:Q2} (ha:bl j a):bl j (-a.2,a.1):=⟨ha.2.neg,ha.1⟩
theorem Sm.dot {j k:Nat} {a b:Q2} (ha:bl j a) (hb:bl k b):Sm (j+k+(j+k)+1) (cX a b):=(ha.1.mul hb.1).add (ha.2.mul hb.2)
theorem Sm.F9 {j k:Nat} {a b:Q2} (ha:bl j a) (hb:bl k b):Sm (4*(j+k+1)+1) (F9 a b):=(Sm.dot (ha.sub hb) (ha.sub hb)).mono (by omega)
def CX.Sm (k:Nat) (x:CX):Prop:=bl k x.a/\bl k x.b/\bl k x.c
theorem CX.Sm.mono {j k:Nat} {x:CX} (h:x.Sm j) (H6:j<=k):x.Sm k:=⟨h.1.mono H6,h.2.1.mono H6,h.2.2.mono H6⟩
theorem ve {a:Int} {b:Nat} (hb:b≠0) (h1:a.natAbs<ak) (h2:b<ak):Sm 1 ((a:Rat)/((b:Int):Rat)):=by
 rw [<- Rat.divInt_eq_div]
 exact ⟨Nat.le_trans (nS _ _) (cK (by rw [Nat.pow_one];exact h1)),Nat.le_trans (nV _ _ (by omega)) (cK (by rw [Nat.pow_one];exact h2))⟩
theorem Dp {p:Int × Int} (hp:VF p) (u:Nat):bl 1 (qv p u):=by
 obtain ⟨q1,q2,q3,q4⟩:=hp
 exact ⟨ve (by omega) (by unfold ak;omega) (by unfold ak;omega),ve (by omega) (by unfold ak;omega) (by unfold ak;omega)⟩
theorem Gc {k:Nat} (hk:k<16):bl 1 (oP k):=by
 obtain ⟨a,b,c,hu,c0,c1,a1,a2,b1,b2,_⟩:=Cb hk
 unfold oP;rw [hu]
 exact ⟨ve c0 (by unfold ak;omega) (by unfold ak;omega),ve c0 (by unfold ak;omega) (by unfold ak;omega)⟩
theorem Gd {d:DX} (hd:d.Ok):d.fx.Sm 20:=by
 obtain ⟨h1,h2,h3,h4⟩:=hd
 have sa:=Dp h1 d.unit
 have sb:=Dp h2 d.unit
 have su:=Gc (Nat.mod_lt d.step (by decide:0<16))
 unfold DX.fx
 split
 . exact ⟨sb.mono (by omega),(sa.add (((sb.sub sa).scale su.1).add (((sb.sub sa).left).scale su.2))).mono (by omega),sa.mono (by omega)⟩
 . exact ⟨sa.mono (by omega),sb.mono (by omega),⟨Sm.zero.mono (by omega),Sm.zero.mono (by omega)⟩⟩
def PR (P:Program) (G:Nat->Option (List AV)) (f:FuncId):Prop:=∀ a b:Q2,bl 5000 a->bl 5000 b->aC P G f [V2 a,V2 b] (V2 (jW a b))
def VH (P:Program) (G:Nat->Option (List AV)) (f:FuncId):Prop:=∀ a b:Q2,bl 5000 a->bl 5000 b->aC P G f [V2 a,V2 b] (V2 (bR a b))
def Dq (P:Program) (G:Nat->Option (List AV)) (f:FuncId):Prop:=∀ (a:Q2) (n:Rat),bl 5000 a->Sm 5000 n->aC P G f [V2 a,NV n] (V2 (jN a n))
def Kz (P:Program) (G:Nat->Option (List AV)) (f:FuncId):Prop:=∀ x:CX,x.Sm 5000->VP P G f [x.av] (.bool x.valid)
section
variable {P:Program} {G:Nat->Option (List AV)}
end
end Go.VL
end

section
set_option linter.unusedVariables false
set_option linter.unusedVariables false
set_option maxRecDepth 100000
namespace Go.VL
open Go.Lib
def OL (q:Id) (k:Nat) (l:List AV):AV:=if l=[] then .nils else .osl q k 0 l.length false
def OB (k:Nat) (l:List AV):Option cN:=if l=[] then none else some ⟨l,k,false⟩
theorem Ig {q:Id} {k:Nat}:OL q k [] = .nils:=rfl
theorem PS {k:Nat}:OB k []=none:=rfl
theorem Ge {q:Id} {k:Nat} {l:List AV} (h:l≠[]):OL q k l = .osl q k 0 l.length false:=if_neg h
theorem Gf {k:Nat} {l:List AV} (h:l≠[]):OB k l=some ⟨l,k,false⟩:=if_neg h
theorem KA {q:Id} {k:Nat} {l:List AV} {x:AV}:OL q k (l++[x]) = .osl q k 0 (l.length+1) false:=by rw [Ge (by simp)];simp
theorem PT {q:Id} {k:Nat} {x:AV}:OL q k [x] = .osl q k 0 1 false:=rfl
theorem KB {k:Nat} {l:List AV} {x:AV}:OB k (l++[x])=some ⟨l++[x],k,false⟩:=Gf (by simp)
theorem KC {σ : ae} {p id Hp:Id} {k bytes:Nat} {l:List AV} {x:AV} {b t:Bool} (h : σ id=some ⟨[x],k,b⟩) (h2 : σ Hp=some ⟨l,k,false⟩) (hb:(l.length+1)*bytes<=140737488355328) (h0:0<bytes) (h1:x.cells.all AV.one=true) (h3:(l.all fun e=>e.cells.all AV.one)=true) :
   dR σ p k bytes (.osl Hp k 0 l.length false) (.osl id k 0 1 t)=some { val := .osl p k 0 (l.length+1) false,rd:=[Hp,id],up:=[(Hp,none),(p,some ⟨l++[x],k,false⟩)] } :=
 px (σ := σ) (p:=p) (id:=Hp) (k:=k) (bytes:=bytes) (len:=l.length) (x := .osl id k 0 1 t) (els:=l) (ys:=[x]) (rd:=[id]) (by rw [qH h rfl (by simp)];rfl) (by simp) h2 rfl hb (fQ (by have:=Nat.le_mul_of_pos_right (l.length+1) h0;simp;omega)) (by simpa using h1) h3
theorem KD {σ : ae} {q:Id} {k:Nat} {l:List AV} (h:l=[] ∨ σ q=some ⟨l,k,false⟩) (hk:∀ e∈l,e.size=k) (hp:∀ c∈flat l,af c):View σ (OL q k l) (.sl k l):=by
 by_cases hl:l=[]
 . subst hl;exact View.nils k
 . rw [Ge hl]
   exact View.osl (bk:=⟨l,k,false⟩) (h.resolve_left hl) rfl (by simp) (by simpa using ah.pure hp) (by simp) hk
theorem Mu {α β : Type} {l:List α} {i:Nat} {x : α} {f : α -> β} (h:l[i]? = some x):(l.take (i+1)).map f=(l.take i).map f++[f x]:=by
 rw [List.take_add_one,h];simp
abbrev VI (l:List CX):AV := .sl 14 (l.map CX.av)
abbrev Eg (l:List DX):AV := .sl 8 (l.map DX.av)
theorem Gg (l:List CX):∀ c∈flat (l.map CX.av),af c:=by
 intro c hc
 simp only [flat,List.mem_flatMap,List.mem_map] at hc
 obtain ⟨_,⟨x,_,rfl⟩,hc⟩:=hc
 exact oO x c hc
theorem oQ (l:List CX):af (VI l):=af.sl (Gg l)
theorem PV (l:List DX):af (Eg l):=af.sl (by
 intro c hc
 simp only [flat,List.mem_flatMap,List.mem_map] at hc
 obtain ⟨_,⟨x,_,rfl⟩,hc⟩:=hc
 simp only [DX.av,AV.cells,List.mem_cons,List.not_mem_nil,or_false] at hc
 rcases hc with rfl | rfl | rfl | rfl | rfl | rfl | rfl | rfl<;>first | exact af.bool _ | exact af.int _ _)
theorem Dr {l:List DX} {i:Nat} {x:DX} (h:l[i]? = some x):bG 8 (Eg l) (.int .i64 (i:Int))=some (.ep x.av.cells 0):=eO rfl (by rw [List.getElem?_map,h];rfl)
theorem PW {l:List CX} {i:Nat} {x:CX} (h:l[i]? = some x):bG 14 (VI l) (.int .i64 (i:Int))=some (.ep x.av.cells 0):=eO rfl (by rw [List.getElem?_map,h];rfl)
theorem pS {α : Type} {f : α -> AV} (h:∀ x,((f x).cells.all AV.one=true)=True) (l:List α):((l.map f).all fun e=>e.cells.all AV.one)=true:=by
 rw [List.all_eq_true];intro e he;obtain ⟨x,_,rfl⟩:=List.mem_map.1 he;exact of_eq_true (h x)
section
variable {P:Program} {G:Nat->Option (List AV)}
set_option maxHeartbeats 1000000 in
theorem Gh {f fc:FuncId} (h:Has P f (eN fc)) (ds:List DX) (hc:∀ d∈ds,VP P G fc [d.av] (.tup [d.fx.av, .bool d.fx.valid])) (hl:ds.length<=1000000) :
   VP P G f [Eg ds, .int .i64 6] (if 6<ds.length∨(ds.any (fun d:DX => !d.fx.valid))=true then .tup [.nils, .bool false] else .tup [VI (ds.map DX.fx), .bool true]):=by
 refine VP.has h ?_
 simp only [eN]
 by_cases h6:6<ds.length
 . have d0:decide ((6:Int)<(ds.length:Int))=true:=ai (by omega)
   rw [if_pos (.inl h6)]
   repeat (first
     | simp (disch:=first | decide | exact rfl) only [SS,Nat.reduceAdd,List.length_map,d0]
     | with_reducible refine aq (by assumption) (by simp [bU,aM,eC,af.int,af.bool,af.str,jj,b6,gb,fN,gE,lh,iU,jE,r8]) ?_
     | with_reducible refine aL (by assumption) (by simp [bU,aM,eC,af.int,af.bool,af.str,jj,b6,gb,fN,gE,lh,iU,jE,r8]) ?_
     | with_reducible refine And.intro (a:=aB _ _) (by simp [aB,apart]) ?_
     | with_reducible refine VW.fJ 3 (VW.of ?_)
     | with_reducible refine s9.next _ (VW.of ?_)
     | rw [bH (by exact rfl) (by exact rfl) (by exact rfl) (by exact rfl) (by exact rfl)]
     | rw [x7 (by exact rfl) (by exact rfl) (by exact rfl) (by exact rfl)]
     | rw [x8 (by exact rfl) (by exact rfl) (by exact rfl) (by exact rfl) (by exact rfl) (by exact rfl)]
     | fail)
   exact ao▸aj rfl (af.tup (by simp [jj,af.bool]))
 have d0:decide ((6:Int)<(ds.length:Int))=false:=ag (by omega)
 simp only [SS,Nat.reduceAdd,List.length_map,d0,bf]
 refine VW.dV (α := Nat × Nat × Nat) (fun y=>⟨[Eg ds, .int .i64 6, .top, .top, .top, .top,OL [y.2.2] 14 ((ds.take y.1).map fun d:DX=>d.fx.av), .int .i64 (y.1:Nat)]++List.replicate 27 .top,ae.put (fun _=>none) [y.2.2] (OB 14 ((ds.take y.1).map fun d:DX=>d.fx.av)),y.2.1⟩)
   (fun y=>y.1<=ds.length/\y.2.2<y.2.1/\u7 ds (fun d:DX => !d.fx.valid) y.1) (fun y=>ds.length-y.1) (0,1000,0) ?_ ?_ ?_
 . exact Wk.forget (by simp [Fg,List.replicate,OL]) (fun j => .inl (by simp [ae.put,OB])) (by simp only [];omega)
 . exact ⟨Nat.zero_le _,by decide,fun j e hj=>absurd hj (Nat.not_lt_zero j)⟩
 rintro ⟨i,m,q⟩ ⟨hi,hq,hn⟩
 simp only [] at hi hq hn
 by_cases hlt:i<ds.length
 . obtain ⟨x,hx⟩:∃ x,ds[i]? = some x:=⟨ds[i],by simp [hlt]⟩
   have d:decide ((i:Int)<(ds.length:Int))=true:=ai (by omega)
   have hv:=hc x (List.mem_of_getElem? hx)
   have TD:=Mu (f:=fun d:DX=>d.fx.av) hx
   have me:(((ds.take i).map fun d:DX=>d.fx.av).all fun e=>e.cells.all AV.one)=true:=pS (f:=fun d:DX=>d.fx.av) (fun d=>PL d.fx) _
   have hlen:((ds.take i).map fun d:DX=>d.fx.av).length<=6:=by simp;omega
   simp only []
   generalize hL:((ds.take i).map fun d:DX=>d.fx.av)=L at *
   have hnq:∀ j,m<=j->([j]:Id)≠[q]:=fun j hj=>by simp;omega
   cases hb:x.fx.valid<;>rw [hb] at hv
   . by_cases Su:L=[]
     . rw [Su]
       repeat (first
         | simp (disch:=first | decide | exact rfl) only [SS,Nat.reduceAdd,g0,g1,List.length_map,d,Dr hx,aS,Dn,rJ,Ig]
         | with_reducible refine aq (by assumption) (by simp [jE]) ?_
         | with_reducible refine aL (by assumption) (by simp [jE]) ?_
         | with_reducible refine And.intro (a:=aB _ _) (by simp [aB,apart]) ?_
         | with_reducible refine VW.fJ 3 (VW.of ?_)
         | with_reducible refine s9.next _ (VW.of ?_)
         | rw [bH (by repeat (first | exact jm | refine (j7 (by simp)).trans ?_)) (by exact rfl) (by exact rfl) (by exact rfl) (by exact rfl)]
         | rw [x7 (by exact rfl) (by exact rfl) (by exact rfl) (by exact rfl)]
         | rw [x8 (by exact rfl) (by exact rfl) (by exact rfl) (by exact rfl) (by exact rfl) (by exact rfl)]
         | fail)
       rw [if_pos (.inr (PO hx (by simp [hb])))]
       exact ao▸aj rfl (af.tup (by simp [jj,af.bool]))
     . rw [Ge Su]
       repeat (first
         | simp (disch:=first | decide | exact rfl) only [SS,Nat.reduceAdd,g0,g1,List.length_map,d,Dr hx,aS,Dn,rJ]
         | with_reducible refine aq (by assumption) (by simp [jE]) ?_
         | with_reducible refine aL (by assumption) (by simp [jE]) ?_
         | with_reducible refine And.intro (a:=aB _ _) (by simp [aB,apart]) ?_
         | with_reducible refine VW.fJ 3 (VW.of ?_)
         | with_reducible refine s9.next _ (VW.of ?_)
         | rw [bH (by repeat (first | exact jm | refine (j7 (by simp)).trans ?_)) (by exact rfl) (by exact rfl) (by exact rfl) (by exact rfl)]
         | rw [x7 (by exact rfl) (by exact rfl) (by exact rfl) (by exact rfl)]
         | rw [x8 (by exact rfl) (by exact rfl) (by exact rfl) (by exact rfl) (by exact rfl) (by exact rfl)]
         | fail)
       rw [if_pos (.inr (PO hx (by simp [hb])))]
       exact ao▸aj rfl (af.tup (by simp [jj,af.bool]))
   . by_cases Su:L=[]
     . subst Su
       repeat (first
         | simp (disch:=first | decide | exact rfl) only [SS,Nat.reduceAdd,aY,g0,g1,List.length_map,d,Dr hx,aS,Dn,Dm,rJ,Ig,PS,aF i (by omega)]
         | with_reducible refine aq (by assumption) (by simp [jE]) ?_
         | with_reducible refine aL (by assumption) (by simp [jE]) ?_
         | with_reducible refine And.intro (a:=aB _ _) (by simp [aB,apart]) ?_
         | with_reducible refine VW.fJ 3 (VW.of ?_)
         | with_reducible refine s9.next _ (VW.of ?_)
         | rw [bH (by repeat (first | exact jm | refine (j7 (by simp)).trans ?_)) (by exact rfl) (by exact rfl) (by exact rfl) (by exact rfl)]
         | rw [x7 (by exact rfl) (by exact rfl) (by exact rfl) (by exact rfl)]
         | rw [x8 (by exact rfl) (by exact rfl) (by exact rfl) (by exact rfl) (by exact rfl) (by exact rfl)]
         | rw [PG jm (by decide) (by exact rfl)]
         | fail)
       refine ⟨(i+1,_,m+4+11+2+3),⟨hlt, ?_,hn.succ hx (by simp [hb])⟩,by simp only [];omega,Wk.forget (by simp [Fg,TD,PT]) (fun j => ?_) (Nat.le_refl _)⟩
       . simp only [];omega
       . rw [TD];simp only [ae.put,List.nil_append];split<;>simp_all [OB]
     . rw [Ge Su,Gf Su]
       repeat (first
         | simp (disch:=first | decide | exact rfl) only [SS,Nat.reduceAdd,aY,g0,g1,List.length_map,d,Dr hx,aS,Dn,Dm,rJ,aF i (by omega)]
         | with_reducible refine aq (by assumption) (by simp [jE]) ?_
         | with_reducible refine aL (by assumption) (by simp [jE]) ?_
         | with_reducible refine And.intro (a:=aB _ _) (by simp [aB,apart]) ?_
         | with_reducible refine VW.fJ 3 (VW.of ?_)
         | with_reducible refine s9.next _ (VW.of ?_)
         | rw [bH (by repeat (first | exact jm | refine (j7 (by simp)).trans ?_)) (by exact rfl) (by exact rfl) (by exact rfl) (by exact rfl)]
         | rw [x7 (by exact rfl) (by exact rfl) (by exact rfl) (by exact rfl)]
         | rw [x8 (by exact rfl) (by exact rfl) (by exact rfl) (by exact rfl) (by exact rfl) (by exact rfl)]
         | rw [KC (l:=L) jm (by repeat (first | exact jm | refine (j7 (by simp;omega)).trans ?_)) (by omega) (by decide) (by exact rfl) me]
         | fail)
       refine ⟨(i+1,_,m+4+11+2+3),⟨hlt, ?_,hn.succ hx (by simp [hb])⟩,by simp only [];omega,Wk.forget (by simp [Fg,TD,KA]) (fun j => ?_) (Nat.le_refl _)⟩
       . simp only [];omega
       . rw [TD,KB];simp only [ae.put];split<;>simp_all
 . have d:decide ((i:Int)<(ds.length:Int))=false:=ag (by omega)
   have hii:i=ds.length:=by omega
   subst hii
   rw [if_neg (by simp only [not_or];exact ⟨h6,by rw [hn.any (Nat.le_refl _)];decide⟩)]
   simp only [List.take_length]
   repeat (first
     | simp (disch:=first | decide | exact rfl) only [SS,Nat.reduceAdd,List.length_map,d]
     | with_reducible refine aq (by assumption) (by simp [bU,aM,eC,af.int,af.bool,af.str,jj,b6,gb,fN,gE,lh,iU,jE,r8]) ?_
     | with_reducible refine aL (by assumption) (by simp [bU,aM,eC,af.int,af.bool,af.str,jj,b6,gb,fN,gE,lh,iU,jE,r8]) ?_
     | with_reducible refine And.intro (a:=aB _ _) (by simp [aB,apart]) ?_
     | with_reducible refine VW.fJ 3 (VW.of ?_)
     | with_reducible refine s9.next _ (VW.of ?_)
     | rw [bH (by repeat (first | exact jm | refine (j7 (by simp)).trans ?_)) (by exact rfl) (by exact rfl) (by exact rfl) (by exact rfl)]
     | rw [x7 (by exact rfl) (by exact rfl) (by exact rfl) (by exact rfl)]
     | rw [x8 (by exact rfl) (by exact rfl) (by exact rfl) (by exact rfl) (by exact rfl) (by exact rfl)]
     | fail)
   refine ao▸⟨_,rfl,View.tup (.cons ?_ (.cons (View.pure (af.bool _)) .nil))⟩
   have e:(ds.map fun d:DX=>d.fx.av)=(ds.map DX.fx).map CX.av:=by rw [List.map_map];rfl
   rw [e]
   refine KD ?_ (by intro a ha;obtain ⟨y,_,rfl⟩:=List.mem_map.1 ha;rfl) (Gg _)
   by_cases h0:(ds.map DX.fx).map CX.av=[]
   . exact .inl h0
   . right;simp only [ae.put,if_true];exact Gf h0
def named (cs:List CX):List NX:=cs.mapIdx fun i c=>⟨[107,47]++decDigits i,c⟩
theorem Ih {cs:List CX} {i:Nat} {x:CX} (h:cs[i]? = some x):(named (cs.take (i+1))).map NX.av=(named (cs.take i)).map NX.av++[NX.av ⟨[107,47]++decDigits i,x⟩]:=by
 have hlt:=(List.getElem?_eq_some_iff.1 h).1
 unfold named
 rw [List.take_add_one,h,List.mapIdx_append]
 simp [List.length_take,Nat.min_eq_left (Nat.le_of_lt hlt)]
theorem PX (s:List UInt8) (x:CX):lL [.str [], .bool false, .nils, .nils, .nils, .nils, .nils, .nils, .nils, .nils, .nils, .nils, .nils, .nils, .bool false] [(0,(1, .str s)),(1,(14,x.av))]=some (.str s::x.cells):=rfl
theorem VJ (s:List UInt8) (x:CX):AV.agg (.str s::x.cells)=NX.av ⟨s,x⟩:=rfl
set_option maxHeartbeats 1000000 in
theorem Mv {f fc fd:FuncId} (h:Has P f (iC fc fd)) (ds:List DX) (b:Bool) (cs:List CX) (hb:b=false->cs=[]) (hl:cs.length<=6) (hc:VP P G fc [Eg ds, .int .i64 6] (if b=true then .tup [VI cs, .bool true] else .tup [.nils, .bool false])) (hd:∀ n:Nat,n<1000->VP P G fd [.int .i64 (n:Int)] (.str (decDigits n))) :
   VP P G f [Eg ds] (.tup [lg (named cs), .bool b]):=by
 refine VP.has h ?_
 simp only [iC]
 have hp0:∀ c∈[Eg ds, .int .i64 6],af c:=by simp [PV,af.int]
 cases b
 . rw [hb rfl]
   rw [if_neg (by decide)] at hc
   simp only [SS,Nat.reduceAdd]
   refine aq hc hp0 ?_
   repeat (first
     | simp (disch:=first | decide | exact rfl) only [SS,Nat.reduceAdd,bf,ZZ,g0,g1]
     | with_reducible refine aq (by assumption) (by simp [af.int]) ?_
     | with_reducible refine aL (by assumption) (by simp [af.int]) ?_
     | with_reducible refine And.intro (a:=aB _ _) (by simp [aB,apart]) ?_
     | with_reducible refine VW.fJ 3 (VW.of ?_)
     | with_reducible refine s9.next _ (VW.of ?_)
     | rw [bH (by exact rfl) (by exact rfl) (by exact rfl) (by exact rfl) (by exact rfl)]
     | rw [x7 (by exact rfl) (by exact rfl) (by exact rfl) (by exact rfl)]
     | rw [x8 (by exact rfl) (by exact rfl) (by exact rfl) (by exact rfl) (by exact rfl) (by exact rfl)]
     | fail)
   exact ao▸⟨_,rfl,View.tup (.cons (View.nils 15) (.cons (View.pure (af.bool _)) .nil))⟩
 rw [if_pos rfl] at hc
 simp only [SS,Nat.reduceAdd]
 refine aq hc hp0 ?_
 simp only [SS,Nat.reduceAdd,g0,g1,bf]
 refine VW.dV (α := Nat × Nat × Nat) (fun y=>⟨[Eg ds, .top, .top, .top,VI cs, .bool true,OL [y.2.2] 15 ((named (cs.take y.1)).map NX.av), .int .i64 (y.1:Nat)]++List.replicate 24 .top,ae.put (fun _=>none) [y.2.2] (OB 15 ((named (cs.take y.1)).map NX.av)),y.2.1⟩)
   (fun y=>y.1<=cs.length/\y.2.2<y.2.1) (fun y=>cs.length-y.1) (0,1000,0) ?_ ⟨Nat.zero_le _,by decide⟩ ?_
 . exact Wk.forget (by simp [Fg,List.replicate,OL,named]) (fun j => .inl (by simp [ae.put,OB,named])) (by simp only [];omega)
 rintro ⟨i,m,q⟩ ⟨hi,hq⟩
 simp only [] at hi hq
 by_cases hlt:i<cs.length
 . obtain ⟨x,hx⟩:∃ x,cs[i]? = some x:=⟨cs[i],by simp [hlt]⟩
   have d:decide ((i:Int)<(cs.length:Int))=true:=ai (by omega)
   have hv:=hd i (by omega)
   have TD:=Ih hx
   have me:(((named (cs.take i)).map NX.av).all fun e=>e.cells.all AV.one)=true:=pS PQ _
   have hlen:((named (cs.take i)).map NX.av).length<=6:=by simp [named];omega
   have zT:bo .add .str (.str [107,47]) (.str (decDigits i))=some (.str ([107,47]++decDigits i)):=pR (by rw [kq (by omega)];simp)
   simp only []
   generalize ([107,47]++decDigits i)=nm at *
   generalize hL:(named (cs.take i)).map NX.av=L at *
   by_cases Su:L=[]
   . subst Su
     repeat (first
       | simp (disch:=first | decide | exact rfl) only [SS,DD,Nat.reduceAdd,List.length_map,d,PW hx,aS,Dm,zT,PX,VJ,Ig,PS,aF i (by omega)]
       | with_reducible refine aq (by assumption) (by simp [af.int]) ?_
       | with_reducible refine aL (by assumption) (by simp [af.int]) ?_
       | with_reducible refine And.intro (a:=aB _ _) (by simp [aB,apart]) ?_
       | with_reducible refine VW.fJ 3 (VW.of ?_)
       | with_reducible refine s9.next _ (VW.of ?_)
       | rw [bH (by repeat (first | exact jm | refine (j7 (by simp)).trans ?_)) (by exact rfl) (by exact rfl) (by exact rfl) (by exact rfl)]
       | rw [x7 (by exact rfl) (by exact rfl) (by exact rfl) (by exact rfl)]
       | rw [x8 (by exact rfl) (by exact rfl) (by exact rfl) (by exact rfl) (by exact rfl) (by exact rfl)]
       | rw [PG jm (by decide) (by exact rfl)]
       | fail)
     refine ⟨(i+1,_,m+4+10),⟨hlt, ?_⟩,by simp only [];omega,Wk.forget (by simp [Fg,TD,PT]) (fun j => ?_) (Nat.le_refl _)⟩
     . simp only [];omega
     . rw [TD];simp only [ae.put,List.nil_append];split<;>simp_all [OB]
   . rw [Ge Su,Gf Su]
     repeat (first
       | simp (disch:=first | decide | exact rfl) only [SS,DD,Nat.reduceAdd,List.length_map,d,PW hx,aS,Dm,zT,PX,VJ,aF i (by omega)]
       | with_reducible refine aq (by assumption) (by simp [af.int]) ?_
       | with_reducible refine aL (by assumption) (by simp [af.int]) ?_
       | with_reducible refine And.intro (a:=aB _ _) (by simp [aB,apart]) ?_
       | with_reducible refine VW.fJ 3 (VW.of ?_)
       | with_reducible refine s9.next _ (VW.of ?_)
       | rw [bH (by repeat (first | exact jm | refine (j7 (by simp)).trans ?_)) (by exact rfl) (by exact rfl) (by exact rfl) (by exact rfl)]
       | rw [x7 (by exact rfl) (by exact rfl) (by exact rfl) (by exact rfl)]
       | rw [x8 (by exact rfl) (by exact rfl) (by exact rfl) (by exact rfl) (by exact rfl) (by exact rfl)]
       | rw [KC (l:=L) jm (by repeat (first | exact jm | refine (j7 (by simp;omega)).trans ?_)) (by omega) (by decide) (by exact rfl) me]
       | fail)
     refine ⟨(i+1,_,m+4+10),⟨hlt, ?_⟩,by simp only [];omega,Wk.forget (by simp [Fg,TD,KA]) (fun j => ?_) (Nat.le_refl _)⟩
     . simp only [];omega
     . rw [TD,KB];simp only [ae.put];split<;>simp_all
 . have d:decide ((i:Int)<(cs.length:Int))=false:=ag (by omega)
   have hii:i=cs.length:=by omega
   subst hii
   simp only [List.take_length]
   repeat (first
     | simp (disch:=first | decide | exact rfl) only [SS,Nat.reduceAdd,List.length_map,d]
     | with_reducible refine aq (by assumption) (by simp [af.int]) ?_
     | with_reducible refine aL (by assumption) (by simp [af.int]) ?_
     | with_reducible refine And.intro (a:=aB _ _) (by simp [aB,apart]) ?_
     | with_reducible refine VW.fJ 3 (VW.of ?_)
     | with_reducible refine s9.next _ (VW.of ?_)
     | rw [bH (by repeat (first | exact jm | refine (j7 (by simp)).trans ?_)) (by exact rfl) (by exact rfl) (by exact rfl) (by exact rfl)]
     | rw [x7 (by exact rfl) (by exact rfl) (by exact rfl) (by exact rfl)]
     | rw [x8 (by exact rfl) (by exact rfl) (by exact rfl) (by exact rfl) (by exact rfl) (by exact rfl)]
     | fail)
   refine ao▸⟨_,rfl,View.tup (.cons (KD ?_ (by intro a ha;obtain ⟨y,_,rfl⟩:=List.mem_map.1 ha;rfl) (zP _)) (.cons (View.pure (af.bool _)) .nil))⟩
   by_cases h0:(named cs).map NX.av=[]
   . exact .inl h0
   . right;simp only [ae.put,if_true];exact Gf h0
end
end Go.VL
end

section
set_option linter.unusedVariables false
namespace Go.VL
theorem Ii (ws:List Nat) (ρ : Id->Id):bK ρ (us ws)=us ws:=by
 rw [fW];unfold us;rw [List.map_map];rfl
theorem nE.map {α : Type} {f : α -> AV} (h:∀ x,PU (f x)) (l:List α):nE (l.map f):=⟨by intro c hc;obtain ⟨x,_,rfl⟩:=List.mem_map.1 hc;exact (h x).pure,fun ρ => by rw [fW,List.map_map];exact List.map_congr_left fun x _=>(h x).fix ρ⟩
theorem nE.cells {c:AV} (h:PU c) (hp:∀ d∈c.cells,af d):nE c.cells:=⟨hp,fun ρ => by rw [<- ru,h.fix]⟩
theorem PU.rows {α : Type} {f : α -> AV} {k:Nat} (h:∀ x,PU (f x)) (hp:∀ x,∀ d∈(f x).cells,af d) (l:List α):PU (.sl k (l.map f)):=PU.slice (by
 intro c hc
 simp only [flat,List.mem_flatMap,List.mem_map] at hc
 obtain ⟨_,⟨x,_,rfl⟩,hc⟩:=hc
 exact hp x c hc) (by intro c hc ρ;obtain ⟨x,_,rfl⟩:=List.mem_map.1 hc;exact (h x).fix ρ)
instance {ws:List Nat}:PU (.sl 1 (us ws)):=⟨yd ws,fun ρ => by show AV.sl 1 (bK ρ (us ws))=_;rw [Ii]⟩
instance {i:IntKind} {n:Int}:PU (.sl 1 [.int i n]):=PU.slice (by intro c hc;simp [flat,AV.cells] at hc;subst hc;exact af.int _ _) (by intro c hc ρ;simp at hc;subst hc;rfl)
instance {n:Nat}:PU (W n):=⟨aM n,fun ρ => by show AV.sl 1 (bK ρ (us (digits n)))=_;rw [Ii];rfl⟩
instance {z:Int}:PU (IV z):=by unfold IV;infer_instance
instance {q:Rat}:PU (QV q):=by unfold QV RV;infer_instance
instance {q:Rat}:PU (EV q):=PU.slice (by intro c hc;simp only [flat,List.flatMap_cons,List.flatMap_nil,List.append_nil] at hc;exact gU q c hc) (by intro c hc ρ;simp at hc;subst hc;exact PU.fix ρ)
instance {q:Rat}:PU (NV q):=by unfold NV;infer_instance
instance {v:Q2}:PU (V2 v):=by unfold V2;infer_instance
instance {x:CX}:PU x.av:=by unfold CX.av CX.cells;infer_instance
instance {x:NX}:PU x.av:=by unfold NX.av CX.cells;infer_instance
instance {x:DX}:PU x.av:=by unfold DX.av;infer_instance
instance {l:List NX}:PU (lg l):=PU.rows (fun x=>inferInstance) u9 l
instance {l:List CX}:PU (VI l):=PU.rows (fun x=>inferInstance) oO l
instance {l:List DX}:PU (Eg l):=PU.rows (fun x=>inferInstance) (fun x d hd=>by
 simp only [DX.av,AV.cells,List.mem_cons,List.not_mem_nil,or_false] at hd
 rcases hd with rfl | rfl | rfl | rfl | rfl | rfl | rfl | rfl<;>first | exact af.bool _ | exact af.int _ _) l
instance {l:List (List UInt8)}:PU (strs l):=PU.rows (f:=AV.str) (fun x=>inferInstance) (fun x d hd=>by simp only [AV.cells,List.mem_singleton] at hd;subst hd;exact af.str x) l
theorem aT {ρ : Id->Id} {c:AV} {l:List AV}:bK ρ (c::l)=c.cG ρ :: bK ρ l:=rfl
theorem bn {ρ : Id->Id}:bK ρ []=[]:=rfl
theorem eI {ρ : Id->Id} {n:Nat}:bK ρ (List.replicate n .top)=List.replicate n .top:=by rw [fW,List.map_replicate];rfl
theorem PU.fixed {c:AV} [h:PU c] {ρ : Id->Id}:c.cG ρ = c:=h.fix ρ
theorem yh {ρ : Id->Id} {i:Id} {e o:Nat}:AV.cG ρ (.ref i e o) = .ref (ρ i) e o:=rfl
theorem vg {ρ : Id->Id} {i:Id} {k o l:Nat} {t:Bool}:AV.cG ρ (.osl i k o l t) = .osl (ρ i) k o l t:=rfl
theorem je {ρ : Id->Id}:AV.cG ρ .top = .top:=rfl
theorem bM {ρ : Id->Id} {l:List AV} {k:Nat} {b:Bool}:cN.cG ρ ⟨l,k,b⟩=⟨bK ρ l,k,b⟩:=rfl
theorem aU {ρ : Id->Id} {x:Id × cN} {K:List (Id × cN)}:oa ρ (x::K)=(ρ x.1,x.2.cG ρ)::oa ρ K:=rfl
theorem bh {ρ : Id->Id}:oa ρ []=[]:=rfl
theorem TE {ρ : Id->Id} {l:List NX}:bK ρ (l.map NX.av)=l.map NX.av:=(nE.map (fun x=>inferInstance) l).fix ρ
section
variable {P:Program} {G:Nat->Option (List AV)}
def bm {f:FuncId} {args iL:List AV} {r:AV} (S:List (Id × cN)) (h:VP P G f iL r) (hv:ah (ae.of S) args iL):Hint P G := .rel f args S (fun _=>{ val:=r,rd:=S.map (·.1),up:=CV S }) (fun p _=>aw.CW h hv) (fun p x hx=>List.mem_map.2 ⟨x,hx,rfl⟩)
def au {f:FuncId} {args:List AV} {r:AV} (id:Id) (h:aC P G f args r):Hint P G := .rel f (.ref id 0 0::args) [(id,eB)] (fun _=>{ val:=r,rd:=[id] }) (fun p hp=>h p id (hp (id,eB) (by simp))) (fun p x hx=>by simp at hx;subst hx;simp)
theorem aC.tr {f:FuncId} {vf:bp} (h:Has P f vf) (hs:List (Hint P G)) {args:List AV} {r:AV} [ha:nE args] [hr:PU r]
   (hx:xq vf.results [([1],eB)] (gv true 1000 vf.body [0] hs ⟨(.ref [1] 0 0::args)++List.replicate (vf.nt-(AV.ref [1] 0 0::args).length) (.tup []),x9 [([1],eB)],0⟩)=xt r [([1],eB)] (gv true 1000 vf.body [0] hs ⟨(.ref [1] 0 0::args)++List.replicate (vf.nt-(AV.ref [1] 0 0::args).length) (.tup []),x9 [([1],eB)],0⟩):=by kernel_rfl):aC P G f args r:=fun p id kY =>
 aw.trs h (fun _=>id) hs (.ref [1] 0 0::args) [([1],eB)] r hx (by rw [aT,ha.fix];rfl) rfl (hr.fix _) (by simp)
end
end Go.VL
end

section
set_option linter.unusedVariables false
set_option linter.unusedVariables false
set_option maxRecDepth 100000
namespace Go.VL
open Go.Lib
def CX.shift (x:CX) (w:Q2):CX:=⟨x.mF,jW x.a w,jW x.b w,if x.mF then jW x.c w else x.c,x.cw⟩
def cF (l:List NX) (s:List UInt8):CX:=match l[(gV l s).toNat]? with | some x=>x.c | none=>⟨false,(0,0),(0,0),(0,0),false⟩
theorem Yn {i:Nat} (h:i<1000):(decDigits i).length<=3:=by
 by_cases h1:i<10
 . rw [kq h1];simp
 . rw [wH h1]
   by_cases h2:i/10<10
   . rw [kq h2];simp
   . rw [wH h2,kq (by omega)];simp
theorem zU {l:List NX} {s:List UInt8} (h : ¬ gV l s<0):∃ (k:Nat) (x:NX),gV l s=(k:Int)/\l[k]? = some x/\x.name=s/\cF l s=x.c:=by
 unfold gV at h ⊢
 cases hf:l.findIdx? fun x=>x.name==s with
 | none=>rw [hf] at h;simp [AW] at h
 | some k =>
   rw [List.findIdx?_eq_some_iff_getElem] at hf
   obtain ⟨hlt,he,_⟩:=hf
   refine ⟨k,l[k],rfl,by simp [hlt],by simpa using he, ?_⟩
   have h2:gV l s=(k:Int):=by
     unfold gV
     have:(l.findIdx? fun x=>x.name==s)=some k:=by rw [List.findIdx?_eq_some_iff_getElem];exact ⟨hlt,he,by assumption⟩
     rw [this];rfl
   unfold cF
   rw [h2];simp [hlt]
theorem zV {nm:List UInt8} {l:List NX} {ins:List (List UInt8)} (h:dk nm l ins=0):dB nm=true/\ins≠[]/\∀ s∈ins, ¬ gV l s<0:=by
 unfold dk at h
 split at h
 . cases h
 rename_i h1
 split at h
 . cases h
 split at h
 . cases h
 rename_i h3
 refine ⟨by simp only [not_or] at h1;simpa using h1.1,fun e=>h1 (.inr e),fun s hs hn=>h3 (List.any_eq_true.2 ⟨s,hs,decide_eq_true hn⟩)⟩
section
variable {P:Program} {G:Nat->Option (List AV)}
end
end Go.VL
end

section
set_option linter.unusedVariables false
set_option linter.unusedVariables false
set_option maxRecDepth 100000
namespace Go.VL
open Go.Lib
theorem oR (q:Rat):decide (az q=0)=decide (q=0):=by congr 1;exact propext jL
section
variable {P:Program} {G:Nat->Option (List AV)} {Q:bP->VS->Prop}
end
section
variable {P:Program} {G:Nat->Option (List AV)}
end
end Go.VL
end

section
set_option linter.unusedVariables false
set_option linter.unusedVariables false
set_option maxRecDepth 100000
namespace Go.VL
open Go.Lib
abbrev zN:AV := .agg [.str [], .bool false, .nils, .nils, .nils, .nils, .nils, .nils, .nils, .nils, .nils, .nils, .nils, .nils, .bool false]
theorem KE {a b:List NX}:af (.sl 1 [lg a,lg b]):=af.sl (by intro c hc;simp [flat,AV.cells] at hc;rcases hc with rfl | rfl<;>exact iU _)
theorem Yo {q:Id} {n:Nat} (h0:0<n) (hn:n<=1000):Bd q 15 320 zN .nils (.int .i64 (n:Int))=some { val := .osl q 15 0 n false,up:=[(q,some ⟨List.replicate n zN,15,false⟩)] }:=by
 simp only [Bd]
 rw [if_pos ⟨by omega,by omega,by have:n<=maxLen:=fQ (by omega);omega,rfl,rfl⟩]
 simp
section
variable {P:Program} {G:Nat->Option (List AV)}
theorem Ds {f:FuncId} (h:Has P f dF) (n:Nat) (h0:0<n) (hn:n<=1000) (p:Id):aw P G f [.nils, .int .i64 (n:Int)] p [] { val := .osl (18::p) 15 0 0 false,up:=[(18::p,some ⟨List.replicate n zN,15,false⟩)] }:=by
 have d1:decide ((n:Int)<0)=false:=ag (by omega)
 have d2:decide ((0:Int)<(n:Int))=true:=ai (by omega)
 have w1:IntKind.i64.wrap ((0:Int)-0)=0:=by decide
 have w2:IntKind.i64.wrap ((n:Int)-0)=(n:Int):=by rw [IntKind.wrap_i64];omega
 have cp:NM .nils=some (.int .i64 0):=rfl
 have so:∀ q:Id,fC 15 (.osl q 15 0 n false) none (some (.int .i64 0)) none=some (.osl q 15 0 0 false):=fun q=>tz (h:=0) (Nat.zero_le _)
 refine aw.has h ?_
 simp only [dF]
 repeat (first
   | simp (disch:=first | decide | exact rfl) only [SS,Nat.reduceAdd,d1,d2,w1,w2,cp,F5,Yo h0 hn,so]
   | with_reducible refine aq (by assumption) (by simp [bU,aM,eC,af.int,af.bool,af.str,jj,b6,gb,fN,gE,lh,iU,mb,oQ,KE,r8]) ?_
   | with_reducible refine aL (by assumption) (by simp [bU,aM,eC,af.int,af.bool,af.str,jj,b6,gb,fN,gE,lh,iU,mb,oQ,KE,r8]) ?_
   | with_reducible refine And.intro (a:=aB _ _) (by simp [aB,apart]) ?_
   | with_reducible refine VW.fJ 3 (VW.of ?_)
   | with_reducible refine s9.next _ (VW.of ?_)
   | rw [bH (by repeat (first | exact jm | refine (j7 (by simp)).trans ?_)) (by exact rfl) (by exact rfl) (by exact rfl) (by exact rfl)]
   | rw [x7 (by exact rfl) (by exact rfl) (by exact rfl) (by exact rfl)]
   | rw [x8 (by exact rfl) (by exact rfl) (by exact rfl) (by exact rfl) (by exact rfl) (by exact rfl)]
   | fail)
 refine jt▸dN rfl (fun i => ?_)
 by_cases e:i=18::p
 . right;subst e;simp [ae.app,ae.put]
 . left;simp [ae.app,ae.put,ae.of,e]
end
end Go.VL
end

section
set_option linter.unusedVariables false
set_option linter.unusedVariables false
set_option maxRecDepth 100000
namespace Go.VL
open Go.Lib
def VK:List UInt8:=[48,49,50,51,52,53,54,55,56,57,97,98,99,100,101,102,103,104,105,106,107,108,109,110,111,112,113,114,115,116,117,118,119,120,121,122]
def zW:List UInt8:=(List.range 100).flatMap fun n=>[UInt8.ofNat (48+n/10),UInt8.ofNat (48+n%10)]
theorem Mw:∀ n,n<100->(zW.take (n*2+2)).drop (n*2)=[UInt8.ofNat (48+n/10),UInt8.ofNat (48+n%10)]:=by decide
theorem PY {L:List UInt8} (hL:L=zW) {n:Nat} (hn:n<100):pj (.str L) (some (.int .i64 ((n*2:Nat):Int))) (some (.int .i64 ((n*2+2:Nat):Int)))=some (.str [UInt8.ofNat (48+n/10),UInt8.ofNat (48+n%10)]):=by
 subst hL
 have hlen:zW.length=200:=by decide
 have h1:n*2+2<=zW.length:=by omega
 rw [<- Mw n hn]
 have b:et zW.length (some (.int .i64 ((n*2:Nat):Int))) (some (.int .i64 ((n*2+2:Nat):Int)))=some (n*2,n*2+2):=by
   rw [hlen];simp only [et,iI];rw [if_pos (by omega)];simp only [Int.toNat_natCast];rw [if_pos (by omega)]
 simp only [pj,b]
section
variable {P:Program} {G:Nat->Option (List AV)}
theorem acQ {f:FuncId} (h:Has P f jv) (n:Nat) (hn:n<100):VP P G f [.int .i64 (n:Int)] (.str (decDigits n)):=by
 have w1:IntKind.i64.wrap ((n:Int)+1)=((n+1:Nat):Int):=by rw [IntKind.wrap_i64];omega
 have w2:IntKind.i64.wrap ((n:Int)*2)=((n*2:Nat):Int):=by rw [IntKind.wrap_i64];omega
 have w3:IntKind.i64.wrap (((n*2:Nat):Int)+2)=((n*2+2:Nat):Int):=by rw [IntKind.wrap_i64];omega
 refine VP.has h ?_
 simp only [jv]
 by_cases h0:n<10
 . have d0:decide ((n:Int)<10)=true:=ai (by omega)
   have e:∀ n,n<10->pj (.str VK) (some (.int .i64 ((n:Nat):Int))) (some (.int .i64 ((n+1:Nat):Int)))=some (.str [UInt8.ofNat (48+n)]):=by
     intro n hn
     rcases (by omega:n=0∨n=1∨n=2∨n=3∨n=4∨n=5∨n=6∨n=7∨n=8∨n=9) with rfl | rfl | rfl | rfl | rfl | rfl | rfl | rfl | rfl | rfl<;>rfl
   have e1:=e n h0
   unfold VK at e1
   rw [kq h0]
   repeat (first
     | simp (disch:=first | decide | exact rfl) only [SS,Nat.reduceAdd,d0,w1,e1]
     | with_reducible refine aq (by assumption) (by simp [bU,aM,eC,af.int,af.bool,af.str,jj,b6,gb,fN,gE,lh,iU,mb,oQ,r8]) ?_
     | with_reducible refine aL (by assumption) (by simp [bU,aM,eC,af.int,af.bool,af.str,jj,b6,gb,fN,gE,lh,iU,mb,oQ,r8]) ?_
     | with_reducible refine And.intro (a:=aB _ _) (by simp [aB,apart]) ?_
     | with_reducible refine VW.fJ 3 (VW.of ?_)
     | with_reducible refine s9.next _ (VW.of ?_)
     | rw [bH (by exact rfl) (by exact rfl) (by exact rfl) (by exact rfl) (by exact rfl)]
     | rw [x7 (by exact rfl) (by exact rfl) (by exact rfl) (by exact rfl)]
     | rw [x8 (by exact rfl) (by exact rfl) (by exact rfl) (by exact rfl) (by exact rfl) (by exact rfl)]
     | fail)
   exact ao▸aj rfl (af.str _)
 . have d0:decide ((n:Int)<10)=false:=ag (by omega)
   rw [wH h0,kq (by omega)]
   repeat (first
     | simp (disch:=first | decide | exact rfl) only [SS,Nat.reduceAdd,d0,w2,w3]
     | with_reducible refine aq (by assumption) (by simp [bU,aM,eC,af.int,af.bool,af.str,jj,b6,gb,fN,gE,lh,iU,mb,oQ,r8]) ?_
     | with_reducible refine aL (by assumption) (by simp [bU,aM,eC,af.int,af.bool,af.str,jj,b6,gb,fN,gE,lh,iU,mb,oQ,r8]) ?_
     | with_reducible refine And.intro (a:=aB _ _) (by simp [aB,apart]) ?_
     | with_reducible refine VW.fJ 3 (VW.of ?_)
     | with_reducible refine s9.next _ (VW.of ?_)
     | rw [bH (by exact rfl) (by exact rfl) (by exact rfl) (by exact rfl) (by exact rfl)]
     | rw [x7 (by exact rfl) (by exact rfl) (by exact rfl) (by exact rfl)]
     | rw [x8 (by exact rfl) (by exact rfl) (by exact rfl) (by exact rfl) (by exact rfl) (by exact rfl)]
     | rw [PY (by exact rfl) (by assumption)]
     | fail)
   exact ao▸aj rfl (af.str _)
theorem zX {f:FuncId} (h:Has P f bV) {es:List AV} (hk:∀ e∈es,e.size=15) (h1:(es.all fun e=>e.cells.all AV.one)=true) (hp:∀ c∈flat es,af c) (hl:es.length*320<=140737488355328):VP P G f [.sl 15 es] (.sl 15 es):=by
 refine VP.has h ?_
 have hb:∀ (σ : ae) (p:Id),bu σ p (.buildSl 15 0 zN [])=some { val := .tsl 15 [] }:=fun σ p=>bs0 rfl rfl
 cases es with
 | nil =>
   simp only [bV,SS,Nat.reduceAdd]
   refine ⟨?_, ?_⟩
   . exact ao▸⟨.nils,rfl,View.nils 15⟩
   . simp only [SS,Nat.reduceAdd,hb,mh gj]
     exact ao▸⟨_,rfl,View.Xw 15⟩
 | cons e es =>
   simp only [bV,SS,Nat.reduceAdd,hb]
   rw [mW (es:=[]) gj (by simp) (by simpa using hl) (fQ (by simp at hl ⊢;omega)) (by simpa using h1)]
   simp only [SS,Nat.reduceAdd]
   refine ao▸⟨_,rfl,View.osl (bk:=⟨e::es,15,false⟩) rfl rfl (by simp) ?_ (by simp) hk⟩
   simpa using ah.pure hp
theorem sO {f:FuncId} (h:Has P f bV) (l:List NX) (hl:l.length<=1000000):VP P G f [lg l] (lg l) :=
 zX h (by intro a ha;obtain ⟨y,_,rfl⟩:=List.mem_map.1 ha;rfl) (pS PQ l) (zP l) (by simp;omega)
end
end Go.VL
end

section
set_option linter.unusedVariables false
set_option linter.unusedVariables false
set_option maxRecDepth 100000
namespace Go.VL
open Go.Lib
theorem sub_self {σ : ae}:∀ i, σ i=none ∨ σ i = σ i:=fun _ => .inr rfl
section
variable {P:Program} {G:Nat->Option (List AV)} {π : Id} {base:Nat} {Q:bP->VS->Prop} {n:Nat} {ps:List (Nat × Nat)} {d:Option Nat} {os:List bc} {i:Nat} {t:List AV} {σ : ae} {acc:List dH} {f:FuncId} {an3:List AV} {S:List (Id × cN)} {im:Q2->Q2} {ok:Q2->Prop} {a:Q2}
end
section
variable {P:Program} {G:Nat->Option (List AV)}
end
end Go.VL
end

section
set_option linter.unusedSimpArgs false
set_option linter.unusedVariables false
set_option maxRecDepth 100000
namespace Go.VL
open Go.Lib
theorem Yp {a:Int} (h:a.natAbs<ak):Sm 1 (a:Rat):=⟨cK (by rw [Nat.pow_one];exact h),oD⟩
section
variable {P:Program} {G:Nat->Option (List AV)}
end
end Go.VL
end
