/- For the claim of HistoryOps: parts CI21, CI22, CI23, KD, KE, VL31, CI24, CR1, CR2, CR3, CR4, CR5, CR6, CR7. -/
import Derived.Test.YtcomlgfjnjpebaaGreatDoorC06
import Derived.Test.YtcomlgfjnjpebaaGreatDoorC05
set_option linter.unusedSimpArgs false
set_option linter.unusedVariables false
section
set_option linter.unusedVariables false
namespace Go.VL
def IR (neg:Bool) (ws:List Nat):AV := .agg [.bool neg, .sl 1 (us ws)]
theorem xY (neg:Bool) (ws:List Nat):((IR neg ws).cells.all AV.one=true)=True:=by simp [IR,AV.cells,AV.one]
theorem Qx (neg:Bool) (ws:List Nat):part false (IR neg ws).cells 0 1=some (.bool neg):=rfl
theorem Io (neg:Bool) (ws:List Nat):part false (IR neg ws).cells 1 1=some (.sl 1 (us ws)):=rfl
def iz (neg:Bool) (ws:List Nat):Bool:=if ws=[] then !neg else decide (ws[ws.length-1]?.getD 0≠0)
theorem Mp {neg:Bool} {ws:List Nat} (hw:Wd ws) (h:iz neg ws=true):IR neg ws=IV (jE neg (val ws)):=by
 unfold iz at h
 by_cases h0:ws=[]
 . subst h0
   rw [if_pos rfl] at h
   have:neg=false:=by simpa using h
   subst this
   simp [IR,IV,jE,val,W,bx,us]
 . rw [if_neg h0] at h
   have hl:0<ws.length:=List.length_pos_iff.2 h0
   obtain ⟨w,wG⟩:∃ w,ws[ws.length-1]? = some w:=⟨_,List.getElem?_eq_getElem (by omega)⟩
   rw [wG] at h
   have hwz:w≠0:=by simpa using h
   have hd:digits (val ws)=ws:=lE hw (.inr ⟨w,by rw [List.getLast?_eq_getElem?];exact wG,hwz⟩)
   have bY:val ws≠0:=fun e=>h0 (by rw [<- hd,e,bx])
   have e1:decide (jE neg (val ws)<0)=neg:=by cases neg<;>simp [jE]<;>omega
   have e2:(jE neg (val ws)).natAbs=val ws:=by cases neg<;>simp [jE]
   unfold IV IR W
   rw [e1,e2,hd]
section
variable {P:Program} {G:Nat->Option (List AV)}
theorem NF {f:FuncId} (h:Has P f o8) (neg:Bool) (ws:List Nat) (hl:ws.length<=9223372036854775807):VP P G f [IR neg ws] (.bool (iz neg ws)):=by
 refine VP.has h ?_
 have hlen:jN false (.sl 1 (us ws))=some (.int .i64 ws.length):=by simp [jN,dG]
 simp only [o8,SS,Nat.reduceAdd,xY,ae,Io,hlen]
 by_cases h0:ws=[]
 . have d0:decide ((ws.length:Int)=0)=true:=an (by rw [h0];rfl)
   have d1:decide ((0:Int)<(ws.length:Int))=false:=ak (by rw [h0];simp)
   have e:iz neg ws = !neg:=by unfold iz;rw [if_pos h0]
   rw [e]
   cases neg <;>
   . simp only [SS,Nat.reduceAdd,d0,d1,ae,Qx]
     exact ag▸ab rfl (af.bool _)
 . have oq:0<ws.length:=List.length_pos_iff.2 h0
   have d0:decide ((ws.length:Int)=0)=false:=ak (by omega)
   have d1:decide ((0:Int)<(ws.length:Int))=true:=an (by omega)
   obtain ⟨w,hw⟩:∃ w,ws[ws.length-1]? = some w:=⟨_,List.getElem?_eq_getElem (by omega)⟩
   have hp:=rW ws.length oq hl
   have e:iz neg ws=decide ((w:Int)≠0):=by unfold iz;rw [if_neg h0,hw];simp
   rw [e]
   simp only [SS,Nat.reduceAdd,d0,d1,ae,Io,hp,aS rfl (rV hw),az,bp]
   exact ag▸ab rfl (af.bool _)
end
end Go.VL
end

section
set_option linter.unusedVariables false
namespace Go.VL
def RR (n1:Bool) (w1:List Nat) (n2:Bool) (w2:List Nat):AV := .agg [.bool n1, .sl 1 (us w1), .bool n2, .sl 1 (us w2)]
theorem wH (neg:Bool) (ws:List Nat):af (IR neg ws):=af.agg (by intro c hc;simp at hc;rcases hc with rfl | rfl;exact af.bool _;exact kU _)
theorem Db (n1:Bool) (w1:List Nat) (n2:Bool) (w2:List Nat):((RR n1 w1 n2 w2).cells.all AV.one=true)=True:=by simp [RR,AV.cells,AV.one]
theorem VI (n1:Bool) (w1:List Nat) (n2:Bool) (w2:List Nat):part true (RR n1 w1 n2 w2).cells 0 2=some (IR n1 w1):=rfl
theorem Qy (n1:Bool) (w1:List Nat) (n2:Bool) (w2:List Nat):part true (RR n1 w1 n2 w2).cells 2 2=some (IR n2 w2):=rfl
section
variable {P:Program} {G:Nat->Option (List AV)}
theorem E5 {f fv fs fg fo:FuncId} (h:Has P f (lL fv fs fg fo)) (n1:Bool) (w1:List Nat) (n2:Bool) (w2:List Nat) (uF:Wd w1) (wG:Wd w2) (g:Int)
   (pf:VP P G fv [IR n1 w1] (.bool (iz n1 w1))) (te:VP P G fv [IR n2 w2] (.bool (iz n2 w2))) (hs:VP P G fs [IV (jE n2 (val w2))] (.int .i64 (jE n2 (val w2)).sign))
   (hg:0<jE n2 (val w2)->VP P G fg [IV (jE n1 (val w1)),IV (jE n2 (val w2))] (IV g)) (ho:VP P G fo [IV g] (.bool (decide (g=1)))) :
   VP P G f [RR n1 w1 n2 w2] (.bool (iz n1 w1&&iz n2 w2&&decide (0<jE n2 (val w2))&&decide (g=1))):=by
 refine VP.has h ?_
 simp only [lL,SS,Nat.reduceAdd,Db,ae,VI]
 refine aj pf (by simp [wH]) ?_
 by_cases c1:iz n1 w1=true
 . have e1:=Mp uF c1
   simp only [SS,Nat.reduceAdd,c1,ae,Qy,Bool.true_and]
   refine aj te (by simp [wH]) ?_
   by_cases c2:iz n2 w2=true
   . have e2:=Mp wG c2
     simp only [SS,Nat.reduceAdd,c2,ae,Qy,Bool.true_and,e2]
     refine aj hs (by simp [aG]) ?_
     by_cases c3:0<jE n2 (val w2)
     . have d3:decide (0<(jE n2 (val w2)).sign)=true:=an (by rw [Int.sign_eq_one_of_pos c3];decide)
       have d4:decide (0<jE n2 (val w2))=true:=an c3
       simp only [SS,Nat.reduceAdd,d3,d4,ae,VI,Qy,Bool.true_and,e1,e2]
       refine aj (hg c3) (by simp [aG]) ?_
       simp only [SS,Nat.reduceAdd]
       refine aj ho (by simp [aG]) ?_
       simp only [SS,Nat.reduceAdd]
       exact ag▸ab rfl (af.bool _)
     . have d3:decide (0<(jE n2 (val w2)).sign)=false:=ak (by rcases mC (jE n2 (val w2)) with ⟨e,p⟩ | ⟨e,p⟩ | ⟨e,p⟩<;>omega)
       have d4:decide (0<jE n2 (val w2))=false:=ak c3
       simp only [SS,Nat.reduceAdd,d3,d4,Bool.false_and]
       exact ag▸ab rfl (af.bool _)
   . have c2':iz n2 w2=false:=by simpa using c2
     simp only [SS,Nat.reduceAdd,c2',Bool.false_and]
     exact ag▸ab rfl (af.bool _)
 . have c1':iz n1 w1=false:=by simpa using c1
   simp only [SS,Nat.reduceAdd,c1',Bool.false_and]
   exact ag▸ab rfl (af.bool _)
end
end Go.VL
end

section
set_option linter.unusedVariables false
namespace Go.VL
theorem qW {n:Nat} (h:ah n<=2):n<18446744073709551616:=by
 have h1:=cT n
 have h2:au ^ ah n<=au ^ 2:=Nat.pow_le_pow_right cZ h
 have h3:au ^ 2=18446744073709551616:=by decide
 omega
theorem v7 {x y g:Nat} (hg:Nat.gcd x y=g):Nat.gcd y (x%y)=g:=by rw [<- hg,Nat.gcd_comm y, <- Nat.gcd_rec,Nat.gcd_comm]
theorem nV (n:Nat):jE false n=(n:Int):=by simp [jE]
section
variable {P:Program} {G:Nat->Option (List AV)}
theorem Xd {f ft fd fc fs ZJ fu:FuncId} (h:Has P f (rD ft fd fc fs ZJ fu)) (ht:gV P G ft) (hd:∀ m n,n≠0->ah m<=900000->ah n<=900000->VP P G fd [W m,W n] (.tup [W (m/n),W (m%n)]))
   (hc:∀ n,ah n<=1000000->VP P G fc [W n] (W n)) (hs:jk P G fs) (VJ:∀ n,n<18446744073709551616->VP P G ZJ [W n] (.int .u64 ((n:Nat):Int))) (hu:∀ n,n<18446744073709551616->VP P G fu [.int .u64 ((n:Nat):Int)] (W n))
   (a b:Int) (ha:ah a.natAbs<=900000) (hb:ah b.natAbs<=900000):VP P G f [IV a,IV b] (IV (Nat.gcd a.natAbs b.natAbs:Nat)):=by
 refine VP.has h ?_
 have eG:([0]:List Nat)≠[1]:=by decide
 have mS:([0]:List Nat)≠[2]:=by decide
 have nU:([1]:List Nat)≠[2]:=by decide
 simp only [rD,SS,DD,Nat.reduceAdd,ib,cB,ai eG,ai mS,ae,iv]
 refine ax (qg ht a.natAbs (by omega)) (by simp [aK]) ?_
 simp only [SS,DD,Nat.reduceAdd,ai nU,ae,iv]
 refine ax (qg ht b.natAbs (by omega)) (by simp [aK]) ?_
 simp only [SS,DD,Nat.reduceAdd]
 refine ⟨by simp [ar,apart], ?_⟩
 simp only [aE]
 refine VW.bR (α := Nat × Nat × Nat) (fun x=>⟨[IV a,IV b, .top, .top, .ref [2] 0 0,W x.1,W x.2.1]++List.replicate 50 .top,
   aa.put (fun _=>none) [2] (some ⟨[.agg [.bool false, .nils]],(AV.agg [.bool false, .nils]).size,false⟩),x.2.2⟩)
   (fun x=>Nat.gcd x.1 x.2.1=Nat.gcd a.natAbs b.natAbs/\ah x.1<=900000/\ah x.2.1<=900000) (fun x=>x.2.1) (a.natAbs,b.natAbs,1000) ?_ ?_ ?_
 . exact Wk.forget (by simp [Fg,List.replicate]) (fun j=>by simp only [aa.put];split<;>simp_all) (by simp only [];omega)
 . exact ⟨rfl,ha,hb⟩
 rintro ⟨x,y,nn⟩ ⟨hg,hx,hy⟩
 simp only [] at hg hx hy
 have g1:2<ah y->decide ((2:Int)<(ah y:Int))=true:=fun h=>an (by omega)
 have g2 : ¬ 2<ah y->decide ((2:Int)<(ah y:Int))=false:=fun h=>ak (by omega)
 have g3:2<ah x->decide ((2:Int)<(ah x:Int))=true:=fun h=>an (by omega)
 have g4 : ¬ 2<ah x->decide ((2:Int)<(ah x:Int))=false:=fun h=>ak (by omega)
 have g5:0<ah y->decide ((0:Int)<(ah y:Int))=true:=fun h=>an (by omega)
 have g6 : ¬ 0<ah y->decide ((0:Int)<(ah y:Int))=false:=fun h=>ak (by omega)
 have e1:0<ah y->decide ((ah y:Int)=0)=false:=fun h=>ak (by omega)
 have e2 : ¬ 0<ah y->decide ((ah y:Int)=0)=true:=fun h=>an (by omega)
 have T5:0<ah y->y≠0:=fun h e=>by have:=bI.2 e;omega
 have JG : ¬ 0<ah y->y=0:=fun h=>bI.1 (by omega)
 have YT:2<ah y->0<ah y:=fun h=>by omega
 have w1:=zi x y
 have wG:ah (x%y)<=900000:=by omega
 have K7:ah x<=1000000:=by omega
 have hsx:ah x<=9223372036854775807:=by omega
 have Yz : ¬ 2<ah x->x<18446744073709551616:=fun h=>qW (by omega)
 have hyy : ¬ 2<ah y->y<18446744073709551616:=fun h=>qW (by omega)
 have Bg:∀ g,g<18446744073709551616->ah g<=9223372036854775807:=fun g h=>by have:=nT g h;omega
 clear w1
 simp only [SS,Nat.reduceAdd]
 by_cases c1:2<ah y
 . have oq:=YT c1
   have Xe:=hd x y (T5 oq) hx hy
   simp only [SS,Nat.reduceAdd,bl,g1 c1]
   refine aj Xe (by simp [aK]) ?_
   simp only [SS,Nat.reduceAdd,ug,uh]
   exact ⟨(y,x%y,_),⟨v7 hg,hy,wG⟩,Nat.mod_lt _ (Nat.pos_of_ne_zero (T5 oq)),Wk.bc (by simp [Fg]) (Nat.le_refl _)⟩
 by_cases c3:0<ah y
 . by_cases c2:2<ah x
   . have Xe:=hd x y (T5 c3) hx hy
     simp only [SS,Nat.reduceAdd,bl,g2 c1,g3 c2,g5 c3]
     refine aj Xe (by simp [aK]) ?_
     simp only [SS,Nat.reduceAdd,ug,uh]
     exact ⟨(y,x%y,_),⟨v7 hg,hy,wG⟩,Nat.mod_lt _ (Nat.pos_of_ne_zero (T5 c3)),Wk.bc (by simp [Fg]) (Nat.le_refl _)⟩
   . simp only [SS,Nat.reduceAdd,bl,g2 c1,g4 c2,e1 c3]
     refine aj (VJ x (Yz c2)) (by simp [aK]) ?_
     simp only [SS,Nat.reduceAdd]
     refine aj (VJ y (hyy c1)) (by simp [aK]) ?_
     simp only [SS,Nat.reduceAdd,aE]
     refine VW.bR (α := Nat × Nat × Nat) (fun x=>⟨[IV a,IV b, .top, .top, .ref [2] 0 0, .top, .top, .top, .top, .int .u64 ((x.1:Nat):Int), .int .u64 ((x.2.1:Nat):Int)]++List.replicate 46 .top,
       aa.put (fun _=>none) [2] (some ⟨[.agg [.bool false, .nils]],(AV.agg [.bool false, .nils]).size,false⟩),x.2.2⟩)
       (fun x=>Nat.gcd x.1 x.2.1=Nat.gcd a.natAbs b.natAbs/\x.1<18446744073709551616/\x.2.1<18446744073709551616) (fun x=>x.2.1) (x,y,nn+1000) ?_ ?_ ?_
     . exact Wk.bc (by simp [Fg,List.replicate]) (by simp only [];omega)
     . exact ⟨hg,Yz c2,hyy c1⟩
     rintro ⟨u,v,mm⟩ ⟨JK,JH,nA⟩
     simp only [] at JK JH nA
     by_cases v0:v=0
     . subst v0
       have d0:decide (((0:Nat):Int)≠0)=false:=by decide
       rw [Nat.gcd_zero_right] at JK
       have l7:=hs false u (Bg u JH)
       rw [nV] at l7
       simp only [SS,Nat.reduceAdd,d0]
       refine aj (hu u JH) (by simp [af.int]) ?_
       simp only [SS,Nat.reduceAdd]
       refine aj l7 (by simp [af.bool,aK]) ?_
       simp only [SS,Nat.reduceAdd,gy]
       rw [<- JK]
       refine ag▸ab (r:=IV (u:Int)) ?_ (aG _)
       simp only [RS,bU,cy,ae];rfl
     . have d0:decide ((v:Int)≠0)=true:=an (by omega)
       have f1:=C8 u v v0
       have aN:u%v<18446744073709551616:=Nat.lt_of_le_of_lt (Nat.mod_le _ _) JH
       simp only [SS,DD,Nat.reduceAdd,d0,f1]
       first
       | exact ⟨(v,u%v,_),⟨v7 JK,nA,aN⟩,Nat.mod_lt _ (Nat.pos_of_ne_zero v0),Wk.bc (by simp [Fg,List.replicate]) (Nat.le_refl _)⟩
       | exact ⟨by simp [ar,apart],(v,u%v,_),⟨v7 JK,nA,aN⟩,Nat.mod_lt _ (Nat.pos_of_ne_zero v0),Wk.bc (by simp [Fg]) (Nat.le_refl _)⟩
 . have hyz:=JG c3
   rw [hyz,Nat.gcd_zero_right] at hg
   have l7:=hs false x hsx
   rw [nV] at l7
   by_cases c2:2<ah x
   . simp only [SS,Nat.reduceAdd,bl,g2 c1,g3 c2,g6 c3,e2 c3]
     refine aj (hc x K7) (by simp [aK]) ?_
     simp only [SS,Nat.reduceAdd]
     refine aj l7 (by simp [af.bool,aK]) ?_
     simp only [SS,Nat.reduceAdd,gy]
     rw [<- hg]
     refine ag▸ab (r:=IV (x:Int)) ?_ (aG _)
     simp only [RS,bU,cy,ae];rfl
   . simp only [SS,Nat.reduceAdd,bl,g2 c1,g4 c2,e2 c3]
     refine aj (hc x K7) (by simp [aK]) ?_
     simp only [SS,Nat.reduceAdd]
     refine aj l7 (by simp [af.bool,aK]) ?_
     simp only [SS,Nat.reduceAdd,gy]
     rw [<- hg]
     refine ag▸ab (r:=IV (x:Int)) ?_ (aG _)
     simp only [RS,bU,cy,ae];rfl
end
end Go.VL
end

section
namespace Go.VL
section
variable {b M h l v' V num u2 u' U:Nat}
theorem ZK (hV:V=(h*b+l)*M+v'):V=h*(b*M)+l*M+v':=by rw [hV,Nat.add_mul,Nat.mul_assoc]
theorem ac8 (hU:U=(num*b+u2)*M+u'):U=num*(b*M)+u2*M+u':=by rw [hU,Nat.add_mul,Nat.mul_assoc]
theorem ZL (h2:u2<b) (h1:u'<M):u2*M+u'<b*M:=by
 have:(u2+1)*M<=b*M:=Nat.mul_le_mul_right _ h2
 rw [Nat.add_mul] at this;omega
theorem Ip (h0:0<h) (hV:V=(h*b+l)*M+v') (hU:U=(num*b+u2)*M+u') (h2:u2<b) (h1:u'<M):U/V<=num/h:=by
 have hbM:=ZL h2 h1
 have eV:=ZK hV
 have eU:=ac8 hU
 have OT:0<V:=by
   have:1*(b*M)<=h*(b*M):=Nat.mul_le_mul_right _ h0
   omega
 refine Nat.le_of_lt_succ ((Nat.div_lt_iff_lt_mul OT).2 ?_)
 have hq:num+1<=(num/h+1)*h:=by rw [Nat.mul_comm];exact Nat.lt_mul_div_succ num h0
 have h3:(num/h+1)*(h*(b*M))<=(num/h+1)*V:=Nat.mul_le_mul_left _ (by omega)
 have h4:(num+1)*(b*M)<=(num/h+1)*h*(b*M):=Nat.mul_le_mul_right _ hq
 rw [Nat.mul_assoc] at h4
 rw [Nat.add_mul] at h4
 show U<(num/h+1)*V
 omega
theorem T6 {q r:Nat} (hV:V=(h*b+l)*M+v') (hU:U=(num*b+u2)*M+u') (h1:u'<M) (hq:q*h+r=num) (ht:r*b+u2<q*l):U/V<=q-1:=by
 have h3:num*b+u2+1<=q*(h*b+l):=by
   rw [<- hq,Nat.add_mul,Nat.mul_add, <- Nat.mul_assoc];omega
 have h4:(num*b+u2+1)*M<=q*(h*b+l)*M:=Nat.mul_le_mul_right _ h3
 have h5:U<q*V:=by
   rw [hV,Nat.mul_add, <- Nat.mul_assoc]
   rw [Nat.add_mul] at h4
   omega
 have OT:0<V:=by
   rcases Nat.eq_zero_or_pos V with e | e
   . rw [e] at h5;simp at h5
   . exact e
 have:=(Nat.div_lt_iff_lt_mul OT).2 h5
 omega
theorem Mq {q r:Nat} (h0:0<h) (hV:V=(h*b+l)*M+v') (hU:U=(num*b+u2)*M+u') (hv:v'<M) (hqb:q<b) (hq:q*h+r=num) (ht:q*l<=r*b+u2):q<=U/V+1:=by
 have h3:q*(h*b+l)<=num*b+u2:=by
   rw [<- hq,Nat.add_mul,Nat.mul_add, <- Nat.mul_assoc];omega
 have h4:q*(h*b+l)*M<=(num*b+u2)*M:=Nat.mul_le_mul_right _ h3
 have h5:q*v'<=b*M:=by
   have a1:q*v'<=b*v':=Nat.mul_le_mul_right _ (Nat.le_of_lt hqb)
   have a2:b*v'<=b*M:=Nat.mul_le_mul_left _ (Nat.le_of_lt hv)
   omega
 have eV:=ZK hV
 have h6:1*(b*M)<=h*(b*M):=Nat.mul_le_mul_right _ h0
 have h7:q*V<=U+V:=by
   have:q*V=q*(h*b+l)*M+q*v':=by rw [hV,Nat.mul_add, <- Nat.mul_assoc]
   omega
 rcases Nat.eq_zero_or_pos q with e | e
 . rw [e];exact Nat.zero_le _
 . have h8:(q-1)*V<=U:=by
     have:q*V=(q-1)*V+V:=by
       have:=Nat.sub_add_cancel e
       calc q*V=(q-1+1)*V:=by rw [this]
         _=(q-1)*V+V:=by rw [Nat.add_mul,Nat.one_mul]
     omega
   have OT:0<V:=by
     have hM:0<M:=by omega
     have:0<b*M:=Nat.mul_pos (by omega) hM
     omega
   have:=(Nat.le_div_iff_mul_le OT).2 h8
   omega
theorem Qz {q r:Nat} (hn:num<(h+1)*b) (hl:l<b) (hq:q*h+r=num) (hr:b<=r):q<b/\q*l<=r*b+u2:=by
 have hqb:q<b:=by
   rw [Nat.add_mul,Nat.one_mul] at hn
   have h1:q*h<b*h:=by rw [Nat.mul_comm b h];omega
   exact Nat.lt_of_mul_lt_mul_right h1
 refine ⟨hqb, ?_⟩
 have h1:q*l<=b*b:=Nat.mul_le_mul (Nat.le_of_lt hqb) (Nat.le_of_lt hl)
 have h2:b*b<=r*b:=Nat.mul_le_mul_right _ hr
 omega
theorem Xf {q:Nat} (OT:0<V) (hle:U/V<=q) (VK:q<=U/V+1):(U<q*V/\q=U/V+1∨q*V<=U/\q=U/V):=by
 by_cases h:U<q*V
 . left
   have:=(Nat.div_lt_iff_lt_mul OT).2 h
   exact ⟨h,by omega⟩
 . right
   have:=(Nat.le_div_iff_mul_le OT).2 (Nat.le_of_not_lt h)
   exact ⟨by omega,by omega⟩
end
end Go.VL
end

section
namespace Go.VL
theorem ZM {ds:List Nat} {j h l:Nat} (hw:Wd ds) (hl:ds.length=j+2) (h1:ds[j+1]? = some h) (h0:ds[j]? = some l) :
   val ds=(h*au+l)*au ^ j+val (ds.take j)/\val (ds.take j)<au ^ j:=by
 have e1:=aF h1
 have e0:=aF h0
 have e2:ds.take (j+1+1)=ds:=List.take_of_length_le (by omega)
 have h3:=lD (qT hw j)
 rw [List.length_take,Nat.min_eq_left (by omega)] at h3
 rw [e2,e0] at e1
 refine ⟨?_,h3⟩
 have e4:(h*au+l)*au ^ j=au ^ (j+1)*h+au ^ j*l:=by
   rw [Nat.add_mul,Nat.pow_succ,Nat.mul_comm l,Nat.mul_assoc,Nat.mul_comm h,Nat.mul_comm au]
 omega
theorem ZN {ds:List Nat} {j x2 x1 x0:Nat} (hw:Wd ds) (hl:ds.length=j+3) (h2:ds[j+2]? = some x2) (h1:ds[j+1]? = some x1) (h0:ds[j]? = some x0) :
   val ds=((x2*au+x1)*au+x0)*au ^ j+val (ds.take j)/\val (ds.take j)<au ^ j:=by
 have e2:=aF h2
 have e1:=aF h1
 have e0:=aF h0
 have e3:ds.take (j+2+1)=ds:=List.take_of_length_le (by omega)
 have h3:=lD (qT hw j)
 rw [List.length_take,Nat.min_eq_left (by omega)] at h3
 rw [e3,e1,e0] at e2
 refine ⟨?_,h3⟩
 have e4:((x2*au+x1)*au+x0)*au ^ j=au ^ (j+2)*x2+au ^ (j+1)*x1+au ^ j*x0:=by
   rw [Nat.add_mul,Nat.add_mul,Nat.add_mul,Nat.mul_comm x0]
   have a:au ^ (j+1)*x1=x1*au*au ^ j:=by rw [Nat.pow_succ,Nat.mul_comm,Nat.mul_assoc,Nat.mul_comm au]
   have b:au ^ (j+2)*x2=x2*au*au*au ^ j:=by
     have e:au ^ (j+2)=au ^ j*au*au:=by rw [show j+2=j+1+1 from rfl,Nat.pow_succ,Nat.pow_succ]
     rw [e]
     generalize au ^ j=Y
     generalize au=Z
     simp only [Nat.mul_comm,Nat.mul_left_comm]
   omega
 omega
theorem Mr {x:Nat} (h:x<au) (h0:0<x):1<=iQ x/\iQ x<=32:=by
 obtain ⟨a,b⟩:=zh h h0
 constructor
 . rcases Nat.eq_zero_or_pos (iQ x) with e | e
   . rw [e] at a;simp at a;omega
   . exact e
 . have h2:2 ^ iQ x<2 ^ 33:=by unfold au at h;omega
   have:=(Nat.pow_lt_pow_iff_right (by decide:1<2)).1 h2
   omega
theorem zj {n x k:Nat} (hk:ah n=k+1) (hx:(digits n)[k]? = some x) :
   0<x/\x<au/\n*2 ^ (32-iQ x)<au ^ (k+1)/\ah (n*2 ^ (32-iQ x))=k+1/\32-iQ x<=31:=by
 have qx:=aQ n x (List.mem_of_getElem? hx)
 have Ny:0<x:=by
   rcases Be (n:=n) with h | ⟨w,h,hw⟩
   . rw [h] at hx;simp at hx
   . rw [List.getLast?_eq_getElem?,show (digits n).length-1=k from by show ah n-1=k;omega,hx] at h
     simp only [Option.some.injEq] at h;omega
 obtain ⟨qz,Gx⟩:=Mr qx Ny
 have wN:=(zh qx Ny).1
 have e:=aF hx
 rw [List.take_of_length_le (show (digits n).length<=k+1 from by show ah n<=k+1;omega),aJ] at e
 have h3:=lD (qT (aQ n) k)
 rw [List.length_take,Nat.min_eq_left (show k<=(digits n).length from by show k<=ah n;omega)] at h3
 have h4:n+1<=au ^ k*2 ^ iQ x:=by
   have:au ^ k*(x+1)<=au ^ k*2 ^ iQ x:=Nat.mul_le_mul_left _ wN
   rw [Nat.mul_add] at this;omega
 have h5:(n+1)*2 ^ (32-iQ x)<=au ^ (k+1):=by
   have:=Nat.mul_le_mul_right (2 ^ (32-iQ x)) h4
   rw [Nat.mul_assoc, <- Nat.pow_add,show iQ x+(32-iQ x)=32 from by omega] at this
   rw [Nat.pow_succ];exact this
 have hp:=Nat.two_pow_pos (32-iQ x)
 have h6:n*2 ^ (32-iQ x)<au ^ (k+1):=by rw [Nat.add_mul] at h5;omega
 refine ⟨Ny,qx,h6, ?_,by omega⟩
 have h7:=jj h6
 have h8:ah n<=ah (n*2 ^ (32-iQ x)):=cV (Nat.le_mul_of_pos_right _ hp)
 omega
theorem ZO {x R V:Nat} (hx:x<au) (hR:R<V):x+au*R<au*V/\(x+au*R)/V<au:=by
 have:au*(R+1)<=au*V:=Nat.mul_le_mul_left _ hR
 have h:x+au*R<au*V:=by rw [Nat.mul_add] at this;omega
 exact ⟨h,Nat.div_lt_of_lt_mul (by rw [Nat.mul_comm V];exact h)⟩
theorem Xg {num u2 M u' h l v' V D:Nat} (hl:l<au) (hv:v'<M) (hV:V=(h*au+l)*M+v') (hD:D=(num*au+u2)*M+u') (aN:D<au*V):num<(h+1)*au:=by
 have h1:V<(h+1)*au*M:=by
   have:(h*au+l+1)*M<=(h+1)*au*M:=Nat.mul_le_mul_right _ (by rw [Nat.add_mul];omega)
   rw [Nat.add_mul,Nat.one_mul] at this;omega
 have h2:num*(au*M)<=D:=by
   have:num*au*M<=(num*au+u2)*M:=Nat.mul_le_mul_right _ (by omega)
   rw [Nat.mul_assoc] at this;omega
 have h3:au*V<(h+1)*au*(au*M):=by
   have:=Nat.mul_lt_mul_of_pos_left h1 cZ
   rw [Nat.mul_left_comm] at this;exact this
 exact Nat.lt_of_mul_lt_mul_right (a:=au*M) (by omega)
theorem Iq {U a0 i x O V R q r:Nat} (hU:U=a0+au ^ i*x+au ^ (i+1)*(O*V+R)) (hD:x+au*R=q*V+r):U=a0+au ^ i*((q+au*O)*V+r):=by
 have e:au ^ (i+1)*(O*V+R)=au ^ i*(au*(O*V))+au ^ i*(au*R):=by
   rw [Nat.pow_succ,Nat.mul_assoc, <- Nat.mul_add, <- Nat.mul_add]
 have e2:au ^ i*((q+au*O)*V+r)=au ^ i*(q*V+r)+au ^ i*(au*(O*V)):=by
   rw [<- Nat.mul_add,Nat.add_mul,Nat.mul_assoc];congr 1;omega
 rw [hU,e,e2, <- hD,Nat.mul_add];omega
theorem Gb {k r:Nat} (h:r<au ^ k):pad (k+1) r=pad k r++[0]:=by
 have e1:val (pad k r++[0])=r:=by rw [kz,gq h]
 have e2:(pad k r++[0]).length=k+1:=by simp [kV]
 have h1:=xV (cA (rX k r) (b:=[0]) (fun z hz=>by rw [List.mem_singleton.1 hz];exact cZ))
 rw [e1,e2] at h1
 exact h1
theorem QA {k D V q:Nat} (h:D%V<au ^ k) (hq:q=D/V):pad (k+1) (D+au ^ (k+1)-q*V)=pad k (D%V)++[0]:=by
 have h1:=Nat.mod_add_div D V
 rw [Nat.mul_comm] at h1
 have:D+au ^ (k+1)-q*V=D%V+au ^ (k+1)*1:=by rw [hq];omega
 rw [this,B5,Gb h]
theorem QB {k D V q:Nat} (h0:0<V) (h:D%V<au ^ k) (hV:V<au ^ k) (hq:q=D/V+1):pad (k+1) (val (pad (k+1) (D+au ^ (k+1)-q*V))+V)=pad k (D%V)++[0]:=by
 have h1:=Nat.mod_add_div D V
 rw [Nat.mul_comm] at h1
 have e:q*V=D/V*V+V:=by rw [hq,Nat.add_mul,Nat.one_mul]
 have h2:au ^ k<=au ^ (k+1):=Nat.pow_le_pow_right cZ (by omega)
 have h3:D%V<V:=Nat.mod_lt _ h0
 rw [gq (by omega)]
 have:D+au ^ (k+1)-q*V+V=D%V+au ^ (k+1)*1:=by omega
 rw [this,B5,Gb h]
theorem Ir {m s V N k c A R:Nat} (hN:V=N*2 ^ s) (hNk:au ^ (k-1)<=N) (hm:m<au ^ (c+(k-1))) (hU:m*2 ^ s=A+au ^ c*R):R<V:=by
 rcases Nat.lt_or_ge R V with h | h
 . exact h
 . exfalso
   have h1:au ^ c*V<=au ^ c*R:=Nat.mul_le_mul_left _ h
   have h2:au ^ c*(au ^ (k-1)*2 ^ s)<=au ^ c*V:=by rw [hN];exact Nat.mul_le_mul_left _ (Nat.mul_le_mul_right _ hNk)
   rw [<- Nat.mul_assoc, <- Nat.pow_add] at h2
   have h3:=Nat.mul_lt_mul_of_pos_right hm (Nat.two_pow_pos s)
   omega
theorem Xh {q r num h l u2 M u' v' V D:Nat} (hl:l<au) (YA:v'<M) (YB:u'<M) (h0:0<h) (hV:V=(h*au+l)*M+v') (hD:D=(num*au+u2)*M+u') (aN:D<au*V) (hdB:D/V<au)
   (hq:q*h+r=num) (hle:D/V<=q) (ht:au<=q∨r*au+u2<q*l):1<=q/\D/V<=q-1/\(q-1)*h+(r+h)=num/\(au<=r+h->q-1<au/\q-1<=D/V+1):=by
 have ZP:1<=q:=by
   rcases Nat.eq_zero_or_pos q with e | e
   . subst e
     rcases ht with h1 | h1
     . unfold au at h1;omega
     . simp at h1
   . exact e
 have Xi:D/V<=q-1:=by
   rcases ht with h1 | h1
   . omega
   . exact T6 hV hD YB hq h1
 have hs:(q-1)*h+(r+h)=num:=by
   obtain ⟨p,rfl⟩:∃ p,q=p+1:=⟨q-1,by omega⟩
   rw [Nat.add_mul] at hq
   simp only [Nat.add_sub_cancel];omega
 refine ⟨ZP,Xi,hs,fun hb => ?_⟩
 obtain ⟨a,c⟩:=Qz (u2:=u2) (Xg hl YA hV hD aN) hl hs hb
 exact ⟨a,Mq h0 hV hD YA a hs c⟩
theorem Ms {m n s O r:Nat} (_hn:n≠0) (hU:m*2 ^ s=O*(n*2 ^ s)+r) (hr:r<n*2 ^ s):O=m/n/\r/2 ^ s=m%n/\ah r<=ah (n*2 ^ s):=by
 have hp:=Nat.two_pow_pos s
 have h1:r=(m-O*n)*2 ^ s:=by
   rw [Nat.sub_mul,Nat.mul_assoc];omega
 have h2:m-O*n<n:=by
   rw [h1] at hr;exact Nat.lt_of_mul_lt_mul_right hr
 have h3:O*n<=m:=by
   have:O*n*2 ^ s<=m*2 ^ s:=by rw [Nat.mul_assoc];omega
   exact Nat.le_of_mul_le_mul_right this hp
 have h4:(m-O*n)+n*O=m:=by rw [Nat.mul_comm n];omega
 have h5:m/n=O/\m%n=m-O*n:=(Nat.div_mod_unique (Nat.pos_of_ne_zero _hn)).2 ⟨h4,h2⟩
 refine ⟨h5.1.symm, ?_,cV (Nat.le_of_lt hr)⟩
 rw [h1,Nat.mul_div_cancel _ hp,h5.2]
theorem ui {a b t:List Nat} {i j x:Nat} (ha:a.length=i) (h:b[j]? = some x):(a++b++t)[i+j]? = some x:=by
 have hj:=(List.getElem?_eq_some_iff.1 h).1
 rw [List.append_assoc,List.getElem?_append_right (by omega),List.getElem?_append_left (by omega), <- h]
 congr 1;omega
theorem uj {a:List Nat} {i:Nat} (h:a.length=i+1):∃ b x,a=b++[x]/\b.length=i:=by
 refine ⟨a.take i,a[i]'(by omega), ?_,by simp;omega⟩
 rw [<- List.take_succ_eq_append_getElem,List.take_of_length_le (by omega)]
end Go.VL
end

section
namespace Go.VL
section
variable {P:Program} {G:Nat->Option (List AV)} {π : Id} {Q:cH->VS->Prop} {s:VS}
theorem VW.Is {x y:b8} (h:VW P G π x (BD (VW P G π y Q) Q) s):VW P G π (.seq x y) Q s :=
 VW.seq (h.mono fun e _ hq=>by cases e<;>exact hq)
theorem VW.QC {id:Nat} {x:b8} (h:VW P G π x (Nn id Q) s):VW P G π (.block id x) Q s :=
 VW.block (h.mono fun e _ hq=>by cases e<;>exact hq)
theorem VW.cut {x:b8} {s':VS} (hw:Wk G π s s') (h:sd P G π x Q s'):VW P G π x Q s:=VW.wk hw (VW.of h)
theorem VW.ZQ {α : Type} {x:b8} {s:VS} (st : α -> VS) (Pr : α -> Prop) (m : α -> Nat) (x0 : α) (hw:Wk G π s (st x0)) (h0:Pr x0)
   (h:∀ a,Pr a->VW P G π x (Hf G π st Pr m a Q) (st a)):VW P G π (.loop x) Q s:=by
 refine VW.wk hw ?_
 intro c hc own E w a R hm hR
 cases c<;>simp only [eF,Option.some.injEq,reduceCtorEq] at hc
 case loop cb =>
   cases h1:eF P cb with
   | none=>simp [h1] at hc
   | some vb =>
     simp only [h1,Option.map_some,Option.some.injEq,b8.loop.injEq] at hc
     subst hc
     refine vv (α := α) (fun g a' w'=>Pr g/\∃ E',kD own π E E' w w'/\jh G π own E' w' (st g) a') m (x:=x0) ⟨h0,E,kD.refl own π E w,hm⟩ ?_
     rintro g a2 w2 ⟨Tz,E2,Nl,tc⟩
     refine (h g Tz) cb h1 own E2 w2 a2 _ tc ?_
     intro e s' E' w' a' hq gu sc
     cases e with
     | normal =>
       obtain ⟨g',Zg,aN,WA⟩:=hq
       obtain ⟨E3,Zh,Zi⟩:=WA own E' w' a' sc
       exact ⟨g',⟨Zg,E3,(Nl.trans gu).trans Zh,Zi⟩,aN⟩
     | exit id=>exact hR (.exit id) s' E' w' a' hq (Nl.trans gu) sc
     | ret=>exact hR .ret s' E' w' a' hq (Nl.trans gu) sc
 case region=>exfalso;revert hc;unfold lH;(repeat' split)<;>simp
 all_goals (exfalso;revert hc;(repeat' split)<;>simp)
theorem Bh {base:Nat} {n:Nat} {ps:List (Nat × Nat)} {d:Option Nat} {os:List bu} {i:Nat} {acc:List dQ} {t:List AV} {σ : aa} {f:FuncId} {args gw:List AV} {r:AV} (S:List (Id × dF))
   (h:VP P G f gw r) (hv:aY (aa.of S) args gw) (hS:∀ x∈S, σ x.1=some x.2) (k:vd P G π base Q n ps os (i+1) ({ val:=r,rd:=S.map (·.1),up:=rm S }::acc) (fK t d r) (σ.app (rm S))):FV P G π base Q n ps d os i acc t σ f args :=
 ⟨S,_,aB.Lp h hv,hS,fun x hx=>List.mem_map.2 ⟨x,hx,rfl⟩,k⟩
end
theorem E6 {id:Id} {k len l h:Nat} (h1:l<h) (h2:h<=len):bZ k (.osl id k 0 len false) (some (.int .i64 (l:Int))) (some (.int .i64 (h:Int))) none=some (.osl id k l (h-l) false):=by
 rcases Nat.eq_zero_or_pos l with rfl | hp
 . simp [bZ,cN,dY,h2]
 . simp [bZ,cN,dY,h2,Nat.le_of_lt h1,Nat.ne_of_gt hp,Nat.ne_of_lt h1]
theorem Dc {id:Id} {k len h:Nat} (h2:h<=len):bZ k (.osl id k 0 len false) none (some (.int .i64 (h:Int))) none=some (.osl id k 0 h false):=by
 simp [bZ,cN,dY,h2]
end Go.VL
end

section
set_option linter.unusedVariables false
namespace Go.VL
section
variable {P:Program} {G:Nat->Option (List AV)}
theorem Xj {q Q:Nat} (h1:q=Q+1) (h2:q<au):IntKind.u64.wrap ((q:Int)-1)=((Q:Nat):Int):=by
 subst h1;rw [IntKind.wrap_u64];unfold au at h2;omega
theorem It {id:Id} {a t:List Nat} {b tt:Bool} {n:Nat} (hn:n=a.length):View (aa.of [(id,⟨us (a++t),1,b⟩)]) (.osl id 1 0 n tt) (.sl 1 (us a)):=by
 subst hn
 refine View.osl (bk:=⟨us (a++t),1,b⟩) (by simp [aa.of]) rfl (by simp [dG]) ?_ (by rw [dG]) (wD a)
 have:((us (a++t)).drop 0).take a.length=us a:=by rw [List.drop_zero,Mh];simp
 show aY _ (flat (((us (a++t)).drop 0).take a.length)) _
 rw [this]
 exact aY.pure (sK a)
set_option maxRecDepth 100000 in
set_option maxHeartbeats 4000000 in
theorem NG {f fc Av ZJ fu fdw flz fsl ft ZR GH fsr:FuncId} (h:Has P f (nO fc Av ZJ fu fdw flz fsl ft ZR GH fsr))
   (hc:∀ m n,ah m<=1000000->ah n<=1000000->VP P G fc [W m,W n] (.int .i64 (gp m n))) (uP:∀ n,ah n<=1000000->VP P G Av [W n] (W n))
   (VJ:∀ n,n<18446744073709551616->VP P G ZJ [W n] (.int .u64 ((n:Nat):Int))) (hu:∀ n,n<18446744073709551616->VP P G fu [.int .u64 ((n:Nat):Int)] (W n))
   (hdw:∀ m w:Nat,ah m<=1000000->w<au->w≠0->VP P G fdw [W m, .int .u32 (w:Int)] (.tup [W (m/w),W (m%w)]))
   (hlz:∀ x:Nat,x<au->0<x->VP P G flz [.int .u32 (x:Int)] (.int .i64 ((32-iQ x:Nat):Int)))
   (Cn:Has P fsl ji) (ht:gV P G ft) (hsu:Has P ZR j3) (hre:Has P GH kS) (hsr:Has P fsr iK)
   (m n:Nat) (tj:n≠0) (hm:ah m<=900000) (hn:ah n<=900000):VP P G f [W m,W n] (.tup [W (m/n),W (m%n)]):=by
 refine VP.has h ?_
 have Xk:=hc m n (by omega) (by omega)
 have ada:=uP m (by omega)
 have C5:m/n=0->∀ σ,View σ .nils (W (m/n)):=fun h σ => by rw [h];simp only [W,bx,us];exact View.nils 1
 have Xl:m<n->m/n=0/\m%n=m:=fun h=>⟨Nat.div_eq_of_lt h,Nat.mod_eq_of_lt h⟩
 have c1:m<n->decide (gp m n<0)=true:=fun h=>an (by simp only [gp,jc];rw [if_pos (by omega)];decide)
 have c2 : ¬ m<n->decide (gp m n<0)=false:=fun h=>ak (by simp only [gp,jc];rw [if_neg (by omega)];split<;>decide)
 have l1:ah m<=2->decide ((ah m:Int)<=2)=true:=fun h=>an (by omega)
 have l2 : ¬ ah m<=2->decide ((ah m:Int)<=2)=false:=fun h=>ak (by omega)
 have b1:ah n=1->decide ((ah n:Int)=1)=true:=fun h=>an (by omega)
 have b2 : ¬ ah n=1->decide ((ah n:Int)=1)=false:=fun h=>ak (by omega)
 simp only [nO,SS,Nat.reduceAdd]
 refine aj Xk (by simp [aK]) ?_
 by_cases h1:m<n
 . simp only [SS,Nat.reduceAdd,c1 h1]
   refine aj ada (by simp [aK]) ?_
   simp only [SS,Nat.reduceAdd]
   obtain ⟨e1,e2⟩:=Xl h1
   refine ag▸⟨.tup [.nils,W m],rfl,View.tup (aY.cons (C5 e1 _) (aY.cons ?_ aY.nil))⟩
   rw [e2];exact View.pure (aK _)
 have x8:n<=m:=by omega
 have hwn:ah n≠0:=fun e=>tj (bI.1 e)
 by_cases h2:ah m<=2
 . have tc:=qW h2
   have Pn:n<18446744073709551616:=by omega
   have hq:=C7 m n tc tj
   have hr:=C8 m n tj
   have VE:=hu (m/n) (Nat.lt_of_le_of_lt (Nat.div_le_self _ _) tc)
   have ZS:=hu (m%n) (Nat.lt_of_le_of_lt (Nat.mod_le _ _) tc)
   simp only [SS,Nat.reduceAdd,c2 h1,bl,l1 h2]
   refine aj (VJ m tc) (by simp [aK]) ?_
   simp only [SS,Nat.reduceAdd]
   refine aj (VJ n Pn) (by simp [aK]) ?_
   simp only [SS,DD,Nat.reduceAdd,hq]
   refine ax VE (by simp [af.int]) ?_
   simp only [SS,DD,Nat.reduceAdd,hr]
   refine ax ZS (by simp [af.int]) ?_
   simp only [SS,DD,Nat.reduceAdd]
   refine ⟨by simp [ar,apart], ?_⟩
   exact ag▸ab rfl (af.tup (by intro c hc;simp at hc;rcases hc with rfl | rfl<;>exact aK _))
 by_cases h3:ah n=1
 . obtain ⟨x,hx⟩:∃ x,(digits n)[0]? = some x:=⟨_,List.getElem?_eq_getElem (by show 0<ah n;omega)⟩
   have NH:x=n:=by
     have e:=aF hx
     rw [List.take_of_length_le (show (digits n).length<=1 from by show ah n<=1;omega),aJ] at e
     simp [val] at e;omega
   have hg:=dm hx
   rw [NH] at hg
   have hnB:n<au:=by rw [<- NH];exact aQ n x (List.mem_of_getElem? hx)
   have Xe:=hdw m n (by omega) hnB tj
   have JK:bz 1 (W n) (.int .i64 0)=some (.ep (AV.int .u32 (n:Int)).cells 0):=hg
   simp only [SS,Nat.reduceAdd,c2 h1,bl,l2 h2,b1 h3,JK,az,bp]
   refine aj Xe (by simp [aK,af.int]) ?_
   simp only [SS,Nat.reduceAdd,ug,uh]
   exact ag▸ab rfl (af.tup (by intro c hc;simp at hc;rcases hc with rfl | rfl<;>exact aK _))
 -- Knuth's algorithm D
 obtain ⟨k,hk⟩:∃ k,ah n=k+2:=⟨ah n-2,by omega⟩
 obtain ⟨x,hx⟩:∃ x,(digits n)[k+1]? = some x:=⟨_,List.getElem?_eq_getElem (by show k+1<ah n;omega)⟩
 obtain ⟨Ny,Xm,hV,Xn,hs⟩:=zj hk hx
 generalize hsd:32-iQ x=s at hV Xn hs
 have ZT:=hlz x Xm Ny
 rw [hsd] at ZT
 have p1:IntKind.i64.wrap (((k+2:Nat):Int)-1)=((k+1:Nat):Int):=by rw [IntKind.wrap_i64];omega
 have p2:IntKind.i64.wrap (((k+2:Nat):Int)-2)=((k:Nat):Int):=by rw [IntKind.wrap_i64];omega
 obtain ⟨V,NI⟩:∃ V,V=n*2 ^ s:=⟨_,rfl⟩
 obtain ⟨U,T7⟩:∃ U,U=m*2 ^ s:=⟨_,rfl⟩
 rw [<- NI] at hV Xn
 have Ki:=zc (G:=G) Cn m s (by omega) hs
 have Kj:=zc (G:=G) Cn n s (by omega) hs
 rw [<- NI] at Kj
 rw [<- T7] at Ki
 obtain ⟨L,hL⟩:∃ L,ah m+1=L+(k+2):=⟨ah m+1-(k+2),by have:=cV x8;omega⟩
 have hUB:U<au ^ (ah m+1):=by
   have h4:2 ^ s<=2 ^ 32:=Nat.pow_le_pow_right (by decide) (by omega)
   have h5:m*2 ^ s<=m*2 ^ 32:=Nat.mul_le_mul_left _ h4
   have h6:m*2 ^ 32<au ^ ah m*2 ^ 32:=Nat.mul_lt_mul_of_pos_right (cT m) (by decide)
   rw [Nat.pow_succ,T7];exact Nat.lt_of_le_of_lt h5 h6
 obtain ⟨A0,R0,Xo,VM,hR0⟩:∃ A R,pad (ah m+1) U=A++R++[]/\A.length=L/\R.length=k+2 :=
   ⟨(pad (ah m+1) U).take L,(pad (ah m+1) U).drop L,by simp,by simp [kV];omega,by simp [kV];omega⟩
 have ZU:Wd A0/\Wd R0:=by
   have h4:=rX (ah m+1) U
   rw [Xo] at h4
   exact ⟨fun w hw=>h4 w (by simp [hw]),fun w hw=>h4 w (by simp [hw])⟩
 have ZV:U=val A0+au ^ L*val R0:=by
   have h4:=gq hUB
   rw [Xo,List.append_nil,cz,VM] at h4
   exact h4.symm
 have QD:val R0<V:=Ir (k:=k+2) NI (by have:=qU tj;rw [hk] at this;exact this) (by
   have h4:=cT m
   have:L+(k+2-1)=ah m:=by omega
   rw [this];exact h4) (T7▸ZV)
 have Dd:ah V=k+2:=Xn
 obtain ⟨hh,QE⟩:∃ y,(digits V)[k+1]? = some y:=⟨_,List.getElem?_eq_getElem (by show k+1<ah V;omega)⟩
 obtain ⟨ll,ZW⟩:∃ y,(digits V)[k]? = some y:=⟨_,List.getElem?_eq_getElem (by show k<ah V;omega)⟩
 have hhB:=aQ V hh (List.mem_of_getElem? QE)
 have llB:=aQ V ll (List.mem_of_getElem? ZW)
 have f1:=bq hh hhB
 have f2:=bq ll llB
 obtain ⟨Xp,YA⟩:=ZM (aQ V) Dd QE ZW
 rw [aJ] at Xp
 have YC:0<hh:=by
   rcases Be (n:=V) with h4 | ⟨w,h4,hw⟩
   . rw [h4] at QE;simp at QE
   . rw [List.getLast?_eq_getElem?,show (digits V).length-1=k+1 from by show ah V-1=k+1;omega,QE] at h4
     simp only [Option.some.injEq] at h4;omega
 have S5:0<V:=Nat.lt_of_le_of_lt (Nat.zero_le _) QD
 have QF:IntKind.i64.wrap (((ah m+1:Nat):Int)-((k+2:Nat):Int))=((L:Nat):Int):=by rw [IntKind.wrap_i64];omega
 have xi:IntKind.i64.wrap (((L:Nat):Int)-1)=(L:Int)-1:=by rw [IntKind.wrap_i64];omega
 have wY:∀ p:Id,k6 p 1 4 (.int .u32 0) (.int .i64 ((L:Nat):Int)) (.int .i64 ((L:Nat):Int))=some { val := .osl p 1 0 L false,up:=[(p,some ⟨us (List.replicate L 0),1,false⟩)] }:=fun p=>mB (by omega)
 rw [Xo] at Ki
 rw [hk] at Kj
 have b3:decide (((k+2:Nat):Int)=1)=false:=ak (by omega)
 have OT:V<au ^ (k+2+1):=Nat.lt_of_lt_of_le hV (Nat.pow_le_pow_right cZ (by omega))
 have Kk:VP P G ft [.sl 1 (us (pad (k+2+1) V))] (W V):=by
   have:=ht (pad (k+2+1) V) (rX _ _) (by rw [kV];omega)
   rwa [gq OT] at this
 simp only [SS,Nat.reduceAdd,c2 h1,bl,l2 h2,b3,hk,p1,dm hx,az,bp]
 refine aj ZT (by simp [af.int]) ?_
 simp only [SS,Nat.reduceAdd]
 refine ⟨[],_,Ki _,by simp,by simp, ?_⟩
 simp only [SS,Nat.reduceAdd]
 refine ⟨[],_,Kj _,by simp,by simp, ?_⟩
 simp only [SS,Nat.reduceAdd]
 refine cQ [([4,28],⟨us (pad (k+2+1) V),1,false⟩)] Kk (aY.cons (gK (kV _ _).symm) aY.nil) (by simp [aa.put]) ?_
 simp only [SS,Nat.reduceAdd]
 simp only [SS,DD,Nat.reduceAdd,bl,Dd,QF,xi,wY,p1,p2,dm QE,dm ZW,az,bp,f1,f2]
 refine ⟨by simp [ar], ?_⟩
 simp only [aE]
 refine VW.ZQ (α := Nat × List Nat × List Nat × List Nat × List Nat × Nat) (fun x=>⟨List.replicate 8 .top++[.int .i64 (s:Int), .osl [4,25] 1 0 (ah m+1) false,W V, .int .i64 ((k+2:Nat):Int), .osl [39] 1 0 L false, .int .u64 (hh:Int), .int .u64 (ll:Int), .int .i64 ((x.1:Int)-1)]++List.replicate 161 .top,
   aa.put (aa.put (fun _=>none) [4,25] (some ⟨us (x.2.1++x.2.2.1++x.2.2.2.1),1,false⟩)) [39] (some ⟨us (zs x.1++x.2.2.2.2.1),1,false⟩),x.2.2.2.2.2⟩)
   (fun x=>x.1+x.2.2.2.2.1.length=L/\x.2.1.length=x.1/\x.2.2.1.length=k+2/\x.1+(k+2)+x.2.2.2.1.length=ah m+1/\Wd x.2.1/\Wd x.2.2.1/\Wd x.2.2.2.2.1/\val x.2.2.1<V/\U=val x.2.1+au ^ x.1*(val x.2.2.2.2.1*V+val x.2.2.1)) (fun x=>x.1) (L,A0,R0,[],[],1000) ?_ ?_ ?_
 . refine Wk.forget (by simp [Fg,List.replicate]) (fun j => ?_) (by simp only [];omega)
   simp only [List.append_nil,aa.put,aa.app,rm,List.map_cons,List.map_nil,zs]
   by_cases e1:j=[39]
   . subst e1;simp
   . by_cases e2:j=[4,25]
     . subst e2;simp
     . simp [e1,e2]
 . refine ⟨by simp,VM,hR0,by simp;omega,ZU.1,ZU.2,by intro w hw;simp at hw,QD, ?_⟩
   show U=val A0+au ^ L*(val []*V+val R0)
   rw [show val []=0 from rfl,Nat.zero_mul,Nat.zero_add];exact ZV
 rintro ⟨c,A,R,t,o,nn⟩ ⟨hc,hA,hR,D9,Xq,Xr,Xs,Im,Xt⟩
 simp only [] at hc hA hR D9 Xq Xr Xs Im Xt
 rcases Nat.eq_zero_or_pos c with h0 | hcp
 . subst h0
   have d0:decide ((0:Int)<=((0:Nat):Int)-1)=false:=by decide
   refine VW.Is (VW.of ?_)
   simp only [SS,DD,Nat.reduceAdd,d0]
   obtain rfl:A=[]:=List.length_eq_zero_iff.1 hA
   have hU':m*2 ^ s=val o*(n*2 ^ s)+val R:=by
     rw [<- T7, <- NI,Xt]
     show val []+au ^ 0*_=_
     simp [val]
   obtain ⟨g1,g2,g3⟩:=Ms tj hU' (NI▸Im)
   have hoL:L=o.length:=by omega
   have ZX:=ht o Xs (by omega)
   rw [g1] at ZX
   have htR:=ht R Xr (by omega)
   have hwR:ah (val R)<=1000000:=by rw [<- NI,Dd] at g3;omega
   have adj:=D8 (G:=G) hsr (val R) s hwR hs
   have Mt:VP P G ft [.sl 1 (us (pad (ah (val R)) (val R/2 ^ s)))] (W (m%n)):=by
     have e:=ht (pad (ah (val R)) (val R/2 ^ s)) (rX _ _) (by rw [kV];omega)
     rw [gq (Nat.lt_of_le_of_lt (Nat.div_le_self _ _) (cT _))] at e
     rw [<- g2];exact e
   have Iu:bZ 1 (.osl [4,25] 1 0 (ah m+1) false) none (some (.int .i64 ((k+2:Nat):Int))) none=some (.osl [4,25] 1 0 (k+2) false):=Dc (by omega)
   rw [ue,List.nil_append,List.nil_append]
   refine Bh [([39],⟨us o,1,false⟩)] ZX (aY.cons (gK hoL) aY.nil) (by simp [aa.put]) ?_
   simp only [SS,DD,Nat.reduceAdd,Iu]
   refine Bh [([4,25],⟨us (R++t),1,false⟩)] htR (aY.cons (It hR.symm) aY.nil) (by simp [aa.put,aa.app,rm]) ?_
   simp only [SS,DD,Nat.reduceAdd]
   refine ax adj (by simp [aK,af.int]) ?_
   simp only [SS,DD,Nat.reduceAdd]
   refine ax Mt (by simp [kU]) ?_
   simp only [SS,DD,Nat.reduceAdd]
   refine ⟨by simp [ar,apart,rm], ?_⟩
   exact ag▸ab rfl (af.tup (by intro c hc;simp at hc;rcases hc with rfl | rfl<;>exact aK _))
 obtain ⟨i,rfl⟩:∃ i,c=i+1:=⟨c-1,by omega⟩
 have d0:decide ((0:Int)<=(i:Int))=true:=an (by omega)
 have hj:((i+1:Nat):Int)-1=(i:Int):=by omega
 have B2:IntKind.i64.wrap ((i:Int)-1)=(i:Int)-1:=by rw [IntKind.wrap_i64];omega
 refine VW.Is (VW.of ?_)
 simp only [SS,Nat.reduceAdd,hj,d0]
 obtain ⟨A',y,rfl,S6⟩:=uj hA
 obtain ⟨b,BW⟩:∃ b,b=y::R:=⟨_,rfl⟩
 have eb:A'++[y]++R++t=A'++b++t:=by rw [BW];simp
 rw [eb]
 have Xu:y<au:=Xq y (by simp)
 have Xv:Wd A':=fun w hw=>Xq w (by simp [hw])
 have wN:b.length=k+3:=by rw [BW];simp [hR]
 have GI:Wd b:=by
   intro w hw;rw [BW] at hw
   rcases List.mem_cons.1 hw with rfl | hw
   . exact Xu
   . exact Xr w hw
 have ZY:val b=y+au*val R:=by rw [BW];rfl
 obtain ⟨VN,S7⟩:=ZO Xu Im
 rw [<- ZY] at VN S7
 obtain ⟨x2,Xw⟩:∃ z,b[k+2]? = some z:=⟨_,List.getElem?_eq_getElem (by omega)⟩
 obtain ⟨x1,Qe⟩:∃ z,b[k+1]? = some z:=⟨_,List.getElem?_eq_getElem (by omega)⟩
 obtain ⟨z0,S3⟩:∃ z,b[k]? = some z:=⟨_,List.getElem?_eq_getElem (by omega)⟩
 have Kl:=GI x2 (List.mem_of_getElem? Xw)
 have QG:=GI x1 (List.mem_of_getElem? Qe)
 have QH:=GI z0 (List.mem_of_getElem? S3)
 obtain ⟨hD,YB⟩:=ZN GI wN Xw Qe S3
 rw [show x2*au+x1=au*x2+x1 from by rw [Nat.mul_comm]] at hD
 obtain ⟨num,De⟩:∃ z,z=au*x2+x1:=⟨_,rfl⟩
 rw [<- De] at hD
 have Mu:num<18446744073709551616:=by rw [De];unfold au at *;omega
 have a1:=nq i (k+2) (by omega)
 have a2:IntKind.i64.wrap (((i+(k+2):Nat):Int)-1)=((i+(k+1):Nat):Int):=by rw [IntKind.wrap_i64];omega
 have a3:IntKind.i64.wrap (((i+(k+2):Nat):Int)-2)=((i+k:Nat):Int):=by rw [IntKind.wrap_i64];omega
 have a4:IntKind.i64.wrap (((i+(k+2):Nat):Int)+1)=((i+(k+3):Nat):Int):=by rw [IntKind.wrap_i64];omega
 have ia2:=cF (q:=[4,25]) (t:=false) (show i+(k+2)<ah m+1 by omega)
 have ia1:=cF (q:=[4,25]) (t:=false) (show i+(k+1)<ah m+1 by omega)
 have ia0:=cF (q:=[4,25]) (t:=false) (show i+k<ah m+1 by omega)
 have iaq:=cF (q:=[39]) (t:=false) (show i<L by omega)
 have Iu:bZ 1 (.osl [4,25] 1 0 (ah m+1) false) (some (.int .i64 (i:Int))) (some (.int .i64 ((i+(k+3):Nat):Int))) none=some (.osl [4,25] 1 A'.length (ah V+1) false):=by
   rw [E6 (by omega) (by omega),S6,Dd]
   congr 2;omega
 generalize hσ : aa.put (aa.put (fun _=>none) [4,25] (some ⟨us (A'++b++t),1,false⟩)) [39] (some ⟨us (zs (i+1)++o),1,false⟩) = σ0
 have T8 : σ0 [4,25]=some ⟨us (A'++b++t),1,false⟩:=by rw [<- hσ];simp [aa.put]
 have ZZ : σ0 [39]=some ⟨us (zs (i+1)++o),1,false⟩:=by rw [<- hσ];simp [aa.put]
 have ld2:=iO T8 (ui (t:=t) S6 Xw)
 have ld1:=iO T8 (ui (t:=t) S6 Qe)
 have ld0:=iO T8 (ui (t:=t) S6 S3)
 have w2:=bq x2 Kl
 have w1:=bq x1 QG
 have w0:=bq z0 QH
 have s2:=vX x2 Kl
 have o2:=C6 x2 x1 Kl QG
 rw [<- De] at o2
 have q1:=C7 num hh Mu (by omega)
 have r1:=C8 num hh (by omega)
 refine VW.Is (VW.QC (VW.Is (VW.of ?_)))
 simp only [SS,DD,Nat.reduceAdd,a1,a2,ia2,ia1,ld2,ld1,w2,w1,s2,o2]
 refine ⟨by simp [ar],VW.Is (VW.of ?_)⟩
 simp only [SS,DD,Nat.reduceAdd,q1,r1]
 refine ⟨by simp [ar],VW.Is (VW.QC ?_)⟩
 have Z0:num/hh*hh+num%hh=num:=by rw [Nat.mul_comm];exact Nat.div_add_mod num hh
 have Gc:=Ip YC Xp hD QH YB
 refine VW.mono (Q:=fun e s'=>∃ q n2,e = .exit 3/\(q<au/\val b/V<=q/\q<=val b/V+1)/\Wk G [] s' ⟨List.replicate 8 .top++[.int .i64 (s:Int), .osl [4,25] 1 0 (ah m+1) false,W V, .int .i64 ((k+2:Nat):Int), .osl [39] 1 0 L false, .int .u64 (hh:Int), .int .u64 (ll:Int), .int .i64 (i:Int), .top, .int .u64 (q:Int)]++List.replicate 159 .top, σ0,n2⟩) ?_ ?_
 . refine VW.bR (α := Nat × Nat × Nat) (fun x=>⟨List.replicate 8 .top++[.int .i64 (s:Int), .osl [4,25] 1 0 (ah m+1) false,W V, .int .i64 ((k+2:Nat):Int), .osl [39] 1 0 L false, .int .u64 (hh:Int), .int .u64 (ll:Int), .int .i64 (i:Int), .top, .int .u64 (x.1:Int), .int .u64 (x.2.1:Int)]++List.replicate 158 .top, σ0,x.2.2⟩)
     (fun x=>x.1*hh+x.2.1=num/\val b/V<=x.1/\x.2.1<au/\x.1<18446744073709551616) (fun x=>x.1) (num/hh,num%hh,nn+1000) ?_ ?_ ?_
   . exact Wk.bc (by simp [Fg,List.replicate]) (by simp only [];omega)
   . exact ⟨Z0,Gc,Nat.lt_trans (Nat.mod_lt _ YC) hhB,Nat.lt_of_le_of_lt (Nat.div_le_self _ _) Mu⟩
   rintro ⟨q,r,n3⟩ ⟨GR,hle,DN,ado⟩
   simp only [] at GR hle DN ado
   have d1:au<=q->decide ((4294967296:Int)<=(q:Int))=true:=fun h=>an (by unfold au at h;omega)
   have d2 : ¬ au<=q->decide ((4294967296:Int)<=(q:Int))=false:=fun h=>ak (by unfold au at h;omega)
   have d3:au<=r+hh->decide ((4294967296:Int)<=((r+hh:Nat):Int))=true:=fun h=>an (by unfold au at h;omega)
   have d4 : ¬ au<=r+hh->decide ((4294967296:Int)<=((r+hh:Nat):Int))=false:=fun h=>ak (by unfold au at h;omega)
   have d5:au*r+z0<q*ll->decide (((au*r+z0:Nat):Int)<((q*ll:Nat):Int))=true:=fun h=>an (by omega)
   have d6 : ¬ au*r+z0<q*ll->decide (((au*r+z0:Nat):Int)<((q*ll:Nat):Int))=false:=fun h=>ak (by omega)
   have m1 : ¬ au<=q->IntKind.u64.wrap ((q:Int)*(ll:Int))=((q*ll:Nat):Int):=fun h=>Mk q ll (by omega) llB
   have s3:=vX r DN
   have o3:=C6 r z0 DN QH
   have p3:=ox r hh (by unfold au at *;omega)
   have G4:=fun ht=>Xh (q:=q) (r:=r) llB YA YB YC Xp hD VN S7 GR hle ht
   have ml : ¬ au<=q->q*ll<=r*au+z0->q<=val b/V+1:=fun h1 h2=>Mq YC Xp hD YA (by omega) GR h2
   have La:r*au=au*r:=Nat.mul_comm _ _
   rw [La] at G4 ml
   have pq:1<=q->IntKind.u64.wrap ((q:Int)-1)=((q-1:Nat):Int):=fun h=>by rw [IntKind.wrap_u64];omega
   have VF:q-1<18446744073709551616:=by omega
   have hmq:1<=q->q-1<q:=fun h=>by omega
   have hrh : ¬ au<=r+hh->r+hh<au:=fun h=>by omega
   by_cases cq:au<=q
   . obtain ⟨k1,k2,k3,k4⟩:=G4 (.inl cq)
     by_cases cr:au<=r+hh
     . simp only [SS,Nat.reduceAdd,d1 cq,pq k1,p3,d3 cr]
       exact ⟨q-1,_,trivial,⟨(k4 cr).1,k2,(k4 cr).2⟩,Wk.bc (by simp [Fg]) (Nat.le_refl _)⟩
     . simp only [SS,Nat.reduceAdd,d1 cq,pq k1,p3,d4 cr]
       exact ⟨(q-1,r+hh,_),⟨k3,k2,hrh cr,VF⟩,hmq k1,Wk.bc (by simp [Fg]) (Nat.le_refl _)⟩
   . by_cases ct:au*r+z0<q*ll
     . obtain ⟨k1,k2,k3,k4⟩:=G4 (.inr ct)
       by_cases cr:au<=r+hh
       . simp only [SS,Nat.reduceAdd,d2 cq,m1 cq,s3,a1,a3,ia0,ld0,w0,o3,d5 ct,pq k1,p3,d3 cr]
         exact ⟨q-1,_,trivial,⟨(k4 cr).1,k2,(k4 cr).2⟩,Wk.bc (by simp [Fg]) (Nat.le_refl _)⟩
       . simp only [SS,Nat.reduceAdd,d2 cq,m1 cq,s3,a1,a3,ia0,ld0,w0,o3,d5 ct,pq k1,p3,d4 cr]
         exact ⟨(q-1,r+hh,_),⟨k3,k2,hrh cr,VF⟩,hmq k1,Wk.bc (by simp [Fg]) (Nat.le_refl _)⟩
     . have hp:=ml cq (by omega)
       have adp:q<au:=by omega
       simp only [SS,Nat.reduceAdd,d2 cq,m1 cq,s3,a1,a3,ia0,ld0,w0,o3,d6 ct]
       exact ⟨q,_,trivial,⟨adp,hle,hp⟩,Wk.bc (by simp [Fg]) (Nat.le_refl _)⟩
 rintro e s' ⟨q,n2,rfl,⟨hqB,hle,VK⟩,hw⟩
 simp only [wB,if_true,qQ]
 refine VW.cut hw ?_
 have xA:=Ie (G:=G) hsu (id:=[4,25]) (a:=A') (b:=b) (t:=t) (v:=V) (q:=q) (tight:=false) (by omega) (by omega) GI hqB
 have BB:=Kf (G:=G) hre (id:=[4,25]) (a:=A') (b:=pad (ah V+1) (val b+au ^ (ah V+1)-q*V)) (t:=t) (v:=V) (tight:=false) (by omega) (kV _ _) (rX _ _)
 have hVB:V<au ^ (k+2):=hV
 have E7:val b%V<V:=Nat.mod_lt _ S5
 have Mv:val b%V<au ^ (k+2):=Nat.lt_trans E7 hVB
 simp only [SS,Nat.reduceAdd,a1,a4,Iu]
 refine ⟨[([4,25],⟨us (A'++b++t),1,false⟩)],_,xA _,by simp [T8],by simp, ?_⟩
 have hqL:i<(zs (i+1)++o).length:=by simp [zs];omega
 have uR:val b=val b/V*V+val b%V:=by have:=Nat.div_add_mod (val b) V;rw [Nat.mul_comm] at this;omega
 have hUn:U=val A'+au ^ i*(val (val b/V::o)*V+val (pad (k+2) (val b%V))):=by
   rw [gq Mv]
   refine Iq (x:=y) (R:=val R) (O:=val o) ?_ (by rw [<- ZY];exact uR)
   rw [Xt,cz,S6]
   simp only [val,Nat.mul_zero,Nat.add_zero]
 have uO:i+(val b/V::o).length=L/\A'.length=i/\(pad (k+2) (val b%V)).length=k+2/\i+(k+2)+(0::t).length=ah m+1/\Wd A'/\Wd (pad (k+2) (val b%V))/\Wd (val b/V::o)/\val (pad (k+2) (val b%V))<V/\U=val A'+au ^ i*(val (val b/V::o)*V+val (pad (k+2) (val b%V))):=by
   refine ⟨by simp;omega,S6,kV _ _,by simp;omega,Xv,rX _ _, ?_,by rw [gq Mv];exact E7,hUn⟩
   intro w hw
   rcases List.mem_cons.1 hw with rfl | hw
   . exact S7
   . exact Xs w hw
 have S2:IntKind.u32.wrap ((val b/V:Nat):Int)=((val b/V:Nat):Int):=by rw [uL,Nat.mod_eq_of_lt S7]
 have Vg:((i:Nat):Int)-1=(((i:Nat):Int)-1):=rfl
 rcases Xf S5 hle VK with ⟨aN,T9⟩ | ⟨ta,T9⟩
 . have dn:decide (val b<q*V)=true:=an aN
   have pq:=Xj T9 hqB
   have Yq:pad (ah V+1) (val (pad (ah V+1) (val b+au ^ (ah V+1)-q*V))+V)=pad (k+2) (val b%V)++[0]:=by
     rw [Dd];exact QB S5 Mv hVB T9
   have ef:A'++(pad (k+2) (val b%V)++[0])++t=A'++pad (k+2) (val b%V)++(0::t):=by simp
   rw [Yq,ef] at BB
   simp only [SS,Nat.reduceAdd,dn,pq,a1,a4,Iu]
   refine ⟨[([4,25],⟨us (A'++pad (ah V+1) (val b+au ^ (ah V+1)-q*V)++t),1,false⟩)],_,BB _,by simp [aa.put],by simp, ?_⟩
   simp only [SS,Nat.reduceAdd,S2,iaq]
   rw [bW (o:=zs (i+1)++o) (by simp [aa.put,ZZ]) hqL,vY]
   simp only [SS,Nat.reduceAdd]
   refine VW.of ?_
   simp only [SS,Nat.reduceAdd,B2]
   refine ⟨(i,A',pad (k+2) (val b%V),0::t,val b/V::o,_),uO,Nat.lt_succ_self i,Wk.forget (by simp [Fg]) (fun j => ?_) (Nat.le_refl _)⟩
   by_cases e1:j=[39]
   . subst e1;simp [aa.put]
   . by_cases e2:j=[4,25]
     . subst e2;simp [aa.put]
     . simp [aa.put,e1,e2]
 . have dn:decide (val b<q*V)=false:=ak (by omega)
   have Yq:pad (ah V+1) (val b+au ^ (ah V+1)-q*V)=pad (k+2) (val b%V)++[0]:=by
     rw [Dd];exact QA Mv T9
   have ef:A'++(pad (k+2) (val b%V)++[0])++t=A'++pad (k+2) (val b%V)++(0::t):=by simp
   rw [Yq,ef]
   simp only [SS,Nat.reduceAdd,dn]
   rw [T9]
   simp only [SS,Nat.reduceAdd,S2,iaq]
   rw [bW (o:=zs (i+1)++o) (by simp [aa.put,ZZ]) hqL,vY]
   simp only [SS,Nat.reduceAdd]
   refine VW.of ?_
   simp only [SS,Nat.reduceAdd,B2]
   refine ⟨(i,A',pad (k+2) (val b%V),0::t,val b/V::o,_),uO,Nat.lt_succ_self i,Wk.forget (by simp [Fg]) (fun j => ?_) (Nat.le_refl _)⟩
   by_cases e1:j=[39]
   . subst e1;simp [aa.put]
   . by_cases e2:j=[4,25]
     . subst e2;simp [aa.put]
     . simp [aa.put,e1,e2]
end
end Go.VL
end

section
set_option linter.unusedVariables false
namespace Go.VL
theorem Z1 (neg:Bool) (n:Nat):IV (jE neg n) = .agg [.bool (neg&&decide (0<n)),W n]:=by
 cases neg
 . simp only [IV,jE];simp<;>omega
 . simp only [IV,jE];simp<;>omega
theorem Ua (σ : aa) (id:Id) (k:Nat) (b:Bool) (n:Nat):eO (σ.put id (some ⟨[.agg [.bool false, .nils]],k,false⟩)) 2 (.ref id 0 0) (.agg [.bool b,W n])=some { val := .tup [],rd:=[id],up:=[(id,some ⟨[.agg [.bool b,W n]],k,false⟩)] }:=by
 rw [cE (n:=2) (v := .agg [.bool b,W n]) (els:=[.agg [.bool false, .nils]]) (k:=k) (aa.bd _ _ _) rfl rfl (by simp [AV.size,AV.cells]) rfl]
 rfl
theorem QI {n:Nat}:0<ah n↔0<n:=by have:=bI (n:=n);omega
section
variable {P:Program} {G:Nat->Option (List AV)}
theorem Km {f ft:FuncId} (h:Has P f (ju ft)) (ht:gV P G ft):jk P G f:=fun neg n hn=>by
 refine VP.has h ?_
 simp only [ju,SS,Nat.reduceAdd,cB]
 refine aj (qg ht n hn) (by simp [aK]) ?_
 have e:∀ b,pg [.bool false, .nils] [(0,(1, .bool b)),(1,(1,W n))]=some [.bool b,W n]:=fun _=>rfl
 have dd:decide ((0:Int)<(ah n:Int))=decide (0<n):=by
   have:=QI (n:=n)
   by_cases h0:0<n
   . rw [an h0,an (by omega)]
   . rw [ak h0,ak (by omega)]
 rw [Z1]
 cases neg <;>
 . simp only [SS,Nat.reduceAdd,bl,dd,e,Ua,Bool.true_and,Bool.false_and]
   refine ag▸ab ?_ (af.agg (by intro c hc;simp at hc;rcases hc with rfl | rfl;exact af.bool _;exact aK _))
   simp only [RS,bU,cy,ae];rfl
theorem QJ {f fs:FuncId} (h:Has P f (kI fs)) (hs:jk P G fs) (z:Int) (hz:ah z.natAbs<=1000000):VP P G f [IV z] (IV z):=by
 refine VP.has h ?_
 have l7:=hs (decide (z<0)) z.natAbs (by omega)
 rw [C9] at l7
 have eG:([0]:List Nat)≠[1]:=by decide
 simp only [kI,SS,Nat.reduceAdd,ib,cB,ai eG,ae,jJ,iv]
 refine aj l7 (by simp [af.bool,aK]) ?_
 simp only [SS,Nat.reduceAdd,gy]
 refine ag▸ab (r:=IV z) ?_ (aG _)
 simp only [RS,bU,cy,ae];rfl
theorem Ub {f fs:FuncId} (h:Has P f (lk fs)) (hs:jk P G fs) (z:Int) (hz:ah z.natAbs<=1000000):VP P G f [IV z] (IV (-z)):=by
 refine VP.has h ?_
 have l7:=hs (!decide (z<0)) z.natAbs (by omega)
 rw [Mm] at l7
 have eG:([0]:List Nat)≠[1]:=by decide
 simp only [lk,SS,Nat.reduceAdd,ib,cB,ai eG,ae,jJ,iv]
 refine aj l7 (by simp [af.bool,aK]) ?_
 simp only [SS,Nat.reduceAdd,gy]
 refine ag▸ab (r:=IV (-z)) ?_ (aG _)
 simp only [RS,bU,cy,ae];rfl
theorem NJ {f fn:FuncId} (h:Has P f (kL fn)) (hn:∀ z:Int,ah z.natAbs<=1000000->VP P G fn [IV z] (IV z)) (z:Int) (hz:ah z.natAbs<=1000000):VP P G f [IV z] (.int .i64 z.sign):=by
 refine VP.has h ?_
 have hl:ah z.natAbs=0↔z=0:=by rw [bI];omega
 simp only [kL,SS,Nat.reduceAdd,ib,ae,cx]
 refine aj (hn z hz) (by simp [aG]) ?_
 simp only [SS,Nat.reduceAdd]
 rw [bE (k:=(IV z).size) (y:=IV z) rfl (rY _ _) (by simp [aa.put])]
 simp only [SS,Nat.reduceAdd,ae,iv,bl]
 by_cases h0:z=0
 . have d0:decide ((ah z.natAbs:Int)=0)=true:=an (by have:=hl.2 h0;omega)
   simp only [SS,Nat.reduceAdd,d0]
   rw [h0]
   exact ag▸ab rfl (af.int _ _)
 . have d0:decide ((ah z.natAbs:Int)=0)=false:=ak (by have:=fun e=>h0 (hl.1 e);omega)
   by_cases hn:z<0
   . have d1:decide (z<0)=true:=an hn
     simp only [SS,Nat.reduceAdd,d0,ae,jJ,d1]
     rw [Int.sign_eq_neg_one_of_neg hn]
     exact ag▸ab rfl (af.int _ _)
   . have d1:decide (z<0)=false:=ak hn
     simp only [SS,Nat.reduceAdd,d0,ae,jJ,d1]
     rw [Int.sign_eq_one_of_pos (by omega)]
     exact ag▸ab rfl (af.int _ _)
theorem NK {f fu fs:FuncId} (h:Has P f (iY fu fs)) (hu:∀ n,n<18446744073709551616->VP P G fu [.int .u64 ((n:Nat):Int)] (W n)) (hs:jk P G fs) (a:Int) (h1 : -9223372036854775808<=a) (h2:a<9223372036854775808):VP P G f [.int .i64 a] (IV a):=by
 refine VP.has h ?_
 have uD:=nT a.natAbs (by omega)
 have l7:=hs (decide (a<0)) a.natAbs (by omega)
 rw [C9] at l7
 have JH:=hu a.natAbs (by omega)
 simp only [iY,SS,Nat.reduceAdd,cB]
 by_cases hn:a<0
 . have d1:decide (a<0)=true:=an hn
   rw [d1] at l7
   have e1:IntKind.u64.wrap (0-(IntKind.u64.wrap a))=(a.natAbs:Int):=by rw [IntKind.wrap_u64,IntKind.wrap_u64];omega
   simp only [SS,Nat.reduceAdd,d1,e1]
   refine aj JH (by simp [af.int]) ?_
   simp only [SS,Nat.reduceAdd]
   refine aj l7 (by simp [af.bool,aK]) ?_
   simp only [SS,Nat.reduceAdd,gy]
   refine ag▸ab (r:=IV a) ?_ (aG _)
   simp only [RS,bU,cy,ae];rfl
 . have d1:decide (a<0)=false:=ak hn
   rw [d1] at l7
   have e1:IntKind.u64.wrap a=(a.natAbs:Int):=by rw [IntKind.wrap_u64];omega
   simp only [SS,Nat.reduceAdd,d1,e1]
   refine aj JH (by simp [af.int]) ?_
   simp only [SS,Nat.reduceAdd]
   refine aj l7 (by simp [af.bool,aK]) ?_
   simp only [SS,Nat.reduceAdd,gy]
   refine ag▸ab (r:=IV a) ?_ (aG _)
   simp only [RS,bU,cy,ae];rfl
end
end Go.VL
end

section
set_option linter.unusedVariables false
namespace Go.VL
theorem xq {ds:List Nat} {j a:Nat} (h:ds[j]? = some a):val (ds.drop j)=a+au*val (ds.drop (j+1)):=by
 obtain ⟨h1,h2⟩:=List.getElem?_eq_some_iff.1 h
 rw [List.drop_eq_getElem_cons h1,h2];rfl
theorem Uc {ds:List Nat} (h:Wd ds) (k:Nat):Wd (ds.drop k):=fun w hw=>h w (List.mem_of_mem_drop hw)
section
variable {P:Program} {G:Nat->Option (List AV)}
theorem QK {f:FuncId} (h:Has P f j5) (n:Nat) (hn:n<18446744073709551616):VP P G f [W n] (.int .u64 (n:Int)):=by
 refine VP.has h ?_
 have hwn:=nT n hn
 have WY:IntKind.i64.wrap ((ah n:Int)-1)=(ah n:Int)-1:=by rw [IntKind.wrap_i64];omega
 simp only [j5,SS,Nat.reduceAdd,bl,WY,aE]
 refine VW.bR (α := Nat × Nat × Nat) (fun x=>⟨[W n, .top, .top, .int .u64 (x.2.2:Int), .int .i64 ((x.1:Int)-1)]++List.replicate 16 .top,fun _=>none,x.2.1⟩)
   (fun x=>x.1<=ah n/\x.2.2=val ((digits n).drop x.1)) (fun x=>x.1) (ah n,1000,0) ?_ ?_ ?_
 . exact Wk.bc (by simp [Fg,List.replicate]) (by simp only [];omega)
 . refine ⟨Nat.le_refl _, ?_⟩
   show 0=val ((digits n).drop (ah n))
   rw [List.drop_eq_nil_of_le (show (digits n).length<=ah n from Nat.le_refl _)];rfl
 rintro ⟨k,nn,r⟩ ⟨hk,hv⟩
 simp only [] at hk hv
 by_cases h0:k=0
 . subst h0
   have d0:decide ((0:Int)<=((0:Nat):Int)-1)=false:=by decide
   rw [List.drop_zero,aJ] at hv
   subst hv
   simp only [SS,Nat.reduceAdd,d0]
   exact ag▸ab rfl (af.int _ _)
 . obtain ⟨j,rfl⟩:∃ j,k=j+1:=⟨k-1,by omega⟩
   have d0:decide ((0:Int)<=(j:Int))=true:=an (by omega)
   have hj:((j+1:Nat):Int)-1=(j:Int):=by omega
   have Ml:IntKind.i64.wrap ((j:Int)-1)=(j:Int)-1:=by rw [IntKind.wrap_i64];omega
   obtain ⟨a,ha⟩:∃ a,(digits n)[j]? = some a:=⟨_,List.getElem?_eq_getElem (show j<ah n by omega)⟩
   have ud:=aQ n a (List.mem_of_getElem? ha)
   have f1:=bq a ud
   have DN:r<au:=by
     have h1:=lD (Uc (aQ n) (j+1))
     rw [<- hv,List.length_drop] at h1
     have h2:au ^ ((digits n).length-(j+1))<=au ^ 1:=Nat.pow_le_pow_right cZ (by show ah n-(j+1)<=1;omega)
     rw [Nat.pow_one] at h2;omega
   have f2:=vX r DN
   have f3:=C6 r a DN ud
   have nA:au*r+a=val ((digits n).drop j):=by rw [xq ha,hv,Nat.add_comm]
   have ZD:j<=ah n:=by omega
   simp only [SS,Nat.reduceAdd,d0,hj,dm ha,az,bp,f1,f2,f3,Ml]
   exact ⟨(j,_,au*r+a),⟨ZD,nA⟩,Nat.lt_succ_self j,Wk.bc (by simp [Fg]) (Nat.le_refl _)⟩
theorem Iv {f:FuncId} (h:Has P f iZ) (m n:Nat) (hm:ah m<=1000000) (_hn:ah n<=1000000):VP P G f [W m,W n] (.int .i64 (gp m n)):=by
 refine VP.has h ?_
 simp only [iZ,SS,Nat.reduceAdd,bl]
 by_cases hl:ah m=ah n
 case neg =>
   have d:decide ((ah m:Int)≠(ah n:Int))=true:=an (by omega)
   rcases Nat.lt_or_ge (ah m) (ah n) with h1 | h1
   . have h2:=uc h1
     have d1:decide ((ah m:Int)<(ah n:Int))=true:=an (by omega)
     have e:gp m n = -1-0:=by unfold gp;rw [wE (by omega)];rfl
     rw [e]
     simp only [SS,Nat.reduceAdd,bl,d,d1]
     exact ag▸ab rfl (af.int _ _)
   . have K4:ah n<ah m:=by omega
     have h2:=uc K4
     have d1:decide ((ah m:Int)<(ah n:Int))=false:=ak (by omega)
     have e:gp m n=1:=by unfold gp;rw [wF (by omega)]
     rw [e]
     simp only [SS,Nat.reduceAdd,bl,d,d1]
     exact ag▸ab rfl (af.int _ _)
 have d:decide ((ah m:Int)≠(ah n:Int))=false:=ak (by omega)
 have ew:IntKind.i64.wrap ((ah m:Int)-1)=(ah m:Int)-1:=by rw [IntKind.wrap_i64];omega
 have hd0:(digits m).drop (ah m)=(digits n).drop (ah m):=by
   have e1:(digits m).drop (ah m)=[]:=List.drop_of_length_le (Nat.le_refl _)
   have e2:(digits n).drop (ah m)=[]:=List.drop_of_length_le (by show ah n<=ah m;omega)
   rw [e1,e2]
 simp only [SS,Nat.reduceAdd,bl,d,ew,aE]
 refine VW.bR (α := Nat × Nat) (fun x=>⟨[W m,W n, .top, .top, .top, .int .i64 ((x.1:Int)-1)]++List.replicate 35 .top,fun _=>none,x.2⟩) (fun x=>x.1<=ah m/\(digits m).drop x.1=(digits n).drop x.1) (fun x=>x.1) (ah m,1000) ?_
   ⟨Nat.le_refl _,hd0⟩ ?_
 . exact Wk.bc (by simp [Fg,List.replicate]) (by simp only [];omega)
 rintro ⟨j,q⟩ ⟨hj,hd⟩
 simp only [] at hj hd
 simp only [SS,Nat.reduceAdd]
 by_cases h0:j=0
 . subst h0
   have d0:decide ((0:Int)<=((0:Nat):Int)-1)=false:=by decide
   simp only [SS,d0]
   have e:m=n:=by
     simp only [List.drop_zero] at hd
     rw [<- aJ m,hd,aJ]
   have e2:gp m n=0:=F4 (by omega)
   rw [e2]
   exact ag▸ab rfl (af.int _ _)
 . have oq:0<j:=Nat.pos_of_ne_zero h0
   have d0:decide ((0:Int)<=((j-1:Nat):Int))=true:=an (by omega)
   have ej:(j:Int)-1=((j-1:Nat):Int):=by omega
   have WS:j-1<(digits m).length:=by show j-1<ah m;omega
   have JL:j-1<(digits n).length:=by show j-1<ah n;omega
   have ew2:IntKind.i64.wrap (((j-1:Nat):Int)-1)=((j-1:Nat):Int)-1:=by rw [IntKind.wrap_i64];omega
   obtain ⟨x,hx⟩:∃ x,(digits m)[j-1]? = some x:=⟨_,List.getElem?_eq_getElem WS⟩
   obtain ⟨y,hy⟩:∃ y,(digits n)[j-1]? = some y:=⟨_,List.getElem?_eq_getElem JL⟩
   have SV:(digits m).drop (j-1+1)=(digits n).drop (j-1+1):=by rw [show j-1+1=j from by omega];exact hd
   rcases Nat.lt_trichotomy x y with h1 | h1 | h1
   . have e:gp m n = -1-0:=by
       have:=B3 (aQ m) (aQ n) hl hx hy SV h1
       rw [aJ,aJ] at this
       unfold gp;rw [wE (by omega)];rfl
     have d1:decide ((x:Int)<(y:Int))=true:=an (by omega)
     rw [e]
     simp only [SS,DD,Nat.reduceAdd,d0,ej,dm hx,dm hy,az,bp,d1]
     refine ⟨by simp [ar], ?_⟩
     exact ag▸ab rfl (af.int _ _)
   . have d1:decide ((x:Int)<(y:Int))=false:=ak (by omega)
     have d2:decide ((y:Int)<(x:Int))=false:=ak (by omega)
     simp only [SS,DD,Nat.reduceAdd,d0,ej,dm hx,dm hy,az,bp,d1]
     refine ⟨by simp [ar], ?_⟩
     simp only [SS,Nat.reduceAdd,d2,ew2]
     refine ⟨by simp [ar],(j-1,_),⟨by simp only [];omega, ?_⟩,by simp only [];omega,Wk.bc (by simp [Fg]) (Nat.le_refl _)⟩
     simp only []
     rw [List.drop_eq_getElem_cons WS,List.drop_eq_getElem_cons JL,SV]
     obtain ⟨_,K4⟩:=List.getElem?_eq_some_iff.1 hx
     obtain ⟨_,Vb⟩:=List.getElem?_eq_some_iff.1 hy
     rw [K4,Vb,h1]
   . have e:gp m n=1:=by
       have:=B3 (aQ n) (aQ m) hl.symm hy hx SV.symm h1
       rw [aJ,aJ] at this
       unfold gp;rw [wF (by omega)]
     have d1:decide ((x:Int)<(y:Int))=false:=ak (by omega)
     have d2:decide ((y:Int)<(x:Int))=true:=an (by omega)
     rw [e]
     simp only [SS,DD,Nat.reduceAdd,d0,ej,dm hx,dm hy,az,bp,d1]
     refine ⟨by simp [ar], ?_⟩
     simp only [SS,d2]
     refine ⟨by simp [ar], ?_⟩
     exact ag▸ab rfl (af.int _ _)
end
end Go.VL
end

section
set_option linter.unusedVariables false
namespace Go.VL
theorem wI {x y c:Nat} (hx:x<au) (hy:y<au) (hc:c<=1):∃ w c':Nat,w<au/\c'<=1/\w+y+c=x+au*c' /\
   (∃ d:Nat,IntKind.u64.wrap (IntKind.u64.wrap (IntKind.u64.wrap ((x:Int)+4294967296)-(y:Int))-(c:Int))=(d:Int)/\IntKind.u32.wrap (d:Int)=(w:Int)/\IntKind.u64.wrap (1-((d/au:Nat):Int))=(c':Int)):=by
 have h1:IntKind.u64.wrap ((x:Int)+4294967296)=((x+4294967296:Nat):Int):=by rw [IntKind.wrap_u64];unfold au at *;omega
 have h2:IntKind.u64.wrap (((x+4294967296:Nat):Int)-(y:Int))=((x+4294967296-y:Nat):Int):=by rw [IntKind.wrap_u64];unfold au at *;omega
 have h3:IntKind.u64.wrap (((x+4294967296-y:Nat):Int)-(c:Int))=((x+4294967296-y-c:Nat):Int):=by rw [IntKind.wrap_u64];unfold au at *;omega
 rw [h1,h2,h3]
 unfold au at *
 by_cases h:y+c<=x
 . refine ⟨x-y-c,0,by omega,by omega,by omega,_,rfl, ?_, ?_⟩
   . rw [IntKind.wrap_u32];omega
   . rw [IntKind.wrap_u64];omega
 . refine ⟨x+4294967296-y-c,1,by omega,by omega,by omega,_,rfl, ?_, ?_⟩
   . rw [IntKind.wrap_u32];omega
   . rw [IntKind.wrap_u64];omega
section
variable {P:Program} {G:Nat->Option (List AV)}
set_option maxHeartbeats 1000000 in
theorem QL {f ft:FuncId} (h:Has P f (kJ ft)) (ht:gV P G ft) (m n:Nat) (hm:ah m<=1000000) (hn:ah n<=1000000):VP P G f [W m,W n] (W (m+n)):=by
 refine VP.has h ?_
 simp only [kJ,SS,Nat.reduceAdd,bl]
 by_cases QM:(¬ ah m<ah n)
 . have d0:decide ((ah m:Int)<(ah n:Int))=false:=by first | exact an (by omega) | exact ak (by omega)
   have hL:=nq (ah m) 1 (by omega)
   have hL':IntKind.i64.wrap ((ah m:Int)+1)=((ah m+1:Nat):Int):=hL
   have wY:∀ p:Id,k6 p 1 4 (.int .u32 0) (.int .i64 ((ah m+1:Nat):Int)) (.int .i64 ((ah m+1:Nat):Int))=some { val := .osl p 1 0 (ah m+1) false,up:=[(p,some ⟨us (List.replicate (ah m+1) 0),1,false⟩)] }:=fun p=>mB (by omega)
   simp only [SS,Nat.reduceAdd,bl,d0,hL',wY,aE]
   refine VW.bR (α := Nat × Nat × List Nat × Nat) (fun x=>⟨[W m,W n, .top, .top, .top, .osl [9] 1 0 (ah m+1) false, .int .u64 (x.2.2.2:Int), .int .i64 (x.1:Int)]++List.replicate 50 .top,
     aa.put (fun _=>none) [9] (some ⟨us (x.2.2.1++zs (ah m+1-x.1)),1,false⟩),x.2.1⟩)
     (fun x=>x.1<=ah m/\x.2.2.1.length=x.1/\Wd x.2.2.1/\x.2.2.2<=1/\val x.2.2.1+au ^ x.1*x.2.2.2=val ((digits m).take x.1)+val ((digits n).take x.1)) (fun x=>ah m-x.1) (0,1000,[],0) ?_ ?_ ?_
   . exact Wk.bc (by simp [Fg,List.replicate]) (by simp only [];omega)
   . exact ⟨Nat.zero_le _,rfl,by intro w hw;simp at hw,Nat.zero_le _,by simp [val]⟩
   rintro ⟨i,nn,o,c⟩ ⟨hi,ho,iu,hc,hv⟩
   simp only [] at hi ho iu hc hv
   have qw:i<ah m->decide ((i:Int)<(ah m:Int))=true:=fun h=>an (by omega)
   have tp : ¬ i<ah m->decide ((i:Int)<(ah m:Int))=false:=fun h=>ak (by omega)
   have H8:i<ah n->decide ((i:Int)<(ah n:Int))=true:=fun h=>an (by omega)
   have H9 : ¬ i<ah n->decide ((i:Int)<(ah n:Int))=false:=fun h=>ak (by omega)
   have dv : ¬ i<ah m->i=ah m:=by omega
   have qV:=aq i (by omega)
   have l5:i<ah m->i+1<=ah m/\ah m-(i+1)<ah m-i:=fun h=>by omega
   have iB:=cF (q:=[9]) (t:=false) (show i<ah m+1 by omega)
   obtain ⟨k,hk⟩:∃ k,ah m+1-i=k+1:=⟨ah m-i,by omega⟩
   have AX:ah m+1-(i+1)=k:=by omega
   have mR:i<(o++0::zs k).length:=by simp;omega
   by_cases aN:i<ah m
   . obtain ⟨x,hx⟩:∃ x,(digits m)[i]? = some x:=⟨_,List.getElem?_eq_getElem aN⟩
     have qx:=aQ m x (List.mem_of_getElem? hx)
     have f1:=bq x qx
     have f2:=ox c x (by unfold au at qx;omega)
     by_cases hb:i<ah n
     . obtain ⟨y,hy⟩:∃ y,(digits n)[i]? = some y:=⟨_,List.getElem?_eq_getElem hb⟩
       have Au:=aQ n y (List.mem_of_getElem? hy)
       have f3:=bq y Au
       have f4:=ox (c+x) y (by unfold au at qx Au;omega)
       have pK:=mh (x:=x) (y:=y) ho hv rfl
       have wz:(c+x+y)/au<=1:=by unfold au at *;omega
       simp only [SS,Nat.reduceAdd,bl,qw aN,dm hx,az,bp,f1,f2,H8 hb,dm hy,f3,f4,iB,uL,hk,iP]
       rw [bW (o:=o++0::zs k) (by simp [aa.put]) mR,fB _ _ _ _ ho]
       simp only [SS,Nat.reduceAdd,nI,qV]
       refine ⟨(i+1,_,o++[(c+x+y)%au],(c+x+y)/au),⟨(l5 aN).1,by simp [ho],og iu _,wz, ?_⟩,(l5 aN).2,Wk.forget (by simp [Fg]) (fun j => ?_) (Nat.le_refl _)⟩
       . show val (o++[(c+x+y)%au])+_=val ((digits m).take (i+1))+val ((digits n).take (i+1))
         rw [aF hx,aF hy];exact pK
       . simp only [aa.put,AX];split<;>simp
     . have pK:=mh (x:=x) (y:=0) ho hv rfl
       rw [Nat.mul_zero,Nat.add_zero,Nat.add_zero] at pK
       have wz:(c+x)/au<=1:=by unfold au at *;omega
       simp only [SS,Nat.reduceAdd,bl,qw aN,dm hx,az,bp,f1,f2,H9 hb,iB,uL,hk,iP]
       rw [bW (o:=o++0::zs k) (by simp [aa.put]) mR,fB _ _ _ _ ho]
       simp only [SS,Nat.reduceAdd,nI,qV]
       refine ⟨(i+1,_,o++[(c+x)%au],(c+x)/au),⟨(l5 aN).1,by simp [ho],og iu _,wz, ?_⟩,(l5 aN).2,Wk.forget (by simp [Fg]) (fun j => ?_) (Nat.le_refl _)⟩
       . show val (o++[(c+x)%au])+_=val ((digits m).take (i+1))+val ((digits n).take (i+1))
         rw [aF hx,jd (show (digits n).length<=i from by show ah n<=i;omega)];exact pK
       . simp only [aa.put,AX];split<;>simp
   . have oh:=dv aN
     have Ql:c<au:=by unfold au;omega
     have f5:IntKind.u32.wrap (c:Int)=(c:Int):=by rw [uL,Nat.mod_eq_of_lt Ql]
     have Xx:=cF (q:=[9]) (t:=false) (show ah m<ah m+1 by omega)
     have JP:k=0:=by omega
     have uC:ah m<(o++0::zs k).length:=by simp;omega
     have e1:(digits m).take (ah m)=digits m:=List.take_of_length_le (Nat.le_refl _)
     have e2:(digits n).take (ah m)=digits n:=List.take_of_length_le (by show ah n<=ah m;omega)
     have xC:val (o++[c])=m+n:=by
       rw [cz,ho];simp only [val,Nat.mul_zero,Nat.add_zero]
       rw [hv,oh,e1,e2,aJ,aJ]
       all_goals omega
     have TY:Wd (o++[c]):=cA iu (by intro z hz;simp at hz;subst hz;exact Ql)
     have uQ:ah m+1=(o++[c]).length:=by simp [ho,oh]
     have xn:=ht (o++[c]) TY (by rw [<- uQ];omega)
     rw [xC] at xn
     simp only [SS,Nat.reduceAdd,bl,tp aN,f5,Xx,hk,iP]
     rw [bW (o:=o++0::zs k) (by simp [aa.put]) uC,fB _ _ _ _ (ho.trans oh),JP,ue]
     simp only [SS,Nat.reduceAdd]
     refine cQ [([9],⟨us (o++[c]),1,false⟩)] xn (aY.cons (gK uQ) aY.nil) (by simp [aa.put]) ?_
     simp only [SS,Nat.reduceAdd]
     exact ag▸ab rfl (aK _)
 by_cases Ud:(ah m<ah n)
 . have d0:decide ((ah m:Int)<(ah n:Int))=true:=by first | exact an (by omega) | exact ak (by omega)
   have hL:=nq (ah n) 1 (by omega)
   have hL':IntKind.i64.wrap ((ah n:Int)+1)=((ah n+1:Nat):Int):=hL
   have wY:∀ p:Id,k6 p 1 4 (.int .u32 0) (.int .i64 ((ah n+1:Nat):Int)) (.int .i64 ((ah n+1:Nat):Int))=some { val := .osl p 1 0 (ah n+1) false,up:=[(p,some ⟨us (List.replicate (ah n+1) 0),1,false⟩)] }:=fun p=>mB (by omega)
   simp only [SS,Nat.reduceAdd,bl,d0,hL',wY,aE]
   refine VW.bR (α := Nat × Nat × List Nat × Nat) (fun x=>⟨[W n,W m, .top, .top, .top, .osl [13] 1 0 (ah n+1) false, .int .u64 (x.2.2.2:Int), .int .i64 (x.1:Int)]++List.replicate 50 .top,
     aa.put (fun _=>none) [13] (some ⟨us (x.2.2.1++zs (ah n+1-x.1)),1,false⟩),x.2.1⟩)
     (fun x=>x.1<=ah n/\x.2.2.1.length=x.1/\Wd x.2.2.1/\x.2.2.2<=1/\val x.2.2.1+au ^ x.1*x.2.2.2=val ((digits n).take x.1)+val ((digits m).take x.1)) (fun x=>ah n-x.1) (0,1000,[],0) ?_ ?_ ?_
   . exact Wk.bc (by simp [Fg,List.replicate]) (by simp only [];omega)
   . exact ⟨Nat.zero_le _,rfl,by intro w hw;simp at hw,Nat.zero_le _,by simp [val]⟩
   rintro ⟨i,nn,o,c⟩ ⟨hi,ho,iu,hc,hv⟩
   simp only [] at hi ho iu hc hv
   have qw:i<ah n->decide ((i:Int)<(ah n:Int))=true:=fun h=>an (by omega)
   have tp : ¬ i<ah n->decide ((i:Int)<(ah n:Int))=false:=fun h=>ak (by omega)
   have H8:i<ah m->decide ((i:Int)<(ah m:Int))=true:=fun h=>an (by omega)
   have H9 : ¬ i<ah m->decide ((i:Int)<(ah m:Int))=false:=fun h=>ak (by omega)
   have dv : ¬ i<ah n->i=ah n:=by omega
   have qV:=aq i (by omega)
   have l5:i<ah n->i+1<=ah n/\ah n-(i+1)<ah n-i:=fun h=>by omega
   have iB:=cF (q:=[13]) (t:=false) (show i<ah n+1 by omega)
   obtain ⟨k,hk⟩:∃ k,ah n+1-i=k+1:=⟨ah n-i,by omega⟩
   have AX:ah n+1-(i+1)=k:=by omega
   have mR:i<(o++0::zs k).length:=by simp;omega
   by_cases aN:i<ah n
   . obtain ⟨x,hx⟩:∃ x,(digits n)[i]? = some x:=⟨_,List.getElem?_eq_getElem aN⟩
     have qx:=aQ n x (List.mem_of_getElem? hx)
     have f1:=bq x qx
     have f2:=ox c x (by unfold au at qx;omega)
     by_cases hb:i<ah m
     . obtain ⟨y,hy⟩:∃ y,(digits m)[i]? = some y:=⟨_,List.getElem?_eq_getElem hb⟩
       have Au:=aQ m y (List.mem_of_getElem? hy)
       have f3:=bq y Au
       have f4:=ox (c+x) y (by unfold au at qx Au;omega)
       have pK:=mh (x:=x) (y:=y) ho hv rfl
       have wz:(c+x+y)/au<=1:=by unfold au at *;omega
       simp only [SS,Nat.reduceAdd,bl,qw aN,dm hx,az,bp,f1,f2,H8 hb,dm hy,f3,f4,iB,uL,hk,iP]
       rw [bW (o:=o++0::zs k) (by simp [aa.put]) mR,fB _ _ _ _ ho]
       simp only [SS,Nat.reduceAdd,nI,qV]
       refine ⟨(i+1,_,o++[(c+x+y)%au],(c+x+y)/au),⟨(l5 aN).1,by simp [ho],og iu _,wz, ?_⟩,(l5 aN).2,Wk.forget (by simp [Fg]) (fun j => ?_) (Nat.le_refl _)⟩
       . show val (o++[(c+x+y)%au])+_=val ((digits n).take (i+1))+val ((digits m).take (i+1))
         rw [aF hx,aF hy];exact pK
       . simp only [aa.put,AX];split<;>simp
     . have pK:=mh (x:=x) (y:=0) ho hv rfl
       rw [Nat.mul_zero,Nat.add_zero,Nat.add_zero] at pK
       have wz:(c+x)/au<=1:=by unfold au at *;omega
       simp only [SS,Nat.reduceAdd,bl,qw aN,dm hx,az,bp,f1,f2,H9 hb,iB,uL,hk,iP]
       rw [bW (o:=o++0::zs k) (by simp [aa.put]) mR,fB _ _ _ _ ho]
       simp only [SS,Nat.reduceAdd,nI,qV]
       refine ⟨(i+1,_,o++[(c+x)%au],(c+x)/au),⟨(l5 aN).1,by simp [ho],og iu _,wz, ?_⟩,(l5 aN).2,Wk.forget (by simp [Fg]) (fun j => ?_) (Nat.le_refl _)⟩
       . show val (o++[(c+x)%au])+_=val ((digits n).take (i+1))+val ((digits m).take (i+1))
         rw [aF hx,jd (show (digits m).length<=i from by show ah m<=i;omega)];exact pK
       . simp only [aa.put,AX];split<;>simp
   . have oh:=dv aN
     have Ql:c<au:=by unfold au;omega
     have f5:IntKind.u32.wrap (c:Int)=(c:Int):=by rw [uL,Nat.mod_eq_of_lt Ql]
     have Xx:=cF (q:=[13]) (t:=false) (show ah n<ah n+1 by omega)
     have JP:k=0:=by omega
     have uC:ah n<(o++0::zs k).length:=by simp;omega
     have e1:(digits n).take (ah n)=digits n:=List.take_of_length_le (Nat.le_refl _)
     have e2:(digits m).take (ah n)=digits m:=List.take_of_length_le (by show ah m<=ah n;omega)
     have xC:val (o++[c])=m+n:=by
       rw [cz,ho];simp only [val,Nat.mul_zero,Nat.add_zero]
       rw [hv,oh,e1,e2,aJ,aJ]
       all_goals omega
     have TY:Wd (o++[c]):=cA iu (by intro z hz;simp at hz;subst hz;exact Ql)
     have uQ:ah n+1=(o++[c]).length:=by simp [ho,oh]
     have xn:=ht (o++[c]) TY (by rw [<- uQ];omega)
     rw [xC] at xn
     simp only [SS,Nat.reduceAdd,bl,tp aN,f5,Xx,hk,iP]
     rw [bW (o:=o++0::zs k) (by simp [aa.put]) uC,fB _ _ _ _ (ho.trans oh),JP,ue]
     simp only [SS,Nat.reduceAdd]
     refine cQ [([13],⟨us (o++[c]),1,false⟩)] xn (aY.cons (gK uQ) aY.nil) (by simp [aa.put]) ?_
     simp only [SS,Nat.reduceAdd]
     exact ag▸ab rfl (aK _)
 exact absurd Ud QM
set_option maxHeartbeats 1000000 in
theorem E8 {f ft:FuncId} (h:Has P f (dV ft)) (ht:gV P G ft) (m n:Nat) (x8:n<=m) (hm:ah m<=1000000):VP P G f [W m,W n] (W (m-n)):=by
 refine VP.has h ?_
 have hwn:=cV x8
 have wY:∀ p:Id,k6 p 1 4 (.int .u32 0) (.int .i64 (ah m:Int)) (.int .i64 (ah m:Int))=some { val := .osl p 1 0 (ah m) false,up:=[(p,some ⟨us (List.replicate (ah m) 0),1,false⟩)] }:=fun p=>mB (by omega)
 simp only [dV,SS,Nat.reduceAdd,bl,wY,aE]
 refine VW.bR (α := Nat × Nat × List Nat × Nat) (fun x=>⟨[W m,W n, .top, .top, .top, .osl [3] 1 0 (ah m) false, .int .u64 (x.2.2.2:Int), .int .i64 (x.1:Int)]++List.replicate 40 .top,
   aa.put (fun _=>none) [3] (some ⟨us (x.2.2.1++zs (ah m-x.1)),1,false⟩),x.2.1⟩)
   (fun x=>x.1<=ah m/\x.2.2.1.length=x.1/\Wd x.2.2.1/\x.2.2.2<=1/\val x.2.2.1+val ((digits n).take x.1)=val ((digits m).take x.1)+au ^ x.1*x.2.2.2) (fun x=>ah m-x.1) (0,1000,[],0) ?_ ?_ ?_
 . exact Wk.bc (by simp [Fg,List.replicate]) (by simp only [];omega)
 . exact ⟨Nat.zero_le _,rfl,by intro w hw;simp at hw,Nat.zero_le _,by simp [val]⟩
 rintro ⟨i,nn,o,c⟩ ⟨hi,ho,iu,hc,hv⟩
 simp only [] at hi ho iu hc hv
 have qw:i<ah m->decide ((i:Int)<(ah m:Int))=true:=fun h=>an (by omega)
 have tp : ¬ i<ah m->decide ((i:Int)<(ah m:Int))=false:=fun h=>ak (by omega)
 have H8:i<ah n->decide ((i:Int)<(ah n:Int))=true:=fun h=>an (by omega)
 have H9 : ¬ i<ah n->decide ((i:Int)<(ah n:Int))=false:=fun h=>ak (by omega)
 have dv : ¬ i<ah m->i=ah m:=by omega
 have qV:=aq i (by omega)
 have l5:i<ah m->i+1<=ah m/\ah m-(i+1)<ah m-i:=fun h=>by omega
 by_cases aN:i<ah m
 . obtain ⟨x,hx⟩:∃ x,(digits m)[i]? = some x:=⟨_,List.getElem?_eq_getElem aN⟩
   have qx:=aQ m x (List.mem_of_getElem? hx)
   have f1:=bq x qx
   have iB:=cF (q:=[3]) (t:=false) aN
   obtain ⟨k,hk⟩:∃ k,ah m-i=k+1:=⟨ah m-i-1,by omega⟩
   have AX:ah m-(i+1)=k:=by omega
   have mR:i<(o++0::zs k).length:=by simp;omega
   by_cases hb:i<ah n
   . obtain ⟨y,hy⟩:∃ y,(digits n)[i]? = some y:=⟨_,List.getElem?_eq_getElem hb⟩
     have Au:=aQ n y (List.mem_of_getElem? hy)
     have f3:=bq y Au
     obtain ⟨w,c',h1,h2,h3,d,h4,h5,h6⟩:=wI qx Au hc
     have pK:=mK (va:=val ((digits m).take i)) (vb:=val ((digits n).take i)) (x:=x) (y:=y) (c:=c) (w:=w) (c':=c') ho (by rw [hv];omega) h3
     simp only [SS,Nat.reduceAdd,bl,qw aN,dm hx,az,bp,f1,H8 hb,dm hy,f3,h4,h5,iB,hk,iP]
     rw [bW (o:=o++0::zs k) (by simp [aa.put]) mR,fB _ _ _ _ ho]
     simp only [SS,Nat.reduceAdd,nI,h6,qV]
     refine ⟨(i+1,_,o++[w],c'),⟨(l5 aN).1,by simp [ho],cA iu (by intro z hz;simp at hz;subst hz;exact h1),h2, ?_⟩,(l5 aN).2,Wk.forget (by simp [Fg]) (fun j => ?_) (Nat.le_refl _)⟩
     . show val (o++[w])+val ((digits n).take (i+1))=val ((digits m).take (i+1))+_
       rw [aF hx,aF hy];exact pK
     . simp only [aa.put,AX];split<;>simp
   . obtain ⟨w,c',h1,h2,h3,d,h4,h5,h6⟩:=wI (y:=0) qx cZ hc
     have h4':IntKind.u64.wrap (IntKind.u64.wrap (IntKind.u64.wrap ((x:Int)+4294967296)-0)-(c:Int))=(d:Int):=h4
     have pK:=mK (va:=val ((digits m).take i)) (vb:=val ((digits n).take i)) (x:=x) (y:=0) (c:=c) (w:=w) (c':=c') ho (by rw [hv];omega) h3
     rw [Nat.mul_zero,Nat.add_zero] at pK
     simp only [SS,Nat.reduceAdd,bl,qw aN,dm hx,az,bp,f1,H9 hb,h4',h5,iB,hk,iP]
     rw [bW (o:=o++0::zs k) (by simp [aa.put]) mR,fB _ _ _ _ ho]
     simp only [SS,Nat.reduceAdd,nI,h6,qV]
     refine ⟨(i+1,_,o++[w],c'),⟨(l5 aN).1,by simp [ho],cA iu (by intro z hz;simp at hz;subst hz;exact h1),h2, ?_⟩,(l5 aN).2,Wk.forget (by simp [Fg]) (fun j => ?_) (Nat.le_refl _)⟩
     . show val (o++[w])+val ((digits n).take (i+1))=val ((digits m).take (i+1))+_
       rw [aF hx,jd (show (digits n).length<=i from by show ah n<=i;omega)];exact pK
     . simp only [aa.put,AX];split<;>simp
 . have oh:=dv aN
   have e1:(digits m).take (ah m)=digits m:=List.take_of_length_le (Nat.le_refl _)
   have e2:(digits n).take (ah m)=digits n:=List.take_of_length_le (by show ah n<=ah m;omega)
   have xC:val o=m-n:=by
     rw [oh,e1,e2,aJ,aJ] at hv
     have rk:=lD iu
     rw [ho,oh] at rk
     rcases Nat.eq_zero_or_pos c with h0 | h0
     . subst h0;omega
     . have:c=1:=by omega
       subst this;have:=cT m;omega
   have uQ:ah m=o.length:=by omega
   have e3:zs (ah m-i)=[]:=by rw [oh,Nat.sub_self];rfl
   have xn:=ht o iu (by omega)
   rw [xC] at xn
   simp only [SS,Nat.reduceAdd,bl,tp aN,e3]
   refine cQ [([3],⟨us o,1,false⟩)] xn (aY.cons (gK uQ) aY.nil) (by simp [aa.put]) ?_
   simp only [SS,Nat.reduceAdd]
   exact ag▸ab rfl (aK _)
end
end Go.VL
end

section
set_option linter.unusedVariables false
namespace Go.VL
section
variable {P:Program} {G:Nat->Option (List AV)}
set_option maxHeartbeats 1000000 in
theorem Df {f ft:FuncId} (h:Has P f (gI ft)) (ht:gV P G ft) (m:Nat) {ws:List Nat} (hws:Wd ws) (hm:ah m<=1000000) (hn:ws.length<=1000000):VP P G f [W m, .sl 1 (us ws)] (W (m*val ws)):=by
 refine VP.has h ?_
 have wY:∀ p:Id,k6 p 1 4 (.int .u32 0) (.int .i64 ((ah m+ws.length:Nat):Int)) (.int .i64 ((ah m+ws.length:Nat):Int))=some { val := .osl p 1 0 (ah m+ws.length) false,up:=[(p,some ⟨us (List.replicate (ah m+ws.length) 0),1,false⟩)] }:=fun p=>mB (by omega)
 have hL:=nq (ah m) (ws.length) (by omega)
 simp only [gI,SS,Nat.reduceAdd,bl,dG,hL,wY,aE]
 refine VW.bR (α := Nat × Nat × List Nat) (fun x=>⟨[W m, .sl 1 (us ws), .top, .top, .top, .osl [6] 1 0 (ah m+ws.length) false, .int .i64 (x.1:Int)]++List.replicate 60 .top,
   aa.put (fun _=>none) [6] (some ⟨us x.2.2,1,false⟩),x.2.1⟩)
   (fun x=>x.1<=ah m/\x.2.2.length=ah m+ws.length/\Wd x.2.2/\val x.2.2=val ((digits m).take x.1)*val ws) (fun x=>ah m-x.1) (0,1000,List.replicate (ah m+ws.length) 0) ?_ ?_ ?_
 . exact Wk.bc (by simp [Fg,List.replicate]) (by simp only [];omega)
 . exact ⟨Nat.zero_le _,List.length_replicate ..,C3 _,by simp only [];rw [Aq (fun w hw=>List.eq_of_mem_replicate hw)];simp [val]⟩
 rintro ⟨i,nn,o⟩ ⟨hi,ho,iu,hv⟩
 simp only [] at hi ho iu hv
 have qw:i<ah m->decide ((i:Int)<(ah m:Int))=true:=fun h=>an (by omega)
 have tp : ¬ i<ah m->decide ((i:Int)<(ah m:Int))=false:=fun h=>ak (by omega)
 have dv : ¬ i<ah m->i=ah m:=by omega
 have qV:=aq i (by omega)
 have l5:i<ah m->i+1<=ah m/\ah m-(i+1)<ah m-i:=fun h=>by omega
 have vp:=nq i (ws.length) (by omega)
 have Kc:i<ah m->i+ws.length<ah m+ws.length:=fun h=>by omega
 by_cases aN:i<ah m
 . obtain ⟨a,ha⟩:∃ a,(digits m)[i]? = some a:=⟨_,List.getElem?_eq_getElem aN⟩
   have ud:=aQ m a (List.mem_of_getElem? ha)
   have f1:=bq a ud
   have S3:o[i+ws.length]? = some 0:=by
     obtain ⟨y,hy⟩:∃ y,o[i+ws.length]? = some y:=⟨_,List.getElem?_eq_getElem (by rw [ho];exact Kc aN)⟩
     have e:=C4 (k:=i+ws.length) (by
       rw [hv,Nat.pow_add]
       have h2:val ((digits m).take i)<au ^ i:=by
         have:=lD (qT (aQ m) i)
         rwa [List.length_take,Nat.min_eq_left (show i<=(digits m).length from Nat.le_of_lt aN)] at this
       exact Nat.mul_lt_mul'' h2 (lD hws)) hy
     rw [e] at hy;exact hy
   simp only [SS,Nat.reduceAdd,bl,qw aN,aE]
   refine VW.bR (α := Nat × Nat × List Nat × Nat) (fun x=>⟨[W m, .sl 1 (us ws), .top, .top, .top, .osl [6] 1 0 (ah m+ws.length) false, .int .i64 (i:Int), .int .u64 (x.2.2.2:Int), .int .i64 (x.1:Int)]++List.replicate 58 .top,
     aa.put (fun _=>none) [6] (some ⟨us x.2.2.1,1,false⟩),x.2.1⟩)
     (fun x=>x.1<=ws.length/\x.2.2.1.length=ah m+ws.length/\Wd x.2.2.1/\x.2.2.2<au/\x.2.2.1[i+ws.length]? = some 0/\val x.2.2.1+au ^ (i+x.1)*x.2.2.2=val o+au ^ i*(a*val (ws.take x.1))) (fun x=>ws.length-x.1) (0,nn+1000,o,0) ?_ ?_ ?_
   . exact Wk.bc (by simp [Fg,List.replicate]) (by simp only [];omega)
   . exact ⟨Nat.zero_le _,ho,iu,cZ,S3,by simp [val]⟩
   rintro ⟨j,mm,o',c⟩ ⟨hj,H7,F7,hc,hz,nA⟩
   simp only [] at hj H7 F7 hc hz nA
   have H8:j<ws.length->decide ((j:Int)<(ws.length:Int))=true:=fun h=>an (by omega)
   have H9 : ¬ j<ws.length->decide ((j:Int)<(ws.length:Int))=false:=fun h=>ak (by omega)
   have xc : ¬ j<ws.length->j=ws.length:=by omega
   have Ml:=aq j (by omega)
   have zK:j<ws.length->j+1<=ws.length/\ws.length-(j+1)<ws.length-j:=fun h=>by omega
   have J1:=nq i j (by omega)
   have Kd:j<ws.length->i+j<ah m+ws.length:=fun h=>by omega
   have bY:j<ws.length->i+j≠i+ws.length:=fun h=>by omega
   by_cases zL:j<ws.length
   . obtain ⟨b,hb⟩:∃ b,ws[j]? = some b:=⟨_,List.getElem?_eq_getElem zL⟩
     have x9:=hws b (List.mem_of_getElem? hb)
     have f2:=bq b x9
     obtain ⟨z,WV⟩:∃ z,o'[i+j]? = some z:=⟨_,List.getElem?_eq_getElem (by rw [H7];exact Kd zL)⟩
     have TX:=F7 z (List.mem_of_getElem? WV)
     have f3:=bq z TX
     have f4:=Mk a b ud x9
     have hle:=Kb ud x9
     have f5:=ox c z (by unfold au at TX hc;omega)
     have f6:=ox (c+z) (a*b) (by unfold au at TX hc;omega)
     have wz:(c+z+a*b)/au<au:=by unfold au at TX hc ⊢;omega
     have iB:=cF (q:=[6]) (t:=false) (Kd zL)
     have pK:=EV (x:=a) (y:=b) (s:=c+z+a*b) WV nA (by omega)
     simp only [SS,DD,Nat.reduceAdd,dG,H8 zL,J1,iB]
     rw [iO (o:=o') (b:=false) (by simp [aa.put]) WV]
     simp only [SS,DD,Nat.reduceAdd,f3,f5,dm ha,aS rfl (rV hb),az,bp,f1,f2,f4,f6]
     refine ⟨by simp [ar], ?_⟩
     simp only [SS,Nat.reduceAdd,uL,J1,iB]
     rw [bW (o:=o') (by simp [aa.put]) (by rw [H7];exact Kd zL)]
     simp only [SS,Nat.reduceAdd,nI,Ml]
     refine ⟨(j+1,_,o'.set (i+j) ((c+z+a*b)%au),(c+z+a*b)/au),⟨(zK zL).1,by simp [H7],F6 F7 (Nat.mod_lt _ cZ),wz, ?_, ?_⟩,(zK zL).2,Wk.forget (by simp [Fg]) (fun j => ?_) (Nat.le_refl _)⟩
     . rw [List.getElem?_set_ne (bY zL)];exact hz
     . show _=val o+au ^ i*(a*val (ws.take (j+1)))
       rw [aF hb];exact pK
     . simp only [aa.put];split<;>simp
   . have ZD:=xc zL
     have iB:=cF (q:=[6]) (t:=false) (Kc aN)
     have f7:IntKind.u32.wrap (c:Int)=(c:Int):=by rw [uL,Nat.mod_eq_of_lt hc]
     have kX:val (o'.set (i+ws.length) c)=val ((digits m).take (i+1))*val ws:=by
       have e:=B4 (x:=c) hz
       have e2:ws.take ws.length=ws:=List.take_of_length_le (Nat.le_refl _)
       rw [ZD,e2,hv] at nA
       rw [aF ha,Nat.add_mul]
       have e3:au ^ i*a*val ws=au ^ i*(a*val ws):=Nat.mul_assoc _ _ _
       omega
     simp only [SS,Nat.reduceAdd,dG,H9 zL,vp,f7,iB]
     rw [bW (o:=o') (by simp [aa.put]) (by rw [H7];exact Kc aN)]
     simp only [SS,Nat.reduceAdd,qV]
     refine ⟨(i+1,_,o'.set (i+ws.length) c),⟨(l5 aN).1,by simp [H7],F6 F7 hc,kX⟩,(l5 aN).2,Wk.forget (by simp [Fg]) (fun j => ?_) (Nat.le_refl _)⟩
     simp only [aa.put];split<;>simp
 . have oh:=dv aN
   have e1:(digits m).take (ah m)=digits m:=List.take_of_length_le (Nat.le_refl _)
   have xC:val o=m*val ws:=by rw [hv,oh,e1,aJ]
   have xn:=ht o iu (by rw [ho];omega)
   rw [xC] at xn
   simp only [SS,Nat.reduceAdd,bl,tp aN]
   refine cQ [([6],⟨us o,1,false⟩)] xn (aY.cons (gK ho.symm) aY.nil) (by simp [aa.put]) ?_
   simp only [SS,Nat.reduceAdd]
   exact ag▸ab rfl (aK _)
theorem NL {f ft:FuncId} (h:Has P f (gI ft)) (ht:gV P G ft) (m n:Nat) (hm:ah m<=1000000) (hn:ah n<=1000000):VP P G f [W m,W n] (W (m*n)):=by
 have:=Df (G:=G) h ht m (aQ n) hm hn
 rw [aJ] at this;exact this
theorem Xy {f ft:FuncId} (h:Has P f (lZ ft)) (ht:gV P G ft) (m w:Nat) (hm:ah m<=1000000) (hw:w<au) (J2:w≠0) :
   VP P G f [W m, .int .u32 (w:Int)] (.tup [W (m/w), .int .u32 ((m%w:Nat):Int)]):=by
 refine VP.has h ?_
 have wY:∀ p:Id,k6 p 1 4 (.int .u32 0) (.int .i64 (ah m:Int)) (.int .i64 (ah m:Int))=some { val := .osl p 1 0 (ah m) false,up:=[(p,some ⟨us (List.replicate (ah m) 0),1,false⟩)] }:=fun p=>mB (by omega)
 have WY:IntKind.i64.wrap ((ah m:Int)-1)=(ah m:Int)-1:=by rw [IntKind.wrap_i64];omega
 have f0:=bq w hw
 have hwz:((w:Nat):Int)≠0:=by omega
 simp only [lZ,SS,Nat.reduceAdd,bl,wY,WY,aE]
 refine VW.bR (α := Nat × Nat × List Nat × Nat) (fun x=>⟨[W m, .int .u32 (w:Int), .top, .top, .top, .top, .osl [4] 1 0 (ah m) false, .int .u64 (x.2.2.2:Int), .int .i64 ((x.1:Int)-1)]++List.replicate 34 .top,
   aa.put (fun _=>none) [4] (some ⟨us (zs x.1++x.2.2.1),1,false⟩),x.2.1⟩)
   (fun x=>x.1+x.2.2.1.length=ah m/\Wd x.2.2.1/\x.2.2.2<w/\val ((digits m).drop x.1)=val x.2.2.1*w+x.2.2.2) (fun x=>x.1) (ah m,1000,[],0) ?_ ?_ ?_
 . rw [List.append_nil];exact Wk.bc (by simp [Fg,List.replicate]) (by simp only [];omega)
 . refine ⟨by simp,by intro w hw;simp at hw,Nat.pos_of_ne_zero J2, ?_⟩
   show val ((digits m).drop (ah m))=_
   rw [List.drop_eq_nil_of_le (show (digits m).length<=ah m from Nat.le_refl _)];simp [val]
 rintro ⟨k,nn,q,r⟩ ⟨hk,iu,hr,hv⟩
 simp only [] at hk iu hr hv
 by_cases h0:k=0
 . subst h0
   have d0:decide ((0:Int)<=((0:Nat):Int)-1)=false:=by decide
   have e:m/w=val q/\m%w=r:=by
     rw [List.drop_zero,aJ] at hv
     refine (Nat.div_mod_unique (Nat.pos_of_ne_zero J2)).2 ⟨?_,hr⟩
     rw [hv,Nat.mul_comm w];omega
   have xn:=ht q iu (by omega)
   rw [<- e.1] at xn
   have f9:IntKind.u32.wrap (r:Int)=(r:Int):=by rw [uL,Nat.mod_eq_of_lt (by omega)]
   have hq:ah m=q.length:=by omega
   simp only [SS,Nat.reduceAdd,d0,ue]
   refine cQ [([4],⟨us q,1,false⟩)] xn (aY.cons (gK hq) aY.nil) (by simp [aa.put]) ?_
   simp only [SS,Nat.reduceAdd,f9]
   rw [e.2]
   exact ag▸ab rfl (af.tup (by intro c hc;simp at hc;rcases hc with rfl | rfl;exact aK _;exact af.int _ _))
 . obtain ⟨j,rfl⟩:∃ j,k=j+1:=⟨k-1,by omega⟩
   have d0:decide ((0:Int)<=(j:Int))=true:=an (by omega)
   have hj:((j+1:Nat):Int)-1=(j:Int):=by omega
   have nH:j<ah m:=by omega
   have Ml:IntKind.i64.wrap ((j:Int)-1)=(j:Int)-1:=by rw [IntKind.wrap_i64];omega
   obtain ⟨a,ha⟩:∃ a,(digits m)[j]? = some a:=⟨_,List.getElem?_eq_getElem nH⟩
   have ud:=aQ m a (List.mem_of_getElem? ha)
   have f1:=bq a ud
   have DN:r<au:=by omega
   have f2:=vX r DN
   have f3:=C6 r a DN ud
   have aN:au*r+a<18446744073709551616:=by unfold au at *;omega
   have f4:=C7 (au*r+a) w aN J2
   have f5:=C8 (au*r+a) w J2
   have Ia:(au*r+a)/w<au:=by
     rw [Nat.div_lt_iff_lt_mul (Nat.pos_of_ne_zero J2)]
     have:au*(r+1)<=au*w:=Nat.mul_le_mul_left _ hr
     rw [Nat.mul_add] at this
     omega
   have f6:IntKind.u32.wrap (((au*r+a)/w:Nat):Int)=(((au*r+a)/w:Nat):Int):=by rw [uL,Nat.mod_eq_of_lt Ia]
   have iB:=cF (q:=[4]) (t:=false) nH
   have SY:j<(zs (j+1)++q).length:=by simp [zs];omega
   have nA:val ((digits m).drop j)=val ((au*r+a)/w::q)*w+(au*r+a)%w:=by
     rw [List.drop_eq_getElem_cons (show j<(digits m).length from nH)]
     obtain ⟨_,h2⟩:=List.getElem?_eq_some_iff.1 ha
     rw [h2]
     simp only [val]
     rw [hv,Nat.add_mul,Nat.mul_add,Nat.mul_assoc au]
     have:=Nat.div_add_mod (au*r+a) w
     rw [Nat.mul_comm] at this
     omega
   have H5:j+((au*r+a)/w::q).length=ah m:=by simp;omega
   simp only [SS,Nat.reduceAdd,d0,hj,dm ha,az,bp,f0,f1,f2,f3,f4,f6,iB]
   rw [bW (o:=zs (j+1)++q) (by simp [aa.put]) SY,vY]
   simp only [SS,Nat.reduceAdd,f0,f5,Ml]
   refine ⟨(j,_,(au*r+a)/w::q,(au*r+a)%w),⟨H5, ?_,Nat.mod_lt _ (Nat.pos_of_ne_zero J2),nA⟩,Nat.lt_succ_self j,Wk.forget (by simp [Fg]) (fun j => ?_) (Nat.le_refl _)⟩
   . intro z hz
     rcases List.mem_cons.1 hz with rfl | hz
     . exact Ia
     . exact iu z hz
   . simp only [aa.put];split<;>simp
end
end Go.VL
end

section
set_option linter.unusedVariables false
namespace Go.VL
theorem Iw {x c:Nat} (hx:x<au) (h0:0<x) (h1:x<2 ^ c) (h2:2 ^ c<=2*x):c=iQ x:=by
 obtain ⟨a,b⟩:=zh hx h0
 have e1:2 ^ c<2 ^ (iQ x+1):=by rw [Nat.pow_succ];omega
 have e2:2 ^ iQ x<2 ^ (c+1):=by rw [Nat.pow_succ];omega
 have:=(Nat.pow_lt_pow_iff_right (by decide:1<2)).1 e1
 have:=(Nat.pow_lt_pow_iff_right (by decide:1<2)).1 e2
 omega
theorem adt (a:Nat) (ha:a<au):br .quo .int (.int .u32 (a:Int)) (.int .u32 2)=some (.int .u32 ((a/2:Nat):Int)):=by
 rw [L3 (by decide)]
 show some (AV.int .u32 (IntKind.u32.wrap ((a/2:Nat):Int)))=_
 rw [uL,Nat.mod_eq_of_lt (by unfold au at *;omega)]
theorem NM {x y s:Nat} (hs:s<=32) (hx:x<au):((au*y+x)/2 ^ s)%au=x/2 ^ s+2 ^ (32-s)*(y%2 ^ s):=by
 have hB:=sL hs
 have hd:x/2 ^ s<2 ^ (32-s):=by rw [Nat.div_lt_iff_lt_mul (Nat.two_pow_pos _),hB];exact hx
 have e1:(au*y+x)/2 ^ s=2 ^ (32-s)*y+x/2 ^ s:=by
   rw [<- hB,Nat.mul_comm (2 ^ (32-s)),Nat.mul_assoc,Nat.mul_add_div (Nat.two_pow_pos _)]
 have aN:y%2 ^ s<2 ^ s:=Nat.mod_lt _ (Nat.two_pow_pos _)
 have h1:2 ^ (32-s)*(y%2 ^ s+1)<=2 ^ (32-s)*2 ^ s:=Nat.mul_le_mul_left _ aN
 rw [Nat.mul_add,hB] at h1
 have e2:2 ^ (32-s)*y=au*(y/2 ^ s)+2 ^ (32-s)*(y%2 ^ s):=by
   have:=Nat.div_add_mod y (2 ^ s)
   conv=>lhs;rw [<- this]
   rw [Nat.mul_add, <- Nat.mul_assoc,hB]
 rw [e1,e2,show au*(y/2 ^ s)+2 ^ (32-s)*(y%2 ^ s)+x/2 ^ s=(x/2 ^ s+2 ^ (32-s)*(y%2 ^ s))+au*(y/2 ^ s) from by omega,Nat.add_mul_mod_self_left,Nat.mod_eq_of_lt (by omega)]
theorem Z2 (x y:Nat) (hx:x<au) (hy:y<au):br .or .int (.int .u64 (x:Int)) (.int .u64 ((au*y:Nat):Int))=some (.int .u64 ((au*y+x:Nat):Int)):=by
 rw [WW _ _ (by unfold au at *;omega) (by unfold au at *;omega),Nat.or_comm]
 have:=Nat.two_pow_add_eq_or_of_lt (i:=32) (b:=x) (by unfold au at hx;omega) y
 rw [show au=2 ^ 32 from rfl,this]
theorem QN (x s:Nat) (hs:s<=64):br .shr .int (.int .u64 (x:Int)) (.int .i64 (s:Int))=some (.int .u64 ((x/2 ^ s:Nat):Int)):=by
 rw [qR (by omega)]
 have h2:min (s:Int).toNat IntKind.u64.bits=s:=by
   show min (s:Int).toNat 64=s
   rw [Int.toNat_natCast];omega
 have h3:(x:Int).fdiv (2 ^ s)=((x/2 ^ s:Nat):Int):=by
   have h4:(2:Int) ^ s=((2 ^ s:Nat):Int):=by rw [Int.natCast_pow];rfl
   rw [h4,Int.fdiv_eq_ediv_of_nonneg _ (Int.natCast_nonneg _)]
   exact (Int.natCast_ediv _ _).symm
 rw [h2,h3]
section
variable {P:Program} {G:Nat->Option (List AV)}
theorem Kn {f:FuncId} (h:Has P f gl) {n x k:Nat} (hk:ah n=k+1) (hx:(digits n)[k]? = some x) (H5:k<=1000000):VP P G f [W n] (.int .i64 ((32*k+iQ x:Nat):Int)):=by
 refine VP.has h ?_
 have Xm:=aQ n x (List.mem_of_getElem? hx)
 obtain ⟨Ny,_,_,_,_⟩:=zj hk hx
 have d0:decide (((k+1:Nat):Int)=0)=false:=ak (by omega)
 have p1:IntKind.i64.wrap (((k+1:Nat):Int)-1)=(k:Int):=by rw [IntKind.wrap_i64];omega
 simp only [gl,SS,Nat.reduceAdd,bl,hk,d0,p1,dm hx,az,bp,aE]
 refine VW.bR (α := Nat × Nat × Nat) (fun y=>⟨[W n, .top, .top, .int .i64 (y.1:Int), .int .u32 (y.2.1:Int)]++List.replicate 21 .top,fun _=>none,y.2.2⟩)
   (fun y=>y.2.1=x/2 ^ y.1/\y.1<=32/\2 ^ y.1<=2*x) (fun y=>y.2.1) (0,x,1000) ?_ ?_ ?_
 . exact Wk.bc (by simp [Fg,List.replicate]) (by simp only [];omega)
 . refine ⟨by simp,by simp,by simp;omega⟩
 rintro ⟨c,y,nn⟩ ⟨hy,hc,h2⟩
 simp only [] at hy hc h2
 have Xu:y<au:=by rw [hy];exact Nat.lt_of_le_of_lt (Nat.div_le_self _ _) Xm
 by_cases h0:y=0
 . have d1:decide ((0:Int)<(y:Int))=false:=ak (by omega)
   have h1:x<2 ^ c:=by
     rw [h0] at hy
     exact Nat.lt_of_div_eq_zero (Nat.two_pow_pos c) hy.symm
   have e:=Iw Xm Ny h1 h2
   have m1:IntKind.i64.wrap (32*(k:Int))=((32*k:Nat):Int):=by rw [IntKind.wrap_i64];omega
   have a1:=nq (32*k) c (by omega)
   rw [<- e]
   simp only [SS,Nat.reduceAdd,d1,bl,hk,p1,m1,a1]
   exact ag▸ab rfl (af.int _ _)
 . have d1:decide ((0:Int)<(y:Int))=true:=an (by omega)
   have hcw:=aq c (by omega)
   have q2:=adt y Xu
   have aN:2 ^ c<=x:=by
     rcases Nat.lt_or_ge x (2 ^ c) with h | h
     . rw [Nat.div_eq_of_lt h] at hy;omega
     . exact h
   have HZ:c+1<=32:=by
     have:2 ^ c<2 ^ 32:=by unfold au at Xm;omega
     have:=(Nat.pow_lt_pow_iff_right (by decide:1<2)).1 this
     omega
   simp only [SS,Nat.reduceAdd,d1,hcw,q2]
   refine ⟨(c+1,y/2,_),⟨?_,HZ, ?_⟩,Nat.div_lt_self (by omega) (by decide),Wk.bc (by simp [Fg]) (Nat.le_refl _)⟩
   . simp only [];rw [hy,Nat.div_div_eq_div_mul, <- Nat.pow_succ]
   . simp only [];rw [Nat.pow_succ];omega
theorem Dg {f:FuncId} (h:Has P f fW) (m s:Nat) (hm:ah m<=1000000) (hs:s<=31) (p:Id) :
   aB P G f [W m, .int .i64 (s:Int)] p [] { val := .osl (4::p) 1 0 (ah m+1) false,rd:=[],up:=[(4::p,some ⟨us (pad (ah m+1) (m*2 ^ s)),1,false⟩)] }:=by
 refine aB.has h ?_
 have hL:=aq (ah m) (by omega)
 have wY:∀ p:Id,k6 p 1 4 (.int .u32 0) (.int .i64 ((ah m+1:Nat):Int)) (.int .i64 ((ah m+1:Nat):Int))=some { val := .osl p 1 0 (ah m+1) false,up:=[(p,some ⟨us (List.replicate (ah m+1) 0),1,false⟩)] }:=fun p=>mB (by omega)
 have hz:us (List.replicate (ah m+1) 0)=us (0::zs (ah m)):=rfl
 simp only [fW,SS,Nat.reduceAdd,bl,hL,wY,aE]
 refine VW.bR (α := Nat × Nat × List Nat × Nat) (fun x=>⟨[W m, .int .i64 (s:Int), .top, .top, .top, .osl (4::p) 1 0 (ah m+1) false, .int .i64 (x.1:Int)]++List.replicate 36 .top,
   aa.put (aa.of []) (4::p) (some ⟨us (x.2.2.1++x.2.2.2::zs (ah m-x.1)),1,false⟩),x.2.1⟩)
   (fun x=>x.1<=ah m/\x.2.2.1.length=x.1/\Wd x.2.2.1/\x.2.2.2<2 ^ s/\val x.2.2.1+au ^ x.1*x.2.2.2=val ((digits m).take x.1)*2 ^ s) (fun x=>ah m-x.1) (0,1000,[],0) ?_ ?_ ?_
 . exact Wk.bc (by simp [Fg,List.replicate]) (by simp only [];omega)
 . exact ⟨Nat.zero_le _,rfl,by intro w hw;simp at hw,Nat.two_pow_pos _,by simp [val]⟩
 rintro ⟨i,nn,o,c⟩ ⟨hi,ho,iu,hc,hv⟩
 simp only [] at hi ho iu hc hv
 have qw:i<ah m->decide ((i:Int)<(ah m:Int))=true:=fun h=>an (by omega)
 have tp : ¬ i<ah m->decide ((i:Int)<(ah m:Int))=false:=fun h=>ak (by omega)
 have dv : ¬ i<ah m->i=ah m:=by omega
 have qV:=aq i (by omega)
 have l5:i<ah m->i+1<=ah m/\ah m-(i+1)<ah m-i:=fun h=>by omega
 have Ql:c<au:=by
   have h2:2 ^ s<=2 ^ 32:=Nat.pow_le_pow_right (by decide) (by omega)
   unfold au;omega
 by_cases aN:i<ah m
 . obtain ⟨x,hx⟩:∃ x,(digits m)[i]? = some x:=⟨_,List.getElem?_eq_getElem aN⟩
   have qx:=aQ m x (List.mem_of_getElem? hx)
   have f1:=bq x qx
   have f2:=Qk x s (by omega) qx
   obtain ⟨g1,g2,g3⟩:=Ic (s:=s) (by omega) hc qx
   have f3:=WX c (x*2 ^ s%au) Ql (Nat.mod_lt _ cZ)
   rw [g1] at f3
   have g4:x*2 ^ s/au<au:=by
     have h2:2 ^ s<=2 ^ 32:=Nat.pow_le_pow_right (by decide) (by omega)
     have:(2:Nat) ^ 32=au:=rfl
     omega
   have f4:IntKind.u32.wrap ((x*2 ^ s/au:Nat):Int)=((x*2 ^ s/au:Nat):Int):=by rw [uL,Nat.mod_eq_of_lt g4]
   have iB:=cF (q:=4::p) (t:=false) (show i<ah m+1 by omega)
   have WZ:=cF (q:=4::p) (t:=false) (show i+1<ah m+1 by omega)
   obtain ⟨k,hk⟩:∃ k,ah m-i=k+1:=⟨ah m-i-1,by omega⟩
   have AX:ah m-(i+1)=k:=by omega
   have mR:i<(o++c::0::zs k).length:=by simp;omega
   have uC:i+1<(o++(c+x*2 ^ s%au)::0::zs k).length:=by simp;omega
   have nA:val (o++[c+x*2 ^ s%au])+au ^ (i+1)*(x*2 ^ s/au)=val ((digits m).take (i+1))*2 ^ s:=by
     rw [aF hx,cz,ho,Nat.add_mul, <- hv]
     simp only [val,Nat.mul_zero,Nat.add_zero,Nat.pow_succ]
     have e2:au ^ i*(x*2 ^ s%au)+au ^ i*(au*(x*2 ^ s/au))=au ^ i*(x*2 ^ s):=by rw [<- Nat.mul_add,Nat.mod_add_div]
     rw [Nat.mul_assoc,Nat.mul_assoc,Nat.mul_add]
     omega
   simp only [SS,Nat.reduceAdd,bl,qw aN,dm hx,az,bp,f1,f2,iB,hk,iP]
   rw [iO (o:=o++c::0::zs k) (b:=false) (by simp [aa.put]) (uf _ _ _ ho)]
   simp only [SS,Nat.reduceAdd,uL,f3,iB]
   rw [bW (o:=o++c::0::zs k) (by simp [aa.put]) mR,fB _ _ _ _ ho]
   simp only [SS,Nat.reduceAdd,qV,nI,f4,WZ]
   rw [bW (o:=o++(c+x*2 ^ s%au)::0::zs k) (by simp [aa.put]) uC,Ib _ _ _ _ _ ho]
   simp only [SS,Nat.reduceAdd,qV]
   refine ⟨(i+1,_,o++[c+x*2 ^ s%au],x*2 ^ s/au),⟨(l5 aN).1,by simp [ho],cA iu (by intro z hz;simp at hz;subst hz;exact g2),g3,nA⟩,(l5 aN).2,Wk.forget (by simp [Fg]) (fun j => ?_) (Nat.le_refl _)⟩
   simp only [aa.put,AX];split<;>simp
 . have oh:=dv aN
   have e1:(digits m).take (ah m)=digits m:=List.take_of_length_le (Nat.le_refl _)
   have xC:val (o++[c])=m*2 ^ s:=by
     rw [cz,ho];simp only [val,Nat.mul_zero,Nat.add_zero]
     rw [hv,oh,e1,aJ]
   have hlen:(o++[c]).length=ah m+1:=by simp [ho,oh]
   have e:pad (ah m+1) (m*2 ^ s)=o++[c]:=by
     rw [<- xC, <- hlen]
     exact xV (cA iu (by intro z hz;simp at hz;subst hz;exact Ql))
   have e3:zs (ah m-i)=[]:=by rw [oh,Nat.sub_self];rfl
   simp only [SS,Nat.reduceAdd,bl,tp aN,e,e3]
   refine aU▸aA rfl fun i => .inr ?_
   rfl
theorem Ue {f ft:FuncId} (h:Has P f (kK ft)) (ht:gV P G ft) (m s:Nat) (hm:ah m<=1000000) (hs:s<=31) :
   VP P G f [W m, .int .i64 (s:Int)] (W (m/2 ^ s)):=by
 refine VP.has h ?_
 have wY:∀ p:Id,k6 p 1 4 (.int .u32 0) (.int .i64 (ah m:Int)) (.int .i64 (ah m:Int))=some { val := .osl p 1 0 (ah m) false,up:=[(p,some ⟨us (List.replicate (ah m) 0),1,false⟩)] }:=fun p=>mB (by omega)
 have hz:us (List.replicate (ah m) 0)=us ([]++zs (ah m-0)):=rfl
 have h2s:2 ^ s*2 ^ (32-s)=au:=by rw [Nat.mul_comm];exact sL (by omega)
 simp only [kK,SS,Nat.reduceAdd,bl,wY,hz,aE]
 refine VW.bR (α := Nat × Nat × List Nat) (fun x=>⟨[W m, .int .i64 (s:Int), .top, .top, .top, .osl [3] 1 0 (ah m) false, .int .i64 (x.1:Int)]++List.replicate 38 .top,
   aa.put (fun _=>none) [3] (some ⟨us (x.2.2++zs (ah m-x.1)),1,false⟩),x.2.1⟩)
   (fun x=>x.1<=ah m/\x.2.2.length=x.1/\Wd x.2.2/\2 ^ s*val x.2.2+m%2 ^ s=val ((digits m).take x.1)+au ^ x.1*(((digits m)[x.1]?).getD 0%2 ^ s)) (fun x=>ah m-x.1) (0,1000,[]) ?_ ?_ ?_
 . exact Wk.bc (by simp [Fg,List.replicate]) (by simp only [];omega)
 . refine ⟨Nat.zero_le _,rfl,by intro w hw;simp at hw, ?_⟩
   show 2 ^ s*val []+m%2 ^ s=val ((digits m).take 0)+au ^ 0*(((digits m)[0]?).getD 0%2 ^ s)
   rw [vZ, <- h2s,Nat.mod_mul_right_mod]
   simp [val]
 rintro ⟨i,nn,o⟩ ⟨hi,ho,iu,hv⟩
 simp only [] at hi ho iu hv
 have qw:i<ah m->decide ((i:Int)<(ah m:Int))=true:=fun h=>an (by omega)
 have tp : ¬ i<ah m->decide ((i:Int)<(ah m:Int))=false:=fun h=>ak (by omega)
 have H8:i+1<ah m->decide (((i+1:Nat):Int)<(ah m:Int))=true:=fun h=>an (by omega)
 have H9 : ¬ i+1<ah m->decide (((i+1:Nat):Int)<(ah m:Int))=false:=fun h=>ak (by omega)
 have dv : ¬ i<ah m->i=ah m:=by omega
 have W1:i<ah m -> ¬ i+1<ah m->i+1=ah m:=by omega
 have qV:=aq i (by omega)
 have l5:i<ah m->i+1<=ah m/\ah m-(i+1)<ah m-i:=fun h=>by omega
 by_cases aN:i<ah m
 . obtain ⟨x,hx⟩:∃ x,(digits m)[i]? = some x:=⟨_,List.getElem?_eq_getElem aN⟩
   have qx:=aQ m x (List.mem_of_getElem? hx)
   have f0:=bq x qx
   have iB:=cF (q:=[3]) (t:=false) aN
   obtain ⟨k,hk⟩:∃ k,ah m-i=k+1:=⟨ah m-i-1,by omega⟩
   have AX:ah m-(i+1)=k:=by omega
   have mR:i<(o++0::zs k).length:=by simp;omega
   have Ci:∀ y w,w=x/2 ^ s+2 ^ (32-s)*(y%2 ^ s)->2 ^ s*w+x%2 ^ s=x+au*(y%2 ^ s)->((digits m)[i+1]?).getD 0=y ->
       2 ^ s*val (o++[w])+m%2 ^ s=val ((digits m).take (i+1))+au ^ (i+1)*(((digits m)[i+1]?).getD 0%2 ^ s):=by
     intro y w _ hw hy
     rw [hx,Option.getD_some] at hv
     rw [aF hx,cz,ho,hy]
     simp only [val,Nat.mul_zero,Nat.add_zero,Nat.pow_succ]
     have e1:au ^ i*(2 ^ s*w)+au ^ i*(x%2 ^ s)=au ^ i*x+au ^ i*(au*(y%2 ^ s)):=by rw [<- Nat.mul_add,hw,Nat.mul_add]
     have e2:2 ^ s*(val o+au ^ i*w)=2 ^ s*val o+au ^ i*(2 ^ s*w):=by rw [Nat.mul_add,Nat.mul_left_comm]
     rw [e2,Nat.mul_assoc]
     omega
   by_cases hn:i+1<ah m
   . obtain ⟨y,hy⟩:∃ y,(digits m)[i+1]? = some y:=⟨_,List.getElem?_eq_getElem hn⟩
     have Au:=aQ m y (List.mem_of_getElem? hy)
     have f1:=bq y Au
     have f2:=vX y Au
     have f3:=Z2 x y qx Au
     have f4:=QN (au*y+x) s (by omega)
     obtain ⟨g1,g2,g3⟩:=zd (y:=y) (s:=s) (by omega) qx
     have f5:IntKind.u32.wrap (((au*y+x)/2 ^ s:Nat):Int)=((x/2 ^ s+2 ^ (32-s)*(y%2 ^ s):Nat):Int):=by rw [uL,NM (by omega) qx]
     have nA:=Ci y _ rfl g3 (by rw [hy];rfl)
     simp only [SS,Nat.reduceAdd,bl,qw aN,dm hx,az,bp,f0,qV,H8 hn,dm hy,f1,f2,f3,f4,f5,iB,hk,iP]
     rw [bW (o:=o++0::zs k) (by simp [aa.put]) mR,fB _ _ _ _ ho]
     simp only [SS,Nat.reduceAdd,qV]
     refine ⟨(i+1,_,o++[x/2 ^ s+2 ^ (32-s)*(y%2 ^ s)]),⟨(l5 aN).1,by simp [ho],cA iu (by intro z hz;simp at hz;subst hz;exact g2),nA⟩,(l5 aN).2,Wk.forget (by simp [Fg]) (fun j => ?_) (Nat.le_refl _)⟩
     simp only [aa.put,AX];split<;>simp
   . have yv:(digits m)[i+1]? = none:=List.getElem?_eq_none (by have:=W1 aN hn;show ah m<=i+1;omega)
     obtain ⟨g1,g2,g3⟩:=zd (y:=0) (s:=s) (by omega) qx
     have e0:x/2 ^ s+2 ^ (32-s)*(0%2 ^ s)=x/2 ^ s:=by simp
     rw [e0] at g2 g3
     have f4:=QN x s (by omega)
     have f5:IntKind.u32.wrap ((x/2 ^ s:Nat):Int)=((x/2 ^ s:Nat):Int):=by rw [uL,Nat.mod_eq_of_lt g2]
     have nA:=Ci 0 (x/2 ^ s) e0.symm g3 (by rw [yv];rfl)
     simp only [SS,Nat.reduceAdd,bl,qw aN,dm hx,az,bp,f0,qV,H9 hn,f4,f5,iB,hk,iP]
     rw [bW (o:=o++0::zs k) (by simp [aa.put]) mR,fB _ _ _ _ ho]
     simp only [SS,Nat.reduceAdd,qV]
     refine ⟨(i+1,_,o++[x/2 ^ s]),⟨(l5 aN).1,by simp [ho],cA iu (by intro z hz;simp at hz;subst hz;exact g2),nA⟩,(l5 aN).2,Wk.forget (by simp [Fg]) (fun j => ?_) (Nat.le_refl _)⟩
     simp only [aa.put,AX];split<;>simp
 . have oh:=dv aN
   have e1:(digits m).take (ah m)=digits m:=List.take_of_length_le (Nat.le_refl _)
   have yv:(digits m)[ah m]? = none:=List.getElem?_eq_none (Nat.le_refl _)
   have xC:val o=m/2 ^ s:=by
     rw [oh,e1,aJ,yv] at hv
     have h1:=Nat.div_add_mod m (2 ^ s)
     have h2:2 ^ s*val o=2 ^ s*(m/2 ^ s):=by
       simp at hv;omega
     exact Nat.eq_of_mul_eq_mul_left (Nat.two_pow_pos _) h2
   have hlen:ah m=o.length:=by rw [ho,oh]
   have xn:=ht o iu (by omega)
   rw [xC] at xn
   have e3:zs (ah m-i)=[]:=by rw [oh,Nat.sub_self];rfl
   simp only [SS,Nat.reduceAdd,bl,tp aN,e3]
   refine cQ [([3],⟨us o,1,false⟩)] xn (aY.cons (gK hlen) aY.nil) (by simp [aa.put]) ?_
   simp only [SS,Nat.reduceAdd]
   exact ag▸ab rfl (aK _)
end
end Go.VL
end

section
set_option linter.unusedVariables false
namespace Go.VL
theorem trimmed (b:List Nat) (h:Wd b):∃ z,b=digits (val b)++zs z:=by
 induction hn:b.length generalizing b with
 | zero =>
   obtain rfl:b=[]:=List.length_eq_zero_iff.1 hn
   exact ⟨0,by simp [val,bx,zs]⟩
 | succ k ih =>
   obtain ⟨b',w,rfl,hl⟩:=uj hn
   by_cases hw:w=0
   . subst hw
     obtain ⟨z,hz⟩:=ih b' (fun w hw=>h w (by simp [hw])) hl
     refine ⟨z+1, ?_⟩
     rw [kz]
     conv=>lhs;rw [hz]
     rw [List.append_assoc];congr 1
     simp [zs,List.replicate_succ']
   . exact ⟨0,by rw [lE h (.inr ⟨w,by simp,hw⟩)];simp [zs]⟩
theorem NN {id:Id} {k off len h:Nat} (h2:h<=len):bZ k (.osl id k off len false) none (some (.int .i64 (h:Int))) none=some (.osl id k off h false):=by
 simp [bZ,cN,dY,h2]
theorem Ix {id:Id} {a b t:List Nat} {f tt:Bool} {n:Nat} (hn:n=b.length):View (aa.of [(id,⟨us (a++b++t),1,f⟩)]) (.osl id 1 a.length n tt) (.sl 1 (us b)):=by
 subst hn
 refine View.osl (bk:=⟨us (a++b++t),1,f⟩) (by simp [aa.of]) rfl (by simp [dG]) ?_ (by rw [dG]) (wD b)
 have:((us (a++b++t)).drop a.length).take b.length=us b:=by rw [List.append_assoc,Ar,Ar, <- dG a,List.drop_left, <- dG b,List.take_left]
 show aY _ (flat (((us (a++b++t)).drop a.length).take b.length)) _
 rw [this]
 exact aY.pure (sK b)
section
variable {P:Program} {G:Nat->Option (List AV)}
theorem Dh {f:FuncId} (h:Has P f dw) {id:Id} {a b t:List Nat} (hw:Wd b) (hl:b.length<=9223372036854775807) (p:Id) :
   aB P G f [.osl id 1 a.length b.length false] p [(id,⟨us (a++b++t),1,false⟩)] { val := .osl id 1 a.length (ah (val b)) false,rd:=[id],up:=[] }:=by
 refine aB.has h ?_
 simp only [dw,SS,aE]
 refine VW.bR (α := Nat × Nat) (fun x=>⟨[.osl id 1 a.length x.1 false]++List.replicate 20 .top,aa.of [(id,⟨us (a++b++t),1,false⟩)],x.2⟩) (fun x=>x.1<=b.length/\val (b.take x.1)=val b) (fun x=>x.1) (b.length,1) ?_ ⟨Nat.le_refl _,by rw [List.take_length]⟩ ?_
 . exact Wk.bc (by simp [Fg,List.replicate]) (Nat.le_refl _)
 rintro ⟨k,n⟩ ⟨hk,hv⟩
 simp only [] at hk hv
 by_cases h0:k=0
 . subst h0
   have d0:decide ((0:Int)<((0:Nat):Int))=false:=by decide
   have e:ah (val b)=0:=by rw [<- hv];simp [val,ah,bx]
   simp only [SS,Nat.reduceAdd,d0,e]
   exact aU▸aA rfl fun i => .inr rfl
 . have oq:0<k:=Nat.pos_of_ne_zero h0
   have d0:decide ((0:Int)<(k:Int))=true:=an (by omega)
   have uF:=rW k oq (by omega)
   obtain ⟨w,ZB⟩:∃ w,b[k-1]? = some w:=⟨b[k-1],by rw [List.getElem?_eq_getElem]⟩
   have JI:b.take k=b.take (k-1)++[w]:=by
     have:=List.take_add_one (l:=b) (i:=k-1)
     rw [ZB,show k-1+1=k from by omega] at this
     simpa using this
   have iB:=nS (q:=id) (off:=a.length) (t:=false) (show k-1<k by omega)
   have Uf:=iO (σ := aa.of [(id,⟨us (a++b++t),1,false⟩)]) (q:=id) (b:=false) (by simp [aa.of]) (ui (t:=t) (rfl:a.length=a.length) ZB)
   have Iu:=NN (id:=id) (k:=1) (off:=a.length) (len:=k) (h:=k-1) (Nat.sub_le _ _)
   by_cases hz:w=0
   . have d1:decide ((w:Int)=0)=true:=an (by omega)
     simp only [SS,Nat.reduceAdd,d0,uF,iB,Uf,d1,Iu]
     refine ⟨(k-1,_),⟨by simp only [];omega, ?_⟩,by simp only [];omega,Wk.bc (by simp [Fg]) (Nat.le_refl _)⟩
     simp only []
     rw [<- hv,JI,hz,kz]
   . have d1:decide ((w:Int)=0)=false:=ak (by omega)
     have e:ah (val b)=k:=by
       have e1:digits (val b)=b.take k:=by
         rw [<- hv]
         exact lE (qT hw k) (.inr ⟨w,by rw [JI];simp,hz⟩)
       rw [ah,e1,List.length_take];omega
     simp only [SS,Nat.reduceAdd,d0,uF,iB,Uf,d1,e]
     exact aU▸aA rfl fun i => .inr rfl
set_option maxHeartbeats 1000000 in
theorem NO {f ft:FuncId} (h:Has P f (dV ft)) (ht:gV P G ft) {id:Id} {a t:List Nat} (m n:Nat) (x8:n<=m) (hm:ah m<=1000000) (p:Id) (hid:∀ x,id≠x::p) :
   aB P G f [.osl id 1 a.length (ah m) false,W n] p [(id,⟨us (a++digits m++t),1,false⟩)] { val:=W (m-n),rd:=[id],up:=[] }:=by
 refine aB.has h ?_
 have hwn:=cV x8
 have QO:=hid 3
 have wY:∀ p:Id,k6 p 1 4 (.int .u32 0) (.int .i64 (ah m:Int)) (.int .i64 (ah m:Int))=some { val := .osl p 1 0 (ah m) false,up:=[(p,some ⟨us (List.replicate (ah m) 0),1,false⟩)] }:=fun p=>mB (by omega)
 simp only [dV,SS,Nat.reduceAdd,wY,aE]
 refine VW.bR (α := Nat × Nat × List Nat × Nat) (fun x=>⟨[.osl id 1 a.length (ah m) false,W n, .top, .top, .top, .osl (3::p) 1 0 (ah m) false, .int .u64 (x.2.2.2:Int), .int .i64 (x.1:Int)]++List.replicate 40 .top,
   aa.put (aa.of [(id,⟨us (a++digits m++t),1,false⟩)]) (3::p) (some ⟨us (x.2.2.1++zs (ah m-x.1)),1,false⟩),x.2.1⟩)
   (fun x=>x.1<=ah m/\x.2.2.1.length=x.1/\Wd x.2.2.1/\x.2.2.2<=1/\val x.2.2.1+val ((digits n).take x.1)=val ((digits m).take x.1)+au ^ x.1*x.2.2.2) (fun x=>ah m-x.1) (0,1000,[],0) ?_ ?_ ?_
 . exact Wk.bc (by simp [Fg,List.replicate]) (by simp only [];omega)
 . exact ⟨Nat.zero_le _,rfl,by intro w hw;simp at hw,Nat.zero_le _,by simp [val]⟩
 rintro ⟨i,nn,o,c⟩ ⟨hi,ho,iu,hc,hv⟩
 simp only [] at hi ho iu hc hv
 have qw:i<ah m->decide ((i:Int)<(ah m:Int))=true:=fun h=>an (by omega)
 have tp : ¬ i<ah m->decide ((i:Int)<(ah m:Int))=false:=fun h=>ak (by omega)
 have H8:i<ah n->decide ((i:Int)<(ah n:Int))=true:=fun h=>an (by omega)
 have H9 : ¬ i<ah n->decide ((i:Int)<(ah n:Int))=false:=fun h=>ak (by omega)
 have dv : ¬ i<ah m->i=ah m:=by omega
 have qV:=aq i (by omega)
 have l5:i<ah m->i+1<=ah m/\ah m-(i+1)<ah m-i:=fun h=>by omega
 by_cases aN:i<ah m
 . obtain ⟨x,hx⟩:∃ x,(digits m)[i]? = some x:=⟨_,List.getElem?_eq_getElem aN⟩
   have qx:=aQ m x (List.mem_of_getElem? hx)
   have f1:=bq x qx
   have iB:=cF (q:=3::p) (t:=false) aN
   have YD:=nS (q:=id) (off:=a.length) (t:=false) aN
   obtain ⟨k,hk⟩:∃ k,ah m-i=k+1:=⟨ah m-i-1,by omega⟩
   have AX:ah m-(i+1)=k:=by omega
   have mR:i<(o++0::zs k).length:=by simp;omega
   have Uf:=iO (σ := aa.put (aa.of [(id,⟨us (a++digits m++t),1,false⟩)]) (3::p) (some ⟨us (o++0::zs k),1,false⟩)) (q:=id) (b:=false) (by simp [aa.of,aa.put,QO]) (ui (t:=t) (rfl:a.length=a.length) hx)
   by_cases hb:i<ah n
   . obtain ⟨y,hy⟩:∃ y,(digits n)[i]? = some y:=⟨_,List.getElem?_eq_getElem hb⟩
     have Au:=aQ n y (List.mem_of_getElem? hy)
     have f3:=bq y Au
     obtain ⟨w,c',h1,h2,h3,d,h4,h5,h6⟩:=wI qx Au hc
     have pK:=mK (va:=val ((digits m).take i)) (vb:=val ((digits n).take i)) (x:=x) (y:=y) (c:=c) (w:=w) (c':=c') ho (by rw [hv];omega) h3
     simp only [SS,Nat.reduceAdd,bl,qw aN,hk,iP,YD,Uf,bp,f1,H8 hb,dm hy,az,f3,h4,h5,iB]
     rw [bW (o:=o++0::zs k) (by simp [aa.put]) mR,fB _ _ _ _ ho]
     simp only [SS,Nat.reduceAdd,nI,h6,qV]
     refine ⟨(i+1,_,o++[w],c'),⟨(l5 aN).1,by simp [ho],cA iu (by intro z hz;simp at hz;subst hz;exact h1),h2, ?_⟩,(l5 aN).2,Wk.forget (by simp [Fg]) (fun j => ?_) (Nat.le_refl _)⟩
     . show val (o++[w])+val ((digits n).take (i+1))=val ((digits m).take (i+1))+_
       rw [aF hx,aF hy];exact pK
     . simp only [aa.put,AX];split<;>simp
   . obtain ⟨w,c',h1,h2,h3,d,h4,h5,h6⟩:=wI (y:=0) qx cZ hc
     have h4':IntKind.u64.wrap (IntKind.u64.wrap (IntKind.u64.wrap ((x:Int)+4294967296)-0)-(c:Int))=(d:Int):=h4
     have pK:=mK (va:=val ((digits m).take i)) (vb:=val ((digits n).take i)) (x:=x) (y:=0) (c:=c) (w:=w) (c':=c') ho (by rw [hv];omega) h3
     rw [Nat.mul_zero,Nat.add_zero] at pK
     simp only [SS,Nat.reduceAdd,bl,qw aN,hk,iP,YD,Uf,f1,H9 hb,h4',h5,iB]
     rw [bW (o:=o++0::zs k) (by simp [aa.put]) mR,fB _ _ _ _ ho]
     simp only [SS,Nat.reduceAdd,nI,h6,qV]
     refine ⟨(i+1,_,o++[w],c'),⟨(l5 aN).1,by simp [ho],cA iu (by intro z hz;simp at hz;subst hz;exact h1),h2, ?_⟩,(l5 aN).2,Wk.forget (by simp [Fg]) (fun j => ?_) (Nat.le_refl _)⟩
     . show val (o++[w])+val ((digits n).take (i+1))=val ((digits m).take (i+1))+_
       rw [aF hx,jd (show (digits n).length<=i from by show ah n<=i;omega)];exact pK
     . simp only [aa.put,AX];split<;>simp
 . have oh:=dv aN
   have e1:(digits m).take (ah m)=digits m:=List.take_of_length_le (Nat.le_refl _)
   have e2:(digits n).take (ah m)=digits n:=List.take_of_length_le (by show ah n<=ah m;omega)
   have xC:val o=m-n:=by
     rw [oh,e1,e2,aJ,aJ] at hv
     have rk:=lD iu
     rw [ho,oh] at rk
     rcases Nat.eq_zero_or_pos c with h0 | h0
     . subst h0;omega
     . have:c=1:=by omega
       subst this;have:=cT m;omega
   have uQ:ah m=o.length:=by omega
   have e3:zs (ah m-i)=[]:=by rw [oh,Nat.sub_self];rfl
   have xn:=ht o iu (by omega)
   rw [xC] at xn
   simp only [SS,Nat.reduceAdd,tp aN,e3]
   refine cQ [(3::p,⟨us o,1,false⟩)] xn (aY.cons (gK uQ) aY.nil) (by simp [aa.put]) ?_
   simp only [SS,Nat.reduceAdd]
   refine aU▸aA rfl fun i => ?_
   by_cases e:i=id
   . subst e;right;simp [aa.app,rm,aa.put,aa.of,QO]
   . left;simp [aa.app,aa.of,List.lookup,show (i==id)=false from by simpa using e]
end
end Go.VL
end

section
set_option linter.unusedVariables false
namespace Go.VL
theorem QP {num h V D x0 M u' l v':Nat} (h0:0<h) (hV:V=(h*au+l)*M+v') (hD:D=(num*au+x0)*M+u') (hx:x0<au) (hu:u'<M) (S7:D/V<au):D/V<=min (num/h) (au-1):=by
 have:=Ip h0 hV hD hx hu
 omega
section
variable {P:Program} {G:Nat->Option (List AV)}
set_option maxHeartbeats 1000000 in
theorem NP {f ft fti fc fm:FuncId} (h:Has P f (gJ fti ft fc fm)) (Bz:∀ (m:Nat) (ws:List Nat),Wd ws->ah m<=1000000->ws.length<=1000000->VP P G fti [W m, .sl 1 (us ws)] (W (m*val ws)))
   (Mt:Has P ft dw) (hc:∀ m n,ah m<=1000000->ah n<=1000000->VP P G fc [W m,W n] (.int .i64 (gp m n))) (Z3:∀ m n,n<=m->ah m<=1000000->VP P G fm [W m,W n] (W (m-n)))
   {id:Id} {a b t:List Nat} {V k:Nat} (hV:ah V=k+2) (hb:b.length=k+3) (GI:Wd b) (VN:val b<au*V) (hk:k<=900000) (p:Id) (hid:∀ x,id≠x::p) :
   aB P G f [.osl id 1 a.length (k+3) false,W V] p [(id,⟨us (a++b++t),1,false⟩)] { val := .tup [.int .u32 ((val b/V:Nat):Int),W (V*(val b/V))],rd:=[id],up:=[] }:=by
 refine aB.has h ?_
 obtain ⟨hh,QE⟩:∃ y,(digits V)[k+1]? = some y:=⟨_,List.getElem?_eq_getElem (by show k+1<ah V;omega)⟩
 obtain ⟨ll,ZW⟩:∃ y,(digits V)[k]? = some y:=⟨_,List.getElem?_eq_getElem (by show k<ah V;omega)⟩
 have hhB:=aQ V hh (List.mem_of_getElem? QE)
 obtain ⟨Xp,YA⟩:=ZM (aQ V) hV QE ZW
 rw [aJ] at Xp
 obtain ⟨YC,_,_,_,_⟩:=zj (k:=k+1) hV QE
 have S5:0<V:=by
   rcases Nat.eq_zero_or_pos V with e | e
   . rw [e] at VN;omega
   . exact e
 obtain ⟨x2,Xw⟩:∃ z,b[k+2]? = some z:=⟨_,List.getElem?_eq_getElem (by omega)⟩
 obtain ⟨x1,Qe⟩:∃ z,b[k+1]? = some z:=⟨_,List.getElem?_eq_getElem (by omega)⟩
 obtain ⟨z0,S3⟩:∃ z,b[k]? = some z:=⟨_,List.getElem?_eq_getElem (by omega)⟩
 have Kl:=GI x2 (List.mem_of_getElem? Xw)
 have QG:=GI x1 (List.mem_of_getElem? Qe)
 have QH:=GI z0 (List.mem_of_getElem? S3)
 obtain ⟨hD,YB⟩:=ZN GI hb Xw Qe S3
 rw [show x2*au+x1=au*x2+x1 from by rw [Nat.mul_comm]] at hD
 obtain ⟨num,De⟩:∃ z,z=au*x2+x1:=⟨_,rfl⟩
 rw [<- De] at hD
 have Mu:num<18446744073709551616:=by rw [De];unfold au at *;omega
 have S7:val b/V<au:=Nat.div_lt_of_lt_mul (by rw [Nat.mul_comm];exact VN)
 have Gc:=QP YC Xp hD QH YB S7
 have io2:=nS (q:=id) (off:=a.length) (t:=false) (show k+2<k+3 by omega)
 have io1:=nS (q:=id) (off:=a.length) (t:=false) (show k+1<k+3 by omega)
 have ld2:=iO (σ := aa.of [(id,⟨us (a++b++t),1,false⟩)]) (q:=id) (b:=false) (by simp [aa.of]) (ui (t:=t) (rfl:a.length=a.length) Xw)
 have ld1:=iO (σ := aa.of [(id,⟨us (a++b++t),1,false⟩)]) (q:=id) (b:=false) (by simp [aa.of]) (ui (t:=t) (rfl:a.length=a.length) Qe)
 have w2:=bq x2 Kl
 have w1:=bq x1 QG
 have w0:=bq hh hhB
 have s2:=vX x2 Kl
 have o2:=C6 x2 x1 Kl QG
 rw [<- De] at o2
 have q1:=C7 num hh Mu (by omega)
 have p1:IntKind.i64.wrap (((k+2:Nat):Int)-1)=((k+1:Nat):Int):=by rw [IntKind.wrap_i64];omega
 have hwD:ah (val b)<=1000000:=by
   have h1:=lD GI
   rw [hb] at h1
   have:=jj h1;omega
 have Xz:=Dh (G:=G) Mt (id:=id) (a:=a) (b:=b) (t:=t) GI (by omega)
 rw [hb] at Xz
 obtain ⟨z,hz⟩:=trimmed b GI
 have Lk:View (aa.of [(id,⟨us (a++b++t),1,false⟩)]) (.osl id 1 a.length (ah (val b)) false) (W (val b)):=by
   have:a++b++t=a++digits (val b)++(zs z++t):=by
     conv=>lhs;rw [hz]
     simp
   rw [this]
   exact Ix rfl
 have QO:∀ x,id≠x::p:=hid
 simp only [gJ,SS,DD,Nat.reduceAdd,bl,hV,io2,io1,ld2,ld1,w2,w1,s2,o2,p1,dm QE,az,bp,w0,q1]
 refine ⟨by simp [ar], ?_⟩
 by_cases Z4:(4294967295<num/hh)
 . have d1:decide ((4294967295:Int)<((num/hh:Nat):Int))=true:=by first | exact an (by omega) | exact ak (by omega)
   obtain ⟨q0,Z5⟩:∃ q0:Nat,q0=4294967295:=⟨_,rfl⟩
   have Ko:q0<au:=by unfold au;omega
   have XA:val b/V<=q0:=by unfold au at Gc;omega
   have f3:IntKind.u32.wrap (q0:Int)=(q0:Int):=by rw [uL,Nat.mod_eq_of_lt Ko]
   have qz:∀ (σ : aa) (q:Id),cl σ q (.buildSl 1 1 (.int .u32 0) [(0, .int .u32 (q0:Int))])=some { val := .osl q 1 0 1 false,up:=[(q,some ⟨us [q0],1,false⟩)] }:=fun σ q=>xp
   have Kk:=Bz V [q0] (by intro w hw;simp at hw;subst hw;exact Ko) (by omega) (by simp)
   rw [show val [q0]=q0 from by simp [val]] at Kk
   have f3q:IntKind.u32.wrap 4294967295=(q0:Int):=by rw [<- f3,Z5];try rfl
   simp only [SS,Nat.reduceAdd,d1,f3q,qz]
   refine cQ [(32::p,⟨us [q0],1,false⟩)] Kk (aY.cons (View.pure (aK _)) (aY.cons (gK rfl) aY.nil)) (by simp [aa.put]) ?_
   simp only [SS,Nat.reduceAdd,aE]
   refine VW.bR (α := Nat × Nat) (fun x=>⟨[.osl id 1 a.length (k+3) false,W V, .top, .top, .top, .top, .top, .int .u64 (x.1:Int),W (V*x.1)]++List.replicate 42 .top,aa.of [(id,⟨us (a++b++t),1,false⟩)],x.2⟩)
     (fun x=>val b/V<=x.1/\x.1<au) (fun x=>x.1) (q0,1000) ?_ ?_ ?_
   . refine Wk.forget (by simp [Fg,List.replicate,Z5]) (fun j => ?_) (by simp only [];omega)
     by_cases e:j=id
     . subst e;right;simp [aa.app,rm,aa.put,aa.of,QO]
     . left;simp [aa.of,List.lookup,show (j==id)=false from by simpa using e]
   . exact ⟨XA,Ko⟩
   rintro ⟨q,nn⟩ ⟨ZP,Nk⟩
   simp only [] at ZP Nk
   have Z6:ah (V*q)<=1000000:=by
     have h1:=qf V q
     have h2:ah q<=1:=jj (by simpa using Nk)
     omega
   have Yx:=hc (val b) (V*q) hwD Z6
   simp only [SS,Nat.reduceAdd]
   refine ⟨[(id,⟨us (a++b++t),1,false⟩)],_,Xz _,by simp [aa.of],by simp, ?_⟩
   simp only [SS,Nat.reduceAdd]
   refine iJ [(id,⟨us (a++b++t),1,false⟩)] Yx (aY.cons Lk (aY.cons (View.pure (aK _)) aY.nil)) (fun _ _ _ _ _ h=>by simpa [aM] using h) (by simp [aa.of]) ?_
   by_cases aN:val b<V*q
   . have d2:decide (gp (val b) (V*q)<0)=true:=an (by simp only [gp,jc];rw [if_pos (by omega)];decide)
     have hqp:1<=q:=by
       rcases Nat.eq_zero_or_pos q with e | e
       . rw [e] at aN;omega
       . exact e
     have hle:val b/V<=q-1:=by
       have:=(Nat.div_lt_iff_lt_mul S5).2 (by rw [Nat.mul_comm] at aN;exact aN)
       omega
     have pq:IntKind.u64.wrap ((q:Int)-1)=((q-1:Nat):Int):=by rw [IntKind.wrap_u64];unfold au at Nk;omega
     have Mo:=Z3 (V*q) V (Nat.le_mul_of_pos_right _ hqp) Z6
     have em:V*q-V=V*(q-1):=by rw [Nat.mul_sub,Nat.mul_one]
     rw [em] at Mo
     simp only [SS,Nat.reduceAdd,d2,pq]
     refine aj Mo (by simp [aK]) ?_
     simp only [SS,Nat.reduceAdd]
     exact ⟨(q-1,_),⟨hle,by simp only [];omega⟩,by simp only [];omega,Wk.bc (by simp [Fg]) (Nat.le_refl _)⟩
   . have d2:decide (gp (val b) (V*q)<0)=false:=ak (by simp only [gp,jc];rw [if_neg (by omega)];split<;>decide)
     have T9:q=val b/V:=by
       have:=(Nat.le_div_iff_mul_le S5).2 (show q*V<=val b by rw [Nat.mul_comm];omega)
       omega
     have f4:IntKind.u32.wrap (q:Int)=(q:Int):=by rw [uL,Nat.mod_eq_of_lt Nk]
     simp only [SS,Nat.reduceAdd,d2,f4]
     rw [<- T9]
     exact aU▸aA rfl fun i => .inr rfl
 by_cases XB:(¬ 4294967295<num/hh)
 . have d1:decide ((4294967295:Int)<((num/hh:Nat):Int))=false:=by first | exact an (by omega) | exact ak (by omega)
   obtain ⟨q0,Z5⟩:∃ q0:Nat,q0=(num/hh):=⟨_,rfl⟩
   have Ko:q0<au:=by unfold au;omega
   have XA:val b/V<=q0:=by unfold au at Gc;omega
   have f3:IntKind.u32.wrap (q0:Int)=(q0:Int):=by rw [uL,Nat.mod_eq_of_lt Ko]
   have qz:∀ (σ : aa) (q:Id),cl σ q (.buildSl 1 1 (.int .u32 0) [(0, .int .u32 (q0:Int))])=some { val := .osl q 1 0 1 false,up:=[(q,some ⟨us [q0],1,false⟩)] }:=fun σ q=>xp
   have Kk:=Bz V [q0] (by intro w hw;simp at hw;subst hw;exact Ko) (by omega) (by simp)
   rw [show val [q0]=q0 from by simp [val]] at Kk
   have f3q:IntKind.u32.wrap ((num/hh:Nat):Int)=(q0:Int):=by rw [<- f3,Z5];try rfl
   simp only [SS,Nat.reduceAdd,d1,f3q,qz]
   refine cQ [(31::p,⟨us [q0],1,false⟩)] Kk (aY.cons (View.pure (aK _)) (aY.cons (gK rfl) aY.nil)) (by simp [aa.put]) ?_
   simp only [SS,Nat.reduceAdd,aE]
   refine VW.bR (α := Nat × Nat) (fun x=>⟨[.osl id 1 a.length (k+3) false,W V, .top, .top, .top, .top, .top, .int .u64 (x.1:Int),W (V*x.1)]++List.replicate 42 .top,aa.of [(id,⟨us (a++b++t),1,false⟩)],x.2⟩)
     (fun x=>val b/V<=x.1/\x.1<au) (fun x=>x.1) (q0,1000) ?_ ?_ ?_
   . refine Wk.forget (by simp [Fg,List.replicate,Z5]) (fun j => ?_) (by simp only [];omega)
     by_cases e:j=id
     . subst e;right;simp [aa.app,rm,aa.put,aa.of,QO]
     . left;simp [aa.of,List.lookup,show (j==id)=false from by simpa using e]
   . exact ⟨XA,Ko⟩
   rintro ⟨q,nn⟩ ⟨ZP,Nk⟩
   simp only [] at ZP Nk
   have Z6:ah (V*q)<=1000000:=by
     have h1:=qf V q
     have h2:ah q<=1:=jj (by simpa using Nk)
     omega
   have Yx:=hc (val b) (V*q) hwD Z6
   simp only [SS,Nat.reduceAdd]
   refine ⟨[(id,⟨us (a++b++t),1,false⟩)],_,Xz _,by simp [aa.of],by simp, ?_⟩
   simp only [SS,Nat.reduceAdd]
   refine iJ [(id,⟨us (a++b++t),1,false⟩)] Yx (aY.cons Lk (aY.cons (View.pure (aK _)) aY.nil)) (fun _ _ _ _ _ h=>by simpa [aM] using h) (by simp [aa.of]) ?_
   by_cases aN:val b<V*q
   . have d2:decide (gp (val b) (V*q)<0)=true:=an (by simp only [gp,jc];rw [if_pos (by omega)];decide)
     have hqp:1<=q:=by
       rcases Nat.eq_zero_or_pos q with e | e
       . rw [e] at aN;omega
       . exact e
     have hle:val b/V<=q-1:=by
       have:=(Nat.div_lt_iff_lt_mul S5).2 (by rw [Nat.mul_comm] at aN;exact aN)
       omega
     have pq:IntKind.u64.wrap ((q:Int)-1)=((q-1:Nat):Int):=by rw [IntKind.wrap_u64];unfold au at Nk;omega
     have Mo:=Z3 (V*q) V (Nat.le_mul_of_pos_right _ hqp) Z6
     have em:V*q-V=V*(q-1):=by rw [Nat.mul_sub,Nat.mul_one]
     rw [em] at Mo
     simp only [SS,Nat.reduceAdd,d2,pq]
     refine aj Mo (by simp [aK]) ?_
     simp only [SS,Nat.reduceAdd]
     exact ⟨(q-1,_),⟨hle,by simp only [];omega⟩,by simp only [];omega,Wk.bc (by simp [Fg]) (Nat.le_refl _)⟩
   . have d2:decide (gp (val b) (V*q)<0)=false:=ak (by simp only [gp,jc];rw [if_neg (by omega)];split<;>decide)
     have T9:q=val b/V:=by
       have:=(Nat.le_div_iff_mul_le S5).2 (show q*V<=val b by rw [Nat.mul_comm];omega)
       omega
     have f4:IntKind.u32.wrap (q:Int)=(q:Int):=by rw [uL,Nat.mod_eq_of_lt Nk]
     simp only [SS,Nat.reduceAdd,d2,f4]
     rw [<- T9]
     exact aU▸aA rfl fun i => .inr rfl
 exact absurd Z4 XB
end
end Go.VL
end
