/- For the claim of HistoryUndoAll: parts CI21, CI22, CI23, KD, KE, VL31, CI24, CR1, CR2, CR3, CR4, CR5, CR6, CR7. -/
import Derived.Test.YtcomlgfjnjpebaaGreatDoorC06
import Derived.Test.YtcomlgfjnjpebaaGreatDoorC05
set_option linter.unusedSimpArgs false
set_option linter.unusedVariables false
section
set_option linter.unusedVariables false
namespace Go.VL
def IR (neg:Bool) (ws:List Nat):AV := .agg [.bool neg, .sl 1 (us ws)]
theorem yb (neg:Bool) (ws:List Nat):((IR neg ws).cells.all AV.one=true)=True:=by simp [IR,AV.cells,AV.one]
theorem QO (neg:Bool) (ws:List Nat):part false (IR neg ws).cells 0 1=some (.bool neg):=rfl
theorem II (neg:Bool) (ws:List Nat):part false (IR neg ws).cells 1 1=some (.sl 1 (us ws)):=rfl
def iy (neg:Bool) (ws:List Nat):Bool:=if ws=[] then !neg else decide (ws[ws.length-1]?.getD 0≠0)
theorem MI {neg:Bool} {ws:List Nat} (hw:Wd ws) (h:iy neg ws=true):IR neg ws=IV (jD neg (val ws)):=by
 unfold iy at h
 by_cases h0:ws=[]
 . subst h0
   rw [if_pos rfl] at h
   have:neg=false:=by simpa using h
   subst this
   simp [IR,IV,jD,val,W,bq,us]
 . rw [if_neg h0] at h
   have hl:0<ws.length:=List.length_pos_iff.2 h0
   obtain ⟨w,wR⟩:∃ w,ws[ws.length-1]? = some w:=⟨_,List.getElem?_eq_getElem (by omega)⟩
   rw [wR] at h
   have hwz:w≠0:=by simpa using h
   have hd:digits (val ws)=ws:=lD hw (.inr ⟨w,by rw [List.getLast?_eq_getElem?];exact wR,hwz⟩)
   have hne:val ws≠0:=fun e=>h0 (by rw [<- hd,e,bq])
   have e1:decide (jD neg (val ws)<0)=neg:=by cases neg<;>simp [jD]<;>omega
   have e2:(jD neg (val ws)).natAbs=val ws:=by cases neg<;>simp [jD]
   unfold IV IR W
   rw [e1,e2,hd]
section
variable {P:Program} {G:Nat->Option (List AV)}
theorem N4 {f:FuncId} (h:Has P f pg) (neg:Bool) (ws:List Nat) (hl:ws.length<=9223372036854775807):VP P G f [IR neg ws] (.bool (iy neg ws)):=by
 refine VP.has h ?_
 have hlen:jM false (.sl 1 (us ws))=some (.int .i64 ws.length):=by simp [jM,dD]
 simp only [pg,SS,Nat.reduceAdd,yb,ae,II,hlen]
 by_cases h0:ws=[]
 . have d0:decide ((ws.length:Int)=0)=true:=ao (by rw [h0];rfl)
   have d1:decide ((0:Int)<(ws.length:Int))=false:=ak (by rw [h0];simp)
   have e:iy neg ws = !neg:=by unfold iy;rw [if_pos h0]
   rw [e]
   cases neg <;>
   . simp only [SS,Nat.reduceAdd,d0,d1,ae,QO]
     exact ag▸ab rfl (af.bool _)
 . have oy:0<ws.length:=List.length_pos_iff.2 h0
   have d0:decide ((ws.length:Int)=0)=false:=ak (by omega)
   have d1:decide ((0:Int)<(ws.length:Int))=true:=ao (by omega)
   obtain ⟨w,hw⟩:∃ w,ws[ws.length-1]? = some w:=⟨_,List.getElem?_eq_getElem (by omega)⟩
   have hp:=sa ws.length oy hl
   have e:iy neg ws=decide ((w:Int)≠0):=by unfold iy;rw [if_neg h0,hw];simp
   rw [e]
   simp only [SS,Nat.reduceAdd,d0,d1,ae,II,hp,aQ rfl (r9 hw),az,bm]
   exact ag▸ab rfl (af.bool _)
end
end Go.VL
end

section
set_option linter.unusedVariables false
namespace Go.VL
def RR (n1:Bool) (w1:List Nat) (n2:Bool) (w2:List Nat):AV := .agg [.bool n1, .sl 1 (us w1), .bool n2, .sl 1 (us w2)]
theorem wS (neg:Bool) (ws:List Nat):af (IR neg ws):=af.agg (by intro c hc;simp at hc;rcases hc with rfl | rfl;exact af.bool _;exact kS _)
theorem Dm (n1:Bool) (w1:List Nat) (n2:Bool) (w2:List Nat):((RR n1 w1 n2 w2).cells.all AV.one=true)=True:=by simp [RR,AV.cells,AV.one]
theorem V8 (n1:Bool) (w1:List Nat) (n2:Bool) (w2:List Nat):part true (RR n1 w1 n2 w2).cells 0 2=some (IR n1 w1):=rfl
theorem QP (n1:Bool) (w1:List Nat) (n2:Bool) (w2:List Nat):part true (RR n1 w1 n2 w2).cells 2 2=some (IR n2 w2):=rfl
section
variable {P:Program} {G:Nat->Option (List AV)}
theorem Ft {f fv fs fg fo:FuncId} (h:Has P f (lM fv fs fg fo)) (n1:Bool) (w1:List Nat) (n2:Bool) (w2:List Nat) (uK:Wd w1) (wR:Wd w2) (g:Int)
   (px:VP P G fv [IR n1 w1] (.bool (iy n1 w1))) (tr:VP P G fv [IR n2 w2] (.bool (iy n2 w2))) (hs:VP P G fs [IV (jD n2 (val w2))] (.int .i64 (jD n2 (val w2)).sign))
   (hg:0<jD n2 (val w2)->VP P G fg [IV (jD n1 (val w1)),IV (jD n2 (val w2))] (IV g)) (ho:VP P G fo [IV g] (.bool (decide (g=1)))) :
   VP P G f [RR n1 w1 n2 w2] (.bool (iy n1 w1&&iy n2 w2&&decide (0<jD n2 (val w2))&&decide (g=1))):=by
 refine VP.has h ?_
 simp only [lM,SS,Nat.reduceAdd,Dm,ae,V8]
 refine aj px (by simp [wS]) ?_
 by_cases c1:iy n1 w1=true
 . have e1:=MI uK c1
   simp only [SS,Nat.reduceAdd,c1,ae,QP,Bool.true_and]
   refine aj tr (by simp [wS]) ?_
   by_cases c2:iy n2 w2=true
   . have e2:=MI wR c2
     simp only [SS,Nat.reduceAdd,c2,ae,QP,Bool.true_and,e2]
     refine aj hs (by simp [aF]) ?_
     by_cases c3:0<jD n2 (val w2)
     . have d3:decide (0<(jD n2 (val w2)).sign)=true:=ao (by rw [Int.sign_eq_one_of_pos c3];decide)
       have d4:decide (0<jD n2 (val w2))=true:=ao c3
       simp only [SS,Nat.reduceAdd,d3,d4,ae,V8,QP,Bool.true_and,e1,e2]
       refine aj (hg c3) (by simp [aF]) ?_
       simp only [SS,Nat.reduceAdd]
       refine aj ho (by simp [aF]) ?_
       simp only [SS,Nat.reduceAdd]
       exact ag▸ab rfl (af.bool _)
     . have d3:decide (0<(jD n2 (val w2)).sign)=false:=ak (by rcases mE (jD n2 (val w2)) with ⟨e,p⟩ | ⟨e,p⟩ | ⟨e,p⟩<;>omega)
       have d4:decide (0<jD n2 (val w2))=false:=ak c3
       simp only [SS,Nat.reduceAdd,d3,d4,Bool.false_and]
       exact ag▸ab rfl (af.bool _)
   . have c2':iy n2 w2=false:=by simpa using c2
     simp only [SS,Nat.reduceAdd,c2',Bool.false_and]
     exact ag▸ab rfl (af.bool _)
 . have c1':iy n1 w1=false:=by simpa using c1
   simp only [SS,Nat.reduceAdd,c1',Bool.false_and]
   exact ag▸ab rfl (af.bool _)
end
end Go.VL
end

section
set_option linter.unusedVariables false
namespace Go.VL
theorem re {n:Nat} (h:ah n<=2):n<18446744073709551616:=by
 have h1:=cN n
 have h2:au ^ ah n<=au ^ 2:=Nat.pow_le_pow_right cV h
 have h3:au ^ 2=18446744073709551616:=by decide
 omega
theorem wm {x y g:Nat} (hg:Nat.gcd x y=g):Nat.gcd y (x%y)=g:=by rw [<- hg,Nat.gcd_comm y, <- Nat.gcd_rec,Nat.gcd_comm]
theorem n5 (n:Nat):jD false n=(n:Int):=by simp [jD]
section
variable {P:Program} {G:Nat->Option (List AV)}
theorem Xz {f ft fd fc fs Z4 fu:FuncId} (h:Has P f (rM ft fd fc fs Z4 fu)) (ht:gU P G ft) (hd:∀ m n,n≠0->ah m<=900000->ah n<=900000->VP P G fd [W m,W n] (.tup [W (m/n),W (m%n)]))
   (hc:∀ n,ah n<=1000000->VP P G fc [W n] (W n)) (hs:jh P G fs) (V9:∀ n,n<18446744073709551616->VP P G Z4 [W n] (.int .u64 ((n:Nat):Int))) (hu:∀ n,n<18446744073709551616->VP P G fu [.int .u64 ((n:Nat):Int)] (W n))
   (a b:Int) (ha:ah a.natAbs<=900000) (hb:ah b.natAbs<=900000):VP P G f [IV a,IV b] (IV (Nat.gcd a.natAbs b.natAbs:Nat)):=by
 refine VP.has h ?_
 have eE:([0]:List Nat)≠[1]:=by decide
 have mV:([0]:List Nat)≠[2]:=by decide
 have nZ:([1]:List Nat)≠[2]:=by decide
 simp only [rM,SS,DD,Nat.reduceAdd,ia,cx,ai eE,ai mV,ae,iu]
 refine ax (qm ht a.natAbs (by omega)) (by simp [aJ]) ?_
 simp only [SS,DD,Nat.reduceAdd,ai nZ,ae,iu]
 refine ax (qm ht b.natAbs (by omega)) (by simp [aJ]) ?_
 simp only [SS,DD,Nat.reduceAdd]
 refine ⟨by simp [ar,apart], ?_⟩
 simp only [aC]
 refine VW.bJ (α := Nat × Nat × Nat) (fun x=>⟨[IV a,IV b, .top, .top, .ref [2] 0 0,W x.1,W x.2.1]++List.replicate 50 .top,
   aa.put (fun _=>none) [2] (some ⟨[.agg [.bool false, .nils]],(AV.agg [.bool false, .nils]).size,false⟩),x.2.2⟩)
   (fun x=>Nat.gcd x.1 x.2.1=Nat.gcd a.natAbs b.natAbs/\ah x.1<=900000/\ah x.2.1<=900000) (fun x=>x.2.1) (a.natAbs,b.natAbs,1000) ?_ ?_ ?_
 . exact Wk.forget (by simp [Fg,List.replicate]) (fun j=>by simp only [aa.put];split<;>simp_all) (by simp only [];omega)
 . exact ⟨rfl,ha,hb⟩
 rintro ⟨x,y,nn⟩ ⟨hg,hx,hy⟩
 simp only [] at hg hx hy
 have g1:2<ah y->decide ((2:Int)<(ah y:Int))=true:=fun h=>ao (by omega)
 have g2 : ¬ 2<ah y->decide ((2:Int)<(ah y:Int))=false:=fun h=>ak (by omega)
 have g3:2<ah x->decide ((2:Int)<(ah x:Int))=true:=fun h=>ao (by omega)
 have g4 : ¬ 2<ah x->decide ((2:Int)<(ah x:Int))=false:=fun h=>ak (by omega)
 have g5:0<ah y->decide ((0:Int)<(ah y:Int))=true:=fun h=>ao (by omega)
 have g6 : ¬ 0<ah y->decide ((0:Int)<(ah y:Int))=false:=fun h=>ak (by omega)
 have e1:0<ah y->decide ((ah y:Int)=0)=false:=fun h=>ak (by omega)
 have e2 : ¬ 0<ah y->decide ((ah y:Int)=0)=true:=fun h=>ao (by omega)
 have Uo:0<ah y->y≠0:=fun h e=>by have:=bE.2 e;omega
 have JV : ¬ 0<ah y->y=0:=fun h=>bE.1 (by omega)
 have Zf:2<ah y->0<ah y:=fun h=>by omega
 have w1:=zt x y
 have wR:ah (x%y)<=900000:=by omega
 have Lq:ah x<=1000000:=by omega
 have hsx:ah x<=9223372036854775807:=by omega
 have YV : ¬ 2<ah x->x<18446744073709551616:=fun h=>re (by omega)
 have hyy : ¬ 2<ah y->y<18446744073709551616:=fun h=>re (by omega)
 have Bw:∀ g,g<18446744073709551616->ah g<=9223372036854775807:=fun g h=>by have:=nY g h;omega
 clear w1
 simp only [SS,Nat.reduceAdd]
 by_cases c1:2<ah y
 . have oy:=Zf c1
   have XA:=hd x y (Uo oy) hx hy
   simp only [SS,Nat.reduceAdd,bh,g1 c1]
   refine aj XA (by simp [aJ]) ?_
   simp only [SS,Nat.reduceAdd,uo,uq]
   exact ⟨(y,x%y,_),⟨wm hg,hy,wR⟩,Nat.mod_lt _ (Nat.pos_of_ne_zero (Uo oy)),Wk.slots (by simp [Fg]) (Nat.le_refl _)⟩
 by_cases c3:0<ah y
 . by_cases c2:2<ah x
   . have XA:=hd x y (Uo c3) hx hy
     simp only [SS,Nat.reduceAdd,bh,g2 c1,g3 c2,g5 c3]
     refine aj XA (by simp [aJ]) ?_
     simp only [SS,Nat.reduceAdd,uo,uq]
     exact ⟨(y,x%y,_),⟨wm hg,hy,wR⟩,Nat.mod_lt _ (Nat.pos_of_ne_zero (Uo c3)),Wk.slots (by simp [Fg]) (Nat.le_refl _)⟩
   . simp only [SS,Nat.reduceAdd,bh,g2 c1,g4 c2,e1 c3]
     refine aj (V9 x (YV c2)) (by simp [aJ]) ?_
     simp only [SS,Nat.reduceAdd]
     refine aj (V9 y (hyy c1)) (by simp [aJ]) ?_
     simp only [SS,Nat.reduceAdd,aC]
     refine VW.bJ (α := Nat × Nat × Nat) (fun x=>⟨[IV a,IV b, .top, .top, .ref [2] 0 0, .top, .top, .top, .top, .int .u64 ((x.1:Nat):Int), .int .u64 ((x.2.1:Nat):Int)]++List.replicate 46 .top,
       aa.put (fun _=>none) [2] (some ⟨[.agg [.bool false, .nils]],(AV.agg [.bool false, .nils]).size,false⟩),x.2.2⟩)
       (fun x=>Nat.gcd x.1 x.2.1=Nat.gcd a.natAbs b.natAbs/\x.1<18446744073709551616/\x.2.1<18446744073709551616) (fun x=>x.2.1) (x,y,nn+1000) ?_ ?_ ?_
     . exact Wk.slots (by simp [Fg,List.replicate]) (by simp only [];omega)
     . exact ⟨hg,YV c2,hyy c1⟩
     rintro ⟨u,v,mm⟩ ⟨JZ,JW,hv'⟩
     simp only [] at JZ JW hv'
     by_cases v0:v=0
     . subst v0
       have d0:decide (((0:Nat):Int)≠0)=false:=by decide
       rw [Nat.gcd_zero_right] at JZ
       have l8:=hs false u (Bw u JW)
       rw [n5] at l8
       simp only [SS,Nat.reduceAdd,d0]
       refine aj (hu u JW) (by simp [af.int]) ?_
       simp only [SS,Nat.reduceAdd]
       refine aj l8 (by simp [af.bool,aJ]) ?_
       simp only [SS,Nat.reduceAdd,gy]
       rw [<- JZ]
       refine ag▸ab (r:=IV (u:Int)) ?_ (aF _)
       simp only [RS,bP,cu,ae];rfl
     . have d0:decide ((v:Int)≠0)=true:=ao (by omega)
       have f1:=Dj u v v0
       have hlt:u%v<18446744073709551616:=Nat.lt_of_le_of_lt (Nat.mod_le _ _) JW
       simp only [SS,DD,Nat.reduceAdd,d0,f1]
       first
       | exact ⟨(v,u%v,_),⟨wm JZ,hv',hlt⟩,Nat.mod_lt _ (Nat.pos_of_ne_zero v0),Wk.slots (by simp [Fg,List.replicate]) (Nat.le_refl _)⟩
       | exact ⟨by simp [ar,apart],(v,u%v,_),⟨wm JZ,hv',hlt⟩,Nat.mod_lt _ (Nat.pos_of_ne_zero v0),Wk.slots (by simp [Fg]) (Nat.le_refl _)⟩
 . have hyz:=JV c3
   rw [hyz,Nat.gcd_zero_right] at hg
   have l8:=hs false x hsx
   rw [n5] at l8
   by_cases c2:2<ah x
   . simp only [SS,Nat.reduceAdd,bh,g2 c1,g3 c2,g6 c3,e2 c3]
     refine aj (hc x Lq) (by simp [aJ]) ?_
     simp only [SS,Nat.reduceAdd]
     refine aj l8 (by simp [af.bool,aJ]) ?_
     simp only [SS,Nat.reduceAdd,gy]
     rw [<- hg]
     refine ag▸ab (r:=IV (x:Int)) ?_ (aF _)
     simp only [RS,bP,cu,ae];rfl
   . simp only [SS,Nat.reduceAdd,bh,g2 c1,g4 c2,e2 c3]
     refine aj (hc x Lq) (by simp [aJ]) ?_
     simp only [SS,Nat.reduceAdd]
     refine aj l8 (by simp [af.bool,aJ]) ?_
     simp only [SS,Nat.reduceAdd,gy]
     rw [<- hg]
     refine ag▸ab (r:=IV (x:Int)) ?_ (aF _)
     simp only [RS,bP,cu,ae];rfl
end
end Go.VL
end

section
namespace Go.VL
section
variable {b M h l v' V num u2 u' U:Nat}
theorem Z5 (hV:V=(h*b+l)*M+v'):V=h*(b*M)+l*M+v':=by rw [hV,Nat.add_mul,Nat.mul_assoc]
theorem ado (hU:U=(num*b+u2)*M+u'):U=num*(b*M)+u2*M+u':=by rw [hU,Nat.add_mul,Nat.mul_assoc]
theorem Z6 (h2:u2<b) (h1:u'<M):u2*M+u'<b*M:=by
 have:(u2+1)*M<=b*M:=Nat.mul_le_mul_right _ h2
 rw [Nat.add_mul] at this;omega
theorem IJ (h0:0<h) (hV:V=(h*b+l)*M+v') (hU:U=(num*b+u2)*M+u') (h2:u2<b) (h1:u'<M):U/V<=num/h:=by
 have hbM:=Z6 h2 h1
 have eV:=Z5 hV
 have eU:=ado hU
 have Pc:0<V:=by
   have:1*(b*M)<=h*(b*M):=Nat.mul_le_mul_right _ h0
   omega
 refine Nat.le_of_lt_succ ((Nat.div_lt_iff_lt_mul Pc).2 ?_)
 have hq:num+1<=(num/h+1)*h:=by rw [Nat.mul_comm];exact Nat.lt_mul_div_succ num h0
 have h3:(num/h+1)*(h*(b*M))<=(num/h+1)*V:=Nat.mul_le_mul_left _ (by omega)
 have h4:(num+1)*(b*M)<=(num/h+1)*h*(b*M):=Nat.mul_le_mul_right _ hq
 rw [Nat.mul_assoc] at h4
 rw [Nat.add_mul] at h4
 show U<(num/h+1)*V
 omega
theorem Up {q r:Nat} (hV:V=(h*b+l)*M+v') (hU:U=(num*b+u2)*M+u') (h1:u'<M) (hq:q*h+r=num) (ht:r*b+u2<q*l):U/V<=q-1:=by
 have h3:num*b+u2+1<=q*(h*b+l):=by
   rw [<- hq,Nat.add_mul,Nat.mul_add, <- Nat.mul_assoc];omega
 have h4:(num*b+u2+1)*M<=q*(h*b+l)*M:=Nat.mul_le_mul_right _ h3
 have h5:U<q*V:=by
   rw [hV,Nat.mul_add, <- Nat.mul_assoc]
   rw [Nat.add_mul] at h4
   omega
 have Pc:0<V:=by
   rcases Nat.eq_zero_or_pos V with e | e
   . rw [e] at h5;simp at h5
   . exact e
 have:=(Nat.div_lt_iff_lt_mul Pc).2 h5
 omega
theorem MJ {q r:Nat} (h0:0<h) (hV:V=(h*b+l)*M+v') (hU:U=(num*b+u2)*M+u') (hv:v'<M) (hqb:q<b) (hq:q*h+r=num) (ht:q*l<=r*b+u2):q<=U/V+1:=by
 have h3:q*(h*b+l)<=num*b+u2:=by
   rw [<- hq,Nat.add_mul,Nat.mul_add, <- Nat.mul_assoc];omega
 have h4:q*(h*b+l)*M<=(num*b+u2)*M:=Nat.mul_le_mul_right _ h3
 have h5:q*v'<=b*M:=by
   have a1:q*v'<=b*v':=Nat.mul_le_mul_right _ (Nat.le_of_lt hqb)
   have a2:b*v'<=b*M:=Nat.mul_le_mul_left _ (Nat.le_of_lt hv)
   omega
 have eV:=Z5 hV
 have h6:1*(b*M)<=h*(b*M):=Nat.mul_le_mul_right _ h0
 have h7:q*V<=U+V:=by
   have:q*V=q*(h*b+l)*M+q*v':=by rw [hV,Nat.mul_add, <- Nat.mul_assoc]
   omega
 rcases Nat.eq_zero_or_pos q with e | e
 . rw [e];exact Nat.zero_le _
 . have h8:(q-1)*V<=U:=by
     have:q*V=(q-1)*V+V:=by
       have:=Nat.sub_add_cancel e
       calc q*V=(q-1+1)*V:=by rw [this]
         _=(q-1)*V+V:=by rw [Nat.add_mul,Nat.one_mul]
     omega
   have Pc:0<V:=by
     have hM:0<M:=by omega
     have:0<b*M:=Nat.mul_pos (by omega) hM
     omega
   have:=(Nat.le_div_iff_mul_le Pc).2 h8
   omega
theorem QQ {q r:Nat} (hn:num<(h+1)*b) (hl:l<b) (hq:q*h+r=num) (hr:b<=r):q<b/\q*l<=r*b+u2:=by
 have hqb:q<b:=by
   rw [Nat.add_mul,Nat.one_mul] at hn
   have h1:q*h<b*h:=by rw [Nat.mul_comm b h];omega
   exact Nat.lt_of_mul_lt_mul_right h1
 refine ⟨hqb, ?_⟩
 have h1:q*l<=b*b:=Nat.mul_le_mul (Nat.le_of_lt hqb) (Nat.le_of_lt hl)
 have h2:b*b<=r*b:=Nat.mul_le_mul_right _ hr
 omega
theorem XB {q:Nat} (Pc:0<V) (hle:U/V<=q) (Wa:q<=U/V+1):(U<q*V/\q=U/V+1∨q*V<=U/\q=U/V):=by
 by_cases h:U<q*V
 . left
   have:=(Nat.div_lt_iff_lt_mul Pc).2 h
   exact ⟨h,by omega⟩
 . right
   have:=(Nat.le_div_iff_mul_le Pc).2 (Nat.le_of_not_lt h)
   exact ⟨by omega,by omega⟩
end
end Go.VL
end

section
namespace Go.VL
theorem Z7 {ds:List Nat} {j h l:Nat} (hw:Wd ds) (hl:ds.length=j+2) (h1:ds[j+1]? = some h) (h0:ds[j]? = some l) :
   val ds=(h*au+l)*au ^ j+val (ds.take j)/\val (ds.take j)<au ^ j:=by
 have e1:=aE h1
 have e0:=aE h0
 have e2:ds.take (j+1+1)=ds:=List.take_of_length_le (by omega)
 have h3:=lC (q8 hw j)
 rw [List.length_take,Nat.min_eq_left (by omega)] at h3
 rw [e2,e0] at e1
 refine ⟨?_,h3⟩
 have e4:(h*au+l)*au ^ j=au ^ (j+1)*h+au ^ j*l:=by
   rw [Nat.add_mul,Nat.pow_succ,Nat.mul_comm l,Nat.mul_assoc,Nat.mul_comm h,Nat.mul_comm au]
 omega
theorem Z8 {ds:List Nat} {j x2 x1 x0:Nat} (hw:Wd ds) (hl:ds.length=j+3) (h2:ds[j+2]? = some x2) (h1:ds[j+1]? = some x1) (h0:ds[j]? = some x0) :
   val ds=((x2*au+x1)*au+x0)*au ^ j+val (ds.take j)/\val (ds.take j)<au ^ j:=by
 have e2:=aE h2
 have e1:=aE h1
 have e0:=aE h0
 have e3:ds.take (j+2+1)=ds:=List.take_of_length_le (by omega)
 have h3:=lC (q8 hw j)
 rw [List.length_take,Nat.min_eq_left (by omega)] at h3
 rw [e3,e1,e0] at e2
 refine ⟨?_,h3⟩
 have e4:((x2*au+x1)*au+x0)*au ^ j=au ^ (j+2)*x2+au ^ (j+1)*x1+au ^ j*x0:=by
   rw [Nat.add_mul,Nat.add_mul,Nat.add_mul,Nat.mul_comm x0]
   have a:au ^ (j+1)*x1=x1*au*au ^ j:=by rw [Nat.pow_succ,Nat.mul_comm,Nat.mul_assoc,Nat.mul_comm au]
   have b:au ^ (j+2)*x2=x2*au*au*au ^ j:=by
     have e:au ^ (j+2)=au ^ j*au*au:=by rw [show j+2=j+1+1 from rfl,Nat.pow_succ,Nat.pow_succ]
     rw [e]
     generalize au ^ j=Y
     generalize au=Z
     simp only [Nat.mul_comm,Nat.mul_left_comm]
   omega
 omega
theorem MK {x:Nat} (h:x<au) (h0:0<x):1<=iN x/\iN x<=32:=by
 obtain ⟨a,b⟩:=zr h h0
 constructor
 . rcases Nat.eq_zero_or_pos (iN x) with e | e
   . rw [e] at a;simp at a;omega
   . exact e
 . have h2:2 ^ iN x<2 ^ 33:=by unfold au at h;omega
   have:=(Nat.pow_lt_pow_iff_right (by decide:1<2)).1 h2
   omega
theorem zu {n x k:Nat} (hk:ah n=k+1) (hx:(digits n)[k]? = some x) :
   0<x/\x<au/\n*2 ^ (32-iN x)<au ^ (k+1)/\ah (n*2 ^ (32-iN x))=k+1/\32-iN x<=31:=by
 have qE:=aO n x (List.mem_of_getElem? hx)
 have NU:0<x:=by
   rcases Bu (n:=n) with h | ⟨w,h,hw⟩
   . rw [h] at hx;simp at hx
   . rw [List.getLast?_eq_getElem?,show (digits n).length-1=k from by show ah n-1=k;omega,hx] at h
     simp only [Option.some.injEq] at h;omega
 obtain ⟨qF,G0⟩:=MK qE NU
 have wX:=(zr qE NU).1
 have e:=aE hx
 rw [List.take_of_length_le (show (digits n).length<=k+1 from by show ah n<=k+1;omega),aI] at e
 have h3:=lC (q8 (aO n) k)
 rw [List.length_take,Nat.min_eq_left (show k<=(digits n).length from by show k<=ah n;omega)] at h3
 have h4:n+1<=au ^ k*2 ^ iN x:=by
   have:au ^ k*(x+1)<=au ^ k*2 ^ iN x:=Nat.mul_le_mul_left _ wX
   rw [Nat.mul_add] at this;omega
 have h5:(n+1)*2 ^ (32-iN x)<=au ^ (k+1):=by
   have:=Nat.mul_le_mul_right (2 ^ (32-iN x)) h4
   rw [Nat.mul_assoc, <- Nat.pow_add,show iN x+(32-iN x)=32 from by omega] at this
   rw [Nat.pow_succ];exact this
 have hp:=Nat.two_pow_pos (32-iN x)
 have h6:n*2 ^ (32-iN x)<au ^ (k+1):=by rw [Nat.add_mul] at h5;omega
 refine ⟨NU,qE,h6, ?_,by omega⟩
 have h7:=jg h6
 have h8:ah n<=ah (n*2 ^ (32-iN x)):=cP (Nat.le_mul_of_pos_right _ hp)
 omega
theorem Z9 {x R V:Nat} (hx:x<au) (hR:R<V):x+au*R<au*V/\(x+au*R)/V<au:=by
 have:au*(R+1)<=au*V:=Nat.mul_le_mul_left _ hR
 have h:x+au*R<au*V:=by rw [Nat.mul_add] at this;omega
 exact ⟨h,Nat.div_lt_of_lt_mul (by rw [Nat.mul_comm V];exact h)⟩
theorem XC {num u2 M u' h l v' V D:Nat} (hl:l<au) (hv:v'<M) (hV:V=(h*au+l)*M+v') (hD:D=(num*au+u2)*M+u') (hlt:D<au*V):num<(h+1)*au:=by
 have h1:V<(h+1)*au*M:=by
   have:(h*au+l+1)*M<=(h+1)*au*M:=Nat.mul_le_mul_right _ (by rw [Nat.add_mul];omega)
   rw [Nat.add_mul,Nat.one_mul] at this;omega
 have h2:num*(au*M)<=D:=by
   have:num*au*M<=(num*au+u2)*M:=Nat.mul_le_mul_right _ (by omega)
   rw [Nat.mul_assoc] at this;omega
 have h3:au*V<(h+1)*au*(au*M):=by
   have:=Nat.mul_lt_mul_of_pos_left h1 cV
   rw [Nat.mul_left_comm] at this;exact this
 exact Nat.lt_of_mul_lt_mul_right (a:=au*M) (by omega)
theorem IK {U a0 i x O V R q r:Nat} (hU:U=a0+au ^ i*x+au ^ (i+1)*(O*V+R)) (hD:x+au*R=q*V+r):U=a0+au ^ i*((q+au*O)*V+r):=by
 have e:au ^ (i+1)*(O*V+R)=au ^ i*(au*(O*V))+au ^ i*(au*R):=by
   rw [Nat.pow_succ,Nat.mul_assoc, <- Nat.mul_add, <- Nat.mul_add]
 have e2:au ^ i*((q+au*O)*V+r)=au ^ i*(q*V+r)+au ^ i*(au*(O*V)):=by
   rw [<- Nat.mul_add,Nat.add_mul,Nat.mul_assoc];congr 1;omega
 rw [hU,e,e2, <- hD,Nat.mul_add];omega
theorem Gx {k r:Nat} (h:r<au ^ k):pad (k+1) r=pad k r++[0]:=by
 have e1:val (pad k r++[0])=r:=by rw [ky,gq h]
 have e2:(pad k r++[0]).length=k+1:=by simp [kT]
 have h1:=x8 (cw (sb k r) (b:=[0]) (fun z hz=>by rw [List.mem_singleton.1 hz];exact cV))
 rw [e1,e2] at h1
 exact h1
theorem QR {k D V q:Nat} (h:D%V<au ^ k) (hq:q=D/V):pad (k+1) (D+au ^ (k+1)-q*V)=pad k (D%V)++[0]:=by
 have h1:=Nat.mod_add_div D V
 rw [Nat.mul_comm] at h1
 have:D+au ^ (k+1)-q*V=D%V+au ^ (k+1)*1:=by rw [hq];omega
 rw [this,Ch,Gx h]
theorem QS {k D V q:Nat} (h0:0<V) (h:D%V<au ^ k) (hV:V<au ^ k) (hq:q=D/V+1):pad (k+1) (val (pad (k+1) (D+au ^ (k+1)-q*V))+V)=pad k (D%V)++[0]:=by
 have h1:=Nat.mod_add_div D V
 rw [Nat.mul_comm] at h1
 have e:q*V=D/V*V+V:=by rw [hq,Nat.add_mul,Nat.one_mul]
 have h2:au ^ k<=au ^ (k+1):=Nat.pow_le_pow_right cV (by omega)
 have h3:D%V<V:=Nat.mod_lt _ h0
 rw [gq (by omega)]
 have:D+au ^ (k+1)-q*V+V=D%V+au ^ (k+1)*1:=by omega
 rw [this,Ch,Gx h]
theorem IL {m s V N k c A R:Nat} (hN:V=N*2 ^ s) (hNk:au ^ (k-1)<=N) (hm:m<au ^ (c+(k-1))) (hU:m*2 ^ s=A+au ^ c*R):R<V:=by
 rcases Nat.lt_or_ge R V with h | h
 . exact h
 . exfalso
   have h1:au ^ c*V<=au ^ c*R:=Nat.mul_le_mul_left _ h
   have h2:au ^ c*(au ^ (k-1)*2 ^ s)<=au ^ c*V:=by rw [hN];exact Nat.mul_le_mul_left _ (Nat.mul_le_mul_right _ hNk)
   rw [<- Nat.mul_assoc, <- Nat.pow_add] at h2
   have h3:=Nat.mul_lt_mul_of_pos_right hm (Nat.two_pow_pos s)
   omega
theorem XD {q r num h l u2 M u' v' V D:Nat} (hl:l<au) (YW:v'<M) (YX:u'<M) (h0:0<h) (hV:V=(h*au+l)*M+v') (hD:D=(num*au+u2)*M+u') (hlt:D<au*V) (hdB:D/V<au)
   (hq:q*h+r=num) (hle:D/V<=q) (ht:au<=q∨r*au+u2<q*l):1<=q/\D/V<=q-1/\(q-1)*h+(r+h)=num/\(au<=r+h->q-1<au/\q-1<=D/V+1):=by
 have hq1:1<=q:=by
   rcases Nat.eq_zero_or_pos q with e | e
   . subst e
     rcases ht with h1 | h1
     . unfold au at h1;omega
     . simp at h1
   . exact e
 have XE:D/V<=q-1:=by
   rcases ht with h1 | h1
   . omega
   . exact Up hV hD YX hq h1
 have hs:(q-1)*h+(r+h)=num:=by
   obtain ⟨p,rfl⟩:∃ p,q=p+1:=⟨q-1,by omega⟩
   rw [Nat.add_mul] at hq
   simp only [Nat.add_sub_cancel];omega
 refine ⟨hq1,XE,hs,fun hb => ?_⟩
 obtain ⟨a,c⟩:=QQ (u2:=u2) (XC hl YW hV hD hlt) hl hs hb
 exact ⟨a,MJ h0 hV hD YW a hs c⟩
theorem ML {m n s O r:Nat} (_hn:n≠0) (hU:m*2 ^ s=O*(n*2 ^ s)+r) (hr:r<n*2 ^ s):O=m/n/\r/2 ^ s=m%n/\ah r<=ah (n*2 ^ s):=by
 have hp:=Nat.two_pow_pos s
 have h1:r=(m-O*n)*2 ^ s:=by
   rw [Nat.sub_mul,Nat.mul_assoc];omega
 have h2:m-O*n<n:=by
   rw [h1] at hr;exact Nat.lt_of_mul_lt_mul_right hr
 have h3:O*n<=m:=by
   have:O*n*2 ^ s<=m*2 ^ s:=by rw [Nat.mul_assoc];omega
   exact Nat.le_of_mul_le_mul_right this hp
 have h4:(m-O*n)+n*O=m:=by rw [Nat.mul_comm n];omega
 have h5:m/n=O/\m%n=m-O*n:=(Nat.div_mod_unique (Nat.pos_of_ne_zero _hn)).2 ⟨h4,h2⟩
 refine ⟨h5.1.symm, ?_,cP (Nat.le_of_lt hr)⟩
 rw [h1,Nat.mul_div_cancel _ hp,h5.2]
theorem ur {a b t:List Nat} {i j x:Nat} (ha:a.length=i) (h:b[j]? = some x):(a++b++t)[i+j]? = some x:=by
 have hj:=(List.getElem?_eq_some_iff.1 h).1
 rw [List.append_assoc,List.getElem?_append_right (by omega),List.getElem?_append_left (by omega), <- h]
 congr 1;omega
theorem uu {a:List Nat} {i:Nat} (h:a.length=i+1):∃ b x,a=b++[x]/\b.length=i:=by
 refine ⟨a.take i,a[i]'(by omega), ?_,by simp;omega⟩
 rw [<- List.take_succ_eq_append_getElem,List.take_of_length_le (by omega)]
end Go.VL
end

section
namespace Go.VL
section
variable {P:Program} {G:Nat->Option (List AV)} {π : Id} {Q:cD->VS->Prop} {s:VS}
theorem VW.IM {x y:bX} (h:VW P G π x (Then (VW P G π y Q) Q) s):VW P G π (.seq x y) Q s :=
 VW.seq (h.mono fun e _ hq=>by cases e<;>exact hq)
theorem VW.QT {id:Nat} {x:bX} (h:VW P G π x (NJ id Q) s):VW P G π (.block id x) Q s :=
 VW.block (h.mono fun e _ hq=>by cases e<;>exact hq)
theorem VW.cut {x:bX} {s':VS} (hw:Wk G π s s') (h:sy P G π x Q s'):VW P G π x Q s:=VW.wk hw (VW.of h)
theorem VW.aab {α : Type} {x:bX} {s:VS} (st : α -> VS) (Pr : α -> Prop) (m : α -> Nat) (x0 : α) (hw:Wk G π s (st x0)) (h0:Pr x0)
   (h:∀ a,Pr a->VW P G π x (Hx G π st Pr m a Q) (st a)):VW P G π (.loop x) Q s:=by
 refine VW.wk hw ?_
 intro c hc own E w a R hm hR
 cases c<;>simp only [eD,Option.some.injEq,reduceCtorEq] at hc
 case loop cb =>
   cases h1:eD P cb with
   | none=>simp [h1] at hc
   | some vb =>
     simp only [h1,Option.map_some,Option.some.injEq,bX.loop.injEq] at hc
     subst hc
     refine vE (α := α) (fun g a' w'=>Pr g/\∃ E',kC own π E E' w w'/\je G π own E' w' (st g) a') m (x:=x0) ⟨h0,E,kC.refl own π E w,hm⟩ ?_
     rintro g a2 w2 ⟨TR,E2,NI,tp⟩
     refine (h g TR) cb h1 own E2 w2 a2 _ tp ?_
     intro e s' E' w' a' hq had sw
     cases e with
     | normal =>
       obtain ⟨g',ZB,hlt,WX⟩:=hq
       obtain ⟨E3,ZC,ZD⟩:=WX own E' w' a' sw
       exact ⟨g',⟨ZB,E3,(NI.trans had).trans ZC,ZD⟩,hlt⟩
     | exit id=>exact hR (.exit id) s' E' w' a' hq (NI.trans had) sw
     | ret=>exact hR .ret s' E' w' a' hq (NI.trans had) sw
 case region=>exfalso;revert hc;unfold lI;(repeat' split)<;>simp
 all_goals (exfalso;revert hc;(repeat' split)<;>simp)
theorem Bx {base:Nat} {n:Nat} {ps:List (Nat × Nat)} {d:Option Nat} {os:List bp} {i:Nat} {acc:List dN} {t:List AV} {σ : aa} {f:FuncId} {args gv:List AV} {r:AV} (S:List (Id × dC))
   (h:VP P G f gv r) (hv:aW (aa.of S) args gv) (hS:∀ x∈S, σ x.1=some x.2) (k:vd P G π base Q n ps os (i+1) ({ val:=r,rd:=S.map (·.1),up:=rC S }::acc) (fK t d r) (σ.app (rC S))):Gh P G π base Q n ps d os i acc t σ f args :=
 ⟨S,_,aB.LJ h hv,hS,fun x hx=>List.mem_map.2 ⟨x,hx,rfl⟩,k⟩
end
theorem Fu {id:Id} {k len l h:Nat} (h1:l<h) (h2:h<=len):bU k (.osl id k 0 len false) (some (.int .i64 (l:Int))) (some (.int .i64 (h:Int))) none=some (.osl id k l (h-l) false):=by
 rcases Nat.eq_zero_or_pos l with rfl | hp
 . simp [bU,cJ,dV,h2]
 . simp [bU,cJ,dV,h2,Nat.le_of_lt h1,Nat.ne_of_gt hp,Nat.ne_of_lt h1]
theorem Dn {id:Id} {k len h:Nat} (h2:h<=len):bU k (.osl id k 0 len false) none (some (.int .i64 (h:Int))) none=some (.osl id k 0 h false):=by
 simp [bU,cJ,dV,h2]
end Go.VL
end

section
set_option linter.unusedVariables false
namespace Go.VL
section
variable {P:Program} {G:Nat->Option (List AV)}
theorem XF {q Q:Nat} (h1:q=Q+1) (h2:q<au):IntKind.u64.wrap ((q:Int)-1)=((Q:Nat):Int):=by
 subst h1;rw [IntKind.wrap_u64];unfold au at h2;omega
theorem IP {id:Id} {a t:List Nat} {b tt:Bool} {n:Nat} (hn:n=a.length):View (aa.of [(id,⟨us (a++t),1,b⟩)]) (.osl id 1 0 n tt) (.sl 1 (us a)):=by
 subst hn
 refine View.osl (bk:=⟨us (a++t),1,b⟩) (by simp [aa.of]) rfl (by simp [dD]) ?_ (by rw [dD]) (wO a)
 have:((us (a++t)).drop 0).take a.length=us a:=by rw [List.drop_zero,MA];simp
 show aW _ (flat (((us (a++t)).drop 0).take a.length)) _
 rw [this]
 exact aW.pure (sU a)
set_option maxRecDepth 100000 in
set_option maxHeartbeats 4000000 in
theorem N5 {f fc z8 Z4 fu fdw flz fsl ft fsu D5 fsr:FuncId} (h:Has P f (nT fc z8 Z4 fu fdw flz fsl ft fsu D5 fsr))
   (hc:∀ m n,ah m<=1000000->ah n<=1000000->VP P G fc [W m,W n] (.int .i64 (gp m n))) (uU:∀ n,ah n<=1000000->VP P G z8 [W n] (W n))
   (V9:∀ n,n<18446744073709551616->VP P G Z4 [W n] (.int .u64 ((n:Nat):Int))) (hu:∀ n,n<18446744073709551616->VP P G fu [.int .u64 ((n:Nat):Int)] (W n))
   (hdw:∀ m w:Nat,ah m<=1000000->w<au->w≠0->VP P G fdw [W m, .int .u32 (w:Int)] (.tup [W (m/w),W (m%w)]))
   (hlz:∀ x:Nat,x<au->0<x->VP P G flz [.int .u32 (x:Int)] (.int .i64 ((32-iN x:Nat):Int)))
   (Cy:Has P fsl jf) (ht:gU P G ft) (hsu:Has P fsu j4) (hre:Has P D5 kQ) (hsr:Has P fsr iH)
   (m n:Nat) (tC:n≠0) (hm:ah m<=900000) (hn:ah n<=900000):VP P G f [W m,W n] (.tup [W (m/n),W (m%n)]):=by
 refine VP.has h ?_
 have XG:=hc m n (by omega) (by omega)
 have adq:=uU m (by omega)
 have Dg:m/n=0->∀ σ,View σ .nils (W (m/n)):=fun h σ => by rw [h];simp only [W,bq,us];exact View.nils 1
 have XH:m<n->m/n=0/\m%n=m:=fun h=>⟨Nat.div_eq_of_lt h,Nat.mod_eq_of_lt h⟩
 have c1:m<n->decide (gp m n<0)=true:=fun h=>ao (by simp only [gp,iZ];rw [if_pos (by omega)];decide)
 have c2 : ¬ m<n->decide (gp m n<0)=false:=fun h=>ak (by simp only [gp,iZ];rw [if_neg (by omega)];split<;>decide)
 have l1:ah m<=2->decide ((ah m:Int)<=2)=true:=fun h=>ao (by omega)
 have l2 : ¬ ah m<=2->decide ((ah m:Int)<=2)=false:=fun h=>ak (by omega)
 have b1:ah n=1->decide ((ah n:Int)=1)=true:=fun h=>ao (by omega)
 have b2 : ¬ ah n=1->decide ((ah n:Int)=1)=false:=fun h=>ak (by omega)
 simp only [nT,SS,Nat.reduceAdd]
 refine aj XG (by simp [aJ]) ?_
 by_cases h1:m<n
 . simp only [SS,Nat.reduceAdd,c1 h1]
   refine aj adq (by simp [aJ]) ?_
   simp only [SS,Nat.reduceAdd]
   obtain ⟨e1,e2⟩:=XH h1
   refine ag▸⟨.tup [.nils,W m],rfl,View.tup (aW.cons (Dg e1 _) (aW.cons ?_ aW.nil))⟩
   rw [e2];exact View.pure (aJ _)
 have yi:n<=m:=by omega
 have hwn:ah n≠0:=fun e=>tC (bE.1 e)
 by_cases h2:ah m<=2
 . have tp:=re h2
   have PG:n<18446744073709551616:=by omega
   have hq:=Di m n tp tC
   have hr:=Dj m n tC
   have V4:=hu (m/n) (Nat.lt_of_le_of_lt (Nat.div_le_self _ _) tp)
   have Uq:=hu (m%n) (Nat.lt_of_le_of_lt (Nat.mod_le _ _) tp)
   simp only [SS,Nat.reduceAdd,c2 h1,bh,l1 h2]
   refine aj (V9 m tp) (by simp [aJ]) ?_
   simp only [SS,Nat.reduceAdd]
   refine aj (V9 n PG) (by simp [aJ]) ?_
   simp only [SS,DD,Nat.reduceAdd,hq]
   refine ax V4 (by simp [af.int]) ?_
   simp only [SS,DD,Nat.reduceAdd,hr]
   refine ax Uq (by simp [af.int]) ?_
   simp only [SS,DD,Nat.reduceAdd]
   refine ⟨by simp [ar,apart], ?_⟩
   exact ag▸ab rfl (af.tup (by intro c hc;simp at hc;rcases hc with rfl | rfl<;>exact aJ _))
 by_cases h3:ah n=1
 . obtain ⟨x,hx⟩:∃ x,(digits n)[0]? = some x:=⟨_,List.getElem?_eq_getElem (by show 0<ah n;omega)⟩
   have N6:x=n:=by
     have e:=aE hx
     rw [List.take_of_length_le (show (digits n).length<=1 from by show ah n<=1;omega),aI] at e
     simp [val] at e;omega
   have hg:=db hx
   rw [N6] at hg
   have hnB:n<au:=by rw [<- N6];exact aO n x (List.mem_of_getElem? hx)
   have XA:=hdw m n (by omega) hnB tC
   have JZ:br 1 (W n) (.int .i64 0)=some (.ep (AV.int .u32 (n:Int)).cells 0):=hg
   simp only [SS,Nat.reduceAdd,c2 h1,bh,l2 h2,b1 h3,JZ,az,bm]
   refine aj XA (by simp [aJ,af.int]) ?_
   simp only [SS,Nat.reduceAdd,uo,uq]
   exact ag▸ab rfl (af.tup (by intro c hc;simp at hc;rcases hc with rfl | rfl<;>exact aJ _))
 -- Knuth's algorithm D
 obtain ⟨k,hk⟩:∃ k,ah n=k+2:=⟨ah n-2,by omega⟩
 obtain ⟨x,hx⟩:∃ x,(digits n)[k+1]? = some x:=⟨_,List.getElem?_eq_getElem (by show k+1<ah n;omega)⟩
 obtain ⟨NU,XI,hV,XJ,hs⟩:=zu hk hx
 generalize hsd:32-iN x=s at hV XJ hs
 have aad:=hlz x XI NU
 rw [hsd] at aad
 have p1:IntKind.i64.wrap (((k+2:Nat):Int)-1)=((k+1:Nat):Int):=by rw [IntKind.wrap_i64];omega
 have p2:IntKind.i64.wrap (((k+2:Nat):Int)-2)=((k:Nat):Int):=by rw [IntKind.wrap_i64];omega
 obtain ⟨V,N7⟩:∃ V,V=n*2 ^ s:=⟨_,rfl⟩
 obtain ⟨U,Ur⟩:∃ U,U=m*2 ^ s:=⟨_,rfl⟩
 rw [<- N7] at hV XJ
 have Ky:=zl (G:=G) Cy m s (by omega) hs
 have Kz:=zl (G:=G) Cy n s (by omega) hs
 rw [<- N7] at Kz
 rw [<- Ur] at Ky
 obtain ⟨L,hL⟩:∃ L,ah m+1=L+(k+2):=⟨ah m+1-(k+2),by have:=cP yi;omega⟩
 have hUB:U<au ^ (ah m+1):=by
   have h4:2 ^ s<=2 ^ 32:=Nat.pow_le_pow_right (by decide) (by omega)
   have h5:m*2 ^ s<=m*2 ^ 32:=Nat.mul_le_mul_left _ h4
   have h6:m*2 ^ 32<au ^ ah m*2 ^ 32:=Nat.mul_lt_mul_of_pos_right (cN m) (by decide)
   rw [Nat.pow_succ,Ur];exact Nat.lt_of_le_of_lt h5 h6
 obtain ⟨A0,R0,XK,Wb,hR0⟩:∃ A R,pad (ah m+1) U=A++R++[]/\A.length=L/\R.length=k+2 :=
   ⟨(pad (ah m+1) U).take L,(pad (ah m+1) U).drop L,by simp,by simp [kT];omega,by simp [kT];omega⟩
 have hAw:Wd A0/\Wd R0:=by
   have h4:=sb (ah m+1) U
   rw [XK] at h4
   exact ⟨fun w hw=>h4 w (by simp [hw]),fun w hw=>h4 w (by simp [hw])⟩
 have hU0:U=val A0+au ^ L*val R0:=by
   have h4:=gq hUB
   rw [XK,List.append_nil,cv,Wb] at h4
   exact h4.symm
 have QU:val R0<V:=IL (k:=k+2) N7 (by have:=q9 tC;rw [hk] at this;exact this) (by
   have h4:=cN m
   have:L+(k+2-1)=ah m:=by omega
   rw [this];exact h4) (Ur▸hU0)
 have Dp:ah V=k+2:=XJ
 obtain ⟨hh,QV⟩:∃ y,(digits V)[k+1]? = some y:=⟨_,List.getElem?_eq_getElem (by show k+1<ah V;omega)⟩
 obtain ⟨ll,llg⟩:∃ y,(digits V)[k]? = some y:=⟨_,List.getElem?_eq_getElem (by show k<ah V;omega)⟩
 have hhB:=aO V hh (List.mem_of_getElem? QV)
 have llB:=aO V ll (List.mem_of_getElem? llg)
 have f1:=bn hh hhB
 have f2:=bn ll llB
 obtain ⟨XL,YW⟩:=Z7 (aO V) Dp QV llg
 rw [aI] at XL
 have YY:0<hh:=by
   rcases Bu (n:=V) with h4 | ⟨w,h4,hw⟩
   . rw [h4] at QV;simp at QV
   . rw [List.getLast?_eq_getElem?,show (digits V).length-1=k+1 from by show ah V-1=k+1;omega,QV] at h4
     simp only [Option.some.injEq] at h4;omega
 have Tl:0<V:=Nat.lt_of_le_of_lt (Nat.zero_le _) QU
 have QW:IntKind.i64.wrap (((ah m+1:Nat):Int)-((k+2:Nat):Int))=((L:Nat):Int):=by rw [IntKind.wrap_i64];omega
 have xu:IntKind.i64.wrap (((L:Nat):Int)-1)=(L:Int)-1:=by rw [IntKind.wrap_i64];omega
 have xh:∀ p:Id,kX p 1 4 (.int .u32 0) (.int .i64 ((L:Nat):Int)) (.int .i64 ((L:Nat):Int))=some { val := .osl p 1 0 L false,up:=[(p,some ⟨us (List.replicate L 0),1,false⟩)] }:=fun p=>mD (by omega)
 rw [XK] at Ky
 rw [hk] at Kz
 have b3:decide (((k+2:Nat):Int)=1)=false:=ak (by omega)
 have Pc:V<au ^ (k+2+1):=Nat.lt_of_lt_of_le hV (Nat.pow_le_pow_right cV (by omega))
 have KA:VP P G ft [.sl 1 (us (pad (k+2+1) V))] (W V):=by
   have:=ht (pad (k+2+1) V) (sb _ _) (by rw [kT];omega)
   rwa [gq Pc] at this
 simp only [SS,Nat.reduceAdd,c2 h1,bh,l2 h2,b3,hk,p1,db hx,az,bm]
 refine aj aad (by simp [af.int]) ?_
 simp only [SS,Nat.reduceAdd]
 refine ⟨[],_,Ky _,by simp,by simp, ?_⟩
 simp only [SS,Nat.reduceAdd]
 refine ⟨[],_,Kz _,by simp,by simp, ?_⟩
 simp only [SS,Nat.reduceAdd]
 refine cM [([4,28],⟨us (pad (k+2+1) V),1,false⟩)] KA (aW.cons (gJ (kT _ _).symm) aW.nil) (by simp [aa.put]) ?_
 simp only [SS,Nat.reduceAdd]
 simp only [SS,DD,Nat.reduceAdd,bh,Dp,QW,xu,xh,p1,p2,db QV,db llg,az,bm,f1,f2]
 refine ⟨by simp [ar], ?_⟩
 simp only [aC]
 refine VW.aab (α := Nat × List Nat × List Nat × List Nat × List Nat × Nat) (fun x=>⟨List.replicate 8 .top++[.int .i64 (s:Int), .osl [4,25] 1 0 (ah m+1) false,W V, .int .i64 ((k+2:Nat):Int), .osl [39] 1 0 L false, .int .u64 (hh:Int), .int .u64 (ll:Int), .int .i64 ((x.1:Int)-1)]++List.replicate 161 .top,
   aa.put (aa.put (fun _=>none) [4,25] (some ⟨us (x.2.1++x.2.2.1++x.2.2.2.1),1,false⟩)) [39] (some ⟨us (zs x.1++x.2.2.2.2.1),1,false⟩),x.2.2.2.2.2⟩)
   (fun x=>x.1+x.2.2.2.2.1.length=L/\x.2.1.length=x.1/\x.2.2.1.length=k+2/\x.1+(k+2)+x.2.2.2.1.length=ah m+1/\Wd x.2.1/\Wd x.2.2.1/\Wd x.2.2.2.2.1/\val x.2.2.1<V/\U=val x.2.1+au ^ x.1*(val x.2.2.2.2.1*V+val x.2.2.1)) (fun x=>x.1) (L,A0,R0,[],[],1000) ?_ ?_ ?_
 . refine Wk.forget (by simp [Fg,List.replicate]) (fun j => ?_) (by simp only [];omega)
   simp only [List.append_nil,aa.put,aa.app,rC,List.map_cons,List.map_nil,zs]
   by_cases e1:j=[39]
   . subst e1;simp
   . by_cases e2:j=[4,25]
     . subst e2;simp
     . simp [e1,e2]
 . refine ⟨by simp,Wb,hR0,by simp;omega,hAw.1,hAw.2,by intro w hw;simp at hw,QU, ?_⟩
   show U=val A0+au ^ L*(val []*V+val R0)
   rw [show val []=0 from rfl,Nat.zero_mul,Nat.zero_add];exact hU0
 rintro ⟨c,A,R,t,o,nn⟩ ⟨hc,hA,hR,Es,XM,XN,XO,IH,XP⟩
 simp only [] at hc hA hR Es XM XN XO IH XP
 rcases Nat.eq_zero_or_pos c with h0 | hcp
 . subst h0
   have d0:decide ((0:Int)<=((0:Nat):Int)-1)=false:=by decide
   refine VW.IM (VW.of ?_)
   simp only [SS,DD,Nat.reduceAdd,d0]
   obtain rfl:A=[]:=List.length_eq_zero_iff.1 hA
   have hU':m*2 ^ s=val o*(n*2 ^ s)+val R:=by
     rw [<- Ur, <- N7,XP]
     show val []+au ^ 0*_=_
     simp [val]
   obtain ⟨g1,g2,g3⟩:=ML tC hU' (N7▸IH)
   have hoL:L=o.length:=by omega
   have htq:=ht o XO (by omega)
   rw [g1] at htq
   have htR:=ht R XN (by omega)
   have hwR:ah (val R)<=1000000:=by rw [<- N7,Dp] at g3;omega
   have ady:=Er (G:=G) hsr (val R) s hwR hs
   have MM:VP P G ft [.sl 1 (us (pad (ah (val R)) (val R/2 ^ s)))] (W (m%n)):=by
     have e:=ht (pad (ah (val R)) (val R/2 ^ s)) (sb _ _) (by rw [kT];omega)
     rw [gq (Nat.lt_of_le_of_lt (Nat.div_le_self _ _) (cN _))] at e
     rw [<- g2];exact e
   have IQ:bU 1 (.osl [4,25] 1 0 (ah m+1) false) none (some (.int .i64 ((k+2:Nat):Int))) none=some (.osl [4,25] 1 0 (k+2) false):=Dn (by omega)
   rw [uk,List.nil_append,List.nil_append]
   refine Bx [([39],⟨us o,1,false⟩)] htq (aW.cons (gJ hoL) aW.nil) (by simp [aa.put]) ?_
   simp only [SS,DD,Nat.reduceAdd,IQ]
   refine Bx [([4,25],⟨us (R++t),1,false⟩)] htR (aW.cons (IP hR.symm) aW.nil) (by simp [aa.put,aa.app,rC]) ?_
   simp only [SS,DD,Nat.reduceAdd]
   refine ax ady (by simp [aJ,af.int]) ?_
   simp only [SS,DD,Nat.reduceAdd]
   refine ax MM (by simp [kS]) ?_
   simp only [SS,DD,Nat.reduceAdd]
   refine ⟨by simp [ar,apart,rC], ?_⟩
   exact ag▸ab rfl (af.tup (by intro c hc;simp at hc;rcases hc with rfl | rfl<;>exact aJ _))
 obtain ⟨i,rfl⟩:∃ i,c=i+1:=⟨c-1,by omega⟩
 have d0:decide ((0:Int)<=(i:Int))=true:=ao (by omega)
 have hj:((i+1:Nat):Int)-1=(i:Int):=by omega
 have Ce:IntKind.i64.wrap ((i:Int)-1)=(i:Int)-1:=by rw [IntKind.wrap_i64];omega
 refine VW.IM (VW.of ?_)
 simp only [SS,Nat.reduceAdd,hj,d0]
 obtain ⟨A',y,rfl,hA'⟩:=uu hA
 obtain ⟨b,B9⟩:∃ b,b=y::R:=⟨_,rfl⟩
 have eb:A'++[y]++R++t=A'++b++t:=by rw [B9];simp
 rw [eb]
 have XQ:y<au:=XM y (by simp)
 have XR:Wd A':=fun w hw=>XM w (by simp [hw])
 have wX:b.length=k+3:=by rw [B9];simp [hR]
 have G4:Wd b:=by
   intro w hw;rw [B9] at hw
   rcases List.mem_cons.1 hw with rfl | hw
   . exact XQ
   . exact XN w hw
 have hbv:val b=y+au*val R:=by rw [B9];rfl
 obtain ⟨Wc,Tm⟩:=Z9 XQ IH
 rw [<- hbv] at Wc Tm
 obtain ⟨x2,XS⟩:∃ z,b[k+2]? = some z:=⟨_,List.getElem?_eq_getElem (by omega)⟩
 obtain ⟨x1,Qw⟩:∃ z,b[k+1]? = some z:=⟨_,List.getElem?_eq_getElem (by omega)⟩
 obtain ⟨z0,Tj⟩:∃ z,b[k]? = some z:=⟨_,List.getElem?_eq_getElem (by omega)⟩
 have KB:=G4 x2 (List.mem_of_getElem? XS)
 have QX:=G4 x1 (List.mem_of_getElem? Qw)
 have QY:=G4 z0 (List.mem_of_getElem? Tj)
 obtain ⟨hD,YX⟩:=Z8 G4 wX XS Qw Tj
 rw [show x2*au+x1=au*x2+x1 from by rw [Nat.mul_comm]] at hD
 obtain ⟨num,Dq⟩:∃ z,z=au*x2+x1:=⟨_,rfl⟩
 rw [<- Dq] at hD
 have MN:num<18446744073709551616:=by rw [Dq];unfold au at *;omega
 have a1:=ny i (k+2) (by omega)
 have a2:IntKind.i64.wrap (((i+(k+2):Nat):Int)-1)=((i+(k+1):Nat):Int):=by rw [IntKind.wrap_i64];omega
 have a3:IntKind.i64.wrap (((i+(k+2):Nat):Int)-2)=((i+k:Nat):Int):=by rw [IntKind.wrap_i64];omega
 have a4:IntKind.i64.wrap (((i+(k+2):Nat):Int)+1)=((i+(k+3):Nat):Int):=by rw [IntKind.wrap_i64];omega
 have ia2:=cB (q:=[4,25]) (t:=false) (show i+(k+2)<ah m+1 by omega)
 have ia1:=cB (q:=[4,25]) (t:=false) (show i+(k+1)<ah m+1 by omega)
 have ia0:=cB (q:=[4,25]) (t:=false) (show i+k<ah m+1 by omega)
 have iaq:=cB (q:=[39]) (t:=false) (show i<L by omega)
 have IQ:bU 1 (.osl [4,25] 1 0 (ah m+1) false) (some (.int .i64 (i:Int))) (some (.int .i64 ((i+(k+3):Nat):Int))) none=some (.osl [4,25] 1 A'.length (ah V+1) false):=by
   rw [Fu (by omega) (by omega),hA',Dp]
   congr 2;omega
 generalize hσ : aa.put (aa.put (fun _=>none) [4,25] (some ⟨us (A'++b++t),1,false⟩)) [39] (some ⟨us (zs (i+1)++o),1,false⟩) = σ0
 have Us : σ0 [4,25]=some ⟨us (A'++b++t),1,false⟩:=by rw [<- hσ];simp [aa.put]
 have hσQ : σ0 [39]=some ⟨us (zs (i+1)++o),1,false⟩:=by rw [<- hσ];simp [aa.put]
 have ld2:=iL Us (ur (t:=t) hA' XS)
 have ld1:=iL Us (ur (t:=t) hA' Qw)
 have ld0:=iL Us (ur (t:=t) hA' Tj)
 have w2:=bn x2 KB
 have w1:=bn x1 QX
 have w0:=bn z0 QY
 have s2:=wh x2 KB
 have o2:=Dh x2 x1 KB QX
 rw [<- Dq] at o2
 have q1:=Di num hh MN (by omega)
 have r1:=Dj num hh (by omega)
 refine VW.IM (VW.QT (VW.IM (VW.of ?_)))
 simp only [SS,DD,Nat.reduceAdd,a1,a2,ia2,ia1,ld2,ld1,w2,w1,s2,o2]
 refine ⟨by simp [ar],VW.IM (VW.of ?_)⟩
 simp only [SS,DD,Nat.reduceAdd,q1,r1]
 refine ⟨by simp [ar],VW.IM (VW.QT ?_)⟩
 have aak:num/hh*hh+num%hh=num:=by rw [Nat.mul_comm];exact Nat.div_add_mod num hh
 have Gy:=IJ YY XL hD QY YX
 refine VW.mono (Q:=fun e s'=>∃ q n2,e = .exit 3/\(q<au/\val b/V<=q/\q<=val b/V+1)/\Wk G [] s' ⟨List.replicate 8 .top++[.int .i64 (s:Int), .osl [4,25] 1 0 (ah m+1) false,W V, .int .i64 ((k+2:Nat):Int), .osl [39] 1 0 L false, .int .u64 (hh:Int), .int .u64 (ll:Int), .int .i64 (i:Int), .top, .int .u64 (q:Int)]++List.replicate 159 .top, σ0,n2⟩) ?_ ?_
 . refine VW.bJ (α := Nat × Nat × Nat) (fun x=>⟨List.replicate 8 .top++[.int .i64 (s:Int), .osl [4,25] 1 0 (ah m+1) false,W V, .int .i64 ((k+2:Nat):Int), .osl [39] 1 0 L false, .int .u64 (hh:Int), .int .u64 (ll:Int), .int .i64 (i:Int), .top, .int .u64 (x.1:Int), .int .u64 (x.2.1:Int)]++List.replicate 158 .top, σ0,x.2.2⟩)
     (fun x=>x.1*hh+x.2.1=num/\val b/V<=x.1/\x.2.1<au/\x.1<18446744073709551616) (fun x=>x.1) (num/hh,num%hh,nn+1000) ?_ ?_ ?_
   . exact Wk.slots (by simp [Fg,List.replicate]) (by simp only [];omega)
   . exact ⟨aak,Gy,Nat.lt_trans (Nat.mod_lt _ YY) hhB,Nat.lt_of_le_of_lt (Nat.div_le_self _ _) MN⟩
   rintro ⟨q,r,n3⟩ ⟨Hc,hle,D4,adD⟩
   simp only [] at Hc hle D4 adD
   have d1:au<=q->decide ((4294967296:Int)<=(q:Int))=true:=fun h=>ao (by unfold au at h;omega)
   have d2 : ¬ au<=q->decide ((4294967296:Int)<=(q:Int))=false:=fun h=>ak (by unfold au at h;omega)
   have d3:au<=r+hh->decide ((4294967296:Int)<=((r+hh:Nat):Int))=true:=fun h=>ao (by unfold au at h;omega)
   have d4 : ¬ au<=r+hh->decide ((4294967296:Int)<=((r+hh:Nat):Int))=false:=fun h=>ak (by unfold au at h;omega)
   have d5:au*r+z0<q*ll->decide (((au*r+z0:Nat):Int)<((q*ll:Nat):Int))=true:=fun h=>ao (by omega)
   have d6 : ¬ au*r+z0<q*ll->decide (((au*r+z0:Nat):Int)<((q*ll:Nat):Int))=false:=fun h=>ak (by omega)
   have m1 : ¬ au<=q->IntKind.u64.wrap ((q:Int)*(ll:Int))=((q*ll:Nat):Int):=fun h=>MD q ll (by omega) llB
   have s3:=wh r D4
   have o3:=Dh r z0 D4 QY
   have p3:=oO r hh (by unfold au at *;omega)
   have Hm:=fun ht=>XD (q:=q) (r:=r) llB YW YX YY XL hD Wc Tm Hc hle ht
   have mo : ¬ au<=q->q*ll<=r*au+z0->q<=val b/V+1:=fun h1 h2=>MJ YY XL hD YW (by omega) Hc h2
   have Lt:r*au=au*r:=Nat.mul_comm _ _
   rw [Lt] at Hm mo
   have pq:1<=q->IntKind.u64.wrap ((q:Int)-1)=((q-1:Nat):Int):=fun h=>by rw [IntKind.wrap_u64];omega
   have V5:q-1<18446744073709551616:=by omega
   have hmq:1<=q->q-1<q:=fun h=>by omega
   have hrh : ¬ au<=r+hh->r+hh<au:=fun h=>by omega
   by_cases cq:au<=q
   . obtain ⟨k1,k2,k3,k4⟩:=Hm (.inl cq)
     by_cases cr:au<=r+hh
     . simp only [SS,Nat.reduceAdd,d1 cq,pq k1,p3,d3 cr]
       exact ⟨q-1,_,trivial,⟨(k4 cr).1,k2,(k4 cr).2⟩,Wk.slots (by simp [Fg]) (Nat.le_refl _)⟩
     . simp only [SS,Nat.reduceAdd,d1 cq,pq k1,p3,d4 cr]
       exact ⟨(q-1,r+hh,_),⟨k3,k2,hrh cr,V5⟩,hmq k1,Wk.slots (by simp [Fg]) (Nat.le_refl _)⟩
   . by_cases ct:au*r+z0<q*ll
     . obtain ⟨k1,k2,k3,k4⟩:=Hm (.inr ct)
       by_cases cr:au<=r+hh
       . simp only [SS,Nat.reduceAdd,d2 cq,m1 cq,s3,a1,a3,ia0,ld0,w0,o3,d5 ct,pq k1,p3,d3 cr]
         exact ⟨q-1,_,trivial,⟨(k4 cr).1,k2,(k4 cr).2⟩,Wk.slots (by simp [Fg]) (Nat.le_refl _)⟩
       . simp only [SS,Nat.reduceAdd,d2 cq,m1 cq,s3,a1,a3,ia0,ld0,w0,o3,d5 ct,pq k1,p3,d4 cr]
         exact ⟨(q-1,r+hh,_),⟨k3,k2,hrh cr,V5⟩,hmq k1,Wk.slots (by simp [Fg]) (Nat.le_refl _)⟩
     . have hp:=mo cq (by omega)
       have adE:q<au:=by omega
       simp only [SS,Nat.reduceAdd,d2 cq,m1 cq,s3,a1,a3,ia0,ld0,w0,o3,d6 ct]
       exact ⟨q,_,trivial,⟨adE,hle,hp⟩,Wk.slots (by simp [Fg]) (Nat.le_refl _)⟩
 rintro e s' ⟨q,n2,rfl,⟨hqB,hle,Wa⟩,hw⟩
 simp only [wM,if_true,qY]
 refine VW.cut hw ?_
 have xK:=IA (G:=G) hsu (id:=[4,25]) (a:=A') (b:=b) (t:=t) (v:=V) (q:=q) (tight:=false) (by omega) (by omega) G4 hqB
 have BP:=Ku (G:=G) hre (id:=[4,25]) (a:=A') (b:=pad (ah V+1) (val b+au ^ (ah V+1)-q*V)) (t:=t) (v:=V) (tight:=false) (by omega) (kT _ _) (sb _ _)
 have hVB:V<au ^ (k+2):=hV
 have Fv:val b%V<V:=Nat.mod_lt _ Tl
 have MO:val b%V<au ^ (k+2):=Nat.lt_trans Fv hVB
 simp only [SS,Nat.reduceAdd,a1,a4,IQ]
 refine ⟨[([4,25],⟨us (A'++b++t),1,false⟩)],_,xK _,by simp [Us],by simp, ?_⟩
 have hqL:i<(zs (i+1)++o).length:=by simp [zs];omega
 have uW:val b=val b/V*V+val b%V:=by have:=Nat.div_add_mod (val b) V;rw [Nat.mul_comm] at this;omega
 have hUn:U=val A'+au ^ i*(val (val b/V::o)*V+val (pad (k+2) (val b%V))):=by
   rw [gq MO]
   refine IK (x:=y) (R:=val R) (O:=val o) ?_ (by rw [<- hbv];exact uW)
   rw [XP,cv,hA']
   simp only [val,Nat.mul_zero,Nat.add_zero]
 have uT:i+(val b/V::o).length=L/\A'.length=i/\(pad (k+2) (val b%V)).length=k+2/\i+(k+2)+(0::t).length=ah m+1/\Wd A'/\Wd (pad (k+2) (val b%V))/\Wd (val b/V::o)/\val (pad (k+2) (val b%V))<V/\U=val A'+au ^ i*(val (val b/V::o)*V+val (pad (k+2) (val b%V))):=by
   refine ⟨by simp;omega,hA',kT _ _,by simp;omega,XR,sb _ _, ?_,by rw [gq MO];exact Fv,hUn⟩
   intro w hw
   rcases List.mem_cons.1 hw with rfl | hw
   . exact Tm
   . exact XO w hw
 have Ti:IntKind.u32.wrap ((val b/V:Nat):Int)=((val b/V:Nat):Int):=by rw [uQ,Nat.mod_eq_of_lt Tm]
 have VC:((i:Nat):Int)-1=(((i:Nat):Int)-1):=rfl
 rcases XB Tl hle Wa with ⟨hlt,Ut⟩ | ⟨tk,Ut⟩
 . have dn:decide (val b<q*V)=true:=ao hlt
   have pq:=XF Ut hqB
   have YN:pad (ah V+1) (val (pad (ah V+1) (val b+au ^ (ah V+1)-q*V))+V)=pad (k+2) (val b%V)++[0]:=by
     rw [Dp];exact QS Tl MO hVB Ut
   have ef:A'++(pad (k+2) (val b%V)++[0])++t=A'++pad (k+2) (val b%V)++(0::t):=by simp
   rw [YN,ef] at BP
   simp only [SS,Nat.reduceAdd,dn,pq,a1,a4,IQ]
   refine ⟨[([4,25],⟨us (A'++pad (ah V+1) (val b+au ^ (ah V+1)-q*V)++t),1,false⟩)],_,BP _,by simp [aa.put],by simp, ?_⟩
   simp only [SS,Nat.reduceAdd,Ti,iaq]
   rw [bR (o:=zs (i+1)++o) (by simp [aa.put,hσQ]) hqL,wi]
   simp only [SS,Nat.reduceAdd]
   refine VW.of ?_
   simp only [SS,Nat.reduceAdd,Ce]
   refine ⟨(i,A',pad (k+2) (val b%V),0::t,val b/V::o,_),uT,Nat.lt_succ_self i,Wk.forget (by simp [Fg]) (fun j => ?_) (Nat.le_refl _)⟩
   by_cases e1:j=[39]
   . subst e1;simp [aa.put]
   . by_cases e2:j=[4,25]
     . subst e2;simp [aa.put]
     . simp [aa.put,e1,e2]
 . have dn:decide (val b<q*V)=false:=ak (by omega)
   have YN:pad (ah V+1) (val b+au ^ (ah V+1)-q*V)=pad (k+2) (val b%V)++[0]:=by
     rw [Dp];exact QR MO Ut
   have ef:A'++(pad (k+2) (val b%V)++[0])++t=A'++pad (k+2) (val b%V)++(0::t):=by simp
   rw [YN,ef]
   simp only [SS,Nat.reduceAdd,dn]
   rw [Ut]
   simp only [SS,Nat.reduceAdd,Ti,iaq]
   rw [bR (o:=zs (i+1)++o) (by simp [aa.put,hσQ]) hqL,wi]
   simp only [SS,Nat.reduceAdd]
   refine VW.of ?_
   simp only [SS,Nat.reduceAdd,Ce]
   refine ⟨(i,A',pad (k+2) (val b%V),0::t,val b/V::o,_),uT,Nat.lt_succ_self i,Wk.forget (by simp [Fg]) (fun j => ?_) (Nat.le_refl _)⟩
   by_cases e1:j=[39]
   . subst e1;simp [aa.put]
   . by_cases e2:j=[4,25]
     . subst e2;simp [aa.put]
     . simp [aa.put,e1,e2]
end
end Go.VL
end

section
set_option linter.unusedVariables false
namespace Go.VL
theorem aal (neg:Bool) (n:Nat):IV (jD neg n) = .agg [.bool (neg&&decide (0<n)),W n]:=by
 cases neg
 . simp only [IV,jD];simp<;>omega
 . simp only [IV,jD];simp<;>omega
theorem Uu (σ : aa) (id:Id) (k:Nat) (b:Bool) (n:Nat):eL (σ.put id (some ⟨[.agg [.bool false, .nils]],k,false⟩)) 2 (.ref id 0 0) (.agg [.bool b,W n])=some { val := .tup [],rd:=[id],up:=[(id,some ⟨[.agg [.bool b,W n]],k,false⟩)] }:=by
 rw [cA (n:=2) (v := .agg [.bool b,W n]) (els:=[.agg [.bool false, .nils]]) (k:=k) (aa.a8 _ _ _) rfl rfl (by simp [AV.size,AV.cells]) rfl]
 rfl
theorem QZ {n:Nat}:0<ah n↔0<n:=by have:=bE (n:=n);omega
section
variable {P:Program} {G:Nat->Option (List AV)}
theorem KC {f ft:FuncId} (h:Has P f (jr ft)) (ht:gU P G ft):jh P G f:=fun neg n hn=>by
 refine VP.has h ?_
 simp only [jr,SS,Nat.reduceAdd,cx]
 refine aj (qm ht n hn) (by simp [aJ]) ?_
 have e:∀ b,py [.bool false, .nils] [(0,(1, .bool b)),(1,(1,W n))]=some [.bool b,W n]:=fun _=>rfl
 have dd:decide ((0:Int)<(ah n:Int))=decide (0<n):=by
   have:=QZ (n:=n)
   by_cases h0:0<n
   . rw [ao h0,ao (by omega)]
   . rw [ak h0,ak (by omega)]
 rw [aal]
 cases neg <;>
 . simp only [SS,Nat.reduceAdd,bh,dd,e,Uu,Bool.true_and,Bool.false_and]
   refine ag▸ab ?_ (af.agg (by intro c hc;simp at hc;rcases hc with rfl | rfl;exact af.bool _;exact aJ _))
   simp only [RS,bP,cu,ae];rfl
theorem Q0 {f fs:FuncId} (h:Has P f (kG fs)) (hs:jh P G fs) (z:Int) (hz:ah z.natAbs<=1000000):VP P G f [IV z] (IV z):=by
 refine VP.has h ?_
 have l8:=hs (decide (z<0)) z.natAbs (by omega)
 rw [Dk] at l8
 have eE:([0]:List Nat)≠[1]:=by decide
 simp only [kG,SS,Nat.reduceAdd,ia,cx,ai eE,ae,jI,iu]
 refine aj l8 (by simp [af.bool,aJ]) ?_
 simp only [SS,Nat.reduceAdd,gy]
 refine ag▸ab (r:=IV z) ?_ (aF _)
 simp only [RS,bP,cu,ae];rfl
theorem Uv {f fs:FuncId} (h:Has P f (lg fs)) (hs:jh P G fs) (z:Int) (hz:ah z.natAbs<=1000000):VP P G f [IV z] (IV (-z)):=by
 refine VP.has h ?_
 have l8:=hs (!decide (z<0)) z.natAbs (by omega)
 rw [MF] at l8
 have eE:([0]:List Nat)≠[1]:=by decide
 simp only [lg,SS,Nat.reduceAdd,ia,cx,ai eE,ae,jI,iu]
 refine aj l8 (by simp [af.bool,aJ]) ?_
 simp only [SS,Nat.reduceAdd,gy]
 refine ag▸ab (r:=IV (-z)) ?_ (aF _)
 simp only [RS,bP,cu,ae];rfl
theorem N8 {f fn:FuncId} (h:Has P f (kJ fn)) (hn:∀ z:Int,ah z.natAbs<=1000000->VP P G fn [IV z] (IV z)) (z:Int) (hz:ah z.natAbs<=1000000):VP P G f [IV z] (.int .i64 z.sign):=by
 refine VP.has h ?_
 have hl:ah z.natAbs=0↔z=0:=by rw [bE];omega
 simp only [kJ,SS,Nat.reduceAdd,ia,ae,cp]
 refine aj (hn z hz) (by simp [aF]) ?_
 simp only [SS,Nat.reduceAdd]
 rw [bB (k:=(IV z).size) (y:=IV z) rfl (sc _ _) (by simp [aa.put])]
 simp only [SS,Nat.reduceAdd,ae,iu,bh]
 by_cases h0:z=0
 . have d0:decide ((ah z.natAbs:Int)=0)=true:=ao (by have:=hl.2 h0;omega)
   simp only [SS,Nat.reduceAdd,d0]
   rw [h0]
   exact ag▸ab rfl (af.int _ _)
 . have d0:decide ((ah z.natAbs:Int)=0)=false:=ak (by have:=fun e=>h0 (hl.1 e);omega)
   by_cases hn:z<0
   . have d1:decide (z<0)=true:=ao hn
     simp only [SS,Nat.reduceAdd,d0,ae,jI,d1]
     rw [Int.sign_eq_neg_one_of_neg hn]
     exact ag▸ab rfl (af.int _ _)
   . have d1:decide (z<0)=false:=ak hn
     simp only [SS,Nat.reduceAdd,d0,ae,jI,d1]
     rw [Int.sign_eq_one_of_pos (by omega)]
     exact ag▸ab rfl (af.int _ _)
theorem N9 {f fu fs:FuncId} (h:Has P f (iV fu fs)) (hu:∀ n,n<18446744073709551616->VP P G fu [.int .u64 ((n:Nat):Int)] (W n)) (hs:jh P G fs) (a:Int) (h1 : -9223372036854775808<=a) (h2:a<9223372036854775808):VP P G f [.int .i64 a] (IV a):=by
 refine VP.has h ?_
 have hsz:=nY a.natAbs (by omega)
 have l8:=hs (decide (a<0)) a.natAbs (by omega)
 rw [Dk] at l8
 have JW:=hu a.natAbs (by omega)
 simp only [iV,SS,Nat.reduceAdd,cx]
 by_cases hn:a<0
 . have d1:decide (a<0)=true:=ao hn
   rw [d1] at l8
   have e1:IntKind.u64.wrap (0-(IntKind.u64.wrap a))=(a.natAbs:Int):=by rw [IntKind.wrap_u64,IntKind.wrap_u64];omega
   simp only [SS,Nat.reduceAdd,d1,e1]
   refine aj JW (by simp [af.int]) ?_
   simp only [SS,Nat.reduceAdd]
   refine aj l8 (by simp [af.bool,aJ]) ?_
   simp only [SS,Nat.reduceAdd,gy]
   refine ag▸ab (r:=IV a) ?_ (aF _)
   simp only [RS,bP,cu,ae];rfl
 . have d1:decide (a<0)=false:=ak hn
   rw [d1] at l8
   have e1:IntKind.u64.wrap a=(a.natAbs:Int):=by rw [IntKind.wrap_u64];omega
   simp only [SS,Nat.reduceAdd,d1,e1]
   refine aj JW (by simp [af.int]) ?_
   simp only [SS,Nat.reduceAdd]
   refine aj l8 (by simp [af.bool,aJ]) ?_
   simp only [SS,Nat.reduceAdd,gy]
   refine ag▸ab (r:=IV a) ?_ (aF _)
   simp only [RS,bP,cu,ae];rfl
end
end Go.VL
end

section
set_option linter.unusedVariables false
namespace Go.VL
theorem xB {ds:List Nat} {j a:Nat} (h:ds[j]? = some a):val (ds.drop j)=a+au*val (ds.drop (j+1)):=by
 obtain ⟨h1,h2⟩:=List.getElem?_eq_some_iff.1 h
 rw [List.drop_eq_getElem_cons h1,h2];rfl
theorem Uw {ds:List Nat} (h:Wd ds) (k:Nat):Wd (ds.drop k):=fun w hw=>h w (List.mem_of_mem_drop hw)
section
variable {P:Program} {G:Nat->Option (List AV)}
theorem Q1 {f:FuncId} (h:Has P f j6) (n:Nat) (hn:n<18446744073709551616):VP P G f [W n] (.int .u64 (n:Int)):=by
 refine VP.has h ?_
 have hwn:=nY n hn
 have Xo:IntKind.i64.wrap ((ah n:Int)-1)=(ah n:Int)-1:=by rw [IntKind.wrap_i64];omega
 simp only [j6,SS,Nat.reduceAdd,bh,Xo,aC]
 refine VW.bJ (α := Nat × Nat × Nat) (fun x=>⟨[W n, .top, .top, .int .u64 (x.2.2:Int), .int .i64 ((x.1:Int)-1)]++List.replicate 16 .top,fun _=>none,x.2.1⟩)
   (fun x=>x.1<=ah n/\x.2.2=val ((digits n).drop x.1)) (fun x=>x.1) (ah n,1000,0) ?_ ?_ ?_
 . exact Wk.slots (by simp [Fg,List.replicate]) (by simp only [];omega)
 . refine ⟨Nat.le_refl _, ?_⟩
   show 0=val ((digits n).drop (ah n))
   rw [List.drop_eq_nil_of_le (show (digits n).length<=ah n from Nat.le_refl _)];rfl
 rintro ⟨k,nn,r⟩ ⟨hk,hv⟩
 simp only [] at hk hv
 by_cases h0:k=0
 . subst h0
   have d0:decide ((0:Int)<=((0:Nat):Int)-1)=false:=by decide
   rw [List.drop_zero,aI] at hv
   subst hv
   simp only [SS,Nat.reduceAdd,d0]
   exact ag▸ab rfl (af.int _ _)
 . obtain ⟨j,rfl⟩:∃ j,k=j+1:=⟨k-1,by omega⟩
   have d0:decide ((0:Int)<=(j:Int))=true:=ao (by omega)
   have hj:((j+1:Nat):Int)-1=(j:Int):=by omega
   have ME:IntKind.i64.wrap ((j:Int)-1)=(j:Int)-1:=by rw [IntKind.wrap_i64];omega
   obtain ⟨a,ha⟩:∃ a,(digits n)[j]? = some a:=⟨_,List.getElem?_eq_getElem (show j<ah n by omega)⟩
   have uj:=aO n a (List.mem_of_getElem? ha)
   have f1:=bn a uj
   have D4:r<au:=by
     have h1:=lC (Uw (aO n) (j+1))
     rw [<- hv,List.length_drop] at h1
     have h2:au ^ ((digits n).length-(j+1))<=au ^ 1:=Nat.pow_le_pow_right cV (by show ah n-(j+1)<=1;omega)
     rw [Nat.pow_one] at h2;omega
   have f2:=wh r D4
   have f3:=Dh r a D4 uj
   have hv':au*r+a=val ((digits n).drop j):=by rw [xB ha,hv,Nat.add_comm]
   have ZY:j<=ah n:=by omega
   simp only [SS,Nat.reduceAdd,d0,hj,db ha,az,bm,f1,f2,f3,ME]
   exact ⟨(j,_,au*r+a),⟨ZY,hv'⟩,Nat.lt_succ_self j,Wk.slots (by simp [Fg]) (Nat.le_refl _)⟩
theorem IU {f:FuncId} (h:Has P f iW) (m n:Nat) (hm:ah m<=1000000) (_hn:ah n<=1000000):VP P G f [W m,W n] (.int .i64 (gp m n)):=by
 refine VP.has h ?_
 simp only [iW,SS,Nat.reduceAdd,bh]
 by_cases hl:ah m=ah n
 case neg =>
   have d:decide ((ah m:Int)≠(ah n:Int))=true:=ao (by omega)
   rcases Nat.lt_or_ge (ah m) (ah n) with h1 | h1
   . have h2:=ui h1
     have d1:decide ((ah m:Int)<(ah n:Int))=true:=ao (by omega)
     have e:gp m n = -1-0:=by unfold gp;rw [wP (by omega)];rfl
     rw [e]
     simp only [SS,Nat.reduceAdd,bh,d,d1]
     exact ag▸ab rfl (af.int _ _)
   . have Lm:ah n<ah m:=by omega
     have h2:=ui Lm
     have d1:decide ((ah m:Int)<(ah n:Int))=false:=ak (by omega)
     have e:gp m n=1:=by unfold gp;rw [wQ (by omega)]
     rw [e]
     simp only [SS,Nat.reduceAdd,bh,d,d1]
     exact ag▸ab rfl (af.int _ _)
 have d:decide ((ah m:Int)≠(ah n:Int))=false:=ak (by omega)
 have ew:IntKind.i64.wrap ((ah m:Int)-1)=(ah m:Int)-1:=by rw [IntKind.wrap_i64];omega
 have hd0:(digits m).drop (ah m)=(digits n).drop (ah m):=by
   have e1:(digits m).drop (ah m)=[]:=List.drop_of_length_le (Nat.le_refl _)
   have e2:(digits n).drop (ah m)=[]:=List.drop_of_length_le (by show ah n<=ah m;omega)
   rw [e1,e2]
 simp only [SS,Nat.reduceAdd,bh,d,ew,aC]
 refine VW.bJ (α := Nat × Nat) (fun x=>⟨[W m,W n, .top, .top, .top, .int .i64 ((x.1:Int)-1)]++List.replicate 35 .top,fun _=>none,x.2⟩) (fun x=>x.1<=ah m/\(digits m).drop x.1=(digits n).drop x.1) (fun x=>x.1) (ah m,1000) ?_
   ⟨Nat.le_refl _,hd0⟩ ?_
 . exact Wk.slots (by simp [Fg,List.replicate]) (by simp only [];omega)
 rintro ⟨j,q⟩ ⟨hj,hd⟩
 simp only [] at hj hd
 simp only [SS,Nat.reduceAdd]
 by_cases h0:j=0
 . subst h0
   have d0:decide ((0:Int)<=((0:Nat):Int)-1)=false:=by decide
   simp only [SS,d0]
   have e:m=n:=by
     simp only [List.drop_zero] at hd
     rw [<- aI m,hd,aI]
   have e2:gp m n=0:=Gq (by omega)
   rw [e2]
   exact ag▸ab rfl (af.int _ _)
 . have oy:0<j:=Nat.pos_of_ne_zero h0
   have d0:decide ((0:Int)<=((j-1:Nat):Int))=true:=ao (by omega)
   have ej:(j:Int)-1=((j-1:Nat):Int):=by omega
   have Xi:j-1<(digits m).length:=by show j-1<ah m;omega
   have J0:j-1<(digits n).length:=by show j-1<ah n;omega
   have ew2:IntKind.i64.wrap (((j-1:Nat):Int)-1)=((j-1:Nat):Int)-1:=by rw [IntKind.wrap_i64];omega
   obtain ⟨x,hx⟩:∃ x,(digits m)[j-1]? = some x:=⟨_,List.getElem?_eq_getElem Xi⟩
   obtain ⟨y,hy⟩:∃ y,(digits n)[j-1]? = some y:=⟨_,List.getElem?_eq_getElem J0⟩
   have Tb:(digits m).drop (j-1+1)=(digits n).drop (j-1+1):=by rw [show j-1+1=j from by omega];exact hd
   rcases Nat.lt_trichotomy x y with h1 | h1 | h1
   . have e:gp m n = -1-0:=by
       have:=Cf (aO m) (aO n) hl hx hy Tb h1
       rw [aI,aI] at this
       unfold gp;rw [wP (by omega)];rfl
     have d1:decide ((x:Int)<(y:Int))=true:=ao (by omega)
     rw [e]
     simp only [SS,DD,Nat.reduceAdd,d0,ej,db hx,db hy,az,bm,d1]
     refine ⟨by simp [ar], ?_⟩
     exact ag▸ab rfl (af.int _ _)
   . have d1:decide ((x:Int)<(y:Int))=false:=ak (by omega)
     have d2:decide ((y:Int)<(x:Int))=false:=ak (by omega)
     simp only [SS,DD,Nat.reduceAdd,d0,ej,db hx,db hy,az,bm,d1]
     refine ⟨by simp [ar], ?_⟩
     simp only [SS,Nat.reduceAdd,d2,ew2]
     refine ⟨by simp [ar],(j-1,_),⟨by simp only [];omega, ?_⟩,by simp only [];omega,Wk.slots (by simp [Fg]) (Nat.le_refl _)⟩
     simp only []
     rw [List.drop_eq_getElem_cons Xi,List.drop_eq_getElem_cons J0,Tb]
     obtain ⟨_,Lm⟩:=List.getElem?_eq_some_iff.1 hx
     obtain ⟨_,Vx⟩:=List.getElem?_eq_some_iff.1 hy
     rw [Lm,Vx,h1]
   . have e:gp m n=1:=by
       have:=Cf (aO n) (aO m) hl.symm hy hx Tb.symm h1
       rw [aI,aI] at this
       unfold gp;rw [wQ (by omega)]
     have d1:decide ((x:Int)<(y:Int))=false:=ak (by omega)
     have d2:decide ((y:Int)<(x:Int))=true:=ao (by omega)
     rw [e]
     simp only [SS,DD,Nat.reduceAdd,d0,ej,db hx,db hy,az,bm,d1]
     refine ⟨by simp [ar], ?_⟩
     simp only [SS,d2]
     refine ⟨by simp [ar], ?_⟩
     exact ag▸ab rfl (af.int _ _)
end
end Go.VL
end

section
set_option linter.unusedVariables false
namespace Go.VL
theorem wT {x y c:Nat} (hx:x<au) (hy:y<au) (hc:c<=1):∃ w c':Nat,w<au/\c'<=1/\w+y+c=x+au*c' /\
   (∃ d:Nat,IntKind.u64.wrap (IntKind.u64.wrap (IntKind.u64.wrap ((x:Int)+4294967296)-(y:Int))-(c:Int))=(d:Int)/\IntKind.u32.wrap (d:Int)=(w:Int)/\IntKind.u64.wrap (1-((d/au:Nat):Int))=(c':Int)):=by
 have h1:IntKind.u64.wrap ((x:Int)+4294967296)=((x+4294967296:Nat):Int):=by rw [IntKind.wrap_u64];unfold au at *;omega
 have h2:IntKind.u64.wrap (((x+4294967296:Nat):Int)-(y:Int))=((x+4294967296-y:Nat):Int):=by rw [IntKind.wrap_u64];unfold au at *;omega
 have h3:IntKind.u64.wrap (((x+4294967296-y:Nat):Int)-(c:Int))=((x+4294967296-y-c:Nat):Int):=by rw [IntKind.wrap_u64];unfold au at *;omega
 rw [h1,h2,h3]
 unfold au at *
 by_cases h:y+c<=x
 . refine ⟨x-y-c,0,by omega,by omega,by omega,_,rfl, ?_, ?_⟩
   . rw [IntKind.wrap_u32];omega
   . rw [IntKind.wrap_u64];omega
 . refine ⟨x+4294967296-y-c,1,by omega,by omega,by omega,_,rfl, ?_, ?_⟩
   . rw [IntKind.wrap_u32];omega
   . rw [IntKind.wrap_u64];omega
section
variable {P:Program} {G:Nat->Option (List AV)}
set_option maxHeartbeats 1000000 in
theorem Q2 {f ft:FuncId} (h:Has P f (kH ft)) (ht:gU P G ft) (m n:Nat) (hm:ah m<=1000000) (hn:ah n<=1000000):VP P G f [W m,W n] (W (m+n)):=by
 refine VP.has h ?_
 simp only [kH,SS,Nat.reduceAdd,bh]
 by_cases Q3:(¬ ah m<ah n)
 . have d0:decide ((ah m:Int)<(ah n:Int))=false:=by first | exact ao (by omega) | exact ak (by omega)
   have hL:=ny (ah m) 1 (by omega)
   have hL':IntKind.i64.wrap ((ah m:Int)+1)=((ah m+1:Nat):Int):=hL
   have xh:∀ p:Id,kX p 1 4 (.int .u32 0) (.int .i64 ((ah m+1:Nat):Int)) (.int .i64 ((ah m+1:Nat):Int))=some { val := .osl p 1 0 (ah m+1) false,up:=[(p,some ⟨us (List.replicate (ah m+1) 0),1,false⟩)] }:=fun p=>mD (by omega)
   simp only [SS,Nat.reduceAdd,bh,d0,hL',xh,aC]
   refine VW.bJ (α := Nat × Nat × List Nat × Nat) (fun x=>⟨[W m,W n, .top, .top, .top, .osl [9] 1 0 (ah m+1) false, .int .u64 (x.2.2.2:Int), .int .i64 (x.1:Int)]++List.replicate 50 .top,
     aa.put (fun _=>none) [9] (some ⟨us (x.2.2.1++zs (ah m+1-x.1)),1,false⟩),x.2.1⟩)
     (fun x=>x.1<=ah m/\x.2.2.1.length=x.1/\Wd x.2.2.1/\x.2.2.2<=1/\val x.2.2.1+au ^ x.1*x.2.2.2=val ((digits m).take x.1)+val ((digits n).take x.1)) (fun x=>ah m-x.1) (0,1000,[],0) ?_ ?_ ?_
   . exact Wk.slots (by simp [Fg,List.replicate]) (by simp only [];omega)
   . exact ⟨Nat.zero_le _,rfl,by intro w hw;simp at hw,Nat.zero_le _,by simp [val]⟩
   rintro ⟨i,nn,o,c⟩ ⟨hi,ho,hwd,hc,hv⟩
   simp only [] at hi ho hwd hc hv
   have qD:i<ah m->decide ((i:Int)<(ah m:Int))=true:=fun h=>ao (by omega)
   have tE : ¬ i<ah m->decide ((i:Int)<(ah m:Int))=false:=fun h=>ak (by omega)
   have Iv:i<ah n->decide ((i:Int)<(ah n:Int))=true:=fun h=>ao (by omega)
   have Iw : ¬ i<ah n->decide ((i:Int)<(ah n:Int))=false:=fun h=>ak (by omega)
   have dt : ¬ i<ah m->i=ah m:=by omega
   have rb:=aq i (by omega)
   have l7:i<ah m->i+1<=ah m/\ah m-(i+1)<ah m-i:=fun h=>by omega
   have iA:=cB (q:=[9]) (t:=false) (show i<ah m+1 by omega)
   obtain ⟨k,hk⟩:∃ k,ah m+1-i=k+1:=⟨ah m-i,by omega⟩
   have Bd:ah m+1-(i+1)=k:=by omega
   have mU:i<(o++0::zs k).length:=by simp;omega
   by_cases hlt:i<ah m
   . obtain ⟨x,hx⟩:∃ x,(digits m)[i]? = some x:=⟨_,List.getElem?_eq_getElem hlt⟩
     have qE:=aO m x (List.mem_of_getElem? hx)
     have f1:=bn x qE
     have f2:=oO c x (by unfold au at qE;omega)
     by_cases hb:i<ah n
     . obtain ⟨y,hy⟩:∃ y,(digits n)[i]? = some y:=⟨_,List.getElem?_eq_getElem hb⟩
       have AR:=aO n y (List.mem_of_getElem? hy)
       have f3:=bn y AR
       have f4:=oO (c+x) y (by unfold au at qE AR;omega)
       have hst:=mi (x:=x) (y:=y) ho hv rfl
       have hc':(c+x+y)/au<=1:=by unfold au at *;omega
       simp only [SS,Nat.reduceAdd,bh,qD hlt,db hx,az,bm,f1,f2,Iv hb,db hy,f3,f4,iA,uQ,hk,iM]
       rw [bR (o:=o++0::zs k) (by simp [aa.put]) mU,fA _ _ _ _ ho]
       simp only [SS,Nat.reduceAdd,nM,rb]
       refine ⟨(i+1,_,o++[(c+x+y)%au],(c+x+y)/au),⟨(l7 hlt).1,by simp [ho],ot hwd _,hc', ?_⟩,(l7 hlt).2,Wk.forget (by simp [Fg]) (fun j => ?_) (Nat.le_refl _)⟩
       . show val (o++[(c+x+y)%au])+_=val ((digits m).take (i+1))+val ((digits n).take (i+1))
         rw [aE hx,aE hy];exact hst
       . simp only [aa.put,Bd];split<;>simp
     . have hst:=mi (x:=x) (y:=0) ho hv rfl
       rw [Nat.mul_zero,Nat.add_zero,Nat.add_zero] at hst
       have hc':(c+x)/au<=1:=by unfold au at *;omega
       simp only [SS,Nat.reduceAdd,bh,qD hlt,db hx,az,bm,f1,f2,Iw hb,iA,uQ,hk,iM]
       rw [bR (o:=o++0::zs k) (by simp [aa.put]) mU,fA _ _ _ _ ho]
       simp only [SS,Nat.reduceAdd,nM,rb]
       refine ⟨(i+1,_,o++[(c+x)%au],(c+x)/au),⟨(l7 hlt).1,by simp [ho],ot hwd _,hc', ?_⟩,(l7 hlt).2,Wk.forget (by simp [Fg]) (fun j => ?_) (Nat.le_refl _)⟩
       . show val (o++[(c+x)%au])+_=val ((digits m).take (i+1))+val ((digits n).take (i+1))
         rw [aE hx,ja (show (digits n).length<=i from by show ah n<=i;omega)];exact hst
       . simp only [aa.put,Bd];split<;>simp
   . have ou:=dt hlt
     have hcB:c<au:=by unfold au;omega
     have f5:IntKind.u32.wrap (c:Int)=(c:Int):=by rw [uQ,Nat.mod_eq_of_lt hcB]
     have XT:=cB (q:=[9]) (t:=false) (show ah m<ah m+1 by omega)
     have J4:k=0:=by omega
     have uI:ah m<(o++0::zs k).length:=by simp;omega
     have e1:(digits m).take (ah m)=digits m:=List.take_of_length_le (Nat.le_refl _)
     have e2:(digits n).take (ah m)=digits n:=List.take_of_length_le (by show ah n<=ah m;omega)
     have xM:val (o++[c])=m+n:=by
       rw [cv,ho];simp only [val,Nat.mul_zero,Nat.add_zero]
       rw [hv,ou,e1,e2,aI,aI]
       all_goals omega
     have Uh:Wd (o++[c]):=cw hwd (by intro z hz;simp at hz;subst hz;exact hcB)
     have uV:ah m+1=(o++[c]).length:=by simp [ho,ou]
     have xz:=ht (o++[c]) Uh (by rw [<- uV];omega)
     rw [xM] at xz
     simp only [SS,Nat.reduceAdd,bh,tE hlt,f5,XT,hk,iM]
     rw [bR (o:=o++0::zs k) (by simp [aa.put]) uI,fA _ _ _ _ (ho.trans ou),J4,uk]
     simp only [SS,Nat.reduceAdd]
     refine cM [([9],⟨us (o++[c]),1,false⟩)] xz (aW.cons (gJ uV) aW.nil) (by simp [aa.put]) ?_
     simp only [SS,Nat.reduceAdd]
     exact ag▸ab rfl (aJ _)
 by_cases Ux:(ah m<ah n)
 . have d0:decide ((ah m:Int)<(ah n:Int))=true:=by first | exact ao (by omega) | exact ak (by omega)
   have hL:=ny (ah n) 1 (by omega)
   have hL':IntKind.i64.wrap ((ah n:Int)+1)=((ah n+1:Nat):Int):=hL
   have xh:∀ p:Id,kX p 1 4 (.int .u32 0) (.int .i64 ((ah n+1:Nat):Int)) (.int .i64 ((ah n+1:Nat):Int))=some { val := .osl p 1 0 (ah n+1) false,up:=[(p,some ⟨us (List.replicate (ah n+1) 0),1,false⟩)] }:=fun p=>mD (by omega)
   simp only [SS,Nat.reduceAdd,bh,d0,hL',xh,aC]
   refine VW.bJ (α := Nat × Nat × List Nat × Nat) (fun x=>⟨[W n,W m, .top, .top, .top, .osl [13] 1 0 (ah n+1) false, .int .u64 (x.2.2.2:Int), .int .i64 (x.1:Int)]++List.replicate 50 .top,
     aa.put (fun _=>none) [13] (some ⟨us (x.2.2.1++zs (ah n+1-x.1)),1,false⟩),x.2.1⟩)
     (fun x=>x.1<=ah n/\x.2.2.1.length=x.1/\Wd x.2.2.1/\x.2.2.2<=1/\val x.2.2.1+au ^ x.1*x.2.2.2=val ((digits n).take x.1)+val ((digits m).take x.1)) (fun x=>ah n-x.1) (0,1000,[],0) ?_ ?_ ?_
   . exact Wk.slots (by simp [Fg,List.replicate]) (by simp only [];omega)
   . exact ⟨Nat.zero_le _,rfl,by intro w hw;simp at hw,Nat.zero_le _,by simp [val]⟩
   rintro ⟨i,nn,o,c⟩ ⟨hi,ho,hwd,hc,hv⟩
   simp only [] at hi ho hwd hc hv
   have qD:i<ah n->decide ((i:Int)<(ah n:Int))=true:=fun h=>ao (by omega)
   have tE : ¬ i<ah n->decide ((i:Int)<(ah n:Int))=false:=fun h=>ak (by omega)
   have Iv:i<ah m->decide ((i:Int)<(ah m:Int))=true:=fun h=>ao (by omega)
   have Iw : ¬ i<ah m->decide ((i:Int)<(ah m:Int))=false:=fun h=>ak (by omega)
   have dt : ¬ i<ah n->i=ah n:=by omega
   have rb:=aq i (by omega)
   have l7:i<ah n->i+1<=ah n/\ah n-(i+1)<ah n-i:=fun h=>by omega
   have iA:=cB (q:=[13]) (t:=false) (show i<ah n+1 by omega)
   obtain ⟨k,hk⟩:∃ k,ah n+1-i=k+1:=⟨ah n-i,by omega⟩
   have Bd:ah n+1-(i+1)=k:=by omega
   have mU:i<(o++0::zs k).length:=by simp;omega
   by_cases hlt:i<ah n
   . obtain ⟨x,hx⟩:∃ x,(digits n)[i]? = some x:=⟨_,List.getElem?_eq_getElem hlt⟩
     have qE:=aO n x (List.mem_of_getElem? hx)
     have f1:=bn x qE
     have f2:=oO c x (by unfold au at qE;omega)
     by_cases hb:i<ah m
     . obtain ⟨y,hy⟩:∃ y,(digits m)[i]? = some y:=⟨_,List.getElem?_eq_getElem hb⟩
       have AR:=aO m y (List.mem_of_getElem? hy)
       have f3:=bn y AR
       have f4:=oO (c+x) y (by unfold au at qE AR;omega)
       have hst:=mi (x:=x) (y:=y) ho hv rfl
       have hc':(c+x+y)/au<=1:=by unfold au at *;omega
       simp only [SS,Nat.reduceAdd,bh,qD hlt,db hx,az,bm,f1,f2,Iv hb,db hy,f3,f4,iA,uQ,hk,iM]
       rw [bR (o:=o++0::zs k) (by simp [aa.put]) mU,fA _ _ _ _ ho]
       simp only [SS,Nat.reduceAdd,nM,rb]
       refine ⟨(i+1,_,o++[(c+x+y)%au],(c+x+y)/au),⟨(l7 hlt).1,by simp [ho],ot hwd _,hc', ?_⟩,(l7 hlt).2,Wk.forget (by simp [Fg]) (fun j => ?_) (Nat.le_refl _)⟩
       . show val (o++[(c+x+y)%au])+_=val ((digits n).take (i+1))+val ((digits m).take (i+1))
         rw [aE hx,aE hy];exact hst
       . simp only [aa.put,Bd];split<;>simp
     . have hst:=mi (x:=x) (y:=0) ho hv rfl
       rw [Nat.mul_zero,Nat.add_zero,Nat.add_zero] at hst
       have hc':(c+x)/au<=1:=by unfold au at *;omega
       simp only [SS,Nat.reduceAdd,bh,qD hlt,db hx,az,bm,f1,f2,Iw hb,iA,uQ,hk,iM]
       rw [bR (o:=o++0::zs k) (by simp [aa.put]) mU,fA _ _ _ _ ho]
       simp only [SS,Nat.reduceAdd,nM,rb]
       refine ⟨(i+1,_,o++[(c+x)%au],(c+x)/au),⟨(l7 hlt).1,by simp [ho],ot hwd _,hc', ?_⟩,(l7 hlt).2,Wk.forget (by simp [Fg]) (fun j => ?_) (Nat.le_refl _)⟩
       . show val (o++[(c+x)%au])+_=val ((digits n).take (i+1))+val ((digits m).take (i+1))
         rw [aE hx,ja (show (digits m).length<=i from by show ah m<=i;omega)];exact hst
       . simp only [aa.put,Bd];split<;>simp
   . have ou:=dt hlt
     have hcB:c<au:=by unfold au;omega
     have f5:IntKind.u32.wrap (c:Int)=(c:Int):=by rw [uQ,Nat.mod_eq_of_lt hcB]
     have XT:=cB (q:=[13]) (t:=false) (show ah n<ah n+1 by omega)
     have J4:k=0:=by omega
     have uI:ah n<(o++0::zs k).length:=by simp;omega
     have e1:(digits n).take (ah n)=digits n:=List.take_of_length_le (Nat.le_refl _)
     have e2:(digits m).take (ah n)=digits m:=List.take_of_length_le (by show ah m<=ah n;omega)
     have xM:val (o++[c])=m+n:=by
       rw [cv,ho];simp only [val,Nat.mul_zero,Nat.add_zero]
       rw [hv,ou,e1,e2,aI,aI]
       all_goals omega
     have Uh:Wd (o++[c]):=cw hwd (by intro z hz;simp at hz;subst hz;exact hcB)
     have uV:ah n+1=(o++[c]).length:=by simp [ho,ou]
     have xz:=ht (o++[c]) Uh (by rw [<- uV];omega)
     rw [xM] at xz
     simp only [SS,Nat.reduceAdd,bh,tE hlt,f5,XT,hk,iM]
     rw [bR (o:=o++0::zs k) (by simp [aa.put]) uI,fA _ _ _ _ (ho.trans ou),J4,uk]
     simp only [SS,Nat.reduceAdd]
     refine cM [([13],⟨us (o++[c]),1,false⟩)] xz (aW.cons (gJ uV) aW.nil) (by simp [aa.put]) ?_
     simp only [SS,Nat.reduceAdd]
     exact ag▸ab rfl (aJ _)
 exact absurd Ux Q3
set_option maxHeartbeats 1000000 in
theorem Fw {f ft:FuncId} (h:Has P f (dS ft)) (ht:gU P G ft) (m n:Nat) (yi:n<=m) (hm:ah m<=1000000):VP P G f [W m,W n] (W (m-n)):=by
 refine VP.has h ?_
 have hwn:=cP yi
 have xh:∀ p:Id,kX p 1 4 (.int .u32 0) (.int .i64 (ah m:Int)) (.int .i64 (ah m:Int))=some { val := .osl p 1 0 (ah m) false,up:=[(p,some ⟨us (List.replicate (ah m) 0),1,false⟩)] }:=fun p=>mD (by omega)
 simp only [dS,SS,Nat.reduceAdd,bh,xh,aC]
 refine VW.bJ (α := Nat × Nat × List Nat × Nat) (fun x=>⟨[W m,W n, .top, .top, .top, .osl [3] 1 0 (ah m) false, .int .u64 (x.2.2.2:Int), .int .i64 (x.1:Int)]++List.replicate 40 .top,
   aa.put (fun _=>none) [3] (some ⟨us (x.2.2.1++zs (ah m-x.1)),1,false⟩),x.2.1⟩)
   (fun x=>x.1<=ah m/\x.2.2.1.length=x.1/\Wd x.2.2.1/\x.2.2.2<=1/\val x.2.2.1+val ((digits n).take x.1)=val ((digits m).take x.1)+au ^ x.1*x.2.2.2) (fun x=>ah m-x.1) (0,1000,[],0) ?_ ?_ ?_
 . exact Wk.slots (by simp [Fg,List.replicate]) (by simp only [];omega)
 . exact ⟨Nat.zero_le _,rfl,by intro w hw;simp at hw,Nat.zero_le _,by simp [val]⟩
 rintro ⟨i,nn,o,c⟩ ⟨hi,ho,hwd,hc,hv⟩
 simp only [] at hi ho hwd hc hv
 have qD:i<ah m->decide ((i:Int)<(ah m:Int))=true:=fun h=>ao (by omega)
 have tE : ¬ i<ah m->decide ((i:Int)<(ah m:Int))=false:=fun h=>ak (by omega)
 have Iv:i<ah n->decide ((i:Int)<(ah n:Int))=true:=fun h=>ao (by omega)
 have Iw : ¬ i<ah n->decide ((i:Int)<(ah n:Int))=false:=fun h=>ak (by omega)
 have dt : ¬ i<ah m->i=ah m:=by omega
 have rb:=aq i (by omega)
 have l7:i<ah m->i+1<=ah m/\ah m-(i+1)<ah m-i:=fun h=>by omega
 by_cases hlt:i<ah m
 . obtain ⟨x,hx⟩:∃ x,(digits m)[i]? = some x:=⟨_,List.getElem?_eq_getElem hlt⟩
   have qE:=aO m x (List.mem_of_getElem? hx)
   have f1:=bn x qE
   have iA:=cB (q:=[3]) (t:=false) hlt
   obtain ⟨k,hk⟩:∃ k,ah m-i=k+1:=⟨ah m-i-1,by omega⟩
   have Bd:ah m-(i+1)=k:=by omega
   have mU:i<(o++0::zs k).length:=by simp;omega
   by_cases hb:i<ah n
   . obtain ⟨y,hy⟩:∃ y,(digits n)[i]? = some y:=⟨_,List.getElem?_eq_getElem hb⟩
     have AR:=aO n y (List.mem_of_getElem? hy)
     have f3:=bn y AR
     obtain ⟨w,c',h1,h2,h3,d,h4,h5,h6⟩:=wT qE AR hc
     have hst:=mL (va:=val ((digits m).take i)) (vb:=val ((digits n).take i)) (x:=x) (y:=y) (c:=c) (w:=w) (c':=c') ho (by rw [hv];omega) h3
     simp only [SS,Nat.reduceAdd,bh,qD hlt,db hx,az,bm,f1,Iv hb,db hy,f3,h4,h5,iA,hk,iM]
     rw [bR (o:=o++0::zs k) (by simp [aa.put]) mU,fA _ _ _ _ ho]
     simp only [SS,Nat.reduceAdd,nM,h6,rb]
     refine ⟨(i+1,_,o++[w],c'),⟨(l7 hlt).1,by simp [ho],cw hwd (by intro z hz;simp at hz;subst hz;exact h1),h2, ?_⟩,(l7 hlt).2,Wk.forget (by simp [Fg]) (fun j => ?_) (Nat.le_refl _)⟩
     . show val (o++[w])+val ((digits n).take (i+1))=val ((digits m).take (i+1))+_
       rw [aE hx,aE hy];exact hst
     . simp only [aa.put,Bd];split<;>simp
   . obtain ⟨w,c',h1,h2,h3,d,h4,h5,h6⟩:=wT (y:=0) qE cV hc
     have h4':IntKind.u64.wrap (IntKind.u64.wrap (IntKind.u64.wrap ((x:Int)+4294967296)-0)-(c:Int))=(d:Int):=h4
     have hst:=mL (va:=val ((digits m).take i)) (vb:=val ((digits n).take i)) (x:=x) (y:=0) (c:=c) (w:=w) (c':=c') ho (by rw [hv];omega) h3
     rw [Nat.mul_zero,Nat.add_zero] at hst
     simp only [SS,Nat.reduceAdd,bh,qD hlt,db hx,az,bm,f1,Iw hb,h4',h5,iA,hk,iM]
     rw [bR (o:=o++0::zs k) (by simp [aa.put]) mU,fA _ _ _ _ ho]
     simp only [SS,Nat.reduceAdd,nM,h6,rb]
     refine ⟨(i+1,_,o++[w],c'),⟨(l7 hlt).1,by simp [ho],cw hwd (by intro z hz;simp at hz;subst hz;exact h1),h2, ?_⟩,(l7 hlt).2,Wk.forget (by simp [Fg]) (fun j => ?_) (Nat.le_refl _)⟩
     . show val (o++[w])+val ((digits n).take (i+1))=val ((digits m).take (i+1))+_
       rw [aE hx,ja (show (digits n).length<=i from by show ah n<=i;omega)];exact hst
     . simp only [aa.put,Bd];split<;>simp
 . have ou:=dt hlt
   have e1:(digits m).take (ah m)=digits m:=List.take_of_length_le (Nat.le_refl _)
   have e2:(digits n).take (ah m)=digits n:=List.take_of_length_le (by show ah n<=ah m;omega)
   have xM:val o=m-n:=by
     rw [ou,e1,e2,aI,aI] at hv
     have rA:=lC hwd
     rw [ho,ou] at rA
     rcases Nat.eq_zero_or_pos c with h0 | h0
     . subst h0;omega
     . have:c=1:=by omega
       subst this;have:=cN m;omega
   have uV:ah m=o.length:=by omega
   have e3:zs (ah m-i)=[]:=by rw [ou,Nat.sub_self];rfl
   have xz:=ht o hwd (by omega)
   rw [xM] at xz
   simp only [SS,Nat.reduceAdd,bh,tE hlt,e3]
   refine cM [([3],⟨us o,1,false⟩)] xz (aW.cons (gJ uV) aW.nil) (by simp [aa.put]) ?_
   simp only [SS,Nat.reduceAdd]
   exact ag▸ab rfl (aJ _)
end
end Go.VL
end

section
set_option linter.unusedVariables false
namespace Go.VL
section
variable {P:Program} {G:Nat->Option (List AV)}
set_option maxHeartbeats 1000000 in
theorem Dr {f ft:FuncId} (h:Has P f (gH ft)) (ht:gU P G ft) (m:Nat) {ws:List Nat} (hws:Wd ws) (hm:ah m<=1000000) (hn:ws.length<=1000000):VP P G f [W m, .sl 1 (us ws)] (W (m*val ws)):=by
 refine VP.has h ?_
 have xh:∀ p:Id,kX p 1 4 (.int .u32 0) (.int .i64 ((ah m+ws.length:Nat):Int)) (.int .i64 ((ah m+ws.length:Nat):Int))=some { val := .osl p 1 0 (ah m+ws.length) false,up:=[(p,some ⟨us (List.replicate (ah m+ws.length) 0),1,false⟩)] }:=fun p=>mD (by omega)
 have hL:=ny (ah m) (ws.length) (by omega)
 simp only [gH,SS,Nat.reduceAdd,bh,dD,hL,xh,aC]
 refine VW.bJ (α := Nat × Nat × List Nat) (fun x=>⟨[W m, .sl 1 (us ws), .top, .top, .top, .osl [6] 1 0 (ah m+ws.length) false, .int .i64 (x.1:Int)]++List.replicate 60 .top,
   aa.put (fun _=>none) [6] (some ⟨us x.2.2,1,false⟩),x.2.1⟩)
   (fun x=>x.1<=ah m/\x.2.2.length=ah m+ws.length/\Wd x.2.2/\val x.2.2=val ((digits m).take x.1)*val ws) (fun x=>ah m-x.1) (0,1000,List.replicate (ah m+ws.length) 0) ?_ ?_ ?_
 . exact Wk.slots (by simp [Fg,List.replicate]) (by simp only [];omega)
 . exact ⟨Nat.zero_le _,List.length_replicate ..,De _,by simp only [];rw [AO (fun w hw=>List.eq_of_mem_replicate hw)];simp [val]⟩
 rintro ⟨i,nn,o⟩ ⟨hi,ho,hwd,hv⟩
 simp only [] at hi ho hwd hv
 have qD:i<ah m->decide ((i:Int)<(ah m:Int))=true:=fun h=>ao (by omega)
 have tE : ¬ i<ah m->decide ((i:Int)<(ah m:Int))=false:=fun h=>ak (by omega)
 have dt : ¬ i<ah m->i=ah m:=by omega
 have rb:=aq i (by omega)
 have l7:i<ah m->i+1<=ah m/\ah m-(i+1)<ah m-i:=fun h=>by omega
 have vA:=ny i (ws.length) (by omega)
 have Kr:i<ah m->i+ws.length<ah m+ws.length:=fun h=>by omega
 by_cases hlt:i<ah m
 . obtain ⟨a,ha⟩:∃ a,(digits m)[i]? = some a:=⟨_,List.getElem?_eq_getElem hlt⟩
   have uj:=aO m a (List.mem_of_getElem? ha)
   have f1:=bn a uj
   have Tj:o[i+ws.length]? = some 0:=by
     obtain ⟨y,hy⟩:∃ y,o[i+ws.length]? = some y:=⟨_,List.getElem?_eq_getElem (by rw [ho];exact Kr hlt)⟩
     have e:=Df (k:=i+ws.length) (by
       rw [hv,Nat.pow_add]
       have h2:val ((digits m).take i)<au ^ i:=by
         have:=lC (q8 (aO m) i)
         rwa [List.length_take,Nat.min_eq_left (show i<=(digits m).length from Nat.le_of_lt hlt)] at this
       exact Nat.mul_lt_mul'' h2 (lC hws)) hy
     rw [e] at hy;exact hy
   simp only [SS,Nat.reduceAdd,bh,qD hlt,aC]
   refine VW.bJ (α := Nat × Nat × List Nat × Nat) (fun x=>⟨[W m, .sl 1 (us ws), .top, .top, .top, .osl [6] 1 0 (ah m+ws.length) false, .int .i64 (i:Int), .int .u64 (x.2.2.2:Int), .int .i64 (x.1:Int)]++List.replicate 58 .top,
     aa.put (fun _=>none) [6] (some ⟨us x.2.2.1,1,false⟩),x.2.1⟩)
     (fun x=>x.1<=ws.length/\x.2.2.1.length=ah m+ws.length/\Wd x.2.2.1/\x.2.2.2<au/\x.2.2.1[i+ws.length]? = some 0/\val x.2.2.1+au ^ (i+x.1)*x.2.2.2=val o+au ^ i*(a*val (ws.take x.1))) (fun x=>ws.length-x.1) (0,nn+1000,o,0) ?_ ?_ ?_
   . exact Wk.slots (by simp [Fg,List.replicate]) (by simp only [];omega)
   . exact ⟨Nat.zero_le _,ho,hwd,cV,Tj,by simp [val]⟩
   rintro ⟨j,mm,o',c⟩ ⟨hj,Iu,Gt,hc,hz,hv'⟩
   simp only [] at hj Iu Gt hc hz hv'
   have Iv:j<ws.length->decide ((j:Int)<(ws.length:Int))=true:=fun h=>ao (by omega)
   have Iw : ¬ j<ws.length->decide ((j:Int)<(ws.length:Int))=false:=fun h=>ak (by omega)
   have xm : ¬ j<ws.length->j=ws.length:=by omega
   have ME:=aq j (by omega)
   have z6:j<ws.length->j+1<=ws.length/\ws.length-(j+1)<ws.length-j:=fun h=>by omega
   have Kg:=ny i j (by omega)
   have Ks:j<ws.length->i+j<ah m+ws.length:=fun h=>by omega
   have hne:j<ws.length->i+j≠i+ws.length:=fun h=>by omega
   by_cases z7:j<ws.length
   . obtain ⟨b,hb⟩:∃ b,ws[j]? = some b:=⟨_,List.getElem?_eq_getElem z7⟩
     have yj:=hws b (List.mem_of_getElem? hb)
     have f2:=bn b yj
     obtain ⟨z,Xl⟩:∃ z,o'[i+j]? = some z:=⟨_,List.getElem?_eq_getElem (by rw [Iu];exact Ks z7)⟩
     have Ug:=Gt z (List.mem_of_getElem? Xl)
     have f3:=bn z Ug
     have f4:=MD a b uj yj
     have hle:=Kq uj yj
     have f5:=oO c z (by unfold au at Ug hc;omega)
     have f6:=oO (c+z) (a*b) (by unfold au at Ug hc;omega)
     have hc':(c+z+a*b)/au<au:=by unfold au at Ug hc ⊢;omega
     have iA:=cB (q:=[6]) (t:=false) (Ks z7)
     have hst:=Fm (x:=a) (y:=b) (s:=c+z+a*b) Xl hv' (by omega)
     simp only [SS,DD,Nat.reduceAdd,dD,Iv z7,Kg,iA]
     rw [iL (o:=o') (b:=false) (by simp [aa.put]) Xl]
     simp only [SS,DD,Nat.reduceAdd,f3,f5,db ha,aQ rfl (r9 hb),az,bm,f1,f2,f4,f6]
     refine ⟨by simp [ar], ?_⟩
     simp only [SS,Nat.reduceAdd,uQ,Kg,iA]
     rw [bR (o:=o') (by simp [aa.put]) (by rw [Iu];exact Ks z7)]
     simp only [SS,Nat.reduceAdd,nM,ME]
     refine ⟨(j+1,_,o'.set (i+j) ((c+z+a*b)%au),(c+z+a*b)/au),⟨(z6 z7).1,by simp [Iu],Gs Gt (Nat.mod_lt _ cV),hc', ?_, ?_⟩,(z6 z7).2,Wk.forget (by simp [Fg]) (fun j => ?_) (Nat.le_refl _)⟩
     . rw [List.getElem?_set_ne (hne z7)];exact hz
     . show _=val o+au ^ i*(a*val (ws.take (j+1)))
       rw [aE hb];exact hst
     . simp only [aa.put];split<;>simp
   . have ZY:=xm z7
     have iA:=cB (q:=[6]) (t:=false) (Kr hlt)
     have f7:IntKind.u32.wrap (c:Int)=(c:Int):=by rw [uQ,Nat.mod_eq_of_lt hc]
     have hval:val (o'.set (i+ws.length) c)=val ((digits m).take (i+1))*val ws:=by
       have e:=Cg (x:=c) hz
       have e2:ws.take ws.length=ws:=List.take_of_length_le (Nat.le_refl _)
       rw [ZY,e2,hv] at hv'
       rw [aE ha,Nat.add_mul]
       have e3:au ^ i*a*val ws=au ^ i*(a*val ws):=Nat.mul_assoc _ _ _
       omega
     simp only [SS,Nat.reduceAdd,dD,Iw z7,vA,f7,iA]
     rw [bR (o:=o') (by simp [aa.put]) (by rw [Iu];exact Kr hlt)]
     simp only [SS,Nat.reduceAdd,rb]
     refine ⟨(i+1,_,o'.set (i+ws.length) c),⟨(l7 hlt).1,by simp [Iu],Gs Gt hc,hval⟩,(l7 hlt).2,Wk.forget (by simp [Fg]) (fun j => ?_) (Nat.le_refl _)⟩
     simp only [aa.put];split<;>simp
 . have ou:=dt hlt
   have e1:(digits m).take (ah m)=digits m:=List.take_of_length_le (Nat.le_refl _)
   have xM:val o=m*val ws:=by rw [hv,ou,e1,aI]
   have xz:=ht o hwd (by rw [ho];omega)
   rw [xM] at xz
   simp only [SS,Nat.reduceAdd,bh,tE hlt]
   refine cM [([6],⟨us o,1,false⟩)] xz (aW.cons (gJ ho.symm) aW.nil) (by simp [aa.put]) ?_
   simp only [SS,Nat.reduceAdd]
   exact ag▸ab rfl (aJ _)
theorem Oa {f ft:FuncId} (h:Has P f (gH ft)) (ht:gU P G ft) (m n:Nat) (hm:ah m<=1000000) (hn:ah n<=1000000):VP P G f [W m,W n] (W (m*n)):=by
 have:=Dr (G:=G) h ht m (aO n) hm hn
 rw [aI] at this;exact this
theorem XU {f ft:FuncId} (h:Has P f (l4 ft)) (ht:gU P G ft) (m w:Nat) (hm:ah m<=1000000) (hw:w<au) (Kh:w≠0) :
   VP P G f [W m, .int .u32 (w:Int)] (.tup [W (m/w), .int .u32 ((m%w:Nat):Int)]):=by
 refine VP.has h ?_
 have xh:∀ p:Id,kX p 1 4 (.int .u32 0) (.int .i64 (ah m:Int)) (.int .i64 (ah m:Int))=some { val := .osl p 1 0 (ah m) false,up:=[(p,some ⟨us (List.replicate (ah m) 0),1,false⟩)] }:=fun p=>mD (by omega)
 have Xo:IntKind.i64.wrap ((ah m:Int)-1)=(ah m:Int)-1:=by rw [IntKind.wrap_i64];omega
 have f0:=bn w hw
 have hwz:((w:Nat):Int)≠0:=by omega
 simp only [l4,SS,Nat.reduceAdd,bh,xh,Xo,aC]
 refine VW.bJ (α := Nat × Nat × List Nat × Nat) (fun x=>⟨[W m, .int .u32 (w:Int), .top, .top, .top, .top, .osl [4] 1 0 (ah m) false, .int .u64 (x.2.2.2:Int), .int .i64 ((x.1:Int)-1)]++List.replicate 34 .top,
   aa.put (fun _=>none) [4] (some ⟨us (zs x.1++x.2.2.1),1,false⟩),x.2.1⟩)
   (fun x=>x.1+x.2.2.1.length=ah m/\Wd x.2.2.1/\x.2.2.2<w/\val ((digits m).drop x.1)=val x.2.2.1*w+x.2.2.2) (fun x=>x.1) (ah m,1000,[],0) ?_ ?_ ?_
 . rw [List.append_nil];exact Wk.slots (by simp [Fg,List.replicate]) (by simp only [];omega)
 . refine ⟨by simp,by intro w hw;simp at hw,Nat.pos_of_ne_zero Kh, ?_⟩
   show val ((digits m).drop (ah m))=_
   rw [List.drop_eq_nil_of_le (show (digits m).length<=ah m from Nat.le_refl _)];simp [val]
 rintro ⟨k,nn,q,r⟩ ⟨hk,hwd,hr,hv⟩
 simp only [] at hk hwd hr hv
 by_cases h0:k=0
 . subst h0
   have d0:decide ((0:Int)<=((0:Nat):Int)-1)=false:=by decide
   have e:m/w=val q/\m%w=r:=by
     rw [List.drop_zero,aI] at hv
     refine (Nat.div_mod_unique (Nat.pos_of_ne_zero Kh)).2 ⟨?_,hr⟩
     rw [hv,Nat.mul_comm w];omega
   have xz:=ht q hwd (by omega)
   rw [<- e.1] at xz
   have f9:IntKind.u32.wrap (r:Int)=(r:Int):=by rw [uQ,Nat.mod_eq_of_lt (by omega)]
   have hq:ah m=q.length:=by omega
   simp only [SS,Nat.reduceAdd,d0,uk]
   refine cM [([4],⟨us q,1,false⟩)] xz (aW.cons (gJ hq) aW.nil) (by simp [aa.put]) ?_
   simp only [SS,Nat.reduceAdd,f9]
   rw [e.2]
   exact ag▸ab rfl (af.tup (by intro c hc;simp at hc;rcases hc with rfl | rfl;exact aJ _;exact af.int _ _))
 . obtain ⟨j,rfl⟩:∃ j,k=j+1:=⟨k-1,by omega⟩
   have d0:decide ((0:Int)<=(j:Int))=true:=ao (by omega)
   have hj:((j+1:Nat):Int)-1=(j:Int):=by omega
   have nL:j<ah m:=by omega
   have ME:IntKind.i64.wrap ((j:Int)-1)=(j:Int)-1:=by rw [IntKind.wrap_i64];omega
   obtain ⟨a,ha⟩:∃ a,(digits m)[j]? = some a:=⟨_,List.getElem?_eq_getElem nL⟩
   have uj:=aO m a (List.mem_of_getElem? ha)
   have f1:=bn a uj
   have D4:r<au:=by omega
   have f2:=wh r D4
   have f3:=Dh r a D4 uj
   have hlt:au*r+a<18446744073709551616:=by unfold au at *;omega
   have f4:=Di (au*r+a) w hlt Kh
   have f5:=Dj (au*r+a) w Kh
   have Ix:(au*r+a)/w<au:=by
     rw [Nat.div_lt_iff_lt_mul (Nat.pos_of_ne_zero Kh)]
     have:au*(r+1)<=au*w:=Nat.mul_le_mul_left _ hr
     rw [Nat.mul_add] at this
     omega
   have f6:IntKind.u32.wrap (((au*r+a)/w:Nat):Int)=(((au*r+a)/w:Nat):Int):=by rw [uQ,Nat.mod_eq_of_lt Ix]
   have iA:=cB (q:=[4]) (t:=false) nL
   have Te:j<(zs (j+1)++q).length:=by simp [zs];omega
   have hv':val ((digits m).drop j)=val ((au*r+a)/w::q)*w+(au*r+a)%w:=by
     rw [List.drop_eq_getElem_cons (show j<(digits m).length from nL)]
     obtain ⟨_,h2⟩:=List.getElem?_eq_some_iff.1 ha
     rw [h2]
     simp only [val]
     rw [hv,Nat.add_mul,Nat.mul_add,Nat.mul_assoc au]
     have:=Nat.div_add_mod (au*r+a) w
     rw [Nat.mul_comm] at this
     omega
   have Ir:j+((au*r+a)/w::q).length=ah m:=by simp;omega
   simp only [SS,Nat.reduceAdd,d0,hj,db ha,az,bm,f0,f1,f2,f3,f4,f6,iA]
   rw [bR (o:=zs (j+1)++q) (by simp [aa.put]) Te,wi]
   simp only [SS,Nat.reduceAdd,f0,f5,ME]
   refine ⟨(j,_,(au*r+a)/w::q,(au*r+a)%w),⟨Ir, ?_,Nat.mod_lt _ (Nat.pos_of_ne_zero Kh),hv'⟩,Nat.lt_succ_self j,Wk.forget (by simp [Fg]) (fun j => ?_) (Nat.le_refl _)⟩
   . intro z hz
     rcases List.mem_cons.1 hz with rfl | hz
     . exact Ix
     . exact hwd z hz
   . simp only [aa.put];split<;>simp
end
end Go.VL
end

section
set_option linter.unusedVariables false
namespace Go.VL
theorem IW {x c:Nat} (hx:x<au) (h0:0<x) (h1:x<2 ^ c) (h2:2 ^ c<=2*x):c=iN x:=by
 obtain ⟨a,b⟩:=zr hx h0
 have e1:2 ^ c<2 ^ (iN x+1):=by rw [Nat.pow_succ];omega
 have e2:2 ^ iN x<2 ^ (c+1):=by rw [Nat.pow_succ];omega
 have:=(Nat.pow_lt_pow_iff_right (by decide:1<2)).1 e1
 have:=(Nat.pow_lt_pow_iff_right (by decide:1<2)).1 e2
 omega
theorem adI (a:Nat) (ha:a<au):bo .quo .int (.int .u32 (a:Int)) (.int .u32 2)=some (.int .u32 ((a/2:Nat):Int)):=by
 rw [Mm (by decide)]
 show some (AV.int .u32 (IntKind.u32.wrap ((a/2:Nat):Int)))=_
 rw [uQ,Nat.mod_eq_of_lt (by unfold au at *;omega)]
theorem Ob {x y s:Nat} (hs:s<=32) (hx:x<au):((au*y+x)/2 ^ s)%au=x/2 ^ s+2 ^ (32-s)*(y%2 ^ s):=by
 have hB:=sV hs
 have hd:x/2 ^ s<2 ^ (32-s):=by rw [Nat.div_lt_iff_lt_mul (Nat.two_pow_pos _),hB];exact hx
 have e1:(au*y+x)/2 ^ s=2 ^ (32-s)*y+x/2 ^ s:=by
   rw [<- hB,Nat.mul_comm (2 ^ (32-s)),Nat.mul_assoc,Nat.mul_add_div (Nat.two_pow_pos _)]
 have hlt:y%2 ^ s<2 ^ s:=Nat.mod_lt _ (Nat.two_pow_pos _)
 have h1:2 ^ (32-s)*(y%2 ^ s+1)<=2 ^ (32-s)*2 ^ s:=Nat.mul_le_mul_left _ hlt
 rw [Nat.mul_add,hB] at h1
 have e2:2 ^ (32-s)*y=au*(y/2 ^ s)+2 ^ (32-s)*(y%2 ^ s):=by
   have:=Nat.div_add_mod y (2 ^ s)
   conv=>lhs;rw [<- this]
   rw [Nat.mul_add, <- Nat.mul_assoc,hB]
 rw [e1,e2,show au*(y/2 ^ s)+2 ^ (32-s)*(y%2 ^ s)+x/2 ^ s=(x/2 ^ s+2 ^ (32-s)*(y%2 ^ s))+au*(y/2 ^ s) from by omega,Nat.add_mul_mod_self_left,Nat.mod_eq_of_lt (by omega)]
theorem aam (x y:Nat) (hx:x<au) (hy:y<au):bo .or .int (.int .u64 (x:Int)) (.int .u64 ((au*y:Nat):Int))=some (.int .u64 ((au*y+x:Nat):Int)):=by
 rw [Xm _ _ (by unfold au at *;omega) (by unfold au at *;omega),Nat.or_comm]
 have:=Nat.two_pow_add_eq_or_of_lt (i:=32) (b:=x) (by unfold au at hx;omega) y
 rw [show au=2 ^ 32 from rfl,this]
theorem Q4 (x s:Nat) (hs:s<=64):bo .shr .int (.int .u64 (x:Int)) (.int .i64 (s:Int))=some (.int .u64 ((x/2 ^ s:Nat):Int)):=by
 rw [qZ (by omega)]
 have h2:min (s:Int).toNat IntKind.u64.bits=s:=by
   show min (s:Int).toNat 64=s
   rw [Int.toNat_natCast];omega
 have h3:(x:Int).fdiv (2 ^ s)=((x/2 ^ s:Nat):Int):=by
   have h4:(2:Int) ^ s=((2 ^ s:Nat):Int):=by rw [Int.natCast_pow];rfl
   rw [h4,Int.fdiv_eq_ediv_of_nonneg _ (Int.natCast_nonneg _)]
   exact (Int.natCast_ediv _ _).symm
 rw [h2,h3]
section
variable {P:Program} {G:Nat->Option (List AV)}
theorem KD {f:FuncId} (h:Has P f gl) {n x k:Nat} (hk:ah n=k+1) (hx:(digits n)[k]? = some x) (Ir:k<=1000000):VP P G f [W n] (.int .i64 ((32*k+iN x:Nat):Int)):=by
 refine VP.has h ?_
 have XI:=aO n x (List.mem_of_getElem? hx)
 obtain ⟨NU,_,_,_,_⟩:=zu hk hx
 have d0:decide (((k+1:Nat):Int)=0)=false:=ak (by omega)
 have p1:IntKind.i64.wrap (((k+1:Nat):Int)-1)=(k:Int):=by rw [IntKind.wrap_i64];omega
 simp only [gl,SS,Nat.reduceAdd,bh,hk,d0,p1,db hx,az,bm,aC]
 refine VW.bJ (α := Nat × Nat × Nat) (fun y=>⟨[W n, .top, .top, .int .i64 (y.1:Int), .int .u32 (y.2.1:Int)]++List.replicate 21 .top,fun _=>none,y.2.2⟩)
   (fun y=>y.2.1=x/2 ^ y.1/\y.1<=32/\2 ^ y.1<=2*x) (fun y=>y.2.1) (0,x,1000) ?_ ?_ ?_
 . exact Wk.slots (by simp [Fg,List.replicate]) (by simp only [];omega)
 . refine ⟨by simp,by simp,by simp;omega⟩
 rintro ⟨c,y,nn⟩ ⟨hy,hc,h2⟩
 simp only [] at hy hc h2
 have XQ:y<au:=by rw [hy];exact Nat.lt_of_le_of_lt (Nat.div_le_self _ _) XI
 by_cases h0:y=0
 . have d1:decide ((0:Int)<(y:Int))=false:=ak (by omega)
   have h1:x<2 ^ c:=by
     rw [h0] at hy
     exact Nat.lt_of_div_eq_zero (Nat.two_pow_pos c) hy.symm
   have e:=IW XI NU h1 h2
   have m1:IntKind.i64.wrap (32*(k:Int))=((32*k:Nat):Int):=by rw [IntKind.wrap_i64];omega
   have a1:=ny (32*k) c (by omega)
   rw [<- e]
   simp only [SS,Nat.reduceAdd,d1,bh,hk,p1,m1,a1]
   exact ag▸ab rfl (af.int _ _)
 . have d1:decide ((0:Int)<(y:Int))=true:=ao (by omega)
   have hcw:=aq c (by omega)
   have q2:=adI y XQ
   have hlt:2 ^ c<=x:=by
     rcases Nat.lt_or_ge x (2 ^ c) with h | h
     . rw [Nat.div_eq_of_lt h] at hy;omega
     . exact h
   have Il:c+1<=32:=by
     have:2 ^ c<2 ^ 32:=by unfold au at XI;omega
     have:=(Nat.pow_lt_pow_iff_right (by decide:1<2)).1 this
     omega
   simp only [SS,Nat.reduceAdd,d1,hcw,q2]
   refine ⟨(c+1,y/2,_),⟨?_,Il, ?_⟩,Nat.div_lt_self (by omega) (by decide),Wk.slots (by simp [Fg]) (Nat.le_refl _)⟩
   . simp only [];rw [hy,Nat.div_div_eq_div_mul, <- Nat.pow_succ]
   . simp only [];rw [Nat.pow_succ];omega
theorem Ds {f:FuncId} (h:Has P f fU) (m s:Nat) (hm:ah m<=1000000) (hs:s<=31) (p:Id) :
   aB P G f [W m, .int .i64 (s:Int)] p [] { val := .osl (4::p) 1 0 (ah m+1) false,rd:=[],up:=[(4::p,some ⟨us (pad (ah m+1) (m*2 ^ s)),1,false⟩)] }:=by
 refine aB.has h ?_
 have hL:=aq (ah m) (by omega)
 have xh:∀ p:Id,kX p 1 4 (.int .u32 0) (.int .i64 ((ah m+1:Nat):Int)) (.int .i64 ((ah m+1:Nat):Int))=some { val := .osl p 1 0 (ah m+1) false,up:=[(p,some ⟨us (List.replicate (ah m+1) 0),1,false⟩)] }:=fun p=>mD (by omega)
 have hz:us (List.replicate (ah m+1) 0)=us (0::zs (ah m)):=rfl
 simp only [fU,SS,Nat.reduceAdd,bh,hL,xh,aC]
 refine VW.bJ (α := Nat × Nat × List Nat × Nat) (fun x=>⟨[W m, .int .i64 (s:Int), .top, .top, .top, .osl (4::p) 1 0 (ah m+1) false, .int .i64 (x.1:Int)]++List.replicate 36 .top,
   aa.put (aa.of []) (4::p) (some ⟨us (x.2.2.1++x.2.2.2::zs (ah m-x.1)),1,false⟩),x.2.1⟩)
   (fun x=>x.1<=ah m/\x.2.2.1.length=x.1/\Wd x.2.2.1/\x.2.2.2<2 ^ s/\val x.2.2.1+au ^ x.1*x.2.2.2=val ((digits m).take x.1)*2 ^ s) (fun x=>ah m-x.1) (0,1000,[],0) ?_ ?_ ?_
 . exact Wk.slots (by simp [Fg,List.replicate]) (by simp only [];omega)
 . exact ⟨Nat.zero_le _,rfl,by intro w hw;simp at hw,Nat.two_pow_pos _,by simp [val]⟩
 rintro ⟨i,nn,o,c⟩ ⟨hi,ho,hwd,hc,hv⟩
 simp only [] at hi ho hwd hc hv
 have qD:i<ah m->decide ((i:Int)<(ah m:Int))=true:=fun h=>ao (by omega)
 have tE : ¬ i<ah m->decide ((i:Int)<(ah m:Int))=false:=fun h=>ak (by omega)
 have dt : ¬ i<ah m->i=ah m:=by omega
 have rb:=aq i (by omega)
 have l7:i<ah m->i+1<=ah m/\ah m-(i+1)<ah m-i:=fun h=>by omega
 have hcB:c<au:=by
   have h2:2 ^ s<=2 ^ 32:=Nat.pow_le_pow_right (by decide) (by omega)
   unfold au;omega
 by_cases hlt:i<ah m
 . obtain ⟨x,hx⟩:∃ x,(digits m)[i]? = some x:=⟨_,List.getElem?_eq_getElem hlt⟩
   have qE:=aO m x (List.mem_of_getElem? hx)
   have f1:=bn x qE
   have f2:=QC x s (by omega) qE
   obtain ⟨g1,g2,g3⟩:=Iz (s:=s) (by omega) hc qE
   have f3:=Xn c (x*2 ^ s%au) hcB (Nat.mod_lt _ cV)
   rw [g1] at f3
   have g4:x*2 ^ s/au<au:=by
     have h2:2 ^ s<=2 ^ 32:=Nat.pow_le_pow_right (by decide) (by omega)
     have:(2:Nat) ^ 32=au:=rfl
     omega
   have f4:IntKind.u32.wrap ((x*2 ^ s/au:Nat):Int)=((x*2 ^ s/au:Nat):Int):=by rw [uQ,Nat.mod_eq_of_lt g4]
   have iA:=cB (q:=4::p) (t:=false) (show i<ah m+1 by omega)
   have Xp:=cB (q:=4::p) (t:=false) (show i+1<ah m+1 by omega)
   obtain ⟨k,hk⟩:∃ k,ah m-i=k+1:=⟨ah m-i-1,by omega⟩
   have Bd:ah m-(i+1)=k:=by omega
   have mU:i<(o++c::0::zs k).length:=by simp;omega
   have uI:i+1<(o++(c+x*2 ^ s%au)::0::zs k).length:=by simp;omega
   have hv':val (o++[c+x*2 ^ s%au])+au ^ (i+1)*(x*2 ^ s/au)=val ((digits m).take (i+1))*2 ^ s:=by
     rw [aE hx,cv,ho,Nat.add_mul, <- hv]
     simp only [val,Nat.mul_zero,Nat.add_zero,Nat.pow_succ]
     have e2:au ^ i*(x*2 ^ s%au)+au ^ i*(au*(x*2 ^ s/au))=au ^ i*(x*2 ^ s):=by rw [<- Nat.mul_add,Nat.mod_add_div]
     rw [Nat.mul_assoc,Nat.mul_assoc,Nat.mul_add]
     omega
   simp only [SS,Nat.reduceAdd,bh,qD hlt,db hx,az,bm,f1,f2,iA,hk,iM]
   rw [iL (o:=o++c::0::zs k) (b:=false) (by simp [aa.put]) (um _ _ _ ho)]
   simp only [SS,Nat.reduceAdd,uQ,f3,iA]
   rw [bR (o:=o++c::0::zs k) (by simp [aa.put]) mU,fA _ _ _ _ ho]
   simp only [SS,Nat.reduceAdd,rb,nM,f4,Xp]
   rw [bR (o:=o++(c+x*2 ^ s%au)::0::zs k) (by simp [aa.put]) uI,Iy _ _ _ _ _ ho]
   simp only [SS,Nat.reduceAdd,rb]
   refine ⟨(i+1,_,o++[c+x*2 ^ s%au],x*2 ^ s/au),⟨(l7 hlt).1,by simp [ho],cw hwd (by intro z hz;simp at hz;subst hz;exact g2),g3,hv'⟩,(l7 hlt).2,Wk.forget (by simp [Fg]) (fun j => ?_) (Nat.le_refl _)⟩
   simp only [aa.put,Bd];split<;>simp
 . have ou:=dt hlt
   have e1:(digits m).take (ah m)=digits m:=List.take_of_length_le (Nat.le_refl _)
   have xM:val (o++[c])=m*2 ^ s:=by
     rw [cv,ho];simp only [val,Nat.mul_zero,Nat.add_zero]
     rw [hv,ou,e1,aI]
   have hlen:(o++[c]).length=ah m+1:=by simp [ho,ou]
   have e:pad (ah m+1) (m*2 ^ s)=o++[c]:=by
     rw [<- xM, <- hlen]
     exact x8 (cw hwd (by intro z hz;simp at hz;subst hz;exact hcB))
   have e3:zs (ah m-i)=[]:=by rw [ou,Nat.sub_self];rfl
   simp only [SS,Nat.reduceAdd,bh,tE hlt,e,e3]
   refine aS▸aA rfl fun i => .inr ?_
   rfl
theorem Uy {f ft:FuncId} (h:Has P f (kI ft)) (ht:gU P G ft) (m s:Nat) (hm:ah m<=1000000) (hs:s<=31) :
   VP P G f [W m, .int .i64 (s:Int)] (W (m/2 ^ s)):=by
 refine VP.has h ?_
 have xh:∀ p:Id,kX p 1 4 (.int .u32 0) (.int .i64 (ah m:Int)) (.int .i64 (ah m:Int))=some { val := .osl p 1 0 (ah m) false,up:=[(p,some ⟨us (List.replicate (ah m) 0),1,false⟩)] }:=fun p=>mD (by omega)
 have hz:us (List.replicate (ah m) 0)=us ([]++zs (ah m-0)):=rfl
 have h2s:2 ^ s*2 ^ (32-s)=au:=by rw [Nat.mul_comm];exact sV (by omega)
 simp only [kI,SS,Nat.reduceAdd,bh,xh,hz,aC]
 refine VW.bJ (α := Nat × Nat × List Nat) (fun x=>⟨[W m, .int .i64 (s:Int), .top, .top, .top, .osl [3] 1 0 (ah m) false, .int .i64 (x.1:Int)]++List.replicate 38 .top,
   aa.put (fun _=>none) [3] (some ⟨us (x.2.2++zs (ah m-x.1)),1,false⟩),x.2.1⟩)
   (fun x=>x.1<=ah m/\x.2.2.length=x.1/\Wd x.2.2/\2 ^ s*val x.2.2+m%2 ^ s=val ((digits m).take x.1)+au ^ x.1*(((digits m)[x.1]?).getD 0%2 ^ s)) (fun x=>ah m-x.1) (0,1000,[]) ?_ ?_ ?_
 . exact Wk.slots (by simp [Fg,List.replicate]) (by simp only [];omega)
 . refine ⟨Nat.zero_le _,rfl,by intro w hw;simp at hw, ?_⟩
   show 2 ^ s*val []+m%2 ^ s=val ((digits m).take 0)+au ^ 0*(((digits m)[0]?).getD 0%2 ^ s)
   rw [wj, <- h2s,Nat.mod_mul_right_mod]
   simp [val]
 rintro ⟨i,nn,o⟩ ⟨hi,ho,hwd,hv⟩
 simp only [] at hi ho hwd hv
 have qD:i<ah m->decide ((i:Int)<(ah m:Int))=true:=fun h=>ao (by omega)
 have tE : ¬ i<ah m->decide ((i:Int)<(ah m:Int))=false:=fun h=>ak (by omega)
 have Iv:i+1<ah m->decide (((i+1:Nat):Int)<(ah m:Int))=true:=fun h=>ao (by omega)
 have Iw : ¬ i+1<ah m->decide (((i+1:Nat):Int)<(ah m:Int))=false:=fun h=>ak (by omega)
 have dt : ¬ i<ah m->i=ah m:=by omega
 have Xr:i<ah m -> ¬ i+1<ah m->i+1=ah m:=by omega
 have rb:=aq i (by omega)
 have l7:i<ah m->i+1<=ah m/\ah m-(i+1)<ah m-i:=fun h=>by omega
 by_cases hlt:i<ah m
 . obtain ⟨x,hx⟩:∃ x,(digits m)[i]? = some x:=⟨_,List.getElem?_eq_getElem hlt⟩
   have qE:=aO m x (List.mem_of_getElem? hx)
   have f0:=bn x qE
   have iA:=cB (q:=[3]) (t:=false) hlt
   obtain ⟨k,hk⟩:∃ k,ah m-i=k+1:=⟨ah m-i-1,by omega⟩
   have Bd:ah m-(i+1)=k:=by omega
   have mU:i<(o++0::zs k).length:=by simp;omega
   have hstep:∀ y w,w=x/2 ^ s+2 ^ (32-s)*(y%2 ^ s)->2 ^ s*w+x%2 ^ s=x+au*(y%2 ^ s)->((digits m)[i+1]?).getD 0=y ->
       2 ^ s*val (o++[w])+m%2 ^ s=val ((digits m).take (i+1))+au ^ (i+1)*(((digits m)[i+1]?).getD 0%2 ^ s):=by
     intro y w _ hw hy
     rw [hx,Option.getD_some] at hv
     rw [aE hx,cv,ho,hy]
     simp only [val,Nat.mul_zero,Nat.add_zero,Nat.pow_succ]
     have e1:au ^ i*(2 ^ s*w)+au ^ i*(x%2 ^ s)=au ^ i*x+au ^ i*(au*(y%2 ^ s)):=by rw [<- Nat.mul_add,hw,Nat.mul_add]
     have e2:2 ^ s*(val o+au ^ i*w)=2 ^ s*val o+au ^ i*(2 ^ s*w):=by rw [Nat.mul_add,Nat.mul_left_comm]
     rw [e2,Nat.mul_assoc]
     omega
   by_cases hn:i+1<ah m
   . obtain ⟨y,hy⟩:∃ y,(digits m)[i+1]? = some y:=⟨_,List.getElem?_eq_getElem hn⟩
     have AR:=aO m y (List.mem_of_getElem? hy)
     have f1:=bn y AR
     have f2:=wh y AR
     have f3:=aam x y qE AR
     have f4:=Q4 (au*y+x) s (by omega)
     obtain ⟨g1,g2,g3⟩:=zm (y:=y) (s:=s) (by omega) qE
     have f5:IntKind.u32.wrap (((au*y+x)/2 ^ s:Nat):Int)=((x/2 ^ s+2 ^ (32-s)*(y%2 ^ s):Nat):Int):=by rw [uQ,Ob (by omega) qE]
     have hv':=hstep y _ rfl g3 (by rw [hy];rfl)
     simp only [SS,Nat.reduceAdd,bh,qD hlt,db hx,az,bm,f0,rb,Iv hn,db hy,f1,f2,f3,f4,f5,iA,hk,iM]
     rw [bR (o:=o++0::zs k) (by simp [aa.put]) mU,fA _ _ _ _ ho]
     simp only [SS,Nat.reduceAdd,rb]
     refine ⟨(i+1,_,o++[x/2 ^ s+2 ^ (32-s)*(y%2 ^ s)]),⟨(l7 hlt).1,by simp [ho],cw hwd (by intro z hz;simp at hz;subst hz;exact g2),hv'⟩,(l7 hlt).2,Wk.forget (by simp [Fg]) (fun j => ?_) (Nat.le_refl _)⟩
     simp only [aa.put,Bd];split<;>simp
   . have yE:(digits m)[i+1]? = none:=List.getElem?_eq_none (by have:=Xr hlt hn;show ah m<=i+1;omega)
     obtain ⟨g1,g2,g3⟩:=zm (y:=0) (s:=s) (by omega) qE
     have e0:x/2 ^ s+2 ^ (32-s)*(0%2 ^ s)=x/2 ^ s:=by simp
     rw [e0] at g2 g3
     have f4:=Q4 x s (by omega)
     have f5:IntKind.u32.wrap ((x/2 ^ s:Nat):Int)=((x/2 ^ s:Nat):Int):=by rw [uQ,Nat.mod_eq_of_lt g2]
     have hv':=hstep 0 (x/2 ^ s) e0.symm g3 (by rw [yE];rfl)
     simp only [SS,Nat.reduceAdd,bh,qD hlt,db hx,az,bm,f0,rb,Iw hn,f4,f5,iA,hk,iM]
     rw [bR (o:=o++0::zs k) (by simp [aa.put]) mU,fA _ _ _ _ ho]
     simp only [SS,Nat.reduceAdd,rb]
     refine ⟨(i+1,_,o++[x/2 ^ s]),⟨(l7 hlt).1,by simp [ho],cw hwd (by intro z hz;simp at hz;subst hz;exact g2),hv'⟩,(l7 hlt).2,Wk.forget (by simp [Fg]) (fun j => ?_) (Nat.le_refl _)⟩
     simp only [aa.put,Bd];split<;>simp
 . have ou:=dt hlt
   have e1:(digits m).take (ah m)=digits m:=List.take_of_length_le (Nat.le_refl _)
   have yE:(digits m)[ah m]? = none:=List.getElem?_eq_none (Nat.le_refl _)
   have xM:val o=m/2 ^ s:=by
     rw [ou,e1,aI,yE] at hv
     have h1:=Nat.div_add_mod m (2 ^ s)
     have h2:2 ^ s*val o=2 ^ s*(m/2 ^ s):=by
       simp at hv;omega
     exact Nat.eq_of_mul_eq_mul_left (Nat.two_pow_pos _) h2
   have hlen:ah m=o.length:=by rw [ho,ou]
   have xz:=ht o hwd (by omega)
   rw [xM] at xz
   have e3:zs (ah m-i)=[]:=by rw [ou,Nat.sub_self];rfl
   simp only [SS,Nat.reduceAdd,bh,tE hlt,e3]
   refine cM [([3],⟨us o,1,false⟩)] xz (aW.cons (gJ hlen) aW.nil) (by simp [aa.put]) ?_
   simp only [SS,Nat.reduceAdd]
   exact ag▸ab rfl (aJ _)
end
end Go.VL
end

section
set_option linter.unusedVariables false
namespace Go.VL
theorem trimmed (b:List Nat) (h:Wd b):∃ z,b=digits (val b)++zs z:=by
 induction hn:b.length generalizing b with
 | zero =>
   obtain rfl:b=[]:=List.length_eq_zero_iff.1 hn
   exact ⟨0,by simp [val,bq,zs]⟩
 | succ k ih =>
   obtain ⟨b',w,rfl,hl⟩:=uu hn
   by_cases hw:w=0
   . subst hw
     obtain ⟨z,hz⟩:=ih b' (fun w hw=>h w (by simp [hw])) hl
     refine ⟨z+1, ?_⟩
     rw [ky]
     conv=>lhs;rw [hz]
     rw [List.append_assoc];congr 1
     simp [zs,List.replicate_succ']
   . exact ⟨0,by rw [lD h (.inr ⟨w,by simp,hw⟩)];simp [zs]⟩
theorem Oc {id:Id} {k off len h:Nat} (h2:h<=len):bU k (.osl id k off len false) none (some (.int .i64 (h:Int))) none=some (.osl id k off h false):=by
 simp [bU,cJ,dV,h2]
theorem IX {id:Id} {a b t:List Nat} {f tt:Bool} {n:Nat} (hn:n=b.length):View (aa.of [(id,⟨us (a++b++t),1,f⟩)]) (.osl id 1 a.length n tt) (.sl 1 (us b)):=by
 subst hn
 refine View.osl (bk:=⟨us (a++b++t),1,f⟩) (by simp [aa.of]) rfl (by simp [dD]) ?_ (by rw [dD]) (wO b)
 have:((us (a++b++t)).drop a.length).take b.length=us b:=by rw [List.append_assoc,AP,AP, <- dD a,List.drop_left, <- dD b,List.take_left]
 show aW _ (flat (((us (a++b++t)).drop a.length).take b.length)) _
 rw [this]
 exact aW.pure (sU b)
section
variable {P:Program} {G:Nat->Option (List AV)}
theorem Dt {f:FuncId} (h:Has P f du) {id:Id} {a b t:List Nat} (hw:Wd b) (hl:b.length<=9223372036854775807) (p:Id) :
   aB P G f [.osl id 1 a.length b.length false] p [(id,⟨us (a++b++t),1,false⟩)] { val := .osl id 1 a.length (ah (val b)) false,rd:=[id],up:=[] }:=by
 refine aB.has h ?_
 simp only [du,SS,aC]
 refine VW.bJ (α := Nat × Nat) (fun x=>⟨[.osl id 1 a.length x.1 false]++List.replicate 20 .top,aa.of [(id,⟨us (a++b++t),1,false⟩)],x.2⟩) (fun x=>x.1<=b.length/\val (b.take x.1)=val b) (fun x=>x.1) (b.length,1) ?_ ⟨Nat.le_refl _,by rw [List.take_length]⟩ ?_
 . exact Wk.slots (by simp [Fg,List.replicate]) (Nat.le_refl _)
 rintro ⟨k,n⟩ ⟨hk,hv⟩
 simp only [] at hk hv
 by_cases h0:k=0
 . subst h0
   have d0:decide ((0:Int)<((0:Nat):Int))=false:=by decide
   have e:ah (val b)=0:=by rw [<- hv];simp [val,ah,bq]
   simp only [SS,Nat.reduceAdd,d0,e]
   exact aS▸aA rfl fun i => .inr rfl
 . have oy:0<k:=Nat.pos_of_ne_zero h0
   have d0:decide ((0:Int)<(k:Int))=true:=ao (by omega)
   have uK:=sa k oy (by omega)
   obtain ⟨w,ZW⟩:∃ w,b[k-1]? = some w:=⟨b[k-1],by rw [List.getElem?_eq_getElem]⟩
   have JX:b.take k=b.take (k-1)++[w]:=by
     have:=List.take_add_one (l:=b) (i:=k-1)
     rw [ZW,show k-1+1=k from by omega] at this
     simpa using this
   have iA:=nX (q:=id) (off:=a.length) (t:=false) (show k-1<k by omega)
   have Uz:=iL (σ := aa.of [(id,⟨us (a++b++t),1,false⟩)]) (q:=id) (b:=false) (by simp [aa.of]) (ur (t:=t) (rfl:a.length=a.length) ZW)
   have IQ:=Oc (id:=id) (k:=1) (off:=a.length) (len:=k) (h:=k-1) (Nat.sub_le _ _)
   by_cases hz:w=0
   . have d1:decide ((w:Int)=0)=true:=ao (by omega)
     simp only [SS,Nat.reduceAdd,d0,uK,iA,Uz,d1,IQ]
     refine ⟨(k-1,_),⟨by simp only [];omega, ?_⟩,by simp only [];omega,Wk.slots (by simp [Fg]) (Nat.le_refl _)⟩
     simp only []
     rw [<- hv,JX,hz,ky]
   . have d1:decide ((w:Int)=0)=false:=ak (by omega)
     have e:ah (val b)=k:=by
       have e1:digits (val b)=b.take k:=by
         rw [<- hv]
         exact lD (q8 hw k) (.inr ⟨w,by rw [JX];simp,hz⟩)
       rw [ah,e1,List.length_take];omega
     simp only [SS,Nat.reduceAdd,d0,uK,iA,Uz,d1,e]
     exact aS▸aA rfl fun i => .inr rfl
set_option maxHeartbeats 1000000 in
theorem Od {f ft:FuncId} (h:Has P f (dS ft)) (ht:gU P G ft) {id:Id} {a t:List Nat} (m n:Nat) (yi:n<=m) (hm:ah m<=1000000) (p:Id) (hid:∀ x,id≠x::p) :
   aB P G f [.osl id 1 a.length (ah m) false,W n] p [(id,⟨us (a++digits m++t),1,false⟩)] { val:=W (m-n),rd:=[id],up:=[] }:=by
 refine aB.has h ?_
 have hwn:=cP yi
 have Q5:=hid 3
 have xh:∀ p:Id,kX p 1 4 (.int .u32 0) (.int .i64 (ah m:Int)) (.int .i64 (ah m:Int))=some { val := .osl p 1 0 (ah m) false,up:=[(p,some ⟨us (List.replicate (ah m) 0),1,false⟩)] }:=fun p=>mD (by omega)
 simp only [dS,SS,Nat.reduceAdd,xh,aC]
 refine VW.bJ (α := Nat × Nat × List Nat × Nat) (fun x=>⟨[.osl id 1 a.length (ah m) false,W n, .top, .top, .top, .osl (3::p) 1 0 (ah m) false, .int .u64 (x.2.2.2:Int), .int .i64 (x.1:Int)]++List.replicate 40 .top,
   aa.put (aa.of [(id,⟨us (a++digits m++t),1,false⟩)]) (3::p) (some ⟨us (x.2.2.1++zs (ah m-x.1)),1,false⟩),x.2.1⟩)
   (fun x=>x.1<=ah m/\x.2.2.1.length=x.1/\Wd x.2.2.1/\x.2.2.2<=1/\val x.2.2.1+val ((digits n).take x.1)=val ((digits m).take x.1)+au ^ x.1*x.2.2.2) (fun x=>ah m-x.1) (0,1000,[],0) ?_ ?_ ?_
 . exact Wk.slots (by simp [Fg,List.replicate]) (by simp only [];omega)
 . exact ⟨Nat.zero_le _,rfl,by intro w hw;simp at hw,Nat.zero_le _,by simp [val]⟩
 rintro ⟨i,nn,o,c⟩ ⟨hi,ho,hwd,hc,hv⟩
 simp only [] at hi ho hwd hc hv
 have qD:i<ah m->decide ((i:Int)<(ah m:Int))=true:=fun h=>ao (by omega)
 have tE : ¬ i<ah m->decide ((i:Int)<(ah m:Int))=false:=fun h=>ak (by omega)
 have Iv:i<ah n->decide ((i:Int)<(ah n:Int))=true:=fun h=>ao (by omega)
 have Iw : ¬ i<ah n->decide ((i:Int)<(ah n:Int))=false:=fun h=>ak (by omega)
 have dt : ¬ i<ah m->i=ah m:=by omega
 have rb:=aq i (by omega)
 have l7:i<ah m->i+1<=ah m/\ah m-(i+1)<ah m-i:=fun h=>by omega
 by_cases hlt:i<ah m
 . obtain ⟨x,hx⟩:∃ x,(digits m)[i]? = some x:=⟨_,List.getElem?_eq_getElem hlt⟩
   have qE:=aO m x (List.mem_of_getElem? hx)
   have f1:=bn x qE
   have iA:=cB (q:=3::p) (t:=false) hlt
   have YZ:=nX (q:=id) (off:=a.length) (t:=false) hlt
   obtain ⟨k,hk⟩:∃ k,ah m-i=k+1:=⟨ah m-i-1,by omega⟩
   have Bd:ah m-(i+1)=k:=by omega
   have mU:i<(o++0::zs k).length:=by simp;omega
   have Uz:=iL (σ := aa.put (aa.of [(id,⟨us (a++digits m++t),1,false⟩)]) (3::p) (some ⟨us (o++0::zs k),1,false⟩)) (q:=id) (b:=false) (by simp [aa.of,aa.put,Q5]) (ur (t:=t) (rfl:a.length=a.length) hx)
   by_cases hb:i<ah n
   . obtain ⟨y,hy⟩:∃ y,(digits n)[i]? = some y:=⟨_,List.getElem?_eq_getElem hb⟩
     have AR:=aO n y (List.mem_of_getElem? hy)
     have f3:=bn y AR
     obtain ⟨w,c',h1,h2,h3,d,h4,h5,h6⟩:=wT qE AR hc
     have hst:=mL (va:=val ((digits m).take i)) (vb:=val ((digits n).take i)) (x:=x) (y:=y) (c:=c) (w:=w) (c':=c') ho (by rw [hv];omega) h3
     simp only [SS,Nat.reduceAdd,bh,qD hlt,hk,iM,YZ,Uz,bm,f1,Iv hb,db hy,az,f3,h4,h5,iA]
     rw [bR (o:=o++0::zs k) (by simp [aa.put]) mU,fA _ _ _ _ ho]
     simp only [SS,Nat.reduceAdd,nM,h6,rb]
     refine ⟨(i+1,_,o++[w],c'),⟨(l7 hlt).1,by simp [ho],cw hwd (by intro z hz;simp at hz;subst hz;exact h1),h2, ?_⟩,(l7 hlt).2,Wk.forget (by simp [Fg]) (fun j => ?_) (Nat.le_refl _)⟩
     . show val (o++[w])+val ((digits n).take (i+1))=val ((digits m).take (i+1))+_
       rw [aE hx,aE hy];exact hst
     . simp only [aa.put,Bd];split<;>simp
   . obtain ⟨w,c',h1,h2,h3,d,h4,h5,h6⟩:=wT (y:=0) qE cV hc
     have h4':IntKind.u64.wrap (IntKind.u64.wrap (IntKind.u64.wrap ((x:Int)+4294967296)-0)-(c:Int))=(d:Int):=h4
     have hst:=mL (va:=val ((digits m).take i)) (vb:=val ((digits n).take i)) (x:=x) (y:=0) (c:=c) (w:=w) (c':=c') ho (by rw [hv];omega) h3
     rw [Nat.mul_zero,Nat.add_zero] at hst
     simp only [SS,Nat.reduceAdd,bh,qD hlt,hk,iM,YZ,Uz,f1,Iw hb,h4',h5,iA]
     rw [bR (o:=o++0::zs k) (by simp [aa.put]) mU,fA _ _ _ _ ho]
     simp only [SS,Nat.reduceAdd,nM,h6,rb]
     refine ⟨(i+1,_,o++[w],c'),⟨(l7 hlt).1,by simp [ho],cw hwd (by intro z hz;simp at hz;subst hz;exact h1),h2, ?_⟩,(l7 hlt).2,Wk.forget (by simp [Fg]) (fun j => ?_) (Nat.le_refl _)⟩
     . show val (o++[w])+val ((digits n).take (i+1))=val ((digits m).take (i+1))+_
       rw [aE hx,ja (show (digits n).length<=i from by show ah n<=i;omega)];exact hst
     . simp only [aa.put,Bd];split<;>simp
 . have ou:=dt hlt
   have e1:(digits m).take (ah m)=digits m:=List.take_of_length_le (Nat.le_refl _)
   have e2:(digits n).take (ah m)=digits n:=List.take_of_length_le (by show ah n<=ah m;omega)
   have xM:val o=m-n:=by
     rw [ou,e1,e2,aI,aI] at hv
     have rA:=lC hwd
     rw [ho,ou] at rA
     rcases Nat.eq_zero_or_pos c with h0 | h0
     . subst h0;omega
     . have:c=1:=by omega
       subst this;have:=cN m;omega
   have uV:ah m=o.length:=by omega
   have e3:zs (ah m-i)=[]:=by rw [ou,Nat.sub_self];rfl
   have xz:=ht o hwd (by omega)
   rw [xM] at xz
   simp only [SS,Nat.reduceAdd,tE hlt,e3]
   refine cM [(3::p,⟨us o,1,false⟩)] xz (aW.cons (gJ uV) aW.nil) (by simp [aa.put]) ?_
   simp only [SS,Nat.reduceAdd]
   refine aS▸aA rfl fun i => ?_
   by_cases e:i=id
   . subst e;right;simp [aa.app,rC,aa.put,aa.of,Q5]
   . left;simp [aa.app,aa.of,List.lookup,show (i==id)=false from by simpa using e]
end
end Go.VL
end

section
set_option linter.unusedVariables false
namespace Go.VL
theorem Q6 {num h V D x0 M u' l v':Nat} (h0:0<h) (hV:V=(h*au+l)*M+v') (hD:D=(num*au+x0)*M+u') (hx:x0<au) (hu:u'<M) (Tm:D/V<au):D/V<=min (num/h) (au-1):=by
 have:=IJ h0 hV hD hx hu
 omega
section
variable {P:Program} {G:Nat->Option (List AV)}
set_option maxHeartbeats 1000000 in
theorem Oe {f ft fti fc fm:FuncId} (h:Has P f (gI fti ft fc fm)) (BO:∀ (m:Nat) (ws:List Nat),Wd ws->ah m<=1000000->ws.length<=1000000->VP P G fti [W m, .sl 1 (us ws)] (W (m*val ws)))
   (MM:Has P ft du) (hc:∀ m n,ah m<=1000000->ah n<=1000000->VP P G fc [W m,W n] (.int .i64 (gp m n))) (hmi:∀ m n,n<=m->ah m<=1000000->VP P G fm [W m,W n] (W (m-n)))
   {id:Id} {a b t:List Nat} {V k:Nat} (hV:ah V=k+2) (hb:b.length=k+3) (G4:Wd b) (Wc:val b<au*V) (hk:k<=900000) (p:Id) (hid:∀ x,id≠x::p) :
   aB P G f [.osl id 1 a.length (k+3) false,W V] p [(id,⟨us (a++b++t),1,false⟩)] { val := .tup [.int .u32 ((val b/V:Nat):Int),W (V*(val b/V))],rd:=[id],up:=[] }:=by
 refine aB.has h ?_
 obtain ⟨hh,QV⟩:∃ y,(digits V)[k+1]? = some y:=⟨_,List.getElem?_eq_getElem (by show k+1<ah V;omega)⟩
 obtain ⟨ll,llg⟩:∃ y,(digits V)[k]? = some y:=⟨_,List.getElem?_eq_getElem (by show k<ah V;omega)⟩
 have hhB:=aO V hh (List.mem_of_getElem? QV)
 obtain ⟨XL,YW⟩:=Z7 (aO V) hV QV llg
 rw [aI] at XL
 obtain ⟨YY,_,_,_,_⟩:=zu (k:=k+1) hV QV
 have Tl:0<V:=by
   rcases Nat.eq_zero_or_pos V with e | e
   . rw [e] at Wc;omega
   . exact e
 obtain ⟨x2,XS⟩:∃ z,b[k+2]? = some z:=⟨_,List.getElem?_eq_getElem (by omega)⟩
 obtain ⟨x1,Qw⟩:∃ z,b[k+1]? = some z:=⟨_,List.getElem?_eq_getElem (by omega)⟩
 obtain ⟨z0,Tj⟩:∃ z,b[k]? = some z:=⟨_,List.getElem?_eq_getElem (by omega)⟩
 have KB:=G4 x2 (List.mem_of_getElem? XS)
 have QX:=G4 x1 (List.mem_of_getElem? Qw)
 have QY:=G4 z0 (List.mem_of_getElem? Tj)
 obtain ⟨hD,YX⟩:=Z8 G4 hb XS Qw Tj
 rw [show x2*au+x1=au*x2+x1 from by rw [Nat.mul_comm]] at hD
 obtain ⟨num,Dq⟩:∃ z,z=au*x2+x1:=⟨_,rfl⟩
 rw [<- Dq] at hD
 have MN:num<18446744073709551616:=by rw [Dq];unfold au at *;omega
 have Tm:val b/V<au:=Nat.div_lt_of_lt_mul (by rw [Nat.mul_comm];exact Wc)
 have Gy:=Q6 YY XL hD QY YX Tm
 have io2:=nX (q:=id) (off:=a.length) (t:=false) (show k+2<k+3 by omega)
 have io1:=nX (q:=id) (off:=a.length) (t:=false) (show k+1<k+3 by omega)
 have ld2:=iL (σ := aa.of [(id,⟨us (a++b++t),1,false⟩)]) (q:=id) (b:=false) (by simp [aa.of]) (ur (t:=t) (rfl:a.length=a.length) XS)
 have ld1:=iL (σ := aa.of [(id,⟨us (a++b++t),1,false⟩)]) (q:=id) (b:=false) (by simp [aa.of]) (ur (t:=t) (rfl:a.length=a.length) Qw)
 have w2:=bn x2 KB
 have w1:=bn x1 QX
 have w0:=bn hh hhB
 have s2:=wh x2 KB
 have o2:=Dh x2 x1 KB QX
 rw [<- Dq] at o2
 have q1:=Di num hh MN (by omega)
 have p1:IntKind.i64.wrap (((k+2:Nat):Int)-1)=((k+1:Nat):Int):=by rw [IntKind.wrap_i64];omega
 have hwD:ah (val b)<=1000000:=by
   have h1:=lC G4
   rw [hb] at h1
   have:=jg h1;omega
 have XV:=Dt (G:=G) MM (id:=id) (a:=a) (b:=b) (t:=t) G4 (by omega)
 rw [hb] at XV
 obtain ⟨z,hz⟩:=trimmed b G4
 have LC:View (aa.of [(id,⟨us (a++b++t),1,false⟩)]) (.osl id 1 a.length (ah (val b)) false) (W (val b)):=by
   have:a++b++t=a++digits (val b)++(zs z++t):=by
     conv=>lhs;rw [hz]
     simp
   rw [this]
   exact IX rfl
 have Q5:∀ x,id≠x::p:=hid
 simp only [gI,SS,DD,Nat.reduceAdd,bh,hV,io2,io1,ld2,ld1,w2,w1,s2,o2,p1,db QV,az,bm,w0,q1]
 refine ⟨by simp [ar], ?_⟩
 by_cases aao:(4294967295<num/hh)
 . have d1:decide ((4294967295:Int)<((num/hh:Nat):Int))=true:=by first | exact ao (by omega) | exact ak (by omega)
   obtain ⟨q0,hq0⟩:∃ q0:Nat,q0=4294967295:=⟨_,rfl⟩
   have KE:q0<au:=by unfold au;omega
   have XW:val b/V<=q0:=by unfold au at Gy;omega
   have f3:IntKind.u32.wrap (q0:Int)=(q0:Int):=by rw [uQ,Nat.mod_eq_of_lt KE]
   have qF:∀ (σ : aa) (q:Id),b8 σ q (.buildSl 1 1 (.int .u32 0) [(0, .int .u32 (q0:Int))])=some { val := .osl q 1 0 1 false,up:=[(q,some ⟨us [q0],1,false⟩)] }:=fun σ q=>xA
   have KA:=BO V [q0] (by intro w hw;simp at hw;subst hw;exact KE) (by omega) (by simp)
   rw [show val [q0]=q0 from by simp [val]] at KA
   have f3q:IntKind.u32.wrap 4294967295=(q0:Int):=by rw [<- f3,hq0];try rfl
   simp only [SS,Nat.reduceAdd,d1,f3q,qF]
   refine cM [(32::p,⟨us [q0],1,false⟩)] KA (aW.cons (View.pure (aJ _)) (aW.cons (gJ rfl) aW.nil)) (by simp [aa.put]) ?_
   simp only [SS,Nat.reduceAdd,aC]
   refine VW.bJ (α := Nat × Nat) (fun x=>⟨[.osl id 1 a.length (k+3) false,W V, .top, .top, .top, .top, .top, .int .u64 (x.1:Int),W (V*x.1)]++List.replicate 42 .top,aa.of [(id,⟨us (a++b++t),1,false⟩)],x.2⟩)
     (fun x=>val b/V<=x.1/\x.1<au) (fun x=>x.1) (q0,1000) ?_ ?_ ?_
   . refine Wk.forget (by simp [Fg,List.replicate,hq0]) (fun j => ?_) (by simp only [];omega)
     by_cases e:j=id
     . subst e;right;simp [aa.app,rC,aa.put,aa.of,Q5]
     . left;simp [aa.of,List.lookup,show (j==id)=false from by simpa using e]
   . exact ⟨XW,KE⟩
   rintro ⟨q,nn⟩ ⟨hq1,NH⟩
   simp only [] at hq1 NH
   have hwq:ah (V*q)<=1000000:=by
     have h1:=ql V q
     have h2:ah q<=1:=jg (by simpa using NH)
     omega
   have hcv:=hc (val b) (V*q) hwD hwq
   simp only [SS,Nat.reduceAdd]
   refine ⟨[(id,⟨us (a++b++t),1,false⟩)],_,XV _,by simp [aa.of],by simp, ?_⟩
   simp only [SS,Nat.reduceAdd]
   refine iG [(id,⟨us (a++b++t),1,false⟩)] hcv (aW.cons LC (aW.cons (View.pure (aJ _)) aW.nil)) (fun _ _ _ _ _ h=>by simpa [aL] using h) (by simp [aa.of]) ?_
   by_cases hlt:val b<V*q
   . have d2:decide (gp (val b) (V*q)<0)=true:=ao (by simp only [gp,iZ];rw [if_pos (by omega)];decide)
     have hqp:1<=q:=by
       rcases Nat.eq_zero_or_pos q with e | e
       . rw [e] at hlt;omega
       . exact e
     have hle:val b/V<=q-1:=by
       have:=(Nat.div_lt_iff_lt_mul Tl).2 (by rw [Nat.mul_comm] at hlt;exact hlt)
       omega
     have pq:IntKind.u64.wrap ((q:Int)-1)=((q-1:Nat):Int):=by rw [IntKind.wrap_u64];unfold au at NH;omega
     have MH:=hmi (V*q) V (Nat.le_mul_of_pos_right _ hqp) hwq
     have em:V*q-V=V*(q-1):=by rw [Nat.mul_sub,Nat.mul_one]
     rw [em] at MH
     simp only [SS,Nat.reduceAdd,d2,pq]
     refine aj MH (by simp [aJ]) ?_
     simp only [SS,Nat.reduceAdd]
     exact ⟨(q-1,_),⟨hle,by simp only [];omega⟩,by simp only [];omega,Wk.slots (by simp [Fg]) (Nat.le_refl _)⟩
   . have d2:decide (gp (val b) (V*q)<0)=false:=ak (by simp only [gp,iZ];rw [if_neg (by omega)];split<;>decide)
     have Ut:q=val b/V:=by
       have:=(Nat.le_div_iff_mul_le Tl).2 (show q*V<=val b by rw [Nat.mul_comm];omega)
       omega
     have f4:IntKind.u32.wrap (q:Int)=(q:Int):=by rw [uQ,Nat.mod_eq_of_lt NH]
     simp only [SS,Nat.reduceAdd,d2,f4]
     rw [<- Ut]
     exact aS▸aA rfl fun i => .inr rfl
 by_cases XX:(¬ 4294967295<num/hh)
 . have d1:decide ((4294967295:Int)<((num/hh:Nat):Int))=false:=by first | exact ao (by omega) | exact ak (by omega)
   obtain ⟨q0,hq0⟩:∃ q0:Nat,q0=(num/hh):=⟨_,rfl⟩
   have KE:q0<au:=by unfold au;omega
   have XW:val b/V<=q0:=by unfold au at Gy;omega
   have f3:IntKind.u32.wrap (q0:Int)=(q0:Int):=by rw [uQ,Nat.mod_eq_of_lt KE]
   have qF:∀ (σ : aa) (q:Id),b8 σ q (.buildSl 1 1 (.int .u32 0) [(0, .int .u32 (q0:Int))])=some { val := .osl q 1 0 1 false,up:=[(q,some ⟨us [q0],1,false⟩)] }:=fun σ q=>xA
   have KA:=BO V [q0] (by intro w hw;simp at hw;subst hw;exact KE) (by omega) (by simp)
   rw [show val [q0]=q0 from by simp [val]] at KA
   have f3q:IntKind.u32.wrap ((num/hh:Nat):Int)=(q0:Int):=by rw [<- f3,hq0];try rfl
   simp only [SS,Nat.reduceAdd,d1,f3q,qF]
   refine cM [(31::p,⟨us [q0],1,false⟩)] KA (aW.cons (View.pure (aJ _)) (aW.cons (gJ rfl) aW.nil)) (by simp [aa.put]) ?_
   simp only [SS,Nat.reduceAdd,aC]
   refine VW.bJ (α := Nat × Nat) (fun x=>⟨[.osl id 1 a.length (k+3) false,W V, .top, .top, .top, .top, .top, .int .u64 (x.1:Int),W (V*x.1)]++List.replicate 42 .top,aa.of [(id,⟨us (a++b++t),1,false⟩)],x.2⟩)
     (fun x=>val b/V<=x.1/\x.1<au) (fun x=>x.1) (q0,1000) ?_ ?_ ?_
   . refine Wk.forget (by simp [Fg,List.replicate,hq0]) (fun j => ?_) (by simp only [];omega)
     by_cases e:j=id
     . subst e;right;simp [aa.app,rC,aa.put,aa.of,Q5]
     . left;simp [aa.of,List.lookup,show (j==id)=false from by simpa using e]
   . exact ⟨XW,KE⟩
   rintro ⟨q,nn⟩ ⟨hq1,NH⟩
   simp only [] at hq1 NH
   have hwq:ah (V*q)<=1000000:=by
     have h1:=ql V q
     have h2:ah q<=1:=jg (by simpa using NH)
     omega
   have hcv:=hc (val b) (V*q) hwD hwq
   simp only [SS,Nat.reduceAdd]
   refine ⟨[(id,⟨us (a++b++t),1,false⟩)],_,XV _,by simp [aa.of],by simp, ?_⟩
   simp only [SS,Nat.reduceAdd]
   refine iG [(id,⟨us (a++b++t),1,false⟩)] hcv (aW.cons LC (aW.cons (View.pure (aJ _)) aW.nil)) (fun _ _ _ _ _ h=>by simpa [aL] using h) (by simp [aa.of]) ?_
   by_cases hlt:val b<V*q
   . have d2:decide (gp (val b) (V*q)<0)=true:=ao (by simp only [gp,iZ];rw [if_pos (by omega)];decide)
     have hqp:1<=q:=by
       rcases Nat.eq_zero_or_pos q with e | e
       . rw [e] at hlt;omega
       . exact e
     have hle:val b/V<=q-1:=by
       have:=(Nat.div_lt_iff_lt_mul Tl).2 (by rw [Nat.mul_comm] at hlt;exact hlt)
       omega
     have pq:IntKind.u64.wrap ((q:Int)-1)=((q-1:Nat):Int):=by rw [IntKind.wrap_u64];unfold au at NH;omega
     have MH:=hmi (V*q) V (Nat.le_mul_of_pos_right _ hqp) hwq
     have em:V*q-V=V*(q-1):=by rw [Nat.mul_sub,Nat.mul_one]
     rw [em] at MH
     simp only [SS,Nat.reduceAdd,d2,pq]
     refine aj MH (by simp [aJ]) ?_
     simp only [SS,Nat.reduceAdd]
     exact ⟨(q-1,_),⟨hle,by simp only [];omega⟩,by simp only [];omega,Wk.slots (by simp [Fg]) (Nat.le_refl _)⟩
   . have d2:decide (gp (val b) (V*q)<0)=false:=ak (by simp only [gp,iZ];rw [if_neg (by omega)];split<;>decide)
     have Ut:q=val b/V:=by
       have:=(Nat.le_div_iff_mul_le Tl).2 (show q*V<=val b by rw [Nat.mul_comm];omega)
       omega
     have f4:IntKind.u32.wrap (q:Int)=(q:Int):=by rw [uQ,Nat.mod_eq_of_lt NH]
     simp only [SS,Nat.reduceAdd,d2,f4]
     rw [<- Ut]
     exact aS▸aA rfl fun i => .inr rfl
 exact absurd aao XX
end
end Go.VL
end
