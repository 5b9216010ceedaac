/- For the claim of HistoryValid: parts CI21, CI22, CI23, KD, KE, VL31, CI24, CR1, CR2, CR3, CR4, CR5, CR6, CR7. -/
import Derived.Test.YtcomlgfjnjpebaaGreatDoorC06
import Derived.Test.YtcomlgfjnjpebaaGreatDoorC05
set_option linter.unusedSimpArgs false
set_option linter.unusedVariables false
section
set_option linter.unusedVariables false
namespace Go.VL
def IR (neg:Bool) (ws:List Nat):AV := .agg [.bool neg, .sl 1 (us ws)]
theorem x9 (neg:Bool) (ws:List Nat):((IR neg ws).cells.all AV.one=true)=True:=by simp [IR,AV.cells,AV.one]
theorem QJ (neg:Bool) (ws:List Nat):part false (IR neg ws).cells 0 1=some (.bool neg):=rfl
theorem Iv (neg:Bool) (ws:List Nat):part false (IR neg ws).cells 1 1=some (.sl 1 (us ws)):=rfl
def iv (neg:Bool) (ws:List Nat):Bool:=if ws=[] then !neg else decide (ws[ws.length-1]?.getD 0≠0)
theorem MC {neg:Bool} {ws:List Nat} (hw:Wd ws) (h:iv neg ws=true):IR neg ws=IV (jB neg (val ws)):=by
 unfold iv at h
 by_cases h0:ws=[]
 . subst h0
   rw [if_pos rfl] at h
   have:neg=false:=by simpa using h
   subst this
   simp [IR,IV,jB,val,W,bq,us]
 . rw [if_neg h0] at h
   have hl:0<ws.length:=List.length_pos_iff.2 h0
   obtain ⟨w,wN⟩:∃ w,ws[ws.length-1]? = some w:=⟨_,List.getElem?_eq_getElem (by omega)⟩
   rw [wN] at h
   have hwz:w≠0:=by simpa using h
   have hd:digits (val ws)=ws:=lz hw (.inr ⟨w,by rw [List.getLast?_eq_getElem?];exact wN,hwz⟩)
   have hne:val ws≠0:=fun e=>h0 (by rw [<- hd,e,bq])
   have e1:decide (jB neg (val ws)<0)=neg:=by cases neg<;>simp [jB]<;>omega
   have e2:(jB neg (val ws)).natAbs=val ws:=by cases neg<;>simp [jB]
   unfold IV IR W
   rw [e1,e2,hd]
section
variable {P:Program} {G:Nat->Option (List AV)}
theorem NU {f:FuncId} (h:Has P f o9) (neg:Bool) (ws:List Nat) (hl:ws.length<=9223372036854775807):VP P G f [IR neg ws] (.bool (iv neg ws)):=by
 refine VP.has h ?_
 have hlen:jK false (.sl 1 (us ws))=some (.int .i64 ws.length):=by simp [jK,dD]
 simp only [o9,SS,Nat.reduceAdd,x9,ae,Iv,hlen]
 by_cases h0:ws=[]
 . have d0:decide ((ws.length:Int)=0)=true:=ao (by rw [h0];rfl)
   have d1:decide ((0:Int)<(ws.length:Int))=false:=ak (by rw [h0];simp)
   have e:iv neg ws = !neg:=by unfold iv;rw [if_pos h0]
   rw [e]
   cases neg <;>
   . simp only [SS,Nat.reduceAdd,d0,d1,ae,QJ]
     exact ag▸ab rfl (af.bool _)
 . have ot:0<ws.length:=List.length_pos_iff.2 h0
   have d0:decide ((ws.length:Int)=0)=false:=ak (by omega)
   have d1:decide ((0:Int)<(ws.length:Int))=true:=ao (by omega)
   obtain ⟨w,hw⟩:∃ w,ws[ws.length-1]? = some w:=⟨_,List.getElem?_eq_getElem (by omega)⟩
   have hp:=rZ ws.length ot hl
   have e:iv neg ws=decide ((w:Int)≠0):=by unfold iv;rw [if_neg h0,hw];simp
   rw [e]
   simp only [SS,Nat.reduceAdd,d0,d1,ae,Iv,hp,aQ rfl (rY hw),az,bm]
   exact ag▸ab rfl (af.bool _)
end
end Go.VL
end

section
set_option linter.unusedVariables false
namespace Go.VL
def RR (n1:Bool) (w1:List Nat) (n2:Bool) (w2:List Nat):AV := .agg [.bool n1, .sl 1 (us w1), .bool n2, .sl 1 (us w2)]
theorem wO (neg:Bool) (ws:List Nat):af (IR neg ws):=af.agg (by intro c hc;simp at hc;rcases hc with rfl | rfl;exact af.bool _;exact kO _)
theorem Dc (n1:Bool) (w1:List Nat) (n2:Bool) (w2:List Nat):((RR n1 w1 n2 w2).cells.all AV.one=true)=True:=by simp [RR,AV.cells,AV.one]
theorem VZ (n1:Bool) (w1:List Nat) (n2:Bool) (w2:List Nat):part true (RR n1 w1 n2 w2).cells 0 2=some (IR n1 w1):=rfl
theorem QK (n1:Bool) (w1:List Nat) (n2:Bool) (w2:List Nat):part true (RR n1 w1 n2 w2).cells 2 2=some (IR n2 w2):=rfl
section
variable {P:Program} {G:Nat->Option (List AV)}
theorem Ff {f fv fs fg fo:FuncId} (h:Has P f (lH fv fs fg fo)) (n1:Bool) (w1:List Nat) (n2:Bool) (w2:List Nat) (uJ:Wd w1) (wN:Wd w2) (g:Int)
   (pj:VP P G fv [IR n1 w1] (.bool (iv n1 w1))) (tk:VP P G fv [IR n2 w2] (.bool (iv n2 w2))) (hs:VP P G fs [IV (jB n2 (val w2))] (.int .i64 (jB n2 (val w2)).sign))
   (hg:0<jB n2 (val w2)->VP P G fg [IV (jB n1 (val w1)),IV (jB n2 (val w2))] (IV g)) (ho:VP P G fo [IV g] (.bool (decide (g=1)))) :
   VP P G f [RR n1 w1 n2 w2] (.bool (iv n1 w1&&iv n2 w2&&decide (0<jB n2 (val w2))&&decide (g=1))):=by
 refine VP.has h ?_
 simp only [lH,SS,Nat.reduceAdd,Dc,ae,VZ]
 refine aj pj (by simp [wO]) ?_
 by_cases c1:iv n1 w1=true
 . have e1:=MC uJ c1
   simp only [SS,Nat.reduceAdd,c1,ae,QK,Bool.true_and]
   refine aj tk (by simp [wO]) ?_
   by_cases c2:iv n2 w2=true
   . have e2:=MC wN c2
     simp only [SS,Nat.reduceAdd,c2,ae,QK,Bool.true_and,e2]
     refine aj hs (by simp [aF]) ?_
     by_cases c3:0<jB n2 (val w2)
     . have d3:decide (0<(jB n2 (val w2)).sign)=true:=ao (by rw [Int.sign_eq_one_of_pos c3];decide)
       have d4:decide (0<jB n2 (val w2))=true:=ao c3
       simp only [SS,Nat.reduceAdd,d3,d4,ae,VZ,QK,Bool.true_and,e1,e2]
       refine aj (hg c3) (by simp [aF]) ?_
       simp only [SS,Nat.reduceAdd]
       refine aj ho (by simp [aF]) ?_
       simp only [SS,Nat.reduceAdd]
       exact ag▸ab rfl (af.bool _)
     . have d3:decide (0<(jB n2 (val w2)).sign)=false:=ak (by rcases mA (jB n2 (val w2)) with ⟨e,p⟩ | ⟨e,p⟩ | ⟨e,p⟩<;>omega)
       have d4:decide (0<jB n2 (val w2))=false:=ak c3
       simp only [SS,Nat.reduceAdd,d3,d4,Bool.false_and]
       exact ag▸ab rfl (af.bool _)
   . have c2':iv n2 w2=false:=by simpa using c2
     simp only [SS,Nat.reduceAdd,c2',Bool.false_and]
     exact ag▸ab rfl (af.bool _)
 . have c1':iv n1 w1=false:=by simpa using c1
   simp only [SS,Nat.reduceAdd,c1',Bool.false_and]
   exact ag▸ab rfl (af.bool _)
end
end Go.VL
end

section
set_option linter.unusedVariables false
namespace Go.VL
theorem qX {n:Nat} (h:ah n<=2):n<18446744073709551616:=by
 have h1:=cN n
 have h2:au ^ ah n<=au ^ 2:=Nat.pow_le_pow_right cV h
 have h3:au ^ 2=18446744073709551616:=by decide
 omega
theorem wj {x y g:Nat} (hg:Nat.gcd x y=g):Nat.gcd y (x%y)=g:=by rw [<- hg,Nat.gcd_comm y, <- Nat.gcd_rec,Nat.gcd_comm]
theorem nW (n:Nat):jB false n=(n:Int):=by simp [jB]
section
variable {P:Program} {G:Nat->Option (List AV)}
theorem Xs {f ft fd fc fs ZY fu:FuncId} (h:Has P f (rG ft fd fc fs ZY fu)) (ht:gU P G ft) (hd:∀ m n,n≠0->ah m<=900000->ah n<=900000->VP P G fd [W m,W n] (.tup [W (m/n),W (m%n)]))
   (hc:∀ n,ah n<=1000000->VP P G fc [W n] (W n)) (hs:jh P G fs) (V0:∀ n,n<18446744073709551616->VP P G ZY [W n] (.int .u64 ((n:Nat):Int))) (hu:∀ n,n<18446744073709551616->VP P G fu [.int .u64 ((n:Nat):Int)] (W n))
   (a b:Int) (ha:ah a.natAbs<=900000) (hb:ah b.natAbs<=900000):VP P G f [IV a,IV b] (IV (Nat.gcd a.natAbs b.natAbs:Nat)):=by
 refine VP.has h ?_
 have eD:([0]:List Nat)≠[1]:=by decide
 have mP:([0]:List Nat)≠[2]:=by decide
 have nV:([1]:List Nat)≠[2]:=by decide
 simp only [rG,SS,DD,Nat.reduceAdd,ia,cx,ai eD,ai mP,ae,iq]
 refine ax (qi ht a.natAbs (by omega)) (by simp [aJ]) ?_
 simp only [SS,DD,Nat.reduceAdd,ai nV,ae,iq]
 refine ax (qi ht b.natAbs (by omega)) (by simp [aJ]) ?_
 simp only [SS,DD,Nat.reduceAdd]
 refine ⟨by simp [ar,apart], ?_⟩
 simp only [aD]
 refine VW.bL (α := Nat × Nat × Nat) (fun x=>⟨[IV a,IV b, .top, .top, .ref [2] 0 0,W x.1,W x.2.1]++List.replicate 50 .top,
   aa.put (fun _=>none) [2] (some ⟨[.agg [.bool false, .nils]],(AV.agg [.bool false, .nils]).size,false⟩),x.2.2⟩)
   (fun x=>Nat.gcd x.1 x.2.1=Nat.gcd a.natAbs b.natAbs/\ah x.1<=900000/\ah x.2.1<=900000) (fun x=>x.2.1) (a.natAbs,b.natAbs,1000) ?_ ?_ ?_
 . exact Wk.forget (by simp [Fg,List.replicate]) (fun j=>by simp only [aa.put];split<;>simp_all) (by simp only [];omega)
 . exact ⟨rfl,ha,hb⟩
 rintro ⟨x,y,nn⟩ ⟨hg,hx,hy⟩
 simp only [] at hg hx hy
 have g1:2<ah y->decide ((2:Int)<(ah y:Int))=true:=fun h=>ao (by omega)
 have g2 : ¬ 2<ah y->decide ((2:Int)<(ah y:Int))=false:=fun h=>ak (by omega)
 have g3:2<ah x->decide ((2:Int)<(ah x:Int))=true:=fun h=>ao (by omega)
 have g4 : ¬ 2<ah x->decide ((2:Int)<(ah x:Int))=false:=fun h=>ak (by omega)
 have g5:0<ah y->decide ((0:Int)<(ah y:Int))=true:=fun h=>ao (by omega)
 have g6 : ¬ 0<ah y->decide ((0:Int)<(ah y:Int))=false:=fun h=>ak (by omega)
 have e1:0<ah y->decide ((ah y:Int)=0)=false:=fun h=>ak (by omega)
 have e2 : ¬ 0<ah y->decide ((ah y:Int)=0)=true:=fun h=>ao (by omega)
 have Ui:0<ah y->y≠0:=fun h e=>by have:=bE.2 e;omega
 have JO : ¬ 0<ah y->y=0:=fun h=>bE.1 (by omega)
 have Y9:2<ah y->0<ah y:=fun h=>by omega
 have w1:=zo x y
 have wN:ah (x%y)<=900000:=by omega
 have Lk:ah x<=1000000:=by omega
 have hsx:ah x<=9223372036854775807:=by omega
 have YP : ¬ 2<ah x->x<18446744073709551616:=fun h=>qX (by omega)
 have hyy : ¬ 2<ah y->y<18446744073709551616:=fun h=>qX (by omega)
 have Bm:∀ g,g<18446744073709551616->ah g<=9223372036854775807:=fun g h=>by have:=nU g h;omega
 clear w1
 simp only [SS,Nat.reduceAdd]
 by_cases c1:2<ah y
 . have ot:=Y9 c1
   have Xt:=hd x y (Ui ot) hx hy
   simp only [SS,Nat.reduceAdd,bf,g1 c1]
   refine aj Xt (by simp [aJ]) ?_
   simp only [SS,Nat.reduceAdd,um,uo]
   exact ⟨(y,x%y,_),⟨wj hg,hy,wN⟩,Nat.mod_lt _ (Nat.pos_of_ne_zero (Ui ot)),Wk.slots (by simp [Fg]) (Nat.le_refl _)⟩
 by_cases c3:0<ah y
 . by_cases c2:2<ah x
   . have Xt:=hd x y (Ui c3) hx hy
     simp only [SS,Nat.reduceAdd,bf,g2 c1,g3 c2,g5 c3]
     refine aj Xt (by simp [aJ]) ?_
     simp only [SS,Nat.reduceAdd,um,uo]
     exact ⟨(y,x%y,_),⟨wj hg,hy,wN⟩,Nat.mod_lt _ (Nat.pos_of_ne_zero (Ui c3)),Wk.slots (by simp [Fg]) (Nat.le_refl _)⟩
   . simp only [SS,Nat.reduceAdd,bf,g2 c1,g4 c2,e1 c3]
     refine aj (V0 x (YP c2)) (by simp [aJ]) ?_
     simp only [SS,Nat.reduceAdd]
     refine aj (V0 y (hyy c1)) (by simp [aJ]) ?_
     simp only [SS,Nat.reduceAdd,aD]
     refine VW.bL (α := Nat × Nat × Nat) (fun x=>⟨[IV a,IV b, .top, .top, .ref [2] 0 0, .top, .top, .top, .top, .int .u64 ((x.1:Nat):Int), .int .u64 ((x.2.1:Nat):Int)]++List.replicate 46 .top,
       aa.put (fun _=>none) [2] (some ⟨[.agg [.bool false, .nils]],(AV.agg [.bool false, .nils]).size,false⟩),x.2.2⟩)
       (fun x=>Nat.gcd x.1 x.2.1=Nat.gcd a.natAbs b.natAbs/\x.1<18446744073709551616/\x.2.1<18446744073709551616) (fun x=>x.2.1) (x,y,nn+1000) ?_ ?_ ?_
     . exact Wk.slots (by simp [Fg,List.replicate]) (by simp only [];omega)
     . exact ⟨hg,YP c2,hyy c1⟩
     rintro ⟨u,v,mm⟩ ⟨JT,JP,hv'⟩
     simp only [] at JT JP hv'
     by_cases v0:v=0
     . subst v0
       have d0:decide (((0:Nat):Int)≠0)=false:=by decide
       rw [Nat.gcd_zero_right] at JT
       have lY:=hs false u (Bm u JP)
       rw [nW] at lY
       simp only [SS,Nat.reduceAdd,d0]
       refine aj (hu u JP) (by simp [af.int]) ?_
       simp only [SS,Nat.reduceAdd]
       refine aj lY (by simp [af.bool,aJ]) ?_
       simp only [SS,Nat.reduceAdd,gy]
       rw [<- JT]
       refine ag▸ab (r:=IV (u:Int)) ?_ (aF _)
       simp only [RS,bR,cv,ae];rfl
     . have d0:decide ((v:Int)≠0)=true:=ao (by omega)
       have f1:=C9 u v v0
       have hlt:u%v<18446744073709551616:=Nat.lt_of_le_of_lt (Nat.mod_le _ _) JP
       simp only [SS,DD,Nat.reduceAdd,d0,f1]
       first
       | exact ⟨(v,u%v,_),⟨wj JT,hv',hlt⟩,Nat.mod_lt _ (Nat.pos_of_ne_zero v0),Wk.slots (by simp [Fg,List.replicate]) (Nat.le_refl _)⟩
       | exact ⟨by simp [ar,apart],(v,u%v,_),⟨wj JT,hv',hlt⟩,Nat.mod_lt _ (Nat.pos_of_ne_zero v0),Wk.slots (by simp [Fg]) (Nat.le_refl _)⟩
 . have hyz:=JO c3
   rw [hyz,Nat.gcd_zero_right] at hg
   have lY:=hs false x hsx
   rw [nW] at lY
   by_cases c2:2<ah x
   . simp only [SS,Nat.reduceAdd,bf,g2 c1,g3 c2,g6 c3,e2 c3]
     refine aj (hc x Lk) (by simp [aJ]) ?_
     simp only [SS,Nat.reduceAdd]
     refine aj lY (by simp [af.bool,aJ]) ?_
     simp only [SS,Nat.reduceAdd,gy]
     rw [<- hg]
     refine ag▸ab (r:=IV (x:Int)) ?_ (aF _)
     simp only [RS,bR,cv,ae];rfl
   . simp only [SS,Nat.reduceAdd,bf,g2 c1,g4 c2,e2 c3]
     refine aj (hc x Lk) (by simp [aJ]) ?_
     simp only [SS,Nat.reduceAdd]
     refine aj lY (by simp [af.bool,aJ]) ?_
     simp only [SS,Nat.reduceAdd,gy]
     rw [<- hg]
     refine ag▸ab (r:=IV (x:Int)) ?_ (aF _)
     simp only [RS,bR,cv,ae];rfl
end
end Go.VL
end

section
namespace Go.VL
section
variable {b M h l v' V num u2 u' U:Nat}
theorem ZZ (hV:V=(h*b+l)*M+v'):V=h*(b*M)+l*M+v':=by rw [hV,Nat.add_mul,Nat.mul_assoc]
theorem adi (hU:U=(num*b+u2)*M+u'):U=num*(b*M)+u2*M+u':=by rw [hU,Nat.add_mul,Nat.mul_assoc]
theorem Z0 (h2:u2<b) (h1:u'<M):u2*M+u'<b*M:=by
 have:(u2+1)*M<=b*M:=Nat.mul_le_mul_right _ h2
 rw [Nat.add_mul] at this;omega
theorem Iw (h0:0<h) (hV:V=(h*b+l)*M+v') (hU:U=(num*b+u2)*M+u') (h2:u2<b) (h1:u'<M):U/V<=num/h:=by
 have hbM:=Z0 h2 h1
 have eV:=ZZ hV
 have eU:=adi hU
 have O6:0<V:=by
   have:1*(b*M)<=h*(b*M):=Nat.mul_le_mul_right _ h0
   omega
 refine Nat.le_of_lt_succ ((Nat.div_lt_iff_lt_mul O6).2 ?_)
 have hq:num+1<=(num/h+1)*h:=by rw [Nat.mul_comm];exact Nat.lt_mul_div_succ num h0
 have h3:(num/h+1)*(h*(b*M))<=(num/h+1)*V:=Nat.mul_le_mul_left _ (by omega)
 have h4:(num+1)*(b*M)<=(num/h+1)*h*(b*M):=Nat.mul_le_mul_right _ hq
 rw [Nat.mul_assoc] at h4
 rw [Nat.add_mul] at h4
 show U<(num/h+1)*V
 omega
theorem Uj {q r:Nat} (hV:V=(h*b+l)*M+v') (hU:U=(num*b+u2)*M+u') (h1:u'<M) (hq:q*h+r=num) (ht:r*b+u2<q*l):U/V<=q-1:=by
 have h3:num*b+u2+1<=q*(h*b+l):=by
   rw [<- hq,Nat.add_mul,Nat.mul_add, <- Nat.mul_assoc];omega
 have h4:(num*b+u2+1)*M<=q*(h*b+l)*M:=Nat.mul_le_mul_right _ h3
 have h5:U<q*V:=by
   rw [hV,Nat.mul_add, <- Nat.mul_assoc]
   rw [Nat.add_mul] at h4
   omega
 have O6:0<V:=by
   rcases Nat.eq_zero_or_pos V with e | e
   . rw [e] at h5;simp at h5
   . exact e
 have:=(Nat.div_lt_iff_lt_mul O6).2 h5
 omega
theorem MD {q r:Nat} (h0:0<h) (hV:V=(h*b+l)*M+v') (hU:U=(num*b+u2)*M+u') (hv:v'<M) (hqb:q<b) (hq:q*h+r=num) (ht:q*l<=r*b+u2):q<=U/V+1:=by
 have h3:q*(h*b+l)<=num*b+u2:=by
   rw [<- hq,Nat.add_mul,Nat.mul_add, <- Nat.mul_assoc];omega
 have h4:q*(h*b+l)*M<=(num*b+u2)*M:=Nat.mul_le_mul_right _ h3
 have h5:q*v'<=b*M:=by
   have a1:q*v'<=b*v':=Nat.mul_le_mul_right _ (Nat.le_of_lt hqb)
   have a2:b*v'<=b*M:=Nat.mul_le_mul_left _ (Nat.le_of_lt hv)
   omega
 have eV:=ZZ hV
 have h6:1*(b*M)<=h*(b*M):=Nat.mul_le_mul_right _ h0
 have h7:q*V<=U+V:=by
   have:q*V=q*(h*b+l)*M+q*v':=by rw [hV,Nat.mul_add, <- Nat.mul_assoc]
   omega
 rcases Nat.eq_zero_or_pos q with e | e
 . rw [e];exact Nat.zero_le _
 . have h8:(q-1)*V<=U:=by
     have:q*V=(q-1)*V+V:=by
       have:=Nat.sub_add_cancel e
       calc q*V=(q-1+1)*V:=by rw [this]
         _=(q-1)*V+V:=by rw [Nat.add_mul,Nat.one_mul]
     omega
   have O6:0<V:=by
     have hM:0<M:=by omega
     have:0<b*M:=Nat.mul_pos (by omega) hM
     omega
   have:=(Nat.le_div_iff_mul_le O6).2 h8
   omega
theorem QL {q r:Nat} (hn:num<(h+1)*b) (hl:l<b) (hq:q*h+r=num) (hr:b<=r):q<b/\q*l<=r*b+u2:=by
 have hqb:q<b:=by
   rw [Nat.add_mul,Nat.one_mul] at hn
   have h1:q*h<b*h:=by rw [Nat.mul_comm b h];omega
   exact Nat.lt_of_mul_lt_mul_right h1
 refine ⟨hqb, ?_⟩
 have h1:q*l<=b*b:=Nat.mul_le_mul (Nat.le_of_lt hqb) (Nat.le_of_lt hl)
 have h2:b*b<=r*b:=Nat.mul_le_mul_right _ hr
 omega
theorem Xu {q:Nat} (O6:0<V) (hle:U/V<=q) (V1:q<=U/V+1):(U<q*V/\q=U/V+1∨q*V<=U/\q=U/V):=by
 by_cases h:U<q*V
 . left
   have:=(Nat.div_lt_iff_lt_mul O6).2 h
   exact ⟨h,by omega⟩
 . right
   have:=(Nat.le_div_iff_mul_le O6).2 (Nat.le_of_not_lt h)
   exact ⟨by omega,by omega⟩
end
end Go.VL
end

section
namespace Go.VL
theorem Z1 {ds:List Nat} {j h l:Nat} (hw:Wd ds) (hl:ds.length=j+2) (h1:ds[j+1]? = some h) (h0:ds[j]? = some l) :
   val ds=(h*au+l)*au ^ j+val (ds.take j)/\val (ds.take j)<au ^ j:=by
 have e1:=aE h1
 have e0:=aE h0
 have e2:ds.take (j+1+1)=ds:=List.take_of_length_le (by omega)
 have h3:=ly (qU hw j)
 rw [List.length_take,Nat.min_eq_left (by omega)] at h3
 rw [e2,e0] at e1
 refine ⟨?_,h3⟩
 have e4:(h*au+l)*au ^ j=au ^ (j+1)*h+au ^ j*l:=by
   rw [Nat.add_mul,Nat.pow_succ,Nat.mul_comm l,Nat.mul_assoc,Nat.mul_comm h,Nat.mul_comm au]
 omega
theorem Z2 {ds:List Nat} {j x2 x1 x0:Nat} (hw:Wd ds) (hl:ds.length=j+3) (h2:ds[j+2]? = some x2) (h1:ds[j+1]? = some x1) (h0:ds[j]? = some x0) :
   val ds=((x2*au+x1)*au+x0)*au ^ j+val (ds.take j)/\val (ds.take j)<au ^ j:=by
 have e2:=aE h2
 have e1:=aE h1
 have e0:=aE h0
 have e3:ds.take (j+2+1)=ds:=List.take_of_length_le (by omega)
 have h3:=ly (qU hw j)
 rw [List.length_take,Nat.min_eq_left (by omega)] at h3
 rw [e3,e1,e0] at e2
 refine ⟨?_,h3⟩
 have e4:((x2*au+x1)*au+x0)*au ^ j=au ^ (j+2)*x2+au ^ (j+1)*x1+au ^ j*x0:=by
   rw [Nat.add_mul,Nat.add_mul,Nat.add_mul,Nat.mul_comm x0]
   have a:au ^ (j+1)*x1=x1*au*au ^ j:=by rw [Nat.pow_succ,Nat.mul_comm,Nat.mul_assoc,Nat.mul_comm au]
   have b:au ^ (j+2)*x2=x2*au*au*au ^ j:=by
     have e:au ^ (j+2)=au ^ j*au*au:=by rw [show j+2=j+1+1 from rfl,Nat.pow_succ,Nat.pow_succ]
     rw [e]
     generalize au ^ j=Y
     generalize au=Z
     simp only [Nat.mul_comm,Nat.mul_left_comm]
   omega
 omega
theorem ME {x:Nat} (h:x<au) (h0:0<x):1<=iM x/\iM x<=32:=by
 obtain ⟨a,b⟩:=zn h h0
 constructor
 . rcases Nat.eq_zero_or_pos (iM x) with e | e
   . rw [e] at a;simp at a;omega
   . exact e
 . have h2:2 ^ iM x<2 ^ 33:=by unfold au at h;omega
   have:=(Nat.pow_lt_pow_iff_right (by decide:1<2)).1 h2
   omega
theorem zp {n x k:Nat} (hk:ah n=k+1) (hx:(digits n)[k]? = some x) :
   0<x/\x<au/\n*2 ^ (32-iM x)<au ^ (k+1)/\ah (n*2 ^ (32-iM x))=k+1/\32-iM x<=31:=by
 have qz:=aO n x (List.mem_of_getElem? hx)
 have NN:0<x:=by
   rcases Bk (n:=n) with h | ⟨w,h,hw⟩
   . rw [h] at hx;simp at hx
   . rw [List.getLast?_eq_getElem?,show (digits n).length-1=k from by show ah n-1=k;omega,hx] at h
     simp only [Option.some.injEq] at h;omega
 obtain ⟨qA,GG⟩:=ME qz NN
 have wU:=(zn qz NN).1
 have e:=aE hx
 rw [List.take_of_length_le (show (digits n).length<=k+1 from by show ah n<=k+1;omega),aI] at e
 have h3:=ly (qU (aO n) k)
 rw [List.length_take,Nat.min_eq_left (show k<=(digits n).length from by show k<=ah n;omega)] at h3
 have h4:n+1<=au ^ k*2 ^ iM x:=by
   have:au ^ k*(x+1)<=au ^ k*2 ^ iM x:=Nat.mul_le_mul_left _ wU
   rw [Nat.mul_add] at this;omega
 have h5:(n+1)*2 ^ (32-iM x)<=au ^ (k+1):=by
   have:=Nat.mul_le_mul_right (2 ^ (32-iM x)) h4
   rw [Nat.mul_assoc, <- Nat.pow_add,show iM x+(32-iM x)=32 from by omega] at this
   rw [Nat.pow_succ];exact this
 have hp:=Nat.two_pow_pos (32-iM x)
 have h6:n*2 ^ (32-iM x)<au ^ (k+1):=by rw [Nat.add_mul] at h5;omega
 refine ⟨NN,qz,h6, ?_,by omega⟩
 have h7:=jg h6
 have h8:ah n<=ah (n*2 ^ (32-iM x)):=cP (Nat.le_mul_of_pos_right _ hp)
 omega
theorem Z3 {x R V:Nat} (hx:x<au) (hR:R<V):x+au*R<au*V/\(x+au*R)/V<au:=by
 have:au*(R+1)<=au*V:=Nat.mul_le_mul_left _ hR
 have h:x+au*R<au*V:=by rw [Nat.mul_add] at this;omega
 exact ⟨h,Nat.div_lt_of_lt_mul (by rw [Nat.mul_comm V];exact h)⟩
theorem Xv {num u2 M u' h l v' V D:Nat} (hl:l<au) (hv:v'<M) (hV:V=(h*au+l)*M+v') (hD:D=(num*au+u2)*M+u') (hlt:D<au*V):num<(h+1)*au:=by
 have h1:V<(h+1)*au*M:=by
   have:(h*au+l+1)*M<=(h+1)*au*M:=Nat.mul_le_mul_right _ (by rw [Nat.add_mul];omega)
   rw [Nat.add_mul,Nat.one_mul] at this;omega
 have h2:num*(au*M)<=D:=by
   have:num*au*M<=(num*au+u2)*M:=Nat.mul_le_mul_right _ (by omega)
   rw [Nat.mul_assoc] at this;omega
 have h3:au*V<(h+1)*au*(au*M):=by
   have:=Nat.mul_lt_mul_of_pos_left h1 cV
   rw [Nat.mul_left_comm] at this;exact this
 exact Nat.lt_of_mul_lt_mul_right (a:=au*M) (by omega)
theorem Ix {U a0 i x O V R q r:Nat} (hU:U=a0+au ^ i*x+au ^ (i+1)*(O*V+R)) (hD:x+au*R=q*V+r):U=a0+au ^ i*((q+au*O)*V+r):=by
 have e:au ^ (i+1)*(O*V+R)=au ^ i*(au*(O*V))+au ^ i*(au*R):=by
   rw [Nat.pow_succ,Nat.mul_assoc, <- Nat.mul_add, <- Nat.mul_add]
 have e2:au ^ i*((q+au*O)*V+r)=au ^ i*(q*V+r)+au ^ i*(au*(O*V)):=by
   rw [<- Nat.mul_add,Nat.add_mul,Nat.mul_assoc];congr 1;omega
 rw [hU,e,e2, <- hD,Nat.mul_add];omega
theorem Gh {k r:Nat} (h:r<au ^ k):pad (k+1) r=pad k r++[0]:=by
 have e1:val (pad k r++[0])=r:=by rw [kt,gq h]
 have e2:(pad k r++[0]).length=k+1:=by simp [kP]
 have h1:=x6 (cw (r5 k r) (b:=[0]) (fun z hz=>by rw [List.mem_singleton.1 hz];exact cV))
 rw [e1,e2] at h1
 exact h1
theorem QM {k D V q:Nat} (h:D%V<au ^ k) (hq:q=D/V):pad (k+1) (D+au ^ (k+1)-q*V)=pad k (D%V)++[0]:=by
 have h1:=Nat.mod_add_div D V
 rw [Nat.mul_comm] at h1
 have:D+au ^ (k+1)-q*V=D%V+au ^ (k+1)*1:=by rw [hq];omega
 rw [this,B7,Gh h]
theorem QN {k D V q:Nat} (h0:0<V) (h:D%V<au ^ k) (hV:V<au ^ k) (hq:q=D/V+1):pad (k+1) (val (pad (k+1) (D+au ^ (k+1)-q*V))+V)=pad k (D%V)++[0]:=by
 have h1:=Nat.mod_add_div D V
 rw [Nat.mul_comm] at h1
 have e:q*V=D/V*V+V:=by rw [hq,Nat.add_mul,Nat.one_mul]
 have h2:au ^ k<=au ^ (k+1):=Nat.pow_le_pow_right cV (by omega)
 have h3:D%V<V:=Nat.mod_lt _ h0
 rw [gq (by omega)]
 have:D+au ^ (k+1)-q*V+V=D%V+au ^ (k+1)*1:=by omega
 rw [this,B7,Gh h]
theorem Iy {m s V N k c A R:Nat} (hN:V=N*2 ^ s) (hNk:au ^ (k-1)<=N) (hm:m<au ^ (c+(k-1))) (hU:m*2 ^ s=A+au ^ c*R):R<V:=by
 rcases Nat.lt_or_ge R V with h | h
 . exact h
 . exfalso
   have h1:au ^ c*V<=au ^ c*R:=Nat.mul_le_mul_left _ h
   have h2:au ^ c*(au ^ (k-1)*2 ^ s)<=au ^ c*V:=by rw [hN];exact Nat.mul_le_mul_left _ (Nat.mul_le_mul_right _ hNk)
   rw [<- Nat.mul_assoc, <- Nat.pow_add] at h2
   have h3:=Nat.mul_lt_mul_of_pos_right hm (Nat.two_pow_pos s)
   omega
theorem Xw {q r num h l u2 M u' v' V D:Nat} (hl:l<au) (YQ:v'<M) (YR:u'<M) (h0:0<h) (hV:V=(h*au+l)*M+v') (hD:D=(num*au+u2)*M+u') (hlt:D<au*V) (hdB:D/V<au)
   (hq:q*h+r=num) (hle:D/V<=q) (ht:au<=q∨r*au+u2<q*l):1<=q/\D/V<=q-1/\(q-1)*h+(r+h)=num/\(au<=r+h->q-1<au/\q-1<=D/V+1):=by
 have Z4:1<=q:=by
   rcases Nat.eq_zero_or_pos q with e | e
   . subst e
     rcases ht with h1 | h1
     . unfold au at h1;omega
     . simp at h1
   . exact e
 have Xx:D/V<=q-1:=by
   rcases ht with h1 | h1
   . omega
   . exact Uj hV hD YR hq h1
 have hs:(q-1)*h+(r+h)=num:=by
   obtain ⟨p,rfl⟩:∃ p,q=p+1:=⟨q-1,by omega⟩
   rw [Nat.add_mul] at hq
   simp only [Nat.add_sub_cancel];omega
 refine ⟨Z4,Xx,hs,fun hb => ?_⟩
 obtain ⟨a,c⟩:=QL (u2:=u2) (Xv hl YQ hV hD hlt) hl hs hb
 exact ⟨a,MD h0 hV hD YQ a hs c⟩
theorem MF {m n s O r:Nat} (_hn:n≠0) (hU:m*2 ^ s=O*(n*2 ^ s)+r) (hr:r<n*2 ^ s):O=m/n/\r/2 ^ s=m%n/\ah r<=ah (n*2 ^ s):=by
 have hp:=Nat.two_pow_pos s
 have h1:r=(m-O*n)*2 ^ s:=by
   rw [Nat.sub_mul,Nat.mul_assoc];omega
 have h2:m-O*n<n:=by
   rw [h1] at hr;exact Nat.lt_of_mul_lt_mul_right hr
 have h3:O*n<=m:=by
   have:O*n*2 ^ s<=m*2 ^ s:=by rw [Nat.mul_assoc];omega
   exact Nat.le_of_mul_le_mul_right this hp
 have h4:(m-O*n)+n*O=m:=by rw [Nat.mul_comm n];omega
 have h5:m/n=O/\m%n=m-O*n:=(Nat.div_mod_unique (Nat.pos_of_ne_zero _hn)).2 ⟨h4,h2⟩
 refine ⟨h5.1.symm, ?_,cP (Nat.le_of_lt hr)⟩
 rw [h1,Nat.mul_div_cancel _ hp,h5.2]
theorem uq {a b t:List Nat} {i j x:Nat} (ha:a.length=i) (h:b[j]? = some x):(a++b++t)[i+j]? = some x:=by
 have hj:=(List.getElem?_eq_some_iff.1 h).1
 rw [List.append_assoc,List.getElem?_append_right (by omega),List.getElem?_append_left (by omega), <- h]
 congr 1;omega
theorem ur {a:List Nat} {i:Nat} (h:a.length=i+1):∃ b x,a=b++[x]/\b.length=i:=by
 refine ⟨a.take i,a[i]'(by omega), ?_,by simp;omega⟩
 rw [<- List.take_succ_eq_append_getElem,List.take_of_length_le (by omega)]
end Go.VL
end

section
namespace Go.VL
section
variable {P:Program} {G:Nat->Option (List AV)} {π : Id} {Q:cD->VS->Prop} {s:VS}
theorem VW.Iz {x y:bW} (h:VW P G π x (Then (VW P G π y Q) Q) s):VW P G π (.seq x y) Q s :=
 VW.seq (h.mono fun e _ hq=>by cases e<;>exact hq)
theorem VW.QO {id:Nat} {x:bW} (h:VW P G π x (NC id Q) s):VW P G π (.block id x) Q s :=
 VW.block (h.mono fun e _ hq=>by cases e<;>exact hq)
theorem VW.cut {x:bW} {s':VS} (hw:Wk G π s s') (h:sq P G π x Q s'):VW P G π x Q s:=VW.wk hw (VW.of h)
theorem VW.Z5 {α : Type} {x:bW} {s:VS} (st : α -> VS) (Pr : α -> Prop) (m : α -> Nat) (x0 : α) (hw:Wk G π s (st x0)) (h0:Pr x0)
   (h:∀ a,Pr a->VW P G π x (Hk G π st Pr m a Q) (st a)):VW P G π (.loop x) Q s:=by
 refine VW.wk hw ?_
 intro c hc own E w a R hm hR
 cases c<;>simp only [eC,Option.some.injEq,reduceCtorEq] at hc
 case loop cb =>
   cases h1:eC P cb with
   | none=>simp [h1] at hc
   | some vb =>
     simp only [h1,Option.map_some,Option.some.injEq,bW.loop.injEq] at hc
     subst hc
     refine vE (α := α) (fun g a' w'=>Pr g/\∃ E',ky own π E E' w w'/\je G π own E' w' (st g) a') m (x:=x0) ⟨h0,E,ky.refl own π E w,hm⟩ ?_
     rintro g a2 w2 ⟨Ha,E2,NB,ti⟩
     refine (h g Ha) cb h1 own E2 w2 a2 _ ti ?_
     intro e s' E' w' a' hq had qx
     cases e with
     | normal =>
       obtain ⟨g',Zv,hlt,WQ⟩:=hq
       obtain ⟨E3,Zw,Zx⟩:=WQ own E' w' a' qx
       exact ⟨g',⟨Zv,E3,(NB.trans had).trans Zw,Zx⟩,hlt⟩
     | exit id=>exact hR (.exit id) s' E' w' a' hq (NB.trans had) qx
     | ret=>exact hR .ret s' E' w' a' hq (NB.trans had) qx
 case region=>exfalso;revert hc;unfold lD;(repeat' split)<;>simp
 all_goals (exfalso;revert hc;(repeat' split)<;>simp)
theorem Bn {base:Nat} {n:Nat} {ps:List (Nat × Nat)} {d:Option Nat} {os:List bp} {i:Nat} {acc:List dN} {t:List AV} {σ : aa} {f:FuncId} {args gv:List AV} {r:AV} (S:List (Id × dC))
   (h:VP P G f gv r) (hv:aW (aa.of S) args gv) (hS:∀ x∈S, σ x.1=some x.2) (k:vd P G π base Q n ps os (i+1) ({ val:=r,rd:=S.map (·.1),up:=rq S }::acc) (fG t d r) (σ.app (rq S))):F2 P G π base Q n ps d os i acc t σ f args :=
 ⟨S,_,aB.LB h hv,hS,fun x hx=>List.mem_map.2 ⟨x,hx,rfl⟩,k⟩
end
theorem Fh {id:Id} {k len l h:Nat} (h1:l<h) (h2:h<=len):bT k (.osl id k 0 len false) (some (.int .i64 (l:Int))) (some (.int .i64 (h:Int))) none=some (.osl id k l (h-l) false):=by
 rcases Nat.eq_zero_or_pos l with rfl | hp
 . simp [bT,cJ,dV,h2]
 . simp [bT,cJ,dV,h2,Nat.le_of_lt h1,Nat.ne_of_gt hp,Nat.ne_of_lt h1]
theorem Dd {id:Id} {k len h:Nat} (h2:h<=len):bT k (.osl id k 0 len false) none (some (.int .i64 (h:Int))) none=some (.osl id k 0 h false):=by
 simp [bT,cJ,dV,h2]
end Go.VL
end

section
set_option linter.unusedVariables false
namespace Go.VL
section
variable {P:Program} {G:Nat->Option (List AV)}
theorem Xy {q Q:Nat} (h1:q=Q+1) (h2:q<au):IntKind.u64.wrap ((q:Int)-1)=((Q:Nat):Int):=by
 subst h1;rw [IntKind.wrap_u64];unfold au at h2;omega
theorem IA {id:Id} {a t:List Nat} {b tt:Bool} {n:Nat} (hn:n=a.length):View (aa.of [(id,⟨us (a++t),1,b⟩)]) (.osl id 1 0 n tt) (.sl 1 (us a)):=by
 subst hn
 refine View.osl (bk:=⟨us (a++t),1,b⟩) (by simp [aa.of]) rfl (by simp [dD]) ?_ (by rw [dD]) (wK a)
 have:((us (a++t)).drop 0).take a.length=us a:=by rw [List.drop_zero,Mu];simp
 show aW _ (flat (((us (a++t)).drop 0).take a.length)) _
 rw [this]
 exact aW.pure (sQ a)
set_option maxRecDepth 100000 in
set_option maxHeartbeats 4000000 in
theorem NV {f fc AD ZY fu fdw flz fsl ft Z6 JR fsr:FuncId} (h:Has P f (nP fc AD ZY fu fdw flz fsl ft Z6 JR fsr))
   (hc:∀ m n,ah m<=1000000->ah n<=1000000->VP P G fc [W m,W n] (.int .i64 (gp m n))) (uT:∀ n,ah n<=1000000->VP P G AD [W n] (W n))
   (V0:∀ n,n<18446744073709551616->VP P G ZY [W n] (.int .u64 ((n:Nat):Int))) (hu:∀ n,n<18446744073709551616->VP P G fu [.int .u64 ((n:Nat):Int)] (W n))
   (hdw:∀ m w:Nat,ah m<=1000000->w<au->w≠0->VP P G fdw [W m, .int .u32 (w:Int)] (.tup [W (m/w),W (m%w)]))
   (hlz:∀ x:Nat,x<au->0<x->VP P G flz [.int .u32 (x:Int)] (.int .i64 ((32-iM x:Nat):Int)))
   (Co:Has P fsl jf) (ht:gU P G ft) (hsu:Has P Z6 j0) (hre:Has P JR kM) (hsr:Has P fsr iG)
   (m n:Nat) (tu:n≠0) (hm:ah m<=900000) (hn:ah n<=900000):VP P G f [W m,W n] (.tup [W (m/n),W (m%n)]):=by
 refine VP.has h ?_
 have Xz:=hc m n (by omega) (by omega)
 have adk:=uT m (by omega)
 have C6:m/n=0->∀ σ,View σ .nils (W (m/n)):=fun h σ => by rw [h];simp only [W,bq,us];exact View.nils 1
 have XA:m<n->m/n=0/\m%n=m:=fun h=>⟨Nat.div_eq_of_lt h,Nat.mod_eq_of_lt h⟩
 have c1:m<n->decide (gp m n<0)=true:=fun h=>ao (by simp only [gp,iZ];rw [if_pos (by omega)];decide)
 have c2 : ¬ m<n->decide (gp m n<0)=false:=fun h=>ak (by simp only [gp,iZ];rw [if_neg (by omega)];split<;>decide)
 have l1:ah m<=2->decide ((ah m:Int)<=2)=true:=fun h=>ao (by omega)
 have l2 : ¬ ah m<=2->decide ((ah m:Int)<=2)=false:=fun h=>ak (by omega)
 have b1:ah n=1->decide ((ah n:Int)=1)=true:=fun h=>ao (by omega)
 have b2 : ¬ ah n=1->decide ((ah n:Int)=1)=false:=fun h=>ak (by omega)
 simp only [nP,SS,Nat.reduceAdd]
 refine aj Xz (by simp [aJ]) ?_
 by_cases h1:m<n
 . simp only [SS,Nat.reduceAdd,c1 h1]
   refine aj adk (by simp [aJ]) ?_
   simp only [SS,Nat.reduceAdd]
   obtain ⟨e1,e2⟩:=XA h1
   refine ag▸⟨.tup [.nils,W m],rfl,View.tup (aW.cons (C6 e1 _) (aW.cons ?_ aW.nil))⟩
   rw [e2];exact View.pure (aJ _)
 have yf:n<=m:=by omega
 have hwn:ah n≠0:=fun e=>tu (bE.1 e)
 by_cases h2:ah m<=2
 . have ti:=qX h2
   have Ty:n<18446744073709551616:=by omega
   have hq:=C8 m n ti tu
   have hr:=C9 m n tu
   have VU:=hu (m/n) (Nat.lt_of_le_of_lt (Nat.div_le_self _ _) ti)
   have Z7:=hu (m%n) (Nat.lt_of_le_of_lt (Nat.mod_le _ _) ti)
   simp only [SS,Nat.reduceAdd,c2 h1,bf,l1 h2]
   refine aj (V0 m ti) (by simp [aJ]) ?_
   simp only [SS,Nat.reduceAdd]
   refine aj (V0 n Ty) (by simp [aJ]) ?_
   simp only [SS,DD,Nat.reduceAdd,hq]
   refine ax VU (by simp [af.int]) ?_
   simp only [SS,DD,Nat.reduceAdd,hr]
   refine ax Z7 (by simp [af.int]) ?_
   simp only [SS,DD,Nat.reduceAdd]
   refine ⟨by simp [ar,apart], ?_⟩
   exact ag▸ab rfl (af.tup (by intro c hc;simp at hc;rcases hc with rfl | rfl<;>exact aJ _))
 by_cases h3:ah n=1
 . obtain ⟨x,hx⟩:∃ x,(digits n)[0]? = some x:=⟨_,List.getElem?_eq_getElem (by show 0<ah n;omega)⟩
   have NW:x=n:=by
     have e:=aE hx
     rw [List.take_of_length_le (show (digits n).length<=1 from by show ah n<=1;omega),aI] at e
     simp [val] at e;omega
   have hg:=de hx
   rw [NW] at hg
   have hnB:n<au:=by rw [<- NW];exact aO n x (List.mem_of_getElem? hx)
   have Xt:=hdw m n (by omega) hnB tu
   have JT:br 1 (W n) (.int .i64 0)=some (.ep (AV.int .u32 (n:Int)).cells 0):=hg
   simp only [SS,Nat.reduceAdd,c2 h1,bf,l2 h2,b1 h3,JT,az,bm]
   refine aj Xt (by simp [aJ,af.int]) ?_
   simp only [SS,Nat.reduceAdd,um,uo]
   exact ag▸ab rfl (af.tup (by intro c hc;simp at hc;rcases hc with rfl | rfl<;>exact aJ _))
 -- Knuth's algorithm D
 obtain ⟨k,hk⟩:∃ k,ah n=k+2:=⟨ah n-2,by omega⟩
 obtain ⟨x,hx⟩:∃ x,(digits n)[k+1]? = some x:=⟨_,List.getElem?_eq_getElem (by show k+1<ah n;omega)⟩
 obtain ⟨NN,XB,hV,XC,hs⟩:=zp hk hx
 generalize hsd:32-iM x=s at hV XC hs
 have Z8:=hlz x XB NN
 rw [hsd] at Z8
 have p1:IntKind.i64.wrap (((k+2:Nat):Int)-1)=((k+1:Nat):Int):=by rw [IntKind.wrap_i64];omega
 have p2:IntKind.i64.wrap (((k+2:Nat):Int)-2)=((k:Nat):Int):=by rw [IntKind.wrap_i64];omega
 obtain ⟨V,NY⟩:∃ V,V=n*2 ^ s:=⟨_,rfl⟩
 obtain ⟨U,Uk⟩:∃ U,U=m*2 ^ s:=⟨_,rfl⟩
 rw [<- NY] at hV XC
 have Kr:=zi (G:=G) Co m s (by omega) hs
 have Ks:=zi (G:=G) Co n s (by omega) hs
 rw [<- NY] at Ks
 rw [<- Uk] at Kr
 obtain ⟨L,hL⟩:∃ L,ah m+1=L+(k+2):=⟨ah m+1-(k+2),by have:=cP yf;omega⟩
 have hUB:U<au ^ (ah m+1):=by
   have h4:2 ^ s<=2 ^ 32:=Nat.pow_le_pow_right (by decide) (by omega)
   have h5:m*2 ^ s<=m*2 ^ 32:=Nat.mul_le_mul_left _ h4
   have h6:m*2 ^ 32<au ^ ah m*2 ^ 32:=Nat.mul_lt_mul_of_pos_right (cN m) (by decide)
   rw [Nat.pow_succ,Uk];exact Nat.lt_of_le_of_lt h5 h6
 obtain ⟨A0,R0,XD,V2,hR0⟩:∃ A R,pad (ah m+1) U=A++R++[]/\A.length=L/\R.length=k+2 :=
   ⟨(pad (ah m+1) U).take L,(pad (ah m+1) U).drop L,by simp,by simp [kP];omega,by simp [kP];omega⟩
 have Z9:Wd A0/\Wd R0:=by
   have h4:=r5 (ah m+1) U
   rw [XD] at h4
   exact ⟨fun w hw=>h4 w (by simp [hw]),fun w hw=>h4 w (by simp [hw])⟩
 have hU0:U=val A0+au ^ L*val R0:=by
   have h4:=gq hUB
   rw [XD,List.append_nil,cu,V2] at h4
   exact h4.symm
 have QP:val R0<V:=Iy (k:=k+2) NY (by have:=qV tu;rw [hk] at this;exact this) (by
   have h4:=cN m
   have:L+(k+2-1)=ah m:=by omega
   rw [this];exact h4) (Uk▸hU0)
 have De:ah V=k+2:=XC
 obtain ⟨hh,QQ⟩:∃ y,(digits V)[k+1]? = some y:=⟨_,List.getElem?_eq_getElem (by show k+1<ah V;omega)⟩
 obtain ⟨ll,llg⟩:∃ y,(digits V)[k]? = some y:=⟨_,List.getElem?_eq_getElem (by show k<ah V;omega)⟩
 have hhB:=aO V hh (List.mem_of_getElem? QQ)
 have llB:=aO V ll (List.mem_of_getElem? llg)
 have f1:=bn hh hhB
 have f2:=bn ll llB
 obtain ⟨XE,YQ⟩:=Z1 (aO V) De QQ llg
 rw [aI] at XE
 have YS:0<hh:=by
   rcases Bk (n:=V) with h4 | ⟨w,h4,hw⟩
   . rw [h4] at QQ;simp at QQ
   . rw [List.getLast?_eq_getElem?,show (digits V).length-1=k+1 from by show ah V-1=k+1;omega,QQ] at h4
     simp only [Option.some.injEq] at h4;omega
 have Th:0<V:=Nat.lt_of_le_of_lt (Nat.zero_le _) QP
 have QR:IntKind.i64.wrap (((ah m+1:Nat):Int)-((k+2:Nat):Int))=((L:Nat):Int):=by rw [IntKind.wrap_i64];omega
 have xr:IntKind.i64.wrap (((L:Nat):Int)-1)=(L:Int)-1:=by rw [IntKind.wrap_i64];omega
 have xe:∀ p:Id,kT p 1 4 (.int .u32 0) (.int .i64 ((L:Nat):Int)) (.int .i64 ((L:Nat):Int))=some { val := .osl p 1 0 L false,up:=[(p,some ⟨us (List.replicate L 0),1,false⟩)] }:=fun p=>mz (by omega)
 rw [XD] at Kr
 rw [hk] at Ks
 have b3:decide (((k+2:Nat):Int)=1)=false:=ak (by omega)
 have O6:V<au ^ (k+2+1):=Nat.lt_of_lt_of_le hV (Nat.pow_le_pow_right cV (by omega))
 have Kt:VP P G ft [.sl 1 (us (pad (k+2+1) V))] (W V):=by
   have:=ht (pad (k+2+1) V) (r5 _ _) (by rw [kP];omega)
   rwa [gq O6] at this
 simp only [SS,Nat.reduceAdd,c2 h1,bf,l2 h2,b3,hk,p1,de hx,az,bm]
 refine aj Z8 (by simp [af.int]) ?_
 simp only [SS,Nat.reduceAdd]
 refine ⟨[],_,Kr _,by simp,by simp, ?_⟩
 simp only [SS,Nat.reduceAdd]
 refine ⟨[],_,Ks _,by simp,by simp, ?_⟩
 simp only [SS,Nat.reduceAdd]
 refine cM [([4,28],⟨us (pad (k+2+1) V),1,false⟩)] Kt (aW.cons (gJ (kP _ _).symm) aW.nil) (by simp [aa.put]) ?_
 simp only [SS,Nat.reduceAdd]
 simp only [SS,DD,Nat.reduceAdd,bf,De,QR,xr,xe,p1,p2,de QQ,de llg,az,bm,f1,f2]
 refine ⟨by simp [ar], ?_⟩
 simp only [aD]
 refine VW.Z5 (α := Nat × List Nat × List Nat × List Nat × List Nat × Nat) (fun x=>⟨List.replicate 8 .top++[.int .i64 (s:Int), .osl [4,25] 1 0 (ah m+1) false,W V, .int .i64 ((k+2:Nat):Int), .osl [39] 1 0 L false, .int .u64 (hh:Int), .int .u64 (ll:Int), .int .i64 ((x.1:Int)-1)]++List.replicate 161 .top,
   aa.put (aa.put (fun _=>none) [4,25] (some ⟨us (x.2.1++x.2.2.1++x.2.2.2.1),1,false⟩)) [39] (some ⟨us (zs x.1++x.2.2.2.2.1),1,false⟩),x.2.2.2.2.2⟩)
   (fun x=>x.1+x.2.2.2.2.1.length=L/\x.2.1.length=x.1/\x.2.2.1.length=k+2/\x.1+(k+2)+x.2.2.2.1.length=ah m+1/\Wd x.2.1/\Wd x.2.2.1/\Wd x.2.2.2.2.1/\val x.2.2.1<V/\U=val x.2.1+au ^ x.1*(val x.2.2.2.2.1*V+val x.2.2.1)) (fun x=>x.1) (L,A0,R0,[],[],1000) ?_ ?_ ?_
 . refine Wk.forget (by simp [Fg,List.replicate]) (fun j => ?_) (by simp only [];omega)
   simp only [List.append_nil,aa.put,aa.app,rq,List.map_cons,List.map_nil,zs]
   by_cases e1:j=[39]
   . subst e1;simp
   . by_cases e2:j=[4,25]
     . subst e2;simp
     . simp [e1,e2]
 . refine ⟨by simp,V2,hR0,by simp;omega,Z9.1,Z9.2,by intro w hw;simp at hw,QP, ?_⟩
   show U=val A0+au ^ L*(val []*V+val R0)
   rw [show val []=0 from rfl,Nat.zero_mul,Nat.zero_add];exact hU0
 rintro ⟨c,A,R,t,o,nn⟩ ⟨hc,hA,hR,Eh,XF,XG,XH,Iu,XI⟩
 simp only [] at hc hA hR Eh XF XG XH Iu XI
 rcases Nat.eq_zero_or_pos c with h0 | hcp
 . subst h0
   have d0:decide ((0:Int)<=((0:Nat):Int)-1)=false:=by decide
   refine VW.Iz (VW.of ?_)
   simp only [SS,DD,Nat.reduceAdd,d0]
   obtain rfl:A=[]:=List.length_eq_zero_iff.1 hA
   have hU':m*2 ^ s=val o*(n*2 ^ s)+val R:=by
     rw [<- Uk, <- NY,XI]
     show val []+au ^ 0*_=_
     simp [val]
   obtain ⟨g1,g2,g3⟩:=MF tu hU' (NY▸Iu)
   have hoL:L=o.length:=by omega
   have htq:=ht o XH (by omega)
   rw [g1] at htq
   have htR:=ht R XG (by omega)
   have hwR:ah (val R)<=1000000:=by rw [<- NY,De] at g3;omega
   have adr:=Eg (G:=G) hsr (val R) s hwR hs
   have MG:VP P G ft [.sl 1 (us (pad (ah (val R)) (val R/2 ^ s)))] (W (m%n)):=by
     have e:=ht (pad (ah (val R)) (val R/2 ^ s)) (r5 _ _) (by rw [kP];omega)
     rw [gq (Nat.lt_of_le_of_lt (Nat.div_le_self _ _) (cN _))] at e
     rw [<- g2];exact e
   have IB:bT 1 (.osl [4,25] 1 0 (ah m+1) false) none (some (.int .i64 ((k+2:Nat):Int))) none=some (.osl [4,25] 1 0 (k+2) false):=Dd (by omega)
   rw [uj,List.nil_append,List.nil_append]
   refine Bn [([39],⟨us o,1,false⟩)] htq (aW.cons (gJ hoL) aW.nil) (by simp [aa.put]) ?_
   simp only [SS,DD,Nat.reduceAdd,IB]
   refine Bn [([4,25],⟨us (R++t),1,false⟩)] htR (aW.cons (IA hR.symm) aW.nil) (by simp [aa.put,aa.app,rq]) ?_
   simp only [SS,DD,Nat.reduceAdd]
   refine ax adr (by simp [aJ,af.int]) ?_
   simp only [SS,DD,Nat.reduceAdd]
   refine ax MG (by simp [kO]) ?_
   simp only [SS,DD,Nat.reduceAdd]
   refine ⟨by simp [ar,apart,rq], ?_⟩
   exact ag▸ab rfl (af.tup (by intro c hc;simp at hc;rcases hc with rfl | rfl<;>exact aJ _))
 obtain ⟨i,rfl⟩:∃ i,c=i+1:=⟨c-1,by omega⟩
 have d0:decide ((0:Int)<=(i:Int))=true:=ao (by omega)
 have hj:((i+1:Nat):Int)-1=(i:Int):=by omega
 have B4:IntKind.i64.wrap ((i:Int)-1)=(i:Int)-1:=by rw [IntKind.wrap_i64];omega
 refine VW.Iz (VW.of ?_)
 simp only [SS,Nat.reduceAdd,hj,d0]
 obtain ⟨A',y,rfl,hA'⟩:=ur hA
 obtain ⟨b,B0⟩:∃ b,b=y::R:=⟨_,rfl⟩
 have eb:A'++[y]++R++t=A'++b++t:=by rw [B0];simp
 rw [eb]
 have XJ:y<au:=XF y (by simp)
 have XK:Wd A':=fun w hw=>XF w (by simp [hw])
 have wU:b.length=k+3:=by rw [B0];simp [hR]
 have GM:Wd b:=by
   intro w hw;rw [B0] at hw
   rcases List.mem_cons.1 hw with rfl | hw
   . exact XJ
   . exact XG w hw
 have hbv:val b=y+au*val R:=by rw [B0];rfl
 obtain ⟨V3,Ti⟩:=Z3 XJ Iu
 rw [<- hbv] at V3 Ti
 obtain ⟨x2,XL⟩:∃ z,b[k+2]? = some z:=⟨_,List.getElem?_eq_getElem (by omega)⟩
 obtain ⟨x1,Qr⟩:∃ z,b[k+1]? = some z:=⟨_,List.getElem?_eq_getElem (by omega)⟩
 obtain ⟨z0,Tf⟩:∃ z,b[k]? = some z:=⟨_,List.getElem?_eq_getElem (by omega)⟩
 have Ku:=GM x2 (List.mem_of_getElem? XL)
 have QS:=GM x1 (List.mem_of_getElem? Qr)
 have QT:=GM z0 (List.mem_of_getElem? Tf)
 obtain ⟨hD,YR⟩:=Z2 GM wU XL Qr Tf
 rw [show x2*au+x1=au*x2+x1 from by rw [Nat.mul_comm]] at hD
 obtain ⟨num,Df⟩:∃ z,z=au*x2+x1:=⟨_,rfl⟩
 rw [<- Df] at hD
 have MH:num<18446744073709551616:=by rw [Df];unfold au at *;omega
 have a1:=np i (k+2) (by omega)
 have a2:IntKind.i64.wrap (((i+(k+2):Nat):Int)-1)=((i+(k+1):Nat):Int):=by rw [IntKind.wrap_i64];omega
 have a3:IntKind.i64.wrap (((i+(k+2):Nat):Int)-2)=((i+k:Nat):Int):=by rw [IntKind.wrap_i64];omega
 have a4:IntKind.i64.wrap (((i+(k+2):Nat):Int)+1)=((i+(k+3):Nat):Int):=by rw [IntKind.wrap_i64];omega
 have ia2:=cB (q:=[4,25]) (t:=false) (show i+(k+2)<ah m+1 by omega)
 have ia1:=cB (q:=[4,25]) (t:=false) (show i+(k+1)<ah m+1 by omega)
 have ia0:=cB (q:=[4,25]) (t:=false) (show i+k<ah m+1 by omega)
 have iaq:=cB (q:=[39]) (t:=false) (show i<L by omega)
 have IB:bT 1 (.osl [4,25] 1 0 (ah m+1) false) (some (.int .i64 (i:Int))) (some (.int .i64 ((i+(k+3):Nat):Int))) none=some (.osl [4,25] 1 A'.length (ah V+1) false):=by
   rw [Fh (by omega) (by omega),hA',De]
   congr 2;omega
 generalize hσ : aa.put (aa.put (fun _=>none) [4,25] (some ⟨us (A'++b++t),1,false⟩)) [39] (some ⟨us (zs (i+1)++o),1,false⟩) = σ0
 have Ul : σ0 [4,25]=some ⟨us (A'++b++t),1,false⟩:=by rw [<- hσ];simp [aa.put]
 have hσQ : σ0 [39]=some ⟨us (zs (i+1)++o),1,false⟩:=by rw [<- hσ];simp [aa.put]
 have ld2:=iK Ul (uq (t:=t) hA' XL)
 have ld1:=iK Ul (uq (t:=t) hA' Qr)
 have ld0:=iK Ul (uq (t:=t) hA' Tf)
 have w2:=bn x2 Ku
 have w1:=bn x1 QS
 have w0:=bn z0 QT
 have s2:=we x2 Ku
 have o2:=C7 x2 x1 Ku QS
 rw [<- Df] at o2
 have q1:=C8 num hh MH (by omega)
 have r1:=C9 num hh (by omega)
 refine VW.Iz (VW.QO (VW.Iz (VW.of ?_)))
 simp only [SS,DD,Nat.reduceAdd,a1,a2,ia2,ia1,ld2,ld1,w2,w1,s2,o2]
 refine ⟨by simp [ar],VW.Iz (VW.of ?_)⟩
 simp only [SS,DD,Nat.reduceAdd,q1,r1]
 refine ⟨by simp [ar],VW.Iz (VW.QO ?_)⟩
 have aaf:num/hh*hh+num%hh=num:=by rw [Nat.mul_comm];exact Nat.div_add_mod num hh
 have Gi:=Iw YS XE hD QT YR
 refine VW.mono (Q:=fun e s'=>∃ q n2,e = .exit 3/\(q<au/\val b/V<=q/\q<=val b/V+1)/\Wk G [] s' ⟨List.replicate 8 .top++[.int .i64 (s:Int), .osl [4,25] 1 0 (ah m+1) false,W V, .int .i64 ((k+2:Nat):Int), .osl [39] 1 0 L false, .int .u64 (hh:Int), .int .u64 (ll:Int), .int .i64 (i:Int), .top, .int .u64 (q:Int)]++List.replicate 159 .top, σ0,n2⟩) ?_ ?_
 . refine VW.bL (α := Nat × Nat × Nat) (fun x=>⟨List.replicate 8 .top++[.int .i64 (s:Int), .osl [4,25] 1 0 (ah m+1) false,W V, .int .i64 ((k+2:Nat):Int), .osl [39] 1 0 L false, .int .u64 (hh:Int), .int .u64 (ll:Int), .int .i64 (i:Int), .top, .int .u64 (x.1:Int), .int .u64 (x.2.1:Int)]++List.replicate 158 .top, σ0,x.2.2⟩)
     (fun x=>x.1*hh+x.2.1=num/\val b/V<=x.1/\x.2.1<au/\x.1<18446744073709551616) (fun x=>x.1) (num/hh,num%hh,nn+1000) ?_ ?_ ?_
   . exact Wk.slots (by simp [Fg,List.replicate]) (by simp only [];omega)
   . exact ⟨aaf,Gi,Nat.lt_trans (Nat.mod_lt _ YS) hhB,Nat.lt_of_le_of_lt (Nat.div_le_self _ _) MH⟩
   rintro ⟨q,r,n3⟩ ⟨GY,hle,DW,adx⟩
   simp only [] at GY hle DW adx
   have d1:au<=q->decide ((4294967296:Int)<=(q:Int))=true:=fun h=>ao (by unfold au at h;omega)
   have d2 : ¬ au<=q->decide ((4294967296:Int)<=(q:Int))=false:=fun h=>ak (by unfold au at h;omega)
   have d3:au<=r+hh->decide ((4294967296:Int)<=((r+hh:Nat):Int))=true:=fun h=>ao (by unfold au at h;omega)
   have d4 : ¬ au<=r+hh->decide ((4294967296:Int)<=((r+hh:Nat):Int))=false:=fun h=>ak (by unfold au at h;omega)
   have d5:au*r+z0<q*ll->decide (((au*r+z0:Nat):Int)<((q*ll:Nat):Int))=true:=fun h=>ao (by omega)
   have d6 : ¬ au*r+z0<q*ll->decide (((au*r+z0:Nat):Int)<((q*ll:Nat):Int))=false:=fun h=>ak (by omega)
   have m1 : ¬ au<=q->IntKind.u64.wrap ((q:Int)*(ll:Int))=((q*ll:Nat):Int):=fun h=>Mx q ll (by omega) llB
   have s3:=we r DW
   have o3:=C7 r z0 DW QT
   have p3:=oz r hh (by unfold au at *;omega)
   have G8:=fun ht=>Xw (q:=q) (r:=r) llB YQ YR YS XE hD V3 Ti GY hle ht
   have mh : ¬ au<=q->q*ll<=r*au+z0->q<=val b/V+1:=fun h1 h2=>MD YS XE hD YQ (by omega) GY h2
   have Ln:r*au=au*r:=Nat.mul_comm _ _
   rw [Ln] at G8 mh
   have pq:1<=q->IntKind.u64.wrap ((q:Int)-1)=((q-1:Nat):Int):=fun h=>by rw [IntKind.wrap_u64];omega
   have VV:q-1<18446744073709551616:=by omega
   have hmq:1<=q->q-1<q:=fun h=>by omega
   have hrh : ¬ au<=r+hh->r+hh<au:=fun h=>by omega
   by_cases cq:au<=q
   . obtain ⟨k1,k2,k3,k4⟩:=G8 (.inl cq)
     by_cases cr:au<=r+hh
     . simp only [SS,Nat.reduceAdd,d1 cq,pq k1,p3,d3 cr]
       exact ⟨q-1,_,trivial,⟨(k4 cr).1,k2,(k4 cr).2⟩,Wk.slots (by simp [Fg]) (Nat.le_refl _)⟩
     . simp only [SS,Nat.reduceAdd,d1 cq,pq k1,p3,d4 cr]
       exact ⟨(q-1,r+hh,_),⟨k3,k2,hrh cr,VV⟩,hmq k1,Wk.slots (by simp [Fg]) (Nat.le_refl _)⟩
   . by_cases ct:au*r+z0<q*ll
     . obtain ⟨k1,k2,k3,k4⟩:=G8 (.inr ct)
       by_cases cr:au<=r+hh
       . simp only [SS,Nat.reduceAdd,d2 cq,m1 cq,s3,a1,a3,ia0,ld0,w0,o3,d5 ct,pq k1,p3,d3 cr]
         exact ⟨q-1,_,trivial,⟨(k4 cr).1,k2,(k4 cr).2⟩,Wk.slots (by simp [Fg]) (Nat.le_refl _)⟩
       . simp only [SS,Nat.reduceAdd,d2 cq,m1 cq,s3,a1,a3,ia0,ld0,w0,o3,d5 ct,pq k1,p3,d4 cr]
         exact ⟨(q-1,r+hh,_),⟨k3,k2,hrh cr,VV⟩,hmq k1,Wk.slots (by simp [Fg]) (Nat.le_refl _)⟩
     . have hp:=mh cq (by omega)
       have ady:q<au:=by omega
       simp only [SS,Nat.reduceAdd,d2 cq,m1 cq,s3,a1,a3,ia0,ld0,w0,o3,d6 ct]
       exact ⟨q,_,trivial,⟨ady,hle,hp⟩,Wk.slots (by simp [Fg]) (Nat.le_refl _)⟩
 rintro e s' ⟨q,n2,rfl,⟨hqB,hle,V1⟩,hw⟩
 simp only [wI,if_true,qQ]
 refine VW.cut hw ?_
 have xI:=Il (G:=G) hsu (id:=[4,25]) (a:=A') (b:=b) (t:=t) (v:=V) (q:=q) (tight:=false) (by omega) (by omega) GM hqB
 have BF:=Ko (G:=G) hre (id:=[4,25]) (a:=A') (b:=pad (ah V+1) (val b+au ^ (ah V+1)-q*V)) (t:=t) (v:=V) (tight:=false) (by omega) (kP _ _) (r5 _ _)
 have hVB:V<au ^ (k+2):=hV
 have Fi:val b%V<V:=Nat.mod_lt _ Th
 have MI:val b%V<au ^ (k+2):=Nat.lt_trans Fi hVB
 simp only [SS,Nat.reduceAdd,a1,a4,IB]
 refine ⟨[([4,25],⟨us (A'++b++t),1,false⟩)],_,xI _,by simp [Ul],by simp, ?_⟩
 have hqL:i<(zs (i+1)++o).length:=by simp [zs];omega
 have uV:val b=val b/V*V+val b%V:=by have:=Nat.div_add_mod (val b) V;rw [Nat.mul_comm] at this;omega
 have hUn:U=val A'+au ^ i*(val (val b/V::o)*V+val (pad (k+2) (val b%V))):=by
   rw [gq MI]
   refine Ix (x:=y) (R:=val R) (O:=val o) ?_ (by rw [<- hbv];exact uV)
   rw [XI,cu,hA']
   simp only [val,Nat.mul_zero,Nat.add_zero]
 have uS:i+(val b/V::o).length=L/\A'.length=i/\(pad (k+2) (val b%V)).length=k+2/\i+(k+2)+(0::t).length=ah m+1/\Wd A'/\Wd (pad (k+2) (val b%V))/\Wd (val b/V::o)/\val (pad (k+2) (val b%V))<V/\U=val A'+au ^ i*(val (val b/V::o)*V+val (pad (k+2) (val b%V))):=by
   refine ⟨by simp;omega,hA',kP _ _,by simp;omega,XK,r5 _ _, ?_,by rw [gq MI];exact Fi,hUn⟩
   intro w hw
   rcases List.mem_cons.1 hw with rfl | hw
   . exact Ti
   . exact XH w hw
 have Te:IntKind.u32.wrap ((val b/V:Nat):Int)=((val b/V:Nat):Int):=by rw [uP,Nat.mod_eq_of_lt Ti]
 have Vt:((i:Nat):Int)-1=(((i:Nat):Int)-1):=rfl
 rcases Xu Th hle V1 with ⟨hlt,Um⟩ | ⟨th,Um⟩
 . have dn:decide (val b<q*V)=true:=ao hlt
   have pq:=Xy Um hqB
   have YH:pad (ah V+1) (val (pad (ah V+1) (val b+au ^ (ah V+1)-q*V))+V)=pad (k+2) (val b%V)++[0]:=by
     rw [De];exact QN Th MI hVB Um
   have ef:A'++(pad (k+2) (val b%V)++[0])++t=A'++pad (k+2) (val b%V)++(0::t):=by simp
   rw [YH,ef] at BF
   simp only [SS,Nat.reduceAdd,dn,pq,a1,a4,IB]
   refine ⟨[([4,25],⟨us (A'++pad (ah V+1) (val b+au ^ (ah V+1)-q*V)++t),1,false⟩)],_,BF _,by simp [aa.put],by simp, ?_⟩
   simp only [SS,Nat.reduceAdd,Te,iaq]
   rw [bQ (o:=zs (i+1)++o) (by simp [aa.put,hσQ]) hqL,wh]
   simp only [SS,Nat.reduceAdd]
   refine VW.of ?_
   simp only [SS,Nat.reduceAdd,B4]
   refine ⟨(i,A',pad (k+2) (val b%V),0::t,val b/V::o,_),uS,Nat.lt_succ_self i,Wk.forget (by simp [Fg]) (fun j => ?_) (Nat.le_refl _)⟩
   by_cases e1:j=[39]
   . subst e1;simp [aa.put]
   . by_cases e2:j=[4,25]
     . subst e2;simp [aa.put]
     . simp [aa.put,e1,e2]
 . have dn:decide (val b<q*V)=false:=ak (by omega)
   have YH:pad (ah V+1) (val b+au ^ (ah V+1)-q*V)=pad (k+2) (val b%V)++[0]:=by
     rw [De];exact QM MI Um
   have ef:A'++(pad (k+2) (val b%V)++[0])++t=A'++pad (k+2) (val b%V)++(0::t):=by simp
   rw [YH,ef]
   simp only [SS,Nat.reduceAdd,dn]
   rw [Um]
   simp only [SS,Nat.reduceAdd,Te,iaq]
   rw [bQ (o:=zs (i+1)++o) (by simp [aa.put,hσQ]) hqL,wh]
   simp only [SS,Nat.reduceAdd]
   refine VW.of ?_
   simp only [SS,Nat.reduceAdd,B4]
   refine ⟨(i,A',pad (k+2) (val b%V),0::t,val b/V::o,_),uS,Nat.lt_succ_self i,Wk.forget (by simp [Fg]) (fun j => ?_) (Nat.le_refl _)⟩
   by_cases e1:j=[39]
   . subst e1;simp [aa.put]
   . by_cases e2:j=[4,25]
     . subst e2;simp [aa.put]
     . simp [aa.put,e1,e2]
end
end Go.VL
end

section
set_option linter.unusedVariables false
namespace Go.VL
theorem aag (neg:Bool) (n:Nat):IV (jB neg n) = .agg [.bool (neg&&decide (0<n)),W n]:=by
 cases neg
 . simp only [IV,jB];simp<;>omega
 . simp only [IV,jB];simp<;>omega
theorem Un (σ : aa) (id:Id) (k:Nat) (b:Bool) (n:Nat):eK (σ.put id (some ⟨[.agg [.bool false, .nils]],k,false⟩)) 2 (.ref id 0 0) (.agg [.bool b,W n])=some { val := .tup [],rd:=[id],up:=[(id,some ⟨[.agg [.bool b,W n]],k,false⟩)] }:=by
 rw [cA (n:=2) (v := .agg [.bool b,W n]) (els:=[.agg [.bool false, .nils]]) (k:=k) (aa.bb _ _ _) rfl rfl (by simp [AV.size,AV.cells]) rfl]
 rfl
theorem QU {n:Nat}:0<ah n↔0<n:=by have:=bE (n:=n);omega
section
variable {P:Program} {G:Nat->Option (List AV)}
theorem Kv {f ft:FuncId} (h:Has P f (jr ft)) (ht:gU P G ft):jh P G f:=fun neg n hn=>by
 refine VP.has h ?_
 simp only [jr,SS,Nat.reduceAdd,cx]
 refine aj (qi ht n hn) (by simp [aJ]) ?_
 have e:∀ b,pn [.bool false, .nils] [(0,(1, .bool b)),(1,(1,W n))]=some [.bool b,W n]:=fun _=>rfl
 have dd:decide ((0:Int)<(ah n:Int))=decide (0<n):=by
   have:=QU (n:=n)
   by_cases h0:0<n
   . rw [ao h0,ao (by omega)]
   . rw [ak h0,ak (by omega)]
 rw [aag]
 cases neg <;>
 . simp only [SS,Nat.reduceAdd,bf,dd,e,Un,Bool.true_and,Bool.false_and]
   refine ag▸ab ?_ (af.agg (by intro c hc;simp at hc;rcases hc with rfl | rfl;exact af.bool _;exact aJ _))
   simp only [RS,bR,cv,ae];rfl
theorem QV {f fs:FuncId} (h:Has P f (kC fs)) (hs:jh P G fs) (z:Int) (hz:ah z.natAbs<=1000000):VP P G f [IV z] (IV z):=by
 refine VP.has h ?_
 have lY:=hs (decide (z<0)) z.natAbs (by omega)
 rw [Da] at lY
 have eD:([0]:List Nat)≠[1]:=by decide
 simp only [kC,SS,Nat.reduceAdd,ia,cx,ai eD,ae,jG,iq]
 refine aj lY (by simp [af.bool,aJ]) ?_
 simp only [SS,Nat.reduceAdd,gy]
 refine ag▸ab (r:=IV z) ?_ (aF _)
 simp only [RS,bR,cv,ae];rfl
theorem Uo {f fs:FuncId} (h:Has P f (k8 fs)) (hs:jh P G fs) (z:Int) (hz:ah z.natAbs<=1000000):VP P G f [IV z] (IV (-z)):=by
 refine VP.has h ?_
 have lY:=hs (!decide (z<0)) z.natAbs (by omega)
 rw [Mz] at lY
 have eD:([0]:List Nat)≠[1]:=by decide
 simp only [k8,SS,Nat.reduceAdd,ia,cx,ai eD,ae,jG,iq]
 refine aj lY (by simp [af.bool,aJ]) ?_
 simp only [SS,Nat.reduceAdd,gy]
 refine ag▸ab (r:=IV (-z)) ?_ (aF _)
 simp only [RS,bR,cv,ae];rfl
theorem NZ {f fn:FuncId} (h:Has P f (kF fn)) (hn:∀ z:Int,ah z.natAbs<=1000000->VP P G fn [IV z] (IV z)) (z:Int) (hz:ah z.natAbs<=1000000):VP P G f [IV z] (.int .i64 z.sign):=by
 refine VP.has h ?_
 have hl:ah z.natAbs=0↔z=0:=by rw [bE];omega
 simp only [kF,SS,Nat.reduceAdd,ia,ae,cp]
 refine aj (hn z hz) (by simp [aF]) ?_
 simp only [SS,Nat.reduceAdd]
 rw [bB (k:=(IV z).size) (y:=IV z) rfl (r6 _ _) (by simp [aa.put])]
 simp only [SS,Nat.reduceAdd,ae,iq,bf]
 by_cases h0:z=0
 . have d0:decide ((ah z.natAbs:Int)=0)=true:=ao (by have:=hl.2 h0;omega)
   simp only [SS,Nat.reduceAdd,d0]
   rw [h0]
   exact ag▸ab rfl (af.int _ _)
 . have d0:decide ((ah z.natAbs:Int)=0)=false:=ak (by have:=fun e=>h0 (hl.1 e);omega)
   by_cases hn:z<0
   . have d1:decide (z<0)=true:=ao hn
     simp only [SS,Nat.reduceAdd,d0,ae,jG,d1]
     rw [Int.sign_eq_neg_one_of_neg hn]
     exact ag▸ab rfl (af.int _ _)
   . have d1:decide (z<0)=false:=ak hn
     simp only [SS,Nat.reduceAdd,d0,ae,jG,d1]
     rw [Int.sign_eq_one_of_pos (by omega)]
     exact ag▸ab rfl (af.int _ _)
theorem N3 {f fu fs:FuncId} (h:Has P f (iV fu fs)) (hu:∀ n,n<18446744073709551616->VP P G fu [.int .u64 ((n:Nat):Int)] (W n)) (hs:jh P G fs) (a:Int) (h1 : -9223372036854775808<=a) (h2:a<9223372036854775808):VP P G f [.int .i64 a] (IV a):=by
 refine VP.has h ?_
 have hsz:=nU a.natAbs (by omega)
 have lY:=hs (decide (a<0)) a.natAbs (by omega)
 rw [Da] at lY
 have JP:=hu a.natAbs (by omega)
 simp only [iV,SS,Nat.reduceAdd,cx]
 by_cases hn:a<0
 . have d1:decide (a<0)=true:=ao hn
   rw [d1] at lY
   have e1:IntKind.u64.wrap (0-(IntKind.u64.wrap a))=(a.natAbs:Int):=by rw [IntKind.wrap_u64,IntKind.wrap_u64];omega
   simp only [SS,Nat.reduceAdd,d1,e1]
   refine aj JP (by simp [af.int]) ?_
   simp only [SS,Nat.reduceAdd]
   refine aj lY (by simp [af.bool,aJ]) ?_
   simp only [SS,Nat.reduceAdd,gy]
   refine ag▸ab (r:=IV a) ?_ (aF _)
   simp only [RS,bR,cv,ae];rfl
 . have d1:decide (a<0)=false:=ak hn
   rw [d1] at lY
   have e1:IntKind.u64.wrap a=(a.natAbs:Int):=by rw [IntKind.wrap_u64];omega
   simp only [SS,Nat.reduceAdd,d1,e1]
   refine aj JP (by simp [af.int]) ?_
   simp only [SS,Nat.reduceAdd]
   refine aj lY (by simp [af.bool,aJ]) ?_
   simp only [SS,Nat.reduceAdd,gy]
   refine ag▸ab (r:=IV a) ?_ (aF _)
   simp only [RS,bR,cv,ae];rfl
end
end Go.VL
end

section
set_option linter.unusedVariables false
namespace Go.VL
theorem xz {ds:List Nat} {j a:Nat} (h:ds[j]? = some a):val (ds.drop j)=a+au*val (ds.drop (j+1)):=by
 obtain ⟨h1,h2⟩:=List.getElem?_eq_some_iff.1 h
 rw [List.drop_eq_getElem_cons h1,h2];rfl
theorem Up {ds:List Nat} (h:Wd ds) (k:Nat):Wd (ds.drop k):=fun w hw=>h w (List.mem_of_mem_drop hw)
section
variable {P:Program} {G:Nat->Option (List AV)}
theorem QW {f:FuncId} (h:Has P f j2) (n:Nat) (hn:n<18446744073709551616):VP P G f [W n] (.int .u64 (n:Int)):=by
 refine VP.has h ?_
 have hwn:=nU n hn
 have Xh:IntKind.i64.wrap ((ah n:Int)-1)=(ah n:Int)-1:=by rw [IntKind.wrap_i64];omega
 simp only [j2,SS,Nat.reduceAdd,bf,Xh,aD]
 refine VW.bL (α := Nat × Nat × Nat) (fun x=>⟨[W n, .top, .top, .int .u64 (x.2.2:Int), .int .i64 ((x.1:Int)-1)]++List.replicate 16 .top,fun _=>none,x.2.1⟩)
   (fun x=>x.1<=ah n/\x.2.2=val ((digits n).drop x.1)) (fun x=>x.1) (ah n,1000,0) ?_ ?_ ?_
 . exact Wk.slots (by simp [Fg,List.replicate]) (by simp only [];omega)
 . refine ⟨Nat.le_refl _, ?_⟩
   show 0=val ((digits n).drop (ah n))
   rw [List.drop_eq_nil_of_le (show (digits n).length<=ah n from Nat.le_refl _)];rfl
 rintro ⟨k,nn,r⟩ ⟨hk,hv⟩
 simp only [] at hk hv
 by_cases h0:k=0
 . subst h0
   have d0:decide ((0:Int)<=((0:Nat):Int)-1)=false:=by decide
   rw [List.drop_zero,aI] at hv
   subst hv
   simp only [SS,Nat.reduceAdd,d0]
   exact ag▸ab rfl (af.int _ _)
 . obtain ⟨j,rfl⟩:∃ j,k=j+1:=⟨k-1,by omega⟩
   have d0:decide ((0:Int)<=(j:Int))=true:=ao (by omega)
   have hj:((j+1:Nat):Int)-1=(j:Int):=by omega
   have My:IntKind.i64.wrap ((j:Int)-1)=(j:Int)-1:=by rw [IntKind.wrap_i64];omega
   obtain ⟨a,ha⟩:∃ a,(digits n)[j]? = some a:=⟨_,List.getElem?_eq_getElem (show j<ah n by omega)⟩
   have ui:=aO n a (List.mem_of_getElem? ha)
   have f1:=bn a ui
   have DW:r<au:=by
     have h1:=ly (Up (aO n) (j+1))
     rw [<- hv,List.length_drop] at h1
     have h2:au ^ ((digits n).length-(j+1))<=au ^ 1:=Nat.pow_le_pow_right cV (by show ah n-(j+1)<=1;omega)
     rw [Nat.pow_one] at h2;omega
   have f2:=we r DW
   have f3:=C7 r a DW ui
   have hv':au*r+a=val ((digits n).drop j):=by rw [xz ha,hv,Nat.add_comm]
   have ZR:j<=ah n:=by omega
   simp only [SS,Nat.reduceAdd,d0,hj,de ha,az,bm,f1,f2,f3,My]
   exact ⟨(j,_,au*r+a),⟨ZR,hv'⟩,Nat.lt_succ_self j,Wk.slots (by simp [Fg]) (Nat.le_refl _)⟩
theorem IC {f:FuncId} (h:Has P f iW) (m n:Nat) (hm:ah m<=1000000) (_hn:ah n<=1000000):VP P G f [W m,W n] (.int .i64 (gp m n)):=by
 refine VP.has h ?_
 simp only [iW,SS,Nat.reduceAdd,bf]
 by_cases hl:ah m=ah n
 case neg =>
   have d:decide ((ah m:Int)≠(ah n:Int))=true:=ao (by omega)
   rcases Nat.lt_or_ge (ah m) (ah n) with h1 | h1
   . have h2:=uh h1
     have d1:decide ((ah m:Int)<(ah n:Int))=true:=ao (by omega)
     have e:gp m n = -1-0:=by unfold gp;rw [wL (by omega)];rfl
     rw [e]
     simp only [SS,Nat.reduceAdd,bf,d,d1]
     exact ag▸ab rfl (af.int _ _)
   . have Lh:ah n<ah m:=by omega
     have h2:=uh Lh
     have d1:decide ((ah m:Int)<(ah n:Int))=false:=ak (by omega)
     have e:gp m n=1:=by unfold gp;rw [wM (by omega)]
     rw [e]
     simp only [SS,Nat.reduceAdd,bf,d,d1]
     exact ag▸ab rfl (af.int _ _)
 have d:decide ((ah m:Int)≠(ah n:Int))=false:=ak (by omega)
 have ew:IntKind.i64.wrap ((ah m:Int)-1)=(ah m:Int)-1:=by rw [IntKind.wrap_i64];omega
 have hd0:(digits m).drop (ah m)=(digits n).drop (ah m):=by
   have e1:(digits m).drop (ah m)=[]:=List.drop_of_length_le (Nat.le_refl _)
   have e2:(digits n).drop (ah m)=[]:=List.drop_of_length_le (by show ah n<=ah m;omega)
   rw [e1,e2]
 simp only [SS,Nat.reduceAdd,bf,d,ew,aD]
 refine VW.bL (α := Nat × Nat) (fun x=>⟨[W m,W n, .top, .top, .top, .int .i64 ((x.1:Int)-1)]++List.replicate 35 .top,fun _=>none,x.2⟩) (fun x=>x.1<=ah m/\(digits m).drop x.1=(digits n).drop x.1) (fun x=>x.1) (ah m,1000) ?_
   ⟨Nat.le_refl _,hd0⟩ ?_
 . exact Wk.slots (by simp [Fg,List.replicate]) (by simp only [];omega)
 rintro ⟨j,q⟩ ⟨hj,hd⟩
 simp only [] at hj hd
 simp only [SS,Nat.reduceAdd]
 by_cases h0:j=0
 . subst h0
   have d0:decide ((0:Int)<=((0:Nat):Int)-1)=false:=by decide
   simp only [SS,d0]
   have e:m=n:=by
     simp only [List.drop_zero] at hd
     rw [<- aI m,hd,aI]
   have e2:gp m n=0:=Ga (by omega)
   rw [e2]
   exact ag▸ab rfl (af.int _ _)
 . have ot:0<j:=Nat.pos_of_ne_zero h0
   have d0:decide ((0:Int)<=((j-1:Nat):Int))=true:=ao (by omega)
   have ej:(j:Int)-1=((j-1:Nat):Int):=by omega
   have Xb:j-1<(digits m).length:=by show j-1<ah m;omega
   have JU:j-1<(digits n).length:=by show j-1<ah n;omega
   have ew2:IntKind.i64.wrap (((j-1:Nat):Int)-1)=((j-1:Nat):Int)-1:=by rw [IntKind.wrap_i64];omega
   obtain ⟨x,hx⟩:∃ x,(digits m)[j-1]? = some x:=⟨_,List.getElem?_eq_getElem Xb⟩
   obtain ⟨y,hy⟩:∃ y,(digits n)[j-1]? = some y:=⟨_,List.getElem?_eq_getElem JU⟩
   have S7:(digits m).drop (j-1+1)=(digits n).drop (j-1+1):=by rw [show j-1+1=j from by omega];exact hd
   rcases Nat.lt_trichotomy x y with h1 | h1 | h1
   . have e:gp m n = -1-0:=by
       have:=B5 (aO m) (aO n) hl hx hy S7 h1
       rw [aI,aI] at this
       unfold gp;rw [wL (by omega)];rfl
     have d1:decide ((x:Int)<(y:Int))=true:=ao (by omega)
     rw [e]
     simp only [SS,DD,Nat.reduceAdd,d0,ej,de hx,de hy,az,bm,d1]
     refine ⟨by simp [ar], ?_⟩
     exact ag▸ab rfl (af.int _ _)
   . have d1:decide ((x:Int)<(y:Int))=false:=ak (by omega)
     have d2:decide ((y:Int)<(x:Int))=false:=ak (by omega)
     simp only [SS,DD,Nat.reduceAdd,d0,ej,de hx,de hy,az,bm,d1]
     refine ⟨by simp [ar], ?_⟩
     simp only [SS,Nat.reduceAdd,d2,ew2]
     refine ⟨by simp [ar],(j-1,_),⟨by simp only [];omega, ?_⟩,by simp only [];omega,Wk.slots (by simp [Fg]) (Nat.le_refl _)⟩
     simp only []
     rw [List.drop_eq_getElem_cons Xb,List.drop_eq_getElem_cons JU,S7]
     obtain ⟨_,Lh⟩:=List.getElem?_eq_some_iff.1 hx
     obtain ⟨_,Vo⟩:=List.getElem?_eq_some_iff.1 hy
     rw [Lh,Vo,h1]
   . have e:gp m n=1:=by
       have:=B5 (aO n) (aO m) hl.symm hy hx S7.symm h1
       rw [aI,aI] at this
       unfold gp;rw [wM (by omega)]
     have d1:decide ((x:Int)<(y:Int))=false:=ak (by omega)
     have d2:decide ((y:Int)<(x:Int))=true:=ao (by omega)
     rw [e]
     simp only [SS,DD,Nat.reduceAdd,d0,ej,de hx,de hy,az,bm,d1]
     refine ⟨by simp [ar], ?_⟩
     simp only [SS,d2]
     refine ⟨by simp [ar], ?_⟩
     exact ag▸ab rfl (af.int _ _)
end
end Go.VL
end

section
set_option linter.unusedVariables false
namespace Go.VL
theorem wP {x y c:Nat} (hx:x<au) (hy:y<au) (hc:c<=1):∃ w c':Nat,w<au/\c'<=1/\w+y+c=x+au*c' /\
   (∃ d:Nat,IntKind.u64.wrap (IntKind.u64.wrap (IntKind.u64.wrap ((x:Int)+4294967296)-(y:Int))-(c:Int))=(d:Int)/\IntKind.u32.wrap (d:Int)=(w:Int)/\IntKind.u64.wrap (1-((d/au:Nat):Int))=(c':Int)):=by
 have h1:IntKind.u64.wrap ((x:Int)+4294967296)=((x+4294967296:Nat):Int):=by rw [IntKind.wrap_u64];unfold au at *;omega
 have h2:IntKind.u64.wrap (((x+4294967296:Nat):Int)-(y:Int))=((x+4294967296-y:Nat):Int):=by rw [IntKind.wrap_u64];unfold au at *;omega
 have h3:IntKind.u64.wrap (((x+4294967296-y:Nat):Int)-(c:Int))=((x+4294967296-y-c:Nat):Int):=by rw [IntKind.wrap_u64];unfold au at *;omega
 rw [h1,h2,h3]
 unfold au at *
 by_cases h:y+c<=x
 . refine ⟨x-y-c,0,by omega,by omega,by omega,_,rfl, ?_, ?_⟩
   . rw [IntKind.wrap_u32];omega
   . rw [IntKind.wrap_u64];omega
 . refine ⟨x+4294967296-y-c,1,by omega,by omega,by omega,_,rfl, ?_, ?_⟩
   . rw [IntKind.wrap_u32];omega
   . rw [IntKind.wrap_u64];omega
section
variable {P:Program} {G:Nat->Option (List AV)}
set_option maxHeartbeats 1000000 in
theorem QX {f ft:FuncId} (h:Has P f (kD ft)) (ht:gU P G ft) (m n:Nat) (hm:ah m<=1000000) (hn:ah n<=1000000):VP P G f [W m,W n] (W (m+n)):=by
 refine VP.has h ?_
 simp only [kD,SS,Nat.reduceAdd,bf]
 by_cases QY:(¬ ah m<ah n)
 . have d0:decide ((ah m:Int)<(ah n:Int))=false:=by first | exact ao (by omega) | exact ak (by omega)
   have hL:=np (ah m) 1 (by omega)
   have hL':IntKind.i64.wrap ((ah m:Int)+1)=((ah m+1:Nat):Int):=hL
   have xe:∀ p:Id,kT p 1 4 (.int .u32 0) (.int .i64 ((ah m+1:Nat):Int)) (.int .i64 ((ah m+1:Nat):Int))=some { val := .osl p 1 0 (ah m+1) false,up:=[(p,some ⟨us (List.replicate (ah m+1) 0),1,false⟩)] }:=fun p=>mz (by omega)
   simp only [SS,Nat.reduceAdd,bf,d0,hL',xe,aD]
   refine VW.bL (α := Nat × Nat × List Nat × Nat) (fun x=>⟨[W m,W n, .top, .top, .top, .osl [9] 1 0 (ah m+1) false, .int .u64 (x.2.2.2:Int), .int .i64 (x.1:Int)]++List.replicate 50 .top,
     aa.put (fun _=>none) [9] (some ⟨us (x.2.2.1++zs (ah m+1-x.1)),1,false⟩),x.2.1⟩)
     (fun x=>x.1<=ah m/\x.2.2.1.length=x.1/\Wd x.2.2.1/\x.2.2.2<=1/\val x.2.2.1+au ^ x.1*x.2.2.2=val ((digits m).take x.1)+val ((digits n).take x.1)) (fun x=>ah m-x.1) (0,1000,[],0) ?_ ?_ ?_
   . exact Wk.slots (by simp [Fg,List.replicate]) (by simp only [];omega)
   . exact ⟨Nat.zero_le _,rfl,by intro w hw;simp at hw,Nat.zero_le _,by simp [val]⟩
   rintro ⟨i,nn,o,c⟩ ⟨hi,ho,hwd,hc,hv⟩
   simp only [] at hi ho hwd hc hv
   have qy:i<ah m->decide ((i:Int)<(ah m:Int))=true:=fun h=>ao (by omega)
   have tz : ¬ i<ah m->decide ((i:Int)<(ah m:Int))=false:=fun h=>ak (by omega)
   have Ig:i<ah n->decide ((i:Int)<(ah n:Int))=true:=fun h=>ao (by omega)
   have Ih : ¬ i<ah n->decide ((i:Int)<(ah n:Int))=false:=fun h=>ak (by omega)
   have dr : ¬ i<ah m->i=ah m:=by omega
   have qW:=aq i (by omega)
   have lX:i<ah m->i+1<=ah m/\ah m-(i+1)<ah m-i:=fun h=>by omega
   have iy:=cB (q:=[9]) (t:=false) (show i<ah m+1 by omega)
   obtain ⟨k,hk⟩:∃ k,ah m+1-i=k+1:=⟨ah m-i,by omega⟩
   have A4:ah m+1-(i+1)=k:=by omega
   have mO:i<(o++0::zs k).length:=by simp;omega
   by_cases hlt:i<ah m
   . obtain ⟨x,hx⟩:∃ x,(digits m)[i]? = some x:=⟨_,List.getElem?_eq_getElem hlt⟩
     have qz:=aO m x (List.mem_of_getElem? hx)
     have f1:=bn x qz
     have f2:=oz c x (by unfold au at qz;omega)
     by_cases hb:i<ah n
     . obtain ⟨y,hy⟩:∃ y,(digits n)[i]? = some y:=⟨_,List.getElem?_eq_getElem hb⟩
       have AB:=aO n y (List.mem_of_getElem? hy)
       have f3:=bn y AB
       have f4:=oz (c+x) y (by unfold au at qz AB;omega)
       have hst:=me (x:=x) (y:=y) ho hv rfl
       have hc':(c+x+y)/au<=1:=by unfold au at *;omega
       simp only [SS,Nat.reduceAdd,bf,qy hlt,de hx,az,bm,f1,f2,Ig hb,de hy,f3,f4,iy,uP,hk,iL]
       rw [bQ (o:=o++0::zs k) (by simp [aa.put]) mO,fj _ _ _ _ ho]
       simp only [SS,Nat.reduceAdd,nJ,qW]
       refine ⟨(i+1,_,o++[(c+x+y)%au],(c+x+y)/au),⟨(lX hlt).1,by simp [ho],oh hwd _,hc', ?_⟩,(lX hlt).2,Wk.forget (by simp [Fg]) (fun j => ?_) (Nat.le_refl _)⟩
       . show val (o++[(c+x+y)%au])+_=val ((digits m).take (i+1))+val ((digits n).take (i+1))
         rw [aE hx,aE hy];exact hst
       . simp only [aa.put,A4];split<;>simp
     . have hst:=me (x:=x) (y:=0) ho hv rfl
       rw [Nat.mul_zero,Nat.add_zero,Nat.add_zero] at hst
       have hc':(c+x)/au<=1:=by unfold au at *;omega
       simp only [SS,Nat.reduceAdd,bf,qy hlt,de hx,az,bm,f1,f2,Ih hb,iy,uP,hk,iL]
       rw [bQ (o:=o++0::zs k) (by simp [aa.put]) mO,fj _ _ _ _ ho]
       simp only [SS,Nat.reduceAdd,nJ,qW]
       refine ⟨(i+1,_,o++[(c+x)%au],(c+x)/au),⟨(lX hlt).1,by simp [ho],oh hwd _,hc', ?_⟩,(lX hlt).2,Wk.forget (by simp [Fg]) (fun j => ?_) (Nat.le_refl _)⟩
       . show val (o++[(c+x)%au])+_=val ((digits m).take (i+1))+val ((digits n).take (i+1))
         rw [aE hx,ja (show (digits n).length<=i from by show ah n<=i;omega)];exact hst
       . simp only [aa.put,A4];split<;>simp
   . have oi:=dr hlt
     have hcB:c<au:=by unfold au;omega
     have f5:IntKind.u32.wrap (c:Int)=(c:Int):=by rw [uP,Nat.mod_eq_of_lt hcB]
     have XM:=cB (q:=[9]) (t:=false) (show ah m<ah m+1 by omega)
     have JY:k=0:=by omega
     have uH:ah m<(o++0::zs k).length:=by simp;omega
     have e1:(digits m).take (ah m)=digits m:=List.take_of_length_le (Nat.le_refl _)
     have e2:(digits n).take (ah m)=digits n:=List.take_of_length_le (by show ah n<=ah m;omega)
     have xK:val (o++[c])=m+n:=by
       rw [cu,ho];simp only [val,Nat.mul_zero,Nat.add_zero]
       rw [hv,oi,e1,e2,aI,aI]
       all_goals omega
     have Ub:Wd (o++[c]):=cw hwd (by intro z hz;simp at hz;subst hz;exact hcB)
     have uU:ah m+1=(o++[c]).length:=by simp [ho,oi]
     have xx:=ht (o++[c]) Ub (by rw [<- uU];omega)
     rw [xK] at xx
     simp only [SS,Nat.reduceAdd,bf,tz hlt,f5,XM,hk,iL]
     rw [bQ (o:=o++0::zs k) (by simp [aa.put]) uH,fj _ _ _ _ (ho.trans oi),JY,uj]
     simp only [SS,Nat.reduceAdd]
     refine cM [([9],⟨us (o++[c]),1,false⟩)] xx (aW.cons (gJ uU) aW.nil) (by simp [aa.put]) ?_
     simp only [SS,Nat.reduceAdd]
     exact ag▸ab rfl (aJ _)
 by_cases Uq:(ah m<ah n)
 . have d0:decide ((ah m:Int)<(ah n:Int))=true:=by first | exact ao (by omega) | exact ak (by omega)
   have hL:=np (ah n) 1 (by omega)
   have hL':IntKind.i64.wrap ((ah n:Int)+1)=((ah n+1:Nat):Int):=hL
   have xe:∀ p:Id,kT p 1 4 (.int .u32 0) (.int .i64 ((ah n+1:Nat):Int)) (.int .i64 ((ah n+1:Nat):Int))=some { val := .osl p 1 0 (ah n+1) false,up:=[(p,some ⟨us (List.replicate (ah n+1) 0),1,false⟩)] }:=fun p=>mz (by omega)
   simp only [SS,Nat.reduceAdd,bf,d0,hL',xe,aD]
   refine VW.bL (α := Nat × Nat × List Nat × Nat) (fun x=>⟨[W n,W m, .top, .top, .top, .osl [13] 1 0 (ah n+1) false, .int .u64 (x.2.2.2:Int), .int .i64 (x.1:Int)]++List.replicate 50 .top,
     aa.put (fun _=>none) [13] (some ⟨us (x.2.2.1++zs (ah n+1-x.1)),1,false⟩),x.2.1⟩)
     (fun x=>x.1<=ah n/\x.2.2.1.length=x.1/\Wd x.2.2.1/\x.2.2.2<=1/\val x.2.2.1+au ^ x.1*x.2.2.2=val ((digits n).take x.1)+val ((digits m).take x.1)) (fun x=>ah n-x.1) (0,1000,[],0) ?_ ?_ ?_
   . exact Wk.slots (by simp [Fg,List.replicate]) (by simp only [];omega)
   . exact ⟨Nat.zero_le _,rfl,by intro w hw;simp at hw,Nat.zero_le _,by simp [val]⟩
   rintro ⟨i,nn,o,c⟩ ⟨hi,ho,hwd,hc,hv⟩
   simp only [] at hi ho hwd hc hv
   have qy:i<ah n->decide ((i:Int)<(ah n:Int))=true:=fun h=>ao (by omega)
   have tz : ¬ i<ah n->decide ((i:Int)<(ah n:Int))=false:=fun h=>ak (by omega)
   have Ig:i<ah m->decide ((i:Int)<(ah m:Int))=true:=fun h=>ao (by omega)
   have Ih : ¬ i<ah m->decide ((i:Int)<(ah m:Int))=false:=fun h=>ak (by omega)
   have dr : ¬ i<ah n->i=ah n:=by omega
   have qW:=aq i (by omega)
   have lX:i<ah n->i+1<=ah n/\ah n-(i+1)<ah n-i:=fun h=>by omega
   have iy:=cB (q:=[13]) (t:=false) (show i<ah n+1 by omega)
   obtain ⟨k,hk⟩:∃ k,ah n+1-i=k+1:=⟨ah n-i,by omega⟩
   have A4:ah n+1-(i+1)=k:=by omega
   have mO:i<(o++0::zs k).length:=by simp;omega
   by_cases hlt:i<ah n
   . obtain ⟨x,hx⟩:∃ x,(digits n)[i]? = some x:=⟨_,List.getElem?_eq_getElem hlt⟩
     have qz:=aO n x (List.mem_of_getElem? hx)
     have f1:=bn x qz
     have f2:=oz c x (by unfold au at qz;omega)
     by_cases hb:i<ah m
     . obtain ⟨y,hy⟩:∃ y,(digits m)[i]? = some y:=⟨_,List.getElem?_eq_getElem hb⟩
       have AB:=aO m y (List.mem_of_getElem? hy)
       have f3:=bn y AB
       have f4:=oz (c+x) y (by unfold au at qz AB;omega)
       have hst:=me (x:=x) (y:=y) ho hv rfl
       have hc':(c+x+y)/au<=1:=by unfold au at *;omega
       simp only [SS,Nat.reduceAdd,bf,qy hlt,de hx,az,bm,f1,f2,Ig hb,de hy,f3,f4,iy,uP,hk,iL]
       rw [bQ (o:=o++0::zs k) (by simp [aa.put]) mO,fj _ _ _ _ ho]
       simp only [SS,Nat.reduceAdd,nJ,qW]
       refine ⟨(i+1,_,o++[(c+x+y)%au],(c+x+y)/au),⟨(lX hlt).1,by simp [ho],oh hwd _,hc', ?_⟩,(lX hlt).2,Wk.forget (by simp [Fg]) (fun j => ?_) (Nat.le_refl _)⟩
       . show val (o++[(c+x+y)%au])+_=val ((digits n).take (i+1))+val ((digits m).take (i+1))
         rw [aE hx,aE hy];exact hst
       . simp only [aa.put,A4];split<;>simp
     . have hst:=me (x:=x) (y:=0) ho hv rfl
       rw [Nat.mul_zero,Nat.add_zero,Nat.add_zero] at hst
       have hc':(c+x)/au<=1:=by unfold au at *;omega
       simp only [SS,Nat.reduceAdd,bf,qy hlt,de hx,az,bm,f1,f2,Ih hb,iy,uP,hk,iL]
       rw [bQ (o:=o++0::zs k) (by simp [aa.put]) mO,fj _ _ _ _ ho]
       simp only [SS,Nat.reduceAdd,nJ,qW]
       refine ⟨(i+1,_,o++[(c+x)%au],(c+x)/au),⟨(lX hlt).1,by simp [ho],oh hwd _,hc', ?_⟩,(lX hlt).2,Wk.forget (by simp [Fg]) (fun j => ?_) (Nat.le_refl _)⟩
       . show val (o++[(c+x)%au])+_=val ((digits n).take (i+1))+val ((digits m).take (i+1))
         rw [aE hx,ja (show (digits m).length<=i from by show ah m<=i;omega)];exact hst
       . simp only [aa.put,A4];split<;>simp
   . have oi:=dr hlt
     have hcB:c<au:=by unfold au;omega
     have f5:IntKind.u32.wrap (c:Int)=(c:Int):=by rw [uP,Nat.mod_eq_of_lt hcB]
     have XM:=cB (q:=[13]) (t:=false) (show ah n<ah n+1 by omega)
     have JY:k=0:=by omega
     have uH:ah n<(o++0::zs k).length:=by simp;omega
     have e1:(digits n).take (ah n)=digits n:=List.take_of_length_le (Nat.le_refl _)
     have e2:(digits m).take (ah n)=digits m:=List.take_of_length_le (by show ah m<=ah n;omega)
     have xK:val (o++[c])=m+n:=by
       rw [cu,ho];simp only [val,Nat.mul_zero,Nat.add_zero]
       rw [hv,oi,e1,e2,aI,aI]
       all_goals omega
     have Ub:Wd (o++[c]):=cw hwd (by intro z hz;simp at hz;subst hz;exact hcB)
     have uU:ah n+1=(o++[c]).length:=by simp [ho,oi]
     have xx:=ht (o++[c]) Ub (by rw [<- uU];omega)
     rw [xK] at xx
     simp only [SS,Nat.reduceAdd,bf,tz hlt,f5,XM,hk,iL]
     rw [bQ (o:=o++0::zs k) (by simp [aa.put]) uH,fj _ _ _ _ (ho.trans oi),JY,uj]
     simp only [SS,Nat.reduceAdd]
     refine cM [([13],⟨us (o++[c]),1,false⟩)] xx (aW.cons (gJ uU) aW.nil) (by simp [aa.put]) ?_
     simp only [SS,Nat.reduceAdd]
     exact ag▸ab rfl (aJ _)
 exact absurd Uq QY
set_option maxHeartbeats 1000000 in
theorem Fj {f ft:FuncId} (h:Has P f (dS ft)) (ht:gU P G ft) (m n:Nat) (yf:n<=m) (hm:ah m<=1000000):VP P G f [W m,W n] (W (m-n)):=by
 refine VP.has h ?_
 have hwn:=cP yf
 have xe:∀ p:Id,kT p 1 4 (.int .u32 0) (.int .i64 (ah m:Int)) (.int .i64 (ah m:Int))=some { val := .osl p 1 0 (ah m) false,up:=[(p,some ⟨us (List.replicate (ah m) 0),1,false⟩)] }:=fun p=>mz (by omega)
 simp only [dS,SS,Nat.reduceAdd,bf,xe,aD]
 refine VW.bL (α := Nat × Nat × List Nat × Nat) (fun x=>⟨[W m,W n, .top, .top, .top, .osl [3] 1 0 (ah m) false, .int .u64 (x.2.2.2:Int), .int .i64 (x.1:Int)]++List.replicate 40 .top,
   aa.put (fun _=>none) [3] (some ⟨us (x.2.2.1++zs (ah m-x.1)),1,false⟩),x.2.1⟩)
   (fun x=>x.1<=ah m/\x.2.2.1.length=x.1/\Wd x.2.2.1/\x.2.2.2<=1/\val x.2.2.1+val ((digits n).take x.1)=val ((digits m).take x.1)+au ^ x.1*x.2.2.2) (fun x=>ah m-x.1) (0,1000,[],0) ?_ ?_ ?_
 . exact Wk.slots (by simp [Fg,List.replicate]) (by simp only [];omega)
 . exact ⟨Nat.zero_le _,rfl,by intro w hw;simp at hw,Nat.zero_le _,by simp [val]⟩
 rintro ⟨i,nn,o,c⟩ ⟨hi,ho,hwd,hc,hv⟩
 simp only [] at hi ho hwd hc hv
 have qy:i<ah m->decide ((i:Int)<(ah m:Int))=true:=fun h=>ao (by omega)
 have tz : ¬ i<ah m->decide ((i:Int)<(ah m:Int))=false:=fun h=>ak (by omega)
 have Ig:i<ah n->decide ((i:Int)<(ah n:Int))=true:=fun h=>ao (by omega)
 have Ih : ¬ i<ah n->decide ((i:Int)<(ah n:Int))=false:=fun h=>ak (by omega)
 have dr : ¬ i<ah m->i=ah m:=by omega
 have qW:=aq i (by omega)
 have lX:i<ah m->i+1<=ah m/\ah m-(i+1)<ah m-i:=fun h=>by omega
 by_cases hlt:i<ah m
 . obtain ⟨x,hx⟩:∃ x,(digits m)[i]? = some x:=⟨_,List.getElem?_eq_getElem hlt⟩
   have qz:=aO m x (List.mem_of_getElem? hx)
   have f1:=bn x qz
   have iy:=cB (q:=[3]) (t:=false) hlt
   obtain ⟨k,hk⟩:∃ k,ah m-i=k+1:=⟨ah m-i-1,by omega⟩
   have A4:ah m-(i+1)=k:=by omega
   have mO:i<(o++0::zs k).length:=by simp;omega
   by_cases hb:i<ah n
   . obtain ⟨y,hy⟩:∃ y,(digits n)[i]? = some y:=⟨_,List.getElem?_eq_getElem hb⟩
     have AB:=aO n y (List.mem_of_getElem? hy)
     have f3:=bn y AB
     obtain ⟨w,c',h1,h2,h3,d,h4,h5,h6⟩:=wP qz AB hc
     have hst:=mH (va:=val ((digits m).take i)) (vb:=val ((digits n).take i)) (x:=x) (y:=y) (c:=c) (w:=w) (c':=c') ho (by rw [hv];omega) h3
     simp only [SS,Nat.reduceAdd,bf,qy hlt,de hx,az,bm,f1,Ig hb,de hy,f3,h4,h5,iy,hk,iL]
     rw [bQ (o:=o++0::zs k) (by simp [aa.put]) mO,fj _ _ _ _ ho]
     simp only [SS,Nat.reduceAdd,nJ,h6,qW]
     refine ⟨(i+1,_,o++[w],c'),⟨(lX hlt).1,by simp [ho],cw hwd (by intro z hz;simp at hz;subst hz;exact h1),h2, ?_⟩,(lX hlt).2,Wk.forget (by simp [Fg]) (fun j => ?_) (Nat.le_refl _)⟩
     . show val (o++[w])+val ((digits n).take (i+1))=val ((digits m).take (i+1))+_
       rw [aE hx,aE hy];exact hst
     . simp only [aa.put,A4];split<;>simp
   . obtain ⟨w,c',h1,h2,h3,d,h4,h5,h6⟩:=wP (y:=0) qz cV hc
     have h4':IntKind.u64.wrap (IntKind.u64.wrap (IntKind.u64.wrap ((x:Int)+4294967296)-0)-(c:Int))=(d:Int):=h4
     have hst:=mH (va:=val ((digits m).take i)) (vb:=val ((digits n).take i)) (x:=x) (y:=0) (c:=c) (w:=w) (c':=c') ho (by rw [hv];omega) h3
     rw [Nat.mul_zero,Nat.add_zero] at hst
     simp only [SS,Nat.reduceAdd,bf,qy hlt,de hx,az,bm,f1,Ih hb,h4',h5,iy,hk,iL]
     rw [bQ (o:=o++0::zs k) (by simp [aa.put]) mO,fj _ _ _ _ ho]
     simp only [SS,Nat.reduceAdd,nJ,h6,qW]
     refine ⟨(i+1,_,o++[w],c'),⟨(lX hlt).1,by simp [ho],cw hwd (by intro z hz;simp at hz;subst hz;exact h1),h2, ?_⟩,(lX hlt).2,Wk.forget (by simp [Fg]) (fun j => ?_) (Nat.le_refl _)⟩
     . show val (o++[w])+val ((digits n).take (i+1))=val ((digits m).take (i+1))+_
       rw [aE hx,ja (show (digits n).length<=i from by show ah n<=i;omega)];exact hst
     . simp only [aa.put,A4];split<;>simp
 . have oi:=dr hlt
   have e1:(digits m).take (ah m)=digits m:=List.take_of_length_le (Nat.le_refl _)
   have e2:(digits n).take (ah m)=digits n:=List.take_of_length_le (by show ah n<=ah m;omega)
   have xK:val o=m-n:=by
     rw [oi,e1,e2,aI,aI] at hv
     have rn:=ly hwd
     rw [ho,oi] at rn
     rcases Nat.eq_zero_or_pos c with h0 | h0
     . subst h0;omega
     . have:c=1:=by omega
       subst this;have:=cN m;omega
   have uU:ah m=o.length:=by omega
   have e3:zs (ah m-i)=[]:=by rw [oi,Nat.sub_self];rfl
   have xx:=ht o hwd (by omega)
   rw [xK] at xx
   simp only [SS,Nat.reduceAdd,bf,tz hlt,e3]
   refine cM [([3],⟨us o,1,false⟩)] xx (aW.cons (gJ uU) aW.nil) (by simp [aa.put]) ?_
   simp only [SS,Nat.reduceAdd]
   exact ag▸ab rfl (aJ _)
end
end Go.VL
end

section
set_option linter.unusedVariables false
namespace Go.VL
section
variable {P:Program} {G:Nat->Option (List AV)}
set_option maxHeartbeats 1000000 in
theorem Dg {f ft:FuncId} (h:Has P f (gH ft)) (ht:gU P G ft) (m:Nat) {ws:List Nat} (hws:Wd ws) (hm:ah m<=1000000) (hn:ws.length<=1000000):VP P G f [W m, .sl 1 (us ws)] (W (m*val ws)):=by
 refine VP.has h ?_
 have xe:∀ p:Id,kT p 1 4 (.int .u32 0) (.int .i64 ((ah m+ws.length:Nat):Int)) (.int .i64 ((ah m+ws.length:Nat):Int))=some { val := .osl p 1 0 (ah m+ws.length) false,up:=[(p,some ⟨us (List.replicate (ah m+ws.length) 0),1,false⟩)] }:=fun p=>mz (by omega)
 have hL:=np (ah m) (ws.length) (by omega)
 simp only [gH,SS,Nat.reduceAdd,bf,dD,hL,xe,aD]
 refine VW.bL (α := Nat × Nat × List Nat) (fun x=>⟨[W m, .sl 1 (us ws), .top, .top, .top, .osl [6] 1 0 (ah m+ws.length) false, .int .i64 (x.1:Int)]++List.replicate 60 .top,
   aa.put (fun _=>none) [6] (some ⟨us x.2.2,1,false⟩),x.2.1⟩)
   (fun x=>x.1<=ah m/\x.2.2.length=ah m+ws.length/\Wd x.2.2/\val x.2.2=val ((digits m).take x.1)*val ws) (fun x=>ah m-x.1) (0,1000,List.replicate (ah m+ws.length) 0) ?_ ?_ ?_
 . exact Wk.slots (by simp [Fg,List.replicate]) (by simp only [];omega)
 . exact ⟨Nat.zero_le _,List.length_replicate ..,C4 _,by simp only [];rw [Ay (fun w hw=>List.eq_of_mem_replicate hw)];simp [val]⟩
 rintro ⟨i,nn,o⟩ ⟨hi,ho,hwd,hv⟩
 simp only [] at hi ho hwd hv
 have qy:i<ah m->decide ((i:Int)<(ah m:Int))=true:=fun h=>ao (by omega)
 have tz : ¬ i<ah m->decide ((i:Int)<(ah m:Int))=false:=fun h=>ak (by omega)
 have dr : ¬ i<ah m->i=ah m:=by omega
 have qW:=aq i (by omega)
 have lX:i<ah m->i+1<=ah m/\ah m-(i+1)<ah m-i:=fun h=>by omega
 have vA:=np i (ws.length) (by omega)
 have Kl:i<ah m->i+ws.length<ah m+ws.length:=fun h=>by omega
 by_cases hlt:i<ah m
 . obtain ⟨a,ha⟩:∃ a,(digits m)[i]? = some a:=⟨_,List.getElem?_eq_getElem hlt⟩
   have ui:=aO m a (List.mem_of_getElem? ha)
   have f1:=bn a ui
   have Tf:o[i+ws.length]? = some 0:=by
     obtain ⟨y,hy⟩:∃ y,o[i+ws.length]? = some y:=⟨_,List.getElem?_eq_getElem (by rw [ho];exact Kl hlt)⟩
     have e:=C5 (k:=i+ws.length) (by
       rw [hv,Nat.pow_add]
       have h2:val ((digits m).take i)<au ^ i:=by
         have:=ly (qU (aO m) i)
         rwa [List.length_take,Nat.min_eq_left (show i<=(digits m).length from Nat.le_of_lt hlt)] at this
       exact Nat.mul_lt_mul'' h2 (ly hws)) hy
     rw [e] at hy;exact hy
   simp only [SS,Nat.reduceAdd,bf,qy hlt,aD]
   refine VW.bL (α := Nat × Nat × List Nat × Nat) (fun x=>⟨[W m, .sl 1 (us ws), .top, .top, .top, .osl [6] 1 0 (ah m+ws.length) false, .int .i64 (i:Int), .int .u64 (x.2.2.2:Int), .int .i64 (x.1:Int)]++List.replicate 58 .top,
     aa.put (fun _=>none) [6] (some ⟨us x.2.2.1,1,false⟩),x.2.1⟩)
     (fun x=>x.1<=ws.length/\x.2.2.1.length=ah m+ws.length/\Wd x.2.2.1/\x.2.2.2<au/\x.2.2.1[i+ws.length]? = some 0/\val x.2.2.1+au ^ (i+x.1)*x.2.2.2=val o+au ^ i*(a*val (ws.take x.1))) (fun x=>ws.length-x.1) (0,nn+1000,o,0) ?_ ?_ ?_
   . exact Wk.slots (by simp [Fg,List.replicate]) (by simp only [];omega)
   . exact ⟨Nat.zero_le _,ho,hwd,cV,Tf,by simp [val]⟩
   rintro ⟨j,mm,o',c⟩ ⟨hj,Ie,Gd,hc,hz,hv'⟩
   simp only [] at hj Ie Gd hc hz hv'
   have Ig:j<ws.length->decide ((j:Int)<(ws.length:Int))=true:=fun h=>ao (by omega)
   have Ih : ¬ j<ws.length->decide ((j:Int)<(ws.length:Int))=false:=fun h=>ak (by omega)
   have xk : ¬ j<ws.length->j=ws.length:=by omega
   have My:=aq j (by omega)
   have zP:j<ws.length->j+1<=ws.length/\ws.length-(j+1)<ws.length-j:=fun h=>by omega
   have Ka:=np i j (by omega)
   have Km:j<ws.length->i+j<ah m+ws.length:=fun h=>by omega
   have hne:j<ws.length->i+j≠i+ws.length:=fun h=>by omega
   by_cases zQ:j<ws.length
   . obtain ⟨b,hb⟩:∃ b,ws[j]? = some b:=⟨_,List.getElem?_eq_getElem zQ⟩
     have yg:=hws b (List.mem_of_getElem? hb)
     have f2:=bn b yg
     obtain ⟨z,Xe⟩:∃ z,o'[i+j]? = some z:=⟨_,List.getElem?_eq_getElem (by rw [Ie];exact Km zQ)⟩
     have Ua:=Gd z (List.mem_of_getElem? Xe)
     have f3:=bn z Ua
     have f4:=Mx a b ui yg
     have hle:=Kk ui yg
     have f5:=oz c z (by unfold au at Ua hc;omega)
     have f6:=oz (c+z) (a*b) (by unfold au at Ua hc;omega)
     have hc':(c+z+a*b)/au<au:=by unfold au at Ua hc ⊢;omega
     have iy:=cB (q:=[6]) (t:=false) (Km zQ)
     have hst:=E9 (x:=a) (y:=b) (s:=c+z+a*b) Xe hv' (by omega)
     simp only [SS,DD,Nat.reduceAdd,dD,Ig zQ,Ka,iy]
     rw [iK (o:=o') (b:=false) (by simp [aa.put]) Xe]
     simp only [SS,DD,Nat.reduceAdd,f3,f5,de ha,aQ rfl (rY hb),az,bm,f1,f2,f4,f6]
     refine ⟨by simp [ar], ?_⟩
     simp only [SS,Nat.reduceAdd,uP,Ka,iy]
     rw [bQ (o:=o') (by simp [aa.put]) (by rw [Ie];exact Km zQ)]
     simp only [SS,Nat.reduceAdd,nJ,My]
     refine ⟨(j+1,_,o'.set (i+j) ((c+z+a*b)%au),(c+z+a*b)/au),⟨(zP zQ).1,by simp [Ie],Gc Gd (Nat.mod_lt _ cV),hc', ?_, ?_⟩,(zP zQ).2,Wk.forget (by simp [Fg]) (fun j => ?_) (Nat.le_refl _)⟩
     . rw [List.getElem?_set_ne (hne zQ)];exact hz
     . show _=val o+au ^ i*(a*val (ws.take (j+1)))
       rw [aE hb];exact hst
     . simp only [aa.put];split<;>simp
   . have ZR:=xk zQ
     have iy:=cB (q:=[6]) (t:=false) (Kl hlt)
     have f7:IntKind.u32.wrap (c:Int)=(c:Int):=by rw [uP,Nat.mod_eq_of_lt hc]
     have hval:val (o'.set (i+ws.length) c)=val ((digits m).take (i+1))*val ws:=by
       have e:=B6 (x:=c) hz
       have e2:ws.take ws.length=ws:=List.take_of_length_le (Nat.le_refl _)
       rw [ZR,e2,hv] at hv'
       rw [aE ha,Nat.add_mul]
       have e3:au ^ i*a*val ws=au ^ i*(a*val ws):=Nat.mul_assoc _ _ _
       omega
     simp only [SS,Nat.reduceAdd,dD,Ih zQ,vA,f7,iy]
     rw [bQ (o:=o') (by simp [aa.put]) (by rw [Ie];exact Kl hlt)]
     simp only [SS,Nat.reduceAdd,qW]
     refine ⟨(i+1,_,o'.set (i+ws.length) c),⟨(lX hlt).1,by simp [Ie],Gc Gd hc,hval⟩,(lX hlt).2,Wk.forget (by simp [Fg]) (fun j => ?_) (Nat.le_refl _)⟩
     simp only [aa.put];split<;>simp
 . have oi:=dr hlt
   have e1:(digits m).take (ah m)=digits m:=List.take_of_length_le (Nat.le_refl _)
   have xK:val o=m*val ws:=by rw [hv,oi,e1,aI]
   have xx:=ht o hwd (by rw [ho];omega)
   rw [xK] at xx
   simp only [SS,Nat.reduceAdd,bf,tz hlt]
   refine cM [([6],⟨us o,1,false⟩)] xx (aW.cons (gJ ho.symm) aW.nil) (by simp [aa.put]) ?_
   simp only [SS,Nat.reduceAdd]
   exact ag▸ab rfl (aJ _)
theorem N4 {f ft:FuncId} (h:Has P f (gH ft)) (ht:gU P G ft) (m n:Nat) (hm:ah m<=1000000) (hn:ah n<=1000000):VP P G f [W m,W n] (W (m*n)):=by
 have:=Dg (G:=G) h ht m (aO n) hm hn
 rw [aI] at this;exact this
theorem XN {f ft:FuncId} (h:Has P f (lV ft)) (ht:gU P G ft) (m w:Nat) (hm:ah m<=1000000) (hw:w<au) (Kb:w≠0) :
   VP P G f [W m, .int .u32 (w:Int)] (.tup [W (m/w), .int .u32 ((m%w:Nat):Int)]):=by
 refine VP.has h ?_
 have xe:∀ p:Id,kT p 1 4 (.int .u32 0) (.int .i64 (ah m:Int)) (.int .i64 (ah m:Int))=some { val := .osl p 1 0 (ah m) false,up:=[(p,some ⟨us (List.replicate (ah m) 0),1,false⟩)] }:=fun p=>mz (by omega)
 have Xh:IntKind.i64.wrap ((ah m:Int)-1)=(ah m:Int)-1:=by rw [IntKind.wrap_i64];omega
 have f0:=bn w hw
 have hwz:((w:Nat):Int)≠0:=by omega
 simp only [lV,SS,Nat.reduceAdd,bf,xe,Xh,aD]
 refine VW.bL (α := Nat × Nat × List Nat × Nat) (fun x=>⟨[W m, .int .u32 (w:Int), .top, .top, .top, .top, .osl [4] 1 0 (ah m) false, .int .u64 (x.2.2.2:Int), .int .i64 ((x.1:Int)-1)]++List.replicate 34 .top,
   aa.put (fun _=>none) [4] (some ⟨us (zs x.1++x.2.2.1),1,false⟩),x.2.1⟩)
   (fun x=>x.1+x.2.2.1.length=ah m/\Wd x.2.2.1/\x.2.2.2<w/\val ((digits m).drop x.1)=val x.2.2.1*w+x.2.2.2) (fun x=>x.1) (ah m,1000,[],0) ?_ ?_ ?_
 . rw [List.append_nil];exact Wk.slots (by simp [Fg,List.replicate]) (by simp only [];omega)
 . refine ⟨by simp,by intro w hw;simp at hw,Nat.pos_of_ne_zero Kb, ?_⟩
   show val ((digits m).drop (ah m))=_
   rw [List.drop_eq_nil_of_le (show (digits m).length<=ah m from Nat.le_refl _)];simp [val]
 rintro ⟨k,nn,q,r⟩ ⟨hk,hwd,hr,hv⟩
 simp only [] at hk hwd hr hv
 by_cases h0:k=0
 . subst h0
   have d0:decide ((0:Int)<=((0:Nat):Int)-1)=false:=by decide
   have e:m/w=val q/\m%w=r:=by
     rw [List.drop_zero,aI] at hv
     refine (Nat.div_mod_unique (Nat.pos_of_ne_zero Kb)).2 ⟨?_,hr⟩
     rw [hv,Nat.mul_comm w];omega
   have xx:=ht q hwd (by omega)
   rw [<- e.1] at xx
   have f9:IntKind.u32.wrap (r:Int)=(r:Int):=by rw [uP,Nat.mod_eq_of_lt (by omega)]
   have hq:ah m=q.length:=by omega
   simp only [SS,Nat.reduceAdd,d0,uj]
   refine cM [([4],⟨us q,1,false⟩)] xx (aW.cons (gJ hq) aW.nil) (by simp [aa.put]) ?_
   simp only [SS,Nat.reduceAdd,f9]
   rw [e.2]
   exact ag▸ab rfl (af.tup (by intro c hc;simp at hc;rcases hc with rfl | rfl;exact aJ _;exact af.int _ _))
 . obtain ⟨j,rfl⟩:∃ j,k=j+1:=⟨k-1,by omega⟩
   have d0:decide ((0:Int)<=(j:Int))=true:=ao (by omega)
   have hj:((j+1:Nat):Int)-1=(j:Int):=by omega
   have nH:j<ah m:=by omega
   have My:IntKind.i64.wrap ((j:Int)-1)=(j:Int)-1:=by rw [IntKind.wrap_i64];omega
   obtain ⟨a,ha⟩:∃ a,(digits m)[j]? = some a:=⟨_,List.getElem?_eq_getElem nH⟩
   have ui:=aO m a (List.mem_of_getElem? ha)
   have f1:=bn a ui
   have DW:r<au:=by omega
   have f2:=we r DW
   have f3:=C7 r a DW ui
   have hlt:au*r+a<18446744073709551616:=by unfold au at *;omega
   have f4:=C8 (au*r+a) w hlt Kb
   have f5:=C9 (au*r+a) w Kb
   have Ii:(au*r+a)/w<au:=by
     rw [Nat.div_lt_iff_lt_mul (Nat.pos_of_ne_zero Kb)]
     have:au*(r+1)<=au*w:=Nat.mul_le_mul_left _ hr
     rw [Nat.mul_add] at this
     omega
   have f6:IntKind.u32.wrap (((au*r+a)/w:Nat):Int)=(((au*r+a)/w:Nat):Int):=by rw [uP,Nat.mod_eq_of_lt Ii]
   have iy:=cB (q:=[4]) (t:=false) nH
   have Ta:j<(zs (j+1)++q).length:=by simp [zs];omega
   have hv':val ((digits m).drop j)=val ((au*r+a)/w::q)*w+(au*r+a)%w:=by
     rw [List.drop_eq_getElem_cons (show j<(digits m).length from nH)]
     obtain ⟨_,h2⟩:=List.getElem?_eq_some_iff.1 ha
     rw [h2]
     simp only [val]
     rw [hv,Nat.add_mul,Nat.mul_add,Nat.mul_assoc au]
     have:=Nat.div_add_mod (au*r+a) w
     rw [Nat.mul_comm] at this
     omega
   have Ib:j+((au*r+a)/w::q).length=ah m:=by simp;omega
   simp only [SS,Nat.reduceAdd,d0,hj,de ha,az,bm,f0,f1,f2,f3,f4,f6,iy]
   rw [bQ (o:=zs (j+1)++q) (by simp [aa.put]) Ta,wh]
   simp only [SS,Nat.reduceAdd,f0,f5,My]
   refine ⟨(j,_,(au*r+a)/w::q,(au*r+a)%w),⟨Ib, ?_,Nat.mod_lt _ (Nat.pos_of_ne_zero Kb),hv'⟩,Nat.lt_succ_self j,Wk.forget (by simp [Fg]) (fun j => ?_) (Nat.le_refl _)⟩
   . intro z hz
     rcases List.mem_cons.1 hz with rfl | hz
     . exact Ii
     . exact hwd z hz
   . simp only [aa.put];split<;>simp
end
end Go.VL
end

section
set_option linter.unusedVariables false
namespace Go.VL
theorem ID {x c:Nat} (hx:x<au) (h0:0<x) (h1:x<2 ^ c) (h2:2 ^ c<=2*x):c=iM x:=by
 obtain ⟨a,b⟩:=zn hx h0
 have e1:2 ^ c<2 ^ (iM x+1):=by rw [Nat.pow_succ];omega
 have e2:2 ^ iM x<2 ^ (c+1):=by rw [Nat.pow_succ];omega
 have:=(Nat.pow_lt_pow_iff_right (by decide:1<2)).1 e1
 have:=(Nat.pow_lt_pow_iff_right (by decide:1<2)).1 e2
 omega
theorem adC (a:Nat) (ha:a<au):bo .quo .int (.int .u32 (a:Int)) (.int .u32 2)=some (.int .u32 ((a/2:Nat):Int)):=by
 rw [Mg (by decide)]
 show some (AV.int .u32 (IntKind.u32.wrap ((a/2:Nat):Int)))=_
 rw [uP,Nat.mod_eq_of_lt (by unfold au at *;omega)]
theorem N5 {x y s:Nat} (hs:s<=32) (hx:x<au):((au*y+x)/2 ^ s)%au=x/2 ^ s+2 ^ (32-s)*(y%2 ^ s):=by
 have hB:=sR hs
 have hd:x/2 ^ s<2 ^ (32-s):=by rw [Nat.div_lt_iff_lt_mul (Nat.two_pow_pos _),hB];exact hx
 have e1:(au*y+x)/2 ^ s=2 ^ (32-s)*y+x/2 ^ s:=by
   rw [<- hB,Nat.mul_comm (2 ^ (32-s)),Nat.mul_assoc,Nat.mul_add_div (Nat.two_pow_pos _)]
 have hlt:y%2 ^ s<2 ^ s:=Nat.mod_lt _ (Nat.two_pow_pos _)
 have h1:2 ^ (32-s)*(y%2 ^ s+1)<=2 ^ (32-s)*2 ^ s:=Nat.mul_le_mul_left _ hlt
 rw [Nat.mul_add,hB] at h1
 have e2:2 ^ (32-s)*y=au*(y/2 ^ s)+2 ^ (32-s)*(y%2 ^ s):=by
   have:=Nat.div_add_mod y (2 ^ s)
   conv=>lhs;rw [<- this]
   rw [Nat.mul_add, <- Nat.mul_assoc,hB]
 rw [e1,e2,show au*(y/2 ^ s)+2 ^ (32-s)*(y%2 ^ s)+x/2 ^ s=(x/2 ^ s+2 ^ (32-s)*(y%2 ^ s))+au*(y/2 ^ s) from by omega,Nat.add_mul_mod_self_left,Nat.mod_eq_of_lt (by omega)]
theorem aah (x y:Nat) (hx:x<au) (hy:y<au):bo .or .int (.int .u64 (x:Int)) (.int .u64 ((au*y:Nat):Int))=some (.int .u64 ((au*y+x:Nat):Int)):=by
 rw [Xf _ _ (by unfold au at *;omega) (by unfold au at *;omega),Nat.or_comm]
 have:=Nat.two_pow_add_eq_or_of_lt (i:=32) (b:=x) (by unfold au at hx;omega) y
 rw [show au=2 ^ 32 from rfl,this]
theorem QZ (x s:Nat) (hs:s<=64):bo .shr .int (.int .u64 (x:Int)) (.int .i64 (s:Int))=some (.int .u64 ((x/2 ^ s:Nat):Int)):=by
 rw [qR (by omega)]
 have h2:min (s:Int).toNat IntKind.u64.bits=s:=by
   show min (s:Int).toNat 64=s
   rw [Int.toNat_natCast];omega
 have h3:(x:Int).fdiv (2 ^ s)=((x/2 ^ s:Nat):Int):=by
   have h4:(2:Int) ^ s=((2 ^ s:Nat):Int):=by rw [Int.natCast_pow];rfl
   rw [h4,Int.fdiv_eq_ediv_of_nonneg _ (Int.natCast_nonneg _)]
   exact (Int.natCast_ediv _ _).symm
 rw [h2,h3]
section
variable {P:Program} {G:Nat->Option (List AV)}
theorem Kw {f:FuncId} (h:Has P f gl) {n x k:Nat} (hk:ah n=k+1) (hx:(digits n)[k]? = some x) (Ib:k<=1000000):VP P G f [W n] (.int .i64 ((32*k+iM x:Nat):Int)):=by
 refine VP.has h ?_
 have XB:=aO n x (List.mem_of_getElem? hx)
 obtain ⟨NN,_,_,_,_⟩:=zp hk hx
 have d0:decide (((k+1:Nat):Int)=0)=false:=ak (by omega)
 have p1:IntKind.i64.wrap (((k+1:Nat):Int)-1)=(k:Int):=by rw [IntKind.wrap_i64];omega
 simp only [gl,SS,Nat.reduceAdd,bf,hk,d0,p1,de hx,az,bm,aD]
 refine VW.bL (α := Nat × Nat × Nat) (fun y=>⟨[W n, .top, .top, .int .i64 (y.1:Int), .int .u32 (y.2.1:Int)]++List.replicate 21 .top,fun _=>none,y.2.2⟩)
   (fun y=>y.2.1=x/2 ^ y.1/\y.1<=32/\2 ^ y.1<=2*x) (fun y=>y.2.1) (0,x,1000) ?_ ?_ ?_
 . exact Wk.slots (by simp [Fg,List.replicate]) (by simp only [];omega)
 . refine ⟨by simp,by simp,by simp;omega⟩
 rintro ⟨c,y,nn⟩ ⟨hy,hc,h2⟩
 simp only [] at hy hc h2
 have XJ:y<au:=by rw [hy];exact Nat.lt_of_le_of_lt (Nat.div_le_self _ _) XB
 by_cases h0:y=0
 . have d1:decide ((0:Int)<(y:Int))=false:=ak (by omega)
   have h1:x<2 ^ c:=by
     rw [h0] at hy
     exact Nat.lt_of_div_eq_zero (Nat.two_pow_pos c) hy.symm
   have e:=ID XB NN h1 h2
   have m1:IntKind.i64.wrap (32*(k:Int))=((32*k:Nat):Int):=by rw [IntKind.wrap_i64];omega
   have a1:=np (32*k) c (by omega)
   rw [<- e]
   simp only [SS,Nat.reduceAdd,d1,bf,hk,p1,m1,a1]
   exact ag▸ab rfl (af.int _ _)
 . have d1:decide ((0:Int)<(y:Int))=true:=ao (by omega)
   have hcw:=aq c (by omega)
   have q2:=adC y XJ
   have hlt:2 ^ c<=x:=by
     rcases Nat.lt_or_ge x (2 ^ c) with h | h
     . rw [Nat.div_eq_of_lt h] at hy;omega
     . exact h
   have H6:c+1<=32:=by
     have:2 ^ c<2 ^ 32:=by unfold au at XB;omega
     have:=(Nat.pow_lt_pow_iff_right (by decide:1<2)).1 this
     omega
   simp only [SS,Nat.reduceAdd,d1,hcw,q2]
   refine ⟨(c+1,y/2,_),⟨?_,H6, ?_⟩,Nat.div_lt_self (by omega) (by decide),Wk.slots (by simp [Fg]) (Nat.le_refl _)⟩
   . simp only [];rw [hy,Nat.div_div_eq_div_mul, <- Nat.pow_succ]
   . simp only [];rw [Nat.pow_succ];omega
theorem Dh {f:FuncId} (h:Has P f fT) (m s:Nat) (hm:ah m<=1000000) (hs:s<=31) (p:Id) :
   aB P G f [W m, .int .i64 (s:Int)] p [] { val := .osl (4::p) 1 0 (ah m+1) false,rd:=[],up:=[(4::p,some ⟨us (pad (ah m+1) (m*2 ^ s)),1,false⟩)] }:=by
 refine aB.has h ?_
 have hL:=aq (ah m) (by omega)
 have xe:∀ p:Id,kT p 1 4 (.int .u32 0) (.int .i64 ((ah m+1:Nat):Int)) (.int .i64 ((ah m+1:Nat):Int))=some { val := .osl p 1 0 (ah m+1) false,up:=[(p,some ⟨us (List.replicate (ah m+1) 0),1,false⟩)] }:=fun p=>mz (by omega)
 have hz:us (List.replicate (ah m+1) 0)=us (0::zs (ah m)):=rfl
 simp only [fT,SS,Nat.reduceAdd,bf,hL,xe,aD]
 refine VW.bL (α := Nat × Nat × List Nat × Nat) (fun x=>⟨[W m, .int .i64 (s:Int), .top, .top, .top, .osl (4::p) 1 0 (ah m+1) false, .int .i64 (x.1:Int)]++List.replicate 36 .top,
   aa.put (aa.of []) (4::p) (some ⟨us (x.2.2.1++x.2.2.2::zs (ah m-x.1)),1,false⟩),x.2.1⟩)
   (fun x=>x.1<=ah m/\x.2.2.1.length=x.1/\Wd x.2.2.1/\x.2.2.2<2 ^ s/\val x.2.2.1+au ^ x.1*x.2.2.2=val ((digits m).take x.1)*2 ^ s) (fun x=>ah m-x.1) (0,1000,[],0) ?_ ?_ ?_
 . exact Wk.slots (by simp [Fg,List.replicate]) (by simp only [];omega)
 . exact ⟨Nat.zero_le _,rfl,by intro w hw;simp at hw,Nat.two_pow_pos _,by simp [val]⟩
 rintro ⟨i,nn,o,c⟩ ⟨hi,ho,hwd,hc,hv⟩
 simp only [] at hi ho hwd hc hv
 have qy:i<ah m->decide ((i:Int)<(ah m:Int))=true:=fun h=>ao (by omega)
 have tz : ¬ i<ah m->decide ((i:Int)<(ah m:Int))=false:=fun h=>ak (by omega)
 have dr : ¬ i<ah m->i=ah m:=by omega
 have qW:=aq i (by omega)
 have lX:i<ah m->i+1<=ah m/\ah m-(i+1)<ah m-i:=fun h=>by omega
 have hcB:c<au:=by
   have h2:2 ^ s<=2 ^ 32:=Nat.pow_le_pow_right (by decide) (by omega)
   unfold au;omega
 by_cases hlt:i<ah m
 . obtain ⟨x,hx⟩:∃ x,(digits m)[i]? = some x:=⟨_,List.getElem?_eq_getElem hlt⟩
   have qz:=aO m x (List.mem_of_getElem? hx)
   have f1:=bn x qz
   have f2:=Qx x s (by omega) qz
   obtain ⟨g1,g2,g3⟩:=Ik (s:=s) (by omega) hc qz
   have f3:=Xg c (x*2 ^ s%au) hcB (Nat.mod_lt _ cV)
   rw [g1] at f3
   have g4:x*2 ^ s/au<au:=by
     have h2:2 ^ s<=2 ^ 32:=Nat.pow_le_pow_right (by decide) (by omega)
     have:(2:Nat) ^ 32=au:=rfl
     omega
   have f4:IntKind.u32.wrap ((x*2 ^ s/au:Nat):Int)=((x*2 ^ s/au:Nat):Int):=by rw [uP,Nat.mod_eq_of_lt g4]
   have iy:=cB (q:=4::p) (t:=false) (show i<ah m+1 by omega)
   have Xi:=cB (q:=4::p) (t:=false) (show i+1<ah m+1 by omega)
   obtain ⟨k,hk⟩:∃ k,ah m-i=k+1:=⟨ah m-i-1,by omega⟩
   have A4:ah m-(i+1)=k:=by omega
   have mO:i<(o++c::0::zs k).length:=by simp;omega
   have uH:i+1<(o++(c+x*2 ^ s%au)::0::zs k).length:=by simp;omega
   have hv':val (o++[c+x*2 ^ s%au])+au ^ (i+1)*(x*2 ^ s/au)=val ((digits m).take (i+1))*2 ^ s:=by
     rw [aE hx,cu,ho,Nat.add_mul, <- hv]
     simp only [val,Nat.mul_zero,Nat.add_zero,Nat.pow_succ]
     have e2:au ^ i*(x*2 ^ s%au)+au ^ i*(au*(x*2 ^ s/au))=au ^ i*(x*2 ^ s):=by rw [<- Nat.mul_add,Nat.mod_add_div]
     rw [Nat.mul_assoc,Nat.mul_assoc,Nat.mul_add]
     omega
   simp only [SS,Nat.reduceAdd,bf,qy hlt,de hx,az,bm,f1,f2,iy,hk,iL]
   rw [iK (o:=o++c::0::zs k) (b:=false) (by simp [aa.put]) (uk _ _ _ ho)]
   simp only [SS,Nat.reduceAdd,uP,f3,iy]
   rw [bQ (o:=o++c::0::zs k) (by simp [aa.put]) mO,fj _ _ _ _ ho]
   simp only [SS,Nat.reduceAdd,qW,nJ,f4,Xi]
   rw [bQ (o:=o++(c+x*2 ^ s%au)::0::zs k) (by simp [aa.put]) uH,Ij _ _ _ _ _ ho]
   simp only [SS,Nat.reduceAdd,qW]
   refine ⟨(i+1,_,o++[c+x*2 ^ s%au],x*2 ^ s/au),⟨(lX hlt).1,by simp [ho],cw hwd (by intro z hz;simp at hz;subst hz;exact g2),g3,hv'⟩,(lX hlt).2,Wk.forget (by simp [Fg]) (fun j => ?_) (Nat.le_refl _)⟩
   simp only [aa.put,A4];split<;>simp
 . have oi:=dr hlt
   have e1:(digits m).take (ah m)=digits m:=List.take_of_length_le (Nat.le_refl _)
   have xK:val (o++[c])=m*2 ^ s:=by
     rw [cu,ho];simp only [val,Nat.mul_zero,Nat.add_zero]
     rw [hv,oi,e1,aI]
   have hlen:(o++[c]).length=ah m+1:=by simp [ho,oi]
   have e:pad (ah m+1) (m*2 ^ s)=o++[c]:=by
     rw [<- xK, <- hlen]
     exact x6 (cw hwd (by intro z hz;simp at hz;subst hz;exact hcB))
   have e3:zs (ah m-i)=[]:=by rw [oi,Nat.sub_self];rfl
   simp only [SS,Nat.reduceAdd,bf,tz hlt,e,e3]
   refine aV▸aA rfl fun i => .inr ?_
   rfl
theorem Ur {f ft:FuncId} (h:Has P f (kE ft)) (ht:gU P G ft) (m s:Nat) (hm:ah m<=1000000) (hs:s<=31) :
   VP P G f [W m, .int .i64 (s:Int)] (W (m/2 ^ s)):=by
 refine VP.has h ?_
 have xe:∀ p:Id,kT p 1 4 (.int .u32 0) (.int .i64 (ah m:Int)) (.int .i64 (ah m:Int))=some { val := .osl p 1 0 (ah m) false,up:=[(p,some ⟨us (List.replicate (ah m) 0),1,false⟩)] }:=fun p=>mz (by omega)
 have hz:us (List.replicate (ah m) 0)=us ([]++zs (ah m-0)):=rfl
 have h2s:2 ^ s*2 ^ (32-s)=au:=by rw [Nat.mul_comm];exact sR (by omega)
 simp only [kE,SS,Nat.reduceAdd,bf,xe,hz,aD]
 refine VW.bL (α := Nat × Nat × List Nat) (fun x=>⟨[W m, .int .i64 (s:Int), .top, .top, .top, .osl [3] 1 0 (ah m) false, .int .i64 (x.1:Int)]++List.replicate 38 .top,
   aa.put (fun _=>none) [3] (some ⟨us (x.2.2++zs (ah m-x.1)),1,false⟩),x.2.1⟩)
   (fun x=>x.1<=ah m/\x.2.2.length=x.1/\Wd x.2.2/\2 ^ s*val x.2.2+m%2 ^ s=val ((digits m).take x.1)+au ^ x.1*(((digits m)[x.1]?).getD 0%2 ^ s)) (fun x=>ah m-x.1) (0,1000,[]) ?_ ?_ ?_
 . exact Wk.slots (by simp [Fg,List.replicate]) (by simp only [];omega)
 . refine ⟨Nat.zero_le _,rfl,by intro w hw;simp at hw, ?_⟩
   show 2 ^ s*val []+m%2 ^ s=val ((digits m).take 0)+au ^ 0*(((digits m)[0]?).getD 0%2 ^ s)
   rw [wi, <- h2s,Nat.mod_mul_right_mod]
   simp [val]
 rintro ⟨i,nn,o⟩ ⟨hi,ho,hwd,hv⟩
 simp only [] at hi ho hwd hv
 have qy:i<ah m->decide ((i:Int)<(ah m:Int))=true:=fun h=>ao (by omega)
 have tz : ¬ i<ah m->decide ((i:Int)<(ah m:Int))=false:=fun h=>ak (by omega)
 have Ig:i+1<ah m->decide (((i+1:Nat):Int)<(ah m:Int))=true:=fun h=>ao (by omega)
 have Ih : ¬ i+1<ah m->decide (((i+1:Nat):Int)<(ah m:Int))=false:=fun h=>ak (by omega)
 have dr : ¬ i<ah m->i=ah m:=by omega
 have Xk:i<ah m -> ¬ i+1<ah m->i+1=ah m:=by omega
 have qW:=aq i (by omega)
 have lX:i<ah m->i+1<=ah m/\ah m-(i+1)<ah m-i:=fun h=>by omega
 by_cases hlt:i<ah m
 . obtain ⟨x,hx⟩:∃ x,(digits m)[i]? = some x:=⟨_,List.getElem?_eq_getElem hlt⟩
   have qz:=aO m x (List.mem_of_getElem? hx)
   have f0:=bn x qz
   have iy:=cB (q:=[3]) (t:=false) hlt
   obtain ⟨k,hk⟩:∃ k,ah m-i=k+1:=⟨ah m-i-1,by omega⟩
   have A4:ah m-(i+1)=k:=by omega
   have mO:i<(o++0::zs k).length:=by simp;omega
   have hstep:∀ y w,w=x/2 ^ s+2 ^ (32-s)*(y%2 ^ s)->2 ^ s*w+x%2 ^ s=x+au*(y%2 ^ s)->((digits m)[i+1]?).getD 0=y ->
       2 ^ s*val (o++[w])+m%2 ^ s=val ((digits m).take (i+1))+au ^ (i+1)*(((digits m)[i+1]?).getD 0%2 ^ s):=by
     intro y w _ hw hy
     rw [hx,Option.getD_some] at hv
     rw [aE hx,cu,ho,hy]
     simp only [val,Nat.mul_zero,Nat.add_zero,Nat.pow_succ]
     have e1:au ^ i*(2 ^ s*w)+au ^ i*(x%2 ^ s)=au ^ i*x+au ^ i*(au*(y%2 ^ s)):=by rw [<- Nat.mul_add,hw,Nat.mul_add]
     have e2:2 ^ s*(val o+au ^ i*w)=2 ^ s*val o+au ^ i*(2 ^ s*w):=by rw [Nat.mul_add,Nat.mul_left_comm]
     rw [e2,Nat.mul_assoc]
     omega
   by_cases hn:i+1<ah m
   . obtain ⟨y,hy⟩:∃ y,(digits m)[i+1]? = some y:=⟨_,List.getElem?_eq_getElem hn⟩
     have AB:=aO m y (List.mem_of_getElem? hy)
     have f1:=bn y AB
     have f2:=we y AB
     have f3:=aah x y qz AB
     have f4:=QZ (au*y+x) s (by omega)
     obtain ⟨g1,g2,g3⟩:=zj (y:=y) (s:=s) (by omega) qz
     have f5:IntKind.u32.wrap (((au*y+x)/2 ^ s:Nat):Int)=((x/2 ^ s+2 ^ (32-s)*(y%2 ^ s):Nat):Int):=by rw [uP,N5 (by omega) qz]
     have hv':=hstep y _ rfl g3 (by rw [hy];rfl)
     simp only [SS,Nat.reduceAdd,bf,qy hlt,de hx,az,bm,f0,qW,Ig hn,de hy,f1,f2,f3,f4,f5,iy,hk,iL]
     rw [bQ (o:=o++0::zs k) (by simp [aa.put]) mO,fj _ _ _ _ ho]
     simp only [SS,Nat.reduceAdd,qW]
     refine ⟨(i+1,_,o++[x/2 ^ s+2 ^ (32-s)*(y%2 ^ s)]),⟨(lX hlt).1,by simp [ho],cw hwd (by intro z hz;simp at hz;subst hz;exact g2),hv'⟩,(lX hlt).2,Wk.forget (by simp [Fg]) (fun j => ?_) (Nat.le_refl _)⟩
     simp only [aa.put,A4];split<;>simp
   . have yB:(digits m)[i+1]? = none:=List.getElem?_eq_none (by have:=Xk hlt hn;show ah m<=i+1;omega)
     obtain ⟨g1,g2,g3⟩:=zj (y:=0) (s:=s) (by omega) qz
     have e0:x/2 ^ s+2 ^ (32-s)*(0%2 ^ s)=x/2 ^ s:=by simp
     rw [e0] at g2 g3
     have f4:=QZ x s (by omega)
     have f5:IntKind.u32.wrap ((x/2 ^ s:Nat):Int)=((x/2 ^ s:Nat):Int):=by rw [uP,Nat.mod_eq_of_lt g2]
     have hv':=hstep 0 (x/2 ^ s) e0.symm g3 (by rw [yB];rfl)
     simp only [SS,Nat.reduceAdd,bf,qy hlt,de hx,az,bm,f0,qW,Ih hn,f4,f5,iy,hk,iL]
     rw [bQ (o:=o++0::zs k) (by simp [aa.put]) mO,fj _ _ _ _ ho]
     simp only [SS,Nat.reduceAdd,qW]
     refine ⟨(i+1,_,o++[x/2 ^ s]),⟨(lX hlt).1,by simp [ho],cw hwd (by intro z hz;simp at hz;subst hz;exact g2),hv'⟩,(lX hlt).2,Wk.forget (by simp [Fg]) (fun j => ?_) (Nat.le_refl _)⟩
     simp only [aa.put,A4];split<;>simp
 . have oi:=dr hlt
   have e1:(digits m).take (ah m)=digits m:=List.take_of_length_le (Nat.le_refl _)
   have yB:(digits m)[ah m]? = none:=List.getElem?_eq_none (Nat.le_refl _)
   have xK:val o=m/2 ^ s:=by
     rw [oi,e1,aI,yB] at hv
     have h1:=Nat.div_add_mod m (2 ^ s)
     have h2:2 ^ s*val o=2 ^ s*(m/2 ^ s):=by
       simp at hv;omega
     exact Nat.eq_of_mul_eq_mul_left (Nat.two_pow_pos _) h2
   have hlen:ah m=o.length:=by rw [ho,oi]
   have xx:=ht o hwd (by omega)
   rw [xK] at xx
   have e3:zs (ah m-i)=[]:=by rw [oi,Nat.sub_self];rfl
   simp only [SS,Nat.reduceAdd,bf,tz hlt,e3]
   refine cM [([3],⟨us o,1,false⟩)] xx (aW.cons (gJ hlen) aW.nil) (by simp [aa.put]) ?_
   simp only [SS,Nat.reduceAdd]
   exact ag▸ab rfl (aJ _)
end
end Go.VL
end

section
set_option linter.unusedVariables false
namespace Go.VL
theorem trimmed (b:List Nat) (h:Wd b):∃ z,b=digits (val b)++zs z:=by
 induction hn:b.length generalizing b with
 | zero =>
   obtain rfl:b=[]:=List.length_eq_zero_iff.1 hn
   exact ⟨0,by simp [val,bq,zs]⟩
 | succ k ih =>
   obtain ⟨b',w,rfl,hl⟩:=ur hn
   by_cases hw:w=0
   . subst hw
     obtain ⟨z,hz⟩:=ih b' (fun w hw=>h w (by simp [hw])) hl
     refine ⟨z+1, ?_⟩
     rw [kt]
     conv=>lhs;rw [hz]
     rw [List.append_assoc];congr 1
     simp [zs,List.replicate_succ']
   . exact ⟨0,by rw [lz h (.inr ⟨w,by simp,hw⟩)];simp [zs]⟩
theorem N6 {id:Id} {k off len h:Nat} (h2:h<=len):bT k (.osl id k off len false) none (some (.int .i64 (h:Int))) none=some (.osl id k off h false):=by
 simp [bT,cJ,dV,h2]
theorem IE {id:Id} {a b t:List Nat} {f tt:Bool} {n:Nat} (hn:n=b.length):View (aa.of [(id,⟨us (a++b++t),1,f⟩)]) (.osl id 1 a.length n tt) (.sl 1 (us b)):=by
 subst hn
 refine View.osl (bk:=⟨us (a++b++t),1,f⟩) (by simp [aa.of]) rfl (by simp [dD]) ?_ (by rw [dD]) (wK b)
 have:((us (a++b++t)).drop a.length).take b.length=us b:=by rw [List.append_assoc,Az,Az, <- dD a,List.drop_left, <- dD b,List.take_left]
 show aW _ (flat (((us (a++b++t)).drop a.length).take b.length)) _
 rw [this]
 exact aW.pure (sQ b)
section
variable {P:Program} {G:Nat->Option (List AV)}
theorem Di {f:FuncId} (h:Has P f dt) {id:Id} {a b t:List Nat} (hw:Wd b) (hl:b.length<=9223372036854775807) (p:Id) :
   aB P G f [.osl id 1 a.length b.length false] p [(id,⟨us (a++b++t),1,false⟩)] { val := .osl id 1 a.length (ah (val b)) false,rd:=[id],up:=[] }:=by
 refine aB.has h ?_
 simp only [dt,SS,aD]
 refine VW.bL (α := Nat × Nat) (fun x=>⟨[.osl id 1 a.length x.1 false]++List.replicate 20 .top,aa.of [(id,⟨us (a++b++t),1,false⟩)],x.2⟩) (fun x=>x.1<=b.length/\val (b.take x.1)=val b) (fun x=>x.1) (b.length,1) ?_ ⟨Nat.le_refl _,by rw [List.take_length]⟩ ?_
 . exact Wk.slots (by simp [Fg,List.replicate]) (Nat.le_refl _)
 rintro ⟨k,n⟩ ⟨hk,hv⟩
 simp only [] at hk hv
 by_cases h0:k=0
 . subst h0
   have d0:decide ((0:Int)<((0:Nat):Int))=false:=by decide
   have e:ah (val b)=0:=by rw [<- hv];simp [val,ah,bq]
   simp only [SS,Nat.reduceAdd,d0,e]
   exact aV▸aA rfl fun i => .inr rfl
 . have ot:0<k:=Nat.pos_of_ne_zero h0
   have d0:decide ((0:Int)<(k:Int))=true:=ao (by omega)
   have uJ:=rZ k ot (by omega)
   obtain ⟨w,ZP⟩:∃ w,b[k-1]? = some w:=⟨b[k-1],by rw [List.getElem?_eq_getElem]⟩
   have JQ:b.take k=b.take (k-1)++[w]:=by
     have:=List.take_add_one (l:=b) (i:=k-1)
     rw [ZP,show k-1+1=k from by omega] at this
     simpa using this
   have iy:=nT (q:=id) (off:=a.length) (t:=false) (show k-1<k by omega)
   have Us:=iK (σ := aa.of [(id,⟨us (a++b++t),1,false⟩)]) (q:=id) (b:=false) (by simp [aa.of]) (uq (t:=t) (rfl:a.length=a.length) ZP)
   have IB:=N6 (id:=id) (k:=1) (off:=a.length) (len:=k) (h:=k-1) (Nat.sub_le _ _)
   by_cases hz:w=0
   . have d1:decide ((w:Int)=0)=true:=ao (by omega)
     simp only [SS,Nat.reduceAdd,d0,uJ,iy,Us,d1,IB]
     refine ⟨(k-1,_),⟨by simp only [];omega, ?_⟩,by simp only [];omega,Wk.slots (by simp [Fg]) (Nat.le_refl _)⟩
     simp only []
     rw [<- hv,JQ,hz,kt]
   . have d1:decide ((w:Int)=0)=false:=ak (by omega)
     have e:ah (val b)=k:=by
       have e1:digits (val b)=b.take k:=by
         rw [<- hv]
         exact lz (qU hw k) (.inr ⟨w,by rw [JQ];simp,hz⟩)
       rw [ah,e1,List.length_take];omega
     simp only [SS,Nat.reduceAdd,d0,uJ,iy,Us,d1,e]
     exact aV▸aA rfl fun i => .inr rfl
set_option maxHeartbeats 1000000 in
theorem N7 {f ft:FuncId} (h:Has P f (dS ft)) (ht:gU P G ft) {id:Id} {a t:List Nat} (m n:Nat) (yf:n<=m) (hm:ah m<=1000000) (p:Id) (hid:∀ x,id≠x::p) :
   aB P G f [.osl id 1 a.length (ah m) false,W n] p [(id,⟨us (a++digits m++t),1,false⟩)] { val:=W (m-n),rd:=[id],up:=[] }:=by
 refine aB.has h ?_
 have hwn:=cP yf
 have Q0:=hid 3
 have xe:∀ p:Id,kT p 1 4 (.int .u32 0) (.int .i64 (ah m:Int)) (.int .i64 (ah m:Int))=some { val := .osl p 1 0 (ah m) false,up:=[(p,some ⟨us (List.replicate (ah m) 0),1,false⟩)] }:=fun p=>mz (by omega)
 simp only [dS,SS,Nat.reduceAdd,xe,aD]
 refine VW.bL (α := Nat × Nat × List Nat × Nat) (fun x=>⟨[.osl id 1 a.length (ah m) false,W n, .top, .top, .top, .osl (3::p) 1 0 (ah m) false, .int .u64 (x.2.2.2:Int), .int .i64 (x.1:Int)]++List.replicate 40 .top,
   aa.put (aa.of [(id,⟨us (a++digits m++t),1,false⟩)]) (3::p) (some ⟨us (x.2.2.1++zs (ah m-x.1)),1,false⟩),x.2.1⟩)
   (fun x=>x.1<=ah m/\x.2.2.1.length=x.1/\Wd x.2.2.1/\x.2.2.2<=1/\val x.2.2.1+val ((digits n).take x.1)=val ((digits m).take x.1)+au ^ x.1*x.2.2.2) (fun x=>ah m-x.1) (0,1000,[],0) ?_ ?_ ?_
 . exact Wk.slots (by simp [Fg,List.replicate]) (by simp only [];omega)
 . exact ⟨Nat.zero_le _,rfl,by intro w hw;simp at hw,Nat.zero_le _,by simp [val]⟩
 rintro ⟨i,nn,o,c⟩ ⟨hi,ho,hwd,hc,hv⟩
 simp only [] at hi ho hwd hc hv
 have qy:i<ah m->decide ((i:Int)<(ah m:Int))=true:=fun h=>ao (by omega)
 have tz : ¬ i<ah m->decide ((i:Int)<(ah m:Int))=false:=fun h=>ak (by omega)
 have Ig:i<ah n->decide ((i:Int)<(ah n:Int))=true:=fun h=>ao (by omega)
 have Ih : ¬ i<ah n->decide ((i:Int)<(ah n:Int))=false:=fun h=>ak (by omega)
 have dr : ¬ i<ah m->i=ah m:=by omega
 have qW:=aq i (by omega)
 have lX:i<ah m->i+1<=ah m/\ah m-(i+1)<ah m-i:=fun h=>by omega
 by_cases hlt:i<ah m
 . obtain ⟨x,hx⟩:∃ x,(digits m)[i]? = some x:=⟨_,List.getElem?_eq_getElem hlt⟩
   have qz:=aO m x (List.mem_of_getElem? hx)
   have f1:=bn x qz
   have iy:=cB (q:=3::p) (t:=false) hlt
   have YT:=nT (q:=id) (off:=a.length) (t:=false) hlt
   obtain ⟨k,hk⟩:∃ k,ah m-i=k+1:=⟨ah m-i-1,by omega⟩
   have A4:ah m-(i+1)=k:=by omega
   have mO:i<(o++0::zs k).length:=by simp;omega
   have Us:=iK (σ := aa.put (aa.of [(id,⟨us (a++digits m++t),1,false⟩)]) (3::p) (some ⟨us (o++0::zs k),1,false⟩)) (q:=id) (b:=false) (by simp [aa.of,aa.put,Q0]) (uq (t:=t) (rfl:a.length=a.length) hx)
   by_cases hb:i<ah n
   . obtain ⟨y,hy⟩:∃ y,(digits n)[i]? = some y:=⟨_,List.getElem?_eq_getElem hb⟩
     have AB:=aO n y (List.mem_of_getElem? hy)
     have f3:=bn y AB
     obtain ⟨w,c',h1,h2,h3,d,h4,h5,h6⟩:=wP qz AB hc
     have hst:=mH (va:=val ((digits m).take i)) (vb:=val ((digits n).take i)) (x:=x) (y:=y) (c:=c) (w:=w) (c':=c') ho (by rw [hv];omega) h3
     simp only [SS,Nat.reduceAdd,bf,qy hlt,hk,iL,YT,Us,bm,f1,Ig hb,de hy,az,f3,h4,h5,iy]
     rw [bQ (o:=o++0::zs k) (by simp [aa.put]) mO,fj _ _ _ _ ho]
     simp only [SS,Nat.reduceAdd,nJ,h6,qW]
     refine ⟨(i+1,_,o++[w],c'),⟨(lX hlt).1,by simp [ho],cw hwd (by intro z hz;simp at hz;subst hz;exact h1),h2, ?_⟩,(lX hlt).2,Wk.forget (by simp [Fg]) (fun j => ?_) (Nat.le_refl _)⟩
     . show val (o++[w])+val ((digits n).take (i+1))=val ((digits m).take (i+1))+_
       rw [aE hx,aE hy];exact hst
     . simp only [aa.put,A4];split<;>simp
   . obtain ⟨w,c',h1,h2,h3,d,h4,h5,h6⟩:=wP (y:=0) qz cV hc
     have h4':IntKind.u64.wrap (IntKind.u64.wrap (IntKind.u64.wrap ((x:Int)+4294967296)-0)-(c:Int))=(d:Int):=h4
     have hst:=mH (va:=val ((digits m).take i)) (vb:=val ((digits n).take i)) (x:=x) (y:=0) (c:=c) (w:=w) (c':=c') ho (by rw [hv];omega) h3
     rw [Nat.mul_zero,Nat.add_zero] at hst
     simp only [SS,Nat.reduceAdd,bf,qy hlt,hk,iL,YT,Us,f1,Ih hb,h4',h5,iy]
     rw [bQ (o:=o++0::zs k) (by simp [aa.put]) mO,fj _ _ _ _ ho]
     simp only [SS,Nat.reduceAdd,nJ,h6,qW]
     refine ⟨(i+1,_,o++[w],c'),⟨(lX hlt).1,by simp [ho],cw hwd (by intro z hz;simp at hz;subst hz;exact h1),h2, ?_⟩,(lX hlt).2,Wk.forget (by simp [Fg]) (fun j => ?_) (Nat.le_refl _)⟩
     . show val (o++[w])+val ((digits n).take (i+1))=val ((digits m).take (i+1))+_
       rw [aE hx,ja (show (digits n).length<=i from by show ah n<=i;omega)];exact hst
     . simp only [aa.put,A4];split<;>simp
 . have oi:=dr hlt
   have e1:(digits m).take (ah m)=digits m:=List.take_of_length_le (Nat.le_refl _)
   have e2:(digits n).take (ah m)=digits n:=List.take_of_length_le (by show ah n<=ah m;omega)
   have xK:val o=m-n:=by
     rw [oi,e1,e2,aI,aI] at hv
     have rn:=ly hwd
     rw [ho,oi] at rn
     rcases Nat.eq_zero_or_pos c with h0 | h0
     . subst h0;omega
     . have:c=1:=by omega
       subst this;have:=cN m;omega
   have uU:ah m=o.length:=by omega
   have e3:zs (ah m-i)=[]:=by rw [oi,Nat.sub_self];rfl
   have xx:=ht o hwd (by omega)
   rw [xK] at xx
   simp only [SS,Nat.reduceAdd,tz hlt,e3]
   refine cM [(3::p,⟨us o,1,false⟩)] xx (aW.cons (gJ uU) aW.nil) (by simp [aa.put]) ?_
   simp only [SS,Nat.reduceAdd]
   refine aV▸aA rfl fun i => ?_
   by_cases e:i=id
   . subst e;right;simp [aa.app,rq,aa.put,aa.of,Q0]
   . left;simp [aa.app,aa.of,List.lookup,show (i==id)=false from by simpa using e]
end
end Go.VL
end

section
set_option linter.unusedVariables false
namespace Go.VL
theorem Q1 {num h V D x0 M u' l v':Nat} (h0:0<h) (hV:V=(h*au+l)*M+v') (hD:D=(num*au+x0)*M+u') (hx:x0<au) (hu:u'<M) (Ti:D/V<au):D/V<=min (num/h) (au-1):=by
 have:=Iw h0 hV hD hx hu
 omega
section
variable {P:Program} {G:Nat->Option (List AV)}
set_option maxHeartbeats 1000000 in
theorem N8 {f ft fti fc fm:FuncId} (h:Has P f (gI fti ft fc fm)) (BD:∀ (m:Nat) (ws:List Nat),Wd ws->ah m<=1000000->ws.length<=1000000->VP P G fti [W m, .sl 1 (us ws)] (W (m*val ws)))
   (MG:Has P ft dt) (hc:∀ m n,ah m<=1000000->ah n<=1000000->VP P G fc [W m,W n] (.int .i64 (gp m n))) (hmi:∀ m n,n<=m->ah m<=1000000->VP P G fm [W m,W n] (W (m-n)))
   {id:Id} {a b t:List Nat} {V k:Nat} (hV:ah V=k+2) (hb:b.length=k+3) (GM:Wd b) (V3:val b<au*V) (hk:k<=900000) (p:Id) (hid:∀ x,id≠x::p) :
   aB P G f [.osl id 1 a.length (k+3) false,W V] p [(id,⟨us (a++b++t),1,false⟩)] { val := .tup [.int .u32 ((val b/V:Nat):Int),W (V*(val b/V))],rd:=[id],up:=[] }:=by
 refine aB.has h ?_
 obtain ⟨hh,QQ⟩:∃ y,(digits V)[k+1]? = some y:=⟨_,List.getElem?_eq_getElem (by show k+1<ah V;omega)⟩
 obtain ⟨ll,llg⟩:∃ y,(digits V)[k]? = some y:=⟨_,List.getElem?_eq_getElem (by show k<ah V;omega)⟩
 have hhB:=aO V hh (List.mem_of_getElem? QQ)
 obtain ⟨XE,YQ⟩:=Z1 (aO V) hV QQ llg
 rw [aI] at XE
 obtain ⟨YS,_,_,_,_⟩:=zp (k:=k+1) hV QQ
 have Th:0<V:=by
   rcases Nat.eq_zero_or_pos V with e | e
   . rw [e] at V3;omega
   . exact e
 obtain ⟨x2,XL⟩:∃ z,b[k+2]? = some z:=⟨_,List.getElem?_eq_getElem (by omega)⟩
 obtain ⟨x1,Qr⟩:∃ z,b[k+1]? = some z:=⟨_,List.getElem?_eq_getElem (by omega)⟩
 obtain ⟨z0,Tf⟩:∃ z,b[k]? = some z:=⟨_,List.getElem?_eq_getElem (by omega)⟩
 have Ku:=GM x2 (List.mem_of_getElem? XL)
 have QS:=GM x1 (List.mem_of_getElem? Qr)
 have QT:=GM z0 (List.mem_of_getElem? Tf)
 obtain ⟨hD,YR⟩:=Z2 GM hb XL Qr Tf
 rw [show x2*au+x1=au*x2+x1 from by rw [Nat.mul_comm]] at hD
 obtain ⟨num,Df⟩:∃ z,z=au*x2+x1:=⟨_,rfl⟩
 rw [<- Df] at hD
 have MH:num<18446744073709551616:=by rw [Df];unfold au at *;omega
 have Ti:val b/V<au:=Nat.div_lt_of_lt_mul (by rw [Nat.mul_comm];exact V3)
 have Gi:=Q1 YS XE hD QT YR Ti
 have io2:=nT (q:=id) (off:=a.length) (t:=false) (show k+2<k+3 by omega)
 have io1:=nT (q:=id) (off:=a.length) (t:=false) (show k+1<k+3 by omega)
 have ld2:=iK (σ := aa.of [(id,⟨us (a++b++t),1,false⟩)]) (q:=id) (b:=false) (by simp [aa.of]) (uq (t:=t) (rfl:a.length=a.length) XL)
 have ld1:=iK (σ := aa.of [(id,⟨us (a++b++t),1,false⟩)]) (q:=id) (b:=false) (by simp [aa.of]) (uq (t:=t) (rfl:a.length=a.length) Qr)
 have w2:=bn x2 Ku
 have w1:=bn x1 QS
 have w0:=bn hh hhB
 have s2:=we x2 Ku
 have o2:=C7 x2 x1 Ku QS
 rw [<- Df] at o2
 have q1:=C8 num hh MH (by omega)
 have p1:IntKind.i64.wrap (((k+2:Nat):Int)-1)=((k+1:Nat):Int):=by rw [IntKind.wrap_i64];omega
 have hwD:ah (val b)<=1000000:=by
   have h1:=ly GM
   rw [hb] at h1
   have:=jg h1;omega
 have XO:=Di (G:=G) MG (id:=id) (a:=a) (b:=b) (t:=t) GM (by omega)
 rw [hb] at XO
 obtain ⟨z,hz⟩:=trimmed b GM
 have Lw:View (aa.of [(id,⟨us (a++b++t),1,false⟩)]) (.osl id 1 a.length (ah (val b)) false) (W (val b)):=by
   have:a++b++t=a++digits (val b)++(zs z++t):=by
     conv=>lhs;rw [hz]
     simp
   rw [this]
   exact IE rfl
 have Q0:∀ x,id≠x::p:=hid
 simp only [gI,SS,DD,Nat.reduceAdd,bf,hV,io2,io1,ld2,ld1,w2,w1,s2,o2,p1,de QQ,az,bm,w0,q1]
 refine ⟨by simp [ar], ?_⟩
 by_cases aaj:(4294967295<num/hh)
 . have d1:decide ((4294967295:Int)<((num/hh:Nat):Int))=true:=by first | exact ao (by omega) | exact ak (by omega)
   obtain ⟨q0,hq0⟩:∃ q0:Nat,q0=4294967295:=⟨_,rfl⟩
   have Ky:q0<au:=by unfold au;omega
   have XP:val b/V<=q0:=by unfold au at Gi;omega
   have f3:IntKind.u32.wrap (q0:Int)=(q0:Int):=by rw [uP,Nat.mod_eq_of_lt Ky]
   have qA:∀ (σ : aa) (q:Id),b8 σ q (.buildSl 1 1 (.int .u32 0) [(0, .int .u32 (q0:Int))])=some { val := .osl q 1 0 1 false,up:=[(q,some ⟨us [q0],1,false⟩)] }:=fun σ q=>xy
   have Kt:=BD V [q0] (by intro w hw;simp at hw;subst hw;exact Ky) (by omega) (by simp)
   rw [show val [q0]=q0 from by simp [val]] at Kt
   have f3q:IntKind.u32.wrap 4294967295=(q0:Int):=by rw [<- f3,hq0];try rfl
   simp only [SS,Nat.reduceAdd,d1,f3q,qA]
   refine cM [(32::p,⟨us [q0],1,false⟩)] Kt (aW.cons (View.pure (aJ _)) (aW.cons (gJ rfl) aW.nil)) (by simp [aa.put]) ?_
   simp only [SS,Nat.reduceAdd,aD]
   refine VW.bL (α := Nat × Nat) (fun x=>⟨[.osl id 1 a.length (k+3) false,W V, .top, .top, .top, .top, .top, .int .u64 (x.1:Int),W (V*x.1)]++List.replicate 42 .top,aa.of [(id,⟨us (a++b++t),1,false⟩)],x.2⟩)
     (fun x=>val b/V<=x.1/\x.1<au) (fun x=>x.1) (q0,1000) ?_ ?_ ?_
   . refine Wk.forget (by simp [Fg,List.replicate,hq0]) (fun j => ?_) (by simp only [];omega)
     by_cases e:j=id
     . subst e;right;simp [aa.app,rq,aa.put,aa.of,Q0]
     . left;simp [aa.of,List.lookup,show (j==id)=false from by simpa using e]
   . exact ⟨XP,Ky⟩
   rintro ⟨q,nn⟩ ⟨Z4,NA⟩
   simp only [] at Z4 NA
   have hwq:ah (V*q)<=1000000:=by
     have h1:=qh V q
     have h2:ah q<=1:=jg (by simpa using NA)
     omega
   have hcv:=hc (val b) (V*q) hwD hwq
   simp only [SS,Nat.reduceAdd]
   refine ⟨[(id,⟨us (a++b++t),1,false⟩)],_,XO _,by simp [aa.of],by simp, ?_⟩
   simp only [SS,Nat.reduceAdd]
   refine iF [(id,⟨us (a++b++t),1,false⟩)] hcv (aW.cons Lw (aW.cons (View.pure (aJ _)) aW.nil)) (fun _ _ _ _ _ h=>by simpa [aL] using h) (by simp [aa.of]) ?_
   by_cases hlt:val b<V*q
   . have d2:decide (gp (val b) (V*q)<0)=true:=ao (by simp only [gp,iZ];rw [if_pos (by omega)];decide)
     have hqp:1<=q:=by
       rcases Nat.eq_zero_or_pos q with e | e
       . rw [e] at hlt;omega
       . exact e
     have hle:val b/V<=q-1:=by
       have:=(Nat.div_lt_iff_lt_mul Th).2 (by rw [Nat.mul_comm] at hlt;exact hlt)
       omega
     have pq:IntKind.u64.wrap ((q:Int)-1)=((q-1:Nat):Int):=by rw [IntKind.wrap_u64];unfold au at NA;omega
     have MB:=hmi (V*q) V (Nat.le_mul_of_pos_right _ hqp) hwq
     have em:V*q-V=V*(q-1):=by rw [Nat.mul_sub,Nat.mul_one]
     rw [em] at MB
     simp only [SS,Nat.reduceAdd,d2,pq]
     refine aj MB (by simp [aJ]) ?_
     simp only [SS,Nat.reduceAdd]
     exact ⟨(q-1,_),⟨hle,by simp only [];omega⟩,by simp only [];omega,Wk.slots (by simp [Fg]) (Nat.le_refl _)⟩
   . have d2:decide (gp (val b) (V*q)<0)=false:=ak (by simp only [gp,iZ];rw [if_neg (by omega)];split<;>decide)
     have Um:q=val b/V:=by
       have:=(Nat.le_div_iff_mul_le Th).2 (show q*V<=val b by rw [Nat.mul_comm];omega)
       omega
     have f4:IntKind.u32.wrap (q:Int)=(q:Int):=by rw [uP,Nat.mod_eq_of_lt NA]
     simp only [SS,Nat.reduceAdd,d2,f4]
     rw [<- Um]
     exact aV▸aA rfl fun i => .inr rfl
 by_cases XQ:(¬ 4294967295<num/hh)
 . have d1:decide ((4294967295:Int)<((num/hh:Nat):Int))=false:=by first | exact ao (by omega) | exact ak (by omega)
   obtain ⟨q0,hq0⟩:∃ q0:Nat,q0=(num/hh):=⟨_,rfl⟩
   have Ky:q0<au:=by unfold au;omega
   have XP:val b/V<=q0:=by unfold au at Gi;omega
   have f3:IntKind.u32.wrap (q0:Int)=(q0:Int):=by rw [uP,Nat.mod_eq_of_lt Ky]
   have qA:∀ (σ : aa) (q:Id),b8 σ q (.buildSl 1 1 (.int .u32 0) [(0, .int .u32 (q0:Int))])=some { val := .osl q 1 0 1 false,up:=[(q,some ⟨us [q0],1,false⟩)] }:=fun σ q=>xy
   have Kt:=BD V [q0] (by intro w hw;simp at hw;subst hw;exact Ky) (by omega) (by simp)
   rw [show val [q0]=q0 from by simp [val]] at Kt
   have f3q:IntKind.u32.wrap ((num/hh:Nat):Int)=(q0:Int):=by rw [<- f3,hq0];try rfl
   simp only [SS,Nat.reduceAdd,d1,f3q,qA]
   refine cM [(31::p,⟨us [q0],1,false⟩)] Kt (aW.cons (View.pure (aJ _)) (aW.cons (gJ rfl) aW.nil)) (by simp [aa.put]) ?_
   simp only [SS,Nat.reduceAdd,aD]
   refine VW.bL (α := Nat × Nat) (fun x=>⟨[.osl id 1 a.length (k+3) false,W V, .top, .top, .top, .top, .top, .int .u64 (x.1:Int),W (V*x.1)]++List.replicate 42 .top,aa.of [(id,⟨us (a++b++t),1,false⟩)],x.2⟩)
     (fun x=>val b/V<=x.1/\x.1<au) (fun x=>x.1) (q0,1000) ?_ ?_ ?_
   . refine Wk.forget (by simp [Fg,List.replicate,hq0]) (fun j => ?_) (by simp only [];omega)
     by_cases e:j=id
     . subst e;right;simp [aa.app,rq,aa.put,aa.of,Q0]
     . left;simp [aa.of,List.lookup,show (j==id)=false from by simpa using e]
   . exact ⟨XP,Ky⟩
   rintro ⟨q,nn⟩ ⟨Z4,NA⟩
   simp only [] at Z4 NA
   have hwq:ah (V*q)<=1000000:=by
     have h1:=qh V q
     have h2:ah q<=1:=jg (by simpa using NA)
     omega
   have hcv:=hc (val b) (V*q) hwD hwq
   simp only [SS,Nat.reduceAdd]
   refine ⟨[(id,⟨us (a++b++t),1,false⟩)],_,XO _,by simp [aa.of],by simp, ?_⟩
   simp only [SS,Nat.reduceAdd]
   refine iF [(id,⟨us (a++b++t),1,false⟩)] hcv (aW.cons Lw (aW.cons (View.pure (aJ _)) aW.nil)) (fun _ _ _ _ _ h=>by simpa [aL] using h) (by simp [aa.of]) ?_
   by_cases hlt:val b<V*q
   . have d2:decide (gp (val b) (V*q)<0)=true:=ao (by simp only [gp,iZ];rw [if_pos (by omega)];decide)
     have hqp:1<=q:=by
       rcases Nat.eq_zero_or_pos q with e | e
       . rw [e] at hlt;omega
       . exact e
     have hle:val b/V<=q-1:=by
       have:=(Nat.div_lt_iff_lt_mul Th).2 (by rw [Nat.mul_comm] at hlt;exact hlt)
       omega
     have pq:IntKind.u64.wrap ((q:Int)-1)=((q-1:Nat):Int):=by rw [IntKind.wrap_u64];unfold au at NA;omega
     have MB:=hmi (V*q) V (Nat.le_mul_of_pos_right _ hqp) hwq
     have em:V*q-V=V*(q-1):=by rw [Nat.mul_sub,Nat.mul_one]
     rw [em] at MB
     simp only [SS,Nat.reduceAdd,d2,pq]
     refine aj MB (by simp [aJ]) ?_
     simp only [SS,Nat.reduceAdd]
     exact ⟨(q-1,_),⟨hle,by simp only [];omega⟩,by simp only [];omega,Wk.slots (by simp [Fg]) (Nat.le_refl _)⟩
   . have d2:decide (gp (val b) (V*q)<0)=false:=ak (by simp only [gp,iZ];rw [if_neg (by omega)];split<;>decide)
     have Um:q=val b/V:=by
       have:=(Nat.le_div_iff_mul_le Th).2 (show q*V<=val b by rw [Nat.mul_comm];omega)
       omega
     have f4:IntKind.u32.wrap (q:Int)=(q:Int):=by rw [uP,Nat.mod_eq_of_lt NA]
     simp only [SS,Nat.reduceAdd,d2,f4]
     rw [<- Um]
     exact aV▸aA rfl fun i => .inr rfl
 exact absurd aaj XQ
end
end Go.VL
end
