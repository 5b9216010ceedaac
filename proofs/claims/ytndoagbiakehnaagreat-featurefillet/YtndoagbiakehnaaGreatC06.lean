/- For the claim of FeatureFillet: parts CI21, CI22, CI23, KD, KE, VL31, CI24, CR1, CR2, CR3, CR4, CR5, CR6, CR7. -/
import Derived.Test.YtndoagbiakehnaaGreatC05
import Derived.Test.YtndoagbiakehnaaGreatC04
set_option linter.unusedSimpArgs false
set_option linter.unusedVariables false
section
set_option linter.unusedVariables false
namespace Go.VL
def IR (neg:Bool) (ws:List Nat):AV := .agg [.bool neg, .sl 1 (us ws)]
theorem XN (neg:Bool) (ws:List Nat):((IR neg ws).cells.all AV.one=true)=True:=by simp [IR,AV.cells,AV.one]
theorem ab7 (neg:Bool) (ws:List Nat):part false (IR neg ws).cells 0 1=some (.bool neg):=rfl
theorem Vs (neg:Bool) (ws:List Nat):part false (IR neg ws).cells 1 1=some (.sl 1 (us ws)):=rfl
def eo (neg:Bool) (ws:List Nat):Bool:=if ws=[] then !neg else decide (ws[ws.length-1]?.getD 0≠0)
theorem Ki {neg:Bool} {ws:List Nat} (hw:Wd ws) (h:eo neg ws=true):IR neg ws=IV (sgn neg (val ws)):=by
 unfold eo at h
 by_cases h0:ws=[]
 . subst h0
   rw [if_pos rfl] at h
   have:neg=false:=by simpa using h
   subst this
   simp [IR,IV,sgn,val,W,a9,us]
 . rw [if_neg h0] at h
   have hl:0<ws.length:=List.length_pos_iff.2 h0
   obtain ⟨w,Tj⟩:∃ w,ws[ws.length-1]? = some w:=⟨_,List.getElem?_eq_getElem (by omega)⟩
   rw [Tj] at h
   have hwz:w≠0:=by simpa using h
   have hd:digits (val ws)=ws:=gp hw (.inr ⟨w,by rw [List.getLast?_eq_getElem?];exact Tj,hwz⟩)
   have hne:val ws≠0:=fun e=>h0 (by rw [<- hd,e,a9])
   have e1:decide (sgn neg (val ws)<0)=neg:=by cases neg<;>simp [sgn]<;>omega
   have e2:(sgn neg (val ws)).natAbs=val ws:=by cases neg<;>simp [sgn]
   unfold IV IR W
   rw [e1,e2,hd]
section
variable {P:Program} {G:Nat->Option (List AV)}
theorem Mc {f:FuncId} (h:Has P f lF) (neg:Bool) (ws:List Nat) (hl:ws.length<=9223372036854775807):VP P G f [IR neg ws] (.bool (eo neg ws)):=by
 refine VP.has h ?_
 have hlen:jY false (.sl 1 (us ws))=some (.int .i64 ws.length):=by simp [jY,dD]
 simp only [lF,SS,Nat.reduceAdd,XN,aY,Vs,hlen]
 by_cases h0:ws=[]
 . have d0:decide ((ws.length:Int)=0)=true:=ai (by rw [h0];rfl)
   have d1:decide ((0:Int)<(ws.length:Int))=false:=ag (by rw [h0];simp)
   have e:eo neg ws = !neg:=by unfold eo;rw [if_pos h0]
   rw [e]
   cases neg <;>
   . simp only [SS,Nat.reduceAdd,d0,d1,aY,ab7]
     exact ao▸aj rfl (af.bool _)
 . have lq:0<ws.length:=List.length_pos_iff.2 h0
   have d0:decide ((ws.length:Int)=0)=false:=ag (by omega)
   have d1:decide ((0:Int)<(ws.length:Int))=true:=ai (by omega)
   obtain ⟨w,hw⟩:∃ w,ws[ws.length-1]? = some w:=⟨_,List.getElem?_eq_getElem (by omega)⟩
   have hp:=nP ws.length lq hl
   have e:eo neg ws=decide ((w:Int)≠0):=by unfold eo;rw [if_neg h0,hw];simp
   rw [e]
   simp only [SS,Nat.reduceAdd,d0,d1,aY,Vs,hp,eO rfl (mw hw),aS,bg]
   exact ao▸aj rfl (af.bool _)
end
end Go.VL
end

section
set_option linter.unusedVariables false
namespace Go.VL
def RR (n1:Bool) (w1:List Nat) (n2:Bool) (w2:List Nat):AV := .agg [.bool n1, .sl 1 (us w1), .bool n2, .sl 1 (us w2)]
theorem Kj (neg:Bool) (ws:List Nat):af (IR neg ws):=af.agg (by intro c hc;simp at hc;rcases hc with rfl | rfl;exact af.bool _;exact yd _)
theorem XO (n1:Bool) (w1:List Nat) (n2:Bool) (w2:List Nat):((RR n1 w1 n2 w2).cells.all AV.one=true)=True:=by simp [RR,AV.cells,AV.one]
theorem Vt (n1:Bool) (w1:List Nat) (n2:Bool) (w2:List Nat):part true (RR n1 w1 n2 w2).cells 0 2=some (IR n1 w1):=rfl
theorem Pm (n1:Bool) (w1:List Nat) (n2:Bool) (w2:List Nat):part true (RR n1 w1 n2 w2).cells 2 2=some (IR n2 w2):=rfl
section
variable {P:Program} {G:Nat->Option (List AV)}
theorem Md {f fv fs fg fo:FuncId} (h:Has P f (gK fv fs fg fo)) (n1:Bool) (w1:List Nat) (n2:Bool) (w2:List Nat) (p5:Wd w1) (Tj:Wd w2) (g:Int)
   (kL:VP P G fv [IR n1 w1] (.bool (eo n1 w1))) (qe:VP P G fv [IR n2 w2] (.bool (eo n2 w2))) (hs:VP P G fs [IV (sgn n2 (val w2))] (.int .i64 (sgn n2 (val w2)).sign))
   (hg:0<sgn n2 (val w2)->VP P G fg [IV (sgn n1 (val w1)),IV (sgn n2 (val w2))] (IV g)) (ho:VP P G fo [IV g] (.bool (decide (g=1)))) :
   VP P G f [RR n1 w1 n2 w2] (.bool (eo n1 w1&&eo n2 w2&&decide (0<sgn n2 (val w2))&&decide (g=1))):=by
 refine VP.has h ?_
 simp only [gK,SS,Nat.reduceAdd,XO,aY,Vt]
 refine aq kL (by simp [Kj]) ?_
 by_cases c1:eo n1 w1=true
 . have e1:=Ki p5 c1
   simp only [SS,Nat.reduceAdd,c1,aY,Pm,Bool.true_and]
   refine aq qe (by simp [Kj]) ?_
   by_cases c2:eo n2 w2=true
   . have e2:=Ki Tj c2
     simp only [SS,Nat.reduceAdd,c2,aY,Pm,Bool.true_and,e2]
     refine aq hs (by simp [bU]) ?_
     by_cases c3:0<sgn n2 (val w2)
     . have d3:decide (0<(sgn n2 (val w2)).sign)=true:=ai (by rw [Int.sign_eq_one_of_pos c3];decide)
       have d4:decide (0<sgn n2 (val w2))=true:=ai c3
       simp only [SS,Nat.reduceAdd,d3,d4,aY,Vt,Pm,Bool.true_and,e1,e2]
       refine aq (hg c3) (by simp [bU]) ?_
       simp only [SS,Nat.reduceAdd]
       refine aq ho (by simp [bU]) ?_
       simp only [SS,Nat.reduceAdd]
       exact ao▸aj rfl (af.bool _)
     . have d3:decide (0<(sgn n2 (val w2)).sign)=false:=ag (by rcases kW (sgn n2 (val w2)) with ⟨e,p⟩ | ⟨e,p⟩ | ⟨e,p⟩<;>omega)
       have d4:decide (0<sgn n2 (val w2))=false:=ag c3
       simp only [SS,Nat.reduceAdd,d3,d4,Bool.false_and]
       exact ao▸aj rfl (af.bool _)
   . have c2':eo n2 w2=false:=by simpa using c2
     simp only [SS,Nat.reduceAdd,c2',Bool.false_and]
     exact ao▸aj rfl (af.bool _)
 . have c1':eo n1 w1=false:=by simpa using c1
   simp only [SS,Nat.reduceAdd,c1',Bool.false_and]
   exact ao▸aj rfl (af.bool _)
end
end Go.VL
end

section
set_option linter.unusedVariables false
namespace Go.VL
theorem nc {n:Nat} (h:aa n<=2):n<18446744073709551616:=by
 have h1:=b7 n
 have h2:ak ^ aa n<=ak ^ 2:=Nat.pow_le_pow_right bx h
 have h3:ak ^ 2=18446744073709551616:=by decide
 omega
theorem qZ {x y g:Nat} (hg:Nat.gcd x y=g):Nat.gcd y (x%y)=g:=by rw [<- hg,Nat.gcd_comm y, <- Nat.gcd_rec,Nat.gcd_comm]
theorem wG (n:Nat):sgn false n=(n:Int):=by simp [sgn]
section
variable {P:Program} {G:Nat->Option (List AV)}
theorem XP {f ft fd fc fs ftu fu:FuncId} (h:Has P f (nF ft fd fc fs ftu fu)) (ht:fY P G ft) (hd:∀ m n,n≠0->aa m<=900000->aa n<=900000->VP P G fd [W m,W n] (.tup [W (m/n),W (m%n)]))
   (hc:∀ n,aa n<=1000000->VP P G fc [W n] (W n)) (hs:fL P G fs) (Vu:∀ n,n<18446744073709551616->VP P G ftu [W n] (.int .u64 ((n:Nat):Int))) (hu:∀ n,n<18446744073709551616->VP P G fu [.int .u64 ((n:Nat):Int)] (W n))
   (a b:Int) (ha:aa a.natAbs<=900000) (hb:aa b.natAbs<=900000):VP P G f [IV a,IV b] (IV (Nat.gcd a.natAbs b.natAbs:Nat)):=by
 refine VP.has h ?_
 have Df:([0]:List Nat)≠[1]:=by decide
 have Nx:([0]:List Nat)≠[2]:=by decide
 have FP:([1]:List Nat)≠[2]:=by decide
 simp only [nF,SS,DD,Nat.reduceAdd,HQ,rF,bj Df,bj Nx,aY,xu]
 refine aL (kp ht a.natAbs (by omega)) (by simp [aM]) ?_
 simp only [SS,DD,Nat.reduceAdd,bj FP,aY,xu]
 refine aL (kp ht b.natAbs (by omega)) (by simp [aM]) ?_
 simp only [SS,DD,Nat.reduceAdd]
 refine ⟨by simp [aB,apart], ?_⟩
 simp only [bf]
 refine VW.dV (α := Nat × Nat × Nat) (fun x=>⟨[IV a,IV b, .top, .top, .ref [2] 0 0,W x.1,W x.2.1]++List.replicate 50 .top,
   ae.put (fun _=>none) [2] (some ⟨[.agg [.bool false, .nils]],(AV.agg [.bool false, .nils]).size,false⟩),x.2.2⟩)
   (fun x=>Nat.gcd x.1 x.2.1=Nat.gcd a.natAbs b.natAbs/\aa x.1<=900000/\aa x.2.1<=900000) (fun x=>x.2.1) (a.natAbs,b.natAbs,1000) ?_ ?_ ?_
 . exact Wk.forget (by simp [Fg,List.replicate]) (fun j=>by simp only [ae.put];split<;>simp_all) (by simp only [];omega)
 . exact ⟨rfl,ha,hb⟩
 rintro ⟨x,y,nn⟩ ⟨hg,hx,hy⟩
 simp only [] at hg hx hy
 have g1:2<aa y->decide ((2:Int)<(aa y:Int))=true:=fun h=>ai (by omega)
 have g2 : ¬ 2<aa y->decide ((2:Int)<(aa y:Int))=false:=fun h=>ag (by omega)
 have g3:2<aa x->decide ((2:Int)<(aa x:Int))=true:=fun h=>ai (by omega)
 have g4 : ¬ 2<aa x->decide ((2:Int)<(aa x:Int))=false:=fun h=>ag (by omega)
 have g5:0<aa y->decide ((0:Int)<(aa y:Int))=true:=fun h=>ai (by omega)
 have g6 : ¬ 0<aa y->decide ((0:Int)<(aa y:Int))=false:=fun h=>ag (by omega)
 have e1:0<aa y->decide ((aa y:Int)=0)=false:=fun h=>ag (by omega)
 have e2 : ¬ 0<aa y->decide ((aa y:Int)=0)=true:=fun h=>ai (by omega)
 have Me:0<aa y->y≠0:=fun h e=>by have:=bE.2 e;omega
 have I9 : ¬ 0<aa y->y=0:=fun h=>bE.1 (by omega)
 have hp2:2<aa y->0<aa y:=fun h=>by omega
 have w1:=zE x y
 have Tj:aa (x%y)<=900000:=by omega
 have Xc:aa x<=1000000:=by omega
 have XQ:aa x<=9223372036854775807:=by omega
 have hxx : ¬ 2<aa x->x<18446744073709551616:=fun h=>nc (by omega)
 have hyy : ¬ 2<aa y->y<18446744073709551616:=fun h=>nc (by omega)
 have Kh:∀ g,g<18446744073709551616->aa g<=9223372036854775807:=fun g h=>by have:=kU g h;omega
 clear w1
 simp only [SS,Nat.reduceAdd]
 by_cases c1:2<aa y
 . have lq:=hp2 c1
   have Kk:=hd x y (Me lq) hx hy
   simp only [SS,Nat.reduceAdd,aQ,g1 c1]
   refine aq Kk (by simp [aM]) ?_
   simp only [SS,Nat.reduceAdd,wD,wE]
   exact ⟨(y,x%y,_),⟨qZ hg,hy,Tj⟩,Nat.mod_lt _ (Nat.pos_of_ne_zero (Me lq)),Wk.slots (by simp [Fg]) (Nat.le_refl _)⟩
 by_cases c3:0<aa y
 . by_cases c2:2<aa x
   . have Kk:=hd x y (Me c3) hx hy
     simp only [SS,Nat.reduceAdd,aQ,g2 c1,g3 c2,g5 c3]
     refine aq Kk (by simp [aM]) ?_
     simp only [SS,Nat.reduceAdd,wD,wE]
     exact ⟨(y,x%y,_),⟨qZ hg,hy,Tj⟩,Nat.mod_lt _ (Nat.pos_of_ne_zero (Me c3)),Wk.slots (by simp [Fg]) (Nat.le_refl _)⟩
   . simp only [SS,Nat.reduceAdd,aQ,g2 c1,g4 c2,e1 c3]
     refine aq (Vu x (hxx c2)) (by simp [aM]) ?_
     simp only [SS,Nat.reduceAdd]
     refine aq (Vu y (hyy c1)) (by simp [aM]) ?_
     simp only [SS,Nat.reduceAdd,bf]
     refine VW.dV (α := Nat × Nat × Nat) (fun x=>⟨[IV a,IV b, .top, .top, .ref [2] 0 0, .top, .top, .top, .top, .int .u64 ((x.1:Nat):Int), .int .u64 ((x.2.1:Nat):Int)]++List.replicate 46 .top,
       ae.put (fun _=>none) [2] (some ⟨[.agg [.bool false, .nils]],(AV.agg [.bool false, .nils]).size,false⟩),x.2.2⟩)
       (fun x=>Nat.gcd x.1 x.2.1=Nat.gcd a.natAbs b.natAbs/\x.1<18446744073709551616/\x.2.1<18446744073709551616) (fun x=>x.2.1) (x,y,nn+1000) ?_ ?_ ?_
     . exact Wk.slots (by simp [Fg,List.replicate]) (by simp only [];omega)
     . exact ⟨hg,hxx c2,hyy c1⟩
     rintro ⟨u,v,mm⟩ ⟨Hz,Bl,hv'⟩
     simp only [] at Hz Bl hv'
     by_cases v0:v=0
     . subst v0
       have d0:decide (((0:Nat):Int)≠0)=false:=by decide
       rw [Nat.gcd_zero_right] at Hz
       have dP:=hs false u (Kh u Bl)
       rw [wG] at dP
       simp only [SS,Nat.reduceAdd,d0]
       refine aq (hu u Bl) (by simp [af.int]) ?_
       simp only [SS,Nat.reduceAdd]
       refine aq dP (by simp [af.bool,aM]) ?_
       simp only [SS,Nat.reduceAdd,qY]
       rw [<- Hz]
       refine ao▸aj (r:=IV (u:Int)) ?_ (bU _)
       simp only [RS,dU,fU,aY];rfl
     . have d0:decide ((v:Int)≠0)=true:=ai (by omega)
       have f1:=BZ u v v0
       have hlt:u%v<18446744073709551616:=Nat.lt_of_le_of_lt (Nat.mod_le _ _) Bl
       simp only [SS,DD,Nat.reduceAdd,d0,f1]
       first
       | exact ⟨(v,u%v,_),⟨qZ Hz,hv',hlt⟩,Nat.mod_lt _ (Nat.pos_of_ne_zero v0),Wk.slots (by simp [Fg,List.replicate]) (Nat.le_refl _)⟩
       | exact ⟨by simp [aB,apart],(v,u%v,_),⟨qZ Hz,hv',hlt⟩,Nat.mod_lt _ (Nat.pos_of_ne_zero v0),Wk.slots (by simp [Fg]) (Nat.le_refl _)⟩
 . have hyz:=I9 c3
   rw [hyz,Nat.gcd_zero_right] at hg
   have dP:=hs false x XQ
   rw [wG] at dP
   by_cases c2:2<aa x
   . simp only [SS,Nat.reduceAdd,aQ,g2 c1,g3 c2,g6 c3,e2 c3]
     refine aq (hc x Xc) (by simp [aM]) ?_
     simp only [SS,Nat.reduceAdd]
     refine aq dP (by simp [af.bool,aM]) ?_
     simp only [SS,Nat.reduceAdd,qY]
     rw [<- hg]
     refine ao▸aj (r:=IV (x:Int)) ?_ (bU _)
     simp only [RS,dU,fU,aY];rfl
   . simp only [SS,Nat.reduceAdd,aQ,g2 c1,g4 c2,e2 c3]
     refine aq (hc x Xc) (by simp [aM]) ?_
     simp only [SS,Nat.reduceAdd]
     refine aq dP (by simp [af.bool,aM]) ?_
     simp only [SS,Nat.reduceAdd,qY]
     rw [<- hg]
     refine ao▸aj (r:=IV (x:Int)) ?_ (bU _)
     simp only [RS,dU,fU,aY];rfl
end
end Go.VL
end

section
namespace Go.VL
section
variable {b M h l v' V num u2 u' U:Nat}
theorem ab9 (hV:V=(h*b+l)*M+v'):V=h*(b*M)+l*M+v':=by rw [hV,Nat.add_mul,Nat.mul_assoc]
theorem ahM (hU:U=(num*b+u2)*M+u'):U=num*(b*M)+u2*M+u':=by rw [hU,Nat.add_mul,Nat.mul_assoc]
theorem aca (h2:u2<b) (h1:u'<M):u2*M+u'<b*M:=by
 have:(u2+1)*M<=b*M:=Nat.mul_le_mul_right _ h2
 rw [Nat.add_mul] at this;omega
theorem FQ (h0:0<h) (hV:V=(h*b+l)*M+v') (hU:U=(num*b+u2)*M+u') (h2:u2<b) (h1:u'<M):U/V<=num/h:=by
 have hbM:=aca h2 h1
 have eV:=ab9 hV
 have eU:=ahM hU
 have Ny:0<V:=by
   have:1*(b*M)<=h*(b*M):=Nat.mul_le_mul_right _ h0
   omega
 refine Nat.le_of_lt_succ ((Nat.div_lt_iff_lt_mul Ny).2 ?_)
 have hq:num+1<=(num/h+1)*h:=by rw [Nat.mul_comm];exact Nat.lt_mul_div_succ num h0
 have h3:(num/h+1)*(h*(b*M))<=(num/h+1)*V:=Nat.mul_le_mul_left _ (by omega)
 have h4:(num+1)*(b*M)<=(num/h+1)*h*(b*M):=Nat.mul_le_mul_right _ hq
 rw [Nat.mul_assoc] at h4
 rw [Nat.add_mul] at h4
 show U<(num/h+1)*V
 omega
theorem Tk {q r:Nat} (hV:V=(h*b+l)*M+v') (hU:U=(num*b+u2)*M+u') (h1:u'<M) (hq:q*h+r=num) (ht:r*b+u2<q*l):U/V<=q-1:=by
 have h3:num*b+u2+1<=q*(h*b+l):=by
   rw [<- hq,Nat.add_mul,Nat.mul_add, <- Nat.mul_assoc];omega
 have h4:(num*b+u2+1)*M<=q*(h*b+l)*M:=Nat.mul_le_mul_right _ h3
 have h5:U<q*V:=by
   rw [hV,Nat.mul_add, <- Nat.mul_assoc]
   rw [Nat.add_mul] at h4
   omega
 have Ny:0<V:=by
   rcases Nat.eq_zero_or_pos V with e | e
   . rw [e] at h5;simp at h5
   . exact e
 have:=(Nat.div_lt_iff_lt_mul Ny).2 h5
 omega
theorem Kl {q r:Nat} (h0:0<h) (hV:V=(h*b+l)*M+v') (hU:U=(num*b+u2)*M+u') (hv:v'<M) (hqb:q<b) (hq:q*h+r=num) (ht:q*l<=r*b+u2):q<=U/V+1:=by
 have h3:q*(h*b+l)<=num*b+u2:=by
   rw [<- hq,Nat.add_mul,Nat.mul_add, <- Nat.mul_assoc];omega
 have h4:q*(h*b+l)*M<=(num*b+u2)*M:=Nat.mul_le_mul_right _ h3
 have h5:q*v'<=b*M:=by
   have a1:q*v'<=b*v':=Nat.mul_le_mul_right _ (Nat.le_of_lt hqb)
   have a2:b*v'<=b*M:=Nat.mul_le_mul_left _ (Nat.le_of_lt hv)
   omega
 have eV:=ab9 hV
 have h6:1*(b*M)<=h*(b*M):=Nat.mul_le_mul_right _ h0
 have h7:q*V<=U+V:=by
   have:q*V=q*(h*b+l)*M+q*v':=by rw [hV,Nat.mul_add, <- Nat.mul_assoc]
   omega
 rcases Nat.eq_zero_or_pos q with e | e
 . rw [e];exact Nat.zero_le _
 . have h8:(q-1)*V<=U:=by
     have:q*V=(q-1)*V+V:=by
       have:=Nat.sub_add_cancel e
       calc q*V=(q-1+1)*V:=by rw [this]
         _=(q-1)*V+V:=by rw [Nat.add_mul,Nat.one_mul]
     omega
   have Ny:0<V:=by
     have hM:0<M:=by omega
     have:0<b*M:=Nat.mul_pos (by omega) hM
     omega
   have:=(Nat.le_div_iff_mul_le Ny).2 h8
   omega
theorem Pn {q r:Nat} (hn:num<(h+1)*b) (hl:l<b) (hq:q*h+r=num) (hr:b<=r):q<b/\q*l<=r*b+u2:=by
 have hqb:q<b:=by
   rw [Nat.add_mul,Nat.one_mul] at hn
   have h1:q*h<b*h:=by rw [Nat.mul_comm b h];omega
   exact Nat.lt_of_mul_lt_mul_right h1
 refine ⟨hqb, ?_⟩
 have h1:q*l<=b*b:=Nat.mul_le_mul (Nat.le_of_lt hqb) (Nat.le_of_lt hl)
 have h2:b*b<=r*b:=Nat.mul_le_mul_right _ hr
 omega
theorem XR {q:Nat} (Ny:0<V) (hle:U/V<=q) (Vv:q<=U/V+1):(U<q*V/\q=U/V+1∨q*V<=U/\q=U/V):=by
 by_cases h:U<q*V
 . left
   have:=(Nat.div_lt_iff_lt_mul Ny).2 h
   exact ⟨h,by omega⟩
 . right
   have:=(Nat.le_div_iff_mul_le Ny).2 (Nat.le_of_not_lt h)
   exact ⟨by omega,by omega⟩
end
end Go.VL
end

section
namespace Go.VL
theorem acb {ds:List Nat} {j h l:Nat} (hw:Wd ds) (hl:ds.length=j+2) (h1:ds[j+1]? = some h) (h0:ds[j]? = some l) :
   val ds=(h*ak+l)*ak ^ j+val (ds.take j)/\val (ds.take j)<ak ^ j:=by
 have e1:=aA h1
 have e0:=aA h0
 have e2:ds.take (j+1+1)=ds:=List.take_of_length_le (by omega)
 have h3:=di (gD hw j)
 rw [List.length_take,Nat.min_eq_left (by omega)] at h3
 rw [e2,e0] at e1
 refine ⟨?_,h3⟩
 have e4:(h*ak+l)*ak ^ j=ak ^ (j+1)*h+ak ^ j*l:=by
   rw [Nat.add_mul,Nat.pow_succ,Nat.mul_comm l,Nat.mul_assoc,Nat.mul_comm h,Nat.mul_comm ak]
 omega
theorem acd {ds:List Nat} {j x2 x1 x0:Nat} (hw:Wd ds) (hl:ds.length=j+3) (h2:ds[j+2]? = some x2) (h1:ds[j+1]? = some x1) (h0:ds[j]? = some x0) :
   val ds=((x2*ak+x1)*ak+x0)*ak ^ j+val (ds.take j)/\val (ds.take j)<ak ^ j:=by
 have e2:=aA h2
 have e1:=aA h1
 have e0:=aA h0
 have e3:ds.take (j+2+1)=ds:=List.take_of_length_le (by omega)
 have h3:=di (gD hw j)
 rw [List.length_take,Nat.min_eq_left (by omega)] at h3
 rw [e3,e1,e0] at e2
 refine ⟨?_,h3⟩
 have e4:((x2*ak+x1)*ak+x0)*ak ^ j=ak ^ (j+2)*x2+ak ^ (j+1)*x1+ak ^ j*x0:=by
   rw [Nat.add_mul,Nat.add_mul,Nat.add_mul,Nat.mul_comm x0]
   have a:ak ^ (j+1)*x1=x1*ak*ak ^ j:=by rw [Nat.pow_succ,Nat.mul_comm,Nat.mul_assoc,Nat.mul_comm ak]
   have b:ak ^ (j+2)*x2=x2*ak*ak*ak ^ j:=by
     have e:ak ^ (j+2)=ak ^ j*ak*ak:=by rw [show j+2=j+1+1 from rfl,Nat.pow_succ,Nat.pow_succ]
     rw [e]
     generalize ak ^ j=Y
     generalize ak=Z
     simp only [Nat.mul_comm,Nat.mul_left_comm]
   omega
 omega
theorem Km {x:Nat} (h:x<ak) (h0:0<x):1<=ee x/\ee x<=32:=by
 obtain ⟨a,b⟩:=mz h h0
 constructor
 . rcases Nat.eq_zero_or_pos (ee x) with e | e
   . rw [e] at a;simp at a;omega
   . exact e
 . have h2:2 ^ ee x<2 ^ 33:=by unfold ak at h;omega
   have:=(Nat.pow_lt_pow_iff_right (by decide:1<2)).1 h2
   omega
theorem u6 {n x k:Nat} (hk:aa n=k+1) (hx:(digits n)[k]? = some x) :
   0<x/\x<ak/\n*2 ^ (32-ee x)<ak ^ (k+1)/\aa (n*2 ^ (32-ee x))=k+1/\32-ee x<=31:=by
 have mE:=aH n x (List.mem_of_getElem? hx)
 have FD:0<x:=by
   rcases na (n:=n) with h | ⟨w,h,hw⟩
   . rw [h] at hx;simp at hx
   . rw [List.getLast?_eq_getElem?,show (digits n).length-1=k from by show aa n-1=k;omega,hx] at h
     simp only [Option.some.injEq] at h;omega
 obtain ⟨pZ,qh⟩:=Km mE FD
 have rp:=(mz mE FD).1
 have e:=aA hx
 rw [List.take_of_length_le (show (digits n).length<=k+1 from by show aa n<=k+1;omega),aE] at e
 have h3:=di (gD (aH n) k)
 rw [List.length_take,Nat.min_eq_left (show k<=(digits n).length from by show k<=aa n;omega)] at h3
 have h4:n+1<=ak ^ k*2 ^ ee x:=by
   have:ak ^ k*(x+1)<=ak ^ k*2 ^ ee x:=Nat.mul_le_mul_left _ rp
   rw [Nat.mul_add] at this;omega
 have h5:(n+1)*2 ^ (32-ee x)<=ak ^ (k+1):=by
   have:=Nat.mul_le_mul_right (2 ^ (32-ee x)) h4
   rw [Nat.mul_assoc, <- Nat.pow_add,show ee x+(32-ee x)=32 from by omega] at this
   rw [Nat.pow_succ];exact this
 have hp:=Nat.two_pow_pos (32-ee x)
 have h6:n*2 ^ (32-ee x)<ak ^ (k+1):=by rw [Nat.add_mul] at h5;omega
 refine ⟨FD,mE,h6, ?_,by omega⟩
 have h7:=cK h6
 have h8:aa n<=aa (n*2 ^ (32-ee x)):=aP (Nat.le_mul_of_pos_right _ hp)
 omega
theorem ace {x R V:Nat} (hx:x<ak) (hR:R<V):x+ak*R<ak*V/\(x+ak*R)/V<ak:=by
 have:ak*(R+1)<=ak*V:=Nat.mul_le_mul_left _ hR
 have h:x+ak*R<ak*V:=by rw [Nat.mul_add] at this;omega
 exact ⟨h,Nat.div_lt_of_lt_mul (by rw [Nat.mul_comm V];exact h)⟩
theorem XS {num u2 M u' h l v' V D:Nat} (hl:l<ak) (hv:v'<M) (hV:V=(h*ak+l)*M+v') (hD:D=(num*ak+u2)*M+u') (hlt:D<ak*V):num<(h+1)*ak:=by
 have h1:V<(h+1)*ak*M:=by
   have:(h*ak+l+1)*M<=(h+1)*ak*M:=Nat.mul_le_mul_right _ (by rw [Nat.add_mul];omega)
   rw [Nat.add_mul,Nat.one_mul] at this;omega
 have h2:num*(ak*M)<=D:=by
   have:num*ak*M<=(num*ak+u2)*M:=Nat.mul_le_mul_right _ (by omega)
   rw [Nat.mul_assoc] at this;omega
 have h3:ak*V<(h+1)*ak*(ak*M):=by
   have:=Nat.mul_lt_mul_of_pos_left h1 bx
   rw [Nat.mul_left_comm] at this;exact this
 exact Nat.lt_of_mul_lt_mul_right (a:=ak*M) (by omega)
theorem FR {U a0 i x O V R q r:Nat} (hU:U=a0+ak ^ i*x+ak ^ (i+1)*(O*V+R)) (hD:x+ak*R=q*V+r):U=a0+ak ^ i*((q+ak*O)*V+r):=by
 have e:ak ^ (i+1)*(O*V+R)=ak ^ i*(ak*(O*V))+ak ^ i*(ak*R):=by
   rw [Nat.pow_succ,Nat.mul_assoc, <- Nat.mul_add, <- Nat.mul_add]
 have e2:ak ^ i*((q+ak*O)*V+r)=ak ^ i*(q*V+r)+ak ^ i*(ak*(O*V)):=by
   rw [<- Nat.mul_add,Nat.add_mul,Nat.mul_assoc];congr 1;omega
 rw [hU,e,e2, <- hD,Nat.mul_add];omega
theorem Dg {k r:Nat} (h:r<ak ^ k):pad (k+1) r=pad k r++[0]:=by
 have e1:val (pad k r++[0])=r:=by rw [gq,bZ h]
 have e2:(pad k r++[0]).length=k+1:=by simp [cP]
 have h1:=ko (cz (iS k r) (b:=[0]) (fun z hz=>by rw [List.mem_singleton.1 hz];exact bx))
 rw [e1,e2] at h1
 exact h1
theorem Po {k D V q:Nat} (h:D%V<ak ^ k) (hq:q=D/V):pad (k+1) (D+ak ^ (k+1)-q*V)=pad k (D%V)++[0]:=by
 have h1:=Nat.mod_add_div D V
 rw [Nat.mul_comm] at h1
 have:D+ak ^ (k+1)-q*V=D%V+ak ^ (k+1)*1:=by rw [hq];omega
 rw [this,yf,Dg h]
theorem Pp {k D V q:Nat} (h0:0<V) (h:D%V<ak ^ k) (hV:V<ak ^ k) (hq:q=D/V+1):pad (k+1) (val (pad (k+1) (D+ak ^ (k+1)-q*V))+V)=pad k (D%V)++[0]:=by
 have h1:=Nat.mod_add_div D V
 rw [Nat.mul_comm] at h1
 have e:q*V=D/V*V+V:=by rw [hq,Nat.add_mul,Nat.one_mul]
 have h2:ak ^ k<=ak ^ (k+1):=Nat.pow_le_pow_right bx (by omega)
 have h3:D%V<V:=Nat.mod_lt _ h0
 rw [bZ (by omega)]
 have:D+ak ^ (k+1)-q*V+V=D%V+ak ^ (k+1)*1:=by omega
 rw [this,yf,Dg h]
theorem FT {m s V N k c A R:Nat} (hN:V=N*2 ^ s) (hNk:ak ^ (k-1)<=N) (hm:m<ak ^ (c+(k-1))) (hU:m*2 ^ s=A+ak ^ c*R):R<V:=by
 rcases Nat.lt_or_ge R V with h | h
 . exact h
 . exfalso
   have h1:ak ^ c*V<=ak ^ c*R:=Nat.mul_le_mul_left _ h
   have h2:ak ^ c*(ak ^ (k-1)*2 ^ s)<=ak ^ c*V:=by rw [hN];exact Nat.mul_le_mul_left _ (Nat.mul_le_mul_right _ hNk)
   rw [<- Nat.mul_assoc, <- Nat.pow_add] at h2
   have h3:=Nat.mul_lt_mul_of_pos_right hm (Nat.two_pow_pos s)
   omega
theorem XT {q r num h l u2 M u' v' V D:Nat} (hl:l<ak) (hvM:v'<M) (huM:u'<M) (h0:0<h) (hV:V=(h*ak+l)*M+v') (hD:D=(num*ak+u2)*M+u') (hlt:D<ak*V) (hdB:D/V<ak)
   (hq:q*h+r=num) (hle:D/V<=q) (ht:ak<=q∨r*ak+u2<q*l):1<=q/\D/V<=q-1/\(q-1)*h+(r+h)=num/\(ak<=r+h->q-1<ak/\q-1<=D/V+1):=by
 have hq1:1<=q:=by
   rcases Nat.eq_zero_or_pos q with e | e
   . subst e
     rcases ht with h1 | h1
     . unfold ak at h1;omega
     . simp at h1
   . exact e
 have ahN:D/V<=q-1:=by
   rcases ht with h1 | h1
   . omega
   . exact Tk hV hD huM hq h1
 have hs:(q-1)*h+(r+h)=num:=by
   obtain ⟨p,rfl⟩:∃ p,q=p+1:=⟨q-1,by omega⟩
   rw [Nat.add_mul] at hq
   simp only [Nat.add_sub_cancel];omega
 refine ⟨hq1,ahN,hs,fun hb => ?_⟩
 obtain ⟨a,c⟩:=Pn (u2:=u2) (XS hl hvM hV hD hlt) hl hs hb
 exact ⟨a,Kl h0 hV hD hvM a hs c⟩
theorem Kn {m n s O r:Nat} (_hn:n≠0) (hU:m*2 ^ s=O*(n*2 ^ s)+r) (hr:r<n*2 ^ s):O=m/n/\r/2 ^ s=m%n/\aa r<=aa (n*2 ^ s):=by
 have hp:=Nat.two_pow_pos s
 have h1:r=(m-O*n)*2 ^ s:=by
   rw [Nat.sub_mul,Nat.mul_assoc];omega
 have h2:m-O*n<n:=by
   rw [h1] at hr;exact Nat.lt_of_mul_lt_mul_right hr
 have h3:O*n<=m:=by
   have:O*n*2 ^ s<=m*2 ^ s:=by rw [Nat.mul_assoc];omega
   exact Nat.le_of_mul_le_mul_right this hp
 have h4:(m-O*n)+n*O=m:=by rw [Nat.mul_comm n];omega
 have h5:m/n=O/\m%n=m-O*n:=(Nat.div_mod_unique (Nat.pos_of_ne_zero _hn)).2 ⟨h4,h2⟩
 refine ⟨h5.1.symm, ?_,aP (Nat.le_of_lt hr)⟩
 rw [h1,Nat.mul_div_cancel _ hp,h5.2]
theorem pO {a b t:List Nat} {i j x:Nat} (ha:a.length=i) (h:b[j]? = some x):(a++b++t)[i+j]? = some x:=by
 have hj:=(List.getElem?_eq_some_iff.1 h).1
 rw [List.append_assoc,List.getElem?_append_right (by omega),List.getElem?_append_left (by omega), <- h]
 congr 1;omega
theorem pP {a:List Nat} {i:Nat} (h:a.length=i+1):∃ b x,a=b++[x]/\b.length=i:=by
 refine ⟨a.take i,a[i]'(by omega), ?_,by simp;omega⟩
 rw [<- List.take_succ_eq_append_getElem,List.take_of_length_le (by omega)]
end Go.VL
end

section
namespace Go.VL
section
variable {P:Program} {G:Nat->Option (List AV)} {π : Id} {Q:bP->VS->Prop} {s:VS}
theorem VW.Mf {x y:bJ} (h:VW P G π x (Then (VW P G π y Q) Q) s):VW P G π (.seq x y) Q s :=
 VW.seq (h.mono fun e _ hq=>by cases e<;>exact hq)
theorem VW.Pq {id:Nat} {x:bJ} (h:VW P G π x (LQ id Q) s):VW P G π (.block id x) Q s :=
 VW.block (h.mono fun e _ hq=>by cases e<;>exact hq)
theorem VW.cut {x:bJ} {s':VS} (hw:Wk G π s s') (h:qF P G π x Q s'):VW P G π x Q s:=VW.wk hw (VW.of h)
theorem VW.sN {α : Type} {x:bJ} {s:VS} (st : α -> VS) (Pr : α -> Prop) (m : α -> Nat) (x0 : α) (hw:Wk G π s (st x0)) (h0:Pr x0)
   (h:∀ a,Pr a->VW P G π x (EJ G π st Pr m a Q) (st a)):VW P G π (.loop x) Q s:=by
 refine VW.wk hw ?_
 intro c hc own E w a R hm hR
 cases c<;>simp only [eW,Option.some.injEq,reduceCtorEq] at hc
 case loop cb =>
   cases h1:eW P cb with
   | none=>simp [h1] at hc
   | some vb =>
     simp only [h1,Option.map_some,Option.some.injEq,bJ.loop.injEq] at hc
     subst hc
     refine qD (α := α) (fun g a' w'=>Pr g/\∃ E',jr own π E E' w w'/\iY G π own E' w' (st g) a') m (x:=x0) ⟨h0,E,jr.refl own π E w,hm⟩ ?_
     rintro g a2 w2 ⟨hI2,E2,LP,uf⟩
     refine (h g hI2) cb h1 own E2 w2 a2 _ uf ?_
     intro e s' E' w' a' hq had mG
     cases e with
     | normal =>
       obtain ⟨g',hI3,hlt,hw3⟩:=hq
       obtain ⟨E3,ad3,hm3⟩:=hw3 own E' w' a' mG
       exact ⟨g',⟨hI3,E3,(LP.trans had).trans ad3,hm3⟩,hlt⟩
     | exit id=>exact hR (.exit id) s' E' w' a' hq (LP.trans had) mG
     | ret=>exact hR .ret s' E' w' a' hq (LP.trans had) mG
 case region=>exfalso;revert hc;unfold iX;(repeat' split)<;>simp
 all_goals (exfalso;revert hc;(repeat' split)<;>simp)
theorem xz {base:Nat} {n:Nat} {ps:List (Nat × Nat)} {d:Option Nat} {os:List bc} {i:Nat} {acc:List dH} {t:List AV} {σ : ae} {f:FuncId} {args iL:List AV} {r:AV} (S:List (Id × cN))
   (h:VP P G f iL r) (hv:ah (ae.of S) args iL) (hS:∀ x∈S, σ x.1=some x.2) (k:vd P G π base Q n ps os (i+1) ({ val:=r,rd:=S.map (·.1),up:=CV S }::acc) (e9 t d r) (σ.app (CV S))):CT P G π base Q n ps d os i acc t σ f args :=
 ⟨S,_,aw.CW h hv,hS,fun x hx=>List.mem_map.2 ⟨x,hx,rfl⟩,k⟩
end
theorem B5 {id:Id} {k len l h:Nat} (h1:l<h) (h2:h<=len):fC k (.osl id k 0 len false) (some (.int .i64 (l:Int))) (some (.int .i64 (h:Int))) none=some (.osl id k l (h-l) false):=by
 rcases Nat.eq_zero_or_pos l with rfl | hp
 . simp [fC,et,iI,h2]
 . simp [fC,et,iI,h2,Nat.le_of_lt h1,Nat.ne_of_gt hp,Nat.ne_of_lt h1]
theorem tz {id:Id} {k len h:Nat} (h2:h<=len):fC k (.osl id k 0 len false) none (some (.int .i64 (h:Int))) none=some (.osl id k 0 h false):=by
 simp [fC,et,iI,h2]
end Go.VL
end

section
set_option linter.unusedVariables false
namespace Go.VL
section
variable {P:Program} {G:Nat->Option (List AV)}
theorem XU {q Q:Nat} (h1:q=Q+1) (h2:q<ak):IntKind.u64.wrap ((q:Int)-1)=((Q:Nat):Int):=by
 subst h1;rw [IntKind.wrap_u64];unfold ak at h2;omega
theorem FU {id:Id} {a t:List Nat} {b tt:Bool} {n:Nat} (hn:n=a.length):View (ae.of [(id,⟨us (a++t),1,b⟩)]) (.osl id 1 0 n tt) (.sl 1 (us a)):=by
 subst hn
 refine View.osl (bk:=⟨us (a++t),1,b⟩) (by simp [ae.of]) rfl (by simp [dD]) ?_ (by rw [dD]) (pJ a)
 have:((us (a++t)).drop 0).take a.length=us a:=by rw [List.drop_zero,Db];simp
 show ah _ (flat (((us (a++t)).drop 0).take a.length)) _
 rw [this]
 exact ah.pure (my a)
set_option maxRecDepth 100000 in
set_option maxHeartbeats 4000000 in
theorem Mg {f fc fcl ftu fu fdw flz fsl ft fsu fre fsr:FuncId} (h:Has P f (kR fc fcl ftu fu fdw flz fsl ft fsu fre fsr))
   (hc:∀ m n,aa m<=1000000->aa n<=1000000->VP P G fc [W m,W n] (.int .i64 (de m n))) (Ar:∀ n,aa n<=1000000->VP P G fcl [W n] (W n))
   (Vu:∀ n,n<18446744073709551616->VP P G ftu [W n] (.int .u64 ((n:Nat):Int))) (hu:∀ n,n<18446744073709551616->VP P G fu [.int .u64 ((n:Nat):Int)] (W n))
   (hdw:∀ m w:Nat,aa m<=1000000->w<ak->w≠0->VP P G fdw [W m, .int .u32 (w:Int)] (.tup [W (m/w),W (m%w)]))
   (hlz:∀ x:Nat,x<ak->0<x->VP P G flz [.int .u32 (x:Int)] (.int .i64 ((32-ee x:Nat):Int)))
   (Xk:Has P fsl gz) (ht:fY P G ft) (hsu:Has P fsu ic) (hre:Has P fre iF) (Nu:Has P fsr eE)
   (m n:Nat) (x4:n≠0) (hm:aa m<=900000) (hn:aa n<=900000):VP P G f [W m,W n] (.tup [W (m/n),W (m%n)]):=by
 refine VP.has h ?_
 have XV:=hc m n (by omega) (by omega)
 have ahP:=Ar m (by omega)
 have L6:m/n=0->∀ σ,View σ .nils (W (m/n)):=fun h σ => by rw [h];simp only [W,a9,us];exact View.nils 1
 have XW:m<n->m/n=0/\m%n=m:=fun h=>⟨Nat.div_eq_of_lt h,Nat.mod_eq_of_lt h⟩
 have c1:m<n->decide (de m n<0)=true:=fun h=>ai (by simp only [de,eP];rw [if_pos (by omega)];decide)
 have c2 : ¬ m<n->decide (de m n<0)=false:=fun h=>ag (by simp only [de,eP];rw [if_neg (by omega)];split<;>decide)
 have l1:aa m<=2->decide ((aa m:Int)<=2)=true:=fun h=>ai (by omega)
 have l2 : ¬ aa m<=2->decide ((aa m:Int)<=2)=false:=fun h=>ag (by omega)
 have b1:aa n=1->decide ((aa n:Int)=1)=true:=fun h=>ai (by omega)
 have b2 : ¬ aa n=1->decide ((aa n:Int)=1)=false:=fun h=>ag (by omega)
 simp only [kR,SS,Nat.reduceAdd]
 refine aq XV (by simp [aM]) ?_
 by_cases h1:m<n
 . simp only [SS,Nat.reduceAdd,c1 h1]
   refine aq ahP (by simp [aM]) ?_
   simp only [SS,Nat.reduceAdd]
   obtain ⟨e1,e2⟩:=XW h1
   refine ao▸⟨.tup [.nils,W m],rfl,View.tup (ah.cons (L6 e1 _) (ah.cons ?_ ah.nil))⟩
   rw [e2];exact View.pure (aM _)
 have x3:n<=m:=by omega
 have hwn:aa n≠0:=fun e=>x4 (bE.1 e)
 by_cases h2:aa m<=2
 . have uf:=nc h2
   have SJ:n<18446744073709551616:=by omega
   have hq:=BX m n uf x4
   have hr:=BZ m n x4
   have hu1:=hu (m/n) (Nat.lt_of_le_of_lt (Nat.div_le_self _ _) uf)
   have hu2:=hu (m%n) (Nat.lt_of_le_of_lt (Nat.mod_le _ _) uf)
   simp only [SS,Nat.reduceAdd,c2 h1,aQ,l1 h2]
   refine aq (Vu m uf) (by simp [aM]) ?_
   simp only [SS,Nat.reduceAdd]
   refine aq (Vu n SJ) (by simp [aM]) ?_
   simp only [SS,DD,Nat.reduceAdd,hq]
   refine aL hu1 (by simp [af.int]) ?_
   simp only [SS,DD,Nat.reduceAdd,hr]
   refine aL hu2 (by simp [af.int]) ?_
   simp only [SS,DD,Nat.reduceAdd]
   refine ⟨by simp [aB,apart], ?_⟩
   exact ao▸aj rfl (af.tup (by intro c hc;simp at hc;rcases hc with rfl | rfl<;>exact aM _))
 by_cases h3:aa n=1
 . obtain ⟨x,hx⟩:∃ x,(digits n)[0]? = some x:=⟨_,List.getElem?_eq_getElem (by show 0<aa n;omega)⟩
   have hxn:x=n:=by
     have e:=aA hx
     rw [List.take_of_length_le (show (digits n).length<=1 from by show aa n<=1;omega),aE] at e
     simp [val] at e;omega
   have hg:=cI hx
   rw [hxn] at hg
   have hnB:n<ak:=by rw [<- hxn];exact aH n x (List.mem_of_getElem? hx)
   have Kk:=hdw m n (by omega) hnB x4
   have Hz:bG 1 (W n) (.int .i64 0)=some (.ep (AV.int .u32 (n:Int)).cells 0):=hg
   simp only [SS,Nat.reduceAdd,c2 h1,aQ,l2 h2,b1 h3,Hz,aS,bg]
   refine aq Kk (by simp [aM,af.int]) ?_
   simp only [SS,Nat.reduceAdd,wD,wE]
   exact ao▸aj rfl (af.tup (by intro c hc;simp at hc;rcases hc with rfl | rfl<;>exact aM _))
 -- Knuth's algorithm D
 obtain ⟨k,hk⟩:∃ k,aa n=k+2:=⟨aa n-2,by omega⟩
 obtain ⟨x,hx⟩:∃ x,(digits n)[k+1]? = some x:=⟨_,List.getElem?_eq_getElem (by show k+1<aa n;omega)⟩
 obtain ⟨FD,XX,hV,XY,hs⟩:=u6 hk hx
 generalize hsd:32-ee x=s at hV XY hs
 have aci:=hlz x XX FD
 rw [hsd] at aci
 have p1:IntKind.i64.wrap (((k+2:Nat):Int)-1)=((k+1:Nat):Int):=by rw [IntKind.wrap_i64];omega
 have p2:IntKind.i64.wrap (((k+2:Nat):Int)-2)=((k:Nat):Int):=by rw [IntKind.wrap_i64];omega
 obtain ⟨V,Mh⟩:∃ V,V=n*2 ^ s:=⟨_,rfl⟩
 obtain ⟨U,Tl⟩:∃ U,U=m*2 ^ s:=⟨_,rfl⟩
 rw [<- Mh] at hV XY
 have HZ:=uY (G:=G) Xk m s (by omega) hs
 have H0:=uY (G:=G) Xk n s (by omega) hs
 rw [<- Mh] at H0
 rw [<- Tl] at HZ
 obtain ⟨L,hL⟩:∃ L,aa m+1=L+(k+2):=⟨aa m+1-(k+2),by have:=aP x3;omega⟩
 have hUB:U<ak ^ (aa m+1):=by
   have h4:2 ^ s<=2 ^ 32:=Nat.pow_le_pow_right (by decide) (by omega)
   have h5:m*2 ^ s<=m*2 ^ 32:=Nat.mul_le_mul_left _ h4
   have h6:m*2 ^ 32<ak ^ aa m*2 ^ 32:=Nat.mul_lt_mul_of_pos_right (b7 m) (by decide)
   rw [Nat.pow_succ,Tl];exact Nat.lt_of_le_of_lt h5 h6
 obtain ⟨A0,R0,XZ,Vw,hR0⟩:∃ A R,pad (aa m+1) U=A++R++[]/\A.length=L/\R.length=k+2 :=
   ⟨(pad (aa m+1) U).take L,(pad (aa m+1) U).drop L,by simp,by simp [cP];omega,by simp [cP];omega⟩
 have hAw:Wd A0/\Wd R0:=by
   have h4:=iS (aa m+1) U
   rw [XZ] at h4
   exact ⟨fun w hw=>h4 w (by simp [hw]),fun w hw=>h4 w (by simp [hw])⟩
 have hU0:U=val A0+ak ^ L*val R0:=by
   have h4:=bZ hUB
   rw [XZ,List.append_nil,bq,Vw] at h4
   exact h4.symm
 have Ps:val R0<V:=FT (k:=k+2) Mh (by have:=nb x4;rw [hk] at this;exact this) (by
   have h4:=b7 m
   have:L+(k+2-1)=aa m:=by omega
   rw [this];exact h4) (Tl▸hU0)
 have zF:aa V=k+2:=XY
 obtain ⟨hh,Pt⟩:∃ y,(digits V)[k+1]? = some y:=⟨_,List.getElem?_eq_getElem (by show k+1<aa V;omega)⟩
 obtain ⟨ll,llg⟩:∃ y,(digits V)[k]? = some y:=⟨_,List.getElem?_eq_getElem (by show k<aa V;omega)⟩
 have hhB:=aH V hh (List.mem_of_getElem? Pt)
 have llB:=aH V ll (List.mem_of_getElem? llg)
 have f1:=aW hh hhB
 have f2:=aW ll llB
 obtain ⟨X0,hvM⟩:=acb (aH V) zF Pt llg
 rw [aE] at X0
 have hh0:0<hh:=by
   rcases na (n:=V) with h4 | ⟨w,h4,hw⟩
   . rw [h4] at Pt;simp at Pt
   . rw [List.getLast?_eq_getElem?,show (digits V).length-1=k+1 from by show aa V-1=k+1;omega,Pt] at h4
     simp only [Option.some.injEq] at h4;omega
 have Ss:0<V:=Nat.lt_of_le_of_lt (Nat.zero_le _) Ps
 have acn:IntKind.i64.wrap (((aa m+1:Nat):Int)-((k+2:Nat):Int))=((L:Nat):Int):=by rw [IntKind.wrap_i64];omega
 have Er:IntKind.i64.wrap (((L:Nat):Int)-1)=(L:Int)-1:=by rw [IntKind.wrap_i64];omega
 have qq:∀ p:Id,g8 p 1 4 (.int .u32 0) (.int .i64 ((L:Nat):Int)) (.int .i64 ((L:Nat):Int))=some { val := .osl p 1 0 L false,up:=[(p,some ⟨us (List.replicate L 0),1,false⟩)] }:=fun p=>iD (by omega)
 rw [XZ] at HZ
 rw [hk] at H0
 have b3:decide (((k+2:Nat):Int)=1)=false:=ag (by omega)
 have Ny:V<ak ^ (k+2+1):=Nat.lt_of_lt_of_le hV (Nat.pow_le_pow_right bx (by omega))
 have Pu:VP P G ft [.sl 1 (us (pad (k+2+1) V))] (W V):=by
   have:=ht (pad (k+2+1) V) (iS _ _) (by rw [cP];omega)
   rwa [bZ Ny] at this
 simp only [SS,Nat.reduceAdd,c2 h1,aQ,l2 h2,b3,hk,p1,cI hx,aS,bg]
 refine aq aci (by simp [af.int]) ?_
 simp only [SS,Nat.reduceAdd]
 refine ⟨[],_,HZ _,by simp,by simp, ?_⟩
 simp only [SS,Nat.reduceAdd]
 refine ⟨[],_,H0 _,by simp,by simp, ?_⟩
 simp only [SS,Nat.reduceAdd]
 refine cB [([4,28],⟨us (pad (k+2+1) V),1,false⟩)] Pu (ah.cons (fk (cP _ _).symm) ah.nil) (by simp [ae.put]) ?_
 simp only [SS,Nat.reduceAdd]
 simp only [SS,DD,Nat.reduceAdd,aQ,zF,acn,Er,qq,p1,p2,cI Pt,cI llg,aS,bg,f1,f2]
 refine ⟨by simp [aB], ?_⟩
 simp only [bf]
 refine VW.sN (α := Nat × List Nat × List Nat × List Nat × List Nat × Nat) (fun x=>⟨List.replicate 8 .top++[.int .i64 (s:Int), .osl [4,25] 1 0 (aa m+1) false,W V, .int .i64 ((k+2:Nat):Int), .osl [39] 1 0 L false, .int .u64 (hh:Int), .int .u64 (ll:Int), .int .i64 ((x.1:Int)-1)]++List.replicate 161 .top,
   ae.put (ae.put (fun _=>none) [4,25] (some ⟨us (x.2.1++x.2.2.1++x.2.2.2.1),1,false⟩)) [39] (some ⟨us (zs x.1++x.2.2.2.2.1),1,false⟩),x.2.2.2.2.2⟩)
   (fun x=>x.1+x.2.2.2.2.1.length=L/\x.2.1.length=x.1/\x.2.2.1.length=k+2/\x.1+(k+2)+x.2.2.2.1.length=aa m+1/\Wd x.2.1/\Wd x.2.2.1/\Wd x.2.2.2.2.1/\val x.2.2.1<V/\U=val x.2.1+ak ^ x.1*(val x.2.2.2.2.1*V+val x.2.2.1)) (fun x=>x.1) (L,A0,R0,[],[],1000) ?_ ?_ ?_
 . refine Wk.forget (by simp [Fg,List.replicate]) (fun j => ?_) (by simp only [];omega)
   simp only [List.append_nil,ae.put,ae.app,CV,List.map_cons,List.map_nil,zs]
   by_cases e1:j=[39]
   . subst e1;simp
   . by_cases e2:j=[4,25]
     . subst e2;simp
     . simp [e1,e2]
 . refine ⟨by simp,Vw,hR0,by simp;omega,hAw.1,hAw.2,by intro w hw;simp at hw,Ps, ?_⟩
   show U=val A0+ak ^ L*(val []*V+val R0)
   rw [show val []=0 from rfl,Nat.zero_mul,Nat.zero_add];exact hU0
 rintro ⟨c,A,R,t,o,nn⟩ ⟨hc,hA,hR,htl,X3,X4,X5,Ti,X6⟩
 simp only [] at hc hA hR htl X3 X4 X5 Ti X6
 rcases Nat.eq_zero_or_pos c with h0 | hcp
 . subst h0
   have d0:decide ((0:Int)<=((0:Nat):Int)-1)=false:=by decide
   refine VW.Mf (VW.of ?_)
   simp only [SS,DD,Nat.reduceAdd,d0]
   obtain rfl:A=[]:=List.length_eq_zero_iff.1 hA
   have hU':m*2 ^ s=val o*(n*2 ^ s)+val R:=by
     rw [<- Tl, <- Mh,X6]
     show val []+ak ^ 0*_=_
     simp [val]
   obtain ⟨g1,g2,g3⟩:=Kn x4 hU' (Mh▸Ti)
   have hoL:L=o.length:=by omega
   have htq:=ht o X5 (by omega)
   rw [g1] at htq
   have htR:=ht R X4 (by omega)
   have hwR:aa (val R)<=1000000:=by rw [<- Mh,zF] at g3;omega
   have ahW:=sM (G:=G) Nu (val R) s hwR hs
   have Mi:VP P G ft [.sl 1 (us (pad (aa (val R)) (val R/2 ^ s)))] (W (m%n)):=by
     have e:=ht (pad (aa (val R)) (val R/2 ^ s)) (iS _ _) (by rw [cP];omega)
     rw [bZ (Nat.lt_of_le_of_lt (Nat.div_le_self _ _) (b7 _))] at e
     rw [<- g2];exact e
   have FV:fC 1 (.osl [4,25] 1 0 (aa m+1) false) none (some (.int .i64 ((k+2:Nat):Int))) none=some (.osl [4,25] 1 0 (k+2) false):=tz (by omega)
   rw [pM,List.nil_append,List.nil_append]
   refine xz [([39],⟨us o,1,false⟩)] htq (ah.cons (fk hoL) ah.nil) (by simp [ae.put]) ?_
   simp only [SS,DD,Nat.reduceAdd,FV]
   refine xz [([4,25],⟨us (R++t),1,false⟩)] htR (ah.cons (FU hR.symm) ah.nil) (by simp [ae.put,ae.app,CV]) ?_
   simp only [SS,DD,Nat.reduceAdd]
   refine aL ahW (by simp [aM,af.int]) ?_
   simp only [SS,DD,Nat.reduceAdd]
   refine aL Mi (by simp [yd]) ?_
   simp only [SS,DD,Nat.reduceAdd]
   refine ⟨by simp [aB,apart,CV], ?_⟩
   exact ao▸aj rfl (af.tup (by intro c hc;simp at hc;rcases hc with rfl | rfl<;>exact aM _))
 obtain ⟨i,rfl⟩:∃ i,c=i+1:=⟨c-1,by omega⟩
 have d0:decide ((0:Int)<=(i:Int))=true:=ai (by omega)
 have hj:((i+1:Nat):Int)-1=(i:Int):=by omega
 have hji:IntKind.i64.wrap ((i:Int)-1)=(i:Int)-1:=by rw [IntKind.wrap_i64];omega
 refine VW.Mf (VW.of ?_)
 simp only [SS,Nat.reduceAdd,hj,d0]
 obtain ⟨A',y,rfl,hA'⟩:=pP hA
 obtain ⟨b,s6⟩:∃ b,b=y::R:=⟨_,rfl⟩
 have eb:A'++[y]++R++t=A'++b++t:=by rw [s6];simp
 rw [eb]
 have X7:y<ak:=X3 y (by simp)
 have X8:Wd A':=fun w hw=>X3 w (by simp [hw])
 have rp:b.length=k+3:=by rw [s6];simp [hR]
 have Ef:Wd b:=by
   intro w hw;rw [s6] at hw
   rcases List.mem_cons.1 hw with rfl | hw
   . exact X7
   . exact X4 w hw
 have hbv:val b=y+ak*val R:=by rw [s6];rfl
 obtain ⟨Vx,St⟩:=ace X7 Ti
 rw [<- hbv] at Vx St
 obtain ⟨x2,X9⟩:∃ z,b[k+2]? = some z:=⟨_,List.getElem?_eq_getElem (by omega)⟩
 obtain ⟨x1,C4⟩:∃ z,b[k+1]? = some z:=⟨_,List.getElem?_eq_getElem (by omega)⟩
 obtain ⟨z0,Nv⟩:∃ z,b[k]? = some z:=⟨_,List.getElem?_eq_getElem (by omega)⟩
 have H3:=Ef x2 (List.mem_of_getElem? X9)
 have Pv:=Ef x1 (List.mem_of_getElem? C4)
 have Pw:=Ef z0 (List.mem_of_getElem? Nv)
 obtain ⟨hD,huM⟩:=acd Ef rp X9 C4 Nv
 rw [show x2*ak+x1=ak*x2+x1 from by rw [Nat.mul_comm]] at hD
 obtain ⟨num,zG⟩:∃ z,z=ak*x2+x1:=⟨_,rfl⟩
 rw [<- zG] at hD
 have Ko:num<18446744073709551616:=by rw [zG];unfold ak at *;omega
 have a1:=iG i (k+2) (by omega)
 have a2:IntKind.i64.wrap (((i+(k+2):Nat):Int)-1)=((i+(k+1):Nat):Int):=by rw [IntKind.wrap_i64];omega
 have a3:IntKind.i64.wrap (((i+(k+2):Nat):Int)-2)=((i+k:Nat):Int):=by rw [IntKind.wrap_i64];omega
 have a4:IntKind.i64.wrap (((i+(k+2):Nat):Int)+1)=((i+(k+3):Nat):Int):=by rw [IntKind.wrap_i64];omega
 have ia2:=bI (q:=[4,25]) (t:=false) (show i+(k+2)<aa m+1 by omega)
 have ia1:=bI (q:=[4,25]) (t:=false) (show i+(k+1)<aa m+1 by omega)
 have ia0:=bI (q:=[4,25]) (t:=false) (show i+k<aa m+1 by omega)
 have iaq:=bI (q:=[39]) (t:=false) (show i<L by omega)
 have FV:fC 1 (.osl [4,25] 1 0 (aa m+1) false) (some (.int .i64 (i:Int))) (some (.int .i64 ((i+(k+3):Nat):Int))) none=some (.osl [4,25] 1 A'.length (aa V+1) false):=by
   rw [B5 (by omega) (by omega),hA',zF]
   congr 2;omega
 generalize hσ : ae.put (ae.put (fun _=>none) [4,25] (some ⟨us (A'++b++t),1,false⟩)) [39] (some ⟨us (zs (i+1)++o),1,false⟩) = σ0
 have Tm : σ0 [4,25]=some ⟨us (A'++b++t),1,false⟩:=by rw [<- hσ];simp [ae.put]
 have hσQ : σ0 [39]=some ⟨us (zs (i+1)++o),1,false⟩:=by rw [<- hσ];simp [ae.put]
 have ld2:=fZ Tm (pO (t:=t) hA' X9)
 have ld1:=fZ Tm (pO (t:=t) hA' C4)
 have ld0:=fZ Tm (pO (t:=t) hA' Nv)
 have w2:=aW x2 H3
 have w1:=aW x1 Pv
 have w0:=aW z0 Pw
 have s2:=tv x2 H3
 have o2:=BW x2 x1 H3 Pv
 rw [<- zG] at o2
 have q1:=BX num hh Ko (by omega)
 have r1:=BZ num hh (by omega)
 refine VW.Mf (VW.Pq (VW.Mf (VW.of ?_)))
 simp only [SS,DD,Nat.reduceAdd,a1,a2,ia2,ia1,ld2,ld1,w2,w1,s2,o2]
 refine ⟨by simp [aB],VW.Mf (VW.of ?_)⟩
 simp only [SS,DD,Nat.reduceAdd,q1,r1]
 refine ⟨by simp [aB],VW.Mf (VW.Pq ?_)⟩
 have acr:num/hh*hh+num%hh=num:=by rw [Nat.mul_comm];exact Nat.div_add_mod num hh
 have Dh:=FQ hh0 X0 hD Pw huM
 refine VW.mono (Q:=fun e s'=>∃ q n2,e = .exit 3/\(q<ak/\val b/V<=q/\q<=val b/V+1)/\Wk G [] s' ⟨List.replicate 8 .top++[.int .i64 (s:Int), .osl [4,25] 1 0 (aa m+1) false,W V, .int .i64 ((k+2:Nat):Int), .osl [39] 1 0 L false, .int .u64 (hh:Int), .int .u64 (ll:Int), .int .i64 (i:Int), .top, .int .u64 (q:Int)]++List.replicate 159 .top, σ0,n2⟩) ?_ ?_
 . refine VW.dV (α := Nat × Nat × Nat) (fun x=>⟨List.replicate 8 .top++[.int .i64 (s:Int), .osl [4,25] 1 0 (aa m+1) false,W V, .int .i64 ((k+2:Nat):Int), .osl [39] 1 0 L false, .int .u64 (hh:Int), .int .u64 (ll:Int), .int .i64 (i:Int), .top, .int .u64 (x.1:Int), .int .u64 (x.2.1:Int)]++List.replicate 158 .top, σ0,x.2.2⟩)
     (fun x=>x.1*hh+x.2.1=num/\val b/V<=x.1/\x.2.1<ak/\x.1<18446744073709551616) (fun x=>x.1) (num/hh,num%hh,nn+1000) ?_ ?_ ?_
   . exact Wk.slots (by simp [Fg,List.replicate]) (by simp only [];omega)
   . exact ⟨acr,Dh,Nat.lt_trans (Nat.mod_lt _ hh0) hhB,Nat.lt_of_le_of_lt (Nat.div_le_self _ _) Ko⟩
   rintro ⟨q,r,n3⟩ ⟨I7,hle,FK,ah2⟩
   simp only [] at I7 hle FK ah2
   have d1:ak<=q->decide ((4294967296:Int)<=(q:Int))=true:=fun h=>ai (by unfold ak at h;omega)
   have d2 : ¬ ak<=q->decide ((4294967296:Int)<=(q:Int))=false:=fun h=>ag (by unfold ak at h;omega)
   have d3:ak<=r+hh->decide ((4294967296:Int)<=((r+hh:Nat):Int))=true:=fun h=>ai (by unfold ak at h;omega)
   have d4 : ¬ ak<=r+hh->decide ((4294967296:Int)<=((r+hh:Nat):Int))=false:=fun h=>ag (by unfold ak at h;omega)
   have d5:ak*r+z0<q*ll->decide (((ak*r+z0:Nat):Int)<((q*ll:Nat):Int))=true:=fun h=>ai (by omega)
   have d6 : ¬ ak*r+z0<q*ll->decide (((ak*r+z0:Nat):Int)<((q*ll:Nat):Int))=false:=fun h=>ag (by omega)
   have m1 : ¬ ak<=q->IntKind.u64.wrap ((q:Int)*(ll:Int))=((q*ll:Nat):Int):=fun h=>FH q ll (by omega) llB
   have s3:=tv r FK
   have o3:=BW r z0 FK Pw
   have p3:=kj r hh (by unfold ak at *;omega)
   have Hr:=fun ht=>XT (q:=q) (r:=r) llB hvM huM hh0 X0 hD Vx St I7 hle ht
   have eQ : ¬ ak<=q->q*ll<=r*ak+z0->q<=val b/V+1:=fun h1 h2=>Kl hh0 X0 hD hvM (by omega) I7 h2
   have Bj:r*ak=ak*r:=Nat.mul_comm _ _
   rw [Bj] at Hr eQ
   have pq:1<=q->IntKind.u64.wrap ((q:Int)-1)=((q-1:Nat):Int):=fun h=>by rw [IntKind.wrap_u64];omega
   have hql:q-1<18446744073709551616:=by omega
   have hmq:1<=q->q-1<q:=fun h=>by omega
   have hrh : ¬ ak<=r+hh->r+hh<ak:=fun h=>by omega
   by_cases cq:ak<=q
   . obtain ⟨k1,k2,k3,k4⟩:=Hr (.inl cq)
     by_cases cr:ak<=r+hh
     . simp only [SS,Nat.reduceAdd,d1 cq,pq k1,p3,d3 cr]
       exact ⟨q-1,_,trivial,⟨(k4 cr).1,k2,(k4 cr).2⟩,Wk.slots (by simp [Fg]) (Nat.le_refl _)⟩
     . simp only [SS,Nat.reduceAdd,d1 cq,pq k1,p3,d4 cr]
       exact ⟨(q-1,r+hh,_),⟨k3,k2,hrh cr,hql⟩,hmq k1,Wk.slots (by simp [Fg]) (Nat.le_refl _)⟩
   . by_cases ct:ak*r+z0<q*ll
     . obtain ⟨k1,k2,k3,k4⟩:=Hr (.inr ct)
       by_cases cr:ak<=r+hh
       . simp only [SS,Nat.reduceAdd,d2 cq,m1 cq,s3,a1,a3,ia0,ld0,w0,o3,d5 ct,pq k1,p3,d3 cr]
         exact ⟨q-1,_,trivial,⟨(k4 cr).1,k2,(k4 cr).2⟩,Wk.slots (by simp [Fg]) (Nat.le_refl _)⟩
       . simp only [SS,Nat.reduceAdd,d2 cq,m1 cq,s3,a1,a3,ia0,ld0,w0,o3,d5 ct,pq k1,p3,d4 cr]
         exact ⟨(q-1,r+hh,_),⟨k3,k2,hrh cr,hql⟩,hmq k1,Wk.slots (by simp [Fg]) (Nat.le_refl _)⟩
     . have hp:=eQ cq (by omega)
       have ah3:q<ak:=by omega
       simp only [SS,Nat.reduceAdd,d2 cq,m1 cq,s3,a1,a3,ia0,ld0,w0,o3,d6 ct]
       exact ⟨q,_,trivial,⟨ah3,hle,hp⟩,Wk.slots (by simp [Fg]) (Nat.le_refl _)⟩
 rintro e s' ⟨q,n2,rfl,⟨hqB,hle,Vv⟩,hw⟩
 simp only [wb,if_true,qE]
 refine VW.cut hw ?_
 have yK:=FN (G:=G) hsu (id:=[4,25]) (a:=A') (b:=b) (t:=t) (v:=V) (q:=q) (tight:=false) (by omega) (by omega) Ef hqB
 have Ev:=HX (G:=G) hre (id:=[4,25]) (a:=A') (b:=pad (aa V+1) (val b+ak ^ (aa V+1)-q*V)) (t:=t) (v:=V) (tight:=false) (by omega) (cP _ _) (iS _ _)
 have hVB:V<ak ^ (k+2):=hV
 have B6:val b%V<V:=Nat.mod_lt _ Ss
 have Kp:val b%V<ak ^ (k+2):=Nat.lt_trans B6 hVB
 simp only [SS,Nat.reduceAdd,a1,a4,FV]
 refine ⟨[([4,25],⟨us (A'++b++t),1,false⟩)],_,yK _,by simp [Tm],by simp, ?_⟩
 have hqL:i<(zs (i+1)++o).length:=by simp [zs];omega
 have Ou:val b=val b/V*V+val b%V:=by have:=Nat.div_add_mod (val b) V;rw [Nat.mul_comm] at this;omega
 have hUn:U=val A'+ak ^ i*(val (val b/V::o)*V+val (pad (k+2) (val b%V))):=by
   rw [bZ Kp]
   refine FR (x:=y) (R:=val R) (O:=val o) ?_ (by rw [<- hbv];exact Ou)
   rw [X6,bq,hA']
   simp only [val,Nat.mul_zero,Nat.add_zero]
 have vK:i+(val b/V::o).length=L/\A'.length=i/\(pad (k+2) (val b%V)).length=k+2/\i+(k+2)+(0::t).length=aa m+1/\Wd A'/\Wd (pad (k+2) (val b%V))/\Wd (val b/V::o)/\val (pad (k+2) (val b%V))<V/\U=val A'+ak ^ i*(val (val b/V::o)*V+val (pad (k+2) (val b%V))):=by
   refine ⟨by simp;omega,hA',cP _ _,by simp;omega,X8,iS _ _, ?_,by rw [bZ Kp];exact B6,hUn⟩
   intro w hw
   rcases List.mem_cons.1 hw with rfl | hw
   . exact St
   . exact X5 w hw
 have hqi:IntKind.u32.wrap ((val b/V:Nat):Int)=((val b/V:Nat):Int):=by rw [o7,Nat.mod_eq_of_lt St]
 have UZ:((i:Nat):Int)-1=(((i:Nat):Int)-1):=rfl
 rcases XR Ss hle Vv with ⟨hlt,Tn⟩ | ⟨wW,Tn⟩
 . have dn:decide (val b<q*V)=true:=ai hlt
   have pq:=XU Tn hqB
   have UY:pad (aa V+1) (val (pad (aa V+1) (val b+ak ^ (aa V+1)-q*V))+V)=pad (k+2) (val b%V)++[0]:=by
     rw [zF];exact Pp Ss Kp hVB Tn
   have ef:A'++(pad (k+2) (val b%V)++[0])++t=A'++pad (k+2) (val b%V)++(0::t):=by simp
   rw [UY,ef] at Ev
   simp only [SS,Nat.reduceAdd,dn,pq,a1,a4,FV]
   refine ⟨[([4,25],⟨us (A'++pad (aa V+1) (val b+ak ^ (aa V+1)-q*V)++t),1,false⟩)],_,Ev _,by simp [ae.put],by simp, ?_⟩
   simp only [SS,Nat.reduceAdd,hqi,iaq]
   rw [bC (o:=zs (i+1)++o) (by simp [ae.put,hσQ]) hqL,qW]
   simp only [SS,Nat.reduceAdd]
   refine VW.of ?_
   simp only [SS,Nat.reduceAdd,hji]
   refine ⟨(i,A',pad (k+2) (val b%V),0::t,val b/V::o,_),vK,Nat.lt_succ_self i,Wk.forget (by simp [Fg]) (fun j => ?_) (Nat.le_refl _)⟩
   by_cases e1:j=[39]
   . subst e1;simp [ae.put]
   . by_cases e2:j=[4,25]
     . subst e2;simp [ae.put]
     . simp [ae.put,e1,e2]
 . have dn:decide (val b<q*V)=false:=ag (by omega)
   have UY:pad (aa V+1) (val b+ak ^ (aa V+1)-q*V)=pad (k+2) (val b%V)++[0]:=by
     rw [zF];exact Po Kp Tn
   have ef:A'++(pad (k+2) (val b%V)++[0])++t=A'++pad (k+2) (val b%V)++(0::t):=by simp
   rw [UY,ef]
   simp only [SS,Nat.reduceAdd,dn]
   rw [Tn]
   simp only [SS,Nat.reduceAdd,hqi,iaq]
   rw [bC (o:=zs (i+1)++o) (by simp [ae.put,hσQ]) hqL,qW]
   simp only [SS,Nat.reduceAdd]
   refine VW.of ?_
   simp only [SS,Nat.reduceAdd,hji]
   refine ⟨(i,A',pad (k+2) (val b%V),0::t,val b/V::o,_),vK,Nat.lt_succ_self i,Wk.forget (by simp [Fg]) (fun j => ?_) (Nat.le_refl _)⟩
   by_cases e1:j=[39]
   . subst e1;simp [ae.put]
   . by_cases e2:j=[4,25]
     . subst e2;simp [ae.put]
     . simp [ae.put,e1,e2]
end
end Go.VL
end

section
set_option linter.unusedVariables false
namespace Go.VL
theorem acs (neg:Bool) (n:Nat):IV (sgn neg n) = .agg [.bool (neg&&decide (0<n)),W n]:=by
 cases neg
 . simp only [IV,sgn];simp<;>omega
 . simp only [IV,sgn];simp<;>omega
section
variable {P:Program} {G:Nat->Option (List AV)}
end
end Go.VL
end

section
set_option linter.unusedVariables false
namespace Go.VL
theorem A4 {ds:List Nat} {j a:Nat} (h:ds[j]? = some a):val (ds.drop j)=a+ak*val (ds.drop (j+1)):=by
 obtain ⟨h1,h2⟩:=List.getElem?_eq_some_iff.1 h
 rw [List.drop_eq_getElem_cons h1,h2];rfl
theorem To {ds:List Nat} (h:Wd ds) (k:Nat):Wd (ds.drop k):=fun w hw=>h w (List.mem_of_mem_drop hw)
section
variable {P:Program} {G:Nat->Option (List AV)}
theorem Px {f:FuncId} (h:Has P f ig) (n:Nat) (hn:n<18446744073709551616):VP P G f [W n] (.int .u64 (n:Int)):=by
 refine VP.has h ?_
 have hwn:=kU n hn
 have hwL:IntKind.i64.wrap ((aa n:Int)-1)=(aa n:Int)-1:=by rw [IntKind.wrap_i64];omega
 simp only [ig,SS,Nat.reduceAdd,aQ,hwL,bf]
 refine VW.dV (α := Nat × Nat × Nat) (fun x=>⟨[W n, .top, .top, .int .u64 (x.2.2:Int), .int .i64 ((x.1:Int)-1)]++List.replicate 16 .top,fun _=>none,x.2.1⟩)
   (fun x=>x.1<=aa n/\x.2.2=val ((digits n).drop x.1)) (fun x=>x.1) (aa n,1000,0) ?_ ?_ ?_
 . exact Wk.slots (by simp [Fg,List.replicate]) (by simp only [];omega)
 . refine ⟨Nat.le_refl _, ?_⟩
   show 0=val ((digits n).drop (aa n))
   rw [List.drop_eq_nil_of_le (show (digits n).length<=aa n from Nat.le_refl _)];rfl
 rintro ⟨k,nn,r⟩ ⟨hk,hv⟩
 simp only [] at hk hv
 by_cases h0:k=0
 . subst h0
   have d0:decide ((0:Int)<=((0:Nat):Int)-1)=false:=by decide
   rw [List.drop_zero,aE] at hv
   subst hv
   simp only [SS,Nat.reduceAdd,d0]
   exact ao▸aj rfl (af.int _ _)
 . obtain ⟨j,rfl⟩:∃ j,k=j+1:=⟨k-1,by omega⟩
   have d0:decide ((0:Int)<=(j:Int))=true:=ai (by omega)
   have hj:((j+1:Nat):Int)-1=(j:Int):=by omega
   have Ka:IntKind.i64.wrap ((j:Int)-1)=(j:Int)-1:=by rw [IntKind.wrap_i64];omega
   obtain ⟨a,ha⟩:∃ a,(digits n)[j]? = some a:=⟨_,List.getElem?_eq_getElem (show j<aa n by omega)⟩
   have mN:=aH n a (List.mem_of_getElem? ha)
   have f1:=aW a mN
   have FK:r<ak:=by
     have h1:=di (To (aH n) (j+1))
     rw [<- hv,List.length_drop] at h1
     have h2:ak ^ ((digits n).length-(j+1))<=ak ^ 1:=Nat.pow_le_pow_right bx (by show aa n-(j+1)<=1;omega)
     rw [Nat.pow_one] at h2;omega
   have f2:=tv r FK
   have f3:=BW r a FK mN
   have hv':ak*r+a=val ((digits n).drop j):=by rw [A4 ha,hv,Nat.add_comm]
   have XH:j<=aa n:=by omega
   simp only [SS,Nat.reduceAdd,d0,hj,cI ha,aS,bg,f1,f2,f3,Ka]
   exact ⟨(j,_,ak*r+a),⟨XH,hv'⟩,Nat.lt_succ_self j,Wk.slots (by simp [Fg]) (Nat.le_refl _)⟩
theorem FW {f:FuncId} (h:Has P f gl) (m n:Nat) (hm:aa m<=1000000) (_hn:aa n<=1000000):VP P G f [W m,W n] (.int .i64 (de m n)):=by
 refine VP.has h ?_
 simp only [gl,SS,Nat.reduceAdd,aQ]
 by_cases hl:aa m=aa n
 case neg =>
   have d:decide ((aa m:Int)≠(aa n:Int))=true:=ai (by omega)
   rcases Nat.lt_or_ge (aa m) (aa n) with h1 | h1
   . have h2:=pK h1
     have d1:decide ((aa m:Int)<(aa n:Int))=true:=ai (by omega)
     have e:de m n = -1-0:=by unfold de;rw [rC (by omega)];rfl
     rw [e]
     simp only [SS,Nat.reduceAdd,aQ,d,d1]
     exact ao▸aj rfl (af.int _ _)
   . have h1':aa n<aa m:=by omega
     have h2:=pK h1'
     have d1:decide ((aa m:Int)<(aa n:Int))=false:=ag (by omega)
     have e:de m n=1:=by unfold de;rw [rD (by omega)]
     rw [e]
     simp only [SS,Nat.reduceAdd,aQ,d,d1]
     exact ao▸aj rfl (af.int _ _)
 have d:decide ((aa m:Int)≠(aa n:Int))=false:=ag (by omega)
 have ew:IntKind.i64.wrap ((aa m:Int)-1)=(aa m:Int)-1:=by rw [IntKind.wrap_i64];omega
 have hd0:(digits m).drop (aa m)=(digits n).drop (aa m):=by
   have e1:(digits m).drop (aa m)=[]:=List.drop_of_length_le (Nat.le_refl _)
   have e2:(digits n).drop (aa m)=[]:=List.drop_of_length_le (by show aa n<=aa m;omega)
   rw [e1,e2]
 simp only [SS,Nat.reduceAdd,aQ,d,ew,bf]
 refine VW.dV (α := Nat × Nat) (fun x=>⟨[W m,W n, .top, .top, .top, .int .i64 ((x.1:Int)-1)]++List.replicate 35 .top,fun _=>none,x.2⟩) (fun x=>x.1<=aa m/\(digits m).drop x.1=(digits n).drop x.1) (fun x=>x.1) (aa m,1000) ?_
   ⟨Nat.le_refl _,hd0⟩ ?_
 . exact Wk.slots (by simp [Fg,List.replicate]) (by simp only [];omega)
 rintro ⟨j,q⟩ ⟨hj,hd⟩
 simp only [] at hj hd
 simp only [SS,Nat.reduceAdd]
 by_cases h0:j=0
 . subst h0
   have d0:decide ((0:Int)<=((0:Nat):Int)-1)=false:=by decide
   simp only [SS,d0]
   have e:m=n:=by
     simp only [List.drop_zero] at hd
     rw [<- aE m,hd,aE]
   have e2:de m n=0:=J8 (by omega)
   rw [e2]
   exact ao▸aj rfl (af.int _ _)
 . have lq:0<j:=Nat.pos_of_ne_zero h0
   have d0:decide ((0:Int)<=((j-1:Nat):Int))=true:=ai (by omega)
   have ej:(j:Int)-1=((j-1:Nat):Int):=by omega
   have hjm:j-1<(digits m).length:=by show j-1<aa m;omega
   have Ls:j-1<(digits n).length:=by show j-1<aa n;omega
   have ew2:IntKind.i64.wrap (((j-1:Nat):Int)-1)=((j-1:Nat):Int)-1:=by rw [IntKind.wrap_i64];omega
   obtain ⟨x,hx⟩:∃ x,(digits m)[j-1]? = some x:=⟨_,List.getElem?_eq_getElem hjm⟩
   obtain ⟨y,hy⟩:∃ y,(digits n)[j-1]? = some y:=⟨_,List.getElem?_eq_getElem Ls⟩
   have Sj:(digits m).drop (j-1+1)=(digits n).drop (j-1+1):=by rw [show j-1+1=j from by omega];exact hd
   rcases Nat.lt_trichotomy x y with h1 | h1 | h1
   . have e:de m n = -1-0:=by
       have:=ye (aH m) (aH n) hl hx hy Sj h1
       rw [aE,aE] at this
       unfold de;rw [rC (by omega)];rfl
     have d1:decide ((x:Int)<(y:Int))=true:=ai (by omega)
     rw [e]
     simp only [SS,DD,Nat.reduceAdd,d0,ej,cI hx,cI hy,aS,bg,d1]
     refine ⟨by simp [aB], ?_⟩
     exact ao▸aj rfl (af.int _ _)
   . have d1:decide ((x:Int)<(y:Int))=false:=ag (by omega)
     have d2:decide ((y:Int)<(x:Int))=false:=ag (by omega)
     simp only [SS,DD,Nat.reduceAdd,d0,ej,cI hx,cI hy,aS,bg,d1]
     refine ⟨by simp [aB], ?_⟩
     simp only [SS,Nat.reduceAdd,d2,ew2]
     refine ⟨by simp [aB],(j-1,_),⟨by simp only [];omega, ?_⟩,by simp only [];omega,Wk.slots (by simp [Fg]) (Nat.le_refl _)⟩
     simp only []
     rw [List.drop_eq_getElem_cons hjm,List.drop_eq_getElem_cons Ls,Sj]
     obtain ⟨_,h1'⟩:=List.getElem?_eq_some_iff.1 hx
     obtain ⟨_,Ns⟩:=List.getElem?_eq_some_iff.1 hy
     rw [h1',Ns,h1]
   . have e:de m n=1:=by
       have:=ye (aH n) (aH m) hl.symm hy hx Sj.symm h1
       rw [aE,aE] at this
       unfold de;rw [rD (by omega)]
     have d1:decide ((x:Int)<(y:Int))=false:=ag (by omega)
     have d2:decide ((y:Int)<(x:Int))=true:=ai (by omega)
     rw [e]
     simp only [SS,DD,Nat.reduceAdd,d0,ej,cI hx,cI hy,aS,bg,d1]
     refine ⟨by simp [aB], ?_⟩
     simp only [SS,d2]
     refine ⟨by simp [aB], ?_⟩
     exact ao▸aj rfl (af.int _ _)
end
end Go.VL
end

section
set_option linter.unusedVariables false
namespace Go.VL
theorem rG {x y c:Nat} (hx:x<ak) (hy:y<ak) (hc:c<=1):∃ w c':Nat,w<ak/\c'<=1/\w+y+c=x+ak*c' /\
   (∃ d:Nat,IntKind.u64.wrap (IntKind.u64.wrap (IntKind.u64.wrap ((x:Int)+4294967296)-(y:Int))-(c:Int))=(d:Int)/\IntKind.u32.wrap (d:Int)=(w:Int)/\IntKind.u64.wrap (1-((d/ak:Nat):Int))=(c':Int)):=by
 have h1:IntKind.u64.wrap ((x:Int)+4294967296)=((x+4294967296:Nat):Int):=by rw [IntKind.wrap_u64];unfold ak at *;omega
 have h2:IntKind.u64.wrap (((x+4294967296:Nat):Int)-(y:Int))=((x+4294967296-y:Nat):Int):=by rw [IntKind.wrap_u64];unfold ak at *;omega
 have h3:IntKind.u64.wrap (((x+4294967296-y:Nat):Int)-(c:Int))=((x+4294967296-y-c:Nat):Int):=by rw [IntKind.wrap_u64];unfold ak at *;omega
 rw [h1,h2,h3]
 unfold ak at *
 by_cases h:y+c<=x
 . refine ⟨x-y-c,0,by omega,by omega,by omega,_,rfl, ?_, ?_⟩
   . rw [IntKind.wrap_u32];omega
   . rw [IntKind.wrap_u64];omega
 . refine ⟨x+4294967296-y-c,1,by omega,by omega,by omega,_,rfl, ?_, ?_⟩
   . rw [IntKind.wrap_u32];omega
   . rw [IntKind.wrap_u64];omega
section
variable {P:Program} {G:Nat->Option (List AV)}
set_option maxHeartbeats 1000000 in
theorem Py {f ft:FuncId} (h:Has P f (iy ft)) (ht:fY P G ft) (m n:Nat) (hm:aa m<=1000000) (hn:aa n<=1000000):VP P G f [W m,W n] (W (m+n)):=by
 refine VP.has h ?_
 simp only [iy,SS,Nat.reduceAdd,aQ]
 by_cases Pz:(¬ aa m<aa n)
 . have d0:decide ((aa m:Int)<(aa n:Int))=false:=by first | exact ai (by omega) | exact ag (by omega)
   have hL:=iG (aa m) 1 (by omega)
   have hL':IntKind.i64.wrap ((aa m:Int)+1)=((aa m+1:Nat):Int):=hL
   have qq:∀ p:Id,g8 p 1 4 (.int .u32 0) (.int .i64 ((aa m+1:Nat):Int)) (.int .i64 ((aa m+1:Nat):Int))=some { val := .osl p 1 0 (aa m+1) false,up:=[(p,some ⟨us (List.replicate (aa m+1) 0),1,false⟩)] }:=fun p=>iD (by omega)
   simp only [SS,Nat.reduceAdd,aQ,d0,hL',qq,bf]
   refine VW.dV (α := Nat × Nat × List Nat × Nat) (fun x=>⟨[W m,W n, .top, .top, .top, .osl [9] 1 0 (aa m+1) false, .int .u64 (x.2.2.2:Int), .int .i64 (x.1:Int)]++List.replicate 50 .top,
     ae.put (fun _=>none) [9] (some ⟨us (x.2.2.1++zs (aa m+1-x.1)),1,false⟩),x.2.1⟩)
     (fun x=>x.1<=aa m/\x.2.2.1.length=x.1/\Wd x.2.2.1/\x.2.2.2<=1/\val x.2.2.1+ak ^ x.1*x.2.2.2=val ((digits m).take x.1)+val ((digits n).take x.1)) (fun x=>aa m-x.1) (0,1000,[],0) ?_ ?_ ?_
   . exact Wk.slots (by simp [Fg,List.replicate]) (by simp only [];omega)
   . exact ⟨Nat.zero_le _,rfl,by intro w hw;simp at hw,Nat.zero_le _,by simp [val]⟩
   rintro ⟨i,nn,o,c⟩ ⟨hi,ho,hwd,hc,hv⟩
   simp only [] at hi ho hwd hc hv
   have nQ:i<aa m->decide ((i:Int)<(aa m:Int))=true:=fun h=>ai (by omega)
   have pw : ¬ i<aa m->decide ((i:Int)<(aa m:Int))=false:=fun h=>ag (by omega)
   have FI:i<aa n->decide ((i:Int)<(aa n:Int))=true:=fun h=>ai (by omega)
   have FJ : ¬ i<aa n->decide ((i:Int)<(aa n:Int))=false:=fun h=>ag (by omega)
   have cL : ¬ i<aa m->i=aa m:=by omega
   have lZ:=aF i (by omega)
   have gW:i<aa m->i+1<=aa m/\aa m-(i+1)<aa m-i:=fun h=>by omega
   have kC:=bI (q:=[9]) (t:=false) (show i<aa m+1 by omega)
   obtain ⟨k,hk⟩:∃ k,aa m+1-i=k+1:=⟨aa m-i,by omega⟩
   have wU:aa m+1-(i+1)=k:=by omega
   have mD:i<(o++0::zs k).length:=by simp;omega
   by_cases hlt:i<aa m
   . obtain ⟨x,hx⟩:∃ x,(digits m)[i]? = some x:=⟨_,List.getElem?_eq_getElem hlt⟩
     have mE:=aH m x (List.mem_of_getElem? hx)
     have f1:=aW x mE
     have f2:=kj c x (by unfold ak at mE;omega)
     by_cases hb:i<aa n
     . obtain ⟨y,hy⟩:∃ y,(digits n)[i]? = some y:=⟨_,List.getElem?_eq_getElem hb⟩
       have wC:=aH n y (List.mem_of_getElem? hy)
       have f3:=aW y wC
       have f4:=kj (c+x) y (by unfold ak at mE wC;omega)
       have hst:=jz (x:=x) (y:=y) ho hv rfl
       have hc':(c+x+y)/ak<=1:=by unfold ak at *;omega
       simp only [SS,Nat.reduceAdd,aQ,nQ hlt,cI hx,aS,bg,f1,f2,FI hb,cI hy,f3,f4,kC,o7,hk,ga]
       rw [bC (o:=o++0::zs k) (by simp [ae.put]) mD,dS _ _ _ _ ho]
       simp only [SS,Nat.reduceAdd,ki,lZ]
       refine ⟨(i+1,_,o++[(c+x+y)%ak],(c+x+y)/ak),⟨(gW hlt).1,by simp [ho],lf hwd _,hc', ?_⟩,(gW hlt).2,Wk.forget (by simp [Fg]) (fun j => ?_) (Nat.le_refl _)⟩
       . show val (o++[(c+x+y)%ak])+_=val ((digits m).take (i+1))+val ((digits n).take (i+1))
         rw [aA hx,aA hy];exact hst
       . simp only [ae.put,wU];split<;>simp
     . have hst:=jz (x:=x) (y:=0) ho hv rfl
       rw [Nat.mul_zero,Nat.add_zero,Nat.add_zero] at hst
       have hc':(c+x)/ak<=1:=by unfold ak at *;omega
       simp only [SS,Nat.reduceAdd,aQ,nQ hlt,cI hx,aS,bg,f1,f2,FJ hb,kC,o7,hk,ga]
       rw [bC (o:=o++0::zs k) (by simp [ae.put]) mD,dS _ _ _ _ ho]
       simp only [SS,Nat.reduceAdd,ki,lZ]
       refine ⟨(i+1,_,o++[(c+x)%ak],(c+x)/ak),⟨(gW hlt).1,by simp [ho],lf hwd _,hc', ?_⟩,(gW hlt).2,Wk.forget (by simp [Fg]) (fun j => ?_) (Nat.le_refl _)⟩
       . show val (o++[(c+x)%ak])+_=val ((digits m).take (i+1))+val ((digits n).take (i+1))
         rw [aA hx,gr (show (digits n).length<=i from by show aa n<=i;omega)];exact hst
       . simp only [ae.put,wU];split<;>simp
   . have kJ:=cL hlt
     have hcB:c<ak:=by unfold ak;omega
     have f5:IntKind.u32.wrap (c:Int)=(c:Int):=by rw [o7,Nat.mod_eq_of_lt hcB]
     have Ya:=bI (q:=[9]) (t:=false) (show aa m<aa m+1 by omega)
     have Hk:k=0:=by omega
     have El:aa m<(o++0::zs k).length:=by simp;omega
     have e1:(digits m).take (aa m)=digits m:=List.take_of_length_le (Nat.le_refl _)
     have e2:(digits n).take (aa m)=digits n:=List.take_of_length_le (by show aa n<=aa m;omega)
     have s7:val (o++[c])=m+n:=by
       rw [bq,ho];simp only [val,Nat.mul_zero,Nat.add_zero]
       rw [hv,kJ,e1,e2,aE,aE]
       all_goals omega
     have Td:Wd (o++[c]):=cz hwd (by intro z hz;simp at hz;subst hz;exact hcB)
     have qg:aa m+1=(o++[c]).length:=by simp [ho,kJ]
     have rz:=ht (o++[c]) Td (by rw [<- qg];omega)
     rw [s7] at rz
     simp only [SS,Nat.reduceAdd,aQ,pw hlt,f5,Ya,hk,ga]
     rw [bC (o:=o++0::zs k) (by simp [ae.put]) El,dS _ _ _ _ (ho.trans kJ),Hk,pM]
     simp only [SS,Nat.reduceAdd]
     refine cB [([9],⟨us (o++[c]),1,false⟩)] rz (ah.cons (fk qg) ah.nil) (by simp [ae.put]) ?_
     simp only [SS,Nat.reduceAdd]
     exact ao▸aj rfl (aM _)
 by_cases Tp:(aa m<aa n)
 . have d0:decide ((aa m:Int)<(aa n:Int))=true:=by first | exact ai (by omega) | exact ag (by omega)
   have hL:=iG (aa n) 1 (by omega)
   have hL':IntKind.i64.wrap ((aa n:Int)+1)=((aa n+1:Nat):Int):=hL
   have qq:∀ p:Id,g8 p 1 4 (.int .u32 0) (.int .i64 ((aa n+1:Nat):Int)) (.int .i64 ((aa n+1:Nat):Int))=some { val := .osl p 1 0 (aa n+1) false,up:=[(p,some ⟨us (List.replicate (aa n+1) 0),1,false⟩)] }:=fun p=>iD (by omega)
   simp only [SS,Nat.reduceAdd,aQ,d0,hL',qq,bf]
   refine VW.dV (α := Nat × Nat × List Nat × Nat) (fun x=>⟨[W n,W m, .top, .top, .top, .osl [13] 1 0 (aa n+1) false, .int .u64 (x.2.2.2:Int), .int .i64 (x.1:Int)]++List.replicate 50 .top,
     ae.put (fun _=>none) [13] (some ⟨us (x.2.2.1++zs (aa n+1-x.1)),1,false⟩),x.2.1⟩)
     (fun x=>x.1<=aa n/\x.2.2.1.length=x.1/\Wd x.2.2.1/\x.2.2.2<=1/\val x.2.2.1+ak ^ x.1*x.2.2.2=val ((digits n).take x.1)+val ((digits m).take x.1)) (fun x=>aa n-x.1) (0,1000,[],0) ?_ ?_ ?_
   . exact Wk.slots (by simp [Fg,List.replicate]) (by simp only [];omega)
   . exact ⟨Nat.zero_le _,rfl,by intro w hw;simp at hw,Nat.zero_le _,by simp [val]⟩
   rintro ⟨i,nn,o,c⟩ ⟨hi,ho,hwd,hc,hv⟩
   simp only [] at hi ho hwd hc hv
   have nQ:i<aa n->decide ((i:Int)<(aa n:Int))=true:=fun h=>ai (by omega)
   have pw : ¬ i<aa n->decide ((i:Int)<(aa n:Int))=false:=fun h=>ag (by omega)
   have FI:i<aa m->decide ((i:Int)<(aa m:Int))=true:=fun h=>ai (by omega)
   have FJ : ¬ i<aa m->decide ((i:Int)<(aa m:Int))=false:=fun h=>ag (by omega)
   have cL : ¬ i<aa n->i=aa n:=by omega
   have lZ:=aF i (by omega)
   have gW:i<aa n->i+1<=aa n/\aa n-(i+1)<aa n-i:=fun h=>by omega
   have kC:=bI (q:=[13]) (t:=false) (show i<aa n+1 by omega)
   obtain ⟨k,hk⟩:∃ k,aa n+1-i=k+1:=⟨aa n-i,by omega⟩
   have wU:aa n+1-(i+1)=k:=by omega
   have mD:i<(o++0::zs k).length:=by simp;omega
   by_cases hlt:i<aa n
   . obtain ⟨x,hx⟩:∃ x,(digits n)[i]? = some x:=⟨_,List.getElem?_eq_getElem hlt⟩
     have mE:=aH n x (List.mem_of_getElem? hx)
     have f1:=aW x mE
     have f2:=kj c x (by unfold ak at mE;omega)
     by_cases hb:i<aa m
     . obtain ⟨y,hy⟩:∃ y,(digits m)[i]? = some y:=⟨_,List.getElem?_eq_getElem hb⟩
       have wC:=aH m y (List.mem_of_getElem? hy)
       have f3:=aW y wC
       have f4:=kj (c+x) y (by unfold ak at mE wC;omega)
       have hst:=jz (x:=x) (y:=y) ho hv rfl
       have hc':(c+x+y)/ak<=1:=by unfold ak at *;omega
       simp only [SS,Nat.reduceAdd,aQ,nQ hlt,cI hx,aS,bg,f1,f2,FI hb,cI hy,f3,f4,kC,o7,hk,ga]
       rw [bC (o:=o++0::zs k) (by simp [ae.put]) mD,dS _ _ _ _ ho]
       simp only [SS,Nat.reduceAdd,ki,lZ]
       refine ⟨(i+1,_,o++[(c+x+y)%ak],(c+x+y)/ak),⟨(gW hlt).1,by simp [ho],lf hwd _,hc', ?_⟩,(gW hlt).2,Wk.forget (by simp [Fg]) (fun j => ?_) (Nat.le_refl _)⟩
       . show val (o++[(c+x+y)%ak])+_=val ((digits n).take (i+1))+val ((digits m).take (i+1))
         rw [aA hx,aA hy];exact hst
       . simp only [ae.put,wU];split<;>simp
     . have hst:=jz (x:=x) (y:=0) ho hv rfl
       rw [Nat.mul_zero,Nat.add_zero,Nat.add_zero] at hst
       have hc':(c+x)/ak<=1:=by unfold ak at *;omega
       simp only [SS,Nat.reduceAdd,aQ,nQ hlt,cI hx,aS,bg,f1,f2,FJ hb,kC,o7,hk,ga]
       rw [bC (o:=o++0::zs k) (by simp [ae.put]) mD,dS _ _ _ _ ho]
       simp only [SS,Nat.reduceAdd,ki,lZ]
       refine ⟨(i+1,_,o++[(c+x)%ak],(c+x)/ak),⟨(gW hlt).1,by simp [ho],lf hwd _,hc', ?_⟩,(gW hlt).2,Wk.forget (by simp [Fg]) (fun j => ?_) (Nat.le_refl _)⟩
       . show val (o++[(c+x)%ak])+_=val ((digits n).take (i+1))+val ((digits m).take (i+1))
         rw [aA hx,gr (show (digits m).length<=i from by show aa m<=i;omega)];exact hst
       . simp only [ae.put,wU];split<;>simp
   . have kJ:=cL hlt
     have hcB:c<ak:=by unfold ak;omega
     have f5:IntKind.u32.wrap (c:Int)=(c:Int):=by rw [o7,Nat.mod_eq_of_lt hcB]
     have Ya:=bI (q:=[13]) (t:=false) (show aa n<aa n+1 by omega)
     have Hk:k=0:=by omega
     have El:aa n<(o++0::zs k).length:=by simp;omega
     have e1:(digits n).take (aa n)=digits n:=List.take_of_length_le (Nat.le_refl _)
     have e2:(digits m).take (aa n)=digits m:=List.take_of_length_le (by show aa m<=aa n;omega)
     have s7:val (o++[c])=m+n:=by
       rw [bq,ho];simp only [val,Nat.mul_zero,Nat.add_zero]
       rw [hv,kJ,e1,e2,aE,aE]
       all_goals omega
     have Td:Wd (o++[c]):=cz hwd (by intro z hz;simp at hz;subst hz;exact hcB)
     have qg:aa n+1=(o++[c]).length:=by simp [ho,kJ]
     have rz:=ht (o++[c]) Td (by rw [<- qg];omega)
     rw [s7] at rz
     simp only [SS,Nat.reduceAdd,aQ,pw hlt,f5,Ya,hk,ga]
     rw [bC (o:=o++0::zs k) (by simp [ae.put]) El,dS _ _ _ _ (ho.trans kJ),Hk,pM]
     simp only [SS,Nat.reduceAdd]
     refine cB [([13],⟨us (o++[c]),1,false⟩)] rz (ah.cons (fk qg) ah.nil) (by simp [ae.put]) ?_
     simp only [SS,Nat.reduceAdd]
     exact ao▸aj rfl (aM _)
 exact absurd Tp Pz
set_option maxHeartbeats 1000000 in
theorem B7 {f ft:FuncId} (h:Has P f (df ft)) (ht:fY P G ft) (m n:Nat) (x3:n<=m) (hm:aa m<=1000000):VP P G f [W m,W n] (W (m-n)):=by
 refine VP.has h ?_
 have hwn:=aP x3
 have qq:∀ p:Id,g8 p 1 4 (.int .u32 0) (.int .i64 (aa m:Int)) (.int .i64 (aa m:Int))=some { val := .osl p 1 0 (aa m) false,up:=[(p,some ⟨us (List.replicate (aa m) 0),1,false⟩)] }:=fun p=>iD (by omega)
 simp only [df,SS,Nat.reduceAdd,aQ,qq,bf]
 refine VW.dV (α := Nat × Nat × List Nat × Nat) (fun x=>⟨[W m,W n, .top, .top, .top, .osl [3] 1 0 (aa m) false, .int .u64 (x.2.2.2:Int), .int .i64 (x.1:Int)]++List.replicate 40 .top,
   ae.put (fun _=>none) [3] (some ⟨us (x.2.2.1++zs (aa m-x.1)),1,false⟩),x.2.1⟩)
   (fun x=>x.1<=aa m/\x.2.2.1.length=x.1/\Wd x.2.2.1/\x.2.2.2<=1/\val x.2.2.1+val ((digits n).take x.1)=val ((digits m).take x.1)+ak ^ x.1*x.2.2.2) (fun x=>aa m-x.1) (0,1000,[],0) ?_ ?_ ?_
 . exact Wk.slots (by simp [Fg,List.replicate]) (by simp only [];omega)
 . exact ⟨Nat.zero_le _,rfl,by intro w hw;simp at hw,Nat.zero_le _,by simp [val]⟩
 rintro ⟨i,nn,o,c⟩ ⟨hi,ho,hwd,hc,hv⟩
 simp only [] at hi ho hwd hc hv
 have nQ:i<aa m->decide ((i:Int)<(aa m:Int))=true:=fun h=>ai (by omega)
 have pw : ¬ i<aa m->decide ((i:Int)<(aa m:Int))=false:=fun h=>ag (by omega)
 have FI:i<aa n->decide ((i:Int)<(aa n:Int))=true:=fun h=>ai (by omega)
 have FJ : ¬ i<aa n->decide ((i:Int)<(aa n:Int))=false:=fun h=>ag (by omega)
 have cL : ¬ i<aa m->i=aa m:=by omega
 have lZ:=aF i (by omega)
 have gW:i<aa m->i+1<=aa m/\aa m-(i+1)<aa m-i:=fun h=>by omega
 by_cases hlt:i<aa m
 . obtain ⟨x,hx⟩:∃ x,(digits m)[i]? = some x:=⟨_,List.getElem?_eq_getElem hlt⟩
   have mE:=aH m x (List.mem_of_getElem? hx)
   have f1:=aW x mE
   have kC:=bI (q:=[3]) (t:=false) hlt
   obtain ⟨k,hk⟩:∃ k,aa m-i=k+1:=⟨aa m-i-1,by omega⟩
   have wU:aa m-(i+1)=k:=by omega
   have mD:i<(o++0::zs k).length:=by simp;omega
   by_cases hb:i<aa n
   . obtain ⟨y,hy⟩:∃ y,(digits n)[i]? = some y:=⟨_,List.getElem?_eq_getElem hb⟩
     have wC:=aH n y (List.mem_of_getElem? hy)
     have f3:=aW y wC
     obtain ⟨w,c',h1,h2,h3,d,h4,h5,h6⟩:=rG mE wC hc
     have hst:=jV (va:=val ((digits m).take i)) (vb:=val ((digits n).take i)) (x:=x) (y:=y) (c:=c) (w:=w) (c':=c') ho (by rw [hv];omega) h3
     simp only [SS,Nat.reduceAdd,aQ,nQ hlt,cI hx,aS,bg,f1,FI hb,cI hy,f3,h4,h5,kC,hk,ga]
     rw [bC (o:=o++0::zs k) (by simp [ae.put]) mD,dS _ _ _ _ ho]
     simp only [SS,Nat.reduceAdd,ki,h6,lZ]
     refine ⟨(i+1,_,o++[w],c'),⟨(gW hlt).1,by simp [ho],cz hwd (by intro z hz;simp at hz;subst hz;exact h1),h2, ?_⟩,(gW hlt).2,Wk.forget (by simp [Fg]) (fun j => ?_) (Nat.le_refl _)⟩
     . show val (o++[w])+val ((digits n).take (i+1))=val ((digits m).take (i+1))+_
       rw [aA hx,aA hy];exact hst
     . simp only [ae.put,wU];split<;>simp
   . obtain ⟨w,c',h1,h2,h3,d,h4,h5,h6⟩:=rG (y:=0) mE bx hc
     have h4':IntKind.u64.wrap (IntKind.u64.wrap (IntKind.u64.wrap ((x:Int)+4294967296)-0)-(c:Int))=(d:Int):=h4
     have hst:=jV (va:=val ((digits m).take i)) (vb:=val ((digits n).take i)) (x:=x) (y:=0) (c:=c) (w:=w) (c':=c') ho (by rw [hv];omega) h3
     rw [Nat.mul_zero,Nat.add_zero] at hst
     simp only [SS,Nat.reduceAdd,aQ,nQ hlt,cI hx,aS,bg,f1,FJ hb,h4',h5,kC,hk,ga]
     rw [bC (o:=o++0::zs k) (by simp [ae.put]) mD,dS _ _ _ _ ho]
     simp only [SS,Nat.reduceAdd,ki,h6,lZ]
     refine ⟨(i+1,_,o++[w],c'),⟨(gW hlt).1,by simp [ho],cz hwd (by intro z hz;simp at hz;subst hz;exact h1),h2, ?_⟩,(gW hlt).2,Wk.forget (by simp [Fg]) (fun j => ?_) (Nat.le_refl _)⟩
     . show val (o++[w])+val ((digits n).take (i+1))=val ((digits m).take (i+1))+_
       rw [aA hx,gr (show (digits n).length<=i from by show aa n<=i;omega)];exact hst
     . simp only [ae.put,wU];split<;>simp
 . have kJ:=cL hlt
   have e1:(digits m).take (aa m)=digits m:=List.take_of_length_le (Nat.le_refl _)
   have e2:(digits n).take (aa m)=digits n:=List.take_of_length_le (by show aa n<=aa m;omega)
   have s7:val o=m-n:=by
     rw [kJ,e1,e2,aE,aE] at hv
     have qC:=di hwd
     rw [ho,kJ] at qC
     rcases Nat.eq_zero_or_pos c with h0 | h0
     . subst h0;omega
     . have:c=1:=by omega
       subst this;have:=b7 m;omega
   have qg:aa m=o.length:=by omega
   have e3:zs (aa m-i)=[]:=by rw [kJ,Nat.sub_self];rfl
   have rz:=ht o hwd (by omega)
   rw [s7] at rz
   simp only [SS,Nat.reduceAdd,aQ,pw hlt,e3]
   refine cB [([3],⟨us o,1,false⟩)] rz (ah.cons (fk qg) ah.nil) (by simp [ae.put]) ?_
   simp only [SS,Nat.reduceAdd]
   exact ao▸aj rfl (aM _)
end
end Go.VL
end

section
set_option linter.unusedVariables false
namespace Go.VL
section
variable {P:Program} {G:Nat->Option (List AV)}
set_option maxHeartbeats 1000000 in
theorem zH {f ft:FuncId} (h:Has P f (cJ ft)) (ht:fY P G ft) (m:Nat) {ws:List Nat} (HO:Wd ws) (hm:aa m<=1000000) (hn:ws.length<=1000000):VP P G f [W m, .sl 1 (us ws)] (W (m*val ws)):=by
 refine VP.has h ?_
 have qq:∀ p:Id,g8 p 1 4 (.int .u32 0) (.int .i64 ((aa m+ws.length:Nat):Int)) (.int .i64 ((aa m+ws.length:Nat):Int))=some { val := .osl p 1 0 (aa m+ws.length) false,up:=[(p,some ⟨us (List.replicate (aa m+ws.length) 0),1,false⟩)] }:=fun p=>iD (by omega)
 have hL:=iG (aa m) (ws.length) (by omega)
 simp only [cJ,SS,Nat.reduceAdd,aQ,dD,hL,qq,bf]
 refine VW.dV (α := Nat × Nat × List Nat) (fun x=>⟨[W m, .sl 1 (us ws), .top, .top, .top, .osl [6] 1 0 (aa m+ws.length) false, .int .i64 (x.1:Int)]++List.replicate 60 .top,
   ae.put (fun _=>none) [6] (some ⟨us x.2.2,1,false⟩),x.2.1⟩)
   (fun x=>x.1<=aa m/\x.2.2.length=aa m+ws.length/\Wd x.2.2/\val x.2.2=val ((digits m).take x.1)*val ws) (fun x=>aa m-x.1) (0,1000,List.replicate (aa m+ws.length) 0) ?_ ?_ ?_
 . exact Wk.slots (by simp [Fg,List.replicate]) (by simp only [];omega)
 . exact ⟨Nat.zero_le _,List.length_replicate ..,qV _,by simp only [];rw [lY (fun w hw=>List.eq_of_mem_replicate hw)];simp [val]⟩
 rintro ⟨i,nn,o⟩ ⟨hi,ho,hwd,hv⟩
 simp only [] at hi ho hwd hv
 have nQ:i<aa m->decide ((i:Int)<(aa m:Int))=true:=fun h=>ai (by omega)
 have pw : ¬ i<aa m->decide ((i:Int)<(aa m:Int))=false:=fun h=>ag (by omega)
 have cL : ¬ i<aa m->i=aa m:=by omega
 have lZ:=aF i (by omega)
 have gW:i<aa m->i+1<=aa m/\aa m-(i+1)<aa m-i:=fun h=>by omega
 have fP:=iG i (ws.length) (by omega)
 have HU:i<aa m->i+ws.length<aa m+ws.length:=fun h=>by omega
 by_cases hlt:i<aa m
 . obtain ⟨a,ha⟩:∃ a,(digits m)[i]? = some a:=⟨_,List.getElem?_eq_getElem hlt⟩
   have mN:=aH m a (List.mem_of_getElem? ha)
   have f1:=aW a mN
   have Nv:o[i+ws.length]? = some 0:=by
     obtain ⟨y,hy⟩:∃ y,o[i+ws.length]? = some y:=⟨_,List.getElem?_eq_getElem (by rw [ho];exact HU hlt)⟩
     have e:=tq (k:=i+ws.length) (by
       rw [hv,Nat.pow_add]
       have h2:val ((digits m).take i)<ak ^ i:=by
         have:=di (gD (aH m) i)
         rwa [List.length_take,Nat.min_eq_left (show i<=(digits m).length from Nat.le_of_lt hlt)] at this
       exact Nat.mul_lt_mul'' h2 (di HO)) hy
     rw [e] at hy;exact hy
   simp only [SS,Nat.reduceAdd,aQ,nQ hlt,bf]
   refine VW.dV (α := Nat × Nat × List Nat × Nat) (fun x=>⟨[W m, .sl 1 (us ws), .top, .top, .top, .osl [6] 1 0 (aa m+ws.length) false, .int .i64 (i:Int), .int .u64 (x.2.2.2:Int), .int .i64 (x.1:Int)]++List.replicate 58 .top,
     ae.put (fun _=>none) [6] (some ⟨us x.2.2.1,1,false⟩),x.2.1⟩)
     (fun x=>x.1<=ws.length/\x.2.2.1.length=aa m+ws.length/\Wd x.2.2.1/\x.2.2.2<ak/\x.2.2.1[i+ws.length]? = some 0/\val x.2.2.1+ak ^ (i+x.1)*x.2.2.2=val o+ak ^ i*(a*val (ws.take x.1))) (fun x=>ws.length-x.1) (0,nn+1000,o,0) ?_ ?_ ?_
   . exact Wk.slots (by simp [Fg,List.replicate]) (by simp only [];omega)
   . exact ⟨Nat.zero_le _,ho,hwd,bx,Nv,by simp [val]⟩
   rintro ⟨j,mm,o',c⟩ ⟨hj,AZ,tu,hc,hz,hv'⟩
   simp only [] at hj AZ tu hc hz hv'
   have FI:j<ws.length->decide ((j:Int)<(ws.length:Int))=true:=fun h=>ai (by omega)
   have FJ : ¬ j<ws.length->decide ((j:Int)<(ws.length:Int))=false:=fun h=>ag (by omega)
   have Nr : ¬ j<ws.length->j=ws.length:=by omega
   have Ka:=aF j (by omega)
   have XA:j<ws.length->j+1<=ws.length/\ws.length-(j+1)<ws.length-j:=fun h=>by omega
   have LM:=iG i j (by omega)
   have HV:j<ws.length->i+j<aa m+ws.length:=fun h=>by omega
   have hne:j<ws.length->i+j≠i+ws.length:=fun h=>by omega
   by_cases tW:j<ws.length
   . obtain ⟨b,hb⟩:∃ b,ws[j]? = some b:=⟨_,List.getElem?_eq_getElem tW⟩
     have xy:=HO b (List.mem_of_getElem? hb)
     have f2:=aW b xy
     obtain ⟨z,O7⟩:∃ z,o'[i+j]? = some z:=⟨_,List.getElem?_eq_getElem (by rw [AZ];exact HV tW)⟩
     have Kb:=tu z (List.mem_of_getElem? O7)
     have f3:=aW z Kb
     have f4:=FH a b mN xy
     have hle:=Dd mN xy
     have f5:=kj c z (by unfold ak at Kb hc;omega)
     have f6:=kj (c+z) (a*b) (by unfold ak at Kb hc;omega)
     have hc':(c+z+a*b)/ak<ak:=by unfold ak at Kb hc ⊢;omega
     have kC:=bI (q:=[6]) (t:=false) (HV tW)
     have hst:=wB (x:=a) (y:=b) (s:=c+z+a*b) O7 hv' (by omega)
     simp only [SS,DD,Nat.reduceAdd,dD,FI tW,LM,kC]
     rw [fZ (o:=o') (b:=false) (by simp [ae.put]) O7]
     simp only [SS,DD,Nat.reduceAdd,f3,f5,cI ha,eO rfl (mw hb),aS,bg,f1,f2,f4,f6]
     refine ⟨by simp [aB], ?_⟩
     simp only [SS,Nat.reduceAdd,o7,LM,kC]
     rw [bC (o:=o') (by simp [ae.put]) (by rw [AZ];exact HV tW)]
     simp only [SS,Nat.reduceAdd,ki,Ka]
     refine ⟨(j+1,_,o'.set (i+j) ((c+z+a*b)%ak),(c+z+a*b)/ak),⟨(XA tW).1,by simp [AZ],tp tu (Nat.mod_lt _ bx),hc', ?_, ?_⟩,(XA tW).2,Wk.forget (by simp [Fg]) (fun j => ?_) (Nat.le_refl _)⟩
     . rw [List.getElem?_set_ne (hne tW)];exact hz
     . show _=val o+ak ^ i*(a*val (ws.take (j+1)))
       rw [aA hb];exact hst
     . simp only [ae.put];split<;>simp
   . have XH:=Nr tW
     have kC:=bI (q:=[6]) (t:=false) (HU hlt)
     have f7:IntKind.u32.wrap (c:Int)=(c:Int):=by rw [o7,Nat.mod_eq_of_lt hc]
     have hval:val (o'.set (i+ws.length) c)=val ((digits m).take (i+1))*val ws:=by
       have e:=rE (x:=c) hz
       have e2:ws.take ws.length=ws:=List.take_of_length_le (Nat.le_refl _)
       rw [XH,e2,hv] at hv'
       rw [aA ha,Nat.add_mul]
       have e3:ak ^ i*a*val ws=ak ^ i*(a*val ws):=Nat.mul_assoc _ _ _
       omega
     simp only [SS,Nat.reduceAdd,dD,FJ tW,fP,f7,kC]
     rw [bC (o:=o') (by simp [ae.put]) (by rw [AZ];exact HU hlt)]
     simp only [SS,Nat.reduceAdd,lZ]
     refine ⟨(i+1,_,o'.set (i+ws.length) c),⟨(gW hlt).1,by simp [AZ],tp tu hc,hval⟩,(gW hlt).2,Wk.forget (by simp [Fg]) (fun j => ?_) (Nat.le_refl _)⟩
     simp only [ae.put];split<;>simp
 . have kJ:=cL hlt
   have e1:(digits m).take (aa m)=digits m:=List.take_of_length_le (Nat.le_refl _)
   have s7:val o=m*val ws:=by rw [hv,kJ,e1,aE]
   have rz:=ht o hwd (by rw [ho];omega)
   rw [s7] at rz
   simp only [SS,Nat.reduceAdd,aQ,pw hlt]
   refine cB [([6],⟨us o,1,false⟩)] rz (ah.cons (fk ho.symm) ah.nil) (by simp [ae.put]) ?_
   simp only [SS,Nat.reduceAdd]
   exact ao▸aj rfl (aM _)
theorem Mj {f ft:FuncId} (h:Has P f (cJ ft)) (ht:fY P G ft) (m n:Nat) (hm:aa m<=1000000) (hn:aa n<=1000000):VP P G f [W m,W n] (W (m*n)):=by
 have:=zH (G:=G) h ht m (aH n) hm hn
 rw [aE] at this;exact this
theorem Yb {f ft:FuncId} (h:Has P f (jn ft)) (ht:fY P G ft) (m w:Nat) (hm:aa m<=1000000) (hw:w<ak) (x6:w≠0) :
   VP P G f [W m, .int .u32 (w:Int)] (.tup [W (m/w), .int .u32 ((m%w:Nat):Int)]):=by
 refine VP.has h ?_
 have qq:∀ p:Id,g8 p 1 4 (.int .u32 0) (.int .i64 (aa m:Int)) (.int .i64 (aa m:Int))=some { val := .osl p 1 0 (aa m) false,up:=[(p,some ⟨us (List.replicate (aa m) 0),1,false⟩)] }:=fun p=>iD (by omega)
 have hwL:IntKind.i64.wrap ((aa m:Int)-1)=(aa m:Int)-1:=by rw [IntKind.wrap_i64];omega
 have f0:=aW w hw
 have hwz:((w:Nat):Int)≠0:=by omega
 simp only [jn,SS,Nat.reduceAdd,aQ,qq,hwL,bf]
 refine VW.dV (α := Nat × Nat × List Nat × Nat) (fun x=>⟨[W m, .int .u32 (w:Int), .top, .top, .top, .top, .osl [4] 1 0 (aa m) false, .int .u64 (x.2.2.2:Int), .int .i64 ((x.1:Int)-1)]++List.replicate 34 .top,
   ae.put (fun _=>none) [4] (some ⟨us (zs x.1++x.2.2.1),1,false⟩),x.2.1⟩)
   (fun x=>x.1+x.2.2.1.length=aa m/\Wd x.2.2.1/\x.2.2.2<w/\val ((digits m).drop x.1)=val x.2.2.1*w+x.2.2.2) (fun x=>x.1) (aa m,1000,[],0) ?_ ?_ ?_
 . rw [List.append_nil];exact Wk.slots (by simp [Fg,List.replicate]) (by simp only [];omega)
 . refine ⟨by simp,by intro w hw;simp at hw,Nat.pos_of_ne_zero x6, ?_⟩
   show val ((digits m).drop (aa m))=_
   rw [List.drop_eq_nil_of_le (show (digits m).length<=aa m from Nat.le_refl _)];simp [val]
 rintro ⟨k,nn,q,r⟩ ⟨hk,hwd,hr,hv⟩
 simp only [] at hk hwd hr hv
 by_cases h0:k=0
 . subst h0
   have d0:decide ((0:Int)<=((0:Nat):Int)-1)=false:=by decide
   have e:m/w=val q/\m%w=r:=by
     rw [List.drop_zero,aE] at hv
     refine (Nat.div_mod_unique (Nat.pos_of_ne_zero x6)).2 ⟨?_,hr⟩
     rw [hv,Nat.mul_comm w];omega
   have rz:=ht q hwd (by omega)
   rw [<- e.1] at rz
   have f9:IntKind.u32.wrap (r:Int)=(r:Int):=by rw [o7,Nat.mod_eq_of_lt (by omega)]
   have hq:aa m=q.length:=by omega
   simp only [SS,Nat.reduceAdd,d0,pM]
   refine cB [([4],⟨us q,1,false⟩)] rz (ah.cons (fk hq) ah.nil) (by simp [ae.put]) ?_
   simp only [SS,Nat.reduceAdd,f9]
   rw [e.2]
   exact ao▸aj rfl (af.tup (by intro c hc;simp at hc;rcases hc with rfl | rfl;exact aM _;exact af.int _ _))
 . obtain ⟨j,rfl⟩:∃ j,k=j+1:=⟨k-1,by omega⟩
   have d0:decide ((0:Int)<=(j:Int))=true:=ai (by omega)
   have hj:((j+1:Nat):Int)-1=(j:Int):=by omega
   have qu:j<aa m:=by omega
   have Ka:IntKind.i64.wrap ((j:Int)-1)=(j:Int)-1:=by rw [IntKind.wrap_i64];omega
   obtain ⟨a,ha⟩:∃ a,(digits m)[j]? = some a:=⟨_,List.getElem?_eq_getElem qu⟩
   have mN:=aH m a (List.mem_of_getElem? ha)
   have f1:=aW a mN
   have FK:r<ak:=by omega
   have f2:=tv r FK
   have f3:=BW r a FK mN
   have hlt:ak*r+a<18446744073709551616:=by unfold ak at *;omega
   have f4:=BX (ak*r+a) w hlt x6
   have f5:=BZ (ak*r+a) w x6
   have O8:(ak*r+a)/w<ak:=by
     rw [Nat.div_lt_iff_lt_mul (Nat.pos_of_ne_zero x6)]
     have:ak*(r+1)<=ak*w:=Nat.mul_le_mul_left _ hr
     rw [Nat.mul_add] at this
     omega
   have f6:IntKind.u32.wrap (((ak*r+a)/w:Nat):Int)=(((ak*r+a)/w:Nat):Int):=by rw [o7,Nat.mod_eq_of_lt O8]
   have kC:=bI (q:=[4]) (t:=false) qu
   have U0:j<(zs (j+1)++q).length:=by simp [zs];omega
   have hv':val ((digits m).drop j)=val ((ak*r+a)/w::q)*w+(ak*r+a)%w:=by
     rw [List.drop_eq_getElem_cons (show j<(digits m).length from qu)]
     obtain ⟨_,h2⟩:=List.getElem?_eq_some_iff.1 ha
     rw [h2]
     simp only [val]
     rw [hv,Nat.add_mul,Nat.mul_add,Nat.mul_assoc ak]
     have:=Nat.div_add_mod (ak*r+a) w
     rw [Nat.mul_comm] at this
     omega
   have O3:j+((ak*r+a)/w::q).length=aa m:=by simp;omega
   simp only [SS,Nat.reduceAdd,d0,hj,cI ha,aS,bg,f0,f1,f2,f3,f4,f6,kC]
   rw [bC (o:=zs (j+1)++q) (by simp [ae.put]) U0,qW]
   simp only [SS,Nat.reduceAdd,f0,f5,Ka]
   refine ⟨(j,_,(ak*r+a)/w::q,(ak*r+a)%w),⟨O3, ?_,Nat.mod_lt _ (Nat.pos_of_ne_zero x6),hv'⟩,Nat.lt_succ_self j,Wk.forget (by simp [Fg]) (fun j => ?_) (Nat.le_refl _)⟩
   . intro z hz
     rcases List.mem_cons.1 hz with rfl | hz
     . exact O8
     . exact hwd z hz
   . simp only [ae.put];split<;>simp
end
end Go.VL
end

section
set_option linter.unusedVariables false
namespace Go.VL
theorem FX {x c:Nat} (hx:x<ak) (h0:0<x) (h1:x<2 ^ c) (h2:2 ^ c<=2*x):c=ee x:=by
 obtain ⟨a,b⟩:=mz hx h0
 have e1:2 ^ c<2 ^ (ee x+1):=by rw [Nat.pow_succ];omega
 have e2:2 ^ ee x<2 ^ (c+1):=by rw [Nat.pow_succ];omega
 have:=(Nat.pow_lt_pow_iff_right (by decide:1<2)).1 e1
 have:=(Nat.pow_lt_pow_iff_right (by decide:1<2)).1 e2
 omega
theorem ah7 (a:Nat) (ha:a<ak):bo .quo .int (.int .u32 (a:Int)) (.int .u32 2)=some (.int .u32 ((a/2:Nat):Int)):=by
 rw [CZ (by decide)]
 show some (AV.int .u32 (IntKind.u32.wrap ((a/2:Nat):Int)))=_
 rw [o7,Nat.mod_eq_of_lt (by unfold ak at *;omega)]
theorem Mk {x y s:Nat} (hs:s<=32) (hx:x<ak):((ak*y+x)/2 ^ s)%ak=x/2 ^ s+2 ^ (32-s)*(y%2 ^ s):=by
 have hB:=oy hs
 have hd:x/2 ^ s<2 ^ (32-s):=by rw [Nat.div_lt_iff_lt_mul (Nat.two_pow_pos _),hB];exact hx
 have e1:(ak*y+x)/2 ^ s=2 ^ (32-s)*y+x/2 ^ s:=by
   rw [<- hB,Nat.mul_comm (2 ^ (32-s)),Nat.mul_assoc,Nat.mul_add_div (Nat.two_pow_pos _)]
 have hlt:y%2 ^ s<2 ^ s:=Nat.mod_lt _ (Nat.two_pow_pos _)
 have h1:2 ^ (32-s)*(y%2 ^ s+1)<=2 ^ (32-s)*2 ^ s:=Nat.mul_le_mul_left _ hlt
 rw [Nat.mul_add,hB] at h1
 have e2:2 ^ (32-s)*y=ak*(y/2 ^ s)+2 ^ (32-s)*(y%2 ^ s):=by
   have:=Nat.div_add_mod y (2 ^ s)
   conv=>lhs;rw [<- this]
   rw [Nat.mul_add, <- Nat.mul_assoc,hB]
 rw [e1,e2,show ak*(y/2 ^ s)+2 ^ (32-s)*(y%2 ^ s)+x/2 ^ s=(x/2 ^ s+2 ^ (32-s)*(y%2 ^ s))+ak*(y/2 ^ s) from by omega,Nat.add_mul_mod_self_left,Nat.mod_eq_of_lt (by omega)]
theorem acu (x y:Nat) (hx:x<ak) (hy:y<ak):bo .or .int (.int .u64 (x:Int)) (.int .u64 ((ak*y:Nat):Int))=some (.int .u64 ((ak*y+x:Nat):Int)):=by
 rw [XI _ _ (by unfold ak at *;omega) (by unfold ak at *;omega),Nat.or_comm]
 have:=Nat.two_pow_add_eq_or_of_lt (i:=32) (b:=x) (by unfold ak at hx;omega) y
 rw [show ak=2 ^ 32 from rfl,this]
theorem PA (x s:Nat) (hs:s<=64):bo .shr .int (.int .u64 (x:Int)) (.int .i64 (s:Int))=some (.int .u64 ((x/2 ^ s:Nat):Int)):=by
 rw [mV (by omega)]
 have h2:min (s:Int).toNat IntKind.u64.bits=s:=by
   show min (s:Int).toNat 64=s
   rw [Int.toNat_natCast];omega
 have h3:(x:Int).fdiv (2 ^ s)=((x/2 ^ s:Nat):Int):=by
   have h4:(2:Int) ^ s=((2 ^ s:Nat):Int):=by rw [Int.natCast_pow];rfl
   rw [h4,Int.fdiv_eq_ediv_of_nonneg _ (Int.natCast_nonneg _)]
   exact (Int.natCast_ediv _ _).symm
 rw [h2,h3]
section
variable {P:Program} {G:Nat->Option (List AV)}
theorem zI {f:FuncId} (h:Has P f dJ) {n x k:Nat} (hk:aa n=k+1) (hx:(digits n)[k]? = some x) (O3:k<=1000000):VP P G f [W n] (.int .i64 ((32*k+ee x:Nat):Int)):=by
 refine VP.has h ?_
 have XX:=aH n x (List.mem_of_getElem? hx)
 obtain ⟨FD,_,_,_,_⟩:=u6 hk hx
 have d0:decide (((k+1:Nat):Int)=0)=false:=ag (by omega)
 have p1:IntKind.i64.wrap (((k+1:Nat):Int)-1)=(k:Int):=by rw [IntKind.wrap_i64];omega
 simp only [dJ,SS,Nat.reduceAdd,aQ,hk,d0,p1,cI hx,aS,bg,bf]
 refine VW.dV (α := Nat × Nat × Nat) (fun y=>⟨[W n, .top, .top, .int .i64 (y.1:Int), .int .u32 (y.2.1:Int)]++List.replicate 21 .top,fun _=>none,y.2.2⟩)
   (fun y=>y.2.1=x/2 ^ y.1/\y.1<=32/\2 ^ y.1<=2*x) (fun y=>y.2.1) (0,x,1000) ?_ ?_ ?_
 . exact Wk.slots (by simp [Fg,List.replicate]) (by simp only [];omega)
 . refine ⟨by simp,by simp,by simp;omega⟩
 rintro ⟨c,y,nn⟩ ⟨hy,hc,h2⟩
 simp only [] at hy hc h2
 have X7:y<ak:=by rw [hy];exact Nat.lt_of_le_of_lt (Nat.div_le_self _ _) XX
 by_cases h0:y=0
 . have d1:decide ((0:Int)<(y:Int))=false:=ag (by omega)
   have h1:x<2 ^ c:=by
     rw [h0] at hy
     exact Nat.lt_of_div_eq_zero (Nat.two_pow_pos c) hy.symm
   have e:=FX XX FD h1 h2
   have m1:IntKind.i64.wrap (32*(k:Int))=((32*k:Nat):Int):=by rw [IntKind.wrap_i64];omega
   have a1:=iG (32*k) c (by omega)
   rw [<- e]
   simp only [SS,Nat.reduceAdd,d1,aQ,hk,p1,m1,a1]
   exact ao▸aj rfl (af.int _ _)
 . have d1:decide ((0:Int)<(y:Int))=true:=ai (by omega)
   have hcw:=aF c (by omega)
   have q2:=ah7 y X7
   have hlt:2 ^ c<=x:=by
     rcases Nat.lt_or_ge x (2 ^ c) with h | h
     . rw [Nat.div_eq_of_lt h] at hy;omega
     . exact h
   have Ta:c+1<=32:=by
     have:2 ^ c<2 ^ 32:=by unfold ak at XX;omega
     have:=(Nat.pow_lt_pow_iff_right (by decide:1<2)).1 this
     omega
   simp only [SS,Nat.reduceAdd,d1,hcw,q2]
   refine ⟨(c+1,y/2,_),⟨?_,Ta, ?_⟩,Nat.div_lt_self (by omega) (by decide),Wk.slots (by simp [Fg]) (Nat.le_refl _)⟩
   . simp only [];rw [hy,Nat.div_div_eq_div_mul, <- Nat.pow_succ]
   . simp only [];rw [Nat.pow_succ];omega
theorem zJ {f:FuncId} (h:Has P f eu) (m s:Nat) (hm:aa m<=1000000) (hs:s<=31) (p:Id) :
   aw P G f [W m, .int .i64 (s:Int)] p [] { val := .osl (4::p) 1 0 (aa m+1) false,rd:=[],up:=[(4::p,some ⟨us (pad (aa m+1) (m*2 ^ s)),1,false⟩)] }:=by
 refine aw.has h ?_
 have hL:=aF (aa m) (by omega)
 have qq:∀ p:Id,g8 p 1 4 (.int .u32 0) (.int .i64 ((aa m+1:Nat):Int)) (.int .i64 ((aa m+1:Nat):Int))=some { val := .osl p 1 0 (aa m+1) false,up:=[(p,some ⟨us (List.replicate (aa m+1) 0),1,false⟩)] }:=fun p=>iD (by omega)
 have hz:us (List.replicate (aa m+1) 0)=us (0::zs (aa m)):=rfl
 simp only [eu,SS,Nat.reduceAdd,aQ,hL,qq,bf]
 refine VW.dV (α := Nat × Nat × List Nat × Nat) (fun x=>⟨[W m, .int .i64 (s:Int), .top, .top, .top, .osl (4::p) 1 0 (aa m+1) false, .int .i64 (x.1:Int)]++List.replicate 36 .top,
   ae.put (ae.of []) (4::p) (some ⟨us (x.2.2.1++x.2.2.2::zs (aa m-x.1)),1,false⟩),x.2.1⟩)
   (fun x=>x.1<=aa m/\x.2.2.1.length=x.1/\Wd x.2.2.1/\x.2.2.2<2 ^ s/\val x.2.2.1+ak ^ x.1*x.2.2.2=val ((digits m).take x.1)*2 ^ s) (fun x=>aa m-x.1) (0,1000,[],0) ?_ ?_ ?_
 . exact Wk.slots (by simp [Fg,List.replicate]) (by simp only [];omega)
 . exact ⟨Nat.zero_le _,rfl,by intro w hw;simp at hw,Nat.two_pow_pos _,by simp [val]⟩
 rintro ⟨i,nn,o,c⟩ ⟨hi,ho,hwd,hc,hv⟩
 simp only [] at hi ho hwd hc hv
 have nQ:i<aa m->decide ((i:Int)<(aa m:Int))=true:=fun h=>ai (by omega)
 have pw : ¬ i<aa m->decide ((i:Int)<(aa m:Int))=false:=fun h=>ag (by omega)
 have cL : ¬ i<aa m->i=aa m:=by omega
 have lZ:=aF i (by omega)
 have gW:i<aa m->i+1<=aa m/\aa m-(i+1)<aa m-i:=fun h=>by omega
 have hcB:c<ak:=by
   have h2:2 ^ s<=2 ^ 32:=Nat.pow_le_pow_right (by decide) (by omega)
   unfold ak;omega
 by_cases hlt:i<aa m
 . obtain ⟨x,hx⟩:∃ x,(digits m)[i]? = some x:=⟨_,List.getElem?_eq_getElem hlt⟩
   have mE:=aH m x (List.mem_of_getElem? hx)
   have f1:=aW x mE
   have f2:=O9 x s (by omega) mE
   obtain ⟨g1,g2,g3⟩:=FM (s:=s) (by omega) hc mE
   have f3:=Tc c (x*2 ^ s%ak) hcB (Nat.mod_lt _ bx)
   rw [g1] at f3
   have g4:x*2 ^ s/ak<ak:=by
     have h2:2 ^ s<=2 ^ 32:=Nat.pow_le_pow_right (by decide) (by omega)
     have:(2:Nat) ^ 32=ak:=rfl
     omega
   have f4:IntKind.u32.wrap ((x*2 ^ s/ak:Nat):Int)=((x*2 ^ s/ak:Nat):Int):=by rw [o7,Nat.mod_eq_of_lt g4]
   have kC:=bI (q:=4::p) (t:=false) (show i<aa m+1 by omega)
   have XJ:=bI (q:=4::p) (t:=false) (show i+1<aa m+1 by omega)
   obtain ⟨k,hk⟩:∃ k,aa m-i=k+1:=⟨aa m-i-1,by omega⟩
   have wU:aa m-(i+1)=k:=by omega
   have mD:i<(o++c::0::zs k).length:=by simp;omega
   have El:i+1<(o++(c+x*2 ^ s%ak)::0::zs k).length:=by simp;omega
   have hv':val (o++[c+x*2 ^ s%ak])+ak ^ (i+1)*(x*2 ^ s/ak)=val ((digits m).take (i+1))*2 ^ s:=by
     rw [aA hx,bq,ho,Nat.add_mul, <- hv]
     simp only [val,Nat.mul_zero,Nat.add_zero,Nat.pow_succ]
     have e2:ak ^ i*(x*2 ^ s%ak)+ak ^ i*(ak*(x*2 ^ s/ak))=ak ^ i*(x*2 ^ s):=by rw [<- Nat.mul_add,Nat.mod_add_div]
     rw [Nat.mul_assoc,Nat.mul_assoc,Nat.mul_add]
     omega
   simp only [SS,Nat.reduceAdd,aQ,nQ hlt,cI hx,aS,bg,f1,f2,kC,hk,ga]
   rw [fZ (o:=o++c::0::zs k) (b:=false) (by simp [ae.put]) (pN _ _ _ ho)]
   simp only [SS,Nat.reduceAdd,o7,f3,kC]
   rw [bC (o:=o++c::0::zs k) (by simp [ae.put]) mD,dS _ _ _ _ ho]
   simp only [SS,Nat.reduceAdd,lZ,ki,f4,XJ]
   rw [bC (o:=o++(c+x*2 ^ s%ak)::0::zs k) (by simp [ae.put]) El,FL _ _ _ _ _ ho]
   simp only [SS,Nat.reduceAdd,lZ]
   refine ⟨(i+1,_,o++[c+x*2 ^ s%ak],x*2 ^ s/ak),⟨(gW hlt).1,by simp [ho],cz hwd (by intro z hz;simp at hz;subst hz;exact g2),g3,hv'⟩,(gW hlt).2,Wk.forget (by simp [Fg]) (fun j => ?_) (Nat.le_refl _)⟩
   simp only [ae.put,wU];split<;>simp
 . have kJ:=cL hlt
   have e1:(digits m).take (aa m)=digits m:=List.take_of_length_le (Nat.le_refl _)
   have s7:val (o++[c])=m*2 ^ s:=by
     rw [bq,ho];simp only [val,Nat.mul_zero,Nat.add_zero]
     rw [hv,kJ,e1,aE]
   have hlen:(o++[c]).length=aa m+1:=by simp [ho,kJ]
   have e:pad (aa m+1) (m*2 ^ s)=o++[c]:=by
     rw [<- s7, <- hlen]
     exact ko (cz hwd (by intro z hz;simp at hz;subst hz;exact hcB))
   have e3:zs (aa m-i)=[]:=by rw [kJ,Nat.sub_self];rfl
   simp only [SS,Nat.reduceAdd,aQ,pw hlt,e,e3]
   refine jt▸dN rfl fun i => .inr ?_
   rfl
theorem Tq {f ft:FuncId} (h:Has P f (iz ft)) (ht:fY P G ft) (m s:Nat) (hm:aa m<=1000000) (hs:s<=31) :
   VP P G f [W m, .int .i64 (s:Int)] (W (m/2 ^ s)):=by
 refine VP.has h ?_
 have qq:∀ p:Id,g8 p 1 4 (.int .u32 0) (.int .i64 (aa m:Int)) (.int .i64 (aa m:Int))=some { val := .osl p 1 0 (aa m) false,up:=[(p,some ⟨us (List.replicate (aa m) 0),1,false⟩)] }:=fun p=>iD (by omega)
 have hz:us (List.replicate (aa m) 0)=us ([]++zs (aa m-0)):=rfl
 have h2s:2 ^ s*2 ^ (32-s)=ak:=by rw [Nat.mul_comm];exact oy (by omega)
 simp only [iz,SS,Nat.reduceAdd,aQ,qq,hz,bf]
 refine VW.dV (α := Nat × Nat × List Nat) (fun x=>⟨[W m, .int .i64 (s:Int), .top, .top, .top, .osl [3] 1 0 (aa m) false, .int .i64 (x.1:Int)]++List.replicate 38 .top,
   ae.put (fun _=>none) [3] (some ⟨us (x.2.2++zs (aa m-x.1)),1,false⟩),x.2.1⟩)
   (fun x=>x.1<=aa m/\x.2.2.length=x.1/\Wd x.2.2/\2 ^ s*val x.2.2+m%2 ^ s=val ((digits m).take x.1)+ak ^ x.1*(((digits m)[x.1]?).getD 0%2 ^ s)) (fun x=>aa m-x.1) (0,1000,[]) ?_ ?_ ?_
 . exact Wk.slots (by simp [Fg,List.replicate]) (by simp only [];omega)
 . refine ⟨Nat.zero_le _,rfl,by intro w hw;simp at hw, ?_⟩
   show 2 ^ s*val []+m%2 ^ s=val ((digits m).take 0)+ak ^ 0*(((digits m)[0]?).getD 0%2 ^ s)
   rw [qX, <- h2s,Nat.mod_mul_right_mod]
   simp [val]
 rintro ⟨i,nn,o⟩ ⟨hi,ho,hwd,hv⟩
 simp only [] at hi ho hwd hv
 have nQ:i<aa m->decide ((i:Int)<(aa m:Int))=true:=fun h=>ai (by omega)
 have pw : ¬ i<aa m->decide ((i:Int)<(aa m:Int))=false:=fun h=>ag (by omega)
 have FI:i+1<aa m->decide (((i+1:Nat):Int)<(aa m:Int))=true:=fun h=>ai (by omega)
 have FJ : ¬ i+1<aa m->decide (((i+1:Nat):Int)<(aa m:Int))=false:=fun h=>ag (by omega)
 have cL : ¬ i<aa m->i=aa m:=by omega
 have XL:i<aa m -> ¬ i+1<aa m->i+1=aa m:=by omega
 have lZ:=aF i (by omega)
 have gW:i<aa m->i+1<=aa m/\aa m-(i+1)<aa m-i:=fun h=>by omega
 by_cases hlt:i<aa m
 . obtain ⟨x,hx⟩:∃ x,(digits m)[i]? = some x:=⟨_,List.getElem?_eq_getElem hlt⟩
   have mE:=aH m x (List.mem_of_getElem? hx)
   have f0:=aW x mE
   have kC:=bI (q:=[3]) (t:=false) hlt
   obtain ⟨k,hk⟩:∃ k,aa m-i=k+1:=⟨aa m-i-1,by omega⟩
   have wU:aa m-(i+1)=k:=by omega
   have mD:i<(o++0::zs k).length:=by simp;omega
   have hstep:∀ y w,w=x/2 ^ s+2 ^ (32-s)*(y%2 ^ s)->2 ^ s*w+x%2 ^ s=x+ak*(y%2 ^ s)->((digits m)[i+1]?).getD 0=y ->
       2 ^ s*val (o++[w])+m%2 ^ s=val ((digits m).take (i+1))+ak ^ (i+1)*(((digits m)[i+1]?).getD 0%2 ^ s):=by
     intro y w _ hw hy
     rw [hx,Option.getD_some] at hv
     rw [aA hx,bq,ho,hy]
     simp only [val,Nat.mul_zero,Nat.add_zero,Nat.pow_succ]
     have e1:ak ^ i*(2 ^ s*w)+ak ^ i*(x%2 ^ s)=ak ^ i*x+ak ^ i*(ak*(y%2 ^ s)):=by rw [<- Nat.mul_add,hw,Nat.mul_add]
     have e2:2 ^ s*(val o+ak ^ i*w)=2 ^ s*val o+ak ^ i*(2 ^ s*w):=by rw [Nat.mul_add,Nat.mul_left_comm]
     rw [e2,Nat.mul_assoc]
     omega
   by_cases hn:i+1<aa m
   . obtain ⟨y,hy⟩:∃ y,(digits m)[i+1]? = some y:=⟨_,List.getElem?_eq_getElem hn⟩
     have wC:=aH m y (List.mem_of_getElem? hy)
     have f1:=aW y wC
     have f2:=tv y wC
     have f3:=acu x y mE wC
     have f4:=PA (ak*y+x) s (by omega)
     obtain ⟨g1,g2,g3⟩:=uZ (y:=y) (s:=s) (by omega) mE
     have f5:IntKind.u32.wrap (((ak*y+x)/2 ^ s:Nat):Int)=((x/2 ^ s+2 ^ (32-s)*(y%2 ^ s):Nat):Int):=by rw [o7,Mk (by omega) mE]
     have hv':=hstep y _ rfl g3 (by rw [hy];rfl)
     simp only [SS,Nat.reduceAdd,aQ,nQ hlt,cI hx,aS,bg,f0,lZ,FI hn,cI hy,f1,f2,f3,f4,f5,kC,hk,ga]
     rw [bC (o:=o++0::zs k) (by simp [ae.put]) mD,dS _ _ _ _ ho]
     simp only [SS,Nat.reduceAdd,lZ]
     refine ⟨(i+1,_,o++[x/2 ^ s+2 ^ (32-s)*(y%2 ^ s)]),⟨(gW hlt).1,by simp [ho],cz hwd (by intro z hz;simp at hz;subst hz;exact g2),hv'⟩,(gW hlt).2,Wk.forget (by simp [Fg]) (fun j => ?_) (Nat.le_refl _)⟩
     simp only [ae.put,wU];split<;>simp
   . have uq:(digits m)[i+1]? = none:=List.getElem?_eq_none (by have:=XL hlt hn;show aa m<=i+1;omega)
     obtain ⟨g1,g2,g3⟩:=uZ (y:=0) (s:=s) (by omega) mE
     have e0:x/2 ^ s+2 ^ (32-s)*(0%2 ^ s)=x/2 ^ s:=by simp
     rw [e0] at g2 g3
     have f4:=PA x s (by omega)
     have f5:IntKind.u32.wrap ((x/2 ^ s:Nat):Int)=((x/2 ^ s:Nat):Int):=by rw [o7,Nat.mod_eq_of_lt g2]
     have hv':=hstep 0 (x/2 ^ s) e0.symm g3 (by rw [uq];rfl)
     simp only [SS,Nat.reduceAdd,aQ,nQ hlt,cI hx,aS,bg,f0,lZ,FJ hn,f4,f5,kC,hk,ga]
     rw [bC (o:=o++0::zs k) (by simp [ae.put]) mD,dS _ _ _ _ ho]
     simp only [SS,Nat.reduceAdd,lZ]
     refine ⟨(i+1,_,o++[x/2 ^ s]),⟨(gW hlt).1,by simp [ho],cz hwd (by intro z hz;simp at hz;subst hz;exact g2),hv'⟩,(gW hlt).2,Wk.forget (by simp [Fg]) (fun j => ?_) (Nat.le_refl _)⟩
     simp only [ae.put,wU];split<;>simp
 . have kJ:=cL hlt
   have e1:(digits m).take (aa m)=digits m:=List.take_of_length_le (Nat.le_refl _)
   have uq:(digits m)[aa m]? = none:=List.getElem?_eq_none (Nat.le_refl _)
   have s7:val o=m/2 ^ s:=by
     rw [kJ,e1,aE,uq] at hv
     have h1:=Nat.div_add_mod m (2 ^ s)
     have h2:2 ^ s*val o=2 ^ s*(m/2 ^ s):=by
       simp at hv;omega
     exact Nat.eq_of_mul_eq_mul_left (Nat.two_pow_pos _) h2
   have hlen:aa m=o.length:=by rw [ho,kJ]
   have rz:=ht o hwd (by omega)
   rw [s7] at rz
   have e3:zs (aa m-i)=[]:=by rw [kJ,Nat.sub_self];rfl
   simp only [SS,Nat.reduceAdd,aQ,pw hlt,e3]
   refine cB [([3],⟨us o,1,false⟩)] rz (ah.cons (fk hlen) ah.nil) (by simp [ae.put]) ?_
   simp only [SS,Nat.reduceAdd]
   exact ao▸aj rfl (aM _)
end
end Go.VL
end

section
set_option linter.unusedVariables false
namespace Go.VL
theorem trimmed (b:List Nat) (h:Wd b):∃ z,b=digits (val b)++zs z:=by
 induction hn:b.length generalizing b with
 | zero =>
   obtain rfl:b=[]:=List.length_eq_zero_iff.1 hn
   exact ⟨0,by simp [val,a9,zs]⟩
 | succ k ih =>
   obtain ⟨b',w,rfl,hl⟩:=pP hn
   by_cases hw:w=0
   . subst hw
     obtain ⟨z,hz⟩:=ih b' (fun w hw=>h w (by simp [hw])) hl
     refine ⟨z+1, ?_⟩
     rw [gq]
     conv=>lhs;rw [hz]
     rw [List.append_assoc];congr 1
     simp [zs,List.replicate_succ']
   . exact ⟨0,by rw [gp h (.inr ⟨w,by simp,hw⟩)];simp [zs]⟩
theorem Ml {id:Id} {k off len h:Nat} (h2:h<=len):fC k (.osl id k off len false) none (some (.int .i64 (h:Int))) none=some (.osl id k off h false):=by
 simp [fC,et,iI,h2]
theorem FY {id:Id} {a b t:List Nat} {f tt:Bool} {n:Nat} (hn:n=b.length):View (ae.of [(id,⟨us (a++b++t),1,f⟩)]) (.osl id 1 a.length n tt) (.sl 1 (us b)):=by
 subst hn
 refine View.osl (bk:=⟨us (a++b++t),1,f⟩) (by simp [ae.of]) rfl (by simp [dD]) ?_ (by rw [dD]) (pJ b)
 have:((us (a++b++t)).drop a.length).take b.length=us b:=by rw [List.append_assoc,wz,wz, <- dD a,List.drop_left, <- dD b,List.take_left]
 show ah _ (flat (((us (a++b++t)).drop a.length).take b.length)) _
 rw [this]
 exact ah.pure (my b)
section
variable {P:Program} {G:Nat->Option (List AV)}
theorem FZ {f:FuncId} (h:Has P f eD) {id:Id} {a b t:List Nat} (hw:Wd b) (hl:b.length<=9223372036854775807) (p:Id) :
   aw P G f [.osl id 1 a.length b.length false] p [(id,⟨us (a++b++t),1,false⟩)] { val := .osl id 1 a.length (aa (val b)) false,rd:=[id],up:=[] }:=by
 refine aw.has h ?_
 simp only [eD,SS,bf]
 refine VW.dV (α := Nat × Nat) (fun x=>⟨[.osl id 1 a.length x.1 false]++List.replicate 20 .top,ae.of [(id,⟨us (a++b++t),1,false⟩)],x.2⟩) (fun x=>x.1<=b.length/\val (b.take x.1)=val b) (fun x=>x.1) (b.length,1) ?_ ⟨Nat.le_refl _,by rw [List.take_length]⟩ ?_
 . exact Wk.slots (by simp [Fg,List.replicate]) (Nat.le_refl _)
 rintro ⟨k,n⟩ ⟨hk,hv⟩
 simp only [] at hk hv
 by_cases h0:k=0
 . subst h0
   have d0:decide ((0:Int)<((0:Nat):Int))=false:=by decide
   have e:aa (val b)=0:=by rw [<- hv];simp [val,aa,a9]
   simp only [SS,Nat.reduceAdd,d0,e]
   exact jt▸dN rfl fun i => .inr rfl
 . have lq:0<k:=Nat.pos_of_ne_zero h0
   have d0:decide ((0:Int)<(k:Int))=true:=ai (by omega)
   have p5:=nP k lq (by omega)
   obtain ⟨w,Vo⟩:∃ w,b[k-1]? = some w:=⟨b[k-1],by rw [List.getElem?_eq_getElem]⟩
   have J6:b.take k=b.take (k-1)++[w]:=by
     have:=List.take_add_one (l:=b) (i:=k-1)
     rw [Vo,show k-1+1=k from by omega] at this
     simpa using this
   have kC:=kT (q:=id) (off:=a.length) (t:=false) (show k-1<k by omega)
   have hld:=fZ (σ := ae.of [(id,⟨us (a++b++t),1,false⟩)]) (q:=id) (b:=false) (by simp [ae.of]) (pO (t:=t) (rfl:a.length=a.length) Vo)
   have FV:=Ml (id:=id) (k:=1) (off:=a.length) (len:=k) (h:=k-1) (Nat.sub_le _ _)
   by_cases hz:w=0
   . have d1:decide ((w:Int)=0)=true:=ai (by omega)
     simp only [SS,Nat.reduceAdd,d0,p5,kC,hld,d1,FV]
     refine ⟨(k-1,_),⟨by simp only [];omega, ?_⟩,by simp only [];omega,Wk.slots (by simp [Fg]) (Nat.le_refl _)⟩
     simp only []
     rw [<- hv,J6,hz,gq]
   . have d1:decide ((w:Int)=0)=false:=ag (by omega)
     have e:aa (val b)=k:=by
       have e1:digits (val b)=b.take k:=by
         rw [<- hv]
         exact gp (gD hw k) (.inr ⟨w,by rw [J6];simp,hz⟩)
       rw [aa,e1,List.length_take];omega
     simp only [SS,Nat.reduceAdd,d0,p5,kC,hld,d1,e]
     exact jt▸dN rfl fun i => .inr rfl
set_option maxHeartbeats 1000000 in
theorem Mm {f ft:FuncId} (h:Has P f (df ft)) (ht:fY P G ft) {id:Id} {a t:List Nat} (m n:Nat) (x3:n<=m) (hm:aa m<=1000000) (p:Id) (kY:∀ x,id≠x::p) :
   aw P G f [.osl id 1 a.length (aa m) false,W n] p [(id,⟨us (a++digits m++t),1,false⟩)] { val:=W (m-n),rd:=[id],up:=[] }:=by
 refine aw.has h ?_
 have hwn:=aP x3
 have PB:=kY 3
 have qq:∀ p:Id,g8 p 1 4 (.int .u32 0) (.int .i64 (aa m:Int)) (.int .i64 (aa m:Int))=some { val := .osl p 1 0 (aa m) false,up:=[(p,some ⟨us (List.replicate (aa m) 0),1,false⟩)] }:=fun p=>iD (by omega)
 simp only [df,SS,Nat.reduceAdd,qq,bf]
 refine VW.dV (α := Nat × Nat × List Nat × Nat) (fun x=>⟨[.osl id 1 a.length (aa m) false,W n, .top, .top, .top, .osl (3::p) 1 0 (aa m) false, .int .u64 (x.2.2.2:Int), .int .i64 (x.1:Int)]++List.replicate 40 .top,
   ae.put (ae.of [(id,⟨us (a++digits m++t),1,false⟩)]) (3::p) (some ⟨us (x.2.2.1++zs (aa m-x.1)),1,false⟩),x.2.1⟩)
   (fun x=>x.1<=aa m/\x.2.2.1.length=x.1/\Wd x.2.2.1/\x.2.2.2<=1/\val x.2.2.1+val ((digits n).take x.1)=val ((digits m).take x.1)+ak ^ x.1*x.2.2.2) (fun x=>aa m-x.1) (0,1000,[],0) ?_ ?_ ?_
 . exact Wk.slots (by simp [Fg,List.replicate]) (by simp only [];omega)
 . exact ⟨Nat.zero_le _,rfl,by intro w hw;simp at hw,Nat.zero_le _,by simp [val]⟩
 rintro ⟨i,nn,o,c⟩ ⟨hi,ho,hwd,hc,hv⟩
 simp only [] at hi ho hwd hc hv
 have nQ:i<aa m->decide ((i:Int)<(aa m:Int))=true:=fun h=>ai (by omega)
 have pw : ¬ i<aa m->decide ((i:Int)<(aa m:Int))=false:=fun h=>ag (by omega)
 have FI:i<aa n->decide ((i:Int)<(aa n:Int))=true:=fun h=>ai (by omega)
 have FJ : ¬ i<aa n->decide ((i:Int)<(aa n:Int))=false:=fun h=>ag (by omega)
 have cL : ¬ i<aa m->i=aa m:=by omega
 have lZ:=aF i (by omega)
 have gW:i<aa m->i+1<=aa m/\aa m-(i+1)<aa m-i:=fun h=>by omega
 by_cases hlt:i<aa m
 . obtain ⟨x,hx⟩:∃ x,(digits m)[i]? = some x:=⟨_,List.getElem?_eq_getElem hlt⟩
   have mE:=aH m x (List.mem_of_getElem? hx)
   have f1:=aW x mE
   have kC:=bI (q:=3::p) (t:=false) hlt
   have hio:=kT (q:=id) (off:=a.length) (t:=false) hlt
   obtain ⟨k,hk⟩:∃ k,aa m-i=k+1:=⟨aa m-i-1,by omega⟩
   have wU:aa m-(i+1)=k:=by omega
   have mD:i<(o++0::zs k).length:=by simp;omega
   have hld:=fZ (σ := ae.put (ae.of [(id,⟨us (a++digits m++t),1,false⟩)]) (3::p) (some ⟨us (o++0::zs k),1,false⟩)) (q:=id) (b:=false) (by simp [ae.of,ae.put,PB]) (pO (t:=t) (rfl:a.length=a.length) hx)
   by_cases hb:i<aa n
   . obtain ⟨y,hy⟩:∃ y,(digits n)[i]? = some y:=⟨_,List.getElem?_eq_getElem hb⟩
     have wC:=aH n y (List.mem_of_getElem? hy)
     have f3:=aW y wC
     obtain ⟨w,c',h1,h2,h3,d,h4,h5,h6⟩:=rG mE wC hc
     have hst:=jV (va:=val ((digits m).take i)) (vb:=val ((digits n).take i)) (x:=x) (y:=y) (c:=c) (w:=w) (c':=c') ho (by rw [hv];omega) h3
     simp only [SS,Nat.reduceAdd,aQ,nQ hlt,hk,ga,hio,hld,bg,f1,FI hb,cI hy,aS,f3,h4,h5,kC]
     rw [bC (o:=o++0::zs k) (by simp [ae.put]) mD,dS _ _ _ _ ho]
     simp only [SS,Nat.reduceAdd,ki,h6,lZ]
     refine ⟨(i+1,_,o++[w],c'),⟨(gW hlt).1,by simp [ho],cz hwd (by intro z hz;simp at hz;subst hz;exact h1),h2, ?_⟩,(gW hlt).2,Wk.forget (by simp [Fg]) (fun j => ?_) (Nat.le_refl _)⟩
     . show val (o++[w])+val ((digits n).take (i+1))=val ((digits m).take (i+1))+_
       rw [aA hx,aA hy];exact hst
     . simp only [ae.put,wU];split<;>simp
   . obtain ⟨w,c',h1,h2,h3,d,h4,h5,h6⟩:=rG (y:=0) mE bx hc
     have h4':IntKind.u64.wrap (IntKind.u64.wrap (IntKind.u64.wrap ((x:Int)+4294967296)-0)-(c:Int))=(d:Int):=h4
     have hst:=jV (va:=val ((digits m).take i)) (vb:=val ((digits n).take i)) (x:=x) (y:=0) (c:=c) (w:=w) (c':=c') ho (by rw [hv];omega) h3
     rw [Nat.mul_zero,Nat.add_zero] at hst
     simp only [SS,Nat.reduceAdd,aQ,nQ hlt,hk,ga,hio,hld,f1,FJ hb,h4',h5,kC]
     rw [bC (o:=o++0::zs k) (by simp [ae.put]) mD,dS _ _ _ _ ho]
     simp only [SS,Nat.reduceAdd,ki,h6,lZ]
     refine ⟨(i+1,_,o++[w],c'),⟨(gW hlt).1,by simp [ho],cz hwd (by intro z hz;simp at hz;subst hz;exact h1),h2, ?_⟩,(gW hlt).2,Wk.forget (by simp [Fg]) (fun j => ?_) (Nat.le_refl _)⟩
     . show val (o++[w])+val ((digits n).take (i+1))=val ((digits m).take (i+1))+_
       rw [aA hx,gr (show (digits n).length<=i from by show aa n<=i;omega)];exact hst
     . simp only [ae.put,wU];split<;>simp
 . have kJ:=cL hlt
   have e1:(digits m).take (aa m)=digits m:=List.take_of_length_le (Nat.le_refl _)
   have e2:(digits n).take (aa m)=digits n:=List.take_of_length_le (by show aa n<=aa m;omega)
   have s7:val o=m-n:=by
     rw [kJ,e1,e2,aE,aE] at hv
     have qC:=di hwd
     rw [ho,kJ] at qC
     rcases Nat.eq_zero_or_pos c with h0 | h0
     . subst h0;omega
     . have:c=1:=by omega
       subst this;have:=b7 m;omega
   have qg:aa m=o.length:=by omega
   have e3:zs (aa m-i)=[]:=by rw [kJ,Nat.sub_self];rfl
   have rz:=ht o hwd (by omega)
   rw [s7] at rz
   simp only [SS,Nat.reduceAdd,pw hlt,e3]
   refine cB [(3::p,⟨us o,1,false⟩)] rz (ah.cons (fk qg) ah.nil) (by simp [ae.put]) ?_
   simp only [SS,Nat.reduceAdd]
   refine jt▸dN rfl fun i => ?_
   by_cases e:i=id
   . subst e;right;simp [ae.app,CV,ae.put,ae.of,PB]
   . left;simp [ae.app,ae.of,List.lookup,show (i==id)=false from by simpa using e]
end
end Go.VL
end

section
set_option linter.unusedVariables false
namespace Go.VL
theorem PC {num h V D x0 M u' l v':Nat} (h0:0<h) (hV:V=(h*ak+l)*M+v') (hD:D=(num*ak+x0)*M+u') (hx:x0<ak) (hu:u'<M) (St:D/V<ak):D/V<=min (num/h) (ak-1):=by
 have:=FQ h0 hV hD hx hu
 omega
section
variable {P:Program} {G:Nat->Option (List AV)}
set_option maxHeartbeats 1000000 in
theorem Mn {f ft fti fc fm:FuncId} (h:Has P f (fh fti ft fc fm)) (xK:∀ (m:Nat) (ws:List Nat),Wd ws->aa m<=1000000->ws.length<=1000000->VP P G fti [W m, .sl 1 (us ws)] (W (m*val ws)))
   (Mi:Has P ft eD) (hc:∀ m n,aa m<=1000000->aa n<=1000000->VP P G fc [W m,W n] (.int .i64 (de m n))) (hmi:∀ m n,n<=m->aa m<=1000000->VP P G fm [W m,W n] (W (m-n)))
   {id:Id} {a b t:List Nat} {V k:Nat} (hV:aa V=k+2) (hb:b.length=k+3) (Ef:Wd b) (Vx:val b<ak*V) (hk:k<=900000) (p:Id) (kY:∀ x,id≠x::p) :
   aw P G f [.osl id 1 a.length (k+3) false,W V] p [(id,⟨us (a++b++t),1,false⟩)] { val := .tup [.int .u32 ((val b/V:Nat):Int),W (V*(val b/V))],rd:=[id],up:=[] }:=by
 refine aw.has h ?_
 obtain ⟨hh,Pt⟩:∃ y,(digits V)[k+1]? = some y:=⟨_,List.getElem?_eq_getElem (by show k+1<aa V;omega)⟩
 obtain ⟨ll,llg⟩:∃ y,(digits V)[k]? = some y:=⟨_,List.getElem?_eq_getElem (by show k<aa V;omega)⟩
 have hhB:=aH V hh (List.mem_of_getElem? Pt)
 obtain ⟨X0,hvM⟩:=acb (aH V) hV Pt llg
 rw [aE] at X0
 obtain ⟨hh0,_,_,_,_⟩:=u6 (k:=k+1) hV Pt
 have Ss:0<V:=by
   rcases Nat.eq_zero_or_pos V with e | e
   . rw [e] at Vx;omega
   . exact e
 obtain ⟨x2,X9⟩:∃ z,b[k+2]? = some z:=⟨_,List.getElem?_eq_getElem (by omega)⟩
 obtain ⟨x1,C4⟩:∃ z,b[k+1]? = some z:=⟨_,List.getElem?_eq_getElem (by omega)⟩
 obtain ⟨z0,Nv⟩:∃ z,b[k]? = some z:=⟨_,List.getElem?_eq_getElem (by omega)⟩
 have H3:=Ef x2 (List.mem_of_getElem? X9)
 have Pv:=Ef x1 (List.mem_of_getElem? C4)
 have Pw:=Ef z0 (List.mem_of_getElem? Nv)
 obtain ⟨hD,huM⟩:=acd Ef hb X9 C4 Nv
 rw [show x2*ak+x1=ak*x2+x1 from by rw [Nat.mul_comm]] at hD
 obtain ⟨num,zG⟩:∃ z,z=ak*x2+x1:=⟨_,rfl⟩
 rw [<- zG] at hD
 have Ko:num<18446744073709551616:=by rw [zG];unfold ak at *;omega
 have St:val b/V<ak:=Nat.div_lt_of_lt_mul (by rw [Nat.mul_comm];exact Vx)
 have Dh:=PC hh0 X0 hD Pw huM St
 have io2:=kT (q:=id) (off:=a.length) (t:=false) (show k+2<k+3 by omega)
 have io1:=kT (q:=id) (off:=a.length) (t:=false) (show k+1<k+3 by omega)
 have ld2:=fZ (σ := ae.of [(id,⟨us (a++b++t),1,false⟩)]) (q:=id) (b:=false) (by simp [ae.of]) (pO (t:=t) (rfl:a.length=a.length) X9)
 have ld1:=fZ (σ := ae.of [(id,⟨us (a++b++t),1,false⟩)]) (q:=id) (b:=false) (by simp [ae.of]) (pO (t:=t) (rfl:a.length=a.length) C4)
 have w2:=aW x2 H3
 have w1:=aW x1 Pv
 have w0:=aW hh hhB
 have s2:=tv x2 H3
 have o2:=BW x2 x1 H3 Pv
 rw [<- zG] at o2
 have q1:=BX num hh Ko (by omega)
 have p1:IntKind.i64.wrap (((k+2:Nat):Int)-1)=((k+1:Nat):Int):=by rw [IntKind.wrap_i64];omega
 have hwD:aa (val b)<=1000000:=by
   have h1:=di Ef
   rw [hb] at h1
   have:=cK h1;omega
 have Yc:=FZ (G:=G) Mi (id:=id) (a:=a) (b:=b) (t:=t) Ef (by omega)
 rw [hb] at Yc
 obtain ⟨z,hz⟩:=trimmed b Ef
 have bm:View (ae.of [(id,⟨us (a++b++t),1,false⟩)]) (.osl id 1 a.length (aa (val b)) false) (W (val b)):=by
   have:a++b++t=a++digits (val b)++(zs z++t):=by
     conv=>lhs;rw [hz]
     simp
   rw [this]
   exact FY rfl
 have PB:∀ x,id≠x::p:=kY
 simp only [fh,SS,DD,Nat.reduceAdd,aQ,hV,io2,io1,ld2,ld1,w2,w1,s2,o2,p1,cI Pt,aS,bg,w0,q1]
 refine ⟨by simp [aB], ?_⟩
 by_cases acx:(4294967295<num/hh)
 . have d1:decide ((4294967295:Int)<((num/hh:Nat):Int))=true:=by first | exact ai (by omega) | exact ag (by omega)
   obtain ⟨q0,Vn⟩:∃ q0:Nat,q0=4294967295:=⟨_,rfl⟩
   have H4:q0<ak:=by unfold ak;omega
   have Yd:val b/V<=q0:=by unfold ak at Dh;omega
   have f3:IntKind.u32.wrap (q0:Int)=(q0:Int):=by rw [o7,Nat.mod_eq_of_lt H4]
   have pZ:∀ (σ : ae) (q:Id),bu σ q (.buildSl 1 1 (.int .u32 0) [(0, .int .u32 (q0:Int))])=some { val := .osl q 1 0 1 false,up:=[(q,some ⟨us [q0],1,false⟩)] }:=fun σ q=>xx
   have Pu:=xK V [q0] (by intro w hw;simp at hw;subst hw;exact H4) (by omega) (by simp)
   rw [show val [q0]=q0 from by simp [val]] at Pu
   have f3q:IntKind.u32.wrap 4294967295=(q0:Int):=by rw [<- f3,Vn];try rfl
   simp only [SS,Nat.reduceAdd,d1,f3q,pZ]
   refine cB [(32::p,⟨us [q0],1,false⟩)] Pu (ah.cons (View.pure (aM _)) (ah.cons (fk rfl) ah.nil)) (by simp [ae.put]) ?_
   simp only [SS,Nat.reduceAdd,bf]
   refine VW.dV (α := Nat × Nat) (fun x=>⟨[.osl id 1 a.length (k+3) false,W V, .top, .top, .top, .top, .top, .int .u64 (x.1:Int),W (V*x.1)]++List.replicate 42 .top,ae.of [(id,⟨us (a++b++t),1,false⟩)],x.2⟩)
     (fun x=>val b/V<=x.1/\x.1<ak) (fun x=>x.1) (q0,1000) ?_ ?_ ?_
   . refine Wk.forget (by simp [Fg,List.replicate,Vn]) (fun j => ?_) (by simp only [];omega)
     by_cases e:j=id
     . subst e;right;simp [ae.app,CV,ae.put,ae.of,PB]
     . left;simp [ae.of,List.lookup,show (j==id)=false from by simpa using e]
   . exact ⟨Yd,H4⟩
   rintro ⟨q,nn⟩ ⟨hq1,LO⟩
   simp only [] at hq1 LO
   have hwq:aa (V*q)<=1000000:=by
     have h1:=ly V q
     have h2:aa q<=1:=cK (by simpa using LO)
     omega
   have hcv:=hc (val b) (V*q) hwD hwq
   simp only [SS,Nat.reduceAdd]
   refine ⟨[(id,⟨us (a++b++t),1,false⟩)],_,Yc _,by simp [ae.of],by simp, ?_⟩
   simp only [SS,Nat.reduceAdd]
   refine xi [(id,⟨us (a++b++t),1,false⟩)] hcv (ah.cons bm (ah.cons (View.pure (aM _)) ah.nil)) (fun _ _ _ _ _ h=>by simpa [aG] using h) (by simp [ae.of]) ?_
   by_cases hlt:val b<V*q
   . have d2:decide (de (val b) (V*q)<0)=true:=ai (by simp only [de,eP];rw [if_pos (by omega)];decide)
     have hqp:1<=q:=by
       rcases Nat.eq_zero_or_pos q with e | e
       . rw [e] at hlt;omega
       . exact e
     have hle:val b/V<=q-1:=by
       have:=(Nat.div_lt_iff_lt_mul Ss).2 (by rw [Nat.mul_comm] at hlt;exact hlt)
       omega
     have pq:IntKind.u64.wrap ((q:Int)-1)=((q-1:Nat):Int):=by rw [IntKind.wrap_u64];unfold ak at LO;omega
     have Di:=hmi (V*q) V (Nat.le_mul_of_pos_right _ hqp) hwq
     have em:V*q-V=V*(q-1):=by rw [Nat.mul_sub,Nat.mul_one]
     rw [em] at Di
     simp only [SS,Nat.reduceAdd,d2,pq]
     refine aq Di (by simp [aM]) ?_
     simp only [SS,Nat.reduceAdd]
     exact ⟨(q-1,_),⟨hle,by simp only [];omega⟩,by simp only [];omega,Wk.slots (by simp [Fg]) (Nat.le_refl _)⟩
   . have d2:decide (de (val b) (V*q)<0)=false:=ag (by simp only [de,eP];rw [if_neg (by omega)];split<;>decide)
     have Tn:q=val b/V:=by
       have:=(Nat.le_div_iff_mul_le Ss).2 (show q*V<=val b by rw [Nat.mul_comm];omega)
       omega
     have f4:IntKind.u32.wrap (q:Int)=(q:Int):=by rw [o7,Nat.mod_eq_of_lt LO]
     simp only [SS,Nat.reduceAdd,d2,f4]
     rw [<- Tn]
     exact jt▸dN rfl fun i => .inr rfl
 by_cases Ye:(¬ 4294967295<num/hh)
 . have d1:decide ((4294967295:Int)<((num/hh:Nat):Int))=false:=by first | exact ai (by omega) | exact ag (by omega)
   obtain ⟨q0,Vn⟩:∃ q0:Nat,q0=(num/hh):=⟨_,rfl⟩
   have H4:q0<ak:=by unfold ak;omega
   have Yd:val b/V<=q0:=by unfold ak at Dh;omega
   have f3:IntKind.u32.wrap (q0:Int)=(q0:Int):=by rw [o7,Nat.mod_eq_of_lt H4]
   have pZ:∀ (σ : ae) (q:Id),bu σ q (.buildSl 1 1 (.int .u32 0) [(0, .int .u32 (q0:Int))])=some { val := .osl q 1 0 1 false,up:=[(q,some ⟨us [q0],1,false⟩)] }:=fun σ q=>xx
   have Pu:=xK V [q0] (by intro w hw;simp at hw;subst hw;exact H4) (by omega) (by simp)
   rw [show val [q0]=q0 from by simp [val]] at Pu
   have f3q:IntKind.u32.wrap ((num/hh:Nat):Int)=(q0:Int):=by rw [<- f3,Vn];try rfl
   simp only [SS,Nat.reduceAdd,d1,f3q,pZ]
   refine cB [(31::p,⟨us [q0],1,false⟩)] Pu (ah.cons (View.pure (aM _)) (ah.cons (fk rfl) ah.nil)) (by simp [ae.put]) ?_
   simp only [SS,Nat.reduceAdd,bf]
   refine VW.dV (α := Nat × Nat) (fun x=>⟨[.osl id 1 a.length (k+3) false,W V, .top, .top, .top, .top, .top, .int .u64 (x.1:Int),W (V*x.1)]++List.replicate 42 .top,ae.of [(id,⟨us (a++b++t),1,false⟩)],x.2⟩)
     (fun x=>val b/V<=x.1/\x.1<ak) (fun x=>x.1) (q0,1000) ?_ ?_ ?_
   . refine Wk.forget (by simp [Fg,List.replicate,Vn]) (fun j => ?_) (by simp only [];omega)
     by_cases e:j=id
     . subst e;right;simp [ae.app,CV,ae.put,ae.of,PB]
     . left;simp [ae.of,List.lookup,show (j==id)=false from by simpa using e]
   . exact ⟨Yd,H4⟩
   rintro ⟨q,nn⟩ ⟨hq1,LO⟩
   simp only [] at hq1 LO
   have hwq:aa (V*q)<=1000000:=by
     have h1:=ly V q
     have h2:aa q<=1:=cK (by simpa using LO)
     omega
   have hcv:=hc (val b) (V*q) hwD hwq
   simp only [SS,Nat.reduceAdd]
   refine ⟨[(id,⟨us (a++b++t),1,false⟩)],_,Yc _,by simp [ae.of],by simp, ?_⟩
   simp only [SS,Nat.reduceAdd]
   refine xi [(id,⟨us (a++b++t),1,false⟩)] hcv (ah.cons bm (ah.cons (View.pure (aM _)) ah.nil)) (fun _ _ _ _ _ h=>by simpa [aG] using h) (by simp [ae.of]) ?_
   by_cases hlt:val b<V*q
   . have d2:decide (de (val b) (V*q)<0)=true:=ai (by simp only [de,eP];rw [if_pos (by omega)];decide)
     have hqp:1<=q:=by
       rcases Nat.eq_zero_or_pos q with e | e
       . rw [e] at hlt;omega
       . exact e
     have hle:val b/V<=q-1:=by
       have:=(Nat.div_lt_iff_lt_mul Ss).2 (by rw [Nat.mul_comm] at hlt;exact hlt)
       omega
     have pq:IntKind.u64.wrap ((q:Int)-1)=((q-1:Nat):Int):=by rw [IntKind.wrap_u64];unfold ak at LO;omega
     have Di:=hmi (V*q) V (Nat.le_mul_of_pos_right _ hqp) hwq
     have em:V*q-V=V*(q-1):=by rw [Nat.mul_sub,Nat.mul_one]
     rw [em] at Di
     simp only [SS,Nat.reduceAdd,d2,pq]
     refine aq Di (by simp [aM]) ?_
     simp only [SS,Nat.reduceAdd]
     exact ⟨(q-1,_),⟨hle,by simp only [];omega⟩,by simp only [];omega,Wk.slots (by simp [Fg]) (Nat.le_refl _)⟩
   . have d2:decide (de (val b) (V*q)<0)=false:=ag (by simp only [de,eP];rw [if_neg (by omega)];split<;>decide)
     have Tn:q=val b/V:=by
       have:=(Nat.le_div_iff_mul_le Ss).2 (show q*V<=val b by rw [Nat.mul_comm];omega)
       omega
     have f4:IntKind.u32.wrap (q:Int)=(q:Int):=by rw [o7,Nat.mod_eq_of_lt LO]
     simp only [SS,Nat.reduceAdd,d2,f4]
     rw [<- Tn]
     exact jt▸dN rfl fun i => .inr rfl
 exact absurd acx Ye
end
end Go.VL
end
