/- For the claim of FeatureOffset: parts CI21, CI22, CI23, KD, KE, VL31, CI24, CR1, CR2, CR3, CR4, CR5, CR6, CR7. -/
import Derived.Test.YtndoagbiakehnaaGreatC06
import Derived.Test.YtndoagbiakehnaaGreatC05
import Derived.Test.YtndoagbiakehnaaGreatC04
set_option linter.unusedSimpArgs false
set_option linter.unusedVariables false
section
set_option linter.unusedVariables false
namespace Go.VL
def IR (neg:Bool) (ws:List Nat):AV := .agg [.bool neg, .sl 1 (us ws)]
theorem Wu (neg:Bool) (ws:List Nat):((IR neg ws).cells.all AV.one=true)=True:=by simp [IR,AV.cells,AV.one]
theorem Wv (neg:Bool) (ws:List Nat):part false (IR neg ws).cells 0 1=some (.bool neg):=rfl
theorem NQ (neg:Bool) (ws:List Nat):part false (IR neg ws).cells 1 1=some (.sl 1 (us ws)):=rfl
def gE (neg:Bool) (ws:List Nat):Bool:=if ws=[] then !neg else decide (ws[ws.length-1]?.getD 0≠0)
theorem R4 {neg:Bool} {ws:List Nat} (hw:Wd ws) (h:gE neg ws=true):IR neg ws=IV (kT neg (val ws)):=by
 unfold gE at h
 by_cases h0:ws=[]
 . subst h0
   rw [if_pos rfl] at h
   have:neg=false:=by simpa using h
   subst this
   simp [IR,IV,kT,val,W,bo,us]
 . rw [if_neg h0] at h
   have hl:0<ws.length:=List.length_pos_iff.2 h0
   obtain ⟨w,ZJ⟩:∃ w,ws[ws.length-1]? = some w:=⟨_,List.getElem?_eq_getElem (by omega)⟩
   rw [ZJ] at h
   have hwz:w≠0:=by simpa using h
   have hd:digits (val ws)=ws:=jG hw (.inr ⟨w,by rw [List.getLast?_eq_getElem?];exact ZJ,hwz⟩)
   have hne:val ws≠0:=fun e=>h0 (by rw [<- hd,e,bo])
   have e1:decide (kT neg (val ws)<0)=neg:=by cases neg<;>simp [kT]<;>omega
   have e2:(kT neg (val ws)).natAbs=val ws:=by cases neg<;>simp [kT]
   unfold IV IR W
   rw [e1,e2,hd]
section
variable {P:Program} {G:Nat->Option (List AV)}
theorem TK {f:FuncId} (h:Has P f rz) (neg:Bool) (ws:List Nat) (hl:ws.length<=9223372036854775807):VP P G f [IR neg ws] (.bool (gE neg ws)):=by
 refine VP.has h ?_
 have hlen:ni false (.sl 1 (us ws))=some (.int .i64 ws.length):=by simp [ni,eL]
 simp only [rz,SS,Nat.reduceAdd,Wu,aj,NQ,hlen]
 by_cases h0:ws=[]
 . have d0:decide ((ws.length:Int)=0)=true:=aw (by rw [h0];rfl)
   have d1:decide ((0:Int)<(ws.length:Int))=false:=ak (by rw [h0];simp)
   have e:gE neg ws = !neg:=by unfold gE;rw [if_pos h0]
   rw [e]
   cases neg <;>
   . simp only [SS,Nat.reduceAdd,d0,d1,aj,Wv]
     exact ai▸af rfl (ab.bool _)
 . have re:0<ws.length:=List.length_pos_iff.2 h0
   have d0:decide ((ws.length:Int)=0)=false:=ak (by omega)
   have d1:decide ((0:Int)<(ws.length:Int))=true:=aw (by omega)
   obtain ⟨w,hw⟩:∃ w,ws[ws.length-1]? = some w:=⟨_,List.getElem?_eq_getElem (by omega)⟩
   have hp:=vz ws.length re hl
   have e:gE neg ws=decide ((w:Int)≠0):=by unfold gE;rw [if_neg h0,hw];simp
   rw [e]
   simp only [SS,Nat.reduceAdd,d0,d1,aj,NQ,hp,fG rfl (qP hw),aK,bp]
   exact ai▸af rfl (ab.bool _)
end
end Go.VL
end

section
set_option linter.unusedVariables false
namespace Go.VL
def RR (n1:Bool) (w1:List Nat) (n2:Bool) (w2:List Nat):AV := .agg [.bool n1, .sl 1 (us w1), .bool n2, .sl 1 (us w2)]
theorem R5 (neg:Bool) (ws:List Nat):ab (IR neg ws):=ab.agg (by intro c hc;simp at hc;rcases hc with rfl | rfl;exact ab.bool _;exact Bm _)
theorem adQ (n1:Bool) (w1:List Nat) (n2:Bool) (w2:List Nat):((RR n1 w1 n2 w2).cells.all AV.one=true)=True:=by simp [RR,AV.cells,AV.one]
theorem ab5 (n1:Bool) (w1:List Nat) (n2:Bool) (w2:List Nat):part true (RR n1 w1 n2 w2).cells 0 2=some (IR n1 w1):=rfl
theorem Ww (n1:Bool) (w1:List Nat) (n2:Bool) (w2:List Nat):part true (RR n1 w1 n2 w2).cells 2 2=some (IR n2 w2):=rfl
section
variable {P:Program} {G:Nat->Option (List AV)}
theorem TL {f fv fs fg fo:FuncId} (h:Has P f (jW fv fs fg fo)) (n1:Bool) (w1:List Nat) (n2:Bool) (w2:List Nat) (QX:Wd w1) (ZJ:Wd w2) (g:Int)
   (qq:VP P G fv [IR n1 w1] (.bool (gE n1 w1))) (xd:VP P G fv [IR n2 w2] (.bool (gE n2 w2))) (hs:VP P G fs [IV (kT n2 (val w2))] (.int .i64 (kT n2 (val w2)).sign))
   (hg:0<kT n2 (val w2)->VP P G fg [IV (kT n1 (val w1)),IV (kT n2 (val w2))] (IV g)) (ho:VP P G fo [IV g] (.bool (decide (g=1)))) :
   VP P G f [RR n1 w1 n2 w2] (.bool (gE n1 w1&&gE n2 w2&&decide (0<kT n2 (val w2))&&decide (g=1))):=by
 refine VP.has h ?_
 simp only [jW,SS,Nat.reduceAdd,adQ,aj,ab5]
 refine ah qq (by simp [R5]) ?_
 by_cases c1:gE n1 w1=true
 . have e1:=R4 QX c1
   simp only [SS,Nat.reduceAdd,c1,aj,Ww,Bool.true_and]
   refine ah xd (by simp [R5]) ?_
   by_cases c2:gE n2 w2=true
   . have e2:=R4 ZJ c2
     simp only [SS,Nat.reduceAdd,c2,aj,Ww,Bool.true_and,e2]
     refine ah hs (by simp [aA]) ?_
     by_cases c3:0<kT n2 (val w2)
     . have d3:decide (0<(kT n2 (val w2)).sign)=true:=aw (by rw [Int.sign_eq_one_of_pos c3];decide)
       have d4:decide (0<kT n2 (val w2))=true:=aw c3
       simp only [SS,Nat.reduceAdd,d3,d4,aj,ab5,Ww,Bool.true_and,e1,e2]
       refine ah (hg c3) (by simp [aA]) ?_
       simp only [SS,Nat.reduceAdd]
       refine ah ho (by simp [aA]) ?_
       simp only [SS,Nat.reduceAdd]
       exact ai▸af rfl (ab.bool _)
     . have d3:decide (0<(kT n2 (val w2)).sign)=false:=ak (by rcases qT (kT n2 (val w2)) with ⟨e,p⟩ | ⟨e,p⟩ | ⟨e,p⟩<;>omega)
       have d4:decide (0<kT n2 (val w2))=false:=ak c3
       simp only [SS,Nat.reduceAdd,d3,d4,Bool.false_and]
       exact ai▸af rfl (ab.bool _)
   . have c2':gE n2 w2=false:=by simpa using c2
     simp only [SS,Nat.reduceAdd,c2',Bool.false_and]
     exact ai▸af rfl (ab.bool _)
 . have c1':gE n1 w1=false:=by simpa using c1
   simp only [SS,Nat.reduceAdd,c1',Bool.false_and]
   exact ai▸af rfl (ab.bool _)
end
end Go.VL
end

section
set_option linter.unusedVariables false
namespace Go.VL
theorem uy {n:Nat} (h:aa n<=2):n<18446744073709551616:=by
 have h1:=de n
 have h2:ay ^ aa n<=ay ^ 2:=Nat.pow_le_pow_right bZ h
 have h3:ay ^ 2=18446744073709551616:=by decide
 omega
theorem A9 {x y g:Nat} (hg:Nat.gcd x y=g):Nat.gcd y (x%y)=g:=by rw [<- hg,Nat.gcd_comm y, <- Nat.gcd_rec,Nat.gcd_comm]
theorem Fk (n:Nat):kT false n=(n:Int):=by simp [kT]
section
variable {P:Program} {G:Nat->Option (List AV)}
theorem adR {f ft fd fc fs ftu fu:FuncId} (h:Has P f (uR ft fd fc fs ftu fu)) (ht:ja P G ft) (hd:∀ m n,n≠0->aa m<=900000->aa n<=900000->VP P G fd [W m,W n] (.tup [W (m/n),W (m%n)]))
   (hc:∀ n,aa n<=1000000->VP P G fc [W n] (W n)) (hs:js P G fs) (htu:∀ n,n<18446744073709551616->VP P G ftu [W n] (.int .u64 ((n:Nat):Int))) (hu:∀ n,n<18446744073709551616->VP P G fu [.int .u64 ((n:Nat):Int)] (W n))
   (a b:Int) (ha:aa a.natAbs<=900000) (hb:aa b.natAbs<=900000):VP P G f [IV a,IV b] (IV (Nat.gcd a.natAbs b.natAbs:Nat)):=by
 refine VP.has h ?_
 have zB:([0]:List Nat)≠[1]:=by decide
 have Fj:([0]:List Nat)≠[2]:=by decide
 have zF:([1]:List Nat)≠[2]:=by decide
 simp only [uR,SS,DD,Nat.reduceAdd,iG,cu,aq zB,aq Fj,aj,iZ]
 refine ao (ng ht a.natAbs (by omega)) (by simp [aC]) ?_
 simp only [SS,DD,Nat.reduceAdd,aq zF,aj,iZ]
 refine ao (ng ht b.natAbs (by omega)) (by simp [aC]) ?_
 simp only [SS,DD,Nat.reduceAdd]
 refine ⟨by simp [ag,apart], ?_⟩
 simp only [aY]
 refine VW.e9 (α := Nat × Nat × Nat) (fun x=>⟨[IV a,IV b, .top, .top, .ref [2] 0 0,W x.1,W x.2.1]++List.replicate 50 .top,
   ae.put (fun _=>none) [2] (some ⟨[.agg [.bool false, .nils]],(AV.agg [.bool false, .nils]).size,false⟩),x.2.2⟩)
   (fun x=>Nat.gcd x.1 x.2.1=Nat.gcd a.natAbs b.natAbs/\aa x.1<=900000/\aa x.2.1<=900000) (fun x=>x.2.1) (a.natAbs,b.natAbs,1000) ?_ ?_ ?_
 . exact Wk.forget (by simp [Fg,List.replicate]) (fun j=>by simp only [ae.put];split<;>simp_all) (by simp only [];omega)
 . exact ⟨rfl,ha,hb⟩
 rintro ⟨x,y,nn⟩ ⟨hg,hx,hy⟩
 simp only [] at hg hx hy
 have g1:2<aa y->decide ((2:Int)<(aa y:Int))=true:=fun h=>aw (by omega)
 have g2 : ¬ 2<aa y->decide ((2:Int)<(aa y:Int))=false:=fun h=>ak (by omega)
 have g3:2<aa x->decide ((2:Int)<(aa x:Int))=true:=fun h=>aw (by omega)
 have g4 : ¬ 2<aa x->decide ((2:Int)<(aa x:Int))=false:=fun h=>ak (by omega)
 have g5:0<aa y->decide ((0:Int)<(aa y:Int))=true:=fun h=>aw (by omega)
 have g6 : ¬ 0<aa y->decide ((0:Int)<(aa y:Int))=false:=fun h=>ak (by omega)
 have e1:0<aa y->decide ((aa y:Int)=0)=false:=fun h=>ak (by omega)
 have e2 : ¬ 0<aa y->decide ((aa y:Int)=0)=true:=fun h=>aw (by omega)
 have PV:0<aa y->y≠0:=fun h e=>by have:=cg.2 e;omega
 have QQ : ¬ 0<aa y->y=0:=fun h=>cg.1 (by omega)
 have hp2:2<aa y->0<aa y:=fun h=>by omega
 have w1:=H6 x y
 have ZJ:aa (x%y)<=900000:=by omega
 have Vh:aa x<=1000000:=by omega
 have hsx:aa x<=9223372036854775807:=by omega
 have hxx : ¬ 2<aa x->x<18446744073709551616:=fun h=>uy (by omega)
 have hyy : ¬ 2<aa y->y<18446744073709551616:=fun h=>uy (by omega)
 have R3:∀ g,g<18446744073709551616->aa g<=9223372036854775807:=fun g h=>by have:=qR g h;omega
 clear w1
 simp only [SS,Nat.reduceAdd]
 by_cases c1:2<aa y
 . have re:=hp2 c1
   have YM:=hd x y (PV re) hx hy
   simp only [SS,Nat.reduceAdd,bb,g1 c1]
   refine ah YM (by simp [aC]) ?_
   simp only [SS,Nat.reduceAdd,CQ,CR]
   exact ⟨(y,x%y,_),⟨A9 hg,hy,ZJ⟩,Nat.mod_lt _ (Nat.pos_of_ne_zero (PV re)),Wk.slots (by simp [Fg]) (Nat.le_refl _)⟩
 by_cases c3:0<aa y
 . by_cases c2:2<aa x
   . have YM:=hd x y (PV c3) hx hy
     simp only [SS,Nat.reduceAdd,bb,g2 c1,g3 c2,g5 c3]
     refine ah YM (by simp [aC]) ?_
     simp only [SS,Nat.reduceAdd,CQ,CR]
     exact ⟨(y,x%y,_),⟨A9 hg,hy,ZJ⟩,Nat.mod_lt _ (Nat.pos_of_ne_zero (PV c3)),Wk.slots (by simp [Fg]) (Nat.le_refl _)⟩
   . simp only [SS,Nat.reduceAdd,bb,g2 c1,g4 c2,e1 c3]
     refine ah (htu x (hxx c2)) (by simp [aC]) ?_
     simp only [SS,Nat.reduceAdd]
     refine ah (htu y (hyy c1)) (by simp [aC]) ?_
     simp only [SS,Nat.reduceAdd,aY]
     refine VW.e9 (α := Nat × Nat × Nat) (fun x=>⟨[IV a,IV b, .top, .top, .ref [2] 0 0, .top, .top, .top, .top, .int .u64 ((x.1:Nat):Int), .int .u64 ((x.2.1:Nat):Int)]++List.replicate 46 .top,
       ae.put (fun _=>none) [2] (some ⟨[.agg [.bool false, .nils]],(AV.agg [.bool false, .nils]).size,false⟩),x.2.2⟩)
       (fun x=>Nat.gcd x.1 x.2.1=Nat.gcd a.natAbs b.natAbs/\x.1<18446744073709551616/\x.2.1<18446744073709551616) (fun x=>x.2.1) (x,y,nn+1000) ?_ ?_ ?_
     . exact Wk.slots (by simp [Fg,List.replicate]) (by simp only [];omega)
     . exact ⟨hg,hxx c2,hyy c1⟩
     rintro ⟨u,v,mm⟩ ⟨Pq,Pf,hv'⟩
     simp only [] at Pq Pf hv'
     by_cases v0:v=0
     . subst v0
       have d0:decide (((0:Nat):Int)≠0)=false:=by decide
       rw [Nat.gcd_zero_right] at Pq
       have e8:=hs false u (R3 u Pf)
       rw [Fk] at e8
       simp only [SS,Nat.reduceAdd,d0]
       refine ah (hu u Pf) (by simp [ab.int]) ?_
       simp only [SS,Nat.reduceAdd]
       refine ah e8 (by simp [ab.bool,aC]) ?_
       simp only [SS,Nat.reduceAdd,jr]
       rw [<- Pq]
       refine ai▸af (r:=IV (u:Int)) ?_ (aA _)
       simp only [RS,bn,bC,aj];rfl
     . have d0:decide ((v:Int)≠0)=true:=aw (by omega)
       have f1:=Kh u v v0
       have hlt:u%v<18446744073709551616:=Nat.lt_of_le_of_lt (Nat.mod_le _ _) Pf
       simp only [SS,DD,Nat.reduceAdd,d0,f1]
       first
       | exact ⟨(v,u%v,_),⟨A9 Pq,hv',hlt⟩,Nat.mod_lt _ (Nat.pos_of_ne_zero v0),Wk.slots (by simp [Fg,List.replicate]) (Nat.le_refl _)⟩
       | exact ⟨by simp [ag,apart],(v,u%v,_),⟨A9 Pq,hv',hlt⟩,Nat.mod_lt _ (Nat.pos_of_ne_zero v0),Wk.slots (by simp [Fg]) (Nat.le_refl _)⟩
 . have hyz:=QQ c3
   rw [hyz,Nat.gcd_zero_right] at hg
   have e8:=hs false x hsx
   rw [Fk] at e8
   by_cases c2:2<aa x
   . simp only [SS,Nat.reduceAdd,bb,g2 c1,g3 c2,g6 c3,e2 c3]
     refine ah (hc x Vh) (by simp [aC]) ?_
     simp only [SS,Nat.reduceAdd]
     refine ah e8 (by simp [ab.bool,aC]) ?_
     simp only [SS,Nat.reduceAdd,jr]
     rw [<- hg]
     refine ai▸af (r:=IV (x:Int)) ?_ (aA _)
     simp only [RS,bn,bC,aj];rfl
   . simp only [SS,Nat.reduceAdd,bb,g2 c1,g4 c2,e2 c3]
     refine ah (hc x Vh) (by simp [aC]) ?_
     simp only [SS,Nat.reduceAdd]
     refine ah e8 (by simp [ab.bool,aC]) ?_
     simp only [SS,Nat.reduceAdd,jr]
     rw [<- hg]
     refine ai▸af (r:=IV (x:Int)) ?_ (aA _)
     simp only [RS,bn,bC,aj];rfl
end
end Go.VL
end

section
namespace Go.VL
section
variable {b M h l v' V num u2 u' U:Nat}
theorem ahl (hV:V=(h*b+l)*M+v'):V=h*(b*M)+l*M+v':=by rw [hV,Nat.add_mul,Nat.mul_assoc]
theorem alC (hU:U=(num*b+u2)*M+u'):U=num*(b*M)+u2*M+u':=by rw [hU,Nat.add_mul,Nat.mul_assoc]
theorem ahm (h2:u2<b) (h1:u'<M):u2*M+u'<b*M:=by
 have:(u2+1)*M<=b*M:=Nat.mul_le_mul_right _ h2
 rw [Nat.add_mul] at this;omega
theorem NR (h0:0<h) (hV:V=(h*b+l)*M+v') (hU:U=(num*b+u2)*M+u') (h2:u2<b) (h1:u'<M):U/V<=num/h:=by
 have hbM:=ahm h2 h1
 have eV:=ahl hV
 have eU:=alC hU
 have UX:0<V:=by
   have:1*(b*M)<=h*(b*M):=Nat.mul_le_mul_right _ h0
   omega
 refine Nat.le_of_lt_succ ((Nat.div_lt_iff_lt_mul UX).2 ?_)
 have hq:num+1<=(num/h+1)*h:=by rw [Nat.mul_comm];exact Nat.lt_mul_div_succ num h0
 have h3:(num/h+1)*(h*(b*M))<=(num/h+1)*V:=Nat.mul_le_mul_left _ (by omega)
 have h4:(num+1)*(b*M)<=(num/h+1)*h*(b*M):=Nat.mul_le_mul_right _ hq
 rw [Nat.mul_assoc] at h4
 rw [Nat.add_mul] at h4
 show U<(num/h+1)*V
 omega
theorem ZK {q r:Nat} (hV:V=(h*b+l)*M+v') (hU:U=(num*b+u2)*M+u') (h1:u'<M) (hq:q*h+r=num) (ht:r*b+u2<q*l):U/V<=q-1:=by
 have h3:num*b+u2+1<=q*(h*b+l):=by
   rw [<- hq,Nat.add_mul,Nat.mul_add, <- Nat.mul_assoc];omega
 have h4:(num*b+u2+1)*M<=q*(h*b+l)*M:=Nat.mul_le_mul_right _ h3
 have h5:U<q*V:=by
   rw [hV,Nat.mul_add, <- Nat.mul_assoc]
   rw [Nat.add_mul] at h4
   omega
 have UX:0<V:=by
   rcases Nat.eq_zero_or_pos V with e | e
   . rw [e] at h5;simp at h5
   . exact e
 have:=(Nat.div_lt_iff_lt_mul UX).2 h5
 omega
theorem R6 {q r:Nat} (h0:0<h) (hV:V=(h*b+l)*M+v') (hU:U=(num*b+u2)*M+u') (hv:v'<M) (hqb:q<b) (hq:q*h+r=num) (ht:q*l<=r*b+u2):q<=U/V+1:=by
 have h3:q*(h*b+l)<=num*b+u2:=by
   rw [<- hq,Nat.add_mul,Nat.mul_add, <- Nat.mul_assoc];omega
 have h4:q*(h*b+l)*M<=(num*b+u2)*M:=Nat.mul_le_mul_right _ h3
 have h5:q*v'<=b*M:=by
   have a1:q*v'<=b*v':=Nat.mul_le_mul_right _ (Nat.le_of_lt hqb)
   have a2:b*v'<=b*M:=Nat.mul_le_mul_left _ (Nat.le_of_lt hv)
   omega
 have eV:=ahl hV
 have h6:1*(b*M)<=h*(b*M):=Nat.mul_le_mul_right _ h0
 have h7:q*V<=U+V:=by
   have:q*V=q*(h*b+l)*M+q*v':=by rw [hV,Nat.mul_add, <- Nat.mul_assoc]
   omega
 rcases Nat.eq_zero_or_pos q with e | e
 . rw [e];exact Nat.zero_le _
 . have h8:(q-1)*V<=U:=by
     have:q*V=(q-1)*V+V:=by
       have:=Nat.sub_add_cancel e
       calc q*V=(q-1+1)*V:=by rw [this]
         _=(q-1)*V+V:=by rw [Nat.add_mul,Nat.one_mul]
     omega
   have UX:0<V:=by
     have hM:0<M:=by omega
     have:0<b*M:=Nat.mul_pos (by omega) hM
     omega
   have:=(Nat.le_div_iff_mul_le UX).2 h8
   omega
theorem Wx {q r:Nat} (hn:num<(h+1)*b) (hl:l<b) (hq:q*h+r=num) (hr:b<=r):q<b/\q*l<=r*b+u2:=by
 have hqb:q<b:=by
   rw [Nat.add_mul,Nat.one_mul] at hn
   have h1:q*h<b*h:=by rw [Nat.mul_comm b h];omega
   exact Nat.lt_of_mul_lt_mul_right h1
 refine ⟨hqb, ?_⟩
 have h1:q*l<=b*b:=Nat.mul_le_mul (Nat.le_of_lt hqb) (Nat.le_of_lt hl)
 have h2:b*b<=r*b:=Nat.mul_le_mul_right _ hr
 omega
theorem adT {q:Nat} (UX:0<V) (hle:U/V<=q) (ab7:q<=U/V+1):(U<q*V/\q=U/V+1∨q*V<=U/\q=U/V):=by
 by_cases h:U<q*V
 . left
   have:=(Nat.div_lt_iff_lt_mul UX).2 h
   exact ⟨h,by omega⟩
 . right
   have:=(Nat.le_div_iff_mul_le UX).2 (Nat.le_of_not_lt h)
   exact ⟨by omega,by omega⟩
end
end Go.VL
end

section
namespace Go.VL
theorem ahn {ds:List Nat} {j h l:Nat} (hw:Wd ds) (hl:ds.length=j+2) (h1:ds[j+1]? = some h) (h0:ds[j]? = some l) :
   val ds=(h*ay+l)*ay ^ j+val (ds.take j)/\val (ds.take j)<ay ^ j:=by
 have e1:=aG h1
 have e0:=aG h0
 have e2:ds.take (j+1+1)=ds:=List.take_of_length_le (by omega)
 have h3:=eF (jP hw j)
 rw [List.length_take,Nat.min_eq_left (by omega)] at h3
 rw [e2,e0] at e1
 refine ⟨?_,h3⟩
 have e4:(h*ay+l)*ay ^ j=ay ^ (j+1)*h+ay ^ j*l:=by
   rw [Nat.add_mul,Nat.pow_succ,Nat.mul_comm l,Nat.mul_assoc,Nat.mul_comm h,Nat.mul_comm ay]
 omega
theorem aho {ds:List Nat} {j x2 x1 x0:Nat} (hw:Wd ds) (hl:ds.length=j+3) (h2:ds[j+2]? = some x2) (h1:ds[j+1]? = some x1) (h0:ds[j]? = some x0) :
   val ds=((x2*ay+x1)*ay+x0)*ay ^ j+val (ds.take j)/\val (ds.take j)<ay ^ j:=by
 have e2:=aG h2
 have e1:=aG h1
 have e0:=aG h0
 have e3:ds.take (j+2+1)=ds:=List.take_of_length_le (by omega)
 have h3:=eF (jP hw j)
 rw [List.length_take,Nat.min_eq_left (by omega)] at h3
 rw [e3,e1,e0] at e2
 refine ⟨?_,h3⟩
 have e4:((x2*ay+x1)*ay+x0)*ay ^ j=ay ^ (j+2)*x2+ay ^ (j+1)*x1+ay ^ j*x0:=by
   rw [Nat.add_mul,Nat.add_mul,Nat.add_mul,Nat.mul_comm x0]
   have a:ay ^ (j+1)*x1=x1*ay*ay ^ j:=by rw [Nat.pow_succ,Nat.mul_comm,Nat.mul_assoc,Nat.mul_comm ay]
   have b:ay ^ (j+2)*x2=x2*ay*ay*ay ^ j:=by
     have e:ay ^ (j+2)=ay ^ j*ay*ay:=by rw [show j+2=j+1+1 from rfl,Nat.pow_succ,Nat.pow_succ]
     rw [e]
     generalize ay ^ j=Y
     generalize ay=Z
     simp only [Nat.mul_comm,Nat.mul_left_comm]
   omega
 omega
theorem R7 {x:Nat} (h:x<ay) (h0:0<x):1<=gg x/\gg x<=32:=by
 obtain ⟨a,b⟩:=tq h h0
 constructor
 . rcases Nat.eq_zero_or_pos (gg x) with e | e
   . rw [e] at a;simp at a;omega
   . exact e
 . have h2:2 ^ gg x<2 ^ 33:=by unfold ay at h;omega
   have:=(Nat.pow_lt_pow_iff_right (by decide:1<2)).1 h2
   omega
theorem D0 {n x k:Nat} (hk:aa n=k+1) (hx:(digits n)[k]? = some x) :
   0<x/\x<ay/\n*2 ^ (32-gg x)<ay ^ (k+1)/\aa (n*2 ^ (32-gg x))=k+1/\32-gg x<=31:=by
 have tH:=aQ n x (List.mem_of_getElem? hx)
 have NA:0<x:=by
   rcases uv (n:=n) with h | ⟨w,h,hw⟩
   . rw [h] at hx;simp at hx
   . rw [List.getLast?_eq_getElem?,show (digits n).length-1=k from by show aa n-1=k;omega,hx] at h
     simp only [Option.some.injEq] at h;omega
 obtain ⟨yr,zE⟩:=R7 tH NA
 have B2:=(tq tH NA).1
 have e:=aG hx
 rw [List.take_of_length_le (show (digits n).length<=k+1 from by show aa n<=k+1;omega),aI] at e
 have h3:=eF (jP (aQ n) k)
 rw [List.length_take,Nat.min_eq_left (show k<=(digits n).length from by show k<=aa n;omega)] at h3
 have h4:n+1<=ay ^ k*2 ^ gg x:=by
   have:ay ^ k*(x+1)<=ay ^ k*2 ^ gg x:=Nat.mul_le_mul_left _ B2
   rw [Nat.mul_add] at this;omega
 have h5:(n+1)*2 ^ (32-gg x)<=ay ^ (k+1):=by
   have:=Nat.mul_le_mul_right (2 ^ (32-gg x)) h4
   rw [Nat.mul_assoc, <- Nat.pow_add,show gg x+(32-gg x)=32 from by omega] at this
   rw [Nat.pow_succ];exact this
 have hp:=Nat.two_pow_pos (32-gg x)
 have h6:n*2 ^ (32-gg x)<ay ^ (k+1):=by rw [Nat.add_mul] at h5;omega
 refine ⟨NA,tH,h6, ?_,by omega⟩
 have h7:=dH h6
 have h8:aa n<=aa (n*2 ^ (32-gg x)):=bg (Nat.le_mul_of_pos_right _ hp)
 omega
theorem ahp {x R V:Nat} (hx:x<ay) (hR:R<V):x+ay*R<ay*V/\(x+ay*R)/V<ay:=by
 have:ay*(R+1)<=ay*V:=Nat.mul_le_mul_left _ hR
 have h:x+ay*R<ay*V:=by rw [Nat.mul_add] at this;omega
 exact ⟨h,Nat.div_lt_of_lt_mul (by rw [Nat.mul_comm V];exact h)⟩
theorem adU {num u2 M u' h l v' V D:Nat} (hl:l<ay) (hv:v'<M) (hV:V=(h*ay+l)*M+v') (hD:D=(num*ay+u2)*M+u') (hlt:D<ay*V):num<(h+1)*ay:=by
 have h1:V<(h+1)*ay*M:=by
   have:(h*ay+l+1)*M<=(h+1)*ay*M:=Nat.mul_le_mul_right _ (by rw [Nat.add_mul];omega)
   rw [Nat.add_mul,Nat.one_mul] at this;omega
 have h2:num*(ay*M)<=D:=by
   have:num*ay*M<=(num*ay+u2)*M:=Nat.mul_le_mul_right _ (by omega)
   rw [Nat.mul_assoc] at this;omega
 have h3:ay*V<(h+1)*ay*(ay*M):=by
   have:=Nat.mul_lt_mul_of_pos_left h1 bZ
   rw [Nat.mul_left_comm] at this;exact this
 exact Nat.lt_of_mul_lt_mul_right (a:=ay*M) (by omega)
theorem NS {U a0 i x O V R q r:Nat} (hU:U=a0+ay ^ i*x+ay ^ (i+1)*(O*V+R)) (hD:x+ay*R=q*V+r):U=a0+ay ^ i*((q+ay*O)*V+r):=by
 have e:ay ^ (i+1)*(O*V+R)=ay ^ i*(ay*(O*V))+ay ^ i*(ay*R):=by
   rw [Nat.pow_succ,Nat.mul_assoc, <- Nat.mul_add, <- Nat.mul_add]
 have e2:ay ^ i*((q+ay*O)*V+r)=ay ^ i*(q*V+r)+ay ^ i*(ay*(O*V)):=by
   rw [<- Nat.mul_add,Nat.add_mul,Nat.mul_assoc];congr 1;omega
 rw [hU,e,e2, <- hD,Nat.mul_add];omega
theorem Lz {k r:Nat} (h:r<ay ^ k):pad (k+1) r=pad k r++[0]:=by
 have e1:val (pad k r++[0])=r:=by rw [jH,cH h]
 have e2:(pad k r++[0]).length=k+1:=by simp [dR]
 have h1:=qa (c9 (mM k r) (b:=[0]) (fun z hz=>by rw [List.mem_singleton.1 hz];exact bZ))
 rw [e1,e2] at h1
 exact h1
theorem Wy {k D V q:Nat} (h:D%V<ay ^ k) (hq:q=D/V):pad (k+1) (D+ay ^ (k+1)-q*V)=pad k (D%V)++[0]:=by
 have h1:=Nat.mod_add_div D V
 rw [Nat.mul_comm] at h1
 have:D+ay ^ (k+1)-q*V=D%V+ay ^ (k+1)*1:=by rw [hq];omega
 rw [this,Gy,Lz h]
theorem Wz {k D V q:Nat} (h0:0<V) (h:D%V<ay ^ k) (hV:V<ay ^ k) (hq:q=D/V+1):pad (k+1) (val (pad (k+1) (D+ay ^ (k+1)-q*V))+V)=pad k (D%V)++[0]:=by
 have h1:=Nat.mod_add_div D V
 rw [Nat.mul_comm] at h1
 have e:q*V=D/V*V+V:=by rw [hq,Nat.add_mul,Nat.one_mul]
 have h2:ay ^ k<=ay ^ (k+1):=Nat.pow_le_pow_right bZ (by omega)
 have h3:D%V<V:=Nat.mod_lt _ h0
 rw [cH (by omega)]
 have:D+ay ^ (k+1)-q*V+V=D%V+ay ^ (k+1)*1:=by omega
 rw [this,Gy,Lz h]
theorem NT {m s V N k c A R:Nat} (hN:V=N*2 ^ s) (hNk:ay ^ (k-1)<=N) (hm:m<ay ^ (c+(k-1))) (hU:m*2 ^ s=A+ay ^ c*R):R<V:=by
 rcases Nat.lt_or_ge R V with h | h
 . exact h
 . exfalso
   have h1:ay ^ c*V<=ay ^ c*R:=Nat.mul_le_mul_left _ h
   have h2:ay ^ c*(ay ^ (k-1)*2 ^ s)<=ay ^ c*V:=by rw [hN];exact Nat.mul_le_mul_left _ (Nat.mul_le_mul_right _ hNk)
   rw [<- Nat.mul_assoc, <- Nat.pow_add] at h2
   have h3:=Nat.mul_lt_mul_of_pos_right hm (Nat.two_pow_pos s)
   omega
theorem adV {q r num h l u2 M u' v' V D:Nat} (hl:l<ay) (hvM:v'<M) (huM:u'<M) (h0:0<h) (hV:V=(h*ay+l)*M+v') (hD:D=(num*ay+u2)*M+u') (hlt:D<ay*V) (hdB:D/V<ay)
   (hq:q*h+r=num) (hle:D/V<=q) (ht:ay<=q∨r*ay+u2<q*l):1<=q/\D/V<=q-1/\(q-1)*h+(r+h)=num/\(ay<=r+h->q-1<ay/\q-1<=D/V+1):=by
 have hq1:1<=q:=by
   rcases Nat.eq_zero_or_pos q with e | e
   . subst e
     rcases ht with h1 | h1
     . unfold ay at h1;omega
     . simp at h1
   . exact e
 have alD:D/V<=q-1:=by
   rcases ht with h1 | h1
   . omega
   . exact ZK hV hD huM hq h1
 have hs:(q-1)*h+(r+h)=num:=by
   obtain ⟨p,rfl⟩:∃ p,q=p+1:=⟨q-1,by omega⟩
   rw [Nat.add_mul] at hq
   simp only [Nat.add_sub_cancel];omega
 refine ⟨hq1,alD,hs,fun hb => ?_⟩
 obtain ⟨a,c⟩:=Wx (u2:=u2) (adU hl hvM hV hD hlt) hl hs hb
 exact ⟨a,R6 h0 hV hD hvM a hs c⟩
theorem R8 {m n s O r:Nat} (_hn:n≠0) (hU:m*2 ^ s=O*(n*2 ^ s)+r) (hr:r<n*2 ^ s):O=m/n/\r/2 ^ s=m%n/\aa r<=aa (n*2 ^ s):=by
 have hp:=Nat.two_pow_pos s
 have h1:r=(m-O*n)*2 ^ s:=by
   rw [Nat.sub_mul,Nat.mul_assoc];omega
 have h2:m-O*n<n:=by
   rw [h1] at hr;exact Nat.lt_of_mul_lt_mul_right hr
 have h3:O*n<=m:=by
   have:O*n*2 ^ s<=m*2 ^ s:=by rw [Nat.mul_assoc];omega
   exact Nat.le_of_mul_le_mul_right this hp
 have h4:(m-O*n)+n*O=m:=by rw [Nat.mul_comm n];omega
 have h5:m/n=O/\m%n=m-O*n:=(Nat.div_mod_unique (Nat.pos_of_ne_zero _hn)).2 ⟨h4,h2⟩
 refine ⟨h5.1.symm, ?_,bg (Nat.le_of_lt hr)⟩
 rw [h1,Nat.mul_div_cancel _ hp,h5.2]
theorem yi {a b t:List Nat} {i j x:Nat} (ha:a.length=i) (h:b[j]? = some x):(a++b++t)[i+j]? = some x:=by
 have hj:=(List.getElem?_eq_some_iff.1 h).1
 rw [List.append_assoc,List.getElem?_append_right (by omega),List.getElem?_append_left (by omega), <- h]
 congr 1;omega
theorem yj {a:List Nat} {i:Nat} (h:a.length=i+1):∃ b x,a=b++[x]/\b.length=i:=by
 refine ⟨a.take i,a[i]'(by omega), ?_,by simp;omega⟩
 rw [<- List.take_succ_eq_append_getElem,List.take_of_length_le (by omega)]
end Go.VL
end

section
namespace Go.VL
section
variable {P:Program} {G:Nat->Option (List AV)} {π : Id} {Q:bM->VS->Prop} {s:VS}
theorem VW.TM {x y:bY} (h:VW P G π x (Then (VW P G π y Q) Q) s):VW P G π (.seq x y) Q s :=
 VW.seq (h.mono fun e _ hq=>by cases e<;>exact hq)
theorem VW.WA {id:Nat} {x:bY} (h:VW P G π x (Tt id Q) s):VW P G π (.block id x) Q s :=
 VW.block (h.mono fun e _ hq=>by cases e<;>exact hq)
theorem VW.cut {x:bY} {s':VS} (hw:Wk G π s s') (h:yL P G π x Q s'):VW P G π x Q s:=VW.wk hw (VW.of h)
theorem VW.yJ {α : Type} {x:bY} {s:VS} (st : α -> VS) (Pr : α -> Prop) (m : α -> Nat) (x0 : α) (hw:Wk G π s (st x0)) (h0:Pr x0)
   (h:∀ a,Pr a->VW P G π x (JV G π st Pr m a Q) (st a)):VW P G π (.loop x) Q s:=by
 refine VW.wk hw ?_
 intro c hc own E w a R hm hR
 cases c<;>simp only [ij,Option.some.injEq,reduceCtorEq] at hc
 case loop cb =>
   cases h1:ij P cb with
   | none=>simp [h1] at hc
   | some vb =>
     simp only [h1,Option.map_some,Option.some.injEq,bY.loop.injEq] at hc
     subst hc
     refine zP (α := α) (fun g a' w'=>Pr g/\∃ E',nk own π E E' w w'/\mR G π own E' w' (st g) a') m (x:=x0) ⟨h0,E,nk.refl own π E w,hm⟩ ?_
     rintro g a2 w2 ⟨hI2,E2,Ts,BI⟩
     refine (h g hI2) cb h1 own E2 w2 a2 _ BI ?_
     intro e s' E' w' a' hq had tI
     cases e with
     | normal =>
       obtain ⟨g',hI3,hlt,hw3⟩:=hq
       obtain ⟨E3,ad3,hm3⟩:=hw3 own E' w' a' tI
       exact ⟨g',⟨hI3,E3,(Ts.trans had).trans ad3,hm3⟩,hlt⟩
     | exit id=>exact hR (.exit id) s' E' w' a' hq (Ts.trans had) tI
     | ret=>exact hR .ret s' E' w' a' hq (Ts.trans had) tI
 case region=>exfalso;revert hc;unfold mP;(repeat' split)<;>simp
 all_goals (exfalso;revert hc;(repeat' split)<;>simp)
theorem FL {base:Nat} {n:Nat} {ps:List (Nat × Nat)} {d:Option Nat} {os:List bx} {i:Nat} {acc:List fL} {t:List AV} {σ : ae} {f:FuncId} {args lZ:List AV} {r:AV} (S:List (Id × dc))
   (h:VP P G f lZ r) (hv:az (ae.of S) args lZ) (hS:∀ x∈S, σ x.1=some x.2) (k:vd P G π base Q n ps os (i+1) ({ val:=r,rd:=S.map (·.1),up:=FC S }::acc) (hJ t d r) (σ.app (FC S))):Hd P G π base Q n ps d os i acc t σ f args :=
 ⟨S,_,aM.K4 h hv,hS,fun x hx=>List.mem_map.2 ⟨x,hx,rfl⟩,k⟩
end
theorem Kl {id:Id} {k len l h:Nat} (h1:l<h) (h2:h<=len):gh k (.osl id k 0 len false) (some (.int .i64 (l:Int))) (some (.int .i64 (h:Int))) none=some (.osl id k l (h-l) false):=by
 rcases Nat.eq_zero_or_pos l with rfl | hp
 . simp [gh,iW,lv,h2]
 . simp [gh,iW,lv,h2,Nat.le_of_lt h1,Nat.ne_of_gt hp,Nat.ne_of_lt h1]
theorem CS {id:Id} {k len h:Nat} (h2:h<=len):gh k (.osl id k 0 len false) none (some (.int .i64 (h:Int))) none=some (.osl id k 0 h false):=by
 simp [gh,iW,lv,h2]
end Go.VL
end

section
set_option linter.unusedVariables false
namespace Go.VL
section
variable {P:Program} {G:Nat->Option (List AV)}
theorem adX {q Q:Nat} (h1:q=Q+1) (h2:q<ay):IntKind.u64.wrap ((q:Int)-1)=((Q:Nat):Int):=by
 subst h1;rw [IntKind.wrap_u64];unfold ay at h2;omega
theorem NU {id:Id} {a t:List Nat} {b tt:Bool} {n:Nat} (hn:n=a.length):View (ae.of [(id,⟨us (a++t),1,b⟩)]) (.osl id 1 0 n tt) (.sl 1 (us a)):=by
 subst hn
 refine View.osl (bk:=⟨us (a++t),1,b⟩) (by simp [ae.of]) rfl (by simp [eL]) ?_ (by rw [eL]) (yd a)
 have:((us (a++t)).drop 0).take a.length=us a:=by rw [List.drop_zero,Ls];simp
 show az _ (flat (((us (a++t)).drop 0).take a.length)) _
 rw [this]
 exact az.pure (tk a)
set_option maxRecDepth 100000 in
set_option maxHeartbeats 4000000 in
theorem TN {f fc fcl ftu fu fdw flz fsl ft fsu fre fsr:FuncId} (h:Has P f (qx fc fcl ftu fu fdw flz fsl ft fsu fre fsr))
   (hc:∀ m n,aa m<=1000000->aa n<=1000000->VP P G fc [W m,W n] (.int .i64 (eM m n))) (I4:∀ n,aa n<=1000000->VP P G fcl [W n] (W n))
   (htu:∀ n,n<18446744073709551616->VP P G ftu [W n] (.int .u64 ((n:Nat):Int))) (hu:∀ n,n<18446744073709551616->VP P G fu [.int .u64 ((n:Nat):Int)] (W n))
   (hdw:∀ m w:Nat,aa m<=1000000->w<ay->w≠0->VP P G fdw [W m, .int .u32 (w:Int)] (.tup [W (m/w),W (m%w)]))
   (hlz:∀ x:Nat,x<ay->0<x->VP P G flz [.int .u32 (x:Int)] (.int .i64 ((32-gg x:Nat):Int)))
   (G4:Has P fsl jN) (ht:ja P G ft) (hsu:Has P fsu kv) (hre:Has P fre lM) (UQ:Has P fsr gR)
   (m n:Nat) (Gv:n≠0) (hm:aa m<=900000) (hn:aa n<=900000):VP P G f [W m,W n] (.tup [W (m/n),W (m%n)]):=by
 refine VP.has h ?_
 have adY:=hc m n (by omega) (by omega)
 have alF:=I4 m (by omega)
 have TD:m/n=0->∀ σ,View σ .nils (W (m/n)):=fun h σ => by rw [h];simp only [W,bo,us];exact View.nils 1
 have adZ:m<n->m/n=0/\m%n=m:=fun h=>⟨Nat.div_eq_of_lt h,Nat.mod_eq_of_lt h⟩
 have c1:m<n->decide (eM m n<0)=true:=fun h=>aw (by simp only [eM,iF];rw [if_pos (by omega)];decide)
 have c2 : ¬ m<n->decide (eM m n<0)=false:=fun h=>ak (by simp only [eM,iF];rw [if_neg (by omega)];split<;>decide)
 have l1:aa m<=2->decide ((aa m:Int)<=2)=true:=fun h=>aw (by omega)
 have l2 : ¬ aa m<=2->decide ((aa m:Int)<=2)=false:=fun h=>ak (by omega)
 have b1:aa n=1->decide ((aa n:Int)=1)=true:=fun h=>aw (by omega)
 have b2 : ¬ aa n=1->decide ((aa n:Int)=1)=false:=fun h=>ak (by omega)
 simp only [qx,SS,Nat.reduceAdd]
 refine ah adY (by simp [aC]) ?_
 by_cases h1:m<n
 . simp only [SS,Nat.reduceAdd,c1 h1]
   refine ah alF (by simp [aC]) ?_
   simp only [SS,Nat.reduceAdd]
   obtain ⟨e1,e2⟩:=adZ h1
   refine ai▸⟨.tup [.nils,W m],rfl,View.tup (az.cons (TD e1 _) (az.cons ?_ az.nil))⟩
   rw [e2];exact View.pure (aC _)
 have zH:n<=m:=by omega
 have hwn:aa n≠0:=fun e=>Gv (cg.1 e)
 by_cases h2:aa m<=2
 . have BI:=uy h2
   have Y7:n<18446744073709551616:=by omega
   have hq:=Kg m n BI Gv
   have hr:=Kh m n Gv
   have hu1:=hu (m/n) (Nat.lt_of_le_of_lt (Nat.div_le_self _ _) BI)
   have hu2:=hu (m%n) (Nat.lt_of_le_of_lt (Nat.mod_le _ _) BI)
   simp only [SS,Nat.reduceAdd,c2 h1,bb,l1 h2]
   refine ah (htu m BI) (by simp [aC]) ?_
   simp only [SS,Nat.reduceAdd]
   refine ah (htu n Y7) (by simp [aC]) ?_
   simp only [SS,DD,Nat.reduceAdd,hq]
   refine ao hu1 (by simp [ab.int]) ?_
   simp only [SS,DD,Nat.reduceAdd,hr]
   refine ao hu2 (by simp [ab.int]) ?_
   simp only [SS,DD,Nat.reduceAdd]
   refine ⟨by simp [ag,apart], ?_⟩
   exact ai▸af rfl (ab.tup (by intro c hc;simp at hc;rcases hc with rfl | rfl<;>exact aC _))
 by_cases h3:aa n=1
 . obtain ⟨x,hx⟩:∃ x,(digits n)[0]? = some x:=⟨_,List.getElem?_eq_getElem (by show 0<aa n;omega)⟩
   have hxn:x=n:=by
     have e:=aG hx
     rw [List.take_of_length_le (show (digits n).length<=1 from by show aa n<=1;omega),aI] at e
     simp [val] at e;omega
   have hg:=dx hx
   rw [hxn] at hg
   have hnB:n<ay:=by rw [<- hxn];exact aQ n x (List.mem_of_getElem? hx)
   have YM:=hdw m n (by omega) hnB Gv
   have Pq:bK 1 (W n) (.int .i64 0)=some (.ep (AV.int .u32 (n:Int)).cells 0):=hg
   simp only [SS,Nat.reduceAdd,c2 h1,bb,l2 h2,b1 h3,Pq,aK,bp]
   refine ah YM (by simp [aC,ab.int]) ?_
   simp only [SS,Nat.reduceAdd,CQ,CR]
   exact ai▸af rfl (ab.tup (by intro c hc;simp at hc;rcases hc with rfl | rfl<;>exact aC _))
 -- Knuth's algorithm D
 obtain ⟨k,hk⟩:∃ k,aa n=k+2:=⟨aa n-2,by omega⟩
 obtain ⟨x,hx⟩:∃ x,(digits n)[k+1]? = some x:=⟨_,List.getElem?_eq_getElem (by show k+1<aa n;omega)⟩
 obtain ⟨NA,hxB,hV,hwV,hs⟩:=D0 hk hx
 generalize hsd:32-gg x=s at hV hwV hs
 have aht:=hlz x hxB NA
 rw [hsd] at aht
 have p1:IntKind.i64.wrap (((k+2:Nat):Int)-1)=((k+1:Nat):Int):=by rw [IntKind.wrap_i64];omega
 have p2:IntKind.i64.wrap (((k+2:Nat):Int)-2)=((k:Nat):Int):=by rw [IntKind.wrap_i64];omega
 obtain ⟨V,TP⟩:∃ V,V=n*2 ^ s:=⟨_,rfl⟩
 obtain ⟨U,ZL⟩:∃ U,U=m*2 ^ s:=⟨_,rfl⟩
 rw [<- TP] at hV hwV
 have PW:=DO (G:=G) G4 m s (by omega) hs
 have PX:=DO (G:=G) G4 n s (by omega) hs
 rw [<- TP] at PX
 rw [<- ZL] at PW
 obtain ⟨L,hL⟩:∃ L,aa m+1=L+(k+2):=⟨aa m+1-(k+2),by have:=bg zH;omega⟩
 have hUB:U<ay ^ (aa m+1):=by
   have h4:2 ^ s<=2 ^ 32:=Nat.pow_le_pow_right (by decide) (by omega)
   have h5:m*2 ^ s<=m*2 ^ 32:=Nat.mul_le_mul_left _ h4
   have h6:m*2 ^ 32<ay ^ aa m*2 ^ 32:=Nat.mul_lt_mul_of_pos_right (de m) (by decide)
   rw [Nat.pow_succ,ZL];exact Nat.lt_of_le_of_lt h5 h6
 obtain ⟨A0,R0,hAR,hA0,hR0⟩:∃ A R,pad (aa m+1) U=A++R++[]/\A.length=L/\R.length=k+2 :=
   ⟨(pad (aa m+1) U).take L,(pad (aa m+1) U).drop L,by simp,by simp [dR];omega,by simp [dR];omega⟩
 have hAw:Wd A0/\Wd R0:=by
   have h4:=mM (aa m+1) U
   rw [hAR] at h4
   exact ⟨fun w hw=>h4 w (by simp [hw]),fun w hw=>h4 w (by simp [hw])⟩
 have hU0:U=val A0+ay ^ L*val R0:=by
   have h4:=cH hUB
   rw [hAR,List.append_nil,bO,hA0] at h4
   exact h4.symm
 have WB:val R0<V:=NT (k:=k+2) TP (by have:=uw Gv;rw [hk] at this;exact this) (by
   have h4:=de m
   have:L+(k+2-1)=aa m:=by omega
   rw [this];exact h4) (ZL▸hU0)
 have H7:aa V=k+2:=hwV
 obtain ⟨hh,WC⟩:∃ y,(digits V)[k+1]? = some y:=⟨_,List.getElem?_eq_getElem (by show k+1<aa V;omega)⟩
 obtain ⟨ll,llg⟩:∃ y,(digits V)[k]? = some y:=⟨_,List.getElem?_eq_getElem (by show k<aa V;omega)⟩
 have hhB:=aQ V hh (List.mem_of_getElem? WC)
 have llB:=aQ V ll (List.mem_of_getElem? llg)
 have f1:=bj hh hhB
 have f2:=bj ll llB
 obtain ⟨hVV,hvM⟩:=ahn (aQ V) H7 WC llg
 rw [aI] at hVV
 have hh0:0<hh:=by
   rcases uv (n:=V) with h4 | ⟨w,h4,hw⟩
   . rw [h4] at WC;simp at WC
   . rw [List.getLast?_eq_getElem?,show (digits V).length-1=k+1 from by show aa V-1=k+1;omega,WC] at h4
     simp only [Option.some.injEq] at h4;omega
 have YN:0<V:=Nat.lt_of_le_of_lt (Nat.zero_le _) WB
 have ahx:IntKind.i64.wrap (((aa m+1:Nat):Int)-((k+2:Nat):Int))=((L:Nat):Int):=by rw [IntKind.wrap_i64];omega
 have MA:IntKind.i64.wrap (((L:Nat):Int)-1)=(L:Int)-1:=by rw [IntKind.wrap_i64];omega
 have tp:∀ p:Id,jJ p 1 4 (.int .u32 0) (.int .i64 ((L:Nat):Int)) (.int .i64 ((L:Nat):Int))=some { val := .osl p 1 0 L false,up:=[(p,some ⟨us (List.replicate L 0),1,false⟩)] }:=fun p=>lJ (by omega)
 rw [hAR] at PW
 rw [hk] at PX
 have b3:decide (((k+2:Nat):Int)=1)=false:=ak (by omega)
 have UX:V<ay ^ (k+2+1):=Nat.lt_of_lt_of_le hV (Nat.pow_le_pow_right bZ (by omega))
 have WD:VP P G ft [.sl 1 (us (pad (k+2+1) V))] (W V):=by
   have:=ht (pad (k+2+1) V) (mM _ _) (by rw [dR];omega)
   rwa [cH UX] at this
 simp only [SS,Nat.reduceAdd,c2 h1,bb,l2 h2,b3,hk,p1,dx hx,aK,bp]
 refine ah aht (by simp [ab.int]) ?_
 simp only [SS,Nat.reduceAdd]
 refine ⟨[],_,PW _,by simp,by simp, ?_⟩
 simp only [SS,Nat.reduceAdd]
 refine ⟨[],_,PX _,by simp,by simp, ?_⟩
 simp only [SS,Nat.reduceAdd]
 refine cA [([4,28],⟨us (pad (k+2+1) V),1,false⟩)] WD (az.cons (iH (dR _ _).symm) az.nil) (by simp [ae.put]) ?_
 simp only [SS,Nat.reduceAdd]
 simp only [SS,DD,Nat.reduceAdd,bb,H7,ahx,MA,tp,p1,p2,dx WC,dx llg,aK,bp,f1,f2]
 refine ⟨by simp [ag], ?_⟩
 simp only [aY]
 refine VW.yJ (α := Nat × List Nat × List Nat × List Nat × List Nat × Nat) (fun x=>⟨List.replicate 8 .top++[.int .i64 (s:Int), .osl [4,25] 1 0 (aa m+1) false,W V, .int .i64 ((k+2:Nat):Int), .osl [39] 1 0 L false, .int .u64 (hh:Int), .int .u64 (ll:Int), .int .i64 ((x.1:Int)-1)]++List.replicate 161 .top,
   ae.put (ae.put (fun _=>none) [4,25] (some ⟨us (x.2.1++x.2.2.1++x.2.2.2.1),1,false⟩)) [39] (some ⟨us (zs x.1++x.2.2.2.2.1),1,false⟩),x.2.2.2.2.2⟩)
   (fun x=>x.1+x.2.2.2.2.1.length=L/\x.2.1.length=x.1/\x.2.2.1.length=k+2/\x.1+(k+2)+x.2.2.2.1.length=aa m+1/\Wd x.2.1/\Wd x.2.2.1/\Wd x.2.2.2.2.1/\val x.2.2.1<V/\U=val x.2.1+ay ^ x.1*(val x.2.2.2.2.1*V+val x.2.2.1)) (fun x=>x.1) (L,A0,R0,[],[],1000) ?_ ?_ ?_
 . refine Wk.forget (by simp [Fg,List.replicate]) (fun j => ?_) (by simp only [];omega)
   simp only [List.append_nil,ae.put,ae.app,FC,List.map_cons,List.map_nil,zs]
   by_cases e1:j=[39]
   . subst e1;simp
   . by_cases e2:j=[4,25]
     . subst e2;simp
     . simp [e1,e2]
 . refine ⟨by simp,hA0,hR0,by simp;omega,hAw.1,hAw.2,by intro w hw;simp at hw,WB, ?_⟩
   show U=val A0+ay ^ L*(val []*V+val R0)
   rw [show val []=0 from rfl,Nat.zero_mul,Nat.zero_add];exact hU0
 rintro ⟨c,A,R,t,o,nn⟩ ⟨hc,hA,hR,htl,hAW,hRW,hoW,UW,hUe⟩
 simp only [] at hc hA hR htl hAW hRW hoW UW hUe
 rcases Nat.eq_zero_or_pos c with h0 | hcp
 . subst h0
   have d0:decide ((0:Int)<=((0:Nat):Int)-1)=false:=by decide
   refine VW.TM (VW.of ?_)
   simp only [SS,DD,Nat.reduceAdd,d0]
   obtain rfl:A=[]:=List.length_eq_zero_iff.1 hA
   have hU':m*2 ^ s=val o*(n*2 ^ s)+val R:=by
     rw [<- ZL, <- TP,hUe]
     show val []+ay ^ 0*_=_
     simp [val]
   obtain ⟨g1,g2,g3⟩:=R8 Gv hU' (TP▸UW)
   have hoL:L=o.length:=by omega
   have htq:=ht o hoW (by omega)
   rw [g1] at htq
   have htR:=ht R hRW (by omega)
   have hwR:aa (val R)<=1000000:=by rw [<- TP,H7] at g3;omega
   have alO:=Cj (G:=G) UQ (val R) s hwR hs
   have TQ:VP P G ft [.sl 1 (us (pad (aa (val R)) (val R/2 ^ s)))] (W (m%n)):=by
     have e:=ht (pad (aa (val R)) (val R/2 ^ s)) (mM _ _) (by rw [dR];omega)
     rw [cH (Nat.lt_of_le_of_lt (Nat.div_le_self _ _) (de _))] at e
     rw [<- g2];exact e
   have NW:gh 1 (.osl [4,25] 1 0 (aa m+1) false) none (some (.int .i64 ((k+2:Nat):Int))) none=some (.osl [4,25] 1 0 (k+2) false):=CS (by omega)
   rw [yg,List.nil_append,List.nil_append]
   refine FL [([39],⟨us o,1,false⟩)] htq (az.cons (iH hoL) az.nil) (by simp [ae.put]) ?_
   simp only [SS,DD,Nat.reduceAdd,NW]
   refine FL [([4,25],⟨us (R++t),1,false⟩)] htR (az.cons (NU hR.symm) az.nil) (by simp [ae.put,ae.app,FC]) ?_
   simp only [SS,DD,Nat.reduceAdd]
   refine ao alO (by simp [aC,ab.int]) ?_
   simp only [SS,DD,Nat.reduceAdd]
   refine ao TQ (by simp [Bm]) ?_
   simp only [SS,DD,Nat.reduceAdd]
   refine ⟨by simp [ag,apart,FC], ?_⟩
   exact ai▸af rfl (ab.tup (by intro c hc;simp at hc;rcases hc with rfl | rfl<;>exact aC _))
 obtain ⟨i,rfl⟩:∃ i,c=i+1:=⟨c-1,by omega⟩
 have d0:decide ((0:Int)<=(i:Int))=true:=aw (by omega)
 have hj:((i+1:Nat):Int)-1=(i:Int):=by omega
 have Zu:IntKind.i64.wrap ((i:Int)-1)=(i:Int)-1:=by rw [IntKind.wrap_i64];omega
 refine VW.TM (VW.of ?_)
 simp only [SS,Nat.reduceAdd,hj,d0]
 obtain ⟨A',y,rfl,hA'⟩:=yj hA
 obtain ⟨b,Gw⟩:∃ b,b=y::R:=⟨_,rfl⟩
 have eb:A'++[y]++R++t=A'++b++t:=by rw [Gw];simp
 rw [eb]
 have hyB:y<ay:=hAW y (by simp)
 have aeb:Wd A':=fun w hw=>hAW w (by simp [hw])
 have B2:b.length=k+3:=by rw [Gw];simp [hR]
 have Mp:Wd b:=by
   intro w hw;rw [Gw] at hw
   rcases List.mem_cons.1 hw with rfl | hw
   . exact hyB
   . exact hRW w hw
 have hbv:val b=y+ay*val R:=by rw [Gw];rfl
 obtain ⟨hDV,YO⟩:=ahp hyB UW
 rw [<- hbv] at hDV YO
 obtain ⟨x2,hx2⟩:∃ z,b[k+2]? = some z:=⟨_,List.getElem?_eq_getElem (by omega)⟩
 obtain ⟨x1,Lq⟩:∃ z,b[k+1]? = some z:=⟨_,List.getElem?_eq_getElem (by omega)⟩
 obtain ⟨z0,UR⟩:∃ z,b[k]? = some z:=⟨_,List.getElem?_eq_getElem (by omega)⟩
 have PY:=Mp x2 (List.mem_of_getElem? hx2)
 have WE:=Mp x1 (List.mem_of_getElem? Lq)
 have WG:=Mp z0 (List.mem_of_getElem? UR)
 obtain ⟨hD,huM⟩:=aho Mp B2 hx2 Lq UR
 rw [show x2*ay+x1=ay*x2+x1 from by rw [Nat.mul_comm]] at hD
 obtain ⟨num,H8⟩:∃ z,z=ay*x2+x1:=⟨_,rfl⟩
 rw [<- H8] at hD
 have R9:num<18446744073709551616:=by rw [H8];unfold ay at *;omega
 have a1:=lU i (k+2) (by omega)
 have a2:IntKind.i64.wrap (((i+(k+2):Nat):Int)-1)=((i+(k+1):Nat):Int):=by rw [IntKind.wrap_i64];omega
 have a3:IntKind.i64.wrap (((i+(k+2):Nat):Int)-2)=((i+k:Nat):Int):=by rw [IntKind.wrap_i64];omega
 have a4:IntKind.i64.wrap (((i+(k+2):Nat):Int)+1)=((i+(k+3):Nat):Int):=by rw [IntKind.wrap_i64];omega
 have ia2:=b7 (q:=[4,25]) (t:=false) (show i+(k+2)<aa m+1 by omega)
 have ia1:=b7 (q:=[4,25]) (t:=false) (show i+(k+1)<aa m+1 by omega)
 have ia0:=b7 (q:=[4,25]) (t:=false) (show i+k<aa m+1 by omega)
 have iaq:=b7 (q:=[39]) (t:=false) (show i<L by omega)
 have NW:gh 1 (.osl [4,25] 1 0 (aa m+1) false) (some (.int .i64 (i:Int))) (some (.int .i64 ((i+(k+3):Nat):Int))) none=some (.osl [4,25] 1 A'.length (aa V+1) false):=by
   rw [Kl (by omega) (by omega),hA',H7]
   congr 2;omega
 generalize hσ : ae.put (ae.put (fun _=>none) [4,25] (some ⟨us (A'++b++t),1,false⟩)) [39] (some ⟨us (zs (i+1)++o),1,false⟩) = σ0
 have ZM : σ0 [4,25]=some ⟨us (A'++b++t),1,false⟩:=by rw [<- hσ];simp [ae.put]
 have hσQ : σ0 [39]=some ⟨us (zs (i+1)++o),1,false⟩:=by rw [<- hσ];simp [ae.put]
 have ld2:=jo ZM (yi (t:=t) hA' hx2)
 have ld1:=jo ZM (yi (t:=t) hA' Lq)
 have ld0:=jo ZM (yi (t:=t) hA' UR)
 have w2:=bj x2 PY
 have w1:=bj x1 WE
 have w0:=bj z0 WG
 have s2:=CN x2 PY
 have o2:=Kf x2 x1 PY WE
 rw [<- H8] at o2
 have q1:=Kg num hh R9 (by omega)
 have r1:=Kh num hh (by omega)
 refine VW.TM (VW.WA (VW.TM (VW.of ?_)))
 simp only [SS,DD,Nat.reduceAdd,a1,a2,ia2,ia1,ld2,ld1,w2,w1,s2,o2]
 refine ⟨by simp [ag],VW.TM (VW.of ?_)⟩
 simp only [SS,DD,Nat.reduceAdd,q1,r1]
 refine ⟨by simp [ag],VW.TM (VW.WA ?_)⟩
 have ahB:num/hh*hh+num%hh=num:=by rw [Nat.mul_comm];exact Nat.div_add_mod num hh
 have LA:=NR hh0 hVV hD WG huM
 refine VW.mono (Q:=fun e s'=>∃ q n2,e = .exit 3/\(q<ay/\val b/V<=q/\q<=val b/V+1)/\Wk G [] s' ⟨List.replicate 8 .top++[.int .i64 (s:Int), .osl [4,25] 1 0 (aa m+1) false,W V, .int .i64 ((k+2:Nat):Int), .osl [39] 1 0 L false, .int .u64 (hh:Int), .int .u64 (ll:Int), .int .i64 (i:Int), .top, .int .u64 (q:Int)]++List.replicate 159 .top, σ0,n2⟩) ?_ ?_
 . refine VW.e9 (α := Nat × Nat × Nat) (fun x=>⟨List.replicate 8 .top++[.int .i64 (s:Int), .osl [4,25] 1 0 (aa m+1) false,W V, .int .i64 ((k+2:Nat):Int), .osl [39] 1 0 L false, .int .u64 (hh:Int), .int .u64 (ll:Int), .int .i64 (i:Int), .top, .int .u64 (x.1:Int), .int .u64 (x.2.1:Int)]++List.replicate 158 .top, σ0,x.2.2⟩)
     (fun x=>x.1*hh+x.2.1=num/\val b/V<=x.1/\x.2.1<ay/\x.1<18446744073709551616) (fun x=>x.1) (num/hh,num%hh,nn+1000) ?_ ?_ ?_
   . exact Wk.slots (by simp [Fg,List.replicate]) (by simp only [];omega)
   . exact ⟨ahB,LA,Nat.lt_trans (Nat.mod_lt _ hh0) hhB,Nat.lt_of_le_of_lt (Nat.div_le_self _ _) R9⟩
   rintro ⟨q,r,n3⟩ ⟨QN,hle,NH,alU⟩
   simp only [] at QN hle NH alU
   have d1:ay<=q->decide ((4294967296:Int)<=(q:Int))=true:=fun h=>aw (by unfold ay at h;omega)
   have d2 : ¬ ay<=q->decide ((4294967296:Int)<=(q:Int))=false:=fun h=>ak (by unfold ay at h;omega)
   have d3:ay<=r+hh->decide ((4294967296:Int)<=((r+hh:Nat):Int))=true:=fun h=>aw (by unfold ay at h;omega)
   have d4 : ¬ ay<=r+hh->decide ((4294967296:Int)<=((r+hh:Nat):Int))=false:=fun h=>ak (by unfold ay at h;omega)
   have d5:ay*r+z0<q*ll->decide (((ay*r+z0:Nat):Int)<((q*ll:Nat):Int))=true:=fun h=>aw (by omega)
   have d6 : ¬ ay*r+z0<q*ll->decide (((ay*r+z0:Nat):Int)<((q*ll:Nat):Int))=false:=fun h=>ak (by omega)
   have m1 : ¬ ay<=q->IntKind.u64.wrap ((q:Int)*(ll:Int))=((q*ll:Nat):Int):=fun h=>ND q ll (by omega) llB
   have s3:=CN r NH
   have o3:=Kf r z0 NH WG
   have p3:=p9 r hh (by unfold ay at *;omega)
   have Ph:=fun ht=>adV (q:=q) (r:=r) llB hvM huM hh0 hVV hD hDV YO QN hle ht
   have ib : ¬ ay<=q->q*ll<=r*ay+z0->q<=val b/V+1:=fun h1 h2=>R6 hh0 hVV hD hvM (by omega) QN h2
   have JG:r*ay=ay*r:=Nat.mul_comm _ _
   rw [JG] at Ph ib
   have pq:1<=q->IntKind.u64.wrap ((q:Int)-1)=((q-1:Nat):Int):=fun h=>by rw [IntKind.wrap_u64];omega
   have hql:q-1<18446744073709551616:=by omega
   have hmq:1<=q->q-1<q:=fun h=>by omega
   have hrh : ¬ ay<=r+hh->r+hh<ay:=fun h=>by omega
   by_cases cq:ay<=q
   . obtain ⟨k1,k2,k3,k4⟩:=Ph (.inl cq)
     by_cases cr:ay<=r+hh
     . simp only [SS,Nat.reduceAdd,d1 cq,pq k1,p3,d3 cr]
       exact ⟨q-1,_,trivial,⟨(k4 cr).1,k2,(k4 cr).2⟩,Wk.slots (by simp [Fg]) (Nat.le_refl _)⟩
     . simp only [SS,Nat.reduceAdd,d1 cq,pq k1,p3,d4 cr]
       exact ⟨(q-1,r+hh,_),⟨k3,k2,hrh cr,hql⟩,hmq k1,Wk.slots (by simp [Fg]) (Nat.le_refl _)⟩
   . by_cases ct:ay*r+z0<q*ll
     . obtain ⟨k1,k2,k3,k4⟩:=Ph (.inr ct)
       by_cases cr:ay<=r+hh
       . simp only [SS,Nat.reduceAdd,d2 cq,m1 cq,s3,a1,a3,ia0,ld0,w0,o3,d5 ct,pq k1,p3,d3 cr]
         exact ⟨q-1,_,trivial,⟨(k4 cr).1,k2,(k4 cr).2⟩,Wk.slots (by simp [Fg]) (Nat.le_refl _)⟩
       . simp only [SS,Nat.reduceAdd,d2 cq,m1 cq,s3,a1,a3,ia0,ld0,w0,o3,d5 ct,pq k1,p3,d4 cr]
         exact ⟨(q-1,r+hh,_),⟨k3,k2,hrh cr,hql⟩,hmq k1,Wk.slots (by simp [Fg]) (Nat.le_refl _)⟩
     . have hp:=ib cq (by omega)
       have alV:q<ay:=by omega
       simp only [SS,Nat.reduceAdd,d2 cq,m1 cq,s3,a1,a3,ia0,ld0,w0,o3,d6 ct]
       exact ⟨q,_,trivial,⟨alV,hle,hp⟩,Wk.slots (by simp [Fg]) (Nat.le_refl _)⟩
 rintro e s' ⟨q,n2,rfl,⟨hqB,hle,ab7⟩,hw⟩
 simp only [EA,if_true,zS]
 refine VW.cut hw ?_
 have G2:=NK (G:=G) hsu (id:=[4,25]) (a:=A') (b:=b) (t:=t) (v:=V) (q:=q) (tight:=false) (by omega) (by omega) Mp hqB
 have MD:=PQ (G:=G) hre (id:=[4,25]) (a:=A') (b:=pad (aa V+1) (val b+ay ^ (aa V+1)-q*V)) (t:=t) (v:=V) (tight:=false) (by omega) (dR _ _) (mM _ _)
 have hVB:V<ay ^ (k+2):=hV
 have Km:val b%V<V:=Nat.mod_lt _ YN
 have Sa:val b%V<ay ^ (k+2):=Nat.lt_trans Km hVB
 simp only [SS,Nat.reduceAdd,a1,a4,NW]
 refine ⟨[([4,25],⟨us (A'++b++t),1,false⟩)],_,G2 _,by simp [ZM],by simp, ?_⟩
 have hqL:i<(zs (i+1)++o).length:=by simp [zs];omega
 have K2:val b=val b/V*V+val b%V:=by have:=Nat.div_add_mod (val b) V;rw [Nat.mul_comm] at this;omega
 have hUn:U=val A'+ay ^ i*(val (val b/V::o)*V+val (pad (k+2) (val b%V))):=by
   rw [cH Sa]
   refine NS (x:=y) (R:=val R) (O:=val o) ?_ (by rw [<- hbv];exact K2)
   rw [hUe,bO,hA']
   simp only [val,Nat.mul_zero,Nat.add_zero]
 have En:i+(val b/V::o).length=L/\A'.length=i/\(pad (k+2) (val b%V)).length=k+2/\i+(k+2)+(0::t).length=aa m+1/\Wd A'/\Wd (pad (k+2) (val b%V))/\Wd (val b/V::o)/\val (pad (k+2) (val b%V))<V/\U=val A'+ay ^ i*(val (val b/V::o)*V+val (pad (k+2) (val b%V))):=by
   refine ⟨by simp;omega,hA',dR _ _,by simp;omega,aeb,mM _ _, ?_,by rw [cH Sa];exact Km,hUn⟩
   intro w hw
   rcases List.mem_cons.1 hw with rfl | hw
   . exact YO
   . exact hoW w hw
 have hqi:IntKind.u32.wrap ((val b/V:Nat):Int)=((val b/V:Nat):Int):=by rw [w6,Nat.mod_eq_of_lt YO]
 have hnc:((i:Nat):Int)-1=(((i:Nat):Int)-1):=rfl
 rcases adT YN hle ab7 with ⟨hlt,ZN⟩ | ⟨G1,ZN⟩
 . have dn:decide (val b<q*V)=true:=aw hlt
   have pq:=adX ZN hqB
   have hpr:pad (aa V+1) (val (pad (aa V+1) (val b+ay ^ (aa V+1)-q*V))+V)=pad (k+2) (val b%V)++[0]:=by
     rw [H7];exact Wz YN Sa hVB ZN
   have ef:A'++(pad (k+2) (val b%V)++[0])++t=A'++pad (k+2) (val b%V)++(0::t):=by simp
   rw [hpr,ef] at MD
   simp only [SS,Nat.reduceAdd,dn,pq,a1,a4,NW]
   refine ⟨[([4,25],⟨us (A'++pad (aa V+1) (val b+ay ^ (aa V+1)-q*V)++t),1,false⟩)],_,MD _,by simp [ae.put],by simp, ?_⟩
   simp only [SS,Nat.reduceAdd,hqi,iaq]
   rw [bV (o:=zs (i+1)++o) (by simp [ae.put,hσQ]) hqL,A6]
   simp only [SS,Nat.reduceAdd]
   refine VW.of ?_
   simp only [SS,Nat.reduceAdd,Zu]
   refine ⟨(i,A',pad (k+2) (val b%V),0::t,val b/V::o,_),En,Nat.lt_succ_self i,Wk.forget (by simp [Fg]) (fun j => ?_) (Nat.le_refl _)⟩
   by_cases e1:j=[39]
   . subst e1;simp [ae.put]
   . by_cases e2:j=[4,25]
     . subst e2;simp [ae.put]
     . simp [ae.put,e1,e2]
 . have dn:decide (val b<q*V)=false:=ak (by omega)
   have hpr:pad (aa V+1) (val b+ay ^ (aa V+1)-q*V)=pad (k+2) (val b%V)++[0]:=by
     rw [H7];exact Wy Sa ZN
   have ef:A'++(pad (k+2) (val b%V)++[0])++t=A'++pad (k+2) (val b%V)++(0::t):=by simp
   rw [hpr,ef]
   simp only [SS,Nat.reduceAdd,dn]
   rw [ZN]
   simp only [SS,Nat.reduceAdd,hqi,iaq]
   rw [bV (o:=zs (i+1)++o) (by simp [ae.put,hσQ]) hqL,A6]
   simp only [SS,Nat.reduceAdd]
   refine VW.of ?_
   simp only [SS,Nat.reduceAdd,Zu]
   refine ⟨(i,A',pad (k+2) (val b%V),0::t,val b/V::o,_),En,Nat.lt_succ_self i,Wk.forget (by simp [Fg]) (fun j => ?_) (Nat.le_refl _)⟩
   by_cases e1:j=[39]
   . subst e1;simp [ae.put]
   . by_cases e2:j=[4,25]
     . subst e2;simp [ae.put]
     . simp [ae.put,e1,e2]
end
end Go.VL
end

section
set_option linter.unusedVariables false
namespace Go.VL
theorem ahC (neg:Bool) (n:Nat):IV (kT neg n) = .agg [.bool (neg&&decide (0<n)),W n]:=by
 cases neg
 . simp only [IV,kT];simp<;>omega
 . simp only [IV,kT];simp<;>omega
theorem ZO (σ : ae) (id:Id) (k:Nat) (b:Bool) (n:Nat):ir (σ.put id (some ⟨[.agg [.bool false, .nils]],k,false⟩)) 2 (.ref id 0 0) (.agg [.bool b,W n])=some { val := .tup [],rd:=[id],up:=[(id,some ⟨[.agg [.bool b,W n]],k,false⟩)] }:=by
 rw [gD (n:=2) (v := .agg [.bool b,W n]) (els:=[.agg [.bool false, .nils]]) (k:=k) (ae.dO _ _ _) rfl rfl (by simp [AV.size,AV.cells]) rfl]
 rfl
theorem WH {n:Nat}:0<aa n↔0<n:=by have:=cg (n:=n);omega
section
variable {P:Program} {G:Nat->Option (List AV)}
theorem PZ {f ft:FuncId} (h:Has P f (gX ft)) (ht:ja P G ft):js P G f:=fun neg n hn=>by
 refine VP.has h ?_
 simp only [gX,SS,Nat.reduceAdd,cu]
 refine ah (ng ht n hn) (by simp [aC]) ?_
 have e:∀ b,kW [.bool false, .nils] [(0,(1, .bool b)),(1,(1,W n))]=some [.bool b,W n]:=fun _=>rfl
 have dd:decide ((0:Int)<(aa n:Int))=decide (0<n):=by
   have:=WH (n:=n)
   by_cases h0:0<n
   . rw [aw h0,aw (by omega)]
   . rw [ak h0,ak (by omega)]
 rw [ahC]
 cases neg <;>
 . simp only [SS,Nat.reduceAdd,bb,dd,e,ZO,Bool.true_and,Bool.false_and]
   refine ai▸af ?_ (ab.agg (by intro c hc;simp at hc;rcases hc with rfl | rfl;exact ab.bool _;exact aC _))
   simp only [RS,bn,bC,aj];rfl
theorem WI {f fs:FuncId} (h:Has P f (lx fs)) (hs:js P G fs) (z:Int) (hz:aa z.natAbs<=1000000):VP P G f [IV z] (IV z):=by
 refine VP.has h ?_
 have e8:=hs (decide (z<0)) z.natAbs (by omega)
 rw [DY] at e8
 have zB:([0]:List Nat)≠[1]:=by decide
 simp only [lx,SS,Nat.reduceAdd,iG,cu,aq zB,aj,kf,iZ]
 refine ah e8 (by simp [ab.bool,aC]) ?_
 simp only [SS,Nat.reduceAdd,jr]
 refine ai▸af (r:=IV z) ?_ (aA _)
 simp only [RS,bn,bC,aj];rfl
theorem ZP {f fs:FuncId} (h:Has P f (l9 fs)) (hs:js P G fs) (z:Int) (hz:aa z.natAbs<=1000000):VP P G f [IV z] (IV (-z)):=by
 refine VP.has h ?_
 have e8:=hs (!decide (z<0)) z.natAbs (by omega)
 rw [RX] at e8
 have zB:([0]:List Nat)≠[1]:=by decide
 simp only [l9,SS,Nat.reduceAdd,iG,cu,aq zB,aj,kf,iZ]
 refine ah e8 (by simp [ab.bool,aC]) ?_
 simp only [SS,Nat.reduceAdd,jr]
 refine ai▸af (r:=IV (-z)) ?_ (aA _)
 simp only [RS,bn,bC,aj];rfl
theorem TR {f fn:FuncId} (h:Has P f (lA fn)) (hn:∀ z:Int,aa z.natAbs<=1000000->VP P G fn [IV z] (IV z)) (z:Int) (hz:aa z.natAbs<=1000000):VP P G f [IV z] (.int .i64 z.sign):=by
 refine VP.has h ?_
 have hl:aa z.natAbs=0↔z=0:=by rw [cg];omega
 simp only [lA,SS,Nat.reduceAdd,iG,aj,di]
 refine ah (hn z hz) (by simp [aA]) ?_
 simp only [SS,Nat.reduceAdd]
 rw [dy (k:=(IV z).size) (y:=IV z) rfl (CP _ _) (by simp [ae.put])]
 simp only [SS,Nat.reduceAdd,aj,iZ,bb]
 by_cases h0:z=0
 . have d0:decide ((aa z.natAbs:Int)=0)=true:=aw (by have:=hl.2 h0;omega)
   simp only [SS,Nat.reduceAdd,d0]
   rw [h0]
   exact ai▸af rfl (ab.int _ _)
 . have d0:decide ((aa z.natAbs:Int)=0)=false:=ak (by have:=fun e=>h0 (hl.1 e);omega)
   by_cases hn:z<0
   . have d1:decide (z<0)=true:=aw hn
     simp only [SS,Nat.reduceAdd,d0,aj,kf,d1]
     rw [Int.sign_eq_neg_one_of_neg hn]
     exact ai▸af rfl (ab.int _ _)
   . have d1:decide (z<0)=false:=ak hn
     simp only [SS,Nat.reduceAdd,d0,aj,kf,d1]
     rw [Int.sign_eq_one_of_pos (by omega)]
     exact ai▸af rfl (ab.int _ _)
theorem TT {f fu fs:FuncId} (h:Has P f (jx fu fs)) (hu:∀ n,n<18446744073709551616->VP P G fu [.int .u64 ((n:Nat):Int)] (W n)) (hs:js P G fs) (a:Int) (h1 : -9223372036854775808<=a) (h2:a<9223372036854775808):VP P G f [.int .i64 a] (IV a):=by
 refine VP.has h ?_
 have hsz:=qR a.natAbs (by omega)
 have e8:=hs (decide (a<0)) a.natAbs (by omega)
 rw [DY] at e8
 have Pf:=hu a.natAbs (by omega)
 simp only [jx,SS,Nat.reduceAdd,cu]
 by_cases hn:a<0
 . have d1:decide (a<0)=true:=aw hn
   rw [d1] at e8
   have e1:IntKind.u64.wrap (0-(IntKind.u64.wrap a))=(a.natAbs:Int):=by rw [IntKind.wrap_u64,IntKind.wrap_u64];omega
   simp only [SS,Nat.reduceAdd,d1,e1]
   refine ah Pf (by simp [ab.int]) ?_
   simp only [SS,Nat.reduceAdd]
   refine ah e8 (by simp [ab.bool,aC]) ?_
   simp only [SS,Nat.reduceAdd,jr]
   refine ai▸af (r:=IV a) ?_ (aA _)
   simp only [RS,bn,bC,aj];rfl
 . have d1:decide (a<0)=false:=ak hn
   rw [d1] at e8
   have e1:IntKind.u64.wrap a=(a.natAbs:Int):=by rw [IntKind.wrap_u64];omega
   simp only [SS,Nat.reduceAdd,d1,e1]
   refine ah Pf (by simp [ab.int]) ?_
   simp only [SS,Nat.reduceAdd]
   refine ah e8 (by simp [ab.bool,aC]) ?_
   simp only [SS,Nat.reduceAdd,jr]
   refine ai▸af (r:=IV a) ?_ (aA _)
   simp only [RS,bn,bC,aj];rfl
end
end Go.VL
end

section
set_option linter.unusedVariables false
namespace Go.VL
theorem Jo {ds:List Nat} {j a:Nat} (h:ds[j]? = some a):val (ds.drop j)=a+ay*val (ds.drop (j+1)):=by
 obtain ⟨h1,h2⟩:=List.getElem?_eq_some_iff.1 h
 rw [List.drop_eq_getElem_cons h1,h2];rfl
theorem ZQ {ds:List Nat} (h:Wd ds) (k:Nat):Wd (ds.drop k):=fun w hw=>h w (List.mem_of_mem_drop hw)
section
variable {P:Program} {G:Nat->Option (List AV)}
theorem WJ {f:FuncId} (h:Has P f ky) (n:Nat) (hn:n<18446744073709551616):VP P G f [W n] (.int .u64 (n:Int)):=by
 refine VP.has h ?_
 have hwn:=qR n hn
 have hwL:IntKind.i64.wrap ((aa n:Int)-1)=(aa n:Int)-1:=by rw [IntKind.wrap_i64];omega
 simp only [ky,SS,Nat.reduceAdd,bb,hwL,aY]
 refine VW.e9 (α := Nat × Nat × Nat) (fun x=>⟨[W n, .top, .top, .int .u64 (x.2.2:Int), .int .i64 ((x.1:Int)-1)]++List.replicate 16 .top,fun _=>none,x.2.1⟩)
   (fun x=>x.1<=aa n/\x.2.2=val ((digits n).drop x.1)) (fun x=>x.1) (aa n,1000,0) ?_ ?_ ?_
 . exact Wk.slots (by simp [Fg,List.replicate]) (by simp only [];omega)
 . refine ⟨Nat.le_refl _, ?_⟩
   show 0=val ((digits n).drop (aa n))
   rw [List.drop_eq_nil_of_le (show (digits n).length<=aa n from Nat.le_refl _)];rfl
 rintro ⟨k,nn,r⟩ ⟨hk,hv⟩
 simp only [] at hk hv
 by_cases h0:k=0
 . subst h0
   have d0:decide ((0:Int)<=((0:Nat):Int)-1)=false:=by decide
   rw [List.drop_zero,aI] at hv
   subst hv
   simp only [SS,Nat.reduceAdd,d0]
   exact ai▸af rfl (ab.int _ _)
 . obtain ⟨j,rfl⟩:∃ j,k=j+1:=⟨k-1,by omega⟩
   have d0:decide ((0:Int)<=(j:Int))=true:=aw (by omega)
   have hj:((j+1:Nat):Int)-1=(j:Int):=by omega
   have RU:IntKind.i64.wrap ((j:Int)-1)=(j:Int)-1:=by rw [IntKind.wrap_i64];omega
   obtain ⟨a,ha⟩:∃ a,(digits n)[j]? = some a:=⟨_,List.getElem?_eq_getElem (show j<aa n by omega)⟩
   have vC:=aQ n a (List.mem_of_getElem? ha)
   have f1:=bj a vC
   have NH:r<ay:=by
     have h1:=eF (ZQ (aQ n) (j+1))
     rw [<- hv,List.length_drop] at h1
     have h2:ay ^ ((digits n).length-(j+1))<=ay ^ 1:=Nat.pow_le_pow_right bZ (by show aa n-(j+1)<=1;omega)
     rw [Nat.pow_one] at h2;omega
   have f2:=CN r NH
   have f3:=Kf r a NH vC
   have hv':ay*r+a=val ((digits n).drop j):=by rw [Jo ha,hv,Nat.add_comm]
   have hjw:j<=aa n:=by omega
   simp only [SS,Nat.reduceAdd,d0,hj,dx ha,aK,bp,f1,f2,f3,RU]
   exact ⟨(j,_,ay*r+a),⟨hjw,hv'⟩,Nat.lt_succ_self j,Wk.slots (by simp [Fg]) (Nat.le_refl _)⟩
theorem NZ {f:FuncId} (h:Has P f jy) (m n:Nat) (hm:aa m<=1000000) (_hn:aa n<=1000000):VP P G f [W m,W n] (.int .i64 (eM m n)):=by
 refine VP.has h ?_
 simp only [jy,SS,Nat.reduceAdd,bb]
 by_cases hl:aa m=aa n
 case neg =>
   have d:decide ((aa m:Int)≠(aa n:Int))=true:=aw (by omega)
   rcases Nat.lt_or_ge (aa m) (aa n) with h1 | h1
   . have h2:=ye h1
     have d1:decide ((aa m:Int)<(aa n:Int))=true:=aw (by omega)
     have e:eM m n = -1-0:=by unfold eM;rw [Bo (by omega)];rfl
     rw [e]
     simp only [SS,Nat.reduceAdd,bb,d,d1]
     exact ai▸af rfl (ab.int _ _)
   . have h1':aa n<aa m:=by omega
     have h2:=ye h1'
     have d1:decide ((aa m:Int)<(aa n:Int))=false:=ak (by omega)
     have e:eM m n=1:=by unfold eM;rw [Bp (by omega)]
     rw [e]
     simp only [SS,Nat.reduceAdd,bb,d,d1]
     exact ai▸af rfl (ab.int _ _)
 have d:decide ((aa m:Int)≠(aa n:Int))=false:=ak (by omega)
 have ew:IntKind.i64.wrap ((aa m:Int)-1)=(aa m:Int)-1:=by rw [IntKind.wrap_i64];omega
 have Pj:(digits m).drop (aa m)=(digits n).drop (aa m):=by
   have e1:(digits m).drop (aa m)=[]:=List.drop_of_length_le (Nat.le_refl _)
   have e2:(digits n).drop (aa m)=[]:=List.drop_of_length_le (by show aa n<=aa m;omega)
   rw [e1,e2]
 simp only [SS,Nat.reduceAdd,bb,d,ew,aY]
 refine VW.e9 (α := Nat × Nat) (fun x=>⟨[W m,W n, .top, .top, .top, .int .i64 ((x.1:Int)-1)]++List.replicate 35 .top,fun _=>none,x.2⟩) (fun x=>x.1<=aa m/\(digits m).drop x.1=(digits n).drop x.1) (fun x=>x.1) (aa m,1000) ?_
   ⟨Nat.le_refl _,Pj⟩ ?_
 . exact Wk.slots (by simp [Fg,List.replicate]) (by simp only [];omega)
 rintro ⟨j,q⟩ ⟨hj,hd⟩
 simp only [] at hj hd
 simp only [SS,Nat.reduceAdd]
 by_cases h0:j=0
 . subst h0
   have d0:decide ((0:Int)<=((0:Nat):Int)-1)=false:=by decide
   simp only [SS,d0]
   have e:m=n:=by
     simp only [List.drop_zero] at hd
     rw [<- aI m,hd,aI]
   have e2:eM m n=0:=RQ (by omega)
   rw [e2]
   exact ai▸af rfl (ab.int _ _)
 . have re:0<j:=Nat.pos_of_ne_zero h0
   have d0:decide ((0:Int)<=((j-1:Nat):Int))=true:=aw (by omega)
   have ej:(j:Int)-1=((j-1:Nat):Int):=by omega
   have hjm:j-1<(digits m).length:=by show j-1<aa m;omega
   have S5:j-1<(digits n).length:=by show j-1<aa n;omega
   have ew2:IntKind.i64.wrap (((j-1:Nat):Int)-1)=((j-1:Nat):Int)-1:=by rw [IntKind.wrap_i64];omega
   obtain ⟨x,hx⟩:∃ x,(digits m)[j-1]? = some x:=⟨_,List.getElem?_eq_getElem hjm⟩
   obtain ⟨y,hy⟩:∃ y,(digits n)[j-1]? = some y:=⟨_,List.getElem?_eq_getElem S5⟩
   have YF:(digits m).drop (j-1+1)=(digits n).drop (j-1+1):=by rw [show j-1+1=j from by omega];exact hd
   rcases Nat.lt_trichotomy x y with h1 | h1 | h1
   . have e:eM m n = -1-0:=by
       have:=Gx (aQ m) (aQ n) hl hx hy YF h1
       rw [aI,aI] at this
       unfold eM;rw [Bo (by omega)];rfl
     have d1:decide ((x:Int)<(y:Int))=true:=aw (by omega)
     rw [e]
     simp only [SS,DD,Nat.reduceAdd,d0,ej,dx hx,dx hy,aK,bp,d1]
     refine ⟨by simp [ag], ?_⟩
     exact ai▸af rfl (ab.int _ _)
   . have d1:decide ((x:Int)<(y:Int))=false:=ak (by omega)
     have d2:decide ((y:Int)<(x:Int))=false:=ak (by omega)
     simp only [SS,DD,Nat.reduceAdd,d0,ej,dx hx,dx hy,aK,bp,d1]
     refine ⟨by simp [ag], ?_⟩
     simp only [SS,Nat.reduceAdd,d2,ew2]
     refine ⟨by simp [ag],(j-1,_),⟨by simp only [];omega, ?_⟩,by simp only [];omega,Wk.slots (by simp [Fg]) (Nat.le_refl _)⟩
     simp only []
     rw [List.drop_eq_getElem_cons hjm,List.drop_eq_getElem_cons S5,YF]
     obtain ⟨_,h1'⟩:=List.getElem?_eq_some_iff.1 hx
     obtain ⟨_,h2'⟩:=List.getElem?_eq_some_iff.1 hy
     rw [h1',h2',h1]
   . have e:eM m n=1:=by
       have:=Gx (aQ n) (aQ m) hl.symm hy hx YF.symm h1
       rw [aI,aI] at this
       unfold eM;rw [Bp (by omega)]
     have d1:decide ((x:Int)<(y:Int))=false:=ak (by omega)
     have d2:decide ((y:Int)<(x:Int))=true:=aw (by omega)
     rw [e]
     simp only [SS,DD,Nat.reduceAdd,d0,ej,dx hx,dx hy,aK,bp,d1]
     refine ⟨by simp [ag], ?_⟩
     simp only [SS,d2]
     refine ⟨by simp [ag], ?_⟩
     exact ai▸af rfl (ab.int _ _)
end
end Go.VL
end

section
set_option linter.unusedVariables false
namespace Go.VL
theorem Br {x y c:Nat} (hx:x<ay) (hy:y<ay) (hc:c<=1):∃ w c':Nat,w<ay/\c'<=1/\w+y+c=x+ay*c' /\
   (∃ d:Nat,IntKind.u64.wrap (IntKind.u64.wrap (IntKind.u64.wrap ((x:Int)+4294967296)-(y:Int))-(c:Int))=(d:Int)/\IntKind.u32.wrap (d:Int)=(w:Int)/\IntKind.u64.wrap (1-((d/ay:Nat):Int))=(c':Int)):=by
 have h1:IntKind.u64.wrap ((x:Int)+4294967296)=((x+4294967296:Nat):Int):=by rw [IntKind.wrap_u64];unfold ay at *;omega
 have h2:IntKind.u64.wrap (((x+4294967296:Nat):Int)-(y:Int))=((x+4294967296-y:Nat):Int):=by rw [IntKind.wrap_u64];unfold ay at *;omega
 have h3:IntKind.u64.wrap (((x+4294967296-y:Nat):Int)-(c:Int))=((x+4294967296-y-c:Nat):Int):=by rw [IntKind.wrap_u64];unfold ay at *;omega
 rw [h1,h2,h3]
 unfold ay at *
 by_cases h:y+c<=x
 . refine ⟨x-y-c,0,by omega,by omega,by omega,_,rfl, ?_, ?_⟩
   . rw [IntKind.wrap_u32];omega
   . rw [IntKind.wrap_u64];omega
 . refine ⟨x+4294967296-y-c,1,by omega,by omega,by omega,_,rfl, ?_, ?_⟩
   . rw [IntKind.wrap_u32];omega
   . rw [IntKind.wrap_u64];omega
section
variable {P:Program} {G:Nat->Option (List AV)}
set_option maxHeartbeats 1000000 in
theorem WK {f ft:FuncId} (h:Has P f (ly ft)) (ht:ja P G ft) (m n:Nat) (hm:aa m<=1000000) (hn:aa n<=1000000):VP P G f [W m,W n] (W (m+n)):=by
 refine VP.has h ?_
 simp only [ly,SS,Nat.reduceAdd,bb]
 by_cases WL:(¬ aa m<aa n)
 . have d0:decide ((aa m:Int)<(aa n:Int))=false:=by first | exact aw (by omega) | exact ak (by omega)
   have hL:=lU (aa m) 1 (by omega)
   have hL':IntKind.i64.wrap ((aa m:Int)+1)=((aa m+1:Nat):Int):=hL
   have tp:∀ p:Id,jJ p 1 4 (.int .u32 0) (.int .i64 ((aa m+1:Nat):Int)) (.int .i64 ((aa m+1:Nat):Int))=some { val := .osl p 1 0 (aa m+1) false,up:=[(p,some ⟨us (List.replicate (aa m+1) 0),1,false⟩)] }:=fun p=>lJ (by omega)
   simp only [SS,Nat.reduceAdd,bb,d0,hL',tp,aY]
   refine VW.e9 (α := Nat × Nat × List Nat × Nat) (fun x=>⟨[W m,W n, .top, .top, .top, .osl [9] 1 0 (aa m+1) false, .int .u64 (x.2.2.2:Int), .int .i64 (x.1:Int)]++List.replicate 50 .top,
     ae.put (fun _=>none) [9] (some ⟨us (x.2.2.1++zs (aa m+1-x.1)),1,false⟩),x.2.1⟩)
     (fun x=>x.1<=aa m/\x.2.2.1.length=x.1/\Wd x.2.2.1/\x.2.2.2<=1/\val x.2.2.1+ay ^ x.1*x.2.2.2=val ((digits m).take x.1)+val ((digits n).take x.1)) (fun x=>aa m-x.1) (0,1000,[],0) ?_ ?_ ?_
   . exact Wk.slots (by simp [Fg,List.replicate]) (by simp only [];omega)
   . exact ⟨Nat.zero_le _,rfl,by intro w hw;simp at hw,Nat.zero_le _,by simp [val]⟩
   rintro ⟨i,nn,o,c⟩ ⟨hi,ho,hwd,hc,hv⟩
   simp only [] at hi ho hwd hc hv
   have vA:i<aa m->decide ((i:Int)<(aa m:Int))=true:=fun h=>aw (by omega)
   have xh : ¬ i<aa m->decide ((i:Int)<(aa m:Int))=false:=fun h=>ak (by omega)
   have NF:i<aa n->decide ((i:Int)<(aa n:Int))=true:=fun h=>aw (by omega)
   have NG : ¬ i<aa n->decide ((i:Int)<(aa n:Int))=false:=fun h=>ak (by omega)
   have dT : ¬ i<aa m->i=aa m:=by omega
   have sr:=aD i (by omega)
   have jT:i<aa m->i+1<=aa m/\aa m-(i+1)<aa m-i:=fun h=>by omega
   have n5:=b7 (q:=[9]) (t:=false) (show i<aa m+1 by omega)
   obtain ⟨k,hk⟩:∃ k,aa m+1-i=k+1:=⟨aa m-i,by omega⟩
   have Ft:aa m+1-(i+1)=k:=by omega
   have tG:i<(o++0::zs k).length:=by simp;omega
   by_cases hlt:i<aa m
   . obtain ⟨x,hx⟩:∃ x,(digits m)[i]? = some x:=⟨_,List.getElem?_eq_getElem hlt⟩
     have tH:=aQ m x (List.mem_of_getElem? hx)
     have f1:=bj x tH
     have f2:=p9 c x (by unfold ay at tH;omega)
     by_cases hb:i<aa n
     . obtain ⟨y,hy⟩:∃ y,(digits n)[i]? = some y:=⟨_,List.getElem?_eq_getElem hb⟩
       have Fi:=aQ n y (List.mem_of_getElem? hy)
       have f3:=bj y Fi
       have f4:=p9 (c+x) y (by unfold ay at tH Fi;omega)
       have hst:=nU (x:=x) (y:=y) ho hv rfl
       have hc':(c+x+y)/ay<=1:=by unfold ay at *;omega
       simp only [SS,Nat.reduceAdd,bb,vA hlt,dx hx,aK,bp,f1,f2,NF hb,dx hy,f3,f4,n5,w6,hk,jq]
       rw [bV (o:=o++0::zs k) (by simp [ae.put]) tG,gm _ _ _ _ ho]
       simp only [SS,Nat.reduceAdd,p8,sr]
       refine ⟨(i+1,_,o++[(c+x+y)%ay],(c+x+y)/ay),⟨(jT hlt).1,by simp [ho],q7 hwd _,hc', ?_⟩,(jT hlt).2,Wk.forget (by simp [Fg]) (fun j => ?_) (Nat.le_refl _)⟩
       . show val (o++[(c+x+y)%ay])+_=val ((digits m).take (i+1))+val ((digits n).take (i+1))
         rw [aG hx,aG hy];exact hst
       . simp only [ae.put,Ft];split<;>simp
     . have hst:=nU (x:=x) (y:=0) ho hv rfl
       rw [Nat.mul_zero,Nat.add_zero,Nat.add_zero] at hst
       have hc':(c+x)/ay<=1:=by unfold ay at *;omega
       simp only [SS,Nat.reduceAdd,bb,vA hlt,dx hx,aK,bp,f1,f2,NG hb,n5,w6,hk,jq]
       rw [bV (o:=o++0::zs k) (by simp [ae.put]) tG,gm _ _ _ _ ho]
       simp only [SS,Nat.reduceAdd,p8,sr]
       refine ⟨(i+1,_,o++[(c+x)%ay],(c+x)/ay),⟨(jT hlt).1,by simp [ho],q7 hwd _,hc', ?_⟩,(jT hlt).2,Wk.forget (by simp [Fg]) (fun j => ?_) (Nat.le_refl _)⟩
       . show val (o++[(c+x)%ay])+_=val ((digits m).take (i+1))+val ((digits n).take (i+1))
         rw [aG hx,jI (show (digits n).length<=i from by show aa n<=i;omega)];exact hst
       . simp only [ae.put,Ft];split<;>simp
   . have qm:=dT hlt
     have hcB:c<ay:=by unfold ay;omega
     have f5:IntKind.u32.wrap (c:Int)=(c:Int):=by rw [w6,Nat.mod_eq_of_lt hcB]
     have aed:=b7 (q:=[9]) (t:=false) (show aa m<aa m+1 by omega)
     have Pe:k=0:=by omega
     have Mw:aa m<(o++0::zs k).length:=by simp;omega
     have e1:(digits m).take (aa m)=digits m:=List.take_of_length_le (Nat.le_refl _)
     have e2:(digits n).take (aa m)=digits n:=List.take_of_length_le (by show aa n<=aa m;omega)
     have Cr:val (o++[c])=m+n:=by
       rw [bO,ho];simp only [val,Nat.mul_zero,Nat.add_zero]
       rw [hv,qm,e1,e2,aI,aI]
       all_goals omega
     have ZA:Wd (o++[c]):=c9 hwd (by intro z hz;simp at hz;subst hz;exact hcB)
     have zI:aa m+1=(o++[c]).length:=by simp [ho,qm]
     have Bn:=ht (o++[c]) ZA (by rw [<- zI];omega)
     rw [Cr] at Bn
     simp only [SS,Nat.reduceAdd,bb,xh hlt,f5,aed,hk,jq]
     rw [bV (o:=o++0::zs k) (by simp [ae.put]) Mw,gm _ _ _ _ (ho.trans qm),Pe,yg]
     simp only [SS,Nat.reduceAdd]
     refine cA [([9],⟨us (o++[c]),1,false⟩)] Bn (az.cons (iH zI) az.nil) (by simp [ae.put]) ?_
     simp only [SS,Nat.reduceAdd]
     exact ai▸af rfl (aC _)
 by_cases ZR:(aa m<aa n)
 . have d0:decide ((aa m:Int)<(aa n:Int))=true:=by first | exact aw (by omega) | exact ak (by omega)
   have hL:=lU (aa n) 1 (by omega)
   have hL':IntKind.i64.wrap ((aa n:Int)+1)=((aa n+1:Nat):Int):=hL
   have tp:∀ p:Id,jJ p 1 4 (.int .u32 0) (.int .i64 ((aa n+1:Nat):Int)) (.int .i64 ((aa n+1:Nat):Int))=some { val := .osl p 1 0 (aa n+1) false,up:=[(p,some ⟨us (List.replicate (aa n+1) 0),1,false⟩)] }:=fun p=>lJ (by omega)
   simp only [SS,Nat.reduceAdd,bb,d0,hL',tp,aY]
   refine VW.e9 (α := Nat × Nat × List Nat × Nat) (fun x=>⟨[W n,W m, .top, .top, .top, .osl [13] 1 0 (aa n+1) false, .int .u64 (x.2.2.2:Int), .int .i64 (x.1:Int)]++List.replicate 50 .top,
     ae.put (fun _=>none) [13] (some ⟨us (x.2.2.1++zs (aa n+1-x.1)),1,false⟩),x.2.1⟩)
     (fun x=>x.1<=aa n/\x.2.2.1.length=x.1/\Wd x.2.2.1/\x.2.2.2<=1/\val x.2.2.1+ay ^ x.1*x.2.2.2=val ((digits n).take x.1)+val ((digits m).take x.1)) (fun x=>aa n-x.1) (0,1000,[],0) ?_ ?_ ?_
   . exact Wk.slots (by simp [Fg,List.replicate]) (by simp only [];omega)
   . exact ⟨Nat.zero_le _,rfl,by intro w hw;simp at hw,Nat.zero_le _,by simp [val]⟩
   rintro ⟨i,nn,o,c⟩ ⟨hi,ho,hwd,hc,hv⟩
   simp only [] at hi ho hwd hc hv
   have vA:i<aa n->decide ((i:Int)<(aa n:Int))=true:=fun h=>aw (by omega)
   have xh : ¬ i<aa n->decide ((i:Int)<(aa n:Int))=false:=fun h=>ak (by omega)
   have NF:i<aa m->decide ((i:Int)<(aa m:Int))=true:=fun h=>aw (by omega)
   have NG : ¬ i<aa m->decide ((i:Int)<(aa m:Int))=false:=fun h=>ak (by omega)
   have dT : ¬ i<aa n->i=aa n:=by omega
   have sr:=aD i (by omega)
   have jT:i<aa n->i+1<=aa n/\aa n-(i+1)<aa n-i:=fun h=>by omega
   have n5:=b7 (q:=[13]) (t:=false) (show i<aa n+1 by omega)
   obtain ⟨k,hk⟩:∃ k,aa n+1-i=k+1:=⟨aa n-i,by omega⟩
   have Ft:aa n+1-(i+1)=k:=by omega
   have tG:i<(o++0::zs k).length:=by simp;omega
   by_cases hlt:i<aa n
   . obtain ⟨x,hx⟩:∃ x,(digits n)[i]? = some x:=⟨_,List.getElem?_eq_getElem hlt⟩
     have tH:=aQ n x (List.mem_of_getElem? hx)
     have f1:=bj x tH
     have f2:=p9 c x (by unfold ay at tH;omega)
     by_cases hb:i<aa m
     . obtain ⟨y,hy⟩:∃ y,(digits m)[i]? = some y:=⟨_,List.getElem?_eq_getElem hb⟩
       have Fi:=aQ m y (List.mem_of_getElem? hy)
       have f3:=bj y Fi
       have f4:=p9 (c+x) y (by unfold ay at tH Fi;omega)
       have hst:=nU (x:=x) (y:=y) ho hv rfl
       have hc':(c+x+y)/ay<=1:=by unfold ay at *;omega
       simp only [SS,Nat.reduceAdd,bb,vA hlt,dx hx,aK,bp,f1,f2,NF hb,dx hy,f3,f4,n5,w6,hk,jq]
       rw [bV (o:=o++0::zs k) (by simp [ae.put]) tG,gm _ _ _ _ ho]
       simp only [SS,Nat.reduceAdd,p8,sr]
       refine ⟨(i+1,_,o++[(c+x+y)%ay],(c+x+y)/ay),⟨(jT hlt).1,by simp [ho],q7 hwd _,hc', ?_⟩,(jT hlt).2,Wk.forget (by simp [Fg]) (fun j => ?_) (Nat.le_refl _)⟩
       . show val (o++[(c+x+y)%ay])+_=val ((digits n).take (i+1))+val ((digits m).take (i+1))
         rw [aG hx,aG hy];exact hst
       . simp only [ae.put,Ft];split<;>simp
     . have hst:=nU (x:=x) (y:=0) ho hv rfl
       rw [Nat.mul_zero,Nat.add_zero,Nat.add_zero] at hst
       have hc':(c+x)/ay<=1:=by unfold ay at *;omega
       simp only [SS,Nat.reduceAdd,bb,vA hlt,dx hx,aK,bp,f1,f2,NG hb,n5,w6,hk,jq]
       rw [bV (o:=o++0::zs k) (by simp [ae.put]) tG,gm _ _ _ _ ho]
       simp only [SS,Nat.reduceAdd,p8,sr]
       refine ⟨(i+1,_,o++[(c+x)%ay],(c+x)/ay),⟨(jT hlt).1,by simp [ho],q7 hwd _,hc', ?_⟩,(jT hlt).2,Wk.forget (by simp [Fg]) (fun j => ?_) (Nat.le_refl _)⟩
       . show val (o++[(c+x)%ay])+_=val ((digits n).take (i+1))+val ((digits m).take (i+1))
         rw [aG hx,jI (show (digits m).length<=i from by show aa m<=i;omega)];exact hst
       . simp only [ae.put,Ft];split<;>simp
   . have qm:=dT hlt
     have hcB:c<ay:=by unfold ay;omega
     have f5:IntKind.u32.wrap (c:Int)=(c:Int):=by rw [w6,Nat.mod_eq_of_lt hcB]
     have aed:=b7 (q:=[13]) (t:=false) (show aa n<aa n+1 by omega)
     have Pe:k=0:=by omega
     have Mw:aa n<(o++0::zs k).length:=by simp;omega
     have e1:(digits n).take (aa n)=digits n:=List.take_of_length_le (Nat.le_refl _)
     have e2:(digits m).take (aa n)=digits m:=List.take_of_length_le (by show aa m<=aa n;omega)
     have Cr:val (o++[c])=m+n:=by
       rw [bO,ho];simp only [val,Nat.mul_zero,Nat.add_zero]
       rw [hv,qm,e1,e2,aI,aI]
       all_goals omega
     have ZA:Wd (o++[c]):=c9 hwd (by intro z hz;simp at hz;subst hz;exact hcB)
     have zI:aa n+1=(o++[c]).length:=by simp [ho,qm]
     have Bn:=ht (o++[c]) ZA (by rw [<- zI];omega)
     rw [Cr] at Bn
     simp only [SS,Nat.reduceAdd,bb,xh hlt,f5,aed,hk,jq]
     rw [bV (o:=o++0::zs k) (by simp [ae.put]) Mw,gm _ _ _ _ (ho.trans qm),Pe,yg]
     simp only [SS,Nat.reduceAdd]
     refine cA [([13],⟨us (o++[c]),1,false⟩)] Bn (az.cons (iH zI) az.nil) (by simp [ae.put]) ?_
     simp only [SS,Nat.reduceAdd]
     exact ai▸af rfl (aC _)
 exact absurd ZR WL
set_option maxHeartbeats 1000000 in
theorem Kn {f ft:FuncId} (h:Has P f (eD ft)) (ht:ja P G ft) (m n:Nat) (zH:n<=m) (hm:aa m<=1000000):VP P G f [W m,W n] (W (m-n)):=by
 refine VP.has h ?_
 have hwn:=bg zH
 have tp:∀ p:Id,jJ p 1 4 (.int .u32 0) (.int .i64 (aa m:Int)) (.int .i64 (aa m:Int))=some { val := .osl p 1 0 (aa m) false,up:=[(p,some ⟨us (List.replicate (aa m) 0),1,false⟩)] }:=fun p=>lJ (by omega)
 simp only [eD,SS,Nat.reduceAdd,bb,tp,aY]
 refine VW.e9 (α := Nat × Nat × List Nat × Nat) (fun x=>⟨[W m,W n, .top, .top, .top, .osl [3] 1 0 (aa m) false, .int .u64 (x.2.2.2:Int), .int .i64 (x.1:Int)]++List.replicate 40 .top,
   ae.put (fun _=>none) [3] (some ⟨us (x.2.2.1++zs (aa m-x.1)),1,false⟩),x.2.1⟩)
   (fun x=>x.1<=aa m/\x.2.2.1.length=x.1/\Wd x.2.2.1/\x.2.2.2<=1/\val x.2.2.1+val ((digits n).take x.1)=val ((digits m).take x.1)+ay ^ x.1*x.2.2.2) (fun x=>aa m-x.1) (0,1000,[],0) ?_ ?_ ?_
 . exact Wk.slots (by simp [Fg,List.replicate]) (by simp only [];omega)
 . exact ⟨Nat.zero_le _,rfl,by intro w hw;simp at hw,Nat.zero_le _,by simp [val]⟩
 rintro ⟨i,nn,o,c⟩ ⟨hi,ho,hwd,hc,hv⟩
 simp only [] at hi ho hwd hc hv
 have vA:i<aa m->decide ((i:Int)<(aa m:Int))=true:=fun h=>aw (by omega)
 have xh : ¬ i<aa m->decide ((i:Int)<(aa m:Int))=false:=fun h=>ak (by omega)
 have NF:i<aa n->decide ((i:Int)<(aa n:Int))=true:=fun h=>aw (by omega)
 have NG : ¬ i<aa n->decide ((i:Int)<(aa n:Int))=false:=fun h=>ak (by omega)
 have dT : ¬ i<aa m->i=aa m:=by omega
 have sr:=aD i (by omega)
 have jT:i<aa m->i+1<=aa m/\aa m-(i+1)<aa m-i:=fun h=>by omega
 by_cases hlt:i<aa m
 . obtain ⟨x,hx⟩:∃ x,(digits m)[i]? = some x:=⟨_,List.getElem?_eq_getElem hlt⟩
   have tH:=aQ m x (List.mem_of_getElem? hx)
   have f1:=bj x tH
   have n5:=b7 (q:=[3]) (t:=false) hlt
   obtain ⟨k,hk⟩:∃ k,aa m-i=k+1:=⟨aa m-i-1,by omega⟩
   have Ft:aa m-(i+1)=k:=by omega
   have tG:i<(o++0::zs k).length:=by simp;omega
   by_cases hb:i<aa n
   . obtain ⟨y,hy⟩:∃ y,(digits n)[i]? = some y:=⟨_,List.getElem?_eq_getElem hb⟩
     have Fi:=aQ n y (List.mem_of_getElem? hy)
     have f3:=bj y Fi
     obtain ⟨w,c',h1,h2,h3,d,h4,h5,h6⟩:=Br tH Fi hc
     have hst:=oV (va:=val ((digits m).take i)) (vb:=val ((digits n).take i)) (x:=x) (y:=y) (c:=c) (w:=w) (c':=c') ho (by rw [hv];omega) h3
     simp only [SS,Nat.reduceAdd,bb,vA hlt,dx hx,aK,bp,f1,NF hb,dx hy,f3,h4,h5,n5,hk,jq]
     rw [bV (o:=o++0::zs k) (by simp [ae.put]) tG,gm _ _ _ _ ho]
     simp only [SS,Nat.reduceAdd,p8,h6,sr]
     refine ⟨(i+1,_,o++[w],c'),⟨(jT hlt).1,by simp [ho],c9 hwd (by intro z hz;simp at hz;subst hz;exact h1),h2, ?_⟩,(jT hlt).2,Wk.forget (by simp [Fg]) (fun j => ?_) (Nat.le_refl _)⟩
     . show val (o++[w])+val ((digits n).take (i+1))=val ((digits m).take (i+1))+_
       rw [aG hx,aG hy];exact hst
     . simp only [ae.put,Ft];split<;>simp
   . obtain ⟨w,c',h1,h2,h3,d,h4,h5,h6⟩:=Br (y:=0) tH bZ hc
     have h4':IntKind.u64.wrap (IntKind.u64.wrap (IntKind.u64.wrap ((x:Int)+4294967296)-0)-(c:Int))=(d:Int):=h4
     have hst:=oV (va:=val ((digits m).take i)) (vb:=val ((digits n).take i)) (x:=x) (y:=0) (c:=c) (w:=w) (c':=c') ho (by rw [hv];omega) h3
     rw [Nat.mul_zero,Nat.add_zero] at hst
     simp only [SS,Nat.reduceAdd,bb,vA hlt,dx hx,aK,bp,f1,NG hb,h4',h5,n5,hk,jq]
     rw [bV (o:=o++0::zs k) (by simp [ae.put]) tG,gm _ _ _ _ ho]
     simp only [SS,Nat.reduceAdd,p8,h6,sr]
     refine ⟨(i+1,_,o++[w],c'),⟨(jT hlt).1,by simp [ho],c9 hwd (by intro z hz;simp at hz;subst hz;exact h1),h2, ?_⟩,(jT hlt).2,Wk.forget (by simp [Fg]) (fun j => ?_) (Nat.le_refl _)⟩
     . show val (o++[w])+val ((digits n).take (i+1))=val ((digits m).take (i+1))+_
       rw [aG hx,jI (show (digits n).length<=i from by show aa n<=i;omega)];exact hst
     . simp only [ae.put,Ft];split<;>simp
 . have qm:=dT hlt
   have e1:(digits m).take (aa m)=digits m:=List.take_of_length_le (Nat.le_refl _)
   have e2:(digits n).take (aa m)=digits n:=List.take_of_length_le (by show aa n<=aa m;omega)
   have Cr:val o=m-n:=by
     rw [qm,e1,e2,aI,aI] at hv
     have zO:=eF hwd
     rw [ho,qm] at zO
     rcases Nat.eq_zero_or_pos c with h0 | h0
     . subst h0;omega
     . have:c=1:=by omega
       subst this;have:=de m;omega
   have zI:aa m=o.length:=by omega
   have e3:zs (aa m-i)=[]:=by rw [qm,Nat.sub_self];rfl
   have Bn:=ht o hwd (by omega)
   rw [Cr] at Bn
   simp only [SS,Nat.reduceAdd,bb,xh hlt,e3]
   refine cA [([3],⟨us o,1,false⟩)] Bn (az.cons (iH zI) az.nil) (by simp [ae.put]) ?_
   simp only [SS,Nat.reduceAdd]
   exact ai▸af rfl (aC _)
end
end Go.VL
end

section
set_option linter.unusedVariables false
namespace Go.VL
section
variable {P:Program} {G:Nat->Option (List AV)}
set_option maxHeartbeats 1000000 in
theorem H9 {f ft:FuncId} (h:Has P f (dz ft)) (ht:ja P G ft) (m:Nat) {ws:List Nat} (PG:Wd ws) (hm:aa m<=1000000) (hn:ws.length<=1000000):VP P G f [W m, .sl 1 (us ws)] (W (m*val ws)):=by
 refine VP.has h ?_
 have tp:∀ p:Id,jJ p 1 4 (.int .u32 0) (.int .i64 ((aa m+ws.length:Nat):Int)) (.int .i64 ((aa m+ws.length:Nat):Int))=some { val := .osl p 1 0 (aa m+ws.length) false,up:=[(p,some ⟨us (List.replicate (aa m+ws.length) 0),1,false⟩)] }:=fun p=>lJ (by omega)
 have hL:=lU (aa m) (ws.length) (by omega)
 simp only [dz,SS,Nat.reduceAdd,bb,eL,hL,tp,aY]
 refine VW.e9 (α := Nat × Nat × List Nat) (fun x=>⟨[W m, .sl 1 (us ws), .top, .top, .top, .osl [6] 1 0 (aa m+ws.length) false, .int .i64 (x.1:Int)]++List.replicate 60 .top,
   ae.put (fun _=>none) [6] (some ⟨us x.2.2,1,false⟩),x.2.1⟩)
   (fun x=>x.1<=aa m/\x.2.2.length=aa m+ws.length/\Wd x.2.2/\val x.2.2=val ((digits m).take x.1)*val ws) (fun x=>aa m-x.1) (0,1000,List.replicate (aa m+ws.length) 0) ?_ ?_ ?_
 . exact Wk.slots (by simp [Fg,List.replicate]) (by simp only [];omega)
 . exact ⟨Nat.zero_le _,List.length_replicate ..,A5 _,by simp only [];rw [sk (fun w hw=>List.eq_of_mem_replicate hw)];simp [val]⟩
 rintro ⟨i,nn,o⟩ ⟨hi,ho,hwd,hv⟩
 simp only [] at hi ho hwd hv
 have vA:i<aa m->decide ((i:Int)<(aa m:Int))=true:=fun h=>aw (by omega)
 have xh : ¬ i<aa m->decide ((i:Int)<(aa m:Int))=false:=fun h=>ak (by omega)
 have dT : ¬ i<aa m->i=aa m:=by omega
 have sr:=aD i (by omega)
 have jT:i<aa m->i+1<=aa m/\aa m-(i+1)<aa m-i:=fun h=>by omega
 have mQ:=lU i (ws.length) (by omega)
 have PM:i<aa m->i+ws.length<aa m+ws.length:=fun h=>by omega
 by_cases hlt:i<aa m
 . obtain ⟨a,ha⟩:∃ a,(digits m)[i]? = some a:=⟨_,List.getElem?_eq_getElem hlt⟩
   have vC:=aQ m a (List.mem_of_getElem? ha)
   have f1:=bj a vC
   have UR:o[i+ws.length]? = some 0:=by
     obtain ⟨y,hy⟩:∃ y,o[i+ws.length]? = some y:=⟨_,List.getElem?_eq_getElem (by rw [ho];exact PM hlt)⟩
     have e:=CL (k:=i+ws.length) (by
       rw [hv,Nat.pow_add]
       have h2:val ((digits m).take i)<ay ^ i:=by
         have:=eF (jP (aQ m) i)
         rwa [List.length_take,Nat.min_eq_left (show i<=(digits m).length from Nat.le_of_lt hlt)] at this
       exact Nat.mul_lt_mul'' h2 (eF PG)) hy
     rw [e] at hy;exact hy
   simp only [SS,Nat.reduceAdd,bb,vA hlt,aY]
   refine VW.e9 (α := Nat × Nat × List Nat × Nat) (fun x=>⟨[W m, .sl 1 (us ws), .top, .top, .top, .osl [6] 1 0 (aa m+ws.length) false, .int .i64 (i:Int), .int .u64 (x.2.2.2:Int), .int .i64 (x.1:Int)]++List.replicate 58 .top,
     ae.put (fun _=>none) [6] (some ⟨us x.2.2.1,1,false⟩),x.2.1⟩)
     (fun x=>x.1<=ws.length/\x.2.2.1.length=aa m+ws.length/\Wd x.2.2.1/\x.2.2.2<ay/\x.2.2.1[i+ws.length]? = some 0/\val x.2.2.1+ay ^ (i+x.1)*x.2.2.2=val o+ay ^ i*(a*val (ws.take x.1))) (fun x=>ws.length-x.1) (0,nn+1000,o,0) ?_ ?_ ?_
   . exact Wk.slots (by simp [Fg,List.replicate]) (by simp only [];omega)
   . exact ⟨Nat.zero_le _,ho,hwd,bZ,UR,by simp [val]⟩
   rintro ⟨j,mm,o',c⟩ ⟨hj,Lv,CM,hc,hz,hv'⟩
   simp only [] at hj Lv CM hc hz hv'
   have NF:j<ws.length->decide ((j:Int)<(ws.length:Int))=true:=fun h=>aw (by omega)
   have NG : ¬ j<ws.length->decide ((j:Int)<(ws.length:Int))=false:=fun h=>ak (by omega)
   have UN : ¬ j<ws.length->j=ws.length:=by omega
   have RU:=aD j (by omega)
   have VG:j<ws.length->j+1<=ws.length/\ws.length-(j+1)<ws.length-j:=fun h=>by omega
   have To:=lU i j (by omega)
   have PN:j<ws.length->i+j<aa m+ws.length:=fun h=>by omega
   have hne:j<ws.length->i+j≠i+ws.length:=fun h=>by omega
   by_cases C5:j<ws.length
   . obtain ⟨b,hb⟩:∃ b,ws[j]? = some b:=⟨_,List.getElem?_eq_getElem C5⟩
     have FH:=PG b (List.mem_of_getElem? hb)
     have f2:=bj b FH
     obtain ⟨z,We⟩:∃ z,o'[i+j]? = some z:=⟨_,List.getElem?_eq_getElem (by rw [Lv];exact PN C5)⟩
     have RW:=CM z (List.mem_of_getElem? We)
     have f3:=bj z RW
     have f4:=ND a b vC FH
     have hle:=Lu vC FH
     have f5:=p9 c z (by unfold ay at RW hc;omega)
     have f6:=p9 (c+z) (a*b) (by unfold ay at RW hc;omega)
     have hc':(c+z+a*b)/ay<ay:=by unfold ay at RW hc ⊢;omega
     have n5:=b7 (q:=[6]) (t:=false) (PN C5)
     have hst:=Fh (x:=a) (y:=b) (s:=c+z+a*b) We hv' (by omega)
     simp only [SS,DD,Nat.reduceAdd,eL,NF C5,To,n5]
     rw [jo (o:=o') (b:=false) (by simp [ae.put]) We]
     simp only [SS,DD,Nat.reduceAdd,f3,f5,dx ha,fG rfl (qP hb),aK,bp,f1,f2,f4,f6]
     refine ⟨by simp [ag], ?_⟩
     simp only [SS,Nat.reduceAdd,w6,To,n5]
     rw [bV (o:=o') (by simp [ae.put]) (by rw [Lv];exact PN C5)]
     simp only [SS,Nat.reduceAdd,p8,RU]
     refine ⟨(j+1,_,o'.set (i+j) ((c+z+a*b)%ay),(c+z+a*b)/ay),⟨(VG C5).1,by simp [Lv],CK CM (Nat.mod_lt _ bZ),hc', ?_, ?_⟩,(VG C5).2,Wk.forget (by simp [Fg]) (fun j => ?_) (Nat.le_refl _)⟩
     . rw [List.getElem?_set_ne (hne C5)];exact hz
     . show _=val o+ay ^ i*(a*val (ws.take (j+1)))
       rw [aG hb];exact hst
     . simp only [ae.put];split<;>simp
   . have hjw:=UN C5
     have n5:=b7 (q:=[6]) (t:=false) (PM hlt)
     have f7:IntKind.u32.wrap (c:Int)=(c:Int):=by rw [w6,Nat.mod_eq_of_lt hc]
     have hval:val (o'.set (i+ws.length) c)=val ((digits m).take (i+1))*val ws:=by
       have e:=Bq (x:=c) hz
       have e2:ws.take ws.length=ws:=List.take_of_length_le (Nat.le_refl _)
       rw [hjw,e2,hv] at hv'
       rw [aG ha,Nat.add_mul]
       have e3:ay ^ i*a*val ws=ay ^ i*(a*val ws):=Nat.mul_assoc _ _ _
       omega
     simp only [SS,Nat.reduceAdd,eL,NG C5,mQ,f7,n5]
     rw [bV (o:=o') (by simp [ae.put]) (by rw [Lv];exact PM hlt)]
     simp only [SS,Nat.reduceAdd,sr]
     refine ⟨(i+1,_,o'.set (i+ws.length) c),⟨(jT hlt).1,by simp [Lv],CK CM hc,hval⟩,(jT hlt).2,Wk.forget (by simp [Fg]) (fun j => ?_) (Nat.le_refl _)⟩
     simp only [ae.put];split<;>simp
 . have qm:=dT hlt
   have e1:(digits m).take (aa m)=digits m:=List.take_of_length_le (Nat.le_refl _)
   have Cr:val o=m*val ws:=by rw [hv,qm,e1,aI]
   have Bn:=ht o hwd (by rw [ho];omega)
   rw [Cr] at Bn
   simp only [SS,Nat.reduceAdd,bb,xh hlt]
   refine cA [([6],⟨us o,1,false⟩)] Bn (az.cons (iH ho.symm) az.nil) (by simp [ae.put]) ?_
   simp only [SS,Nat.reduceAdd]
   exact ai▸af rfl (aC _)
theorem TU {f ft:FuncId} (h:Has P f (dz ft)) (ht:ja P G ft) (m n:Nat) (hm:aa m<=1000000) (hn:aa n<=1000000):VP P G f [W m,W n] (W (m*n)):=by
 have:=H9 (G:=G) h ht m (aQ n) hm hn
 rw [aI] at this;exact this
theorem aee {f ft:FuncId} (h:Has P f (np ft)) (ht:ja P G ft) (m w:Nat) (hm:aa m<=1000000) (hw:w<ay) (Je:w≠0) :
   VP P G f [W m, .int .u32 (w:Int)] (.tup [W (m/w), .int .u32 ((m%w:Nat):Int)]):=by
 refine VP.has h ?_
 have tp:∀ p:Id,jJ p 1 4 (.int .u32 0) (.int .i64 (aa m:Int)) (.int .i64 (aa m:Int))=some { val := .osl p 1 0 (aa m) false,up:=[(p,some ⟨us (List.replicate (aa m) 0),1,false⟩)] }:=fun p=>lJ (by omega)
 have hwL:IntKind.i64.wrap ((aa m:Int)-1)=(aa m:Int)-1:=by rw [IntKind.wrap_i64];omega
 have f0:=bj w hw
 have hwz:((w:Nat):Int)≠0:=by omega
 simp only [np,SS,Nat.reduceAdd,bb,tp,hwL,aY]
 refine VW.e9 (α := Nat × Nat × List Nat × Nat) (fun x=>⟨[W m, .int .u32 (w:Int), .top, .top, .top, .top, .osl [4] 1 0 (aa m) false, .int .u64 (x.2.2.2:Int), .int .i64 ((x.1:Int)-1)]++List.replicate 34 .top,
   ae.put (fun _=>none) [4] (some ⟨us (zs x.1++x.2.2.1),1,false⟩),x.2.1⟩)
   (fun x=>x.1+x.2.2.1.length=aa m/\Wd x.2.2.1/\x.2.2.2<w/\val ((digits m).drop x.1)=val x.2.2.1*w+x.2.2.2) (fun x=>x.1) (aa m,1000,[],0) ?_ ?_ ?_
 . rw [List.append_nil];exact Wk.slots (by simp [Fg,List.replicate]) (by simp only [];omega)
 . refine ⟨by simp,by intro w hw;simp at hw,Nat.pos_of_ne_zero Je, ?_⟩
   show val ((digits m).drop (aa m))=_
   rw [List.drop_eq_nil_of_le (show (digits m).length<=aa m from Nat.le_refl _)];simp [val]
 rintro ⟨k,nn,q,r⟩ ⟨hk,hwd,hr,hv⟩
 simp only [] at hk hwd hr hv
 by_cases h0:k=0
 . subst h0
   have d0:decide ((0:Int)<=((0:Nat):Int)-1)=false:=by decide
   have e:m/w=val q/\m%w=r:=by
     rw [List.drop_zero,aI] at hv
     refine (Nat.div_mod_unique (Nat.pos_of_ne_zero Je)).2 ⟨?_,hr⟩
     rw [hv,Nat.mul_comm w];omega
   have Bn:=ht q hwd (by omega)
   rw [<- e.1] at Bn
   have f9:IntKind.u32.wrap (r:Int)=(r:Int):=by rw [w6,Nat.mod_eq_of_lt (by omega)]
   have hq:aa m=q.length:=by omega
   simp only [SS,Nat.reduceAdd,d0,yg]
   refine cA [([4],⟨us q,1,false⟩)] Bn (az.cons (iH hq) az.nil) (by simp [ae.put]) ?_
   simp only [SS,Nat.reduceAdd,f9]
   rw [e.2]
   exact ai▸af rfl (ab.tup (by intro c hc;simp at hc;rcases hc with rfl | rfl;exact aC _;exact ab.int _ _))
 . obtain ⟨j,rfl⟩:∃ j,k=j+1:=⟨k-1,by omega⟩
   have d0:decide ((0:Int)<=(j:Int))=true:=aw (by omega)
   have hj:((j+1:Nat):Int)-1=(j:Int):=by omega
   have zD:j<aa m:=by omega
   have RU:IntKind.i64.wrap ((j:Int)-1)=(j:Int)-1:=by rw [IntKind.wrap_i64];omega
   obtain ⟨a,ha⟩:∃ a,(digits m)[j]? = some a:=⟨_,List.getElem?_eq_getElem zD⟩
   have vC:=aQ m a (List.mem_of_getElem? ha)
   have f1:=bj a vC
   have NH:r<ay:=by omega
   have f2:=CN r NH
   have f3:=Kf r a NH vC
   have hlt:ay*r+a<18446744073709551616:=by unfold ay at *;omega
   have f4:=Kg (ay*r+a) w hlt Je
   have f5:=Kh (ay*r+a) w Je
   have Wf:(ay*r+a)/w<ay:=by
     rw [Nat.div_lt_iff_lt_mul (Nat.pos_of_ne_zero Je)]
     have:ay*(r+1)<=ay*w:=Nat.mul_le_mul_left _ hr
     rw [Nat.mul_add] at this
     omega
   have f6:IntKind.u32.wrap (((ay*r+a)/w:Nat):Int)=(((ay*r+a)/w:Nat):Int):=by rw [w6,Nat.mod_eq_of_lt Wf]
   have n5:=b7 (q:=[4]) (t:=false) zD
   have hol:j<(zs (j+1)++q).length:=by simp [zs];omega
   have hv':val ((digits m).drop j)=val ((ay*r+a)/w::q)*w+(ay*r+a)%w:=by
     rw [List.drop_eq_getElem_cons (show j<(digits m).length from zD)]
     obtain ⟨_,h2⟩:=List.getElem?_eq_some_iff.1 ha
     rw [h2]
     simp only [val]
     rw [hv,Nat.add_mul,Nat.mul_add,Nat.mul_assoc ay]
     have:=Nat.div_add_mod (ay*r+a) w
     rw [Nat.mul_comm] at this
     omega
   have V9:j+((ay*r+a)/w::q).length=aa m:=by simp;omega
   simp only [SS,Nat.reduceAdd,d0,hj,dx ha,aK,bp,f0,f1,f2,f3,f4,f6,n5]
   rw [bV (o:=zs (j+1)++q) (by simp [ae.put]) hol,A6]
   simp only [SS,Nat.reduceAdd,f0,f5,RU]
   refine ⟨(j,_,(ay*r+a)/w::q,(ay*r+a)%w),⟨V9, ?_,Nat.mod_lt _ (Nat.pos_of_ne_zero Je),hv'⟩,Nat.lt_succ_self j,Wk.forget (by simp [Fg]) (fun j => ?_) (Nat.le_refl _)⟩
   . intro z hz
     rcases List.mem_cons.1 hz with rfl | hz
     . exact Wf
     . exact hwd z hz
   . simp only [ae.put];split<;>simp
end
end Go.VL
end

section
set_option linter.unusedVariables false
namespace Go.VL
theorem N0 {x c:Nat} (hx:x<ay) (h0:0<x) (h1:x<2 ^ c) (h2:2 ^ c<=2*x):c=gg x:=by
 obtain ⟨a,b⟩:=tq hx h0
 have e1:2 ^ c<2 ^ (gg x+1):=by rw [Nat.pow_succ];omega
 have e2:2 ^ gg x<2 ^ (c+1):=by rw [Nat.pow_succ];omega
 have:=(Nat.pow_lt_pow_iff_right (by decide:1<2)).1 e1
 have:=(Nat.pow_lt_pow_iff_right (by decide:1<2)).1 e2
 omega
theorem alZ (a:Nat) (ha:a<ay):bP .quo .int (.int .u32 (a:Int)) (.int .u32 2)=some (.int .u32 ((a/2:Nat):Int)):=by
 rw [K6 (by decide)]
 show some (AV.int .u32 (IntKind.u32.wrap ((a/2:Nat):Int)))=_
 rw [w6,Nat.mod_eq_of_lt (by unfold ay at *;omega)]
theorem TV {x y s:Nat} (hs:s<=32) (hx:x<ay):((ay*y+x)/2 ^ s)%ay=x/2 ^ s+2 ^ (32-s)*(y%2 ^ s):=by
 have hB:=wP hs
 have hd:x/2 ^ s<2 ^ (32-s):=by rw [Nat.div_lt_iff_lt_mul (Nat.two_pow_pos _),hB];exact hx
 have e1:(ay*y+x)/2 ^ s=2 ^ (32-s)*y+x/2 ^ s:=by
   rw [<- hB,Nat.mul_comm (2 ^ (32-s)),Nat.mul_assoc,Nat.mul_add_div (Nat.two_pow_pos _)]
 have hlt:y%2 ^ s<2 ^ s:=Nat.mod_lt _ (Nat.two_pow_pos _)
 have h1:2 ^ (32-s)*(y%2 ^ s+1)<=2 ^ (32-s)*2 ^ s:=Nat.mul_le_mul_left _ hlt
 rw [Nat.mul_add,hB] at h1
 have e2:2 ^ (32-s)*y=ay*(y/2 ^ s)+2 ^ (32-s)*(y%2 ^ s):=by
   have:=Nat.div_add_mod y (2 ^ s)
   conv=>lhs;rw [<- this]
   rw [Nat.mul_add, <- Nat.mul_assoc,hB]
 rw [e1,e2,show ay*(y/2 ^ s)+2 ^ (32-s)*(y%2 ^ s)+x/2 ^ s=(x/2 ^ s+2 ^ (32-s)*(y%2 ^ s))+ay*(y/2 ^ s) from by omega,Nat.add_mul_mod_self_left,Nat.mod_eq_of_lt (by omega)]
theorem ahD (x y:Nat) (hx:x<ay) (hy:y<ay):bP .or .int (.int .u64 (x:Int)) (.int .u64 ((ay*y:Nat):Int))=some (.int .u64 ((ay*y+x:Nat):Int)):=by
 rw [adC _ _ (by unfold ay at *;omega) (by unfold ay at *;omega),Nat.or_comm]
 have:=Nat.two_pow_add_eq_or_of_lt (i:=32) (b:=x) (by unfold ay at hx;omega) y
 rw [show ay=2 ^ 32 from rfl,this]
theorem WM (x s:Nat) (hs:s<=64):bP .shr .int (.int .u64 (x:Int)) (.int .i64 (s:Int))=some (.int .u64 ((x/2 ^ s:Nat):Int)):=by
 rw [uh (by omega)]
 have h2:min (s:Int).toNat IntKind.u64.bits=s:=by
   show min (s:Int).toNat 64=s
   rw [Int.toNat_natCast];omega
 have h3:(x:Int).fdiv (2 ^ s)=((x/2 ^ s:Nat):Int):=by
   have h4:(2:Int) ^ s=((2 ^ s:Nat):Int):=by rw [Int.natCast_pow];rfl
   rw [h4,Int.fdiv_eq_ediv_of_nonneg _ (Int.natCast_nonneg _)]
   exact (Int.natCast_ediv _ _).symm
 rw [h2,h3]
section
variable {P:Program} {G:Nat->Option (List AV)}
theorem Ia {f:FuncId} (h:Has P f fC) {n x k:Nat} (hk:aa n=k+1) (hx:(digits n)[k]? = some x) (V9:k<=1000000):VP P G f [W n] (.int .i64 ((32*k+gg x:Nat):Int)):=by
 refine VP.has h ?_
 have hxB:=aQ n x (List.mem_of_getElem? hx)
 obtain ⟨NA,_,_,_,_⟩:=D0 hk hx
 have d0:decide (((k+1:Nat):Int)=0)=false:=ak (by omega)
 have p1:IntKind.i64.wrap (((k+1:Nat):Int)-1)=(k:Int):=by rw [IntKind.wrap_i64];omega
 simp only [fC,SS,Nat.reduceAdd,bb,hk,d0,p1,dx hx,aK,bp,aY]
 refine VW.e9 (α := Nat × Nat × Nat) (fun y=>⟨[W n, .top, .top, .int .i64 (y.1:Int), .int .u32 (y.2.1:Int)]++List.replicate 21 .top,fun _=>none,y.2.2⟩)
   (fun y=>y.2.1=x/2 ^ y.1/\y.1<=32/\2 ^ y.1<=2*x) (fun y=>y.2.1) (0,x,1000) ?_ ?_ ?_
 . exact Wk.slots (by simp [Fg,List.replicate]) (by simp only [];omega)
 . refine ⟨by simp,by simp,by simp;omega⟩
 rintro ⟨c,y,nn⟩ ⟨hy,hc,h2⟩
 simp only [] at hy hc h2
 have hyB:y<ay:=by rw [hy];exact Nat.lt_of_le_of_lt (Nat.div_le_self _ _) hxB
 by_cases h0:y=0
 . have d1:decide ((0:Int)<(y:Int))=false:=ak (by omega)
   have h1:x<2 ^ c:=by
     rw [h0] at hy
     exact Nat.lt_of_div_eq_zero (Nat.two_pow_pos c) hy.symm
   have e:=N0 hxB NA h1 h2
   have m1:IntKind.i64.wrap (32*(k:Int))=((32*k:Nat):Int):=by rw [IntKind.wrap_i64];omega
   have a1:=lU (32*k) c (by omega)
   rw [<- e]
   simp only [SS,Nat.reduceAdd,d1,bb,hk,p1,m1,a1]
   exact ai▸af rfl (ab.int _ _)
 . have d1:decide ((0:Int)<(y:Int))=true:=aw (by omega)
   have hcw:=aD c (by omega)
   have q2:=alZ y hyB
   have hlt:2 ^ c<=x:=by
     rcases Nat.lt_or_ge x (2 ^ c) with h | h
     . rw [Nat.div_eq_of_lt h] at hy;omega
     . exact h
   have Zw:c+1<=32:=by
     have:2 ^ c<2 ^ 32:=by unfold ay at hxB;omega
     have:=(Nat.pow_lt_pow_iff_right (by decide:1<2)).1 this
     omega
   simp only [SS,Nat.reduceAdd,d1,hcw,q2]
   refine ⟨(c+1,y/2,_),⟨?_,Zw, ?_⟩,Nat.div_lt_self (by omega) (by decide),Wk.slots (by simp [Fg]) (Nat.le_refl _)⟩
   . simp only [];rw [hy,Nat.div_div_eq_div_mul, <- Nat.pow_succ]
   . simp only [];rw [Nat.pow_succ];omega
theorem Ib {f:FuncId} (h:Has P f gH) (m s:Nat) (hm:aa m<=1000000) (hs:s<=31) (p:Id) :
   aM P G f [W m, .int .i64 (s:Int)] p [] { val := .osl (4::p) 1 0 (aa m+1) false,rd:=[],up:=[(4::p,some ⟨us (pad (aa m+1) (m*2 ^ s)),1,false⟩)] }:=by
 refine aM.has h ?_
 have hL:=aD (aa m) (by omega)
 have tp:∀ p:Id,jJ p 1 4 (.int .u32 0) (.int .i64 ((aa m+1:Nat):Int)) (.int .i64 ((aa m+1:Nat):Int))=some { val := .osl p 1 0 (aa m+1) false,up:=[(p,some ⟨us (List.replicate (aa m+1) 0),1,false⟩)] }:=fun p=>lJ (by omega)
 have hz:us (List.replicate (aa m+1) 0)=us (0::zs (aa m)):=rfl
 simp only [gH,SS,Nat.reduceAdd,bb,hL,tp,aY]
 refine VW.e9 (α := Nat × Nat × List Nat × Nat) (fun x=>⟨[W m, .int .i64 (s:Int), .top, .top, .top, .osl (4::p) 1 0 (aa m+1) false, .int .i64 (x.1:Int)]++List.replicate 36 .top,
   ae.put (ae.of []) (4::p) (some ⟨us (x.2.2.1++x.2.2.2::zs (aa m-x.1)),1,false⟩),x.2.1⟩)
   (fun x=>x.1<=aa m/\x.2.2.1.length=x.1/\Wd x.2.2.1/\x.2.2.2<2 ^ s/\val x.2.2.1+ay ^ x.1*x.2.2.2=val ((digits m).take x.1)*2 ^ s) (fun x=>aa m-x.1) (0,1000,[],0) ?_ ?_ ?_
 . exact Wk.slots (by simp [Fg,List.replicate]) (by simp only [];omega)
 . exact ⟨Nat.zero_le _,rfl,by intro w hw;simp at hw,Nat.two_pow_pos _,by simp [val]⟩
 rintro ⟨i,nn,o,c⟩ ⟨hi,ho,hwd,hc,hv⟩
 simp only [] at hi ho hwd hc hv
 have vA:i<aa m->decide ((i:Int)<(aa m:Int))=true:=fun h=>aw (by omega)
 have xh : ¬ i<aa m->decide ((i:Int)<(aa m:Int))=false:=fun h=>ak (by omega)
 have dT : ¬ i<aa m->i=aa m:=by omega
 have sr:=aD i (by omega)
 have jT:i<aa m->i+1<=aa m/\aa m-(i+1)<aa m-i:=fun h=>by omega
 have hcB:c<ay:=by
   have h2:2 ^ s<=2 ^ 32:=Nat.pow_le_pow_right (by decide) (by omega)
   unfold ay;omega
 by_cases hlt:i<aa m
 . obtain ⟨x,hx⟩:∃ x,(digits m)[i]? = some x:=⟨_,List.getElem?_eq_getElem hlt⟩
   have tH:=aQ m x (List.mem_of_getElem? hx)
   have f1:=bj x tH
   have f2:=Wh x s (by omega) tH
   obtain ⟨g1,g2,g3⟩:=NJ (s:=s) (by omega) hc tH
   have f3:=Zy c (x*2 ^ s%ay) hcB (Nat.mod_lt _ bZ)
   rw [g1] at f3
   have g4:x*2 ^ s/ay<ay:=by
     have h2:2 ^ s<=2 ^ 32:=Nat.pow_le_pow_right (by decide) (by omega)
     have:(2:Nat) ^ 32=ay:=rfl
     omega
   have f4:IntKind.u32.wrap ((x*2 ^ s/ay:Nat):Int)=((x*2 ^ s/ay:Nat):Int):=by rw [w6,Nat.mod_eq_of_lt g4]
   have n5:=b7 (q:=4::p) (t:=false) (show i<aa m+1 by omega)
   have adD:=b7 (q:=4::p) (t:=false) (show i+1<aa m+1 by omega)
   obtain ⟨k,hk⟩:∃ k,aa m-i=k+1:=⟨aa m-i-1,by omega⟩
   have Ft:aa m-(i+1)=k:=by omega
   have tG:i<(o++c::0::zs k).length:=by simp;omega
   have Mw:i+1<(o++(c+x*2 ^ s%ay)::0::zs k).length:=by simp;omega
   have hv':val (o++[c+x*2 ^ s%ay])+ay ^ (i+1)*(x*2 ^ s/ay)=val ((digits m).take (i+1))*2 ^ s:=by
     rw [aG hx,bO,ho,Nat.add_mul, <- hv]
     simp only [val,Nat.mul_zero,Nat.add_zero,Nat.pow_succ]
     have e2:ay ^ i*(x*2 ^ s%ay)+ay ^ i*(ay*(x*2 ^ s/ay))=ay ^ i*(x*2 ^ s):=by rw [<- Nat.mul_add,Nat.mod_add_div]
     rw [Nat.mul_assoc,Nat.mul_assoc,Nat.mul_add]
     omega
   simp only [SS,Nat.reduceAdd,bb,vA hlt,dx hx,aK,bp,f1,f2,n5,hk,jq]
   rw [jo (o:=o++c::0::zs k) (b:=false) (by simp [ae.put]) (yh _ _ _ ho)]
   simp only [SS,Nat.reduceAdd,w6,f3,n5]
   rw [bV (o:=o++c::0::zs k) (by simp [ae.put]) tG,gm _ _ _ _ ho]
   simp only [SS,Nat.reduceAdd,sr,p8,f4,adD]
   rw [bV (o:=o++(c+x*2 ^ s%ay)::0::zs k) (by simp [ae.put]) Mw,NI _ _ _ _ _ ho]
   simp only [SS,Nat.reduceAdd,sr]
   refine ⟨(i+1,_,o++[c+x*2 ^ s%ay],x*2 ^ s/ay),⟨(jT hlt).1,by simp [ho],c9 hwd (by intro z hz;simp at hz;subst hz;exact g2),g3,hv'⟩,(jT hlt).2,Wk.forget (by simp [Fg]) (fun j => ?_) (Nat.le_refl _)⟩
   simp only [ae.put,Ft];split<;>simp
 . have qm:=dT hlt
   have e1:(digits m).take (aa m)=digits m:=List.take_of_length_le (Nat.le_refl _)
   have Cr:val (o++[c])=m*2 ^ s:=by
     rw [bO,ho];simp only [val,Nat.mul_zero,Nat.add_zero]
     rw [hv,qm,e1,aI]
   have hlen:(o++[c]).length=aa m+1:=by simp [ho,qm]
   have e:pad (aa m+1) (m*2 ^ s)=o++[c]:=by
     rw [<- Cr, <- hlen]
     exact qa (c9 hwd (by intro z hz;simp at hz;subst hz;exact hcB))
   have e3:zs (aa m-i)=[]:=by rw [qm,Nat.sub_self];rfl
   simp only [SS,Nat.reduceAdd,bb,xh hlt,e,e3]
   refine ke▸dQ rfl fun i => .inr ?_
   rfl
theorem ZT {f ft:FuncId} (h:Has P f (lz ft)) (ht:ja P G ft) (m s:Nat) (hm:aa m<=1000000) (hs:s<=31) :
   VP P G f [W m, .int .i64 (s:Int)] (W (m/2 ^ s)):=by
 refine VP.has h ?_
 have tp:∀ p:Id,jJ p 1 4 (.int .u32 0) (.int .i64 (aa m:Int)) (.int .i64 (aa m:Int))=some { val := .osl p 1 0 (aa m) false,up:=[(p,some ⟨us (List.replicate (aa m) 0),1,false⟩)] }:=fun p=>lJ (by omega)
 have hz:us (List.replicate (aa m) 0)=us ([]++zs (aa m-0)):=rfl
 have h2s:2 ^ s*2 ^ (32-s)=ay:=by rw [Nat.mul_comm];exact wP (by omega)
 simp only [lz,SS,Nat.reduceAdd,bb,tp,hz,aY]
 refine VW.e9 (α := Nat × Nat × List Nat) (fun x=>⟨[W m, .int .i64 (s:Int), .top, .top, .top, .osl [3] 1 0 (aa m) false, .int .i64 (x.1:Int)]++List.replicate 38 .top,
   ae.put (fun _=>none) [3] (some ⟨us (x.2.2++zs (aa m-x.1)),1,false⟩),x.2.1⟩)
   (fun x=>x.1<=aa m/\x.2.2.length=x.1/\Wd x.2.2/\2 ^ s*val x.2.2+m%2 ^ s=val ((digits m).take x.1)+ay ^ x.1*(((digits m)[x.1]?).getD 0%2 ^ s)) (fun x=>aa m-x.1) (0,1000,[]) ?_ ?_ ?_
 . exact Wk.slots (by simp [Fg,List.replicate]) (by simp only [];omega)
 . refine ⟨Nat.zero_le _,rfl,by intro w hw;simp at hw, ?_⟩
   show 2 ^ s*val []+m%2 ^ s=val ((digits m).take 0)+ay ^ 0*(((digits m)[0]?).getD 0%2 ^ s)
   rw [A7, <- h2s,Nat.mod_mul_right_mod]
   simp [val]
 rintro ⟨i,nn,o⟩ ⟨hi,ho,hwd,hv⟩
 simp only [] at hi ho hwd hv
 have vA:i<aa m->decide ((i:Int)<(aa m:Int))=true:=fun h=>aw (by omega)
 have xh : ¬ i<aa m->decide ((i:Int)<(aa m:Int))=false:=fun h=>ak (by omega)
 have NF:i+1<aa m->decide (((i+1:Nat):Int)<(aa m:Int))=true:=fun h=>aw (by omega)
 have NG : ¬ i+1<aa m->decide (((i+1:Nat):Int)<(aa m:Int))=false:=fun h=>ak (by omega)
 have dT : ¬ i<aa m->i=aa m:=by omega
 have adF:i<aa m -> ¬ i+1<aa m->i+1=aa m:=by omega
 have sr:=aD i (by omega)
 have jT:i<aa m->i+1<=aa m/\aa m-(i+1)<aa m-i:=fun h=>by omega
 by_cases hlt:i<aa m
 . obtain ⟨x,hx⟩:∃ x,(digits m)[i]? = some x:=⟨_,List.getElem?_eq_getElem hlt⟩
   have tH:=aQ m x (List.mem_of_getElem? hx)
   have f0:=bj x tH
   have n5:=b7 (q:=[3]) (t:=false) hlt
   obtain ⟨k,hk⟩:∃ k,aa m-i=k+1:=⟨aa m-i-1,by omega⟩
   have Ft:aa m-(i+1)=k:=by omega
   have tG:i<(o++0::zs k).length:=by simp;omega
   have hstep:∀ y w,w=x/2 ^ s+2 ^ (32-s)*(y%2 ^ s)->2 ^ s*w+x%2 ^ s=x+ay*(y%2 ^ s)->((digits m)[i+1]?).getD 0=y ->
       2 ^ s*val (o++[w])+m%2 ^ s=val ((digits m).take (i+1))+ay ^ (i+1)*(((digits m)[i+1]?).getD 0%2 ^ s):=by
     intro y w _ hw hy
     rw [hx,Option.getD_some] at hv
     rw [aG hx,bO,ho,hy]
     simp only [val,Nat.mul_zero,Nat.add_zero,Nat.pow_succ]
     have e1:ay ^ i*(2 ^ s*w)+ay ^ i*(x%2 ^ s)=ay ^ i*x+ay ^ i*(ay*(y%2 ^ s)):=by rw [<- Nat.mul_add,hw,Nat.mul_add]
     have e2:2 ^ s*(val o+ay ^ i*w)=2 ^ s*val o+ay ^ i*(2 ^ s*w):=by rw [Nat.mul_add,Nat.mul_left_comm]
     rw [e2,Nat.mul_assoc]
     omega
   by_cases hn:i+1<aa m
   . obtain ⟨y,hy⟩:∃ y,(digits m)[i+1]? = some y:=⟨_,List.getElem?_eq_getElem hn⟩
     have Fi:=aQ m y (List.mem_of_getElem? hy)
     have f1:=bj y Fi
     have f2:=CN y Fi
     have f3:=ahD x y tH Fi
     have f4:=WM (ay*y+x) s (by omega)
     obtain ⟨g1,g2,g3⟩:=DR (y:=y) (s:=s) (by omega) tH
     have f5:IntKind.u32.wrap (((ay*y+x)/2 ^ s:Nat):Int)=((x/2 ^ s+2 ^ (32-s)*(y%2 ^ s):Nat):Int):=by rw [w6,TV (by omega) tH]
     have hv':=hstep y _ rfl g3 (by rw [hy];rfl)
     simp only [SS,Nat.reduceAdd,bb,vA hlt,dx hx,aK,bp,f0,sr,NF hn,dx hy,f1,f2,f3,f4,f5,n5,hk,jq]
     rw [bV (o:=o++0::zs k) (by simp [ae.put]) tG,gm _ _ _ _ ho]
     simp only [SS,Nat.reduceAdd,sr]
     refine ⟨(i+1,_,o++[x/2 ^ s+2 ^ (32-s)*(y%2 ^ s)]),⟨(jT hlt).1,by simp [ho],c9 hwd (by intro z hz;simp at hz;subst hz;exact g2),hv'⟩,(jT hlt).2,Wk.forget (by simp [Fg]) (fun j => ?_) (Nat.le_refl _)⟩
     simp only [ae.put,Ft];split<;>simp
   . have Di:(digits m)[i+1]? = none:=List.getElem?_eq_none (by have:=adF hlt hn;show aa m<=i+1;omega)
     obtain ⟨g1,g2,g3⟩:=DR (y:=0) (s:=s) (by omega) tH
     have e0:x/2 ^ s+2 ^ (32-s)*(0%2 ^ s)=x/2 ^ s:=by simp
     rw [e0] at g2 g3
     have f4:=WM x s (by omega)
     have f5:IntKind.u32.wrap ((x/2 ^ s:Nat):Int)=((x/2 ^ s:Nat):Int):=by rw [w6,Nat.mod_eq_of_lt g2]
     have hv':=hstep 0 (x/2 ^ s) e0.symm g3 (by rw [Di];rfl)
     simp only [SS,Nat.reduceAdd,bb,vA hlt,dx hx,aK,bp,f0,sr,NG hn,f4,f5,n5,hk,jq]
     rw [bV (o:=o++0::zs k) (by simp [ae.put]) tG,gm _ _ _ _ ho]
     simp only [SS,Nat.reduceAdd,sr]
     refine ⟨(i+1,_,o++[x/2 ^ s]),⟨(jT hlt).1,by simp [ho],c9 hwd (by intro z hz;simp at hz;subst hz;exact g2),hv'⟩,(jT hlt).2,Wk.forget (by simp [Fg]) (fun j => ?_) (Nat.le_refl _)⟩
     simp only [ae.put,Ft];split<;>simp
 . have qm:=dT hlt
   have e1:(digits m).take (aa m)=digits m:=List.take_of_length_le (Nat.le_refl _)
   have Di:(digits m)[aa m]? = none:=List.getElem?_eq_none (Nat.le_refl _)
   have Cr:val o=m/2 ^ s:=by
     rw [qm,e1,aI,Di] at hv
     have h1:=Nat.div_add_mod m (2 ^ s)
     have h2:2 ^ s*val o=2 ^ s*(m/2 ^ s):=by
       simp at hv;omega
     exact Nat.eq_of_mul_eq_mul_left (Nat.two_pow_pos _) h2
   have hlen:aa m=o.length:=by rw [ho,qm]
   have Bn:=ht o hwd (by omega)
   rw [Cr] at Bn
   have e3:zs (aa m-i)=[]:=by rw [qm,Nat.sub_self];rfl
   simp only [SS,Nat.reduceAdd,bb,xh hlt,e3]
   refine cA [([3],⟨us o,1,false⟩)] Bn (az.cons (iH hlen) az.nil) (by simp [ae.put]) ?_
   simp only [SS,Nat.reduceAdd]
   exact ai▸af rfl (aC _)
end
end Go.VL
end

section
set_option linter.unusedVariables false
namespace Go.VL
theorem trimmed (b:List Nat) (h:Wd b):∃ z,b=digits (val b)++zs z:=by
 induction hn:b.length generalizing b with
 | zero =>
   obtain rfl:b=[]:=List.length_eq_zero_iff.1 hn
   exact ⟨0,by simp [val,bo,zs]⟩
 | succ k ih =>
   obtain ⟨b',w,rfl,hl⟩:=yj hn
   by_cases hw:w=0
   . subst hw
     obtain ⟨z,hz⟩:=ih b' (fun w hw=>h w (by simp [hw])) hl
     refine ⟨z+1, ?_⟩
     rw [jH]
     conv=>lhs;rw [hz]
     rw [List.append_assoc];congr 1
     simp [zs,List.replicate_succ']
   . exact ⟨0,by rw [jG h (.inr ⟨w,by simp,hw⟩)];simp [zs]⟩
theorem TW {id:Id} {k off len h:Nat} (h2:h<=len):gh k (.osl id k off len false) none (some (.int .i64 (h:Int))) none=some (.osl id k off h false):=by
 simp [gh,iW,lv,h2]
theorem N3 {id:Id} {a b t:List Nat} {f tt:Bool} {n:Nat} (hn:n=b.length):View (ae.of [(id,⟨us (a++b++t),1,f⟩)]) (.osl id 1 a.length n tt) (.sl 1 (us b)):=by
 subst hn
 refine View.osl (bk:=⟨us (a++b++t),1,f⟩) (by simp [ae.of]) rfl (by simp [eL]) ?_ (by rw [eL]) (yd b)
 have:((us (a++b++t)).drop a.length).take b.length=us b:=by rw [List.append_assoc,Fe,Fe, <- eL a,List.drop_left, <- eL b,List.take_left]
 show az _ (flat (((us (a++b++t)).drop a.length).take b.length)) _
 rw [this]
 exact az.pure (tk b)
section
variable {P:Program} {G:Nat->Option (List AV)}
theorem N4 {f:FuncId} (h:Has P f gQ) {id:Id} {a b t:List Nat} (hw:Wd b) (hl:b.length<=9223372036854775807) (p:Id) :
   aM P G f [.osl id 1 a.length b.length false] p [(id,⟨us (a++b++t),1,false⟩)] { val := .osl id 1 a.length (aa (val b)) false,rd:=[id],up:=[] }:=by
 refine aM.has h ?_
 simp only [gQ,SS,aY]
 refine VW.e9 (α := Nat × Nat) (fun x=>⟨[.osl id 1 a.length x.1 false]++List.replicate 20 .top,ae.of [(id,⟨us (a++b++t),1,false⟩)],x.2⟩) (fun x=>x.1<=b.length/\val (b.take x.1)=val b) (fun x=>x.1) (b.length,1) ?_ ⟨Nat.le_refl _,by rw [List.take_length]⟩ ?_
 . exact Wk.slots (by simp [Fg,List.replicate]) (Nat.le_refl _)
 rintro ⟨k,n⟩ ⟨hk,hv⟩
 simp only [] at hk hv
 by_cases h0:k=0
 . subst h0
   have d0:decide ((0:Int)<((0:Nat):Int))=false:=by decide
   have e:aa (val b)=0:=by rw [<- hv];simp [val,aa,bo]
   simp only [SS,Nat.reduceAdd,d0,e]
   exact ke▸dQ rfl fun i => .inr rfl
 . have re:0<k:=Nat.pos_of_ne_zero h0
   have d0:decide ((0:Int)<(k:Int))=true:=aw (by omega)
   have QX:=vz k re (by omega)
   obtain ⟨w,hwk⟩:∃ w,b[k-1]? = some w:=⟨b[k-1],by rw [List.getElem?_eq_getElem]⟩
   have RP:b.take k=b.take (k-1)++[w]:=by
     have:=List.take_add_one (l:=b) (i:=k-1)
     rw [hwk,show k-1+1=k from by omega] at this
     simpa using this
   have n5:=qQ (q:=id) (off:=a.length) (t:=false) (show k-1<k by omega)
   have hld:=jo (σ := ae.of [(id,⟨us (a++b++t),1,false⟩)]) (q:=id) (b:=false) (by simp [ae.of]) (yi (t:=t) (rfl:a.length=a.length) hwk)
   have NW:=TW (id:=id) (k:=1) (off:=a.length) (len:=k) (h:=k-1) (Nat.sub_le _ _)
   by_cases hz:w=0
   . have d1:decide ((w:Int)=0)=true:=aw (by omega)
     simp only [SS,Nat.reduceAdd,d0,QX,n5,hld,d1,NW]
     refine ⟨(k-1,_),⟨by simp only [];omega, ?_⟩,by simp only [];omega,Wk.slots (by simp [Fg]) (Nat.le_refl _)⟩
     simp only []
     rw [<- hv,RP,hz,jH]
   . have d1:decide ((w:Int)=0)=false:=ak (by omega)
     have e:aa (val b)=k:=by
       have e1:digits (val b)=b.take k:=by
         rw [<- hv]
         exact jG (jP hw k) (.inr ⟨w,by rw [RP];simp,hz⟩)
       rw [aa,e1,List.length_take];omega
     simp only [SS,Nat.reduceAdd,d0,QX,n5,hld,d1,e]
     exact ke▸dQ rfl fun i => .inr rfl
set_option maxHeartbeats 1000000 in
theorem TX {f ft:FuncId} (h:Has P f (eD ft)) (ht:ja P G ft) {id:Id} {a t:List Nat} (m n:Nat) (zH:n<=m) (hm:aa m<=1000000) (p:Id) (qg:∀ x,id≠x::p) :
   aM P G f [.osl id 1 a.length (aa m) false,W n] p [(id,⟨us (a++digits m++t),1,false⟩)] { val:=W (m-n),rd:=[id],up:=[] }:=by
 refine aM.has h ?_
 have hwn:=bg zH
 have WN:=qg 3
 have tp:∀ p:Id,jJ p 1 4 (.int .u32 0) (.int .i64 (aa m:Int)) (.int .i64 (aa m:Int))=some { val := .osl p 1 0 (aa m) false,up:=[(p,some ⟨us (List.replicate (aa m) 0),1,false⟩)] }:=fun p=>lJ (by omega)
 simp only [eD,SS,Nat.reduceAdd,tp,aY]
 refine VW.e9 (α := Nat × Nat × List Nat × Nat) (fun x=>⟨[.osl id 1 a.length (aa m) false,W n, .top, .top, .top, .osl (3::p) 1 0 (aa m) false, .int .u64 (x.2.2.2:Int), .int .i64 (x.1:Int)]++List.replicate 40 .top,
   ae.put (ae.of [(id,⟨us (a++digits m++t),1,false⟩)]) (3::p) (some ⟨us (x.2.2.1++zs (aa m-x.1)),1,false⟩),x.2.1⟩)
   (fun x=>x.1<=aa m/\x.2.2.1.length=x.1/\Wd x.2.2.1/\x.2.2.2<=1/\val x.2.2.1+val ((digits n).take x.1)=val ((digits m).take x.1)+ay ^ x.1*x.2.2.2) (fun x=>aa m-x.1) (0,1000,[],0) ?_ ?_ ?_
 . exact Wk.slots (by simp [Fg,List.replicate]) (by simp only [];omega)
 . exact ⟨Nat.zero_le _,rfl,by intro w hw;simp at hw,Nat.zero_le _,by simp [val]⟩
 rintro ⟨i,nn,o,c⟩ ⟨hi,ho,hwd,hc,hv⟩
 simp only [] at hi ho hwd hc hv
 have vA:i<aa m->decide ((i:Int)<(aa m:Int))=true:=fun h=>aw (by omega)
 have xh : ¬ i<aa m->decide ((i:Int)<(aa m:Int))=false:=fun h=>ak (by omega)
 have NF:i<aa n->decide ((i:Int)<(aa n:Int))=true:=fun h=>aw (by omega)
 have NG : ¬ i<aa n->decide ((i:Int)<(aa n:Int))=false:=fun h=>ak (by omega)
 have dT : ¬ i<aa m->i=aa m:=by omega
 have sr:=aD i (by omega)
 have jT:i<aa m->i+1<=aa m/\aa m-(i+1)<aa m-i:=fun h=>by omega
 by_cases hlt:i<aa m
 . obtain ⟨x,hx⟩:∃ x,(digits m)[i]? = some x:=⟨_,List.getElem?_eq_getElem hlt⟩
   have tH:=aQ m x (List.mem_of_getElem? hx)
   have f1:=bj x tH
   have n5:=b7 (q:=3::p) (t:=false) hlt
   have hio:=qQ (q:=id) (off:=a.length) (t:=false) hlt
   obtain ⟨k,hk⟩:∃ k,aa m-i=k+1:=⟨aa m-i-1,by omega⟩
   have Ft:aa m-(i+1)=k:=by omega
   have tG:i<(o++0::zs k).length:=by simp;omega
   have hld:=jo (σ := ae.put (ae.of [(id,⟨us (a++digits m++t),1,false⟩)]) (3::p) (some ⟨us (o++0::zs k),1,false⟩)) (q:=id) (b:=false) (by simp [ae.of,ae.put,WN]) (yi (t:=t) (rfl:a.length=a.length) hx)
   by_cases hb:i<aa n
   . obtain ⟨y,hy⟩:∃ y,(digits n)[i]? = some y:=⟨_,List.getElem?_eq_getElem hb⟩
     have Fi:=aQ n y (List.mem_of_getElem? hy)
     have f3:=bj y Fi
     obtain ⟨w,c',h1,h2,h3,d,h4,h5,h6⟩:=Br tH Fi hc
     have hst:=oV (va:=val ((digits m).take i)) (vb:=val ((digits n).take i)) (x:=x) (y:=y) (c:=c) (w:=w) (c':=c') ho (by rw [hv];omega) h3
     simp only [SS,Nat.reduceAdd,bb,vA hlt,hk,jq,hio,hld,bp,f1,NF hb,dx hy,aK,f3,h4,h5,n5]
     rw [bV (o:=o++0::zs k) (by simp [ae.put]) tG,gm _ _ _ _ ho]
     simp only [SS,Nat.reduceAdd,p8,h6,sr]
     refine ⟨(i+1,_,o++[w],c'),⟨(jT hlt).1,by simp [ho],c9 hwd (by intro z hz;simp at hz;subst hz;exact h1),h2, ?_⟩,(jT hlt).2,Wk.forget (by simp [Fg]) (fun j => ?_) (Nat.le_refl _)⟩
     . show val (o++[w])+val ((digits n).take (i+1))=val ((digits m).take (i+1))+_
       rw [aG hx,aG hy];exact hst
     . simp only [ae.put,Ft];split<;>simp
   . obtain ⟨w,c',h1,h2,h3,d,h4,h5,h6⟩:=Br (y:=0) tH bZ hc
     have h4':IntKind.u64.wrap (IntKind.u64.wrap (IntKind.u64.wrap ((x:Int)+4294967296)-0)-(c:Int))=(d:Int):=h4
     have hst:=oV (va:=val ((digits m).take i)) (vb:=val ((digits n).take i)) (x:=x) (y:=0) (c:=c) (w:=w) (c':=c') ho (by rw [hv];omega) h3
     rw [Nat.mul_zero,Nat.add_zero] at hst
     simp only [SS,Nat.reduceAdd,bb,vA hlt,hk,jq,hio,hld,f1,NG hb,h4',h5,n5]
     rw [bV (o:=o++0::zs k) (by simp [ae.put]) tG,gm _ _ _ _ ho]
     simp only [SS,Nat.reduceAdd,p8,h6,sr]
     refine ⟨(i+1,_,o++[w],c'),⟨(jT hlt).1,by simp [ho],c9 hwd (by intro z hz;simp at hz;subst hz;exact h1),h2, ?_⟩,(jT hlt).2,Wk.forget (by simp [Fg]) (fun j => ?_) (Nat.le_refl _)⟩
     . show val (o++[w])+val ((digits n).take (i+1))=val ((digits m).take (i+1))+_
       rw [aG hx,jI (show (digits n).length<=i from by show aa n<=i;omega)];exact hst
     . simp only [ae.put,Ft];split<;>simp
 . have qm:=dT hlt
   have e1:(digits m).take (aa m)=digits m:=List.take_of_length_le (Nat.le_refl _)
   have e2:(digits n).take (aa m)=digits n:=List.take_of_length_le (by show aa n<=aa m;omega)
   have Cr:val o=m-n:=by
     rw [qm,e1,e2,aI,aI] at hv
     have zO:=eF hwd
     rw [ho,qm] at zO
     rcases Nat.eq_zero_or_pos c with h0 | h0
     . subst h0;omega
     . have:c=1:=by omega
       subst this;have:=de m;omega
   have zI:aa m=o.length:=by omega
   have e3:zs (aa m-i)=[]:=by rw [qm,Nat.sub_self];rfl
   have Bn:=ht o hwd (by omega)
   rw [Cr] at Bn
   simp only [SS,Nat.reduceAdd,xh hlt,e3]
   refine cA [(3::p,⟨us o,1,false⟩)] Bn (az.cons (iH zI) az.nil) (by simp [ae.put]) ?_
   simp only [SS,Nat.reduceAdd]
   refine ke▸dQ rfl fun i => ?_
   by_cases e:i=id
   . subst e;right;simp [ae.app,FC,ae.put,ae.of,WN]
   . left;simp [ae.app,ae.of,List.lookup,show (i==id)=false from by simpa using e]
end
end Go.VL
end

section
set_option linter.unusedVariables false
namespace Go.VL
theorem WO {num h V D x0 M u' l v':Nat} (h0:0<h) (hV:V=(h*ay+l)*M+v') (hD:D=(num*ay+x0)*M+u') (hx:x0<ay) (hu:u'<M) (YO:D/V<ay):D/V<=min (num/h) (ay-1):=by
 have:=NR h0 hV hD hx hu
 omega
section
variable {P:Program} {G:Nat->Option (List AV)}
set_option maxHeartbeats 1000000 in
theorem TY {f ft fti fc fm:FuncId} (h:Has P f (iu fti ft fc fm)) (F0:∀ (m:Nat) (ws:List Nat),Wd ws->aa m<=1000000->ws.length<=1000000->VP P G fti [W m, .sl 1 (us ws)] (W (m*val ws)))
   (TQ:Has P ft gQ) (hc:∀ m n,aa m<=1000000->aa n<=1000000->VP P G fc [W m,W n] (.int .i64 (eM m n))) (UY:∀ m n,n<=m->aa m<=1000000->VP P G fm [W m,W n] (W (m-n)))
   {id:Id} {a b t:List Nat} {V k:Nat} (hV:aa V=k+2) (hb:b.length=k+3) (Mp:Wd b) (hDV:val b<ay*V) (hk:k<=900000) (p:Id) (qg:∀ x,id≠x::p) :
   aM P G f [.osl id 1 a.length (k+3) false,W V] p [(id,⟨us (a++b++t),1,false⟩)] { val := .tup [.int .u32 ((val b/V:Nat):Int),W (V*(val b/V))],rd:=[id],up:=[] }:=by
 refine aM.has h ?_
 obtain ⟨hh,WC⟩:∃ y,(digits V)[k+1]? = some y:=⟨_,List.getElem?_eq_getElem (by show k+1<aa V;omega)⟩
 obtain ⟨ll,llg⟩:∃ y,(digits V)[k]? = some y:=⟨_,List.getElem?_eq_getElem (by show k<aa V;omega)⟩
 have hhB:=aQ V hh (List.mem_of_getElem? WC)
 obtain ⟨hVV,hvM⟩:=ahn (aQ V) hV WC llg
 rw [aI] at hVV
 obtain ⟨hh0,_,_,_,_⟩:=D0 (k:=k+1) hV WC
 have YN:0<V:=by
   rcases Nat.eq_zero_or_pos V with e | e
   . rw [e] at hDV;omega
   . exact e
 obtain ⟨x2,hx2⟩:∃ z,b[k+2]? = some z:=⟨_,List.getElem?_eq_getElem (by omega)⟩
 obtain ⟨x1,Lq⟩:∃ z,b[k+1]? = some z:=⟨_,List.getElem?_eq_getElem (by omega)⟩
 obtain ⟨z0,UR⟩:∃ z,b[k]? = some z:=⟨_,List.getElem?_eq_getElem (by omega)⟩
 have PY:=Mp x2 (List.mem_of_getElem? hx2)
 have WE:=Mp x1 (List.mem_of_getElem? Lq)
 have WG:=Mp z0 (List.mem_of_getElem? UR)
 obtain ⟨hD,huM⟩:=aho Mp hb hx2 Lq UR
 rw [show x2*ay+x1=ay*x2+x1 from by rw [Nat.mul_comm]] at hD
 obtain ⟨num,H8⟩:∃ z,z=ay*x2+x1:=⟨_,rfl⟩
 rw [<- H8] at hD
 have R9:num<18446744073709551616:=by rw [H8];unfold ay at *;omega
 have YO:val b/V<ay:=Nat.div_lt_of_lt_mul (by rw [Nat.mul_comm];exact hDV)
 have LA:=WO hh0 hVV hD WG huM YO
 have io2:=qQ (q:=id) (off:=a.length) (t:=false) (show k+2<k+3 by omega)
 have io1:=qQ (q:=id) (off:=a.length) (t:=false) (show k+1<k+3 by omega)
 have ld2:=jo (σ := ae.of [(id,⟨us (a++b++t),1,false⟩)]) (q:=id) (b:=false) (by simp [ae.of]) (yi (t:=t) (rfl:a.length=a.length) hx2)
 have ld1:=jo (σ := ae.of [(id,⟨us (a++b++t),1,false⟩)]) (q:=id) (b:=false) (by simp [ae.of]) (yi (t:=t) (rfl:a.length=a.length) Lq)
 have w2:=bj x2 PY
 have w1:=bj x1 WE
 have w0:=bj hh hhB
 have s2:=CN x2 PY
 have o2:=Kf x2 x1 PY WE
 rw [<- H8] at o2
 have q1:=Kg num hh R9 (by omega)
 have p1:IntKind.i64.wrap (((k+2:Nat):Int)-1)=((k+1:Nat):Int):=by rw [IntKind.wrap_i64];omega
 have hwD:aa (val b)<=1000000:=by
   have h1:=eF Mp
   rw [hb] at h1
   have:=dH h1;omega
 have htm:=N4 (G:=G) TQ (id:=id) (a:=a) (b:=b) (t:=t) Mp (by omega)
 rw [hb] at htm
 obtain ⟨z,hz⟩:=trimmed b Mp
 have fR:View (ae.of [(id,⟨us (a++b++t),1,false⟩)]) (.osl id 1 a.length (aa (val b)) false) (W (val b)):=by
   have:a++b++t=a++digits (val b)++(zs z++t):=by
     conv=>lhs;rw [hz]
     simp
   rw [this]
   exact N3 rfl
 have WN:∀ x,id≠x::p:=qg
 simp only [iu,SS,DD,Nat.reduceAdd,bb,hV,io2,io1,ld2,ld1,w2,w1,s2,o2,p1,dx WC,aK,bp,w0,q1]
 refine ⟨by simp [ag], ?_⟩
 by_cases ahF:(4294967295<num/hh)
 . have d1:decide ((4294967295:Int)<((num/hh:Nat):Int))=true:=by first | exact aw (by omega) | exact ak (by omega)
   obtain ⟨q0,YP⟩:∃ q0:Nat,q0=4294967295:=⟨_,rfl⟩
   have P0:q0<ay:=by unfold ay;omega
   have aeg:val b/V<=q0:=by unfold ay at LA;omega
   have f3:IntKind.u32.wrap (q0:Int)=(q0:Int):=by rw [w6,Nat.mod_eq_of_lt P0]
   have yr:∀ (σ : ae) (q:Id),bW σ q (.buildSl 1 1 (.int .u32 0) [(0, .int .u32 (q0:Int))])=some { val := .osl q 1 0 1 false,up:=[(q,some ⟨us [q0],1,false⟩)] }:=fun σ q=>DN
   have WD:=F0 V [q0] (by intro w hw;simp at hw;subst hw;exact P0) (by omega) (by simp)
   rw [show val [q0]=q0 from by simp [val]] at WD
   have f3q:IntKind.u32.wrap 4294967295=(q0:Int):=by rw [<- f3,YP];try rfl
   simp only [SS,Nat.reduceAdd,d1,f3q,yr]
   refine cA [(32::p,⟨us [q0],1,false⟩)] WD (az.cons (View.pure (aC _)) (az.cons (iH rfl) az.nil)) (by simp [ae.put]) ?_
   simp only [SS,Nat.reduceAdd,aY]
   refine VW.e9 (α := Nat × Nat) (fun x=>⟨[.osl id 1 a.length (k+3) false,W V, .top, .top, .top, .top, .top, .int .u64 (x.1:Int),W (V*x.1)]++List.replicate 42 .top,ae.of [(id,⟨us (a++b++t),1,false⟩)],x.2⟩)
     (fun x=>val b/V<=x.1/\x.1<ay) (fun x=>x.1) (q0,1000) ?_ ?_ ?_
   . refine Wk.forget (by simp [Fg,List.replicate,YP]) (fun j => ?_) (by simp only [];omega)
     by_cases e:j=id
     . subst e;right;simp [ae.app,FC,ae.put,ae.of,WN]
     . left;simp [ae.of,List.lookup,show (j==id)=false from by simpa using e]
   . exact ⟨aeg,P0⟩
   rintro ⟨q,nn⟩ ⟨hq1,Tr⟩
   simp only [] at hq1 Tr
   have hwq:aa (V*q)<=1000000:=by
     have h1:=rq V q
     have h2:aa q<=1:=dH (by simpa using Tr)
     omega
   have hcv:=hc (val b) (V*q) hwD hwq
   simp only [SS,Nat.reduceAdd]
   refine ⟨[(id,⟨us (a++b++t),1,false⟩)],_,htm _,by simp [ae.of],by simp, ?_⟩
   simp only [SS,Nat.reduceAdd]
   refine FG [(id,⟨us (a++b++t),1,false⟩)] hcv (az.cons fR (az.cons (View.pure (aC _)) az.nil)) (fun _ _ _ _ _ h=>by simpa [aN] using h) (by simp [ae.of]) ?_
   by_cases hlt:val b<V*q
   . have d2:decide (eM (val b) (V*q)<0)=true:=aw (by simp only [eM,iF];rw [if_pos (by omega)];decide)
     have hqp:1<=q:=by
       rcases Nat.eq_zero_or_pos q with e | e
       . rw [e] at hlt;omega
       . exact e
     have hle:val b/V<=q-1:=by
       have:=(Nat.div_lt_iff_lt_mul YN).2 (by rw [Nat.mul_comm] at hlt;exact hlt)
       omega
     have pq:IntKind.u64.wrap ((q:Int)-1)=((q-1:Nat):Int):=by rw [IntKind.wrap_u64];unfold ay at Tr;omega
     have TI:=UY (V*q) V (Nat.le_mul_of_pos_right _ hqp) hwq
     have em:V*q-V=V*(q-1):=by rw [Nat.mul_sub,Nat.mul_one]
     rw [em] at TI
     simp only [SS,Nat.reduceAdd,d2,pq]
     refine ah TI (by simp [aC]) ?_
     simp only [SS,Nat.reduceAdd]
     exact ⟨(q-1,_),⟨hle,by simp only [];omega⟩,by simp only [];omega,Wk.slots (by simp [Fg]) (Nat.le_refl _)⟩
   . have d2:decide (eM (val b) (V*q)<0)=false:=ak (by simp only [eM,iF];rw [if_neg (by omega)];split<;>decide)
     have ZN:q=val b/V:=by
       have:=(Nat.le_div_iff_mul_le YN).2 (show q*V<=val b by rw [Nat.mul_comm];omega)
       omega
     have f4:IntKind.u32.wrap (q:Int)=(q:Int):=by rw [w6,Nat.mod_eq_of_lt Tr]
     simp only [SS,Nat.reduceAdd,d2,f4]
     rw [<- ZN]
     exact ke▸dQ rfl fun i => .inr rfl
 by_cases aeh:(¬ 4294967295<num/hh)
 . have d1:decide ((4294967295:Int)<((num/hh:Nat):Int))=false:=by first | exact aw (by omega) | exact ak (by omega)
   obtain ⟨q0,YP⟩:∃ q0:Nat,q0=(num/hh):=⟨_,rfl⟩
   have P0:q0<ay:=by unfold ay;omega
   have aeg:val b/V<=q0:=by unfold ay at LA;omega
   have f3:IntKind.u32.wrap (q0:Int)=(q0:Int):=by rw [w6,Nat.mod_eq_of_lt P0]
   have yr:∀ (σ : ae) (q:Id),bW σ q (.buildSl 1 1 (.int .u32 0) [(0, .int .u32 (q0:Int))])=some { val := .osl q 1 0 1 false,up:=[(q,some ⟨us [q0],1,false⟩)] }:=fun σ q=>DN
   have WD:=F0 V [q0] (by intro w hw;simp at hw;subst hw;exact P0) (by omega) (by simp)
   rw [show val [q0]=q0 from by simp [val]] at WD
   have f3q:IntKind.u32.wrap ((num/hh:Nat):Int)=(q0:Int):=by rw [<- f3,YP];try rfl
   simp only [SS,Nat.reduceAdd,d1,f3q,yr]
   refine cA [(31::p,⟨us [q0],1,false⟩)] WD (az.cons (View.pure (aC _)) (az.cons (iH rfl) az.nil)) (by simp [ae.put]) ?_
   simp only [SS,Nat.reduceAdd,aY]
   refine VW.e9 (α := Nat × Nat) (fun x=>⟨[.osl id 1 a.length (k+3) false,W V, .top, .top, .top, .top, .top, .int .u64 (x.1:Int),W (V*x.1)]++List.replicate 42 .top,ae.of [(id,⟨us (a++b++t),1,false⟩)],x.2⟩)
     (fun x=>val b/V<=x.1/\x.1<ay) (fun x=>x.1) (q0,1000) ?_ ?_ ?_
   . refine Wk.forget (by simp [Fg,List.replicate,YP]) (fun j => ?_) (by simp only [];omega)
     by_cases e:j=id
     . subst e;right;simp [ae.app,FC,ae.put,ae.of,WN]
     . left;simp [ae.of,List.lookup,show (j==id)=false from by simpa using e]
   . exact ⟨aeg,P0⟩
   rintro ⟨q,nn⟩ ⟨hq1,Tr⟩
   simp only [] at hq1 Tr
   have hwq:aa (V*q)<=1000000:=by
     have h1:=rq V q
     have h2:aa q<=1:=dH (by simpa using Tr)
     omega
   have hcv:=hc (val b) (V*q) hwD hwq
   simp only [SS,Nat.reduceAdd]
   refine ⟨[(id,⟨us (a++b++t),1,false⟩)],_,htm _,by simp [ae.of],by simp, ?_⟩
   simp only [SS,Nat.reduceAdd]
   refine FG [(id,⟨us (a++b++t),1,false⟩)] hcv (az.cons fR (az.cons (View.pure (aC _)) az.nil)) (fun _ _ _ _ _ h=>by simpa [aN] using h) (by simp [ae.of]) ?_
   by_cases hlt:val b<V*q
   . have d2:decide (eM (val b) (V*q)<0)=true:=aw (by simp only [eM,iF];rw [if_pos (by omega)];decide)
     have hqp:1<=q:=by
       rcases Nat.eq_zero_or_pos q with e | e
       . rw [e] at hlt;omega
       . exact e
     have hle:val b/V<=q-1:=by
       have:=(Nat.div_lt_iff_lt_mul YN).2 (by rw [Nat.mul_comm] at hlt;exact hlt)
       omega
     have pq:IntKind.u64.wrap ((q:Int)-1)=((q-1:Nat):Int):=by rw [IntKind.wrap_u64];unfold ay at Tr;omega
     have TI:=UY (V*q) V (Nat.le_mul_of_pos_right _ hqp) hwq
     have em:V*q-V=V*(q-1):=by rw [Nat.mul_sub,Nat.mul_one]
     rw [em] at TI
     simp only [SS,Nat.reduceAdd,d2,pq]
     refine ah TI (by simp [aC]) ?_
     simp only [SS,Nat.reduceAdd]
     exact ⟨(q-1,_),⟨hle,by simp only [];omega⟩,by simp only [];omega,Wk.slots (by simp [Fg]) (Nat.le_refl _)⟩
   . have d2:decide (eM (val b) (V*q)<0)=false:=ak (by simp only [eM,iF];rw [if_neg (by omega)];split<;>decide)
     have ZN:q=val b/V:=by
       have:=(Nat.le_div_iff_mul_le YN).2 (show q*V<=val b by rw [Nat.mul_comm];omega)
       omega
     have f4:IntKind.u32.wrap (q:Int)=(q:Int):=by rw [w6,Nat.mod_eq_of_lt Tr]
     simp only [SS,Nat.reduceAdd,d2,f4]
     rw [<- ZN]
     exact ke▸dQ rfl fun i => .inr rfl
 exact absurd ahF aeh
end
end Go.VL
end
