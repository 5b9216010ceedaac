/- For the claim of FeatureMirror: parts CI23, KD, KE, VL31, CI24, CR1, CR2, CR3, CR4, CR5, CR6, CR7. -/
import Derived.Test.YtchdghnpcekegaaGreatC06
import Derived.Test.YtchdghnpcekegaaGreatC05
import Derived.Test.YtchdghnpcekegaaGreatC04
set_option linter.unusedSimpArgs false
set_option linter.unusedVariables false
section
set_option linter.unusedVariables false
namespace Go.VL
theorem tv {n:Nat} (h:ag n<=2):n<18446744073709551616:=by
 have h1:=cV n
 have h2:aE ^ ag n<=aE ^ 2:=Nat.pow_le_pow_right cW h
 have h3:aE ^ 2=18446744073709551616:=by decide
 omega
theorem Ah {x y g:Nat} (hg:Nat.gcd x y=g):Nat.gcd y (x%y)=g:=by rw [<- hg,Nat.gcd_comm y, <- Nat.gcd_rec,Nat.gcd_comm]
theorem EH (n:Nat):x3 false n=(n:Int):=by simp [x3]
section
variable {P:Program} {G:Nat->Option (List AV)}
theorem ab7 {f ft fd fc fs ftu fu:FuncId} (h:Has P f (tT ft fd fc fs ftu fu)) (ht:iW P G ft) (hd:∀ m n,n≠0->ag m<=900000->ag n<=900000->VP P G fd [W m,W n] (.tup [W (m/n),W (m%n)]))
   (hc:∀ n,ag n<=1000000->VP P G fc [W n] (W n)) (hs:iZ P G fs) (htu:∀ n,n<18446744073709551616->VP P G ftu [W n] (.int .u64 ((n:Nat):Int))) (hu:∀ n,n<18446744073709551616->VP P G fu [.int .u64 ((n:Nat):Int)] (W n))
   (a b:Int) (ha:ag a.natAbs<=900000) (hb:ag b.natAbs<=900000):VP P G f [IV a,IV b] (IV (Nat.gcd a.natAbs b.natAbs:Nat)):=by
 refine VP.has h ?_
 have yU:([0]:List Nat)≠[1]:=by decide
 have EG:([0]:List Nat)≠[2]:=by decide
 have B3:([1]:List Nat)≠[2]:=by decide
 simp only [tT,SS,DD,Nat.reduceAdd,gZ,b7,aq yU,aq EG,ao,iF]
 refine ak (pb ht a.natAbs (by omega)) (by simp [aB]) ?_
 simp only [SS,DD,Nat.reduceAdd,aq B3,ao,iF]
 refine ak (pb ht b.natAbs (by omega)) (by simp [aB]) ?_
 simp only [SS,DD,Nat.reduceAdd]
 refine ⟨by simp [ab,apart], ?_⟩
 simp only [aP]
 refine VW.ey (α := Nat × Nat × Nat) (fun x=>⟨[IV a,IV b, .top, .top, .ref [2] 0 0,W x.1,W x.2.1]++List.replicate 50 .top,
   af.put (fun _=>none) [2] (some ⟨[.agg [.bool false, .nils]],(AV.agg [.bool false, .nils]).size,false⟩),x.2.2⟩)
   (fun x=>Nat.gcd x.1 x.2.1=Nat.gcd a.natAbs b.natAbs/\ag x.1<=900000/\ag x.2.1<=900000) (fun x=>x.2.1) (a.natAbs,b.natAbs,1000) ?_ ?_ ?_
 . exact Wk.forget (by simp [Fg,List.replicate]) (fun j=>by simp only [af.put];split<;>simp_all) (by simp only [];omega)
 . exact ⟨rfl,ha,hb⟩
 rintro ⟨x,y,nn⟩ ⟨hg,hx,hy⟩
 simp only [] at hg hx hy
 have g1:2<ag y->decide ((2:Int)<(ag y:Int))=true:=fun h=>ay (by omega)
 have g2 : ¬ 2<ag y->decide ((2:Int)<(ag y:Int))=false:=fun h=>au (by omega)
 have g3:2<ag x->decide ((2:Int)<(ag x:Int))=true:=fun h=>ay (by omega)
 have g4 : ¬ 2<ag x->decide ((2:Int)<(ag x:Int))=false:=fun h=>au (by omega)
 have g5:0<ag y->decide ((0:Int)<(ag y:Int))=true:=fun h=>ay (by omega)
 have g6 : ¬ 0<ag y->decide ((0:Int)<(ag y:Int))=false:=fun h=>au (by omega)
 have e1:0<ag y->decide ((ag y:Int)=0)=false:=fun h=>au (by omega)
 have e2 : ¬ 0<ag y->decide ((ag y:Int)=0)=true:=fun h=>ay (by omega)
 have Vq:0<ag y->y≠0:=fun h e=>by have:=cI.2 e;omega
 have PR : ¬ 0<ag y->y=0:=fun h=>cI.1 (by omega)
 have hp2:2<ag y->0<ag y:=fun h=>by omega
 have w1:=HE x y
 have hw2:ag (x%y)<=900000:=by omega
 have hcx:ag x<=1000000:=by omega
 have hsx:ag x<=9223372036854775807:=by omega
 have hxx : ¬ 2<ag x->x<18446744073709551616:=fun h=>tv (by omega)
 have hyy : ¬ 2<ag y->y<18446744073709551616:=fun h=>tv (by omega)
 have QS:∀ g,g<18446744073709551616->ag g<=9223372036854775807:=fun g h=>by have:=pS g h;omega
 clear w1
 simp only [SS,Nat.reduceAdd]
 by_cases c1:2<ag y
 . have ql:=hp2 c1
   have hdv:=hd x y (Vq ql) hx hy
   simp only [SS,Nat.reduceAdd,bg,g1 c1]
   refine ah hdv (by simp [aB]) ?_
   simp only [SS,Nat.reduceAdd,B1,B2]
   exact ⟨(y,x%y,_),⟨Ah hg,hy,hw2⟩,Nat.mod_lt _ (Nat.pos_of_ne_zero (Vq ql)),Wk.slots (by simp [Fg]) (Nat.le_refl _)⟩
 by_cases c3:0<ag y
 . by_cases c2:2<ag x
   . have hdv:=hd x y (Vq c3) hx hy
     simp only [SS,Nat.reduceAdd,bg,g2 c1,g3 c2,g5 c3]
     refine ah hdv (by simp [aB]) ?_
     simp only [SS,Nat.reduceAdd,B1,B2]
     exact ⟨(y,x%y,_),⟨Ah hg,hy,hw2⟩,Nat.mod_lt _ (Nat.pos_of_ne_zero (Vq c3)),Wk.slots (by simp [Fg]) (Nat.le_refl _)⟩
   . simp only [SS,Nat.reduceAdd,bg,g2 c1,g4 c2,e1 c3]
     refine ah (htu x (hxx c2)) (by simp [aB]) ?_
     simp only [SS,Nat.reduceAdd]
     refine ah (htu y (hyy c1)) (by simp [aB]) ?_
     simp only [SS,Nat.reduceAdd,aP]
     refine VW.ey (α := Nat × Nat × Nat) (fun x=>⟨[IV a,IV b, .top, .top, .ref [2] 0 0, .top, .top, .top, .top, .int .u64 ((x.1:Nat):Int), .int .u64 ((x.2.1:Nat):Int)]++List.replicate 46 .top,
       af.put (fun _=>none) [2] (some ⟨[.agg [.bool false, .nils]],(AV.agg [.bool false, .nils]).size,false⟩),x.2.2⟩)
       (fun x=>Nat.gcd x.1 x.2.1=Nat.gcd a.natAbs b.natAbs/\x.1<18446744073709551616/\x.2.1<18446744073709551616) (fun x=>x.2.1) (x,y,nn+1000) ?_ ?_ ?_
     . exact Wk.slots (by simp [Fg,List.replicate]) (by simp only [];omega)
     . exact ⟨hg,hxx c2,hyy c1⟩
     rintro ⟨u,v,mm⟩ ⟨Ob,N4,hv'⟩
     simp only [] at Ob N4 hv'
     by_cases v0:v=0
     . subst v0
       have d0:decide (((0:Nat):Int)≠0)=false:=by decide
       rw [Nat.gcd_zero_right] at Ob
       have eL:=hs false u (QS u N4)
       rw [EH] at eL
       simp only [SS,Nat.reduceAdd,d0]
       refine ah (hu u N4) (by simp [aa.int]) ?_
       simp only [SS,Nat.reduceAdd]
       refine ah eL (by simp [aa.bool,aB]) ?_
       simp only [SS,Nat.reduceAdd,iY]
       rw [<- Ob]
       refine ai▸ae (r:=IV (u:Int)) ?_ (aw _)
       simp only [RS,aX,a9,ao];rfl
     . have d0:decide ((v:Int)≠0)=true:=ay (by omega)
       have f1:=JJ u v v0
       have hlt:u%v<18446744073709551616:=Nat.lt_of_le_of_lt (Nat.mod_le _ _) N4
       simp only [SS,DD,Nat.reduceAdd,d0,f1]
       first
       | exact ⟨(v,u%v,_),⟨Ah Ob,hv',hlt⟩,Nat.mod_lt _ (Nat.pos_of_ne_zero v0),Wk.slots (by simp [Fg,List.replicate]) (Nat.le_refl _)⟩
       | exact ⟨by simp [ab,apart],(v,u%v,_),⟨Ah Ob,hv',hlt⟩,Nat.mod_lt _ (Nat.pos_of_ne_zero v0),Wk.slots (by simp [Fg]) (Nat.le_refl _)⟩
 . have hyz:=PR c3
   rw [hyz,Nat.gcd_zero_right] at hg
   have eL:=hs false x hsx
   rw [EH] at eL
   by_cases c2:2<ag x
   . simp only [SS,Nat.reduceAdd,bg,g2 c1,g3 c2,g6 c3,e2 c3]
     refine ah (hc x hcx) (by simp [aB]) ?_
     simp only [SS,Nat.reduceAdd]
     refine ah eL (by simp [aa.bool,aB]) ?_
     simp only [SS,Nat.reduceAdd,iY]
     rw [<- hg]
     refine ai▸ae (r:=IV (x:Int)) ?_ (aw _)
     simp only [RS,aX,a9,ao];rfl
   . simp only [SS,Nat.reduceAdd,bg,g2 c1,g4 c2,e2 c3]
     refine ah (hc x hcx) (by simp [aB]) ?_
     simp only [SS,Nat.reduceAdd]
     refine ah eL (by simp [aa.bool,aB]) ?_
     simp only [SS,Nat.reduceAdd,iY]
     rw [<- hg]
     refine ai▸ae (r:=IV (x:Int)) ?_ (aw _)
     simp only [RS,aX,a9,ao];rfl
end
end Go.VL
end

section
namespace Go.VL
section
variable {b M h l v' V num u2 u' U:Nat}
theorem ae4 (hV:V=(h*b+l)*M+v'):V=h*(b*M)+l*M+v':=by rw [hV,Nat.add_mul,Nat.mul_assoc]
theorem aio (hU:U=(num*b+u2)*M+u'):U=num*(b*M)+u2*M+u':=by rw [hU,Nat.add_mul,Nat.mul_assoc]
theorem ae5 (h2:u2<b) (h1:u'<M):u2*M+u'<b*M:=by
 have:(u2+1)*M<=b*M:=Nat.mul_le_mul_right _ h2
 rw [Nat.add_mul] at this;omega
theorem ML (h0:0<h) (hV:V=(h*b+l)*M+v') (hU:U=(num*b+u2)*M+u') (h2:u2<b) (h1:u'<M):U/V<=num/h:=by
 have hbM:=ae5 h2 h1
 have eV:=ae4 hV
 have eU:=aio hU
 have TY:0<V:=by
   have:1*(b*M)<=h*(b*M):=Nat.mul_le_mul_right _ h0
   omega
 refine Nat.le_of_lt_succ ((Nat.div_lt_iff_lt_mul TY).2 ?_)
 have hq:num+1<=(num/h+1)*h:=by rw [Nat.mul_comm];exact Nat.lt_mul_div_succ num h0
 have h3:(num/h+1)*(h*(b*M))<=(num/h+1)*V:=Nat.mul_le_mul_left _ (by omega)
 have h4:(num+1)*(b*M)<=(num/h+1)*h*(b*M):=Nat.mul_le_mul_right _ hq
 rw [Nat.mul_assoc] at h4
 rw [Nat.add_mul] at h4
 show U<(num/h+1)*V
 omega
theorem YI {q r:Nat} (hV:V=(h*b+l)*M+v') (hU:U=(num*b+u2)*M+u') (h1:u'<M) (hq:q*h+r=num) (ht:r*b+u2<q*l):U/V<=q-1:=by
 have h3:num*b+u2+1<=q*(h*b+l):=by
   rw [<- hq,Nat.add_mul,Nat.mul_add, <- Nat.mul_assoc];omega
 have h4:(num*b+u2+1)*M<=q*(h*b+l)*M:=Nat.mul_le_mul_right _ h3
 have h5:U<q*V:=by
   rw [hV,Nat.mul_add, <- Nat.mul_assoc]
   rw [Nat.add_mul] at h4
   omega
 have TY:0<V:=by
   rcases Nat.eq_zero_or_pos V with e | e
   . rw [e] at h5;simp at h5
   . exact e
 have:=(Nat.div_lt_iff_lt_mul TY).2 h5
 omega
theorem QT {q r:Nat} (h0:0<h) (hV:V=(h*b+l)*M+v') (hU:U=(num*b+u2)*M+u') (hv:v'<M) (hqb:q<b) (hq:q*h+r=num) (ht:q*l<=r*b+u2):q<=U/V+1:=by
 have h3:q*(h*b+l)<=num*b+u2:=by
   rw [<- hq,Nat.add_mul,Nat.mul_add, <- Nat.mul_assoc];omega
 have h4:q*(h*b+l)*M<=(num*b+u2)*M:=Nat.mul_le_mul_right _ h3
 have h5:q*v'<=b*M:=by
   have a1:q*v'<=b*v':=Nat.mul_le_mul_right _ (Nat.le_of_lt hqb)
   have a2:b*v'<=b*M:=Nat.mul_le_mul_left _ (Nat.le_of_lt hv)
   omega
 have eV:=ae4 hV
 have h6:1*(b*M)<=h*(b*M):=Nat.mul_le_mul_right _ h0
 have h7:q*V<=U+V:=by
   have:q*V=q*(h*b+l)*M+q*v':=by rw [hV,Nat.mul_add, <- Nat.mul_assoc]
   omega
 rcases Nat.eq_zero_or_pos q with e | e
 . rw [e];exact Nat.zero_le _
 . have h8:(q-1)*V<=U:=by
     have:q*V=(q-1)*V+V:=by
       have:=Nat.sub_add_cancel e
       calc q*V=(q-1+1)*V:=by rw [this]
         _=(q-1)*V+V:=by rw [Nat.add_mul,Nat.one_mul]
     omega
   have TY:0<V:=by
     have hM:0<M:=by omega
     have:0<b*M:=Nat.mul_pos (by omega) hM
     omega
   have:=(Nat.le_div_iff_mul_le TY).2 h8
   omega
theorem Vr {q r:Nat} (hn:num<(h+1)*b) (hl:l<b) (hq:q*h+r=num) (hr:b<=r):q<b/\q*l<=r*b+u2:=by
 have hqb:q<b:=by
   rw [Nat.add_mul,Nat.one_mul] at hn
   have h1:q*h<b*h:=by rw [Nat.mul_comm b h];omega
   exact Nat.lt_of_mul_lt_mul_right h1
 refine ⟨hqb, ?_⟩
 have h1:q*l<=b*b:=Nat.mul_le_mul (Nat.le_of_lt hqb) (Nat.le_of_lt hl)
 have h2:b*b<=r*b:=Nat.mul_le_mul_right _ hr
 omega
theorem ab9 {q:Nat} (TY:0<V) (hle:U/V<=q) (aaN:q<=U/V+1):(U<q*V/\q=U/V+1∨q*V<=U/\q=U/V):=by
 by_cases h:U<q*V
 . left
   have:=(Nat.div_lt_iff_lt_mul TY).2 h
   exact ⟨h,by omega⟩
 . right
   have:=(Nat.le_div_iff_mul_le TY).2 (Nat.le_of_not_lt h)
   exact ⟨by omega,by omega⟩
end
end Go.VL
end

section
namespace Go.VL
theorem ae6 {ds:List Nat} {j h l:Nat} (hw:Wd ds) (hl:ds.length=j+2) (h1:ds[j+1]? = some h) (h0:ds[j]? = some l) :
   val ds=(h*aE+l)*aE ^ j+val (ds.take j)/\val (ds.take j)<aE ^ j:=by
 have e1:=aN h1
 have e0:=aN h0
 have e2:ds.take (j+1+1)=ds:=List.take_of_length_le (by omega)
 have h3:=mO (tk hw j)
 rw [List.length_take,Nat.min_eq_left (by omega)] at h3
 rw [e2,e0] at e1
 refine ⟨?_,h3⟩
 have e4:(h*aE+l)*aE ^ j=aE ^ (j+1)*h+aE ^ j*l:=by
   rw [Nat.add_mul,Nat.pow_succ,Nat.mul_comm l,Nat.mul_assoc,Nat.mul_comm h,Nat.mul_comm aE]
 omega
theorem ae7 {ds:List Nat} {j x2 x1 x0:Nat} (hw:Wd ds) (hl:ds.length=j+3) (h2:ds[j+2]? = some x2) (h1:ds[j+1]? = some x1) (h0:ds[j]? = some x0) :
   val ds=((x2*aE+x1)*aE+x0)*aE ^ j+val (ds.take j)/\val (ds.take j)<aE ^ j:=by
 have e2:=aN h2
 have e1:=aN h1
 have e0:=aN h0
 have e3:ds.take (j+2+1)=ds:=List.take_of_length_le (by omega)
 have h3:=mO (tk hw j)
 rw [List.length_take,Nat.min_eq_left (by omega)] at h3
 rw [e3,e1,e0] at e2
 refine ⟨?_,h3⟩
 have e4:((x2*aE+x1)*aE+x0)*aE ^ j=aE ^ (j+2)*x2+aE ^ (j+1)*x1+aE ^ j*x0:=by
   rw [Nat.add_mul,Nat.add_mul,Nat.add_mul,Nat.mul_comm x0]
   have a:aE ^ (j+1)*x1=x1*aE*aE ^ j:=by rw [Nat.pow_succ,Nat.mul_comm,Nat.mul_assoc,Nat.mul_comm aE]
   have b:aE ^ (j+2)*x2=x2*aE*aE*aE ^ j:=by
     have e:aE ^ (j+2)=aE ^ j*aE*aE:=by rw [show j+2=j+1+1 from rfl,Nat.pow_succ,Nat.pow_succ]
     rw [e]
     generalize aE ^ j=Y
     generalize aE=Z
     simp only [Nat.mul_comm,Nat.mul_left_comm]
   omega
 omega
theorem QU {x:Nat} (h:x<aE) (h0:0<x):1<=iE x/\iE x<=32:=by
 obtain ⟨a,b⟩:=Df h h0
 constructor
 . rcases Nat.eq_zero_or_pos (iE x) with e | e
   . rw [e] at a;simp at a;omega
   . exact e
 . have h2:2 ^ iE x<2 ^ 33:=by unfold aE at h;omega
   have:=(Nat.pow_lt_pow_iff_right (by decide:1<2)).1 h2
   omega
theorem Di {n x k:Nat} (hk:ag n=k+1) (hx:(digits n)[k]? = some x) :
   0<x/\x<aE/\n*2 ^ (32-iE x)<aE ^ (k+1)/\ag (n*2 ^ (32-iE x))=k+1/\32-iE x<=31:=by
 have sy:=aW n x (List.mem_of_getElem? hx)
 have Sp:0<x:=by
   rcases Ac (n:=n) with h | ⟨w,h,hw⟩
   . rw [h] at hx;simp at hx
   . rw [List.getLast?_eq_getElem?,show (digits n).length-1=k from by show ag n-1=k;omega,hx] at h
     simp only [Option.some.injEq] at h;omega
 obtain ⟨yY,DI⟩:=QU sy Sp
 have Ce:=(Df sy Sp).1
 have e:=aN hx
 rw [List.take_of_length_le (show (digits n).length<=k+1 from by show ag n<=k+1;omega),aV] at e
 have h3:=mO (tk (aW n) k)
 rw [List.length_take,Nat.min_eq_left (show k<=(digits n).length from by show k<=ag n;omega)] at h3
 have h4:n+1<=aE ^ k*2 ^ iE x:=by
   have:aE ^ k*(x+1)<=aE ^ k*2 ^ iE x:=Nat.mul_le_mul_left _ Ce
   rw [Nat.mul_add] at this;omega
 have h5:(n+1)*2 ^ (32-iE x)<=aE ^ (k+1):=by
   have:=Nat.mul_le_mul_right (2 ^ (32-iE x)) h4
   rw [Nat.mul_assoc, <- Nat.pow_add,show iE x+(32-iE x)=32 from by omega] at this
   rw [Nat.pow_succ];exact this
 have hp:=Nat.two_pow_pos (32-iE x)
 have h6:n*2 ^ (32-iE x)<aE ^ (k+1):=by rw [Nat.add_mul] at h5;omega
 refine ⟨Sp,sy,h6, ?_,by omega⟩
 have h7:=fK h6
 have h8:ag n<=ag (n*2 ^ (32-iE x)):=bE (Nat.le_mul_of_pos_right _ hp)
 omega
theorem ae8 {x R V:Nat} (hx:x<aE) (hR:R<V):x+aE*R<aE*V/\(x+aE*R)/V<aE:=by
 have:aE*(R+1)<=aE*V:=Nat.mul_le_mul_left _ hR
 have h:x+aE*R<aE*V:=by rw [Nat.mul_add] at this;omega
 exact ⟨h,Nat.div_lt_of_lt_mul (by rw [Nat.mul_comm V];exact h)⟩
theorem aca {num u2 M u' h l v' V D:Nat} (hl:l<aE) (hv:v'<M) (hV:V=(h*aE+l)*M+v') (hD:D=(num*aE+u2)*M+u') (hlt:D<aE*V):num<(h+1)*aE:=by
 have h1:V<(h+1)*aE*M:=by
   have:(h*aE+l+1)*M<=(h+1)*aE*M:=Nat.mul_le_mul_right _ (by rw [Nat.add_mul];omega)
   rw [Nat.add_mul,Nat.one_mul] at this;omega
 have h2:num*(aE*M)<=D:=by
   have:num*aE*M<=(num*aE+u2)*M:=Nat.mul_le_mul_right _ (by omega)
   rw [Nat.mul_assoc] at this;omega
 have h3:aE*V<(h+1)*aE*(aE*M):=by
   have:=Nat.mul_lt_mul_of_pos_left h1 cW
   rw [Nat.mul_left_comm] at this;exact this
 exact Nat.lt_of_mul_lt_mul_right (a:=aE*M) (by omega)
theorem MM {U a0 i x O V R q r:Nat} (hU:U=a0+aE ^ i*x+aE ^ (i+1)*(O*V+R)) (hD:x+aE*R=q*V+r):U=a0+aE ^ i*((q+aE*O)*V+r):=by
 have e:aE ^ (i+1)*(O*V+R)=aE ^ i*(aE*(O*V))+aE ^ i*(aE*R):=by
   rw [Nat.pow_succ,Nat.mul_assoc, <- Nat.mul_add, <- Nat.mul_add]
 have e2:aE ^ i*((q+aE*O)*V+r)=aE ^ i*(q*V+r)+aE ^ i*(aE*(O*V)):=by
   rw [<- Nat.mul_add,Nat.add_mul,Nat.mul_assoc];congr 1;omega
 rw [hU,e,e2, <- hD,Nat.mul_add];omega
theorem KO {k r:Nat} (h:r<aE ^ k):pad (k+1) r=pad k r++[0]:=by
 have e1:val (pad k r++[0])=r:=by rw [kV,fZ h]
 have e2:(pad k r++[0]).length=k+1:=by simp [kK]
 have h1:=BX (cM (sk k r) (b:=[0]) (fun z hz=>by rw [List.mem_singleton.1 hz];exact cW))
 rw [e1,e2] at h1
 exact h1
theorem Vs {k D V q:Nat} (h:D%V<aE ^ k) (hq:q=D/V):pad (k+1) (D+aE ^ (k+1)-q*V)=pad k (D%V)++[0]:=by
 have h1:=Nat.mod_add_div D V
 rw [Nat.mul_comm] at h1
 have:D+aE ^ (k+1)-q*V=D%V+aE ^ (k+1)*1:=by rw [hq];omega
 rw [this,F4,KO h]
theorem Vt {k D V q:Nat} (h0:0<V) (h:D%V<aE ^ k) (hV:V<aE ^ k) (hq:q=D/V+1):pad (k+1) (val (pad (k+1) (D+aE ^ (k+1)-q*V))+V)=pad k (D%V)++[0]:=by
 have h1:=Nat.mod_add_div D V
 rw [Nat.mul_comm] at h1
 have e:q*V=D/V*V+V:=by rw [hq,Nat.add_mul,Nat.one_mul]
 have h2:aE ^ k<=aE ^ (k+1):=Nat.pow_le_pow_right cW (by omega)
 have h3:D%V<V:=Nat.mod_lt _ h0
 rw [fZ (by omega)]
 have:D+aE ^ (k+1)-q*V+V=D%V+aE ^ (k+1)*1:=by omega
 rw [this,F4,KO h]
theorem MN {m s V N k c A R:Nat} (hN:V=N*2 ^ s) (hNk:aE ^ (k-1)<=N) (hm:m<aE ^ (c+(k-1))) (hU:m*2 ^ s=A+aE ^ c*R):R<V:=by
 rcases Nat.lt_or_ge R V with h | h
 . exact h
 . exfalso
   have h1:aE ^ c*V<=aE ^ c*R:=Nat.mul_le_mul_left _ h
   have h2:aE ^ c*(aE ^ (k-1)*2 ^ s)<=aE ^ c*V:=by rw [hN];exact Nat.mul_le_mul_left _ (Nat.mul_le_mul_right _ hNk)
   rw [<- Nat.mul_assoc, <- Nat.pow_add] at h2
   have h3:=Nat.mul_lt_mul_of_pos_right hm (Nat.two_pow_pos s)
   omega
theorem acb {q r num h l u2 M u' v' V D:Nat} (hl:l<aE) (hvM:v'<M) (huM:u'<M) (h0:0<h) (hV:V=(h*aE+l)*M+v') (hD:D=(num*aE+u2)*M+u') (hlt:D<aE*V) (hdB:D/V<aE)
   (hq:q*h+r=num) (hle:D/V<=q) (ht:aE<=q∨r*aE+u2<q*l):1<=q/\D/V<=q-1/\(q-1)*h+(r+h)=num/\(aE<=r+h->q-1<aE/\q-1<=D/V+1):=by
 have YJ:1<=q:=by
   rcases Nat.eq_zero_or_pos q with e | e
   . subst e
     rcases ht with h1 | h1
     . unfold aE at h1;omega
     . simp at h1
   . exact e
 have aip:D/V<=q-1:=by
   rcases ht with h1 | h1
   . omega
   . exact YI hV hD huM hq h1
 have hs:(q-1)*h+(r+h)=num:=by
   obtain ⟨p,rfl⟩:∃ p,q=p+1:=⟨q-1,by omega⟩
   rw [Nat.add_mul] at hq
   simp only [Nat.add_sub_cancel];omega
 refine ⟨YJ,aip,hs,fun hb => ?_⟩
 obtain ⟨a,c⟩:=Vr (u2:=u2) (aca hl hvM hV hD hlt) hl hs hb
 exact ⟨a,QT h0 hV hD hvM a hs c⟩
theorem QW {m n s O r:Nat} (_hn:n≠0) (hU:m*2 ^ s=O*(n*2 ^ s)+r) (hr:r<n*2 ^ s):O=m/n/\r/2 ^ s=m%n/\ag r<=ag (n*2 ^ s):=by
 have hp:=Nat.two_pow_pos s
 have h1:r=(m-O*n)*2 ^ s:=by
   rw [Nat.sub_mul,Nat.mul_assoc];omega
 have h2:m-O*n<n:=by
   rw [h1] at hr;exact Nat.lt_of_mul_lt_mul_right hr
 have h3:O*n<=m:=by
   have:O*n*2 ^ s<=m*2 ^ s:=by rw [Nat.mul_assoc];omega
   exact Nat.le_of_mul_le_mul_right this hp
 have h4:(m-O*n)+n*O=m:=by rw [Nat.mul_comm n];omega
 have h5:m/n=O/\m%n=m-O*n:=(Nat.div_mod_unique (Nat.pos_of_ne_zero _hn)).2 ⟨h4,h2⟩
 refine ⟨h5.1.symm, ?_,bE (Nat.le_of_lt hr)⟩
 rw [h1,Nat.mul_div_cancel _ hp,h5.2]
theorem x7 {a b t:List Nat} {i j x:Nat} (ha:a.length=i) (h:b[j]? = some x):(a++b++t)[i+j]? = some x:=by
 have hj:=(List.getElem?_eq_some_iff.1 h).1
 rw [List.append_assoc,List.getElem?_append_right (by omega),List.getElem?_append_left (by omega), <- h]
 congr 1;omega
theorem x8 {a:List Nat} {i:Nat} (h:a.length=i+1):∃ b x,a=b++[x]/\b.length=i:=by
 refine ⟨a.take i,a[i]'(by omega), ?_,by simp;omega⟩
 rw [<- List.take_succ_eq_append_getElem,List.take_of_length_le (by omega)]
end Go.VL
end

section
namespace Go.VL
section
variable {P:Program} {G:Nat->Option (List AV)} {π : Id} {Q:bX->VS->Prop} {s:VS}
theorem VW.SA {x y:cy} (h:VW P G π x (Then (VW P G π y Q) Q) s):VW P G π (.seq x y) Q s :=
 VW.seq (h.mono fun e _ hq=>by cases e<;>exact hq)
theorem VW.Vu {id:Nat} {x:cy} (h:VW P G π x (Sd id Q) s):VW P G π (.block id x) Q s :=
 VW.block (h.mono fun e _ hq=>by cases e<;>exact hq)
theorem VW.cut {x:cy} {s':VS} (hw:Wk G π s s') (h:yx P G π x Q s'):VW P G π x Q s:=VW.wk hw (VW.of h)
theorem VW.QX {α : Type} {x:cy} {s:VS} (st : α -> VS) (Pr : α -> Prop) (m : α -> Nat) (x0 : α) (hw:Wk G π s (st x0)) (h0:Pr x0)
   (h:∀ a,Pr a->VW P G π x (Jl G π st Pr m a Q) (st a)):VW P G π (.loop x) Q s:=by
 refine VW.wk hw ?_
 intro c hc own E w a R hm hR
 cases c<;>simp only [gI,Option.some.injEq,reduceCtorEq] at hc
 case loop cb =>
   cases h1:gI P cb with
   | none=>simp [h1] at hc
   | some vb =>
     simp only [h1,Option.map_some,Option.some.injEq,cy.loop.injEq] at hc
     subst hc
     refine zd (α := α) (fun g a' w'=>Pr g/\∃ E',nb own π E E' w w'/\mR G π own E' w' (st g) a') m (x:=x0) ⟨h0,E,nb.refl own π E w,hm⟩ ?_
     rintro g a2 w2 ⟨hI2,E2,Sc,Cn⟩
     refine (h g hI2) cb h1 own E2 w2 a2 _ Cn ?_
     intro e s' E' w' a' hq had sC
     cases e with
     | normal =>
       obtain ⟨g',hI3,hlt,hw3⟩:=hq
       obtain ⟨E3,ad3,hm3⟩:=hw3 own E' w' a' sC
       exact ⟨g',⟨hI3,E3,(Sc.trans had).trans ad3,hm3⟩,hlt⟩
     | exit id=>exact hR (.exit id) s' E' w' a' hq (Sc.trans had) sC
     | ret=>exact hR .ret s' E' w' a' hq (Sc.trans had) sC
 case region=>exfalso;revert hc;unfold mQ;(repeat' split)<;>simp
 all_goals (exfalso;revert hc;(repeat' split)<;>simp)
theorem Fh {base:Nat} {n:Nat} {ps:List (Nat × Nat)} {d:Option Nat} {os:List bx} {i:Nat} {acc:List eS} {t:List AV} {σ : af} {f:FuncId} {args lL:List AV} {r:AV} (S:List (Id × cZ))
   (h:VP P G f lL r) (hv:aG (af.of S) args lL) (hS:∀ x∈S, σ x.1=some x.2) (k:vd P G π base Q n ps os (i+1) ({ val:=r,rd:=S.map (·.1),up:=E6 S }::acc) (gl t d r) (σ.app (E6 S))):D2 P G π base Q n ps d os i acc t σ f args :=
 ⟨S,_,aZ.Kt h hv,hS,fun x hx=>List.mem_map.2 ⟨x,hx,rfl⟩,k⟩
end
theorem JN {id:Id} {k len l h:Nat} (h1:l<h) (h2:h<=len):ek k (.osl id k 0 len false) (some (.int .i64 (l:Int))) (some (.int .i64 (h:Int))) none=some (.osl id k l (h-l) false):=by
 rcases Nat.eq_zero_or_pos l with rfl | hp
 . simp [ek,gw,jA,h2]
 . simp [ek,gw,jA,h2,Nat.le_of_lt h1,Nat.ne_of_gt hp,Nat.ne_of_lt h1]
theorem HF {id:Id} {k len h:Nat} (h2:h<=len):ek k (.osl id k 0 len false) none (some (.int .i64 (h:Int))) none=some (.osl id k 0 h false):=by
 simp [ek,gw,jA,h2]
end Go.VL
end

section
set_option linter.unusedVariables false
namespace Go.VL
section
variable {P:Program} {G:Nat->Option (List AV)}
theorem acd {q Q:Nat} (h1:q=Q+1) (h2:q<aE):IntKind.u64.wrap ((q:Int)-1)=((Q:Nat):Int):=by
 subst h1;rw [IntKind.wrap_u64];unfold aE at h2;omega
theorem MO {id:Id} {a t:List Nat} {b tt:Bool} {n:Nat} (hn:n=a.length):View (af.of [(id,⟨us (a++t),1,b⟩)]) (.osl id 1 0 n tt) (.sl 1 (us a)):=by
 subst hn
 refine View.osl (bk:=⟨us (a++t),1,b⟩) (by simp [af.of]) rfl (by simp [gv]) ?_ (by rw [gv]) (C7 a)
 have:((us (a++t)).drop 0).take a.length=us a:=by rw [List.drop_zero,QI];simp
 show aG _ (flat (((us (a++t)).drop 0).take a.length)) _
 rw [this]
 exact aG.pure (Ae a)
set_option maxRecDepth 100000 in
set_option maxHeartbeats 4000000 in
theorem SB {f fc fcl ftu fu fdw flz fsl ft fsu fre fsr:FuncId} (h:Has P f (pA fc fcl ftu fu fdw flz fsl ft fsu fre fsr))
   (hc:∀ m n,ag m<=1000000->ag n<=1000000->VP P G fc [W m,W n] (.int .i64 (fY m n))) (Ig:∀ n,ag n<=1000000->VP P G fcl [W n] (W n))
   (htu:∀ n,n<18446744073709551616->VP P G ftu [W n] (.int .u64 ((n:Nat):Int))) (hu:∀ n,n<18446744073709551616->VP P G fu [.int .u64 ((n:Nat):Int)] (W n))
   (hdw:∀ m w:Nat,ag m<=1000000->w<aE->w≠0->VP P G fdw [W m, .int .u32 (w:Int)] (.tup [W (m/w),W (m%w)]))
   (hlz:∀ x:Nat,x<aE->0<x->VP P G flz [.int .u32 (x:Int)] (.int .i64 ((32-iE x:Nat):Int)))
   (Ya:Has P fsl jx) (ht:iW P G ft) (hsu:Has P fsu j7) (hre:Has P fre lE) (hsr:Has P fsr gn)
   (m n:Nat) (F0:n≠0) (hm:ag m<=900000) (hn:ag n<=900000):VP P G f [W m,W n] (.tup [W (m/n),W (m%n)]):=by
 refine VP.has h ?_
 have ace:=hc m n (by omega) (by omega)
 have ais:=Ig m (by omega)
 have Sr:m/n=0->∀ σ,View σ .nils (W (m/n)):=fun h σ => by rw [h];simp only [W,bA,us];exact View.nils 1
 have acf:m<n->m/n=0/\m%n=m:=fun h=>⟨Nat.div_eq_of_lt h,Nat.mod_eq_of_lt h⟩
 have c1:m<n->decide (fY m n<0)=true:=fun h=>ay (by simp only [fY,jm];rw [if_pos (by omega)];decide)
 have c2 : ¬ m<n->decide (fY m n<0)=false:=fun h=>au (by simp only [fY,jm];rw [if_neg (by omega)];split<;>decide)
 have l1:ag m<=2->decide ((ag m:Int)<=2)=true:=fun h=>ay (by omega)
 have l2 : ¬ ag m<=2->decide ((ag m:Int)<=2)=false:=fun h=>au (by omega)
 have b1:ag n=1->decide ((ag n:Int)=1)=true:=fun h=>ay (by omega)
 have b2 : ¬ ag n=1->decide ((ag n:Int)=1)=false:=fun h=>au (by omega)
 simp only [pA,SS,Nat.reduceAdd]
 refine ah ace (by simp [aB]) ?_
 by_cases h1:m<n
 . simp only [SS,Nat.reduceAdd,c1 h1]
   refine ah ais (by simp [aB]) ?_
   simp only [SS,Nat.reduceAdd]
   obtain ⟨e1,e2⟩:=acf h1
   refine ai▸⟨.tup [.nils,W m],rfl,View.tup (aG.cons (Sr e1 _) (aG.cons ?_ aG.nil))⟩
   rw [e2];exact View.pure (aB _)
 have uS:n<=m:=by omega
 have hwn:ag n≠0:=fun e=>F0 (cI.1 e)
 by_cases h2:ag m<=2
 . have Cn:=tv h2
   have XG:n<18446744073709551616:=by omega
   have hq:=JI m n Cn F0
   have hr:=JJ m n F0
   have hu1:=hu (m/n) (Nat.lt_of_le_of_lt (Nat.div_le_self _ _) Cn)
   have hu2:=hu (m%n) (Nat.lt_of_le_of_lt (Nat.mod_le _ _) Cn)
   simp only [SS,Nat.reduceAdd,c2 h1,bg,l1 h2]
   refine ah (htu m Cn) (by simp [aB]) ?_
   simp only [SS,Nat.reduceAdd]
   refine ah (htu n XG) (by simp [aB]) ?_
   simp only [SS,DD,Nat.reduceAdd,hq]
   refine ak hu1 (by simp [aa.int]) ?_
   simp only [SS,DD,Nat.reduceAdd,hr]
   refine ak hu2 (by simp [aa.int]) ?_
   simp only [SS,DD,Nat.reduceAdd]
   refine ⟨by simp [ab,apart], ?_⟩
   exact ai▸ae rfl (aa.tup (by intro c hc;simp at hc;rcases hc with rfl | rfl<;>exact aB _))
 by_cases h3:ag n=1
 . obtain ⟨x,hx⟩:∃ x,(digits n)[0]? = some x:=⟨_,List.getElem?_eq_getElem (by show 0<ag n;omega)⟩
   have hxn:x=n:=by
     have e:=aN hx
     rw [List.take_of_length_le (show (digits n).length<=1 from by show ag n<=1;omega),aV] at e
     simp [val] at e;omega
   have hg:=di hx
   rw [hxn] at hg
   have hnB:n<aE:=by rw [<- hxn];exact aW n x (List.mem_of_getElem? hx)
   have hdv:=hdw m n (by omega) hnB F0
   have Ob:cx 1 (W n) (.int .i64 0)=some (.ep (AV.int .u32 (n:Int)).cells 0):=hg
   simp only [SS,Nat.reduceAdd,c2 h1,bg,l2 h2,b1 h3,Ob,aI,bo]
   refine ah hdv (by simp [aB,aa.int]) ?_
   simp only [SS,Nat.reduceAdd,B1,B2]
   exact ai▸ae rfl (aa.tup (by intro c hc;simp at hc;rcases hc with rfl | rfl<;>exact aB _))
 -- Knuth's algorithm D
 obtain ⟨k,hk⟩:∃ k,ag n=k+2:=⟨ag n-2,by omega⟩
 obtain ⟨x,hx⟩:∃ x,(digits n)[k+1]? = some x:=⟨_,List.getElem?_eq_getElem (by show k+1<ag n;omega)⟩
 obtain ⟨Sp,hxB,hV,hwV,hs⟩:=Di hk hx
 generalize hsd:32-iE x=s at hV hwV hs
 have afb:=hlz x hxB Sp
 rw [hsd] at afb
 have p1:IntKind.i64.wrap (((k+2:Nat):Int)-1)=((k+1:Nat):Int):=by rw [IntKind.wrap_i64];omega
 have p2:IntKind.i64.wrap (((k+2:Nat):Int)-2)=((k:Nat):Int):=by rw [IntKind.wrap_i64];omega
 obtain ⟨V,SC⟩:∃ V,V=n*2 ^ s:=⟨_,rfl⟩
 obtain ⟨U,YK⟩:∃ U,U=m*2 ^ s:=⟨_,rfl⟩
 rw [<- SC] at hV hwV
 have OJ:=Da (G:=G) Ya m s (by omega) hs
 have OK:=Da (G:=G) Ya n s (by omega) hs
 rw [<- SC] at OK
 rw [<- YK] at OJ
 obtain ⟨L,hL⟩:∃ L,ag m+1=L+(k+2):=⟨ag m+1-(k+2),by have:=bE uS;omega⟩
 have hUB:U<aE ^ (ag m+1):=by
   have h4:2 ^ s<=2 ^ 32:=Nat.pow_le_pow_right (by decide) (by omega)
   have h5:m*2 ^ s<=m*2 ^ 32:=Nat.mul_le_mul_left _ h4
   have h6:m*2 ^ 32<aE ^ ag m*2 ^ 32:=Nat.mul_lt_mul_of_pos_right (cV m) (by decide)
   rw [Nat.pow_succ,YK];exact Nat.lt_of_le_of_lt h5 h6
 obtain ⟨A0,R0,hAR,hA0,hR0⟩:∃ A R,pad (ag m+1) U=A++R++[]/\A.length=L/\R.length=k+2 :=
   ⟨(pad (ag m+1) U).take L,(pad (ag m+1) U).drop L,by simp,by simp [kK];omega,by simp [kK];omega⟩
 have hAw:Wd A0/\Wd R0:=by
   have h4:=sk (ag m+1) U
   rw [hAR] at h4
   exact ⟨fun w hw=>h4 w (by simp [hw]),fun w hw=>h4 w (by simp [hw])⟩
 have hU0:U=val A0+aE ^ L*val R0:=by
   have h4:=fZ hUB
   rw [hAR,List.append_nil,cv,hA0] at h4
   exact h4.symm
 have Vv:val R0<V:=MN (k:=k+2) SC (by have:=tp F0;rw [hk] at this;exact this) (by
   have h4:=cV m
   have:L+(k+2-1)=ag m:=by omega
   rw [this];exact h4) (YK▸hU0)
 have HG:ag V=k+2:=hwV
 obtain ⟨hh,Vw⟩:∃ y,(digits V)[k+1]? = some y:=⟨_,List.getElem?_eq_getElem (by show k+1<ag V;omega)⟩
 obtain ⟨ll,llg⟩:∃ y,(digits V)[k]? = some y:=⟨_,List.getElem?_eq_getElem (by show k<ag V;omega)⟩
 have hhB:=aW V hh (List.mem_of_getElem? Vw)
 have llB:=aW V ll (List.mem_of_getElem? llg)
 have f1:=bu hh hhB
 have f2:=bu ll llB
 obtain ⟨hVV,hvM⟩:=ae6 (aW V) HG Vw llg
 rw [aV] at hVV
 have hh0:0<hh:=by
   rcases Ac (n:=V) with h4 | ⟨w,h4,hw⟩
   . rw [h4] at Vw;simp at Vw
   . rw [List.getLast?_eq_getElem?,show (digits V).length-1=k+1 from by show ag V-1=k+1;omega,Vw] at h4
     simp only [Option.some.injEq] at h4;omega
 have XK:0<V:=Nat.lt_of_le_of_lt (Nat.zero_le _) Vv
 have afg:IntKind.i64.wrap (((ag m+1:Nat):Int)-((k+2:Nat):Int))=((L:Nat):Int):=by rw [IntKind.wrap_i64];omega
 have LA:IntKind.i64.wrap (((L:Nat):Int)-1)=(L:Int)-1:=by rw [IntKind.wrap_i64];omega
 have uM:∀ p:Id,jr p 1 4 (.int .u32 0) (.int .i64 ((L:Nat):Int)) (.int .i64 ((L:Nat):Int))=some { val := .osl p 1 0 L false,up:=[(p,some ⟨us (List.replicate L 0),1,false⟩)] }:=fun p=>nW (by omega)
 rw [hAR] at OJ
 rw [hk] at OK
 have b3:decide (((k+2:Nat):Int)=1)=false:=au (by omega)
 have TY:V<aE ^ (k+2+1):=Nat.lt_of_lt_of_le hV (Nat.pow_le_pow_right cW (by omega))
 have Vx:VP P G ft [.sl 1 (us (pad (k+2+1) V))] (W V):=by
   have:=ht (pad (k+2+1) V) (sk _ _) (by rw [kK];omega)
   rwa [fZ TY] at this
 simp only [SS,Nat.reduceAdd,c2 h1,bg,l2 h2,b3,hk,p1,di hx,aI,bo]
 refine ah afb (by simp [aa.int]) ?_
 simp only [SS,Nat.reduceAdd]
 refine ⟨[],_,OJ _,by simp,by simp, ?_⟩
 simp only [SS,Nat.reduceAdd]
 refine ⟨[],_,OK _,by simp,by simp, ?_⟩
 simp only [SS,Nat.reduceAdd]
 refine bJ [([4,28],⟨us (pad (k+2+1) V),1,false⟩)] Vx (aG.cons (g7 (kK _ _).symm) aG.nil) (by simp [af.put]) ?_
 simp only [SS,Nat.reduceAdd]
 simp only [SS,DD,Nat.reduceAdd,bg,HG,afg,LA,uM,p1,p2,di Vw,di llg,aI,bo,f1,f2]
 refine ⟨by simp [ab], ?_⟩
 simp only [aP]
 refine VW.QX (α := Nat × List Nat × List Nat × List Nat × List Nat × Nat) (fun x=>⟨List.replicate 8 .top++[.int .i64 (s:Int), .osl [4,25] 1 0 (ag m+1) false,W V, .int .i64 ((k+2:Nat):Int), .osl [39] 1 0 L false, .int .u64 (hh:Int), .int .u64 (ll:Int), .int .i64 ((x.1:Int)-1)]++List.replicate 161 .top,
   af.put (af.put (fun _=>none) [4,25] (some ⟨us (x.2.1++x.2.2.1++x.2.2.2.1),1,false⟩)) [39] (some ⟨us (zs x.1++x.2.2.2.2.1),1,false⟩),x.2.2.2.2.2⟩)
   (fun x=>x.1+x.2.2.2.2.1.length=L/\x.2.1.length=x.1/\x.2.2.1.length=k+2/\x.1+(k+2)+x.2.2.2.1.length=ag m+1/\Wd x.2.1/\Wd x.2.2.1/\Wd x.2.2.2.2.1/\val x.2.2.1<V/\U=val x.2.1+aE ^ x.1*(val x.2.2.2.2.1*V+val x.2.2.1)) (fun x=>x.1) (L,A0,R0,[],[],1000) ?_ ?_ ?_
 . refine Wk.forget (by simp [Fg,List.replicate]) (fun j => ?_) (by simp only [];omega)
   simp only [List.append_nil,af.put,af.app,E6,List.map_cons,List.map_nil,zs]
   by_cases e1:j=[39]
   . subst e1;simp
   . by_cases e2:j=[4,25]
     . subst e2;simp
     . simp [e1,e2]
 . refine ⟨by simp,hA0,hR0,by simp;omega,hAw.1,hAw.2,by intro w hw;simp at hw,Vv, ?_⟩
   show U=val A0+aE ^ L*(val []*V+val R0)
   rw [show val []=0 from rfl,Nat.zero_mul,Nat.zero_add];exact hU0
 rintro ⟨c,A,R,t,o,nn⟩ ⟨hc,hA,hR,htl,hAW,hRW,hoW,TX,hUe⟩
 simp only [] at hc hA hR htl hAW hRW hoW TX hUe
 rcases Nat.eq_zero_or_pos c with h0 | hcp
 . subst h0
   have d0:decide ((0:Int)<=((0:Nat):Int)-1)=false:=by decide
   refine VW.SA (VW.of ?_)
   simp only [SS,DD,Nat.reduceAdd,d0]
   obtain rfl:A=[]:=List.length_eq_zero_iff.1 hA
   have hU':m*2 ^ s=val o*(n*2 ^ s)+val R:=by
     rw [<- YK, <- SC,hUe]
     show val []+aE ^ 0*_=_
     simp [val]
   obtain ⟨g1,g2,g3⟩:=QW F0 hU' (SC▸TX)
   have hoL:L=o.length:=by omega
   have htq:=ht o hoW (by omega)
   rw [g1] at htq
   have htR:=ht R hRW (by omega)
   have hwR:ag (val R)<=1000000:=by rw [<- SC,HG] at g3;omega
   have aiB:=Bh (G:=G) hsr (val R) s hwR hs
   have htr:VP P G ft [.sl 1 (us (pad (ag (val R)) (val R/2 ^ s)))] (W (m%n)):=by
     have e:=ht (pad (ag (val R)) (val R/2 ^ s)) (sk _ _) (by rw [kK];omega)
     rw [fZ (Nat.lt_of_le_of_lt (Nat.div_le_self _ _) (cV _))] at e
     rw [<- g2];exact e
   have MP:ek 1 (.osl [4,25] 1 0 (ag m+1) false) none (some (.int .i64 ((k+2:Nat):Int))) none=some (.osl [4,25] 1 0 (k+2) false):=HF (by omega)
   rw [x5,List.nil_append,List.nil_append]
   refine Fh [([39],⟨us o,1,false⟩)] htq (aG.cons (g7 hoL) aG.nil) (by simp [af.put]) ?_
   simp only [SS,DD,Nat.reduceAdd,MP]
   refine Fh [([4,25],⟨us (R++t),1,false⟩)] htR (aG.cons (MO hR.symm) aG.nil) (by simp [af.put,af.app,E6]) ?_
   simp only [SS,DD,Nat.reduceAdd]
   refine ak aiB (by simp [aB,aa.int]) ?_
   simp only [SS,DD,Nat.reduceAdd]
   refine ak htr (by simp [C6]) ?_
   simp only [SS,DD,Nat.reduceAdd]
   refine ⟨by simp [ab,apart,E6], ?_⟩
   exact ai▸ae rfl (aa.tup (by intro c hc;simp at hc;rcases hc with rfl | rfl<;>exact aB _))
 obtain ⟨i,rfl⟩:∃ i,c=i+1:=⟨c-1,by omega⟩
 have d0:decide ((0:Int)<=(i:Int))=true:=ay (by omega)
 have hj:((i+1:Nat):Int)-1=(i:Int):=by omega
 have U8:IntKind.i64.wrap ((i:Int)-1)=(i:Int)-1:=by rw [IntKind.wrap_i64];omega
 refine VW.SA (VW.of ?_)
 simp only [SS,Nat.reduceAdd,hj,d0]
 obtain ⟨A',y,rfl,hA'⟩:=x8 hA
 obtain ⟨b,F1⟩:∃ b,b=y::R:=⟨_,rfl⟩
 have eb:A'++[y]++R++t=A'++b++t:=by rw [F1];simp
 rw [eb]
 have hyB:y<aE:=hAW y (by simp)
 have acq:Wd A':=fun w hw=>hAW w (by simp [hw])
 have Ce:b.length=k+3:=by rw [F1];simp [hR]
 have Lp:Wd b:=by
   intro w hw;rw [F1] at hw
   rcases List.mem_cons.1 hw with rfl | hw
   . exact hyB
   . exact hRW w hw
 have hbv:val b=y+aE*val R:=by rw [F1];rfl
 obtain ⟨hDV,XL⟩:=ae8 hyB TX
 rw [<- hbv] at hDV XL
 obtain ⟨x2,hx2⟩:∃ z,b[k+2]? = some z:=⟨_,List.getElem?_eq_getElem (by omega)⟩
 obtain ⟨x1,Ic⟩:∃ z,b[k+1]? = some z:=⟨_,List.getElem?_eq_getElem (by omega)⟩
 obtain ⟨z0,OA⟩:∃ z,b[k]? = some z:=⟨_,List.getElem?_eq_getElem (by omega)⟩
 have OM:=Lp x2 (List.mem_of_getElem? hx2)
 have Vy:=Lp x1 (List.mem_of_getElem? Ic)
 have Vz:=Lp z0 (List.mem_of_getElem? OA)
 obtain ⟨hD,huM⟩:=ae7 Lp Ce hx2 Ic OA
 rw [show x2*aE+x1=aE*x2+x1 from by rw [Nat.mul_comm]] at hD
 obtain ⟨num,HH⟩:∃ z,z=aE*x2+x1:=⟨_,rfl⟩
 rw [<- HH] at hD
 have QY:num<18446744073709551616:=by rw [HH];unfold aE at *;omega
 have a1:=pa i (k+2) (by omega)
 have a2:IntKind.i64.wrap (((i+(k+2):Nat):Int)-1)=((i+(k+1):Nat):Int):=by rw [IntKind.wrap_i64];omega
 have a3:IntKind.i64.wrap (((i+(k+2):Nat):Int)-2)=((i+k:Nat):Int):=by rw [IntKind.wrap_i64];omega
 have a4:IntKind.i64.wrap (((i+(k+2):Nat):Int)+1)=((i+(k+3):Nat):Int):=by rw [IntKind.wrap_i64];omega
 have ia2:=cN (q:=[4,25]) (t:=false) (show i+(k+2)<ag m+1 by omega)
 have ia1:=cN (q:=[4,25]) (t:=false) (show i+(k+1)<ag m+1 by omega)
 have ia0:=cN (q:=[4,25]) (t:=false) (show i+k<ag m+1 by omega)
 have iaq:=cN (q:=[39]) (t:=false) (show i<L by omega)
 have MP:ek 1 (.osl [4,25] 1 0 (ag m+1) false) (some (.int .i64 (i:Int))) (some (.int .i64 ((i+(k+3):Nat):Int))) none=some (.osl [4,25] 1 A'.length (ag V+1) false):=by
   rw [JN (by omega) (by omega),hA',HG]
   congr 2;omega
 generalize hσ : af.put (af.put (fun _=>none) [4,25] (some ⟨us (A'++b++t),1,false⟩)) [39] (some ⟨us (zs (i+1)++o),1,false⟩) = σ0
 have YL : σ0 [4,25]=some ⟨us (A'++b++t),1,false⟩:=by rw [<- hσ];simp [af.put]
 have hσQ : σ0 [39]=some ⟨us (zs (i+1)++o),1,false⟩:=by rw [<- hσ];simp [af.put]
 have ld2:=jy YL (x7 (t:=t) hA' hx2)
 have ld1:=jy YL (x7 (t:=t) hA' Ic)
 have ld0:=jy YL (x7 (t:=t) hA' OA)
 have w2:=bu x2 OM
 have w1:=bu x1 Vy
 have w0:=bu z0 Vz
 have s2:=BW x2 OM
 have o2:=JH x2 x1 OM Vy
 rw [<- HH] at o2
 have q1:=JI num hh QY (by omega)
 have r1:=JJ num hh (by omega)
 refine VW.SA (VW.Vu (VW.SA (VW.of ?_)))
 simp only [SS,DD,Nat.reduceAdd,a1,a2,ia2,ia1,ld2,ld1,w2,w1,s2,o2]
 refine ⟨by simp [ab],VW.SA (VW.of ?_)⟩
 simp only [SS,DD,Nat.reduceAdd,q1,r1]
 refine ⟨by simp [ab],VW.SA (VW.Vu ?_)⟩
 have afk:num/hh*hh+num%hh=num:=by rw [Nat.mul_comm];exact Nat.div_add_mod num hh
 have KP:=ML hh0 hVV hD Vz huM
 refine VW.mono (Q:=fun e s'=>∃ q n2,e = .exit 3/\(q<aE/\val b/V<=q/\q<=val b/V+1)/\Wk G [] s' ⟨List.replicate 8 .top++[.int .i64 (s:Int), .osl [4,25] 1 0 (ag m+1) false,W V, .int .i64 ((k+2:Nat):Int), .osl [39] 1 0 L false, .int .u64 (hh:Int), .int .u64 (ll:Int), .int .i64 (i:Int), .top, .int .u64 (q:Int)]++List.replicate 159 .top, σ0,n2⟩) ?_ ?_
 . refine VW.ey (α := Nat × Nat × Nat) (fun x=>⟨List.replicate 8 .top++[.int .i64 (s:Int), .osl [4,25] 1 0 (ag m+1) false,W V, .int .i64 ((k+2:Nat):Int), .osl [39] 1 0 L false, .int .u64 (hh:Int), .int .u64 (ll:Int), .int .i64 (i:Int), .top, .int .u64 (x.1:Int), .int .u64 (x.2.1:Int)]++List.replicate 158 .top, σ0,x.2.2⟩)
     (fun x=>x.1*hh+x.2.1=num/\val b/V<=x.1/\x.2.1<aE/\x.1<18446744073709551616) (fun x=>x.1) (num/hh,num%hh,nn+1000) ?_ ?_ ?_
   . exact Wk.slots (by simp [Fg,List.replicate]) (by simp only [];omega)
   . exact ⟨afk,KP,Nat.lt_trans (Nat.mod_lt _ hh0) hhB,Nat.lt_of_le_of_lt (Nat.div_le_self _ _) QY⟩
   rintro ⟨q,r,n3⟩ ⟨PM,hle,MB,aiH⟩
   simp only [] at PM hle MB aiH
   have d1:aE<=q->decide ((4294967296:Int)<=(q:Int))=true:=fun h=>ay (by unfold aE at h;omega)
   have d2 : ¬ aE<=q->decide ((4294967296:Int)<=(q:Int))=false:=fun h=>au (by unfold aE at h;omega)
   have d3:aE<=r+hh->decide ((4294967296:Int)<=((r+hh:Nat):Int))=true:=fun h=>ay (by unfold aE at h;omega)
   have d4 : ¬ aE<=r+hh->decide ((4294967296:Int)<=((r+hh:Nat):Int))=false:=fun h=>au (by unfold aE at h;omega)
   have d5:aE*r+z0<q*ll->decide (((aE*r+z0:Nat):Int)<((q*ll:Nat):Int))=true:=fun h=>ay (by omega)
   have d6 : ¬ aE*r+z0<q*ll->decide (((aE*r+z0:Nat):Int)<((q*ll:Nat):Int))=false:=fun h=>au (by omega)
   have m1 : ¬ aE<=q->IntKind.u64.wrap ((q:Int)*(ll:Int))=((q*ll:Nat):Int):=fun h=>QN q ll (by omega) llB
   have s3:=BW r MB
   have o3:=JH r z0 MB Vz
   have p3:=qh r hh (by unfold aE at *;omega)
   have N6:=fun ht=>acb (q:=q) (r:=r) llB hvM huM hh0 hVV hD hDV XL PM hle ht
   have ic : ¬ aE<=q->q*ll<=r*aE+z0->q<=val b/V+1:=fun h1 h2=>QT hh0 hVV hD hvM (by omega) PM h2
   have PN:r*aE=aE*r:=Nat.mul_comm _ _
   rw [PN] at N6 ic
   have pq:1<=q->IntKind.u64.wrap ((q:Int)-1)=((q-1:Nat):Int):=fun h=>by rw [IntKind.wrap_u64];omega
   have hql:q-1<18446744073709551616:=by omega
   have hmq:1<=q->q-1<q:=fun h=>by omega
   have hrh : ¬ aE<=r+hh->r+hh<aE:=fun h=>by omega
   by_cases cq:aE<=q
   . obtain ⟨k1,k2,k3,k4⟩:=N6 (.inl cq)
     by_cases cr:aE<=r+hh
     . simp only [SS,Nat.reduceAdd,d1 cq,pq k1,p3,d3 cr]
       exact ⟨q-1,_,trivial,⟨(k4 cr).1,k2,(k4 cr).2⟩,Wk.slots (by simp [Fg]) (Nat.le_refl _)⟩
     . simp only [SS,Nat.reduceAdd,d1 cq,pq k1,p3,d4 cr]
       exact ⟨(q-1,r+hh,_),⟨k3,k2,hrh cr,hql⟩,hmq k1,Wk.slots (by simp [Fg]) (Nat.le_refl _)⟩
   . by_cases ct:aE*r+z0<q*ll
     . obtain ⟨k1,k2,k3,k4⟩:=N6 (.inr ct)
       by_cases cr:aE<=r+hh
       . simp only [SS,Nat.reduceAdd,d2 cq,m1 cq,s3,a1,a3,ia0,ld0,w0,o3,d5 ct,pq k1,p3,d3 cr]
         exact ⟨q-1,_,trivial,⟨(k4 cr).1,k2,(k4 cr).2⟩,Wk.slots (by simp [Fg]) (Nat.le_refl _)⟩
       . simp only [SS,Nat.reduceAdd,d2 cq,m1 cq,s3,a1,a3,ia0,ld0,w0,o3,d5 ct,pq k1,p3,d4 cr]
         exact ⟨(q-1,r+hh,_),⟨k3,k2,hrh cr,hql⟩,hmq k1,Wk.slots (by simp [Fg]) (Nat.le_refl _)⟩
     . have hp:=ic cq (by omega)
       have aiI:q<aE:=by omega
       simp only [SS,Nat.reduceAdd,d2 cq,m1 cq,s3,a1,a3,ia0,ld0,w0,o3,d6 ct]
       exact ⟨q,_,trivial,⟨aiI,hle,hp⟩,Wk.slots (by simp [Fg]) (Nat.le_refl _)⟩
 rintro e s' ⟨q,n2,rfl,⟨hqB,hle,aaN⟩,hw⟩
 simp only [D1,if_true,ze]
 refine VW.cut hw ?_
 have Gt:=ME (G:=G) hsu (id:=[4,25]) (a:=A') (b:=b) (t:=t) (v:=V) (q:=q) (tight:=false) (by omega) (by omega) Lp hqB
 have LC:=OE (G:=G) hre (id:=[4,25]) (a:=A') (b:=pad (ag V+1) (val b+aE ^ (ag V+1)-q*V)) (t:=t) (v:=V) (tight:=false) (by omega) (kK _ _) (sk _ _)
 have hVB:V<aE ^ (k+2):=hV
 have JO:val b%V<V:=Nat.mod_lt _ XK
 have QZ:val b%V<aE ^ (k+2):=Nat.lt_trans JO hVB
 simp only [SS,Nat.reduceAdd,a1,a4,MP]
 refine ⟨[([4,25],⟨us (A'++b++t),1,false⟩)],_,Gt _,by simp [YL],by simp, ?_⟩
 have hqL:i<(zs (i+1)++o).length:=by simp [zs];omega
 have Kr:val b=val b/V*V+val b%V:=by have:=Nat.div_add_mod (val b) V;rw [Nat.mul_comm] at this;omega
 have hUn:U=val A'+aE ^ i*(val (val b/V::o)*V+val (pad (k+2) (val b%V))):=by
   rw [fZ QZ]
   refine MM (x:=y) (R:=val R) (O:=val o) ?_ (by rw [<- hbv];exact Kr)
   rw [hUe,cv,hA']
   simp only [val,Nat.mul_zero,Nat.add_zero]
 have Bm:i+(val b/V::o).length=L/\A'.length=i/\(pad (k+2) (val b%V)).length=k+2/\i+(k+2)+(0::t).length=ag m+1/\Wd A'/\Wd (pad (k+2) (val b%V))/\Wd (val b/V::o)/\val (pad (k+2) (val b%V))<V/\U=val A'+aE ^ i*(val (val b/V::o)*V+val (pad (k+2) (val b%V))):=by
   refine ⟨by simp;omega,hA',kK _ _,by simp;omega,acq,sk _ _, ?_,by rw [fZ QZ];exact JO,hUn⟩
   intro w hw
   rcases List.mem_cons.1 hw with rfl | hw
   . exact XL
   . exact hoW w hw
 have hqi:IntKind.u32.wrap ((val b/V:Nat):Int)=((val b/V:Nat):Int):=by rw [y0,Nat.mod_eq_of_lt XL]
 have hnc:((i:Nat):Int)-1=(((i:Nat):Int)-1):=rfl
 rcases ab9 XK hle aaN with ⟨hlt,YM⟩ | ⟨Fv,YM⟩
 . have dn:decide (val b<q*V)=true:=ay hlt
   have pq:=acd YM hqB
   have hpr:pad (ag V+1) (val (pad (ag V+1) (val b+aE ^ (ag V+1)-q*V))+V)=pad (k+2) (val b%V)++[0]:=by
     rw [HG];exact Vt XK QZ hVB YM
   have ef:A'++(pad (k+2) (val b%V)++[0])++t=A'++pad (k+2) (val b%V)++(0::t):=by simp
   rw [hpr,ef] at LC
   simp only [SS,Nat.reduceAdd,dn,pq,a1,a4,MP]
   refine ⟨[([4,25],⟨us (A'++pad (ag V+1) (val b+aE ^ (ag V+1)-q*V)++t),1,false⟩)],_,LC _,by simp [af.put],by simp, ?_⟩
   simp only [SS,Nat.reduceAdd,hqi,iaq]
   rw [bP (o:=zs (i+1)++o) (by simp [af.put,hσQ]) hqL,Af]
   simp only [SS,Nat.reduceAdd]
   refine VW.of ?_
   simp only [SS,Nat.reduceAdd,U8]
   refine ⟨(i,A',pad (k+2) (val b%V),0::t,val b/V::o,_),Bm,Nat.lt_succ_self i,Wk.forget (by simp [Fg]) (fun j => ?_) (Nat.le_refl _)⟩
   by_cases e1:j=[39]
   . subst e1;simp [af.put]
   . by_cases e2:j=[4,25]
     . subst e2;simp [af.put]
     . simp [af.put,e1,e2]
 . have dn:decide (val b<q*V)=false:=au (by omega)
   have hpr:pad (ag V+1) (val b+aE ^ (ag V+1)-q*V)=pad (k+2) (val b%V)++[0]:=by
     rw [HG];exact Vs QZ YM
   have ef:A'++(pad (k+2) (val b%V)++[0])++t=A'++pad (k+2) (val b%V)++(0::t):=by simp
   rw [hpr,ef]
   simp only [SS,Nat.reduceAdd,dn]
   rw [YM]
   simp only [SS,Nat.reduceAdd,hqi,iaq]
   rw [bP (o:=zs (i+1)++o) (by simp [af.put,hσQ]) hqL,Af]
   simp only [SS,Nat.reduceAdd]
   refine VW.of ?_
   simp only [SS,Nat.reduceAdd,U8]
   refine ⟨(i,A',pad (k+2) (val b%V),0::t,val b/V::o,_),Bm,Nat.lt_succ_self i,Wk.forget (by simp [Fg]) (fun j => ?_) (Nat.le_refl _)⟩
   by_cases e1:j=[39]
   . subst e1;simp [af.put]
   . by_cases e2:j=[4,25]
     . subst e2;simp [af.put]
     . simp [af.put,e1,e2]
end
end Go.VL
end

section
set_option linter.unusedVariables false
namespace Go.VL
theorem afl (neg:Bool) (n:Nat):IV (x3 neg n) = .agg [.bool (neg&&decide (0<n)),W n]:=by
 cases neg
 . simp only [IV,x3];simp<;>omega
 . simp only [IV,x3];simp<;>omega
theorem YN (σ : af) (id:Id) (k:Nat) (b:Bool) (n:Nat):fD (σ.put id (some ⟨[.agg [.bool false, .nils]],k,false⟩)) 2 (.ref id 0 0) (.agg [.bool b,W n])=some { val := .tup [],rd:=[id],up:=[(id,some ⟨[.agg [.bool b,W n]],k,false⟩)] }:=by
 rw [fy (n:=2) (v := .agg [.bool b,W n]) (els:=[.agg [.bool false, .nils]]) (k:=k) (af.dE _ _ _) rfl rfl (by simp [AV.size,AV.cells]) rfl]
 rfl
theorem VA {n:Nat}:0<ag n↔0<n:=by have:=cI (n:=n);omega
section
variable {P:Program} {G:Nat->Option (List AV)}
theorem OO {f ft:FuncId} (h:Has P f (jF ft)) (ht:iW P G ft):iZ P G f:=fun neg n hn=>by
 refine VP.has h ?_
 simp only [jF,SS,Nat.reduceAdd,b7]
 refine ah (pb ht n hn) (by simp [aB]) ?_
 have e:∀ b,jq [.bool false, .nils] [(0,(1, .bool b)),(1,(1,W n))]=some [.bool b,W n]:=fun _=>rfl
 have dd:decide ((0:Int)<(ag n:Int))=decide (0<n):=by
   have:=VA (n:=n)
   by_cases h0:0<n
   . rw [ay h0,ay (by omega)]
   . rw [au h0,au (by omega)]
 rw [afl]
 cases neg <;>
 . simp only [SS,Nat.reduceAdd,bg,dd,e,YN,Bool.true_and,Bool.false_and]
   refine ai▸ae ?_ (aa.agg (by intro c hc;simp at hc;rcases hc with rfl | rfl;exact aa.bool _;exact aB _))
   simp only [RS,aX,a9,ao];rfl
theorem VB {f fs:FuncId} (h:Has P f (kY fs)) (hs:iZ P G fs) (z:Int) (hz:ag z.natAbs<=1000000):VP P G f [IV z] (IV z):=by
 refine VP.has h ?_
 have eL:=hs (decide (z<0)) z.natAbs (by omega)
 rw [Dg] at eL
 have yU:([0]:List Nat)≠[1]:=by decide
 simp only [kY,SS,Nat.reduceAdd,gZ,b7,aq yU,ao,jX,iF]
 refine ah eL (by simp [aa.bool,aB]) ?_
 simp only [SS,Nat.reduceAdd,iY]
 refine ai▸ae (r:=IV z) ?_ (aw _)
 simp only [RS,aX,a9,ao];rfl
theorem YO {f fs:FuncId} (h:Has P f (lS fs)) (hs:iZ P G fs) (z:Int) (hz:ag z.natAbs<=1000000):VP P G f [IV z] (IV (-z)):=by
 refine VP.has h ?_
 have eL:=hs (!decide (z<0)) z.natAbs (by omega)
 rw [QO] at eL
 have yU:([0]:List Nat)≠[1]:=by decide
 simp only [lS,SS,Nat.reduceAdd,gZ,b7,aq yU,ao,jX,iF]
 refine ah eL (by simp [aa.bool,aB]) ?_
 simp only [SS,Nat.reduceAdd,iY]
 refine ai▸ae (r:=IV (-z)) ?_ (aw _)
 simp only [RS,aX,a9,ao];rfl
theorem SD {f fn:FuncId} (h:Has P f (k6 fn)) (hn:∀ z:Int,ag z.natAbs<=1000000->VP P G fn [IV z] (IV z)) (z:Int) (hz:ag z.natAbs<=1000000):VP P G f [IV z] (.int .i64 z.sign):=by
 refine VP.has h ?_
 have hl:ag z.natAbs=0↔z=0:=by rw [cI];omega
 simp only [k6,SS,Nat.reduceAdd,gZ,ao,db]
 refine ah (hn z hz) (by simp [aw]) ?_
 simp only [SS,Nat.reduceAdd]
 rw [dp (k:=(IV z).size) (y:=IV z) rfl (B0 _ _) (by simp [af.put])]
 simp only [SS,Nat.reduceAdd,ao,iF,bg]
 by_cases h0:z=0
 . have d0:decide ((ag z.natAbs:Int)=0)=true:=ay (by have:=hl.2 h0;omega)
   simp only [SS,Nat.reduceAdd,d0]
   rw [h0]
   exact ai▸ae rfl (aa.int _ _)
 . have d0:decide ((ag z.natAbs:Int)=0)=false:=au (by have:=fun e=>h0 (hl.1 e);omega)
   by_cases hn:z<0
   . have d1:decide (z<0)=true:=ay hn
     simp only [SS,Nat.reduceAdd,d0,ao,jX,d1]
     rw [Int.sign_eq_neg_one_of_neg hn]
     exact ai▸ae rfl (aa.int _ _)
   . have d1:decide (z<0)=false:=au hn
     simp only [SS,Nat.reduceAdd,d0,ao,jX,d1]
     rw [Int.sign_eq_one_of_pos (by omega)]
     exact ai▸ae rfl (aa.int _ _)
theorem SE {f fu fs:FuncId} (h:Has P f (je fu fs)) (hu:∀ n,n<18446744073709551616->VP P G fu [.int .u64 ((n:Nat):Int)] (W n)) (hs:iZ P G fs) (a:Int) (h1 : -9223372036854775808<=a) (h2:a<9223372036854775808):VP P G f [.int .i64 a] (IV a):=by
 refine VP.has h ?_
 have hsz:=pS a.natAbs (by omega)
 have eL:=hs (decide (a<0)) a.natAbs (by omega)
 rw [Dg] at eL
 have N4:=hu a.natAbs (by omega)
 simp only [je,SS,Nat.reduceAdd,b7]
 by_cases hn:a<0
 . have d1:decide (a<0)=true:=ay hn
   rw [d1] at eL
   have e1:IntKind.u64.wrap (0-(IntKind.u64.wrap a))=(a.natAbs:Int):=by rw [IntKind.wrap_u64,IntKind.wrap_u64];omega
   simp only [SS,Nat.reduceAdd,d1,e1]
   refine ah N4 (by simp [aa.int]) ?_
   simp only [SS,Nat.reduceAdd]
   refine ah eL (by simp [aa.bool,aB]) ?_
   simp only [SS,Nat.reduceAdd,iY]
   refine ai▸ae (r:=IV a) ?_ (aw _)
   simp only [RS,aX,a9,ao];rfl
 . have d1:decide (a<0)=false:=au hn
   rw [d1] at eL
   have e1:IntKind.u64.wrap a=(a.natAbs:Int):=by rw [IntKind.wrap_u64];omega
   simp only [SS,Nat.reduceAdd,d1,e1]
   refine ah N4 (by simp [aa.int]) ?_
   simp only [SS,Nat.reduceAdd]
   refine ah eL (by simp [aa.bool,aB]) ?_
   simp only [SS,Nat.reduceAdd,iY]
   refine ai▸ae (r:=IV a) ?_ (aw _)
   simp only [RS,aX,a9,ao];rfl
end
end Go.VL
end

section
set_option linter.unusedVariables false
namespace Go.VL
theorem IM {ds:List Nat} {j a:Nat} (h:ds[j]? = some a):val (ds.drop j)=a+aE*val (ds.drop (j+1)):=by
 obtain ⟨h1,h2⟩:=List.getElem?_eq_some_iff.1 h
 rw [List.drop_eq_getElem_cons h1,h2];rfl
theorem YP {ds:List Nat} (h:Wd ds) (k:Nat):Wd (ds.drop k):=fun w hw=>h w (List.mem_of_mem_drop hw)
section
variable {P:Program} {G:Nat->Option (List AV)}
theorem VC {f:FuncId} (h:Has P f j9) (n:Nat) (hn:n<18446744073709551616):VP P G f [W n] (.int .u64 (n:Int)):=by
 refine VP.has h ?_
 have hwn:=pS n hn
 have hwL:IntKind.i64.wrap ((ag n:Int)-1)=(ag n:Int)-1:=by rw [IntKind.wrap_i64];omega
 simp only [j9,SS,Nat.reduceAdd,bg,hwL,aP]
 refine VW.ey (α := Nat × Nat × Nat) (fun x=>⟨[W n, .top, .top, .int .u64 (x.2.2:Int), .int .i64 ((x.1:Int)-1)]++List.replicate 16 .top,fun _=>none,x.2.1⟩)
   (fun x=>x.1<=ag n/\x.2.2=val ((digits n).drop x.1)) (fun x=>x.1) (ag n,1000,0) ?_ ?_ ?_
 . exact Wk.slots (by simp [Fg,List.replicate]) (by simp only [];omega)
 . refine ⟨Nat.le_refl _, ?_⟩
   show 0=val ((digits n).drop (ag n))
   rw [List.drop_eq_nil_of_le (show (digits n).length<=ag n from Nat.le_refl _)];rfl
 rintro ⟨k,nn,r⟩ ⟨hk,hv⟩
 simp only [] at hk hv
 by_cases h0:k=0
 . subst h0
   have d0:decide ((0:Int)<=((0:Nat):Int)-1)=false:=by decide
   rw [List.drop_zero,aV] at hv
   subst hv
   simp only [SS,Nat.reduceAdd,d0]
   exact ai▸ae rfl (aa.int _ _)
 . obtain ⟨j,rfl⟩:∃ j,k=j+1:=⟨k-1,by omega⟩
   have d0:decide ((0:Int)<=(j:Int))=true:=ay (by omega)
   have hj:((j+1:Nat):Int)-1=(j:Int):=by omega
   have TV:IntKind.i64.wrap ((j:Int)-1)=(j:Int)-1:=by rw [IntKind.wrap_i64];omega
   obtain ⟨a,ha⟩:∃ a,(digits n)[j]? = some a:=⟨_,List.getElem?_eq_getElem (show j<ag n by omega)⟩
   have wb:=aW n a (List.mem_of_getElem? ha)
   have f1:=bu a wb
   have MB:r<aE:=by
     have h1:=mO (YP (aW n) (j+1))
     rw [<- hv,List.length_drop] at h1
     have h2:aE ^ ((digits n).length-(j+1))<=aE ^ 1:=Nat.pow_le_pow_right cW (by show ag n-(j+1)<=1;omega)
     rw [Nat.pow_one] at h2;omega
   have f2:=BW r MB
   have f3:=JH r a MB wb
   have hv':aE*r+a=val ((digits n).drop j):=by rw [IM ha,hv,Nat.add_comm]
   have hjw:j<=ag n:=by omega
   simp only [SS,Nat.reduceAdd,d0,hj,di ha,aI,bo,f1,f2,f3,TV]
   exact ⟨(j,_,aE*r+a),⟨hjw,hv'⟩,Nat.lt_succ_self j,Wk.slots (by simp [Fg]) (Nat.le_refl _)⟩
theorem MQ {f:FuncId} (h:Has P f jf) (m n:Nat) (hm:ag m<=1000000) (_hn:ag n<=1000000):VP P G f [W m,W n] (.int .i64 (fY m n)):=by
 refine VP.has h ?_
 simp only [jf,SS,Nat.reduceAdd,bg]
 by_cases hl:ag m=ag n
 case neg =>
   have d:decide ((ag m:Int)≠(ag n:Int))=true:=ay (by omega)
   rcases Nat.lt_or_ge (ag m) (ag n) with h1 | h1
   . have h2:=x4 h1
     have d1:decide ((ag m:Int)<(ag n:Int))=true:=ay (by omega)
     have e:fY m n = -1-0:=by unfold fY;rw [Az (by omega)];rfl
     rw [e]
     simp only [SS,Nat.reduceAdd,bg,d,d1]
     exact ai▸ae rfl (aa.int _ _)
   . have h1':ag n<ag m:=by omega
     have h2:=x4 h1'
     have d1:decide ((ag m:Int)<(ag n:Int))=false:=au (by omega)
     have e:fY m n=1:=by unfold fY;rw [AA (by omega)]
     rw [e]
     simp only [SS,Nat.reduceAdd,bg,d,d1]
     exact ai▸ae rfl (aa.int _ _)
 have d:decide ((ag m:Int)≠(ag n:Int))=false:=au (by omega)
 have ew:IntKind.i64.wrap ((ag m:Int)-1)=(ag m:Int)-1:=by rw [IntKind.wrap_i64];omega
 have hd0:(digits m).drop (ag m)=(digits n).drop (ag m):=by
   have e1:(digits m).drop (ag m)=[]:=List.drop_of_length_le (Nat.le_refl _)
   have e2:(digits n).drop (ag m)=[]:=List.drop_of_length_le (by show ag n<=ag m;omega)
   rw [e1,e2]
 simp only [SS,Nat.reduceAdd,bg,d,ew,aP]
 refine VW.ey (α := Nat × Nat) (fun x=>⟨[W m,W n, .top, .top, .top, .int .i64 ((x.1:Int)-1)]++List.replicate 35 .top,fun _=>none,x.2⟩) (fun x=>x.1<=ag m/\(digits m).drop x.1=(digits n).drop x.1) (fun x=>x.1) (ag m,1000) ?_
   ⟨Nat.le_refl _,hd0⟩ ?_
 . exact Wk.slots (by simp [Fg,List.replicate]) (by simp only [];omega)
 rintro ⟨j,q⟩ ⟨hj,hd⟩
 simp only [] at hj hd
 simp only [SS,Nat.reduceAdd]
 by_cases h0:j=0
 . subst h0
   have d0:decide ((0:Int)<=((0:Nat):Int)-1)=false:=by decide
   simp only [SS,d0]
   have e:m=n:=by
     simp only [List.drop_zero] at hd
     rw [<- aV m,hd,aV]
   have e2:fY m n=0:=QL (by omega)
   rw [e2]
   exact ai▸ae rfl (aa.int _ _)
 . have ql:0<j:=Nat.pos_of_ne_zero h0
   have d0:decide ((0:Int)<=((j-1:Nat):Int))=true:=ay (by omega)
   have ej:(j:Int)-1=((j-1:Nat):Int):=by omega
   have hjm:j-1<(digits m).length:=by show j-1<ag m;omega
   have RI:j-1<(digits n).length:=by show j-1<ag n;omega
   have ew2:IntKind.i64.wrap (((j-1:Nat):Int)-1)=((j-1:Nat):Int)-1:=by rw [IntKind.wrap_i64];omega
   obtain ⟨x,hx⟩:∃ x,(digits m)[j-1]? = some x:=⟨_,List.getElem?_eq_getElem hjm⟩
   obtain ⟨y,hy⟩:∃ y,(digits n)[j-1]? = some y:=⟨_,List.getElem?_eq_getElem RI⟩
   have XE:(digits m).drop (j-1+1)=(digits n).drop (j-1+1):=by rw [show j-1+1=j from by omega];exact hd
   rcases Nat.lt_trichotomy x y with h1 | h1 | h1
   . have e:fY m n = -1-0:=by
       have:=F2 (aW m) (aW n) hl hx hy XE h1
       rw [aV,aV] at this
       unfold fY;rw [Az (by omega)];rfl
     have d1:decide ((x:Int)<(y:Int))=true:=ay (by omega)
     rw [e]
     simp only [SS,DD,Nat.reduceAdd,d0,ej,di hx,di hy,aI,bo,d1]
     refine ⟨by simp [ab], ?_⟩
     exact ai▸ae rfl (aa.int _ _)
   . have d1:decide ((x:Int)<(y:Int))=false:=au (by omega)
     have d2:decide ((y:Int)<(x:Int))=false:=au (by omega)
     simp only [SS,DD,Nat.reduceAdd,d0,ej,di hx,di hy,aI,bo,d1]
     refine ⟨by simp [ab], ?_⟩
     simp only [SS,Nat.reduceAdd,d2,ew2]
     refine ⟨by simp [ab],(j-1,_),⟨by simp only [];omega, ?_⟩,by simp only [];omega,Wk.slots (by simp [Fg]) (Nat.le_refl _)⟩
     simp only []
     rw [List.drop_eq_getElem_cons hjm,List.drop_eq_getElem_cons RI,XE]
     obtain ⟨_,h1'⟩:=List.getElem?_eq_some_iff.1 hx
     obtain ⟨_,h2'⟩:=List.getElem?_eq_some_iff.1 hy
     rw [h1',h2',h1]
   . have e:fY m n=1:=by
       have:=F2 (aW n) (aW m) hl.symm hy hx XE.symm h1
       rw [aV,aV] at this
       unfold fY;rw [AA (by omega)]
     have d1:decide ((x:Int)<(y:Int))=false:=au (by omega)
     have d2:decide ((y:Int)<(x:Int))=true:=ay (by omega)
     rw [e]
     simp only [SS,DD,Nat.reduceAdd,d0,ej,di hx,di hy,aI,bo,d1]
     refine ⟨by simp [ab], ?_⟩
     simp only [SS,d2]
     refine ⟨by simp [ab], ?_⟩
     exact ai▸ae rfl (aa.int _ _)
end
end Go.VL
end

section
set_option linter.unusedVariables false
namespace Go.VL
theorem AB {x y c:Nat} (hx:x<aE) (hy:y<aE) (hc:c<=1):∃ w c':Nat,w<aE/\c'<=1/\w+y+c=x+aE*c' /\
   (∃ d:Nat,IntKind.u64.wrap (IntKind.u64.wrap (IntKind.u64.wrap ((x:Int)+4294967296)-(y:Int))-(c:Int))=(d:Int)/\IntKind.u32.wrap (d:Int)=(w:Int)/\IntKind.u64.wrap (1-((d/aE:Nat):Int))=(c':Int)):=by
 have h1:IntKind.u64.wrap ((x:Int)+4294967296)=((x+4294967296:Nat):Int):=by rw [IntKind.wrap_u64];unfold aE at *;omega
 have h2:IntKind.u64.wrap (((x+4294967296:Nat):Int)-(y:Int))=((x+4294967296-y:Nat):Int):=by rw [IntKind.wrap_u64];unfold aE at *;omega
 have h3:IntKind.u64.wrap (((x+4294967296-y:Nat):Int)-(c:Int))=((x+4294967296-y-c:Nat):Int):=by rw [IntKind.wrap_u64];unfold aE at *;omega
 rw [h1,h2,h3]
 unfold aE at *
 by_cases h:y+c<=x
 . refine ⟨x-y-c,0,by omega,by omega,by omega,_,rfl, ?_, ?_⟩
   . rw [IntKind.wrap_u32];omega
   . rw [IntKind.wrap_u64];omega
 . refine ⟨x+4294967296-y-c,1,by omega,by omega,by omega,_,rfl, ?_, ?_⟩
   . rw [IntKind.wrap_u32];omega
   . rw [IntKind.wrap_u64];omega
section
variable {P:Program} {G:Nat->Option (List AV)}
set_option maxHeartbeats 1000000 in
theorem VD {f ft:FuncId} (h:Has P f (kZ ft)) (ht:iW P G ft) (m n:Nat) (hm:ag m<=1000000) (hn:ag n<=1000000):VP P G f [W m,W n] (W (m+n)):=by
 refine VP.has h ?_
 simp only [kZ,SS,Nat.reduceAdd,bg]
 by_cases VE:(¬ ag m<ag n)
 . have d0:decide ((ag m:Int)<(ag n:Int))=false:=by first | exact ay (by omega) | exact au (by omega)
   have hL:=pa (ag m) 1 (by omega)
   have hL':IntKind.i64.wrap ((ag m:Int)+1)=((ag m+1:Nat):Int):=hL
   have uM:∀ p:Id,jr p 1 4 (.int .u32 0) (.int .i64 ((ag m+1:Nat):Int)) (.int .i64 ((ag m+1:Nat):Int))=some { val := .osl p 1 0 (ag m+1) false,up:=[(p,some ⟨us (List.replicate (ag m+1) 0),1,false⟩)] }:=fun p=>nW (by omega)
   simp only [SS,Nat.reduceAdd,bg,d0,hL',uM,aP]
   refine VW.ey (α := Nat × Nat × List Nat × Nat) (fun x=>⟨[W m,W n, .top, .top, .top, .osl [9] 1 0 (ag m+1) false, .int .u64 (x.2.2.2:Int), .int .i64 (x.1:Int)]++List.replicate 50 .top,
     af.put (fun _=>none) [9] (some ⟨us (x.2.2.1++zs (ag m+1-x.1)),1,false⟩),x.2.1⟩)
     (fun x=>x.1<=ag m/\x.2.2.1.length=x.1/\Wd x.2.2.1/\x.2.2.2<=1/\val x.2.2.1+aE ^ x.1*x.2.2.2=val ((digits m).take x.1)+val ((digits n).take x.1)) (fun x=>ag m-x.1) (0,1000,[],0) ?_ ?_ ?_
   . exact Wk.slots (by simp [Fg,List.replicate]) (by simp only [];omega)
   . exact ⟨Nat.zero_le _,rfl,by intro w hw;simp at hw,Nat.zero_le _,by simp [val]⟩
   rintro ⟨i,nn,o,c⟩ ⟨hi,ho,hwd,hc,hv⟩
   simp only [] at hi ho hwd hc hv
   have qQ:i<ag m->decide ((i:Int)<(ag m:Int))=true:=fun h=>ay (by omega)
   have yw : ¬ i<ag m->decide ((i:Int)<(ag m:Int))=false:=fun h=>au (by omega)
   have Mz:i<ag n->decide ((i:Int)<(ag n:Int))=true:=fun h=>ay (by omega)
   have MA : ¬ i<ag n->decide ((i:Int)<(ag n:Int))=false:=fun h=>au (by omega)
   have dH : ¬ i<ag m->i=ag m:=by omega
   have tq:=aL i (by omega)
   have jv:i<ag m->i+1<=ag m/\ag m-(i+1)<ag m-i:=fun h=>by omega
   have mY:=cN (q:=[9]) (t:=false) (show i<ag m+1 by omega)
   obtain ⟨k,hk⟩:∃ k,ag m+1-i=k+1:=⟨ag m-i,by omega⟩
   have ES:ag m+1-(i+1)=k:=by omega
   have Au:i<(o++0::zs k).length:=by simp;omega
   by_cases hlt:i<ag m
   . obtain ⟨x,hx⟩:∃ x,(digits m)[i]? = some x:=⟨_,List.getElem?_eq_getElem hlt⟩
     have sy:=aW m x (List.mem_of_getElem? hx)
     have f1:=bu x sy
     have f2:=qh c x (by unfold aE at sy;omega)
     by_cases hb:i<ag n
     . obtain ⟨y,hy⟩:∃ y,(digits n)[i]? = some y:=⟨_,List.getElem?_eq_getElem hb⟩
       have EF:=aW n y (List.mem_of_getElem? hy)
       have f3:=bu y EF
       have f4:=qh (c+x) y (by unfold aE at sy EF;omega)
       have hst:=nB (x:=x) (y:=y) ho hv rfl
       have hc':(c+x+y)/aE<=1:=by unfold aE at *;omega
       simp only [SS,Nat.reduceAdd,bg,qQ hlt,di hx,aI,bo,f1,f2,Mz hb,di hy,f3,f4,mY,y0,hk,iX]
       rw [bP (o:=o++0::zs k) (by simp [af.put]) Au,fL _ _ _ _ ho]
       simp only [SS,Nat.reduceAdd,pt,tq]
       refine ⟨(i+1,_,o++[(c+x+y)%aE],(c+x+y)/aE),⟨(jv hlt).1,by simp [ho],p6 hwd _,hc', ?_⟩,(jv hlt).2,Wk.forget (by simp [Fg]) (fun j => ?_) (Nat.le_refl _)⟩
       . show val (o++[(c+x+y)%aE])+_=val ((digits m).take (i+1))+val ((digits n).take (i+1))
         rw [aN hx,aN hy];exact hst
       . simp only [af.put,ES];split<;>simp
     . have hst:=nB (x:=x) (y:=0) ho hv rfl
       rw [Nat.mul_zero,Nat.add_zero,Nat.add_zero] at hst
       have hc':(c+x)/aE<=1:=by unfold aE at *;omega
       simp only [SS,Nat.reduceAdd,bg,qQ hlt,di hx,aI,bo,f1,f2,MA hb,mY,y0,hk,iX]
       rw [bP (o:=o++0::zs k) (by simp [af.put]) Au,fL _ _ _ _ ho]
       simp only [SS,Nat.reduceAdd,pt,tq]
       refine ⟨(i+1,_,o++[(c+x)%aE],(c+x)/aE),⟨(jv hlt).1,by simp [ho],p6 hwd _,hc', ?_⟩,(jv hlt).2,Wk.forget (by simp [Fg]) (fun j => ?_) (Nat.le_refl _)⟩
       . show val (o++[(c+x)%aE])+_=val ((digits m).take (i+1))+val ((digits n).take (i+1))
         rw [aN hx,jn (show (digits n).length<=i from by show ag n<=i;omega)];exact hst
       . simp only [af.put,ES];split<;>simp
   . have p7:=dH hlt
     have hcB:c<aE:=by unfold aE;omega
     have f5:IntKind.u32.wrap (c:Int)=(c:Int):=by rw [y0,Nat.mod_eq_of_lt hcB]
     have acs:=cN (q:=[9]) (t:=false) (show ag m<ag m+1 by omega)
     have Oc:k=0:=by omega
     have RN:ag m<(o++0::zs k).length:=by simp;omega
     have e1:(digits m).take (ag m)=digits m:=List.take_of_length_le (Nat.le_refl _)
     have e2:(digits n).take (ag m)=digits n:=List.take_of_length_le (by show ag n<=ag m;omega)
     have Bp:val (o++[c])=m+n:=by
       rw [cv,ho];simp only [val,Nat.mul_zero,Nat.add_zero]
       rw [hv,p7,e1,e2,aV,aV]
       all_goals omega
     have YA:Wd (o++[c]):=cM hwd (by intro z hz;simp at hz;subst hz;exact hcB)
     have y5:ag m+1=(o++[c]).length:=by simp [ho,p7]
     have Ay:=ht (o++[c]) YA (by rw [<- y5];omega)
     rw [Bp] at Ay
     simp only [SS,Nat.reduceAdd,bg,yw hlt,f5,acs,hk,iX]
     rw [bP (o:=o++0::zs k) (by simp [af.put]) RN,fL _ _ _ _ (ho.trans p7),Oc,x5]
     simp only [SS,Nat.reduceAdd]
     refine bJ [([9],⟨us (o++[c]),1,false⟩)] Ay (aG.cons (g7 y5) aG.nil) (by simp [af.put]) ?_
     simp only [SS,Nat.reduceAdd]
     exact ai▸ae rfl (aB _)
 by_cases YQ:(ag m<ag n)
 . have d0:decide ((ag m:Int)<(ag n:Int))=true:=by first | exact ay (by omega) | exact au (by omega)
   have hL:=pa (ag n) 1 (by omega)
   have hL':IntKind.i64.wrap ((ag n:Int)+1)=((ag n+1:Nat):Int):=hL
   have uM:∀ p:Id,jr p 1 4 (.int .u32 0) (.int .i64 ((ag n+1:Nat):Int)) (.int .i64 ((ag n+1:Nat):Int))=some { val := .osl p 1 0 (ag n+1) false,up:=[(p,some ⟨us (List.replicate (ag n+1) 0),1,false⟩)] }:=fun p=>nW (by omega)
   simp only [SS,Nat.reduceAdd,bg,d0,hL',uM,aP]
   refine VW.ey (α := Nat × Nat × List Nat × Nat) (fun x=>⟨[W n,W m, .top, .top, .top, .osl [13] 1 0 (ag n+1) false, .int .u64 (x.2.2.2:Int), .int .i64 (x.1:Int)]++List.replicate 50 .top,
     af.put (fun _=>none) [13] (some ⟨us (x.2.2.1++zs (ag n+1-x.1)),1,false⟩),x.2.1⟩)
     (fun x=>x.1<=ag n/\x.2.2.1.length=x.1/\Wd x.2.2.1/\x.2.2.2<=1/\val x.2.2.1+aE ^ x.1*x.2.2.2=val ((digits n).take x.1)+val ((digits m).take x.1)) (fun x=>ag n-x.1) (0,1000,[],0) ?_ ?_ ?_
   . exact Wk.slots (by simp [Fg,List.replicate]) (by simp only [];omega)
   . exact ⟨Nat.zero_le _,rfl,by intro w hw;simp at hw,Nat.zero_le _,by simp [val]⟩
   rintro ⟨i,nn,o,c⟩ ⟨hi,ho,hwd,hc,hv⟩
   simp only [] at hi ho hwd hc hv
   have qQ:i<ag n->decide ((i:Int)<(ag n:Int))=true:=fun h=>ay (by omega)
   have yw : ¬ i<ag n->decide ((i:Int)<(ag n:Int))=false:=fun h=>au (by omega)
   have Mz:i<ag m->decide ((i:Int)<(ag m:Int))=true:=fun h=>ay (by omega)
   have MA : ¬ i<ag m->decide ((i:Int)<(ag m:Int))=false:=fun h=>au (by omega)
   have dH : ¬ i<ag n->i=ag n:=by omega
   have tq:=aL i (by omega)
   have jv:i<ag n->i+1<=ag n/\ag n-(i+1)<ag n-i:=fun h=>by omega
   have mY:=cN (q:=[13]) (t:=false) (show i<ag n+1 by omega)
   obtain ⟨k,hk⟩:∃ k,ag n+1-i=k+1:=⟨ag n-i,by omega⟩
   have ES:ag n+1-(i+1)=k:=by omega
   have Au:i<(o++0::zs k).length:=by simp;omega
   by_cases hlt:i<ag n
   . obtain ⟨x,hx⟩:∃ x,(digits n)[i]? = some x:=⟨_,List.getElem?_eq_getElem hlt⟩
     have sy:=aW n x (List.mem_of_getElem? hx)
     have f1:=bu x sy
     have f2:=qh c x (by unfold aE at sy;omega)
     by_cases hb:i<ag m
     . obtain ⟨y,hy⟩:∃ y,(digits m)[i]? = some y:=⟨_,List.getElem?_eq_getElem hb⟩
       have EF:=aW m y (List.mem_of_getElem? hy)
       have f3:=bu y EF
       have f4:=qh (c+x) y (by unfold aE at sy EF;omega)
       have hst:=nB (x:=x) (y:=y) ho hv rfl
       have hc':(c+x+y)/aE<=1:=by unfold aE at *;omega
       simp only [SS,Nat.reduceAdd,bg,qQ hlt,di hx,aI,bo,f1,f2,Mz hb,di hy,f3,f4,mY,y0,hk,iX]
       rw [bP (o:=o++0::zs k) (by simp [af.put]) Au,fL _ _ _ _ ho]
       simp only [SS,Nat.reduceAdd,pt,tq]
       refine ⟨(i+1,_,o++[(c+x+y)%aE],(c+x+y)/aE),⟨(jv hlt).1,by simp [ho],p6 hwd _,hc', ?_⟩,(jv hlt).2,Wk.forget (by simp [Fg]) (fun j => ?_) (Nat.le_refl _)⟩
       . show val (o++[(c+x+y)%aE])+_=val ((digits n).take (i+1))+val ((digits m).take (i+1))
         rw [aN hx,aN hy];exact hst
       . simp only [af.put,ES];split<;>simp
     . have hst:=nB (x:=x) (y:=0) ho hv rfl
       rw [Nat.mul_zero,Nat.add_zero,Nat.add_zero] at hst
       have hc':(c+x)/aE<=1:=by unfold aE at *;omega
       simp only [SS,Nat.reduceAdd,bg,qQ hlt,di hx,aI,bo,f1,f2,MA hb,mY,y0,hk,iX]
       rw [bP (o:=o++0::zs k) (by simp [af.put]) Au,fL _ _ _ _ ho]
       simp only [SS,Nat.reduceAdd,pt,tq]
       refine ⟨(i+1,_,o++[(c+x)%aE],(c+x)/aE),⟨(jv hlt).1,by simp [ho],p6 hwd _,hc', ?_⟩,(jv hlt).2,Wk.forget (by simp [Fg]) (fun j => ?_) (Nat.le_refl _)⟩
       . show val (o++[(c+x)%aE])+_=val ((digits n).take (i+1))+val ((digits m).take (i+1))
         rw [aN hx,jn (show (digits m).length<=i from by show ag m<=i;omega)];exact hst
       . simp only [af.put,ES];split<;>simp
   . have p7:=dH hlt
     have hcB:c<aE:=by unfold aE;omega
     have f5:IntKind.u32.wrap (c:Int)=(c:Int):=by rw [y0,Nat.mod_eq_of_lt hcB]
     have acs:=cN (q:=[13]) (t:=false) (show ag n<ag n+1 by omega)
     have Oc:k=0:=by omega
     have RN:ag n<(o++0::zs k).length:=by simp;omega
     have e1:(digits n).take (ag n)=digits n:=List.take_of_length_le (Nat.le_refl _)
     have e2:(digits m).take (ag n)=digits m:=List.take_of_length_le (by show ag m<=ag n;omega)
     have Bp:val (o++[c])=m+n:=by
       rw [cv,ho];simp only [val,Nat.mul_zero,Nat.add_zero]
       rw [hv,p7,e1,e2,aV,aV]
       all_goals omega
     have YA:Wd (o++[c]):=cM hwd (by intro z hz;simp at hz;subst hz;exact hcB)
     have y5:ag n+1=(o++[c]).length:=by simp [ho,p7]
     have Ay:=ht (o++[c]) YA (by rw [<- y5];omega)
     rw [Bp] at Ay
     simp only [SS,Nat.reduceAdd,bg,yw hlt,f5,acs,hk,iX]
     rw [bP (o:=o++0::zs k) (by simp [af.put]) RN,fL _ _ _ _ (ho.trans p7),Oc,x5]
     simp only [SS,Nat.reduceAdd]
     refine bJ [([13],⟨us (o++[c]),1,false⟩)] Ay (aG.cons (g7 y5) aG.nil) (by simp [af.put]) ?_
     simp only [SS,Nat.reduceAdd]
     exact ai▸ae rfl (aB _)
 exact absurd YQ VE
set_option maxHeartbeats 1000000 in
theorem JP {f ft:FuncId} (h:Has P f (dX ft)) (ht:iW P G ft) (m n:Nat) (uS:n<=m) (hm:ag m<=1000000):VP P G f [W m,W n] (W (m-n)):=by
 refine VP.has h ?_
 have hwn:=bE uS
 have uM:∀ p:Id,jr p 1 4 (.int .u32 0) (.int .i64 (ag m:Int)) (.int .i64 (ag m:Int))=some { val := .osl p 1 0 (ag m) false,up:=[(p,some ⟨us (List.replicate (ag m) 0),1,false⟩)] }:=fun p=>nW (by omega)
 simp only [dX,SS,Nat.reduceAdd,bg,uM,aP]
 refine VW.ey (α := Nat × Nat × List Nat × Nat) (fun x=>⟨[W m,W n, .top, .top, .top, .osl [3] 1 0 (ag m) false, .int .u64 (x.2.2.2:Int), .int .i64 (x.1:Int)]++List.replicate 40 .top,
   af.put (fun _=>none) [3] (some ⟨us (x.2.2.1++zs (ag m-x.1)),1,false⟩),x.2.1⟩)
   (fun x=>x.1<=ag m/\x.2.2.1.length=x.1/\Wd x.2.2.1/\x.2.2.2<=1/\val x.2.2.1+val ((digits n).take x.1)=val ((digits m).take x.1)+aE ^ x.1*x.2.2.2) (fun x=>ag m-x.1) (0,1000,[],0) ?_ ?_ ?_
 . exact Wk.slots (by simp [Fg,List.replicate]) (by simp only [];omega)
 . exact ⟨Nat.zero_le _,rfl,by intro w hw;simp at hw,Nat.zero_le _,by simp [val]⟩
 rintro ⟨i,nn,o,c⟩ ⟨hi,ho,hwd,hc,hv⟩
 simp only [] at hi ho hwd hc hv
 have qQ:i<ag m->decide ((i:Int)<(ag m:Int))=true:=fun h=>ay (by omega)
 have yw : ¬ i<ag m->decide ((i:Int)<(ag m:Int))=false:=fun h=>au (by omega)
 have Mz:i<ag n->decide ((i:Int)<(ag n:Int))=true:=fun h=>ay (by omega)
 have MA : ¬ i<ag n->decide ((i:Int)<(ag n:Int))=false:=fun h=>au (by omega)
 have dH : ¬ i<ag m->i=ag m:=by omega
 have tq:=aL i (by omega)
 have jv:i<ag m->i+1<=ag m/\ag m-(i+1)<ag m-i:=fun h=>by omega
 by_cases hlt:i<ag m
 . obtain ⟨x,hx⟩:∃ x,(digits m)[i]? = some x:=⟨_,List.getElem?_eq_getElem hlt⟩
   have sy:=aW m x (List.mem_of_getElem? hx)
   have f1:=bu x sy
   have mY:=cN (q:=[3]) (t:=false) hlt
   obtain ⟨k,hk⟩:∃ k,ag m-i=k+1:=⟨ag m-i-1,by omega⟩
   have ES:ag m-(i+1)=k:=by omega
   have Au:i<(o++0::zs k).length:=by simp;omega
   by_cases hb:i<ag n
   . obtain ⟨y,hy⟩:∃ y,(digits n)[i]? = some y:=⟨_,List.getElem?_eq_getElem hb⟩
     have EF:=aW n y (List.mem_of_getElem? hy)
     have f3:=bu y EF
     obtain ⟨w,c',h1,h2,h3,d,h4,h5,h6⟩:=AB sy EF hc
     have hst:=n8 (va:=val ((digits m).take i)) (vb:=val ((digits n).take i)) (x:=x) (y:=y) (c:=c) (w:=w) (c':=c') ho (by rw [hv];omega) h3
     simp only [SS,Nat.reduceAdd,bg,qQ hlt,di hx,aI,bo,f1,Mz hb,di hy,f3,h4,h5,mY,hk,iX]
     rw [bP (o:=o++0::zs k) (by simp [af.put]) Au,fL _ _ _ _ ho]
     simp only [SS,Nat.reduceAdd,pt,h6,tq]
     refine ⟨(i+1,_,o++[w],c'),⟨(jv hlt).1,by simp [ho],cM hwd (by intro z hz;simp at hz;subst hz;exact h1),h2, ?_⟩,(jv hlt).2,Wk.forget (by simp [Fg]) (fun j => ?_) (Nat.le_refl _)⟩
     . show val (o++[w])+val ((digits n).take (i+1))=val ((digits m).take (i+1))+_
       rw [aN hx,aN hy];exact hst
     . simp only [af.put,ES];split<;>simp
   . obtain ⟨w,c',h1,h2,h3,d,h4,h5,h6⟩:=AB (y:=0) sy cW hc
     have h4':IntKind.u64.wrap (IntKind.u64.wrap (IntKind.u64.wrap ((x:Int)+4294967296)-0)-(c:Int))=(d:Int):=h4
     have hst:=n8 (va:=val ((digits m).take i)) (vb:=val ((digits n).take i)) (x:=x) (y:=0) (c:=c) (w:=w) (c':=c') ho (by rw [hv];omega) h3
     rw [Nat.mul_zero,Nat.add_zero] at hst
     simp only [SS,Nat.reduceAdd,bg,qQ hlt,di hx,aI,bo,f1,MA hb,h4',h5,mY,hk,iX]
     rw [bP (o:=o++0::zs k) (by simp [af.put]) Au,fL _ _ _ _ ho]
     simp only [SS,Nat.reduceAdd,pt,h6,tq]
     refine ⟨(i+1,_,o++[w],c'),⟨(jv hlt).1,by simp [ho],cM hwd (by intro z hz;simp at hz;subst hz;exact h1),h2, ?_⟩,(jv hlt).2,Wk.forget (by simp [Fg]) (fun j => ?_) (Nat.le_refl _)⟩
     . show val (o++[w])+val ((digits n).take (i+1))=val ((digits m).take (i+1))+_
       rw [aN hx,jn (show (digits n).length<=i from by show ag n<=i;omega)];exact hst
     . simp only [af.put,ES];split<;>simp
 . have p7:=dH hlt
   have e1:(digits m).take (ag m)=digits m:=List.take_of_length_le (Nat.le_refl _)
   have e2:(digits n).take (ag m)=digits n:=List.take_of_length_le (by show ag n<=ag m;omega)
   have Bp:val o=m-n:=by
     rw [p7,e1,e2,aV,aV] at hv
     have y9:=mO hwd
     rw [ho,p7] at y9
     rcases Nat.eq_zero_or_pos c with h0 | h0
     . subst h0;omega
     . have:c=1:=by omega
       subst this;have:=cV m;omega
   have y5:ag m=o.length:=by omega
   have e3:zs (ag m-i)=[]:=by rw [p7,Nat.sub_self];rfl
   have Ay:=ht o hwd (by omega)
   rw [Bp] at Ay
   simp only [SS,Nat.reduceAdd,bg,yw hlt,e3]
   refine bJ [([3],⟨us o,1,false⟩)] Ay (aG.cons (g7 y5) aG.nil) (by simp [af.put]) ?_
   simp only [SS,Nat.reduceAdd]
   exact ai▸ae rfl (aB _)
end
end Go.VL
end

section
set_option linter.unusedVariables false
namespace Go.VL
section
variable {P:Program} {G:Nat->Option (List AV)}
set_option maxHeartbeats 1000000 in
theorem HI {f ft:FuncId} (h:Has P f (gO ft)) (ht:iW P G ft) (m:Nat) {ws:List Nat} (hws:Wd ws) (hm:ag m<=1000000) (hn:ws.length<=1000000):VP P G f [W m, .sl 1 (us ws)] (W (m*val ws)):=by
 refine VP.has h ?_
 have uM:∀ p:Id,jr p 1 4 (.int .u32 0) (.int .i64 ((ag m+ws.length:Nat):Int)) (.int .i64 ((ag m+ws.length:Nat):Int))=some { val := .osl p 1 0 (ag m+ws.length) false,up:=[(p,some ⟨us (List.replicate (ag m+ws.length) 0),1,false⟩)] }:=fun p=>nW (by omega)
 have hL:=pa (ag m) (ws.length) (by omega)
 simp only [gO,SS,Nat.reduceAdd,bg,gv,hL,uM,aP]
 refine VW.ey (α := Nat × Nat × List Nat) (fun x=>⟨[W m, .sl 1 (us ws), .top, .top, .top, .osl [6] 1 0 (ag m+ws.length) false, .int .i64 (x.1:Int)]++List.replicate 60 .top,
   af.put (fun _=>none) [6] (some ⟨us x.2.2,1,false⟩),x.2.1⟩)
   (fun x=>x.1<=ag m/\x.2.2.length=ag m+ws.length/\Wd x.2.2/\val x.2.2=val ((digits m).take x.1)*val ws) (fun x=>ag m-x.1) (0,1000,List.replicate (ag m+ws.length) 0) ?_ ?_ ?_
 . exact Wk.slots (by simp [Fg,List.replicate]) (by simp only [];omega)
 . exact ⟨Nat.zero_le _,List.length_replicate ..,Hz _,by simp only [];rw [EC (fun w hw=>List.eq_of_mem_replicate hw)];simp [val]⟩
 rintro ⟨i,nn,o⟩ ⟨hi,ho,hwd,hv⟩
 simp only [] at hi ho hwd hv
 have qQ:i<ag m->decide ((i:Int)<(ag m:Int))=true:=fun h=>ay (by omega)
 have yw : ¬ i<ag m->decide ((i:Int)<(ag m:Int))=false:=fun h=>au (by omega)
 have dH : ¬ i<ag m->i=ag m:=by omega
 have tq:=aL i (by omega)
 have jv:i<ag m->i+1<=ag m/\ag m-(i+1)<ag m-i:=fun h=>by omega
 have nk:=pa i (ws.length) (by omega)
 have Oz:i<ag m->i+ws.length<ag m+ws.length:=fun h=>by omega
 by_cases hlt:i<ag m
 . obtain ⟨a,ha⟩:∃ a,(digits m)[i]? = some a:=⟨_,List.getElem?_eq_getElem hlt⟩
   have wb:=aW m a (List.mem_of_getElem? ha)
   have f1:=bu a wb
   have OA:o[i+ws.length]? = some 0:=by
     obtain ⟨y,hy⟩:∃ y,o[i+ws.length]? = some y:=⟨_,List.getElem?_eq_getElem (by rw [ho];exact Oz hlt)⟩
     have e:=HA (k:=i+ws.length) (by
       rw [hv,Nat.pow_add]
       have h2:val ((digits m).take i)<aE ^ i:=by
         have:=mO (tk (aW m) i)
         rwa [List.length_take,Nat.min_eq_left (show i<=(digits m).length from Nat.le_of_lt hlt)] at this
       exact Nat.mul_lt_mul'' h2 (mO hws)) hy
     rw [e] at hy;exact hy
   simp only [SS,Nat.reduceAdd,bg,qQ hlt,aP]
   refine VW.ey (α := Nat × Nat × List Nat × Nat) (fun x=>⟨[W m, .sl 1 (us ws), .top, .top, .top, .osl [6] 1 0 (ag m+ws.length) false, .int .i64 (i:Int), .int .u64 (x.2.2.2:Int), .int .i64 (x.1:Int)]++List.replicate 58 .top,
     af.put (fun _=>none) [6] (some ⟨us x.2.2.1,1,false⟩),x.2.1⟩)
     (fun x=>x.1<=ws.length/\x.2.2.1.length=ag m+ws.length/\Wd x.2.2.1/\x.2.2.2<aE/\x.2.2.1[i+ws.length]? = some 0/\val x.2.2.1+aE ^ (i+x.1)*x.2.2.2=val o+aE ^ i*(a*val (ws.take x.1))) (fun x=>ws.length-x.1) (0,nn+1000,o,0) ?_ ?_ ?_
   . exact Wk.slots (by simp [Fg,List.replicate]) (by simp only [];omega)
   . exact ⟨Nat.zero_le _,ho,hwd,cW,OA,by simp [val]⟩
   rintro ⟨j,mm,o',c⟩ ⟨hj,Ss,KJ,hc,hz,hv'⟩
   simp only [] at hj Ss KJ hc hz hv'
   have Mz:j<ws.length->decide ((j:Int)<(ws.length:Int))=true:=fun h=>ay (by omega)
   have MA : ¬ j<ws.length->decide ((j:Int)<(ws.length:Int))=false:=fun h=>au (by omega)
   have Ls : ¬ j<ws.length->j=ws.length:=by omega
   have TV:=aL j (by omega)
   have UI:j<ws.length->j+1<=ws.length/\ws.length-(j+1)<ws.length-j:=fun h=>by omega
   have R7:=pa i j (by omega)
   have OC:j<ws.length->i+j<ag m+ws.length:=fun h=>by omega
   have hne:j<ws.length->i+j≠i+ws.length:=fun h=>by omega
   by_cases DJ:j<ws.length
   . obtain ⟨b,hb⟩:∃ b,ws[j]? = some b:=⟨_,List.getElem?_eq_getElem DJ⟩
     have Ib:=hws b (List.mem_of_getElem? hb)
     have f2:=bu b Ib
     obtain ⟨z,hzz⟩:∃ z,o'[i+j]? = some z:=⟨_,List.getElem?_eq_getElem (by rw [Ss];exact OC DJ)⟩
     have Yz:=KJ z (List.mem_of_getElem? hzz)
     have f3:=bu z Yz
     have f4:=QN a b wb Ib
     have hle:=Oy wb Ib
     have f5:=qh c z (by unfold aE at Yz hc;omega)
     have f6:=qh (c+z) (a*b) (by unfold aE at Yz hc;omega)
     have hc':(c+z+a*b)/aE<aE:=by unfold aE at Yz hc ⊢;omega
     have mY:=cN (q:=[6]) (t:=false) (OC DJ)
     have hst:=JG (x:=a) (y:=b) (s:=c+z+a*b) hzz hv' (by omega)
     simp only [SS,DD,Nat.reduceAdd,gv,Mz DJ,R7,mY]
     rw [jy (o:=o') (b:=false) (by simp [af.put]) hzz]
     simp only [SS,DD,Nat.reduceAdd,f3,f5,di ha,fX rfl (xZ hb),aI,bo,f1,f2,f4,f6]
     refine ⟨by simp [ab], ?_⟩
     simp only [SS,Nat.reduceAdd,y0,R7,mY]
     rw [bP (o:=o') (by simp [af.put]) (by rw [Ss];exact OC DJ)]
     simp only [SS,Nat.reduceAdd,pt,TV]
     refine ⟨(j+1,_,o'.set (i+j) ((c+z+a*b)%aE),(c+z+a*b)/aE),⟨(UI DJ).1,by simp [Ss],KI KJ (Nat.mod_lt _ cW),hc', ?_, ?_⟩,(UI DJ).2,Wk.forget (by simp [Fg]) (fun j => ?_) (Nat.le_refl _)⟩
     . rw [List.getElem?_set_ne (hne DJ)];exact hz
     . show _=val o+aE ^ i*(a*val (ws.take (j+1)))
       rw [aN hb];exact hst
     . simp only [af.put];split<;>simp
   . have hjw:=Ls DJ
     have mY:=cN (q:=[6]) (t:=false) (Oz hlt)
     have f7:IntKind.u32.wrap (c:Int)=(c:Int):=by rw [y0,Nat.mod_eq_of_lt hc]
     have hval:val (o'.set (i+ws.length) c)=val ((digits m).take (i+1))*val ws:=by
       have e:=F3 (x:=c) hz
       have e2:ws.take ws.length=ws:=List.take_of_length_le (Nat.le_refl _)
       rw [hjw,e2,hv] at hv'
       rw [aN ha,Nat.add_mul]
       have e3:aE ^ i*a*val ws=aE ^ i*(a*val ws):=Nat.mul_assoc _ _ _
       omega
     simp only [SS,Nat.reduceAdd,gv,MA DJ,nk,f7,mY]
     rw [bP (o:=o') (by simp [af.put]) (by rw [Ss];exact Oz hlt)]
     simp only [SS,Nat.reduceAdd,tq]
     refine ⟨(i+1,_,o'.set (i+ws.length) c),⟨(jv hlt).1,by simp [Ss],KI KJ hc,hval⟩,(jv hlt).2,Wk.forget (by simp [Fg]) (fun j => ?_) (Nat.le_refl _)⟩
     simp only [af.put];split<;>simp
 . have p7:=dH hlt
   have e1:(digits m).take (ag m)=digits m:=List.take_of_length_le (Nat.le_refl _)
   have Bp:val o=m*val ws:=by rw [hv,p7,e1,aV]
   have Ay:=ht o hwd (by rw [ho];omega)
   rw [Bp] at Ay
   simp only [SS,Nat.reduceAdd,bg,yw hlt]
   refine bJ [([6],⟨us o,1,false⟩)] Ay (aG.cons (g7 ho.symm) aG.nil) (by simp [af.put]) ?_
   simp only [SS,Nat.reduceAdd]
   exact ai▸ae rfl (aB _)
theorem SF {f ft:FuncId} (h:Has P f (gO ft)) (ht:iW P G ft) (m n:Nat) (hm:ag m<=1000000) (hn:ag n<=1000000):VP P G f [W m,W n] (W (m*n)):=by
 have:=HI (G:=G) h ht m (aW n) hm hn
 rw [aV] at this;exact this
theorem acu {f ft:FuncId} (h:Has P f (nc ft)) (ht:iW P G ft) (m w:Nat) (hm:ag m<=1000000) (hw:w<aE) (Oo:w≠0) :
   VP P G f [W m, .int .u32 (w:Int)] (.tup [W (m/w), .int .u32 ((m%w:Nat):Int)]):=by
 refine VP.has h ?_
 have uM:∀ p:Id,jr p 1 4 (.int .u32 0) (.int .i64 (ag m:Int)) (.int .i64 (ag m:Int))=some { val := .osl p 1 0 (ag m) false,up:=[(p,some ⟨us (List.replicate (ag m) 0),1,false⟩)] }:=fun p=>nW (by omega)
 have hwL:IntKind.i64.wrap ((ag m:Int)-1)=(ag m:Int)-1:=by rw [IntKind.wrap_i64];omega
 have f0:=bu w hw
 have hwz:((w:Nat):Int)≠0:=by omega
 simp only [nc,SS,Nat.reduceAdd,bg,uM,hwL,aP]
 refine VW.ey (α := Nat × Nat × List Nat × Nat) (fun x=>⟨[W m, .int .u32 (w:Int), .top, .top, .top, .top, .osl [4] 1 0 (ag m) false, .int .u64 (x.2.2.2:Int), .int .i64 ((x.1:Int)-1)]++List.replicate 34 .top,
   af.put (fun _=>none) [4] (some ⟨us (zs x.1++x.2.2.1),1,false⟩),x.2.1⟩)
   (fun x=>x.1+x.2.2.1.length=ag m/\Wd x.2.2.1/\x.2.2.2<w/\val ((digits m).drop x.1)=val x.2.2.1*w+x.2.2.2) (fun x=>x.1) (ag m,1000,[],0) ?_ ?_ ?_
 . rw [List.append_nil];exact Wk.slots (by simp [Fg,List.replicate]) (by simp only [];omega)
 . refine ⟨by simp,by intro w hw;simp at hw,Nat.pos_of_ne_zero Oo, ?_⟩
   show val ((digits m).drop (ag m))=_
   rw [List.drop_eq_nil_of_le (show (digits m).length<=ag m from Nat.le_refl _)];simp [val]
 rintro ⟨k,nn,q,r⟩ ⟨hk,hwd,hr,hv⟩
 simp only [] at hk hwd hr hv
 by_cases h0:k=0
 . subst h0
   have d0:decide ((0:Int)<=((0:Nat):Int)-1)=false:=by decide
   have e:m/w=val q/\m%w=r:=by
     rw [List.drop_zero,aV] at hv
     refine (Nat.div_mod_unique (Nat.pos_of_ne_zero Oo)).2 ⟨?_,hr⟩
     rw [hv,Nat.mul_comm w];omega
   have Ay:=ht q hwd (by omega)
   rw [<- e.1] at Ay
   have f9:IntKind.u32.wrap (r:Int)=(r:Int):=by rw [y0,Nat.mod_eq_of_lt (by omega)]
   have hq:ag m=q.length:=by omega
   simp only [SS,Nat.reduceAdd,d0,x5]
   refine bJ [([4],⟨us q,1,false⟩)] Ay (aG.cons (g7 hq) aG.nil) (by simp [af.put]) ?_
   simp only [SS,Nat.reduceAdd,f9]
   rw [e.2]
   exact ai▸ae rfl (aa.tup (by intro c hc;simp at hc;rcases hc with rfl | rfl;exact aB _;exact aa.int _ _))
 . obtain ⟨j,rfl⟩:∃ j,k=j+1:=⟨k-1,by omega⟩
   have d0:decide ((0:Int)<=(j:Int))=true:=ay (by omega)
   have hj:((j+1:Nat):Int)-1=(j:Int):=by omega
   have wI:j<ag m:=by omega
   have TV:IntKind.i64.wrap ((j:Int)-1)=(j:Int)-1:=by rw [IntKind.wrap_i64];omega
   obtain ⟨a,ha⟩:∃ a,(digits m)[j]? = some a:=⟨_,List.getElem?_eq_getElem wI⟩
   have wb:=aW m a (List.mem_of_getElem? ha)
   have f1:=bu a wb
   have MB:r<aE:=by omega
   have f2:=BW r MB
   have f3:=JH r a MB wb
   have hlt:aE*r+a<18446744073709551616:=by unfold aE at *;omega
   have f4:=JI (aE*r+a) w hlt Oo
   have f5:=JJ (aE*r+a) w Oo
   have Vc:(aE*r+a)/w<aE:=by
     rw [Nat.div_lt_iff_lt_mul (Nat.pos_of_ne_zero Oo)]
     have:aE*(r+1)<=aE*w:=Nat.mul_le_mul_left _ hr
     rw [Nat.mul_add] at this
     omega
   have f6:IntKind.u32.wrap (((aE*r+a)/w:Nat):Int)=(((aE*r+a)/w:Nat):Int):=by rw [y0,Nat.mod_eq_of_lt Vc]
   have mY:=cN (q:=[4]) (t:=false) wI
   have hol:j<(zs (j+1)++q).length:=by simp [zs];omega
   have hv':val ((digits m).drop j)=val ((aE*r+a)/w::q)*w+(aE*r+a)%w:=by
     rw [List.drop_eq_getElem_cons (show j<(digits m).length from wI)]
     obtain ⟨_,h2⟩:=List.getElem?_eq_some_iff.1 ha
     rw [h2]
     simp only [val]
     rw [hv,Nat.add_mul,Nat.mul_add,Nat.mul_assoc aE]
     have:=Nat.div_add_mod (aE*r+a) w
     rw [Nat.mul_comm] at this
     omega
   have QH:j+((aE*r+a)/w::q).length=ag m:=by simp;omega
   simp only [SS,Nat.reduceAdd,d0,hj,di ha,aI,bo,f0,f1,f2,f3,f4,f6,mY]
   rw [bP (o:=zs (j+1)++q) (by simp [af.put]) hol,Af]
   simp only [SS,Nat.reduceAdd,f0,f5,TV]
   refine ⟨(j,_,(aE*r+a)/w::q,(aE*r+a)%w),⟨QH, ?_,Nat.mod_lt _ (Nat.pos_of_ne_zero Oo),hv'⟩,Nat.lt_succ_self j,Wk.forget (by simp [Fg]) (fun j => ?_) (Nat.le_refl _)⟩
   . intro z hz
     rcases List.mem_cons.1 hz with rfl | hz
     . exact Vc
     . exact hwd z hz
   . simp only [af.put];split<;>simp
end
end Go.VL
end

section
set_option linter.unusedVariables false
namespace Go.VL
theorem MR {x c:Nat} (hx:x<aE) (h0:0<x) (h1:x<2 ^ c) (h2:2 ^ c<=2*x):c=iE x:=by
 obtain ⟨a,b⟩:=Df hx h0
 have e1:2 ^ c<2 ^ (iE x+1):=by rw [Nat.pow_succ];omega
 have e2:2 ^ iE x<2 ^ (c+1):=by rw [Nat.pow_succ];omega
 have:=(Nat.pow_lt_pow_iff_right (by decide:1<2)).1 e1
 have:=(Nat.pow_lt_pow_iff_right (by decide:1<2)).1 e2
 omega
theorem aiM (a:Nat) (ha:a<aE):bR .quo .int (.int .u32 (a:Int)) (.int .u32 2)=some (.int .u32 ((a/2:Nat):Int)):=by
 rw [Kv (by decide)]
 show some (AV.int .u32 (IntKind.u32.wrap ((a/2:Nat):Int)))=_
 rw [y0,Nat.mod_eq_of_lt (by unfold aE at *;omega)]
theorem SG {x y s:Nat} (hs:s<=32) (hx:x<aE):((aE*y+x)/2 ^ s)%aE=x/2 ^ s+2 ^ (32-s)*(y%2 ^ s):=by
 have hB:=we hs
 have hd:x/2 ^ s<2 ^ (32-s):=by rw [Nat.div_lt_iff_lt_mul (Nat.two_pow_pos _),hB];exact hx
 have e1:(aE*y+x)/2 ^ s=2 ^ (32-s)*y+x/2 ^ s:=by
   rw [<- hB,Nat.mul_comm (2 ^ (32-s)),Nat.mul_assoc,Nat.mul_add_div (Nat.two_pow_pos _)]
 have hlt:y%2 ^ s<2 ^ s:=Nat.mod_lt _ (Nat.two_pow_pos _)
 have h1:2 ^ (32-s)*(y%2 ^ s+1)<=2 ^ (32-s)*2 ^ s:=Nat.mul_le_mul_left _ hlt
 rw [Nat.mul_add,hB] at h1
 have e2:2 ^ (32-s)*y=aE*(y/2 ^ s)+2 ^ (32-s)*(y%2 ^ s):=by
   have:=Nat.div_add_mod y (2 ^ s)
   conv=>lhs;rw [<- this]
   rw [Nat.mul_add, <- Nat.mul_assoc,hB]
 rw [e1,e2,show aE*(y/2 ^ s)+2 ^ (32-s)*(y%2 ^ s)+x/2 ^ s=(x/2 ^ s+2 ^ (32-s)*(y%2 ^ s))+aE*(y/2 ^ s) from by omega,Nat.add_mul_mod_self_left,Nat.mod_eq_of_lt (by omega)]
theorem afm (x y:Nat) (hx:x<aE) (hy:y<aE):bR .or .int (.int .u64 (x:Int)) (.int .u64 ((aE*y:Nat):Int))=some (.int .u64 ((aE*y+x:Nat):Int)):=by
 rw [abT _ _ (by unfold aE at *;omega) (by unfold aE at *;omega),Nat.or_comm]
 have:=Nat.two_pow_add_eq_or_of_lt (i:=32) (b:=x) (by unfold aE at hx;omega) y
 rw [show aE=2 ^ 32 from rfl,this]
theorem VF (x s:Nat) (hs:s<=64):bR .shr .int (.int .u64 (x:Int)) (.int .i64 (s:Int))=some (.int .u64 ((x/2 ^ s:Nat):Int)):=by
 rw [s7 (by omega)]
 have h2:min (s:Int).toNat IntKind.u64.bits=s:=by
   show min (s:Int).toNat 64=s
   rw [Int.toNat_natCast];omega
 have h3:(x:Int).fdiv (2 ^ s)=((x/2 ^ s:Nat):Int):=by
   have h4:(2:Int) ^ s=((2 ^ s:Nat):Int):=by rw [Int.natCast_pow];rfl
   rw [h4,Int.fdiv_eq_ediv_of_nonneg _ (Int.natCast_nonneg _)]
   exact (Int.natCast_ediv _ _).symm
 rw [h2,h3]
section
variable {P:Program} {G:Nat->Option (List AV)}
theorem OP {f:FuncId} (h:Has P f gy) {n x k:Nat} (hk:ag n=k+1) (hx:(digits n)[k]? = some x) (QH:k<=1000000):VP P G f [W n] (.int .i64 ((32*k+iE x:Nat):Int)):=by
 refine VP.has h ?_
 have hxB:=aW n x (List.mem_of_getElem? hx)
 obtain ⟨Sp,_,_,_,_⟩:=Di hk hx
 have d0:decide (((k+1:Nat):Int)=0)=false:=au (by omega)
 have p1:IntKind.i64.wrap (((k+1:Nat):Int)-1)=(k:Int):=by rw [IntKind.wrap_i64];omega
 simp only [gy,SS,Nat.reduceAdd,bg,hk,d0,p1,di hx,aI,bo,aP]
 refine VW.ey (α := Nat × Nat × Nat) (fun y=>⟨[W n, .top, .top, .int .i64 (y.1:Int), .int .u32 (y.2.1:Int)]++List.replicate 21 .top,fun _=>none,y.2.2⟩)
   (fun y=>y.2.1=x/2 ^ y.1/\y.1<=32/\2 ^ y.1<=2*x) (fun y=>y.2.1) (0,x,1000) ?_ ?_ ?_
 . exact Wk.slots (by simp [Fg,List.replicate]) (by simp only [];omega)
 . refine ⟨by simp,by simp,by simp;omega⟩
 rintro ⟨c,y,nn⟩ ⟨hy,hc,h2⟩
 simp only [] at hy hc h2
 have hyB:y<aE:=by rw [hy];exact Nat.lt_of_le_of_lt (Nat.div_le_self _ _) hxB
 by_cases h0:y=0
 . have d1:decide ((0:Int)<(y:Int))=false:=au (by omega)
   have h1:x<2 ^ c:=by
     rw [h0] at hy
     exact Nat.lt_of_div_eq_zero (Nat.two_pow_pos c) hy.symm
   have e:=MR hxB Sp h1 h2
   have m1:IntKind.i64.wrap (32*(k:Int))=((32*k:Nat):Int):=by rw [IntKind.wrap_i64];omega
   have a1:=pa (32*k) c (by omega)
   rw [<- e]
   simp only [SS,Nat.reduceAdd,d1,bg,hk,p1,m1,a1]
   exact ai▸ae rfl (aa.int _ _)
 . have d1:decide ((0:Int)<(y:Int))=true:=ay (by omega)
   have hcw:=aL c (by omega)
   have q2:=aiM y hyB
   have hlt:2 ^ c<=x:=by
     rcases Nat.lt_or_ge x (2 ^ c) with h | h
     . rw [Nat.div_eq_of_lt h] at hy;omega
     . exact h
   have Yv:c+1<=32:=by
     have:2 ^ c<2 ^ 32:=by unfold aE at hxB;omega
     have:=(Nat.pow_lt_pow_iff_right (by decide:1<2)).1 this
     omega
   simp only [SS,Nat.reduceAdd,d1,hcw,q2]
   refine ⟨(c+1,y/2,_),⟨?_,Yv, ?_⟩,Nat.div_lt_self (by omega) (by decide),Wk.slots (by simp [Fg]) (Nat.le_refl _)⟩
   . simp only [];rw [hy,Nat.div_div_eq_div_mul, <- Nat.pow_succ]
   . simp only [];rw [Nat.pow_succ];omega
theorem HJ {f:FuncId} (h:Has P f gb) (m s:Nat) (hm:ag m<=1000000) (hs:s<=31) (p:Id) :
   aZ P G f [W m, .int .i64 (s:Int)] p [] { val := .osl (4::p) 1 0 (ag m+1) false,rd:=[],up:=[(4::p,some ⟨us (pad (ag m+1) (m*2 ^ s)),1,false⟩)] }:=by
 refine aZ.has h ?_
 have hL:=aL (ag m) (by omega)
 have uM:∀ p:Id,jr p 1 4 (.int .u32 0) (.int .i64 ((ag m+1:Nat):Int)) (.int .i64 ((ag m+1:Nat):Int))=some { val := .osl p 1 0 (ag m+1) false,up:=[(p,some ⟨us (List.replicate (ag m+1) 0),1,false⟩)] }:=fun p=>nW (by omega)
 have hz:us (List.replicate (ag m+1) 0)=us (0::zs (ag m)):=rfl
 simp only [gb,SS,Nat.reduceAdd,bg,hL,uM,aP]
 refine VW.ey (α := Nat × Nat × List Nat × Nat) (fun x=>⟨[W m, .int .i64 (s:Int), .top, .top, .top, .osl (4::p) 1 0 (ag m+1) false, .int .i64 (x.1:Int)]++List.replicate 36 .top,
   af.put (af.of []) (4::p) (some ⟨us (x.2.2.1++x.2.2.2::zs (ag m-x.1)),1,false⟩),x.2.1⟩)
   (fun x=>x.1<=ag m/\x.2.2.1.length=x.1/\Wd x.2.2.1/\x.2.2.2<2 ^ s/\val x.2.2.1+aE ^ x.1*x.2.2.2=val ((digits m).take x.1)*2 ^ s) (fun x=>ag m-x.1) (0,1000,[],0) ?_ ?_ ?_
 . exact Wk.slots (by simp [Fg,List.replicate]) (by simp only [];omega)
 . exact ⟨Nat.zero_le _,rfl,by intro w hw;simp at hw,Nat.two_pow_pos _,by simp [val]⟩
 rintro ⟨i,nn,o,c⟩ ⟨hi,ho,hwd,hc,hv⟩
 simp only [] at hi ho hwd hc hv
 have qQ:i<ag m->decide ((i:Int)<(ag m:Int))=true:=fun h=>ay (by omega)
 have yw : ¬ i<ag m->decide ((i:Int)<(ag m:Int))=false:=fun h=>au (by omega)
 have dH : ¬ i<ag m->i=ag m:=by omega
 have tq:=aL i (by omega)
 have jv:i<ag m->i+1<=ag m/\ag m-(i+1)<ag m-i:=fun h=>by omega
 have hcB:c<aE:=by
   have h2:2 ^ s<=2 ^ 32:=Nat.pow_le_pow_right (by decide) (by omega)
   unfold aE;omega
 by_cases hlt:i<ag m
 . obtain ⟨x,hx⟩:∃ x,(digits m)[i]? = some x:=⟨_,List.getElem?_eq_getElem hlt⟩
   have sy:=aW m x (List.mem_of_getElem? hx)
   have f1:=bu x sy
   have f2:=Vd x s (by omega) sy
   obtain ⟨g1,g2,g3⟩:=MD (s:=s) (by omega) hc sy
   have f3:=abU c (x*2 ^ s%aE) hcB (Nat.mod_lt _ cW)
   rw [g1] at f3
   have g4:x*2 ^ s/aE<aE:=by
     have h2:2 ^ s<=2 ^ 32:=Nat.pow_le_pow_right (by decide) (by omega)
     have:(2:Nat) ^ 32=aE:=rfl
     omega
   have f4:IntKind.u32.wrap ((x*2 ^ s/aE:Nat):Int)=((x*2 ^ s/aE:Nat):Int):=by rw [y0,Nat.mod_eq_of_lt g4]
   have mY:=cN (q:=4::p) (t:=false) (show i<ag m+1 by omega)
   have abV:=cN (q:=4::p) (t:=false) (show i+1<ag m+1 by omega)
   obtain ⟨k,hk⟩:∃ k,ag m-i=k+1:=⟨ag m-i-1,by omega⟩
   have ES:ag m-(i+1)=k:=by omega
   have Au:i<(o++c::0::zs k).length:=by simp;omega
   have RN:i+1<(o++(c+x*2 ^ s%aE)::0::zs k).length:=by simp;omega
   have hv':val (o++[c+x*2 ^ s%aE])+aE ^ (i+1)*(x*2 ^ s/aE)=val ((digits m).take (i+1))*2 ^ s:=by
     rw [aN hx,cv,ho,Nat.add_mul, <- hv]
     simp only [val,Nat.mul_zero,Nat.add_zero,Nat.pow_succ]
     have e2:aE ^ i*(x*2 ^ s%aE)+aE ^ i*(aE*(x*2 ^ s/aE))=aE ^ i*(x*2 ^ s):=by rw [<- Nat.mul_add,Nat.mod_add_div]
     rw [Nat.mul_assoc,Nat.mul_assoc,Nat.mul_add]
     omega
   simp only [SS,Nat.reduceAdd,bg,qQ hlt,di hx,aI,bo,f1,f2,mY,hk,iX]
   rw [jy (o:=o++c::0::zs k) (b:=false) (by simp [af.put]) (x6 _ _ _ ho)]
   simp only [SS,Nat.reduceAdd,y0,f3,mY]
   rw [bP (o:=o++c::0::zs k) (by simp [af.put]) Au,fL _ _ _ _ ho]
   simp only [SS,Nat.reduceAdd,tq,pt,f4,abV]
   rw [bP (o:=o++(c+x*2 ^ s%aE)::0::zs k) (by simp [af.put]) RN,MC _ _ _ _ _ ho]
   simp only [SS,Nat.reduceAdd,tq]
   refine ⟨(i+1,_,o++[c+x*2 ^ s%aE],x*2 ^ s/aE),⟨(jv hlt).1,by simp [ho],cM hwd (by intro z hz;simp at hz;subst hz;exact g2),g3,hv'⟩,(jv hlt).2,Wk.forget (by simp [Fg]) (fun j => ?_) (Nat.le_refl _)⟩
   simp only [af.put,ES];split<;>simp
 . have p7:=dH hlt
   have e1:(digits m).take (ag m)=digits m:=List.take_of_length_le (Nat.le_refl _)
   have Bp:val (o++[c])=m*2 ^ s:=by
     rw [cv,ho];simp only [val,Nat.mul_zero,Nat.add_zero]
     rw [hv,p7,e1,aV]
   have hlen:(o++[c]).length=ag m+1:=by simp [ho,p7]
   have e:pad (ag m+1) (m*2 ^ s)=o++[c]:=by
     rw [<- Bp, <- hlen]
     exact BX (cM hwd (by intro z hz;simp at hz;subst hz;exact hcB))
   have e3:zs (ag m-i)=[]:=by rw [p7,Nat.sub_self];rfl
   simp only [SS,Nat.reduceAdd,bg,yw hlt,e,e3]
   refine eI▸bH rfl fun i => .inr ?_
   rfl
theorem YR {f ft:FuncId} (h:Has P f (k5 ft)) (ht:iW P G ft) (m s:Nat) (hm:ag m<=1000000) (hs:s<=31) :
   VP P G f [W m, .int .i64 (s:Int)] (W (m/2 ^ s)):=by
 refine VP.has h ?_
 have uM:∀ p:Id,jr p 1 4 (.int .u32 0) (.int .i64 (ag m:Int)) (.int .i64 (ag m:Int))=some { val := .osl p 1 0 (ag m) false,up:=[(p,some ⟨us (List.replicate (ag m) 0),1,false⟩)] }:=fun p=>nW (by omega)
 have hz:us (List.replicate (ag m) 0)=us ([]++zs (ag m-0)):=rfl
 have h2s:2 ^ s*2 ^ (32-s)=aE:=by rw [Nat.mul_comm];exact we (by omega)
 simp only [k5,SS,Nat.reduceAdd,bg,uM,hz,aP]
 refine VW.ey (α := Nat × Nat × List Nat) (fun x=>⟨[W m, .int .i64 (s:Int), .top, .top, .top, .osl [3] 1 0 (ag m) false, .int .i64 (x.1:Int)]++List.replicate 38 .top,
   af.put (fun _=>none) [3] (some ⟨us (x.2.2++zs (ag m-x.1)),1,false⟩),x.2.1⟩)
   (fun x=>x.1<=ag m/\x.2.2.length=x.1/\Wd x.2.2/\2 ^ s*val x.2.2+m%2 ^ s=val ((digits m).take x.1)+aE ^ x.1*(((digits m)[x.1]?).getD 0%2 ^ s)) (fun x=>ag m-x.1) (0,1000,[]) ?_ ?_ ?_
 . exact Wk.slots (by simp [Fg,List.replicate]) (by simp only [];omega)
 . refine ⟨Nat.zero_le _,rfl,by intro w hw;simp at hw, ?_⟩
   show 2 ^ s*val []+m%2 ^ s=val ((digits m).take 0)+aE ^ 0*(((digits m)[0]?).getD 0%2 ^ s)
   rw [Ag, <- h2s,Nat.mod_mul_right_mod]
   simp [val]
 rintro ⟨i,nn,o⟩ ⟨hi,ho,hwd,hv⟩
 simp only [] at hi ho hwd hv
 have qQ:i<ag m->decide ((i:Int)<(ag m:Int))=true:=fun h=>ay (by omega)
 have yw : ¬ i<ag m->decide ((i:Int)<(ag m:Int))=false:=fun h=>au (by omega)
 have Mz:i+1<ag m->decide (((i+1:Nat):Int)<(ag m:Int))=true:=fun h=>ay (by omega)
 have MA : ¬ i+1<ag m->decide (((i+1:Nat):Int)<(ag m:Int))=false:=fun h=>au (by omega)
 have dH : ¬ i<ag m->i=ag m:=by omega
 have abX:i<ag m -> ¬ i+1<ag m->i+1=ag m:=by omega
 have tq:=aL i (by omega)
 have jv:i<ag m->i+1<=ag m/\ag m-(i+1)<ag m-i:=fun h=>by omega
 by_cases hlt:i<ag m
 . obtain ⟨x,hx⟩:∃ x,(digits m)[i]? = some x:=⟨_,List.getElem?_eq_getElem hlt⟩
   have sy:=aW m x (List.mem_of_getElem? hx)
   have f0:=bu x sy
   have mY:=cN (q:=[3]) (t:=false) hlt
   obtain ⟨k,hk⟩:∃ k,ag m-i=k+1:=⟨ag m-i-1,by omega⟩
   have ES:ag m-(i+1)=k:=by omega
   have Au:i<(o++0::zs k).length:=by simp;omega
   have hstep:∀ y w,w=x/2 ^ s+2 ^ (32-s)*(y%2 ^ s)->2 ^ s*w+x%2 ^ s=x+aE*(y%2 ^ s)->((digits m)[i+1]?).getD 0=y ->
       2 ^ s*val (o++[w])+m%2 ^ s=val ((digits m).take (i+1))+aE ^ (i+1)*(((digits m)[i+1]?).getD 0%2 ^ s):=by
     intro y w _ hw hy
     rw [hx,Option.getD_some] at hv
     rw [aN hx,cv,ho,hy]
     simp only [val,Nat.mul_zero,Nat.add_zero,Nat.pow_succ]
     have e1:aE ^ i*(2 ^ s*w)+aE ^ i*(x%2 ^ s)=aE ^ i*x+aE ^ i*(aE*(y%2 ^ s)):=by rw [<- Nat.mul_add,hw,Nat.mul_add]
     have e2:2 ^ s*(val o+aE ^ i*w)=2 ^ s*val o+aE ^ i*(2 ^ s*w):=by rw [Nat.mul_add,Nat.mul_left_comm]
     rw [e2,Nat.mul_assoc]
     omega
   by_cases hn:i+1<ag m
   . obtain ⟨y,hy⟩:∃ y,(digits m)[i+1]? = some y:=⟨_,List.getElem?_eq_getElem hn⟩
     have EF:=aW m y (List.mem_of_getElem? hy)
     have f1:=bu y EF
     have f2:=BW y EF
     have f3:=afm x y sy EF
     have f4:=VF (aE*y+x) s (by omega)
     obtain ⟨g1,g2,g3⟩:=Db (y:=y) (s:=s) (by omega) sy
     have f5:IntKind.u32.wrap (((aE*y+x)/2 ^ s:Nat):Int)=((x/2 ^ s+2 ^ (32-s)*(y%2 ^ s):Nat):Int):=by rw [y0,SG (by omega) sy]
     have hv':=hstep y _ rfl g3 (by rw [hy];rfl)
     simp only [SS,Nat.reduceAdd,bg,qQ hlt,di hx,aI,bo,f0,tq,Mz hn,di hy,f1,f2,f3,f4,f5,mY,hk,iX]
     rw [bP (o:=o++0::zs k) (by simp [af.put]) Au,fL _ _ _ _ ho]
     simp only [SS,Nat.reduceAdd,tq]
     refine ⟨(i+1,_,o++[x/2 ^ s+2 ^ (32-s)*(y%2 ^ s)]),⟨(jv hlt).1,by simp [ho],cM hwd (by intro z hz;simp at hz;subst hz;exact g2),hv'⟩,(jv hlt).2,Wk.forget (by simp [Fg]) (fun j => ?_) (Nat.le_refl _)⟩
     simp only [af.put,ES];split<;>simp
   . have Cu:(digits m)[i+1]? = none:=List.getElem?_eq_none (by have:=abX hlt hn;show ag m<=i+1;omega)
     obtain ⟨g1,g2,g3⟩:=Db (y:=0) (s:=s) (by omega) sy
     have e0:x/2 ^ s+2 ^ (32-s)*(0%2 ^ s)=x/2 ^ s:=by simp
     rw [e0] at g2 g3
     have f4:=VF x s (by omega)
     have f5:IntKind.u32.wrap ((x/2 ^ s:Nat):Int)=((x/2 ^ s:Nat):Int):=by rw [y0,Nat.mod_eq_of_lt g2]
     have hv':=hstep 0 (x/2 ^ s) e0.symm g3 (by rw [Cu];rfl)
     simp only [SS,Nat.reduceAdd,bg,qQ hlt,di hx,aI,bo,f0,tq,MA hn,f4,f5,mY,hk,iX]
     rw [bP (o:=o++0::zs k) (by simp [af.put]) Au,fL _ _ _ _ ho]
     simp only [SS,Nat.reduceAdd,tq]
     refine ⟨(i+1,_,o++[x/2 ^ s]),⟨(jv hlt).1,by simp [ho],cM hwd (by intro z hz;simp at hz;subst hz;exact g2),hv'⟩,(jv hlt).2,Wk.forget (by simp [Fg]) (fun j => ?_) (Nat.le_refl _)⟩
     simp only [af.put,ES];split<;>simp
 . have p7:=dH hlt
   have e1:(digits m).take (ag m)=digits m:=List.take_of_length_le (Nat.le_refl _)
   have Cu:(digits m)[ag m]? = none:=List.getElem?_eq_none (Nat.le_refl _)
   have Bp:val o=m/2 ^ s:=by
     rw [p7,e1,aV,Cu] at hv
     have h1:=Nat.div_add_mod m (2 ^ s)
     have h2:2 ^ s*val o=2 ^ s*(m/2 ^ s):=by
       simp at hv;omega
     exact Nat.eq_of_mul_eq_mul_left (Nat.two_pow_pos _) h2
   have hlen:ag m=o.length:=by rw [ho,p7]
   have Ay:=ht o hwd (by omega)
   rw [Bp] at Ay
   have e3:zs (ag m-i)=[]:=by rw [p7,Nat.sub_self];rfl
   simp only [SS,Nat.reduceAdd,bg,yw hlt,e3]
   refine bJ [([3],⟨us o,1,false⟩)] Ay (aG.cons (g7 hlen) aG.nil) (by simp [af.put]) ?_
   simp only [SS,Nat.reduceAdd]
   exact ai▸ae rfl (aB _)
end
end Go.VL
end

section
set_option linter.unusedVariables false
namespace Go.VL
theorem trimmed (b:List Nat) (h:Wd b):∃ z,b=digits (val b)++zs z:=by
 induction hn:b.length generalizing b with
 | zero =>
   obtain rfl:b=[]:=List.length_eq_zero_iff.1 hn
   exact ⟨0,by simp [val,bA,zs]⟩
 | succ k ih =>
   obtain ⟨b',w,rfl,hl⟩:=x8 hn
   by_cases hw:w=0
   . subst hw
     obtain ⟨z,hz⟩:=ih b' (fun w hw=>h w (by simp [hw])) hl
     refine ⟨z+1, ?_⟩
     rw [kV]
     conv=>lhs;rw [hz]
     rw [List.append_assoc];congr 1
     simp [zs,List.replicate_succ']
   . exact ⟨0,by rw [nV h (.inr ⟨w,by simp,hw⟩)];simp [zs]⟩
theorem SH {id:Id} {k off len h:Nat} (h2:h<=len):ek k (.osl id k off len false) none (some (.int .i64 (h:Int))) none=some (.osl id k off h false):=by
 simp [ek,gw,jA,h2]
theorem MS {id:Id} {a b t:List Nat} {f tt:Bool} {n:Nat} (hn:n=b.length):View (af.of [(id,⟨us (a++b++t),1,f⟩)]) (.osl id 1 a.length n tt) (.sl 1 (us b)):=by
 subst hn
 refine View.osl (bk:=⟨us (a++b++t),1,f⟩) (by simp [af.of]) rfl (by simp [gv]) ?_ (by rw [gv]) (C7 b)
 have:((us (a++b++t)).drop a.length).take b.length=us b:=by rw [List.append_assoc,ED,ED, <- gv a,List.drop_left, <- gv b,List.take_left]
 show aG _ (flat (((us (a++b++t)).drop a.length).take b.length)) _
 rw [this]
 exact aG.pure (Ae b)
section
variable {P:Program} {G:Nat->Option (List AV)}
theorem MT {f:FuncId} (h:Has P f gm) {id:Id} {a b t:List Nat} (hw:Wd b) (hl:b.length<=9223372036854775807) (p:Id) :
   aZ P G f [.osl id 1 a.length b.length false] p [(id,⟨us (a++b++t),1,false⟩)] { val := .osl id 1 a.length (ag (val b)) false,rd:=[id],up:=[] }:=by
 refine aZ.has h ?_
 simp only [gm,SS,aP]
 refine VW.ey (α := Nat × Nat) (fun x=>⟨[.osl id 1 a.length x.1 false]++List.replicate 20 .top,af.of [(id,⟨us (a++b++t),1,false⟩)],x.2⟩) (fun x=>x.1<=b.length/\val (b.take x.1)=val b) (fun x=>x.1) (b.length,1) ?_ ⟨Nat.le_refl _,by rw [List.take_length]⟩ ?_
 . exact Wk.slots (by simp [Fg,List.replicate]) (Nat.le_refl _)
 rintro ⟨k,n⟩ ⟨hk,hv⟩
 simp only [] at hk hv
 by_cases h0:k=0
 . subst h0
   have d0:decide ((0:Int)<((0:Nat):Int))=false:=by decide
   have e:ag (val b)=0:=by rw [<- hv];simp [val,ag,bA]
   simp only [SS,Nat.reduceAdd,d0,e]
   exact eI▸bH rfl fun i => .inr rfl
 . have ql:0<k:=Nat.pos_of_ne_zero h0
   have d0:decide ((0:Int)<(k:Int))=true:=ay (by omega)
   have XJ:=uL k ql (by omega)
   obtain ⟨w,hwk⟩:∃ w,b[k-1]? = some w:=⟨b[k-1],by rw [List.getElem?_eq_getElem]⟩
   have htk:b.take k=b.take (k-1)++[w]:=by
     have:=List.take_add_one (l:=b) (i:=k-1)
     rw [hwk,show k-1+1=k from by omega] at this
     simpa using this
   have mY:=pR (q:=id) (off:=a.length) (t:=false) (show k-1<k by omega)
   have hld:=jy (σ := af.of [(id,⟨us (a++b++t),1,false⟩)]) (q:=id) (b:=false) (by simp [af.of]) (x7 (t:=t) (rfl:a.length=a.length) hwk)
   have MP:=SH (id:=id) (k:=1) (off:=a.length) (len:=k) (h:=k-1) (Nat.sub_le _ _)
   by_cases hz:w=0
   . have d1:decide ((w:Int)=0)=true:=ay (by omega)
     simp only [SS,Nat.reduceAdd,d0,XJ,mY,hld,d1,MP]
     refine ⟨(k-1,_),⟨by simp only [];omega, ?_⟩,by simp only [];omega,Wk.slots (by simp [Fg]) (Nat.le_refl _)⟩
     simp only []
     rw [<- hv,htk,hz,kV]
   . have d1:decide ((w:Int)=0)=false:=au (by omega)
     have e:ag (val b)=k:=by
       have e1:digits (val b)=b.take k:=by
         rw [<- hv]
         exact nV (tk hw k) (.inr ⟨w,by rw [htk];simp,hz⟩)
       rw [ag,e1,List.length_take];omega
     simp only [SS,Nat.reduceAdd,d0,XJ,mY,hld,d1,e]
     exact eI▸bH rfl fun i => .inr rfl
set_option maxHeartbeats 1000000 in
theorem SI {f ft:FuncId} (h:Has P f (dX ft)) (ht:iW P G ft) {id:Id} {a t:List Nat} (m n:Nat) (uS:n<=m) (hm:ag m<=1000000) (p:Id) (jZ:∀ x,id≠x::p) :
   aZ P G f [.osl id 1 a.length (ag m) false,W n] p [(id,⟨us (a++digits m++t),1,false⟩)] { val:=W (m-n),rd:=[id],up:=[] }:=by
 refine aZ.has h ?_
 have hwn:=bE uS
 have VG:=jZ 3
 have uM:∀ p:Id,jr p 1 4 (.int .u32 0) (.int .i64 (ag m:Int)) (.int .i64 (ag m:Int))=some { val := .osl p 1 0 (ag m) false,up:=[(p,some ⟨us (List.replicate (ag m) 0),1,false⟩)] }:=fun p=>nW (by omega)
 simp only [dX,SS,Nat.reduceAdd,uM,aP]
 refine VW.ey (α := Nat × Nat × List Nat × Nat) (fun x=>⟨[.osl id 1 a.length (ag m) false,W n, .top, .top, .top, .osl (3::p) 1 0 (ag m) false, .int .u64 (x.2.2.2:Int), .int .i64 (x.1:Int)]++List.replicate 40 .top,
   af.put (af.of [(id,⟨us (a++digits m++t),1,false⟩)]) (3::p) (some ⟨us (x.2.2.1++zs (ag m-x.1)),1,false⟩),x.2.1⟩)
   (fun x=>x.1<=ag m/\x.2.2.1.length=x.1/\Wd x.2.2.1/\x.2.2.2<=1/\val x.2.2.1+val ((digits n).take x.1)=val ((digits m).take x.1)+aE ^ x.1*x.2.2.2) (fun x=>ag m-x.1) (0,1000,[],0) ?_ ?_ ?_
 . exact Wk.slots (by simp [Fg,List.replicate]) (by simp only [];omega)
 . exact ⟨Nat.zero_le _,rfl,by intro w hw;simp at hw,Nat.zero_le _,by simp [val]⟩
 rintro ⟨i,nn,o,c⟩ ⟨hi,ho,hwd,hc,hv⟩
 simp only [] at hi ho hwd hc hv
 have qQ:i<ag m->decide ((i:Int)<(ag m:Int))=true:=fun h=>ay (by omega)
 have yw : ¬ i<ag m->decide ((i:Int)<(ag m:Int))=false:=fun h=>au (by omega)
 have Mz:i<ag n->decide ((i:Int)<(ag n:Int))=true:=fun h=>ay (by omega)
 have MA : ¬ i<ag n->decide ((i:Int)<(ag n:Int))=false:=fun h=>au (by omega)
 have dH : ¬ i<ag m->i=ag m:=by omega
 have tq:=aL i (by omega)
 have jv:i<ag m->i+1<=ag m/\ag m-(i+1)<ag m-i:=fun h=>by omega
 by_cases hlt:i<ag m
 . obtain ⟨x,hx⟩:∃ x,(digits m)[i]? = some x:=⟨_,List.getElem?_eq_getElem hlt⟩
   have sy:=aW m x (List.mem_of_getElem? hx)
   have f1:=bu x sy
   have mY:=cN (q:=3::p) (t:=false) hlt
   have hio:=pR (q:=id) (off:=a.length) (t:=false) hlt
   obtain ⟨k,hk⟩:∃ k,ag m-i=k+1:=⟨ag m-i-1,by omega⟩
   have ES:ag m-(i+1)=k:=by omega
   have Au:i<(o++0::zs k).length:=by simp;omega
   have hld:=jy (σ := af.put (af.of [(id,⟨us (a++digits m++t),1,false⟩)]) (3::p) (some ⟨us (o++0::zs k),1,false⟩)) (q:=id) (b:=false) (by simp [af.of,af.put,VG]) (x7 (t:=t) (rfl:a.length=a.length) hx)
   by_cases hb:i<ag n
   . obtain ⟨y,hy⟩:∃ y,(digits n)[i]? = some y:=⟨_,List.getElem?_eq_getElem hb⟩
     have EF:=aW n y (List.mem_of_getElem? hy)
     have f3:=bu y EF
     obtain ⟨w,c',h1,h2,h3,d,h4,h5,h6⟩:=AB sy EF hc
     have hst:=n8 (va:=val ((digits m).take i)) (vb:=val ((digits n).take i)) (x:=x) (y:=y) (c:=c) (w:=w) (c':=c') ho (by rw [hv];omega) h3
     simp only [SS,Nat.reduceAdd,bg,qQ hlt,hk,iX,hio,hld,bo,f1,Mz hb,di hy,aI,f3,h4,h5,mY]
     rw [bP (o:=o++0::zs k) (by simp [af.put]) Au,fL _ _ _ _ ho]
     simp only [SS,Nat.reduceAdd,pt,h6,tq]
     refine ⟨(i+1,_,o++[w],c'),⟨(jv hlt).1,by simp [ho],cM hwd (by intro z hz;simp at hz;subst hz;exact h1),h2, ?_⟩,(jv hlt).2,Wk.forget (by simp [Fg]) (fun j => ?_) (Nat.le_refl _)⟩
     . show val (o++[w])+val ((digits n).take (i+1))=val ((digits m).take (i+1))+_
       rw [aN hx,aN hy];exact hst
     . simp only [af.put,ES];split<;>simp
   . obtain ⟨w,c',h1,h2,h3,d,h4,h5,h6⟩:=AB (y:=0) sy cW hc
     have h4':IntKind.u64.wrap (IntKind.u64.wrap (IntKind.u64.wrap ((x:Int)+4294967296)-0)-(c:Int))=(d:Int):=h4
     have hst:=n8 (va:=val ((digits m).take i)) (vb:=val ((digits n).take i)) (x:=x) (y:=0) (c:=c) (w:=w) (c':=c') ho (by rw [hv];omega) h3
     rw [Nat.mul_zero,Nat.add_zero] at hst
     simp only [SS,Nat.reduceAdd,bg,qQ hlt,hk,iX,hio,hld,f1,MA hb,h4',h5,mY]
     rw [bP (o:=o++0::zs k) (by simp [af.put]) Au,fL _ _ _ _ ho]
     simp only [SS,Nat.reduceAdd,pt,h6,tq]
     refine ⟨(i+1,_,o++[w],c'),⟨(jv hlt).1,by simp [ho],cM hwd (by intro z hz;simp at hz;subst hz;exact h1),h2, ?_⟩,(jv hlt).2,Wk.forget (by simp [Fg]) (fun j => ?_) (Nat.le_refl _)⟩
     . show val (o++[w])+val ((digits n).take (i+1))=val ((digits m).take (i+1))+_
       rw [aN hx,jn (show (digits n).length<=i from by show ag n<=i;omega)];exact hst
     . simp only [af.put,ES];split<;>simp
 . have p7:=dH hlt
   have e1:(digits m).take (ag m)=digits m:=List.take_of_length_le (Nat.le_refl _)
   have e2:(digits n).take (ag m)=digits n:=List.take_of_length_le (by show ag n<=ag m;omega)
   have Bp:val o=m-n:=by
     rw [p7,e1,e2,aV,aV] at hv
     have y9:=mO hwd
     rw [ho,p7] at y9
     rcases Nat.eq_zero_or_pos c with h0 | h0
     . subst h0;omega
     . have:c=1:=by omega
       subst this;have:=cV m;omega
   have y5:ag m=o.length:=by omega
   have e3:zs (ag m-i)=[]:=by rw [p7,Nat.sub_self];rfl
   have Ay:=ht o hwd (by omega)
   rw [Bp] at Ay
   simp only [SS,Nat.reduceAdd,yw hlt,e3]
   refine bJ [(3::p,⟨us o,1,false⟩)] Ay (aG.cons (g7 y5) aG.nil) (by simp [af.put]) ?_
   simp only [SS,Nat.reduceAdd]
   refine eI▸bH rfl fun i => ?_
   by_cases e:i=id
   . subst e;right;simp [af.app,E6,af.put,af.of,VG]
   . left;simp [af.app,af.of,List.lookup,show (i==id)=false from by simpa using e]
end
end Go.VL
end

section
set_option linter.unusedVariables false
namespace Go.VL
theorem VH {num h V D x0 M u' l v':Nat} (h0:0<h) (hV:V=(h*aE+l)*M+v') (hD:D=(num*aE+x0)*M+u') (hx:x0<aE) (hu:u'<M) (XL:D/V<aE):D/V<=min (num/h) (aE-1):=by
 have:=ML h0 hV hD hx hu
 omega
section
variable {P:Program} {G:Nat->Option (List AV)}
set_option maxHeartbeats 1000000 in
theorem SJ {f ft fti fc fm:FuncId} (h:Has P f (gP fti ft fc fm)) (Ft:∀ (m:Nat) (ws:List Nat),Wd ws->ag m<=1000000->ws.length<=1000000->VP P G fti [W m, .sl 1 (us ws)] (W (m*val ws)))
   (htr:Has P ft gm) (hc:∀ m n,ag m<=1000000->ag n<=1000000->VP P G fc [W m,W n] (.int .i64 (fY m n))) (hmi:∀ m n,n<=m->ag m<=1000000->VP P G fm [W m,W n] (W (m-n)))
   {id:Id} {a b t:List Nat} {V k:Nat} (hV:ag V=k+2) (hb:b.length=k+3) (Lp:Wd b) (hDV:val b<aE*V) (hk:k<=900000) (p:Id) (jZ:∀ x,id≠x::p) :
   aZ P G f [.osl id 1 a.length (k+3) false,W V] p [(id,⟨us (a++b++t),1,false⟩)] { val := .tup [.int .u32 ((val b/V:Nat):Int),W (V*(val b/V))],rd:=[id],up:=[] }:=by
 refine aZ.has h ?_
 obtain ⟨hh,Vw⟩:∃ y,(digits V)[k+1]? = some y:=⟨_,List.getElem?_eq_getElem (by show k+1<ag V;omega)⟩
 obtain ⟨ll,llg⟩:∃ y,(digits V)[k]? = some y:=⟨_,List.getElem?_eq_getElem (by show k<ag V;omega)⟩
 have hhB:=aW V hh (List.mem_of_getElem? Vw)
 obtain ⟨hVV,hvM⟩:=ae6 (aW V) hV Vw llg
 rw [aV] at hVV
 obtain ⟨hh0,_,_,_,_⟩:=Di (k:=k+1) hV Vw
 have XK:0<V:=by
   rcases Nat.eq_zero_or_pos V with e | e
   . rw [e] at hDV;omega
   . exact e
 obtain ⟨x2,hx2⟩:∃ z,b[k+2]? = some z:=⟨_,List.getElem?_eq_getElem (by omega)⟩
 obtain ⟨x1,Ic⟩:∃ z,b[k+1]? = some z:=⟨_,List.getElem?_eq_getElem (by omega)⟩
 obtain ⟨z0,OA⟩:∃ z,b[k]? = some z:=⟨_,List.getElem?_eq_getElem (by omega)⟩
 have OM:=Lp x2 (List.mem_of_getElem? hx2)
 have Vy:=Lp x1 (List.mem_of_getElem? Ic)
 have Vz:=Lp z0 (List.mem_of_getElem? OA)
 obtain ⟨hD,huM⟩:=ae7 Lp hb hx2 Ic OA
 rw [show x2*aE+x1=aE*x2+x1 from by rw [Nat.mul_comm]] at hD
 obtain ⟨num,HH⟩:∃ z,z=aE*x2+x1:=⟨_,rfl⟩
 rw [<- HH] at hD
 have QY:num<18446744073709551616:=by rw [HH];unfold aE at *;omega
 have XL:val b/V<aE:=Nat.div_lt_of_lt_mul (by rw [Nat.mul_comm];exact hDV)
 have KP:=VH hh0 hVV hD Vz huM XL
 have io2:=pR (q:=id) (off:=a.length) (t:=false) (show k+2<k+3 by omega)
 have io1:=pR (q:=id) (off:=a.length) (t:=false) (show k+1<k+3 by omega)
 have ld2:=jy (σ := af.of [(id,⟨us (a++b++t),1,false⟩)]) (q:=id) (b:=false) (by simp [af.of]) (x7 (t:=t) (rfl:a.length=a.length) hx2)
 have ld1:=jy (σ := af.of [(id,⟨us (a++b++t),1,false⟩)]) (q:=id) (b:=false) (by simp [af.of]) (x7 (t:=t) (rfl:a.length=a.length) Ic)
 have w2:=bu x2 OM
 have w1:=bu x1 Vy
 have w0:=bu hh hhB
 have s2:=BW x2 OM
 have o2:=JH x2 x1 OM Vy
 rw [<- HH] at o2
 have q1:=JI num hh QY (by omega)
 have p1:IntKind.i64.wrap (((k+2:Nat):Int)-1)=((k+1:Nat):Int):=by rw [IntKind.wrap_i64];omega
 have hwD:ag (val b)<=1000000:=by
   have h1:=mO Lp
   rw [hb] at h1
   have:=fK h1;omega
 have htm:=MT (G:=G) htr (id:=id) (a:=a) (b:=b) (t:=t) Lp (by omega)
 rw [hb] at htm
 obtain ⟨z,hz⟩:=trimmed b Lp
 have il:View (af.of [(id,⟨us (a++b++t),1,false⟩)]) (.osl id 1 a.length (ag (val b)) false) (W (val b)):=by
   have:a++b++t=a++digits (val b)++(zs z++t):=by
     conv=>lhs;rw [hz]
     simp
   rw [this]
   exact MS rfl
 have VG:∀ x,id≠x::p:=jZ
 simp only [gP,SS,DD,Nat.reduceAdd,bg,hV,io2,io1,ld2,ld1,w2,w1,s2,o2,p1,di Vw,aI,bo,w0,q1]
 refine ⟨by simp [ab], ?_⟩
 by_cases afp:(4294967295<num/hh)
 . have d1:decide ((4294967295:Int)<((num/hh:Nat):Int))=true:=by first | exact ay (by omega) | exact au (by omega)
   obtain ⟨q0,XM⟩:∃ q0:Nat,q0=4294967295:=⟨_,rfl⟩
   have OQ:q0<aE:=by unfold aE;omega
   have acv:val b/V<=q0:=by unfold aE at KP;omega
   have f3:IntKind.u32.wrap (q0:Int)=(q0:Int):=by rw [y0,Nat.mod_eq_of_lt OQ]
   have yY:∀ (σ : af) (q:Id),bO σ q (.buildSl 1 1 (.int .u32 0) [(0, .int .u32 (q0:Int))])=some { val := .osl q 1 0 1 false,up:=[(q,some ⟨us [q0],1,false⟩)] }:=fun σ q=>C9
   have Vx:=Ft V [q0] (by intro w hw;simp at hw;subst hw;exact OQ) (by omega) (by simp)
   rw [show val [q0]=q0 from by simp [val]] at Vx
   have f3q:IntKind.u32.wrap 4294967295=(q0:Int):=by rw [<- f3,XM];try rfl
   simp only [SS,Nat.reduceAdd,d1,f3q,yY]
   refine bJ [(32::p,⟨us [q0],1,false⟩)] Vx (aG.cons (View.pure (aB _)) (aG.cons (g7 rfl) aG.nil)) (by simp [af.put]) ?_
   simp only [SS,Nat.reduceAdd,aP]
   refine VW.ey (α := Nat × Nat) (fun x=>⟨[.osl id 1 a.length (k+3) false,W V, .top, .top, .top, .top, .top, .int .u64 (x.1:Int),W (V*x.1)]++List.replicate 42 .top,af.of [(id,⟨us (a++b++t),1,false⟩)],x.2⟩)
     (fun x=>val b/V<=x.1/\x.1<aE) (fun x=>x.1) (q0,1000) ?_ ?_ ?_
   . refine Wk.forget (by simp [Fg,List.replicate,XM]) (fun j => ?_) (by simp only [];omega)
     by_cases e:j=id
     . subst e;right;simp [af.app,E6,af.put,af.of,VG]
     . left;simp [af.of,List.lookup,show (j==id)=false from by simpa using e]
   . exact ⟨acv,OQ⟩
   rintro ⟨q,nn⟩ ⟨YJ,Sb⟩
   simp only [] at YJ Sb
   have hwq:ag (V*q)<=1000000:=by
     have h1:=Ad V q
     have h2:ag q<=1:=fK (by simpa using Sb)
     omega
   have hcv:=hc (val b) (V*q) hwD hwq
   simp only [SS,Nat.reduceAdd]
   refine ⟨[(id,⟨us (a++b++t),1,false⟩)],_,htm _,by simp [af.of],by simp, ?_⟩
   simp only [SS,Nat.reduceAdd]
   refine Fa [(id,⟨us (a++b++t),1,false⟩)] hcv (aG.cons il (aG.cons (View.pure (aB _)) aG.nil)) (fun _ _ _ _ _ h=>by simpa [aT] using h) (by simp [af.of]) ?_
   by_cases hlt:val b<V*q
   . have d2:decide (fY (val b) (V*q)<0)=true:=ay (by simp only [fY,jm];rw [if_pos (by omega)];decide)
     have hqp:1<=q:=by
       rcases Nat.eq_zero_or_pos q with e | e
       . rw [e] at hlt;omega
       . exact e
     have hle:val b/V<=q-1:=by
       have:=(Nat.div_lt_iff_lt_mul XK).2 (by rw [Nat.mul_comm] at hlt;exact hlt)
       omega
     have pq:IntKind.u64.wrap ((q:Int)-1)=((q-1:Nat):Int):=by rw [IntKind.wrap_u64];unfold aE at Sb;omega
     have Sx:=hmi (V*q) V (Nat.le_mul_of_pos_right _ hqp) hwq
     have em:V*q-V=V*(q-1):=by rw [Nat.mul_sub,Nat.mul_one]
     rw [em] at Sx
     simp only [SS,Nat.reduceAdd,d2,pq]
     refine ah Sx (by simp [aB]) ?_
     simp only [SS,Nat.reduceAdd]
     exact ⟨(q-1,_),⟨hle,by simp only [];omega⟩,by simp only [];omega,Wk.slots (by simp [Fg]) (Nat.le_refl _)⟩
   . have d2:decide (fY (val b) (V*q)<0)=false:=au (by simp only [fY,jm];rw [if_neg (by omega)];split<;>decide)
     have YM:q=val b/V:=by
       have:=(Nat.le_div_iff_mul_le XK).2 (show q*V<=val b by rw [Nat.mul_comm];omega)
       omega
     have f4:IntKind.u32.wrap (q:Int)=(q:Int):=by rw [y0,Nat.mod_eq_of_lt Sb]
     simp only [SS,Nat.reduceAdd,d2,f4]
     rw [<- YM]
     exact eI▸bH rfl fun i => .inr rfl
 by_cases acw:(¬ 4294967295<num/hh)
 . have d1:decide ((4294967295:Int)<((num/hh:Nat):Int))=false:=by first | exact ay (by omega) | exact au (by omega)
   obtain ⟨q0,XM⟩:∃ q0:Nat,q0=(num/hh):=⟨_,rfl⟩
   have OQ:q0<aE:=by unfold aE;omega
   have acv:val b/V<=q0:=by unfold aE at KP;omega
   have f3:IntKind.u32.wrap (q0:Int)=(q0:Int):=by rw [y0,Nat.mod_eq_of_lt OQ]
   have yY:∀ (σ : af) (q:Id),bO σ q (.buildSl 1 1 (.int .u32 0) [(0, .int .u32 (q0:Int))])=some { val := .osl q 1 0 1 false,up:=[(q,some ⟨us [q0],1,false⟩)] }:=fun σ q=>C9
   have Vx:=Ft V [q0] (by intro w hw;simp at hw;subst hw;exact OQ) (by omega) (by simp)
   rw [show val [q0]=q0 from by simp [val]] at Vx
   have f3q:IntKind.u32.wrap ((num/hh:Nat):Int)=(q0:Int):=by rw [<- f3,XM];try rfl
   simp only [SS,Nat.reduceAdd,d1,f3q,yY]
   refine bJ [(31::p,⟨us [q0],1,false⟩)] Vx (aG.cons (View.pure (aB _)) (aG.cons (g7 rfl) aG.nil)) (by simp [af.put]) ?_
   simp only [SS,Nat.reduceAdd,aP]
   refine VW.ey (α := Nat × Nat) (fun x=>⟨[.osl id 1 a.length (k+3) false,W V, .top, .top, .top, .top, .top, .int .u64 (x.1:Int),W (V*x.1)]++List.replicate 42 .top,af.of [(id,⟨us (a++b++t),1,false⟩)],x.2⟩)
     (fun x=>val b/V<=x.1/\x.1<aE) (fun x=>x.1) (q0,1000) ?_ ?_ ?_
   . refine Wk.forget (by simp [Fg,List.replicate,XM]) (fun j => ?_) (by simp only [];omega)
     by_cases e:j=id
     . subst e;right;simp [af.app,E6,af.put,af.of,VG]
     . left;simp [af.of,List.lookup,show (j==id)=false from by simpa using e]
   . exact ⟨acv,OQ⟩
   rintro ⟨q,nn⟩ ⟨YJ,Sb⟩
   simp only [] at YJ Sb
   have hwq:ag (V*q)<=1000000:=by
     have h1:=Ad V q
     have h2:ag q<=1:=fK (by simpa using Sb)
     omega
   have hcv:=hc (val b) (V*q) hwD hwq
   simp only [SS,Nat.reduceAdd]
   refine ⟨[(id,⟨us (a++b++t),1,false⟩)],_,htm _,by simp [af.of],by simp, ?_⟩
   simp only [SS,Nat.reduceAdd]
   refine Fa [(id,⟨us (a++b++t),1,false⟩)] hcv (aG.cons il (aG.cons (View.pure (aB _)) aG.nil)) (fun _ _ _ _ _ h=>by simpa [aT] using h) (by simp [af.of]) ?_
   by_cases hlt:val b<V*q
   . have d2:decide (fY (val b) (V*q)<0)=true:=ay (by simp only [fY,jm];rw [if_pos (by omega)];decide)
     have hqp:1<=q:=by
       rcases Nat.eq_zero_or_pos q with e | e
       . rw [e] at hlt;omega
       . exact e
     have hle:val b/V<=q-1:=by
       have:=(Nat.div_lt_iff_lt_mul XK).2 (by rw [Nat.mul_comm] at hlt;exact hlt)
       omega
     have pq:IntKind.u64.wrap ((q:Int)-1)=((q-1:Nat):Int):=by rw [IntKind.wrap_u64];unfold aE at Sb;omega
     have Sx:=hmi (V*q) V (Nat.le_mul_of_pos_right _ hqp) hwq
     have em:V*q-V=V*(q-1):=by rw [Nat.mul_sub,Nat.mul_one]
     rw [em] at Sx
     simp only [SS,Nat.reduceAdd,d2,pq]
     refine ah Sx (by simp [aB]) ?_
     simp only [SS,Nat.reduceAdd]
     exact ⟨(q-1,_),⟨hle,by simp only [];omega⟩,by simp only [];omega,Wk.slots (by simp [Fg]) (Nat.le_refl _)⟩
   . have d2:decide (fY (val b) (V*q)<0)=false:=au (by simp only [fY,jm];rw [if_neg (by omega)];split<;>decide)
     have YM:q=val b/V:=by
       have:=(Nat.le_div_iff_mul_le XK).2 (show q*V<=val b by rw [Nat.mul_comm];omega)
       omega
     have f4:IntKind.u32.wrap (q:Int)=(q:Int):=by rw [y0,Nat.mod_eq_of_lt Sb]
     simp only [SS,Nat.reduceAdd,d2,f4]
     rw [<- YM]
     exact eI▸bH rfl fun i => .inr rfl
 exact absurd afp acw
end
end Go.VL
end
