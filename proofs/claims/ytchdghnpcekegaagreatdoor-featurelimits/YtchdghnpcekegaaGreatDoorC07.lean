/- For the claim of FeatureLimits: parts KD, KE, VL31, CI24, CR1, CR2, CR3, CR4, CR5, CR6, CR7. -/
import Derived.Test.YtchdghnpcekegaaGreatDoorC05
import Derived.Test.YtchdghnpcekegaaGreatDoorC06
import Derived.Test.YtchdghnpcekegaaGreatDoorC04
set_option linter.unusedSimpArgs false
set_option linter.unusedVariables false
section
namespace Go.VL
section
variable {b M h l v' V num u2 u' U:Nat}
theorem adQ (hV:V=(h*b+l)*M+v'):V=h*(b*M)+l*M+v':=by rw [hV,Nat.add_mul,Nat.mul_assoc]
theorem ag8 (hU:U=(num*b+u2)*M+u'):U=num*(b*M)+u2*M+u':=by rw [hU,Nat.add_mul,Nat.mul_assoc]
theorem adR (h2:u2<b) (h1:u'<M):u2*M+u'<b*M:=by
 have:(u2+1)*M<=b*M:=Nat.mul_le_mul_right _ h2
 rw [Nat.add_mul] at this;omega
theorem LY (h0:0<h) (hV:V=(h*b+l)*M+v') (hU:U=(num*b+u2)*M+u') (h2:u2<b) (h1:u'<M):U/V<=num/h:=by
 have hbM:=adR h2 h1
 have eV:=adQ hV
 have eU:=ag8 hU
 have SR:0<V:=by
   have:1*(b*M)<=h*(b*M):=Nat.mul_le_mul_right _ h0
   omega
 refine Nat.le_of_lt_succ ((Nat.div_lt_iff_lt_mul SR).2 ?_)
 have hq:num+1<=(num/h+1)*h:=by rw [Nat.mul_comm];exact Nat.lt_mul_div_succ num h0
 have h3:(num/h+1)*(h*(b*M))<=(num/h+1)*V:=Nat.mul_le_mul_left _ (by omega)
 have h4:(num+1)*(b*M)<=(num/h+1)*h*(b*M):=Nat.mul_le_mul_right _ hq
 rw [Nat.mul_assoc] at h4
 rw [Nat.add_mul] at h4
 show U<(num/h+1)*V
 omega
theorem Xx {q r:Nat} (hV:V=(h*b+l)*M+v') (hU:U=(num*b+u2)*M+u') (h1:u'<M) (hq:q*h+r=num) (ht:r*b+u2<q*l):U/V<=q-1:=by
 have h3:num*b+u2+1<=q*(h*b+l):=by
   rw [<- hq,Nat.add_mul,Nat.mul_add, <- Nat.mul_assoc];omega
 have h4:(num*b+u2+1)*M<=q*(h*b+l)*M:=Nat.mul_le_mul_right _ h3
 have h5:U<q*V:=by
   rw [hV,Nat.mul_add, <- Nat.mul_assoc]
   rw [Nat.add_mul] at h4
   omega
 have SR:0<V:=by
   rcases Nat.eq_zero_or_pos V with e | e
   . rw [e] at h5;simp at h5
   . exact e
 have:=(Nat.div_lt_iff_lt_mul SR).2 h5
 omega
theorem PZ {q r:Nat} (h0:0<h) (hV:V=(h*b+l)*M+v') (hU:U=(num*b+u2)*M+u') (hv:v'<M) (hqb:q<b) (hq:q*h+r=num) (ht:q*l<=r*b+u2):q<=U/V+1:=by
 have h3:q*(h*b+l)<=num*b+u2:=by
   rw [<- hq,Nat.add_mul,Nat.mul_add, <- Nat.mul_assoc];omega
 have h4:q*(h*b+l)*M<=(num*b+u2)*M:=Nat.mul_le_mul_right _ h3
 have h5:q*v'<=b*M:=by
   have a1:q*v'<=b*v':=Nat.mul_le_mul_right _ (Nat.le_of_lt hqb)
   have a2:b*v'<=b*M:=Nat.mul_le_mul_left _ (Nat.le_of_lt hv)
   omega
 have eV:=adQ hV
 have h6:1*(b*M)<=h*(b*M):=Nat.mul_le_mul_right _ h0
 have h7:q*V<=U+V:=by
   have:q*V=q*(h*b+l)*M+q*v':=by rw [hV,Nat.mul_add, <- Nat.mul_assoc]
   omega
 rcases Nat.eq_zero_or_pos q with e | e
 . rw [e];exact Nat.zero_le _
 . have h8:(q-1)*V<=U:=by
     have:q*V=(q-1)*V+V:=by
       have:=Nat.sub_add_cancel e
       calc q*V=(q-1+1)*V:=by rw [this]
         _=(q-1)*V+V:=by rw [Nat.add_mul,Nat.one_mul]
     omega
   have SR:0<V:=by
     have hM:0<M:=by omega
     have:0<b*M:=Nat.mul_pos (by omega) hM
     omega
   have:=(Nat.le_div_iff_mul_le SR).2 h8
   omega
theorem Uj {q r:Nat} (hn:num<(h+1)*b) (hl:l<b) (hq:q*h+r=num) (hr:b<=r):q<b/\q*l<=r*b+u2:=by
 have hqb:q<b:=by
   rw [Nat.add_mul,Nat.one_mul] at hn
   have h1:q*h<b*h:=by rw [Nat.mul_comm b h];omega
   exact Nat.lt_of_mul_lt_mul_right h1
 refine ⟨hqb, ?_⟩
 have h1:q*l<=b*b:=Nat.mul_le_mul (Nat.le_of_lt hqb) (Nat.le_of_lt hl)
 have h2:b*b<=r*b:=Nat.mul_le_mul_right _ hr
 omega
theorem aa5 {q:Nat} (SR:0<V) (hle:U/V<=q) (ZI:q<=U/V+1):(U<q*V/\q=U/V+1∨q*V<=U/\q=U/V):=by
 by_cases h:U<q*V
 . left
   have:=(Nat.div_lt_iff_lt_mul SR).2 h
   exact ⟨h,by omega⟩
 . right
   have:=(Nat.le_div_iff_mul_le SR).2 (Nat.le_of_not_lt h)
   exact ⟨by omega,by omega⟩
end
end Go.VL
end

section
namespace Go.VL
theorem adS {ds:List Nat} {j h l:Nat} (hw:Wd ds) (hl:ds.length=j+2) (h1:ds[j+1]? = some h) (h0:ds[j]? = some l) :
   val ds=(h*aE+l)*aE ^ j+val (ds.take j)/\val (ds.take j)<aE ^ j:=by
 have e1:=aM h1
 have e0:=aM h0
 have e2:ds.take (j+1+1)=ds:=List.take_of_length_le (by omega)
 have h3:=mA (sN hw j)
 rw [List.length_take,Nat.min_eq_left (by omega)] at h3
 rw [e2,e0] at e1
 refine ⟨?_,h3⟩
 have e4:(h*aE+l)*aE ^ j=aE ^ (j+1)*h+aE ^ j*l:=by
   rw [Nat.add_mul,Nat.pow_succ,Nat.mul_comm l,Nat.mul_assoc,Nat.mul_comm h,Nat.mul_comm aE]
 omega
theorem adT {ds:List Nat} {j x2 x1 x0:Nat} (hw:Wd ds) (hl:ds.length=j+3) (h2:ds[j+2]? = some x2) (h1:ds[j+1]? = some x1) (h0:ds[j]? = some x0) :
   val ds=((x2*aE+x1)*aE+x0)*aE ^ j+val (ds.take j)/\val (ds.take j)<aE ^ j:=by
 have e2:=aM h2
 have e1:=aM h1
 have e0:=aM h0
 have e3:ds.take (j+2+1)=ds:=List.take_of_length_le (by omega)
 have h3:=mA (sN hw j)
 rw [List.length_take,Nat.min_eq_left (by omega)] at h3
 rw [e3,e1,e0] at e2
 refine ⟨?_,h3⟩
 have e4:((x2*aE+x1)*aE+x0)*aE ^ j=aE ^ (j+2)*x2+aE ^ (j+1)*x1+aE ^ j*x0:=by
   rw [Nat.add_mul,Nat.add_mul,Nat.add_mul,Nat.mul_comm x0]
   have a:aE ^ (j+1)*x1=x1*aE*aE ^ j:=by rw [Nat.pow_succ,Nat.mul_comm,Nat.mul_assoc,Nat.mul_comm aE]
   have b:aE ^ (j+2)*x2=x2*aE*aE*aE ^ j:=by
     have e:aE ^ (j+2)=aE ^ j*aE*aE:=by rw [show j+2=j+1+1 from rfl,Nat.pow_succ,Nat.pow_succ]
     rw [e]
     generalize aE ^ j=Y
     generalize aE=Z
     simp only [Nat.mul_comm,Nat.mul_left_comm]
   omega
 omega
theorem P0 {x:Nat} (h:x<aE) (h0:0<x):1<=iC x/\iC x<=32:=by
 obtain ⟨a,b⟩:=Cr h h0
 constructor
 . rcases Nat.eq_zero_or_pos (iC x) with e | e
   . rw [e] at a;simp at a;omega
   . exact e
 . have h2:2 ^ iC x<2 ^ 33:=by unfold aE at h;omega
   have:=(Nat.pow_lt_pow_iff_right (by decide:1<2)).1 h2
   omega
theorem Cu {n x k:Nat} (hk:ag n=k+1) (hx:(digits n)[k]? = some x) :
   0<x/\x<aE/\n*2 ^ (32-iC x)<aE ^ (k+1)/\ag (n*2 ^ (32-iC x))=k+1/\32-iC x<=31:=by
 have rX:=aX n x (List.mem_of_getElem? hx)
 have HU:0<x:=by
   rcases zf (n:=n) with h | ⟨w,h,hw⟩
   . rw [h] at hx;simp at hx
   . rw [List.getLast?_eq_getElem?,show (digits n).length-1=k from by show ag n-1=k;omega,hx] at h
     simp only [Option.some.injEq] at h;omega
 obtain ⟨ye,C1⟩:=P0 rX HU
 have Bl:=(Cr rX HU).1
 have e:=aM hx
 rw [List.take_of_length_le (show (digits n).length<=k+1 from by show ag n<=k+1;omega),aU] at e
 have h3:=mA (sN (aX n) k)
 rw [List.length_take,Nat.min_eq_left (show k<=(digits n).length from by show k<=ag n;omega)] at h3
 have h4:n+1<=aE ^ k*2 ^ iC x:=by
   have:aE ^ k*(x+1)<=aE ^ k*2 ^ iC x:=Nat.mul_le_mul_left _ Bl
   rw [Nat.mul_add] at this;omega
 have h5:(n+1)*2 ^ (32-iC x)<=aE ^ (k+1):=by
   have:=Nat.mul_le_mul_right (2 ^ (32-iC x)) h4
   rw [Nat.mul_assoc, <- Nat.pow_add,show iC x+(32-iC x)=32 from by omega] at this
   rw [Nat.pow_succ];exact this
 have hp:=Nat.two_pow_pos (32-iC x)
 have h6:n*2 ^ (32-iC x)<aE ^ (k+1):=by rw [Nat.add_mul] at h5;omega
 refine ⟨HU,rX,h6, ?_,by omega⟩
 have h7:=fC h6
 have h8:ag n<=ag (n*2 ^ (32-iC x)):=bE (Nat.le_mul_of_pos_right _ hp)
 omega
theorem adU {x R V:Nat} (hx:x<aE) (hR:R<V):x+aE*R<aE*V/\(x+aE*R)/V<aE:=by
 have:aE*(R+1)<=aE*V:=Nat.mul_le_mul_left _ hR
 have h:x+aE*R<aE*V:=by rw [Nat.mul_add] at this;omega
 exact ⟨h,Nat.div_lt_of_lt_mul (by rw [Nat.mul_comm V];exact h)⟩
theorem aa6 {num u2 M u' h l v' V D:Nat} (hl:l<aE) (hv:v'<M) (hV:V=(h*aE+l)*M+v') (hD:D=(num*aE+u2)*M+u') (hlt:D<aE*V):num<(h+1)*aE:=by
 have h1:V<(h+1)*aE*M:=by
   have:(h*aE+l+1)*M<=(h+1)*aE*M:=Nat.mul_le_mul_right _ (by rw [Nat.add_mul];omega)
   rw [Nat.add_mul,Nat.one_mul] at this;omega
 have h2:num*(aE*M)<=D:=by
   have:num*aE*M<=(num*aE+u2)*M:=Nat.mul_le_mul_right _ (by omega)
   rw [Nat.mul_assoc] at this;omega
 have h3:aE*V<(h+1)*aE*(aE*M):=by
   have:=Nat.mul_lt_mul_of_pos_left h1 cV
   rw [Nat.mul_left_comm] at this;exact this
 exact Nat.lt_of_mul_lt_mul_right (a:=aE*M) (by omega)
theorem LZ {U a0 i x O V R q r:Nat} (hU:U=a0+aE ^ i*x+aE ^ (i+1)*(O*V+R)) (hD:x+aE*R=q*V+r):U=a0+aE ^ i*((q+aE*O)*V+r):=by
 have e:aE ^ (i+1)*(O*V+R)=aE ^ i*(aE*(O*V))+aE ^ i*(aE*R):=by
   rw [Nat.pow_succ,Nat.mul_assoc, <- Nat.mul_add, <- Nat.mul_add]
 have e2:aE ^ i*((q+aE*O)*V+r)=aE ^ i*(q*V+r)+aE ^ i*(aE*(O*V)):=by
   rw [<- Nat.mul_add,Nat.add_mul,Nat.mul_assoc];congr 1;omega
 rw [hU,e,e2, <- hD,Nat.mul_add];omega
theorem JZ {k r:Nat} (h:r<aE ^ k):pad (k+1) r=pad k r++[0]:=by
 have e1:val (pad k r++[0])=r:=by rw [kM,fQ h]
 have e2:(pad k r++[0]).length=k+1:=by simp [kA]
 have h1:=A3 (cM (rR k r) (b:=[0]) (fun z hz=>by rw [List.mem_singleton.1 hz];exact cV))
 rw [e1,e2] at h1
 exact h1
theorem Uk {k D V q:Nat} (h:D%V<aE ^ k) (hq:q=D/V):pad (k+1) (D+aE ^ (k+1)-q*V)=pad k (D%V)++[0]:=by
 have h1:=Nat.mod_add_div D V
 rw [Nat.mul_comm] at h1
 have:D+aE ^ (k+1)-q*V=D%V+aE ^ (k+1)*1:=by rw [hq];omega
 rw [this,Fi,JZ h]
theorem Ul {k D V q:Nat} (h0:0<V) (h:D%V<aE ^ k) (hV:V<aE ^ k) (hq:q=D/V+1):pad (k+1) (val (pad (k+1) (D+aE ^ (k+1)-q*V))+V)=pad k (D%V)++[0]:=by
 have h1:=Nat.mod_add_div D V
 rw [Nat.mul_comm] at h1
 have e:q*V=D/V*V+V:=by rw [hq,Nat.add_mul,Nat.one_mul]
 have h2:aE ^ k<=aE ^ (k+1):=Nat.pow_le_pow_right cV (by omega)
 have h3:D%V<V:=Nat.mod_lt _ h0
 rw [fQ (by omega)]
 have:D+aE ^ (k+1)-q*V+V=D%V+aE ^ (k+1)*1:=by omega
 rw [this,Fi,JZ h]
theorem L1 {m s V N k c A R:Nat} (hN:V=N*2 ^ s) (hNk:aE ^ (k-1)<=N) (hm:m<aE ^ (c+(k-1))) (hU:m*2 ^ s=A+aE ^ c*R):R<V:=by
 rcases Nat.lt_or_ge R V with h | h
 . exact h
 . exfalso
   have h1:aE ^ c*V<=aE ^ c*R:=Nat.mul_le_mul_left _ h
   have h2:aE ^ c*(aE ^ (k-1)*2 ^ s)<=aE ^ c*V:=by rw [hN];exact Nat.mul_le_mul_left _ (Nat.mul_le_mul_right _ hNk)
   rw [<- Nat.mul_assoc, <- Nat.pow_add] at h2
   have h3:=Nat.mul_lt_mul_of_pos_right hm (Nat.two_pow_pos s)
   omega
theorem aa7 {q r num h l u2 M u' v' V D:Nat} (hl:l<aE) (hvM:v'<M) (huM:u'<M) (h0:0<h) (hV:V=(h*aE+l)*M+v') (hD:D=(num*aE+u2)*M+u') (hlt:D<aE*V) (hdB:D/V<aE)
   (hq:q*h+r=num) (hle:D/V<=q) (ht:aE<=q∨r*aE+u2<q*l):1<=q/\D/V<=q-1/\(q-1)*h+(r+h)=num/\(aE<=r+h->q-1<aE/\q-1<=D/V+1):=by
 have hq1:1<=q:=by
   rcases Nat.eq_zero_or_pos q with e | e
   . subst e
     rcases ht with h1 | h1
     . unfold aE at h1;omega
     . simp at h1
   . exact e
 have ag9:D/V<=q-1:=by
   rcases ht with h1 | h1
   . omega
   . exact Xx hV hD huM hq h1
 have hs:(q-1)*h+(r+h)=num:=by
   obtain ⟨p,rfl⟩:∃ p,q=p+1:=⟨q-1,by omega⟩
   rw [Nat.add_mul] at hq
   simp only [Nat.add_sub_cancel];omega
 refine ⟨hq1,ag9,hs,fun hb => ?_⟩
 obtain ⟨a,c⟩:=Uj (u2:=u2) (aa6 hl hvM hV hD hlt) hl hs hb
 exact ⟨a,PZ h0 hV hD hvM a hs c⟩
theorem P1 {m n s O r:Nat} (_hn:n≠0) (hU:m*2 ^ s=O*(n*2 ^ s)+r) (hr:r<n*2 ^ s):O=m/n/\r/2 ^ s=m%n/\ag r<=ag (n*2 ^ s):=by
 have hp:=Nat.two_pow_pos s
 have h1:r=(m-O*n)*2 ^ s:=by
   rw [Nat.sub_mul,Nat.mul_assoc];omega
 have h2:m-O*n<n:=by
   rw [h1] at hr;exact Nat.lt_of_mul_lt_mul_right hr
 have h3:O*n<=m:=by
   have:O*n*2 ^ s<=m*2 ^ s:=by rw [Nat.mul_assoc];omega
   exact Nat.le_of_mul_le_mul_right this hp
 have h4:(m-O*n)+n*O=m:=by rw [Nat.mul_comm n];omega
 have h5:m/n=O/\m%n=m-O*n:=(Nat.div_mod_unique (Nat.pos_of_ne_zero _hn)).2 ⟨h4,h2⟩
 refine ⟨h5.1.symm, ?_,bE (Nat.le_of_lt hr)⟩
 rw [h1,Nat.mul_div_cancel _ hp,h5.2]
theorem xj {a b t:List Nat} {i j x:Nat} (ha:a.length=i) (h:b[j]? = some x):(a++b++t)[i+j]? = some x:=by
 have hj:=(List.getElem?_eq_some_iff.1 h).1
 rw [List.append_assoc,List.getElem?_append_right (by omega),List.getElem?_append_left (by omega), <- h]
 congr 1;omega
theorem xk {a:List Nat} {i:Nat} (h:a.length=i+1):∃ b x,a=b++[x]/\b.length=i:=by
 refine ⟨a.take i,a[i]'(by omega), ?_,by simp;omega⟩
 rw [<- List.take_succ_eq_append_getElem,List.take_of_length_le (by omega)]
end Go.VL
end

section
namespace Go.VL
section
variable {P:Program} {G:Nat->Option (List AV)} {π : Id} {Q:bX->VS->Prop} {s:VS}
theorem VW.Ro {x y:cg} (h:VW P G π x (Then (VW P G π y Q) Q) s):VW P G π (.seq x y) Q s :=
 VW.seq (h.mono fun e _ hq=>by cases e<;>exact hq)
theorem VW.Um {id:Nat} {x:cg} (h:VW P G π x (Q4 id Q) s):VW P G π (.block id x) Q s :=
 VW.block (h.mono fun e _ hq=>by cases e<;>exact hq)
theorem VW.cut {x:cg} {s':VS} (hw:Wk G π s s') (h:xL P G π x Q s'):VW P G π x Q s:=VW.wk hw (VW.of h)
theorem VW.L3 {α : Type} {x:cg} {s:VS} (st : α -> VS) (Pr : α -> Prop) (m : α -> Nat) (x0 : α) (hw:Wk G π s (st x0)) (h0:Pr x0)
   (h:∀ a,Pr a->VW P G π x (Iz G π st Pr m a Q) (st a)):VW P G π (.loop x) Q s:=by
 refine VW.wk hw ?_
 intro c hc own E w a R hm hR
 cases c<;>simp only [gE,Option.some.injEq,reduceCtorEq] at hc
 case loop cb =>
   cases h1:gE P cb with
   | none=>simp [h1] at hc
   | some vb =>
     simp only [h1,Option.map_some,Option.some.injEq,cg.loop.injEq] at hc
     subst hc
     refine yn (α := α) (fun g a' w'=>Pr g/\∃ E',mQ own π E E' w w'/\mE G π own E' w' (st g) a') m (x:=x0) ⟨h0,E,mQ.refl own π E w,hm⟩ ?_
     rintro g a2 w2 ⟨hI2,E2,Q3,Bu⟩
     refine (h g hI2) cb h1 own E2 w2 a2 _ Bu ?_
     intro e s' E' w' a' hq had qG
     cases e with
     | normal =>
       obtain ⟨g',hI3,hlt,hw3⟩:=hq
       obtain ⟨E3,ad3,hm3⟩:=hw3 own E' w' a' qG
       exact ⟨g',⟨hI3,E3,(Q3.trans had).trans ad3,hm3⟩,hlt⟩
     | exit id=>exact hR (.exit id) s' E' w' a' hq (Q3.trans had) qG
     | ret=>exact hR .ret s' E' w' a' hq (Q3.trans had) qG
 case region=>exfalso;revert hc;unfold mD;(repeat' split)<;>simp
 all_goals (exfalso;revert hc;(repeat' split)<;>simp)
theorem Ep {base:Nat} {n:Nat} {ps:List (Nat × Nat)} {d:Option Nat} {os:List bq} {i:Nat} {acc:List eP} {t:List AV} {σ : af} {f:FuncId} {args lG:List AV} {r:AV} (S:List (Id × da))
   (h:VP P G f lG r) (hv:aF (af.of S) args lG) (hS:∀ x∈S, σ x.1=some x.2) (k:vd P G π base Q n ps os (i+1) ({ val:=r,rd:=S.map (·.1),up:=Di S }::acc) (fU t d r) (σ.app (Di S))):Dg P G π base Q n ps d os i acc t σ f args :=
 ⟨S,_,aW.JG h hv,hS,fun x hx=>List.mem_map.2 ⟨x,hx,rfl⟩,k⟩
end
theorem I7 {id:Id} {k len l h:Nat} (h1:l<h) (h2:h<=len):gP k (.osl id k 0 len false) (some (.int .i64 (l:Int))) (some (.int .i64 (h:Int))) none=some (.osl id k l (h-l) false):=by
 rcases Nat.eq_zero_or_pos l with rfl | hp
 . simp [gP,gO,kN,h2]
 . simp [gP,gO,kN,h2,Nat.le_of_lt h1,Nat.ne_of_gt hp,Nat.ne_of_lt h1]
theorem GV {id:Id} {k len h:Nat} (h2:h<=len):gP k (.osl id k 0 len false) none (some (.int .i64 (h:Int))) none=some (.osl id k 0 h false):=by
 simp [gP,gO,kN,h2]
end Go.VL
end

section
set_option linter.unusedVariables false
namespace Go.VL
section
variable {P:Program} {G:Nat->Option (List AV)}
theorem aa9 {q Q:Nat} (h1:q=Q+1) (h2:q<aE):IntKind.u64.wrap ((q:Int)-1)=((Q:Nat):Int):=by
 subst h1;rw [IntKind.wrap_u64];unfold aE at h2;omega
theorem L4 {id:Id} {a t:List Nat} {b tt:Bool} {n:Nat} (hn:n=a.length):View (af.of [(id,⟨us (a++t),1,b⟩)]) (.osl id 1 0 n tt) (.sl 1 (us a)):=by
 subst hn
 refine View.osl (bk:=⟨us (a++t),1,b⟩) (by simp [af.of]) rfl (by simp [gj]) ?_ (by rw [gj]) (Cj a)
 have:((us (a++t)).drop 0).take a.length=us a:=by rw [List.drop_zero,PM];simp
 show aF _ (flat (((us (a++t)).drop 0).take a.length)) _
 rw [this]
 exact aF.pure (zh a)
set_option maxRecDepth 100000 in
set_option maxHeartbeats 4000000 in
theorem Rp {f fc fcl ftu fu fdw flz fsl ft fsu fre fsr:FuncId} (h:Has P f (pe fc fcl ftu fu fdw flz fsl ft fsu fre fsr))
   (hc:∀ m n,ag m<=1000000->ag n<=1000000->VP P G fc [W m,W n] (.int .i64 (fP m n))) (Hu:∀ n,ag n<=1000000->VP P G fcl [W n] (W n))
   (ZG:∀ n,n<18446744073709551616->VP P G ftu [W n] (.int .u64 ((n:Nat):Int))) (hu:∀ n,n<18446744073709551616->VP P G fu [.int .u64 ((n:Nat):Int)] (W n))
   (hdw:∀ m w:Nat,ag m<=1000000->w<aE->w≠0->VP P G fdw [W m, .int .u32 (w:Int)] (.tup [W (m/w),W (m%w)]))
   (hlz:∀ x:Nat,x<aE->0<x->VP P G flz [.int .u32 (x:Int)] (.int .i64 ((32-iC x:Nat):Int)))
   (hsl:Has P fsl jr) (ht:iT P G ft) (hsu:Has P fsu j0) (hre:Has P fre lz) (hsr:Has P fsr fZ)
   (m n:Nat) (D7:n≠0) (hm:ag m<=900000) (hn:ag n<=900000):VP P G f [W m,W n] (.tup [W (m/n),W (m%n)]):=by
 refine VP.has h ?_
 have aba:=hc m n (by omega) (by omega)
 have ahb:=Hu m (by omega)
 have Rg:m/n=0->∀ σ,View σ .nils (W (m/n)):=fun h σ => by rw [h];simp only [W,bx,us];exact View.nils 1
 have abb:m<n->m/n=0/\m%n=m:=fun h=>⟨Nat.div_eq_of_lt h,Nat.mod_eq_of_lt h⟩
 have c1:m<n->decide (fP m n<0)=true:=fun h=>aw (by simp only [fP,jj];rw [if_pos (by omega)];decide)
 have c2 : ¬ m<n->decide (fP m n<0)=false:=fun h=>ar (by simp only [fP,jj];rw [if_neg (by omega)];split<;>decide)
 have l1:ag m<=2->decide ((ag m:Int)<=2)=true:=fun h=>aw (by omega)
 have l2 : ¬ ag m<=2->decide ((ag m:Int)<=2)=false:=fun h=>ar (by omega)
 have b1:ag n=1->decide ((ag n:Int)=1)=true:=fun h=>aw (by omega)
 have b2 : ¬ ag n=1->decide ((ag n:Int)=1)=false:=fun h=>ar (by omega)
 simp only [pe,SS,Nat.reduceAdd]
 refine ah aba (by simp [ay]) ?_
 by_cases h1:m<n
 . simp only [SS,Nat.reduceAdd,c1 h1]
   refine ah ahb (by simp [ay]) ?_
   simp only [SS,Nat.reduceAdd]
   obtain ⟨e1,e2⟩:=abb h1
   refine ak▸⟨.tup [.nils,W m],rfl,View.tup (aF.cons (Rg e1 _) (aF.cons ?_ aF.nil))⟩
   rw [e2];exact View.pure (ay _)
 have qU:n<=m:=by omega
 have hwn:ag n≠0:=fun e=>D7 (cG.1 e)
 by_cases h2:ag m<=2
 . have Bu:=sR h2
   have WV:n<18446744073709551616:=by omega
   have hq:=I1 m n Bu D7
   have hr:=I3 m n D7
   have hu1:=hu (m/n) (Nat.lt_of_le_of_lt (Nat.div_le_self _ _) Bu)
   have hu2:=hu (m%n) (Nat.lt_of_le_of_lt (Nat.mod_le _ _) Bu)
   simp only [SS,Nat.reduceAdd,c2 h1,bg,l1 h2]
   refine ah (ZG m Bu) (by simp [ay]) ?_
   simp only [SS,Nat.reduceAdd]
   refine ah (ZG n WV) (by simp [ay]) ?_
   simp only [SS,DD,Nat.reduceAdd,hq]
   refine aj hu1 (by simp [aa.int]) ?_
   simp only [SS,DD,Nat.reduceAdd,hr]
   refine aj hu2 (by simp [aa.int]) ?_
   simp only [SS,DD,Nat.reduceAdd]
   refine ⟨by simp [ab,apart], ?_⟩
   exact ak▸ae rfl (aa.tup (by intro c hc;simp at hc;rcases hc with rfl | rfl<;>exact ay _))
 by_cases h3:ag n=1
 . obtain ⟨x,hx⟩:∃ x,(digits n)[0]? = some x:=⟨_,List.getElem?_eq_getElem (by show 0<ag n;omega)⟩
   have hxn:x=n:=by
     have e:=aM hx
     rw [List.take_of_length_le (show (digits n).length<=1 from by show ag n<=1;omega),aU] at e
     simp [val] at e;omega
   have hg:=de hx
   rw [hxn] at hg
   have hnB:n<aE:=by rw [<- hxn];exact aX n x (List.mem_of_getElem? hx)
   have hdv:=hdw m n (by omega) hnB D7
   have Nh:cn 1 (W n) (.int .i64 0)=some (.ep (AV.int .u32 (n:Int)).cells 0):=hg
   simp only [SS,Nat.reduceAdd,c2 h1,bg,l2 h2,b1 h3,Nh,aH,bl]
   refine ah hdv (by simp [ay,aa.int]) ?_
   simp only [SS,Nat.reduceAdd,A6,A7]
   exact ak▸ae rfl (aa.tup (by intro c hc;simp at hc;rcases hc with rfl | rfl<;>exact ay _))
 -- Knuth's algorithm D
 obtain ⟨k,hk⟩:∃ k,ag n=k+2:=⟨ag n-2,by omega⟩
 obtain ⟨x,hx⟩:∃ x,(digits n)[k+1]? = some x:=⟨_,List.getElem?_eq_getElem (by show k+1<ag n;omega)⟩
 obtain ⟨HU,hxB,hV,hwV,hs⟩:=Cu hk hx
 generalize hsd:32-iC x=s at hV hwV hs
 have adX:=hlz x hxB HU
 rw [hsd] at adX
 have p1:IntKind.i64.wrap (((k+2:Nat):Int)-1)=((k+1:Nat):Int):=by rw [IntKind.wrap_i64];omega
 have p2:IntKind.i64.wrap (((k+2:Nat):Int)-2)=((k:Nat):Int):=by rw [IntKind.wrap_i64];omega
 obtain ⟨V,Rq⟩:∃ V,V=n*2 ^ s:=⟨_,rfl⟩
 obtain ⟨U,Xy⟩:∃ U,U=m*2 ^ s:=⟨_,rfl⟩
 rw [<- Rq] at hV hwV
 have NM:=Cm (G:=G) hsl m s (by omega) hs
 have NN:=Cm (G:=G) hsl n s (by omega) hs
 rw [<- Rq] at NN
 rw [<- Xy] at NM
 obtain ⟨L,hL⟩:∃ L,ag m+1=L+(k+2):=⟨ag m+1-(k+2),by have:=bE qU;omega⟩
 have hUB:U<aE ^ (ag m+1):=by
   have h4:2 ^ s<=2 ^ 32:=Nat.pow_le_pow_right (by decide) (by omega)
   have h5:m*2 ^ s<=m*2 ^ 32:=Nat.mul_le_mul_left _ h4
   have h6:m*2 ^ 32<aE ^ ag m*2 ^ 32:=Nat.mul_lt_mul_of_pos_right (cU m) (by decide)
   rw [Nat.pow_succ,Xy];exact Nat.lt_of_le_of_lt h5 h6
 obtain ⟨A0,R0,hAR,ZJ,hR0⟩:∃ A R,pad (ag m+1) U=A++R++[]/\A.length=L/\R.length=k+2 :=
   ⟨(pad (ag m+1) U).take L,(pad (ag m+1) U).drop L,by simp,by simp [kA];omega,by simp [kA];omega⟩
 have hAw:Wd A0/\Wd R0:=by
   have h4:=rR (ag m+1) U
   rw [hAR] at h4
   exact ⟨fun w hw=>h4 w (by simp [hw]),fun w hw=>h4 w (by simp [hw])⟩
 have hU0:U=val A0+aE ^ L*val R0:=by
   have h4:=fQ hUB
   rw [hAR,List.append_nil,cm,ZJ] at h4
   exact h4.symm
 have Un:val R0<V:=L1 (k:=k+2) Rq (by have:=sO D7;rw [hk] at this;exact this) (by
   have h4:=cU m
   have:L+(k+2-1)=ag m:=by omega
   rw [this];exact h4) (Xy▸hU0)
 have GX:ag V=k+2:=hwV
 obtain ⟨hh,Uo⟩:∃ y,(digits V)[k+1]? = some y:=⟨_,List.getElem?_eq_getElem (by show k+1<ag V;omega)⟩
 obtain ⟨ll,llg⟩:∃ y,(digits V)[k]? = some y:=⟨_,List.getElem?_eq_getElem (by show k<ag V;omega)⟩
 have hhB:=aX V hh (List.mem_of_getElem? Uo)
 have llB:=aX V ll (List.mem_of_getElem? llg)
 have f1:=bn hh hhB
 have f2:=bn ll llB
 obtain ⟨hVV,hvM⟩:=adS (aX V) GX Uo llg
 rw [aU] at hVV
 have hh0:0<hh:=by
   rcases zf (n:=V) with h4 | ⟨w,h4,hw⟩
   . rw [h4] at Uo;simp at Uo
   . rw [List.getLast?_eq_getElem?,show (digits V).length-1=k+1 from by show ag V-1=k+1;omega,Uo] at h4
     simp only [Option.some.injEq] at h4;omega
 have WA:0<V:=Nat.lt_of_le_of_lt (Nat.zero_le _) Un
 have ad4:IntKind.i64.wrap (((ag m+1:Nat):Int)-((k+2:Nat):Int))=((L:Nat):Int):=by rw [IntKind.wrap_i64];omega
 have KL:IntKind.i64.wrap (((L:Nat):Int)-1)=(L:Int)-1:=by rw [IntKind.wrap_i64];omega
 have sr:∀ p:Id,jm p 1 4 (.int .u32 0) (.int .i64 ((L:Nat):Int)) (.int .i64 ((L:Nat):Int))=some { val := .osl p 1 0 L false,up:=[(p,some ⟨us (List.replicate L 0),1,false⟩)] }:=fun p=>nH (by omega)
 rw [hAR] at NM
 rw [hk] at NN
 have b3:decide (((k+2:Nat):Int)=1)=false:=ar (by omega)
 have SR:V<aE ^ (k+2+1):=Nat.lt_of_lt_of_le hV (Nat.pow_le_pow_right cV (by omega))
 have Up:VP P G ft [.sl 1 (us (pad (k+2+1) V))] (W V):=by
   have:=ht (pad (k+2+1) V) (rR _ _) (by rw [kA];omega)
   rwa [fQ SR] at this
 simp only [SS,Nat.reduceAdd,c2 h1,bg,l2 h2,b3,hk,p1,de hx,aH,bl]
 refine ah adX (by simp [aa.int]) ?_
 simp only [SS,Nat.reduceAdd]
 refine ⟨[],_,NM _,by simp,by simp, ?_⟩
 simp only [SS,Nat.reduceAdd]
 refine ⟨[],_,NN _,by simp,by simp, ?_⟩
 simp only [SS,Nat.reduceAdd]
 refine bB [([4,28],⟨us (pad (k+2+1) V),1,false⟩)] Up (aF.cons (hH (kA _ _).symm) aF.nil) (by simp [af.put]) ?_
 simp only [SS,Nat.reduceAdd]
 simp only [SS,DD,Nat.reduceAdd,bg,GX,ad4,KL,sr,p1,p2,de Uo,de llg,aH,bl,f1,f2]
 refine ⟨by simp [ab], ?_⟩
 simp only [aK]
 refine VW.L3 (α := Nat × List Nat × List Nat × List Nat × List Nat × Nat) (fun x=>⟨List.replicate 8 .top++[.int .i64 (s:Int), .osl [4,25] 1 0 (ag m+1) false,W V, .int .i64 ((k+2:Nat):Int), .osl [39] 1 0 L false, .int .u64 (hh:Int), .int .u64 (ll:Int), .int .i64 ((x.1:Int)-1)]++List.replicate 161 .top,
   af.put (af.put (fun _=>none) [4,25] (some ⟨us (x.2.1++x.2.2.1++x.2.2.2.1),1,false⟩)) [39] (some ⟨us (zs x.1++x.2.2.2.2.1),1,false⟩),x.2.2.2.2.2⟩)
   (fun x=>x.1+x.2.2.2.2.1.length=L/\x.2.1.length=x.1/\x.2.2.1.length=k+2/\x.1+(k+2)+x.2.2.2.1.length=ag m+1/\Wd x.2.1/\Wd x.2.2.1/\Wd x.2.2.2.2.1/\val x.2.2.1<V/\U=val x.2.1+aE ^ x.1*(val x.2.2.2.2.1*V+val x.2.2.1)) (fun x=>x.1) (L,A0,R0,[],[],1000) ?_ ?_ ?_
 . refine Wk.forget (by simp [Fg,List.replicate]) (fun j => ?_) (by simp only [];omega)
   simp only [List.append_nil,af.put,af.app,Di,List.map_cons,List.map_nil,zs]
   by_cases e1:j=[39]
   . subst e1;simp
   . by_cases e2:j=[4,25]
     . subst e2;simp
     . simp [e1,e2]
 . refine ⟨by simp,ZJ,hR0,by simp;omega,hAw.1,hAw.2,by intro w hw;simp at hw,Un, ?_⟩
   show U=val A0+aE ^ L*(val []*V+val R0)
   rw [show val []=0 from rfl,Nat.zero_mul,Nat.zero_add];exact hU0
 rintro ⟨c,A,R,t,o,nn⟩ ⟨hc,hA,hR,WB,hAW,hRW,hoW,SQ,hUe⟩
 simp only [] at hc hA hR WB hAW hRW hoW SQ hUe
 rcases Nat.eq_zero_or_pos c with h0 | hcp
 . subst h0
   have d0:decide ((0:Int)<=((0:Nat):Int)-1)=false:=by decide
   refine VW.Ro (VW.of ?_)
   simp only [SS,DD,Nat.reduceAdd,d0]
   obtain rfl:A=[]:=List.length_eq_zero_iff.1 hA
   have hU':m*2 ^ s=val o*(n*2 ^ s)+val R:=by
     rw [<- Xy, <- Rq,hUe]
     show val []+aE ^ 0*_=_
     simp [val]
   obtain ⟨g1,g2,g3⟩:=P1 D7 hU' (Rq▸SQ)
   have hoL:L=o.length:=by omega
   have htq:=ht o hoW (by omega)
   rw [g1] at htq
   have htR:=ht R hRW (by omega)
   have hwR:ag (val R)<=1000000:=by rw [<- Rq,GX] at g3;omega
   have ahi:=Au (G:=G) hsr (val R) s hwR hs
   have htr:VP P G ft [.sl 1 (us (pad (ag (val R)) (val R/2 ^ s)))] (W (m%n)):=by
     have e:=ht (pad (ag (val R)) (val R/2 ^ s)) (rR _ _) (by rw [kA];omega)
     rw [fQ (Nat.lt_of_le_of_lt (Nat.div_le_self _ _) (cU _))] at e
     rw [<- g2];exact e
   have L5:gP 1 (.osl [4,25] 1 0 (ag m+1) false) none (some (.int .i64 ((k+2:Nat):Int))) none=some (.osl [4,25] 1 0 (k+2) false):=GV (by omega)
   rw [xh,List.nil_append,List.nil_append]
   refine Ep [([39],⟨us o,1,false⟩)] htq (aF.cons (hH hoL) aF.nil) (by simp [af.put]) ?_
   simp only [SS,DD,Nat.reduceAdd,L5]
   refine Ep [([4,25],⟨us (R++t),1,false⟩)] htR (aF.cons (L4 hR.symm) aF.nil) (by simp [af.put,af.app,Di]) ?_
   simp only [SS,DD,Nat.reduceAdd]
   refine aj ahi (by simp [ay,aa.int]) ?_
   simp only [SS,DD,Nat.reduceAdd]
   refine aj htr (by simp [Ci]) ?_
   simp only [SS,DD,Nat.reduceAdd]
   refine ⟨by simp [ab,apart,Di], ?_⟩
   exact ak▸ae rfl (aa.tup (by intro c hc;simp at hc;rcases hc with rfl | rfl<;>exact ay _))
 obtain ⟨i,rfl⟩:∃ i,c=i+1:=⟨c-1,by omega⟩
 have d0:decide ((0:Int)<=(i:Int))=true:=aw (by omega)
 have hj:((i+1:Nat):Int)-1=(i:Int):=by omega
 have TZ:IntKind.i64.wrap ((i:Int)-1)=(i:Int)-1:=by rw [IntKind.wrap_i64];omega
 refine VW.Ro (VW.of ?_)
 simp only [SS,Nat.reduceAdd,hj,d0]
 obtain ⟨A',y,rfl,hA'⟩:=xk hA
 obtain ⟨b,Fe⟩:∃ b,b=y::R:=⟨_,rfl⟩
 have eb:A'++[y]++R++t=A'++b++t:=by rw [Fe];simp
 rw [eb]
 have hyB:y<aE:=hAW y (by simp)
 have abl:Wd A':=fun w hw=>hAW w (by simp [hw])
 have Bl:b.length=k+3:=by rw [Fe];simp [hR]
 have Kv:Wd b:=by
   intro w hw;rw [Fe] at hw
   rcases List.mem_cons.1 hw with rfl | hw
   . exact hyB
   . exact hRW w hw
 have hbv:val b=y+aE*val R:=by rw [Fe];rfl
 obtain ⟨ZK,WC⟩:=adU hyB SQ
 rw [<- hbv] at ZK WC
 obtain ⟨x2,hx2⟩:∃ z,b[k+2]? = some z:=⟨_,List.getElem?_eq_getElem (by omega)⟩
 obtain ⟨x1,Hs⟩:∃ z,b[k+1]? = some z:=⟨_,List.getElem?_eq_getElem (by omega)⟩
 obtain ⟨z0,Wz⟩:∃ z,b[k]? = some z:=⟨_,List.getElem?_eq_getElem (by omega)⟩
 have NP:=Kv x2 (List.mem_of_getElem? hx2)
 have Uq:=Kv x1 (List.mem_of_getElem? Hs)
 have Ur:=Kv z0 (List.mem_of_getElem? Wz)
 obtain ⟨hD,huM⟩:=adT Kv Bl hx2 Hs Wz
 rw [show x2*aE+x1=aE*x2+x1 from by rw [Nat.mul_comm]] at hD
 obtain ⟨num,GY⟩:∃ z,z=aE*x2+x1:=⟨_,rfl⟩
 rw [<- GY] at hD
 have P2:num<18446744073709551616:=by rw [GY];unfold aE at *;omega
 have a1:=oP i (k+2) (by omega)
 have a2:IntKind.i64.wrap (((i+(k+2):Nat):Int)-1)=((i+(k+1):Nat):Int):=by rw [IntKind.wrap_i64];omega
 have a3:IntKind.i64.wrap (((i+(k+2):Nat):Int)-2)=((i+k:Nat):Int):=by rw [IntKind.wrap_i64];omega
 have a4:IntKind.i64.wrap (((i+(k+2):Nat):Int)+1)=((i+(k+3):Nat):Int):=by rw [IntKind.wrap_i64];omega
 have ia2:=cN (q:=[4,25]) (t:=false) (show i+(k+2)<ag m+1 by omega)
 have ia1:=cN (q:=[4,25]) (t:=false) (show i+(k+1)<ag m+1 by omega)
 have ia0:=cN (q:=[4,25]) (t:=false) (show i+k<ag m+1 by omega)
 have iaq:=cN (q:=[39]) (t:=false) (show i<L by omega)
 have L5:gP 1 (.osl [4,25] 1 0 (ag m+1) false) (some (.int .i64 (i:Int))) (some (.int .i64 ((i+(k+3):Nat):Int))) none=some (.osl [4,25] 1 A'.length (ag V+1) false):=by
   rw [I7 (by omega) (by omega),hA',GX]
   congr 2;omega
 generalize hσ : af.put (af.put (fun _=>none) [4,25] (some ⟨us (A'++b++t),1,false⟩)) [39] (some ⟨us (zs (i+1)++o),1,false⟩) = σ0
 have Xz : σ0 [4,25]=some ⟨us (A'++b++t),1,false⟩:=by rw [<- hσ];simp [af.put]
 have hσQ : σ0 [39]=some ⟨us (zs (i+1)++o),1,false⟩:=by rw [<- hσ];simp [af.put]
 have ld2:=js Xz (xj (t:=t) hA' hx2)
 have ld1:=js Xz (xj (t:=t) hA' Hs)
 have ld0:=js Xz (xj (t:=t) hA' Wz)
 have w2:=bn x2 NP
 have w1:=bn x1 Uq
 have w0:=bn z0 Ur
 have s2:=A2 x2 NP
 have o2:=I0 x2 x1 NP Uq
 rw [<- GY] at o2
 have q1:=I1 num hh P2 (by omega)
 have r1:=I3 num hh (by omega)
 refine VW.Ro (VW.Um (VW.Ro (VW.of ?_)))
 simp only [SS,DD,Nat.reduceAdd,a1,a2,ia2,ia1,ld2,ld1,w2,w1,s2,o2]
 refine ⟨by simp [ab],VW.Ro (VW.of ?_)⟩
 simp only [SS,DD,Nat.reduceAdd,q1,r1]
 refine ⟨by simp [ab],VW.Ro (VW.Um ?_)⟩
 have ad8:num/hh*hh+num%hh=num:=by rw [Nat.mul_comm];exact Nat.div_add_mod num hh
 have J0:=LY hh0 hVV hD Ur huM
 refine VW.mono (Q:=fun e s'=>∃ q n2,e = .exit 3/\(q<aE/\val b/V<=q/\q<=val b/V+1)/\Wk G [] s' ⟨List.replicate 8 .top++[.int .i64 (s:Int), .osl [4,25] 1 0 (ag m+1) false,W V, .int .i64 ((k+2:Nat):Int), .osl [39] 1 0 L false, .int .u64 (hh:Int), .int .u64 (ll:Int), .int .i64 (i:Int), .top, .int .u64 (q:Int)]++List.replicate 159 .top, σ0,n2⟩) ?_ ?_
 . refine VW.dQ (α := Nat × Nat × Nat) (fun x=>⟨List.replicate 8 .top++[.int .i64 (s:Int), .osl [4,25] 1 0 (ag m+1) false,W V, .int .i64 ((k+2:Nat):Int), .osl [39] 1 0 L false, .int .u64 (hh:Int), .int .u64 (ll:Int), .int .i64 (i:Int), .top, .int .u64 (x.1:Int), .int .u64 (x.2.1:Int)]++List.replicate 158 .top, σ0,x.2.2⟩)
     (fun x=>x.1*hh+x.2.1=num/\val b/V<=x.1/\x.2.1<aE/\x.1<18446744073709551616) (fun x=>x.1) (num/hh,num%hh,nn+1000) ?_ ?_ ?_
   . exact Wk.slots (by simp [Fg,List.replicate]) (by simp only [];omega)
   . exact ⟨ad8,J0,Nat.lt_trans (Nat.mod_lt _ hh0) hhB,Nat.lt_of_le_of_lt (Nat.div_le_self _ _) P2⟩
   rintro ⟨q,r,n3⟩ ⟨KH,hle,LN,aho⟩
   simp only [] at KH hle LN aho
   have d1:aE<=q->decide ((4294967296:Int)<=(q:Int))=true:=fun h=>aw (by unfold aE at h;omega)
   have d2 : ¬ aE<=q->decide ((4294967296:Int)<=(q:Int))=false:=fun h=>ar (by unfold aE at h;omega)
   have d3:aE<=r+hh->decide ((4294967296:Int)<=((r+hh:Nat):Int))=true:=fun h=>aw (by unfold aE at h;omega)
   have d4 : ¬ aE<=r+hh->decide ((4294967296:Int)<=((r+hh:Nat):Int))=false:=fun h=>ar (by unfold aE at h;omega)
   have d5:aE*r+z0<q*ll->decide (((aE*r+z0:Nat):Int)<((q*ll:Nat):Int))=true:=fun h=>aw (by omega)
   have d6 : ¬ aE*r+z0<q*ll->decide (((aE*r+z0:Nat):Int)<((q*ll:Nat):Int))=false:=fun h=>ar (by omega)
   have m1 : ¬ aE<=q->IntKind.u64.wrap ((q:Int)*(ll:Int))=((q*ll:Nat):Int):=fun h=>PS q ll (by omega) llB
   have s3:=A2 r LN
   have o3:=I0 r z0 LN Ur
   have p3:=p6 r hh (by unfold aE at *;omega)
   have Nb:=fun ht=>aa7 (q:=q) (r:=r) llB hvM huM hh0 hVV hD ZK WC KH hle ht
   have gK : ¬ aE<=q->q*ll<=r*aE+z0->q<=val b/V+1:=fun h1 h2=>PZ hh0 hVV hD hvM (by omega) KH h2
   have OR:r*aE=aE*r:=Nat.mul_comm _ _
   rw [OR] at Nb gK
   have pq:1<=q->IntKind.u64.wrap ((q:Int)-1)=((q-1:Nat):Int):=fun h=>by rw [IntKind.wrap_u64];omega
   have hql:q-1<18446744073709551616:=by omega
   have hmq:1<=q->q-1<q:=fun h=>by omega
   have hrh : ¬ aE<=r+hh->r+hh<aE:=fun h=>by omega
   by_cases cq:aE<=q
   . obtain ⟨k1,k2,k3,k4⟩:=Nb (.inl cq)
     by_cases cr:aE<=r+hh
     . simp only [SS,Nat.reduceAdd,d1 cq,pq k1,p3,d3 cr]
       exact ⟨q-1,_,trivial,⟨(k4 cr).1,k2,(k4 cr).2⟩,Wk.slots (by simp [Fg]) (Nat.le_refl _)⟩
     . simp only [SS,Nat.reduceAdd,d1 cq,pq k1,p3,d4 cr]
       exact ⟨(q-1,r+hh,_),⟨k3,k2,hrh cr,hql⟩,hmq k1,Wk.slots (by simp [Fg]) (Nat.le_refl _)⟩
   . by_cases ct:aE*r+z0<q*ll
     . obtain ⟨k1,k2,k3,k4⟩:=Nb (.inr ct)
       by_cases cr:aE<=r+hh
       . simp only [SS,Nat.reduceAdd,d2 cq,m1 cq,s3,a1,a3,ia0,ld0,w0,o3,d5 ct,pq k1,p3,d3 cr]
         exact ⟨q-1,_,trivial,⟨(k4 cr).1,k2,(k4 cr).2⟩,Wk.slots (by simp [Fg]) (Nat.le_refl _)⟩
       . simp only [SS,Nat.reduceAdd,d2 cq,m1 cq,s3,a1,a3,ia0,ld0,w0,o3,d5 ct,pq k1,p3,d4 cr]
         exact ⟨(q-1,r+hh,_),⟨k3,k2,hrh cr,hql⟩,hmq k1,Wk.slots (by simp [Fg]) (Nat.le_refl _)⟩
     . have hp:=gK cq (by omega)
       have ahp:q<aE:=by omega
       simp only [SS,Nat.reduceAdd,d2 cq,m1 cq,s3,a1,a3,ia0,ld0,w0,o3,d6 ct]
       exact ⟨q,_,trivial,⟨ahp,hle,hp⟩,Wk.slots (by simp [Fg]) (Nat.le_refl _)⟩
 rintro e s' ⟨q,n2,rfl,⟨hqB,hle,ZI⟩,hw⟩
 simp only [Df,if_true,yo]
 refine VW.cut hw ?_
 have FL:=LQ (G:=G) hsu (id:=[4,25]) (a:=A') (b:=b) (t:=t) (v:=V) (q:=q) (tight:=false) (by omega) (by omega) Kv hqB
 have KO:=NI (G:=G) hre (id:=[4,25]) (a:=A') (b:=pad (ag V+1) (val b+aE ^ (ag V+1)-q*V)) (t:=t) (v:=V) (tight:=false) (by omega) (kA _ _) (rR _ _)
 have hVB:V<aE ^ (k+2):=hV
 have I8:val b%V<V:=Nat.mod_lt _ WA
 have P3:val b%V<aE ^ (k+2):=Nat.lt_trans I8 hVB
 simp only [SS,Nat.reduceAdd,a1,a4,L5]
 refine ⟨[([4,25],⟨us (A'++b++t),1,false⟩)],_,FL _,by simp [Xz],by simp, ?_⟩
 have hqL:i<(zs (i+1)++o).length:=by simp [zs];omega
 have JE:val b=val b/V*V+val b%V:=by have:=Nat.div_add_mod (val b) V;rw [Nat.mul_comm] at this;omega
 have hUn:U=val A'+aE ^ i*(val (val b/V::o)*V+val (pad (k+2) (val b%V))):=by
   rw [fQ P3]
   refine LZ (x:=y) (R:=val R) (O:=val o) ?_ (by rw [<- hbv];exact JE)
   rw [hUe,cm,hA']
   simp only [val,Nat.mul_zero,Nat.add_zero]
 have C4:i+(val b/V::o).length=L/\A'.length=i/\(pad (k+2) (val b%V)).length=k+2/\i+(k+2)+(0::t).length=ag m+1/\Wd A'/\Wd (pad (k+2) (val b%V))/\Wd (val b/V::o)/\val (pad (k+2) (val b%V))<V/\U=val A'+aE ^ i*(val (val b/V::o)*V+val (pad (k+2) (val b%V))):=by
   refine ⟨by simp;omega,hA',kA _ _,by simp;omega,abl,rR _ _, ?_,by rw [fQ P3];exact I8,hUn⟩
   intro w hw
   rcases List.mem_cons.1 hw with rfl | hw
   . exact WC
   . exact hoW w hw
 have hqi:IntKind.u32.wrap ((val b/V:Nat):Int)=((val b/V:Nat):Int):=by rw [yf,Nat.mod_eq_of_lt WC]
 have Zc:((i:Nat):Int)-1=(((i:Nat):Int)-1):=rfl
 rcases aa5 WA hle ZI with ⟨hlt,XA⟩ | ⟨KN,XA⟩
 . have dn:decide (val b<q*V)=true:=aw hlt
   have pq:=aa9 XA hqB
   have Zb:pad (ag V+1) (val (pad (ag V+1) (val b+aE ^ (ag V+1)-q*V))+V)=pad (k+2) (val b%V)++[0]:=by
     rw [GX];exact Ul WA P3 hVB XA
   have ef:A'++(pad (k+2) (val b%V)++[0])++t=A'++pad (k+2) (val b%V)++(0::t):=by simp
   rw [Zb,ef] at KO
   simp only [SS,Nat.reduceAdd,dn,pq,a1,a4,L5]
   refine ⟨[([4,25],⟨us (A'++pad (ag V+1) (val b+aE ^ (ag V+1)-q*V)++t),1,false⟩)],_,KO _,by simp [af.put],by simp, ?_⟩
   simp only [SS,Nat.reduceAdd,hqi,iaq]
   rw [bO (o:=zs (i+1)++o) (by simp [af.put,hσQ]) hqL,zi]
   simp only [SS,Nat.reduceAdd]
   refine VW.of ?_
   simp only [SS,Nat.reduceAdd,TZ]
   refine ⟨(i,A',pad (k+2) (val b%V),0::t,val b/V::o,_),C4,Nat.lt_succ_self i,Wk.forget (by simp [Fg]) (fun j => ?_) (Nat.le_refl _)⟩
   by_cases e1:j=[39]
   . subst e1;simp [af.put]
   . by_cases e2:j=[4,25]
     . subst e2;simp [af.put]
     . simp [af.put,e1,e2]
 . have dn:decide (val b<q*V)=false:=ar (by omega)
   have Zb:pad (ag V+1) (val b+aE ^ (ag V+1)-q*V)=pad (k+2) (val b%V)++[0]:=by
     rw [GX];exact Uk P3 XA
   have ef:A'++(pad (k+2) (val b%V)++[0])++t=A'++pad (k+2) (val b%V)++(0::t):=by simp
   rw [Zb,ef]
   simp only [SS,Nat.reduceAdd,dn]
   rw [XA]
   simp only [SS,Nat.reduceAdd,hqi,iaq]
   rw [bO (o:=zs (i+1)++o) (by simp [af.put,hσQ]) hqL,zi]
   simp only [SS,Nat.reduceAdd]
   refine VW.of ?_
   simp only [SS,Nat.reduceAdd,TZ]
   refine ⟨(i,A',pad (k+2) (val b%V),0::t,val b/V::o,_),C4,Nat.lt_succ_self i,Wk.forget (by simp [Fg]) (fun j => ?_) (Nat.le_refl _)⟩
   by_cases e1:j=[39]
   . subst e1;simp [af.put]
   . by_cases e2:j=[4,25]
     . subst e2;simp [af.put]
     . simp [af.put,e1,e2]
end
end Go.VL
end

section
set_option linter.unusedVariables false
namespace Go.VL
theorem ad9 (neg:Bool) (n:Nat):IV (xe neg n) = .agg [.bool (neg&&decide (0<n)),W n]:=by
 cases neg
 . simp only [IV,xe];simp<;>omega
 . simp only [IV,xe];simp<;>omega
theorem XB (σ : af) (id:Id) (k:Nat) (b:Bool) (n:Nat):fy (σ.put id (some ⟨[.agg [.bool false, .nils]],k,false⟩)) 2 (.ref id 0 0) (.agg [.bool b,W n])=some { val := .tup [],rd:=[id],up:=[(id,some ⟨[.agg [.bool b,W n]],k,false⟩)] }:=by
 rw [eO (n:=2) (v := .agg [.bool b,W n]) (els:=[.agg [.bool false, .nils]]) (k:=k) (af.dA _ _ _) rfl rfl (by simp [AV.size,AV.cells]) rfl]
 rfl
theorem Us {n:Nat}:0<ag n↔0<n:=by have:=cG (n:=n);omega
section
variable {P:Program} {G:Nat->Option (List AV)}
theorem NQ {f ft:FuncId} (h:Has P f (jA ft)) (ht:iT P G ft):iW P G f:=fun neg n hn=>by
 refine VP.has h ?_
 simp only [jA,SS,Nat.reduceAdd,b9]
 refine ah (oQ ht n hn) (by simp [ay]) ?_
 have e:∀ b,iN [.bool false, .nils] [(0,(1, .bool b)),(1,(1,W n))]=some [.bool b,W n]:=fun _=>rfl
 have dd:decide ((0:Int)<(ag n:Int))=decide (0<n):=by
   have:=Us (n:=n)
   by_cases h0:0<n
   . rw [aw h0,aw (by omega)]
   . rw [ar h0,ar (by omega)]
 rw [ad9]
 cases neg <;>
 . simp only [SS,Nat.reduceAdd,bg,dd,e,XB,Bool.true_and,Bool.false_and]
   refine ak▸ae ?_ (aa.agg (by intro c hc;simp at hc;rcases hc with rfl | rfl;exact aa.bool _;exact ay _))
   simp only [RS,aY,a7,ao];rfl
theorem Ut {f fs:FuncId} (h:Has P f (kO fs)) (hs:iW P G fs) (z:Int) (hz:ag z.natAbs<=1000000):VP P G f [IV z] (IV z):=by
 refine VP.has h ?_
 have eE:=hs (decide (z<0)) z.natAbs (by omega)
 rw [Cs] at eE
 have yb:([0]:List Nat)≠[1]:=by decide
 simp only [kO,SS,Nat.reduceAdd,gZ,b9,aq yb,ao,jR,iD]
 refine ah eE (by simp [aa.bool,ay]) ?_
 simp only [SS,Nat.reduceAdd,iV]
 refine ak▸ae (r:=IV z) ?_ (au _)
 simp only [RS,aY,a7,ao];rfl
theorem XC {f fs:FuncId} (h:Has P f (lN fs)) (hs:iW P G fs) (z:Int) (hz:ag z.natAbs<=1000000):VP P G f [IV z] (IV (-z)):=by
 refine VP.has h ?_
 have eE:=hs (!decide (z<0)) z.natAbs (by omega)
 rw [PT] at eE
 have yb:([0]:List Nat)≠[1]:=by decide
 simp only [lN,SS,Nat.reduceAdd,gZ,b9,aq yb,ao,jR,iD]
 refine ah eE (by simp [aa.bool,ay]) ?_
 simp only [SS,Nat.reduceAdd,iV]
 refine ak▸ae (r:=IV (-z)) ?_ (au _)
 simp only [RS,aY,a7,ao];rfl
theorem Rr {f fn:FuncId} (h:Has P f (kR fn)) (hn:∀ z:Int,ag z.natAbs<=1000000->VP P G fn [IV z] (IV z)) (z:Int) (hz:ag z.natAbs<=1000000):VP P G f [IV z] (.int .i64 z.sign):=by
 refine VP.has h ?_
 have hl:ag z.natAbs=0↔z=0:=by rw [cG];omega
 simp only [kR,SS,Nat.reduceAdd,gZ,ao,c9]
 refine ah (hn z hz) (by simp [au]) ?_
 simp only [SS,Nat.reduceAdd]
 rw [dh (k:=(IV z).size) (y:=IV z) rfl (A5 _ _) (by simp [af.put])]
 simp only [SS,Nat.reduceAdd,ao,iD,bg]
 by_cases h0:z=0
 . have d0:decide ((ag z.natAbs:Int)=0)=true:=aw (by have:=hl.2 h0;omega)
   simp only [SS,Nat.reduceAdd,d0]
   rw [h0]
   exact ak▸ae rfl (aa.int _ _)
 . have d0:decide ((ag z.natAbs:Int)=0)=false:=ar (by have:=fun e=>h0 (hl.1 e);omega)
   by_cases hn:z<0
   . have d1:decide (z<0)=true:=aw hn
     simp only [SS,Nat.reduceAdd,d0,ao,jR,d1]
     rw [Int.sign_eq_neg_one_of_neg hn]
     exact ak▸ae rfl (aa.int _ _)
   . have d1:decide (z<0)=false:=ar hn
     simp only [SS,Nat.reduceAdd,d0,ao,jR,d1]
     rw [Int.sign_eq_one_of_pos (by omega)]
     exact ak▸ae rfl (aa.int _ _)
theorem Rs {f fu fs:FuncId} (h:Has P f (iZ fu fs)) (hu:∀ n,n<18446744073709551616->VP P G fu [.int .u64 ((n:Nat):Int)] (W n)) (hs:iW P G fs) (a:Int) (h1 : -9223372036854775808<=a) (h2:a<9223372036854775808):VP P G f [.int .i64 a] (IV a):=by
 refine VP.has h ?_
 have hsz:=pI a.natAbs (by omega)
 have eE:=hs (decide (a<0)) a.natAbs (by omega)
 rw [Cs] at eE
 have M9:=hu a.natAbs (by omega)
 simp only [iZ,SS,Nat.reduceAdd,b9]
 by_cases hn:a<0
 . have d1:decide (a<0)=true:=aw hn
   rw [d1] at eE
   have e1:IntKind.u64.wrap (0-(IntKind.u64.wrap a))=(a.natAbs:Int):=by rw [IntKind.wrap_u64,IntKind.wrap_u64];omega
   simp only [SS,Nat.reduceAdd,d1,e1]
   refine ah M9 (by simp [aa.int]) ?_
   simp only [SS,Nat.reduceAdd]
   refine ah eE (by simp [aa.bool,ay]) ?_
   simp only [SS,Nat.reduceAdd,iV]
   refine ak▸ae (r:=IV a) ?_ (au _)
   simp only [RS,aY,a7,ao];rfl
 . have d1:decide (a<0)=false:=ar hn
   rw [d1] at eE
   have e1:IntKind.u64.wrap a=(a.natAbs:Int):=by rw [IntKind.wrap_u64];omega
   simp only [SS,Nat.reduceAdd,d1,e1]
   refine ah M9 (by simp [aa.int]) ?_
   simp only [SS,Nat.reduceAdd]
   refine ah eE (by simp [aa.bool,ay]) ?_
   simp only [SS,Nat.reduceAdd,iV]
   refine ak▸ae (r:=IV a) ?_ (au _)
   simp only [RS,aY,a7,ao];rfl
end
end Go.VL
end

section
set_option linter.unusedVariables false
namespace Go.VL
theorem HY {ds:List Nat} {j a:Nat} (h:ds[j]? = some a):val (ds.drop j)=a+aE*val (ds.drop (j+1)):=by
 obtain ⟨h1,h2⟩:=List.getElem?_eq_some_iff.1 h
 rw [List.drop_eq_getElem_cons h1,h2];rfl
theorem XD {ds:List Nat} (h:Wd ds) (k:Nat):Wd (ds.drop k):=fun w hw=>h w (List.mem_of_mem_drop hw)
section
variable {P:Program} {G:Nat->Option (List AV)}
theorem Uu {f:FuncId} (h:Has P f j2) (n:Nat) (hn:n<18446744073709551616):VP P G f [W n] (.int .u64 (n:Int)):=by
 refine VP.has h ?_
 have hwn:=pI n hn
 have hwL:IntKind.i64.wrap ((ag n:Int)-1)=(ag n:Int)-1:=by rw [IntKind.wrap_i64];omega
 simp only [j2,SS,Nat.reduceAdd,bg,hwL,aK]
 refine VW.dQ (α := Nat × Nat × Nat) (fun x=>⟨[W n, .top, .top, .int .u64 (x.2.2:Int), .int .i64 ((x.1:Int)-1)]++List.replicate 16 .top,fun _=>none,x.2.1⟩)
   (fun x=>x.1<=ag n/\x.2.2=val ((digits n).drop x.1)) (fun x=>x.1) (ag n,1000,0) ?_ ?_ ?_
 . exact Wk.slots (by simp [Fg,List.replicate]) (by simp only [];omega)
 . refine ⟨Nat.le_refl _, ?_⟩
   show 0=val ((digits n).drop (ag n))
   rw [List.drop_eq_nil_of_le (show (digits n).length<=ag n from Nat.le_refl _)];rfl
 rintro ⟨k,nn,r⟩ ⟨hk,hv⟩
 simp only [] at hk hv
 by_cases h0:k=0
 . subst h0
   have d0:decide ((0:Int)<=((0:Nat):Int)-1)=false:=by decide
   rw [List.drop_zero,aU] at hv
   subst hv
   simp only [SS,Nat.reduceAdd,d0]
   exact ak▸ae rfl (aa.int _ _)
 . obtain ⟨j,rfl⟩:∃ j,k=j+1:=⟨k-1,by omega⟩
   have d0:decide ((0:Int)<=(j:Int))=true:=aw (by omega)
   have hj:((j+1:Nat):Int)-1=(j:Int):=by omega
   have NF:IntKind.i64.wrap ((j:Int)-1)=(j:Int)-1:=by rw [IntKind.wrap_i64];omega
   obtain ⟨a,ha⟩:∃ a,(digits n)[j]? = some a:=⟨_,List.getElem?_eq_getElem (show j<ag n by omega)⟩
   have xg:=aX n a (List.mem_of_getElem? ha)
   have f1:=bn a xg
   have LN:r<aE:=by
     have h1:=mA (XD (aX n) (j+1))
     rw [<- hv,List.length_drop] at h1
     have h2:aE ^ ((digits n).length-(j+1))<=aE ^ 1:=Nat.pow_le_pow_right cV (by show ag n-(j+1)<=1;omega)
     rw [Nat.pow_one] at h2;omega
   have f2:=A2 r LN
   have f3:=I0 r a LN xg
   have hv':aE*r+a=val ((digits n).drop j):=by rw [HY ha,hv,Nat.add_comm]
   have hjw:j<=ag n:=by omega
   simp only [SS,Nat.reduceAdd,d0,hj,de ha,aH,bl,f1,f2,f3,NF]
   exact ⟨(j,_,aE*r+a),⟨hjw,hv'⟩,Nat.lt_succ_self j,Wk.slots (by simp [Fg]) (Nat.le_refl _)⟩
theorem L6 {f:FuncId} (h:Has P f ja) (m n:Nat) (hm:ag m<=1000000) (_hn:ag n<=1000000):VP P G f [W m,W n] (.int .i64 (fP m n)):=by
 refine VP.has h ?_
 simp only [ja,SS,Nat.reduceAdd,bg]
 by_cases hl:ag m=ag n
 case neg =>
   have d:decide ((ag m:Int)≠(ag n:Int))=true:=aw (by omega)
   rcases Nat.lt_or_ge (ag m) (ag n) with h1 | h1
   . have h2:=xf h1
     have d1:decide ((ag m:Int)<(ag n:Int))=true:=aw (by omega)
     have e:fP m n = -1-0:=by unfold fP;rw [zH (by omega)];rfl
     rw [e]
     simp only [SS,Nat.reduceAdd,bg,d,d1]
     exact ak▸ae rfl (aa.int _ _)
   . have h1':ag n<ag m:=by omega
     have h2:=xf h1'
     have d1:decide ((ag m:Int)<(ag n:Int))=false:=ar (by omega)
     have e:fP m n=1:=by unfold fP;rw [zI (by omega)]
     rw [e]
     simp only [SS,Nat.reduceAdd,bg,d,d1]
     exact ak▸ae rfl (aa.int _ _)
 have d:decide ((ag m:Int)≠(ag n:Int))=false:=ar (by omega)
 have ew:IntKind.i64.wrap ((ag m:Int)-1)=(ag m:Int)-1:=by rw [IntKind.wrap_i64];omega
 have hd0:(digits m).drop (ag m)=(digits n).drop (ag m):=by
   have e1:(digits m).drop (ag m)=[]:=List.drop_of_length_le (Nat.le_refl _)
   have e2:(digits n).drop (ag m)=[]:=List.drop_of_length_le (by show ag n<=ag m;omega)
   rw [e1,e2]
 simp only [SS,Nat.reduceAdd,bg,d,ew,aK]
 refine VW.dQ (α := Nat × Nat) (fun x=>⟨[W m,W n, .top, .top, .top, .int .i64 ((x.1:Int)-1)]++List.replicate 35 .top,fun _=>none,x.2⟩) (fun x=>x.1<=ag m/\(digits m).drop x.1=(digits n).drop x.1) (fun x=>x.1) (ag m,1000) ?_
   ⟨Nat.le_refl _,hd0⟩ ?_
 . exact Wk.slots (by simp [Fg,List.replicate]) (by simp only [];omega)
 rintro ⟨j,q⟩ ⟨hj,hd⟩
 simp only [] at hj hd
 simp only [SS,Nat.reduceAdd]
 by_cases h0:j=0
 . subst h0
   have d0:decide ((0:Int)<=((0:Nat):Int)-1)=false:=by decide
   simp only [SS,d0]
   have e:m=n:=by
     simp only [List.drop_zero] at hd
     rw [<- aU m,hd,aU]
   have e2:fP m n=0:=PQ (by omega)
   rw [e2]
   exact ak▸ae rfl (aa.int _ _)
 . have p8:0<j:=Nat.pos_of_ne_zero h0
   have d0:decide ((0:Int)<=((j-1:Nat):Int))=true:=aw (by omega)
   have ej:(j:Int)-1=((j-1:Nat):Int):=by omega
   have hjm:j-1<(digits m).length:=by show j-1<ag m;omega
   have QC:j-1<(digits n).length:=by show j-1<ag n;omega
   have ew2:IntKind.i64.wrap (((j-1:Nat):Int)-1)=((j-1:Nat):Int)-1:=by rw [IntKind.wrap_i64];omega
   obtain ⟨x,hx⟩:∃ x,(digits m)[j-1]? = some x:=⟨_,List.getElem?_eq_getElem hjm⟩
   obtain ⟨y,hy⟩:∃ y,(digits n)[j-1]? = some y:=⟨_,List.getElem?_eq_getElem QC⟩
   have Wt:(digits m).drop (j-1+1)=(digits n).drop (j-1+1):=by rw [show j-1+1=j from by omega];exact hd
   rcases Nat.lt_trichotomy x y with h1 | h1 | h1
   . have e:fP m n = -1-0:=by
       have:=Ff (aX m) (aX n) hl hx hy Wt h1
       rw [aU,aU] at this
       unfold fP;rw [zH (by omega)];rfl
     have d1:decide ((x:Int)<(y:Int))=true:=aw (by omega)
     rw [e]
     simp only [SS,DD,Nat.reduceAdd,d0,ej,de hx,de hy,aH,bl,d1]
     refine ⟨by simp [ab], ?_⟩
     exact ak▸ae rfl (aa.int _ _)
   . have d1:decide ((x:Int)<(y:Int))=false:=ar (by omega)
     have d2:decide ((y:Int)<(x:Int))=false:=ar (by omega)
     simp only [SS,DD,Nat.reduceAdd,d0,ej,de hx,de hy,aH,bl,d1]
     refine ⟨by simp [ab], ?_⟩
     simp only [SS,Nat.reduceAdd,d2,ew2]
     refine ⟨by simp [ab],(j-1,_),⟨by simp only [];omega, ?_⟩,by simp only [];omega,Wk.slots (by simp [Fg]) (Nat.le_refl _)⟩
     simp only []
     rw [List.drop_eq_getElem_cons hjm,List.drop_eq_getElem_cons QC,Wt]
     obtain ⟨_,h1'⟩:=List.getElem?_eq_some_iff.1 hx
     obtain ⟨_,Y7⟩:=List.getElem?_eq_some_iff.1 hy
     rw [h1',Y7,h1]
   . have e:fP m n=1:=by
       have:=Ff (aX n) (aX m) hl.symm hy hx Wt.symm h1
       rw [aU,aU] at this
       unfold fP;rw [zI (by omega)]
     have d1:decide ((x:Int)<(y:Int))=false:=ar (by omega)
     have d2:decide ((y:Int)<(x:Int))=true:=aw (by omega)
     rw [e]
     simp only [SS,DD,Nat.reduceAdd,d0,ej,de hx,de hy,aH,bl,d1]
     refine ⟨by simp [ab], ?_⟩
     simp only [SS,d2]
     refine ⟨by simp [ab], ?_⟩
     exact ak▸ae rfl (aa.int _ _)
end
end Go.VL
end

section
set_option linter.unusedVariables false
namespace Go.VL
theorem zJ {x y c:Nat} (hx:x<aE) (hy:y<aE) (hc:c<=1):∃ w c':Nat,w<aE/\c'<=1/\w+y+c=x+aE*c' /\
   (∃ d:Nat,IntKind.u64.wrap (IntKind.u64.wrap (IntKind.u64.wrap ((x:Int)+4294967296)-(y:Int))-(c:Int))=(d:Int)/\IntKind.u32.wrap (d:Int)=(w:Int)/\IntKind.u64.wrap (1-((d/aE:Nat):Int))=(c':Int)):=by
 have h1:IntKind.u64.wrap ((x:Int)+4294967296)=((x+4294967296:Nat):Int):=by rw [IntKind.wrap_u64];unfold aE at *;omega
 have h2:IntKind.u64.wrap (((x+4294967296:Nat):Int)-(y:Int))=((x+4294967296-y:Nat):Int):=by rw [IntKind.wrap_u64];unfold aE at *;omega
 have h3:IntKind.u64.wrap (((x+4294967296-y:Nat):Int)-(c:Int))=((x+4294967296-y-c:Nat):Int):=by rw [IntKind.wrap_u64];unfold aE at *;omega
 rw [h1,h2,h3]
 unfold aE at *
 by_cases h:y+c<=x
 . refine ⟨x-y-c,0,by omega,by omega,by omega,_,rfl, ?_, ?_⟩
   . rw [IntKind.wrap_u32];omega
   . rw [IntKind.wrap_u64];omega
 . refine ⟨x+4294967296-y-c,1,by omega,by omega,by omega,_,rfl, ?_, ?_⟩
   . rw [IntKind.wrap_u32];omega
   . rw [IntKind.wrap_u64];omega
section
variable {P:Program} {G:Nat->Option (List AV)}
set_option maxHeartbeats 1000000 in
theorem Uv {f ft:FuncId} (h:Has P f (kP ft)) (ht:iT P G ft) (m n:Nat) (hm:ag m<=1000000) (hn:ag n<=1000000):VP P G f [W m,W n] (W (m+n)):=by
 refine VP.has h ?_
 simp only [kP,SS,Nat.reduceAdd,bg]
 by_cases Uw:(¬ ag m<ag n)
 . have d0:decide ((ag m:Int)<(ag n:Int))=false:=by first | exact aw (by omega) | exact ar (by omega)
   have hL:=oP (ag m) 1 (by omega)
   have hL':IntKind.i64.wrap ((ag m:Int)+1)=((ag m+1:Nat):Int):=hL
   have sr:∀ p:Id,jm p 1 4 (.int .u32 0) (.int .i64 ((ag m+1:Nat):Int)) (.int .i64 ((ag m+1:Nat):Int))=some { val := .osl p 1 0 (ag m+1) false,up:=[(p,some ⟨us (List.replicate (ag m+1) 0),1,false⟩)] }:=fun p=>nH (by omega)
   simp only [SS,Nat.reduceAdd,bg,d0,hL',sr,aK]
   refine VW.dQ (α := Nat × Nat × List Nat × Nat) (fun x=>⟨[W m,W n, .top, .top, .top, .osl [9] 1 0 (ag m+1) false, .int .u64 (x.2.2.2:Int), .int .i64 (x.1:Int)]++List.replicate 50 .top,
     af.put (fun _=>none) [9] (some ⟨us (x.2.2.1++zs (ag m+1-x.1)),1,false⟩),x.2.1⟩)
     (fun x=>x.1<=ag m/\x.2.2.1.length=x.1/\Wd x.2.2.1/\x.2.2.2<=1/\val x.2.2.1+aE ^ x.1*x.2.2.2=val ((digits m).take x.1)+val ((digits n).take x.1)) (fun x=>ag m-x.1) (0,1000,[],0) ?_ ?_ ?_
   . exact Wk.slots (by simp [Fg,List.replicate]) (by simp only [];omega)
   . exact ⟨Nat.zero_le _,rfl,by intro w hw;simp at hw,Nat.zero_le _,by simp [val]⟩
   rintro ⟨i,nn,o,c⟩ ⟨hi,ho,hwd,hc,hv⟩
   simp only [] at hi ho hwd hc hv
   have qS:i<ag m->decide ((i:Int)<(ag m:Int))=true:=fun h=>aw (by omega)
   have xK : ¬ i<ag m->decide ((i:Int)<(ag m:Int))=false:=fun h=>ar (by omega)
   have LL:i<ag n->decide ((i:Int)<(ag n:Int))=true:=fun h=>aw (by omega)
   have LM : ¬ i<ag n->decide ((i:Int)<(ag n:Int))=false:=fun h=>ar (by omega)
   have dD : ¬ i<ag m->i=ag m:=by omega
   have sP:=aI i (by omega)
   have jq:i<ag m->i+1<=ag m/\ag m-(i+1)<ag m-i:=fun h=>by omega
   have nX:=cN (q:=[9]) (t:=false) (show i<ag m+1 by omega)
   obtain ⟨k,hk⟩:∃ k,ag m+1-i=k+1:=⟨ag m-i,by omega⟩
   have D6:ag m+1-(i+1)=k:=by omega
   have zB:i<(o++0::zs k).length:=by simp;omega
   by_cases hlt:i<ag m
   . obtain ⟨x,hx⟩:∃ x,(digits m)[i]? = some x:=⟨_,List.getElem?_eq_getElem hlt⟩
     have rX:=aX m x (List.mem_of_getElem? hx)
     have f1:=bn x rX
     have f2:=p6 c x (by unfold aE at rX;omega)
     by_cases hb:i<ag n
     . obtain ⟨y,hy⟩:∃ y,(digits n)[i]? = some y:=⟨_,List.getElem?_eq_getElem hb⟩
       have DY:=aX n y (List.mem_of_getElem? hy)
       have f3:=bn y DY
       have f4:=p6 (c+x) y (by unfold aE at rX DY;omega)
       have hst:=nb (x:=x) (y:=y) ho hv rfl
       have hc':(c+x+y)/aE<=1:=by unfold aE at *;omega
       simp only [SS,Nat.reduceAdd,bg,qS hlt,de hx,aH,bl,f1,f2,LL hb,de hy,f3,f4,nX,yf,hk,iU]
       rw [bO (o:=o++0::zs k) (by simp [af.put]) zB,fD _ _ _ _ ho]
       simp only [SS,Nat.reduceAdd,o8,sP]
       refine ⟨(i+1,_,o++[(c+x+y)%aE],(c+x+y)/aE),⟨(jq hlt).1,by simp [ho],pO hwd _,hc', ?_⟩,(jq hlt).2,Wk.forget (by simp [Fg]) (fun j => ?_) (Nat.le_refl _)⟩
       . show val (o++[(c+x+y)%aE])+_=val ((digits m).take (i+1))+val ((digits n).take (i+1))
         rw [aM hx,aM hy];exact hst
       . simp only [af.put,D6];split<;>simp
     . have hst:=nb (x:=x) (y:=0) ho hv rfl
       rw [Nat.mul_zero,Nat.add_zero,Nat.add_zero] at hst
       have hc':(c+x)/aE<=1:=by unfold aE at *;omega
       simp only [SS,Nat.reduceAdd,bg,qS hlt,de hx,aH,bl,f1,f2,LM hb,nX,yf,hk,iU]
       rw [bO (o:=o++0::zs k) (by simp [af.put]) zB,fD _ _ _ _ ho]
       simp only [SS,Nat.reduceAdd,o8,sP]
       refine ⟨(i+1,_,o++[(c+x)%aE],(c+x)/aE),⟨(jq hlt).1,by simp [ho],pO hwd _,hc', ?_⟩,(jq hlt).2,Wk.forget (by simp [Fg]) (fun j => ?_) (Nat.le_refl _)⟩
       . show val (o++[(c+x)%aE])+_=val ((digits m).take (i+1))+val ((digits n).take (i+1))
         rw [aM hx,jk (show (digits n).length<=i from by show ag n<=i;omega)];exact hst
       . simp only [af.put,D6];split<;>simp
   . have pP:=dD hlt
     have hcB:c<aE:=by unfold aE;omega
     have f5:IntKind.u32.wrap (c:Int)=(c:Int):=by rw [yf,Nat.mod_eq_of_lt hcB]
     have abn:=cN (q:=[9]) (t:=false) (show ag m<ag m+1 by omega)
     have QI:k=0:=by omega
     have QG:ag m<(o++0::zs k).length:=by simp;omega
     have e1:(digits m).take (ag m)=digits m:=List.take_of_length_le (Nat.le_refl _)
     have e2:(digits n).take (ag m)=digits n:=List.take_of_length_le (by show ag n<=ag m;omega)
     have AA:val (o++[c])=m+n:=by
       rw [cm,ho];simp only [val,Nat.mul_zero,Nat.add_zero]
       rw [hv,pP,e1,e2,aU,aU]
       all_goals omega
     have Xp:Wd (o++[c]):=cM hwd (by intro z hz;simp at hz;subst hz;exact hcB)
     have yi:ag m+1=(o++[c]).length:=by simp [ho,pP]
     have zG:=ht (o++[c]) Xp (by rw [<- yi];omega)
     rw [AA] at zG
     simp only [SS,Nat.reduceAdd,bg,xK hlt,f5,abn,hk,iU]
     rw [bO (o:=o++0::zs k) (by simp [af.put]) QG,fD _ _ _ _ (ho.trans pP),QI,xh]
     simp only [SS,Nat.reduceAdd]
     refine bB [([9],⟨us (o++[c]),1,false⟩)] zG (aF.cons (hH yi) aF.nil) (by simp [af.put]) ?_
     simp only [SS,Nat.reduceAdd]
     exact ak▸ae rfl (ay _)
 by_cases XE:(ag m<ag n)
 . have d0:decide ((ag m:Int)<(ag n:Int))=true:=by first | exact aw (by omega) | exact ar (by omega)
   have hL:=oP (ag n) 1 (by omega)
   have hL':IntKind.i64.wrap ((ag n:Int)+1)=((ag n+1:Nat):Int):=hL
   have sr:∀ p:Id,jm p 1 4 (.int .u32 0) (.int .i64 ((ag n+1:Nat):Int)) (.int .i64 ((ag n+1:Nat):Int))=some { val := .osl p 1 0 (ag n+1) false,up:=[(p,some ⟨us (List.replicate (ag n+1) 0),1,false⟩)] }:=fun p=>nH (by omega)
   simp only [SS,Nat.reduceAdd,bg,d0,hL',sr,aK]
   refine VW.dQ (α := Nat × Nat × List Nat × Nat) (fun x=>⟨[W n,W m, .top, .top, .top, .osl [13] 1 0 (ag n+1) false, .int .u64 (x.2.2.2:Int), .int .i64 (x.1:Int)]++List.replicate 50 .top,
     af.put (fun _=>none) [13] (some ⟨us (x.2.2.1++zs (ag n+1-x.1)),1,false⟩),x.2.1⟩)
     (fun x=>x.1<=ag n/\x.2.2.1.length=x.1/\Wd x.2.2.1/\x.2.2.2<=1/\val x.2.2.1+aE ^ x.1*x.2.2.2=val ((digits n).take x.1)+val ((digits m).take x.1)) (fun x=>ag n-x.1) (0,1000,[],0) ?_ ?_ ?_
   . exact Wk.slots (by simp [Fg,List.replicate]) (by simp only [];omega)
   . exact ⟨Nat.zero_le _,rfl,by intro w hw;simp at hw,Nat.zero_le _,by simp [val]⟩
   rintro ⟨i,nn,o,c⟩ ⟨hi,ho,hwd,hc,hv⟩
   simp only [] at hi ho hwd hc hv
   have qS:i<ag n->decide ((i:Int)<(ag n:Int))=true:=fun h=>aw (by omega)
   have xK : ¬ i<ag n->decide ((i:Int)<(ag n:Int))=false:=fun h=>ar (by omega)
   have LL:i<ag m->decide ((i:Int)<(ag m:Int))=true:=fun h=>aw (by omega)
   have LM : ¬ i<ag m->decide ((i:Int)<(ag m:Int))=false:=fun h=>ar (by omega)
   have dD : ¬ i<ag n->i=ag n:=by omega
   have sP:=aI i (by omega)
   have jq:i<ag n->i+1<=ag n/\ag n-(i+1)<ag n-i:=fun h=>by omega
   have nX:=cN (q:=[13]) (t:=false) (show i<ag n+1 by omega)
   obtain ⟨k,hk⟩:∃ k,ag n+1-i=k+1:=⟨ag n-i,by omega⟩
   have D6:ag n+1-(i+1)=k:=by omega
   have zB:i<(o++0::zs k).length:=by simp;omega
   by_cases hlt:i<ag n
   . obtain ⟨x,hx⟩:∃ x,(digits n)[i]? = some x:=⟨_,List.getElem?_eq_getElem hlt⟩
     have rX:=aX n x (List.mem_of_getElem? hx)
     have f1:=bn x rX
     have f2:=p6 c x (by unfold aE at rX;omega)
     by_cases hb:i<ag m
     . obtain ⟨y,hy⟩:∃ y,(digits m)[i]? = some y:=⟨_,List.getElem?_eq_getElem hb⟩
       have DY:=aX m y (List.mem_of_getElem? hy)
       have f3:=bn y DY
       have f4:=p6 (c+x) y (by unfold aE at rX DY;omega)
       have hst:=nb (x:=x) (y:=y) ho hv rfl
       have hc':(c+x+y)/aE<=1:=by unfold aE at *;omega
       simp only [SS,Nat.reduceAdd,bg,qS hlt,de hx,aH,bl,f1,f2,LL hb,de hy,f3,f4,nX,yf,hk,iU]
       rw [bO (o:=o++0::zs k) (by simp [af.put]) zB,fD _ _ _ _ ho]
       simp only [SS,Nat.reduceAdd,o8,sP]
       refine ⟨(i+1,_,o++[(c+x+y)%aE],(c+x+y)/aE),⟨(jq hlt).1,by simp [ho],pO hwd _,hc', ?_⟩,(jq hlt).2,Wk.forget (by simp [Fg]) (fun j => ?_) (Nat.le_refl _)⟩
       . show val (o++[(c+x+y)%aE])+_=val ((digits n).take (i+1))+val ((digits m).take (i+1))
         rw [aM hx,aM hy];exact hst
       . simp only [af.put,D6];split<;>simp
     . have hst:=nb (x:=x) (y:=0) ho hv rfl
       rw [Nat.mul_zero,Nat.add_zero,Nat.add_zero] at hst
       have hc':(c+x)/aE<=1:=by unfold aE at *;omega
       simp only [SS,Nat.reduceAdd,bg,qS hlt,de hx,aH,bl,f1,f2,LM hb,nX,yf,hk,iU]
       rw [bO (o:=o++0::zs k) (by simp [af.put]) zB,fD _ _ _ _ ho]
       simp only [SS,Nat.reduceAdd,o8,sP]
       refine ⟨(i+1,_,o++[(c+x)%aE],(c+x)/aE),⟨(jq hlt).1,by simp [ho],pO hwd _,hc', ?_⟩,(jq hlt).2,Wk.forget (by simp [Fg]) (fun j => ?_) (Nat.le_refl _)⟩
       . show val (o++[(c+x)%aE])+_=val ((digits n).take (i+1))+val ((digits m).take (i+1))
         rw [aM hx,jk (show (digits m).length<=i from by show ag m<=i;omega)];exact hst
       . simp only [af.put,D6];split<;>simp
   . have pP:=dD hlt
     have hcB:c<aE:=by unfold aE;omega
     have f5:IntKind.u32.wrap (c:Int)=(c:Int):=by rw [yf,Nat.mod_eq_of_lt hcB]
     have abn:=cN (q:=[13]) (t:=false) (show ag n<ag n+1 by omega)
     have QI:k=0:=by omega
     have QG:ag n<(o++0::zs k).length:=by simp;omega
     have e1:(digits n).take (ag n)=digits n:=List.take_of_length_le (Nat.le_refl _)
     have e2:(digits m).take (ag n)=digits m:=List.take_of_length_le (by show ag m<=ag n;omega)
     have AA:val (o++[c])=m+n:=by
       rw [cm,ho];simp only [val,Nat.mul_zero,Nat.add_zero]
       rw [hv,pP,e1,e2,aU,aU]
       all_goals omega
     have Xp:Wd (o++[c]):=cM hwd (by intro z hz;simp at hz;subst hz;exact hcB)
     have yi:ag n+1=(o++[c]).length:=by simp [ho,pP]
     have zG:=ht (o++[c]) Xp (by rw [<- yi];omega)
     rw [AA] at zG
     simp only [SS,Nat.reduceAdd,bg,xK hlt,f5,abn,hk,iU]
     rw [bO (o:=o++0::zs k) (by simp [af.put]) QG,fD _ _ _ _ (ho.trans pP),QI,xh]
     simp only [SS,Nat.reduceAdd]
     refine bB [([13],⟨us (o++[c]),1,false⟩)] zG (aF.cons (hH yi) aF.nil) (by simp [af.put]) ?_
     simp only [SS,Nat.reduceAdd]
     exact ak▸ae rfl (ay _)
 exact absurd XE Uw
set_option maxHeartbeats 1000000 in
theorem I9 {f ft:FuncId} (h:Has P f (dU ft)) (ht:iT P G ft) (m n:Nat) (qU:n<=m) (hm:ag m<=1000000):VP P G f [W m,W n] (W (m-n)):=by
 refine VP.has h ?_
 have hwn:=bE qU
 have sr:∀ p:Id,jm p 1 4 (.int .u32 0) (.int .i64 (ag m:Int)) (.int .i64 (ag m:Int))=some { val := .osl p 1 0 (ag m) false,up:=[(p,some ⟨us (List.replicate (ag m) 0),1,false⟩)] }:=fun p=>nH (by omega)
 simp only [dU,SS,Nat.reduceAdd,bg,sr,aK]
 refine VW.dQ (α := Nat × Nat × List Nat × Nat) (fun x=>⟨[W m,W n, .top, .top, .top, .osl [3] 1 0 (ag m) false, .int .u64 (x.2.2.2:Int), .int .i64 (x.1:Int)]++List.replicate 40 .top,
   af.put (fun _=>none) [3] (some ⟨us (x.2.2.1++zs (ag m-x.1)),1,false⟩),x.2.1⟩)
   (fun x=>x.1<=ag m/\x.2.2.1.length=x.1/\Wd x.2.2.1/\x.2.2.2<=1/\val x.2.2.1+val ((digits n).take x.1)=val ((digits m).take x.1)+aE ^ x.1*x.2.2.2) (fun x=>ag m-x.1) (0,1000,[],0) ?_ ?_ ?_
 . exact Wk.slots (by simp [Fg,List.replicate]) (by simp only [];omega)
 . exact ⟨Nat.zero_le _,rfl,by intro w hw;simp at hw,Nat.zero_le _,by simp [val]⟩
 rintro ⟨i,nn,o,c⟩ ⟨hi,ho,hwd,hc,hv⟩
 simp only [] at hi ho hwd hc hv
 have qS:i<ag m->decide ((i:Int)<(ag m:Int))=true:=fun h=>aw (by omega)
 have xK : ¬ i<ag m->decide ((i:Int)<(ag m:Int))=false:=fun h=>ar (by omega)
 have LL:i<ag n->decide ((i:Int)<(ag n:Int))=true:=fun h=>aw (by omega)
 have LM : ¬ i<ag n->decide ((i:Int)<(ag n:Int))=false:=fun h=>ar (by omega)
 have dD : ¬ i<ag m->i=ag m:=by omega
 have sP:=aI i (by omega)
 have jq:i<ag m->i+1<=ag m/\ag m-(i+1)<ag m-i:=fun h=>by omega
 by_cases hlt:i<ag m
 . obtain ⟨x,hx⟩:∃ x,(digits m)[i]? = some x:=⟨_,List.getElem?_eq_getElem hlt⟩
   have rX:=aX m x (List.mem_of_getElem? hx)
   have f1:=bn x rX
   have nX:=cN (q:=[3]) (t:=false) hlt
   obtain ⟨k,hk⟩:∃ k,ag m-i=k+1:=⟨ag m-i-1,by omega⟩
   have D6:ag m-(i+1)=k:=by omega
   have zB:i<(o++0::zs k).length:=by simp;omega
   by_cases hb:i<ag n
   . obtain ⟨y,hy⟩:∃ y,(digits n)[i]? = some y:=⟨_,List.getElem?_eq_getElem hb⟩
     have DY:=aX n y (List.mem_of_getElem? hy)
     have f3:=bn y DY
     obtain ⟨w,c',h1,h2,h3,d,h4,h5,h6⟩:=zJ rX DY hc
     have hst:=nQ (va:=val ((digits m).take i)) (vb:=val ((digits n).take i)) (x:=x) (y:=y) (c:=c) (w:=w) (c':=c') ho (by rw [hv];omega) h3
     simp only [SS,Nat.reduceAdd,bg,qS hlt,de hx,aH,bl,f1,LL hb,de hy,f3,h4,h5,nX,hk,iU]
     rw [bO (o:=o++0::zs k) (by simp [af.put]) zB,fD _ _ _ _ ho]
     simp only [SS,Nat.reduceAdd,o8,h6,sP]
     refine ⟨(i+1,_,o++[w],c'),⟨(jq hlt).1,by simp [ho],cM hwd (by intro z hz;simp at hz;subst hz;exact h1),h2, ?_⟩,(jq hlt).2,Wk.forget (by simp [Fg]) (fun j => ?_) (Nat.le_refl _)⟩
     . show val (o++[w])+val ((digits n).take (i+1))=val ((digits m).take (i+1))+_
       rw [aM hx,aM hy];exact hst
     . simp only [af.put,D6];split<;>simp
   . obtain ⟨w,c',h1,h2,h3,d,h4,h5,h6⟩:=zJ (y:=0) rX cV hc
     have h4':IntKind.u64.wrap (IntKind.u64.wrap (IntKind.u64.wrap ((x:Int)+4294967296)-0)-(c:Int))=(d:Int):=h4
     have hst:=nQ (va:=val ((digits m).take i)) (vb:=val ((digits n).take i)) (x:=x) (y:=0) (c:=c) (w:=w) (c':=c') ho (by rw [hv];omega) h3
     rw [Nat.mul_zero,Nat.add_zero] at hst
     simp only [SS,Nat.reduceAdd,bg,qS hlt,de hx,aH,bl,f1,LM hb,h4',h5,nX,hk,iU]
     rw [bO (o:=o++0::zs k) (by simp [af.put]) zB,fD _ _ _ _ ho]
     simp only [SS,Nat.reduceAdd,o8,h6,sP]
     refine ⟨(i+1,_,o++[w],c'),⟨(jq hlt).1,by simp [ho],cM hwd (by intro z hz;simp at hz;subst hz;exact h1),h2, ?_⟩,(jq hlt).2,Wk.forget (by simp [Fg]) (fun j => ?_) (Nat.le_refl _)⟩
     . show val (o++[w])+val ((digits n).take (i+1))=val ((digits m).take (i+1))+_
       rw [aM hx,jk (show (digits n).length<=i from by show ag n<=i;omega)];exact hst
     . simp only [af.put,D6];split<;>simp
 . have pP:=dD hlt
   have e1:(digits m).take (ag m)=digits m:=List.take_of_length_le (Nat.le_refl _)
   have e2:(digits n).take (ag m)=digits n:=List.take_of_length_le (by show ag n<=ag m;omega)
   have AA:val o=m-n:=by
     rw [pP,e1,e2,aU,aU] at hv
     have ym:=mA hwd
     rw [ho,pP] at ym
     rcases Nat.eq_zero_or_pos c with h0 | h0
     . subst h0;omega
     . have:c=1:=by omega
       subst this;have:=cU m;omega
   have yi:ag m=o.length:=by omega
   have e3:zs (ag m-i)=[]:=by rw [pP,Nat.sub_self];rfl
   have zG:=ht o hwd (by omega)
   rw [AA] at zG
   simp only [SS,Nat.reduceAdd,bg,xK hlt,e3]
   refine bB [([3],⟨us o,1,false⟩)] zG (aF.cons (hH yi) aF.nil) (by simp [af.put]) ?_
   simp only [SS,Nat.reduceAdd]
   exact ak▸ae rfl (ay _)
end
end Go.VL
end

section
set_option linter.unusedVariables false
namespace Go.VL
section
variable {P:Program} {G:Nat->Option (List AV)}
set_option maxHeartbeats 1000000 in
theorem GZ {f ft:FuncId} (h:Has P f (gQ ft)) (ht:iT P G ft) (m:Nat) {ws:List Nat} (Rc:Wd ws) (hm:ag m<=1000000) (hn:ws.length<=1000000):VP P G f [W m, .sl 1 (us ws)] (W (m*val ws)):=by
 refine VP.has h ?_
 have sr:∀ p:Id,jm p 1 4 (.int .u32 0) (.int .i64 ((ag m+ws.length:Nat):Int)) (.int .i64 ((ag m+ws.length:Nat):Int))=some { val := .osl p 1 0 (ag m+ws.length) false,up:=[(p,some ⟨us (List.replicate (ag m+ws.length) 0),1,false⟩)] }:=fun p=>nH (by omega)
 have hL:=oP (ag m) (ws.length) (by omega)
 simp only [gQ,SS,Nat.reduceAdd,bg,gj,hL,sr,aK]
 refine VW.dQ (α := Nat × Nat × List Nat) (fun x=>⟨[W m, .sl 1 (us ws), .top, .top, .top, .osl [6] 1 0 (ag m+ws.length) false, .int .i64 (x.1:Int)]++List.replicate 60 .top,
   af.put (fun _=>none) [6] (some ⟨us x.2.2,1,false⟩),x.2.1⟩)
   (fun x=>x.1<=ag m/\x.2.2.length=ag m+ws.length/\Wd x.2.2/\val x.2.2=val ((digits m).take x.1)*val ws) (fun x=>ag m-x.1) (0,1000,List.replicate (ag m+ws.length) 0) ?_ ?_ ?_
 . exact Wk.slots (by simp [Fg,List.replicate]) (by simp only [];omega)
 . exact ⟨Nat.zero_le _,List.length_replicate ..,GN _,by simp only [];rw [DU (fun w hw=>List.eq_of_mem_replicate hw)];simp [val]⟩
 rintro ⟨i,nn,o⟩ ⟨hi,ho,hwd,hv⟩
 simp only [] at hi ho hwd hv
 have qS:i<ag m->decide ((i:Int)<(ag m:Int))=true:=fun h=>aw (by omega)
 have xK : ¬ i<ag m->decide ((i:Int)<(ag m:Int))=false:=fun h=>ar (by omega)
 have dD : ¬ i<ag m->i=ag m:=by omega
 have sP:=aI i (by omega)
 have jq:i<ag m->i+1<=ag m/\ag m-(i+1)<ag m-i:=fun h=>by omega
 have p9:=oP i (ws.length) (by omega)
 have ND:i<ag m->i+ws.length<ag m+ws.length:=fun h=>by omega
 by_cases hlt:i<ag m
 . obtain ⟨a,ha⟩:∃ a,(digits m)[i]? = some a:=⟨_,List.getElem?_eq_getElem hlt⟩
   have xg:=aX m a (List.mem_of_getElem? ha)
   have f1:=bn a xg
   have Wz:o[i+ws.length]? = some 0:=by
     obtain ⟨y,hy⟩:∃ y,o[i+ws.length]? = some y:=⟨_,List.getElem?_eq_getElem (by rw [ho];exact ND hlt)⟩
     have e:=GO (k:=i+ws.length) (by
       rw [hv,Nat.pow_add]
       have h2:val ((digits m).take i)<aE ^ i:=by
         have:=mA (sN (aX m) i)
         rwa [List.length_take,Nat.min_eq_left (show i<=(digits m).length from Nat.le_of_lt hlt)] at this
       exact Nat.mul_lt_mul'' h2 (mA Rc)) hy
     rw [e] at hy;exact hy
   simp only [SS,Nat.reduceAdd,bg,qS hlt,aK]
   refine VW.dQ (α := Nat × Nat × List Nat × Nat) (fun x=>⟨[W m, .sl 1 (us ws), .top, .top, .top, .osl [6] 1 0 (ag m+ws.length) false, .int .i64 (i:Int), .int .u64 (x.2.2.2:Int), .int .i64 (x.1:Int)]++List.replicate 58 .top,
     af.put (fun _=>none) [6] (some ⟨us x.2.2.1,1,false⟩),x.2.1⟩)
     (fun x=>x.1<=ws.length/\x.2.2.1.length=ag m+ws.length/\Wd x.2.2.1/\x.2.2.2<aE/\x.2.2.1[i+ws.length]? = some 0/\val x.2.2.1+aE ^ (i+x.1)*x.2.2.2=val o+aE ^ i*(a*val (ws.take x.1))) (fun x=>ws.length-x.1) (0,nn+1000,o,0) ?_ ?_ ?_
   . exact Wk.slots (by simp [Fg,List.replicate]) (by simp only [];omega)
   . exact ⟨Nat.zero_le _,ho,hwd,cV,Wz,by simp [val]⟩
   rintro ⟨j,mm,o',c⟩ ⟨hj,Rh,JV,hc,hz,hv'⟩
   simp only [] at hj Rh JV hc hz hv'
   have LL:j<ws.length->decide ((j:Int)<(ws.length:Int))=true:=fun h=>aw (by omega)
   have LM : ¬ j<ws.length->decide ((j:Int)<(ws.length:Int))=false:=fun h=>ar (by omega)
   have KA : ¬ j<ws.length->j=ws.length:=by omega
   have NF:=aI j (by omega)
   have Tz:j<ws.length->j+1<=ws.length/\ws.length-(j+1)<ws.length-j:=fun h=>by omega
   have QZ:=oP i j (by omega)
   have NG:j<ws.length->i+j<ag m+ws.length:=fun h=>by omega
   have hne:j<ws.length->i+j≠i+ws.length:=fun h=>by omega
   by_cases C2:j<ws.length
   . obtain ⟨b,hb⟩:∃ b,ws[j]? = some b:=⟨_,List.getElem?_eq_getElem C2⟩
     have Hr:=Rc b (List.mem_of_getElem? hb)
     have f2:=bn b Hr
     obtain ⟨z,hzz⟩:∃ z,o'[i+j]? = some z:=⟨_,List.getElem?_eq_getElem (by rw [Rh];exact NG C2)⟩
     have Xo:=JV z (List.mem_of_getElem? hzz)
     have f3:=bn z Xo
     have f4:=PS a b xg Hr
     have hle:=NC xg Hr
     have f5:=p6 c z (by unfold aE at Xo hc;omega)
     have f6:=p6 (c+z) (a*b) (by unfold aE at Xo hc;omega)
     have hc':(c+z+a*b)/aE<aE:=by unfold aE at Xo hc ⊢;omega
     have nX:=cN (q:=[6]) (t:=false) (NG C2)
     have hst:=IZ (x:=a) (y:=b) (s:=c+z+a*b) hzz hv' (by omega)
     simp only [SS,DD,Nat.reduceAdd,gj,LL C2,QZ,nX]
     rw [js (o:=o') (b:=false) (by simp [af.put]) hzz]
     simp only [SS,DD,Nat.reduceAdd,f3,f5,de ha,iM rfl (xd hb),aH,bl,f1,f2,f4,f6]
     refine ⟨by simp [ab], ?_⟩
     simp only [SS,Nat.reduceAdd,yf,QZ,nX]
     rw [bO (o:=o') (by simp [af.put]) (by rw [Rh];exact NG C2)]
     simp only [SS,Nat.reduceAdd,o8,NF]
     refine ⟨(j+1,_,o'.set (i+j) ((c+z+a*b)%aE),(c+z+a*b)/aE),⟨(Tz C2).1,by simp [Rh],JU JV (Nat.mod_lt _ cV),hc', ?_, ?_⟩,(Tz C2).2,Wk.forget (by simp [Fg]) (fun j => ?_) (Nat.le_refl _)⟩
     . rw [List.getElem?_set_ne (hne C2)];exact hz
     . show _=val o+aE ^ i*(a*val (ws.take (j+1)))
       rw [aM hb];exact hst
     . simp only [af.put];split<;>simp
   . have hjw:=KA C2
     have nX:=cN (q:=[6]) (t:=false) (ND hlt)
     have f7:IntKind.u32.wrap (c:Int)=(c:Int):=by rw [yf,Nat.mod_eq_of_lt hc]
     have hval:val (o'.set (i+ws.length) c)=val ((digits m).take (i+1))*val ws:=by
       have e:=Fh (x:=c) hz
       have e2:ws.take ws.length=ws:=List.take_of_length_le (Nat.le_refl _)
       rw [hjw,e2,hv] at hv'
       rw [aM ha,Nat.add_mul]
       have e3:aE ^ i*a*val ws=aE ^ i*(a*val ws):=Nat.mul_assoc _ _ _
       omega
     simp only [SS,Nat.reduceAdd,gj,LM C2,p9,f7,nX]
     rw [bO (o:=o') (by simp [af.put]) (by rw [Rh];exact ND hlt)]
     simp only [SS,Nat.reduceAdd,sP]
     refine ⟨(i+1,_,o'.set (i+ws.length) c),⟨(jq hlt).1,by simp [Rh],JU JV hc,hval⟩,(jq hlt).2,Wk.forget (by simp [Fg]) (fun j => ?_) (Nat.le_refl _)⟩
     simp only [af.put];split<;>simp
 . have pP:=dD hlt
   have e1:(digits m).take (ag m)=digits m:=List.take_of_length_le (Nat.le_refl _)
   have AA:val o=m*val ws:=by rw [hv,pP,e1,aU]
   have zG:=ht o hwd (by rw [ho];omega)
   rw [AA] at zG
   simp only [SS,Nat.reduceAdd,bg,xK hlt]
   refine bB [([6],⟨us o,1,false⟩)] zG (aF.cons (hH ho.symm) aF.nil) (by simp [af.put]) ?_
   simp only [SS,Nat.reduceAdd]
   exact ak▸ae rfl (ay _)
theorem Rt {f ft:FuncId} (h:Has P f (gQ ft)) (ht:iT P G ft) (m n:Nat) (hm:ag m<=1000000) (hn:ag n<=1000000):VP P G f [W m,W n] (W (m*n)):=by
 have:=GZ (G:=G) h ht m (aX n) hm hn
 rw [aU] at this;exact this
theorem abo {f ft:FuncId} (h:Has P f (mR ft)) (ht:iT P G ft) (m w:Nat) (hm:ag m<=1000000) (hw:w<aE) (Nv:w≠0) :
   VP P G f [W m, .int .u32 (w:Int)] (.tup [W (m/w), .int .u32 ((m%w:Nat):Int)]):=by
 refine VP.has h ?_
 have sr:∀ p:Id,jm p 1 4 (.int .u32 0) (.int .i64 (ag m:Int)) (.int .i64 (ag m:Int))=some { val := .osl p 1 0 (ag m) false,up:=[(p,some ⟨us (List.replicate (ag m) 0),1,false⟩)] }:=fun p=>nH (by omega)
 have hwL:IntKind.i64.wrap ((ag m:Int)-1)=(ag m:Int)-1:=by rw [IntKind.wrap_i64];omega
 have f0:=bn w hw
 have hwz:((w:Nat):Int)≠0:=by omega
 simp only [mR,SS,Nat.reduceAdd,bg,sr,hwL,aK]
 refine VW.dQ (α := Nat × Nat × List Nat × Nat) (fun x=>⟨[W m, .int .u32 (w:Int), .top, .top, .top, .top, .osl [4] 1 0 (ag m) false, .int .u64 (x.2.2.2:Int), .int .i64 ((x.1:Int)-1)]++List.replicate 34 .top,
   af.put (fun _=>none) [4] (some ⟨us (zs x.1++x.2.2.1),1,false⟩),x.2.1⟩)
   (fun x=>x.1+x.2.2.1.length=ag m/\Wd x.2.2.1/\x.2.2.2<w/\val ((digits m).drop x.1)=val x.2.2.1*w+x.2.2.2) (fun x=>x.1) (ag m,1000,[],0) ?_ ?_ ?_
 . rw [List.append_nil];exact Wk.slots (by simp [Fg,List.replicate]) (by simp only [];omega)
 . refine ⟨by simp,by intro w hw;simp at hw,Nat.pos_of_ne_zero Nv, ?_⟩
   show val ((digits m).drop (ag m))=_
   rw [List.drop_eq_nil_of_le (show (digits m).length<=ag m from Nat.le_refl _)];simp [val]
 rintro ⟨k,nn,q,r⟩ ⟨hk,hwd,hr,hv⟩
 simp only [] at hk hwd hr hv
 by_cases h0:k=0
 . subst h0
   have d0:decide ((0:Int)<=((0:Nat):Int)-1)=false:=by decide
   have e:m/w=val q/\m%w=r:=by
     rw [List.drop_zero,aU] at hv
     refine (Nat.div_mod_unique (Nat.pos_of_ne_zero Nv)).2 ⟨?_,hr⟩
     rw [hv,Nat.mul_comm w];omega
   have zG:=ht q hwd (by omega)
   rw [<- e.1] at zG
   have f9:IntKind.u32.wrap (r:Int)=(r:Int):=by rw [yf,Nat.mod_eq_of_lt (by omega)]
   have hq:ag m=q.length:=by omega
   simp only [SS,Nat.reduceAdd,d0,xh]
   refine bB [([4],⟨us q,1,false⟩)] zG (aF.cons (hH hq) aF.nil) (by simp [af.put]) ?_
   simp only [SS,Nat.reduceAdd,f9]
   rw [e.2]
   exact ak▸ae rfl (aa.tup (by intro c hc;simp at hc;rcases hc with rfl | rfl;exact ay _;exact aa.int _ _))
 . obtain ⟨j,rfl⟩:∃ j,k=j+1:=⟨k-1,by omega⟩
   have d0:decide ((0:Int)<=(j:Int))=true:=aw (by omega)
   have hj:((j+1:Nat):Int)-1=(j:Int):=by omega
   have yd:j<ag m:=by omega
   have NF:IntKind.i64.wrap ((j:Int)-1)=(j:Int)-1:=by rw [IntKind.wrap_i64];omega
   obtain ⟨a,ha⟩:∃ a,(digits m)[j]? = some a:=⟨_,List.getElem?_eq_getElem yd⟩
   have xg:=aX m a (List.mem_of_getElem? ha)
   have f1:=bn a xg
   have LN:r<aE:=by omega
   have f2:=A2 r LN
   have f3:=I0 r a LN xg
   have hlt:aE*r+a<18446744073709551616:=by unfold aE at *;omega
   have f4:=I1 (aE*r+a) w hlt Nv
   have f5:=I3 (aE*r+a) w Nv
   have T4:(aE*r+a)/w<aE:=by
     rw [Nat.div_lt_iff_lt_mul (Nat.pos_of_ne_zero Nv)]
     have:aE*(r+1)<=aE*w:=Nat.mul_le_mul_left _ hr
     rw [Nat.mul_add] at this
     omega
   have f6:IntKind.u32.wrap (((aE*r+a)/w:Nat):Int)=(((aE*r+a)/w:Nat):Int):=by rw [yf,Nat.mod_eq_of_lt T4]
   have nX:=cN (q:=[4]) (t:=false) yd
   have Ze:j<(zs (j+1)++q).length:=by simp [zs];omega
   have hv':val ((digits m).drop j)=val ((aE*r+a)/w::q)*w+(aE*r+a)%w:=by
     rw [List.drop_eq_getElem_cons (show j<(digits m).length from yd)]
     obtain ⟨_,h2⟩:=List.getElem?_eq_some_iff.1 ha
     rw [h2]
     simp only [val]
     rw [hv,Nat.add_mul,Nat.mul_add,Nat.mul_assoc aE]
     have:=Nat.div_add_mod (aE*r+a) w
     rw [Nat.mul_comm] at this
     omega
   have TY:j+((aE*r+a)/w::q).length=ag m:=by simp;omega
   simp only [SS,Nat.reduceAdd,d0,hj,de ha,aH,bl,f0,f1,f2,f3,f4,f6,nX]
   rw [bO (o:=zs (j+1)++q) (by simp [af.put]) Ze,zi]
   simp only [SS,Nat.reduceAdd,f0,f5,NF]
   refine ⟨(j,_,(aE*r+a)/w::q,(aE*r+a)%w),⟨TY, ?_,Nat.mod_lt _ (Nat.pos_of_ne_zero Nv),hv'⟩,Nat.lt_succ_self j,Wk.forget (by simp [Fg]) (fun j => ?_) (Nat.le_refl _)⟩
   . intro z hz
     rcases List.mem_cons.1 hz with rfl | hz
     . exact T4
     . exact hwd z hz
   . simp only [af.put];split<;>simp
end
end Go.VL
end

section
set_option linter.unusedVariables false
namespace Go.VL
theorem L8 {x c:Nat} (hx:x<aE) (h0:0<x) (h1:x<2 ^ c) (h2:2 ^ c<=2*x):c=iC x:=by
 obtain ⟨a,b⟩:=Cr hx h0
 have e1:2 ^ c<2 ^ (iC x+1):=by rw [Nat.pow_succ];omega
 have e2:2 ^ iC x<2 ^ (c+1):=by rw [Nat.pow_succ];omega
 have:=(Nat.pow_lt_pow_iff_right (by decide:1<2)).1 e1
 have:=(Nat.pow_lt_pow_iff_right (by decide:1<2)).1 e2
 omega
theorem aht (a:Nat) (ha:a<aE):bM .quo .int (.int .u32 (a:Int)) (.int .u32 2)=some (.int .u32 ((a/2:Nat):Int)):=by
 rw [JI (by decide)]
 show some (AV.int .u32 (IntKind.u32.wrap ((a/2:Nat):Int)))=_
 rw [yf,Nat.mod_eq_of_lt (by unfold aE at *;omega)]
theorem Ru {x y s:Nat} (hs:s<=32) (hx:x<aE):((aE*y+x)/2 ^ s)%aE=x/2 ^ s+2 ^ (32-s)*(y%2 ^ s):=by
 have hB:=uZ hs
 have hd:x/2 ^ s<2 ^ (32-s):=by rw [Nat.div_lt_iff_lt_mul (Nat.two_pow_pos _),hB];exact hx
 have e1:(aE*y+x)/2 ^ s=2 ^ (32-s)*y+x/2 ^ s:=by
   rw [<- hB,Nat.mul_comm (2 ^ (32-s)),Nat.mul_assoc,Nat.mul_add_div (Nat.two_pow_pos _)]
 have hlt:y%2 ^ s<2 ^ s:=Nat.mod_lt _ (Nat.two_pow_pos _)
 have h1:2 ^ (32-s)*(y%2 ^ s+1)<=2 ^ (32-s)*2 ^ s:=Nat.mul_le_mul_left _ hlt
 rw [Nat.mul_add,hB] at h1
 have e2:2 ^ (32-s)*y=aE*(y/2 ^ s)+2 ^ (32-s)*(y%2 ^ s):=by
   have:=Nat.div_add_mod y (2 ^ s)
   conv=>lhs;rw [<- this]
   rw [Nat.mul_add, <- Nat.mul_assoc,hB]
 rw [e1,e2,show aE*(y/2 ^ s)+2 ^ (32-s)*(y%2 ^ s)+x/2 ^ s=(x/2 ^ s+2 ^ (32-s)*(y%2 ^ s))+aE*(y/2 ^ s) from by omega,Nat.add_mul_mod_self_left,Nat.mod_eq_of_lt (by omega)]
theorem aea (x y:Nat) (hx:x<aE) (hy:y<aE):bM .or .int (.int .u64 (x:Int)) (.int .u64 ((aE*y:Nat):Int))=some (.int .u64 ((aE*y+x:Nat):Int)):=by
 rw [aaP _ _ (by unfold aE at *;omega) (by unfold aE at *;omega),Nat.or_comm]
 have:=Nat.two_pow_add_eq_or_of_lt (i:=32) (b:=x) (by unfold aE at hx;omega) y
 rw [show aE=2 ^ 32 from rfl,this]
theorem Ux (x s:Nat) (hs:s<=64):bM .shr .int (.int .u64 (x:Int)) (.int .i64 (s:Int))=some (.int .u64 ((x/2 ^ s:Nat):Int)):=by
 rw [sE (by omega)]
 have h2:min (s:Int).toNat IntKind.u64.bits=s:=by
   show min (s:Int).toNat 64=s
   rw [Int.toNat_natCast];omega
 have h3:(x:Int).fdiv (2 ^ s)=((x/2 ^ s:Nat):Int):=by
   have h4:(2:Int) ^ s=((2 ^ s:Nat):Int):=by rw [Int.natCast_pow];rfl
   rw [h4,Int.fdiv_eq_ediv_of_nonneg _ (Int.natCast_nonneg _)]
   exact (Int.natCast_ediv _ _).symm
 rw [h2,h3]
section
variable {P:Program} {G:Nat->Option (List AV)}
theorem NR {f:FuncId} (h:Has P f gp) {n x k:Nat} (hk:ag n=k+1) (hx:(digits n)[k]? = some x) (TY:k<=1000000):VP P G f [W n] (.int .i64 ((32*k+iC x:Nat):Int)):=by
 refine VP.has h ?_
 have hxB:=aX n x (List.mem_of_getElem? hx)
 obtain ⟨HU,_,_,_,_⟩:=Cu hk hx
 have d0:decide (((k+1:Nat):Int)=0)=false:=ar (by omega)
 have p1:IntKind.i64.wrap (((k+1:Nat):Int)-1)=(k:Int):=by rw [IntKind.wrap_i64];omega
 simp only [gp,SS,Nat.reduceAdd,bg,hk,d0,p1,de hx,aH,bl,aK]
 refine VW.dQ (α := Nat × Nat × Nat) (fun y=>⟨[W n, .top, .top, .int .i64 (y.1:Int), .int .u32 (y.2.1:Int)]++List.replicate 21 .top,fun _=>none,y.2.2⟩)
   (fun y=>y.2.1=x/2 ^ y.1/\y.1<=32/\2 ^ y.1<=2*x) (fun y=>y.2.1) (0,x,1000) ?_ ?_ ?_
 . exact Wk.slots (by simp [Fg,List.replicate]) (by simp only [];omega)
 . refine ⟨by simp,by simp,by simp;omega⟩
 rintro ⟨c,y,nn⟩ ⟨hy,hc,h2⟩
 simp only [] at hy hc h2
 have hyB:y<aE:=by rw [hy];exact Nat.lt_of_le_of_lt (Nat.div_le_self _ _) hxB
 by_cases h0:y=0
 . have d1:decide ((0:Int)<(y:Int))=false:=ar (by omega)
   have h1:x<2 ^ c:=by
     rw [h0] at hy
     exact Nat.lt_of_div_eq_zero (Nat.two_pow_pos c) hy.symm
   have e:=L8 hxB HU h1 h2
   have m1:IntKind.i64.wrap (32*(k:Int))=((32*k:Nat):Int):=by rw [IntKind.wrap_i64];omega
   have a1:=oP (32*k) c (by omega)
   rw [<- e]
   simp only [SS,Nat.reduceAdd,d1,bg,hk,p1,m1,a1]
   exact ak▸ae rfl (aa.int _ _)
 . have d1:decide ((0:Int)<(y:Int))=true:=aw (by omega)
   have hcw:=aI c (by omega)
   have q2:=aht y hyB
   have hlt:2 ^ c<=x:=by
     rcases Nat.lt_or_ge x (2 ^ c) with h | h
     . rw [Nat.div_eq_of_lt h] at hy;omega
     . exact h
   have Xk:c+1<=32:=by
     have:2 ^ c<2 ^ 32:=by unfold aE at hxB;omega
     have:=(Nat.pow_lt_pow_iff_right (by decide:1<2)).1 this
     omega
   simp only [SS,Nat.reduceAdd,d1,hcw,q2]
   refine ⟨(c+1,y/2,_),⟨?_,Xk, ?_⟩,Nat.div_lt_self (by omega) (by decide),Wk.slots (by simp [Fg]) (Nat.le_refl _)⟩
   . simp only [];rw [hy,Nat.div_div_eq_div_mul, <- Nat.pow_succ]
   . simp only [];rw [Nat.pow_succ];omega
theorem G0 {f:FuncId} (h:Has P f fW) (m s:Nat) (hm:ag m<=1000000) (hs:s<=31) (p:Id) :
   aW P G f [W m, .int .i64 (s:Int)] p [] { val := .osl (4::p) 1 0 (ag m+1) false,rd:=[],up:=[(4::p,some ⟨us (pad (ag m+1) (m*2 ^ s)),1,false⟩)] }:=by
 refine aW.has h ?_
 have hL:=aI (ag m) (by omega)
 have sr:∀ p:Id,jm p 1 4 (.int .u32 0) (.int .i64 ((ag m+1:Nat):Int)) (.int .i64 ((ag m+1:Nat):Int))=some { val := .osl p 1 0 (ag m+1) false,up:=[(p,some ⟨us (List.replicate (ag m+1) 0),1,false⟩)] }:=fun p=>nH (by omega)
 have hz:us (List.replicate (ag m+1) 0)=us (0::zs (ag m)):=rfl
 simp only [fW,SS,Nat.reduceAdd,bg,hL,sr,aK]
 refine VW.dQ (α := Nat × Nat × List Nat × Nat) (fun x=>⟨[W m, .int .i64 (s:Int), .top, .top, .top, .osl (4::p) 1 0 (ag m+1) false, .int .i64 (x.1:Int)]++List.replicate 36 .top,
   af.put (af.of []) (4::p) (some ⟨us (x.2.2.1++x.2.2.2::zs (ag m-x.1)),1,false⟩),x.2.1⟩)
   (fun x=>x.1<=ag m/\x.2.2.1.length=x.1/\Wd x.2.2.1/\x.2.2.2<2 ^ s/\val x.2.2.1+aE ^ x.1*x.2.2.2=val ((digits m).take x.1)*2 ^ s) (fun x=>ag m-x.1) (0,1000,[],0) ?_ ?_ ?_
 . exact Wk.slots (by simp [Fg,List.replicate]) (by simp only [];omega)
 . exact ⟨Nat.zero_le _,rfl,by intro w hw;simp at hw,Nat.two_pow_pos _,by simp [val]⟩
 rintro ⟨i,nn,o,c⟩ ⟨hi,ho,hwd,hc,hv⟩
 simp only [] at hi ho hwd hc hv
 have qS:i<ag m->decide ((i:Int)<(ag m:Int))=true:=fun h=>aw (by omega)
 have xK : ¬ i<ag m->decide ((i:Int)<(ag m:Int))=false:=fun h=>ar (by omega)
 have dD : ¬ i<ag m->i=ag m:=by omega
 have sP:=aI i (by omega)
 have jq:i<ag m->i+1<=ag m/\ag m-(i+1)<ag m-i:=fun h=>by omega
 have hcB:c<aE:=by
   have h2:2 ^ s<=2 ^ 32:=Nat.pow_le_pow_right (by decide) (by omega)
   unfold aE;omega
 by_cases hlt:i<ag m
 . obtain ⟨x,hx⟩:∃ x,(digits m)[i]? = some x:=⟨_,List.getElem?_eq_getElem hlt⟩
   have rX:=aX m x (List.mem_of_getElem? hx)
   have f1:=bn x rX
   have f2:=T5 x s (by omega) rX
   obtain ⟨g1,g2,g3⟩:=LP (s:=s) (by omega) hc rX
   have f3:=aaQ c (x*2 ^ s%aE) hcB (Nat.mod_lt _ cV)
   rw [g1] at f3
   have g4:x*2 ^ s/aE<aE:=by
     have h2:2 ^ s<=2 ^ 32:=Nat.pow_le_pow_right (by decide) (by omega)
     have:(2:Nat) ^ 32=aE:=rfl
     omega
   have f4:IntKind.u32.wrap ((x*2 ^ s/aE:Nat):Int)=((x*2 ^ s/aE:Nat):Int):=by rw [yf,Nat.mod_eq_of_lt g4]
   have nX:=cN (q:=4::p) (t:=false) (show i<ag m+1 by omega)
   have aaR:=cN (q:=4::p) (t:=false) (show i+1<ag m+1 by omega)
   obtain ⟨k,hk⟩:∃ k,ag m-i=k+1:=⟨ag m-i-1,by omega⟩
   have D6:ag m-(i+1)=k:=by omega
   have zB:i<(o++c::0::zs k).length:=by simp;omega
   have QG:i+1<(o++(c+x*2 ^ s%aE)::0::zs k).length:=by simp;omega
   have hv':val (o++[c+x*2 ^ s%aE])+aE ^ (i+1)*(x*2 ^ s/aE)=val ((digits m).take (i+1))*2 ^ s:=by
     rw [aM hx,cm,ho,Nat.add_mul, <- hv]
     simp only [val,Nat.mul_zero,Nat.add_zero,Nat.pow_succ]
     have e2:aE ^ i*(x*2 ^ s%aE)+aE ^ i*(aE*(x*2 ^ s/aE))=aE ^ i*(x*2 ^ s):=by rw [<- Nat.mul_add,Nat.mod_add_div]
     rw [Nat.mul_assoc,Nat.mul_assoc,Nat.mul_add]
     omega
   simp only [SS,Nat.reduceAdd,bg,qS hlt,de hx,aH,bl,f1,f2,nX,hk,iU]
   rw [js (o:=o++c::0::zs k) (b:=false) (by simp [af.put]) (xi _ _ _ ho)]
   simp only [SS,Nat.reduceAdd,yf,f3,nX]
   rw [bO (o:=o++c::0::zs k) (by simp [af.put]) zB,fD _ _ _ _ ho]
   simp only [SS,Nat.reduceAdd,sP,o8,f4,aaR]
   rw [bO (o:=o++(c+x*2 ^ s%aE)::0::zs k) (by simp [af.put]) QG,LO _ _ _ _ _ ho]
   simp only [SS,Nat.reduceAdd,sP]
   refine ⟨(i+1,_,o++[c+x*2 ^ s%aE],x*2 ^ s/aE),⟨(jq hlt).1,by simp [ho],cM hwd (by intro z hz;simp at hz;subst hz;exact g2),g3,hv'⟩,(jq hlt).2,Wk.forget (by simp [Fg]) (fun j => ?_) (Nat.le_refl _)⟩
   simp only [af.put,D6];split<;>simp
 . have pP:=dD hlt
   have e1:(digits m).take (ag m)=digits m:=List.take_of_length_le (Nat.le_refl _)
   have AA:val (o++[c])=m*2 ^ s:=by
     rw [cm,ho];simp only [val,Nat.mul_zero,Nat.add_zero]
     rw [hv,pP,e1,aU]
   have hlen:(o++[c]).length=ag m+1:=by simp [ho,pP]
   have e:pad (ag m+1) (m*2 ^ s)=o++[c]:=by
     rw [<- AA, <- hlen]
     exact A3 (cM hwd (by intro z hz;simp at hz;subst hz;exact hcB))
   have e3:zs (ag m-i)=[]:=by rw [pP,Nat.sub_self];rfl
   simp only [SS,Nat.reduceAdd,bg,xK hlt,e,e3]
   refine dX▸bF rfl fun i => .inr ?_
   rfl
theorem XF {f ft:FuncId} (h:Has P f (kQ ft)) (ht:iT P G ft) (m s:Nat) (hm:ag m<=1000000) (hs:s<=31) :
   VP P G f [W m, .int .i64 (s:Int)] (W (m/2 ^ s)):=by
 refine VP.has h ?_
 have sr:∀ p:Id,jm p 1 4 (.int .u32 0) (.int .i64 (ag m:Int)) (.int .i64 (ag m:Int))=some { val := .osl p 1 0 (ag m) false,up:=[(p,some ⟨us (List.replicate (ag m) 0),1,false⟩)] }:=fun p=>nH (by omega)
 have hz:us (List.replicate (ag m) 0)=us ([]++zs (ag m-0)):=rfl
 have h2s:2 ^ s*2 ^ (32-s)=aE:=by rw [Nat.mul_comm];exact uZ (by omega)
 simp only [kQ,SS,Nat.reduceAdd,bg,sr,hz,aK]
 refine VW.dQ (α := Nat × Nat × List Nat) (fun x=>⟨[W m, .int .i64 (s:Int), .top, .top, .top, .osl [3] 1 0 (ag m) false, .int .i64 (x.1:Int)]++List.replicate 38 .top,
   af.put (fun _=>none) [3] (some ⟨us (x.2.2++zs (ag m-x.1)),1,false⟩),x.2.1⟩)
   (fun x=>x.1<=ag m/\x.2.2.length=x.1/\Wd x.2.2/\2 ^ s*val x.2.2+m%2 ^ s=val ((digits m).take x.1)+aE ^ x.1*(((digits m)[x.1]?).getD 0%2 ^ s)) (fun x=>ag m-x.1) (0,1000,[]) ?_ ?_ ?_
 . exact Wk.slots (by simp [Fg,List.replicate]) (by simp only [];omega)
 . refine ⟨Nat.zero_le _,rfl,by intro w hw;simp at hw, ?_⟩
   show 2 ^ s*val []+m%2 ^ s=val ((digits m).take 0)+aE ^ 0*(((digits m)[0]?).getD 0%2 ^ s)
   rw [zj, <- h2s,Nat.mod_mul_right_mod]
   simp [val]
 rintro ⟨i,nn,o⟩ ⟨hi,ho,hwd,hv⟩
 simp only [] at hi ho hwd hv
 have qS:i<ag m->decide ((i:Int)<(ag m:Int))=true:=fun h=>aw (by omega)
 have xK : ¬ i<ag m->decide ((i:Int)<(ag m:Int))=false:=fun h=>ar (by omega)
 have LL:i+1<ag m->decide (((i+1:Nat):Int)<(ag m:Int))=true:=fun h=>aw (by omega)
 have LM : ¬ i+1<ag m->decide (((i+1:Nat):Int)<(ag m:Int))=false:=fun h=>ar (by omega)
 have dD : ¬ i<ag m->i=ag m:=by omega
 have aaT:i<ag m -> ¬ i+1<ag m->i+1=ag m:=by omega
 have sP:=aI i (by omega)
 have jq:i<ag m->i+1<=ag m/\ag m-(i+1)<ag m-i:=fun h=>by omega
 by_cases hlt:i<ag m
 . obtain ⟨x,hx⟩:∃ x,(digits m)[i]? = some x:=⟨_,List.getElem?_eq_getElem hlt⟩
   have rX:=aX m x (List.mem_of_getElem? hx)
   have f0:=bn x rX
   have nX:=cN (q:=[3]) (t:=false) hlt
   obtain ⟨k,hk⟩:∃ k,ag m-i=k+1:=⟨ag m-i-1,by omega⟩
   have D6:ag m-(i+1)=k:=by omega
   have zB:i<(o++0::zs k).length:=by simp;omega
   have hstep:∀ y w,w=x/2 ^ s+2 ^ (32-s)*(y%2 ^ s)->2 ^ s*w+x%2 ^ s=x+aE*(y%2 ^ s)->((digits m)[i+1]?).getD 0=y ->
       2 ^ s*val (o++[w])+m%2 ^ s=val ((digits m).take (i+1))+aE ^ (i+1)*(((digits m)[i+1]?).getD 0%2 ^ s):=by
     intro y w _ hw hy
     rw [hx,Option.getD_some] at hv
     rw [aM hx,cm,ho,hy]
     simp only [val,Nat.mul_zero,Nat.add_zero,Nat.pow_succ]
     have e1:aE ^ i*(2 ^ s*w)+aE ^ i*(x%2 ^ s)=aE ^ i*x+aE ^ i*(aE*(y%2 ^ s)):=by rw [<- Nat.mul_add,hw,Nat.mul_add]
     have e2:2 ^ s*(val o+aE ^ i*w)=2 ^ s*val o+aE ^ i*(2 ^ s*w):=by rw [Nat.mul_add,Nat.mul_left_comm]
     rw [e2,Nat.mul_assoc]
     omega
   by_cases hn:i+1<ag m
   . obtain ⟨y,hy⟩:∃ y,(digits m)[i+1]? = some y:=⟨_,List.getElem?_eq_getElem hn⟩
     have DY:=aX m y (List.mem_of_getElem? hy)
     have f1:=bn y DY
     have f2:=A2 y DY
     have f3:=aea x y rX DY
     have f4:=Ux (aE*y+x) s (by omega)
     obtain ⟨g1,g2,g3⟩:=Cn (y:=y) (s:=s) (by omega) rX
     have f5:IntKind.u32.wrap (((aE*y+x)/2 ^ s:Nat):Int)=((x/2 ^ s+2 ^ (32-s)*(y%2 ^ s):Nat):Int):=by rw [yf,Ru (by omega) rX]
     have hv':=hstep y _ rfl g3 (by rw [hy];rfl)
     simp only [SS,Nat.reduceAdd,bg,qS hlt,de hx,aH,bl,f0,sP,LL hn,de hy,f1,f2,f3,f4,f5,nX,hk,iU]
     rw [bO (o:=o++0::zs k) (by simp [af.put]) zB,fD _ _ _ _ ho]
     simp only [SS,Nat.reduceAdd,sP]
     refine ⟨(i+1,_,o++[x/2 ^ s+2 ^ (32-s)*(y%2 ^ s)]),⟨(jq hlt).1,by simp [ho],cM hwd (by intro z hz;simp at hz;subst hz;exact g2),hv'⟩,(jq hlt).2,Wk.forget (by simp [Fg]) (fun j => ?_) (Nat.le_refl _)⟩
     simp only [af.put,D6];split<;>simp
   . have BC:(digits m)[i+1]? = none:=List.getElem?_eq_none (by have:=aaT hlt hn;show ag m<=i+1;omega)
     obtain ⟨g1,g2,g3⟩:=Cn (y:=0) (s:=s) (by omega) rX
     have e0:x/2 ^ s+2 ^ (32-s)*(0%2 ^ s)=x/2 ^ s:=by simp
     rw [e0] at g2 g3
     have f4:=Ux x s (by omega)
     have f5:IntKind.u32.wrap ((x/2 ^ s:Nat):Int)=((x/2 ^ s:Nat):Int):=by rw [yf,Nat.mod_eq_of_lt g2]
     have hv':=hstep 0 (x/2 ^ s) e0.symm g3 (by rw [BC];rfl)
     simp only [SS,Nat.reduceAdd,bg,qS hlt,de hx,aH,bl,f0,sP,LM hn,f4,f5,nX,hk,iU]
     rw [bO (o:=o++0::zs k) (by simp [af.put]) zB,fD _ _ _ _ ho]
     simp only [SS,Nat.reduceAdd,sP]
     refine ⟨(i+1,_,o++[x/2 ^ s]),⟨(jq hlt).1,by simp [ho],cM hwd (by intro z hz;simp at hz;subst hz;exact g2),hv'⟩,(jq hlt).2,Wk.forget (by simp [Fg]) (fun j => ?_) (Nat.le_refl _)⟩
     simp only [af.put,D6];split<;>simp
 . have pP:=dD hlt
   have e1:(digits m).take (ag m)=digits m:=List.take_of_length_le (Nat.le_refl _)
   have BC:(digits m)[ag m]? = none:=List.getElem?_eq_none (Nat.le_refl _)
   have AA:val o=m/2 ^ s:=by
     rw [pP,e1,aU,BC] at hv
     have h1:=Nat.div_add_mod m (2 ^ s)
     have h2:2 ^ s*val o=2 ^ s*(m/2 ^ s):=by
       simp at hv;omega
     exact Nat.eq_of_mul_eq_mul_left (Nat.two_pow_pos _) h2
   have hlen:ag m=o.length:=by rw [ho,pP]
   have zG:=ht o hwd (by omega)
   rw [AA] at zG
   have e3:zs (ag m-i)=[]:=by rw [pP,Nat.sub_self];rfl
   simp only [SS,Nat.reduceAdd,bg,xK hlt,e3]
   refine bB [([3],⟨us o,1,false⟩)] zG (aF.cons (hH hlen) aF.nil) (by simp [af.put]) ?_
   simp only [SS,Nat.reduceAdd]
   exact ak▸ae rfl (ay _)
end
end Go.VL
end

section
set_option linter.unusedVariables false
namespace Go.VL
theorem trimmed (b:List Nat) (h:Wd b):∃ z,b=digits (val b)++zs z:=by
 induction hn:b.length generalizing b with
 | zero =>
   obtain rfl:b=[]:=List.length_eq_zero_iff.1 hn
   exact ⟨0,by simp [val,bx,zs]⟩
 | succ k ih =>
   obtain ⟨b',w,rfl,hl⟩:=xk hn
   by_cases hw:w=0
   . subst hw
     obtain ⟨z,hz⟩:=ih b' (fun w hw=>h w (by simp [hw])) hl
     refine ⟨z+1, ?_⟩
     rw [kM]
     conv=>lhs;rw [hz]
     rw [List.append_assoc];congr 1
     simp [zs,List.replicate_succ']
   . exact ⟨0,by rw [nG h (.inr ⟨w,by simp,hw⟩)];simp [zs]⟩
theorem Rv {id:Id} {k off len h:Nat} (h2:h<=len):gP k (.osl id k off len false) none (some (.int .i64 (h:Int))) none=some (.osl id k off h false):=by
 simp [gP,gO,kN,h2]
theorem L9 {id:Id} {a b t:List Nat} {f tt:Bool} {n:Nat} (hn:n=b.length):View (af.of [(id,⟨us (a++b++t),1,f⟩)]) (.osl id 1 a.length n tt) (.sl 1 (us b)):=by
 subst hn
 refine View.osl (bk:=⟨us (a++b++t),1,f⟩) (by simp [af.of]) rfl (by simp [gj]) ?_ (by rw [gj]) (Cj b)
 have:((us (a++b++t)).drop a.length).take b.length=us b:=by rw [List.append_assoc,DV,DV, <- gj a,List.drop_left, <- gj b,List.take_left]
 show aF _ (flat (((us (a++b++t)).drop a.length).take b.length)) _
 rw [this]
 exact aF.pure (zh b)
section
variable {P:Program} {G:Nat->Option (List AV)}
theorem Ma {f:FuncId} (h:Has P f fY) {id:Id} {a b t:List Nat} (hw:Wd b) (hl:b.length<=9223372036854775807) (p:Id) :
   aW P G f [.osl id 1 a.length b.length false] p [(id,⟨us (a++b++t),1,false⟩)] { val := .osl id 1 a.length (ag (val b)) false,rd:=[id],up:=[] }:=by
 refine aW.has h ?_
 simp only [fY,SS,aK]
 refine VW.dQ (α := Nat × Nat) (fun x=>⟨[.osl id 1 a.length x.1 false]++List.replicate 20 .top,af.of [(id,⟨us (a++b++t),1,false⟩)],x.2⟩) (fun x=>x.1<=b.length/\val (b.take x.1)=val b) (fun x=>x.1) (b.length,1) ?_ ⟨Nat.le_refl _,by rw [List.take_length]⟩ ?_
 . exact Wk.slots (by simp [Fg,List.replicate]) (Nat.le_refl _)
 rintro ⟨k,n⟩ ⟨hk,hv⟩
 simp only [] at hk hv
 by_cases h0:k=0
 . subst h0
   have d0:decide ((0:Int)<((0:Nat):Int))=false:=by decide
   have e:ag (val b)=0:=by rw [<- hv];simp [val,ag,bx]
   simp only [SS,Nat.reduceAdd,d0,e]
   exact dX▸bF rfl fun i => .inr rfl
 . have p8:0<k:=Nat.pos_of_ne_zero h0
   have d0:decide ((0:Int)<(k:Int))=true:=aw (by omega)
   have Wx:=uc k p8 (by omega)
   obtain ⟨w,hwk⟩:∃ w,b[k-1]? = some w:=⟨b[k-1],by rw [List.getElem?_eq_getElem]⟩
   have ZB:b.take k=b.take (k-1)++[w]:=by
     have:=List.take_add_one (l:=b) (i:=k-1)
     rw [hwk,show k-1+1=k from by omega] at this
     simpa using this
   have nX:=pH (q:=id) (off:=a.length) (t:=false) (show k-1<k by omega)
   have hld:=js (σ := af.of [(id,⟨us (a++b++t),1,false⟩)]) (q:=id) (b:=false) (by simp [af.of]) (xj (t:=t) (rfl:a.length=a.length) hwk)
   have L5:=Rv (id:=id) (k:=1) (off:=a.length) (len:=k) (h:=k-1) (Nat.sub_le _ _)
   by_cases hz:w=0
   . have d1:decide ((w:Int)=0)=true:=aw (by omega)
     simp only [SS,Nat.reduceAdd,d0,Wx,nX,hld,d1,L5]
     refine ⟨(k-1,_),⟨by simp only [];omega, ?_⟩,by simp only [];omega,Wk.slots (by simp [Fg]) (Nat.le_refl _)⟩
     simp only []
     rw [<- hv,ZB,hz,kM]
   . have d1:decide ((w:Int)=0)=false:=ar (by omega)
     have e:ag (val b)=k:=by
       have e1:digits (val b)=b.take k:=by
         rw [<- hv]
         exact nG (sN hw k) (.inr ⟨w,by rw [ZB];simp,hz⟩)
       rw [ag,e1,List.length_take];omega
     simp only [SS,Nat.reduceAdd,d0,Wx,nX,hld,d1,e]
     exact dX▸bF rfl fun i => .inr rfl
set_option maxHeartbeats 1000000 in
theorem Rw {f ft:FuncId} (h:Has P f (dU ft)) (ht:iT P G ft) {id:Id} {a t:List Nat} (m n:Nat) (qU:n<=m) (hm:ag m<=1000000) (p:Id) (jS:∀ x,id≠x::p) :
   aW P G f [.osl id 1 a.length (ag m) false,W n] p [(id,⟨us (a++digits m++t),1,false⟩)] { val:=W (m-n),rd:=[id],up:=[] }:=by
 refine aW.has h ?_
 have hwn:=bE qU
 have Uy:=jS 3
 have sr:∀ p:Id,jm p 1 4 (.int .u32 0) (.int .i64 (ag m:Int)) (.int .i64 (ag m:Int))=some { val := .osl p 1 0 (ag m) false,up:=[(p,some ⟨us (List.replicate (ag m) 0),1,false⟩)] }:=fun p=>nH (by omega)
 simp only [dU,SS,Nat.reduceAdd,sr,aK]
 refine VW.dQ (α := Nat × Nat × List Nat × Nat) (fun x=>⟨[.osl id 1 a.length (ag m) false,W n, .top, .top, .top, .osl (3::p) 1 0 (ag m) false, .int .u64 (x.2.2.2:Int), .int .i64 (x.1:Int)]++List.replicate 40 .top,
   af.put (af.of [(id,⟨us (a++digits m++t),1,false⟩)]) (3::p) (some ⟨us (x.2.2.1++zs (ag m-x.1)),1,false⟩),x.2.1⟩)
   (fun x=>x.1<=ag m/\x.2.2.1.length=x.1/\Wd x.2.2.1/\x.2.2.2<=1/\val x.2.2.1+val ((digits n).take x.1)=val ((digits m).take x.1)+aE ^ x.1*x.2.2.2) (fun x=>ag m-x.1) (0,1000,[],0) ?_ ?_ ?_
 . exact Wk.slots (by simp [Fg,List.replicate]) (by simp only [];omega)
 . exact ⟨Nat.zero_le _,rfl,by intro w hw;simp at hw,Nat.zero_le _,by simp [val]⟩
 rintro ⟨i,nn,o,c⟩ ⟨hi,ho,hwd,hc,hv⟩
 simp only [] at hi ho hwd hc hv
 have qS:i<ag m->decide ((i:Int)<(ag m:Int))=true:=fun h=>aw (by omega)
 have xK : ¬ i<ag m->decide ((i:Int)<(ag m:Int))=false:=fun h=>ar (by omega)
 have LL:i<ag n->decide ((i:Int)<(ag n:Int))=true:=fun h=>aw (by omega)
 have LM : ¬ i<ag n->decide ((i:Int)<(ag n:Int))=false:=fun h=>ar (by omega)
 have dD : ¬ i<ag m->i=ag m:=by omega
 have sP:=aI i (by omega)
 have jq:i<ag m->i+1<=ag m/\ag m-(i+1)<ag m-i:=fun h=>by omega
 by_cases hlt:i<ag m
 . obtain ⟨x,hx⟩:∃ x,(digits m)[i]? = some x:=⟨_,List.getElem?_eq_getElem hlt⟩
   have rX:=aX m x (List.mem_of_getElem? hx)
   have f1:=bn x rX
   have nX:=cN (q:=3::p) (t:=false) hlt
   have hio:=pH (q:=id) (off:=a.length) (t:=false) hlt
   obtain ⟨k,hk⟩:∃ k,ag m-i=k+1:=⟨ag m-i-1,by omega⟩
   have D6:ag m-(i+1)=k:=by omega
   have zB:i<(o++0::zs k).length:=by simp;omega
   have hld:=js (σ := af.put (af.of [(id,⟨us (a++digits m++t),1,false⟩)]) (3::p) (some ⟨us (o++0::zs k),1,false⟩)) (q:=id) (b:=false) (by simp [af.of,af.put,Uy]) (xj (t:=t) (rfl:a.length=a.length) hx)
   by_cases hb:i<ag n
   . obtain ⟨y,hy⟩:∃ y,(digits n)[i]? = some y:=⟨_,List.getElem?_eq_getElem hb⟩
     have DY:=aX n y (List.mem_of_getElem? hy)
     have f3:=bn y DY
     obtain ⟨w,c',h1,h2,h3,d,h4,h5,h6⟩:=zJ rX DY hc
     have hst:=nQ (va:=val ((digits m).take i)) (vb:=val ((digits n).take i)) (x:=x) (y:=y) (c:=c) (w:=w) (c':=c') ho (by rw [hv];omega) h3
     simp only [SS,Nat.reduceAdd,bg,qS hlt,hk,iU,hio,hld,bl,f1,LL hb,de hy,aH,f3,h4,h5,nX]
     rw [bO (o:=o++0::zs k) (by simp [af.put]) zB,fD _ _ _ _ ho]
     simp only [SS,Nat.reduceAdd,o8,h6,sP]
     refine ⟨(i+1,_,o++[w],c'),⟨(jq hlt).1,by simp [ho],cM hwd (by intro z hz;simp at hz;subst hz;exact h1),h2, ?_⟩,(jq hlt).2,Wk.forget (by simp [Fg]) (fun j => ?_) (Nat.le_refl _)⟩
     . show val (o++[w])+val ((digits n).take (i+1))=val ((digits m).take (i+1))+_
       rw [aM hx,aM hy];exact hst
     . simp only [af.put,D6];split<;>simp
   . obtain ⟨w,c',h1,h2,h3,d,h4,h5,h6⟩:=zJ (y:=0) rX cV hc
     have h4':IntKind.u64.wrap (IntKind.u64.wrap (IntKind.u64.wrap ((x:Int)+4294967296)-0)-(c:Int))=(d:Int):=h4
     have hst:=nQ (va:=val ((digits m).take i)) (vb:=val ((digits n).take i)) (x:=x) (y:=0) (c:=c) (w:=w) (c':=c') ho (by rw [hv];omega) h3
     rw [Nat.mul_zero,Nat.add_zero] at hst
     simp only [SS,Nat.reduceAdd,bg,qS hlt,hk,iU,hio,hld,f1,LM hb,h4',h5,nX]
     rw [bO (o:=o++0::zs k) (by simp [af.put]) zB,fD _ _ _ _ ho]
     simp only [SS,Nat.reduceAdd,o8,h6,sP]
     refine ⟨(i+1,_,o++[w],c'),⟨(jq hlt).1,by simp [ho],cM hwd (by intro z hz;simp at hz;subst hz;exact h1),h2, ?_⟩,(jq hlt).2,Wk.forget (by simp [Fg]) (fun j => ?_) (Nat.le_refl _)⟩
     . show val (o++[w])+val ((digits n).take (i+1))=val ((digits m).take (i+1))+_
       rw [aM hx,jk (show (digits n).length<=i from by show ag n<=i;omega)];exact hst
     . simp only [af.put,D6];split<;>simp
 . have pP:=dD hlt
   have e1:(digits m).take (ag m)=digits m:=List.take_of_length_le (Nat.le_refl _)
   have e2:(digits n).take (ag m)=digits n:=List.take_of_length_le (by show ag n<=ag m;omega)
   have AA:val o=m-n:=by
     rw [pP,e1,e2,aU,aU] at hv
     have ym:=mA hwd
     rw [ho,pP] at ym
     rcases Nat.eq_zero_or_pos c with h0 | h0
     . subst h0;omega
     . have:c=1:=by omega
       subst this;have:=cU m;omega
   have yi:ag m=o.length:=by omega
   have e3:zs (ag m-i)=[]:=by rw [pP,Nat.sub_self];rfl
   have zG:=ht o hwd (by omega)
   rw [AA] at zG
   simp only [SS,Nat.reduceAdd,xK hlt,e3]
   refine bB [(3::p,⟨us o,1,false⟩)] zG (aF.cons (hH yi) aF.nil) (by simp [af.put]) ?_
   simp only [SS,Nat.reduceAdd]
   refine dX▸bF rfl fun i => ?_
   by_cases e:i=id
   . subst e;right;simp [af.app,Di,af.put,af.of,Uy]
   . left;simp [af.app,af.of,List.lookup,show (i==id)=false from by simpa using e]
end
end Go.VL
end

section
set_option linter.unusedVariables false
namespace Go.VL
theorem Uz {num h V D x0 M u' l v':Nat} (h0:0<h) (hV:V=(h*aE+l)*M+v') (hD:D=(num*aE+x0)*M+u') (hx:x0<aE) (hu:u'<M) (WC:D/V<aE):D/V<=min (num/h) (aE-1):=by
 have:=LY h0 hV hD hx hu
 omega
section
variable {P:Program} {G:Nat->Option (List AV)}
set_option maxHeartbeats 1000000 in
theorem Rx {f ft fti fc fm:FuncId} (h:Has P f (gR fti ft fc fm)) (ED:∀ (m:Nat) (ws:List Nat),Wd ws->ag m<=1000000->ws.length<=1000000->VP P G fti [W m, .sl 1 (us ws)] (W (m*val ws)))
   (htr:Has P ft fY) (hc:∀ m n,ag m<=1000000->ag n<=1000000->VP P G fc [W m,W n] (.int .i64 (fP m n))) (hmi:∀ m n,n<=m->ag m<=1000000->VP P G fm [W m,W n] (W (m-n)))
   {id:Id} {a b t:List Nat} {V k:Nat} (hV:ag V=k+2) (hb:b.length=k+3) (Kv:Wd b) (ZK:val b<aE*V) (hk:k<=900000) (p:Id) (jS:∀ x,id≠x::p) :
   aW P G f [.osl id 1 a.length (k+3) false,W V] p [(id,⟨us (a++b++t),1,false⟩)] { val := .tup [.int .u32 ((val b/V:Nat):Int),W (V*(val b/V))],rd:=[id],up:=[] }:=by
 refine aW.has h ?_
 obtain ⟨hh,Uo⟩:∃ y,(digits V)[k+1]? = some y:=⟨_,List.getElem?_eq_getElem (by show k+1<ag V;omega)⟩
 obtain ⟨ll,llg⟩:∃ y,(digits V)[k]? = some y:=⟨_,List.getElem?_eq_getElem (by show k<ag V;omega)⟩
 have hhB:=aX V hh (List.mem_of_getElem? Uo)
 obtain ⟨hVV,hvM⟩:=adS (aX V) hV Uo llg
 rw [aU] at hVV
 obtain ⟨hh0,_,_,_,_⟩:=Cu (k:=k+1) hV Uo
 have WA:0<V:=by
   rcases Nat.eq_zero_or_pos V with e | e
   . rw [e] at ZK;omega
   . exact e
 obtain ⟨x2,hx2⟩:∃ z,b[k+2]? = some z:=⟨_,List.getElem?_eq_getElem (by omega)⟩
 obtain ⟨x1,Hs⟩:∃ z,b[k+1]? = some z:=⟨_,List.getElem?_eq_getElem (by omega)⟩
 obtain ⟨z0,Wz⟩:∃ z,b[k]? = some z:=⟨_,List.getElem?_eq_getElem (by omega)⟩
 have NP:=Kv x2 (List.mem_of_getElem? hx2)
 have Uq:=Kv x1 (List.mem_of_getElem? Hs)
 have Ur:=Kv z0 (List.mem_of_getElem? Wz)
 obtain ⟨hD,huM⟩:=adT Kv hb hx2 Hs Wz
 rw [show x2*aE+x1=aE*x2+x1 from by rw [Nat.mul_comm]] at hD
 obtain ⟨num,GY⟩:∃ z,z=aE*x2+x1:=⟨_,rfl⟩
 rw [<- GY] at hD
 have P2:num<18446744073709551616:=by rw [GY];unfold aE at *;omega
 have WC:val b/V<aE:=Nat.div_lt_of_lt_mul (by rw [Nat.mul_comm];exact ZK)
 have J0:=Uz hh0 hVV hD Ur huM WC
 have io2:=pH (q:=id) (off:=a.length) (t:=false) (show k+2<k+3 by omega)
 have io1:=pH (q:=id) (off:=a.length) (t:=false) (show k+1<k+3 by omega)
 have ld2:=js (σ := af.of [(id,⟨us (a++b++t),1,false⟩)]) (q:=id) (b:=false) (by simp [af.of]) (xj (t:=t) (rfl:a.length=a.length) hx2)
 have ld1:=js (σ := af.of [(id,⟨us (a++b++t),1,false⟩)]) (q:=id) (b:=false) (by simp [af.of]) (xj (t:=t) (rfl:a.length=a.length) Hs)
 have w2:=bn x2 NP
 have w1:=bn x1 Uq
 have w0:=bn hh hhB
 have s2:=A2 x2 NP
 have o2:=I0 x2 x1 NP Uq
 rw [<- GY] at o2
 have q1:=I1 num hh P2 (by omega)
 have p1:IntKind.i64.wrap (((k+2:Nat):Int)-1)=((k+1:Nat):Int):=by rw [IntKind.wrap_i64];omega
 have hwD:ag (val b)<=1000000:=by
   have h1:=mA Kv
   rw [hb] at h1
   have:=fC h1;omega
 have htm:=Ma (G:=G) htr (id:=id) (a:=a) (b:=b) (t:=t) Kv (by omega)
 rw [hb] at htm
 obtain ⟨z,hz⟩:=trimmed b Kv
 have lF:View (af.of [(id,⟨us (a++b++t),1,false⟩)]) (.osl id 1 a.length (ag (val b)) false) (W (val b)):=by
   have:a++b++t=a++digits (val b)++(zs z++t):=by
     conv=>lhs;rw [hz]
     simp
   rw [this]
   exact L9 rfl
 have Uy:∀ x,id≠x::p:=jS
 simp only [gR,SS,DD,Nat.reduceAdd,bg,hV,io2,io1,ld2,ld1,w2,w1,s2,o2,p1,de Uo,aH,bl,w0,q1]
 refine ⟨by simp [ab], ?_⟩
 by_cases aed:(4294967295<num/hh)
 . have d1:decide ((4294967295:Int)<((num/hh:Nat):Int))=true:=by first | exact aw (by omega) | exact ar (by omega)
   obtain ⟨q0,Kw⟩:∃ q0:Nat,q0=4294967295:=⟨_,rfl⟩
   have NS:q0<aE:=by unfold aE;omega
   have abp:val b/V<=q0:=by unfold aE at J0;omega
   have f3:IntKind.u32.wrap (q0:Int)=(q0:Int):=by rw [yf,Nat.mod_eq_of_lt NS]
   have ye:∀ (σ : af) (q:Id),bU σ q (.buildSl 1 1 (.int .u32 0) [(0, .int .u32 (q0:Int))])=some { val := .osl q 1 0 1 false,up:=[(q,some ⟨us [q0],1,false⟩)] }:=fun σ q=>Cl
   have Up:=ED V [q0] (by intro w hw;simp at hw;subst hw;exact NS) (by omega) (by simp)
   rw [show val [q0]=q0 from by simp [val]] at Up
   have f3q:IntKind.u32.wrap 4294967295=(q0:Int):=by rw [<- f3,Kw];try rfl
   simp only [SS,Nat.reduceAdd,d1,f3q,ye]
   refine bB [(32::p,⟨us [q0],1,false⟩)] Up (aF.cons (View.pure (ay _)) (aF.cons (hH rfl) aF.nil)) (by simp [af.put]) ?_
   simp only [SS,Nat.reduceAdd,aK]
   refine VW.dQ (α := Nat × Nat) (fun x=>⟨[.osl id 1 a.length (k+3) false,W V, .top, .top, .top, .top, .top, .int .u64 (x.1:Int),W (V*x.1)]++List.replicate 42 .top,af.of [(id,⟨us (a++b++t),1,false⟩)],x.2⟩)
     (fun x=>val b/V<=x.1/\x.1<aE) (fun x=>x.1) (q0,1000) ?_ ?_ ?_
   . refine Wk.forget (by simp [Fg,List.replicate,Kw]) (fun j => ?_) (by simp only [];omega)
     by_cases e:j=id
     . subst e;right;simp [af.app,Di,af.put,af.of,Uy]
     . left;simp [af.of,List.lookup,show (j==id)=false from by simpa using e]
   . exact ⟨abp,NS⟩
   rintro ⟨q,nn⟩ ⟨hq1,KV⟩
   simp only [] at hq1 KV
   have hwq:ag (V*q)<=1000000:=by
     have h1:=zg V q
     have h2:ag q<=1:=fC (by simpa using KV)
     omega
   have hcv:=hc (val b) (V*q) hwD hwq
   simp only [SS,Nat.reduceAdd]
   refine ⟨[(id,⟨us (a++b++t),1,false⟩)],_,htm _,by simp [af.of],by simp, ?_⟩
   simp only [SS,Nat.reduceAdd]
   refine Ek [(id,⟨us (a++b++t),1,false⟩)] hcv (aF.cons lF (aF.cons (View.pure (ay _)) aF.nil)) (fun _ _ _ _ _ h=>by simpa [aT] using h) (by simp [af.of]) ?_
   by_cases hlt:val b<V*q
   . have d2:decide (fP (val b) (V*q)<0)=true:=aw (by simp only [fP,jj];rw [if_pos (by omega)];decide)
     have hqp:1<=q:=by
       rcases Nat.eq_zero_or_pos q with e | e
       . rw [e] at hlt;omega
       . exact e
     have hle:val b/V<=q-1:=by
       have:=(Nat.div_lt_iff_lt_mul WA).2 (by rw [Nat.mul_comm] at hlt;exact hlt)
       omega
     have pq:IntKind.u64.wrap ((q:Int)-1)=((q-1:Nat):Int):=by rw [IntKind.wrap_u64];unfold aE at KV;omega
     have HX:=hmi (V*q) V (Nat.le_mul_of_pos_right _ hqp) hwq
     have em:V*q-V=V*(q-1):=by rw [Nat.mul_sub,Nat.mul_one]
     rw [em] at HX
     simp only [SS,Nat.reduceAdd,d2,pq]
     refine ah HX (by simp [ay]) ?_
     simp only [SS,Nat.reduceAdd]
     exact ⟨(q-1,_),⟨hle,by simp only [];omega⟩,by simp only [];omega,Wk.slots (by simp [Fg]) (Nat.le_refl _)⟩
   . have d2:decide (fP (val b) (V*q)<0)=false:=ar (by simp only [fP,jj];rw [if_neg (by omega)];split<;>decide)
     have XA:q=val b/V:=by
       have:=(Nat.le_div_iff_mul_le WA).2 (show q*V<=val b by rw [Nat.mul_comm];omega)
       omega
     have f4:IntKind.u32.wrap (q:Int)=(q:Int):=by rw [yf,Nat.mod_eq_of_lt KV]
     simp only [SS,Nat.reduceAdd,d2,f4]
     rw [<- XA]
     exact dX▸bF rfl fun i => .inr rfl
 by_cases abq:(¬ 4294967295<num/hh)
 . have d1:decide ((4294967295:Int)<((num/hh:Nat):Int))=false:=by first | exact aw (by omega) | exact ar (by omega)
   obtain ⟨q0,Kw⟩:∃ q0:Nat,q0=(num/hh):=⟨_,rfl⟩
   have NS:q0<aE:=by unfold aE;omega
   have abp:val b/V<=q0:=by unfold aE at J0;omega
   have f3:IntKind.u32.wrap (q0:Int)=(q0:Int):=by rw [yf,Nat.mod_eq_of_lt NS]
   have ye:∀ (σ : af) (q:Id),bU σ q (.buildSl 1 1 (.int .u32 0) [(0, .int .u32 (q0:Int))])=some { val := .osl q 1 0 1 false,up:=[(q,some ⟨us [q0],1,false⟩)] }:=fun σ q=>Cl
   have Up:=ED V [q0] (by intro w hw;simp at hw;subst hw;exact NS) (by omega) (by simp)
   rw [show val [q0]=q0 from by simp [val]] at Up
   have f3q:IntKind.u32.wrap ((num/hh:Nat):Int)=(q0:Int):=by rw [<- f3,Kw];try rfl
   simp only [SS,Nat.reduceAdd,d1,f3q,ye]
   refine bB [(31::p,⟨us [q0],1,false⟩)] Up (aF.cons (View.pure (ay _)) (aF.cons (hH rfl) aF.nil)) (by simp [af.put]) ?_
   simp only [SS,Nat.reduceAdd,aK]
   refine VW.dQ (α := Nat × Nat) (fun x=>⟨[.osl id 1 a.length (k+3) false,W V, .top, .top, .top, .top, .top, .int .u64 (x.1:Int),W (V*x.1)]++List.replicate 42 .top,af.of [(id,⟨us (a++b++t),1,false⟩)],x.2⟩)
     (fun x=>val b/V<=x.1/\x.1<aE) (fun x=>x.1) (q0,1000) ?_ ?_ ?_
   . refine Wk.forget (by simp [Fg,List.replicate,Kw]) (fun j => ?_) (by simp only [];omega)
     by_cases e:j=id
     . subst e;right;simp [af.app,Di,af.put,af.of,Uy]
     . left;simp [af.of,List.lookup,show (j==id)=false from by simpa using e]
   . exact ⟨abp,NS⟩
   rintro ⟨q,nn⟩ ⟨hq1,KV⟩
   simp only [] at hq1 KV
   have hwq:ag (V*q)<=1000000:=by
     have h1:=zg V q
     have h2:ag q<=1:=fC (by simpa using KV)
     omega
   have hcv:=hc (val b) (V*q) hwD hwq
   simp only [SS,Nat.reduceAdd]
   refine ⟨[(id,⟨us (a++b++t),1,false⟩)],_,htm _,by simp [af.of],by simp, ?_⟩
   simp only [SS,Nat.reduceAdd]
   refine Ek [(id,⟨us (a++b++t),1,false⟩)] hcv (aF.cons lF (aF.cons (View.pure (ay _)) aF.nil)) (fun _ _ _ _ _ h=>by simpa [aT] using h) (by simp [af.of]) ?_
   by_cases hlt:val b<V*q
   . have d2:decide (fP (val b) (V*q)<0)=true:=aw (by simp only [fP,jj];rw [if_pos (by omega)];decide)
     have hqp:1<=q:=by
       rcases Nat.eq_zero_or_pos q with e | e
       . rw [e] at hlt;omega
       . exact e
     have hle:val b/V<=q-1:=by
       have:=(Nat.div_lt_iff_lt_mul WA).2 (by rw [Nat.mul_comm] at hlt;exact hlt)
       omega
     have pq:IntKind.u64.wrap ((q:Int)-1)=((q-1:Nat):Int):=by rw [IntKind.wrap_u64];unfold aE at KV;omega
     have HX:=hmi (V*q) V (Nat.le_mul_of_pos_right _ hqp) hwq
     have em:V*q-V=V*(q-1):=by rw [Nat.mul_sub,Nat.mul_one]
     rw [em] at HX
     simp only [SS,Nat.reduceAdd,d2,pq]
     refine ah HX (by simp [ay]) ?_
     simp only [SS,Nat.reduceAdd]
     exact ⟨(q-1,_),⟨hle,by simp only [];omega⟩,by simp only [];omega,Wk.slots (by simp [Fg]) (Nat.le_refl _)⟩
   . have d2:decide (fP (val b) (V*q)<0)=false:=ar (by simp only [fP,jj];rw [if_neg (by omega)];split<;>decide)
     have XA:q=val b/V:=by
       have:=(Nat.le_div_iff_mul_le WA).2 (show q*V<=val b by rw [Nat.mul_comm];omega)
       omega
     have f4:IntKind.u32.wrap (q:Int)=(q:Int):=by rw [yf,Nat.mod_eq_of_lt KV]
     simp only [SS,Nat.reduceAdd,d2,f4]
     rw [<- XA]
     exact dX▸bF rfl fun i => .inr rfl
 exact absurd aed abq
end
end Go.VL
end
