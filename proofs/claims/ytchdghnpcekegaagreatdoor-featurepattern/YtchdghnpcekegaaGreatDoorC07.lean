/- For the claim of FeaturePattern: parts KD, KE, VL31, CI24, CR1, CR2, CR3, CR4, CR5, CR6, CR7. -/
import Derived.Test.YtchdghnpcekegaaGreatDoorC05
import Derived.Test.YtchdghnpcekegaaGreatDoorC06
import Derived.Test.YtchdghnpcekegaaGreatDoorC04
set_option linter.unusedSimpArgs false
set_option linter.unusedVariables false
section
namespace Go.VL
section
variable {b M h l v' V num u2 u' U:Nat}
theorem adz (hV:V=(h*b+l)*M+v'):V=h*(b*M)+l*M+v':=by rw [hV,Nat.add_mul,Nat.mul_assoc]
theorem agQ (hU:U=(num*b+u2)*M+u'):U=num*(b*M)+u2*M+u':=by rw [hU,Nat.add_mul,Nat.mul_assoc]
theorem adA (h2:u2<b) (h1:u'<M):u2*M+u'<b*M:=by
 have:(u2+1)*M<=b*M:=Nat.mul_le_mul_right _ h2
 rw [Nat.add_mul] at this;omega
theorem LR (h0:0<h) (hV:V=(h*b+l)*M+v') (hU:U=(num*b+u2)*M+u') (h2:u2<b) (h1:u'<M):U/V<=num/h:=by
 have hbM:=adA h2 h1
 have eV:=adz hV
 have eU:=agQ hU
 have SE:0<V:=by
   have:1*(b*M)<=h*(b*M):=Nat.mul_le_mul_right _ h0
   omega
 refine Nat.le_of_lt_succ ((Nat.div_lt_iff_lt_mul SE).2 ?_)
 have hq:num+1<=(num/h+1)*h:=by rw [Nat.mul_comm];exact Nat.lt_mul_div_succ num h0
 have h3:(num/h+1)*(h*(b*M))<=(num/h+1)*V:=Nat.mul_le_mul_left _ (by omega)
 have h4:(num+1)*(b*M)<=(num/h+1)*h*(b*M):=Nat.mul_le_mul_right _ hq
 rw [Nat.mul_assoc] at h4
 rw [Nat.add_mul] at h4
 show U<(num/h+1)*V
 omega
theorem Xh {q r:Nat} (hV:V=(h*b+l)*M+v') (hU:U=(num*b+u2)*M+u') (h1:u'<M) (hq:q*h+r=num) (ht:r*b+u2<q*l):U/V<=q-1:=by
 have h3:num*b+u2+1<=q*(h*b+l):=by
   rw [<- hq,Nat.add_mul,Nat.mul_add, <- Nat.mul_assoc];omega
 have h4:(num*b+u2+1)*M<=q*(h*b+l)*M:=Nat.mul_le_mul_right _ h3
 have h5:U<q*V:=by
   rw [hV,Nat.mul_add, <- Nat.mul_assoc]
   rw [Nat.add_mul] at h4
   omega
 have SE:0<V:=by
   rcases Nat.eq_zero_or_pos V with e | e
   . rw [e] at h5;simp at h5
   . exact e
 have:=(Nat.div_lt_iff_lt_mul SE).2 h5
 omega
theorem PR {q r:Nat} (h0:0<h) (hV:V=(h*b+l)*M+v') (hU:U=(num*b+u2)*M+u') (hv:v'<M) (hqb:q<b) (hq:q*h+r=num) (ht:q*l<=r*b+u2):q<=U/V+1:=by
 have h3:q*(h*b+l)<=num*b+u2:=by
   rw [<- hq,Nat.add_mul,Nat.mul_add, <- Nat.mul_assoc];omega
 have h4:q*(h*b+l)*M<=(num*b+u2)*M:=Nat.mul_le_mul_right _ h3
 have h5:q*v'<=b*M:=by
   have a1:q*v'<=b*v':=Nat.mul_le_mul_right _ (Nat.le_of_lt hqb)
   have a2:b*v'<=b*M:=Nat.mul_le_mul_left _ (Nat.le_of_lt hv)
   omega
 have eV:=adz hV
 have h6:1*(b*M)<=h*(b*M):=Nat.mul_le_mul_right _ h0
 have h7:q*V<=U+V:=by
   have:q*V=q*(h*b+l)*M+q*v':=by rw [hV,Nat.mul_add, <- Nat.mul_assoc]
   omega
 rcases Nat.eq_zero_or_pos q with e | e
 . rw [e];exact Nat.zero_le _
 . have h8:(q-1)*V<=U:=by
     have:q*V=(q-1)*V+V:=by
       have:=Nat.sub_add_cancel e
       calc q*V=(q-1+1)*V:=by rw [this]
         _=(q-1)*V+V:=by rw [Nat.add_mul,Nat.one_mul]
     omega
   have SE:0<V:=by
     have hM:0<M:=by omega
     have:0<b*M:=Nat.mul_pos (by omega) hM
     omega
   have:=(Nat.le_div_iff_mul_le SE).2 h8
   omega
theorem T8 {q r:Nat} (hn:num<(h+1)*b) (hl:l<b) (hq:q*h+r=num) (hr:b<=r):q<b/\q*l<=r*b+u2:=by
 have hqb:q<b:=by
   rw [Nat.add_mul,Nat.one_mul] at hn
   have h1:q*h<b*h:=by rw [Nat.mul_comm b h];omega
   exact Nat.lt_of_mul_lt_mul_right h1
 refine ⟨hqb, ?_⟩
 have h1:q*l<=b*b:=Nat.mul_le_mul (Nat.le_of_lt hqb) (Nat.le_of_lt hl)
 have h2:b*b<=r*b:=Nat.mul_le_mul_right _ hr
 omega
theorem aaK {q:Nat} (SE:0<V) (hle:U/V<=q) (Zm:q<=U/V+1):(U<q*V/\q=U/V+1∨q*V<=U/\q=U/V):=by
 by_cases h:U<q*V
 . left
   have:=(Nat.div_lt_iff_lt_mul SE).2 h
   exact ⟨h,by omega⟩
 . right
   have:=(Nat.le_div_iff_mul_le SE).2 (Nat.le_of_not_lt h)
   exact ⟨by omega,by omega⟩
end
end Go.VL
end

section
namespace Go.VL
theorem adB {ds:List Nat} {j h l:Nat} (hw:Wd ds) (hl:ds.length=j+2) (h1:ds[j+1]? = some h) (h0:ds[j]? = some l) :
   val ds=(h*aK+l)*aK ^ j+val (ds.take j)/\val (ds.take j)<aK ^ j:=by
 have e1:=aS h1
 have e0:=aS h0
 have e2:ds.take (j+1+1)=ds:=List.take_of_length_le (by omega)
 have h3:=mw (sS hw j)
 rw [List.length_take,Nat.min_eq_left (by omega)] at h3
 rw [e2,e0] at e1
 refine ⟨?_,h3⟩
 have e4:(h*aK+l)*aK ^ j=aK ^ (j+1)*h+aK ^ j*l:=by
   rw [Nat.add_mul,Nat.pow_succ,Nat.mul_comm l,Nat.mul_assoc,Nat.mul_comm h,Nat.mul_comm aK]
 omega
theorem adC {ds:List Nat} {j x2 x1 x0:Nat} (hw:Wd ds) (hl:ds.length=j+3) (h2:ds[j+2]? = some x2) (h1:ds[j+1]? = some x1) (h0:ds[j]? = some x0) :
   val ds=((x2*aK+x1)*aK+x0)*aK ^ j+val (ds.take j)/\val (ds.take j)<aK ^ j:=by
 have e2:=aS h2
 have e1:=aS h1
 have e0:=aS h0
 have e3:ds.take (j+2+1)=ds:=List.take_of_length_le (by omega)
 have h3:=mw (sS hw j)
 rw [List.length_take,Nat.min_eq_left (by omega)] at h3
 rw [e3,e1,e0] at e2
 refine ⟨?_,h3⟩
 have e4:((x2*aK+x1)*aK+x0)*aK ^ j=aK ^ (j+2)*x2+aK ^ (j+1)*x1+aK ^ j*x0:=by
   rw [Nat.add_mul,Nat.add_mul,Nat.add_mul,Nat.mul_comm x0]
   have a:aK ^ (j+1)*x1=x1*aK*aK ^ j:=by rw [Nat.pow_succ,Nat.mul_comm,Nat.mul_assoc,Nat.mul_comm aK]
   have b:aK ^ (j+2)*x2=x2*aK*aK*aK ^ j:=by
     have e:aK ^ (j+2)=aK ^ j*aK*aK:=by rw [show j+2=j+1+1 from rfl,Nat.pow_succ,Nat.pow_succ]
     rw [e]
     generalize aK ^ j=Y
     generalize aK=Z
     simp only [Nat.mul_comm,Nat.mul_left_comm]
   omega
 omega
theorem PS {x:Nat} (h:x<aK) (h0:0<x):1<=iC x/\iC x<=32:=by
 obtain ⟨a,b⟩:=Cw h h0
 constructor
 . rcases Nat.eq_zero_or_pos (iC x) with e | e
   . rw [e] at a;simp at a;omega
   . exact e
 . have h2:2 ^ iC x<2 ^ 33:=by unfold aK at h;omega
   have:=(Nat.pow_lt_pow_iff_right (by decide:1<2)).1 h2
   omega
theorem Cz {n x k:Nat} (hk:ak n=k+1) (hx:(digits n)[k]? = some x) :
   0<x/\x<aK/\n*2 ^ (32-iC x)<aK ^ (k+1)/\ak (n*2 ^ (32-iC x))=k+1/\32-iC x<=31:=by
 have rY:=a7 n x (List.mem_of_getElem? hx)
 have HQ:0<x:=by
   rcases zj (n:=n) with h | ⟨w,h,hw⟩
   . rw [h] at hx;simp at hx
   . rw [List.getLast?_eq_getElem?,show (digits n).length-1=k from by show ak n-1=k;omega,hx] at h
     simp only [Option.some.injEq] at h;omega
 obtain ⟨yj,CY⟩:=PS rY HQ
 have Bq:=(Cw rY HQ).1
 have e:=aS hx
 rw [List.take_of_length_le (show (digits n).length<=k+1 from by show ak n<=k+1;omega),aZ] at e
 have h3:=mw (sS (a7 n) k)
 rw [List.length_take,Nat.min_eq_left (show k<=(digits n).length from by show k<=ak n;omega)] at h3
 have h4:n+1<=aK ^ k*2 ^ iC x:=by
   have:aK ^ k*(x+1)<=aK ^ k*2 ^ iC x:=Nat.mul_le_mul_left _ Bq
   rw [Nat.mul_add] at this;omega
 have h5:(n+1)*2 ^ (32-iC x)<=aK ^ (k+1):=by
   have:=Nat.mul_le_mul_right (2 ^ (32-iC x)) h4
   rw [Nat.mul_assoc, <- Nat.pow_add,show iC x+(32-iC x)=32 from by omega] at this
   rw [Nat.pow_succ];exact this
 have hp:=Nat.two_pow_pos (32-iC x)
 have h6:n*2 ^ (32-iC x)<aK ^ (k+1):=by rw [Nat.add_mul] at h5;omega
 refine ⟨HQ,rY,h6, ?_,by omega⟩
 have h7:=fN h6
 have h8:ak n<=ak (n*2 ^ (32-iC x)):=bJ (Nat.le_mul_of_pos_right _ hp)
 omega
theorem adD {x R V:Nat} (hx:x<aK) (hR:R<V):x+aK*R<aK*V/\(x+aK*R)/V<aK:=by
 have:aK*(R+1)<=aK*V:=Nat.mul_le_mul_left _ hR
 have h:x+aK*R<aK*V:=by rw [Nat.mul_add] at this;omega
 exact ⟨h,Nat.div_lt_of_lt_mul (by rw [Nat.mul_comm V];exact h)⟩
theorem aaL {num u2 M u' h l v' V D:Nat} (hl:l<aK) (hv:v'<M) (hV:V=(h*aK+l)*M+v') (hD:D=(num*aK+u2)*M+u') (hlt:D<aK*V):num<(h+1)*aK:=by
 have h1:V<(h+1)*aK*M:=by
   have:(h*aK+l+1)*M<=(h+1)*aK*M:=Nat.mul_le_mul_right _ (by rw [Nat.add_mul];omega)
   rw [Nat.add_mul,Nat.one_mul] at this;omega
 have h2:num*(aK*M)<=D:=by
   have:num*aK*M<=(num*aK+u2)*M:=Nat.mul_le_mul_right _ (by omega)
   rw [Nat.mul_assoc] at this;omega
 have h3:aK*V<(h+1)*aK*(aK*M):=by
   have:=Nat.mul_lt_mul_of_pos_left h1 cX
   rw [Nat.mul_left_comm] at this;exact this
 exact Nat.lt_of_mul_lt_mul_right (a:=aK*M) (by omega)
theorem LS {U a0 i x O V R q r:Nat} (hU:U=a0+aK ^ i*x+aK ^ (i+1)*(O*V+R)) (hD:x+aK*R=q*V+r):U=a0+aK ^ i*((q+aK*O)*V+r):=by
 have e:aK ^ (i+1)*(O*V+R)=aK ^ i*(aK*(O*V))+aK ^ i*(aK*R):=by
   rw [Nat.pow_succ,Nat.mul_assoc, <- Nat.mul_add, <- Nat.mul_add]
 have e2:aK ^ i*((q+aK*O)*V+r)=aK ^ i*(q*V+r)+aK ^ i*(aK*(O*V)):=by
   rw [<- Nat.mul_add,Nat.add_mul,Nat.mul_assoc];congr 1;omega
 rw [hU,e,e2, <- hD,Nat.mul_add];omega
theorem JT {k r:Nat} (h:r<aK ^ k):pad (k+1) r=pad k r++[0]:=by
 have e1:val (pad k r++[0])=r:=by rw [kL,fZ h]
 have e2:(pad k r++[0]).length=k+1:=by simp [kz]
 have h1:=A8 (cN (rT k r) (b:=[0]) (fun z hz=>by rw [List.mem_singleton.1 hz];exact cX))
 rw [e1,e2] at h1
 exact h1
theorem T9 {k D V q:Nat} (h:D%V<aK ^ k) (hq:q=D/V):pad (k+1) (D+aK ^ (k+1)-q*V)=pad k (D%V)++[0]:=by
 have h1:=Nat.mod_add_div D V
 rw [Nat.mul_comm] at h1
 have:D+aK ^ (k+1)-q*V=D%V+aK ^ (k+1)*1:=by rw [hq];omega
 rw [this,Fe,JT h]
theorem Ua {k D V q:Nat} (h0:0<V) (h:D%V<aK ^ k) (hV:V<aK ^ k) (hq:q=D/V+1):pad (k+1) (val (pad (k+1) (D+aK ^ (k+1)-q*V))+V)=pad k (D%V)++[0]:=by
 have h1:=Nat.mod_add_div D V
 rw [Nat.mul_comm] at h1
 have e:q*V=D/V*V+V:=by rw [hq,Nat.add_mul,Nat.one_mul]
 have h2:aK ^ k<=aK ^ (k+1):=Nat.pow_le_pow_right cX (by omega)
 have h3:D%V<V:=Nat.mod_lt _ h0
 rw [fZ (by omega)]
 have:D+aK ^ (k+1)-q*V+V=D%V+aK ^ (k+1)*1:=by omega
 rw [this,Fe,JT h]
theorem LU {m s V N k c A R:Nat} (hN:V=N*2 ^ s) (hNk:aK ^ (k-1)<=N) (hm:m<aK ^ (c+(k-1))) (hU:m*2 ^ s=A+aK ^ c*R):R<V:=by
 rcases Nat.lt_or_ge R V with h | h
 . exact h
 . exfalso
   have h1:aK ^ c*V<=aK ^ c*R:=Nat.mul_le_mul_left _ h
   have h2:aK ^ c*(aK ^ (k-1)*2 ^ s)<=aK ^ c*V:=by rw [hN];exact Nat.mul_le_mul_left _ (Nat.mul_le_mul_right _ hNk)
   rw [<- Nat.mul_assoc, <- Nat.pow_add] at h2
   have h3:=Nat.mul_lt_mul_of_pos_right hm (Nat.two_pow_pos s)
   omega
theorem aaM {q r num h l u2 M u' v' V D:Nat} (hl:l<aK) (hvM:v'<M) (huM:u'<M) (h0:0<h) (hV:V=(h*aK+l)*M+v') (hD:D=(num*aK+u2)*M+u') (hlt:D<aK*V) (hdB:D/V<aK)
   (hq:q*h+r=num) (hle:D/V<=q) (ht:aK<=q∨r*aK+u2<q*l):1<=q/\D/V<=q-1/\(q-1)*h+(r+h)=num/\(aK<=r+h->q-1<aK/\q-1<=D/V+1):=by
 have hq1:1<=q:=by
   rcases Nat.eq_zero_or_pos q with e | e
   . subst e
     rcases ht with h1 | h1
     . unfold aK at h1;omega
     . simp at h1
   . exact e
 have agR:D/V<=q-1:=by
   rcases ht with h1 | h1
   . omega
   . exact Xh hV hD huM hq h1
 have hs:(q-1)*h+(r+h)=num:=by
   obtain ⟨p,rfl⟩:∃ p,q=p+1:=⟨q-1,by omega⟩
   rw [Nat.add_mul] at hq
   simp only [Nat.add_sub_cancel];omega
 refine ⟨hq1,agR,hs,fun hb => ?_⟩
 obtain ⟨a,c⟩:=T8 (u2:=u2) (aaL hl hvM hV hD hlt) hl hs hb
 exact ⟨a,PR h0 hV hD hvM a hs c⟩
theorem PT {m n s O r:Nat} (_hn:n≠0) (hU:m*2 ^ s=O*(n*2 ^ s)+r) (hr:r<n*2 ^ s):O=m/n/\r/2 ^ s=m%n/\ak r<=ak (n*2 ^ s):=by
 have hp:=Nat.two_pow_pos s
 have h1:r=(m-O*n)*2 ^ s:=by
   rw [Nat.sub_mul,Nat.mul_assoc];omega
 have h2:m-O*n<n:=by
   rw [h1] at hr;exact Nat.lt_of_mul_lt_mul_right hr
 have h3:O*n<=m:=by
   have:O*n*2 ^ s<=m*2 ^ s:=by rw [Nat.mul_assoc];omega
   exact Nat.le_of_mul_le_mul_right this hp
 have h4:(m-O*n)+n*O=m:=by rw [Nat.mul_comm n];omega
 have h5:m/n=O/\m%n=m-O*n:=(Nat.div_mod_unique (Nat.pos_of_ne_zero _hn)).2 ⟨h4,h2⟩
 refine ⟨h5.1.symm, ?_,bJ (Nat.le_of_lt hr)⟩
 rw [h1,Nat.mul_div_cancel _ hp,h5.2]
theorem xt {a b t:List Nat} {i j x:Nat} (ha:a.length=i) (h:b[j]? = some x):(a++b++t)[i+j]? = some x:=by
 have hj:=(List.getElem?_eq_some_iff.1 h).1
 rw [List.append_assoc,List.getElem?_append_right (by omega),List.getElem?_append_left (by omega), <- h]
 congr 1;omega
theorem xu {a:List Nat} {i:Nat} (h:a.length=i+1):∃ b x,a=b++[x]/\b.length=i:=by
 refine ⟨a.take i,a[i]'(by omega), ?_,by simp;omega⟩
 rw [<- List.take_succ_eq_append_getElem,List.take_of_length_le (by omega)]
end Go.VL
end

section
namespace Go.VL
section
variable {P:Program} {G:Nat->Option (List AV)} {π : Id} {Q:cd->VS->Prop} {s:VS}
theorem VW.Rh {x y:cB} (h:VW P G π x (Then (VW P G π y Q) Q) s):VW P G π (.seq x y) Q s :=
 VW.seq (h.mono fun e _ hq=>by cases e<;>exact hq)
theorem VW.Ub {id:Nat} {x:cB} (h:VW P G π x (QS id Q) s):VW P G π (.block id x) Q s :=
 VW.block (h.mono fun e _ hq=>by cases e<;>exact hq)
theorem VW.cut {x:cB} {s':VS} (hw:Wk G π s s') (h:xQ P G π x Q s'):VW P G π x Q s:=VW.wk hw (VW.of h)
theorem VW.Zn {α : Type} {x:cB} {s:VS} (st : α -> VS) (Pr : α -> Prop) (m : α -> Nat) (x0 : α) (hw:Wk G π s (st x0)) (h0:Pr x0)
   (h:∀ a,Pr a->VW P G π x (Is G π st Pr m a Q) (st a)):VW P G π (.loop x) Q s:=by
 refine VW.wk hw ?_
 intro c hc own E w a R hm hR
 cases c<;>simp only [gK,Option.some.injEq,reduceCtorEq] at hc
 case loop cb =>
   cases h1:gK P cb with
   | none=>simp [h1] at hc
   | some vb =>
     simp only [h1,Option.map_some,Option.some.injEq,cB.loop.injEq] at hc
     subst hc
     refine yt (α := α) (fun g a' w'=>Pr g/\∃ E',mL own π E E' w w'/\mz G π own E' w' (st g) a') m (x:=x0) ⟨h0,E,mL.refl own π E w,hm⟩ ?_
     rintro g a2 w2 ⟨hI2,E2,QR,BA⟩
     refine (h g hI2) cb h1 own E2 w2 a2 _ BA ?_
     intro e s' E' w' a' hq had qH
     cases e with
     | normal =>
       obtain ⟨g',hI3,hlt,hw3⟩:=hq
       obtain ⟨E3,ad3,hm3⟩:=hw3 own E' w' a' qH
       exact ⟨g',⟨hI3,E3,(QR.trans had).trans ad3,hm3⟩,hlt⟩
     | exit id=>exact hR (.exit id) s' E' w' a' hq (QR.trans had) qH
     | ret=>exact hR .ret s' E' w' a' hq (QR.trans had) qH
 case region=>exfalso;revert hc;unfold my;(repeat' split)<;>simp
 all_goals (exfalso;revert hc;(repeat' split)<;>simp)
theorem Em {base:Nat} {n:Nat} {ps:List (Nat × Nat)} {d:Option Nat} {os:List bA} {i:Nat} {acc:List eT} {t:List AV} {σ : ah} {f:FuncId} {args lD:List AV} {r:AV} (S:List (Id × dA))
   (h:VP P G f lD r) (hv:aM (ah.of S) args lD) (hS:∀ x∈S, σ x.1=some x.2) (k:vd P G π base Q n ps os (i+1) ({ val:=r,rd:=S.map (·.1),up:=Df S }::acc) (gg t d r) (σ.app (Df S))):Dd P G π base Q n ps d os i acc t σ f args :=
 ⟨S,_,bc.JA h hv,hS,fun x hx=>List.mem_map.2 ⟨x,hx,rfl⟩,k⟩
end
theorem I0 {id:Id} {k len l h:Nat} (h1:l<h) (h2:h<=len):fK k (.osl id k 0 len false) (some (.int .i64 (l:Int))) (some (.int .i64 (h:Int))) none=some (.osl id k l (h-l) false):=by
 rcases Nat.eq_zero_or_pos l with rfl | hp
 . simp [fK,gy,jW,h2]
 . simp [fK,gy,jW,h2,Nat.le_of_lt h1,Nat.ne_of_gt hp,Nat.ne_of_lt h1]
theorem GO {id:Id} {k len h:Nat} (h2:h<=len):fK k (.osl id k 0 len false) none (some (.int .i64 (h:Int))) none=some (.osl id k 0 h false):=by
 simp [fK,gy,jW,h2]
end Go.VL
end

section
set_option linter.unusedVariables false
namespace Go.VL
section
variable {P:Program} {G:Nat->Option (List AV)}
theorem aaO {q Q:Nat} (h1:q=Q+1) (h2:q<aK):IntKind.u64.wrap ((q:Int)-1)=((Q:Nat):Int):=by
 subst h1;rw [IntKind.wrap_u64];unfold aK at h2;omega
theorem LV {id:Id} {a t:List Nat} {b tt:Bool} {n:Nat} (hn:n=a.length):View (ah.of [(id,⟨us (a++t),1,b⟩)]) (.osl id 1 0 n tt) (.sl 1 (us a)):=by
 subst hn
 refine View.osl (bk:=⟨us (a++t),1,b⟩) (by simp [ah.of]) rfl (by simp [gu]) ?_ (by rw [gu]) (Co a)
 have:((us (a++t)).drop 0).take a.length=us a:=by rw [List.drop_zero,PF];simp
 show aM _ (flat (((us (a++t)).drop 0).take a.length)) _
 rw [this]
 exact aM.pure (zl a)
set_option maxRecDepth 100000 in
set_option maxHeartbeats 4000000 in
theorem Ri {f fc fcl ftu fu fdw flz fsl ft fsu fre fsr:FuncId} (h:Has P f (pb fc fcl ftu fu fdw flz fsl ft fsu fre fsr))
   (hc:∀ m n,ak m<=1000000->ak n<=1000000->VP P G fc [W m,W n] (.int .i64 (fY m n))) (Hq:∀ n,ak n<=1000000->VP P G fcl [W n] (W n))
   (Zk:∀ n,n<18446744073709551616->VP P G ftu [W n] (.int .u64 ((n:Nat):Int))) (hu:∀ n,n<18446744073709551616->VP P G fu [.int .u64 ((n:Nat):Int)] (W n))
   (hdw:∀ m w:Nat,ak m<=1000000->w<aK->w≠0->VP P G fdw [W m, .int .u32 (w:Int)] (.tup [W (m/w),W (m%w)]))
   (hlz:∀ x:Nat,x<aK->0<x->VP P G flz [.int .u32 (x:Int)] (.int .i64 ((32-iC x:Nat):Int)))
   (WH:Has P fsl jt) (ht:iT P G ft) (hsu:Has P fsu j0) (hre:Has P fre lv) (hsr:Has P fsr gl)
   (m n:Nat) (CV:n≠0) (hm:ak m<=900000) (hn:ak n<=900000):VP P G f [W m,W n] (.tup [W (m/n),W (m%n)]):=by
 refine VP.has h ?_
 have aaP:=hc m n (by omega) (by omega)
 have agT:=Hq m (by omega)
 have Q7:m/n=0->∀ σ,View σ .nils (W (m/n)):=fun h σ => by rw [h];simp only [W,bD,us];exact View.nils 1
 have aaQ:m<n->m/n=0/\m%n=m:=fun h=>⟨Nat.div_eq_of_lt h,Nat.mod_eq_of_lt h⟩
 have c1:m<n->decide (fY m n<0)=true:=fun h=>aG (by simp only [fY,jk];rw [if_pos (by omega)];decide)
 have c2 : ¬ m<n->decide (fY m n<0)=false:=fun h=>aD (by simp only [fY,jk];rw [if_neg (by omega)];split<;>decide)
 have l1:ak m<=2->decide ((ak m:Int)<=2)=true:=fun h=>aG (by omega)
 have l2 : ¬ ak m<=2->decide ((ak m:Int)<=2)=false:=fun h=>aD (by omega)
 have b1:ak n=1->decide ((ak n:Int)=1)=true:=fun h=>aG (by omega)
 have b2 : ¬ ak n=1->decide ((ak n:Int)=1)=false:=fun h=>aD (by omega)
 simp only [pb,SS,Nat.reduceAdd]
 refine ao aaP (by simp [aq]) ?_
 by_cases h1:m<n
 . simp only [SS,Nat.reduceAdd,c1 h1]
   refine ao agT (by simp [aq]) ?_
   simp only [SS,Nat.reduceAdd]
   obtain ⟨e1,e2⟩:=aaQ h1
   refine ax▸⟨.tup [.nils,W m],rfl,View.tup (aM.cons (Q7 e1 _) (aM.cons ?_ aM.nil))⟩
   rw [e2];exact View.pure (aq _)
 have ta:n<=m:=by omega
 have hwn:ak n≠0:=fun e=>CV (cI.1 e)
 by_cases h2:ak m<=2
 . have BA:=sW h2
   have WC:n<18446744073709551616:=by omega
   have hq:=IU m n BA CV
   have hr:=IW m n CV
   have hu1:=hu (m/n) (Nat.lt_of_le_of_lt (Nat.div_le_self _ _) BA)
   have hu2:=hu (m%n) (Nat.lt_of_le_of_lt (Nat.mod_le _ _) BA)
   simp only [SS,Nat.reduceAdd,c2 h1,bn,l1 h2]
   refine ao (Zk m BA) (by simp [aq]) ?_
   simp only [SS,Nat.reduceAdd]
   refine ao (Zk n WC) (by simp [aq]) ?_
   simp only [SS,DD,Nat.reduceAdd,hq]
   refine ay hu1 (by simp [aa.int]) ?_
   simp only [SS,DD,Nat.reduceAdd,hr]
   refine ay hu2 (by simp [aa.int]) ?_
   simp only [SS,DD,Nat.reduceAdd]
   refine ⟨by simp [ab,apart], ?_⟩
   exact ax▸ae rfl (aa.tup (by intro c hc;simp at hc;rcases hc with rfl | rfl<;>exact aq _))
 by_cases h3:ak n=1
 . obtain ⟨x,hx⟩:∃ x,(digits n)[0]? = some x:=⟨_,List.getElem?_eq_getElem (by show 0<ak n;omega)⟩
   have hxn:x=n:=by
     have e:=aS hx
     rw [List.take_of_length_le (show (digits n).length<=1 from by show ak n<=1;omega),aZ] at e
     simp [val] at e;omega
   have hg:=di hx
   rw [hxn] at hg
   have hnB:n<aK:=by rw [<- hxn];exact a7 n x (List.mem_of_getElem? hx)
   have hdv:=hdw m n (by omega) hnB CV
   have Nb:cW 1 (W n) (.int .i64 0)=some (.ep (AV.int .u32 (n:Int)).cells 0):=hg
   simp only [SS,Nat.reduceAdd,c2 h1,bn,l2 h2,b1 h3,Nb,aN,bq]
   refine ao hdv (by simp [aq,aa.int]) ?_
   simp only [SS,Nat.reduceAdd,Bb,Bc]
   exact ax▸ae rfl (aa.tup (by intro c hc;simp at hc;rcases hc with rfl | rfl<;>exact aq _))
 -- Knuth's algorithm D
 obtain ⟨k,hk⟩:∃ k,ak n=k+2:=⟨ak n-2,by omega⟩
 obtain ⟨x,hx⟩:∃ x,(digits n)[k+1]? = some x:=⟨_,List.getElem?_eq_getElem (by show k+1<ak n;omega)⟩
 obtain ⟨HQ,hxB,hV,hwV,hs⟩:=Cz hk hx
 generalize hsd:32-iC x=s at hV hwV hs
 have adG:=hlz x hxB HQ
 rw [hsd] at adG
 have p1:IntKind.i64.wrap (((k+2:Nat):Int)-1)=((k+1:Nat):Int):=by rw [IntKind.wrap_i64];omega
 have p2:IntKind.i64.wrap (((k+2:Nat):Int)-2)=((k:Nat):Int):=by rw [IntKind.wrap_i64];omega
 obtain ⟨V,Rj⟩:∃ V,V=n*2 ^ s:=⟨_,rfl⟩
 obtain ⟨U,Xi⟩:∃ U,U=m*2 ^ s:=⟨_,rfl⟩
 rw [<- Rj] at hV hwV
 have NH:=Cr (G:=G) WH m s (by omega) hs
 have NI:=Cr (G:=G) WH n s (by omega) hs
 rw [<- Rj] at NI
 rw [<- Xi] at NH
 obtain ⟨L,hL⟩:∃ L,ak m+1=L+(k+2):=⟨ak m+1-(k+2),by have:=bJ ta;omega⟩
 have hUB:U<aK ^ (ak m+1):=by
   have h4:2 ^ s<=2 ^ 32:=Nat.pow_le_pow_right (by decide) (by omega)
   have h5:m*2 ^ s<=m*2 ^ 32:=Nat.mul_le_mul_left _ h4
   have h6:m*2 ^ 32<aK ^ ak m*2 ^ 32:=Nat.mul_lt_mul_of_pos_right (cV m) (by decide)
   rw [Nat.pow_succ,Xi];exact Nat.lt_of_le_of_lt h5 h6
 obtain ⟨A0,R0,hAR,Zo,hR0⟩:∃ A R,pad (ak m+1) U=A++R++[]/\A.length=L/\R.length=k+2 :=
   ⟨(pad (ak m+1) U).take L,(pad (ak m+1) U).drop L,by simp,by simp [kz];omega,by simp [kz];omega⟩
 have hAw:Wd A0/\Wd R0:=by
   have h4:=rT (ak m+1) U
   rw [hAR] at h4
   exact ⟨fun w hw=>h4 w (by simp [hw]),fun w hw=>h4 w (by simp [hw])⟩
 have hU0:U=val A0+aK ^ L*val R0:=by
   have h4:=fZ hUB
   rw [hAR,List.append_nil,cv,Zo] at h4
   exact h4.symm
 have Uc:val R0<V:=LU (k:=k+2) Rj (by have:=sT CV;rw [hk] at this;exact this) (by
   have h4:=cV m
   have:L+(k+2-1)=ak m:=by omega
   rw [this];exact h4) (Xi▸hU0)
 have GQ:ak V=k+2:=hwV
 obtain ⟨hh,Ud⟩:∃ y,(digits V)[k+1]? = some y:=⟨_,List.getElem?_eq_getElem (by show k+1<ak V;omega)⟩
 obtain ⟨ll,llg⟩:∃ y,(digits V)[k]? = some y:=⟨_,List.getElem?_eq_getElem (by show k<ak V;omega)⟩
 have hhB:=a7 V hh (List.mem_of_getElem? Ud)
 have llB:=a7 V ll (List.mem_of_getElem? llg)
 have f1:=bx hh hhB
 have f2:=bx ll llB
 obtain ⟨hVV,hvM⟩:=adB (a7 V) GQ Ud llg
 rw [aZ] at hVV
 have hh0:0<hh:=by
   rcases zj (n:=V) with h4 | ⟨w,h4,hw⟩
   . rw [h4] at Ud;simp at Ud
   . rw [List.getLast?_eq_getElem?,show (digits V).length-1=k+1 from by show ak V-1=k+1;omega,Ud] at h4
     simp only [Option.some.injEq] at h4;omega
 have Wj:0<V:=Nat.lt_of_le_of_lt (Nat.zero_le _) Uc
 have adL:IntKind.i64.wrap (((ak m+1:Nat):Int)-((k+2:Nat):Int))=((L:Nat):Int):=by rw [IntKind.wrap_i64];omega
 have KG:IntKind.i64.wrap (((L:Nat):Int)-1)=(L:Int)-1:=by rw [IntKind.wrap_i64];omega
 have ss:∀ p:Id,jn p 1 4 (.int .u32 0) (.int .i64 ((L:Nat):Int)) (.int .i64 ((L:Nat):Int))=some { val := .osl p 1 0 L false,up:=[(p,some ⟨us (List.replicate L 0),1,false⟩)] }:=fun p=>nE (by omega)
 rw [hAR] at NH
 rw [hk] at NI
 have b3:decide (((k+2:Nat):Int)=1)=false:=aD (by omega)
 have SE:V<aK ^ (k+2+1):=Nat.lt_of_lt_of_le hV (Nat.pow_le_pow_right cX (by omega))
 have Ue:VP P G ft [.sl 1 (us (pad (k+2+1) V))] (W V):=by
   have:=ht (pad (k+2+1) V) (rT _ _) (by rw [kz];omega)
   rwa [fZ SE] at this
 simp only [SS,Nat.reduceAdd,c2 h1,bn,l2 h2,b3,hk,p1,di hx,aN,bq]
 refine ao adG (by simp [aa.int]) ?_
 simp only [SS,Nat.reduceAdd]
 refine ⟨[],_,NH _,by simp,by simp, ?_⟩
 simp only [SS,Nat.reduceAdd]
 refine ⟨[],_,NI _,by simp,by simp, ?_⟩
 simp only [SS,Nat.reduceAdd]
 refine bG [([4,28],⟨us (pad (k+2+1) V),1,false⟩)] Ue (aM.cons (gZ (kz _ _).symm) aM.nil) (by simp [ah.put]) ?_
 simp only [SS,Nat.reduceAdd]
 simp only [SS,DD,Nat.reduceAdd,bn,GQ,adL,KG,ss,p1,p2,di Ud,di llg,aN,bq,f1,f2]
 refine ⟨by simp [ab], ?_⟩
 simp only [az]
 refine VW.Zn (α := Nat × List Nat × List Nat × List Nat × List Nat × Nat) (fun x=>⟨List.replicate 8 .top++[.int .i64 (s:Int), .osl [4,25] 1 0 (ak m+1) false,W V, .int .i64 ((k+2:Nat):Int), .osl [39] 1 0 L false, .int .u64 (hh:Int), .int .u64 (ll:Int), .int .i64 ((x.1:Int)-1)]++List.replicate 161 .top,
   ah.put (ah.put (fun _=>none) [4,25] (some ⟨us (x.2.1++x.2.2.1++x.2.2.2.1),1,false⟩)) [39] (some ⟨us (zs x.1++x.2.2.2.2.1),1,false⟩),x.2.2.2.2.2⟩)
   (fun x=>x.1+x.2.2.2.2.1.length=L/\x.2.1.length=x.1/\x.2.2.1.length=k+2/\x.1+(k+2)+x.2.2.2.1.length=ak m+1/\Wd x.2.1/\Wd x.2.2.1/\Wd x.2.2.2.2.1/\val x.2.2.1<V/\U=val x.2.1+aK ^ x.1*(val x.2.2.2.2.1*V+val x.2.2.1)) (fun x=>x.1) (L,A0,R0,[],[],1000) ?_ ?_ ?_
 . refine Wk.forget (by simp [Fg,List.replicate]) (fun j => ?_) (by simp only [];omega)
   simp only [List.append_nil,ah.put,ah.app,Df,List.map_cons,List.map_nil,zs]
   by_cases e1:j=[39]
   . subst e1;simp
   . by_cases e2:j=[4,25]
     . subst e2;simp
     . simp [e1,e2]
 . refine ⟨by simp,Zo,hR0,by simp;omega,hAw.1,hAw.2,by intro w hw;simp at hw,Uc, ?_⟩
   show U=val A0+aK ^ L*(val []*V+val R0)
   rw [show val []=0 from rfl,Nat.zero_mul,Nat.zero_add];exact hU0
 rintro ⟨c,A,R,t,o,nn⟩ ⟨hc,hA,hR,htl,hAW,hRW,hoW,SD,hUe⟩
 simp only [] at hc hA hR htl hAW hRW hoW SD hUe
 rcases Nat.eq_zero_or_pos c with h0 | hcp
 . subst h0
   have d0:decide ((0:Int)<=((0:Nat):Int)-1)=false:=by decide
   refine VW.Rh (VW.of ?_)
   simp only [SS,DD,Nat.reduceAdd,d0]
   obtain rfl:A=[]:=List.length_eq_zero_iff.1 hA
   have hU':m*2 ^ s=val o*(n*2 ^ s)+val R:=by
     rw [<- Xi, <- Rj,hUe]
     show val []+aK ^ 0*_=_
     simp [val]
   obtain ⟨g1,g2,g3⟩:=PT CV hU' (Rj▸SD)
   have hoL:L=o.length:=by omega
   have htq:=ht o hoW (by omega)
   rw [g1] at htq
   have htR:=ht R hRW (by omega)
   have hwR:ak (val R)<=1000000:=by rw [<- Rj,GQ] at g3;omega
   have ag1:=Az (G:=G) hsr (val R) s hwR hs
   have htr:VP P G ft [.sl 1 (us (pad (ak (val R)) (val R/2 ^ s)))] (W (m%n)):=by
     have e:=ht (pad (ak (val R)) (val R/2 ^ s)) (rT _ _) (by rw [kz];omega)
     rw [fZ (Nat.lt_of_le_of_lt (Nat.div_le_self _ _) (cV _))] at e
     rw [<- g2];exact e
   have LW:fK 1 (.osl [4,25] 1 0 (ak m+1) false) none (some (.int .i64 ((k+2:Nat):Int))) none=some (.osl [4,25] 1 0 (k+2) false):=GO (by omega)
   rw [xq,List.nil_append,List.nil_append]
   refine Em [([39],⟨us o,1,false⟩)] htq (aM.cons (gZ hoL) aM.nil) (by simp [ah.put]) ?_
   simp only [SS,DD,Nat.reduceAdd,LW]
   refine Em [([4,25],⟨us (R++t),1,false⟩)] htR (aM.cons (LV hR.symm) aM.nil) (by simp [ah.put,ah.app,Df]) ?_
   simp only [SS,DD,Nat.reduceAdd]
   refine ay ag1 (by simp [aq,aa.int]) ?_
   simp only [SS,DD,Nat.reduceAdd]
   refine ay htr (by simp [Cn]) ?_
   simp only [SS,DD,Nat.reduceAdd]
   refine ⟨by simp [ab,apart,Df], ?_⟩
   exact ax▸ae rfl (aa.tup (by intro c hc;simp at hc;rcases hc with rfl | rfl<;>exact aq _))
 obtain ⟨i,rfl⟩:∃ i,c=i+1:=⟨c-1,by omega⟩
 have d0:decide ((0:Int)<=(i:Int))=true:=aG (by omega)
 have hj:((i+1:Nat):Int)-1=(i:Int):=by omega
 have TM:IntKind.i64.wrap ((i:Int)-1)=(i:Int)-1:=by rw [IntKind.wrap_i64];omega
 refine VW.Rh (VW.of ?_)
 simp only [SS,Nat.reduceAdd,hj,d0]
 obtain ⟨A',y,rfl,hA'⟩:=xu hA
 obtain ⟨b,Fa⟩:∃ b,b=y::R:=⟨_,rfl⟩
 have eb:A'++[y]++R++t=A'++b++t:=by rw [Fa];simp
 rw [eb]
 have hyB:y<aK:=hAW y (by simp)
 have aa0:Wd A':=fun w hw=>hAW w (by simp [hw])
 have Bq:b.length=k+3:=by rw [Fa];simp [hR]
 have Kq:Wd b:=by
   intro w hw;rw [Fa] at hw
   rcases List.mem_cons.1 hw with rfl | hw
   . exact hyB
   . exact hRW w hw
 have hbv:val b=y+aK*val R:=by rw [Fa];rfl
 obtain ⟨Zp,Wl⟩:=adD hyB SD
 rw [<- hbv] at Zp Wl
 obtain ⟨x2,hx2⟩:∃ z,b[k+2]? = some z:=⟨_,List.getElem?_eq_getElem (by omega)⟩
 obtain ⟨x1,Ho⟩:∃ z,b[k+1]? = some z:=⟨_,List.getElem?_eq_getElem (by omega)⟩
 obtain ⟨z0,Wi⟩:∃ z,b[k]? = some z:=⟨_,List.getElem?_eq_getElem (by omega)⟩
 have NJ:=Kq x2 (List.mem_of_getElem? hx2)
 have Uf:=Kq x1 (List.mem_of_getElem? Ho)
 have Ug:=Kq z0 (List.mem_of_getElem? Wi)
 obtain ⟨hD,huM⟩:=adC Kq Bq hx2 Ho Wi
 rw [show x2*aK+x1=aK*x2+x1 from by rw [Nat.mul_comm]] at hD
 obtain ⟨num,GR⟩:∃ z,z=aK*x2+x1:=⟨_,rfl⟩
 rw [<- GR] at hD
 have PV:num<18446744073709551616:=by rw [GR];unfold aK at *;omega
 have a1:=oH i (k+2) (by omega)
 have a2:IntKind.i64.wrap (((i+(k+2):Nat):Int)-1)=((i+(k+1):Nat):Int):=by rw [IntKind.wrap_i64];omega
 have a3:IntKind.i64.wrap (((i+(k+2):Nat):Int)-2)=((i+k:Nat):Int):=by rw [IntKind.wrap_i64];omega
 have a4:IntKind.i64.wrap (((i+(k+2):Nat):Int)+1)=((i+(k+3):Nat):Int):=by rw [IntKind.wrap_i64];omega
 have ia2:=cO (q:=[4,25]) (t:=false) (show i+(k+2)<ak m+1 by omega)
 have ia1:=cO (q:=[4,25]) (t:=false) (show i+(k+1)<ak m+1 by omega)
 have ia0:=cO (q:=[4,25]) (t:=false) (show i+k<ak m+1 by omega)
 have iaq:=cO (q:=[39]) (t:=false) (show i<L by omega)
 have LW:fK 1 (.osl [4,25] 1 0 (ak m+1) false) (some (.int .i64 (i:Int))) (some (.int .i64 ((i+(k+3):Nat):Int))) none=some (.osl [4,25] 1 A'.length (ak V+1) false):=by
   rw [I0 (by omega) (by omega),hA',GQ]
   congr 2;omega
 generalize hσ : ah.put (ah.put (fun _=>none) [4,25] (some ⟨us (A'++b++t),1,false⟩)) [39] (some ⟨us (zs (i+1)++o),1,false⟩) = σ0
 have Xj : σ0 [4,25]=some ⟨us (A'++b++t),1,false⟩:=by rw [<- hσ];simp [ah.put]
 have hσQ : σ0 [39]=some ⟨us (zs (i+1)++o),1,false⟩:=by rw [<- hσ];simp [ah.put]
 have ld2:=ju Xj (xt (t:=t) hA' hx2)
 have ld1:=ju Xj (xt (t:=t) hA' Ho)
 have ld0:=ju Xj (xt (t:=t) hA' Wi)
 have w2:=bx x2 NJ
 have w1:=bx x1 Uf
 have w0:=bx z0 Ug
 have s2:=A7 x2 NJ
 have o2:=IQ x2 x1 NJ Uf
 rw [<- GR] at o2
 have q1:=IU num hh PV (by omega)
 have r1:=IW num hh (by omega)
 refine VW.Rh (VW.Ub (VW.Rh (VW.of ?_)))
 simp only [SS,DD,Nat.reduceAdd,a1,a2,ia2,ia1,ld2,ld1,w2,w1,s2,o2]
 refine ⟨by simp [ab],VW.Rh (VW.of ?_)⟩
 simp only [SS,DD,Nat.reduceAdd,q1,r1]
 refine ⟨by simp [ab],VW.Rh (VW.Ub ?_)⟩
 have adP:num/hh*hh+num%hh=num:=by rw [Nat.mul_comm];exact Nat.div_add_mod num hh
 have JU:=LR hh0 hVV hD Ug huM
 refine VW.mono (Q:=fun e s'=>∃ q n2,e = .exit 3/\(q<aK/\val b/V<=q/\q<=val b/V+1)/\Wk G [] s' ⟨List.replicate 8 .top++[.int .i64 (s:Int), .osl [4,25] 1 0 (ak m+1) false,W V, .int .i64 ((k+2:Nat):Int), .osl [39] 1 0 L false, .int .u64 (hh:Int), .int .u64 (ll:Int), .int .i64 (i:Int), .top, .int .u64 (q:Int)]++List.replicate 159 .top, σ0,n2⟩) ?_ ?_
 . refine VW.dU (α := Nat × Nat × Nat) (fun x=>⟨List.replicate 8 .top++[.int .i64 (s:Int), .osl [4,25] 1 0 (ak m+1) false,W V, .int .i64 ((k+2:Nat):Int), .osl [39] 1 0 L false, .int .u64 (hh:Int), .int .u64 (ll:Int), .int .i64 (i:Int), .top, .int .u64 (x.1:Int), .int .u64 (x.2.1:Int)]++List.replicate 158 .top, σ0,x.2.2⟩)
     (fun x=>x.1*hh+x.2.1=num/\val b/V<=x.1/\x.2.1<aK/\x.1<18446744073709551616) (fun x=>x.1) (num/hh,num%hh,nn+1000) ?_ ?_ ?_
   . exact Wk.slots (by simp [Fg,List.replicate]) (by simp only [];omega)
   . exact ⟨adP,JU,Nat.lt_trans (Nat.mod_lt _ hh0) hhB,Nat.lt_of_le_of_lt (Nat.div_le_self _ _) PV⟩
   rintro ⟨q,r,n3⟩ ⟨KD,hle,LH,ag7⟩
   simp only [] at KD hle LH ag7
   have d1:aK<=q->decide ((4294967296:Int)<=(q:Int))=true:=fun h=>aG (by unfold aK at h;omega)
   have d2 : ¬ aK<=q->decide ((4294967296:Int)<=(q:Int))=false:=fun h=>aD (by unfold aK at h;omega)
   have d3:aK<=r+hh->decide ((4294967296:Int)<=((r+hh:Nat):Int))=true:=fun h=>aG (by unfold aK at h;omega)
   have d4 : ¬ aK<=r+hh->decide ((4294967296:Int)<=((r+hh:Nat):Int))=false:=fun h=>aD (by unfold aK at h;omega)
   have d5:aK*r+z0<q*ll->decide (((aK*r+z0:Nat):Int)<((q*ll:Nat):Int))=true:=fun h=>aG (by omega)
   have d6 : ¬ aK*r+z0<q*ll->decide (((aK*r+z0:Nat):Int)<((q*ll:Nat):Int))=false:=fun h=>aD (by omega)
   have m1 : ¬ aK<=q->IntKind.u64.wrap ((q:Int)*(ll:Int))=((q*ll:Nat):Int):=fun h=>PK q ll (by omega) llB
   have s3:=A7 r LH
   have o3:=IQ r z0 LH Ug
   have p3:=pZ r hh (by unfold aK at *;omega)
   have M5:=fun ht=>aaM (q:=q) (r:=r) llB hvM huM hh0 hVV hD Zp Wl KD hle ht
   have gP : ¬ aK<=q->q*ll<=r*aK+z0->q<=val b/V+1:=fun h1 h2=>PR hh0 hVV hD hvM (by omega) KD h2
   have OJ:r*aK=aK*r:=Nat.mul_comm _ _
   rw [OJ] at M5 gP
   have pq:1<=q->IntKind.u64.wrap ((q:Int)-1)=((q-1:Nat):Int):=fun h=>by rw [IntKind.wrap_u64];omega
   have hql:q-1<18446744073709551616:=by omega
   have hmq:1<=q->q-1<q:=fun h=>by omega
   have hrh : ¬ aK<=r+hh->r+hh<aK:=fun h=>by omega
   by_cases cq:aK<=q
   . obtain ⟨k1,k2,k3,k4⟩:=M5 (.inl cq)
     by_cases cr:aK<=r+hh
     . simp only [SS,Nat.reduceAdd,d1 cq,pq k1,p3,d3 cr]
       exact ⟨q-1,_,trivial,⟨(k4 cr).1,k2,(k4 cr).2⟩,Wk.slots (by simp [Fg]) (Nat.le_refl _)⟩
     . simp only [SS,Nat.reduceAdd,d1 cq,pq k1,p3,d4 cr]
       exact ⟨(q-1,r+hh,_),⟨k3,k2,hrh cr,hql⟩,hmq k1,Wk.slots (by simp [Fg]) (Nat.le_refl _)⟩
   . by_cases ct:aK*r+z0<q*ll
     . obtain ⟨k1,k2,k3,k4⟩:=M5 (.inr ct)
       by_cases cr:aK<=r+hh
       . simp only [SS,Nat.reduceAdd,d2 cq,m1 cq,s3,a1,a3,ia0,ld0,w0,o3,d5 ct,pq k1,p3,d3 cr]
         exact ⟨q-1,_,trivial,⟨(k4 cr).1,k2,(k4 cr).2⟩,Wk.slots (by simp [Fg]) (Nat.le_refl _)⟩
       . simp only [SS,Nat.reduceAdd,d2 cq,m1 cq,s3,a1,a3,ia0,ld0,w0,o3,d5 ct,pq k1,p3,d4 cr]
         exact ⟨(q-1,r+hh,_),⟨k3,k2,hrh cr,hql⟩,hmq k1,Wk.slots (by simp [Fg]) (Nat.le_refl _)⟩
     . have hp:=gP cq (by omega)
       have ag8:q<aK:=by omega
       simp only [SS,Nat.reduceAdd,d2 cq,m1 cq,s3,a1,a3,ia0,ld0,w0,o3,d6 ct]
       exact ⟨q,_,trivial,⟨ag8,hle,hp⟩,Wk.slots (by simp [Fg]) (Nat.le_refl _)⟩
 rintro e s' ⟨q,n2,rfl,⟨hqB,hle,Zm⟩,hw⟩
 simp only [Dc,if_true,yu]
 refine VW.cut hw ?_
 have FG:=LK (G:=G) hsu (id:=[4,25]) (a:=A') (b:=b) (t:=t) (v:=V) (q:=q) (tight:=false) (by omega) (by omega) Kq hqB
 have KJ:=NC (G:=G) hre (id:=[4,25]) (a:=A') (b:=pad (ak V+1) (val b+aK ^ (ak V+1)-q*V)) (t:=t) (v:=V) (tight:=false) (by omega) (kz _ _) (rT _ _)
 have hVB:V<aK ^ (k+2):=hV
 have I1:val b%V<V:=Nat.mod_lt _ Wj
 have PW:val b%V<aK ^ (k+2):=Nat.lt_trans I1 hVB
 simp only [SS,Nat.reduceAdd,a1,a4,LW]
 refine ⟨[([4,25],⟨us (A'++b++t),1,false⟩)],_,FG _,by simp [Xj],by simp, ?_⟩
 have hqL:i<(zs (i+1)++o).length:=by simp [zs];omega
 have Jy:val b=val b/V*V+val b%V:=by have:=Nat.div_add_mod (val b) V;rw [Nat.mul_comm] at this;omega
 have hUn:U=val A'+aK ^ i*(val (val b/V::o)*V+val (pad (k+2) (val b%V))):=by
   rw [fZ PW]
   refine LS (x:=y) (R:=val R) (O:=val o) ?_ (by rw [<- hbv];exact Jy)
   rw [hUe,cv,hA']
   simp only [val,Nat.mul_zero,Nat.add_zero]
 have C1:i+(val b/V::o).length=L/\A'.length=i/\(pad (k+2) (val b%V)).length=k+2/\i+(k+2)+(0::t).length=ak m+1/\Wd A'/\Wd (pad (k+2) (val b%V))/\Wd (val b/V::o)/\val (pad (k+2) (val b%V))<V/\U=val A'+aK ^ i*(val (val b/V::o)*V+val (pad (k+2) (val b%V))):=by
   refine ⟨by simp;omega,hA',kz _ _,by simp;omega,aa0,rT _ _, ?_,by rw [fZ PW];exact I1,hUn⟩
   intro w hw
   rcases List.mem_cons.1 hw with rfl | hw
   . exact Wl
   . exact hoW w hw
 have hqi:IntKind.u32.wrap ((val b/V:Nat):Int)=((val b/V:Nat):Int):=by rw [yk,Nat.mod_eq_of_lt Wl]
 have YQ:((i:Nat):Int)-1=(((i:Nat):Int)-1):=rfl
 rcases aaK Wj hle Zm with ⟨hlt,Xk⟩ | ⟨KI,Xk⟩
 . have dn:decide (val b<q*V)=true:=aG hlt
   have pq:=aaO Xk hqB
   have YP:pad (ak V+1) (val (pad (ak V+1) (val b+aK ^ (ak V+1)-q*V))+V)=pad (k+2) (val b%V)++[0]:=by
     rw [GQ];exact Ua Wj PW hVB Xk
   have ef:A'++(pad (k+2) (val b%V)++[0])++t=A'++pad (k+2) (val b%V)++(0::t):=by simp
   rw [YP,ef] at KJ
   simp only [SS,Nat.reduceAdd,dn,pq,a1,a4,LW]
   refine ⟨[([4,25],⟨us (A'++pad (ak V+1) (val b+aK ^ (ak V+1)-q*V)++t),1,false⟩)],_,KJ _,by simp [ah.put],by simp, ?_⟩
   simp only [SS,Nat.reduceAdd,hqi,iaq]
   rw [bU (o:=zs (i+1)++o) (by simp [ah.put,hσQ]) hqL,zm]
   simp only [SS,Nat.reduceAdd]
   refine VW.of ?_
   simp only [SS,Nat.reduceAdd,TM]
   refine ⟨(i,A',pad (k+2) (val b%V),0::t,val b/V::o,_),C1,Nat.lt_succ_self i,Wk.forget (by simp [Fg]) (fun j => ?_) (Nat.le_refl _)⟩
   by_cases e1:j=[39]
   . subst e1;simp [ah.put]
   . by_cases e2:j=[4,25]
     . subst e2;simp [ah.put]
     . simp [ah.put,e1,e2]
 . have dn:decide (val b<q*V)=false:=aD (by omega)
   have YP:pad (ak V+1) (val b+aK ^ (ak V+1)-q*V)=pad (k+2) (val b%V)++[0]:=by
     rw [GQ];exact T9 PW Xk
   have ef:A'++(pad (k+2) (val b%V)++[0])++t=A'++pad (k+2) (val b%V)++(0::t):=by simp
   rw [YP,ef]
   simp only [SS,Nat.reduceAdd,dn]
   rw [Xk]
   simp only [SS,Nat.reduceAdd,hqi,iaq]
   rw [bU (o:=zs (i+1)++o) (by simp [ah.put,hσQ]) hqL,zm]
   simp only [SS,Nat.reduceAdd]
   refine VW.of ?_
   simp only [SS,Nat.reduceAdd,TM]
   refine ⟨(i,A',pad (k+2) (val b%V),0::t,val b/V::o,_),C1,Nat.lt_succ_self i,Wk.forget (by simp [Fg]) (fun j => ?_) (Nat.le_refl _)⟩
   by_cases e1:j=[39]
   . subst e1;simp [ah.put]
   . by_cases e2:j=[4,25]
     . subst e2;simp [ah.put]
     . simp [ah.put,e1,e2]
end
end Go.VL
end

section
set_option linter.unusedVariables false
namespace Go.VL
theorem adQ (neg:Bool) (n:Nat):IV (xn neg n) = .agg [.bool (neg&&decide (0<n)),W n]:=by
 cases neg
 . simp only [IV,xn];simp<;>omega
 . simp only [IV,xn];simp<;>omega
theorem Xl (σ : ah) (id:Id) (k:Nat) (b:Bool) (n:Nat):fJ (σ.put id (some ⟨[.agg [.bool false, .nils]],k,false⟩)) 2 (.ref id 0 0) (.agg [.bool b,W n])=some { val := .tup [],rd:=[id],up:=[(id,some ⟨[.agg [.bool b,W n]],k,false⟩)] }:=by
 rw [fH (n:=2) (v := .agg [.bool b,W n]) (els:=[.agg [.bool false, .nils]]) (k:=k) (ah.dE _ _ _) rfl rfl (by simp [AV.size,AV.cells]) rfl]
 rfl
theorem Uh {n:Nat}:0<ak n↔0<n:=by have:=cI (n:=n);omega
section
variable {P:Program} {G:Nat->Option (List AV)}
theorem NK {f ft:FuncId} (h:Has P f (jB ft)) (ht:iT P G ft):iW P G f:=fun neg n hn=>by
 refine VP.has h ?_
 simp only [jB,SS,Nat.reduceAdd,bZ]
 refine ao (oJ ht n hn) (by simp [aq]) ?_
 have e:∀ b,iN [.bool false, .nils] [(0,(1, .bool b)),(1,(1,W n))]=some [.bool b,W n]:=fun _=>rfl
 have dd:decide ((0:Int)<(ak n:Int))=decide (0<n):=by
   have:=Uh (n:=n)
   by_cases h0:0<n
   . rw [aG h0,aG (by omega)]
   . rw [aD h0,aD (by omega)]
 rw [adQ]
 cases neg <;>
 . simp only [SS,Nat.reduceAdd,bn,dd,e,Xl,Bool.true_and,Bool.false_and]
   refine ax▸ae ?_ (aa.agg (by intro c hc;simp at hc;rcases hc with rfl | rfl;exact aa.bool _;exact aq _))
   simp only [RS,a8,bg,ai];rfl
theorem Ui {f fs:FuncId} (h:Has P f (kM fs)) (hs:iW P G fs) (z:Int) (hz:ak z.natAbs<=1000000):VP P G f [IV z] (IV z):=by
 refine VP.has h ?_
 have eK:=hs (decide (z<0)) z.natAbs (by omega)
 rw [Cx] at eK
 have yf:([0]:List Nat)≠[1]:=by decide
 simp only [kM,SS,Nat.reduceAdd,eX,bZ,af yf,ai,jR,iD]
 refine ao eK (by simp [aa.bool,aq]) ?_
 simp only [SS,Nat.reduceAdd,iV]
 refine ax▸ae (r:=IV z) ?_ (ag _)
 simp only [RS,a8,bg,ai];rfl
theorem Xm {f fs:FuncId} (h:Has P f (lK fs)) (hs:iW P G fs) (z:Int) (hz:ak z.natAbs<=1000000):VP P G f [IV z] (IV (-z)):=by
 refine VP.has h ?_
 have eK:=hs (!decide (z<0)) z.natAbs (by omega)
 rw [PL] at eK
 have yf:([0]:List Nat)≠[1]:=by decide
 simp only [lK,SS,Nat.reduceAdd,eX,bZ,af yf,ai,jR,iD]
 refine ao eK (by simp [aa.bool,aq]) ?_
 simp only [SS,Nat.reduceAdd,iV]
 refine ax▸ae (r:=IV (-z)) ?_ (ag _)
 simp only [RS,a8,bg,ai];rfl
theorem Rk {f fn:FuncId} (h:Has P f (kP fn)) (hn:∀ z:Int,ak z.natAbs<=1000000->VP P G fn [IV z] (IV z)) (z:Int) (hz:ak z.natAbs<=1000000):VP P G f [IV z] (.int .i64 z.sign):=by
 refine VP.has h ?_
 have hl:ak z.natAbs=0↔z=0:=by rw [cI];omega
 simp only [kP,SS,Nat.reduceAdd,eX,ai,c9]
 refine ao (hn z hz) (by simp [ag]) ?_
 simp only [SS,Nat.reduceAdd]
 rw [dp (k:=(IV z).size) (y:=IV z) rfl (Ba _ _) (by simp [ah.put])]
 simp only [SS,Nat.reduceAdd,ai,iD,bn]
 by_cases h0:z=0
 . have d0:decide ((ak z.natAbs:Int)=0)=true:=aG (by have:=hl.2 h0;omega)
   simp only [SS,Nat.reduceAdd,d0]
   rw [h0]
   exact ax▸ae rfl (aa.int _ _)
 . have d0:decide ((ak z.natAbs:Int)=0)=false:=aD (by have:=fun e=>h0 (hl.1 e);omega)
   by_cases hn:z<0
   . have d1:decide (z<0)=true:=aG hn
     simp only [SS,Nat.reduceAdd,d0,ai,jR,d1]
     rw [Int.sign_eq_neg_one_of_neg hn]
     exact ax▸ae rfl (aa.int _ _)
   . have d1:decide (z<0)=false:=aD hn
     simp only [SS,Nat.reduceAdd,d0,ai,jR,d1]
     rw [Int.sign_eq_one_of_pos (by omega)]
     exact ax▸ae rfl (aa.int _ _)
theorem Rl {f fu fs:FuncId} (h:Has P f (ja fu fs)) (hu:∀ n,n<18446744073709551616->VP P G fu [.int .u64 ((n:Nat):Int)] (W n)) (hs:iW P G fs) (a:Int) (h1 : -9223372036854775808<=a) (h2:a<9223372036854775808):VP P G f [.int .i64 a] (IV a):=by
 refine VP.has h ?_
 have hsz:=pG a.natAbs (by omega)
 have eK:=hs (decide (a<0)) a.natAbs (by omega)
 rw [Cx] at eK
 have M1:=hu a.natAbs (by omega)
 simp only [ja,SS,Nat.reduceAdd,bZ]
 by_cases hn:a<0
 . have d1:decide (a<0)=true:=aG hn
   rw [d1] at eK
   have e1:IntKind.u64.wrap (0-(IntKind.u64.wrap a))=(a.natAbs:Int):=by rw [IntKind.wrap_u64,IntKind.wrap_u64];omega
   simp only [SS,Nat.reduceAdd,d1,e1]
   refine ao M1 (by simp [aa.int]) ?_
   simp only [SS,Nat.reduceAdd]
   refine ao eK (by simp [aa.bool,aq]) ?_
   simp only [SS,Nat.reduceAdd,iV]
   refine ax▸ae (r:=IV a) ?_ (ag _)
   simp only [RS,a8,bg,ai];rfl
 . have d1:decide (a<0)=false:=aD hn
   rw [d1] at eK
   have e1:IntKind.u64.wrap a=(a.natAbs:Int):=by rw [IntKind.wrap_u64];omega
   simp only [SS,Nat.reduceAdd,d1,e1]
   refine ao M1 (by simp [aa.int]) ?_
   simp only [SS,Nat.reduceAdd]
   refine ao eK (by simp [aa.bool,aq]) ?_
   simp only [SS,Nat.reduceAdd,iV]
   refine ax▸ae (r:=IV a) ?_ (ag _)
   simp only [RS,a8,bg,ai];rfl
end
end Go.VL
end

section
set_option linter.unusedVariables false
namespace Go.VL
theorem HT {ds:List Nat} {j a:Nat} (h:ds[j]? = some a):val (ds.drop j)=a+aK*val (ds.drop (j+1)):=by
 obtain ⟨h1,h2⟩:=List.getElem?_eq_some_iff.1 h
 rw [List.drop_eq_getElem_cons h1,h2];rfl
theorem Xn {ds:List Nat} (h:Wd ds) (k:Nat):Wd (ds.drop k):=fun w hw=>h w (List.mem_of_mem_drop hw)
section
variable {P:Program} {G:Nat->Option (List AV)}
theorem Uj {f:FuncId} (h:Has P f j2) (n:Nat) (hn:n<18446744073709551616):VP P G f [W n] (.int .u64 (n:Int)):=by
 refine VP.has h ?_
 have hwn:=pG n hn
 have hwL:IntKind.i64.wrap ((ak n:Int)-1)=(ak n:Int)-1:=by rw [IntKind.wrap_i64];omega
 simp only [j2,SS,Nat.reduceAdd,bn,hwL,az]
 refine VW.dU (α := Nat × Nat × Nat) (fun x=>⟨[W n, .top, .top, .int .u64 (x.2.2:Int), .int .i64 ((x.1:Int)-1)]++List.replicate 16 .top,fun _=>none,x.2.1⟩)
   (fun x=>x.1<=ak n/\x.2.2=val ((digits n).drop x.1)) (fun x=>x.1) (ak n,1000,0) ?_ ?_ ?_
 . exact Wk.slots (by simp [Fg,List.replicate]) (by simp only [];omega)
 . refine ⟨Nat.le_refl _, ?_⟩
   show 0=val ((digits n).drop (ak n))
   rw [List.drop_eq_nil_of_le (show (digits n).length<=ak n from Nat.le_refl _)];rfl
 rintro ⟨k,nn,r⟩ ⟨hk,hv⟩
 simp only [] at hk hv
 by_cases h0:k=0
 . subst h0
   have d0:decide ((0:Int)<=((0:Nat):Int)-1)=false:=by decide
   rw [List.drop_zero,aZ] at hv
   subst hv
   simp only [SS,Nat.reduceAdd,d0]
   exact ax▸ae rfl (aa.int _ _)
 . obtain ⟨j,rfl⟩:∃ j,k=j+1:=⟨k-1,by omega⟩
   have d0:decide ((0:Int)<=(j:Int))=true:=aG (by omega)
   have hj:((j+1:Nat):Int)-1=(j:Int):=by omega
   have Nz:IntKind.i64.wrap ((j:Int)-1)=(j:Int)-1:=by rw [IntKind.wrap_i64];omega
   obtain ⟨a,ha⟩:∃ a,(digits n)[j]? = some a:=⟨_,List.getElem?_eq_getElem (show j<ak n by omega)⟩
   have vg:=a7 n a (List.mem_of_getElem? ha)
   have f1:=bx a vg
   have LH:r<aK:=by
     have h1:=mw (Xn (a7 n) (j+1))
     rw [<- hv,List.length_drop] at h1
     have h2:aK ^ ((digits n).length-(j+1))<=aK ^ 1:=Nat.pow_le_pow_right cX (by show ak n-(j+1)<=1;omega)
     rw [Nat.pow_one] at h2;omega
   have f2:=A7 r LH
   have f3:=IQ r a LH vg
   have hv':aK*r+a=val ((digits n).drop j):=by rw [HT ha,hv,Nat.add_comm]
   have hjw:j<=ak n:=by omega
   simp only [SS,Nat.reduceAdd,d0,hj,di ha,aN,bq,f1,f2,f3,Nz]
   exact ⟨(j,_,aK*r+a),⟨hjw,hv'⟩,Nat.lt_succ_self j,Wk.slots (by simp [Fg]) (Nat.le_refl _)⟩
theorem LX {f:FuncId} (h:Has P f jb) (m n:Nat) (hm:ak m<=1000000) (_hn:ak n<=1000000):VP P G f [W m,W n] (.int .i64 (fY m n)):=by
 refine VP.has h ?_
 simp only [jb,SS,Nat.reduceAdd,bn]
 by_cases hl:ak m=ak n
 case neg =>
   have d:decide ((ak m:Int)≠(ak n:Int))=true:=aG (by omega)
   rcases Nat.lt_or_ge (ak m) (ak n) with h1 | h1
   . have h2:=xp h1
     have d1:decide ((ak m:Int)<(ak n:Int))=true:=aG (by omega)
     have e:fY m n = -1-0:=by unfold fY;rw [zL (by omega)];rfl
     rw [e]
     simp only [SS,Nat.reduceAdd,bn,d,d1]
     exact ax▸ae rfl (aa.int _ _)
   . have h1':ak n<ak m:=by omega
     have h2:=xp h1'
     have d1:decide ((ak m:Int)<(ak n:Int))=false:=aD (by omega)
     have e:fY m n=1:=by unfold fY;rw [zM (by omega)]
     rw [e]
     simp only [SS,Nat.reduceAdd,bn,d,d1]
     exact ax▸ae rfl (aa.int _ _)
 have d:decide ((ak m:Int)≠(ak n:Int))=false:=aD (by omega)
 have ew:IntKind.i64.wrap ((ak m:Int)-1)=(ak m:Int)-1:=by rw [IntKind.wrap_i64];omega
 have hd0:(digits m).drop (ak m)=(digits n).drop (ak m):=by
   have e1:(digits m).drop (ak m)=[]:=List.drop_of_length_le (Nat.le_refl _)
   have e2:(digits n).drop (ak m)=[]:=List.drop_of_length_le (by show ak n<=ak m;omega)
   rw [e1,e2]
 simp only [SS,Nat.reduceAdd,bn,d,ew,az]
 refine VW.dU (α := Nat × Nat) (fun x=>⟨[W m,W n, .top, .top, .top, .int .i64 ((x.1:Int)-1)]++List.replicate 35 .top,fun _=>none,x.2⟩) (fun x=>x.1<=ak m/\(digits m).drop x.1=(digits n).drop x.1) (fun x=>x.1) (ak m,1000) ?_
   ⟨Nat.le_refl _,hd0⟩ ?_
 . exact Wk.slots (by simp [Fg,List.replicate]) (by simp only [];omega)
 rintro ⟨j,q⟩ ⟨hj,hd⟩
 simp only [] at hj hd
 simp only [SS,Nat.reduceAdd]
 by_cases h0:j=0
 . subst h0
   have d0:decide ((0:Int)<=((0:Nat):Int)-1)=false:=by decide
   simp only [SS,d0]
   have e:m=n:=by
     simp only [List.drop_zero] at hd
     rw [<- aZ m,hd,aZ]
   have e2:fY m n=0:=PI (by omega)
   rw [e2]
   exact ax▸ae rfl (aa.int _ _)
 . have p8:0<j:=Nat.pos_of_ne_zero h0
   have d0:decide ((0:Int)<=((j-1:Nat):Int))=true:=aG (by omega)
   have ej:(j:Int)-1=((j-1:Nat):Int):=by omega
   have hjm:j-1<(digits m).length:=by show j-1<ak m;omega
   have Qu:j-1<(digits n).length:=by show j-1<ak n;omega
   have ew2:IntKind.i64.wrap (((j-1:Nat):Int)-1)=((j-1:Nat):Int)-1:=by rw [IntKind.wrap_i64];omega
   obtain ⟨x,hx⟩:∃ x,(digits m)[j-1]? = some x:=⟨_,List.getElem?_eq_getElem hjm⟩
   obtain ⟨y,hy⟩:∃ y,(digits n)[j-1]? = some y:=⟨_,List.getElem?_eq_getElem Qu⟩
   have Wa:(digits m).drop (j-1+1)=(digits n).drop (j-1+1):=by rw [show j-1+1=j from by omega];exact hd
   rcases Nat.lt_trichotomy x y with h1 | h1 | h1
   . have e:fY m n = -1-0:=by
       have:=Fb (a7 m) (a7 n) hl hx hy Wa h1
       rw [aZ,aZ] at this
       unfold fY;rw [zL (by omega)];rfl
     have d1:decide ((x:Int)<(y:Int))=true:=aG (by omega)
     rw [e]
     simp only [SS,DD,Nat.reduceAdd,d0,ej,di hx,di hy,aN,bq,d1]
     refine ⟨by simp [ab], ?_⟩
     exact ax▸ae rfl (aa.int _ _)
   . have d1:decide ((x:Int)<(y:Int))=false:=aD (by omega)
     have d2:decide ((y:Int)<(x:Int))=false:=aD (by omega)
     simp only [SS,DD,Nat.reduceAdd,d0,ej,di hx,di hy,aN,bq,d1]
     refine ⟨by simp [ab], ?_⟩
     simp only [SS,Nat.reduceAdd,d2,ew2]
     refine ⟨by simp [ab],(j-1,_),⟨by simp only [];omega, ?_⟩,by simp only [];omega,Wk.slots (by simp [Fg]) (Nat.le_refl _)⟩
     simp only []
     rw [List.drop_eq_getElem_cons hjm,List.drop_eq_getElem_cons Qu,Wa]
     obtain ⟨_,h1'⟩:=List.getElem?_eq_some_iff.1 hx
     obtain ⟨_,h2'⟩:=List.getElem?_eq_some_iff.1 hy
     rw [h1',h2',h1]
   . have e:fY m n=1:=by
       have:=Fb (a7 n) (a7 m) hl.symm hy hx Wa.symm h1
       rw [aZ,aZ] at this
       unfold fY;rw [zM (by omega)]
     have d1:decide ((x:Int)<(y:Int))=false:=aD (by omega)
     have d2:decide ((y:Int)<(x:Int))=true:=aG (by omega)
     rw [e]
     simp only [SS,DD,Nat.reduceAdd,d0,ej,di hx,di hy,aN,bq,d1]
     refine ⟨by simp [ab], ?_⟩
     simp only [SS,d2]
     refine ⟨by simp [ab], ?_⟩
     exact ax▸ae rfl (aa.int _ _)
end
end Go.VL
end

section
set_option linter.unusedVariables false
namespace Go.VL
theorem zO {x y c:Nat} (hx:x<aK) (hy:y<aK) (hc:c<=1):∃ w c':Nat,w<aK/\c'<=1/\w+y+c=x+aK*c' /\
   (∃ d:Nat,IntKind.u64.wrap (IntKind.u64.wrap (IntKind.u64.wrap ((x:Int)+4294967296)-(y:Int))-(c:Int))=(d:Int)/\IntKind.u32.wrap (d:Int)=(w:Int)/\IntKind.u64.wrap (1-((d/aK:Nat):Int))=(c':Int)):=by
 have h1:IntKind.u64.wrap ((x:Int)+4294967296)=((x+4294967296:Nat):Int):=by rw [IntKind.wrap_u64];unfold aK at *;omega
 have h2:IntKind.u64.wrap (((x+4294967296:Nat):Int)-(y:Int))=((x+4294967296-y:Nat):Int):=by rw [IntKind.wrap_u64];unfold aK at *;omega
 have h3:IntKind.u64.wrap (((x+4294967296-y:Nat):Int)-(c:Int))=((x+4294967296-y-c:Nat):Int):=by rw [IntKind.wrap_u64];unfold aK at *;omega
 rw [h1,h2,h3]
 unfold aK at *
 by_cases h:y+c<=x
 . refine ⟨x-y-c,0,by omega,by omega,by omega,_,rfl, ?_, ?_⟩
   . rw [IntKind.wrap_u32];omega
   . rw [IntKind.wrap_u64];omega
 . refine ⟨x+4294967296-y-c,1,by omega,by omega,by omega,_,rfl, ?_, ?_⟩
   . rw [IntKind.wrap_u32];omega
   . rw [IntKind.wrap_u64];omega
section
variable {P:Program} {G:Nat->Option (List AV)}
set_option maxHeartbeats 1000000 in
theorem Uk {f ft:FuncId} (h:Has P f (kN ft)) (ht:iT P G ft) (m n:Nat) (hm:ak m<=1000000) (hn:ak n<=1000000):VP P G f [W m,W n] (W (m+n)):=by
 refine VP.has h ?_
 simp only [kN,SS,Nat.reduceAdd,bn]
 by_cases Ul:(¬ ak m<ak n)
 . have d0:decide ((ak m:Int)<(ak n:Int))=false:=by first | exact aG (by omega) | exact aD (by omega)
   have hL:=oH (ak m) 1 (by omega)
   have hL':IntKind.i64.wrap ((ak m:Int)+1)=((ak m+1:Nat):Int):=hL
   have ss:∀ p:Id,jn p 1 4 (.int .u32 0) (.int .i64 ((ak m+1:Nat):Int)) (.int .i64 ((ak m+1:Nat):Int))=some { val := .osl p 1 0 (ak m+1) false,up:=[(p,some ⟨us (List.replicate (ak m+1) 0),1,false⟩)] }:=fun p=>nE (by omega)
   simp only [SS,Nat.reduceAdd,bn,d0,hL',ss,az]
   refine VW.dU (α := Nat × Nat × List Nat × Nat) (fun x=>⟨[W m,W n, .top, .top, .top, .osl [9] 1 0 (ak m+1) false, .int .u64 (x.2.2.2:Int), .int .i64 (x.1:Int)]++List.replicate 50 .top,
     ah.put (fun _=>none) [9] (some ⟨us (x.2.2.1++zs (ak m+1-x.1)),1,false⟩),x.2.1⟩)
     (fun x=>x.1<=ak m/\x.2.2.1.length=x.1/\Wd x.2.2.1/\x.2.2.2<=1/\val x.2.2.1+aK ^ x.1*x.2.2.2=val ((digits m).take x.1)+val ((digits n).take x.1)) (fun x=>ak m-x.1) (0,1000,[],0) ?_ ?_ ?_
   . exact Wk.slots (by simp [Fg,List.replicate]) (by simp only [];omega)
   . exact ⟨Nat.zero_le _,rfl,by intro w hw;simp at hw,Nat.zero_le _,by simp [val]⟩
   rintro ⟨i,nn,o,c⟩ ⟨hi,ho,hwd,hc,hv⟩
   simp only [] at hi ho hwd hc hv
   have qU:i<ak m->decide ((i:Int)<(ak m:Int))=true:=fun h=>aG (by omega)
   have xP : ¬ i<ak m->decide ((i:Int)<(ak m:Int))=false:=fun h=>aD (by omega)
   have LF:i<ak n->decide ((i:Int)<(ak n:Int))=true:=fun h=>aG (by omega)
   have LG : ¬ i<ak n->decide ((i:Int)<(ak n:Int))=false:=fun h=>aD (by omega)
   have dI : ¬ i<ak m->i=ak m:=by omega
   have sU:=aP i (by omega)
   have js:i<ak m->i+1<=ak m/\ak m-(i+1)<ak m-i:=fun h=>by omega
   have mE:=cO (q:=[9]) (t:=false) (show i<ak m+1 by omega)
   obtain ⟨k,hk⟩:∃ k,ak m+1-i=k+1:=⟨ak m-i,by omega⟩
   have D4:ak m+1-(i+1)=k:=by omega
   have zH:i<(o++0::zs k).length:=by simp;omega
   by_cases hlt:i<ak m
   . obtain ⟨x,hx⟩:∃ x,(digits m)[i]? = some x:=⟨_,List.getElem?_eq_getElem hlt⟩
     have rY:=a7 m x (List.mem_of_getElem? hx)
     have f1:=bx x rY
     have f2:=pZ c x (by unfold aK at rY;omega)
     by_cases hb:i<ak n
     . obtain ⟨y,hy⟩:∃ y,(digits n)[i]? = some y:=⟨_,List.getElem?_eq_getElem hb⟩
       have DU:=a7 n y (List.mem_of_getElem? hy)
       have f3:=bx y DU
       have f4:=pZ (c+x) y (by unfold aK at rY DU;omega)
       have hst:=m8 (x:=x) (y:=y) ho hv rfl
       have hc':(c+x+y)/aK<=1:=by unfold aK at *;omega
       simp only [SS,Nat.reduceAdd,bn,qU hlt,di hx,aN,bq,f1,f2,LF hb,di hy,f3,f4,mE,yk,hk,iU]
       rw [bU (o:=o++0::zs k) (by simp [ah.put]) zH,fO _ _ _ _ ho]
       simp only [SS,Nat.reduceAdd,o6,sU]
       refine ⟨(i+1,_,o++[(c+x+y)%aK],(c+x+y)/aK),⟨(js hlt).1,by simp [ho],pM hwd _,hc', ?_⟩,(js hlt).2,Wk.forget (by simp [Fg]) (fun j => ?_) (Nat.le_refl _)⟩
       . show val (o++[(c+x+y)%aK])+_=val ((digits m).take (i+1))+val ((digits n).take (i+1))
         rw [aS hx,aS hy];exact hst
       . simp only [ah.put,D4];split<;>simp
     . have hst:=m8 (x:=x) (y:=0) ho hv rfl
       rw [Nat.mul_zero,Nat.add_zero,Nat.add_zero] at hst
       have hc':(c+x)/aK<=1:=by unfold aK at *;omega
       simp only [SS,Nat.reduceAdd,bn,qU hlt,di hx,aN,bq,f1,f2,LG hb,mE,yk,hk,iU]
       rw [bU (o:=o++0::zs k) (by simp [ah.put]) zH,fO _ _ _ _ ho]
       simp only [SS,Nat.reduceAdd,o6,sU]
       refine ⟨(i+1,_,o++[(c+x)%aK],(c+x)/aK),⟨(js hlt).1,by simp [ho],pM hwd _,hc', ?_⟩,(js hlt).2,Wk.forget (by simp [Fg]) (fun j => ?_) (Nat.le_refl _)⟩
       . show val (o++[(c+x)%aK])+_=val ((digits m).take (i+1))+val ((digits n).take (i+1))
         rw [aS hx,jl (show (digits n).length<=i from by show ak n<=i;omega)];exact hst
       . simp only [ah.put,D4];split<;>simp
   . have pN:=dI hlt
     have hcB:c<aK:=by unfold aK;omega
     have f5:IntKind.u32.wrap (c:Int)=(c:Int):=by rw [yk,Nat.mod_eq_of_lt hcB]
     have aa2:=cO (q:=[9]) (t:=false) (show ak m<ak m+1 by omega)
     have QA:k=0:=by omega
     have Qy:ak m<(o++0::zs k).length:=by simp;omega
     have e1:(digits m).take (ak m)=digits m:=List.take_of_length_le (Nat.le_refl _)
     have e2:(digits n).take (ak m)=digits n:=List.take_of_length_le (by show ak n<=ak m;omega)
     have AH:val (o++[c])=m+n:=by
       rw [cv,ho];simp only [val,Nat.mul_zero,Nat.add_zero]
       rw [hv,pN,e1,e2,aZ,aZ]
       all_goals omega
     have W9:Wd (o++[c]):=cN hwd (by intro z hz;simp at hz;subst hz;exact hcB)
     have yn:ak m+1=(o++[c]).length:=by simp [ho,pN]
     have zK:=ht (o++[c]) W9 (by rw [<- yn];omega)
     rw [AH] at zK
     simp only [SS,Nat.reduceAdd,bn,xP hlt,f5,aa2,hk,iU]
     rw [bU (o:=o++0::zs k) (by simp [ah.put]) Qy,fO _ _ _ _ (ho.trans pN),QA,xq]
     simp only [SS,Nat.reduceAdd]
     refine bG [([9],⟨us (o++[c]),1,false⟩)] zK (aM.cons (gZ yn) aM.nil) (by simp [ah.put]) ?_
     simp only [SS,Nat.reduceAdd]
     exact ax▸ae rfl (aq _)
 by_cases Xo:(ak m<ak n)
 . have d0:decide ((ak m:Int)<(ak n:Int))=true:=by first | exact aG (by omega) | exact aD (by omega)
   have hL:=oH (ak n) 1 (by omega)
   have hL':IntKind.i64.wrap ((ak n:Int)+1)=((ak n+1:Nat):Int):=hL
   have ss:∀ p:Id,jn p 1 4 (.int .u32 0) (.int .i64 ((ak n+1:Nat):Int)) (.int .i64 ((ak n+1:Nat):Int))=some { val := .osl p 1 0 (ak n+1) false,up:=[(p,some ⟨us (List.replicate (ak n+1) 0),1,false⟩)] }:=fun p=>nE (by omega)
   simp only [SS,Nat.reduceAdd,bn,d0,hL',ss,az]
   refine VW.dU (α := Nat × Nat × List Nat × Nat) (fun x=>⟨[W n,W m, .top, .top, .top, .osl [13] 1 0 (ak n+1) false, .int .u64 (x.2.2.2:Int), .int .i64 (x.1:Int)]++List.replicate 50 .top,
     ah.put (fun _=>none) [13] (some ⟨us (x.2.2.1++zs (ak n+1-x.1)),1,false⟩),x.2.1⟩)
     (fun x=>x.1<=ak n/\x.2.2.1.length=x.1/\Wd x.2.2.1/\x.2.2.2<=1/\val x.2.2.1+aK ^ x.1*x.2.2.2=val ((digits n).take x.1)+val ((digits m).take x.1)) (fun x=>ak n-x.1) (0,1000,[],0) ?_ ?_ ?_
   . exact Wk.slots (by simp [Fg,List.replicate]) (by simp only [];omega)
   . exact ⟨Nat.zero_le _,rfl,by intro w hw;simp at hw,Nat.zero_le _,by simp [val]⟩
   rintro ⟨i,nn,o,c⟩ ⟨hi,ho,hwd,hc,hv⟩
   simp only [] at hi ho hwd hc hv
   have qU:i<ak n->decide ((i:Int)<(ak n:Int))=true:=fun h=>aG (by omega)
   have xP : ¬ i<ak n->decide ((i:Int)<(ak n:Int))=false:=fun h=>aD (by omega)
   have LF:i<ak m->decide ((i:Int)<(ak m:Int))=true:=fun h=>aG (by omega)
   have LG : ¬ i<ak m->decide ((i:Int)<(ak m:Int))=false:=fun h=>aD (by omega)
   have dI : ¬ i<ak n->i=ak n:=by omega
   have sU:=aP i (by omega)
   have js:i<ak n->i+1<=ak n/\ak n-(i+1)<ak n-i:=fun h=>by omega
   have mE:=cO (q:=[13]) (t:=false) (show i<ak n+1 by omega)
   obtain ⟨k,hk⟩:∃ k,ak n+1-i=k+1:=⟨ak n-i,by omega⟩
   have D4:ak n+1-(i+1)=k:=by omega
   have zH:i<(o++0::zs k).length:=by simp;omega
   by_cases hlt:i<ak n
   . obtain ⟨x,hx⟩:∃ x,(digits n)[i]? = some x:=⟨_,List.getElem?_eq_getElem hlt⟩
     have rY:=a7 n x (List.mem_of_getElem? hx)
     have f1:=bx x rY
     have f2:=pZ c x (by unfold aK at rY;omega)
     by_cases hb:i<ak m
     . obtain ⟨y,hy⟩:∃ y,(digits m)[i]? = some y:=⟨_,List.getElem?_eq_getElem hb⟩
       have DU:=a7 m y (List.mem_of_getElem? hy)
       have f3:=bx y DU
       have f4:=pZ (c+x) y (by unfold aK at rY DU;omega)
       have hst:=m8 (x:=x) (y:=y) ho hv rfl
       have hc':(c+x+y)/aK<=1:=by unfold aK at *;omega
       simp only [SS,Nat.reduceAdd,bn,qU hlt,di hx,aN,bq,f1,f2,LF hb,di hy,f3,f4,mE,yk,hk,iU]
       rw [bU (o:=o++0::zs k) (by simp [ah.put]) zH,fO _ _ _ _ ho]
       simp only [SS,Nat.reduceAdd,o6,sU]
       refine ⟨(i+1,_,o++[(c+x+y)%aK],(c+x+y)/aK),⟨(js hlt).1,by simp [ho],pM hwd _,hc', ?_⟩,(js hlt).2,Wk.forget (by simp [Fg]) (fun j => ?_) (Nat.le_refl _)⟩
       . show val (o++[(c+x+y)%aK])+_=val ((digits n).take (i+1))+val ((digits m).take (i+1))
         rw [aS hx,aS hy];exact hst
       . simp only [ah.put,D4];split<;>simp
     . have hst:=m8 (x:=x) (y:=0) ho hv rfl
       rw [Nat.mul_zero,Nat.add_zero,Nat.add_zero] at hst
       have hc':(c+x)/aK<=1:=by unfold aK at *;omega
       simp only [SS,Nat.reduceAdd,bn,qU hlt,di hx,aN,bq,f1,f2,LG hb,mE,yk,hk,iU]
       rw [bU (o:=o++0::zs k) (by simp [ah.put]) zH,fO _ _ _ _ ho]
       simp only [SS,Nat.reduceAdd,o6,sU]
       refine ⟨(i+1,_,o++[(c+x)%aK],(c+x)/aK),⟨(js hlt).1,by simp [ho],pM hwd _,hc', ?_⟩,(js hlt).2,Wk.forget (by simp [Fg]) (fun j => ?_) (Nat.le_refl _)⟩
       . show val (o++[(c+x)%aK])+_=val ((digits n).take (i+1))+val ((digits m).take (i+1))
         rw [aS hx,jl (show (digits m).length<=i from by show ak m<=i;omega)];exact hst
       . simp only [ah.put,D4];split<;>simp
   . have pN:=dI hlt
     have hcB:c<aK:=by unfold aK;omega
     have f5:IntKind.u32.wrap (c:Int)=(c:Int):=by rw [yk,Nat.mod_eq_of_lt hcB]
     have aa2:=cO (q:=[13]) (t:=false) (show ak n<ak n+1 by omega)
     have QA:k=0:=by omega
     have Qy:ak n<(o++0::zs k).length:=by simp;omega
     have e1:(digits n).take (ak n)=digits n:=List.take_of_length_le (Nat.le_refl _)
     have e2:(digits m).take (ak n)=digits m:=List.take_of_length_le (by show ak m<=ak n;omega)
     have AH:val (o++[c])=m+n:=by
       rw [cv,ho];simp only [val,Nat.mul_zero,Nat.add_zero]
       rw [hv,pN,e1,e2,aZ,aZ]
       all_goals omega
     have W9:Wd (o++[c]):=cN hwd (by intro z hz;simp at hz;subst hz;exact hcB)
     have yn:ak n+1=(o++[c]).length:=by simp [ho,pN]
     have zK:=ht (o++[c]) W9 (by rw [<- yn];omega)
     rw [AH] at zK
     simp only [SS,Nat.reduceAdd,bn,xP hlt,f5,aa2,hk,iU]
     rw [bU (o:=o++0::zs k) (by simp [ah.put]) Qy,fO _ _ _ _ (ho.trans pN),QA,xq]
     simp only [SS,Nat.reduceAdd]
     refine bG [([13],⟨us (o++[c]),1,false⟩)] zK (aM.cons (gZ yn) aM.nil) (by simp [ah.put]) ?_
     simp only [SS,Nat.reduceAdd]
     exact ax▸ae rfl (aq _)
 exact absurd Xo Ul
set_option maxHeartbeats 1000000 in
theorem I3 {f ft:FuncId} (h:Has P f (dZ ft)) (ht:iT P G ft) (m n:Nat) (ta:n<=m) (hm:ak m<=1000000):VP P G f [W m,W n] (W (m-n)):=by
 refine VP.has h ?_
 have hwn:=bJ ta
 have ss:∀ p:Id,jn p 1 4 (.int .u32 0) (.int .i64 (ak m:Int)) (.int .i64 (ak m:Int))=some { val := .osl p 1 0 (ak m) false,up:=[(p,some ⟨us (List.replicate (ak m) 0),1,false⟩)] }:=fun p=>nE (by omega)
 simp only [dZ,SS,Nat.reduceAdd,bn,ss,az]
 refine VW.dU (α := Nat × Nat × List Nat × Nat) (fun x=>⟨[W m,W n, .top, .top, .top, .osl [3] 1 0 (ak m) false, .int .u64 (x.2.2.2:Int), .int .i64 (x.1:Int)]++List.replicate 40 .top,
   ah.put (fun _=>none) [3] (some ⟨us (x.2.2.1++zs (ak m-x.1)),1,false⟩),x.2.1⟩)
   (fun x=>x.1<=ak m/\x.2.2.1.length=x.1/\Wd x.2.2.1/\x.2.2.2<=1/\val x.2.2.1+val ((digits n).take x.1)=val ((digits m).take x.1)+aK ^ x.1*x.2.2.2) (fun x=>ak m-x.1) (0,1000,[],0) ?_ ?_ ?_
 . exact Wk.slots (by simp [Fg,List.replicate]) (by simp only [];omega)
 . exact ⟨Nat.zero_le _,rfl,by intro w hw;simp at hw,Nat.zero_le _,by simp [val]⟩
 rintro ⟨i,nn,o,c⟩ ⟨hi,ho,hwd,hc,hv⟩
 simp only [] at hi ho hwd hc hv
 have qU:i<ak m->decide ((i:Int)<(ak m:Int))=true:=fun h=>aG (by omega)
 have xP : ¬ i<ak m->decide ((i:Int)<(ak m:Int))=false:=fun h=>aD (by omega)
 have LF:i<ak n->decide ((i:Int)<(ak n:Int))=true:=fun h=>aG (by omega)
 have LG : ¬ i<ak n->decide ((i:Int)<(ak n:Int))=false:=fun h=>aD (by omega)
 have dI : ¬ i<ak m->i=ak m:=by omega
 have sU:=aP i (by omega)
 have js:i<ak m->i+1<=ak m/\ak m-(i+1)<ak m-i:=fun h=>by omega
 by_cases hlt:i<ak m
 . obtain ⟨x,hx⟩:∃ x,(digits m)[i]? = some x:=⟨_,List.getElem?_eq_getElem hlt⟩
   have rY:=a7 m x (List.mem_of_getElem? hx)
   have f1:=bx x rY
   have mE:=cO (q:=[3]) (t:=false) hlt
   obtain ⟨k,hk⟩:∃ k,ak m-i=k+1:=⟨ak m-i-1,by omega⟩
   have D4:ak m-(i+1)=k:=by omega
   have zH:i<(o++0::zs k).length:=by simp;omega
   by_cases hb:i<ak n
   . obtain ⟨y,hy⟩:∃ y,(digits n)[i]? = some y:=⟨_,List.getElem?_eq_getElem hb⟩
     have DU:=a7 n y (List.mem_of_getElem? hy)
     have f3:=bx y DU
     obtain ⟨w,c',h1,h2,h3,d,h4,h5,h6⟩:=zO rY DU hc
     have hst:=nN (va:=val ((digits m).take i)) (vb:=val ((digits n).take i)) (x:=x) (y:=y) (c:=c) (w:=w) (c':=c') ho (by rw [hv];omega) h3
     simp only [SS,Nat.reduceAdd,bn,qU hlt,di hx,aN,bq,f1,LF hb,di hy,f3,h4,h5,mE,hk,iU]
     rw [bU (o:=o++0::zs k) (by simp [ah.put]) zH,fO _ _ _ _ ho]
     simp only [SS,Nat.reduceAdd,o6,h6,sU]
     refine ⟨(i+1,_,o++[w],c'),⟨(js hlt).1,by simp [ho],cN hwd (by intro z hz;simp at hz;subst hz;exact h1),h2, ?_⟩,(js hlt).2,Wk.forget (by simp [Fg]) (fun j => ?_) (Nat.le_refl _)⟩
     . show val (o++[w])+val ((digits n).take (i+1))=val ((digits m).take (i+1))+_
       rw [aS hx,aS hy];exact hst
     . simp only [ah.put,D4];split<;>simp
   . obtain ⟨w,c',h1,h2,h3,d,h4,h5,h6⟩:=zO (y:=0) rY cX hc
     have h4':IntKind.u64.wrap (IntKind.u64.wrap (IntKind.u64.wrap ((x:Int)+4294967296)-0)-(c:Int))=(d:Int):=h4
     have hst:=nN (va:=val ((digits m).take i)) (vb:=val ((digits n).take i)) (x:=x) (y:=0) (c:=c) (w:=w) (c':=c') ho (by rw [hv];omega) h3
     rw [Nat.mul_zero,Nat.add_zero] at hst
     simp only [SS,Nat.reduceAdd,bn,qU hlt,di hx,aN,bq,f1,LG hb,h4',h5,mE,hk,iU]
     rw [bU (o:=o++0::zs k) (by simp [ah.put]) zH,fO _ _ _ _ ho]
     simp only [SS,Nat.reduceAdd,o6,h6,sU]
     refine ⟨(i+1,_,o++[w],c'),⟨(js hlt).1,by simp [ho],cN hwd (by intro z hz;simp at hz;subst hz;exact h1),h2, ?_⟩,(js hlt).2,Wk.forget (by simp [Fg]) (fun j => ?_) (Nat.le_refl _)⟩
     . show val (o++[w])+val ((digits n).take (i+1))=val ((digits m).take (i+1))+_
       rw [aS hx,jl (show (digits n).length<=i from by show ak n<=i;omega)];exact hst
     . simp only [ah.put,D4];split<;>simp
 . have pN:=dI hlt
   have e1:(digits m).take (ak m)=digits m:=List.take_of_length_le (Nat.le_refl _)
   have e2:(digits n).take (ak m)=digits n:=List.take_of_length_le (by show ak n<=ak m;omega)
   have AH:val o=m-n:=by
     rw [pN,e1,e2,aZ,aZ] at hv
     have yr:=mw hwd
     rw [ho,pN] at yr
     rcases Nat.eq_zero_or_pos c with h0 | h0
     . subst h0;omega
     . have:c=1:=by omega
       subst this;have:=cV m;omega
   have yn:ak m=o.length:=by omega
   have e3:zs (ak m-i)=[]:=by rw [pN,Nat.sub_self];rfl
   have zK:=ht o hwd (by omega)
   rw [AH] at zK
   simp only [SS,Nat.reduceAdd,bn,xP hlt,e3]
   refine bG [([3],⟨us o,1,false⟩)] zK (aM.cons (gZ yn) aM.nil) (by simp [ah.put]) ?_
   simp only [SS,Nat.reduceAdd]
   exact ax▸ae rfl (aq _)
end
end Go.VL
end

section
set_option linter.unusedVariables false
namespace Go.VL
section
variable {P:Program} {G:Nat->Option (List AV)}
set_option maxHeartbeats 1000000 in
theorem GU {f ft:FuncId} (h:Has P f (gQ ft)) (ht:iT P G ft) (m:Nat) {ws:List Nat} (Q4:Wd ws) (hm:ak m<=1000000) (hn:ws.length<=1000000):VP P G f [W m, .sl 1 (us ws)] (W (m*val ws)):=by
 refine VP.has h ?_
 have ss:∀ p:Id,jn p 1 4 (.int .u32 0) (.int .i64 ((ak m+ws.length:Nat):Int)) (.int .i64 ((ak m+ws.length:Nat):Int))=some { val := .osl p 1 0 (ak m+ws.length) false,up:=[(p,some ⟨us (List.replicate (ak m+ws.length) 0),1,false⟩)] }:=fun p=>nE (by omega)
 have hL:=oH (ak m) (ws.length) (by omega)
 simp only [gQ,SS,Nat.reduceAdd,bn,gu,hL,ss,az]
 refine VW.dU (α := Nat × Nat × List Nat) (fun x=>⟨[W m, .sl 1 (us ws), .top, .top, .top, .osl [6] 1 0 (ak m+ws.length) false, .int .i64 (x.1:Int)]++List.replicate 60 .top,
   ah.put (fun _=>none) [6] (some ⟨us x.2.2,1,false⟩),x.2.1⟩)
   (fun x=>x.1<=ak m/\x.2.2.length=ak m+ws.length/\Wd x.2.2/\val x.2.2=val ((digits m).take x.1)*val ws) (fun x=>ak m-x.1) (0,1000,List.replicate (ak m+ws.length) 0) ?_ ?_ ?_
 . exact Wk.slots (by simp [Fg,List.replicate]) (by simp only [];omega)
 . exact ⟨Nat.zero_le _,List.length_replicate ..,GJ _,by simp only [];rw [DO (fun w hw=>List.eq_of_mem_replicate hw)];simp [val]⟩
 rintro ⟨i,nn,o⟩ ⟨hi,ho,hwd,hv⟩
 simp only [] at hi ho hwd hv
 have qU:i<ak m->decide ((i:Int)<(ak m:Int))=true:=fun h=>aG (by omega)
 have xP : ¬ i<ak m->decide ((i:Int)<(ak m:Int))=false:=fun h=>aD (by omega)
 have dI : ¬ i<ak m->i=ak m:=by omega
 have sU:=aP i (by omega)
 have js:i<ak m->i+1<=ak m/\ak m-(i+1)<ak m-i:=fun h=>by omega
 have p9:=oH i (ws.length) (by omega)
 have Ny:i<ak m->i+ws.length<ak m+ws.length:=fun h=>by omega
 by_cases hlt:i<ak m
 . obtain ⟨a,ha⟩:∃ a,(digits m)[i]? = some a:=⟨_,List.getElem?_eq_getElem hlt⟩
   have vg:=a7 m a (List.mem_of_getElem? ha)
   have f1:=bx a vg
   have Wi:o[i+ws.length]? = some 0:=by
     obtain ⟨y,hy⟩:∃ y,o[i+ws.length]? = some y:=⟨_,List.getElem?_eq_getElem (by rw [ho];exact Ny hlt)⟩
     have e:=GK (k:=i+ws.length) (by
       rw [hv,Nat.pow_add]
       have h2:val ((digits m).take i)<aK ^ i:=by
         have:=mw (sS (a7 m) i)
         rwa [List.length_take,Nat.min_eq_left (show i<=(digits m).length from Nat.le_of_lt hlt)] at this
       exact Nat.mul_lt_mul'' h2 (mw Q4)) hy
     rw [e] at hy;exact hy
   simp only [SS,Nat.reduceAdd,bn,qU hlt,az]
   refine VW.dU (α := Nat × Nat × List Nat × Nat) (fun x=>⟨[W m, .sl 1 (us ws), .top, .top, .top, .osl [6] 1 0 (ak m+ws.length) false, .int .i64 (i:Int), .int .u64 (x.2.2.2:Int), .int .i64 (x.1:Int)]++List.replicate 58 .top,
     ah.put (fun _=>none) [6] (some ⟨us x.2.2.1,1,false⟩),x.2.1⟩)
     (fun x=>x.1<=ws.length/\x.2.2.1.length=ak m+ws.length/\Wd x.2.2.1/\x.2.2.2<aK/\x.2.2.1[i+ws.length]? = some 0/\val x.2.2.1+aK ^ (i+x.1)*x.2.2.2=val o+aK ^ i*(a*val (ws.take x.1))) (fun x=>ws.length-x.1) (0,nn+1000,o,0) ?_ ?_ ?_
   . exact Wk.slots (by simp [Fg,List.replicate]) (by simp only [];omega)
   . exact ⟨Nat.zero_le _,ho,hwd,cX,Wi,by simp [val]⟩
   rintro ⟨j,mm,o',c⟩ ⟨hj,Q8,JP,hc,hz,hv'⟩
   simp only [] at hj Q8 JP hc hz hv'
   have LF:j<ws.length->decide ((j:Int)<(ws.length:Int))=true:=fun h=>aG (by omega)
   have LG : ¬ j<ws.length->decide ((j:Int)<(ws.length:Int))=false:=fun h=>aD (by omega)
   have Kv : ¬ j<ws.length->j=ws.length:=by omega
   have Nz:=aP j (by omega)
   have To:j<ws.length->j+1<=ws.length/\ws.length-(j+1)<ws.length-j:=fun h=>by omega
   have QP:=oH i j (by omega)
   have NA:j<ws.length->i+j<ak m+ws.length:=fun h=>by omega
   have hne:j<ws.length->i+j≠i+ws.length:=fun h=>by omega
   by_cases CZ:j<ws.length
   . obtain ⟨b,hb⟩:∃ b,ws[j]? = some b:=⟨_,List.getElem?_eq_getElem CZ⟩
     have Hn:=Q4 b (List.mem_of_getElem? hb)
     have f2:=bx b Hn
     obtain ⟨z,hzz⟩:∃ z,o'[i+j]? = some z:=⟨_,List.getElem?_eq_getElem (by rw [Q8];exact NA CZ)⟩
     have W8:=JP z (List.mem_of_getElem? hzz)
     have f3:=bx z W8
     have f4:=PK a b vg Hn
     have hle:=Nx vg Hn
     have f5:=pZ c z (by unfold aK at W8 hc;omega)
     have f6:=pZ (c+z) (a*b) (by unfold aK at W8 hc;omega)
     have hc':(c+z+a*b)/aK<aK:=by unfold aK at W8 hc ⊢;omega
     have mE:=cO (q:=[6]) (t:=false) (NA CZ)
     have hst:=IP (x:=a) (y:=b) (s:=c+z+a*b) hzz hv' (by omega)
     simp only [SS,DD,Nat.reduceAdd,gu,LF CZ,QP,mE]
     rw [ju (o:=o') (b:=false) (by simp [ah.put]) hzz]
     simp only [SS,DD,Nat.reduceAdd,f3,f5,di ha,iM rfl (xm hb),aN,bq,f1,f2,f4,f6]
     refine ⟨by simp [ab], ?_⟩
     simp only [SS,Nat.reduceAdd,yk,QP,mE]
     rw [bU (o:=o') (by simp [ah.put]) (by rw [Q8];exact NA CZ)]
     simp only [SS,Nat.reduceAdd,o6,Nz]
     refine ⟨(j+1,_,o'.set (i+j) ((c+z+a*b)%aK),(c+z+a*b)/aK),⟨(To CZ).1,by simp [Q8],JO JP (Nat.mod_lt _ cX),hc', ?_, ?_⟩,(To CZ).2,Wk.forget (by simp [Fg]) (fun j => ?_) (Nat.le_refl _)⟩
     . rw [List.getElem?_set_ne (hne CZ)];exact hz
     . show _=val o+aK ^ i*(a*val (ws.take (j+1)))
       rw [aS hb];exact hst
     . simp only [ah.put];split<;>simp
   . have hjw:=Kv CZ
     have mE:=cO (q:=[6]) (t:=false) (Ny hlt)
     have f7:IntKind.u32.wrap (c:Int)=(c:Int):=by rw [yk,Nat.mod_eq_of_lt hc]
     have hval:val (o'.set (i+ws.length) c)=val ((digits m).take (i+1))*val ws:=by
       have e:=Fc (x:=c) hz
       have e2:ws.take ws.length=ws:=List.take_of_length_le (Nat.le_refl _)
       rw [hjw,e2,hv] at hv'
       rw [aS ha,Nat.add_mul]
       have e3:aK ^ i*a*val ws=aK ^ i*(a*val ws):=Nat.mul_assoc _ _ _
       omega
     simp only [SS,Nat.reduceAdd,gu,LG CZ,p9,f7,mE]
     rw [bU (o:=o') (by simp [ah.put]) (by rw [Q8];exact Ny hlt)]
     simp only [SS,Nat.reduceAdd,sU]
     refine ⟨(i+1,_,o'.set (i+ws.length) c),⟨(js hlt).1,by simp [Q8],JO JP hc,hval⟩,(js hlt).2,Wk.forget (by simp [Fg]) (fun j => ?_) (Nat.le_refl _)⟩
     simp only [ah.put];split<;>simp
 . have pN:=dI hlt
   have e1:(digits m).take (ak m)=digits m:=List.take_of_length_le (Nat.le_refl _)
   have AH:val o=m*val ws:=by rw [hv,pN,e1,aZ]
   have zK:=ht o hwd (by rw [ho];omega)
   rw [AH] at zK
   simp only [SS,Nat.reduceAdd,bn,xP hlt]
   refine bG [([6],⟨us o,1,false⟩)] zK (aM.cons (gZ ho.symm) aM.nil) (by simp [ah.put]) ?_
   simp only [SS,Nat.reduceAdd]
   exact ax▸ae rfl (aq _)
theorem Rm {f ft:FuncId} (h:Has P f (gQ ft)) (ht:iT P G ft) (m n:Nat) (hm:ak m<=1000000) (hn:ak n<=1000000):VP P G f [W m,W n] (W (m*n)):=by
 have:=GU (G:=G) h ht m (a7 n) hm hn
 rw [aZ] at this;exact this
theorem aa3 {f ft:FuncId} (h:Has P f (mM ft)) (ht:iT P G ft) (m w:Nat) (hm:ak m<=1000000) (hw:w<aK) (Nq:w≠0) :
   VP P G f [W m, .int .u32 (w:Int)] (.tup [W (m/w), .int .u32 ((m%w:Nat):Int)]):=by
 refine VP.has h ?_
 have ss:∀ p:Id,jn p 1 4 (.int .u32 0) (.int .i64 (ak m:Int)) (.int .i64 (ak m:Int))=some { val := .osl p 1 0 (ak m) false,up:=[(p,some ⟨us (List.replicate (ak m) 0),1,false⟩)] }:=fun p=>nE (by omega)
 have hwL:IntKind.i64.wrap ((ak m:Int)-1)=(ak m:Int)-1:=by rw [IntKind.wrap_i64];omega
 have f0:=bx w hw
 have hwz:((w:Nat):Int)≠0:=by omega
 simp only [mM,SS,Nat.reduceAdd,bn,ss,hwL,az]
 refine VW.dU (α := Nat × Nat × List Nat × Nat) (fun x=>⟨[W m, .int .u32 (w:Int), .top, .top, .top, .top, .osl [4] 1 0 (ak m) false, .int .u64 (x.2.2.2:Int), .int .i64 ((x.1:Int)-1)]++List.replicate 34 .top,
   ah.put (fun _=>none) [4] (some ⟨us (zs x.1++x.2.2.1),1,false⟩),x.2.1⟩)
   (fun x=>x.1+x.2.2.1.length=ak m/\Wd x.2.2.1/\x.2.2.2<w/\val ((digits m).drop x.1)=val x.2.2.1*w+x.2.2.2) (fun x=>x.1) (ak m,1000,[],0) ?_ ?_ ?_
 . rw [List.append_nil];exact Wk.slots (by simp [Fg,List.replicate]) (by simp only [];omega)
 . refine ⟨by simp,by intro w hw;simp at hw,Nat.pos_of_ne_zero Nq, ?_⟩
   show val ((digits m).drop (ak m))=_
   rw [List.drop_eq_nil_of_le (show (digits m).length<=ak m from Nat.le_refl _)];simp [val]
 rintro ⟨k,nn,q,r⟩ ⟨hk,hwd,hr,hv⟩
 simp only [] at hk hwd hr hv
 by_cases h0:k=0
 . subst h0
   have d0:decide ((0:Int)<=((0:Nat):Int)-1)=false:=by decide
   have e:m/w=val q/\m%w=r:=by
     rw [List.drop_zero,aZ] at hv
     refine (Nat.div_mod_unique (Nat.pos_of_ne_zero Nq)).2 ⟨?_,hr⟩
     rw [hv,Nat.mul_comm w];omega
   have zK:=ht q hwd (by omega)
   rw [<- e.1] at zK
   have f9:IntKind.u32.wrap (r:Int)=(r:Int):=by rw [yk,Nat.mod_eq_of_lt (by omega)]
   have hq:ak m=q.length:=by omega
   simp only [SS,Nat.reduceAdd,d0,xq]
   refine bG [([4],⟨us q,1,false⟩)] zK (aM.cons (gZ hq) aM.nil) (by simp [ah.put]) ?_
   simp only [SS,Nat.reduceAdd,f9]
   rw [e.2]
   exact ax▸ae rfl (aa.tup (by intro c hc;simp at hc;rcases hc with rfl | rfl;exact aq _;exact aa.int _ _))
 . obtain ⟨j,rfl⟩:∃ j,k=j+1:=⟨k-1,by omega⟩
   have d0:decide ((0:Int)<=(j:Int))=true:=aG (by omega)
   have hj:((j+1:Nat):Int)-1=(j:Int):=by omega
   have yi:j<ak m:=by omega
   have Nz:IntKind.i64.wrap ((j:Int)-1)=(j:Int)-1:=by rw [IntKind.wrap_i64];omega
   obtain ⟨a,ha⟩:∃ a,(digits m)[j]? = some a:=⟨_,List.getElem?_eq_getElem yi⟩
   have vg:=a7 m a (List.mem_of_getElem? ha)
   have f1:=bx a vg
   have LH:r<aK:=by omega
   have f2:=A7 r LH
   have f3:=IQ r a LH vg
   have hlt:aK*r+a<18446744073709551616:=by unfold aK at *;omega
   have f4:=IU (aK*r+a) w hlt Nq
   have f5:=IW (aK*r+a) w Nq
   have TR:(aK*r+a)/w<aK:=by
     rw [Nat.div_lt_iff_lt_mul (Nat.pos_of_ne_zero Nq)]
     have:aK*(r+1)<=aK*w:=Nat.mul_le_mul_left _ hr
     rw [Nat.mul_add] at this
     omega
   have f6:IntKind.u32.wrap (((aK*r+a)/w:Nat):Int)=(((aK*r+a)/w:Nat):Int):=by rw [yk,Nat.mod_eq_of_lt TR]
   have mE:=cO (q:=[4]) (t:=false) yi
   have YS:j<(zs (j+1)++q).length:=by simp [zs];omega
   have hv':val ((digits m).drop j)=val ((aK*r+a)/w::q)*w+(aK*r+a)%w:=by
     rw [List.drop_eq_getElem_cons (show j<(digits m).length from yi)]
     obtain ⟨_,h2⟩:=List.getElem?_eq_some_iff.1 ha
     rw [h2]
     simp only [val]
     rw [hv,Nat.add_mul,Nat.mul_add,Nat.mul_assoc aK]
     have:=Nat.div_add_mod (aK*r+a) w
     rw [Nat.mul_comm] at this
     omega
   have TL:j+((aK*r+a)/w::q).length=ak m:=by simp;omega
   simp only [SS,Nat.reduceAdd,d0,hj,di ha,aN,bq,f0,f1,f2,f3,f4,f6,mE]
   rw [bU (o:=zs (j+1)++q) (by simp [ah.put]) YS,zm]
   simp only [SS,Nat.reduceAdd,f0,f5,Nz]
   refine ⟨(j,_,(aK*r+a)/w::q,(aK*r+a)%w),⟨TL, ?_,Nat.mod_lt _ (Nat.pos_of_ne_zero Nq),hv'⟩,Nat.lt_succ_self j,Wk.forget (by simp [Fg]) (fun j => ?_) (Nat.le_refl _)⟩
   . intro z hz
     rcases List.mem_cons.1 hz with rfl | hz
     . exact TR
     . exact hwd z hz
   . simp only [ah.put];split<;>simp
end
end Go.VL
end

section
set_option linter.unusedVariables false
namespace Go.VL
theorem LY {x c:Nat} (hx:x<aK) (h0:0<x) (h1:x<2 ^ c) (h2:2 ^ c<=2*x):c=iC x:=by
 obtain ⟨a,b⟩:=Cw hx h0
 have e1:2 ^ c<2 ^ (iC x+1):=by rw [Nat.pow_succ];omega
 have e2:2 ^ iC x<2 ^ (c+1):=by rw [Nat.pow_succ];omega
 have:=(Nat.pow_lt_pow_iff_right (by decide:1<2)).1 e1
 have:=(Nat.pow_lt_pow_iff_right (by decide:1<2)).1 e2
 omega
theorem ahc (a:Nat) (ha:a<aK):bY .quo .int (.int .u32 (a:Int)) (.int .u32 2)=some (.int .u32 ((a/2:Nat):Int)):=by
 rw [JC (by decide)]
 show some (AV.int .u32 (IntKind.u32.wrap ((a/2:Nat):Int)))=_
 rw [yk,Nat.mod_eq_of_lt (by unfold aK at *;omega)]
theorem Rn {x y s:Nat} (hs:s<=32) (hx:x<aK):((aK*y+x)/2 ^ s)%aK=x/2 ^ s+2 ^ (32-s)*(y%2 ^ s):=by
 have hB:=vk hs
 have hd:x/2 ^ s<2 ^ (32-s):=by rw [Nat.div_lt_iff_lt_mul (Nat.two_pow_pos _),hB];exact hx
 have e1:(aK*y+x)/2 ^ s=2 ^ (32-s)*y+x/2 ^ s:=by
   rw [<- hB,Nat.mul_comm (2 ^ (32-s)),Nat.mul_assoc,Nat.mul_add_div (Nat.two_pow_pos _)]
 have hlt:y%2 ^ s<2 ^ s:=Nat.mod_lt _ (Nat.two_pow_pos _)
 have h1:2 ^ (32-s)*(y%2 ^ s+1)<=2 ^ (32-s)*2 ^ s:=Nat.mul_le_mul_left _ hlt
 rw [Nat.mul_add,hB] at h1
 have e2:2 ^ (32-s)*y=aK*(y/2 ^ s)+2 ^ (32-s)*(y%2 ^ s):=by
   have:=Nat.div_add_mod y (2 ^ s)
   conv=>lhs;rw [<- this]
   rw [Nat.mul_add, <- Nat.mul_assoc,hB]
 rw [e1,e2,show aK*(y/2 ^ s)+2 ^ (32-s)*(y%2 ^ s)+x/2 ^ s=(x/2 ^ s+2 ^ (32-s)*(y%2 ^ s))+aK*(y/2 ^ s) from by omega,Nat.add_mul_mod_self_left,Nat.mod_eq_of_lt (by omega)]
theorem adR (x y:Nat) (hx:x<aK) (hy:y<aK):bY .or .int (.int .u64 (x:Int)) (.int .u64 ((aK*y:Nat):Int))=some (.int .u64 ((aK*y+x:Nat):Int)):=by
 rw [aau _ _ (by unfold aK at *;omega) (by unfold aK at *;omega),Nat.or_comm]
 have:=Nat.two_pow_add_eq_or_of_lt (i:=32) (b:=x) (by unfold aK at hx;omega) y
 rw [show aK=2 ^ 32 from rfl,this]
theorem Um (x s:Nat) (hs:s<=64):bY .shr .int (.int .u64 (x:Int)) (.int .i64 (s:Int))=some (.int .u64 ((x/2 ^ s:Nat):Int)):=by
 rw [sJ (by omega)]
 have h2:min (s:Int).toNat IntKind.u64.bits=s:=by
   show min (s:Int).toNat 64=s
   rw [Int.toNat_natCast];omega
 have h3:(x:Int).fdiv (2 ^ s)=((x/2 ^ s:Nat):Int):=by
   have h4:(2:Int) ^ s=((2 ^ s:Nat):Int):=by rw [Int.natCast_pow];rfl
   rw [h4,Int.fdiv_eq_ediv_of_nonneg _ (Int.natCast_nonneg _)]
   exact (Int.natCast_ediv _ _).symm
 rw [h2,h3]
section
variable {P:Program} {G:Nat->Option (List AV)}
theorem NL {f:FuncId} (h:Has P f gz) {n x k:Nat} (hk:ak n=k+1) (hx:(digits n)[k]? = some x) (TL:k<=1000000):VP P G f [W n] (.int .i64 ((32*k+iC x:Nat):Int)):=by
 refine VP.has h ?_
 have hxB:=a7 n x (List.mem_of_getElem? hx)
 obtain ⟨HQ,_,_,_,_⟩:=Cz hk hx
 have d0:decide (((k+1:Nat):Int)=0)=false:=aD (by omega)
 have p1:IntKind.i64.wrap (((k+1:Nat):Int)-1)=(k:Int):=by rw [IntKind.wrap_i64];omega
 simp only [gz,SS,Nat.reduceAdd,bn,hk,d0,p1,di hx,aN,bq,az]
 refine VW.dU (α := Nat × Nat × Nat) (fun y=>⟨[W n, .top, .top, .int .i64 (y.1:Int), .int .u32 (y.2.1:Int)]++List.replicate 21 .top,fun _=>none,y.2.2⟩)
   (fun y=>y.2.1=x/2 ^ y.1/\y.1<=32/\2 ^ y.1<=2*x) (fun y=>y.2.1) (0,x,1000) ?_ ?_ ?_
 . exact Wk.slots (by simp [Fg,List.replicate]) (by simp only [];omega)
 . refine ⟨by simp,by simp,by simp;omega⟩
 rintro ⟨c,y,nn⟩ ⟨hy,hc,h2⟩
 simp only [] at hy hc h2
 have hyB:y<aK:=by rw [hy];exact Nat.lt_of_le_of_lt (Nat.div_le_self _ _) hxB
 by_cases h0:y=0
 . have d1:decide ((0:Int)<(y:Int))=false:=aD (by omega)
   have h1:x<2 ^ c:=by
     rw [h0] at hy
     exact Nat.lt_of_div_eq_zero (Nat.two_pow_pos c) hy.symm
   have e:=LY hxB HQ h1 h2
   have m1:IntKind.i64.wrap (32*(k:Int))=((32*k:Nat):Int):=by rw [IntKind.wrap_i64];omega
   have a1:=oH (32*k) c (by omega)
   rw [<- e]
   simp only [SS,Nat.reduceAdd,d1,bn,hk,p1,m1,a1]
   exact ax▸ae rfl (aa.int _ _)
 . have d1:decide ((0:Int)<(y:Int))=true:=aG (by omega)
   have hcw:=aP c (by omega)
   have q2:=ahc y hyB
   have hlt:2 ^ c<=x:=by
     rcases Nat.lt_or_ge x (2 ^ c) with h | h
     . rw [Nat.div_eq_of_lt h] at hy;omega
     . exact h
   have W4:c+1<=32:=by
     have:2 ^ c<2 ^ 32:=by unfold aK at hxB;omega
     have:=(Nat.pow_lt_pow_iff_right (by decide:1<2)).1 this
     omega
   simp only [SS,Nat.reduceAdd,d1,hcw,q2]
   refine ⟨(c+1,y/2,_),⟨?_,W4, ?_⟩,Nat.div_lt_self (by omega) (by decide),Wk.slots (by simp [Fg]) (Nat.le_refl _)⟩
   . simp only [];rw [hy,Nat.div_div_eq_div_mul, <- Nat.pow_succ]
   . simp only [];rw [Nat.pow_succ];omega
theorem GV {f:FuncId} (h:Has P f gh) (m s:Nat) (hm:ak m<=1000000) (hs:s<=31) (p:Id) :
   bc P G f [W m, .int .i64 (s:Int)] p [] { val := .osl (4::p) 1 0 (ak m+1) false,rd:=[],up:=[(4::p,some ⟨us (pad (ak m+1) (m*2 ^ s)),1,false⟩)] }:=by
 refine bc.has h ?_
 have hL:=aP (ak m) (by omega)
 have ss:∀ p:Id,jn p 1 4 (.int .u32 0) (.int .i64 ((ak m+1:Nat):Int)) (.int .i64 ((ak m+1:Nat):Int))=some { val := .osl p 1 0 (ak m+1) false,up:=[(p,some ⟨us (List.replicate (ak m+1) 0),1,false⟩)] }:=fun p=>nE (by omega)
 have hz:us (List.replicate (ak m+1) 0)=us (0::zs (ak m)):=rfl
 simp only [gh,SS,Nat.reduceAdd,bn,hL,ss,az]
 refine VW.dU (α := Nat × Nat × List Nat × Nat) (fun x=>⟨[W m, .int .i64 (s:Int), .top, .top, .top, .osl (4::p) 1 0 (ak m+1) false, .int .i64 (x.1:Int)]++List.replicate 36 .top,
   ah.put (ah.of []) (4::p) (some ⟨us (x.2.2.1++x.2.2.2::zs (ak m-x.1)),1,false⟩),x.2.1⟩)
   (fun x=>x.1<=ak m/\x.2.2.1.length=x.1/\Wd x.2.2.1/\x.2.2.2<2 ^ s/\val x.2.2.1+aK ^ x.1*x.2.2.2=val ((digits m).take x.1)*2 ^ s) (fun x=>ak m-x.1) (0,1000,[],0) ?_ ?_ ?_
 . exact Wk.slots (by simp [Fg,List.replicate]) (by simp only [];omega)
 . exact ⟨Nat.zero_le _,rfl,by intro w hw;simp at hw,Nat.two_pow_pos _,by simp [val]⟩
 rintro ⟨i,nn,o,c⟩ ⟨hi,ho,hwd,hc,hv⟩
 simp only [] at hi ho hwd hc hv
 have qU:i<ak m->decide ((i:Int)<(ak m:Int))=true:=fun h=>aG (by omega)
 have xP : ¬ i<ak m->decide ((i:Int)<(ak m:Int))=false:=fun h=>aD (by omega)
 have dI : ¬ i<ak m->i=ak m:=by omega
 have sU:=aP i (by omega)
 have js:i<ak m->i+1<=ak m/\ak m-(i+1)<ak m-i:=fun h=>by omega
 have hcB:c<aK:=by
   have h2:2 ^ s<=2 ^ 32:=Nat.pow_le_pow_right (by decide) (by omega)
   unfold aK;omega
 by_cases hlt:i<ak m
 . obtain ⟨x,hx⟩:∃ x,(digits m)[i]? = some x:=⟨_,List.getElem?_eq_getElem hlt⟩
   have rY:=a7 m x (List.mem_of_getElem? hx)
   have f1:=bx x rY
   have f2:=TT x s (by omega) rY
   obtain ⟨g1,g2,g3⟩:=LJ (s:=s) (by omega) hc rY
   have f3:=aav c (x*2 ^ s%aK) hcB (Nat.mod_lt _ cX)
   rw [g1] at f3
   have g4:x*2 ^ s/aK<aK:=by
     have h2:2 ^ s<=2 ^ 32:=Nat.pow_le_pow_right (by decide) (by omega)
     have:(2:Nat) ^ 32=aK:=rfl
     omega
   have f4:IntKind.u32.wrap ((x*2 ^ s/aK:Nat):Int)=((x*2 ^ s/aK:Nat):Int):=by rw [yk,Nat.mod_eq_of_lt g4]
   have mE:=cO (q:=4::p) (t:=false) (show i<ak m+1 by omega)
   have aaw:=cO (q:=4::p) (t:=false) (show i+1<ak m+1 by omega)
   obtain ⟨k,hk⟩:∃ k,ak m-i=k+1:=⟨ak m-i-1,by omega⟩
   have D4:ak m-(i+1)=k:=by omega
   have zH:i<(o++c::0::zs k).length:=by simp;omega
   have Qy:i+1<(o++(c+x*2 ^ s%aK)::0::zs k).length:=by simp;omega
   have hv':val (o++[c+x*2 ^ s%aK])+aK ^ (i+1)*(x*2 ^ s/aK)=val ((digits m).take (i+1))*2 ^ s:=by
     rw [aS hx,cv,ho,Nat.add_mul, <- hv]
     simp only [val,Nat.mul_zero,Nat.add_zero,Nat.pow_succ]
     have e2:aK ^ i*(x*2 ^ s%aK)+aK ^ i*(aK*(x*2 ^ s/aK))=aK ^ i*(x*2 ^ s):=by rw [<- Nat.mul_add,Nat.mod_add_div]
     rw [Nat.mul_assoc,Nat.mul_assoc,Nat.mul_add]
     omega
   simp only [SS,Nat.reduceAdd,bn,qU hlt,di hx,aN,bq,f1,f2,mE,hk,iU]
   rw [ju (o:=o++c::0::zs k) (b:=false) (by simp [ah.put]) (xr _ _ _ ho)]
   simp only [SS,Nat.reduceAdd,yk,f3,mE]
   rw [bU (o:=o++c::0::zs k) (by simp [ah.put]) zH,fO _ _ _ _ ho]
   simp only [SS,Nat.reduceAdd,sU,o6,f4,aaw]
   rw [bU (o:=o++(c+x*2 ^ s%aK)::0::zs k) (by simp [ah.put]) Qy,LI _ _ _ _ _ ho]
   simp only [SS,Nat.reduceAdd,sU]
   refine ⟨(i+1,_,o++[c+x*2 ^ s%aK],x*2 ^ s/aK),⟨(js hlt).1,by simp [ho],cN hwd (by intro z hz;simp at hz;subst hz;exact g2),g3,hv'⟩,(js hlt).2,Wk.forget (by simp [Fg]) (fun j => ?_) (Nat.le_refl _)⟩
   simp only [ah.put,D4];split<;>simp
 . have pN:=dI hlt
   have e1:(digits m).take (ak m)=digits m:=List.take_of_length_le (Nat.le_refl _)
   have AH:val (o++[c])=m*2 ^ s:=by
     rw [cv,ho];simp only [val,Nat.mul_zero,Nat.add_zero]
     rw [hv,pN,e1,aZ]
   have hlen:(o++[c]).length=ak m+1:=by simp [ho,pN]
   have e:pad (ak m+1) (m*2 ^ s)=o++[c]:=by
     rw [<- AH, <- hlen]
     exact A8 (cN hwd (by intro z hz;simp at hz;subst hz;exact hcB))
   have e3:zs (ak m-i)=[]:=by rw [pN,Nat.sub_self];rfl
   simp only [SS,Nat.reduceAdd,bn,xP hlt,e,e3]
   refine eh▸bK rfl fun i => .inr ?_
   rfl
theorem Xp {f ft:FuncId} (h:Has P f (kO ft)) (ht:iT P G ft) (m s:Nat) (hm:ak m<=1000000) (hs:s<=31) :
   VP P G f [W m, .int .i64 (s:Int)] (W (m/2 ^ s)):=by
 refine VP.has h ?_
 have ss:∀ p:Id,jn p 1 4 (.int .u32 0) (.int .i64 (ak m:Int)) (.int .i64 (ak m:Int))=some { val := .osl p 1 0 (ak m) false,up:=[(p,some ⟨us (List.replicate (ak m) 0),1,false⟩)] }:=fun p=>nE (by omega)
 have hz:us (List.replicate (ak m) 0)=us ([]++zs (ak m-0)):=rfl
 have h2s:2 ^ s*2 ^ (32-s)=aK:=by rw [Nat.mul_comm];exact vk (by omega)
 simp only [kO,SS,Nat.reduceAdd,bn,ss,hz,az]
 refine VW.dU (α := Nat × Nat × List Nat) (fun x=>⟨[W m, .int .i64 (s:Int), .top, .top, .top, .osl [3] 1 0 (ak m) false, .int .i64 (x.1:Int)]++List.replicate 38 .top,
   ah.put (fun _=>none) [3] (some ⟨us (x.2.2++zs (ak m-x.1)),1,false⟩),x.2.1⟩)
   (fun x=>x.1<=ak m/\x.2.2.length=x.1/\Wd x.2.2/\2 ^ s*val x.2.2+m%2 ^ s=val ((digits m).take x.1)+aK ^ x.1*(((digits m)[x.1]?).getD 0%2 ^ s)) (fun x=>ak m-x.1) (0,1000,[]) ?_ ?_ ?_
 . exact Wk.slots (by simp [Fg,List.replicate]) (by simp only [];omega)
 . refine ⟨Nat.zero_le _,rfl,by intro w hw;simp at hw, ?_⟩
   show 2 ^ s*val []+m%2 ^ s=val ((digits m).take 0)+aK ^ 0*(((digits m)[0]?).getD 0%2 ^ s)
   rw [zp, <- h2s,Nat.mod_mul_right_mod]
   simp [val]
 rintro ⟨i,nn,o⟩ ⟨hi,ho,hwd,hv⟩
 simp only [] at hi ho hwd hv
 have qU:i<ak m->decide ((i:Int)<(ak m:Int))=true:=fun h=>aG (by omega)
 have xP : ¬ i<ak m->decide ((i:Int)<(ak m:Int))=false:=fun h=>aD (by omega)
 have LF:i+1<ak m->decide (((i+1:Nat):Int)<(ak m:Int))=true:=fun h=>aG (by omega)
 have LG : ¬ i+1<ak m->decide (((i+1:Nat):Int)<(ak m:Int))=false:=fun h=>aD (by omega)
 have dI : ¬ i<ak m->i=ak m:=by omega
 have aay:i<ak m -> ¬ i+1<ak m->i+1=ak m:=by omega
 have sU:=aP i (by omega)
 have js:i<ak m->i+1<=ak m/\ak m-(i+1)<ak m-i:=fun h=>by omega
 by_cases hlt:i<ak m
 . obtain ⟨x,hx⟩:∃ x,(digits m)[i]? = some x:=⟨_,List.getElem?_eq_getElem hlt⟩
   have rY:=a7 m x (List.mem_of_getElem? hx)
   have f0:=bx x rY
   have mE:=cO (q:=[3]) (t:=false) hlt
   obtain ⟨k,hk⟩:∃ k,ak m-i=k+1:=⟨ak m-i-1,by omega⟩
   have D4:ak m-(i+1)=k:=by omega
   have zH:i<(o++0::zs k).length:=by simp;omega
   have hstep:∀ y w,w=x/2 ^ s+2 ^ (32-s)*(y%2 ^ s)->2 ^ s*w+x%2 ^ s=x+aK*(y%2 ^ s)->((digits m)[i+1]?).getD 0=y ->
       2 ^ s*val (o++[w])+m%2 ^ s=val ((digits m).take (i+1))+aK ^ (i+1)*(((digits m)[i+1]?).getD 0%2 ^ s):=by
     intro y w _ hw hy
     rw [hx,Option.getD_some] at hv
     rw [aS hx,cv,ho,hy]
     simp only [val,Nat.mul_zero,Nat.add_zero,Nat.pow_succ]
     have e1:aK ^ i*(2 ^ s*w)+aK ^ i*(x%2 ^ s)=aK ^ i*x+aK ^ i*(aK*(y%2 ^ s)):=by rw [<- Nat.mul_add,hw,Nat.mul_add]
     have e2:2 ^ s*(val o+aK ^ i*w)=2 ^ s*val o+aK ^ i*(2 ^ s*w):=by rw [Nat.mul_add,Nat.mul_left_comm]
     rw [e2,Nat.mul_assoc]
     omega
   by_cases hn:i+1<ak m
   . obtain ⟨y,hy⟩:∃ y,(digits m)[i+1]? = some y:=⟨_,List.getElem?_eq_getElem hn⟩
     have DU:=a7 m y (List.mem_of_getElem? hy)
     have f1:=bx y DU
     have f2:=A7 y DU
     have f3:=adR x y rY DU
     have f4:=Um (aK*y+x) s (by omega)
     obtain ⟨g1,g2,g3⟩:=Cs (y:=y) (s:=s) (by omega) rY
     have f5:IntKind.u32.wrap (((aK*y+x)/2 ^ s:Nat):Int)=((x/2 ^ s+2 ^ (32-s)*(y%2 ^ s):Nat):Int):=by rw [yk,Rn (by omega) rY]
     have hv':=hstep y _ rfl g3 (by rw [hy];rfl)
     simp only [SS,Nat.reduceAdd,bn,qU hlt,di hx,aN,bq,f0,sU,LF hn,di hy,f1,f2,f3,f4,f5,mE,hk,iU]
     rw [bU (o:=o++0::zs k) (by simp [ah.put]) zH,fO _ _ _ _ ho]
     simp only [SS,Nat.reduceAdd,sU]
     refine ⟨(i+1,_,o++[x/2 ^ s+2 ^ (32-s)*(y%2 ^ s)]),⟨(js hlt).1,by simp [ho],cN hwd (by intro z hz;simp at hz;subst hz;exact g2),hv'⟩,(js hlt).2,Wk.forget (by simp [Fg]) (fun j => ?_) (Nat.le_refl _)⟩
     simp only [ah.put,D4];split<;>simp
   . have BI:(digits m)[i+1]? = none:=List.getElem?_eq_none (by have:=aay hlt hn;show ak m<=i+1;omega)
     obtain ⟨g1,g2,g3⟩:=Cs (y:=0) (s:=s) (by omega) rY
     have e0:x/2 ^ s+2 ^ (32-s)*(0%2 ^ s)=x/2 ^ s:=by simp
     rw [e0] at g2 g3
     have f4:=Um x s (by omega)
     have f5:IntKind.u32.wrap ((x/2 ^ s:Nat):Int)=((x/2 ^ s:Nat):Int):=by rw [yk,Nat.mod_eq_of_lt g2]
     have hv':=hstep 0 (x/2 ^ s) e0.symm g3 (by rw [BI];rfl)
     simp only [SS,Nat.reduceAdd,bn,qU hlt,di hx,aN,bq,f0,sU,LG hn,f4,f5,mE,hk,iU]
     rw [bU (o:=o++0::zs k) (by simp [ah.put]) zH,fO _ _ _ _ ho]
     simp only [SS,Nat.reduceAdd,sU]
     refine ⟨(i+1,_,o++[x/2 ^ s]),⟨(js hlt).1,by simp [ho],cN hwd (by intro z hz;simp at hz;subst hz;exact g2),hv'⟩,(js hlt).2,Wk.forget (by simp [Fg]) (fun j => ?_) (Nat.le_refl _)⟩
     simp only [ah.put,D4];split<;>simp
 . have pN:=dI hlt
   have e1:(digits m).take (ak m)=digits m:=List.take_of_length_le (Nat.le_refl _)
   have BI:(digits m)[ak m]? = none:=List.getElem?_eq_none (Nat.le_refl _)
   have AH:val o=m/2 ^ s:=by
     rw [pN,e1,aZ,BI] at hv
     have h1:=Nat.div_add_mod m (2 ^ s)
     have h2:2 ^ s*val o=2 ^ s*(m/2 ^ s):=by
       simp at hv;omega
     exact Nat.eq_of_mul_eq_mul_left (Nat.two_pow_pos _) h2
   have hlen:ak m=o.length:=by rw [ho,pN]
   have zK:=ht o hwd (by omega)
   rw [AH] at zK
   have e3:zs (ak m-i)=[]:=by rw [pN,Nat.sub_self];rfl
   simp only [SS,Nat.reduceAdd,bn,xP hlt,e3]
   refine bG [([3],⟨us o,1,false⟩)] zK (aM.cons (gZ hlen) aM.nil) (by simp [ah.put]) ?_
   simp only [SS,Nat.reduceAdd]
   exact ax▸ae rfl (aq _)
end
end Go.VL
end

section
set_option linter.unusedVariables false
namespace Go.VL
theorem trimmed (b:List Nat) (h:Wd b):∃ z,b=digits (val b)++zs z:=by
 induction hn:b.length generalizing b with
 | zero =>
   obtain rfl:b=[]:=List.length_eq_zero_iff.1 hn
   exact ⟨0,by simp [val,bD,zs]⟩
 | succ k ih =>
   obtain ⟨b',w,rfl,hl⟩:=xu hn
   by_cases hw:w=0
   . subst hw
     obtain ⟨z,hz⟩:=ih b' (fun w hw=>h w (by simp [hw])) hl
     refine ⟨z+1, ?_⟩
     rw [kL]
     conv=>lhs;rw [hz]
     rw [List.append_assoc];congr 1
     simp [zs,List.replicate_succ']
   . exact ⟨0,by rw [nD h (.inr ⟨w,by simp,hw⟩)];simp [zs]⟩
theorem Ro {id:Id} {k off len h:Nat} (h2:h<=len):fK k (.osl id k off len false) none (some (.int .i64 (h:Int))) none=some (.osl id k off h false):=by
 simp [fK,gy,jW,h2]
theorem LZ {id:Id} {a b t:List Nat} {f tt:Bool} {n:Nat} (hn:n=b.length):View (ah.of [(id,⟨us (a++b++t),1,f⟩)]) (.osl id 1 a.length n tt) (.sl 1 (us b)):=by
 subst hn
 refine View.osl (bk:=⟨us (a++b++t),1,f⟩) (by simp [ah.of]) rfl (by simp [gu]) ?_ (by rw [gu]) (Co b)
 have:((us (a++b++t)).drop a.length).take b.length=us b:=by rw [List.append_assoc,DR,DR, <- gu a,List.drop_left, <- gu b,List.take_left]
 show aM _ (flat (((us (a++b++t)).drop a.length).take b.length)) _
 rw [this]
 exact aM.pure (zl b)
section
variable {P:Program} {G:Nat->Option (List AV)}
theorem L1 {f:FuncId} (h:Has P f gj) {id:Id} {a b t:List Nat} (hw:Wd b) (hl:b.length<=9223372036854775807) (p:Id) :
   bc P G f [.osl id 1 a.length b.length false] p [(id,⟨us (a++b++t),1,false⟩)] { val := .osl id 1 a.length (ak (val b)) false,rd:=[id],up:=[] }:=by
 refine bc.has h ?_
 simp only [gj,SS,az]
 refine VW.dU (α := Nat × Nat) (fun x=>⟨[.osl id 1 a.length x.1 false]++List.replicate 20 .top,ah.of [(id,⟨us (a++b++t),1,false⟩)],x.2⟩) (fun x=>x.1<=b.length/\val (b.take x.1)=val b) (fun x=>x.1) (b.length,1) ?_ ⟨Nat.le_refl _,by rw [List.take_length]⟩ ?_
 . exact Wk.slots (by simp [Fg,List.replicate]) (Nat.le_refl _)
 rintro ⟨k,n⟩ ⟨hk,hv⟩
 simp only [] at hk hv
 by_cases h0:k=0
 . subst h0
   have d0:decide ((0:Int)<((0:Nat):Int))=false:=by decide
   have e:ak (val b)=0:=by rw [<- hv];simp [val,ak,bD]
   simp only [SS,Nat.reduceAdd,d0,e]
   exact eh▸bK rfl fun i => .inr rfl
 . have p8:0<k:=Nat.pos_of_ne_zero h0
   have d0:decide ((0:Int)<(k:Int))=true:=aG (by omega)
   have Wf:=uj k p8 (by omega)
   obtain ⟨w,hwk⟩:∃ w,b[k-1]? = some w:=⟨b[k-1],by rw [List.getElem?_eq_getElem]⟩
   have Zf:b.take k=b.take (k-1)++[w]:=by
     have:=List.take_add_one (l:=b) (i:=k-1)
     rw [hwk,show k-1+1=k from by omega] at this
     simpa using this
   have mE:=pF (q:=id) (off:=a.length) (t:=false) (show k-1<k by omega)
   have hld:=ju (σ := ah.of [(id,⟨us (a++b++t),1,false⟩)]) (q:=id) (b:=false) (by simp [ah.of]) (xt (t:=t) (rfl:a.length=a.length) hwk)
   have LW:=Ro (id:=id) (k:=1) (off:=a.length) (len:=k) (h:=k-1) (Nat.sub_le _ _)
   by_cases hz:w=0
   . have d1:decide ((w:Int)=0)=true:=aG (by omega)
     simp only [SS,Nat.reduceAdd,d0,Wf,mE,hld,d1,LW]
     refine ⟨(k-1,_),⟨by simp only [];omega, ?_⟩,by simp only [];omega,Wk.slots (by simp [Fg]) (Nat.le_refl _)⟩
     simp only []
     rw [<- hv,Zf,hz,kL]
   . have d1:decide ((w:Int)=0)=false:=aD (by omega)
     have e:ak (val b)=k:=by
       have e1:digits (val b)=b.take k:=by
         rw [<- hv]
         exact nD (sS hw k) (.inr ⟨w,by rw [Zf];simp,hz⟩)
       rw [ak,e1,List.length_take];omega
     simp only [SS,Nat.reduceAdd,d0,Wf,mE,hld,d1,e]
     exact eh▸bK rfl fun i => .inr rfl
set_option maxHeartbeats 1000000 in
theorem Rp {f ft:FuncId} (h:Has P f (dZ ft)) (ht:iT P G ft) {id:Id} {a t:List Nat} (m n:Nat) (ta:n<=m) (hm:ak m<=1000000) (p:Id) (jS:∀ x,id≠x::p) :
   bc P G f [.osl id 1 a.length (ak m) false,W n] p [(id,⟨us (a++digits m++t),1,false⟩)] { val:=W (m-n),rd:=[id],up:=[] }:=by
 refine bc.has h ?_
 have hwn:=bJ ta
 have Un:=jS 3
 have ss:∀ p:Id,jn p 1 4 (.int .u32 0) (.int .i64 (ak m:Int)) (.int .i64 (ak m:Int))=some { val := .osl p 1 0 (ak m) false,up:=[(p,some ⟨us (List.replicate (ak m) 0),1,false⟩)] }:=fun p=>nE (by omega)
 simp only [dZ,SS,Nat.reduceAdd,ss,az]
 refine VW.dU (α := Nat × Nat × List Nat × Nat) (fun x=>⟨[.osl id 1 a.length (ak m) false,W n, .top, .top, .top, .osl (3::p) 1 0 (ak m) false, .int .u64 (x.2.2.2:Int), .int .i64 (x.1:Int)]++List.replicate 40 .top,
   ah.put (ah.of [(id,⟨us (a++digits m++t),1,false⟩)]) (3::p) (some ⟨us (x.2.2.1++zs (ak m-x.1)),1,false⟩),x.2.1⟩)
   (fun x=>x.1<=ak m/\x.2.2.1.length=x.1/\Wd x.2.2.1/\x.2.2.2<=1/\val x.2.2.1+val ((digits n).take x.1)=val ((digits m).take x.1)+aK ^ x.1*x.2.2.2) (fun x=>ak m-x.1) (0,1000,[],0) ?_ ?_ ?_
 . exact Wk.slots (by simp [Fg,List.replicate]) (by simp only [];omega)
 . exact ⟨Nat.zero_le _,rfl,by intro w hw;simp at hw,Nat.zero_le _,by simp [val]⟩
 rintro ⟨i,nn,o,c⟩ ⟨hi,ho,hwd,hc,hv⟩
 simp only [] at hi ho hwd hc hv
 have qU:i<ak m->decide ((i:Int)<(ak m:Int))=true:=fun h=>aG (by omega)
 have xP : ¬ i<ak m->decide ((i:Int)<(ak m:Int))=false:=fun h=>aD (by omega)
 have LF:i<ak n->decide ((i:Int)<(ak n:Int))=true:=fun h=>aG (by omega)
 have LG : ¬ i<ak n->decide ((i:Int)<(ak n:Int))=false:=fun h=>aD (by omega)
 have dI : ¬ i<ak m->i=ak m:=by omega
 have sU:=aP i (by omega)
 have js:i<ak m->i+1<=ak m/\ak m-(i+1)<ak m-i:=fun h=>by omega
 by_cases hlt:i<ak m
 . obtain ⟨x,hx⟩:∃ x,(digits m)[i]? = some x:=⟨_,List.getElem?_eq_getElem hlt⟩
   have rY:=a7 m x (List.mem_of_getElem? hx)
   have f1:=bx x rY
   have mE:=cO (q:=3::p) (t:=false) hlt
   have hio:=pF (q:=id) (off:=a.length) (t:=false) hlt
   obtain ⟨k,hk⟩:∃ k,ak m-i=k+1:=⟨ak m-i-1,by omega⟩
   have D4:ak m-(i+1)=k:=by omega
   have zH:i<(o++0::zs k).length:=by simp;omega
   have hld:=ju (σ := ah.put (ah.of [(id,⟨us (a++digits m++t),1,false⟩)]) (3::p) (some ⟨us (o++0::zs k),1,false⟩)) (q:=id) (b:=false) (by simp [ah.of,ah.put,Un]) (xt (t:=t) (rfl:a.length=a.length) hx)
   by_cases hb:i<ak n
   . obtain ⟨y,hy⟩:∃ y,(digits n)[i]? = some y:=⟨_,List.getElem?_eq_getElem hb⟩
     have DU:=a7 n y (List.mem_of_getElem? hy)
     have f3:=bx y DU
     obtain ⟨w,c',h1,h2,h3,d,h4,h5,h6⟩:=zO rY DU hc
     have hst:=nN (va:=val ((digits m).take i)) (vb:=val ((digits n).take i)) (x:=x) (y:=y) (c:=c) (w:=w) (c':=c') ho (by rw [hv];omega) h3
     simp only [SS,Nat.reduceAdd,bn,qU hlt,hk,iU,hio,hld,bq,f1,LF hb,di hy,aN,f3,h4,h5,mE]
     rw [bU (o:=o++0::zs k) (by simp [ah.put]) zH,fO _ _ _ _ ho]
     simp only [SS,Nat.reduceAdd,o6,h6,sU]
     refine ⟨(i+1,_,o++[w],c'),⟨(js hlt).1,by simp [ho],cN hwd (by intro z hz;simp at hz;subst hz;exact h1),h2, ?_⟩,(js hlt).2,Wk.forget (by simp [Fg]) (fun j => ?_) (Nat.le_refl _)⟩
     . show val (o++[w])+val ((digits n).take (i+1))=val ((digits m).take (i+1))+_
       rw [aS hx,aS hy];exact hst
     . simp only [ah.put,D4];split<;>simp
   . obtain ⟨w,c',h1,h2,h3,d,h4,h5,h6⟩:=zO (y:=0) rY cX hc
     have h4':IntKind.u64.wrap (IntKind.u64.wrap (IntKind.u64.wrap ((x:Int)+4294967296)-0)-(c:Int))=(d:Int):=h4
     have hst:=nN (va:=val ((digits m).take i)) (vb:=val ((digits n).take i)) (x:=x) (y:=0) (c:=c) (w:=w) (c':=c') ho (by rw [hv];omega) h3
     rw [Nat.mul_zero,Nat.add_zero] at hst
     simp only [SS,Nat.reduceAdd,bn,qU hlt,hk,iU,hio,hld,f1,LG hb,h4',h5,mE]
     rw [bU (o:=o++0::zs k) (by simp [ah.put]) zH,fO _ _ _ _ ho]
     simp only [SS,Nat.reduceAdd,o6,h6,sU]
     refine ⟨(i+1,_,o++[w],c'),⟨(js hlt).1,by simp [ho],cN hwd (by intro z hz;simp at hz;subst hz;exact h1),h2, ?_⟩,(js hlt).2,Wk.forget (by simp [Fg]) (fun j => ?_) (Nat.le_refl _)⟩
     . show val (o++[w])+val ((digits n).take (i+1))=val ((digits m).take (i+1))+_
       rw [aS hx,jl (show (digits n).length<=i from by show ak n<=i;omega)];exact hst
     . simp only [ah.put,D4];split<;>simp
 . have pN:=dI hlt
   have e1:(digits m).take (ak m)=digits m:=List.take_of_length_le (Nat.le_refl _)
   have e2:(digits n).take (ak m)=digits n:=List.take_of_length_le (by show ak n<=ak m;omega)
   have AH:val o=m-n:=by
     rw [pN,e1,e2,aZ,aZ] at hv
     have yr:=mw hwd
     rw [ho,pN] at yr
     rcases Nat.eq_zero_or_pos c with h0 | h0
     . subst h0;omega
     . have:c=1:=by omega
       subst this;have:=cV m;omega
   have yn:ak m=o.length:=by omega
   have e3:zs (ak m-i)=[]:=by rw [pN,Nat.sub_self];rfl
   have zK:=ht o hwd (by omega)
   rw [AH] at zK
   simp only [SS,Nat.reduceAdd,xP hlt,e3]
   refine bG [(3::p,⟨us o,1,false⟩)] zK (aM.cons (gZ yn) aM.nil) (by simp [ah.put]) ?_
   simp only [SS,Nat.reduceAdd]
   refine eh▸bK rfl fun i => ?_
   by_cases e:i=id
   . subst e;right;simp [ah.app,Df,ah.put,ah.of,Un]
   . left;simp [ah.app,ah.of,List.lookup,show (i==id)=false from by simpa using e]
end
end Go.VL
end

section
set_option linter.unusedVariables false
namespace Go.VL
theorem Uo {num h V D x0 M u' l v':Nat} (h0:0<h) (hV:V=(h*aK+l)*M+v') (hD:D=(num*aK+x0)*M+u') (hx:x0<aK) (hu:u'<M) (Wl:D/V<aK):D/V<=min (num/h) (aK-1):=by
 have:=LR h0 hV hD hx hu
 omega
section
variable {P:Program} {G:Nat->Option (List AV)}
set_option maxHeartbeats 1000000 in
theorem Rq {f ft fti fc fm:FuncId} (h:Has P f (gR fti ft fc fm)) (EB:∀ (m:Nat) (ws:List Nat),Wd ws->ak m<=1000000->ws.length<=1000000->VP P G fti [W m, .sl 1 (us ws)] (W (m*val ws)))
   (htr:Has P ft gj) (hc:∀ m n,ak m<=1000000->ak n<=1000000->VP P G fc [W m,W n] (.int .i64 (fY m n))) (hmi:∀ m n,n<=m->ak m<=1000000->VP P G fm [W m,W n] (W (m-n)))
   {id:Id} {a b t:List Nat} {V k:Nat} (hV:ak V=k+2) (hb:b.length=k+3) (Kq:Wd b) (Zp:val b<aK*V) (hk:k<=900000) (p:Id) (jS:∀ x,id≠x::p) :
   bc P G f [.osl id 1 a.length (k+3) false,W V] p [(id,⟨us (a++b++t),1,false⟩)] { val := .tup [.int .u32 ((val b/V:Nat):Int),W (V*(val b/V))],rd:=[id],up:=[] }:=by
 refine bc.has h ?_
 obtain ⟨hh,Ud⟩:∃ y,(digits V)[k+1]? = some y:=⟨_,List.getElem?_eq_getElem (by show k+1<ak V;omega)⟩
 obtain ⟨ll,llg⟩:∃ y,(digits V)[k]? = some y:=⟨_,List.getElem?_eq_getElem (by show k<ak V;omega)⟩
 have hhB:=a7 V hh (List.mem_of_getElem? Ud)
 obtain ⟨hVV,hvM⟩:=adB (a7 V) hV Ud llg
 rw [aZ] at hVV
 obtain ⟨hh0,_,_,_,_⟩:=Cz (k:=k+1) hV Ud
 have Wj:0<V:=by
   rcases Nat.eq_zero_or_pos V with e | e
   . rw [e] at Zp;omega
   . exact e
 obtain ⟨x2,hx2⟩:∃ z,b[k+2]? = some z:=⟨_,List.getElem?_eq_getElem (by omega)⟩
 obtain ⟨x1,Ho⟩:∃ z,b[k+1]? = some z:=⟨_,List.getElem?_eq_getElem (by omega)⟩
 obtain ⟨z0,Wi⟩:∃ z,b[k]? = some z:=⟨_,List.getElem?_eq_getElem (by omega)⟩
 have NJ:=Kq x2 (List.mem_of_getElem? hx2)
 have Uf:=Kq x1 (List.mem_of_getElem? Ho)
 have Ug:=Kq z0 (List.mem_of_getElem? Wi)
 obtain ⟨hD,huM⟩:=adC Kq hb hx2 Ho Wi
 rw [show x2*aK+x1=aK*x2+x1 from by rw [Nat.mul_comm]] at hD
 obtain ⟨num,GR⟩:∃ z,z=aK*x2+x1:=⟨_,rfl⟩
 rw [<- GR] at hD
 have PV:num<18446744073709551616:=by rw [GR];unfold aK at *;omega
 have Wl:val b/V<aK:=Nat.div_lt_of_lt_mul (by rw [Nat.mul_comm];exact Zp)
 have JU:=Uo hh0 hVV hD Ug huM Wl
 have io2:=pF (q:=id) (off:=a.length) (t:=false) (show k+2<k+3 by omega)
 have io1:=pF (q:=id) (off:=a.length) (t:=false) (show k+1<k+3 by omega)
 have ld2:=ju (σ := ah.of [(id,⟨us (a++b++t),1,false⟩)]) (q:=id) (b:=false) (by simp [ah.of]) (xt (t:=t) (rfl:a.length=a.length) hx2)
 have ld1:=ju (σ := ah.of [(id,⟨us (a++b++t),1,false⟩)]) (q:=id) (b:=false) (by simp [ah.of]) (xt (t:=t) (rfl:a.length=a.length) Ho)
 have w2:=bx x2 NJ
 have w1:=bx x1 Uf
 have w0:=bx hh hhB
 have s2:=A7 x2 NJ
 have o2:=IQ x2 x1 NJ Uf
 rw [<- GR] at o2
 have q1:=IU num hh PV (by omega)
 have p1:IntKind.i64.wrap (((k+2:Nat):Int)-1)=((k+1:Nat):Int):=by rw [IntKind.wrap_i64];omega
 have hwD:ak (val b)<=1000000:=by
   have h1:=mw Kq
   rw [hb] at h1
   have:=fN h1;omega
 have htm:=L1 (G:=G) htr (id:=id) (a:=a) (b:=b) (t:=t) Kq (by omega)
 rw [hb] at htm
 obtain ⟨z,hz⟩:=trimmed b Kq
 have mV:View (ah.of [(id,⟨us (a++b++t),1,false⟩)]) (.osl id 1 a.length (ak (val b)) false) (W (val b)):=by
   have:a++b++t=a++digits (val b)++(zs z++t):=by
     conv=>lhs;rw [hz]
     simp
   rw [this]
   exact LZ rfl
 have Un:∀ x,id≠x::p:=jS
 simp only [gR,SS,DD,Nat.reduceAdd,bn,hV,io2,io1,ld2,ld1,w2,w1,s2,o2,p1,di Ud,aN,bq,w0,q1]
 refine ⟨by simp [ab], ?_⟩
 by_cases adU:(4294967295<num/hh)
 . have d1:decide ((4294967295:Int)<((num/hh:Nat):Int))=true:=by first | exact aG (by omega) | exact aD (by omega)
   obtain ⟨q0,Kr⟩:∃ q0:Nat,q0=4294967295:=⟨_,rfl⟩
   have NM:q0<aK:=by unfold aK;omega
   have aa4:val b/V<=q0:=by unfold aK at JU;omega
   have f3:IntKind.u32.wrap (q0:Int)=(q0:Int):=by rw [yk,Nat.mod_eq_of_lt NM]
   have yj:∀ (σ : ah) (q:Id),b8 σ q (.buildSl 1 1 (.int .u32 0) [(0, .int .u32 (q0:Int))])=some { val := .osl q 1 0 1 false,up:=[(q,some ⟨us [q0],1,false⟩)] }:=fun σ q=>Cq
   have Ue:=EB V [q0] (by intro w hw;simp at hw;subst hw;exact NM) (by omega) (by simp)
   rw [show val [q0]=q0 from by simp [val]] at Ue
   have f3q:IntKind.u32.wrap 4294967295=(q0:Int):=by rw [<- f3,Kr];try rfl
   simp only [SS,Nat.reduceAdd,d1,f3q,yj]
   refine bG [(32::p,⟨us [q0],1,false⟩)] Ue (aM.cons (View.pure (aq _)) (aM.cons (gZ rfl) aM.nil)) (by simp [ah.put]) ?_
   simp only [SS,Nat.reduceAdd,az]
   refine VW.dU (α := Nat × Nat) (fun x=>⟨[.osl id 1 a.length (k+3) false,W V, .top, .top, .top, .top, .top, .int .u64 (x.1:Int),W (V*x.1)]++List.replicate 42 .top,ah.of [(id,⟨us (a++b++t),1,false⟩)],x.2⟩)
     (fun x=>val b/V<=x.1/\x.1<aK) (fun x=>x.1) (q0,1000) ?_ ?_ ?_
   . refine Wk.forget (by simp [Fg,List.replicate,Kr]) (fun j => ?_) (by simp only [];omega)
     by_cases e:j=id
     . subst e;right;simp [ah.app,Df,ah.put,ah.of,Un]
     . left;simp [ah.of,List.lookup,show (j==id)=false from by simpa using e]
   . exact ⟨aa4,NM⟩
   rintro ⟨q,nn⟩ ⟨hq1,KR⟩
   simp only [] at hq1 KR
   have hwq:ak (V*q)<=1000000:=by
     have h1:=zk V q
     have h2:ak q<=1:=fN (by simpa using KR)
     omega
   have hcv:=hc (val b) (V*q) hwD hwq
   simp only [SS,Nat.reduceAdd]
   refine ⟨[(id,⟨us (a++b++t),1,false⟩)],_,htm _,by simp [ah.of],by simp, ?_⟩
   simp only [SS,Nat.reduceAdd]
   refine Eh [(id,⟨us (a++b++t),1,false⟩)] hcv (aM.cons mV (aM.cons (View.pure (aq _)) aM.nil)) (fun _ _ _ _ _ h=>by simpa [aX] using h) (by simp [ah.of]) ?_
   by_cases hlt:val b<V*q
   . have d2:decide (fY (val b) (V*q)<0)=true:=aG (by simp only [fY,jk];rw [if_pos (by omega)];decide)
     have hqp:1<=q:=by
       rcases Nat.eq_zero_or_pos q with e | e
       . rw [e] at hlt;omega
       . exact e
     have hle:val b/V<=q-1:=by
       have:=(Nat.div_lt_iff_lt_mul Wj).2 (by rw [Nat.mul_comm] at hlt;exact hlt)
       omega
     have pq:IntKind.u64.wrap ((q:Int)-1)=((q-1:Nat):Int):=by rw [IntKind.wrap_u64];unfold aK at KR;omega
     have Re:=hmi (V*q) V (Nat.le_mul_of_pos_right _ hqp) hwq
     have em:V*q-V=V*(q-1):=by rw [Nat.mul_sub,Nat.mul_one]
     rw [em] at Re
     simp only [SS,Nat.reduceAdd,d2,pq]
     refine ao Re (by simp [aq]) ?_
     simp only [SS,Nat.reduceAdd]
     exact ⟨(q-1,_),⟨hle,by simp only [];omega⟩,by simp only [];omega,Wk.slots (by simp [Fg]) (Nat.le_refl _)⟩
   . have d2:decide (fY (val b) (V*q)<0)=false:=aD (by simp only [fY,jk];rw [if_neg (by omega)];split<;>decide)
     have Xk:q=val b/V:=by
       have:=(Nat.le_div_iff_mul_le Wj).2 (show q*V<=val b by rw [Nat.mul_comm];omega)
       omega
     have f4:IntKind.u32.wrap (q:Int)=(q:Int):=by rw [yk,Nat.mod_eq_of_lt KR]
     simp only [SS,Nat.reduceAdd,d2,f4]
     rw [<- Xk]
     exact eh▸bK rfl fun i => .inr rfl
 by_cases aa5:(¬ 4294967295<num/hh)
 . have d1:decide ((4294967295:Int)<((num/hh:Nat):Int))=false:=by first | exact aG (by omega) | exact aD (by omega)
   obtain ⟨q0,Kr⟩:∃ q0:Nat,q0=(num/hh):=⟨_,rfl⟩
   have NM:q0<aK:=by unfold aK;omega
   have aa4:val b/V<=q0:=by unfold aK at JU;omega
   have f3:IntKind.u32.wrap (q0:Int)=(q0:Int):=by rw [yk,Nat.mod_eq_of_lt NM]
   have yj:∀ (σ : ah) (q:Id),b8 σ q (.buildSl 1 1 (.int .u32 0) [(0, .int .u32 (q0:Int))])=some { val := .osl q 1 0 1 false,up:=[(q,some ⟨us [q0],1,false⟩)] }:=fun σ q=>Cq
   have Ue:=EB V [q0] (by intro w hw;simp at hw;subst hw;exact NM) (by omega) (by simp)
   rw [show val [q0]=q0 from by simp [val]] at Ue
   have f3q:IntKind.u32.wrap ((num/hh:Nat):Int)=(q0:Int):=by rw [<- f3,Kr];try rfl
   simp only [SS,Nat.reduceAdd,d1,f3q,yj]
   refine bG [(31::p,⟨us [q0],1,false⟩)] Ue (aM.cons (View.pure (aq _)) (aM.cons (gZ rfl) aM.nil)) (by simp [ah.put]) ?_
   simp only [SS,Nat.reduceAdd,az]
   refine VW.dU (α := Nat × Nat) (fun x=>⟨[.osl id 1 a.length (k+3) false,W V, .top, .top, .top, .top, .top, .int .u64 (x.1:Int),W (V*x.1)]++List.replicate 42 .top,ah.of [(id,⟨us (a++b++t),1,false⟩)],x.2⟩)
     (fun x=>val b/V<=x.1/\x.1<aK) (fun x=>x.1) (q0,1000) ?_ ?_ ?_
   . refine Wk.forget (by simp [Fg,List.replicate,Kr]) (fun j => ?_) (by simp only [];omega)
     by_cases e:j=id
     . subst e;right;simp [ah.app,Df,ah.put,ah.of,Un]
     . left;simp [ah.of,List.lookup,show (j==id)=false from by simpa using e]
   . exact ⟨aa4,NM⟩
   rintro ⟨q,nn⟩ ⟨hq1,KR⟩
   simp only [] at hq1 KR
   have hwq:ak (V*q)<=1000000:=by
     have h1:=zk V q
     have h2:ak q<=1:=fN (by simpa using KR)
     omega
   have hcv:=hc (val b) (V*q) hwD hwq
   simp only [SS,Nat.reduceAdd]
   refine ⟨[(id,⟨us (a++b++t),1,false⟩)],_,htm _,by simp [ah.of],by simp, ?_⟩
   simp only [SS,Nat.reduceAdd]
   refine Eh [(id,⟨us (a++b++t),1,false⟩)] hcv (aM.cons mV (aM.cons (View.pure (aq _)) aM.nil)) (fun _ _ _ _ _ h=>by simpa [aX] using h) (by simp [ah.of]) ?_
   by_cases hlt:val b<V*q
   . have d2:decide (fY (val b) (V*q)<0)=true:=aG (by simp only [fY,jk];rw [if_pos (by omega)];decide)
     have hqp:1<=q:=by
       rcases Nat.eq_zero_or_pos q with e | e
       . rw [e] at hlt;omega
       . exact e
     have hle:val b/V<=q-1:=by
       have:=(Nat.div_lt_iff_lt_mul Wj).2 (by rw [Nat.mul_comm] at hlt;exact hlt)
       omega
     have pq:IntKind.u64.wrap ((q:Int)-1)=((q-1:Nat):Int):=by rw [IntKind.wrap_u64];unfold aK at KR;omega
     have Re:=hmi (V*q) V (Nat.le_mul_of_pos_right _ hqp) hwq
     have em:V*q-V=V*(q-1):=by rw [Nat.mul_sub,Nat.mul_one]
     rw [em] at Re
     simp only [SS,Nat.reduceAdd,d2,pq]
     refine ao Re (by simp [aq]) ?_
     simp only [SS,Nat.reduceAdd]
     exact ⟨(q-1,_),⟨hle,by simp only [];omega⟩,by simp only [];omega,Wk.slots (by simp [Fg]) (Nat.le_refl _)⟩
   . have d2:decide (fY (val b) (V*q)<0)=false:=aD (by simp only [fY,jk];rw [if_neg (by omega)];split<;>decide)
     have Xk:q=val b/V:=by
       have:=(Nat.le_div_iff_mul_le Wj).2 (show q*V<=val b by rw [Nat.mul_comm];omega)
       omega
     have f4:IntKind.u32.wrap (q:Int)=(q:Int):=by rw [yk,Nat.mod_eq_of_lt KR]
     simp only [SS,Nat.reduceAdd,d2,f4]
     rw [<- Xk]
     exact eh▸bK rfl fun i => .inr rfl
 exact absurd adU aa5
end
end Go.VL
end
