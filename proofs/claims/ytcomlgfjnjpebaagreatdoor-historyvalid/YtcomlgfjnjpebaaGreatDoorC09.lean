/- For the claim of HistoryValid: parts CF2, HI1, HI2, VL34, SNH, CF3, CH1, CH2, EXB, CF4, CF5, CF6. -/
import Derived.Test.YtcomlgfjnjpebaaGreatDoorC08
import Derived.Test.YtcomlgfjnjpebaaGreatDoorC05
import Derived.Test.YtcomlgfjnjpebaaGreatDoorC04
import Derived.Test.YtcomlgfjnjpebaaGreatDoorC07
set_option linter.unusedSimpArgs false
set_option linter.unusedVariables false
section
set_option linter.unusedVariables false
namespace Go.VL
open Go.Lib
theorem X4 (n:Nat):1<=(decDigits n).length:=by
 by_cases h:n<10
 . rw [wm h];exact Nat.le_refl _
 . rw [Gk h,List.length_append,List.length_singleton];omega
section
variable {P:Program} {G:Nat->Option (List AV)}
theorem IQ {f fV fS UG fI fE fF fM:FuncId} (h:Has P f (dv fV fS UG fI fE fF fM)) (a b:Nat) (hb:b≠0) (hg:Nat.gcd a b=1) (ha:ah a<=8) (B8:ah b<=8)
   (hv:VP P G fV [RV (a:Int) (b:Int)] (.bool true)) (hs:VP P G fS [RV (a:Int) (b:Int)] (.int .i64 (a:Int).sign)) (PC:VP P G UG [.int .i64 10] (RV 10 1)) (hi:VP P G fI [.int .i64 1] (IV 1))
   (hc:∀ y:Nat,ah y<=1000->VP P G fE [IV (y:Int),IV 1] (.bool (decide ((y:Int)=1))))
   (hm:∀ a b:Nat,b≠0->b≠1->Nat.gcd a b=1->ah a<=1000->ah b<=1000->VP P G fM [RV (a:Int) (b:Int),RV 10 1] (RV ((10*a/Nat.gcd (10*a) b:Nat):Int) ((b/Nat.gcd (10*a) b:Nat):Int)))
   (hf:∀ n:Nat,ah n<=1000->VP P G fF [IV (n:Int)] (.str (decDigits n))) :
   VP P G f [RV (a:Int) (b:Int)] (uu 41 a b):=by
 refine VP.has h ?_
 have d0:decide ((a:Int).sign<0)=false:=ak (by rcases mA (a:Int) with ⟨e,p⟩ | ⟨e,p⟩ | ⟨e,p⟩<;>omega)
 simp only [dv,SS,Nat.reduceAdd,x8,ae,ql]
 refine aj hv (by simp [fk]) ?_
 simp only [SS,Nat.reduceAdd,ae,ql]
 refine aj hs (by simp [fk]) ?_
 simp only [SS,Nat.reduceAdd,d0]
 refine aj PC (by simp [af.int]) ?_
 simp only [SS,Nat.reduceAdd,mI]
 rw [gW (k:=(AV.agg [.bool false, .nils, .bool false, .nils]).size) (by simp [aa.put])]
 simp only [SS,Nat.reduceAdd]
 refine aj hi (by simp [af.int]) ?_
 simp only [SS,Nat.reduceAdd,cx]
 rw [bB (k:=(AV.agg [.bool false, .nils]).size) (y := .agg [.bool false, .nils]) rfl (jH _) (by simp [aa.put])]
 have k1:([0]:List Nat)≠[12]:=by decide
 have k2:([0]:List Nat)≠[15]:=by decide
 simp only [SS,Nat.reduceAdd,ai k1,ai k2,ae,ql,mI]
 rw [gW (k:=(AV.agg [.bool false, .nils, .bool false, .nils]).size) (by simp [aa.put])]
 simp only [SS,Nat.reduceAdd,aD]
 refine VW.bL (α := Nat × Nat × Nat × Nat) (fun x=>⟨[RV (a:Int) (b:Int), .ref [0] 0 0, .str [], .bool false, .ref [12] 0 0, .ref [15] 0 0, .ref [18] 0 0, .int .i64 ((x.1:Nat):Int)]++List.replicate 52 .top,
   ((aa.put (fun _=>none) [12] (some ⟨[RV 10 1],4,false⟩)).put [15] (some ⟨[IV 1],2,false⟩)).put [18] (some ⟨[RV (x.2.1:Int) (x.2.2.1:Int)],4,false⟩),x.2.2.2⟩)
   (fun x=>x.1<=41/\x.2.2.1≠0/\Nat.gcd x.2.1 x.2.2.1=1/\ah x.2.1<=8+x.1/\ah x.2.2.1<=8/\gz 41 0 a b=gz (41-x.1) x.1 x.2.1 x.2.2.1) (fun x=>41-x.1) (0,a,b,1000) ?_ ?_ ?_
 . refine Wk.forget (by simp [Fg,List.replicate]) (fun j => ?_) (by simp only [];omega)
   by_cases h1:j=[15]
   . subst h1;right;simp [aa.put];rfl
   by_cases h2:j=[12]
   . subst h2;right;simp [aa.put];rfl
   by_cases h3:j=[18]
   . subst h3;right;simp [aa.put];rfl
   . left;simp [aa.put,h1,h2,h3]
 . exact ⟨Nat.zero_le _,hb,hg,ha,B8,rfl⟩
 rintro ⟨p,x,y,nn⟩ ⟨hp,hy,Wb,hwx,hwy,hgo⟩
 simp only [] at hp hy Wb hwx hwy hgo
 unfold uu
 rw [hgo]
 by_cases adS:p<41
 case neg =>
   have dp:decide ((p:Int)<=40)=false:=ak (by omega)
   rw [show 41-p=0 from by omega]
   simp only [SS,Nat.reduceAdd,dp,gz]
   exact ag▸ab rfl (fY _ _)
 have dp:decide ((p:Int)<=40)=true:=ao (by omega)
 obtain ⟨m,XZ⟩:∃ m,41-p=m+1:=⟨41-p-1,by omega⟩
 rw [XZ]
 have k1:([12]:List Nat)≠[18]:=by decide
 have k2:([15]:List Nat)≠[18]:=by decide
 have k3:([12]:List Nat)≠[15]:=by decide
 simp only [SS,Nat.reduceAdd,dp,ai k2,ae,mf,cp]
 refine aj (hc y (by omega)) (by simp [aF]) ?_
 by_cases JO:y=1
 . have dc:decide ((y:Int)=1)=true:=ao (by omega)
   have BF:gz (m+1) p x y=some (p,x):=by rw [gz,if_pos JO]
   have UF:=Fo (x:=x) (by omega)
   have qy:1<=(decDigits x).length:=X4 x
   rw [BF]
   simp only [SS,Nat.reduceAdd,dc,ae,nr]
   refine aj (hf x (by omega)) (by simp [aF]) ?_
   have uV:∀ (t:List UInt8),t.length<=2000->(decide ((t.length:Int)<=40))=decide (t.length<=40):=fun t _=>by by_cases h:t.length<=40<;>simp [h]<;>omega
   simp only [SS,Nat.reduceAdd,aD]
   refine VW.bL (α := Nat × Nat) (fun z=>⟨[RV (a:Int) (b:Int), .ref [0] 0 0, .str [], .bool false, .ref [12] 0 0, .ref [15] 0 0, .ref [18] 0 0, .int .i64 ((p:Nat):Int), .str (List.replicate z.1 48++decDigits x)]++List.replicate 51 .top,fun _=>none,z.2⟩)
     (fun z=>z.1<=p+1-(decDigits x).length) (fun z=>p+1-z.1) (0,nn+1000) ?_ ?_ ?_
   . exact Wk.forget (by simp [Fg,List.replicate]) (fun j => .inl rfl) (by simp only [];omega)
   . exact Nat.zero_le _
   rintro ⟨j,mm⟩ hj
   simp only [] at hj
   have hlen:(List.replicate j (48:UInt8)++decDigits x).length=j+(decDigits x).length:=by rw [List.length_append,List.length_replicate]
   by_cases hlt:j+(decDigits x).length<=p
   . have d1:decide (((j+(decDigits x).length:Nat):Int)<=(p:Int))=true:=ao (by omega)
     have Ea:bo .add .str (.str [48]) (.str (List.replicate j 48++decDigits x))=some (.str (List.replicate (j+1) 48++decDigits x)):=by rw [List.replicate_succ,List.cons_append];exact sU (by rw [hlen];simp [maxLen];omega)
     simp only [SS,Nat.reduceAdd,hlen,d1,Ea]
     exact ⟨(j+1,_),by simp only [];omega,by simp only [];omega,Wk.slots (by simp [Fg,List.replicate]) (Nat.le_refl _)⟩
   . have d1:decide (((j+(decDigits x).length:Nat):Int)<=(p:Int))=false:=ak (by omega)
     have ej:List.replicate j 48++decDigits x=cj p x:=by unfold cj;rw [show p+1-(decDigits x).length=j from by omega]
     have V4:(cj p x).length<=1100:=by unfold cj;rw [List.length_append,List.length_replicate];omega
     rw [<- hlen] at d1
     rw [ej] at d1 ⊢
     by_cases X0:p=0
     . subst X0
       have d2:decide ((0:Int)<((0:Nat):Int))=false:=by decide
       have e0:qk 0 x=cj 0 x:=by unfold cj;rw [show 0+1-(decDigits x).length=0 from by omega];exact if_pos rfl
       rw [e0]
       simp only [SS,Nat.reduceAdd,d1,d2]
       rw [uV _ (by omega)]
       exact ag▸ab rfl (fY _ _)
     . have d2:decide ((0:Int)<(p:Int))=true:=ao (by omega)
       have JV:=uv p x
       have e0:qk p x=(cj p x).take ((cj p x).length-p)++[46]++(cj p x).drop ((cj p x).length-p):=if_neg X0
       have hL:=yb p x X0
       have xI:∀ q:Nat,q<=1100->p<=q->IntKind.i64.wrap ((q:Int)-(p:Int))=((q-p:Nat):Int):=fun q h1 h2=>by rw [IntKind.wrap_i64];omega
       have zP:=xI _ V4 (by omega)
       have b1:=AH (s:=cj p x) (l:=(cj p x).length-p) (by omega)
       have b2:=Fm (s:=cj p x) (l:=(cj p x).length-p) (by omega)
       have zO:bo .add .str (.str ((cj p x).take ((cj p x).length-p))) (.str [46])=some (.str ((cj p x).take ((cj p x).length-p)++[46])):=sU (by rw [List.length_take];simp [maxLen];omega)
       have IP:bo .add .str (.str ((cj p x).take ((cj p x).length-p)++[46])) (.str ((cj p x).drop ((cj p x).length-p)))=some (.str (qk p x)):=by rw [e0];exact sU (by rw [List.length_append,List.length_take,List.length_drop];simp [maxLen];omega)
       simp only [SS,DD,Nat.reduceAdd,d1,d2,zP,b1,b2,zO,IP]
       refine ⟨by simp [ar,apart], ?_⟩
       rw [uV _ (by omega)]
       exact ag▸ab rfl (fY _ _)
 . have dc:decide ((y:Int)=1)=false:=ak (by omega)
   simp only [SS,Nat.reduceAdd,dc,ai k1,ai k3,ae,ql]
   refine aj (hm x y hy JO Wb (by omega) (by omega)) (by simp [fk]) ?_
   simp only [SS,Nat.reduceAdd]
   rw [Fl (k:=4) (x:=(x:Int)) (y:=(y:Int)) (by simp [aa.put])]
   simp only [SS,Nat.reduceAdd]
   obtain ⟨r1,r2,r3,r4⟩:=IM (a:=x) (b:=y) hy
   have hwp:IntKind.i64.wrap ((p:Int)+1)=((p+1:Nat):Int):=by rw [IntKind.wrap_i64];omega
   have X1:ah (10*x/Nat.gcd (10*x) y)<=8+(p+1):=by
     have h1:=cP r3
     have h2:=qh 10 x
     have h3:ah 10<=1:=jg (by decide)
     omega
   have X2:ah (y/Nat.gcd (10*x) y)<=8:=Nat.le_trans (cP r4) hwy
   have X3:gz (m+1) p x y=gz (41-(p+1)) (p+1) (10*x/Nat.gcd (10*x) y) (y/Nat.gcd (10*x) y):=by
     rw [show 41-(p+1)=m from by omega,gz,if_neg JO]
   simp only [hwp]
   refine ⟨(p+1,10*x/Nat.gcd (10*x) y,y/Nat.gcd (10*x) y,nn+1000),⟨by simp only [];omega,r1,r2,X1,X2,X3⟩,by simp only [];omega, ?_⟩
   refine Wk.forget (by simp [Fg]) (fun j => ?_) (by simp only [];omega)
   by_cases h1:j=[15]
   . subst h1;right;simp [aa.put]
   by_cases h2:j=[12]
   . subst h2;right;simp [aa.put]
   by_cases h3:j=[18]
   . subst h3;right;simp [aa.put]
   . left;simp [aa.put,h1,h2,h3]
end
end Go.VL
end

section
set_option maxRecDepth 100000
namespace Go.Proofs.YtcomlgfjnjpebaaGreatDoor
open Go.VL Go.Proofs
section
variable (G:Nat->Option (List AV))
theorem t145:gU Tryz.prog G 145:=fun _ hw hl=>Mv sG hw hl
theorem c95 (n:Nat) (hn:ah n<=1000000):VP Tryz.prog G 95 [W n] (W n):=Fe e9 n hn
theorem Ro:jh Tryz.prog G 141:=Kp xT (t145 G)
theorem MN (n:Nat) (hn:n<18446744073709551616):VP Tryz.prog G 142 [.int .u64 ((n:Nat):Int)] (W n):=Bl vV (t145 G) n hn
theorem Wc (n:Nat) (hn:n<18446744073709551616):VP Tryz.prog G 165 [W n] (.int .u64 ((n:Nat):Int)):=Tryz.toUint_vp G n hn
theorem n166 (a:Int):VP Tryz.prog G 166 [.int .i64 a] (.bool false):=Kh zc a
theorem n195 (a:Int):VP Tryz.prog G 195 [.int .u32 a] (.bool false):=Ed vY a
theorem aaL (a b:Int):VP Tryz.prog G 143 [.int .i64 a, .int .i64 b] (.int .i64 (iZ a b)):=Ki w7 (n166 G) a b
theorem adW (a b:Int):VP Tryz.prog G 167 [.int .u32 a, .int .u32 b] (.int .i64 (iZ a b)):=Ee tW (n195 G) a b
theorem aaM (m n:Nat) (hm:ah m<=1000000) (hn:ah n<=1000000):VP Tryz.prog G 144 [W m,W n] (.int .i64 (gp m n)):=Kj wW (aaL G) (adW G) m n (by omega) (by omega)
theorem adX (m n:Nat) (hm:ah m<=1000000) (hn:ah n<=1000000):VP Tryz.prog G 207 [W m,W n] (W (m+n)):=T7 Aq m n hm hn
theorem adY (m n:Nat) (yf:n<=m) (hm:ah m<=1000000):VP Tryz.prog G 208 [W m,W n] (W (m-n)):=Qu y8 (t145 G) m n yf hm
theorem adZ (m n:Nat) (hm:ah m<=1000000) (hn:ah n<=1000000):VP Tryz.prog G 168 [W m,W n] (W (m*n)):=Qv y9 (t145 G) m n hm hn
theorem d189 (m w:Nat) (hm:ah m<=1000000) (hw:w<au) (h0:w≠0):VP Tryz.prog G 189 [W m, .int .u32 (w:Int)] (.tup [W (m/w),W (m%w)]):=Ef tV (t145 G) (MN G) m w hm hw h0
theorem l90 (x:Nat) (hx:x<au):VP Tryz.prog G 90 [.int .u32 (x:Int)] (.int .i64 (iM x:Int)):=QC w6 x hx
theorem ad0 (x:Nat) (hx:x<au) (h0:0<x):VP Tryz.prog G 190 [.int .u32 (x:Int)] (.int .i64 ((32-iM x:Nat):Int)):=Uc pc (l90 G) x hx h0
theorem d164 (m n:Nat) (tu:n≠0) (hm:ah m<=900000) (hn:ah n<=900000):VP Tryz.prog G 164 [W m,W n] (.tup [W (m/n),W (m%n)]) :=
 NV xU (aaM G) (c95 G) (Wc G) (MN G) (d189 G) (ad0 G) vn (t145 G) vW wX tU m n tu hm hn
theorem X5 (z:Int) (hz:ah z.natAbs<=1000000):VP Tryz.prog G 137 [IV z] (.int .i64 z.sign):=Ud Ar (t145 G) z hz
theorem Rp (a:Int) (h1 : -9223372036854775808<=a) (h2:a<9223372036854775808):VP Tryz.prog G 126 [.int .i64 a] (IV a):=Kq wY (MN G) (Ro G) a h1 h2
theorem n169 (z:Int) (hz:ah z.natAbs<=1000000):VP Tryz.prog G 169 [IV z] (IV (-z)):=Xl BS (t145 G) (c95 G) (Ro G) z hz
theorem aaN (y z:Int) (hy:ah y.natAbs<=1000000) (hz:ah z.natAbs<=1000000):VP Tryz.prog G 146 [IV y,IV z] (IV (y*z)):=Xm BU (t145 G) (adZ G) (Ro G) y z hy hz
theorem ad1 (y z:Int) (hy:ah y.natAbs<=1000000) (hz:ah z.natAbs<=1000000):VP Tryz.prog G 127 [IV y,IV z] (.int .i64 (iZ y z)):=Xn BR (X5 G) (aaL G) (t145 G) (aaM G) y z hy hz
theorem aaO (a b:Int) (GL:b≠0) (ha:ah a.natAbs<=900000) (hb:ah b.natAbs<=900000):VP Tryz.prog G 196 [IV a,IV b] (.tup [IV (a.fdiv b),IV (a.fmod b), .int .i64 0]):=by
 have h:=NS xV (t145 G) (d164 G) (adX G) (adY G) (Ro G) a b GL ha hb
 rw [(QI a b GL).1,(QI a b GL).2] at h;exact h
theorem aaP (a b:Int) (ha:ah a.natAbs<=900000) (hb:ah b.natAbs<=900000):VP Tryz.prog G 139 [IV a,IV b] (IV (Nat.gcd a.natAbs b.natAbs:Nat)):=Xs BV (t145 G) (d164 G) (c95 G) (Ro G) (Wc G) (MN G) a b ha hb
theorem We (neg:Bool) (ws:List Nat) (hl:ws.length<=9223372036854775807):VP Tryz.prog G 136 [IR neg ws] (.bool (iv neg ws)):=NU za neg ws hl
theorem aaQ:VP Tryz.prog G 140 [] (IV 1):=Xo Au (Rp G 1 (by decide) (by decide))
theorem i138 (z:Int):VP Tryz.prog G 138 [IV z] (.bool (decide (z=1))):=QE xW z
theorem ad4 (a b:Int) (GL:b≠0) (ha:ah a.natAbs<=900000) (hb:ah b.natAbs<=900000):VP Tryz.prog G 170 [IV a,IV b] (IV (a.fdiv b)):=Xp Av a b (i138 G b) (aaO G a b GL ha hb)
theorem X6 (a:Int) (h1 : -9223372036854775808<=a) (h2:a<9223372036854775808):VP Tryz.prog G 125 [.int .i64 a] (RV a 1):=Ip vX a (Rp G a h1 h2) (aaQ G)
theorem Wf (a b:Int) (ha:ah a.natAbs<=1000000):VP Tryz.prog G 124 [RV a b] (.int .i64 a.sign):=Iq zb a b (X5 G a ha)
theorem aaR (a b:Int) (GL:b≠0) (ha:ah a.natAbs<=900000) (hb:ah b.natAbs<=900000) :
   VP Tryz.prog G 147 [IV a,IV b] (RV (a.fdiv (if b<0 then -(Nat.gcd a.natAbs b.natAbs:Nat) else (Nat.gcd a.natAbs b.natAbs:Nat))) (b.fdiv (if b<0 then -(Nat.gcd a.natAbs b.natAbs:Nat) else (Nat.gcd a.natAbs b.natAbs:Nat)))):=by
 have UE:0<Nat.gcd a.natAbs b.natAbs:=Nat.gcd_pos_of_pos_right _ (by omega)
 have O7:ah (Nat.gcd a.natAbs b.natAbs)<=900000:=Nat.le_trans (cP (Nat.le_of_dvd (by omega) (Nat.gcd_dvd_right _ _))) hb
 refine NT wZ a b (Nat.gcd a.natAbs b.natAbs:Nat) (aaP G a b ha hb) (n169 G _ (by rw [Int.natAbs_natCast];omega)) ?_
 intro x y hx hy
 have Ui:y≠0:=by rcases hy with rfl | rfl<;>omega
 have hyl:ah y.natAbs<=900000:=by rcases hy with rfl | rfl<;>simpa using O7
 exact ad4 G x y Ui (by rcases hx with rfl | rfl<;>assumption) hyl
theorem ad5 (a b:Nat) (hb:b≠0) (ha:ah a<=1000) (B8:ah b<=1000) :
   VP Tryz.prog G 128 [RV (a:Int) (b:Int),RV 10 1] (RV ((10*a/Nat.gcd (10*a) b:Nat):Int) ((b/Nat.gcd (10*a) b:Nat):Int)):=by
 have Tj:ah 10<=1:=jg (by decide)
 have h1:ah 1<=1:=sS
 have e10:((10:Nat):Int)=10:=rfl
 have GJ:ah ((a:Int)*10).natAbs<=900000:=by
   have:=qh a 10
   rw [show ((a:Int)*10).natAbs=a*10 from by omega];omega
 have ti:ah ((b:Int)*1).natAbs<=900000:=by rw [show ((b:Int)*1).natAbs=b from by omega];omega
 have hl:=aaR G ((a:Int)*10) ((b:Int)*1) (by omega) GJ ti
 have hg:Nat.gcd ((a:Int)*10).natAbs ((b:Int)*1).natAbs=Nat.gcd (10*a) b:=by rw [show ((a:Int)*10).natAbs=10*a from by omega,show ((b:Int)*1).natAbs=b from by omega]
 have hbp : ¬ ((b:Int)*1<0):=by omega
 rw [hg,if_neg hbp] at hl
 have f1:((a:Int)*10).fdiv (Nat.gcd (10*a) b:Nat)=((10*a/Nat.gcd (10*a) b:Nat):Int):=by
   rw [Int.fdiv_eq_ediv_of_nonneg _ (by omega),show (a:Int)*10=((10*a:Nat):Int) from by omega];rfl
 have f2:((b:Int)*1).fdiv (Nat.gcd (10*a) b:Nat)=((b/Nat.gcd (10*a) b:Nat):Int):=by
   rw [Int.fdiv_eq_ediv_of_nonneg _ (by omega),Int.mul_one];rfl
 rw [f1,f2] at hl
 have h:=Uh Aw (a:Int) (b:Int) 10 1 _ rfl (i138 G) (aaN G _ _ (by rw [Int.natAbs_natCast];omega) (by show ah 10<=_;omega)) (aaN G _ _ (by rw [Int.natAbs_natCast];omega) (by show ah 1<=_;omega)) (aaQ G) hl
 by_cases qA:b=1
 . subst qA
   rw [if_pos ⟨rfl,rfl⟩] at h
   rw [Nat.gcd_one_right,Nat.div_one,Nat.div_one,show ((10*a:Nat):Int)=(a:Int)*10 from by omega]
   exact h
 . rw [if_neg (by omega)] at h;exact h
end
end Go.Proofs.YtcomlgfjnjpebaaGreatDoor
end

section
set_option maxRecDepth 100000
namespace Go.Proofs.YtcomlgfjnjpebaaGreatDoor
open Go.VL Go.Proofs
section
variable (G:Nat->Option (List AV))
theorem aaT:Has Tryz.prog 203 dt:=sH
theorem ad6:Has Tryz.prog 183 (jZ 203):=rK
theorem t203:gU Tryz.prog G 203:=fun _ hw hl=>Mv aaT hw hl
theorem KI:jh Tryz.prog G 182:=Kv qC (t203 G)
theorem n185 (z:Int) (hz:ah z.natAbs<=1000000):VP Tryz.prog G 185 [IV z] (IV z):=QV sI (KI G) z hz
theorem X7 (z:Int) (hz:ah z.natAbs<=1000000):VP Tryz.prog G 179 [IV z] (.int .i64 z.sign):=NZ sL (n185 G) z hz
theorem aaU (n:Nat) (hn:n<18446744073709551616):VP Tryz.prog G 183 [.int .u64 ((n:Nat):Int)] (W n):=Bl ad6 (t203 G) n hn
theorem Rq (a:Int) (h1 : -9223372036854775808<=a) (h2:a<9223372036854775808):VP Tryz.prog G 160 [.int .i64 a] (IV a):=N3 qc (aaU G) (KI G) a h1 h2
theorem X8 (m n:Nat) (hm:ah m<=1000000) (hn:ah n<=1000000):VP Tryz.prog G 184 [W m,W n] (.int .i64 (gp m n)):=IC qd m n hm hn
theorem ad7 (m n:Nat) (hm:ah m<=1000000) (hn:ah n<=1000000):VP Tryz.prog G 224 [W m,W n] (W (m+n)):=QX sJ (t203 G) m n hm hn
theorem ad8 (m n:Nat) (yf:n<=m) (hm:ah m<=1000000):VP Tryz.prog G 217 [W m,W n] (W (m-n)):=Fj l9 (t203 G) m n yf hm
theorem aaV (m:Nat) (ws:List Nat) (hw:Wd ws) (hm:ah m<=1000000) (hl:ws.length<=1000000):VP Tryz.prog G 205 [W m, .sl 1 (us ws)] (W (m*val ws)):=Dg ma (t203 G) m hw hm hl
theorem ad9 (m n:Nat) (hm:ah m<=1000000) (hn:ah n<=1000000):VP Tryz.prog G 205 [W m,W n] (W (m*n)):=N4 ma (t203 G) m n hm hn
theorem aaW (m w:Nat) (hm:ah m<=1000000) (hw:w<au) (h0:w≠0):VP Tryz.prog G 186 [W m, .int .u32 (w:Int)] (.tup [W (m/w), .int .u32 ((m%w:Nat):Int)]):=XN vp (t203 G) m w hm hw h0
theorem aaX (n:Nat) (hn:n<18446744073709551616):VP Tryz.prog G 213 [W n] (.int .u64 (n:Int)):=QW rL n hn
theorem aaY (m s:Nat) (hm:ah m<=1000000) (hs:s<=31):VP Tryz.prog G 218 [W m, .int .i64 (s:Int)] (W (m/2 ^ s)):=Ur sK (t203 G) m s hm hs
theorem d204 (m n:Nat) (tu:n≠0) (hm:ah m<=900000) (hn:ah n<=900000):VP Tryz.prog G 204 [W m,W n] (.tup [W (m/n),W (m%n)]) :=
 Kz qE (X8 G) (aaX G) (aaU G) (aaW G) qD qe (t203 G) aaT rM (aaV G) l9 (aaY G) m n tu hm hn
theorem aaZ (z:Int) (hz:ah z.natAbs<=1000000):VP Tryz.prog G 223 [IV z] (IV (-z)):=Uo tX (KI G) z hz
theorem aea (a b:Int) (ha:ah a.natAbs<=1000000) (hb:ah b.natAbs<=1000000):VP Tryz.prog G 220 [IV a,IV b] (IV (a+b)):=Uu tY (n185 G) (ad7 G) (KI G) (X8 G) (ad8 G) a b ha hb
theorem aa0 (a b:Int) (ha:ah a.natAbs<=1000000) (hb:ah b.natAbs<=1000000):VP Tryz.prog G 219 [IV a,IV b] (IV (a-b)):=Uv tZ (aaZ G) (aea G) a b ha hb
theorem Wh (a b:Int) (ha:ah a.natAbs<=1000000) (hb:ah b.natAbs<=1000000):VP Tryz.prog G 187 [IV a,IV b] (IV (a*b)):=Q5 ua (n185 G) (ad9 G) (KI G) a b ha hb
theorem aa1 (a b:Nat) (GL:b≠0) (ha:ah a<=900000) (hb:ah b<=900000):VP Tryz.prog G 206 [IV (a:Int),IV (b:Int)] (.tup [IV ((a/b:Nat):Int),IV ((a%b:Nat):Int), .int .i64 0]) :=
 KA qF (n185 G) (d204 G) (KI G) (Wh G) (aa0 G) (X7 G) a b GL ha hb
theorem X9 (a b:Int) (ha:ah a.natAbs<=900000) (hb:ah b.natAbs<=900000):VP Tryz.prog G 181 [IV a,IV b] (IV (Nat.gcd a.natAbs b.natAbs:Nat)):=Uw ub (t203 G) (d204 G) (KI G) a b ha hb
theorem f162 (n:Nat) (hn:ah n<=1000000):VP Tryz.prog G 162 [IV (n:Int)] (.str (Lib.decDigits n)):=KD qG (n185 G) (aaW G) n hn
theorem aa2 (a b:Int) (ha:ah a.natAbs<=1000000) (hb:ah b.natAbs<=1000000):VP Tryz.prog G 161 [IV a,IV b] (.bool (decide (a=b))):=Q6 sM (X8 G) a b ha hb
theorem Wi (neg:Bool) (ws:List Nat) (hw:Wd ws) (hl:ws.length<=9223372036854775807):VP Tryz.prog G 178 [IR neg ws] (.bool (iv neg ws)):=KB rJ (t203 G) neg ws hw hl
theorem aeb (a b:Nat) (GL:b≠0) (ha:ah a<=900000) (hb:ah b<=900000):VP Tryz.prog G 188 [IV (a:Int),IV (b:Int)] (IV ((a/b:Nat):Int)):=Q7 uc a b (aa1 G a b GL ha hb)
theorem Rr (a:Int) (h1 : -9223372036854775808<=a) (h2:a<9223372036854775808):VP Tryz.prog G 159 [.int .i64 a] (RV a 1):=Gj qf a (Rq G a h1 h2) (Rq G 1 (by decide) (by decide))
theorem Wj (z:Int):VP Tryz.prog G 180 [IV z] (.bool (decide (z=1))):=Q8 ud z
theorem aec:Has Tryz.prog 158 (ml 179):=sO
theorem Wl (a b:Int) (ha:ah a.natAbs<=1000000):VP Tryz.prog G 158 [RV a b] (.int .i64 a.sign):=Iq aec a b (X7 G a ha)
theorem aed:Has Tryz.prog 157 (lH 178 179 181 180):=rN
theorem aee (a b:Nat) (hb:b≠0) (qA:b≠1) (hg:Nat.gcd a b=1) (ha:ah a<=1000) (B8:ah b<=1000) :
   VP Tryz.prog G 163 [RV (a:Int) (b:Int),RV 10 1] (RV ((10*a/Nat.gcd (10*a) b:Nat):Int) ((b/Nat.gcd (10*a) b:Nat):Int)):=by
 have Tj:ah 10<=1:=jg (by decide)
 have h1:ah 1<=1:=sS
 have YV:a≠0:=fun e=>by rw [e,Nat.gcd_zero_left] at hg;exact qA hg
 have DX:Nat.gcd (10*a) b=Nat.gcd 10 b:=Nat.Coprime.gcd_mul_right_cancel 10 hg
 have aef:Nat.gcd 10 b<=10:=Nat.le_of_dvd (by decide) (Nat.gcd_dvd_left _ _)
 have hgp:0<Nat.gcd 10 b:=Nat.gcd_pos_of_pos_left _ (by decide)
 have O7:ah (Nat.gcd 10 b)<=1:=Nat.le_trans (cP aef) Tj
 have hm:∀ x y m n:Nat,x<=m->y<=n->ah m<=1000->ah n<=1000->VP Tryz.prog G 187 [IV (x:Int),IV (y:Int)] (IV ((x*y:Nat):Int)):=fun x y m n hx hy hm hn=>by
   have q1:=cP hx
   have q2:=cP hy
   have:=Wh G (x:Int) (y:Int) (by rw [Int.natAbs_natCast];omega) (by rw [Int.natAbs_natCast];omega)
   rwa [<- Int.natCast_mul] at this
 have hqy:∀ y,(y=Nat.gcd a 1∨y=Nat.gcd 10 b)->y≠0/\ah y<=900000:=by
   rintro y (rfl | rfl)
   . rw [Nat.gcd_one_right];exact ⟨by decide,by omega⟩
   . exact ⟨by omega,by omega⟩
 have h:=Q9 ue a b 10 1 (by decide) (Rr G 0 (by decide) (by decide)) (Wj G) (fun x y hx hy=>hm x y a 10 hx hy (by omega) (by omega)) (fun x y hx hy=>hm x y b 1 hx hy (by omega) (by omega))
   (X9 G (a:Int) (1:Nat) (by rw [Int.natAbs_natCast];omega) (by show ah 1<=_;omega)) (X9 G (10:Nat) (b:Int) (by show ah 10<=_;omega) (by rw [Int.natAbs_natCast];omega))
   (fun x y hx hy=>aeb G x y (hqy y hy).1 (by rcases hx with rfl | rfl | rfl | rfl<;>omega) (hqy y hy).2)
 rw [if_neg YV,if_neg (fun e=>qA e.1),Nat.gcd_one_right,Nat.div_one,Nat.div_one,Nat.mul_one] at h
 have e:10*a/Nat.gcd (10*a) b=a*(10/Nat.gcd 10 b):=by
   rw [DX,Nat.mul_comm 10 a,Nat.mul_div_assoc _ (Nat.gcd_dvd_left _ _)]
 rw [e,DX]
 exact h
end
end Go.Proofs.YtcomlgfjnjpebaaGreatDoor
end

section
namespace Go.VL
structure MO (w w':World) (g:Nat) (row:List Value):Prop where
 os:w'.os=w.os
 tape:w'.tape=w.tape
 output:w'.output=w.output
 size:w.heap.size<=w'.heap.size
 other:∀ k,k<w.heap.size->k≠g->w'.heap[k]? = w.heap[k]?
 here:∀ cur ty,w.heap[g]? = some (.cells cur ty (0,0))->∃ zS,w'.heap[g]? = some (.cells zS ty (0,0))/\zS.size=cur.size/\∀ (j:Nat) v,row[j]? = some v->zS[j]? = some v
theorem AJ:∀ {es:List AV},(∀ e∈es,e.cells=[e])->flat es=es
 | [],_=>rfl
 | e::es,h=>by
   have h1:flat (e::es)=e.cells++flat es:=rfl
   rw [h1,h e (by simp),AJ fun x hx=>h x (by simp [hx])];rfl
theorem aB.Dl {P:Program} {G:Nat->Option (List AV)} {f:FuncId} {fn:Func} (hf:P.funcs[f]? = some fn) (sw:(fn.name == "runtime.NumGoroutine")=false) (hb:fn.body.isSome=true) {id p:Id} (hid : ¬ p <:+ id)
   {es es':List AV} (hlen:es'.length=es.length) (hc':∀ e∈es',e.cells=[e]) (hc:∀ e∈es,e.cells=[e]) {val:AV} {row:List Value} (rh:∀ E w,aM E w es' row)
   (hval:∀ E w (g N cap:Nat),E.μ id=some (g,1,N)->es.length<=cap->cap=N->N<=maxLen->∀ v,(v=Value.tuple #[]/\val = .tup [])∨(∃ m,m<=es.length/\v = .slice (some ⟨g,0,none⟩) m cap/\val = .osl id 1 0 m false)->aL E w val v)
   (h:∀ (w:World) (g cap:Nat) (cur:Array Value) (ty:TypeId) (E:Env),w.heap[g]? = some (.cells cur ty (0,0))->es.length<=cap->cap<=maxLen->(∀ (j:Nat) c,es[j]? = some c->∃ v,cur[j]? = some v/\aL E w c v) ->
     Calls P f #[.slice (some ⟨g,0,none⟩) es.length cap] w fun e w'=>∃ v,e = .returned v/\((v=Value.tuple #[]/\val = .tup [])∨(∃ m,m<=es.length/\v = .slice (some ⟨g,0,none⟩) m cap/\val = .osl id 1 0 m false))/\MO w w' g row) :
   aB P G f [.osl id 1 0 es.length false] p [(id,⟨es,1,false⟩)] { val:=val,rd:=[id],up:=[(id,some ⟨es',1,false⟩)] }:=by
 refine ⟨⟨fn,hf,sw,hb⟩,fun own E w σ vs hS hi hr _ => ?_⟩
 have hσ : σ id=some ⟨es,1,false⟩:=hS (id,⟨es,1,false⟩) (by simp)
 obtain ⟨g,N,cur,ty,hB⟩:=hi.blk id _ hσ
 simp only [aM,aL] at hr
 obtain ⟨v,_,rfl,⟨g',N',cap,hm,rfl,hle,afG,hN,Cm⟩,rfl⟩:=hr
 rw [hB.μ] at hm
 simp only [Option.some.injEq,Prod.mk.injEq] at hm
 obtain ⟨rfl,_,rfl⟩:=hm
 simp only [Bool.false_eq_true,if_false,Nat.zero_add] at Cm
 subst Cm
 have Nh:∀ (j:Nat) c,es[j]? = some c->∃ v,cur[j]? = some v/\aL E w c v:=fun j c hj=>by
   have h1:=hB.row j c (by show (flat es)[j]? = some c;rw [AJ hc];exact hj)
   rw [Nat.zero_add] at h1
   obtain ⟨v,hv,wT⟩:=h1
   refine ⟨v, ?_,wT⟩
   have:=hv
   unfold World.cell? at this
   rw [show ((⟨g,j,none⟩:Addr)).block=g from rfl,hB.heap] at this
   simpa using this
 refine (h w g cap cur ty E hB.heap hle hN Nh).mono ?_
 rintro e w' ⟨v,rfl,hv,hR⟩
 obtain ⟨zS,Wm,hsz,aa3⟩:=hR.here cur ty hB.heap
 have hno:=hB.no rfl
 have hs:Step E E w w':=⟨fun _ _ h=>h,fun _ h=>h,fun b hb=>hR.other b (hi.okb b hb) (fun e=>hno (e▸hb))⟩
 have gr:Adv own E E w w':=⟨hs,hR.os,hR.tape,hR.output,hR.size,fun k hk hnk=>hR.other k hk (fun e=>hnk (e▸hB.own)),fun _ h => .inl h⟩
 refine ⟨v,E,rfl,gr,⟨fun b hb=>Nat.lt_of_lt_of_le (hi.okb b hb) hR.size, ?_, ?_, ?_,fun k hk=>hi.new k (Nat.le_trans hR.size hk)⟩,hval E w' g cap cap hB.μ hle rfl hN v hv,fun _ _=>rfl⟩
 . intro i BB jc
   by_cases dr:i=id
   . subst dr
     simp only [aa.app,aa.bb,Option.some.injEq] at jc
     subst jc
     refine ⟨g,cap,zS,ty,hB.μ,Wm,by rw [hsz];exact hB.size,by show es'.length<=cap;omega,hB.most,hB.own,by simp,hB.no, ?_, ?_⟩
     . intro e he;show e.cells.length=1;rw [hc' e he];rfl
     . intro j c hj
       have hj':es'[j]? = some c:=by
         have:flat es'=es':=AJ hc'
         rw [<- this];exact hj
       obtain ⟨v,hv,wT⟩:=(bz.1 (rh E w')).2 j c hj'
       refine ⟨v, ?_,wT⟩
       unfold World.cell?
       rw [Nat.zero_add,show ((⟨g,j,none⟩:Addr)).block=g from rfl,Wm]
       simpa using aa3 j v hv
   . simp only [aa.app] at jc
     rw [aa.bd _ _ _ dr] at jc
     obtain ⟨g2,N2,WC,ty2,uI⟩:=hi.blk i BB jc
     have hne:g2≠g:=hi.inj i id _ _ (by rw [jc];simp) (by rw [hσ];simp) dr uI.μ hB.μ
     exact ⟨g2,N2,WC,ty2,uI.keep hs (hR.other g2 (dH uI.heap) hne) uI.no⟩
 . intro i j x y jc hj' Ka hx hy
   refine hi.inj i j x y ?_ ?_ Ka hx hy
   . by_cases dr:i=id
     . subst dr;rw [hσ];simp
     . simpa [aa.app,aa.bd _ _ _ dr] using jc
   . by_cases dr:j=id
     . subst dr;rw [hσ];simp
     . simpa [aa.app,aa.bd _ _ _ dr] using hj'
 . intro g cs hg
   obtain ⟨h1,h2⟩:=hi.glob g cs hg
   exact ⟨h1,cm.keep hs.bare (hs.same g h1) cs 0 h2⟩
end Go.VL
end

section
namespace Go.Proofs
open Go.VL Go.RowKit Go.Sort
theorem Ei {w:World} {g:Nat} {f:Array Value->Array Value} {cur:Array Value} {ty:TypeId} {fr:Nat × Nat} (h:w.heap[g]? = some (.cells cur ty fr)):(mapBlock w g f).heap[g]? = some (.cells (f cur) ty fr):=by
 unfold mapBlock
 simp only [Array.getElem?_modify,if_true,h,Option.map_some];rfl
theorem Dm {w:World} {g k:Nat} {f:Array Value->Array Value} (h:k≠g):(mapBlock w g f).heap[k]? = w.heap[k]? := by
 unfold mapBlock
 simp only [Array.getElem?_modify,if_neg (Ne.symm h)]
theorem Bq {w:World} {g n:Nat} {os:Array Obj} {l':List (List UInt8)} {cap:Nat} (hl:∀ cur ty,w.heap[g]? = some (.cells cur ty (0,0))->l'.length<=cur.size) (hg:g<w.heap.size) :
   MO w (grow (putRow encStr (Go.Sort.ahead w n) g 0 l'.toArray) os) g (l'.map encStr):=by
 have hsz:(putRow encStr (Go.Sort.ahead w n) g 0 l'.toArray).heap.size=w.heap.size:=by rw [size_putRow];rfl
 have hold:∀ k,k<w.heap.size->(grow (putRow encStr (Go.Sort.ahead w n) g 0 l'.toArray) os).heap[k]? = (putRow encStr (Go.Sort.ahead w n) g 0 l'.toArray).heap[k]? := fun k hk=>by
   show ((putRow encStr (Go.Sort.ahead w n) g 0 l'.toArray).heap++os)[k]? = _
   rw [Array.getElem?_append_left (by omega)]
 refine ⟨rfl,rfl,rfl, ?_,fun k hk hne => ?_,fun cur ty hc => ?_⟩
 . show w.heap.size<=((putRow encStr (Go.Sort.ahead w n) g 0 l'.toArray).heap++os).size
   rw [Array.size_append];omega
 . rw [hold k hk];exact Dm hne
 . refine ⟨putCells encStr 0 l'.toArray cur, ?_,by simp [putCells],fun j v hj => ?_⟩
   . rw [hold g hg];exact Ei (w:=Go.Sort.ahead w n) hc
   . have FM:=hl cur ty hc
     rw [List.getElem?_map] at hj
     cases hs:l'[j]? with
     | none=>rw [hs] at hj;cases hj
     | some s =>
       rw [hs] at hj
       simp only [Option.map_some,Option.some.injEq] at hj
       subst hj
       have nH:j<l'.length:=(List.getElem?_eq_some_iff.1 hs).1
       have hjc:j<cur.size:=by omega
       simp only [putCells,Array.getElem?_mapIdx,Array.getElem?_eq_getElem hjc,Option.map_some,Nat.zero_le,true_and,Nat.zero_add,List.size_toArray,nH,if_true,Nat.sub_zero]
       congr 1
       rw [getElem!_pos l'.toArray j (by simpa using nH)]
       simp only [List.getElem_toArray]
       rw [List.getElem?_eq_getElem nH] at hs
       exact congrArg encStr (Option.some.inj hs)
theorem mB:∀ {l:List (List UInt8)},∀ e∈l.map AV.str,e.cells=[e]:=fun e he=>by obtain ⟨s,_,rfl⟩:=List.mem_map.1 he;rfl
theorem Dn (E:Env) (w:World):∀ l:List (List UInt8),aM E w (l.map AV.str) (l.map encStr)
 | []=>rfl
 | s::l=>by
   simp only [List.map_cons,aM,aL]
   exact ⟨_,_,rfl,rfl,Dn E w l⟩
theorem holds_of {w:World} {g:Nat} {l:List (List UInt8)} {cur:Array Value} {ty:TypeId} {E:Env} (hc:w.heap[g]? = some (.cells cur ty (0,0))) (h:∀ (j:Nat) c,(l.map AV.str)[j]? = some c->∃ v,cur[j]? = some v/\aL E w c v):Holds encStr w g 0 l.toArray:=by
 intro j hj
 have nH:j<l.length:=by simpa using hj
 obtain ⟨v,hv,hr⟩:=h j (.str l[j]) (by rw [List.getElem?_map,List.getElem?_eq_getElem nH];rfl)
 simp only [aL] at hr
 subst hr
 refine ⟨?_, ?_⟩
 . unfold World.cell?
   rw [show ((⟨g,0+j,none⟩:Addr)).block=g from rfl,hc,getElem!_pos l.toArray j hj]
   simpa using hv
 . unfold World.frozen?
   rw [show ((⟨g,0+j,none⟩:Addr)).block=g from rfl,hc]
   simp
theorem Rs {l:List (List UInt8)} {cur:Array Value} {E:Env} {w:World} (h:∀ (j:Nat) c,(l.map AV.str)[j]? = some c->∃ v,cur[j]? = some v/\aL E w c v):l.length<=cur.size:=by
 rcases Nat.lt_or_ge cur.size l.length with hlt | th
 . obtain ⟨v,hv,_⟩:=h cur.size (.str (l[cur.size])) (by rw [List.getElem?_map,List.getElem?_eq_getElem hlt];rfl)
   simp at hv
 . exact th
def Dp (l:List (List UInt8)):List (List UInt8):=l.mergeSort fun x y=>decide (x<=y)
theorem Fp (l:List (List UInt8)):(Dp l).length=l.length:=List.length_mergeSort _
theorem Br (l:List (List UInt8)):(Lib.compact l).length<=l.length:=by
 unfold Lib.compact Lib.compactUpTo
 rw [List.length_map]
 exact Nat.le_trans (List.length_filter_le _ _) (by rw [List.length_range];exact Nat.le_refl _)
theorem Tryz.Rt (G:Nat->Option (List AV)) (l:List (List UInt8)) (hl:l.length<=1000000) {id p:VL.Id} (hid : ¬ p <:+ id) :
   aB Tryz.prog G 31 [.osl id 1 0 l.length false] p [(id,⟨l.map .str,1,false⟩)] { val := .tup [],rd:=[id],up:=[(id,some ⟨(Dp l).map .str,1,false⟩)] }:=by
 have hm:(l.map AV.str).length=l.length:=List.length_map _
 have:=aB.Dl (G:=G) (P:=Tryz.prog) Tryz.func31 (by kernel_rfl) (by kernel_rfl) hid (es:=l.map .str) (es':=(Dp l).map .str) (by rw [List.length_map,List.length_map,Fp]) mB mB (val := .tup []) (row:=(Dp l).map encStr) (fun E w=>Dn E w _)
   (fun E w g N cap _ _ _ _ v hv=>by
     rcases hv with ⟨rfl,_⟩ | ⟨_,_,_,h⟩
     . simp only [aL];exact ⟨#[],rfl,by simp [aM]⟩
     . cases h)
   (fun w g cap cur ty E hc hle Cm Nh=>by
     rw [hm]
     refine (Tryz.slices_Sort_string g 0 cap l w (holds_of hc Nh) (dH hc) (by omega)).mono ?_
     rintro e w' ⟨rfl,n,os,rfl⟩
     refine ⟨_,rfl, .inl ⟨rfl,rfl⟩,Bq (cap:=cap) (fun zS Lg hc' => ?_) (dH hc)⟩
     rw [hc] at hc'
     simp only [Option.some.injEq,Obj.cells.injEq] at hc'
     rw [<- hc'.1]
     have:=Rs Nh
     rw [List.length_mergeSort];exact this)
 rwa [hm] at this
theorem Tryz.IU (G:Nat->Option (List AV)) (l:List (List UInt8)) (hl:l.length<=1000000) {id p:VL.Id} (hid : ¬ p <:+ id) :
   aB Tryz.prog G 32 [.osl id 1 0 l.length false] p [(id,⟨l.map .str,1,false⟩)]
     { val := .osl id 1 0 (Lib.compact l).length false,rd:=[id],up:=[(id,some ⟨(Lib.compact l++List.replicate (l.length-(Lib.compact l).length) []).map .str,1,false⟩)] }:=by
 have hm:(l.map AV.str).length=l.length:=List.length_map _
 have uT:(Lib.compact l).length<=l.length:=Br l
 have:=aB.Dl (G:=G) (P:=Tryz.prog) Tryz.func32 (by kernel_rfl) (by kernel_rfl) hid (es:=l.map .str) (es':=(Lib.compact l++List.replicate (l.length-(Lib.compact l).length) []).map .str)
   (by rw [List.length_map,List.length_map,List.length_append,List.length_replicate];omega) mB mB (val := .osl id 1 0 (Lib.compact l).length false) (row:=(Lib.compact l++List.replicate (l.length-(Lib.compact l).length) []).map encStr) (fun E w=>Dn E w _)
   (fun E w g N cap hμ hle hcN hN v hv=>by
     rcases hv with ⟨_,h⟩ | ⟨m,GI,rfl,h⟩
     . cases h
     . simp only [AV.osl.injEq,true_and,and_true] at h
       subst h
       simp only [aL]
       refine ⟨g,N,cap,hμ,by simp,by rw [hm] at hle;omega,by omega,hN,by simp;omega⟩)
   (fun w g cap cur ty E hc hle Cm Nh=>by
     rw [hm]
     refine (Tryz.slices_Compact_string g 0 cap l w (holds_of hc Nh) (by omega) (by rw [hm] at hle;exact hle)).mono ?_
     rintro e w' ⟨rfl,q,rfl⟩
     refine ⟨_,rfl, .inr ⟨_,uT,rfl,rfl⟩, ?_⟩
     have hr:=Bq (w:=w) (g:=g) (n:=q) (os := #[]) (l':=Lib.compact l++List.replicate (l.length-(Lib.compact l).length) []) (cap:=cap) (fun zS Lg hc' => ?_) (dH hc)
     . rwa [grow_empty] at hr
     . rw [hc] at hc'
       simp only [Option.some.injEq,Obj.cells.injEq] at hc'
       rw [<- hc'.1]
       have:=Rs Nh
       rw [List.length_append,List.length_replicate];omega)
 rwa [hm] at this
theorem Tryz.Ya (G:Nat->Option (List AV)) {m:Int} (hG:G 1=some [.int .i64 m]) (s:List UInt8) (hs:s.length<4294967281) :
   VP Tryz.prog G 30 [.str s, .str [47]] (.tup [.str (Lib.cut s [47]).1, .str (Lib.cut s [47]).2.1, .bool (Lib.cut s [47]).2.2]):=by
 refine VP.wJ (r:={ val := .tup [.str (Lib.cut s [47]).1, .str (Lib.cut s [47]).2.1, .bool (Lib.cut s [47]).2.2] }) (aB.vJ Tryz.func30 (by kernel_rfl) (by kernel_rfl) ?_) ?_
 . intro own E w σ vs _ hi hr
   simp only [aM] at hr
   obtain ⟨v,_,rfl,rfl,v2,_,rfl,rfl,rfl⟩:=hr
   have hg:=(hi.glob 1 _ hG).2
   simp only [cm,aL] at hg
   obtain ⟨⟨v,hv,rfl⟩,_⟩:=hg
   refine (Tryz.strings_Cut ⟨s.toArray⟩ ⟨#[47]⟩ m w (by rw [Lib.size_eq];exact hs) hv).mono ?_
   rintro e w' ⟨rfl,n,rfl⟩
   refine ⟨_,rfl,⟨rfl,rfl,rfl,Nat.le_refl _,fun _ _=>rfl⟩,fun E w => ?_⟩
   simp [aL,aM]
 . intro E w E' w' v h
   simpa [aL,aM] using h
end Go.Proofs
end

section
set_option linter.unusedVariables false
namespace Go.VL
open Go.Lib
def MP (n1:Bool) (w1:List Nat) (n2:Bool) (w2:List Nat):Bool:=iv n1 w1&&iv n2 w2&&decide (0<jB n2 (val w2))&&decide (((Nat.gcd (val w1) (val w2):Nat):Int)=1)
def Ej (lim:Nat) (n1:Bool) (w1:List Nat) (n2:Bool) (w2:List Nat):AV:=if MP n1 w1 n2 w2=true /\ ¬ jB n1 (val w1)<0 then uu lim (val w1) (val w2) else .tup [.str [], .bool false]
def oD (n1:Bool) (w1:List Nat) (n2:Bool) (w2:List Nat):Bool:=MP n1 w1 n2 w2 && !decide (jB n1 (val w1)<0)&&Bp 40 (val w1) (val w2)
theorem Gm (lim a b:Nat):∃ s,uu lim a b = .tup [.str s, .bool (Bp lim a b)]:=by
 unfold uu Bp
 cases gz lim 0 a b with
 | none=>exact ⟨_,rfl⟩
 | some x=>exact ⟨_,rfl⟩
theorem Dq (lim:Nat) (n1:Bool) (w1:List Nat) (n2:Bool) (w2:List Nat) (hl:∀ a b,Bp lim a b=Bp 40 a b):∃ s,Ej lim n1 w1 n2 w2 = .tup [.str s, .bool (oD n1 w1 n2 w2)]:=by
 unfold Ej oD
 by_cases h:MP n1 w1 n2 w2=true /\ ¬ jB n1 (val w1)<0
 . rw [if_pos h]
   obtain ⟨s,e⟩:=Gm lim (val w1) (val w2)
   refine ⟨s, ?_⟩
   rw [e,hl,h.1];simp [h.2]
 . rw [if_neg h]
   refine ⟨_,congrArg (fun b=>AV.tup [.str [], .bool b]) ?_⟩
   by_cases h1:MP n1 w1 n2 w2=true
   . have:jB n1 (val w1)<0:=Decidable.byContradiction fun e=>h ⟨h1,e⟩
     simp [this]
   . simp [h1]
theorem Ru {n1:Bool} {w1:List Nat} {n2:Bool} {w2:List Nat} (uJ:Wd w1) (wN:Wd w2) (h:MP n1 w1 n2 w2=true) :
   RR n1 w1 n2 w2=RV (jB n1 (val w1)) ((val w2:Nat):Int)/\val w2≠0/\Nat.gcd (val w1) (val w2)=1:=by
 unfold MP at h
 simp only [Bool.and_eq_true,decide_eq_true_eq] at h
 obtain ⟨⟨⟨h1,h2⟩,h3⟩,h4⟩:=h
 have e1:=MC uJ h1
 have e2:=MC wN h2
 have e3:jB n2 (val w2)=((val w2:Nat):Int):=by
   cases n2
   . exact nW _
   . simp [jB] at h3;omega
 rw [e3] at e2 h3
 refine ⟨?_,by omega,by omega⟩
 unfold IR IV at e1 e2
 simp only [AV.agg.injEq,List.cons.injEq,and_true] at e1 e2
 unfold RR RV
 rw [e1.1,e1.2,e2.1,e2.2]
theorem eB (n1:Bool) (w1:List Nat) (n2:Bool) (w2:List Nat):af (RR n1 w1 n2 w2):=af.agg (by intro c hc;simp at hc;rcases hc with rfl | rfl | rfl | rfl;exact af.bool _;exact kO _;exact af.bool _;exact kO _)
section
variable {P:Program} {G:Nat->Option (List AV)}
theorem KJ {f fV fS UG fI fC fM fF fR:FuncId} (h:Has P f (gi fV fS UG fI fC fM fF fR)) (n1:Bool) (w1:List Nat) (n2:Bool) (w2:List Nat) (uJ:Wd w1) (wN:Wd w2) (mO:w1.length<=8) (uH:w2.length<=8)
   (hv:VP P G fV [RR n1 w1 n2 w2] (.bool (MP n1 w1 n2 w2))) (hs:∀ a b:Int,ah a.natAbs<=1000->VP P G fS [RV a b] (.int .i64 a.sign))
   (hgo:∀ a b:Nat,b≠0->Nat.gcd a b=1->ah a<=8->ah b<=8->VP P G fV [RV (a:Int) (b:Int)] (.bool true)->VP P G f [RV (a:Int) (b:Int)] (uu 40 a b)) :
   VP P G f [RR n1 w1 n2 w2] (Ej 40 n1 w1 n2 w2):=by
 have Yb:ah (val w1)<=8:=Nat.le_trans (sT uJ) mO
 have Yc:ah (val w2)<=8:=Nat.le_trans (sT wN) uH
 by_cases hr:MP n1 w1 n2 w2=true
 . obtain ⟨e,GL,hg⟩:=Ru uJ wN hr
   by_cases hn:jB n1 (val w1)<0
   . unfold Ej
     rw [if_neg (fun q=>q.2 hn)]
     rw [e,hr] at hv
     rw [e]
     have lY:=hs (jB n1 (val w1)) ((val w2:Nat):Int) (by cases n1<;>simp [jB]<;>omega)
     have d0:decide ((jB n1 (val w1)).sign<0)=true:=ao (by rw [Int.sign_eq_neg_one_of_neg hn];decide)
     refine VP.has h ?_
     simp only [gi,SS,Nat.reduceAdd,x8,ae,ql]
     refine aj hv (by simp [fk]) ?_
     simp only [SS,Nat.reduceAdd,ae,ql]
     refine aj lY (by simp [fk]) ?_
     simp only [SS,Nat.reduceAdd,d0]
     exact ag▸ab rfl (fY _ _)
   . unfold Ej
     rw [if_pos ⟨hr,hn⟩]
     have e1:jB n1 (val w1)=((val w1:Nat):Int):=by
       cases n1
       . exact nW _
       . simp [jB] at hn ⊢;omega
     rw [e,e1,hr] at hv
     rw [e,e1]
     exact hgo _ _ GL hg Yb Yc hv
 . unfold Ej
   rw [if_neg (fun q=>hr q.1)]
   have zX:MP n1 w1 n2 w2=false:=by simpa using hr
   rw [zX] at hv
   refine VP.has h ?_
   simp only [gi,SS,Nat.reduceAdd,Dc,ae,Rn]
   refine aj hv (by simp [eB]) ?_
   simp only [SS,Nat.reduceAdd]
   exact ag▸ab rfl (fY _ _)
theorem IW {f fV fS UG fI fE fF fM:FuncId} (h:Has P f (dv fV fS UG fI fE fF fM)) (n1:Bool) (w1:List Nat) (n2:Bool) (w2:List Nat) (uJ:Wd w1) (wN:Wd w2) (mO:w1.length<=8) (uH:w2.length<=8)
   (hv:VP P G fV [RR n1 w1 n2 w2] (.bool (MP n1 w1 n2 w2))) (hs:∀ a b:Int,ah a.natAbs<=1000->VP P G fS [RV a b] (.int .i64 a.sign))
   (hgo:∀ a b:Nat,b≠0->Nat.gcd a b=1->ah a<=8->ah b<=8->VP P G fV [RV (a:Int) (b:Int)] (.bool true)->VP P G f [RV (a:Int) (b:Int)] (uu 41 a b)) :
   VP P G f [RR n1 w1 n2 w2] (Ej 41 n1 w1 n2 w2):=by
 have Yb:ah (val w1)<=8:=Nat.le_trans (sT uJ) mO
 have Yc:ah (val w2)<=8:=Nat.le_trans (sT wN) uH
 by_cases hr:MP n1 w1 n2 w2=true
 . obtain ⟨e,GL,hg⟩:=Ru uJ wN hr
   by_cases hn:jB n1 (val w1)<0
   . unfold Ej
     rw [if_neg (fun q=>q.2 hn)]
     rw [e,hr] at hv
     rw [e]
     have lY:=hs (jB n1 (val w1)) ((val w2:Nat):Int) (by cases n1<;>simp [jB]<;>omega)
     have d0:decide ((jB n1 (val w1)).sign<0)=true:=ao (by rw [Int.sign_eq_neg_one_of_neg hn];decide)
     refine VP.has h ?_
     simp only [dv,SS,Nat.reduceAdd,x8,ae,ql]
     refine aj hv (by simp [fk]) ?_
     simp only [SS,Nat.reduceAdd,ae,ql]
     refine aj lY (by simp [fk]) ?_
     simp only [SS,Nat.reduceAdd,d0]
     exact ag▸ab rfl (fY _ _)
   . unfold Ej
     rw [if_pos ⟨hr,hn⟩]
     have e1:jB n1 (val w1)=((val w1:Nat):Int):=by
       cases n1
       . exact nW _
       . simp [jB] at hn ⊢;omega
     rw [e,e1,hr] at hv
     rw [e,e1]
     exact hgo _ _ GL hg Yb Yc hv
 . unfold Ej
   rw [if_neg (fun q=>hr q.1)]
   have zX:MP n1 w1 n2 w2=false:=by simpa using hr
   rw [zX] at hv
   refine VP.has h ?_
   simp only [dv,SS,Nat.reduceAdd,Dc,ae,Rn]
   refine aj hv (by simp [eB]) ?_
   simp only [SS,Nat.reduceAdd]
   exact ag▸ab rfl (fY _ _)
end
end Go.VL
end

section
set_option linter.unusedVariables false
namespace Go.VL
section
variable {P:Program} {G:Nat->Option (List AV)}
theorem mC {f fw:FuncId} (h:Has P f cy) {a c:List AV} {es:List AV} (hk:∀ e∈es,part false e.cells 0 1=some e) {p:AV->Bool} (hw:∀ e∈es,VP P G fw (a++[e]++c) (.bool (p e)))
   (hp:∀ e∈es,af e) (ha:∀ x∈a,af x) (hc:∀ x∈c,af x) (hl:es.length<9223372036854775807):VP P G f [.sl 1 es, .fn (.func fw) a c] (.int .i64 (x4 (es.findIdx? p))):=by
 refine VP.has h ?_
 simp only [cy,SS,Nat.reduceAdd,aD]
 refine VW.bL (α := Nat × Nat) (fun x=>⟨[.sl 1 es, .fn (.func fw) a c, .top, .top, .top, .top, .top, .int .i64 es.length, .int .i64 x.1]++List.replicate 10 .top,fun _=>none,x.2⟩) (fun x=>x.1<=es.length/\∀ (j:Nat) e,j<x.1->es[j]? = some e->p e=false) (fun x=>es.length-x.1) (0,4) ?_ ⟨Nat.zero_le _,fun j e hj=>absurd hj (Nat.not_lt_zero j)⟩ ?_
 . exact Wk.slots (by simp [Fg,List.replicate]) (Nat.le_refl _)
 rintro ⟨i,n⟩ ⟨hi,hn⟩
 simp only [] at hi hn
 simp only [SS]
 by_cases hlt:i<es.length
 . have h1:(i:Int)<(es.length:Int):=by omega
   obtain ⟨e,he⟩:∃ e,es[i]? = some e:=⟨es[i],by simp [hlt]⟩
   have hm:=List.mem_of_getElem? he
   simp only [SS,Nat.reduceAdd,h1,decide_true,aQ rfl he,az,hk e hm]
   refine aj (hw e hm) (by
     intro x hx
     simp only [List.mem_append,List.mem_singleton] at hx
     rcases hx with (hx | rfl) | hx
     . exact ha x hx
     . exact hp _ hm
     . exact hc x hx) ?_
   cases Rv:p e
   . simp only [SS,Nat.reduceAdd,aq i (by omega)]
     refine ⟨(i+1,_),⟨by simp only [];omega, ?_⟩,by simp only [];omega,Wk.slots (by simp [Fg]) (Nat.le_refl _)⟩
     intro j e' hj xk
     by_cases B4:j<i
     . exact hn j e' B4 xk
     . have:j=i:=by simp only [] at hj;omega
       subst this;rw [he] at xk;simp only [Option.some.injEq] at xk;subst xk;exact Rv
   . simp only [SS,Nat.reduceAdd]
     rw [pA he Rv hn]
     exact ag▸ab rfl (af.int _ _)
 . have h1 : ¬ (i:Int)<(es.length:Int):=by omega
   simp only [SS,h1,decide_false]
   rw [pz (fun j e hj=>hn j e (by have:=(List.getElem?_eq_some_iff.1 hj).1;omega) hj)]
   exact ag▸ab rfl (af.int _ _)
theorem fZ {f fw:FuncId} (h:Has P f bG) {a c:List AV} {es:List AV} (hk:∀ e∈es,part true e.cells 0 7=some e) {p:AV->Bool} (hw:∀ e∈es,VP P G fw (a++[e]++c) (.bool (p e)))
   (hp:∀ e∈es,af e) (ha:∀ x∈a,af x) (hc:∀ x∈c,af x) (hl:es.length<9223372036854775807):VP P G f [.sl 7 es, .fn (.func fw) a c] (.int .i64 (x4 (es.findIdx? p))):=by
 refine VP.has h ?_
 simp only [bG,SS,Nat.reduceAdd,aD]
 refine VW.bL (α := Nat × Nat) (fun x=>⟨[.sl 7 es, .fn (.func fw) a c, .top, .top, .top, .top, .top, .int .i64 es.length, .int .i64 x.1]++List.replicate 10 .top,fun _=>none,x.2⟩) (fun x=>x.1<=es.length/\∀ (j:Nat) e,j<x.1->es[j]? = some e->p e=false) (fun x=>es.length-x.1) (0,4) ?_ ⟨Nat.zero_le _,fun j e hj=>absurd hj (Nat.not_lt_zero j)⟩ ?_
 . exact Wk.slots (by simp [Fg,List.replicate]) (Nat.le_refl _)
 rintro ⟨i,n⟩ ⟨hi,hn⟩
 simp only [] at hi hn
 simp only [SS]
 by_cases hlt:i<es.length
 . have h1:(i:Int)<(es.length:Int):=by omega
   obtain ⟨e,he⟩:∃ e,es[i]? = some e:=⟨es[i],by simp [hlt]⟩
   have hm:=List.mem_of_getElem? he
   simp only [SS,Nat.reduceAdd,h1,decide_true,aQ rfl he,az,hk e hm]
   refine aj (hw e hm) (by
     intro x hx
     simp only [List.mem_append,List.mem_singleton] at hx
     rcases hx with (hx | rfl) | hx
     . exact ha x hx
     . exact hp _ hm
     . exact hc x hx) ?_
   cases Rv:p e
   . simp only [SS,Nat.reduceAdd,aq i (by omega)]
     refine ⟨(i+1,_),⟨by simp only [];omega, ?_⟩,by simp only [];omega,Wk.slots (by simp [Fg]) (Nat.le_refl _)⟩
     intro j e' hj xk
     by_cases B4:j<i
     . exact hn j e' B4 xk
     . have:j=i:=by simp only [] at hj;omega
       subst this;rw [he] at xk;simp only [Option.some.injEq] at xk;subst xk;exact Rv
   . simp only [SS,Nat.reduceAdd]
     rw [pA he Rv hn]
     exact ag▸ab rfl (af.int _ _)
 . have h1 : ¬ (i:Int)<(es.length:Int):=by omega
   simp only [SS,h1,decide_false]
   rw [pz (fun j e hj=>hn j e (by have:=(List.getElem?_eq_some_iff.1 hj).1;omega) hj)]
   exact ag▸ab rfl (af.int _ _)
theorem jx {f fw:FuncId} (h:Has P f bj) {a c:List AV} {es:List AV} (hk:∀ e∈es,part true e.cells 0 5=some e) {p:AV->Bool} (hw:∀ e∈es,VP P G fw (a++[e]++c) (.bool (p e)))
   (hp:∀ e∈es,af e) (ha:∀ x∈a,af x) (hc:∀ x∈c,af x) (hl:es.length<9223372036854775807):VP P G f [.sl 5 es, .fn (.func fw) a c] (.int .i64 (x4 (es.findIdx? p))):=by
 refine VP.has h ?_
 simp only [bj,SS,Nat.reduceAdd,aD]
 refine VW.bL (α := Nat × Nat) (fun x=>⟨[.sl 5 es, .fn (.func fw) a c, .top, .top, .top, .top, .top, .int .i64 es.length, .int .i64 x.1]++List.replicate 10 .top,fun _=>none,x.2⟩) (fun x=>x.1<=es.length/\∀ (j:Nat) e,j<x.1->es[j]? = some e->p e=false) (fun x=>es.length-x.1) (0,4) ?_ ⟨Nat.zero_le _,fun j e hj=>absurd hj (Nat.not_lt_zero j)⟩ ?_
 . exact Wk.slots (by simp [Fg,List.replicate]) (Nat.le_refl _)
 rintro ⟨i,n⟩ ⟨hi,hn⟩
 simp only [] at hi hn
 simp only [SS]
 by_cases hlt:i<es.length
 . have h1:(i:Int)<(es.length:Int):=by omega
   obtain ⟨e,he⟩:∃ e,es[i]? = some e:=⟨es[i],by simp [hlt]⟩
   have hm:=List.mem_of_getElem? he
   simp only [SS,Nat.reduceAdd,h1,decide_true,aQ rfl he,az,hk e hm]
   refine aj (hw e hm) (by
     intro x hx
     simp only [List.mem_append,List.mem_singleton] at hx
     rcases hx with (hx | rfl) | hx
     . exact ha x hx
     . exact hp _ hm
     . exact hc x hx) ?_
   cases Rv:p e
   . simp only [SS,Nat.reduceAdd,aq i (by omega)]
     refine ⟨(i+1,_),⟨by simp only [];omega, ?_⟩,by simp only [];omega,Wk.slots (by simp [Fg]) (Nat.le_refl _)⟩
     intro j e' hj xk
     by_cases B4:j<i
     . exact hn j e' B4 xk
     . have:j=i:=by simp only [] at hj;omega
       subst this;rw [he] at xk;simp only [Option.some.injEq] at xk;subst xk;exact Rv
   . simp only [SS,Nat.reduceAdd]
     rw [pA he Rv hn]
     exact ag▸ab rfl (af.int _ _)
 . have h1 : ¬ (i:Int)<(es.length:Int):=by omega
   simp only [SS,h1,decide_false]
   rw [pz (fun j e hj=>hn j e (by have:=(List.getElem?_eq_some_iff.1 hj).1;omega) hj)]
   exact ag▸ab rfl (af.int _ _)
theorem lL {f fi fw:FuncId} (h:Has P f (cg fi)) {a c:List AV} {es:List AV} {p:AV->Bool} (hi:VP P G fi [.sl 1 es, .fn (.func fw) a c] (.int .i64 (x4 (es.findIdx? p))))
   (hp:af (.sl 1 es)) (FU:af (.fn (.func fw) a c)):VP P G f [.sl 1 es, .fn (.func fw) a c] (.bool (es.any p)):=by
 refine VP.has h ?_
 simp only [cg,SS,Nat.reduceAdd]
 refine aj hi (by intro x hx;simp at hx;rcases hx with rfl | rfl<;>assumption) ?_
 simp only [SS,Nat.reduceAdd]
 have e:decide (0<=x4 (es.findIdx? p))=es.any p:=by
   rw [<- List.findIdx?_isSome]
   cases es.findIdx? p<;>simp [x4]
 rw [e]
 exact ag▸ab rfl (af.bool _)
theorem eZ {f fi fw:FuncId} (h:Has P f (bu fi)) {a c:List AV} {es:List AV} {p:AV->Bool} (hi:VP P G fi [.sl 7 es, .fn (.func fw) a c] (.int .i64 (x4 (es.findIdx? p))))
   (hp:af (.sl 7 es)) (FU:af (.fn (.func fw) a c)):VP P G f [.sl 7 es, .fn (.func fw) a c] (.bool (es.any p)):=by
 refine VP.has h ?_
 simp only [bu,SS,Nat.reduceAdd]
 refine aj hi (by intro x hx;simp at hx;rcases hx with rfl | rfl<;>assumption) ?_
 simp only [SS,Nat.reduceAdd]
 have e:decide (0<=x4 (es.findIdx? p))=es.any p:=by
   rw [<- List.findIdx?_isSome]
   cases es.findIdx? p<;>simp [x4]
 rw [e]
 exact ag▸ab rfl (af.bool _)
end
end Go.VL
end

section
set_option linter.unusedVariables false
namespace Go.VL
structure bK where
 name:List UInt8
 kind:Int
 inputs:List (List UInt8)
 values:List AV
 supp:Bool
def strs (l:List (List UInt8)):AV := .sl 1 (l.map .str)
def bK.av (f:bK):AV := .agg [.str f.name, .int .i64 f.kind,strs f.inputs, .sl 7 f.values, .bool f.supp]
def oG (v:AV):Prop:=∃ cs,v = .agg cs/\cs.length=7/\∀ c∈cs,af c/\c.one=true
structure bK.Ok (f:bK):Prop where
 vals:∀ v∈f.values,oG v
 ins:f.inputs.length<9223372036854775807
 vl:f.values.length<9223372036854775807
theorem oG.pure {v:AV} (h:oG v):af v:=by
 obtain ⟨cs,rfl,_,hc⟩:=h
 exact af.agg fun c h=>(hc c h).1
theorem oG.part {v:AV} (h:oG v):part true v.cells 0 7=some v:=by
 obtain ⟨cs,rfl,hl,_⟩:=h
 simp [VL.part,AV.cells,hl]
 rw [<- hl];exact List.take_length
theorem wu:∀ l:List (List UInt8),flat (l.map .str)=l.map .str
 | []=>rfl
 | s::l=>by have:=wu l;simp only [List.map_cons,flat,List.flatMap_cons,AV.cells] at this ⊢;rw [this];rfl
theorem gX (l:List (List UInt8)):af (strs l):=af.sl (by rw [wu];intro c hc;simp at hc;obtain ⟨s,_,rfl⟩:=hc;exact af.str s)
theorem AK {l:List AV} (h:∀ v∈l,oG v):af (.sl 7 l):=af.sl (by
 intro c hc
 simp only [flat,List.mem_flatMap] at hc
 obtain ⟨v,hv,hc⟩:=hc
 obtain ⟨cs,rfl,_,hcs⟩:=h v hv
 exact (hcs c hc).1)
theorem bK.Ok.pure {f:bK} (h:f.Ok):af f.av:=af.agg (by
 intro c hc
 simp only [List.mem_cons,List.not_mem_nil,or_false] at hc
 rcases hc with rfl | rfl | rfl | rfl | rfl
 . exact af.str _
 . exact af.int _ _
 . exact gX _
 . exact AK h.vals
 . exact af.bool _)
theorem bK.one (f:bK):(f.av.cells.all AV.one=true)=True:=by simp [bK.av,AV.cells,AV.one,strs]
theorem bK.p0 (f:bK):part false f.av.cells 0 1=some (.str f.name):=rfl
theorem bK.p1 (f:bK):part false f.av.cells 1 1=some (.int .i64 f.kind):=rfl
theorem bK.p2 (f:bK):part false f.av.cells 2 1=some (strs f.inputs):=rfl
theorem bK.p3 (f:bK):part false f.av.cells 3 1=some (.sl 7 f.values):=rfl
theorem bK.p4 (f:bK):part false f.av.cells 4 1=some (.bool f.supp):=rfl
theorem bK.whole (f:bK):part true f.av.cells 0 5=some f.av:=rfl
theorem bK.size (f:bK):f.av.size=5:=rfl
section
variable {P:Program} {G:Nat->Option (List AV)}
theorem Om {f:FuncId} (h:Has P f ij) (F:bK) (nm:List UInt8):VP P G f [F.av, .ep [.str nm] 0] (.bool (F.name==nm)):=by
 refine VP.has h ?_
 have e1:part false [AV.str nm] 0 1=some (.str nm):=rfl
 simp only [ij,SS,Nat.reduceAdd,bK.one,ae,bK.p0,az,e1]
 exact ag▸ab rfl (af.bool _)
def MQ (l:List bK) (nm:List UInt8):Int:=x4 (l.findIdx? fun F=>F.name==nm)
def Rw:AV->List UInt8
 | .agg (.str s::_)=>s
 | _=>[]
theorem findIdx_map (l:List bK) (nm:List UInt8):(l.map bK.av).findIdx? (fun e=>Rw e==nm)=l.findIdx? fun F=>F.name==nm:=by
 rw [List.findIdx?_map];rfl
def zr (l:List bK):AV := .sl 5 (l.map bK.av)
theorem KL {l:List bK} (h:∀ F∈l,F.Ok):af (zr l):=af.sl (by
 intro c hc
 simp only [flat,List.mem_flatMap,List.mem_map] at hc
 obtain ⟨v,⟨F,hF,rfl⟩,hc⟩:=hc
 simp only [bK.av,AV.cells,List.mem_cons,List.not_mem_nil,or_false] at hc
 rcases hc with rfl | rfl | rfl | rfl | rfl
 . exact af.str _
 . exact af.int _ _
 . exact gX _
 . exact AK (h F hF).vals
 . exact af.bool _)
theorem UH {f f1 fi:FuncId} (h:Has P f (gw f1 fi)) (h1:∀ (F:bK) (nm:List UInt8),VP P G f1 [F.av, .ep [.str nm] 0] (.bool (F.name==nm)))
   (hi:Has P fi bj) {l:List bK} (hl:∀ F∈l,F.Ok) (hlen:l.length<9223372036854775807) (nm:List UInt8):VP P G f [zr l, .str nm] (.int .i64 (MQ l nm)):=by
 refine VP.has h ?_
 have e0:(AV.cells (.str nm)).all AV.one=true:=rfl
 simp only [gw,SS,Nat.reduceAdd,e0]
 have hc:=jx (G:=G) hi (fw:=f1) (a:=[]) (c:=[.ep [.str nm] 0]) (es:=l.map bK.av) (p:=fun e=>Rw e==nm)
   (by intro e he;simp only [List.mem_map] at he;obtain ⟨F,_,rfl⟩:=he;exact F.whole)
   (by intro e he;simp only [List.mem_map] at he;obtain ⟨F,_,rfl⟩:=he;exact h1 F nm)
   (by intro e he;simp only [List.mem_map] at he;obtain ⟨F,hF,rfl⟩:=he;exact (hl F hF).pure)
   (by simp) (by intro x hx;simp at hx;subst hx;exact af.ep (by simp [af.str])) (by simpa using hlen)
 rw [findIdx_map] at hc
 refine iF [([0],⟨[.str nm],1,false⟩)] hc ?_ (b7.int _ _) ?_ ?_
 . refine aW.cons (View.pure (KL hl)) (aW.cons (View.fn aW.nil (aW.cons ?_ aW.nil)) aW.nil)
   exact View.ref (bk:=⟨[.str nm],1,false⟩) rfl rfl (aW.pure (by simp [AV.cells,af.str]))
 . simp [aa.put,AV.size,AV.cells]
 simp only [SS,Nat.reduceAdd]
 exact ag▸ab rfl (af.int _ _)
theorem Rx {f fn YZ v1 Y0 v2:FuncId} (h:Has P f (ke fn YZ v1 Y0 v2)) (hn:∀ s,VP P G fn [.str s] (.bool (bc s))) (F:bK) (hF:F.Ok) {bi bv:Bool}
   (h1:F.inputs.length<=50->VP P G YZ [strs F.inputs, .fn (.func v1) [] []] (.bool bi)) (h2:F.values.length<=10->VP P G Y0 [.sl 7 F.values, .fn (.func v2) [] []] (.bool bv)) :
   VP P G f [F.av] (.bool (bc F.name&&decide (1<=F.kind)&&decide (F.kind<=6)&&decide (F.inputs.length<=50)&&decide (F.values.length<=10) && !bi && !bv)):=by
 refine VP.has h ?_
 simp only [ke,SS,Nat.reduceAdd,bK.one,ae,bK.p0]
 refine aj (hn F.name) (by simp [af.str]) ?_
 have e1:jK false (strs F.inputs)=some (.int .i64 F.inputs.length):=by simp [strs,jK]
 have hpf:∀ v:FuncId,af (.fn (.func v) [] []):=fun v=>af.fn (by simp) (by simp)
 cases b1:bc F.name
 . simp only [SS,Nat.reduceAdd,Bool.false_and]
   exact ag▸ab rfl (af.bool _)
 by_cases b2:1<=F.kind
 case neg =>
   simp only [SS,Nat.reduceAdd,Bool.false_and,Bool.and_false,ae,bK.p1,b2,decide_false]
   exact ag▸ab rfl (af.bool _)
 by_cases b3:F.kind<=6
 case neg =>
   simp only [SS,Nat.reduceAdd,Bool.false_and,Bool.and_false,ae,bK.p1,b2,b3,decide_false,decide_true,Bool.true_and]
   exact ag▸ab rfl (af.bool _)
 by_cases b4:F.inputs.length<=50
 case neg =>
   have b4' : ¬ (F.inputs.length:Int)<=50:=by omega
   simp only [SS,Nat.reduceAdd,Bool.false_and,Bool.and_false,ae,bK.p1,bK.p2,e1,b2,b3,b4,b4',decide_false,decide_true,Bool.true_and]
   exact ag▸ab rfl (af.bool _)
 have b4':(F.inputs.length:Int)<=50:=by omega
 by_cases b5:F.values.length<=10
 case neg =>
   have b5' : ¬ (F.values.length:Int)<=10:=by omega
   simp only [SS,Nat.reduceAdd,Bool.false_and,Bool.and_false,ae,bK.p1,bK.p2,bK.p3,e1,b2,b3,b4,b4',b5,b5',decide_false,decide_true,Bool.true_and]
   exact ag▸ab rfl (af.bool _)
 have b5':(F.values.length:Int)<=10:=by omega
 simp only [SS,Nat.reduceAdd,ae,bK.p1,bK.p2,bK.p3,e1,b2,b3,b4,b4',b5,b5',decide_true,Bool.true_and]
 refine aj (h1 b4) (by intro x hx;simp at hx;rcases hx with rfl | rfl;exact gX _;exact hpf _) ?_
 cases bi
 case true =>
   simp only [SS,Nat.reduceAdd,Bool.false_and]
   exact ag▸ab rfl (af.bool _)
 simp only [SS,Nat.reduceAdd,ae,bK.p3]
 refine aj (h2 b5) (by intro x hx;simp at hx;rcases hx with rfl | rfl;exact AK hF.vals;exact hpf _) ?_
 simp only [SS,Nat.reduceAdd,Bool.true_and]
 exact ag▸ab rfl (af.bool _)
end
end Go.VL
end

section
set_option linter.unusedVariables false
namespace Go.VL
open Go.Lib
inductive EX where
 | mk (op:Int) (n1:Bool) (w1:List Nat) (n2:Bool) (w2:List Nat) (nm:List UInt8) (args:List EX)
theorem EX.induct {C:EX->Prop} (h:∀ op n1 w1 n2 w2 nm args,(∀ x∈args,C x)->C (.mk op n1 w1 n2 w2 nm args)):∀ e,C e:=fun e =>
 EX.rec (motive_1:=C) (motive_2:=fun l=>∀ x∈l,C x) (fun op n1 w1 n2 w2 nm args ih=>h op n1 w1 n2 w2 nm args ih) (by simp) (fun a l ha hl=>by
   intro x hx
   rcases List.mem_cons.1 hx with rfl | hx
   . exact ha
   . exact hl x hx) e
mutual
def EX.av:EX->AV
 | .mk op n1 w1 n2 w2 nm args => .agg [.int .i64 op, .bool n1, .sl 1 (us w1), .bool n2, .sl 1 (us w2), .str nm, .sl 7 (EX.kR args)]
def EX.kR:List EX->List AV
 | []=>[]
 | e::l=>e.av::EX.kR l
end
mutual
def EX.nodes:EX->Nat
 | .mk _ _ _ _ _ _ args=>1+EX.cT args
def EX.cT:List EX->Nat
 | []=>0
 | e::l=>e.nodes+EX.cT l
end
mutual
def EX.depth:EX->Nat
 | .mk _ _ _ _ _ _ args=>EX.fH args+1
def EX.fH:List EX->Nat
 | []=>0
 | e::l=>max e.depth (EX.fH l)
end
def fN (n1:Bool) (w1:List Nat) (n2:Bool) (w2:List Nat):Bool:=w1.isEmpty&&w2.isEmpty && !n1 && !n2
def arity (op:Int):Nat:=if op<=2 then 0 else if op<=3 then 1 else 2
mutual
def EX.formed:EX->Bool
 | .mk op n1 w1 n2 w2 nm args=>decide (1<=op)&&decide (op<=7)&&decide (args.length=arity op) &&
   (if op=1 then oD n1 w1 n2 w2&&(nm.isEmpty||bc nm) else if op=2 then fN n1 w1 n2 w2&&bc nm else fN n1 w1 n2 w2&&nm.isEmpty&&EX.gm args)
def EX.gm:List EX->Bool
 | []=>true
 | e::l=>e.formed&&EX.gm l
end
mutual
def EX.nu:EX->Bool
 | .mk _ _ w1 _ w2 nm args=>EX.Gn args&&decide (w1.length<=8)&&decide (w2.length<=8)&&decide (nm.length<=60)
def EX.Gn:List EX->Bool
 | []=>true
 | e::l=>e.nu&&EX.Gn l
end
mutual
def EX.Ok:EX->Prop
 | .mk op _ w1 _ w2 nm args => -9223372036854775808<=op/\op<9223372036854775808/\Wd w1/\Wd w2/\w1.length<=9223372036854775807/\w2.length<=9223372036854775807/\nm.length<=9223372036854775807/\args.length<=9223372036854775807/\EX.OkL args
def EX.OkL:List EX->Prop
 | []=>True
 | e::l=>e.Ok/\EX.OkL l
end
theorem EX.cF:∀ l,EX.kR l=l.map EX.av
 | []=>rfl
 | e::l=>by rw [EX.kR,EX.cF l];rfl
theorem EX.wv:∀ l,EX.gm l=l.all EX.formed
 | []=>rfl
 | e::l=>by rw [EX.gm,EX.wv l];rfl
theorem EX.yc:∀ l,EX.Gn l=l.all EX.nu
 | []=>rfl
 | e::l=>by rw [EX.Gn,EX.yc l];rfl
theorem EX.Gp:∀ {l},EX.OkL l↔∀ x∈l,EX.Ok x
 | []=>by simp [EX.OkL]
 | e::l=>by rw [EX.OkL,EX.Gp (l:=l)];simp
theorem EX.On (e:EX):1<=e.nodes:=by cases e;rw [EX.nodes];omega
theorem EX.size (e:EX):e.av.size=7:=by cases e;rw [EX.av];rfl
theorem EX.j4:∀ e:EX,∀ c∈e.av.cells,af c:=EX.induct fun op n1 w1 n2 w2 nm args ih=>by
 rw [EX.av]
 intro c hc
 simp [AV.cells] at hc
 rcases hc with rfl | rfl | rfl | rfl | rfl | rfl | rfl
 . exact af.int _ _
 . exact af.bool _
 . exact kO _
 . exact af.bool _
 . exact kO _
 . exact af.str _
 . refine af.sl ?_
   rw [EX.cF]
   intro c hc
   simp only [flat,List.mem_flatMap,List.mem_map] at hc
   obtain ⟨_,⟨x,hx,rfl⟩,Lk⟩:=hc
   exact ih x hx c Lk
theorem EX.pure (e:EX):af e.av:=by
 have h:=EX.j4 e
 cases e with
 | mk op n1 w1 n2 w2 nm args=>rw [EX.av] at h ⊢;exact af.agg h
theorem EX.eI (l:List EX):af (.sl 7 (EX.kR l)):=by
 have:=EX.j4 (.mk 0 false [] false [] [] l)
 rw [EX.av] at this
 exact this _ (by simp [AV.cells])
theorem EX.like (e:EX):oG e.av:=by
 have h:=EX.j4 e
 cases e with
 | mk op n1 w1 n2 w2 nm args =>
   rw [EX.av] at h ⊢
   exact ⟨_,rfl,rfl,fun c hc=>⟨h c hc,by simp at hc;rcases hc with rfl | rfl | rfl | rfl | rfl | rfl | rfl<;>rfl⟩⟩
theorem EX.one (e:EX):(e.av.cells.all AV.one=true)=True:=by cases e;rw [EX.av];simp [AV.cells,AV.one]
theorem EX.all (e:EX):VL.part true e.av.cells 0 7=some e.av:=e.like.part
end Go.VL
end

section
set_option linter.unusedVariables false
namespace Go.VL
theorem KM:∀ {a b:List Nat},us a=us b->a=b
 | [],[],_=>rfl
 | [],b::bs,h=>by simp [us] at h
 | a::al,[],h=>by simp [us] at h
 | a::al,b::bs,h=>by
   simp only [us,List.map_cons,List.cons.injEq,AV.int.injEq,true_and] at h
   rw [KM (a:=al) (b:=bs) h.2,Int.ofNat.inj h.1]
theorem Dr {α β : Type} {f : α -> β}:∀ {l l':List α},(∀ x∈l,∀ y,f x=f y->x=y)->l.map f=l'.map f->l=l'
 | [],[],_,_=>rfl
 | [],b::bs,_,h=>by simp at h
 | a::al,[],_,h=>by simp at h
 | a::al,b::bs,hi,h=>by
   simp only [List.map_cons,List.cons.injEq] at h
   rw [hi a (by simp) b h.1,Dr (fun x hx=>hi x (by simp [hx])) h.2]
theorem EX.Ry:∀ e e':EX,e.av=e'.av->e=e':=EX.induct fun op n1 w1 n2 w2 nm args ih=>fun e' h=>by
 cases e' with
 | mk MR Ds B9 Dt Ca O8 gv =>
   rw [EX.av,EX.av] at h
   simp only [AV.agg.injEq,List.cons.injEq,AV.int.injEq,AV.bool.injEq,AV.sl.injEq,AV.str.injEq,true_and,and_true] at h
   obtain ⟨h1,h2,h3,h4,h5,h6,h7⟩:=h
   rw [EX.cF,EX.cF] at h7
   rw [h1,h2,KM h3,h4,KM h5,h6,Dr ih h7]
noncomputable def Rz (v:AV):Bool := @decide (∃ e:EX,e.av=v/\e.formed=false) (Classical.propDecidable _)
theorem IX (e:EX):Rz e.av = !e.formed:=by
 unfold Rz
 cases h:e.formed
 . exact @decide_eq_true _ (Classical.propDecidable _) ⟨e,rfl,h⟩
 . refine @decide_eq_false _ (Classical.propDecidable _) ?_
   rintro ⟨e',h1,h2⟩
   rw [EX.Ry _ _ h1] at h2
   rw [h] at h2;cases h2
section
variable (op:Int) (n1:Bool) (w1:List Nat) (n2:Bool) (w2:List Nat) (nm:List UInt8) (args:List EX)
theorem EX.q0:part false (EX.mk op n1 w1 n2 w2 nm args).av.cells 0 1=some (.int .i64 op):=by rw [EX.av];rfl
theorem EX.q1:part true (EX.mk op n1 w1 n2 w2 nm args).av.cells 1 4=some (RR n1 w1 n2 w2):=by rw [EX.av];rfl
theorem EX.q5:part false (EX.mk op n1 w1 n2 w2 nm args).av.cells 5 1=some (.str nm):=by rw [EX.av];rfl
theorem EX.q6:part false (EX.mk op n1 w1 n2 w2 nm args).av.cells 6 1=some (.sl 7 (EX.kR args)):=by rw [EX.av];rfl
theorem EX.l6:jK false (.sl 7 (EX.kR args))=some (.int .i64 (args.length:Int)):=by rw [EX.cF];simp [jK]
theorem aa5:part false (RR n1 w1 n2 w2).cells 0 1=some (.bool n1):=rfl
theorem aa6:part false (RR n1 w1 n2 w2).cells 1 1=some (.sl 1 (us w1)):=rfl
theorem aa7:part false (RR n1 w1 n2 w2).cells 2 1=some (.bool n2):=rfl
theorem aa8:part false (RR n1 w1 n2 w2).cells 3 1=some (.sl 1 (us w2)):=rfl
end
section
variable {P:Program} {G:Nat->Option (List AV)}
theorem UI {f:FuncId} (h:Has P f pP) (n1:Bool) (w1:List Nat) (n2:Bool) (w2:List Nat):VP P G f [RR n1 w1 n2 w2] (.bool (fN n1 w1 n2 w2)):=by
 refine VP.has h ?_
 have hlen:∀ ws,jK false (.sl 1 (us ws))=some (.int .i64 ws.length):=fun ws=>by simp [jK,dD]
 have d1:decide ((w1.length:Int)=0)=w1.isEmpty:=by cases w1<;>simp<;>omega
 have d2:decide ((w2.length:Int)=0)=w2.isEmpty:=by cases w2<;>simp<;>omega
 unfold fN
 cases b1:w1.isEmpty<;>cases b2:w2.isEmpty<;>cases n1<;>cases n2 <;>
 . rw [b1] at d1;rw [b2] at d2
   simp only [pP,SS,Nat.reduceAdd,Dc,ae,aa5,aa6,aa7,aa8,hlen,d1,d2,Bool.and_false,Bool.and_true]
   exact ag▸ab rfl (af.bool _)
theorem KN {f ff:FuncId} (h:Has P f (jN ff)) (e:EX) (hf:VP P G ff [e.av] (.bool e.formed)):VP P G f [e.av] (.bool (!e.formed)):=by
 refine VP.has h ?_
 simp only [jN,SS,Nat.reduceAdd,EX.one,ae,EX.all]
 refine aj hf (by simp [EX.pure]) ?_
 simp only [SS,Nat.reduceAdd]
 exact ag▸ab rfl (af.bool _)
def bV:List AV:=[.int .i64 0, .int .i64 0, .int .i64 0, .int .i64 1, .int .i64 2, .int .i64 2, .int .i64 2, .int .i64 2]
theorem Oo {f fd fn jy fc f1:FuncId} {g0:Nat} (h:Has P f (aN fd fn jy fc f1 g0)) (op:Int) (n1:Bool) (w1:List Nat) (n2:Bool) (w2:List Nat) (nm:List UInt8) (args:List EX) (o1:op<1) :
   VP P G f [(EX.mk op n1 w1 n2 w2 nm args).av] (.bool false):=by
 refine VP.has h ?_
 have e1:decide (op<1)=true:=ao o1
 simp only [aN,SS,DD,Nat.reduceAdd,EX.one,ae,EX.q0,e1]
 refine ⟨by simp [ar,apart], ?_⟩
 exact ag▸ab rfl (af.bool _)
theorem Oq {f fd fn jy fc f1:FuncId} {g0:Nat} (h:Has P f (aN fd fn jy fc f1 g0)) (op:Int) (n1:Bool) (w1:List Nat) (n2:Bool) (w2:List Nat) (nm:List UInt8) (args:List EX) (o7:7<op) :
   VP P G f [(EX.mk op n1 w1 n2 w2 nm args).av] (.bool false):=by
 refine VP.has h ?_
 have e1:decide (op<1)=false:=ak (by omega)
 have e2:decide (7<op)=true:=ao o7
 simp only [aN,SS,DD,Nat.reduceAdd,EX.one,ae,EX.q0,e1,e2]
 refine ⟨by simp [ar,apart], ?_⟩
 exact ag▸ab rfl (af.bool _)
theorem sb {t:List AV} {g:Nat} {cs:List AV} (h:G g=some cs):aS.ev G t (.g g) = .ep cs 0:=by simp [aS.ev,h]
theorem EX.a6 (args:List EX):(EX.kR args).length=args.length:=by rw [EX.cF,List.length_map]
theorem RA:ig 8 1 (.ep bV 0) (.int .i64 1)=some (.ep bV 1):=by simp [ig]
theorem RB (σ : aa):gh σ false 1 (.ep bV 1)=some { val := .int .i64 0 }:=rfl
theorem RD:ig 8 1 (.ep bV 0) (.int .i64 2)=some (.ep bV 2):=by simp [ig]
theorem RE (σ : aa):gh σ false 1 (.ep bV 2)=some { val := .int .i64 0 }:=rfl
theorem RF:ig 8 1 (.ep bV 0) (.int .i64 3)=some (.ep bV 3):=by simp [ig]
theorem RG (σ : aa):gh σ false 1 (.ep bV 3)=some { val := .int .i64 1 }:=rfl
theorem RH:ig 8 1 (.ep bV 0) (.int .i64 4)=some (.ep bV 4):=by simp [ig]
theorem RI (σ : aa):gh σ false 1 (.ep bV 4)=some { val := .int .i64 2 }:=rfl
theorem RJ:ig 8 1 (.ep bV 0) (.int .i64 5)=some (.ep bV 5):=by simp [ig]
theorem RL (σ : aa):gh σ false 1 (.ep bV 5)=some { val := .int .i64 2 }:=rfl
theorem RM:ig 8 1 (.ep bV 0) (.int .i64 6)=some (.ep bV 6):=by simp [ig]
theorem RN (σ : aa):gh σ false 1 (.ep bV 6)=some { val := .int .i64 2 }:=rfl
theorem RO:ig 8 1 (.ep bV 0) (.int .i64 7)=some (.ep bV 7):=by simp [ig]
theorem RP (σ : aa):gh σ false 1 (.ep bV 7)=some { val := .int .i64 2 }:=rfl
theorem uw {α : Type} {a b : α}:[a,b][0]? = some a:=rfl
theorem ux {α : Type} {a b : α}:[a,b][1]? = some b:=rfl
theorem gK (nm:List UInt8):(nm==([]:List UInt8))=nm.isEmpty:=by cases nm<;>rfl
theorem ki (v:FuncId):af (.fn (.func v) [] []):=af.fn (by simp) (by simp)
theorem RQ {f fd fn jy fc f1:FuncId} {g0:Nat} (h:Has P f (aN fd fn jy fc f1 g0)) (hG:G g0=some bV)
   (n1:Bool) (w1:List Nat) (n2:Bool) (w2:List Nat) (nm:List UInt8) (args:List EX)
   (hd:∃ s,VP P G fd [RR n1 w1 n2 w2] (.tup [.str s, .bool (oD n1 w1 n2 w2)])) (hn:VP P G fn [.str nm] (.bool (bc nm))) (hno:VP P G jy [RR n1 w1 n2 w2] (.bool (fN n1 w1 n2 w2)))
   (hc:VP P G fc [.sl 7 (EX.kR args), .fn (.func f1) [] []] (.bool (!EX.gm args))) :
   VP P G f [(EX.mk 1 n1 w1 n2 w2 nm args).av] (.bool (decide (args.length=0)&&(oD n1 w1 n2 w2&&(or nm.isEmpty (bc nm))))):=by
 have a1:decide ((1:Int)<1)=false:=rfl
 have a2:decide ((7:Int)<1)=false:=rfl
 have a3:decide ((1:Int)=1)=decide (1=1):=rfl
 have a4:decide ((1:Int)=2)=decide (1=2):=rfl
 obtain ⟨s,hd⟩:=hd
 by_cases hl:args.length=0
 case neg =>
   have d2:decide ((args.length:Int)≠0)=true:=ao (by omega)
   have d3:decide (args.length=0)=false:=ak hl
   refine VP.has h ?_
   simp only [aN,SS,DD,Nat.reduceAdd,EX.one,ae,EX.q0,EX.q6,a1,a2,sb hG,EX.a6,RA,RB,d2,d3,Bool.false_and]
   refine ⟨by simp [ar,apart], ?_⟩
   exact ag▸ab rfl (af.bool _)
 have d2:decide ((args.length:Int)≠0)=false:=ak (by omega)
 have d3:decide (args.length=0)=true:=ao hl
 rw [d3]
 cases b1:oD n1 w1 n2 w2<;>cases b2:nm.isEmpty<;>cases b3:bc nm <;>
 . rw [b1] at hd
   rw [b3] at hn
   refine VP.has h ?_
   simp only [aN,SS,DD,Nat.reduceAdd,EX.one,ae,EX.q0,EX.q1,EX.q6,a1,a2,sb hG,EX.a6,RA,RB,d2,decide_true,Bool.and_true,Bool.and_false,Bool.or_true,Bool.or_false]
   refine ⟨by simp [ar,apart], ?_⟩
   try simp only [SS,DD,Nat.reduceAdd,reduceIte,Nat.reduceEqDiff,EX.one,ae,EX.q0,EX.q1,EX.q5,EX.q6,EX.l6,a1,a2,a3,a4,sb hG,EX.a6,RA,RB,d2,decide_true,decide_false,Bool.true_and,Bool.false_and]
   first
   | refine aj hd (by simp [eB]) ?_
   | refine aj hno (by simp [eB]) ?_
   simp only [SS,Nat.reduceAdd,ae,EX.q5,uw,ux,gK,b2]
   first
   | exact ag▸ab rfl (af.bool _)
   | (refine aj hn (by simp [af.str]) ?_
      simp only [SS,Nat.reduceAdd]
      exact ag▸ab rfl (af.bool _))
   | (refine aj hc (by intro x hx;simp at hx;rcases hx with rfl | rfl;exact EX.eI _;exact ki _) ?_
      simp only [SS,DD,Nat.reduceAdd,reduceIte,Nat.reduceEqDiff,Bool.not_not]
      exact ag▸ab rfl (af.bool _))
theorem RT {f fd fn jy fc f1:FuncId} {g0:Nat} (h:Has P f (aN fd fn jy fc f1 g0)) (hG:G g0=some bV)
   (n1:Bool) (w1:List Nat) (n2:Bool) (w2:List Nat) (nm:List UInt8) (args:List EX)
   (hd:∃ s,VP P G fd [RR n1 w1 n2 w2] (.tup [.str s, .bool (oD n1 w1 n2 w2)])) (hn:VP P G fn [.str nm] (.bool (bc nm))) (hno:VP P G jy [RR n1 w1 n2 w2] (.bool (fN n1 w1 n2 w2)))
   (hc:VP P G fc [.sl 7 (EX.kR args), .fn (.func f1) [] []] (.bool (!EX.gm args))) :
   VP P G f [(EX.mk 2 n1 w1 n2 w2 nm args).av] (.bool (decide (args.length=0)&&(fN n1 w1 n2 w2&&bc nm))):=by
 have a1:decide ((2:Int)<1)=false:=rfl
 have a2:decide ((7:Int)<2)=false:=rfl
 have a3:decide ((2:Int)=1)=decide (2=1):=rfl
 have a4:decide ((2:Int)=2)=decide (2=2):=rfl
 obtain ⟨s,hd⟩:=hd
 by_cases hl:args.length=0
 case neg =>
   have d2:decide ((args.length:Int)≠0)=true:=ao (by omega)
   have d3:decide (args.length=0)=false:=ak hl
   refine VP.has h ?_
   simp only [aN,SS,DD,Nat.reduceAdd,EX.one,ae,EX.q0,EX.q6,a1,a2,sb hG,EX.a6,RD,RE,d2,d3,Bool.false_and]
   refine ⟨by simp [ar,apart], ?_⟩
   exact ag▸ab rfl (af.bool _)
 have d2:decide ((args.length:Int)≠0)=false:=ak (by omega)
 have d3:decide (args.length=0)=true:=ao hl
 rw [d3]
 cases b3:bc nm<;>cases b4:fN n1 w1 n2 w2 <;>
 . rw [b3] at hn
   rw [b4] at hno
   refine VP.has h ?_
   simp only [aN,SS,DD,Nat.reduceAdd,Nat.reduceEqDiff,EX.one,ae,EX.q0,EX.q1,EX.q6,a1,a2,a3,sb hG,EX.a6,RD,RE,d2,decide_true,decide_false,Bool.and_true,Bool.and_false]
   refine ⟨by simp [ar,apart], ?_⟩
   try simp only [SS,DD,Nat.reduceAdd,reduceIte,Nat.reduceEqDiff,EX.one,ae,EX.q0,EX.q1,EX.q5,EX.q6,EX.l6,a1,a2,a3,a4,sb hG,EX.a6,RD,RE,d2,decide_true,decide_false,Bool.true_and,Bool.false_and]
   first
   | refine aj hd (by simp [eB]) ?_
   | refine aj hno (by simp [eB]) ?_
   simp only [SS,Nat.reduceAdd,ae,EX.q5]
   first
   | exact ag▸ab rfl (af.bool _)
   | (refine aj hn (by simp [af.str]) ?_
      simp only [SS,Nat.reduceAdd]
      exact ag▸ab rfl (af.bool _))
   | (refine aj hc (by intro x hx;simp at hx;rcases hx with rfl | rfl;exact EX.eI _;exact ki _) ?_
      simp only [SS,DD,Nat.reduceAdd,reduceIte,Nat.reduceEqDiff,Bool.not_not]
      exact ag▸ab rfl (af.bool _))
theorem RU {f fd fn jy fc f1:FuncId} {g0:Nat} (h:Has P f (aN fd fn jy fc f1 g0)) (hG:G g0=some bV)
   (n1:Bool) (w1:List Nat) (n2:Bool) (w2:List Nat) (nm:List UInt8) (args:List EX)
   (hd:∃ s,VP P G fd [RR n1 w1 n2 w2] (.tup [.str s, .bool (oD n1 w1 n2 w2)])) (hn:VP P G fn [.str nm] (.bool (bc nm))) (hno:VP P G jy [RR n1 w1 n2 w2] (.bool (fN n1 w1 n2 w2)))
   (hc:VP P G fc [.sl 7 (EX.kR args), .fn (.func f1) [] []] (.bool (!EX.gm args))) :
   VP P G f [(EX.mk 3 n1 w1 n2 w2 nm args).av] (.bool (decide (args.length=1)&&(fN n1 w1 n2 w2&&nm.isEmpty&&EX.gm args))):=by
 have a1:decide ((3:Int)<1)=false:=rfl
 have a2:decide ((7:Int)<3)=false:=rfl
 have a3:decide ((3:Int)=1)=decide (3=1):=rfl
 have a4:decide ((3:Int)=2)=decide (3=2):=rfl
 obtain ⟨s,hd⟩:=hd
 by_cases hl:args.length=1
 case neg =>
   have d2:decide ((args.length:Int)≠1)=true:=ao (by omega)
   have d3:decide (args.length=1)=false:=ak hl
   refine VP.has h ?_
   simp only [aN,SS,DD,Nat.reduceAdd,EX.one,ae,EX.q0,EX.q6,a1,a2,sb hG,EX.a6,RF,RG,d2,d3,Bool.false_and]
   refine ⟨by simp [ar,apart], ?_⟩
   exact ag▸ab rfl (af.bool _)
 have d2:decide ((args.length:Int)≠1)=false:=ak (by omega)
 have d3:decide (args.length=1)=true:=ao hl
 rw [d3]
 cases b2:nm.isEmpty<;>cases b4:fN n1 w1 n2 w2 <;>
 . rw [b4] at hno
   refine VP.has h ?_
   simp only [aN,SS,DD,Nat.reduceAdd,Nat.reduceEqDiff,EX.one,ae,EX.q0,EX.q1,EX.q6,a1,a2,a3,a4,sb hG,EX.a6,RF,RG,d2,decide_false,Bool.true_and,Bool.false_and,Bool.and_true,Bool.and_false]
   refine ⟨by simp [ar,apart], ?_⟩
   try simp only [SS,DD,Nat.reduceAdd,reduceIte,Nat.reduceEqDiff,EX.one,ae,EX.q0,EX.q1,EX.q5,EX.q6,EX.l6,a1,a2,a3,a4,sb hG,EX.a6,RF,RG,d2,decide_true,decide_false,Bool.true_and,Bool.false_and]
   first
   | refine aj hd (by simp [eB]) ?_
   | refine aj hno (by simp [eB]) ?_
   simp only [SS,Nat.reduceAdd,ae,EX.q5,EX.q6,gK,b2]
   first
   | exact ag▸ab rfl (af.bool _)
   | (refine aj hn (by simp [af.str]) ?_
      simp only [SS,DD,Nat.reduceAdd,reduceIte,Nat.reduceEqDiff]
      exact ag▸ab rfl (af.bool _))
   | (refine aj hc (by intro x hx;simp at hx;rcases hx with rfl | rfl;exact EX.eI _;exact ki _) ?_
      simp only [SS,Nat.reduceAdd,Bool.not_not]
      exact ag▸ab rfl (af.bool _))
theorem RW {f fd fn jy fc f1:FuncId} {g0:Nat} (h:Has P f (aN fd fn jy fc f1 g0)) (hG:G g0=some bV)
   (n1:Bool) (w1:List Nat) (n2:Bool) (w2:List Nat) (nm:List UInt8) (args:List EX)
   (hd:∃ s,VP P G fd [RR n1 w1 n2 w2] (.tup [.str s, .bool (oD n1 w1 n2 w2)])) (hn:VP P G fn [.str nm] (.bool (bc nm))) (hno:VP P G jy [RR n1 w1 n2 w2] (.bool (fN n1 w1 n2 w2)))
   (hc:VP P G fc [.sl 7 (EX.kR args), .fn (.func f1) [] []] (.bool (!EX.gm args))) :
   VP P G f [(EX.mk 4 n1 w1 n2 w2 nm args).av] (.bool (decide (args.length=2)&&(fN n1 w1 n2 w2&&nm.isEmpty&&EX.gm args))):=by
 have a1:decide ((4:Int)<1)=false:=rfl
 have a2:decide ((7:Int)<4)=false:=rfl
 have a3:decide ((4:Int)=1)=decide (4=1):=rfl
 have a4:decide ((4:Int)=2)=decide (4=2):=rfl
 obtain ⟨s,hd⟩:=hd
 by_cases hl:args.length=2
 case neg =>
   have d2:decide ((args.length:Int)≠2)=true:=ao (by omega)
   have d3:decide (args.length=2)=false:=ak hl
   refine VP.has h ?_
   simp only [aN,SS,DD,Nat.reduceAdd,EX.one,ae,EX.q0,EX.q6,a1,a2,sb hG,EX.a6,RH,RI,d2,d3,Bool.false_and]
   refine ⟨by simp [ar,apart], ?_⟩
   exact ag▸ab rfl (af.bool _)
 have d2:decide ((args.length:Int)≠2)=false:=ak (by omega)
 have d3:decide (args.length=2)=true:=ao hl
 rw [d3]
 cases b2:nm.isEmpty<;>cases b4:fN n1 w1 n2 w2 <;>
 . rw [b4] at hno
   refine VP.has h ?_
   simp only [aN,SS,DD,Nat.reduceAdd,Nat.reduceEqDiff,EX.one,ae,EX.q0,EX.q1,EX.q6,a1,a2,a3,a4,sb hG,EX.a6,RH,RI,d2,decide_false,Bool.true_and,Bool.false_and,Bool.and_true,Bool.and_false]
   refine ⟨by simp [ar,apart], ?_⟩
   try simp only [SS,DD,Nat.reduceAdd,reduceIte,Nat.reduceEqDiff,EX.one,ae,EX.q0,EX.q1,EX.q5,EX.q6,EX.l6,a1,a2,a3,a4,sb hG,EX.a6,RH,RI,d2,decide_true,decide_false,Bool.true_and,Bool.false_and]
   first
   | refine aj hd (by simp [eB]) ?_
   | refine aj hno (by simp [eB]) ?_
   simp only [SS,Nat.reduceAdd,ae,EX.q5,EX.q6,gK,b2]
   first
   | exact ag▸ab rfl (af.bool _)
   | (refine aj hn (by simp [af.str]) ?_
      simp only [SS,DD,Nat.reduceAdd,reduceIte,Nat.reduceEqDiff]
      exact ag▸ab rfl (af.bool _))
   | (refine aj hc (by intro x hx;simp at hx;rcases hx with rfl | rfl;exact EX.eI _;exact ki _) ?_
      simp only [SS,Nat.reduceAdd,Bool.not_not]
      exact ag▸ab rfl (af.bool _))
theorem RX {f fd fn jy fc f1:FuncId} {g0:Nat} (h:Has P f (aN fd fn jy fc f1 g0)) (hG:G g0=some bV)
   (n1:Bool) (w1:List Nat) (n2:Bool) (w2:List Nat) (nm:List UInt8) (args:List EX)
   (hd:∃ s,VP P G fd [RR n1 w1 n2 w2] (.tup [.str s, .bool (oD n1 w1 n2 w2)])) (hn:VP P G fn [.str nm] (.bool (bc nm))) (hno:VP P G jy [RR n1 w1 n2 w2] (.bool (fN n1 w1 n2 w2)))
   (hc:VP P G fc [.sl 7 (EX.kR args), .fn (.func f1) [] []] (.bool (!EX.gm args))) :
   VP P G f [(EX.mk 5 n1 w1 n2 w2 nm args).av] (.bool (decide (args.length=2)&&(fN n1 w1 n2 w2&&nm.isEmpty&&EX.gm args))):=by
 have a1:decide ((5:Int)<1)=false:=rfl
 have a2:decide ((7:Int)<5)=false:=rfl
 have a3:decide ((5:Int)=1)=decide (5=1):=rfl
 have a4:decide ((5:Int)=2)=decide (5=2):=rfl
 obtain ⟨s,hd⟩:=hd
 by_cases hl:args.length=2
 case neg =>
   have d2:decide ((args.length:Int)≠2)=true:=ao (by omega)
   have d3:decide (args.length=2)=false:=ak hl
   refine VP.has h ?_
   simp only [aN,SS,DD,Nat.reduceAdd,EX.one,ae,EX.q0,EX.q6,a1,a2,sb hG,EX.a6,RJ,RL,d2,d3,Bool.false_and]
   refine ⟨by simp [ar,apart], ?_⟩
   exact ag▸ab rfl (af.bool _)
 have d2:decide ((args.length:Int)≠2)=false:=ak (by omega)
 have d3:decide (args.length=2)=true:=ao hl
 rw [d3]
 cases b2:nm.isEmpty<;>cases b4:fN n1 w1 n2 w2 <;>
 . rw [b4] at hno
   refine VP.has h ?_
   simp only [aN,SS,DD,Nat.reduceAdd,Nat.reduceEqDiff,EX.one,ae,EX.q0,EX.q1,EX.q6,a1,a2,a3,a4,sb hG,EX.a6,RJ,RL,d2,decide_false,Bool.true_and,Bool.false_and,Bool.and_true,Bool.and_false]
   refine ⟨by simp [ar,apart], ?_⟩
   try simp only [SS,DD,Nat.reduceAdd,reduceIte,Nat.reduceEqDiff,EX.one,ae,EX.q0,EX.q1,EX.q5,EX.q6,EX.l6,a1,a2,a3,a4,sb hG,EX.a6,RJ,RL,d2,decide_true,decide_false,Bool.true_and,Bool.false_and]
   first
   | refine aj hd (by simp [eB]) ?_
   | refine aj hno (by simp [eB]) ?_
   simp only [SS,Nat.reduceAdd,ae,EX.q5,EX.q6,gK,b2]
   first
   | exact ag▸ab rfl (af.bool _)
   | (refine aj hn (by simp [af.str]) ?_
      simp only [SS,DD,Nat.reduceAdd,reduceIte,Nat.reduceEqDiff]
      exact ag▸ab rfl (af.bool _))
   | (refine aj hc (by intro x hx;simp at hx;rcases hx with rfl | rfl;exact EX.eI _;exact ki _) ?_
      simp only [SS,Nat.reduceAdd,Bool.not_not]
      exact ag▸ab rfl (af.bool _))
theorem RY {f fd fn jy fc f1:FuncId} {g0:Nat} (h:Has P f (aN fd fn jy fc f1 g0)) (hG:G g0=some bV)
   (n1:Bool) (w1:List Nat) (n2:Bool) (w2:List Nat) (nm:List UInt8) (args:List EX)
   (hd:∃ s,VP P G fd [RR n1 w1 n2 w2] (.tup [.str s, .bool (oD n1 w1 n2 w2)])) (hn:VP P G fn [.str nm] (.bool (bc nm))) (hno:VP P G jy [RR n1 w1 n2 w2] (.bool (fN n1 w1 n2 w2)))
   (hc:VP P G fc [.sl 7 (EX.kR args), .fn (.func f1) [] []] (.bool (!EX.gm args))) :
   VP P G f [(EX.mk 6 n1 w1 n2 w2 nm args).av] (.bool (decide (args.length=2)&&(fN n1 w1 n2 w2&&nm.isEmpty&&EX.gm args))):=by
 have a1:decide ((6:Int)<1)=false:=rfl
 have a2:decide ((7:Int)<6)=false:=rfl
 have a3:decide ((6:Int)=1)=decide (6=1):=rfl
 have a4:decide ((6:Int)=2)=decide (6=2):=rfl
 obtain ⟨s,hd⟩:=hd
 by_cases hl:args.length=2
 case neg =>
   have d2:decide ((args.length:Int)≠2)=true:=ao (by omega)
   have d3:decide (args.length=2)=false:=ak hl
   refine VP.has h ?_
   simp only [aN,SS,DD,Nat.reduceAdd,EX.one,ae,EX.q0,EX.q6,a1,a2,sb hG,EX.a6,RM,RN,d2,d3,Bool.false_and]
   refine ⟨by simp [ar,apart], ?_⟩
   exact ag▸ab rfl (af.bool _)
 have d2:decide ((args.length:Int)≠2)=false:=ak (by omega)
 have d3:decide (args.length=2)=true:=ao hl
 rw [d3]
 cases b2:nm.isEmpty<;>cases b4:fN n1 w1 n2 w2 <;>
 . rw [b4] at hno
   refine VP.has h ?_
   simp only [aN,SS,DD,Nat.reduceAdd,Nat.reduceEqDiff,EX.one,ae,EX.q0,EX.q1,EX.q6,a1,a2,a3,a4,sb hG,EX.a6,RM,RN,d2,decide_false,Bool.true_and,Bool.false_and,Bool.and_true,Bool.and_false]
   refine ⟨by simp [ar,apart], ?_⟩
   try simp only [SS,DD,Nat.reduceAdd,reduceIte,Nat.reduceEqDiff,EX.one,ae,EX.q0,EX.q1,EX.q5,EX.q6,EX.l6,a1,a2,a3,a4,sb hG,EX.a6,RM,RN,d2,decide_true,decide_false,Bool.true_and,Bool.false_and]
   first
   | refine aj hd (by simp [eB]) ?_
   | refine aj hno (by simp [eB]) ?_
   simp only [SS,Nat.reduceAdd,ae,EX.q5,EX.q6,gK,b2]
   first
   | exact ag▸ab rfl (af.bool _)
   | (refine aj hn (by simp [af.str]) ?_
      simp only [SS,DD,Nat.reduceAdd,reduceIte,Nat.reduceEqDiff]
      exact ag▸ab rfl (af.bool _))
   | (refine aj hc (by intro x hx;simp at hx;rcases hx with rfl | rfl;exact EX.eI _;exact ki _) ?_
      simp only [SS,Nat.reduceAdd,Bool.not_not]
      exact ag▸ab rfl (af.bool _))
theorem RZ {f fd fn jy fc f1:FuncId} {g0:Nat} (h:Has P f (aN fd fn jy fc f1 g0)) (hG:G g0=some bV)
   (n1:Bool) (w1:List Nat) (n2:Bool) (w2:List Nat) (nm:List UInt8) (args:List EX)
   (hd:∃ s,VP P G fd [RR n1 w1 n2 w2] (.tup [.str s, .bool (oD n1 w1 n2 w2)])) (hn:VP P G fn [.str nm] (.bool (bc nm))) (hno:VP P G jy [RR n1 w1 n2 w2] (.bool (fN n1 w1 n2 w2)))
   (hc:VP P G fc [.sl 7 (EX.kR args), .fn (.func f1) [] []] (.bool (!EX.gm args))) :
   VP P G f [(EX.mk 7 n1 w1 n2 w2 nm args).av] (.bool (decide (args.length=2)&&(fN n1 w1 n2 w2&&nm.isEmpty&&EX.gm args))):=by
 have a1:decide ((7:Int)<1)=false:=rfl
 have a2:decide ((7:Int)<7)=false:=rfl
 have a3:decide ((7:Int)=1)=decide (7=1):=rfl
 have a4:decide ((7:Int)=2)=decide (7=2):=rfl
 obtain ⟨s,hd⟩:=hd
 by_cases hl:args.length=2
 case neg =>
   have d2:decide ((args.length:Int)≠2)=true:=ao (by omega)
   have d3:decide (args.length=2)=false:=ak hl
   refine VP.has h ?_
   simp only [aN,SS,DD,Nat.reduceAdd,EX.one,ae,EX.q0,EX.q6,a1,a2,sb hG,EX.a6,RO,RP,d2,d3,Bool.false_and]
   refine ⟨by simp [ar,apart], ?_⟩
   exact ag▸ab rfl (af.bool _)
 have d2:decide ((args.length:Int)≠2)=false:=ak (by omega)
 have d3:decide (args.length=2)=true:=ao hl
 rw [d3]
 cases b2:nm.isEmpty<;>cases b4:fN n1 w1 n2 w2 <;>
 . rw [b4] at hno
   refine VP.has h ?_
   simp only [aN,SS,DD,Nat.reduceAdd,Nat.reduceEqDiff,EX.one,ae,EX.q0,EX.q1,EX.q6,a1,a2,a3,a4,sb hG,EX.a6,RO,RP,d2,decide_false,Bool.true_and,Bool.false_and,Bool.and_true,Bool.and_false]
   refine ⟨by simp [ar,apart], ?_⟩
   try simp only [SS,DD,Nat.reduceAdd,reduceIte,Nat.reduceEqDiff,EX.one,ae,EX.q0,EX.q1,EX.q5,EX.q6,EX.l6,a1,a2,a3,a4,sb hG,EX.a6,RO,RP,d2,decide_true,decide_false,Bool.true_and,Bool.false_and]
   first
   | refine aj hd (by simp [eB]) ?_
   | refine aj hno (by simp [eB]) ?_
   simp only [SS,Nat.reduceAdd,ae,EX.q5,EX.q6,gK,b2]
   first
   | exact ag▸ab rfl (af.bool _)
   | (refine aj hn (by simp [af.str]) ?_
      simp only [SS,DD,Nat.reduceAdd,reduceIte,Nat.reduceEqDiff]
      exact ag▸ab rfl (af.bool _))
   | (refine aj hc (by intro x hx;simp at hx;rcases hx with rfl | rfl;exact EX.eI _;exact ki _) ?_
      simp only [SS,Nat.reduceAdd,Bool.not_not]
      exact ag▸ab rfl (af.bool _))
end
end Go.VL
end

section
set_option linter.unusedVariables false
namespace Go.VL
theorem UJ (args:List EX):(EX.kR args).any Rz = !EX.gm args:=by
 rw [EX.cF,EX.wv]
 induction args with
 | nil=>rfl
 | cons a l ih=>simp only [List.map_cons,List.any_cons,List.all_cons,IX,ih,Bool.not_and]
theorem EX.Du:∀ l:List EX,l.length<=EX.cT l
 | []=>Nat.le_refl _
 | e::l=>by rw [EX.cT,List.length_cons];have:=EX.On e;have:=EX.Du l;omega
theorem EX.sV {x:EX}:∀ {l:List EX},x∈l->x.nodes<=EX.cT l
 | e::l,h=>by
   rw [EX.cT]
   rcases List.mem_cons.1 h with rfl | h
   . omega
   . have:=EX.sV h;omega
theorem EX.IY:∀ e:EX,e.depth<=e.nodes:=EX.induct fun op n1 w1 n2 w2 nm args ih=>by
 rw [EX.depth,EX.nodes]
 suffices h:EX.fH args<=EX.cT args by omega
 induction args with
 | nil=>exact Nat.le_refl _
 | cons a l ihl =>
   rw [EX.fH,EX.cT]
   have h1:=ih a (by simp)
   have h2:=ihl fun x hx=>ih x (by simp [hx])
   omega
theorem EX.wx (x:EX):∀ l,EX.fH (l++[x])=max (EX.fH l) x.depth
 | []=>by simp [EX.fH]
 | a::l=>by rw [List.cons_append,EX.fH,EX.fH,EX.wx x l];omega
theorem EX.AL (l:List EX) (k:Nat):EX.fH (l.take k)<=EX.cT l:=by
 induction l generalizing k with
 | nil=>simp [EX.fH]
 | cons a l ih =>
   cases k with
   | zero=>simp [EX.fH]
   | succ k =>
     rw [List.take_succ_cons,EX.fH,EX.cT]
     have:=ih k
     have:=EX.IY a
     omega
theorem EX.qY {op n1 w1 n2 w2 nm args} (h:(EX.mk op n1 w1 n2 w2 nm args).Ok):∀ x∈args,x.Ok:=by
 rw [EX.Ok] at h
 exact EX.Gp.1 h.2.2.2.2.2.2.2.2
theorem EX.uy {op n1 w1 n2 w2 nm args} (h:(EX.mk op n1 w1 n2 w2 nm args).nu=true):(∀ x∈args,x.nu=true)/\w1.length<=8/\w2.length<=8/\nm.length<=60:=by
 rw [EX.nu,EX.yc] at h
 simp only [Bool.and_eq_true,List.all_eq_true,decide_eq_true_eq] at h
 exact ⟨h.1.1.1,h.1.1.2,h.1.2,h.2⟩
theorem Ot:((AV.agg [.int .i64 0, .bool false, .nils, .bool false, .nils, .str [], .nils]).cells.all AV.one=true)=True:=by simp [AV.cells,AV.one]
theorem EX.upd (e:EX):(AV.agg [.int .i64 0, .bool false, .nils, .bool false, .nils, .str [], .nils]).upd 0 e.av.cells=e.av:=by cases e;rw [EX.av];rfl
theorem MS {σ : aa} {id:Id} {k:Nat} {e:EX} (h : σ id=some ⟨[.agg [.int .i64 0, .bool false, .nils, .bool false, .nils, .str [], .nils]],k,false⟩):eK σ 7 (.ref id 0 0) e.av=some { val := .tup [],rd:=[id],up:=[(id,some ⟨[e.av],k,false⟩)] }:=by
 rw [cA (n:=7) (v:=e.av) h rfl (by rw [show e.av.cells.length=7 from EX.size e]) (by simp [AV.size,AV.cells]) (of_eq_true (EX.one e))]
 simp [EX.upd]
section
variable {P:Program} {G:Nat->Option (List AV)}
theorem Ou {f fd fn jy fc f1 fi:FuncId} {g0:Nat} (h:Has P f (aN fd fn jy fc f1 g0)) (hG:G g0=some bV) (h1:Has P f1 (jN f))
   (hcf:Has P fc (bu fi)) (QD:Has P fi bG)
   (hd:∀ n1 w1 n2 w2,Wd w1->Wd w2->w1.length<=8->w2.length<=8->∃ s,VP P G fd [RR n1 w1 n2 w2] (.tup [.str s, .bool (oD n1 w1 n2 w2)])) (hn:∀ s,VP P G fn [.str s] (.bool (bc s)))
   (hno:∀ n1 w1 n2 w2,VP P G jy [RR n1 w1 n2 w2] (.bool (fN n1 w1 n2 w2))):∀ e:EX,e.Ok->e.nu=true->e.nodes<=1000->VP P G f [e.av] (.bool e.formed):=EX.induct fun op n1 w1 n2 w2 nm args ih mh Y1 Ah=>by
 have yt:EX.cT args<=999:=by rw [EX.nodes] at Ah;omega
 have aeh:args.length<=999:=Nat.le_trans (EX.Du args) yt
 obtain ⟨Wn,mO,uH,aei⟩:=EX.uy Y1
 have R1:=EX.qY mh
 rw [EX.Ok] at mh
 obtain ⟨ho1,ho2,uJ,wN,_,_,_,GK,_⟩:=mh
 have hcc:VP P G fc [.sl 7 (EX.kR args), .fn (.func f1) [] []] (.bool (!EX.gm args)):=by
   rw [<- UJ]
   refine eZ hcf (fZ QD ?_ ?_ ?_ (by simp) (by simp) (by rw [EX.a6];omega)) (EX.eI _) (ki _)
   all_goals
     intro v hv
     rw [EX.cF] at hv
     obtain ⟨x,hx,rfl⟩:=List.mem_map.1 hv
   . exact EX.all x
   . rw [IX];exact KN h1 x (ih x hx (R1 x hx) (Wn x hx) (by have:=EX.sV hx;omega))
   . exact EX.pure x
 have hdd:=hd n1 w1 n2 w2 uJ wN mO uH
 rw [EX.formed]
 by_cases o1:op<1
 . rw [ak (by omega : ¬ 1<=op),Bool.false_and,Bool.false_and,Bool.false_and]
   exact Oo h _ _ _ _ _ _ _ o1
 by_cases o7:7<op
 . rw [ak (by omega : ¬ op<=7),Bool.and_false,Bool.false_and,Bool.false_and]
   exact Oq h _ _ _ _ _ _ _ o7
 have KO:op=1∨op=2∨op=3∨op=4∨op=5∨op=6∨op=7:=by omega
 rcases KO with e | e | e | e | e | e | e<;>subst e
 . exact RQ h hG n1 w1 n2 w2 nm args hdd (hn _) (hno _ _ _ _) hcc
 . exact RT h hG n1 w1 n2 w2 nm args hdd (hn _) (hno _ _ _ _) hcc
 . exact RU h hG n1 w1 n2 w2 nm args hdd (hn _) (hno _ _ _ _) hcc
 . exact RW h hG n1 w1 n2 w2 nm args hdd (hn _) (hno _ _ _ _) hcc
 . exact RX h hG n1 w1 n2 w2 nm args hdd (hn _) (hno _ _ _ _) hcc
 . exact RY h hG n1 w1 n2 w2 nm args hdd (hn _) (hno _ _ _ _) hcc
 . exact RZ h hG n1 w1 n2 w2 nm args hdd (hn _) (hno _ _ _ _) hcc
theorem Ov {f:FuncId} (h:Has P f (oU f)):∀ e:EX,e.nodes<=1000->VP P G f [e.av] (.int .i64 (e.depth:Int)):=EX.induct fun op n1 w1 n2 w2 nm args ih Ah=>by
 have yt:EX.cT args<=999:=by rw [EX.nodes] at Ah;omega
 have GK:args.length<=999:=Nat.le_trans (EX.Du args) yt
 rw [EX.depth]
 refine VP.has h ?_
 simp only [oU,SS,Nat.reduceAdd,EX.one,ae,EX.q6,EX.a6,aD]
 refine VW.bL (α := Nat × Nat) (fun x=>⟨[(EX.mk op n1 w1 n2 w2 nm args).av, .top, .top, .int .i64 ((EX.fH (args.take x.1):Nat):Int), .top, .top, .top, .sl 7 (EX.kR args), .int .i64 (args.length:Int), .int .i64 (x.1:Int)]++List.replicate 10 .top,fun _=>none,x.2⟩)
   (fun x=>x.1<=args.length) (fun x=>args.length-x.1) (0,1000) ?_ (Nat.zero_le _) ?_
 . exact Wk.forget (by simp [Fg,List.replicate,EX.fH]) (fun j => .inl rfl) (by simp only [];omega)
 rintro ⟨i,nn⟩ hi
 simp only [] at hi
 by_cases hlt:i<args.length
 . obtain ⟨x,hx⟩:∃ x,args[i]? = some x:=⟨_,List.getElem?_eq_getElem hlt⟩
   have hm:=List.mem_of_getElem? hx
   have NW:=EX.sV hm
   have hg:(EX.kR args)[i]? = some x.av:=by rw [EX.cF,List.getElem?_map,hx];rfl
   have d1:decide ((i:Int)<(args.length:Int))=true:=ao (by omega)
   have hdx:=EX.IY x
   have UF:=EX.AL args i
   simp only [SS,Nat.reduceAdd,d1,aQ rfl hg,az,EX.all,Ot]
   rw [MS (k:=(AV.agg [.int .i64 0, .bool false, .nils, .bool false, .nils, .str [], .nils]).size) (by simp [aa.put])]
   simp only [SS,Nat.reduceAdd,ae,EX.all]
   refine aj (ih x hm (by omega)) (by simp [EX.pure]) ?_
   simp only [SS,Nat.reduceAdd,aq i (by omega)]
   have em:(if (x.depth:Int)>((EX.fH (args.take i):Nat):Int) then (x.depth:Int) else ((EX.fH (args.take i):Nat):Int))=((EX.fH (args.take (i+1)):Nat):Int):=by
     rw [List.take_add_one,hx,Option.toList_some,EX.wx]
     split<;>omega
   simp only [em]
   exact ⟨(i+1,_),by simp only [];omega,by simp only [];omega,Wk.forget (by simp [Fg]) (fun _ => .inl rfl) (Nat.le_refl _)⟩
 . have d1:decide ((i:Int)<(args.length:Int))=false:=ak (by omega)
   have jc:i=args.length:=by omega
   have UF:=EX.AL args args.length
   rw [List.take_length] at UF
   have hw:IntKind.i64.wrap (((EX.fH args:Nat):Int)+1)=((EX.fH args+1:Nat):Int):=by rw [IntKind.wrap_i64];omega
   subst jc
   rw [List.take_length]
   simp only [SS,Nat.reduceAdd,d1,hw]
   exact ag▸ab rfl (af.int _ _)
theorem Ow {f ff fd:FuncId} (h:Has P f (kg ff fd)) (e:EX) (hf:VP P G ff [e.av] (.bool e.formed)) (hd:VP P G fd [e.av] (.int .i64 (e.depth:Int))) :
   VP P G f [e.av] (.int .i64 (if e.formed=true then (if 40<e.depth then 3 else 0) else 1)):=by
 cases GZ:e.formed
 . rw [GZ] at hf
   refine VP.has h ?_
   simp only [kg,SS,Nat.reduceAdd,EX.one,ae,EX.all]
   refine aj hf (by simp [EX.pure]) ?_
   simp only [SS,Nat.reduceAdd]
   exact ag▸ab rfl (af.int _ _)
 . rw [GZ] at hf
   by_cases hdp:40<e.depth
   . have d1:decide ((40:Int)<(e.depth:Int))=true:=ao (by omega)
     rw [if_pos rfl,if_pos hdp]
     refine VP.has h ?_
     simp only [kg,SS,Nat.reduceAdd,EX.one,ae,EX.all]
     refine aj hf (by simp [EX.pure]) ?_
     simp only [SS,Nat.reduceAdd,ae,EX.all]
     refine aj hd (by simp [EX.pure]) ?_
     simp only [SS,Nat.reduceAdd,d1]
     exact ag▸ab rfl (af.int _ _)
   . have d1:decide ((40:Int)<(e.depth:Int))=false:=ak (by omega)
     rw [if_pos rfl,if_neg hdp]
     refine VP.has h ?_
     simp only [kg,SS,Nat.reduceAdd,EX.one,ae,EX.all]
     refine aj hf (by simp [EX.pure]) ?_
     simp only [SS,Nat.reduceAdd,ae,EX.all]
     refine aj hd (by simp [EX.pure]) ?_
     simp only [SS,Nat.reduceAdd,d1]
     exact ag▸ab rfl (af.int _ _)
end
end Go.VL
end

section
set_option linter.unusedVariables false
set_option linter.unusedVariables false
namespace Go.VL
theorem VP.aej {P:Program} {G:Nat->Option (List AV)} {f:FuncId} {vf:ay} (h:Has P f vf) {args:List AV} {r:AV} (k:VW P G [] vf.body (Hj vf.results r) ⟨args++List.replicate (vf.nt-args.length) (.tup []),fun _=>none,0⟩):VP P G f args r:=by
 obtain ⟨fn,h1,h2⟩:=h
 exact VP.Vy h1 h2 k
theorem VW.UK {P:Program} {G:Nat->Option (List AV)} {π : Id} {Q:cD->VS->Prop} {x y rest:bW} {s:VS} (st:VS)
   (h1:∀ (K:VS->Prop),(∀ s',Wk G π s' st->K s')->sq P G π x (Then (sq P G π y (Then K Q)) Q) s) (h2:sq P G π rest Q st):VW P G π (.seq x (.seq y rest)) Q s:=by
 refine VW.Iz ((VW.of (h1 (fun s'=>VW P G π rest Q s') (fun s' hw=>VW.cut hw h2))).mono ?_)
 intro e s' hq
 cases e with
 | normal=>exact VW.Iz (VW.of hq)
 | exit _=>exact hq
 | ret=>exact hq
section
variable (op:Int) (n1:Bool) (w1:List Nat) (n2:Bool) (w2:List Nat) (nm:List UInt8) (args:List EX)
theorem EX.r1:part false (EX.mk op n1 w1 n2 w2 nm args).av.cells 1 1=some (.bool n1):=by rw [EX.av];rfl
theorem EX.r2:part false (EX.mk op n1 w1 n2 w2 nm args).av.cells 2 1=some (.sl 1 (us w1)):=by rw [EX.av];rfl
theorem EX.r3:part false (EX.mk op n1 w1 n2 w2 nm args).av.cells 3 1=some (.bool n2):=by rw [EX.av];rfl
theorem EX.r4:part false (EX.mk op n1 w1 n2 w2 nm args).av.cells 4 1=some (.sl 1 (us w2)):=by rw [EX.av];rfl
end
def gO (op:Int) (n1:Bool) (w1:List Nat) (n2:Bool) (w2:List Nat) (nm:List UInt8) (al:Nat):Bool :=
 if op=1 then oD n1 w1 n2 w2&&(nm.isEmpty||bc nm)&&decide (al=0)
 else if op=2 then fN n1 w1 n2 w2&&bc nm&&decide (al=0)
 else if op=3 then fN n1 w1 n2 w2&&nm.isEmpty&&decide (al=1)
 else if 4<=op/\op<=7 then fN n1 w1 n2 w2&&nm.isEmpty&&decide (al=2)
 else false
section
variable {P:Program} {G:Nat->Option (List AV)}
def bW.zt:bW->bW
 | .seq _ (.seq _ r)=>r
 | c=>c
def om (op:Int) (n1:Bool) (w1:List Nat) (n2:Bool) (w2:List Nat) (nm:List UInt8) (args:List EX) (b:Bool):VS :=
 ⟨[(EX.mk op n1 w1 n2 w2 nm args).av, .ref [0] 0 0, .bool false, .bool b]++List.replicate 102 .top,aa.put (fun _=>none) [0] (some ⟨[(EX.mk op n1 w1 n2 w2 nm args).av],7,false⟩),200⟩
theorem mJ {f fd fn:FuncId} (h:Has P f (aH fd fn)) (op:Int) (n1:Bool) (w1:List Nat) (n2:Bool) (w2:List Nat) (nm:List UInt8) (args:List EX) {r:AV}
   (hr:sq P G [] (aH fd fn).body.zt (Hj [.tmp 2] r) (om op n1 w1 n2 w2 nm args (fN n1 w1 n2 w2))):VP P G f [(EX.mk op n1 w1 n2 w2 nm args).av] r:=by
 have hlen:∀ ws,jK false (.sl 1 (us ws))=some (.int .i64 ws.length):=fun ws=>by simp [jK,dD]
 have d1:decide ((w1.length:Int)=0)=w1.isEmpty:=by cases w1<;>simp<;>omega
 have d2:decide ((w2.length:Int)=0)=w2.isEmpty:=by cases w2<;>simp<;>omega
 refine VP.aej h ?_
 unfold aH
 refine VW.UK (om op n1 w1 n2 w2 nm args (fN n1 w1 n2 w2)) ?_ hr
 . intro K hK
   unfold fN at hK
   cases b1:w1.isEmpty<;>cases b2:w2.isEmpty<;>cases n1<;>cases n2 <;>
   . rw [b1] at d1;rw [b2] at d2
     rw [b1,b2] at hK
     simp only [SS,Nat.reduceAdd,EX.one,ae,EX.r1,EX.r2,EX.r3,EX.r4,hlen,d1,d2]
     exact hK _ (Wk.slots (by simp [Fg,List.replicate]) (by decide))
set_option maxHeartbeats 2000000 in
theorem UL {f fd fn:FuncId} (h:Has P f (aH fd fn)) (op:Int) (n1:Bool) (w1:List Nat) (n2:Bool) (w2:List Nat) (nm:List UInt8) (args:List EX)
   (hd:∃ s,VP P G fd [RR n1 w1 n2 w2] (.tup [.str s, .bool (oD n1 w1 n2 w2)])) (hn:VP P G fn [.str nm] (.bool (bc nm))) (e:op=1) :
   VP P G f [(EX.mk op n1 w1 n2 w2 nm args).av] (.bool (gO 1 n1 w1 n2 w2 nm args.length)):=by
 obtain ⟨s,hd⟩:=hd
 have c1:decide (op=1)=decide (1=1):=by rw [e];rfl
 have c2:decide (op=2)=decide (1=2):=by rw [e];rfl
 have c3:decide (op=3)=decide (1=3):=by rw [e];rfl
 have c4:decide (op=4)=decide (1=4):=by rw [e];rfl
 have c5:decide (op=5)=decide (1=5):=by rw [e];rfl
 have c6:decide (op=6)=decide (1=6):=by rw [e];rfl
 have c7:decide (op=7)=decide (1=7):=by rw [e];rfl
 have l0:decide ((args.length:Int)=0)=decide (args.length=0):=by by_cases q:args.length=0<;>simp [q]<;>omega
 have l1:decide ((args.length:Int)=1)=decide (args.length=1):=by by_cases q:args.length=1<;>simp [q]<;>omega
 have l2:decide ((args.length:Int)=2)=decide (args.length=2):=by by_cases q:args.length=2<;>simp [q]<;>omega
 refine mJ h op n1 w1 n2 w2 nm args ?_
 unfold gO om
 generalize decide (args.length=0)=L0 at l0 ⊢
 generalize decide (args.length=1)=L1 at l1 ⊢
 generalize decide (args.length=2)=L2 at l2 ⊢
 cases b1:oD n1 w1 n2 w2<;>cases b2:nm.isEmpty<;>cases b3:bc nm <;>
 . rw [b1] at hd
   rw [b3] at hn
   simp only [aH,bW.zt,SS,Nat.reduceAdd,ae,EX.q0,EX.q1,c1,decide_true,Bool.true_and,Bool.false_and,Bool.or_true,Bool.or_false]
   first
   | exact ag▸ab rfl (af.bool _)
   | (refine aj hn (by simp [af.str]) ?_
      simp only [SS,Nat.reduceAdd,reduceIte,Nat.reduceEqDiff,ae,EX.q6,EX.a6,l0]
      exact ag▸ab rfl (af.bool _))
   | (refine aj hd (by simp [eB]) ?_
      simp only [SS,Nat.reduceAdd,uw,ux,ae,EX.q5,EX.q6,EX.a6,l0,gK,b2]
      first
      | exact ag▸ab rfl (af.bool _)
      | (refine aj hn (by simp [af.str]) ?_
         simp only [SS,Nat.reduceAdd,ae,EX.q6,EX.a6,l0]
         exact ag▸ab rfl (af.bool _)))
set_option maxHeartbeats 2000000 in
theorem UM {f fd fn:FuncId} (h:Has P f (aH fd fn)) (op:Int) (n1:Bool) (w1:List Nat) (n2:Bool) (w2:List Nat) (nm:List UInt8) (args:List EX)
   (hd:∃ s,VP P G fd [RR n1 w1 n2 w2] (.tup [.str s, .bool (oD n1 w1 n2 w2)])) (hn:VP P G fn [.str nm] (.bool (bc nm))) (e:op=2) :
   VP P G f [(EX.mk op n1 w1 n2 w2 nm args).av] (.bool (gO 2 n1 w1 n2 w2 nm args.length)):=by
 obtain ⟨s,hd⟩:=hd
 have c1:decide (op=1)=decide (2=1):=by rw [e];rfl
 have c2:decide (op=2)=decide (2=2):=by rw [e];rfl
 have c3:decide (op=3)=decide (2=3):=by rw [e];rfl
 have c4:decide (op=4)=decide (2=4):=by rw [e];rfl
 have c5:decide (op=5)=decide (2=5):=by rw [e];rfl
 have c6:decide (op=6)=decide (2=6):=by rw [e];rfl
 have c7:decide (op=7)=decide (2=7):=by rw [e];rfl
 have l0:decide ((args.length:Int)=0)=decide (args.length=0):=by by_cases q:args.length=0<;>simp [q]<;>omega
 have l1:decide ((args.length:Int)=1)=decide (args.length=1):=by by_cases q:args.length=1<;>simp [q]<;>omega
 have l2:decide ((args.length:Int)=2)=decide (args.length=2):=by by_cases q:args.length=2<;>simp [q]<;>omega
 refine mJ h op n1 w1 n2 w2 nm args ?_
 unfold gO om
 generalize decide (args.length=0)=L0 at l0 ⊢
 generalize decide (args.length=1)=L1 at l1 ⊢
 generalize decide (args.length=2)=L2 at l2 ⊢
 cases b3:bc nm<;>cases b4:fN n1 w1 n2 w2 <;>
 . rw [b3] at hn
   simp only [aH,bW.zt,SS,Nat.reduceAdd,Nat.reduceEqDiff,ae,EX.q0,EX.q5,c1,c2,decide_true,decide_false,Bool.true_and,Bool.false_and,Bool.or_true,Bool.or_false]
   first
   | exact ag▸ab rfl (af.bool _)
   | (refine aj hn (by simp [af.str]) ?_
      simp only [SS,Nat.reduceAdd,ae,EX.q6,EX.a6,l0]
      exact ag▸ab rfl (af.bool _))
   | (refine aj hd (by simp [eB]) ?_
      simp only [SS,Nat.reduceAdd,reduceIte,Nat.reduceEqDiff,uw,ux,ae,EX.q0,EX.q1,EX.q5,EX.q6,EX.l6,EX.a6,c1,c2,c3,c4,c5,c6,c7,l0,l1,l2,gK,decide_true,decide_false,Bool.true_and,Bool.false_and,Bool.or_true,Bool.or_false,Bool.true_or,Bool.false_or]
      first
      | exact ag▸ab rfl (af.bool _)
      | (refine aj hn (by simp [af.str]) ?_
         simp only [SS,Nat.reduceAdd,reduceIte,Nat.reduceEqDiff,ae,EX.q6,EX.a6,l0]
         exact ag▸ab rfl (af.bool _)))
set_option maxHeartbeats 2000000 in
theorem UN {f fd fn:FuncId} (h:Has P f (aH fd fn)) (op:Int) (n1:Bool) (w1:List Nat) (n2:Bool) (w2:List Nat) (nm:List UInt8) (args:List EX)
   (hd:∃ s,VP P G fd [RR n1 w1 n2 w2] (.tup [.str s, .bool (oD n1 w1 n2 w2)])) (hn:VP P G fn [.str nm] (.bool (bc nm))) (e:op=3) :
   VP P G f [(EX.mk op n1 w1 n2 w2 nm args).av] (.bool (gO 3 n1 w1 n2 w2 nm args.length)):=by
 obtain ⟨s,hd⟩:=hd
 have c1:decide (op=1)=decide (3=1):=by rw [e];rfl
 have c2:decide (op=2)=decide (3=2):=by rw [e];rfl
 have c3:decide (op=3)=decide (3=3):=by rw [e];rfl
 have c4:decide (op=4)=decide (3=4):=by rw [e];rfl
 have c5:decide (op=5)=decide (3=5):=by rw [e];rfl
 have c6:decide (op=6)=decide (3=6):=by rw [e];rfl
 have c7:decide (op=7)=decide (3=7):=by rw [e];rfl
 have l0:decide ((args.length:Int)=0)=decide (args.length=0):=by by_cases q:args.length=0<;>simp [q]<;>omega
 have l1:decide ((args.length:Int)=1)=decide (args.length=1):=by by_cases q:args.length=1<;>simp [q]<;>omega
 have l2:decide ((args.length:Int)=2)=decide (args.length=2):=by by_cases q:args.length=2<;>simp [q]<;>omega
 refine mJ h op n1 w1 n2 w2 nm args ?_
 unfold gO om
 generalize decide (args.length=0)=L0 at l0 ⊢
 generalize decide (args.length=1)=L1 at l1 ⊢
 generalize decide (args.length=2)=L2 at l2 ⊢
 cases b2:nm.isEmpty<;>cases b4:fN n1 w1 n2 w2 <;>
 . skip
   simp only [aH,bW.zt,SS,Nat.reduceAdd,Nat.reduceEqDiff,ae,EX.q0,EX.q5,EX.q6,EX.a6,c1,c2,c3,l1,gK,b2,decide_true,decide_false,Bool.true_and,Bool.false_and,Bool.true_or,Bool.false_or]
   first
   | exact ag▸ab rfl (af.bool _)
   | (refine aj hn (by simp [af.str]) ?_
      simp only [SS,Nat.reduceAdd,reduceIte,Nat.reduceEqDiff,ae,EX.q6,EX.a6,l0]
      exact ag▸ab rfl (af.bool _))
   | (refine aj hd (by simp [eB]) ?_
      simp only [SS,Nat.reduceAdd,reduceIte,Nat.reduceEqDiff,uw,ux,ae,EX.q0,EX.q1,EX.q5,EX.q6,EX.l6,EX.a6,c1,c2,c3,c4,c5,c6,c7,l0,l1,l2,gK,b2,decide_true,decide_false,Bool.true_and,Bool.false_and,Bool.or_true,Bool.or_false,Bool.true_or,Bool.false_or]
      first
      | exact ag▸ab rfl (af.bool _)
      | (refine aj hn (by simp [af.str]) ?_
         simp only [SS,Nat.reduceAdd,reduceIte,Nat.reduceEqDiff,ae,EX.q6,EX.a6,l0]
         exact ag▸ab rfl (af.bool _)))
set_option maxHeartbeats 2000000 in
theorem UO {f fd fn:FuncId} (h:Has P f (aH fd fn)) (op:Int) (n1:Bool) (w1:List Nat) (n2:Bool) (w2:List Nat) (nm:List UInt8) (args:List EX)
   (hd:∃ s,VP P G fd [RR n1 w1 n2 w2] (.tup [.str s, .bool (oD n1 w1 n2 w2)])) (hn:VP P G fn [.str nm] (.bool (bc nm))) (e:op=4) :
   VP P G f [(EX.mk op n1 w1 n2 w2 nm args).av] (.bool (gO 4 n1 w1 n2 w2 nm args.length)):=by
 obtain ⟨s,hd⟩:=hd
 have c1:decide (op=1)=decide (4=1):=by rw [e];rfl
 have c2:decide (op=2)=decide (4=2):=by rw [e];rfl
 have c3:decide (op=3)=decide (4=3):=by rw [e];rfl
 have c4:decide (op=4)=decide (4=4):=by rw [e];rfl
 have c5:decide (op=5)=decide (4=5):=by rw [e];rfl
 have c6:decide (op=6)=decide (4=6):=by rw [e];rfl
 have c7:decide (op=7)=decide (4=7):=by rw [e];rfl
 have l0:decide ((args.length:Int)=0)=decide (args.length=0):=by by_cases q:args.length=0<;>simp [q]<;>omega
 have l1:decide ((args.length:Int)=1)=decide (args.length=1):=by by_cases q:args.length=1<;>simp [q]<;>omega
 have l2:decide ((args.length:Int)=2)=decide (args.length=2):=by by_cases q:args.length=2<;>simp [q]<;>omega
 refine mJ h op n1 w1 n2 w2 nm args ?_
 unfold gO om
 generalize decide (args.length=0)=L0 at l0 ⊢
 generalize decide (args.length=1)=L1 at l1 ⊢
 generalize decide (args.length=2)=L2 at l2 ⊢
 cases b2:nm.isEmpty<;>cases b4:fN n1 w1 n2 w2 <;>
 . skip
   simp only [aH,bW.zt,SS,Nat.reduceAdd,Nat.reduceEqDiff,ae,EX.q0,EX.q5,EX.q6,EX.a6,c1,c2,c3,c4,l2,gK,b2,decide_true,decide_false,Bool.true_and,Bool.false_and,Bool.true_or,Bool.false_or]
   first
   | exact ag▸ab rfl (af.bool _)
   | (refine aj hn (by simp [af.str]) ?_
      simp only [SS,Nat.reduceAdd,reduceIte,Nat.reduceEqDiff,ae,EX.q6,EX.a6,l0]
      exact ag▸ab rfl (af.bool _))
   | (refine aj hd (by simp [eB]) ?_
      simp only [SS,Nat.reduceAdd,reduceIte,Nat.reduceEqDiff,uw,ux,ae,EX.q0,EX.q1,EX.q5,EX.q6,EX.l6,EX.a6,c1,c2,c3,c4,c5,c6,c7,l0,l1,l2,gK,b2,decide_true,decide_false,Bool.true_and,Bool.false_and,Bool.or_true,Bool.or_false,Bool.true_or,Bool.false_or]
      first
      | exact ag▸ab rfl (af.bool _)
      | (refine aj hn (by simp [af.str]) ?_
         simp only [SS,Nat.reduceAdd,reduceIte,Nat.reduceEqDiff,ae,EX.q6,EX.a6,l0]
         exact ag▸ab rfl (af.bool _)))
set_option maxHeartbeats 2000000 in
theorem UQ {f fd fn:FuncId} (h:Has P f (aH fd fn)) (op:Int) (n1:Bool) (w1:List Nat) (n2:Bool) (w2:List Nat) (nm:List UInt8) (args:List EX)
   (hd:∃ s,VP P G fd [RR n1 w1 n2 w2] (.tup [.str s, .bool (oD n1 w1 n2 w2)])) (hn:VP P G fn [.str nm] (.bool (bc nm))) (e:op=5) :
   VP P G f [(EX.mk op n1 w1 n2 w2 nm args).av] (.bool (gO 5 n1 w1 n2 w2 nm args.length)):=by
 obtain ⟨s,hd⟩:=hd
 have c1:decide (op=1)=decide (5=1):=by rw [e];rfl
 have c2:decide (op=2)=decide (5=2):=by rw [e];rfl
 have c3:decide (op=3)=decide (5=3):=by rw [e];rfl
 have c4:decide (op=4)=decide (5=4):=by rw [e];rfl
 have c5:decide (op=5)=decide (5=5):=by rw [e];rfl
 have c6:decide (op=6)=decide (5=6):=by rw [e];rfl
 have c7:decide (op=7)=decide (5=7):=by rw [e];rfl
 have l0:decide ((args.length:Int)=0)=decide (args.length=0):=by by_cases q:args.length=0<;>simp [q]<;>omega
 have l1:decide ((args.length:Int)=1)=decide (args.length=1):=by by_cases q:args.length=1<;>simp [q]<;>omega
 have l2:decide ((args.length:Int)=2)=decide (args.length=2):=by by_cases q:args.length=2<;>simp [q]<;>omega
 refine mJ h op n1 w1 n2 w2 nm args ?_
 unfold gO om
 generalize decide (args.length=0)=L0 at l0 ⊢
 generalize decide (args.length=1)=L1 at l1 ⊢
 generalize decide (args.length=2)=L2 at l2 ⊢
 cases b2:nm.isEmpty<;>cases b4:fN n1 w1 n2 w2 <;>
 . skip
   simp only [aH,bW.zt,SS,Nat.reduceAdd,Nat.reduceEqDiff,ae,EX.q0,EX.q5,EX.q6,EX.a6,c1,c2,c3,c4,c5,l2,gK,b2,decide_true,decide_false,Bool.true_and,Bool.false_and,Bool.true_or,Bool.false_or]
   first
   | exact ag▸ab rfl (af.bool _)
   | (refine aj hn (by simp [af.str]) ?_
      simp only [SS,Nat.reduceAdd,reduceIte,Nat.reduceEqDiff,ae,EX.q6,EX.a6,l0]
      exact ag▸ab rfl (af.bool _))
   | (refine aj hd (by simp [eB]) ?_
      simp only [SS,Nat.reduceAdd,reduceIte,Nat.reduceEqDiff,uw,ux,ae,EX.q0,EX.q1,EX.q5,EX.q6,EX.l6,EX.a6,c1,c2,c3,c4,c5,c6,c7,l0,l1,l2,gK,b2,decide_true,decide_false,Bool.true_and,Bool.false_and,Bool.or_true,Bool.or_false,Bool.true_or,Bool.false_or]
      first
      | exact ag▸ab rfl (af.bool _)
      | (refine aj hn (by simp [af.str]) ?_
         simp only [SS,Nat.reduceAdd,reduceIte,Nat.reduceEqDiff,ae,EX.q6,EX.a6,l0]
         exact ag▸ab rfl (af.bool _)))
set_option maxHeartbeats 2000000 in
theorem UR {f fd fn:FuncId} (h:Has P f (aH fd fn)) (op:Int) (n1:Bool) (w1:List Nat) (n2:Bool) (w2:List Nat) (nm:List UInt8) (args:List EX)
   (hd:∃ s,VP P G fd [RR n1 w1 n2 w2] (.tup [.str s, .bool (oD n1 w1 n2 w2)])) (hn:VP P G fn [.str nm] (.bool (bc nm))) (e:op=6) :
   VP P G f [(EX.mk op n1 w1 n2 w2 nm args).av] (.bool (gO 6 n1 w1 n2 w2 nm args.length)):=by
 obtain ⟨s,hd⟩:=hd
 have c1:decide (op=1)=decide (6=1):=by rw [e];rfl
 have c2:decide (op=2)=decide (6=2):=by rw [e];rfl
 have c3:decide (op=3)=decide (6=3):=by rw [e];rfl
 have c4:decide (op=4)=decide (6=4):=by rw [e];rfl
 have c5:decide (op=5)=decide (6=5):=by rw [e];rfl
 have c6:decide (op=6)=decide (6=6):=by rw [e];rfl
 have c7:decide (op=7)=decide (6=7):=by rw [e];rfl
 have l0:decide ((args.length:Int)=0)=decide (args.length=0):=by by_cases q:args.length=0<;>simp [q]<;>omega
 have l1:decide ((args.length:Int)=1)=decide (args.length=1):=by by_cases q:args.length=1<;>simp [q]<;>omega
 have l2:decide ((args.length:Int)=2)=decide (args.length=2):=by by_cases q:args.length=2<;>simp [q]<;>omega
 refine mJ h op n1 w1 n2 w2 nm args ?_
 unfold gO om
 generalize decide (args.length=0)=L0 at l0 ⊢
 generalize decide (args.length=1)=L1 at l1 ⊢
 generalize decide (args.length=2)=L2 at l2 ⊢
 cases b2:nm.isEmpty<;>cases b4:fN n1 w1 n2 w2 <;>
 . skip
   simp only [aH,bW.zt,SS,Nat.reduceAdd,Nat.reduceEqDiff,ae,EX.q0,EX.q5,EX.q6,EX.a6,c1,c2,c3,c4,c5,c6,l2,gK,b2,decide_true,decide_false,Bool.true_and,Bool.false_and,Bool.true_or,Bool.false_or]
   first
   | exact ag▸ab rfl (af.bool _)
   | (refine aj hn (by simp [af.str]) ?_
      simp only [SS,Nat.reduceAdd,reduceIte,Nat.reduceEqDiff,ae,EX.q6,EX.a6,l0]
      exact ag▸ab rfl (af.bool _))
   | (refine aj hd (by simp [eB]) ?_
      simp only [SS,Nat.reduceAdd,reduceIte,Nat.reduceEqDiff,uw,ux,ae,EX.q0,EX.q1,EX.q5,EX.q6,EX.l6,EX.a6,c1,c2,c3,c4,c5,c6,c7,l0,l1,l2,gK,b2,decide_true,decide_false,Bool.true_and,Bool.false_and,Bool.or_true,Bool.or_false,Bool.true_or,Bool.false_or]
      first
      | exact ag▸ab rfl (af.bool _)
      | (refine aj hn (by simp [af.str]) ?_
         simp only [SS,Nat.reduceAdd,reduceIte,Nat.reduceEqDiff,ae,EX.q6,EX.a6,l0]
         exact ag▸ab rfl (af.bool _)))
set_option maxHeartbeats 2000000 in
theorem UT {f fd fn:FuncId} (h:Has P f (aH fd fn)) (op:Int) (n1:Bool) (w1:List Nat) (n2:Bool) (w2:List Nat) (nm:List UInt8) (args:List EX)
   (hd:∃ s,VP P G fd [RR n1 w1 n2 w2] (.tup [.str s, .bool (oD n1 w1 n2 w2)])) (hn:VP P G fn [.str nm] (.bool (bc nm))) (e:op=7) :
   VP P G f [(EX.mk op n1 w1 n2 w2 nm args).av] (.bool (gO 7 n1 w1 n2 w2 nm args.length)):=by
 obtain ⟨s,hd⟩:=hd
 have c1:decide (op=1)=decide (7=1):=by rw [e];rfl
 have c2:decide (op=2)=decide (7=2):=by rw [e];rfl
 have c3:decide (op=3)=decide (7=3):=by rw [e];rfl
 have c4:decide (op=4)=decide (7=4):=by rw [e];rfl
 have c5:decide (op=5)=decide (7=5):=by rw [e];rfl
 have c6:decide (op=6)=decide (7=6):=by rw [e];rfl
 have c7:decide (op=7)=decide (7=7):=by rw [e];rfl
 have l0:decide ((args.length:Int)=0)=decide (args.length=0):=by by_cases q:args.length=0<;>simp [q]<;>omega
 have l1:decide ((args.length:Int)=1)=decide (args.length=1):=by by_cases q:args.length=1<;>simp [q]<;>omega
 have l2:decide ((args.length:Int)=2)=decide (args.length=2):=by by_cases q:args.length=2<;>simp [q]<;>omega
 refine mJ h op n1 w1 n2 w2 nm args ?_
 unfold gO om
 generalize decide (args.length=0)=L0 at l0 ⊢
 generalize decide (args.length=1)=L1 at l1 ⊢
 generalize decide (args.length=2)=L2 at l2 ⊢
 cases b2:nm.isEmpty<;>cases b4:fN n1 w1 n2 w2 <;>
 . skip
   simp only [aH,bW.zt,SS,Nat.reduceAdd,Nat.reduceEqDiff,ae,EX.q0,EX.q5,EX.q6,EX.a6,c1,c2,c3,c4,c5,c6,c7,l2,gK,b2,decide_true,decide_false,Bool.true_and,Bool.false_and,Bool.true_or,Bool.false_or]
   first
   | exact ag▸ab rfl (af.bool _)
   | (refine aj hn (by simp [af.str]) ?_
      simp only [SS,Nat.reduceAdd,reduceIte,Nat.reduceEqDiff,ae,EX.q6,EX.a6,l0]
      exact ag▸ab rfl (af.bool _))
   | (refine aj hd (by simp [eB]) ?_
      simp only [SS,Nat.reduceAdd,reduceIte,Nat.reduceEqDiff,uw,ux,ae,EX.q0,EX.q1,EX.q5,EX.q6,EX.l6,EX.a6,c1,c2,c3,c4,c5,c6,c7,l0,l1,l2,gK,b2,decide_true,decide_false,Bool.true_and,Bool.false_and,Bool.or_true,Bool.or_false,Bool.true_or,Bool.false_or]
      first
      | exact ag▸ab rfl (af.bool _)
      | (refine aj hn (by simp [af.str]) ?_
         simp only [SS,Nat.reduceAdd,reduceIte,Nat.reduceEqDiff,ae,EX.q6,EX.a6,l0]
         exact ag▸ab rfl (af.bool _)))
set_option maxHeartbeats 2000000 in
theorem UU {f fd fn:FuncId} (h:Has P f (aH fd fn)) (op:Int) (n1:Bool) (w1:List Nat) (n2:Bool) (w2:List Nat) (nm:List UInt8) (args:List EX)
   (hd:∃ s,VP P G fd [RR n1 w1 n2 w2] (.tup [.str s, .bool (oD n1 w1 n2 w2)])) (hn:VP P G fn [.str nm] (.bool (bc nm))) (e:op<1∨7<op) :
   VP P G f [(EX.mk op n1 w1 n2 w2 nm args).av] (.bool (gO 0 n1 w1 n2 w2 nm args.length)):=by
 obtain ⟨s,hd⟩:=hd
 have c1:decide (op=1)=false:=ak (by omega)
 have c2:decide (op=2)=false:=ak (by omega)
 have c3:decide (op=3)=false:=ak (by omega)
 have c4:decide (op=4)=false:=ak (by omega)
 have c5:decide (op=5)=false:=ak (by omega)
 have c6:decide (op=6)=false:=ak (by omega)
 have c7:decide (op=7)=false:=ak (by omega)
 have l0:decide ((args.length:Int)=0)=decide (args.length=0):=by by_cases q:args.length=0<;>simp [q]<;>omega
 have l1:decide ((args.length:Int)=1)=decide (args.length=1):=by by_cases q:args.length=1<;>simp [q]<;>omega
 have l2:decide ((args.length:Int)=2)=decide (args.length=2):=by by_cases q:args.length=2<;>simp [q]<;>omega
 refine mJ h op n1 w1 n2 w2 nm args ?_
 unfold gO om
 generalize decide (args.length=0)=L0 at l0 ⊢
 generalize decide (args.length=1)=L1 at l1 ⊢
 generalize decide (args.length=2)=L2 at l2 ⊢
 . skip
   simp only [aH,bW.zt,SS,Nat.reduceAdd,ae,EX.q0,c1,c2,c3,c4,c5,c6,c7]
   first
   | exact ag▸ab rfl (af.bool _)
   | (refine aj hn (by simp [af.str]) ?_
      simp only [SS,Nat.reduceAdd,reduceIte,Nat.reduceEqDiff,ae,EX.q6,EX.a6,l0]
      exact ag▸ab rfl (af.bool _))
   | (refine aj hd (by simp [eB]) ?_
      simp only [SS,Nat.reduceAdd,reduceIte,Nat.reduceEqDiff,uw,ux,ae,EX.q0,EX.q1,EX.q5,EX.q6,EX.l6,EX.a6,c1,c2,c3,c4,c5,c6,c7,l0,l1,l2,gK,decide_true,decide_false,Bool.true_and,Bool.false_and,Bool.or_true,Bool.or_false,Bool.true_or,Bool.false_or]
      first
      | exact ag▸ab rfl (af.bool _)
      | (refine aj hn (by simp [af.str]) ?_
         simp only [SS,Nat.reduceAdd,reduceIte,Nat.reduceEqDiff,ae,EX.q6,EX.a6,l0]
         exact ag▸ab rfl (af.bool _)))
theorem R2 {f fd fn:FuncId} (h:Has P f (aH fd fn)) (op:Int) (n1:Bool) (w1:List Nat) (n2:Bool) (w2:List Nat) (nm:List UInt8) (args:List EX)
   (hd:∃ s,VP P G fd [RR n1 w1 n2 w2] (.tup [.str s, .bool (oD n1 w1 n2 w2)])) (hn:VP P G fn [.str nm] (.bool (bc nm))) :
   VP P G f [(EX.mk op n1 w1 n2 w2 nm args).av] (.bool (gO op n1 w1 n2 w2 nm args.length)):=by
 by_cases ho:op<1∨7<op
 . have e:gO op n1 w1 n2 w2 nm args.length=gO 0 n1 w1 n2 w2 nm args.length:=by
     unfold gO
     rw [if_neg (by omega),if_neg (by omega),if_neg (by omega),if_neg (by omega)];rfl
   rw [e]
   exact UU h op n1 w1 n2 w2 nm args hd hn ho
 have KO:op=1∨op=2∨op=3∨op=4∨op=5∨op=6∨op=7:=by omega
 rcases KO with e | e | e | e | e | e | e
 . have:=UL h op n1 w1 n2 w2 nm args hd hn e;rwa [<- e] at this
 . have:=UM h op n1 w1 n2 w2 nm args hd hn e;rwa [<- e] at this
 . have:=UN h op n1 w1 n2 w2 nm args hd hn e;rwa [<- e] at this
 . have:=UO h op n1 w1 n2 w2 nm args hd hn e;rwa [<- e] at this
 . have:=UQ h op n1 w1 n2 w2 nm args hd hn e;rwa [<- e] at this
 . have:=UR h op n1 w1 n2 w2 nm args hd hn e;rwa [<- e] at this
 . have:=UT h op n1 w1 n2 w2 nm args hd hn e;rwa [<- e] at this
end
end Go.VL
end
