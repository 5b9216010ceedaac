/- For the claim of HistoryOps: parts CF2, HI1, HI2, VL34, SNH, CF3, CH1, CH2, EXB, CF4, CF5, CF6. -/
import Derived.Test.YtcomlgfjnjpebaaGreatDoorC08
import Derived.Test.YtcomlgfjnjpebaaGreatDoorC05
import Derived.Test.YtcomlgfjnjpebaaGreatDoorC04
import Derived.Test.YtcomlgfjnjpebaaGreatDoorC07
set_option linter.unusedSimpArgs false
set_option linter.unusedVariables false
section
set_option linter.unusedVariables false
namespace Go.VL
open Go.Lib
theorem XP (n:Nat):1<=(decDigits n).length:=by
 by_cases h:n<10
 . rw [v8 h];exact Nat.le_refl _
 . rw [Ge h,List.length_append,List.length_singleton];omega
section
variable {P:Program} {G:Nat->Option (List AV)}
theorem IH {f fV fS Ut fI fE fF fM:FuncId} (h:Has P f (dy fV fS Ut fI fE fF fM)) (a b:Nat) (hb:b≠0) (hg:Nat.gcd a b=1) (ha:ah a<=8) (B6:ah b<=8)
   (hv:VP P G fV [RV (a:Int) (b:Int)] (.bool true)) (hs:VP P G fS [RV (a:Int) (b:Int)] (.int .i64 (a:Int).sign)) (Po:VP P G Ut [.int .i64 10] (RV 10 1)) (hi:VP P G fI [.int .i64 1] (IV 1))
   (hc:∀ y:Nat,ah y<=1000->VP P G fE [IV (y:Int),IV 1] (.bool (decide ((y:Int)=1))))
   (hm:∀ a b:Nat,b≠0->b≠1->Nat.gcd a b=1->ah a<=1000->ah b<=1000->VP P G fM [RV (a:Int) (b:Int),RV 10 1] (RV ((10*a/Nat.gcd (10*a) b:Nat):Int) ((b/Nat.gcd (10*a) b:Nat):Int)))
   (hf:∀ n:Nat,ah n<=1000->VP P G fF [IV (n:Int)] (.str (decDigits n))) :
   VP P G f [RV (a:Int) (b:Int)] (uk 41 a b):=by
 refine VP.has h ?_
 have d0:decide ((a:Int).sign<0)=false:=ak (by rcases mC (a:Int) with ⟨e,p⟩ | ⟨e,p⟩ | ⟨e,p⟩<;>omega)
 simp only [dy,SS,Nat.reduceAdd,xX,ae,qm]
 refine aj hv (by simp [fD]) ?_
 simp only [SS,Nat.reduceAdd,ae,qm]
 refine aj hs (by simp [fD]) ?_
 simp only [SS,Nat.reduceAdd,d0]
 refine aj Po (by simp [af.int]) ?_
 simp only [SS,Nat.reduceAdd,mL]
 rw [gX (k:=(AV.agg [.bool false, .nils, .bool false, .nils]).size) (by simp [aa.put])]
 simp only [SS,Nat.reduceAdd]
 refine aj hi (by simp [af.int]) ?_
 simp only [SS,Nat.reduceAdd,cB]
 rw [bE (k:=(AV.agg [.bool false, .nils]).size) (y := .agg [.bool false, .nils]) rfl (jK _) (by simp [aa.put])]
 have k1:([0]:List Nat)≠[12]:=by decide
 have k2:([0]:List Nat)≠[15]:=by decide
 simp only [SS,Nat.reduceAdd,ai k1,ai k2,ae,qm,mL]
 rw [gX (k:=(AV.agg [.bool false, .nils, .bool false, .nils]).size) (by simp [aa.put])]
 simp only [SS,Nat.reduceAdd,aE]
 refine VW.bR (α := Nat × Nat × Nat × Nat) (fun x=>⟨[RV (a:Int) (b:Int), .ref [0] 0 0, .str [], .bool false, .ref [12] 0 0, .ref [15] 0 0, .ref [18] 0 0, .int .i64 ((x.1:Nat):Int)]++List.replicate 52 .top,
   ((aa.put (fun _=>none) [12] (some ⟨[RV 10 1],4,false⟩)).put [15] (some ⟨[IV 1],2,false⟩)).put [18] (some ⟨[RV (x.2.1:Int) (x.2.2.1:Int)],4,false⟩),x.2.2.2⟩)
   (fun x=>x.1<=41/\x.2.2.1≠0/\Nat.gcd x.2.1 x.2.2.1=1/\ah x.2.1<=8+x.1/\ah x.2.2.1<=8/\gz 41 0 a b=gz (41-x.1) x.1 x.2.1 x.2.2.1) (fun x=>41-x.1) (0,a,b,1000) ?_ ?_ ?_
 . refine Wk.forget (by simp [Fg,List.replicate]) (fun j => ?_) (by simp only [];omega)
   by_cases h1:j=[15]
   . subst h1;right;simp [aa.put];rfl
   by_cases h2:j=[12]
   . subst h2;right;simp [aa.put];rfl
   by_cases h3:j=[18]
   . subst h3;right;simp [aa.put];rfl
   . left;simp [aa.put,h1,h2,h3]
 . exact ⟨Nat.zero_le _,hb,hg,ha,B6,rfl⟩
 rintro ⟨p,x,y,nn⟩ ⟨hp,hy,VY,hwx,hwy,Uu⟩
 simp only [] at hp hy VY hwx hwy Uu
 unfold uk
 rw [Uu]
 by_cases adL:p<41
 case neg =>
   have dp:decide ((p:Int)<=40)=false:=ak (by omega)
   rw [show 41-p=0 from by omega]
   simp only [SS,Nat.reduceAdd,dp,gz]
   exact ag▸ab rfl (gb _ _)
 have dp:decide ((p:Int)<=40)=true:=an (by omega)
 obtain ⟨m,XK⟩:∃ m,41-p=m+1:=⟨41-p-1,by omega⟩
 rw [XK]
 have k1:([12]:List Nat)≠[18]:=by decide
 have k2:([15]:List Nat)≠[18]:=by decide
 have k3:([12]:List Nat)≠[15]:=by decide
 simp only [SS,Nat.reduceAdd,dp,ai k2,ae,mi,cx]
 refine aj (hc y (by omega)) (by simp [aG]) ?_
 by_cases JG:y=1
 . have dc:decide ((y:Int)=1)=true:=an (by omega)
   have BB:gz (m+1) p x y=some (p,x):=by rw [gz,if_pos JG]
   have Us:=Fc (x:=x) (by omega)
   have qw:1<=(decDigits x).length:=XP x
   rw [BB]
   simp only [SS,Nat.reduceAdd,dc,ae,nr]
   refine aj (hf x (by omega)) (by simp [aG]) ?_
   have uR:∀ (t:List UInt8),t.length<=2000->(decide ((t.length:Int)<=40))=decide (t.length<=40):=fun t _=>by by_cases h:t.length<=40<;>simp [h]<;>omega
   simp only [SS,Nat.reduceAdd,aE]
   refine VW.bR (α := Nat × Nat) (fun z=>⟨[RV (a:Int) (b:Int), .ref [0] 0 0, .str [], .bool false, .ref [12] 0 0, .ref [15] 0 0, .ref [18] 0 0, .int .i64 ((p:Nat):Int), .str (List.replicate z.1 48++decDigits x)]++List.replicate 51 .top,fun _=>none,z.2⟩)
     (fun z=>z.1<=p+1-(decDigits x).length) (fun z=>p+1-z.1) (0,nn+1000) ?_ ?_ ?_
   . exact Wk.forget (by simp [Fg,List.replicate]) (fun j => .inl rfl) (by simp only [];omega)
   . exact Nat.zero_le _
   rintro ⟨j,mm⟩ hj
   simp only [] at hj
   have hlen:(List.replicate j (48:UInt8)++decDigits x).length=j+(decDigits x).length:=by rw [List.length_append,List.length_replicate]
   by_cases aN:j+(decDigits x).length<=p
   . have d1:decide (((j+(decDigits x).length:Nat):Int)<=(p:Int))=true:=an (by omega)
     have D1:br .add .str (.str [48]) (.str (List.replicate j 48++decDigits x))=some (.str (List.replicate (j+1) 48++decDigits x)):=by rw [List.replicate_succ,List.cons_append];exact sO (by rw [hlen];simp [maxLen];omega)
     simp only [SS,Nat.reduceAdd,hlen,d1,D1]
     exact ⟨(j+1,_),by simp only [];omega,by simp only [];omega,Wk.bc (by simp [Fg,List.replicate]) (Nat.le_refl _)⟩
   . have d1:decide (((j+(decDigits x).length:Nat):Int)<=(p:Int))=false:=ak (by omega)
     have ej:List.replicate j 48++decDigits x=cu p x:=by unfold cu;rw [show p+1-(decDigits x).length=j from by omega]
     have VO:(cu p x).length<=1100:=by unfold cu;rw [List.length_append,List.length_replicate];omega
     rw [<- hlen] at d1
     rw [ej] at d1 ⊢
     by_cases XL:p=0
     . subst XL
       have d2:decide ((0:Int)<((0:Nat):Int))=false:=by decide
       have e0:ql 0 x=cu 0 x:=by unfold cu;rw [show 0+1-(decDigits x).length=0 from by omega];exact if_pos rfl
       rw [e0]
       simp only [SS,Nat.reduceAdd,d1,d2]
       rw [uR _ (by omega)]
       exact ag▸ab rfl (gb _ _)
     . have d2:decide ((0:Int)<(p:Int))=true:=an (by omega)
       have JM:=um p x
       have e0:ql p x=(cu p x).take ((cu p x).length-p)++[46]++(cu p x).drop ((cu p x).length-p):=if_neg XL
       have hL:=x3 p x XL
       have xA:∀ q:Nat,q<=1100->p<=q->IntKind.i64.wrap ((q:Int)-(p:Int))=((q-p:Nat):Int):=fun q h1 h2=>by rw [IntKind.wrap_i64];omega
       have zK:=xA _ VO (by omega)
       have b1:=Ay (s:=cu p x) (l:=(cu p x).length-p) (by omega)
       have b2:=Fb (s:=cu p x) (l:=(cu p x).length-p) (by omega)
       have zJ:br .add .str (.str ((cu p x).take ((cu p x).length-p))) (.str [46])=some (.str ((cu p x).take ((cu p x).length-p)++[46])):=sO (by rw [List.length_take];simp [maxLen];omega)
       have IG:br .add .str (.str ((cu p x).take ((cu p x).length-p)++[46])) (.str ((cu p x).drop ((cu p x).length-p)))=some (.str (ql p x)):=by rw [e0];exact sO (by rw [List.length_append,List.length_take,List.length_drop];simp [maxLen];omega)
       simp only [SS,DD,Nat.reduceAdd,d1,d2,zK,b1,b2,zJ,IG]
       refine ⟨by simp [ar,apart], ?_⟩
       rw [uR _ (by omega)]
       exact ag▸ab rfl (gb _ _)
 . have dc:decide ((y:Int)=1)=false:=ak (by omega)
   simp only [SS,Nat.reduceAdd,dc,ai k1,ai k3,ae,qm]
   refine aj (hm x y hy JG VY (by omega) (by omega)) (by simp [fD]) ?_
   simp only [SS,Nat.reduceAdd]
   rw [Fa (k:=4) (x:=(x:Int)) (y:=(y:Int)) (by simp [aa.put])]
   simp only [SS,Nat.reduceAdd]
   obtain ⟨r1,r2,r3,r4⟩:=IF (a:=x) (b:=y) hy
   have hwp:IntKind.i64.wrap ((p:Int)+1)=((p+1:Nat):Int):=by rw [IntKind.wrap_i64];omega
   have XM:ah (10*x/Nat.gcd (10*x) y)<=8+(p+1):=by
     have h1:=cV r3
     have h2:=qf 10 x
     have h3:ah 10<=1:=jj (by decide)
     omega
   have XN:ah (y/Nat.gcd (10*x) y)<=8:=Nat.le_trans (cV r4) hwy
   have XO:gz (m+1) p x y=gz (41-(p+1)) (p+1) (10*x/Nat.gcd (10*x) y) (y/Nat.gcd (10*x) y):=by
     rw [show 41-(p+1)=m from by omega,gz,if_neg JG]
   simp only [hwp]
   refine ⟨(p+1,10*x/Nat.gcd (10*x) y,y/Nat.gcd (10*x) y,nn+1000),⟨by simp only [];omega,r1,r2,XM,XN,XO⟩,by simp only [];omega, ?_⟩
   refine Wk.forget (by simp [Fg]) (fun j => ?_) (by simp only [];omega)
   by_cases h1:j=[15]
   . subst h1;right;simp [aa.put]
   by_cases h2:j=[12]
   . subst h2;right;simp [aa.put]
   by_cases h3:j=[18]
   . subst h3;right;simp [aa.put]
   . left;simp [aa.put,h1,h2,h3]
end
end Go.VL
end

section
set_option maxRecDepth 100000
namespace Go.Proofs.YtcomlgfjnjpebaaGreatDoor
open Go.VL Go.Proofs
section
variable (G:Nat->Option (List AV))
theorem t145:gV Tryz.prog G 145:=fun _ hw hl=>Mi sA hw hl
theorem c95 (n:Nat) (hn:ah n<=1000000):VP Tryz.prog G 95 [W n] (W n):=E4 fA n hn
theorem Rb:jk Tryz.prog G 141:=Kg xL (t145 G)
theorem MA (n:Nat) (hn:n<18446744073709551616):VP Tryz.prog G 142 [.int .u64 ((n:Nat):Int)] (W n):=Bf vQ (t145 G) n hn
theorem V0 (n:Nat) (hn:n<18446744073709551616):VP Tryz.prog G 165 [W n] (.int .u64 ((n:Nat):Int)):=Tryz.toUint_vp G n hn
theorem n166 (a:Int):VP Tryz.prog G 166 [.int .i64 a] (.bool false):=J8 y5 a
theorem n195 (a:Int):VP Tryz.prog G 195 [.int .u32 a] (.bool false):=D5 vT a
theorem aaw (a b:Int):VP Tryz.prog G 143 [.int .i64 a, .int .i64 b] (.int .i64 (jc a b)):=J9 wU (n166 G) a b
theorem adP (a b:Int):VP Tryz.prog G 167 [.int .u32 a, .int .u32 b] (.int .i64 (jc a b)):=D6 tQ (n195 G) a b
theorem aax (m n:Nat) (hm:ah m<=1000000) (hn:ah n<=1000000):VP Tryz.prog G 144 [W m,W n] (.int .i64 (gp m n)):=Ka wP (aaw G) (adP G) m n (by omega) (by omega)
theorem adQ (m n:Nat) (hm:ah m<=1000000) (hn:ah n<=1000000):VP Tryz.prog G 207 [W m,W n] (W (m+n)):=TU Ak m n hm hn
theorem adR (m n:Nat) (x8:n<=m) (hm:ah m<=1000000):VP Tryz.prog G 208 [W m,W n] (W (m-n)):=Qh yW (t145 G) m n x8 hm
theorem adS (m n:Nat) (hm:ah m<=1000000) (hn:ah n<=1000000):VP Tryz.prog G 168 [W m,W n] (W (m*n)):=Qi yX (t145 G) m n hm hn
theorem d189 (m w:Nat) (hm:ah m<=1000000) (hw:w<au) (h0:w≠0):VP Tryz.prog G 189 [W m, .int .u32 (w:Int)] (.tup [W (m/w),W (m%w)]):=D7 tP (t145 G) (MA G) m w hm hw h0
theorem l90 (x:Nat) (hx:x<au):VP Tryz.prog G 90 [.int .u32 (x:Int)] (.int .i64 (iQ x:Int)):=Qq wT x hx
theorem adT (x:Nat) (hx:x<au) (h0:0<x):VP Tryz.prog G 190 [.int .u32 (x:Int)] (.int .i64 ((32-iQ x:Nat):Int)):=TZ pb (l90 G) x hx h0
theorem d164 (m n:Nat) (tj:n≠0) (hm:ah m<=900000) (hn:ah n<=900000):VP Tryz.prog G 164 [W m,W n] (.tup [W (m/n),W (m%n)]) :=
 NG xM (aax G) (c95 G) (V0 G) (MA G) (d189 G) (adT G) u9 (t145 G) vR wQ tO m n tj hm hn
theorem XQ (z:Int) (hz:ah z.natAbs<=1000000):VP Tryz.prog G 137 [IV z] (.int .i64 z.sign):=T0 Al (t145 G) z hz
theorem Rc (a:Int) (h1 : -9223372036854775808<=a) (h2:a<9223372036854775808):VP Tryz.prog G 126 [.int .i64 a] (IV a):=Kh wR (MA G) (Rb G) a h1 h2
theorem n169 (z:Int) (hz:ah z.natAbs<=1000000):VP Tryz.prog G 169 [IV z] (IV (-z)):=W6 BQ (t145 G) (c95 G) (Rb G) z hz
theorem aay (y z:Int) (hy:ah y.natAbs<=1000000) (hz:ah z.natAbs<=1000000):VP Tryz.prog G 146 [IV y,IV z] (IV (y*z)):=W7 BR (t145 G) (adS G) (Rb G) y z hy hz
theorem adU (y z:Int) (hy:ah y.natAbs<=1000000) (hz:ah z.natAbs<=1000000):VP Tryz.prog G 127 [IV y,IV z] (.int .i64 (jc y z)):=W8 BP (XQ G) (aaw G) (t145 G) (aax G) y z hy hz
theorem aaz (a b:Int) (GG:b≠0) (ha:ah a.natAbs<=900000) (hb:ah b.natAbs<=900000):VP Tryz.prog G 196 [IV a,IV b] (.tup [IV (a.fdiv b),IV (a.fmod b), .int .i64 0]):=by
 have h:=NC xN (t145 G) (d164 G) (adQ G) (adR G) (Rb G) a b GG ha hb
 rw [(Qw a b GG).1,(Qw a b GG).2] at h;exact h
theorem aaA (a b:Int) (ha:ah a.natAbs<=900000) (hb:ah b.natAbs<=900000):VP Tryz.prog G 139 [IV a,IV b] (IV (Nat.gcd a.natAbs b.natAbs:Nat)):=Xd BS (t145 G) (d164 G) (c95 G) (Rb G) (V0 G) (MA G) a b ha hb
theorem V1 (neg:Bool) (ws:List Nat) (hl:ws.length<=9223372036854775807):VP Tryz.prog G 136 [IR neg ws] (.bool (iz neg ws)):=NF yY neg ws hl
theorem aaB:VP Tryz.prog G 140 [] (IV 1):=W9 Am (Rc G 1 (by decide) (by decide))
theorem i138 (z:Int):VP Tryz.prog G 138 [IV z] (.bool (decide (z=1))):=Qs xO z
theorem adV (a b:Int) (GG:b≠0) (ha:ah a.natAbs<=900000) (hb:ah b.natAbs<=900000):VP Tryz.prog G 170 [IV a,IV b] (IV (a.fdiv b)):=Xa An a b (i138 G b) (aaz G a b GG ha hb)
theorem XR (a:Int) (h1 : -9223372036854775808<=a) (h2:a<9223372036854775808):VP Tryz.prog G 125 [.int .i64 a] (RV a 1):=Ii vS a (Rc G a h1 h2) (aaB G)
theorem V2 (a b:Int) (ha:ah a.natAbs<=1000000):VP Tryz.prog G 124 [RV a b] (.int .i64 a.sign):=Ij yZ a b (XQ G a ha)
theorem aaC (a b:Int) (GG:b≠0) (ha:ah a.natAbs<=900000) (hb:ah b.natAbs<=900000) :
   VP Tryz.prog G 147 [IV a,IV b] (RV (a.fdiv (if b<0 then -(Nat.gcd a.natAbs b.natAbs:Nat) else (Nat.gcd a.natAbs b.natAbs:Nat))) (b.fdiv (if b<0 then -(Nat.gcd a.natAbs b.natAbs:Nat) else (Nat.gcd a.natAbs b.natAbs:Nat)))):=by
 have Ur:0<Nat.gcd a.natAbs b.natAbs:=Nat.gcd_pos_of_pos_right _ (by omega)
 have Re:ah (Nat.gcd a.natAbs b.natAbs)<=900000:=Nat.le_trans (cV (Nat.le_of_dvd (by omega) (Nat.gcd_dvd_right _ _))) hb
 refine ND wS a b (Nat.gcd a.natAbs b.natAbs:Nat) (aaA G a b ha hb) (n169 G _ (by rw [Int.natAbs_natCast];omega)) ?_
 intro x y hx hy
 have T5:y≠0:=by rcases hy with rfl | rfl<;>omega
 have hyl:ah y.natAbs<=900000:=by rcases hy with rfl | rfl<;>simpa using Re
 exact adV G x y T5 (by rcases hx with rfl | rfl<;>assumption) hyl
theorem adW (a b:Nat) (hb:b≠0) (ha:ah a<=1000) (B6:ah b<=1000) :
   VP Tryz.prog G 128 [RV (a:Int) (b:Int),RV 10 1] (RV ((10*a/Nat.gcd (10*a) b:Nat):Int) ((b/Nat.gcd (10*a) b:Nat):Int)):=by
 have S8:ah 10<=1:=jj (by decide)
 have h1:ah 1<=1:=sM
 have e10:((10:Nat):Int)=10:=rfl
 have GC:ah ((a:Int)*10).natAbs<=900000:=by
   have:=qf a 10
   rw [show ((a:Int)*10).natAbs=a*10 from by omega];omega
 have tc:ah ((b:Int)*1).natAbs<=900000:=by rw [show ((b:Int)*1).natAbs=b from by omega];omega
 have hl:=aaC G ((a:Int)*10) ((b:Int)*1) (by omega) GC tc
 have hg:Nat.gcd ((a:Int)*10).natAbs ((b:Int)*1).natAbs=Nat.gcd (10*a) b:=by rw [show ((a:Int)*10).natAbs=10*a from by omega,show ((b:Int)*1).natAbs=b from by omega]
 have hbp : ¬ ((b:Int)*1<0):=by omega
 rw [hg,if_neg hbp] at hl
 have f1:((a:Int)*10).fdiv (Nat.gcd (10*a) b:Nat)=((10*a/Nat.gcd (10*a) b:Nat):Int):=by
   rw [Int.fdiv_eq_ediv_of_nonneg _ (by omega),show (a:Int)*10=((10*a:Nat):Int) from by omega];rfl
 have f2:((b:Int)*1).fdiv (Nat.gcd (10*a) b:Nat)=((b/Nat.gcd (10*a) b:Nat):Int):=by
   rw [Int.fdiv_eq_ediv_of_nonneg _ (by omega),Int.mul_one];rfl
 rw [f1,f2] at hl
 have h:=T4 Ao (a:Int) (b:Int) 10 1 _ rfl (i138 G) (aay G _ _ (by rw [Int.natAbs_natCast];omega) (by show ah 10<=_;omega)) (aay G _ _ (by rw [Int.natAbs_natCast];omega) (by show ah 1<=_;omega)) (aaB G) hl
 by_cases qz:b=1
 . subst qz
   rw [if_pos ⟨rfl,rfl⟩] at h
   rw [Nat.gcd_one_right,Nat.div_one,Nat.div_one,show ((10*a:Nat):Int)=(a:Int)*10 from by omega]
   exact h
 . rw [if_neg (by omega)] at h;exact h
end
end Go.Proofs.YtcomlgfjnjpebaaGreatDoor
end

section
set_option maxRecDepth 100000
namespace Go.Proofs.YtcomlgfjnjpebaaGreatDoor
open Go.VL Go.Proofs
section
variable (G:Nat->Option (List AV))
theorem aaE:Has Tryz.prog 203 dw:=sB
theorem adX:Has Tryz.prog 183 (j2 203):=rH
theorem t203:gV Tryz.prog G 203:=fun _ hw hl=>Mi aaE hw hl
theorem Ky:jk Tryz.prog G 182:=Km qB (t203 G)
theorem n185 (z:Int) (hz:ah z.natAbs<=1000000):VP Tryz.prog G 185 [IV z] (IV z):=QJ sC (Ky G) z hz
theorem XS (z:Int) (hz:ah z.natAbs<=1000000):VP Tryz.prog G 179 [IV z] (.int .i64 z.sign):=NJ sF (n185 G) z hz
theorem aaF (n:Nat) (hn:n<18446744073709551616):VP Tryz.prog G 183 [.int .u64 ((n:Nat):Int)] (W n):=Bf adX (t203 G) n hn
theorem Rf (a:Int) (h1 : -9223372036854775808<=a) (h2:a<9223372036854775808):VP Tryz.prog G 160 [.int .i64 a] (IV a):=NK qa (aaF G) (Ky G) a h1 h2
theorem XT (m n:Nat) (hm:ah m<=1000000) (hn:ah n<=1000000):VP Tryz.prog G 184 [W m,W n] (.int .i64 (gp m n)):=Iv qb m n hm hn
theorem adY (m n:Nat) (hm:ah m<=1000000) (hn:ah n<=1000000):VP Tryz.prog G 224 [W m,W n] (W (m+n)):=QL sD (t203 G) m n hm hn
theorem adZ (m n:Nat) (x8:n<=m) (hm:ah m<=1000000):VP Tryz.prog G 217 [W m,W n] (W (m-n)):=E8 me (t203 G) m n x8 hm
theorem aaG (m:Nat) (ws:List Nat) (hw:Wd ws) (hm:ah m<=1000000) (hl:ws.length<=1000000):VP Tryz.prog G 205 [W m, .sl 1 (us ws)] (W (m*val ws)):=Df mf (t203 G) m hw hm hl
theorem ad0 (m n:Nat) (hm:ah m<=1000000) (hn:ah n<=1000000):VP Tryz.prog G 205 [W m,W n] (W (m*n)):=NL mf (t203 G) m n hm hn
theorem aaH (m w:Nat) (hm:ah m<=1000000) (hw:w<au) (h0:w≠0):VP Tryz.prog G 186 [W m, .int .u32 (w:Int)] (.tup [W (m/w), .int .u32 ((m%w:Nat):Int)]):=Xy ve (t203 G) m w hm hw h0
theorem aaI (n:Nat) (hn:n<18446744073709551616):VP Tryz.prog G 213 [W n] (.int .u64 (n:Int)):=QK rI n hn
theorem aaJ (m s:Nat) (hm:ah m<=1000000) (hs:s<=31):VP Tryz.prog G 218 [W m, .int .i64 (s:Int)] (W (m/2 ^ s)):=Ue sE (t203 G) m s hm hs
theorem d204 (m n:Nat) (tj:n≠0) (hm:ah m<=900000) (hn:ah n<=900000):VP Tryz.prog G 204 [W m,W n] (.tup [W (m/n),W (m%n)]) :=
 Kp qD (XT G) (aaI G) (aaF G) (aaH G) qC qc (t203 G) aaE rJ (aaG G) me (aaJ G) m n tj hm hn
theorem aaK (z:Int) (hz:ah z.natAbs<=1000000):VP Tryz.prog G 223 [IV z] (IV (-z)):=Ub tR (Ky G) z hz
theorem ad1 (a b:Int) (ha:ah a.natAbs<=1000000) (hb:ah b.natAbs<=1000000):VP Tryz.prog G 220 [IV a,IV b] (IV (a+b)):=Uh tT (n185 G) (adY G) (Ky G) (XT G) (adZ G) a b ha hb
theorem aaL (a b:Int) (ha:ah a.natAbs<=1000000) (hb:ah b.natAbs<=1000000):VP Tryz.prog G 219 [IV a,IV b] (IV (a-b)):=Ui tU (aaK G) (ad1 G) a b ha hb
theorem V3 (a b:Int) (ha:ah a.natAbs<=1000000) (hb:ah b.natAbs<=1000000):VP Tryz.prog G 187 [IV a,IV b] (IV (a*b)):=QT tV (n185 G) (ad0 G) (Ky G) a b ha hb
theorem aaM (a b:Nat) (GG:b≠0) (ha:ah a<=900000) (hb:ah b<=900000):VP Tryz.prog G 206 [IV (a:Int),IV (b:Int)] (.tup [IV ((a/b:Nat):Int),IV ((a%b:Nat):Int), .int .i64 0]) :=
 Kq qE (n185 G) (d204 G) (Ky G) (V3 G) (aaL G) (XS G) a b GG ha hb
theorem XU (a b:Int) (ha:ah a.natAbs<=900000) (hb:ah b.natAbs<=900000):VP Tryz.prog G 181 [IV a,IV b] (IV (Nat.gcd a.natAbs b.natAbs:Nat)):=Uj tW (t203 G) (d204 G) (Ky G) a b ha hb
theorem f162 (n:Nat) (hn:ah n<=1000000):VP Tryz.prog G 162 [IV (n:Int)] (.str (Lib.decDigits n)):=Kt qF (n185 G) (aaH G) n hn
theorem aaN (a b:Int) (ha:ah a.natAbs<=1000000) (hb:ah b.natAbs<=1000000):VP Tryz.prog G 161 [IV a,IV b] (.bool (decide (a=b))):=QU sG (XT G) a b ha hb
theorem V4 (neg:Bool) (ws:List Nat) (hw:Wd ws) (hl:ws.length<=9223372036854775807):VP Tryz.prog G 178 [IR neg ws] (.bool (iz neg ws)):=Kr rG (t203 G) neg ws hw hl
theorem ad4 (a b:Nat) (GG:b≠0) (ha:ah a<=900000) (hb:ah b<=900000):VP Tryz.prog G 188 [IV (a:Int),IV (b:Int)] (IV ((a/b:Nat):Int)):=QV tX a b (aaM G a b GG ha hb)
theorem Rg (a:Int) (h1 : -9223372036854775808<=a) (h2:a<9223372036854775808):VP Tryz.prog G 159 [.int .i64 a] (RV a 1):=Gd qd a (Rf G a h1 h2) (Rf G 1 (by decide) (by decide))
theorem V5 (z:Int):VP Tryz.prog G 180 [IV z] (.bool (decide (z=1))):=QW tY z
theorem ad5:Has Tryz.prog 158 (mr 179):=sI
theorem V6 (a b:Int) (ha:ah a.natAbs<=1000000):VP Tryz.prog G 158 [RV a b] (.int .i64 a.sign):=Ij ad5 a b (XS G a ha)
theorem ad6:Has Tryz.prog 157 (lL 178 179 181 180):=rK
theorem ad7 (a b:Nat) (hb:b≠0) (qz:b≠1) (hg:Nat.gcd a b=1) (ha:ah a<=1000) (B6:ah b<=1000) :
   VP Tryz.prog G 163 [RV (a:Int) (b:Int),RV 10 1] (RV ((10*a/Nat.gcd (10*a) b:Nat):Int) ((b/Nat.gcd (10*a) b:Nat):Int)):=by
 have S8:ah 10<=1:=jj (by decide)
 have h1:ah 1<=1:=sM
 have YF:a≠0:=fun e=>by rw [e,Nat.gcd_zero_left] at hg;exact qz hg
 have DO:Nat.gcd (10*a) b=Nat.gcd 10 b:=Nat.Coprime.gcd_mul_right_cancel 10 hg
 have ad8:Nat.gcd 10 b<=10:=Nat.le_of_dvd (by decide) (Nat.gcd_dvd_left _ _)
 have hgp:0<Nat.gcd 10 b:=Nat.gcd_pos_of_pos_left _ (by decide)
 have Re:ah (Nat.gcd 10 b)<=1:=Nat.le_trans (cV ad8) S8
 have hm:∀ x y m n:Nat,x<=m->y<=n->ah m<=1000->ah n<=1000->VP Tryz.prog G 187 [IV (x:Int),IV (y:Int)] (IV ((x*y:Nat):Int)):=fun x y m n hx hy hm hn=>by
   have q1:=cV hx
   have q2:=cV hy
   have:=V3 G (x:Int) (y:Int) (by rw [Int.natAbs_natCast];omega) (by rw [Int.natAbs_natCast];omega)
   rwa [<- Int.natCast_mul] at this
 have hqy:∀ y,(y=Nat.gcd a 1∨y=Nat.gcd 10 b)->y≠0/\ah y<=900000:=by
   rintro y (rfl | rfl)
   . rw [Nat.gcd_one_right];exact ⟨by decide,by omega⟩
   . exact ⟨by omega,by omega⟩
 have h:=QX tZ a b 10 1 (by decide) (Rg G 0 (by decide) (by decide)) (V5 G) (fun x y hx hy=>hm x y a 10 hx hy (by omega) (by omega)) (fun x y hx hy=>hm x y b 1 hx hy (by omega) (by omega))
   (XU G (a:Int) (1:Nat) (by rw [Int.natAbs_natCast];omega) (by show ah 1<=_;omega)) (XU G (10:Nat) (b:Int) (by show ah 10<=_;omega) (by rw [Int.natAbs_natCast];omega))
   (fun x y hx hy=>ad4 G x y (hqy y hy).1 (by rcases hx with rfl | rfl | rfl | rfl<;>omega) (hqy y hy).2)
 rw [if_neg YF,if_neg (fun e=>qz e.1),Nat.gcd_one_right,Nat.div_one,Nat.div_one,Nat.mul_one] at h
 have e:10*a/Nat.gcd (10*a) b=a*(10/Nat.gcd 10 b):=by
   rw [DO,Nat.mul_comm 10 a,Nat.mul_div_assoc _ (Nat.gcd_dvd_left _ _)]
 rw [e,DO]
 exact h
end
end Go.Proofs.YtcomlgfjnjpebaaGreatDoor
end

section
namespace Go.VL
structure MB (w w':World) (g:Nat) (row:List Value):Prop where
 os:w'.os=w.os
 tape:w'.tape=w.tape
 output:w'.output=w.output
 size:w.heap.size<=w'.heap.size
 other:∀ k,k<w.heap.size->k≠g->w'.heap[k]? = w.heap[k]?
 here:∀ cur ty,w.heap[g]? = some (.cells cur ty (0,0))->∃ zN,w'.heap[g]? = some (.cells zN ty (0,0))/\zN.size=cur.size/\∀ (j:Nat) v,row[j]? = some v->zN[j]? = some v
theorem Az:∀ {es:List AV},(∀ e∈es,e.cells=[e])->flat es=es
 | [],_=>rfl
 | e::es,h=>by
   have h1:flat (e::es)=e.cells++flat es:=rfl
   rw [h1,h e (by simp),Az fun x hx=>h x (by simp [hx])];rfl
theorem aB.Dk {P:Program} {G:Nat->Option (List AV)} {f:FuncId} {fn:Func} (hf:P.funcs[f]? = some fn) (sk:(fn.name == "runtime.NumGoroutine")=false) (hb:fn.body.isSome=true) {id p:Id} (hid : ¬ p <:+ id)
   {es es':List AV} (hlen:es'.length=es.length) (wz:∀ e∈es',e.cells=[e]) (hc:∀ e∈es,e.cells=[e]) {val:AV} {row:List Value} (rf:∀ E w,aO E w es' row)
   (kX:∀ E w (g N cap:Nat),E.μ id=some (g,1,N)->es.length<=cap->cap=N->N<=maxLen->∀ v,(v=Value.tuple #[]/\val = .tup [])∨(∃ m,m<=es.length/\v = .slice (some ⟨g,0,none⟩) m cap/\val = .osl id 1 0 m false)->aM E w val v)
   (h:∀ (w:World) (g cap:Nat) (cur:Array Value) (ty:TypeId) (E:Env),w.heap[g]? = some (.cells cur ty (0,0))->es.length<=cap->cap<=maxLen->(∀ (j:Nat) c,es[j]? = some c->∃ v,cur[j]? = some v/\aM E w c v) ->
     Calls P f #[.slice (some ⟨g,0,none⟩) es.length cap] w fun e w'=>∃ v,e = .returned v/\((v=Value.tuple #[]/\val = .tup [])∨(∃ m,m<=es.length/\v = .slice (some ⟨g,0,none⟩) m cap/\val = .osl id 1 0 m false))/\MB w w' g row) :
   aB P G f [.osl id 1 0 es.length false] p [(id,⟨es,1,false⟩)] { val:=val,rd:=[id],up:=[(id,some ⟨es',1,false⟩)] }:=by
 refine ⟨⟨fn,hf,sk,hb⟩,fun own E w σ vs hS hi hr _ => ?_⟩
 have hσ : σ id=some ⟨es,1,false⟩:=hS (id,⟨es,1,false⟩) (by simp)
 obtain ⟨g,N,cur,ty,hB⟩:=hi.blk id _ hσ
 simp only [aO,aM] at hr
 obtain ⟨v,_,rfl,⟨g',N',cap,hm,rfl,hle,af6,hN,Cl⟩,rfl⟩:=hr
 rw [hB.μ] at hm
 simp only [Option.some.injEq,Prod.mk.injEq] at hm
 obtain ⟨rfl,_,rfl⟩:=hm
 simp only [Bool.false_eq_true,if_false,Nat.zero_add] at Cl
 subst Cl
 have M1:∀ (j:Nat) c,es[j]? = some c->∃ v,cur[j]? = some v/\aM E w c v:=fun j c hj=>by
   have h1:=hB.row j c (by show (flat es)[j]? = some c;rw [Az hc];exact hj)
   rw [Nat.zero_add] at h1
   obtain ⟨v,hv,wM⟩:=h1
   refine ⟨v, ?_,wM⟩
   have:=hv
   unfold World.cell? at this
   rw [show ((⟨g,j,none⟩:Addr)).block=g from rfl,hB.heap] at this
   simpa using this
 refine (h w g cap cur ty E hB.heap hle hN M1).mono ?_
 rintro e w' ⟨v,rfl,hv,hR⟩
 obtain ⟨zN,V7,uD,aaO⟩:=hR.here cur ty hB.heap
 have qy:=hB.no rfl
 have hs:Step E E w w':=⟨fun _ _ h=>h,fun _ h=>h,fun b hb=>hR.other b (hi.okb b hb) (fun e=>qy (e▸hb))⟩
 have gr:Adv own E E w w':=⟨hs,hR.os,hR.tape,hR.output,hR.size,fun k hk hnk=>hR.other k hk (fun e=>hnk (e▸hB.own)),fun _ h => .inl h⟩
 refine ⟨v,E,rfl,gr,⟨fun b hb=>Nat.lt_of_lt_of_le (hi.okb b hb) hR.size, ?_, ?_, ?_,fun k hk=>hi.new k (Nat.le_trans hR.size hk)⟩,kX E w' g cap cap hB.μ hle rfl hN v hv,fun _ _=>rfl⟩
 . intro i Bw jf
   by_cases dv:i=id
   . subst dv
     simp only [aa.app,aa.bd,Option.some.injEq] at jf
     subst jf
     refine ⟨g,cap,zN,ty,hB.μ,V7,by rw [uD];exact hB.size,by show es'.length<=cap;omega,hB.most,hB.own,by simp,hB.no, ?_, ?_⟩
     . intro e he;show e.cells.length=1;rw [wz e he];rfl
     . intro j c hj
       have BZ:es'[j]? = some c:=by
         have:flat es'=es':=Az wz
         rw [<- this];exact hj
       obtain ⟨v,hv,wM⟩:=(bC.1 (rf E w')).2 j c BZ
       refine ⟨v, ?_,wM⟩
       unfold World.cell?
       rw [Nat.zero_add,show ((⟨g,j,none⟩:Addr)).block=g from rfl,V7]
       simpa using aaO j v hv
   . simp only [aa.app] at jf
     rw [aa.bj _ _ _ dv] at jf
     obtain ⟨g2,N2,Wo,ty2,uE⟩:=hi.blk i Bw jf
     have bY:g2≠g:=hi.inj i id _ _ (by rw [jf];simp) (by rw [hσ];simp) dv uE.μ hB.μ
     exact ⟨g2,N2,Wo,ty2,uE.keep hs (hR.other g2 (dK uE.heap) bY) uE.no⟩
 . intro i j x y jf BZ J1 hx hy
   refine hi.inj i j x y ?_ ?_ J1 hx hy
   . by_cases dv:i=id
     . subst dv;rw [hσ];simp
     . simpa [aa.app,aa.bj _ _ _ dv] using jf
   . by_cases dv:j=id
     . subst dv;rw [hσ];simp
     . simpa [aa.app,aa.bj _ _ _ dv] using BZ
 . intro g cs hg
   obtain ⟨h1,h2⟩:=hi.glob g cs hg
   exact ⟨h1,cv.keep hs.bare (hs.same g h1) cs 0 h2⟩
end Go.VL
end

section
namespace Go.Proofs
open Go.VL Go.RowKit Go.Sort
theorem Ea {w:World} {g:Nat} {f:Array Value->Array Value} {cur:Array Value} {ty:TypeId} {fr:Nat × Nat} (h:w.heap[g]? = some (.cells cur ty fr)):(mapBlock w g f).heap[g]? = some (.cells (f cur) ty fr):=by
 unfold mapBlock
 simp only [Array.getElem?_modify,if_true,h,Option.map_some];rfl
theorem Dl {w:World} {g k:Nat} {f:Array Value->Array Value} (h:k≠g):(mapBlock w g f).heap[k]? = w.heap[k]? := by
 unfold mapBlock
 simp only [Array.getElem?_modify,if_neg (Ne.symm h)]
theorem Bk {w:World} {g n:Nat} {os:Array Obj} {l':List (List UInt8)} {cap:Nat} (hl:∀ cur ty,w.heap[g]? = some (.cells cur ty (0,0))->l'.length<=cur.size) (hg:g<w.heap.size) :
   MB w (grow (putRow encStr (Go.Sort.ahead w n) g 0 l'.toArray) os) g (l'.map encStr):=by
 have uD:(putRow encStr (Go.Sort.ahead w n) g 0 l'.toArray).heap.size=w.heap.size:=by rw [size_putRow];rfl
 have hold:∀ k,k<w.heap.size->(grow (putRow encStr (Go.Sort.ahead w n) g 0 l'.toArray) os).heap[k]? = (putRow encStr (Go.Sort.ahead w n) g 0 l'.toArray).heap[k]? := fun k hk=>by
   show ((putRow encStr (Go.Sort.ahead w n) g 0 l'.toArray).heap++os)[k]? = _
   rw [Array.getElem?_append_left (by omega)]
 refine ⟨rfl,rfl,rfl, ?_,fun k hk bY => ?_,fun cur ty hc => ?_⟩
 . show w.heap.size<=((putRow encStr (Go.Sort.ahead w n) g 0 l'.toArray).heap++os).size
   rw [Array.size_append];omega
 . rw [hold k hk];exact Dl bY
 . refine ⟨putCells encStr 0 l'.toArray cur, ?_,by simp [putCells],fun j v hj => ?_⟩
   . rw [hold g hg];exact Ea (w:=Go.Sort.ahead w n) hc
   . have FF:=hl cur ty hc
     rw [List.getElem?_map] at hj
     cases hs:l'[j]? with
     | none=>rw [hs] at hj;cases hj
     | some s =>
       rw [hs] at hj
       simp only [Option.map_some,Option.some.injEq] at hj
       subst hj
       have nH:j<l'.length:=(List.getElem?_eq_some_iff.1 hs).1
       have hjc:j<cur.size:=by omega
       simp only [putCells,Array.getElem?_mapIdx,Array.getElem?_eq_getElem hjc,Option.map_some,Nat.zero_le,true_and,Nat.zero_add,List.size_toArray,nH,if_true,Nat.sub_zero]
       congr 1
       rw [getElem!_pos l'.toArray j (by simpa using nH)]
       simp only [List.getElem_toArray]
       rw [List.getElem?_eq_getElem nH] at hs
       exact congrArg encStr (Option.some.inj hs)
theorem mD:∀ {l:List (List UInt8)},∀ e∈l.map AV.str,e.cells=[e]:=fun e he=>by obtain ⟨s,_,rfl⟩:=List.mem_map.1 he;rfl
theorem Dm (E:Env) (w:World):∀ l:List (List UInt8),aO E w (l.map AV.str) (l.map encStr)
 | []=>rfl
 | s::l=>by
   simp only [List.map_cons,aO,aM]
   exact ⟨_,_,rfl,rfl,Dm E w l⟩
theorem holds_of {w:World} {g:Nat} {l:List (List UInt8)} {cur:Array Value} {ty:TypeId} {E:Env} (hc:w.heap[g]? = some (.cells cur ty (0,0))) (h:∀ (j:Nat) c,(l.map AV.str)[j]? = some c->∃ v,cur[j]? = some v/\aM E w c v):Holds encStr w g 0 l.toArray:=by
 intro j hj
 have nH:j<l.length:=by simpa using hj
 obtain ⟨v,hv,hr⟩:=h j (.str l[j]) (by rw [List.getElem?_map,List.getElem?_eq_getElem nH];rfl)
 simp only [aM] at hr
 subst hr
 refine ⟨?_, ?_⟩
 . unfold World.cell?
   rw [show ((⟨g,0+j,none⟩:Addr)).block=g from rfl,hc,getElem!_pos l.toArray j hj]
   simpa using hv
 . unfold World.frozen?
   rw [show ((⟨g,0+j,none⟩:Addr)).block=g from rfl,hc]
   simp
theorem Rh {l:List (List UInt8)} {cur:Array Value} {E:Env} {w:World} (h:∀ (j:Nat) c,(l.map AV.str)[j]? = some c->∃ v,cur[j]? = some v/\aM E w c v):l.length<=cur.size:=by
 rcases Nat.lt_or_ge cur.size l.length with aN | ta
 . obtain ⟨v,hv,_⟩:=h cur.size (.str (l[cur.size])) (by rw [List.getElem?_map,List.getElem?_eq_getElem aN];rfl)
   simp at hv
 . exact ta
def Dn (l:List (List UInt8)):List (List UInt8):=l.mergeSort fun x y=>decide (x<=y)
theorem Fe (l:List (List UInt8)):(Dn l).length=l.length:=List.length_mergeSort _
theorem Bl (l:List (List UInt8)):(Lib.compact l).length<=l.length:=by
 unfold Lib.compact Lib.compactUpTo
 rw [List.length_map]
 exact Nat.le_trans (List.length_filter_le _ _) (by rw [List.length_range];exact Nat.le_refl _)
theorem Tryz.Ri (G:Nat->Option (List AV)) (l:List (List UInt8)) (hl:l.length<=1000000) {id p:VL.Id} (hid : ¬ p <:+ id) :
   aB Tryz.prog G 31 [.osl id 1 0 l.length false] p [(id,⟨l.map .str,1,false⟩)] { val := .tup [],rd:=[id],up:=[(id,some ⟨(Dn l).map .str,1,false⟩)] }:=by
 have hm:(l.map AV.str).length=l.length:=List.length_map _
 have:=aB.Dk (G:=G) (P:=Tryz.prog) Tryz.func31 (by kernel_rfl) (by kernel_rfl) hid (es:=l.map .str) (es':=(Dn l).map .str) (by rw [List.length_map,List.length_map,Fe]) mD mD (val := .tup []) (row:=(Dn l).map encStr) (fun E w=>Dm E w _)
   (fun E w g N cap _ _ _ _ v hv=>by
     rcases hv with ⟨rfl,_⟩ | ⟨_,_,_,h⟩
     . simp only [aM];exact ⟨#[],rfl,by simp [aO]⟩
     . cases h)
   (fun w g cap cur ty E hc hle Cl M1=>by
     rw [hm]
     refine (Tryz.slices_Sort_string g 0 cap l w (holds_of hc M1) (dK hc) (by omega)).mono ?_
     rintro e w' ⟨rfl,n,os,rfl⟩
     refine ⟨_,rfl, .inl ⟨rfl,rfl⟩,Bk (cap:=cap) (fun zN K3 wz => ?_) (dK hc)⟩
     rw [hc] at wz
     simp only [Option.some.injEq,Obj.cells.injEq] at wz
     rw [<- wz.1]
     have:=Rh M1
     rw [List.length_mergeSort];exact this)
 rwa [hm] at this
theorem Tryz.II (G:Nat->Option (List AV)) (l:List (List UInt8)) (hl:l.length<=1000000) {id p:VL.Id} (hid : ¬ p <:+ id) :
   aB Tryz.prog G 32 [.osl id 1 0 l.length false] p [(id,⟨l.map .str,1,false⟩)]
     { val := .osl id 1 0 (Lib.compact l).length false,rd:=[id],up:=[(id,some ⟨(Lib.compact l++List.replicate (l.length-(Lib.compact l).length) []).map .str,1,false⟩)] }:=by
 have hm:(l.map AV.str).length=l.length:=List.length_map _
 have uP:(Lib.compact l).length<=l.length:=Bl l
 have:=aB.Dk (G:=G) (P:=Tryz.prog) Tryz.func32 (by kernel_rfl) (by kernel_rfl) hid (es:=l.map .str) (es':=(Lib.compact l++List.replicate (l.length-(Lib.compact l).length) []).map .str)
   (by rw [List.length_map,List.length_map,List.length_append,List.length_replicate];omega) mD mD (val := .osl id 1 0 (Lib.compact l).length false) (row:=(Lib.compact l++List.replicate (l.length-(Lib.compact l).length) []).map encStr) (fun E w=>Dm E w _)
   (fun E w g N cap hμ hle hcN hN v hv=>by
     rcases hv with ⟨_,h⟩ | ⟨m,Gz,rfl,h⟩
     . cases h
     . simp only [AV.osl.injEq,true_and,and_true] at h
       subst h
       simp only [aM]
       refine ⟨g,N,cap,hμ,by simp,by rw [hm] at hle;omega,by omega,hN,by simp;omega⟩)
   (fun w g cap cur ty E hc hle Cl M1=>by
     rw [hm]
     refine (Tryz.slices_Compact_string g 0 cap l w (holds_of hc M1) (by omega) (by rw [hm] at hle;exact hle)).mono ?_
     rintro e w' ⟨rfl,q,rfl⟩
     refine ⟨_,rfl, .inr ⟨_,uP,rfl,rfl⟩, ?_⟩
     have hr:=Bk (w:=w) (g:=g) (n:=q) (os := #[]) (l':=Lib.compact l++List.replicate (l.length-(Lib.compact l).length) []) (cap:=cap) (fun zN K3 wz => ?_) (dK hc)
     . rwa [grow_empty] at hr
     . rw [hc] at wz
       simp only [Option.some.injEq,Obj.cells.injEq] at wz
       rw [<- wz.1]
       have:=Rh M1
       rw [List.length_append,List.length_replicate];omega)
 rwa [hm] at this
theorem Tryz.XV (G:Nat->Option (List AV)) {m:Int} (hG:G 1=some [.int .i64 m]) (s:List UInt8) (hs:s.length<4294967281) :
   VP Tryz.prog G 30 [.str s, .str [47]] (.tup [.str (Lib.cut s [47]).1, .str (Lib.cut s [47]).2.1, .bool (Lib.cut s [47]).2.2]):=by
 refine VP.wC (r:={ val := .tup [.str (Lib.cut s [47]).1, .str (Lib.cut s [47]).2.1, .bool (Lib.cut s [47]).2.2] }) (aB.vD Tryz.func30 (by kernel_rfl) (by kernel_rfl) ?_) ?_
 . intro own E w σ vs _ hi hr
   simp only [aO] at hr
   obtain ⟨v,_,rfl,rfl,v2,_,rfl,rfl,rfl⟩:=hr
   have hg:=(hi.glob 1 _ hG).2
   simp only [cv,aM] at hg
   obtain ⟨⟨v,hv,rfl⟩,_⟩:=hg
   refine (Tryz.strings_Cut ⟨s.toArray⟩ ⟨#[47]⟩ m w (by rw [Lib.size_eq];exact hs) hv).mono ?_
   rintro e w' ⟨rfl,n,rfl⟩
   refine ⟨_,rfl,⟨rfl,rfl,rfl,Nat.le_refl _,fun _ _=>rfl⟩,fun E w => ?_⟩
   simp [aM,aO]
 . intro E w E' w' v h
   simpa [aM,aO] using h
end Go.Proofs
end

section
set_option linter.unusedVariables false
namespace Go.VL
open Go.Lib
def MC (n1:Bool) (w1:List Nat) (n2:Bool) (w2:List Nat):Bool:=iz n1 w1&&iz n2 w2&&decide (0<jE n2 (val w2))&&decide (((Nat.gcd (val w1) (val w2):Nat):Int)=1)
def Eb (lim:Nat) (n1:Bool) (w1:List Nat) (n2:Bool) (w2:List Nat):AV:=if MC n1 w1 n2 w2=true /\ ¬ jE n1 (val w1)<0 then uk lim (val w1) (val w2) else .tup [.str [], .bool false]
def oy (n1:Bool) (w1:List Nat) (n2:Bool) (w2:List Nat):Bool:=MC n1 w1 n2 w2 && !decide (jE n1 (val w1)<0)&&Bj 40 (val w1) (val w2)
theorem Gg (lim a b:Nat):∃ s,uk lim a b = .tup [.str s, .bool (Bj lim a b)]:=by
 unfold uk Bj
 cases gz lim 0 a b with
 | none=>exact ⟨_,rfl⟩
 | some x=>exact ⟨_,rfl⟩
theorem Dp (lim:Nat) (n1:Bool) (w1:List Nat) (n2:Bool) (w2:List Nat) (hl:∀ a b,Bj lim a b=Bj 40 a b):∃ s,Eb lim n1 w1 n2 w2 = .tup [.str s, .bool (oy n1 w1 n2 w2)]:=by
 unfold Eb oy
 by_cases h:MC n1 w1 n2 w2=true /\ ¬ jE n1 (val w1)<0
 . rw [if_pos h]
   obtain ⟨s,e⟩:=Gg lim (val w1) (val w2)
   refine ⟨s, ?_⟩
   rw [e,hl,h.1];simp [h.2]
 . rw [if_neg h]
   refine ⟨_,congrArg (fun b=>AV.tup [.str [], .bool b]) ?_⟩
   by_cases h1:MC n1 w1 n2 w2=true
   . have:jE n1 (val w1)<0:=Decidable.byContradiction fun e=>h ⟨h1,e⟩
     simp [this]
   . simp [h1]
theorem Rj {n1:Bool} {w1:List Nat} {n2:Bool} {w2:List Nat} (uF:Wd w1) (wG:Wd w2) (h:MC n1 w1 n2 w2=true) :
   RR n1 w1 n2 w2=RV (jE n1 (val w1)) ((val w2:Nat):Int)/\val w2≠0/\Nat.gcd (val w1) (val w2)=1:=by
 unfold MC at h
 simp only [Bool.and_eq_true,decide_eq_true_eq] at h
 obtain ⟨⟨⟨h1,h2⟩,h3⟩,h4⟩:=h
 have e1:=Mp uF h1
 have e2:=Mp wG h2
 have e3:jE n2 (val w2)=((val w2:Nat):Int):=by
   cases n2
   . exact nV _
   . simp [jE] at h3;omega
 rw [e3] at e2 h3
 refine ⟨?_,by omega,by omega⟩
 unfold IR IV at e1 e2
 simp only [AV.agg.injEq,List.cons.injEq,and_true] at e1 e2
 unfold RR RV
 rw [e1.1,e1.2,e2.1,e2.2]
theorem eE (n1:Bool) (w1:List Nat) (n2:Bool) (w2:List Nat):af (RR n1 w1 n2 w2):=af.agg (by intro c hc;simp at hc;rcases hc with rfl | rfl | rfl | rfl;exact af.bool _;exact kU _;exact af.bool _;exact kU _)
section
variable {P:Program} {G:Nat->Option (List AV)}
theorem Kz {f fV fS Ut fI fC fM fF fR:FuncId} (h:Has P f (gj fV fS Ut fI fC fM fF fR)) (n1:Bool) (w1:List Nat) (n2:Bool) (w2:List Nat) (uF:Wd w1) (wG:Wd w2) (mR:w1.length<=8) (uC:w2.length<=8)
   (hv:VP P G fV [RR n1 w1 n2 w2] (.bool (MC n1 w1 n2 w2))) (hs:∀ a b:Int,ah a.natAbs<=1000->VP P G fS [RV a b] (.int .i64 a.sign))
   (Uu:∀ a b:Nat,b≠0->Nat.gcd a b=1->ah a<=8->ah b<=8->VP P G fV [RV (a:Int) (b:Int)] (.bool true)->VP P G f [RV (a:Int) (b:Int)] (uk 40 a b)) :
   VP P G f [RR n1 w1 n2 w2] (Eb 40 n1 w1 n2 w2):=by
 have XW:ah (val w1)<=8:=Nat.le_trans (sN uF) mR
 have XX:ah (val w2)<=8:=Nat.le_trans (sN wG) uC
 by_cases hr:MC n1 w1 n2 w2=true
 . obtain ⟨e,GG,hg⟩:=Rj uF wG hr
   by_cases hn:jE n1 (val w1)<0
   . unfold Eb
     rw [if_neg (fun q=>q.2 hn)]
     rw [e,hr] at hv
     rw [e]
     have l7:=hs (jE n1 (val w1)) ((val w2:Nat):Int) (by cases n1<;>simp [jE]<;>omega)
     have d0:decide ((jE n1 (val w1)).sign<0)=true:=an (by rw [Int.sign_eq_neg_one_of_neg hn];decide)
     refine VP.has h ?_
     simp only [gj,SS,Nat.reduceAdd,xX,ae,qm]
     refine aj hv (by simp [fD]) ?_
     simp only [SS,Nat.reduceAdd,ae,qm]
     refine aj l7 (by simp [fD]) ?_
     simp only [SS,Nat.reduceAdd,d0]
     exact ag▸ab rfl (gb _ _)
   . unfold Eb
     rw [if_pos ⟨hr,hn⟩]
     have e1:jE n1 (val w1)=((val w1:Nat):Int):=by
       cases n1
       . exact nV _
       . simp [jE] at hn ⊢;omega
     rw [e,e1,hr] at hv
     rw [e,e1]
     exact Uu _ _ GG hg XW XX hv
 . unfold Eb
   rw [if_neg (fun q=>hr q.1)]
   have zS:MC n1 w1 n2 w2=false:=by simpa using hr
   rw [zS] at hv
   refine VP.has h ?_
   simp only [gj,SS,Nat.reduceAdd,Db,ae,Ra]
   refine aj hv (by simp [eE]) ?_
   simp only [SS,Nat.reduceAdd]
   exact ag▸ab rfl (gb _ _)
theorem IJ {f fV fS Ut fI fE fF fM:FuncId} (h:Has P f (dy fV fS Ut fI fE fF fM)) (n1:Bool) (w1:List Nat) (n2:Bool) (w2:List Nat) (uF:Wd w1) (wG:Wd w2) (mR:w1.length<=8) (uC:w2.length<=8)
   (hv:VP P G fV [RR n1 w1 n2 w2] (.bool (MC n1 w1 n2 w2))) (hs:∀ a b:Int,ah a.natAbs<=1000->VP P G fS [RV a b] (.int .i64 a.sign))
   (Uu:∀ a b:Nat,b≠0->Nat.gcd a b=1->ah a<=8->ah b<=8->VP P G fV [RV (a:Int) (b:Int)] (.bool true)->VP P G f [RV (a:Int) (b:Int)] (uk 41 a b)) :
   VP P G f [RR n1 w1 n2 w2] (Eb 41 n1 w1 n2 w2):=by
 have XW:ah (val w1)<=8:=Nat.le_trans (sN uF) mR
 have XX:ah (val w2)<=8:=Nat.le_trans (sN wG) uC
 by_cases hr:MC n1 w1 n2 w2=true
 . obtain ⟨e,GG,hg⟩:=Rj uF wG hr
   by_cases hn:jE n1 (val w1)<0
   . unfold Eb
     rw [if_neg (fun q=>q.2 hn)]
     rw [e,hr] at hv
     rw [e]
     have l7:=hs (jE n1 (val w1)) ((val w2:Nat):Int) (by cases n1<;>simp [jE]<;>omega)
     have d0:decide ((jE n1 (val w1)).sign<0)=true:=an (by rw [Int.sign_eq_neg_one_of_neg hn];decide)
     refine VP.has h ?_
     simp only [dy,SS,Nat.reduceAdd,xX,ae,qm]
     refine aj hv (by simp [fD]) ?_
     simp only [SS,Nat.reduceAdd,ae,qm]
     refine aj l7 (by simp [fD]) ?_
     simp only [SS,Nat.reduceAdd,d0]
     exact ag▸ab rfl (gb _ _)
   . unfold Eb
     rw [if_pos ⟨hr,hn⟩]
     have e1:jE n1 (val w1)=((val w1:Nat):Int):=by
       cases n1
       . exact nV _
       . simp [jE] at hn ⊢;omega
     rw [e,e1,hr] at hv
     rw [e,e1]
     exact Uu _ _ GG hg XW XX hv
 . unfold Eb
   rw [if_neg (fun q=>hr q.1)]
   have zS:MC n1 w1 n2 w2=false:=by simpa using hr
   rw [zS] at hv
   refine VP.has h ?_
   simp only [dy,SS,Nat.reduceAdd,Db,ae,Ra]
   refine aj hv (by simp [eE]) ?_
   simp only [SS,Nat.reduceAdd]
   exact ag▸ab rfl (gb _ _)
end
end Go.VL
end

section
set_option linter.unusedVariables false
namespace Go.VL
section
variable {P:Program} {G:Nat->Option (List AV)}
theorem mE {f fw:FuncId} (h:Has P f cC) {a c:List AV} {es:List AV} (hk:∀ e∈es,part false e.cells 0 1=some e) {p:AV->Bool} (hw:∀ e∈es,VP P G fw (a++[e]++c) (.bool (p e)))
   (hp:∀ e∈es,af e) (ha:∀ x∈a,af x) (hc:∀ x∈c,af x) (hl:es.length<9223372036854775807):VP P G f [.sl 1 es, .fn (.func fw) a c] (.int .i64 (xT (es.findIdx? p))):=by
 refine VP.has h ?_
 simp only [cC,SS,Nat.reduceAdd,aE]
 refine VW.bR (α := Nat × Nat) (fun x=>⟨[.sl 1 es, .fn (.func fw) a c, .top, .top, .top, .top, .top, .int .i64 es.length, .int .i64 x.1]++List.replicate 10 .top,fun _=>none,x.2⟩) (fun x=>x.1<=es.length/\∀ (j:Nat) e,j<x.1->es[j]? = some e->p e=false) (fun x=>es.length-x.1) (0,4) ?_ ⟨Nat.zero_le _,fun j e hj=>absurd hj (Nat.not_lt_zero j)⟩ ?_
 . exact Wk.bc (by simp [Fg,List.replicate]) (Nat.le_refl _)
 rintro ⟨i,n⟩ ⟨hi,hn⟩
 simp only [] at hi hn
 simp only [SS]
 by_cases aN:i<es.length
 . have h1:(i:Int)<(es.length:Int):=by omega
   obtain ⟨e,he⟩:∃ e,es[i]? = some e:=⟨es[i],by simp [aN]⟩
   have hm:=List.mem_of_getElem? he
   simp only [SS,Nat.reduceAdd,h1,decide_true,aS rfl he,az,hk e hm]
   refine aj (hw e hm) (by
     intro x hx
     simp only [List.mem_append,List.mem_singleton] at hx
     rcases hx with (hx | rfl) | hx
     . exact ha x hx
     . exact hp _ hm
     . exact hc x hx) ?_
   cases Rk:p e
   . simp only [SS,Nat.reduceAdd,aq i (by omega)]
     refine ⟨(i+1,_),⟨by simp only [];omega, ?_⟩,by simp only [];omega,Wk.bc (by simp [Fg]) (Nat.le_refl _)⟩
     intro j e' hj xc
     by_cases B2:j<i
     . exact hn j e' B2 xc
     . have:j=i:=by simp only [] at hj;omega
       subst this;rw [he] at xc;simp only [Option.some.injEq] at xc;subst xc;exact Rk
   . simp only [SS,Nat.reduceAdd]
     rw [px he Rk hn]
     exact ag▸ab rfl (af.int _ _)
 . have h1 : ¬ (i:Int)<(es.length:Int):=by omega
   simp only [SS,h1,decide_false]
   rw [pw (fun j e hj=>hn j e (by have:=(List.getElem?_eq_some_iff.1 hj).1;omega) hj)]
   exact ag▸ab rfl (af.int _ _)
theorem gd {f fw:FuncId} (h:Has P f bK) {a c:List AV} {es:List AV} (hk:∀ e∈es,part true e.cells 0 7=some e) {p:AV->Bool} (hw:∀ e∈es,VP P G fw (a++[e]++c) (.bool (p e)))
   (hp:∀ e∈es,af e) (ha:∀ x∈a,af x) (hc:∀ x∈c,af x) (hl:es.length<9223372036854775807):VP P G f [.sl 7 es, .fn (.func fw) a c] (.int .i64 (xT (es.findIdx? p))):=by
 refine VP.has h ?_
 simp only [bK,SS,Nat.reduceAdd,aE]
 refine VW.bR (α := Nat × Nat) (fun x=>⟨[.sl 7 es, .fn (.func fw) a c, .top, .top, .top, .top, .top, .int .i64 es.length, .int .i64 x.1]++List.replicate 10 .top,fun _=>none,x.2⟩) (fun x=>x.1<=es.length/\∀ (j:Nat) e,j<x.1->es[j]? = some e->p e=false) (fun x=>es.length-x.1) (0,4) ?_ ⟨Nat.zero_le _,fun j e hj=>absurd hj (Nat.not_lt_zero j)⟩ ?_
 . exact Wk.bc (by simp [Fg,List.replicate]) (Nat.le_refl _)
 rintro ⟨i,n⟩ ⟨hi,hn⟩
 simp only [] at hi hn
 simp only [SS]
 by_cases aN:i<es.length
 . have h1:(i:Int)<(es.length:Int):=by omega
   obtain ⟨e,he⟩:∃ e,es[i]? = some e:=⟨es[i],by simp [aN]⟩
   have hm:=List.mem_of_getElem? he
   simp only [SS,Nat.reduceAdd,h1,decide_true,aS rfl he,az,hk e hm]
   refine aj (hw e hm) (by
     intro x hx
     simp only [List.mem_append,List.mem_singleton] at hx
     rcases hx with (hx | rfl) | hx
     . exact ha x hx
     . exact hp _ hm
     . exact hc x hx) ?_
   cases Rk:p e
   . simp only [SS,Nat.reduceAdd,aq i (by omega)]
     refine ⟨(i+1,_),⟨by simp only [];omega, ?_⟩,by simp only [];omega,Wk.bc (by simp [Fg]) (Nat.le_refl _)⟩
     intro j e' hj xc
     by_cases B2:j<i
     . exact hn j e' B2 xc
     . have:j=i:=by simp only [] at hj;omega
       subst this;rw [he] at xc;simp only [Option.some.injEq] at xc;subst xc;exact Rk
   . simp only [SS,Nat.reduceAdd]
     rw [px he Rk hn]
     exact ag▸ab rfl (af.int _ _)
 . have h1 : ¬ (i:Int)<(es.length:Int):=by omega
   simp only [SS,h1,decide_false]
   rw [pw (fun j e hj=>hn j e (by have:=(List.getElem?_eq_some_iff.1 hj).1;omega) hj)]
   exact ag▸ab rfl (af.int _ _)
theorem jA {f fw:FuncId} (h:Has P f bo) {a c:List AV} {es:List AV} (hk:∀ e∈es,part true e.cells 0 5=some e) {p:AV->Bool} (hw:∀ e∈es,VP P G fw (a++[e]++c) (.bool (p e)))
   (hp:∀ e∈es,af e) (ha:∀ x∈a,af x) (hc:∀ x∈c,af x) (hl:es.length<9223372036854775807):VP P G f [.sl 5 es, .fn (.func fw) a c] (.int .i64 (xT (es.findIdx? p))):=by
 refine VP.has h ?_
 simp only [bo,SS,Nat.reduceAdd,aE]
 refine VW.bR (α := Nat × Nat) (fun x=>⟨[.sl 5 es, .fn (.func fw) a c, .top, .top, .top, .top, .top, .int .i64 es.length, .int .i64 x.1]++List.replicate 10 .top,fun _=>none,x.2⟩) (fun x=>x.1<=es.length/\∀ (j:Nat) e,j<x.1->es[j]? = some e->p e=false) (fun x=>es.length-x.1) (0,4) ?_ ⟨Nat.zero_le _,fun j e hj=>absurd hj (Nat.not_lt_zero j)⟩ ?_
 . exact Wk.bc (by simp [Fg,List.replicate]) (Nat.le_refl _)
 rintro ⟨i,n⟩ ⟨hi,hn⟩
 simp only [] at hi hn
 simp only [SS]
 by_cases aN:i<es.length
 . have h1:(i:Int)<(es.length:Int):=by omega
   obtain ⟨e,he⟩:∃ e,es[i]? = some e:=⟨es[i],by simp [aN]⟩
   have hm:=List.mem_of_getElem? he
   simp only [SS,Nat.reduceAdd,h1,decide_true,aS rfl he,az,hk e hm]
   refine aj (hw e hm) (by
     intro x hx
     simp only [List.mem_append,List.mem_singleton] at hx
     rcases hx with (hx | rfl) | hx
     . exact ha x hx
     . exact hp _ hm
     . exact hc x hx) ?_
   cases Rk:p e
   . simp only [SS,Nat.reduceAdd,aq i (by omega)]
     refine ⟨(i+1,_),⟨by simp only [];omega, ?_⟩,by simp only [];omega,Wk.bc (by simp [Fg]) (Nat.le_refl _)⟩
     intro j e' hj xc
     by_cases B2:j<i
     . exact hn j e' B2 xc
     . have:j=i:=by simp only [] at hj;omega
       subst this;rw [he] at xc;simp only [Option.some.injEq] at xc;subst xc;exact Rk
   . simp only [SS,Nat.reduceAdd]
     rw [px he Rk hn]
     exact ag▸ab rfl (af.int _ _)
 . have h1 : ¬ (i:Int)<(es.length:Int):=by omega
   simp only [SS,h1,decide_false]
   rw [pw (fun j e hj=>hn j e (by have:=(List.getElem?_eq_some_iff.1 hj).1;omega) hj)]
   exact ag▸ab rfl (af.int _ _)
theorem lP {f fi fw:FuncId} (h:Has P f (cp fi)) {a c:List AV} {es:List AV} {p:AV->Bool} (hi:VP P G fi [.sl 1 es, .fn (.func fw) a c] (.int .i64 (xT (es.findIdx? p))))
   (hp:af (.sl 1 es)) (FN:af (.fn (.func fw) a c)):VP P G f [.sl 1 es, .fn (.func fw) a c] (.bool (es.any p)):=by
 refine VP.has h ?_
 simp only [cp,SS,Nat.reduceAdd]
 refine aj hi (by intro x hx;simp at hx;rcases hx with rfl | rfl<;>assumption) ?_
 simp only [SS,Nat.reduceAdd]
 have e:decide (0<=xT (es.findIdx? p))=es.any p:=by
   rw [<- List.findIdx?_isSome]
   cases es.findIdx? p<;>simp [xT]
 rw [e]
 exact ag▸ab rfl (af.bool _)
theorem fy {f fi fw:FuncId} (h:Has P f (bA fi)) {a c:List AV} {es:List AV} {p:AV->Bool} (hi:VP P G fi [.sl 7 es, .fn (.func fw) a c] (.int .i64 (xT (es.findIdx? p))))
   (hp:af (.sl 7 es)) (FN:af (.fn (.func fw) a c)):VP P G f [.sl 7 es, .fn (.func fw) a c] (.bool (es.any p)):=by
 refine VP.has h ?_
 simp only [bA,SS,Nat.reduceAdd]
 refine aj hi (by intro x hx;simp at hx;rcases hx with rfl | rfl<;>assumption) ?_
 simp only [SS,Nat.reduceAdd]
 have e:decide (0<=xT (es.findIdx? p))=es.any p:=by
   rw [<- List.findIdx?_isSome]
   cases es.findIdx? p<;>simp [xT]
 rw [e]
 exact ag▸ab rfl (af.bool _)
end
end Go.VL
end

section
set_option linter.unusedVariables false
namespace Go.VL
structure bP where
 name:List UInt8
 kind:Int
 aC:List (List UInt8)
 values:List AV
 supp:Bool
def strs (l:List (List UInt8)):AV := .sl 1 (l.map .str)
def bP.av (f:bP):AV := .agg [.str f.name, .int .i64 f.kind,strs f.aC, .sl 7 f.values, .bool f.supp]
def oz (v:AV):Prop:=∃ cs,v = .agg cs/\cs.length=7/\∀ c∈cs,af c/\c.one=true
structure bP.Ok (f:bP):Prop where
 bG:∀ v∈f.values,oz v
 ins:f.aC.length<9223372036854775807
 vl:f.values.length<9223372036854775807
theorem oz.pure {v:AV} (h:oz v):af v:=by
 obtain ⟨cs,rfl,_,hc⟩:=h
 exact af.agg fun c h=>(hc c h).1
theorem oz.part {v:AV} (h:oz v):part true v.cells 0 7=some v:=by
 obtain ⟨cs,rfl,hl,_⟩:=h
 simp [VL.part,AV.cells,hl]
 rw [<- hl];exact List.take_length
theorem wc:∀ l:List (List UInt8),flat (l.map .str)=l.map .str
 | []=>rfl
 | s::l=>by have:=wc l;simp only [List.map_cons,flat,List.flatMap_cons,AV.cells] at this ⊢;rw [this];rfl
theorem gY (l:List (List UInt8)):af (strs l):=af.sl (by rw [wc];intro c hc;simp at hc;obtain ⟨s,_,rfl⟩:=hc;exact af.str s)
theorem AA {l:List AV} (h:∀ v∈l,oz v):af (.sl 7 l):=af.sl (by
 intro c hc
 simp only [flat,List.mem_flatMap] at hc
 obtain ⟨v,hv,hc⟩:=hc
 obtain ⟨cs,rfl,_,BA⟩:=h v hv
 exact (BA c hc).1)
theorem bP.Ok.pure {f:bP} (h:f.Ok):af f.av:=af.agg (by
 intro c hc
 simp only [List.mem_cons,List.not_mem_nil,or_false] at hc
 rcases hc with rfl | rfl | rfl | rfl | rfl
 . exact af.str _
 . exact af.int _ _
 . exact gY _
 . exact AA h.bG
 . exact af.bool _)
theorem bP.one (f:bP):(f.av.cells.all AV.one=true)=True:=by simp [bP.av,AV.cells,AV.one,strs]
theorem bP.p0 (f:bP):part false f.av.cells 0 1=some (.str f.name):=rfl
theorem bP.p1 (f:bP):part false f.av.cells 1 1=some (.int .i64 f.kind):=rfl
theorem bP.p2 (f:bP):part false f.av.cells 2 1=some (strs f.aC):=rfl
theorem bP.p3 (f:bP):part false f.av.cells 3 1=some (.sl 7 f.values):=rfl
theorem bP.p4 (f:bP):part false f.av.cells 4 1=some (.bool f.supp):=rfl
theorem bP.whole (f:bP):part true f.av.cells 0 5=some f.av:=rfl
theorem bP.size (f:bP):f.av.size=5:=rfl
section
variable {P:Program} {G:Nat->Option (List AV)}
theorem N5 {f:FuncId} (h:Has P f im) (F:bP) (nm:List UInt8):VP P G f [F.av, .ep [.str nm] 0] (.bool (F.name==nm)):=by
 refine VP.has h ?_
 have e1:part false [AV.str nm] 0 1=some (.str nm):=rfl
 simp only [im,SS,Nat.reduceAdd,bP.one,ae,bP.p0,az,e1]
 exact ag▸ab rfl (af.bool _)
def MD (l:List bP) (nm:List UInt8):Int:=xT (l.findIdx? fun F=>F.name==nm)
def Rl:AV->List UInt8
 | .agg (.str s::_)=>s
 | _=>[]
theorem findIdx_map (l:List bP) (nm:List UInt8):(l.map bP.av).findIdx? (fun e=>Rl e==nm)=l.findIdx? fun F=>F.name==nm:=by
 rw [List.findIdx?_map];rfl
def zk (l:List bP):AV := .sl 5 (l.map bP.av)
theorem KA {l:List bP} (h:∀ F∈l,F.Ok):af (zk l):=af.sl (by
 intro c hc
 simp only [flat,List.mem_flatMap,List.mem_map] at hc
 obtain ⟨v,⟨F,hF,rfl⟩,hc⟩:=hc
 simp only [bP.av,AV.cells,List.mem_cons,List.not_mem_nil,or_false] at hc
 rcases hc with rfl | rfl | rfl | rfl | rfl
 . exact af.str _
 . exact af.int _ _
 . exact gY _
 . exact AA (h F hF).bG
 . exact af.bool _)
theorem Uv {f f1 fi:FuncId} (h:Has P f (gx f1 fi)) (h1:∀ (F:bP) (nm:List UInt8),VP P G f1 [F.av, .ep [.str nm] 0] (.bool (F.name==nm)))
   (hi:Has P fi bo) {l:List bP} (hl:∀ F∈l,F.Ok) (hlen:l.length<9223372036854775807) (nm:List UInt8):VP P G f [zk l, .str nm] (.int .i64 (MD l nm)):=by
 refine VP.has h ?_
 have e0:(AV.cells (.str nm)).all AV.one=true:=rfl
 simp only [gx,SS,Nat.reduceAdd,e0]
 have hc:=jA (G:=G) hi (fw:=f1) (a:=[]) (c:=[.ep [.str nm] 0]) (es:=l.map bP.av) (p:=fun e=>Rl e==nm)
   (by intro e he;simp only [List.mem_map] at he;obtain ⟨F,_,rfl⟩:=he;exact F.whole)
   (by intro e he;simp only [List.mem_map] at he;obtain ⟨F,_,rfl⟩:=he;exact h1 F nm)
   (by intro e he;simp only [List.mem_map] at he;obtain ⟨F,hF,rfl⟩:=he;exact (hl F hF).pure)
   (by simp) (by intro x hx;simp at hx;subst hx;exact af.ep (by simp [af.str])) (by simpa using hlen)
 rw [findIdx_map] at hc
 refine iJ [([0],⟨[.str nm],1,false⟩)] hc ?_ (cj.int _ _) ?_ ?_
 . refine aY.cons (View.pure (KA hl)) (aY.cons (View.fn aY.nil (aY.cons ?_ aY.nil)) aY.nil)
   exact View.ref (bk:=⟨[.str nm],1,false⟩) rfl rfl (aY.pure (by simp [AV.cells,af.str]))
 . simp [aa.put,AV.size,AV.cells]
 simp only [SS,Nat.reduceAdd]
 exact ag▸ab rfl (af.int _ _)
theorem Rm {f fn YJ v1 YK v2:FuncId} (h:Has P f (ki fn YJ v1 YK v2)) (hn:∀ s,VP P G fn [.str s] (.bool (bg s))) (F:bP) (hF:F.Ok) {bi bv:Bool}
   (h1:F.aC.length<=50->VP P G YJ [strs F.aC, .fn (.func v1) [] []] (.bool bi)) (h2:F.values.length<=10->VP P G YK [.sl 7 F.values, .fn (.func v2) [] []] (.bool bv)) :
   VP P G f [F.av] (.bool (bg F.name&&decide (1<=F.kind)&&decide (F.kind<=6)&&decide (F.aC.length<=50)&&decide (F.values.length<=10) && !bi && !bv)):=by
 refine VP.has h ?_
 simp only [ki,SS,Nat.reduceAdd,bP.one,ae,bP.p0]
 refine aj (hn F.name) (by simp [af.str]) ?_
 have e1:jN false (strs F.aC)=some (.int .i64 F.aC.length):=by simp [strs,jN]
 have hpf:∀ v:FuncId,af (.fn (.func v) [] []):=fun v=>af.fn (by simp) (by simp)
 cases b1:bg F.name
 . simp only [SS,Nat.reduceAdd,Bool.false_and]
   exact ag▸ab rfl (af.bool _)
 by_cases b2:1<=F.kind
 case neg =>
   simp only [SS,Nat.reduceAdd,Bool.false_and,Bool.and_false,ae,bP.p1,b2,decide_false]
   exact ag▸ab rfl (af.bool _)
 by_cases b3:F.kind<=6
 case neg =>
   simp only [SS,Nat.reduceAdd,Bool.false_and,Bool.and_false,ae,bP.p1,b2,b3,decide_false,decide_true,Bool.true_and]
   exact ag▸ab rfl (af.bool _)
 by_cases b4:F.aC.length<=50
 case neg =>
   have b4' : ¬ (F.aC.length:Int)<=50:=by omega
   simp only [SS,Nat.reduceAdd,Bool.false_and,Bool.and_false,ae,bP.p1,bP.p2,e1,b2,b3,b4,b4',decide_false,decide_true,Bool.true_and]
   exact ag▸ab rfl (af.bool _)
 have b4':(F.aC.length:Int)<=50:=by omega
 by_cases b5:F.values.length<=10
 case neg =>
   have b5' : ¬ (F.values.length:Int)<=10:=by omega
   simp only [SS,Nat.reduceAdd,Bool.false_and,Bool.and_false,ae,bP.p1,bP.p2,bP.p3,e1,b2,b3,b4,b4',b5,b5',decide_false,decide_true,Bool.true_and]
   exact ag▸ab rfl (af.bool _)
 have b5':(F.values.length:Int)<=10:=by omega
 simp only [SS,Nat.reduceAdd,ae,bP.p1,bP.p2,bP.p3,e1,b2,b3,b4,b4',b5,b5',decide_true,Bool.true_and]
 refine aj (h1 b4) (by intro x hx;simp at hx;rcases hx with rfl | rfl;exact gY _;exact hpf _) ?_
 cases bi
 case true =>
   simp only [SS,Nat.reduceAdd,Bool.false_and]
   exact ag▸ab rfl (af.bool _)
 simp only [SS,Nat.reduceAdd,ae,bP.p3]
 refine aj (h2 b5) (by intro x hx;simp at hx;rcases hx with rfl | rfl;exact AA hF.bG;exact hpf _) ?_
 simp only [SS,Nat.reduceAdd,Bool.true_and]
 exact ag▸ab rfl (af.bool _)
end
end Go.VL
end

section
set_option linter.unusedVariables false
namespace Go.VL
open Go.Lib
inductive EX where
 | mk (op:Int) (n1:Bool) (w1:List Nat) (n2:Bool) (w2:List Nat) (nm:List UInt8) (args:List EX)
theorem EX.induct {C:EX->Prop} (h:∀ op n1 w1 n2 w2 nm args,(∀ x∈args,C x)->C (.mk op n1 w1 n2 w2 nm args)):∀ e,C e:=fun e =>
 EX.rec (motive_1:=C) (motive_2:=fun l=>∀ x∈l,C x) (fun op n1 w1 n2 w2 nm args ih=>h op n1 w1 n2 w2 nm args ih) (by simp) (fun a l ha hl=>by
   intro x hx
   rcases List.mem_cons.1 hx with rfl | hx
   . exact ha
   . exact hl x hx) e
mutual
def EX.av:EX->AV
 | .mk op n1 w1 n2 w2 nm args => .agg [.int .i64 op, .bool n1, .sl 1 (us w1), .bool n2, .sl 1 (us w2), .str nm, .sl 7 (EX.kY args)]
def EX.kY:List EX->List AV
 | []=>[]
 | e::l=>e.av::EX.kY l
end
mutual
def EX.nodes:EX->Nat
 | .mk _ _ _ _ _ _ args=>1+EX.cX args
def EX.cX:List EX->Nat
 | []=>0
 | e::l=>e.nodes+EX.cX l
end
mutual
def EX.depth:EX->Nat
 | .mk _ _ _ _ _ _ args=>EX.fL args+1
def EX.fL:List EX->Nat
 | []=>0
 | e::l=>max e.depth (EX.fL l)
end
def fQ (n1:Bool) (w1:List Nat) (n2:Bool) (w2:List Nat):Bool:=w1.isEmpty&&w2.isEmpty && !n1 && !n2
def arity (op:Int):Nat:=if op<=2 then 0 else if op<=3 then 1 else 2
mutual
def EX.formed:EX->Bool
 | .mk op n1 w1 n2 w2 nm args=>decide (1<=op)&&decide (op<=7)&&decide (args.length=arity op) &&
   (if op=1 then oy n1 w1 n2 w2&&(nm.isEmpty||bg nm) else if op=2 then fQ n1 w1 n2 w2&&bg nm else fQ n1 w1 n2 w2&&nm.isEmpty&&EX.gm args)
def EX.gm:List EX->Bool
 | []=>true
 | e::l=>e.formed&&EX.gm l
end
mutual
def EX.nu:EX->Bool
 | .mk _ _ w1 _ w2 nm args=>EX.Gh args&&decide (w1.length<=8)&&decide (w2.length<=8)&&decide (nm.length<=60)
def EX.Gh:List EX->Bool
 | []=>true
 | e::l=>e.nu&&EX.Gh l
end
mutual
def EX.Ok:EX->Prop
 | .mk op _ w1 _ w2 nm args => -9223372036854775808<=op/\op<9223372036854775808/\Wd w1/\Wd w2/\w1.length<=9223372036854775807/\w2.length<=9223372036854775807/\nm.length<=9223372036854775807/\args.length<=9223372036854775807/\EX.OkL args
def EX.OkL:List EX->Prop
 | []=>True
 | e::l=>e.Ok/\EX.OkL l
end
theorem EX.cJ:∀ l,EX.kY l=l.map EX.av
 | []=>rfl
 | e::l=>by rw [EX.kY,EX.cJ l];rfl
theorem EX.we:∀ l,EX.gm l=l.all EX.formed
 | []=>rfl
 | e::l=>by rw [EX.gm,EX.we l];rfl
theorem EX.x4:∀ l,EX.Gh l=l.all EX.nu
 | []=>rfl
 | e::l=>by rw [EX.Gh,EX.x4 l];rfl
theorem EX.Gi:∀ {l},EX.OkL l↔∀ x∈l,EX.Ok x
 | []=>by simp [EX.OkL]
 | e::l=>by rw [EX.OkL,EX.Gi (l:=l)];simp
theorem EX.N6 (e:EX):1<=e.nodes:=by cases e;rw [EX.nodes];omega
theorem EX.size (e:EX):e.av.size=7:=by cases e;rw [EX.av];rfl
theorem EX.j7:∀ e:EX,∀ c∈e.av.cells,af c:=EX.induct fun op n1 w1 n2 w2 nm args ih=>by
 rw [EX.av]
 intro c hc
 simp [AV.cells] at hc
 rcases hc with rfl | rfl | rfl | rfl | rfl | rfl | rfl
 . exact af.int _ _
 . exact af.bool _
 . exact kU _
 . exact af.bool _
 . exact kU _
 . exact af.str _
 . refine af.sl ?_
   rw [EX.cJ]
   intro c hc
   simp only [flat,List.mem_flatMap,List.mem_map] at hc
   obtain ⟨_,⟨x,hx,rfl⟩,K7⟩:=hc
   exact ih x hx c K7
theorem EX.pure (e:EX):af e.av:=by
 have h:=EX.j7 e
 cases e with
 | mk op n1 w1 n2 w2 nm args=>rw [EX.av] at h ⊢;exact af.agg h
theorem EX.eM (l:List EX):af (.sl 7 (EX.kY l)):=by
 have:=EX.j7 (.mk 0 false [] false [] [] l)
 rw [EX.av] at this
 exact this _ (by simp [AV.cells])
theorem EX.aaQ (e:EX):oz e.av:=by
 have h:=EX.j7 e
 cases e with
 | mk op n1 w1 n2 w2 nm args =>
   rw [EX.av] at h ⊢
   exact ⟨_,rfl,rfl,fun c hc=>⟨h c hc,by simp at hc;rcases hc with rfl | rfl | rfl | rfl | rfl | rfl | rfl<;>rfl⟩⟩
theorem EX.one (e:EX):(e.av.cells.all AV.one=true)=True:=by cases e;rw [EX.av];simp [AV.cells,AV.one]
theorem EX.all (e:EX):VL.part true e.av.cells 0 7=some e.av:=e.aaQ.part
end Go.VL
end

section
set_option linter.unusedVariables false
namespace Go.VL
theorem KB:∀ {a b:List Nat},us a=us b->a=b
 | [],[],_=>rfl
 | [],b::bs,h=>by simp [us] at h
 | a::al,[],h=>by simp [us] at h
 | a::al,b::bs,h=>by
   simp only [us,List.map_cons,List.cons.injEq,AV.int.injEq,true_and] at h
   rw [KB (a:=al) (b:=bs) h.2,Int.ofNat.inj h.1]
theorem Dq {α β : Type} {f : α -> β}:∀ {l l':List α},(∀ x∈l,∀ y,f x=f y->x=y)->l.map f=l'.map f->l=l'
 | [],[],_,_=>rfl
 | [],b::bs,_,h=>by simp at h
 | a::al,[],_,h=>by simp at h
 | a::al,b::bs,hi,h=>by
   simp only [List.map_cons,List.cons.injEq] at h
   rw [hi a (by simp) b h.1,Dq (fun x hx=>hi x (by simp [hx])) h.2]
theorem EX.Rn:∀ e e':EX,e.av=e'.av->e=e':=EX.induct fun op n1 w1 n2 w2 nm args ih=>fun e' h=>by
 cases e' with
 | mk ME Dr B7 Ds B8 OU gw =>
   rw [EX.av,EX.av] at h
   simp only [AV.agg.injEq,List.cons.injEq,AV.int.injEq,AV.bool.injEq,AV.sl.injEq,AV.str.injEq,true_and,and_true] at h
   obtain ⟨h1,h2,h3,h4,h5,h6,h7⟩:=h
   rw [EX.cJ,EX.cJ] at h7
   rw [h1,h2,KB h3,h4,KB h5,h6,Dq ih h7]
noncomputable def Ro (v:AV):Bool := @decide (∃ e:EX,e.av=v/\e.formed=false) (Classical.propDecidable _)
theorem IK (e:EX):Ro e.av = !e.formed:=by
 unfold Ro
 cases h:e.formed
 . exact @decide_eq_true _ (Classical.propDecidable _) ⟨e,rfl,h⟩
 . refine @decide_eq_false _ (Classical.propDecidable _) ?_
   rintro ⟨e',h1,h2⟩
   rw [EX.Rn _ _ h1] at h2
   rw [h] at h2;cases h2
section
variable (op:Int) (n1:Bool) (w1:List Nat) (n2:Bool) (w2:List Nat) (nm:List UInt8) (args:List EX)
theorem EX.q0:part false (EX.mk op n1 w1 n2 w2 nm args).av.cells 0 1=some (.int .i64 op):=by rw [EX.av];rfl
theorem EX.q1:part true (EX.mk op n1 w1 n2 w2 nm args).av.cells 1 4=some (RR n1 w1 n2 w2):=by rw [EX.av];rfl
theorem EX.q5:part false (EX.mk op n1 w1 n2 w2 nm args).av.cells 5 1=some (.str nm):=by rw [EX.av];rfl
theorem EX.q6:part false (EX.mk op n1 w1 n2 w2 nm args).av.cells 6 1=some (.sl 7 (EX.kY args)):=by rw [EX.av];rfl
theorem EX.l6:jN false (.sl 7 (EX.kY args))=some (.int .i64 (args.length:Int)):=by rw [EX.cJ];simp [jN]
theorem aaR:part false (RR n1 w1 n2 w2).cells 0 1=some (.bool n1):=rfl
theorem aaS:part false (RR n1 w1 n2 w2).cells 1 1=some (.sl 1 (us w1)):=rfl
theorem aaT:part false (RR n1 w1 n2 w2).cells 2 1=some (.bool n2):=rfl
theorem aaU:part false (RR n1 w1 n2 w2).cells 3 1=some (.sl 1 (us w2)):=rfl
end
section
variable {P:Program} {G:Nat->Option (List AV)}
theorem Uw {f:FuncId} (h:Has P f pN) (n1:Bool) (w1:List Nat) (n2:Bool) (w2:List Nat):VP P G f [RR n1 w1 n2 w2] (.bool (fQ n1 w1 n2 w2)):=by
 refine VP.has h ?_
 have hlen:∀ ws,jN false (.sl 1 (us ws))=some (.int .i64 ws.length):=fun ws=>by simp [jN,dG]
 have d1:decide ((w1.length:Int)=0)=w1.isEmpty:=by cases w1<;>simp<;>omega
 have d2:decide ((w2.length:Int)=0)=w2.isEmpty:=by cases w2<;>simp<;>omega
 unfold fQ
 cases b1:w1.isEmpty<;>cases b2:w2.isEmpty<;>cases n1<;>cases n2 <;>
 . rw [b1] at d1;rw [b2] at d2
   simp only [pN,SS,Nat.reduceAdd,Db,ae,aaR,aaS,aaT,aaU,hlen,d1,d2,Bool.and_false,Bool.and_true]
   exact ag▸ab rfl (af.bool _)
theorem KC {f ff:FuncId} (h:Has P f (jQ ff)) (e:EX) (hf:VP P G ff [e.av] (.bool e.formed)):VP P G f [e.av] (.bool (!e.formed)):=by
 refine VP.has h ?_
 simp only [jQ,SS,Nat.reduceAdd,EX.one,ae,EX.all]
 refine aj hf (by simp [EX.pure]) ?_
 simp only [SS,Nat.reduceAdd]
 exact ag▸ab rfl (af.bool _)
def b7:List AV:=[.int .i64 0, .int .i64 0, .int .i64 0, .int .i64 1, .int .i64 2, .int .i64 2, .int .i64 2, .int .i64 2]
theorem N7 {f fd fn jB fc f1:FuncId} {g0:Nat} (h:Has P f (aP fd fn jB fc f1 g0)) (op:Int) (n1:Bool) (w1:List Nat) (n2:Bool) (w2:List Nat) (nm:List UInt8) (args:List EX) (o1:op<1) :
   VP P G f [(EX.mk op n1 w1 n2 w2 nm args).av] (.bool false):=by
 refine VP.has h ?_
 have e1:decide (op<1)=true:=an o1
 simp only [aP,SS,DD,Nat.reduceAdd,EX.one,ae,EX.q0,e1]
 refine ⟨by simp [ar,apart], ?_⟩
 exact ag▸ab rfl (af.bool _)
theorem N8 {f fd fn jB fc f1:FuncId} {g0:Nat} (h:Has P f (aP fd fn jB fc f1 g0)) (op:Int) (n1:Bool) (w1:List Nat) (n2:Bool) (w2:List Nat) (nm:List UInt8) (args:List EX) (o7:7<op) :
   VP P G f [(EX.mk op n1 w1 n2 w2 nm args).av] (.bool false):=by
 refine VP.has h ?_
 have e1:decide (op<1)=false:=ak (by omega)
 have e2:decide (7<op)=true:=an o7
 simp only [aP,SS,DD,Nat.reduceAdd,EX.one,ae,EX.q0,e1,e2]
 refine ⟨by simp [ar,apart], ?_⟩
 exact ag▸ab rfl (af.bool _)
theorem r5 {t:List AV} {g:Nat} {cs:List AV} (h:G g=some cs):aV.ev G t (.g g) = .ep cs 0:=by simp [aV.ev,h]
theorem EX.a8 (args:List EX):(EX.kY args).length=args.length:=by rw [EX.cJ,List.length_map]
theorem Rp:ij 8 1 (.ep b7 0) (.int .i64 1)=some (.ep b7 1):=by simp [ij]
theorem Rq (σ : aa):gi σ false 1 (.ep b7 1)=some { val := .int .i64 0 }:=rfl
theorem Rr:ij 8 1 (.ep b7 0) (.int .i64 2)=some (.ep b7 2):=by simp [ij]
theorem Rs (σ : aa):gi σ false 1 (.ep b7 2)=some { val := .int .i64 0 }:=rfl
theorem Rt:ij 8 1 (.ep b7 0) (.int .i64 3)=some (.ep b7 3):=by simp [ij]
theorem Ru (σ : aa):gi σ false 1 (.ep b7 3)=some { val := .int .i64 1 }:=rfl
theorem Rv:ij 8 1 (.ep b7 0) (.int .i64 4)=some (.ep b7 4):=by simp [ij]
theorem Rw (σ : aa):gi σ false 1 (.ep b7 4)=some { val := .int .i64 2 }:=rfl
theorem Rx:ij 8 1 (.ep b7 0) (.int .i64 5)=some (.ep b7 5):=by simp [ij]
theorem Ry (σ : aa):gi σ false 1 (.ep b7 5)=some { val := .int .i64 2 }:=rfl
theorem Rz:ij 8 1 (.ep b7 0) (.int .i64 6)=some (.ep b7 6):=by simp [ij]
theorem RA (σ : aa):gi σ false 1 (.ep b7 6)=some { val := .int .i64 2 }:=rfl
theorem RB:ij 8 1 (.ep b7 0) (.int .i64 7)=some (.ep b7 7):=by simp [ij]
theorem RC (σ : aa):gi σ false 1 (.ep b7 7)=some { val := .int .i64 2 }:=rfl
theorem uo {α : Type} {a b : α}:[a,b][0]? = some a:=rfl
theorem uq {α : Type} {a b : α}:[a,b][1]? = some b:=rfl
theorem gO (nm:List UInt8):(nm==([]:List UInt8))=nm.isEmpty:=by cases nm<;>rfl
theorem kq (v:FuncId):af (.fn (.func v) [] []):=af.fn (by simp) (by simp)
theorem RD {f fd fn jB fc f1:FuncId} {g0:Nat} (h:Has P f (aP fd fn jB fc f1 g0)) (hG:G g0=some b7)
   (n1:Bool) (w1:List Nat) (n2:Bool) (w2:List Nat) (nm:List UInt8) (args:List EX)
   (hd:∃ s,VP P G fd [RR n1 w1 n2 w2] (.tup [.str s, .bool (oy n1 w1 n2 w2)])) (hn:VP P G fn [.str nm] (.bool (bg nm))) (qy:VP P G jB [RR n1 w1 n2 w2] (.bool (fQ n1 w1 n2 w2)))
   (hc:VP P G fc [.sl 7 (EX.kY args), .fn (.func f1) [] []] (.bool (!EX.gm args))) :
   VP P G f [(EX.mk 1 n1 w1 n2 w2 nm args).av] (.bool (decide (args.length=0)&&(oy n1 w1 n2 w2&&(or nm.isEmpty (bg nm))))):=by
 have a1:decide ((1:Int)<1)=false:=rfl
 have a2:decide ((7:Int)<1)=false:=rfl
 have a3:decide ((1:Int)=1)=decide (1=1):=rfl
 have a4:decide ((1:Int)=2)=decide (1=2):=rfl
 obtain ⟨s,hd⟩:=hd
 by_cases hl:args.length=0
 case neg =>
   have d2:decide ((args.length:Int)≠0)=true:=an (by omega)
   have d3:decide (args.length=0)=false:=ak hl
   refine VP.has h ?_
   simp only [aP,SS,DD,Nat.reduceAdd,EX.one,ae,EX.q0,EX.q6,a1,a2,r5 hG,EX.a8,Rp,Rq,d2,d3,Bool.false_and]
   refine ⟨by simp [ar,apart], ?_⟩
   exact ag▸ab rfl (af.bool _)
 have d2:decide ((args.length:Int)≠0)=false:=ak (by omega)
 have d3:decide (args.length=0)=true:=an hl
 rw [d3]
 cases b1:oy n1 w1 n2 w2<;>cases b2:nm.isEmpty<;>cases b3:bg nm <;>
 . rw [b1] at hd
   rw [b3] at hn
   refine VP.has h ?_
   simp only [aP,SS,DD,Nat.reduceAdd,EX.one,ae,EX.q0,EX.q1,EX.q6,a1,a2,r5 hG,EX.a8,Rp,Rq,d2,decide_true,Bool.and_true,Bool.and_false,Bool.or_true,Bool.or_false]
   refine ⟨by simp [ar,apart], ?_⟩
   try simp only [SS,DD,Nat.reduceAdd,reduceIte,Nat.reduceEqDiff,EX.one,ae,EX.q0,EX.q1,EX.q5,EX.q6,EX.l6,a1,a2,a3,a4,r5 hG,EX.a8,Rp,Rq,d2,decide_true,decide_false,Bool.true_and,Bool.false_and]
   first
   | refine aj hd (by simp [eE]) ?_
   | refine aj qy (by simp [eE]) ?_
   simp only [SS,Nat.reduceAdd,ae,EX.q5,uo,uq,gO,b2]
   first
   | exact ag▸ab rfl (af.bool _)
   | (refine aj hn (by simp [af.str]) ?_
      simp only [SS,Nat.reduceAdd]
      exact ag▸ab rfl (af.bool _))
   | (refine aj hc (by intro x hx;simp at hx;rcases hx with rfl | rfl;exact EX.eM _;exact kq _) ?_
      simp only [SS,DD,Nat.reduceAdd,reduceIte,Nat.reduceEqDiff,Bool.not_not]
      exact ag▸ab rfl (af.bool _))
theorem RE {f fd fn jB fc f1:FuncId} {g0:Nat} (h:Has P f (aP fd fn jB fc f1 g0)) (hG:G g0=some b7)
   (n1:Bool) (w1:List Nat) (n2:Bool) (w2:List Nat) (nm:List UInt8) (args:List EX)
   (hd:∃ s,VP P G fd [RR n1 w1 n2 w2] (.tup [.str s, .bool (oy n1 w1 n2 w2)])) (hn:VP P G fn [.str nm] (.bool (bg nm))) (qy:VP P G jB [RR n1 w1 n2 w2] (.bool (fQ n1 w1 n2 w2)))
   (hc:VP P G fc [.sl 7 (EX.kY args), .fn (.func f1) [] []] (.bool (!EX.gm args))) :
   VP P G f [(EX.mk 2 n1 w1 n2 w2 nm args).av] (.bool (decide (args.length=0)&&(fQ n1 w1 n2 w2&&bg nm))):=by
 have a1:decide ((2:Int)<1)=false:=rfl
 have a2:decide ((7:Int)<2)=false:=rfl
 have a3:decide ((2:Int)=1)=decide (2=1):=rfl
 have a4:decide ((2:Int)=2)=decide (2=2):=rfl
 obtain ⟨s,hd⟩:=hd
 by_cases hl:args.length=0
 case neg =>
   have d2:decide ((args.length:Int)≠0)=true:=an (by omega)
   have d3:decide (args.length=0)=false:=ak hl
   refine VP.has h ?_
   simp only [aP,SS,DD,Nat.reduceAdd,EX.one,ae,EX.q0,EX.q6,a1,a2,r5 hG,EX.a8,Rr,Rs,d2,d3,Bool.false_and]
   refine ⟨by simp [ar,apart], ?_⟩
   exact ag▸ab rfl (af.bool _)
 have d2:decide ((args.length:Int)≠0)=false:=ak (by omega)
 have d3:decide (args.length=0)=true:=an hl
 rw [d3]
 cases b3:bg nm<;>cases b4:fQ n1 w1 n2 w2 <;>
 . rw [b3] at hn
   rw [b4] at qy
   refine VP.has h ?_
   simp only [aP,SS,DD,Nat.reduceAdd,Nat.reduceEqDiff,EX.one,ae,EX.q0,EX.q1,EX.q6,a1,a2,a3,r5 hG,EX.a8,Rr,Rs,d2,decide_true,decide_false,Bool.and_true,Bool.and_false]
   refine ⟨by simp [ar,apart], ?_⟩
   try simp only [SS,DD,Nat.reduceAdd,reduceIte,Nat.reduceEqDiff,EX.one,ae,EX.q0,EX.q1,EX.q5,EX.q6,EX.l6,a1,a2,a3,a4,r5 hG,EX.a8,Rr,Rs,d2,decide_true,decide_false,Bool.true_and,Bool.false_and]
   first
   | refine aj hd (by simp [eE]) ?_
   | refine aj qy (by simp [eE]) ?_
   simp only [SS,Nat.reduceAdd,ae,EX.q5]
   first
   | exact ag▸ab rfl (af.bool _)
   | (refine aj hn (by simp [af.str]) ?_
      simp only [SS,Nat.reduceAdd]
      exact ag▸ab rfl (af.bool _))
   | (refine aj hc (by intro x hx;simp at hx;rcases hx with rfl | rfl;exact EX.eM _;exact kq _) ?_
      simp only [SS,DD,Nat.reduceAdd,reduceIte,Nat.reduceEqDiff,Bool.not_not]
      exact ag▸ab rfl (af.bool _))
theorem RF {f fd fn jB fc f1:FuncId} {g0:Nat} (h:Has P f (aP fd fn jB fc f1 g0)) (hG:G g0=some b7)
   (n1:Bool) (w1:List Nat) (n2:Bool) (w2:List Nat) (nm:List UInt8) (args:List EX)
   (hd:∃ s,VP P G fd [RR n1 w1 n2 w2] (.tup [.str s, .bool (oy n1 w1 n2 w2)])) (hn:VP P G fn [.str nm] (.bool (bg nm))) (qy:VP P G jB [RR n1 w1 n2 w2] (.bool (fQ n1 w1 n2 w2)))
   (hc:VP P G fc [.sl 7 (EX.kY args), .fn (.func f1) [] []] (.bool (!EX.gm args))) :
   VP P G f [(EX.mk 3 n1 w1 n2 w2 nm args).av] (.bool (decide (args.length=1)&&(fQ n1 w1 n2 w2&&nm.isEmpty&&EX.gm args))):=by
 have a1:decide ((3:Int)<1)=false:=rfl
 have a2:decide ((7:Int)<3)=false:=rfl
 have a3:decide ((3:Int)=1)=decide (3=1):=rfl
 have a4:decide ((3:Int)=2)=decide (3=2):=rfl
 obtain ⟨s,hd⟩:=hd
 by_cases hl:args.length=1
 case neg =>
   have d2:decide ((args.length:Int)≠1)=true:=an (by omega)
   have d3:decide (args.length=1)=false:=ak hl
   refine VP.has h ?_
   simp only [aP,SS,DD,Nat.reduceAdd,EX.one,ae,EX.q0,EX.q6,a1,a2,r5 hG,EX.a8,Rt,Ru,d2,d3,Bool.false_and]
   refine ⟨by simp [ar,apart], ?_⟩
   exact ag▸ab rfl (af.bool _)
 have d2:decide ((args.length:Int)≠1)=false:=ak (by omega)
 have d3:decide (args.length=1)=true:=an hl
 rw [d3]
 cases b2:nm.isEmpty<;>cases b4:fQ n1 w1 n2 w2 <;>
 . rw [b4] at qy
   refine VP.has h ?_
   simp only [aP,SS,DD,Nat.reduceAdd,Nat.reduceEqDiff,EX.one,ae,EX.q0,EX.q1,EX.q6,a1,a2,a3,a4,r5 hG,EX.a8,Rt,Ru,d2,decide_false,Bool.true_and,Bool.false_and,Bool.and_true,Bool.and_false]
   refine ⟨by simp [ar,apart], ?_⟩
   try simp only [SS,DD,Nat.reduceAdd,reduceIte,Nat.reduceEqDiff,EX.one,ae,EX.q0,EX.q1,EX.q5,EX.q6,EX.l6,a1,a2,a3,a4,r5 hG,EX.a8,Rt,Ru,d2,decide_true,decide_false,Bool.true_and,Bool.false_and]
   first
   | refine aj hd (by simp [eE]) ?_
   | refine aj qy (by simp [eE]) ?_
   simp only [SS,Nat.reduceAdd,ae,EX.q5,EX.q6,gO,b2]
   first
   | exact ag▸ab rfl (af.bool _)
   | (refine aj hn (by simp [af.str]) ?_
      simp only [SS,DD,Nat.reduceAdd,reduceIte,Nat.reduceEqDiff]
      exact ag▸ab rfl (af.bool _))
   | (refine aj hc (by intro x hx;simp at hx;rcases hx with rfl | rfl;exact EX.eM _;exact kq _) ?_
      simp only [SS,Nat.reduceAdd,Bool.not_not]
      exact ag▸ab rfl (af.bool _))
theorem RG {f fd fn jB fc f1:FuncId} {g0:Nat} (h:Has P f (aP fd fn jB fc f1 g0)) (hG:G g0=some b7)
   (n1:Bool) (w1:List Nat) (n2:Bool) (w2:List Nat) (nm:List UInt8) (args:List EX)
   (hd:∃ s,VP P G fd [RR n1 w1 n2 w2] (.tup [.str s, .bool (oy n1 w1 n2 w2)])) (hn:VP P G fn [.str nm] (.bool (bg nm))) (qy:VP P G jB [RR n1 w1 n2 w2] (.bool (fQ n1 w1 n2 w2)))
   (hc:VP P G fc [.sl 7 (EX.kY args), .fn (.func f1) [] []] (.bool (!EX.gm args))) :
   VP P G f [(EX.mk 4 n1 w1 n2 w2 nm args).av] (.bool (decide (args.length=2)&&(fQ n1 w1 n2 w2&&nm.isEmpty&&EX.gm args))):=by
 have a1:decide ((4:Int)<1)=false:=rfl
 have a2:decide ((7:Int)<4)=false:=rfl
 have a3:decide ((4:Int)=1)=decide (4=1):=rfl
 have a4:decide ((4:Int)=2)=decide (4=2):=rfl
 obtain ⟨s,hd⟩:=hd
 by_cases hl:args.length=2
 case neg =>
   have d2:decide ((args.length:Int)≠2)=true:=an (by omega)
   have d3:decide (args.length=2)=false:=ak hl
   refine VP.has h ?_
   simp only [aP,SS,DD,Nat.reduceAdd,EX.one,ae,EX.q0,EX.q6,a1,a2,r5 hG,EX.a8,Rv,Rw,d2,d3,Bool.false_and]
   refine ⟨by simp [ar,apart], ?_⟩
   exact ag▸ab rfl (af.bool _)
 have d2:decide ((args.length:Int)≠2)=false:=ak (by omega)
 have d3:decide (args.length=2)=true:=an hl
 rw [d3]
 cases b2:nm.isEmpty<;>cases b4:fQ n1 w1 n2 w2 <;>
 . rw [b4] at qy
   refine VP.has h ?_
   simp only [aP,SS,DD,Nat.reduceAdd,Nat.reduceEqDiff,EX.one,ae,EX.q0,EX.q1,EX.q6,a1,a2,a3,a4,r5 hG,EX.a8,Rv,Rw,d2,decide_false,Bool.true_and,Bool.false_and,Bool.and_true,Bool.and_false]
   refine ⟨by simp [ar,apart], ?_⟩
   try simp only [SS,DD,Nat.reduceAdd,reduceIte,Nat.reduceEqDiff,EX.one,ae,EX.q0,EX.q1,EX.q5,EX.q6,EX.l6,a1,a2,a3,a4,r5 hG,EX.a8,Rv,Rw,d2,decide_true,decide_false,Bool.true_and,Bool.false_and]
   first
   | refine aj hd (by simp [eE]) ?_
   | refine aj qy (by simp [eE]) ?_
   simp only [SS,Nat.reduceAdd,ae,EX.q5,EX.q6,gO,b2]
   first
   | exact ag▸ab rfl (af.bool _)
   | (refine aj hn (by simp [af.str]) ?_
      simp only [SS,DD,Nat.reduceAdd,reduceIte,Nat.reduceEqDiff]
      exact ag▸ab rfl (af.bool _))
   | (refine aj hc (by intro x hx;simp at hx;rcases hx with rfl | rfl;exact EX.eM _;exact kq _) ?_
      simp only [SS,Nat.reduceAdd,Bool.not_not]
      exact ag▸ab rfl (af.bool _))
theorem RH {f fd fn jB fc f1:FuncId} {g0:Nat} (h:Has P f (aP fd fn jB fc f1 g0)) (hG:G g0=some b7)
   (n1:Bool) (w1:List Nat) (n2:Bool) (w2:List Nat) (nm:List UInt8) (args:List EX)
   (hd:∃ s,VP P G fd [RR n1 w1 n2 w2] (.tup [.str s, .bool (oy n1 w1 n2 w2)])) (hn:VP P G fn [.str nm] (.bool (bg nm))) (qy:VP P G jB [RR n1 w1 n2 w2] (.bool (fQ n1 w1 n2 w2)))
   (hc:VP P G fc [.sl 7 (EX.kY args), .fn (.func f1) [] []] (.bool (!EX.gm args))) :
   VP P G f [(EX.mk 5 n1 w1 n2 w2 nm args).av] (.bool (decide (args.length=2)&&(fQ n1 w1 n2 w2&&nm.isEmpty&&EX.gm args))):=by
 have a1:decide ((5:Int)<1)=false:=rfl
 have a2:decide ((7:Int)<5)=false:=rfl
 have a3:decide ((5:Int)=1)=decide (5=1):=rfl
 have a4:decide ((5:Int)=2)=decide (5=2):=rfl
 obtain ⟨s,hd⟩:=hd
 by_cases hl:args.length=2
 case neg =>
   have d2:decide ((args.length:Int)≠2)=true:=an (by omega)
   have d3:decide (args.length=2)=false:=ak hl
   refine VP.has h ?_
   simp only [aP,SS,DD,Nat.reduceAdd,EX.one,ae,EX.q0,EX.q6,a1,a2,r5 hG,EX.a8,Rx,Ry,d2,d3,Bool.false_and]
   refine ⟨by simp [ar,apart], ?_⟩
   exact ag▸ab rfl (af.bool _)
 have d2:decide ((args.length:Int)≠2)=false:=ak (by omega)
 have d3:decide (args.length=2)=true:=an hl
 rw [d3]
 cases b2:nm.isEmpty<;>cases b4:fQ n1 w1 n2 w2 <;>
 . rw [b4] at qy
   refine VP.has h ?_
   simp only [aP,SS,DD,Nat.reduceAdd,Nat.reduceEqDiff,EX.one,ae,EX.q0,EX.q1,EX.q6,a1,a2,a3,a4,r5 hG,EX.a8,Rx,Ry,d2,decide_false,Bool.true_and,Bool.false_and,Bool.and_true,Bool.and_false]
   refine ⟨by simp [ar,apart], ?_⟩
   try simp only [SS,DD,Nat.reduceAdd,reduceIte,Nat.reduceEqDiff,EX.one,ae,EX.q0,EX.q1,EX.q5,EX.q6,EX.l6,a1,a2,a3,a4,r5 hG,EX.a8,Rx,Ry,d2,decide_true,decide_false,Bool.true_and,Bool.false_and]
   first
   | refine aj hd (by simp [eE]) ?_
   | refine aj qy (by simp [eE]) ?_
   simp only [SS,Nat.reduceAdd,ae,EX.q5,EX.q6,gO,b2]
   first
   | exact ag▸ab rfl (af.bool _)
   | (refine aj hn (by simp [af.str]) ?_
      simp only [SS,DD,Nat.reduceAdd,reduceIte,Nat.reduceEqDiff]
      exact ag▸ab rfl (af.bool _))
   | (refine aj hc (by intro x hx;simp at hx;rcases hx with rfl | rfl;exact EX.eM _;exact kq _) ?_
      simp only [SS,Nat.reduceAdd,Bool.not_not]
      exact ag▸ab rfl (af.bool _))
theorem RI {f fd fn jB fc f1:FuncId} {g0:Nat} (h:Has P f (aP fd fn jB fc f1 g0)) (hG:G g0=some b7)
   (n1:Bool) (w1:List Nat) (n2:Bool) (w2:List Nat) (nm:List UInt8) (args:List EX)
   (hd:∃ s,VP P G fd [RR n1 w1 n2 w2] (.tup [.str s, .bool (oy n1 w1 n2 w2)])) (hn:VP P G fn [.str nm] (.bool (bg nm))) (qy:VP P G jB [RR n1 w1 n2 w2] (.bool (fQ n1 w1 n2 w2)))
   (hc:VP P G fc [.sl 7 (EX.kY args), .fn (.func f1) [] []] (.bool (!EX.gm args))) :
   VP P G f [(EX.mk 6 n1 w1 n2 w2 nm args).av] (.bool (decide (args.length=2)&&(fQ n1 w1 n2 w2&&nm.isEmpty&&EX.gm args))):=by
 have a1:decide ((6:Int)<1)=false:=rfl
 have a2:decide ((7:Int)<6)=false:=rfl
 have a3:decide ((6:Int)=1)=decide (6=1):=rfl
 have a4:decide ((6:Int)=2)=decide (6=2):=rfl
 obtain ⟨s,hd⟩:=hd
 by_cases hl:args.length=2
 case neg =>
   have d2:decide ((args.length:Int)≠2)=true:=an (by omega)
   have d3:decide (args.length=2)=false:=ak hl
   refine VP.has h ?_
   simp only [aP,SS,DD,Nat.reduceAdd,EX.one,ae,EX.q0,EX.q6,a1,a2,r5 hG,EX.a8,Rz,RA,d2,d3,Bool.false_and]
   refine ⟨by simp [ar,apart], ?_⟩
   exact ag▸ab rfl (af.bool _)
 have d2:decide ((args.length:Int)≠2)=false:=ak (by omega)
 have d3:decide (args.length=2)=true:=an hl
 rw [d3]
 cases b2:nm.isEmpty<;>cases b4:fQ n1 w1 n2 w2 <;>
 . rw [b4] at qy
   refine VP.has h ?_
   simp only [aP,SS,DD,Nat.reduceAdd,Nat.reduceEqDiff,EX.one,ae,EX.q0,EX.q1,EX.q6,a1,a2,a3,a4,r5 hG,EX.a8,Rz,RA,d2,decide_false,Bool.true_and,Bool.false_and,Bool.and_true,Bool.and_false]
   refine ⟨by simp [ar,apart], ?_⟩
   try simp only [SS,DD,Nat.reduceAdd,reduceIte,Nat.reduceEqDiff,EX.one,ae,EX.q0,EX.q1,EX.q5,EX.q6,EX.l6,a1,a2,a3,a4,r5 hG,EX.a8,Rz,RA,d2,decide_true,decide_false,Bool.true_and,Bool.false_and]
   first
   | refine aj hd (by simp [eE]) ?_
   | refine aj qy (by simp [eE]) ?_
   simp only [SS,Nat.reduceAdd,ae,EX.q5,EX.q6,gO,b2]
   first
   | exact ag▸ab rfl (af.bool _)
   | (refine aj hn (by simp [af.str]) ?_
      simp only [SS,DD,Nat.reduceAdd,reduceIte,Nat.reduceEqDiff]
      exact ag▸ab rfl (af.bool _))
   | (refine aj hc (by intro x hx;simp at hx;rcases hx with rfl | rfl;exact EX.eM _;exact kq _) ?_
      simp only [SS,Nat.reduceAdd,Bool.not_not]
      exact ag▸ab rfl (af.bool _))
theorem RJ {f fd fn jB fc f1:FuncId} {g0:Nat} (h:Has P f (aP fd fn jB fc f1 g0)) (hG:G g0=some b7)
   (n1:Bool) (w1:List Nat) (n2:Bool) (w2:List Nat) (nm:List UInt8) (args:List EX)
   (hd:∃ s,VP P G fd [RR n1 w1 n2 w2] (.tup [.str s, .bool (oy n1 w1 n2 w2)])) (hn:VP P G fn [.str nm] (.bool (bg nm))) (qy:VP P G jB [RR n1 w1 n2 w2] (.bool (fQ n1 w1 n2 w2)))
   (hc:VP P G fc [.sl 7 (EX.kY args), .fn (.func f1) [] []] (.bool (!EX.gm args))) :
   VP P G f [(EX.mk 7 n1 w1 n2 w2 nm args).av] (.bool (decide (args.length=2)&&(fQ n1 w1 n2 w2&&nm.isEmpty&&EX.gm args))):=by
 have a1:decide ((7:Int)<1)=false:=rfl
 have a2:decide ((7:Int)<7)=false:=rfl
 have a3:decide ((7:Int)=1)=decide (7=1):=rfl
 have a4:decide ((7:Int)=2)=decide (7=2):=rfl
 obtain ⟨s,hd⟩:=hd
 by_cases hl:args.length=2
 case neg =>
   have d2:decide ((args.length:Int)≠2)=true:=an (by omega)
   have d3:decide (args.length=2)=false:=ak hl
   refine VP.has h ?_
   simp only [aP,SS,DD,Nat.reduceAdd,EX.one,ae,EX.q0,EX.q6,a1,a2,r5 hG,EX.a8,RB,RC,d2,d3,Bool.false_and]
   refine ⟨by simp [ar,apart], ?_⟩
   exact ag▸ab rfl (af.bool _)
 have d2:decide ((args.length:Int)≠2)=false:=ak (by omega)
 have d3:decide (args.length=2)=true:=an hl
 rw [d3]
 cases b2:nm.isEmpty<;>cases b4:fQ n1 w1 n2 w2 <;>
 . rw [b4] at qy
   refine VP.has h ?_
   simp only [aP,SS,DD,Nat.reduceAdd,Nat.reduceEqDiff,EX.one,ae,EX.q0,EX.q1,EX.q6,a1,a2,a3,a4,r5 hG,EX.a8,RB,RC,d2,decide_false,Bool.true_and,Bool.false_and,Bool.and_true,Bool.and_false]
   refine ⟨by simp [ar,apart], ?_⟩
   try simp only [SS,DD,Nat.reduceAdd,reduceIte,Nat.reduceEqDiff,EX.one,ae,EX.q0,EX.q1,EX.q5,EX.q6,EX.l6,a1,a2,a3,a4,r5 hG,EX.a8,RB,RC,d2,decide_true,decide_false,Bool.true_and,Bool.false_and]
   first
   | refine aj hd (by simp [eE]) ?_
   | refine aj qy (by simp [eE]) ?_
   simp only [SS,Nat.reduceAdd,ae,EX.q5,EX.q6,gO,b2]
   first
   | exact ag▸ab rfl (af.bool _)
   | (refine aj hn (by simp [af.str]) ?_
      simp only [SS,DD,Nat.reduceAdd,reduceIte,Nat.reduceEqDiff]
      exact ag▸ab rfl (af.bool _))
   | (refine aj hc (by intro x hx;simp at hx;rcases hx with rfl | rfl;exact EX.eM _;exact kq _) ?_
      simp only [SS,Nat.reduceAdd,Bool.not_not]
      exact ag▸ab rfl (af.bool _))
end
end Go.VL
end

section
set_option linter.unusedVariables false
namespace Go.VL
theorem Ux (args:List EX):(EX.kY args).any Ro = !EX.gm args:=by
 rw [EX.cJ,EX.we]
 induction args with
 | nil=>rfl
 | cons a l ih=>simp only [List.map_cons,List.any_cons,List.all_cons,IK,ih,Bool.not_and]
theorem EX.Dt:∀ l:List EX,l.length<=EX.cX l
 | []=>Nat.le_refl _
 | e::l=>by rw [EX.cX,List.length_cons];have:=EX.N6 e;have:=EX.Dt l;omega
theorem EX.sP {x:EX}:∀ {l:List EX},x∈l->x.nodes<=EX.cX l
 | e::l,h=>by
   rw [EX.cX]
   rcases List.mem_cons.1 h with rfl | h
   . omega
   . have:=EX.sP h;omega
theorem EX.IL:∀ e:EX,e.depth<=e.nodes:=EX.induct fun op n1 w1 n2 w2 nm args ih=>by
 rw [EX.depth,EX.nodes]
 suffices h:EX.fL args<=EX.cX args by omega
 induction args with
 | nil=>exact Nat.le_refl _
 | cons a l ihl =>
   rw [EX.fL,EX.cX]
   have h1:=ih a (by simp)
   have h2:=ihl fun x hx=>ih x (by simp [hx])
   omega
theorem EX.wg (x:EX):∀ l,EX.fL (l++[x])=max (EX.fL l) x.depth
 | []=>by simp [EX.fL]
 | a::l=>by rw [List.cons_append,EX.fL,EX.fL,EX.wg x l];omega
theorem EX.AB (l:List EX) (k:Nat):EX.fL (l.take k)<=EX.cX l:=by
 induction l generalizing k with
 | nil=>simp [EX.fL]
 | cons a l ih =>
   cases k with
   | zero=>simp [EX.fL]
   | succ k =>
     rw [List.take_succ_cons,EX.fL,EX.cX]
     have:=ih k
     have:=EX.IL a
     omega
theorem EX.qX {op n1 w1 n2 w2 nm args} (h:(EX.mk op n1 w1 n2 w2 nm args).Ok):∀ x∈args,x.Ok:=by
 rw [EX.Ok] at h
 exact EX.Gi.1 h.2.2.2.2.2.2.2.2
theorem EX.ur {op n1 w1 n2 w2 nm args} (h:(EX.mk op n1 w1 n2 w2 nm args).nu=true):(∀ x∈args,x.nu=true)/\w1.length<=8/\w2.length<=8/\nm.length<=60:=by
 rw [EX.nu,EX.x4] at h
 simp only [Bool.and_eq_true,List.all_eq_true,decide_eq_true_eq] at h
 exact ⟨h.1.1.1,h.1.1.2,h.1.2,h.2⟩
theorem N9:((AV.agg [.int .i64 0, .bool false, .nils, .bool false, .nils, .str [], .nils]).cells.all AV.one=true)=True:=by simp [AV.cells,AV.one]
theorem EX.s9 (e:EX):(AV.agg [.int .i64 0, .bool false, .nils, .bool false, .nils, .str [], .nils]).s9 0 e.av.cells=e.av:=by cases e;rw [EX.av];rfl
theorem MF {σ : aa} {id:Id} {k:Nat} {e:EX} (h : σ id=some ⟨[.agg [.int .i64 0, .bool false, .nils, .bool false, .nils, .str [], .nils]],k,false⟩):eO σ 7 (.ref id 0 0) e.av=some { val := .tup [],rd:=[id],up:=[(id,some ⟨[e.av],k,false⟩)] }:=by
 rw [cE (n:=7) (v:=e.av) h rfl (by rw [show e.av.cells.length=7 from EX.size e]) (by simp [AV.size,AV.cells]) (of_eq_true (EX.one e))]
 simp [EX.s9]
section
variable {P:Program} {G:Nat->Option (List AV)}
theorem Oa {f fd fn jB fc f1 fi:FuncId} {g0:Nat} (h:Has P f (aP fd fn jB fc f1 g0)) (hG:G g0=some b7) (h1:Has P f1 (jQ f))
   (hcf:Has P fc (bA fi)) (Qr:Has P fi bK)
   (hd:∀ n1 w1 n2 w2,Wd w1->Wd w2->w1.length<=8->w2.length<=8->∃ s,VP P G fd [RR n1 w1 n2 w2] (.tup [.str s, .bool (oy n1 w1 n2 w2)])) (hn:∀ s,VP P G fn [.str s] (.bool (bg s)))
   (qy:∀ n1 w1 n2 w2,VP P G jB [RR n1 w1 n2 w2] (.bool (fQ n1 w1 n2 w2))):∀ e:EX,e.Ok->e.nu=true->e.nodes<=1000->VP P G f [e.av] (.bool e.formed):=EX.induct fun op n1 w1 n2 w2 nm args ih ml YL Ac=>by
 have yl:EX.cX args<=999:=by rw [EX.nodes] at Ac;omega
 have aea:args.length<=999:=Nat.le_trans (EX.Dt args) yl
 obtain ⟨V8,mR,uC,aeb⟩:=EX.ur YL
 have RL:=EX.qX ml
 rw [EX.Ok] at ml
 obtain ⟨ho1,ho2,uF,wG,_,_,_,GF,_⟩:=ml
 have mH:VP P G fc [.sl 7 (EX.kY args), .fn (.func f1) [] []] (.bool (!EX.gm args)):=by
   rw [<- Ux]
   refine fy hcf (gd Qr ?_ ?_ ?_ (by simp) (by simp) (by rw [EX.a8];omega)) (EX.eM _) (kq _)
   all_goals
     intro v hv
     rw [EX.cJ] at hv
     obtain ⟨x,hx,rfl⟩:=List.mem_map.1 hv
   . exact EX.all x
   . rw [IK];exact KC h1 x (ih x hx (RL x hx) (V8 x hx) (by have:=EX.sP hx;omega))
   . exact EX.pure x
 have XY:=hd n1 w1 n2 w2 uF wG mR uC
 rw [EX.formed]
 by_cases o1:op<1
 . rw [ak (by omega : ¬ 1<=op),Bool.false_and,Bool.false_and,Bool.false_and]
   exact N7 h _ _ _ _ _ _ _ o1
 by_cases o7:7<op
 . rw [ak (by omega : ¬ op<=7),Bool.and_false,Bool.false_and,Bool.false_and]
   exact N8 h _ _ _ _ _ _ _ o7
 have KD:op=1∨op=2∨op=3∨op=4∨op=5∨op=6∨op=7:=by omega
 rcases KD with e | e | e | e | e | e | e<;>subst e
 . exact RD h hG n1 w1 n2 w2 nm args XY (hn _) (qy _ _ _ _) mH
 . exact RE h hG n1 w1 n2 w2 nm args XY (hn _) (qy _ _ _ _) mH
 . exact RF h hG n1 w1 n2 w2 nm args XY (hn _) (qy _ _ _ _) mH
 . exact RG h hG n1 w1 n2 w2 nm args XY (hn _) (qy _ _ _ _) mH
 . exact RH h hG n1 w1 n2 w2 nm args XY (hn _) (qy _ _ _ _) mH
 . exact RI h hG n1 w1 n2 w2 nm args XY (hn _) (qy _ _ _ _) mH
 . exact RJ h hG n1 w1 n2 w2 nm args XY (hn _) (qy _ _ _ _) mH
theorem Ob {f:FuncId} (h:Has P f (oR f)):∀ e:EX,e.nodes<=1000->VP P G f [e.av] (.int .i64 (e.depth:Int)):=EX.induct fun op n1 w1 n2 w2 nm args ih Ac=>by
 have yl:EX.cX args<=999:=by rw [EX.nodes] at Ac;omega
 have GF:args.length<=999:=Nat.le_trans (EX.Dt args) yl
 rw [EX.depth]
 refine VP.has h ?_
 simp only [oR,SS,Nat.reduceAdd,EX.one,ae,EX.q6,EX.a8,aE]
 refine VW.bR (α := Nat × Nat) (fun x=>⟨[(EX.mk op n1 w1 n2 w2 nm args).av, .top, .top, .int .i64 ((EX.fL (args.take x.1):Nat):Int), .top, .top, .top, .sl 7 (EX.kY args), .int .i64 (args.length:Int), .int .i64 (x.1:Int)]++List.replicate 10 .top,fun _=>none,x.2⟩)
   (fun x=>x.1<=args.length) (fun x=>args.length-x.1) (0,1000) ?_ (Nat.zero_le _) ?_
 . exact Wk.forget (by simp [Fg,List.replicate,EX.fL]) (fun j => .inl rfl) (by simp only [];omega)
 rintro ⟨i,nn⟩ hi
 simp only [] at hi
 by_cases aN:i<args.length
 . obtain ⟨x,hx⟩:∃ x,args[i]? = some x:=⟨_,List.getElem?_eq_getElem aN⟩
   have hm:=List.mem_of_getElem? hx
   have NH:=EX.sP hm
   have hg:(EX.kY args)[i]? = some x.av:=by rw [EX.cJ,List.getElem?_map,hx];rfl
   have d1:decide ((i:Int)<(args.length:Int))=true:=an (by omega)
   have hdx:=EX.IL x
   have Us:=EX.AB args i
   simp only [SS,Nat.reduceAdd,d1,aS rfl hg,az,EX.all,N9]
   rw [MF (k:=(AV.agg [.int .i64 0, .bool false, .nils, .bool false, .nils, .str [], .nils]).size) (by simp [aa.put])]
   simp only [SS,Nat.reduceAdd,ae,EX.all]
   refine aj (ih x hm (by omega)) (by simp [EX.pure]) ?_
   simp only [SS,Nat.reduceAdd,aq i (by omega)]
   have em:(if (x.depth:Int)>((EX.fL (args.take i):Nat):Int) then (x.depth:Int) else ((EX.fL (args.take i):Nat):Int))=((EX.fL (args.take (i+1)):Nat):Int):=by
     rw [List.take_add_one,hx,Option.toList_some,EX.wg]
     split<;>omega
   simp only [em]
   exact ⟨(i+1,_),by simp only [];omega,by simp only [];omega,Wk.forget (by simp [Fg]) (fun _ => .inl rfl) (Nat.le_refl _)⟩
 . have d1:decide ((i:Int)<(args.length:Int))=false:=ak (by omega)
   have jf:i=args.length:=by omega
   have Us:=EX.AB args args.length
   rw [List.take_length] at Us
   have hw:IntKind.i64.wrap (((EX.fL args:Nat):Int)+1)=((EX.fL args+1:Nat):Int):=by rw [IntKind.wrap_i64];omega
   subst jf
   rw [List.take_length]
   simp only [SS,Nat.reduceAdd,d1,hw]
   exact ag▸ab rfl (af.int _ _)
theorem Oc {f ff fd:FuncId} (h:Has P f (ko ff fd)) (e:EX) (hf:VP P G ff [e.av] (.bool e.formed)) (hd:VP P G fd [e.av] (.int .i64 (e.depth:Int))) :
   VP P G f [e.av] (.int .i64 (if e.formed=true then (if 40<e.depth then 3 else 0) else 1)):=by
 cases GU:e.formed
 . rw [GU] at hf
   refine VP.has h ?_
   simp only [ko,SS,Nat.reduceAdd,EX.one,ae,EX.all]
   refine aj hf (by simp [EX.pure]) ?_
   simp only [SS,Nat.reduceAdd]
   exact ag▸ab rfl (af.int _ _)
 . rw [GU] at hf
   by_cases hdp:40<e.depth
   . have d1:decide ((40:Int)<(e.depth:Int))=true:=an (by omega)
     rw [if_pos rfl,if_pos hdp]
     refine VP.has h ?_
     simp only [ko,SS,Nat.reduceAdd,EX.one,ae,EX.all]
     refine aj hf (by simp [EX.pure]) ?_
     simp only [SS,Nat.reduceAdd,ae,EX.all]
     refine aj hd (by simp [EX.pure]) ?_
     simp only [SS,Nat.reduceAdd,d1]
     exact ag▸ab rfl (af.int _ _)
   . have d1:decide ((40:Int)<(e.depth:Int))=false:=ak (by omega)
     rw [if_pos rfl,if_neg hdp]
     refine VP.has h ?_
     simp only [ko,SS,Nat.reduceAdd,EX.one,ae,EX.all]
     refine aj hf (by simp [EX.pure]) ?_
     simp only [SS,Nat.reduceAdd,ae,EX.all]
     refine aj hd (by simp [EX.pure]) ?_
     simp only [SS,Nat.reduceAdd,d1]
     exact ag▸ab rfl (af.int _ _)
end
end Go.VL
end

section
set_option linter.unusedVariables false
set_option linter.unusedVariables false
namespace Go.VL
theorem VP.aec {P:Program} {G:Nat->Option (List AV)} {f:FuncId} {vf:ay} (h:Has P f vf) {args:List AV} {r:AV} (k:VW P G [] vf.body (He vf.results r) ⟨args++List.replicate (vf.nt-args.length) (.tup []),fun _=>none,0⟩):VP P G f args r:=by
 obtain ⟨fn,h1,h2⟩:=h
 exact VP.Vl h1 h2 k
theorem VW.Uy {P:Program} {G:Nat->Option (List AV)} {π : Id} {Q:cH->VS->Prop} {x y rest:b8} {s:VS} (st:VS)
   (h1:∀ (K:VS->Prop),(∀ s',Wk G π s' st->K s')->sd P G π x (BD (sd P G π y (BD K Q)) Q) s) (h2:sd P G π rest Q st):VW P G π (.seq x (.seq y rest)) Q s:=by
 refine VW.Is ((VW.of (h1 (fun s'=>VW P G π rest Q s') (fun s' hw=>VW.cut hw h2))).mono ?_)
 intro e s' hq
 cases e with
 | normal=>exact VW.Is (VW.of hq)
 | exit _=>exact hq
 | ret=>exact hq
section
variable (op:Int) (n1:Bool) (w1:List Nat) (n2:Bool) (w2:List Nat) (nm:List UInt8) (args:List EX)
theorem EX.r1:part false (EX.mk op n1 w1 n2 w2 nm args).av.cells 1 1=some (.bool n1):=by rw [EX.av];rfl
theorem EX.r2:part false (EX.mk op n1 w1 n2 w2 nm args).av.cells 2 1=some (.sl 1 (us w1)):=by rw [EX.av];rfl
theorem EX.r3:part false (EX.mk op n1 w1 n2 w2 nm args).av.cells 3 1=some (.bool n2):=by rw [EX.av];rfl
theorem EX.r4:part false (EX.mk op n1 w1 n2 w2 nm args).av.cells 4 1=some (.sl 1 (us w2)):=by rw [EX.av];rfl
end
def gP (op:Int) (n1:Bool) (w1:List Nat) (n2:Bool) (w2:List Nat) (nm:List UInt8) (al:Nat):Bool :=
 if op=1 then oy n1 w1 n2 w2&&(nm.isEmpty||bg nm)&&decide (al=0)
 else if op=2 then fQ n1 w1 n2 w2&&bg nm&&decide (al=0)
 else if op=3 then fQ n1 w1 n2 w2&&nm.isEmpty&&decide (al=1)
 else if 4<=op/\op<=7 then fQ n1 w1 n2 w2&&nm.isEmpty&&decide (al=2)
 else false
section
variable {P:Program} {G:Nat->Option (List AV)}
def b8.zl:b8->b8
 | .seq _ (.seq _ r)=>r
 | c=>c
def oi (op:Int) (n1:Bool) (w1:List Nat) (n2:Bool) (w2:List Nat) (nm:List UInt8) (args:List EX) (b:Bool):VS :=
 ⟨[(EX.mk op n1 w1 n2 w2 nm args).av, .ref [0] 0 0, .bool false, .bool b]++List.replicate 102 .top,aa.put (fun _=>none) [0] (some ⟨[(EX.mk op n1 w1 n2 w2 nm args).av],7,false⟩),200⟩
theorem mM {f fd fn:FuncId} (h:Has P f (aI fd fn)) (op:Int) (n1:Bool) (w1:List Nat) (n2:Bool) (w2:List Nat) (nm:List UInt8) (args:List EX) {r:AV}
   (hr:sd P G [] (aI fd fn).body.zl (He [.tmp 2] r) (oi op n1 w1 n2 w2 nm args (fQ n1 w1 n2 w2))):VP P G f [(EX.mk op n1 w1 n2 w2 nm args).av] r:=by
 have hlen:∀ ws,jN false (.sl 1 (us ws))=some (.int .i64 ws.length):=fun ws=>by simp [jN,dG]
 have d1:decide ((w1.length:Int)=0)=w1.isEmpty:=by cases w1<;>simp<;>omega
 have d2:decide ((w2.length:Int)=0)=w2.isEmpty:=by cases w2<;>simp<;>omega
 refine VP.aec h ?_
 unfold aI
 refine VW.Uy (oi op n1 w1 n2 w2 nm args (fQ n1 w1 n2 w2)) ?_ hr
 . intro K hK
   unfold fQ at hK
   cases b1:w1.isEmpty<;>cases b2:w2.isEmpty<;>cases n1<;>cases n2 <;>
   . rw [b1] at d1;rw [b2] at d2
     rw [b1,b2] at hK
     simp only [SS,Nat.reduceAdd,EX.one,ae,EX.r1,EX.r2,EX.r3,EX.r4,hlen,d1,d2]
     exact hK _ (Wk.bc (by simp [Fg,List.replicate]) (by decide))
set_option maxHeartbeats 2000000 in
theorem Uz {f fd fn:FuncId} (h:Has P f (aI fd fn)) (op:Int) (n1:Bool) (w1:List Nat) (n2:Bool) (w2:List Nat) (nm:List UInt8) (args:List EX)
   (hd:∃ s,VP P G fd [RR n1 w1 n2 w2] (.tup [.str s, .bool (oy n1 w1 n2 w2)])) (hn:VP P G fn [.str nm] (.bool (bg nm))) (e:op=1) :
   VP P G f [(EX.mk op n1 w1 n2 w2 nm args).av] (.bool (gP 1 n1 w1 n2 w2 nm args.length)):=by
 obtain ⟨s,hd⟩:=hd
 have c1:decide (op=1)=decide (1=1):=by rw [e];rfl
 have c2:decide (op=2)=decide (1=2):=by rw [e];rfl
 have c3:decide (op=3)=decide (1=3):=by rw [e];rfl
 have c4:decide (op=4)=decide (1=4):=by rw [e];rfl
 have c5:decide (op=5)=decide (1=5):=by rw [e];rfl
 have c6:decide (op=6)=decide (1=6):=by rw [e];rfl
 have c7:decide (op=7)=decide (1=7):=by rw [e];rfl
 have l0:decide ((args.length:Int)=0)=decide (args.length=0):=by by_cases q:args.length=0<;>simp [q]<;>omega
 have l1:decide ((args.length:Int)=1)=decide (args.length=1):=by by_cases q:args.length=1<;>simp [q]<;>omega
 have l2:decide ((args.length:Int)=2)=decide (args.length=2):=by by_cases q:args.length=2<;>simp [q]<;>omega
 refine mM h op n1 w1 n2 w2 nm args ?_
 unfold gP oi
 generalize decide (args.length=0)=L0 at l0 ⊢
 generalize decide (args.length=1)=L1 at l1 ⊢
 generalize decide (args.length=2)=L2 at l2 ⊢
 cases b1:oy n1 w1 n2 w2<;>cases b2:nm.isEmpty<;>cases b3:bg nm <;>
 . rw [b1] at hd
   rw [b3] at hn
   simp only [aI,b8.zl,SS,Nat.reduceAdd,ae,EX.q0,EX.q1,c1,decide_true,Bool.true_and,Bool.false_and,Bool.or_true,Bool.or_false]
   first
   | exact ag▸ab rfl (af.bool _)
   | (refine aj hn (by simp [af.str]) ?_
      simp only [SS,Nat.reduceAdd,reduceIte,Nat.reduceEqDiff,ae,EX.q6,EX.a8,l0]
      exact ag▸ab rfl (af.bool _))
   | (refine aj hd (by simp [eE]) ?_
      simp only [SS,Nat.reduceAdd,uo,uq,ae,EX.q5,EX.q6,EX.a8,l0,gO,b2]
      first
      | exact ag▸ab rfl (af.bool _)
      | (refine aj hn (by simp [af.str]) ?_
         simp only [SS,Nat.reduceAdd,ae,EX.q6,EX.a8,l0]
         exact ag▸ab rfl (af.bool _)))
set_option maxHeartbeats 2000000 in
theorem UA {f fd fn:FuncId} (h:Has P f (aI fd fn)) (op:Int) (n1:Bool) (w1:List Nat) (n2:Bool) (w2:List Nat) (nm:List UInt8) (args:List EX)
   (hd:∃ s,VP P G fd [RR n1 w1 n2 w2] (.tup [.str s, .bool (oy n1 w1 n2 w2)])) (hn:VP P G fn [.str nm] (.bool (bg nm))) (e:op=2) :
   VP P G f [(EX.mk op n1 w1 n2 w2 nm args).av] (.bool (gP 2 n1 w1 n2 w2 nm args.length)):=by
 obtain ⟨s,hd⟩:=hd
 have c1:decide (op=1)=decide (2=1):=by rw [e];rfl
 have c2:decide (op=2)=decide (2=2):=by rw [e];rfl
 have c3:decide (op=3)=decide (2=3):=by rw [e];rfl
 have c4:decide (op=4)=decide (2=4):=by rw [e];rfl
 have c5:decide (op=5)=decide (2=5):=by rw [e];rfl
 have c6:decide (op=6)=decide (2=6):=by rw [e];rfl
 have c7:decide (op=7)=decide (2=7):=by rw [e];rfl
 have l0:decide ((args.length:Int)=0)=decide (args.length=0):=by by_cases q:args.length=0<;>simp [q]<;>omega
 have l1:decide ((args.length:Int)=1)=decide (args.length=1):=by by_cases q:args.length=1<;>simp [q]<;>omega
 have l2:decide ((args.length:Int)=2)=decide (args.length=2):=by by_cases q:args.length=2<;>simp [q]<;>omega
 refine mM h op n1 w1 n2 w2 nm args ?_
 unfold gP oi
 generalize decide (args.length=0)=L0 at l0 ⊢
 generalize decide (args.length=1)=L1 at l1 ⊢
 generalize decide (args.length=2)=L2 at l2 ⊢
 cases b3:bg nm<;>cases b4:fQ n1 w1 n2 w2 <;>
 . rw [b3] at hn
   simp only [aI,b8.zl,SS,Nat.reduceAdd,Nat.reduceEqDiff,ae,EX.q0,EX.q5,c1,c2,decide_true,decide_false,Bool.true_and,Bool.false_and,Bool.or_true,Bool.or_false]
   first
   | exact ag▸ab rfl (af.bool _)
   | (refine aj hn (by simp [af.str]) ?_
      simp only [SS,Nat.reduceAdd,ae,EX.q6,EX.a8,l0]
      exact ag▸ab rfl (af.bool _))
   | (refine aj hd (by simp [eE]) ?_
      simp only [SS,Nat.reduceAdd,reduceIte,Nat.reduceEqDiff,uo,uq,ae,EX.q0,EX.q1,EX.q5,EX.q6,EX.l6,EX.a8,c1,c2,c3,c4,c5,c6,c7,l0,l1,l2,gO,decide_true,decide_false,Bool.true_and,Bool.false_and,Bool.or_true,Bool.or_false,Bool.true_or,Bool.false_or]
      first
      | exact ag▸ab rfl (af.bool _)
      | (refine aj hn (by simp [af.str]) ?_
         simp only [SS,Nat.reduceAdd,reduceIte,Nat.reduceEqDiff,ae,EX.q6,EX.a8,l0]
         exact ag▸ab rfl (af.bool _)))
set_option maxHeartbeats 2000000 in
theorem UB {f fd fn:FuncId} (h:Has P f (aI fd fn)) (op:Int) (n1:Bool) (w1:List Nat) (n2:Bool) (w2:List Nat) (nm:List UInt8) (args:List EX)
   (hd:∃ s,VP P G fd [RR n1 w1 n2 w2] (.tup [.str s, .bool (oy n1 w1 n2 w2)])) (hn:VP P G fn [.str nm] (.bool (bg nm))) (e:op=3) :
   VP P G f [(EX.mk op n1 w1 n2 w2 nm args).av] (.bool (gP 3 n1 w1 n2 w2 nm args.length)):=by
 obtain ⟨s,hd⟩:=hd
 have c1:decide (op=1)=decide (3=1):=by rw [e];rfl
 have c2:decide (op=2)=decide (3=2):=by rw [e];rfl
 have c3:decide (op=3)=decide (3=3):=by rw [e];rfl
 have c4:decide (op=4)=decide (3=4):=by rw [e];rfl
 have c5:decide (op=5)=decide (3=5):=by rw [e];rfl
 have c6:decide (op=6)=decide (3=6):=by rw [e];rfl
 have c7:decide (op=7)=decide (3=7):=by rw [e];rfl
 have l0:decide ((args.length:Int)=0)=decide (args.length=0):=by by_cases q:args.length=0<;>simp [q]<;>omega
 have l1:decide ((args.length:Int)=1)=decide (args.length=1):=by by_cases q:args.length=1<;>simp [q]<;>omega
 have l2:decide ((args.length:Int)=2)=decide (args.length=2):=by by_cases q:args.length=2<;>simp [q]<;>omega
 refine mM h op n1 w1 n2 w2 nm args ?_
 unfold gP oi
 generalize decide (args.length=0)=L0 at l0 ⊢
 generalize decide (args.length=1)=L1 at l1 ⊢
 generalize decide (args.length=2)=L2 at l2 ⊢
 cases b2:nm.isEmpty<;>cases b4:fQ n1 w1 n2 w2 <;>
 . skip
   simp only [aI,b8.zl,SS,Nat.reduceAdd,Nat.reduceEqDiff,ae,EX.q0,EX.q5,EX.q6,EX.a8,c1,c2,c3,l1,gO,b2,decide_true,decide_false,Bool.true_and,Bool.false_and,Bool.true_or,Bool.false_or]
   first
   | exact ag▸ab rfl (af.bool _)
   | (refine aj hn (by simp [af.str]) ?_
      simp only [SS,Nat.reduceAdd,reduceIte,Nat.reduceEqDiff,ae,EX.q6,EX.a8,l0]
      exact ag▸ab rfl (af.bool _))
   | (refine aj hd (by simp [eE]) ?_
      simp only [SS,Nat.reduceAdd,reduceIte,Nat.reduceEqDiff,uo,uq,ae,EX.q0,EX.q1,EX.q5,EX.q6,EX.l6,EX.a8,c1,c2,c3,c4,c5,c6,c7,l0,l1,l2,gO,b2,decide_true,decide_false,Bool.true_and,Bool.false_and,Bool.or_true,Bool.or_false,Bool.true_or,Bool.false_or]
      first
      | exact ag▸ab rfl (af.bool _)
      | (refine aj hn (by simp [af.str]) ?_
         simp only [SS,Nat.reduceAdd,reduceIte,Nat.reduceEqDiff,ae,EX.q6,EX.a8,l0]
         exact ag▸ab rfl (af.bool _)))
set_option maxHeartbeats 2000000 in
theorem UC {f fd fn:FuncId} (h:Has P f (aI fd fn)) (op:Int) (n1:Bool) (w1:List Nat) (n2:Bool) (w2:List Nat) (nm:List UInt8) (args:List EX)
   (hd:∃ s,VP P G fd [RR n1 w1 n2 w2] (.tup [.str s, .bool (oy n1 w1 n2 w2)])) (hn:VP P G fn [.str nm] (.bool (bg nm))) (e:op=4) :
   VP P G f [(EX.mk op n1 w1 n2 w2 nm args).av] (.bool (gP 4 n1 w1 n2 w2 nm args.length)):=by
 obtain ⟨s,hd⟩:=hd
 have c1:decide (op=1)=decide (4=1):=by rw [e];rfl
 have c2:decide (op=2)=decide (4=2):=by rw [e];rfl
 have c3:decide (op=3)=decide (4=3):=by rw [e];rfl
 have c4:decide (op=4)=decide (4=4):=by rw [e];rfl
 have c5:decide (op=5)=decide (4=5):=by rw [e];rfl
 have c6:decide (op=6)=decide (4=6):=by rw [e];rfl
 have c7:decide (op=7)=decide (4=7):=by rw [e];rfl
 have l0:decide ((args.length:Int)=0)=decide (args.length=0):=by by_cases q:args.length=0<;>simp [q]<;>omega
 have l1:decide ((args.length:Int)=1)=decide (args.length=1):=by by_cases q:args.length=1<;>simp [q]<;>omega
 have l2:decide ((args.length:Int)=2)=decide (args.length=2):=by by_cases q:args.length=2<;>simp [q]<;>omega
 refine mM h op n1 w1 n2 w2 nm args ?_
 unfold gP oi
 generalize decide (args.length=0)=L0 at l0 ⊢
 generalize decide (args.length=1)=L1 at l1 ⊢
 generalize decide (args.length=2)=L2 at l2 ⊢
 cases b2:nm.isEmpty<;>cases b4:fQ n1 w1 n2 w2 <;>
 . skip
   simp only [aI,b8.zl,SS,Nat.reduceAdd,Nat.reduceEqDiff,ae,EX.q0,EX.q5,EX.q6,EX.a8,c1,c2,c3,c4,l2,gO,b2,decide_true,decide_false,Bool.true_and,Bool.false_and,Bool.true_or,Bool.false_or]
   first
   | exact ag▸ab rfl (af.bool _)
   | (refine aj hn (by simp [af.str]) ?_
      simp only [SS,Nat.reduceAdd,reduceIte,Nat.reduceEqDiff,ae,EX.q6,EX.a8,l0]
      exact ag▸ab rfl (af.bool _))
   | (refine aj hd (by simp [eE]) ?_
      simp only [SS,Nat.reduceAdd,reduceIte,Nat.reduceEqDiff,uo,uq,ae,EX.q0,EX.q1,EX.q5,EX.q6,EX.l6,EX.a8,c1,c2,c3,c4,c5,c6,c7,l0,l1,l2,gO,b2,decide_true,decide_false,Bool.true_and,Bool.false_and,Bool.or_true,Bool.or_false,Bool.true_or,Bool.false_or]
      first
      | exact ag▸ab rfl (af.bool _)
      | (refine aj hn (by simp [af.str]) ?_
         simp only [SS,Nat.reduceAdd,reduceIte,Nat.reduceEqDiff,ae,EX.q6,EX.a8,l0]
         exact ag▸ab rfl (af.bool _)))
set_option maxHeartbeats 2000000 in
theorem UD {f fd fn:FuncId} (h:Has P f (aI fd fn)) (op:Int) (n1:Bool) (w1:List Nat) (n2:Bool) (w2:List Nat) (nm:List UInt8) (args:List EX)
   (hd:∃ s,VP P G fd [RR n1 w1 n2 w2] (.tup [.str s, .bool (oy n1 w1 n2 w2)])) (hn:VP P G fn [.str nm] (.bool (bg nm))) (e:op=5) :
   VP P G f [(EX.mk op n1 w1 n2 w2 nm args).av] (.bool (gP 5 n1 w1 n2 w2 nm args.length)):=by
 obtain ⟨s,hd⟩:=hd
 have c1:decide (op=1)=decide (5=1):=by rw [e];rfl
 have c2:decide (op=2)=decide (5=2):=by rw [e];rfl
 have c3:decide (op=3)=decide (5=3):=by rw [e];rfl
 have c4:decide (op=4)=decide (5=4):=by rw [e];rfl
 have c5:decide (op=5)=decide (5=5):=by rw [e];rfl
 have c6:decide (op=6)=decide (5=6):=by rw [e];rfl
 have c7:decide (op=7)=decide (5=7):=by rw [e];rfl
 have l0:decide ((args.length:Int)=0)=decide (args.length=0):=by by_cases q:args.length=0<;>simp [q]<;>omega
 have l1:decide ((args.length:Int)=1)=decide (args.length=1):=by by_cases q:args.length=1<;>simp [q]<;>omega
 have l2:decide ((args.length:Int)=2)=decide (args.length=2):=by by_cases q:args.length=2<;>simp [q]<;>omega
 refine mM h op n1 w1 n2 w2 nm args ?_
 unfold gP oi
 generalize decide (args.length=0)=L0 at l0 ⊢
 generalize decide (args.length=1)=L1 at l1 ⊢
 generalize decide (args.length=2)=L2 at l2 ⊢
 cases b2:nm.isEmpty<;>cases b4:fQ n1 w1 n2 w2 <;>
 . skip
   simp only [aI,b8.zl,SS,Nat.reduceAdd,Nat.reduceEqDiff,ae,EX.q0,EX.q5,EX.q6,EX.a8,c1,c2,c3,c4,c5,l2,gO,b2,decide_true,decide_false,Bool.true_and,Bool.false_and,Bool.true_or,Bool.false_or]
   first
   | exact ag▸ab rfl (af.bool _)
   | (refine aj hn (by simp [af.str]) ?_
      simp only [SS,Nat.reduceAdd,reduceIte,Nat.reduceEqDiff,ae,EX.q6,EX.a8,l0]
      exact ag▸ab rfl (af.bool _))
   | (refine aj hd (by simp [eE]) ?_
      simp only [SS,Nat.reduceAdd,reduceIte,Nat.reduceEqDiff,uo,uq,ae,EX.q0,EX.q1,EX.q5,EX.q6,EX.l6,EX.a8,c1,c2,c3,c4,c5,c6,c7,l0,l1,l2,gO,b2,decide_true,decide_false,Bool.true_and,Bool.false_and,Bool.or_true,Bool.or_false,Bool.true_or,Bool.false_or]
      first
      | exact ag▸ab rfl (af.bool _)
      | (refine aj hn (by simp [af.str]) ?_
         simp only [SS,Nat.reduceAdd,reduceIte,Nat.reduceEqDiff,ae,EX.q6,EX.a8,l0]
         exact ag▸ab rfl (af.bool _)))
set_option maxHeartbeats 2000000 in
theorem UE {f fd fn:FuncId} (h:Has P f (aI fd fn)) (op:Int) (n1:Bool) (w1:List Nat) (n2:Bool) (w2:List Nat) (nm:List UInt8) (args:List EX)
   (hd:∃ s,VP P G fd [RR n1 w1 n2 w2] (.tup [.str s, .bool (oy n1 w1 n2 w2)])) (hn:VP P G fn [.str nm] (.bool (bg nm))) (e:op=6) :
   VP P G f [(EX.mk op n1 w1 n2 w2 nm args).av] (.bool (gP 6 n1 w1 n2 w2 nm args.length)):=by
 obtain ⟨s,hd⟩:=hd
 have c1:decide (op=1)=decide (6=1):=by rw [e];rfl
 have c2:decide (op=2)=decide (6=2):=by rw [e];rfl
 have c3:decide (op=3)=decide (6=3):=by rw [e];rfl
 have c4:decide (op=4)=decide (6=4):=by rw [e];rfl
 have c5:decide (op=5)=decide (6=5):=by rw [e];rfl
 have c6:decide (op=6)=decide (6=6):=by rw [e];rfl
 have c7:decide (op=7)=decide (6=7):=by rw [e];rfl
 have l0:decide ((args.length:Int)=0)=decide (args.length=0):=by by_cases q:args.length=0<;>simp [q]<;>omega
 have l1:decide ((args.length:Int)=1)=decide (args.length=1):=by by_cases q:args.length=1<;>simp [q]<;>omega
 have l2:decide ((args.length:Int)=2)=decide (args.length=2):=by by_cases q:args.length=2<;>simp [q]<;>omega
 refine mM h op n1 w1 n2 w2 nm args ?_
 unfold gP oi
 generalize decide (args.length=0)=L0 at l0 ⊢
 generalize decide (args.length=1)=L1 at l1 ⊢
 generalize decide (args.length=2)=L2 at l2 ⊢
 cases b2:nm.isEmpty<;>cases b4:fQ n1 w1 n2 w2 <;>
 . skip
   simp only [aI,b8.zl,SS,Nat.reduceAdd,Nat.reduceEqDiff,ae,EX.q0,EX.q5,EX.q6,EX.a8,c1,c2,c3,c4,c5,c6,l2,gO,b2,decide_true,decide_false,Bool.true_and,Bool.false_and,Bool.true_or,Bool.false_or]
   first
   | exact ag▸ab rfl (af.bool _)
   | (refine aj hn (by simp [af.str]) ?_
      simp only [SS,Nat.reduceAdd,reduceIte,Nat.reduceEqDiff,ae,EX.q6,EX.a8,l0]
      exact ag▸ab rfl (af.bool _))
   | (refine aj hd (by simp [eE]) ?_
      simp only [SS,Nat.reduceAdd,reduceIte,Nat.reduceEqDiff,uo,uq,ae,EX.q0,EX.q1,EX.q5,EX.q6,EX.l6,EX.a8,c1,c2,c3,c4,c5,c6,c7,l0,l1,l2,gO,b2,decide_true,decide_false,Bool.true_and,Bool.false_and,Bool.or_true,Bool.or_false,Bool.true_or,Bool.false_or]
      first
      | exact ag▸ab rfl (af.bool _)
      | (refine aj hn (by simp [af.str]) ?_
         simp only [SS,Nat.reduceAdd,reduceIte,Nat.reduceEqDiff,ae,EX.q6,EX.a8,l0]
         exact ag▸ab rfl (af.bool _)))
set_option maxHeartbeats 2000000 in
theorem UF {f fd fn:FuncId} (h:Has P f (aI fd fn)) (op:Int) (n1:Bool) (w1:List Nat) (n2:Bool) (w2:List Nat) (nm:List UInt8) (args:List EX)
   (hd:∃ s,VP P G fd [RR n1 w1 n2 w2] (.tup [.str s, .bool (oy n1 w1 n2 w2)])) (hn:VP P G fn [.str nm] (.bool (bg nm))) (e:op=7) :
   VP P G f [(EX.mk op n1 w1 n2 w2 nm args).av] (.bool (gP 7 n1 w1 n2 w2 nm args.length)):=by
 obtain ⟨s,hd⟩:=hd
 have c1:decide (op=1)=decide (7=1):=by rw [e];rfl
 have c2:decide (op=2)=decide (7=2):=by rw [e];rfl
 have c3:decide (op=3)=decide (7=3):=by rw [e];rfl
 have c4:decide (op=4)=decide (7=4):=by rw [e];rfl
 have c5:decide (op=5)=decide (7=5):=by rw [e];rfl
 have c6:decide (op=6)=decide (7=6):=by rw [e];rfl
 have c7:decide (op=7)=decide (7=7):=by rw [e];rfl
 have l0:decide ((args.length:Int)=0)=decide (args.length=0):=by by_cases q:args.length=0<;>simp [q]<;>omega
 have l1:decide ((args.length:Int)=1)=decide (args.length=1):=by by_cases q:args.length=1<;>simp [q]<;>omega
 have l2:decide ((args.length:Int)=2)=decide (args.length=2):=by by_cases q:args.length=2<;>simp [q]<;>omega
 refine mM h op n1 w1 n2 w2 nm args ?_
 unfold gP oi
 generalize decide (args.length=0)=L0 at l0 ⊢
 generalize decide (args.length=1)=L1 at l1 ⊢
 generalize decide (args.length=2)=L2 at l2 ⊢
 cases b2:nm.isEmpty<;>cases b4:fQ n1 w1 n2 w2 <;>
 . skip
   simp only [aI,b8.zl,SS,Nat.reduceAdd,Nat.reduceEqDiff,ae,EX.q0,EX.q5,EX.q6,EX.a8,c1,c2,c3,c4,c5,c6,c7,l2,gO,b2,decide_true,decide_false,Bool.true_and,Bool.false_and,Bool.true_or,Bool.false_or]
   first
   | exact ag▸ab rfl (af.bool _)
   | (refine aj hn (by simp [af.str]) ?_
      simp only [SS,Nat.reduceAdd,reduceIte,Nat.reduceEqDiff,ae,EX.q6,EX.a8,l0]
      exact ag▸ab rfl (af.bool _))
   | (refine aj hd (by simp [eE]) ?_
      simp only [SS,Nat.reduceAdd,reduceIte,Nat.reduceEqDiff,uo,uq,ae,EX.q0,EX.q1,EX.q5,EX.q6,EX.l6,EX.a8,c1,c2,c3,c4,c5,c6,c7,l0,l1,l2,gO,b2,decide_true,decide_false,Bool.true_and,Bool.false_and,Bool.or_true,Bool.or_false,Bool.true_or,Bool.false_or]
      first
      | exact ag▸ab rfl (af.bool _)
      | (refine aj hn (by simp [af.str]) ?_
         simp only [SS,Nat.reduceAdd,reduceIte,Nat.reduceEqDiff,ae,EX.q6,EX.a8,l0]
         exact ag▸ab rfl (af.bool _)))
set_option maxHeartbeats 2000000 in
theorem UG {f fd fn:FuncId} (h:Has P f (aI fd fn)) (op:Int) (n1:Bool) (w1:List Nat) (n2:Bool) (w2:List Nat) (nm:List UInt8) (args:List EX)
   (hd:∃ s,VP P G fd [RR n1 w1 n2 w2] (.tup [.str s, .bool (oy n1 w1 n2 w2)])) (hn:VP P G fn [.str nm] (.bool (bg nm))) (e:op<1∨7<op) :
   VP P G f [(EX.mk op n1 w1 n2 w2 nm args).av] (.bool (gP 0 n1 w1 n2 w2 nm args.length)):=by
 obtain ⟨s,hd⟩:=hd
 have c1:decide (op=1)=false:=ak (by omega)
 have c2:decide (op=2)=false:=ak (by omega)
 have c3:decide (op=3)=false:=ak (by omega)
 have c4:decide (op=4)=false:=ak (by omega)
 have c5:decide (op=5)=false:=ak (by omega)
 have c6:decide (op=6)=false:=ak (by omega)
 have c7:decide (op=7)=false:=ak (by omega)
 have l0:decide ((args.length:Int)=0)=decide (args.length=0):=by by_cases q:args.length=0<;>simp [q]<;>omega
 have l1:decide ((args.length:Int)=1)=decide (args.length=1):=by by_cases q:args.length=1<;>simp [q]<;>omega
 have l2:decide ((args.length:Int)=2)=decide (args.length=2):=by by_cases q:args.length=2<;>simp [q]<;>omega
 refine mM h op n1 w1 n2 w2 nm args ?_
 unfold gP oi
 generalize decide (args.length=0)=L0 at l0 ⊢
 generalize decide (args.length=1)=L1 at l1 ⊢
 generalize decide (args.length=2)=L2 at l2 ⊢
 . skip
   simp only [aI,b8.zl,SS,Nat.reduceAdd,ae,EX.q0,c1,c2,c3,c4,c5,c6,c7]
   first
   | exact ag▸ab rfl (af.bool _)
   | (refine aj hn (by simp [af.str]) ?_
      simp only [SS,Nat.reduceAdd,reduceIte,Nat.reduceEqDiff,ae,EX.q6,EX.a8,l0]
      exact ag▸ab rfl (af.bool _))
   | (refine aj hd (by simp [eE]) ?_
      simp only [SS,Nat.reduceAdd,reduceIte,Nat.reduceEqDiff,uo,uq,ae,EX.q0,EX.q1,EX.q5,EX.q6,EX.l6,EX.a8,c1,c2,c3,c4,c5,c6,c7,l0,l1,l2,gO,decide_true,decide_false,Bool.true_and,Bool.false_and,Bool.or_true,Bool.or_false,Bool.true_or,Bool.false_or]
      first
      | exact ag▸ab rfl (af.bool _)
      | (refine aj hn (by simp [af.str]) ?_
         simp only [SS,Nat.reduceAdd,reduceIte,Nat.reduceEqDiff,ae,EX.q6,EX.a8,l0]
         exact ag▸ab rfl (af.bool _)))
theorem RM {f fd fn:FuncId} (h:Has P f (aI fd fn)) (op:Int) (n1:Bool) (w1:List Nat) (n2:Bool) (w2:List Nat) (nm:List UInt8) (args:List EX)
   (hd:∃ s,VP P G fd [RR n1 w1 n2 w2] (.tup [.str s, .bool (oy n1 w1 n2 w2)])) (hn:VP P G fn [.str nm] (.bool (bg nm))) :
   VP P G f [(EX.mk op n1 w1 n2 w2 nm args).av] (.bool (gP op n1 w1 n2 w2 nm args.length)):=by
 by_cases ho:op<1∨7<op
 . have e:gP op n1 w1 n2 w2 nm args.length=gP 0 n1 w1 n2 w2 nm args.length:=by
     unfold gP
     rw [if_neg (by omega),if_neg (by omega),if_neg (by omega),if_neg (by omega)];rfl
   rw [e]
   exact UG h op n1 w1 n2 w2 nm args hd hn ho
 have KD:op=1∨op=2∨op=3∨op=4∨op=5∨op=6∨op=7:=by omega
 rcases KD with e | e | e | e | e | e | e
 . have:=Uz h op n1 w1 n2 w2 nm args hd hn e;rwa [<- e] at this
 . have:=UA h op n1 w1 n2 w2 nm args hd hn e;rwa [<- e] at this
 . have:=UB h op n1 w1 n2 w2 nm args hd hn e;rwa [<- e] at this
 . have:=UC h op n1 w1 n2 w2 nm args hd hn e;rwa [<- e] at this
 . have:=UD h op n1 w1 n2 w2 nm args hd hn e;rwa [<- e] at this
 . have:=UE h op n1 w1 n2 w2 nm args hd hn e;rwa [<- e] at this
 . have:=UF h op n1 w1 n2 w2 nm args hd hn e;rwa [<- e] at this
end
end Go.VL
end
