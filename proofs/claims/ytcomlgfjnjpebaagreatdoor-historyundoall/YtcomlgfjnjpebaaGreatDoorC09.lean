/- For the claim of HistoryUndoAll: parts CF2, HI1, HI2, VL34, SNH, CF3, CH1, CH2, EXB, CF4, CF5, CF6. -/
import Derived.Test.YtcomlgfjnjpebaaGreatDoorC08
import Derived.Test.YtcomlgfjnjpebaaGreatDoorC05
import Derived.Test.YtcomlgfjnjpebaaGreatDoorC04
import Derived.Test.YtcomlgfjnjpebaaGreatDoorC07
set_option linter.unusedSimpArgs false
set_option linter.unusedVariables false
section
set_option linter.unusedVariables false
namespace Go.VL
open Go.Lib
theorem Yb (n:Nat):1<=(decDigits n).length:=by
 by_cases h:n<10
 . rw [wo h];exact Nat.le_refl _
 . rw [GC h,List.length_append,List.length_singleton];omega
section
variable {P:Program} {G:Nat->Option (List AV)}
theorem I7 {f fV fS UN fI fE fF fM:FuncId} (h:Has P f (dv fV fS UN fI fE fF fM)) (a b:Nat) (hb:b≠0) (hg:Nat.gcd a b=1) (ha:ah a<=8) (Ci:ah b<=8)
   (hv:VP P G fV [RV (a:Int) (b:Int)] (.bool true)) (hs:VP P G fS [RV (a:Int) (b:Int)] (.int .i64 (a:Int).sign)) (PI:VP P G UN [.int .i64 10] (RV 10 1)) (hi:VP P G fI [.int .i64 1] (IV 1))
   (hc:∀ y:Nat,ah y<=1000->VP P G fE [IV (y:Int),IV 1] (.bool (decide ((y:Int)=1))))
   (hm:∀ a b:Nat,b≠0->b≠1->Nat.gcd a b=1->ah a<=1000->ah b<=1000->VP P G fM [RV (a:Int) (b:Int),RV 10 1] (RV ((10*a/Nat.gcd (10*a) b:Nat):Int) ((b/Nat.gcd (10*a) b:Nat):Int)))
   (hf:∀ n:Nat,ah n<=1000->VP P G fF [IV (n:Int)] (.str (decDigits n))) :
   VP P G f [RV (a:Int) (b:Int)] (uv 41 a b):=by
 refine VP.has h ?_
 have d0:decide ((a:Int).sign<0)=false:=ak (by rcases mE (a:Int) with ⟨e,p⟩ | ⟨e,p⟩ | ⟨e,p⟩<;>omega)
 simp only [dv,SS,Nat.reduceAdd,ya,ae,qv]
 refine aj hv (by simp [fB]) ?_
 simp only [SS,Nat.reduceAdd,ae,qv]
 refine aj hs (by simp [fB]) ?_
 simp only [SS,Nat.reduceAdd,d0]
 refine aj PI (by simp [af.int]) ?_
 simp only [SS,Nat.reduceAdd,mM]
 rw [gW (k:=(AV.agg [.bool false, .nils, .bool false, .nils]).size) (by simp [aa.put])]
 simp only [SS,Nat.reduceAdd]
 refine aj hi (by simp [af.int]) ?_
 simp only [SS,Nat.reduceAdd,cx]
 rw [bB (k:=(AV.agg [.bool false, .nils]).size) (y := .agg [.bool false, .nils]) rfl (jJ _) (by simp [aa.put])]
 have k1:([0]:List Nat)≠[12]:=by decide
 have k2:([0]:List Nat)≠[15]:=by decide
 simp only [SS,Nat.reduceAdd,ai k1,ai k2,ae,qv,mM]
 rw [gW (k:=(AV.agg [.bool false, .nils, .bool false, .nils]).size) (by simp [aa.put])]
 simp only [SS,Nat.reduceAdd,aC]
 refine VW.bJ (α := Nat × Nat × Nat × Nat) (fun x=>⟨[RV (a:Int) (b:Int), .ref [0] 0 0, .str [], .bool false, .ref [12] 0 0, .ref [15] 0 0, .ref [18] 0 0, .int .i64 ((x.1:Nat):Int)]++List.replicate 52 .top,
   ((aa.put (fun _=>none) [12] (some ⟨[RV 10 1],4,false⟩)).put [15] (some ⟨[IV 1],2,false⟩)).put [18] (some ⟨[RV (x.2.1:Int) (x.2.2.1:Int)],4,false⟩),x.2.2.2⟩)
   (fun x=>x.1<=41/\x.2.2.1≠0/\Nat.gcd x.2.1 x.2.2.1=1/\ah x.2.1<=8+x.1/\ah x.2.2.1<=8/\gz 41 0 a b=gz (41-x.1) x.1 x.2.1 x.2.2.1) (fun x=>41-x.1) (0,a,b,1000) ?_ ?_ ?_
 . refine Wk.forget (by simp [Fg,List.replicate]) (fun j => ?_) (by simp only [];omega)
   by_cases h1:j=[15]
   . subst h1;right;simp [aa.put];rfl
   by_cases h2:j=[12]
   . subst h2;right;simp [aa.put];rfl
   by_cases h3:j=[18]
   . subst h3;right;simp [aa.put];rfl
   . left;simp [aa.put,h1,h2,h3]
 . exact ⟨Nat.zero_le _,hb,hg,ha,Ci,rfl⟩
 rintro ⟨p,x,y,nn⟩ ⟨hp,hy,Wn,hwx,hwy,hgo⟩
 simp only [] at hp hy Wn hwx hwy hgo
 unfold uv
 rw [hgo]
 by_cases adY:p<41
 case neg =>
   have dp:decide ((p:Int)<=40)=false:=ak (by omega)
   rw [show 41-p=0 from by omega]
   simp only [SS,Nat.reduceAdd,dp,gz]
   exact ag▸ab rfl (fZ _ _)
 have dp:decide ((p:Int)<=40)=true:=ao (by omega)
 obtain ⟨m,X6⟩:∃ m,41-p=m+1:=⟨41-p-1,by omega⟩
 rw [X6]
 have k1:([12]:List Nat)≠[18]:=by decide
 have k2:([15]:List Nat)≠[18]:=by decide
 have k3:([12]:List Nat)≠[15]:=by decide
 simp only [SS,Nat.reduceAdd,dp,ai k2,ae,mj,cp]
 refine aj (hc y (by omega)) (by simp [aF]) ?_
 by_cases JV:y=1
 . have dc:decide ((y:Int)=1)=true:=ao (by omega)
   have BP:gz (m+1) p x y=some (p,x):=by rw [gz,if_pos JV]
   have UM:=FA (x:=x) (by omega)
   have qD:1<=(decDigits x).length:=Yb x
   rw [BP]
   simp only [SS,Nat.reduceAdd,dc,ae,nz]
   refine aj (hf x (by omega)) (by simp [aF]) ?_
   have uW:∀ (t:List UInt8),t.length<=2000->(decide ((t.length:Int)<=40))=decide (t.length<=40):=fun t _=>by by_cases h:t.length<=40<;>simp [h]<;>omega
   simp only [SS,Nat.reduceAdd,aC]
   refine VW.bJ (α := Nat × Nat) (fun z=>⟨[RV (a:Int) (b:Int), .ref [0] 0 0, .str [], .bool false, .ref [12] 0 0, .ref [15] 0 0, .ref [18] 0 0, .int .i64 ((p:Nat):Int), .str (List.replicate z.1 48++decDigits x)]++List.replicate 51 .top,fun _=>none,z.2⟩)
     (fun z=>z.1<=p+1-(decDigits x).length) (fun z=>p+1-z.1) (0,nn+1000) ?_ ?_ ?_
   . exact Wk.forget (by simp [Fg,List.replicate]) (fun j => .inl rfl) (by simp only [];omega)
   . exact Nat.zero_le _
   rintro ⟨j,mm⟩ hj
   simp only [] at hj
   have hlen:(List.replicate j (48:UInt8)++decDigits x).length=j+(decDigits x).length:=by rw [List.length_append,List.length_replicate]
   by_cases hlt:j+(decDigits x).length<=p
   . have d1:decide (((j+(decDigits x).length:Nat):Int)<=(p:Int))=true:=ao (by omega)
     have Ej:bo .add .str (.str [48]) (.str (List.replicate j 48++decDigits x))=some (.str (List.replicate (j+1) 48++decDigits x)):=by rw [List.replicate_succ,List.cons_append];exact sY (by rw [hlen];simp [maxLen];omega)
     simp only [SS,Nat.reduceAdd,hlen,d1,Ej]
     exact ⟨(j+1,_),by simp only [];omega,by simp only [];omega,Wk.slots (by simp [Fg,List.replicate]) (Nat.le_refl _)⟩
   . have d1:decide (((j+(decDigits x).length:Nat):Int)<=(p:Int))=false:=ak (by omega)
     have ej:List.replicate j 48++decDigits x=cj p x:=by unfold cj;rw [show p+1-(decDigits x).length=j from by omega]
     have We:(cj p x).length<=1100:=by unfold cj;rw [List.length_append,List.length_replicate];omega
     rw [<- hlen] at d1
     rw [ej] at d1 ⊢
     by_cases X7:p=0
     . subst X7
       have d2:decide ((0:Int)<((0:Nat):Int))=false:=by decide
       have e0:qu 0 x=cj 0 x:=by unfold cj;rw [show 0+1-(decDigits x).length=0 from by omega];exact if_pos rfl
       rw [e0]
       simp only [SS,Nat.reduceAdd,d1,d2]
       rw [uW _ (by omega)]
       exact ag▸ab rfl (fZ _ _)
     . have d2:decide ((0:Int)<(p:Int))=true:=ao (by omega)
       have J1:=uw p x
       have e0:qu p x=(cj p x).take ((cj p x).length-p)++[46]++(cj p x).drop ((cj p x).length-p):=if_neg X7
       have hL:=yd p x X7
       have xK:∀ q:Nat,q<=1100->p<=q->IntKind.i64.wrap ((q:Int)-(p:Int))=((q-p:Nat):Int):=fun q h1 h2=>by rw [IntKind.wrap_i64];omega
       have z6:=xK _ We (by omega)
       have b1:=AX (s:=cj p x) (l:=(cj p x).length-p) (by omega)
       have b2:=Fz (s:=cj p x) (l:=(cj p x).length-p) (by omega)
       have zZ:bo .add .str (.str ((cj p x).take ((cj p x).length-p))) (.str [46])=some (.str ((cj p x).take ((cj p x).length-p)++[46])):=sY (by rw [List.length_take];simp [maxLen];omega)
       have I6:bo .add .str (.str ((cj p x).take ((cj p x).length-p)++[46])) (.str ((cj p x).drop ((cj p x).length-p)))=some (.str (qu p x)):=by rw [e0];exact sY (by rw [List.length_append,List.length_take,List.length_drop];simp [maxLen];omega)
       simp only [SS,DD,Nat.reduceAdd,d1,d2,z6,b1,b2,zZ,I6]
       refine ⟨by simp [ar,apart], ?_⟩
       rw [uW _ (by omega)]
       exact ag▸ab rfl (fZ _ _)
 . have dc:decide ((y:Int)=1)=false:=ak (by omega)
   simp only [SS,Nat.reduceAdd,dc,ai k1,ai k3,ae,qv]
   refine aj (hm x y hy JV Wn (by omega) (by omega)) (by simp [fB]) ?_
   simp only [SS,Nat.reduceAdd]
   rw [Fy (k:=4) (x:=(x:Int)) (y:=(y:Int)) (by simp [aa.put])]
   simp only [SS,Nat.reduceAdd]
   obtain ⟨r1,r2,r3,r4⟩:=I5 (a:=x) (b:=y) hy
   have hwp:IntKind.i64.wrap ((p:Int)+1)=((p+1:Nat):Int):=by rw [IntKind.wrap_i64];omega
   have X8:ah (10*x/Nat.gcd (10*x) y)<=8+(p+1):=by
     have h1:=cP r3
     have h2:=ql 10 x
     have h3:ah 10<=1:=jg (by decide)
     omega
   have X9:ah (y/Nat.gcd (10*x) y)<=8:=Nat.le_trans (cP r4) hwy
   have Ya:gz (m+1) p x y=gz (41-(p+1)) (p+1) (10*x/Nat.gcd (10*x) y) (y/Nat.gcd (10*x) y):=by
     rw [show 41-(p+1)=m from by omega,gz,if_neg JV]
   simp only [hwp]
   refine ⟨(p+1,10*x/Nat.gcd (10*x) y,y/Nat.gcd (10*x) y,nn+1000),⟨by simp only [];omega,r1,r2,X8,X9,Ya⟩,by simp only [];omega, ?_⟩
   refine Wk.forget (by simp [Fg]) (fun j => ?_) (by simp only [];omega)
   by_cases h1:j=[15]
   . subst h1;right;simp [aa.put]
   by_cases h2:j=[12]
   . subst h2;right;simp [aa.put]
   by_cases h3:j=[18]
   . subst h3;right;simp [aa.put]
   . left;simp [aa.put,h1,h2,h3]
end
end Go.VL
end

section
set_option maxRecDepth 100000
namespace Go.Proofs.YtcomlgfjnjpebaaGreatDoor
open Go.VL Go.Proofs
section
variable (G:Nat->Option (List AV))
theorem t145:gU Tryz.prog G 145:=fun _ hw hl=>MB sK hw hl
theorem c95 (n:Nat) (hn:ah n<=1000000):VP Tryz.prog G 95 [W n] (W n):=Fs fy n hn
theorem Rt:jh Tryz.prog G 141:=Kv xV (t145 G)
theorem MT (n:Nat) (hn:n<18446744073709551616):VP Tryz.prog G 142 [.int .u64 ((n:Nat):Int)] (W n):=Bv vW (t145 G) n hn
theorem Wo (n:Nat) (hn:n<18446744073709551616):VP Tryz.prog G 165 [W n] (.int .u64 ((n:Nat):Int)):=Tryz.toUint_vp G n hn
theorem n166 (a:Int):VP Tryz.prog G 166 [.int .i64 a] (.bool false):=Kn zf a
theorem n195 (a:Int):VP Tryz.prog G 195 [.int .u32 a] (.bool false):=En vZ a
theorem aaQ (a b:Int):VP Tryz.prog G 143 [.int .i64 a, .int .i64 b] (.int .i64 (iZ a b)):=Ko xd (n166 G) a b
theorem ad4 (a b:Int):VP Tryz.prog G 167 [.int .u32 a, .int .u32 b] (.int .i64 (iZ a b)):=Eo tX (n195 G) a b
theorem aaR (m n:Nat) (hm:ah m<=1000000) (hn:ah n<=1000000):VP Tryz.prog G 144 [W m,W n] (.int .i64 (gp m n)):=Kp wZ (aaQ G) (ad4 G) m n (by omega) (by omega)
theorem ad5 (m n:Nat) (hm:ah m<=1000000) (hn:ah n<=1000000):VP Tryz.prog G 207 [W m,W n] (W (m+n)):=Ud AG m n hm hn
theorem ad6 (m n:Nat) (yi:n<=m) (hm:ah m<=1000000):VP Tryz.prog G 208 [W m,W n] (W (m-n)):=Qz zb (t145 G) m n yi hm
theorem ad7 (m n:Nat) (hm:ah m<=1000000) (hn:ah n<=1000000):VP Tryz.prog G 168 [W m,W n] (W (m*n)):=QA zc (t145 G) m n hm hn
theorem d189 (m w:Nat) (hm:ah m<=1000000) (hw:w<au) (h0:w≠0):VP Tryz.prog G 189 [W m, .int .u32 (w:Int)] (.tup [W (m/w),W (m%w)]):=Ep tW (t145 G) (MT G) m w hm hw h0
theorem l90 (x:Nat) (hx:x<au):VP Tryz.prog G 90 [.int .u32 (x:Int)] (.int .i64 (iN x:Int)):=QH xc x hx
theorem ad8 (x:Nat) (hx:x<au) (h0:0<x):VP Tryz.prog G 190 [.int .u32 (x:Int)] (.int .i64 ((32-iN x:Nat):Int)):=Ui po (l90 G) x hx h0
theorem d164 (m n:Nat) (tC:n≠0) (hm:ah m<=900000) (hn:ah n<=900000):VP Tryz.prog G 164 [W m,W n] (.tup [W (m/n),W (m%n)]) :=
 N5 xW (aaR G) (c95 G) (Wo G) (MT G) (d189 G) (ad8 G) vp (t145 G) vX w6 tV m n tC hm hn
theorem Yc (z:Int) (hz:ah z.natAbs<=1000000):VP Tryz.prog G 137 [IV z] (.int .i64 z.sign):=Uj AH (t145 G) z hz
theorem Ru (a:Int) (h1 : -9223372036854775808<=a) (h2:a<9223372036854775808):VP Tryz.prog G 126 [.int .i64 a] (IV a):=Kw w7 (MT G) (Rt G) a h1 h2
theorem n169 (z:Int) (hz:ah z.natAbs<=1000000):VP Tryz.prog G 169 [IV z] (IV (-z)):=Xs B3 (t145 G) (c95 G) (Rt G) z hz
theorem aaS (y z:Int) (hy:ah y.natAbs<=1000000) (hz:ah z.natAbs<=1000000):VP Tryz.prog G 146 [IV y,IV z] (IV (y*z)):=Xt B4 (t145 G) (ad7 G) (Rt G) y z hy hz
theorem ad9 (y z:Int) (hy:ah y.natAbs<=1000000) (hz:ah z.natAbs<=1000000):VP Tryz.prog G 127 [IV y,IV z] (.int .i64 (iZ y z)):=Xu B2 (Yc G) (aaQ G) (t145 G) (aaR G) y z hy hz
theorem aaT (a b:Int) (G3:b≠0) (ha:ah a.natAbs<=900000) (hb:ah b.natAbs<=900000):VP Tryz.prog G 196 [IV a,IV b] (.tup [IV (a.fdiv b),IV (a.fmod b), .int .i64 0]):=by
 have h:=NZ xX (t145 G) (d164 G) (ad5 G) (ad6 G) (Rt G) a b G3 ha hb
 rw [(QN a b G3).1,(QN a b G3).2] at h;exact h
theorem aaU (a b:Int) (ha:ah a.natAbs<=900000) (hb:ah b.natAbs<=900000):VP Tryz.prog G 139 [IV a,IV b] (IV (Nat.gcd a.natAbs b.natAbs:Nat)):=Xz B5 (t145 G) (d164 G) (c95 G) (Rt G) (Wo G) (MT G) a b ha hb
theorem Wp (neg:Bool) (ws:List Nat) (hl:ws.length<=9223372036854775807):VP Tryz.prog G 136 [IR neg ws] (.bool (iy neg ws)):=N4 zd neg ws hl
theorem aaV:VP Tryz.prog G 140 [] (IV 1):=Xv AJ (Ru G 1 (by decide) (by decide))
theorem i138 (z:Int):VP Tryz.prog G 138 [IV z] (.bool (decide (z=1))):=QJ xY z
theorem aea (a b:Int) (G3:b≠0) (ha:ah a.natAbs<=900000) (hb:ah b.natAbs<=900000):VP Tryz.prog G 170 [IV a,IV b] (IV (a.fdiv b)):=Xw AK a b (i138 G b) (aaT G a b G3 ha hb)
theorem Yd (a:Int) (h1 : -9223372036854775808<=a) (h2:a<9223372036854775808):VP Tryz.prog G 125 [.int .i64 a] (RV a 1):=ID vY a (Ru G a h1 h2) (aaV G)
theorem Wq (a b:Int) (ha:ah a.natAbs<=1000000):VP Tryz.prog G 124 [RV a b] (.int .i64 a.sign):=IE ze a b (Yc G a ha)
theorem aaW (a b:Int) (G3:b≠0) (ha:ah a.natAbs<=900000) (hb:ah b.natAbs<=900000) :
   VP Tryz.prog G 147 [IV a,IV b] (RV (a.fdiv (if b<0 then -(Nat.gcd a.natAbs b.natAbs:Nat) else (Nat.gcd a.natAbs b.natAbs:Nat))) (b.fdiv (if b<0 then -(Nat.gcd a.natAbs b.natAbs:Nat) else (Nat.gcd a.natAbs b.natAbs:Nat)))):=by
 have UL:0<Nat.gcd a.natAbs b.natAbs:=Nat.gcd_pos_of_pos_right _ (by omega)
 have Rv:ah (Nat.gcd a.natAbs b.natAbs)<=900000:=Nat.le_trans (cP (Nat.le_of_dvd (by omega) (Nat.gcd_dvd_right _ _))) hb
 refine N3 w9 a b (Nat.gcd a.natAbs b.natAbs:Nat) (aaU G a b ha hb) (n169 G _ (by rw [Int.natAbs_natCast];omega)) ?_
 intro x y hx hy
 have Uo:y≠0:=by rcases hy with rfl | rfl<;>omega
 have hyl:ah y.natAbs<=900000:=by rcases hy with rfl | rfl<;>simpa using Rv
 exact aea G x y Uo (by rcases hx with rfl | rfl<;>assumption) hyl
theorem aeb (a b:Nat) (hb:b≠0) (ha:ah a<=1000) (Ci:ah b<=1000) :
   VP Tryz.prog G 128 [RV (a:Int) (b:Int),RV 10 1] (RV ((10*a/Nat.gcd (10*a) b:Nat):Int) ((b/Nat.gcd (10*a) b:Nat):Int)):=by
 have Tn:ah 10<=1:=jg (by decide)
 have h1:ah 1<=1:=sW
 have e10:((10:Nat):Int)=10:=rfl
 have G2:ah ((a:Int)*10).natAbs<=900000:=by
   have:=ql a 10
   rw [show ((a:Int)*10).natAbs=a*10 from by omega];omega
 have tp:ah ((b:Int)*1).natAbs<=900000:=by rw [show ((b:Int)*1).natAbs=b from by omega];omega
 have hl:=aaW G ((a:Int)*10) ((b:Int)*1) (by omega) G2 tp
 have hg:Nat.gcd ((a:Int)*10).natAbs ((b:Int)*1).natAbs=Nat.gcd (10*a) b:=by rw [show ((a:Int)*10).natAbs=10*a from by omega,show ((b:Int)*1).natAbs=b from by omega]
 have hbp : ¬ ((b:Int)*1<0):=by omega
 rw [hg,if_neg hbp] at hl
 have f1:((a:Int)*10).fdiv (Nat.gcd (10*a) b:Nat)=((10*a/Nat.gcd (10*a) b:Nat):Int):=by
   rw [Int.fdiv_eq_ediv_of_nonneg _ (by omega),show (a:Int)*10=((10*a:Nat):Int) from by omega];rfl
 have f2:((b:Int)*1).fdiv (Nat.gcd (10*a) b:Nat)=((b/Nat.gcd (10*a) b:Nat):Int):=by
   rw [Int.fdiv_eq_ediv_of_nonneg _ (by omega),Int.mul_one];rfl
 rw [f1,f2] at hl
 have h:=Un AL (a:Int) (b:Int) 10 1 _ rfl (i138 G) (aaS G _ _ (by rw [Int.natAbs_natCast];omega) (by show ah 10<=_;omega)) (aaS G _ _ (by rw [Int.natAbs_natCast];omega) (by show ah 1<=_;omega)) (aaV G) hl
 by_cases qF:b=1
 . subst qF
   rw [if_pos ⟨rfl,rfl⟩] at h
   rw [Nat.gcd_one_right,Nat.div_one,Nat.div_one,show ((10*a:Nat):Int)=(a:Int)*10 from by omega]
   exact h
 . rw [if_neg (by omega)] at h;exact h
end
end Go.Proofs.YtcomlgfjnjpebaaGreatDoor
end

section
set_option maxRecDepth 100000
namespace Go.Proofs.YtcomlgfjnjpebaaGreatDoor
open Go.VL Go.Proofs
section
variable (G:Nat->Option (List AV))
theorem aaY:Has Tryz.prog 203 du:=sL
theorem aec:Has Tryz.prog 183 (j3 203):=rQ
theorem t203:gU Tryz.prog G 203:=fun _ hw hl=>MB aaY hw hl
theorem KP:jh Tryz.prog G 182:=KC qJ (t203 G)
theorem n185 (z:Int) (hz:ah z.natAbs<=1000000):VP Tryz.prog G 185 [IV z] (IV z):=Q0 sM (KP G) z hz
theorem Ye (z:Int) (hz:ah z.natAbs<=1000000):VP Tryz.prog G 179 [IV z] (.int .i64 z.sign):=N8 sP (n185 G) z hz
theorem aaZ (n:Nat) (hn:n<18446744073709551616):VP Tryz.prog G 183 [.int .u64 ((n:Nat):Int)] (W n):=Bv aec (t203 G) n hn
theorem Rw (a:Int) (h1 : -9223372036854775808<=a) (h2:a<9223372036854775808):VP Tryz.prog G 160 [.int .i64 a] (IV a):=N9 qg (aaZ G) (KP G) a h1 h2
theorem Yf (m n:Nat) (hm:ah m<=1000000) (hn:ah n<=1000000):VP Tryz.prog G 184 [W m,W n] (.int .i64 (gp m n)):=IU qh m n hm hn
theorem aed (m n:Nat) (hm:ah m<=1000000) (hn:ah n<=1000000):VP Tryz.prog G 224 [W m,W n] (W (m+n)):=Q2 sN (t203 G) m n hm hn
theorem aee (m n:Nat) (yi:n<=m) (hm:ah m<=1000000):VP Tryz.prog G 217 [W m,W n] (W (m-n)):=Fw mf (t203 G) m n yi hm
theorem aa0 (m:Nat) (ws:List Nat) (hw:Wd ws) (hm:ah m<=1000000) (hl:ws.length<=1000000):VP Tryz.prog G 205 [W m, .sl 1 (us ws)] (W (m*val ws)):=Dr mg (t203 G) m hw hm hl
theorem aef (m n:Nat) (hm:ah m<=1000000) (hn:ah n<=1000000):VP Tryz.prog G 205 [W m,W n] (W (m*n)):=Oa mg (t203 G) m n hm hn
theorem aa1 (m w:Nat) (hm:ah m<=1000000) (hw:w<au) (h0:w≠0):VP Tryz.prog G 186 [W m, .int .u32 (w:Int)] (.tup [W (m/w), .int .u32 ((m%w:Nat):Int)]):=XU vq (t203 G) m w hm hw h0
theorem aa2 (n:Nat) (hn:n<18446744073709551616):VP Tryz.prog G 213 [W n] (.int .u64 (n:Int)):=Q1 rR n hn
theorem aa3 (m s:Nat) (hm:ah m<=1000000) (hs:s<=31):VP Tryz.prog G 218 [W m, .int .i64 (s:Int)] (W (m/2 ^ s)):=Uy sO (t203 G) m s hm hs
theorem d204 (m n:Nat) (tC:n≠0) (hm:ah m<=900000) (hn:ah n<=900000):VP Tryz.prog G 204 [W m,W n] (.tup [W (m/n),W (m%n)]) :=
 KF qL (Yf G) (aa2 G) (aaZ G) (aa1 G) qK qi (t203 G) aaY rS (aa0 G) mf (aa3 G) m n tC hm hn
theorem aa4 (z:Int) (hz:ah z.natAbs<=1000000):VP Tryz.prog G 223 [IV z] (IV (-z)):=Uv tY (KP G) z hz
theorem aeg (a b:Int) (ha:ah a.natAbs<=1000000) (hb:ah b.natAbs<=1000000):VP Tryz.prog G 220 [IV a,IV b] (IV (a+b)):=UB tZ (n185 G) (aed G) (KP G) (Yf G) (aee G) a b ha hb
theorem aa5 (a b:Int) (ha:ah a.natAbs<=1000000) (hb:ah b.natAbs<=1000000):VP Tryz.prog G 219 [IV a,IV b] (IV (a-b)):=UC ua (aa4 G) (aeg G) a b ha hb
theorem Ws (a b:Int) (ha:ah a.natAbs<=1000000) (hb:ah b.natAbs<=1000000):VP Tryz.prog G 187 [IV a,IV b] (IV (a*b)):=Ra ub (n185 G) (aef G) (KP G) a b ha hb
theorem aa6 (a b:Nat) (G3:b≠0) (ha:ah a<=900000) (hb:ah b<=900000):VP Tryz.prog G 206 [IV (a:Int),IV (b:Int)] (.tup [IV ((a/b:Nat):Int),IV ((a%b:Nat):Int), .int .i64 0]) :=
 KG qM (n185 G) (d204 G) (KP G) (Ws G) (aa5 G) (Ye G) a b G3 ha hb
theorem Yg (a b:Int) (ha:ah a.natAbs<=900000) (hb:ah b.natAbs<=900000):VP Tryz.prog G 181 [IV a,IV b] (IV (Nat.gcd a.natAbs b.natAbs:Nat)):=UD uc (t203 G) (d204 G) (KP G) a b ha hb
theorem f162 (n:Nat) (hn:ah n<=1000000):VP Tryz.prog G 162 [IV (n:Int)] (.str (Lib.decDigits n)):=KJ qN (n185 G) (aa1 G) n hn
theorem aa7 (a b:Int) (ha:ah a.natAbs<=1000000) (hb:ah b.natAbs<=1000000):VP Tryz.prog G 161 [IV a,IV b] (.bool (decide (a=b))):=Rb sQ (Yf G) a b ha hb
theorem Wt (neg:Bool) (ws:List Nat) (hw:Wd ws) (hl:ws.length<=9223372036854775807):VP Tryz.prog G 178 [IR neg ws] (.bool (iy neg ws)):=KH rP (t203 G) neg ws hw hl
theorem aeh (a b:Nat) (G3:b≠0) (ha:ah a<=900000) (hb:ah b<=900000):VP Tryz.prog G 188 [IV (a:Int),IV (b:Int)] (IV ((a/b:Nat):Int)):=Rc ud a b (aa6 G a b G3 ha hb)
theorem Rx (a:Int) (h1 : -9223372036854775808<=a) (h2:a<9223372036854775808):VP Tryz.prog G 159 [.int .i64 a] (RV a 1):=Gz qj a (Rw G a h1 h2) (Rw G 1 (by decide) (by decide))
theorem Wu (z:Int):VP Tryz.prog G 180 [IV z] (.bool (decide (z=1))):=Re ue z
theorem aei:Has Tryz.prog 158 (mw 179):=sS
theorem Wv (a b:Int) (ha:ah a.natAbs<=1000000):VP Tryz.prog G 158 [RV a b] (.int .i64 a.sign):=IE aei a b (Ye G a ha)
theorem aej:Has Tryz.prog 157 (lM 178 179 181 180):=rT
theorem aek (a b:Nat) (hb:b≠0) (qF:b≠1) (hg:Nat.gcd a b=1) (ha:ah a<=1000) (Ci:ah b<=1000) :
   VP Tryz.prog G 163 [RV (a:Int) (b:Int),RV 10 1] (RV ((10*a/Nat.gcd (10*a) b:Nat):Int) ((b/Nat.gcd (10*a) b:Nat):Int)):=by
 have Tn:ah 10<=1:=jg (by decide)
 have h1:ah 1<=1:=sW
 have Y1:a≠0:=fun e=>by rw [e,Nat.gcd_zero_left] at hg;exact qF hg
 have D6:Nat.gcd (10*a) b=Nat.gcd 10 b:=Nat.Coprime.gcd_mul_right_cancel 10 hg
 have ael:Nat.gcd 10 b<=10:=Nat.le_of_dvd (by decide) (Nat.gcd_dvd_left _ _)
 have hgp:0<Nat.gcd 10 b:=Nat.gcd_pos_of_pos_left _ (by decide)
 have Rv:ah (Nat.gcd 10 b)<=1:=Nat.le_trans (cP ael) Tn
 have hm:∀ x y m n:Nat,x<=m->y<=n->ah m<=1000->ah n<=1000->VP Tryz.prog G 187 [IV (x:Int),IV (y:Int)] (IV ((x*y:Nat):Int)):=fun x y m n hx hy hm hn=>by
   have q1:=cP hx
   have q2:=cP hy
   have:=Ws G (x:Int) (y:Int) (by rw [Int.natAbs_natCast];omega) (by rw [Int.natAbs_natCast];omega)
   rwa [<- Int.natCast_mul] at this
 have hqy:∀ y,(y=Nat.gcd a 1∨y=Nat.gcd 10 b)->y≠0/\ah y<=900000:=by
   rintro y (rfl | rfl)
   . rw [Nat.gcd_one_right];exact ⟨by decide,by omega⟩
   . exact ⟨by omega,by omega⟩
 have h:=Rf uf a b 10 1 (by decide) (Rx G 0 (by decide) (by decide)) (Wu G) (fun x y hx hy=>hm x y a 10 hx hy (by omega) (by omega)) (fun x y hx hy=>hm x y b 1 hx hy (by omega) (by omega))
   (Yg G (a:Int) (1:Nat) (by rw [Int.natAbs_natCast];omega) (by show ah 1<=_;omega)) (Yg G (10:Nat) (b:Int) (by show ah 10<=_;omega) (by rw [Int.natAbs_natCast];omega))
   (fun x y hx hy=>aeh G x y (hqy y hy).1 (by rcases hx with rfl | rfl | rfl | rfl<;>omega) (hqy y hy).2)
 rw [if_neg Y1,if_neg (fun e=>qF e.1),Nat.gcd_one_right,Nat.div_one,Nat.div_one,Nat.mul_one] at h
 have e:10*a/Nat.gcd (10*a) b=a*(10/Nat.gcd 10 b):=by
   rw [D6,Nat.mul_comm 10 a,Nat.mul_div_assoc _ (Nat.gcd_dvd_left _ _)]
 rw [e,D6]
 exact h
end
end Go.Proofs.YtcomlgfjnjpebaaGreatDoor
end

section
namespace Go.VL
structure MU (w w':World) (g:Nat) (row:List Value):Prop where
 os:w'.os=w.os
 tape:w'.tape=w.tape
 output:w'.output=w.output
 size:w.heap.size<=w'.heap.size
 other:∀ k,k<w.heap.size->k≠g->w'.heap[k]? = w.heap[k]?
 here:∀ cur ty,w.heap[g]? = some (.cells cur ty (0,0))->∃ Ab,w'.heap[g]? = some (.cells Ab ty (0,0))/\Ab.size=cur.size/\∀ (j:Nat) v,row[j]? = some v->Ab[j]? = some v
theorem AY:∀ {es:List AV},(∀ e∈es,e.cells=[e])->flat es=es
 | [],_=>rfl
 | e::es,h=>by
   have h1:flat (e::es)=e.cells++flat es:=rfl
   rw [h1,h e (by simp),AY fun x hx=>h x (by simp [hx])];rfl
theorem aB.Dw {P:Program} {G:Nat->Option (List AV)} {f:FuncId} {fn:Func} (hf:P.funcs[f]? = some fn) (sC:(fn.name == "runtime.NumGoroutine")=false) (hb:fn.body.isSome=true) {id p:Id} (hid : ¬ p <:+ id)
   {es es':List AV} (hlen:es'.length=es.length) (hc':∀ e∈es',e.cells=[e]) (hc:∀ e∈es,e.cells=[e]) {val:AV} {row:List Value} (rr:∀ E w,aM E w es' row)
   (hval:∀ E w (g N cap:Nat),E.μ id=some (g,1,N)->es.length<=cap->cap=N->N<=maxLen->∀ v,(v=Value.tuple #[]/\val = .tup [])∨(∃ m,m<=es.length/\v = .slice (some ⟨g,0,none⟩) m cap/\val = .osl id 1 0 m false)->aL E w val v)
   (h:∀ (w:World) (g cap:Nat) (cur:Array Value) (ty:TypeId) (E:Env),w.heap[g]? = some (.cells cur ty (0,0))->es.length<=cap->cap<=maxLen->(∀ (j:Nat) c,es[j]? = some c->∃ v,cur[j]? = some v/\aL E w c v) ->
     Calls P f #[.slice (some ⟨g,0,none⟩) es.length cap] w fun e w'=>∃ v,e = .returned v/\((v=Value.tuple #[]/\val = .tup [])∨(∃ m,m<=es.length/\v = .slice (some ⟨g,0,none⟩) m cap/\val = .osl id 1 0 m false))/\MU w w' g row) :
   aB P G f [.osl id 1 0 es.length false] p [(id,⟨es,1,false⟩)] { val:=val,rd:=[id],up:=[(id,some ⟨es',1,false⟩)] }:=by
 refine ⟨⟨fn,hf,sC,hb⟩,fun own E w σ vs hS hi hr _ => ?_⟩
 have hσ : σ id=some ⟨es,1,false⟩:=hS (id,⟨es,1,false⟩) (by simp)
 obtain ⟨g,N,cur,ty,hB⟩:=hi.blk id _ hσ
 simp only [aM,aL] at hr
 obtain ⟨v,_,rfl,⟨g',N',cap,hm,rfl,hle,afP,hN,Cw⟩,rfl⟩:=hr
 rw [hB.μ] at hm
 simp only [Option.some.injEq,Prod.mk.injEq] at hm
 obtain ⟨rfl,_,rfl⟩:=hm
 simp only [Bool.false_eq_true,if_false,Nat.zero_add] at Cw
 subst Cw
 have Np:∀ (j:Nat) c,es[j]? = some c->∃ v,cur[j]? = some v/\aL E w c v:=fun j c hj=>by
   have h1:=hB.row j c (by show (flat es)[j]? = some c;rw [AY hc];exact hj)
   rw [Nat.zero_add] at h1
   obtain ⟨v,hv,wW⟩:=h1
   refine ⟨v, ?_,wW⟩
   have:=hv
   unfold World.cell? at this
   rw [show ((⟨g,j,none⟩:Addr)).block=g from rfl,hB.heap] at this
   simpa using this
 refine (h w g cap cur ty E hB.heap hle hN Np).mono ?_
 rintro e w' ⟨v,rfl,hv,hR⟩
 obtain ⟨Ab,Ww,hsz,aa8⟩:=hR.here cur ty hB.heap
 have hno:=hB.no rfl
 have hs:Step E E w w':=⟨fun _ _ h=>h,fun _ h=>h,fun b hb=>hR.other b (hi.okb b hb) (fun e=>hno (e▸hb))⟩
 have gr:Adv own E E w w':=⟨hs,hR.os,hR.tape,hR.output,hR.size,fun k hk hnk=>hR.other k hk (fun e=>hnk (e▸hB.own)),fun _ h => .inl h⟩
 refine ⟨v,E,rfl,gr,⟨fun b hb=>Nat.lt_of_lt_of_le (hi.okb b hb) hR.size, ?_, ?_, ?_,fun k hk=>hi.new k (Nat.le_trans hR.size hk)⟩,hval E w' g cap cap hB.μ hle rfl hN v hv,fun _ _=>rfl⟩
 . intro i BM jc
   by_cases dt:i=id
   . subst dt
     simp only [aa.app,aa.a8,Option.some.injEq] at jc
     subst jc
     refine ⟨g,cap,Ab,ty,hB.μ,Ww,by rw [hsz];exact hB.size,by show es'.length<=cap;omega,hB.most,hB.own,by simp,hB.no, ?_, ?_⟩
     . intro e he;show e.cells.length=1;rw [hc' e he];rfl
     . intro j c hj
       have hj':es'[j]? = some c:=by
         have:flat es'=es':=AY hc'
         rw [<- this];exact hj
       obtain ⟨v,hv,wW⟩:=(bz.1 (rr E w')).2 j c hj'
       refine ⟨v, ?_,wW⟩
       unfold World.cell?
       rw [Nat.zero_add,show ((⟨g,j,none⟩:Addr)).block=g from rfl,Ww]
       simpa using aa8 j v hv
   . simp only [aa.app] at jc
     rw [aa.bg _ _ _ dt] at jc
     obtain ⟨g2,N2,WL,ty2,uJ⟩:=hi.blk i BM jc
     have hne:g2≠g:=hi.inj i id _ _ (by rw [jc];simp) (by rw [hσ];simp) dt uJ.μ hB.μ
     exact ⟨g2,N2,WL,ty2,uJ.keep hs (hR.other g2 (dH uJ.heap) hne) uJ.no⟩
 . intro i j x y jc hj' Kg hx hy
   refine hi.inj i j x y ?_ ?_ Kg hx hy
   . by_cases dt:i=id
     . subst dt;rw [hσ];simp
     . simpa [aa.app,aa.bg _ _ _ dt] using jc
   . by_cases dt:j=id
     . subst dt;rw [hσ];simp
     . simpa [aa.app,aa.bg _ _ _ dt] using hj'
 . intro g cs hg
   obtain ⟨h1,h2⟩:=hi.glob g cs hg
   exact ⟨h1,cm.keep hs.bare (hs.same g h1) cs 0 h2⟩
end Go.VL
end

section
namespace Go.Proofs
open Go.VL Go.RowKit Go.Sort
theorem Et {w:World} {g:Nat} {f:Array Value->Array Value} {cur:Array Value} {ty:TypeId} {fr:Nat × Nat} (h:w.heap[g]? = some (.cells cur ty fr)):(mapBlock w g f).heap[g]? = some (.cells (f cur) ty fr):=by
 unfold mapBlock
 simp only [Array.getElem?_modify,if_true,h,Option.map_some];rfl
theorem Dx {w:World} {g k:Nat} {f:Array Value->Array Value} (h:k≠g):(mapBlock w g f).heap[k]? = w.heap[k]? := by
 unfold mapBlock
 simp only [Array.getElem?_modify,if_neg (Ne.symm h)]
theorem BB {w:World} {g n:Nat} {os:Array Obj} {l':List (List UInt8)} {cap:Nat} (hl:∀ cur ty,w.heap[g]? = some (.cells cur ty (0,0))->l'.length<=cur.size) (hg:g<w.heap.size) :
   MU w (grow (putRow encStr (Go.Sort.ahead w n) g 0 l'.toArray) os) g (l'.map encStr):=by
 have hsz:(putRow encStr (Go.Sort.ahead w n) g 0 l'.toArray).heap.size=w.heap.size:=by rw [size_putRow];rfl
 have hold:∀ k,k<w.heap.size->(grow (putRow encStr (Go.Sort.ahead w n) g 0 l'.toArray) os).heap[k]? = (putRow encStr (Go.Sort.ahead w n) g 0 l'.toArray).heap[k]? := fun k hk=>by
   show ((putRow encStr (Go.Sort.ahead w n) g 0 l'.toArray).heap++os)[k]? = _
   rw [Array.getElem?_append_left (by omega)]
 refine ⟨rfl,rfl,rfl, ?_,fun k hk hne => ?_,fun cur ty hc => ?_⟩
 . show w.heap.size<=((putRow encStr (Go.Sort.ahead w n) g 0 l'.toArray).heap++os).size
   rw [Array.size_append];omega
 . rw [hold k hk];exact Dx hne
 . refine ⟨putCells encStr 0 l'.toArray cur, ?_,by simp [putCells],fun j v hj => ?_⟩
   . rw [hold g hg];exact Et (w:=Go.Sort.ahead w n) hc
   . have F2:=hl cur ty hc
     rw [List.getElem?_map] at hj
     cases hs:l'[j]? with
     | none=>rw [hs] at hj;cases hj
     | some s =>
       rw [hs] at hj
       simp only [Option.map_some,Option.some.injEq] at hj
       subst hj
       have nL:j<l'.length:=(List.getElem?_eq_some_iff.1 hs).1
       have hjc:j<cur.size:=by omega
       simp only [putCells,Array.getElem?_mapIdx,Array.getElem?_eq_getElem hjc,Option.map_some,Nat.zero_le,true_and,Nat.zero_add,List.size_toArray,nL,if_true,Nat.sub_zero]
       congr 1
       rw [getElem!_pos l'.toArray j (by simpa using nL)]
       simp only [List.getElem_toArray]
       rw [List.getElem?_eq_getElem nL] at hs
       exact congrArg encStr (Option.some.inj hs)
theorem mF:∀ {l:List (List UInt8)},∀ e∈l.map AV.str,e.cells=[e]:=fun e he=>by obtain ⟨s,_,rfl⟩:=List.mem_map.1 he;rfl
theorem Dy (E:Env) (w:World):∀ l:List (List UInt8),aM E w (l.map AV.str) (l.map encStr)
 | []=>rfl
 | s::l=>by
   simp only [List.map_cons,aM,aL]
   exact ⟨_,_,rfl,rfl,Dy E w l⟩
theorem holds_of {w:World} {g:Nat} {l:List (List UInt8)} {cur:Array Value} {ty:TypeId} {E:Env} (hc:w.heap[g]? = some (.cells cur ty (0,0))) (h:∀ (j:Nat) c,(l.map AV.str)[j]? = some c->∃ v,cur[j]? = some v/\aL E w c v):Holds encStr w g 0 l.toArray:=by
 intro j hj
 have nL:j<l.length:=by simpa using hj
 obtain ⟨v,hv,hr⟩:=h j (.str l[j]) (by rw [List.getElem?_map,List.getElem?_eq_getElem nL];rfl)
 simp only [aL] at hr
 subst hr
 refine ⟨?_, ?_⟩
 . unfold World.cell?
   rw [show ((⟨g,0+j,none⟩:Addr)).block=g from rfl,hc,getElem!_pos l.toArray j hj]
   simpa using hv
 . unfold World.frozen?
   rw [show ((⟨g,0+j,none⟩:Addr)).block=g from rfl,hc]
   simp
theorem Ry {l:List (List UInt8)} {cur:Array Value} {E:Env} {w:World} (h:∀ (j:Nat) c,(l.map AV.str)[j]? = some c->∃ v,cur[j]? = some v/\aL E w c v):l.length<=cur.size:=by
 rcases Nat.lt_or_ge cur.size l.length with hlt | tk
 . obtain ⟨v,hv,_⟩:=h cur.size (.str (l[cur.size])) (by rw [List.getElem?_map,List.getElem?_eq_getElem hlt];rfl)
   simp at hv
 . exact tk
def Dz (l:List (List UInt8)):List (List UInt8):=l.mergeSort fun x y=>decide (x<=y)
theorem FB (l:List (List UInt8)):(Dz l).length=l.length:=List.length_mergeSort _
theorem BC (l:List (List UInt8)):(Lib.compact l).length<=l.length:=by
 unfold Lib.compact Lib.compactUpTo
 rw [List.length_map]
 exact Nat.le_trans (List.length_filter_le _ _) (by rw [List.length_range];exact Nat.le_refl _)
theorem Tryz.Rz (G:Nat->Option (List AV)) (l:List (List UInt8)) (hl:l.length<=1000000) {id p:VL.Id} (hid : ¬ p <:+ id) :
   aB Tryz.prog G 31 [.osl id 1 0 l.length false] p [(id,⟨l.map .str,1,false⟩)] { val := .tup [],rd:=[id],up:=[(id,some ⟨(Dz l).map .str,1,false⟩)] }:=by
 have hm:(l.map AV.str).length=l.length:=List.length_map _
 have:=aB.Dw (G:=G) (P:=Tryz.prog) Tryz.func31 (by kernel_rfl) (by kernel_rfl) hid (es:=l.map .str) (es':=(Dz l).map .str) (by rw [List.length_map,List.length_map,FB]) mF mF (val := .tup []) (row:=(Dz l).map encStr) (fun E w=>Dy E w _)
   (fun E w g N cap _ _ _ _ v hv=>by
     rcases hv with ⟨rfl,_⟩ | ⟨_,_,_,h⟩
     . simp only [aL];exact ⟨#[],rfl,by simp [aM]⟩
     . cases h)
   (fun w g cap cur ty E hc hle Cw Np=>by
     rw [hm]
     refine (Tryz.slices_Sort_string g 0 cap l w (holds_of hc Np) (dH hc) (by omega)).mono ?_
     rintro e w' ⟨rfl,n,os,rfl⟩
     refine ⟨_,rfl, .inl ⟨rfl,rfl⟩,BB (cap:=cap) (fun Ab Ll hc' => ?_) (dH hc)⟩
     rw [hc] at hc'
     simp only [Option.some.injEq,Obj.cells.injEq] at hc'
     rw [<- hc'.1]
     have:=Ry Np
     rw [List.length_mergeSort];exact this)
 rwa [hm] at this
theorem Tryz.I8 (G:Nat->Option (List AV)) (l:List (List UInt8)) (hl:l.length<=1000000) {id p:VL.Id} (hid : ¬ p <:+ id) :
   aB Tryz.prog G 32 [.osl id 1 0 l.length false] p [(id,⟨l.map .str,1,false⟩)]
     { val := .osl id 1 0 (Lib.compact l).length false,rd:=[id],up:=[(id,some ⟨(Lib.compact l++List.replicate (l.length-(Lib.compact l).length) []).map .str,1,false⟩)] }:=by
 have hm:(l.map AV.str).length=l.length:=List.length_map _
 have uU:(Lib.compact l).length<=l.length:=BC l
 have:=aB.Dw (G:=G) (P:=Tryz.prog) Tryz.func32 (by kernel_rfl) (by kernel_rfl) hid (es:=l.map .str) (es':=(Lib.compact l++List.replicate (l.length-(Lib.compact l).length) []).map .str)
   (by rw [List.length_map,List.length_map,List.length_append,List.length_replicate];omega) mF mF (val := .osl id 1 0 (Lib.compact l).length false) (row:=(Lib.compact l++List.replicate (l.length-(Lib.compact l).length) []).map encStr) (fun E w=>Dy E w _)
   (fun E w g N cap hμ hle hcN hN v hv=>by
     rcases hv with ⟨_,h⟩ | ⟨m,EG,rfl,h⟩
     . cases h
     . simp only [AV.osl.injEq,true_and,and_true] at h
       subst h
       simp only [aL]
       refine ⟨g,N,cap,hμ,by simp,by rw [hm] at hle;omega,by omega,hN,by simp;omega⟩)
   (fun w g cap cur ty E hc hle Cw Np=>by
     rw [hm]
     refine (Tryz.slices_Compact_string g 0 cap l w (holds_of hc Np) (by omega) (by rw [hm] at hle;exact hle)).mono ?_
     rintro e w' ⟨rfl,q,rfl⟩
     refine ⟨_,rfl, .inr ⟨_,uU,rfl,rfl⟩, ?_⟩
     have hr:=BB (w:=w) (g:=g) (n:=q) (os := #[]) (l':=Lib.compact l++List.replicate (l.length-(Lib.compact l).length) []) (cap:=cap) (fun Ab Ll hc' => ?_) (dH hc)
     . rwa [grow_empty] at hr
     . rw [hc] at hc'
       simp only [Option.some.injEq,Obj.cells.injEq] at hc'
       rw [<- hc'.1]
       have:=Ry Np
       rw [List.length_append,List.length_replicate];omega)
 rwa [hm] at this
theorem Tryz.Yh (G:Nat->Option (List AV)) {m:Int} (hG:G 1=some [.int .i64 m]) (s:List UInt8) (hs:s.length<4294967281) :
   VP Tryz.prog G 30 [.str s, .str [47]] (.tup [.str (Lib.cut s [47]).1, .str (Lib.cut s [47]).2.1, .bool (Lib.cut s [47]).2.2]):=by
 refine VP.wN (r:={ val := .tup [.str (Lib.cut s [47]).1, .str (Lib.cut s [47]).2.1, .bool (Lib.cut s [47]).2.2] }) (aB.vJ Tryz.func30 (by kernel_rfl) (by kernel_rfl) ?_) ?_
 . intro own E w σ vs _ hi hr
   simp only [aM] at hr
   obtain ⟨v,_,rfl,rfl,v2,_,rfl,rfl,rfl⟩:=hr
   have hg:=(hi.glob 1 _ hG).2
   simp only [cm,aL] at hg
   obtain ⟨⟨v,hv,rfl⟩,_⟩:=hg
   refine (Tryz.strings_Cut ⟨s.toArray⟩ ⟨#[47]⟩ m w (by rw [Lib.size_eq];exact hs) hv).mono ?_
   rintro e w' ⟨rfl,n,rfl⟩
   refine ⟨_,rfl,⟨rfl,rfl,rfl,Nat.le_refl _,fun _ _=>rfl⟩,fun E w => ?_⟩
   simp [aL,aM]
 . intro E w E' w' v h
   simpa [aL,aM] using h
end Go.Proofs
end

section
set_option linter.unusedVariables false
namespace Go.VL
open Go.Lib
def MV (n1:Bool) (w1:List Nat) (n2:Bool) (w2:List Nat):Bool:=iy n1 w1&&iy n2 w2&&decide (0<jD n2 (val w2))&&decide (((Nat.gcd (val w1) (val w2):Nat):Int)=1)
def Eu (lim:Nat) (n1:Bool) (w1:List Nat) (n2:Bool) (w2:List Nat):AV:=if MV n1 w1 n2 w2=true /\ ¬ jD n1 (val w1)<0 then uv lim (val w1) (val w2) else .tup [.str [], .bool false]
def oP (n1:Bool) (w1:List Nat) (n2:Bool) (w2:List Nat):Bool:=MV n1 w1 n2 w2 && !decide (jD n1 (val w1)<0)&&BA 40 (val w1) (val w2)
theorem GF (lim a b:Nat):∃ s,uv lim a b = .tup [.str s, .bool (BA lim a b)]:=by
 unfold uv BA
 cases gz lim 0 a b with
 | none=>exact ⟨_,rfl⟩
 | some x=>exact ⟨_,rfl⟩
theorem DA (lim:Nat) (n1:Bool) (w1:List Nat) (n2:Bool) (w2:List Nat) (hl:∀ a b,BA lim a b=BA 40 a b):∃ s,Eu lim n1 w1 n2 w2 = .tup [.str s, .bool (oP n1 w1 n2 w2)]:=by
 unfold Eu oP
 by_cases h:MV n1 w1 n2 w2=true /\ ¬ jD n1 (val w1)<0
 . rw [if_pos h]
   obtain ⟨s,e⟩:=GF lim (val w1) (val w2)
   refine ⟨s, ?_⟩
   rw [e,hl,h.1];simp [h.2]
 . rw [if_neg h]
   refine ⟨_,congrArg (fun b=>AV.tup [.str [], .bool b]) ?_⟩
   by_cases h1:MV n1 w1 n2 w2=true
   . have:jD n1 (val w1)<0:=Decidable.byContradiction fun e=>h ⟨h1,e⟩
     simp [this]
   . simp [h1]
theorem RA {n1:Bool} {w1:List Nat} {n2:Bool} {w2:List Nat} (uK:Wd w1) (wR:Wd w2) (h:MV n1 w1 n2 w2=true) :
   RR n1 w1 n2 w2=RV (jD n1 (val w1)) ((val w2:Nat):Int)/\val w2≠0/\Nat.gcd (val w1) (val w2)=1:=by
 unfold MV at h
 simp only [Bool.and_eq_true,decide_eq_true_eq] at h
 obtain ⟨⟨⟨h1,h2⟩,h3⟩,h4⟩:=h
 have e1:=MI uK h1
 have e2:=MI wR h2
 have e3:jD n2 (val w2)=((val w2:Nat):Int):=by
   cases n2
   . exact n5 _
   . simp [jD] at h3;omega
 rw [e3] at e2 h3
 refine ⟨?_,by omega,by omega⟩
 unfold IR IV at e1 e2
 simp only [AV.agg.injEq,List.cons.injEq,and_true] at e1 e2
 unfold RR RV
 rw [e1.1,e1.2,e2.1,e2.2]
theorem eC (n1:Bool) (w1:List Nat) (n2:Bool) (w2:List Nat):af (RR n1 w1 n2 w2):=af.agg (by intro c hc;simp at hc;rcases hc with rfl | rfl | rfl | rfl;exact af.bool _;exact kS _;exact af.bool _;exact kS _)
section
variable {P:Program} {G:Nat->Option (List AV)}
theorem KQ {f fV fS UN fI fC fM fF fR:FuncId} (h:Has P f (gi fV fS UN fI fC fM fF fR)) (n1:Bool) (w1:List Nat) (n2:Bool) (w2:List Nat) (uK:Wd w1) (wR:Wd w2) (mU:w1.length<=8) (uI:w2.length<=8)
   (hv:VP P G fV [RR n1 w1 n2 w2] (.bool (MV n1 w1 n2 w2))) (hs:∀ a b:Int,ah a.natAbs<=1000->VP P G fS [RV a b] (.int .i64 a.sign))
   (hgo:∀ a b:Nat,b≠0->Nat.gcd a b=1->ah a<=8->ah b<=8->VP P G fV [RV (a:Int) (b:Int)] (.bool true)->VP P G f [RV (a:Int) (b:Int)] (uv 40 a b)) :
   VP P G f [RR n1 w1 n2 w2] (Eu 40 n1 w1 n2 w2):=by
 have Yi:ah (val w1)<=8:=Nat.le_trans (sX uK) mU
 have Yj:ah (val w2)<=8:=Nat.le_trans (sX wR) uI
 by_cases hr:MV n1 w1 n2 w2=true
 . obtain ⟨e,G3,hg⟩:=RA uK wR hr
   by_cases hn:jD n1 (val w1)<0
   . unfold Eu
     rw [if_neg (fun q=>q.2 hn)]
     rw [e,hr] at hv
     rw [e]
     have l8:=hs (jD n1 (val w1)) ((val w2:Nat):Int) (by cases n1<;>simp [jD]<;>omega)
     have d0:decide ((jD n1 (val w1)).sign<0)=true:=ao (by rw [Int.sign_eq_neg_one_of_neg hn];decide)
     refine VP.has h ?_
     simp only [gi,SS,Nat.reduceAdd,ya,ae,qv]
     refine aj hv (by simp [fB]) ?_
     simp only [SS,Nat.reduceAdd,ae,qv]
     refine aj l8 (by simp [fB]) ?_
     simp only [SS,Nat.reduceAdd,d0]
     exact ag▸ab rfl (fZ _ _)
   . unfold Eu
     rw [if_pos ⟨hr,hn⟩]
     have e1:jD n1 (val w1)=((val w1:Nat):Int):=by
       cases n1
       . exact n5 _
       . simp [jD] at hn ⊢;omega
     rw [e,e1,hr] at hv
     rw [e,e1]
     exact hgo _ _ G3 hg Yi Yj hv
 . unfold Eu
   rw [if_neg (fun q=>hr q.1)]
   have Ag:MV n1 w1 n2 w2=false:=by simpa using hr
   rw [Ag] at hv
   refine VP.has h ?_
   simp only [gi,SS,Nat.reduceAdd,Dm,ae,Rs]
   refine aj hv (by simp [eC]) ?_
   simp only [SS,Nat.reduceAdd]
   exact ag▸ab rfl (fZ _ _)
theorem I9 {f fV fS UN fI fE fF fM:FuncId} (h:Has P f (dv fV fS UN fI fE fF fM)) (n1:Bool) (w1:List Nat) (n2:Bool) (w2:List Nat) (uK:Wd w1) (wR:Wd w2) (mU:w1.length<=8) (uI:w2.length<=8)
   (hv:VP P G fV [RR n1 w1 n2 w2] (.bool (MV n1 w1 n2 w2))) (hs:∀ a b:Int,ah a.natAbs<=1000->VP P G fS [RV a b] (.int .i64 a.sign))
   (hgo:∀ a b:Nat,b≠0->Nat.gcd a b=1->ah a<=8->ah b<=8->VP P G fV [RV (a:Int) (b:Int)] (.bool true)->VP P G f [RV (a:Int) (b:Int)] (uv 41 a b)) :
   VP P G f [RR n1 w1 n2 w2] (Eu 41 n1 w1 n2 w2):=by
 have Yi:ah (val w1)<=8:=Nat.le_trans (sX uK) mU
 have Yj:ah (val w2)<=8:=Nat.le_trans (sX wR) uI
 by_cases hr:MV n1 w1 n2 w2=true
 . obtain ⟨e,G3,hg⟩:=RA uK wR hr
   by_cases hn:jD n1 (val w1)<0
   . unfold Eu
     rw [if_neg (fun q=>q.2 hn)]
     rw [e,hr] at hv
     rw [e]
     have l8:=hs (jD n1 (val w1)) ((val w2:Nat):Int) (by cases n1<;>simp [jD]<;>omega)
     have d0:decide ((jD n1 (val w1)).sign<0)=true:=ao (by rw [Int.sign_eq_neg_one_of_neg hn];decide)
     refine VP.has h ?_
     simp only [dv,SS,Nat.reduceAdd,ya,ae,qv]
     refine aj hv (by simp [fB]) ?_
     simp only [SS,Nat.reduceAdd,ae,qv]
     refine aj l8 (by simp [fB]) ?_
     simp only [SS,Nat.reduceAdd,d0]
     exact ag▸ab rfl (fZ _ _)
   . unfold Eu
     rw [if_pos ⟨hr,hn⟩]
     have e1:jD n1 (val w1)=((val w1:Nat):Int):=by
       cases n1
       . exact n5 _
       . simp [jD] at hn ⊢;omega
     rw [e,e1,hr] at hv
     rw [e,e1]
     exact hgo _ _ G3 hg Yi Yj hv
 . unfold Eu
   rw [if_neg (fun q=>hr q.1)]
   have Ag:MV n1 w1 n2 w2=false:=by simpa using hr
   rw [Ag] at hv
   refine VP.has h ?_
   simp only [dv,SS,Nat.reduceAdd,Dm,ae,Rs]
   refine aj hv (by simp [eC]) ?_
   simp only [SS,Nat.reduceAdd]
   exact ag▸ab rfl (fZ _ _)
end
end Go.VL
end

section
set_option linter.unusedVariables false
namespace Go.VL
section
variable {P:Program} {G:Nat->Option (List AV)}
theorem mG {f fw:FuncId} (h:Has P f cy) {a c:List AV} {es:List AV} (hk:∀ e∈es,part false e.cells 0 1=some e) {p:AV->Bool} (hw:∀ e∈es,VP P G fw (a++[e]++c) (.bool (p e)))
   (hp:∀ e∈es,af e) (ha:∀ x∈a,af x) (hc:∀ x∈c,af x) (hl:es.length<9223372036854775807):VP P G f [.sl 1 es, .fn (.func fw) a c] (.int .i64 (x6 (es.findIdx? p))):=by
 refine VP.has h ?_
 simp only [cy,SS,Nat.reduceAdd,aC]
 refine VW.bJ (α := Nat × Nat) (fun x=>⟨[.sl 1 es, .fn (.func fw) a c, .top, .top, .top, .top, .top, .int .i64 es.length, .int .i64 x.1]++List.replicate 10 .top,fun _=>none,x.2⟩) (fun x=>x.1<=es.length/\∀ (j:Nat) e,j<x.1->es[j]? = some e->p e=false) (fun x=>es.length-x.1) (0,4) ?_ ⟨Nat.zero_le _,fun j e hj=>absurd hj (Nat.not_lt_zero j)⟩ ?_
 . exact Wk.slots (by simp [Fg,List.replicate]) (Nat.le_refl _)
 rintro ⟨i,n⟩ ⟨hi,hn⟩
 simp only [] at hi hn
 simp only [SS]
 by_cases hlt:i<es.length
 . have h1:(i:Int)<(es.length:Int):=by omega
   obtain ⟨e,he⟩:∃ e,es[i]? = some e:=⟨es[i],by simp [hlt]⟩
   have hm:=List.mem_of_getElem? he
   simp only [SS,Nat.reduceAdd,h1,decide_true,aQ rfl he,az,hk e hm]
   refine aj (hw e hm) (by
     intro x hx
     simp only [List.mem_append,List.mem_singleton] at hx
     rcases hx with (hx | rfl) | hx
     . exact ha x hx
     . exact hp _ hm
     . exact hc x hx) ?_
   cases RB:p e
   . simp only [SS,Nat.reduceAdd,aq i (by omega)]
     refine ⟨(i+1,_),⟨by simp only [];omega, ?_⟩,by simp only [];omega,Wk.slots (by simp [Fg]) (Nat.le_refl _)⟩
     intro j e' hj xm
     by_cases Ce:j<i
     . exact hn j e' Ce xm
     . have:j=i:=by simp only [] at hj;omega
       subst this;rw [he] at xm;simp only [Option.some.injEq] at xm;subst xm;exact RB
   . simp only [SS,Nat.reduceAdd]
     rw [pG he RB hn]
     exact ag▸ab rfl (af.int _ _)
 . have h1 : ¬ (i:Int)<(es.length:Int):=by omega
   simp only [SS,h1,decide_false]
   rw [pE (fun j e hj=>hn j e (by have:=(List.getElem?_eq_some_iff.1 hj).1;omega) hj)]
   exact ag▸ab rfl (af.int _ _)
theorem ga {f fw:FuncId} (h:Has P f bG) {a c:List AV} {es:List AV} (hk:∀ e∈es,part true e.cells 0 7=some e) {p:AV->Bool} (hw:∀ e∈es,VP P G fw (a++[e]++c) (.bool (p e)))
   (hp:∀ e∈es,af e) (ha:∀ x∈a,af x) (hc:∀ x∈c,af x) (hl:es.length<9223372036854775807):VP P G f [.sl 7 es, .fn (.func fw) a c] (.int .i64 (x6 (es.findIdx? p))):=by
 refine VP.has h ?_
 simp only [bG,SS,Nat.reduceAdd,aC]
 refine VW.bJ (α := Nat × Nat) (fun x=>⟨[.sl 7 es, .fn (.func fw) a c, .top, .top, .top, .top, .top, .int .i64 es.length, .int .i64 x.1]++List.replicate 10 .top,fun _=>none,x.2⟩) (fun x=>x.1<=es.length/\∀ (j:Nat) e,j<x.1->es[j]? = some e->p e=false) (fun x=>es.length-x.1) (0,4) ?_ ⟨Nat.zero_le _,fun j e hj=>absurd hj (Nat.not_lt_zero j)⟩ ?_
 . exact Wk.slots (by simp [Fg,List.replicate]) (Nat.le_refl _)
 rintro ⟨i,n⟩ ⟨hi,hn⟩
 simp only [] at hi hn
 simp only [SS]
 by_cases hlt:i<es.length
 . have h1:(i:Int)<(es.length:Int):=by omega
   obtain ⟨e,he⟩:∃ e,es[i]? = some e:=⟨es[i],by simp [hlt]⟩
   have hm:=List.mem_of_getElem? he
   simp only [SS,Nat.reduceAdd,h1,decide_true,aQ rfl he,az,hk e hm]
   refine aj (hw e hm) (by
     intro x hx
     simp only [List.mem_append,List.mem_singleton] at hx
     rcases hx with (hx | rfl) | hx
     . exact ha x hx
     . exact hp _ hm
     . exact hc x hx) ?_
   cases RB:p e
   . simp only [SS,Nat.reduceAdd,aq i (by omega)]
     refine ⟨(i+1,_),⟨by simp only [];omega, ?_⟩,by simp only [];omega,Wk.slots (by simp [Fg]) (Nat.le_refl _)⟩
     intro j e' hj xm
     by_cases Ce:j<i
     . exact hn j e' Ce xm
     . have:j=i:=by simp only [] at hj;omega
       subst this;rw [he] at xm;simp only [Option.some.injEq] at xm;subst xm;exact RB
   . simp only [SS,Nat.reduceAdd]
     rw [pG he RB hn]
     exact ag▸ab rfl (af.int _ _)
 . have h1 : ¬ (i:Int)<(es.length:Int):=by omega
   simp only [SS,h1,decide_false]
   rw [pE (fun j e hj=>hn j e (by have:=(List.getElem?_eq_some_iff.1 hj).1;omega) hj)]
   exact ag▸ab rfl (af.int _ _)
theorem jx {f fw:FuncId} (h:Has P f bl) {a c:List AV} {es:List AV} (hk:∀ e∈es,part true e.cells 0 5=some e) {p:AV->Bool} (hw:∀ e∈es,VP P G fw (a++[e]++c) (.bool (p e)))
   (hp:∀ e∈es,af e) (ha:∀ x∈a,af x) (hc:∀ x∈c,af x) (hl:es.length<9223372036854775807):VP P G f [.sl 5 es, .fn (.func fw) a c] (.int .i64 (x6 (es.findIdx? p))):=by
 refine VP.has h ?_
 simp only [bl,SS,Nat.reduceAdd,aC]
 refine VW.bJ (α := Nat × Nat) (fun x=>⟨[.sl 5 es, .fn (.func fw) a c, .top, .top, .top, .top, .top, .int .i64 es.length, .int .i64 x.1]++List.replicate 10 .top,fun _=>none,x.2⟩) (fun x=>x.1<=es.length/\∀ (j:Nat) e,j<x.1->es[j]? = some e->p e=false) (fun x=>es.length-x.1) (0,4) ?_ ⟨Nat.zero_le _,fun j e hj=>absurd hj (Nat.not_lt_zero j)⟩ ?_
 . exact Wk.slots (by simp [Fg,List.replicate]) (Nat.le_refl _)
 rintro ⟨i,n⟩ ⟨hi,hn⟩
 simp only [] at hi hn
 simp only [SS]
 by_cases hlt:i<es.length
 . have h1:(i:Int)<(es.length:Int):=by omega
   obtain ⟨e,he⟩:∃ e,es[i]? = some e:=⟨es[i],by simp [hlt]⟩
   have hm:=List.mem_of_getElem? he
   simp only [SS,Nat.reduceAdd,h1,decide_true,aQ rfl he,az,hk e hm]
   refine aj (hw e hm) (by
     intro x hx
     simp only [List.mem_append,List.mem_singleton] at hx
     rcases hx with (hx | rfl) | hx
     . exact ha x hx
     . exact hp _ hm
     . exact hc x hx) ?_
   cases RB:p e
   . simp only [SS,Nat.reduceAdd,aq i (by omega)]
     refine ⟨(i+1,_),⟨by simp only [];omega, ?_⟩,by simp only [];omega,Wk.slots (by simp [Fg]) (Nat.le_refl _)⟩
     intro j e' hj xm
     by_cases Ce:j<i
     . exact hn j e' Ce xm
     . have:j=i:=by simp only [] at hj;omega
       subst this;rw [he] at xm;simp only [Option.some.injEq] at xm;subst xm;exact RB
   . simp only [SS,Nat.reduceAdd]
     rw [pG he RB hn]
     exact ag▸ab rfl (af.int _ _)
 . have h1 : ¬ (i:Int)<(es.length:Int):=by omega
   simp only [SS,h1,decide_false]
   rw [pE (fun j e hj=>hn j e (by have:=(List.getElem?_eq_some_iff.1 hj).1;omega) hj)]
   exact ag▸ab rfl (af.int _ _)
theorem lQ {f fi fw:FuncId} (h:Has P f (cg fi)) {a c:List AV} {es:List AV} {p:AV->Bool} (hi:VP P G fi [.sl 1 es, .fn (.func fw) a c] (.int .i64 (x6 (es.findIdx? p))))
   (hp:af (.sl 1 es)) (F9:af (.fn (.func fw) a c)):VP P G f [.sl 1 es, .fn (.func fw) a c] (.bool (es.any p)):=by
 refine VP.has h ?_
 simp only [cg,SS,Nat.reduceAdd]
 refine aj hi (by intro x hx;simp at hx;rcases hx with rfl | rfl<;>assumption) ?_
 simp only [SS,Nat.reduceAdd]
 have e:decide (0<=x6 (es.findIdx? p))=es.any p:=by
   rw [<- List.findIdx?_isSome]
   cases es.findIdx? p<;>simp [x6]
 rw [e]
 exact ag▸ab rfl (af.bool _)
theorem fj {f fi fw:FuncId} (h:Has P f (bu fi)) {a c:List AV} {es:List AV} {p:AV->Bool} (hi:VP P G fi [.sl 7 es, .fn (.func fw) a c] (.int .i64 (x6 (es.findIdx? p))))
   (hp:af (.sl 7 es)) (F9:af (.fn (.func fw) a c)):VP P G f [.sl 7 es, .fn (.func fw) a c] (.bool (es.any p)):=by
 refine VP.has h ?_
 simp only [bu,SS,Nat.reduceAdd]
 refine aj hi (by intro x hx;simp at hx;rcases hx with rfl | rfl<;>assumption) ?_
 simp only [SS,Nat.reduceAdd]
 have e:decide (0<=x6 (es.findIdx? p))=es.any p:=by
   rw [<- List.findIdx?_isSome]
   cases es.findIdx? p<;>simp [x6]
 rw [e]
 exact ag▸ab rfl (af.bool _)
end
end Go.VL
end

section
set_option linter.unusedVariables false
namespace Go.VL
structure bL where
 name:List UInt8
 kind:Int
 inputs:List (List UInt8)
 values:List AV
 supp:Bool
def strs (l:List (List UInt8)):AV := .sl 1 (l.map .str)
def bL.av (f:bL):AV := .agg [.str f.name, .int .i64 f.kind,strs f.inputs, .sl 7 f.values, .bool f.supp]
def oQ (v:AV):Prop:=∃ cs,v = .agg cs/\cs.length=7/\∀ c∈cs,af c/\c.one=true
structure bL.Ok (f:bL):Prop where
 vals:∀ v∈f.values,oQ v
 ins:f.inputs.length<9223372036854775807
 vl:f.values.length<9223372036854775807
theorem oQ.pure {v:AV} (h:oQ v):af v:=by
 obtain ⟨cs,rfl,_,hc⟩:=h
 exact af.agg fun c h=>(hc c h).1
theorem oQ.part {v:AV} (h:oQ v):part true v.cells 0 7=some v:=by
 obtain ⟨cs,rfl,hl,_⟩:=h
 simp [VL.part,AV.cells,hl]
 rw [<- hl];exact List.take_length
theorem wv:∀ l:List (List UInt8),flat (l.map .str)=l.map .str
 | []=>rfl
 | s::l=>by have:=wv l;simp only [List.map_cons,flat,List.flatMap_cons,AV.cells] at this ⊢;rw [this];rfl
theorem gX (l:List (List UInt8)):af (strs l):=af.sl (by rw [wv];intro c hc;simp at hc;obtain ⟨s,_,rfl⟩:=hc;exact af.str s)
theorem AZ {l:List AV} (h:∀ v∈l,oQ v):af (.sl 7 l):=af.sl (by
 intro c hc
 simp only [flat,List.mem_flatMap] at hc
 obtain ⟨v,hv,hc⟩:=hc
 obtain ⟨cs,rfl,_,hcs⟩:=h v hv
 exact (hcs c hc).1)
theorem bL.Ok.pure {f:bL} (h:f.Ok):af f.av:=af.agg (by
 intro c hc
 simp only [List.mem_cons,List.not_mem_nil,or_false] at hc
 rcases hc with rfl | rfl | rfl | rfl | rfl
 . exact af.str _
 . exact af.int _ _
 . exact gX _
 . exact AZ h.vals
 . exact af.bool _)
theorem bL.one (f:bL):(f.av.cells.all AV.one=true)=True:=by simp [bL.av,AV.cells,AV.one,strs]
theorem bL.p0 (f:bL):part false f.av.cells 0 1=some (.str f.name):=rfl
theorem bL.p1 (f:bL):part false f.av.cells 1 1=some (.int .i64 f.kind):=rfl
theorem bL.p2 (f:bL):part false f.av.cells 2 1=some (strs f.inputs):=rfl
theorem bL.p3 (f:bL):part false f.av.cells 3 1=some (.sl 7 f.values):=rfl
theorem bL.p4 (f:bL):part false f.av.cells 4 1=some (.bool f.supp):=rfl
theorem bL.whole (f:bL):part true f.av.cells 0 5=some f.av:=rfl
theorem bL.size (f:bL):f.av.size=5:=rfl
section
variable {P:Program} {G:Nat->Option (List AV)}
theorem Ov {f:FuncId} (h:Has P f ij) (F:bL) (nm:List UInt8):VP P G f [F.av, .ep [.str nm] 0] (.bool (F.name==nm)):=by
 refine VP.has h ?_
 have e1:part false [AV.str nm] 0 1=some (.str nm):=rfl
 simp only [ij,SS,Nat.reduceAdd,bL.one,ae,bL.p0,az,e1]
 exact ag▸ab rfl (af.bool _)
def MW (l:List bL) (nm:List UInt8):Int:=x6 (l.findIdx? fun F=>F.name==nm)
def RD:AV->List UInt8
 | .agg (.str s::_)=>s
 | _=>[]
theorem findIdx_map (l:List bL) (nm:List UInt8):(l.map bL.av).findIdx? (fun e=>RD e==nm)=l.findIdx? fun F=>F.name==nm:=by
 rw [List.findIdx?_map];rfl
def zw (l:List bL):AV := .sl 5 (l.map bL.av)
theorem KR {l:List bL} (h:∀ F∈l,F.Ok):af (zw l):=af.sl (by
 intro c hc
 simp only [flat,List.mem_flatMap,List.mem_map] at hc
 obtain ⟨v,⟨F,hF,rfl⟩,hc⟩:=hc
 simp only [bL.av,AV.cells,List.mem_cons,List.not_mem_nil,or_false] at hc
 rcases hc with rfl | rfl | rfl | rfl | rfl
 . exact af.str _
 . exact af.int _ _
 . exact gX _
 . exact AZ (h F hF).vals
 . exact af.bool _)
theorem UO {f f1 fi:FuncId} (h:Has P f (gw f1 fi)) (h1:∀ (F:bL) (nm:List UInt8),VP P G f1 [F.av, .ep [.str nm] 0] (.bool (F.name==nm)))
   (hi:Has P fi bl) {l:List bL} (hl:∀ F∈l,F.Ok) (hlen:l.length<9223372036854775807) (nm:List UInt8):VP P G f [zw l, .str nm] (.int .i64 (MW l nm)):=by
 refine VP.has h ?_
 have e0:(AV.cells (.str nm)).all AV.one=true:=rfl
 simp only [gw,SS,Nat.reduceAdd,e0]
 have hc:=jx (G:=G) hi (fw:=f1) (a:=[]) (c:=[.ep [.str nm] 0]) (es:=l.map bL.av) (p:=fun e=>RD e==nm)
   (by intro e he;simp only [List.mem_map] at he;obtain ⟨F,_,rfl⟩:=he;exact F.whole)
   (by intro e he;simp only [List.mem_map] at he;obtain ⟨F,_,rfl⟩:=he;exact h1 F nm)
   (by intro e he;simp only [List.mem_map] at he;obtain ⟨F,hF,rfl⟩:=he;exact (hl F hF).pure)
   (by simp) (by intro x hx;simp at hx;subst hx;exact af.ep (by simp [af.str])) (by simpa using hlen)
 rw [findIdx_map] at hc
 refine iG [([0],⟨[.str nm],1,false⟩)] hc ?_ (b7.int _ _) ?_ ?_
 . refine aW.cons (View.pure (KR hl)) (aW.cons (View.fn aW.nil (aW.cons ?_ aW.nil)) aW.nil)
   exact View.ref (bk:=⟨[.str nm],1,false⟩) rfl rfl (aW.pure (by simp [AV.cells,af.str]))
 . simp [aa.put,AV.size,AV.cells]
 simp only [SS,Nat.reduceAdd]
 exact ag▸ab rfl (af.int _ _)
theorem RE {f fn Y6 v1 Y7 v2:FuncId} (h:Has P f (ki fn Y6 v1 Y7 v2)) (hn:∀ s,VP P G fn [.str s] (.bool (bd s))) (F:bL) (hF:F.Ok) {bi bv:Bool}
   (h1:F.inputs.length<=50->VP P G Y6 [strs F.inputs, .fn (.func v1) [] []] (.bool bi)) (h2:F.values.length<=10->VP P G Y7 [.sl 7 F.values, .fn (.func v2) [] []] (.bool bv)) :
   VP P G f [F.av] (.bool (bd F.name&&decide (1<=F.kind)&&decide (F.kind<=6)&&decide (F.inputs.length<=50)&&decide (F.values.length<=10) && !bi && !bv)):=by
 refine VP.has h ?_
 simp only [ki,SS,Nat.reduceAdd,bL.one,ae,bL.p0]
 refine aj (hn F.name) (by simp [af.str]) ?_
 have e1:jM false (strs F.inputs)=some (.int .i64 F.inputs.length):=by simp [strs,jM]
 have hpf:∀ v:FuncId,af (.fn (.func v) [] []):=fun v=>af.fn (by simp) (by simp)
 cases b1:bd F.name
 . simp only [SS,Nat.reduceAdd,Bool.false_and]
   exact ag▸ab rfl (af.bool _)
 by_cases b2:1<=F.kind
 case neg =>
   simp only [SS,Nat.reduceAdd,Bool.false_and,Bool.and_false,ae,bL.p1,b2,decide_false]
   exact ag▸ab rfl (af.bool _)
 by_cases b3:F.kind<=6
 case neg =>
   simp only [SS,Nat.reduceAdd,Bool.false_and,Bool.and_false,ae,bL.p1,b2,b3,decide_false,decide_true,Bool.true_and]
   exact ag▸ab rfl (af.bool _)
 by_cases b4:F.inputs.length<=50
 case neg =>
   have b4' : ¬ (F.inputs.length:Int)<=50:=by omega
   simp only [SS,Nat.reduceAdd,Bool.false_and,Bool.and_false,ae,bL.p1,bL.p2,e1,b2,b3,b4,b4',decide_false,decide_true,Bool.true_and]
   exact ag▸ab rfl (af.bool _)
 have b4':(F.inputs.length:Int)<=50:=by omega
 by_cases b5:F.values.length<=10
 case neg =>
   have b5' : ¬ (F.values.length:Int)<=10:=by omega
   simp only [SS,Nat.reduceAdd,Bool.false_and,Bool.and_false,ae,bL.p1,bL.p2,bL.p3,e1,b2,b3,b4,b4',b5,b5',decide_false,decide_true,Bool.true_and]
   exact ag▸ab rfl (af.bool _)
 have b5':(F.values.length:Int)<=10:=by omega
 simp only [SS,Nat.reduceAdd,ae,bL.p1,bL.p2,bL.p3,e1,b2,b3,b4,b4',b5,b5',decide_true,Bool.true_and]
 refine aj (h1 b4) (by intro x hx;simp at hx;rcases hx with rfl | rfl;exact gX _;exact hpf _) ?_
 cases bi
 case true =>
   simp only [SS,Nat.reduceAdd,Bool.false_and]
   exact ag▸ab rfl (af.bool _)
 simp only [SS,Nat.reduceAdd,ae,bL.p3]
 refine aj (h2 b5) (by intro x hx;simp at hx;rcases hx with rfl | rfl;exact AZ hF.vals;exact hpf _) ?_
 simp only [SS,Nat.reduceAdd,Bool.true_and]
 exact ag▸ab rfl (af.bool _)
end
end Go.VL
end

section
set_option linter.unusedVariables false
namespace Go.VL
open Go.Lib
inductive EX where
 | mk (op:Int) (n1:Bool) (w1:List Nat) (n2:Bool) (w2:List Nat) (nm:List UInt8) (args:List EX)
theorem EX.induct {C:EX->Prop} (h:∀ op n1 w1 n2 w2 nm args,(∀ x∈args,C x)->C (.mk op n1 w1 n2 w2 nm args)):∀ e,C e:=fun e =>
 EX.rec (motive_1:=C) (motive_2:=fun l=>∀ x∈l,C x) (fun op n1 w1 n2 w2 nm args ih=>h op n1 w1 n2 w2 nm args ih) (by simp) (fun a l ha hl=>by
   intro x hx
   rcases List.mem_cons.1 hx with rfl | hx
   . exact ha
   . exact hl x hx) e
mutual
def EX.av:EX->AV
 | .mk op n1 w1 n2 w2 nm args => .agg [.int .i64 op, .bool n1, .sl 1 (us w1), .bool n2, .sl 1 (us w2), .str nm, .sl 7 (EX.kV args)]
def EX.kV:List EX->List AV
 | []=>[]
 | e::l=>e.av::EX.kV l
end
mutual
def EX.nodes:EX->Nat
 | .mk _ _ _ _ _ _ args=>1+EX.cT args
def EX.cT:List EX->Nat
 | []=>0
 | e::l=>e.nodes+EX.cT l
end
mutual
def EX.depth:EX->Nat
 | .mk _ _ _ _ _ _ args=>EX.fL args+1
def EX.fL:List EX->Nat
 | []=>0
 | e::l=>max e.depth (EX.fL l)
end
def fP (n1:Bool) (w1:List Nat) (n2:Bool) (w2:List Nat):Bool:=w1.isEmpty&&w2.isEmpty && !n1 && !n2
def arity (op:Int):Nat:=if op<=2 then 0 else if op<=3 then 1 else 2
mutual
def EX.formed:EX->Bool
 | .mk op n1 w1 n2 w2 nm args=>decide (1<=op)&&decide (op<=7)&&decide (args.length=arity op) &&
   (if op=1 then oP n1 w1 n2 w2&&(nm.isEmpty||bd nm) else if op=2 then fP n1 w1 n2 w2&&bd nm else fP n1 w1 n2 w2&&nm.isEmpty&&EX.gm args)
def EX.gm:List EX->Bool
 | []=>true
 | e::l=>e.formed&&EX.gm l
end
mutual
def EX.nA:EX->Bool
 | .mk _ _ w1 _ w2 nm args=>EX.GG args&&decide (w1.length<=8)&&decide (w2.length<=8)&&decide (nm.length<=60)
def EX.GG:List EX->Bool
 | []=>true
 | e::l=>e.nA&&EX.GG l
end
mutual
def EX.Ok:EX->Prop
 | .mk op _ w1 _ w2 nm args => -9223372036854775808<=op/\op<9223372036854775808/\Wd w1/\Wd w2/\w1.length<=9223372036854775807/\w2.length<=9223372036854775807/\nm.length<=9223372036854775807/\args.length<=9223372036854775807/\EX.OkL args
def EX.OkL:List EX->Prop
 | []=>True
 | e::l=>e.Ok/\EX.OkL l
end
theorem EX.cF:∀ l,EX.kV l=l.map EX.av
 | []=>rfl
 | e::l=>by rw [EX.kV,EX.cF l];rfl
theorem EX.wx:∀ l,EX.gm l=l.all EX.formed
 | []=>rfl
 | e::l=>by rw [EX.gm,EX.wx l];rfl
theorem EX.ye:∀ l,EX.GG l=l.all EX.nA
 | []=>rfl
 | e::l=>by rw [EX.GG,EX.ye l];rfl
theorem EX.GH:∀ {l},EX.OkL l↔∀ x∈l,EX.Ok x
 | []=>by simp [EX.OkL]
 | e::l=>by rw [EX.OkL,EX.GH (l:=l)];simp
theorem EX.Ow (e:EX):1<=e.nodes:=by cases e;rw [EX.nodes];omega
theorem EX.size (e:EX):e.av.size=7:=by cases e;rw [EX.av];rfl
theorem EX.j8:∀ e:EX,∀ c∈e.av.cells,af c:=EX.induct fun op n1 w1 n2 w2 nm args ih=>by
 rw [EX.av]
 intro c hc
 simp [AV.cells] at hc
 rcases hc with rfl | rfl | rfl | rfl | rfl | rfl | rfl
 . exact af.int _ _
 . exact af.bool _
 . exact kS _
 . exact af.bool _
 . exact kS _
 . exact af.str _
 . refine af.sl ?_
   rw [EX.cF]
   intro c hc
   simp only [flat,List.mem_flatMap,List.mem_map] at hc
   obtain ⟨_,⟨x,hx,rfl⟩,Lq⟩:=hc
   exact ih x hx c Lq
theorem EX.pure (e:EX):af e.av:=by
 have h:=EX.j8 e
 cases e with
 | mk op n1 w1 n2 w2 nm args=>rw [EX.av] at h ⊢;exact af.agg h
theorem EX.eJ (l:List EX):af (.sl 7 (EX.kV l)):=by
 have:=EX.j8 (.mk 0 false [] false [] [] l)
 rw [EX.av] at this
 exact this _ (by simp [AV.cells])
theorem EX.like (e:EX):oQ e.av:=by
 have h:=EX.j8 e
 cases e with
 | mk op n1 w1 n2 w2 nm args =>
   rw [EX.av] at h ⊢
   exact ⟨_,rfl,rfl,fun c hc=>⟨h c hc,by simp at hc;rcases hc with rfl | rfl | rfl | rfl | rfl | rfl | rfl<;>rfl⟩⟩
theorem EX.one (e:EX):(e.av.cells.all AV.one=true)=True:=by cases e;rw [EX.av];simp [AV.cells,AV.one]
theorem EX.all (e:EX):VL.part true e.av.cells 0 7=some e.av:=e.like.part
end Go.VL
end

section
set_option linter.unusedVariables false
namespace Go.VL
theorem KS:∀ {a b:List Nat},us a=us b->a=b
 | [],[],_=>rfl
 | [],b::bs,h=>by simp [us] at h
 | a::al,[],h=>by simp [us] at h
 | a::al,b::bs,h=>by
   simp only [us,List.map_cons,List.cons.injEq,AV.int.injEq,true_and] at h
   rw [KS (a:=al) (b:=bs) h.2,Int.ofNat.inj h.1]
theorem DB {α β : Type} {f : α -> β}:∀ {l l':List α},(∀ x∈l,∀ y,f x=f y->x=y)->l.map f=l'.map f->l=l'
 | [],[],_,_=>rfl
 | [],b::bs,_,h=>by simp at h
 | a::al,[],_,h=>by simp at h
 | a::al,b::bs,hi,h=>by
   simp only [List.map_cons,List.cons.injEq] at h
   rw [hi a (by simp) b h.1,DB (fun x hx=>hi x (by simp [hx])) h.2]
theorem EX.RF:∀ e e':EX,e.av=e'.av->e=e':=EX.induct fun op n1 w1 n2 w2 nm args ih=>fun e' h=>by
 cases e' with
 | mk MX DC Cj DF Ck Pd gv =>
   rw [EX.av,EX.av] at h
   simp only [AV.agg.injEq,List.cons.injEq,AV.int.injEq,AV.bool.injEq,AV.sl.injEq,AV.str.injEq,true_and,and_true] at h
   obtain ⟨h1,h2,h3,h4,h5,h6,h7⟩:=h
   rw [EX.cF,EX.cF] at h7
   rw [h1,h2,KS h3,h4,KS h5,h6,DB ih h7]
noncomputable def RG (v:AV):Bool := @decide (∃ e:EX,e.av=v/\e.formed=false) (Classical.propDecidable _)
theorem Ja (e:EX):RG e.av = !e.formed:=by
 unfold RG
 cases h:e.formed
 . exact @decide_eq_true _ (Classical.propDecidable _) ⟨e,rfl,h⟩
 . refine @decide_eq_false _ (Classical.propDecidable _) ?_
   rintro ⟨e',h1,h2⟩
   rw [EX.RF _ _ h1] at h2
   rw [h] at h2;cases h2
section
variable (op:Int) (n1:Bool) (w1:List Nat) (n2:Bool) (w2:List Nat) (nm:List UInt8) (args:List EX)
theorem EX.q0:part false (EX.mk op n1 w1 n2 w2 nm args).av.cells 0 1=some (.int .i64 op):=by rw [EX.av];rfl
theorem EX.q1:part true (EX.mk op n1 w1 n2 w2 nm args).av.cells 1 4=some (RR n1 w1 n2 w2):=by rw [EX.av];rfl
theorem EX.q5:part false (EX.mk op n1 w1 n2 w2 nm args).av.cells 5 1=some (.str nm):=by rw [EX.av];rfl
theorem EX.q6:part false (EX.mk op n1 w1 n2 w2 nm args).av.cells 6 1=some (.sl 7 (EX.kV args)):=by rw [EX.av];rfl
theorem EX.l6:jM false (.sl 7 (EX.kV args))=some (.int .i64 (args.length:Int)):=by rw [EX.cF];simp [jM]
theorem aba:part false (RR n1 w1 n2 w2).cells 0 1=some (.bool n1):=rfl
theorem abb:part false (RR n1 w1 n2 w2).cells 1 1=some (.sl 1 (us w1)):=rfl
theorem abc:part false (RR n1 w1 n2 w2).cells 2 1=some (.bool n2):=rfl
theorem abd:part false (RR n1 w1 n2 w2).cells 3 1=some (.sl 1 (us w2)):=rfl
end
section
variable {P:Program} {G:Nat->Option (List AV)}
theorem UQ {f:FuncId} (h:Has P f pU) (n1:Bool) (w1:List Nat) (n2:Bool) (w2:List Nat):VP P G f [RR n1 w1 n2 w2] (.bool (fP n1 w1 n2 w2)):=by
 refine VP.has h ?_
 have hlen:∀ ws,jM false (.sl 1 (us ws))=some (.int .i64 ws.length):=fun ws=>by simp [jM,dD]
 have d1:decide ((w1.length:Int)=0)=w1.isEmpty:=by cases w1<;>simp<;>omega
 have d2:decide ((w2.length:Int)=0)=w2.isEmpty:=by cases w2<;>simp<;>omega
 unfold fP
 cases b1:w1.isEmpty<;>cases b2:w2.isEmpty<;>cases n1<;>cases n2 <;>
 . rw [b1] at d1;rw [b2] at d2
   simp only [pU,SS,Nat.reduceAdd,Dm,ae,aba,abb,abc,abd,hlen,d1,d2,Bool.and_false,Bool.and_true]
   exact ag▸ab rfl (af.bool _)
theorem KT {f ff:FuncId} (h:Has P f (jP ff)) (e:EX) (hf:VP P G ff [e.av] (.bool e.formed)):VP P G f [e.av] (.bool (!e.formed)):=by
 refine VP.has h ?_
 simp only [jP,SS,Nat.reduceAdd,EX.one,ae,EX.all]
 refine aj hf (by simp [EX.pure]) ?_
 simp only [SS,Nat.reduceAdd]
 exact ag▸ab rfl (af.bool _)
def bW:List AV:=[.int .i64 0, .int .i64 0, .int .i64 0, .int .i64 1, .int .i64 2, .int .i64 2, .int .i64 2, .int .i64 2]
theorem Ox {f fd fn jy fc f1:FuncId} {g0:Nat} (h:Has P f (aN fd fn jy fc f1 g0)) (op:Int) (n1:Bool) (w1:List Nat) (n2:Bool) (w2:List Nat) (nm:List UInt8) (args:List EX) (o1:op<1) :
   VP P G f [(EX.mk op n1 w1 n2 w2 nm args).av] (.bool false):=by
 refine VP.has h ?_
 have e1:decide (op<1)=true:=ao o1
 simp only [aN,SS,DD,Nat.reduceAdd,EX.one,ae,EX.q0,e1]
 refine ⟨by simp [ar,apart], ?_⟩
 exact ag▸ab rfl (af.bool _)
theorem Oy {f fd fn jy fc f1:FuncId} {g0:Nat} (h:Has P f (aN fd fn jy fc f1 g0)) (op:Int) (n1:Bool) (w1:List Nat) (n2:Bool) (w2:List Nat) (nm:List UInt8) (args:List EX) (o7:7<op) :
   VP P G f [(EX.mk op n1 w1 n2 w2 nm args).av] (.bool false):=by
 refine VP.has h ?_
 have e1:decide (op<1)=false:=ak (by omega)
 have e2:decide (7<op)=true:=ao o7
 simp only [aN,SS,DD,Nat.reduceAdd,EX.one,ae,EX.q0,e1,e2]
 refine ⟨by simp [ar,apart], ?_⟩
 exact ag▸ab rfl (af.bool _)
theorem si {t:List AV} {g:Nat} {cs:List AV} (h:G g=some cs):aT.ev G t (.g g) = .ep cs 0:=by simp [aT.ev,h]
theorem EX.a6 (args:List EX):(EX.kV args).length=args.length:=by rw [EX.cF,List.length_map]
theorem RH:ig 8 1 (.ep bW 0) (.int .i64 1)=some (.ep bW 1):=by simp [ig]
theorem RI (σ : aa):gh σ false 1 (.ep bW 1)=some { val := .int .i64 0 }:=rfl
theorem RJ:ig 8 1 (.ep bW 0) (.int .i64 2)=some (.ep bW 2):=by simp [ig]
theorem RL (σ : aa):gh σ false 1 (.ep bW 2)=some { val := .int .i64 0 }:=rfl
theorem RM:ig 8 1 (.ep bW 0) (.int .i64 3)=some (.ep bW 3):=by simp [ig]
theorem RN (σ : aa):gh σ false 1 (.ep bW 3)=some { val := .int .i64 1 }:=rfl
theorem RO:ig 8 1 (.ep bW 0) (.int .i64 4)=some (.ep bW 4):=by simp [ig]
theorem RP (σ : aa):gh σ false 1 (.ep bW 4)=some { val := .int .i64 2 }:=rfl
theorem RQ:ig 8 1 (.ep bW 0) (.int .i64 5)=some (.ep bW 5):=by simp [ig]
theorem RT (σ : aa):gh σ false 1 (.ep bW 5)=some { val := .int .i64 2 }:=rfl
theorem RU:ig 8 1 (.ep bW 0) (.int .i64 6)=some (.ep bW 6):=by simp [ig]
theorem RW (σ : aa):gh σ false 1 (.ep bW 6)=some { val := .int .i64 2 }:=rfl
theorem RX:ig 8 1 (.ep bW 0) (.int .i64 7)=some (.ep bW 7):=by simp [ig]
theorem RY (σ : aa):gh σ false 1 (.ep bW 7)=some { val := .int .i64 2 }:=rfl
theorem ux {α : Type} {a b : α}:[a,b][0]? = some a:=rfl
theorem uy {α : Type} {a b : α}:[a,b][1]? = some b:=rfl
theorem gK (nm:List UInt8):(nm==([]:List UInt8))=nm.isEmpty:=by cases nm<;>rfl
theorem kq (v:FuncId):af (.fn (.func v) [] []):=af.fn (by simp) (by simp)
theorem RZ {f fd fn jy fc f1:FuncId} {g0:Nat} (h:Has P f (aN fd fn jy fc f1 g0)) (hG:G g0=some bW)
   (n1:Bool) (w1:List Nat) (n2:Bool) (w2:List Nat) (nm:List UInt8) (args:List EX)
   (hd:∃ s,VP P G fd [RR n1 w1 n2 w2] (.tup [.str s, .bool (oP n1 w1 n2 w2)])) (hn:VP P G fn [.str nm] (.bool (bd nm))) (hno:VP P G jy [RR n1 w1 n2 w2] (.bool (fP n1 w1 n2 w2)))
   (hc:VP P G fc [.sl 7 (EX.kV args), .fn (.func f1) [] []] (.bool (!EX.gm args))) :
   VP P G f [(EX.mk 1 n1 w1 n2 w2 nm args).av] (.bool (decide (args.length=0)&&(oP n1 w1 n2 w2&&(or nm.isEmpty (bd nm))))):=by
 have a1:decide ((1:Int)<1)=false:=rfl
 have a2:decide ((7:Int)<1)=false:=rfl
 have a3:decide ((1:Int)=1)=decide (1=1):=rfl
 have a4:decide ((1:Int)=2)=decide (1=2):=rfl
 obtain ⟨s,hd⟩:=hd
 by_cases hl:args.length=0
 case neg =>
   have d2:decide ((args.length:Int)≠0)=true:=ao (by omega)
   have d3:decide (args.length=0)=false:=ak hl
   refine VP.has h ?_
   simp only [aN,SS,DD,Nat.reduceAdd,EX.one,ae,EX.q0,EX.q6,a1,a2,si hG,EX.a6,RH,RI,d2,d3,Bool.false_and]
   refine ⟨by simp [ar,apart], ?_⟩
   exact ag▸ab rfl (af.bool _)
 have d2:decide ((args.length:Int)≠0)=false:=ak (by omega)
 have d3:decide (args.length=0)=true:=ao hl
 rw [d3]
 cases b1:oP n1 w1 n2 w2<;>cases b2:nm.isEmpty<;>cases b3:bd nm <;>
 . rw [b1] at hd
   rw [b3] at hn
   refine VP.has h ?_
   simp only [aN,SS,DD,Nat.reduceAdd,EX.one,ae,EX.q0,EX.q1,EX.q6,a1,a2,si hG,EX.a6,RH,RI,d2,decide_true,Bool.and_true,Bool.and_false,Bool.or_true,Bool.or_false]
   refine ⟨by simp [ar,apart], ?_⟩
   try simp only [SS,DD,Nat.reduceAdd,reduceIte,Nat.reduceEqDiff,EX.one,ae,EX.q0,EX.q1,EX.q5,EX.q6,EX.l6,a1,a2,a3,a4,si hG,EX.a6,RH,RI,d2,decide_true,decide_false,Bool.true_and,Bool.false_and]
   first
   | refine aj hd (by simp [eC]) ?_
   | refine aj hno (by simp [eC]) ?_
   simp only [SS,Nat.reduceAdd,ae,EX.q5,ux,uy,gK,b2]
   first
   | exact ag▸ab rfl (af.bool _)
   | (refine aj hn (by simp [af.str]) ?_
      simp only [SS,Nat.reduceAdd]
      exact ag▸ab rfl (af.bool _))
   | (refine aj hc (by intro x hx;simp at hx;rcases hx with rfl | rfl;exact EX.eJ _;exact kq _) ?_
      simp only [SS,DD,Nat.reduceAdd,reduceIte,Nat.reduceEqDiff,Bool.not_not]
      exact ag▸ab rfl (af.bool _))
theorem R1 {f fd fn jy fc f1:FuncId} {g0:Nat} (h:Has P f (aN fd fn jy fc f1 g0)) (hG:G g0=some bW)
   (n1:Bool) (w1:List Nat) (n2:Bool) (w2:List Nat) (nm:List UInt8) (args:List EX)
   (hd:∃ s,VP P G fd [RR n1 w1 n2 w2] (.tup [.str s, .bool (oP n1 w1 n2 w2)])) (hn:VP P G fn [.str nm] (.bool (bd nm))) (hno:VP P G jy [RR n1 w1 n2 w2] (.bool (fP n1 w1 n2 w2)))
   (hc:VP P G fc [.sl 7 (EX.kV args), .fn (.func f1) [] []] (.bool (!EX.gm args))) :
   VP P G f [(EX.mk 2 n1 w1 n2 w2 nm args).av] (.bool (decide (args.length=0)&&(fP n1 w1 n2 w2&&bd nm))):=by
 have a1:decide ((2:Int)<1)=false:=rfl
 have a2:decide ((7:Int)<2)=false:=rfl
 have a3:decide ((2:Int)=1)=decide (2=1):=rfl
 have a4:decide ((2:Int)=2)=decide (2=2):=rfl
 obtain ⟨s,hd⟩:=hd
 by_cases hl:args.length=0
 case neg =>
   have d2:decide ((args.length:Int)≠0)=true:=ao (by omega)
   have d3:decide (args.length=0)=false:=ak hl
   refine VP.has h ?_
   simp only [aN,SS,DD,Nat.reduceAdd,EX.one,ae,EX.q0,EX.q6,a1,a2,si hG,EX.a6,RJ,RL,d2,d3,Bool.false_and]
   refine ⟨by simp [ar,apart], ?_⟩
   exact ag▸ab rfl (af.bool _)
 have d2:decide ((args.length:Int)≠0)=false:=ak (by omega)
 have d3:decide (args.length=0)=true:=ao hl
 rw [d3]
 cases b3:bd nm<;>cases b4:fP n1 w1 n2 w2 <;>
 . rw [b3] at hn
   rw [b4] at hno
   refine VP.has h ?_
   simp only [aN,SS,DD,Nat.reduceAdd,Nat.reduceEqDiff,EX.one,ae,EX.q0,EX.q1,EX.q6,a1,a2,a3,si hG,EX.a6,RJ,RL,d2,decide_true,decide_false,Bool.and_true,Bool.and_false]
   refine ⟨by simp [ar,apart], ?_⟩
   try simp only [SS,DD,Nat.reduceAdd,reduceIte,Nat.reduceEqDiff,EX.one,ae,EX.q0,EX.q1,EX.q5,EX.q6,EX.l6,a1,a2,a3,a4,si hG,EX.a6,RJ,RL,d2,decide_true,decide_false,Bool.true_and,Bool.false_and]
   first
   | refine aj hd (by simp [eC]) ?_
   | refine aj hno (by simp [eC]) ?_
   simp only [SS,Nat.reduceAdd,ae,EX.q5]
   first
   | exact ag▸ab rfl (af.bool _)
   | (refine aj hn (by simp [af.str]) ?_
      simp only [SS,Nat.reduceAdd]
      exact ag▸ab rfl (af.bool _))
   | (refine aj hc (by intro x hx;simp at hx;rcases hx with rfl | rfl;exact EX.eJ _;exact kq _) ?_
      simp only [SS,DD,Nat.reduceAdd,reduceIte,Nat.reduceEqDiff,Bool.not_not]
      exact ag▸ab rfl (af.bool _))
theorem R2 {f fd fn jy fc f1:FuncId} {g0:Nat} (h:Has P f (aN fd fn jy fc f1 g0)) (hG:G g0=some bW)
   (n1:Bool) (w1:List Nat) (n2:Bool) (w2:List Nat) (nm:List UInt8) (args:List EX)
   (hd:∃ s,VP P G fd [RR n1 w1 n2 w2] (.tup [.str s, .bool (oP n1 w1 n2 w2)])) (hn:VP P G fn [.str nm] (.bool (bd nm))) (hno:VP P G jy [RR n1 w1 n2 w2] (.bool (fP n1 w1 n2 w2)))
   (hc:VP P G fc [.sl 7 (EX.kV args), .fn (.func f1) [] []] (.bool (!EX.gm args))) :
   VP P G f [(EX.mk 3 n1 w1 n2 w2 nm args).av] (.bool (decide (args.length=1)&&(fP n1 w1 n2 w2&&nm.isEmpty&&EX.gm args))):=by
 have a1:decide ((3:Int)<1)=false:=rfl
 have a2:decide ((7:Int)<3)=false:=rfl
 have a3:decide ((3:Int)=1)=decide (3=1):=rfl
 have a4:decide ((3:Int)=2)=decide (3=2):=rfl
 obtain ⟨s,hd⟩:=hd
 by_cases hl:args.length=1
 case neg =>
   have d2:decide ((args.length:Int)≠1)=true:=ao (by omega)
   have d3:decide (args.length=1)=false:=ak hl
   refine VP.has h ?_
   simp only [aN,SS,DD,Nat.reduceAdd,EX.one,ae,EX.q0,EX.q6,a1,a2,si hG,EX.a6,RM,RN,d2,d3,Bool.false_and]
   refine ⟨by simp [ar,apart], ?_⟩
   exact ag▸ab rfl (af.bool _)
 have d2:decide ((args.length:Int)≠1)=false:=ak (by omega)
 have d3:decide (args.length=1)=true:=ao hl
 rw [d3]
 cases b2:nm.isEmpty<;>cases b4:fP n1 w1 n2 w2 <;>
 . rw [b4] at hno
   refine VP.has h ?_
   simp only [aN,SS,DD,Nat.reduceAdd,Nat.reduceEqDiff,EX.one,ae,EX.q0,EX.q1,EX.q6,a1,a2,a3,a4,si hG,EX.a6,RM,RN,d2,decide_false,Bool.true_and,Bool.false_and,Bool.and_true,Bool.and_false]
   refine ⟨by simp [ar,apart], ?_⟩
   try simp only [SS,DD,Nat.reduceAdd,reduceIte,Nat.reduceEqDiff,EX.one,ae,EX.q0,EX.q1,EX.q5,EX.q6,EX.l6,a1,a2,a3,a4,si hG,EX.a6,RM,RN,d2,decide_true,decide_false,Bool.true_and,Bool.false_and]
   first
   | refine aj hd (by simp [eC]) ?_
   | refine aj hno (by simp [eC]) ?_
   simp only [SS,Nat.reduceAdd,ae,EX.q5,EX.q6,gK,b2]
   first
   | exact ag▸ab rfl (af.bool _)
   | (refine aj hn (by simp [af.str]) ?_
      simp only [SS,DD,Nat.reduceAdd,reduceIte,Nat.reduceEqDiff]
      exact ag▸ab rfl (af.bool _))
   | (refine aj hc (by intro x hx;simp at hx;rcases hx with rfl | rfl;exact EX.eJ _;exact kq _) ?_
      simp only [SS,Nat.reduceAdd,Bool.not_not]
      exact ag▸ab rfl (af.bool _))
theorem R3 {f fd fn jy fc f1:FuncId} {g0:Nat} (h:Has P f (aN fd fn jy fc f1 g0)) (hG:G g0=some bW)
   (n1:Bool) (w1:List Nat) (n2:Bool) (w2:List Nat) (nm:List UInt8) (args:List EX)
   (hd:∃ s,VP P G fd [RR n1 w1 n2 w2] (.tup [.str s, .bool (oP n1 w1 n2 w2)])) (hn:VP P G fn [.str nm] (.bool (bd nm))) (hno:VP P G jy [RR n1 w1 n2 w2] (.bool (fP n1 w1 n2 w2)))
   (hc:VP P G fc [.sl 7 (EX.kV args), .fn (.func f1) [] []] (.bool (!EX.gm args))) :
   VP P G f [(EX.mk 4 n1 w1 n2 w2 nm args).av] (.bool (decide (args.length=2)&&(fP n1 w1 n2 w2&&nm.isEmpty&&EX.gm args))):=by
 have a1:decide ((4:Int)<1)=false:=rfl
 have a2:decide ((7:Int)<4)=false:=rfl
 have a3:decide ((4:Int)=1)=decide (4=1):=rfl
 have a4:decide ((4:Int)=2)=decide (4=2):=rfl
 obtain ⟨s,hd⟩:=hd
 by_cases hl:args.length=2
 case neg =>
   have d2:decide ((args.length:Int)≠2)=true:=ao (by omega)
   have d3:decide (args.length=2)=false:=ak hl
   refine VP.has h ?_
   simp only [aN,SS,DD,Nat.reduceAdd,EX.one,ae,EX.q0,EX.q6,a1,a2,si hG,EX.a6,RO,RP,d2,d3,Bool.false_and]
   refine ⟨by simp [ar,apart], ?_⟩
   exact ag▸ab rfl (af.bool _)
 have d2:decide ((args.length:Int)≠2)=false:=ak (by omega)
 have d3:decide (args.length=2)=true:=ao hl
 rw [d3]
 cases b2:nm.isEmpty<;>cases b4:fP n1 w1 n2 w2 <;>
 . rw [b4] at hno
   refine VP.has h ?_
   simp only [aN,SS,DD,Nat.reduceAdd,Nat.reduceEqDiff,EX.one,ae,EX.q0,EX.q1,EX.q6,a1,a2,a3,a4,si hG,EX.a6,RO,RP,d2,decide_false,Bool.true_and,Bool.false_and,Bool.and_true,Bool.and_false]
   refine ⟨by simp [ar,apart], ?_⟩
   try simp only [SS,DD,Nat.reduceAdd,reduceIte,Nat.reduceEqDiff,EX.one,ae,EX.q0,EX.q1,EX.q5,EX.q6,EX.l6,a1,a2,a3,a4,si hG,EX.a6,RO,RP,d2,decide_true,decide_false,Bool.true_and,Bool.false_and]
   first
   | refine aj hd (by simp [eC]) ?_
   | refine aj hno (by simp [eC]) ?_
   simp only [SS,Nat.reduceAdd,ae,EX.q5,EX.q6,gK,b2]
   first
   | exact ag▸ab rfl (af.bool _)
   | (refine aj hn (by simp [af.str]) ?_
      simp only [SS,DD,Nat.reduceAdd,reduceIte,Nat.reduceEqDiff]
      exact ag▸ab rfl (af.bool _))
   | (refine aj hc (by intro x hx;simp at hx;rcases hx with rfl | rfl;exact EX.eJ _;exact kq _) ?_
      simp only [SS,Nat.reduceAdd,Bool.not_not]
      exact ag▸ab rfl (af.bool _))
theorem R4 {f fd fn jy fc f1:FuncId} {g0:Nat} (h:Has P f (aN fd fn jy fc f1 g0)) (hG:G g0=some bW)
   (n1:Bool) (w1:List Nat) (n2:Bool) (w2:List Nat) (nm:List UInt8) (args:List EX)
   (hd:∃ s,VP P G fd [RR n1 w1 n2 w2] (.tup [.str s, .bool (oP n1 w1 n2 w2)])) (hn:VP P G fn [.str nm] (.bool (bd nm))) (hno:VP P G jy [RR n1 w1 n2 w2] (.bool (fP n1 w1 n2 w2)))
   (hc:VP P G fc [.sl 7 (EX.kV args), .fn (.func f1) [] []] (.bool (!EX.gm args))) :
   VP P G f [(EX.mk 5 n1 w1 n2 w2 nm args).av] (.bool (decide (args.length=2)&&(fP n1 w1 n2 w2&&nm.isEmpty&&EX.gm args))):=by
 have a1:decide ((5:Int)<1)=false:=rfl
 have a2:decide ((7:Int)<5)=false:=rfl
 have a3:decide ((5:Int)=1)=decide (5=1):=rfl
 have a4:decide ((5:Int)=2)=decide (5=2):=rfl
 obtain ⟨s,hd⟩:=hd
 by_cases hl:args.length=2
 case neg =>
   have d2:decide ((args.length:Int)≠2)=true:=ao (by omega)
   have d3:decide (args.length=2)=false:=ak hl
   refine VP.has h ?_
   simp only [aN,SS,DD,Nat.reduceAdd,EX.one,ae,EX.q0,EX.q6,a1,a2,si hG,EX.a6,RQ,RT,d2,d3,Bool.false_and]
   refine ⟨by simp [ar,apart], ?_⟩
   exact ag▸ab rfl (af.bool _)
 have d2:decide ((args.length:Int)≠2)=false:=ak (by omega)
 have d3:decide (args.length=2)=true:=ao hl
 rw [d3]
 cases b2:nm.isEmpty<;>cases b4:fP n1 w1 n2 w2 <;>
 . rw [b4] at hno
   refine VP.has h ?_
   simp only [aN,SS,DD,Nat.reduceAdd,Nat.reduceEqDiff,EX.one,ae,EX.q0,EX.q1,EX.q6,a1,a2,a3,a4,si hG,EX.a6,RQ,RT,d2,decide_false,Bool.true_and,Bool.false_and,Bool.and_true,Bool.and_false]
   refine ⟨by simp [ar,apart], ?_⟩
   try simp only [SS,DD,Nat.reduceAdd,reduceIte,Nat.reduceEqDiff,EX.one,ae,EX.q0,EX.q1,EX.q5,EX.q6,EX.l6,a1,a2,a3,a4,si hG,EX.a6,RQ,RT,d2,decide_true,decide_false,Bool.true_and,Bool.false_and]
   first
   | refine aj hd (by simp [eC]) ?_
   | refine aj hno (by simp [eC]) ?_
   simp only [SS,Nat.reduceAdd,ae,EX.q5,EX.q6,gK,b2]
   first
   | exact ag▸ab rfl (af.bool _)
   | (refine aj hn (by simp [af.str]) ?_
      simp only [SS,DD,Nat.reduceAdd,reduceIte,Nat.reduceEqDiff]
      exact ag▸ab rfl (af.bool _))
   | (refine aj hc (by intro x hx;simp at hx;rcases hx with rfl | rfl;exact EX.eJ _;exact kq _) ?_
      simp only [SS,Nat.reduceAdd,Bool.not_not]
      exact ag▸ab rfl (af.bool _))
theorem R5 {f fd fn jy fc f1:FuncId} {g0:Nat} (h:Has P f (aN fd fn jy fc f1 g0)) (hG:G g0=some bW)
   (n1:Bool) (w1:List Nat) (n2:Bool) (w2:List Nat) (nm:List UInt8) (args:List EX)
   (hd:∃ s,VP P G fd [RR n1 w1 n2 w2] (.tup [.str s, .bool (oP n1 w1 n2 w2)])) (hn:VP P G fn [.str nm] (.bool (bd nm))) (hno:VP P G jy [RR n1 w1 n2 w2] (.bool (fP n1 w1 n2 w2)))
   (hc:VP P G fc [.sl 7 (EX.kV args), .fn (.func f1) [] []] (.bool (!EX.gm args))) :
   VP P G f [(EX.mk 6 n1 w1 n2 w2 nm args).av] (.bool (decide (args.length=2)&&(fP n1 w1 n2 w2&&nm.isEmpty&&EX.gm args))):=by
 have a1:decide ((6:Int)<1)=false:=rfl
 have a2:decide ((7:Int)<6)=false:=rfl
 have a3:decide ((6:Int)=1)=decide (6=1):=rfl
 have a4:decide ((6:Int)=2)=decide (6=2):=rfl
 obtain ⟨s,hd⟩:=hd
 by_cases hl:args.length=2
 case neg =>
   have d2:decide ((args.length:Int)≠2)=true:=ao (by omega)
   have d3:decide (args.length=2)=false:=ak hl
   refine VP.has h ?_
   simp only [aN,SS,DD,Nat.reduceAdd,EX.one,ae,EX.q0,EX.q6,a1,a2,si hG,EX.a6,RU,RW,d2,d3,Bool.false_and]
   refine ⟨by simp [ar,apart], ?_⟩
   exact ag▸ab rfl (af.bool _)
 have d2:decide ((args.length:Int)≠2)=false:=ak (by omega)
 have d3:decide (args.length=2)=true:=ao hl
 rw [d3]
 cases b2:nm.isEmpty<;>cases b4:fP n1 w1 n2 w2 <;>
 . rw [b4] at hno
   refine VP.has h ?_
   simp only [aN,SS,DD,Nat.reduceAdd,Nat.reduceEqDiff,EX.one,ae,EX.q0,EX.q1,EX.q6,a1,a2,a3,a4,si hG,EX.a6,RU,RW,d2,decide_false,Bool.true_and,Bool.false_and,Bool.and_true,Bool.and_false]
   refine ⟨by simp [ar,apart], ?_⟩
   try simp only [SS,DD,Nat.reduceAdd,reduceIte,Nat.reduceEqDiff,EX.one,ae,EX.q0,EX.q1,EX.q5,EX.q6,EX.l6,a1,a2,a3,a4,si hG,EX.a6,RU,RW,d2,decide_true,decide_false,Bool.true_and,Bool.false_and]
   first
   | refine aj hd (by simp [eC]) ?_
   | refine aj hno (by simp [eC]) ?_
   simp only [SS,Nat.reduceAdd,ae,EX.q5,EX.q6,gK,b2]
   first
   | exact ag▸ab rfl (af.bool _)
   | (refine aj hn (by simp [af.str]) ?_
      simp only [SS,DD,Nat.reduceAdd,reduceIte,Nat.reduceEqDiff]
      exact ag▸ab rfl (af.bool _))
   | (refine aj hc (by intro x hx;simp at hx;rcases hx with rfl | rfl;exact EX.eJ _;exact kq _) ?_
      simp only [SS,Nat.reduceAdd,Bool.not_not]
      exact ag▸ab rfl (af.bool _))
theorem R6 {f fd fn jy fc f1:FuncId} {g0:Nat} (h:Has P f (aN fd fn jy fc f1 g0)) (hG:G g0=some bW)
   (n1:Bool) (w1:List Nat) (n2:Bool) (w2:List Nat) (nm:List UInt8) (args:List EX)
   (hd:∃ s,VP P G fd [RR n1 w1 n2 w2] (.tup [.str s, .bool (oP n1 w1 n2 w2)])) (hn:VP P G fn [.str nm] (.bool (bd nm))) (hno:VP P G jy [RR n1 w1 n2 w2] (.bool (fP n1 w1 n2 w2)))
   (hc:VP P G fc [.sl 7 (EX.kV args), .fn (.func f1) [] []] (.bool (!EX.gm args))) :
   VP P G f [(EX.mk 7 n1 w1 n2 w2 nm args).av] (.bool (decide (args.length=2)&&(fP n1 w1 n2 w2&&nm.isEmpty&&EX.gm args))):=by
 have a1:decide ((7:Int)<1)=false:=rfl
 have a2:decide ((7:Int)<7)=false:=rfl
 have a3:decide ((7:Int)=1)=decide (7=1):=rfl
 have a4:decide ((7:Int)=2)=decide (7=2):=rfl
 obtain ⟨s,hd⟩:=hd
 by_cases hl:args.length=2
 case neg =>
   have d2:decide ((args.length:Int)≠2)=true:=ao (by omega)
   have d3:decide (args.length=2)=false:=ak hl
   refine VP.has h ?_
   simp only [aN,SS,DD,Nat.reduceAdd,EX.one,ae,EX.q0,EX.q6,a1,a2,si hG,EX.a6,RX,RY,d2,d3,Bool.false_and]
   refine ⟨by simp [ar,apart], ?_⟩
   exact ag▸ab rfl (af.bool _)
 have d2:decide ((args.length:Int)≠2)=false:=ak (by omega)
 have d3:decide (args.length=2)=true:=ao hl
 rw [d3]
 cases b2:nm.isEmpty<;>cases b4:fP n1 w1 n2 w2 <;>
 . rw [b4] at hno
   refine VP.has h ?_
   simp only [aN,SS,DD,Nat.reduceAdd,Nat.reduceEqDiff,EX.one,ae,EX.q0,EX.q1,EX.q6,a1,a2,a3,a4,si hG,EX.a6,RX,RY,d2,decide_false,Bool.true_and,Bool.false_and,Bool.and_true,Bool.and_false]
   refine ⟨by simp [ar,apart], ?_⟩
   try simp only [SS,DD,Nat.reduceAdd,reduceIte,Nat.reduceEqDiff,EX.one,ae,EX.q0,EX.q1,EX.q5,EX.q6,EX.l6,a1,a2,a3,a4,si hG,EX.a6,RX,RY,d2,decide_true,decide_false,Bool.true_and,Bool.false_and]
   first
   | refine aj hd (by simp [eC]) ?_
   | refine aj hno (by simp [eC]) ?_
   simp only [SS,Nat.reduceAdd,ae,EX.q5,EX.q6,gK,b2]
   first
   | exact ag▸ab rfl (af.bool _)
   | (refine aj hn (by simp [af.str]) ?_
      simp only [SS,DD,Nat.reduceAdd,reduceIte,Nat.reduceEqDiff]
      exact ag▸ab rfl (af.bool _))
   | (refine aj hc (by intro x hx;simp at hx;rcases hx with rfl | rfl;exact EX.eJ _;exact kq _) ?_
      simp only [SS,Nat.reduceAdd,Bool.not_not]
      exact ag▸ab rfl (af.bool _))
end
end Go.VL
end

section
set_option linter.unusedVariables false
namespace Go.VL
theorem UR (args:List EX):(EX.kV args).any RG = !EX.gm args:=by
 rw [EX.cF,EX.wx]
 induction args with
 | nil=>rfl
 | cons a l ih=>simp only [List.map_cons,List.any_cons,List.all_cons,Ja,ih,Bool.not_and]
theorem EX.DG:∀ l:List EX,l.length<=EX.cT l
 | []=>Nat.le_refl _
 | e::l=>by rw [EX.cT,List.length_cons];have:=EX.Ow e;have:=EX.DG l;omega
theorem EX.sZ {x:EX}:∀ {l:List EX},x∈l->x.nodes<=EX.cT l
 | e::l,h=>by
   rw [EX.cT]
   rcases List.mem_cons.1 h with rfl | h
   . omega
   . have:=EX.sZ h;omega
theorem EX.Jb:∀ e:EX,e.depth<=e.nodes:=EX.induct fun op n1 w1 n2 w2 nm args ih=>by
 rw [EX.depth,EX.nodes]
 suffices h:EX.fL args<=EX.cT args by omega
 induction args with
 | nil=>exact Nat.le_refl _
 | cons a l ihl =>
   rw [EX.fL,EX.cT]
   have h1:=ih a (by simp)
   have h2:=ihl fun x hx=>ih x (by simp [hx])
   omega
theorem EX.wy (x:EX):∀ l,EX.fL (l++[x])=max (EX.fL l) x.depth
 | []=>by simp [EX.fL]
 | a::l=>by rw [List.cons_append,EX.fL,EX.fL,EX.wy x l];omega
theorem EX.A1 (l:List EX) (k:Nat):EX.fL (l.take k)<=EX.cT l:=by
 induction l generalizing k with
 | nil=>simp [EX.fL]
 | cons a l ih =>
   cases k with
   | zero=>simp [EX.fL]
   | succ k =>
     rw [List.take_succ_cons,EX.fL,EX.cT]
     have:=ih k
     have:=EX.Jb a
     omega
theorem EX.rf {op n1 w1 n2 w2 nm args} (h:(EX.mk op n1 w1 n2 w2 nm args).Ok):∀ x∈args,x.Ok:=by
 rw [EX.Ok] at h
 exact EX.GH.1 h.2.2.2.2.2.2.2.2
theorem EX.uz {op n1 w1 n2 w2 nm args} (h:(EX.mk op n1 w1 n2 w2 nm args).nA=true):(∀ x∈args,x.nA=true)/\w1.length<=8/\w2.length<=8/\nm.length<=60:=by
 rw [EX.nA,EX.ye] at h
 simp only [Bool.and_eq_true,List.all_eq_true,decide_eq_true_eq] at h
 exact ⟨h.1.1.1,h.1.1.2,h.1.2,h.2⟩
theorem Oz:((AV.agg [.int .i64 0, .bool false, .nils, .bool false, .nils, .str [], .nils]).cells.all AV.one=true)=True:=by simp [AV.cells,AV.one]
theorem EX.upd (e:EX):(AV.agg [.int .i64 0, .bool false, .nils, .bool false, .nils, .str [], .nils]).upd 0 e.av.cells=e.av:=by cases e;rw [EX.av];rfl
theorem MY {σ : aa} {id:Id} {k:Nat} {e:EX} (h : σ id=some ⟨[.agg [.int .i64 0, .bool false, .nils, .bool false, .nils, .str [], .nils]],k,false⟩):eL σ 7 (.ref id 0 0) e.av=some { val := .tup [],rd:=[id],up:=[(id,some ⟨[e.av],k,false⟩)] }:=by
 rw [cA (n:=7) (v:=e.av) h rfl (by rw [show e.av.cells.length=7 from EX.size e]) (by simp [AV.size,AV.cells]) (of_eq_true (EX.one e))]
 simp [EX.upd]
section
variable {P:Program} {G:Nat->Option (List AV)}
theorem OA {f fd fn jy fc f1 fi:FuncId} {g0:Nat} (h:Has P f (aN fd fn jy fc f1 g0)) (hG:G g0=some bW) (h1:Has P f1 (jP f))
   (hcf:Has P fc (bu fi)) (QI:Has P fi bG)
   (hd:∀ n1 w1 n2 w2,Wd w1->Wd w2->w1.length<=8->w2.length<=8->∃ s,VP P G fd [RR n1 w1 n2 w2] (.tup [.str s, .bool (oP n1 w1 n2 w2)])) (hn:∀ s,VP P G fn [.str s] (.bool (bd s)))
   (hno:∀ n1 w1 n2 w2,VP P G jy [RR n1 w1 n2 w2] (.bool (fP n1 w1 n2 w2))):∀ e:EX,e.Ok->e.nA=true->e.nodes<=1000->VP P G f [e.av] (.bool e.formed):=EX.induct fun op n1 w1 n2 w2 nm args ih mo Y8 Aw=>by
 have yw:EX.cT args<=999:=by rw [EX.nodes] at Aw;omega
 have aen:args.length<=999:=Nat.le_trans (EX.DG args) yw
 obtain ⟨Wx,mU,uI,aeo⟩:=EX.uz Y8
 have R7:=EX.rf mo
 rw [EX.Ok] at mo
 obtain ⟨ho1,ho2,uK,wR,_,_,_,Gg,_⟩:=mo
 have hcc:VP P G fc [.sl 7 (EX.kV args), .fn (.func f1) [] []] (.bool (!EX.gm args)):=by
   rw [<- UR]
   refine fj hcf (ga QI ?_ ?_ ?_ (by simp) (by simp) (by rw [EX.a6];omega)) (EX.eJ _) (kq _)
   all_goals
     intro v hv
     rw [EX.cF] at hv
     obtain ⟨x,hx,rfl⟩:=List.mem_map.1 hv
   . exact EX.all x
   . rw [Ja];exact KT h1 x (ih x hx (R7 x hx) (Wx x hx) (by have:=EX.sZ hx;omega))
   . exact EX.pure x
 have hdd:=hd n1 w1 n2 w2 uK wR mU uI
 rw [EX.formed]
 by_cases o1:op<1
 . rw [ak (by omega : ¬ 1<=op),Bool.false_and,Bool.false_and,Bool.false_and]
   exact Ox h _ _ _ _ _ _ _ o1
 by_cases o7:7<op
 . rw [ak (by omega : ¬ op<=7),Bool.and_false,Bool.false_and,Bool.false_and]
   exact Oy h _ _ _ _ _ _ _ o7
 have KU:op=1∨op=2∨op=3∨op=4∨op=5∨op=6∨op=7:=by omega
 rcases KU with e | e | e | e | e | e | e<;>subst e
 . exact RZ h hG n1 w1 n2 w2 nm args hdd (hn _) (hno _ _ _ _) hcc
 . exact R1 h hG n1 w1 n2 w2 nm args hdd (hn _) (hno _ _ _ _) hcc
 . exact R2 h hG n1 w1 n2 w2 nm args hdd (hn _) (hno _ _ _ _) hcc
 . exact R3 h hG n1 w1 n2 w2 nm args hdd (hn _) (hno _ _ _ _) hcc
 . exact R4 h hG n1 w1 n2 w2 nm args hdd (hn _) (hno _ _ _ _) hcc
 . exact R5 h hG n1 w1 n2 w2 nm args hdd (hn _) (hno _ _ _ _) hcc
 . exact R6 h hG n1 w1 n2 w2 nm args hdd (hn _) (hno _ _ _ _) hcc
theorem OB {f:FuncId} (h:Has P f (o6 f)):∀ e:EX,e.nodes<=1000->VP P G f [e.av] (.int .i64 (e.depth:Int)):=EX.induct fun op n1 w1 n2 w2 nm args ih Aw=>by
 have yw:EX.cT args<=999:=by rw [EX.nodes] at Aw;omega
 have Gg:args.length<=999:=Nat.le_trans (EX.DG args) yw
 rw [EX.depth]
 refine VP.has h ?_
 simp only [o6,SS,Nat.reduceAdd,EX.one,ae,EX.q6,EX.a6,aC]
 refine VW.bJ (α := Nat × Nat) (fun x=>⟨[(EX.mk op n1 w1 n2 w2 nm args).av, .top, .top, .int .i64 ((EX.fL (args.take x.1):Nat):Int), .top, .top, .top, .sl 7 (EX.kV args), .int .i64 (args.length:Int), .int .i64 (x.1:Int)]++List.replicate 10 .top,fun _=>none,x.2⟩)
   (fun x=>x.1<=args.length) (fun x=>args.length-x.1) (0,1000) ?_ (Nat.zero_le _) ?_
 . exact Wk.forget (by simp [Fg,List.replicate,EX.fL]) (fun j => .inl rfl) (by simp only [];omega)
 rintro ⟨i,nn⟩ hi
 simp only [] at hi
 by_cases hlt:i<args.length
 . obtain ⟨x,hx⟩:∃ x,args[i]? = some x:=⟨_,List.getElem?_eq_getElem hlt⟩
   have hm:=List.mem_of_getElem? hx
   have N6:=EX.sZ hm
   have hg:(EX.kV args)[i]? = some x.av:=by rw [EX.cF,List.getElem?_map,hx];rfl
   have d1:decide ((i:Int)<(args.length:Int))=true:=ao (by omega)
   have hdx:=EX.Jb x
   have UM:=EX.A1 args i
   simp only [SS,Nat.reduceAdd,d1,aQ rfl hg,az,EX.all,Oz]
   rw [MY (k:=(AV.agg [.int .i64 0, .bool false, .nils, .bool false, .nils, .str [], .nils]).size) (by simp [aa.put])]
   simp only [SS,Nat.reduceAdd,ae,EX.all]
   refine aj (ih x hm (by omega)) (by simp [EX.pure]) ?_
   simp only [SS,Nat.reduceAdd,aq i (by omega)]
   have em:(if (x.depth:Int)>((EX.fL (args.take i):Nat):Int) then (x.depth:Int) else ((EX.fL (args.take i):Nat):Int))=((EX.fL (args.take (i+1)):Nat):Int):=by
     rw [List.take_add_one,hx,Option.toList_some,EX.wy]
     split<;>omega
   simp only [em]
   exact ⟨(i+1,_),by simp only [];omega,by simp only [];omega,Wk.forget (by simp [Fg]) (fun _ => .inl rfl) (Nat.le_refl _)⟩
 . have d1:decide ((i:Int)<(args.length:Int))=false:=ak (by omega)
   have jc:i=args.length:=by omega
   have UM:=EX.A1 args args.length
   rw [List.take_length] at UM
   have hw:IntKind.i64.wrap (((EX.fL args:Nat):Int)+1)=((EX.fL args+1:Nat):Int):=by rw [IntKind.wrap_i64];omega
   subst jc
   rw [List.take_length]
   simp only [SS,Nat.reduceAdd,d1,hw]
   exact ag▸ab rfl (af.int _ _)
theorem OC {f ff fd:FuncId} (h:Has P f (ko ff fd)) (e:EX) (hf:VP P G ff [e.av] (.bool e.formed)) (hd:VP P G fd [e.av] (.int .i64 (e.depth:Int))) :
   VP P G f [e.av] (.int .i64 (if e.formed=true then (if 40<e.depth then 3 else 0) else 1)):=by
 cases Hd:e.formed
 . rw [Hd] at hf
   refine VP.has h ?_
   simp only [ko,SS,Nat.reduceAdd,EX.one,ae,EX.all]
   refine aj hf (by simp [EX.pure]) ?_
   simp only [SS,Nat.reduceAdd]
   exact ag▸ab rfl (af.int _ _)
 . rw [Hd] at hf
   by_cases hdp:40<e.depth
   . have d1:decide ((40:Int)<(e.depth:Int))=true:=ao (by omega)
     rw [if_pos rfl,if_pos hdp]
     refine VP.has h ?_
     simp only [ko,SS,Nat.reduceAdd,EX.one,ae,EX.all]
     refine aj hf (by simp [EX.pure]) ?_
     simp only [SS,Nat.reduceAdd,ae,EX.all]
     refine aj hd (by simp [EX.pure]) ?_
     simp only [SS,Nat.reduceAdd,d1]
     exact ag▸ab rfl (af.int _ _)
   . have d1:decide ((40:Int)<(e.depth:Int))=false:=ak (by omega)
     rw [if_pos rfl,if_neg hdp]
     refine VP.has h ?_
     simp only [ko,SS,Nat.reduceAdd,EX.one,ae,EX.all]
     refine aj hf (by simp [EX.pure]) ?_
     simp only [SS,Nat.reduceAdd,ae,EX.all]
     refine aj hd (by simp [EX.pure]) ?_
     simp only [SS,Nat.reduceAdd,d1]
     exact ag▸ab rfl (af.int _ _)
end
end Go.VL
end

section
set_option linter.unusedVariables false
set_option linter.unusedVariables false
namespace Go.VL
theorem VP.aep {P:Program} {G:Nat->Option (List AV)} {f:FuncId} {vf:ay} (h:Has P f vf) {args:List AV} {r:AV} (k:VW P G [] vf.body (Hw vf.results r) ⟨args++List.replicate (vf.nt-args.length) (.tup []),fun _=>none,0⟩):VP P G f args r:=by
 obtain ⟨fn,h1,h2⟩:=h
 exact VP.VH h1 h2 k
theorem VW.UT {P:Program} {G:Nat->Option (List AV)} {π : Id} {Q:cD->VS->Prop} {x y rest:bX} {s:VS} (st:VS)
   (h1:∀ (K:VS->Prop),(∀ s',Wk G π s' st->K s')->sy P G π x (Then (sy P G π y (Then K Q)) Q) s) (h2:sy P G π rest Q st):VW P G π (.seq x (.seq y rest)) Q s:=by
 refine VW.IM ((VW.of (h1 (fun s'=>VW P G π rest Q s') (fun s' hw=>VW.cut hw h2))).mono ?_)
 intro e s' hq
 cases e with
 | normal=>exact VW.IM (VW.of hq)
 | exit _=>exact hq
 | ret=>exact hq
section
variable (op:Int) (n1:Bool) (w1:List Nat) (n2:Bool) (w2:List Nat) (nm:List UInt8) (args:List EX)
theorem EX.r1:part false (EX.mk op n1 w1 n2 w2 nm args).av.cells 1 1=some (.bool n1):=by rw [EX.av];rfl
theorem EX.r2:part false (EX.mk op n1 w1 n2 w2 nm args).av.cells 2 1=some (.sl 1 (us w1)):=by rw [EX.av];rfl
theorem EX.r3:part false (EX.mk op n1 w1 n2 w2 nm args).av.cells 3 1=some (.bool n2):=by rw [EX.av];rfl
theorem EX.r4:part false (EX.mk op n1 w1 n2 w2 nm args).av.cells 4 1=some (.sl 1 (us w2)):=by rw [EX.av];rfl
end
def gO (op:Int) (n1:Bool) (w1:List Nat) (n2:Bool) (w2:List Nat) (nm:List UInt8) (al:Nat):Bool :=
 if op=1 then oP n1 w1 n2 w2&&(nm.isEmpty||bd nm)&&decide (al=0)
 else if op=2 then fP n1 w1 n2 w2&&bd nm&&decide (al=0)
 else if op=3 then fP n1 w1 n2 w2&&nm.isEmpty&&decide (al=1)
 else if 4<=op/\op<=7 then fP n1 w1 n2 w2&&nm.isEmpty&&decide (al=2)
 else false
section
variable {P:Program} {G:Nat->Option (List AV)}
def bX.zx:bX->bX
 | .seq _ (.seq _ r)=>r
 | c=>c
def ov (op:Int) (n1:Bool) (w1:List Nat) (n2:Bool) (w2:List Nat) (nm:List UInt8) (args:List EX) (b:Bool):VS :=
 ⟨[(EX.mk op n1 w1 n2 w2 nm args).av, .ref [0] 0 0, .bool false, .bool b]++List.replicate 102 .top,aa.put (fun _=>none) [0] (some ⟨[(EX.mk op n1 w1 n2 w2 nm args).av],7,false⟩),200⟩
theorem mN {f fd fn:FuncId} (h:Has P f (aH fd fn)) (op:Int) (n1:Bool) (w1:List Nat) (n2:Bool) (w2:List Nat) (nm:List UInt8) (args:List EX) {r:AV}
   (hr:sy P G [] (aH fd fn).body.zx (Hw [.tmp 2] r) (ov op n1 w1 n2 w2 nm args (fP n1 w1 n2 w2))):VP P G f [(EX.mk op n1 w1 n2 w2 nm args).av] r:=by
 have hlen:∀ ws,jM false (.sl 1 (us ws))=some (.int .i64 ws.length):=fun ws=>by simp [jM,dD]
 have d1:decide ((w1.length:Int)=0)=w1.isEmpty:=by cases w1<;>simp<;>omega
 have d2:decide ((w2.length:Int)=0)=w2.isEmpty:=by cases w2<;>simp<;>omega
 refine VP.aep h ?_
 unfold aH
 refine VW.UT (ov op n1 w1 n2 w2 nm args (fP n1 w1 n2 w2)) ?_ hr
 . intro K hK
   unfold fP at hK
   cases b1:w1.isEmpty<;>cases b2:w2.isEmpty<;>cases n1<;>cases n2 <;>
   . rw [b1] at d1;rw [b2] at d2
     rw [b1,b2] at hK
     simp only [SS,Nat.reduceAdd,EX.one,ae,EX.r1,EX.r2,EX.r3,EX.r4,hlen,d1,d2]
     exact hK _ (Wk.slots (by simp [Fg,List.replicate]) (by decide))
set_option maxHeartbeats 2000000 in
theorem UU {f fd fn:FuncId} (h:Has P f (aH fd fn)) (op:Int) (n1:Bool) (w1:List Nat) (n2:Bool) (w2:List Nat) (nm:List UInt8) (args:List EX)
   (hd:∃ s,VP P G fd [RR n1 w1 n2 w2] (.tup [.str s, .bool (oP n1 w1 n2 w2)])) (hn:VP P G fn [.str nm] (.bool (bd nm))) (e:op=1) :
   VP P G f [(EX.mk op n1 w1 n2 w2 nm args).av] (.bool (gO 1 n1 w1 n2 w2 nm args.length)):=by
 obtain ⟨s,hd⟩:=hd
 have c1:decide (op=1)=decide (1=1):=by rw [e];rfl
 have c2:decide (op=2)=decide (1=2):=by rw [e];rfl
 have c3:decide (op=3)=decide (1=3):=by rw [e];rfl
 have c4:decide (op=4)=decide (1=4):=by rw [e];rfl
 have c5:decide (op=5)=decide (1=5):=by rw [e];rfl
 have c6:decide (op=6)=decide (1=6):=by rw [e];rfl
 have c7:decide (op=7)=decide (1=7):=by rw [e];rfl
 have l0:decide ((args.length:Int)=0)=decide (args.length=0):=by by_cases q:args.length=0<;>simp [q]<;>omega
 have l1:decide ((args.length:Int)=1)=decide (args.length=1):=by by_cases q:args.length=1<;>simp [q]<;>omega
 have l2:decide ((args.length:Int)=2)=decide (args.length=2):=by by_cases q:args.length=2<;>simp [q]<;>omega
 refine mN h op n1 w1 n2 w2 nm args ?_
 unfold gO ov
 generalize decide (args.length=0)=L0 at l0 ⊢
 generalize decide (args.length=1)=L1 at l1 ⊢
 generalize decide (args.length=2)=L2 at l2 ⊢
 cases b1:oP n1 w1 n2 w2<;>cases b2:nm.isEmpty<;>cases b3:bd nm <;>
 . rw [b1] at hd
   rw [b3] at hn
   simp only [aH,bX.zx,SS,Nat.reduceAdd,ae,EX.q0,EX.q1,c1,decide_true,Bool.true_and,Bool.false_and,Bool.or_true,Bool.or_false]
   first
   | exact ag▸ab rfl (af.bool _)
   | (refine aj hn (by simp [af.str]) ?_
      simp only [SS,Nat.reduceAdd,reduceIte,Nat.reduceEqDiff,ae,EX.q6,EX.a6,l0]
      exact ag▸ab rfl (af.bool _))
   | (refine aj hd (by simp [eC]) ?_
      simp only [SS,Nat.reduceAdd,ux,uy,ae,EX.q5,EX.q6,EX.a6,l0,gK,b2]
      first
      | exact ag▸ab rfl (af.bool _)
      | (refine aj hn (by simp [af.str]) ?_
         simp only [SS,Nat.reduceAdd,ae,EX.q6,EX.a6,l0]
         exact ag▸ab rfl (af.bool _)))
set_option maxHeartbeats 2000000 in
theorem UW {f fd fn:FuncId} (h:Has P f (aH fd fn)) (op:Int) (n1:Bool) (w1:List Nat) (n2:Bool) (w2:List Nat) (nm:List UInt8) (args:List EX)
   (hd:∃ s,VP P G fd [RR n1 w1 n2 w2] (.tup [.str s, .bool (oP n1 w1 n2 w2)])) (hn:VP P G fn [.str nm] (.bool (bd nm))) (e:op=2) :
   VP P G f [(EX.mk op n1 w1 n2 w2 nm args).av] (.bool (gO 2 n1 w1 n2 w2 nm args.length)):=by
 obtain ⟨s,hd⟩:=hd
 have c1:decide (op=1)=decide (2=1):=by rw [e];rfl
 have c2:decide (op=2)=decide (2=2):=by rw [e];rfl
 have c3:decide (op=3)=decide (2=3):=by rw [e];rfl
 have c4:decide (op=4)=decide (2=4):=by rw [e];rfl
 have c5:decide (op=5)=decide (2=5):=by rw [e];rfl
 have c6:decide (op=6)=decide (2=6):=by rw [e];rfl
 have c7:decide (op=7)=decide (2=7):=by rw [e];rfl
 have l0:decide ((args.length:Int)=0)=decide (args.length=0):=by by_cases q:args.length=0<;>simp [q]<;>omega
 have l1:decide ((args.length:Int)=1)=decide (args.length=1):=by by_cases q:args.length=1<;>simp [q]<;>omega
 have l2:decide ((args.length:Int)=2)=decide (args.length=2):=by by_cases q:args.length=2<;>simp [q]<;>omega
 refine mN h op n1 w1 n2 w2 nm args ?_
 unfold gO ov
 generalize decide (args.length=0)=L0 at l0 ⊢
 generalize decide (args.length=1)=L1 at l1 ⊢
 generalize decide (args.length=2)=L2 at l2 ⊢
 cases b3:bd nm<;>cases b4:fP n1 w1 n2 w2 <;>
 . rw [b3] at hn
   simp only [aH,bX.zx,SS,Nat.reduceAdd,Nat.reduceEqDiff,ae,EX.q0,EX.q5,c1,c2,decide_true,decide_false,Bool.true_and,Bool.false_and,Bool.or_true,Bool.or_false]
   first
   | exact ag▸ab rfl (af.bool _)
   | (refine aj hn (by simp [af.str]) ?_
      simp only [SS,Nat.reduceAdd,ae,EX.q6,EX.a6,l0]
      exact ag▸ab rfl (af.bool _))
   | (refine aj hd (by simp [eC]) ?_
      simp only [SS,Nat.reduceAdd,reduceIte,Nat.reduceEqDiff,ux,uy,ae,EX.q0,EX.q1,EX.q5,EX.q6,EX.l6,EX.a6,c1,c2,c3,c4,c5,c6,c7,l0,l1,l2,gK,decide_true,decide_false,Bool.true_and,Bool.false_and,Bool.or_true,Bool.or_false,Bool.true_or,Bool.false_or]
      first
      | exact ag▸ab rfl (af.bool _)
      | (refine aj hn (by simp [af.str]) ?_
         simp only [SS,Nat.reduceAdd,reduceIte,Nat.reduceEqDiff,ae,EX.q6,EX.a6,l0]
         exact ag▸ab rfl (af.bool _)))
set_option maxHeartbeats 2000000 in
theorem UX {f fd fn:FuncId} (h:Has P f (aH fd fn)) (op:Int) (n1:Bool) (w1:List Nat) (n2:Bool) (w2:List Nat) (nm:List UInt8) (args:List EX)
   (hd:∃ s,VP P G fd [RR n1 w1 n2 w2] (.tup [.str s, .bool (oP n1 w1 n2 w2)])) (hn:VP P G fn [.str nm] (.bool (bd nm))) (e:op=3) :
   VP P G f [(EX.mk op n1 w1 n2 w2 nm args).av] (.bool (gO 3 n1 w1 n2 w2 nm args.length)):=by
 obtain ⟨s,hd⟩:=hd
 have c1:decide (op=1)=decide (3=1):=by rw [e];rfl
 have c2:decide (op=2)=decide (3=2):=by rw [e];rfl
 have c3:decide (op=3)=decide (3=3):=by rw [e];rfl
 have c4:decide (op=4)=decide (3=4):=by rw [e];rfl
 have c5:decide (op=5)=decide (3=5):=by rw [e];rfl
 have c6:decide (op=6)=decide (3=6):=by rw [e];rfl
 have c7:decide (op=7)=decide (3=7):=by rw [e];rfl
 have l0:decide ((args.length:Int)=0)=decide (args.length=0):=by by_cases q:args.length=0<;>simp [q]<;>omega
 have l1:decide ((args.length:Int)=1)=decide (args.length=1):=by by_cases q:args.length=1<;>simp [q]<;>omega
 have l2:decide ((args.length:Int)=2)=decide (args.length=2):=by by_cases q:args.length=2<;>simp [q]<;>omega
 refine mN h op n1 w1 n2 w2 nm args ?_
 unfold gO ov
 generalize decide (args.length=0)=L0 at l0 ⊢
 generalize decide (args.length=1)=L1 at l1 ⊢
 generalize decide (args.length=2)=L2 at l2 ⊢
 cases b2:nm.isEmpty<;>cases b4:fP n1 w1 n2 w2 <;>
 . skip
   simp only [aH,bX.zx,SS,Nat.reduceAdd,Nat.reduceEqDiff,ae,EX.q0,EX.q5,EX.q6,EX.a6,c1,c2,c3,l1,gK,b2,decide_true,decide_false,Bool.true_and,Bool.false_and,Bool.true_or,Bool.false_or]
   first
   | exact ag▸ab rfl (af.bool _)
   | (refine aj hn (by simp [af.str]) ?_
      simp only [SS,Nat.reduceAdd,reduceIte,Nat.reduceEqDiff,ae,EX.q6,EX.a6,l0]
      exact ag▸ab rfl (af.bool _))
   | (refine aj hd (by simp [eC]) ?_
      simp only [SS,Nat.reduceAdd,reduceIte,Nat.reduceEqDiff,ux,uy,ae,EX.q0,EX.q1,EX.q5,EX.q6,EX.l6,EX.a6,c1,c2,c3,c4,c5,c6,c7,l0,l1,l2,gK,b2,decide_true,decide_false,Bool.true_and,Bool.false_and,Bool.or_true,Bool.or_false,Bool.true_or,Bool.false_or]
      first
      | exact ag▸ab rfl (af.bool _)
      | (refine aj hn (by simp [af.str]) ?_
         simp only [SS,Nat.reduceAdd,reduceIte,Nat.reduceEqDiff,ae,EX.q6,EX.a6,l0]
         exact ag▸ab rfl (af.bool _)))
set_option maxHeartbeats 2000000 in
theorem UY {f fd fn:FuncId} (h:Has P f (aH fd fn)) (op:Int) (n1:Bool) (w1:List Nat) (n2:Bool) (w2:List Nat) (nm:List UInt8) (args:List EX)
   (hd:∃ s,VP P G fd [RR n1 w1 n2 w2] (.tup [.str s, .bool (oP n1 w1 n2 w2)])) (hn:VP P G fn [.str nm] (.bool (bd nm))) (e:op=4) :
   VP P G f [(EX.mk op n1 w1 n2 w2 nm args).av] (.bool (gO 4 n1 w1 n2 w2 nm args.length)):=by
 obtain ⟨s,hd⟩:=hd
 have c1:decide (op=1)=decide (4=1):=by rw [e];rfl
 have c2:decide (op=2)=decide (4=2):=by rw [e];rfl
 have c3:decide (op=3)=decide (4=3):=by rw [e];rfl
 have c4:decide (op=4)=decide (4=4):=by rw [e];rfl
 have c5:decide (op=5)=decide (4=5):=by rw [e];rfl
 have c6:decide (op=6)=decide (4=6):=by rw [e];rfl
 have c7:decide (op=7)=decide (4=7):=by rw [e];rfl
 have l0:decide ((args.length:Int)=0)=decide (args.length=0):=by by_cases q:args.length=0<;>simp [q]<;>omega
 have l1:decide ((args.length:Int)=1)=decide (args.length=1):=by by_cases q:args.length=1<;>simp [q]<;>omega
 have l2:decide ((args.length:Int)=2)=decide (args.length=2):=by by_cases q:args.length=2<;>simp [q]<;>omega
 refine mN h op n1 w1 n2 w2 nm args ?_
 unfold gO ov
 generalize decide (args.length=0)=L0 at l0 ⊢
 generalize decide (args.length=1)=L1 at l1 ⊢
 generalize decide (args.length=2)=L2 at l2 ⊢
 cases b2:nm.isEmpty<;>cases b4:fP n1 w1 n2 w2 <;>
 . skip
   simp only [aH,bX.zx,SS,Nat.reduceAdd,Nat.reduceEqDiff,ae,EX.q0,EX.q5,EX.q6,EX.a6,c1,c2,c3,c4,l2,gK,b2,decide_true,decide_false,Bool.true_and,Bool.false_and,Bool.true_or,Bool.false_or]
   first
   | exact ag▸ab rfl (af.bool _)
   | (refine aj hn (by simp [af.str]) ?_
      simp only [SS,Nat.reduceAdd,reduceIte,Nat.reduceEqDiff,ae,EX.q6,EX.a6,l0]
      exact ag▸ab rfl (af.bool _))
   | (refine aj hd (by simp [eC]) ?_
      simp only [SS,Nat.reduceAdd,reduceIte,Nat.reduceEqDiff,ux,uy,ae,EX.q0,EX.q1,EX.q5,EX.q6,EX.l6,EX.a6,c1,c2,c3,c4,c5,c6,c7,l0,l1,l2,gK,b2,decide_true,decide_false,Bool.true_and,Bool.false_and,Bool.or_true,Bool.or_false,Bool.true_or,Bool.false_or]
      first
      | exact ag▸ab rfl (af.bool _)
      | (refine aj hn (by simp [af.str]) ?_
         simp only [SS,Nat.reduceAdd,reduceIte,Nat.reduceEqDiff,ae,EX.q6,EX.a6,l0]
         exact ag▸ab rfl (af.bool _)))
set_option maxHeartbeats 2000000 in
theorem UZ {f fd fn:FuncId} (h:Has P f (aH fd fn)) (op:Int) (n1:Bool) (w1:List Nat) (n2:Bool) (w2:List Nat) (nm:List UInt8) (args:List EX)
   (hd:∃ s,VP P G fd [RR n1 w1 n2 w2] (.tup [.str s, .bool (oP n1 w1 n2 w2)])) (hn:VP P G fn [.str nm] (.bool (bd nm))) (e:op=5) :
   VP P G f [(EX.mk op n1 w1 n2 w2 nm args).av] (.bool (gO 5 n1 w1 n2 w2 nm args.length)):=by
 obtain ⟨s,hd⟩:=hd
 have c1:decide (op=1)=decide (5=1):=by rw [e];rfl
 have c2:decide (op=2)=decide (5=2):=by rw [e];rfl
 have c3:decide (op=3)=decide (5=3):=by rw [e];rfl
 have c4:decide (op=4)=decide (5=4):=by rw [e];rfl
 have c5:decide (op=5)=decide (5=5):=by rw [e];rfl
 have c6:decide (op=6)=decide (5=6):=by rw [e];rfl
 have c7:decide (op=7)=decide (5=7):=by rw [e];rfl
 have l0:decide ((args.length:Int)=0)=decide (args.length=0):=by by_cases q:args.length=0<;>simp [q]<;>omega
 have l1:decide ((args.length:Int)=1)=decide (args.length=1):=by by_cases q:args.length=1<;>simp [q]<;>omega
 have l2:decide ((args.length:Int)=2)=decide (args.length=2):=by by_cases q:args.length=2<;>simp [q]<;>omega
 refine mN h op n1 w1 n2 w2 nm args ?_
 unfold gO ov
 generalize decide (args.length=0)=L0 at l0 ⊢
 generalize decide (args.length=1)=L1 at l1 ⊢
 generalize decide (args.length=2)=L2 at l2 ⊢
 cases b2:nm.isEmpty<;>cases b4:fP n1 w1 n2 w2 <;>
 . skip
   simp only [aH,bX.zx,SS,Nat.reduceAdd,Nat.reduceEqDiff,ae,EX.q0,EX.q5,EX.q6,EX.a6,c1,c2,c3,c4,c5,l2,gK,b2,decide_true,decide_false,Bool.true_and,Bool.false_and,Bool.true_or,Bool.false_or]
   first
   | exact ag▸ab rfl (af.bool _)
   | (refine aj hn (by simp [af.str]) ?_
      simp only [SS,Nat.reduceAdd,reduceIte,Nat.reduceEqDiff,ae,EX.q6,EX.a6,l0]
      exact ag▸ab rfl (af.bool _))
   | (refine aj hd (by simp [eC]) ?_
      simp only [SS,Nat.reduceAdd,reduceIte,Nat.reduceEqDiff,ux,uy,ae,EX.q0,EX.q1,EX.q5,EX.q6,EX.l6,EX.a6,c1,c2,c3,c4,c5,c6,c7,l0,l1,l2,gK,b2,decide_true,decide_false,Bool.true_and,Bool.false_and,Bool.or_true,Bool.or_false,Bool.true_or,Bool.false_or]
      first
      | exact ag▸ab rfl (af.bool _)
      | (refine aj hn (by simp [af.str]) ?_
         simp only [SS,Nat.reduceAdd,reduceIte,Nat.reduceEqDiff,ae,EX.q6,EX.a6,l0]
         exact ag▸ab rfl (af.bool _)))
set_option maxHeartbeats 2000000 in
theorem U0 {f fd fn:FuncId} (h:Has P f (aH fd fn)) (op:Int) (n1:Bool) (w1:List Nat) (n2:Bool) (w2:List Nat) (nm:List UInt8) (args:List EX)
   (hd:∃ s,VP P G fd [RR n1 w1 n2 w2] (.tup [.str s, .bool (oP n1 w1 n2 w2)])) (hn:VP P G fn [.str nm] (.bool (bd nm))) (e:op=6) :
   VP P G f [(EX.mk op n1 w1 n2 w2 nm args).av] (.bool (gO 6 n1 w1 n2 w2 nm args.length)):=by
 obtain ⟨s,hd⟩:=hd
 have c1:decide (op=1)=decide (6=1):=by rw [e];rfl
 have c2:decide (op=2)=decide (6=2):=by rw [e];rfl
 have c3:decide (op=3)=decide (6=3):=by rw [e];rfl
 have c4:decide (op=4)=decide (6=4):=by rw [e];rfl
 have c5:decide (op=5)=decide (6=5):=by rw [e];rfl
 have c6:decide (op=6)=decide (6=6):=by rw [e];rfl
 have c7:decide (op=7)=decide (6=7):=by rw [e];rfl
 have l0:decide ((args.length:Int)=0)=decide (args.length=0):=by by_cases q:args.length=0<;>simp [q]<;>omega
 have l1:decide ((args.length:Int)=1)=decide (args.length=1):=by by_cases q:args.length=1<;>simp [q]<;>omega
 have l2:decide ((args.length:Int)=2)=decide (args.length=2):=by by_cases q:args.length=2<;>simp [q]<;>omega
 refine mN h op n1 w1 n2 w2 nm args ?_
 unfold gO ov
 generalize decide (args.length=0)=L0 at l0 ⊢
 generalize decide (args.length=1)=L1 at l1 ⊢
 generalize decide (args.length=2)=L2 at l2 ⊢
 cases b2:nm.isEmpty<;>cases b4:fP n1 w1 n2 w2 <;>
 . skip
   simp only [aH,bX.zx,SS,Nat.reduceAdd,Nat.reduceEqDiff,ae,EX.q0,EX.q5,EX.q6,EX.a6,c1,c2,c3,c4,c5,c6,l2,gK,b2,decide_true,decide_false,Bool.true_and,Bool.false_and,Bool.true_or,Bool.false_or]
   first
   | exact ag▸ab rfl (af.bool _)
   | (refine aj hn (by simp [af.str]) ?_
      simp only [SS,Nat.reduceAdd,reduceIte,Nat.reduceEqDiff,ae,EX.q6,EX.a6,l0]
      exact ag▸ab rfl (af.bool _))
   | (refine aj hd (by simp [eC]) ?_
      simp only [SS,Nat.reduceAdd,reduceIte,Nat.reduceEqDiff,ux,uy,ae,EX.q0,EX.q1,EX.q5,EX.q6,EX.l6,EX.a6,c1,c2,c3,c4,c5,c6,c7,l0,l1,l2,gK,b2,decide_true,decide_false,Bool.true_and,Bool.false_and,Bool.or_true,Bool.or_false,Bool.true_or,Bool.false_or]
      first
      | exact ag▸ab rfl (af.bool _)
      | (refine aj hn (by simp [af.str]) ?_
         simp only [SS,Nat.reduceAdd,reduceIte,Nat.reduceEqDiff,ae,EX.q6,EX.a6,l0]
         exact ag▸ab rfl (af.bool _)))
set_option maxHeartbeats 2000000 in
theorem U1 {f fd fn:FuncId} (h:Has P f (aH fd fn)) (op:Int) (n1:Bool) (w1:List Nat) (n2:Bool) (w2:List Nat) (nm:List UInt8) (args:List EX)
   (hd:∃ s,VP P G fd [RR n1 w1 n2 w2] (.tup [.str s, .bool (oP n1 w1 n2 w2)])) (hn:VP P G fn [.str nm] (.bool (bd nm))) (e:op=7) :
   VP P G f [(EX.mk op n1 w1 n2 w2 nm args).av] (.bool (gO 7 n1 w1 n2 w2 nm args.length)):=by
 obtain ⟨s,hd⟩:=hd
 have c1:decide (op=1)=decide (7=1):=by rw [e];rfl
 have c2:decide (op=2)=decide (7=2):=by rw [e];rfl
 have c3:decide (op=3)=decide (7=3):=by rw [e];rfl
 have c4:decide (op=4)=decide (7=4):=by rw [e];rfl
 have c5:decide (op=5)=decide (7=5):=by rw [e];rfl
 have c6:decide (op=6)=decide (7=6):=by rw [e];rfl
 have c7:decide (op=7)=decide (7=7):=by rw [e];rfl
 have l0:decide ((args.length:Int)=0)=decide (args.length=0):=by by_cases q:args.length=0<;>simp [q]<;>omega
 have l1:decide ((args.length:Int)=1)=decide (args.length=1):=by by_cases q:args.length=1<;>simp [q]<;>omega
 have l2:decide ((args.length:Int)=2)=decide (args.length=2):=by by_cases q:args.length=2<;>simp [q]<;>omega
 refine mN h op n1 w1 n2 w2 nm args ?_
 unfold gO ov
 generalize decide (args.length=0)=L0 at l0 ⊢
 generalize decide (args.length=1)=L1 at l1 ⊢
 generalize decide (args.length=2)=L2 at l2 ⊢
 cases b2:nm.isEmpty<;>cases b4:fP n1 w1 n2 w2 <;>
 . skip
   simp only [aH,bX.zx,SS,Nat.reduceAdd,Nat.reduceEqDiff,ae,EX.q0,EX.q5,EX.q6,EX.a6,c1,c2,c3,c4,c5,c6,c7,l2,gK,b2,decide_true,decide_false,Bool.true_and,Bool.false_and,Bool.true_or,Bool.false_or]
   first
   | exact ag▸ab rfl (af.bool _)
   | (refine aj hn (by simp [af.str]) ?_
      simp only [SS,Nat.reduceAdd,reduceIte,Nat.reduceEqDiff,ae,EX.q6,EX.a6,l0]
      exact ag▸ab rfl (af.bool _))
   | (refine aj hd (by simp [eC]) ?_
      simp only [SS,Nat.reduceAdd,reduceIte,Nat.reduceEqDiff,ux,uy,ae,EX.q0,EX.q1,EX.q5,EX.q6,EX.l6,EX.a6,c1,c2,c3,c4,c5,c6,c7,l0,l1,l2,gK,b2,decide_true,decide_false,Bool.true_and,Bool.false_and,Bool.or_true,Bool.or_false,Bool.true_or,Bool.false_or]
      first
      | exact ag▸ab rfl (af.bool _)
      | (refine aj hn (by simp [af.str]) ?_
         simp only [SS,Nat.reduceAdd,reduceIte,Nat.reduceEqDiff,ae,EX.q6,EX.a6,l0]
         exact ag▸ab rfl (af.bool _)))
set_option maxHeartbeats 2000000 in
theorem U2 {f fd fn:FuncId} (h:Has P f (aH fd fn)) (op:Int) (n1:Bool) (w1:List Nat) (n2:Bool) (w2:List Nat) (nm:List UInt8) (args:List EX)
   (hd:∃ s,VP P G fd [RR n1 w1 n2 w2] (.tup [.str s, .bool (oP n1 w1 n2 w2)])) (hn:VP P G fn [.str nm] (.bool (bd nm))) (e:op<1∨7<op) :
   VP P G f [(EX.mk op n1 w1 n2 w2 nm args).av] (.bool (gO 0 n1 w1 n2 w2 nm args.length)):=by
 obtain ⟨s,hd⟩:=hd
 have c1:decide (op=1)=false:=ak (by omega)
 have c2:decide (op=2)=false:=ak (by omega)
 have c3:decide (op=3)=false:=ak (by omega)
 have c4:decide (op=4)=false:=ak (by omega)
 have c5:decide (op=5)=false:=ak (by omega)
 have c6:decide (op=6)=false:=ak (by omega)
 have c7:decide (op=7)=false:=ak (by omega)
 have l0:decide ((args.length:Int)=0)=decide (args.length=0):=by by_cases q:args.length=0<;>simp [q]<;>omega
 have l1:decide ((args.length:Int)=1)=decide (args.length=1):=by by_cases q:args.length=1<;>simp [q]<;>omega
 have l2:decide ((args.length:Int)=2)=decide (args.length=2):=by by_cases q:args.length=2<;>simp [q]<;>omega
 refine mN h op n1 w1 n2 w2 nm args ?_
 unfold gO ov
 generalize decide (args.length=0)=L0 at l0 ⊢
 generalize decide (args.length=1)=L1 at l1 ⊢
 generalize decide (args.length=2)=L2 at l2 ⊢
 . skip
   simp only [aH,bX.zx,SS,Nat.reduceAdd,ae,EX.q0,c1,c2,c3,c4,c5,c6,c7]
   first
   | exact ag▸ab rfl (af.bool _)
   | (refine aj hn (by simp [af.str]) ?_
      simp only [SS,Nat.reduceAdd,reduceIte,Nat.reduceEqDiff,ae,EX.q6,EX.a6,l0]
      exact ag▸ab rfl (af.bool _))
   | (refine aj hd (by simp [eC]) ?_
      simp only [SS,Nat.reduceAdd,reduceIte,Nat.reduceEqDiff,ux,uy,ae,EX.q0,EX.q1,EX.q5,EX.q6,EX.l6,EX.a6,c1,c2,c3,c4,c5,c6,c7,l0,l1,l2,gK,decide_true,decide_false,Bool.true_and,Bool.false_and,Bool.or_true,Bool.or_false,Bool.true_or,Bool.false_or]
      first
      | exact ag▸ab rfl (af.bool _)
      | (refine aj hn (by simp [af.str]) ?_
         simp only [SS,Nat.reduceAdd,reduceIte,Nat.reduceEqDiff,ae,EX.q6,EX.a6,l0]
         exact ag▸ab rfl (af.bool _)))
theorem R8 {f fd fn:FuncId} (h:Has P f (aH fd fn)) (op:Int) (n1:Bool) (w1:List Nat) (n2:Bool) (w2:List Nat) (nm:List UInt8) (args:List EX)
   (hd:∃ s,VP P G fd [RR n1 w1 n2 w2] (.tup [.str s, .bool (oP n1 w1 n2 w2)])) (hn:VP P G fn [.str nm] (.bool (bd nm))) :
   VP P G f [(EX.mk op n1 w1 n2 w2 nm args).av] (.bool (gO op n1 w1 n2 w2 nm args.length)):=by
 by_cases ho:op<1∨7<op
 . have e:gO op n1 w1 n2 w2 nm args.length=gO 0 n1 w1 n2 w2 nm args.length:=by
     unfold gO
     rw [if_neg (by omega),if_neg (by omega),if_neg (by omega),if_neg (by omega)];rfl
   rw [e]
   exact U2 h op n1 w1 n2 w2 nm args hd hn ho
 have KU:op=1∨op=2∨op=3∨op=4∨op=5∨op=6∨op=7:=by omega
 rcases KU with e | e | e | e | e | e | e
 . have:=UU h op n1 w1 n2 w2 nm args hd hn e;rwa [<- e] at this
 . have:=UW h op n1 w1 n2 w2 nm args hd hn e;rwa [<- e] at this
 . have:=UX h op n1 w1 n2 w2 nm args hd hn e;rwa [<- e] at this
 . have:=UY h op n1 w1 n2 w2 nm args hd hn e;rwa [<- e] at this
 . have:=UZ h op n1 w1 n2 w2 nm args hd hn e;rwa [<- e] at this
 . have:=U0 h op n1 w1 n2 w2 nm args hd hn e;rwa [<- e] at this
 . have:=U1 h op n1 w1 n2 w2 nm args hd hn e;rwa [<- e] at this
end
end Go.VL
end
