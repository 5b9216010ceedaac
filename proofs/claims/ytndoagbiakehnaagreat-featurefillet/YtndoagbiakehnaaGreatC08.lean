/- For the claim of FeatureFillet: parts WKS, QVL, VL41, ISQ, ISR, ISS, IST, WKT, WK2, WKU, WKV. -/
import Derived.Test.YtndoagbiakehnaaGreatC05
import Derived.Test.YtndoagbiakehnaaGreatC07
import Derived.Test.YtndoagbiakehnaaGreatC06
import Derived.Test.YtndoagbiakehnaaGreatC04
set_option linter.unusedSimpArgs false
set_option linter.unusedVariables false
section
set_option maxRecDepth 100000
set_option linter.unusedVariables false
namespace Go.Proofs.YtndoagbiakehnaaGreat
open Go.VL Go.Proofs
section
variable {G:Nat->Option (List AV)}
theorem PZ (hi:zO Tryz.prog G 273) (hA:F6 Tryz.prog G 274) (ho:VP Tryz.prog G 233 [] (IV 1)) (hm:xB Tryz.prog G 257) (hl:lK Tryz.prog G 275):Ks Tryz.prog G 244:=fun a b ha hb=>by
 have i1:=hi a.den
 have i2:=hi b.den
 have w1:=bF a.num b.den
 have w2:=bF b.num a.den
 have w3:=bF a.den b.den
 rw [cQ] at w1 w2 w3
 rw [cQ] at w3
 have ha1:=ha.1
 have VM:=ha.2
 have pZ:=hb.1
 have qh:=hb.2
 have m1:=hm a.num b.den (by omega) (by rw [cQ];omega)
 have m2:=hm b.num a.den (by omega) (by rw [cQ];omega)
 have m3:=hm a.den b.den (by rw [cQ];omega) (by rw [cQ];omega)
 have s1:=hA (a.num*b.den) (b.num*a.den) (by omega) (by omega)
 have pL:aa (a.num*b.den+b.num*a.den).natAbs<=400001:=Nat.le_trans (aP (Int.natAbs_add_le _ _)) (jd (k:=400000) (by omega) (by omega))
 have l1:=hl (a.num*b.den+b.num*a.den) (a.den*b.den) (pQ a b) pL (by omega)
 rw [<- Vy] at l1
 have s2:=hA a.num b.num (by omega) (by omega)
 by_cases hda:(a.den:Int)=1
 . have d1:decide ((a.den:Int)=1)=true:=ai hda
   by_cases hdb:(b.den:Int)=1
   . have d2:decide ((b.den:Int)=1)=true:=ai hdb
     have hq:a+b=((a.num+b.num:Int):Rat):=by rw [Rat.intCast_add, <- rH hda, <- rH hdb]
     rw [hq]
     exact vt [hc i1,Go.VL.hb 9 d1,hc i2,Go.VL.hb 13 d2,hc s2,hc ho] (by kernel_rfl)
   . have d2:decide ((b.den:Int)=1)=false:=ag hdb
     exact vt [hc i1,Go.VL.hb 9 d1,hc i2,Go.VL.hb 13 d2,hc m1,hc m2,hc s1,hc m3,hc l1] (by kernel_rfl)
 . have d1:decide ((a.den:Int)=1)=false:=ag hda
   exact vt [hc i1,Go.VL.hb 9 d1,hc m1,hc m2,hc s1,hc m3,hc l1] (by kernel_rfl)
theorem P0 (hn:F7 Tryz.prog G 265):Ku Tryz.prog G 237:=fun q hq=>by
 have h1:=hn q.num (by have:=hq.1;omega)
 exact vt [hc h1] (by kernel_rfl)
theorem P3 (hz:∀ z:Int,VP Tryz.prog G 291 [IV z] (.bool (decide (z=0)))) (hm:xB Tryz.prog G 257) (hl:lK Tryz.prog G 275):VD Tryz.prog G 271:=fun a b xR ha hb=>by
 have Vr:b.num≠0:=fun e=>xR (Rat.num_eq_zero.1 e)
 have i1:=hz b.num
 have d1:decide (b.num=0)=false:=ag Vr
 rw [d1] at i1
 have w1:=bF a.num b.den
 have w2:=bF a.den b.num
 rw [cQ] at w1 w2
 have ha1:=ha.1
 have VM:=ha.2
 have pZ:=hb.1
 have qh:=hb.2
 have m1:=hm a.num b.den (by omega) (by rw [cQ];omega)
 have m2:=hm a.den b.num (by rw [cQ];omega) (by omega)
 have l1:=hl (a.num*b.den) (a.den*b.num) (Int.mul_ne_zero (H7 a) Vr) (by omega) (by omega)
 rw [<- acI] at l1
 exact vt [hc i1,hc m1,hc m2,hc l1] (by kernel_rfl)
theorem Gi {f1:FuncId} (a b:Rat) (h1:VP Tryz.prog G f1 [QV a,QV b] (.bool (decide (a=b)))):VP Tryz.prog G 225 [EV a,EV b, .fn (.func f1) [] []] (.bool (decide (a=b))):=by
 by_cases xl:a=b
 . have d:decide (a=b)=true:=ai xl
   rw [d] at h1 ⊢
   exact vt [hc h1] (by kernel_rfl)
 . have d:decide (a=b)=false:=ag xl
   rw [d] at h1 ⊢
   exact vt [hc h1] (by kernel_rfl)
theorem P4 (a b:Rat) (hf:VP Tryz.prog G 208 [.nils,EV a,EV b] (.bool true)) (hn:VP Tryz.prog G 203 [EV b] (EV (-b))) (hA:VP Tryz.prog G 209 [EV a,EV (-b)] (EV (a + -b))):VP Tryz.prog G 157 [.nils,EV a,EV b] (EV (a-b)):=by
 rw [<- Rat.sub_eq_add_neg] at hA
 exact vt [hc hf,hc hn,hc hA] (by kernel_rfl)
theorem P5 (a:Rat) (hf:VP Tryz.prog G 202 [.nils,EV a] (.bool true)) (hi:VP Tryz.prog G 243 [.nils,EV a] (.tup [EV (1/a), .bool true])) :
   VP Tryz.prog G 207 [.nils,EV a] (.tup [EV (1/a), .int .i64 0]):=by
 exact vt [hc hf,hc hi] (by kernel_rfl)
theorem Gj (a b:Rat) {x:Bool} (he:VP Tryz.prog G 225 [EV a,EV b, .fn (.func 226) [] []] (.bool x)):VP Tryz.prog G 192 [EV a,EV b] (.bool x):=by
 exact vt [hc he] (by kernel_rfl)
theorem P6 (a:Rat) (hf:VP Tryz.prog G 202 [.nils,EV a] (.bool true)) (hn:VP Tryz.prog G 203 [EV a] (EV (-a))):VP Tryz.prog G 148 [.nils,EV a] (EV (-a)):=by
 exact vt [hc hf,hc hn] (by kernel_rfl)
theorem P7 (a b c:Rat) (hi:VP Tryz.prog G 207 [.nils,EV b] (.tup [EV (1/b), .int .i64 0])) (hm:VP Tryz.prog G 152 [NV a,NV (1/b)] (.tup [NV c, .int .i64 0])):VP Tryz.prog G 153 [NV a,NV b] (.tup [NV c, .int .i64 0]):=by
 exact vt [hc hi,hc hm] (by kernel_rfl)
theorem P8 (a b c:Rat) (hc:VP Tryz.prog G 154 [NV a,NV b, .fn (.func 157) [] []] (.tup [NV c, .int .i64 0])):VP Tryz.prog G 88 [NV a,NV b] (.tup [NV c, .int .i64 0]):=by
 exact vt [Go.VL.hc hc] (by kernel_rfl)
theorem P9 (a:Rat) (hd:VP Tryz.prog G 147 [NV a] (NV a)) (hn:VP Tryz.prog G 148 [.nils,EV a] (EV (-a))):VP Tryz.prog G 81 [NV a] (NV (-a)):=by
 exact vt [hc hd,hc hn] (by kernel_rfl)
theorem Ij (a b:Rat) (h1:VP Tryz.prog G 191 [.nils, .nils] (.bool true)) (h2:VP Tryz.prog G 192 [EV a,EV b] (.bool (decide (a=b)))):VP Tryz.prog G 140 [NV a,NV b] (.bool (decide (a=b))):=by
 exact vt [hc h1,hc h1,hc h2] (by kernel_rfl)
theorem Qa (h1:VP Tryz.prog G 198 [.int .i64 0] (QV 0)) (h2:VP Tryz.prog G 258 [.nils,QV 0] (EV 0)) (h3:VP Tryz.prog G 202 [.nils,EV 0] (.bool true)):VP Tryz.prog G 234 [.nils] (.bool true):=by
 exact vt [hc h1,hc h2,hc h3] (by kernel_rfl)
theorem Mx (a:Rat) (h1:VP Tryz.prog G 32 [QV a] (.int .i64 (az a))):VP Tryz.prog G 200 [.nils,EV a] (.int .i64 (az a)):=by
 exact vt [hc h1] (by kernel_rfl)
theorem My (a:Rat) (hs:VP Tryz.prog G 146 [.nils,EV a] (.int .i64 (az a))):VP Tryz.prog G 80 [NV a] (.int .i64 (az a)):=by
 exact vt [hc hs] (by kernel_rfl)
theorem Ik (a:Int) (b:Nat) (xR:b≠0) (h1:VP Tryz.prog G 66 [.int .i64 a] (IV a)) (h2:VP Tryz.prog G 66 [.int .i64 (b:Int)] (IV (b:Int))) (hm:VP Tryz.prog G 223 [IV a,IV b] (QV ((a:Rat)/((b:Int):Rat)))):VP Tryz.prog G 188 [.int .i64 a, .int .i64 (b:Int)] (QV ((a:Rat)/((b:Int):Rat))):=by
 have d0:decide ((b:Int)=0)=false:=ag (by omega)
 exact vt [hb 6 d0,hc h1,hc h2,hc hm] (by kernel_rfl)
theorem Mz (hn:F7 Tryz.prog G 213):Ku Tryz.prog G 167:=fun q hq=>by
 have h1:=hn q.num (by have:=hq.1;omega)
 exact vt [hc h1] (by kernel_rfl)
theorem MA (a b:Int) (hd:VP Tryz.prog G 130 [IV a,IV b] (.tup [IV (a/b),IV 0, .int .i64 0])):VP Tryz.prog G 62 [IV a,IV b] (IV (a/b)):=by
 exact vt [hc hd] (by kernel_rfl)
theorem A5:VP Tryz.prog G 214 [.nils] (.bool true):=by
 exact vt [] (by kernel_rfl)
theorem rK {fo:FuncId} (a b c:Q2) (h1:VP Tryz.prog G fo [NV a.1,NV b.1] (.tup [NV c.1, .int .i64 0])) (h2:VP Tryz.prog G fo [NV a.2,NV b.2] (.tup [NV c.2, .int .i64 0])):VP Tryz.prog G 156 [V2 a,V2 b, .fn (.func fo) [] []] (.tup [V2 c, .int .i64 0]):=by
 exact vt [hc h1,hc h2] (by kernel_rfl)
theorem Gk (a b c:Q2) (hb:VP Tryz.prog G 156 [V2 a,V2 b, .fn (.func 88) [] []] (.tup [V2 c, .int .i64 0])):VP Tryz.prog G 143 [V2 a,V2 b] (.tup [V2 c, .int .i64 0]):=by
 exact vt [hc hb] (by kernel_rfl)
theorem vk (x y:Int) (h1:VP Tryz.prog G 24 [.int .i64 x] (QV x)) (h2:VP Tryz.prog G 24 [.int .i64 y] (QV y)) (hm:VP Tryz.prog G 67 [QV x,QV y] (V2 (x,y))):VP Tryz.prog G 25 [.int .i64 x, .int .i64 y] (V2 (x,y)):=by
 exact vt [hc h1,hc h2,hc hm] (by kernel_rfl)
theorem Qb (hs:fL Tryz.prog G 126) (z:Int) (hz:aa z.natAbs<=1000000):VP Tryz.prog G 213 [IV z] (IV (-z)):=by
 have dP:=hs (!decide (z<0)) z.natAbs (by omega)
 rw [Kc] at dP
 have Df:([0]:List Nat)≠[1]:=by decide
 exact vt [hc dP] (by kernel_rfl)
theorem MB (hs:fL Tryz.prog G 126) (z:Int) (hz:aa z.natAbs<=1000000):VP Tryz.prog G 125 [IV z] (IV z):=by
 have dP:=hs (decide (z<0)) z.natAbs (by omega)
 rw [u5] at dP
 have Df:([0]:List Nat)≠[1]:=by decide
 exact vt [hc dP] (by kernel_rfl)
theorem TF (hi:VP Tryz.prog G 232 [.int .i64 1] (IV 1)):VP Tryz.prog G 233 [] (IV 1):=by
 exact vt [hc hi] (by kernel_rfl)
theorem MD (a b:Int) (hi:VP Tryz.prog G 76 [IV a] (.int .i64 a.sign)):VP Tryz.prog G 32 [RV a b] (.int .i64 a.sign):=by
 exact vt [hc hi] (by kernel_rfl)
instance {n:Bool} {w:List Nat}:PU (IR n w):=by unfold IR;infer_instance
instance {a b:Int}:PU (RV a b):=by unfold RV;infer_instance
theorem TG (o8:∀ z:Int,aa z.natAbs<=1000000->VP Tryz.prog G 76 [IV z] (.int .i64 z.sign)) (hci:∀ a b:Int,VP Tryz.prog G 280 [.int .i64 a, .int .i64 b] (.int .i64 (eP a b))) (ht:fY Tryz.prog G 141)
  (hC:∀ m n,aa m<=1000000->aa n<=1000000->VP Tryz.prog G 281 [W m,W n] (.int .i64 (de m n))) (y z:Int) (hy:aa y.natAbs<=1000000) (hz:aa z.natAbs<=1000000):VP Tryz.prog G 256 [IV y,IV z] (.int .i64 (eP y z)):=by
 have i1:=o8 y hy
 have i2:=o8 z hz
 by_cases hs:y.sign=z.sign
 . have d0:(y.sign != z.sign)=false:=by simp [hs]
   have e1:IntKind.i64.wrap (y.sign*de y.natAbs z.natAbs)=eP y z:=by
     rw [Te hs,IntKind.wrap_i64]
     rcases kV y z with ⟨e,_⟩ | ⟨e,_⟩ | ⟨e,_⟩<;>rw [e]<;>omega
   have t1:=kp ht y.natAbs (by omega)
   have t2:=kp ht z.natAbs (by omega)
   have c1:=hC y.natAbs z.natAbs hy hz
   rw [<- e1]
   exact vt [hc i1,hc i2,hb 13 d0,hc t1,hc t2,hc c1] (by kernel_rfl)
 . have d0:(y.sign != z.sign)=true:=by simp [hs]
   have c1:=hci y.sign z.sign
   rw [B4 hs] at c1
   exact vt [hc i1,hc i2,hb 13 d0,hc c1] (by kernel_rfl)
theorem ME (z:Int):VP Tryz.prog G 273 [IV z] (.bool (decide (z=1))):=by
 have h11:aa 1=1:=by unfold aa;rw [gn (by decide),show 1/ak=0 from rfl,a9];rfl
 by_cases hn:z<0
 . have d0:(!decide (z<0))=false:=by rw [ai hn];rfl
   rw [ag (show z≠1 by omega)]
   exact vt [hb 6 d0] (by kernel_rfl)
 . have d0:(!decide (z<0))=true:=by rw [ag hn];rfl
   by_cases h1:aa z.natAbs=1
   . obtain ⟨w,hw⟩:=List.length_eq_one_iff.1 h1
     have hv:z.natAbs=w:=by have:=aE z.natAbs;rw [hw] at this;simp [val] at this;omega
     rw [show decide (z=1)=decide ((w:Int)=1) by congr 1;apply propext;omega]
     have e:IV z = .agg [.bool (decide (z<0)), .sl 1 (us [w])]:=by rw [<- hw];rfl
     rw [e]
     exact vt [hb 6 d0] (by kernel_rfl)
   . have d1:decide ((aa z.natAbs:Int)=1)=false:=ag (by omega)
     rw [ag (show z≠1 by intro e;rw [e] at h1;exact h1 h11)]
     exact vt [hb 6 d0,ho 9 (@aQ z.natAbs),hb 10 d1] (by kernel_rfl)
theorem MF (z:Int):VP Tryz.prog G 59 [IV z] (.bool (decide (z=1))):=by
 have h11:aa 1=1:=by unfold aa;rw [gn (by decide),show 1/ak=0 from rfl,a9];rfl
 by_cases h1:aa z.natAbs=1
 . obtain ⟨w,hw⟩:=List.length_eq_one_iff.1 h1
   have hv:z.natAbs=w:=by have:=aE z.natAbs;rw [hw] at this;simp [val] at this;omega
   have e:IV z = .agg [.bool (decide (z<0)), .sl 1 (us [w])]:=by rw [<- hw];rfl
   rw [e]
   by_cases p5:w=1
   . have d2:decide ((w:Int)=1)=true:=ai (by omega)
     rw [show decide (z=1) = !decide (z<0) by
       by_cases hn:z<0
       . rw [ai hn,ag (by omega)];rfl
       . rw [ag hn,ai (by omega)];rfl]
     exact vt [hb 14 d2] (by kernel_rfl)
   . have d2:decide ((w:Int)=1)=false:=ag (by omega)
     rw [ag (show z≠1 by omega)]
     exact vt [hb 14 d2] (by kernel_rfl)
 . have d1:decide ((aa z.natAbs:Int)=1)=false:=ag (by omega)
   rw [ag (show z≠1 by intro e;rw [e] at h1;exact h1 h11)]
   exact vt [ho 5 (@aQ z.natAbs),hb 6 d1] (by kernel_rfl)
theorem TH (a b:Int) (hO:VP Tryz.prog G 273 [IV b] (.bool (decide (b=1)))) (hd:VP Tryz.prog G 305 [IV a,IV b] (.tup [IV (a.fdiv b),IV (a.fmod b), .int .i64 0])):VP Tryz.prog G 294 [IV a,IV b] (IV (a.fdiv b)):=by
 by_cases h1:b=1
 . have d1:decide (b=1)=true:=ai h1
   rw [show a.fdiv b=a by rw [h1,Int.fdiv_one]]
   exact vt [hc hO,hbr 9 d1] (by kernel_rfl)
 . have d1:decide (b=1)=false:=ag h1
   exact vt [hc hO,hbr 9 d1,hc hd] (by kernel_rfl)
theorem Il (hu:∀ n,n<18446744073709551616->VP Tryz.prog G 132 [.int .u64 ((n:Nat):Int)] (W n)) (hs:fL Tryz.prog G 126) (a:Int) (h1 : -9223372036854775808<=a) (h2:a<9223372036854775808):VP Tryz.prog G 66 [.int .i64 a] (IV a):=by
 have hsz:=kU a.natAbs (by omega)
 have dP:=hs (decide (a<0)) a.natAbs (by omega)
 rw [u5] at dP
 have Bl:=hu a.natAbs (by omega)
 by_cases hn:a<0
 . have d1:decide (a<0)=true:=ai hn
   rw [d1] at dP
   rw [<- show IntKind.u64.wrap (0-(IntKind.u64.wrap a))=(a.natAbs:Int) by rw [IntKind.wrap_u64,IntKind.wrap_u64];omega] at Bl
   exact vt [hb 4 d1,hc Bl,hc dP] (by kernel_rfl)
 . have d1:decide (a<0)=false:=ag hn
   rw [d1] at dP
   rw [<- show IntKind.u64.wrap a=(a.natAbs:Int) by rw [IntKind.wrap_u64];omega] at Bl
   exact vt [hb 4 d1,hc Bl,hc dP] (by kernel_rfl)
theorem Qc (hn:∀ z:Int,aa z.natAbs<=1000000->VP Tryz.prog G 125 [IV z] (IV z))
  (hp:∀ m n,aa m<=1000000->aa n<=1000000->VP Tryz.prog G 222 [W m,W n] (W (m+n))) (hs:fL Tryz.prog G 126) (hC:∀ m n,aa m<=1000000->aa n<=1000000->VP Tryz.prog G 177 [W m,W n] (.int .i64 (de m n)))
  (hm:∀ m n,n<=m->aa m<=1000000->VP Tryz.prog G 183 [W m,W n] (W (m-n))) (a b:Int) (ha:aa a.natAbs<=1000000) (hB:aa b.natAbs<=1000000):VP Tryz.prog G 186 [IV a,IV b] (IV (a+b)):=by
 have n1:=hn a ha
 have n2:=hn b hB
 have Yg:aa (a.natAbs+b.natAbs)<=1000001:=jd ha hB
 have Ts:=hp a.natAbs b.natAbs ha hB
 have hcv:=hC a.natAbs b.natAbs ha hB
 by_cases xl:decide (a<0)=decide (b<0)
 . have d0:(decide (a<0)==decide (b<0))=true:=by rw [xl];exact beq_self_eq_true _
   have xA:=hs (decide (a<0)) (a.natAbs+b.natAbs) (by omega)
   rw [zK xl] at xA
   exact vt [hc n1,hc n2,hb 13 d0,hc Ts,hc xA] (by kernel_rfl)
 . have d0:(decide (a<0)==decide (b<0))=false:=by simpa using xl
   by_cases wW:b.natAbs<=a.natAbs
   . have d1:decide (0<=de a.natAbs b.natAbs)=true:=ai (by simp only [de,eP];rw [if_neg (by omega)];split<;>decide)
     have Di:=hm a.natAbs b.natAbs wW ha
     have xA:=hs (decide (a<0)) (a.natAbs-b.natAbs) (by have:=aP (Nat.sub_le a.natAbs b.natAbs);omega)
     rw [oG xl wW] at xA
     exact vt [hc n1,hc n2,hb 13 d0,hc hcv,hb 27 d1,hc Di,hc xA] (by kernel_rfl)
   . have d1:decide (0<=de a.natAbs b.natAbs)=false:=ag (by simp only [de,eP];rw [if_pos (by omega)];decide)
     have Di:=hm b.natAbs a.natAbs (by omega) hB
     have xA:=hs (decide (b<0)) (b.natAbs-a.natAbs) (by have:=aP (Nat.sub_le b.natAbs a.natAbs);omega)
     rw [oG (fun e=>xl e.symm) (by omega),Int.add_comm] at xA
     exact vt [hc n1,hc n2,hb 13 d0,hc hcv,hb 27 d1,hc Di,hc xA] (by kernel_rfl)
theorem MG (hn:∀ z:Int,aa z.natAbs<=1000000->VP Tryz.prog G 125 [IV z] (IV z))
  (ht:∀ m n,aa m<=1000000->aa n<=1000000->VP Tryz.prog G 127 [W m,W n] (W (m*n))) (hs:fL Tryz.prog G 126) (a b:Int) (ha:aa a.natAbs<=1000000) (hB:aa b.natAbs<=1000000):VP Tryz.prog G 60 [IV a,IV b] (IV (a*b)):=by
 have n1:=hn a ha
 have n2:=hn b hB
 have Pu:=ht a.natAbs b.natAbs ha hB
 have dP:=hs (!(decide (a<0)==decide (b<0))) (a.natAbs*b.natAbs) (by have:=ly a.natAbs b.natAbs;omega)
 rw [Ke] at dP
 exact vt [hc n1,hc n2,hc Pu,hc dP] (by kernel_rfl)
theorem Im (a b g:Int) (hg:VP Tryz.prog G 286 [IV a,IV b] (IV g)) (hn:VP Tryz.prog G 265 [IV g] (IV (-g)))
  (hq:∀ x y:Int,(x=a∨x=b)->(y=g∨y = -g)->VP Tryz.prog G 294 [IV x,IV y] (IV (x.fdiv y))):VP Tryz.prog G 275 [IV a,IV b] (RV (a.fdiv (if b<0 then -g else g)) (b.fdiv (if b<0 then -g else g))):=by
 by_cases hB:b<0
 . have q1:=hq a (-g) (.inl rfl) (.inr rfl)
   have q2:=hq b (-g) (.inr rfl) (.inr rfl)
   rw [if_pos hB]
   have d1:=ai hB
   exact vt [hc hg,hb 10 d1,hc hn,hc q1,hc q2] (by kernel_rfl)
 . have q1:=hq a g (.inl rfl) (.inl rfl)
   have q2:=hq b g (.inr rfl) (.inl rfl)
   rw [if_neg hB]
   have d1:=ag hB
   exact vt [hc hg,hb 10 d1,hc q1,hc q2] (by kernel_rfl)
theorem Gl (ht:fY Tryz.prog G 141):fL Tryz.prog G 260:=fun neg n hn=>by
 have t1:=kp ht n hn
 have hl := @aQ n
 have hp:=bE (n:=n)
 by_cases h0:n=0
 . have d0:decide ((aa n:Int)=0)=true:=ai (by omega)
   have e:IV (sgn neg n) = .agg [.bool false, .sl 1 []]:=by rw [h0];cases neg<;>simp [IV,sgn,W,a9,us]
   rw [e]
   refine VP.dm hN [hc t1,ho 8 hl,hb 9 d0] [] (.agg [.bool false, .nils]) (by kernel_rfl) fun _ _=>View.agg (ah.cons (View.pure (af.bool _)) (ah.cons (View.nils 1) ah.nil))
 . have d0:decide ((aa n:Int)=0)=false:=ag (by omega)
   have ei:IV (sgn neg n) = .agg [.bool neg,W n]:=by cases neg<;>simp only [IV,sgn]<;>simp<;>omega
   rw [ei]
   exact vt [hc t1,ho 8 hl,hb 9 d0] (by kernel_rfl)
theorem Gm (ht:fY Tryz.prog G 128):fL Tryz.prog G 126:=fun neg n hn=>by
 have t1:=kp ht n hn
 have hl := @aQ n
 have hp:=bE (n:=n)
 have dd:decide ((0:Int)<(aa n:Int))=decide (0<n):=by congr 1;apply propext;omega
 rw [acs, <- dd]
 cases neg
 . exact vt [hc t1] (by kernel_rfl)
 . exact vt [hc t1,ho 10 hl] (by kernel_rfl)
theorem Qd (hs:Ia Tryz.prog G 32) (hm:xB Tryz.prog G 257) (hC:VB Tryz.prog G 256):VC Tryz.prog G 227:=fun a b ha hB=>by
 have h1:=hs a ha
 have h2:=hs b hB
 have w1:=bF a.num b.den
 have w2:=bF b.num a.den
 rw [cQ] at w1 w2
 have ha1:=ha.1
 have VM:=ha.2
 have pZ:=hB.1
 have qh:=hB.2
 have h3:=hm a.num b.den (by omega) (by rw [cQ];omega)
 have h4:=hm b.num a.den (by omega) (by rw [cQ];omega)
 have h5:=hC (a.num*b.den) (b.num*a.den) (by omega) (by omega)
 by_cases hq:az a=az b
 . have d0:(az a != az b)=false:=by simp [hq]
   exact vt [hc h1,hc h2,hb 13 d0,hc h3,hc h4,hc h5] (by kernel_rfl)
 . have d0:(az a != az b)=true:=by simp [hq]
   rw [Mq hq]
   by_cases hl:az a<az b
   . have d1:decide (az a<az b)=true:=ai hl
     rw [if_pos hl]
     exact vt [hc h1,hc h2,hb 13 d0,hb 16 d1] (by kernel_rfl)
   . have d1:decide (az a<az b)=false:=ag hl
     rw [if_neg hl]
     exact vt [hc h1,hc h2,hb 13 d0,hb 16 d1] (by kernel_rfl)
theorem Io (hg:B8 Tryz.prog G 61) (hs:Dk Tryz.prog G 96) (hq:Kv Tryz.prog G 62) (a:Int) (b:Nat) (xR:b≠0) (ha:aa a.natAbs<=400000) (hB:aa b<=400000):VP Tryz.prog G 223 [IV a,IV b] (QV ((a:Rat)/((b:Int):Rat))):=by
 have h1:=hg a b (by omega) hB
 rw [Int.natAbs_natCast] at h1
 have h2:=hs b hB
 rw [Int.sign_eq_one_of_pos (by omega)] at h2
 have hgp:0<Nat.gcd a.natAbs b:=Nat.gcd_pos_of_pos_right _ (by omega)
 have hgl:aa (((Nat.gcd a.natAbs b:Nat):Int)).natAbs<=400000:=Nat.le_trans (aP (Nat.le_of_dvd (by omega) (Nat.gcd_dvd_right _ _))) hB
 have h3:=hq a (Nat.gcd a.natAbs b:Nat) (by omega) (Int.ofNat_dvd_left.2 (Nat.gcd_dvd_left _ _)) (by omega) hgl
 have h4:=hq b (Nat.gcd a.natAbs b:Nat) (by omega) (Int.ofNat_dvd_left.2 (by rw [Int.natAbs_natCast];exact Nat.gcd_dvd_right _ _)) (by rw [cQ];omega) hgl
 rw [acK a b xR]
 have d0:decide ((1:Int)<0)=false:=rfl
 exact vt [hc h1,hc h2,hc h3,hc h4] (by kernel_rfl)
theorem Gn (ht:fY Tryz.prog G 128) (neg:Bool) (ws:List Nat) (hw:Wd ws) (hl:ws.length<=9223372036854775807):VP Tryz.prog G 135 [IR neg ws] (.bool (eo neg ws)):=by
 have hlen:jY false (.sl 1 (us ws))=some (.int .i64 ws.length):=by simp [jY,dD]
 have t1:=ht ws hw hl
 have wl := @aQ (val ws)
 rw [<- F0 neg hw]
 have d0:decide ((aa (val ws):Int)=(ws.length:Int))=decide (aa (val ws)=ws.length):=by congr 1;apply propext;omega
 have d1:decide ((0:Int)<(ws.length:Int))=decide (0<ws.length):=by congr 1;apply propext;omega
 rw [<- d0, <- d1]
 by_cases c:(aa (val ws):Int)=(ws.length:Int)
 . have c1:decide ((aa (val ws):Int)=(ws.length:Int))=true:=ai c
   rw [c1]
   cases neg
   . exact vt [hc t1,ho 6 wl,ho 9 hlen,hb 10 c1] (by kernel_rfl)
   . exact vt [hc t1,ho 6 wl,ho 9 hlen,hb 10 c1,ho 18 hlen] (by kernel_rfl)
 . have c1:decide ((aa (val ws):Int)=(ws.length:Int))=false:=ag c
   rw [c1]
   exact vt [hc t1,ho 6 wl,ho 9 hlen,hb 10 c1] (by kernel_rfl)
theorem Qe (ht:fY Tryz.prog G 141)
  (hp:∀ m n,aa m<=1000000->aa n<=1000000->VP Tryz.prog G 292 [W m,W n] (W (m+n))) (hs:fL Tryz.prog G 260) (hC:∀ m n,aa m<=1000000->aa n<=1000000->VP Tryz.prog G 281 [W m,W n] (.int .i64 (de m n)))
  (hm:∀ m n,n<=m->aa m<=1000000->VP Tryz.prog G 293 [W m,W n] (W (m-n))):F6 Tryz.prog G 274:=fun a b ha hB=>by
 have hta:=kp ht a.natAbs (by omega)
 have XE:=kp ht b.natAbs (by omega)
 have Ts:=hp a.natAbs b.natAbs (by omega) (by omega)
 have hcv:=hC a.natAbs b.natAbs (by omega) (by omega)
 have Yg:aa (a.natAbs+b.natAbs)<=400001:=jd ha hB
 by_cases xl:decide (a<0)=decide (b<0)
 . have d0:(decide (a<0)==decide (b<0))=true:=by rw [xl];exact beq_self_eq_true _
   have xA:=hs (decide (a<0)) (a.natAbs+b.natAbs) (by omega)
   rw [zK xl] at xA
   exact vt [hc hta,hc XE,hb 17 d0,hc Ts,hc xA] (by kernel_rfl)
 . have d0:(decide (a<0)==decide (b<0))=false:=by simpa using xl
   by_cases wW:b.natAbs<=a.natAbs
   . have d1:decide (de a.natAbs b.natAbs<0)=false:=ag (by simp only [de,eP];rw [if_neg (by omega)];split<;>decide)
     have Di:=hm a.natAbs b.natAbs wW (by omega)
     have xA:=hs (decide (a<0)) (a.natAbs-b.natAbs) (by have:=aP (Nat.sub_le a.natAbs b.natAbs);omega)
     rw [oG xl wW] at xA
     exact vt [hc hta,hc XE,hb 17 d0,hc hcv,hb 27 d1,hc Di,hc xA] (by kernel_rfl)
   . have d1:decide (de a.natAbs b.natAbs<0)=true:=ai (by simp only [de,eP];rw [if_pos (by omega)];decide)
     have Di:=hm b.natAbs a.natAbs (by omega) (by omega)
     have xA:=hs (decide (b<0)) (b.natAbs-a.natAbs) (by have:=aP (Nat.sub_le b.natAbs a.natAbs);omega)
     rw [oG (fun e=>xl e.symm) (by omega),Int.add_comm] at xA
     exact vt [hc hta,hc XE,hb 17 d0,hc hcv,hb 27 d1,hc Di,hc xA] (by kernel_rfl)
set_option maxHeartbeats 1000000 in
set_option maxHeartbeats 1000000 in
theorem MH (me:zO Tryz.prog G 59) (hA:F6 Tryz.prog G 186) (hg:B8 Tryz.prog G 61) (hm:xB Tryz.prog G 60) (hq:Kv Tryz.prog G 62):Ks Tryz.prog G 221:=fun a b ha hB=>by
 have o1:=me a.den
 have o2:=me b.den
 have z1:=B9 a
 have l1 := @aQ a.num.natAbs
 have l2 := @aQ b.num.natAbs
 have z2:=B9 b
 have ha1:=ha.1
 have VM:=ha.2
 have pZ:=hB.1
 have qh:=hB.2
 obtain ⟨n1,n2⟩:=Tw a b
 by_cases a0:a=0
 . rw [ai a0] at z1
   rw [show a+b=b from by rw [a0,Rat.zero_add]]
   exact vt [ho 14 l1,hb 15 z1] (by kernel_rfl)
 rw [ag a0] at z1
 by_cases b0:b=0
 . rw [ai b0] at z2
   rw [show a+b=a from by rw [b0,Rat.add_zero]]
   exact vt [ho 14 l1,hb 15 z1,ho 20 l2,hb 21 z2] (by kernel_rfl)
 rw [ag b0] at z2
 by_cases hdd:(a.den:Int)=1/\(b.den:Int)=1
 . have d3:=ai hdd.1
   have d4:=ai hdd.2
   have h1:=hA a.num b.num (by omega) (by omega)
   have hs:a+b=((a.num+b.num:Int):Rat):=by rw [Rat.intCast_add, <- rH hdd.1, <- rH hdd.2]
   have e:=zM (z:=a.num+b.num) (d:=a.den) (q:=a+b) (by rw [hs];rfl) (by rw [hs,hdd.1];rfl)
   rw [<- e]
   exact vt [ho 14 l1,hb 15 z1,ho 20 l2,hb 21 z2,hc o1,hb 26 d3,hc o2,hb 30 d4,hc h1] (by kernel_rfl)
 have hgd:VP Tryz.prog G 61 [IV a.den,IV b.den] (IV (Nat.gcd a.den b.den:Nat)):=hg a.den b.den (by rw [cQ];omega) (by rw [cQ];omega)
 have w1:=bF a.num b.den
 have w2:=bF b.num a.den
 have w3:=bF a.den b.den
 rw [cQ] at w1 w2 w3
 rw [cQ] at w3
 have o3:=me (Nat.gcd a.den b.den:Nat)
 have hgp:0<Nat.gcd a.den b.den:=Nat.gcd_pos_of_pos_left _ a.den_pos
 generalize hgg:Nat.gcd a.den b.den=g at *
 by_cases g1:g=1
 . subst g1
   have o4:=me 1
   have d5:decide ((1:Int)=1)=true:=rfl
   have m1:=hm a.num b.den (by omega) (by rw [cQ];omega)
   have m2:=hm b.num a.den (by omega) (by rw [cQ];omega)
   have m3:=hm a.den b.den (by rw [cQ];omega) (by rw [cQ];omega)
   have s1:=hA (a.num*b.den) (b.num*a.den) (by omega) (by omega)
   simp only [Nat.div_one,Nat.gcd_one_right,Int.natCast_one,Int.ediv_one] at n1 n2
   have e:=zM (z:=a.num*b.den+b.num*a.den) (d:=a.den*b.den) (q:=a+b) n1 (by rw [n2];exact Int.natCast_mul _ _)
   rw [<- e]
   rcases three _ _ hdd with ⟨d3,d4⟩ | ⟨d3,d4⟩ | ⟨d3,d4⟩
   . exact vt [ho 14 l1,hb 15 z1,ho 20 l2,hb 21 z2,hc o1,hb 26 d3,hc o2,hb 30 d4,hc hgd,hc o3,hc m1,hc m2,hc s1,hc m3] (by kernel_rfl)
   all_goals exact vt [ho 14 l1,hb 15 z1,ho 20 l2,hb 21 z2,hc o1,hb 26 d3,hc hgd,hc o3,hc m1,hc m2,hc s1,hc m3] (by kernel_rfl)
 . have d5:decide ((g:Int)=1)=false:=ag (by omega)
   have hga:g ∣ a.den:=hgg▸Nat.gcd_dvd_left _ _
   have hgb:g ∣ b.den:=hgg▸Nat.gcd_dvd_right _ _
   have hgl:aa ((g:Nat):Int).natAbs<=100000:=Nat.le_trans (aP (Nat.le_of_dvd a.den_pos hga)) VM
   have q1:=hq a.den g (by omega) (Int.ofNat_dvd.2 hga) (by rw [cQ];omega) (by omega)
   have q2:=hq b.den g (by omega) (Int.ofNat_dvd.2 hgb) (by rw [cQ];omega) (by omega)
   rw [<- Int.natCast_ediv] at q1 q2
   have wx:aa (((a.den/g:Nat):Int)).natAbs<=100000:=Nat.le_trans (aP (Nat.div_le_self _ _)) VM
   have wy:aa (((b.den/g:Nat):Int)).natAbs<=100000:=Nat.le_trans (aP (Nat.div_le_self _ _)) qh
   generalize a.den/g=x at *
   generalize b.den/g=y at *
   have m1:=hm a.num y (by omega) (by omega)
   have m2:=hm b.num x (by omega) (by omega)
   have v1:=bF a.num y
   have v2:=bF b.num x
   have s1:=hA (a.num*y) (b.num*x) (by omega) (by omega)
   have v3:aa (a.num*y+b.num*x).natAbs<=200001:=Nat.le_trans (aP (Int.natAbs_add_le _ _)) (jd (k:=200000) (by omega) (by omega))
   generalize a.num*y+b.num*x=N at *
   have g2:=hg N g (by omega) (by omega)
   rw [Int.natAbs_natCast] at g2
   have hp:0<Nat.gcd N.natAbs g:=Nat.gcd_pos_of_pos_right _ hgp
   have hhl:aa (((Nat.gcd N.natAbs g:Nat):Int)).natAbs<=100000:=Nat.le_trans (aP (Nat.le_of_dvd hgp (Nat.gcd_dvd_right _ _))) hgl
   have hdN:((Nat.gcd N.natAbs g:Nat):Int) ∣ N:=Int.ofNat_dvd_left.2 (Nat.gcd_dvd_left _ _)
   have hdb:Nat.gcd N.natAbs g ∣ b.den:=Nat.dvd_trans (Nat.gcd_dvd_right _ _) hgb
   generalize Nat.gcd N.natAbs g=k at *
   have q3:=hq N k (by omega) hdN (by omega) (by omega)
   have q4:=hq b.den k (by omega) (Int.ofNat_dvd.2 hdb) (by rw [cQ];omega) (by omega)
   rw [<- Int.natCast_ediv] at q4
   have m3:=hm x ((b.den/k:Nat):Int) (by omega) (Nat.le_trans (aP (Nat.div_le_self _ _)) (by omega))
   have e:=zM (z:=N/k) (d:=x*((b.den/k:Nat):Int)) (q:=a+b) n1 (by rw [n2];exact Int.natCast_mul _ _)
   rw [<- e]
   rcases three _ _ hdd with ⟨d3,d4⟩ | ⟨d3,d4⟩ | ⟨d3,d4⟩
   . exact vt [ho 14 l1,hb 15 z1,ho 20 l2,hb 21 z2,hc o1,hb 26 d3,hc o2,hb 30 d4,hc hgd,hc o3,hbr 45 d5,hc q1,hc q2,hc m1,hc m2,hc s1,hc g2,hc q3,hc q4,hc m3] (by kernel_rfl)
   all_goals exact vt [ho 14 l1,hb 15 z1,ho 20 l2,hb 21 z2,hc o1,hb 26 d3,hc hgd,hc o3,hbr 45 d5,hc q1,hc q2,hc m1,hc m2,hc s1,hc g2,hc q3,hc q4,hc m3] (by kernel_rfl)
set_option maxHeartbeats 1000000 in
theorem Ip (hf:VP Tryz.prog G 24 [.int .i64 0] (QV 0)) (me:zO Tryz.prog G 59) (hm:xB Tryz.prog G 60) (hg:B8 Tryz.prog G 61) (hq:Kv Tryz.prog G 62):Kt Tryz.prog G 17:=fun a b ha hB=>by
 have o1:=me a.den
 have o2:=me b.den
 have z1:=B9 a
 have k1 := @aQ a.num.natAbs
 have k2 := @aQ b.num.natAbs
 have z2:=B9 b
 have ha1:=ha.1
 have VM:=ha.2
 have pZ:=hB.1
 have qh:=hB.2
 obtain ⟨n1,n2⟩:=Tx a b
 by_cases h0:a=0∨b=0
 . rw [show a*b=0 from by rcases h0 with e | e<;>rw [e]<;>simp [Rat.zero_mul,Rat.mul_zero]]
   have h3:(decide (a=0)=true/\decide (b=0)=true)∨(decide (a=0)=true/\decide (b=0)=false)∨(decide (a=0)=false/\decide (b=0)=true):=by
     by_cases e1:a=0<;>by_cases e2:b=0<;>simp_all
   rcases h3 with ⟨d3,_⟩ | ⟨d3,_⟩ | ⟨d3,d4⟩
   all_goals rw [d3] at z1
   . exact vt [ho 10 k1,hb 11 z1,hc hf] (by kernel_rfl)
   . exact vt [ho 10 k1,hb 11 z1,hc hf] (by kernel_rfl)
   . rw [d4] at z2
     exact vt [ho 10 k1,hb 11 z1,ho 16 k2,hb 17 z2,hc hf] (by kernel_rfl)
 rw [ag (fun e=>h0 (.inl e))] at z1
 rw [ag (fun e=>h0 (.inr e))] at z2
 by_cases hdd:(a.den:Int)=1/\(b.den:Int)=1
 . have d3:=ai hdd.1
   have d4:=ai hdd.2
   have h1:=hm a.num b.num (by omega) (by omega)
   have hs:a*b=((a.num*b.num:Int):Rat):=by rw [Rat.intCast_mul, <- rH hdd.1, <- rH hdd.2]
   have e:=zM (z:=a.num*b.num) (d:=a.den) (q:=a*b) (by rw [hs];rfl) (by rw [hs,hdd.1];rfl)
   rw [<- e]
   exact vt [ho 10 k1,hb 11 z1,ho 16 k2,hb 17 z2,hc o1,hb 23 d3,hc o2,hb 27 d4,hc h1] (by kernel_rfl)
 have g1:VP Tryz.prog G 61 [IV a.num,IV b.den] (IV (Nat.gcd a.num.natAbs b.den:Nat)):=hg a.num b.den (by omega) (by rw [cQ];omega)
 have g2:VP Tryz.prog G 61 [IV b.num,IV a.den] (IV (Nat.gcd b.num.natAbs a.den:Nat)):=hg b.num a.den (by omega) (by rw [cQ];omega)
 have p1:0<Nat.gcd a.num.natAbs b.den:=Nat.gcd_pos_of_pos_right _ b.den_pos
 have p2:0<Nat.gcd b.num.natAbs a.den:=Nat.gcd_pos_of_pos_right _ a.den_pos
 have x1:((Nat.gcd a.num.natAbs b.den:Nat):Int) ∣ a.num:=Int.ofNat_dvd_left.2 (Nat.gcd_dvd_left _ _)
 have x2:((Nat.gcd b.num.natAbs a.den:Nat):Int) ∣ b.num:=Int.ofNat_dvd_left.2 (Nat.gcd_dvd_left _ _)
 have y1:Nat.gcd a.num.natAbs b.den ∣ b.den:=Nat.gcd_dvd_right _ _
 have y2:Nat.gcd b.num.natAbs a.den ∣ a.den:=Nat.gcd_dvd_right _ _
 generalize Nat.gcd a.num.natAbs b.den=g at *
 generalize Nat.gcd b.num.natAbs a.den=k at *
 have l1:aa ((g:Nat):Int).natAbs<=100000:=Nat.le_trans (aP (Nat.le_of_dvd b.den_pos y1)) qh
 have l2:aa ((k:Nat):Int).natAbs<=100000:=Nat.le_trans (aP (Nat.le_of_dvd a.den_pos y2)) VM
 have q1:=hq a.num g (by omega) x1 (by omega) (by omega)
 have q2:=hq b.num k (by omega) x2 (by omega) (by omega)
 have q3:=hq a.den k (by omega) (Int.ofNat_dvd.2 y2) (by rw [cQ];omega) (by omega)
 have q4:=hq b.den g (by omega) (Int.ofNat_dvd.2 y1) (by rw [cQ];omega) (by omega)
 rw [<- Int.natCast_ediv] at q3 q4
 have m1:=hm (a.num/g) (b.num/k) (Nat.le_trans (aP (Int.natAbs_ediv_le_natAbs _ _)) (by omega)) (Nat.le_trans (aP (Int.natAbs_ediv_le_natAbs _ _)) (by omega))
 have m2:=hm ((a.den/k:Nat):Int) ((b.den/g:Nat):Int) (Nat.le_trans (aP (Nat.div_le_self _ _)) (by omega)) (Nat.le_trans (aP (Nat.div_le_self _ _)) (by omega))
 have e:=zM (z:=a.num/g*(b.num/k)) (d:=((a.den/k:Nat):Int)*((b.den/g:Nat):Int)) (q:=a*b) n1 (by rw [n2];exact Int.natCast_mul _ _)
 rw [<- e]
 rcases three _ _ hdd with ⟨d3,d4⟩ | ⟨d3,d4⟩ | ⟨d3,d4⟩
 . exact vt [ho 10 k1,hb 11 z1,ho 16 k2,hb 17 z2,hc o1,hb 23 d3,hc o2,hb 27 d4,hc g1,hc g2,hc q1,hc q2,hc m1,hc q3,hc q4,hc m2] (by kernel_rfl)
 all_goals exact vt [ho 10 k1,hb 11 z1,ho 16 k2,hb 17 z2,hc o1,hb 23 d3,hc g1,hc g2,hc q1,hc q2,hc m1,hc q3,hc q4,hc m2] (by kernel_rfl)
theorem Cc (hn:F7 Tryz.prog G 213) (a:Rat) (Qf:a≠0) (ha:Sm 100000 a):VP Tryz.prog G 217 [QV a] (QV a⁻¹):=by
 have ha1:=ha.1
 have VM:=ha.2
 have x4:a.num≠0:=fun e=>Qf (Rat.num_eq_zero.1 e)
 have e1:=Rat.num_inv a
 have e2:=Rat.den_inv a
 rw [if_neg x4] at e2
 by_cases hs:a.num<0
 . have d1:=ai hs
   have h1:=hn a.num (by omega)
   have h2:=hn a.den (by rw [cQ];omega)
   have e:=zM (z := -(a.den:Int)) (d := -a.num) (q:=a⁻¹) (by rw [e1,Int.sign_eq_neg_one_of_neg hs];omega) (by omega)
   rw [<- e]
   exact vt [hb 5 d1,hc h2,hc h1] (by kernel_rfl)
 . have d1:=ag hs
   have e:=zM (z:=(a.den:Int)) (d:=a.num) (q:=a⁻¹) (by rw [e1,Int.sign_eq_one_of_pos (by omega)];omega) (by omega)
   rw [<- e]
   exact vt [hb 5 d1] (by kernel_rfl)
theorem MI (hn:PI Tryz.prog G 125) (hd:∀ m n,n≠0->aa m<=900000->aa n<=900000->VP Tryz.prog G 129 [W m,W n] (.tup [W (m/n),W (m%n)])) (hs:fL Tryz.prog G 126)
  (hm:∀ a b:Int,aa a.natAbs<=1000000->aa b.natAbs<=1000000->VP Tryz.prog G 60 [IV a,IV b] (IV (a*b))) (hsu:∀ a b:Int,aa a.natAbs<=1000000->aa b.natAbs<=1000000->VP Tryz.prog G 185 [IV a,IV b] (IV (a-b)))
  (o8:∀ z:Int,aa z.natAbs<=1000000->VP Tryz.prog G 96 [IV z] (.int .i64 z.sign)) (a b:Int) (xR:0<b) (hba:b ∣ a) (ha:aa a.natAbs<=900000) (hB:aa b.natAbs<=900000) :
   VP Tryz.prog G 130 [IV a,IV b] (.tup [IV (a/b),IV 0, .int .i64 0]):=by
 have h1:=hn a (by omega)
 have h2:=hn b (by omega)
 have h3:=hd a.natAbs b.natAbs (by omega) ha hB
 have e:a.natAbs/b.natAbs=(a/b).natAbs:=by
   obtain ⟨c,rfl⟩:=hba
   rw [Int.mul_ediv_cancel_left _ (by omega),Int.natAbs_mul,Nat.mul_div_cancel_left _ (by omega)]
 have hw:aa (a/b).natAbs<=900000:=by rw [<- e];exact Nat.le_trans (aP (Nat.div_le_self _ _)) ha
 have h4:=hs (decide (a<0)) (a.natAbs/b.natAbs) (by rw [e];omega)
 have e4:sgn (decide (a<0)) (a.natAbs/b.natAbs)=a/b:=by
   obtain ⟨c,rfl⟩:=hba
   rw [Int.mul_ediv_cancel_left _ (by omega),Int.natAbs_mul,Nat.mul_div_cancel_left _ (by omega)]
   have:decide (b*c<0)=decide (c<0):=by
     congr 1;apply propext
     constructor
     . intro h;rcases Int.lt_or_le c 0 with h1 | h1
       . exact h1
       . have:=Int.mul_nonneg (Int.le_of_lt xR) h1;omega
     . intro h;exact Int.mul_neg_of_pos_of_neg xR h
   rw [this,u5]
 rw [e4] at h4
 have h5:=hm (a/b) b (by omega) (by omega)
 rw [Int.ediv_mul_cancel hba] at h5
 have h6:=hsu a a (by omega) (by omega)
 rw [Int.sub_self] at h6
 have h7:VP Tryz.prog G 96 [IV 0] (.int .i64 0):=o8 0 (by simp [aa,a9])
 have h8:=o8 b (by omega)
 rw [Int.sign_eq_one_of_pos xR] at h8
 have Nw:aa b.natAbs≠0:=fun e=>by have:=bE.1 e;omega
 have d0:decide ((aa b.natAbs:Int)=0)=false:=ag (by omega)
 have l1 := @aQ b.natAbs
 have d1:(!(decide (a<0)==decide (b<0)))=decide (a<0):=by rw [ag (show ¬ b<0 by omega)];cases decide (a<0)<;>rfl
 have w0:IntKind.i64.wrap ((0:Int)*1)=0:=by decide
 rw [<- d1] at h4
 exact vt [hc h1,hc h2,ho 17 l1,hb 18 d0,hc h3,hc h4,hc h5,hc h6,hc h7,hc h8] (by kernel_rfl)
theorem Gp (x:CX) (he:VP Tryz.prog G 19 [V2 x.a,V2 x.b] (.bool (decide (x.a=x.b)))) (h1:aC Tryz.prog G 15 [V2 x.a,V2 x.c] (NV (F9 x.a x.c))) (h2:aC Tryz.prog G 15 [V2 x.b,V2 x.c] (NV (F9 x.b x.c)))
  (hs:VP Tryz.prog G 42 [NV (F9 x.a x.c)] (.int .i64 (az (F9 x.a x.c)))) (hq:VP Tryz.prog G 18 [NV (F9 x.a x.c),NV (F9 x.b x.c)] (.bool (decide (F9 x.a x.c=F9 x.b x.c)))):VP Tryz.prog G 113 [x.av] (.bool x.valid):=by
 unfold CX.valid
 cases Dt:x.mF
 . rw [if_neg (by decide)]
   have d1:(!x.mF)=true:=by rw [Dt];rfl
   exact vt [hb 8 d1,hc he] (by kernel_rfl)
 . rw [if_pos rfl]
   have d1:(!x.mF)=false:=by rw [Dt];rfl
   cases hd:decide (0<az (F9 x.a x.c))
   . exact vt [hb 8 d1,au [6] h1,au [6] h2,hc hs,hb 37 hd] (by kernel_rfl)
   . exact vt [hb 8 d1,au [6] h1,au [6] h2,hc hs,hb 37 hd,hc hq] (by kernel_rfl)
theorem Iq (ht:fY Tryz.prog G 141) (hd:∀ m n,n≠0->aa m<=900000->aa n<=900000->VP Tryz.prog G 300 [W m,W n] (.tup [W (m/n),W (m%n)]))
  (hp:∀ m n,aa m<=1000000->aa n<=1000000->VP Tryz.prog G 292 [W m,W n] (W (m+n))) (hm:∀ m n,n<=m->aa m<=1000000->VP Tryz.prog G 293 [W m,W n] (W (m-n))) (hs:fL Tryz.prog G 260) (a b:Int) (xR:b≠0) (ha:aa a.natAbs<=900000) (hB:aa b.natAbs<=900000) :
   VP Tryz.prog G 305 [IV a,IV b] (.tup [IV (sgn (Ht a b) (dmq a b)),IV (sgn (decide (b<0)) (dmr a b)), .int .i64 0]):=by
 have Vr:b.natAbs≠0:=by omega
 have Nw:aa b.natAbs≠0:=fun e=>Vr (bE.1 e)
 have d0:decide ((aa b.natAbs:Int)=0)=false:=ag (by omega)
 have w1:=Pk a.natAbs b.natAbs
 have w2:=zE a.natAbs b.natAbs
 have w3:=Mb (a.natAbs/b.natAbs)
 have w4:aa (b.natAbs-a.natAbs%b.natAbs)<=aa b.natAbs:=aP (Nat.sub_le _ _)
 have w5:=oD
 have Xh:a.natAbs%b.natAbs<b.natAbs:=Nat.mod_lt _ (Nat.pos_of_ne_zero Vr)
 have Ts:=hp (a.natAbs/b.natAbs) 1 (by omega) (by omega)
 have Di:=hm b.natAbs (a.natAbs%b.natAbs) (Nat.le_of_lt Xh) (by omega)
 have t1:=kp ht b.natAbs (by omega)
 have t2:=kp ht a.natAbs (by omega)
 have Kk:=hd a.natAbs b.natAbs Vr ha hB
 have l1 := @aQ b.natAbs
 have l2 := @aQ (a.natAbs%b.natAbs)
 have hr:=bE (n:=a.natAbs%b.natAbs)
 have s2:=hs (decide (b<0)) (b.natAbs-a.natAbs%b.natAbs) (by omega)
 have s3:=hs (decide (b<0)) (a.natAbs%b.natAbs) (by omega)
 have s0:=hs (Ht a b) (a.natAbs/b.natAbs) (by omega)
 have s1:=hs (Ht a b) (a.natAbs/b.natAbs+1) (by omega)
 unfold dmq dmr
 by_cases o8:Ht a b=true
 . by_cases hr:0<a.natAbs%b.natAbs
   . have d1:decide ((0:Int)<(aa (a.natAbs%b.natAbs):Int))=true:=ai (by omega)
     rw [if_pos ⟨o8,hr⟩,if_pos ⟨o8,hr⟩]
     exact vt [hc t1,ho 14 l1,hb 15 d0,hc t2,hc Kk,hb 31 o8,ho 33 l2,hb 34 d1,bm [([33],⟨us [1],1,false⟩)] Ts (ah.cons (View.pure (aM _)) (ah.cons (Pj (t:=false)) ah.nil)),hc Di,hc s1,hc s2] (by kernel_rfl)
   . have d1:decide ((0:Int)<(aa (a.natAbs%b.natAbs):Int))=false:=ag (by omega)
     rw [if_neg (fun e=>hr e.2),if_neg (fun e=>hr e.2)]
     exact vt [hc t1,ho 14 l1,hb 15 d0,hc t2,hc Kk,hb 31 o8,ho 33 l2,hb 34 d1,hc s0,hc s3] (by kernel_rfl)
 . have hsf:Ht a b=false:=by simpa using o8
   rw [if_neg (fun e=>o8 e.1),if_neg (fun e=>o8 e.1)]
   exact vt [hc t1,ho 14 l1,hb 15 d0,hc t2,hc Kk,hb 31 hsf,hc s0,hc s3] (by kernel_rfl)
end
end Go.Proofs.YtndoagbiakehnaaGreat
end

section
set_option maxRecDepth 100000
namespace Go.VL
theorem Qg (z:Int):eo (decide (z<0)) (digits z.natAbs)=true:=by
 unfold eo
 by_cases h:digits z.natAbs=[]
 . rw [if_pos h]
   have:=jy.1 h
   have : ¬ z<0:=by omega
   simp [this]
 . rw [if_neg h]
   obtain ⟨w,h1,h2⟩:=(na (n:=z.natAbs)).resolve_left h
   rw [List.getLast?_eq_getElem?] at h1
   rw [h1];simpa using h2
section
variable {P:Program} {G:Nat->Option (List AV)}
theorem VN {f:FuncId} (h:∀ neg ws,Wd ws->ws.length<=9223372036854775807->VP P G f [IR neg ws] (.bool (eo neg ws))) (z:Int) (hz:aa z.natAbs<=1000000):VP P G f [IV z] (.bool true):=by
 have:=h (decide (z<0)) (digits z.natAbs) (aH _) (by unfold aa at hz;omega)
 rw [Qg] at this;exact this
theorem Ce {f fv fs fg fo:FuncId} (h:Has P f (gK fv fs fg fo)) (hv:∀ z:Int,aa z.natAbs<=1000000->VP P G fv [IV z] (.bool true)) (hs:Dk P G fs) (hg:B8 P G fg) (ho:zO P G fo):Dl P G f:=fun q hq=>by
 have h1:=hv q.num (by have:=hq.1;omega)
 have h2:=hv q.den (by have:=hq.2;rw [Int.natAbs_natCast];omega)
 have h3:=hs q.den (by have:=hq.2;rw [Int.natAbs_natCast];omega)
 have h4:=hg q.num q.den (by have:=hq.1;omega) (by have:=hq.2;rw [Int.natAbs_natCast];omega)
 have h5:=ho ((Nat.gcd q.num.natAbs (q.den:Int).natAbs:Nat):Int)
 rw [Int.natAbs_natCast] at h4 h5
 have e:Nat.gcd q.num.natAbs q.den=1:=q.reduced
 rw [e] at h4 h5
 rw [Int.sign_eq_one_of_pos (oH q)] at h3
 exact VP.tr h [hc h1,hc h2,hc h3,hc h4,hc h5] (by kernel_rfl)
theorem TI {f fi fm fo fl:FuncId} (h:Has P f (j9 fi fm fo fl)) (hi:zO P G fi) (hm:xB P G fm) (ho:VP P G fo [] (IV 1)) (hl:lK P G fl):Kt P G f:=fun a b ha hb=>by
 obtain ⟨a1,a2⟩:=ha
 obtain ⟨b1,b2⟩:=hb
 have n1:=bF a.num b.num
 have n2:=bF (a.den:Int) (b.den:Int)
 rw [Int.natAbs_natCast,Int.natAbs_natCast] at n2
 have mD:=hl (a.num*b.num) (a.den*b.den) (pQ a b) (by omega) (by omega)
 rw [<- Kq] at mD
 have h1:=Th h a.num a.den b.num b.den (QV (a*b)) (x1:=(a*b).num) (x2:=(a*b).den) rfl hi (hm _ _ (by omega) (by omega)) (hm _ _ (by rw [Int.natAbs_natCast];omega) (by rw [Int.natAbs_natCast];omega)) ho mD
 by_cases hd:(a.den:Int)=1/\(b.den:Int)=1
 . rw [if_pos hd] at h1
   have e:a*b=((a.num*b.num:Int):Rat):=by
     rw [Kq,hd.1,hd.2];show ((a.num*b.num:Int):Rat)/(1:Rat)=_;rw [Rat.div_def,show (1:Rat)⁻¹ = 1 from by decide +kernel,Rat.mul_one]
   rw [e];exact h1
 . rw [if_neg hd] at h1;exact h1
end
end Go.VL
end

section
namespace Go.VL
def mv (q q2 i:Id):Id:=if i=q then q2 else i
theorem acT {q q2:Id}:mv q q2 q=q2:=if_pos rfl
theorem acU {q q2 i:Id} (h:i≠q):mv q q2 i=i:=if_neg h
section
variable {P:Program} {G:Nat->Option (List AV)}
theorem Wk.move {π q:Id} {t:List AV} {σ σ':ae} {n m:Nat} (x3:n<=m)
   (hs:∀ j, σ' j=none∨∃ i b, σ i=some b/\mv q (m :: π) i=j /\ σ' j=some (b.cG (mv q (m :: π)))):Wk G π ⟨t, σ,n⟩ ⟨bK (mv q (m :: π)) t, σ',m+1⟩:=fun own E w a hm=>by
 obtain ⟨Aq,hi,lr,XB⟩:=hm
 have h0:E.μ (m :: π)=none:=(lr.mono x3).at (Nat.le_refl _) (List.suffix_refl _)
 let E':Env:=⟨fun j=>if j=m :: π then E.μ q else E.μ j,E.ok⟩
 have hold:∀ i,i≠m :: π -> E'.μ i=E.μ i:=fun i h=>if_neg h
 have VO:∀ i x,E.μ i=some x->E'.μ i=some x:=fun i x h=>(hold i fun e=>by rw [e,h0] at h;cases h).trans h
 have hμ : ∀ i x,E.μ i=some x->E'.μ (mv q (m :: π) i)=some x:=fun i x h=>by
   by_cases e:i=q
   . subst e;rw [acT];exact (if_pos rfl).trans h
   . rw [acU e];exact VO i x h
 have gu:Adv own E E' w w:=⟨⟨VO,fun b hb=>hb,fun b hb=>rfl⟩,rfl,rfl,rfl,Nat.le_refl _,fun k hk _=>rfl,fun b hb => .inl hb⟩
 refine ⟨E',⟨gu,fun i kN=>hold i fun e=>kN (by rw [e];exact List.suffix_cons _ _)⟩,⟨aK.cG (E:=E) (E':=E') hμ (fun _ h=>h) _ _ Aq,⟨hi.okb,fun j bk hj => ?_,fun j j' x y hj hj' hne hx hy => ?_,hi.glob,hi.new⟩,fun j hj hq => ?_,XB⟩⟩
 . have hj : σ' j=some bk:=hj
   rcases hs j with h1 | ⟨i,b,h1,h2,h3⟩
   . rw [h1] at hj;cases hj
   . rw [h3] at hj
     simp only [Option.some.injEq] at hj
     subst hj;subst h2
     obtain ⟨g,N,cur,ty,hB⟩:=hi.blk i b h1
     refine ⟨g,N,cur,ty,hμ _ _ hB.μ,hB.heap,hB.size, ?_,hB.most,hB.own,hB.ok,hB.no,ry hB.k, ?_⟩
     . rw [show (b.cG (mv q (m :: π))).els.length=b.els.length from e8];exact hB.len
     . rw [show (b.cG (mv q (m :: π))).els=bK (mv q (m :: π)) b.els from rfl,uG]
       exact dC.cG hμ (fun b hb=>hb) hB.row
 . have On:∀ k b, σ k=some b->UR E own w k b:=fun k b h=>hi.blk k b h
   obtain ⟨i,b,h1,h2,_⟩:=(hs j).resolve_left hj
   obtain ⟨i',b',h1',Ns,_⟩:=(hs j').resolve_left hj'
   obtain ⟨g,N,cur,ty,hB⟩:=hi.blk i b h1
   obtain ⟨g',N',Eh,Hy,Bc⟩:=hi.blk i' b' h1'
   have e:=hμ _ _ hB.μ;have e':=hμ _ _ Bc.μ
   rw [h2,hx] at e;rw [Ns,hy] at e'
   refine hi.inj i i' x y (by show σ i≠none;rw [h1];simp) (by show σ i'≠none;rw [h1'];simp) ?_ (by rw [hB.μ,e]) (by rw [Bc.μ,e'])
   rintro rfl
   exact hne (h2.symm.trans Ns)
 . have hj0:j≠m :: π := fun e=>hq m (Nat.lt_succ_self _) (e▸List.suffix_refl _)
   exact (hold j hj0).trans (lr.mono x3 j hj fun k hk=>hq k (Nat.lt_succ_of_lt hk))
theorem Fg.same:∀ t:List AV,Fg t t
 | []=>trivial
 | _::cs=>⟨.inr rfl,Fg.same cs⟩
theorem Wk.toT {π : Id} {s:VS} {t:List AV} {K:List (Id × cN)} {n:Nat} (hd:(K.map (·.1)).Nodup) (h:Wk G π s ⟨t,ae.of K,n⟩):Wk G π s ⟨t,bX.to (x9 K),n⟩ :=
 h.trans (Wk.forget (Fg.same t) (fun j=>by
   cases hj:bX.to (x9 K) j with
   | none=>exact .inl rfl
   | some b=>right;exact (pz hd (uJ hj)).symm) (Nat.le_refl n))
end
end Go.VL
end

section
set_option linter.unusedVariables false
set_option maxRecDepth 100000
namespace Go.VL
open Go.Lib
def iq (n s:Nat):Prop:=s*s<=n/\n<(s+1)*(s+1)
theorem Du {n s x:Nat} (h:iq n s) (hx:x*x<=n):x<=s:=by
 rcases Nat.lt_or_ge s x with hlt | wW
 . exfalso
   have:=Nat.mul_le_mul hlt hlt
   have:=h.2
   simp only [Nat.succ_eq_add_one] at *
   omega
 . exact wW
theorem MJ {n s x:Nat} (h:iq n s) (hx:0<x):s<=(x+n/x)/2:=by
 rw [Nat.le_div_iff_mul_le (by decide)]
 rcases Nat.lt_or_ge (2*s) x with h1 | h1
 . exact Nat.le_trans (by omega:s*2<=x) (Nat.le_add_right _ _)
 . have:2*s-x<=n/x:=by
     rw [Nat.le_div_iff_mul_le hx]
     refine Nat.le_trans ?_ h.1
     obtain ⟨d,hd⟩:∃ d,2*s=x+d:=⟨2*s-x,by omega⟩
     rw [hd,Nat.add_sub_cancel_left]
     rcases Nat.le_total x s with h2 | h2
     . obtain ⟨e,rfl⟩:∃ e,s=x+e:=⟨s-x,by omega⟩
       have:d=x+2*e:=by omega
       subst this
       have e1:(x+2*e)*x=x*x+2*(e*x):=by rw [Nat.add_mul,Nat.mul_assoc]
       have e2:(x+e)*(x+e)=x*x+2*(e*x)+e*e:=by rw [Nat.add_mul,Nat.mul_add,Nat.mul_add,Nat.mul_comm x e];omega
       omega
     . obtain ⟨e,rfl⟩:∃ e,x=s+e:=⟨x-s,by omega⟩
       have:d+e=s:=by omega
       subst this
       have e1:(d+e)*(d+e)=d*d+2*(d*e)+e*e:=by rw [Nat.add_mul,Nat.mul_add,Nat.mul_add,Nat.mul_comm e d];omega
       have e2:d*(d+e+e)=d*d+2*(d*e):=by rw [Nat.mul_add,Nat.mul_add];omega
       omega
   omega
theorem Ir {n s x:Nat} (h:iq n s) (hx:0<x) (hs:s<=x) (hy:x<=(x+n/x)/2):x=s:=by
 refine Nat.le_antisymm (Du h ?_) hs
 rw [Nat.le_div_iff_mul_le (by decide)] at hy
 have:x<=n/x:=by omega
 exact (Nat.le_div_iff_mul_le hx).1 this
abbrev TJ (ft fd fp fa fc fs:Nat):bJ:=(.block 2 (cS [oF 24 1 1,oL 25 1 24,oC 26 ft 25,oM 27 5,lB 28 fd 26 27,oM 23 28,oE 29 23 0,oE 30 23 1,oM 6 29,oM 7 30] (cS [oM 31 5,oM 32 6,lB 33 fp 31 32,oC 34 fa 33,oM 8 34] (.seq (cS [oM 35 8,oM 36 5,lB 37 fc 35 36,dr 38 .geq 37 0] (.cond (.t 38) (cS [oM 39 5,⟨some 40,.call (.f fs) [(.c (.bool false)),(.t 39)],none⟩,oS 2 2 40,oI 3 0] .ret) .skip)) (cR [oM 41 8,oM 5 41])))))
def Gq (i0 i1:Id) (x:Nat):List AV:=[.top, .ref i0 0 0, .ref i1 0 0, .int .i64 0, .top,W x]++List.replicate 36 .top
theorem zY {ρ : Id->Id} {i0 i1:Id} {x:Nat}:bK ρ (Gq i0 i1 x)=Gq (ρ i0) (ρ i1) x:=by
 unfold Gq
 simp only [cW,aT,bn,eI,PU.fixed,yh,je]
def acV:Nat->Id
 | 1=>[0]
 | _=>[1]
def A6 (i0 i1:Id) (z:Int) (r:AV):List (Id × cN):=[(i0,⟨[IV z],2,false⟩),(i1,⟨[r],2,false⟩)]
def MK (i1:Id):List AV:=[.top, .top, .ref i1 0 0, .int .i64 0]++List.replicate 38 .top
theorem Qh {ρ : Id->Id} {i1:Id}:bK ρ (MK i1)=MK (ρ i1):=by
 unfold MK
 simp only [cW,aT,bn,eI,PU.fixed,yh,je]
section
variable {P:Program} {G:Nat->Option (List AV)}
theorem Is {ft fd fp fa fc fs:FuncId} (z:Int) (x0 s:Nat) (hs:iq z.natAbs s) (h0:0<s) (FD:s<=x0) (N:Nat) (hN:x0<=N) (h4:VP P G ft [W z.natAbs] (W z.natAbs)) (h5:∀ n,0<n->n<=N->VP P G fd [W z.natAbs,W n] (.tup [W (z.natAbs/n),W (z.natAbs%n)]))
   (h6:∀ n,s<=n->n<=N->VP P G fp [W n,W (z.natAbs/n)] (W (n+z.natAbs/n))) (h7:∀ n,s<=n->n<=N->VP P G fa [W (n+z.natAbs/n)] (W ((n+z.natAbs/n)/2))) (h8:∀ n,s<=n->n<=N->VP P G fc [W ((n+z.natAbs/n)/2),W n] (.int .i64 (de ((n+z.natAbs/n)/2) n))) (h9:VP P G fs [.bool false,W s] (IV (s:Int)))
   (m0:Nat):VW P G [] (.loop (TJ ft fd fp fa fc fs)) (fun e s'=>e = .ret/\Wk G [] s' ⟨MK [1],ae.of [([1],⟨[IV (s:Int)],2,false⟩)],m0+30*(x0-s+2)⟩) ⟨Gq [0] [1] x0,ae.of (A6 [0] [1] z (.agg [.bool false, .nils])),m0⟩:=by
 refine VW.sN (α := Nat × Nat) (fun y=>⟨Gq [0] [1] y.1,ae.of (A6 [0] [1] z (.agg [.bool false, .nils])),y.2⟩) (fun y=>s<=y.1/\y.1<=x0/\y.2<=m0+30*(x0-y.1)) (fun y=>y.1) (x0,m0) (Wk.refl _ _ _) ⟨FD,Nat.le_refl _,by simp⟩ ?_
 rintro ⟨x,m⟩ ⟨XQ,hxx,hm⟩
 simp only [] at XQ hxx hm ⊢
 have hx:0<x:=by omega
 have a5:=h5 x hx (by omega)
 have a6:=h6 x XQ (by omega)
 have a7:=h7 x XQ (by omega)
 have a8:=h8 x XQ (by omega)
 have wW:=MJ hs hx
 generalize hy:(x+z.natAbs/x)/2=y at *
 by_cases hlt:y<x
 . have c:decide (de y x≥0)=false:=ag (by unfold de eP;split<;>(try split)<;>omega)
   refine VW.tr (π := []) (n:=m) acV [hc h4,hc a5,hc a6,hc a7,hc a8,hb 38 c] (Gq [1] [2] x) (A6 [1] [2] z (.agg [.bool false, .nils])) .normal (Gq [1] [2] y) (A6 [1] [2] z (.agg [.bool false, .nils])) 30 (by kernel_rfl)
     zY (by unfold A6;simp only [aU,bh,bM,aT,bn,PU.fixed];rfl) zY (by unfold A6;simp only [aU,bh,bM,aT,bn,PU.fixed];rfl) (by simp [A6]) fun s' hw => ?_
   exact ⟨(y,m+30),⟨wW,by simp only [];omega,by simp only [];omega⟩,hlt,hw⟩
 . have he:x=s:=Ir hs hx XQ (by omega)
   subst he
   have c:decide (de y x≥0)=true:=ai (by unfold de eP;split<;>(try split)<;>omega)
   refine VW.tr (π := []) (n:=m) acV [hc h4,hc a5,hc a6,hc a7,hc a8,hb 38 c,hc h9] (Gq [1] [2] x) (A6 [1] [2] z (.agg [.bool false, .nils])) .ret (MK [2]) [([2],⟨[IV (x:Int)],2,false⟩)] 30 (by kernel_rfl)
     zY (by unfold A6;simp only [aU,bh,bM,aT,bn,PU.fixed];rfl) Qh (by simp only [aU,bh,bM,aT,bn,PU.fixed];rfl) (by simp [A6]) fun s' hw => ?_
   exact ⟨rfl,hw.trans (Wk.forget (Fg.same _) (fun j => .inr rfl) (by omega))⟩
theorem zZ {n:Nat} (h:n≠0):∃ a t,digits n=a++[t]/\t≠0/\t<ak/\n<2 ^ (32*a.length+ee t)/\a.length+1=aa n:=by
 rcases na (n:=n) with h0 | ⟨t,ht,ht0⟩
 . exact absurd (jy.1 h0) h
 . obtain ⟨a,ha⟩:=List.getLast?_eq_some_iff.1 ht
   have TK:t<ak:=aH n t (by rw [ha];simp)
   refine ⟨a,t,ha,ht0,TK, ?_,by unfold aa;rw [ha];simp⟩
   have hv:=aE n
   rw [ha,bq] at hv
   have sz:val a<ak ^ a.length:=di (fun w hw=>aH n w (by rw [ha];exact List.mem_append_left _ hw))
   have hb:=(mz TK (Nat.pos_of_ne_zero ht0)).1
   have e:val [t]=t:=by simp [val]
   rw [e] at hv
   have h32:ak=2 ^ 32:=rfl
   rw [Nat.pow_add,Nat.pow_mul, <- h32, <- hv]
   calc val a+ak ^ a.length*t<ak ^ a.length+ak ^ a.length*t:=Nat.add_lt_add_right sz _
     _=ak ^ a.length*(t+1):=by rw [Nat.mul_add,Nat.mul_one,Nat.add_comm]
     _<=ak ^ a.length*2 ^ ee t:=Nat.mul_le_mul_left _ hb
theorem z5 (n:Nat):digits (2 ^ n)=List.replicate (n/32) 0++[2 ^ (n%32)]:=by
 have hlt:2 ^ (n%32)<ak:=by
   have:n%32<32:=Nat.mod_lt _ (by decide)
   exact Nat.pow_lt_pow_right (by decide) this
 have hv:val (List.replicate (n/32) 0++[2 ^ (n%32)])=2 ^ n:=by
   rw [bq,lY (by intro w hw;exact (List.mem_replicate.1 hw).2),List.length_replicate]
   have e:val [2 ^ (n%32)]=2 ^ (n%32):=by simp [val]
   have h32:ak=2 ^ 32:=rfl
   rw [e,Nat.zero_add,h32, <- Nat.pow_mul, <- Nat.pow_add,Nat.div_add_mod]
 rw [<- hv]
 exact gp (by
   intro w hw
   rcases List.mem_append.1 hw with h | h
   . rw [(List.mem_replicate.1 h).2];exact bx
   . rw [List.mem_singleton.1 h];exact hlt) (.inr ⟨2 ^ (n%32),by simp,Nat.ne_of_gt (Nat.two_pow_pos _)⟩)
end
end Go.VL
end

section
set_option linter.unusedVariables false
set_option maxRecDepth 100000
namespace Go.VL
open Go.Lib
theorem rL {σ : ae} {q:Id} {o:List Nat} {i x:Nat} (h : σ q=some ⟨us o,1,false⟩) (hi:o[i]? = some x) (p:Id):bu σ p (.load false 1 (.ref q i 0))=some { val := .int .u32 (x:Int),rd:=[q] }:=fZ h hi
theorem vq {σ : ae} {q:Id} {o:List Nat} {i x:Nat} (h : σ q=some ⟨us o,1,false⟩) (hi:i<o.length) (p:Id):bu σ p (.store 1 (.ref q i 0) (.int .u32 (x:Int)))=some { val := .tup [],rd:=[q],up:=[(q,some ⟨us (o.set i x),1,false⟩)] }:=bC h hi
theorem fO {ρ : Id->Id} {ws:List Nat}:bK ρ (us ws)=us ws:=Ii ws ρ
abbrev Yq:bJ:=(.seq (cS [oM 3 0,oN 4 3,dr 5 .gtr 4 0,oM 6 5,gM 7 0 6 true,gM 8 0 6 true,gN 9 8 6 true,⟨some 10,.bin .sub .int (.t 9) (.c (.int .i64 1)),some (6,true)⟩,⟨some 11,.iaddrS 1 (.t 7) (.t 10),some (6,true)⟩,gL 12 1 11 6 true,⟨some 13,.bin .eql .int (.t 12) (.c (.int .u32 0)),some (6,true)⟩,Fs 14 6 13] (.cond (.t 14) .skip (.exit 0))) (.block 1 (cR [oM 15 0,oM 16 0,oN 17 16,dr 18 .sub 17 1,⟨some 19,.slice 1 (.t 15) none (some (.t 18)) none,none⟩,oM 0 19])))
def Nz (q:Id) (k:Nat):List AV := .osl q 1 0 k false::List.replicate 20 .top
theorem rM {ρ : Id->Id} {q:Id} {k:Nat}:bK ρ (Nz q k)=Nz (ρ q) k:=by
 unfold Nz
 simp only [aT,eI,vg]
abbrev uB (q:Id) (ws:List Nat):Id × cN:=(q,⟨us ws,1,false⟩)
section
variable {P:Program} {G:Nat->Option (List AV)}
theorem ML (ws:List Nat) (hwd:Wd ws) (k0:Nat) (Hk:k0<=ws.length) (hl:ws.length<=1000000) :
   VW P G [0] (.loop Yq) (fun e s=>e = .exit 0/\Wk G [0] s ⟨Nz [1] (aa (val (ws.take k0))),bX.to (x9 [uB [1] ws]),1000000000⟩) ⟨Nz [1] k0,ae.of [uB [1] ws],1000⟩:=by
 refine VW.sN (α := Nat × Nat) (fun x=>⟨Nz [1] x.1,ae.of [uB [1] ws],x.2⟩) (fun x=>x.1<=k0/\val (ws.take x.1)=val (ws.take k0)/\x.2+30*x.1<=1000+30*k0) (fun x=>x.1) (k0,1000) (Wk.refl _ _ _) ⟨Nat.le_refl _,rfl,Nat.le_refl _⟩ ?_
 rintro ⟨k,n⟩ ⟨hk,hv,hn⟩
 simp only [] at hk hv hn ⊢
 by_cases h0:k=0
 . subst h0
   have d0:decide ((((0:Nat):Int))>0)=false:=by decide
   have e:aa (val (ws.take k0))=0:=by rw [<- hv];simp [val,aa,a9]
   rw [e]
   refine VW.tr (π := [0]) (n:=n) (fun _=>[1]) [hb 5 d0] (Nz [1] 0) [uB [1] ws] (.exit 0) (Nz [1] 0) [uB [1] ws] 30 (by kernel_rfl)
     rM (by simp only [aU,bh,bM,fO];rfl) rM (by simp only [aU,bh,bM,fO];rfl) (by simp) fun s hw=>⟨rfl, ?_⟩
   exact Wk.toT (by simp) (hw.trans (Wk.forget (Fg.same _) (fun j => .inr rfl) (by omega)))
 . obtain ⟨j,rfl⟩:∃ j,k=j+1:=⟨k-1,by omega⟩
   obtain ⟨w,Vo⟩:∃ w,ws[j]? = some w:=⟨ws[j],by rw [List.getElem?_eq_getElem]⟩
   have d0:decide ((((j+1:Nat)):Int)>0)=true:=ai (by omega)
   have w10:IntKind.i64.wrap (((j+1:Nat):Int)-1)=(j:Int):=by rw [IntKind.wrap_i64];omega
   have a11:bG 1 (.osl [1] 1 0 (j+1) false) (.int .i64 (j:Int))=some (.ref [1] j 0):=bI (by omega)
   have l12:∀ (σ : ae) (p:Id),(∀ y∈[uB [1] ws], σ y.1=some y.2)->bu σ p (.load false 1 (.ref [1] j 0))=some { val := .int .u32 (w:Int),rd:=[[1]] }:=fun σ p hσ => rL (hσ (uB [1] ws) (by simp)) Vo p
   have J6:ws.take (j+1)=ws.take j++[w]:=by
     have:=List.take_add_one (l:=ws) (i:=j)
     rw [Vo] at this
     simpa using this
   by_cases hz:w=0
   . subst hz
     have d13:decide ((((0:Nat):Int))=0)=true:=by decide
     have s19:∀ (σ : ae) (p:Id),(∀ y∈([]:List (Id × cN)), σ y.1=some y.2)->bu σ p (.slice 1 (.osl [1] 1 0 (j+1) false) none (some (.int .i64 (j:Int))) none)=some { val := .osl [1] 1 0 j false }:=fun σ p _=>by
       show mQ σ 1 (.osl [1] 1 0 (j+1) false) none (some (.int .i64 (j:Int))) none (fC 1 (.osl [1] 1 0 (j+1) false) none (some (.int .i64 (j:Int))) none)=_
       rw [tz (by omega)];rfl
     refine VW.tr (π := [0]) (n:=n) (fun _=>[1]) [hb 5 d0,hw 10 w10,ho 11 a11, .st 12 _ _ _ l12,hb 13 d13,hw 18 w10, .st 19 _ _ _ s19] (Nz [1] (j+1)) [uB [1] ws] .normal (Nz [1] j) [uB [1] ws] 30 (by kernel_rfl)
       rM (by simp only [aU,bh,bM,fO];rfl) rM (by simp only [aU,bh,bM,fO];rfl) (by simp) fun s hw => ?_
     exact ⟨(j,n+30),⟨by simp only [];omega,by simp only [];rw [<- hv,J6,gq],by simp only [];omega⟩,by simp only [];omega,hw⟩
   . have d13:decide ((w:Int)=0)=false:=ag (by omega)
     have e:aa (val (ws.take k0))=j+1:=by
       rw [<- hv]
       unfold aa
       rw [gp (gD hwd (j+1)) (.inr ⟨w,by rw [J6];simp,hz⟩),List.length_take]
       omega
     rw [e]
     refine VW.tr (π := [0]) (n:=n) (fun _=>[1]) [hb 5 d0,hw 10 w10,ho 11 a11, .st 12 _ _ _ l12,hb 13 d13] (Nz [1] (j+1)) [uB [1] ws] (.exit 0) (Nz [1] (j+1)) [uB [1] ws] 30 (by kernel_rfl)
       rM (by simp only [aU,bh,bM,fO];rfl) rM (by simp only [aU,bh,bM,fO];rfl) (by simp) fun s hw=>⟨rfl, ?_⟩
     exact Wk.toT (by simp) (hw.trans (Wk.forget (Fg.same _) (fun j => .inr rfl) (by omega)))
theorem VR {f:FuncId} (h:Has P f dX) (ws:List Nat) (hw:Wd ws) (k0:Nat) (Hk:k0<=ws.length) (hl:ws.length<=1000000) (p q:Id) :
   aw P G f [.osl q 1 0 k0 false] p [uB q ws] { val := .osl q 1 0 (aa (val (ws.take k0))) false,rd:=[q] } :=
 aw.trs (p:=p) h (fun _=>q) [.lp [0] _ _ _ _ _ _ _ _ (ML ws hw k0 Hk hl)] [.osl [1] 1 0 k0 false] [uB [1] ws] (.osl [1] 1 0 (aa (val (ws.take k0))) false) (by kernel_rfl) rfl (by simp only [aU,bh,bM,fO];rfl) rfl (by simp)
abbrev acX:bJ:=(.seq (cS [oM 21 8,oM 22 1,oN 23 22,oT 24 .lss 21 23] (.cond (.t 24) .skip (.exit 2))) (.seq (.block 3 (.seq (.reg (some []) [oM 27 7,oM 28 5,oM 29 6,oM 30 8,oT 31 .add 29 30,oA 32 1 28 31,oL 33 1 32,oK 34 .u64 33,oT 35 .add 27 34,oM 36 0,oM 37 6,oA 38 1 36 37,oL 39 1 38,oK 40 .u64 39,oM 41 1,oM 42 8,oA 43 1 41 42,oL 44 1 43,oK 45 .u64 44,oT 46 .mul 40 45,oT 47 .add 35 46,oM 7 47]) (cS [oM 48 5,oM 49 6,oM 50 8,oT 51 .add 49 50,oM 52 7,oK 53 .u32 52,oA 54 1 48 51,oS 1 54 53] (cR [oM 55 7,⟨some 56,.bin .shr .int (.t 55) (.c (.int .u64 32)),none⟩,oM 7 56])))) (cR [oM 25 8,dr 26 .add 25 1,oM 8 26])))
abbrev acY:bJ:=(.seq (cS [oM 15 6,oM 16 0,oN 17 16,oT 18 .lss 15 17] (.cond (.t 18) .skip (.exit 0))) (.seq (.block 1 (cS [⟨some 7,.mv (.c (.int .u64 0)),none⟩] (.seq (cS [oI 8 0] (.block 2 (.loop acX))) (cR [oM 57 5,oM 58 6,oM 59 1,oN 60 59,oT 61 .add 58 60,oM 62 7,oK 63 .u32 62,oA 64 1 57 61,oS 1 64 63])))) (cR [oM 19 6,dr 20 .add 19 1,oM 6 20])))
def Gr (q1 q2:Id) (k L:Nat) (i:Nat) (c j:AV):List AV:=[.osl q1 1 0 k false, .osl q1 1 0 k false, .top, .top, .top, .osl q2 1 0 L false, .int .i64 (i:Int),c,j]++List.replicate 58 .top
theorem nh {ρ : Id->Id} {q1 q2:Id} {k L i:Nat} {c j:AV}:bK ρ (Gr q1 q2 k L i c j)=Gr (ρ q1) (ρ q2) k L i (c.cG ρ) (j.cG ρ):=by
 unfold Gr
 simp only [cW,aT,bn,eI,vg,je]
 rfl
def tmK (q1 q2:Id):Nat->Id
 | 1=>q1
 | _=>q2
theorem Qi {L X m:Nat} (hX:X<ak ^ m):val ((pad L X).drop m)=0:=by
 by_cases hL:L<=m
 . rw [List.drop_eq_nil_of_le (by rw [cP];exact hL)];rfl
 . have h1:val (pad L X)=X:=bZ (Nat.lt_of_lt_of_le hX (Nat.pow_le_pow_right bx (by omega)))
   have h2:=bq ((pad L X).take m) ((pad L X).drop m)
   rw [List.take_append_drop,h1,List.length_take,cP,Nat.min_eq_left (by omega)] at h2
   rcases Nat.eq_zero_or_pos (val ((pad L X).drop m)) with h | h
   . exact h
   . exfalso
     have:=Nat.mul_le_mul_left (ak ^ m) h
     simp only [Nat.succ_eq_add_one,Nat.zero_add,Nat.mul_one] at this
     omega
theorem TL {o:List Nat} {m:Nat} (hw:Wd o) (hm:m<=o.length) (h:val (o.drop m)=0):val o<ak ^ m:=by
 have h2:=bq (o.take m) (o.drop m)
 rw [List.take_append_drop,h,Nat.mul_zero,Nat.add_zero] at h2
 have h3:=di (gD hw m)
 rw [List.length_take,Nat.min_eq_left hm] at h3
 omega
theorem TP (ws:List Nat) (HO:Wd ws) (k:Nat) (hk:k<=ws.length) (hk2:k<=10000) (i a X S:Nat) (ha:ws[i]? = some a) (hik:i<k) (hX:X<ak ^ (i+k)) (hS:S=X+ak ^ i*(a*val (ws.take k))) :
   VW P G [0] (.loop acX) (fun e s=>e = .exit 2/\Wk G [0] s ⟨Gr [1] [2] k (k+k) i (.int .u64 ((S/ak ^ (i+k):Nat):Int)) .top,bX.to (x9 [uB [1] ws,uB [2] (pad (k+k) (S%ak ^ (i+k)))]),1000000⟩)
     ⟨Gr [1] [2] k (k+k) i (.int .u64 0) (.int .i64 0),ae.of [uB [1] ws,uB [2] (pad (k+k) X)],1000⟩:=by
 have hX2:X<ak ^ (k+k):=Nat.lt_of_lt_of_le hX (Nat.pow_le_pow_right bx (by omega))
 refine VW.sN (α := Nat × List Nat × Nat) (fun x=>⟨Gr [1] [2] k (k+k) i (.int .u64 (x.2.2:Int)) (.int .i64 (x.1:Int)),ae.of [uB [1] ws,uB [2] x.2.1],1000+60*x.1⟩)
   (fun x=>x.1<=k/\x.2.1.length=k+k/\Wd x.2.1/\x.2.2<ak/\x.2.1.drop (i+k)=(pad (k+k) X).drop (i+k)/\val x.2.1+ak ^ (i+x.1)*x.2.2=X+ak ^ i*(a*val (ws.take x.1))) (fun x=>k-x.1) (0,pad (k+k) X,0) (Wk.refl _ _ _) ⟨Nat.zero_le _,cP _ _,iS _ _,bx,rfl,by simp [val,bZ hX2]⟩ ?_
 rintro ⟨j,o',c⟩ ⟨hj,AZ,tu,hc,hz,hv'⟩
 simp only [] at hj AZ tu hc hz hv' ⊢
 have mN:=HO a (List.mem_of_getElem? ha)
 by_cases tW:j<k
 . obtain ⟨b,Ho⟩:∃ b,ws[j]? = some b:=⟨_,List.getElem?_eq_getElem (by omega)⟩
   have xy:=HO b (List.mem_of_getElem? Ho)
   obtain ⟨z,O7⟩:∃ z,o'[i+j]? = some z:=⟨_,List.getElem?_eq_getElem (by rw [AZ];omega)⟩
   have Kb:=tu z (List.mem_of_getElem? O7)
   have d24:decide ((j:Int)<(k:Int))=true:=ai (by omega)
   have w31:=iG i j (by omega)
   have TQ:bG 1 (.osl [2] 1 0 (k+k) false) (.int .i64 ((i+j:Nat):Int))=some (.ref [2] (i+j) 0):=bI (by omega)
   have a38:bG 1 (.osl [1] 1 0 k false) (.int .i64 (i:Int))=some (.ref [1] i 0):=bI hik
   have a43:bG 1 (.osl [1] 1 0 k false) (.int .i64 (j:Int))=some (.ref [1] j 0):=bI tW
   have l33:∀ (σ : ae) (p:Id),(∀ y∈[uB [2] o'], σ y.1=some y.2)->bu σ p (.load false 1 (.ref [2] (i+j) 0))=some { val := .int .u32 (z:Int),rd:=[[2]] }:=fun σ p hσ => rL (hσ (uB [2] o') (by simp)) O7 p
   have l39:∀ (σ : ae) (p:Id),(∀ y∈[uB [1] ws], σ y.1=some y.2)->bu σ p (.load false 1 (.ref [1] i 0))=some { val := .int .u32 (a:Int),rd:=[[1]] }:=fun σ p hσ => rL (hσ (uB [1] ws) (by simp)) ha p
   have l44:∀ (σ : ae) (p:Id),(∀ y∈[uB [1] ws], σ y.1=some y.2)->bu σ p (.load false 1 (.ref [1] j 0))=some { val := .int .u32 (b:Int),rd:=[[1]] }:=fun σ p hσ => rL (hσ (uB [1] ws) (by simp)) Ho p
   have f1:=aW a mN
   have f2:=aW b xy
   have f3:=aW z Kb
   have f4:=FH a b mN xy
   have hle:=Dd mN xy
   have f5:=kj c z (by unfold ak at Kb hc;omega)
   have f6:=kj (c+z) (a*b) (by unfold ak at Kb hc;omega)
   have hc':(c+z+a*b)/ak<ak:=by unfold ak at Kb hc ⊢;omega
   have f8:IntKind.u32.wrap ((c+z+a*b:Nat):Int)=(((c+z+a*b)%ak:Nat):Int):=o7 _
   have h56:bo .shr .int (.int .u64 ((c+z+a*b:Nat):Int)) (.int .u64 32)=some (.int .u64 (((c+z+a*b)/ak:Nat):Int)):=ki _
   have s54:∀ (σ : ae) (p:Id),(∀ y∈[uB [2] o'], σ y.1=some y.2)->bu σ p (.store 1 (.ref [2] (i+j) 0) (.int .u32 (((c+z+a*b)%ak:Nat):Int)))=some { val := .tup [],rd:=[[2]],up:=[([2],some ⟨us (o'.set (i+j) ((c+z+a*b)%ak)),1,false⟩)] }:=fun σ p hσ => vq (hσ (uB [2] o') (by simp)) (by rw [AZ];omega) p
   have Ka:=aF j (by omega)
   have hst:=wB (o:=pad (k+k) X) (x:=a) (y:=b) (s:=c+z+a*b) O7 (by rw [bZ hX2];exact hv') (by omega)
   rw [bZ hX2] at hst
   refine VW.tr (π := [0]) (n:=1000+60*j) (tmK [1] [2]) [hb 24 d24,hw 31 w31,ho 32 TQ, .st 33 _ _ _ l33,hw 34 f3 .u64,hw 35 f5 .u64,ho 38 a38, .st 39 _ _ _ l39,hw 40 f1 .u64,ho 43 a43, .st 44 _ _ _ l44,hw 45 f2 .u64,hw 46 f4 .u64,hw 47 f6 .u64,hw 51 w31,hw 53 f8 .u32,ho 54 TQ, .st 100054 _ _ _ s54,ho 56 h56,hw 26 Ka]
     (Gr [1] [2] k (k+k) i (.int .u64 (c:Int)) (.int .i64 (j:Int))) [uB [1] ws,uB [2] o'] .normal (Gr [1] [2] k (k+k) i (.int .u64 (((c+z+a*b)/ak:Nat):Int)) (.int .i64 ((j+1:Nat):Int))) [uB [1] ws,uB [2] (o'.set (i+j) ((c+z+a*b)%ak))] 60 (by kernel_rfl)
     nh (by simp only [aU,bh,bM,fO];rfl) nh (by simp only [aU,bh,bM,fO];rfl) (by simp) fun s hw => ?_
   refine ⟨(j+1,o'.set (i+j) ((c+z+a*b)%ak),(c+z+a*b)/ak),⟨by simp only [];omega,by simp [AZ],tp tu (Nat.mod_lt _ bx),hc', ?_, ?_⟩,by simp only [];omega, ?_⟩
   . simp only [];rw [List.drop_set_of_lt (by omega)];exact hz
   . show _=X+ak ^ i*(a*val (ws.take (j+1)))
     rw [aA Ho];exact hst
   . have e:1000+60*j+60=1000+60*(j+1):=by omega
     simp only [];rw [<- e];exact hw
 . have XH:j=k:=by omega
   subst XH
   have d24:decide ((j:Int)<(j:Int))=false:=ag (by omega)
   have ait:=TL (m:=i+j) tu (by omega) (by rw [hz];exact Qi hX)
   have Xg:=(Nat.div_mod_unique (a:=S) (d:=c) (c:=val o') (b:=ak ^ (i+j)) (Nat.pow_pos bx)).2 ⟨by rw [hS, <- hv'],ait⟩
   have hoo:=ko tu
   rw [AZ, <- Xg.2] at hoo
   rw [hoo,Xg.1]
   refine VW.tr (π := [0]) (n:=1000+60*j) (tmK [1] [2]) [hb 24 d24]
     (Gr [1] [2] j (j+j) i (.int .u64 (c:Int)) (.int .i64 (j:Int))) [uB [1] ws,uB [2] o'] (.exit 2) (Gr [1] [2] j (j+j) i (.int .u64 (c:Int)) .top) [uB [1] ws,uB [2] o'] 60 (by kernel_rfl)
     nh (by simp only [aU,bh,bM,fO];rfl) nh (by simp only [aU,bh,bM,fO];rfl) (by simp) fun s hw=>⟨rfl, ?_⟩
   exact Wk.toT (by simp) (hw.trans (Wk.forget (Fg.same _) (fun j => .inr rfl) (by omega)))
theorem Qj (ws:List Nat) (HO:Wd ws) (k:Nat) (hk:k<=ws.length) (hk2:k<=10000) :
   VW P G [0] (.loop acY) (fun e s=>e = .exit 0/\Wk G [0] s ⟨Gr [1] [6,0] k (k+k) k .top .top,bX.to (x9 [uB [1] ws,uB [6,0] (pad (k+k) (val (ws.take k)*val (ws.take k)))]),1000000000000⟩)
     ⟨Gr [1] [6,0] k (k+k) 0 .top .top,ae.of [uB [1] ws,uB [6,0] (pad (k+k) 0)],1000⟩:=by
 have hvk:val (ws.take k)<ak ^ k:=by
   have:=di (gD HO k)
   rwa [List.length_take,Nat.min_eq_left hk] at this
 refine VW.sN (α := Nat) (fun i=>⟨Gr [1] [6,0] k (k+k) i .top .top,ae.of [uB [1] ws,uB [6,0] (pad (k+k) (val (ws.take i)*val (ws.take k)))],1000+1000100*i⟩)
   (fun i=>i<=k) (fun i=>k-i) 0 (by simp only [List.take_zero,val,Nat.zero_mul];exact Wk.refl _ _ _) (Nat.zero_le _) ?_
 intro i hi
 by_cases hik:i<k
 . obtain ⟨a,ha⟩:∃ a,ws[i]? = some a:=⟨_,List.getElem?_eq_getElem (by omega)⟩
   have Eu:val (ws.take i)<ak ^ i:=by
     have:=di (gD HO i)
     rwa [List.length_take,Nat.min_eq_left (by omega)] at this
   have hX:val (ws.take i)*val (ws.take k)<ak ^ (i+k):=by rw [Nat.pow_add];exact Nat.mul_lt_mul'' Eu hvk
   have hS:val (ws.take (i+1))*val (ws.take k)=val (ws.take i)*val (ws.take k)+ak ^ i*(a*val (ws.take k)):=by rw [aA ha,Nat.add_mul,Nat.mul_assoc]
   have hl:=TP (P:=P) (G:=G) ws HO k hk hk2 i a _ _ ha hik hX hS
   have hS2:val (ws.take (i+1))*val (ws.take k)<ak ^ (i+k+1):=by
     have h1:val (ws.take (i+1))<ak ^ (i+1):=by
       have:=di (gD HO (i+1))
       rwa [List.length_take,Nat.min_eq_left (by omega)] at this
     have:=Nat.mul_lt_mul'' h1 hvk
     rw [<- Nat.pow_add] at this
     rwa [show i+k+1=i+1+k by omega]
   generalize hSS:val (ws.take (i+1))*val (ws.take k)=S at *
   generalize val (ws.take i)*val (ws.take k)=X at *
   have hSc:S/ak ^ (i+k)<ak:=by
     rw [Nat.div_lt_iff_lt_mul (Nat.pow_pos bx), <- Nat.pow_succ'];exact hS2
   have hSm:S%ak ^ (i+k)<ak ^ (i+k):=Nat.mod_lt _ (Nat.pow_pos bx)
   have uf:S%ak ^ (i+k)<ak ^ (k+k):=Nat.lt_of_lt_of_le hSm (Nat.pow_le_pow_right bx (by omega))
   obtain ⟨y,hy⟩:∃ y,(pad (k+k) (S%ak ^ (i+k)))[i+k]? = some y:=⟨_,List.getElem?_eq_getElem (by rw [cP];omega)⟩
   have Me:=tq (by rw [bZ uf];exact hSm) hy
   subst Me
   have FF:(pad (k+k) (S%ak ^ (i+k))).set (i+k) (S/ak ^ (i+k))=pad (k+k) S:=by
     have h1:=rE (x:=S/ak ^ (i+k)) hy
     rw [bZ uf,Nat.mul_zero,Nat.add_zero,Nat.mod_add_div] at h1
     have h2:=ko (tp (iS (k+k) (S%ak ^ (i+k))) (i:=i+k) hSc)
     rw [h1,List.length_set,cP] at h2
     exact h2.symm
   have d18:decide ((i:Int)<(k:Int))=true:=ai (by omega)
   have w61:=iG i k (by omega)
   have f63:IntKind.u32.wrap ((S/ak ^ (i+k):Nat):Int)=((S/ak ^ (i+k):Nat):Int):=by rw [o7,Nat.mod_eq_of_lt hSc]
   have a64:bG 1 (.osl [2] 1 0 (k+k) false) (.int .i64 ((i+k:Nat):Int))=some (.ref [2] (i+k) 0):=bI (by omega)
   have s64:∀ (σ : ae) (p:Id),(∀ y∈[uB [2] (pad (k+k) (S%ak ^ (i+k)))], σ y.1=some y.2)->bu σ p (.store 1 (.ref [2] (i+k) 0) (.int .u32 ((S/ak ^ (i+k):Nat):Int)))=some { val := .tup [],rd:=[[2]],up:=[([2],some ⟨us (pad (k+k) S),1,false⟩)] }:=fun σ p hσ => by
     rw [<- FF];exact vq (hσ (uB [2] (pad (k+k) (S%ak ^ (i+k)))) (by simp)) (by rw [cP];omega) p
   have lZ:=aF i (by omega)
   refine VW.tr (π := [0]) (n:=1000+1000100*i) (tmK [1] [6,0]) [hb 18 d18, .lp [0] _ _ _ _ _ _ _ _ hl,hw 61 w61,hw 63 f63 .u32,ho 64 a64, .st 100064 _ _ _ s64,hw 20 lZ]
     (Gr [1] [2] k (k+k) i .top .top) [uB [1] ws,uB [2] (pad (k+k) X)] .normal (Gr [1] [2] k (k+k) (i+1) .top .top) [uB [1] ws,uB [2] (pad (k+k) S)] 1000100 (by kernel_rfl)
     nh (by simp only [aU,bh,bM,fO];rfl) nh (by simp only [aU,bh,bM,fO];rfl) (by simp) fun s hw => ?_
   refine ⟨i+1,by omega,by simp only [];omega, ?_⟩
   have e:1000+1000100*i+1000100=1000+1000100*(i+1):=by omega
   simp only [];rw [hSS, <- e];exact hw
 . have kJ:i=k:=by omega
   subst kJ
   have d18:decide ((i:Int)<(i:Int))=false:=ag (by omega)
   refine VW.tr (π := [0]) (n:=1000+1000100*i) (tmK [1] [6,0]) [hb 18 d18]
     (Gr [1] [2] i (i+i) i .top .top) [uB [1] ws,uB [2] (pad (i+i) (val (ws.take i)*val (ws.take i)))] (.exit 0) (Gr [1] [2] i (i+i) i .top .top) [uB [1] ws,uB [2] (pad (i+i) (val (ws.take i)*val (ws.take i)))] 60 (by kernel_rfl)
     nh (by simp only [aU,bh,bM,fO];rfl) nh (by simp only [aU,bh,bM,fO];rfl) (by simp) fun s hw=>⟨rfl, ?_⟩
   exact Wk.toT (by simp) (hw.trans (Wk.forget (Fg.same _) (fun j => .inr rfl) (by omega)))
theorem Yr {f ft:FuncId} (h:Has P f (cJ ft)) (ht:Has P ft dX) (ws:List Nat) (HO:Wd ws) (k:Nat) (hk:k<=ws.length) (hk2:k<=10000) (p q:Id) :
   aw P G f [.osl q 1 0 k false, .osl q 1 0 k false] p [uB q ws] { val := .osl (6::p) 1 0 (aa (val (ws.take k)*val (ws.take k))) false,rd:=[q],up:=[(6::p,some ⟨us (pad (k+k) (val (ws.take k)*val (ws.take k))),1,false⟩)] }:=by
 have w13:=iG k k (by omega)
 have qq:∀ (σ : ae) (p:Id),(∀ y∈([]:List (Id × cN)), σ y.1=some y.2)->bu σ p (.mksl 1 4 (.int .u32 0) (.int .i64 ((k+k:Nat):Int)) (.int .i64 ((k+k:Nat):Int)))=some { val := .osl p 1 0 (k+k) false,up:=[(p,some ⟨us (pad (k+k) 0),1,false⟩)] }:=fun σ p _=>by
   have e:pad (k+k) 0=List.replicate (k+k) 0:=by
     have:=ko (qV (k+k))
     rwa [List.length_replicate,lY (fun w hw=>List.eq_of_mem_replicate hw)] at this
   rw [e];exact iD (by omega)
 have hl:=Qj (P:=P) (G:=G) ws HO k hk hk2
 have hvk:val (ws.take k)<ak ^ k:=by
   have:=di (gD HO k)
   rwa [List.length_take,Nat.min_eq_left hk] at this
 have qe:val (pad (k+k) (val (ws.take k)*val (ws.take k)))=val (ws.take k)*val (ws.take k):=bZ (by rw [Nat.pow_add];exact Nat.mul_lt_mul'' hvk hvk)
 generalize val (ws.take k)*val (ws.take k)=S at *
 have Mi:∀ p:Id,aw P G ft [.osl [6,0] 1 0 (k+k) false] p [uB [6,0] (pad (k+k) S)] { val := .osl [6,0] 1 0 (aa S) false,rd:=[[6,0]] }:=fun p=>by
   have:=VR (G:=G) ht (pad (k+k) S) (iS _ _) (k+k) (by rw [cP];omega) (by rw [cP];omega) p [6,0]
   rwa [List.take_of_length_le (by rw [cP];omega),qe] at this
 exact aw.tr (up:=[uB (6::p) (pad (k+k) S)]) (p:=p) h (fun _=>q) [hw 13 w13, .st 14 _ _ _ qq, .lp [0] _ _ _ _ _ _ _ _ hl, .rel ft _ [uB [6,0] (pad (k+k) S)] _ (fun p _=>Mi p) (by intro p x hx;rcases List.mem_singleton.1 hx with rfl;simp)]
   [.osl [1] 1 0 k false, .osl [1] 1 0 k false] [uB [1] ws] (.osl [6,0] 1 0 (aa S) false) [uB [6,0] (pad (k+k) S)] (by kernel_rfl) rfl (by simp only [aU,bh,bM,fO];rfl) rfl (by simp only [aU,bh,bM,fO];rfl) (by simp) (by simp)
end
end Go.VL
end

section
set_option linter.unusedVariables false
set_option maxRecDepth 100000
namespace Go.VL
open Go.Lib
theorem Qk {ws:List Nat} (hwd:Wd ws) {q m w:Nat} (hw:ws[q]? = some w) (hm:m<32) (hd:2 ^ (32*q+m+1) ∣ val ws):2 ^ (m+1) ∣ w:=by
 have hq:q<ws.length:=(List.getElem?_eq_some_iff.1 hw).1
 have hB:ak ^ q=2 ^ (32*q):=by rw [show ak=2 ^ 32 from rfl, <- Nat.pow_mul]
 have e:val ws=val (ws.take q)+ak ^ q*(w+ak*val (ws.drop (q+1))):=by
   have h1:=bq (ws.take q) (ws.drop q)
   rw [List.take_append_drop,List.length_take,Nat.min_eq_left (by omega)] at h1
   rw [h1,List.drop_eq_getElem_cons hq]
   have:ws[q]=w:=by have:=List.getElem?_eq_getElem hq;rw [hw] at this;exact (Option.some.inj this).symm
   rw [this];rfl
 have hlt:val (ws.take q)<ak ^ q:=by
   have:=di (gD hwd q)
   rwa [List.length_take,Nat.min_eq_left (by omega)] at this
 have hp:2 ^ (32*q+m+1)=ak ^ q*2 ^ (m+1):=by rw [hB, <- Nat.pow_add,Nat.add_assoc]
 rw [hp,e] at hd
 have h0:val (ws.take q)=0:=by
   have h1:ak ^ q ∣ val (ws.take q)+ak ^ q*(w+ak*val (ws.drop (q+1))):=Nat.dvd_trans (Nat.dvd_mul_right _ _) hd
   exact Nat.eq_zero_of_dvd_of_lt ((Nat.dvd_add_left (Nat.dvd_mul_right _ _)).1 h1) hlt
 rw [h0,Nat.zero_add] at hd
 have h2:=Nat.dvd_of_mul_dvd_mul_left (Nat.pow_pos bx) hd
 have h3:2 ^ (m+1) ∣ ak*val (ws.drop (q+1)):=Nat.dvd_trans (by rw [show ak=2 ^ 32 from rfl];exact Nat.pow_dvd_pow 2 (by omega)) (Nat.dvd_mul_right _ _)
 exact (Nat.dvd_add_left h3).1 h2
theorem Iu {w m:Nat} (hm:m<32) (hw:w<ak) (hd:2 ^ (m+1) ∣ w):w+2 ^ m<ak/\w ||| 2 ^ m=w+2 ^ m:=by
 obtain ⟨a,rfl⟩:=hd
 have hpm:2 ^ (m+1)=2*2 ^ m:=by rw [Nat.pow_succ,Nat.mul_comm]
 have lq:0<2 ^ m:=Nat.pow_pos (by decide)
 have hB:ak=2 ^ (m+1)*2 ^ (31-m):=by rw [<- Nat.pow_add,show m+1+(31-m)=32 by omega];rfl
 refine ⟨?_,(Nat.two_pow_add_eq_or_of_lt (i:=m+1) (b:=2 ^ m) (by rw [hpm];omega) a).symm⟩
 rw [hB] at hw ⊢
 have ha:=Nat.lt_of_mul_lt_mul_left hw
 have:=Nat.mul_le_mul_left (2 ^ (m+1)) ha
 rw [Nat.succ_eq_add_one,Nat.mul_add,Nat.mul_one] at this
 omega
theorem aiu {m:Nat} (hm:m<32):bo .shl .int (.int .u32 1) (.int .i64 (m:Int))=some (.int .u32 ((2 ^ m:Nat):Int)):=by
 rw [C0 (by omega)]
 have e1:min (m:Int).toNat IntKind.u32.bits=m:=by rw [Int.toNat_natCast];exact Nat.min_eq_left (show m<=32 by omega)
 have e2:(1:Int)*2 ^ m=((2 ^ m:Nat):Int):=by rw [Int.one_mul];exact (Int.natCast_pow 2 m).symm
 have e3:2 ^ m<ak:=Nat.pow_lt_pow_right (by decide) hm
 rw [e1,e2,o7,Nat.mod_eq_of_lt e3]
theorem Ys {w m:Nat} (hm:m<32) (hw:w<ak) (hd:2 ^ (m+1) ∣ w):bo .or .int (.int .u32 (w:Int)) (.int .u32 ((2 ^ m:Nat):Int))=some (.int .u32 ((w+2 ^ m:Nat):Int)):=by
 rw [Tc w (2 ^ m) hw (Nat.pow_lt_pow_right (by decide) hm),(Iu hm hw hd).2]
theorem Iv {k:IntKind} {a b:Int}:bo .andNot .int (.int k a) (.int k b)=some (.int k (k.wrap (BitVec.ofInt k.bits a &&& ~~~BitVec.ofInt k.bits b).toNat)):=by
 simp only [bo];rw [show iH .andNot .int (.int k a) (.int k b)=some (.int k (k.wrap (BitVec.ofInt k.bits a &&& ~~~BitVec.ofInt k.bits b).toNat)) from by simp [iH,n4,bitsOf]]
theorem TR {w m:Nat} (hm:m<32) (hw:w<ak) (hd:2 ^ (m+1) ∣ w):bo .andNot .int (.int .u32 ((w+2 ^ m:Nat):Int)) (.int .u32 ((2 ^ m:Nat):Int))=some (.int .u32 (w:Int)):=by
 rw [Iv, <- (Iu hm hw hd).2]
 have hwm:w.testBit m=false:=by
   obtain ⟨a,rfl⟩:=hd
   rw [Nat.testBit_two_pow_mul];simp;omega
 have e:(BitVec.ofInt 32 ((w ||| 2 ^ m:Nat):Int) &&& ~~~BitVec.ofInt 32 ((2 ^ m:Nat):Int))=BitVec.ofNat 32 w:=by
   rw [BitVec.ofInt_natCast,BitVec.ofInt_natCast]
   refine BitVec.eq_of_getLsbD_eq fun j hj => ?_
   simp only [BitVec.getLsbD_and,BitVec.getLsbD_not,BitVec.getLsbD_ofNat,hj,decide_true,Bool.true_and,Nat.testBit_or,Nat.testBit_two_pow]
   by_cases h:m=j
   . subst h;simp [hwm]
   . simp [h]
 show some (AV.int .u32 (IntKind.u32.wrap ((BitVec.ofInt 32 ((w ||| 2 ^ m:Nat):Int) &&& ~~~BitVec.ofInt 32 ((2 ^ m:Nat):Int)).toNat:Int)))=_
 rw [e,BitVec.toNat_ofNat,o7]
 have:w<2 ^ 32:=hw
 rw [Nat.mod_eq_of_lt this,Nat.mod_eq_of_lt hw]
theorem TT {N R i:Nat} (h1:2 ^ (i+1) ∣ R) (h3:N<(R+2 ^ (i+1))*(R+2 ^ (i+1))) (hy:(R+2 ^ i)*(R+2 ^ i)<=N):2 ^ i ∣ R+2 ^ i/\N<(R+2 ^ i+2 ^ i)*(R+2 ^ i+2 ^ i):=by
 have e:R+2 ^ i+2 ^ i=R+2 ^ (i+1):=by rw [Nat.pow_succ];omega
 exact ⟨(Nat.dvd_add_left (Nat.dvd_refl _)).2 (Nat.dvd_trans (Nat.pow_dvd_pow 2 (by omega)) h1),by rw [e];exact h3⟩
theorem KF {o:List Nat} (h:Wd o):o.take (aa (val o))=digits (val o):=by
 have hle:aa (val o)<=o.length:=cK (di h)
 have h1:=bq (o.take (aa (val o))) (o.drop (aa (val o)))
 rw [List.take_append_drop,List.length_take,Nat.min_eq_left hle] at h1
 have h2:val o<ak ^ aa (val o):=by
   have:=di (aH (val o))
   rwa [aE] at this
 have h3:val (o.drop (aa (val o)))=0:=by
   rcases Nat.eq_zero_or_pos (val (o.drop (aa (val o)))) with h | h
   . exact h
   . exfalso
     have:=Nat.mul_le_mul_left (ak ^ aa (val o)) h
     simp only [Nat.succ_eq_add_one,Nat.zero_add,Nat.mul_one] at this
     omega
 rw [h3,Nat.mul_zero,Nat.add_zero] at h1
 have p1:=ko (gD h (aa (val o)))
 rw [List.length_take,Nat.min_eq_left hle, <- h1] at p1
 have p2:=ko (aH (val o))
 rw [aE] at p2
 exact p1.symm.trans p2
theorem TU {σ : ae} {q:Id} {o:List Nat} (h:Wd o) (hσ : σ q=some ⟨us o,1,false⟩):View σ (.osl q 1 0 (aa (val o)) false) (W (val o)):=by
 have hle:aa (val o)<=o.length:=cK (di h)
 have e:W (val o) = .sl 1 (us (o.take (aa (val o)))):=by rw [KF h];rfl
 rw [e]
 exact View.osl (bk:=⟨us o,1,false⟩) hσ rfl (by simpa [dD] using hle) (by rw [List.drop_zero,Db];exact ah.pure (my _)) (by rw [dD,List.length_take];omega) (pJ _)
abbrev TV (ft fm fc:Nat):bJ:=(.seq (cS [oM 22 6,dr 23 .geq 22 0] (.cond (.t 23) .skip (.exit 0))) (.seq (.block 1 (.seq (.reg (some []) [oM 26 5,oM 27 6,dr 28 .quo 27 32,oM 29 5,oM 30 6,dr 31 .quo 30 32,oA 32 1 29 31,oL 33 1 32,oM 34 6,dr 35 .rem 34 32,⟨some 36,.bin .shl .int (.c (.int .u32 1)) (.t 35),none⟩,oT 37 .or 33 36,oA 38 1 26 28,oS 1 38 37]) (.seq (.reg (some [(1,6),(3,6),(4,6)]) [oM 39 5,oC 40 ft 39,oM 41 5,oC 42 ft 41,lB 43 fm 40 42,oF 44 1 1,oL 45 1 44,lB 46 fc 43 45,dr 47 .gtr 46 0]) (.cond (.t 47) (.reg (some []) [oM 48 5,oM 49 6,dr 50 .quo 49 32,oM 51 5,oM 52 6,dr 53 .quo 52 32,oA 54 1 51 53,oL 55 1 54,oM 56 6,dr 57 .rem 56 32,⟨some 58,.bin .shl .int (.c (.int .u32 1)) (.t 57),none⟩,oT 59 .andNot 55 58,oA 60 1 48 50,oS 1 60 59]) .skip)))) (cR [oM 24 6,dr 25 .sub 24 1,oM 6 25])))
def NA (i0 i1 i2:Id) (L:Nat) (i:Int):List AV:=[.top, .ref i0 0 0, .ref i1 0 0, .int .i64 0, .top, .osl i2 1 0 L false, .int .i64 i]++List.replicate 56 .top
theorem rN {ρ : Id->Id} {i0 i1 i2:Id} {L:Nat} {i:Int}:bK ρ (NA i0 i1 i2 L i)=NA (ρ i0) (ρ i1) (ρ i2) L i:=by
 unfold NA
 simp only [cW,aT,bn,eI,yh,vg,je]
 rfl
def rsK (q:Nat):Nat->Id
 | 1=>[0]
 | 2=>[1]
 | _=>[q]
def Hu (i0 i1 i2:Id) (z:Int) (ws:List Nat):List (Id × cN):=[(i0,⟨[IV z],2,false⟩),(i1,⟨[.agg [.bool false, .nils]],2,false⟩),uB i2 ws]
theorem rO {ρ : Id->Id} {i0 i1 i2:Id} {z:Int} {ws:List Nat}:oa ρ (Hu i0 i1 i2 z ws)=Hu (ρ i0) (ρ i1) (ρ i2) z ws:=by
 unfold Hu
 simp only [aU,bh,bM,fO,aT,bn,PU.fixed]
section
variable {P:Program} {G:Nat->Option (List AV)}
theorem Iw {ft fm fc:FuncId} (z:Int) (s L b:Nat) (hs:iq z.natAbs s) (xR:z.natAbs<(2 ^ b)*2 ^ b) (hL:L=b/32+1) (hL2:L<=10000) (Mi:Has P ft dX) (Yc:Has P fm (cJ ft))
   (Bj:∀ n,aa n<=L+L->VP P G fc [W n,W z.natAbs] (.int .i64 (de n z.natAbs))) :
   VW P G [] (.loop (TV ft fm fc)) (fun e s'=>e = .exit 0/\Wk G [] s' ⟨NA [0] [1] [16] L (-1),bX.to (x9 (Hu [0] [1] [16] z (pad L s))),1000000000⟩) ⟨NA [0] [1] [16] L ((b:Int)-1),ae.of (Hu [0] [1] [16] z (pad L 0)),1000⟩:=by
 have hpB:2 ^ b<ak ^ L:=by
   rw [show ak=2 ^ 32 from rfl, <- Nat.pow_mul]
   exact Nat.pow_lt_pow_right (by decide) (by omega)
 have Ql:val (pad L 0)=0:=bZ (Nat.pow_pos bx)
 refine VW.sN (α := Nat × List Nat) (fun x=>⟨NA [0] [1] [16] L ((x.1:Int)-1),ae.of (Hu [0] [1] [16] z x.2),1000+200*(b-x.1)⟩)
   (fun x=>x.1<=b/\x.2.length=L/\Wd x.2/\2 ^ x.1 ∣ val x.2/\val x.2*val x.2<=z.natAbs/\z.natAbs<(val x.2+2 ^ x.1)*(val x.2+2 ^ x.1)) (fun x=>x.1) (b,pad L 0) ?_ ⟨Nat.le_refl _,cP _ _,iS _ _,by rw [Ql];exact Nat.dvd_zero _,by rw [Ql];omega,by rw [Ql,Nat.zero_add];exact xR⟩ ?_
 . simp only [Nat.sub_self];exact Wk.refl _ _ _
 rintro ⟨i,ws⟩ ⟨hi,hlen,hwd,hd,hle,SW⟩
 simp only [] at hi hlen hwd hd hle SW ⊢
 cases i with
 | zero =>
   have d23:decide (((0:Nat):Int)-1≥0)=false:=by decide
   have hv:val ws=s:=by
     have h1:val ws<=s:=Du hs hle
     have h2:s<=val ws:=Du ⟨hle,by simpa using SW⟩ hs.1
     omega
   have hp:=ko hwd
   rw [hlen,hv] at hp
   rw [hp]
   refine VW.tr (π := []) (n:=1000+200*(b-0)) (rsK 16) [hb 23 d23] (NA [1] [2] [3] L (-1)) (Hu [1] [2] [3] z ws) (.exit 0) (NA [1] [2] [3] L (-1)) (Hu [1] [2] [3] z ws) 200 (by kernel_rfl)
     rN rO rN rO (by simp [Hu]) fun s hw=>⟨rfl, ?_⟩
   exact Wk.toT (by simp [Hu]) (hw.trans (Wk.forget (Fg.same _) (fun j => .inr rfl) (by omega)))
 | succ i =>
   have hq:i/32<L:=by omega
   have hm:i%32<32:=Nat.mod_lt _ (by decide)
   have him:32*(i/32)+i%32=i:=Nat.div_add_mod i 32
   obtain ⟨w,x6⟩:∃ w,ws[i/32]? = some w:=⟨_,List.getElem?_eq_getElem (by rw [hlen];exact hq)⟩
   have hww:=hwd w (List.mem_of_getElem? x6)
   have hdw:2 ^ (i%32+1) ∣ w:=Qk hwd x6 hm (by rw [him];exact hd)
   have hlt:=(Iu hm hww hdw).1
   have k0:(((i+1:Nat):Int))-1=(i:Int):=by omega
   have d23:decide ((i:Int)≥0)=true:=ai (by omega)
   have w28:IntKind.i64.wrap ((i:Int).tdiv 32)=((i/32:Nat):Int):=by rw [Int.tdiv_eq_ediv_of_nonneg (by omega),IntKind.wrap_i64];omega
   have w35:(i:Int).tmod 32=((i%32:Nat):Int):=by rw [Int.tmod_eq_emod_of_nonneg (by omega)];omega
   have TQ:bG 1 (.osl [3] 1 0 L false) (.int .i64 ((i/32:Nat):Int))=some (.ref [3] (i/32) 0):=bI hq
   have l33:∀ (σ : ae) (p:Id),(∀ y∈[uB [3] ws], σ y.1=some y.2)->bu σ p (.load false 1 (.ref [3] (i/32) 0))=some { val := .int .u32 (w:Int),rd:=[[3]] }:=fun σ p hσ => rL (hσ (uB [3] ws) (by simp)) x6 p
   have o36:=aiu hm
   have o37:=Ys hm hww hdw
   have s38:∀ (σ : ae) (p:Id),(∀ y∈[uB [3] ws], σ y.1=some y.2)->bu σ p (.store 1 (.ref [3] (i/32) 0) (.int .u32 ((w+2 ^ (i%32):Nat):Int)))=some { val := .tup [],rd:=[[3]],up:=[([3],some ⟨us (ws.set (i/32) (w+2 ^ (i%32))),1,false⟩)] }:=fun σ p hσ => vq (hσ (uB [3] ws) (by simp)) (by rw [hlen];exact hq) p
   have kL:val (ws.set (i/32) (w+2 ^ (i%32)))=val ws+2 ^ i:=by
     have:=rE (x:=w+2 ^ (i%32)) x6
     rw [Nat.mul_add] at this
     have e:ak ^ (i/32)*2 ^ (i%32)=2 ^ i:=by rw [show ak=2 ^ 32 from rfl, <- Nat.pow_mul, <- Nat.pow_add,him]
     rw [e] at this
     omega
   have mD:(ws.set (i/32) (w+2 ^ (i%32))).length=L:=by rw [List.length_set,hlen]
   have Qm:Wd (ws.set (i/32) (w+2 ^ (i%32))):=tp hwd hlt
   have ac0:(ws.set (i/32) (w+2 ^ (i%32))).set (i/32) w=ws:=by
     rw [List.set_set]
     obtain ⟨h1,h2⟩:=List.getElem?_eq_some_iff.1 x6
     rw [<- h2];exact List.set_getElem_self h1
   have Yt:(ws.set (i/32) (w+2 ^ (i%32)))[i/32]? = some (w+2 ^ (i%32)):=List.getElem?_set_self (by rw [hlen];exact hq)
   have J6:=KF Qm
   have aiz:aa (val (ws.set (i/32) (w+2 ^ (i%32))))<=L:=by rw [<- mD];exact cK (di Qm)
   rw [kL] at J6 aiz
   have t1:∀ p:Id,aw P G ft [.osl [3] 1 0 L false] p [uB [3] (ws.set (i/32) (w+2 ^ (i%32)))] { val := .osl [3] 1 0 (aa (val ws+2 ^ i)) false,rd:=[[3]] }:=fun p=>by
     have:=VR (G:=G) Mi _ Qm L (by omega) (by omega) p [3]
     rwa [List.take_of_length_le (by omega),kL] at this
   have t2:∀ p:Id,aw P G fm [.osl [3] 1 0 (aa (val ws+2 ^ i)) false, .osl [3] 1 0 (aa (val ws+2 ^ i)) false] p [uB [3] (ws.set (i/32) (w+2 ^ (i%32)))] { val := .osl (6::p) 1 0 (aa ((val ws+2 ^ i)*(val ws+2 ^ i))) false,rd:=[[3]],up:=[(6::p,some ⟨us (pad (aa (val ws+2 ^ i)+aa (val ws+2 ^ i)) ((val ws+2 ^ i)*(val ws+2 ^ i))),1,false⟩)] }:=fun p=>by
     have:=Yr (G:=G) Yc Mi _ Qm (aa (val ws+2 ^ i)) (by omega) (by omega) p [3]
     rwa [J6,aE] at this
   have hy:=TT (N:=z.natAbs) hd SW
   have hdi:2 ^ i ∣ val ws:=Nat.dvd_trans (Nat.pow_dvd_pow 2 (by omega)) hd
   have w25:IntKind.i64.wrap ((i:Int)-1)=(i:Int)-1:=by rw [IntKind.wrap_i64];omega
   have ac1:1000+200*(b-(i+1))+200=1000+200*(b-i):=by omega
   have hwR:val ws+2 ^ i<ak ^ aa (val ws+2 ^ i):=by
     have:=di (aH (val ws+2 ^ i))
     rwa [aE] at this
   rw [k0]
   generalize hR:val ws=R at *
   generalize ws.set (i/32) (w+2 ^ (i%32))=o1 at *
   generalize hR1:R+2 ^ i=R1 at *
   have Ts:val (pad (aa R1+aa R1) (R1*R1))=R1*R1:=bZ (by rw [Nat.pow_add];exact Nat.mul_lt_mul'' hwR hwR)
   have h46:=Bj (R1*R1) (Nat.le_trans (ly _ _) (by omega))
   have hvw:ah (ae.of [uB [6,20,0] (pad (aa R1+aa R1) (R1*R1))]) [.osl [6,20,0] 1 0 (aa (R1*R1)) false,W z.natAbs] [W (R1*R1),W z.natAbs]:=by
     refine ah.cons ?_ (ah.cons (View.pure (aM _)) ah.nil)
     have:=TU (σ := ae.of [uB [6,20,0] (pad (aa R1+aa R1) (R1*R1))]) (q:=[6,20,0]) (iS (aa R1+aa R1) (R1*R1)) (by simp [ae.of])
     rwa [Ts] at this
   by_cases hc:R1*R1<=z.natAbs
   . obtain ⟨y1,y2⟩:=hy hc
     have d47:decide (de (R1*R1) z.natAbs>0)=false:=ag (by unfold de eP;split<;>(try split)<;>omega)
     refine VW.tr (π := []) (n:=1000+200*(b-(i+1))) (rsK 16) [hb 23 d23,hw 28 w28,hw 31 w28,ho 32 TQ, .st 33 _ _ _ l33,hw 35 w35,ho 36 o36,ho 37 o37,ho 38 TQ, .st 100038 _ _ _ s38,
         .rel ft _ [uB [3] o1] _ (fun p _=>t1 p) (by intro p x hx;rcases List.mem_singleton.1 hx with rfl;simp), .rel ft _ [uB [3] o1] _ (fun p _=>t1 p) (by intro p x hx;rcases List.mem_singleton.1 hx with rfl;simp), .rel fm _ [uB [3] o1] _ (fun p _=>t2 p) (by intro p x hx;rcases List.mem_singleton.1 hx with rfl;simp),
         bm [uB [6,20,0] (pad (aa R1+aa R1) (R1*R1))] h46 hvw,hb 47 d47,hw 25 w25] (NA [1] [2] [3] L (i:Int)) (Hu [1] [2] [3] z ws) .normal (NA [1] [2] [3] L ((i:Int)-1)) (Hu [1] [2] [3] z o1) 200 (by kernel_rfl)
       rN rO rN rO (by simp [Hu]) fun s hw => ?_
     exact ⟨(i,o1),⟨by simp only [];omega,mD,Qm,by simp only [];rw [kL];exact y1,by simp only [];rw [kL];exact hc,by simp only [];rw [kL];exact y2⟩,by simp only [];omega,by simp only [];rw [<- ac1];exact hw⟩
   . have d47:decide (de (R1*R1) z.natAbs>0)=true:=ai (by unfold de eP;split<;>(try split)<;>omega)
     have l55:∀ (σ : ae) (p:Id),(∀ y∈[uB [3] o1], σ y.1=some y.2)->bu σ p (.load false 1 (.ref [3] (i/32) 0))=some { val := .int .u32 ((w+2 ^ (i%32):Nat):Int),rd:=[[3]] }:=fun σ p hσ => rL (hσ (uB [3] o1) (by simp)) Yt p
     have o59:=TR hm hww hdw
     have s60:∀ (σ : ae) (p:Id),(∀ y∈[uB [3] o1], σ y.1=some y.2)->bu σ p (.store 1 (.ref [3] (i/32) 0) (.int .u32 (w:Int)))=some { val := .tup [],rd:=[[3]],up:=[([3],some ⟨us ws,1,false⟩)] }:=fun σ p hσ => by
       rw [<- ac0];exact vq (hσ (uB [3] o1) (by simp)) (by rw [mD];exact hq) p
     refine VW.tr (π := []) (n:=1000+200*(b-(i+1))) (rsK 16) [hb 23 d23,hw 28 w28,hw 31 w28,ho 32 TQ, .st 33 _ _ _ l33,hw 35 w35,ho 36 o36,ho 37 o37,ho 38 TQ, .st 100038 _ _ _ s38,
         .rel ft _ [uB [3] o1] _ (fun p _=>t1 p) (by intro p x hx;rcases List.mem_singleton.1 hx with rfl;simp), .rel ft _ [uB [3] o1] _ (fun p _=>t1 p) (by intro p x hx;rcases List.mem_singleton.1 hx with rfl;simp), .rel fm _ [uB [3] o1] _ (fun p _=>t2 p) (by intro p x hx;rcases List.mem_singleton.1 hx with rfl;simp),
         bm [uB [6,20,0] (pad (aa R1+aa R1) (R1*R1))] h46 hvw,hb 47 d47,hw 50 w28,hw 53 w28,ho 54 TQ, .st 55 _ _ _ l55,hw 57 w35,ho 58 o36,ho 59 o59,ho 60 TQ, .st 100060 _ _ _ s60,hw 25 w25] (NA [1] [2] [3] L (i:Int)) (Hu [1] [2] [3] z ws) .normal (NA [1] [2] [3] L ((i:Int)-1)) (Hu [1] [2] [3] z ws) 200 (by kernel_rfl)
       rN rO rN rO (by simp [Hu]) fun s hw => ?_
     exact ⟨(i,ws),⟨by simp only [];omega,hlen,hwd,by simp only [];rw [hR];exact hdi,by simp only [];rw [hR];exact hle,by simp only [];rw [hR,hR1];omega⟩,by simp only [];omega,by simp only [];rw [<- ac1];exact hw⟩
theorem Qn {f ft fl:FuncId} (h:Has P f (kH ft fl)) (hl:Has P fl dJ) (z:Int) (hz:z.natAbs≠0) (Yg:aa z.natAbs<=1000000) (ht:VP P G ft [W z.natAbs] (W z.natAbs)) :
   ∃ b:Nat,z.natAbs<2 ^ b/\b<=32*aa z.natAbs/\VP P G f [IV z] (.int .i64 (b:Int)):=by
 obtain ⟨a,t,hd,ht0,TK,hlt,hlen⟩:=zZ hz
 have rp:ee t<=32:=by
   have h2:=(mz TK (Nat.pos_of_ne_zero ht0)).2
   rcases Nat.lt_or_ge 32 (ee t) with h' | h'
   . exfalso
     have:=Nat.pow_le_pow_right (n:=2) (by decide) h'
     unfold ak at TK
     omega
   . exact h'
 refine ⟨32*a.length+ee t,hlt,by omega, ?_⟩
 have mD:=zI (G:=G) hl (n:=z.natAbs) (x:=t) (k:=a.length) hlen.symm (by rw [hd];simp) (by omega)
 exact VP.tr h [hc ht,hc mD] (by kernel_rfl)
theorem Qo {f fn fb ft fm fc fs:FuncId} (h:Has P f (kG fn fb ft fm fc fs)) (z:Int) (s b:Nat) (hz:0<z) (hs:iq z.natAbs s) (xR:z.natAbs<2 ^ b) (qh:b<=100000) (hn:VP P G fn [IV z] (IV z)) (rP:VP P G fb [IV z] (.int .i64 (b:Int)))
   (Mi:Has P ft dX) (Yc:Has P fm (cJ ft)) (Bj:∀ n,aa n<=10000->VP P G fc [W n,W z.natAbs] (.int .i64 (de n z.natAbs))) (o8:∀ L,L<=10000->s<ak ^ L->VP P G fs [.bool false, .sl 1 (us (pad L s))] (IV (s:Int))) :
   VP P G f [IV z] (.tup [IV (s:Int), .int .i64 0]):=by
 have d10:decide (z<0)=false:=ag (by omega)
 have w14:IntKind.i64.wrap ((b:Int)+1)=((b+1:Nat):Int):=by rw [IntKind.wrap_i64];omega
 have w15:IntKind.i64.wrap ((((b+1:Nat)):Int).tdiv 2)=(((b+1)/2:Nat):Int):=by rw [Int.tdiv_eq_ediv_of_nonneg (by omega),IntKind.wrap_i64];omega
 have hbb:z.natAbs<2 ^ ((b+1)/2)*2 ^ ((b+1)/2):=by
   rw [<- Nat.pow_add]
   exact Nat.lt_of_lt_of_le xR (Nat.pow_le_pow_right (by decide) (by omega))
 generalize hm:(b+1)/2=m at *
 have uf:m<=50001:=by omega
 have w17:IntKind.i64.wrap ((m:Int).tdiv 32)=((m/32:Nat):Int):=by rw [Int.tdiv_eq_ediv_of_nonneg (by omega),IntKind.wrap_i64];omega
 have w18:IntKind.i64.wrap (((m/32:Nat):Int)+1)=((m/32+1:Nat):Int):=by rw [IntKind.wrap_i64];omega
 have w21:IntKind.i64.wrap ((m:Int)-1)=(m:Int)-1:=by rw [IntKind.wrap_i64];omega
 have hl:=Iw (P:=P) (G:=G) (ft:=ft) (fm:=fm) (fc:=fc) z s (m/32+1) m hs hbb rfl (by omega) Mi Yc (fun n hn=>Bj n (by omega))
 have hsL:s<ak ^ (m/32+1):=by
   have h1:s<2 ^ m:=by
     rcases Nat.lt_or_ge s (2 ^ m) with h | h
     . exact h
     . exfalso
       have:=Nat.mul_le_mul h h
       have:=hs.1
       omega
   refine Nat.lt_trans h1 ?_
   rw [show ak=2 ^ 32 from rfl, <- Nat.pow_mul]
   exact Nat.pow_lt_pow_right (by decide) (by omega)
 have aiB:=o8 (m/32+1) (by omega) hsL
 have qq:∀ (σ : ae) (p:Id),(∀ y∈([]:List (Id × cN)), σ y.1=some y.2)->bu σ p (.mksl 1 4 (.int .u32 0) (.int .i64 ((m/32+1:Nat):Int)) (.int .i64 ((m/32+1:Nat):Int)))=some { val := .osl p 1 0 (m/32+1) false,up:=[(p,some ⟨us (pad (m/32+1) 0),1,false⟩)] }:=fun σ p _=>by
   have e:pad (m/32+1) 0=List.replicate (m/32+1) 0:=by
     have:=ko (qV (m/32+1))
     rwa [List.length_replicate,lY (fun w hw=>List.eq_of_mem_replicate hw)] at this
   rw [e];exact iD (by omega)
 have hvw:ah (ae.of [uB [16] (pad (m/32+1) s)]) [.bool false, .osl [16] 1 0 (m/32+1) false] [.bool false, .sl 1 (us (pad (m/32+1) s))]:=ah.cons (View.pure (af.bool _)) (ah.cons (View.osl (bk:=⟨us (pad (m/32+1) s),1,false⟩) (by simp [ae.of]) rfl (by simp [dD,cP]) (by rw [List.drop_zero,List.take_of_length_le (by simp [dD,cP])];exact ah.pure (my _)) (by rw [dD,cP]) (pJ _)) ah.nil)
 generalize m/32+1=L at *
 exact VP.tr h [hc hn,hb 10 d10,hc rP,hw 14 w14,hw 15 w15,hw 17 w17,hw 18 w18, .st 19 _ _ _ qq,hw 21 w21, .lp [] _ _ _ _ _ _ _ _ hl,bm [uB [16] (pad L s)] aiB hvw] (by kernel_rfl)
end
end Go.VL
end

section
set_option linter.unusedVariables false
set_option maxRecDepth 100000
namespace Go.VL
open Go.Lib
abbrev Ix:bJ:=(.seq (cS [oM 20 5,oF 21 1 2,oL 22 1 21,oN 23 22,oT 24 .lss 20 23] (.cond (.t 24) .skip (.exit 0))) (.seq (.block 1 (.seq (.reg (some []) [oF 27 1 2,oL 28 1 27,oM 29 5,oA 30 1 28 29,oL 31 1 30,oF 32 1 3,oL 33 1 32,oM 34 5,oA 35 1 33 34,oL 36 1 35,oT 37 .neq 31 36]) (.cond (.t 37) (cS [oB 4 false] .ret) .skip))) (cR [oM 25 5,dr 26 .add 25 1,oM 5 26])))
def Gs (i0 i1:Id) (b i:AV):List AV:=[.top, .top, .ref i0 0 0, .ref i1 0 0,b,i]++List.replicate 32 .top
theorem rQ {ρ : Id->Id} {i0 i1:Id} {b i:AV}:bK ρ (Gs i0 i1 b i)=Gs (ρ i0) (ρ i1) (b.cG ρ) (i.cG ρ):=by
 unfold Gs
 simp only [cW,aT,bn,eI,yh,je]
def Hv (i0 i1:Id) (m n:Nat):List (Id × cN):=[(i0,⟨[IV (m:Int)],2,false⟩),(i1,⟨[IV (n:Int)],2,false⟩)]
theorem yi {ρ : Id->Id} {i0 i1:Id} {m n:Nat}:oa ρ (Hv i0 i1 m n)=Hv (ρ i0) (ρ i1) m n:=by
 unfold Hv
 simp only [aU,bh,bM,aT,bn,PU.fixed]
def smK:Nat->Id
 | 1=>[0]
 | _=>[1]
section
variable {P:Program} {G:Nat->Option (List AV)}
theorem Qp {m n:Nat} {Q:bP->VS->Prop} (i a:Nat) (hi:i<=1000000) (hlt:i<aa m) (ha:(digits m)[i]? = some a) (Ho:(digits n)[i]? = some a) (N:Nat) (hq:∀ s,Wk G [] s ⟨Gs [0] [1] (.bool false) (.int .i64 ((i+1:Nat):Int)),ae.of (Hv [0] [1] m n),N+40⟩->Q .normal s) :
   VW P G [] Ix Q ⟨Gs [0] [1] (.bool false) (.int .i64 (i:Int)),ae.of (Hv [0] [1] m n),N⟩:=by
 have k23:jY false (W m)=some (.int .i64 (aa m:Int)):=aQ _
 have d24:decide ((i:Int)<(aa m:Int))=true:=ai (by omega)
 have a30:bG 1 (W m) (.int .i64 (i:Int))=some (.ep (AV.int .u32 (a:Int)).cells 0):=eO (k:=1) rfl (mw ha)
 have a35:bG 1 (W n) (.int .i64 (i:Int))=some (.ep (AV.int .u32 (a:Int)).cells 0):=eO (k:=1) rfl (mw Ho)
 have d37:((a:Int) != (a:Int))=false:=by simp
 have lZ:=aF i (by omega)
 exact VW.tr (π := []) (n:=N) smK [ho 23 k23,hb 24 d24,ho 30 a30,ho 35 a35,hb 37 d37,hw 26 lZ] (Gs [1] [2] (.bool false) (.int .i64 (i:Int))) (Hv [1] [2] m n) .normal (Gs [1] [2] (.bool false) (.int .i64 ((i+1:Nat):Int))) (Hv [1] [2] m n) 40 (by kernel_rfl)
   rQ yi rQ yi (by simp [Hv]) hq
theorem TW (m:Nat) (hm:aa m<=100000):VW P G [] (.loop Ix) (fun e s=>e = .exit 0/\Wk G [] s ⟨Gs [0] [1] (.bool false) .top,bX.to (x9 []),1000000000⟩) ⟨Gs [0] [1] (.bool false) (.int .i64 0),ae.of (Hv [0] [1] m m),1000⟩:=by
 refine VW.sN (α := Nat) (fun i=>⟨Gs [0] [1] (.bool false) (.int .i64 (i:Int)),ae.of (Hv [0] [1] m m),1000+40*i⟩) (fun i=>i<=aa m) (fun i=>aa m-i) 0 (Wk.refl _ _ _) (Nat.zero_le _) ?_
 intro i hi
 by_cases hlt:i<aa m
 . obtain ⟨a,ha⟩:∃ a,(digits m)[i]? = some a:=⟨_,List.getElem?_eq_getElem hlt⟩
   refine Qp i a (by omega) hlt ha ha _ fun s hw=>⟨i+1,by omega,by simp only [];omega, ?_⟩
   have e:1000+40*i+40=1000+40*(i+1):=by omega
   simp only [];rw [<- e];exact hw
 . have k23:jY false (W m)=some (.int .i64 (aa m:Int)):=aQ _
   have d24:decide ((i:Int)<(aa m:Int))=false:=ag (by omega)
   refine VW.tr (π := []) (n:=1000+40*i) smK [ho 23 k23,hb 24 d24] (Gs [1] [2] (.bool false) (.int .i64 (i:Int))) (Hv [1] [2] m m) (.exit 0) (Gs [1] [2] (.bool false) .top) [] 40 (by kernel_rfl)
     rQ yi rQ rfl (by simp [Hv]) fun s hw=>⟨rfl, ?_⟩
   exact Wk.toT (by simp) (hw.trans (Wk.forget (Fg.same _) (fun j => .inr rfl) (by omega)))
theorem TX (m n:Nat) (hne:m≠n) (hl:aa m=aa n) (hm:aa m<=100000):VW P G [] (.loop Ix) (fun e s=>e = .ret/\Wk G [] s ⟨Gs [0] [1] (.bool false) .top,bX.to (x9 []),1000000000⟩) ⟨Gs [0] [1] (.bool false) (.int .i64 0),ae.of (Hv [0] [1] m n),1000⟩:=by
 refine VW.sN (α := Nat) (fun i=>⟨Gs [0] [1] (.bool false) (.int .i64 (i:Int)),ae.of (Hv [0] [1] m n),1000+40*i⟩) (fun i=>i<=aa m/\∀ j,j<i->(digits m)[j]? = (digits n)[j]?) (fun i=>aa m-i) 0 (Wk.refl _ _ _) ⟨Nat.zero_le _,fun j h=>absurd h (Nat.not_lt_zero j)⟩ ?_
 rintro i ⟨hi,hs⟩
 by_cases hlt:i<aa m
 . obtain ⟨a,ha⟩:∃ a,(digits m)[i]? = some a:=⟨_,List.getElem?_eq_getElem hlt⟩
   obtain ⟨b,Ho⟩:∃ b,(digits n)[i]? = some b:=⟨_,List.getElem?_eq_getElem (show i<aa n by omega)⟩
   by_cases xl:a=b
   . subst xl
     refine Qp i a (by omega) hlt ha Ho _ fun s hw=>⟨i+1,⟨by omega,fun j hj => ?_⟩,by simp only [];omega, ?_⟩
     . rcases (by omega:j<i∨j=i) with h | rfl
       . exact hs j h
       . rw [ha,Ho]
     . have e:1000+40*i+40=1000+40*(i+1):=by omega
       simp only [];rw [<- e];exact hw
   . have k23:jY false (W m)=some (.int .i64 (aa m:Int)):=aQ _
     have d24:decide ((i:Int)<(aa m:Int))=true:=ai (by omega)
     have a30:bG 1 (W m) (.int .i64 (i:Int))=some (.ep (AV.int .u32 (a:Int)).cells 0):=eO (k:=1) rfl (mw ha)
     have a35:bG 1 (W n) (.int .i64 (i:Int))=some (.ep (AV.int .u32 (b:Int)).cells 0):=eO (k:=1) rfl (mw Ho)
     have d37:((a:Int) != (b:Int))=true:=bne_iff_ne.2 (by omega)
     refine VW.tr (π := []) (n:=1000+40*i) smK [ho 23 k23,hb 24 d24,ho 30 a30,ho 35 a35,hb 37 d37] (Gs [1] [2] (.bool false) (.int .i64 (i:Int))) (Hv [1] [2] m n) .ret (Gs [1] [2] (.bool false) .top) [] 40 (by kernel_rfl)
       rQ yi rQ rfl (by simp [Hv]) fun s hw=>⟨rfl, ?_⟩
     exact Wk.toT (by simp) (hw.trans (Wk.forget (Fg.same _) (fun j => .inr rfl) (by omega)))
 . exfalso
   refine hne ?_
   have e:digits m=digits n:=List.ext_getElem? fun j=>by
     by_cases h:j<i
     . exact hs j h
     . rw [List.getElem?_eq_none (show aa m<=j by omega),List.getElem?_eq_none (show aa n<=j by omega)]
   rw [<- aE m, <- aE n,e]
end
end Go.VL
end

section
set_option maxRecDepth 100000
set_option linter.unusedVariables false
namespace Go.Proofs.YtndoagbiakehnaaGreat
open Go.VL Go.Proofs
section
variable {G:Nat->Option (List AV)}
theorem TY (a:Rat):aC Tryz.prog G 78 [NV a, .int .i64 0] (NV a):=aC.tr hN [] (by kernel_rfl)
theorem Dv (a b c:Q2) (ha:VP Tryz.prog G 143 [V2 a,V2 b] (.tup [V2 c, .int .i64 0])) (hv:∀ a,aC Tryz.prog G 142 [V2 a, .int .i64 0] (V2 a)):aC Tryz.prog G 77 [V2 a,V2 b] (V2 c):=aC.tr hN [hc ha,au [1] (hv c)] (by kernel_rfl)
theorem TZ (a b c:Rat) (ha:VP Tryz.prog G 152 [NV a,NV b] (.tup [NV c, .int .i64 0])) (hv:∀ a,aC Tryz.prog G 78 [NV a, .int .i64 0] (NV a)):aC Tryz.prog G 84 [NV a,NV b] (NV c):=aC.tr hN [hc ha,au [1] (hv c)] (by kernel_rfl)
theorem T3 (a b c:Rat) (ha:VP Tryz.prog G 153 [NV a,NV b] (.tup [NV c, .int .i64 0])) (hv:∀ a,aC Tryz.prog G 78 [NV a, .int .i64 0] (NV a)):aC Tryz.prog G 85 [NV a,NV b] (NV c):=aC.tr hN [hc ha,au [1] (hv c)] (by kernel_rfl)
theorem KG (a b:Q2) (hb:VP Tryz.prog G 156 [V2 a,V2 b, .fn (.func 152) [] []] (.tup [V2 (a.1*b.1,a.2*b.2), .int .i64 0])) (ha:VP Tryz.prog G 86 [NV (a.1*b.1),NV (a.2*b.2)] (.tup [NV (cX a b), .int .i64 0])):VP Tryz.prog G 87 [V2 a,V2 b] (.tup [NV (cX a b), .int .i64 0]):=vt [hc hb,hc ha] (by kernel_rfl)
theorem z6 (a:Q2) (hd:VP Tryz.prog G 87 [V2 a,V2 a] (.tup [NV (cX a a), .int .i64 0])):VP Tryz.prog G 150 [V2 a] (.tup [NV (cX a a), .int .i64 0]):=vt [hc hd] (by kernel_rfl)
theorem T4 (a:Q2) (m:Rat) (hs:VP Tryz.prog G 150 [V2 a] (.tup [NV (cX a a), .int .i64 0])) (hq:VP Tryz.prog G 151 [NV (cX a a)] (.tup [NV m, .int .i64 0])):VP Tryz.prog G 83 [V2 a] (.tup [NV m, .int .i64 0]):=vt [hc hs,hc hq] (by kernel_rfl)
theorem Gt (a:Rat) (hn:VP Tryz.prog G 81 [NV a] (NV (-a))) (SJ:VP Tryz.prog G 81 [NV (-a)] (NV a)):VP Tryz.prog G 187 [NV a] (NV a):=vt [hc hn,hc SJ] (by kernel_rfl)
theorem Gu (a:Q2) (hn:VP Tryz.prog G 81 [NV a.2] (NV (-a.2))) (lJ:VP Tryz.prog G 187 [NV a.1] (NV a.1)):VP Tryz.prog G 131 [V2 a] (V2 (-a.2,a.1)):=vt [hc hn,hc lJ] (by kernel_rfl)
theorem MM (a b c:Q2) (r:Rat) (hl:VP Tryz.prog G 131 [V2 a] (V2 c)) (hd:VP Tryz.prog G 87 [V2 c,V2 b] (.tup [NV r, .int .i64 0])):VP Tryz.prog G 79 [V2 a,V2 b] (.tup [NV r, .int .i64 0]):=vt [hc hl,hc hd] (by kernel_rfl)
theorem Cg (a b:Q2) (h1:VP Tryz.prog G 140 [NV a.1,NV b.1] (.bool (decide (a.1=b.1)))) (h2:VP Tryz.prog G 140 [NV a.2,NV b.2] (.bool (decide (a.2=b.2)))):VP Tryz.prog G 75 [V2 a,V2 b] (.bool (decide (a=b))):=by
 by_cases e1:a.1=b.1
 . rw [decide_eq_true e1] at h1
   have e:decide (a=b)=decide (a.2=b.2):=decide_eq_decide.2 ⟨fun e=>by rw [e],fun e=>Prod.ext e1 e⟩
   rw [e]
   exact vt [hc h1,hc h2] (by kernel_rfl)
 . rw [decide_eq_false e1] at h1
   have e:decide (a=b)=false:=decide_eq_false fun e=>e1 (by rw [e])
   rw [e]
   exact vt [hc h1] (by kernel_rfl)
theorem q7:VP Tryz.prog G 238 [.nils] (.bool true):=vt [] (by kernel_rfl)
theorem xC (a m:Rat) (h1:VP Tryz.prog G 266 [.nils,EV a] (.tup [EV m, .bool true])) (h2:VP Tryz.prog G 146 [.nils,EV m] (.int .i64 1)):VP Tryz.prog G 239 [.nils,EV a] (.tup [EV m, .bool true]):=vt [hc h1,hc h2] (by kernel_rfl)
theorem z7:VP Tryz.prog G 240 [.nils] (.sl 1 []):=VP.dm hN [] [([3],⟨[],1,false⟩)] (.osl [3] 1 0 0 false) (by kernel_rfl) (fun σ hσ => View.osl (bk:=⟨[],1,false⟩) (ds:=[]) (hσ ([3],⟨[],1,false⟩) (by simp)) rfl (by simp) ah.nil rfl (by simp))
theorem z8 (a m:Rat) (h1:VP Tryz.prog G 287 [QV a] (.tup [QV m, .bool true])):VP Tryz.prog G 266 [.nils,EV a] (.tup [EV m, .bool true]) :=
 VP.dm hN [hc h1] [([16],⟨[QV m],4,false⟩)] (.tup [.osl [16] 4 0 1 false, .bool true]) (by kernel_rfl) (fun σ hσ => View.tup (ah.cons (tC (hσ ([16],⟨[QV m],4,false⟩) (by simp))) (ah.cons (View.pure (af.bool _)) ah.nil)))
theorem z9 (q:Rat) (hc':VP Tryz.prog G 201 [EV q] (EV q)):VP Tryz.prog G 147 [.agg [.sl 1 [],EV q]] (NV q):=vt [hc hc'] (by kernel_rfl)
theorem Gv (a m:Rat) (ha:VP Tryz.prog G 205 [.nils,EV a] (.tup [.sl 1 [],EV m, .int .i64 0])) (hd:VP Tryz.prog G 147 [.agg [.sl 1 [],EV m]] (NV m)):VP Tryz.prog G 151 [NV a] (.tup [NV m, .int .i64 0]):=vt [hc ha,hc hd] (by kernel_rfl)
theorem Ch (a m:Rat) (h1:VP Tryz.prog G 202 [.nils,EV a] (.bool true)) (h2:VP Tryz.prog G 238 [.nils] (.bool true)) (h3:VP Tryz.prog G 146 [.nils,EV a] (.int .i64 1)) (h4:VP Tryz.prog G 239 [.nils,EV a] (.tup [EV m, .bool true])) (h5:VP Tryz.prog G 240 [.nils] (.sl 1 [])):VP Tryz.prog G 205 [.nils,EV a] (.tup [.sl 1 [],EV m, .int .i64 0]):=vt [hc h1,hc h2,hc h3,hc h4,hc h5] (by kernel_rfl)
theorem Gw (a b m n:Int) (h1:VP Tryz.prog G 302 [IV a] (.tup [IV m, .bool true])) (h2:VP Tryz.prog G 302 [IV b] (.tup [IV n, .bool true])):VP Tryz.prog G 287 [RV a b] (.tup [RV m n, .bool true]):=by
 haveI:PU (RV m n):=by unfold RV;infer_instance
 exact vt [hc h1,hc h2] (by kernel_rfl)
theorem Gx (a m:Int) (h1:VP Tryz.prog G 316 [IV a] (.tup [IV m, .int .i64 0])) (h2:VP Tryz.prog G 257 [IV m,IV m] (IV a)) (h3:VP Tryz.prog G 256 [IV a,IV a] (.int .i64 0)):VP Tryz.prog G 302 [IV a] (.tup [IV m, .bool true]):=vt [hc h1,hc h2,hc h3] (by kernel_rfl)
theorem T5 (hs:Has Tryz.prog 314 eE) (ht:fY Tryz.prog G 141) (n:Nat) (hn:aa n<=1000):VP Tryz.prog G 322 [W n] (W (n/2)):=by
 have h1:=sM (G:=G) hs n 1 (by omega) (by decide)
 have h2:=ht (pad (aa n) (n/2 ^ 1)) (iS _ _) (by rw [cP];omega)
 rw [bZ (Nat.lt_of_le_of_lt (Nat.div_le_self _ _) (b7 n))] at h2
 exact vt [hc h1,hc h2] (by kernel_rfl)
theorem Qq (z:Int) (hz:z.natAbs≠0) (Yg:aa z.natAbs<=1000000) (ht:VP Tryz.prog G 141 [W z.natAbs] (W z.natAbs)) (hl:∀ w:Nat,w<ak->VP Tryz.prog G 318 [.int .u32 (w:Int)] (.int .i64 (ee w:Int))) :
   ∃ b:Nat,z.natAbs<2 ^ b/\b<=32*aa z.natAbs/\VP Tryz.prog G 320 [IV z] (.int .i64 (b:Int)):=by
 obtain ⟨a,t,hd,ht0,TK,hlt,hlen⟩:=zZ hz
 have rp:ee t<=32:=by
   have h2:=(mz TK (Nat.pos_of_ne_zero ht0)).2
   rcases Nat.lt_or_ge 32 (ee t) with h' | h'
   . exfalso
     have:=Nat.pow_le_pow_right (n:=2) (by decide) h'
     unfold ak at TK
     omega
   . exact h'
 refine ⟨32*a.length+ee t,hlt,by omega, ?_⟩
 have mD:=hl t TK
 have k8:jY false (W z.natAbs)=some (.int .i64 ((a.length+1:Nat):Int)):=by unfold W;rw [hd];simp [jY,us]
 have k9:(((a.length+1:Nat):Int)==0)=false:=by rw [beq_eq_false_iff_ne];omega
 have FP:IntKind.i64.wrap (((a.length+1:Nat):Int)-1)=(a.length:Int):=by rw [IntKind.wrap_i64];omega
 have k13:IntKind.i64.wrap (32*(a.length:Int))=((32*a.length:Nat):Int):=by rw [IntKind.wrap_i64];omega
 have k18:bG 1 (W z.natAbs) (.int .i64 (a.length:Int))=some (.ep (AV.int .u32 (t:Int)).cells 0):=eO (k:=1) rfl (by unfold us;rw [hd];simp)
 have k21:IntKind.i64.wrap (((32*a.length:Nat):Int)+(ee t:Int))=((32*a.length+ee t:Nat):Int):=by rw [IntKind.wrap_i64];omega
 exact vt [hc ht,ho 8 k8,hb 9 k9,ho 11 k8,hw 12 FP,hw 13 k13,ho 16 k8,hw 17 FP,ho 18 k18,hc mD,hw 21 k21] (by kernel_rfl)
theorem Gy (n:Nat) (hn:n<=30000000):VP Tryz.prog G 321 [.int .i64 (n:Int)] (W (2 ^ n)):=by
 have k5:IntKind.i64.wrap ((n:Int).tdiv 32)=((n/32:Nat):Int):=by rw [IntKind.wrap_i64,Int.tdiv_eq_ediv_of_nonneg (by omega)];omega
 have k6:IntKind.i64.wrap (((n/32:Nat):Int)+1)=((n/32+1:Nat):Int):=by rw [IntKind.wrap_i64];omega
 have k7:∀ (σ : ae) (p:VL.Id),(∀ y∈([]:List (VL.Id × cN)), σ y.1=some y.2)->bu σ p (.mksl 1 4 (.int .u32 0) (.int .i64 ((n/32+1:Nat):Int)) (.int .i64 ((n/32+1:Nat):Int)))=some { val := .osl p 1 0 (n/32+1) false,up:=[(p,some ⟨us (List.replicate (n/32+1) 0),1,false⟩)] }:=fun σ p _=>iD (by omega)
 have FP:(n:Int).tmod 32=((n%32:Nat):Int):=by rw [Int.tmod_eq_emod_of_nonneg (by omega)];omega
 have hlt:2 ^ (n%32)<ak:=Nat.pow_lt_pow_right (by decide) (Nat.mod_lt _ (by decide))
 have k13:IntKind.u32.wrap (1*2 ^ (min ((n%32:Nat):Int).toNat IntKind.u32.bits))=((2 ^ (n%32):Nat):Int):=by
   have e:min ((n%32:Nat):Int).toNat IntKind.u32.bits=n%32:=by simp only [IntKind.bits,Int.toNat_natCast];omega
   rw [e,Int.one_mul,show ((2:Int) ^ (n%32))=((2 ^ (n%32):Nat):Int) by simp]
   generalize 2 ^ (n%32)=w at *
   unfold ak at hlt
   rw [IntKind.wrap_u32];omega
 have k14:bG 1 (.osl [4] 1 0 (n/32+1) false) (.int .i64 ((n/32:Nat):Int))=some (.ref [4] (n/32) 0):=bI (by omega)
 have FF:(List.replicate (n/32+1) 0).set (n/32) (2 ^ (n%32))=digits (2 ^ n):=by
   rw [z5,List.replicate_succ',List.set_append,if_neg (by simp)]
   simp
 have k15:∀ (σ : ae) (p:VL.Id),(∀ y∈[([4],(⟨us (List.replicate (n/32+1) 0),1,false⟩:cN))], σ y.1=some y.2)->bu σ p (.store 1 (.ref [4] (n/32) 0) (.int .u32 ((2 ^ (n%32):Nat):Int)))=some { val := .tup [],rd:=[[4]],up:=[([4],some ⟨us (digits (2 ^ n)),1,false⟩)] }:=fun σ p hσ => by
   rw [<- FF]
   exact bC (hσ ([4],⟨us (List.replicate (n/32+1) 0),1,false⟩) (by simp)) (by simp)
 have hlen:(digits (2 ^ n)).length=n/32+1:=by rw [z5];simp
 exact VP.dm hN [hw 5 k5,hw 6 k6, .st 7 [] _ _ k7,hw 10 k5,hw 12 FP,hw 13 k13 .u32,ho 14 k14, .st 100014 _ _ _ k15] [([4],⟨us (digits (2 ^ n)),1,false⟩)] (.osl [4] 1 0 (n/32+1) false) (by kernel_rfl) (fun σ hσ => by
   have h:=hσ ([4],⟨us (digits (2 ^ n)),1,false⟩) (by simp)
   have e:(us (digits (2 ^ n))).length=n/32+1:=by simp [us,hlen]
   rw [<- e]
   exact View.osl (bk:=⟨us (digits (2 ^ n)),1,false⟩) h rfl (by simp) (by rw [List.drop_zero,List.take_length];exact ah.pure (by intro c hc;obtain ⟨e,he,hc⟩:=List.mem_flatMap.1 hc;obtain ⟨w,_,rfl⟩:=List.mem_map.1 he;rcases List.mem_singleton.1 hc with rfl;exact af.int _ _)) rfl (by intro a ha;obtain ⟨w,_,rfl⟩:=List.mem_map.1 ha;rfl))
theorem MO (z:Int) (s b:Nat) (hz:0<z) (hs:iq z.natAbs s) (hb:z.natAbs<2 ^ b) (qh:b<=20000000) (h1:VP Tryz.prog G 76 [IV z] (.int .i64 1)) (h2:VP Tryz.prog G 320 [IV z] (.int .i64 (b:Int))) (h3:VP Tryz.prog G 321 [.int .i64 ((b/2+1:Nat):Int)] (W (2 ^ (b/2+1)))) (h4:VP Tryz.prog G 141 [W z.natAbs] (W z.natAbs))
  (h5:∀ n,0<n->n<=2 ^ (b/2+1)->VP Tryz.prog G 300 [W z.natAbs,W n] (.tup [W (z.natAbs/n),W (z.natAbs%n)])) (h6:∀ n,s<=n->n<=2 ^ (b/2+1)->VP Tryz.prog G 292 [W n,W (z.natAbs/n)] (W (n+z.natAbs/n))) (h7:∀ n,s<=n->n<=2 ^ (b/2+1)->VP Tryz.prog G 322 [W (n+z.natAbs/n)] (W ((n+z.natAbs/n)/2)))
  (h8:∀ n,s<=n->n<=2 ^ (b/2+1)->VP Tryz.prog G 281 [W ((n+z.natAbs/n)/2),W n] (.int .i64 (de ((n+z.natAbs/n)/2) n))) (h9:VP Tryz.prog G 260 [.bool false,W s] (IV (s:Int))):VP Tryz.prog G 316 [IV z] (.tup [IV (s:Int), .int .i64 0]):=by
 have h0:0<s:=by
   rcases Nat.eq_zero_or_pos s with e | e
   . exfalso
     have:=hs.2
     rw [e] at this
     omega
   . exact e
 have FD:s<=2 ^ (b/2+1):=by
   rcases Nat.lt_or_ge (2 ^ (b/2+1)) s with hlt | wW
   . exfalso
     have m1:=Nat.mul_le_mul (Nat.le_of_lt hlt) (Nat.le_of_lt hlt)
     have m2:=hs.1
     rw [<- Nat.pow_add] at m1
     have m3:2 ^ b<=2 ^ (b/2+1+(b/2+1)):=Nat.pow_le_pow_right (by decide) (by omega)
     omega
   . exact wW
 have l:=Is (P:=Tryz.prog) (G:=G) z (2 ^ (b/2+1)) s hs h0 FD (2 ^ (b/2+1)) (Nat.le_refl _) h4 h5 h6 h7 h8 h9 1000
 have l':=l.mono (Q':=fun e s'=>e = .ret/\Wk G [] s' ⟨MK [1],bX.to (x9 [([1],⟨[IV (s:Int)],2,false⟩)]),1000+30*(2 ^ (b/2+1)-s+2)⟩) fun e s' hq=>⟨hq.1,Wk.toT (by simp) hq.2⟩
 have k19:IntKind.i64.wrap ((b:Int).tdiv 2)=((b/2:Nat):Int):=by rw [IntKind.wrap_i64,Int.tdiv_eq_ediv_of_nonneg (by omega)];omega
 have k20:IntKind.i64.wrap (((b/2:Nat):Int)+1)=((b/2+1:Nat):Int):=by rw [IntKind.wrap_i64];omega
 exact vt [hc h1,hc h2,hw 19 k19,hw 20 k20,hc h3, .lp [] _ _ _ _ _ _ _ _ l'] (by kernel_rfl)
theorem MP (m n:Nat) (hm:aa m<=100000) (hn:aa n<=100000):VP Tryz.prog G 296 [IV (m:Int),IV (n:Int)] (.bool (decide (m=n))):=by
 have k14:jY false (W m)=some (.int .i64 (aa m:Int)):=aQ _
 have k17:jY false (W n)=some (.int .i64 (aa n:Int)):=aQ _
 have e10:(!(decide ((m:Int)<0)==decide ((n:Int)<0)))=false:=by rw [ag (by omega),ag (by omega)];rfl
 by_cases hl:aa m=aa n
 . have e18:((aa m:Int) != (aa n:Int))=false:=by rw [hl];simp
   by_cases he:m=n
   . subst he
     rw [decide_eq_true rfl]
     exact vt [hb 10 e10,ho 14 k14,ho 17 k17,hb 18 e18, .lp [] _ _ _ _ _ _ _ _ (TW m hm)] (by kernel_rfl)
   . rw [decide_eq_false he]
     exact vt [hb 10 e10,ho 14 k14,ho 17 k17,hb 18 e18, .lp [] _ _ _ _ _ _ _ _ (TX m n he hl hm)] (by kernel_rfl)
 . have e18:((aa m:Int) != (aa n:Int))=true:=bne_iff_ne.2 (by omega)
   rw [decide_eq_false (fun e=>hl (by rw [e]))]
   exact vt [hb 10 e10,ho 14 k14,ho 17 k17,hb 18 e18] (by kernel_rfl)
theorem Gz (ht:fY Tryz.prog G 128) {ws:List Nat} (hw:Wd ws) (hl:ws.length<=1000000):VP Tryz.prog G 126 [.bool false, .sl 1 (us ws)] (IV ((val ws:Nat):Int)):=by
 have e:IV ((val ws:Nat):Int) = .agg [.bool false,W (val ws)]:=by
   unfold IV
   rw [ag (by omega : ¬ ((val ws:Nat):Int)<0)];rfl
 rw [e]
 exact vt [hc (ht ws hw (by omega))] (by kernel_rfl)
end
end Go.Proofs.YtndoagbiakehnaaGreat
end

section
set_option maxRecDepth 100000
set_option linter.unusedVariables false
namespace Go.VL
open Go.Proofs
section
variable {P:Program} {G:Nat->Option (List AV)}
instance {n:Bool} {w:List Nat}:PU (IR n w):=by unfold IR;infer_instance
instance {a b:Int}:PU (RV a b):=by unfold RV;infer_instance
end
end Go.VL
end

section
set_option maxRecDepth 100000
set_option linter.unusedVariables false
namespace Go.Proofs.YtndoagbiakehnaaGreat
open Go.VL Go.Proofs
section
variable {G:Nat->Option (List AV)}
theorem Qr (ht:fY Tryz.prog G 141) (z:Int) (hz:aa z.natAbs<=1000000):VP Tryz.prog G 76 [IV z] (.int .i64 z.sign):=by
 have hl:aa z.natAbs=0↔z=0:=by rw [bE];omega
 have t1:=kp ht z.natAbs (by omega)
 have l1 := @aQ z.natAbs
 by_cases h0:z=0
 . have d0:decide ((aa z.natAbs:Int)=0)=true:=ai (by have:=hl.2 h0;omega)
   rw [show z.sign=0 by rw [h0];rfl]
   exact vt [hc t1,ho 7 l1,hb 8 d0] (by kernel_rfl)
 . have d0:decide ((aa z.natAbs:Int)=0)=false:=ag (by have:=fun e=>h0 (hl.1 e);omega)
   by_cases hn:z<0
   . have d1:decide (z<0)=true:=ai hn
     rw [Int.sign_eq_neg_one_of_neg hn]
     exact vt [hc t1,ho 7 l1,hb 8 d0,hb 11 d1] (by kernel_rfl)
   . have d1:decide (z<0)=false:=ag hn
     rw [Int.sign_eq_one_of_pos (by omega)]
     exact vt [hc t1,ho 7 l1,hb 8 d0,hb 11 d1] (by kernel_rfl)
theorem Iy (hn:∀ z:Int,aa z.natAbs<=1000000->VP Tryz.prog G 125 [IV z] (IV z)) (z:Int) (hz:aa z.natAbs<=1000000):VP Tryz.prog G 96 [IV z] (.int .i64 z.sign):=by
 have hl:aa z.natAbs=0↔z=0:=by rw [bE];omega
 have t1:=hn z hz
 have l1 := @aQ z.natAbs
 by_cases h0:z=0
 . have d0:decide ((aa z.natAbs:Int)=0)=true:=ai (by have:=hl.2 h0;omega)
   rw [show z.sign=0 by rw [h0];rfl]
   exact vt [hc t1,ho 7 l1,hb 8 d0] (by kernel_rfl)
 . have d0:decide ((aa z.natAbs:Int)=0)=false:=ag (by have:=fun e=>h0 (hl.1 e);omega)
   by_cases hn:z<0
   . have d1:decide (z<0)=true:=ai hn
     rw [Int.sign_eq_neg_one_of_neg hn]
     exact vt [hc t1,ho 7 l1,hb 8 d0,hb 10 d1] (by kernel_rfl)
   . have d1:decide (z<0)=false:=ag hn
     rw [Int.sign_eq_one_of_pos (by omega)]
     exact vt [hc t1,ho 7 l1,hb 8 d0,hb 10 d1] (by kernel_rfl)
theorem T6 (ht:fY Tryz.prog G 141) (hC:∀ n,aa n<=1000000->VP Tryz.prog G 204 [W n] (W n)) (hs:fL Tryz.prog G 260) (z:Int) (hz:aa z.natAbs<=1000000):VP Tryz.prog G 265 [IV z] (IV (-z)):=by
 have dP:=hs (!decide (z<0)) z.natAbs (by omega)
 rw [Kc] at dP
 have t1:=kp ht z.natAbs (by omega)
 have c1:=hC z.natAbs hz
 exact vt [hc t1,hc c1,hc dP] (by kernel_rfl)
theorem T7 (ht:fY Tryz.prog G 141) (hm:∀ m n,aa m<=1000000->aa n<=1000000->VP Tryz.prog G 282 [W m,W n] (W (m*n))) (hs:fL Tryz.prog G 260) (y z:Int) (hy:aa y.natAbs<=1000000) (hz:aa z.natAbs<=1000000):VP Tryz.prog G 257 [IV y,IV z] (IV (y*z)):=by
 have dP:=hs (!(decide (y<0)==decide (z<0))) (y.natAbs*z.natAbs) (by have:=ly y.natAbs z.natAbs;omega)
 rw [Ke] at dP
 have t1:=kp ht y.natAbs (by omega)
 have t2:=kp ht z.natAbs (by omega)
 have m1:=hm y.natAbs z.natAbs hy hz
 exact vt [hc t1,hc t2,hc m1,hc dP] (by kernel_rfl)
theorem GC (hu:∀ n,n<18446744073709551616->VP Tryz.prog G 261 [.int .u64 ((n:Nat):Int)] (W n)) (hs:fL Tryz.prog G 260) (a:Int) (h1 : -9223372036854775808<=a) (h2:a<9223372036854775808):VP Tryz.prog G 232 [.int .i64 a] (IV a):=by
 have hsz:=kU a.natAbs (by omega)
 have dP:=hs (decide (a<0)) a.natAbs (by omega)
 rw [u5] at dP
 have Bl:=hu a.natAbs (by omega)
 by_cases hn:a<0
 . have d1:decide (a<0)=true:=ai hn
   rw [<- show IntKind.u64.wrap (0-(IntKind.u64.wrap a))=(a.natAbs:Int) by rw [IntKind.wrap_u64,IntKind.wrap_u64];omega] at Bl
   exact vt [hb 7 d1,hc Bl,hc dP] (by kernel_rfl)
 . have d1:decide (a<0)=false:=ag hn
   rw [<- show IntKind.u64.wrap a=(a.natAbs:Int) by rw [IntKind.wrap_u64];omega] at Bl
   exact vt [hb 7 d1,hc Bl,hc dP] (by kernel_rfl)
theorem Dw (a:Int) (hi:VP Tryz.prog G 232 [.int .i64 a] (IV a)) (hO:VP Tryz.prog G 233 [] (IV 1)):VP Tryz.prog G 198 [.int .i64 a] (RV a 1)   := by
 exact vt [hc hi,hc hO] (by kernel_rfl)
theorem A7 (a:Int) (hi:VP Tryz.prog G 66 [.int .i64 a] (IV a)) (hO:VP Tryz.prog G 66 [.int .i64 1] (IV 1)):VP Tryz.prog G 24 [.int .i64 a] (RV a 1):=by
 exact vt [hc hi,hc hO] (by kernel_rfl)
theorem Qs (hl:∀ x,x<ak->VP Tryz.prog G 318 [.int .u32 ((x:Nat):Int)] (.int .i64 (ee x:Int))) (x:Nat) (hx:x<ak) (h0:0<x):VP Tryz.prog G 310 [.int .u32 (x:Int)] (.int .i64 ((32-ee x:Nat):Int)):=by
 have hb:ee x<=32:=by
   have h1:=(mz hx h0).2
   have h2:2 ^ ee x<2 ^ 33:=by unfold ak at hx;omega
   have:=(Nat.pow_lt_pow_iff_right (by decide:1<2)).1 h2
   omega
 have e:IntKind.i64.wrap ((32:Int)-((ee x:Nat):Int))=((32-ee x:Nat):Int):=by rw [IntKind.wrap_i64];omega
 have l1:=hl x hx
 rw [<- e]
 exact vt [hc l1] (by kernel_rfl)
theorem Qt (hn:∀ z:Int,aa z.natAbs<=1000000->VP Tryz.prog G 213 [IV z] (IV (-z)))
  (ha:∀ a b:Int,aa a.natAbs<=1000000->aa b.natAbs<=1000000->VP Tryz.prog G 186 [IV a,IV b] (IV (a+b))) (a b:Int) (hwa:aa a.natAbs<=1000000) (Nw:aa b.natAbs<=1000000):VP Tryz.prog G 185 [IV a,IV b] (IV (a-b)):=by
 have hav:=ha a (-b) hwa (by rw [Int.natAbs_neg];exact Nw)
 rw [<- Int.sub_eq_add_neg] at hav
 have n1:=hn b Nw
 exact vt [hc n1,hc hav] (by kernel_rfl)
instance {c:UInt8}:PU (eH c):=by unfold eH;infer_instance
theorem Dx (c:UInt8):VP Tryz.prog G 136 [eH c] (.bool (cy c)):=by
 unfold cy
 by_cases h1:(97:Int)<=c.toNat
 . rw [ai h1]
   by_cases h2:(c.toNat:Int)<=122
   . rw [ai h2]
     exact vt [hb 4 (ai h1),hb 7 (ai h2)] (by kernel_rfl)
   . have h3:(65:Int)<=c.toNat:=by omega
     rw [ag h2,ai h3]
     exact vt [hb 4 (ai h1),hb 7 (ag h2),hb 11 (ai h3)] (by kernel_rfl)
 . rw [ag h1]
   by_cases h3:(65:Int)<=c.toNat
   . rw [ai h3]
     exact vt [hb 4 (ag h1),hb 11 (ai h3)] (by kernel_rfl)
   . rw [ag h3]
     exact vt [hb 4 (ag h1),hb 11 (ag h3)] (by kernel_rfl)
theorem GD (c:UInt8):VP Tryz.prog G 189 [eH c] (.bool (gS c)):=by
 unfold gS
 by_cases h1:(48:Int)<=c.toNat
 . rw [ai h1]
   exact vt [hb 4 (ai h1)] (by kernel_rfl)
 . rw [ag h1]
   exact vt [hb 4 (ag h1)] (by kernel_rfl)
theorem Iz (hl:∀ c,VP Tryz.prog G 136 [eH c] (.bool (cy c))) (hd:∀ c,VP Tryz.prog G 189 [eH c] (.bool (gS c))) (c:UInt8) :
   VP Tryz.prog G 138 [eH c] (.bool (cD c)):=by
 unfold cD
 have l1:=hl c
 have l2:=hd c
 cases h1:cy c
 . rw [h1] at l1
   cases h2:gS c
   . rw [h2] at l2
     exact vt [hc l1,hc l2] (by kernel_rfl)
   . rw [h2] at l2
     exact vt [hc l1,hc l2] (by kernel_rfl)
 . rw [h1] at l1
   exact vt [hc l1] (by kernel_rfl)
theorem IA (z:Int):VP Tryz.prog G 291 [IV z] (.bool (decide (z=0))):=by
 have e:decide ((aa z.natAbs:Int)=0)=decide (z=0):=by
   have:=bE (n:=z.natAbs)
   congr 1;apply propext;omega
 rw [<- e]
 exact vt [ho 5 (@aQ z.natAbs)] (by kernel_rfl)
theorem Qu (a b:Rat) (hA:VP Tryz.prog G 244 [QV a,QV b] (QV (a+b))):VP Tryz.prog G 209 [EV a,EV b] (EV (a+b)):=by
 exact VP.dm hN [hc hA] [([3],⟨[QV (a+b)],4,false⟩)] (.osl [3] 4 0 1 false) (by kernel_rfl) (fun σ hσ => tC (hσ ([3],⟨[QV (a+b)],4,false⟩) (by simp)))
theorem Qv (a:Rat) (hA:VP Tryz.prog G 237 [QV a] (QV (-a))):VP Tryz.prog G 203 [EV a] (EV (-a)):=by
 exact VP.dm hN [hc hA] [([3],⟨[QV (-a)],4,false⟩)] (.osl [3] 4 0 1 false) (by kernel_rfl) (fun σ hσ => tC (hσ ([3],⟨[QV (-a)],4,false⟩) (by simp)))
theorem Dy (a:Rat) (hi:VP Tryz.prog G 198 [.int .i64 1] (QV 1)) (hd:VP Tryz.prog G 271 [QV 1,QV a] (.tup [QV (1/a), .int .i64 0])) :
   VP Tryz.prog G 243 [.nils,EV a] (.tup [EV (1/a), .bool true]):=by
 exact VP.dm hN [hc hi,hc hd] [([17],⟨[QV (1/a)],4,false⟩)] (.tup [.osl [17] 4 0 1 false, .bool true]) (by kernel_rfl) (fun σ hσ => View.tup (ah.cons (tC (hσ ([17],⟨[QV (1/a)],4,false⟩) (by simp))) (ah.cons (View.pure (af.bool _)) ah.nil)))
theorem rR (a b:Rat) (hC:VP Tryz.prog G 227 [QV a,QV b] (.int .i64 (H8 a b))):VP Tryz.prog G 226 [QV a,QV b] (.bool (decide (a=b))):=by
 have e:decide (H8 a b=0)=decide (a=b):=by congr 1;exact propext Mp
 rw [<- e]
 exact vt [hc hC] (by kernel_rfl)
theorem Qw (a:Rat) (hf:VP Tryz.prog G 202 [.nils,EV a] (.bool true)) (hr:VP Tryz.prog G 234 [.nils] (.bool true)):VP Tryz.prog G 199 [.nils, .sl 1 [EV a]] (.bool true):=by
 exact vt [hc hf,hc hr] (by kernel_rfl)
theorem MQ (a:Rat) (hg:VP Tryz.prog G 199 [.nils, .sl 1 [EV a]] (.bool true)) (hv:VP Tryz.prog G 200 [.nils,EV a] (.int .i64 (az a))):VP Tryz.prog G 146 [.nils,EV a] (.int .i64 (az a)):=by
 have hw:ah (ae.of [([3],⟨[EV a],1,false⟩)]) [.nils, .osl [3] 1 0 1 false] [.nils, .sl 1 [EV a]]:=ah.cons (View.pure af.nils) (ah.cons (TA (f:=false) (by simp [ae.of])) ah.nil)
 exact vt [bm [([3],⟨[EV a],1,false⟩)] hg hw,hc hv] (by kernel_rfl)
theorem lR (q:Rat) (hC:VP Tryz.prog G 149 [QV q] (QV q)):VP Tryz.prog G 201 [EV q] (EV q):=by
 exact VP.dm hN [hc hC] [([3],⟨[QV q],4,false⟩)] (.osl [3] 4 0 1 false) (by kernel_rfl) (fun σ hσ => tC (hσ ([3],⟨[QV q],4,false⟩) (by simp)))
theorem MR (a:Rat) (ha:a≠0) (hi:VP Tryz.prog G 217 [QV a] (QV a⁻¹)):VP Tryz.prog G 169 [.nils,EV a] (.tup [EV a⁻¹, .int .i64 0]):=by
 have l1 := @aQ a.num.natAbs
 have z1:=B9 a
 rw [ag ha] at z1
 exact VP.dm hN [ho 20 l1,hb 21 z1,hc hi] [([16],⟨[QV a⁻¹],4,false⟩)] (.tup [.osl [16] 4 0 1 false, .int .i64 0]) (by kernel_rfl) (fun σ hσ => View.tup (ah.cons (tC (hσ ([16],⟨[QV a⁻¹],4,false⟩) (by simp))) (ah.cons (View.pure (af.int _ _)) ah.nil)))
end
end Go.Proofs.YtndoagbiakehnaaGreat
end

section
set_option maxRecDepth 100000
set_option linter.unusedVariables false
namespace Go.Proofs.YtndoagbiakehnaaGreat
open Go.VL Go.Proofs
section
variable {G:Nat->Option (List AV)}
theorem Aa (a:Q2):aC Tryz.prog G 142 [V2 a, .int .i64 0] (V2 a):=aC.tr hN []
instance {p:Int × Int}:PU (I2 p):=by unfold I2;infer_instance
theorem GF (d:DX) (hd:d.Ok) (ha:∀ p u,VF p->u<256->VP Tryz.prog G 133 [I2 p, .int .u8 ((u:Nat):Int)] (V2 (qv p u))) (hw:VP Tryz.prog G 25 [.int .i64 0, .int .i64 0] (V2 (0,0)))
  (hm:VH Tryz.prog G 40) (hu:∀ n:Nat,n<256->VP Tryz.prog G 134 [.int .u8 (n:Int)] (V2 (oP (n%16)))) (hs:Dq Tryz.prog G 52) (hl:∀ a:Q2,bl 5000 a->VP Tryz.prog G 116 [V2 a] (V2 (-a.2,a.1))) (hp:PR Tryz.prog G 51) (hv:Kz Tryz.prog G 113):VP Tryz.prog G 69 [d.av] (.tup [d.fx.av, .bool d.fx.valid]):=by
 have kL:=hv d.fx ((Gd hd).mono (by omega))
 obtain ⟨h1,h2,h3,h4⟩:=hd
 have sa:=Dp h1 d.unit
 have sb:=Dp h2 d.unit
 have a1:=ha d.a d.unit h1 h4
 have a2:=ha d.b d.unit h2 h4
 cases Dt:d.mF
 . have e:d.fx=⟨d.mF,qv d.a d.unit,qv d.b d.unit,(0,0),d.cw⟩:=by unfold DX.fx;rw [if_neg (by rw [Dt];decide),Dt]
   rw [e] at kL ⊢
   exact vt [hc a1,hc a2,hc hw,hb 25 Dt,hc kL] (by kernel_rfl)
 . have su:=Gc (Nat.mod_lt d.step (by decide:0<16))
   have u1:=hu d.step h3
   have m1:=hm _ _ (sb.mono (by omega)) (sa.mono (by omega))
   have sv:=sb.sub sa
   have s1:=hs _ _ (sv.mono (by omega)) (su.1.mono (by omega))
   have l1:=hl _ (sv.mono (by omega))
   have s2:=hs _ _ (sv.left.mono (by omega)) (su.2.mono (by omega))
   have p1:=hp _ _ ((sv.scale su.1).mono (by omega)) ((sv.left.scale su.2).mono (by omega))
   have p2:=hp _ _ (sa.mono (by omega)) (((sv.scale su.1).add (sv.left.scale su.2)).mono (by omega))
   have e:d.fx=⟨d.mF,qv d.b d.unit,jW (qv d.a d.unit) (jW (jN (bR (qv d.b d.unit) (qv d.a d.unit)) (oP (d.step%16)).1) (jN (-(bR (qv d.b d.unit) (qv d.a d.unit)).2,(bR (qv d.b d.unit) (qv d.a d.unit)).1) (oP (d.step%16)).2)),qv d.a d.unit,d.cw⟩:=by unfold DX.fx;rw [if_pos Dt,Dt]
   rw [e] at kL ⊢
   generalize bR (qv d.b d.unit) (qv d.a d.unit)=v at *
   generalize oP (d.step%16)=w at *
   generalize jW (qv d.a d.unit) (jW (jN v w.1) (jN (-v.2,v.1) w.2))=r at *
   exact vt [hc a1,hc a2,hc hw,hb 25 Dt,au [24] m1,hc u1,au [24] s1,hc l1,au [24] s2,au [24] p1,au [24] p2,hc kL] (by kernel_rfl)
theorem Qx (hF:Ky Tryz.prog G 188) (hM:∀ v:Q2,VP Tryz.prog G 67 [QV v.1,QV v.2] (V2 v)) (p:Int × Int) (hp:VF p) (u:Nat) (hu:u<256):VP Tryz.prog G 133 [I2 p, .int .u8 (u:Int)] (V2 (qv p u)):=by
 obtain ⟨q1,q2,q3,q4⟩:=hp
 have r1:bo .rem .int (.int .u8 (u:Int)) (.int .u8 4)=some (.int .u8 ((u%4:Nat):Int)):=by
   show some (AV.int .u8 ((u:Int).tmod 4))=_
   rw [Int.tmod_eq_emod_of_nonneg (by omega)];rfl
 have r2:IntKind.i64.wrap ((u%4:Nat):Int)=((u%4:Nat):Int):=by rw [IntKind.wrap_i64];omega
 have r3:IntKind.i64.wrap (((u%4:Nat):Int)+1)=((u%4+1:Nat):Int):=by rw [IntKind.wrap_i64];omega
 have r4:IntKind.i64.wrap p.1=p.1:=by rw [IntKind.wrap_i64];omega
 have r5:IntKind.i64.wrap p.2=p.2:=by rw [IntKind.wrap_i64];omega
 have m1:VP Tryz.prog G 67 _ _:=hM (qv p u)
 simp only [qv] at m1
 have f1:VP Tryz.prog G 188 [.int .i64 (IntKind.i64.wrap p.1), .int .i64 (IntKind.i64.wrap (IntKind.i64.wrap ((u:Int).tmod 4)+1))] (QV ((p.1:Rat)/(((u%4+1:Nat):Int):Rat))):=by
   rw [Int.tmod_eq_emod_of_nonneg (by omega),show (u:Int)%4=((u%4:Nat):Int) from rfl,r2,r3,r4]
   exact hF p.1 (u%4+1) (by omega) (by omega) (by omega) (by omega)
 have f2:VP Tryz.prog G 188 [.int .i64 (IntKind.i64.wrap p.2), .int .i64 (IntKind.i64.wrap (IntKind.i64.wrap ((u:Int).tmod 4)+1))] (QV ((p.2:Rat)/(((u%4+1:Nat):Int):Rat))):=by
   rw [Int.tmod_eq_emod_of_nonneg (by omega),show (u:Int)%4=((u%4:Nat):Int) from rfl,r2,r3,r5]
   exact hF p.2 (u%4+1) (by omega) (by omega) (by omega) (by omega)
 exact vt [hc f1,hc f2,hc m1] (by kernel_rfl)
end
end Go.Proofs.YtndoagbiakehnaaGreat
end
