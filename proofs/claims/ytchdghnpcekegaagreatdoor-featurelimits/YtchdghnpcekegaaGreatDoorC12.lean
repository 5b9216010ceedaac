/- For the claim of FeatureLimits: parts CQO, CQR, PI1, PI2, QVL, PJ1, PJ2, CQS, PJ3, CS1, CS2, PA1, PA2, PA3, PA4, PA5, PA6, VL35, PX, VL41, CQT, CQU, CQV. -/
import Derived.Test.YtchdghnpcekegaaGreatDoorC11
import Derived.Test.YtchdghnpcekegaaGreatDoorC05
import Derived.Test.YtchdghnpcekegaaGreatDoorC08
import Derived.Test.YtchdghnpcekegaaGreatDoorC07
import Derived.Deep.Slices
import Derived.Test.YtchdghnpcekegaaGreatDoorProg
import Derived.Test.YtchdghnpcekegaaGreatDoorC10
import Derived.Lib.IndexMore
import Derived.KernelRfl
import Derived.OpenShut
set_option linter.unusedSimpArgs false
set_option linter.unusedVariables false
section
set_option linter.unusedSimpArgs false
set_option linter.unusedVariables false
set_option maxRecDepth 100000
namespace Go.VL
open Go.Lib
section
variable {P:Program} {G:Nat->Option (List AV)}
theorem MP {f fi fs fmk fn fc fd f1 fm fw fa:FuncId} (h:Has P f (sI fi fs fmk fn fc fd f1 fm fw)) (nm:List UInt8) (l:List NX) (ins:List (List UInt8)) (x y:Rat) (n:Int) (D7 : -1000<=n/\n<=1000)
   (hI:VP P G fi [.str nm,dP l,strs ins] (if dw nm l ins=0 then .tup [My (ins.map (eD l)), .int .i64 0] else .tup [.nils, .int .i64 (dw nm l ins)])) (hS:∀ q,Sm 1000 q->VP P G fs [QV q] (.int .i64 (df q))) (hM:∀ v:Q2,nd 1000 v->VP P G fmk [QV v.1,QV v.2] (V2 v)) (hN:∀ i:Nat,i<=1000->VP P G fn [.int .i64 (i:Int)] (NV (((i:Nat):Int):Rat)))
   (hC:xp P G fc) (hD:∀ n:Nat,n<100->VP P G fd [.int .i64 (n:Int)] (.str (decDigits n))) (h1:Has P f1 (fx fa)) (hm:Has P fm ij) (hA:CJ P G fa)
   (hW:∀ more:List NX,more.length<=1000000->l≠[]->more≠[]->VP P G fw [dP l,dP more] (if iE l more=0 then .tup [dP (l++more), .int .i64 0] else .tup [.nils, .int .i64 (iE l more)]))
   (qU:nm.length<=1000) (hl:∀ z∈l,NOk 2000 z) (hlen:l.length<=1000) (yc:ins.length<=10) (hx:Sm 1000 x) (hy:Sm 1000 y):VP P G f [.str nm,dP l,strs ins,QV x,QV y, .int .i64 n] (Sb nm l ins x y n):=by
 have ZH:=hS x hx
 have hsy:=hS y hy
 have qx:=zM x
 have qy:=zM y
 unfold Sb MB
 by_cases hn:n<1∨50<n
 . rw [if_pos hn,if_neg (by decide)]
   rcases (by omega:n<1∨(¬ n<1/\50<n)) with h1 | ⟨h1,h2⟩
   . exact VP.tr h [hb 21 (aw h1)] (by kernel_rfl)
   . exact VP.tr h [hb 21 (ar h1),hb 24 (aw h2)] (by kernel_rfl)
 have d1:decide (n<1)=false:=ar (by omega)
 have d2:decide (50<n)=false:=ar (by omega)
 rw [if_neg hn]
 by_cases p9:dw nm l ins=0
 case neg =>
   rw [if_neg p9] at hI
   rw [if_pos p9,if_neg p9]
   exact VP.tr h [hb 21 d1,hb 24 d2,hc hI,hb 34 (bne_iff_ne.2 p9)] (by kernel_rfl)
 rw [if_pos p9] at hI
 rw [if_neg (show ¬ (dw nm l ins≠0) by simp [p9])]
 by_cases JS:x=0/\y=0
 . rw [decide_eq_true JS.1] at qx
   rw [decide_eq_true JS.2] at qy
   rw [if_pos JS,if_neg (by decide)]
   exact VP.tr h [hb 21 d1,hb 24 d2,hc hI,hc ZH,hb 38 qx,hc hsy,hb 42 qy] (by kernel_rfl)
 rw [if_neg JS]
 obtain ⟨ui,hne,iI⟩:=Bf p9
 obtain ⟨N,rfl⟩:∃ N:Nat,n=(N:Int):=⟨n.toNat,by omega⟩
 rw [Int.toNat_natCast]
 have Ku:l≠[]:=by
   rintro rfl
   cases ins with
   | nil=>exact hne rfl
   | cons s _=>exact iI s (by simp) (by simp [dY,Ab])
 have hw:nd 1000 (x,y):=⟨hx,hy⟩
 have hml:(bH nm l (x,y) ins N).length<=500:=by rw [p7];exact Nat.le_trans (Nat.mul_le_mul (by omega:N<=50) yc) (by decide)
 have Vo:bH nm l (x,y) ins N≠[]:=by
   cases N with
   | zero=>omega
   | succ k=>simp [bH,hne]
 have Vp:=hW (bH nm l (x,y) ins N) (by omega) Ku Vo
 let lp:Hint P G := .lp [] _ _ _ _ _ _ _ _ (Sw (fmk:=fmk) (fn:=fn) (fc:=fc) (fd:=fd) (f1:=f1) (fm:=fm) nm l ins N (x,y) (by omega) (by omega) hw (hM (x,y) hw) hN hC hD h1 hm hA iI qU hl yc hne)
 have qx0:∀ {b:Bool},decide (x=0)=b->decide (df x=0)=b:=fun e=>qx.trans e
 have qy0:∀ {b:Bool},decide (y=0)=b->decide (df y=0)=b:=fun e=>qy.trans e
 by_cases h0:iE l (bH nm l (x,y) ins N)=0
 . rw [if_pos h0] at Vp ⊢
   by_cases HU:x=0
   . exact VP.tr h [hb 21 d1,hb 24 d2,hc hI,hc ZH,hb 38 (qx0 (decide_eq_true HU)),hc hsy,hb 42 (qy0 (decide_eq_false fun e=>JS ⟨HU,e⟩)),lp,hc Vp] (by kernel_rfl)
   . exact VP.tr h [hb 21 d1,hb 24 d2,hc hI,hc ZH,hb 38 (qx0 (decide_eq_false HU)),lp,hc Vp] (by kernel_rfl)
 . rw [if_neg h0] at Vp ⊢
   by_cases HU:x=0
   . exact VP.tr h [hb 21 d1,hb 24 d2,hc hI,hc ZH,hb 38 (qx0 (decide_eq_true HU)),hc hsy,hb 42 (qy0 (decide_eq_false fun e=>JS ⟨HU,e⟩)),lp,hc Vp] (by kernel_rfl)
   . exact VP.tr h [hb 21 d1,hb 24 d2,hc hI,hc ZH,hb 38 (qx0 (decide_eq_false HU)),lp,hc Vp] (by kernel_rfl)
end
end Go.VL
end

section
set_option linter.unusedSimpArgs false
set_option linter.unusedVariables false
set_option maxRecDepth 100000
namespace Go.VL
open Go.Lib
theorem Yz {a:Int} (h:a.natAbs<aE):Sm 1 (a:Rat):=⟨fC (by rw [Nat.pow_one];exact h),u0⟩
section
variable {P:Program} {G:Nat->Option (List AV)}
theorem VK {f fg fs:FuncId} (h:Has P f (kv fg fs)) (L:List NX) (e:Int) (hg:VP P G fg [dP L] (.bool true)) (hs:VP P G fs [dP L,dP L] (.bool true)):VP P G f [dP L, .int .i64 e,dP L, .int .i64 e] (.bool true) :=
 VP.tr h [hb 11 (beq_self_eq_true e),hc hg,hc hs] (by kernel_rfl)
theorem Sx {f fg fs:FuncId} (h:Has P f (kv fg fs)) (e:Int) (hg:VP P G fg [dP []] (.bool true)) (hs:VP P G fs [dP [],dP []] (.bool true)):VP P G f [.nils, .int .i64 e, .nils, .int .i64 e] (.bool true) :=
 VP.tr h [hb 11 (beq_self_eq_true e),lF [] hg (aF.cons (View.nils 15) aF.nil),lF [] hs (aF.cons (View.nils 15) (aF.cons (View.nils 15) aF.nil))] (by kernel_rfl)
def YA (P:Program) (G:Nat->Option (List AV)) (f:FuncId) (l:List NX):Prop:=∀ (nm:List UInt8) (ins:List (List UInt8)) (x y:Rat) (n:Int),nm.length<=1000->ins.length<=10->Sm 1000 x->Sm 1000 y -> -1000<=n->n<=1000->VP P G f [.str nm,dP l,strs ins,QV x,QV y, .int .i64 n] (Sb nm l ins x y n)
end
end Go.VL
end

section
set_option maxRecDepth 100000
namespace Go.Proofs.YtchdghnpcekegaaGreatDoor
open Go.VL Go.Proofs
section
variable (G:Nat->Option (List AV))
theorem t145:iT Tryz.prog G 104:=fun _ hw hl=>PO Dw hw hl
theorem c95 (n:Nat) (hn:ag n<=1000000):VP Tryz.prog G 154 [W n] (W n):=Rj o6 n hn
theorem MQ:iW Tryz.prog G 155:=NJ AL (t145 G)
theorem Ql (n:Nat) (hn:n<18446744073709551616):VP Tryz.prog G 156 [.int .u64 ((n:Nat):Int)] (W n):=Eo yW (t145 G) n hn
theorem Z4 (n:Nat) (hn:n<18446744073709551616):VP Tryz.prog G 289 [W n] (.int .u64 ((n:Nat):Int)):=Tryz.toUint_vp G n hn
theorem n166 (a:Int):VP Tryz.prog G 286 [.int .i64 a] (.bool false):=Nz B5 a
theorem n195 (a:Int):VP Tryz.prog G 297 [.int .u32 a] (.bool false):=HS yZ a
theorem aeF (a b:Int):VP Tryz.prog G 269 [.int .i64 a, .int .i64 b] (.int .i64 (jj a b)):=NA zZ (n166 G) a b
theorem ahX (a b:Int):VP Tryz.prog G 287 [.int .u32 a, .int .u32 b] (.int .i64 (jj a b)):=HT wC (n195 G) a b
theorem VM (m n:Nat) (hm:ag m<=1000000) (hn:ag n<=1000000):VP Tryz.prog G 270 [W m,W n] (.int .i64 (fP m n)):=NB zV (aeF G) (ahX G) m n (by omega) (by omega)
theorem YB (m n:Nat) (hm:ag m<=1000000) (hn:ag n<=1000000):VP Tryz.prog G 280 [W m,W n] (W (m+n)):=Xj Dx m n hm hn
theorem aeG (m n:Nat) (qU:n<=m) (hm:ag m<=1000000):VP Tryz.prog G 281 [W m,W n] (W (m-n)):=T2 B1 (t145 G) m n qU hm
theorem ahY (m n:Nat) (hm:ag m<=1000000) (hn:ag n<=1000000):VP Tryz.prog G 271 [W m,W n] (W (m*n)):=T3 B2 (t145 G) m n hm hn
theorem d189 (m w:Nat) (hm:ag m<=1000000) (hw:w<aE) (h0:w≠0):VP Tryz.prog G 298 [W m, .int .u32 (w:Int)] (.tup [W (m/w),W (m%w)]):=HV wB (t145 G) (Ql G) m w hm hw h0
theorem l90 (x:Nat) (hx:x<aE):VP Tryz.prog G 307 [.int .u32 (x:Int)] (.int .i64 (iC x:Int)):=GQ mX x hx
theorem ahZ (x:Nat) (hx:x<aE) (h0:0<x):VP Tryz.prog G 299 [.int .u32 (x:Int)] (.int .i64 ((32-iC x:Nat):Int)):=Xr qp (l90 G) x hx h0
theorem d164 (m n:Nat) (D7:n≠0) (hm:ag m<=900000) (hn:ag n<=900000):VP Tryz.prog G 288 [W m,W n] (.tup [W (m/n),W (m%n)]) :=
 Rp AM (VM G) (c95 G) (Z4 G) (Ql G) (d189 G) (ahZ G) x7 (t145 G) yX zW kx m n D7 hm hn
theorem abO (z:Int) (hz:ag z.natAbs<=1000000):VP Tryz.prog G 59 [IV z] (.int .i64 z.sign):=Xs Dy (t145 G) z hz
theorem Z5 (a:Int) (h1 : -9223372036854775808<=a) (h2:a<9223372036854775808):VP Tryz.prog G 109 [.int .i64 a] (IV a):=NK zX (Ql G) (MQ G) a h1 h2
theorem n169 (z:Int) (hz:ag z.natAbs<=1000000):VP Tryz.prog G 255 [IV z] (IV (-z)):=aaU ER (t145 G) (c95 G) (MQ G) z hz
theorem ah0 (y z:Int) (hy:ag y.natAbs<=1000000) (hz:ag z.natAbs<=1000000):VP Tryz.prog G 250 [IV y,IV z] (IV (y*z)):=aaV ES (t145 G) (ahY G) (MQ G) y z hy hz
theorem ah1 (y z:Int) (hy:ag y.natAbs<=1000000) (hz:ag z.natAbs<=1000000):VP Tryz.prog G 249 [IV y,IV z] (.int .i64 (jj y z)):=aaW EP (abO G) (aeF G) (t145 G) (VM G) y z hy hz
theorem aeH (a b:Int) (HW:b≠0) (ha:ag a.natAbs<=900000) (hb:ag b.natAbs<=900000):VP Tryz.prog G 293 [IV a,IV b] (.tup [IV (a.fdiv b),IV (a.fmod b), .int .i64 0]):=by
 have h:=Rl AO (t145 G) (d164 G) (YB G) (aeG G) (MQ G) a b HW ha hb
 rw [(Uf a b HW).1,(Uf a b HW).2] at h;exact h
theorem aeI (a b:Int) (ha:ag a.natAbs<=900000) (hb:ag b.natAbs<=900000):VP Tryz.prog G 274 [IV a,IV b] (IV (Nat.gcd a.natAbs b.natAbs:Nat)):=aa3 ET (t145 G) (d164 G) (c95 G) (MQ G) (Z4 G) (Ql G) a b ha hb
theorem aeJ (neg:Bool) (ws:List Nat) (hl:ws.length<=9223372036854775807):VP Tryz.prog G 273 [IR neg ws] (.bool (pK neg ws)):=Rn B3 neg ws hl
theorem abP:VP Tryz.prog G 110 [] (IV 1):=aaX Dz (Z5 G 1 (by decide) (by decide))
theorem i138 (z:Int):VP Tryz.prog G 259 [IV z] (.bool (decide (z=1))):=Ua AP z
theorem ah2 (a b:Int) (HW:b≠0) (ha:ag a.natAbs<=900000) (hb:ag b.natAbs<=900000):VP Tryz.prog G 282 [IV a,IV b] (IV (a.fdiv b)):=aa1 DA a b (i138 G b) (aeH G a b HW ha hb)
theorem abQ (a:Int) (h1 : -9223372036854775808<=a) (h2:a<9223372036854775808):VP Tryz.prog G 63 [.int .i64 a] (RV a 1):=LU yY a (Z5 G a h1 h2) (abP G)
theorem aeK (a b:Int) (ha:ag a.natAbs<=1000000):VP Tryz.prog G 24 [RV a b] (.int .i64 a.sign):=LV B4 a b (abO G a ha)
theorem aeL (a b:Int) (HW:b≠0) (ha:ag a.natAbs<=900000) (hb:ag b.natAbs<=900000) :
   VP Tryz.prog G 261 [IV a,IV b] (RV (a.fdiv (if b<0 then -(Nat.gcd a.natAbs b.natAbs:Nat) else (Nat.gcd a.natAbs b.natAbs:Nat))) (b.fdiv (if b<0 then -(Nat.gcd a.natAbs b.natAbs:Nat) else (Nat.gcd a.natAbs b.natAbs:Nat)))):=by
 have hg0:0<Nat.gcd a.natAbs b.natAbs:=Nat.gcd_pos_of_pos_right _ (by omega)
 have hgl:ag (Nat.gcd a.natAbs b.natAbs)<=900000:=Nat.le_trans (bE (Nat.le_of_dvd (by omega) (Nat.gcd_dvd_right _ _))) hb
 refine Rm zY a b (Nat.gcd a.natAbs b.natAbs:Nat) (aeI G a b ha hb) (n169 G _ (by rw [Int.natAbs_natCast];omega)) ?_
 intro x y hx hy
 have Ui:y≠0:=by rcases hy with rfl | rfl<;>omega
 have hyl:ag y.natAbs<=900000:=by rcases hy with rfl | rfl<;>simpa using hgl
 exact ah2 G x y Ui (by rcases hx with rfl | rfl<;>assumption) hyl
end
end Go.Proofs.YtchdghnpcekegaaGreatDoor
end

section
set_option maxRecDepth 100000
namespace Go.Proofs.YtchdghnpcekegaaGreatDoor
open Go.VL Go.Proofs
section
variable (G:Nat->Option (List AV))
theorem aeM:Has Tryz.prog 96 fY:=uE
theorem ah3:Has Tryz.prog 55 (jZ 96):=tK
theorem t203:iT Tryz.prog G 96:=fun _ hw hl=>PO aeM hw hl
theorem Ox:iW Tryz.prog G 54:=NQ r7 (t203 G)
theorem n185 (z:Int) (hz:ag z.natAbs<=1000000):VP Tryz.prog G 98 [IV z] (IV z):=Ut uF (Ox G) z hz
theorem abR (z:Int) (hz:ag z.natAbs<=1000000):VP Tryz.prog G 51 [IV z] (.int .i64 z.sign):=Rr uI (n185 G) z hz
theorem aeN (n:Nat) (hn:n<18446744073709551616):VP Tryz.prog G 55 [.int .u64 ((n:Nat):Int)] (W n):=Eo ah3 (t203 G) n hn
theorem Qm (a:Int) (h1 : -9223372036854775808<=a) (h2:a<9223372036854775808):VP Tryz.prog G 22 [.int .i64 a] (IV a):=Rs rG (aeN G) (Ox G) a h1 h2
theorem aeO (m n:Nat) (hm:ag m<=1000000) (hn:ag n<=1000000):VP Tryz.prog G 140 [W m,W n] (.int .i64 (fP m n)):=L6 rH m n hm hn
theorem ah4 (m n:Nat) (hm:ag m<=1000000) (hn:ag n<=1000000):VP Tryz.prog G 190 [W m,W n] (W (m+n)):=Uv uG (t203 G) m n hm hn
theorem ah5 (m n:Nat) (qU:n<=m) (hm:ag m<=1000000):VP Tryz.prog G 146 [W m,W n] (W (m-n)):=I9 m6 (t203 G) m n qU hm
theorem aeP (m:Nat) (ws:List Nat) (hw:Wd ws) (hm:ag m<=1000000) (hl:ws.length<=1000000):VP Tryz.prog G 189 [W m, .sl 1 (us ws)] (W (m*val ws)):=GZ m7 (t203 G) m hw hm hl
theorem ah6 (m n:Nat) (hm:ag m<=1000000) (hn:ag n<=1000000):VP Tryz.prog G 189 [W m,W n] (W (m*n)):=Rt m7 (t203 G) m n hm hn
theorem ah7 (m w:Nat) (hm:ag m<=1000000) (hw:w<aE) (h0:w≠0):VP Tryz.prog G 142 [W m, .int .u32 (w:Int)] (.tup [W (m/w), .int .u32 ((m%w:Nat):Int)]):=abo x8 (t203 G) m w hm hw h0
theorem aeQ (n:Nat) (hn:n<18446744073709551616):VP Tryz.prog G 141 [W n] (.int .u64 (n:Int)):=Uu tL n hn
theorem aeR (m s:Nat) (hm:ag m<=1000000) (hs:s<=31):VP Tryz.prog G 147 [W m, .int .i64 (s:Int)] (W (m/2 ^ s)):=XF uH (t203 G) m s hm hs
theorem d204 (m n:Nat) (D7:n≠0) (hm:ag m<=900000) (hn:ag n<=900000):VP Tryz.prog G 97 [W m,W n] (.tup [W (m/n),W (m%n)]) :=
 NT r9 (aeO G) (aeQ G) (aeN G) (ah7 G) r8 rI (t203 G) aeM tM (aeP G) m6 (aeR G) m n D7 hm hn
theorem Z6 (z:Int) (hz:ag z.natAbs<=1000000):VP Tryz.prog G 52 [IV z] (IV (-z)):=XC wD (Ox G) z hz
theorem aeS (a b:Int) (ha:ag a.natAbs<=1000000) (hb:ag b.natAbs<=1000000):VP Tryz.prog G 150 [IV a,IV b] (IV (a+b)):=XH wE (n185 G) (ah4 G) (Ox G) (aeO G) (ah5 G) a b ha hb
theorem aeT (a b:Int) (ha:ag a.natAbs<=1000000) (hb:ag b.natAbs<=1000000):VP Tryz.prog G 148 [IV a,IV b] (IV (a-b)):=XI wF (Z6 G) (aeS G) a b ha hb
theorem Z7 (a b:Int) (ha:ag a.natAbs<=1000000) (hb:ag b.natAbs<=1000000):VP Tryz.prog G 149 [IV a,IV b] (IV (a*b)):=UC wG (n185 G) (ah6 G) (Ox G) a b ha hb
theorem ah8 (a b:Int) (ha:ag a.natAbs<=900000) (hb:ag b.natAbs<=900000):VP Tryz.prog G 50 [IV a,IV b] (IV (Nat.gcd a.natAbs b.natAbs:Nat)):=XJ wH (t203 G) (d204 G) (Ox G) a b ha hb
theorem aeU (neg:Bool) (ws:List Nat) (hw:Wd ws) (hl:ws.length<=9223372036854775807):VP Tryz.prog G 265 [IR neg ws] (.bool (pK neg ws)):=NW tJ (t203 G) neg ws hw hl
theorem abS (a:Int) (h1 : -9223372036854775808<=a) (h2:a<9223372036854775808):VP Tryz.prog G 8 [.int .i64 a] (RV a 1):=J1 rJ a (Qm G a h1 h2) (Qm G 1 (by decide) (by decide))
theorem aeV (z:Int):VP Tryz.prog G 240 [IV z] (.bool (decide (z=1))):=UE wJ z
theorem ah9:Has Tryz.prog 34 (ni 51):=uJ
theorem aeW (a b:Int) (ha:ag a.natAbs<=1000000):VP Tryz.prog G 34 [RV a b] (.int .i64 a.sign):=LV ah9 a b (abR G a ha)
theorem aia:Has Tryz.prog 241 (pk 265 51 50 240):=tN
end
end Go.Proofs.YtchdghnpcekegaaGreatDoor
end

section
set_option maxRecDepth 100000
namespace Go.VL
theorem VN (z:Int):pK (decide (z<0)) (digits z.natAbs)=true:=by
 unfold pK
 by_cases h:digits z.natAbs=[]
 . rw [if_pos h]
   have:=na.1 h
   have : ¬ z<0:=by omega
   simp [this]
 . rw [if_neg h]
   obtain ⟨w,h1,h2⟩:=(zf (n:=z.natAbs)).resolve_left h
   rw [List.getLast?_eq_getElem?] at h1
   rw [h1];simpa using h2
section
variable {P:Program} {G:Nat->Option (List AV)}
theorem Z8 {f:FuncId} (h:∀ neg ws,Wd ws->ws.length<=9223372036854775807->VP P G f [IR neg ws] (.bool (pK neg ws))) (z:Int) (hz:ag z.natAbs<=1000000):VP P G f [IV z] (.bool true):=by
 have:=h (decide (z<0)) (digits z.natAbs) (aX _) (by unfold ag at hz;omega)
 rw [VN] at this;exact this
theorem Jh {f fv fs fg fo:FuncId} (h:Has P f (pk fv fs fg fo)) (hv:∀ z:Int,ag z.natAbs<=1000000->VP P G fv [IV z] (.bool true)) (hs:J6 P G fs) (hg:Jb P G fg) (ho:G4 P G fo):Fj P G f:=fun q hq=>by
 have h1:=hv q.num (by have:=hq.1;omega)
 have h2:=hv q.den (by have:=hq.2;rw [Int.natAbs_natCast];omega)
 have h3:=hs q.den (by have:=hq.2;rw [Int.natAbs_natCast];omega)
 have h4:=hg q.num q.den (by have:=hq.1;omega) (by have:=hq.2;rw [Int.natAbs_natCast];omega)
 have h5:=ho ((Nat.gcd q.num.natAbs (q.den:Int).natAbs:Nat):Int)
 rw [Int.natAbs_natCast] at h4 h5
 have e:Nat.gcd q.num.natAbs q.den=1:=q.reduced
 rw [e] at h4 h5
 rw [Int.sign_eq_one_of_pos (u4 q)] at h3
 exact VP.tr h [hc h1,hc h2,hc h3,hc h4,hc h5] (by kernel_rfl)
theorem YC {f fi fm fo fl:FuncId} (h:Has P f (og fi fm fo fl)) (hi:G4 P G fi) (hm:Es P G fm) (ho:VP P G fo [] (IV 1)) (hl:XM P G fl):P7 P G f:=fun a b ha hb=>by
 obtain ⟨a1,a2⟩:=ha
 obtain ⟨b1,b2⟩:=hb
 have n1:=cf a.num b.num
 have n2:=cf (a.den:Int) (b.den:Int)
 rw [Int.natAbs_natCast,Int.natAbs_natCast] at n2
 have zB:=hl (a.num*b.num) (a.den*b.den) (xl a b) (by omega) (by omega)
 rw [<- UF] at zB
 have h1:=Xw h a.num a.den b.num b.den (QV (a*b)) (x1:=(a*b).num) (x2:=(a*b).den) rfl hi (hm _ _ (by omega) (by omega)) (hm _ _ (by rw [Int.natAbs_natCast];omega) (by rw [Int.natAbs_natCast];omega)) ho zB
 by_cases hd:(a.den:Int)=1/\(b.den:Int)=1
 . rw [if_pos hd] at h1
   have e:a*b=((a.num*b.num:Int):Rat):=by
     rw [UF,hd.1,hd.2];show ((a.num*b.num:Int):Rat)/(1:Rat)=_;rw [Rat.div_def,show (1:Rat)⁻¹ = 1 from by decide +kernel,Rat.mul_one]
   rw [e];exact h1
 . rw [if_neg hd] at h1;exact h1
end
end Go.VL
end

section
set_option maxRecDepth 100000
namespace Go.Proofs.YtchdghnpcekegaaGreatDoor
open Go.VL Go.Proofs
section
variable (G:Nat->Option (List AV))
theorem aib:Mh Tryz.prog G 260:=XN EU (t145 G) (YB G) (MQ G) (VM G) (aeG G)
theorem Sy:Es Tryz.prog G 250:=fun a b ha hb=>ah0 G a b (by omega) (by omega)
theorem aic:P5 Tryz.prog G 255:=fun a ha=>n169 G a (by omega)
theorem VO:J6 Tryz.prog G 59:=fun a ha=>abO G a (by omega)
theorem abT:ZM Tryz.prog G 249:=fun a b ha hb=>ah1 G a b (by omega) (by omega)
theorem abU:G4 Tryz.prog G 259:=fun z=>i138 G z
theorem aid:Jb Tryz.prog G 274:=fun a b ha hb=>aeI G a b (by omega) (by omega)
theorem abV:XM Tryz.prog G 261:=fun a b hb ha SP=>by rw [<- G1 a b hb];exact aeL G a b hb (by omega) (by omega)
theorem VQ:Fj Tryz.prog G 254:=Jh AQ (Z8 fun neg ws _ hl=>aeJ G neg ws hl) (VO G) (aid G) (abU G)
theorem aie:P8 Tryz.prog G 221:=XO DG (aic G)
theorem Qn:N3 Tryz.prog G 24:=fun q hq=>aeK G q.num q.den (by have:=hq.1;omega)
theorem aif:ZN Tryz.prog G 213:=XP DC (Qn G) (Sy G) (abT G)
theorem aeX:P6 Tryz.prog G 227:=XQ DF (abU G) (aib G) (abP G) (Sy G) (abV G)
theorem aih:P7 Tryz.prog G 229:=YC DB (abU G) (Sy G) (abP G) (abV G)
theorem YD:ZP Tryz.prog G 63:=fun a h1 h2=>abQ G a h1 h2
theorem aeY (z:Int):VP Tryz.prog G 279 [IV z] (.bool (decide (z=0))):=RG z6 z
theorem aii:ZO Tryz.prog G 257:=XR DI (aeY G) (Sy G) (abV G)
theorem aeZ:UI Tryz.prog G 98:=fun z hz=>n185 G z hz
theorem aij:Mh Tryz.prog G 150:=fun a b ha hb=>aeS G a b (by omega) (by omega)
theorem ae0:Es Tryz.prog G 149:=fun a b ha hb=>Z7 G a b (by omega) (by omega)
theorem aik:P5 Tryz.prog G 52:=fun a ha=>Z6 G a (by omega)
theorem Z9:J6 Tryz.prog G 51:=fun a ha=>abR G a (by omega)
theorem abW:G4 Tryz.prog G 240:=fun z=>aeV G z
theorem YE:Jb Tryz.prog G 50:=fun a b ha hb=>ah8 G a b (by omega) (by omega)
theorem abX:P9 Tryz.prog G 53:=fun a b hb hd ha SP=>UK wI a b (UJ sc (aeZ G) (d204 G) (Ox G) (Z7 G) (aeT G) (abR G) a b hb hd (by omega) (by omega))
theorem MR:ZP Tryz.prog G 8:=fun a h1 h2=>abS G a h1 h2
theorem aaa:N3 Tryz.prog G 34:=fun q hq=>aeW G q.num q.den (by have:=hq.1;omega)
theorem ail:P6 Tryz.prog G 201:=UR wM (abW G) (aij G) (YE G) (ae0 G) (abX G)
theorem aim:P7 Tryz.prog G 198:=RM wK (MR G 0 (by decide) (by decide)) (abW G) (ae0 G) (YE G) (abX G)
theorem ain:P8 Tryz.prog G 228:=UL wN (aik G)
theorem abY:Fj Tryz.prog G 241:=Jh aia (Z8 fun neg ws hw hl=>aeU G neg ws hw hl) (Z9 G) (YE G) (abW G)
theorem aab:Ve Tryz.prog G 7:=fun a b HW hb h1 h2=>by
 have a1:ag a.natAbs<=1:=fC (by rw [Nat.pow_one];unfold aE;omega)
 have b1:ag b<=1:=fC (by rw [Nat.pow_one];unfold aE;omega)
 exact RI uL a b HW (Qm G a (by omega) (by omega)) (Qm G b (by omega) (by omega)) (RH uK (YE G) (Z9 G) (abX G) a b HW (by omega) (by omega))
end
end Go.Proofs.YtchdghnpcekegaaGreatDoor
end

section
set_option maxRecDepth 100000
namespace Go.Proofs.YtchdghnpcekegaaGreatDoor
open Go.VL Go.Proofs
section
variable (G:Nat->Option (List AV))
theorem tn (q:Rat) (hq:Sm 100000 q):VP Tryz.prog G 220 [EV q, .int .i64 1] (.bool true):=N4 B6 lx mH z7 (VQ G) q hq
theorem trd:VP Tryz.prog G 219 [.nils] (.bool true):=J7 z8
theorem tF (q:Rat) (hq:Sm 100000 q):VP Tryz.prog G 181 [.nils,EV q] (.bool true):=N5 DJ q (trd G) (tn G q hq)
theorem tf (a b:Rat) (ha:Sm 100000 a) (hb:Sm 100000 b):VP Tryz.prog G 185 [.nils,EV a,EV b] (.bool true):=N6 DK a b (tF G a ha) (tn G b hb)
theorem aio (a b:Rat) (ha:Sm 100000 a) (hb:Sm 100000 b):VP Tryz.prog G 135 [.nils,EV a,EV b] (EV (a+b)):=XW HJ a b (tf G a b ha hb) (Qa Ar a b (aeX G a b ha hb))
theorem aip (a b:Rat) (ha:Sm 100000 a) (hb:Sm 100000 b):VP Tryz.prog G 153 [.nils,EV a,EV b] (EV (a*b)):=X0 HN a b (tf G a b ha hb) (XZ HM a b (aih G a b ha hb))
theorem VR (q:Rat) (hq:Sm 100000 q):VP Tryz.prog G 108 [QV q] (QV q):=N7 AR q (c95 G _ (by have:=hq.1;omega)) (c95 G _ (by have:=hq.2;omega))
theorem YF (q:Rat) (hq:Sm 100000 q):VP Tryz.prog G 62 [QV q] (NV q):=N8 AU q (VR G q hq)
theorem aiq (i:Nat) (hi:i<=1000):VP Tryz.prog G 27 [.int .i64 (i:Int)] (NV (((i:Nat):Int):Rat)):=Mk AW i (YD G i (by omega) (by omega)) (YF G _ ((He hi).mono (by omega)))
theorem abZ:VP Tryz.prog G 171 [.nils, .nils] (.bool true):=RL B9 (X4 fO)
theorem ae1 (q:Rat):VP Tryz.prog G 177 [.nils,EV q] (EV q):=abv Gt q (RN nW q)
theorem ab0 (q:Rat) (hq:Sm 100000 q):VP Tryz.prog G 129 [NV q] (NV q):=RJ sJ q (Et qD q (VR G q hq))
theorem VT (a b:Rat) (ha:Sm 100000 a) (hb:Sm 100000 b):VP Tryz.prog G 173 [.sl 2 [NV a,NV b]] (.tup [.sl 2 [NV a,NV b], .int .i64 0]):=X6 EX a b (RO Ca a b (abZ G)) (abZ G) (ae1 G a) (ae1 G b) (ab0 G a ha) (ab0 G b hb)
theorem YG (a b:Rat) (ha:Sm 100000 a) (hb:Sm 100000 b):VP Tryz.prog G 85 [NV a,NV b] (.tup [NV (a+b), .int .i64 0]):=X7 Gu a b _ (Ba nC a b _ (VT G a b ha hb) (aio G a b ha hb))
theorem Sz (a b:Rat) (ha:Sm 100000 a) (hb:Sm 100000 b):VP Tryz.prog G 107 [NV a,NV b] (.tup [NV (a*b), .int .i64 0]):=X9 Gw a b _ (Ba nC a b _ (VT G a b ha hb) (aip G a b ha hb))
theorem vMk (v:Q2) (hv:nd 100000 v):VP Tryz.prog G 26 [QV v.1,QV v.2] (V2 v):=U6 EZ v (YF G _ hv.1) (YF G _ hv.2)
theorem air (a b:Q2) (ha:nd 100000 a) (hb:nd 100000 b):VP Tryz.prog G 65 [V2 a,V2 b] (.tup [V2 (gm a b), .int .i64 0]):=Ye GC a b _ (CF np a b _ (YG G _ _ ha.1 hb.1) (YG G _ _ ha.2 hb.2))
theorem ab1 (a:Q2) (n:Rat) (ha:nd 100000 a) (hn:Sm 100000 n):VP Tryz.prog G 61 [V2 a,NV n] (.tup [V2 (fS a n), .int .i64 0]):=RX DM a _ n (CF np a (n,n) _ (Sz G _ _ ha.1 hn) (Sz G _ _ ha.2 hn))
theorem ae2:CJ Tryz.prog G 31:=fun a b ha hb=>Ys y0 a b (air G a b (ha.mono (by omega)) (hb.mono (by omega))) (Ko my)
theorem VU:xp Tryz.prog G 25:=fun a n ha hn=>Sj w9 a n (ab1 G a n (ha.mono (by omega)) (hn.mono (by omega))) (Ko my)
theorem r6R (q:Rat) (hq:Sm 100000 q):VP Tryz.prog G 203 [EV q, .int .i64 1] (.bool true):=N9 tP q (abY G q hq)
theorem r6T:VP Tryz.prog G 202 [.nils] (.bool true):=Oa tQ
theorem r6F (q:Rat) (hq:Sm 100000 q):VP Tryz.prog G 166 [.nils,EV q] (.bool true):=Mm se q (r6T G) (r6R G q hq)
theorem ae3 (a b:Rat) (ha:Sm 100000 a) (hb:Sm 100000 b):VP Tryz.prog G 165 [.nils,EV a,EV b] (EV (a+b)):=UX wO a b (ail G a b ha hb)
theorem ae4 (a b:Rat) (ha:Sm 100000 a) (hb:Sm 100000 b):VP Tryz.prog G 164 [.nils,EV a,EV b] (EV (a*b)):=UZ wQ a b (aim G a b ha hb)
theorem ae5 (a:Rat) (ha:Sm 100000 a):VP Tryz.prog G 188 [.nils,EV a] (EV (-a)):=UY wP a (ain G a ha)
theorem r9J (a b:Rat):VP Tryz.prog G 197 [.sl 2 [NV a,NV b]] (.tup [.sl 2 [NV a,NV b], .int .i64 0]):=RU uO a b (Mn sf) (Jd nO a) (Jd nO b)
theorem r9T (a b:Rat):VP Tryz.prog G 163 [NV a,NV b] (.tup [NV a,NV b, .int .i64 0]):=U0 wR a b (r9J G a b)
theorem Qo (a b:Rat) (ha:Sm 100000 a) (hb:Sm 100000 b):VP Tryz.prog G 121 [NV a,NV b] (.tup [NV (a+b), .int .i64 0]):=U1 wS a b (r9T G a b) (ae3 G a b ha hb)
theorem Qp (a b:Rat) (ha:Sm 100000 a) (hb:Sm 100000 b):VP Tryz.prog G 118 [NV a,NV b] (.tup [NV (a*b), .int .i64 0]):=U2 wV a b (r9T G a b) (ae4 G a b ha hb)
theorem Qq (a:Rat) (ha:Sm 100000 a):VP Tryz.prog G 139 [NV a] (NV (-a)):=U3 wT a (ae5 G a ha)
theorem ae6 (a b:Rat) (ha:Sm 100000 a) (hb:Sm 100000 b):VP Tryz.prog G 209 [NV a,NV b] (.tup [NV (a-b), .int .i64 0]):=U4 wU a b (Qq G b hb) (Qo G a (-b) ha hb.neg)
theorem r7S (a:Rat) (ha:Sm 100000 a):VP Tryz.prog G 208 [.nils,EV a] (.int .i64 (df a)):=RR uM a (aaa G a ha)
theorem VV (a:Rat) (ha:Sm 100000 a):VP Tryz.prog G 124 [NV a] (.int .i64 (df a)):=RW uP a (RT uN a (r7S G a ha))
theorem ae7 (a b:Rat) (ha:Sm 45000 a) (hb:Sm 45000 b):VP Tryz.prog G 170 [NV a,NV b] (.tup [.int .i64 (df (a-b)), .int .i64 0]):=U5 wW a b (ae6 G a b (ha.mono (by omega)) (hb.mono (by omega))) (VV G _ ((ha.sub hb).mono (by omega)))
theorem ab2 (a b:Rat) (ha:Sm 45000 a) (hb:Sm 45000 b):VP Tryz.prog G 125 [NV a,NV b] (.bool (decide (a=b))):=Ob tR a b (ae7 G a b ha hb)
theorem aac (a:Rat) (ha:Sm 100000 a):VP Tryz.prog G 122 [NV a] (.bool true):=Oc tT a (r6F G a ha) (J8 rK)
theorem VX (q:Rat):VP Tryz.prog G 69 [QV q] (NV q):=J9 rL q
theorem ae8 (i:Nat) (hi:i<=1000):VP Tryz.prog G 37 [.int .i64 (i:Int)] (NV (((i:Nat):Int):Rat)):=Ka rM i (MR G i (by omega) (by omega)) (VX G _)
theorem MS (v:Q2):VP Tryz.prog G 35 [QV v.1,QV v.2] (V2 v):=Od uQ v (VX G _) (VX G _)
theorem ae9:VP Tryz.prog G 120 [.int .i64 0, .int .i64 0] (.int .i64 0):=Mo tU
theorem afa (v:Q2):VP Tryz.prog G 119 [NV v.1,NV v.2, .int .i64 0] (.tup [V2 v, .int .i64 0]):=RY wX v
theorem VY (a b:Q2) (ha:nd 100000 a) (hb:nd 100000 b):VP Tryz.prog G 72 [V2 a,V2 b] (.tup [V2 (gm a b), .int .i64 0]):=RZ wY a b (Qo G _ _ ha.1 hb.1) (Qo G _ _ ha.2 hb.2) (ae9 G) (afa G (gm a b))
theorem ab3 (a:Q2) (ha:nd 100000 a):VP Tryz.prog G 187 [V2 a] (V2 (CE a)):=R2 wZ a (Qq G _ ha.1) (Qq G _ ha.2)
theorem ab4 (a b:Q2) (ha:nd 100000 a) (hb:nd 100000 b):VP Tryz.prog G 138 [V2 a,V2 b] (.tup [V2 (jn a b), .int .i64 0]):=R3 w6 a b (ab3 G b hb) (VY G a (CE b) ha ⟨hb.1.neg,hb.2.neg⟩)
theorem VZ (a:Q2) (n:Rat) (ha:nd 100000 a) (hn:Sm 100000 n):VP Tryz.prog G 71 [V2 a,NV n] (.tup [V2 (fS a n), .int .i64 0]):=Mp tV a n (Qp G _ _ ha.1 hn) (Qp G _ _ ha.2 hn) (ae9 G) (afa G (fS a n))
theorem YH (a:Q2) (ha:nd 100000 a):VP Tryz.prog G 95 [V2 a] (V2 (-a.2,a.1)):=Oe uR a (Qq G _ ha.2)
theorem ab5 (a b:Q2) (ha:nd 20000 a) (hb:nd 20000 b):VP Tryz.prog G 247 [V2 a,V2 b] (.tup [NV (rU a b), .int .i64 0]):=R4 w7 a b (Qp G _ _ (ha.1.mono (by omega)) (hb.1.mono (by omega))) (Qp G _ _ (ha.2.mono (by omega)) (hb.2.mono (by omega))) (Qo G _ _ ((ha.1.mul hb.1).mono (by omega)) ((ha.2.mul hb.2).mono (by omega)))
theorem MT (a b:Q2) (ha:nd 45000 a) (hb:nd 45000 b):VP Tryz.prog G 91 [V2 a,V2 b] (.bool (decide (a=b))):=Mq tW a b (ab2 G _ _ ha.1 hb.1) (ab2 G _ _ ha.2 hb.2)
theorem Oy (a:Q2) (ha:nd 100000 a):VP Tryz.prog G 74 [V2 a] (.bool true):=Mr tX a (aac G _ ha.1) (aac G _ ha.2)
theorem aad:cX Tryz.prog G 117 [.int .i64 0] (.tup []):=Yh qq
theorem ab6 (a:Q2):cX Tryz.prog G 70 [V2 a, .int .i64 0] (V2 a):=aby qJ (aad G) a
theorem ais (a:Rat):cX Tryz.prog G 206 [NV a, .int .i64 0] (NV a):=abx qI (aad G) a
theorem aae:CJ Tryz.prog G 39:=fun a b ha hb=>Yi qu a b (VY G a b (ha.mono (by omega)) (hb.mono (by omega))) (ab6 G)
theorem V0:ZY Tryz.prog G 93:=fun a b ha hb=>U7 pY a b (ab4 G a b (ha.mono (by omega)) (hb.mono (by omega))) (ab6 G)
theorem V1:xp Tryz.prog G 36:=fun a n ha hn=>U8 pZ a n (VZ G a n (ha.mono (by omega)) (hn.mono (by omega))) (ab6 G)
theorem YI (a:Q2) (ha:nd 20000 a):cX Tryz.prog G 168 [V2 a] (NV (rU a a)):=R5 pD a (Kb si a (ab5 G a a ha ha)) (ais G)
theorem afb (a b:Q2) (ha:nd 5000 a) (hb:nd 5000 b):cX Tryz.prog G 123 [V2 a,V2 b] (NV (Ky a b)):=abz qK a b (V0 G a b ha hb) (YI G _ ((ha.sub hb).mono (by omega)))
end
end Go.Proofs.YtchdghnpcekegaaGreatDoor
end

section
set_option linter.unusedSimpArgs false
set_option linter.unusedVariables false
set_option maxRecDepth 100000
namespace Go.VL
open Go.Lib
theorem Oz (a c w:Q2):jn (gm a w) (gm c w)=jn a c:=by
 unfold jn gm
 ext<;>simp only []<;>grind
theorem V3 (a b w:Q2):gm a w=gm b w↔a=b:=by
 constructor
 . intro h
   unfold gm at h
   simp only [Prod.mk.injEq] at h
   ext<;>grind
 . rintro rfl;rfl
theorem MU (x:CX) (w:Q2):(x.shift w).valid=x.valid:=by
 unfold CX.valid CX.shift
 cases h:x.G9
 . simp only [Bool.false_eq_true,if_false]
   congr 1
   exact decide_eq_decide.2 (V3 _ _ _)
 . simp only [if_true]
   unfold Ky
   simp only [Oz]
theorem V4 {x:CX} {w:Q2} {j k:Nat} (hx:x.Sm j) (hw:nd k w):(x.shift w).Sm (j+k+1):=by
 unfold CX.shift
 refine ⟨hx.1.add hw,hx.2.1.add hw, ?_⟩
 simp only []
 split
 . exact hx.2.2.add hw
 . exact hx.2.2.mono (by omega)
theorem SA (x:CX):x.same x=true:=by unfold CX.same;simp
theorem OA (l:List NX):Qf l l=true:=by
 unfold Qf
 have:(l.zip l).any (fun p => !(p.1.name==p.2.name&&p.1.c.same p.2.c))=false:=by
   rw [List.any_eq_false]
   intro p hp
   obtain ⟨i,hi⟩:=List.getElem?_of_mem hp
   rw [List.getElem?_zip_eq_some] at hi
   have:p.1=p.2:=by have:=hi.1.symm.trans hi.2;simpa using this
   rw [this,SA];simp
 rw [this];simp
theorem EC {nm:List UInt8} {l:List NX} {w:Q2} {ins:List (List UInt8)}:∀ {k:Nat} {x:NX},x∈bH nm l w ins k->∃ i s,i<=k/\s∈ins/\x=sT nm l w i s
 | 0,x,h=>by simp [bH] at h
 | k + 1,x,h=>by
   simp only [bH,List.mem_append,List.mem_map] at h
   rcases h with h | ⟨s,hs,rfl⟩
   . obtain ⟨i,s,hi,hs,e⟩:=EC h
     exact ⟨i,s,by omega,hs,e⟩
   . exact ⟨k+1,s,Nat.le_refl _,hs,rfl⟩
theorem SB {cs:List CX} {x:NX} (h:x∈named cs):∃ i,i<cs.length/\x.name=[107,47]++decDigits i/\x.c∈cs:=by
 unfold named at h
 obtain ⟨i,hi,e⟩:=List.mem_mapIdx.1 h
 subst e
 exact ⟨i,hi,rfl,List.getElem_mem hi⟩
section
variable {P:Program} {G:Nat->Option (List AV)}
theorem Ks {f fc:FuncId} (h:Has P f (gq fc)) (ds:List DX) (h6:6<ds.length):VP P G f [Ft ds, .int .i64 6] (.tup [.nils, .bool false]) :=
 VP.tr h [hb 13 (aw (by simp;omega):decide (((ds.map DX.av).length:Int)>6)=true)] (by kernel_rfl)
theorem V5 {nm:List UInt8} {l:List NX} {ins:List (List UInt8)} {x y:Rat} {n:Int} (hE:MB nm l ins x y n=0) (hx:Sm 1 x) (hy:Sm 1 y) (hl:∀ z∈l,z.c.valid=true/\z.c.Sm 100):(l++bH nm l (x,y) ins n.toNat).length<=200/\∀ z∈l++bH nm l (x,y) ins n.toNat,z.c.valid=true/\z.c.Sm 200:=by
 unfold MB at hE
 split at hE
 . cases hE
 rename_i hn
 split at hE
 . rename_i h1;exact absurd hE h1
 rename_i p9
 split at hE
 . cases hE
 have ait:dw nm l ins=0:=by simpa using p9
 obtain ⟨_,_,iI⟩:=Bf ait
 refine ⟨by rw [List.length_append];exact D2 hE,fun z hz => ?_⟩
 rcases List.mem_append.1 hz with hz | hz
 . exact ⟨(hl z hz).1,(hl z hz).2.mono (by omega)⟩
 . obtain ⟨i,s,hi,hs,rfl⟩:=EC hz
   obtain ⟨k,u,_,hu,_,Z1⟩:=zu (iI s hs)
   have hu1:=hl u (List.mem_of_getElem? hu)
   unfold sT
   simp only []
   rw [Z1,MU]
   refine ⟨hu1.1,(V4 hu1.2 (nd.scale (j:=1) (k:=1) ⟨hx,hy⟩ (He (by omega)))).mono (by omega)⟩
end
end Go.VL
end

section
set_option maxRecDepth 100000
namespace Go.Proofs.YtchdghnpcekegaaGreatDoor
open Go.VL Go.Proofs Go.Lib
section
variable (G:Nat->Option (List AV))
theorem afc (c:UInt8):VP Tryz.prog G 100 [kz c] (.bool (dG c)):=En AK c
theorem aiu (c:UInt8):VP Tryz.prog G 151 [kz c] (.bool (oO c)):=GI B0 c
theorem afd (c:UInt8):VP Tryz.prog G 102 [kz c] (.bool (dt c)):=Ra Du (afc G) (aiu G) c
theorem afe (s:List UInt8) (hs:s.length<9223372036854775807):VP Tryz.prog G 101 [.str s, .fn (.func 102) [] []] (.int .i64 (fL dt s)):=Xh Gs (afd G) s hs
theorem V6 (s:List UInt8):VP Tryz.prog G 56 [.str s] (.bool (eA s)):=Rb Dv (afc G) (afe G) s
theorem aff:Has Tryz.prog 161 mF:=r6
theorem afg:Has Tryz.prog 162 ng:=tI
theorem afh (s:List UInt8) (hs:s.length<9223372036854775807):VP Tryz.prog G 116 [.str s, .int .i64 0] (.int .i64 ((u6 s:Nat):Int)):=XK uD (En aff) (GI afg) s hs
theorem afi (s:List UInt8):VP Tryz.prog G 68 [.str s] (.bool (eA s)):=N0 rZ (afh G) s
theorem V7:Qe Tryz.prog G 75:=fun x hx=>by
 have h1:=Sm.Ky hx.1 hx.2.2
 have h2:=Sm.Ky hx.2.1 hx.2.2
 exact Og tY x (MT G _ _ (hx.1.mono (by omega)) (hx.2.1.mono (by omega))) (afb G _ _ hx.1 hx.2.2) (afb G _ _ hx.2.1 hx.2.2) (VV G _ (h1.mono (by omega))) (ab2 G _ _ (h1.mono (by omega)) (h2.mono (by omega)))
theorem cAt (p:Int × Int) (u:Nat) (hp:ok8 p) (hu:u<256):VP Tryz.prog G 92 [I2 p, .int .u8 ((u:Nat):Int)] (V2 (vg p u)):=Yk x9 (aab G) (MS G) p hp u hu
theorem afj (n:Nat) (hn:n<256):VP Tryz.prog G 94 [.int .u8 (n:Int)] (V2 (ve (n%16))):=R6 uS (aab G) (MS G) n hn
theorem ab7:VP Tryz.prog G 18 [.int .i64 0, .int .i64 0] (V2 (0,0)):=Eu m8 0 0 (MR G 0 (by decide) (by decide)) (MR G 0 (by decide) (by decide)) (MS G (0,0))
theorem ab8 (d:DX) (hd:d.Ok):VP Tryz.prog G 49 [d.av] (.tup [d.ig.av, .bool d.ig.valid]):=Oj tZ d hd (cAt G) (ab7 G) (V0 G) (afj G) (V1 G) (fun a ha=>YH G a (ha.mono (by omega))) (aae G) (V7 G)
theorem YJ (n:Nat) (hn:n<1000):VP Tryz.prog G 14 [.int .i64 (n:Int)] (.str (decDigits n)):=Mt sk n (Ms sj n hn)
def E9 (ds:List DX):Bool:=decide (ds.length<=6) && !ds.any fun d => !d.ig.valid
def made (ds:List DX):List CX:=if E9 ds=true then ds.map DX.ig else []
theorem zx {ds:List DX} (h:E9 ds=true):ds.length<=6/\∀ d∈ds,d.ig.valid=true:=by
 unfold E9 at h
 simp only [Bool.and_eq_true,decide_eq_true_eq,Bool.not_eq_true',List.any_eq_false] at h
 exact ⟨h.1,fun d hd=>by simpa using h.2 d hd⟩
theorem Qr (ds:List DX) (hd:∀ d∈ds,d.Ok):VP Tryz.prog G 20 [Ft ds, .int .i64 6] (if E9 ds=true then .tup [My (made ds), .bool true] else .tup [.nils, .bool false]):=by
 by_cases h6:6<ds.length
 . have:E9 ds=false:=by unfold E9;rw [decide_eq_false (by omega)];rfl
   rw [this,if_neg (by decide)]
   exact Ks mN ds h6
 . have h:=Mz mN ds (fun d hm=>ab8 G d (hd d hm)) (by omega)
   unfold made
   by_cases hf:E9 ds=true
   . rw [if_pos hf,if_pos hf]
     rw [if_neg] at h
     . exact h
     . rintro (h1 | h1)
       . exact h6 h1
       . obtain ⟨d,hd,hv⟩:=List.any_eq_true.1 h1
         rw [(zx hf).2 d hd] at hv;simp at hv
   . rw [if_neg hf]
     rw [if_pos] at h
     . exact h
     . right
       unfold E9 at hf
       rw [decide_eq_true (by omega),Bool.true_and] at hf
       simpa using hf
theorem afk (ds:List DX) (hd:∀ d∈ds,d.Ok):VP Tryz.prog G 6 [Ft ds] (.tup [dP (named (made ds)), .bool (E9 ds)]) :=
 Sa nP ds (E9 ds) (made ds) (fun h=>by unfold made;rw [h];rfl) (by
   unfold made
   split
   . rename_i h;rw [List.length_map];exact (zx h).1
   . exact Nat.zero_le _) (Qr G ds hd) (YJ G)
theorem SC {ds:List DX} (hd:∀ d∈ds,d.Ok) (hf:E9 ds=true):(named (made ds)).length<=6/\∀ z∈named (made ds),z.c.valid=true/\z.c.Sm 20/\z.name.length<=10:=by
 have hm:made ds=ds.map DX.ig:=by unfold made;rw [if_pos hf]
 refine ⟨by unfold named;rw [List.length_mapIdx,hm,List.length_map];exact (zx hf).1,fun z hz => ?_⟩
 obtain ⟨i,hi,hn,hc⟩:=SB hz
 rw [hm] at hc hi
 obtain ⟨d,hdm,e⟩:=List.mem_map.1 hc
 refine ⟨by rw [<- e];exact (zx hf).2 d hdm,by rw [<- e];exact Mx (hd d hdm), ?_⟩
 have:=D3 (i:=i) (by rw [List.length_map] at hi;have:=(zx hf).1;omega)
 rw [hn];simp;omega
theorem V8 (l:List NX) (hl:l.length<=1000) (s:List UInt8):VP Tryz.prog G 38 [dP l, .str s] (.int .i64 (dY l s)):=R7 uT l s (by omega)
theorem afl (l more:List NX) (hl:l.length<=1000) (hm:more.length<=1000000):VP Tryz.prog G 73 [dP l,dP more] (.int .i64 (iE l more)):=R8 uU l more (by omega) hm (fun x _=>V8 G l hl _)
def LOk (l:List NX):Prop:=l.length<=1000/\∀ z∈l,NOk 2000 z
theorem aiw (l:List NX) (hl:LOk l):YA Tryz.prog G 12 l:=fun nm ins x y n qU yc hx hy h1 h2 =>
 Kk rN nm l ins x y n ⟨h1,h2⟩ (Mv sn nm l ins (afi G nm) (fun s _=>V8 G l hl.1 s) (by omega)) (fun q hq=>aaa G q (hq.mono (by omega))) (MS G) (fun i hi=>ae8 G i hi) (V1 G) (fun s _=>V8 G l hl.1 s) (aae G) (YJ G)
   (fun more hm h0 h1=>Oo ua l more (afl G l more hl.1 hm) h0 h1) qU hl.2 hl.1 yc hx hy
theorem OC (l:List NX) (hl:l.length<=1000) (s:List UInt8):VP Tryz.prog G 46 [dP l, .str s] (.int .i64 (dY l s)) :=
 Sd sK l s (iJ aS (a:=[]) (c:=[.ep [.str s] 0]) (p:=fun x=>x.name==s) (fun e _=>Oq qE e s) (by simp) (by simp [Yp]) (by omega))
theorem afm (l:List NX) (hl:l.length<=1000) (s:List UInt8):VP Tryz.prog G 58 [dP l, .str s] (if dY l s<0 then .tup [zC, .bool false] else .tup [(eD l s).av, .bool true]):=by
 split
 . rename_i h;exact Se mI l s (OC G l hl s) h
 . rename_i h;exact Vq mI l s (OC G l hl s) h
open Classical in
theorem aix (l:List (List UInt8)) (hl:l.length<=1000):VP Tryz.prog G 57 [strs l] (.bool (decide (HZ l l.length))):=ME mz l (by omega) (fun i s _=>Kl eF _ s (Sf fB _ s (by rw [List.length_take];omega)))
theorem pIn (nm:List UInt8) (l:List NX) (hl:l.length<=1000) (ins:List (List UInt8)) (hi:ins.length<=1000):VP Tryz.prog G 23 [.str nm,dP l,strs ins] (if dw nm l ins=0 then .tup [My (ins.map (eD l)), .int .i64 0] else .tup [.nils, .int .i64 (dw nm l ins)]) :=
 Ot nD nm l ins (V6 G nm) (aix G ins hi) (fun s _=>afm G l hl s) hi
theorem afn (n:Nat) (hn:n<100):VP Tryz.prog G 29 [.int .i64 (n:Int)] (.str (decDigits n)):=Yr DO n (Vx sq n (Kn pG n hn (Vw rO n hn)))
theorem afo (l more:List NX) (hl:l.length<=1000) (hm:more.length<=1000000):VP Tryz.prog G 66 [dP l,dP more] (.int .i64 (iE l more)) :=
 Vu pE l more (by omega) hm
   (kJ bh (iJ aS (a:=[]) (c:=[]) (p:=fun x=>decide (200<x.name.length)) (fun e _=>Vs nE e) (by simp) (by simp) hm) bT)
   (kJ bh (iJ aS (a:=[]) (c:=[.ep [dP l] 0]) (p:=fun x=>decide (0<=dY l x.name)) (fun e _=>Vt nF l e (OC G l hl _)) (by simp) (by simp [aa.ep,aD]) hm) (ahM (aa.ep (by simp [aD]))))
theorem afp (l more:List NX) (hl:l.length<=1000) (hm:more.length<=1000000) (h0:l≠[]) (h1:more≠[]):VP Tryz.prog G 32 [dP l,dP more] (if iE l more=0 then .tup [dP (l++more), .int .i64 0] else .tup [.nils, .int .i64 (iE l more)]) :=
 Yq pF l more (afo G l more hl hm) (fun h=>Sg dN ee l more h0 h1 (D2 h))
theorem aiy (l:List NX) (hl:LOk l):YA Tryz.prog G 9 l:=fun nm ins x y n qU yc hx hy h1 h2 =>
 MP Aa nm l ins x y n ⟨h1,h2⟩ (pIn G nm l hl.1 ins (by omega)) (fun q hq=>Qn G q (hq.mono (by omega))) (fun v hv=>vMk G v (hv.mono (by omega))) (fun i hi=>aiq G i hi) (VU G) (afn G) ya AX (ae2 G)
   (fun more hm h0 h1=>afp G l more hl.1 hm h0 h1) qU hl.2 hl.1 yc hx hy
theorem aaf (L:List NX) (hl:L.length<=1000) (hL:∀ z∈L,z.c.Sm 5000):VP Tryz.prog G 19 [dP L,dP L] (.bool true):=by
 have h:=Sc (G:=G) jQ L L (by omega) (fun x y JS=>by
   have hx:=hL x (List.of_mem_zip JS).1
   have hy:=hL y (List.of_mem_zip JS).2
   refine Oh ji x.c y.c fun u v huv => ?_
   simp only [List.mem_cons,Prod.mk.injEq,List.not_mem_nil,or_false] at huv
   rcases huv with ⟨rfl,rfl⟩ | ⟨rfl,rfl⟩ | ⟨rfl,rfl⟩
   . exact MT G _ _ (hx.1.mono (by omega)) (hy.1.mono (by omega))
   . exact MT G _ _ (hx.2.1.mono (by omega)) (hy.2.1.mono (by omega))
   . exact MT G _ _ (hx.2.2.mono (by omega)) (hy.2.2.mono (by omega)))
 rw [OA] at h;exact h
theorem aag (L:List NX) (hl:L.length<=1000) (hL:∀ z∈L,z.c.valid=true/\z.c.Sm 5000):VP Tryz.prog G 41 [dP L] (.bool true):=by
 have h:=R9 (G:=G) uV L (by omega) (fun x hx=>by
   have hs:=(hL x hx).2
   exact ⟨Oy G _ (hs.1.mono (by omega)),Oy G _ (hs.2.1.mono (by omega)),Oy G _ (hs.2.2.mono (by omega)),V7 G x.c hs⟩)
 have e:(L.any fun x => !x.c.valid)=false:=by rw [List.any_eq_false];intro z hz;rw [(hL z hz).1];decide
 rw [e] at h;exact h
theorem ab9 (L:List NX) (e:Int) (hl:L.length<=1000) (hL:∀ z∈L,z.c.valid=true/\z.c.Sm 5000):VP Tryz.prog G 13 [dP L, .int .i64 e,dP L, .int .i64 e] (.bool true):=VK m9 L e (aag G L hl hL) (aaf G L hl fun z hz=>(hL z hz).2)
theorem YK (e:Int):VP Tryz.prog G 13 [.nils, .int .i64 e, .nils, .int .i64 e] (.bool true):=Sx m9 e (aag G [] (by simp) (by simp)) (aaf G [] (by simp) (by simp))
end
end Go.Proofs.YtchdghnpcekegaaGreatDoor
end

section
set_option linter.unusedVariables false
set_option maxRecDepth 100000
namespace Go.VL
section
variable {P:Program} {G:Nat->Option (List AV)}
theorem YL {f ff fi:FuncId} (h:Has P f (rC ff fi)) (a:Rat):cX P G f [NV a, .int .i64 0] (NV a):=cX.tr h [] (by kernel_rfl)
theorem YM {f fa fv:FuncId} (h:Has P f (rB fa fv)) (a b c:Q2) (ha:VP P G fa [V2 a,V2 b] (.tup [V2 c, .int .i64 0])) (hv:∀ a,cX P G fv [V2 a, .int .i64 0] (V2 a)):cX P G f [V2 a,V2 b] (V2 c):=cX.tr h [hc ha,dC [1] (hv c)] (by kernel_rfl)
theorem YN {f fa fv:FuncId} (h:Has P f (rD fa fv)) (a b c:Rat) (ha:VP P G fa [NV a,NV b] (.tup [NV c, .int .i64 0])) (hv:∀ a,cX P G fv [NV a, .int .i64 0] (NV a)):cX P G f [NV a,NV b] (NV c):=cX.tr h [hc ha,dC [1] (hv c)] (by kernel_rfl)
theorem YO {f fa fv:FuncId} (h:Has P f (rE fa fv)) (a b c:Rat) (ha:VP P G fa [NV a,NV b] (.tup [NV c, .int .i64 0])) (hv:∀ a,cX P G fv [NV a, .int .i64 0] (NV a)):cX P G f [NV a,NV b] (NV c):=cX.tr h [hc ha,dC [1] (hv c)] (by kernel_rfl)
theorem YP {f fb fm fa:FuncId} (h:Has P f (BV fb fm fa)) (a b:Q2) (hb:VP P G fb [V2 a,V2 b, .fn (.func fm) [] []] (.tup [V2 (a.1*b.1,a.2*b.2), .int .i64 0])) (ha:VP P G fa [NV (a.1*b.1),NV (a.2*b.2)] (.tup [NV (rU a b), .int .i64 0])):VP P G f [V2 a,V2 b] (.tup [NV (rU a b), .int .i64 0]):=VP.tr h [hc hb,hc ha] (by kernel_rfl)
theorem OD {f fd:FuncId} (h:Has P f (xA fd)) (a:Q2) (hd:VP P G fd [V2 a,V2 a] (.tup [NV (rU a a), .int .i64 0])):VP P G f [V2 a] (.tup [NV (rU a a), .int .i64 0]):=VP.tr h [hc hd] (by kernel_rfl)
theorem YQ {f fs fq:FuncId} (h:Has P f (xz fs fq)) (a:Q2) (m:Rat) (hs:VP P G fs [V2 a] (.tup [NV (rU a a), .int .i64 0])) (hq:VP P G fq [NV (rU a a)] (.tup [NV m, .int .i64 0])):VP P G f [V2 a] (.tup [NV m, .int .i64 0]):=VP.tr h [hc hs,hc hq] (by kernel_rfl)
theorem V9 {f fn:FuncId} (h:Has P f (xB fn)) (a:Rat) (hn:VP P G fn [NV a] (NV (-a))) (WV:VP P G fn [NV (-a)] (NV a)):VP P G f [NV a] (NV a):=VP.tr h [hc hn,hc WV] (by kernel_rfl)
theorem Wa {f fn fc:FuncId} (h:Has P f (Am fn fc)) (a:Q2) (hn:VP P G fn [NV a.2] (NV (-a.2))) (Xl:VP P G fc [NV a.1] (NV a.1)):VP P G f [V2 a] (V2 (-a.2,a.1)):=VP.tr h [hc hn,hc Xl] (by kernel_rfl)
theorem SD {f fl fd:FuncId} (h:Has P f (yS fl fd)) (a b c:Q2) (r:Rat) (hl:VP P G fl [V2 a] (V2 c)) (hd:VP P G fd [V2 c,V2 b] (.tup [NV r, .int .i64 0])):VP P G f [V2 a,V2 b] (.tup [NV r, .int .i64 0]):=VP.tr h [hc hl,hc hd] (by kernel_rfl)
theorem SE {f fe:FuncId} (h:Has P f (yH fe)) (a b:Q2) (h1:VP P G fe [NV a.1,NV b.1] (.bool (decide (a.1=b.1)))) (h2:VP P G fe [NV a.2,NV b.2] (.bool (decide (a.2=b.2)))):VP P G f [V2 a,V2 b] (.bool (decide (a=b))):=by
 by_cases e1:a.1=b.1
 . rw [decide_eq_true e1] at h1
   have e:decide (a=b)=decide (a.2=b.2):=decide_eq_decide.2 ⟨fun e=>by rw [e],fun e=>Prod.ext e1 e⟩
   rw [e]
   exact VP.tr h [hc h1,hc h2] (by kernel_rfl)
 . rw [decide_eq_false e1] at h1
   have e:decide (a=b)=false:=decide_eq_false fun e=>e1 (by rw [e])
   rw [e]
   exact VP.tr h [hc h1] (by kernel_rfl)
theorem MV {f f1 f2 f3:FuncId} (h:Has P f (yT f1 f2 f3)):VP P G f [.nils] (.bool true):=VP.tr h [] (by kernel_rfl)
theorem MW {f f1 f2 f3:FuncId} (h:Has P f (xC f1 f2 f3)) (a m:Rat) (h1:VP P G f1 [.nils,EV a] (.tup [EV m, .bool true])) (h2:VP P G f2 [.nils,EV m] (.int .i64 1)):VP P G f [.nils,EV a] (.tup [EV m, .bool true]):=VP.tr h [hc h1,hc h2] (by kernel_rfl)
end
end Go.VL
end

section
set_option linter.unusedVariables false
set_option maxRecDepth 100000
namespace Go.VL
theorem OE {n:Nat} (h:n<aE) (h0:n≠0):W n = .sl 1 [.int .u32 (n:Int)]:=by
 unfold W us
 rw [iy h0,Nat.mod_eq_of_lt h,Nat.div_eq_of_lt h,bx];rfl
section
variable {P:Program} {G:Nat->Option (List AV)}
theorem OG {f f1:FuncId} (h:Has P f (BX f1)):VP P G f [.nils] (.sl 1 []):=VP.trV h [] [([3],⟨[],1,false⟩)] (.osl [3] 1 0 0 false) (by kernel_rfl) (fun σ hσ => View.osl (bk:=⟨[],1,false⟩) (ds:=[]) (hσ ([3],⟨[],1,false⟩) (by simp)) rfl (by simp) aF.nil rfl (by simp))
theorem OH {f f1 f2 f4 f5 f6 f7 f8 f9 fa fb fc:FuncId} (h:Has P f (Aq f1 f2 f f4 f5 f6 f7 f8 f9 fa fb fc)) (a m:Rat) (h1:VP P G f1 [QV a] (.tup [QV m, .bool true])):VP P G f [.nils,EV a] (.tup [EV m, .bool true]) :=
 VP.trV h [hc h1] [([16],⟨[QV m],4,false⟩)] (.tup [.osl [16] 4 0 1 false, .bool true]) (by kernel_rfl) (fun σ hσ => View.tup (aF.cons (qv (hσ ([16],⟨[QV m],4,false⟩) (by simp))) (aF.cons (View.pure (aa.bool _)) aF.nil)))
theorem OI {f fc:FuncId} (h:Has P f (nj fc)) (q:Rat) (hc':VP P G fc [EV q] (EV q)):VP P G f [.agg [.sl 1 [],EV q]] (NV q):=VP.tr h [hc hc'] (by kernel_rfl)
theorem Wb {f fa fd:FuncId} (h:Has P f (Ao fa fd)) (a m:Rat) (ha:VP P G fa [.nils,EV a] (.tup [.sl 1 [],EV m, .int .i64 0])) (hd:VP P G fd [.agg [.sl 1 [],EV m]] (NV m)):VP P G f [NV a] (.tup [NV m, .int .i64 0]):=VP.tr h [hc ha,hc hd] (by kernel_rfl)
theorem SF {f f1 f2 f3 f4 f5 f6 f7:FuncId} (h:Has P f (Ap f1 f2 f3 f4 f5 f6 f7)) (a m:Rat) (h1:VP P G f1 [.nils,EV a] (.bool true)) (h2:VP P G f2 [.nils] (.bool true)) (h3:VP P G f3 [.nils,EV a] (.int .i64 1)) (h4:VP P G f4 [.nils,EV a] (.tup [EV m, .bool true])) (h5:VP P G f5 [.nils] (.sl 1 [])):VP P G f [.nils,EV a] (.tup [.sl 1 [],EV m, .int .i64 0]):=VP.tr h [hc h1,hc h2,hc h3,hc h4,hc h5] (by kernel_rfl)
theorem Wc {f fr:FuncId} (h:Has P f (xD fr)) (a b m n:Int) (h1:VP P G fr [IV a] (.tup [IV m, .bool true])) (h2:VP P G fr [IV b] (.tup [IV n, .bool true])):VP P G f [RV a b] (.tup [RV m n, .bool true]):=by
 haveI:PU (RV m n):=by unfold RV;infer_instance
 exact VP.tr h [hc h1,hc h2] (by kernel_rfl)
theorem MX {f fs fm fc:FuncId} (h:Has P f (xF fs fm fc)) (a m:Int) (h1:VP P G fs [IV a] (.tup [IV m, .int .i64 0])) (h2:VP P G fm [IV m,IV m] (IV a)) (h3:VP P G fc [IV a,IV a] (.int .i64 0)):VP P G f [IV a] (.tup [IV m, .bool true]):=VP.tr h [hc h1,hc h2,hc h3] (by kernel_rfl)
theorem Qs {f fs ft:FuncId} (h:Has P f (yV fs ft)) (hs:Has P fs fZ) (ht:iT P G ft) (n:Nat) (hn:ag n<=1000):VP P G f [W n] (W (n/2)):=by
 have h1:=Au (G:=G) hs n 1 (by omega) (by decide)
 have h2:=ht (pad (ag n) (n/2 ^ 1)) (rR _ _) (by rw [kA];omega)
 rw [fQ (Nat.lt_of_le_of_lt (Nat.div_le_self _ _) (cU n))] at h2
 exact VP.tr h [hc h1,hc h2] (by kernel_rfl)
theorem Ji {f:FuncId} (h:Has P f e9) (k:Nat) (b:Int) (n:Nat) (hn:n<aE) (h0:n≠0) (hx:CP e9.results [([4],⟨[.int .u32 (n:Int)],1,false⟩)] (MN (P:=P) (G:=G) e9 [.int .i64 b] [])=CQ (.osl [4] 1 0 1 false) [([4],⟨[.int .u32 (n:Int)],1,false⟩)] (MN (P:=P) (G:=G) e9 [.int .i64 b] [])):VP P G f [.int .i64 b] (W n):=by
 rw [OE hn h0]
 exact VP.trV h [] _ _ hx (fun σ hσ => J4 (hσ ([4],⟨[.int .u32 (n:Int)],1,false⟩) (by simp)) rfl (by intro c hc;simp [AV.cells] at hc;subst hc;exact aa.int _ _))
theorem MY {f:FuncId} (h:Has P f e9):VP P G f [.int .i64 3] (W 8):=Ji h 0 3 8 (by decide) (by decide) (by kernel_rfl)
theorem MZ {f:FuncId} (h:Has P f e9):VP P G f [.int .i64 1] (W 2):=Ji h 0 1 2 (by decide) (by decide) (by kernel_rfl)
theorem M0 {f ft fl:FuncId} (h:Has P f (yU ft fl)) (z:Int) (n:Nat) (hz:z.natAbs=n) (hn:n<aE) (h0:n≠0) (b:Int) (ht:VP P G ft [W n] (W n)) (hl:VP P G fl [.int .u32 (n:Int)] (.int .i64 b)) (ye:IntKind.i64.wrap (0+b)=b):VP P G f [IV z] (.int .i64 b):=by
 subst hz
 rw [OE hn h0] at ht
 exact VP.tr h [hv 5 (OE hn h0),hc ht,hc hl,hw 21 ye] (by kernel_rfl)
theorem OJ {f fg fb fh ft fd fp fa fc fs:FuncId} (h:Has P f (rF fg fb fh ft fd fp fa fc fs)) (h1:VP P G fg [IV 16] (.int .i64 1)) (h2:VP P G fb [IV 16] (.int .i64 5)) (h3:VP P G fh [.int .i64 3] (W 8)) (h4:VP P G ft [W 16] (W 16)) (h5:∀ n,n≠0->n<100->VP P G fd [W 16,W n] (.tup [W (16/n),W (16%n)])) (h6:∀ m n,m<100->n<100->VP P G fp [W m,W n] (W (m+n))) (h7:∀ n,n<100->VP P G fa [W n] (W (n/2))) (h8:∀ m n,m<100->n<100->VP P G fc [W m,W n] (.int .i64 (fP m n))) (h9:VP P G fs [.bool false,W 4] (IV 4)):VP P G f [IV 16] (.tup [IV 4, .int .i64 0]) :=
 VP.tr h [hc h1,hc h2,hc h3,hc h4,hc (h5 8 (by decide) (by decide)),hc (h6 8 2 (by decide) (by decide)),hc (h7 10 (by decide)),hc (h8 5 8 (by decide) (by decide)),hc h4,hc (h5 5 (by decide) (by decide)),hc (h6 5 3 (by decide) (by decide)),hc (h7 8 (by decide)),hc (h8 4 5 (by decide) (by decide)),hc h4,hc (h5 4 (by decide) (by decide)),hc (h6 4 4 (by decide) (by decide)),hc (h7 8 (by decide)),hc (h8 4 4 (by decide) (by decide)),hc h9] (by kernel_rfl)
theorem SG {f fg fb fh ft fd fp fa fc fs:FuncId} (h:Has P f (rF fg fb fh ft fd fp fa fc fs)) (h1:VP P G fg [IV 1] (.int .i64 1)) (h2:VP P G fb [IV 1] (.int .i64 1)) (h3:VP P G fh [.int .i64 1] (W 2)) (h4:VP P G ft [W 1] (W 1)) (h5:∀ n,n≠0->n<100->VP P G fd [W 1,W n] (.tup [W (1/n),W (1%n)])) (h6:∀ m n,m<100->n<100->VP P G fp [W m,W n] (W (m+n))) (h7:∀ n,n<100->VP P G fa [W n] (W (n/2))) (h8:∀ m n,m<100->n<100->VP P G fc [W m,W n] (.int .i64 (fP m n))) (h9:VP P G fs [.bool false,W 1] (IV 1)):VP P G f [IV 1] (.tup [IV 1, .int .i64 0]) :=
 VP.tr h [hc h1,hc h2,hc h3,hc h4,hc (h5 2 (by decide) (by decide)),hc (h6 2 0 (by decide) (by decide)),hc (h7 2 (by decide)),hc (h8 1 2 (by decide) (by decide)),hc h4,hc (h5 1 (by decide) (by decide)),hc (h6 1 1 (by decide) (by decide)),hc (h7 2 (by decide)),hc (h8 1 1 (by decide) (by decide)),hc h9] (by kernel_rfl)
end
end Go.VL
end

section
set_option maxRecDepth 100000
namespace Go.Proofs.YtchdghnpcekegaaGreatDoor
open Go.VL Go.Proofs Go.Lib
theorem smq (q:Rat) (h:(decide (q.num.natAbs<4294967296)&&decide (q.den<4294967296))=true):Sm 5000 q:=by
 simp only [Bool.and_eq_true,decide_eq_true_eq] at h
 exact ⟨Nat.le_trans (fC (k:=1) (by rw [Nat.pow_one];exact h.1)) (by decide),Nat.le_trans (fC (k:=1) (by rw [Nat.pow_one];exact h.2)) (by decide)⟩
def qB (q:Rat):Bool:=decide (q.num.natAbs<4294967296)&&decide (q.den<4294967296)
def vB (v:Q2):Bool:=qB v.1&&qB v.2
theorem WE {q:Rat} (h:qB q=true):Sm 5000 q:=smq q h
theorem Fa {v:Q2} (h:vB v=true):nd 5000 v:=by
 unfold vB at h
 simp only [Bool.and_eq_true] at h
 exact ⟨WE h.1,WE h.2⟩
theorem smL {q:Rat} (h:Sm 5000 q):Sm 100000 q:=h.mono (by omega)
section
variable (G:Nat->Option (List AV))
theorem aah (a:Rat) (ha:Sm 100000 a):VP Tryz.prog G 182 [EV a] (EV (-a)):=XU HI a (aie G a ha)
theorem aiz (a:Rat) (ha:Sm 100000 a):VP Tryz.prog G 130 [.nils,EV a] (EV (-a)):=XY HL a (tF G a ha) (aah G a ha)
theorem aiA (a b:Rat) (ha:Sm 100000 a) (hb:Sm 100000 b):VP Tryz.prog G 136 [.nils,EV a,EV b] (EV (a-b)):=XX HK a b (tf G a b ha hb) (aah G b hb) (Qa Ar a (-b) (aeX G a (-b) ha hb.neg))
theorem sm1:Sm 100000 (1:Rat):=smL (WE (by decide +kernel))
theorem aiB (a:Rat) (ha0:a≠0) (ha:Sm 100000 a):VP Tryz.prog G 184 [.nils,EV a] (.tup [EV (1/a), .int .i64 0]):=X1 HO a (tF G a ha) (Mj B8 a (YD G 1 (by decide) (by decide)) (aii G 1 a ha0 sm1 ha))
theorem aca (a b:Rat) (ha:Sm 100000 a) (hb:Sm 100000 b):VP Tryz.prog G 87 [NV a,NV b] (.tup [NV (a-b), .int .i64 0]):=X8 Gv a b _ (Ba nC a b _ (VT G a b ha hb) (aiA G a b ha hb))
theorem acb (a:Rat) (ha:Sm 100000 a):VP Tryz.prog G 81 [NV a] (NV (-a)):=Ya Gx a (ab0 G a ha) (aiz G a ha)
theorem aiC (a b:Rat) (HW:b≠0) (ha:Sm 5000 a) (hb:Sm 5000 b):VP Tryz.prog G 133 [NV a,NV b] (.tup [NV (a*(1/b)), .int .i64 0]):=Yb Gy a b _ (aiB G b HW (smL hb)) (Sz G a (1/b) (smL ha) ((Sm.div (WE (by decide +kernel):Sm 5000 1) hb (by omega)).mono (by omega)))
theorem afq:VP Tryz.prog G 218 [.nils] (.bool true):=Yd HQ (YD G 0 (by decide) (by decide)) (Ml B7 0 (trd G) (VQ G 0 (smL (WE (by decide +kernel)))) EW (YD G 0 (by decide) (by decide))) (tF G 0 (smL (WE (by decide +kernel))))
theorem aai (a:Rat) (ha:Sm 100000 a):VP Tryz.prog G 128 [.nils,EV a] (.int .i64 (df a)):=UW HR a (Yc HP a (tF G a ha) (afq G)) (UU Gz a (Qn G a ha))
theorem afr (a:Rat) (ha:Sm 100000 a):VP Tryz.prog G 80 [NV a] (.int .i64 (df a)):=UT EY a (aai G a ha)
theorem nEq (a b:Rat) (ha:Sm 100000 a) (hb:Sm 100000 b):VP Tryz.prog G 126 [NV a,NV b] (.bool (decide (a=b))):=RP DL a b (abZ G) (X2 wL a b (X3 gB a b (UQ tO a b (aif G a b ha hb))))
theorem Hn {n:Nat} (h:n<100):ag n<=1:=fC (by rw [Nat.pow_one];unfold aE;omega)
theorem aiD (b:Nat) (h:iC 16=b):VP Tryz.prog G 307 [.int .u32 16] (.int .i64 (b:Int)):=by rw [<- h];exact GQ mX 16 (by decide)
theorem YR:VP Tryz.prog G 305 [IV 16] (.tup [IV 4, .int .i64 0]):=OJ uW (VO G 16 (Nat.le_trans (Hn (n:=16) (by decide)) (by decide))) (M0 uX 16 16 rfl (by decide) (by decide) 5 (oQ (t145 G) 16 (by have:=Hn (n:=16) (by decide);omega)) (aiD G 5 (by decide +kernel)) (by decide)) (MY qF) (oQ (t145 G) 16 (by have:=Hn (n:=16) (by decide);omega))
 (fun n h0 hn=>d164 G 16 n h0 (by have:=Hn (n:=16) (by decide);omega) (by have:=Hn hn;omega)) (fun m n hm hn=>YB G m n (by have:=Hn hm;omega) (by have:=Hn hn;omega)) (fun n hn=>Qs uY kx (t145 G) n (by have:=Hn hn;omega)) (fun m n hm hn=>VM G m n (by have:=Hn hm;omega) (by have:=Hn hn;omega)) (MQ G false 4 (by have:=Hn (n:=4) (by decide);omega))
end
end Go.Proofs.YtchdghnpcekegaaGreatDoor
end

section
set_option maxRecDepth 100000
namespace Go.Proofs.YtchdghnpcekegaaGreatDoor
open Go.VL Go.Proofs Go.Lib
section
variable (G:Nat->Option (List AV))
theorem aiE (b:Nat) (h:iC 1=b):VP Tryz.prog G 307 [.int .u32 1] (.int .i64 (b:Int)):=by rw [<- h];exact GQ mX 1 (by decide)
theorem acd:VP Tryz.prog G 305 [IV 1] (.tup [IV 1, .int .i64 0]):=SG uW (VO G 1 (Nat.le_trans (Hn (n:=1) (by decide)) (by decide))) (M0 uX 1 1 rfl (by decide) (by decide) 1 (oQ (t145 G) 1 (by have:=Hn (n:=1) (by decide);omega)) (aiE G 1 (by decide +kernel)) (by decide)) (MZ qF) (oQ (t145 G) 1 (by have:=Hn (n:=1) (by decide);omega))
 (fun n h0 hn=>d164 G 1 n h0 (by have:=Hn (n:=1) (by decide);omega) (by have:=Hn hn;omega)) (fun m n hm hn=>YB G m n (by have:=Hn hm;omega) (by have:=Hn hn;omega)) (fun n hn=>Qs uY kx (t145 G) n (by have:=Hn hn;omega)) (fun m n hm hn=>VM G m n (by have:=Hn hm;omega) (by have:=Hn hn;omega)) (MQ G false 1 (by have:=Hn (n:=1) (by decide);omega))
theorem w4 {z:Int} (h:z.natAbs<100):ag z.natAbs<=400000:=Nat.le_trans (Hn h) (by decide)
theorem YS:VP Tryz.prog G 290 [IV 16] (.tup [IV 4, .bool true]):=MX sM 16 4 (YR G) (Sy G 4 4 (w4 (by decide)) (w4 (by decide))) (abT G 16 16 (w4 (by decide)) (w4 (by decide)))
theorem ace:VP Tryz.prog G 290 [IV 1] (.tup [IV 1, .bool true]):=MX sM 1 1 (acd G) (Sy G 1 1 (w4 (by decide)) (w4 (by decide))) (abT G 1 1 (w4 (by decide)) (w4 (by decide)))
theorem YT:VP Tryz.prog G 275 [QV 16] (.tup [QV 4, .bool true]):=Wc Cg 16 1 4 1 (YS G) (ace G)
theorem sB {q:Rat} (h:qB q=true):Sm 100000 q:=smL (WE h)
theorem sgB {q:Rat} {s:Int} (h:qB q=true) (e:df q=s):VP Tryz.prog G 128 [.nils,EV q] (.int .i64 s):=e▸aai G q (sB h)
theorem YU:VP Tryz.prog G 132 [NV 16] (.tup [NV 4, .int .i64 0]):=Wb E5 16 4 (SF E6 16 4 (tF G 16 (sB (by decide +kernel))) (MV DT) (sgB G (by decide +kernel) (by decide +kernel)) (MW Cf 16 4 (OH E7 16 4 (YT G)) (sgB G (by decide +kernel) (by decide +kernel))) (OG GG))
 (OI sJ 4 (Et qD 4 (VR G 4 (sB (by decide +kernel)))))
theorem M1 (a:Rat):cX Tryz.prog G 78 [NV a, .int .i64 0] (NV a):=YL y8 a
theorem We (a b c:Q2) (h:jn a b=c:=by decide +kernel) (h1:(vB a&&vB b)=true:=by decide +kernel):cX Tryz.prog G 77 [V2 a,V2 b] (V2 c):=by
 simp only [Bool.and_eq_true] at h1
 have s1:=(Fa h1.1).mono (k:=100000) (by omega)
 have s2:=(Fa h1.2).mono (k:=100000) (by omega)
 subst h
 exact YM y7 a b _ (Yf GD a b _ (CF np a b _ (aca G _ _ s1.1 s2.1) (aca G _ _ s1.2 s2.2))) (Ko my)
theorem Jj (a b c:Q2) (h:gm a b=c:=by decide +kernel) (h1:(vB a&&vB b)=true:=by decide +kernel):cX Tryz.prog G 31 [V2 a,V2 b] (V2 c):=by
 simp only [Bool.and_eq_true] at h1
 subst h;exact ae2 G a b (Fa h1.1) (Fa h1.2)
theorem kSc (a c:Q2) (n:Rat) (h:fS a n=c:=by decide +kernel) (h1:(vB a&&qB n)=true:=by decide +kernel):cX Tryz.prog G 25 [V2 a,NV n] (V2 c):=by
 simp only [Bool.and_eq_true] at h1
 subst h;exact VU G a n (Fa h1.1) (WE h1.2)
theorem YV (a b c:Rat) (h:a*b=c:=by decide +kernel) (h1:(qB a&&qB b)=true:=by decide +kernel):cX Tryz.prog G 83 [NV a,NV b] (NV c):=by
 simp only [Bool.and_eq_true] at h1
 subst h;exact YN y9 a b _ (Sz G a b (sB h1.1) (sB h1.2)) (M1 G)
theorem M3 (a b c:Rat) (h:a*(1/b)=c:=by decide +kernel) (h0:b≠0:=by decide +kernel) (h1:(qB a&&qB b)=true:=by decide +kernel):cX Tryz.prog G 84 [NV a,NV b] (NV c):=by
 simp only [Bool.and_eq_true] at h1
 subst h;exact YO zd a b _ (aiC G a b h0 (WE h1.1) (WE h1.2)) (M1 G)
theorem kAd (a b c:Rat) (h:a+b=c:=by decide +kernel) (h1:(qB a&&qB b)=true:=by decide +kernel):VP Tryz.prog G 85 [NV a,NV b] (.tup [NV c, .int .i64 0]):=by
 simp only [Bool.and_eq_true] at h1
 subst h;exact YG G a b (sB h1.1) (sB h1.2)
theorem kSb (a b c:Rat) (h:a-b=c:=by decide +kernel) (h1:(qB a&&qB b)=true:=by decide +kernel):VP Tryz.prog G 87 [NV a,NV b] (.tup [NV c, .int .i64 0]):=by
 simp only [Bool.and_eq_true] at h1
 subst h;exact aca G a b (sB h1.1) (sB h1.2)
theorem YW (a b:Q2) (c:Rat) (h:rU a b=c:=by decide +kernel) (h1:(vB a&&vB b&&qB (a.1*b.1)&&qB (a.2*b.2))=true:=by decide +kernel):VP Tryz.prog G 86 [V2 a,V2 b] (.tup [NV c, .int .i64 0]):=by
 simp only [Bool.and_eq_true] at h1
 obtain ⟨⟨⟨a1,a2⟩,a3⟩,a4⟩:=h1
 have s1:=(Fa a1).mono (k:=100000) (by omega)
 have s2:=(Fa a2).mono (k:=100000) (by omega)
 subst h
 exact YP GF a b (CF np a b (a.1*b.1,a.2*b.2) (Sz G _ _ s1.1 s2.1) (Sz G _ _ s1.2 s2.2)) (YG G _ _ (sB a3) (sB a4))
theorem Wf (a:Q2) (h:rU a a=16:=by decide +kernel) (h1:(vB a&&vB a&&qB (a.1*a.1)&&qB (a.2*a.2))=true:=by decide +kernel):VP Tryz.prog G 82 [V2 a] (.tup [NV 4, .int .i64 0]) :=
 YQ Cb a 4 (OD Cc a (YW G a a _ rfl h1)) (h▸YU G)
theorem aaj (a:Q2) (h1:vB a=true:=by decide +kernel):VP Tryz.prog G 90 [V2 a] (V2 (-a.2,a.1)):=by
 have s1:=(Fa h1).mono (k:=100000) (by omega)
 have hn:=acb G (-a.1) s1.1.neg
 rw [Rat.neg_neg] at hn
 exact Wa E4 a (acb G _ s1.2) (V9 Ce _ (acb G _ s1.1) hn)
theorem kCr (a b c:Q2) (r:Rat) (e:(-a.2,a.1)=c:=by decide +kernel) (h:rU c b=r:=by decide +kernel) (h0:vB a=true:=by decide +kernel) (h1:(vB c&&vB b&&qB (c.1*b.1)&&qB (c.2*b.2))=true:=by decide +kernel):VP Tryz.prog G 79 [V2 a,V2 b] (.tup [NV r, .int .i64 0]):=SD DR a b c r (e▸aaj G a h0) (YW G c b r h h1)
theorem kSg (q:Rat) (s:Int) (e:df q=s:=by decide +kernel) (h:qB q=true:=by decide +kernel):VP Tryz.prog G 80 [NV q] (.int .i64 s):=e▸afr G q (sB h)
theorem kFr (q:Rat) (h:qB q=true:=by decide +kernel):VP Tryz.prog G 62 [QV q] (NV q):=YF G q (sB h)
theorem kEq (a b:Q2) (r:Bool) (e:decide (a=b)=r:=by decide +kernel) (h1:(vB a&&vB b)=true:=by decide +kernel):VP Tryz.prog G 76 [V2 a,V2 b] (.bool r):=by
 simp only [Bool.and_eq_true] at h1
 have s1:=(Fa h1.1).mono (k:=100000) (by omega)
 have s2:=(Fa h1.2).mono (k:=100000) (by omega)
 exact e▸SE DN a b (nEq G _ _ s1.1 s2.1) (nEq G _ _ s1.2 s2.2)
theorem kQs (q:Rat) (s:Int) (e:df q=s:=by decide +kernel) (h:qB q=true:=by decide +kernel):VP Tryz.prog G 24 [QV q] (.int .i64 s):=e▸Qn G q (sB h)
end
end Go.Proofs.YtchdghnpcekegaaGreatDoor
end

section
set_option maxRecDepth 100000
namespace Go.Proofs.YtchdghnpcekegaaGreatDoor
open Go.VL Go.Proofs Go.Lib
def sg (a b:Q2):AV := .agg [.bool false, .nils,EV a.1, .nils,EV a.2, .nils,EV b.1, .nils,EV b.2, .nils, .nils, .nils, .nils, .bool false]
def qO (s:List UInt8) (c:AV):AV := .agg (.str s::c.cells)
instance {a b:Q2}:PU (sg a b):=by unfold sg;infer_instance
instance {s:List UInt8} {a b:Q2}:PU (qO s (sg a b)):=by unfold qO sg AV.cells;infer_instance
def sA:AV:=sg (0,0) (4,0)
def sB':AV:=sg (0,0) (0,4)
instance:PU sA:=by unfold sA;infer_instance
instance:PU sB':=by unfold sB';infer_instance
theorem Ho {a b:Q2}:∀ c∈(sg a b).cells,aa c:=by intro c hc;simp only [sg,AV.cells,List.mem_cons,List.not_mem_nil,or_false] at hc;rcases hc with rfl | rfl | rfl | rfl | rfl | rfl | rfl | rfl | rfl | rfl | rfl | rfl | rfl | rfl<;>first | exact aa.bool _ | exact aa.nils | exact az _
theorem dx {s:List UInt8} {a b:Q2}:∀ c∈(qO s (sg a b)).cells,aa c:=by
 intro c hc
 rcases List.mem_cons.1 hc with rfl | hc
 . exact aa.str _
 . exact Ho c hc
section
variable (G:Nat->Option (List AV))
theorem Qt:VP Tryz.prog G 43 [sA,sB'] (.tup [V2 (0,0),V2 (4,0),V2 (0,4), .bool true]):=VP.tr AZ [hc (kEq G (0,0) (0,0) true)] (by kernel_rfl)
theorem afs:VP Tryz.prog G 45 [sA,V2 (0,0),V2 (1,0)] (sg (1,0) (4,0)):=VP.tr p4 [hc (kEq G (0,0) (0,0) true)] (by kernel_rfl)
theorem aft:VP Tryz.prog G 45 [sB',V2 (0,0),V2 (0,1)] (sg (0,1) (0,4)):=VP.tr p4 [hc (kEq G (0,0) (0,0) true)] (by kernel_rfl)
def rnd (a b c:Q2) (w:Bool):AV := .agg [.nils,EV a.1, .nils,EV a.2, .nils,EV b.1, .nils,EV b.2, .nils,EV c.1, .nils,EV c.2, .bool w]
instance {a b c:Q2} {w:Bool}:PU (rnd a b c w):=by unfold rnd;infer_instance
theorem YX:VP Tryz.prog G 44 [V2 (0,0),V2 (4,0),V2 (0,4),QV 1] (.tup [rnd (1,0) (0,1) (1,1) true, .int .i64 0]):=VP.tr sL
 [dC [7] (We G (4,0) (0,0) (4,0)),dC [7] (We G (0,4) (0,0) (0,4)),hc (kCr G (4,0) (0,4) (0,4) 16),dC [7] (M1 G 16),hc (kSg G 16 1),hc (kSg G 16 1),hc (kFr G 1),hc (Wf G (4,0)),dC [7] (M1 G 4),hc (Wf G (0,4)),dC [7] (M1 G 4),dC [7] (YV G 4 4 16),
  hc (YW G (4,0) (0,4) 0),dC [7] (M1 G 0),hc (kAd G 16 0 16),dC [7] (M1 G 16),dC [7] (YV G 1 16 16),dC [7] (M3 G 16 16 1),hc (kSb G 4 1 3),dC [7] (M1 G 3),hc (kSb G 4 1 3),dC [7] (M1 G 3),hc (kSg G 3 1),hc (kSg G 3 1),
  dC [7] (M3 G 1 4 (1/4)),dC [7] (kSc G (4,0) (1,0) (1/4)),dC [7] (Jj G (0,0) (1,0) (1,0)),dC [7] (M3 G 1 4 (1/4)),dC [7] (kSc G (0,4) (0,1) (1/4)),dC [7] (Jj G (0,0) (0,1) (0,1)),
  dC [7] (M3 G 1 4 (1/4)),dC [7] (kSc G (4,0) (1,0) (1/4)),dC [7] (M3 G 1 4 (1/4)),dC [7] (kSc G (0,4) (0,1) (1/4)),dC [7] (Jj G (1,0) (0,1) (1,1)),dC [7] (M3 G 16 16 1),dC [7] (kSc G (1,1) (1,1) 1),dC [7] (Jj G (0,0) (1,1) (1,1))] (by kernel_rfl)
theorem YY:VP Tryz.prog G 44 [V2 (0,0),V2 (4,0),V2 (0,4),QV 4] (.tup [.agg [.nils, .nils, .nils, .nils, .nils, .nils, .nils, .nils, .nils, .nils, .nils, .nils, .bool true], .int .i64 16]):=VP.tr sL
 [dC [7] (We G (4,0) (0,0) (4,0)),dC [7] (We G (0,4) (0,0) (0,4)),hc (kCr G (4,0) (0,4) (0,4) 16),dC [7] (M1 G 16),hc (kSg G 16 1),hc (kSg G 16 1),hc (kFr G 4),hc (Wf G (4,0)),dC [7] (M1 G 4),hc (Wf G (0,4)),dC [7] (M1 G 4),dC [7] (YV G 4 4 16),
  hc (YW G (4,0) (0,4) 0),dC [7] (M1 G 0),hc (kAd G 16 0 16),dC [7] (M1 G 16),dC [7] (YV G 4 16 64),dC [7] (M3 G 64 16 4),hc (kSb G 4 4 0),dC [7] (M1 G 0),hc (kSb G 4 4 0),dC [7] (M1 G 0),hc (kSg G 0 0)] (by kernel_rfl)
theorem aiI:VP Tryz.prog G 47 [sA,QV 2] (.tup [sg (0,2) (4,2), .int .i64 0]):=VP.tr y5
 [hc (kFr G 2),dC [5] (We G (4,0) (0,0) (4,0)),hc ((show ((-(0:Rat)),(4:Rat))=((0:Rat),(4:Rat)) by decide +kernel)▸aaj G (4,0):VP Tryz.prog G 90 [V2 (4,0)] (V2 (0,4))),hc (Wf G (0,4)),dC [5] (M1 G 4),dC [5] (M3 G 2 4 (1/2)),dC [5] (kSc G (0,4) (0,2) (1/2)),dC [5] (Jj G (0,0) (0,2) (0,2)),dC [5] (Jj G (4,0) (0,2) (4,2))] (by kernel_rfl)
end
end Go.Proofs.YtchdghnpcekegaaGreatDoor
end

section
set_option maxRecDepth 100000
namespace Go.Proofs.YtchdghnpcekegaaGreatDoor
open Go.VL Go.Proofs Go.Lib
def pr (p q r s:Q2):AV := .sl 15 [qO [97] (sg p q),qO [98] (sg r s)]
theorem qP {l:List AV} (h:∀ e∈l,∀ c∈e.cells,aa c):∀ c∈flat l,aa c:=by
 intro c hc
 obtain ⟨e,he,hc⟩:=List.mem_flatMap.1 hc
 exact h e he c hc
theorem PU.sl1 {k:Nat} {a:AV} [h:PU a] (ha:∀ c∈a.cells,aa c):PU (.sl k [a]):=PU.slice (qP (by intro e he;simp at he;subst he;exact ha)) (by intro c hc ρ;simp at hc;subst hc;exact h.fix ρ)
theorem PU.sl2 {k:Nat} {a b:AV} [h:PU a] [g:PU b] (ha:∀ c∈a.cells,aa c) (hb:∀ c∈b.cells,aa c):PU (.sl k [a,b]):=PU.slice (qP (by intro e he;simp at he;rcases he with rfl | rfl;exact ha;exact hb)) (by intro c hc ρ;simp at hc;rcases hc with rfl | rfl;exact h.fix ρ;exact g.fix ρ)
instance {p q r s:Q2}:PU (pr p q r s):=PU.sl2 dx dx
def st1 (a:List UInt8):AV := .sl 1 [.str a]
def st2 (a b:List UInt8):AV := .sl 1 [.str a, .str b]
instance {a:List UInt8}:PU (st1 a):=PU.sl1 (by intro c hc;simp [AV.cells] at hc;subst hc;exact aa.str _)
instance {a b:List UInt8}:PU (st2 a b):=PU.sl2 (by intro c hc;simp [AV.cells] at hc;subst hc;exact aa.str _) (by intro c hc;simp [AV.cells] at hc;subst hc;exact aa.str _)
section
variable (G:Nat->Option (List AV)) (p q r s:Q2)
theorem a1 (n m:List UInt8) (b:Bool) (h:(n==m)=b):VP Tryz.prog G 89 [qO n (sg p q), .ep [.str m] 0] (.bool b):=VP.tr qE [hb 7 h] (by kernel_rfl)
theorem aIF (m:List UInt8) (x y:Bool) (i:Int) (hx:([97]==m)=x) (hy:([98]==m)=y) (hi:(if x then 0 else if y then 1 else -1)=i):VP Tryz.prog G 88 [pr p q r s, .fn (.func 89) [] [.ep [.str m] 0]] (.int .i64 i):=by
 cases x<;>cases y<;>cases hi
 . exact VP.tr aS [hc (a1 G p q _ m _ hx),hc (a1 G r s _ m _ hy)] (by kernel_rfl)
 . exact VP.tr aS [hc (a1 G p q _ m _ hx),hc (a1 G r s _ m _ hy)] (by kernel_rfl)
 . exact VP.tr aS [hc (a1 G p q _ m _ hx)] (by kernel_rfl)
 . exact VP.tr aS [hc (a1 G p q _ m _ hx)] (by kernel_rfl)
theorem aIx (m:List UInt8) (i:Int) (h:(if [97]==m then 0 else if [98]==m then 1 else -1)=i:=by decide):VP Tryz.prog G 46 [pr p q r s, .str m] (.int .i64 i):=by
 have hv:aF (af.of [([0],⟨[.str m],1,false⟩)]) [pr p q r s, .fn (.func 89) [] [.ref [0] 0 0]] [pr p q r s, .fn (.func 89) [] [.ep [.str m] 0]]:=aF.cons (View.pure PU.pure) (aF.cons (View.fn aF.nil (aF.cons (View.ref (bk:=⟨[.str m],1,false⟩) (by simp [af.of]) rfl (aF.pure (by simp [AV.cells,aa.str]))) aF.nil)) aF.nil)
 exact VP.tr sK [lF [([0],⟨[.str m],1,false⟩)] (aIF G p q r s m _ _ i rfl rfl h) hv] (by kernel_rfl)
theorem aFa:VP Tryz.prog G 58 [pr p q r s, .str [97]] (.tup [sg p q, .bool true]):=VP.tr mI [hc (aIx G p q r s [97] 0)] (by kernel_rfl)
theorem aFb:VP Tryz.prog G 58 [pr p q r s, .str [98]] (.tup [sg r s, .bool true]):=VP.tr mI [hc (aIx G p q r s [98] 1)] (by kernel_rfl)
theorem aiK (m:List UInt8):VP Tryz.prog G 152 [.sl 1 [], .str m] (.int .i64 (-1)):=VP.tr fB [] (by kernel_rfl)
theorem aiL:VP Tryz.prog G 152 [st1 [97], .str [98]] (.int .i64 (-1)):=VP.tr fB [] (by kernel_rfl)
theorem afu (m:List UInt8):VP Tryz.prog G 103 [.sl 1 [], .str m] (.bool false):=VP.tr eF [hc (aiK G m)] (by kernel_rfl)
theorem aiM:VP Tryz.prog G 103 [st1 [97], .str [98]] (.bool false):=VP.tr eF [hc (aiL G)] (by kernel_rfl)
theorem aiN:VP Tryz.prog G 57 [st2 [97] [98]] (.bool false):=VP.tr mz [hc (afu G [97]),hc (aiM G)] (by kernel_rfl)
theorem aiO:VP Tryz.prog G 57 [st1 [97]] (.bool false):=VP.tr mz [hc (afu G [97])] (by kernel_rfl)
theorem vO {σ : af} {id:VL.Id} {k n:Nat} {l:List AV} (h : σ id=some ⟨l,k,false⟩) (hn:l.length=n) (hf:∀ e∈l,e.size=k) (hp:∀ e∈l,∀ c∈e.cells,aa c):View σ (.osl id k 0 n false) (.sl k l):=by
 subst hn
 exact View.osl (bk:=⟨l,k,false⟩) h rfl (by simp) (by rw [List.drop_zero,List.take_length];exact aF.pure (qP hp)) rfl hf
theorem vT {σ : af} {a b:AV} {e:Int} (h:View σ a b):View σ (.tup [a, .int .i64 e]) (.tup [b, .int .i64 e]):=View.tup (aF.cons h (aF.cons (View.pure (aa.int _ _)) aF.nil))
theorem afv:VP Tryz.prog G 23 [.str [102],pr p q r s,st2 [97] [98]] (.tup [.sl 14 [sg p q,sg r s], .int .i64 0]):=VP.trV nD [hc (V6 G [102]),hc (aiN G),hc (aFa G p q r s),hc (aFb G p q r s)] [([16],⟨[sg p q,sg r s],14,false⟩)] (.tup [.osl [16] 14 0 2 false, .int .i64 0]) (by kernel_rfl) (fun σ h=>vT (vO (h ([16],⟨[sg p q,sg r s],14,false⟩) (by simp)) rfl (by intro e he;simp at he;rcases he with rfl | rfl<;>rfl) (by intro e he;simp at he;rcases he with rfl | rfl<;>exact Ho)))
theorem aiP:VP Tryz.prog G 23 [.str [103],pr p q r s,st1 [97]] (.tup [.sl 14 [sg p q], .int .i64 0]):=VP.trV nD [hc (V6 G [103]),hc (aiO G),hc (aFa G p q r s)] [([16],⟨[sg p q],14,false⟩)] (.tup [.osl [16] 14 0 1 false, .int .i64 0]) (by kernel_rfl) (fun σ h=>vT (vO (h ([16],⟨[sg p q],14,false⟩) (by simp)) rfl (by intro e he;simp at he;subst he;rfl) (by intro e he;simp at he;subst he;exact Ho)))
def x1:AV:=NX.av ⟨[102,47,48],⟨true,(1,0),(0,1),(1,1),true⟩⟩
def x2:AV:=qO [103,47,97] (sg (0,2) (4,2))
instance:PU x1:=by unfold x1;infer_instance
instance:PU x2:=by unfold x2;infer_instance
theorem rW:∀ c∈x1.cells,aa c:=CH _
theorem vq:∀ c∈x2.cells,aa c:=dx
instance:PU (.sl 15 [x1]):=PU.sl1 rW
instance:PU (.sl 15 [x2]):=PU.sl1 vq
theorem aiQ:VP Tryz.prog G 112 [x1] (.bool false):=VP.tr nE [] (by kernel_rfl)
theorem aiR:VP Tryz.prog G 113 [x1, .ep [pr p q r s] 0] (.bool false):=VP.tr nF [hc (aIx G p q r s [102,47,48] (-1))] (by kernel_rfl)
theorem aiS:VP Tryz.prog G 88 [.sl 15 [x1], .fn (.func 112) [] []] (.int .i64 (-1)):=VP.tr aS [hc (aiQ G)] (by kernel_rfl)
theorem aiT:VP Tryz.prog G 88 [.sl 15 [x1], .fn (.func 113) [] [.ep [pr p q r s] 0]] (.int .i64 (-1)):=VP.tr aS [hc (aiR G p q r s)] (by kernel_rfl)
theorem aiU:VP Tryz.prog G 114 [.sl 15 [x1], .fn (.func 112) [] []] (.bool false):=VP.tr bh [hc (aiS G)] (by kernel_rfl)
theorem aiV:VP Tryz.prog G 114 [.sl 15 [x1], .fn (.func 113) [] [.ep [pr p q r s] 0]] (.bool false):=VP.tr bh [hc (aiT G p q r s)] (by kernel_rfl)
theorem aiW:VP Tryz.prog G 66 [pr p q r s, .sl 15 [x1]] (.int .i64 0):=by
 have hv:aF (af.of [([0],⟨[pr p q r s],1,false⟩)]) [.sl 15 [x1], .fn (.func 113) [] [.ref [0] 0 0]] [.sl 15 [x1], .fn (.func 113) [] [.ep [pr p q r s] 0]]:=aF.cons (View.pure PU.pure) (aF.cons (View.fn aF.nil (aF.cons (View.ref (bk:=⟨[pr p q r s],1,false⟩) (by simp [af.of]) rfl (aF.pure (by intro c hc;rcases List.mem_singleton.1 hc with rfl;exact PU.pure))) aF.nil)) aF.nil)
 exact VP.tr pE [hc (aiU G),lF [([0],⟨[pr p q r s],1,false⟩)] (aiV G p q r s) hv] (by kernel_rfl)
theorem aiX:VP Tryz.prog G 112 [x2] (.bool false):=VP.tr nE [] (by kernel_rfl)
theorem aiY:VP Tryz.prog G 113 [x2, .ep [pr p q r s] 0] (.bool false):=VP.tr nF [hc (aIx G p q r s [103,47,97] (-1))] (by kernel_rfl)
theorem aiZ:VP Tryz.prog G 88 [.sl 15 [x2], .fn (.func 112) [] []] (.int .i64 (-1)):=VP.tr aS [hc (aiX G)] (by kernel_rfl)
theorem ai0:VP Tryz.prog G 88 [.sl 15 [x2], .fn (.func 113) [] [.ep [pr p q r s] 0]] (.int .i64 (-1)):=VP.tr aS [hc (aiY G p q r s)] (by kernel_rfl)
theorem ai1:VP Tryz.prog G 114 [.sl 15 [x2], .fn (.func 112) [] []] (.bool false):=VP.tr bh [hc (aiZ G)] (by kernel_rfl)
theorem ai2:VP Tryz.prog G 114 [.sl 15 [x2], .fn (.func 113) [] [.ep [pr p q r s] 0]] (.bool false):=VP.tr bh [hc (ai0 G p q r s)] (by kernel_rfl)
theorem ai3:VP Tryz.prog G 66 [pr p q r s, .sl 15 [x2]] (.int .i64 0):=by
 have hv:aF (af.of [([0],⟨[pr p q r s],1,false⟩)]) [.sl 15 [x2], .fn (.func 113) [] [.ref [0] 0 0]] [.sl 15 [x2], .fn (.func 113) [] [.ep [pr p q r s] 0]]:=aF.cons (View.pure PU.pure) (aF.cons (View.fn aF.nil (aF.cons (View.ref (bk:=⟨[pr p q r s],1,false⟩) (by simp [af.of]) rfl (aF.pure (by intro c hc;rcases List.mem_singleton.1 hc with rfl;exact PU.pure))) aF.nil)) aF.nil)
 exact VP.tr pE [hc (ai1 G),lF [([0],⟨[pr p q r s],1,false⟩)] (ai2 G p q r s) hv] (by kernel_rfl)
theorem ai4:VP Tryz.prog G 67 [.sl 1 [pr p q r s, .sl 15 [x1]]] (.sl 15 [qO [97] (sg p q),qO [98] (sg r s),x1]):=VP.trV dN
 [.rel 115 _ [] _ (fun p _=>Km ee 3 (by decide) (by decide) p) (by intro p x hx;simp at hx)] [([18,33],⟨[qO [97] (sg p q),qO [98] (sg r s),x1],15,false⟩)] (.osl [18,33] 15 0 3 false) (by kernel_rfl)
 (fun σ h=>vO (h ([18,33],⟨[qO [97] (sg p q),qO [98] (sg r s),x1],15,false⟩) (by simp)) rfl (by intro e he;simp at he;rcases he with rfl | rfl | rfl<;>rfl) (by intro e he;simp at he;rcases he with rfl | rfl | rfl;exact dx;exact dx;exact rW))
theorem ai5:VP Tryz.prog G 67 [.sl 1 [pr p q r s, .sl 15 [x2]]] (.sl 15 [qO [97] (sg p q),qO [98] (sg r s),x2]):=VP.trV dN
 [.rel 115 _ [] _ (fun p _=>Km ee 3 (by decide) (by decide) p) (by intro p x hx;simp at hx)] [([18,33],⟨[qO [97] (sg p q),qO [98] (sg r s),x2],15,false⟩)] (.osl [18,33] 15 0 3 false) (by kernel_rfl)
 (fun σ h=>vO (h ([18,33],⟨[qO [97] (sg p q),qO [98] (sg r s),x2],15,false⟩) (by simp)) rfl (by intro e he;simp at he;rcases he with rfl | rfl | rfl<;>rfl) (by intro e he;simp at he;rcases he with rfl | rfl | rfl;exact dx;exact dx;exact vq))
theorem ai6:VP Tryz.prog G 32 [pr p q r s, .sl 15 [x1]] (.tup [.sl 15 [qO [97] (sg p q),qO [98] (sg r s),x1], .int .i64 0]):=by
 have hv:aF (af.of [([10],⟨[pr p q r s, .sl 15 [x1]],1,false⟩)]) [.osl [10] 1 0 2 false] [.sl 1 [pr p q r s, .sl 15 [x1]]]:=aF.cons (vO (by simp [af.of]) rfl (by intro e he;simp at he;rcases he with rfl | rfl<;>rfl) (by intro e he c hc;simp at he;rcases he with rfl | rfl<;>(rcases List.mem_singleton.1 hc with rfl;exact PU.pure))) aF.nil
 haveI:PU (.sl 15 [qO [97] (sg p q),qO [98] (sg r s),x1]):=PU.slice (qP (by intro e he;simp at he;rcases he with rfl | rfl | rfl;exact dx;exact dx;exact rW)) (by intro e he ρ;simp at he;rcases he with rfl | rfl | rfl<;>exact PU.fix ρ)
 exact VP.tr pF [hc (aiW G p q r s),lF [([10],⟨[pr p q r s, .sl 15 [x1]],1,false⟩)] (ai4 G p q r s) hv] (by kernel_rfl)
theorem ai7:VP Tryz.prog G 32 [pr p q r s, .sl 15 [x2]] (.tup [.sl 15 [qO [97] (sg p q),qO [98] (sg r s),x2], .int .i64 0]):=by
 have hv:aF (af.of [([10],⟨[pr p q r s, .sl 15 [x2]],1,false⟩)]) [.osl [10] 1 0 2 false] [.sl 1 [pr p q r s, .sl 15 [x2]]]:=aF.cons (vO (by simp [af.of]) rfl (by intro e he;simp at he;rcases he with rfl | rfl<;>rfl) (by intro e he c hc;simp at he;rcases he with rfl | rfl<;>(rcases List.mem_singleton.1 hc with rfl;exact PU.pure))) aF.nil
 haveI:PU (.sl 15 [qO [97] (sg p q),qO [98] (sg r s),x2]):=PU.slice (qP (by intro e he;simp at he;rcases he with rfl | rfl | rfl;exact dx;exact dx;exact vq)) (by intro e he ρ;simp at he;rcases he with rfl | rfl | rfl<;>exact PU.fix ρ)
 exact VP.tr pF [hc (ai3 G p q r s),lF [([10],⟨[pr p q r s, .sl 15 [x2]],1,false⟩)] (ai5 G p q r s) hv] (by kernel_rfl)
end
end Go.Proofs.YtchdghnpcekegaaGreatDoor
end

section
set_option maxRecDepth 100000
namespace Go.Proofs.YtchdghnpcekegaaGreatDoor
open Go.VL Go.Proofs Go.Lib
section
variable (G:Nat->Option (List AV)) (p q r s:Q2)
theorem zq (k:Rat) (i:Int) (e:df k=i:=by decide +kernel) (h:qB k=true:=by decide +kernel):VP Tryz.prog G 24 [QV k] (.int .i64 i):=kQs G k i e h
theorem aCl (π : VL.Id):aW Tryz.prog G 10 [pr p q r s] π [] { val := .osl (5 :: π) 15 0 2 false,rd:=[],up:=[(5 :: π,some ⟨[qO [97] (sg p q),qO [98] (sg r s)],15,false⟩)] } :=
 aW.tr (up:=[(5 :: π,⟨[qO [97] (sg p q),qO [98] (sg r s)],15,false⟩)]) (p := π) gr (fun _=>[]) [] [pr p q r s] [] (.osl [5,0] 15 0 2 false) [([5,0],⟨[qO [97] (sg p q),qO [98] (sg r s)],15,false⟩)] (by kernel_rfl) (by rw [H3.fix]) rfl rfl (by simp [vn,da.dz,nT,rV,PU.fixed,mC]) (by simp) (by simp)
def w1:AV := .sl 15 [qO [97] (sg (1,0) (4,0)),qO [98] (sg (0,1) (0,4)),x1]
def Qu:AV:=pr (0,0) (4,0) (0,0) (0,4)
instance:PU Qu:=by unfold Qu;infer_instance
theorem aF4:VP Tryz.prog G 16 [.str [102],Qu, .str [97], .str [98],QV 4] (.tup [.nils, .int .i64 16]):=by
 have hv:aF (af.of [([7],⟨[.str [97], .str [98]],1,false⟩)]) [.str [102],Qu, .osl [7] 1 0 2 false] [.str [102],Qu,st2 [97] [98]]:=aF.cons (View.pure PU.pure) (aF.cons (View.pure PU.pure) (aF.cons (vO (by simp [af.of]) rfl (by intro e he;simp at he;rcases he with rfl | rfl<;>rfl) (by intro e he c hc;simp at he;rcases he with rfl | rfl<;>(rcases List.mem_singleton.1 hc with rfl;exact PU.pure))) aF.nil))
 exact VP.tr rQ [lF [([7],⟨[.str [97], .str [98]],1,false⟩)] (afv G (0,0) (4,0) (0,0) (0,4)) hv,hc (Qt G),hc (zq G 4 1),hc (YY G)] (by kernel_rfl)
theorem vS2 {σ : af} {i:VL.Id} {a b:List UInt8} (h : σ i=some ⟨[.str a, .str b],1,false⟩):View σ (.osl i 1 0 2 false) (st2 a b):=vO h rfl (by intro e he;simp at he;rcases he with rfl | rfl<;>rfl) (by intro e he c hc;simp at he;rcases he with rfl | rfl<;>(rcases List.mem_singleton.1 hc with rfl;exact PU.pure))
theorem vS1 {σ : af} {i:VL.Id} {a:List UInt8} (h : σ i=some ⟨[.str a],1,false⟩):View σ (.osl i 1 0 1 false) (st1 a):=vO h rfl (by intro e he;simp at he;subst he;rfl) (by intro e he c hc;simp at he;subst he;rcases List.mem_singleton.1 hc with rfl;exact PU.pure)
theorem vPr {σ : af} {i:VL.Id} (h : σ i=some ⟨[qO [97] (sg p q),qO [98] (sg r s)],15,false⟩):View σ (.osl i 15 0 2 false) (pr p q r s):=vO h rfl (by intro e he;simp at he;rcases he with rfl | rfl<;>rfl) (by intro e he;simp at he;rcases he with rfl | rfl<;>exact dx)
theorem vX {σ : af} {i:VL.Id} {x:AV} (h : σ i=some ⟨[x],15,false⟩) (hx:∀ c∈x.cells,aa c) (h1:x.size=15):View σ (.osl i 15 0 1 false) (.sl 15 [x]):=vO h rfl (by intro e he;simp at he;subst he;exact h1) (by intro e he;simp at he;subst he;exact hx)
theorem aF1:VP Tryz.prog G 16 [.str [102],Qu, .str [97], .str [98],QV 1] (.tup [w1, .int .i64 0]):=by
 have hv:aF (af.of [([7],⟨[.str [97], .str [98]],1,false⟩)]) [.str [102],Qu, .osl [7] 1 0 2 false] [.str [102],Qu,st2 [97] [98]]:=aF.cons (View.pure PU.pure) (aF.cons (View.pure PU.pure) (aF.cons (vS2 (by simp [af.of])) aF.nil))
 let S:List (VL.Id × da):=[([5,68],⟨[qO [97] (sg (1,0) (4,0)),qO [98] (sg (0,1) (0,4))],15,false⟩),([111],⟨[x1],15,false⟩)]
 have hw:aF (af.of S) [.osl [5,68] 15 0 2 false, .osl [111] 15 0 1 false] [pr (1,0) (4,0) (0,1) (0,4), .sl 15 [x1]]:=aF.cons (vPr _ _ _ _ (by simp [af.of,S])) (aF.cons (vX (by simp [af.of,S,List.lookup]) rW rfl) aF.nil)
 haveI:PU w1:=PU.slice (qP (by intro e he;simp at he;rcases he with rfl | rfl | rfl;exact dx;exact dx;exact rW)) (by intro e he ρ;simp at he;rcases he with rfl | rfl | rfl<;>exact PU.fix ρ)
 exact VP.tr rQ [lF [([7],⟨[.str [97], .str [98]],1,false⟩)] (afv G (0,0) (4,0) (0,0) (0,4)) hv,hc (Qt G),hc (zq G 1 1),hc (YX G), .rel 10 _ [] _ (fun π _=>aCl G (0,0) (4,0) (0,0) (0,4) π) (by intro p x hx;simp at hx),
   hc (aIx G (0,0) (4,0) (0,0) (0,4) [97] 0),hc (afs G),hc (aIx G (0,0) (4,0) (0,0) (0,4) [98] 1),hc (aft G),lF S (ai6 G (1,0) (4,0) (0,1) (0,4)) hw] (by kernel_rfl)
theorem aO:VP Tryz.prog G 17 [.str [103],Qu,st1 [97],QV 2] (.tup [.sl 15 [qO [97] sA,qO [98] sB',x2], .int .i64 0]):=by
 have hw:aF (af.of [([19],⟨[x2],15,false⟩)]) [Qu, .osl [19] 15 0 1 false] [Qu, .sl 15 [x2]]:=aF.cons (View.pure PU.pure) (aF.cons (vX (by simp [af.of]) vq rfl) aF.nil)
 haveI:PU (.sl 15 [qO [97] sA,qO [98] sB',x2]):=PU.slice (qP (by intro e he;simp at he;rcases he with rfl | rfl | rfl;exact dx;exact dx;exact vq)) (by intro e he ρ;simp at he;rcases he with rfl | rfl | rfl;exact (inferInstance:PU (qO [97] (sg _ _))).fix ρ;exact (inferInstance:PU (qO [98] (sg _ _))).fix ρ;exact PU.fix ρ)
 exact VP.tr AY [hc (aiP G (0,0) (4,0) (0,0) (0,4)),hc (zq G 2 1),hc (aiI G),lF [([19],⟨[x2],15,false⟩)] (ai7 G (0,0) (4,0) (0,0) (0,4)) hw] (by kernel_rfl)
end
end Go.Proofs.YtchdghnpcekegaaGreatDoor
end

section
set_option maxRecDepth 100000
namespace Go.Proofs.YtchdghnpcekegaaGreatDoor
open Go.VL Go.Proofs Go.Lib
section
variable (G:Nat->Option (List AV)) (p q r s:Q2)
theorem YZ (a b:Q2) (c:Bool) (e:decide (a=b)=c:=by decide +kernel) (h1:(vB a&&vB b)=true:=by decide +kernel):VP Tryz.prog G 91 [V2 a,V2 b] (.bool c):=by
 simp only [Bool.and_eq_true] at h1
 have s1:=(Fa h1.1).mono (k:=45000) (by omega)
 have s2:=(Fa h1.2).mono (k:=45000) (by omega)
 exact e▸MT G a b s1 s2
theorem SH (a b:Int) (v:Q2) (e:((a:Rat),(b:Rat))=v:=by decide +kernel) (h:(decide (-100<=a)&&decide (a<=100)&&decide (-100<=b)&&decide (b<=100))=true:=by decide +kernel):VP Tryz.prog G 18 [.int .i64 a, .int .i64 b] (V2 v):=by
 simp only [Bool.and_eq_true,decide_eq_true_eq] at h
 subst e
 exact Eu m8 a b (MR G a (by omega) (by omega)) (MR G b (by omega) (by omega)) (MS G ((a:Rat),(b:Rat)))
theorem Wh (a b c d:Int) (u v:Q2) (h1:VP Tryz.prog G 18 [.int .i64 a, .int .i64 b] (V2 u)) (h2:VP Tryz.prog G 18 [.int .i64 c, .int .i64 d] (V2 v)):VP Tryz.prog G 15 [.int .i64 a, .int .i64 b, .int .i64 c, .int .i64 d] (sg u v):=VP.tr rP [hc h1,hc h2] (by kernel_rfl)
theorem kE (u v:Q2) (h1:VP Tryz.prog G 91 [V2 u,V2 u] (.bool true)) (h2:VP Tryz.prog G 91 [V2 v,V2 v] (.bool true)):VP Tryz.prog G 48 [sg u v,sg u v] (.bool true):=VP.tr ji [hc h1,hc h2] (by kernel_rfl)
def xc:AV:=CX.av ⟨true,(1,0),(0,1),(1,1),true⟩
instance:PU xc:=by unfold xc;infer_instance
theorem kX:VP Tryz.prog G 48 [xc,xc] (.bool true):=VP.tr ji [hc (YZ G (1,0) (1,0) true),hc (YZ G (0,1) (0,1) true),hc (YZ G (1,1) (1,1) true)] (by kernel_rfl)
instance:PU w1:=PU.slice (qP (by intro e he;simp at he;rcases he with rfl | rfl | rfl;exact dx;exact dx;exact rW)) (by intro e he ρ;simp at he;rcases he with rfl | rfl | rfl<;>exact PU.fix ρ)
theorem acg:VP Tryz.prog G 19 [w1,w1] (.bool true):=VP.tr jQ [hc (kE G (1,0) (4,0) (YZ G (1,0) (1,0) true) (YZ G (4,0) (4,0) true)),hc (kE G (0,1) (0,4) (YZ G (0,1) (0,1) true) (YZ G (0,4) (0,4) true)),hc (kX G)] (by kernel_rfl)
theorem ach:VP Tryz.prog G 19 [.sl 15 [x2], .sl 15 [x2]] (.bool true):=VP.tr jQ [hc (kE G (0,2) (4,2) (YZ G (0,2) (0,2) true) (YZ G (4,2) (4,2) true))] (by kernel_rfl)
theorem kI (z:Int) (v:Rat) (e:(z:Rat)=v:=by decide +kernel) (h:(decide (-100<=z)&&decide (z<=100))=true:=by decide +kernel):VP Tryz.prog G 8 [.int .i64 z] (QV v):=by
 simp only [Bool.and_eq_true,decide_eq_true_eq] at h
 exact e▸MR G z (by omega) (by omega)
def Lb (i:VL.Id) (b:Bool):VL.Id × da:=(i,⟨[qO [97] (sg (0,0) (4,0)),qO [98] (sg (0,0) (0,4))],15,b⟩)
theorem afw {σ : af} {i:VL.Id} {b:Bool} (h : σ i=some (Lb i b).2):View σ (.osl i 15 0 2 false) Qu:=View.osl (bk:=(Lb i b).2) h rfl (by simp [Lb]) (aF.pure (qP (by intro e he;simp [Lb] at he;rcases he with rfl | rfl<;>exact dx))) rfl (by intro e he;simp at he;rcases he with rfl | rfl<;>rfl)
theorem hvF (i:VL.Id) (b:Bool) (k:Rat):aF (af.of [Lb i b]) [.str [102], .osl i 15 0 2 false, .str [97], .str [98],QV k] [.str [102],Qu, .str [97], .str [98],QV k]:=aF.cons (View.pure PU.pure) (aF.cons (afw (b:=b) (by simp [af.of,Lb])) (aF.pure H3.pure))
theorem Wi:VP Tryz.prog G 5 [] (.bool true):=by
 let S:List (VL.Id × da):=[Lb [5] true,([24],⟨[.str [97]],1,false⟩)]
 have hO:aF (af.of S) [.str [103], .osl [5] 15 0 2 false, .osl [24] 1 0 1 false,QV 2] [.str [103],Qu,st1 [97],QV 2]:=aF.cons (View.pure PU.pure) (aF.cons (afw (b:=true) (by simp [af.of,Lb,S])) (aF.cons (vS1 (by simp [af.of,S,Lb,List.lookup])) (aF.pure H3.pure)))
 let T:List (VL.Id × da):=[([44],⟨[qO [97] (sg (1,0) (4,0)),qO [98] (sg (0,1) (0,4)),x1],15,false⟩)]
 have hT:aF (af.of T) [w1, .osl [44] 15 0 3 false] [w1,w1]:=aF.cons (View.pure PU.pure) (aF.cons (vO (by simp [af.of,T]) rfl (by intro e he;simp at he;rcases he with rfl | rfl | rfl<;>rfl) (by intro e he;simp at he;rcases he with rfl | rfl | rfl;exact dx;exact dx;exact rW)) aF.nil)
 have hU:aF (af.of [([71],⟨[x2],15,false⟩)]) [.sl 15 [x2], .osl [71] 15 0 1 false] [.sl 15 [x2], .sl 15 [x2]]:=aF.cons (View.pure PU.pure) (aF.cons (vX (by simp [af.of]) vq rfl) aF.nil)
 exact VP.tr ub [hc (Wh G 0 0 4 0 (0,0) (4,0) (SH G 0 0 _) (SH G 4 0 _)),hc (Wh G 0 0 0 4 (0,0) (0,4) (SH G 0 0 _) (SH G 0 4 _)),hc (kI G 1 1),lF [Lb [5] false] (aF1 G) (hvF [5] false 1),hc (kI G 4 4),lF [Lb [5] true] (aF4 G) (hvF [5] true 4),hc (kI G 2 2),lF S (aO G) hO,
   hc (SH G 1 0 (1,0)),hc (SH G 0 1 (0,1)),hc (SH G 1 1 (1,1)),hc (Wh G 1 0 4 0 (1,0) (4,0) (SH G 1 0 _) (SH G 4 0 _)),hc (Wh G 0 1 0 4 (0,1) (0,4) (SH G 0 1 _) (SH G 0 4 _)),lF T (acg G) hT,hc (Wh G 0 2 4 2 (0,2) (4,2) (SH G 0 2 _) (SH G 4 2 _)),lF [([71],⟨[x2],15,false⟩)] (ach G) hU] (by kernel_rfl)
end
end Go.Proofs.YtchdghnpcekegaaGreatDoor
end

section
namespace Go.VL
section
variable {H:Type} {enc:TypeId × Value->H} {P:Program} {w:World} {spare:Nat->Bool} {held:Bool}
def sV (w:World):Env:=⟨fun _=>none,fun b=>b<w.heap.size⟩
theorem Ax {α β : Type} {f : α -> β} {Q : α -> Prop}:∀ {es:List β},(∀ c∈es,∃ x,c=f x/\Q x)->∃ l:List α,es=l.map f/\∀ x∈l,Q x
 | [],_=>⟨[],rfl,by simp⟩
 | c::es,h=>by
   obtain ⟨x,hx,hq⟩:=h c (by simp)
   obtain ⟨l,hl,hql⟩:=Ax (es:=es) fun y hy=>h y (by simp [hy])
   exact ⟨x::l,by rw [hx,hl];rfl,by intro y hy;rcases List.mem_cons.1 hy with rfl | hy;exact hq;exact hql y hy⟩
theorem Y0 {t e:TypeId} {fuel k:Nat} {cs:List Value} {x:DataW H × List MemPlace} (ht:P.underlying t=some (.slice e)) (hk:P.cellsOf e=k) (QI:0<k) (h:DataW.trod enc P w 0 spare held fuel t cs=some x) (Good:AV->Prop)
   (F:∀ n CZ y,fuel=n+1->DataW.trod enc P w 0 spare held n e CZ=some y->∃ c:AV,Good c/\c.size=k/\bd (sV w) w c.cells CZ) :
   ∃ (es:List AV) (v:Value),cs=[v]/\aT (sV w) w (.sl k es) v/\(∀ c∈es,Good c)/\es.length<=maxLen:=by
 rcases DataW.trod_slice ht h with ⟨rfl,rfl⟩ | ⟨a,len,cap,elems,rest,n,hfu,rfl,rfl,_,hl,hm,hlen,Bj,_,_⟩
 . exact ⟨[],_,rfl,by simp only [aT];exact ⟨none,0,rfl,Nat.le_refl _,Nat.zero_le _,by simp, .inl trivial⟩,by simp,Nat.zero_le _⟩
 have hC:∀ i,i<len->∃ c:AV,Good c/\c.size=k/\∃ CZ,w.cells? 0 (a.add (i*k)) k=some CZ/\bd (sV w) w c.cells CZ:=by
   intro i hi
   have h1:=Bj i hi
   rw [List.getElem?_eq_getElem (by omega),hk] at h1
   obtain ⟨CZ,h2,h3⟩:=Option.bind_eq_some_iff.1 h1
   obtain ⟨c,hg,hs,hr⟩:=F n CZ _ hfu h3
   exact ⟨c,hg,hs,CZ,h2,hr⟩
 have hC':∀ i:_root_.Fin len,∃ c:AV,Good c/\c.size=k/\∃ CZ,w.cells? 0 (a.add (i.1*k)) k=some CZ/\bd (sV w) w c.cells CZ:=fun i=>hC i.1 i.2
 let C:_root_.Fin len->AV:=fun i=>(hC' i).choose
 have hCs:∀ i,Good (C i)/\(C i).size=k/\∃ CZ,w.cells? 0 (a.add (i.1*k)) k=some CZ/\bd (sV w) w (C i).cells CZ:=fun i=>(hC' i).choose_spec
 have hsz:∀ c∈List.ofFn C,c.size=k:=by intro c hc;obtain ⟨i,rfl⟩:=List.mem_ofFn.1 hc;exact (hCs i).2.1
 refine ⟨List.ofFn C,_,rfl, ?_,by intro c hc;obtain ⟨i,rfl⟩:=List.mem_ofFn.1 hc;exact (hCs i).1,by rw [List.length_ofFn];omega⟩
 simp only [aT]
 refine ⟨some a,cap,by rw [List.length_ofFn],by rw [List.length_ofFn];exact hl,hm,hsz, ?_⟩
 by_cases h0:len=0
 . left;exact List.length_eq_zero_iff.1 (by rw [List.length_ofFn];exact h0)
 right
 have hcell:∀ (i:_root_.Fin len) (r:Nat) (c:AV),(C i).cells[r]? = some c->∃ v,w.cell? ((a.add (i.1*k)).add r)=some v/\aT (sV w) w c v:=by
   intro i r c hc
   obtain ⟨_,hs,CZ,h1,h2⟩:=hCs i
   obtain ⟨QG,hp⟩:=bI.1 h2
   obtain ⟨v,hv,FG⟩:=hp r c hc
   refine ⟨v, ?_,FG⟩
   have hrk:r<k:=by have:=(List.getElem?_eq_some_iff.1 hc).1;rw [<- hs];exact this
   rw [(World.cells?_some h1).2.2 r hrk,hv]
 obtain ⟨b,o,spot⟩:=a
 have hz:0<len:=Nat.pos_of_ne_zero h0
 obtain ⟨c0,WO⟩:∃ c,(C ⟨0,hz⟩).cells[0]? = some c:=⟨_,List.getElem?_eq_getElem (by have:=(hCs ⟨0,hz⟩).2.1;unfold AV.size at this;omega)⟩
 obtain ⟨v0,hv0,_⟩:=hcell ⟨0,hz⟩ 0 c0 WO
 have afx:((⟨b,o,spot⟩:Addr).add (0*k)).add 0=⟨b,o,spot⟩:=by simp [Addr.add]
 have afy:w.cell? ⟨b,o,spot⟩=some v0:=by rw [<- afx];exact hv0
 have hsp:spot=none:=World.cell?_spot afy
 subst hsp
 refine ⟨b,o,rfl,World.block_lt_of_cell? _ _ afy,dI.2 ?_⟩
 intro j c hj
 have yd:j<(flat (List.ofFn C)).length:=(List.getElem?_eq_some_iff.1 hj).1
 rw [cC hsz,List.length_ofFn] at yd
 have NU:j/k<len:=(Nat.div_lt_iff_lt_mul QI).2 yd
 have hjr:j%k<k:=Nat.mod_lt _ QI
 have ai8:(List.ofFn C)[j/k]? = some (C ⟨j/k,NU⟩):=by rw [List.getElem?_ofFn,dif_pos NU]
 have FB:=flat_get hsz ai8 hjr
 have hjj:j/k*k+j%k=j:=by rw [Nat.mul_comm];exact Nat.div_add_mod j k
 rw [hjj,hj] at FB
 obtain ⟨v,hv,hr⟩:=hcell ⟨j/k,NU⟩ (j%k) c FB.symm
 refine ⟨v, ?_,hr⟩
 have ai9:((⟨b,o,none⟩:Addr).add (j/k*k)).add (j%k)=⟨b,o+j,none⟩:=by
   have h1:∀ (o n:Nat),(⟨b,o,none⟩:Addr).add n=⟨b,o+n,none⟩:=fun o n=>by unfold Addr.add;split<;>simp_all
   rw [h1,h1,Nat.add_assoc,hjj]
 rw [<- ai9];exact hv
end
end Go.VL
end

section
set_option maxRecDepth 100000
namespace Go.Proofs.YtchdghnpcekegaaGreatDoor
open Go.VL
section
variable {H:Type} {enc:TypeId × Value->H} {w:World} {spare:Nat->Bool} {held:Bool} {fuel:Nat} {cs:List Value} {x:DataW H × List MemPlace}
theorem Qv (h:DataW.trod enc Tryz.prog w 0 spare held fuel 4 cs=some x):∃ b:Bool,bd (sV w) w [.bool b] cs:=by
 obtain ⟨b,rfl,_⟩:=DataW.trod_bool Tryz.underlying4 h
 exact ⟨b,by simp [bd,aT]⟩
theorem Qw (h:DataW.trod enc Tryz.prog w 0 spare held fuel 5 cs=some x):∃ n:Nat,n<256/\bd (sV w) w [.int .u8 (n:Int)] cs:=by
 obtain ⟨n,rfl,_,hw⟩:=DataW.trod_int Tryz.underlying5 h
 have hb:=bounds_u8 hw
 obtain ⟨m,rfl⟩:=Int.eq_ofNat_of_zero_le hb.1
 exact ⟨m,by omega,by simp [bd,aT]⟩
theorem aal (h:DataW.trod enc Tryz.prog w 0 spare held fuel 24 cs=some x):∃ n:Int,(-128<=n/\n<128)/\bd (sV w) w [.int .i8 n] cs:=by
 obtain ⟨n,rfl,_,hw⟩:=DataW.trod_int Tryz.underlying24 h
 exact ⟨n,by have:=bounds_i8 hw;omega,by simp [bd,aT]⟩
theorem c8:Tryz.prog.cellsOf 24=1:=by kernel_rfl
theorem c4:Tryz.prog.cellsOf 4=1:=by kernel_rfl
theorem c5:Tryz.prog.cellsOf 5=1:=by kernel_rfl
theorem c98:Tryz.prog.cellsOf 98=2:=by kernel_rfl
theorem afz:Tryz.prog.cellsOf 100=8:=by kernel_rfl
theorem aam (h:DataW.trod enc Tryz.prog w 0 spare held fuel 98 cs=some x):∃ a:Int × Int,ok8 a/\bd (sV w) w [.int .i8 a.1, .int .i8 a.2] cs:=by
 obtain ⟨xs,n,_,_,hl,hxl,hf⟩:=DataW.trod_array Tryz.underlying98 h
 rw [c98] at hl
 match cs,hl with
 | [a,b],_ =>
   have f0:=hf 0 (by decide)
   have f1:=hf 1 (by decide)
   rw [List.getElem?_eq_getElem (by omega)] at f0 f1
   simp only [c8,Nat.zero_mul,Nat.one_mul,List.drop_zero,List.drop_succ_cons,List.take_succ_cons,List.take_zero] at f0 f1
   obtain ⟨i,hi,W7⟩:=aal f0
   obtain ⟨j,hj,hrj⟩:=aal f1
   exact ⟨(i,j),⟨hi.1,hi.2,hj.1,hj.2⟩,bd.append (xs:=[.int .i8 i]) (us:=[a]) W7 hrj⟩
theorem Wj (h:DataW.trod enc Tryz.prog w 0 spare held fuel 100 cs=some x):∃ d:DX,d.Ok/\bd (sV w) w d.av.cells cs:=by
 obtain ⟨xs,n,_,_,hl,hxl,hf⟩:=DataW.trod_struct Tryz.underlying100 h
 rw [afz] at hl
 have hxs:xs.length=6:=hxl
 match cs,hl with
 | [c0,c1,c2,c3,c4',c5',c6,c7],_ =>
   have f0:DataW.trod enc Tryz.prog w 0 spare held n 4 (List.take (Tryz.prog.cellsOf 4) (List.drop 0 [c0,c1,c2,c3,c4',c5',c6,c7]))=xs[0]? := hf 0 _ rfl
   have f1:DataW.trod enc Tryz.prog w 0 spare held n 4 (List.take (Tryz.prog.cellsOf 4) (List.drop 1 [c0,c1,c2,c3,c4',c5',c6,c7]))=xs[1]? := hf 1 _ rfl
   have f2:DataW.trod enc Tryz.prog w 0 spare held n 98 (List.take (Tryz.prog.cellsOf 98) (List.drop 2 [c0,c1,c2,c3,c4',c5',c6,c7]))=xs[2]? := hf 2 _ rfl
   have f3:DataW.trod enc Tryz.prog w 0 spare held n 98 (List.take (Tryz.prog.cellsOf 98) (List.drop 4 [c0,c1,c2,c3,c4',c5',c6,c7]))=xs[3]? := hf 3 _ rfl
   have f4:DataW.trod enc Tryz.prog w 0 spare held n 5 (List.take (Tryz.prog.cellsOf 5) (List.drop 6 [c0,c1,c2,c3,c4',c5',c6,c7]))=xs[4]? := hf 4 _ rfl
   have f5:DataW.trod enc Tryz.prog w 0 spare held n 5 (List.take (Tryz.prog.cellsOf 5) (List.drop 7 [c0,c1,c2,c3,c4',c5',c6,c7]))=xs[5]? := hf 5 _ rfl
   rw [List.getElem?_eq_getElem (by omega)] at f0 f1 f2 f3 f4 f5
   simp only [c4,c5,c98,List.drop_zero,List.drop_succ_cons,List.take_succ_cons,List.take_zero] at f0 f1 f2 f3 f4 f5
   obtain ⟨a,ha⟩:=Qv f0
   obtain ⟨b,hb⟩:=Qv f1
   obtain ⟨p,hp,Zb⟩:=aam f2
   obtain ⟨q,hq,KH⟩:=aam f3
   obtain ⟨s,hs,hsr⟩:=Qw f4
   obtain ⟨u,hu,hur⟩:=Qw f5
   refine ⟨⟨a,b,p,q,s,u⟩,⟨hp,hq,hs,hu⟩, ?_⟩
   show bd (sV w) w [.bool a, .bool b, .int .i8 p.1, .int .i8 p.2, .int .i8 q.1, .int .i8 q.2, .int .u8 (s:Int), .int .u8 (u:Int)] _
   exact bd.append (xs:=[.bool a]) (us:=[c0]) ha (bd.append (xs:=[.bool b]) (us:=[c1]) hb (bd.append (xs:=[.int .i8 p.1, .int .i8 p.2]) (us:=[c2,c3]) Zb (bd.append (xs:=[.int .i8 q.1, .int .i8 q.2]) (us:=[c4',c5']) KH (bd.append (xs:=[.int .u8 (s:Int)]) (us:=[c6]) hsr hur))))
theorem SI (h:DataW.trod enc Tryz.prog w 0 spare held fuel 22 cs=some x):∃ l:List DX,(∀ d∈l,d.Ok)/\bd (sV w) w [Ft l] cs:=by
 obtain ⟨es,v,rfl,hr,hg,hl⟩:=Y0 (k:=8) Tryz.underlying22 afz (by decide) h (fun c=>∃ d:DX,c=d.av/\d.Ok) (fun n CZ y _ hy=>by
   obtain ⟨d,h1,h2⟩:=Wj hy
   exact ⟨d.av,⟨d,rfl,h1⟩,rfl,h2⟩)
 obtain ⟨l,rfl,hw⟩:=Ax hg
 exact ⟨l,hw,by simp only [bd];exact ⟨v,[],rfl,hr,rfl⟩⟩
end
end Go.Proofs.YtchdghnpcekegaaGreatDoor
end

section
namespace Go.VL
def mv (q q2 i:Id):Id:=if i=q then q2 else i
theorem M4 {q q2:Id}:mv q q2 q=q2:=if_pos rfl
theorem afA {q q2 i:Id} (h:i≠q):mv q q2 i=i:=if_neg h
section
variable {P:Program} {G:Nat->Option (List AV)}
theorem Wk.move {π q:Id} {t:List AV} {σ σ':af} {n m:Nat} (qU:n<=m)
   (hs:∀ j, σ' j=none∨∃ i b, σ i=some b/\mv q (m :: π) i=j /\ σ' j=some (b.dz (mv q (m :: π)))):Wk G π ⟨t, σ,n⟩ ⟨b8 (mv q (m :: π)) t, σ',m+1⟩:=fun own E w a hm=>by
 obtain ⟨Hp,hi,pS,abJ⟩:=hm
 have h0:E.μ (m :: π)=none:=(pS.mono qU).at (Nat.le_refl _) (List.suffix_refl _)
 let E':Env:=⟨fun j=>if j=m :: π then E.μ q else E.μ j,E.ok⟩
 have hold:∀ i,i≠m :: π -> E'.μ i=E.μ i:=fun i h=>if_neg h
 have aan:∀ i x,E.μ i=some x->E'.μ i=some x:=fun i x h=>(hold i fun e=>by rw [e,h0] at h;cases h).trans h
 have hμ : ∀ i x,E.μ i=some x->E'.μ (mv q (m :: π) i)=some x:=fun i x h=>by
   by_cases e:i=q
   . subst e;rw [M4];exact (if_pos rfl).trans h
   . rw [afA e];exact aan i x h
 have gD:Adv own E E' w w:=⟨⟨aan,fun b hb=>hb,fun b hb=>rfl⟩,rfl,rfl,rfl,Nat.le_refl _,fun k hk _=>rfl,fun b hb => .inl hb⟩
 refine ⟨E',⟨gD,fun i pM=>hold i fun e=>pM (by rw [e];exact List.suffix_cons _ _)⟩,⟨bd.dz (E:=E) (E':=E') hμ (fun _ h=>h) _ _ Hp,⟨hi.okb,fun j bk hj => ?_,fun j j' x y hj hj' hne hx hy => ?_,hi.glob,hi.new⟩,fun j hj hq => ?_,abJ⟩⟩
 . have hj : σ' j=some bk:=hj
   rcases hs j with h1 | ⟨i,b,h1,h2,h3⟩
   . rw [h1] at hj;cases hj
   . rw [h3] at hj
     simp only [Option.some.injEq] at hj
     subst hj;subst h2
     obtain ⟨g,N,cur,ty,hB⟩:=hi.blk i b h1
     refine ⟨g,N,cur,ty,hμ _ _ hB.μ,hB.heap,hB.size, ?_,hB.most,hB.own,hB.ok,hB.no,zQ hB.k, ?_⟩
     . rw [show (b.dz (mv q (m :: π))).els.length=b.els.length from gJ];exact hB.len
     . rw [show (b.dz (mv q (m :: π))).els=b8 (mv q (m :: π)) b.els from rfl,CM]
       exact eH.dz hμ (fun b hb=>hb) hB.row
 . have O0:∀ k b, σ k=some b->Y5 E own w k b:=fun k b h=>hi.blk k b h
   obtain ⟨i,b,h1,h2,_⟩:=(hs j).resolve_left hj
   obtain ⟨i',b',h1',Y7,_⟩:=(hs j').resolve_left hj'
   obtain ⟨g,N,cur,ty,hB⟩:=hi.blk i b h1
   obtain ⟨g',N',KB,Ng,H8⟩:=hi.blk i' b' h1'
   have e:=hμ _ _ hB.μ;have e':=hμ _ _ H8.μ
   rw [h2,hx] at e;rw [Y7,hy] at e'
   refine hi.inj i i' x y (by show σ i≠none;rw [h1];simp) (by show σ i'≠none;rw [h1'];simp) ?_ (by rw [hB.μ,e]) (by rw [H8.μ,e'])
   rintro rfl
   exact hne (h2.symm.trans Y7)
 . have hj0:j≠m :: π := fun e=>hq m (Nat.lt_succ_self _) (e▸List.suffix_refl _)
   exact (hold j hj0).trans (pS.mono qU j hj fun k hk=>hq k (Nat.lt_succ_of_lt hk))
theorem Wk.aao {π q:Id} {t:List AV} {K:List (Id × da)} {n m:Nat} (qU:n<=m) (hd:(K.map (·.1)).Nodup):Wk G π ⟨t,af.of K,n⟩ ⟨b8 (mv q (m :: π)) t,af.of (vn (mv q (m :: π)) K),m+1⟩ :=
 Wk.move qU fun j=>by
   cases h:(vn (mv q (m :: π)) K).lookup j with
   | none=>exact .inl h
   | some b =>
     right
     obtain ⟨z,hz,ez⟩:=List.mem_map.1 (gw h)
     simp only [Prod.mk.injEq] at ez
     exact ⟨z.1,z.2,oY hd hz,ez.1,by rw [ez.2];exact h⟩
theorem Fg.same:∀ t:List AV,Fg t t
 | []=>trivial
 | _::cs=>⟨.inr rfl,Fg.same cs⟩
theorem Wk.toT {π : Id} {s:VS} {t:List AV} {K:List (Id × da)} {n:Nat} (hd:(K.map (·.1)).Nodup) (h:Wk G π s ⟨t,af.of K,n⟩):Wk G π s ⟨t,cA.to (H4 K),n⟩ :=
 h.trans (Wk.forget (Fg.same t) (fun j=>by
   cases hj:cA.to (H4 K) j with
   | none=>exact .inl rfl
   | some b=>right;exact (oY hd (CR hj)).symm) (Nat.le_refl n))
end
end Go.VL
end

section
set_option linter.unusedSimpArgs false
set_option linter.unusedVariables false
set_option maxRecDepth 100000
namespace Go.VL
open Go.Lib
abbrev ack (fd:Nat):cg:=(.seq (cS [oM 13 7,oM 14 4,oN 15 14,oT 16 .lss 13 15] (.cond (.t 16) .skip (.exit 0))) (.seq (.block 1 (.reg (some [(2,7)]) [oM 19 6,oM 20 7,oC 21 fd 20,⟨some 22,.bin .add .str (.c (.str [107,47])) (.t 21),none⟩,oM 23 4,oM 24 7,oA 25 14 23 24,aQ 26 14 25,⟨some 27,.build [(.str []),(.bool false),.nils,.nils,.nils,.nils,.nils,.nils,.nils,.nils,.nils,.nils,.nils,.nils,(.bool false)] [(0,(1,(.t 22))),(1,(14,(.t 26)))],none⟩,⟨some 28,.buildSl 15 1 (.agg [(.str []),(.bool false),.nils,.nils,.nils,.nils,.nils,.nils,.nils,.nils,.nils,.nils,.nils,.nils,(.bool false)]) [(0,(.t 27))],none⟩,zF 29 15 320 19 28,oM 6 29])) (cR [oM 17 7,bp 18 .add 17 1,oM 7 18])))
theorem OK {cs:List CX} {i:Nat} {x:CX} (h:cs[i]? = some x):named (cs.take (i+1))=named (cs.take i)++[⟨[107,47]++decDigits i,x⟩]:=by
 have hlt:i<cs.length:=(List.getElem?_eq_some_iff.1 h).1
 unfold named
 rw [List.take_add_one,h]
 simp [List.mapIdx_append,List.length_take,Nat.min_eq_left (Nat.le_of_lt hlt)]
def SJ (ds:List DX) (cs:List CX) (i:Nat) (o:AV):List AV:=[Ft ds, .top, .top, .top,My cs, .bool true,o, .int .i64 (i:Int)]++List.replicate 24 .top
theorem xr {ρ : Id->Id} {ds:List DX} {cs:List CX} {i:Nat} {o:AV}:b8 ρ (SJ ds cs i o)=SJ ds cs i (o.dz ρ):=by
 unfold SJ
 simp only [mB,nT,rV,CS,PU.fixed,Fw]
def liK (q:Nat):Nat->Id:=fun _=>[q,0]
section
variable {P:Program} {G:Nat->Option (List AV)}
theorem SK {fd:FuncId} (ds:List DX) (cs:List CX) (h0:cs≠[]) (hl:cs.length<=6) (hD:∀ n:Nat,n<1000->VP P G fd [.int .i64 (n:Int)] (.str (decDigits n))) :
   VW P G [0] (.loop (ack fd)) (fun e s=>e = .exit 0/\Wk G [0] s ⟨SJ ds cs cs.length (.osl [9999,0] 15 0 (named cs).length false),cA.to (H4 [([9999,0],⟨(named cs).map NX.av,15,false⟩)]),10000⟩) ⟨SJ ds cs 0 .nils,af.of [],1000⟩:=by
 refine VW.L3 (α := Nat × Nat) (fun z=>⟨SJ ds cs z.1 (OL [z.2,0] 15 ((named (cs.take z.1)).map NX.av)),af.of (BL [z.2,0] (named (cs.take z.1))),1000+19*z.1⟩)
   (fun z=>z.1<=cs.length) (fun z=>cs.length-z.1) (0,0) (Wk.refl _ _ _) (Nat.zero_le _) ?_
 rintro ⟨i,q⟩ hi
 simp only [] at hi ⊢
 generalize Jw:1000+19*i=m at *
 by_cases hlt:i<cs.length
 . obtain ⟨x,hx⟩:∃ x,cs[i]? = some x:=⟨cs[i],by simp [hlt]⟩
   have d:decide ((i:Int)<((cs.map CX.av).length:Int))=true:=aw (by simpa using hlt)
   have hv:=hD i (by omega)
   have Bm:=OK hx
   have On:bM .add .str (.str [107,47]) (.str (decDigits i))=some (.str ([107,47]++decDigits i)):=jt (by rw [nc (by omega)];simp)
   have Yn:=aI i (by omega)
   have hg:=Kj hx
   have hLl:(named (cs.take i)).length<=6:=by simp [named];omega
   have Yy:m+19=1000+19*(i+1):=by omega
   generalize ([107,47]++decDigits i)=nm at *
   generalize named (cs.take i)=L at *
   by_cases Be:L=[]
   . subst Be
     have a1:∀ (σ : af) (p:Id),(∀ y∈[([13,0],(⟨[NX.av ⟨nm,x⟩],15,false⟩:da))], σ y.1=some y.2)->bU σ p (.append 15 320 .nils (.osl [13,0] 15 0 1 false))=some { val := .osl p 15 0 1 false,rd:=[[13,0]],up:=[(p,some ⟨[NX.av ⟨nm,x⟩],15,false⟩)] } :=
       fun σ p hσ => zl (hσ ([13,0],⟨[NX.av ⟨nm,x⟩],15,false⟩) (by simp)) (by decide) (of_eq_true (kC _))
     refine VW.tr (π := [0]) (n:=m) (liK q) [hb 16 d,hc hv,ho 22 On,ho 25 hg, .st 29 _ _ _ a1,hw 18 Yn]
       (SJ ds cs i .nils) [] .normal (SJ ds cs (i+1) (.osl [14,0] 15 0 1 false)) [([14,0],⟨[NX.av ⟨nm,x⟩],15,false⟩)] 19 (by kernel_rfl)
       xr rfl xr (by simp only [cO,dO,eQ,nT,rV,PU.fixed];rfl) (by simp [BL]) fun s hw => ?_
     exact ⟨(i+1,m+14),hlt,by simp only [];omega,by simp only [Bm, <- Yy];exact hw⟩
   . rw [Hm Be,CT Be]
     have hL1:L++[(⟨nm,x⟩:NX)]≠[]:=by simp
     have vE:((L.map NX.av).all fun e=>e.cells.all AV.one)=true:=mK kC L
     have a1:∀ (σ : af) (p:Id),(∀ y∈[([13,0],(⟨[NX.av ⟨nm,x⟩],15,false⟩:da)),([1],⟨L.map NX.av,15,false⟩)], σ y.1=some y.2)->bU σ p (.append 15 320 (.osl [1] 15 0 L.length false) (.osl [13,0] 15 0 1 false))=some { val := .osl p 15 0 (L++[(⟨nm,x⟩:NX)]).length false,rd:=[[1],[13,0]],up:=[([1],none),(p,some ⟨(L++[(⟨nm,x⟩:NX)]).map NX.av,15,false⟩)] } :=
       fun σ p hσ => by
         have:=CK (σ := σ) (p:=p) (bytes:=320) (t:=false) (hσ ([13,0],⟨[NX.av ⟨nm,x⟩],15,false⟩) (by simp)) (hσ ([1],⟨L.map NX.av,15,false⟩) (by simp)) (by simp;omega) (by decide) (of_eq_true (kC _)) vE
         have e:(L++[(⟨nm,x⟩:NX)]).map NX.av=L.map NX.av++[NX.av ⟨nm,x⟩]:=by simp
         have e':(L++[(⟨nm,x⟩:NX)]).length=(L.map NX.av).length+1:=by simp
         rw [e,e']
         have e2:L.length=(L.map NX.av).length:=by simp
         rw [e2];exact this
     refine VW.tr (π := [0]) (n:=m) (liK q) [hb 16 d,hc hv,ho 22 On,ho 25 hg, .st 29 _ _ _ a1,hw 18 Yn]
       (SJ ds cs i (.osl [1] 15 0 L.length false)) [([1],⟨L.map NX.av,15,false⟩)] .normal (SJ ds cs (i+1) (.osl [14,0] 15 0 (L++[(⟨nm,x⟩:NX)]).length false)) [([14,0],⟨(L++[(⟨nm,x⟩:NX)]).map NX.av,15,false⟩)] 19 (by kernel_rfl)
       xr (by simp only [cO,dO,eQ,fE];rfl) xr (by simp only [cO,dO,eQ,fE];rfl) (by simp) fun s hw => ?_
     exact ⟨(i+1,m+14),hlt,by simp only [];omega,by simp only [Bm,Hm hL1,CT hL1, <- Yy];exact hw⟩
 . have hcc:i=cs.length:=by omega
   subst hcc
   have d:decide (((cs.length:Nat):Int)<((cs.map CX.av).length:Int))=false:=ar (by simp)
   have Be:named cs≠[]:=by unfold named;intro e;exact h0 (by simpa using e)
   have VJ:m+4<=9999:=by omega
   rw [List.take_length]
   generalize named cs=L at *
   rw [Hm Be,CT Be]
   refine VW.tr (π := [0]) (n:=m) (liK q) [hb 16 d] (SJ ds cs cs.length (.osl [1] 15 0 L.length false)) [([1],⟨L.map NX.av,15,false⟩)] (.exit 0) (SJ ds cs cs.length (.osl [1] 15 0 L.length false)) [([1],⟨L.map NX.av,15,false⟩)] 4 (by kernel_rfl)
     xr (by simp only [cO,dO,eQ,fE];rfl) xr (by simp only [cO,dO,eQ,fE];rfl) (by simp) fun s hw=>⟨rfl, ?_⟩
   have hq:mC m [0] (liK q) [1]=[q,0]:=rfl
   have HX:=Wk.aao (G:=G) (π := [0]) (q:=[q,0]) (t:=SJ ds cs cs.length (.osl [q,0] 15 0 L.length false)) (K:=[([q,0],⟨L.map NX.av,15,false⟩)]) (n:=m+4) (m:=9999) VJ (by simp)
   rw [xr,Qk,M4,cO,dO,eQ,fE] at HX
   simp only [M4] at HX
   exact Wk.toT (by simp) (hw.trans HX)
theorem OM {f fc fd:FuncId} (h:Has P f (iA fc fd)) (ds:List DX) (cs:List CX) (h0:cs≠[]) (hl:cs.length<=6) (hc':VP P G fc [Ft ds, .int .i64 6] (.tup [My cs, .bool true])) (hD:∀ n:Nat,n<1000->VP P G fd [.int .i64 (n:Int)] (.str (decDigits n))) (p:Id) :
   aW P G f [Ft ds] p [] { val := .tup [.osl (9999::p) 15 0 (named cs).length false, .bool true],rd:=[],up:=[(9999::p,some ⟨(named cs).map NX.av,15,false⟩)] } :=
 aW.tr (up:=[(9999::p,⟨(named cs).map NX.av,15,false⟩)]) (p:=p) h (fun _=>[]) [hc hc', .lp [0] _ _ _ _ _ _ _ _ (SK (fd:=fd) ds cs h0 hl hD)] [Ft ds] [] (.tup [.osl [9999,0] 15 0 (named cs).length false, .bool true]) [([9999,0],⟨(named cs).map NX.av,15,false⟩)] (by kernel_rfl) (by rw [H3.fix]) rfl rfl (by simp only [cO,dO,eQ,fE];rfl) (by simp) (by simp)
end
end Go.VL
end

section
set_option linter.unusedSimpArgs false
set_option linter.unusedVariables false
set_option maxRecDepth 100000
namespace Go.VL
open Go.Lib
abbrev Y1 (fd:Nat):cg:=(.seq (cS [oM 29 7,oN 30 29,bp 31 .lss 30 160] (.cond (.t 31) .skip (.exit 0))) (.block 1 (.reg (some [(3,8)]) [oM 32 7,oM 33 7,oN 34 33,oC 35 fd 34,⟨some 36,.bin .add .str (.c (.str [120,47])) (.t 35),none⟩,oM 37 7,⟨some 38,.iaddrS 15 (.t 37) (.c (.int .i64 0)),none⟩,oF 39 1 38,aQ 40 14 39,⟨some 41,.build [(.str []),(.bool false),.nils,.nils,.nils,.nils,.nils,.nils,.nils,.nils,.nils,.nils,.nils,.nils,(.bool false)] [(0,(1,(.t 36))),(1,(14,(.t 40)))],none⟩,⟨some 42,.buildSl 15 1 (.agg [(.str []),(.bool false),.nils,.nils,.nils,.nils,.nils,.nils,.nils,.nils,.nils,.nils,.nils,.nils,(.bool false)]) [(0,(.t 41))],none⟩,zF 43 15 320 32 42,oM 7 43])))
abbrev Y2:cg:=(cS [oT 50 .lss 49 48] (.seq (.cond (.t 50) .skip (.exit 2)) (.seq (.block 3 (cS [oM 51 49,oM 10 51] (cR [oM 52 9,oM 53 10,oA 54 1 52 53,⟨none,.store 1 (.t 54) (.c (.int .u8 121)),none⟩]))) (cR [bp 55 .add 49 1,oM 49 55]))))
def M5 (z:NX) (tl:List NX):Nat->List NX
 | 0=>tl
 | k+1=>M5 z tl k++[⟨[120,47]++decDigits (tl.length+k+1),z.c⟩]
theorem Fx {z:NX} {tl:List NX}:∀ k,(M5 z tl k).length=tl.length+k
 | 0=>rfl
 | k+1=>by rw [M5,List.length_append,Fx k];simp;omega
def Wl (ds:List DX) (lg n:Int) (c:Int) (o:AV):List AV:=[Ft ds, .int .u8 lg, .int .u8 n]++List.replicate 4 .top++[o]++List.replicate 101 .top
theorem CU {ρ : Id->Id} {ds:List DX} {lg n c:Int} {o:AV}:b8 ρ (Wl ds lg n c o)=Wl ds lg n c (o.dz ρ):=by
 unfold Wl
 simp only [mB,nT,rV,CS,PU.fixed,Fw]
def lmK (q:Id):Nat->Id:=fun _=>q
theorem vt {q:Id} {k len i:Nat} {t:Bool} (h:i<len):cn k (.osl q k 0 len t) (.int .i64 (i:Int))=some (.ref q i 0):=by
 simp only [cn]
 rw [if_pos ⟨trivial,by omega,by omega⟩]
 simp
section
variable {P:Program} {G:Nat->Option (List AV)}
theorem OO {fd:FuncId} (ds:List DX) (lg n:Int) (z:NX) (tl:List NX) (hl:tl.length<=150) (hD:∀ n:Nat,n<1000->VP P G fd [.int .i64 (n:Int)] (.str (decDigits n))) :
   VW P G [] (.loop (Y1 fd)) (fun e s=>e = .exit 0/\Wk G [] s ⟨Wl ds lg n 0 (.osl [9999] 15 0 (z::M5 z tl (159-tl.length)).length false),cA.to (H4 [([9999],⟨(z::M5 z tl (159-tl.length)).map NX.av,15,false⟩)]),10000⟩) ⟨Wl ds lg n 0 (.osl [9999,4] 15 0 (z::tl).length false),af.of [([9999,4],⟨(z::tl).map NX.av,15,false⟩)],1000⟩:=by
 refine VW.L3 (α := Nat × Id) (fun y=>⟨Wl ds lg n 0 (.osl y.2 15 0 (z::M5 z tl y.1).length false),af.of [(y.2,⟨(z::M5 z tl y.1).map NX.av,15,false⟩)],1000+16*y.1⟩)
   (fun y=>y.1<=159-tl.length) (fun y=>159-tl.length-y.1) (0,[9999,4]) (Wk.refl _ _ _) (Nat.zero_le _) ?_
 rintro ⟨i,q⟩ hi
 simp only [] at hi ⊢
 generalize Jw:1000+16*i=m at *
 have hlen:=Fx (z:=z) (tl:=tl) i
 by_cases hlt:i<159-tl.length
 . have Bm:M5 z tl (i+1)=M5 z tl i++[⟨[120,47]++decDigits (tl.length+i+1),z.c⟩]:=rfl
   have hv:=hD (tl.length+i+1) (by omega)
   have On:bM .add .str (.str [120,47]) (.str (decDigits (tl.length+i+1)))=some (.str ([120,47]++decDigits (tl.length+i+1))):=jt (by have:=D3 (i:=tl.length+i+1) (by omega);simp;omega)
   have Yy:m+16=1000+16*(i+1):=by omega
   have h3:(((M5 z tl i).length+1:Nat):Int)=((tl.length+i+1:Nat):Int):=by rw [hlen]
   generalize ([120,47]++decDigits (tl.length+i+1))=nm at *
   generalize M5 z tl i=L at *
   have d:decide (((L.length+1:Nat):Int)<160)=true:=aw (by omega)
   have hg:cn 15 (.osl [1] 15 0 (L.length+1) false) (.int .i64 0)=some (.ref [1] 0 0):=vt (i:=0) (by omega)
   have vE:(((z::L).map NX.av).all fun e=>e.cells.all AV.one)=true:=mK kC (z::L)
   have a1:∀ (σ : af) (p:Id),(∀ y∈[([13,0],(⟨[NX.av ⟨nm,z.c⟩],15,false⟩:da)),([1],⟨(z::L).map NX.av,15,false⟩)], σ y.1=some y.2)->bU σ p (.append 15 320 (.osl [1] 15 0 (z::L).length false) (.osl [13,0] 15 0 1 false))=some { val := .osl p 15 0 (z::(L++[(⟨nm,z.c⟩:NX)])).length false,rd:=[[1],[13,0]],up:=[([1],none),(p,some ⟨(z::(L++[(⟨nm,z.c⟩:NX)])).map NX.av,15,false⟩)] } :=
     fun σ p hσ => by
       have:=CK (σ := σ) (p:=p) (bytes:=320) (t:=false) (hσ ([13,0],⟨[NX.av ⟨nm,z.c⟩],15,false⟩) (by simp)) (hσ ([1],⟨(z::L).map NX.av,15,false⟩) (by simp)) (by simp;omega) (by decide) (of_eq_true (kC _)) vE
       have e:(z::(L++[(⟨nm,z.c⟩:NX)])).map NX.av=(z::L).map NX.av++[NX.av ⟨nm,z.c⟩]:=by simp
       have e':(z::(L++[(⟨nm,z.c⟩:NX)])).length=((z::L).map NX.av).length+1:=by simp
       rw [e,e']
       have e2:(z::L).length=((z::L).map NX.av).length:=by simp
       rw [e2];exact this
   refine VW.tr (π := []) (n:=m) (lmK q) [hb 31 d,hw 34 h3,hc hv,ho 36 On,ho 38 hg, .st 43 _ _ _ a1]
     (Wl ds lg n 0 (.osl [1] 15 0 (z::L).length false)) [([1],⟨(z::L).map NX.av,15,false⟩)] .normal (Wl ds lg n 0 (.osl [14,0] 15 0 (z::(L++[(⟨nm,z.c⟩:NX)])).length false)) [([14,0],⟨(z::(L++[(⟨nm,z.c⟩:NX)])).map NX.av,15,false⟩)] 16 (by kernel_rfl)
     CU (by simp only [cO,dO,eQ,fE];rfl) CU (by simp only [cO,dO,eQ,fE];rfl) (by simp) fun s hw => ?_
   exact ⟨(i+1,[m+14]),hlt,by simp only [];omega,by simp only [Bm, <- Yy];exact hw⟩
 . have hcc:i=159-tl.length:=by omega
   subst hcc
   have VJ:m+3<=9999:=by omega
   generalize M5 z tl (159-tl.length)=L at *
   have d:decide (((L.length+1:Nat):Int)<160)=false:=ar (by omega)
   refine VW.tr (π := []) (n:=m) (lmK q) [hb 31 d] (Wl ds lg n 0 (.osl [1] 15 0 (z::L).length false)) [([1],⟨(z::L).map NX.av,15,false⟩)] (.exit 0) (Wl ds lg n 0 (.osl [1] 15 0 (z::L).length false)) [([1],⟨(z::L).map NX.av,15,false⟩)] 3 (by kernel_rfl)
     CU (by simp only [cO,dO,eQ,fE];rfl) CU (by simp only [cO,dO,eQ,fE];rfl) (by simp) fun s hw=>⟨rfl, ?_⟩
   have HX:=Wk.aao (G:=G) (π := []) (q:=q) (t:=Wl ds lg n 0 (.osl q 15 0 (z::L).length false)) (K:=[(q,⟨(z::L).map NX.av,15,false⟩)]) (n:=m+3) (m:=9999) VJ (by simp)
   rw [CU,Qk,M4,cO,dO,eQ,fE] at HX
   simp only [M4] at HX
   exact Wk.toT (by simp) (hw.trans HX)
def Fb (i N:Nat):List AV:=List.replicate i (.int .u8 121)++List.replicate (N-i) (.int .u8 0)
def H5 (ds:List DX) (lg n:Int) (o b:AV) (N i:Nat):List AV:=[Ft ds, .int .u8 lg, .int .u8 n]++List.replicate 4 .top++[o, .top,b]++List.replicate 37 .top++[b, .int .i64 (N:Int), .int .i64 (i:Int)]++List.replicate 59 .top
theorem CV {ρ : Id->Id} {ds:List DX} {lg n:Int} {o b:AV} {N i:Nat}:b8 ρ (H5 ds lg n o b N i)=H5 ds lg n (o.dz ρ) (b.dz ρ) N i:=by
 unfold H5
 simp only [mB,nT,rV,CS,PU.fixed,Fw]
theorem Fy {ρ : Id->Id} {i N:Nat}:b8 ρ (Fb i N)=Fb i N:=by
 unfold Fb
 rw [mB,gI,gI,List.map_replicate,List.map_replicate];rfl
theorem Y3 {i N:Nat} (h:i<N):(Fb i N).set i (.int .u8 121)=Fb (i+1) N:=by
 unfold Fb
 obtain ⟨k,hk⟩:∃ k,N-i=k+1:=⟨N-i-1,by omega⟩
 rw [List.set_append,if_neg (by simp),hk,List.length_replicate,Nat.sub_self,List.replicate_succ,List.set_cons_zero,show N-(i+1)=k by omega,List.replicate_succ' ,List.append_assoc];rfl
theorem acm {i N:Nat} (h:i<N):(Fb i N)[i]? = some (.int .u8 0):=by
 unfold Fb
 obtain ⟨k,hk⟩:∃ k,N-i=k+1:=⟨N-i-1,by omega⟩
 rw [List.getElem?_append_right (by simp),hk,List.length_replicate,Nat.sub_self];rfl
theorem OP (ds:List DX) (lg n:Int) (z:NX) (L:List NX) (N:Nat) (hN:N<256) :
   VW P G [] (.loop Y2) (fun e s=>e = .exit 2/\Wk G [] s ⟨H5 ds lg n (.osl [9999] 15 0 (z::L).length false) (.osl [10002] 1 0 N false) N N,cA.to (H4 [([9999],⟨(z::L).map NX.av,15,false⟩),([10002],⟨Fb N N,1,false⟩)]),30000⟩) ⟨H5 ds lg n (.osl [9999] 15 0 (z::L).length false) (.osl [10002] 1 0 N false) N 0,af.of [([9999],⟨(z::L).map NX.av,15,false⟩),([10002],⟨Fb 0 N,1,false⟩)],20000⟩:=by
 refine VW.L3 (α := Nat) (fun i=>⟨H5 ds lg n (.osl [9999] 15 0 (z::L).length false) (.osl [10002] 1 0 N false) N i,af.of [([9999],⟨(z::L).map NX.av,15,false⟩),([10002],⟨Fb i N,1,false⟩)],20000+9*i⟩)
   (fun i=>i<=N) (fun i=>N-i) 0 (Wk.refl _ _ _) (Nat.zero_le _) ?_
 intro i hi
 generalize Jw:20000+9*i=m at *
 by_cases hlt:i<N
 . have d:decide ((i:Int)<(N:Int))=true:=aw (by omega)
   have hg:cn 1 (.osl [2] 1 0 N false) (.int .i64 (i:Int))=some (.ref [2] i 0):=vt hlt
   have Yn:=aI i (by omega)
   have Yy:m+9=20000+9*(i+1):=by omega
   have hst:∀ (σ : af) (p:Id),(∀ y∈[([2],(⟨Fb i N,1,false⟩:da))], σ y.1=some y.2)->bU σ p (.store 1 (.ref [2] i 0) (.int .u8 121))=some { val := .tup [],rd:=[[2]],up:=[([2],some ⟨Fb (i+1) N,1,false⟩)] } :=
     fun σ p hσ => by
       have h:=eO (σ := σ) (id:=[2]) (els:=Fb i N) (k:=1) (n:=1) (e:=i) (o:=0) (el := .int .u8 0) (v := .int .u8 121) (hσ ([2],⟨Fb i N,1,false⟩) (by simp)) (acm hlt) rfl (by simp [AV.size,AV.cells]) rfl
       rw [<- Y3 hlt]
       exact h
   refine VW.tr (π := []) (n:=m) (fun k=>if k=1 then [9999] else [10002]) [hb 50 d,ho 54 hg, .st 100054 _ _ _ hst,hw 55 Yn]
     (H5 ds lg n (.osl [1] 15 0 (z::L).length false) (.osl [2] 1 0 N false) N i) [([1],⟨(z::L).map NX.av,15,false⟩),([2],⟨Fb i N,1,false⟩)] .normal (H5 ds lg n (.osl [1] 15 0 (z::L).length false) (.osl [2] 1 0 N false) N (i+1)) [([1],⟨(z::L).map NX.av,15,false⟩),([2],⟨Fb (i+1) N,1,false⟩)] 9 (by kernel_rfl)
     CV (by simp only [cO,dO,eQ,fE,Fy];rfl) CV (by simp only [cO,dO,eQ,fE,Fy];rfl) (by simp) fun s hw => ?_
   exact ⟨i+1,hlt,by simp only [];omega,by simp only [<- Yy];exact hw⟩
 . have hcc:i=N:=by omega
   subst hcc
   have d:decide ((i:Int)<(i:Int))=false:=ar (by omega)
   refine VW.tr (π := []) (n:=m) (fun k=>if k=1 then [9999] else [10002]) [hb 50 d]
     (H5 ds lg n (.osl [1] 15 0 (z::L).length false) (.osl [2] 1 0 i false) i i) [([1],⟨(z::L).map NX.av,15,false⟩),([2],⟨Fb i i,1,false⟩)] (.exit 2) (H5 ds lg n (.osl [1] 15 0 (z::L).length false) (.osl [2] 1 0 i false) i i) [([1],⟨(z::L).map NX.av,15,false⟩),([2],⟨Fb i i,1,false⟩)] 1 (by kernel_rfl)
     CV (by simp only [cO,dO,eQ,fE,Fy];rfl) CV (by simp only [cO,dO,eQ,fE,Fy];rfl) (by simp) fun s hw=>⟨rfl, ?_⟩
   exact Wk.toT (by simp) (hw.trans (Wk.forget (Fg.same _) (fun j => .inr rfl) (by omega)))
end
end Go.VL
end

section
set_option linter.unusedSimpArgs false
set_option linter.unusedVariables false
set_option maxRecDepth 100000
namespace Go.VL
open Go.Lib
theorem Jk:∀ N:Nat,bytesOf (List.replicate N (.int .u8 121))=some (List.replicate N 121)
 | 0=>rfl
 | N+1=>by rw [List.replicate_succ,List.replicate_succ,bytesOf,Jk N];rfl
theorem Wm {σ : af} {q:Id} {N:Nat} (h : σ q=some ⟨Fb N N,1,false⟩):nK σ (.osl q 1 0 N false)=some { val := .str (List.replicate N 121),rd:=[q] }:=by
 have e:Fb N N=List.replicate N (.int .u8 121):=by unfold Fb;rw [Nat.sub_self];simp
 unfold nK
 rw [jW h rfl (by rw [e];simp)]
 simp only [e,List.drop_zero]
 rw [List.take_of_length_le (by simp),Jk];rfl
theorem Wn {σ : af} {q:Id} {l:List NX} {b:Bool} (h : σ q=some ⟨l.map NX.av,15,b⟩):View σ (.osl q 15 0 l.length false) (dP l):=Fu h
theorem Y4 {σ : af} {q:Id} {s:List UInt8} (h : σ q=some ⟨[.str s],1,false⟩):View σ (.osl q 1 0 1 false) (strs [s]):=J4 h rfl (by intro c hc;simp [AV.cells] at hc;subst hc;exact aa.str _)
section
variable {P:Program} {G:Nat->Option (List AV)}
theorem lv (L:List NX) (nm:List UInt8) (q C:Id) (h1:q≠C) (x y:Rat) (k:Int):aF (af.of [(q,⟨L.map NX.av,15,false⟩),(C,⟨[.str nm],1,false⟩)]) [.str [112], .osl q 15 0 L.length false, .osl C 1 0 1 false,QV x,QV y, .int .i64 k] [.str [112],dP L,strs [nm],QV x,QV y, .int .i64 k]:=by
 have h2:(C==q)=false:=by simp [h1.symm]
 exact aF.cons (View.pure PU.pure) (aF.cons (Wn (b:=false) (by simp [af.of])) (aF.cons (Y4 (by simp [af.of,List.lookup,h2])) (aF.pure H3.pure)))
theorem SL {f:FuncId} (h:Has P f cZ) (L:List NX) (h0:L≠[]) (hl:L.length<=1000) (p q:Id):aW P G f [.osl q 15 0 L.length false] p [(q,⟨L.map NX.av,15,false⟩)] { val := .osl (5::p) 15 0 L.length false,rd:=[q],up:=[(5::p,some ⟨L.map NX.av,15,false⟩)] }:=by
 have a1:∀ (σ : af) (p:Id),(∀ y∈[([1],(⟨L.map NX.av,15,false⟩:da))], σ y.1=some y.2)->bU σ p (.append 15 320 (.tsl 15 []) (.osl [1] 15 0 L.length false))=some { val := .osl p 15 0 L.length false,rd:=[[1]],up:=[(p,some ⟨L.map NX.av,15,false⟩)] }:=fun σ p hσ => by
   have:=p5 (σ := σ) (p:=p) (k:=15) (bytes:=320) (es:=[]) (x := .osl [1] 15 0 L.length false) (ys:=L.map NX.av) (rd:=[[1]]) (by rw [jW (hσ ([1],⟨L.map NX.av,15,false⟩) (by simp)) rfl (by simp),List.drop_zero,Hl]) (by simpa using h0) (by simp;omega) (eN (by simp;omega)) (by simpa using mK kC L)
   simp only [List.nil_append,List.length_nil,List.length_map,Nat.zero_add] at this
   exact this
 exact aW.tr (p:=p) (up:=[(5::p,⟨L.map NX.av,15,false⟩)]) h (fun _=>q) [.st 7 _ _ _ a1] [.osl [1] 15 0 L.length false] [([1],⟨L.map NX.av,15,false⟩)] (.osl [5,0] 15 0 L.length false) [([5,0],⟨L.map NX.av,15,false⟩)] (by kernel_rfl) rfl (by simp only [cO,dO,eQ,fE];rfl) rfl (by simp only [cO,dO,eQ,fE];rfl) (by simp) (by simp)
def lmH {fcn fi fp fr fR:FuncId} (L:List NX) (nm:List UInt8) (c:Nat) (B C:Id) (h1:([9999]:Id)≠C) (h2:([5,c]:Id)≠B) (k:Int) (r:AV) (m e:AV) (a:Int) (hL:0<L.length) (k84:a=k) (k85:IntKind.i64.wrap k=k)
   (hcn:Has P fcn cZ) (h0:L≠[]) (hll:L.length<=1000) (hI:∀ z:Int, -1000<=z->z<=1000->VP P G fi [.int .i64 z] (QV (z:Rat))) (hp:VP P G fp [.str [112],dP L,strs [nm],QV ((1:Int):Rat),QV ((0:Int):Rat), .int .i64 k] r) (hr:VP P G fr [.str [112],dP L,strs [nm],QV ((1:Int):Rat),QV ((0:Int):Rat), .int .i64 k] r) (hR:VP P G fR [m,e,m,e] (.bool true)) [PU m] [PU e]:List (Hint P G) :=
 [.rel fcn _ [([9999],⟨L.map NX.av,15,false⟩)] _ (fun p hp=>SL hcn L h0 hll p [9999]) (by intro p x hx;rcases List.mem_singleton.1 hx with rfl;simp),ho 77 (vt (q:=[9999]) (k:=15) (t:=false) (i:=0) hL),hc (hI 1 (by decide) (by decide)),hc (hI 0 (by decide) (by decide)),hw 84 k84 .u8,hw 85 k85,
  lF [([5,c],⟨L.map NX.av,15,false⟩),(B,⟨[.str nm],1,false⟩)] hp (lv L nm [5,c] B h2 _ _ k),
  ho 92 (vt (q:=[9999]) (k:=15) (t:=false) (i:=0) hL),hc (hI 1 (by decide) (by decide)),hc (hI 0 (by decide) (by decide)),hw 99 k84 .u8,hw 100 k85,
  lF [([9999],⟨L.map NX.av,15,false⟩),(C,⟨[.str nm],1,false⟩)] hr (lv L nm [9999] C h1 _ _ k),
  hc hR]
theorem Wo {f fa fl fd fcn fi fp fr fR:FuncId} (h:Has P f (jP fa fl fd fcn fi fp fr fR)) (ds:List DX) (N n:Nat) (hN:N<256) (hn:n<256) (xg:VP P G fa [] (.bool true)) (z z1:NX) (tl t:List NX) (WB:tl.length<=150) (ht:M5 z tl (159-tl.length)=z1::t)
   (hl:∀ p:Id,aW P G fl [Ft ds] p [] { val := .tup [.osl (9999::p) 15 0 (z::tl).length false, .bool true],rd:=[],up:=[(9999::p,some ⟨(z::tl).map NX.av,15,false⟩)] })
   (hD:∀ n:Nat,n<1000->VP P G fd [.int .i64 (n:Int)] (.str (decDigits n)))
   (hcn:Has P fcn cZ) (hI:∀ z:Int, -1000<=z->z<=1000->VP P G fi [.int .i64 z] (QV (z:Rat)))
   (hp:∀ nm s,nm.length<=300->s.length<=300->YA P G fp (⟨nm,z.c⟩::⟨s,z1.c⟩::t)) (hr:∀ nm s,nm.length<=300->s.length<=300->YA P G fr (⟨nm,z.c⟩::⟨s,z1.c⟩::t))
   (hR:∀ nm s,nm.length<=300->s.length<=300->∀ n:Nat,n<64->MB [112] (⟨nm,z.c⟩::⟨s,z1.c⟩::t) [nm] ((1:Int):Rat) ((0:Int):Rat) (n:Int)=0->VP P G fR [dP ((⟨nm,z.c⟩::⟨s,z1.c⟩::t)++bH [112] (⟨nm,z.c⟩::⟨s,z1.c⟩::t) (((1:Int):Rat),((0:Int):Rat)) [nm] n), .int .i64 0,dP ((⟨nm,z.c⟩::⟨s,z1.c⟩::t)++bH [112] (⟨nm,z.c⟩::⟨s,z1.c⟩::t) (((1:Int):Rat),((0:Int):Rat)) [nm] n), .int .i64 0] (.bool true))
   (hR0:∀ e,VP P G fR [.nils, .int .i64 e, .nils, .int .i64 e] (.bool true)) (SM:z1.name.length<=300):VP P G f [Ft ds, .int .u8 (N:Int), .int .u8 (n:Int)] (.bool true):=by
 have e27:(((tl.length+1:Nat):Int)==0)=false:=by rw [beq_eq_false_iff_ne];omega
 have l1:=OO (P:=P) (G:=G) (fd:=fd) ds (N:Int) (n:Int) z tl WB hD
 rw [ht] at l1
 have k45:IntKind.i64.wrap (N:Int)=(N:Int):=by rw [IntKind.wrap_i64];omega
 have k46:∀ (σ : af) (p:Id),(∀ y∈([]:List (Id × da)), σ y.1=some y.2)->bU σ p (.mksl 1 1 (.int .u8 0) (.int .i64 (N:Int)) (.int .i64 (N:Int)))=some { val := .osl p 1 0 N false,up:=[(p,some ⟨Fb 0 N,1,false⟩)] }:=fun σ p _=>Vr (p:=p) (z := .int .u8 0) (k:=1) (bytes:=1) (n:=N) (by omega) (by omega) rfl rfl
 have l2:=OP (P:=P) (G:=G) ds (N:Int) (n:Int) z (z1::t) N hN
 have k58:∀ (σ : af) (p:Id),(∀ y∈[([10002],(⟨Fb N N,1,false⟩:da))], σ y.1=some y.2)->bU σ p (.bytesStr (.osl [10002] 1 0 N false))=some { val := .str (List.replicate N 121),rd:=[[10002]] }:=fun σ p hσ => Wm (hσ ([10002],⟨Fb N N,1,false⟩) (by simp))
 have k59:bM .add .str (.str [107,47]) (.str (List.replicate N 121))=some (.str ([107,47]++List.replicate N 121)):=jt (by simp;omega)
 have k60:cn 15 (.osl [9999] 15 0 (z::z1::t).length false) (.int .i64 0)=some (.ref [9999] 0 0):=vt (i:=0) (by simp)
 have k63:(n:Int).tmod 4=((n%4:Nat):Int):=by rw [Int.tmod_eq_emod_of_nonneg (by omega)];omega
 have k84:(n:Int).tmod 64=((n%64:Nat):Int):=by rw [Int.tmod_eq_emod_of_nonneg (by omega)];omega
 have k85:IntKind.i64.wrap ((n%64:Nat):Int)=((n%64:Nat):Int):=by rw [IntKind.wrap_i64];omega
 have k70:bM .add .str (.str [112,47,49,47]) (.str ([107,47]++List.replicate N 121))=some (.str ([112,47,49,47]++([107,47]++List.replicate N 121))):=jt (by simp;omega)
 have k71:cn 15 (.osl [9999] 15 0 (z::z1::t).length false) (.int .i64 1)=some (.ref [9999] 1 0):=vt (i:=1) (by simp)
 have qU:([107,47]++List.replicate N (121:UInt8)).length<=300:=by simp;omega
 have hns:([112,47,49,47]++([107,47]++List.replicate N (121:UInt8))).length<=300:=by simp;omega
 have amH:t.length=158:=by have:=Fx (z:=z) (tl:=tl) (159-tl.length);rw [ht] at this;simp at this;omega
 have hlen:∀ a b:NX,(a::b::t).length<=1000:=by intro a b;simp;omega
 have fin:∀ s:List UInt8,s.length<=300->∃ (m:AV) (e:Int),PU m/\VP P G fp [.str [112],dP (⟨[107,47]++List.replicate N 121,z.c⟩::⟨s,z1.c⟩::t),strs [[107,47]++List.replicate N 121],QV ((1:Int):Rat),QV ((0:Int):Rat), .int .i64 ((n%64:Nat):Int)] (.tup [m, .int .i64 e]) /\
     VP P G fr [.str [112],dP (⟨[107,47]++List.replicate N 121,z.c⟩::⟨s,z1.c⟩::t),strs [[107,47]++List.replicate N 121],QV ((1:Int):Rat),QV ((0:Int):Rat), .int .i64 ((n%64:Nat):Int)] (.tup [m, .int .i64 e])/\VP P G fR [m, .int .i64 e,m, .int .i64 e] (.bool true):=by
   intro s hs
   have s1:Sm 1 (((1:Int):Rat)):=Yz (by decide)
   have s0:Sm 1 (((0:Int):Rat)):=Yz (by decide)
   have p1:=hp _ s qU hs [112] [[107,47]++List.replicate N 121] _ _ ((n%64:Nat):Int) (by decide) (by simp) (s1.mono (by omega)) (s0.mono (by omega)) (by omega) (by omega)
   have r1:=hr _ s qU hs [112] [[107,47]++List.replicate N 121] _ _ ((n%64:Nat):Int) (by decide) (by simp) (s1.mono (by omega)) (s0.mono (by omega)) (by omega) (by omega)
   unfold Sb at p1 r1
   by_cases hE:MB [112] (⟨[107,47]++List.replicate N 121,z.c⟩::⟨s,z1.c⟩::t) [[107,47]++List.replicate N 121] ((1:Int):Rat) ((0:Int):Rat) ((n%64:Nat):Int)=0
   . rw [if_pos hE] at p1 r1
     exact ⟨_,_,inferInstance,p1,r1,hR _ s qU hs (n%64) (by omega) hE⟩
   . rw [if_neg hE] at p1 r1
     exact ⟨_,_,inferInstance,p1,r1,hR0 _⟩
 by_cases h4:n%4=0
 . have k64:(((n%4:Nat):Int)==0)=true:=beq_iff_eq.2 (by omega)
   obtain ⟨m,e,_,p1,r1,R1⟩:=fin _ hns
   exact VP.tr h ([hc xg, .rel fl _ [] _ (fun p _=>hl p) (by intro p x hx;simp at hx),hb 27 e27, .lp [] _ _ _ _ _ _ _ _ l1,hw 45 k45, .st 46 [] _ _ k46, .lp [] _ _ _ _ _ _ _ _ l2, .st 58 _ _ _ k58,ho 59 k59,ho 60 k60,hw 63 k63 .u8,hb 64 k64,ho 67 k60,ho 70 k70,ho 71 k71]++lmH _ _ 30020 [30025] [30042] (by decide) (by decide) _ _ m (.int .i64 e) _ (by simp) k84 k85 hcn (by simp) (hlen _ _) hI p1 r1 R1) (by kernel_rfl)
 . have k64:(((n%4:Nat):Int)==0)=false:=by rw [beq_eq_false_iff_ne];omega
   obtain ⟨m,e,_,p1,r1,R1⟩:=fin z1.name SM
   exact VP.tr h ([hc xg, .rel fl _ [] _ (fun p _=>hl p) (by intro p x hx;simp at hx),hb 27 e27, .lp [] _ _ _ _ _ _ _ _ l1,hw 45 k45, .st 46 [] _ _ k46, .lp [] _ _ _ _ _ _ _ _ l2, .st 58 _ _ _ k58,ho 59 k59,ho 60 k60,hw 63 k63 .u8,hb 64 k64]++lmH _ _ 30011 [30016] [30033] (by decide) (by decide) _ _ m (.int .i64 e) _ (by simp) k84 k85 hcn (by simp) (hlen _ _) hI p1 r1 R1) (by kernel_rfl)
end
end Go.VL
end
