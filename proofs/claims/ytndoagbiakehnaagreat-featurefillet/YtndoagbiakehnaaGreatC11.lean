/- For the claim of FeatureFillet: parts TS1, TSC, RY3, TS3, TS2, TS4, TS5, TS6, SCN, TY1. -/
import Derived.Test.YtndoagbiakehnaaGreatC10
import Derived.Test.YtndoagbiakehnaaGreatC08
import Derived.Test.YtndoagbiakehnaaGreatC09
import Derived.Test.YtndoagbiakehnaaGreatC07
import Derived.Test.YtndoagbiakehnaaGreatC06
import Derived.Test.YtndoagbiakehnaaGreatC03
import Derived.KernelRfl
set_option linter.unusedSimpArgs false
set_option linter.unusedVariables false
section
set_option maxRecDepth 100000
namespace Go.Proofs.YtndoagbiakehnaaGreat
open Go.VL Go.Proofs Go.Lib
structure Nm (b:Bool) where
 l:List AV
 m:List AV
 pl:PU (.sl 1 l)
 pm:PU (.sl 4 m)
def re (b:Bool) (l:List AV):AV:=match b with | true => .sl 1 l | false => .nils
def Nm.av {b:Bool} (x:Nm b):AV := .agg [re b x.l, .sl 4 x.m]
theorem mB {b:Bool} {l:List AV} (h:PU (.sl 1 l)):PU (re b l):=by cases b;exact (inferInstance:PU AV.nils);exact h
instance {b:Bool} {x:Nm b}:PU x.av:=by
 have h1:=mB (b:=b) x.pl
 have h2:=x.pm
 unfold Nm.av;infer_instance
def aV {b:Bool} (x y:Nm b):AV := .agg [re b x.l, .sl 4 x.m,re b y.l, .sl 4 y.m]
instance {b:Bool} {x y:Nm b}:PU (aV x y):=by
 have h1:=mB (b:=b) x.pl
 have h2:=mB (b:=b) y.pl
 have h3:=x.pm
 have h4:=y.pm
 unfold aV;infer_instance
inductive Kd | R | A | B | T | U
 deriving DecidableEq
def Sh:Kd->Q4->Prop
 | .R,x=>x=r2 x.1.1
 | .A,x=>x=a2 x.1
 | .B,x=>x=b2 (x.1.1,x.2.1)
 | _,_=>True
def jA:Kd->Kd->Option Kd
 | .T, .R=>some .T | .R, .T=>some .T | .A, .B=>some .T | .T, .T=>some .T | _,_=>none
def jS:Kd->Kd->Option Kd
 | .A, .T=>some .T | .B, .T=>some .U | .T, .T=>some .T | .T, .R=>some .T | .R, .T=>some .T | _,_=>none
def jM:Kd->Kd->Option Kd
 | .A, .B=>some .T | .R, .T=>some .T | .T, .R=>some .T | .R, .A=>some .A | .R, .B=>some .B | .T, .T=>some .T | .T, .A=>some .T | .T, .B=>some .T | _,_=>none
def nR (x:Rat):Nm false:=⟨[],[QV x],inferInstance,(inferInstance:PU (EV x))⟩
structure Cf where
 q1:Rat
 q2:Rat
 bA:Bool
 bB:Bool
 bT:Bool
 nA:Q4->Nm bA
 nB:Q4->Nm bB
 nT:Q4->Nm bT
 nU:Q4->Nm bT
 sT:Q4->Int
 sU:Q4->Int
 p1:0<q1.num
 p2:0<q2.num
 s1:Sm 190 q1
 s2:Sm 190 q2
 zr:∀ x,sT (r2 x)=az x
 zm:∀ x y,sT x=0->sT (bD q1 q2 x y)=0
 zu:∀ x,sT x=0->sU x=0
 bt:bT=(bA||bB)
def Cf.fl (c:Cf):Kd->Bool
 | .R=>false | .A=>c.bA | .B=>c.bB | .T=>c.bT | .U=>c.bT
def Cf.nm (c:Cf):∀ k:Kd,Q4->Nm (c.fl k)
 | .R,x=>nR x.1.1 | .A,x=>c.nA x | .B,x=>c.nB x | .T,x=>c.nT x | .U,x=>c.nU x
def Cf.sg (c:Cf):Kd->Q4->Int
 | .T,x=>c.sT x | .U,x=>c.sU x | _,x=>az x.1.1
abbrev L4 (a b c:Rat):Q4:=((a,b),(c,0))
abbrev K6 (q:Rat):Q4:=L4 0 (1/q) 0
abbrev ND (q:Rat):Q4:=L4 0 0 (1/q)
structure rh (G:Nat->Option (List AV)) (c:Cf) (fA fS fM fI fG:Nat):Prop where
 add:∀ {k l m},jA k l=some m->∀ x y,Sh k x->Sh l y->cC 1000 x->cC 1000 y->VP Tryz.prog G fA [(c.nm k x).av,(c.nm l y).av] (.tup [(c.nm m (bO x y)).av, .int .i64 0])
 sub:∀ {k l m},jS k l=some m->∀ x y,Sh k x->Sh l y->cC 1000 x->cC 1000 y->VP Tryz.prog G fS [(c.nm k x).av,(c.nm l y).av] (.tup [(c.nm m (bO x (bQ y))).av, .int .i64 0])
 mul:∀ {k l m},jM k l=some m->∀ x y,Sh k x->Sh l y->cC 1000 x->cC 1000 y->VP Tryz.prog G fM [(c.nm k x).av,(c.nm l y).av] (.tup [(c.nm m (bD c.q1 c.q2 x y)).av, .int .i64 0])
 invm:VP Tryz.prog G fI [re c.bA (c.nA rA).l, .sl 4 (c.nA rA).m] (.tup [.sl 4 (c.nA (K6 c.q1)).m, .int .i64 0])
 invn:VP Tryz.prog G fI [re c.bB (c.nB rB).l, .sl 4 (c.nB rB).m] (.tup [.sl 4 (c.nB (ND c.q2)).m, .int .i64 0])
 eqm:(c.nA (K6 c.q1)).l=(c.nA rA).l
 eqn:(c.nB (ND c.q2)).l=(c.nB rB).l
 sgn:∀ k,k = .T∨k = .U->∀ x,cC 800 x->VP Tryz.prog G fG [(c.nm k x).av] (.int .i64 (c.sg k x))
structure G8 (G:Nat->Option (List AV)) (fI fM fD:Nat):Prop where
 dv:∀ {b b2 b3:Bool} (X:Nm b) (Y Yi:Nm b2) (Z:Nm b3),VP Tryz.prog G fI [re b2 Y.l, .sl 4 Y.m] (.tup [.sl 4 Yi.m, .int .i64 0])->Yi.l=Y.l->VP Tryz.prog G fM [X.av,Yi.av] (.tup [Z.av, .int .i64 0])->VP Tryz.prog G fD [X.av,Y.av] (.tup [Z.av, .int .i64 0])
 iv:∀ x:Rat,x≠0->Sm 100000 x->VP Tryz.prog G fI [.nils,EV x] (.tup [EV (1/x), .int .i64 0])
section
variable {G:Nat->Option (List AV)} {c:Cf} {fA fS fM fI fD fG:Nat}
theorem rh.Ux (o:rh G c fA fS fM fI fG) (d:G8 G fI fM fD) (x:Q4) (y:Rat) (hy:y≠0) (hx:cC 1000 x) (sy:Sm 900 y):VP Tryz.prog G fD [(c.nT x).av,NV y] (.tup [(c.nT (bD c.q1 c.q2 x (r2 (1/y)))).av, .int .i64 0]) :=
 d.dv (c.nT x) (nR y) (nR (1/y)) _ (d.iv y hy (sy.mono (by omega))) rfl (o.mul (k := .T) (l := .R) rfl x (r2 (1/y)) trivial rfl hx (eh ((dz.div sy (by omega)).mono (by omega)) (by omega)))
theorem Ru (c:Cf):cC 1000 (K6 c.q1):=⟨⟨Sm.zero.mono (by omega),(dz.div c.s1 (by omega)).mono (by omega)⟩,⟨Sm.zero.mono (by omega),Sm.zero.mono (by omega)⟩⟩
theorem Rv (c:Cf):cC 1000 (ND c.q2):=⟨⟨Sm.zero.mono (by omega),Sm.zero.mono (by omega)⟩,⟨(dz.div c.s2 (by omega)).mono (by omega),Sm.zero.mono (by omega)⟩⟩
theorem rh.akp (o:rh G c fA fS fM fI fG) (d:G8 G fI fM fD) (x:Q4) (hx:cC 1000 x):VP Tryz.prog G fD [(c.nT x).av,(c.nA rA).av] (.tup [(c.nT (bD c.q1 c.q2 x (K6 c.q1))).av, .int .i64 0]) :=
 d.dv (c.nT x) (c.nA rA) (c.nA (K6 c.q1)) _ o.invm o.eqm (o.mul (k := .T) (l := .A) rfl x (K6 c.q1) trivial rfl hx (Ru c))
theorem rh.akq (o:rh G c fA fS fM fI fG) (d:G8 G fI fM fD) (x:Q4) (hx:cC 1000 x):VP Tryz.prog G fD [(c.nT x).av,(c.nB rB).av] (.tup [(c.nT (bD c.q1 c.q2 x (ND c.q2))).av, .int .i64 0]) :=
 d.dv (c.nT x) (c.nB rB) (c.nB (ND c.q2)) _ o.invn o.eqn (o.mul (k := .T) (l := .B) rfl x (ND c.q2) trivial rfl hx (Rv c))
theorem rh.ae3 (o:rh G c fA fS fM fI fG) (d:G8 G fI fM fD) (x:Rat) (hx:Sm 900 x):VP Tryz.prog G fD [NV x,(c.nA rA).av] (.tup [(c.nA (bD c.q1 c.q2 (r2 x) (K6 c.q1))).av, .int .i64 0]) :=
 d.dv (nR x) (c.nA rA) (c.nA (K6 c.q1)) _ o.invm o.eqm (o.mul (k := .R) (l := .A) rfl (r2 x) (K6 c.q1) rfl rfl (eh (hx.mono (by omega)) (by omega)) (Ru c))
theorem rh.ae4 (o:rh G c fA fS fM fI fG) (d:G8 G fI fM fD) (x:Rat) (hx:Sm 900 x):VP Tryz.prog G fD [NV x,(c.nB rB).av] (.tup [(c.nB (bD c.q1 c.q2 (r2 x) (ND c.q2))).av, .int .i64 0]) :=
 d.dv (nR x) (c.nB rB) (c.nB (ND c.q2)) _ o.invn o.eqn (o.mul (k := .R) (l := .B) rfl (r2 x) (ND c.q2) rfl rfl (eh (hx.mono (by omega)) (by omega)) (Rv c))
end
section
variable {q1 q2:Rat}
theorem dt {a b:Q4} (h1:a.1.1=b.1.1) (h2:a.1.2=b.1.2) (h3:a.2.1=b.2.1) (h4:a.2.2=b.2.2):a=b:=Prod.ext (Prod.ext h1 h2) (Prod.ext h3 h4)
abbrev ZH:Q4:=((0,0),(0,1))
theorem w1_:bD q1 q2 rA rB=ZH:=by unfold bD cY aR;apply dt<;>simp only []<;>grind
theorem w2_ {d:Rat}:bO ZH (r2 d)=((d,0),(0,1)):=by unfold bO cY;apply dt<;>simp only []<;>grind
theorem w3_ {r d:Rat}:bD q1 q2 (r2 r) ((d,0),(0,1))=((r*d,0),(0,r)):=by unfold bD cY aR;apply dt<;>simp only []<;>grind
def tQ (d k:Rat):Q4:=((k*d,0),(0,k))
theorem w4_ {r d e:Rat}:bD q1 q2 ((r*d,0),(0,r)) (r2 e)=tQ d (r*e):=by unfold bD cY aR tQ;apply dt<;>simp only []<;>grind
def xQ (d k:Rat):Q4:=((-(k*d),1),(0, -k))
def yQ (d k:Rat):Q4:=((-(k*d),0),(1, -k))
theorem w5_ {d k:Rat}:bO rA (bQ (tQ d k))=xQ d k:=by unfold bO bQ j3 cY tQ xQ;apply dt<;>simp only []<;>grind
theorem w6_ {d k:Rat}:bO rB (bQ (tQ d k))=yQ d k:=by unfold bO bQ j3 cY tQ yQ;apply dt<;>simp only []<;>grind
theorem cZ {q:Rat} (h:0<q.num):q*(1/q)=1:=by rw [Rat.div_def,Rat.one_mul,Rat.mul_inv_cancel _ (Ax h)]
theorem w7_ {d k:Rat} (h:0<q1.num):bD q1 q2 (tQ d k) (K6 q1)=L4 0 (k*d*(1/q1)) k:=by
 have e:=cZ h
 generalize 1/q1=i at *
 unfold bD cY aR tQ;apply dt<;>simp only []<;>grind
theorem w8_ {d k:Rat} (h:0<q2.num):bD q1 q2 (tQ d k) (ND q2)=L4 0 k (k*d*(1/q2)):=by
 have e:=cZ h
 generalize 1/q2=i at *
 unfold bD cY aR tQ;apply dt<;>simp only []<;>grind
theorem w9_ {a y z:Rat}:bD q1 q2 (r2 a) (L4 0 y z)=L4 0 (a*y) (a*z):=by unfold bD cY aR;apply dt<;>simp only []<;>grind
theorem wA_ {a y z:Rat}:bO (r2 a) (L4 0 y z)=L4 a y z:=by unfold bO cY;apply dt<;>simp only []<;>grind
theorem wB_ {y z:Rat}:bO (L4 0 y 0) (L4 0 0 z)=L4 0 y z:=by unfold bO cY;apply dt<;>simp only []<;>grind
theorem wC_ {e:Rat}:bD q1 q2 ZH (r2 e)=((0,0),(0,e)):=by unfold bD cY aR;apply dt<;>simp only []<;>grind
theorem wD_ {r a b e:Rat} (h:0<q1.num) (h2:0<q2.num):bD q1 q2 (L4 0 (a*(r*(1/q1))) (b*(r*(1/q2)))) ((0,0),(0,e))=L4 0 (b*(r*e)) (a*(r*e)):=by
 have e1:=cZ h
 have e2:=cZ h2
 generalize 1/q1=i at *
 generalize 1/q2=j at *
 unfold bD cY aR;apply dt<;>simp only []<;>grind
theorem wE_ {r i:Rat}:bD q1 q2 (r2 r) (L4 0 i 0)=L4 0 (r*i) 0:=by unfold bD cY aR;apply dt<;>simp only []<;>grind
theorem wF_ {r i:Rat}:bD q1 q2 (r2 r) (L4 0 0 i)=L4 0 0 (r*i):=by unfold bD cY aR;apply dt<;>simp only []<;>grind
end
structure FG where
 p:Q2
 a:Q2
 b:Q2
 r:Rat
def FG.u (f:FG):Q2:=bR f.a f.p
def FG.v (f:FG):Q2:=bR f.b f.p
def FG.d (f:FG):Rat:=cX f.u f.v
def FG.x (f:FG):Rat:=cX (-f.u.2,f.u.1) f.v
def FG.w (f:FG):Rat:=if az f.x<0 then -f.x else f.x
def FG.k (f:FG):Rat:=f.r*(1/f.w)
structure FG.Sm (f:FG):Prop where
 p:bl 20 f.p
 a:bl 20 f.a
 b:bl 20 f.b
 r:Go.VL.Sm 20 f.r
theorem FG.Sm.u {f:FG} (h:f.Sm):bl 41 f.u:=bl.sub h.a h.p
theorem FG.Sm.v {f:FG} (h:f.Sm):bl 41 f.v:=bl.sub h.b h.p
theorem FG.Sm.d {f:FG} (h:f.Sm):Go.VL.Sm 165 f.d:=(Go.VL.Sm.dot h.u h.v).mono (by omega)
theorem FG.Sm.x {f:FG} (h:f.Sm):Go.VL.Sm 165 f.x:=(Go.VL.Sm.dot (a:=(-f.u.2,f.u.1)) ⟨h.u.2.neg,h.u.1⟩ h.v).mono (by omega)
theorem FG.Sm.w {f:FG} (h:f.Sm):Go.VL.Sm 165 f.w:=by unfold FG.w;split;exact h.x.neg;exact h.x
theorem FG.Sm.e {f:FG} (h:f.Sm):Go.VL.Sm 166 (1/f.w):=(dz.div h.w (by omega)).mono (by omega)
theorem FG.Sm.k {f:FG} (h:f.Sm):Go.VL.Sm 186 f.k:=h.r.mul h.e
theorem FG.w0 {f:FG} (h:f.x≠0):f.w≠0:=by
 unfold FG.w;split
 . intro e;apply h;grind
 . exact h
def FG.fy (f:FG) (q1:Rat) (i:Q2->Rat):Q4:=L4 (i f.p) (i f.u*(f.k*f.d*(1/q1))) (i f.u*f.k)
def FG.sV (f:FG) (q2:Rat) (i:Q2->Rat):Q4:=L4 (i f.p) (i f.v*f.k) (i f.v*(f.k*f.d*(1/q2)))
def FG.g7 (f:FG) (i:Q2->Rat):Q4:=L4 (i f.p) (i f.v*f.k) (i f.u*f.k)
def Sv (w:Bool):AV := .agg [.nils, .nils, .nils, .nils, .nils, .nils, .nils, .nils, .nils, .nils, .nils, .nils, .bool w]
def ZI {b:Bool} (f1 f2 t1 t2 c1 c2:Nm b) (w:Bool):AV := .agg [re b f1.l, .sl 4 f1.m,re b f2.l, .sl 4 f2.m,re b t1.l, .sl 4 t1.m,re b t2.l, .sl 4 t2.m,re b c1.l, .sl 4 c1.m,re b c2.l, .sl 4 c2.m, .bool w]
instance {w:Bool}:PU (Sv w):=by unfold Sv;infer_instance
instance {b:Bool} {f1 f2 t1 t2 c1 c2:Nm b} {w:Bool}:PU (ZI f1 f2 t1 t2 c1 c2 w):=by
 have h1:=mB (b:=b) f1.pl
 have h2:=mB (b:=b) f2.pl
 have h3:=mB (b:=b) t1.pl
 have h4:=mB (b:=b) t2.pl
 have h5:=mB (b:=b) c1.pl
 have h6:=mB (b:=b) c2.pl
 have g1:=f1.pm
 have g2:=f2.pm
 have g3:=t1.pm
 have g4:=t2.pm
 have g5:=c1.pm
 have g6:=c2.pm
 unfold ZI;infer_instance
structure RV (bA bB bT:Bool) where
 M:Nm bA
 RM:Nm bA
 A1:Nm bA
 A2:Nm bA
 N:Nm bB
 RN:Nm bB
 B1:Nm bB
 B2:Nm bB
 MN:Nm bT
 S:Nm bT
 RS:Nm bT
 T:Nm bT
 X:Nm bT
 Y:Nm bT
 TM:Nm bT
 TN:Nm bT
 F1:Nm bT
 F2:Nm bT
 D1:Nm bT
 D2:Nm bT
 H1:Nm bT
 H2:Nm bT
 P1:Nm bT
 P2:Nm bT
 C1:Nm bT
 C2:Nm bT
 MC:Nm bT
 K1:Nm bT
 K2:Nm bT
 Q1:Nm bT
 Q2:Nm bT
structure RN (G:Nat->Option (List AV)) (f:FG) {bA bB bT:Bool} (v:RV bA bB bT) (sx sy:Int) (fA fS fM fD fG:Nat):Prop where
 mn:VP Tryz.prog G fM [v.M.av,v.N.av] (.tup [v.MN.av, .int .i64 0])
 s:VP Tryz.prog G fA [v.MN.av,NV f.d] (.tup [v.S.av, .int .i64 0])
 rs:VP Tryz.prog G fM [NV f.r,v.S.av] (.tup [v.RS.av, .int .i64 0])
 t:VP Tryz.prog G fD [v.RS.av,NV f.w] (.tup [v.T.av, .int .i64 0])
 x:VP Tryz.prog G fS [v.M.av,v.T.av] (.tup [v.X.av, .int .i64 0])
 y:VP Tryz.prog G fS [v.N.av,v.T.av] (.tup [v.Y.av, .int .i64 0])
 gx:VP Tryz.prog G fG [v.X.av] (.int .i64 sx)
 gy:VP Tryz.prog G fG [v.Y.av] (.int .i64 sy)
 tm:VP Tryz.prog G fD [v.T.av,v.M.av] (.tup [v.TM.av, .int .i64 0])
 d1:VP Tryz.prog G fM [NV f.u.1,v.TM.av] (.tup [v.D1.av, .int .i64 0])
 d2:VP Tryz.prog G fM [NV f.u.2,v.TM.av] (.tup [v.D2.av, .int .i64 0])
 f1:VP Tryz.prog G fA [NV f.p.1,v.D1.av] (.tup [v.F1.av, .int .i64 0])
 f2:VP Tryz.prog G fA [NV f.p.2,v.D2.av] (.tup [v.F2.av, .int .i64 0])
 tn:VP Tryz.prog G fD [v.T.av,v.N.av] (.tup [v.TN.av, .int .i64 0])
 h1:VP Tryz.prog G fM [NV f.v.1,v.TN.av] (.tup [v.H1.av, .int .i64 0])
 h2:VP Tryz.prog G fM [NV f.v.2,v.TN.av] (.tup [v.H2.av, .int .i64 0])
 p1:VP Tryz.prog G fA [NV f.p.1,v.H1.av] (.tup [v.P1.av, .int .i64 0])
 p2:VP Tryz.prog G fA [NV f.p.2,v.H2.av] (.tup [v.P2.av, .int .i64 0])
 rm:VP Tryz.prog G fD [NV f.r,v.M.av] (.tup [v.RM.av, .int .i64 0])
 a1:VP Tryz.prog G fM [NV f.u.1,v.RM.av] (.tup [v.A1.av, .int .i64 0])
 a2:VP Tryz.prog G fM [NV f.u.2,v.RM.av] (.tup [v.A2.av, .int .i64 0])
 rn:VP Tryz.prog G fD [NV f.r,v.N.av] (.tup [v.RN.av, .int .i64 0])
 b1:VP Tryz.prog G fM [NV f.v.1,v.RN.av] (.tup [v.B1.av, .int .i64 0])
 b2:VP Tryz.prog G fM [NV f.v.2,v.RN.av] (.tup [v.B2.av, .int .i64 0])
 c1:VP Tryz.prog G fA [v.A1.av,v.B1.av] (.tup [v.C1.av, .int .i64 0])
 c2:VP Tryz.prog G fA [v.A2.av,v.B2.av] (.tup [v.C2.av, .int .i64 0])
 mc:VP Tryz.prog G fD [v.MN.av,NV f.w] (.tup [v.MC.av, .int .i64 0])
 k1:VP Tryz.prog G fM [v.C1.av,v.MC.av] (.tup [v.K1.av, .int .i64 0])
 k2:VP Tryz.prog G fM [v.C2.av,v.MC.av] (.tup [v.K2.av, .int .i64 0])
 q1:VP Tryz.prog G fA [NV f.p.1,v.K1.av] (.tup [v.Q1.av, .int .i64 0])
 q2:VP Tryz.prog G fA [NV f.p.2,v.K2.av] (.tup [v.Q2.av, .int .i64 0])
abbrev i1 (v:Q2):Rat:=v.1
abbrev i2 (v:Q2):Rat:=v.2
def FG.um (f:FG) (q1:Rat) (i:Q2->Rat):Q4:=L4 0 (i f.u*(f.k*f.d*(1/q1))) (i f.u*f.k)
def FG.vn (f:FG) (q2:Rat) (i:Q2->Rat):Q4:=L4 0 (i f.v*f.k) (i f.v*(f.k*f.d*(1/q2)))
def FG.ce (f:FG) (i:Q2->Rat):Q4:=L4 0 (i f.v*f.k) (i f.u*f.k)
def FG.ab (f:FG) (q1 q2:Rat) (i:Q2->Rat):Q4:=L4 0 (i f.u*(f.r*(1/q1))) (i f.v*(f.r*(1/q2)))
def rv (c:Cf) (f:FG):RV c.bA c.bB c.bT where
 M:=c.nA rA
 RM:=c.nA (L4 0 (f.r*(1/c.q1)) 0)
 A1:=c.nA (L4 0 (i1 f.u*(f.r*(1/c.q1))) 0)
 A2:=c.nA (L4 0 (i2 f.u*(f.r*(1/c.q1))) 0)
 N:=c.nB rB
 RN:=c.nB (L4 0 0 (f.r*(1/c.q2)))
 B1:=c.nB (L4 0 0 (i1 f.v*(f.r*(1/c.q2))))
 B2:=c.nB (L4 0 0 (i2 f.v*(f.r*(1/c.q2))))
 MN:=c.nT ZH
 S:=c.nT ((f.d,0),(0,1))
 RS:=c.nT ((f.r*f.d,0),(0,f.r))
 T:=c.nT (tQ f.d f.k)
 X:=c.nT (xQ f.d f.k)
 Y:=c.nU (yQ f.d f.k)
 TM:=c.nT (L4 0 (f.k*f.d*(1/c.q1)) f.k)
 TN:=c.nT (L4 0 f.k (f.k*f.d*(1/c.q2)))
 F1:=c.nT (f.fy c.q1 i1)
 F2:=c.nT (f.fy c.q1 i2)
 D1:=c.nT (f.um c.q1 i1)
 D2:=c.nT (f.um c.q1 i2)
 H1:=c.nT (f.vn c.q2 i1)
 H2:=c.nT (f.vn c.q2 i2)
 P1:=c.nT (f.sV c.q2 i1)
 P2:=c.nT (f.sV c.q2 i2)
 C1:=c.nT (f.ab c.q1 c.q2 i1)
 C2:=c.nT (f.ab c.q1 c.q2 i2)
 MC:=c.nT ((0,0),(0,1/f.w))
 K1:=c.nT (f.ce i1)
 K2:=c.nT (f.ce i2)
 Q1:=c.nT (f.g7 i1)
 Q2:=c.nT (f.g7 i2)
theorem s4 {m:Nat} {a b c d:Rat} (ha:Go.VL.Sm m a) (hb:Go.VL.Sm m b) (hc:Go.VL.Sm m c) (hd:Go.VL.Sm m d):cC m ((a,b),(c,d)):=⟨⟨ha,hb⟩,⟨hc,hd⟩⟩
theorem FG.Sm.iu {f:FG} (h:f.Sm):∀ i:Q2->Rat,i=i1∨i=i2->Go.VL.Sm 41 (i f.u)/\Go.VL.Sm 41 (i f.v)/\Go.VL.Sm 20 (i f.p):=by
 rintro i (rfl | rfl)
 . exact ⟨h.u.1,h.v.1,h.p.1⟩
 . exact ⟨h.u.2,h.v.2,h.p.2⟩
set_option maxHeartbeats 1000000 in
theorem WE {G:Nat->Option (List AV)} {c:Cf} {fA fS fM fI fD fG:Nat} (o:rh G c fA fS fM fI fG) (d:G8 G fI fM fD) (f:FG) (hf:f.Sm) (hx:f.x≠0):RN G f (rv c f) (c.sT (xQ f.d f.k)) (c.sU (yQ f.d f.k)) fA fS fM fD fG:=by
 have z:Go.VL.Sm 1000 (0:Rat):=Sm.zero.mono (by omega)
 have e1:Go.VL.Sm 1000 (1:Rat):=dz.mono (by omega)
 have q1:=dz.div c.s1 (by omega)
 have q2:=dz.div c.s2 (by omega)
 have sd:=hf.d
 have sk:=hf.k
 have WG:Go.VL.Sm 351 (f.k*f.d):=(sk.mul sd).mono (by omega)
 have YT:Go.VL.Sm 542 (f.k*f.d*(1/c.q1)):=(WG.mul q1).mono (by omega)
 have sn1:Go.VL.Sm 542 (f.k*f.d*(1/c.q2)):=(WG.mul q2).mono (by omega)
 have srm:Go.VL.Sm 211 (f.r*(1/c.q1)):=(hf.r.mul q1).mono (by omega)
 have srn:Go.VL.Sm 211 (f.r*(1/c.q2)):=(hf.r.mul q2).mono (by omega)
 have st:cC 1000 (tQ f.d f.k):=s4 (WG.mono (by omega)) z z (sk.mono (by omega))
 have sA:cC 1000 rA:=s4 z e1 z z
 have sB:cC 1000 rB:=s4 z z e1 z
 have sMN:cC 1000 ZH:=s4 z z z e1
 have sR:∀ x,Go.VL.Sm 1000 x->cC 1000 (r2 x):=fun x h=>s4 h z z z
 have sTM:cC 1000 (L4 0 (f.k*f.d*(1/c.q1)) f.k):=s4 z (YT.mono (by omega)) (sk.mono (by omega)) z
 have sTN:cC 1000 (L4 0 f.k (f.k*f.d*(1/c.q2))):=s4 z (sk.mono (by omega)) (sn1.mono (by omega)) z
 have sRM:cC 1000 (L4 0 (f.r*(1/c.q1)) 0):=s4 z (srm.mono (by omega)) z z
 have sRN:cC 1000 (L4 0 0 (f.r*(1/c.q2))):=s4 z z (srn.mono (by omega)) z
 have sMC:cC 1000 ((0,0),(0,1/f.w)):=s4 z z z (hf.e.mono (by omega))
 have cd:∀ i:Q2->Rat,i=i1∨i=i2->VP Tryz.prog G fM [NV (i f.u),(c.nT (L4 0 (f.k*f.d*(1/c.q1)) f.k)).av] (.tup [(c.nT (f.um c.q1 i)).av, .int .i64 0]):=fun i hi=>by
   have h:=o.mul (k := .R) (l := .T) rfl (r2 (i f.u)) _ rfl trivial (sR _ ((hf.iu i hi).1.mono (by omega))) sTM
   rw [w9_] at h;exact h
 have ch:∀ i:Q2->Rat,i=i1∨i=i2->VP Tryz.prog G fM [NV (i f.v),(c.nT (L4 0 f.k (f.k*f.d*(1/c.q2)))).av] (.tup [(c.nT (f.vn c.q2 i)).av, .int .i64 0]):=fun i hi=>by
   have h:=o.mul (k := .R) (l := .T) rfl (r2 (i f.v)) _ rfl trivial (sR _ ((hf.iu i hi).2.1.mono (by omega))) sTN
   rw [w9_] at h;exact h
 have sum:∀ i:Q2->Rat,i=i1∨i=i2->cC 1000 (f.um c.q1 i):=fun i hi=>s4 z (((hf.iu i hi).1.mul YT).mono (by omega)) (((hf.iu i hi).1.mul sk).mono (by omega)) z
 have svn:∀ i:Q2->Rat,i=i1∨i=i2->cC 1000 (f.vn c.q2 i):=fun i hi=>s4 z (((hf.iu i hi).2.1.mul sk).mono (by omega)) (((hf.iu i hi).2.1.mul sn1).mono (by omega)) z
 have sce:∀ i:Q2->Rat,i=i1∨i=i2->cC 1000 (f.ce i):=fun i hi=>s4 z (((hf.iu i hi).2.1.mul sk).mono (by omega)) (((hf.iu i hi).1.mul sk).mono (by omega)) z
 have Hw:∀ i:Q2->Rat,i=i1∨i=i2->cC 1000 (f.ab c.q1 c.q2 i):=fun i hi=>s4 z (((hf.iu i hi).1.mul srm).mono (by omega)) (((hf.iu i hi).2.1.mul srn).mono (by omega)) z
 have cf:∀ i:Q2->Rat,i=i1∨i=i2->VP Tryz.prog G fA [NV (i f.p),(c.nT (f.um c.q1 i)).av] (.tup [(c.nT (f.fy c.q1 i)).av, .int .i64 0]):=fun i hi=>by
   have h:=o.add (k := .R) (l := .T) rfl (r2 (i f.p)) _ rfl trivial (sR _ ((hf.iu i hi).2.2.mono (by omega))) (sum i hi)
   unfold FG.um at h;rw [wA_] at h;exact h
 have cp:∀ i:Q2->Rat,i=i1∨i=i2->VP Tryz.prog G fA [NV (i f.p),(c.nT (f.vn c.q2 i)).av] (.tup [(c.nT (f.sV c.q2 i)).av, .int .i64 0]):=fun i hi=>by
   have h:=o.add (k := .R) (l := .T) rfl (r2 (i f.p)) _ rfl trivial (sR _ ((hf.iu i hi).2.2.mono (by omega))) (svn i hi)
   unfold FG.vn at h;rw [wA_] at h;exact h
 have cq:∀ i:Q2->Rat,i=i1∨i=i2->VP Tryz.prog G fA [NV (i f.p),(c.nT (f.ce i)).av] (.tup [(c.nT (f.g7 i)).av, .int .i64 0]):=fun i hi=>by
   have h:=o.add (k := .R) (l := .T) rfl (r2 (i f.p)) _ rfl trivial (sR _ ((hf.iu i hi).2.2.mono (by omega))) (sce i hi)
   unfold FG.ce at h;rw [wA_] at h;exact h
 have ca:∀ i:Q2->Rat,i=i1∨i=i2->VP Tryz.prog G fM [NV (i f.u),(c.nA (L4 0 (f.r*(1/c.q1)) 0)).av] (.tup [(c.nA (L4 0 (i f.u*(f.r*(1/c.q1))) 0)).av, .int .i64 0]):=fun i hi=>by
   have h:=o.mul (k := .R) (l := .A) rfl (r2 (i f.u)) (L4 0 (f.r*(1/c.q1)) 0) rfl rfl (sR _ ((hf.iu i hi).1.mono (by omega))) sRM
   rw [w9_,Rat.mul_zero] at h;exact h
 have cb:∀ i:Q2->Rat,i=i1∨i=i2->VP Tryz.prog G fM [NV (i f.v),(c.nB (L4 0 0 (f.r*(1/c.q2)))).av] (.tup [(c.nB (L4 0 0 (i f.v*(f.r*(1/c.q2))))).av, .int .i64 0]):=fun i hi=>by
   have h:=o.mul (k := .R) (l := .B) rfl (r2 (i f.v)) (L4 0 0 (f.r*(1/c.q2))) rfl rfl (sR _ ((hf.iu i hi).2.1.mono (by omega))) sRN
   rw [w9_,Rat.mul_zero] at h;exact h
 have cc:∀ i:Q2->Rat,i=i1∨i=i2->VP Tryz.prog G fA [(c.nA (L4 0 (i f.u*(f.r*(1/c.q1))) 0)).av,(c.nB (L4 0 0 (i f.v*(f.r*(1/c.q2))))).av] (.tup [(c.nT (f.ab c.q1 c.q2 i)).av, .int .i64 0]):=fun i hi=>by
   have h:=o.add (k := .A) (l := .B) rfl (L4 0 (i f.u*(f.r*(1/c.q1))) 0) (L4 0 0 (i f.v*(f.r*(1/c.q2)))) rfl rfl (s4 z (((hf.iu i hi).1.mul srm).mono (by omega)) z z) (s4 z z (((hf.iu i hi).2.1.mul srn).mono (by omega)) z)
   rw [wB_] at h;exact h
 have ck:∀ i:Q2->Rat,i=i1∨i=i2->VP Tryz.prog G fM [(c.nT (f.ab c.q1 c.q2 i)).av,(c.nT ((0,0),(0,1/f.w))).av] (.tup [(c.nT (f.ce i)).av, .int .i64 0]):=fun i hi=>by
   have h:=o.mul (k := .T) (l := .T) rfl (f.ab c.q1 c.q2 i) _ trivial trivial (Hw i hi) sMC
   unfold FG.ab at h;rw [wD_ c.p1 c.p2] at h;exact h
 have hT:=o.Ux d ((f.r*f.d,0),(0,f.r)) f.w (FG.w0 hx) (s4 ((hf.r.mul sd).mono (by omega)) z z (hf.r.mono (by omega))) (hf.w.mono (by omega))
 rw [w4_] at hT
 have hTM:=o.akp d _ st
 rw [w7_ c.p1] at hTM
 have hTN:=o.akq d _ st
 rw [w8_ c.p2] at hTN
 have hRM:=o.ae3 d f.r (hf.r.mono (by omega))
 rw [wE_] at hRM
 have hRN:=o.ae4 d f.r (hf.r.mono (by omega))
 rw [wF_] at hRN
 have hMC:=o.Ux d ZH f.w (FG.w0 hx) sMN (hf.w.mono (by omega))
 rw [wC_] at hMC
 have hMN:=o.mul (k := .A) (l := .B) rfl rA rB rfl rfl sA sB
 rw [w1_] at hMN
 have hS:=o.add (k := .T) (l := .R) rfl ZH (r2 f.d) trivial rfl sMN (sR _ (sd.mono (by omega)))
 rw [w2_] at hS
 have hRS:=o.mul (k := .R) (l := .T) rfl (r2 f.r) ((f.d,0),(0,1)) rfl trivial (sR _ (hf.r.mono (by omega))) (s4 (sd.mono (by omega)) z z e1)
 rw [w3_] at hRS
 have hX:=o.sub (k := .A) (l := .T) rfl rA (tQ f.d f.k) rfl trivial sA st
 rw [w5_] at hX
 have hY:=o.sub (k := .B) (l := .T) rfl rB (tQ f.d f.k) rfl trivial sB st
 rw [w6_] at hY
 have z4:Go.VL.Sm 800 (0:Rat):=Sm.zero.mono (by omega)
 have e4:Go.VL.Sm 800 (1:Rat):=dz.mono (by omega)
 have gX:=o.sgn .T (.inl rfl) (xQ f.d f.k) (s4 (WG.neg.mono (by omega)) e4 z4 (sk.neg.mono (by omega)))
 have gY:=o.sgn .U (.inr rfl) (yQ f.d f.k) (s4 (WG.neg.mono (by omega)) z4 e4 (sk.neg.mono (by omega)))
 exact ⟨hMN,hS,hRS,hT,hX,hY,gX,gY,hTM,cd i1 (.inl rfl),cd i2 (.inr rfl),cf i1 (.inl rfl),cf i2 (.inr rfl),hTN,ch i1 (.inl rfl),ch i2 (.inr rfl),cp i1 (.inl rfl),cp i2 (.inr rfl),hRM,ca i1 (.inl rfl),ca i2 (.inr rfl),hRN,cb i1 (.inl rfl),cb i2 (.inr rfl),cc i1 (.inl rfl),cc i2 (.inr rfl),hMC,ck i1 (.inl rfl),ck i2 (.inr rfl),cq i1 (.inl rfl),cq i2 (.inr rfl)⟩
end Go.Proofs.YtndoagbiakehnaaGreat
end

section
set_option maxRecDepth 100000
namespace Go.Proofs.YtndoagbiakehnaaGreat
open Go.VL Go.Proofs Go.Lib
section
variable {u1 u2 v1 v2 k j q:Rat}
theorem id1 (hq:u1*u1+u2*u2=q) (hj:q*j=1):u1*(k*(u1*v1+u2*v2)*j) + -(v1*k)=k*(-u2*v1+u1*v2)*j*u2:=by
 have h:v1*k=v1*k*(q*j):=by rw [hj];grind
 rw [h, <- hq];grind
theorem Hp (hq:u1*u1+u2*u2=q) (hj:q*j=1):u2*(k*(u1*v1+u2*v2)*j) + -(v2*k) = -(k*(-u2*v1+u1*v2)*j*u1):=by
 have h:v2*k=v2*k*(q*j):=by rw [hj];grind
 rw [h, <- hq];grind
theorem id3 (hq:v1*v1+v2*v2=q) (hj:q*j=1):v1*(k*(u1*v1+u2*v2)*j) + -(u1*k) = -(k*(-u2*v1+u1*v2)*j*v2):=by
 have h:u1*k=u1*k*(q*j):=by rw [hj];grind
 rw [h, <- hq];grind
theorem id4 (hq:v1*v1+v2*v2=q) (hj:q*j=1):v2*(k*(u1*v1+u2*v2)*j) + -(u2*k)=k*(-u2*v1+u1*v2)*j*v1:=by
 have h:u2*k=u2*k*(q*j):=by rw [hj];grind
 rw [h, <- hq];grind
end
def FG.s (f:FG):Rat:=f.k*f.x
theorem FG.ae5 {f:FG} (h:f.x≠0):f.s=f.r∨f.s = -f.r:=by
 have hi:f.w*(1/f.w)=1:=by rw [Rat.div_def,Rat.one_mul,Rat.mul_inv_cancel _ (FG.w0 h)]
 unfold FG.s FG.k
 generalize hj:1/f.w=j at *
 unfold FG.w at hi
 split at hi
 . right
   have:f.r*j*f.x = -(f.r*(-f.x*j)):=by grind
   rw [this,hi];grind
 . left
   have:f.r*j*f.x=f.r*(f.x*j):=by grind
   rw [this,hi];grind
theorem FG.ae6 {f:FG} (h:f.x≠0):f.s*f.s=f.r*f.r:=by
 rcases FG.ae5 h with e | e<;>rw [e]<;>grind
theorem FG.ZJ {f:FG} (hf:f.Sm) (h:f.x≠0):Go.VL.Sm 20 f.s:=by
 rcases FG.ae5 h with e | e<;>rw [e]
 . exact hf.r
 . exact hf.r.neg
def FG.g1 (f:FG) (q1:Rat):Q4:=L4 0 (f.s*(1/q1)*f.u.2) 0
def FG.g2 (f:FG) (q1:Rat):Q4:=L4 0 (-(f.s*(1/q1)*f.u.1)) 0
def FG.h1 (f:FG) (q2:Rat):Q4:=L4 0 0 (-(f.s*(1/q2)*f.v.2))
def FG.h2 (f:FG) (q2:Rat):Q4:=L4 0 0 (f.s*(1/q2)*f.v.1)
section
variable {f:FG} {q1 q2:Rat}
theorem fc1 (hq:cX f.u f.u=q1) (hp:0<q1.num):bO (f.fy q1 i1) (bQ (f.g7 i1))=f.g1 q1:=by
 have e:=id1 (u1:=f.u.1) (u2:=f.u.2) (v1:=f.v.1) (v2:=f.v.2) (k:=f.k) (j:=1/q1) (q:=q1) hq (cZ hp)
 unfold FG.fy FG.g7 FG.g1 FG.s FG.x bO bQ cY j3
 refine dt ?_ ?_ ?_ ?_<;>simp only []
 . grind
 . exact e
 . grind
 . grind
theorem fc2 (hq:cX f.u f.u=q1) (hp:0<q1.num):bO (f.fy q1 i2) (bQ (f.g7 i2))=f.g2 q1:=by
 have e:=Hp (u1:=f.u.1) (u2:=f.u.2) (v1:=f.v.1) (v2:=f.v.2) (k:=f.k) (j:=1/q1) (q:=q1) hq (cZ hp)
 unfold FG.fy FG.g7 FG.g2 FG.s FG.x bO bQ cY j3
 refine dt ?_ ?_ ?_ ?_<;>simp only []
 . grind
 . exact e
 . grind
 . grind
theorem tc1 (hq:cX f.v f.v=q2) (hp:0<q2.num):bO (f.sV q2 i1) (bQ (f.g7 i1))=f.h1 q2:=by
 have e:=id3 (u1:=f.u.1) (u2:=f.u.2) (v1:=f.v.1) (v2:=f.v.2) (k:=f.k) (j:=1/q2) (q:=q2) hq (cZ hp)
 unfold FG.sV FG.g7 FG.h1 FG.s FG.x bO bQ cY j3
 refine dt ?_ ?_ ?_ ?_<;>simp only []
 . grind
 . grind
 . exact e
 . grind
theorem tc2 (hq:cX f.v f.v=q2) (hp:0<q2.num):bO (f.sV q2 i2) (bQ (f.g7 i2))=f.h2 q2:=by
 have e:=id4 (u1:=f.u.1) (u2:=f.u.2) (v1:=f.v.1) (v2:=f.v.2) (k:=f.k) (j:=1/q2) (q:=q2) hq (cZ hp)
 unfold FG.sV FG.g7 FG.h2 FG.s FG.x bO bQ cY j3
 refine dt ?_ ?_ ?_ ?_<;>simp only []
 . grind
 . grind
 . exact e
 . grind
theorem sqm {y:Rat}:bD q1 q2 (L4 0 y 0) (L4 0 y 0)=r2 (q1*(y*y)):=by unfold bD aR cY;apply dt<;>simp only []<;>grind
theorem sqn {y:Rat}:bD q1 q2 (L4 0 0 y) (L4 0 0 y)=r2 (q2*(y*y)):=by unfold bD aR cY;apply dt<;>simp only []<;>grind
theorem WH {x y:Rat}:bO (r2 x) (r2 y)=r2 (x+y):=by unfold bO cY;apply dt<;>simp only []<;>grind
theorem aky (hx:f.x≠0) (hq:cX f.u f.u=q1) (hp:0<q1.num):bO (bD q1 q2 (f.g1 q1) (f.g1 q1)) (bD q1 q2 (f.g2 q1) (f.g2 q1))=r2 (f.r*f.r):=by
 have e:=cZ hp
 have hs:=FG.ae6 hx
 unfold FG.g1 FG.g2
 rw [sqm,sqm,WH, <- hs]
 generalize 1/q1=j at *
 have hq':f.u.1*f.u.1+f.u.2*f.u.2=q1:=hq
 have t:q1*(f.s*j*f.u.2*(f.s*j*f.u.2))+q1*(-(f.s*j*f.u.1) * -(f.s*j*f.u.1))=f.s*f.s*(q1*j)*((f.u.1*f.u.1+f.u.2*f.u.2)*j):=by grind
 rw [t,hq',e];unfold r2;apply dt<;>simp only []<;>grind
theorem akz (hx:f.x≠0) (hq:cX f.v f.v=q2) (hp:0<q2.num):bO (bD q1 q2 (f.h1 q2) (f.h1 q2)) (bD q1 q2 (f.h2 q2) (f.h2 q2))=r2 (f.r*f.r):=by
 have e:=cZ hp
 have hs:=FG.ae6 hx
 unfold FG.h1 FG.h2
 rw [sqn,sqn,WH, <- hs]
 generalize 1/q2=j at *
 have hq':f.v.1*f.v.1+f.v.2*f.v.2=q2:=hq
 have t:q2*(-(f.s*j*f.v.2) * -(f.s*j*f.v.2))+q2*(f.s*j*f.v.1*(f.s*j*f.v.1))=f.s*f.s*(q2*j)*((f.v.1*f.v.1+f.v.2*f.v.2)*j):=by grind
 rw [t,hq',e];unfold r2;apply dt<;>simp only []<;>grind
def FG.du (f:FG) (q1:Rat) (i:Q2->Rat):Q4:=L4 (-(i f.u)) (i f.u*(f.k*f.d*(1/q1))) (i f.u*f.k)
def FG.dv (f:FG) (q2:Rat) (i:Q2->Rat):Q4:=L4 (-(i f.v)) (i f.v*f.k) (i f.v*(f.k*f.d*(1/q2)))
theorem fa1:bO (f.fy q1 i1) (bQ (r2 (i1 f.a)))=f.du q1 i1:=by
 unfold FG.fy FG.du FG.u bR bO bQ cY j3;apply dt<;>simp only []<;>grind
theorem fa2:bO (f.fy q1 i2) (bQ (r2 (i2 f.a)))=f.du q1 i2:=by
 unfold FG.fy FG.du FG.u bR bO bQ cY j3;apply dt<;>simp only []<;>grind
theorem tb1:bO (f.sV q2 i1) (bQ (r2 (i1 f.b)))=f.dv q2 i1:=by
 unfold FG.sV FG.dv FG.v bR bO bQ cY j3;apply dt<;>simp only []<;>grind
theorem tb2:bO (f.sV q2 i2) (bQ (r2 (i2 f.b)))=f.dv q2 i2:=by
 unfold FG.sV FG.dv FG.v bR bO bQ cY j3;apply dt<;>simp only []<;>grind
theorem ae7 {i:Q2->Rat} (h:i f.u≠0) (hp:0<q1.num):bD q1 q2 (f.du q1 i) ((0, -(1/i f.u)),(0,0))=xQ f.d f.k:=by
 have e:=cZ hp
 have e2:i f.u*(1/i f.u)=1:=by rw [Rat.div_def,Rat.one_mul,Rat.mul_inv_cancel _ h]
 unfold FG.du xQ bD aR cY
 generalize 1/q1=j at *
 generalize hU:i f.u=U at *
 generalize 1/U=V at *
 apply dt<;>simp only []
 . have t : -U*0+U*(f.k*f.d*j) * -V*q1+(U*f.k*0+0*0*q1)*q2+0 = -(f.k*f.d*(q1*j)*(U*V)):=by grind
   have t2 : -(f.k*f.d*(q1*j)*(U*V)) = -(f.k*f.d):=by rw [e,e2];grind
   grind
 . grind
 . grind
 . have t:U*f.k * -V = -(f.k*(U*V)):=by grind
   have t2 : -(f.k*(U*V)) = -f.k:=by rw [e2];grind
   grind
theorem ae8 {i:Q2->Rat} (h:i f.v≠0) (hp:0<q2.num):bD q1 q2 (f.dv q2 i) ((0,0),(-(1/i f.v),0))=yQ f.d f.k:=by
 have e:=cZ hp
 have e2:i f.v*(1/i f.v)=1:=by rw [Rat.div_def,Rat.one_mul,Rat.mul_inv_cancel _ h]
 unfold FG.dv yQ bD aR cY
 generalize 1/q2=j at *
 generalize hU:i f.v=U at *
 generalize 1/U=V at *
 apply dt<;>simp only []
 . have t2:f.k*f.d*(q2*j)*(U*V)=f.k*f.d:=by rw [e,e2];grind
   grind
 . grind
 . grind
 . have t2:f.k*(U*V)=f.k:=by rw [e2];grind
   grind
structure LnU (p u:Q2) (l:Rat × Rat × Rat) (j:Rat):Prop where
 e1:l.1 = -u.2*j
 e2:l.2.1=u.1*j
 e3:l.2.2=(-u.2*p.1+u.1*p.2)*j
 j0:j≠0
 js:Go.VL.Sm 42 j
end
end Go.Proofs.YtndoagbiakehnaaGreat
end

section
set_option maxRecDepth 100000
namespace Go.Proofs.YtndoagbiakehnaaGreat
open Go.VL Go.Proofs Go.Lib
theorem nk {x:Rat}:0<x.num↔0<x:=by
 have h1:=Rat.num_nonneg (q:=x)
 have h2:=Rat.num_eq_zero (q:=x)
 constructor
 . intro h
   have a:=h1.1 (by omega)
   have b:x≠0:=fun e=>by have:=h2.2 e;omega
   grind
 . intro h
   have a:=h1.2 (by grind)
   have b:x.num≠0:=fun e=>by have:=h2.1 e;grind
   omega
theorem ZK {x:Rat}:az x=1↔0<x:=by
 rw [<- nk]
 unfold az
 rcases Int.lt_trichotomy x.num 0 with h | h | h
 . rw [Int.sign_eq_neg_one_of_neg h];omega
 . rw [h];decide
 . rw [Int.sign_eq_one_of_pos h];omega
theorem sq_pos {x:Rat} (h:x≠0):0<x*x:=by
 rcases (by grind:x<0∨0<x) with h | h
 . have:=Rat.mul_pos (show (0:Rat) < -x by grind) (show (0:Rat) < -x by grind)
   grind
 . exact Rat.mul_pos h h
theorem DW (q x:Rat):gh q (x,0)=az x:=by
 unfold gh
 rw [if_pos (.inl (by rfl))]
theorem K7 {r:Rat} {k:Nat} (h:Sm k (r*r)):Sm k r:=by
 obtain ⟨e1,e2⟩:=Ah r
 obtain ⟨h1,h2⟩:=h
 rw [e1,Int.natAbs_mul] at h1
 rw [e2] at h2
 exact ⟨Nat.le_trans (aP (Nat.le_mul_self _)) h1,Nat.le_trans (aP (Nat.le_mul_self _)) h2⟩
theorem Rw {q:Rat} (hq:0<q) (hs:Sm 200 q):∃ b l,pV q b l:=by
 by_cases h:∃ r:Rat,r*r=q
 . obtain ⟨r,hr⟩:=h
   have hr0:r≠0:=fun e=>by rw [e] at hr;grind
   have Nu:=K7 (hr▸hs:Sm 200 (r*r))
   rcases (by grind:r<0∨0<r) with h | h
   . exact ⟨false,(-r,0),nk.2 hq,hs,⟨Nu.neg,Sm.zero.mono (by omega)⟩, .inr ⟨rfl,rfl,by simp only [];grind,nk.2 (by simp only [];grind)⟩⟩
   . exact ⟨false,(r,0),nk.2 hq,hs,⟨Nu,Sm.zero.mono (by omega)⟩, .inr ⟨rfl,rfl,hr,nk.2 h⟩⟩
 . exact ⟨true,(0,1),nk.2 hq,hs,⟨Sm.zero.mono (by omega),Rt.mono (by omega)⟩, .inl ⟨rfl,rfl,fun r hr=>h ⟨r,hr⟩⟩⟩
end Go.Proofs.YtndoagbiakehnaaGreat
end

section
set_option maxRecDepth 100000
namespace Go.Proofs.YtndoagbiakehnaaGreat
open Go.VL Go.Proofs Go.Lib
def wL (q:Rat):(b:Bool)->Q2->Nm b
 | true,v=>⟨[EV q],[QV v.1,QV v.2],(inferInstance:PU (T1 q)),(inferInstance:PU (E1 v))⟩
 | false,v=>nR v.1
theorem tN {q:Rat} {b:Bool} {v:Q2}:(wL q b v).av=nq q b v:=by cases b<;>rfl
structure DY (G:Nat->Option (List AV)) (fA fS fM fI fG:Nat):Prop where
 add:∀ (q:Rat) (b c:Bool) (u v:Q2),Sm 10000 q->bl 10000 u->bl 10000 v->Fl b u->Fl c v->VP Tryz.prog G fA [nq q b u,nq q c v] (.tup [nq q (b||c) (u.1+v.1,u.2+v.2), .int .i64 0])
 sub:∀ (q:Rat) (b c:Bool) (u v:Q2),Sm 10000 q->bl 10000 u->bl 10000 v->Fl b u->Fl c v->VP Tryz.prog G fS [nq q b u,nq q c v] (.tup [nq q (b||c) (u.1 + -v.1,u.2 + -v.2), .int .i64 0])
 mul:∀ (q:Rat) (b c:Bool) (u v:Q2),Sm 10000 q->bl 10000 u->bl 10000 v->Fl b u->Fl c v->VP Tryz.prog G fM [nq q b u,nq q c v] (.tup [nq q (b||c) (aR q u v), .int .i64 0])
 inv1:∀ (q:Rat) (a:Q2),cj q a≠0->Sm 1000 q->bl 1000 a->VP Tryz.prog G fI [T1 q,E1 a] (.tup [E1 (mO q a), .int .i64 0])
 inv0:∀ x:Rat,x≠0->Sm 100000 x->VP Tryz.prog G fI [.nils,EV x] (.tup [EV (1/x), .int .i64 0])
 sgn:∀ (q:Rat) (b:Bool) (v:Q2),Sm 1000 q->bl 10000 v->az q=1->Fl b v->VP Tryz.prog G fG [nq q b v] (.int .i64 (gh q v))
def jO (q:Rat) (l1 l2:Q2) (x:Q4):Q2:=(x.1.1+x.1.2*l1.1+x.2.1*l2.1+x.2.2*(aR q l1 l2).1,x.1.2*l1.2+x.2.1*l2.2+x.2.2*(aR q l1 l2).2)
theorem K8 {q:Rat} {l1 l2:Q2} {x y:Q4}:((jO q l1 l2 x).1+(jO q l1 l2 y).1,(jO q l1 l2 x).2+(jO q l1 l2 y).2)=jO q l1 l2 (bO x y):=by unfold jO bO cY;refine Prod.ext ?_ ?_<;>simp only []<;>grind
theorem K9 {q:Rat} {l1 l2:Q2} {x y:Q4}:((jO q l1 l2 x).1 + -(jO q l1 l2 y).1,(jO q l1 l2 x).2 + -(jO q l1 l2 y).2)=jO q l1 l2 (bO x (bQ y)):=by unfold jO bO cY bQ j3;refine Prod.ext ?_ ?_<;>simp only []<;>grind
theorem Lc {q:Rat} {l1 l2:Q2} {x:Q4}:(-(jO q l1 l2 x).1, -(jO q l1 l2 x).2)=jO q l1 l2 (bQ x):=by unfold jO bQ j3;refine Prod.ext ?_ ?_<;>simp only []<;>grind
theorem DZ {q q1 q2:Rat} {l1 l2:Q2} (h1:aR q l1 l1=(q1,0)) (h2:aR q l2 l2=(q2,0)) {x y:Q4}:aR q (jO q l1 l2 x) (jO q l1 l2 y)=jO q l1 l2 (bD q1 q2 x y):=by
 obtain ⟨a1,a2⟩:=l1
 obtain ⟨b1,b2⟩:=l2
 unfold aR at h1 h2
 have e1:=congrArg Prod.fst h1
 have e2:=congrArg Prod.snd h1
 have e3:=congrArg Prod.fst h2
 have e4:=congrArg Prod.snd h2
 simp only [] at e1 e2 e3 e4
 subst e1 e3
 unfold jO bD cY aR
 refine Prod.ext ?_ ?_<;>simp only []<;>grind
theorem G9 {q:Rat} {l1 l2:Q2} {x:Rat}:jO q l1 l2 (r2 x)=(x,0):=by unfold jO;refine Prod.ext ?_ ?_<;>simp only []<;>grind
theorem ZL {q:Rat} {l1 l2:Q2} {x:Q4} {k:Nat} (hq:Sm 200 q) (h1:bl 201 l1) (h2:bl 201 l2) (hx:cC k x):bl (4*k+1500) (jO q l1 l2 x):=by
 have s3:=ZG hq h1 h2
 exact ⟨(((hx.1.1.add (hx.1.2.mul h1.1)).add (hx.2.1.mul h2.1)).add (hx.2.2.mul s3.1)).mono (by omega),(((hx.1.2.mul h1.2).add (hx.2.1.mul h2.2)).add (hx.2.2.mul s3.2)).mono (by omega)⟩
theorem Cw {q:Rat} (h:0<q.num):mO q (0,1)=(0,1/q):=by
 have e:=cZ h
 have e2:cj q ((0:Rat),(1:Rat)) = -q:=by unfold cj;simp only [];grind
 unfold mO
 rw [e2]
 have e3:(1:Rat) / -q = -(1/q):=by
   have a:=Ax h
   have hm : -q*(1 / -q)=1:=by rw [Rat.div_def,Rat.one_mul,Rat.mul_inv_cancel _ (by grind)]
   generalize (1:Rat) / -q=i at *
   generalize 1/q=j at *
   have t : -q*i*j=j:=by rw [hm];grind
   have t2 : -q*i*j = -(q*j)*i:=by grind
   rw [e] at t2
   grind
 rw [e3];refine Prod.ext ?_ ?_<;>simp only []<;>grind
theorem Rx {q:Rat} {b:Bool} {v:Q2} (hn:b=true->∀ r:Rat,r*r≠q) (fv:Fl b v) (h:gh q v=0):v=(0,0):=by
 unfold gh at h
 by_cases h2:v.2=0
 . rw [if_pos (.inl (jL.2 h2))] at h
   exact Prod.ext (jL.1 h) h2
 have q2:az v.2≠0:=fun e=>h2 (jL.1 e)
 by_cases h1:az v.1=az v.2
 . rw [if_pos (.inr h1)] at h
   rw [h] at h1;exact absurd h1.symm q2
 rw [if_neg (by rw [not_or];exact ⟨q2,h1⟩)] at h
 by_cases h3:az v.1=0
 . rw [if_pos h3] at h;exact absurd h q2
 rw [if_neg h3] at h
 rcases Int.mul_eq_zero.1 h with e | e
 . exact absurd e h3
 . have e:=jL.1 e
   cases b
   . exact absurd (fv rfl) h2
   . refine absurd ?_ (hn rfl (v.1/v.2))
     rw [Rat.div_def]
     have hi:v.2*v.2⁻¹ = 1:=Rat.mul_inv_cancel _ h2
     generalize v.2⁻¹ = i at *
     have e':v.1*v.1=q*(v.2*v.2):=by grind
     have t1:v.1*i*(v.1*i)=(v.1*v.1)*(i*i):=by grind
     have t2:q*(v.2*v.2)*(i*i)=q*((v.2*i)*(v.2*i)):=by grind
     rw [t1,e',t2,hi];grind
theorem Ry {q q1 q2:Rat} {b:Bool} {l1 l2:Q2} (hn:b=true->∀ r:Rat,r*r≠q) (hf:∀ x,Fl b (jO q l1 l2 x)) (h1:aR q l1 l1=(q1,0)) (h2:aR q l2 l2=(q2,0)) {x y:Q4} (h:gh q (jO q l1 l2 x)=0):gh q (jO q l1 l2 (bD q1 q2 x y))=0:=by
 rw [<- DZ h1 h2,Rx hn (hf x) h,oU (.inl rfl)]
 unfold gh;rfl
def ku (b:Bool) (q1 q2:Rat):Rat:=match b with | true=>q1 | false=>q2
structure lK (q1 q2:Rat) (b1 b2:Bool) (l1 l2:Q2):Prop where
 h1:pV q1 b1 l1
 h2:pV q2 b2 l2
 s1:Sm 190 q1
 s2:Sm 190 q2
 one:b1=false∨b2=false
theorem Rz {q1 q:Rat} {b:Bool} {l:Q2} (h:pV q1 b l) (e:b=true->q=q1):aR q l l=(q1,0):=by
 rcases h.cs with ⟨rfl,rfl,_⟩ | ⟨_,h2,h3,_⟩
 . rw [e rfl];unfold aR;refine Prod.ext ?_ ?_<;>simp only []<;>grind
 . unfold aR;rw [h2];refine Prod.ext ?_ ?_<;>simp only []<;>grind
section
variable {q1 q2:Rat} {b1 b2:Bool} {l1 l2:Q2}
theorem lK.m1 (h:lK q1 q2 b1 b2 l1 l2):aR (ku b1 q1 q2) l1 l1=(q1,0):=Rz h.h1 (fun e=>by subst e;rfl)
theorem lK.m2 (h:lK q1 q2 b1 b2 l1 l2):aR (ku b1 q1 q2) l2 l2=(q2,0):=Rz h.h2 (fun e=>by
 rcases h.one with rfl | rfl
 . rfl
 . cases e)
theorem lK.sq (h:lK q1 q2 b1 b2 l1 l2):Sm 190 (ku b1 q1 q2):=by cases b1;exact h.s2;exact h.s1
theorem lK.pq (h:lK q1 q2 b1 b2 l1 l2):az (ku b1 q1 q2)=1:=by cases b1;exact h.h2.q1;exact h.h1.q1
theorem lK.nq (h:lK q1 q2 b1 b2 l1 l2):(b1||b2)=true->∀ r:Rat,r*r≠ku b1 q1 q2:=by
 cases b1
 . intro e;exact h.h2.no e
 . intro _;exact h.h1.no rfl
theorem lK.ff (h:lK q1 q2 b1 b2 l1 l2) (x:Q4):Fl (b1||b2) (jO (ku b1 q1 q2) l1 l2 x):=by
 intro e
 have e1:b1=false:=by revert e;cases b1<;>simp
 have e2:b2=false:=by revert e;cases b2<;>simp
 have a:=h.h1.fl e1
 have b:=h.h2.fl e2
 show x.1.2*l1.2+x.2.1*l2.2+x.2.2*(l1.1*l2.2+l1.2*l2.1)=0
 rw [a,b];grind
def lz (h:lK q1 q2 b1 b2 l1 l2):Cf where
 q1:=q1
 q2:=q2
 bA:=b1
 bB:=b2
 bT:=b1||b2
 nA:=fun x=>wL (ku b1 q1 q2) b1 (jO (ku b1 q1 q2) l1 l2 x)
 nB:=fun x=>wL (ku b1 q1 q2) b2 (jO (ku b1 q1 q2) l1 l2 x)
 nT:=fun x=>wL (ku b1 q1 q2) (b1||b2) (jO (ku b1 q1 q2) l1 l2 x)
 nU:=fun x=>wL (ku b1 q1 q2) (b1||b2) (jO (ku b1 q1 q2) l1 l2 x)
 sT:=fun x=>gh (ku b1 q1 q2) (jO (ku b1 q1 q2) l1 l2 x)
 sU:=fun x=>gh (ku b1 q1 q2) (jO (ku b1 q1 q2) l1 l2 x)
 p1:=h.h1.pos
 p2:=h.h2.pos
 s1:=h.s1
 s2:=h.s2
 zr:=fun x=>by rw [G9];exact DW _ _
 zm:=fun x y e=>Ry h.nq h.ff h.m1 h.m2 e
 zu:=fun _ e=>e
 bt:=rfl
theorem vF (h:lK q1 q2 b1 b2 l1 l2) {k:Kd} {x:Q4} (hk:k ≠ .R):((lz h).nm k x).av=nq (ku b1 q1 q2) ((lz h).fl k) (jO (ku b1 q1 q2) l1 l2 x):=by
 cases k
 . exact absurd rfl hk
 all_goals exact tN
theorem wM (h:lK q1 q2 b1 b2 l1 l2) {k:Kd} {x:Q4} (hx:Sh k x):((lz h).nm k x).av=nq (ku b1 q1 q2) ((lz h).fl k) (jO (ku b1 q1 q2) l1 l2 x):=by
 by_cases hk:k = .R
 . subst hk
   rw [show x=r2 x.1.1 from hx,G9];rfl
 . exact vF h hk
theorem tO (h:lK q1 q2 b1 b2 l1 l2) {k:Kd} {x:Q4} (hx:Sh k x):Fl ((lz h).fl k) (jO (ku b1 q1 q2) l1 l2 x):=by
 cases k
 . rw [show x=r2 x.1.1 from hx,G9];exact fun _=>rfl
 . intro e
   have a:=h.h1.fl e
   rw [show x=a2 x.1 from hx]
   show x.1.2*l1.2+0*l2.2+0*(l1.1*l2.2+l1.2*l2.1)=0
   rw [a];grind
 . intro e
   have a:=h.h2.fl e
   rw [show x=((x.1.1,0),(x.2.1,0)) from hx]
   show 0*l1.2+x.2.1*l2.2+0*(l1.1*l2.2+l1.2*l2.1)=0
   rw [a];grind
 . exact h.ff x
 . exact h.ff x
theorem pW (h:lK q1 q2 b1 b2 l1 l2) {x:Q4} (hx:cC 1000 x):bl 10000 (jO (ku b1 q1 q2) l1 l2 x):=(ZL (h.sq.mono (by omega)) (h.h1.sl.mono (by omega)) (h.h2.sl.mono (by omega)) hx).mono (by omega)
theorem RA {k l:Kd} {m:Kd} (e:jA k l=some m∨jS k l=some m∨jM k l=some m):m ≠ .R:=by
 rcases e with e | e | e<;>cases k<;>cases l<;>cases e<;>decide
theorem RB (h:lK q1 q2 b1 b2 l1 l2) {k l:Kd} {m:Kd} (e:jA k l=some m∨jS k l=some m∨jM k l=some m):(lz h).fl m=((lz h).fl k||(lz h).fl l):=by
 rcases e with e | e | e<;>cases k<;>cases l<;>cases e<;>simp only [Cf.fl,lz]<;>cases b1<;>cases b2<;>rfl
theorem RD {G:Nat->Option (List AV)} {fA fS fM fI fG:Nat} (lo:DY G fA fS fM fI fG) (h:lK q1 q2 b1 b2 l1 l2):rh G (lz h) fA fS fM fI fG where
 add:=fun {k l m} e x y hx hy sx sy=>by
   rw [wM h hx,wM h hy,vF h (RA (.inl e)),RB h (.inl e), <- K8]
   exact lo.add _ _ _ _ _ (h.sq.mono (by omega)) (pW h sx) (pW h sy) (tO h hx) (tO h hy)
 sub:=fun {k l m} e x y hx hy sx sy=>by
   rw [wM h hx,wM h hy,vF h (RA (.inr (.inl e))),RB h (.inr (.inl e)), <- K9]
   exact lo.sub _ _ _ _ _ (h.sq.mono (by omega)) (pW h sx) (pW h sy) (tO h hx) (tO h hy)
 mul:=fun {k l m} e x y hx hy sx sy=>by
   rw [wM h hx,wM h hy,vF h (RA (.inr (.inr e))),RB h (.inr (.inr e)),show bD (lz h).q1 (lz h).q2 x y=bD q1 q2 x y from rfl, <- DZ h.m1 h.m2]
   exact lo.mul _ _ _ _ _ (h.sq.mono (by omega)) (pW h sx) (pW h sy) (tO h hx) (tO h hy)
 invm:=by
   have e1:jO (ku b1 q1 q2) l1 l2 rA=l1:=by unfold jO;refine Prod.ext ?_ ?_<;>simp only []<;>grind
   have e2:jO (ku b1 q1 q2) l1 l2 (K6 q1)=(l1.1*(1/q1),l1.2*(1/q1)):=by unfold jO;refine Prod.ext ?_ ?_<;>simp only []<;>grind
   show VP Tryz.prog G fI [re b1 (wL (ku b1 q1 q2) b1 (jO (ku b1 q1 q2) l1 l2 rA)).l, .sl 4 (wL (ku b1 q1 q2) b1 (jO (ku b1 q1 q2) l1 l2 rA)).m] (.tup [.sl 4 (wL (ku b1 q1 q2) b1 (jO (ku b1 q1 q2) l1 l2 (K6 q1))).m, .int .i64 0])
   rw [e1,e2]
   rcases h.h1.iv.2 with ⟨rfl,rfl,e⟩ | ⟨rfl,e3,e4,e5,e⟩
   . have:=lo.inv1 q1 (0,1) h.h1.n0 (h.s1.mono (by omega)) (h.h1.sl.mono (by omega))
     rw [e] at this
     rw [Rat.zero_mul,Rat.one_mul]
     exact this
   . have:=lo.inv0 l1.1 e4 (h.h1.sl.1.mono (by omega))
     have e6:1/l1.1=l1.1*(1/q1):=by
       rw [<- e5,Rat.div_def,Rat.div_def,Rat.one_mul,Rat.one_mul,Rat.inv_mul_rev]
       have:=Rat.mul_inv_cancel _ e4
       generalize l1.1⁻¹ = i at *
       grind
     rw [e6] at this
     exact this
 invn:=by
   have e1:jO (ku b1 q1 q2) l1 l2 rB=l2:=by unfold jO;refine Prod.ext ?_ ?_<;>simp only []<;>grind
   have e2:jO (ku b1 q1 q2) l1 l2 (ND q2)=(l2.1*(1/q2),l2.2*(1/q2)):=by unfold jO;refine Prod.ext ?_ ?_<;>simp only []<;>grind
   show VP Tryz.prog G fI [re b2 (wL (ku b1 q1 q2) b2 (jO (ku b1 q1 q2) l1 l2 rB)).l, .sl 4 (wL (ku b1 q1 q2) b2 (jO (ku b1 q1 q2) l1 l2 rB)).m] (.tup [.sl 4 (wL (ku b1 q1 q2) b2 (jO (ku b1 q1 q2) l1 l2 (ND q2))).m, .int .i64 0])
   rw [e1,e2]
   rcases h.h2.iv.2 with ⟨rfl,rfl,e⟩ | ⟨rfl,e3,e4,e5,e⟩
   . have hb:b1=false:=by rcases h.one with a | a;exact a;cases a
     subst hb
     have:=lo.inv1 q2 (0,1) h.h2.n0 (h.s2.mono (by omega)) (h.h2.sl.mono (by omega))
     rw [e] at this
     rw [Rat.zero_mul,Rat.one_mul]
     exact this
   . have:=lo.inv0 l2.1 e4 (h.h2.sl.1.mono (by omega))
     have e6:1/l2.1=l2.1*(1/q2):=by
       rw [<- e5,Rat.div_def,Rat.div_def,Rat.one_mul,Rat.one_mul,Rat.inv_mul_rev]
       have:=Rat.mul_inv_cancel _ e4
       generalize l2.1⁻¹ = i at *
       grind
     rw [e6] at this
     exact this
 eqm:=by show (wL (ku b1 q1 q2) b1 _).l=(wL (ku b1 q1 q2) b1 _).l;cases b1<;>rfl
 eqn:=by show (wL (ku b1 q1 q2) b2 _).l=(wL (ku b1 q1 q2) b2 _).l;cases b2<;>rfl
 sgn:=fun k hk x sx=>by
   have hm:k ≠ .R:=by rcases hk with rfl | rfl<;>decide
   have hS:Sh k x:=by rcases hk with rfl | rfl<;>trivial
   have hs:(lz h).sg k x=gh (ku b1 q1 q2) (jO (ku b1 q1 q2) l1 l2 x):=by rcases hk with rfl | rfl<;>rfl
   rw [vF h hm,hs]
   exact lo.sgn _ _ _ (h.sq.mono (by omega)) (pW h (sx.mono (by omega))) h.pq (tO h hS)
end
structure IU (G:Nat->Option (List AV)) (fA fS fM:Nat):Prop where
 add:∀ {p q w:Rat},sQ p q w->∀ u v:Q2,bl 2900 u->bl 2900 v->VP Tryz.prog G fA [N1 p u,N1 q v] (.tup [N1 p (u.1+v.1,u.2+v.2*w), .int .i64 0])
 sub:∀ {p q w:Rat},sQ p q w->∀ u v:Q2,bl 2900 u->bl 2900 v->VP Tryz.prog G fS [N1 p u,N1 q v] (.tup [N1 p (u.1 + -v.1,u.2 + -(v.2*w)), .int .i64 0])
 mul:∀ {p q w:Rat},sQ p q w->∀ u v:Q2,bl 2900 u->bl 2900 v->VP Tryz.prog G fM [N1 p u,N1 q v] (.tup [N1 p (aR p u (v.1,v.2*w)), .int .i64 0])
section
variable {q1 q2 w:Rat}
theorem sQ.wi (h:sQ q1 q2 w):w*(1/w)=1:=cZ h.w0
theorem sQ.inv (h:sQ q1 q2 w) (hs:Sm 399 w):sQ q2 q1 (1/w):=⟨h.q0,h.p0,rT (by decide) h.w0,h.sq,h.sp,h.nq,h.np,by
   have e:=h.e
   have a:=Ax h.p0
   have b:=Ax h.q0
   have e1:=h.wi
   generalize 1/w=i at *
   rw [Rat.div_def] at e ⊢
   have e2:=Rat.mul_inv_cancel _ a
   have e3:=Rat.mul_inv_cancel _ b
   generalize q1⁻¹ = j1 at *
   generalize q2⁻¹ = j2 at *
   have t1:w*w*(i*i)=1:=by grind
   rw [e] at t1
   have t2:q2*j1*(i*i)*(q1*j2)=(q2*j2)*(q1*j1)*(i*i):=by grind
   rw [t1,e2,e3] at t2
   grind,(dz.div hs (by omega)).mono (by omega)⟩
theorem sQ.sq2 (h:sQ q1 q2 w):w*w*q1=q2:=by
 rw [h.e,Rat.div_def]
 have:=Rat.mul_inv_cancel _ (Ax h.p0)
 generalize q1⁻¹ = i at *
 grind
theorem sQ.m1:aR q1 (0,1) (0,1)=(q1,0):=by unfold aR;refine Prod.ext ?_ ?_<;>simp only []<;>grind
theorem sQ.m2 (h:sQ q1 q2 w):aR q1 (0,w) (0,w)=(q2,0):=by rw [<- h.sq2];unfold aR;refine Prod.ext ?_ ?_<;>simp only []<;>grind
def pD (q1 w:Rat) (x:Q4):Q2:=(x.1.1+x.2.2*(w*q1),x.1.2+x.2.1*w)
theorem kv {x:Q4}:pD q1 w x=jO q1 (0,1) (0,w) x:=by unfold pD jO aR;refine Prod.ext ?_ ?_<;>simp only []<;>grind
def uD (q1 w:Rat) (x:Q4):Q2:=((pD q1 w x).1,(pD q1 w x).2*(1/w))
def Cx (h:sQ q1 q2 w):Cf where
 q1:=q1
 q2:=q2
 bA:=true
 bB:=true
 bT:=true
 nA:=fun x=>wL q1 true (pD q1 w x)
 nB:=fun x=>wL q2 true (x.1.1,x.2.1)
 nT:=fun x=>wL q1 true (pD q1 w x)
 nU:=fun x=>wL q2 true (uD q1 w x)
 sT:=fun x=>gh q1 (pD q1 w x)
 sU:=fun x=>gh q2 (uD q1 w x)
 p1:=h.p0
 p2:=h.q0
 s1:=h.sp
 s2:=h.sq
 zr:=fun x=>by rw [kv,G9];exact DW _ _
 zm:=fun x y e=>by
   rw [kv] at e ⊢
   exact Ry (b:=true) (fun _=>h.np) (fun _=>vI) sQ.m1 h.m2 e
 zu:=fun x e=>by
   have e:=Rx (b:=true) (fun _=>h.np) vI e
   unfold uD;rw [e,Rat.zero_mul]
   unfold gh;rfl
 bt:=rfl
theorem sW (h:sQ q1 q2 w) {x:Q4} {k:Nat} (hx:cC k x):bl (2*k+591) (pD q1 w x) :=
 ⟨(hx.1.1.add (hx.2.2.mul (h.sw.mul h.sp))).mono (by omega),(hx.1.2.add (hx.2.1.mul h.sw)).mono (by omega)⟩
theorem ZM {x y:Q4}:((pD q1 w x).1+(pD q1 w y).1,(pD q1 w x).2+(pD q1 w y).2)=pD q1 w (bO x y):=by rw [kv,kv,kv];exact K8
theorem ZN {x y:Q4}:((pD q1 w x).1 + -(pD q1 w y).1,(pD q1 w x).2 + -(pD q1 w y).2)=pD q1 w (bO x (bQ y)):=by rw [kv,kv,kv];exact K9
theorem tP (h:sQ q1 q2 w) {x y:Q4}:aR q1 (pD q1 w x) (pD q1 w y)=pD q1 w (bD q1 q2 x y):=by rw [kv,kv,kv];exact DZ sQ.m1 h.m2
theorem IW {x:Rat}:pD q1 w (r2 x)=(x,0):=by rw [kv];exact G9
theorem Uy {v:Q2}:pD q1 w (b2 v)=(v.1,v.2*w):=by unfold pD;refine Prod.ext ?_ ?_<;>simp only []<;>grind
theorem RE {G:Nat->Option (List AV)} {fA fS fM fI fG:Nat} (lo:DY G fA fS fM fI fG) (dp:IU G fA fS fM) (h:sQ q1 q2 w) (h':sQ q2 q1 (1/w)):rh G (Cx h) fA fS fM fI fG where
 add := fun {k l m} e x y hx hy sx sy=>by
   have s1:=sW h sx
   have s2:=sW h sy
   have ea:=ZM (q1:=q1) (w:=w) (x:=x) (y:=y)
   have vx:bl 10000 (x.1.1,(0:Rat)):=⟨sx.1.1.mono (by omega),Sm.zero.mono (by omega)⟩
   have vy:bl 10000 (y.1.1,(0:Rat)):=⟨sy.1.1.mono (by omega),Sm.zero.mono (by omega)⟩
   cases k<;>cases l<;>cases e
   . -- R T
     have:=lo.add q1 false true (x.1.1,0) (pD q1 w y) (h.sp.mono (by omega)) vx (s2.mono (by omega)) (fun _=>rfl) vI
     show VP Tryz.prog G fA [NV x.1.1,N1 q1 (pD q1 w y)] (.tup [N1 q1 (pD q1 w (bO x y)), .int .i64 0])
     rw [<- ea,show pD q1 w x=(x.1.1,0) from by rw [show x=r2 x.1.1 from hx];exact IW]
     exact this
   . -- A B
     have:=dp.add h (pD q1 w x) (y.1.1,y.2.1) (s1.mono (by omega)) ⟨sy.1.1.mono (by omega),sy.2.1.mono (by omega)⟩
     show VP Tryz.prog G fA [N1 q1 (pD q1 w x),N1 q2 (y.1.1,y.2.1)] (.tup [N1 q1 (pD q1 w (bO x y)), .int .i64 0])
     rw [<- ea,show pD q1 w y=(y.1.1,y.2.1*w) from by rw [show y=b2 (y.1.1,y.2.1) from hy];exact Uy]
     exact this
   . -- T R
     have:=lo.add q1 true false (pD q1 w x) (y.1.1,0) (h.sp.mono (by omega)) (s1.mono (by omega)) vy vI (fun _=>rfl)
     show VP Tryz.prog G fA [N1 q1 (pD q1 w x),NV y.1.1] (.tup [N1 q1 (pD q1 w (bO x y)), .int .i64 0])
     rw [<- ea,show pD q1 w y=(y.1.1,0) from by rw [show y=r2 y.1.1 from hy];exact IW]
     exact this
   . -- T T
     have:=lo.add q1 true true (pD q1 w x) (pD q1 w y) (h.sp.mono (by omega)) (s1.mono (by omega)) (s2.mono (by omega)) vI vI
     rw [ea] at this
     exact this
 sub := fun {k l m} e x y hx hy sx sy=>by
   have s1:=sW h sx
   have s2:=sW h sy
   have ea:=ZN (q1:=q1) (w:=w) (x:=x) (y:=y)
   have vx:bl 10000 (x.1.1,(0:Rat)):=⟨sx.1.1.mono (by omega),Sm.zero.mono (by omega)⟩
   have vy:bl 10000 (y.1.1,(0:Rat)):=⟨sy.1.1.mono (by omega),Sm.zero.mono (by omega)⟩
   cases k<;>cases l<;>cases e
   . -- R T
     have:=lo.sub q1 false true (x.1.1,0) (pD q1 w y) (h.sp.mono (by omega)) vx (s2.mono (by omega)) (fun _=>rfl) vI
     show VP Tryz.prog G fS [NV x.1.1,N1 q1 (pD q1 w y)] (.tup [N1 q1 (pD q1 w (bO x (bQ y))), .int .i64 0])
     rw [<- ea,show pD q1 w x=(x.1.1,0) from by rw [show x=r2 x.1.1 from hx];exact IW]
     exact this
   . -- A T
     have:=lo.sub q1 true true (pD q1 w x) (pD q1 w y) (h.sp.mono (by omega)) (s1.mono (by omega)) (s2.mono (by omega)) vI vI
     rw [ea] at this
     exact this
   . -- B T
     have:=dp.sub h' (x.1.1,x.2.1) (pD q1 w y) ⟨sx.1.1.mono (by omega),sx.2.1.mono (by omega)⟩ (s2.mono (by omega))
     have e2:uD q1 w (bO x (bQ y))=(x.1.1 + -(pD q1 w y).1,x.2.1 + -((pD q1 w y).2*(1/w))):=by
       have e1:=h.wi
       unfold uD
       rw [<- ea,show pD q1 w x=(x.1.1,x.2.1*w) from by rw [show x=b2 (x.1.1,x.2.1) from hx];exact Uy]
       generalize 1/w=i at *
       refine Prod.ext ?_ ?_<;>simp only []<;>grind
     show VP Tryz.prog G fS [N1 q2 (x.1.1,x.2.1),N1 q1 (pD q1 w y)] (.tup [N1 q2 (uD q1 w (bO x (bQ y))), .int .i64 0])
     rw [e2];exact this
   . -- T R
     have:=lo.sub q1 true false (pD q1 w x) (y.1.1,0) (h.sp.mono (by omega)) (s1.mono (by omega)) vy vI (fun _=>rfl)
     show VP Tryz.prog G fS [N1 q1 (pD q1 w x),NV y.1.1] (.tup [N1 q1 (pD q1 w (bO x (bQ y))), .int .i64 0])
     rw [<- ea,show pD q1 w y=(y.1.1,0) from by rw [show y=r2 y.1.1 from hy];exact IW]
     exact this
   . -- T T
     have:=lo.sub q1 true true (pD q1 w x) (pD q1 w y) (h.sp.mono (by omega)) (s1.mono (by omega)) (s2.mono (by omega)) vI vI
     rw [ea] at this
     exact this
 mul := fun {k l m} e x y hx hy sx sy=>by
   have s1:=sW h sx
   have s2:=sW h sy
   have em:bD (Cx h).q1 (Cx h).q2 x y=bD q1 q2 x y:=rfl
   rw [em]
   cases k<;>cases l<;>cases e
   . -- R A
     have:=lo.mul q1 false true (x.1.1,0) (pD q1 w y) (h.sp.mono (by omega)) ⟨sx.1.1.mono (by omega),Sm.zero.mono (by omega)⟩ (s2.mono (by omega)) (fun _=>rfl) vI
     show VP Tryz.prog G fM [NV x.1.1,N1 q1 (pD q1 w y)] (.tup [N1 q1 (pD q1 w (bD q1 q2 x y)), .int .i64 0])
     rw [<- tP h]
     rw [show pD q1 w x=(x.1.1,0) from by rw [show x=r2 x.1.1 from hx];exact IW]
     exact this
   . -- R B
     have:=lo.mul q2 false true (x.1.1,0) (y.1.1,y.2.1) (h.sq.mono (by omega)) ⟨sx.1.1.mono (by omega),Sm.zero.mono (by omega)⟩ ⟨sy.1.1.mono (by omega),sy.2.1.mono (by omega)⟩ (fun _=>rfl) vI
     have e2:(((bD q1 q2 x y).1.1,(bD q1 q2 x y).2.1):Q2)=aR q2 (x.1.1,0) (y.1.1,y.2.1):=by
       rw [show x=r2 x.1.1 from hx,show y=b2 (y.1.1,y.2.1) from hy]
       unfold bD aR cY;refine Prod.ext ?_ ?_<;>simp only []<;>grind
     show VP Tryz.prog G fM [NV x.1.1,N1 q2 (y.1.1,y.2.1)] (.tup [N1 q2 ((bD q1 q2 x y).1.1,(bD q1 q2 x y).2.1), .int .i64 0])
     rw [e2];exact this
   . -- R T
     have:=lo.mul q1 false true (x.1.1,0) (pD q1 w y) (h.sp.mono (by omega)) ⟨sx.1.1.mono (by omega),Sm.zero.mono (by omega)⟩ (s2.mono (by omega)) (fun _=>rfl) vI
     show VP Tryz.prog G fM [NV x.1.1,N1 q1 (pD q1 w y)] (.tup [N1 q1 (pD q1 w (bD q1 q2 x y)), .int .i64 0])
     rw [<- tP h]
     rw [show pD q1 w x=(x.1.1,0) from by rw [show x=r2 x.1.1 from hx];exact IW]
     exact this
   . -- A B
     have:=dp.mul h (pD q1 w x) (y.1.1,y.2.1) (s1.mono (by omega)) ⟨sy.1.1.mono (by omega),sy.2.1.mono (by omega)⟩
     show VP Tryz.prog G fM [N1 q1 (pD q1 w x),N1 q2 (y.1.1,y.2.1)] (.tup [N1 q1 (pD q1 w (bD q1 q2 x y)), .int .i64 0])
     rw [<- tP h]
     rw [show pD q1 w y=(y.1.1,y.2.1*w) from by rw [show y=b2 (y.1.1,y.2.1) from hy];exact Uy]
     exact this
   . -- T R
     have:=lo.mul q1 true false (pD q1 w x) (y.1.1,0) (h.sp.mono (by omega)) (s1.mono (by omega)) ⟨sy.1.1.mono (by omega),Sm.zero.mono (by omega)⟩ vI (fun _=>rfl)
     show VP Tryz.prog G fM [N1 q1 (pD q1 w x),NV y.1.1] (.tup [N1 q1 (pD q1 w (bD q1 q2 x y)), .int .i64 0])
     rw [<- tP h]
     rw [show pD q1 w y=(y.1.1,0) from by rw [show y=r2 y.1.1 from hy];exact IW]
     exact this
   . -- T A
     have:=lo.mul q1 true true (pD q1 w x) (pD q1 w y) (h.sp.mono (by omega)) (s1.mono (by omega)) (s2.mono (by omega)) vI vI
     rw [tP h] at this
     exact this
   . -- T B
     have:=dp.mul h (pD q1 w x) (y.1.1,y.2.1) (s1.mono (by omega)) ⟨sy.1.1.mono (by omega),sy.2.1.mono (by omega)⟩
     show VP Tryz.prog G fM [N1 q1 (pD q1 w x),N1 q2 (y.1.1,y.2.1)] (.tup [N1 q1 (pD q1 w (bD q1 q2 x y)), .int .i64 0])
     rw [<- tP h]
     rw [show pD q1 w y=(y.1.1,y.2.1*w) from by rw [show y=b2 (y.1.1,y.2.1) from hy];exact Uy]
     exact this
   . -- T T
     have:=lo.mul q1 true true (pD q1 w x) (pD q1 w y) (h.sp.mono (by omega)) (s1.mono (by omega)) (s2.mono (by omega)) vI vI
     rw [tP h] at this
     exact this
 invm:=by
   have e0:cj q1 ((0:Rat),(1:Rat))≠0:=by have:=Ax h.p0;unfold cj;simp only [];grind
   have:=lo.inv1 q1 (0,1) e0 (h.sp.mono (by omega)) ⟨Sm.zero.mono (by omega),dz.mono (by omega)⟩
   have e1:pD q1 w rA=(0,1):=by unfold pD;refine Prod.ext ?_ ?_<;>simp only []<;>grind
   have e2:pD q1 w (K6 q1)=mO q1 (0,1):=by
     rw [Cw h.p0];unfold pD;refine Prod.ext ?_ ?_<;>simp only []<;>grind
   show VP Tryz.prog G fI [T1 q1,E1 (pD q1 w rA)] (.tup [E1 (pD q1 w (K6 q1)), .int .i64 0])
   rw [e1,e2];exact this
 invn:=by
   have e0:cj q2 ((0:Rat),(1:Rat))≠0:=by have:=Ax h.q0;unfold cj;simp only [];grind
   have:=lo.inv1 q2 (0,1) e0 (h.sq.mono (by omega)) ⟨Sm.zero.mono (by omega),dz.mono (by omega)⟩
   show VP Tryz.prog G fI [T1 q2,E1 (0,1)] (.tup [E1 (0,1/q2), .int .i64 0])
   rw [Cw h.q0] at this;exact this
 eqm:=rfl
 eqn:=rfl
 sgn := fun k hk x sx=>by
   rcases hk with rfl | rfl
   . exact lo.sgn q1 true (pD q1 w x) (h.sp.mono (by omega)) ((sW h sx).mono (by omega)) (Int.sign_eq_one_of_pos h.p0) vI
   . have s:=sW h sx
     exact lo.sgn q2 true (uD q1 w x) (h.sq.mono (by omega)) ⟨s.1.mono (by omega),(s.2.mul h'.sw).mono (by omega)⟩ (Int.sign_eq_one_of_pos h.q0) vI
end
end Go.Proofs.YtndoagbiakehnaaGreat
end

section
set_option maxRecDepth 100000
namespace Go.Proofs.YtndoagbiakehnaaGreat
open Go.VL Go.Proofs Go.Lib
section
variable (G:Nat->Option (List AV))
theorem D0 {b:Bool} (X:Nm b):aC Tryz.prog G 78 [X.av, .int .i64 0] X.av:=by
 obtain ⟨l,m,pl,pm⟩:=X
 cases b<;>exact aC.tr hN [] (by kernel_rfl)
theorem ae9 {b:Bool} (X Y:Nm b):aC Tryz.prog G 142 [aV X Y, .int .i64 0] (aV X Y):=by
 obtain ⟨l,m,pl,pm⟩:=X
 obtain ⟨l2,m2,o9,pc⟩:=Y
 cases b<;>exact aC.tr hN [] (by kernel_rfl)
theorem afa {b b2 b3:Bool} {X:Nm b} {Y:Nm b2} {Z:Nm b3} (h:VP Tryz.prog G 152 [X.av,Y.av] (.tup [Z.av, .int .i64 0])):aC Tryz.prog G 84 [X.av,Y.av] Z.av:=by
 have hn:=D0 G Z
 obtain ⟨l,m,pl,pm⟩:=X
 obtain ⟨l2,m2,o9,pc⟩:=Y
 obtain ⟨l3,m3,tR,tT⟩:=Z
 cases b<;>cases b2<;>cases b3<;>exact aC.tr hN [hc h,au [1] hn] (by kernel_rfl)
theorem Nd {b b2 b3:Bool} {X:Nm b} {Y:Nm b2} {Z:Nm b3} (h:VP Tryz.prog G 153 [X.av,Y.av] (.tup [Z.av, .int .i64 0])):aC Tryz.prog G 85 [X.av,Y.av] Z.av:=by
 have hn:=D0 G Z
 obtain ⟨l,m,pl,pm⟩:=X
 obtain ⟨l2,m2,o9,pc⟩:=Y
 obtain ⟨l3,m3,tR,tT⟩:=Z
 cases b<;>cases b2<;>cases b3<;>exact aC.tr hN [hc h,au [1] hn] (by kernel_rfl)
theorem WI (f:Nat) {b0 b2 b4:Bool} {X1 X2:Nm b0} {Y1 Y2:Nm b2} {Z1 Z2:Nm b4} (h1:VP Tryz.prog G f [X1.av,Y1.av] (.tup [Z1.av, .int .i64 0])) (h2:VP Tryz.prog G f [X2.av,Y2.av] (.tup [Z2.av, .int .i64 0])):VP Tryz.prog G 156 [aV X1 X2,aV Y1 Y2, .fn (.func f) [] []] (.tup [aV Z1 Z2, .int .i64 0]):=by
 obtain ⟨l0,m0,Nf,Ng⟩:=X1
 obtain ⟨l1,m1,D3,D4⟩:=X2
 obtain ⟨l2,m2,o9,pc⟩:=Y1
 obtain ⟨l3,m3,tR,tT⟩:=Y2
 obtain ⟨l4,m4,Ld,Le⟩:=Z1
 obtain ⟨l5,m5,NF,NG⟩:=Z2
 cases b0<;>cases b2<;>cases b4<;>exact vt [hc h1,hc h2] (by kernel_rfl)
theorem Uz {b0 b2 b4:Bool} {X1 X2:Nm b0} {Y1 Y2:Nm b2} {Z1 Z2:Nm b4} (h1:VP Tryz.prog G 86 [X1.av,Y1.av] (.tup [Z1.av, .int .i64 0])) (h2:VP Tryz.prog G 86 [X2.av,Y2.av] (.tup [Z2.av, .int .i64 0])):aC Tryz.prog G 89 [aV X1 X2,aV Y1 Y2] (aV Z1 Z2):=by
 have h:=WI G _ h1 h2
 have hv:=ae9 G Z1 Z2
 have h3:VP Tryz.prog G 158 [aV X1 X2,aV Y1 Y2] (.tup [aV Z1 Z2, .int .i64 0]):=by
   cases b0<;>cases b2<;>cases b4<;>exact vt [hc h] (by kernel_rfl)
 cases b0<;>cases b2<;>cases b4<;>exact aC.tr hN [hc h3,au [1] hv] (by kernel_rfl)
theorem Ak {b0 b2 b4:Bool} {X1 X2:Nm b0} {Y:Nm b2} {Z1 Z2:Nm b4} (h1:VP Tryz.prog G 152 [X1.av,Y.av] (.tup [Z1.av, .int .i64 0])) (h2:VP Tryz.prog G 152 [X2.av,Y.av] (.tup [Z2.av, .int .i64 0])):aC Tryz.prog G 90 [aV X1 X2,Y.av] (aV Z1 Z2):=by
 have h:=WI G _ h1 h2
 have hv:=ae9 G Z1 Z2
 have h3:VP Tryz.prog G 159 [aV X1 X2,Y.av] (.tup [aV Z1 Z2, .int .i64 0]):=by
   cases b0<;>cases b2<;>cases b4<;>exact vt [hc h] (by kernel_rfl)
 cases b0<;>cases b2<;>cases b4<;>exact aC.tr hN [hc h3,au [1] hv] (by kernel_rfl)
theorem ZO (u v:Q2) (hu:bl 41 u) (hv:bl 41 v):VP Tryz.prog G 79 [V2 u,V2 v] (.tup [NV (cX (-u.2,u.1) v), .int .i64 0]):=vt [hc (ae0 G u (hu.mono (by omega))),hc (ZF G (-u.2,u.1) v ⟨hu.2.neg.mono (by omega),hu.1.mono (by omega)⟩ (hv.mono (by omega)))] (by kernel_rfl)
structure RC (f:FG) {bA bB bT:Bool} (v:RV bA bB bT) (sx sy:Int):Prop where
 hM:VP Tryz.prog G 83 [V2 f.u] (.tup [v.M.av, .int .i64 0])
 hN:VP Tryz.prog G 83 [V2 f.v] (.tup [v.N.av, .int .i64 0])
 h1:aC Tryz.prog G 84 [v.M.av,v.N.av] v.MN.av
 h2:VP Tryz.prog G 86 [v.MN.av,NV f.d] (.tup [v.S.av, .int .i64 0])
 h3:aC Tryz.prog G 84 [NV f.r,v.S.av] v.RS.av
 h4:aC Tryz.prog G 85 [v.RS.av,NV f.w] v.T.av
 h5:VP Tryz.prog G 88 [v.M.av,v.T.av] (.tup [v.X.av, .int .i64 0])
 h6:VP Tryz.prog G 88 [v.N.av,v.T.av] (.tup [v.Y.av, .int .i64 0])
 h7:VP Tryz.prog G 80 [v.X.av] (.int .i64 sx)
 h8:VP Tryz.prog G 80 [v.Y.av] (.int .i64 sy)
 h9:aC Tryz.prog G 85 [v.T.av,v.M.av] v.TM.av
 hA:aC Tryz.prog G 90 [V2 f.u,v.TM.av] (aV v.D1 v.D2)
 hB:aC Tryz.prog G 89 [V2 f.p,aV v.D1 v.D2] (aV v.F1 v.F2)
 hC:aC Tryz.prog G 85 [v.T.av,v.N.av] v.TN.av
 hD:aC Tryz.prog G 90 [V2 f.v,v.TN.av] (aV v.H1 v.H2)
 hE:aC Tryz.prog G 89 [V2 f.p,aV v.H1 v.H2] (aV v.P1 v.P2)
 hF:aC Tryz.prog G 85 [NV f.r,v.M.av] v.RM.av
 hG:aC Tryz.prog G 90 [V2 f.u,v.RM.av] (aV v.A1 v.A2)
 hH:aC Tryz.prog G 85 [NV f.r,v.N.av] v.RN.av
 hI:aC Tryz.prog G 90 [V2 f.v,v.RN.av] (aV v.B1 v.B2)
 hJ:aC Tryz.prog G 89 [aV v.A1 v.A2,aV v.B1 v.B2] (aV v.C1 v.C2)
 hK:aC Tryz.prog G 85 [v.MN.av,NV f.w] v.MC.av
 hL:aC Tryz.prog G 90 [aV v.C1 v.C2,v.MC.av] (aV v.K1 v.K2)
 hO:aC Tryz.prog G 89 [V2 f.p,aV v.K1 v.K2] (aV v.Q1 v.Q2)
theorem afb {f:FG} {bA bB bT:Bool} {v:RV bA bB bT} {sx sy:Int} (n:RN G f v sx sy 86 88 152 153 80) (hM:VP Tryz.prog G 83 [V2 f.u] (.tup [v.M.av, .int .i64 0])) (hN:VP Tryz.prog G 83 [V2 f.v] (.tup [v.N.av, .int .i64 0])):RC G f v sx sy :=
 ⟨hM,hN,afa G n.mn,n.s,afa G (X:=nR f.r) n.rs,Nd G (Y:=nR f.w) n.t,n.x,n.y,n.gx,n.gy,Nd G n.tm,Ak G (X1:=nR f.u.1) (X2:=nR f.u.2) n.d1 n.d2,Uz G (X1:=nR f.p.1) (X2:=nR f.p.2) n.f1 n.f2,Nd G n.tn,Ak G (X1:=nR f.v.1) (X2:=nR f.v.2) n.h1 n.h2,Uz G (X1:=nR f.p.1) (X2:=nR f.p.2) n.p1 n.p2,Nd G (X:=nR f.r) n.rm,Ak G (X1:=nR f.u.1) (X2:=nR f.u.2) n.a1 n.a2,Nd G (X:=nR f.r) n.rn,Ak G (X1:=nR f.v.1) (X2:=nR f.v.2) n.b1 n.b2,Uz G n.c1 n.c2,Nd G (Y:=nR f.w) n.mc,Ak G n.k1 n.k2,Uz G (X1:=nR f.p.1) (X2:=nR f.p.2) n.q1 n.q2⟩
theorem akA:G8 G 207 152 153 where
 dv:=fun {b b2 b3} X Y Yi Z hi hl hm=>by
   obtain ⟨l,m,pl,pm⟩:=X
   obtain ⟨l2,m2,o9,pc⟩:=Y
   obtain ⟨l3,m3,tR,tT⟩:=Yi
   obtain ⟨l4,m4,Ld,Le⟩:=Z
   obtain rfl:l3=l2:=hl
   dsimp only at hi
   cases b2<;>(dsimp only [re] at hi)<;>cases b<;>cases b3<;>exact vt [hc hi,hc hm] (by kernel_rfl)
 iv:=fun x hx sx=>YU G x hx sx
def ZP (f:FG) (hf:f.Sm) (y:Rat) (ey:f.x=y) (s:Int) (hs:VP Tryz.prog G 80 [NV y] (.int .i64 s)):List (Hint Tryz.prog G) :=
 [au [7] (Dv f.a f.p _ (aeY G f.a f.p (hf.a.mono (by omega)) (hf.p.mono (by omega))) (Aa):aC Tryz.prog G 77 [V2 f.a,V2 f.p] (V2 f.u)),au [7] (Dv f.b f.p _ (aeY G f.b f.p (hf.b.mono (by omega)) (hf.p.mono (by omega))) (Aa):aC Tryz.prog G 77 [V2 f.b,V2 f.p] (V2 f.v)),hc (ey▸ZO G f.u f.v hf.u hf.v:VP Tryz.prog G 79 [V2 f.u,V2 f.v] (.tup [NV y, .int .i64 0])),au [7] (D0 G (nR y):aC Tryz.prog G 78 [NV y, .int .i64 0] (NV y)),hc hs,hc hs]
variable {G}
def RC.h1h {f:FG} {bA bB bT:Bool} {v:RV bA bB bT} {sx sy:Int} (hf:f.Sm) (c:RC G f v sx sy):List (Hint Tryz.prog G) :=
 [hc (adx G f.r (hf.r.mono (by omega))),hc c.hM,au [7] (D0 G v.M),hc c.hN,au [7] (D0 G v.N),au [7] c.h1,hc (ZF G f.u f.v (hf.u.mono (by omega)) (hf.v.mono (by omega))),au [7] (D0 G (nR f.d):aC Tryz.prog G 78 [NV f.d, .int .i64 0] (NV f.d)),hc c.h2,au [7] (D0 G v.S),au [7] c.h3,au [7] c.h4,hc c.h5,au [7] (D0 G v.X),hc c.h6,au [7] (D0 G v.Y),hc c.h7]
def RC.h2h {f:FG} {bA bB bT:Bool} {v:RV bA bB bT} {sx sy:Int} (c:RC G f v sx sy):List (Hint Tryz.prog G) :=
 [au [7] c.h9,au [7] c.hA,au [7] c.hB,au [7] c.hC,au [7] c.hD,au [7] c.hE,au [7] c.hF,au [7] c.hG,au [7] c.hH,au [7] c.hI,au [7] c.hJ,au [7] c.hK,au [7] c.hL,au [7] c.hO]
theorem ZQ (f:FG) (hf:f.Sm) {bA bB bT:Bool} (rP:bT=(bA||bB)) {v:RV bA bB bT} {sx sy:Int} (c:RC G f v sx sy) (e:az f.x = -1) (h1:sx<=0):VP Tryz.prog G 33 [V2 f.p,V2 f.a,V2 f.b,QV f.r] (.tup [Sv false, .int .i64 16]):=by
 have hs:=vv G f.x (hf.x.mono (by omega))
 have hn:=DG G f.x (hf.x.mono (by omega))
 rw [show -f.x=f.w from by unfold FG.w;rw [if_pos (by omega)]] at hn
 rw [e] at hs
 cases bA<;>cases bB<;>cases bT<;>first | exact absurd rP (by decide) | exact vt (ZP G f hf f.x rfl (-1) hs++hc hn::(c.h1h hf++[hb 122 (ai h1)])) (by kernel_rfl)
theorem ZR (f:FG) (hf:f.Sm) {bA bB bT:Bool} (rP:bT=(bA||bB)) {v:RV bA bB bT} {sx sy:Int} (c:RC G f v sx sy) (e:az f.x = -1) (h1 : ¬ sx<=0) (h2:sy<=0):VP Tryz.prog G 33 [V2 f.p,V2 f.a,V2 f.b,QV f.r] (.tup [Sv false, .int .i64 16]):=by
 have hs:=vv G f.x (hf.x.mono (by omega))
 have hn:=DG G f.x (hf.x.mono (by omega))
 rw [show -f.x=f.w from by unfold FG.w;rw [if_pos (by omega)]] at hn
 rw [e] at hs
 cases bA<;>cases bB<;>cases bT<;>first | exact absurd rP (by decide) | exact vt (ZP G f hf f.x rfl (-1) hs++hc hn::(c.h1h hf++[hb 122 (ag h1),hc c.h8,hb 126 (ai h2)])) (by kernel_rfl)
theorem ZT (f:FG) (hf:f.Sm) {bA bB bT:Bool} (rP:bT=(bA||bB)) {v:RV bA bB bT} {sx sy:Int} (c:RC G f v sx sy) (e:az f.x = -1) (h1 : ¬ sx<=0) (h2 : ¬ sy<=0):VP Tryz.prog G 33 [V2 f.p,V2 f.a,V2 f.b,QV f.r] (.tup [ZI v.F1 v.F2 v.P1 v.P2 v.Q1 v.Q2 false, .int .i64 0]):=by
 have hs:=vv G f.x (hf.x.mono (by omega))
 have hn:=DG G f.x (hf.x.mono (by omega))
 rw [show -f.x=f.w from by unfold FG.w;rw [if_pos (by omega)]] at hn
 rw [e] at hs
 cases bA<;>cases bB<;>cases bT<;>first | exact absurd rP (by decide) | exact vt (ZP G f hf f.x rfl (-1) hs++hc hn::(c.h1h hf++hb 122 (ag h1)::hc c.h8::hb 126 (ag h2)::c.h2h)) (by kernel_rfl)
theorem ZU (f:FG) (hf:f.Sm) {bA bB bT:Bool} (rP:bT=(bA||bB)) {v:RV bA bB bT} {sx sy:Int} (c:RC G f v sx sy) (e:az f.x=1) (h1:sx<=0):VP Tryz.prog G 33 [V2 f.p,V2 f.a,V2 f.b,QV f.r] (.tup [Sv true, .int .i64 16]):=by
 have hs:=vv G f.x (hf.x.mono (by omega))
 have ew:f.x=f.w:=by unfold FG.w;rw [if_neg (by omega)]
 rw [e,ew] at hs
 cases bA<;>cases bB<;>cases bT<;>first | exact absurd rP (by decide) | exact vt (ZP G f hf f.w ew 1 hs++(c.h1h hf++[hb 122 (ai h1)])) (by kernel_rfl)
theorem ZV (f:FG) (hf:f.Sm) {bA bB bT:Bool} (rP:bT=(bA||bB)) {v:RV bA bB bT} {sx sy:Int} (c:RC G f v sx sy) (e:az f.x=1) (h1 : ¬ sx<=0) (h2:sy<=0):VP Tryz.prog G 33 [V2 f.p,V2 f.a,V2 f.b,QV f.r] (.tup [Sv true, .int .i64 16]):=by
 have hs:=vv G f.x (hf.x.mono (by omega))
 have ew:f.x=f.w:=by unfold FG.w;rw [if_neg (by omega)]
 rw [e,ew] at hs
 cases bA<;>cases bB<;>cases bT<;>first | exact absurd rP (by decide) | exact vt (ZP G f hf f.w ew 1 hs++(c.h1h hf++[hb 122 (ag h1),hc c.h8,hb 126 (ai h2)])) (by kernel_rfl)
theorem ZW (f:FG) (hf:f.Sm) {bA bB bT:Bool} (rP:bT=(bA||bB)) {v:RV bA bB bT} {sx sy:Int} (c:RC G f v sx sy) (e:az f.x=1) (h1 : ¬ sx<=0) (h2 : ¬ sy<=0):VP Tryz.prog G 33 [V2 f.p,V2 f.a,V2 f.b,QV f.r] (.tup [ZI v.F1 v.F2 v.P1 v.P2 v.Q1 v.Q2 true, .int .i64 0]):=by
 have hs:=vv G f.x (hf.x.mono (by omega))
 have ew:f.x=f.w:=by unfold FG.w;rw [if_neg (by omega)]
 rw [e,ew] at hs
 cases bA<;>cases bB<;>cases bT<;>first | exact absurd rP (by decide) | exact vt (ZP G f hf f.w ew 1 hs++(c.h1h hf++hb 122 (ag h1)::hc c.h8::hb 126 (ag h2)::c.h2h)) (by kernel_rfl)
theorem RF (f:FG) (hf:f.Sm) (hx:f.x≠0) {bA bB bT:Bool} (rP:bT=(bA||bB)) {v:RV bA bB bT} {sx sy:Int} (c:RC G f v sx sy):VP Tryz.prog G 33 [V2 f.p,V2 f.a,V2 f.b,QV f.r] (if sx<=0∨sy<=0 then .tup [Sv (decide (0<az f.x)), .int .i64 16] else .tup [ZI v.F1 v.F2 v.P1 v.P2 v.Q1 v.Q2 (decide (0<az f.x)), .int .i64 0]):=by
 rcases pT f.x with e | e | e
 . rw [e,show decide ((0:Int) < -1)=false from rfl]
   by_cases h1:sx<=0
   . rw [if_pos (.inl h1)];exact ZQ f hf rP c e h1
   . by_cases h2:sy<=0
     . rw [if_pos (.inr h2)];exact ZR f hf rP c e h1 h2
     . rw [if_neg (by rw [not_or];exact ⟨h1,h2⟩)];exact ZT f hf rP c e h1 h2
 . exact absurd (jL.1 e) hx
 . rw [e,show decide ((0:Int)<1)=true from rfl]
   by_cases h1:sx<=0
   . rw [if_pos (.inl h1)];exact ZU f hf rP c e h1
   . by_cases h2:sy<=0
     . rw [if_pos (.inr h2)];exact ZV f hf rP c e h1 h2
     . rw [if_neg (by rw [not_or];exact ⟨h1,h2⟩)];exact ZW f hf rP c e h1 h2
end
end Go.Proofs.YtndoagbiakehnaaGreat
end

section
set_option maxRecDepth 100000
namespace Go.Proofs.YtndoagbiakehnaaGreat
open Go.VL Go.Proofs Go.Lib
def n2M (p q:Rat) (w:Q4):Nm true:=⟨[EV p,E1 (q,0)],[QV w.1.1,QV w.1.2,QV w.2.1,QV w.2.2],(inferInstance:PU (T2 p q)),(inferInstance:PU (E2 w))⟩
theorem RG {p q x:Rat}:xV p q (r2 x)=az x:=by
 have e1:gh p (0,0)=0:=by unfold gh;rfl
 unfold xV
 rw [if_pos (.inl e1)];exact DW _ _
theorem WJ {p q:Rat} (h:jB p q) {w:Q4} (e:xV p q w=0):w=((0,0),(0,0)):=by
 have z:∀ v:Q2,gh p v=0->v=(0,0):=fun v hv=>Rx (b:=true) (fun _=>h.np) vI hv
 have s0:gh p ((0,0):Q2)=0:=by unfold gh;rfl
 unfold xV at e
 by_cases h2:gh p w.2=0
 . rw [if_pos (.inl h2)] at e
   exact Prod.ext (z _ e) (z _ h2)
 by_cases h1:gh p w.1=gh p w.2
 . rw [if_pos (.inr h1)] at e
   rw [e] at h1;exact absurd h1.symm h2
 rw [if_neg (by rw [not_or];exact ⟨h2,h1⟩)] at e
 by_cases h3:gh p w.1=0
 . rw [if_pos h3] at e;exact absurd e h2
 rw [if_neg h3] at e
 rcases Int.mul_eq_zero.1 e with e | e
 . exact absurd e h3
 . exfalso
   have e:=z _ e
   obtain ⟨⟨a,b⟩,⟨c,d⟩⟩:=w
   unfold qc cY j3 aR at e
   have e1:=congrArg Prod.fst e
   have e2:=congrArg Prod.snd e
   simp only [] at e1 e2
   -- (a+b sp)^2=q (c+d sp)^2
   have k1:a*a+b*b*p=(c*c+d*d*p)*q:=by grind
   have k2:a*b=c*d*q:=by grind
   have n:c*c + -(d*d*p)≠0:=by
     intro hn
     by_cases hd:d=0
     . subst hd
       have:c=0:=by
         have:c*c=0:=by grind
         rcases Rat.mul_eq_zero.1 this with t | t<;>exact t
       subst this
       exact h2 s0
     . refine h.np (c/d) ?_
       rw [Rat.div_def]
       have hi:d*d⁻¹ = 1:=Rat.mul_inv_cancel _ hd
       generalize d⁻¹ = i at *
       have t1:c*i*(c*i)=(c*c)*(i*i):=by grind
       have t2:c*c=p*(d*d):=by grind
       have t3:p*(d*d)*(i*i)=p*((d*i)*(d*i)):=by grind
       rw [t1,t2,t3,hi];grind
   have hi:(c*c + -(d*d*p))*(c*c + -(d*d*p))⁻¹ = 1:=Rat.mul_inv_cancel _ n
   generalize (c*c + -(d*d*p))⁻¹ = i at *
   -- r+s sp=(a+b sp)/(c+d sp)
   have r1:((a*c + -(b*d*p))*i)*((a*c + -(b*d*p))*i)+((b*c + -(a*d))*i)*((b*c + -(a*d))*i)*p=q:=by
     have:((a*c + -(b*d*p))*i)*((a*c + -(b*d*p))*i)+((b*c + -(a*d))*i)*((b*c + -(a*d))*i)*p=((a*a+b*b*p)*(c*c+d*d*p) + -(4*(a*b)*(c*d)*p))*(i*i):=by grind
     rw [this,k1,k2]
     have:((c*c+d*d*p)*q*(c*c+d*d*p) + -(4*(c*d*q)*(c*d)*p))*(i*i)=q*(((c*c + -(d*d*p))*i)*((c*c + -(d*d*p))*i)):=by grind
     rw [this,hi];grind
   have r2:((a*c + -(b*d*p))*i)*((b*c + -(a*d))*i)=0:=by
     have:((a*c + -(b*d*p))*i)*((b*c + -(a*d))*i)=((a*b)*(c*c+d*d*p) + -((a*a+b*b*p)*(c*d)))*(i*i):=by grind
     rw [this,k1,k2];grind
   generalize (a*c + -(b*d*p))*i=r at *
   generalize (b*c + -(a*d))*i=s at *
   rcases Rat.mul_eq_zero.1 r2 with t | t
   . subst t
     refine h.nd s ?_
     rw [Rat.div_def]
     have hp:=Rat.mul_inv_cancel _ (Ax h.p0)
     generalize p⁻¹ = j at *
     rw [<- r1];grind
   . subst t
     refine h.nq r ?_
     rw [<- r1];grind
theorem UA {p q:Rat} {y:Q4}:bD p q ((0,0),(0,0)) y=((0,0),(0,0)):=by unfold bD aR cY;apply dt<;>simp only []<;>grind
def jX {p q:Rat} (h:jB p q):Cf where
 q1:=p
 q2:=q
 bA:=true
 bB:=true
 bT:=true
 nA:=fun x=>wL p true x.1
 nB:=fun x=>wL q true (x.1.1,x.2.1)
 nT:=fun x=>n2M p q x
 nU:=fun x=>n2M q p (rU x)
 sT:=xV p q
 sU:=fun x=>xV q p (rU x)
 p1:=h.p0
 p2:=h.q0
 s1:=h.sp
 s2:=h.sq
 zr:=fun x=>RG
 zm:=fun x y e=>by rw [WJ h e,UA];exact RG
 zu:=fun x e=>by
   rw [WJ h e];exact RG (x:=0)
 bt:=rfl
def jJ:Kd->Kd->Option Kd
 | .T, .R=>some .T | .R, .T=>some .T | .A, .B=>some .T | .T, .T=>some .T | .A, .T=>some .T | .T, .A=>some .T | .T, .B=>some .T | .B, .T=>some .U | _,_=>none
def tJ (p q:Rat):Kd->AV | .U=>T2 q p | _=>T2 p q
def eJ:Kd->Q4->AV | .U,x=>E2 (rU x) | _,x=>E2 x
def nJ (p q:Rat):Kd->Q4->AV | .U,x=>N2 q p (rU x) | _,x=>N2 p q x
instance {p q:Rat} {m:Kd}:PU (tJ p q m):=by cases m<;>exact (inferInstance:PU (T2 _ _))
instance {m:Kd} {x:Q4}:PU (eJ m x):=by cases m<;>exact (inferInstance:PU (E2 _))
instance {p q:Rat} {m:Kd} {x:Q4}:PU (nJ p q m x):=by cases m<;>exact (inferInstance:PU (N2 _ _ _))
section
variable (G:Nat->Option (List AV))
theorem Lf {p q:Rat} (h:jB p q) (f:Nat) {k l m:Kd} (e:jJ k l=some m) (x y w:Q4) (hx:Sh k x) (hy:Sh l y) (sx:cC 1000 x) (sy:cC 1000 y) (ho:VP Tryz.prog G f [tJ p q m,eJ m x,eJ m y] (eJ m w)):VP Tryz.prog G 154 [((jX h).nm k x).av,((jX h).nm l y).av, .fn (.func f) [] []] (.tup [((jX h).nm m w).av, .int .i64 0]):=by
 have ux:=sx.mono (m:=3000) (by omega)
 have uy:=sy.mono (m:=3000) (by omega)
 have vx:bl 3000 (x.1.1,x.2.1):=⟨ux.1.1,ux.2.1⟩
 have vy:bl 3000 (y.1.1,y.2.1):=⟨uy.1.1,uy.2.1⟩
 cases k<;>cases l<;>cases e
 . rw [show x=r2 x.1.1 from hx] at ho;exact oRT G f h x.1.1 y w ux.1.1 uy ho
 . rw [show x=a2 x.1 from hx,show y=b2 (y.1.1,y.2.1) from hy] at ho;exact oAB G f h x.1 (y.1.1,y.2.1) w ux.1 vy ho
 . rw [show x=a2 x.1 from hx] at ho;exact oAT G f h x.1 y w ux.1 uy ho
 . have AZ:VP Tryz.prog G f [T2 q p,E2 (a2 (x.1.1,x.2.1)),E2 (rU y)] (E2 (rU w)):=by
     have e2:rU x=a2 (x.1.1,x.2.1):=by rw [show x=b2 (x.1.1,x.2.1) from hx];rfl
     have:=ho;rw [show eJ .U x=E2 (rU x) from rfl,e2] at this;exact this
   exact oBT G f h (x.1.1,x.2.1) y (rU w) vx uy AZ
 . rw [show y=r2 y.1.1 from hy] at ho;exact oTR G f h x y.1.1 w ux uy.1.1 ho
 . rw [show y=a2 y.1 from hy] at ho;exact oTA G f h x y.1 w ux uy.1 ho
 . rw [show y=b2 (y.1.1,y.2.1) from hy] at ho;exact oTB G f h x (y.1.1,y.2.1) w ux vy ho
 . exact oTT G f h x y w ux uy ho
theorem afc {k l m:Kd} (e:jA k l=some m):m = .T/\jJ k l=some .T:=by cases k<;>cases l<;>cases e<;>exact ⟨rfl,rfl⟩
theorem afd {k l m:Kd} (e:jS k l=some m):(m = .T∨m = .U)/\jJ k l=some m:=by cases k<;>cases l<;>cases e<;>simp [jJ]
theorem afe {k l m:Kd} (e:jM k l=some m):(k = .R/\(l = .A/\m = .A∨l = .B/\m = .B))∨(m = .T/\jJ k l=some .T):=by cases k<;>cases l<;>cases e<;>simp [jJ]
theorem aff:DY G 86 88 152 207 80 where
 add:=adU G
 sub:=adV G
 mul:=QR G
 inv1:=KN G
 inv0:=YU G
 sgn:=fun q b v hq hv h1 fv=>Y9 G q b v (hq.mono (by omega)) hv h1 fv
theorem akB:IU G 86 88 152 where
 add:=fun {p q w} h u v su sv=>by
   have sw:bl 20000 (v.1,v.2*w):=⟨sv.1.mono (by omega),(sv.2.mul h.sw).mono (by omega)⟩
   exact vt [hc (oDD G 155 h u v _ (su.mono (by omega)) (sv.mono (by omega)) (GQ G p u (v.1,v.2*w) (h.sp.mono (by omega)) (su.mono (by omega)) sw))] (by kernel_rfl)
 sub:=fun {p q w} h u v su sv=>by
   have sw:bl 20000 (v.1,v.2*w):=⟨sv.1.mono (by omega),(sv.2.mul h.sw).mono (by omega)⟩
   exact vt [hc (oDD G 157 h u v _ (su.mono (by omega)) (sv.mono (by omega)) (GR G p u (v.1,v.2*w) (h.sp.mono (by omega)) (su.mono (by omega)) sw))] (by kernel_rfl)
 mul:=fun {p q w} h u v su sv=>by
   have sw:bl 20000 (v.1,v.2*w):=⟨sv.1.mono (by omega),(sv.2.mul h.sw).mono (by omega)⟩
   exact vt [hc (oDD G 206 h u v _ (su.mono (by omega)) (sv.mono (by omega)) (vA G p u (v.1,v.2*w) (h.sp.mono (by omega)) (su.mono (by omega)) sw))] (by kernel_rfl)
theorem afg {b b2 b3:Bool} {X:Nm b} {Y:Nm b2} {Z:Nm b3} (h:VP Tryz.prog G 154 [X.av,Y.av, .fn (.func 155) [] []] (.tup [Z.av, .int .i64 0])):VP Tryz.prog G 86 [X.av,Y.av] (.tup [Z.av, .int .i64 0]):=by
 obtain ⟨l,m,pl,pm⟩:=X
 obtain ⟨l2,m2,o9,pc⟩:=Y
 obtain ⟨l3,m3,tR,tT⟩:=Z
 cases b<;>cases b2<;>cases b3<;>exact vt [hc h] (by kernel_rfl)
theorem WK {b b2 b3:Bool} {X:Nm b} {Y:Nm b2} {Z:Nm b3} (h:VP Tryz.prog G 154 [X.av,Y.av, .fn (.func 157) [] []] (.tup [Z.av, .int .i64 0])):VP Tryz.prog G 88 [X.av,Y.av] (.tup [Z.av, .int .i64 0]):=by
 obtain ⟨l,m,pl,pm⟩:=X
 obtain ⟨l2,m2,o9,pc⟩:=Y
 obtain ⟨l3,m3,tR,tT⟩:=Z
 cases b<;>cases b2<;>cases b3<;>exact vt [hc h] (by kernel_rfl)
theorem afh {b b2 b3:Bool} {X:Nm b} {Y:Nm b2} {Z:Nm b3} (h:VP Tryz.prog G 154 [X.av,Y.av, .fn (.func 206) [] []] (.tup [Z.av, .int .i64 0])):VP Tryz.prog G 152 [X.av,Y.av] (.tup [Z.av, .int .i64 0]):=by
 obtain ⟨l,m,pl,pm⟩:=X
 obtain ⟨l2,m2,o9,pc⟩:=Y
 obtain ⟨l3,m3,tR,tT⟩:=Z
 cases b<;>cases b2<;>cases b3<;>exact vt [hc h] (by kernel_rfl)
theorem RH (p q:Rat) (w:Q4) (hp:Sm 1000 p) (hq:Sm 1000 q) (hw:cC 800 w) (p1:az p=1) (q1:az q=1):VP Tryz.prog G 80 [N2 p q w] (.int .i64 (xV p q w)):=vt [hc (IL G p q w hp hq hw p1 q1)] (by kernel_rfl)
theorem RI {p q:Rat} {x y:Q4} (hx:Sh .R x):(bD p q x y).1=aR p (x.1.1,0) y.1:=by
 rw [show x=r2 x.1.1 from hx];unfold bD aR cY;refine Prod.ext ?_ ?_<;>simp only []<;>grind
theorem RJ {p q:Rat} {x y:Q4} (hx:Sh .R x) (hy:Sh .B y):(((bD p q x y).1.1,(bD p q x y).2.1):Q2)=aR q (x.1.1,0) (y.1.1,y.2.1):=by
 rw [show x=r2 x.1.1 from hx,show y=b2 (y.1.1,y.2.1) from hy]
 unfold bD aR cY;refine Prod.ext ?_ ?_<;>simp only []<;>grind
theorem akC {p q:Rat} (h:jB p q):rh G (jX h) 86 88 152 207 80 where
 add:=fun {k l m} e x y hx hy sx sy=>by
   obtain ⟨rfl,ej⟩:=afc e
   exact afg G (Lf G h 155 ej x y _ hx hy sx sy (KR G p q x y (h.sp.mono (by omega)) (h.sq.mono (by omega)) (sx.mono (by omega)) (sy.mono (by omega))))
 sub:=fun {k l m} e x y hx hy sx sy=>by
   obtain ⟨hm,ej⟩:=afd e
   rcases hm with rfl | rfl
   . exact WK G (Lf G h 157 ej x y _ hx hy sx sy (Wj G p q x y (h.sp.mono (by omega)) (h.sq.mono (by omega)) (sx.mono (by omega)) (sy.mono (by omega))))
   . exact WK G (Lf G h 157 ej x y _ hx hy sx sy (Wj G q p (rU x) (rU y) (h.sq.mono (by omega)) (h.sp.mono (by omega)) ((tM sx).mono (by omega)) ((tM sy).mono (by omega))))
 mul := fun {k l m} e x y hx hy sx sy=>by
   rcases afe e with ⟨rfl,⟨rfl,rfl⟩ | ⟨rfl,rfl⟩⟩ | ⟨rfl,ej⟩
   . have:=QR G p false true (x.1.1,0) y.1 (h.sp.mono (by omega)) ⟨sx.1.1.mono (by omega),Sm.zero.mono (by omega)⟩ (sy.1.mono (by omega)) (fun _=>rfl) vI
     rw [<- RI (q:=q) hx] at this
     exact this
   . have:=QR G q false true (x.1.1,0) (y.1.1,y.2.1) (h.sq.mono (by omega)) ⟨sx.1.1.mono (by omega),Sm.zero.mono (by omega)⟩ ⟨sy.1.1.mono (by omega),sy.2.1.mono (by omega)⟩ (fun _=>rfl) vI
     rw [<- RJ (p:=p) hx hy] at this
     exact this
   . exact afh G (Lf G h 206 ej x y _ hx hy sx sy (KS G p q x y (h.sp.mono (by omega)) (h.sq.mono (by omega)) (sx.mono (by omega)) (sy.mono (by omega))))
 invm:=by
   have e0:cj p ((0:Rat),(1:Rat))≠0:=by have:=Ax h.p0;unfold cj;simp only [];grind
   have:=KN G p (0,1) e0 (h.sp.mono (by omega)) ⟨Sm.zero.mono (by omega),dz.mono (by omega)⟩
   rw [Cw h.p0] at this;exact this
 invn:=by
   have e0:cj q ((0:Rat),(1:Rat))≠0:=by have:=Ax h.q0;unfold cj;simp only [];grind
   have:=KN G q (0,1) e0 (h.sq.mono (by omega)) ⟨Sm.zero.mono (by omega),dz.mono (by omega)⟩
   rw [Cw h.q0] at this;exact this
 eqm:=rfl
 eqn:=rfl
 sgn:=fun k hk x sx=>by
   rcases hk with rfl | rfl
   . exact RH G p q x (h.sp.mono (by omega)) (h.sq.mono (by omega)) (sx.mono (by omega)) (Int.sign_eq_one_of_pos h.p0) (Int.sign_eq_one_of_pos h.q0)
   . exact RH G q p (rU x) (h.sq.mono (by omega)) (h.sp.mono (by omega)) ((tM sx).mono (by omega)) (Int.sign_eq_one_of_pos h.q0) (Int.sign_eq_one_of_pos h.p0)
theorem WL {p q:Rat} (h:jB p q) {k l m:Kd} (e:jJ k l=some m) (x y:Q4) (hx:Sh k x) (hy:Sh l y) (sx:cC 1000 x) (sy:cC 1000 y):VP Tryz.prog G 170 [((jX h).nm k x).av,((jX h).nm l y).av] (.tup [nJ p q m x,nJ p q m y, .int .i64 0]):=by
 have ux:=sx.mono (m:=3000) (by omega)
 have uy:=sy.mono (m:=3000) (by omega)
 have vx:bl 3000 (x.1.1,x.2.1):=⟨ux.1.1,ux.2.1⟩
 have vy:bl 3000 (y.1.1,y.2.1):=⟨uy.1.1,uy.2.1⟩
 cases k<;>cases l<;>cases e
 . have:=yRT G h x.1.1 y;rw [<- show x=r2 x.1.1 from hx] at this;exact this
 . have:=yAB G h x.1 (y.1.1,y.2.1) vy;rw [<- show x=a2 x.1 from hx, <- show y=b2 (y.1.1,y.2.1) from hy] at this;exact this
 . have:=yAT G h x.1 y;rw [<- show x=a2 x.1 from hx] at this;exact this
 . have:=yBT G h (x.1.1,x.2.1) y uy
   have e2:rU x=a2 (x.1.1,x.2.1):=by rw [show x=b2 (x.1.1,x.2.1) from hx];rfl
   rw [<- e2] at this;exact this
 . have:=yTR G h x y.1.1;rw [<- show y=r2 y.1.1 from hy] at this;exact this
 . have:=yTA G h x y.1;rw [<- show y=a2 y.1 from hy] at this;exact this
 . have:=yTB G h x (y.1.1,y.2.1) vy;rw [<- show y=b2 (y.1.1,y.2.1) from hy] at this;exact this
 . exact yTT G h x y
theorem RL (x:Rat) (hx:x≠0) (sx:Sm 100000 x):VP Tryz.prog G 169 [.nils,EV x] (.tup [EV (1/x), .int .i64 0]):=by rw [xF];exact MR x hx (Cc (YF G) x hx sx)
theorem afi:DY G 106 108 105 169 42 where
 add:=aeJ G
 sub:=ajS G
 mul:=Zz G
 inv1:=KO G
 inv0:=fun x hx sx=>RL G x hx sx
 sgn:=fun q b v hq hv _ fv=>aeK G q b v hq (hv.mono (by omega)) fv
theorem akD:IU G 106 108 105:=by
 have ad:∀ {p q w:Rat},sQ p q w->∀ u v:Q2,bl 2900 u->bl 2900 v->VP Tryz.prog G 106 [N1 p u,N1 q v] (.tup [N1 p (u.1+v.1,u.2+v.2*w), .int .i64 0]):=fun {p q w} h u v su sv=>by
   have sw:bl 20000 (v.1,v.2*w):=⟨sv.1.mono (by omega),(sv.2.mul h.sw).mono (by omega)⟩
   exact vt [hc (yDD G h u v (sv.mono (by omega))),hc (GZ G p u (v.1,v.2*w) (su.mono (by omega)) (sw.mono (by omega)))] (by kernel_rfl)
 refine ⟨ad, ?_, ?_⟩
 . intro p q w h u v su sv
   have hn:=Ro G q true v (sv.mono (by omega))
   have:=ad h u (-v.1, -v.2) su ⟨sv.1.neg,sv.2.neg⟩
   rw [show (-v.2*w:Rat) = -(v.2*w) by grind] at this
   exact vt [hc hn,hc this] (by kernel_rfl)
 . intro p q w h u v su sv
   have sw:bl 20000 (v.1,v.2*w):=⟨sv.1.mono (by omega),(sv.2.mul h.sw).mono (by omega)⟩
   exact vt [hc (yDD G h u v (sv.mono (by omega))),hc (q9 G p u (v.1,v.2*w) (h.sp.mono (by omega)) (su.mono (by omega)) sw)] (by kernel_rfl)
theorem UB:G8 G 169 105 104 where
 dv:=fun {b b2 b3} X Y Yi Z hi hl hm=>by
   obtain ⟨l,m,pl,pm⟩:=X
   obtain ⟨l2,m2,o9,pc⟩:=Y
   obtain ⟨l3,m3,tR,tT⟩:=Yi
   obtain ⟨l4,m4,Ld,Le⟩:=Z
   obtain rfl:l3=l2:=hl
   dsimp only at hi
   cases b2<;>(dsimp only [re] at hi)<;>cases b<;>cases b3<;>exact vt [hc hi,hc hm] (by kernel_rfl)
 iv:=fun x hx sx=>RL G x hx sx
theorem afj {p q:Rat} {m:Kd} (hm:m = .T∨m = .U) (x y:Q4) (sx:cC 100000 x) (sy:cC 100000 y):VP Tryz.prog G 172 [tJ p q m,eJ m x,eJ m y] (eJ m (bO x y)):=by
 rcases hm with rfl | rfl
 . exact G3 G p q x y sx sy
 . exact G3 G q p (rU x) (rU y) (tM sx) (tM sy)
theorem WM {p q:Rat} (h:jB p q) {k l m:Kd} (e:jJ k l=some m) (x y:Q4) (hx:Sh k x) (hy:Sh l y) (sx:cC 1000 x) (sy:cC 1000 y):VP Tryz.prog G 106 [((jX h).nm k x).av,((jX h).nm l y).av] (.tup [((jX h).nm m (bO x y)).av, .int .i64 0]):=by
 have h1:=WL G h e x y hx hy sx sy
 have hm:m = .T∨m = .U:=by cases k<;>cases l<;>cases e<;>simp
 have h2:=afj (p:=p) (q:=q) G hm x y (sx.mono (by omega)) (sy.mono (by omega))
 cases k<;>cases l<;>cases e<;>exact vt [hc h1,hc h2] (by kernel_rfl)
theorem afk {p q:Rat} (h:jB p q) {k l:Kd} (e:jJ k l=some .T) (x y:Q4) (hx:Sh k x) (hy:Sh l y) (sx:cC 1000 x) (sy:cC 1000 y):VP Tryz.prog G 105 [((jX h).nm k x).av,((jX h).nm l y).av] (.tup [((jX h).nm .T (bD p q x y)).av, .int .i64 0]):=by
 have h1:=WL G h e x y hx hy sx sy
 have h2:=KT G p q x y (h.sp.mono (by omega)) (h.sq.mono (by omega)) (sx.mono (by omega)) (sy.mono (by omega))
 cases k<;>cases l<;>cases e<;>exact vt [hc h1,hc h2] (by kernel_rfl)
theorem WN {p q:Rat} (h:jB p q) {k:Kd} (hk:k = .R∨k = .T) (x:Q4) (sx:cC 1000 x):VP Tryz.prog G 43 [((jX h).nm k x).av] ((jX h).nm k (bQ x)).av:=by
 rcases hk with rfl | rfl
 . exact Ro G 0 false x.1 (sx.1.mono (by omega))
 . exact vt [hc (aea G p q x (sx.mono (by omega)))] (by kernel_rfl)
theorem D5 {k:Nat} {x:Q4} (h:cC k x):cC k (bQ x):=⟨⟨h.1.1.neg,h.1.2.neg⟩,⟨h.2.1.neg,h.2.2.neg⟩⟩
theorem afl {p q:Rat} (h:jB p q) {k l m:Kd} (e:jS k l=some m) (x y:Q4) (hx:Sh k x) (hy:Sh l y) (sx:cC 1000 x) (sy:cC 1000 y):VP Tryz.prog G 108 [((jX h).nm k x).av,((jX h).nm l y).av] (.tup [((jX h).nm m (bO x (bQ y))).av, .int .i64 0]):=by
 obtain ⟨hm,ej⟩:=afd e
 have hl:l = .R∨l = .T:=by cases k<;>cases l<;>cases e<;>simp
 have hs:Sh l (bQ y):=by
   rcases hl with rfl | rfl
   . rw [show y=r2 y.1.1 from hy];show bQ (r2 y.1.1)=r2 (-y.1.1);unfold bQ j3;apply dt<;>simp only [Rat.neg_zero]
   . trivial
 have h1:=WN G h hl y sy
 have h2:=WM G h ej x (bQ y) hx hs sx (D5 sy)
 cases k<;>cases l<;>cases e<;>exact vt [hc h1,hc h2] (by kernel_rfl)
theorem RO {p q:Rat} (w:Q4) (hp:Sm 1000 p) (hq:Sm 1000 q) (hw:cC 1800 w):VP Tryz.prog G 42 [N2 p q w] (.int .i64 (xV p q w)):=vt [hc (ajo G p q w hp hq hw)] (by kernel_rfl)
theorem akE {p q:Rat} (h:jB p q):rh G (jX h) 106 108 105 169 42 where
 add:=fun {k l m} e x y hx hy sx sy=>by
   obtain ⟨rfl,ej⟩:=afc e
   exact WM G h ej x y hx hy sx sy
 sub:=fun {k l m} e x y hx hy sx sy=>afl G h e x y hx hy sx sy
 mul := fun {k l m} e x y hx hy sx sy=>by
   rcases afe e with ⟨rfl,⟨rfl,rfl⟩ | ⟨rfl,rfl⟩⟩ | ⟨rfl,ej⟩
   . have:=Zz G p false true (x.1.1,0) y.1 (h.sp.mono (by omega)) ⟨sx.1.1.mono (by omega),Sm.zero.mono (by omega)⟩ (sy.1.mono (by omega)) (fun _=>rfl) vI
     rw [<- RI (q:=q) hx] at this
     exact this
   . have:=Zz G q false true (x.1.1,0) (y.1.1,y.2.1) (h.sq.mono (by omega)) ⟨sx.1.1.mono (by omega),Sm.zero.mono (by omega)⟩ ⟨sy.1.1.mono (by omega),sy.2.1.mono (by omega)⟩ (fun _=>rfl) vI
     rw [<- RJ (p:=p) hx hy] at this
     exact this
   . exact afk G h ej x y hx hy sx sy
 invm:=by
   have e0:cj p ((0:Rat),(1:Rat))≠0:=by have:=Ax h.p0;unfold cj;simp only [];grind
   have:=KO G p (0,1) e0 (h.sp.mono (by omega)) ⟨Sm.zero.mono (by omega),dz.mono (by omega)⟩
   rw [Cw h.p0] at this;exact this
 invn:=by
   have e0:cj q ((0:Rat),(1:Rat))≠0:=by have:=Ax h.q0;unfold cj;simp only [];grind
   have:=KO G q (0,1) e0 (h.sq.mono (by omega)) ⟨Sm.zero.mono (by omega),dz.mono (by omega)⟩
   rw [Cw h.q0] at this;exact this
 eqm:=rfl
 eqn:=rfl
 sgn:=fun k hk x sx=>by
   rcases hk with rfl | rfl
   . exact RO G x (h.sp.mono (by omega)) (h.sq.mono (by omega)) (sx.mono (by omega))
   . exact RO G (rU x) (h.sq.mono (by omega)) (h.sp.mono (by omega)) ((tM sx).mono (by omega))
end
end Go.Proofs.YtndoagbiakehnaaGreat
end

section
set_option maxRecDepth 100000
namespace Go.Proofs.YtndoagbiakehnaaGreat
open Go.VL Go.Proofs Go.Lib
structure Ay (G:Nat->Option (List AV)) (c:Cf):Prop where
 pr:rh G c 86 88 152 207 80
 rf:rh G c 106 108 105 169 42
 lm:∀ a:Q2,bl 100 a->cX a a=c.q1->VP Tryz.prog G 83 [V2 a] (.tup [(c.nA rA).av, .int .i64 0])
 ln:∀ a:Q2,bl 100 a->cX a a=c.q2->VP Tryz.prog G 83 [V2 a] (.tup [(c.nB rB).av, .int .i64 0])
 sm:VP Tryz.prog G 102 [NV c.q1] (.tup [(c.nA rA).av, .int .i64 0])
 sn:VP Tryz.prog G 102 [NV c.q2] (.tup [(c.nB rB).av, .int .i64 0])
 ng:∀ x,cC 1000 x->VP Tryz.prog G 43 [(c.nT x).av] (c.nT (bQ x)).av
 vT:∀ x,cC 1000 x->VP Tryz.prog G 175 [(c.nT x).av] (.bool true)
section
variable (G:Nat->Option (List AV))
theorem wN {q:Rat} {b:Bool} {l:Q2} (h:pV q b l):VP Tryz.prog G 102 [NV q] (.tup [nq q b l, .int .i64 0]):=by
 have hs:=h.sm.mono (k:=400) (by omega)
 rcases h.cs with ⟨rfl,rfl,hr⟩ | ⟨rfl,_,hr,h0⟩
 . exact Zp G q h.pos hs hr
 . exact Zq G q l.1 h.pos hs hr h0 (h.sl.1.mono (by omega))
theorem ZX {q1 q2:Rat} {b1 b2:Bool} {l1 l2:Q2} (h:lK q1 q2 b1 b2 l1 l2):Ay G (lz h):=by
 have eA:((lz h).nA rA).av=nq q1 b1 l1:=by
   have e1:jO (ku b1 q1 q2) l1 l2 rA=l1:=by unfold jO;refine Prod.ext ?_ ?_<;>simp only []<;>grind
   show (wL (ku b1 q1 q2) b1 (jO (ku b1 q1 q2) l1 l2 rA)).av=_
   rw [tN,e1];cases b1<;>rfl
 have eB:((lz h).nB rB).av=nq q2 b2 l2:=by
   have e1:jO (ku b1 q1 q2) l1 l2 rB=l2:=by unfold jO;refine Prod.ext ?_ ?_<;>simp only []<;>grind
   show (wL (ku b1 q1 q2) b2 (jO (ku b1 q1 q2) l1 l2 rB)).av=_
   rw [tN,e1]
   rcases h.one with rfl | rfl
   . rfl
   . rfl
 refine ⟨RD (aff G) h,RD (afi G) h, ?_, ?_, ?_, ?_, ?_, ?_⟩
 . intro a ha hq;rw [eA];exact Nc G a q1 b1 l1 ha hq h.h1
 . intro a ha hq;rw [eB];exact Nc G a q2 b2 l2 ha hq h.h2
 . rw [eA];exact wN G h.h1
 . rw [eB];exact wN G h.h2
 . intro x sx
   show VP Tryz.prog G 43 [(wL (ku b1 q1 q2) (b1||b2) (jO (ku b1 q1 q2) l1 l2 x)).av] (wL (ku b1 q1 q2) (b1||b2) (jO (ku b1 q1 q2) l1 l2 (bQ x))).av
   rw [tN,tN, <- Lc]
   exact Ro G _ _ _ (pW h sx)
 . intro x sx
   show VP Tryz.prog G 175 [(wL (ku b1 q1 q2) (b1||b2) (jO (ku b1 q1 q2) l1 l2 x)).av] (.bool true)
   rw [tN]
   have hp:0<(ku b1 q1 q2).num:=by cases b1;exact h.h2.pos;exact h.h1.pos
   exact aeL G _ _ _ hp (h.sq.mono (by omega)) h.nq ((pW h sx).mono (by omega))
theorem xJ {p:Rat} (hp:0<p.num) (sp:Sm 190 p) (np:∀ r:Rat,r*r≠p):pV p true (0,1):=⟨hp,sp.mono (by omega),⟨Sm.zero.mono (by omega),dz.mono (by omega)⟩, .inl ⟨rfl,rfl,np⟩⟩
theorem ZY {p q w:Rat} (h:sQ p q w) (h':sQ q p (1/w)):Ay G (Cx h):=by
 have e1:pD p w rA=(0,1):=by unfold pD;refine Prod.ext ?_ ?_<;>simp only []<;>grind
 have eA:((Cx h).nA rA).av=nq p true (0,1):=by
   show (wL p true (pD p w rA)).av=_
   rw [tN,e1]
 refine ⟨RE (aff G) (akB G) h h',RE (afi G) (akD G) h h', ?_, ?_, ?_, ?_, ?_, ?_⟩
 . intro a ha hq;rw [eA];exact Nc G a p true (0,1) ha hq (xJ h.p0 h.sp h.np)
 . intro a ha hq;exact Nc G a q true (0,1) ha hq (xJ h.q0 h.sq h.nq)
 . rw [eA];exact wN G (xJ h.p0 h.sp h.np)
 . exact wN G (xJ h.q0 h.sq h.nq)
 . intro x sx
   have:=Ro G p true (pD p w x) ((sW h sx).mono (by omega))
   rw [show (-(pD p w x).1, -(pD p w x).2)=pD p w (bQ x) from by rw [kv,kv];exact Lc] at this
   exact this
 . intro x sx
   exact aeL G p true (pD p w x) h.p0 (h.sp.mono (by omega)) (fun _=>h.np) ((sW h sx).mono (by omega))
theorem afm {p q:Rat} (h:jB p q) (x:Q4) (sx:cC 1000 x):VP Tryz.prog G 175 [N2 p q x] (.bool true):=vt [hc (xF2 G p q x (h.sp.mono (by omega)) (h.sq.mono (by omega)) (sx.mono (by omega))),hc (Wy G h)] (by kernel_rfl)
theorem Z0 {p q:Rat} (h:jB p q):Ay G (jX h) :=
 ⟨akC G h,akE G h,fun a ha hq=>Nc G a p true (0,1) ha hq (xJ h.p0 h.sp h.np),fun a ha hq=>Nc G a q true (0,1) ha hq (xJ h.q0 h.sq h.nq),wN G (xJ h.p0 h.sp h.np),wN G (xJ h.q0 h.sq h.nq),fun x sx=>WN G h (.inr rfl) x sx,fun x sx=>afm G h x sx⟩
theorem afn {q1 q2:Rat} (h1:0<q1) (h2:0<q2) (s1:Sm 190 q1) (s2:Sm 190 q2):∃ c:Cf,c.q1=q1/\c.q2=q2/\Ay G c:=by
 obtain ⟨b1,l1,k1⟩:=Rw h1 (s1.mono (by omega))
 obtain ⟨b2,l2,k2⟩:=Rw h2 (s2.mono (by omega))
 by_cases hb:b1=false∨b2=false
 . exact ⟨lz ⟨k1,k2,s1,s2,hb⟩,rfl,rfl,ZX G _⟩
 have e1:b1=true:=by cases b1;exact absurd (.inl rfl) hb;rfl
 have e2:b2=true:=by cases b2;exact absurd (.inr rfl) hb;rfl
 subst e1 e2
 by_cases hw:∃ w:Rat,w*w=q2/q1
 . obtain ⟨w0,x6⟩:=hw
   have hpd:=nk.1 (rT k2.pos k1.pos)
   obtain ⟨w,hw,wp⟩:∃ w:Rat,w*w=q2/q1/\0<w:=by
     rcases (by grind:w0<0∨w0=0∨0<w0) with t | t | t
     . exact ⟨-w0,by grind,by grind⟩
     . exfalso;rw [t] at x6;grind
     . exact ⟨w0,x6,t⟩
   have sw:Sm 399 w:=(K7 (k:=380) (by rw [hw];exact (s2.div s1 (by omega)).mono (by omega))).mono (by omega)
   have d:sQ q1 q2 w:=⟨k1.pos,k2.pos,nk.2 wp,s1,s2,k1.no rfl,k2.no rfl,hw,sw.mono (by omega)⟩
   exact ⟨Cx d,rfl,rfl,ZY G d (d.inv sw)⟩
 . exact ⟨jX ⟨k1.pos,k2.pos,s1,s2,k1.no rfl,k2.no rfl,fun r e=>hw ⟨r,e⟩⟩,rfl,rfl,Z0 G _⟩
def afo (c:Cf) (f:FG):AV:=if c.sT (xQ f.d f.k)<=0∨c.sU (yQ f.d f.k)<=0 then .tup [Sv (decide (0<az f.x)), .int .i64 16] else .tup [ZI (c.nT (f.fy c.q1 i1)) (c.nT (f.fy c.q1 i2)) (c.nT (f.sV c.q2 i1)) (c.nT (f.sV c.q2 i2)) (c.nT (f.g7 i1)) (c.nT (f.g7 i2)) (decide (0<az f.x)), .int .i64 0]
theorem RP {c:Cf} (P:Ay G c) (f:FG) (hf:f.Sm) (hx:f.x≠0) (e1:cX f.u f.u=c.q1) (e2:cX f.v f.v=c.q2):VP Tryz.prog G 33 [V2 f.p,V2 f.a,V2 f.b,QV f.r] (afo c f) :=
 RF f hf hx c.bt (afb G (WE P.pr (akA G) f hf hx) (P.lm f.u (hf.u.mono (by omega)) e1) (P.ln f.v (hf.v.mono (by omega)) e2))
theorem Nh (f:FG) (hf:f.Sm) (hx:f.x=0):VP Tryz.prog G 33 [V2 f.p,V2 f.a,V2 f.b,QV f.r] (.tup [Sv false, .int .i64 10]):=by
 have hs:=vv G f.x (hf.x.mono (by omega))
 rw [hx,show az (0:Rat)=0 from rfl] at hs
 exact vt (ZP G f hf 0 hx 0 hs) (by kernel_rfl)
end
end Go.Proofs.YtndoagbiakehnaaGreat
end

section
set_option maxRecDepth 100000
namespace Go.Proofs.YtndoagbiakehnaaGreat
open Go.VL Go.Proofs Go.Lib
section
variable (G:Nat->Option (List AV))
theorem Ni {b:Bool} (X:Nm b):aC Tryz.prog G 98 [X.av, .int .i64 0] X.av:=by
 obtain ⟨l,m,pl,pm⟩:=X
 cases b<;>exact aC.tr hN [au [1] (KL G)] (by kernel_rfl)
theorem Z3 {b:Bool} (X Y:Nm b):aC Tryz.prog G 97 [aV X Y, .int .i64 0] (aV X Y):=by
 obtain ⟨l,m,pl,pm⟩:=X
 obtain ⟨l2,m2,o9,pc⟩:=Y
 cases b<;>exact aC.tr hN [au [1] (KL G)] (by kernel_rfl)
theorem RQ {b b2 b3:Bool} {X:Nm b} {Y:Nm b2} {Z:Nm b3} (h:VP Tryz.prog G 105 [X.av,Y.av] (.tup [Z.av, .int .i64 0])):aC Tryz.prog G 47 [X.av,Y.av] Z.av:=by
 have hn:=Ni G Z
 obtain ⟨l,m,pl,pm⟩:=X
 obtain ⟨l2,m2,o9,pc⟩:=Y
 obtain ⟨l3,m3,tR,tT⟩:=Z
 cases b<;>cases b2<;>cases b3<;>exact aC.tr hN [hc h,au [1] hn] (by kernel_rfl)
theorem afp {b b2 b3:Bool} {X:Nm b} {Y:Nm b2} {Z:Nm b3} (h:VP Tryz.prog G 106 [X.av,Y.av] (.tup [Z.av, .int .i64 0])):aC Tryz.prog G 48 [X.av,Y.av] Z.av:=by
 have hn:=Ni G Z
 obtain ⟨l,m,pl,pm⟩:=X
 obtain ⟨l2,m2,o9,pc⟩:=Y
 obtain ⟨l3,m3,tR,tT⟩:=Z
 cases b<;>cases b2<;>cases b3<;>exact aC.tr hN [hc h,au [1] hn] (by kernel_rfl)
theorem Al {b b2 b3:Bool} {X:Nm b} {Y:Nm b2} {Z:Nm b3} (h:VP Tryz.prog G 108 [X.av,Y.av] (.tup [Z.av, .int .i64 0])):aC Tryz.prog G 50 [X.av,Y.av] Z.av:=by
 have hn:=Ni G Z
 obtain ⟨l,m,pl,pm⟩:=X
 obtain ⟨l2,m2,o9,pc⟩:=Y
 obtain ⟨l3,m3,tR,tT⟩:=Z
 cases b<;>cases b2<;>cases b3<;>exact aC.tr hN [hc h,au [1] hn] (by kernel_rfl)
theorem Cy {b b2 b3:Bool} {X:Nm b} {Y:Nm b2} {Z:Nm b3} (h:VP Tryz.prog G 104 [X.av,Y.av] (.tup [Z.av, .int .i64 0])):aC Tryz.prog G 46 [X.av,Y.av] Z.av:=by
 have hn:=Ni G Z
 obtain ⟨l,m,pl,pm⟩:=X
 obtain ⟨l2,m2,o9,pc⟩:=Y
 obtain ⟨l3,m3,tR,tT⟩:=Z
 cases b<;>cases b2<;>cases b3<;>exact aC.tr hN [hc h,au [1] hn] (by kernel_rfl)
theorem RT {b:Bool} {q:Rat} {Z:Nm b} (h:VP Tryz.prog G 102 [NV q] (.tup [Z.av, .int .i64 0])):aC Tryz.prog G 44 [NV q] Z.av:=by
 have hn:=Ni G Z
 obtain ⟨l3,m3,tR,tT⟩:=Z
 cases b<;>exact aC.tr hN [hc h,au [1] hn] (by kernel_rfl)
theorem v13 {b:Bool} (X Y:Nm b):VP Tryz.prog G 174 [X.av,Y.av, .int .i64 0] (.tup [aV X Y, .int .i64 0]):=by
 obtain ⟨l,m,pl,pm⟩:=X
 obtain ⟨l2,m2,o9,pc⟩:=Y
 cases b<;>exact vt [] (by kernel_rfl)
theorem WO {b0 b2 b4:Bool} {X1 X2:Nm b0} {Y1 Y2:Nm b2} {Z1 Z2:Nm b4} (h1:VP Tryz.prog G 106 [X1.av,Y1.av] (.tup [Z1.av, .int .i64 0])) (h2:VP Tryz.prog G 106 [X2.av,Y2.av] (.tup [Z2.av, .int .i64 0])):VP Tryz.prog G 109 [aV X1 X2,aV Y1 Y2] (.tup [aV Z1 Z2, .int .i64 0]):=by
 have h3:=v13 G Z1 Z2
 obtain ⟨l0,m0,Nf,Ng⟩:=X1
 obtain ⟨l1,m1,D3,D4⟩:=X2
 obtain ⟨l2,m2,o9,pc⟩:=Y1
 obtain ⟨l3,m3,tR,tT⟩:=Y2
 obtain ⟨l4,m4,Ld,Le⟩:=Z1
 obtain ⟨l5,m5,NF,NG⟩:=Z2
 cases b0<;>cases b2<;>cases b4<;>exact vt [hc h1,hc h2,hc (Ue G),hc h3] (by kernel_rfl)
theorem UC {b0 b2 b4:Bool} {X1 X2:Nm b0} {Y:Nm b2} {Z1 Z2:Nm b4} (h1:VP Tryz.prog G 105 [X1.av,Y.av] (.tup [Z1.av, .int .i64 0])) (h2:VP Tryz.prog G 105 [X2.av,Y.av] (.tup [Z2.av, .int .i64 0])):VP Tryz.prog G 110 [aV X1 X2,Y.av] (.tup [aV Z1 Z2, .int .i64 0]):=by
 have h3:=v13 G Z1 Z2
 obtain ⟨l0,m0,Nf,Ng⟩:=X1
 obtain ⟨l1,m1,D3,D4⟩:=X2
 obtain ⟨l2,m2,o9,pc⟩:=Y
 obtain ⟨l4,m4,Ld,Le⟩:=Z1
 obtain ⟨l5,m5,NF,NG⟩:=Z2
 cases b0<;>cases b2<;>cases b4<;>exact vt [hc h1,hc h2,hc (Ue G),hc h3] (by kernel_rfl)
theorem D6 {b0 b2 b4:Bool} {X1 X2:Nm b0} {Y1 Y2:Nm b2} {Z1 Z2:Nm b4} (h1:VP Tryz.prog G 106 [X1.av,Y1.av] (.tup [Z1.av, .int .i64 0])) (h2:VP Tryz.prog G 106 [X2.av,Y2.av] (.tup [Z2.av, .int .i64 0])):aC Tryz.prog G 51 [aV X1 X2,aV Y1 Y2] (aV Z1 Z2):=by
 have h:=WO G h1 h2
 have hk:=Z3 G Z1 Z2
 obtain ⟨l0,m0,Nf,Ng⟩:=X1
 obtain ⟨l1,m1,D3,D4⟩:=X2
 obtain ⟨l2,m2,o9,pc⟩:=Y1
 obtain ⟨l3,m3,tR,tT⟩:=Y2
 obtain ⟨l4,m4,Ld,Le⟩:=Z1
 obtain ⟨l5,m5,NF,NG⟩:=Z2
 cases b0<;>cases b2<;>cases b4<;>exact aC.tr hN [hc h,au [1] hk] (by kernel_rfl)
theorem vG {b0 b2 b4:Bool} {X1 X2:Nm b0} {Y:Nm b2} {Z1 Z2:Nm b4} (h1:VP Tryz.prog G 105 [X1.av,Y.av] (.tup [Z1.av, .int .i64 0])) (h2:VP Tryz.prog G 105 [X2.av,Y.av] (.tup [Z2.av, .int .i64 0])):aC Tryz.prog G 52 [aV X1 X2,Y.av] (aV Z1 Z2):=by
 have h:=UC G h1 h2
 have hk:=Z3 G Z1 Z2
 obtain ⟨l0,m0,Nf,Ng⟩:=X1
 obtain ⟨l1,m1,D3,D4⟩:=X2
 obtain ⟨l2,m2,o9,pc⟩:=Y
 obtain ⟨l4,m4,Ld,Le⟩:=Z1
 obtain ⟨l5,m5,NF,NG⟩:=Z2
 cases b0<;>cases b2<;>cases b4<;>exact aC.tr hN [hc h,au [1] hk] (by kernel_rfl)
theorem eqN {b0 b2 b4:Bool} {X:Nm b0} {Y:Nm b2} {Z:Nm b4} {s:Int} (h1:VP Tryz.prog G 108 [X.av,Y.av] (.tup [Z.av, .int .i64 0])) (h2:VP Tryz.prog G 42 [Z.av] (.int .i64 s)):VP Tryz.prog G 18 [X.av,Y.av] (.bool (decide (s=0))):=by
 obtain ⟨l0,m0,Nf,Ng⟩:=X
 obtain ⟨l1,m1,D3,D4⟩:=Y
 obtain ⟨l2,m2,o9,pc⟩:=Z
 have Bj:VP Tryz.prog G 63 [(⟨l0,m0,Nf,Ng⟩:Nm b0).av,(⟨l1,m1,D3,D4⟩:Nm b2).av] (.tup [.int .i64 s, .int .i64 0]):=by
   cases b0<;>cases b2<;>cases b4<;>exact vt [hc h1,hc h2] (by kernel_rfl)
 cases b0<;>cases b2<;>exact vt [hc Bj] (by kernel_rfl)
theorem UD {b0 b2:Bool} {X1 X2:Nm b0} {Y1 Y2:Nm b2} {s1 s2:Bool} (h1:VP Tryz.prog G 18 [X1.av,Y1.av] (.bool s1)) (h2:VP Tryz.prog G 18 [X2.av,Y2.av] (.bool s2)):VP Tryz.prog G 19 [aV X1 X2,aV Y1 Y2] (.bool (s1&&s2)):=by
 obtain ⟨l0,m0,Nf,Ng⟩:=X1
 obtain ⟨l1,m1,D3,D4⟩:=X2
 obtain ⟨l2,m2,o9,pc⟩:=Y1
 obtain ⟨l3,m3,tR,tT⟩:=Y2
 cases s1
 . cases b0<;>cases b2<;>exact vt [hc h1] (by kernel_rfl)
 . cases b0<;>cases b2<;>exact vt [hc h1,hc h2] (by kernel_rfl)
theorem afq {b:Bool} {X1 X2:Nm b} (h1:VP Tryz.prog G 175 [X1.av] (.bool true)) (h2:VP Tryz.prog G 175 [X2.av] (.bool true)):VP Tryz.prog G 112 [aV X1 X2] (.bool true):=by
 obtain ⟨l0,m0,Nf,Ng⟩:=X1
 obtain ⟨l1,m1,D3,D4⟩:=X2
 cases b<;>exact vt [hc h1,hc h2] (by kernel_rfl)
theorem afr {b:Bool} {X1 X2 Y1 Y2 M1 M2 D1 D2 S1 S2 Z:Nm b} (n1:VP Tryz.prog G 43 [Y1.av] M1.av) (n2:VP Tryz.prog G 43 [Y2.av] M2.av) (a1:VP Tryz.prog G 106 [X1.av,M1.av] (.tup [D1.av, .int .i64 0])) (a2:VP Tryz.prog G 106 [X2.av,M2.av] (.tup [D2.av, .int .i64 0])) (q1:VP Tryz.prog G 105 [D1.av,D1.av] (.tup [S1.av, .int .i64 0])) (q2:VP Tryz.prog G 105 [D2.av,D2.av] (.tup [S2.av, .int .i64 0])) (s:VP Tryz.prog G 106 [S1.av,S2.av] (.tup [Z.av, .int .i64 0])):aC Tryz.prog G 15 [aV X1 X2,aV Y1 Y2] Z.av:=by
 have h1:=WO G a1 a2
 have k1:=Z3 G D1 D2
 have k2:=Ni G Z
 obtain ⟨l0,m0,Nf,Ng⟩:=X1
 obtain ⟨l1,m1,D3,D4⟩:=X2
 obtain ⟨l2,m2,o9,pc⟩:=Y1
 obtain ⟨l3,m3,tR,tT⟩:=Y2
 obtain ⟨l4,m4,Ld,Le⟩:=M1
 obtain ⟨l5,m5,NF,NG⟩:=M2
 obtain ⟨l6,m6,Ha,Hb⟩:=D1
 obtain ⟨l7,m7,Nj,Nk⟩:=D2
 obtain ⟨l8,m8,pl8,pm8⟩:=S1
 obtain ⟨l9,m9,pl9,pm9⟩:=S2
 obtain ⟨la,ma,pla,pma⟩:=Z
 cases b
 . have n:VP Tryz.prog G 114 [aV (⟨l2,m2,o9,pc⟩:Nm false) ⟨l3,m3,tR,tT⟩] (aV (⟨l4,m4,Ld,Le⟩:Nm false) ⟨l5,m5,NF,NG⟩):=vt [hc n1,hc n2] (by kernel_rfl)
   have d:VP Tryz.prog G 56 [aV (⟨l0,m0,Nf,Ng⟩:Nm false) ⟨l1,m1,D3,D4⟩,aV (⟨l2,m2,o9,pc⟩:Nm false) ⟨l3,m3,tR,tT⟩] (.tup [aV (⟨l6,m6,Ha,Hb⟩:Nm false) ⟨l7,m7,Nj,Nk⟩, .int .i64 0]):=vt [hc n,hc h1] (by kernel_rfl)
   have t:VP Tryz.prog G 107 [aV (⟨l6,m6,Ha,Hb⟩:Nm false) ⟨l7,m7,Nj,Nk⟩,aV (⟨l6,m6,Ha,Hb⟩:Nm false) ⟨l7,m7,Nj,Nk⟩] (.tup [(⟨la,ma,pla,pma⟩:Nm false).av, .int .i64 0]):=vt [hc q1,hc q2,hc s] (by kernel_rfl)
   have u:VP Tryz.prog G 103 [aV (⟨l6,m6,Ha,Hb⟩:Nm false) ⟨l7,m7,Nj,Nk⟩] (.tup [(⟨la,ma,pla,pma⟩:Nm false).av, .int .i64 0]):=vt [hc t] (by kernel_rfl)
   have k3:aC Tryz.prog G 40 [aV (⟨l0,m0,Nf,Ng⟩:Nm false) ⟨l1,m1,D3,D4⟩,aV (⟨l2,m2,o9,pc⟩:Nm false) ⟨l3,m3,tR,tT⟩] (aV (⟨l6,m6,Ha,Hb⟩:Nm false) ⟨l7,m7,Nj,Nk⟩):=aC.tr hN [hc d,au [1] k1] (by kernel_rfl)
   have k4:aC Tryz.prog G 45 [aV (⟨l6,m6,Ha,Hb⟩:Nm false) ⟨l7,m7,Nj,Nk⟩] (⟨la,ma,pla,pma⟩:Nm false).av:=aC.tr hN [hc u,au [1] k2] (by kernel_rfl)
   exact aC.tr hN [au [1] k3,au [1] k4] (by kernel_rfl)
 . have n:VP Tryz.prog G 114 [aV (⟨l2,m2,o9,pc⟩:Nm true) ⟨l3,m3,tR,tT⟩] (aV (⟨l4,m4,Ld,Le⟩:Nm true) ⟨l5,m5,NF,NG⟩):=vt [hc n1,hc n2] (by kernel_rfl)
   have d:VP Tryz.prog G 56 [aV (⟨l0,m0,Nf,Ng⟩:Nm true) ⟨l1,m1,D3,D4⟩,aV (⟨l2,m2,o9,pc⟩:Nm true) ⟨l3,m3,tR,tT⟩] (.tup [aV (⟨l6,m6,Ha,Hb⟩:Nm true) ⟨l7,m7,Nj,Nk⟩, .int .i64 0]):=vt [hc n,hc h1] (by kernel_rfl)
   have t:VP Tryz.prog G 107 [aV (⟨l6,m6,Ha,Hb⟩:Nm true) ⟨l7,m7,Nj,Nk⟩,aV (⟨l6,m6,Ha,Hb⟩:Nm true) ⟨l7,m7,Nj,Nk⟩] (.tup [(⟨la,ma,pla,pma⟩:Nm true).av, .int .i64 0]):=vt [hc q1,hc q2,hc s] (by kernel_rfl)
   have u:VP Tryz.prog G 103 [aV (⟨l6,m6,Ha,Hb⟩:Nm true) ⟨l7,m7,Nj,Nk⟩] (.tup [(⟨la,ma,pla,pma⟩:Nm true).av, .int .i64 0]):=vt [hc t] (by kernel_rfl)
   have k3:aC Tryz.prog G 40 [aV (⟨l0,m0,Nf,Ng⟩:Nm true) ⟨l1,m1,D3,D4⟩,aV (⟨l2,m2,o9,pc⟩:Nm true) ⟨l3,m3,tR,tT⟩] (aV (⟨l6,m6,Ha,Hb⟩:Nm true) ⟨l7,m7,Nj,Nk⟩):=aC.tr hN [hc d,au [1] k1] (by kernel_rfl)
   have k4:aC Tryz.prog G 45 [aV (⟨l6,m6,Ha,Hb⟩:Nm true) ⟨l7,m7,Nj,Nk⟩] (⟨la,ma,pla,pma⟩:Nm true).av:=aC.tr hN [hc u,au [1] k2] (by kernel_rfl)
   exact aC.tr hN [au [1] k3,au [1] k4] (by kernel_rfl)
variable {G}
theorem Ay.eq {c:Cf} (P:Ay G c) {k l:Kd} (e:jS k l=some .T) (x y:Q4) (hx:Sh k x) (hy:Sh l y) (sx:cC 1000 x) (sy:cC 1000 y) (sd:cC 800 (bO x (bQ y))):VP Tryz.prog G 18 [(c.nm k x).av,(c.nm l y).av] (.bool (decide (c.sT (bO x (bQ y))=0))) :=
 eqN G (P.rf.sub e x y hx hy sx sy) (P.rf.sgn .T (.inl rfl) _ sd)
theorem rV {x:Q4}:bO x (bQ x)=r2 0:=by unfold bO cY bQ j3;apply dt<;>simp only []<;>grind
theorem Ay.eqS {c:Cf} (P:Ay G c) (x:Q4) (sx:cC 1000 x):VP Tryz.prog G 18 [(c.nT x).av,(c.nT x).av] (.bool true):=by
 have:=P.eq (k := .T) (l := .T) rfl x x trivial trivial sx sx (by rw [rV];exact eh (Sm.zero.mono (by omega):Go.VL.Sm 800 (0:Rat)) (by omega))
 rw [rV,c.zr] at this
 exact this
theorem Ay.far {c:Cf} (P:Ay G c) (x1 x2 y1 y2 d1 d2 z:Q4) (sx1:cC 1000 x1) (sx2:cC 1000 x2) (sy1:cC 1000 y1) (sy2:cC 1000 y2) (e1:bO x1 (bQ y1)=d1) (e2:bO x2 (bQ y2)=d2) (sd1:cC 400 d1) (sd2:cC 400 d2) (s1:cC 1000 (bD c.q1 c.q2 d1 d1)) (s2:cC 1000 (bD c.q1 c.q2 d2 d2)) (ez:bO (bD c.q1 c.q2 d1 d1) (bD c.q1 c.q2 d2 d2)=z):aC Tryz.prog G 15 [aV (c.nT x1) (c.nT x2),aV (c.nT y1) (c.nT y2)] (c.nT z).av:=by
 have a1:=P.rf.add (k := .T) (l := .T) rfl x1 (bQ y1) trivial trivial sx1 (D5 sy1)
 have a2:=P.rf.add (k := .T) (l := .T) rfl x2 (bQ y2) trivial trivial sx2 (D5 sy2)
 rw [e1] at a1
 rw [e2] at a2
 have m1:=P.rf.mul (k := .T) (l := .T) rfl d1 d1 trivial trivial (sd1.mono (by omega)) (sd1.mono (by omega))
 have m2:=P.rf.mul (k := .T) (l := .T) rfl d2 d2 trivial trivial (sd2.mono (by omega)) (sd2.mono (by omega))
 have m3:=P.rf.add (k := .T) (l := .T) rfl _ _ trivial trivial s1 s2
 rw [ez] at m3
 exact afr G (P.ng y1 sy1) (P.ng y2 sy2) a1 a2 m1 m2 m3
end
end Go.Proofs.YtndoagbiakehnaaGreat
end

section
set_option linter.unusedVariables false
namespace Go.VL
section
variable {P:Program} {G:Nat->Option (List AV)} {π : Id} {c:bJ} {α : Type}
def WQ (P:Program) (G:Nat->Option (List AV)) (π : Id) (c:bJ) (e:bP) (w:Nat) (t:List AV) (S:List (Id × cN)) (t':List AV) (S':List (Id × cN)):Prop :=
 ∀ (n:Nat) (Q:bP->VS->Prop),(∀ s,Wk G π s ⟨t',ae.of S',n+w⟩->Q e s)->VW P G π c Q ⟨t,ae.of S,n⟩
theorem VW.through (l:List α) (T:Nat->List AV) (S:List (Id × cN)) (w n0 N j:Nat) (t1:List AV) (hN:n0+w*l.length+w<=N)
   (h:∀ i x,l[i]? = some x->i<l.length->WQ P G π c .normal w (T i) S (T (i+1)) S) (he:WQ P G π c (.exit j) w (T l.length) S t1 []) :
   VW P G π (.loop c) (fun e' s=>e' = .exit j/\Wk G π s ⟨t1,bX.to (x9 []),N⟩) ⟨T 0,ae.of S,n0⟩:=by
 refine VW.sN (α := Nat) (fun i=>⟨T i,ae.of S,n0+w*i⟩) (fun i=>i<=l.length) (fun i=>l.length-i) 0 (by rw [Nat.mul_zero];exact Wk.refl _ _ _) (Nat.zero_le _) ?_
 intro i hi
 by_cases hlt:i<l.length
 . refine h i l[i] (by simp [hlt]) hlt _ _ fun s hw=>⟨i+1,hlt,by simp only [];omega, ?_⟩
   have e:n0+w*i+w=n0+w*(i+1):=by rw [Nat.mul_add,Nat.mul_one];omega
   simp only [];rw [<- e];exact hw
 . obtain rfl:i=l.length:=by omega
   refine he _ _ fun s hw=>⟨rfl, ?_⟩
   exact Wk.toT (by simp) (hw.trans (Wk.forget (Fg.same _) (fun j => .inr rfl) hN))
theorem VW.UE (l:List α) (p : α -> Bool) (hp:l.any p=true) (T:Nat->List AV) (S:List (Id × cN)) (w n0 N:Nat) (t1:List AV) (hN:n0+w*l.length+w<=N)
   (h:∀ i x,l[i]? = some x->i<l.length->p x=false->WQ P G π c .normal w (T i) S (T (i+1)) S)
   (he:∀ i x,l[i]? = some x->i<l.length->p x=true->u7 l p i->WQ P G π c .ret w (T i) S t1 []) :
   VW P G π (.loop c) (fun e' s=>e' = .ret/\Wk G π s ⟨t1,bX.to (x9 []),N⟩) ⟨T 0,ae.of S,n0⟩:=by
 refine VW.sN (α := Nat) (fun i=>⟨T i,ae.of S,n0+w*i⟩) (fun i=>i<=l.length/\u7 l p i) (fun i=>l.length-i) 0 (by rw [Nat.mul_zero];exact Wk.refl _ _ _) ⟨Nat.zero_le _,fun j e hj=>absurd hj (Nat.not_lt_zero j)⟩ ?_
 rintro i ⟨hi,hn⟩
 by_cases hlt:i<l.length
 . have hx:l[i]? = some l[i]:=by simp [hlt]
   cases hb:p l[i]
   . refine h i l[i] hx hlt hb _ _ fun s hw=>⟨i+1,⟨hlt,hn.succ hx hb⟩,by simp only [];omega, ?_⟩
     have e:n0+w*i+w=n0+w*(i+1):=by rw [Nat.mul_add,Nat.mul_one];omega
     simp only [];rw [<- e];exact hw
   . refine he i l[i] hx hlt hb hn _ _ fun s hw=>⟨rfl, ?_⟩
     have:=Nat.mul_le_mul_left w (Nat.le_of_lt hlt)
     exact Wk.toT (by simp) (hw.trans (Wk.forget (Fg.same _) (fun j => .inr rfl) (by omega)))
 . obtain rfl:i=l.length:=by omega
   rw [hn.any (Nat.le_refl _)] at hp;cases hp
end
end Go.VL
end

section
set_option maxRecDepth 100000
namespace Go.Proofs.YtndoagbiakehnaaGreat
open Go.VL Go.Proofs Go.Lib
structure NY where
 name:List UInt8
 mF:Bool
 cw:Bool
 fa:Bool
 fb:Bool
 fc:Bool
 a1:Nm fa
 a2:Nm fa
 b1:Nm fb
 b2:Nm fb
 c1:Nm fc
 c2:Nm fc
def NY.cv (x:NY):AV := .agg [.bool x.mF,re x.fa x.a1.l, .sl 4 x.a1.m,re x.fa x.a2.l, .sl 4 x.a2.m,re x.fb x.b1.l, .sl 4 x.b1.m,re x.fb x.b2.l, .sl 4 x.b2.m,re x.fc x.c1.l, .sl 4 x.c1.m,re x.fc x.c2.l, .sl 4 x.c2.m, .bool x.cw]
def NY.av (x:NY):AV := .agg [.str x.name, .bool x.mF,re x.fa x.a1.l, .sl 4 x.a1.m,re x.fa x.a2.l, .sl 4 x.a2.m,re x.fb x.b1.l, .sl 4 x.b1.m,re x.fb x.b2.l, .sl 4 x.b2.m,re x.fc x.c1.l, .sl 4 x.c1.m,re x.fc x.c2.l, .sl 4 x.c2.m, .bool x.cw]
theorem NY.pu (x:NY):(PU (re x.fa x.a1.l)/\PU (re x.fa x.a2.l)/\PU (re x.fb x.b1.l)/\PU (re x.fb x.b2.l)/\PU (re x.fc x.c1.l)/\PU (re x.fc x.c2.l))/\PU (.sl 4 x.a1.m)/\PU (.sl 4 x.a2.m)/\PU (.sl 4 x.b1.m)/\PU (.sl 4 x.b2.m)/\PU (.sl 4 x.c1.m)/\PU (.sl 4 x.c2.m):=⟨⟨mB x.a1.pl,mB x.a2.pl,mB x.b1.pl,mB x.b2.pl,mB x.c1.pl,mB x.c2.pl⟩,x.a1.pm,x.a2.pm,x.b1.pm,x.b2.pm,x.c1.pm,x.c2.pm⟩
instance {x:NY}:PU x.cv:=by
 obtain ⟨⟨_,_,_,_,_,_⟩,_,_,_,_,_,_⟩:=x.pu
 unfold NY.cv;infer_instance
instance {x:NY}:PU x.av:=by
 obtain ⟨⟨_,_,_,_,_,_⟩,_,_,_,_,_,_⟩:=x.pu
 unfold NY.av;infer_instance
abbrev iw (l:List NY):AV := .sl 15 (l.map NY.av)
theorem Hc (x:NY):∀ c∈x.av.cells,af c:=(nE.cells (c:=x.av) inferInstance (by
 intro d hd
 obtain ⟨⟨_,_,_,_,_,_⟩,_,_,_,_,_,_⟩:=x.pu
 simp only [NY.av,AV.cells,List.mem_cons,List.not_mem_nil,or_false] at hd
 rcases hd with rfl | rfl | rfl | rfl | rfl | rfl | rfl | rfl | rfl | rfl | rfl | rfl | rfl | rfl | rfl<;>exact PU.pure)).pure
theorem D7 (x:NY):(x.av.cells.all AV.one=true)=True:=by
 obtain ⟨nm,mF,cw,fa,fb,fc,a1,a2,b1,b2,c1,c2⟩:=x
 cases fa<;>cases fb<;>cases fc<;>exact eq_true rfl
theorem RU (l:List NY):∀ c∈flat (l.map NY.av),af c:=by
 intro c hc
 simp only [flat,List.mem_flatMap,List.mem_map] at hc
 obtain ⟨_,⟨x,_,rfl⟩,hc⟩:=hc
 exact Hc x c hc
instance {l:List NY}:PU (iw l):=PU.rows (fun x=>inferInstance) Hc l
theorem kx {l:List NY} {i:Nat} {x:NY} (h:l[i]? = some x):bG 15 (iw l) (.int .i64 (i:Int))=some (.ep x.av.cells 0):=eO rfl (by rw [List.getElem?_map,h];rfl)
def NX.toY (x:NX):NY:=⟨x.name,x.c.mF,x.c.cw,false,false,false,nR x.c.a.1,nR x.c.a.2,nR x.c.b.1,nR x.c.b.2,nR x.c.c.1,nR x.c.c.2⟩
theorem pX (l:List NX):iw (l.map NX.toY)=lg l:=by
 show AV.sl 15 ((l.map NX.toY).map NY.av)=AV.sl 15 (l.map NX.av)
 rw [List.map_map];rfl
def kK (l:List NY) (nm:List UInt8):Int:=AW (l.findIdx? fun x=>x.name==nm)
def lA (l more:List NY):Int :=
 if 200<l.length+more.length then 3 else if (more.any fun x=>decide (200<x.name.length))=true then 3 else if (more.any fun x=>decide (0<=kK l x.name))=true then 5 else 0
theorem IX {l:List NY} {nm:List UInt8} {i:Nat} {x:NY} (hx:l[i]? = some x) (hp:(x.name==nm)=true) (hn:u7 l (fun x=>x.name==nm) i):kK l nm=(i:Int):=by
 unfold kK;rw [uW hx hp hn];rfl
theorem Hd {l:List NY} {p:NY->Bool} (h:l.any p=false):AW (l.findIdx? p) = -1:=by
 rw [C9 (fun j x hj=>by
   rw [List.any_eq_false] at h
   simpa using h x (List.mem_of_getElem? hj))];rfl
theorem Z4 {l:List NY} {p:NY->Bool}:decide (AW (l.findIdx? p)≥0)=l.any p:=by
 rw [<- List.findIdx?_isSome]
 cases l.findIdx? p<;>simp [AW]
theorem mC {l:List NY} {i:Nat} (h:i<l.length):decide ((i:Int)<((l.map NY.av).length:Int))=true:=ai (by simpa using h)
theorem rW {l:List NY}:decide ((l.length:Int)<((l.map NY.av).length:Int))=false:=ag (by simp)
abbrev IY:bJ:=(.seq (cS [oM 6 5,oM 7 0,oN 8 7,oT 9 .lss 6 8] (.cond (.t 9) .skip (.exit 0))) (.seq (.block 1 (cS [oM 12 0,oM 13 5,oA 14 15 12 13,oF 15 0 14,oL 16 1 15,oM 17 1,⟨some 18,.bin .eql .str (.t 16) (.t 17),none⟩] (.cond (.t 18) (cS [oM 19 5,oM 4 19] .ret) .skip))) (cR [oM 10 5,dr 11 .add 10 1,oM 5 11])))
def Lg (l:List NY) (nm:List UInt8) (r i:AV):List AV:=[iw l, .str nm, .top, .top,r,i]++List.replicate 14 .top
theorem yo {ρ : VL.Id->VL.Id} {l:List NY} {nm:List UInt8} {r i:AV} [PU r] [PU i]:bK ρ (Lg l nm r i)=Lg l nm r i:=by
 unfold Lg
 simp only [cW,aT,bn,eI,PU.fixed,je]
abbrev IZ:bJ:=(cS [oT 9 .lss 8 7] (.seq (.cond (.t 9) .skip (.exit 0)) (.seq (.block 1 (cS [oM 10 8,oM 5 10] (cS [oM 11 1,oM 12 0,oM 13 5,oA 14 15 12 13,xh 15 15 14,⟨some 16,.call (.t 11) [.t 15],none⟩] (.cond (.t 16) (cS [oM 17 5,oM 4 17] .ret) .skip)))) (cR [dr 18 .add 8 1,oM 8 18]))))
def RW (l:List NY) (f:FuncId) (c:List AV) (r:AV) (i:Nat):List AV:=[iw l, .fn (.func f) [] c, .top, .top,r, .top, .top, .int .i64 ((l.map NY.av).length:Nat), .int .i64 (i:Int)]++List.replicate 10 .top
theorem yp {ρ : VL.Id->VL.Id} {l:List NY} {f:FuncId} {c:List AV} {r:AV} {i:Nat} [nE c] [PU r]:bK ρ (RW l f c r i)=RW l f c r i:=by
 unfold RW
 simp only [cW,aT,bn,eI,PU.fixed,je]
def WR (r:AV):List AV:=[.top, .top, .top, .top,r]++List.replicate 14 .top
theorem UF {ρ : VL.Id->VL.Id} {r:AV} [PU r]:bK ρ (WR r)=WR r:=by
 unfold WR
 simp only [cW,aT,bn,eI,PU.fixed,je]
section
variable (G:Nat->Option (List AV))
theorem RX (l:List NY) (nm:List UInt8) (hl:l.length<=1000):VP Tryz.prog G 12 [iw l, .str nm] (.int .i64 (kK l nm)):=by
 have step:∀ i x,l[i]? = some x->i<l.length->(x.name==nm)=false->WQ Tryz.prog G [] IY .normal 40 (Lg l nm (.int .i64 0) (.int .i64 (i:Int))) [] (Lg l nm (.int .i64 0) (.int .i64 ((i+1:Nat):Int))) []:=fun i x hx hlt hp n Q hq =>
   VW.tr (π := []) (n:=n) (fun _=>[]) [hb 9 (mC hlt),ho 14 (kx hx),hb 18 hp,hw 11 (aF i (by omega))] (Lg l nm (.int .i64 0) (.int .i64 (i:Int))) [] .normal (Lg l nm (.int .i64 0) (.int .i64 ((i+1:Nat):Int))) [] 40 (by kernel_rfl) yo rfl yo rfl (by simp) hq
 cases ha:l.any fun x=>x.name==nm
 . have RY:=VW.through (P:=Tryz.prog) (G:=G) (π := []) (c:=IY) l (fun i=>Lg l nm (.int .i64 0) (.int .i64 (i:Int))) [] 40 1000 1000000 0 (List.replicate 20 .top) (by omega) (fun i x hx hlt=>step i x hx hlt (by rw [List.any_eq_false] at ha;simpa using ha x (List.mem_of_getElem? hx)))
     (fun n Q hq=>VW.tr (π := []) (n:=n) (fun _=>[]) [hb 9 (rW (l:=l))] (Lg l nm (.int .i64 0) (.int .i64 (l.length:Int))) [] (.exit 0) (List.replicate 20 .top) [] 40 (by kernel_rfl) yo rfl eI rfl (by simp) hq)
   rw [show kK l nm = -1 from Hd ha]
   exact vt [.lp [] _ _ _ _ _ _ _ _ RY] (by kernel_rfl)
 . have RY:=VW.UE (P:=Tryz.prog) (G:=G) (π := []) (c:=IY) l (fun x=>x.name==nm) ha (fun i=>Lg l nm (.int .i64 0) (.int .i64 (i:Int))) [] 40 1000 1000000 (Lg l nm (.int .i64 (kK l nm)) .top) (by omega) step
     (fun i x hx hlt hp hn n Q hq=>VW.tr (π := []) (n:=n) (fun _=>[]) [hb 9 (mC hlt),ho 14 (kx hx),hb 18 hp,hw 4 (IX hx hp hn).symm] (Lg l nm (.int .i64 0) (.int .i64 (i:Int))) [] .ret (Lg l nm (.int .i64 (kK l nm)) .top) [] 40 (by kernel_rfl) yo rfl (by unfold Lg;simp only [cW,aT,bn,eI,PU.fixed,je]) rfl (by simp) hq)
   exact vt [.lp [] _ _ _ _ _ _ _ _ RY] (by kernel_rfl)
theorem afs (l:List NY) (f:FuncId) (c:List AV) [nE c] (p:NY->Bool) (hl:l.length<=1000) (hf:∀ x∈l,VP Tryz.prog G f (x.av::c) (.bool (p x))):VP Tryz.prog G 91 [iw l, .fn (.func f) [] c] (.int .i64 (AW (l.findIdx? p))):=by
 have step:∀ i x,l[i]? = some x->i<l.length->p x=false->WQ Tryz.prog G [] IZ .normal 40 (RW l f c (.int .i64 0) i) [] (RW l f c (.int .i64 0) (i+1)) []:=fun i x hx hlt hp n Q hq=>by
   have hv:=hf x (List.mem_of_getElem? hx)
   rw [hp] at hv
   exact VW.tr (π := []) (n:=n) (fun _=>[]) [hb 9 (mC hlt),ho 14 (kx hx),hc hv,hw 18 (aF i (by omega))] (RW l f c (.int .i64 0) i) [] .normal (RW l f c (.int .i64 0) (i+1)) [] 40 (by kernel_rfl) yp rfl yp rfl (by simp) hq
 cases ha:l.any p
 . have RY:=VW.through (P:=Tryz.prog) (G:=G) (π := []) (c:=IZ) l (fun i=>RW l f c (.int .i64 0) i) [] 40 1000 1000000 0 (WR .top) (by omega) (fun i x hx hlt=>step i x hx hlt (by rw [List.any_eq_false] at ha;simpa using ha x (List.mem_of_getElem? hx)))
     (fun n Q hq=>VW.tr (π := []) (n:=n) (fun _=>[]) [hb 9 (rW (l:=l))] (RW l f c (.int .i64 0) l.length) [] (.exit 0) (WR .top) [] 40 (by kernel_rfl) yp rfl (by unfold WR;simp only [cW,aT,bn,eI,je]) rfl (by simp) hq)
   rw [Hd ha]
   exact vt [.lp [] _ _ _ _ _ _ _ _ RY] (by kernel_rfl)
 . have RY:=VW.UE (P:=Tryz.prog) (G:=G) (π := []) (c:=IZ) l p ha (fun i=>RW l f c (.int .i64 0) i) [] 40 1000 1000000 (WR (.int .i64 (AW (l.findIdx? p)))) (by omega) step
     (fun i x hx hlt hp hn n Q hq=>by
       have hv:=hf x (List.mem_of_getElem? hx)
       rw [hp] at hv
       have e:(i:Int)=AW (l.findIdx? p):=by rw [uW hx hp hn];rfl
       exact VW.tr (π := []) (n:=n) (fun _=>[]) [hb 9 (mC hlt),ho 14 (kx hx),hc hv,hw 4 e] (RW l f c (.int .i64 0) i) [] .ret (WR (.int .i64 (AW (l.findIdx? p)))) [] 40 (by kernel_rfl) yp rfl UF rfl (by simp) hq)
   exact vt [.lp [] _ _ _ _ _ _ _ _ RY] (by kernel_rfl)
theorem WS (l:List NY) (f:FuncId) (c:List AV) [nE c] (p:NY->Bool) (hl:l.length<=1000) (hf:∀ x∈l,VP Tryz.prog G f (x.av::c) (.bool (p x))):VP Tryz.prog G 162 [iw l, .fn (.func f) [] c] (.bool (l.any p)):=vt [hc (afs G l f c p hl hf),hb 8 (Z4 (l:=l) (p:=p))] (by kernel_rfl)
theorem D8 (l:List NY) (nm:List UInt8) (hl:l.length<=1000):VP Tryz.prog G 35 [iw l, .str nm] (.int .i64 (kK l nm)):=by
 have h1:∀ x:NY,VP Tryz.prog G 92 [x.av, .ep [.str nm] 0] (.bool (x.name==nm)):=fun x=>by
   obtain ⟨nm',mF,cw,fa,fb,fc,⟨l1,m1,D3,D4⟩,⟨l2,m2,o9,pc⟩,⟨l3,m3,tR,tT⟩,⟨l4,m4,Ld,Le⟩,⟨l5,m5,NF,NG⟩,⟨l6,m6,Ha,Hb⟩⟩:=x
   cases fa<;>cases fb<;>cases fc<;>exact vt [] (by kernel_rfl)
 have h2:=afs G l 92 [.ep [.str nm] 0] (fun x=>x.name==nm) hl fun x _=>h1 x
 have hv:ah (ae.of [([0],(⟨[.str nm],1,false⟩:cN))]) [iw l, .fn (.func 92) [] [.ref [0] 0 0]] [iw l, .fn (.func 92) [] [.ep [.str nm] 0]]:=ah.cons (View.pure PU.pure) (ah.cons (View.fn ah.nil (ah.cons (View.ref (bk:=⟨[.str nm],1,false⟩) (by simp [ae.of]) rfl (ah.pure (by simp [AV.cells,af.str]))) ah.nil)) ah.nil)
 exact vt [bm [([0],⟨[.str nm],1,false⟩)] h2 hv] (by kernel_rfl)
theorem aft (l more:List NY) (hl:l.length<=1000) (hm:more.length<=1000):VP Tryz.prog G 93 [iw l,iw more] (.int .i64 (lA l more)):=by
 have h1:∀ x:NY,VP Tryz.prog G 160 [x.av] (.bool (decide (200<x.name.length))):=fun x=>by
   have e:decide ((x.name.length:Int)>200)=decide (200<x.name.length):=by congr 1;exact propext (by omega)
   obtain ⟨nm',mF,cw,fa,fb,fc,⟨l1,m1,D3,D4⟩,⟨l2,m2,o9,pc⟩,⟨l3,m3,tR,tT⟩,⟨l4,m4,Ld,Le⟩,⟨l5,m5,NF,NG⟩,⟨l6,m6,Ha,Hb⟩⟩:=x
   cases fa<;>cases fb<;>cases fc<;>exact vt [hb 6 e] (by kernel_rfl)
 have h2:∀ x:NY,VP Tryz.prog G 161 [x.av, .ep [iw l] 0] (.bool (decide (0<=kK l x.name))):=fun x=>by
   have hi:=D8 G l x.name hl
   obtain ⟨nm',mF,cw,fa,fb,fc,⟨l1,m1,D3,D4⟩,⟨l2,m2,o9,pc⟩,⟨l3,m3,tR,tT⟩,⟨l4,m4,Ld,Le⟩,⟨l5,m5,NF,NG⟩,⟨l6,m6,Ha,Hb⟩⟩:=x
   cases fa<;>cases fb<;>cases fc<;>exact vt [hc hi] (by kernel_rfl)
 have c1:=WS G more 160 [] (fun x=>decide (200<x.name.length)) hm fun x _=>h1 x
 have c2:=WS G more 161 [.ep [iw l] 0] (fun x=>decide (0<=kK l x.name)) hm fun x _=>h2 x
 have hv:ah (ae.of [([0],(⟨[iw l],1,false⟩:cN))]) [iw more, .fn (.func 161) [] [.ref [0] 0 0]] [iw more, .fn (.func 161) [] [.ep [iw l] 0]]:=ah.cons (View.pure PU.pure) (ah.cons (View.fn ah.nil (ah.cons (View.ref (bk:=⟨[iw l],1,false⟩) (by simp [ae.of]) rfl (ah.pure (by intro c hc;rcases List.mem_singleton.1 hc with rfl;exact PU.pure))) ah.nil)) ah.nil)
 have w13:IntKind.i64.wrap (((l.map NY.av).length:Int)+((more.map NY.av).length:Int))=((l.length+more.length:Nat):Int):=by rw [IntKind.wrap_i64,List.length_map,List.length_map];omega
 unfold lA
 by_cases h0:200<l.length+more.length
 . rw [if_pos h0]
   exact vt [hw 13 w13,hb 14 (ai (by omega):decide (((l.length+more.length:Nat):Int)>200)=true)] (by kernel_rfl)
 rw [if_neg h0]
 have d14:decide (((l.length+more.length:Nat):Int)>200)=false:=ag (by omega)
 cases pZ:more.any fun x=>decide (200<x.name.length)<;>rw [pZ] at c1
 . rw [if_neg (by decide)]
   cases qh:more.any fun x=>decide (0<=kK l x.name)<;>rw [qh] at c2
   . exact vt [hw 13 w13,hb 14 d14,hc c1,bm [([0],⟨[iw l],1,false⟩)] c2 hv] (by kernel_rfl)
   . exact vt [hw 13 w13,hb 14 d14,hc c1,bm [([0],⟨[iw l],1,false⟩)] c2 hv] (by kernel_rfl)
 . exact vt [hw 13 w13,hb 14 d14,hc c1] (by kernel_rfl)
end
end Go.Proofs.YtndoagbiakehnaaGreat
end
