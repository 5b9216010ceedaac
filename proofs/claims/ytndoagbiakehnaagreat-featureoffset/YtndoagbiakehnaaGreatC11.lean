/- For the claim of FeatureOffset: parts RO1, RO2, RO3, RO4, VL41, ISQ, RO5, RO6, RO7, OA3, OA4, OA5, OA6, OM1, RO8, RO9, RY3, SCN, RY1. -/
import Derived.Test.YtndoagbiakehnaaGreatC10
import Derived.Test.YtndoagbiakehnaaGreatC09
import Derived.Test.YtndoagbiakehnaaGreatC07
import Derived.Test.YtndoagbiakehnaaGreatC03
import Derived.KernelRfl
set_option linter.unusedSimpArgs false
set_option linter.unusedVariables false
section
set_option maxRecDepth 100000
namespace Go.Proofs.YtndoagbiakehnaaGreat
open Go.VL Go.Proofs Go.Lib
def E1 (v:Q2):AV := .sl 4 [QV v.1,QV v.2]
def T1 (q:Rat):AV := .sl 1 [EV q]
theorem Sd {q:Rat}:(QV q).size=4:=rfl
instance {v:Q2}:PU (E1 v):=PU.slice (by intro c hc;simp only [flat,List.flatMap_cons,List.flatMap_nil,List.append_nil,List.mem_append] at hc;rcases hc with hc | hc;exact qc _ c hc;exact qc _ c hc) (by intro c hc ρ;simp at hc;rcases hc with rfl | rfl;exact PU.fix ρ;exact PU.fix ρ)
instance {q:Rat}:PU (T1 q):=PU.slice (by intro c hc;simp only [flat,List.flatMap_cons,List.flatMap_nil,List.append_nil] at hc;rcases List.mem_singleton.1 hc with rfl;exact aW q) (by intro c hc ρ;simp at hc;subst hc;exact PU.fix ρ)
theorem KC {σ : ae} {i:VL.Id} {x y:Rat} {b t:Bool} (h : σ i=some ⟨[QV x,QV y],4,b⟩):View σ (.osl i 4 0 2 t) (E1 (x,y)):=Fm h rfl rfl (qc x) (qc y)
def eG (q:Rat) (a b:Q2):Q2:=(a.1*b.1+a.2*b.2*q,a.1*b.2+a.2*b.1)
section
variable (G:Nat->Option (List AV))
theorem z1 (x:Rat) (hx:Sm 100000 x):VP Tryz.prog G 283 [QV x] (.bool (!decide (x=0))):=by
 have e:(aZ x != 0) = !decide (x=0):=by
   have:=Kv x
   by_cases h:x=0
   . rw [decide_eq_true h] at this ⊢
     have:=of_decide_eq_true this
     simp [this]
   . rw [decide_eq_false h] at this ⊢
     have:=of_decide_eq_false this
     simp [this]
 exact VP.tr Fb [hc (Ky G x hx),hb 5 e] (by kernel_rfl)
theorem cfE (f:Nat) (a:Q2) (p r:Bool) (h1:VP Tryz.prog G f [QV a.1] (.bool p)) (h2:VP Tryz.prog G f [QV a.2] (.bool r)):VP Tryz.prog G 262 [E1 a, .fn (.func f) [] []] (.bool (p||r)):=by
 cases p
 . cases r
   . have hi:VP Tryz.prog G 284 [E1 a, .fn (.func f) [] []] (.int .i64 (-1)):=VP.tr cZ [hc h1,hc h2] (by kernel_rfl)
     exact VP.tr cJ [hc hi] (by kernel_rfl)
   . have hi:VP Tryz.prog G 284 [E1 a, .fn (.func f) [] []] (.int .i64 1):=VP.tr cZ [hc h1,hc h2] (by kernel_rfl)
     exact VP.tr cJ [hc hi] (by kernel_rfl)
 . have hi:VP Tryz.prog G 284 [E1 a, .fn (.func f) [] []] (.int .i64 0):=VP.tr cZ [hc h1] (by kernel_rfl)
   exact VP.tr cJ [hc hi] (by kernel_rfl)
theorem XR (a:Q2) (ha:bR 100000 a):VP Tryz.prog G 259 [E1 a] (.bool (decide (a=(0,0)))):=by
 have h:=cfE G 283 a _ _ (z1 G a.1 ha.1) (z1 G a.2 ha.2)
 have e:(!(!decide (a.1=0) || !decide (a.2=0)))=decide (a=(0,0)):=by
   rw [Bool.not_or,Bool.not_not,Bool.not_not, <- Bool.decide_and]
   exact decide_eq_decide.2 ⟨fun h=>Prod.ext h.1 h.2,fun h=>by rw [h];exact ⟨rfl,rfl⟩⟩
 exact VP.tr HW [hc h,hb 5 e] (by kernel_rfl)
theorem aiS (a b:Q2) (ha:bR 50000 a) (hb:bR 50000 b):VP Tryz.prog G 209 [E1 a,E1 b] (E1 (a.1+b.1,a.2+b.2)) :=
 VP.n7 nK [hc (Us G a.1 b.1 (ha.1.mono (by omega)) (hb.1.mono (by omega))),hc (Us G a.2 b.2 (ha.2.mono (by omega)) (hb.2.mono (by omega)))] [([3],⟨[QV (a.1+b.1),QV (a.2+b.2)],4,false⟩)] (.osl [3] 4 0 2 false) (by kernel_rfl) (fun σ h=>KC (h ([3],⟨[QV (a.1+b.1),QV (a.2+b.2)],4,false⟩) (by simp)))
theorem Cn (a b:Rat) (ha:Sm 100000 a) (hb:Sm 100000 b):VP Tryz.prog G 242 [.sl 1 [],EV a,EV b] (EV (a*b)) :=
 VP.n7 lq [hc (aeB G a b ha hb)] [([12],⟨[QV (a*b)],4,false⟩)] (.osl [12] 4 0 1 false) (by kernel_rfl) (fun σ h=>L0 (h ([12],⟨[QV (a*b)],4,false⟩) (by simp)))
theorem XS (a b:Rat) (ha:Sm 100000 a) (hb:Sm 100000 b):VP Tryz.prog G 209 [EV a,EV b] (EV (a+b)) :=
 VP.n7 nK [hc (Us G a b ha hb)] [([3],⟨[QV (a+b)],4,false⟩)] (.osl [3] 4 0 1 false) (by kernel_rfl) (fun σ h=>L0 (h ([3],⟨[QV (a+b)],4,false⟩) (by simp)))
theorem aeW (a b:Rat) (ha:Sm 100000 a) (hb:Sm 100000 b) (p:VL.Id):aM Tryz.prog G 209 [EV a,EV b] p [] { val := .osl (3::p) 4 0 1 false,rd:=[],up:=[(3::p,some ⟨[QV (a+b)],4,false⟩)] } :=
 aM.tr (p:=p) (up:=[(3::p,⟨[QV (a+b)],4,false⟩)]) nK (fun _=>[]) [hc (Us G a b ha hb)] [EV a,EV b] [] (.osl [3,0] 4 0 1 false) [([3,0],⟨[QV (a+b)],4,false⟩)] (by kernel_rfl) (by rw [Cm.fix]) rfl rfl (by simp only [bl,bG,ck,bA,cd,PU.fixed];rfl) (by simp) (by simp)
theorem L5 (q:Rat):VP Tryz.prog G 269 [T1 q] (.tup [.sl 1 [],EV q]):=VP.tr Gk [] (by kernel_rfl)
theorem Eg (a:Q2):VP Tryz.prog G 270 [E1 a] (.tup [EV a.1,EV a.2]):=VP.tr Fc [] (by kernel_rfl)
theorem SG:VP Tryz.prog G 267 [.int .i64 2] (E1 (0,0)) :=
 VP.n7 rI [hc (Iv G 0 (by decide) (by decide)),hc (Iv G 0 (by decide) (by decide))] [([2],⟨[QV 0,QV 0],4,false⟩)] (.osl [2] 4 0 2 false) (by kernel_rfl) (fun σ h=>KC (h ([2],⟨[QV 0,QV 0],4,false⟩) (by simp)))
theorem KD {q:Rat} {a b:Q2} (h:a=(0,0)∨b=(0,0)):eG q a b=(0,0):=by
 unfold eG
 rcases h with rfl | rfl<;>refine Prod.ext ?_ ?_<;>simp only []<;>grind
theorem aiT (q:Rat) (a b:Q2) (hq:Sm 20000 q) (ha:bR 20000 a) (hb:bR 20000 b):VP Tryz.prog G 242 [T1 q,E1 a,E1 b] (E1 (eG q a b)):=by
 have za:=XR G a (ha.mono (by omega))
 have zb:=XR G b (hb.mono (by omega))
 by_cases a0:a=(0,0)
 . rw [decide_eq_true a0] at za
   rw [KD (.inl a0)]
   exact VP.tr lq [hc za,hc (SG G)] (by kernel_rfl)
 rw [decide_eq_false a0] at za
 by_cases b0:b=(0,0)
 . rw [decide_eq_true b0] at zb
   rw [KD (.inr b0)]
   exact VP.tr lq [hc za,hc zb,hc (SG G)] (by kernel_rfl)
 rw [decide_eq_false b0] at zb
 have m1:=Cn G a.1 b.1 (ha.1.mono (by omega)) (hb.1.mono (by omega))
 have m2:=Cn G a.2 b.2 (ha.2.mono (by omega)) (hb.2.mono (by omega))
 have m3:=Cn G (a.2*b.2) q ((ha.2.mul hb.2).mono (by omega)) (hq.mono (by omega))
 have m4:=Cn G a.1 b.2 (ha.1.mono (by omega)) (hb.2.mono (by omega))
 have m5:=Cn G a.2 b.1 (ha.2.mono (by omega)) (hb.1.mono (by omega))
 have d1:=fun p=>aeW G (a.1*b.1) (a.2*b.2*q) ((ha.1.mul hb.1).mono (by omega)) (((ha.2.mul hb.2).mul hq).mono (by omega)) p
 have d2:=XS G (a.1*b.2) (a.2*b.1) ((ha.1.mul hb.2).mono (by omega)) ((ha.2.mul hb.1).mono (by omega))
 exact VP.n7 lq [hc za,hc zb,hc (L5 G q),hc (Eg G a),hc (Eg G b),hc m1,hc m2,hc m3, .rel 209 _ [] _ (fun p _=>d1 p) (by intro p x hx;simp at hx),hc m4,hc m5,hc d2] [([56],⟨[QV (eG q a b).1,QV (eG q a b).2],4,false⟩)] (.osl [56] 4 0 2 false) (by kernel_rfl) (fun σ h=>KC (h ([56],⟨[QV (eG q a b).1,QV (eG q a b).2],4,false⟩) (by simp)))
def eJ (q:Rat) (a:Q2):Rat:=a.1*a.1 + -(a.2*a.2*q)
def o7 (q:Rat) (a:Q2):Q2:=(a.1*(1/eJ q a), -(a.2*(1/eJ q a)))
theorem aeX (a b:Rat) (ha:Sm 100000 a) (hb:Sm 100000 b) (p:VL.Id):aM Tryz.prog G 242 [.sl 1 [],EV a,EV b] p [] { val := .osl (12::p) 4 0 1 false,rd:=[],up:=[(12::p,some ⟨[QV (a*b)],4,false⟩)] } :=
 aM.tr (p:=p) (up:=[(12::p,⟨[QV (a*b)],4,false⟩)]) lq (fun _=>[]) [hc (aeB G a b ha hb)] [.sl 1 [],EV a,EV b] [] (.osl [12,0] 4 0 1 false) [([12,0],⟨[QV (a*b)],4,false⟩)] (by kernel_rfl) (by rw [Cm.fix]) rfl rfl (by simp only [bl,bG,ck,bA,cd,PU.fixed];rfl) (by simp) (by simp)
theorem XT (a:Rat) (ha:Sm 100000 a):VP Tryz.prog G 203 [EV a] (EV (-a)) :=
 VP.n7 Cb [hc (ais G a ha)] [([3],⟨[QV (-a)],4,false⟩)] (.osl [3] 4 0 1 false) (by kernel_rfl) (fun σ h=>L0 (h ([3],⟨[QV (-a)],4,false⟩) (by simp)))
theorem aeY (q:Rat) (a:Q2) (hq:Sm 1000 q) (ha:bR 1000 a):VP Tryz.prog G 272 [T1 q,E1 a] (EV (eJ q a)):=by
 have m1:=Cn G a.1 a.1 (ha.1.mono (by omega)) (ha.1.mono (by omega))
 have m2:=Cn G a.2 a.2 (ha.2.mono (by omega)) (ha.2.mono (by omega))
 have m3:=Cn G (a.2*a.2) q ((ha.2.mul ha.2).mono (by omega)) (hq.mono (by omega))
 have s3:=(ha.2.mul ha.2).mul hq
 have m4:=XT G (a.2*a.2*q) (s3.mono (by omega))
 have m5:=XS G (a.1*a.1) (-(a.2*a.2*q)) ((ha.1.mul ha.1).mono (by omega)) (s3.neg.mono (by omega))
 exact VP.tr HX [hc (L5 G q),hc (Eg G a),hc m1,hc m2,hc m3,hc m4,hc m5] (by kernel_rfl)
theorem GD {q:Rat} {a:Q2} {j k:Nat} (hq:Sm j q) (ha:bR k a):Sm (4*k+j+1) (eJ q a):=((ha.1.mul ha.1).add ((ha.2.mul ha.2).mul hq).neg).mono (by omega)
theorem aiU (a:Rat) (W6:a≠0) (ha:Sm 100000 a):VP Tryz.prog G 243 [.sl 1 [],EV a] (.tup [EV (1/a), .bool true]) :=
 VP.n7 pK [hc (Iv G 1 (by decide) (by decide)),hc (aiv G 1 a W6 sm1 ha)] [([17],⟨[QV (1/a)],4,false⟩)] (.tup [.osl [17] 4 0 1 false, .bool true]) (by kernel_rfl) (fun σ h=>View.tup (az.cons (L0 (h ([17],⟨[QV (1/a)],4,false⟩) (by simp))) (az.cons (View.pure (ab.bool _)) az.nil)))
theorem aiV (q:Rat) (a:Q2) (h0:eJ q a≠0) (hq:Sm 1000 q) (ha:bR 1000 a):VP Tryz.prog G 243 [T1 q,E1 a] (.tup [E1 (o7 q a), .bool true]):=by
 have sn:=GD hq ha
 have si:Sm 5002 (1/eJ q a):=(Sm.div (aav (a:=1) (by decide):Sm 1 (1:Rat)) sn (by omega)).mono (by omega)
 have hn:=aeY G q a hq ha
 have hi:=aiU G (eJ q a) h0 (sn.mono (by omega))
 have m1:=fun p=>aeX G a.1 (1/eJ q a) (ha.1.mono (by omega)) (si.mono (by omega)) p
 have m2:=Cn G a.2 (1/eJ q a) (ha.2.mono (by omega)) (si.mono (by omega))
 have m3:=XT G (a.2*(1/eJ q a)) ((ha.2.mul si).mono (by omega))
 exact VP.n7 pK [hc (L5 G q),hc hn,hc hi,hc (Eg G a), .rel 242 _ [] _ (fun p _=>m1 p) (by intro p x hx;simp at hx),hc m2,hc m3] [([40],⟨[QV (o7 q a).1,QV (o7 q a).2],4,false⟩)] (.tup [.osl [40] 4 0 2 false, .bool true]) (by kernel_rfl) (fun σ h=>View.tup (az.cons (KC (h ([40],⟨[QV (o7 q a).1,QV (o7 q a).2],4,false⟩) (by simp))) (az.cons (View.pure (ab.bool _)) az.nil)))
theorem acQ (a:Q2) (ha:bR 100000 a):VP Tryz.prog G 236 [E1 a, .int .i64 2] (.bool true):=by
 have n1:∀ x,Sm 100000 x->VP Tryz.prog G 263 [QV x] (.bool false):=fun x hx=>VP.tr rS [hc (LZ G x hx)] (by kernel_rfl)
 exact VP.tr um [hc (cfE G 263 a false false (n1 a.1 ha.1) (n1 a.2 ha.2))] (by kernel_rfl)
theorem XU (q:Rat) (hq:Sm 100000 q):VP Tryz.prog G 235 [T1 q] (.bool true):=VP.tr ny [hc (tn G q hq)] (by kernel_rfl)
theorem L6 (q:Rat) (a:Q2) (hq:Sm 100000 q) (ha:bR 100000 a):VP Tryz.prog G 202 [T1 q,E1 a] (.bool true):=VP.tr qJ [hc (XU G q hq),hc (acQ G a ha)] (by kernel_rfl)
theorem XV (q:Rat) (a b:Q2) (hq:Sm 100000 q) (ha:bR 100000 a) (hb:bR 100000 b):VP Tryz.prog G 208 [T1 q,E1 a,E1 b] (.bool true):=VP.tr qK [hc (L6 G q a hq ha),hc (acQ G b hb)] (by kernel_rfl)
theorem XW (q:Rat) (a b:Q2) (hq:Sm 20000 q) (ha:bR 20000 a) (hb:bR 20000 b):VP Tryz.prog G 155 [T1 q,E1 a,E1 b] (E1 (a.1+b.1,a.2+b.2)):=VP.tr Cc [hc (XV G q a b (hq.mono (by omega)) (ha.mono (by omega)) (hb.mono (by omega))),hc (aiS G a b (ha.mono (by omega)) (hb.mono (by omega)))] (by kernel_rfl)
theorem XX (q:Rat) (a b:Q2) (hq:Sm 20000 q) (ha:bR 20000 a) (hb:bR 20000 b):VP Tryz.prog G 206 [T1 q,E1 a,E1 b] (E1 (eG q a b)):=VP.tr vn [hc (XV G q a b (hq.mono (by omega)) (ha.mono (by omega)) (hb.mono (by omega))),hc (aiT G q a b hq ha hb)] (by kernel_rfl)
theorem acR (q:Rat) (a:Q2) (h0:eJ q a≠0) (hq:Sm 1000 q) (ha:bR 1000 a):VP Tryz.prog G 207 [T1 q,E1 a] (.tup [E1 (o7 q a), .int .i64 0]):=VP.tr Cf [hc (L6 G q a (hq.mono (by omega)) (ha.mono (by omega))),hc (aiV G q a h0 hq ha)] (by kernel_rfl)
end
end Go.Proofs.YtndoagbiakehnaaGreat
end

section
set_option maxRecDepth 100000
namespace Go.Proofs.YtndoagbiakehnaaGreat
open Go.VL Go.Proofs Go.Lib
def N1 (q:Rat) (v:Q2):AV := .agg [T1 q,E1 v]
instance {q:Rat} {v:Q2}:PU (N1 q v):=by unfold N1;infer_instance
theorem UB:Sm 100000 (0:Rat):=smL (UZ (by decide +kernel))
theorem fJ (q:Rat) (v:Q2):∀ c∈(N1 q v).cells,ab c:=by intro c hc;simp only [N1,AV.cells,List.mem_cons,List.not_mem_nil,or_false] at hc;rcases hc with rfl | rfl<;>exact PU.pure
theorem aeZ {k:Nat} {a b:AV} [h:PU a] [g:PU b] (ha:∀ c∈a.cells,ab c) (hb:∀ c∈b.cells,ab c):PU (.sl k [a,b]):=PU.slice (by
 intro c hc
 simp only [flat,List.flatMap_cons,List.flatMap_nil,List.append_nil,List.mem_append] at hc
 rcases hc with hc | hc
 . exact ha c hc
 . exact hb c hc) (by intro c hc ρ;simp at hc;rcases hc with rfl | rfl;exact h.fix ρ;exact g.fix ρ)
instance {x q:Rat} {v:Q2}:PU (.sl 2 [NV x,N1 q v]):=aeZ (kg x) (fJ q v)
instance {x q:Rat} {v:Q2}:PU (.sl 2 [N1 q v,NV x]):=aeZ (fJ q v) (kg x)
instance {q:Rat} {u v:Q2}:PU (.sl 2 [N1 q u,N1 q v]):=aeZ (fJ q u) (fJ q v)
section
variable (G:Nat->Option (List AV))
theorem aiW (a b:Rat) (ha:Sm 100000 a) (hb:Sm 100000 b):VP Tryz.prog G 192 [EV a,EV b] (.bool (decide (a=b))):=Sk pL a b (Sl dF a b (Og nL a b (ait G a b ha hb)))
theorem Qt (q:Rat):VP Tryz.prog G 191 [.nils,T1 q] (.bool false):=VP.tr lO [] (by kernel_rfl)
theorem Fo (q:Rat):VP Tryz.prog G 191 [T1 q, .nils] (.bool true):=by
 have h:VP Tryz.prog G 224 [.sl 1 [], .nils, .fn (.func 192) [] []] (.bool true):=VP.tr b6 [] (by kernel_rfl)
 exact VP.tr lO [hc h] (by kernel_rfl)
theorem IF (q:Rat) (hq:Sm 100000 q):VP Tryz.prog G 191 [T1 q,T1 q] (.bool true):=by
 have hs:=aiW G q q hq hq
 rw [decide_eq_true rfl] at hs
 have h:VP Tryz.prog G 224 [T1 q,T1 q, .fn (.func 192) [] []] (.bool true):=VP.tr b6 [hc hs] (by kernel_rfl)
 exact VP.tr lO [hc h] (by kernel_rfl)
theorem ae0 (x q:Rat) (v:Q2):VP Tryz.prog G 228 [.sl 2 [NV x,N1 q v]] (.tup [T1 q, .int .i64 0]):=VP.tr lP [hc (Uu G),hc (Qt G q),hc (Fo G q)] (by kernel_rfl)
theorem ae1 (x q:Rat) (v:Q2):VP Tryz.prog G 228 [.sl 2 [N1 q v,NV x]] (.tup [T1 q, .int .i64 0]):=VP.tr lP [hc (Qt G q),hc (Fo G q),hc (Fo G q)] (by kernel_rfl)
theorem ae2 (q:Rat) (u v:Q2) (hq:Sm 100000 q):VP Tryz.prog G 228 [.sl 2 [N1 q u,N1 q v]] (.tup [T1 q, .int .i64 0]):=VP.tr lP [hc (Qt G q),hc (Fo G q),hc (IF G q hq)] (by kernel_rfl)
theorem amS (v:Q2):VP Tryz.prog G 231 [E1 v] (E1 v):=VP.n7 dG [] [([5],⟨[QV v.1,QV v.2],4,false⟩)] (.osl [5] 4 0 2 false) (by kernel_rfl) (fun σ h=>KC (h ([5],⟨[QV v.1,QV v.2],4,false⟩) (by simp)))
theorem aiX (x:Rat) (p:VL.Id):aM Tryz.prog G 231 [EV x] p [] { val := .osl (5::p) 4 0 1 false,rd:=[],up:=[(5::p,some ⟨[QV x],4,false⟩)] } :=
 aM.tr (p:=p) (up:=[(5::p,⟨[QV x],4,false⟩)]) dG (fun _=>[]) [] [EV x] [] (.osl [5,0] 4 0 1 false) [([5,0],⟨[QV x],4,false⟩)] (by kernel_rfl) (by rw [Cm.fix]) rfl rfl (by simp only [bl,bG,ck,bA,cd,PU.fixed];rfl) (by simp) (by simp)
theorem SH (q:Rat) (v:Q2):VP Tryz.prog G 197 [T1 q,E1 v] (E1 v):=VP.tr te [hc (amS G v)] (by kernel_rfl)
theorem acS (q x:Rat):VP Tryz.prog G 197 [T1 q,EV x] (E1 (x,0)):=VP.n7 te [.rel 231 _ [] _ (fun p _=>aiX G x p) (by intro p x hx;simp at hx),hc (Iv G 0 (by decide) (by decide))] [([13],⟨[QV x,QV 0],4,false⟩)] (.osl [13] 4 0 2 false) (by kernel_rfl) (fun σ h=>KC (h ([13],⟨[QV x,QV 0],4,false⟩) (by simp)))
theorem aiY (v:Q2) (hv:bR 100000 v):VP Tryz.prog G 201 [E1 v] (E1 v):=VP.n7 im [hc (Iw G v.1 hv.1),hc (Iw G v.2 hv.2)] [([3],⟨[QV v.1,QV v.2],4,false⟩)] (.osl [3] 4 0 2 false) (by kernel_rfl) (fun σ h=>KC (h ([3],⟨[QV v.1,QV v.2],4,false⟩) (by simp)))
theorem IG (q:Rat) (v:Q2) (hq:Sm 100000 q) (hv:bR 100000 v):VP Tryz.prog G 147 [N1 q v] (N1 q v):=VP.n7 lN [hc (aiY G v hv),hc (Ba im q (Iw G q hq))] [([21],⟨[EV q],1,false⟩)] (.agg [.osl [21] 1 0 1 false,E1 v]) (by kernel_rfl) (fun σ h=>View.agg (az.cons (rN (h ([21],⟨[EV q],1,false⟩) (by simp)) rfl (by intro c hc;rcases List.mem_singleton.1 hc with rfl;exact aW q)) (az.cons (View.pure PU.pure) az.nil)))
theorem vNN {σ : ae} {i:VL.Id} {q:Rat} {u v:Q2} {b t:Bool} (h : σ i=some ⟨[N1 q u,N1 q v],2,b⟩):View σ (.osl i 2 0 2 t) (.sl 2 [N1 q u,N1 q v]):=Fm h rfl rfl (fJ q u) (fJ q v)
theorem aaO (x q:Rat) (v:Q2) (hx:Sm 100000 x) (hq:Sm 100000 q) (hv:bR 100000 v):VP Tryz.prog G 193 [.sl 2 [NV x,N1 q v]] (.tup [.sl 2 [N1 q (x,0),N1 q v], .int .i64 0]) :=
 VP.n7 n4 [hc (ae0 G x q v),hc (Fo G q),hc (acS G q x),hc (IG G q (x,0) hq ⟨hx,UB⟩),hc (IF G q hq),hc (SH G q v),hc (IG G q v hq hv)] [([65],⟨[N1 q (x,0),N1 q v],2,false⟩)] (.tup [.osl [65] 2 0 2 false, .int .i64 0]) (by kernel_rfl) (fun σ h=>vT (vNN (h ([65],⟨[N1 q (x,0),N1 q v],2,false⟩) (by simp))))
theorem aaP (x q:Rat) (v:Q2) (hx:Sm 100000 x) (hq:Sm 100000 q) (hv:bR 100000 v):VP Tryz.prog G 193 [.sl 2 [N1 q v,NV x]] (.tup [.sl 2 [N1 q v,N1 q (x,0)], .int .i64 0]) :=
 VP.n7 n4 [hc (ae1 G x q v),hc (IF G q hq),hc (SH G q v),hc (IG G q v hq hv),hc (Fo G q),hc (acS G q x),hc (IG G q (x,0) hq ⟨hx,UB⟩)] [([65],⟨[N1 q v,N1 q (x,0)],2,false⟩)] (.tup [.osl [65] 2 0 2 false, .int .i64 0]) (by kernel_rfl) (fun σ h=>vT (vNN (h ([65],⟨[N1 q v,N1 q (x,0)],2,false⟩) (by simp))))
theorem aaQ (q:Rat) (u v:Q2) (hq:Sm 100000 q) (hu:bR 100000 u) (hv:bR 100000 v):VP Tryz.prog G 193 [.sl 2 [N1 q u,N1 q v]] (.tup [.sl 2 [N1 q u,N1 q v], .int .i64 0]) :=
 VP.n7 n4 [hc (ae2 G q u v hq),hc (IF G q hq),hc (SH G q u),hc (IG G q u hq hu),hc (IF G q hq),hc (SH G q v),hc (IG G q v hq hv)] [([65],⟨[N1 q u,N1 q v],2,false⟩)] (.tup [.osl [65] 2 0 2 false, .int .i64 0]) (by kernel_rfl) (fun σ h=>vT (vNN (h ([65],⟨[N1 q u,N1 q v],2,false⟩) (by simp))))
theorem v2L {σ : ae} {i:VL.Id} {A B:AV} (h : σ i=some ⟨[A,B],2,false⟩) (hA:A.size=2) (hB:B.size=2) (pa:∀ c∈A.cells,ab c) (pb:∀ c∈B.cells,ab c):View σ (.osl i 2 0 2 false) (.sl 2 [A,B]):=Fm h hA hB pa pb
theorem SI (f:Nat) (x q:Rat) (v w:Q2) (hx:Sm 100000 x) (hq:Sm 100000 q) (hv:bR 100000 v) (h:VP Tryz.prog G f [T1 q,E1 (x,0),E1 v] (E1 w)):VP Tryz.prog G 154 [NV x,N1 q v, .fn (.func f) [] []] (.tup [N1 q w, .int .i64 0]):=by
 have hw:az (ae.of [([6],⟨[NV x,N1 q v],2,false⟩)]) [.osl [6] 2 0 2 false] [.sl 2 [NV x,N1 q v]]:=az.cons (v2L (by simp [ae.of]) rfl rfl (kg x) (fJ q v)) az.nil
 exact VP.tr iS [fR [([6],⟨[NV x,N1 q v],2,false⟩)] (aaO G x q v hx hq hv) hw,hc h] (by kernel_rfl)
theorem SJ (f:Nat) (x q:Rat) (v w:Q2) (hx:Sm 100000 x) (hq:Sm 100000 q) (hv:bR 100000 v) (h:VP Tryz.prog G f [T1 q,E1 v,E1 (x,0)] (E1 w)):VP Tryz.prog G 154 [N1 q v,NV x, .fn (.func f) [] []] (.tup [N1 q w, .int .i64 0]):=by
 have hw:az (ae.of [([6],⟨[N1 q v,NV x],2,false⟩)]) [.osl [6] 2 0 2 false] [.sl 2 [N1 q v,NV x]]:=az.cons (v2L (by simp [ae.of]) rfl rfl (fJ q v) (kg x)) az.nil
 exact VP.tr iS [fR [([6],⟨[N1 q v,NV x],2,false⟩)] (aaP G x q v hx hq hv) hw,hc h] (by kernel_rfl)
theorem SK (f:Nat) (q:Rat) (u v w:Q2) (hq:Sm 100000 q) (hu:bR 100000 u) (hv:bR 100000 v) (h:VP Tryz.prog G f [T1 q,E1 u,E1 v] (E1 w)):VP Tryz.prog G 154 [N1 q u,N1 q v, .fn (.func f) [] []] (.tup [N1 q w, .int .i64 0]):=by
 have hw:az (ae.of [([6],⟨[N1 q u,N1 q v],2,false⟩)]) [.osl [6] 2 0 2 false] [.sl 2 [N1 q u,N1 q v]]:=az.cons (v2L (by simp [ae.of]) rfl rfl (fJ q u) (fJ q v)) az.nil
 exact VP.tr iS [fR [([6],⟨[N1 q u,N1 q v],2,false⟩)] (aaQ G q u v hq hu hv) hw,hc h] (by kernel_rfl)
end
end Go.Proofs.YtndoagbiakehnaaGreat
end

section
set_option maxRecDepth 100000
namespace Go.Proofs.YtndoagbiakehnaaGreat
open Go.VL Go.Proofs Go.Lib
def nq (q:Rat) (b:Bool) (v:Q2):AV:=match b with | true=>N1 q v | false=>NV v.1
def Fl (b:Bool) (v:Q2):Prop:=b=false->v.2=0
instance {q:Rat} {b:Bool} {v:Q2}:PU (nq q b v):=by cases b<;>(unfold nq;infer_instance)
section
variable (G:Nat->Option (List AV))
theorem zQ {x y:Rat} (h:Fl false (x,y)):y=0:=h rfl
theorem XY (q:Rat) (b c:Bool) (u v:Q2) (hq:Sm 10000 q) (hu:bR 10000 u) (hv:bR 10000 v) (fu:Fl b u) (fv:Fl c v):VP Tryz.prog G 86 [nq q b u,nq q c v] (.tup [nq q (b||c) (u.1+v.1,u.2+v.2), .int .i64 0]):=by
 have sq:=hq.mono (k:=100000) (by omega)
 cases b<;>cases c
 . exact Uv G u.1 v.1 (hu.1.mono (by omega)) (hv.1.mono (by omega))
 . obtain ⟨x,y⟩:=u
   obtain rfl:=zQ fu
   exact VP.tr pM [hc (SI G 155 x q v _ (hu.1.mono (by omega)) sq (hv.mono (by omega)) (XW G q (x,0) v (hq.mono (by omega)) (hu.mono (by omega)) (hv.mono (by omega))))] (by kernel_rfl)
 . obtain ⟨x,y⟩:=v
   obtain rfl:=zQ fv
   exact VP.tr pM [hc (SJ G 155 x q u _ (hv.1.mono (by omega)) sq (hu.mono (by omega)) (XW G q u (x,0) (hq.mono (by omega)) (hu.mono (by omega)) (hv.mono (by omega))))] (by kernel_rfl)
 . exact VP.tr pM [hc (SK G 155 q u v _ sq (hu.mono (by omega)) (hv.mono (by omega)) (XW G q u v (hq.mono (by omega)) (hu.mono (by omega)) (hv.mono (by omega))))] (by kernel_rfl)
theorem OX {q x y:Rat}:(eG q (x,0) (y,0)).1=x*y:=by unfold eG;simp only [];grind
theorem SL (q:Rat) (b c:Bool) (u v:Q2) (hq:Sm 10000 q) (hu:bR 10000 u) (hv:bR 10000 v) (fu:Fl b u) (fv:Fl c v):VP Tryz.prog G 152 [nq q b u,nq q c v] (.tup [nq q (b||c) (eG q u v), .int .i64 0]):=by
 have sq:=hq.mono (k:=100000) (by omega)
 cases b<;>cases c
 . obtain ⟨x,y⟩:=u
   obtain rfl:=zQ fu
   obtain ⟨z,t⟩:=v
   obtain rfl:=zQ fv
   have:=L1 G x z (hu.1.mono (by omega)) (hv.1.mono (by omega))
   rw [<- OX (q:=q)] at this
   exact this
 . obtain ⟨x,y⟩:=u
   obtain rfl:=zQ fu
   exact VP.tr pN [hc (SI G 206 x q v _ (hu.1.mono (by omega)) sq (hv.mono (by omega)) (XX G q (x,0) v (hq.mono (by omega)) (hu.mono (by omega)) (hv.mono (by omega))))] (by kernel_rfl)
 . obtain ⟨x,y⟩:=v
   obtain rfl:=zQ fv
   exact VP.tr pN [hc (SJ G 206 x q u _ (hv.1.mono (by omega)) sq (hu.mono (by omega)) (XX G q u (x,0) (hq.mono (by omega)) (hu.mono (by omega)) (hv.mono (by omega))))] (by kernel_rfl)
 . exact VP.tr pN [hc (SK G 206 q u v _ sq (hu.mono (by omega)) (hv.mono (by omega)) (XX G q u v (hq.mono (by omega)) (hu.mono (by omega)) (hv.mono (by omega))))] (by kernel_rfl)
end
end Go.Proofs.YtndoagbiakehnaaGreat
end

section
set_option maxRecDepth 100000
namespace Go.Proofs.YtndoagbiakehnaaGreat
open Go.VL Go.Proofs Go.Lib
def BS (q:Rat) (v:Q2):Int:=if aZ v.2=0∨aZ v.1=aZ v.2 then aZ v.1 else if aZ v.1=0 then aZ v.2 else aZ v.1*aZ (v.1*v.1 + -(q*(v.2*v.2)))
theorem IH (x:Rat):aZ x = -1∨aZ x=0∨aZ x=1:=by
 unfold aZ
 rcases Int.lt_trichotomy x.num 0 with h | h | h
 . exact .inl (Int.sign_eq_neg_one_of_neg h)
 . rw [h];exact .inr (.inl rfl)
 . exact .inr (.inr (Int.sign_eq_one_of_pos h))
instance {v:Q2}:PU (.sl 1 [E1 v]):=PU.slice (by intro c hc;simp only [flat,List.flatMap_cons,List.flatMap_nil,List.append_nil] at hc;rcases List.mem_singleton.1 hc with rfl;exact PU.pure) (by intro c hc ρ;simp at hc;subst hc;exact PU.fix ρ)
section
variable (G:Nat->Option (List AV))
theorem amU:VP Tryz.prog G 235 [.sl 1 []] (.bool true):=VP.tr ny [] (by kernel_rfl)
theorem ai0 (x:Rat) (hx:Sm 100000 x):VP Tryz.prog G 202 [.sl 1 [],EV x] (.bool true):=VP.tr qJ [hc (amU G),hc (tn G x hx)] (by kernel_rfl)
theorem XZ (x y:Rat) (hx:Sm 100000 x) (hy:Sm 100000 y):VP Tryz.prog G 208 [.sl 1 [],EV x,EV y] (.bool true):=VP.tr qK [hc (ai0 G x hx),hc (tn G y hy)] (by kernel_rfl)
theorem X0 (x y:Rat) (hx:Sm 100000 x) (hy:Sm 100000 y):VP Tryz.prog G 206 [.sl 1 [],EV x,EV y] (EV (x*y)):=VP.tr vn [hc (XZ G x y hx hy),hc (Cn G x y hx hy)] (by kernel_rfl)
theorem ai1 (x y:Rat) (hx:Sm 100000 x) (hy:Sm 100000 y):VP Tryz.prog G 157 [.sl 1 [],EV x,EV y] (EV (x + -y)):=VP.tr Ce [hc (XZ G x y hx hy),hc (XT G y hy),hc (XS G x (-y) hx hy.neg)] (by kernel_rfl)
theorem SM (x:Rat) (hx:Sm 100000 x):VP Tryz.prog G 200 [.sl 1 [],EV x] (.int .i64 (aZ x)):=VP.tr j7 [hc (Ky G x hx)] (by kernel_rfl)
theorem ai2 (q:Rat) (v:Q2) (hq:Sm 10000 q) (hv:bR 10000 v):VP Tryz.prog G 200 [T1 q,E1 v] (.int .i64 (BS q v)):=by
 have h1:=SM G v.1 (hv.1.mono (by omega))
 have h2:=SM G v.2 (hv.2.mono (by omega))
 have m1:=X0 G v.1 v.1 (hv.1.mono (by omega)) (hv.1.mono (by omega))
 have m2:=X0 G v.2 v.2 (hv.2.mono (by omega)) (hv.2.mono (by omega))
 have m3:=X0 G q (v.2*v.2) (hq.mono (by omega)) ((hv.2.mul hv.2).mono (by omega))
 have s3:=hq.mul (hv.2.mul hv.2)
 have m4:=ai1 G (v.1*v.1) (q*(v.2*v.2)) ((hv.1.mul hv.1).mono (by omega)) (s3.mono (by omega))
 have h3:=SM G (v.1*v.1 + -(q*(v.2*v.2))) (((hv.1.mul hv.1).add s3.neg).mono (by omega))
 have kw:IntKind.i64.wrap (aZ v.1*aZ (v.1*v.1 + -(q*(v.2*v.2))))=aZ v.1*aZ (v.1*v.1 + -(q*(v.2*v.2))):=by
   rw [IntKind.wrap_i64]
   rcases IH v.1 with h | h | h<;>rcases IH (v.1*v.1 + -(q*(v.2*v.2))) with h' | h' | h'<;>rw [h,h']<;>decide
 unfold BS
 by_cases a:aZ v.2=0
 . rw [if_pos (.inl a)]
   exact VP.tr j7 [hc h1,hc h2,hb 43 (beq_iff_eq.2 a)] (by kernel_rfl)
 have a':(aZ v.2==0)=false:=by rw [beq_eq_false_iff_ne];exact a
 by_cases b:aZ v.1=aZ v.2
 . rw [if_pos (.inr b)]
   exact VP.tr j7 [hc h1,hc h2,hb 43 a',hb 47 (beq_iff_eq.2 b)] (by kernel_rfl)
 have b':(aZ v.1==aZ v.2)=false:=by rw [beq_eq_false_iff_ne];exact b
 rw [if_neg (by rw [not_or];exact ⟨a,b⟩)]
 by_cases c:aZ v.1=0
 . rw [if_pos c]
   exact VP.tr j7 [hc h1,hc h2,hb 43 a',hb 47 b',hb 52 (beq_iff_eq.2 c)] (by kernel_rfl)
 have c':(aZ v.1==0)=false:=by rw [beq_eq_false_iff_ne];exact c
 rw [if_neg c]
 exact VP.tr j7 [hc h1,hc h2,hb 43 a',hb 47 b',hb 52 c',hc m1,hc m2,hc m3,hc m4,hc h3,hw 74 kw] (by kernel_rfl)
theorem OY (p:VL.Id):aM Tryz.prog G 267 [.int .i64 2] p [] { val := .osl (2::p) 4 0 2 false,rd:=[],up:=[(2::p,some ⟨[QV 0,QV 0],4,false⟩)] } :=
 aM.tr (p:=p) (up:=[(2::p,⟨[QV 0,QV 0],4,false⟩)]) rI (fun _=>[]) [hc (Iv G 0 (by decide) (by decide)),hc (Iv G 0 (by decide) (by decide))] [.int .i64 2] [] (.osl [2,0] 4 0 2 false) [([2,0],⟨[QV 0,QV 0],4,false⟩)] (by kernel_rfl) (by rw [Cm.fix]) rfl rfl (by simp only [bl,bG,ck,bA,cd,PU.fixed];rfl) (by simp) (by simp)
theorem UC (q x:Rat) (hq:Sm 100000 q) (hx:Sm 100000 x):VP Tryz.prog G 258 [T1 q,QV x] (E1 (x,0)) :=
 VP.n7 uo [hc (XU G q hq),hc (LZ G x hx), .rel 267 _ [] _ (fun p _=>OY G p) (by intro p x hx;simp at hx)] [([2,13],⟨[QV x,QV 0],4,false⟩)] (.osl [2,13] 4 0 2 false) (by kernel_rfl) (fun σ h=>KC (h ([2,13],⟨[QV x,QV 0],4,false⟩) (by simp)))
theorem ae3 (q:Rat) (hq:Sm 100000 q):VP Tryz.prog G 241 [T1 q, .int .i64 0] (E1 (0,1)) :=
 VP.n7 HY [hc (XU G q hq), .rel 267 _ [] _ (fun p _=>OY G p) (by intro p x hx;simp at hx),hc (Iv G 1 (by decide) (by decide))] [([2,17],⟨[QV 0,QV 1],4,false⟩)] (.osl [2,17] 4 0 2 false) (by kernel_rfl) (fun σ h=>KC (h ([2,17],⟨[QV 0,QV 1],4,false⟩) (by simp)))
theorem ae4 (q:Rat) (hq:Sm 10000 q) (h1:aZ q=1):VP Tryz.prog G 234 [T1 q] (.bool true):=by
 have hv:=SM G q (hq.mono (by omega))
 rw [h1] at hv
 exact VP.tr Ch [hc (Iv G 0 (by decide) (by decide)),hc (UC G q 0 (hq.mono (by omega)) UB),hc (L6 G q (0,0) (hq.mono (by omega)) ⟨UB,UB⟩),hc hv] (by kernel_rfl)
theorem ae5 (q:Rat) (v:Q2) (hq:Sm 10000 q) (hv:bR 10000 v) (h1:aZ q=1):VP Tryz.prog G 146 [T1 q,E1 v] (.int .i64 (BS q v)):=by
 have hg:VP Tryz.prog G 199 [T1 q, .sl 1 [E1 v]] (.bool true):=VP.tr Cg [hc (L6 G q v (hq.mono (by omega)) (hv.mono (by omega))),hc (ae4 G q hq h1)] (by kernel_rfl)
 have hw:az (ae.of [([3],⟨[E1 v],1,false⟩)]) [T1 q, .osl [3] 1 0 1 false] [T1 q, .sl 1 [E1 v]]:=az.cons (View.pure PU.pure) (az.cons (rN (b:=false) (by simp [ae.of]) rfl (by intro c hc;rcases List.mem_singleton.1 hc with rfl;exact PU.pure)) az.nil)
 exact VP.tr Ci [fR [([3],⟨[E1 v],1,false⟩)] hg hw,hc (ai2 G q v hq hv)] (by kernel_rfl)
theorem ae6 (q:Rat) (b:Bool) (v:Q2) (hq:Sm 10000 q) (hv:bR 10000 v) (h1:aZ q=1) (fv:Fl b v):VP Tryz.prog G 80 [nq q b v] (.int .i64 (BS q v)):=by
 cases b
 . have e:BS q v=aZ v.1:=by unfold BS;rw [fv rfl,if_pos (.inl (by rfl))]
   rw [e]
   exact acO G v.1 (hv.1.mono (by omega))
 . exact VP.tr yG [hc (ae5 G q v hq hv h1)] (by kernel_rfl)
end
end Go.Proofs.YtndoagbiakehnaaGreat
end

section
namespace Go.VL
def mv (q q2 i:Id):Id:=if i=q then q2 else i
theorem ai3 {q q2:Id}:mv q q2 q=q2:=if_pos rfl
theorem ai4 {q q2 i:Id} (h:i≠q):mv q q2 i=i:=if_neg h
section
variable {P:Program} {G:Nat->Option (List AV)}
theorem Wk.move {π q:Id} {t:List AV} {σ σ':ae} {n m:Nat} (zH:n<=m)
   (hs:∀ j, σ' j=none∨∃ i b, σ i=some b/\mv q (m :: π) i=j /\ σ' j=some (b.dJ (mv q (m :: π)))):Wk G π ⟨t, σ,n⟩ ⟨bQ (mv q (m :: π)) t, σ',m+1⟩:=fun own E w a hm=>by
 obtain ⟨I0,hi,rf,aer⟩:=hm
 have h0:E.μ (m :: π)=none:=(rf.mono zH).at (Nat.le_refl _) (List.suffix_refl _)
 let E':Env:=⟨fun j=>if j=m :: π then E.μ q else E.μ j,E.ok⟩
 have hold:∀ i,i≠m :: π -> E'.μ i=E.μ i:=fun i h=>if_neg h
 have acT:∀ i x,E.μ i=some x->E'.μ i=some x:=fun i x h=>(hold i fun e=>by rw [e,h0] at h;cases h).trans h
 have hμ : ∀ i x,E.μ i=some x->E'.μ (mv q (m :: π) i)=some x:=fun i x h=>by
   by_cases e:i=q
   . subst e;rw [ai3];exact (if_pos rfl).trans h
   . rw [ai4 e];exact acT i x h
 have ig:Adv own E E' w w:=⟨⟨acT,fun b hb=>hb,fun b hb=>rfl⟩,rfl,rfl,rfl,Nat.le_refl _,fun k hk _=>rfl,fun b hb => .inl hb⟩
 refine ⟨E',⟨ig,fun i qY=>hold i fun e=>qY (by rw [e];exact List.suffix_cons _ _)⟩,⟨aU.dJ (E:=E) (E':=E') hμ (fun _ h=>h) _ _ I0,⟨hi.okb,fun j bk hj => ?_,fun j j' x y hj hj' hne hx hy => ?_,hi.glob,hi.new⟩,fun j hj hq => ?_,aer⟩⟩
 . have hj : σ' j=some bk:=hj
   rcases hs j with h1 | ⟨i,b,h1,h2,h3⟩
   . rw [h1] at hj;cases hj
   . rw [h3] at hj
     simp only [Option.some.injEq] at hj
     subst hj;subst h2
     obtain ⟨g,N,cur,ty,hB⟩:=hi.blk i b h1
     refine ⟨g,N,cur,ty,hμ _ _ hB.μ,hB.heap,hB.size, ?_,hB.most,hB.own,hB.ok,hB.no,Bw hB.k, ?_⟩
     . rw [show (b.dJ (mv q (m :: π))).els.length=b.els.length from iq];exact hB.len
     . rw [show (b.dJ (mv q (m :: π))).els=bQ (mv q (m :: π)) b.els from rfl,D9]
       exact fy.dJ hμ (fun b hb=>hb) hB.row
 . have Mo:∀ k b, σ k=some b->abw E own w k b:=fun k b h=>hi.blk k b h
   obtain ⟨i,b,h1,h2,_⟩:=(hs j).resolve_left hj
   obtain ⟨i',b',h1',h2',_⟩:=(hs j').resolve_left hj'
   obtain ⟨g,N,cur,ty,hB⟩:=hi.blk i b h1
   obtain ⟨g',N',Ms,Pp,Jy⟩:=hi.blk i' b' h1'
   have e:=hμ _ _ hB.μ;have e':=hμ _ _ Jy.μ
   rw [h2,hx] at e;rw [h2',hy] at e'
   refine hi.inj i i' x y (by show σ i≠none;rw [h1];simp) (by show σ i'≠none;rw [h1'];simp) ?_ (by rw [hB.μ,e]) (by rw [Jy.μ,e'])
   rintro rfl
   exact hne (h2.symm.trans h2')
 . have hj0:j≠m :: π := fun e=>hq m (Nat.lt_succ_self _) (e▸List.suffix_refl _)
   exact (hold j hj0).trans (rf.mono zH j hj fun k hk=>hq k (Nat.lt_succ_of_lt hk))
theorem Fg.same:∀ t:List AV,Fg t t
 | []=>trivial
 | _::cs=>⟨.inr rfl,Fg.same cs⟩
theorem Wk.toT {π : Id} {s:VS} {t:List AV} {K:List (Id × dc)} {n:Nat} (hd:(K.map (·.1)).Nodup) (h:Wk G π s ⟨t,ae.of K,n⟩):Wk G π s ⟨t,cz.to (FU K),n⟩ :=
 h.trans (Wk.forget (Fg.same t) (fun j=>by
   cases hj:cz.to (FU K) j with
   | none=>exact .inl rfl
   | some b=>right;exact (r7 hd (Ee hj)).symm) (Nat.le_refl n))
end
end Go.VL
end

section
set_option linter.unusedVariables false
set_option maxRecDepth 100000
namespace Go.VL
open Go.Lib
def mO (n s:Nat):Prop:=s*s<=n/\n<(s+1)*(s+1)
theorem L8 {n s x:Nat} (h:mO n s) (hx:x*x<=n):x<=s:=by
 rcases Nat.lt_or_ge s x with hlt | G1
 . exfalso
   have:=Nat.mul_le_mul hlt hlt
   have:=h.2
   simp only [Nat.succ_eq_add_one] at *
   omega
 . exact G1
theorem UD {n s x:Nat} (h:mO n s) (hx:0<x):s<=(x+n/x)/2:=by
 rw [Nat.le_div_iff_mul_le (by decide)]
 rcases Nat.lt_or_ge (2*s) x with h1 | h1
 . exact Nat.le_trans (by omega:s*2<=x) (Nat.le_add_right _ _)
 . have:2*s-x<=n/x:=by
     rw [Nat.le_div_iff_mul_le hx]
     refine Nat.le_trans ?_ h.1
     obtain ⟨d,hd⟩:∃ d,2*s=x+d:=⟨2*s-x,by omega⟩
     rw [hd,Nat.add_sub_cancel_left]
     rcases Nat.le_total x s with h2 | h2
     . obtain ⟨e,rfl⟩:∃ e,s=x+e:=⟨s-x,by omega⟩
       have:d=x+2*e:=by omega
       subst this
       have e1:(x+2*e)*x=x*x+2*(e*x):=by rw [Nat.add_mul,Nat.mul_assoc]
       have e2:(x+e)*(x+e)=x*x+2*(e*x)+e*e:=by rw [Nat.add_mul,Nat.mul_add,Nat.mul_add,Nat.mul_comm x e];omega
       omega
     . obtain ⟨e,rfl⟩:∃ e,x=s+e:=⟨x-s,by omega⟩
       have:d+e=s:=by omega
       subst this
       have e1:(d+e)*(d+e)=d*d+2*(d*e)+e*e:=by rw [Nat.add_mul,Nat.mul_add,Nat.mul_add,Nat.mul_comm e d];omega
       have e2:d*(d+e+e)=d*d+2*(d*e):=by rw [Nat.mul_add,Nat.mul_add];omega
       omega
   omega
theorem Qu {n s x:Nat} (h:mO n s) (hx:0<x) (hs:s<=x) (hy:x<=(x+n/x)/2):x=s:=by
 refine Nat.le_antisymm (L8 h ?_) hs
 rw [Nat.le_div_iff_mul_le (by decide)] at hy
 have:x<=n/x:=by omega
 exact (Nat.le_div_iff_mul_le hx).1 this
abbrev aaR (ft fd fp fa fc fs:Nat):bY:=(.block 2 (cS [oF 24 1 1,oL 25 1 24,oC 26 ft 25,oM 27 5,bc 28 fd 26 27,oM 23 28,oE 29 23 0,oE 30 23 1,oM 6 29,oM 7 30] (cS [oM 31 5,oM 32 6,bc 33 fp 31 32,oC 34 fa 33,oM 8 34] (.seq (cS [oM 35 8,oM 36 5,bc 37 fc 35 36,bd 38 .geq 37 0] (.cond (.t 38) (cS [oM 39 5,⟨some 40,.call (.f fs) [(.c (.bool false)),(.t 39)],none⟩,oS 2 2 40,oI 3 0] .ret) .skip)) (cR [oM 41 8,oM 5 41])))))
def OZ (i0 i1:Id) (x:Nat):List AV:=[.top, .ref i0 0 0, .ref i1 0 0, .int .i64 0, .top,W x]++List.replicate 36 .top
theorem II {ρ : Id->Id} {i0 i1:Id} {x:Nat}:bQ ρ (OZ i0 i1 x)=OZ (ρ i0) (ρ i1) x:=by
 unfold OZ
 simp only [cL,bA,cd,eZ,PU.fixed,Bx,kV]
def ai5:Nat->Id
 | 1=>[0]
 | _=>[1]
def Js (i0 i1:Id) (z:Int) (r:AV):List (Id × dc):=[(i0,⟨[IV z],2,false⟩),(i1,⟨[r],2,false⟩)]
def UE (i1:Id):List AV:=[.top, .top, .ref i1 0 0, .int .i64 0]++List.replicate 38 .top
theorem X1 {ρ : Id->Id} {i1:Id}:bQ ρ (UE i1)=UE (ρ i1):=by
 unfold UE
 simp only [cL,bA,cd,eZ,PU.fixed,Bx,kV]
section
variable {P:Program} {G:Nat->Option (List AV)}
theorem Qv {ft fd fp fa fc fs:FuncId} (z:Int) (x0 s:Nat) (hs:mO z.natAbs s) (h0:0<s) (NA:s<=x0) (N:Nat) (hN:x0<=N) (h4:VP P G ft [W z.natAbs] (W z.natAbs)) (h5:∀ n,0<n->n<=N->VP P G fd [W z.natAbs,W n] (.tup [W (z.natAbs/n),W (z.natAbs%n)]))
   (h6:∀ n,s<=n->n<=N->VP P G fp [W n,W (z.natAbs/n)] (W (n+z.natAbs/n))) (h7:∀ n,s<=n->n<=N->VP P G fa [W (n+z.natAbs/n)] (W ((n+z.natAbs/n)/2))) (h8:∀ n,s<=n->n<=N->VP P G fc [W ((n+z.natAbs/n)/2),W n] (.int .i64 (eM ((n+z.natAbs/n)/2) n))) (h9:VP P G fs [.bool false,W s] (IV (s:Int)))
   (m0:Nat):VW P G [] (.loop (aaR ft fd fp fa fc fs)) (fun e s'=>e = .ret/\Wk G [] s' ⟨UE [1],ae.of [([1],⟨[IV (s:Int)],2,false⟩)],m0+30*(x0-s+2)⟩) ⟨OZ [0] [1] x0,ae.of (Js [0] [1] z (.agg [.bool false, .nils])),m0⟩:=by
 refine VW.yJ (α := Nat × Nat) (fun y=>⟨OZ [0] [1] y.1,ae.of (Js [0] [1] z (.agg [.bool false, .nils])),y.2⟩) (fun y=>s<=y.1/\y.1<=x0/\y.2<=m0+30*(x0-y.1)) (fun y=>y.1) (x0,m0) (Wk.refl _ _ _) ⟨NA,Nat.le_refl _,by simp⟩ ?_
 rintro ⟨x,m⟩ ⟨hsx,hxx,hm⟩
 simp only [] at hsx hxx hm ⊢
 have hx:0<x:=by omega
 have a5:=h5 x hx (by omega)
 have a6:=h6 x hsx (by omega)
 have a7:=h7 x hsx (by omega)
 have a8:=h8 x hsx (by omega)
 have G1:=UD hs hx
 generalize hy:(x+z.natAbs/x)/2=y at *
 by_cases hlt:y<x
 . have c:decide (eM y x≥0)=false:=ak (by unfold eM iF;split<;>(try split)<;>omega)
   refine VW.tr (π := []) (n:=m) ai5 [hc h4,hc a5,hc a6,hc a7,hc a8,hb 38 c] (OZ [1] [2] x) (Js [1] [2] z (.agg [.bool false, .nils])) .normal (OZ [1] [2] y) (Js [1] [2] z (.agg [.bool false, .nils])) 30 (by kernel_rfl)
     II (by unfold Js;simp only [bl,bG,ck,bA,cd,PU.fixed];rfl) II (by unfold Js;simp only [bl,bG,ck,bA,cd,PU.fixed];rfl) (by simp [Js]) fun s' hw => ?_
   exact ⟨(y,m+30),⟨G1,by simp only [];omega,by simp only [];omega⟩,hlt,hw⟩
 . have he:x=s:=Qu hs hx hsx (by omega)
   subst he
   have c:decide (eM y x≥0)=true:=aw (by unfold eM iF;split<;>(try split)<;>omega)
   refine VW.tr (π := []) (n:=m) ai5 [hc h4,hc a5,hc a6,hc a7,hc a8,hb 38 c,hc h9] (OZ [1] [2] x) (Js [1] [2] z (.agg [.bool false, .nils])) .ret (UE [2]) [([2],⟨[IV (x:Int)],2,false⟩)] 30 (by kernel_rfl)
     II (by unfold Js;simp only [bl,bG,ck,bA,cd,PU.fixed];rfl) X1 (by simp only [bl,bG,ck,bA,cd,PU.fixed];rfl) (by simp [Js]) fun s' hw => ?_
   exact ⟨rfl,hw.trans (Wk.forget (Fg.same _) (fun j => .inr rfl) (by omega))⟩
theorem IJ {n:Nat} (h:n≠0):∃ a t,digits n=a++[t]/\t≠0/\t<ay/\n<2 ^ (32*a.length+gg t)/\a.length+1=aa n:=by
 rcases uv (n:=n) with h0 | ⟨t,ht,ht0⟩
 . exact absurd (lr.1 h0) h
 . obtain ⟨a,ha⟩:=List.getLast?_eq_some_iff.1 ht
   have htB:t<ay:=aQ n t (by rw [ha];simp)
   refine ⟨a,t,ha,ht0,htB, ?_,by unfold aa;rw [ha];simp⟩
   have hv:=aI n
   rw [ha,bO] at hv
   have BX:val a<ay ^ a.length:=eF (fun w hw=>aQ n w (by rw [ha];exact List.mem_append_left _ hw))
   have hb:=(tq htB (Nat.pos_of_ne_zero ht0)).1
   have e:val [t]=t:=by simp [val]
   rw [e] at hv
   have h32:ay=2 ^ 32:=rfl
   rw [Nat.pow_add,Nat.pow_mul, <- h32, <- hv]
   calc val a+ay ^ a.length*t<ay ^ a.length+ay ^ a.length*t:=Nat.add_lt_add_right BX _
     _=ay ^ a.length*(t+1):=by rw [Nat.mul_add,Nat.mul_one,Nat.add_comm]
     _<=ay ^ a.length*2 ^ gg t:=Nat.mul_le_mul_left _ hb
theorem X2 {f ft fl:FuncId} (h:Has P f (s5 ft fl)) (z:Int) (hz:z.natAbs≠0) (hwl:aa z.natAbs<=1000000) (ht:VP P G ft [W z.natAbs] (W z.natAbs)) (hl:∀ w:Nat,w<ay->VP P G fl [.int .u32 (w:Int)] (.int .i64 (gg w:Int))) :
   ∃ b:Nat,z.natAbs<2 ^ b/\b<=32*aa z.natAbs/\VP P G f [IV z] (.int .i64 (b:Int)):=by
 obtain ⟨a,t,hd,ht0,htB,hlt,hlen⟩:=IJ hz
 have B2:gg t<=32:=by
   have h2:=(tq htB (Nat.pos_of_ne_zero ht0)).2
   rcases Nat.lt_or_ge 32 (gg t) with h' | h'
   . exfalso
     have:=Nat.pow_le_pow_right (n:=2) (by decide) h'
     unfold ay at htB
     omega
   . exact h'
 refine ⟨32*a.length+gg t,hlt,by omega, ?_⟩
 have tG:=hl t htB
 have k8:ni false (W z.natAbs)=some (.int .i64 ((a.length+1:Nat):Int)):=by unfold W;rw [hd];simp [ni,us]
 have k9:(((a.length+1:Nat):Int)==0)=false:=by rw [beq_eq_false_iff_ne];omega
 have zF:IntKind.i64.wrap (((a.length+1:Nat):Int)-1)=(a.length:Int):=by rw [IntKind.wrap_i64];omega
 have UU:IntKind.i64.wrap (32*(a.length:Int))=((32*a.length:Nat):Int):=by rw [IntKind.wrap_i64];omega
 have k18:bK 1 (W z.natAbs) (.int .i64 (a.length:Int))=some (.ep (AV.int .u32 (t:Int)).cells 0):=fG (k:=1) rfl (by unfold us;rw [hd];simp)
 have k21:IntKind.i64.wrap (((32*a.length:Nat):Int)+(gg t:Int))=((32*a.length+gg t:Nat):Int):=by rw [IntKind.wrap_i64];omega
 exact VP.tr h [hc ht,ho 8 k8,hb 9 k9,ho 11 k8,hw 12 zF,hw 13 UU,ho 16 k8,hw 17 zF,ho 18 k18,hc tG,hw 21 k21] (by kernel_rfl)
theorem IK (n:Nat):digits (2 ^ n)=List.replicate (n/32) 0++[2 ^ (n%32)]:=by
 have hlt:2 ^ (n%32)<ay:=by
   have:n%32<32:=Nat.mod_lt _ (by decide)
   exact Nat.pow_lt_pow_right (by decide) this
 have hv:val (List.replicate (n/32) 0++[2 ^ (n%32)])=2 ^ n:=by
   rw [bO,sk (by intro w hw;exact (List.mem_replicate.1 hw).2),List.length_replicate]
   have e:val [2 ^ (n%32)]=2 ^ (n%32):=by simp [val]
   have h32:ay=2 ^ 32:=rfl
   rw [e,Nat.zero_add,h32, <- Nat.pow_mul, <- Nat.pow_add,Nat.div_add_mod]
 rw [<- hv]
 exact jG (by
   intro w hw
   rcases List.mem_append.1 hw with h | h
   . rw [(List.mem_replicate.1 h).2];exact bZ
   . rw [List.mem_singleton.1 h];exact hlt) (.inr ⟨2 ^ (n%32),by simp,Nat.ne_of_gt (Nat.two_pow_pos _)⟩)
theorem O0 {f:FuncId} (h:Has P f eQ) (n:Nat) (hn:n<=30000000):VP P G f [.int .i64 (n:Int)] (W (2 ^ n)):=by
 have k5:IntKind.i64.wrap ((n:Int).tdiv 32)=((n/32:Nat):Int):=by rw [IntKind.wrap_i64,Int.tdiv_eq_ediv_of_nonneg (by omega)];omega
 have k6:IntKind.i64.wrap (((n/32:Nat):Int)+1)=((n/32+1:Nat):Int):=by rw [IntKind.wrap_i64];omega
 have k7:∀ (σ : ae) (p:Id),(∀ y∈([]:List (Id × dc)), σ y.1=some y.2)->bW σ p (.mksl 1 4 (.int .u32 0) (.int .i64 ((n/32+1:Nat):Int)) (.int .i64 ((n/32+1:Nat):Int)))=some { val := .osl p 1 0 (n/32+1) false,up:=[(p,some ⟨us (List.replicate (n/32+1) 0),1,false⟩)] }:=fun σ p _=>lJ (by omega)
 have zF:(n:Int).tmod 32=((n%32:Nat):Int):=by rw [Int.tmod_eq_emod_of_nonneg (by omega)];omega
 have hlt:2 ^ (n%32)<ay:=Nat.pow_lt_pow_right (by decide) (Nat.mod_lt _ (by decide))
 have UU:IntKind.u32.wrap (1*2 ^ (min ((n%32:Nat):Int).toNat IntKind.u32.bits))=((2 ^ (n%32):Nat):Int):=by
   have e:min ((n%32:Nat):Int).toNat IntKind.u32.bits=n%32:=by simp only [IntKind.bits,Int.toNat_natCast];omega
   rw [e,Int.one_mul,show ((2:Int) ^ (n%32))=((2 ^ (n%32):Nat):Int) by simp]
   generalize 2 ^ (n%32)=w at *
   unfold ay at hlt
   rw [IntKind.wrap_u32];omega
 have k14:bK 1 (.osl [4] 1 0 (n/32+1) false) (.int .i64 ((n/32:Nat):Int))=some (.ref [4] (n/32) 0):=b7 (by omega)
 have NC:(List.replicate (n/32+1) 0).set (n/32) (2 ^ (n%32))=digits (2 ^ n):=by
   rw [IK,List.replicate_succ',List.set_append,if_neg (by simp)]
   simp
 have k15:∀ (σ : ae) (p:Id),(∀ y∈[([4],(⟨us (List.replicate (n/32+1) 0),1,false⟩:dc))], σ y.1=some y.2)->bW σ p (.store 1 (.ref [4] (n/32) 0) (.int .u32 ((2 ^ (n%32):Nat):Int)))=some { val := .tup [],rd:=[[4]],up:=[([4],some ⟨us (digits (2 ^ n)),1,false⟩)] }:=fun σ p hσ => by
   rw [<- NC]
   exact bV (hσ ([4],⟨us (List.replicate (n/32+1) 0),1,false⟩) (by simp)) (by simp)
 have hlen:(digits (2 ^ n)).length=n/32+1:=by rw [IK];simp
 exact VP.n7 h [hw 5 k5,hw 6 k6, .st 7 [] _ _ k7,hw 10 k5,hw 12 zF,hw 13 UU .u32,ho 14 k14, .st 100014 _ _ _ k15] [([4],⟨us (digits (2 ^ n)),1,false⟩)] (.osl [4] 1 0 (n/32+1) false) (by kernel_rfl) (fun σ hσ => by
   have h:=hσ ([4],⟨us (digits (2 ^ n)),1,false⟩) (by simp)
   have e:(us (digits (2 ^ n))).length=n/32+1:=by simp [us,hlen]
   rw [<- e]
   exact View.osl (bk:=⟨us (digits (2 ^ n)),1,false⟩) h rfl (by simp) (by rw [List.drop_zero,List.take_length];exact az.pure (by intro c hc;obtain ⟨e,he,hc⟩:=List.mem_flatMap.1 hc;obtain ⟨w,_,rfl⟩:=List.mem_map.1 he;rcases List.mem_singleton.1 hc with rfl;exact ab.int _ _)) rfl (by intro a ha;obtain ⟨w,_,rfl⟩:=List.mem_map.1 ha;rfl))
theorem UF {f fg fb fh ft fd fp fa fc fs:FuncId} (h:Has P f (pJ fg fb fh ft fd fp fa fc fs)) (z:Int) (s b:Nat) (hz:0<z) (hs:mO z.natAbs s) (hb:z.natAbs<2 ^ b) (zE:b<=20000000) (h1:VP P G fg [IV z] (.int .i64 1)) (h2:VP P G fb [IV z] (.int .i64 (b:Int))) (h3:VP P G fh [.int .i64 ((b/2+1:Nat):Int)] (W (2 ^ (b/2+1)))) (h4:VP P G ft [W z.natAbs] (W z.natAbs))
   (h5:∀ n,0<n->n<=2 ^ (b/2+1)->VP P G fd [W z.natAbs,W n] (.tup [W (z.natAbs/n),W (z.natAbs%n)])) (h6:∀ n,s<=n->n<=2 ^ (b/2+1)->VP P G fp [W n,W (z.natAbs/n)] (W (n+z.natAbs/n))) (h7:∀ n,s<=n->n<=2 ^ (b/2+1)->VP P G fa [W (n+z.natAbs/n)] (W ((n+z.natAbs/n)/2)))
   (h8:∀ n,s<=n->n<=2 ^ (b/2+1)->VP P G fc [W ((n+z.natAbs/n)/2),W n] (.int .i64 (eM ((n+z.natAbs/n)/2) n))) (h9:VP P G fs [.bool false,W s] (IV (s:Int))):VP P G f [IV z] (.tup [IV (s:Int), .int .i64 0]):=by
 have h0:0<s:=by
   rcases Nat.eq_zero_or_pos s with e | e
   . exfalso
     have:=hs.2
     rw [e] at this
     omega
   . exact e
 have NA:s<=2 ^ (b/2+1):=by
   rcases Nat.lt_or_ge (2 ^ (b/2+1)) s with hlt | G1
   . exfalso
     have m1:=Nat.mul_le_mul (Nat.le_of_lt hlt) (Nat.le_of_lt hlt)
     have m2:=hs.1
     rw [<- Nat.pow_add] at m1
     have m3:2 ^ b<=2 ^ (b/2+1+(b/2+1)):=Nat.pow_le_pow_right (by decide) (by omega)
     omega
   . exact G1
 have l:=Qv (P:=P) (G:=G) z (2 ^ (b/2+1)) s hs h0 NA (2 ^ (b/2+1)) (Nat.le_refl _) h4 h5 h6 h7 h8 h9 1000
 have l':=l.mono (Q':=fun e s'=>e = .ret/\Wk G [] s' ⟨UE [1],cz.to (FU [([1],⟨[IV (s:Int)],2,false⟩)]),1000+30*(2 ^ (b/2+1)-s+2)⟩) fun e s' hq=>⟨hq.1,Wk.toT (by simp) hq.2⟩
 have k19:IntKind.i64.wrap ((b:Int).tdiv 2)=((b/2:Nat):Int):=by rw [IntKind.wrap_i64,Int.tdiv_eq_ediv_of_nonneg (by omega)];omega
 have k20:IntKind.i64.wrap (((b/2:Nat):Int)+1)=((b/2+1:Nat):Int):=by rw [IntKind.wrap_i64];omega
 exact VP.tr h [hc h1,hc h2,hw 19 k19,hw 20 k20,hc h3, .lp [] _ _ _ _ _ _ _ _ l'] (by kernel_rfl)
end
end Go.VL
end

section
set_option maxRecDepth 100000
namespace Go.Proofs.YtndoagbiakehnaaGreat
open Go.VL Go.Proofs Go.Lib
theorem GF (n:Nat):∃ s,mO n s:=by
 induction n with
 | zero=>exact ⟨0,by unfold mO;decide⟩
 | succ n ih =>
   obtain ⟨s,h1,h2⟩:=ih
   by_cases h:n+1<(s+1)*(s+1)
   . exact ⟨s,by omega,h⟩
   . refine ⟨s+1,by omega, ?_⟩
     have:(s+1+1)*(s+1+1)=(s+1)*(s+1)+2*(s+1)+1:=by rw [Nat.add_mul,Nat.mul_add];omega
     omega
theorem X3 {k j:Nat} (h:k<32*j):aa (2 ^ k)<=j:=dH (by
 have h32:ay=2 ^ 32:=rfl
 rw [h32, <- Nat.pow_mul]
 exact Nat.pow_lt_pow_right (by decide) h)
theorem IL (r:Rat):(r*r).num=r.num*r.num/\(r*r).den=r.den*r.den:=by
 have h0:=Nat.Coprime.mul_left r.reduced r.reduced
 have hc:(r.num*r.num).natAbs.Coprime (r.den*r.den):=by
   rw [Int.natAbs_mul];exact Nat.Coprime.mul_right h0 h0
 have hd:r.den*r.den≠0:=Nat.mul_ne_zero r.den_nz r.den_nz
 have e:r*r=⟨r.num*r.num,r.den*r.den,hd,hc⟩:=by
   rw [Rat.mk_eq_divInt,Sc, <- Rat.divInt_eq_div]
   simp
 rw [e];exact ⟨rfl,rfl⟩
theorem X4 {q:Rat} {s t:Nat} (c1:(s:Int)*s=q.num) (c2:(t:Int)*t=(q.den:Int)):((s:Int):Rat)/((t:Int):Rat)*(((s:Int):Rat)/((t:Int):Rat))=q:=by
 have ht:((t:Int):Rat)≠0:=by
   intro e
   have:(t:Int)=0:=by exact_mod_cast e
   rw [this] at c2
   have:=q.den_pos
   omega
 have h:((q.num:Int):Rat)/(((q.den:Nat):Int):Rat)=q:=by rw [<- Rat.divInt_eq_div];exact Rat.num_divInt_den q
 have d1:((q.num:Int):Rat)=((s:Int):Rat)*((s:Int):Rat):=by rw [<- c1];exact Rat.intCast_mul ..
 have d2:(((q.den:Nat):Int):Rat)=((t:Int):Rat)*((t:Int):Rat):=by rw [<- c2];exact Rat.intCast_mul ..
 refine Eq.trans ?_ h
 rw [d1,d2]
 generalize ((s:Int):Rat)=x at *
 generalize ((t:Int):Rat)=y at *
 grind
section
variable (G:Nat->Option (List AV))
theorem amV (w:Nat) (h:w<ay):VP Tryz.prog G 318 [.int .u32 (w:Int)] (.int .i64 (gg w:Int)):=DW jO w h
theorem ae7 (z:Int) (s:Nat) (hz:0<z) (hw:aa z.natAbs<=400) (hs:mO z.natAbs s):VP Tryz.prog G 316 [IV z] (.tup [IV (s:Int), .int .i64 0]):=by
 have UR:z.natAbs≠0:=by omega
 obtain ⟨b,hb,zE,hB⟩:=X2 (P:=Tryz.prog) (G:=G) qN z UR (by omega) (ng (t145 G) z.natAbs (by omega)) (fun w h=>amV G w h)
 have o9:=aaw G z (by omega)
 rw [Int.sign_eq_one_of_pos hz] at o9
 have hx:aa (2 ^ (b/2+1))<=202:=X3 (by omega)
 have hle:∀ n,n<=2 ^ (b/2+1)->aa n<=202:=fun n h=>Nat.le_trans (bg h) hx
 have YM:∀ n,aa (z.natAbs/n)<=400:=fun n=>Nat.le_trans (bg (Nat.div_le_self _ _)) hw
 have yf:∀ n,n<=2 ^ (b/2+1)->aa (n+z.natAbs/n)<=401:=fun n h=>qb (Nat.le_trans (hle n h) (by omega)) (YM n)
 have ai8:∀ n,n<=2 ^ (b/2+1)->aa ((n+z.natAbs/n)/2)<=401:=fun n h=>Nat.le_trans (bg (Nat.div_le_self _ _)) (yf n h)
 have G4:aa s<=400:=Nat.le_trans (bg (by have:=hs.1;exact Nat.le_trans (Nat.le_mul_self s) this)) hw
 exact UF qM z s b hz hs hb (by omega) o9 hB (O0 nA (b/2+1) (by omega)) (ng (t145 G) z.natAbs (by omega))
   (fun n h0 h=>d164 G z.natAbs n (by omega) (by omega) (by have:=hle n h;omega)) (fun n _ h=>Xz G n _ (by have:=hle n h;omega) (by have:=YM n;omega))
   (fun n _ h=>L4 qO iz (t145 G) _ (by have:=yf n h;omega)) (fun n _ h=>Uq G _ n (by have:=ai8 n h;omega) (by have:=hle n h;omega)) (LY G false s (by omega))
theorem L9 (z:Int) (s:Nat) (hz:0<z) (hw:aa z.natAbs<=400) (hs:mO z.natAbs s):VP Tryz.prog G 302 [IV z] (.tup [IV (s:Int), .bool (decide ((s:Int)*s=z))]):=by
 have G4:aa s<=400:=Nat.le_trans (bg (by have:=hs.1;exact Nat.le_trans (Nat.le_mul_self s) this)) hw
 have h1:=ae7 G z s hz hw hs
 have h2:=aib G (s:Int) (s:Int) (by simpa using (by omega:aa s<=1000000)) (by simpa using (by omega:aa s<=1000000))
 have h3:=aic G ((s:Int)*s) z (by rw [Int.natAbs_mul];have:=rq s s;simp only [Int.natAbs_natCast];omega) (by omega)
 have e:(iF ((s:Int)*s) z==0)=decide ((s:Int)*s=z):=by
   unfold iF
   by_cases h:(s:Int)*s=z
   . rw [if_neg (by omega),if_neg (by omega),decide_eq_true h];rfl
   . rw [decide_eq_false h]
     split
     . rfl
     . rw [if_pos (by omega)];rfl
 exact VP.tr p4 [hc h1,hc h2,hc h3,hb 20 e] (by kernel_rfl)
theorem ae8 (q r:Rat) (hq:0<q.num) (hs:Sm 400 q) (hr:r*r=q) (h0:0<r.num):VP Tryz.prog G 287 [QV q] (.tup [QV r, .bool true]):=by
 have e1:q.num=r.num*r.num:=by rw [<- hr];exact (IL r).1
 have e2:q.den=r.den*r.den:=by rw [<- hr];exact (IL r).2
 have rs:∀ n:Nat,mO (n*n) n:=fun n=>⟨Nat.le_refl _,Nat.mul_lt_mul'' (Nat.lt_succ_self n) (Nat.lt_succ_self n)⟩
 have a1:=L9 G q.num r.num.natAbs hq hs.1 (by rw [e1,Int.natAbs_mul];exact rs _)
 have a2:=L9 G (q.den:Int) r.den (by have:=q.den_pos;omega) (by simpa using hs.2) (by rw [Int.natAbs_natCast,e2];exact rs _)
 have c1:((r.num.natAbs:Int)*(r.num.natAbs:Int)=q.num):=by rw [e1,Int.natAbs_of_nonneg (by omega)]
 have c2:((r.den:Int)*(r.den:Int)=(q.den:Int)):=by rw [e2];simp
 rw [decide_eq_true c1] at a1
 rw [decide_eq_true c2] at a2
 have k:(r.num.natAbs:Int)=r.num:=Int.natAbs_of_nonneg (by omega)
 rw [k] at a1
 exact OO lT q.num q.den r.num r.den a1 a2
theorem ae9 (q:Rat) (hq:0<q.num) (hs:Sm 400 q) (hr:∀ r:Rat,r*r≠q):VP Tryz.prog G 287 [QV q] (.tup [.agg [.bool false, .nils, .bool false, .nils], .bool false]):=by
 obtain ⟨s,h1⟩:=GF q.num.natAbs
 obtain ⟨t,h2⟩:=GF q.den
 have a1:=L9 G q.num s hq hs.1 h1
 have a2:=L9 G (q.den:Int) t (by have:=q.den_pos;omega) (by simpa using hs.2) (by simpa using h2)
 by_cases c1:((s:Int)*s=q.num)
 . by_cases c2:((t:Int)*t=(q.den:Int))
   . exfalso
     exact hr (((s:Int):Rat)/((t:Int):Rat)) (X4 c1 c2)
   . rw [decide_eq_true c1] at a1
     rw [decide_eq_false c2] at a2
     exact VP.tr lT [hc a1,hc a2] (by kernel_rfl)
 . rw [decide_eq_false c1] at a1
   exact VP.tr lT [hc a1,hc a2] (by kernel_rfl)
end
end Go.Proofs.YtndoagbiakehnaaGreat
end

section
set_option maxRecDepth 100000
namespace Go.Proofs.YtndoagbiakehnaaGreat
open Go.VL Go.Proofs Go.Lib
def zR:AV := .agg [.bool false, .nils, .bool false, .nils]
theorem IM:∀ c∈zR.cells,ab c:=by intro c hc;simp only [zR,AV.cells,List.mem_cons,List.not_mem_nil,or_false] at hc;rcases hc with rfl | rfl | rfl | rfl<;>first | exact ab.bool _ | exact ab.nils
section
variable (G:Nat->Option (List AV))
theorem amW (q:Rat) (hq:0<q.num) (hs:Sm 400 q) (hr:∀ r:Rat,r*r≠q):VP Tryz.prog G 266 [.nils,EV q] (.tup [.sl 4 [zR], .bool false]) :=
 VP.n7 rM [hc (ae9 G q hq hs hr)] [([16],⟨[zR],4,false⟩)] (.tup [.osl [16] 4 0 1 false, .bool false]) (by kernel_rfl) (fun σ h=>View.tup (az.cons (rN (h ([16],⟨[zR],4,false⟩) (by simp)) rfl IM) (az.cons (View.pure (ab.bool _)) az.nil)))
instance:PU (.sl 4 [zR]):=PU.slice (by intro c hc;simp only [flat,List.flatMap_cons,List.flatMap_nil,List.append_nil] at hc;exact IM c hc) (by intro c hc ρ;simp at hc;subst hc;rfl)
theorem ai9 (q:Rat) (hq:0<q.num) (hs:Sm 400 q) (hr:∀ r:Rat,r*r≠q):VP Tryz.prog G 239 [.nils,EV q] (.tup [.nils, .bool false]):=VP.tr pZ [hc (amW G q hq hs hr)] (by kernel_rfl)
theorem amX (p:VL.Id):aM Tryz.prog G 240 [.nils] p [] { val := .osl (3::p) 1 0 0 false,rd:=[],up:=[(3::p,some ⟨[],1,false⟩)] } :=
 aM.tr (p:=p) (up:=[(3::p,⟨[],1,false⟩)]) tj (fun _=>[]) [] [.nils] [] (.osl [3,0] 1 0 0 false) [([3,0],⟨[],1,false⟩)] (by kernel_rfl) rfl rfl rfl rfl (by simp) (by simp)
theorem aja (q:Rat) (hq:0<q.num) (hs:Sm 400 q) (hr:∀ r:Rat,r*r≠q):VP Tryz.prog G 205 [.nils,EV q] (.tup [T1 q,E1 (0,1), .int .i64 0]):=by
 have s1:=hs.mono (k:=100000) (by omega)
 have o9:=OU G q s1
 have h1:aZ q=1:=by unfold aZ;exact Int.sign_eq_one_of_pos hq
 rw [h1] at o9
 have hv:az (ae.of [([35],⟨[EV q],1,false⟩)]) [.osl [35] 1 0 1 false, .int .i64 0] [T1 q, .int .i64 0]:=az.cons (rN (b:=false) (by simp [ae.of]) rfl (by intro c hc;rcases List.mem_singleton.1 hc with rfl;exact aW q)) (az.cons (View.pure (ab.int _ _)) az.nil)
 exact VP.n7 rL [hc (tF G q s1),hc (Bd qL),hc o9,hc (ai9 G q hq hs hr), .rel 240 _ [] _ (fun p _=>amX G p) (by intro p x hx;simp at hx),hc (Ub dG q),fR [([35],⟨[EV q],1,false⟩)] (ae3 G q s1) hv] [([35],⟨[EV q],1,true⟩)] (.tup [.osl [35] 1 0 1 false,E1 (0,1), .int .i64 0]) (by kernel_rfl) (fun σ h=>View.tup (az.cons (rN (h ([35],⟨[EV q],1,true⟩) (by simp)) rfl (by intro c hc;rcases List.mem_singleton.1 hc with rfl;exact aW q)) (az.pure (by intro c hc;simp at hc;rcases hc with rfl | rfl;exact PU.pure;exact ab.int _ _))))
theorem afa (q:Rat) (hq:0<q.num) (hs:Sm 400 q) (hr:∀ r:Rat,r*r≠q):VP Tryz.prog G 151 [NV q] (.tup [N1 q (0,1), .int .i64 0]) :=
 VP.tr rK [hc (aja G q hq hs hr),hc (IG G q (0,1) (hs.mono (by omega)) ⟨UB,smL (UZ (by decide +kernel))⟩)] (by kernel_rfl)
theorem afb (q r:Rat) (hq:0<q.num) (hs:Sm 400 q) (hr:r*r=q) (h0:0<r.num) (I3:Sm 100000 r):VP Tryz.prog G 151 [NV q] (.tup [NV r, .int .i64 0]):=by
 have s1:=hs.mono (k:=100000) (by omega)
 have o9:=OU G q s1
 have h1:aZ q=1:=by unfold aZ;exact Int.sign_eq_one_of_pos hq
 rw [h1] at o9
 have UQ:=OU G r I3
 have h2:aZ r=1:=by unfold aZ;exact Int.sign_eq_one_of_pos h0
 rw [h2] at UQ
 exact OM rK q r (Kz rL q r (tF G q s1) (Bd qL) o9 (FV pZ q r (IC rM q r (ae8 G q r hq hs hr h0)) UQ) (IB tj)) (ID lN r (Ba im r (Iw G r I3)))
end
end Go.Proofs.YtndoagbiakehnaaGreat
end

section
set_option maxRecDepth 100000
namespace Go.Proofs.YtndoagbiakehnaaGreat
open Go.VL Go.Proofs Go.Lib
theorem IP {q x:Rat} (h:x≠0):o7 q (x,0)=(1/x,0):=by
 unfold o7 eJ
 refine Prod.ext ?_ ?_<;>simp only []<;>grind
theorem X5 {q:Rat} {v:Q2} {j k:Nat} (hq:Sm j q) (hv:bR k v):bR (6*k+j+2) (o7 q v):=by
 have sn:=GD hq hv
 have si:Sm (4*k+j+2) (1/eJ q v):=(Sm.div (aav (a:=1) (by decide):Sm 1 (1:Rat)) sn (by omega)).mono (by omega)
 exact ⟨(hv.1.mul si).mono (by omega),(hv.2.mul si).neg.mono (by omega)⟩
section
variable (G:Nat->Option (List AV))
theorem ajb (q:Rat) (b c:Bool) (u v:Q2) (hq:Sm 1000 q) (hu:bR 1000 u) (hv:bR 1000 v) (fu:Fl b u) (fv:Fl c v) (h0:eJ q v≠0):VP Tryz.prog G 153 [nq q b u,nq q c v] (.tup [nq q (b||c) (eG q u (o7 q v)), .int .i64 0]):=by
 have si:=(X5 hq hv).mono (k:=10000) (by omega)
 cases c
 . obtain ⟨x,y⟩:=v
   obtain rfl:=zQ fv
   have hx:x≠0:=by rintro rfl;exact h0 (by unfold eJ;simp only [];grind)
   rw [IP hx] at si ⊢
   have hm:=SL G q b false u (1/x,0) (hq.mono (by omega)) (hu.mono (by omega)) si fu (fun _=>rfl)
   cases b
   . exact VP.tr mH [hc (aeS G x hx (hv.1.mono (by omega))),hc hm] (by kernel_rfl)
   . exact VP.tr mH [hc (aeS G x hx (hv.1.mono (by omega))),hc hm] (by kernel_rfl)
 . have hm:=SL G q b true u (o7 q v) (hq.mono (by omega)) (hu.mono (by omega)) si fu (fun h=>by cases h)
   cases b
   . exact VP.tr mH [hc (acR G q v h0 hq hv),hc hm] (by kernel_rfl)
   . exact VP.tr mH [hc (acR G q v h0 hq hv),hc hm] (by kernel_rfl)
end
end Go.Proofs.YtndoagbiakehnaaGreat
end

section
set_option maxRecDepth 100000
namespace Go.Proofs.YtndoagbiakehnaaGreat
open Go.VL Go.Proofs Go.Lib
def sg (a b:Q2):AV := .agg [.bool false, .nils,EV a.1, .nils,EV a.2, .nils,EV b.1, .nils,EV b.2, .nils, .nils, .nils, .nils, .bool false]
def r8 (s:List UInt8) (c:AV):AV := .agg (.str s::c.cells)
instance {a b:Q2}:PU (sg a b):=by unfold sg;infer_instance
instance {s:List UInt8} {a b:Q2}:PU (r8 s (sg a b)):=by unfold r8 sg AV.cells;infer_instance
def sA:AV:=sg (0,0) (4,0)
def sB':AV:=sg (0,0) (0,4)
instance:PU sA:=by unfold sA;infer_instance
instance:PU sB':=by unfold sB';infer_instance
theorem IQ {a b:Q2}:∀ c∈(sg a b).cells,ab c:=by intro c hc;simp only [sg,AV.cells,List.mem_cons,List.not_mem_nil,or_false] at hc;rcases hc with rfl | rfl | rfl | rfl | rfl | rfl | rfl | rfl | rfl | rfl | rfl | rfl | rfl | rfl<;>first | exact ab.bool _ | exact ab.nils | exact aW _
theorem dL {s:List UInt8} {a b:Q2}:∀ c∈(r8 s (sg a b)).cells,ab c:=by
 intro c hc
 rcases List.mem_cons.1 hc with rfl | hc
 . exact ab.str _
 . exact IQ c hc
section
variable (G:Nat->Option (List AV))
theorem SN:VP Tryz.prog G 31 [sA,sB'] (.tup [V2 (0,0),V2 (4,0),V2 (0,4), .bool true]):=VP.tr CH [hc (kEq G (0,0) (0,0) true)] (by kernel_rfl)
theorem ajc:VP Tryz.prog G 34 [sA,V2 (0,0),V2 (1,0)] (sg (1,0) (4,0)):=VP.tr rk [hc (kEq G (0,0) (0,0) true)] (by kernel_rfl)
theorem ajd:VP Tryz.prog G 34 [sB',V2 (0,0),V2 (0,1)] (sg (0,1) (0,4)):=VP.tr rk [hc (kEq G (0,0) (0,0) true)] (by kernel_rfl)
def rnd (a b c:Q2) (w:Bool):AV := .agg [.nils,EV a.1, .nils,EV a.2, .nils,EV b.1, .nils,EV b.2, .nils,EV c.1, .nils,EV c.2, .bool w]
instance {a b c:Q2} {w:Bool}:PU (rnd a b c w):=by unfold rnd;infer_instance
theorem aaT:VP Tryz.prog G 33 [V2 (0,0),V2 (4,0),V2 (0,4),QV 1] (.tup [rnd (1,0) (0,1) (1,1) true, .int .i64 0]):=VP.tr uq
 [aP [7] (XP G (4,0) (0,0) (4,0)),aP [7] (XP G (0,4) (0,0) (0,4)),hc (kCr G (4,0) (0,4) (0,4) 16),aP [7] (OV G 16),hc (kSg G 16 1),hc (kSg G 16 1),hc (kFr G 1),hc (XQ G (4,0)),aP [7] (OV G 4),hc (XQ G (0,4)),aP [7] (OV G 4),aP [7] (aaM G 4 4 16),
  hc (aaN G (4,0) (0,4) 0),aP [7] (OV G 0),hc (kAd G 16 0 16),aP [7] (OV G 16),aP [7] (aaM G 1 16 16),aP [7] (OW G 16 16 1),hc (kSb G 4 1 3),aP [7] (OV G 3),hc (kSb G 4 1 3),aP [7] (OV G 3),hc (kSg G 3 1),hc (kSg G 3 1),
  aP [7] (OW G 1 4 (1/4)),aP [7] (kSc G (4,0) (1,0) (1/4)),aP [7] (KB G (0,0) (1,0) (1,0)),aP [7] (OW G 1 4 (1/4)),aP [7] (kSc G (0,4) (0,1) (1/4)),aP [7] (KB G (0,0) (0,1) (0,1)),
  aP [7] (OW G 1 4 (1/4)),aP [7] (kSc G (4,0) (1,0) (1/4)),aP [7] (OW G 1 4 (1/4)),aP [7] (kSc G (0,4) (0,1) (1/4)),aP [7] (KB G (1,0) (0,1) (1,1)),aP [7] (OW G 16 16 1),aP [7] (kSc G (1,1) (1,1) 1),aP [7] (KB G (0,0) (1,1) (1,1))] (by kernel_rfl)
theorem aaU:VP Tryz.prog G 33 [V2 (0,0),V2 (4,0),V2 (0,4),QV 4] (.tup [.agg [.nils, .nils, .nils, .nils, .nils, .nils, .nils, .nils, .nils, .nils, .nils, .nils, .bool true], .int .i64 16]):=VP.tr uq
 [aP [7] (XP G (4,0) (0,0) (4,0)),aP [7] (XP G (0,4) (0,0) (0,4)),hc (kCr G (4,0) (0,4) (0,4) 16),aP [7] (OV G 16),hc (kSg G 16 1),hc (kSg G 16 1),hc (kFr G 4),hc (XQ G (4,0)),aP [7] (OV G 4),hc (XQ G (0,4)),aP [7] (OV G 4),aP [7] (aaM G 4 4 16),
  hc (aaN G (4,0) (0,4) 0),aP [7] (OV G 0),hc (kAd G 16 0 16),aP [7] (OV G 16),aP [7] (aaM G 4 16 64),aP [7] (OW G 64 16 4),hc (kSb G 4 4 0),aP [7] (OV G 0),hc (kSb G 4 4 0),aP [7] (OV G 0),hc (kSg G 0 0)] (by kernel_rfl)
theorem amZ:VP Tryz.prog G 64 [sA,QV 2] (.tup [sg (0,2) (4,2), .int .i64 0]):=VP.tr fE
 [hc (kFr G 2),aP [5] (XP G (4,0) (0,0) (4,0)),hc ((show ((-(0:Rat)),(4:Rat))=((0:Rat),(4:Rat)) by decide +kernel)▸acP G (4,0):VP Tryz.prog G 131 [V2 (4,0)] (V2 (0,4))),hc (XQ G (0,4)),aP [5] (OV G 4),aP [5] (OW G 2 4 (1/2)),aP [5] (kSc G (0,4) (0,2) (1/2)),aP [5] (KB G (0,0) (0,2) (0,2)),aP [5] (KB G (4,0) (0,2) (4,2))] (by kernel_rfl)
end
end Go.Proofs.YtndoagbiakehnaaGreat
end

section
set_option maxRecDepth 100000
namespace Go.Proofs.YtndoagbiakehnaaGreat
open Go.VL Go.Proofs Go.Lib
def pr (p q r s:Q2):AV := .sl 15 [r8 [97] (sg p q),r8 [98] (sg r s)]
theorem r9 {l:List AV} (h:∀ e∈l,∀ c∈e.cells,ab c):∀ c∈flat l,ab c:=by
 intro c hc
 obtain ⟨e,he,hc⟩:=List.mem_flatMap.1 hc
 exact h e he c hc
theorem PU.sl1 {k:Nat} {a:AV} [h:PU a] (ha:∀ c∈a.cells,ab c):PU (.sl k [a]):=PU.slice (r9 (by intro e he;simp at he;subst he;exact ha)) (by intro c hc ρ;simp at hc;subst hc;exact h.fix ρ)
theorem PU.sl2 {k:Nat} {a b:AV} [h:PU a] [g:PU b] (ha:∀ c∈a.cells,ab c) (hb:∀ c∈b.cells,ab c):PU (.sl k [a,b]):=PU.slice (r9 (by intro e he;simp at he;rcases he with rfl | rfl;exact ha;exact hb)) (by intro c hc ρ;simp at hc;rcases hc with rfl | rfl;exact h.fix ρ;exact g.fix ρ)
instance {p q r s:Q2}:PU (pr p q r s):=PU.sl2 dL dL
def st1 (a:List UInt8):AV := .sl 1 [.str a]
def st2 (a b:List UInt8):AV := .sl 1 [.str a, .str b]
instance {a:List UInt8}:PU (st1 a):=PU.sl1 (by intro c hc;simp [AV.cells] at hc;subst hc;exact ab.str _)
instance {a b:List UInt8}:PU (st2 a b):=PU.sl2 (by intro c hc;simp [AV.cells] at hc;subst hc;exact ab.str _) (by intro c hc;simp [AV.cells] at hc;subst hc;exact ab.str _)
section
variable (G:Nat->Option (List AV)) (p q r s:Q2)
theorem a1 (n m:List UInt8) (b:Bool) (h:(n==m)=b):VP Tryz.prog G 92 [r8 n (sg p q), .ep [.str m] 0] (.bool b):=VP.tr nz [hb 7 h] (by kernel_rfl)
theorem aIF (m:List UInt8) (x y:Bool) (i:Int) (hx:([97]==m)=x) (hy:([98]==m)=y) (hi:(if x then 0 else if y then 1 else -1)=i):VP Tryz.prog G 91 [pr p q r s, .fn (.func 92) [] [.ep [.str m] 0]] (.int .i64 i):=by
 cases x<;>cases y<;>cases hi
 . exact VP.tr aJ [hc (a1 G p q _ m _ hx),hc (a1 G r s _ m _ hy)] (by kernel_rfl)
 . exact VP.tr aJ [hc (a1 G p q _ m _ hx),hc (a1 G r s _ m _ hy)] (by kernel_rfl)
 . exact VP.tr aJ [hc (a1 G p q _ m _ hx)] (by kernel_rfl)
 . exact VP.tr aJ [hc (a1 G p q _ m _ hx)] (by kernel_rfl)
theorem aIx (m:List UInt8) (i:Int) (h:(if [97]==m then 0 else if [98]==m then 1 else -1)=i:=by decide):VP Tryz.prog G 35 [pr p q r s, .str m] (.int .i64 i):=by
 have hv:az (ae.of [([0],⟨[.str m],1,false⟩)]) [pr p q r s, .fn (.func 92) [] [.ref [0] 0 0]] [pr p q r s, .fn (.func 92) [] [.ep [.str m] 0]]:=az.cons (View.pure PU.pure) (az.cons (View.fn az.nil (az.cons (View.ref (bk:=⟨[.str m],1,false⟩) (by simp [ae.of]) rfl (az.pure (by simp [AV.cells,ab.str]))) az.nil)) az.nil)
 exact VP.tr pX [fR [([0],⟨[.str m],1,false⟩)] (aIF G p q r s m _ _ i rfl rfl h) hv] (by kernel_rfl)
theorem aFa:VP Tryz.prog G 74 [pr p q r s, .str [97]] (.tup [sg p q, .bool true]):=VP.tr mW [hc (aIx G p q r s [97] 0)] (by kernel_rfl)
theorem aFb:VP Tryz.prog G 74 [pr p q r s, .str [98]] (.tup [sg r s, .bool true]):=VP.tr mW [hc (aIx G p q r s [98] 1)] (by kernel_rfl)
theorem am1 (m:List UInt8):VP Tryz.prog G 190 [.sl 1 [], .str m] (.int .i64 (-1)):=VP.tr gi [] (by kernel_rfl)
theorem am2:VP Tryz.prog G 190 [st1 [97], .str [98]] (.int .i64 (-1)):=VP.tr gi [] (by kernel_rfl)
theorem aje (m:List UInt8):VP Tryz.prog G 139 [.sl 1 [], .str m] (.bool false):=VP.tr fx [hc (am1 G m)] (by kernel_rfl)
theorem am3:VP Tryz.prog G 139 [st1 [97], .str [98]] (.bool false):=VP.tr fx [hc (am2 G)] (by kernel_rfl)
theorem am4:VP Tryz.prog G 73 [st2 [97] [98]] (.bool false):=VP.tr mJ [hc (aje G [97]),hc (am3 G)] (by kernel_rfl)
theorem am5:VP Tryz.prog G 73 [st1 [97]] (.bool false):=VP.tr mJ [hc (aje G [97])] (by kernel_rfl)
theorem vO {σ : ae} {id:VL.Id} {k n:Nat} {l:List AV} (h : σ id=some ⟨l,k,false⟩) (hn:l.length=n) (hf:∀ e∈l,e.size=k) (hp:∀ e∈l,∀ c∈e.cells,ab c):View σ (.osl id k 0 n false) (.sl k l):=by
 subst hn
 exact View.osl (bk:=⟨l,k,false⟩) h rfl (by simp) (by rw [List.drop_zero,List.take_length];exact az.pure (r9 hp)) rfl hf
theorem vTa {σ : ae} {a b:AV} {e:Int} (h:View σ a b):View σ (.tup [a, .int .i64 e]) (.tup [b, .int .i64 e]):=View.tup (az.cons h (az.cons (View.pure (ab.int _ _)) az.nil))
theorem ajf:VP Tryz.prog G 30 [.str [102],pr p q r s,st2 [97] [98]] (.tup [.sl 14 [sg p q,sg r s], .int .i64 0]):=VP.n7 om [hc (XL G [102]),hc (am4 G),hc (aFa G p q r s),hc (aFb G p q r s)] [([16],⟨[sg p q,sg r s],14,false⟩)] (.tup [.osl [16] 14 0 2 false, .int .i64 0]) (by kernel_rfl) (fun σ h=>vTa (vO (h ([16],⟨[sg p q,sg r s],14,false⟩) (by simp)) rfl (by intro e he;simp at he;rcases he with rfl | rfl<;>rfl) (by intro e he;simp at he;rcases he with rfl | rfl<;>exact IQ)))
theorem am6:VP Tryz.prog G 30 [.str [103],pr p q r s,st1 [97]] (.tup [.sl 14 [sg p q], .int .i64 0]):=VP.n7 om [hc (XL G [103]),hc (am5 G),hc (aFa G p q r s)] [([16],⟨[sg p q],14,false⟩)] (.tup [.osl [16] 14 0 1 false, .int .i64 0]) (by kernel_rfl) (fun σ h=>vTa (vO (h ([16],⟨[sg p q],14,false⟩) (by simp)) rfl (by intro e he;simp at he;subst he;rfl) (by intro e he;simp at he;subst he;exact IQ)))
def x1:AV:=NX.av ⟨[102,47,48],⟨true,(1,0),(0,1),(1,1),true⟩⟩
def x2:AV:=r8 [103,47,97] (sg (0,2) (4,2))
instance:PU x1:=by unfold x1;infer_instance
instance:PU x2:=by unfold x2;infer_instance
theorem tD:∀ c∈x1.cells,ab c:=D6 _
theorem wX:∀ c∈x2.cells,ab c:=dL
instance:PU (.sl 15 [x1]):=PU.sl1 tD
instance:PU (.sl 15 [x2]):=PU.sl1 wX
theorem am7:VP Tryz.prog G 160 [x1] (.bool false):=VP.tr oo [] (by kernel_rfl)
theorem am8:VP Tryz.prog G 161 [x1, .ep [pr p q r s] 0] (.bool false):=VP.tr oq [hc (aIx G p q r s [102,47,48] (-1))] (by kernel_rfl)
theorem am9:VP Tryz.prog G 91 [.sl 15 [x1], .fn (.func 160) [] []] (.int .i64 (-1)):=VP.tr aJ [hc (am7 G)] (by kernel_rfl)
theorem ana:VP Tryz.prog G 91 [.sl 15 [x1], .fn (.func 161) [] [.ep [pr p q r s] 0]] (.int .i64 (-1)):=VP.tr aJ [hc (am8 G p q r s)] (by kernel_rfl)
theorem anb:VP Tryz.prog G 162 [.sl 15 [x1], .fn (.func 160) [] []] (.bool false):=VP.tr bF [hc (am9 G)] (by kernel_rfl)
theorem anc:VP Tryz.prog G 162 [.sl 15 [x1], .fn (.func 161) [] [.ep [pr p q r s] 0]] (.bool false):=VP.tr bF [hc (ana G p q r s)] (by kernel_rfl)
theorem ane:VP Tryz.prog G 93 [pr p q r s, .sl 15 [x1]] (.int .i64 0):=by
 have hv:az (ae.of [([0],⟨[pr p q r s],1,false⟩)]) [.sl 15 [x1], .fn (.func 161) [] [.ref [0] 0 0]] [.sl 15 [x1], .fn (.func 161) [] [.ep [pr p q r s] 0]]:=az.cons (View.pure PU.pure) (az.cons (View.fn az.nil (az.cons (View.ref (bk:=⟨[pr p q r s],1,false⟩) (by simp [ae.of]) rfl (az.pure (by intro c hc;rcases List.mem_singleton.1 hc with rfl;exact PU.pure))) az.nil)) az.nil)
 exact VP.tr iM [hc (anb G),fR [([0],⟨[pr p q r s],1,false⟩)] (anc G p q r s) hv] (by kernel_rfl)
theorem anf:VP Tryz.prog G 160 [x2] (.bool false):=VP.tr oo [] (by kernel_rfl)
theorem ang:VP Tryz.prog G 161 [x2, .ep [pr p q r s] 0] (.bool false):=VP.tr oq [hc (aIx G p q r s [103,47,97] (-1))] (by kernel_rfl)
theorem anh:VP Tryz.prog G 91 [.sl 15 [x2], .fn (.func 160) [] []] (.int .i64 (-1)):=VP.tr aJ [hc (anf G)] (by kernel_rfl)
theorem ani:VP Tryz.prog G 91 [.sl 15 [x2], .fn (.func 161) [] [.ep [pr p q r s] 0]] (.int .i64 (-1)):=VP.tr aJ [hc (ang G p q r s)] (by kernel_rfl)
theorem anj:VP Tryz.prog G 162 [.sl 15 [x2], .fn (.func 160) [] []] (.bool false):=VP.tr bF [hc (anh G)] (by kernel_rfl)
theorem ank:VP Tryz.prog G 162 [.sl 15 [x2], .fn (.func 161) [] [.ep [pr p q r s] 0]] (.bool false):=VP.tr bF [hc (ani G p q r s)] (by kernel_rfl)
theorem anl:VP Tryz.prog G 93 [pr p q r s, .sl 15 [x2]] (.int .i64 0):=by
 have hv:az (ae.of [([0],⟨[pr p q r s],1,false⟩)]) [.sl 15 [x2], .fn (.func 161) [] [.ref [0] 0 0]] [.sl 15 [x2], .fn (.func 161) [] [.ep [pr p q r s] 0]]:=az.cons (View.pure PU.pure) (az.cons (View.fn az.nil (az.cons (View.ref (bk:=⟨[pr p q r s],1,false⟩) (by simp [ae.of]) rfl (az.pure (by intro c hc;rcases List.mem_singleton.1 hc with rfl;exact PU.pure))) az.nil)) az.nil)
 exact VP.tr iM [hc (anj G),fR [([0],⟨[pr p q r s],1,false⟩)] (ank G p q r s) hv] (by kernel_rfl)
theorem anm:VP Tryz.prog G 94 [.sl 1 [pr p q r s, .sl 15 [x1]]] (.sl 15 [r8 [97] (sg p q),r8 [98] (sg r s),x1]):=VP.n7 et
 [.rel 163 _ [] _ (fun p _=>LV eK 3 (by decide) (by decide) p) (by intro p x hx;simp at hx)] [([18,33],⟨[r8 [97] (sg p q),r8 [98] (sg r s),x1],15,false⟩)] (.osl [18,33] 15 0 3 false) (by kernel_rfl)
 (fun σ h=>vO (h ([18,33],⟨[r8 [97] (sg p q),r8 [98] (sg r s),x1],15,false⟩) (by simp)) rfl (by intro e he;simp at he;rcases he with rfl | rfl | rfl<;>rfl) (by intro e he;simp at he;rcases he with rfl | rfl | rfl;exact dL;exact dL;exact tD))
theorem ann:VP Tryz.prog G 94 [.sl 1 [pr p q r s, .sl 15 [x2]]] (.sl 15 [r8 [97] (sg p q),r8 [98] (sg r s),x2]):=VP.n7 et
 [.rel 163 _ [] _ (fun p _=>LV eK 3 (by decide) (by decide) p) (by intro p x hx;simp at hx)] [([18,33],⟨[r8 [97] (sg p q),r8 [98] (sg r s),x2],15,false⟩)] (.osl [18,33] 15 0 3 false) (by kernel_rfl)
 (fun σ h=>vO (h ([18,33],⟨[r8 [97] (sg p q),r8 [98] (sg r s),x2],15,false⟩) (by simp)) rfl (by intro e he;simp at he;rcases he with rfl | rfl | rfl<;>rfl) (by intro e he;simp at he;rcases he with rfl | rfl | rfl;exact dL;exact dL;exact wX))
theorem ano:VP Tryz.prog G 36 [pr p q r s, .sl 15 [x1]] (.tup [.sl 15 [r8 [97] (sg p q),r8 [98] (sg r s),x1], .int .i64 0]):=by
 have hv:az (ae.of [([10],⟨[pr p q r s, .sl 15 [x1]],1,false⟩)]) [.osl [10] 1 0 2 false] [.sl 1 [pr p q r s, .sl 15 [x1]]]:=az.cons (vO (by simp [ae.of]) rfl (by intro e he;simp at he;rcases he with rfl | rfl<;>rfl) (by intro e he c hc;simp at he;rcases he with rfl | rfl<;>(rcases List.mem_singleton.1 hc with rfl;exact PU.pure))) az.nil
 haveI:PU (.sl 15 [r8 [97] (sg p q),r8 [98] (sg r s),x1]):=PU.slice (r9 (by intro e he;simp at he;rcases he with rfl | rfl | rfl;exact dL;exact dL;exact tD)) (by intro e he ρ;simp at he;rcases he with rfl | rfl | rfl<;>exact PU.fix ρ)
 exact VP.tr mX [hc (ane G p q r s),fR [([10],⟨[pr p q r s, .sl 15 [x1]],1,false⟩)] (anm G p q r s) hv] (by kernel_rfl)
theorem anp:VP Tryz.prog G 36 [pr p q r s, .sl 15 [x2]] (.tup [.sl 15 [r8 [97] (sg p q),r8 [98] (sg r s),x2], .int .i64 0]):=by
 have hv:az (ae.of [([10],⟨[pr p q r s, .sl 15 [x2]],1,false⟩)]) [.osl [10] 1 0 2 false] [.sl 1 [pr p q r s, .sl 15 [x2]]]:=az.cons (vO (by simp [ae.of]) rfl (by intro e he;simp at he;rcases he with rfl | rfl<;>rfl) (by intro e he c hc;simp at he;rcases he with rfl | rfl<;>(rcases List.mem_singleton.1 hc with rfl;exact PU.pure))) az.nil
 haveI:PU (.sl 15 [r8 [97] (sg p q),r8 [98] (sg r s),x2]):=PU.slice (r9 (by intro e he;simp at he;rcases he with rfl | rfl | rfl;exact dL;exact dL;exact wX)) (by intro e he ρ;simp at he;rcases he with rfl | rfl | rfl<;>exact PU.fix ρ)
 exact VP.tr mX [hc (anl G p q r s),fR [([10],⟨[pr p q r s, .sl 15 [x2]],1,false⟩)] (ann G p q r s) hv] (by kernel_rfl)
end
end Go.Proofs.YtndoagbiakehnaaGreat
end

section
set_option maxRecDepth 100000
namespace Go.Proofs.YtndoagbiakehnaaGreat
open Go.VL Go.Proofs Go.Lib
section
variable (G:Nat->Option (List AV)) (p q r s:Q2)
theorem zq (k:Rat) (i:Int) (e:aZ k=i:=by decide +kernel) (h:qB k=true:=by decide +kernel):VP Tryz.prog G 32 [QV k] (.int .i64 i):=kQs G k i e h
theorem aCl (π : VL.Id):aM Tryz.prog G 9 [pr p q r s] π [] { val := .osl (5 :: π) 15 0 2 false,rd:=[],up:=[(5 :: π,some ⟨[r8 [97] (sg p q),r8 [98] (sg r s)],15,false⟩)] } :=
 aM.tr (up:=[(5 :: π,⟨[r8 [97] (sg p q),r8 [98] (sg r s)],15,false⟩)]) (p := π) g9 (fun _=>[]) [] [pr p q r s] [] (.osl [5,0] 15 0 2 false) [([5,0],⟨[r8 [97] (sg p q),r8 [98] (sg r s)],15,false⟩)] (by kernel_rfl) (by rw [Cm.fix]) rfl rfl (by simp [yn,dc.dJ,bA,cd,PU.fixed,mZ]) (by simp) (by simp)
def w1:AV := .sl 15 [r8 [97] (sg (1,0) (4,0)),r8 [98] (sg (0,1) (0,4)),x1]
def SP:AV:=pr (0,0) (4,0) (0,0) (0,4)
instance:PU SP:=by unfold SP;infer_instance
theorem aF4:VP Tryz.prog G 8 [.str [102],SP, .str [97], .str [98],QV 4] (.tup [.nils, .int .i64 16]):=by
 have hv:az (ae.of [([7],⟨[.str [97], .str [98]],1,false⟩)]) [.str [102],SP, .osl [7] 1 0 2 false] [.str [102],SP,st2 [97] [98]]:=az.cons (View.pure PU.pure) (az.cons (View.pure PU.pure) (az.cons (vO (by simp [ae.of]) rfl (by intro e he;simp at he;rcases he with rfl | rfl<;>rfl) (by intro e he c hc;simp at he;rcases he with rfl | rfl<;>(rcases List.mem_singleton.1 hc with rfl;exact PU.pure))) az.nil))
 exact VP.tr ti [fR [([7],⟨[.str [97], .str [98]],1,false⟩)] (ajf G (0,0) (4,0) (0,0) (0,4)) hv,hc (SN G),hc (zq G 4 1),hc (aaU G)] (by kernel_rfl)
theorem vS2 {σ : ae} {i:VL.Id} {a b:List UInt8} (h : σ i=some ⟨[.str a, .str b],1,false⟩):View σ (.osl i 1 0 2 false) (st2 a b):=vO h rfl (by intro e he;simp at he;rcases he with rfl | rfl<;>rfl) (by intro e he c hc;simp at he;rcases he with rfl | rfl<;>(rcases List.mem_singleton.1 hc with rfl;exact PU.pure))
theorem vS1 {σ : ae} {i:VL.Id} {a:List UInt8} (h : σ i=some ⟨[.str a],1,false⟩):View σ (.osl i 1 0 1 false) (st1 a):=vO h rfl (by intro e he;simp at he;subst he;rfl) (by intro e he c hc;simp at he;subst he;rcases List.mem_singleton.1 hc with rfl;exact PU.pure)
theorem vPr {σ : ae} {i:VL.Id} (h : σ i=some ⟨[r8 [97] (sg p q),r8 [98] (sg r s)],15,false⟩):View σ (.osl i 15 0 2 false) (pr p q r s):=vO h rfl (by intro e he;simp at he;rcases he with rfl | rfl<;>rfl) (by intro e he;simp at he;rcases he with rfl | rfl<;>exact dL)
theorem vX {σ : ae} {i:VL.Id} {x:AV} (h : σ i=some ⟨[x],15,false⟩) (hx:∀ c∈x.cells,ab c) (h1:x.size=15):View σ (.osl i 15 0 1 false) (.sl 15 [x]):=vO h rfl (by intro e he;simp at he;subst he;exact h1) (by intro e he;simp at he;subst he;exact hx)
theorem aF1:VP Tryz.prog G 8 [.str [102],SP, .str [97], .str [98],QV 1] (.tup [w1, .int .i64 0]):=by
 have hv:az (ae.of [([7],⟨[.str [97], .str [98]],1,false⟩)]) [.str [102],SP, .osl [7] 1 0 2 false] [.str [102],SP,st2 [97] [98]]:=az.cons (View.pure PU.pure) (az.cons (View.pure PU.pure) (az.cons (vS2 (by simp [ae.of])) az.nil))
 let S:List (VL.Id × dc):=[([5,68],⟨[r8 [97] (sg (1,0) (4,0)),r8 [98] (sg (0,1) (0,4))],15,false⟩),([111],⟨[x1],15,false⟩)]
 have hw:az (ae.of S) [.osl [5,68] 15 0 2 false, .osl [111] 15 0 1 false] [pr (1,0) (4,0) (0,1) (0,4), .sl 15 [x1]]:=az.cons (vPr _ _ _ _ (by simp [ae.of,S])) (az.cons (vX (by simp [ae.of,S,List.lookup]) tD rfl) az.nil)
 haveI:PU w1:=PU.slice (r9 (by intro e he;simp at he;rcases he with rfl | rfl | rfl;exact dL;exact dL;exact tD)) (by intro e he ρ;simp at he;rcases he with rfl | rfl | rfl<;>exact PU.fix ρ)
 exact VP.tr ti [fR [([7],⟨[.str [97], .str [98]],1,false⟩)] (ajf G (0,0) (4,0) (0,0) (0,4)) hv,hc (SN G),hc (zq G 1 1),hc (aaT G), .rel 9 _ [] _ (fun π _=>aCl G (0,0) (4,0) (0,0) (0,4) π) (by intro p x hx;simp at hx),
   hc (aIx G (0,0) (4,0) (0,0) (0,4) [97] 0),hc (ajc G),hc (aIx G (0,0) (4,0) (0,0) (0,4) [98] 1),hc (ajd G),fR S (ano G (1,0) (4,0) (0,1) (0,4)) hw] (by kernel_rfl)
theorem aO:VP Tryz.prog G 20 [.str [103],SP,st1 [97],QV 2] (.tup [.sl 15 [r8 [97] sA,r8 [98] sB',x2], .int .i64 0]):=by
 have hw:az (ae.of [([19],⟨[x2],15,false⟩)]) [SP, .osl [19] 15 0 1 false] [SP, .sl 15 [x2]]:=az.cons (View.pure PU.pure) (az.cons (vX (by simp [ae.of]) wX rfl) az.nil)
 haveI:PU (.sl 15 [r8 [97] sA,r8 [98] sB',x2]):=PU.slice (r9 (by intro e he;simp at he;rcases he with rfl | rfl | rfl;exact dL;exact dL;exact wX)) (by intro e he ρ;simp at he;rcases he with rfl | rfl | rfl;exact (inferInstance:PU (r8 [97] (sg _ _))).fix ρ;exact (inferInstance:PU (r8 [98] (sg _ _))).fix ρ;exact PU.fix ρ)
 exact VP.tr gA [hc (am6 G (0,0) (4,0) (0,0) (0,4)),hc (zq G 2 1),hc (amZ G),fR [([19],⟨[x2],15,false⟩)] (anp G (0,0) (4,0) (0,0) (0,4)) hw] (by kernel_rfl)
end
end Go.Proofs.YtndoagbiakehnaaGreat
end

section
set_option maxRecDepth 100000
namespace Go.Proofs.YtndoagbiakehnaaGreat
open Go.VL Go.Proofs Go.Lib
section
variable (G:Nat->Option (List AV)) (p q r s:Q2)
theorem kRe (a b:Q2) (c:Bool) (e:decide (a=b)=c:=by decide +kernel) (h1:(vB a&&vB b)=true:=by decide +kernel):VP Tryz.prog G 19 [V2 a,V2 b] (.bool c):=by
 simp only [Bool.and_eq_true] at h1
 have s1:=(Gq h1.1).mono (k:=45000) (by omega)
 have s2:=(Gq h1.2).mono (k:=45000) (by omega)
 exact e▸XK G a b s1 s2
theorem UG (a b:Int) (v:Q2) (e:((a:Rat),(b:Rat))=v:=by decide +kernel) (h:(decide (-100<=a)&&decide (a<=100)&&decide (-100<=b)&&decide (b<=100))=true:=by decide +kernel):VP Tryz.prog G 25 [.int .i64 a, .int .i64 b] (V2 v):=by
 simp only [Bool.and_eq_true,decide_eq_true_eq] at h
 subst e
 exact FO nP a b (Gn G a (by omega) (by omega)) (Gn G b (by omega) (by omega)) (SB G ((a:Rat),(b:Rat)))
theorem X6 (a b c d:Int) (u v:Q2) (h1:VP Tryz.prog G 25 [.int .i64 a, .int .i64 b] (V2 u)) (h2:VP Tryz.prog G 25 [.int .i64 c, .int .i64 d] (V2 v)):VP Tryz.prog G 23 [.int .i64 a, .int .i64 b, .int .i64 c, .int .i64 d] (sg u v):=VP.tr th [hc h1,hc h2] (by kernel_rfl)
theorem kE (u v:Q2) (h1:VP Tryz.prog G 19 [V2 u,V2 u] (.bool true)) (h2:VP Tryz.prog G 19 [V2 v,V2 v] (.bool true)):VP Tryz.prog G 68 [sg u v,sg u v] (.bool true):=VP.tr dK [hc h1,hc h2] (by kernel_rfl)
def xc:AV:=CX.av ⟨true,(1,0),(0,1),(1,1),true⟩
instance:PU xc:=by unfold xc;infer_instance
theorem kX:VP Tryz.prog G 68 [xc,xc] (.bool true):=VP.tr dK [hc (kRe G (1,0) (1,0) true),hc (kRe G (0,1) (0,1) true),hc (kRe G (1,1) (1,1) true)] (by kernel_rfl)
instance:PU w1:=PU.slice (r9 (by intro e he;simp at he;rcases he with rfl | rfl | rfl;exact dL;exact dL;exact tD)) (by intro e he ρ;simp at he;rcases he with rfl | rfl | rfl<;>exact PU.fix ρ)
theorem afc:VP Tryz.prog G 26 [w1,w1] (.bool true):=VP.tr g8 [hc (kE G (1,0) (4,0) (kRe G (1,0) (1,0) true) (kRe G (4,0) (4,0) true)),hc (kE G (0,1) (0,4) (kRe G (0,1) (0,1) true) (kRe G (0,4) (0,4) true)),hc (kX G)] (by kernel_rfl)
theorem afd:VP Tryz.prog G 26 [.sl 15 [x2], .sl 15 [x2]] (.bool true):=VP.tr g8 [hc (kE G (0,2) (4,2) (kRe G (0,2) (0,2) true) (kRe G (4,2) (4,2) true))] (by kernel_rfl)
theorem kI (z:Int) (v:Rat) (e:(z:Rat)=v:=by decide +kernel) (h:(decide (-100<=z)&&decide (z<=100))=true:=by decide +kernel):VP Tryz.prog G 24 [.int .i64 z] (QV v):=by
 simp only [Bool.and_eq_true,decide_eq_true_eq] at h
 exact e▸Gn G z (by omega) (by omega)
def Lb (i:VL.Id) (b:Bool):VL.Id × dc:=(i,⟨[r8 [97] (sg (0,0) (4,0)),r8 [98] (sg (0,0) (0,4))],15,b⟩)
theorem ajg {σ : ae} {i:VL.Id} {b:Bool} (h : σ i=some (Lb i b).2):View σ (.osl i 15 0 2 false) SP:=View.osl (bk:=(Lb i b).2) h rfl (by simp [Lb]) (az.pure (r9 (by intro e he;simp [Lb] at he;rcases he with rfl | rfl<;>exact dL))) rfl (by intro e he;simp at he;rcases he with rfl | rfl<;>rfl)
theorem hvF (i:VL.Id) (b:Bool) (k:Rat):az (ae.of [Lb i b]) [.str [102], .osl i 15 0 2 false, .str [97], .str [98],QV k] [.str [102],SP, .str [97], .str [98],QV k]:=az.cons (View.pure PU.pure) (az.cons (ajg (b:=b) (by simp [ae.of,Lb])) (az.pure Cm.pure))
theorem X7:VP Tryz.prog G 5 [] (.bool true):=by
 let S:List (VL.Id × dc):=[Lb [5] true,([24],⟨[.str [97]],1,false⟩)]
 have hO:az (ae.of S) [.str [103], .osl [5] 15 0 2 false, .osl [24] 1 0 1 false,QV 2] [.str [103],SP,st1 [97],QV 2]:=az.cons (View.pure PU.pure) (az.cons (ajg (b:=true) (by simp [ae.of,Lb,S])) (az.cons (vS1 (by simp [ae.of,S,Lb,List.lookup])) (az.pure Cm.pure)))
 let T:List (VL.Id × dc):=[([44],⟨[r8 [97] (sg (1,0) (4,0)),r8 [98] (sg (0,1) (0,4)),x1],15,false⟩)]
 have hT:az (ae.of T) [w1, .osl [44] 15 0 3 false] [w1,w1]:=az.cons (View.pure PU.pure) (az.cons (vO (by simp [ae.of,T]) rfl (by intro e he;simp at he;rcases he with rfl | rfl | rfl<;>rfl) (by intro e he;simp at he;rcases he with rfl | rfl | rfl;exact dL;exact dL;exact tD)) az.nil)
 have hU:az (ae.of [([71],⟨[x2],15,false⟩)]) [.sl 15 [x2], .osl [71] 15 0 1 false] [.sl 15 [x2], .sl 15 [x2]]:=az.cons (View.pure PU.pure) (az.cons (vX (by simp [ae.of]) wX rfl) az.nil)
 exact VP.tr vu [hc (X6 G 0 0 4 0 (0,0) (4,0) (UG G 0 0 _) (UG G 4 0 _)),hc (X6 G 0 0 0 4 (0,0) (0,4) (UG G 0 0 _) (UG G 0 4 _)),hc (kI G 1 1),fR [Lb [5] false] (aF1 G) (hvF [5] false 1),hc (kI G 4 4),fR [Lb [5] true] (aF4 G) (hvF [5] true 4),hc (kI G 2 2),fR S (aO G) hO,
   hc (UG G 1 0 (1,0)),hc (UG G 0 1 (0,1)),hc (UG G 1 1 (1,1)),hc (X6 G 1 0 4 0 (1,0) (4,0) (UG G 1 0 _) (UG G 4 0 _)),hc (X6 G 0 1 0 4 (0,1) (0,4) (UG G 0 1 _) (UG G 0 4 _)),fR T (afc G) hT,hc (X6 G 0 2 4 2 (0,2) (4,2) (UG G 0 2 _) (UG G 4 2 _)),fR [([71],⟨[x2],15,false⟩)] (afd G) hU] (by kernel_rfl)
end
end Go.Proofs.YtndoagbiakehnaaGreat
end

section
set_option maxRecDepth 100000
namespace Go.Proofs.YtndoagbiakehnaaGreat
open Go.VL Go.Proofs Go.Lib
theorem Qw:Sm 1 (1:Rat):=aav (a:=1) (by decide)
section
variable (G:Nat->Option (List AV))
theorem afe (a b:Q2) (ha:bR 40000 a) (hb:bR 40000 b):VP Tryz.prog G 143 [V2 a,V2 b] (.tup [V2 (bf a b), .int .i64 0]):=Sq A1 a b _ (D5 jf a b _ (XO G _ _ (ha.1.mono (by omega)) (hb.1.mono (by omega))) (XO G _ _ (ha.2.mono (by omega)) (hb.2.mono (by omega))))
theorem anq (a b:Q2) (ha:bR 20000 a) (hb:bR 20000 b):VP Tryz.prog G 87 [V2 a,V2 b] (.tup [NV (nV a b), .int .i64 0]):=SF A3 a b (D5 jf a b (a.1*b.1,a.2*b.2) (L1 G _ _ (ha.1.mono (by omega)) (hb.1.mono (by omega))) (L1 G _ _ (ha.2.mono (by omega)) (hb.2.mono (by omega)))) (Uv G _ _ ((ha.1.mul hb.1).mono (by omega)) ((ha.2.mul hb.2).mono (by omega)))
theorem gSq (a:Q2) (ha:bR 20000 a):VP Tryz.prog G 150 [V2 a] (.tup [NV (nV a a), .int .i64 0]):=IA ur a (anq G a a ha ha)
end
end Go.Proofs.YtndoagbiakehnaaGreat
end

section
set_option maxRecDepth 100000
namespace Go.Proofs.YtndoagbiakehnaaGreat
open Go.VL Go.Proofs Go.Lib
def Rq (q:Rat) (b:Bool):AV:=match b with | true=>T1 q | false => .nils
def Cq (b:Bool) (v:Q2):AV:=match b with | true=>E1 v | false=>EV v.1
instance {q:Rat} {b:Bool}:PU (Rq q b):=by cases b<;>(unfold Rq;infer_instance)
instance {b:Bool} {v:Q2}:PU (Cq b v):=by cases b<;>(unfold Cq;infer_instance)
def VQ (q:Rat) (b:Bool) (u v:Q2):AV := .agg [Rq q b,Cq b u,Rq q b,Cq b v]
instance {q:Rat} {b:Bool} {u v:Q2}:PU (VQ q b u v):=by unfold VQ;infer_instance
theorem Qx {q:Rat} {a b:Q2} {i j k:Nat} (hq:Sm i q) (ha:bR j a) (hb:bR k b):bR (2*j+2*k+i+1) (eG q a b):=⟨((ha.1.mul hb.1).add ((ha.2.mul hb.2).mul hq)).mono (by omega),((ha.1.mul hb.2).add (ha.2.mul hb.1)).mono (by omega)⟩
theorem z2 {k:Nat} {x:Rat} (h:Sm k x) (hk:1<=k):bR k (x,(0:Rat)):=⟨h,Sm.zero.mono hk⟩
theorem tfl {v:Q2}:Fl true v:=fun h=>by cases h
theorem O1 {q x:Rat} {f:Q2}:(eG q (x,0) f).1=x*f.1:=by unfold eG;simp only [];grind
section
variable (G:Nat->Option (List AV))
theorem acV (f:Nat) (a:Q2) (q:Rat) (u v s t:Q2) (h1:VP Tryz.prog G f [NV a.1,N1 q u] (.tup [N1 q s, .int .i64 0])) (h2:VP Tryz.prog G f [NV a.2,N1 q v] (.tup [N1 q t, .int .i64 0])):VP Tryz.prog G 156 [V2 a,VQ q true u v, .fn (.func f) [] []] (.tup [VQ q true s t, .int .i64 0]):=VP.tr jf [hc h1,hc h2] (by kernel_rfl)
theorem acW (q:Rat) (u v:Q2):bu Tryz.prog G 142 [VQ q true u v, .int .i64 0] (VQ q true u v):=bu.tr dw [] (by kernel_rfl)
theorem SQ (q:Rat) (b:Bool) (u:Q2):bu Tryz.prog G 78 [nq q b u, .int .i64 0] (nq q b u):=by
 cases b
 . exact bu.tr mK [] (by kernel_rfl)
 . exact bu.tr mK [] (by kernel_rfl)
theorem Ma (q:Rat) (b:Bool) (a f:Q2) (hq:Sm 10000 q) (ha:bR 10000 a) (hf:bR 10000 f):bu Tryz.prog G 90 [V2 a,nq q b f] (VQ q b (eG q (a.1,0) f) (eG q (a.2,0) f)):=by
 cases b
 . show bu Tryz.prog G 90 [V2 a,NV f.1] (V2 ((eG q (a.1,0) f).1,(eG q (a.2,0) f).1))
   rw [O1,O1]
   exact Uj kQ a f.1 (XG G a f.1 (ha.mono (by omega)) (hf.1.mono (by omega))) (Bu dw)
 . have h1:=SL G q false true (a.1,0) f hq (z2 ha.1 (by omega)) hf (fun _=>rfl) tfl
   have h2:=SL G q false true (a.2,0) f hq (z2 ha.2 (by omega)) hf (fun _=>rfl) tfl
   have h3:VP Tryz.prog G 159 [V2 a,nq q true f] (.tup [VQ q true (eG q (a.1,0) f) (eG q (a.2,0) f), .int .i64 0]):=VP.tr wD [hc (acV G 152 a q f f _ _ h1 h2)] (by kernel_rfl)
   exact bu.tr kQ [hc h3,aP [1] (acW G q (eG q (a.1,0) f) (eG q (a.2,0) f))] (by kernel_rfl)
theorem SR (q:Rat) (b:Bool) (a u v:Q2) (hq:Sm 10000 q) (ha:bR 10000 a) (hu:bR 10000 u) (hv:bR 10000 v):bu Tryz.prog G 89 [V2 a,VQ q b u v] (VQ q b (a.1+u.1,0+u.2) (a.2+v.1,0+v.2)):=by
 cases b
 . exact aat mI a (u.1,v.1) (aiy G a (u.1,v.1) (ha.mono (by omega)) ⟨hu.1.mono (by omega),hv.1.mono (by omega)⟩) (Bu dw)
 . have h1:=XY G q false true (a.1,0) u hq (z2 ha.1 (by omega)) hu (fun _=>rfl) tfl
   have h2:=XY G q false true (a.2,0) v hq (z2 ha.2 (by omega)) hv (fun _=>rfl) tfl
   have h3:VP Tryz.prog G 158 [V2 a,VQ q true u v] (.tup [VQ q true (a.1+u.1,0+u.2) (a.2+v.1,0+v.2), .int .i64 0]):=VP.tr AZ [hc (acV G 86 a q u v _ _ h1 h2)] (by kernel_rfl)
   exact bu.tr mI [hc h3,aP [1] (acW G q (a.1+u.1,0+u.2) (a.2+v.1,0+v.2))] (by kernel_rfl)
theorem acX (q:Rat) (b c:Bool) (u v:Q2) (hq:Sm 1000 q) (hu:bR 1000 u) (hv:bR 1000 v) (fu:Fl b u) (fv:Fl c v) (h0:eJ q v≠0):bu Tryz.prog G 85 [nq q b u,nq q c v] (nq q (b||c) (eG q u (o7 q v))):=by
 have h:=ajb G q b c u v hq hu hv fu fv h0
 have hn:=SQ G q (b||c) (eG q u (o7 q v))
 cases b<;>cases c<;>exact bu.tr rn [hc h,aP [1] hn] (by kernel_rfl)
end
end Go.Proofs.YtndoagbiakehnaaGreat
end

section
set_option maxRecDepth 100000
namespace Go.Proofs.YtndoagbiakehnaaGreat
open Go.VL Go.Proofs Go.Lib
def cvQ (q:Rat) (b wU:Bool) (a1 a2 b1 b2 c:Q2) (w:Bool):AV := .agg [.bool wU,Rq q b,Cq b a1,Rq q b,Cq b a2,Rq q b,Cq b b1,Rq q b,Cq b b2, .nils,EV c.1, .nils,EV c.2, .bool w]
instance {q:Rat} {b wU:Bool} {a1 a2 b1 b2 c:Q2} {w:Bool}:PU (cvQ q b wU a1 a2 b1 b2 c w):=by unfold cvQ;infer_instance
structure o8 (q:Rat) (b:Bool) (l:Q2):Prop where
 pos:0<q.num
 sm:Sm 200 q
 sl:bR 200 l
 cs:(b=true/\l=(0,1)/\∀ r:Rat,r*r≠q)∨(b=false/\l.2=0/\l.1*l.1=q/\0<l.1.num)
theorem o8.q1 {q:Rat} {b:Bool} {l:Q2} (h:o8 q b l):aZ q=1:=Int.sign_eq_one_of_pos h.pos
theorem o8.q0 {q:Rat} {b:Bool} {l:Q2} (h:o8 q b l):q≠0:=fun e=>by have:=h.pos;rw [e] at this;exact absurd this (by decide)
theorem o8.fl {q:Rat} {b:Bool} {l:Q2} (h:o8 q b l):Fl b l:=by
 rcases h.cs with ⟨rfl,_,_⟩ | ⟨_,h2,_⟩
 . exact tfl
 . exact fun _=>h2
theorem o8.no {q:Rat} {b:Bool} {l:Q2} (h:o8 q b l):b=true->∀ r:Rat,r*r≠q:=by
 rcases h.cs with ⟨_,_,h3⟩ | ⟨rfl,_⟩
 . exact fun _=>h3
 . exact fun e=>by cases e
theorem o8.iv {q:Rat} {b:Bool} {l:Q2} (h:o8 q b l):eJ q l≠0/\((b=true/\l=(0,1)/\o7 q l=(0,1/q))∨(b=false/\l.2=0/\l.1≠0/\l.1*l.1=q/\o7 q l=(1/l.1,0))):=by
 have h0:=h.q0
 rcases h.cs with ⟨rfl,rfl,_⟩ | ⟨rfl,h2,h3,h4⟩
 . refine ⟨?_, .inl ⟨rfl,rfl, ?_⟩⟩
   . unfold eJ;simp only [];grind
   . unfold o7 eJ;refine Prod.ext ?_ ?_<;>simp only []<;>grind
 . obtain ⟨r,s⟩:=l
   simp only [] at h2 h3 h4
   subst h2
   have hr:r≠0:=fun e=>by rw [e] at h4;exact absurd h4 (by decide)
   refine ⟨?_, .inr ⟨rfl,rfl,hr,h3,IP hr⟩⟩
   unfold eJ;simp only [];grind
theorem o8.n0 {q:Rat} {b:Bool} {l:Q2} (h:o8 q b l):eJ q l≠0:=h.iv.1
theorem o8.inv {q:Rat} {b:Bool} {l:Q2} (h:o8 q b l):bR 202 (o7 q l):=by
 rcases h.iv.2 with ⟨_,_,e⟩ | ⟨_,_,_,_,e⟩
 . rw [e];exact ⟨Sm.zero.mono (by omega),(Qw.div h.sm (by omega)).mono (by omega)⟩
 . rw [e];exact ⟨(Qw.div h.sl.1 (by omega)).mono (by omega),Sm.zero.mono (by omega)⟩
theorem o8.div {q:Rat} {b:Bool} {l f:Q2} (h:o8 q b l) (hf:bR 230 f):bR 1100 (eG q f (o7 q l)):=(Qx h.sm hf h.inv).mono (by omega)
theorem Qy {q x:Rat} {f:Q2}:eG q (x,0) f=(x*f.1,x*f.2):=by unfold eG;refine Prod.ext ?_ ?_<;>simp only []<;>grind
theorem qo {q x:Rat} {f:Q2} (hx:Sm 41 x) (hf:bR 1100 f):bR 1141 (eG q (x,0) f):=by rw [Qy];exact ⟨(hx.mul hf.1).mono (by omega),(hx.mul hf.2).mono (by omega)⟩
theorem fSc {q x:Rat} {b:Bool} {f:Q2} (h:Fl b f):Fl b (eG q (x,0) f):=fun e=>by rw [Qy];show x*f.2=0;rw [h e,Rat.mul_zero]
theorem o8.fF {q:Rat} {b:Bool} {l s:Q2} (h:o8 q b l) (fs:Fl b s):Fl b (eG q s (o7 q l)):=by
 rcases h.iv.2 with ⟨rfl,_,_⟩ | ⟨rfl,_,_,_,e⟩
 . exact tfl
 . intro _
   rw [e]
   show s.1*0+s.2*(1/l.1)=0
   rw [fs rfl,Rat.mul_zero,Rat.zero_mul,Rat.add_zero]
instance:PU zC:=by unfold zC;infer_instance
section
variable (G:Nat->Option (List AV))
theorem aji (a:Q2) (q:Rat) (b:Bool) (l:Q2) (ha:bR 100 a) (hd:nV a a=q) (h:o8 q b l):VP Tryz.prog G 83 [V2 a] (.tup [nq q b l, .int .i64 0]):=by
 have h1:=gSq G a (ha.mono (by omega))
 rw [hd] at h1
 have hs:=h.sm.mono (k:=400) (by omega)
 rcases h.cs with ⟨rfl,rfl,hr⟩ | ⟨rfl,_,hr,h0⟩
 . exact VP.tr pY [hc h1,hc (afa G q h.pos hs hr)] (by kernel_rfl)
 . exact VP.tr pY [hc h1,hc (afb G q l.1 h.pos hs hr h0 (h.sl.1.mono (by omega)))] (by kernel_rfl)
theorem ajj (a:Q2) (ha:bR 10000 a):VP Tryz.prog G 131 [V2 a] (V2 (-a.2,a.1)):=by
 have hn:=OT G (-a.1) (ha.1.neg.mono (by omega))
 rw [Rat.neg_neg] at hn
 exact OK yH a (OT G _ (ha.2.mono (by omega))) (OJ uu _ (OT G _ (ha.1.mono (by omega))) hn)
def Gr (q d:Rat) (l:Q2):Q2:=eG q (d,0) (o7 q l)
def qe (l:Q2) (cw:Bool) (d:Rat):Q2:=(l.1+(if cw then d else -d),l.2+0)
def BU (q:Rat) (l:Q2) (cw:Bool) (d:Rat):Q2:=eG q (qe l cw d) (o7 q l)
def Bz (q x y:Rat) (f:Q2):Q2:=(x+(eG q (y,0) f).1,0+(eG q (y,0) f).2)
def aaX (q:Rat) (b:Bool) (x:CX) (f:Q2):AV:=cvQ q b false (Bz q x.a.1 (-(bf x.b x.a).2) f) (Bz q x.a.2 (bf x.b x.a).1 f) (Bz q x.b.1 (-(bf x.b x.a).2) f) (Bz q x.b.2 (bf x.b x.a).1 f) x.c x.cw
def aaY (q:Rat) (b:Bool) (x:CX) (f:Q2):AV:=cvQ q b true (Bz q x.c.1 (bf x.a x.c).1 f) (Bz q x.c.2 (bf x.a x.c).2 f) (Bz q x.c.1 (bf x.b x.c).1 f) (Bz q x.c.2 (bf x.b x.c).2 f) x.c x.cw
instance {q:Rat} {b:Bool} {x:CX} {f:Q2}:PU (aaX q b x f):=by unfold aaX;infer_instance
instance {q:Rat} {b:Bool} {x:CX} {f:Q2}:PU (aaY q b x f):=by unfold aaY;infer_instance
theorem aff (xa xb xc:Q2) (cw:Bool) (d q:Rat) (b:Bool) (l:Q2) (hx:bR 20 xa/\bR 20 xb/\bR 20 xc) (hd:Sm 20 d) (Zz:nV (-(bf xb xa).2,(bf xb xa).1) (-(bf xb xa).2,(bf xb xa).1)=q) (h:o8 q b l) :
   VP Tryz.prog G 64 [CX.av ⟨false,xa,xb,xc,cw⟩,QV d] (.tup [aaX q b ⟨false,xa,xb,xc,cw⟩ (Gr q d l), .int .i64 0]):=by
 have sd:bR 41 (bf xb xa):=bR.sub hx.2.1 hx.1
 have k1:bu Tryz.prog G 77 [V2 xb,V2 xa] (V2 (bf xb xa)):=GC jn xb xa _ (afe G xb xa (hx.2.1.mono (by omega)) (hx.1.mono (by omega))) (Bu dw)
 have k2:=ajj G (bf xb xa) (sd.mono (by omega))
 have sn:bR 41 (-(bf xb xa).2,(bf xb xa).1):=⟨sd.2.neg,sd.1⟩
 have k3:=aji G _ q b l (sn.mono (by omega)) Zz h
 have k4:bu Tryz.prog G 85 [NV d,nq q b l] (nq q b (Gr q d l)):=by
   have:=acX G q false b (d,0) l (h.sm.mono (by omega)) (z2 (hd.mono (by omega)) (by omega)) (h.sl.mono (by omega)) (fun _=>rfl) h.fl h.n0
   rwa [Bool.false_or] at this
 have sf:bR 1100 (Gr q d l):=h.div (z2 (hd.mono (by omega)) (by omega))
 have k5:=Ma G q b (-(bf xb xa).2,(bf xb xa).1) (Gr q d l) (h.sm.mono (by omega)) (sn.mono (by omega)) (sf.mono (by omega))
 have k6:=SR G q b xa _ _ (h.sm.mono (by omega)) (hx.1.mono (by omega)) ((qo (q:=q) sn.1 sf).mono (by omega)) ((qo (q:=q) sn.2 sf).mono (by omega))
 have k7:=SR G q b xb _ _ (h.sm.mono (by omega)) (hx.2.1.mono (by omega)) ((qo (q:=q) sn.1 sf).mono (by omega)) ((qo (q:=q) sn.2 sf).mono (by omega))
 have k8:=SQ G q b l
 cases b<;>exact VP.tr fE [hc (Ut G d (hd.mono (by omega))),aP [5] k1,hc k2,hc k3,aP [5] k8,aP [5] k4,aP [5] k5,aP [5] k6,aP [5] k7] (by kernel_rfl)
set_option maxHeartbeats 1000000 in
theorem afg (xa xb xc:Q2) (cw:Bool) (d q:Rat) (b:Bool) (l:Q2) (hx:bR 20 xa/\bR 20 xb/\bR 20 xc) (hd:Sm 20 d) (Zz:nV (bf xa xc) (bf xa xc)=q) (h:o8 q b l) :
   VP Tryz.prog G 64 [CX.av ⟨true,xa,xb,xc,cw⟩,QV d] (if BS q (qe l cw d)<=0 then .tup [zC, .int .i64 6] else .tup [aaY q b ⟨true,xa,xb,xc,cw⟩ (BU q l cw d), .int .i64 0]):=by
 have su:bR 41 (bf xa xc):=bR.sub hx.1 hx.2.2
 have sv:bR 41 (bf xb xc):=bR.sub hx.2.1 hx.2.2
 have k1:bu Tryz.prog G 77 [V2 xa,V2 xc] (V2 (bf xa xc)):=GC jn xa xc _ (afe G xa xc (hx.1.mono (by omega)) (hx.2.2.mono (by omega))) (Bu dw)
 have k2:bu Tryz.prog G 77 [V2 xb,V2 xc] (V2 (bf xb xc)):=GC jn xb xc _ (afe G xb xc (hx.2.1.mono (by omega)) (hx.2.2.mono (by omega))) (Bu dw)
 have k3:=aji G _ q b l (su.mono (by omega)) Zz h
 have s1:Sm 20 (if cw then d else -d):=by cases cw<;>simp only [if_true,Bool.false_eq_true,if_false];exact hd.neg;exact hd
 have z0:Sm 20 (0:Rat):=(Sm.zero).mono (by omega)
 have sS:bR 230 (qe l cw d):=⟨(h.sl.1.add s1).mono (by omega),(h.sl.2.add (z0:Sm 20 (0:Rat))).mono (by omega)⟩
 have k4:=XY G q b false l ((if cw then d else -d),0) (h.sm.mono (by omega)) (h.sl.mono (by omega)) (z2 (s1.mono (by omega)) (by omega)) h.fl (fun _=>rfl)
 rw [Bool.or_false] at k4
 have fS:Fl b (qe l cw d):=fun e=>by show l.2+0=0;rw [h.fl e,Rat.add_zero]
 have k5:=ae6 G q b (qe l cw d) (h.sm.mono (by omega)) (sS.mono (by omega)) h.q1 fS
 have k6:bu Tryz.prog G 85 [nq q b (qe l cw d),nq q b l] (nq q b (BU q l cw d)):=by
   have:=acX G q b b (qe l cw d) l (h.sm.mono (by omega)) (sS.mono (by omega)) (h.sl.mono (by omega)) fS h.fl h.n0
   rwa [Bool.or_self] at this
 have sf:bR 1100 (BU q l cw d):=h.div sS
 have k7:=Ma G q b (bf xa xc) (BU q l cw d) (h.sm.mono (by omega)) (su.mono (by omega)) (sf.mono (by omega))
 have k8:=Ma G q b (bf xb xc) (BU q l cw d) (h.sm.mono (by omega)) (sv.mono (by omega)) (sf.mono (by omega))
 have k9:=SR G q b xc _ _ (h.sm.mono (by omega)) (hx.2.2.mono (by omega)) ((qo (q:=q) su.1 sf).mono (by omega)) ((qo (q:=q) su.2 sf).mono (by omega))
 have k10:=SR G q b xc _ _ (h.sm.mono (by omega)) (hx.2.2.mono (by omega)) ((qo (q:=q) sv.1 sf).mono (by omega)) ((qo (q:=q) sv.2 sf).mono (by omega))
 have kl:=SQ G q b l
 have ks:=SQ G q b (qe l cw d)
 by_cases o9:BS q (qe l cw d)<=0
 . rw [if_pos o9]
   have e90:decide (BS q (qe l cw d)<=0)=true:=aw o9
   cases cw
   . cases b<;>exact VP.tr fE [hc (Ut G d (hd.mono (by omega))),aP [5] k1,aP [5] k2,hc k3,aP [5] kl,hc (OT G d (hd.mono (by omega))),hc k4,aP [5] ks,hc k5,hb 90 e90] (by kernel_rfl)
   . cases b<;>exact VP.tr fE [hc (Ut G d (hd.mono (by omega))),aP [5] k1,aP [5] k2,hc k3,aP [5] kl,hc k4,aP [5] ks,hc k5,hb 90 e90] (by kernel_rfl)
 . rw [if_neg o9]
   have e90:decide (BS q (qe l cw d)<=0)=false:=ak o9
   cases cw
   . cases b<;>exact VP.tr fE [hc (Ut G d (hd.mono (by omega))),aP [5] k1,aP [5] k2,hc k3,aP [5] kl,hc (OT G d (hd.mono (by omega))),hc k4,aP [5] ks,hc k5,hb 90 e90,aP [5] k6,aP [5] k7,aP [5] k9,aP [5] k8,aP [5] k10] (by kernel_rfl)
   . cases b<;>exact VP.tr fE [hc (Ut G d (hd.mono (by omega))),aP [5] k1,aP [5] k2,hc k3,aP [5] kl,hc k4,aP [5] ks,hc k5,hb 90 e90,aP [5] k6,aP [5] k7,aP [5] k9,aP [5] k8,aP [5] k10] (by kernel_rfl)
end
end Go.Proofs.YtndoagbiakehnaaGreat
end

section
set_option maxRecDepth 100000
namespace Go.Proofs.YtndoagbiakehnaaGreat
open Go.VL Go.Proofs Go.Lib
theorem yo {x:Rat}:0<x.num↔0<x:=by
 have h1:=Rat.num_nonneg (q:=x)
 have h2:=Rat.num_eq_zero (q:=x)
 constructor
 . intro h
   have a:=h1.1 (by omega)
   have b:x≠0:=fun e=>by have:=h2.2 e;omega
   grind
 . intro h
   have a:=h1.2 (by grind)
   have b:x.num≠0:=fun e=>by have:=h2.1 e;grind
   omega
theorem Qz {x:Rat}:aZ x=1↔0<x:=by
 rw [<- yo]
 unfold aZ
 rcases Int.lt_trichotomy x.num 0 with h | h | h
 . rw [Int.sign_eq_neg_one_of_neg h];omega
 . rw [h];decide
 . rw [Int.sign_eq_one_of_pos h];omega
theorem yp {x:Rat}:aZ x=0↔x=0:=by
 unfold aZ
 rw [Int.sign_eq_zero_iff_zero]
 exact Rat.num_eq_zero
theorem sq_pos {x:Rat} (h:x≠0):0<x*x:=by
 rcases (by grind:x<0∨0<x) with h | h
 . have:=Rat.mul_pos (show (0:Rat) < -x by grind) (show (0:Rat) < -x by grind)
   grind
 . exact Rat.mul_pos h h
theorem X8 (x:Rat):0<=x*x:=by
 by_cases h:x=0
 . subst h;grind
 . have:=sq_pos h;grind
theorem Mb (q x:Rat):BS q (x,0)=aZ x:=by
 unfold BS
 rw [if_pos (.inl (by rfl))]
theorem IU {q:Rat}:BS q (0,0)=0:=by rw [Mb];rfl
theorem afh {q:Rat} {f:Q2} (hq:0<q) (hn:(∀ r:Rat,r*r≠q)∨f.2=0) (hf:f.1≠0):BS q (q*(f.1*f.1+f.2*f.2*q),q*(f.1*f.2+f.2*f.1))=1:=by
 obtain ⟨x,y⟩:=f
 simp only [] at hn hf ⊢
 have hx:=sq_pos hf
 have hy:=Rat.mul_nonneg (X8 y) (by grind:(0:Rat)<=q)
 have hX:0<q*(x*x+y*y*q):=Rat.mul_pos hq (by grind)
 have sX:=Qz.2 hX
 unfold BS
 simp only []
 rw [sX]
 by_cases h1:aZ (q*(x*y+y*x))=0∨1=aZ (q*(x*y+y*x))
 . rw [if_pos h1]
 rw [if_neg h1,if_neg (by decide)]
 have PV:y≠0:=fun e=>h1 (.inl (yp.2 (by rw [e];grind)))
 have hne:x*x + -(y*y*q)≠0:=fun e=>by
   rcases hn with hn | hn
   . exact hn (x/y) (by grind)
   . exact PV hn
 have e:q*(x*x+y*y*q)*(q*(x*x+y*y*q)) + -(q*(q*(x*y+y*x)*(q*(x*y+y*x))))=(q*(x*x + -(y*y*q)))*(q*(x*x + -(y*y*q))):=by grind
 rw [e]
 have YP:q≠0:=by grind
 rw [Qz.2 (sq_pos (by
   intro h
   rcases Rat.mul_eq_zero.1 h with h | h
   . exact YP h
   . exact hne h))]
 rfl
def QA (q:Rat) (u v:Q2):Q2:=((eG q u u).1+(eG q v v).1,(eG q u u).2+(eG q v v).2)
def wY (u:Q2) (x:Rat):Q2:=(u.1 + -x,u.2+0)
theorem X9 {q:Rat} {c u f:Q2} (h:nV u u=q):QA q (wY (Bz q c.1 u.1 f) c.1) (wY (Bz q c.2 u.2 f) c.2)=(q*(f.1*f.1+f.2*f.2*q),q*(f.1*f.2+f.2*f.1)):=by
 unfold QA wY Bz
 simp only [Qy]
 unfold eG
 unfold nV at h
 refine Prod.ext ?_ ?_<;>simp only []<;>grind
theorem O2 {q x y a:Rat} {f:Q2}:((Bz q x a f).1 + -(Bz q y a f).1,(Bz q x a f).2 + -(Bz q y a f).2)=(x-y,(0:Rat)):=by
 unfold Bz
 refine Prod.ext ?_ ?_<;>simp only []<;>grind
theorem o8.anr {q:Rat} {b:Bool} {l:Q2} (h:o8 q b l):0<q:=yo.1 h.pos
theorem aaZ {q:Rat} {b:Bool} {l:Q2} {cw:Bool} {d:Rat} (h:o8 q b l) (hs : ¬ BS q (qe l cw d)<=0):(BU q l cw d).1≠0/\((∀ r:Rat,r*r≠q)∨(BU q l cw d).2=0):=by
 have h0:=h.q0
 rcases h.cs with ⟨rfl,rfl,hn⟩ | ⟨rfl,h2,h3,h4⟩
 . refine ⟨?_, .inl hn⟩
   rcases h.iv.2 with ⟨_,_,e⟩ | ⟨e,_⟩
   . unfold BU qe
     rw [e]
     unfold eG
     simp only []
     generalize (if cw=true then d else -d)=t
     grind
   . cases e
 . refine ⟨?_, .inr (h.fF (fun e=>by show l.2+0=0;rw [h2,Rat.add_zero]) rfl)⟩
   rcases h.iv.2 with ⟨e,_⟩ | ⟨_,_,hr,_,e⟩
   . cases e
   . unfold BU
     rw [e]
     have jT:(qe l cw d).1≠0:=fun e1=>hs (by
       have:qe l cw d=(0,0):=Prod.ext e1 (by show l.2+0=0;rw [h2,Rat.add_zero])
       rw [this,IU];decide)
     have e2:(qe l cw d).2=0:=by show l.2+0=0;rw [h2,Rat.add_zero]
     unfold eG
     simp only []
     rw [e2]
     intro e3
     have:(qe l cw d).1*(1/l.1)=0:=by grind
     rcases Rat.mul_eq_zero.1 this with h | h
     . exact jT h
     . grind
theorem aa0 {r:Rat} {k:Nat} (h:Sm k (r*r)):Sm k r:=by
 obtain ⟨e1,e2⟩:=IL r
 obtain ⟨h1,h2⟩:=h
 rw [e1,Int.natAbs_mul] at h1
 rw [e2] at h2
 exact ⟨Nat.le_trans (bg (Nat.le_mul_self _)) h1,Nat.le_trans (bg (Nat.le_mul_self _)) h2⟩
theorem Ya {q:Rat} (hq:0<q) (hs:Sm 200 q):∃ b l,o8 q b l:=by
 by_cases h:∃ r:Rat,r*r=q
 . obtain ⟨r,hr⟩:=h
   have hr0:r≠0:=fun e=>by rw [e] at hr;grind
   have UQ:=aa0 (hr▸hs:Sm 200 (r*r))
   rcases (by grind:r<0∨0<r) with h | h
   . exact ⟨false,(-r,0),yo.2 hq,hs,⟨UQ.neg,Sm.zero.mono (by omega)⟩, .inr ⟨rfl,rfl,by simp only [];grind,yo.2 (by simp only [];grind)⟩⟩
   . exact ⟨false,(r,0),yo.2 hq,hs,⟨UQ,Sm.zero.mono (by omega)⟩, .inr ⟨rfl,rfl,hr,yo.2 h⟩⟩
 . exact ⟨true,(0,1),yo.2 hq,hs,⟨Sm.zero.mono (by omega),Qw.mono (by omega)⟩, .inl ⟨rfl,rfl,fun r hr=>h ⟨r,hr⟩⟩⟩
end Go.Proofs.YtndoagbiakehnaaGreat
end

section
set_option linter.unusedVariables false
namespace Go.VL
section
variable {P:Program} {G:Nat->Option (List AV)} {π : Id} {c:bY} {α : Type}
def Rnd (P:Program) (G:Nat->Option (List AV)) (π : Id) (c:bY) (e:bM) (w:Nat) (t:List AV) (S:List (Id × dc)) (t':List AV) (S':List (Id × dc)):Prop :=
 ∀ (n:Nat) (Q:bM->VS->Prop),(∀ s,Wk G π s ⟨t',ae.of S',n+w⟩->Q e s)->VW P G π c Q ⟨t,ae.of S,n⟩
theorem VW.through (l:List α) (T:Nat->List AV) (S:List (Id × dc)) (w n0 N j:Nat) (t1:List AV) (hN:n0+w*l.length+w<=N)
   (h:∀ i x,l[i]? = some x->i<l.length->Rnd P G π c .normal w (T i) S (T (i+1)) S) (he:Rnd P G π c (.exit j) w (T l.length) S t1 []) :
   VW P G π (.loop c) (fun e' s=>e' = .exit j/\Wk G π s ⟨t1,cz.to (FU []),N⟩) ⟨T 0,ae.of S,n0⟩:=by
 refine VW.yJ (α := Nat) (fun i=>⟨T i,ae.of S,n0+w*i⟩) (fun i=>i<=l.length) (fun i=>l.length-i) 0 (by rw [Nat.mul_zero];exact Wk.refl _ _ _) (Nat.zero_le _) ?_
 intro i hi
 by_cases hlt:i<l.length
 . refine h i l[i] (by simp [hlt]) hlt _ _ fun s hw=>⟨i+1,hlt,by simp only [];omega, ?_⟩
   have e:n0+w*i+w=n0+w*(i+1):=by rw [Nat.mul_add,Nat.mul_one];omega
   simp only [];rw [<- e];exact hw
 . obtain rfl:i=l.length:=by omega
   refine he _ _ fun s hw=>⟨rfl, ?_⟩
   exact Wk.toT (by simp) (hw.trans (Wk.forget (Fg.same _) (fun j => .inr rfl) hN))
theorem VW.aa1 (l:List α) (p : α -> Bool) (hp:l.any p=true) (T:Nat->List AV) (S:List (Id × dc)) (w n0 N:Nat) (t1:List AV) (hN:n0+w*l.length+w<=N)
   (h:∀ i x,l[i]? = some x->i<l.length->p x=false->Rnd P G π c .normal w (T i) S (T (i+1)) S)
   (he:∀ i x,l[i]? = some x->i<l.length->p x=true->tC l p i->Rnd P G π c .ret w (T i) S t1 []) :
   VW P G π (.loop c) (fun e' s=>e' = .ret/\Wk G π s ⟨t1,cz.to (FU []),N⟩) ⟨T 0,ae.of S,n0⟩:=by
 refine VW.yJ (α := Nat) (fun i=>⟨T i,ae.of S,n0+w*i⟩) (fun i=>i<=l.length/\tC l p i) (fun i=>l.length-i) 0 (by rw [Nat.mul_zero];exact Wk.refl _ _ _) ⟨Nat.zero_le _,fun j e hj=>absurd hj (Nat.not_lt_zero j)⟩ ?_
 rintro i ⟨hi,hn⟩
 by_cases hlt:i<l.length
 . have hx:l[i]? = some l[i]:=by simp [hlt]
   cases hb:p l[i]
   . refine h i l[i] hx hlt hb _ _ fun s hw=>⟨i+1,⟨hlt,hn.succ hx hb⟩,by simp only [];omega, ?_⟩
     have e:n0+w*i+w=n0+w*(i+1):=by rw [Nat.mul_add,Nat.mul_one];omega
     simp only [];rw [<- e];exact hw
   . refine he i l[i] hx hlt hb hn _ _ fun s hw=>⟨rfl, ?_⟩
     have:=Nat.mul_le_mul_left w (Nat.le_of_lt hlt)
     exact Wk.toT (by simp) (hw.trans (Wk.forget (Fg.same _) (fun j => .inr rfl) (by omega)))
 . obtain rfl:i=l.length:=by omega
   rw [hn.any (Nat.le_refl _)] at hp;cases hp
theorem VW.O3 (l:List α) (T:Nat->List AV) (S:Nat->List (Id × dc)) (w n0 N j:Nat) (t1:List AV) (S1:List (Id × dc)) (hd:(S1.map (·.1)).Nodup)
   (h:∀ i x,l[i]? = some x->i<l.length->∀ Q:bM->VS->Prop,(∀ s,Wk G π s ⟨T (i+1),ae.of (S (i+1)),n0+w*i+w⟩->Q .normal s)->VW P G π c Q ⟨T i,ae.of (S i),n0+w*i⟩)
   (he:∀ Q:bM->VS->Prop,(∀ s,Wk G π s ⟨t1,ae.of S1,N⟩->Q (.exit j) s)->VW P G π c Q ⟨T l.length,ae.of (S l.length),n0+w*l.length⟩) :
   VW P G π (.loop c) (fun e' s=>e' = .exit j/\Wk G π s ⟨t1,cz.to (FU S1),N⟩) ⟨T 0,ae.of (S 0),n0⟩:=by
 refine VW.yJ (α := Nat) (fun i=>⟨T i,ae.of (S i),n0+w*i⟩) (fun i=>i<=l.length) (fun i=>l.length-i) 0 (by rw [Nat.mul_zero];exact Wk.refl _ _ _) (Nat.zero_le _) ?_
 intro i hi
 by_cases hlt:i<l.length
 . refine h i l[i] (by simp [hlt]) hlt _ fun s hw=>⟨i+1,hlt,by simp only [];omega, ?_⟩
   have e:n0+w*i+w=n0+w*(i+1):=by rw [Nat.mul_add,Nat.mul_one];omega
   simp only [];rw [<- e];exact hw
 . obtain rfl:i=l.length:=by omega
   exact he _ fun s hw=>⟨rfl,Wk.toT hd hw⟩
theorem VW.acZ (l:List α) (p : α -> Bool) (hp:l.any p=true) (T:Nat->List AV) (S:Nat->List (Id × dc)) (w n0 N:Nat) (t1:List AV) (hN:n0+w*l.length+w<=N)
   (h:∀ i x,l[i]? = some x->i<l.length->p x=false->∀ Q:bM->VS->Prop,(∀ s,Wk G π s ⟨T (i+1),ae.of (S (i+1)),n0+w*i+w⟩->Q .normal s)->VW P G π c Q ⟨T i,ae.of (S i),n0+w*i⟩)
   (he:∀ i x,l[i]? = some x->i<l.length->p x=true->∀ Q:bM->VS->Prop,(∀ s,Wk G π s ⟨t1,ae.of [],n0+w*i+w⟩->Q .ret s)->VW P G π c Q ⟨T i,ae.of (S i),n0+w*i⟩) :
   VW P G π (.loop c) (fun e' s=>e' = .ret/\Wk G π s ⟨t1,cz.to (FU []),N⟩) ⟨T 0,ae.of (S 0),n0⟩:=by
 refine VW.yJ (α := Nat) (fun i=>⟨T i,ae.of (S i),n0+w*i⟩) (fun i=>i<=l.length/\tC l p i) (fun i=>l.length-i) 0 (by rw [Nat.mul_zero];exact Wk.refl _ _ _) ⟨Nat.zero_le _,fun j e hj=>absurd hj (Nat.not_lt_zero j)⟩ ?_
 rintro i ⟨hi,hn⟩
 by_cases hlt:i<l.length
 . have hx:l[i]? = some l[i]:=by simp [hlt]
   cases hb:p l[i]
   . refine h i l[i] hx hlt hb _ fun s hw=>⟨i+1,⟨hlt,hn.succ hx hb⟩,by simp only [];omega, ?_⟩
     have e:n0+w*i+w=n0+w*(i+1):=by rw [Nat.mul_add,Nat.mul_one];omega
     simp only [];rw [<- e];exact hw
   . refine he i l[i] hx hlt hb _ fun s hw=>⟨rfl, ?_⟩
     have:=Nat.mul_le_mul_left w (Nat.le_of_lt hlt)
     exact Wk.toT (by simp) (hw.trans (Wk.forget (Fg.same _) (fun j => .inr rfl) (by omega)))
 . obtain rfl:i=l.length:=by omega
   rw [hn.any (Nat.le_refl _)] at hp;cases hp
end
end Go.VL
end

section
set_option maxRecDepth 100000
namespace Go.Proofs.YtndoagbiakehnaaGreat
open Go.VL Go.Proofs Go.Lib
structure NY where
 name:List UInt8
 wU:Bool
 q:Rat
 b:Bool
 a1:Q2
 a2:Q2
 b1:Q2
 b2:Q2
 c:Q2
 cw:Bool
def NY.cv (x:NY):AV:=cvQ x.q x.b x.wU x.a1 x.a2 x.b1 x.b2 x.c x.cw
def NY.av (x:NY):AV := .agg [.str x.name, .bool x.wU,Rq x.q x.b,Cq x.b x.a1,Rq x.q x.b,Cq x.b x.a2,Rq x.q x.b,Cq x.b x.b1,Rq x.q x.b,Cq x.b x.b2, .nils,EV x.c.1, .nils,EV x.c.2, .bool x.cw]
instance {x:NY}:PU x.cv:=by unfold NY.cv;infer_instance
instance {x:NY}:PU x.av:=by unfold NY.av;infer_instance
abbrev ou (l:List NY):AV := .sl 15 (l.map NY.av)
theorem O4 (x:NY):∀ c∈x.av.cells,ab c:=(Cm.cells (c:=x.av) inferInstance (by
 intro d hd
 simp only [NY.av,AV.cells,List.mem_cons,List.not_mem_nil,or_false] at hd
 rcases hd with rfl | rfl | rfl | rfl | rfl | rfl | rfl | rfl | rfl | rfl | rfl | rfl | rfl | rfl | rfl<;>exact PU.pure)).pure
theorem Be (x:NY):(x.av.cells.all AV.one=true)=True:=by
 obtain ⟨nm,wU,q,b,a1,a2,b1,b2,c,cw⟩:=x
 cases b<;>exact eq_true rfl
theorem Yb (l:List NY):∀ c∈flat (l.map NY.av),ab c:=by
 intro c hc
 simp only [flat,List.mem_flatMap,List.mem_map] at hc
 obtain ⟨_,⟨x,_,rfl⟩,hc⟩:=hc
 exact O4 x c hc
instance {l:List NY}:PU (ou l):=PU.rows (fun x=>inferInstance) O4 l
theorem BA {ρ : VL.Id->VL.Id} {l:List NY}:bQ ρ (l.map NY.av)=l.map NY.av:=(Cm.map (fun x=>inferInstance) l).fix ρ
theorem qW {l:List NY} {i:Nat} {x:NY} (h:l[i]? = some x):bK 15 (ou l) (.int .i64 (i:Int))=some (.ep x.av.cells 0):=fG rfl (by rw [List.getElem?_map,h];rfl)
def NX.toY (x:NX):NY:=⟨x.name,x.c.wU,0,false,(x.c.a.1,0),(x.c.a.2,0),(x.c.b.1,0),(x.c.b.2,0),x.c.c,x.c.cw⟩
theorem Mc (l:List NX):ou (l.map NX.toY)=vG l:=by
 show AV.sl 15 ((l.map NX.toY).map NY.av)=AV.sl 15 (l.map NX.av)
 rw [List.map_map];rfl
def qp (l:List NY) (nm:List UInt8):Int:=CJ (l.findIdx? fun x=>x.name==nm)
def wZ (l more:List NY):Int :=
 if 200<l.length+more.length then 3 else if (more.any fun x=>decide (200<x.name.length))=true then 3 else if (more.any fun x=>decide (0<=qp l x.name))=true then 5 else 0
theorem QB {l:List NY} {nm:List UInt8} {i:Nat} {x:NY} (hx:l[i]? = some x) (hp:(x.name==nm)=true) (hn:tC l (fun x=>x.name==nm) i):qp l nm=(i:Int):=by
 unfold qp;rw [r6 hx hp hn];rfl
theorem O5 {l:List NY} {p:NY->Bool} (h:l.any p=false):CJ (l.findIdx? p) = -1:=by
 rw [yc (fun j x hj=>by
   rw [List.any_eq_false] at h
   simpa using h x (List.mem_of_getElem? hj))];rfl
theorem afi {l:List NY} {p:NY->Bool}:decide (CJ (l.findIdx? p)≥0)=l.any p:=by
 rw [<- List.findIdx?_isSome]
 cases l.findIdx? p<;>simp [CJ]
theorem tE {l:List NY} {i:Nat} (h:i<l.length):decide ((i:Int)<((l.map NY.av).length:Int))=true:=aw (by simpa using h)
theorem BB {l:List NY}:decide ((l.length:Int)<((l.map NY.av).length:Int))=false:=ak (by simp)
abbrev QC:bY:=(.seq (cS [oM 6 5,oM 7 0,oN 8 7,oT 9 .lss 6 8] (.cond (.t 9) .skip (.exit 0))) (.seq (.block 1 (cS [oM 12 0,oM 13 5,oA 14 15 12 13,oF 15 0 14,oL 16 1 15,oM 17 1,⟨some 18,.bin .eql .str (.t 16) (.t 17),none⟩] (.cond (.t 18) (cS [oM 19 5,oM 4 19] .ret) .skip))) (cR [oM 10 5,bd 11 .add 10 1,oM 5 11])))
def SU (l:List NY) (nm:List UInt8) (r i:AV):List AV:=[ou l, .str nm, .top, .top,r,i]++List.replicate 14 .top
theorem GG {ρ : VL.Id->VL.Id} {l:List NY} {nm:List UInt8} {r i:AV} [PU r] [PU i]:bQ ρ (SU l nm r i)=SU l nm r i:=by
 unfold SU
 simp only [cL,bA,cd,eZ,PU.fixed,kV]
abbrev QD:bY:=(cS [oT 9 .lss 8 7] (.seq (.cond (.t 9) .skip (.exit 0)) (.seq (.block 1 (cS [oM 10 8,oM 5 10] (cS [oM 11 1,oM 12 0,oM 13 5,oA 14 15 12 13,aF 15 15 14,⟨some 16,.call (.t 11) [.t 15],none⟩] (.cond (.t 16) (cS [oM 17 5,oM 4 17] .ret) .skip)))) (cR [bd 18 .add 8 1,oM 8 18]))))
def Yc (l:List NY) (f:FuncId) (c:List AV) (r:AV) (i:Nat):List AV:=[ou l, .fn (.func f) [] c, .top, .top,r, .top, .top, .int .i64 ((l.map NY.av).length:Nat), .int .i64 (i:Int)]++List.replicate 10 .top
theorem GH {ρ : VL.Id->VL.Id} {l:List NY} {f:FuncId} {c:List AV} {r:AV} {i:Nat} [Cm c] [PU r]:bQ ρ (Yc l f c r i)=Yc l f c r i:=by
 unfold Yc
 simp only [cL,bA,cd,eZ,PU.fixed,kV]
def ixE (r:AV):List AV:=[.top, .top, .top, .top,r]++List.replicate 14 .top
theorem aa2 {ρ : VL.Id->VL.Id} {r:AV} [PU r]:bQ ρ (ixE r)=ixE r:=by
 unfold ixE
 simp only [cL,bA,cd,eZ,PU.fixed,kV]
section
variable (G:Nat->Option (List AV))
theorem Yd (l:List NY) (nm:List UInt8) (hl:l.length<=1000):VP Tryz.prog G 12 [ou l, .str nm] (.int .i64 (qp l nm)):=by
 have step:∀ i x,l[i]? = some x->i<l.length->(x.name==nm)=false->Rnd Tryz.prog G [] QC .normal 40 (SU l nm (.int .i64 0) (.int .i64 (i:Int))) [] (SU l nm (.int .i64 0) (.int .i64 ((i+1:Nat):Int))) []:=fun i x hx hlt hp n Q hq =>
   VW.tr (π := []) (n:=n) (fun _=>[]) [hb 9 (tE hlt),ho 14 (qW hx),hb 18 hp,hw 11 (aD i (by omega))] (SU l nm (.int .i64 0) (.int .i64 (i:Int))) [] .normal (SU l nm (.int .i64 0) (.int .i64 ((i+1:Nat):Int))) [] 40 (by kernel_rfl) GG rfl GG rfl (by simp) hq
 cases ha:l.any fun x=>x.name==nm
 . have Jt:=VW.through (P:=Tryz.prog) (G:=G) (π := []) (c:=QC) l (fun i=>SU l nm (.int .i64 0) (.int .i64 (i:Int))) [] 40 1000 1000000 0 (List.replicate 20 .top) (by omega) (fun i x hx hlt=>step i x hx hlt (by rw [List.any_eq_false] at ha;simpa using ha x (List.mem_of_getElem? hx)))
     (fun n Q hq=>VW.tr (π := []) (n:=n) (fun _=>[]) [hb 9 (BB (l:=l))] (SU l nm (.int .i64 0) (.int .i64 (l.length:Int))) [] (.exit 0) (List.replicate 20 .top) [] 40 (by kernel_rfl) GG rfl eZ rfl (by simp) hq)
   rw [show qp l nm = -1 from O5 ha]
   exact VP.tr oJ [.lp [] _ _ _ _ _ _ _ _ Jt] (by kernel_rfl)
 . have Jt:=VW.aa1 (P:=Tryz.prog) (G:=G) (π := []) (c:=QC) l (fun x=>x.name==nm) ha (fun i=>SU l nm (.int .i64 0) (.int .i64 (i:Int))) [] 40 1000 1000000 (SU l nm (.int .i64 (qp l nm)) .top) (by omega) step
     (fun i x hx hlt hp hn n Q hq=>VW.tr (π := []) (n:=n) (fun _=>[]) [hb 9 (tE hlt),ho 14 (qW hx),hb 18 hp,hw 4 (QB hx hp hn).symm] (SU l nm (.int .i64 0) (.int .i64 (i:Int))) [] .ret (SU l nm (.int .i64 (qp l nm)) .top) [] 40 (by kernel_rfl) GG rfl (by unfold SU;simp only [cL,bA,cd,eZ,PU.fixed,kV]) rfl (by simp) hq)
   exact VP.tr oJ [.lp [] _ _ _ _ _ _ _ _ Jt] (by kernel_rfl)
theorem ajm (l:List NY) (f:FuncId) (c:List AV) [Cm c] (p:NY->Bool) (hl:l.length<=1000) (hf:∀ x∈l,VP Tryz.prog G f (x.av::c) (.bool (p x))):VP Tryz.prog G 91 [ou l, .fn (.func f) [] c] (.int .i64 (CJ (l.findIdx? p))):=by
 have step:∀ i x,l[i]? = some x->i<l.length->p x=false->Rnd Tryz.prog G [] QD .normal 40 (Yc l f c (.int .i64 0) i) [] (Yc l f c (.int .i64 0) (i+1)) []:=fun i x hx hlt hp n Q hq=>by
   have hv:=hf x (List.mem_of_getElem? hx)
   rw [hp] at hv
   exact VW.tr (π := []) (n:=n) (fun _=>[]) [hb 9 (tE hlt),ho 14 (qW hx),hc hv,hw 18 (aD i (by omega))] (Yc l f c (.int .i64 0) i) [] .normal (Yc l f c (.int .i64 0) (i+1)) [] 40 (by kernel_rfl) GH rfl GH rfl (by simp) hq
 cases ha:l.any p
 . have Jt:=VW.through (P:=Tryz.prog) (G:=G) (π := []) (c:=QD) l (fun i=>Yc l f c (.int .i64 0) i) [] 40 1000 1000000 0 (ixE .top) (by omega) (fun i x hx hlt=>step i x hx hlt (by rw [List.any_eq_false] at ha;simpa using ha x (List.mem_of_getElem? hx)))
     (fun n Q hq=>VW.tr (π := []) (n:=n) (fun _=>[]) [hb 9 (BB (l:=l))] (Yc l f c (.int .i64 0) l.length) [] (.exit 0) (ixE .top) [] 40 (by kernel_rfl) GH rfl (by unfold ixE;simp only [cL,bA,cd,eZ,kV]) rfl (by simp) hq)
   rw [O5 ha]
   exact VP.tr aJ [.lp [] _ _ _ _ _ _ _ _ Jt] (by kernel_rfl)
 . have Jt:=VW.aa1 (P:=Tryz.prog) (G:=G) (π := []) (c:=QD) l p ha (fun i=>Yc l f c (.int .i64 0) i) [] 40 1000 1000000 (ixE (.int .i64 (CJ (l.findIdx? p)))) (by omega) step
     (fun i x hx hlt hp hn n Q hq=>by
       have hv:=hf x (List.mem_of_getElem? hx)
       rw [hp] at hv
       have e:(i:Int)=CJ (l.findIdx? p):=by rw [r6 hx hp hn];rfl
       exact VW.tr (π := []) (n:=n) (fun _=>[]) [hb 9 (tE hlt),ho 14 (qW hx),hc hv,hw 4 e] (Yc l f c (.int .i64 0) i) [] .ret (ixE (.int .i64 (CJ (l.findIdx? p)))) [] 40 (by kernel_rfl) GH rfl aa2 rfl (by simp) hq)
   exact VP.tr aJ [.lp [] _ _ _ _ _ _ _ _ Jt] (by kernel_rfl)
theorem ac1 (l:List NY) (f:FuncId) (c:List AV) [Cm c] (p:NY->Bool) (hl:l.length<=1000) (hf:∀ x∈l,VP Tryz.prog G f (x.av::c) (.bool (p x))):VP Tryz.prog G 162 [ou l, .fn (.func f) [] c] (.bool (l.any p)):=VP.tr bF [hc (ajm G l f c p hl hf),hb 8 (afi (l:=l) (p:=p))] (by kernel_rfl)
theorem afj (l:List NY) (nm:List UInt8) (hl:l.length<=1000):VP Tryz.prog G 35 [ou l, .str nm] (.int .i64 (qp l nm)):=by
 have h1:∀ x:NY,VP Tryz.prog G 92 [x.av, .ep [.str nm] 0] (.bool (x.name==nm)):=fun x=>by
   obtain ⟨nm',wU,q,b,a1,a2,b1,b2,c,cw⟩:=x
   cases b<;>exact VP.tr nz [] (by kernel_rfl)
 have h2:=ajm G l 92 [.ep [.str nm] 0] (fun x=>x.name==nm) hl fun x _=>h1 x
 have hv:az (ae.of [([0],(⟨[.str nm],1,false⟩:dc))]) [ou l, .fn (.func 92) [] [.ref [0] 0 0]] [ou l, .fn (.func 92) [] [.ep [.str nm] 0]]:=az.cons (View.pure PU.pure) (az.cons (View.fn az.nil (az.cons (View.ref (bk:=⟨[.str nm],1,false⟩) (by simp [ae.of]) rfl (az.pure (by simp [AV.cells,ab.str]))) az.nil)) az.nil)
 exact VP.tr pX [fR [([0],⟨[.str nm],1,false⟩)] h2 hv] (by kernel_rfl)
theorem ajn (l more:List NY) (hl:l.length<=1000) (hm:more.length<=1000):VP Tryz.prog G 93 [ou l,ou more] (.int .i64 (wZ l more)):=by
 have h1:∀ x:NY,VP Tryz.prog G 160 [x.av] (.bool (decide (200<x.name.length))):=fun x=>by
   have e:decide ((x.name.length:Int)>200)=decide (200<x.name.length):=by congr 1;exact propext (by omega)
   obtain ⟨nm',wU,q,b,a1,a2,b1,b2,c,cw⟩:=x
   cases b<;>exact VP.tr oo [hb 6 e] (by kernel_rfl)
 have h2:∀ x:NY,VP Tryz.prog G 161 [x.av, .ep [ou l] 0] (.bool (decide (0<=qp l x.name))):=fun x=>by
   have hi:=afj G l x.name hl
   obtain ⟨nm',wU,q,b,a1,a2,b1,b2,c,cw⟩:=x
   cases b<;>exact VP.tr oq [hc hi] (by kernel_rfl)
 have c1:=ac1 G more 160 [] (fun x=>decide (200<x.name.length)) hm fun x _=>h1 x
 have c2:=ac1 G more 161 [.ep [ou l] 0] (fun x=>decide (0<=qp l x.name)) hm fun x _=>h2 x
 have hv:az (ae.of [([0],(⟨[ou l],1,false⟩:dc))]) [ou more, .fn (.func 161) [] [.ref [0] 0 0]] [ou more, .fn (.func 161) [] [.ep [ou l] 0]]:=az.cons (View.pure PU.pure) (az.cons (View.fn az.nil (az.cons (View.ref (bk:=⟨[ou l],1,false⟩) (by simp [ae.of]) rfl (az.pure (by intro c hc;rcases List.mem_singleton.1 hc with rfl;exact PU.pure))) az.nil)) az.nil)
 have w13:IntKind.i64.wrap (((l.map NY.av).length:Int)+((more.map NY.av).length:Int))=((l.length+more.length:Nat):Int):=by rw [IntKind.wrap_i64,List.length_map,List.length_map];omega
 unfold wZ
 by_cases h0:200<l.length+more.length
 . rw [if_pos h0]
   exact VP.tr iM [hw 13 w13,hb 14 (aw (by omega):decide (((l.length+more.length:Nat):Int)>200)=true)] (by kernel_rfl)
 rw [if_neg h0]
 have d14:decide (((l.length+more.length:Nat):Int)>200)=false:=ak (by omega)
 cases yr:more.any fun x=>decide (200<x.name.length)<;>rw [yr] at c1
 . rw [if_neg (by decide)]
   cases zE:more.any fun x=>decide (0<=qp l x.name)<;>rw [zE] at c2
   . exact VP.tr iM [hw 13 w13,hb 14 d14,hc c1,fR [([0],⟨[ou l],1,false⟩)] c2 hv] (by kernel_rfl)
   . exact VP.tr iM [hw 13 w13,hb 14 d14,hc c1,fR [([0],⟨[ou l],1,false⟩)] c2 hv] (by kernel_rfl)
 . exact VP.tr iM [hw 13 w13,hb 14 d14,hc c1] (by kernel_rfl)
end
end Go.Proofs.YtndoagbiakehnaaGreat
end
