/- For the claim of FeatureOffset: parts CN4, CQ3, CQ4, CQ5, CQ6, CQ7, VL37, CQ8, CQ9, CQA, CQB, CQP, CQC, CQE, CQF, CQG, CQI, CQJ, CQK. -/
import Derived.Test.YtndoagbiakehnaaGreatC08
import Derived.Test.YtndoagbiakehnaaGreatC03
import Derived.Test.YtndoagbiakehnaaGreatC04
set_option linter.unusedSimpArgs false
set_option linter.unusedVariables false
section
set_option linter.unusedVariables false
set_option linter.unusedVariables false
namespace Go.VL
theorem Sn (a b:Rat):ab (.sl 2 [NV a,NV b]):=ab.sl (by intro c hc;simp [flat] at hc;rcases hc with h | h<;>exact kg _ c h)
theorem ael (a:Rat):part false (EV a).cells 0 1=some (EV a):=rfl
theorem aae {σ : ae} {id:Id} {a b:Rat} {f t:Bool} (h : σ id=some ⟨[NV a,NV b],2,f⟩):View σ (.osl id 2 0 2 t) (.sl 2 [NV a,NV b]):=Fm h rfl rfl (kg a) (kg b)
theorem aaf {σ : ae} {id:Id} {a:Rat} {f t:Bool} (h : σ id=some ⟨[EV a],1,f⟩):View σ (.osl id 1 0 1 t) (.sl 1 [EV a]):=rN h rfl (by intro c hc;simp [EV,AV.cells] at hc;subst hc;exact aW a)
section
variable {P:Program} {G:Nat->Option (List AV)}
theorem qd {f:FuncId} (h:Has P f da) {es:List AV} (hk:∀ e∈es,e.size=4) (h1:(es.all fun e=>e.cells.all AV.one)=true) (hp:∀ c∈flat es,ab c) (hl:es.length*64<=140737488355328):VP P G f [.sl 4 es] (.sl 4 es):=by
 refine VP.has h ?_
 have hb:∀ (σ : ae) (p:Id),bW σ p (.buildSl 4 0 (AV.agg [(.bool false), .nils,(.bool false), .nils]) [])=some { val := .tsl 4 [] }:=fun σ p=>bs0 rfl rfl
 cases es with
 | nil =>
   simp only [da,SS,Nat.reduceAdd]
   refine ⟨?_, ?_⟩
   . exact ai▸⟨.nils,rfl,View.nils 4⟩
   . simp only [SS,Nat.reduceAdd,hb,p6 gB]
     exact ai▸⟨_,rfl,View.Zn 4⟩
 | cons e es =>
   simp only [da,SS,Nat.reduceAdd,hb]
   rw [rp (es:=[]) gB (by simp) (by simpa using hl) (gC (by simp at hl ⊢;omega)) (by simpa using h1)]
   simp only [SS,Nat.reduceAdd]
   refine ai▸⟨_,rfl,View.osl (bk:=⟨e::es,4,false⟩) rfl rfl (by simp) ?_ (by simp) hk⟩
   simpa using az.pure hp
theorem Ub {f:FuncId} (h:Has P f da) (q:Rat):VP P G f [EV q] (EV q) :=
 qd h (by simp [Sd]) (by simpa using (of_eq_true (jd q))) (by intro c hc;simp [flat] at hc;exact qc q c hc) (by simp)
theorem Qa {f fj fo:FuncId} (h:Has P f (qD fj)) (a b c:Rat) (hj:VP P G fj [.sl 2 [NV a,NV b]] (.tup [.sl 2 [NV a,NV b], .int .i64 0])) (ho:VP P G fo [.nils,EV a,EV b] (EV c)) :
   VP P G f [NV a,NV b, .fn (.func fo) [] []] (.tup [NV c, .int .i64 0]):=by
 refine VP.has h ?_
 simp only [qD]
 repeat (first
   | simp (disch:=first | decide | exact rfl) only [SS,DD,Nat.reduceAdd,aq,aj,ZZ,aej,g0,g1,CV,tz,Od,Oe,ss,aek,al9,aK,Sj,ach]
   | with_reducible refine ah (by assumption) (by simp [cE,aW]) ?_
   | with_reducible refine ao (by assumption) (by simp [cE,aW]) ?_
   | with_reducible refine And.intro (a:=ag _ _) (by simp [ag,apart]) ?_
   | with_reducible refine VW.aS 3 (VW.of ?_)
   | with_reducible refine gy.next _ (VW.of ?_)
   | rw [au (by exact rfl) (by exact rfl) (by exact rfl) (by exact rfl) (by exact rfl)]
   | rw [gK (by exact rfl) (by exact rfl) (by exact rfl) (by exact rfl)]
   | rw [gO (by exact rfl) (by exact rfl) (by exact rfl) (by exact rfl) (by exact rfl) (by exact rfl)]
   | refine cA [([6],⟨[NV a,NV b],2,false⟩)] hj (az.cons (aae (by exact rfl)) az.nil) (by simp [ae.put]) ?_
   | fail)
 refine ai▸af (r := .tup [NV c, .int .i64 0]) ?_ (ab.tup (by simp [bH,ab.int]))
 simp only [RS,bn,bC,aj,tz]
theorem aag {f fc fo:FuncId} (h:Has P f (xt fc fo)) (a b c:Rat) (hc:VP P G fc [NV a,NV b, .fn (.func fo) [] []] (.tup [NV c, .int .i64 0])):VP P G f [NV a,NV b] (.tup [NV c, .int .i64 0]):=by
 refine VP.has h ?_
 simp only [xt]
 repeat (first
   | simp (disch:=first | decide | exact rfl) only [SS,Nat.reduceAdd,aq,aj,g0,g1,CV,tz,ss]
   | with_reducible refine ah (by assumption) (by simp [bH,lV]) ?_
   | with_reducible refine ao (by assumption) (by simp [bH,lV]) ?_
   | with_reducible refine And.intro (a:=ag _ _) (by simp [ag,apart]) ?_
   | with_reducible refine VW.aS 3 (VW.of ?_)
   | with_reducible refine gy.next _ (VW.of ?_)
   | rw [au (by exact rfl) (by exact rfl) (by exact rfl) (by exact rfl) (by exact rfl)]
   | rw [gK (by exact rfl) (by exact rfl) (by exact rfl) (by exact rfl)]
   | rw [gO (by exact rfl) (by exact rfl) (by exact rfl) (by exact rfl) (by exact rfl) (by exact rfl)]
   | fail)
 refine ai▸af (r := .tup [NV c, .int .i64 0]) ?_ (ab.tup (by simp [bH,ab.int]))
 simp only [RS,bn,bC,aj,tz]
theorem aah {f fd fn:FuncId} (h:Has P f (xu fd fn)) (a:Rat) (hd:VP P G fd [NV a] (NV a)) (hn:VP P G fn [.nils,EV a] (EV (-a))):VP P G f [NV a] (NV (-a)):=by
 refine VP.has h ?_
 simp only [xu]
 repeat (first
   | simp (disch:=first | decide | exact rfl) only [SS,Nat.reduceAdd,aq,aj,CV,tz,Od,Oe,ss]
   | with_reducible refine ah (by assumption) (by simp [cE,aW,bH]) ?_
   | with_reducible refine ao (by assumption) (by simp [cE,aW]) ?_
   | with_reducible refine And.intro (a:=ag _ _) (by simp [ag,apart]) ?_
   | with_reducible refine VW.aS 3 (VW.of ?_)
   | with_reducible refine gy.next _ (VW.of ?_)
   | rw [au (by exact rfl) (by exact rfl) (by exact rfl) (by exact rfl) (by exact rfl)]
   | rw [gK (by exact rfl) (by exact rfl) (by exact rfl) (by exact rfl)]
   | rw [gO (by exact rfl) (by exact rfl) (by exact rfl) (by exact rfl) (by exact rfl) (by exact rfl)]
   | rw [W4 (by exact rfl)]
   | fail)
 refine ai▸af (r:=NV (-a)) ?_ (bH _)
 simp only [RS,bn,bC,aj,tz]
theorem aai {f fi fm:FuncId} (h:Has P f (xv fi fm)) (a b c:Rat) (hi:VP P G fi [.nils,EV b] (.tup [EV (1/b), .int .i64 0])) (hm:VP P G fm [NV a,NV (1/b)] (.tup [NV c, .int .i64 0])):VP P G f [NV a,NV b] (.tup [NV c, .int .i64 0]):=by
 refine VP.has h ?_
 simp only [xv]
 repeat (first
   | simp (disch:=first | decide | exact rfl) only [SS,Nat.reduceAdd,aq,aj,ZZ,g0,g1,CV,tz,Od,Oe,ss,Sj,ach]
   | with_reducible refine ah (by assumption) (by simp [cE,aW,bH]) ?_
   | with_reducible refine ao (by assumption) (by simp [bH]) ?_
   | with_reducible refine And.intro (a:=ag _ _) (by simp [ag,apart]) ?_
   | with_reducible refine VW.aS 3 (VW.of ?_)
   | with_reducible refine gy.next _ (VW.of ?_)
   | rw [au (by exact rfl) (by exact rfl) (by exact rfl) (by exact rfl) (by exact rfl)]
   | rw [gK (by exact rfl) (by exact rfl) (by exact rfl) (by exact rfl)]
   | rw [gO (by exact rfl) (by exact rfl) (by exact rfl) (by exact rfl) (by exact rfl) (by exact rfl)]
   | fail)
 refine ai▸af (r := .tup [NV c, .int .i64 0]) ?_ (ab.tup (by simp [bH,ab.int]))
 simp only [RS,bn,bC,aj,tz]
theorem W7 {f fs:FuncId} (h:Has P f (uX fs)) (a:Rat) (hs:VP P G fs [.nils,EV a] (.int .i64 (aZ a))):VP P G f [NV a] (.int .i64 (aZ a)):=by
 refine VP.has h ?_
 simp only [uX]
 repeat (first
   | simp (disch:=first | decide | exact rfl) only [SS,Nat.reduceAdd,aj,CV,Od,Oe]
   | with_reducible refine ah (by assumption) (by simp [cE,aW]) ?_
   | with_reducible refine ao (by assumption) (by simp [cE,aW]) ?_
   | with_reducible refine And.intro (a:=ag _ _) (by simp [ag,apart]) ?_
   | with_reducible refine VW.aS 3 (VW.of ?_)
   | with_reducible refine gy.next _ (VW.of ?_)
   | rw [au (by exact rfl) (by exact rfl) (by exact rfl) (by exact rfl) (by exact rfl)]
   | rw [gK (by exact rfl) (by exact rfl) (by exact rfl) (by exact rfl)]
   | rw [gO (by exact rfl) (by exact rfl) (by exact rfl) (by exact rfl) (by exact rfl) (by exact rfl)]
   | fail)
 exact ai▸af rfl (ab.int _ _)
theorem Uc {f f1 f2 f3 f4 f5 f6 f7:FuncId} (h:Has P f (sN f1 f2 f3 f4 f5 f6 f7)) (a b:Rat) (h1:VP P G f1 [.nils, .nils] (.bool true)) (h2:VP P G f2 [EV a,EV b] (.bool (decide (a=b)))):VP P G f [NV a,NV b] (.bool (decide (a=b))):=by
 refine VP.has h ?_
 simp only [sN]
 repeat (first
   | simp (disch:=first | decide | exact rfl) only [SS,Nat.reduceAdd,aq,aj,CV,Od,Oe]
   | with_reducible refine ah (by assumption) (by simp [cE,aW]) ?_
   | with_reducible refine ao (by assumption) (by simp [aW]) ?_
   | with_reducible refine And.intro (a:=ag _ _) (by simp [ag,apart]) ?_
   | with_reducible refine VW.aS 3 (VW.of ?_)
   | with_reducible refine gy.next _ (VW.of ?_)
   | rw [au (by exact rfl) (by exact rfl) (by exact rfl) (by exact rfl) (by exact rfl)]
   | rw [gK (by exact rfl) (by exact rfl) (by exact rfl) (by exact rfl)]
   | rw [gO (by exact rfl) (by exact rfl) (by exact rfl) (by exact rfl) (by exact rfl) (by exact rfl)]
   | fail)
 exact ai▸af rfl (ab.bool _)
theorem Ud {f fi:FuncId} (h:Has P f (qZ fi)) (hi:VP P G fi [.int .i64 0] (QV 0)) (p:Id):aM P G f [.int .i64 1] p [] { val := .osl (2::p) 4 0 1 false,rd:=[],up:=[(2::p,some ⟨[QV 0],4,false⟩)] }:=by
 refine aM.has h ?_
 simp only [qZ]
 repeat (first
   | simp (disch:=first | decide | exact rfl) only [SS,Nat.reduceAdd,aY,ZZ,CC,LC,N9]
   | with_reducible refine ah (by assumption) (by simp [ab.int]) ?_
   | with_reducible refine ao (by assumption) (by simp [ab.int]) ?_
   | with_reducible refine And.intro (a:=ag _ _) (by simp [ag,apart]) ?_
   | with_reducible refine VW.aS 3 (VW.of ?_)
   | with_reducible refine gy.next _ (VW.of ?_)
   | rw [au (by exact rfl) (by exact rfl) (by exact rfl) (by exact rfl) (by exact rfl)]
   | rw [gK (by exact rfl) (by exact rfl) (by exact rfl) (by exact rfl)]
   | rw [gO (by exact rfl) (by exact rfl) (by exact rfl) (by exact rfl) (by exact rfl) (by exact rfl)]
   | rw [au gP (by exact rfl) (by exact rfl) (by exact rfl) (by exact rfl)]
   | fail)
 refine ke▸dQ (by simp [bn,bC]) fun i => ?_
 by_cases hi:i=2::p
 . right;subst hi;simp [ae.app,ae.put]
 . left;simp [ae.app,ae.put,hi,ae.of]
theorem Oi {f f1 f2 f3 fi:FuncId} (h:Has P f (rB f1 f2 f3)) (q:Rat) (h1:VP P G f1 [.nils] (.bool true)) (h2:VP P G f2 [QV q] (.bool true)) (h3:Has P f3 (qZ fi)) (hi:VP P G fi [.int .i64 0] (QV 0)):VP P G f [.nils,QV q] (EV q):=by
 refine VP.has h ?_
 simp only [rB]
 repeat (first
   | simp (disch:=first | decide | exact rfl) only [SS,Nat.reduceAdd,aq,aj,jd,eY,ahS,N9]
   | with_reducible refine ah (by assumption) (by simp [aR,ab.int,cE]) ?_
   | with_reducible refine ao (by assumption) (by simp [ab.int]) ?_
   | with_reducible refine And.intro (a:=ag _ _) (by simp [ag,apart]) ?_
   | with_reducible refine VW.aS 3 (VW.of ?_)
   | with_reducible refine gy.next _ (VW.of ?_)
   | rw [au (by exact rfl) (by exact rfl) (by exact rfl) (by exact rfl) (by exact rfl)]
   | rw [gK (by exact rfl) (by exact rfl) (by exact rfl) (by exact rfl)]
   | rw [gO (by exact rfl) (by exact rfl) (by exact rfl) (by exact rfl) (by exact rfl) (by exact rfl)]
   | refine ⟨_,_,Ud h3 hi _,by simp,by simp, ?_⟩
   | fail)
 refine ai▸⟨_,rfl,CU (by exact rfl)⟩
theorem aaj {f ff fr:FuncId} (h:Has P f (z8 ff fr)) (a:Rat) (hf:VP P G ff [.nils,EV a] (.bool true)) (hr:VP P G fr [.nils] (.bool true)):VP P G f [.nils, .sl 1 [EV a]] (.bool true):=by
 refine VP.has h ?_
 simp only [z8]
 repeat (first
   | simp (disch:=first | decide | exact rfl) only [SS,Nat.reduceAdd,aY,ZZ,CC,aek,aK,ael]
   | with_reducible refine ah (by assumption) (by simp [cE,aW]) ?_
   | with_reducible refine ao (by assumption) (by simp [cE]) ?_
   | with_reducible refine And.intro (a:=ag _ _) (by simp [ag,apart]) ?_
   | with_reducible refine VW.aS 3 (VW.of ?_)
   | with_reducible refine gy.next _ (VW.of ?_)
   | rw [au (by exact rfl) (by exact rfl) (by exact rfl) (by exact rfl) (by exact rfl)]
   | rw [gK (by exact rfl) (by exact rfl) (by exact rfl) (by exact rfl)]
   | rw [gO (by exact rfl) (by exact rfl) (by exact rfl) (by exact rfl) (by exact rfl) (by exact rfl)]
   | fail)
 exact ai▸af rfl (ab.bool _)
theorem aak {f f1 f2 f3 f4:FuncId} (h:Has P f (z9 f1 f2 f3 f4)) (h1:VP P G f1 [.int .i64 0] (QV 0)) (h2:VP P G f2 [.nils,QV 0] (EV 0)) (h3:VP P G f3 [.nils,EV 0] (.bool true)):VP P G f [.nils] (.bool true):=by
 refine VP.has h ?_
 simp only [z9]
 repeat (first
   | simp (disch:=first | decide | exact rfl) only [SS,Nat.reduceAdd,aY,ZZ]
   | with_reducible refine ah (by assumption) (by simp [aR,ab.int,cE,aW]) ?_
   | with_reducible refine ao (by assumption) (by simp [cE,aW]) ?_
   | with_reducible refine And.intro (a:=ag _ _) (by simp [ag,apart]) ?_
   | with_reducible refine VW.aS 3 (VW.of ?_)
   | with_reducible refine gy.next _ (VW.of ?_)
   | rw [au (by exact rfl) (by exact rfl) (by exact rfl) (by exact rfl) (by exact rfl)]
   | rw [gK (by exact rfl) (by exact rfl) (by exact rfl) (by exact rfl)]
   | rw [gO (by exact rfl) (by exact rfl) (by exact rfl) (by exact rfl) (by exact rfl) (by exact rfl)]
   | fail)
 exact ai▸af rfl (ab.bool _)
theorem W8 {f f1 f3 f4:FuncId} (h:Has P f (xw f1 f f3 f4)) (a:Rat) (h1:VP P G f1 [QV a] (.int .i64 (aZ a))):VP P G f [.nils,EV a] (.int .i64 (aZ a)):=by
 refine VP.has h ?_
 simp only [xw]
 repeat (first
   | simp (disch:=first | decide | exact rfl) only [SS,Nat.reduceAdd,decide_true,FN,aK,eY]
   | with_reducible refine ah (by assumption) (by simp [aR]) ?_
   | with_reducible refine ao (by assumption) (by simp [aR]) ?_
   | with_reducible refine And.intro (a:=ag _ _) (by simp [ag,apart]) ?_
   | with_reducible refine VW.aS 3 (VW.of ?_)
   | with_reducible refine gy.next _ (VW.of ?_)
   | rw [au (by exact rfl) (by exact rfl) (by exact rfl) (by exact rfl) (by exact rfl)]
   | rw [gK (by exact rfl) (by exact rfl) (by exact rfl) (by exact rfl)]
   | rw [gO (by exact rfl) (by exact rfl) (by exact rfl) (by exact rfl) (by exact rfl) (by exact rfl)]
   | fail)
 exact ai▸af rfl (ab.int _ _)
theorem W9 {f fg fv:FuncId} (h:Has P f (Aa fg fv)) (a:Rat) (hg:VP P G fg [.nils, .sl 1 [EV a]] (.bool true)) (hv:VP P G fv [.nils,EV a] (.int .i64 (aZ a))):VP P G f [.nils,EV a] (.int .i64 (aZ a)):=by
 refine VP.has h ?_
 simp only [Aa]
 repeat (first
   | simp (disch:=first | decide | exact rfl) only [SS,Nat.reduceAdd,aej]
   | with_reducible refine ah (by assumption) (by simp [cE,aW]) ?_
   | with_reducible refine ao (by assumption) (by simp [cE,aW]) ?_
   | with_reducible refine And.intro (a:=ag _ _) (by simp [ag,apart]) ?_
   | with_reducible refine VW.aS 3 (VW.of ?_)
   | with_reducible refine gy.next _ (VW.of ?_)
   | rw [au (by exact rfl) (by exact rfl) (by exact rfl) (by exact rfl) (by exact rfl)]
   | rw [gK (by exact rfl) (by exact rfl) (by exact rfl) (by exact rfl)]
   | rw [gO (by exact rfl) (by exact rfl) (by exact rfl) (by exact rfl) (by exact rfl) (by exact rfl)]
   | refine cA [([3],⟨[EV a],1,false⟩)] hg (az.cons (View.pure cE) (az.cons (aaf (by exact rfl)) az.nil)) (by simp [ae.put]) ?_
   | fail)
 exact ai▸af rfl (ab.int _ _)
end
end Go.VL
end

section
set_option linter.unusedVariables false
set_option linter.unusedVariables false
namespace Go.VL
section
variable {P:Program} {G:Nat->Option (List AV)}
theorem Xa {f f1 f2 f3 f4 f5 f6 f7:FuncId} (h:Has P f (my f1 f2 f f3 f4 f5 f6 f7)) (a:Rat) (ha:a≠0) (hi:VP P G f1 [QV a] (QV a⁻¹)):VP P G f [.nils,EV a] (.tup [EV a⁻¹, .int .i64 0]):=by
 have z1:=Kp a
 rw [ak ha] at z1
 refine VP.has h ?_
 simp only [my]
 repeat (first
   | simp (disch:=first | decide | exact rfl) only [SS,Nat.reduceAdd,decide_true,FN,aK,eY,D4,bb,z1]
   | with_reducible refine ah (by assumption) (by simp [aR]) ?_
   | with_reducible refine ao (by assumption) (by simp [aR]) ?_
   | with_reducible refine And.intro (a:=ag _ _) (by simp [ag,apart]) ?_
   | with_reducible refine VW.aS 3 (VW.of ?_)
   | with_reducible refine gy.next _ (VW.of ?_)
   | rw [au (by exact rfl) (by exact rfl) (by exact rfl) (by exact rfl) (by exact rfl)]
   | rw [gK (by exact rfl) (by exact rfl) (by exact rfl) (by exact rfl)]
   | rw [gO (by exact rfl) (by exact rfl) (by exact rfl) (by exact rfl) (by exact rfl) (by exact rfl)]
   | fail)
 refine ai▸⟨_,rfl,View.tup (.cons (CU (by exact rfl)) (.cons (View.pure (ab.int _ _)) .nil))⟩
theorem LG {f f1 f2 f3:FuncId} (h:Has P f (jB f1 f2 f3)):VP P G f [.nils] (.bool true):=by
 refine VP.has h ?_
 simp only [jB]
 repeat (first
   | simp (disch:=first | decide | exact rfl) only [SS,Nat.reduceAdd,aY,ZZ]
   | with_reducible refine ah (by assumption) (by simp [aA,aC,aR,ab.int,ab.bool,ab.str,cE,aW,bH,Sn]) ?_
   | with_reducible refine ao (by assumption) (by simp [aA,aC,aR,ab.int,ab.bool,ab.str,cE,aW,bH,Sn]) ?_
   | with_reducible refine And.intro (a:=ag _ _) (by simp [ag,apart]) ?_
   | with_reducible refine VW.aS 3 (VW.of ?_)
   | with_reducible refine gy.next _ (VW.of ?_)
   | rw [au (by exact rfl) (by exact rfl) (by exact rfl) (by exact rfl) (by exact rfl)]
   | rw [gK (by exact rfl) (by exact rfl) (by exact rfl) (by exact rfl)]
   | rw [gO (by exact rfl) (by exact rfl) (by exact rfl) (by exact rfl) (by exact rfl) (by exact rfl)]
   | fail)
 exact ai▸af rfl (ab.bool _)
end
end Go.VL
end

section
set_option linter.unusedVariables false
set_option linter.unusedVariables false
namespace Go.VL
abbrev Q2:=Rat × Rat
def V2 (v:Q2):AV := .agg [.nils,EV v.1, .nils,EV v.2]
theorem b9 (v:Q2):ab (V2 v):=ab.agg (by intro c hc;simp at hc;rcases hc with rfl | rfl | rfl | rfl;exact ab.nils;exact aW _;exact ab.nils;exact aW _)
theorem Bb (v:Q2):((V2 v).cells.all AV.one=true)=True:=by simp [V2,AV.cells,AV.one,EV]
theorem acj (v:Q2):part true (V2 v).cells 0 2=some (NV v.1):=rfl
theorem ack (v:Q2):part true (V2 v).cells 2 2=some (NV v.2):=rfl
theorem qV (v:Q2):part true (V2 v).cells 0 4=some (V2 v):=rfl
theorem mY:((AV.cells (.agg [.nils, .nils, .nils, .nils])).all AV.one=true)=True:=by simp [AV.cells,AV.one]
theorem aem (x y:Rat):kW [.nils, .nils, .nils, .nils] [(0,(2,NV x)),(2,(2,NV y))]=some [.nils,EV x, .nils,EV y]:=rfl
theorem ahW (x y:Rat):AV.agg [.nils,EV x, .nils,EV y]=V2 (x,y):=rfl
def nV (a b:Q2):Rat:=a.1*b.1+a.2*b.2
def nh (a b:Q2):Q2:=(a.1+b.1,a.2+b.2)
def bf (a b:Q2):Q2:=(a.1-b.1,a.2-b.2)
def Sp (a:Q2):Q2:=(-a.1, -a.2)
def mN (a:Q2) (n:Rat):Q2:=(a.1*n,a.2*n)
section
variable {P:Program} {G:Nat->Option (List AV)}
theorem D5 {f fo:FuncId} (h:Has P f uY) (a b c:Q2) (h1:VP P G fo [NV a.1,NV b.1] (.tup [NV c.1, .int .i64 0])) (h2:VP P G fo [NV a.2,NV b.2] (.tup [NV c.2, .int .i64 0])):VP P G f [V2 a,V2 b, .fn (.func fo) [] []] (.tup [V2 c, .int .i64 0]):=by
 refine VP.has h ?_
 simp only [uY]
 repeat (first
   | simp (disch:=first | decide | exact rfl) only [SS,Nat.reduceAdd,aq,aj,ZZ,g0,g1,Bb,acj,ack,tz,ss,mY,aem]
   | with_reducible refine ah (by assumption) (by simp [bH]) ?_
   | with_reducible refine ao (by assumption) (by simp [bH]) ?_
   | with_reducible refine And.intro (a:=ag _ _) (by simp [ag,apart]) ?_
   | with_reducible refine VW.aS 3 (VW.of ?_)
   | with_reducible refine gy.next _ (VW.of ?_)
   | rw [au (by exact rfl) (by exact rfl) (by exact rfl) (by exact rfl) (by exact rfl)]
   | rw [gK (by exact rfl) (by exact rfl) (by exact rfl) (by exact rfl)]
   | rw [gO (by exact rfl) (by exact rfl) (by exact rfl) (by exact rfl) (by exact rfl) (by exact rfl)]
   | fail)
 refine ai▸af (r := .tup [V2 c, .int .i64 0]) ?_ (ab.tup (by simp [b9,ab.int]))
 simp (disch:=decide) only [RS,bn,bC,aj,ahW,qV]
theorem Sq {f fb fo:FuncId} (h:Has P f (xx fb fo)) (a b c:Q2) (hb:VP P G fb [V2 a,V2 b, .fn (.func fo) [] []] (.tup [V2 c, .int .i64 0])):VP P G f [V2 a,V2 b] (.tup [V2 c, .int .i64 0]):=by
 refine VP.has h ?_
 simp only [xx]
 repeat (first
   | simp (disch:=first | decide | exact rfl) only [SS,Nat.reduceAdd,aq,aj,g0,g1,Bb,qV,mY]
   | with_reducible refine ah (by assumption) (by simp [b9,lV]) ?_
   | with_reducible refine ao (by assumption) (by simp [b9,lV]) ?_
   | with_reducible refine And.intro (a:=ag _ _) (by simp [ag,apart]) ?_
   | with_reducible refine VW.aS 3 (VW.of ?_)
   | with_reducible refine gy.next _ (VW.of ?_)
   | rw [au (by exact rfl) (by exact rfl) (by exact rfl) (by exact rfl) (by exact rfl)]
   | rw [gK (by exact rfl) (by exact rfl) (by exact rfl) (by exact rfl)]
   | rw [gO (by exact rfl) (by exact rfl) (by exact rfl) (by exact rfl) (by exact rfl) (by exact rfl)]
   | fail)
 refine ai▸af (r := .tup [V2 c, .int .i64 0]) ?_ (ab.tup (by simp [b9,ab.int]))
 simp (disch:=decide) only [RS,bn,bC,aj,qV]
theorem FO {f fi fm:FuncId} (h:Has P f (kJ fi fm)) (x y:Int) (h1:VP P G fi [.int .i64 x] (QV x)) (h2:VP P G fi [.int .i64 y] (QV y)) (hm:VP P G fm [QV x,QV y] (V2 (x,y))):VP P G f [.int .i64 x, .int .i64 y] (V2 (x,y)):=by
 refine VP.has h ?_
 simp only [kJ]
 repeat (first
   | simp (disch:=first | decide | exact rfl) only [SS,Nat.reduceAdd,mY]
   | with_reducible refine ah (by assumption) (by simp [aR,ab.int]) ?_
   | with_reducible refine ao (by assumption) (by simp [aR]) ?_
   | with_reducible refine And.intro (a:=ag _ _) (by simp [ag,apart]) ?_
   | with_reducible refine VW.aS 3 (VW.of ?_)
   | with_reducible refine gy.next _ (VW.of ?_)
   | rw [au (by exact rfl) (by exact rfl) (by exact rfl) (by exact rfl) (by exact rfl)]
   | rw [gK (by exact rfl) (by exact rfl) (by exact rfl) (by exact rfl)]
   | rw [gO (by exact rfl) (by exact rfl) (by exact rfl) (by exact rfl) (by exact rfl) (by exact rfl)]
   | fail)
 refine ai▸af (r:=V2 (x,y)) ?_ (b9 _)
 simp (disch:=decide) only [RS,bn,bC,aj,qV]
end
end Go.VL
end

section
set_option linter.unusedVariables false
set_option linter.unusedVariables false
namespace Go.VL
def eB:dc:=⟨[.agg [.int .i64 0]],1,false⟩
def bu (P:Program) (G:Nat->Option (List AV)) (f:FuncId) (args:List AV) (r:AV):Prop :=
 ∀ (p id:Id), ¬ p <:+ id->aM P G f (.ref id 0 0::args) p [(id,eB)] { val:=r,rd:=[id] }
theorem Xb {id:Id} {σ : ae} (hσ : σ id=some eB) (i:Id):(ae.of [(id,eB)]).app [] i=none∨(ae.of [(id,eB)]).app [] i = σ i:=by
 by_cases e:i=id
 . subst e;right;rw [hσ];simp [ae.app,ae.of]
 . left;simp [ae.app,ae.of,e]
theorem CW {σ : ae} {p:Id} {a c:Nat} {b:Option dc} {agg:Bool} {n e o:Nat} (h:c≠a):lK (σ.put (a::p) b) agg n (.ref (c::p) e o)=lK σ agg n (.ref (c::p) e o):=aq (by simp [h])
theorem LH {p id:Id} (h : ¬ p <:+ id) (q:Nat):id≠q::p:=fun e=>h ⟨[q],e.symm⟩
section
variable {P:Program} {G:Nat->Option (List AV)} {π : Id} {base:Nat} {Q:bM->VS->Prop} {n:Nat} {ps:List (Nat × Nat)} {d:Option Nat} {os:List bx} {i:Nat} {t:List AV} {σ : ae} {acc:List fL} {f:FuncId} {id:Id} {args:List AV} {r:AV}
theorem FP (h:bu P G f args r) (qg : ¬ π <:+ id) (hσ : σ id=some eB) (k:vs P G π base Q n os (i+1) (hJ t d r) σ):EB P G π base Q n d os i t σ f (.ref id 0 0::args) :=
 ⟨_,_,h _ id (fun ⟨q,e⟩=>qg ⟨q++[base+i],by simpa using e⟩),by simpa using hσ,by simp,k⟩
theorem kU {m:Nat} (h:bu P G f args r) (hm:m<base) (hσ : σ (m :: π)=some eB) (k:vd P G π base Q n ps os (i+1) ({ val:=r,rd:=[m :: π] }::acc) (hJ t d r) σ):Hd P G π base Q n ps d os i acc t σ f (.ref (m :: π) 0 0::args) :=
 ⟨_,_,h _ (m :: π) (fun h=>by rcases List.suffix_cons_iff.1 h with e | e;simp at e;omega;have:=e.length_le;simp at this;omega),by simpa using hσ,by simp,k⟩
end
section
variable {P:Program} {G:Nat->Option (List AV)}
end
end Go.VL
end

section
set_option linter.unusedVariables false
set_option linter.unusedVariables false
namespace Go.VL
open Go.Lib
structure CX where
 wU:Bool
 a:Q2
 b:Q2
 c:Q2
 cw:Bool
def CX.cells (x:CX):List AV:=[.bool x.wU, .nils,EV x.a.1, .nils,EV x.a.2, .nils,EV x.b.1, .nils,EV x.b.2, .nils,EV x.c.1, .nils,EV x.c.2, .bool x.cw]
def CX.av (x:CX):AV := .agg x.cells
theorem cM (x:CX):ab x.av:=ab.agg (by
 intro c hc
 simp only [CX.cells,List.mem_cons,List.not_mem_nil,or_false] at hc
 rcases hc with rfl | rfl | rfl | rfl | rfl | rfl | rfl | rfl | rfl | rfl | rfl | rfl | rfl | rfl<;>first | exact ab.bool _ | exact ab.nils | exact aW _)
theorem Ii (x:CX):∀ c∈x.av.cells,ab c:=by
 intro c hc
 simp only [CX.av,AV.cells,CX.cells,List.mem_cons,List.not_mem_nil,or_false] at hc
 rcases hc with rfl | rfl | rfl | rfl | rfl | rfl | rfl | rfl | rfl | rfl | rfl | rfl | rfl | rfl<;>first | exact ab.bool _ | exact ab.nils | exact aW _
theorem Ij (x:CX):(x.av.cells.all AV.one=true)=True:=by simp [CX.av,CX.cells,AV.cells,AV.one,EV]
theorem LI (x:CX):x.av.size=14:=rfl
theorem vF (x:CX):part true x.av.cells 0 14=some x.av:=rfl
theorem acm (x:CX):part false x.av.cells 0 1=some (.bool x.wU):=rfl
theorem Xc (x:CX):part true x.av.cells 1 4=some (V2 x.a):=rfl
theorem Xd (x:CX):part true x.av.cells 5 4=some (V2 x.b):=rfl
theorem acn (x:CX):part true x.av.cells 9 4=some (V2 x.c):=rfl
def zC:AV := .agg [.bool false, .nils, .nils, .nils, .nils, .nils, .nils, .nils, .nils, .nils, .nils, .nils, .nils, .bool false]
theorem lu:((AV.cells (.agg [.bool false, .nils, .nils, .nils, .nils, .nils, .nils, .nils, .nils, .nils, .nils, .nils, .nils, .bool false])).all AV.one=true)=True:=by simp [AV.cells,AV.one]
theorem aal {σ : ae} {id:Id} {k:Nat} {x:CX} {v:Q2} (h : σ id=some ⟨[x.av],k,false⟩):ir σ 4 (.ref id 0 1) (V2 v)=some { val := .tup [],rd:=[id],up:=[(id,some ⟨[{ x with a:=v }.av],k,false⟩)] } :=
 gD (v:=V2 v) (el:=x.av) h rfl rfl (by simp [LI]) (of_eq_true (Bb v))
theorem aam {σ : ae} {id:Id} {k:Nat} {x:CX} {v:Q2} (h : σ id=some ⟨[x.av],k,false⟩):ir σ 4 (.ref id 0 5) (V2 v)=some { val := .tup [],rd:=[id],up:=[(id,some ⟨[{ x with b:=v }.av],k,false⟩)] } :=
 gD (v:=V2 v) (el:=x.av) h rfl rfl (by simp [LI]) (of_eq_true (Bb v))
theorem aan {σ : ae} {id:Id} {k:Nat} {x:CX} {v:Q2} (h : σ id=some ⟨[x.av],k,false⟩):ir σ 4 (.ref id 0 9) (V2 v)=some { val := .tup [],rd:=[id],up:=[(id,some ⟨[{ x with c:=v }.av],k,false⟩)] } :=
 gD (v:=V2 v) (el:=x.av) h rfl rfl (by simp [LI]) (of_eq_true (Bb v))
def Kq (u v:Q2):Rat:=nV (bf u v) (bf u v)
def CX.valid (x:CX):Bool:=if x.wU then decide (0<aZ (Kq x.a x.c))&&decide (Kq x.a x.c=Kq x.b x.c) else !decide (x.a=x.b)
def CX.same (x y:CX):Bool:=x.wU==y.wU&&decide (x.a=y.a)&&decide (x.b=y.b)&&(!x.wU||decide (x.c=y.c)&&x.cw==y.cw)
theorem uC {a b:List UInt8} (h:a.length+b.length<=140737488355328):bP .add .str (.str a) (.str b)=some (.str (a++b)):=by
 have e:lW .add .str (.str a) (.str b)=some (.str (a++b)):=by
   simp only [lW,YV];exact if_pos (by unfold maxLen;omega)
 simp only [bP,e]
theorem Qb {σ : ae} {p:Id} {k:IntKind} {n:Int} (h:0<=n/\n<128):bW σ p (.idStr (.int k n))=bB (some (.str [UInt8.ofNat n.toNat])):=if_pos h
section
variable {P:Program} {G:Nat->Option (List AV)}
theorem CY (m:Nat) (hm:m<1000):bP .rem .int (.int .i64 (m:Int)) (.int .i64 10)=some (.int .i64 ((m%10:Nat):Int))/\bP .add .int (.int .i64 48) (.int .i64 ((m%10:Nat):Int))=some (.int .i64 ((48+m%10:Nat):Int)) /\
   IntKind.i32.wrap ((48+m%10:Nat):Int)=((48+m%10:Nat):Int)/\(∀ σ p,bW σ p (.idStr (.int .i32 ((48+m%10:Nat):Int)))=bB (some (.str [UInt8.ofNat (48+m%10)])))/\bP .quo .int (.int .i64 (m:Int)) (.int .i64 10)=some (.int .i64 ((m/10:Nat):Int)):=by
 refine ⟨?_, ?_, ?_,fun σ p => ?_, ?_⟩
 . rw [show (10:Int)=((10:Nat):Int) from rfl,RB (by omega), <- Int.ofNat_tmod]
 . have e:IntKind.i64.wrap ((48:Int)+((m%10:Nat):Int))=((48+m%10:Nat):Int):=by rw [IntKind.wrap_i64];omega
   rw [K5,e]
 . rw [IntKind.wrap_i32];omega
 . have:=Qb (σ := σ) (p:=p) (k := .i32) (n:=((48+m%10:Nat):Int)) (by omega)
   rw [Int.toNat_natCast] at this;exact this
 . have e:IntKind.i64.wrap ((m:Int).tdiv 10)=((m/10:Nat):Int):=by rw [Int.tdiv_eq_ediv_of_nonneg (by omega),IntKind.wrap_i64];omega
   rw [K6 (by omega),e]
theorem Oj {f:FuncId} (h:Has P f j4) (n:Nat) (hn:n<1000):VP P G f [.int .i64 (n:Int)] (.str (decDigits n)):=by
 have g1:((([]:List UInt8)==[])=true):=rfl
 have g2:∀ (x:UInt8) (l:List UInt8),((x::l)==[])=false:=fun _ _=>rfl
 obtain ⟨a1,a2,a3,a4,a5⟩:=CY n hn
 obtain ⟨b1,b2,b3,b4,b5⟩:=CY (n/10) (by omega)
 obtain ⟨c1,c2,c3,c4,c5⟩:=CY (n/10/10) (by omega)
 have s0:∀ x:UInt8,bP .add .str (.str [x]) (.str [])=some (.str [x]):=fun x=>uC (by simp)
 have s1:∀ x y:UInt8,bP .add .str (.str [x]) (.str [y])=some (.str [x,y]):=fun x y=>uC (by simp)
 have s2:∀ x y z:UInt8,bP .add .str (.str [x]) (.str [y,z])=some (.str [x,y,z]):=fun x y z=>uC (by simp)
 have e:decDigits n=if n<10 then [UInt8.ofNat (48+n%10)] else if n<100 then [UInt8.ofNat (48+n/10%10),UInt8.ofNat (48+n%10)] else [UInt8.ofNat (48+n/10/10%10),UInt8.ofNat (48+n/10%10),UInt8.ofNat (48+n%10)]:=by
   split
   . rw [tv (by assumption),Nat.mod_eq_of_lt (by assumption)]
   . split
     . rw [Ic (by assumption),tv (by omega),Nat.mod_eq_of_lt (show n/10<10 by omega)];rfl
     . rw [Ic (by assumption),Ic (by omega),tv (by omega),Nat.mod_eq_of_lt (show n/10/10<10 by omega)];rfl
 rw [e]
 refine VP.has h ?_
 simp only [j4]
 rcases (by omega:n<10∨(¬ n<10/\n<100)∨(¬ n<10 /\ ¬ n<100)) with k | ⟨k,k'⟩ | ⟨k,k'⟩
 . have d1:decide ((0:Int)<((n/10:Nat):Int))=false:=ak (by omega)
   rw [if_pos k]
   repeat (first
     | simp (disch:=first | decide | exact rfl) only [SS,Nat.reduceAdd,aY,g2,a1,a2,a3,a4,a5,s0,d1]
     | with_reducible refine ah (by assumption) (by simp [aA,aC,aR,ab.int,ab.bool,ab.str,cE,aW,bH,b9,cM,lV]) ?_
     | with_reducible refine ao (by assumption) (by simp [aA,aC,aR,ab.int,ab.bool,ab.str,cE,aW,bH,b9,cM,lV]) ?_
     | with_reducible refine And.intro (a:=ag _ _) (by simp [ag,apart]) ?_
     | with_reducible refine VW.aS 3 (VW.of ?_)
     | with_reducible refine gy.next _ (VW.of ?_)
     | rw [au (by exact rfl) (by exact rfl) (by exact rfl) (by exact rfl) (by exact rfl)]
     | rw [gK (by exact rfl) (by exact rfl) (by exact rfl) (by exact rfl)]
     | rw [gO (by exact rfl) (by exact rfl) (by exact rfl) (by exact rfl) (by exact rfl) (by exact rfl)]
     | fail)
   exact ai▸af rfl (ab.str _)
 . have d1:decide ((0:Int)<((n/10:Nat):Int))=true:=aw (by omega)
   have d2:decide ((0:Int)<((n/10/10:Nat):Int))=false:=ak (by omega)
   rw [if_neg k,if_pos k']
   repeat (first
     | simp (disch:=first | decide | exact rfl) only [SS,Nat.reduceAdd,aY,g2,a1,a2,a3,a4,a5,b1,b2,b3,b4,b5,s0,s1,d1,d2]
     | with_reducible refine ah (by assumption) (by simp [aA,aC,aR,ab.int,ab.bool,ab.str,cE,aW,bH,b9,cM,lV]) ?_
     | with_reducible refine ao (by assumption) (by simp [aA,aC,aR,ab.int,ab.bool,ab.str,cE,aW,bH,b9,cM,lV]) ?_
     | with_reducible refine And.intro (a:=ag _ _) (by simp [ag,apart]) ?_
     | with_reducible refine VW.aS 3 (VW.of ?_)
     | with_reducible refine gy.next _ (VW.of ?_)
     | rw [au (by exact rfl) (by exact rfl) (by exact rfl) (by exact rfl) (by exact rfl)]
     | rw [gK (by exact rfl) (by exact rfl) (by exact rfl) (by exact rfl)]
     | rw [gO (by exact rfl) (by exact rfl) (by exact rfl) (by exact rfl) (by exact rfl) (by exact rfl)]
     | fail)
   exact ai▸af rfl (ab.str _)
 . have d1:decide ((0:Int)<((n/10:Nat):Int))=true:=aw (by omega)
   have d2:decide ((0:Int)<((n/10/10:Nat):Int))=true:=aw (by omega)
   have d3:decide ((0:Int)<((n/10/10/10:Nat):Int))=false:=ak (by omega)
   rw [if_neg k,if_neg k']
   repeat (first
     | simp (disch:=first | decide | exact rfl) only [SS,Nat.reduceAdd,aY,g2,a1,a2,a3,a4,a5,b1,b2,b3,b4,b5,c1,c2,c3,c4,c5,s0,s1,s2,d1,d2,d3]
     | with_reducible refine ah (by assumption) (by simp [aA,aC,aR,ab.int,ab.bool,ab.str,cE,aW,bH,b9,cM,lV]) ?_
     | with_reducible refine ao (by assumption) (by simp [aA,aC,aR,ab.int,ab.bool,ab.str,cE,aW,bH,b9,cM,lV]) ?_
     | with_reducible refine And.intro (a:=ag _ _) (by simp [ag,apart]) ?_
     | with_reducible refine VW.aS 3 (VW.of ?_)
     | with_reducible refine gy.next _ (VW.of ?_)
     | rw [au (by exact rfl) (by exact rfl) (by exact rfl) (by exact rfl) (by exact rfl)]
     | rw [gK (by exact rfl) (by exact rfl) (by exact rfl) (by exact rfl)]
     | rw [gO (by exact rfl) (by exact rfl) (by exact rfl) (by exact rfl) (by exact rfl) (by exact rfl)]
     | fail)
   exact ai▸af rfl (ab.str _)
theorem Ol {f fd:FuncId} (h:Has P f (j5 fd)) (n:Nat) (hd:VP P G fd [.int .i64 (n:Int)] (.str (decDigits n))):VP P G f [.int .i64 (n:Int)] (.str (decDigits n)):=by
 refine VP.has h ?_
 simp only [j5]
 repeat (first
   | simp (disch:=first | decide | exact rfl) only [SS,Nat.reduceAdd]
   | with_reducible refine ah (by assumption) (by simp [ab.int]) ?_
   | with_reducible refine ao (by assumption) (by simp [ab.int]) ?_
   | with_reducible refine And.intro (a:=ag _ _) (by simp [ag,apart]) ?_
   | with_reducible refine VW.aS 3 (VW.of ?_)
   | with_reducible refine gy.next _ (VW.of ?_)
   | rw [au (by exact rfl) (by exact rfl) (by exact rfl) (by exact rfl) (by exact rfl)]
   | rw [gK (by exact rfl) (by exact rfl) (by exact rfl) (by exact rfl)]
   | rw [gO (by exact rfl) (by exact rfl) (by exact rfl) (by exact rfl) (by exact rfl) (by exact rfl)]
   | fail)
 exact ai▸af rfl (ab.str _)
theorem Qc {f fe ff fs fq:FuncId} (h:Has P f (kK fe ff fs fq)) (x:CX) (he:VP P G fe [V2 x.a,V2 x.b] (.bool (decide (x.a=x.b)))) (h1:bu P G ff [V2 x.a,V2 x.c] (NV (Kq x.a x.c))) (h2:bu P G ff [V2 x.b,V2 x.c] (NV (Kq x.b x.c)))
   (hs:VP P G fs [NV (Kq x.a x.c)] (.int .i64 (aZ (Kq x.a x.c)))) (hq:VP P G fq [NV (Kq x.a x.c),NV (Kq x.b x.c)] (.bool (decide (Kq x.a x.c=Kq x.b x.c)))):VP P G f [x.av] (.bool x.valid):=by
 refine VP.has h ?_
 simp only [kK]
 unfold CX.valid
 cases Qd:x.wU
 . rw [if_neg (by decide)]
   repeat (first
     | simp (disch:=first | decide | exact rfl) only [SS,Nat.reduceAdd,aj,Ij,acm,Xc,Xd,Qd]
     | with_reducible refine ah (by assumption) (by simp [bH,b9]) ?_
     | with_reducible refine ao (by assumption) (by simp [bH]) ?_
     | with_reducible refine And.intro (a:=ag _ _) (by simp [ag,apart]) ?_
     | with_reducible refine VW.aS 3 (VW.of ?_)
     | with_reducible refine gy.next _ (VW.of ?_)
     | rw [au (by exact rfl) (by exact rfl) (by exact rfl) (by exact rfl) (by exact rfl)]
     | rw [gK (by exact rfl) (by exact rfl) (by exact rfl) (by exact rfl)]
     | rw [gO (by exact rfl) (by exact rfl) (by exact rfl) (by exact rfl) (by exact rfl) (by exact rfl)]
     | fail)
   exact ai▸af rfl (ab.bool _)
 . rw [if_pos rfl]
   have e0:kW [.int .i64 0] []=some [.int .i64 0]:=rfl
   have e1:((AV.cells (.agg [.int .i64 0])).all AV.one=true)=True:=by simp [AV.cells,AV.one]
   have e2:part false (AV.cells (.agg [.int .i64 0])) 0 1=some (.int .i64 0):=rfl
   cases hd:decide (0<aZ (Kq x.a x.c))
   all_goals
     repeat (first
       | simp (disch:=first | decide | exact rfl) only [SS,DD,Nat.reduceAdd,aq,aj,decide_true,Ij,acm,Xc,Xd,acn,tz,ss,Qd,hd,e0,e1,e2,Bool.true_and,Bool.false_and]
       | with_reducible refine ah (by assumption) (by simp [bH]) ?_
       | with_reducible refine ao (by assumption) (by simp [bH]) ?_
       | with_reducible refine And.intro (a:=ag _ _) (by simp [ag,apart]) ?_
       | with_reducible refine VW.aS 3 (VW.of ?_)
       | with_reducible refine gy.next _ (VW.of ?_)
       | rw [au (by exact rfl) (by exact rfl) (by exact rfl) (by exact rfl) (by exact rfl)]
       | rw [gK (by exact rfl) (by exact rfl) (by exact rfl) (by exact rfl)]
       | rw [gO (by exact rfl) (by exact rfl) (by exact rfl) (by exact rfl) (by exact rfl) (by exact rfl)]
       | refine kU h1 (by decide) (by exact rfl) ?_
       | refine kU h2 (by decide) (by exact rfl) ?_
       | fail)
     exact ai▸af rfl (ab.bool _)
end
end Go.VL
end

section
set_option linter.unusedVariables false
set_option linter.unusedVariables false
set_option maxRecDepth 100000
namespace Go.VL
open Go.Lib
structure DX where
 wU:Bool
 cw:Bool
 a:Int × Int
 b:Int × Int
 step:Nat
 unit:Nat
def ok8 (p:Int × Int):Prop := -128<=p.1/\p.1<128 /\ -128<=p.2/\p.2<128
def DX.Ok (d:DX):Prop:=ok8 d.a/\ok8 d.b/\d.step<256/\d.unit<256
def I2 (p:Int × Int):AV := .agg [.int .i8 p.1, .int .i8 p.2]
def DX.av (d:DX):AV := .agg [.bool d.wU, .bool d.cw, .int .i8 d.a.1, .int .i8 d.a.2, .int .i8 d.b.1, .int .i8 d.b.2, .int .u8 d.step, .int .u8 d.unit]
def aco:List (Int × Int × Nat):=[(1,0,1),(3,4,5),(0,1,1),(-1,0,1),(0, -1,1),(4,3,5),(-3,4,5),(-4,3,5),(-4, -3,5),(-3, -4,5),(3, -4,5),(4, -3,5),(5,12,13),(12,5,13),(-5,12,13),(24,7,25)]
def wV (k:Nat):Q2:=match aco[k]? with | some (a,b,c)=>((a:Rat)/((c:Int):Rat),(b:Rat)/((c:Int):Rat)) | none=>(0,0)
def wW (p:Int × Int) (u:Nat):Q2:=((p.1:Rat)/(((u%4+1:Nat):Int):Rat),(p.2:Rat)/(((u%4+1:Nat):Int):Rat))
def DX.iL (d:DX):CX :=
 if d.wU then
   ⟨true,wW d.b d.unit,nh (wW d.a d.unit) (nh (mN (bf (wW d.b d.unit) (wW d.a d.unit)) (wV (d.step%16)).1) (mN (-(bf (wW d.b d.unit) (wW d.a d.unit)).2,(bf (wW d.b d.unit) (wW d.a d.unit)).1) (wV (d.step%16)).2)),wW d.a d.unit,d.cw⟩
 else ⟨false,wW d.a d.unit,wW d.b d.unit,(0,0),d.cw⟩
theorem n6 (d:DX):ab d.av:=ab.agg (by simp [ab.bool,ab.int])
theorem LJ (p:Int × Int):ab (I2 p):=ab.agg (by simp [ab.int])
theorem Xe (d:DX):(d.av.cells.all AV.one=true)=True:=by simp [DX.av,AV.cells,AV.one]
theorem LK (d:DX):part true d.av.cells 0 8=some d.av:=rfl
theorem acp (d:DX):part false d.av.cells 0 1=some (.bool d.wU):=rfl
theorem acq (d:DX):part false d.av.cells 1 1=some (.bool d.cw):=rfl
theorem acr (d:DX):part true d.av.cells 2 2=some (I2 d.a):=rfl
theorem acs (d:DX):part true d.av.cells 4 2=some (I2 d.b):=rfl
theorem ahX (d:DX):part false d.av.cells 6 1=some (.int .u8 d.step):=rfl
theorem acu (d:DX):part false d.av.cells 7 1=some (.int .u8 d.unit):=rfl
theorem aeo (p:Int × Int):((I2 p).cells.all AV.one=true)=True:=by simp [I2,AV.cells,AV.one]
theorem ahY (p:Int × Int):part false (I2 p).cells 0 1=some (.int .i8 p.1):=rfl
theorem ahZ (p:Int × Int):part false (I2 p).cells 1 1=some (.int .i8 p.2):=rfl
theorem aao (a b c:Int):kW [.int .i64 0, .int .i64 0, .int .i64 0] [(0,(1, .int .i64 a)),(1,(1, .int .i64 b)),(2,(1, .int .i64 c))]=some [.int .i64 a, .int .i64 b, .int .i64 c]:=rfl
def Xf:List AV:=[.int .i64 1, .int .i64 0, .int .i64 1, .int .i64 3, .int .i64 4, .int .i64 5, .int .i64 0, .int .i64 1, .int .i64 1, .int .i64 (-1), .int .i64 0, .int .i64 1, .int .i64 0, .int .i64 (-1), .int .i64 1, .int .i64 4, .int .i64 3, .int .i64 5, .int .i64 (-3), .int .i64 4, .int .i64 5, .int .i64 (-4), .int .i64 3, .int .i64 5, .int .i64 (-4), .int .i64 (-3), .int .i64 5, .int .i64 (-3), .int .i64 (-4), .int .i64 5, .int .i64 3, .int .i64 (-4), .int .i64 5, .int .i64 4, .int .i64 (-3), .int .i64 5, .int .i64 5, .int .i64 12, .int .i64 13, .int .i64 12, .int .i64 5, .int .i64 13, .int .i64 (-5), .int .i64 12, .int .i64 13, .int .i64 24, .int .i64 7, .int .i64 25]
theorem Qe {z r:List AV} {ps:List (Nat × Nat × AV)} (h:kW z ps=some r):kW z ps=some r:=h
theorem amd {k:Nat} (h:k<16):k=0∨k=1∨k=2∨k=3∨k=4∨k=5∨k=6∨k=7∨k=8∨k=9∨k=10∨k=11∨k=12∨k=13∨k=14∨k=15:=by omega
theorem Kr {k:Nat} (h:k<16):∃ a b c,aco[k]? = some (a,b,c)/\c≠0/\c<=25 /\ -25<=a/\a<=25 /\ -25<=b/\b<=25/\part true (AV.agg Xf).cells (k*3) 3=some (.agg [.int .i64 a, .int .i64 b, .int .i64 (c:Int)]):=by
 rcases amd h with rfl | rfl | rfl | rfl | rfl | rfl | rfl | rfl | rfl | rfl | rfl | rfl | rfl | rfl | rfl | rfl<;>exact ⟨_,_,_,rfl,by decide,by decide,by decide,by decide,by decide,by decide,rfl⟩
theorem Xg:((-1-0:Int) = -1)/\((-1-2:Int) = -3)/\((-1-3:Int) = -4)/\((-1-4:Int) = -5):=by decide
theorem ia2 {id:Id}:pc 2 1 (.ref id 0 0) (.int .i64 0)=some (.ref id 0 0)/\pc 2 1 (.ref id 0 0) (.int .i64 1)=some (.ref id 0 1):=⟨rfl,rfl⟩
theorem ia3 {id:Id}:pc 3 1 (.ref id 0 0) (.int .i64 0)=some (.ref id 0 0)/\pc 3 1 (.ref id 0 0) (.int .i64 1)=some (.ref id 0 1)/\pc 3 1 (.ref id 0 0) (.int .i64 2)=some (.ref id 0 2):=⟨rfl,rfl,rfl⟩
def Xh (P:Program) (G:Nat->Option (List AV)) (f:FuncId):Prop:=∀ (a:Int) (b:Nat),b≠0->b<=1000 -> -1000<=a->a<=1000->VP P G f [.int .i64 a, .int .i64 (b:Int)] (QV ((a:Rat)/((b:Int):Rat)))
section
variable {P:Program} {G:Nat->Option (List AV)}
theorem aap {f fF fM:FuncId} (h:Has P f (nr fF fM)) (hF:Xh P G fF) (hM:∀ v:Q2,VP P G fM [QV v.1,QV v.2] (V2 v)) (p:Int × Int) (hp:ok8 p) (u:Nat) (hu:u<256):VP P G f [I2 p, .int .u8 (u:Int)] (V2 (wW p u)):=by
 obtain ⟨q1,q2,q3,q4⟩:=hp
 have r1:bP .rem .int (.int .u8 (u:Int)) (.int .u8 4)=some (.int .u8 ((u%4:Nat):Int)):=by
   show some (AV.int .u8 ((u:Int).tmod 4))=_
   rw [Int.tmod_eq_emod_of_nonneg (by omega)];rfl
 have r2:IntKind.i64.wrap ((u%4:Nat):Int)=((u%4:Nat):Int):=by rw [IntKind.wrap_i64];omega
 have r3:IntKind.i64.wrap (((u%4:Nat):Int)+1)=((u%4+1:Nat):Int):=by rw [IntKind.wrap_i64];omega
 have r4:IntKind.i64.wrap p.1=p.1:=by rw [IntKind.wrap_i64];omega
 have r5:IntKind.i64.wrap p.2=p.2:=by rw [IntKind.wrap_i64];omega
 have f1:=hF p.1 (u%4+1) (by omega) (by omega) (by omega) (by omega)
 have f2:=hF p.2 (u%4+1) (by omega) (by omega) (by omega) (by omega)
 have m1:VP P G fM _ _:=hM (wW p u)
 simp only [wW] at m1
 refine VP.has h ?_
 simp only [nr]
 repeat (first
   | simp (disch:=first | decide | exact rfl) only [SS,DD,Nat.reduceAdd,aq,aj,aeo,ahY,ahZ,ia2,mY,r1,r2,r3,r4,r5]
   | with_reducible refine ah (by assumption) (by simp [aR]) ?_
   | with_reducible refine ao (by assumption) (by simp [aR,ab.int]) ?_
   | with_reducible refine And.intro (a:=ag _ _) (by simp [ag,apart]) ?_
   | with_reducible refine VW.aS 3 (VW.of ?_)
   | with_reducible refine gy.next _ (VW.of ?_)
   | rw [au (by exact rfl) (by exact rfl) (by exact rfl) (by exact rfl) (by exact rfl)]
   | rw [gK (by exact rfl) (by exact rfl) (by exact rfl) (by exact rfl)]
   | rw [gO (by exact rfl) (by exact rfl) (by exact rfl) (by exact rfl) (by exact rfl) (by exact rfl)]
   | fail)
 refine ai▸af (r:=V2 (wW p u)) ?_ (b9 _)
 simp (disch:=decide) only [RS,bn,bC,aj,qV,wW]
set_option maxHeartbeats 4000000 in
theorem Ue {f fF fM:FuncId} (h:Has P f (lF fF fM)) (hF:Xh P G fF) (hM:∀ v:Q2,VP P G fM [QV v.1,QV v.2] (V2 v)) (n:Nat) (hn:n<256):VP P G f [.int .u8 (n:Int)] (V2 (wV (n%16))):=by
 have r1:bP .rem .int (.int .u8 (n:Int)) (.int .u8 16)=some (.int .u8 ((n%16:Nat):Int)):=by
   show some (AV.int .u8 ((n:Int).tmod 16))=_
   rw [Int.tmod_eq_emod_of_nonneg (by omega)];rfl
 have hk:n%16<16:=Nat.mod_lt _ (by decide)
 generalize n%16=k at *
 have ia:∀ id:Id,pc 16 3 (.ref id 0 0) (.int .u8 (k:Int))=some (.ref id 0 (k*3)):=fun id=>by
   simp only [pc];rw [if_pos ⟨by omega,by omega⟩];simp
 obtain ⟨a,b,c,hu,c0,c1,a1,a2,b1,b2,hpt⟩:=Kr hk
 have f1:=hF a c c0 (by omega) (by omega) (by omega)
 have f2:=hF b c c0 (by omega) (by omega) (by omega)
 have m1:=hM (wV k)
 have e:wV k=((a:Rat)/((c:Int):Rat),(b:Rat)/((c:Int):Rat)):=by unfold wV;rw [hu]
 rw [e] at m1 ⊢
 simp only [] at m1
 have z1:((AV.cells (.agg [.int .i64 0, .int .i64 0, .int .i64 0])).all AV.one=true)=True:=by simp [AV.cells,AV.one]
 have z2:((AV.cells (.agg [.int .i64 a, .int .i64 b, .int .i64 (c:Int)])).all AV.one=true)=True:=by simp [AV.cells,AV.one]
 have p0:part false (AV.cells (.agg [.int .i64 a, .int .i64 b, .int .i64 (c:Int)])) 0 1=some (.int .i64 a):=rfl
 have p1:part false (AV.cells (.agg [.int .i64 a, .int .i64 b, .int .i64 (c:Int)])) 1 1=some (.int .i64 b):=rfl
 have p2:part false (AV.cells (.agg [.int .i64 a, .int .i64 b, .int .i64 (c:Int)])) 2 1=some (.int .i64 (c:Int)):=rfl
 refine VP.has h ?_
 simp only [lF,Xg]
 repeat (first
   | simp (disch:=first | decide | exact rfl) only [SS,DD,Nat.reduceAdd,aj,aao,r1,ia,ia3,mY,hpt,z1,p0,p1,p2]
   | with_reducible refine ah (by assumption) (by simp [aR]) ?_
   | with_reducible refine ao (by assumption) (by simp [aR,ab.int]) ?_
   | with_reducible refine And.intro (a:=ag _ _) (by simp [ag,apart]) ?_
   | with_reducible refine VW.aS 3 (VW.of ?_)
   | with_reducible refine gy.next _ (VW.of ?_)
   | rw [au (by exact rfl) (by exact rfl) (by exact rfl) (by exact rfl) (by exact rfl)]
   | rw [gK (by exact rfl) (by exact rfl) (by exact rfl) (by exact rfl)]
   | rw [gO (by exact rfl) (by exact rfl) (by exact rfl) (by exact rfl) (by exact rfl) (by exact rfl)]
   | rw [Qe (r:=Xf) (by exact rfl)]
   | rw [if_pos (by exact rfl)]
   | fail)
 refine ai▸af (r:=V2 ((a:Rat)/((c:Int):Rat),(b:Rat)/((c:Int):Rat))) ?_ (b9 _)
 simp (disch:=decide) only [RS,bn,bC,aj,qV]
end
end Go.VL
end

section
namespace Go.VL
def tC {α : Type} (l:List α) (p : α -> Bool) (i:Nat):Prop:=∀ (j:Nat) y,j<i->l[j]? = some y->p y=false
theorem tC.any {α : Type} {l:List α} {p : α -> Bool} {i:Nat} (h:tC l p i) (hi:l.length<=i):l.any p=false:=by
 rw [List.any_eq_false]
 intro x hx
 obtain ⟨j,hj⟩:=List.getElem?_of_mem hx
 rw [h j x (by have:=(List.getElem?_eq_some_iff.1 hj).1;omega) hj];simp
theorem LL {α : Type} {l:List α} {p : α -> Bool} {i:Nat} {x : α} (hx:l[i]? = some x) (hp:p x=true):l.any p=true:=List.any_eq_true.2 ⟨x,List.mem_of_getElem? hx,hp⟩
theorem tC.succ {α : Type} {l:List α} {p : α -> Bool} {i:Nat} {x : α} (h:tC l p i) (hx:l[i]? = some x) (hp:p x=false):tC l p (i+1):=by
 intro j y hj hy
 rcases (by omega:j<i∨j=i) with e | rfl
 . exact h j y e hy
 . rw [hx] at hy;simp only [Option.some.injEq] at hy;subst hy;exact hp
section
variable {P:Program} {G:Nat->Option (List AV)} {π : Id} {Q:bM->VS->Prop} {s:VS} {x:bY}
abbrev acv (G:Nat->Option (List AV)) (π : Id) {α : Type} (l:List α) (p : α -> Bool) (T:Nat->List AV) (σ : ae) (i m:Nat) (Q:bM->VS->Prop):bM->VS->Prop :=
 JV G π (fun y:Nat × Nat=>(⟨T y.1, σ,y.2⟩:VS)) (fun y=>y.1<=l.length/\tC l p y.1) (fun y=>l.length-y.1) (i,m) Q
theorem VW.scan {α : Type} (l:List α) (p : α -> Bool) (T:Nat->List AV) (σ : ae) (k0:Nat) (hw:Wk G π s ⟨T 0, σ,k0⟩)
   (h:∀ i m e,l[i]? = some e->i<l.length->tC l p i->decide ((i:Int)<(l.length:Int))=true->yL P G π x (acv G π l p T σ i m Q) ⟨T i, σ,m⟩)
   (he:∀ m,tC l p l.length->decide ((l.length:Int)<(l.length:Int))=false->yL P G π x (acv G π l p T σ l.length m Q) ⟨T l.length, σ,m⟩):VW P G π (.loop x) Q s:=by
 refine VW.e9 (α := Nat × Nat) (fun y=>⟨T y.1, σ,y.2⟩) (fun y=>y.1<=l.length/\tC l p y.1) (fun y=>l.length-y.1) (0,k0) hw ⟨Nat.zero_le _,fun j e hj=>absurd hj (Nat.not_lt_zero j)⟩ ?_
 rintro ⟨i,m⟩ ⟨hi,hn⟩
 simp only [] at hi hn
 by_cases hlt:i<l.length
 . exact h i m l[i] (by simp [hlt]) hlt hn (decide_eq_true (by omega))
 . have:i=l.length:=by omega
   subst this
   exact he m hn (decide_eq_false (by omega))
end
end Go.VL
end

section
set_option linter.unusedVariables false
set_option linter.unusedVariables false
namespace Go.VL
open Go.Lib
structure NX where
 name:List UInt8
 c:CX
def NX.av (x:NX):AV := .agg (.str x.name::x.c.cells)
abbrev vG (l:List NX):AV := .sl 15 (l.map NX.av)
theorem D6 (x:NX):∀ c∈x.av.cells,ab c:=by
 intro c hc
 rcases List.mem_cons.1 hc with rfl | hc
 . exact ab.str _
 . exact Ii x.c c hc
theorem e7 (x:NX):ab x.av:=ab.agg (D6 x)
theorem Ik (l:List NX):∀ c∈flat (l.map NX.av),ab c:=by
 intro c hc
 simp only [flat,List.mem_flatMap,List.mem_map] at hc
 obtain ⟨_,⟨x,_,rfl⟩,hc⟩:=hc
 exact D6 x c hc
theorem bJ (l:List NX):ab (vG l):=ab.sl (Ik l)
theorem LM (x:NX):(x.av.cells.all AV.one=true)=True:=by
 have:=of_eq_true (Ij x.c)
 simp only [NX.av,AV.cells,List.all_cons,AV.one,Bool.true_and]
 simpa [CX.av,AV.cells] using this
theorem Xi (x:NX):part true x.av.cells 0 15=some x.av:=rfl
theorem ah0 (x:NX):part false x.av.cells 0 1=some (.str x.name):=rfl
theorem ah1 (x:NX):part true x.av.cells 1 14=some x.c.av:=rfl
theorem Il {l:List NX} {i:Nat} {x:NX} (h:l[i]? = some x):bK 15 (vG l) (.int .i64 (i:Int))=some (.ep x.av.cells 0):=fG rfl (by rw [List.getElem?_map,h];rfl)
theorem ot {l:List (List UInt8)} {i:Nat} {x:List UInt8} (h:l[i]? = some x):bK 1 (strs l) (.int .i64 (i:Int))=some (.ep (AV.str x).cells 0):=fG rfl (by rw [List.getElem?_map,h];rfl)
theorem Ck (s:List UInt8):part false (AV.str s).cells 0 1=some (.str s):=rfl
def jK (l:List NX) (nm:List UInt8):Int:=CJ (l.findIdx? fun x=>x.name==nm)
def Jp (ins:List (List UInt8)) (n:Nat):Prop:=∃ j k x,j<k/\k<n/\ins[j]? = some x/\ins[k]? = some x
open Classical in
noncomputable def dI (nm:List UInt8) (l:List NX) (ins:List (List UInt8)):Int :=
 if e6 nm=false∨ins=[] then 1 else if Jp ins ins.length then 1 else if (ins.any fun s=>decide (jK l s<0))=true then 4 else 0
theorem Ks {ins:List (List UInt8)} {i:Nat} {x:List UInt8} (hx:ins[i]? = some x) (h : ¬ Jp ins i) (hk:∀ j,j<i->ins[j]? ≠ some x) : ¬ Jp ins (i+1):=by
 rintro ⟨j,k,y,h1,h2,h3,h4⟩
 rcases (by omega:k<i∨k=i) with e | rfl
 . exact h ⟨j,k,y,h1,e,h3,h4⟩
 . rw [hx] at h4;simp only [Option.some.injEq] at h4;subst h4;exact hk j h1 h3
section
variable {P:Program} {G:Nat->Option (List AV)}
set_option maxHeartbeats 1000000 in
theorem Om {f fn fF:FuncId} (h:Has P f (j6 fn fF)) (nm:List UInt8) (l:List NX) (ins:List (List UInt8)) (hN:VP P G fn [.str nm] (.bool (e6 nm))) (hF:∀ s∈ins,VP P G fF [vG l, .str s] (.int .i64 (jK l s))) (hl:ins.length<=1000) :
   VP P G f [.str nm,vG l,strs ins] (.int .i64 (dI nm l ins)):=by
 refine VP.has h ?_
 unfold dI
 simp only [j6]
 cases zH:e6 nm<;>rw [zH] at hN
 . rw [if_pos (.inl rfl)]
   repeat (first
     | simp (disch:=first | decide | exact rfl) only [SS,Nat.reduceAdd]
     | with_reducible refine ah (by assumption) (by simp [ab.str]) ?_
     | with_reducible refine ao (by assumption) (by simp [ab.str]) ?_
     | with_reducible refine And.intro (a:=ag _ _) (by simp [ag,apart]) ?_
     | with_reducible refine VW.aS 3 (VW.of ?_)
     | with_reducible refine gy.next _ (VW.of ?_)
     | rw [au (by exact rfl) (by exact rfl) (by exact rfl) (by exact rfl) (by exact rfl)]
     | rw [gK (by exact rfl) (by exact rfl) (by exact rfl) (by exact rfl)]
     | rw [gO (by exact rfl) (by exact rfl) (by exact rfl) (by exact rfl) (by exact rfl) (by exact rfl)]
     | fail)
   exact ai▸af rfl (ab.int _ _)
 by_cases h0:ins=[]
 . have d0:decide ((ins.length:Int)=0)=true:=aw (by rw [h0];rfl)
   rw [if_pos (.inr h0)]
   repeat (first
     | simp (disch:=first | decide | exact rfl) only [SS,Nat.reduceAdd,jt,d0]
     | with_reducible refine ah (by assumption) (by simp [ab.str]) ?_
     | with_reducible refine ao (by assumption) (by simp [ab.str]) ?_
     | with_reducible refine And.intro (a:=ag _ _) (by simp [ag,apart]) ?_
     | with_reducible refine VW.aS 3 (VW.of ?_)
     | with_reducible refine gy.next _ (VW.of ?_)
     | rw [au (by exact rfl) (by exact rfl) (by exact rfl) (by exact rfl) (by exact rfl)]
     | rw [gK (by exact rfl) (by exact rfl) (by exact rfl) (by exact rfl)]
     | rw [gO (by exact rfl) (by exact rfl) (by exact rfl) (by exact rfl) (by exact rfl) (by exact rfl)]
     | fail)
   exact ai▸af rfl (ab.int _ _)
 rw [if_neg (by simp [h0])]
 have d0:decide ((ins.length:Int)=0)=false:=ak (fun e=>h0 (List.length_eq_zero_iff.1 (by omega)))
 simp only [SS,Nat.reduceAdd]
 refine ah hN (by simp [ab.str]) ?_
 simp only [SS,Nat.reduceAdd,jt,d0,aY]
 refine VW.e9 (α := Nat × Nat) (fun x=>⟨[.str nm,vG l,strs ins, .top, .top, .top, .top, .int .i64 x.1]++List.replicate 43 .top,fun _=>none,x.2⟩) (fun x=>x.1<=ins.length /\ ¬ Jp ins x.1) (fun x=>ins.length-x.1) (0,1000) ?_ ⟨Nat.zero_le _,fun ⟨j,k,_,_,h,_⟩=>by simp only [] at h;omega⟩ ?_
 . exact Wk.slots (by simp [Fg,List.replicate]) (by simp only [];omega)
 rintro ⟨i,n⟩ ⟨hi,hd⟩
 simp only [] at hi hd
 by_cases hlt:i<ins.length
 . obtain ⟨x,hx⟩:∃ x,ins[i]? = some x:=⟨ins[i],by simp [hlt]⟩
   have d:decide ((i:Int)<(ins.length:Int))=true:=aw (by omega)
   simp only [SS,Nat.reduceAdd,jt,d,aY]
   refine VW.e9 (α := Nat × Nat) (fun x=>⟨[.str nm,vG l,strs ins, .top, .top, .top, .top, .int .i64 i, .int .i64 x.1]++List.replicate 42 .top,fun _=>none,x.2⟩) (fun y=>y.1<=i/\∀ j,j<y.1->ins[j]? ≠ some x) (fun x=>i-x.1) (0,n+1000) ?_ ⟨Nat.zero_le _,fun j hj=>absurd hj (Nat.not_lt_zero j)⟩ ?_
   . exact Wk.slots (by simp [Fg,List.replicate]) (by simp only [];omega)
   rintro ⟨k,m⟩ ⟨hk,hn⟩
   simp only [] at hk hn
   by_cases Zk:k<i
   . obtain ⟨y,hy⟩:∃ y,ins[k]? = some y:=⟨ins[k],by simp⟩
     have dk:decide ((k:Int)<(i:Int))=true:=aw (by omega)
     cases hb:x==y
     . have hne:y≠x:=fun e=>by rw [e] at hb;simp at hb
       repeat (first
         | simp (disch:=first | decide | exact rfl) only [SS,DD,Nat.reduceAdd,dk,ot hx,ot hy,aK,Ck,hb,aD k (by omega)]
         | with_reducible refine ah (by assumption) (by simp [ab.str]) ?_
         | with_reducible refine ao (by assumption) (by simp [ab.str]) ?_
         | with_reducible refine And.intro (a:=ag _ _) (by simp [ag,apart]) ?_
         | with_reducible refine VW.aS 3 (VW.of ?_)
         | with_reducible refine gy.next _ (VW.of ?_)
         | rw [au (by exact rfl) (by exact rfl) (by exact rfl) (by exact rfl) (by exact rfl)]
         | rw [gK (by exact rfl) (by exact rfl) (by exact rfl) (by exact rfl)]
         | rw [gO (by exact rfl) (by exact rfl) (by exact rfl) (by exact rfl) (by exact rfl) (by exact rfl)]
         | fail)
       refine ⟨(k+1,_),⟨by simp only [];omega,fun j hj => ?_⟩,by simp only [];omega,Wk.slots (by simp [Fg]) (Nat.le_refl _)⟩
       rcases (by simp only [] at hj;omega:j<k∨j=k) with e | rfl
       . exact hn j e
       . rw [hy];simpa using hne
     . have he:x=y:=by simpa using hb
       repeat (first
         | simp (disch:=first | decide | exact rfl) only [SS,DD,Nat.reduceAdd,dk,ot hx,ot hy,aK,Ck,hb]
         | with_reducible refine ah (by assumption) (by simp [ab.str]) ?_
         | with_reducible refine ao (by assumption) (by simp [ab.str]) ?_
         | with_reducible refine And.intro (a:=ag _ _) (by simp [ag,apart]) ?_
         | with_reducible refine VW.aS 3 (VW.of ?_)
         | with_reducible refine gy.next _ (VW.of ?_)
         | rw [au (by exact rfl) (by exact rfl) (by exact rfl) (by exact rfl) (by exact rfl)]
         | rw [gK (by exact rfl) (by exact rfl) (by exact rfl) (by exact rfl)]
         | rw [gO (by exact rfl) (by exact rfl) (by exact rfl) (by exact rfl) (by exact rfl) (by exact rfl)]
         | fail)
       rw [if_pos ⟨k,i,x,Zk,hlt,by rw [hy,he],hx⟩]
       exact ai▸af rfl (ab.int _ _)
   . have dk:decide ((k:Int)<(i:Int))=false:=ak (by omega)
     repeat (first
       | simp (disch:=first | decide | exact rfl) only [SS,Nat.reduceAdd,aY,dk,aD i (by omega)]
       | with_reducible refine ah (by assumption) (by simp [ab.str]) ?_
       | with_reducible refine ao (by assumption) (by simp [ab.str]) ?_
       | with_reducible refine And.intro (a:=ag _ _) (by simp [ag,apart]) ?_
       | with_reducible refine VW.aS 3 (VW.of ?_)
       | with_reducible refine gy.next _ (VW.of ?_)
       | rw [au (by exact rfl) (by exact rfl) (by exact rfl) (by exact rfl) (by exact rfl)]
       | rw [gK (by exact rfl) (by exact rfl) (by exact rfl) (by exact rfl)]
       | rw [gO (by exact rfl) (by exact rfl) (by exact rfl) (by exact rfl) (by exact rfl) (by exact rfl)]
       | fail)
     refine ⟨(i+1,_),⟨by simp only [];omega,Ks hx hd fun j hj=>hn j (by omega)⟩,by simp only [];omega,Wk.slots (by simp [Fg]) (Nat.le_refl _)⟩
 . have d:decide ((i:Int)<(ins.length:Int))=false:=ak (by omega)
   have hii:i=ins.length:=by omega
   rw [hii] at hd
   rw [if_neg hd]
   simp only [SS,Nat.reduceAdd,jt,d,aY]
   refine VW.scan ins (fun y=>decide (jK l y<0)) (fun i=>[.str nm,vG l,strs ins, .top, .top, .top, .top, .top, .top, .int .i64 i]++List.replicate 41 .top) (fun _=>none) (n+1000) (Wk.slots (by simp [Fg,List.replicate]) (by omega)) (fun k m y hy Vw hn dk => ?_) (fun m hn dk => ?_)
   . have hv:=hF y (List.mem_of_getElem? hy)
     cases hb:decide (jK l y<0)
     . skip
       repeat (first
         | simp (disch:=first | decide | exact rfl) only [SS,Nat.reduceAdd,dk,jt,ot hy,aK,Ck,hb,aD k (by omega)]
         | with_reducible refine ah (by assumption) (by simp [ab.str,bJ]) ?_
         | with_reducible refine ao (by assumption) (by simp [ab.str,bJ]) ?_
         | with_reducible refine And.intro (a:=ag _ _) (by simp [ag,apart]) ?_
         | with_reducible refine VW.aS 3 (VW.of ?_)
         | with_reducible refine gy.next _ (VW.of ?_)
         | rw [au (by exact rfl) (by exact rfl) (by exact rfl) (by exact rfl) (by exact rfl)]
         | rw [gK (by exact rfl) (by exact rfl) (by exact rfl) (by exact rfl)]
         | rw [gO (by exact rfl) (by exact rfl) (by exact rfl) (by exact rfl) (by exact rfl) (by exact rfl)]
         | fail)
       exact ⟨(k+1,_),⟨Vw,hn.succ hy hb⟩,by simp only [];omega,Wk.slots (by simp [Fg]) (Nat.le_refl _)⟩
     . skip
       repeat (first
         | simp (disch:=first | decide | exact rfl) only [SS,Nat.reduceAdd,dk,jt,ot hy,aK,Ck,hb]
         | with_reducible refine ah (by assumption) (by simp [ab.str,bJ]) ?_
         | with_reducible refine ao (by assumption) (by simp [ab.str,bJ]) ?_
         | with_reducible refine And.intro (a:=ag _ _) (by simp [ag,apart]) ?_
         | with_reducible refine VW.aS 3 (VW.of ?_)
         | with_reducible refine gy.next _ (VW.of ?_)
         | rw [au (by exact rfl) (by exact rfl) (by exact rfl) (by exact rfl) (by exact rfl)]
         | rw [gK (by exact rfl) (by exact rfl) (by exact rfl) (by exact rfl)]
         | rw [gO (by exact rfl) (by exact rfl) (by exact rfl) (by exact rfl) (by exact rfl) (by exact rfl)]
         | fail)
       rw [if_pos (LL hy hb)]
       exact ai▸af rfl (ab.int _ _)
   . skip
     repeat (first
       | simp (disch:=first | decide | exact rfl) only [SS,Nat.reduceAdd,dk,jt]
       | with_reducible refine ah (by assumption) (by simp [ab.str]) ?_
       | with_reducible refine ao (by assumption) (by simp [ab.str]) ?_
       | with_reducible refine And.intro (a:=ag _ _) (by simp [ag,apart]) ?_
       | with_reducible refine VW.aS 3 (VW.of ?_)
       | with_reducible refine gy.next _ (VW.of ?_)
       | rw [au (by exact rfl) (by exact rfl) (by exact rfl) (by exact rfl) (by exact rfl)]
       | rw [gK (by exact rfl) (by exact rfl) (by exact rfl) (by exact rfl)]
       | rw [gO (by exact rfl) (by exact rfl) (by exact rfl) (by exact rfl) (by exact rfl) (by exact rfl)]
       | fail)
     rw [if_neg (by rw [hn.any (Nat.le_refl _)];decide)]
     exact ai▸af rfl (ab.int _ _)
end
end Go.VL
end

section
set_option linter.unusedVariables false
set_option linter.unusedVariables false
set_option maxRecDepth 100000
namespace Go.VL
open Go.Lib
def bR (k:Nat) (v:Q2):Prop:=Sm k v.1/\Sm k v.2
theorem bR.mono {j k:Nat} {v:Q2} (h:bR j v) (P2:j<=k):bR k v:=⟨h.1.mono P2,h.2.mono P2⟩
theorem bR.add {j k:Nat} {a b:Q2} (ha:bR j a) (hb:bR k b):bR (j+k+1) (nh a b):=⟨ha.1.add hb.1,ha.2.add hb.2⟩
theorem bR.sub {j k:Nat} {a b:Q2} (ha:bR j a) (hb:bR k b):bR (j+k+1) (bf a b):=⟨ha.1.sub hb.1,ha.2.sub hb.2⟩
theorem bR.scale {j k:Nat} {a:Q2} {n:Rat} (ha:bR j a) (hn:Sm k n):bR (j+k) (mN a n):=⟨ha.1.mul hn,ha.2.mul hn⟩
theorem bR.left {j:Nat} {a:Q2} (ha:bR j a):bR j (-a.2,a.1):=⟨ha.2.neg,ha.1⟩
theorem Sm.dot {j k:Nat} {a b:Q2} (ha:bR j a) (hb:bR k b):Sm (j+k+(j+k)+1) (nV a b):=(ha.1.mul hb.1).add (ha.2.mul hb.2)
theorem Sm.Kq {j k:Nat} {a b:Q2} (ha:bR j a) (hb:bR k b):Sm (4*(j+k+1)+1) (Kq a b):=(Sm.dot (ha.sub hb) (ha.sub hb)).mono (by omega)
def CX.Sm (k:Nat) (x:CX):Prop:=bR k x.a/\bR k x.b/\bR k x.c
theorem CX.Sm.mono {j k:Nat} {x:CX} (h:x.Sm j) (P2:j<=k):x.Sm k:=⟨h.1.mono P2,h.2.1.mono P2,h.2.2.mono P2⟩
theorem D7 {a:Int} {b:Nat} (hb:b≠0) (h1:a.natAbs<ay) (h2:b<ay):Sm 1 ((a:Rat)/((b:Int):Rat)):=by
 rw [<- Rat.divInt_eq_div]
 exact ⟨Nat.le_trans (vD _ _) (dH (by rw [Nat.pow_one];exact h1)),Nat.le_trans (vE _ _ (by omega)) (dH (by rw [Nat.pow_one];exact h2))⟩
theorem LN {p:Int × Int} (hp:ok8 p) (u:Nat):bR 1 (wW p u):=by
 obtain ⟨q1,q2,q3,q4⟩:=hp
 exact ⟨D7 (by omega) (by unfold ay;omega) (by unfold ay;omega),D7 (by omega) (by unfold ay;omega) (by unfold ay;omega)⟩
theorem On {k:Nat} (hk:k<16):bR 1 (wV k):=by
 obtain ⟨a,b,c,hu,c0,c1,a1,a2,b1,b2,_⟩:=Kr hk
 unfold wV;rw [hu]
 exact ⟨D7 c0 (by unfold ay;omega) (by unfold ay;omega),D7 c0 (by unfold ay;omega) (by unfold ay;omega)⟩
theorem Oo {d:DX} (hd:d.Ok):d.iL.Sm 20:=by
 obtain ⟨h1,h2,h3,h4⟩:=hd
 have sa:=LN h1 d.unit
 have sb:=LN h2 d.unit
 have su:=On (Nat.mod_lt d.step (by decide:0<16))
 unfold DX.iL
 split
 . exact ⟨sb.mono (by omega),(sa.add (((sb.sub sa).scale su.1).add (((sb.sub sa).left).scale su.2))).mono (by omega),sa.mono (by omega)⟩
 . exact ⟨sa.mono (by omega),sb.mono (by omega),⟨Sm.zero.mono (by omega),Sm.zero.mono (by omega)⟩⟩
def Xj (P:Program) (G:Nat->Option (List AV)) (f:FuncId):Prop:=∀ a b:Q2,bR 5000 a->bR 5000 b->bu P G f [V2 a,V2 b] (V2 (nh a b))
def acw (P:Program) (G:Nat->Option (List AV)) (f:FuncId):Prop:=∀ a b:Q2,bR 5000 a->bR 5000 b->bu P G f [V2 a,V2 b] (V2 (bf a b))
def LO (P:Program) (G:Nat->Option (List AV)) (f:FuncId):Prop:=∀ (a:Q2) (n:Rat),bR 5000 a->Sm 5000 n->bu P G f [V2 a,NV n] (V2 (mN a n))
def Sr (P:Program) (G:Nat->Option (List AV)) (f:FuncId):Prop:=∀ x:CX,x.Sm 5000->VP P G f [x.av] (.bool x.valid)
theorem Xk (r w:Bool) (a b c:Q2):kW [.bool false, .nils, .nils, .nils, .nils, .nils, .nils, .nils, .nils, .nils, .nils, .nils, .nils, .bool false] [(0,(1, .bool r)),(13,(1, .bool w)),(1,(4,V2 a)),(5,(4,V2 b)),(9,(4,V2 c))]=some (CX.cells ⟨r,a,b,c,w⟩):=rfl
theorem acx (x:CX):AV.agg x.cells=x.av:=rfl
section
variable {P:Program} {G:Nat->Option (List AV)}
set_option maxHeartbeats 1000000 in
theorem Qf {f fa fw fm fu fs fl fp fv:FuncId} (h:Has P f (kL fa fw fm fu fs fl fp fv)) (d:DX) (hd:d.Ok) (ha:∀ p u,ok8 p->u<256->VP P G fa [I2 p, .int .u8 ((u:Nat):Int)] (V2 (wW p u))) (hw:VP P G fw [.int .i64 0, .int .i64 0] (V2 (0,0)))
   (hm:acw P G fm) (hu:∀ n:Nat,n<256->VP P G fu [.int .u8 (n:Int)] (V2 (wV (n%16)))) (hs:LO P G fs) (hl:∀ a:Q2,bR 5000 a->VP P G fl [V2 a] (V2 (-a.2,a.1))) (hp:Xj P G fp) (hv:Sr P G fv):VP P G f [d.av] (.tup [d.iL.av, .bool d.iL.valid]):=by
 have qq:=hv d.iL ((Oo hd).mono (by omega))
 obtain ⟨h1,h2,h3,h4⟩:=hd
 have sa:=LN h1 d.unit
 have sb:=LN h2 d.unit
 have a1:=ha d.a d.unit h1 h4
 have a2:=ha d.b d.unit h2 h4
 refine VP.has h ?_
 simp only [kL]
 cases Qd:d.wU
 . have e:d.iL=⟨false,wW d.a d.unit,wW d.b d.unit,(0,0),d.cw⟩:=by unfold DX.iL;rw [if_neg (by rw [Qd];decide)]
   rw [e] at qq ⊢
   repeat (first
     | simp (disch:=first | decide | exact rfl) only [SS,DD,Nat.reduceAdd,aq,aj,Xe,acp,acq,acr,acs,acu,Qd,lu,Xk,acx,vF]
     | with_reducible refine ah (by assumption) (by simp [ab.int,LJ]) ?_
     | with_reducible refine ao (by assumption) (by simp [ab.int,cM,LJ]) ?_
     | with_reducible refine And.intro (a:=ag _ _) (by simp [ag,apart]) ?_
     | with_reducible refine VW.aS 3 (VW.of ?_)
     | with_reducible refine gy.next _ (VW.of ?_)
     | rw [au (by exact rfl) (by exact rfl) (by exact rfl) (by exact rfl) (by exact rfl)]
     | rw [gK (by exact rfl) (by exact rfl) (by exact rfl) (by exact rfl)]
     | rw [gO (by exact rfl) (by exact rfl) (by exact rfl) (by exact rfl) (by exact rfl) (by exact rfl)]
     | fail)
   refine ai▸af (r := .tup [CX.av ⟨false,wW d.a d.unit,wW d.b d.unit,(0,0),d.cw⟩, .bool (CX.valid ⟨false,wW d.a d.unit,wW d.b d.unit,(0,0),d.cw⟩)]) ?_ (ab.tup (by simp [cM,ab.bool]))
   simp (disch:=decide) only [RS,bn,bC,aj,vF]
 . have su:=On (Nat.mod_lt d.step (by decide:0<16))
   have u1:=hu d.step h3
   have m1:=hm _ _ (sb.mono (by omega)) (sa.mono (by omega))
   have sv:=sb.sub sa
   have s1:=hs _ _ (sv.mono (by omega)) (su.1.mono (by omega))
   have l1:=hl _ (sv.mono (by omega))
   have s2:=hs _ _ (sv.left.mono (by omega)) (su.2.mono (by omega))
   have p1:=hp _ _ ((sv.scale su.1).mono (by omega)) ((sv.left.scale su.2).mono (by omega))
   have p2:=hp _ _ (sa.mono (by omega)) (((sv.scale su.1).add (sv.left.scale su.2)).mono (by omega))
   have e0:kW [.int .i64 0] []=some [.int .i64 0]:=rfl
   have e1:((AV.cells (.agg [.int .i64 0])).all AV.one=true)=True:=by simp [AV.cells,AV.one]
   have e:d.iL=⟨true,wW d.b d.unit,nh (wW d.a d.unit) (nh (mN (bf (wW d.b d.unit) (wW d.a d.unit)) (wV (d.step%16)).1) (mN (-(bf (wW d.b d.unit) (wW d.a d.unit)).2,(bf (wW d.b d.unit) (wW d.a d.unit)).1) (wV (d.step%16)).2)),wW d.a d.unit,d.cw⟩:=by unfold DX.iL;rw [if_pos Qd]
   rw [e] at qq ⊢
   generalize hV:bf (wW d.b d.unit) (wW d.a d.unit)=v at *
   generalize wV (d.step%16)=w at *
   generalize hR:nh (wW d.a d.unit) (nh (mN v w.1) (mN (-v.2,v.1) w.2))=r at *
   repeat (first
     | simp (disch:=first | decide | exact rfl) only [SS,DD,Nat.reduceAdd,aq,aj,Xe,acp,acq,acr,acs,ahX,acu,Qd,lu,mY,Xk,acx,vF,Xc,Xd,acn,qV,acj,ack,e0,e1]
     | with_reducible refine ah (by assumption) (by simp [cM]) ?_
     | with_reducible refine ao (by assumption) (by simp [ab.int,b9,cM,LJ]) ?_
     | with_reducible refine And.intro (a:=ag _ _) (by simp [ag,apart]) ?_
     | with_reducible refine VW.aS 3 (VW.of ?_)
     | with_reducible refine gy.next _ (VW.of ?_)
     | rw [au (by exact rfl) (by exact rfl) (by exact rfl) (by exact rfl) (by exact rfl)]
     | rw [gK (by exact rfl) (by exact rfl) (by exact rfl) (by exact rfl)]
     | rw [gO (by exact rfl) (by exact rfl) (by exact rfl) (by exact rfl) (by exact rfl) (by exact rfl)]
     | rw [aal (by exact rfl)]
     | rw [aam (by exact rfl)]
     | rw [aan (by exact rfl)]
     | refine kU m1 (by decide) (by exact rfl) ?_
     | refine kU s1 (by decide) (by exact rfl) ?_
     | refine kU s2 (by decide) (by exact rfl) ?_
     | refine kU p1 (by decide) (by exact rfl) ?_
     | refine kU p2 (by decide) (by exact rfl) ?_
     | fail)
   refine ai▸af (r := .tup [CX.av ⟨true,wW d.b d.unit,r,wW d.a d.unit,d.cw⟩, .bool (CX.valid ⟨true,wW d.b d.unit,r,wW d.a d.unit,d.cw⟩)]) ?_ (ab.tup (by simp [cM,ab.bool]))
   simp (disch:=decide) only [RS,bn,bC,aj,vF]
end
end Go.VL
end

section
set_option linter.unusedVariables false
set_option linter.unusedVariables false
set_option maxRecDepth 100000
namespace Go.VL
open Go.Lib
def OL (q:Id) (k:Nat) (l:List AV):AV:=if l=[] then .nils else .osl q k 0 l.length false
def OB (k:Nat) (l:List AV):Option dc:=if l=[] then none else some ⟨l,k,false⟩
theorem Qg {q:Id} {k:Nat}:OL q k [] = .nils:=rfl
theorem Xl {k:Nat}:OB k []=none:=rfl
theorem Kt {q:Id} {k:Nat} {l:List AV} (h:l≠[]):OL q k l = .osl q k 0 l.length false:=if_neg h
theorem Oq {k:Nat} {l:List AV} (h:l≠[]):OB k l=some ⟨l,k,false⟩:=if_neg h
theorem Ss {q:Id} {k:Nat} {l:List AV} {x:AV}:OL q k (l++[x]) = .osl q k 0 (l.length+1) false:=by rw [Kt (by simp)];simp
theorem Xm {q:Id} {k:Nat} {x:AV}:OL q k [x] = .osl q k 0 1 false:=rfl
theorem St {k:Nat} {l:List AV} {x:AV}:OB k (l++[x])=some ⟨l++[x],k,false⟩:=Oq (by simp)
theorem LP {σ : ae} {p id QT:Id} {k bytes:Nat} {l:List AV} {x:AV} {b t:Bool} (h : σ id=some ⟨[x],k,b⟩) (h2 : σ QT=some ⟨l,k,false⟩) (hb:(l.length+1)*bytes<=140737488355328) (h0:0<bytes) (h1:x.cells.all AV.one=true) (h3:(l.all fun e=>e.cells.all AV.one)=true) :
   fK σ p k bytes (.osl QT k 0 l.length false) (.osl id k 0 1 t)=some { val := .osl p k 0 (l.length+1) false,rd:=[QT,id],up:=[(QT,none),(p,some ⟨l++[x],k,false⟩)] } :=
 yb (σ := σ) (p:=p) (id:=QT) (k:=k) (bytes:=bytes) (len:=l.length) (x := .osl id k 0 1 t) (els:=l) (ys:=[x]) (rd:=[id]) (by rw [A4 h rfl (by simp)];rfl) (by simp) h2 rfl hb (gC (by have:=Nat.le_mul_of_pos_right (l.length+1) h0;simp;omega)) (by simpa using h1) h3
theorem LQ {σ : ae} {q:Id} {k:Nat} {l:List AV} (h:l=[] ∨ σ q=some ⟨l,k,false⟩) (hk:∀ e∈l,e.size=k) (hp:∀ c∈flat l,ab c):View σ (OL q k l) (.sl k l):=by
 by_cases hl:l=[]
 . subst hl;exact View.nils k
 . rw [Kt hl]
   exact View.osl (bk:=⟨l,k,false⟩) (h.resolve_left hl) rfl (by simp) (by simpa using az.pure hp) (by simp) hk
theorem Ku {α β : Type} {l:List α} {i:Nat} {x : α} {f : α -> β} (h:l[i]? = some x):(l.take (i+1)).map f=(l.take i).map f++[f x]:=by
 rw [List.take_add_one,h];simp
abbrev YQ (l:List CX):AV := .sl 14 (l.map CX.av)
abbrev Pk (l:List DX):AV := .sl 8 (l.map DX.av)
theorem Im (l:List CX):∀ c∈flat (l.map CX.av),ab c:=by
 intro c hc
 simp only [flat,List.mem_flatMap,List.mem_map] at hc
 obtain ⟨_,⟨x,_,rfl⟩,hc⟩:=hc
 exact Ii x c hc
theorem fH (l:List CX):ab (YQ l):=ab.sl (Im l)
theorem Xn (l:List DX):ab (Pk l):=ab.sl (by
 intro c hc
 simp only [flat,List.mem_flatMap,List.mem_map] at hc
 obtain ⟨_,⟨x,_,rfl⟩,hc⟩:=hc
 simp only [DX.av,AV.cells,List.mem_cons,List.not_mem_nil,or_false] at hc
 rcases hc with rfl | rfl | rfl | rfl | rfl | rfl | rfl | rfl<;>first | exact ab.bool _ | exact ab.int _ _)
theorem LR {l:List DX} {i:Nat} {x:DX} (h:l[i]? = some x):bK 8 (Pk l) (.int .i64 (i:Int))=some (.ep x.av.cells 0):=fG rfl (by rw [List.getElem?_map,h];rfl)
theorem LS {l:List CX} {i:Nat} {x:CX} (h:l[i]? = some x):bK 14 (YQ l) (.int .i64 (i:Int))=some (.ep x.av.cells 0):=fG rfl (by rw [List.getElem?_map,h];rfl)
theorem q8 {α : Type} {f : α -> AV} (h:∀ x,((f x).cells.all AV.one=true)=True) (l:List α):((l.map f).all fun e=>e.cells.all AV.one)=true:=by
 rw [List.all_eq_true];intro e he;obtain ⟨x,_,rfl⟩:=List.mem_map.1 he;exact of_eq_true (h x)
section
variable {P:Program} {G:Nat->Option (List AV)}
set_option maxHeartbeats 1000000 in
theorem Ot {f fc:FuncId} (h:Has P f (gY fc)) (ds:List DX) (hc:∀ d∈ds,VP P G fc [d.av] (.tup [d.iL.av, .bool d.iL.valid])) (hl:ds.length<=1000000) :
   VP P G f [Pk ds, .int .i64 6] (if 6<ds.length∨(ds.any (fun d:DX => !d.iL.valid))=true then .tup [.nils, .bool false] else .tup [YQ (ds.map DX.iL), .bool true]):=by
 refine VP.has h ?_
 simp only [gY]
 by_cases h6:6<ds.length
 . have d0:decide ((6:Int)<(ds.length:Int))=true:=aw (by omega)
   rw [if_pos (.inl h6)]
   repeat (first
     | simp (disch:=first | decide | exact rfl) only [SS,Nat.reduceAdd,List.length_map,d0]
     | with_reducible refine ah (by assumption) (by simp [aA,aC,aR,ab.int,ab.bool,ab.str,cE,aW,bH,b9,cM,e7,bJ,n6,lV]) ?_
     | with_reducible refine ao (by assumption) (by simp [aA,aC,aR,ab.int,ab.bool,ab.str,cE,aW,bH,b9,cM,e7,bJ,n6,lV]) ?_
     | with_reducible refine And.intro (a:=ag _ _) (by simp [ag,apart]) ?_
     | with_reducible refine VW.aS 3 (VW.of ?_)
     | with_reducible refine gy.next _ (VW.of ?_)
     | rw [au (by exact rfl) (by exact rfl) (by exact rfl) (by exact rfl) (by exact rfl)]
     | rw [gK (by exact rfl) (by exact rfl) (by exact rfl) (by exact rfl)]
     | rw [gO (by exact rfl) (by exact rfl) (by exact rfl) (by exact rfl) (by exact rfl) (by exact rfl)]
     | fail)
   exact ai▸af rfl (ab.tup (by simp [cE,ab.bool]))
 have d0:decide ((6:Int)<(ds.length:Int))=false:=ak (by omega)
 simp only [SS,Nat.reduceAdd,List.length_map,d0,aY]
 refine VW.e9 (α := Nat × Nat × Nat) (fun y=>⟨[Pk ds, .int .i64 6, .top, .top, .top, .top,OL [y.2.2] 14 ((ds.take y.1).map fun d:DX=>d.iL.av), .int .i64 (y.1:Nat)]++List.replicate 27 .top,ae.put (fun _=>none) [y.2.2] (OB 14 ((ds.take y.1).map fun d:DX=>d.iL.av)),y.2.1⟩)
   (fun y=>y.1<=ds.length/\y.2.2<y.2.1/\tC ds (fun d:DX => !d.iL.valid) y.1) (fun y=>ds.length-y.1) (0,1000,0) ?_ ?_ ?_
 . exact Wk.forget (by simp [Fg,List.replicate,OL]) (fun j => .inl (by simp [ae.put,OB])) (by simp only [];omega)
 . exact ⟨Nat.zero_le _,by decide,fun j e hj=>absurd hj (Nat.not_lt_zero j)⟩
 rintro ⟨i,m,q⟩ ⟨hi,hq,hn⟩
 simp only [] at hi hq hn
 by_cases hlt:i<ds.length
 . obtain ⟨x,hx⟩:∃ x,ds[i]? = some x:=⟨ds[i],by simp [hlt]⟩
   have d:decide ((i:Int)<(ds.length:Int))=true:=aw (by omega)
   have hv:=hc x (List.mem_of_getElem? hx)
   have Xo:=Ku (f:=fun d:DX=>d.iL.av) hx
   have Es:(((ds.take i).map fun d:DX=>d.iL.av).all fun e=>e.cells.all AV.one)=true:=q8 (f:=fun d:DX=>d.iL.av) (fun d=>Ij d.iL) _
   have hlen:((ds.take i).map fun d:DX=>d.iL.av).length<=6:=by simp;omega
   simp only []
   generalize hL:((ds.take i).map fun d:DX=>d.iL.av)=L at *
   have hnq:∀ j,m<=j->([j]:Id)≠[q]:=fun j hj=>by simp;omega
   cases hb:x.iL.valid<;>rw [hb] at hv
   . by_cases YR:L=[]
     . rw [YR]
       repeat (first
         | simp (disch:=first | decide | exact rfl) only [SS,Nat.reduceAdd,g0,g1,List.length_map,d,LR hx,aK,LK,lu,Qg]
         | with_reducible refine ah (by assumption) (by simp [n6]) ?_
         | with_reducible refine ao (by assumption) (by simp [n6]) ?_
         | with_reducible refine And.intro (a:=ag _ _) (by simp [ag,apart]) ?_
         | with_reducible refine VW.aS 3 (VW.of ?_)
         | with_reducible refine gy.next _ (VW.of ?_)
         | rw [au (by repeat (first | exact gP | refine (jM (by simp)).trans ?_)) (by exact rfl) (by exact rfl) (by exact rfl) (by exact rfl)]
         | rw [gK (by exact rfl) (by exact rfl) (by exact rfl) (by exact rfl)]
         | rw [gO (by exact rfl) (by exact rfl) (by exact rfl) (by exact rfl) (by exact rfl) (by exact rfl)]
         | fail)
       rw [if_pos (.inr (LL hx (by simp [hb])))]
       exact ai▸af rfl (ab.tup (by simp [cE,ab.bool]))
     . rw [Kt YR]
       repeat (first
         | simp (disch:=first | decide | exact rfl) only [SS,Nat.reduceAdd,g0,g1,List.length_map,d,LR hx,aK,LK,lu]
         | with_reducible refine ah (by assumption) (by simp [n6]) ?_
         | with_reducible refine ao (by assumption) (by simp [n6]) ?_
         | with_reducible refine And.intro (a:=ag _ _) (by simp [ag,apart]) ?_
         | with_reducible refine VW.aS 3 (VW.of ?_)
         | with_reducible refine gy.next _ (VW.of ?_)
         | rw [au (by repeat (first | exact gP | refine (jM (by simp)).trans ?_)) (by exact rfl) (by exact rfl) (by exact rfl) (by exact rfl)]
         | rw [gK (by exact rfl) (by exact rfl) (by exact rfl) (by exact rfl)]
         | rw [gO (by exact rfl) (by exact rfl) (by exact rfl) (by exact rfl) (by exact rfl) (by exact rfl)]
         | fail)
       rw [if_pos (.inr (LL hx (by simp [hb])))]
       exact ai▸af rfl (ab.tup (by simp [cE,ab.bool]))
   . by_cases YR:L=[]
     . subst YR
       repeat (first
         | simp (disch:=first | decide | exact rfl) only [SS,Nat.reduceAdd,aj,g0,g1,List.length_map,d,LR hx,aK,LK,vF,lu,Qg,Xl,aD i (by omega)]
         | with_reducible refine ah (by assumption) (by simp [n6]) ?_
         | with_reducible refine ao (by assumption) (by simp [n6]) ?_
         | with_reducible refine And.intro (a:=ag _ _) (by simp [ag,apart]) ?_
         | with_reducible refine VW.aS 3 (VW.of ?_)
         | with_reducible refine gy.next _ (VW.of ?_)
         | rw [au (by repeat (first | exact gP | refine (jM (by simp)).trans ?_)) (by exact rfl) (by exact rfl) (by exact rfl) (by exact rfl)]
         | rw [gK (by exact rfl) (by exact rfl) (by exact rfl) (by exact rfl)]
         | rw [gO (by exact rfl) (by exact rfl) (by exact rfl) (by exact rfl) (by exact rfl) (by exact rfl)]
         | rw [P8 gP (by decide) (by exact rfl)]
         | fail)
       refine ⟨(i+1,_,m+4+11+2+3),⟨hlt, ?_,hn.succ hx (by simp [hb])⟩,by simp only [];omega,Wk.forget (by simp [Fg,Xo,Xm]) (fun j => ?_) (Nat.le_refl _)⟩
       . simp only [];omega
       . rw [Xo];simp only [ae.put,List.nil_append];split<;>simp_all [OB]
     . rw [Kt YR,Oq YR]
       repeat (first
         | simp (disch:=first | decide | exact rfl) only [SS,Nat.reduceAdd,aj,g0,g1,List.length_map,d,LR hx,aK,LK,vF,lu,aD i (by omega)]
         | with_reducible refine ah (by assumption) (by simp [n6]) ?_
         | with_reducible refine ao (by assumption) (by simp [n6]) ?_
         | with_reducible refine And.intro (a:=ag _ _) (by simp [ag,apart]) ?_
         | with_reducible refine VW.aS 3 (VW.of ?_)
         | with_reducible refine gy.next _ (VW.of ?_)
         | rw [au (by repeat (first | exact gP | refine (jM (by simp)).trans ?_)) (by exact rfl) (by exact rfl) (by exact rfl) (by exact rfl)]
         | rw [gK (by exact rfl) (by exact rfl) (by exact rfl) (by exact rfl)]
         | rw [gO (by exact rfl) (by exact rfl) (by exact rfl) (by exact rfl) (by exact rfl) (by exact rfl)]
         | rw [LP (l:=L) gP (by repeat (first | exact gP | refine (jM (by simp;omega)).trans ?_)) (by omega) (by decide) (by exact rfl) Es]
         | fail)
       refine ⟨(i+1,_,m+4+11+2+3),⟨hlt, ?_,hn.succ hx (by simp [hb])⟩,by simp only [];omega,Wk.forget (by simp [Fg,Xo,Ss]) (fun j => ?_) (Nat.le_refl _)⟩
       . simp only [];omega
       . rw [Xo,St];simp only [ae.put];split<;>simp_all
 . have d:decide ((i:Int)<(ds.length:Int))=false:=ak (by omega)
   have hii:i=ds.length:=by omega
   subst hii
   rw [if_neg (by simp only [not_or];exact ⟨h6,by rw [hn.any (Nat.le_refl _)];decide⟩)]
   simp only [List.take_length]
   repeat (first
     | simp (disch:=first | decide | exact rfl) only [SS,Nat.reduceAdd,List.length_map,d]
     | with_reducible refine ah (by assumption) (by simp [aA,aC,aR,ab.int,ab.bool,ab.str,cE,aW,bH,b9,cM,e7,bJ,n6,lV]) ?_
     | with_reducible refine ao (by assumption) (by simp [aA,aC,aR,ab.int,ab.bool,ab.str,cE,aW,bH,b9,cM,e7,bJ,n6,lV]) ?_
     | with_reducible refine And.intro (a:=ag _ _) (by simp [ag,apart]) ?_
     | with_reducible refine VW.aS 3 (VW.of ?_)
     | with_reducible refine gy.next _ (VW.of ?_)
     | rw [au (by repeat (first | exact gP | refine (jM (by simp)).trans ?_)) (by exact rfl) (by exact rfl) (by exact rfl) (by exact rfl)]
     | rw [gK (by exact rfl) (by exact rfl) (by exact rfl) (by exact rfl)]
     | rw [gO (by exact rfl) (by exact rfl) (by exact rfl) (by exact rfl) (by exact rfl) (by exact rfl)]
     | fail)
   refine ai▸⟨_,rfl,View.tup (.cons ?_ (.cons (View.pure (ab.bool _)) .nil))⟩
   have e:(ds.map fun d:DX=>d.iL.av)=(ds.map DX.iL).map CX.av:=by rw [List.map_map];rfl
   rw [e]
   refine LQ ?_ (by intro a ha;obtain ⟨y,_,rfl⟩:=List.mem_map.1 ha;rfl) (Im _)
   by_cases h0:(ds.map DX.iL).map CX.av=[]
   . exact .inl h0
   . right;simp only [ae.put,if_true];exact Oq h0
def named (cs:List CX):List NX:=cs.mapIdx fun i c=>⟨[107,47]++decDigits i,c⟩
theorem Qh {cs:List CX} {i:Nat} {x:CX} (h:cs[i]? = some x):(named (cs.take (i+1))).map NX.av=(named (cs.take i)).map NX.av++[NX.av ⟨[107,47]++decDigits i,x⟩]:=by
 have hlt:=(List.getElem?_eq_some_iff.1 h).1
 unfold named
 rw [List.take_add_one,h,List.mapIdx_append]
 simp [List.length_take,Nat.min_eq_left (Nat.le_of_lt hlt)]
theorem Xp (s:List UInt8) (x:CX):kW [.str [], .bool false, .nils, .nils, .nils, .nils, .nils, .nils, .nils, .nils, .nils, .nils, .nils, .nils, .bool false] [(0,(1, .str s)),(1,(14,x.av))]=some (.str s::x.cells):=rfl
theorem acy (s:List UInt8) (x:CX):AV.agg (.str s::x.cells)=NX.av ⟨s,x⟩:=rfl
set_option maxHeartbeats 1000000 in
theorem Uf {f fc fd:FuncId} (h:Has P f (lH fc fd)) (ds:List DX) (b:Bool) (cs:List CX) (hb:b=false->cs=[]) (hl:cs.length<=6) (hc:VP P G fc [Pk ds, .int .i64 6] (if b=true then .tup [YQ cs, .bool true] else .tup [.nils, .bool false])) (hd:∀ n:Nat,n<1000->VP P G fd [.int .i64 (n:Int)] (.str (decDigits n))) :
   VP P G f [Pk ds] (.tup [vG (named cs), .bool b]):=by
 refine VP.has h ?_
 simp only [lH]
 have hp0:∀ c∈[Pk ds, .int .i64 6],ab c:=by simp [Xn,ab.int]
 cases b
 . rw [hb rfl]
   rw [if_neg (by decide)] at hc
   simp only [SS,Nat.reduceAdd]
   refine ah hc hp0 ?_
   repeat (first
     | simp (disch:=first | decide | exact rfl) only [SS,Nat.reduceAdd,aY,ZZ,g0,g1]
     | with_reducible refine ah (by assumption) (by simp [ab.int]) ?_
     | with_reducible refine ao (by assumption) (by simp [ab.int]) ?_
     | with_reducible refine And.intro (a:=ag _ _) (by simp [ag,apart]) ?_
     | with_reducible refine VW.aS 3 (VW.of ?_)
     | with_reducible refine gy.next _ (VW.of ?_)
     | rw [au (by exact rfl) (by exact rfl) (by exact rfl) (by exact rfl) (by exact rfl)]
     | rw [gK (by exact rfl) (by exact rfl) (by exact rfl) (by exact rfl)]
     | rw [gO (by exact rfl) (by exact rfl) (by exact rfl) (by exact rfl) (by exact rfl) (by exact rfl)]
     | fail)
   exact ai▸⟨_,rfl,View.tup (.cons (View.nils 15) (.cons (View.pure (ab.bool _)) .nil))⟩
 rw [if_pos rfl] at hc
 simp only [SS,Nat.reduceAdd]
 refine ah hc hp0 ?_
 simp only [SS,Nat.reduceAdd,g0,g1,aY]
 refine VW.e9 (α := Nat × Nat × Nat) (fun y=>⟨[Pk ds, .top, .top, .top,YQ cs, .bool true,OL [y.2.2] 15 ((named (cs.take y.1)).map NX.av), .int .i64 (y.1:Nat)]++List.replicate 24 .top,ae.put (fun _=>none) [y.2.2] (OB 15 ((named (cs.take y.1)).map NX.av)),y.2.1⟩)
   (fun y=>y.1<=cs.length/\y.2.2<y.2.1) (fun y=>cs.length-y.1) (0,1000,0) ?_ ⟨Nat.zero_le _,by decide⟩ ?_
 . exact Wk.forget (by simp [Fg,List.replicate,OL,named]) (fun j => .inl (by simp [ae.put,OB,named])) (by simp only [];omega)
 rintro ⟨i,m,q⟩ ⟨hi,hq⟩
 simp only [] at hi hq
 by_cases hlt:i<cs.length
 . obtain ⟨x,hx⟩:∃ x,cs[i]? = some x:=⟨cs[i],by simp [hlt]⟩
   have d:decide ((i:Int)<(cs.length:Int))=true:=aw (by omega)
   have hv:=hd i (by omega)
   have Xo:=Qh hx
   have Es:(((named (cs.take i)).map NX.av).all fun e=>e.cells.all AV.one)=true:=q8 LM _
   have hlen:((named (cs.take i)).map NX.av).length<=6:=by simp [named];omega
   have ah2:bP .add .str (.str [107,47]) (.str (decDigits i))=some (.str ([107,47]++decDigits i)):=uC (by rw [tv (by omega)];simp)
   simp only []
   generalize ([107,47]++decDigits i)=nm at *
   generalize hL:(named (cs.take i)).map NX.av=L at *
   by_cases YR:L=[]
   . subst YR
     repeat (first
       | simp (disch:=first | decide | exact rfl) only [SS,DD,Nat.reduceAdd,List.length_map,d,LS hx,aK,vF,ah2,Xp,acy,Qg,Xl,aD i (by omega)]
       | with_reducible refine ah (by assumption) (by simp [ab.int]) ?_
       | with_reducible refine ao (by assumption) (by simp [ab.int]) ?_
       | with_reducible refine And.intro (a:=ag _ _) (by simp [ag,apart]) ?_
       | with_reducible refine VW.aS 3 (VW.of ?_)
       | with_reducible refine gy.next _ (VW.of ?_)
       | rw [au (by repeat (first | exact gP | refine (jM (by simp)).trans ?_)) (by exact rfl) (by exact rfl) (by exact rfl) (by exact rfl)]
       | rw [gK (by exact rfl) (by exact rfl) (by exact rfl) (by exact rfl)]
       | rw [gO (by exact rfl) (by exact rfl) (by exact rfl) (by exact rfl) (by exact rfl) (by exact rfl)]
       | rw [P8 gP (by decide) (by exact rfl)]
       | fail)
     refine ⟨(i+1,_,m+4+10),⟨hlt, ?_⟩,by simp only [];omega,Wk.forget (by simp [Fg,Xo,Xm]) (fun j => ?_) (Nat.le_refl _)⟩
     . simp only [];omega
     . rw [Xo];simp only [ae.put,List.nil_append];split<;>simp_all [OB]
   . rw [Kt YR,Oq YR]
     repeat (first
       | simp (disch:=first | decide | exact rfl) only [SS,DD,Nat.reduceAdd,List.length_map,d,LS hx,aK,vF,ah2,Xp,acy,aD i (by omega)]
       | with_reducible refine ah (by assumption) (by simp [ab.int]) ?_
       | with_reducible refine ao (by assumption) (by simp [ab.int]) ?_
       | with_reducible refine And.intro (a:=ag _ _) (by simp [ag,apart]) ?_
       | with_reducible refine VW.aS 3 (VW.of ?_)
       | with_reducible refine gy.next _ (VW.of ?_)
       | rw [au (by repeat (first | exact gP | refine (jM (by simp)).trans ?_)) (by exact rfl) (by exact rfl) (by exact rfl) (by exact rfl)]
       | rw [gK (by exact rfl) (by exact rfl) (by exact rfl) (by exact rfl)]
       | rw [gO (by exact rfl) (by exact rfl) (by exact rfl) (by exact rfl) (by exact rfl) (by exact rfl)]
       | rw [LP (l:=L) gP (by repeat (first | exact gP | refine (jM (by simp;omega)).trans ?_)) (by omega) (by decide) (by exact rfl) Es]
       | fail)
     refine ⟨(i+1,_,m+4+10),⟨hlt, ?_⟩,by simp only [];omega,Wk.forget (by simp [Fg,Xo,Ss]) (fun j => ?_) (Nat.le_refl _)⟩
     . simp only [];omega
     . rw [Xo,St];simp only [ae.put];split<;>simp_all
 . have d:decide ((i:Int)<(cs.length:Int))=false:=ak (by omega)
   have hii:i=cs.length:=by omega
   subst hii
   simp only [List.take_length]
   repeat (first
     | simp (disch:=first | decide | exact rfl) only [SS,Nat.reduceAdd,List.length_map,d]
     | with_reducible refine ah (by assumption) (by simp [ab.int]) ?_
     | with_reducible refine ao (by assumption) (by simp [ab.int]) ?_
     | with_reducible refine And.intro (a:=ag _ _) (by simp [ag,apart]) ?_
     | with_reducible refine VW.aS 3 (VW.of ?_)
     | with_reducible refine gy.next _ (VW.of ?_)
     | rw [au (by repeat (first | exact gP | refine (jM (by simp)).trans ?_)) (by exact rfl) (by exact rfl) (by exact rfl) (by exact rfl)]
     | rw [gK (by exact rfl) (by exact rfl) (by exact rfl) (by exact rfl)]
     | rw [gO (by exact rfl) (by exact rfl) (by exact rfl) (by exact rfl) (by exact rfl) (by exact rfl)]
     | fail)
   refine ai▸⟨_,rfl,View.tup (.cons (LQ ?_ (by intro a ha;obtain ⟨y,_,rfl⟩:=List.mem_map.1 ha;rfl) (Ik _)) (.cons (View.pure (ab.bool _)) .nil))⟩
   by_cases h0:(named cs).map NX.av=[]
   . exact .inl h0
   . right;simp only [ae.put,if_true];exact Oq h0
end
end Go.VL
end

section
set_option linter.unusedVariables false
set_option linter.unusedVariables false
set_option maxRecDepth 100000
namespace Go.VL
open Go.Lib
def CX.shift (x:CX) (w:Q2):CX:=⟨x.wU,nh x.a w,nh x.b w,if x.wU then nh x.c w else x.c,x.cw⟩
def bh (l:List NX) (s:List UInt8):CX:=match l[(jK l s).toNat]? with | some x=>x.c | none=>⟨false,(0,0),(0,0),(0,0),false⟩
theorem aep {i:Nat} (h:i<1000):(decDigits i).length<=3:=by
 by_cases h1:i<10
 . rw [tv h1];simp
 . rw [Ic h1]
   by_cases h2:i/10<10
   . rw [tv h2];simp
   . rw [Ic h2,tv (by omega)];simp
theorem D8 {l:List NX} {s:List UInt8} (h : ¬ jK l s<0):∃ (k:Nat) (x:NX),jK l s=(k:Int)/\l[k]? = some x/\x.name=s/\bh l s=x.c:=by
 unfold jK at h ⊢
 cases hf:l.findIdx? fun x=>x.name==s with
 | none=>rw [hf] at h;simp [CJ] at h
 | some k =>
   rw [List.findIdx?_eq_some_iff_getElem] at hf
   obtain ⟨hlt,he,_⟩:=hf
   refine ⟨k,l[k],rfl,by simp [hlt],by simpa using he, ?_⟩
   have h2:jK l s=(k:Int):=by
     unfold jK
     have:(l.findIdx? fun x=>x.name==s)=some k:=by rw [List.findIdx?_eq_some_iff_getElem];exact ⟨hlt,he,by assumption⟩
     rw [this];rfl
   unfold bh
   rw [h2];simp [hlt]
theorem CZ {nm:List UInt8} {l:List NX} {ins:List (List UInt8)} (h:dI nm l ins=0):e6 nm=true/\ins≠[]/\∀ s∈ins, ¬ jK l s<0:=by
 unfold dI at h
 split at h
 . cases h
 rename_i h1
 split at h
 . cases h
 split at h
 . cases h
 rename_i h3
 refine ⟨by simp only [not_or] at h1;simpa using h1.1,fun e=>h1 (.inr e),fun s hs hn=>h3 (List.any_eq_true.2 ⟨s,hs,decide_eq_true hn⟩)⟩
section
variable {P:Program} {G:Nat->Option (List AV)}
end
end Go.VL
end

section
set_option linter.unusedVariables false
set_option linter.unusedVariables false
set_option maxRecDepth 100000
namespace Go.VL
open Go.Lib
theorem Gz {σ : ae} {p:Id} {a c:Nat} {b:Option dc} (h:c≠a):(σ.put (a::p) b) (c::p) = σ (c::p):=jM (by simp [h])
theorem Ou {σ : ae}:∀ i,(fun _=>none:ae) i=none∨(fun _=>none:ae) i = σ i:=fun _ => .inl rfl
theorem Su {σ σ':ae} {id:Id} {b:Option dc} (h : σ id=b) (hs:∀ i, σ' i=none ∨ σ' i = σ i) (i:Id):(σ'.put id b) i=none∨(σ'.put id b) i = σ i:=by
 by_cases e:i=id
 . subst e;right;rw [gP,h]
 . rw [jM e];exact hs i
section
variable {P:Program} {G:Nat->Option (List AV)} {Q:bM->VS->Prop}
end
end Go.VL
end

section
set_option linter.unusedVariables false
set_option linter.unusedVariables false
set_option maxRecDepth 100000
namespace Go.VL
open Go.Lib
theorem Kv (q:Rat):decide (aZ q=0)=decide (q=0):=by congr 1;exact propext P5
section
variable {P:Program} {G:Nat->Option (List AV)} {Q:bM->VS->Prop}
end
section
variable {P:Program} {G:Nat->Option (List AV)}
end
end Go.VL
end

section
set_option linter.unusedVariables false
set_option linter.unusedVariables false
set_option maxRecDepth 100000
namespace Go.VL
open Go.Lib
section
variable {P:Program} {G:Nat->Option (List AV)}
theorem ah3 {s:List UInt8}:part false [AV.str s] 0 1=some (.str s):=rfl
theorem aar {s:List UInt8}:((AV.str s).cells.all AV.one=true)=True:=by simp [AV.cells,AV.one]
theorem aas {s:List UInt8}:ab (.ep [.str s] 0):=ab.ep (by simp [ab.str])
theorem Qi {f:FuncId} (h:Has P f pG) (x:NX) (nm:List UInt8):VP P G f [x.av, .ep [.str nm] 0] (.bool (x.name==nm)):=by
 refine VP.has h ?_
 simp only [pG]
 repeat (first
   | simp (disch:=first | decide | exact rfl) only [SS,Nat.reduceAdd,aj,LM,ah0,aK,ah3]
   | with_reducible refine ah (by assumption) (by simp [aA,aC,aR,ab.int,ab.bool,ab.str,cE,aW,bH,b9,cM,e7,bJ,bz,fH,lV]) ?_
   | with_reducible refine ao (by assumption) (by simp [aA,aC,aR,ab.int,ab.bool,ab.str,cE,aW,bH,b9,cM,e7,bJ,bz,fH,lV]) ?_
   | with_reducible refine And.intro (a:=ag _ _) (by simp [ag,apart]) ?_
   | with_reducible refine VW.aS 3 (VW.of ?_)
   | with_reducible refine gy.next _ (VW.of ?_)
   | rw [au (by exact rfl) (by exact rfl) (by exact rfl) (by exact rfl) (by exact rfl)]
   | rw [gK (by exact rfl) (by exact rfl) (by exact rfl) (by exact rfl)]
   | rw [gO (by exact rfl) (by exact rfl) (by exact rfl) (by exact rfl) (by exact rfl) (by exact rfl)]
   | fail)
 exact ai▸af rfl (ab.bool _)
theorem ub {f fw:FuncId} (h:Has P f dU) {a c:List AV} {l:List NX} {p:NX->Bool} (hw:∀ e∈l,VP P G fw (a++[e.av]++c) (.bool (p e)))
   (ha:∀ x∈a,ab x) (hc:∀ x∈c,ab x) (hl:l.length<=1000000):VP P G f [vG l, .fn (.func fw) a c] (.int .i64 (CJ (l.findIdx? p))):=by
 refine VP.has h ?_
 simp only [dU,SS,Nat.reduceAdd,aY]
 refine VW.scan l p (fun i=>[vG l, .fn (.func fw) a c, .top, .top, .top, .top, .top, .int .i64 l.length, .int .i64 i]++List.replicate 10 .top) (fun _=>none) 1000 (Wk.slots (by simp [Fg,List.replicate]) (by omega)) (fun i m x hx hlt hn d => ?_) (fun m hn d => ?_)
 . have hm:=List.mem_of_getElem? hx
   have hv:=hw x hm
   have acz:∀ y∈a++[x.av]++c,ab y:=by
     intro y hy
     simp only [List.mem_append,List.mem_singleton] at hy
     rcases hy with (hy | rfl) | hy
     . exact ha y hy
     . exact e7 _
     . exact hc y hy
   cases hb:p x<;>rw [hb] at hv<;>replace hv:=fun _:Unit=>hv
   . skip
     repeat (first
       | simp (disch:=first | decide | exact rfl) only [SS,Nat.reduceAdd,d,Il hx,aK,Xi,aD i (by omega)]
       | with_reducible refine ah (by assumption) (by simp [aA,aC,aR,ab.int,ab.bool,ab.str,cE,aW,bH,b9,cM,e7,bJ,bz,fH,lV]) ?_
       | with_reducible refine ao (by assumption) (by simp [aA,aC,aR,ab.int,ab.bool,ab.str,cE,aW,bH,b9,cM,e7,bJ,bz,fH,lV]) ?_
       | with_reducible refine And.intro (a:=ag _ _) (by simp [ag,apart]) ?_
       | with_reducible refine VW.aS 3 (VW.of ?_)
       | with_reducible refine gy.next _ (VW.of ?_)
       | rw [au (by exact rfl) (by exact rfl) (by exact rfl) (by exact rfl) (by exact rfl)]
       | rw [gK (by exact rfl) (by exact rfl) (by exact rfl) (by exact rfl)]
       | rw [gO (by exact rfl) (by exact rfl) (by exact rfl) (by exact rfl) (by exact rfl) (by exact rfl)]
       | refine ah (hv ()) acz ?_
       | fail)
     exact ⟨(i+1,_),⟨hlt,hn.succ hx hb⟩,by simp only [];omega,Wk.slots (by simp [Fg]) (Nat.le_refl _)⟩
   . skip
     repeat (first
       | simp (disch:=first | decide | exact rfl) only [SS,Nat.reduceAdd,d,Il hx,aK,Xi]
       | with_reducible refine ah (by assumption) (by simp [aA,aC,aR,ab.int,ab.bool,ab.str,cE,aW,bH,b9,cM,e7,bJ,bz,fH,lV]) ?_
       | with_reducible refine ao (by assumption) (by simp [aA,aC,aR,ab.int,ab.bool,ab.str,cE,aW,bH,b9,cM,e7,bJ,bz,fH,lV]) ?_
       | with_reducible refine And.intro (a:=ag _ _) (by simp [ag,apart]) ?_
       | with_reducible refine VW.aS 3 (VW.of ?_)
       | with_reducible refine gy.next _ (VW.of ?_)
       | rw [au (by exact rfl) (by exact rfl) (by exact rfl) (by exact rfl) (by exact rfl)]
       | rw [gK (by exact rfl) (by exact rfl) (by exact rfl) (by exact rfl)]
       | rw [gO (by exact rfl) (by exact rfl) (by exact rfl) (by exact rfl) (by exact rfl) (by exact rfl)]
       | refine ah (hv ()) acz ?_
       | fail)
     rw [r6 hx hb hn]
     exact ai▸af rfl (ab.int _ _)
 . skip
   repeat (first
     | simp (disch:=first | decide | exact rfl) only [SS,d]
     | with_reducible refine ah (by assumption) (by simp [aA,aC,aR,ab.int,ab.bool,ab.str,cE,aW,bH,b9,cM,e7,bJ,bz,fH,lV]) ?_
     | with_reducible refine ao (by assumption) (by simp [aA,aC,aR,ab.int,ab.bool,ab.str,cE,aW,bH,b9,cM,e7,bJ,bz,fH,lV]) ?_
     | with_reducible refine And.intro (a:=ag _ _) (by simp [ag,apart]) ?_
     | with_reducible refine VW.aS 3 (VW.of ?_)
     | with_reducible refine gy.next _ (VW.of ?_)
     | rw [au (by exact rfl) (by exact rfl) (by exact rfl) (by exact rfl) (by exact rfl)]
     | rw [gK (by exact rfl) (by exact rfl) (by exact rfl) (by exact rfl)]
     | rw [gO (by exact rfl) (by exact rfl) (by exact rfl) (by exact rfl) (by exact rfl) (by exact rfl)]
     | fail)
   rw [yc (fun j e hj=>hn j e (List.getElem?_eq_some_iff.1 hj).1 hj)]
   exact ai▸af rfl (ab.int _ _)
theorem Ug {f f1 fi:FuncId} (h:Has P f (rG f1 fi)) (l:List NX) (nm:List UInt8) (hi:VP P G fi [vG l, .fn (.func f1) [] [.ep [.str nm] 0]] (.int .i64 (jK l nm))):VP P G f [vG l, .str nm] (.int .i64 (jK l nm)):=by
 refine VP.has h ?_
 simp only [rG]
 repeat (first
   | simp (disch:=first | decide | exact rfl) only [SS,Nat.reduceAdd,aej,aar]
   | with_reducible refine ah (by assumption) (by simp [bJ]) ?_
   | with_reducible refine ao (by assumption) (by simp [bJ]) ?_
   | with_reducible refine And.intro (a:=ag _ _) (by simp [ag,apart]) ?_
   | with_reducible refine VW.aS 3 (VW.of ?_)
   | with_reducible refine gy.next _ (VW.of ?_)
   | rw [au (by exact rfl) (by exact rfl) (by exact rfl) (by exact rfl) (by exact rfl)]
   | rw [gK (by exact rfl) (by exact rfl) (by exact rfl) (by exact rfl)]
   | rw [gO (by exact rfl) (by exact rfl) (by exact rfl) (by exact rfl) (by exact rfl) (by exact rfl)]
   | refine cA [([0],⟨[.str nm],1,false⟩)] hi (az.cons (View.pure (bJ l)) (az.cons (View.fn az.nil (az.cons (View.ref (bk:=⟨[.str nm],1,false⟩) (by simp [ae.of]) rfl (az.pure (by simp [AV.cells,ab.str]))) az.nil)) az.nil)) (by simp [ae.put,AV.size,AV.cells]) ?_
   | fail)
 exact ai▸af rfl (ab.int _ _)
theorem Xq {f fi:FuncId} (h:Has P f (mE fi)) (l:List NX) (nm:List UInt8) (hi:VP P G fi [vG l, .str nm] (.int .i64 (jK l nm))) (hf : ¬ jK l nm<0):VP P G f [vG l, .str nm] (.tup [(bh l nm).av, .bool true]):=by
 obtain ⟨k,z,hk,hz,hzn,hcu⟩:=D8 hf
 rw [hk] at hi
 rw [hcu]
 have d1:decide ((k:Int)<0)=false:=ak (by omega)
 refine VP.has h ?_
 simp only [mE]
 repeat (first
   | simp (disch:=first | decide | exact rfl) only [SS,Nat.reduceAdd,d1,Il hz,aK,ah1,lu]
   | with_reducible refine ah (by assumption) (by simp [ab.str,bJ]) ?_
   | with_reducible refine ao (by assumption) (by simp [ab.str,bJ]) ?_
   | with_reducible refine And.intro (a:=ag _ _) (by simp [ag,apart]) ?_
   | with_reducible refine VW.aS 3 (VW.of ?_)
   | with_reducible refine gy.next _ (VW.of ?_)
   | rw [au (by exact rfl) (by exact rfl) (by exact rfl) (by exact rfl) (by exact rfl)]
   | rw [gK (by exact rfl) (by exact rfl) (by exact rfl) (by exact rfl)]
   | rw [gO (by exact rfl) (by exact rfl) (by exact rfl) (by exact rfl) (by exact rfl) (by exact rfl)]
   | fail)
 refine ai▸af (r := .tup [z.c.av, .bool true]) ?_ (ab.tup (by simp [cM,ab.bool]))
 simp (disch:=decide) only [RS,bn,bC,aj,vF]
theorem Uh {f fi:FuncId} (h:Has P f (mE fi)) (l:List NX) (nm:List UInt8) (hi:VP P G fi [vG l, .str nm] (.int .i64 (jK l nm))) (hf:jK l nm<0):VP P G f [vG l, .str nm] (.tup [zC, .bool false]):=by
 have d1:decide (jK l nm<0)=true:=aw hf
 have e0:kW [.bool false, .nils, .nils, .nils, .nils, .nils, .nils, .nils, .nils, .nils, .nils, .nils, .nils, .bool false] []=some [.bool false, .nils, .nils, .nils, .nils, .nils, .nils, .nils, .nils, .nils, .nils, .nils, .nils, .bool false]:=rfl
 refine VP.has h ?_
 simp only [mE]
 repeat (first
   | simp (disch:=first | decide | exact rfl) only [SS,Nat.reduceAdd,d1,lu,e0]
   | with_reducible refine ah (by assumption) (by simp [ab.str,bJ]) ?_
   | with_reducible refine ao (by assumption) (by simp [ab.str,bJ]) ?_
   | with_reducible refine And.intro (a:=ag _ _) (by simp [ag,apart]) ?_
   | with_reducible refine VW.aS 3 (VW.of ?_)
   | with_reducible refine gy.next _ (VW.of ?_)
   | rw [au (by exact rfl) (by exact rfl) (by exact rfl) (by exact rfl) (by exact rfl)]
   | rw [gK (by exact rfl) (by exact rfl) (by exact rfl) (by exact rfl)]
   | rw [gO (by exact rfl) (by exact rfl) (by exact rfl) (by exact rfl) (by exact rfl) (by exact rfl)]
   | fail)
 refine ai▸af (r := .tup [zC, .bool false]) ?_ (ab.tup (by simp [zC,ab.agg,ab.bool,cE]))
 simp (disch:=decide) only [RS,bn,bC,aj];rfl
end
end Go.VL
end

section
set_option linter.unusedVariables false
set_option linter.unusedVariables false
set_option maxRecDepth 100000
namespace Go.VL
open Go.Lib
theorem Jq {l:List (List UInt8)} {h:Nat} (hh:h<=l.length):gh 1 (strs l) none (some (.int .i64 (h:Int))) none=some (strs (l.take h)):=by
 simp [strs,gh,iW,lv,hh,List.map_take]
section
variable {P:Program} {G:Nat->Option (List AV)}
theorem Ui {f:FuncId} (h:Has P f gW) (l:List (List UInt8)) (s:List UInt8) (hl:l.length<=1000000):VP P G f [strs l, .str s] (.int .i64 (CJ (l.findIdx? fun x=>s==x))):=by
 refine VP.has h ?_
 simp only [gW,SS,Nat.reduceAdd,jt,aY]
 refine VW.scan l (fun x=>s==x) (fun i=>[strs l, .str s, .top, .top, .top, .top, .top, .int .i64 l.length, .int .i64 i]++List.replicate 10 .top) (fun _=>none) 1000 (Wk.slots (by simp [Fg,List.replicate]) (by omega)) (fun i m x hx hlt hn d => ?_) (fun m hn d => ?_)
 . cases hb:s==x
   . skip
     repeat (first
       | simp (disch:=first | decide | exact rfl) only [SS,Nat.reduceAdd,d,ot hx,Ck,aK,hb,aD i (by omega)]
       | with_reducible refine ah (by assumption) (by simp [aA,aC,aR,ab.int,ab.bool,ab.str,cE,aW,bH,b9,cM,e7,bJ,bz,fH,lV]) ?_
       | with_reducible refine ao (by assumption) (by simp [aA,aC,aR,ab.int,ab.bool,ab.str,cE,aW,bH,b9,cM,e7,bJ,bz,fH,lV]) ?_
       | with_reducible refine And.intro (a:=ag _ _) (by simp [ag,apart]) ?_
       | with_reducible refine VW.aS 3 (VW.of ?_)
       | with_reducible refine gy.next _ (VW.of ?_)
       | rw [au (by exact rfl) (by exact rfl) (by exact rfl) (by exact rfl) (by exact rfl)]
       | rw [gK (by exact rfl) (by exact rfl) (by exact rfl) (by exact rfl)]
       | rw [gO (by exact rfl) (by exact rfl) (by exact rfl) (by exact rfl) (by exact rfl) (by exact rfl)]
       | fail)
     exact ⟨(i+1,_),⟨hlt,hn.succ hx hb⟩,by simp only [];omega,Wk.slots (by simp [Fg]) (Nat.le_refl _)⟩
   . skip
     repeat (first
       | simp (disch:=first | decide | exact rfl) only [SS,Nat.reduceAdd,d,ot hx,Ck,aK,hb]
       | with_reducible refine ah (by assumption) (by simp [aA,aC,aR,ab.int,ab.bool,ab.str,cE,aW,bH,b9,cM,e7,bJ,bz,fH,lV]) ?_
       | with_reducible refine ao (by assumption) (by simp [aA,aC,aR,ab.int,ab.bool,ab.str,cE,aW,bH,b9,cM,e7,bJ,bz,fH,lV]) ?_
       | with_reducible refine And.intro (a:=ag _ _) (by simp [ag,apart]) ?_
       | with_reducible refine VW.aS 3 (VW.of ?_)
       | with_reducible refine gy.next _ (VW.of ?_)
       | rw [au (by exact rfl) (by exact rfl) (by exact rfl) (by exact rfl) (by exact rfl)]
       | rw [gK (by exact rfl) (by exact rfl) (by exact rfl) (by exact rfl)]
       | rw [gO (by exact rfl) (by exact rfl) (by exact rfl) (by exact rfl) (by exact rfl) (by exact rfl)]
       | fail)
     rw [r6 hx hb hn]
     exact ai▸af rfl (ab.int _ _)
 . skip
   repeat (first
     | simp (disch:=first | decide | exact rfl) only [SS,d]
     | with_reducible refine ah (by assumption) (by simp [aA,aC,aR,ab.int,ab.bool,ab.str,cE,aW,bH,b9,cM,e7,bJ,bz,fH,lV]) ?_
     | with_reducible refine ao (by assumption) (by simp [aA,aC,aR,ab.int,ab.bool,ab.str,cE,aW,bH,b9,cM,e7,bJ,bz,fH,lV]) ?_
     | with_reducible refine And.intro (a:=ag _ _) (by simp [ag,apart]) ?_
     | with_reducible refine VW.aS 3 (VW.of ?_)
     | with_reducible refine gy.next _ (VW.of ?_)
     | rw [au (by exact rfl) (by exact rfl) (by exact rfl) (by exact rfl) (by exact rfl)]
     | rw [gK (by exact rfl) (by exact rfl) (by exact rfl) (by exact rfl)]
     | rw [gO (by exact rfl) (by exact rfl) (by exact rfl) (by exact rfl) (by exact rfl) (by exact rfl)]
     | fail)
   rw [yc (fun j e hj=>hn j e (List.getElem?_eq_some_iff.1 hj).1 hj)]
   exact ai▸af rfl (ab.int _ _)
theorem LU {f fi:FuncId} (h:Has P f (fY fi)) (l:List (List UInt8)) (s:List UInt8) (hi:VP P G fi [strs l, .str s] (.int .i64 (CJ (l.findIdx? fun x=>s==x)))):VP P G f [strs l, .str s] (.bool (l.any fun x=>s==x)):=by
 have e:decide (0<=CJ (l.findIdx? fun x=>s==x))=l.any fun x=>s==x:=by
   rw [<- List.findIdx?_isSome]
   cases l.findIdx? fun x=>s==x<;>simp [CJ]
 refine VP.has h ?_
 simp only [fY]
 repeat (first
   | simp (disch:=first | decide | exact rfl) only [SS,Nat.reduceAdd,e]
   | with_reducible refine ah (by assumption) (by simp [ab.str,bz]) ?_
   | with_reducible refine ao (by assumption) (by simp [ab.str,bz]) ?_
   | with_reducible refine And.intro (a:=ag _ _) (by simp [ag,apart]) ?_
   | with_reducible refine VW.aS 3 (VW.of ?_)
   | with_reducible refine gy.next _ (VW.of ?_)
   | rw [au (by exact rfl) (by exact rfl) (by exact rfl) (by exact rfl) (by exact rfl)]
   | rw [gK (by exact rfl) (by exact rfl) (by exact rfl) (by exact rfl)]
   | rw [gO (by exact rfl) (by exact rfl) (by exact rfl) (by exact rfl) (by exact rfl) (by exact rfl)]
   | fail)
 exact ai▸af rfl (ab.bool _)
open Classical in
theorem Ov {f fc:FuncId} (h:Has P f (oh fc)) (l:List (List UInt8)) (hl:l.length<=1000000) (hc:∀ (i:Nat) s,l[i]? = some s->VP P G fc [strs (l.take i), .str s] (.bool ((l.take i).any fun x=>s==x))):VP P G f [strs l] (.bool (decide (Jp l l.length))):=by
 refine VP.has h ?_
 simp only [oh,SS,Nat.reduceAdd,jt,aY]
 refine VW.e9 (α := Nat × Nat) (fun y=>⟨[strs l, .top, .top, .top, .top,strs l, .int .i64 l.length, .int .i64 (y.1:Nat)]++List.replicate 10 .top,fun _=>none,y.2⟩) (fun y=>y.1<=l.length /\ ¬ Jp l y.1) (fun y=>l.length-y.1) (0,1000) ?_ ⟨Nat.zero_le _,fun ⟨j,k,_,_,h,_⟩=>by simp only [] at h;omega⟩ ?_
 . exact Wk.slots (by simp [Fg,List.replicate]) (by simp only [];omega)
 rintro ⟨i,n⟩ ⟨hi,hd⟩
 simp only [] at hi hd
 by_cases hlt:i<l.length
 . obtain ⟨x,hx⟩:∃ x,l[i]? = some x:=⟨l[i],by simp [hlt]⟩
   have d:decide ((i:Int)<(l.length:Int))=true:=aw (by omega)
   have hv:=hc i x hx
   have hw:=aD i (by omega)
   have G4:=Jq (l:=l) (h:=i) hi
   cases hb:(l.take i).any fun y=>x==y<;>rw [hb] at hv
   . skip
     repeat (first
       | simp (disch:=first | decide | exact rfl) only [SS,Nat.reduceAdd,d,ot hx,Ck,aK,G4,hw]
       | with_reducible refine ah (by assumption) (by simp [ab.str,bz]) ?_
       | with_reducible refine ao (by assumption) (by simp [ab.str,bz]) ?_
       | with_reducible refine And.intro (a:=ag _ _) (by simp [ag,apart]) ?_
       | with_reducible refine VW.aS 3 (VW.of ?_)
       | with_reducible refine gy.next _ (VW.of ?_)
       | rw [au (by exact rfl) (by exact rfl) (by exact rfl) (by exact rfl) (by exact rfl)]
       | rw [gK (by exact rfl) (by exact rfl) (by exact rfl) (by exact rfl)]
       | rw [gO (by exact rfl) (by exact rfl) (by exact rfl) (by exact rfl) (by exact rfl) (by exact rfl)]
       | fail)
     refine ⟨(i+1,_),⟨hlt,Ks hx hd fun j hj e => ?_⟩,by simp only [];omega,Wk.slots (by simp [Fg]) (Nat.le_refl _)⟩
     have:((l.take i).any fun y=>x==y)=true:=List.any_eq_true.2 ⟨x,List.mem_of_getElem? (by rw [List.getElem?_take_of_lt hj];exact e),by simp⟩
     rw [this] at hb;cases hb
   . skip
     repeat (first
       | simp (disch:=first | decide | exact rfl) only [SS,Nat.reduceAdd,d,ot hx,Ck,aK,G4]
       | with_reducible refine ah (by assumption) (by simp [ab.str,bz]) ?_
       | with_reducible refine ao (by assumption) (by simp [ab.str,bz]) ?_
       | with_reducible refine And.intro (a:=ag _ _) (by simp [ag,apart]) ?_
       | with_reducible refine VW.aS 3 (VW.of ?_)
       | with_reducible refine gy.next _ (VW.of ?_)
       | rw [au (by exact rfl) (by exact rfl) (by exact rfl) (by exact rfl) (by exact rfl)]
       | rw [gK (by exact rfl) (by exact rfl) (by exact rfl) (by exact rfl)]
       | rw [gO (by exact rfl) (by exact rfl) (by exact rfl) (by exact rfl) (by exact rfl) (by exact rfl)]
       | fail)
     obtain ⟨y,hy,hyx⟩:=List.any_eq_true.1 hb
     obtain ⟨j,hj⟩:=List.getElem?_of_mem hy
     have Zu:j<i:=by have:=(List.getElem?_eq_some_iff.1 hj).1;simp at this;omega
     rw [List.getElem?_take_of_lt Zu] at hj
     have ame:x=y:=by simpa using hyx
     rw [decide_eq_true (show Jp l l.length from ⟨j,i,x,Zu,hlt,by rw [hj,ame],hx⟩)]
     exact ai▸af rfl (ab.bool _)
 . have d:decide ((i:Int)<(l.length:Int))=false:=ak (by omega)
   have hii:i=l.length:=by omega
   rw [hii] at hd
   rw [decide_eq_false hd]
   repeat (first
     | simp (disch:=first | decide | exact rfl) only [SS,d]
     | with_reducible refine ah (by assumption) (by simp [aA,aC,aR,ab.int,ab.bool,ab.str,cE,aW,bH,b9,cM,e7,bJ,bz,fH,lV]) ?_
     | with_reducible refine ao (by assumption) (by simp [aA,aC,aR,ab.int,ab.bool,ab.str,cE,aW,bH,b9,cM,e7,bJ,bz,fH,lV]) ?_
     | with_reducible refine And.intro (a:=ag _ _) (by simp [ag,apart]) ?_
     | with_reducible refine VW.aS 3 (VW.of ?_)
     | with_reducible refine gy.next _ (VW.of ?_)
     | rw [au (by exact rfl) (by exact rfl) (by exact rfl) (by exact rfl) (by exact rfl)]
     | rw [gK (by exact rfl) (by exact rfl) (by exact rfl) (by exact rfl)]
     | rw [gO (by exact rfl) (by exact rfl) (by exact rfl) (by exact rfl) (by exact rfl) (by exact rfl)]
     | fail)
   exact ai▸af rfl (ab.bool _)
end
end Go.VL
end

section
set_option linter.unusedVariables false
set_option linter.unusedVariables false
set_option maxRecDepth 100000
namespace Go.VL
open Go.Lib
theorem acA {p:Id} {k bytes n:Nat} {z:AV} (hb:n*bytes<=140737488355328) (hn:n<=1000000) (hz:z.size=k) (h1:z.cells.all AV.one=true):jJ p k bytes z (.int .i64 (n:Int)) (.int .i64 (n:Int))=some { val := .osl p k 0 n false,up:=[(p,some ⟨List.replicate n z,k,false⟩)] }:=by
 simp only [jJ]
 rw [if_pos ⟨by omega,by omega,by rw [<- Int.natCast_mul];exact Int.ofNat_le.2 hb,by have:n<=maxLen:=gC (by omega);omega,hz,h1⟩]
 simp
theorem Ow {A:List AV} {x z:AV} {i k:Nat} (h:A.length=i):(A++List.replicate (k+1) z).set i x=A++[x]++List.replicate k z:=by
 rw [List.set_append_right _ _ (by omega),h,Nat.sub_self,List.replicate_succ,List.set_cons_zero];simp
section
variable {P:Program} {G:Nat->Option (List AV)}
open Classical in
set_option maxHeartbeats 1000000 in
theorem Qj {f fn fr fF:FuncId} (h:Has P f (qE fn fr fF)) (nm:List UInt8) (l:List NX) (ins:List (List UInt8)) (hN:VP P G fn [.str nm] (.bool (e6 nm))) (hR:VP P G fr [strs ins] (.bool (decide (Jp ins ins.length))))
   (hF:∀ s∈ins,VP P G fF [vG l, .str s] (if jK l s<0 then .tup [zC, .bool false] else .tup [(bh l s).av, .bool true])) (hl:ins.length<=1000) :
   VP P G f [.str nm,vG l,strs ins] (if dI nm l ins=0 then .tup [YQ (ins.map (bh l)), .int .i64 0] else .tup [.nils, .int .i64 (dI nm l ins)]):=by
 refine VP.has h ?_
 simp only [qE]
 cases zH:e6 nm<;>rw [zH] at hN
 . have hE:dI nm l ins=1:=by unfold dI;rw [if_pos (.inl zH)]
   rw [hE,if_neg (by decide)]
   repeat (first
     | simp (disch:=first | decide | exact rfl) only [SS,Nat.reduceAdd]
     | with_reducible refine ah (by assumption) (by simp [ab.str,bz]) ?_
     | with_reducible refine ao (by assumption) (by simp [bz]) ?_
     | with_reducible refine And.intro (a:=ag _ _) (by simp [ag,apart]) ?_
     | with_reducible refine VW.aS 3 (VW.of ?_)
     | with_reducible refine gy.next _ (VW.of ?_)
     | rw [au (by exact rfl) (by exact rfl) (by exact rfl) (by exact rfl) (by exact rfl)]
     | rw [gK (by exact rfl) (by exact rfl) (by exact rfl) (by exact rfl)]
     | rw [gO (by exact rfl) (by exact rfl) (by exact rfl) (by exact rfl) (by exact rfl) (by exact rfl)]
     | fail)
   exact ai▸af rfl (ab.tup (by simp [cE,ab.int]))
 by_cases h0:ins=[]
 . have d0:decide ((ins.length:Int)=0)=true:=aw (by rw [h0];rfl)
   have hE:dI nm l ins=1:=by unfold dI;rw [if_pos (.inr h0)]
   rw [hE,if_neg (by decide)]
   repeat (first
     | simp (disch:=first | decide | exact rfl) only [SS,Nat.reduceAdd,jt,d0]
     | with_reducible refine ah (by assumption) (by simp [ab.str,bz]) ?_
     | with_reducible refine ao (by assumption) (by simp [bz]) ?_
     | with_reducible refine And.intro (a:=ag _ _) (by simp [ag,apart]) ?_
     | with_reducible refine VW.aS 3 (VW.of ?_)
     | with_reducible refine gy.next _ (VW.of ?_)
     | rw [au (by exact rfl) (by exact rfl) (by exact rfl) (by exact rfl) (by exact rfl)]
     | rw [gK (by exact rfl) (by exact rfl) (by exact rfl) (by exact rfl)]
     | rw [gO (by exact rfl) (by exact rfl) (by exact rfl) (by exact rfl) (by exact rfl) (by exact rfl)]
     | fail)
   exact ai▸af rfl (ab.tup (by simp [cE,ab.int]))
 have d0:decide ((ins.length:Int)=0)=false:=ak (fun e=>h0 (List.length_eq_zero_iff.1 (by omega)))
 have hE0 : ¬ (e6 nm=false∨ins=[]):=by simp [h0,zH]
 by_cases hd:Jp ins ins.length
 . rw [decide_eq_true hd] at hR
   have hE:dI nm l ins=1:=by unfold dI;rw [if_neg hE0,if_pos hd]
   rw [hE,if_neg (by decide)]
   repeat (first
     | simp (disch:=first | decide | exact rfl) only [SS,Nat.reduceAdd,jt,d0]
     | with_reducible refine ah (by assumption) (by simp [ab.str,bz]) ?_
     | with_reducible refine ao (by assumption) (by simp [bz]) ?_
     | with_reducible refine And.intro (a:=ag _ _) (by simp [ag,apart]) ?_
     | with_reducible refine VW.aS 3 (VW.of ?_)
     | with_reducible refine gy.next _ (VW.of ?_)
     | rw [au (by exact rfl) (by exact rfl) (by exact rfl) (by exact rfl) (by exact rfl)]
     | rw [gK (by exact rfl) (by exact rfl) (by exact rfl) (by exact rfl)]
     | rw [gO (by exact rfl) (by exact rfl) (by exact rfl) (by exact rfl) (by exact rfl) (by exact rfl)]
     | fail)
   exact ai▸af rfl (ab.tup (by simp [cE,ab.int]))
 rw [decide_eq_false hd] at hR
 have tp:=fun p:Id=>acA (p:=p) (k:=14) (bytes:=304) (n:=ins.length) (z:=zC) (by omega) (by omega) rfl rfl
 unfold zC at tp
 repeat (first
   | simp (disch:=first | decide | exact rfl) only [SS,Nat.reduceAdd,jt,d0,tp]
   | with_reducible refine ah (by assumption) (by simp [ab.str,bz]) ?_
   | with_reducible refine ao (by assumption) (by simp [bz]) ?_
   | with_reducible refine And.intro (a:=ag _ _) (by simp [ag,apart]) ?_
   | rw [au (by exact rfl) (by exact rfl) (by exact rfl) (by exact rfl) (by exact rfl)]
   | rw [gK (by exact rfl) (by exact rfl) (by exact rfl) (by exact rfl)]
   | rw [gO (by exact rfl) (by exact rfl) (by exact rfl) (by exact rfl) (by exact rfl) (by exact rfl)]
   | fail)
 simp only [aY]
 refine VW.e9 (α := Nat × Nat) (fun y=>⟨[.str nm,vG l,strs ins]++List.replicate 5 .top++[.osl [16] 14 0 ins.length false]++List.replicate 19 .top++[strs ins, .int .i64 ins.length, .int .i64 (y.1:Nat)]++List.replicate 18 .top,
   ae.put (fun _=>none) [16] (some ⟨(ins.take y.1).map (fun s=>(bh l s).av)++List.replicate (ins.length-y.1) zC,14,false⟩),y.2⟩)
   (fun y=>y.1<=ins.length/\tC ins (fun s=>decide (jK l s<0)) y.1/\1000<=y.2) (fun y=>ins.length-y.1) (0,1000) ?_ ⟨Nat.zero_le _,fun j e hj=>absurd hj (Nat.not_lt_zero j),Nat.le_refl _⟩ ?_
 . refine Wk.forget (by simp [Fg,List.replicate]) (Su (by simp [ae.put,zC]) Ou) (by omega)
 rintro ⟨i,m⟩ ⟨hi,hn,hm⟩
 simp only [] at hi hn hm
 by_cases hlt:i<ins.length
 . obtain ⟨s,hs⟩:∃ s,ins[i]? = some s:=⟨ins[i],by simp [hlt]⟩
   have d:decide ((i:Int)<(ins.length:Int))=true:=aw (by omega)
   have hv:=hF s (List.mem_of_getElem? hs)
   have hw:=aD i (by omega)
   have l16:16<m:=by omega
   have zo:(zC.cells.all AV.one=true)=True:=by simp [zC,AV.cells,AV.one]
   by_cases hb:jK l s<0
   . rw [if_pos hb] at hv
     clear hF tp
     repeat (first
       | simp (disch:=first | decide | exact rfl | with_reducible assumption | exact Nat.ne_of_lt (by repeat (first | with_reducible assumption | apply Nat.lt_add_right))) only [SS,Nat.reduceAdd,g0,g1,d,ot hs,Ck,aK,lu]
       | with_reducible refine ah (by assumption) (by simp [ab.str,bJ]) ?_
       | with_reducible refine ao (by assumption) (by simp [ab.str,bJ]) ?_
       | with_reducible refine And.intro (a:=ag _ _) (by simp [ag,apart];try assumption) ?_
       | rw [au (by repeat (first | with_reducible exact gP | refine (Gz (by first | with_reducible assumption | decide | exact Nat.ne_of_lt (by repeat (first | with_reducible assumption | apply Nat.lt_add_right)))).trans ?_)) (by exact rfl) (by exact rfl) (by exact rfl) (by exact rfl)]
       | rw [gK (by exact rfl) (by exact rfl) (by exact rfl) (by exact rfl)]
       | rw [gO (by exact rfl) (by exact rfl) (by exact rfl) (by exact rfl) (by exact rfl) (by exact rfl)]
       | fail)
     have hE:dI nm l ins=4:=by unfold dI;rw [if_neg hE0,if_neg hd,if_pos (LL hs (by simp [hb]))]
     rw [hE,if_neg (by decide)]
     exact ai▸af rfl (ab.tup (by simp [cE,ab.int]))
   . rw [if_neg hb] at hv
     have n5:bK 14 (.osl [16] 14 0 ins.length false) (.int .i64 (i:Int))=some (.ref [16] i 0):=by rw [PF hlt,Nat.zero_add]
     have Xo:=Ku (f:=fun s=>(bh l s).av) hs
     obtain ⟨k,hk⟩:∃ k,ins.length-i=k+1:=⟨ins.length-i-1,by omega⟩
     have hk2:ins.length-(i+1)=k:=by omega
     have hA:((ins.take i).map fun s=>(bh l s).av).length=i:=by simp;omega
     have hst:∀ σ : ae, σ [16]=some ⟨(ins.take i).map (fun s=>(bh l s).av)++List.replicate (ins.length-i) zC,14,false⟩->ir σ 14 (.ref [16] i 0) (bh l s).av=some { val := .tup [],rd:=[[16]],up:=[([16],some ⟨(ins.take (i+1)).map (fun s=>(bh l s).av)++List.replicate (ins.length-(i+1)) zC,14,false⟩)] }:=fun σ hσ => by
       rw [gD (n:=14) (v:=(bh l s).av) (el:=zC) hσ (by rw [hk,List.getElem?_append_right (by omega),hA,Nat.sub_self];rfl) rfl (by decide) (of_eq_true (Ij _))]
       rw [Xo,hk2,hk,Ow hA]
       rfl
     clear hF tp
     repeat (first
       | simp (disch:=first | decide | exact rfl | with_reducible assumption | exact Nat.ne_of_lt (by repeat (first | with_reducible assumption | apply Nat.lt_add_right))) only [SS,Nat.reduceAdd,aj,g0,g1,d,ot hs,Ck,aK,lu,vF,n5,hw]
       | with_reducible refine ah (by assumption) (by simp [ab.str,bJ]) ?_
       | with_reducible refine ao (by assumption) (by simp [ab.str,bJ]) ?_
       | with_reducible refine And.intro (a:=ag _ _) (by simp [ag,apart];try assumption) ?_
       | rw [au (by repeat (first | with_reducible exact gP | refine (Gz (by first | with_reducible assumption | decide | exact Nat.ne_of_lt (by repeat (first | with_reducible assumption | apply Nat.lt_add_right)))).trans ?_)) (by exact rfl) (by exact rfl) (by exact rfl) (by exact rfl)]
       | rw [gK (by exact rfl) (by exact rfl) (by exact rfl) (by exact rfl)]
       | rw [gO (by exact rfl) (by exact rfl) (by exact rfl) (by exact rfl) (by exact rfl) (by exact rfl)]
       | rw [hst _ (by repeat (first | with_reducible exact gP | refine (Gz (by first | with_reducible assumption | decide | exact Nat.ne_of_lt (by repeat (first | with_reducible assumption | apply Nat.lt_add_right)))).trans ?_))]
       | fail)
     exact ⟨(i+1,_),⟨hlt,hn.succ hs (by simp [hb]),by simp only [];omega⟩,by simp only [];omega,Wk.forget (by simp [Fg]) (Su (by exact gP) Ou) (Nat.le_refl _)⟩
 . have d:decide ((i:Int)<(ins.length:Int))=false:=ak (by omega)
   have hii:i=ins.length:=by omega
   subst hii
   have hE:dI nm l ins=0:=by unfold dI;rw [if_neg hE0,if_neg hd,if_neg (by rw [hn.any (Nat.le_refl _)];decide)]
   rw [if_pos hE]
   simp only [List.take_length,Nat.sub_self,List.replicate_zero,List.append_nil]
   clear hF tp
   repeat (first
     | simp (disch:=first | decide | exact rfl | with_reducible assumption | exact Nat.ne_of_lt (by repeat (first | with_reducible assumption | apply Nat.lt_add_right))) only [SS,Nat.reduceAdd,d]
     | with_reducible refine ah (by assumption) (by simp [bz]) ?_
     | with_reducible refine ao (by assumption) (by simp [bz]) ?_
     | with_reducible refine And.intro (a:=ag _ _) (by simp [ag,apart];try assumption) ?_
     | rw [au (by repeat (first | with_reducible exact gP | refine (Gz (by first | with_reducible assumption | decide | exact Nat.ne_of_lt (by repeat (first | with_reducible assumption | apply Nat.lt_add_right)))).trans ?_)) (by exact rfl) (by exact rfl) (by exact rfl) (by exact rfl)]
     | rw [gK (by exact rfl) (by exact rfl) (by exact rfl) (by exact rfl)]
     | rw [gO (by exact rfl) (by exact rfl) (by exact rfl) (by exact rfl) (by exact rfl) (by exact rfl)]
     | fail)
   refine ai▸⟨_,rfl,View.tup (.cons ?_ (.cons (View.pure (ab.int _ _)) .nil))⟩
   have e:(ins.map fun s=>(bh l s).av)=(ins.map (bh l)).map CX.av:=by rw [List.map_map];rfl
   have:=LQ (σ := ae.put (fun _=>none) [16] (some ⟨(ins.map (bh l)).map CX.av,14,false⟩)) (q:=[16]) (k:=14) (l:=(ins.map (bh l)).map CX.av) (.inr gP) (by intro a ha;obtain ⟨y,_,rfl⟩:=List.mem_map.1 ha;rfl) (Im _)
   rw [Kt (by simpa using h0)] at this
   have hlen:((ins.map (bh l)).map CX.av).length=ins.length:=by simp
   rw [hlen] at this
   rw [e]
   exact this
end
end Go.VL
end

section
set_option linter.unusedVariables false
set_option linter.unusedVariables false
set_option maxRecDepth 100000
namespace Go.VL
open Go.Lib
abbrev zN:AV := .agg [.str [], .bool false, .nils, .nils, .nils, .nils, .nils, .nils, .nils, .nils, .nils, .nils, .nils, .nils, .bool false]
theorem Sv {a b:List NX}:ab (.sl 1 [vG a,vG b]):=ab.sl (by intro c hc;simp [flat,AV.cells] at hc;rcases hc with rfl | rfl<;>exact bJ _)
theorem aeq {q:Id} {n:Nat} (h0:0<n) (hn:n<=1000):Jz q 15 320 zN .nils (.int .i64 (n:Int))=some { val := .osl q 15 0 n false,up:=[(q,some ⟨List.replicate n zN,15,false⟩)] }:=by
 simp only [Jz]
 rw [if_pos ⟨by omega,by omega,by have:n<=maxLen:=gC (by omega);omega,rfl,rfl⟩]
 simp
theorem Vs {σ : ae} {p id:Id} {A:List AV} {ys:List NX} {k:Nat} (h : σ id=some ⟨A++List.replicate (ys.length+k) zN,15,false⟩) (h0:ys≠[]) (hl:A.length+ys.length<=1000) :
   fK σ p 15 320 (.osl id 15 0 A.length false) (vG ys)=some { val := .osl id 15 0 (A.length+ys.length) false,rd:=[id],up:=[(id,some ⟨A++ys.map NX.av++List.replicate k zN,15,false⟩)] }:=by
 have hy:0<ys.length:=List.length_pos_iff.2 h0
 have e1:(ys.map NX.av).isEmpty=false:=by simpa using h0
 have hmx:A.length+ys.length<=maxLen:=gC (by omega)
 simp only [fK,gB,e1,h,List.length_map]
 rw [if_neg (by decide),if_pos ⟨trivial,trivial,trivial,by simp,by omega,hmx,q8 LM ys⟩,if_neg (by decide),if_neg (fun hh=>by have:=hh.1;rw [List.length_append,List.length_replicate] at this;omega),if_pos ⟨by simp,trivial⟩]
 simp [List.drop_append]
section
variable {P:Program} {G:Nat->Option (List AV)}
theorem LV {f:FuncId} (h:Has P f fk) (n:Nat) (h0:0<n) (hn:n<=1000) (p:Id):aM P G f [.nils, .int .i64 (n:Int)] p [] { val := .osl (18::p) 15 0 0 false,up:=[(18::p,some ⟨List.replicate n zN,15,false⟩)] }:=by
 have d1:decide ((n:Int)<0)=false:=ak (by omega)
 have d2:decide ((0:Int)<(n:Int))=true:=aw (by omega)
 have w1:IntKind.i64.wrap ((0:Int)-0)=0:=by decide
 have w2:IntKind.i64.wrap ((n:Int)-0)=(n:Int):=by rw [IntKind.wrap_i64];omega
 have cp:U6 .nils=some (.int .i64 0):=rfl
 have so:∀ q:Id,gh 15 (.osl q 15 0 n false) none (some (.int .i64 0)) none=some (.osl q 15 0 0 false):=fun q=>CS (h:=0) (Nat.zero_le _)
 refine aM.has h ?_
 simp only [fk]
 repeat (first
   | simp (disch:=first | decide | exact rfl) only [SS,Nat.reduceAdd,d1,d2,w1,w2,cp,Oa,aeq h0 hn,so]
   | with_reducible refine ah (by assumption) (by simp [aA,aC,aR,ab.int,ab.bool,ab.str,cE,aW,bH,b9,cM,e7,bJ,bz,fH,Sv,lV]) ?_
   | with_reducible refine ao (by assumption) (by simp [aA,aC,aR,ab.int,ab.bool,ab.str,cE,aW,bH,b9,cM,e7,bJ,bz,fH,Sv,lV]) ?_
   | with_reducible refine And.intro (a:=ag _ _) (by simp [ag,apart]) ?_
   | with_reducible refine VW.aS 3 (VW.of ?_)
   | with_reducible refine gy.next _ (VW.of ?_)
   | rw [au (by repeat (first | exact gP | refine (jM (by simp)).trans ?_)) (by exact rfl) (by exact rfl) (by exact rfl) (by exact rfl)]
   | rw [gK (by exact rfl) (by exact rfl) (by exact rfl) (by exact rfl)]
   | rw [gO (by exact rfl) (by exact rfl) (by exact rfl) (by exact rfl) (by exact rfl) (by exact rfl)]
   | fail)
 refine ke▸dQ rfl (fun i => ?_)
 by_cases e:i=18::p
 . right;subst e;simp [ae.app,ae.put]
 . left;simp [ae.app,ae.put,ae.of,e]
end
end Go.VL
end

section
set_option linter.unusedVariables false
set_option linter.unusedVariables false
set_option maxRecDepth 100000
namespace Go.VL
open Go.Lib
section
variable {P:Program} {G:Nat->Option (List AV)}
theorem Io {f:FuncId} (h:Has P f cC) {es:List AV} (hk:∀ e∈es,e.size=15) (h1:(es.all fun e=>e.cells.all AV.one)=true) (hp:∀ c∈flat es,ab c) (hl:es.length*320<=140737488355328):VP P G f [.sl 15 es] (.sl 15 es):=by
 refine VP.has h ?_
 have hb:∀ (σ : ae) (p:Id),bW σ p (.buildSl 15 0 zN [])=some { val := .tsl 15 [] }:=fun σ p=>bs0 rfl rfl
 cases es with
 | nil =>
   simp only [cC,SS,Nat.reduceAdd]
   refine ⟨?_, ?_⟩
   . exact ai▸⟨.nils,rfl,View.nils 15⟩
   . simp only [SS,Nat.reduceAdd,hb,p6 gB]
     exact ai▸⟨_,rfl,View.Zn 15⟩
 | cons e es =>
   simp only [cC,SS,Nat.reduceAdd,hb]
   rw [rp (es:=[]) gB (by simp) (by simpa using hl) (gC (by simp at hl ⊢;omega)) (by simpa using h1)]
   simp only [SS,Nat.reduceAdd]
   refine ai▸⟨_,rfl,View.osl (bk:=⟨e::es,15,false⟩) rfl rfl (by simp) ?_ (by simp) hk⟩
   simpa using az.pure hp
theorem Jr {f:FuncId} (h:Has P f cC) (l:List NX) (hl:l.length<=1000000):VP P G f [vG l] (vG l) :=
 Io h (by intro a ha;obtain ⟨y,_,rfl⟩:=List.mem_map.1 ha;rfl) (q8 LM l) (Ik l) (by simp;omega)
end
end Go.VL
end

section
set_option linter.unusedVariables false
set_option linter.unusedVariables false
set_option maxRecDepth 100000
namespace Go.VL
open Go.Lib
section
variable {P:Program} {G:Nat->Option (List AV)}
theorem Bu {f ff fi:FuncId} (h:Has P f (oe ff fi)) (a:Q2):bu P G f [V2 a, .int .i64 0] (V2 a):=fun p id qg=>by
 have hq:=LH qg
 refine aM.has h ?_
 simp only [oe]
 repeat (first
   | simp (disch:=first | decide | exact rfl) only [CW,SS,Nat.reduceAdd,aj,ZZ,Bb,qV,mY]
   | with_reducible refine ah (by assumption) (by simp [aA,aC,aR,ab.int,ab.bool,ab.str,cE,aW,bH,b9,cM,e7,bJ,bz,fH,lV]) ?_
   | with_reducible refine ao (by assumption) (by simp [aA,aC,aR,ab.int,ab.bool,ab.str,cE,aW,bH,b9,cM,e7,bJ,bz,fH,lV]) ?_
   | with_reducible refine And.intro (a:=ag _ _) (by simp [ag,apart]) ?_
   | with_reducible refine VW.aS 3 (VW.of ?_)
   | with_reducible refine gy.next _ (VW.of ?_)
   | rw [au (by repeat (first | exact gP | refine (jM (by simp)).trans ?_)) (by exact rfl) (by exact rfl) (by exact rfl) (by exact rfl)]
   | rw [gK (by exact rfl) (by exact rfl) (by exact rfl) (by exact rfl)]
   | rw [gO (by exact rfl) (by exact rfl) (by exact rfl) (by exact rfl) (by exact rfl) (by exact rfl)]
   | fail)
 refine ke▸dQ (by simp (disch:=decide) only [RS,bn,bC,aj,qV]) (Xb (by simp [ae.put,ae.of,hq]))
theorem aat {f fa fv:FuncId} (h:Has P f (og fa fv)) (a b:Q2) (ha:VP P G fa [V2 a,V2 b] (.tup [V2 (nh a b), .int .i64 0])) (hv:∀ a,bu P G fv [V2 a, .int .i64 0] (V2 a)):bu P G f [V2 a,V2 b] (V2 (nh a b)):=fun p id qg=>by
 have hq:=LH qg
 refine aM.has h ?_
 simp only [og]
 repeat (first
   | simp (disch:=first | decide | exact rfl) only [CW,SS,Nat.reduceAdd,aj,g0,g1,Bb,qV,mY]
   | with_reducible refine ah (by assumption) (by simp [b9]) ?_
   | with_reducible refine ao (by assumption) (by simp [b9]) ?_
   | with_reducible refine And.intro (a:=ag _ _) (by simp [ag,apart]) ?_
   | with_reducible refine VW.aS 3 (VW.of ?_)
   | with_reducible refine gy.next _ (VW.of ?_)
   | rw [au (by repeat (first | exact gP | refine (jM (by simp)).trans ?_)) (by exact rfl) (by exact rfl) (by exact rfl) (by exact rfl)]
   | rw [gK (by exact rfl) (by exact rfl) (by exact rfl) (by exact rfl)]
   | rw [gO (by exact rfl) (by exact rfl) (by exact rfl) (by exact rfl) (by exact rfl) (by exact rfl)]
   | refine FP (hv _) qg (by simp [ae.put,ae.of,hq]) ?_
   | fail)
 refine ke▸dQ (by simp (disch:=decide) only [RS,bn,bC,aj,qV]) (Xb (by simp [ae.put,ae.of,hq]))
theorem Uj {f fa fv:FuncId} (h:Has P f (mD fa fv)) (a:Q2) (n:Rat) (ha:VP P G fa [V2 a,NV n] (.tup [V2 (mN a n), .int .i64 0])) (hv:∀ a,bu P G fv [V2 a, .int .i64 0] (V2 a)):bu P G f [V2 a,NV n] (V2 (mN a n)):=fun p id qg=>by
 have hq:=LH qg
 refine aM.has h ?_
 simp only [mD]
 repeat (first
   | simp (disch:=first | decide | exact rfl) only [CW,SS,Nat.reduceAdd,aj,g0,g1,Bb,qV,CV,tz,mY]
   | with_reducible refine ah (by assumption) (by simp [bH,b9]) ?_
   | with_reducible refine ao (by assumption) (by simp [bH,b9]) ?_
   | with_reducible refine And.intro (a:=ag _ _) (by simp [ag,apart]) ?_
   | with_reducible refine VW.aS 3 (VW.of ?_)
   | with_reducible refine gy.next _ (VW.of ?_)
   | rw [au (by repeat (first | exact gP | refine (jM (by simp)).trans ?_)) (by exact rfl) (by exact rfl) (by exact rfl) (by exact rfl)]
   | rw [gK (by exact rfl) (by exact rfl) (by exact rfl) (by exact rfl)]
   | rw [gO (by exact rfl) (by exact rfl) (by exact rfl) (by exact rfl) (by exact rfl) (by exact rfl)]
   | refine FP (hv _) qg (by simp [ae.put,ae.of,hq]) ?_
   | fail)
 refine ke▸dQ (by simp (disch:=decide) only [RS,bn,bC,aj,qV]) (Xb (by simp [ae.put,ae.of,hq]))
end
end Go.VL
end
