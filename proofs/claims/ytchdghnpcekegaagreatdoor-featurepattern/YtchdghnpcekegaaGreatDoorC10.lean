/- For the claim of FeaturePattern: parts CQ7, VL37, CQ8, CQ9, CQA, CQB, GC, CQP, GC2, CQC. -/
import Derived.Test.YtchdghnpcekegaaGreatDoorC09
import Derived.Test.YtchdghnpcekegaaGreatDoorC08
import Derived.Test.YtchdghnpcekegaaGreatDoorC03
set_option linter.unusedSimpArgs false
set_option linter.unusedVariables false
section
set_option linter.unusedSimpArgs false
set_option linter.unusedVariables false
set_option maxRecDepth 100000
namespace Go.VL
open Go.Lib
structure DX where
 G4:Bool
 cw:Bool
 a:Int × Int
 b:Int × Int
 step:Nat
 unit:Nat
def ok8 (p:Int × Int):Prop := -128<=p.1/\p.1<128 /\ -128<=p.2/\p.2<128
def DX.Ok (d:DX):Prop:=ok8 d.a/\ok8 d.b/\d.step<256/\d.unit<256
def I2 (p:Int × Int):AV := .agg [.int .i8 p.1, .int .i8 p.2]
def DX.av (d:DX):AV := .agg [.bool d.G4, .bool d.cw, .int .i8 d.a.1, .int .i8 d.a.2, .int .i8 d.b.1, .int .i8 d.b.2, .int .u8 d.step, .int .u8 d.unit]
def Zv:List (Int × Int × Nat):=[(1,0,1),(3,4,5),(0,1,1),(-1,0,1),(0, -1,1),(4,3,5),(-3,4,5),(-4,3,5),(-4, -3,5),(-3, -4,5),(3, -4,5),(4, -3,5),(5,12,13),(12,5,13),(-5,12,13),(24,7,25)]
def vC (k:Nat):Q2:=match Zv[k]? with | some (a,b,c)=>((a:Rat)/((c:Int):Rat),(b:Rat)/((c:Int):Rat)) | none=>(0,0)
def vD (p:Int × Int) (u:Nat):Q2:=((p.1:Rat)/(((u%4+1:Nat):Int):Rat),(p.2:Rat)/(((u%4+1:Nat):Int):Rat))
def DX.ib (d:DX):CX :=
 if d.G4 then
   ⟨true,vD d.b d.unit,gv (vD d.a d.unit) (gv (ga (jq (vD d.b d.unit) (vD d.a d.unit)) (vC (d.step%16)).1) (ga (-(jq (vD d.b d.unit) (vD d.a d.unit)).2,(jq (vD d.b d.unit) (vD d.a d.unit)).1) (vC (d.step%16)).2)),vD d.a d.unit,d.cw⟩
 else ⟨false,vD d.a d.unit,vD d.b d.unit,(0,0),d.cw⟩
theorem eW (d:DX):aa d.av:=aa.agg (by simp [aa.bool,aa.int])
theorem Fm (p:Int × Int):aa (I2 p):=aa.agg (by simp [aa.int])
theorem U0 (d:DX):(d.av.cells.all AV.one=true)=True:=by simp [DX.av,AV.cells,AV.one]
theorem J5 (d:DX):part true d.av.cells 0 8=some d.av:=rfl
theorem Zw (d:DX):part false d.av.cells 0 1=some (.bool d.G4):=rfl
theorem Zx (d:DX):part false d.av.cells 1 1=some (.bool d.cw):=rfl
theorem Zy (d:DX):part true d.av.cells 2 2=some (I2 d.a):=rfl
theorem Zz (d:DX):part true d.av.cells 4 2=some (I2 d.b):=rfl
theorem ZA (d:DX):part false d.av.cells 6 1=some (.int .u8 d.step):=rfl
theorem ZB (d:DX):part false d.av.cells 7 1=some (.int .u8 d.unit):=rfl
theorem abh (p:Int × Int):((I2 p).cells.all AV.one=true)=True:=by simp [I2,AV.cells,AV.one]
theorem aeb (p:Int × Int):part false (I2 p).cells 0 1=some (.int .i8 p.1):=rfl
theorem aec (p:Int × Int):part false (I2 p).cells 1 1=some (.int .i8 p.2):=rfl
theorem X3 (a b c:Int):iN [.int .i64 0, .int .i64 0, .int .i64 0] [(0,(1, .int .i64 a)),(1,(1, .int .i64 b)),(2,(1, .int .i64 c))]=some [.int .i64 a, .int .i64 b, .int .i64 c]:=rfl
def U1:List AV:=[.int .i64 1, .int .i64 0, .int .i64 1, .int .i64 3, .int .i64 4, .int .i64 5, .int .i64 0, .int .i64 1, .int .i64 1, .int .i64 (-1), .int .i64 0, .int .i64 1, .int .i64 0, .int .i64 (-1), .int .i64 1, .int .i64 4, .int .i64 3, .int .i64 5, .int .i64 (-3), .int .i64 4, .int .i64 5, .int .i64 (-4), .int .i64 3, .int .i64 5, .int .i64 (-4), .int .i64 (-3), .int .i64 5, .int .i64 (-3), .int .i64 (-4), .int .i64 5, .int .i64 3, .int .i64 (-4), .int .i64 5, .int .i64 4, .int .i64 (-3), .int .i64 5, .int .i64 5, .int .i64 12, .int .i64 13, .int .i64 12, .int .i64 5, .int .i64 13, .int .i64 (-5), .int .i64 12, .int .i64 13, .int .i64 24, .int .i64 7, .int .i64 25]
theorem Of {z r:List AV} {ps:List (Nat × Nat × AV)} (h:iN z ps=some r):iN z ps=some r:=h
theorem ahr {k:Nat} (h:k<16):k=0∨k=1∨k=2∨k=3∨k=4∨k=5∨k=6∨k=7∨k=8∨k=9∨k=10∨k=11∨k=12∨k=13∨k=14∨k=15:=by omega
theorem I8 {k:Nat} (h:k<16):∃ a b c,Zv[k]? = some (a,b,c)/\c≠0/\c<=25 /\ -25<=a/\a<=25 /\ -25<=b/\b<=25/\part true (AV.agg U1).cells (k*3) 3=some (.agg [.int .i64 a, .int .i64 b, .int .i64 (c:Int)]):=by
 rcases ahr h with rfl | rfl | rfl | rfl | rfl | rfl | rfl | rfl | rfl | rfl | rfl | rfl | rfl | rfl | rfl | rfl<;>exact ⟨_,_,_,rfl,by decide,by decide,by decide,by decide,by decide,by decide,rfl⟩
theorem U2:((-1-0:Int) = -1)/\((-1-2:Int) = -3)/\((-1-3:Int) = -4)/\((-1-4:Int) = -5):=by decide
theorem ia2 {id:Id}:nU 2 1 (.ref id 0 0) (.int .i64 0)=some (.ref id 0 0)/\nU 2 1 (.ref id 0 0) (.int .i64 1)=some (.ref id 0 1):=⟨rfl,rfl⟩
theorem ia3 {id:Id}:nU 3 1 (.ref id 0 0) (.int .i64 0)=some (.ref id 0 0)/\nU 3 1 (.ref id 0 0) (.int .i64 1)=some (.ref id 0 1)/\nU 3 1 (.ref id 0 0) (.int .i64 2)=some (.ref id 0 2):=⟨rfl,rfl,rfl⟩
def P7 (P:Program) (G:Nat->Option (List AV)) (f:FuncId):Prop:=∀ (a:Int) (b:Nat),b≠0->b<=1000 -> -1000<=a->a<=1000->VP P G f [.int .i64 a, .int .i64 (b:Int)] (QV ((a:Rat)/((b:Int):Rat)))
section
variable {P:Program} {G:Nat->Option (List AV)}
theorem X4 {f fF fM:FuncId} (h:Has P f (mN fF fM)) (hF:P7 P G fF) (hM:∀ v:Q2,VP P G fM [QV v.1,QV v.2] (V2 v)) (p:Int × Int) (hp:ok8 p) (u:Nat) (hu:u<256):VP P G f [I2 p, .int .u8 (u:Int)] (V2 (vD p u)):=by
 obtain ⟨q1,q2,q3,q4⟩:=hp
 have r1:bY .rem .int (.int .u8 (u:Int)) (.int .u8 4)=some (.int .u8 ((u%4:Nat):Int)):=by
   show some (AV.int .u8 ((u:Int).tmod 4))=_
   rw [Int.tmod_eq_emod_of_nonneg (by omega)];rfl
 have r2:IntKind.i64.wrap ((u%4:Nat):Int)=((u%4:Nat):Int):=by rw [IntKind.wrap_i64];omega
 have r3:IntKind.i64.wrap (((u%4:Nat):Int)+1)=((u%4+1:Nat):Int):=by rw [IntKind.wrap_i64];omega
 have r4:IntKind.i64.wrap p.1=p.1:=by rw [IntKind.wrap_i64];omega
 have r5:IntKind.i64.wrap p.2=p.2:=by rw [IntKind.wrap_i64];omega
 have f1:=hF p.1 (u%4+1) (by omega) (by omega) (by omega) (by omega)
 have f2:=hF p.2 (u%4+1) (by omega) (by omega) (by omega) (by omega)
 have m1:VP P G fM _ _:=hM (vD p u)
 simp only [vD] at m1
 refine VP.has h ?_
 simp only [mN]
 repeat (first
   | simp (disch:=first | decide | exact rfl) only [SS,DD,Nat.reduceAdd,reduceIte,af,ai,az,ZZ,CC,aW,g0,g1,g2,decide_true,decide_false,abh,aeb,aec,ia2,cz,r1,r2,r3,r4,r5]
   | with_reducible refine ao (by assumption) (by simp [ag,aq,aj,aa.int,aa.bool,aa.str,aA,ar,aw,aB,aE,aL]) ?_
   | with_reducible refine ay (by assumption) (by simp [ag,aq,aj,aa.int,aa.bool,aa.str,aA,ar,aw,aB,aE,aL]) ?_
   | with_reducible refine And.intro (a:=ab _ _) (by simp [ab,apart]) ?_
   | with_reducible refine VW.aI 3 (VW.of ?_)
   | with_reducible refine b9.next _ (VW.of ?_)
   | rw [au (by exact rfl) (by exact rfl) (by exact rfl) (by exact rfl) (by exact rfl)]
   | rw [bW (by exact rfl) (by exact rfl) (by exact rfl) (by exact rfl)]
   | rw [bX (by exact rfl) (by exact rfl) (by exact rfl) (by exact rfl) (by exact rfl) (by exact rfl)]
   | fail)
 refine ax▸ae (r:=V2 (vD p u)) ?_ (aB _)
 simp (disch:=decide) only [RS,a8,bg,af,ai,cC,vD]
set_option maxHeartbeats 4000000 in
theorem RX {f fF fM:FuncId} (h:Has P f (k9 fF fM)) (hF:P7 P G fF) (hM:∀ v:Q2,VP P G fM [QV v.1,QV v.2] (V2 v)) (n:Nat) (hn:n<256):VP P G f [.int .u8 (n:Int)] (V2 (vC (n%16))):=by
 have r1:bY .rem .int (.int .u8 (n:Int)) (.int .u8 16)=some (.int .u8 ((n%16:Nat):Int)):=by
   show some (AV.int .u8 ((n:Int).tmod 16))=_
   rw [Int.tmod_eq_emod_of_nonneg (by omega)];rfl
 have hk:n%16<16:=Nat.mod_lt _ (by decide)
 generalize n%16=k at *
 have ia:∀ id:Id,nU 16 3 (.ref id 0 0) (.int .u8 (k:Int))=some (.ref id 0 (k*3)):=fun id=>by
   simp only [nU];rw [if_pos ⟨by omega,by omega⟩];simp
 obtain ⟨a,b,c,hu,c0,c1,a1,a2,b1,b2,hpt⟩:=I8 hk
 have f1:=hF a c c0 (by omega) (by omega) (by omega)
 have f2:=hF b c c0 (by omega) (by omega) (by omega)
 have m1:=hM (vC k)
 have e:vC k=((a:Rat)/((c:Int):Rat),(b:Rat)/((c:Int):Rat)):=by unfold vC;rw [hu]
 rw [e] at m1 ⊢
 simp only [] at m1
 have z1:((AV.cells (.agg [.int .i64 0, .int .i64 0, .int .i64 0])).all AV.one=true)=True:=by simp [AV.cells,AV.one]
 have z2:((AV.cells (.agg [.int .i64 a, .int .i64 b, .int .i64 (c:Int)])).all AV.one=true)=True:=by simp [AV.cells,AV.one]
 have p0:part false (AV.cells (.agg [.int .i64 a, .int .i64 b, .int .i64 (c:Int)])) 0 1=some (.int .i64 a):=rfl
 have p1:part false (AV.cells (.agg [.int .i64 a, .int .i64 b, .int .i64 (c:Int)])) 1 1=some (.int .i64 b):=rfl
 have p2:part false (AV.cells (.agg [.int .i64 a, .int .i64 b, .int .i64 (c:Int)])) 2 1=some (.int .i64 (c:Int)):=rfl
 refine VP.has h ?_
 simp only [k9,U2]
 repeat (first
   | simp (disch:=first | decide | exact rfl) only [SS,DD,Nat.reduceAdd,reduceIte,af,ai,az,ZZ,CC,aW,g0,g1,g2,decide_true,decide_false,X3,r1,ia,ia3,cz,hpt,z1,z2,p0,p1,p2]
   | with_reducible refine ao (by assumption) (by simp [ag,aq,aj,aa.int,aa.bool,aa.str,aA,ar,aw,aB,aE,aL]) ?_
   | with_reducible refine ay (by assumption) (by simp [ag,aq,aj,aa.int,aa.bool,aa.str,aA,ar,aw,aB,aE,aL]) ?_
   | with_reducible refine And.intro (a:=ab _ _) (by simp [ab,apart]) ?_
   | with_reducible refine VW.aI 3 (VW.of ?_)
   | with_reducible refine b9.next _ (VW.of ?_)
   | rw [au (by exact rfl) (by exact rfl) (by exact rfl) (by exact rfl) (by exact rfl)]
   | rw [bW (by exact rfl) (by exact rfl) (by exact rfl) (by exact rfl)]
   | rw [bX (by exact rfl) (by exact rfl) (by exact rfl) (by exact rfl) (by exact rfl) (by exact rfl)]
   | rw [Of (r:=U1) (by exact rfl)]
   | rw [if_pos (by exact rfl)]
   | fail)
 refine ax▸ae (r:=V2 ((a:Rat)/((c:Int):Rat),(b:Rat)/((c:Int):Rat))) ?_ (aB _)
 simp (disch:=decide) only [RS,a8,bg,af,ai,cC]
end
end Go.VL
end

section
namespace Go.VL
def zu {α : Type} (l:List α) (p : α -> Bool) (i:Nat):Prop:=∀ (j:Nat) y,j<i->l[j]? = some y->p y=false
theorem zu.any {α : Type} {l:List α} {p : α -> Bool} {i:Nat} (h:zu l p i) (hi:l.length<=i):l.any p=false:=by
 rw [List.any_eq_false]
 intro x hx
 obtain ⟨j,hj⟩:=List.getElem?_of_mem hx
 rw [h j x (by have:=(List.getElem?_eq_some_iff.1 hj).1;omega) hj];simp
theorem zx {α : Type} {l:List α} {p : α -> Bool} {i:Nat} {x : α} (hx:l[i]? = some x) (hp:p x=true):l.any p=true:=List.any_eq_true.2 ⟨x,List.mem_of_getElem? hx,hp⟩
theorem zu.succ {α : Type} {l:List α} {p : α -> Bool} {i:Nat} {x : α} (h:zu l p i) (hx:l[i]? = some x) (hp:p x=false):zu l p (i+1):=by
 intro j y hj hy
 rcases (by omega:j<i∨j=i) with e | rfl
 . exact h j y e hy
 . rw [hx] at hy;simp only [Option.some.injEq] at hy;subst hy;exact hp
section
variable {P:Program} {G:Nat->Option (List AV)} {π : Id} {Q:cd->VS->Prop} {s:VS} {x:cB}
abbrev ZC (G:Nat->Option (List AV)) (π : Id) {α : Type} (l:List α) (p : α -> Bool) (T:Nat->List AV) (σ : ah) (i m:Nat) (Q:cd->VS->Prop):cd->VS->Prop :=
 Is G π (fun y:Nat × Nat=>(⟨T y.1, σ,y.2⟩:VS)) (fun y=>y.1<=l.length/\zu l p y.1) (fun y=>l.length-y.1) (i,m) Q
theorem VW.scan {α : Type} (l:List α) (p : α -> Bool) (T:Nat->List AV) (σ : ah) (k0:Nat) (hw:Wk G π s ⟨T 0, σ,k0⟩)
   (h:∀ i m e,l[i]? = some e->i<l.length->zu l p i->decide ((i:Int)<(l.length:Int))=true->xQ P G π x (ZC G π l p T σ i m Q) ⟨T i, σ,m⟩)
   (he:∀ m,zu l p l.length->decide ((l.length:Int)<(l.length:Int))=false->xQ P G π x (ZC G π l p T σ l.length m Q) ⟨T l.length, σ,m⟩):VW P G π (.loop x) Q s:=by
 refine VW.dU (α := Nat × Nat) (fun y=>⟨T y.1, σ,y.2⟩) (fun y=>y.1<=l.length/\zu l p y.1) (fun y=>l.length-y.1) (0,k0) hw ⟨Nat.zero_le _,fun j e hj=>absurd hj (Nat.not_lt_zero j)⟩ ?_
 rintro ⟨i,m⟩ ⟨hi,hn⟩
 simp only [] at hi hn
 by_cases hlt:i<l.length
 . exact h i m l[i] (by simp [hlt]) hlt hn (decide_eq_true (by omega))
 . have:i=l.length:=by omega
   subst this
   exact he m hn (decide_eq_false (by omega))
end
end Go.VL
end

section
set_option linter.unusedSimpArgs false
set_option linter.unusedVariables false
namespace Go.VL
open Go.Lib
structure NX where
 name:List UInt8
 c:CX
def NX.av (x:NX):AV := .agg (.str x.name::x.c.cells)
abbrev dT (l:List NX):AV := .sl 15 (l.map NX.av)
theorem CM (x:NX):∀ c∈x.av.cells,aa c:=by
 intro c hc
 rcases List.mem_cons.1 hc with rfl | hc
 . exact aa.str _
 . exact G5 x.c c hc
theorem aF (x:NX):aa x.av:=aa.agg (CM x)
theorem vE (l:List NX):∀ c∈flat (l.map NX.av),aa c:=by
 intro c hc
 simp only [flat,List.mem_flatMap,List.mem_map] at hc
 obtain ⟨_,⟨x,_,rfl⟩,hc⟩:=hc
 exact CM x c hc
theorem aC (l:List NX):aa (dT l):=aa.sl (vE l)
theorem kA (x:NX):(x.av.cells.all AV.one=true)=True:=by
 have:=of_eq_true (mU x.c)
 simp only [NX.av,AV.cells,List.all_cons,AV.one,Bool.true_and]
 simpa [CX.av,AV.cells] using this
theorem U3 (x:NX):part true x.av.cells 0 15=some x.av:=rfl
theorem AA (x:NX):part false x.av.cells 0 1=some (.str x.name):=rfl
theorem Mn (x:NX):part true x.av.cells 1 14=some x.c.av:=rfl
theorem oR {l:List NX} {i:Nat} {x:NX} (h:l[i]? = some x):cW 15 (dT l) (.int .i64 (i:Int))=some (.ep x.av.cells 0):=iM rfl (by rw [List.getElem?_map,h];rfl)
theorem nF {l:List (List UInt8)} {i:Nat} {x:List UInt8} (h:l[i]? = some x):cW 1 (strs l) (.int .i64 (i:Int))=some (.ep (AV.str x).cells 0):=iM rfl (by rw [List.getElem?_map,h];rfl)
theorem vF (s:List UInt8):part false (AV.str s).cells 0 1=some (.str s):=rfl
def ek (l:List NX) (nm:List UInt8):Int:=Af (l.findIdx? fun x=>x.name==nm)
def HU (ins:List (List UInt8)) (n:Nat):Prop:=∃ j k x,j<k/\k<n/\ins[j]? = some x/\ins[k]? = some x
open Classical in
noncomputable def dz (nm:List UInt8) (l:List NX) (ins:List (List UInt8)):Int :=
 if eH nm=false∨ins=[] then 1 else if HU ins ins.length then 1 else if (ins.any fun s=>decide (ek l s<0))=true then 4 else 0
theorem I9 {ins:List (List UInt8)} {i:Nat} {x:List UInt8} (hx:ins[i]? = some x) (h : ¬ HU ins i) (hk:∀ j,j<i->ins[j]? ≠ some x) : ¬ HU ins (i+1):=by
 rintro ⟨j,k,y,h1,h2,h3,h4⟩
 rcases (by omega:k<i∨k=i) with e | rfl
 . exact h ⟨j,k,y,h1,e,h3,h4⟩
 . rw [hx] at h4;simp only [Option.some.injEq] at h4;subst h4;exact hk j h1 h3
def iE (l more:List NX):Int :=
 if 200<l.length+more.length then 3 else if (more.any fun x=>decide (200<x.name.length))=true then 3 else if (more.any fun x=>decide (0<=ek l x.name))=true then 5 else 0
section
variable {P:Program} {G:Nat->Option (List AV)}
theorem RY {f:FuncId} (h:Has P f lf) (l:List NX) (nm:List UInt8) (hl:l.length<=1000000):VP P G f [dT l, .str nm] (.int .i64 (ek l nm)):=by
 refine VP.has h ?_
 simp only [lf,SS,Nat.reduceAdd,reduceIte,az]
 refine VW.scan l (fun e=>e.name==nm) (fun i=>[dT l, .str nm, .top, .top, .top, .int .i64 i]++List.replicate 14 .top) (fun _=>none) 1000 (Wk.slots (by simp [Fg,List.replicate]) (by omega)) (fun i m x hx hlt hn d => ?_) (fun m hn d => ?_)
 . cases hb:x.name==nm
   . skip
     repeat (first
       | simp (disch:=first | decide | exact rfl) only [SS,DD,Nat.reduceAdd,reduceIte,af,ai,az,ZZ,CC,aW,g0,g1,g2,decide_true,decide_false,List.length_map,d,oR hx,aN,AA,hb,aP i (by omega)]
       | with_reducible refine ao (by assumption) (by simp [ag,aq,aj,aa.int,aa.bool,aa.str,aA,ar,aw,aB,aE,aF,aC,aL]) ?_
       | with_reducible refine ay (by assumption) (by simp [ag,aq,aj,aa.int,aa.bool,aa.str,aA,ar,aw,aB,aE,aF,aC,aL]) ?_
       | with_reducible refine And.intro (a:=ab _ _) (by simp [ab,apart]) ?_
       | with_reducible refine VW.aI 3 (VW.of ?_)
       | with_reducible refine b9.next _ (VW.of ?_)
       | rw [au (by exact rfl) (by exact rfl) (by exact rfl) (by exact rfl) (by exact rfl)]
       | rw [bW (by exact rfl) (by exact rfl) (by exact rfl) (by exact rfl)]
       | rw [bX (by exact rfl) (by exact rfl) (by exact rfl) (by exact rfl) (by exact rfl) (by exact rfl)]
       | fail)
     exact ⟨(i+1,_),⟨hlt,hn.succ hx hb⟩,by simp only [];omega,Wk.slots (by simp [Fg,List.replicate]) (Nat.le_refl _)⟩
   . skip
     repeat (first
       | simp (disch:=first | decide | exact rfl) only [SS,DD,Nat.reduceAdd,reduceIte,af,ai,az,ZZ,CC,aW,g0,g1,g2,decide_true,decide_false,List.length_map,d,oR hx,aN,AA,hb]
       | with_reducible refine ao (by assumption) (by simp [ag,aq,aj,aa.int,aa.bool,aa.str,aA,ar,aw,aB,aE,aF,aC,aL]) ?_
       | with_reducible refine ay (by assumption) (by simp [ag,aq,aj,aa.int,aa.bool,aa.str,aA,ar,aw,aB,aE,aF,aC,aL]) ?_
       | with_reducible refine And.intro (a:=ab _ _) (by simp [ab,apart]) ?_
       | with_reducible refine VW.aI 3 (VW.of ?_)
       | with_reducible refine b9.next _ (VW.of ?_)
       | rw [au (by exact rfl) (by exact rfl) (by exact rfl) (by exact rfl) (by exact rfl)]
       | rw [bW (by exact rfl) (by exact rfl) (by exact rfl) (by exact rfl)]
       | rw [bX (by exact rfl) (by exact rfl) (by exact rfl) (by exact rfl) (by exact rfl) (by exact rfl)]
       | fail)
     unfold ek
     rw [qN hx hb hn]
     exact ax▸ae rfl (aa.int _ _)
 . skip
   repeat (first
     | simp (disch:=first | decide | exact rfl) only [SS,DD,Nat.reduceAdd,reduceIte,af,ai,az,ZZ,CC,aW,g0,g1,g2,decide_true,decide_false,List.length_map,d]
     | with_reducible refine ao (by assumption) (by simp [ag,aq,aj,aa.int,aa.bool,aa.str,aA,ar,aw,aB,aE,aF,aC,aL]) ?_
     | with_reducible refine ay (by assumption) (by simp [ag,aq,aj,aa.int,aa.bool,aa.str,aA,ar,aw,aB,aE,aF,aC,aL]) ?_
     | with_reducible refine And.intro (a:=ab _ _) (by simp [ab,apart]) ?_
     | with_reducible refine VW.aI 3 (VW.of ?_)
     | with_reducible refine b9.next _ (VW.of ?_)
     | rw [au (by exact rfl) (by exact rfl) (by exact rfl) (by exact rfl) (by exact rfl)]
     | rw [bW (by exact rfl) (by exact rfl) (by exact rfl) (by exact rfl)]
     | rw [bX (by exact rfl) (by exact rfl) (by exact rfl) (by exact rfl) (by exact rfl) (by exact rfl)]
     | fail)
   unfold ek
   rw [qM (fun j e hj=>hn j e (List.getElem?_eq_some_iff.1 hj).1 hj)]
   exact ax▸ae rfl (aa.int _ _)
set_option maxHeartbeats 1000000 in
theorem Mo {f fn fF:FuncId} (h:Has P f (jN fn fF)) (nm:List UInt8) (l:List NX) (ins:List (List UInt8)) (hN:VP P G fn [.str nm] (.bool (eH nm))) (hF:∀ s∈ins,VP P G fF [dT l, .str s] (.int .i64 (ek l s))) (hl:ins.length<=1000) :
   VP P G f [.str nm,dT l,strs ins] (.int .i64 (dz nm l ins)):=by
 refine VP.has h ?_
 unfold dz
 simp only [jN]
 cases ta:eH nm<;>rw [ta] at hN
 . rw [if_pos (.inl rfl)]
   repeat (first
     | simp (disch:=first | decide | exact rfl) only [SS,DD,Nat.reduceAdd,reduceIte,af,ai,az,ZZ,CC,aW,g0,g1,g2,decide_true,decide_false]
     | with_reducible refine ao (by assumption) (by simp [ag,aq,aj,aa.int,aa.bool,aa.str,aA,ar,aw,aB,aE,aF,aC,aL]) ?_
     | with_reducible refine ay (by assumption) (by simp [ag,aq,aj,aa.int,aa.bool,aa.str,aA,ar,aw,aB,aE,aF,aC,aL]) ?_
     | with_reducible refine And.intro (a:=ab _ _) (by simp [ab,apart]) ?_
     | with_reducible refine VW.aI 3 (VW.of ?_)
     | with_reducible refine b9.next _ (VW.of ?_)
     | rw [au (by exact rfl) (by exact rfl) (by exact rfl) (by exact rfl) (by exact rfl)]
     | rw [bW (by exact rfl) (by exact rfl) (by exact rfl) (by exact rfl)]
     | rw [bX (by exact rfl) (by exact rfl) (by exact rfl) (by exact rfl) (by exact rfl) (by exact rfl)]
     | fail)
   exact ax▸ae rfl (aa.int _ _)
 by_cases h0:ins=[]
 . have d0:decide ((ins.length:Int)=0)=true:=aG (by rw [h0];rfl)
   rw [if_pos (.inr h0)]
   repeat (first
     | simp (disch:=first | decide | exact rfl) only [SS,DD,Nat.reduceAdd,reduceIte,af,ai,az,ZZ,CC,aW,g0,g1,g2,decide_true,decide_false,eS,d0]
     | with_reducible refine ao (by assumption) (by simp [ag,aq,aj,aa.int,aa.bool,aa.str,aA,ar,aw,aB,aE,aF,aC,aL]) ?_
     | with_reducible refine ay (by assumption) (by simp [ag,aq,aj,aa.int,aa.bool,aa.str,aA,ar,aw,aB,aE,aF,aC,aL]) ?_
     | with_reducible refine And.intro (a:=ab _ _) (by simp [ab,apart]) ?_
     | with_reducible refine VW.aI 3 (VW.of ?_)
     | with_reducible refine b9.next _ (VW.of ?_)
     | rw [au (by exact rfl) (by exact rfl) (by exact rfl) (by exact rfl) (by exact rfl)]
     | rw [bW (by exact rfl) (by exact rfl) (by exact rfl) (by exact rfl)]
     | rw [bX (by exact rfl) (by exact rfl) (by exact rfl) (by exact rfl) (by exact rfl) (by exact rfl)]
     | fail)
   exact ax▸ae rfl (aa.int _ _)
 rw [if_neg (by simp [h0])]
 have d0:decide ((ins.length:Int)=0)=false:=aD (fun e=>h0 (List.length_eq_zero_iff.1 (by omega)))
 simp only [SS,Nat.reduceAdd,reduceIte]
 refine ao hN (by simp [aa.str]) ?_
 simp only [SS,Nat.reduceAdd,reduceIte,eS,d0,az]
 refine VW.dU (α := Nat × Nat) (fun x=>⟨[.str nm,dT l,strs ins, .top, .top, .top, .top, .int .i64 x.1]++List.replicate 43 .top,fun _=>none,x.2⟩) (fun x=>x.1<=ins.length /\ ¬ HU ins x.1) (fun x=>ins.length-x.1) (0,1000) ?_ ⟨Nat.zero_le _,fun ⟨j,k,_,_,h,_⟩=>by simp only [] at h;omega⟩ ?_
 . exact Wk.slots (by simp [Fg,List.replicate]) (by simp only [];omega)
 rintro ⟨i,n⟩ ⟨hi,hd⟩
 simp only [] at hi hd
 by_cases hlt:i<ins.length
 . obtain ⟨x,hx⟩:∃ x,ins[i]? = some x:=⟨ins[i],by simp [hlt]⟩
   have d:decide ((i:Int)<(ins.length:Int))=true:=aG (by omega)
   simp only [SS,Nat.reduceAdd,reduceIte,eS,d,az]
   refine VW.dU (α := Nat × Nat) (fun x=>⟨[.str nm,dT l,strs ins, .top, .top, .top, .top, .int .i64 i, .int .i64 x.1]++List.replicate 42 .top,fun _=>none,x.2⟩) (fun y=>y.1<=i/\∀ j,j<y.1->ins[j]? ≠ some x) (fun x=>i-x.1) (0,n+1000) ?_ ⟨Nat.zero_le _,fun j hj=>absurd hj (Nat.not_lt_zero j)⟩ ?_
   . exact Wk.slots (by simp [Fg,List.replicate]) (by simp only [];omega)
   rintro ⟨k,m⟩ ⟨hk,hn⟩
   simp only [] at hk hn
   by_cases WQ:k<i
   . obtain ⟨y,hy⟩:∃ y,ins[k]? = some y:=⟨ins[k],by simp⟩
     have dk:decide ((k:Int)<(i:Int))=true:=aG (by omega)
     cases hb:x==y
     . have hne:y≠x:=fun e=>by rw [e] at hb;simp at hb
       repeat (first
         | simp (disch:=first | decide | exact rfl) only [SS,DD,Nat.reduceAdd,reduceIte,af,ai,az,ZZ,CC,aW,g0,g1,g2,decide_true,decide_false,dk,nF hx,nF hy,aN,vF,hb,aP k (by omega)]
         | with_reducible refine ao (by assumption) (by simp [ag,aq,aj,aa.int,aa.bool,aa.str,aA,ar,aw,aB,aE,aF,aC,aL]) ?_
         | with_reducible refine ay (by assumption) (by simp [ag,aq,aj,aa.int,aa.bool,aa.str,aA,ar,aw,aB,aE,aF,aC,aL]) ?_
         | with_reducible refine And.intro (a:=ab _ _) (by simp [ab,apart]) ?_
         | with_reducible refine VW.aI 3 (VW.of ?_)
         | with_reducible refine b9.next _ (VW.of ?_)
         | rw [au (by exact rfl) (by exact rfl) (by exact rfl) (by exact rfl) (by exact rfl)]
         | rw [bW (by exact rfl) (by exact rfl) (by exact rfl) (by exact rfl)]
         | rw [bX (by exact rfl) (by exact rfl) (by exact rfl) (by exact rfl) (by exact rfl) (by exact rfl)]
         | fail)
       refine ⟨(k+1,_),⟨by simp only [];omega,fun j hj => ?_⟩,by simp only [];omega,Wk.slots (by simp [Fg,List.replicate]) (Nat.le_refl _)⟩
       rcases (by simp only [] at hj;omega:j<k∨j=k) with e | rfl
       . exact hn j e
       . rw [hy];simpa using hne
     . have he:x=y:=by simpa using hb
       repeat (first
         | simp (disch:=first | decide | exact rfl) only [SS,DD,Nat.reduceAdd,reduceIte,af,ai,az,ZZ,CC,aW,g0,g1,g2,decide_true,decide_false,dk,nF hx,nF hy,aN,vF,hb]
         | with_reducible refine ao (by assumption) (by simp [ag,aq,aj,aa.int,aa.bool,aa.str,aA,ar,aw,aB,aE,aF,aC,aL]) ?_
         | with_reducible refine ay (by assumption) (by simp [ag,aq,aj,aa.int,aa.bool,aa.str,aA,ar,aw,aB,aE,aF,aC,aL]) ?_
         | with_reducible refine And.intro (a:=ab _ _) (by simp [ab,apart]) ?_
         | with_reducible refine VW.aI 3 (VW.of ?_)
         | with_reducible refine b9.next _ (VW.of ?_)
         | rw [au (by exact rfl) (by exact rfl) (by exact rfl) (by exact rfl) (by exact rfl)]
         | rw [bW (by exact rfl) (by exact rfl) (by exact rfl) (by exact rfl)]
         | rw [bX (by exact rfl) (by exact rfl) (by exact rfl) (by exact rfl) (by exact rfl) (by exact rfl)]
         | fail)
       rw [if_pos ⟨k,i,x,WQ,hlt,by rw [hy,he],hx⟩]
       exact ax▸ae rfl (aa.int _ _)
   . have dk:decide ((k:Int)<(i:Int))=false:=aD (by omega)
     repeat (first
       | simp (disch:=first | decide | exact rfl) only [SS,DD,Nat.reduceAdd,reduceIte,af,ai,az,ZZ,CC,aW,g0,g1,g2,decide_true,decide_false,dk,aP i (by omega)]
       | with_reducible refine ao (by assumption) (by simp [ag,aq,aj,aa.int,aa.bool,aa.str,aA,ar,aw,aB,aE,aF,aC,aL]) ?_
       | with_reducible refine ay (by assumption) (by simp [ag,aq,aj,aa.int,aa.bool,aa.str,aA,ar,aw,aB,aE,aF,aC,aL]) ?_
       | with_reducible refine And.intro (a:=ab _ _) (by simp [ab,apart]) ?_
       | with_reducible refine VW.aI 3 (VW.of ?_)
       | with_reducible refine b9.next _ (VW.of ?_)
       | rw [au (by exact rfl) (by exact rfl) (by exact rfl) (by exact rfl) (by exact rfl)]
       | rw [bW (by exact rfl) (by exact rfl) (by exact rfl) (by exact rfl)]
       | rw [bX (by exact rfl) (by exact rfl) (by exact rfl) (by exact rfl) (by exact rfl) (by exact rfl)]
       | fail)
     refine ⟨(i+1,_),⟨by simp only [];omega,I9 hx hd fun j hj=>hn j (by omega)⟩,by simp only [];omega,Wk.slots (by simp [Fg,List.replicate]) (Nat.le_refl _)⟩
 . have d:decide ((i:Int)<(ins.length:Int))=false:=aD (by omega)
   have U4:i=ins.length:=by omega
   rw [U4] at hd
   rw [if_neg hd]
   simp only [SS,Nat.reduceAdd,reduceIte,eS,d,az]
   refine VW.scan ins (fun y=>decide (ek l y<0)) (fun i=>[.str nm,dT l,strs ins, .top, .top, .top, .top, .top, .top, .int .i64 i]++List.replicate 41 .top) (fun _=>none) (n+1000) (Wk.slots (by simp [Fg,List.replicate]) (by omega)) (fun k m y hy Te hn dk => ?_) (fun m hn dk => ?_)
   . have hv:=hF y (List.mem_of_getElem? hy)
     cases hb:decide (ek l y<0)
     . skip
       repeat (first
         | simp (disch:=first | decide | exact rfl) only [SS,DD,Nat.reduceAdd,reduceIte,af,ai,az,ZZ,CC,aW,g0,g1,g2,decide_true,decide_false,dk,eS,nF hy,aN,vF,hb,aP k (by omega)]
         | with_reducible refine ao (by assumption) (by simp [ag,aq,aj,aa.int,aa.bool,aa.str,aA,ar,aw,aB,aE,aF,aC,aL]) ?_
         | with_reducible refine ay (by assumption) (by simp [ag,aq,aj,aa.int,aa.bool,aa.str,aA,ar,aw,aB,aE,aF,aC,aL]) ?_
         | with_reducible refine And.intro (a:=ab _ _) (by simp [ab,apart]) ?_
         | with_reducible refine VW.aI 3 (VW.of ?_)
         | with_reducible refine b9.next _ (VW.of ?_)
         | rw [au (by exact rfl) (by exact rfl) (by exact rfl) (by exact rfl) (by exact rfl)]
         | rw [bW (by exact rfl) (by exact rfl) (by exact rfl) (by exact rfl)]
         | rw [bX (by exact rfl) (by exact rfl) (by exact rfl) (by exact rfl) (by exact rfl) (by exact rfl)]
         | fail)
       exact ⟨(k+1,_),⟨Te,hn.succ hy hb⟩,by simp only [];omega,Wk.slots (by simp [Fg,List.replicate]) (Nat.le_refl _)⟩
     . skip
       repeat (first
         | simp (disch:=first | decide | exact rfl) only [SS,DD,Nat.reduceAdd,reduceIte,af,ai,az,ZZ,CC,aW,g0,g1,g2,decide_true,decide_false,dk,eS,nF hy,aN,vF,hb]
         | with_reducible refine ao (by assumption) (by simp [ag,aq,aj,aa.int,aa.bool,aa.str,aA,ar,aw,aB,aE,aF,aC,aL]) ?_
         | with_reducible refine ay (by assumption) (by simp [ag,aq,aj,aa.int,aa.bool,aa.str,aA,ar,aw,aB,aE,aF,aC,aL]) ?_
         | with_reducible refine And.intro (a:=ab _ _) (by simp [ab,apart]) ?_
         | with_reducible refine VW.aI 3 (VW.of ?_)
         | with_reducible refine b9.next _ (VW.of ?_)
         | rw [au (by exact rfl) (by exact rfl) (by exact rfl) (by exact rfl) (by exact rfl)]
         | rw [bW (by exact rfl) (by exact rfl) (by exact rfl) (by exact rfl)]
         | rw [bX (by exact rfl) (by exact rfl) (by exact rfl) (by exact rfl) (by exact rfl) (by exact rfl)]
         | fail)
       rw [if_pos (zx hy hb)]
       exact ax▸ae rfl (aa.int _ _)
   . skip
     repeat (first
       | simp (disch:=first | decide | exact rfl) only [SS,DD,Nat.reduceAdd,reduceIte,af,ai,az,ZZ,CC,aW,g0,g1,g2,decide_true,decide_false,dk,eS]
       | with_reducible refine ao (by assumption) (by simp [ag,aq,aj,aa.int,aa.bool,aa.str,aA,ar,aw,aB,aE,aF,aC,aL]) ?_
       | with_reducible refine ay (by assumption) (by simp [ag,aq,aj,aa.int,aa.bool,aa.str,aA,ar,aw,aB,aE,aF,aC,aL]) ?_
       | with_reducible refine And.intro (a:=ab _ _) (by simp [ab,apart]) ?_
       | with_reducible refine VW.aI 3 (VW.of ?_)
       | with_reducible refine b9.next _ (VW.of ?_)
       | rw [au (by exact rfl) (by exact rfl) (by exact rfl) (by exact rfl) (by exact rfl)]
       | rw [bW (by exact rfl) (by exact rfl) (by exact rfl) (by exact rfl)]
       | rw [bX (by exact rfl) (by exact rfl) (by exact rfl) (by exact rfl) (by exact rfl) (by exact rfl)]
       | fail)
     rw [if_neg (by rw [hn.any (Nat.le_refl _)];decide)]
     exact ax▸ae rfl (aa.int _ _)
theorem RZ {f fF:FuncId} (h:Has P f (lg fF)) (l more:List NX) (hl:l.length<=1000000) (hm:more.length<=1000000) (hF:∀ x∈more,VP P G fF [dT l, .str x.name] (.int .i64 (ek l x.name))):VP P G f [dT l,dT more] (.int .i64 (iE l more)):=by
 have hw:IntKind.i64.wrap ((l.length:Int)+(more.length:Int))=((l.length+more.length:Nat):Int):=by rw [IntKind.wrap_i64];omega
 refine VP.has h ?_
 unfold iE
 simp only [lg]
 by_cases h0:200<l.length+more.length
 . have d0:decide ((200:Int)<((l.length+more.length:Nat):Int))=true:=aG (by omega)
   rw [if_pos h0]
   repeat (first
     | simp (disch:=first | decide | exact rfl) only [SS,DD,Nat.reduceAdd,reduceIte,af,ai,az,ZZ,CC,aW,g0,g1,g2,decide_true,decide_false,List.length_map,hw,d0]
     | with_reducible refine ao (by assumption) (by simp [ag,aq,aj,aa.int,aa.bool,aa.str,aA,ar,aw,aB,aE,aF,aC,aL]) ?_
     | with_reducible refine ay (by assumption) (by simp [ag,aq,aj,aa.int,aa.bool,aa.str,aA,ar,aw,aB,aE,aF,aC,aL]) ?_
     | with_reducible refine And.intro (a:=ab _ _) (by simp [ab,apart]) ?_
     | with_reducible refine VW.aI 3 (VW.of ?_)
     | with_reducible refine b9.next _ (VW.of ?_)
     | rw [au (by exact rfl) (by exact rfl) (by exact rfl) (by exact rfl) (by exact rfl)]
     | rw [bW (by exact rfl) (by exact rfl) (by exact rfl) (by exact rfl)]
     | rw [bX (by exact rfl) (by exact rfl) (by exact rfl) (by exact rfl) (by exact rfl) (by exact rfl)]
     | fail)
   exact ax▸ae rfl (aa.int _ _)
 have d0:decide ((200:Int)<((l.length+more.length:Nat):Int))=false:=aD (by omega)
 rw [if_neg h0]
 simp only [SS,Nat.reduceAdd,reduceIte,List.length_map,hw,d0,az]
 refine VW.scan more (fun x=>decide (200<x.name.length)) (fun i=>[dT l,dT more, .top, .top, .top, .int .i64 i]++List.replicate 34 .top) (fun _=>none) 1000 (Wk.slots (by simp [Fg,List.replicate]) (by omega)) (fun i m x hx hlt hn d => ?_) (fun m hn d => ?_)
 . have e:decide ((200:Int)<(x.name.length:Int))=decide (200<x.name.length):=by congr 1;exact propext (by omega)
   cases hb:decide (200<x.name.length)
   . skip
     repeat (first
       | simp (disch:=first | decide | exact rfl) only [SS,DD,Nat.reduceAdd,reduceIte,af,ai,az,ZZ,CC,aW,g0,g1,g2,decide_true,decide_false,List.length_map,d,oR hx,aN,AA,e,hb,aP i (by omega)]
       | with_reducible refine ao (by assumption) (by simp [ag,aq,aj,aa.int,aa.bool,aa.str,aA,ar,aw,aB,aE,aF,aC,aL]) ?_
       | with_reducible refine ay (by assumption) (by simp [ag,aq,aj,aa.int,aa.bool,aa.str,aA,ar,aw,aB,aE,aF,aC,aL]) ?_
       | with_reducible refine And.intro (a:=ab _ _) (by simp [ab,apart]) ?_
       | with_reducible refine VW.aI 3 (VW.of ?_)
       | with_reducible refine b9.next _ (VW.of ?_)
       | rw [au (by exact rfl) (by exact rfl) (by exact rfl) (by exact rfl) (by exact rfl)]
       | rw [bW (by exact rfl) (by exact rfl) (by exact rfl) (by exact rfl)]
       | rw [bX (by exact rfl) (by exact rfl) (by exact rfl) (by exact rfl) (by exact rfl) (by exact rfl)]
       | fail)
     exact ⟨(i+1,_),⟨hlt,hn.succ hx hb⟩,by simp only [];omega,Wk.slots (by simp [Fg,List.replicate]) (Nat.le_refl _)⟩
   . skip
     repeat (first
       | simp (disch:=first | decide | exact rfl) only [SS,DD,Nat.reduceAdd,reduceIte,af,ai,az,ZZ,CC,aW,g0,g1,g2,decide_true,decide_false,List.length_map,d,oR hx,aN,AA,e,hb]
       | with_reducible refine ao (by assumption) (by simp [ag,aq,aj,aa.int,aa.bool,aa.str,aA,ar,aw,aB,aE,aF,aC,aL]) ?_
       | with_reducible refine ay (by assumption) (by simp [ag,aq,aj,aa.int,aa.bool,aa.str,aA,ar,aw,aB,aE,aF,aC,aL]) ?_
       | with_reducible refine And.intro (a:=ab _ _) (by simp [ab,apart]) ?_
       | with_reducible refine VW.aI 3 (VW.of ?_)
       | with_reducible refine b9.next _ (VW.of ?_)
       | rw [au (by exact rfl) (by exact rfl) (by exact rfl) (by exact rfl) (by exact rfl)]
       | rw [bW (by exact rfl) (by exact rfl) (by exact rfl) (by exact rfl)]
       | rw [bX (by exact rfl) (by exact rfl) (by exact rfl) (by exact rfl) (by exact rfl) (by exact rfl)]
       | fail)
     rw [if_pos (zx hx hb)]
     exact ax▸ae rfl (aa.int _ _)
 . rw [if_neg (by rw [hn.any (Nat.le_refl _)];decide)]
   simp only [SS,Nat.reduceAdd,reduceIte,List.length_map,d,az]
   refine VW.scan more (fun x=>decide (0<=ek l x.name)) (fun i=>[dT l,dT more, .top, .top, .top, .top, .int .i64 i]++List.replicate 33 .top) (fun _=>none) (m+1000) (Wk.slots (by simp [Fg,List.replicate]) (by omega)) (fun i m x hx hlt hn d => ?_) (fun m hn d => ?_)
   . have hv:=hF x (List.mem_of_getElem? hx)
     cases hb:decide (0<=ek l x.name)
     . skip
       repeat (first
         | simp (disch:=first | decide | exact rfl) only [SS,DD,Nat.reduceAdd,reduceIte,af,ai,az,ZZ,CC,aW,g0,g1,g2,decide_true,decide_false,List.length_map,d,oR hx,aN,AA,hb,aP i (by omega)]
         | with_reducible refine ao (by assumption) (by simp [ag,aq,aj,aa.int,aa.bool,aa.str,aA,ar,aw,aB,aE,aF,aC,aL]) ?_
         | with_reducible refine ay (by assumption) (by simp [ag,aq,aj,aa.int,aa.bool,aa.str,aA,ar,aw,aB,aE,aF,aC,aL]) ?_
         | with_reducible refine And.intro (a:=ab _ _) (by simp [ab,apart]) ?_
         | with_reducible refine VW.aI 3 (VW.of ?_)
         | with_reducible refine b9.next _ (VW.of ?_)
         | rw [au (by exact rfl) (by exact rfl) (by exact rfl) (by exact rfl) (by exact rfl)]
         | rw [bW (by exact rfl) (by exact rfl) (by exact rfl) (by exact rfl)]
         | rw [bX (by exact rfl) (by exact rfl) (by exact rfl) (by exact rfl) (by exact rfl) (by exact rfl)]
         | fail)
       exact ⟨(i+1,_),⟨hlt,hn.succ hx hb⟩,by simp only [];omega,Wk.slots (by simp [Fg,List.replicate]) (Nat.le_refl _)⟩
     . skip
       repeat (first
         | simp (disch:=first | decide | exact rfl) only [SS,DD,Nat.reduceAdd,reduceIte,af,ai,az,ZZ,CC,aW,g0,g1,g2,decide_true,decide_false,List.length_map,d,oR hx,aN,AA,hb]
         | with_reducible refine ao (by assumption) (by simp [ag,aq,aj,aa.int,aa.bool,aa.str,aA,ar,aw,aB,aE,aF,aC,aL]) ?_
         | with_reducible refine ay (by assumption) (by simp [ag,aq,aj,aa.int,aa.bool,aa.str,aA,ar,aw,aB,aE,aF,aC,aL]) ?_
         | with_reducible refine And.intro (a:=ab _ _) (by simp [ab,apart]) ?_
         | with_reducible refine VW.aI 3 (VW.of ?_)
         | with_reducible refine b9.next _ (VW.of ?_)
         | rw [au (by exact rfl) (by exact rfl) (by exact rfl) (by exact rfl) (by exact rfl)]
         | rw [bW (by exact rfl) (by exact rfl) (by exact rfl) (by exact rfl)]
         | rw [bX (by exact rfl) (by exact rfl) (by exact rfl) (by exact rfl) (by exact rfl) (by exact rfl)]
         | fail)
       rw [if_pos (zx hx hb)]
       exact ax▸ae rfl (aa.int _ _)
   . skip
     repeat (first
       | simp (disch:=first | decide | exact rfl) only [SS,DD,Nat.reduceAdd,reduceIte,af,ai,az,ZZ,CC,aW,g0,g1,g2,decide_true,decide_false,List.length_map,d]
       | with_reducible refine ao (by assumption) (by simp [ag,aq,aj,aa.int,aa.bool,aa.str,aA,ar,aw,aB,aE,aF,aC,aL]) ?_
       | with_reducible refine ay (by assumption) (by simp [ag,aq,aj,aa.int,aa.bool,aa.str,aA,ar,aw,aB,aE,aF,aC,aL]) ?_
       | with_reducible refine And.intro (a:=ab _ _) (by simp [ab,apart]) ?_
       | with_reducible refine VW.aI 3 (VW.of ?_)
       | with_reducible refine b9.next _ (VW.of ?_)
       | rw [au (by exact rfl) (by exact rfl) (by exact rfl) (by exact rfl) (by exact rfl)]
       | rw [bW (by exact rfl) (by exact rfl) (by exact rfl) (by exact rfl)]
       | rw [bX (by exact rfl) (by exact rfl) (by exact rfl) (by exact rfl) (by exact rfl) (by exact rfl)]
       | fail)
     rw [if_neg (by rw [hn.any (Nat.le_refl _)];decide)]
     exact ax▸ae rfl (aa.int _ _)
theorem R1 {f fv fV:FuncId} (h:Has P f (lj fv fV)) (l:List NX) (hl:l.length<=1000000) (hv:∀ x∈l,VP P G fv [V2 x.c.a] (.bool true)/\VP P G fv [V2 x.c.b] (.bool true)/\VP P G fv [V2 x.c.c] (.bool true)/\VP P G fV [x.c.av] (.bool x.c.valid)):VP P G f [dT l] (.bool !(l.any fun x => !x.c.valid)):=by
 refine VP.has h ?_
 simp only [lj,SS,Nat.reduceAdd,reduceIte,az]
 refine VW.scan l (fun x => !x.c.valid) (fun i=>[dT l, .top, .top, .int .i64 i]++List.replicate 37 .top) (fun _=>none) 1000 (Wk.slots (by simp [Fg,List.replicate]) (by omega)) (fun i m x hx hlt hn d => ?_) (fun m hn d => ?_)
 . obtain ⟨v1,v2,v3,v4⟩:=hv x (List.mem_of_getElem? hx)
   cases hb : !x.c.valid<;>cases J4:x.c.G4
   all_goals
     have M3:x.c.valid = !(!x.c.valid):=by simp
     rw [hb] at M3
     rw [M3] at v4
     repeat (first
       | simp (disch:=first | decide | exact rfl) only [bm,SS,DD,Nat.reduceAdd,reduceIte,af,ai,az,ZZ,CC,aW,g0,g1,g2,decide_true,decide_false,List.length_map,d,oR hx,aN,Mn,mU,oQ,Et,Eu,Ev,G6,gC,J4,hb,aP i (by omega)]
       | with_reducible refine ao (by assumption) (by simp [ag,aq,aj,aa.int,aa.bool,aa.str,aA,ar,aw,aB,aE,aF,aC,aL]) ?_
       | with_reducible refine ay (by assumption) (by simp [ag,aq,aj,aa.int,aa.bool,aa.str,aA,ar,aw,aB,aE,aF,aC,aL]) ?_
       | with_reducible refine And.intro (a:=ab _ _) (by simp [ab,apart]) ?_
       | with_reducible refine VW.aI 3 (VW.of ?_)
       | with_reducible refine b9.next _ (VW.of ?_)
       | rw [au (by repeat (first | exact bb | refine (dr (by simp)).trans ?_)) (by exact rfl) (by exact rfl) (by exact rfl) (by exact rfl)]
       | rw [bW (by exact rfl) (by exact rfl) (by exact rfl) (by exact rfl)]
       | rw [bX (by exact rfl) (by exact rfl) (by exact rfl) (by exact rfl) (by exact rfl) (by exact rfl)]
       | fail)
     first
       | exact ⟨(i+1,_),⟨hlt,hn.succ hx hb⟩,by simp only [];omega,Wk.forget (by simp [Fg,List.replicate]) (fun _ => .inl rfl) (Nat.le_refl _)⟩
       | (rw [zx hx hb];exact ax▸ae rfl (aa.bool _))
 . skip
   repeat (first
     | simp (disch:=first | decide | exact rfl) only [SS,DD,Nat.reduceAdd,reduceIte,af,ai,az,ZZ,CC,aW,g0,g1,g2,decide_true,decide_false,List.length_map,d]
     | with_reducible refine ao (by assumption) (by simp [ag,aq,aj,aa.int,aa.bool,aa.str,aA,ar,aw,aB,aE,aF,aC,aL]) ?_
     | with_reducible refine ay (by assumption) (by simp [ag,aq,aj,aa.int,aa.bool,aa.str,aA,ar,aw,aB,aE,aF,aC,aL]) ?_
     | with_reducible refine And.intro (a:=ab _ _) (by simp [ab,apart]) ?_
     | with_reducible refine VW.aI 3 (VW.of ?_)
     | with_reducible refine b9.next _ (VW.of ?_)
     | rw [au (by exact rfl) (by exact rfl) (by exact rfl) (by exact rfl) (by exact rfl)]
     | rw [bW (by exact rfl) (by exact rfl) (by exact rfl) (by exact rfl)]
     | rw [bX (by exact rfl) (by exact rfl) (by exact rfl) (by exact rfl) (by exact rfl) (by exact rfl)]
     | fail)
   rw [hn.any (Nat.le_refl _)]
   exact ax▸ae rfl (aa.bool _)
end
end Go.VL
end

section
set_option linter.unusedSimpArgs false
set_option linter.unusedVariables false
set_option maxRecDepth 100000
namespace Go.VL
open Go.Lib
def m9 (k:Nat) (v:Q2):Prop:=Sm k v.1/\Sm k v.2
theorem m9.mono {j k:Nat} {v:Q2} (h:m9 j v) (NP:j<=k):m9 k v:=⟨h.1.mono NP,h.2.mono NP⟩
theorem m9.add {j k:Nat} {a b:Q2} (ha:m9 j a) (hb:m9 k b):m9 (j+k+1) (gv a b):=⟨ha.1.add hb.1,ha.2.add hb.2⟩
theorem m9.sub {j k:Nat} {a b:Q2} (ha:m9 j a) (hb:m9 k b):m9 (j+k+1) (jq a b):=⟨ha.1.sub hb.1,ha.2.sub hb.2⟩
theorem m9.scale {j k:Nat} {a:Q2} {n:Rat} (ha:m9 j a) (hn:Sm k n):m9 (j+k) (ga a n):=⟨ha.1.mul hn,ha.2.mul hn⟩
theorem m9.left {j:Nat} {a:Q2} (ha:m9 j a):m9 j (-a.2,a.1):=⟨ha.2.neg,ha.1⟩
theorem Sm.dot {j k:Nat} {a b:Q2} (ha:m9 j a) (hb:m9 k b):Sm (j+k+(j+k)+1) (rW a b):=(ha.1.mul hb.1).add (ha.2.mul hb.2)
theorem Sm.Ks {j k:Nat} {a b:Q2} (ha:m9 j a) (hb:m9 k b):Sm (4*(j+k+1)+1) (Ks a b):=(Sm.dot (ha.sub hb) (ha.sub hb)).mono (by omega)
def CX.Sm (k:Nat) (x:CX):Prop:=m9 k x.a/\m9 k x.b/\m9 k x.c
theorem CX.Sm.mono {j k:Nat} {x:CX} (h:x.Sm j) (NP:j<=k):x.Sm k:=⟨h.1.mono NP,h.2.1.mono NP,h.2.2.mono NP⟩
theorem zy {a:Int} {b:Nat} (hb:b≠0) (h1:a.natAbs<aK) (h2:b<aK):Sm 1 ((a:Rat)/((b:Int):Rat)):=by
 rw [<- Rat.divInt_eq_div]
 exact ⟨Nat.le_trans (uk _ _) (fN (by rw [Nat.pow_one];exact h1)),Nat.le_trans (um _ _ (by omega)) (fN (by rw [Nat.pow_one];exact h2))⟩
theorem J6 {p:Int × Int} (hp:ok8 p) (u:Nat):m9 1 (vD p u):=by
 obtain ⟨q1,q2,q3,q4⟩:=hp
 exact ⟨zy (by omega) (by unfold aK;omega) (by unfold aK;omega),zy (by omega) (by unfold aK;omega) (by unfold aK;omega)⟩
theorem Mp {k:Nat} (hk:k<16):m9 1 (vC k):=by
 obtain ⟨a,b,c,hu,c0,c1,a1,a2,b1,b2,_⟩:=I8 hk
 unfold vC;rw [hu]
 exact ⟨zy c0 (by unfold aK;omega) (by unfold aK;omega),zy c0 (by unfold aK;omega) (by unfold aK;omega)⟩
theorem Mq {d:DX} (hd:d.Ok):d.ib.Sm 20:=by
 obtain ⟨h1,h2,h3,h4⟩:=hd
 have sa:=J6 h1 d.unit
 have sb:=J6 h2 d.unit
 have su:=Mp (Nat.mod_lt d.step (by decide:0<16))
 unfold DX.ib
 split
 . exact ⟨sb.mono (by omega),(sa.add (((sb.sub sa).scale su.1).add (((sb.sub sa).left).scale su.2))).mono (by omega),sa.mono (by omega)⟩
 . exact ⟨sa.mono (by omega),sb.mono (by omega),⟨Sm.zero.mono (by omega),Sm.zero.mono (by omega)⟩⟩
def CN (P:Program) (G:Nat->Option (List AV)) (f:FuncId):Prop:=∀ a b:Q2,m9 5000 a->m9 5000 b->da P G f [V2 a,V2 b] (V2 (gv a b))
def ZD (P:Program) (G:Nat->Option (List AV)) (f:FuncId):Prop:=∀ a b:Q2,m9 5000 a->m9 5000 b->da P G f [V2 a,V2 b] (V2 (jq a b))
def xx (P:Program) (G:Nat->Option (List AV)) (f:FuncId):Prop:=∀ (a:Q2) (n:Rat),m9 5000 a->Sm 5000 n->da P G f [V2 a,NV n] (V2 (ga a n))
def P8 (P:Program) (G:Nat->Option (List AV)) (f:FuncId):Prop:=∀ x:CX,x.Sm 5000->VP P G f [x.av] (.bool x.valid)
theorem U5 (r w:Bool) (a b c:Q2):iN [.bool false, .nils, .nils, .nils, .nils, .nils, .nils, .nils, .nils, .nils, .nils, .nils, .nils, .bool false] [(0,(1, .bool r)),(13,(1, .bool w)),(1,(4,V2 a)),(5,(4,V2 b)),(9,(4,V2 c))]=some (CX.cells ⟨r,a,b,c,w⟩):=rfl
theorem ZE (x:CX):AV.agg x.cells=x.av:=rfl
section
variable {P:Program} {G:Nat->Option (List AV)}
set_option maxHeartbeats 1000000 in
theorem Og {f fa fw fm fu fs fl fp fv:FuncId} (h:Has P f (kq fa fw fm fu fs fl fp fv)) (d:DX) (hd:d.Ok) (ha:∀ p u,ok8 p->u<256->VP P G fa [I2 p, .int .u8 ((u:Nat):Int)] (V2 (vD p u))) (hw:VP P G fw [.int .i64 0, .int .i64 0] (V2 (0,0)))
   (hm:ZD P G fm) (hu:∀ n:Nat,n<256->VP P G fu [.int .u8 (n:Int)] (V2 (vC (n%16)))) (hs:xx P G fs) (hl:∀ a:Q2,m9 5000 a->VP P G fl [V2 a] (V2 (-a.2,a.1))) (hp:CN P G fp) (hv:P8 P G fv):VP P G f [d.av] (.tup [d.ib.av, .bool d.ib.valid]):=by
 have qW:=hv d.ib ((Mq hd).mono (by omega))
 obtain ⟨h1,h2,h3,h4⟩:=hd
 have sa:=J6 h1 d.unit
 have sb:=J6 h2 d.unit
 have a1:=ha d.a d.unit h1 h4
 have a2:=ha d.b d.unit h2 h4
 refine VP.has h ?_
 simp only [kq]
 cases J4:d.G4
 . have e:d.ib=⟨false,vD d.a d.unit,vD d.b d.unit,(0,0),d.cw⟩:=by unfold DX.ib;rw [if_neg (by rw [J4];decide)]
   rw [e] at qW ⊢
   repeat (first
     | simp (disch:=first | decide | exact rfl) only [SS,DD,Nat.reduceAdd,reduceIte,af,ai,az,ZZ,CC,aW,g0,g1,g2,decide_true,decide_false,U0,Zw,Zx,Zy,Zz,ZA,ZB,J4,gC,U5,ZE,mU,oQ]
     | with_reducible refine ao (by assumption) (by simp [ag,aq,aj,aa.int,aa.bool,aa.str,aA,ar,aw,aB,aE,aF,aC,eW,Fm,aL]) ?_
     | with_reducible refine ay (by assumption) (by simp [ag,aq,aj,aa.int,aa.bool,aa.str,aA,ar,aw,aB,aE,aF,aC,eW,Fm,aL]) ?_
     | with_reducible refine And.intro (a:=ab _ _) (by simp [ab,apart]) ?_
     | with_reducible refine VW.aI 3 (VW.of ?_)
     | with_reducible refine b9.next _ (VW.of ?_)
     | rw [au (by exact rfl) (by exact rfl) (by exact rfl) (by exact rfl) (by exact rfl)]
     | rw [bW (by exact rfl) (by exact rfl) (by exact rfl) (by exact rfl)]
     | rw [bX (by exact rfl) (by exact rfl) (by exact rfl) (by exact rfl) (by exact rfl) (by exact rfl)]
     | fail)
   refine ax▸ae (r := .tup [CX.av ⟨false,vD d.a d.unit,vD d.b d.unit,(0,0),d.cw⟩, .bool (CX.valid ⟨false,vD d.a d.unit,vD d.b d.unit,(0,0),d.cw⟩)]) ?_ (aa.tup (by simp [aE,aa.bool]))
   simp (disch:=decide) only [RS,a8,bg,af,ai,oQ]
 . have su:=Mp (Nat.mod_lt d.step (by decide:0<16))
   have u1:=hu d.step h3
   have m1:=hm _ _ (sb.mono (by omega)) (sa.mono (by omega))
   have sv:=sb.sub sa
   have s1:=hs _ _ (sv.mono (by omega)) (su.1.mono (by omega))
   have l1:=hl _ (sv.mono (by omega))
   have s2:=hs _ _ (sv.left.mono (by omega)) (su.2.mono (by omega))
   have p1:=hp _ _ ((sv.scale su.1).mono (by omega)) ((sv.left.scale su.2).mono (by omega))
   have p2:=hp _ _ (sa.mono (by omega)) (((sv.scale su.1).add (sv.left.scale su.2)).mono (by omega))
   have e0:iN [.int .i64 0] []=some [.int .i64 0]:=rfl
   have e1:((AV.cells (.agg [.int .i64 0])).all AV.one=true)=True:=by simp [AV.cells,AV.one]
   have e:d.ib=⟨true,vD d.b d.unit,gv (vD d.a d.unit) (gv (ga (jq (vD d.b d.unit) (vD d.a d.unit)) (vC (d.step%16)).1) (ga (-(jq (vD d.b d.unit) (vD d.a d.unit)).2,(jq (vD d.b d.unit) (vD d.a d.unit)).1) (vC (d.step%16)).2)),vD d.a d.unit,d.cw⟩:=by unfold DX.ib;rw [if_pos J4]
   rw [e] at qW ⊢
   generalize hV:jq (vD d.b d.unit) (vD d.a d.unit)=v at *
   generalize vC (d.step%16)=w at *
   generalize hR:gv (vD d.a d.unit) (gv (ga v w.1) (ga (-v.2,v.1) w.2))=r at *
   repeat (first
     | simp (disch:=first | decide | exact rfl) only [SS,DD,Nat.reduceAdd,reduceIte,af,ai,az,ZZ,CC,aW,g0,g1,g2,decide_true,decide_false,U0,Zw,Zx,Zy,Zz,ZA,ZB,J4,gC,cz,U5,ZE,mU,oQ,Eu,Ev,G6,fE,cC,CH,CI,e0,e1]
     | with_reducible refine ao (by assumption) (by simp [ag,aq,aj,aa.int,aa.bool,aa.str,aA,ar,aw,aB,aE,aF,aC,eW,Fm,aL]) ?_
     | with_reducible refine ay (by assumption) (by simp [ag,aq,aj,aa.int,aa.bool,aa.str,aA,ar,aw,aB,aE,aF,aC,eW,Fm,aL]) ?_
     | with_reducible refine And.intro (a:=ab _ _) (by simp [ab,apart]) ?_
     | with_reducible refine VW.aI 3 (VW.of ?_)
     | with_reducible refine b9.next _ (VW.of ?_)
     | rw [au (by exact rfl) (by exact rfl) (by exact rfl) (by exact rfl) (by exact rfl)]
     | rw [bW (by exact rfl) (by exact rfl) (by exact rfl) (by exact rfl)]
     | rw [bX (by exact rfl) (by exact rfl) (by exact rfl) (by exact rfl) (by exact rfl) (by exact rfl)]
     | rw [Fj (by exact rfl)]
     | rw [Fk (by exact rfl)]
     | rw [Fl (by exact rfl)]
     | refine eI m1 (by decide) (by exact rfl) ?_
     | refine eI s1 (by decide) (by exact rfl) ?_
     | refine eI s2 (by decide) (by exact rfl) ?_
     | refine eI p1 (by decide) (by exact rfl) ?_
     | refine eI p2 (by decide) (by exact rfl) ?_
     | fail)
   refine ax▸ae (r := .tup [CX.av ⟨true,vD d.b d.unit,r,vD d.a d.unit,d.cw⟩, .bool (CX.valid ⟨true,vD d.b d.unit,r,vD d.a d.unit,d.cw⟩)]) ?_ (aa.tup (by simp [aE,aa.bool]))
   simp (disch:=decide) only [RS,a8,bg,af,ai,oQ]
end
end Go.VL
end

section
set_option linter.unusedSimpArgs false
set_option linter.unusedVariables false
set_option maxRecDepth 100000
namespace Go.VL
open Go.Lib
def OL (q:Id) (k:Nat) (l:List AV):AV:=if l=[] then .nils else .osl q k 0 l.length false
def OB (k:Nat) (l:List AV):Option dA:=if l=[] then none else some ⟨l,k,false⟩
theorem G7 {q:Id} {k:Nat}:OL q k [] = .nils:=rfl
theorem J7 {k:Nat}:OB k []=none:=rfl
theorem Ew {q:Id} {k:Nat} {l:List AV} (h:l≠[]):OL q k l = .osl q k 0 l.length false:=if_neg h
theorem Ja {k:Nat} {l:List AV} (h:l≠[]):OB k l=some ⟨l,k,false⟩:=if_neg h
theorem Fo {q:Id} {k:Nat} {l:List AV} {x:AV}:OL q k (l++[x]) = .osl q k 0 (l.length+1) false:=by rw [Ew (by simp)];simp
theorem J8 {q:Id} {k:Nat} {x:AV}:OL q k [x] = .osl q k 0 1 false:=rfl
theorem Fp {k:Nat} {l:List AV} {x:AV}:OB k (l++[x])=some ⟨l++[x],k,false⟩:=Ja (by simp)
theorem J9 {σ : ah} {p id D6:Id} {k bytes:Nat} {l:List AV} {x:AV} {b t:Bool} (h : σ id=some ⟨[x],k,b⟩) (h2 : σ D6=some ⟨l,k,false⟩) (hb:(l.length+1)*bytes<=140737488355328) (h0:0<bytes) (h1:x.cells.all AV.one=true) (h3:(l.all fun e=>e.cells.all AV.one)=true) :
   eu σ p k bytes (.osl D6 k 0 l.length false) (.osl id k 0 1 t)=some { val := .osl p k 0 (l.length+1) false,rd:=[D6,id],up:=[(D6,none),(p,some ⟨l++[x],k,false⟩)] } :=
 oz (σ := σ) (p:=p) (id:=D6) (k:=k) (bytes:=bytes) (len:=l.length) (x := .osl id k 0 1 t) (els:=l) (ys:=[x]) (rd:=[id]) (by rw [nL h rfl (by simp)];rfl) (by simp) h2 rfl hb (eC (by have:=Nat.le_mul_of_pos_right (l.length+1) h0;simp;omega)) (by simpa using h1) h3
theorem CO {σ : ah} {q:Id} {k:Nat} {l:List AV} (h:l=[] ∨ σ q=some ⟨l,k,false⟩) (hk:∀ e∈l,e.size=k) (hp:∀ c∈flat l,aa c):View σ (OL q k l) (.sl k l):=by
 by_cases hl:l=[]
 . subst hl;exact View.nils k
 . rw [Ew hl]
   exact View.osl (bk:=⟨l,k,false⟩) (h.resolve_left hl) rfl (by simp) (by simpa using aM.pure hp) (by simp) hk
theorem zQ {α β : Type} {l:List α} {i:Nat} {x : α} {f : α -> β} (h:l[i]? = some x):(l.take (i+1)).map f=(l.take i).map f++[f x]:=by
 rw [List.take_add_one,h];simp
abbrev Oh (l:List CX):AV := .sl 14 (l.map CX.av)
abbrev Kt (l:List DX):AV := .sl 8 (l.map DX.av)
theorem G8 (l:List CX):∀ c∈flat (l.map CX.av),aa c:=by
 intro c hc
 simp only [flat,List.mem_flatMap,List.mem_map] at hc
 obtain ⟨_,⟨x,_,rfl⟩,hc⟩:=hc
 exact G5 x c hc
theorem aQ (l:List CX):aa (Oh l):=aa.sl (G8 l)
theorem U6 (l:List DX):aa (Kt l):=aa.sl (by
 intro c hc
 simp only [flat,List.mem_flatMap,List.mem_map] at hc
 obtain ⟨_,⟨x,_,rfl⟩,hc⟩:=hc
 simp only [DX.av,AV.cells,List.mem_cons,List.not_mem_nil,or_false] at hc
 rcases hc with rfl | rfl | rfl | rfl | rfl | rfl | rfl | rfl<;>first | exact aa.bool _ | exact aa.int _ _)
theorem Ka {l:List DX} {i:Nat} {x:DX} (h:l[i]? = some x):cW 8 (Kt l) (.int .i64 (i:Int))=some (.ep x.av.cells 0):=iM rfl (by rw [List.getElem?_map,h];rfl)
theorem Oi {l:List CX} {i:Nat} {x:CX} (h:l[i]? = some x):cW 14 (Oh l) (.int .i64 (i:Int))=some (.ep x.av.cells 0):=iM rfl (by rw [List.getElem?_map,h];rfl)
theorem nj {α : Type} {f : α -> AV} (h:∀ x,((f x).cells.all AV.one=true)=True) (l:List α):((l.map f).all fun e=>e.cells.all AV.one)=true:=by
 rw [List.all_eq_true];intro e he;obtain ⟨x,_,rfl⟩:=List.mem_map.1 he;exact of_eq_true (h x)
section
variable {P:Program} {G:Nat->Option (List AV)}
set_option maxHeartbeats 1000000 in
theorem Mr {f fc:FuncId} (h:Has P f (gA fc)) (ds:List DX) (hc:∀ d∈ds,VP P G fc [d.av] (.tup [d.ib.av, .bool d.ib.valid])) (hl:ds.length<=1000000) :
   VP P G f [Kt ds, .int .i64 6] (if 6<ds.length∨(ds.any (fun d:DX => !d.ib.valid))=true then .tup [.nils, .bool false] else .tup [Oh (ds.map DX.ib), .bool true]):=by
 refine VP.has h ?_
 simp only [gA]
 by_cases h6:6<ds.length
 . have d0:decide ((6:Int)<(ds.length:Int))=true:=aG (by omega)
   rw [if_pos (.inl h6)]
   repeat (first
     | simp (disch:=first | decide | exact rfl) only [SS,DD,Nat.reduceAdd,reduceIte,af,ai,az,ZZ,CC,aW,g0,g1,g2,decide_true,decide_false,List.length_map,d0]
     | with_reducible refine ao (by assumption) (by simp [ag,aq,aj,aa.int,aa.bool,aa.str,aA,ar,aw,aB,aE,aF,aC,eW,aL]) ?_
     | with_reducible refine ay (by assumption) (by simp [ag,aq,aj,aa.int,aa.bool,aa.str,aA,ar,aw,aB,aE,aF,aC,eW,aL]) ?_
     | with_reducible refine And.intro (a:=ab _ _) (by simp [ab,apart]) ?_
     | with_reducible refine VW.aI 3 (VW.of ?_)
     | with_reducible refine b9.next _ (VW.of ?_)
     | rw [au (by exact rfl) (by exact rfl) (by exact rfl) (by exact rfl) (by exact rfl)]
     | rw [bW (by exact rfl) (by exact rfl) (by exact rfl) (by exact rfl)]
     | rw [bX (by exact rfl) (by exact rfl) (by exact rfl) (by exact rfl) (by exact rfl) (by exact rfl)]
     | fail)
   exact ax▸ae rfl (aa.tup (by simp [aA,aa.bool]))
 have d0:decide ((6:Int)<(ds.length:Int))=false:=aD (by omega)
 simp only [SS,Nat.reduceAdd,reduceIte,List.length_map,d0,az]
 refine VW.dU (α := Nat × Nat × Nat) (fun y=>⟨[Kt ds, .int .i64 6, .top, .top, .top, .top,OL [y.2.2] 14 ((ds.take y.1).map fun d:DX=>d.ib.av), .int .i64 (y.1:Nat)]++List.replicate 27 .top,ah.put (fun _=>none) [y.2.2] (OB 14 ((ds.take y.1).map fun d:DX=>d.ib.av)),y.2.1⟩)
   (fun y=>y.1<=ds.length/\y.2.2<y.2.1/\zu ds (fun d:DX => !d.ib.valid) y.1) (fun y=>ds.length-y.1) (0,1000,0) ?_ ?_ ?_
 . exact Wk.forget (by simp [Fg,List.replicate,OL]) (fun j => .inl (by simp [ah.put,OB])) (by simp only [];omega)
 . exact ⟨Nat.zero_le _,by decide,fun j e hj=>absurd hj (Nat.not_lt_zero j)⟩
 rintro ⟨i,m,q⟩ ⟨hi,hq,hn⟩
 simp only [] at hi hq hn
 by_cases hlt:i<ds.length
 . obtain ⟨x,hx⟩:∃ x,ds[i]? = some x:=⟨ds[i],by simp [hlt]⟩
   have d:decide ((i:Int)<(ds.length:Int))=true:=aG (by omega)
   have hv:=hc x (List.mem_of_getElem? hx)
   have E6:=zQ (f:=fun d:DX=>d.ib.av) hx
   have AG:(((ds.take i).map fun d:DX=>d.ib.av).all fun e=>e.cells.all AV.one)=true:=nj (f:=fun d:DX=>d.ib.av) (fun d=>mU d.ib) _
   have hlen:((ds.take i).map fun d:DX=>d.ib.av).length<=6:=by simp;omega
   simp only []
   generalize hL:((ds.take i).map fun d:DX=>d.ib.av)=L at *
   have hnq:∀ j,m<=j->([j]:Id)≠[q]:=fun j hj=>by simp;omega
   cases hb:x.ib.valid<;>rw [hb] at hv
   . by_cases Fq:L=[]
     . rw [Fq]
       repeat (first
         | simp (disch:=first | decide | exact rfl) only [bm,SS,DD,Nat.reduceAdd,reduceIte,af,ai,az,ZZ,CC,aW,g0,g1,g2,decide_true,decide_false,List.length_map,d,Ka hx,aN,J5,gC,G7]
         | with_reducible refine ao (by assumption) (by simp [ag,aq,aj,aa.int,aa.bool,aa.str,aA,ar,aw,aB,aE,aF,aC,eW,aL]) ?_
         | with_reducible refine ay (by assumption) (by simp [ag,aq,aj,aa.int,aa.bool,aa.str,aA,ar,aw,aB,aE,aF,aC,eW,aL]) ?_
         | with_reducible refine And.intro (a:=ab _ _) (by simp [ab,apart]) ?_
         | with_reducible refine VW.aI 3 (VW.of ?_)
         | with_reducible refine b9.next _ (VW.of ?_)
         | rw [au (by repeat (first | exact bb | refine (dr (by simp)).trans ?_)) (by exact rfl) (by exact rfl) (by exact rfl) (by exact rfl)]
         | rw [bW (by exact rfl) (by exact rfl) (by exact rfl) (by exact rfl)]
         | rw [bX (by exact rfl) (by exact rfl) (by exact rfl) (by exact rfl) (by exact rfl) (by exact rfl)]
         | fail)
       rw [if_pos (.inr (zx hx (by simp [hb])))]
       exact ax▸ae rfl (aa.tup (by simp [aA,aa.bool]))
     . rw [Ew Fq]
       repeat (first
         | simp (disch:=first | decide | exact rfl) only [bm,SS,DD,Nat.reduceAdd,reduceIte,af,ai,az,ZZ,CC,aW,g0,g1,g2,decide_true,decide_false,List.length_map,d,Ka hx,aN,J5,gC]
         | with_reducible refine ao (by assumption) (by simp [ag,aq,aj,aa.int,aa.bool,aa.str,aA,ar,aw,aB,aE,aF,aC,eW,aL]) ?_
         | with_reducible refine ay (by assumption) (by simp [ag,aq,aj,aa.int,aa.bool,aa.str,aA,ar,aw,aB,aE,aF,aC,eW,aL]) ?_
         | with_reducible refine And.intro (a:=ab _ _) (by simp [ab,apart]) ?_
         | with_reducible refine VW.aI 3 (VW.of ?_)
         | with_reducible refine b9.next _ (VW.of ?_)
         | rw [au (by repeat (first | exact bb | refine (dr (by simp)).trans ?_)) (by exact rfl) (by exact rfl) (by exact rfl) (by exact rfl)]
         | rw [bW (by exact rfl) (by exact rfl) (by exact rfl) (by exact rfl)]
         | rw [bX (by exact rfl) (by exact rfl) (by exact rfl) (by exact rfl) (by exact rfl) (by exact rfl)]
         | fail)
       rw [if_pos (.inr (zx hx (by simp [hb])))]
       exact ax▸ae rfl (aa.tup (by simp [aA,aa.bool]))
   . by_cases Fq:L=[]
     . subst Fq
       repeat (first
         | simp (disch:=first | decide | exact rfl) only [bm,SS,DD,Nat.reduceAdd,reduceIte,af,ai,az,ZZ,CC,aW,g0,g1,g2,decide_true,decide_false,List.length_map,d,Ka hx,aN,J5,mU,oQ,gC,G7,J7,aP i (by omega)]
         | with_reducible refine ao (by assumption) (by simp [ag,aq,aj,aa.int,aa.bool,aa.str,aA,ar,aw,aB,aE,aF,aC,eW,aL]) ?_
         | with_reducible refine ay (by assumption) (by simp [ag,aq,aj,aa.int,aa.bool,aa.str,aA,ar,aw,aB,aE,aF,aC,eW,aL]) ?_
         | with_reducible refine And.intro (a:=ab _ _) (by simp [ab,apart]) ?_
         | with_reducible refine VW.aI 3 (VW.of ?_)
         | with_reducible refine b9.next _ (VW.of ?_)
         | rw [au (by repeat (first | exact bb | refine (dr (by simp)).trans ?_)) (by exact rfl) (by exact rfl) (by exact rfl) (by exact rfl)]
         | rw [bW (by exact rfl) (by exact rfl) (by exact rfl) (by exact rfl)]
         | rw [bX (by exact rfl) (by exact rfl) (by exact rfl) (by exact rfl) (by exact rfl) (by exact rfl)]
         | rw [Bf bb (by decide) (by exact rfl)]
         | fail)
       refine ⟨(i+1,_,m+4+11+2+3),⟨hlt, ?_,hn.succ hx (by simp [hb])⟩,by simp only [];omega,Wk.forget (by simp [Fg,List.replicate,E6,J8]) (fun j => ?_) (Nat.le_refl _)⟩
       . simp only [];omega
       . rw [E6];simp only [ah.put,ah.app,List.nil_append];split<;>simp_all [OB]
     . rw [Ew Fq,Ja Fq]
       repeat (first
         | simp (disch:=first | decide | exact rfl) only [bm,SS,DD,Nat.reduceAdd,reduceIte,af,ai,az,ZZ,CC,aW,g0,g1,g2,decide_true,decide_false,List.length_map,d,Ka hx,aN,J5,mU,oQ,gC,aP i (by omega)]
         | with_reducible refine ao (by assumption) (by simp [ag,aq,aj,aa.int,aa.bool,aa.str,aA,ar,aw,aB,aE,aF,aC,eW,aL]) ?_
         | with_reducible refine ay (by assumption) (by simp [ag,aq,aj,aa.int,aa.bool,aa.str,aA,ar,aw,aB,aE,aF,aC,eW,aL]) ?_
         | with_reducible refine And.intro (a:=ab _ _) (by simp [ab,apart]) ?_
         | with_reducible refine VW.aI 3 (VW.of ?_)
         | with_reducible refine b9.next _ (VW.of ?_)
         | rw [au (by repeat (first | exact bb | refine (dr (by simp)).trans ?_)) (by exact rfl) (by exact rfl) (by exact rfl) (by exact rfl)]
         | rw [bW (by exact rfl) (by exact rfl) (by exact rfl) (by exact rfl)]
         | rw [bX (by exact rfl) (by exact rfl) (by exact rfl) (by exact rfl) (by exact rfl) (by exact rfl)]
         | rw [J9 (l:=L) bb (by repeat (first | exact bb | refine (dr (by simp;omega)).trans ?_)) (by omega) (by decide) (by exact rfl) AG]
         | fail)
       refine ⟨(i+1,_,m+4+11+2+3),⟨hlt, ?_,hn.succ hx (by simp [hb])⟩,by simp only [];omega,Wk.forget (by simp [Fg,List.replicate,E6,Fo]) (fun j => ?_) (Nat.le_refl _)⟩
       . simp only [];omega
       . rw [E6,Fp];simp only [ah.put,ah.app];split<;>simp_all
 . have d:decide ((i:Int)<(ds.length:Int))=false:=aD (by omega)
   have U4:i=ds.length:=by omega
   subst U4
   rw [if_neg (by simp only [not_or];exact ⟨h6,by rw [hn.any (Nat.le_refl _)];decide⟩)]
   simp only [List.take_length]
   repeat (first
     | simp (disch:=first | decide | exact rfl) only [bm,SS,DD,Nat.reduceAdd,reduceIte,af,ai,az,ZZ,CC,aW,g0,g1,g2,decide_true,decide_false,List.length_map,d]
     | with_reducible refine ao (by assumption) (by simp [ag,aq,aj,aa.int,aa.bool,aa.str,aA,ar,aw,aB,aE,aF,aC,eW,aL]) ?_
     | with_reducible refine ay (by assumption) (by simp [ag,aq,aj,aa.int,aa.bool,aa.str,aA,ar,aw,aB,aE,aF,aC,eW,aL]) ?_
     | with_reducible refine And.intro (a:=ab _ _) (by simp [ab,apart]) ?_
     | with_reducible refine VW.aI 3 (VW.of ?_)
     | with_reducible refine b9.next _ (VW.of ?_)
     | rw [au (by repeat (first | exact bb | refine (dr (by simp)).trans ?_)) (by exact rfl) (by exact rfl) (by exact rfl) (by exact rfl)]
     | rw [bW (by exact rfl) (by exact rfl) (by exact rfl) (by exact rfl)]
     | rw [bX (by exact rfl) (by exact rfl) (by exact rfl) (by exact rfl) (by exact rfl) (by exact rfl)]
     | fail)
   refine ax▸⟨_,rfl,View.tup (.cons ?_ (.cons (View.pure (aa.bool _)) .nil))⟩
   have e:(ds.map fun d:DX=>d.ib.av)=(ds.map DX.ib).map CX.av:=by rw [List.map_map];rfl
   rw [e]
   refine CO ?_ (by intro a ha;obtain ⟨y,_,rfl⟩:=List.mem_map.1 ha;rfl) (G8 _)
   by_cases h0:(ds.map DX.ib).map CX.av=[]
   . exact .inl h0
   . right;simp only [ah.put,if_true];exact Ja h0
def named (cs:List CX):List NX:=cs.mapIdx fun i c=>⟨[107,47]++decDigits i,c⟩
theorem Oj {cs:List CX} {i:Nat} {x:CX} (h:cs[i]? = some x):(named (cs.take (i+1))).map NX.av=(named (cs.take i)).map NX.av++[NX.av ⟨[107,47]++decDigits i,x⟩]:=by
 have hlt:=(List.getElem?_eq_some_iff.1 h).1
 unfold named
 rw [List.take_add_one,h,List.mapIdx_append]
 simp [List.length_take,Nat.min_eq_left (Nat.le_of_lt hlt)]
theorem G9 (s:List UInt8) (x:CX):iN [.str [], .bool false, .nils, .nils, .nils, .nils, .nils, .nils, .nils, .nils, .nils, .nils, .nils, .nils, .bool false] [(0,(1, .str s)),(1,(14,x.av))]=some (.str s::x.cells):=rfl
theorem Ms (s:List UInt8) (x:CX):AV.agg (.str s::x.cells)=NX.av ⟨s,x⟩:=rfl
set_option maxHeartbeats 1000000 in
theorem R2 {f fc fd:FuncId} (h:Has P f (ln fc fd)) (ds:List DX) (b:Bool) (cs:List CX) (hb:b=false->cs=[]) (hl:cs.length<=6) (hc:VP P G fc [Kt ds, .int .i64 6] (if b=true then .tup [Oh cs, .bool true] else .tup [.nils, .bool false])) (hd:∀ n:Nat,n<1000->VP P G fd [.int .i64 (n:Int)] (.str (decDigits n))) :
   VP P G f [Kt ds] (.tup [dT (named cs), .bool b]):=by
 refine VP.has h ?_
 simp only [ln]
 have hp0:∀ c∈[Kt ds, .int .i64 6],aa c:=by simp [U6,aa.int]
 cases b
 . rw [hb rfl]
   rw [if_neg (by decide)] at hc
   simp only [SS,Nat.reduceAdd,reduceIte]
   refine ao hc hp0 ?_
   repeat (first
     | simp (disch:=first | decide | exact rfl) only [SS,DD,Nat.reduceAdd,reduceIte,af,ai,az,ZZ,CC,aW,g0,g1,g2,decide_true,decide_false,dF]
     | with_reducible refine ao (by assumption) (by simp [ag,aq,aj,aa.int,aa.bool,aa.str,aA,ar,aw,aB,aE,aF,aC,eW,aL]) ?_
     | with_reducible refine ay (by assumption) (by simp [ag,aq,aj,aa.int,aa.bool,aa.str,aA,ar,aw,aB,aE,aF,aC,eW,aL]) ?_
     | with_reducible refine And.intro (a:=ab _ _) (by simp [ab,apart]) ?_
     | with_reducible refine VW.aI 3 (VW.of ?_)
     | with_reducible refine b9.next _ (VW.of ?_)
     | rw [au (by exact rfl) (by exact rfl) (by exact rfl) (by exact rfl) (by exact rfl)]
     | rw [bW (by exact rfl) (by exact rfl) (by exact rfl) (by exact rfl)]
     | rw [bX (by exact rfl) (by exact rfl) (by exact rfl) (by exact rfl) (by exact rfl) (by exact rfl)]
     | fail)
   exact ax▸⟨_,rfl,View.tup (.cons (View.nils 15) (.cons (View.pure (aa.bool _)) .nil))⟩
 rw [if_pos rfl] at hc
 simp only [SS,Nat.reduceAdd,reduceIte]
 refine ao hc hp0 ?_
 simp only [SS,Nat.reduceAdd,reduceIte,g0,g1,az]
 refine VW.dU (α := Nat × Nat × Nat) (fun y=>⟨[Kt ds, .top, .top, .top,Oh cs, .bool true,OL [y.2.2] 15 ((named (cs.take y.1)).map NX.av), .int .i64 (y.1:Nat)]++List.replicate 24 .top,ah.put (fun _=>none) [y.2.2] (OB 15 ((named (cs.take y.1)).map NX.av)),y.2.1⟩)
   (fun y=>y.1<=cs.length/\y.2.2<y.2.1) (fun y=>cs.length-y.1) (0,1000,0) ?_ ⟨Nat.zero_le _,by decide⟩ ?_
 . exact Wk.forget (by simp [Fg,List.replicate,OL,named]) (fun j => .inl (by simp [ah.put,OB,named])) (by simp only [];omega)
 rintro ⟨i,m,q⟩ ⟨hi,hq⟩
 simp only [] at hi hq
 by_cases hlt:i<cs.length
 . obtain ⟨x,hx⟩:∃ x,cs[i]? = some x:=⟨cs[i],by simp [hlt]⟩
   have d:decide ((i:Int)<(cs.length:Int))=true:=aG (by omega)
   have hv:=hd i (by omega)
   have E6:=Oj hx
   have AG:(((named (cs.take i)).map NX.av).all fun e=>e.cells.all AV.one)=true:=nj kA _
   have hlen:((named (cs.take i)).map NX.av).length<=6:=by simp [named];omega
   have aed:bY .add .str (.str [107,47]) (.str (decDigits i))=some (.str ([107,47]++decDigits i)):=ni (by rw [oO (by omega)];simp)
   simp only []
   generalize ([107,47]++decDigits i)=nm at *
   generalize hL:(named (cs.take i)).map NX.av=L at *
   by_cases Fq:L=[]
   . subst Fq
     repeat (first
       | simp (disch:=first | decide | exact rfl) only [bm,SS,DD,Nat.reduceAdd,reduceIte,af,ai,az,ZZ,CC,aW,g0,g1,g2,decide_true,decide_false,List.length_map,d,Oi hx,aN,oQ,kA,aed,G9,Ms,G7,J7,aP i (by omega)]
       | with_reducible refine ao (by assumption) (by simp [ag,aq,aj,aa.int,aa.bool,aa.str,aA,ar,aw,aB,aE,aF,aC,eW,aL]) ?_
       | with_reducible refine ay (by assumption) (by simp [ag,aq,aj,aa.int,aa.bool,aa.str,aA,ar,aw,aB,aE,aF,aC,eW,aL]) ?_
       | with_reducible refine And.intro (a:=ab _ _) (by simp [ab,apart]) ?_
       | with_reducible refine VW.aI 3 (VW.of ?_)
       | with_reducible refine b9.next _ (VW.of ?_)
       | rw [au (by repeat (first | exact bb | refine (dr (by simp)).trans ?_)) (by exact rfl) (by exact rfl) (by exact rfl) (by exact rfl)]
       | rw [bW (by exact rfl) (by exact rfl) (by exact rfl) (by exact rfl)]
       | rw [bX (by exact rfl) (by exact rfl) (by exact rfl) (by exact rfl) (by exact rfl) (by exact rfl)]
       | rw [Bf bb (by decide) (by exact rfl)]
       | fail)
     refine ⟨(i+1,_,m+4+10),⟨hlt, ?_⟩,by simp only [];omega,Wk.forget (by simp [Fg,List.replicate,E6,J8]) (fun j => ?_) (Nat.le_refl _)⟩
     . simp only [];omega
     . rw [E6];simp only [ah.put,ah.app,List.nil_append];split<;>simp_all [OB]
   . rw [Ew Fq,Ja Fq]
     repeat (first
       | simp (disch:=first | decide | exact rfl) only [bm,SS,DD,Nat.reduceAdd,reduceIte,af,ai,az,ZZ,CC,aW,g0,g1,g2,decide_true,decide_false,List.length_map,d,Oi hx,aN,oQ,kA,aed,G9,Ms,aP i (by omega)]
       | with_reducible refine ao (by assumption) (by simp [ag,aq,aj,aa.int,aa.bool,aa.str,aA,ar,aw,aB,aE,aF,aC,eW,aL]) ?_
       | with_reducible refine ay (by assumption) (by simp [ag,aq,aj,aa.int,aa.bool,aa.str,aA,ar,aw,aB,aE,aF,aC,eW,aL]) ?_
       | with_reducible refine And.intro (a:=ab _ _) (by simp [ab,apart]) ?_
       | with_reducible refine VW.aI 3 (VW.of ?_)
       | with_reducible refine b9.next _ (VW.of ?_)
       | rw [au (by repeat (first | exact bb | refine (dr (by simp)).trans ?_)) (by exact rfl) (by exact rfl) (by exact rfl) (by exact rfl)]
       | rw [bW (by exact rfl) (by exact rfl) (by exact rfl) (by exact rfl)]
       | rw [bX (by exact rfl) (by exact rfl) (by exact rfl) (by exact rfl) (by exact rfl) (by exact rfl)]
       | rw [J9 (l:=L) bb (by repeat (first | exact bb | refine (dr (by simp;omega)).trans ?_)) (by omega) (by decide) (by exact rfl) AG]
       | fail)
     refine ⟨(i+1,_,m+4+10),⟨hlt, ?_⟩,by simp only [];omega,Wk.forget (by simp [Fg,List.replicate,E6,Fo]) (fun j => ?_) (Nat.le_refl _)⟩
     . simp only [];omega
     . rw [E6,Fp];simp only [ah.put,ah.app];split<;>simp_all
 . have d:decide ((i:Int)<(cs.length:Int))=false:=aD (by omega)
   have U4:i=cs.length:=by omega
   subst U4
   simp only [List.take_length]
   repeat (first
     | simp (disch:=first | decide | exact rfl) only [bm,SS,DD,Nat.reduceAdd,reduceIte,af,ai,az,ZZ,CC,aW,g0,g1,g2,decide_true,decide_false,List.length_map,d]
     | with_reducible refine ao (by assumption) (by simp [ag,aq,aj,aa.int,aa.bool,aa.str,aA,ar,aw,aB,aE,aF,aC,eW,aL]) ?_
     | with_reducible refine ay (by assumption) (by simp [ag,aq,aj,aa.int,aa.bool,aa.str,aA,ar,aw,aB,aE,aF,aC,eW,aL]) ?_
     | with_reducible refine And.intro (a:=ab _ _) (by simp [ab,apart]) ?_
     | with_reducible refine VW.aI 3 (VW.of ?_)
     | with_reducible refine b9.next _ (VW.of ?_)
     | rw [au (by repeat (first | exact bb | refine (dr (by simp)).trans ?_)) (by exact rfl) (by exact rfl) (by exact rfl) (by exact rfl)]
     | rw [bW (by exact rfl) (by exact rfl) (by exact rfl) (by exact rfl)]
     | rw [bX (by exact rfl) (by exact rfl) (by exact rfl) (by exact rfl) (by exact rfl) (by exact rfl)]
     | fail)
   refine ax▸⟨_,rfl,View.tup (.cons (CO ?_ (by intro a ha;obtain ⟨y,_,rfl⟩:=List.mem_map.1 ha;rfl) (vE _)) (.cons (View.pure (aa.bool _)) .nil))⟩
   by_cases h0:(named cs).map NX.av=[]
   . exact .inl h0
   . right;simp only [ah.put,if_true];exact Ja h0
end
end Go.VL
end

section
set_option linter.unusedSimpArgs false
set_option linter.unusedVariables false
set_option maxRecDepth 100000
namespace Go.VL
open Go.Lib
theorem X5 {σ : ah} {p:Id} {l:List NX} (h0:l≠[]) (hl:l.length<=1000000):eu σ p 15 320 (.tsl 15 []) (dT l)=some { val := .osl p 15 0 l.length false,up:=[(p,some ⟨l.map NX.av,15,false⟩)] }:=by
 rw [nM (es:=[]) (ys:=l.map NX.av) fX (by simpa using h0) (by simp;omega) (eC (by simp;omega)) (by simpa using nj kA l)]
 simp
theorem X6 {σ : ah} {p id:Id} {l m:List NX} (h : σ id=some ⟨l.map NX.av,15,false⟩) (h0:m≠[]) (hl:l.length+m.length<=1000000):eu σ p 15 320 (.osl id 15 0 l.length false) (dT m)=some { val := .osl p 15 0 (l++m).length false,rd:=[id],up:=[(id,none),(p,some ⟨(l++m).map NX.av,15,false⟩)] }:=by
 have:=oz (σ := σ) (p:=p) (id:=id) (k:=15) (bytes:=320) (len:=l.length) (x:=dT m) (els:=l.map NX.av) (ys:=m.map NX.av) (rd:=[]) fX (by simpa using h0) h (by simp) (by simp;omega) (eC (by simp;omega)) (nj kA m) (nj kA l)
 simpa using this
theorem Kb {σ : ah} {id:Id} {l:List NX} {b t:Bool} (h : σ id=some ⟨l.map NX.av,15,b⟩):View σ (.osl id 15 0 l.length t) (dT l):=by
 have e:(l.map NX.av).length=l.length:=List.length_map ..
 rw [<- e]
 exact View.osl (bk:=⟨l.map NX.av,15,b⟩) h rfl (by simp) (by rw [List.drop_zero,List.take_length];exact aM.pure (vE l)) (by simp) (by intro a ha;obtain ⟨y,_,rfl⟩:=List.mem_map.1 ha;rfl)
theorem DZ {l m:List NX} (h:iE l m=0):l.length+m.length<=200:=by
 unfold iE at h
 split at h
 . cases h
 . omega
def P9 (a b:List NX):Bool:=decide (a.length=b.length) && !((a.zip b).any fun p => !(p.1.name==p.2.name&&p.1.c.same p.2.c))
def CX.shift (x:CX) (w:Q2):CX:=⟨x.G4,gv x.a w,gv x.b w,if x.G4 then gv x.c w else x.c,x.cw⟩
def eJ (l:List NX) (s:List UInt8):CX:=match l[(ek l s).toNat]? with | some x=>x.c | none=>⟨false,(0,0),(0,0),(0,0),false⟩
def s4 (nm:List UInt8) (l:List NX) (w:Q2) (i:Nat) (s:List UInt8):NX:=⟨nm++[47]++decDigits i++[47]++s,(eJ l s).shift (ga w (i:Int))⟩
def bM (nm:List UInt8) (l:List NX) (w:Q2) (ins:List (List UInt8)):Nat->List NX
 | 0=>[]
 | k+1=>bM nm l w ins k++ins.map (s4 nm l w (k+1))
noncomputable def Kc (nm:List UInt8) (l:List NX) (ins:List (List UInt8)) (x y:Rat) (n:Int):Int :=
 if n<1∨50<n then 1 else if dz nm l ins≠0 then dz nm l ins else if x=0/\y=0 then 6 else iE l (bM nm l (x,y) ins n.toNat)
noncomputable def R3 (nm:List UInt8) (l:List NX) (ins:List (List UInt8)) (x y:Rat) (n:Int):AV :=
 if Kc nm l ins x y n=0 then .tup [dT (l++bM nm l (x,y) ins n.toNat), .int .i64 0] else .tup [.nils, .int .i64 (Kc nm l ins x y n)]
theorem Kd {i:Nat} (h:i<1000):(decDigits i).length<=3:=by
 by_cases h1:i<10
 . rw [oO h1];simp
 . rw [DY h1]
   by_cases h2:i/10<10
   . rw [oO h2];simp
   . rw [DY h2,oO (by omega)];simp
theorem p4 (nm:List UInt8) (l:List NX) (w:Q2) (ins:List (List UInt8)):∀ k,(bM nm l w ins k).length=k*ins.length
 | 0=>by simp [bM]
 | k+1=>by simp [bM,p4 nm l w ins k,Nat.add_mul]
theorem zz {l:List NX} {s:List UInt8} (h : ¬ ek l s<0):∃ (k:Nat) (x:NX),ek l s=(k:Int)/\l[k]? = some x/\x.name=s/\eJ l s=x.c:=by
 unfold ek at h ⊢
 cases hf:l.findIdx? fun x=>x.name==s with
 | none=>rw [hf] at h;simp [Af] at h
 | some k =>
   rw [List.findIdx?_eq_some_iff_getElem] at hf
   obtain ⟨hlt,he,_⟩:=hf
   refine ⟨k,l[k],rfl,by simp [hlt],by simpa using he, ?_⟩
   have h2:ek l s=(k:Int):=by
     unfold ek
     have:(l.findIdx? fun x=>x.name==s)=some k:=by rw [List.findIdx?_eq_some_iff_getElem];exact ⟨hlt,he,by assumption⟩
     rw [this];rfl
   unfold eJ
   rw [h2];simp [hlt]
theorem Bj {nm:List UInt8} {l:List NX} {ins:List (List UInt8)} (h:dz nm l ins=0):eH nm=true/\ins≠[]/\∀ s∈ins, ¬ ek l s<0:=by
 unfold dz at h
 split at h
 . cases h
 rename_i h1
 split at h
 . cases h
 split at h
 . cases h
 rename_i h3
 refine ⟨by simp only [not_or] at h1;simpa using h1.1,fun e=>h1 (.inr e),fun s hs hn=>h3 (List.any_eq_true.2 ⟨s,hs,decide_eq_true hn⟩)⟩
section
variable {P:Program} {G:Nat->Option (List AV)}
theorem Ol {f ff:FuncId} (h:Has P f (kt ff)) (l more:List NX) (hf:VP P G ff [dT l,dT more] (.int .i64 (iE l more))) (hl:l≠[]) (hm:more≠[]) :
   VP P G f [dT l,dT more] (if iE l more=0 then .tup [dT (l++more), .int .i64 0] else .tup [.nils, .int .i64 (iE l more)]):=by
 refine VP.has h ?_
 simp only [kt]
 by_cases h0:iE l more=0
 . have d0:decide (iE l more≠0)=false:=aD (by simpa using h0)
   have hlen:=DZ h0
   have bs:∀ (σ : ah) (p:Id),b8 σ p (.buildSl 15 0 (.agg [.str [], .bool false, .nils, .nils, .nils, .nils, .nils, .nils, .nils, .nils, .nils, .nils, .nils, .nils, .bool false]) [])=some { val := .tsl 15 [] }:=fun σ p=>bs0 rfl rfl
   rw [if_pos h0]
   repeat (first
     | simp (disch:=first | decide | exact rfl) only [SS,DD,Nat.reduceAdd,reduceIte,af,ai,az,ZZ,CC,aW,g0,g1,g2,decide_true,decide_false,d0,bs,X5 hl (by omega:l.length<=1000000)]
     | with_reducible refine ao (by assumption) (by simp [ag,aq,aj,aa.int,aa.bool,aa.str,aA,ar,aw,aB,aE,aF,aC,aH,aL]) ?_
     | with_reducible refine ay (by assumption) (by simp [ag,aq,aj,aa.int,aa.bool,aa.str,aA,ar,aw,aB,aE,aF,aC,aH,aL]) ?_
     | with_reducible refine And.intro (a:=ab _ _) (by simp [ab,apart]) ?_
     | with_reducible refine VW.aI 3 (VW.of ?_)
     | with_reducible refine b9.next _ (VW.of ?_)
     | rw [au (by exact rfl) (by exact rfl) (by exact rfl) (by exact rfl) (by exact rfl)]
     | rw [bW (by exact rfl) (by exact rfl) (by exact rfl) (by exact rfl)]
     | rw [bX (by exact rfl) (by exact rfl) (by exact rfl) (by exact rfl) (by exact rfl) (by exact rfl)]
     | rw [X6 (l:=l) bb hm (by omega)]
     | fail)
   refine ax▸⟨_,rfl,View.tup (.cons (Kb (by exact rfl)) (.cons (View.pure (aa.int _ _)) .nil))⟩
 . have d0:decide (iE l more≠0)=true:=aG h0
   rw [if_neg h0]
   repeat (first
     | simp (disch:=first | decide | exact rfl) only [SS,DD,Nat.reduceAdd,reduceIte,af,ai,az,ZZ,CC,aW,g0,g1,g2,decide_true,decide_false,d0]
     | with_reducible refine ao (by assumption) (by simp [ag,aq,aj,aa.int,aa.bool,aa.str,aA,ar,aw,aB,aE,aF,aC,aH,aL]) ?_
     | with_reducible refine ay (by assumption) (by simp [ag,aq,aj,aa.int,aa.bool,aa.str,aA,ar,aw,aB,aE,aF,aC,aH,aL]) ?_
     | with_reducible refine And.intro (a:=ab _ _) (by simp [ab,apart]) ?_
     | with_reducible refine VW.aI 3 (VW.of ?_)
     | with_reducible refine b9.next _ (VW.of ?_)
     | rw [au (by exact rfl) (by exact rfl) (by exact rfl) (by exact rfl) (by exact rfl)]
     | rw [bW (by exact rfl) (by exact rfl) (by exact rfl) (by exact rfl)]
     | rw [bX (by exact rfl) (by exact rfl) (by exact rfl) (by exact rfl) (by exact rfl) (by exact rfl)]
     | fail)
   exact ax▸ae rfl (aa.tup (by simp [aA,aa.int]))
theorem R4 {f fe:FuncId} (h:Has P f (lh fe)) (a b:List NX) (ha:a.length<=1000000) (he:∀ x y,(x,y)∈a.zip b->VP P G fe [x.c.av,y.c.av] (.bool (x.c.same y.c))):VP P G f [dT a,dT b] (.bool (P9 a b)):=by
 refine VP.has h ?_
 simp only [lh]
 unfold P9
 by_cases hl:a.length=b.length
 . have d0:decide ((a.length:Int)≠(b.length:Int))=false:=aD (by omega)
   rw [decide_eq_true hl,Bool.true_and]
   simp only [SS,Nat.reduceAdd,reduceIte,List.length_map,d0,az]
   have hz:(a.zip b).length=a.length:=by rw [List.length_zip];omega
   refine VW.scan (a.zip b) (fun p => !(p.1.name==p.2.name&&p.1.c.same p.2.c)) (fun i=>[dT a,dT b, .top, .top, .top, .int .i64 i]++List.replicate 36 .top) (fun _=>none) 1000 (Wk.slots (by simp [Fg,List.replicate]) (by omega)) (fun i m e hx hlt hn d => ?_) (fun m hn d => ?_)
   . rw [hz] at d
     obtain ⟨x,y⟩:=e
     have Ho:a[i]? = some x/\b[i]? = some y:=by rw [List.getElem?_zip_eq_some] at hx;exact hx
     have hv:=he x y (List.mem_of_getElem? hx)
     cases yj:x.name==y.name<;>cases CY:x.c.same y.c<;>rw [CY] at hv
     all_goals
       repeat (first
         | simp (disch:=first | decide | exact rfl) only [bm,SS,DD,Nat.reduceAdd,reduceIte,af,ai,az,ZZ,CC,aW,g0,g1,g2,decide_true,decide_false,List.length_map,d,oR Ho.1,oR Ho.2,aN,AA,Mn,yj,aP i (by omega)]
         | with_reducible refine ao (by assumption) (by simp [ag,aq,aj,aa.int,aa.bool,aa.str,aA,ar,aw,aB,aE,aF,aC,aH,aL]) ?_
         | with_reducible refine ay (by assumption) (by simp [ag,aq,aj,aa.int,aa.bool,aa.str,aA,ar,aw,aB,aE,aF,aC,aH,aL]) ?_
         | with_reducible refine And.intro (a:=ab _ _) (by simp [ab,apart]) ?_
         | with_reducible refine VW.aI 3 (VW.of ?_)
         | with_reducible refine b9.next _ (VW.of ?_)
         | rw [au (by repeat (first | exact bb | refine (dr (by simp)).trans ?_)) (by exact rfl) (by exact rfl) (by exact rfl) (by exact rfl)]
         | rw [bW (by exact rfl) (by exact rfl) (by exact rfl) (by exact rfl)]
         | rw [bX (by exact rfl) (by exact rfl) (by exact rfl) (by exact rfl) (by exact rfl) (by exact rfl)]
         | fail)
       first
         | exact ⟨(i+1,_),⟨hlt,hn.succ hx (by simp [yj,CY])⟩,by simp only [];omega,Wk.slots (by simp [Fg,List.replicate]) (Nat.le_refl _)⟩
         | (rw [zx hx (by simp [yj,CY])];exact ax▸ae rfl (aa.bool _))
   . rw [hz] at d
     repeat (first
       | simp (disch:=first | decide | exact rfl) only [SS,DD,Nat.reduceAdd,reduceIte,af,ai,az,ZZ,CC,aW,g0,g1,g2,decide_true,decide_false,List.length_map,d,hz]
       | with_reducible refine ao (by assumption) (by simp [ag,aq,aj,aa.int,aa.bool,aa.str,aA,ar,aw,aB,aE,aF,aC,aH,aL]) ?_
       | with_reducible refine ay (by assumption) (by simp [ag,aq,aj,aa.int,aa.bool,aa.str,aA,ar,aw,aB,aE,aF,aC,aH,aL]) ?_
       | with_reducible refine And.intro (a:=ab _ _) (by simp [ab,apart]) ?_
       | with_reducible refine VW.aI 3 (VW.of ?_)
       | with_reducible refine b9.next _ (VW.of ?_)
       | rw [au (by exact rfl) (by exact rfl) (by exact rfl) (by exact rfl) (by exact rfl)]
       | rw [bW (by exact rfl) (by exact rfl) (by exact rfl) (by exact rfl)]
       | rw [bX (by exact rfl) (by exact rfl) (by exact rfl) (by exact rfl) (by exact rfl) (by exact rfl)]
       | fail)
     rw [hn.any (Nat.le_refl _)]
     exact ax▸ae rfl (aa.bool _)
 . have d0:decide ((a.length:Int)≠(b.length:Int))=true:=aG (by omega)
   rw [decide_eq_false hl,Bool.false_and]
   repeat (first
     | simp (disch:=first | decide | exact rfl) only [SS,DD,Nat.reduceAdd,reduceIte,af,ai,az,ZZ,CC,aW,g0,g1,g2,decide_true,decide_false,List.length_map,d0]
     | with_reducible refine ao (by assumption) (by simp [ag,aq,aj,aa.int,aa.bool,aa.str,aA,ar,aw,aB,aE,aF,aC,aH,aL]) ?_
     | with_reducible refine ay (by assumption) (by simp [ag,aq,aj,aa.int,aa.bool,aa.str,aA,ar,aw,aB,aE,aF,aC,aH,aL]) ?_
     | with_reducible refine And.intro (a:=ab _ _) (by simp [ab,apart]) ?_
     | with_reducible refine VW.aI 3 (VW.of ?_)
     | with_reducible refine b9.next _ (VW.of ?_)
     | rw [au (by exact rfl) (by exact rfl) (by exact rfl) (by exact rfl) (by exact rfl)]
     | rw [bW (by exact rfl) (by exact rfl) (by exact rfl) (by exact rfl)]
     | rw [bX (by exact rfl) (by exact rfl) (by exact rfl) (by exact rfl) (by exact rfl) (by exact rfl)]
     | fail)
   exact ax▸ae rfl (aa.bool _)
end
end Go.VL
end

section
set_option maxRecDepth 100000
namespace Go.VL
abbrev U7 (cx bh cZ:Nat):cB:=(.seq (cS [oM 58 20,oM 59 2,oN 60 59,oT 61 .lss 58 60] (.cond (.t 61) .skip (.exit 2))) (.seq (.block 3 (cS [oM 64 1,oM 65 1,oM 66 2,oM 67 20,oA 68 1 66 67,oL 69 1 68,bz 70 cx 65 69,oA 71 15 64 70,oF 72 1 71,aU 73 14 72,⟨some 21,.box (.c (.agg [(.bool false),.nils,.nils,.nils,.nils,.nils,.nils,.nils,.nils,.nils,.nils,.nils,.nils,(.bool false)])),none⟩,oS 14 21 73] (.seq (.reg (some [(4,7),(4,8)]) [oM 74 15,oF 75 1 21,aU 76 4 75,aU 77 4 19,⟨some 78,.call (.f bh) [(.t 74),(.t 76),(.t 77)],none⟩,oM 79 15,oF 80 5 21,aU 81 4 80,aU 82 4 19,⟨some 83,.call (.f bh) [(.t 79),(.t 81),(.t 82)],none⟩,oF 84 1 21,oS 4 84 78,oF 85 5 21,oS 4 85 83]) (.seq (cS [oF 86 0 21,oL 87 1 86] (.cond (.t 87) (cR [oM 88 15,oF 89 9 21,aU 90 4 89,aU 91 4 19,⟨some 92,.call (.f bh) [(.t 88),(.t 90),(.t 91)],none⟩,oF 93 9 21,oS 4 93 92]) .skip)) (.reg (some [(4,10),(4,12)]) [oM 94 17,oM 95 0,⟨some 96,.bin .add .str (.t 95) (.c (.str [47])),none⟩,oM 97 18,oC 98 cZ 97,⟨some 99,.bin .add .str (.t 96) (.t 98),none⟩,⟨some 100,.bin .add .str (.t 99) (.c (.str [47])),none⟩,oM 101 2,oM 102 20,oA 103 1 101 102,oL 104 1 103,⟨some 105,.bin .add .str (.t 100) (.t 104),none⟩,aU 106 14 21,⟨some 107,.build [(.str []),(.bool false),.nils,.nils,.nils,.nils,.nils,.nils,.nils,.nils,.nils,.nils,.nils,.nils,(.bool false)] [(0,(1,(.t 105))),(1,(14,(.t 106)))],none⟩,⟨some 108,.buildSl 15 1 (.agg [(.str []),(.bool false),.nils,.nils,.nils,.nils,.nils,.nils,.nils,.nils,.nils,.nils,.nils,.nils,(.bool false)]) [(0,(.t 107))],none⟩,Aq 109 15 320 94 108,oM 17 109]))))) (cR [oM 62 20,bC 63 .add 62 1,oM 20 63])))
end Go.VL
end

section
set_option linter.unusedSimpArgs false
set_option linter.unusedVariables false
set_option maxRecDepth 100000
namespace Go.VL
open Go.Lib
theorem bE {σ : ah} {p:Id} {a c:Nat} {b:Option dA} (h:c≠a):(σ.put (a::p) b) (c::p) = σ (c::p):=dr (by simp [h])
theorem oU {σ : ah}:∀ i,(fun _=>none:ah) i=none∨(fun _=>none:ah) i = σ i:=fun _ => .inl rfl
theorem dG {σ σ':ah} {id:Id} {b:Option dA} (h : σ id=b) (hs:∀ i, σ' i=none ∨ σ' i = σ i) (i:Id):(σ'.put id b) i=none∨(σ'.put id b) i = σ i:=by
 by_cases e:i=id
 . subst e;right;rw [bb,h]
 . rw [dr e];exact hs i
theorem U8 {k:Nat} {x:AV}:OB k [x]=some ⟨[x],k,false⟩:=rfl
def NOk (k:Nat) (x:NX):Prop:=x.name.length<=1000/\x.c.Sm k
section
variable {P:Program} {G:Nat->Option (List AV)} {Q:cd->VS->Prop}
set_option maxHeartbeats 4000000 in
theorem Mt {fF fp fd:FuncId} (nm:List UInt8) (l:List NX) (ins:List (List UInt8)) (N i:Nat) (v w:Q2) (L0:List NX) (r q m:Nat) (F:List UInt8->NX) (hFd:∀ s,F s=⟨nm++[47]++decDigits i++[47]++s,(eJ l s).shift w⟩)
   (hF:∀ s∈ins,VP P G fF [dT l, .str s] (.int .i64 (ek l s))) (iI:∀ s∈ins, ¬ ek l s<0) (hP:CN P G fp) (hD:VP P G fd [.int .i64 (i:Int)] (.str (decDigits i))) (ta:nm.length<=1000) (hl:∀ z∈l,NOk 2000 z) (yg:ins.length<=10) (hL:L0.length<=500) (hi:i<1000) (Q4:m9 1001 w)
   (r26:26≠r) (r31:31≠r) (hrm:r<m) (Kr:999<=q) (hqm:q<m) (KD:q≠r) (hm:1000<=m)
   (hQ:∀ m' q',999<=q'->q'<m'->q'≠r->m<=m'->Q (.exit 2) ⟨[.str nm,dT l,strs ins, .top, .top, .int .i64 (N:Int)]++List.replicate 9 .top++[.ref [26] 0 0, .ref [31] 0 0,OL [q'] 15 ((L0++ins.map F).map NX.av), .int .i64 (i:Int), .ref [r] 0 0, .int .i64 (ins.length:Int)]++List.replicate 37 .top++[.int .i64 (ins.length:Int),strs ins, .int .i64 (ins.length:Int), .bool false]++List.replicate 62 .top,(((ah.put (fun _=>none) [26] (some eB)).put [31] (some ⟨[V2 v],4,false⟩)).put [r] (some ⟨[V2 w],4,false⟩)).put [q'] (OB 15 ((L0++ins.map F).map NX.av)),m'+4⟩) :
   VW P G [] (.loop (U7 fF fp fd)) Q ⟨[.str nm,dT l,strs ins, .top, .top, .int .i64 (N:Int)]++List.replicate 9 .top++[.ref [26] 0 0, .ref [31] 0 0,OL [q] 15 (L0.map NX.av), .int .i64 (i:Int), .ref [r] 0 0, .int .i64 0]++List.replicate 103 .top,(((ah.put (fun _=>none) [26] (some eB)).put [31] (some ⟨[V2 v],4,false⟩)).put [r] (some ⟨[V2 w],4,false⟩)).put [q] (OB 15 (L0.map NX.av)),m⟩:=by
 refine VW.dU (α := Nat × Nat × Nat) (fun z=>⟨[.str nm,dT l,strs ins, .top, .top, .int .i64 (N:Int)]++List.replicate 9 .top++[.ref [26] 0 0, .ref [31] 0 0,OL [z.2.2] 15 ((L0++(ins.take z.1).map F).map NX.av), .int .i64 (i:Int), .ref [r] 0 0, .int .i64 (z.1:Nat)]++List.replicate 103 .top,(((ah.put (fun _=>none) [26] (some eB)).put [31] (some ⟨[V2 v],4,false⟩)).put [r] (some ⟨[V2 w],4,false⟩)).put [z.2.2] (OB 15 ((L0++(ins.take z.1).map F).map NX.av)),z.2.1⟩)
   (fun z=>z.1<=ins.length/\999<=z.2.2/\z.2.2<z.2.1/\z.2.2≠r/\m<=z.2.1) (fun z=>ins.length-z.1) (0,m,q) ?_ ⟨Nat.zero_le _,Kr,hqm,KD,Nat.le_refl _⟩ ?_
 . simp only [List.take_zero,List.map_nil,List.append_nil]
   exact Wk.slots (by simp [Fg,List.replicate]) (Nat.le_refl _)
 rintro ⟨j,m',q'⟩ ⟨hj,aee,hq',abj,qH⟩
 simp only [] at hj aee hq' abj qH
 have l26:26<m':=by omega
 have l31:31<m':=by omega
 have lr:r<m':=by omega
 have f2:r≠q':=fun e=>abj e.symm
 have f4:26≠q':=by omega
 have f5:31≠q':=by omega
 by_cases U9:j<ins.length
 . have b1:999<=m'+4+12+14+2+15/\m'+4+12+14+2+15<m'+4+12+14+2+17+3/\m'+4+12+14+2+15≠r:=by omega
   have b2:999<=m'+4+12+14+2+7+15/\m'+4+12+14+2+7+15<m'+4+12+14+2+7+17+3/\m'+4+12+14+2+7+15≠r:=by omega
   have b3:ins.length-(j+1)<ins.length-j:=by omega
   have b4:m<=m'+4+12+14+2+17+3/\m<=m'+4+12+14+2+7+17+3:=by omega
   obtain ⟨s,hs⟩:∃ s,ins[j]? = some s:=⟨ins[j],by simp [U9]⟩
   have d5:decide ((j:Int)<(ins.length:Int))=true:=aG (by omega)
   have Nz:=aP j (by omega)
   have hdl:=Kd hi
   have E6:((L0++(ins.take (j+1)).map F).map NX.av)=((L0++(ins.take j).map F).map NX.av)++[NX.av (F s)]:=by rw [zQ hs];simp
   have AG:(((L0++(ins.take j).map F).map NX.av).all fun e=>e.cells.all AV.one)=true:=nj kA _
   have hlL:(((L0++(ins.take j).map F).map NX.av).length+1)*320<=140737488355328:=by simp;omega
   have hms:=List.mem_of_getElem? hs
   have hf:=hF s hms
   obtain ⟨k,z,hk,hz,hzn,ZF⟩:=zz (iI s hms)
   rw [hk] at hf
   have hzm:=hl z (List.mem_of_getElem? hz)
   have MZ:s.length<=1000:=by rw [<- hzn];exact hzm.1
   have c1:=ni (a:=nm) (b:=[47]) (by simp;omega)
   have c2:=ni (a:=nm++[47]) (b:=decDigits i) (by simp;omega)
   have c3:=ni (a:=nm++[47]++decDigits i) (b:=[47]) (by simp;omega)
   have c4:=ni (a:=nm++[47]++decDigits i++[47]) (b:=s) (by simp;omega)
   rw [hFd s,ZF] at E6
   have sz:=hzm.2
   have p1:=hP z.c.a w (sz.1.mono (by omega)) (Q4.mono (by omega))
   have p2:=hP z.c.b w (sz.2.1.mono (by omega)) (Q4.mono (by omega))
   have p3:=hP z.c.c w (sz.2.2.mono (by omega)) (Q4.mono (by omega))
   clear iI hF hl hQ hm qH Kr hqm KD hrm hi yg hL Q4 sz hzm MZ hdl ta ZF hk hzn hms hP
   simp only []
   obtain ⟨zn,zc⟩:=z
   simp only [] at hz p1 p2 p3 E6
   generalize nm++[47]++decDigits i++[47]++s=nm4 at *
   generalize nm++[47]++decDigits i++[47]=nm3 at *
   generalize nm++[47]++decDigits i=nm2 at *
   generalize nm++[47]=nm1 at *
   generalize ((L0++(ins.take j).map F).map NX.av)=L at *
   by_cases Fq:L=[]
   . subst Fq
     rcases zc with ⟨_ | _,za,zb,zc',zw⟩
     all_goals
       repeat (first
         | simp (disch:=first | decide | exact rfl | with_reducible assumption | exact Nat.ne_of_lt (by repeat (first | with_reducible assumption | apply Nat.lt_add_right))) only [bm,SS,DD,Nat.reduceAdd,reduceIte,af,ai,ZZ,CC,aW,g0,g1,g2,decide_true,decide_false,eS,d5,nF hs,vF,aN,oR hz,Mn,mU,oQ,Et,Eu,Ev,G6,cC,kA,gC,c1,c2,c3,c4,G9,Ms,G7,J7,Nz]
         | with_reducible refine ao (by assumption) (by simp [ag,aq,aj,aa.int,aa.bool,aa.str,aA,ar,aw,aB,aE,aF,aC,aH,aL]) ?_
         | with_reducible refine ay (by assumption) (by simp [ag,aq,aj,aa.int,aa.bool,aa.str,aA,ar,aw,aB,aE,aF,aC,aH,aL]) ?_
         | with_reducible refine And.intro (a:=ab _ _) (by simp [ab,apart];try assumption) ?_
         | rw [au (by repeat (first | with_reducible exact bb | refine (bE (by first | with_reducible assumption | decide | exact Nat.ne_of_lt (by repeat (first | with_reducible assumption | apply Nat.lt_add_right)))).trans ?_)) (by exact rfl) (by exact rfl) (by exact rfl) (by exact rfl)]
         | rw [bW (by exact rfl) (by exact rfl) (by exact rfl) (by exact rfl)]
         | rw [bX (by exact rfl) (by exact rfl) (by exact rfl) (by exact rfl) (by exact rfl) (by exact rfl)]
         | rw [Fj (by repeat (first | with_reducible exact bb | refine (bE (by first | with_reducible assumption | decide | exact Nat.ne_of_lt (by repeat (first | with_reducible assumption | apply Nat.lt_add_right)))).trans ?_))]
         | rw [Fk (by repeat (first | with_reducible exact bb | refine (bE (by first | with_reducible assumption | decide | exact Nat.ne_of_lt (by repeat (first | with_reducible assumption | apply Nat.lt_add_right)))).trans ?_))]
         | rw [Fl (by repeat (first | with_reducible exact bb | refine (bE (by first | with_reducible assumption | decide | exact Nat.ne_of_lt (by repeat (first | with_reducible assumption | apply Nat.lt_add_right)))).trans ?_))]
         | refine eI p1 (by repeat (first | with_reducible exact l26 | apply Nat.lt_add_right)) (by repeat (first | with_reducible exact bb | refine (bE (by first | with_reducible assumption | decide | exact Nat.ne_of_lt (by repeat (first | with_reducible assumption | apply Nat.lt_add_right)))).trans ?_)) ?_
         | refine eI p2 (by repeat (first | with_reducible exact l26 | apply Nat.lt_add_right)) (by repeat (first | with_reducible exact bb | refine (bE (by first | with_reducible assumption | decide | exact Nat.ne_of_lt (by repeat (first | with_reducible assumption | apply Nat.lt_add_right)))).trans ?_)) ?_
         | refine CL p3 (by repeat (first | with_reducible exact l26 | apply Nat.lt_add_right)) (by repeat (first | with_reducible exact bb | refine (bE (by first | with_reducible assumption | decide | exact Nat.ne_of_lt (by repeat (first | with_reducible assumption | apply Nat.lt_add_right)))).trans ?_)) ?_
         | rw [Bf (by with_reducible exact bb) (by decide) (by exact rfl)]
         | fail)
     . exact ⟨(j+1,_,m'+4+12+14+2+15),⟨U9,b1.1,b1.2.1,b1.2.2,b4.1⟩,b3,Wk.forget (by simp only [E6,List.nil_append,J8];simp [Fg,List.replicate]) (dG (by simp only [E6,List.nil_append,U8];exact bb.trans (by rfl)) (dG (by repeat (first | with_reducible exact bb | refine (bE (by first | with_reducible assumption | decide | exact Nat.ne_of_lt (by repeat (first | with_reducible assumption | apply Nat.lt_add_right)))).trans ?_)) (dG (by repeat (first | with_reducible exact bb | refine (bE (by first | with_reducible assumption | decide | exact Nat.ne_of_lt (by repeat (first | with_reducible assumption | apply Nat.lt_add_right)))).trans ?_)) (dG (by repeat (first | with_reducible exact bb | refine (bE (by first | with_reducible assumption | decide | exact Nat.ne_of_lt (by repeat (first | with_reducible assumption | apply Nat.lt_add_right)))).trans ?_)) oU)))) (Nat.le_refl _)⟩
     . exact ⟨(j+1,_,m'+4+12+14+2+7+15),⟨U9,b2.1,b2.2.1,b2.2.2,b4.2⟩,b3,Wk.forget (by simp only [E6,List.nil_append,J8];simp [Fg,List.replicate]) (dG (by simp only [E6,List.nil_append,U8];exact bb.trans (by rfl)) (dG (by repeat (first | with_reducible exact bb | refine (bE (by first | with_reducible assumption | decide | exact Nat.ne_of_lt (by repeat (first | with_reducible assumption | apply Nat.lt_add_right)))).trans ?_)) (dG (by repeat (first | with_reducible exact bb | refine (bE (by first | with_reducible assumption | decide | exact Nat.ne_of_lt (by repeat (first | with_reducible assumption | apply Nat.lt_add_right)))).trans ?_)) (dG (by repeat (first | with_reducible exact bb | refine (bE (by first | with_reducible assumption | decide | exact Nat.ne_of_lt (by repeat (first | with_reducible assumption | apply Nat.lt_add_right)))).trans ?_)) oU)))) (Nat.le_refl _)⟩
   . rw [Ew Fq,Ja Fq]
     rcases zc with ⟨_ | _,za,zb,zc',zw⟩
     all_goals
       repeat (first
         | simp (disch:=first | decide | exact rfl | with_reducible assumption | exact Nat.ne_of_lt (by repeat (first | with_reducible assumption | apply Nat.lt_add_right))) only [bm,SS,DD,Nat.reduceAdd,reduceIte,af,ai,ZZ,CC,aW,g0,g1,g2,decide_true,decide_false,eS,d5,nF hs,vF,aN,oR hz,Mn,mU,oQ,Et,Eu,Ev,G6,cC,kA,gC,c1,c2,c3,c4,G9,Ms,G7,J7,Nz]
         | with_reducible refine ao (by assumption) (by simp [ag,aq,aj,aa.int,aa.bool,aa.str,aA,ar,aw,aB,aE,aF,aC,aH,aL]) ?_
         | with_reducible refine ay (by assumption) (by simp [ag,aq,aj,aa.int,aa.bool,aa.str,aA,ar,aw,aB,aE,aF,aC,aH,aL]) ?_
         | with_reducible refine And.intro (a:=ab _ _) (by simp [ab,apart];try assumption) ?_
         | rw [au (by repeat (first | with_reducible exact bb | refine (bE (by first | with_reducible assumption | decide | exact Nat.ne_of_lt (by repeat (first | with_reducible assumption | apply Nat.lt_add_right)))).trans ?_)) (by exact rfl) (by exact rfl) (by exact rfl) (by exact rfl)]
         | rw [bW (by exact rfl) (by exact rfl) (by exact rfl) (by exact rfl)]
         | rw [bX (by exact rfl) (by exact rfl) (by exact rfl) (by exact rfl) (by exact rfl) (by exact rfl)]
         | rw [Fj (by repeat (first | with_reducible exact bb | refine (bE (by first | with_reducible assumption | decide | exact Nat.ne_of_lt (by repeat (first | with_reducible assumption | apply Nat.lt_add_right)))).trans ?_))]
         | rw [Fk (by repeat (first | with_reducible exact bb | refine (bE (by first | with_reducible assumption | decide | exact Nat.ne_of_lt (by repeat (first | with_reducible assumption | apply Nat.lt_add_right)))).trans ?_))]
         | rw [Fl (by repeat (first | with_reducible exact bb | refine (bE (by first | with_reducible assumption | decide | exact Nat.ne_of_lt (by repeat (first | with_reducible assumption | apply Nat.lt_add_right)))).trans ?_))]
         | refine eI p1 (by repeat (first | with_reducible exact l26 | apply Nat.lt_add_right)) (by repeat (first | with_reducible exact bb | refine (bE (by first | with_reducible assumption | decide | exact Nat.ne_of_lt (by repeat (first | with_reducible assumption | apply Nat.lt_add_right)))).trans ?_)) ?_
         | refine eI p2 (by repeat (first | with_reducible exact l26 | apply Nat.lt_add_right)) (by repeat (first | with_reducible exact bb | refine (bE (by first | with_reducible assumption | decide | exact Nat.ne_of_lt (by repeat (first | with_reducible assumption | apply Nat.lt_add_right)))).trans ?_)) ?_
         | refine CL p3 (by repeat (first | with_reducible exact l26 | apply Nat.lt_add_right)) (by repeat (first | with_reducible exact bb | refine (bE (by first | with_reducible assumption | decide | exact Nat.ne_of_lt (by repeat (first | with_reducible assumption | apply Nat.lt_add_right)))).trans ?_)) ?_
         | rw [J9 (l:=L) (by with_reducible exact bb) (by repeat (first | with_reducible exact bb | refine (bE (by first | with_reducible assumption | decide | exact Nat.ne_of_lt (by repeat (first | with_reducible assumption | apply Nat.lt_add_right)))).trans ?_)) hlL (by decide) (by exact rfl) AG]
         | fail)
     . exact ⟨(j+1,_,m'+4+12+14+2+15),⟨U9,b1.1,b1.2.1,b1.2.2,b4.1⟩,b3,Wk.forget (by simp only [E6,Fo];simp [Fg,List.replicate]) (dG (by simp only [E6,Fp];exact bb.trans (by rfl)) (dG (by repeat (first | with_reducible exact bb | refine (bE (by first | with_reducible assumption | decide | exact Nat.ne_of_lt (by repeat (first | with_reducible assumption | apply Nat.lt_add_right)))).trans ?_)) (dG (by repeat (first | with_reducible exact bb | refine (bE (by first | with_reducible assumption | decide | exact Nat.ne_of_lt (by repeat (first | with_reducible assumption | apply Nat.lt_add_right)))).trans ?_)) (dG (by repeat (first | with_reducible exact bb | refine (bE (by first | with_reducible assumption | decide | exact Nat.ne_of_lt (by repeat (first | with_reducible assumption | apply Nat.lt_add_right)))).trans ?_)) oU)))) (Nat.le_refl _)⟩
     . exact ⟨(j+1,_,m'+4+12+14+2+7+15),⟨U9,b2.1,b2.2.1,b2.2.2,b4.2⟩,b3,Wk.forget (by simp only [E6,Fo];simp [Fg,List.replicate]) (dG (by simp only [E6,Fp];exact bb.trans (by rfl)) (dG (by repeat (first | with_reducible exact bb | refine (bE (by first | with_reducible assumption | decide | exact Nat.ne_of_lt (by repeat (first | with_reducible assumption | apply Nat.lt_add_right)))).trans ?_)) (dG (by repeat (first | with_reducible exact bb | refine (bE (by first | with_reducible assumption | decide | exact Nat.ne_of_lt (by repeat (first | with_reducible assumption | apply Nat.lt_add_right)))).trans ?_)) (dG (by repeat (first | with_reducible exact bb | refine (bE (by first | with_reducible assumption | decide | exact Nat.ne_of_lt (by repeat (first | with_reducible assumption | apply Nat.lt_add_right)))).trans ?_)) oU)))) (Nat.le_refl _)⟩
 . have hjj:j=ins.length:=by omega
   subst hjj
   have d5:decide ((ins.length:Int)<(ins.length:Int))=false:=aD (by omega)
   simp only [List.take_length]
   have KR:=hQ m' q' aee hq' abj qH
   clear hF iI hP hD hl hQ
   repeat (first
     | simp (disch:=first | decide | exact rfl | with_reducible assumption | exact Nat.ne_of_lt (by repeat (first | with_reducible assumption | apply Nat.lt_add_right))) only [bm,SS,DD,Nat.reduceAdd,reduceIte,af,ai,ZZ,CC,aW,g0,g1,g2,decide_true,decide_false,eS,d5]
     | with_reducible refine ao (by assumption) (by simp [ag,aq,aj,aa.int,aa.bool,aa.str,aA,ar,aw,aB,aE,aF,aC,aH,aL]) ?_
     | with_reducible refine ay (by assumption) (by simp [ag,aq,aj,aa.int,aa.bool,aa.str,aA,ar,aw,aB,aE,aF,aC,aH,aL]) ?_
     | with_reducible refine And.intro (a:=ab _ _) (by simp [ab,apart];try assumption) ?_
     | rw [au (by repeat (first | with_reducible exact bb | refine (bE (by first | with_reducible assumption | decide | exact Nat.ne_of_lt (by repeat (first | with_reducible assumption | apply Nat.lt_add_right)))).trans ?_)) (by exact rfl) (by exact rfl) (by exact rfl) (by exact rfl)]
     | rw [bW (by exact rfl) (by exact rfl) (by exact rfl) (by exact rfl)]
     | rw [bX (by exact rfl) (by exact rfl) (by exact rfl) (by exact rfl) (by exact rfl) (by exact rfl)]
     | fail)
   exact KR
end
end Go.VL
end

section
set_option maxRecDepth 100000
namespace Go.VL
abbrev Va (eE cM cx bh cZ:Nat):cB:=(.seq (cS [oM 48 18,oM 49 5,oT 50 .leq 48 49] (.cond (.t 50) .skip (.exit 0))) (.seq (.block 1 (.seq (.reg (some [(1,3),(1,5),(3,5),(4,5)]) [oM 53 15,aU 54 4 16,oM 55 18,oC 56 eE 55,⟨some 57,.call (.f cM) [(.t 53),(.t 54),(.t 56)],none⟩,⟨some 19,.box (.c (.agg [.nils,.nils,.nils,.nils])),none⟩,oS 4 19 57]) (cS [oI 20 0] (.block 2 (.loop (.seq (cS [oM 58 20,oM 59 2,oN 60 59,oT 61 .lss 58 60] (.cond (.t 61) .skip (.exit 2))) (.seq (.block 3 (cS [oM 64 1,oM 65 1,oM 66 2,oM 67 20,oA 68 1 66 67,oL 69 1 68,bz 70 cx 65 69,oA 71 15 64 70,oF 72 1 71,aU 73 14 72,⟨some 21,.box (.c (.agg [(.bool false),.nils,.nils,.nils,.nils,.nils,.nils,.nils,.nils,.nils,.nils,.nils,.nils,(.bool false)])),none⟩,oS 14 21 73] (.seq (.reg (some [(4,7),(4,8)]) [oM 74 15,oF 75 1 21,aU 76 4 75,aU 77 4 19,⟨some 78,.call (.f bh) [(.t 74),(.t 76),(.t 77)],none⟩,oM 79 15,oF 80 5 21,aU 81 4 80,aU 82 4 19,⟨some 83,.call (.f bh) [(.t 79),(.t 81),(.t 82)],none⟩,oF 84 1 21,oS 4 84 78,oF 85 5 21,oS 4 85 83]) (.seq (cS [oF 86 0 21,oL 87 1 86] (.cond (.t 87) (cR [oM 88 15,oF 89 9 21,aU 90 4 89,aU 91 4 19,⟨some 92,.call (.f bh) [(.t 88),(.t 90),(.t 91)],none⟩,oF 93 9 21,oS 4 93 92]) .skip)) (.reg (some [(4,10),(4,12)]) [oM 94 17,oM 95 0,⟨some 96,.bin .add .str (.t 95) (.c (.str [47])),none⟩,oM 97 18,oC 98 cZ 97,⟨some 99,.bin .add .str (.t 96) (.t 98),none⟩,⟨some 100,.bin .add .str (.t 99) (.c (.str [47])),none⟩,oM 101 2,oM 102 20,oA 103 1 101 102,oL 104 1 103,⟨some 105,.bin .add .str (.t 100) (.t 104),none⟩,aU 106 14 21,⟨some 107,.build [(.str []),(.bool false),.nils,.nils,.nils,.nils,.nils,.nils,.nils,.nils,.nils,.nils,.nils,.nils,(.bool false)] [(0,(1,(.t 105))),(1,(14,(.t 106)))],none⟩,⟨some 108,.buildSl 15 1 (.agg [(.str []),(.bool false),.nils,.nils,.nils,.nils,.nils,.nils,.nils,.nils,.nils,.nils,.nils,.nils,(.bool false)]) [(0,(.t 107))],none⟩,Aq 109 15 320 94 108,oM 17 109]))))) (cR [oM 62 20,bC 63 .add 62 1,oM 20 63])))))))) (cR [oM 51 18,bC 52 .add 51 1,oM 18 52])))
end Go.VL
end

section
set_option linter.unusedSimpArgs false
set_option linter.unusedVariables false
set_option maxRecDepth 100000
namespace Go.VL
open Go.Lib
theorem zR (q:Rat):decide (dm q=0)=decide (q=0):=by congr 1;exact propext GY
theorem Ha {i:Nat} (h:i<=1000):Sm 1 (((i:Nat):Int):Rat):=⟨fN (by rw [Nat.pow_one];show i<aK;unfold aK;omega),vn⟩
section
variable {P:Program} {G:Nat->Option (List AV)} {Q:cd->VS->Prop}
set_option maxHeartbeats 4000000 in
theorem Mu {fn fc fF fp fd:FuncId} (nm:List UInt8) (l:List NX) (ins:List (List UInt8)) (N:Nat) (v:Q2) (hN0:N<=50) (hv:m9 1000 v) (hN:∀ i:Nat,i<=1000->VP P G fn [.int .i64 (i:Int)] (NV (((i:Nat):Int):Rat))) (hC:xx P G fc)
   (hF:∀ s∈ins,VP P G fF [dT l, .str s] (.int .i64 (ek l s))) (iI:∀ s∈ins, ¬ ek l s<0) (hP:CN P G fp) (hD:∀ n:Nat,n<1000->VP P G fd [.int .i64 (n:Int)] (.str (decDigits n))) (ta:nm.length<=1000) (hl:∀ z∈l,NOk 2000 z) (yg:ins.length<=10)
   (hQ:∀ m q,999<=q->q<m->Q (.exit 0) ⟨[.str nm,dT l,strs ins, .top, .top, .int .i64 (N:Int)]++List.replicate 9 .top++[.ref [26] 0 0, .ref [31] 0 0,OL [q] 15 ((bM nm l v ins N).map NX.av), .int .i64 ((N+1:Nat):Int)]++List.replicate 29 .top++[.int .i64 ((N+1:Nat):Int), .int .i64 (N:Int), .bool false]++List.replicate 73 .top,((ah.put (fun _=>none) [26] (some eB)).put [31] (some ⟨[V2 v],4,false⟩)).put [q] (OB 15 ((bM nm l v ins N).map NX.av)),m+3⟩) :
   VW P G [] (.loop (Va fn fc fF fp fd)) Q ⟨[.str nm,dT l,strs ins, .top, .top, .int .i64 (N:Int)]++List.replicate 9 .top++[.ref [26] 0 0, .ref [31] 0 0,OL [999] 15 ((bM nm l v ins 0).map NX.av), .int .i64 ((0+1:Nat):Int)]++List.replicate 105 .top,((ah.put (fun _=>none) [26] (some eB)).put [31] (some ⟨[V2 v],4,false⟩)).put [999] (OB 15 ((bM nm l v ins 0).map NX.av)),1000⟩:=by
 refine VW.dU (α := Nat × Nat × Nat) (fun z=>⟨[.str nm,dT l,strs ins, .top, .top, .int .i64 (N:Int)]++List.replicate 9 .top++[.ref [26] 0 0, .ref [31] 0 0,OL [z.2.2] 15 ((bM nm l v ins z.1).map NX.av), .int .i64 ((z.1+1:Nat):Int)]++List.replicate 105 .top,((ah.put (fun _=>none) [26] (some eB)).put [31] (some ⟨[V2 v],4,false⟩)).put [z.2.2] (OB 15 ((bM nm l v ins z.1).map NX.av)),z.2.1⟩)
   (fun z=>z.1<=N/\999<=z.2.2/\z.2.2<z.2.1/\1000<=z.2.1) (fun z=>N-z.1) (0,1000,999) ?_ ⟨Nat.zero_le _,by decide,by decide,by decide⟩ ?_
 . exact Wk.slots (by simp [Fg,List.replicate]) (Nat.le_refl _)
 rintro ⟨c,m,q⟩ ⟨hc,Kr,hq,hm⟩
 simp only [] at hc Kr hq hm
 have k1:26≠q:=by omega
 have k2:31≠q:=by omega
 by_cases hlt:c<N
 . have d4:decide (((c+1:Nat):Int)<=(N:Int))=true:=aG (by omega)
   have n1:=hN (c+1) (by omega)
   have sw:Sm 1 (((c+1:Nat):Int):Rat):=Ha (by omega)
   have s1:=hC v (((c+1:Nat):Int):Rat) (hv.mono (by omega)) (sw.mono (by omega))
   have Q4:m9 1001 (ga v (((c+1:Nat):Int):Rat)):=hv.scale sw
   have hD1:=hD (c+1) (by omega)
   have Vb:(bM nm l v ins c).length<=500:=by rw [p4];exact Nat.le_trans (Nat.mul_le_mul (by omega:c<=50) yg) (by decide)
   have hwr:=aP (c+1) (by omega)
   have ahu:26<m:=by omega
   have k3:26≠m+3+5:=by omega
   have k4:31≠m+3+5:=by omega
   have k5 : ¬ m=23 /\ ¬ m=18:=by omega
   have k6:q≠m+3+5:=by omega
   have k7:N-(c+1)<N-c:=by omega
   have key:=fun (Q':cd->VS->Prop) (mm:Nat) (h1:m+3+5<mm) (h2:q<mm) (h3:1000<=mm)=>Mt (P:=P) (G:=G) (Q:=Q') (fF:=fF) (fp:=fp) (fd:=fd) nm l ins N (c+1) v (ga v (((c+1:Nat):Int):Rat)) (bM nm l v ins c) (m+3+5) q mm (s4 nm l v (c+1)) (fun s=>rfl) hF iI hP hD1 ta hl yg Vb (by omega) Q4 k3 k4 h1 Kr h2 k6 h3
   generalize hW:ga v (((c+1:Nat):Int):Rat)=w at *
   clear hN hC hF iI hP hD hl hQ
   repeat (first
     | simp (disch:=first | decide | exact rfl | with_reducible assumption | exact Nat.ne_of_lt (by repeat (first | with_reducible assumption | apply Nat.lt_add_right))) only [bm,SS,DD,Nat.reduceAdd,reduceIte,af,ai,ZZ,CC,aW,g0,g1,g2,decide_true,decide_false,fE,cC,d4,cz]
     | with_reducible refine ao (by assumption) (by simp [ag,aq,aj,aa.int,aa.bool,aa.str,aA,ar,aw,aB,aE,aF,aC,aH,aL]) ?_
     | with_reducible refine ay (by assumption) (by simp [ag,aq,aj,aa.int,aa.bool,aa.str,aA,ar,aw,aB,aE,aF,aC,aH,aL]) ?_
     | with_reducible refine And.intro (a:=ab _ _) (by simp [ab,apart];try assumption) ?_
     | rw [au (by repeat (first | with_reducible exact bb | refine (bE (by first | with_reducible assumption | decide | exact Nat.ne_of_lt (by repeat (first | with_reducible assumption | apply Nat.lt_add_right)))).trans ?_)) (by exact rfl) (by exact rfl) (by exact rfl) (by exact rfl)]
     | rw [bW (by exact rfl) (by exact rfl) (by exact rfl) (by exact rfl)]
     | rw [bX (by exact rfl) (by exact rfl) (by exact rfl) (by exact rfl) (by exact rfl) (by exact rfl)]
     | refine eI s1 (by repeat (first | with_reducible exact ahu | apply Nat.lt_add_right)) (by repeat (first | with_reducible exact bb | refine (bE (by first | with_reducible assumption | decide | exact Nat.ne_of_lt (by repeat (first | with_reducible assumption | apply Nat.lt_add_right)))).trans ?_)) ?_
     | fail)
   simp only [az]
   refine VW.wk (Wk.forget (by simp [Fg,List.replicate]) (dG (by repeat (first | with_reducible exact bb | refine (bE (by first | with_reducible assumption | decide | exact Nat.ne_of_lt (by repeat (first | with_reducible assumption | apply Nat.lt_add_right)))).trans ?_)) (dG (by exact bb.trans (by rfl)) (dG (by repeat (first | with_reducible exact bb | refine (bE (by first | with_reducible assumption | decide | exact Nat.ne_of_lt (by repeat (first | with_reducible assumption | apply Nat.lt_add_right)))).trans ?_)) (dG (by repeat (first | with_reducible exact bb | refine (bE (by first | with_reducible assumption | decide | exact Nat.ne_of_lt (by repeat (first | with_reducible assumption | apply Nat.lt_add_right)))).trans ?_)) oU)))) (Nat.le_add_right _ 1000)) (key _ _ (by omega) (by omega) (by omega) fun m' q' g1 g2 g3 g4 => ?_)
   have f2:26≠q':=by omega
   have f3:31≠q':=by omega
   have f4:999<=q'/\q'<m'+4+3/\1000<=m'+4+3:=by omega
   repeat (first
     | simp (disch:=first | decide | exact rfl | with_reducible assumption | exact Nat.ne_of_lt (by repeat (first | with_reducible assumption | apply Nat.lt_add_right))) only [bm,SS,DD,Nat.reduceAdd,reduceIte,af,ai,ZZ,CC,aW,g0,g1,g2,decide_true,decide_false,hwr]
     | with_reducible refine ao (by assumption) (by simp [ag,aq,aj,aa.int,aa.bool,aa.str,aA,ar,aw,aB,aE,aF,aC,aH,aL]) ?_
     | with_reducible refine ay (by assumption) (by simp [ag,aq,aj,aa.int,aa.bool,aa.str,aA,ar,aw,aB,aE,aF,aC,aH,aL]) ?_
     | with_reducible refine And.intro (a:=ab _ _) (by simp [ab,apart];try assumption) ?_
     | rw [au (by repeat (first | with_reducible exact bb | refine (bE (by first | with_reducible assumption | decide | exact Nat.ne_of_lt (by repeat (first | with_reducible assumption | apply Nat.lt_add_right)))).trans ?_)) (by exact rfl) (by exact rfl) (by exact rfl) (by exact rfl)]
     | rw [bW (by exact rfl) (by exact rfl) (by exact rfl) (by exact rfl)]
     | rw [bX (by exact rfl) (by exact rfl) (by exact rfl) (by exact rfl) (by exact rfl) (by exact rfl)]
     | fail)
   exact ⟨(c+1,_,q'),⟨hlt,f4.1,f4.2.1,f4.2.2⟩,k7,Wk.forget (by simp only [bM];simp [Fg,List.replicate]) (dG (by simp only [bM];exact bb) (dG (by repeat (first | with_reducible exact bb | refine (bE (by first | with_reducible assumption | decide | exact Nat.ne_of_lt (by repeat (first | with_reducible assumption | apply Nat.lt_add_right)))).trans ?_)) (dG (by repeat (first | with_reducible exact bb | refine (bE (by first | with_reducible assumption | decide | exact Nat.ne_of_lt (by repeat (first | with_reducible assumption | apply Nat.lt_add_right)))).trans ?_)) oU))) (Nat.le_refl _)⟩
 . have hcc:c=N:=by omega
   subst hcc
   have d4:decide (((c+1:Nat):Int)<=(c:Int))=false:=aD (by omega)
   have KR:=hQ m q Kr hq
   clear hN hC hF iI hP hD hl hQ
   repeat (first
     | simp (disch:=first | decide | exact rfl | with_reducible assumption | exact Nat.ne_of_lt (by repeat (first | with_reducible assumption | apply Nat.lt_add_right))) only [bm,SS,DD,Nat.reduceAdd,reduceIte,af,ai,ZZ,CC,aW,g0,g1,g2,decide_true,decide_false,d4]
     | with_reducible refine ao (by assumption) (by simp [ag,aq,aj,aa.int,aa.bool,aa.str,aA,ar,aw,aB,aE,aF,aC,aH,aL]) ?_
     | with_reducible refine ay (by assumption) (by simp [ag,aq,aj,aa.int,aa.bool,aa.str,aA,ar,aw,aB,aE,aF,aC,aH,aL]) ?_
     | with_reducible refine And.intro (a:=ab _ _) (by simp [ab,apart];try assumption) ?_
     | rw [au (by repeat (first | with_reducible exact bb | refine (bE (by first | with_reducible assumption | decide | exact Nat.ne_of_lt (by repeat (first | with_reducible assumption | apply Nat.lt_add_right)))).trans ?_)) (by exact rfl) (by exact rfl) (by exact rfl) (by exact rfl)]
     | rw [bW (by exact rfl) (by exact rfl) (by exact rfl) (by exact rfl)]
     | rw [bX (by exact rfl) (by exact rfl) (by exact rfl) (by exact rfl) (by exact rfl) (by exact rfl)]
     | fail)
   exact KR
end
section
variable {P:Program} {G:Nat->Option (List AV)}
set_option maxHeartbeats 4000000 in
theorem Ke {f fi fs fm fn fc fF fp fd fa:FuncId} (h:Has P f (jh fi fs fm fn fc fF fp fd fa)) (nm:List UInt8) (l:List NX) (ins:List (List UInt8)) (x y:Rat) (n:Int) (CV : -1000<=n/\n<=1000)
   (hI:VP P G fi [.str nm,dT l,strs ins] (.int .i64 (dz nm l ins))) (hS:∀ q,Sm 1000 q->VP P G fs [QV q] (.int .i64 (dm q))) (hM:∀ v:Q2,VP P G fm [QV v.1,QV v.2] (V2 v)) (hN:∀ i:Nat,i<=1000->VP P G fn [.int .i64 (i:Int)] (NV (((i:Nat):Int):Rat)))
   (hC:xx P G fc) (hF:∀ s∈ins,VP P G fF [dT l, .str s] (.int .i64 (ek l s))) (hP:CN P G fp) (hD:∀ n:Nat,n<1000->VP P G fd [.int .i64 (n:Int)] (.str (decDigits n)))
   (hA:∀ more:List NX,more.length<=1000000->l≠[]->more≠[]->VP P G fa [dT l,dT more] (if iE l more=0 then .tup [dT (l++more), .int .i64 0] else .tup [.nils, .int .i64 (iE l more)]))
   (ta:nm.length<=1000) (hl:∀ z∈l,NOk 2000 z) (hlen:l.length<=1000) (yg:ins.length<=10) (hx:Sm 1000 x) (hy:Sm 1000 y):VP P G f [.str nm,dT l,strs ins,QV x,QV y, .int .i64 n] (R3 nm l ins x y n):=by
 have Zl:=hS x hx
 have hsy:=hS y hy
 have qx:=zR x
 have qy:=zR y
 refine VP.has h ?_
 unfold R3 Kc
 simp only [jh]
 by_cases hn:n<1∨50<n
 . rw [if_pos hn,if_neg (by decide)]
   rcases (by omega:n<1∨(¬ n<1/\50<n)) with h1 | ⟨h1,h2⟩
   . have d1:decide (n<1)=true:=aG h1
     repeat (first
       | simp (disch:=first | decide | exact rfl) only [SS,DD,Nat.reduceAdd,reduceIte,af,ai,az,ZZ,CC,aW,g0,g1,g2,decide_true,decide_false,dc,d1]
       | with_reducible refine ao (by assumption) (by simp [ag,aq,aj,aa.int,aa.bool,aa.str,aA,ar,aw,aB,aE,aF,aC,aH,aL]) ?_
       | with_reducible refine ay (by assumption) (by simp [ag,aq,aj,aa.int,aa.bool,aa.str,aA,ar,aw,aB,aE,aF,aC,aH,aL]) ?_
       | with_reducible refine And.intro (a:=ab _ _) (by simp [ab,apart]) ?_
       | with_reducible refine VW.aI 3 (VW.of ?_)
       | with_reducible refine b9.next _ (VW.of ?_)
       | rw [au (by exact rfl) (by exact rfl) (by exact rfl) (by exact rfl) (by exact rfl)]
       | rw [bW (by exact rfl) (by exact rfl) (by exact rfl) (by exact rfl)]
       | rw [bX (by exact rfl) (by exact rfl) (by exact rfl) (by exact rfl) (by exact rfl) (by exact rfl)]
       | fail)
     exact ax▸ae rfl (aa.tup (by simp [aA,aa.int]))
   . have d1:decide (n<1)=false:=aD h1
     have d2:decide (50<n)=true:=aG h2
     repeat (first
       | simp (disch:=first | decide | exact rfl) only [SS,DD,Nat.reduceAdd,reduceIte,af,ai,az,ZZ,CC,aW,g0,g1,g2,decide_true,decide_false,dc,d1,d2]
       | with_reducible refine ao (by assumption) (by simp [ag,aq,aj,aa.int,aa.bool,aa.str,aA,ar,aw,aB,aE,aF,aC,aH,aL]) ?_
       | with_reducible refine ay (by assumption) (by simp [ag,aq,aj,aa.int,aa.bool,aa.str,aA,ar,aw,aB,aE,aF,aC,aH,aL]) ?_
       | with_reducible refine And.intro (a:=ab _ _) (by simp [ab,apart]) ?_
       | with_reducible refine VW.aI 3 (VW.of ?_)
       | with_reducible refine b9.next _ (VW.of ?_)
       | rw [au (by exact rfl) (by exact rfl) (by exact rfl) (by exact rfl) (by exact rfl)]
       | rw [bW (by exact rfl) (by exact rfl) (by exact rfl) (by exact rfl)]
       | rw [bX (by exact rfl) (by exact rfl) (by exact rfl) (by exact rfl) (by exact rfl) (by exact rfl)]
       | fail)
     exact ax▸ae rfl (aa.tup (by simp [aA,aa.int]))
 have d1:decide (n<1)=false:=aD (by omega)
 have d2:decide (50<n)=false:=aD (by omega)
 rw [if_neg hn]
 by_cases p9:dz nm l ins=0
 case neg =>
   have d3:decide (dz nm l ins≠0)=true:=aG p9
   rw [if_pos p9,if_neg p9]
   repeat (first
     | simp (disch:=first | decide | exact rfl) only [SS,DD,Nat.reduceAdd,reduceIte,af,ai,az,ZZ,CC,aW,g0,g1,g2,decide_true,decide_false,dc,d1,d2,d3]
     | with_reducible refine ao (by assumption) (by simp [ag,aq,aj,aa.int,aa.bool,aa.str,aA,ar,aw,aB,aE,aF,aC,aH,aL]) ?_
     | with_reducible refine ay (by assumption) (by simp [ag,aq,aj,aa.int,aa.bool,aa.str,aA,ar,aw,aB,aE,aF,aC,aH,aL]) ?_
     | with_reducible refine And.intro (a:=ab _ _) (by simp [ab,apart]) ?_
     | with_reducible refine VW.aI 3 (VW.of ?_)
     | with_reducible refine b9.next _ (VW.of ?_)
     | rw [au (by exact rfl) (by exact rfl) (by exact rfl) (by exact rfl) (by exact rfl)]
     | rw [bW (by exact rfl) (by exact rfl) (by exact rfl) (by exact rfl)]
     | rw [bX (by exact rfl) (by exact rfl) (by exact rfl) (by exact rfl) (by exact rfl) (by exact rfl)]
     | fail)
   exact ax▸ae rfl (aa.tup (by simp [aA,aa.int]))
 have d3:decide (dz nm l ins≠0)=false:=aD (by simpa using p9)
 rw [if_neg (show ¬ (dz nm l ins≠0) by simp [p9])]
 by_cases JM:x=0/\y=0
 . rw [decide_eq_true JM.1] at qx
   rw [decide_eq_true JM.2] at qy
   rw [if_pos JM,if_neg (by decide)]
   repeat (first
     | simp (disch:=first | decide | exact rfl) only [SS,DD,Nat.reduceAdd,reduceIte,af,ai,az,ZZ,CC,aW,g0,g1,g2,decide_true,decide_false,dc,bT,d1,d2,d3,qx,qy]
     | with_reducible refine ao (by assumption) (by simp [ag,aq,aj,aa.int,aa.bool,aa.str,aA,ar,aw,aB,aE,aF,aC,aH,aL]) ?_
     | with_reducible refine ay (by assumption) (by simp [ag,aq,aj,aa.int,aa.bool,aa.str,aA,ar,aw,aB,aE,aF,aC,aH,aL]) ?_
     | with_reducible refine And.intro (a:=ab _ _) (by simp [ab,apart]) ?_
     | with_reducible refine VW.aI 3 (VW.of ?_)
     | with_reducible refine b9.next _ (VW.of ?_)
     | rw [au (by exact rfl) (by exact rfl) (by exact rfl) (by exact rfl) (by exact rfl)]
     | rw [bW (by exact rfl) (by exact rfl) (by exact rfl) (by exact rfl)]
     | rw [bX (by exact rfl) (by exact rfl) (by exact rfl) (by exact rfl) (by exact rfl) (by exact rfl)]
     | fail)
   exact ax▸ae rfl (aa.tup (by simp [aA,aa.int]))
 rw [if_neg JM]
 obtain ⟨uv,hne,iI⟩:=Bj p9
 obtain ⟨N,rfl⟩:∃ N:Nat,n=(N:Int):=⟨n.toNat,by omega⟩
 rw [Int.toNat_natCast]
 have Kp:l≠[]:=by
   rintro rfl
   cases ins with
   | nil=>exact hne rfl
   | cons s _=>exact iI s (by simp) (by simp [ek,Af])
 have ss:=hM (x,y)
 simp only [] at ss
 have e0:iN [.int .i64 0] []=some [.int .i64 0]:=rfl
 have e1:((AV.cells (.agg [.int .i64 0])).all AV.one=true)=True:=by simp [AV.cells,AV.one]
 have key:∀ b1 b2:Bool,(b1,b2)=(decide (x=0),decide (y=0))->(b1=false∨(b1=true/\b2=false)):=by
   intro b1 b2 he
   simp only [Prod.mk.injEq] at he
   by_cases h1:x=0
   . right;exact ⟨by rw [he.1,decide_eq_true h1],by rw [he.2,decide_eq_false (fun h2=>JM ⟨h1,h2⟩)]⟩
   . left;rw [he.1,decide_eq_false h1]
 have hw:m9 1000 (x,y):=⟨hx,hy⟩
 rcases key _ _ rfl with h1 | ⟨h1,h2⟩
 all_goals
   rw [h1] at qx
   try rw [h2] at qy
   repeat (first
     | simp (disch:=first | decide | exact rfl) only [SS,DD,Nat.reduceAdd,reduceIte,af,ai,ZZ,CC,aW,g0,g1,g2,decide_true,decide_false,dc,bT,fE,cC,d1,d2,d3,qx,qy,cz,e0,e1]
     | with_reducible refine ao (by assumption) (by simp [ag,aq,aj,aa.int,aa.bool,aa.str,aA,ar,aw,aB,aE,aF,aC,aH,aL]) ?_
     | with_reducible refine ay (by assumption) (by simp [ag,aq,aj,aa.int,aa.bool,aa.str,aA,ar,aw,aB,aE,aF,aC,aH,aL]) ?_
     | with_reducible refine And.intro (a:=ab _ _) (by simp [ab,apart]) ?_
     | rw [au (by exact rfl) (by exact rfl) (by exact rfl) (by exact rfl) (by exact rfl)]
     | rw [bW (by exact rfl) (by exact rfl) (by exact rfl) (by exact rfl)]
     | rw [bX (by exact rfl) (by exact rfl) (by exact rfl) (by exact rfl) (by exact rfl) (by exact rfl)]
     | fail)
   simp only [az]
   refine VW.wk (Wk.forget (by simp [Fg,List.replicate,OL,bM]) (dG (by rfl) (dG (by rfl) (dG (by rfl) oU))) (by omega)) (Mu (fn:=fn) (fc:=fc) (fF:=fF) (fp:=fp) (fd:=fd) nm l ins N (x,y) (by omega) hw hN hC hF iI hP hD ta hl yg fun m q Kr hq => ?_)
   have f2:26≠q:=by omega
   have hml:(bM nm l (x,y) ins N).length<=500:=by rw [p4];exact Nat.le_trans (Nat.mul_le_mul (by omega:N<=50) yg) (by decide)
   have Vc:(bM nm l (x,y) ins N).map NX.av≠[]:=by
     cases N with
     | zero=>omega
     | succ k=>simp [bM,hne]
   have Vd:=hA (bM nm l (x,y) ins N) (by omega) Kp (by simpa using Vc)
   have ld:∀ b:Option dA,jm (ah.put ((ah.put (fun _=>none) [26] (some eB)).put [31] (some ⟨[V2 (x,y)],4,false⟩)) [q] b) false 1 (.ref [26] 0 0)=some { val := .int .i64 0,rd:=[[26]] }:=fun _=>by
     rw [bm f2,af (by simp)];rfl
   by_cases h0:iE l (bM nm l (x,y) ins N)=0
   . rw [if_pos h0] at Vd ⊢
     clear hI hS hM hN hC hF hP hD hA hl iI key
     repeat (first
       | simp (disch:=first | decide | exact rfl | with_reducible assumption | exact Nat.ne_of_lt (by repeat (first | with_reducible assumption | apply Nat.lt_add_right))) only [bm,SS,DD,Nat.reduceAdd,reduceIte,af,ai,ZZ,CC,aW,g0,g1,g2,decide_true,decide_false,ld]
       | with_reducible refine ao (by assumption) (by simp [ag,aq,aj,aa.int,aa.bool,aa.str,aA,ar,aw,aB,aE,aF,aC,aH,aL]) ?_
       | with_reducible refine ay (by assumption) (by simp [ag,aq,aj,aa.int,aa.bool,aa.str,aA,ar,aw,aB,aE,aF,aC,aH,aL]) ?_
       | with_reducible refine And.intro (a:=ab _ _) (by simp [ab,apart];try assumption) ?_
       | rw [au (by repeat (first | with_reducible exact bb | refine (bE (by first | with_reducible assumption | decide | exact Nat.ne_of_lt (by repeat (first | with_reducible assumption | apply Nat.lt_add_right)))).trans ?_)) (by exact rfl) (by exact rfl) (by exact rfl) (by exact rfl)]
       | rw [bW (by exact rfl) (by exact rfl) (by exact rfl) (by exact rfl)]
       | rw [bX (by exact rfl) (by exact rfl) (by exact rfl) (by exact rfl) (by exact rfl) (by exact rfl)]
       | refine bG [([q],⟨(bM nm l (x,y) ins N).map NX.av,15,false⟩)] Vd (aM.cons (View.pure (aC l)) (aM.cons (CO (.inr (by simp [ah.of])) (by intro a ha;obtain ⟨y,_,rfl⟩:=List.mem_map.1 ha;rfl) (vE _)) aM.nil)) (by simp [ah.put,OB,Vc]) ?_
       | fail)
     exact ax▸ae rfl (aa.tup (by simp [aC,aa.int]))
   . rw [if_neg h0] at Vd ⊢
     clear hI hS hM hN hC hF hP hD hA hl iI key
     repeat (first
       | simp (disch:=first | decide | exact rfl | with_reducible assumption | exact Nat.ne_of_lt (by repeat (first | with_reducible assumption | apply Nat.lt_add_right))) only [bm,SS,DD,Nat.reduceAdd,reduceIte,af,ai,ZZ,CC,aW,g0,g1,g2,decide_true,decide_false,ld]
       | with_reducible refine ao (by assumption) (by simp [ag,aq,aj,aa.int,aa.bool,aa.str,aA,ar,aw,aB,aE,aF,aC,aH,aL]) ?_
       | with_reducible refine ay (by assumption) (by simp [ag,aq,aj,aa.int,aa.bool,aa.str,aA,ar,aw,aB,aE,aF,aC,aH,aL]) ?_
       | with_reducible refine And.intro (a:=ab _ _) (by simp [ab,apart];try assumption) ?_
       | rw [au (by repeat (first | with_reducible exact bb | refine (bE (by first | with_reducible assumption | decide | exact Nat.ne_of_lt (by repeat (first | with_reducible assumption | apply Nat.lt_add_right)))).trans ?_)) (by exact rfl) (by exact rfl) (by exact rfl) (by exact rfl)]
       | rw [bW (by exact rfl) (by exact rfl) (by exact rfl) (by exact rfl)]
       | rw [bX (by exact rfl) (by exact rfl) (by exact rfl) (by exact rfl) (by exact rfl) (by exact rfl)]
       | refine bG [([q],⟨(bM nm l (x,y) ins N).map NX.av,15,false⟩)] Vd (aM.cons (View.pure (aC l)) (aM.cons (CO (.inr (by simp [ah.of])) (by intro a ha;obtain ⟨y,_,rfl⟩:=List.mem_map.1 ha;rfl) (vE _)) aM.nil)) (by simp [ah.put,OB,Vc]) ?_
       | fail)
     exact ax▸ae rfl (aa.tup (by simp [aA,aa.int]))
end
end Go.VL
end
