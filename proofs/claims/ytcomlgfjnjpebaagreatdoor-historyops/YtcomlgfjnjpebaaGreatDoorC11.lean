/- For the claim of HistoryOps: parts CG2, CG3, CG4, CG5, CG6, CG7, CG8, CG9, CG10, CG11, CG12, CH5, CH6, CH7, CG13, CG14, CG15. -/
import Derived.Test.YtcomlgfjnjpebaaGreatDoorC10
set_option linter.unusedSimpArgs false
set_option linter.unusedVariables false
section
set_option linter.unusedVariables false
set_option linter.unusedVariables false
namespace Go.VL
theorem lQ {α β : Type} (a a' : α) (b b' : β):gZ (a,b) (a',b')=(gZ a a'&&gZ b b'):=by
 by_cases ha:a=a'
 . by_cases hb:b=b'
   . rw [bX ha,bX hb,bX (by rw [ha,hb])];rfl
   . rw [bX ha,bm hb,bm (fun e=>hb (Prod.mk.inj e).2)];rfl
 . rw [bm ha,bm (fun e=>ha (Prod.mk.inj e).1)];rfl
theorem AG {α β : Type} {a a' : α} {b b' : β} (h:a=a'↔b=b'):gZ a a'=gZ b b':=by
 by_cases hb:b=b'
 . rw [bX hb,bX (h.2 hb)]
 . rw [bm hb,bm (fun e=>hb (h.1 e))]
section
variable (op:Int) (n1:Bool) (w1:List Nat) (n2:Bool) (w2:List Nat) (nm:List UInt8) (args:List EX)
theorem EX.q12:part true (EX.mk op n1 w1 n2 w2 nm args).av.cells 1 2=some (IR n1 w1):=by rw [EX.av];rfl
theorem EX.q34:part true (EX.mk op n1 w1 n2 w2 nm args).av.cells 3 2=some (IR n2 w2):=by rw [EX.av];rfl
theorem X6:part true (RR n1 w1 n2 w2).cells 0 2=some (IR n1 w1):=rfl
theorem X7:part true (RR n1 w1 n2 w2).cells 2 2=some (IR n2 w2):=rfl
variable (ME:Int) (Dr:Bool) (B7:List Nat) (Ds:Bool) (B8:List Nat) (OU:List UInt8) (gw:List EX)
theorem EX.Gp:gZ (EX.mk op n1 w1 n2 w2 nm args) (EX.mk ME Dr B7 Ds B8 OU gw)=(gZ op ME&&gZ nm OU&&gZ (n1,w1) (Dr,B7)&&gZ (n2,w2) (Ds,B8)&&gZ args gw):=by
 rw [<- lQ, <- lQ, <- lQ, <- lQ]
 refine AG ⟨fun e => ?_,fun e => ?_⟩
 . cases e;rfl
 . simp only [Prod.mk.injEq] at e
   obtain ⟨⟨⟨⟨rfl,rfl⟩,rfl,rfl⟩,rfl,rfl⟩,rfl⟩:=e
   rfl
end
section
variable {P:Program} {G:Nat->Option (List AV)}
theorem Sf {f fi fq:FuncId} (h:Has P f (oV fi fq f)) (hi:∀ b b' ws ML,ws.length<=9223372036854775807->ML.length<=9223372036854775807->VP P G fi [IR b ws,IR b' ML] (.bool (gZ (b,ws) (b',ML))))
   (hq:Has P fq aR):∀ e:EX,e.Ok->∀ e':EX,e'.Ok->VP P G f [e.av,e'.av] (.bool (gZ e e')):=EX.induct fun op n1 w1 n2 w2 nm args ih ml e' KR=>by
 cases e' with
 | mk ME Dr B7 Ds B8 OU gw =>
 have RL:=EX.qX ml
 have X8:=EX.qX KR
 rw [EX.Ok] at ml KR
 obtain ⟨_,_,_,_,mR,uC,_,V8,_⟩:=ml
 obtain ⟨_,_,_,_,X9,Ya,_,aa8,_⟩:=KR
 have eG:([0]:List Nat)≠[1]:=by decide
 have Yb:=db (G:=G) hq EX.av EX.size EX.pure (fun x=>of_eq_true (EX.one x)) EX.all EX.s9 args gw V8 aa8 (fun x hx y hy=>ih x hx (RL x hx) y (X8 y hy))
 rw [<- EX.cJ, <- EX.cJ] at Yb
 have TR:=hi n1 Dr w1 B7 mR X9
 have En:=hi n2 Ds w2 B8 uC Ya
 rw [EX.Gp]
 generalize gZ (n1,w1) (Dr,B7)=b1 at TR ⊢
 generalize gZ (n2,w2) (Ds,B8)=b2 at En ⊢
 generalize gZ args gw=b3 at Yb ⊢
 have d0:=eq_int op ME
 have d1:=Se nm OU
 generalize gZ op ME=a0 at d0 ⊢
 generalize gZ nm OU=a1 at d1 ⊢
 refine VP.has h ?_
 simp only [oV,SS,Nat.reduceAdd,EX.one,ai eG,ae,EX.q0,d0]
 cases a0
 . simp only [SS,Nat.reduceAdd,Bool.false_and]
   exact ag▸ab rfl (af.bool _)
 simp only [SS,Nat.reduceAdd,ai eG,ae,EX.q5,d1]
 cases a1
 . simp only [SS,Nat.reduceAdd,Bool.false_and,Bool.true_and]
   exact ag▸ab rfl (af.bool _)
 simp only [SS,Nat.reduceAdd,ai eG,ae,EX.q12]
 refine aj TR (by simp [wH]) ?_
 cases b1
 . simp only [SS,Nat.reduceAdd,Bool.false_and,Bool.true_and]
   exact ag▸ab rfl (af.bool _)
 simp only [SS,Nat.reduceAdd,ai eG,ae,EX.q34]
 refine aj En (by simp [wH]) ?_
 cases b2
 . simp only [SS,Nat.reduceAdd,Bool.false_and,Bool.true_and]
   exact ag▸ab rfl (af.bool _)
 simp only [SS,Nat.reduceAdd,ai eG,ae,EX.q6]
 refine aj Yb (by simp [EX.eM,kq]) ?_
 simp only [SS,Nat.reduceAdd,Bool.true_and]
 exact ag▸ab rfl (af.bool _)
theorem UQ {f fs fq fe:FuncId} (h:Has P f (pP fs fq fe)) (hs:∀ l m:List (List UInt8),l.length<=9223372036854775807->m.length<=9223372036854775807->VP P G fs [strs l,strs m] (.bool (gZ l m)))
   (hq:Has P fq aR) (he:∀ e:EX,e.Ok->∀ e':EX,e'.Ok->VP P G fe [e.av,e'.av] (.bool (gZ e e'))) (X Y:FX) (hX:X.Ok) (hY:Y.Ok):VP P G f [X.eJ.av,Y.eJ.av] (.bool (gZ X Y)):=by
 have eG:([0]:List Nat)≠[1]:=by decide
 have Yb:=db (G:=G) hq EX.av EX.size EX.pure (fun x=>of_eq_true (EX.one x)) EX.all EX.s9 X.bG Y.bG hX.vl hY.vl (fun x hx y hy=>he x (hX.bG x hx) y (hY.bG y hy))
 rw [<- EX.cJ, <- EX.cJ] at Yb
 have Wb:=hs X.aC Y.aC hX.ins hY.ins
 have e:gZ X Y=(gZ X.name Y.name&&gZ X.kind Y.kind&&gZ X.supp Y.supp&&gZ X.aC Y.aC&&gZ X.bG Y.bG):=by
   rw [<- lQ, <- lQ, <- lQ, <- lQ]
   refine AG ⟨fun e=>by rw [e],fun e => ?_⟩
   simp only [Prod.mk.injEq] at e
   cases X;cases Y
   obtain ⟨⟨⟨⟨h1,h2⟩,h3⟩,h4⟩,h5⟩:=e
   simp only at h1 h2 h3 h4 h5
   rw [h1,h2,h3,h4,h5]
 have p0:∀ Z:FX,part false Z.eJ.av.cells 0 1=some (.str Z.name):=fun Z=>rfl
 have p1:∀ Z:FX,part false Z.eJ.av.cells 1 1=some (.int .i64 Z.kind):=fun Z=>rfl
 have p2:∀ Z:FX,part false Z.eJ.av.cells 2 1=some (strs Z.aC):=fun Z=>rfl
 have p3:∀ Z:FX,part false Z.eJ.av.cells 3 1=some (.sl 7 (EX.kY Z.bG)):=fun Z=>rfl
 have p4:∀ Z:FX,part false Z.eJ.av.cells 4 1=some (.bool Z.supp):=fun Z=>rfl
 have d0:=Se X.name Y.name
 have d1:=eq_int X.kind Y.kind
 have d2:=MK X.supp Y.supp
 rw [e]
 generalize gZ X.name Y.name=a0 at d0 ⊢
 generalize gZ X.kind Y.kind=a1 at d1 ⊢
 generalize gZ X.supp Y.supp=a2 at d2 ⊢
 generalize gZ X.aC Y.aC=b1 at Wb ⊢
 generalize gZ X.bG Y.bG=b2 at Yb ⊢
 refine VP.has h ?_
 simp only [pP,SS,Nat.reduceAdd,bP.one,ai eG,ae,p0,d0]
 cases a0
 . simp only [SS,Nat.reduceAdd,Bool.false_and]
   exact ag▸ab rfl (af.bool _)
 simp only [SS,Nat.reduceAdd,ai eG,ae,p1,d1]
 cases a1
 . simp only [SS,Nat.reduceAdd,Bool.false_and,Bool.true_and]
   exact ag▸ab rfl (af.bool _)
 simp only [SS,Nat.reduceAdd,ai eG,ae,p4,d2]
 cases a2
 . simp only [SS,Nat.reduceAdd,Bool.false_and,Bool.true_and]
   exact ag▸ab rfl (af.bool _)
 simp only [SS,Nat.reduceAdd,ai eG,ae,p2]
 refine aj Wb (by simp [gY]) ?_
 cases b1
 . simp only [SS,Nat.reduceAdd,Bool.false_and,Bool.true_and]
   exact ag▸ab rfl (af.bool _)
 simp only [SS,Nat.reduceAdd,ai eG,ae,p3]
 refine aj Yb (by simp [EX.eM,kq]) ?_
 simp only [SS,Nat.reduceAdd,Bool.true_and]
 exact ag▸ab rfl (af.bool _)
end
end Go.VL
end

section
set_option linter.unusedVariables false
set_option linter.unusedVariables false
namespace Go.VL
theorem wm {α : Type} {l m:List α} (hlen:l.length=m.length) {i:Nat} (h:l.take i=m.take i) (hi : ¬ i<l.length):gZ l m=true :=
 bX (by rw [List.take_of_length_le (by omega),List.take_of_length_le (by omega)] at h;exact h)
theorem zt {α : Type} {l m:List α} (h:l.length≠m.length):gZ l m=false:=bm (fun e=>h (by rw [e]))
theorem Dz {α : Type} {l m:List α} {i:Nat} {x y : α} (hx:l[i]? = some x) (hy:m[i]? = some y) (h:x≠y):gZ l m=false :=
 bm (fun e=>h (by rw [e,hy] at hx;exact (Option.some.inj hx).symm))
theorem sX {α : Type} {l m:List α} {i:Nat} {x : α} (h:l.take i=m.take i) (hx:l[i]? = some x) (hy:m[i]? = some x):l.take (i+1)=m.take (i+1):=by
 rw [List.take_add_one,List.take_add_one,hx,hy,h]
section
variable {P:Program} {G:Nat->Option (List AV)}
theorem DA {f:FuncId} (h:Has P f eC) (b b':Bool) (l m:List Nat) (hl:l.length<=9223372036854775807) (hm:m.length<=9223372036854775807):VP P G f [IR b l,IR b' m] (.bool (gZ (b,l) (b',m))):=by
 have eG:([0]:List Nat)≠[1]:=by decide
 rw [lQ]
 have SW:∀ ws,jN false (.sl 1 (us ws))=some (.int .i64 ws.length):=fun ws=>by simp [jN,dG]
 by_cases hb:b=b'
 case neg =>
   have d1:(!(b==b'))=true:=by simp [hb]
   rw [bm hb]
   refine VP.has h ?_
   simp only [eC,SS,Nat.reduceAdd,xY,ai eG,ae,I4,d1,Bool.false_and]
   exact ag▸ab rfl (af.bool _)
 have d1:(!(b==b'))=false:=by simp [hb]
 rw [bX hb,Bool.true_and]
 by_cases hlen:l.length=m.length
 case neg =>
   have d0:decide ((l.length:Int)≠(m.length:Int))=true:=an (by omega)
   rw [zt hlen]
   refine VP.has h ?_
   simp only [eC,SS,Nat.reduceAdd,xY,ai eG,ae,I4,Fl,SW,d1,d0]
   exact ag▸ab rfl (af.bool _)
 have d0:decide ((l.length:Int)≠(m.length:Int))=false:=ak (by omega)
 refine VP.has h ?_
 simp only [eC,SS,Nat.reduceAdd,xY,ai eG,ae,I4,Fl,SW,d1,d0,aE]
 refine VW.bR (α := Nat × Nat) (fun x=>⟨[IR b l,IR b' m, .ref [0] 0 0, .ref [1] 0 0, .bool false, .int .i64 (x.1:Int)]++List.replicate 32 .top,aa.put (aa.put (fun _=>none) [0] (some ⟨[IR b l],2,false⟩)) [1] (some ⟨[IR b' m],2,false⟩),x.2⟩)
   (fun x=>x.1<=l.length/\l.take x.1=m.take x.1) (fun x=>l.length-x.1) (0,1000) ?_ ⟨Nat.zero_le _,by simp⟩ ?_
 . exact Wk.forget (by simp [Fg,List.replicate]) (fun j => .inr rfl) (by omega)
 rintro ⟨i,nn⟩ ⟨hi,cD⟩
 simp only [] at hi cD
 by_cases aN:i<l.length
 . obtain ⟨x,hx⟩:∃ x,l[i]? = some x:=⟨_,List.getElem?_eq_getElem aN⟩
   obtain ⟨y,hy⟩:∃ y,m[i]? = some y:=⟨_,List.getElem?_eq_getElem (by omega)⟩
   have dd:decide ((i:Int)<(l.length:Int))=true:=an (by omega)
   have AD:(us l)[i]? = some (.int .u32 (x:Int)):=by rw [us,List.getElem?_map,hx];rfl
   have Ed:(us m)[i]? = some (.int .u32 (y:Int)):=by rw [us,List.getElem?_map,hy];rfl
   have BT:∀ z:Nat,part false (AV.int .u32 (z:Int)).cells 0 1=some (.int .u32 (z:Int)):=fun z=>rfl
   have mQ:bz 1 (.sl 1 (us l)) (.int .i64 (i:Int))=some (.ep (AV.int .u32 (x:Int)).cells 0):=aS rfl AD
   have sW:bz 1 (.sl 1 (us m)) (.int .i64 (i:Int))=some (.ep (AV.int .u32 (y:Int)).cells 0):=aS rfl Ed
   by_cases pG:x=y
   . have bY:decide ((x:Int)≠(y:Int))=false:=by rw [wj,bX pG];rfl
     simp only [SS,DD,Nat.reduceAdd,List.replicate,ai eG,ae,Fl,SW,dd,mQ,sW,az,BT,bY,aq i (by omega)]
     refine ⟨by simp [ar,apart],(i+1,nn+1000),⟨by simp only [];omega, ?_⟩,by simp only [];omega,Wk.bc (by simp [Fg]) (by omega)⟩
     exact sX cD hx (pG▸hy)
   . have bY:decide ((x:Int)≠(y:Int))=true:=by rw [wj,bm pG];rfl
     rw [Dz hx hy pG]
     simp only [SS,DD,Nat.reduceAdd,List.replicate,ai eG,ae,Fl,SW,dd,mQ,sW,az,BT,bY]
     refine ⟨by simp [ar,apart], ?_⟩
     exact ag▸ab rfl (af.bool _)
 . have dd:decide ((i:Int)<(l.length:Int))=false:=ak (by omega)
   rw [wm hlen cD aN]
   simp only [SS,Nat.reduceAdd,List.replicate,ai eG,ae,Fl,SW,dd]
   exact ag▸ab rfl (af.bool _)
theorem Sg {f fs:FuncId} (h:Has P f (kN fs)) (n1:Bool) (w1:List Nat) (n2:Bool) (w2:List Nat) (Dr:Bool) (B7:List Nat) (Ds:Bool) (B8:List Nat)
   (h1:VP P G fs [IR n1 w1,IR Dr B7] (.bool (gZ (n1,w1) (Dr,B7)))) (h2:VP P G fs [IR n2 w2,IR Ds B8] (.bool (gZ (n2,w2) (Ds,B8)))) :
   VP P G f [RR n1 w1 n2 w2,RR Dr B7 Ds B8] (.bool (gZ (n1,w1) (Dr,B7)&&gZ (n2,w2) (Ds,B8))):=by
 have eG:([0]:List Nat)≠[1]:=by decide
 generalize gZ (n1,w1) (Dr,B7)=b1 at h1 ⊢
 generalize gZ (n2,w2) (Ds,B8)=b2 at h2 ⊢
 refine VP.has h ?_
 simp only [kN,SS,Nat.reduceAdd,Db,ai eG,ae,X6]
 refine aj h1 (by simp [wH]) ?_
 cases b1
 . simp only [SS,Nat.reduceAdd,Bool.false_and]
   exact ag▸ab rfl (af.bool _)
 simp only [SS,Nat.reduceAdd,ai eG,ae,X7]
 refine aj h2 (by simp [wH]) ?_
 simp only [SS,Nat.reduceAdd,Bool.true_and]
 exact ag▸ab rfl (af.bool _)
theorem Ot {f fs:FuncId} (h:Has P f (jY fs f)) (hs:∀ n1 w1 n2 w2 Dr B7 Ds B8,w1.length<=9223372036854775807->w2.length<=9223372036854775807->B7.length<=9223372036854775807->B8.length<=9223372036854775807 ->
     VP P G fs [RR n1 w1 n2 w2,RR Dr B7 Ds B8] (.bool (gZ (n1,w1) (Dr,B7)&&gZ (n2,w2) (Ds,B8)))):∀ e:EX,e.Ok->∀ e':EX,e'.Ok->VP P G f [e.av,e'.av] (.bool (gZ e e')):=EX.induct fun op n1 w1 n2 w2 nm args ih ml e' KR=>by
 cases e' with
 | mk ME Dr B7 Ds B8 OU gw =>
 have RL:=EX.qX ml
 have X8:=EX.qX KR
 rw [EX.Ok] at ml KR
 obtain ⟨_,_,_,_,mR,uC,_,V8,_⟩:=ml
 obtain ⟨_,_,_,_,X9,Ya,_,aa8,_⟩:=KR
 have eG:([0]:List Nat)≠[1]:=by decide
 have Wb:=hs n1 w1 n2 w2 Dr B7 Ds B8 mR uC X9 Ya
 rw [EX.Gp,Bool.and_assoc (gZ op ME&&gZ nm OU)]
 generalize (gZ (n1,w1) (Dr,B7)&&gZ (n2,w2) (Ds,B8))=b1 at Wb ⊢
 have d0:decide (op≠ME) = !gZ op ME:=Sd op ME
 have d1:=Dy nm OU
 generalize gZ op ME=a0 at d0 ⊢
 generalize gZ nm OU=a1 at d1 ⊢
 have dn:=wj args.length gw.length
 refine VP.has h ?_
 simp only [jY,SS,Nat.reduceAdd,EX.one,ai eG,ae,EX.q0,d0]
 cases a0
 . simp only [SS,Nat.reduceAdd,Bool.false_and]
   exact ag▸ab rfl (af.bool _)
 simp only [SS,Nat.reduceAdd,ai eG,ae,EX.q5,d1]
 cases a1
 . simp only [SS,Nat.reduceAdd,Bool.false_and,Bool.true_and]
   exact ag▸ab rfl (af.bool _)
 simp only [SS,Nat.reduceAdd,ai eG,ae,EX.q6,EX.a8,dn]
 by_cases hlen:args.length=gw.length
 case neg =>
   rw [bm hlen,zt hlen]
   simp only [SS,Nat.reduceAdd,Bool.and_false]
   exact ag▸ab rfl (af.bool _)
 rw [bX hlen]
 simp only [SS,Nat.reduceAdd,ai eG,ae,EX.q1]
 refine aj Wb (by simp [eE]) ?_
 cases b1
 . simp only [SS,Nat.reduceAdd,Bool.false_and,Bool.true_and]
   exact ag▸ab rfl (af.bool _)
 simp only [SS,Nat.reduceAdd,Bool.true_and,aE]
 refine VW.bR (α := Nat × Nat) (fun x=>⟨[(EX.mk op n1 w1 n2 w2 nm args).av,(EX.mk ME Dr B7 Ds B8 OU gw).av, .ref [0] 0 0, .ref [1] 0 0, .bool false, .int .i64 (x.1:Int)]++List.replicate 48 .top,aa.put (aa.put (fun _=>none) [0] (some ⟨[(EX.mk op n1 w1 n2 w2 nm args).av],7,false⟩)) [1] (some ⟨[(EX.mk ME Dr B7 Ds B8 OU gw).av],7,false⟩),x.2⟩)
   (fun x=>x.1<=args.length/\args.take x.1=gw.take x.1) (fun x=>args.length-x.1) (0,1000) ?_ ⟨Nat.zero_le _,by simp⟩ ?_
 . exact Wk.forget (by simp [Fg,List.replicate]) (fun j => .inr (by simp only [EX.size])) (by omega)
 rintro ⟨i,nn⟩ ⟨hi,cD⟩
 simp only [] at hi cD
 by_cases aN:i<args.length
 . obtain ⟨x,hx⟩:∃ x,args[i]? = some x:=⟨_,List.getElem?_eq_getElem aN⟩
   obtain ⟨y,hy⟩:∃ y,gw[i]? = some y:=⟨_,List.getElem?_eq_getElem (by omega)⟩
   have dd:decide ((i:Int)<(args.length:Int))=true:=an (by omega)
   have AD:(EX.kY args)[i]? = some x.av:=by rw [EX.cJ,List.getElem?_map,hx];rfl
   have Ed:(EX.kY gw)[i]? = some y.av:=by rw [EX.cJ,List.getElem?_map,hy];rfl
   have mQ:bz 7 (.sl 7 (EX.kY args)) (.int .i64 (i:Int))=some (.ep x.av.cells 0):=aS rfl AD
   have sW:bz 7 (.sl 7 (EX.kY gw)) (.int .i64 (i:Int))=some (.ep y.av.cells 0):=aS rfl Ed
   have Gn:=ih x (List.mem_of_getElem? hx) (RL x (List.mem_of_getElem? hx)) y (X8 y (List.mem_of_getElem? hy))
   simp only [SS,DD,Nat.reduceAdd,List.replicate,ai eG,ae,EX.q6,EX.a8,dd,mQ,sW,az,EX.all]
   refine ax Gn (by simp [EX.pure]) ?_
   by_cases pG:x=y
   . rw [bX pG]
     simp only [SS,DD,Nat.reduceAdd]
     refine ⟨by simp [ar,apart], ?_⟩
     simp only [aq i (by omega)]
     refine ⟨(i+1,nn+1000),⟨by simp only [];omega, ?_⟩,by simp only [];omega,Wk.bc (by simp [Fg]) (by omega)⟩
     exact sX cD hx (pG▸hy)
   . rw [bm pG,Dz hx hy pG]
     simp only [SS,DD,Nat.reduceAdd]
     refine ⟨by simp [ar,apart], ?_⟩
     exact ag▸ab rfl (af.bool _)
 . have dd:decide ((i:Int)<(args.length:Int))=false:=ak (by omega)
   rw [wm hlen cD aN]
   simp only [SS,Nat.reduceAdd,List.replicate,ai eG,ae,EX.q6,EX.a8,dd]
   exact ag▸ab rfl (af.bool _)
end
end Go.VL
end

section
set_option linter.unusedVariables false
set_option linter.unusedVariables false
namespace Go.VL
theorem FX.Gp (X Y:FX):gZ X Y=(gZ X.name Y.name&&gZ X.kind Y.kind&&gZ X.supp Y.supp&&gZ X.aC Y.aC&&gZ X.bG Y.bG):=by
 rw [<- lQ, <- lQ, <- lQ, <- lQ]
 refine AG ⟨fun e=>by rw [e],fun e => ?_⟩
 simp only [Prod.mk.injEq] at e
 cases X;cases Y
 obtain ⟨⟨⟨⟨h1,h2⟩,h3⟩,h4⟩,h5⟩:=e
 simp only at h1 h2 h3 h4 h5
 rw [h1,h2,h3,h4,h5]
theorem UR (x y:Bool):(!(x==y)) = !gZ x y:=by rw [MK]
theorem FX.p0 (Z:FX):part false Z.eJ.av.cells 0 1=some (.str Z.name):=rfl
theorem FX.p1 (Z:FX):part false Z.eJ.av.cells 1 1=some (.int .i64 Z.kind):=rfl
theorem FX.p2 (Z:FX):part false Z.eJ.av.cells 2 1=some (.sl 1 (Z.aC.map .str)):=rfl
theorem FX.p3 (Z:FX):part false Z.eJ.av.cells 3 1=some (.sl 7 (EX.kY Z.bG)):=rfl
theorem FX.p4 (Z:FX):part false Z.eJ.av.cells 4 1=some (.bool Z.supp):=rfl
section
variable {P:Program} {G:Nat->Option (List AV)}
set_option maxHeartbeats 1000000 in
theorem DB {f fe:FuncId} (h:Has P f (eD fe)) (he:∀ e:EX,e.Ok->∀ e':EX,e'.Ok->VP P G fe [e.av,e'.av] (.bool (gZ e e'))) (X Y:FX) (hX:X.Ok) (hY:Y.Ok) :
   VP P G f [X.eJ.av,Y.eJ.av] (.bool (gZ X Y)):=by
 have eG:([0]:List Nat)≠[1]:=by decide
 have Lh:=hX.ins
 have uA:=hX.vl
 rw [FX.Gp]
 have d0:=Dy X.name Y.name
 have d1:=Sd X.kind Y.kind
 have d2:=UR X.supp Y.supp
 have d3:=wj X.aC.length Y.aC.length
 have d4:=wj X.bG.length Y.bG.length
 generalize gZ X.name Y.name=a0 at d0 ⊢
 generalize gZ X.kind Y.kind=a1 at d1 ⊢
 generalize gZ X.supp Y.supp=a2 at d2 ⊢
 refine VP.has h ?_
 simp only [eD,SS,Nat.reduceAdd,bP.one,ai eG,ae,FX.p0,d0]
 cases a0
 . simp only [SS,Nat.reduceAdd,Bool.false_and]
   exact ag▸ab rfl (af.bool _)
 simp only [SS,Nat.reduceAdd,ai eG,ae,FX.p1,d1]
 cases a1
 . simp only [SS,Nat.reduceAdd,Bool.false_and,Bool.true_and]
   exact ag▸ab rfl (af.bool _)
 simp only [SS,Nat.reduceAdd,ai eG,ae,FX.p4,d2]
 cases a2
 . simp only [SS,Nat.reduceAdd,Bool.false_and,Bool.true_and]
   exact ag▸ab rfl (af.bool _)
 simp only [SS,Nat.reduceAdd,ai eG,ae,FX.p2,List.length_map,d3]
 by_cases hlen:X.aC.length=Y.aC.length
 case neg =>
   rw [bm hlen,zt hlen]
   simp only [SS,Nat.reduceAdd,Bool.false_and,Bool.true_and]
   exact ag▸ab rfl (af.bool _)
 rw [bX hlen]
 simp only [SS,Nat.reduceAdd,ai eG,ae,FX.p3,EX.a8,d4]
 by_cases xi:X.bG.length=Y.bG.length
 case neg =>
   rw [bm xi,zt (l:=X.bG) xi]
   simp only [SS,Nat.reduceAdd,Bool.and_false]
   exact ag▸ab rfl (af.bool _)
 rw [bX xi]
 simp only [SS,Nat.reduceAdd,Bool.true_and,aE]
 refine VW.bR (α := Nat × Nat) (fun x=>⟨[X.eJ.av,Y.eJ.av, .ref [0] 0 0, .ref [1] 0 0, .bool false, .int .i64 (x.1:Int)]++List.replicate 75 .top,aa.put (aa.put (fun _=>none) [0] (some ⟨[X.eJ.av],5,false⟩)) [1] (some ⟨[Y.eJ.av],5,false⟩),x.2⟩)
   (fun x=>x.1<=X.aC.length/\X.aC.take x.1=Y.aC.take x.1) (fun x=>X.aC.length-x.1) (0,1000) ?_ ⟨Nat.zero_le _,by simp⟩ ?_
 . exact Wk.bc (by simp [Fg,List.replicate]) (by omega)
 rintro ⟨i,nn⟩ ⟨hi,cD⟩
 simp only [] at hi cD
 by_cases aN:i<X.aC.length
 . obtain ⟨x,hx⟩:∃ x,X.aC[i]? = some x:=⟨_,List.getElem?_eq_getElem aN⟩
   obtain ⟨y,hy⟩:∃ y,Y.aC[i]? = some y:=⟨_,List.getElem?_eq_getElem (by omega)⟩
   have dd:decide ((i:Int)<(X.aC.length:Int))=true:=an (by omega)
   have AD:(X.aC.map AV.str)[i]? = some (.str x):=by rw [List.getElem?_map,hx];rfl
   have Ed:(Y.aC.map AV.str)[i]? = some (.str y):=by rw [List.getElem?_map,hy];rfl
   have BT:∀ z,part false (AV.str z).cells 0 1=some (.str z):=fun z=>rfl
   have mQ:bz 1 (.sl 1 (X.aC.map AV.str)) (.int .i64 (i:Int))=some (.ep (AV.str x).cells 0):=aS rfl AD
   have sW:bz 1 (.sl 1 (Y.aC.map AV.str)) (.int .i64 (i:Int))=some (.ep (AV.str y).cells 0):=aS rfl Ed
   have dxy:=Dy x y
   simp only [SS,DD,Nat.reduceAdd,List.replicate,ai eG,ae,FX.p2,List.length_map,dd,mQ,sW,az,BT,dxy]
   refine ⟨by simp [ar,apart], ?_⟩
   by_cases pG:x=y
   . rw [bX pG]
     simp only [SS,Nat.reduceAdd,aq i (by omega)]
     refine ⟨(i+1,nn+1000),⟨by simp only [];omega, ?_⟩,by simp only [];omega,Wk.bc (by simp [Fg]) (by omega)⟩
     exact sX cD hx (pG▸hy)
   . rw [bm pG,Dz hx hy pG]
     simp only [SS,Bool.false_and]
     exact ag▸ab rfl (af.bool _)
 have dd:decide ((i:Int)<(X.aC.length:Int))=false:=ak (by omega)
 rw [wm hlen cD aN]
 simp only [SS,Nat.reduceAdd,List.replicate,ai eG,ae,FX.p2,List.length_map,dd,Bool.true_and,aE]
 clear aN cD dd hi
 refine VW.bR (α := Nat × Nat) (fun x=>⟨[X.eJ.av,Y.eJ.av, .ref [0] 0 0, .ref [1] 0 0, .bool false, .top, .int .i64 (x.1:Int)]++List.replicate 74 .top,aa.put (aa.put (fun _=>none) [0] (some ⟨[X.eJ.av],5,false⟩)) [1] (some ⟨[Y.eJ.av],5,false⟩),x.2⟩)
   (fun x=>x.1<=X.bG.length/\X.bG.take x.1=Y.bG.take x.1) (fun x=>X.bG.length-x.1) (0,nn+1000) ?_ ⟨Nat.zero_le _,by simp⟩ ?_
 . exact Wk.bc (by simp [Fg,List.replicate]) (by omega)
 rintro ⟨j,mm⟩ ⟨hi,cD⟩
 simp only [] at hi cD
 by_cases aN:j<X.bG.length
 . obtain ⟨x,hx⟩:∃ x,X.bG[j]? = some x:=⟨_,List.getElem?_eq_getElem aN⟩
   obtain ⟨y,hy⟩:∃ y,Y.bG[j]? = some y:=⟨_,List.getElem?_eq_getElem (by omega)⟩
   have dd:decide ((j:Int)<(X.bG.length:Int))=true:=an (by omega)
   have AD:(EX.kY X.bG)[j]? = some x.av:=by rw [EX.cJ,List.getElem?_map,hx];rfl
   have Ed:(EX.kY Y.bG)[j]? = some y.av:=by rw [EX.cJ,List.getElem?_map,hy];rfl
   have mQ:bz 7 (.sl 7 (EX.kY X.bG)) (.int .i64 (j:Int))=some (.ep x.av.cells 0):=aS rfl AD
   have sW:bz 7 (.sl 7 (EX.kY Y.bG)) (.int .i64 (j:Int))=some (.ep y.av.cells 0):=aS rfl Ed
   have Gn:=he x (hX.bG x (List.mem_of_getElem? hx)) y (hY.bG y (List.mem_of_getElem? hy))
   simp only [SS,DD,Nat.reduceAdd,List.replicate,ai eG,ae,FX.p3,EX.a8,dd,mQ,sW,az,EX.all]
   refine ax Gn (by simp [EX.pure]) ?_
   by_cases pG:x=y
   . rw [bX pG]
     simp only [SS,DD,Nat.reduceAdd]
     refine ⟨by simp [ar,apart], ?_⟩
     simp only [aq j (by omega)]
     refine ⟨(j+1,mm+1000),⟨by simp only [];omega, ?_⟩,by simp only [];omega,Wk.bc (by simp [Fg]) (by omega)⟩
     exact sX cD hx (pG▸hy)
   . rw [bm pG,Dz hx hy pG]
     simp only [SS,DD,Nat.reduceAdd]
     refine ⟨by simp [ar,apart], ?_⟩
     exact ag▸ab rfl (af.bool _)
 . have dd:decide ((j:Int)<(X.bG.length:Int))=false:=ak (by omega)
   rw [wm xi cD aN]
   simp only [SS,Nat.reduceAdd,List.replicate,ai eG,ae,FX.p3,EX.a8,dd]
   exact ag▸ab rfl (af.bool _)
theorem FX.j7 (X:FX):∀ c∈X.av.cells,af c:=by
 intro c hc
 simp [FX.av,FX.eJ,bP.av,AV.cells] at hc
 rcases hc with rfl | rfl | rfl | rfl | rfl
 . exact af.str _
 . exact af.int _ _
 . exact gY _
 . exact EX.eM _
 . exact af.bool _
def du (l:List FX):AV := .sl 5 (l.map FX.av)
theorem mu (l:List FX):jN false (du l)=some (.int .i64 (l.length:Int)):=by simp [du,jN]
theorem dx (l:List FX):af (du l):=af.sl (by
 intro c hc
 simp only [flat,List.mem_flatMap,List.mem_map] at hc
 obtain ⟨v,⟨X,_,rfl⟩,hc⟩:=hc
 exact FX.j7 X c hc)
theorem FX.whole (X:FX):part true X.av.cells 0 5=some X.av:=rfl
theorem US {f fs:FuncId} (h:Has P f (iq fs)) (l m:List FX) (hl:l.length<=9223372036854775807) (hm:m.length<=9223372036854775807) (hs:∀ X∈l,∀ Y∈m,VP P G fs [X.av,Y.av] (.bool (gZ X Y))):VP P G f [du l,du m] (.bool (gZ l m)):=by
 have d0:=wj l.length m.length
 refine VP.has h ?_
 simp only [iq,SS,Nat.reduceAdd,mu,d0]
 by_cases hlen:l.length=m.length
 case neg =>
   rw [bm hlen,zt hlen]
   simp only [SS,Nat.reduceAdd]
   exact ag▸ab rfl (af.bool _)
 rw [bX hlen]
 simp only [SS,Nat.reduceAdd,aE]
 refine VW.bR (α := Nat × Nat) (fun x=>⟨[du l,du m, .top, .top, .bool false, .int .i64 (x.1:Int)]++List.replicate 21 .top,fun _=>none,x.2⟩)
   (fun x=>x.1<=l.length/\l.take x.1=m.take x.1) (fun x=>l.length-x.1) (0,1000) ?_ ⟨Nat.zero_le _,by simp⟩ ?_
 . exact Wk.bc (by simp [Fg,List.replicate]) (by omega)
 rintro ⟨i,nn⟩ ⟨hi,cD⟩
 simp only [] at hi cD
 by_cases aN:i<l.length
 . obtain ⟨x,hx⟩:∃ x,l[i]? = some x:=⟨_,List.getElem?_eq_getElem aN⟩
   obtain ⟨y,hy⟩:∃ y,m[i]? = some y:=⟨_,List.getElem?_eq_getElem (by omega)⟩
   have dd:decide ((i:Int)<(l.length:Int))=true:=an (by omega)
   have AD:(l.map FX.av)[i]? = some x.av:=by rw [List.getElem?_map,hx];rfl
   have Ed:(m.map FX.av)[i]? = some y.av:=by rw [List.getElem?_map,hy];rfl
   have mQ:bz 5 (du l) (.int .i64 (i:Int))=some (.ep x.av.cells 0):=aS rfl AD
   have sW:bz 5 (du m) (.int .i64 (i:Int))=some (.ep y.av.cells 0):=aS rfl Ed
   have Gn:=hs x (List.mem_of_getElem? hx) y (List.mem_of_getElem? hy)
   have hp:∀ X:FX,af X.av:=FX.pure
   simp only [SS,DD,Nat.reduceAdd,List.replicate,mu,dd,mQ,sW,az,FX.whole]
   refine ax Gn (by simp [hp]) ?_
   by_cases pG:x=y
   . rw [bX pG]
     simp only [SS,DD,Nat.reduceAdd]
     refine ⟨by simp [ar,apart], ?_⟩
     simp only [aq i (by omega)]
     refine ⟨(i+1,nn+1000),⟨by simp only [];omega, ?_⟩,by simp only [];omega,Wk.bc (by simp [Fg]) (by omega)⟩
     exact sX cD hx (pG▸hy)
   . rw [bm pG,Dz hx hy pG]
     simp only [SS,DD,Nat.reduceAdd]
     refine ⟨by simp [ar,apart], ?_⟩
     exact ag▸ab rfl (af.bool _)
 . have dd:decide ((i:Int)<(l.length:Int))=false:=ak (by omega)
   rw [wm hlen cD aN]
   simp only [SS,Nat.reduceAdd,List.replicate,mu,dd]
   exact ag▸ab rfl (af.bool _)
end
end Go.VL
end

section
set_option linter.unusedVariables false
set_option linter.unusedVariables false
namespace Go.VL
theorem fN {σ : aa} {id:Id} {x v y:AV} {k o:Nat} (h : σ id=some ⟨[x],k,false⟩) (hv:v.cells=[v]) (h1:v.one=true) (ho:o+1<=x.size) (hu:x.s9 o [v]=y) :
   eO σ 1 (.ref id 0 o) v=some { val := .tup [],rd:=[id],up:=[(id,some ⟨[y],k,false⟩)] }:=by
 rw [cE (n:=1) (v:=v) (els:=[x]) (el:=x) (k:=k) h rfl (by rw [hv];rfl) ho (by rw [hv];simpa using h1),hv,hu]
 rfl
theorem lF {q:Id} {k len i:Nat} {t:Bool} (h:i<len):bz k (.osl q k 0 len t) (.int .i64 (i:Int))=some (.ref q i 0):=by
 simp only [bz]
 rw [if_pos ⟨trivial,by omega,by omega⟩]
 simp
theorem ux {σ : aa} {q:Id} {k i:Nat} {els:List AV} {x y:AV} (h : σ q=some ⟨els,k,false⟩) (hi:els[i]? = some x) (hy:y.cells.length=k) (hx:x.size=k) (h1:y.cells.all AV.one=true) (hu:x.s9 0 y.cells=y) :
   eO σ k (.ref q i 0) y=some { val := .tup [],rd:=[q],up:=[(q,some ⟨els.set i y,k,false⟩)] }:=by
 rw [cE (n:=k) (v:=y) h hi hy (by omega) h1,hu]
theorem DC {α : Type} {l:List α} {i:Nat} {x : α} (h:l[i]? = some x):l.set i x=l:=by
 obtain ⟨hi,rfl⟩:=List.getElem?_eq_some_iff.1 h
 exact List.set_getElem_self hi
def ya (op:Int) (n1:Bool) (w1:List Nat) (n2:Bool) (w2:List Nat) (nm:List UInt8) (x:AV):AV := .agg [.int .i64 op, .bool n1, .sl 1 (us w1), .bool n2, .sl 1 (us w2), .str nm,x]
section
variable (op:Int) (n1:Bool) (w1:List Nat) (n2:Bool) (w2:List Nat) (nm:List UInt8) (args:List EX) (x y:AV)
theorem EX.q2:part false (EX.mk op n1 w1 n2 w2 nm args).av.cells 2 1=some (.sl 1 (us w1)):=by rw [EX.av];rfl
theorem EX.q4:part false (EX.mk op n1 w1 n2 w2 nm args).av.cells 4 1=some (.sl 1 (us w2)):=by rw [EX.av];rfl
theorem EX.u2:(EX.mk op n1 w1 n2 w2 nm args).av.s9 2 [.sl 1 (us w1)]=(EX.mk op n1 w1 n2 w2 nm args).av:=by rw [EX.av];rfl
theorem EX.u4:(EX.mk op n1 w1 n2 w2 nm args).av.s9 4 [.sl 1 (us w2)]=(EX.mk op n1 w1 n2 w2 nm args).av:=by rw [EX.av];rfl
theorem EX.u6:(EX.mk op n1 w1 n2 w2 nm args).av.s9 6 [x]=ya op n1 w1 n2 w2 nm x:=by rw [EX.av];rfl
theorem ya.eq:ya op n1 w1 n2 w2 nm (.sl 7 (EX.kY args))=(EX.mk op n1 w1 n2 w2 nm args).av:=by rw [EX.av];rfl
theorem ya.q6 (h:x.cells=[x]):part false (ya op n1 w1 n2 w2 nm x).cells 6 1=some x:=by simp [ya,AV.cells,part]
theorem ya.all:part true (ya op n1 w1 n2 w2 nm x).cells 0 7=some (ya op n1 w1 n2 w2 nm x):=rfl
theorem ya.one (h:x.one=true):(ya op n1 w1 n2 w2 nm x).cells.all AV.one=true:=by simp [ya,AV.cells,AV.one] at h ⊢;exact h
theorem ya.s9:(AV.agg [.int .i64 0, .bool false, .nils, .bool false, .nils, .str [], .nils]).s9 0 (ya op n1 w1 n2 w2 nm x).cells=ya op n1 w1 n2 w2 nm x:=rfl
theorem ya.view {σ : aa} (h:View σ x y):View σ (ya op n1 w1 n2 w2 nm x) (ya op n1 w1 n2 w2 nm y) :=
 View.agg (.cons (View.pure (af.int _ _)) (.cons (View.pure (af.bool _)) (.cons (View.pure (kU _)) (.cons (View.pure (af.bool _)) (.cons (View.pure (kU _)) (.cons (View.pure (af.str _)) (.cons h .nil)))))))
end
theorem n8 {q:Id} {k o len:Nat} {t:Bool}:(AV.osl q k o len t).cells=[.osl q k o len t]:=rfl
section
variable {P:Program} {G:Nat->Option (List AV)}
theorem DE {f:FuncId} (h:Has P f bf) {l:List EX} (bY:l≠[]) (hl:l.length*112<=140737488355328) (p:Id) :
   aB P G f [.sl 7 (EX.kY l)] p [] { val := .osl (5::p) 7 0 l.length false,rd:=[],up:=[(5::p,some ⟨EX.kY l,7,false⟩)] }:=by
 refine aB.has h ?_
 have hb:∀ (σ : aa) (p:Id),cl σ p (.buildSl 7 0 (.agg [(.int .i64 (0)),(.bool false), .nils,(.bool false), .nils,(.str []), .nils]) [])=some { val := .tsl 7 [] }:=fun σ p=>TS rfl rfl
 have xz:(EX.kY l).all (fun e=>e.cells.all AV.one)=true:=by
   rw [EX.cJ,List.all_eq_true];intro e he;obtain ⟨x,_,rfl⟩:=List.mem_map.1 he;exact of_eq_true (EX.one x)
 have S0:=EX.a8 l
 cases l with
 | nil=>exact absurd rfl bY
 | cons F l =>
   simp only [EX.kY] at xz S0 ⊢
   simp only [bf,SS,Nat.reduceAdd,hb]
   rw [gU (es:=[]) e9 (by simp) (by rw [S0];simpa using hl) (cO (by rw [S0];simp at hl ⊢;omega)) (by simpa using xz)]
   simp only [SS,Nat.reduceAdd]
   rw [List.length_cons] at S0
   refine aU▸aA (by simp [bU,cy];exact Nat.succ.inj S0) fun i => ?_
   by_cases hi:i=5::p
   . right;subst hi;simp [aa.app,aa.put]
   . left;simp [aa.app,aa.put,hi,aa.of]
set_option maxHeartbeats 1000000 in
theorem Gq {f fu fe:FuncId} (h:Has P f (lX fu fe f)) (hu:∀ ws:List Nat,ws.length<=1000->VP P G fu [.sl 1 (us ws)] (.sl 1 (us ws)))
   (he:Has P fe bf):∀ e:EX,e.nu=true->e.nodes<=1000->VP P G f [e.av] e.av:=EX.induct fun op n1 w1 n2 w2 nm args ih YL Ac=>by
 have yl:EX.cX args<=999:=by rw [EX.nodes] at Ac;omega
 have aea:args.length<=999:=Nat.le_trans (EX.Dt args) yl
 obtain ⟨V8,mR,uC,aeb⟩:=EX.ur YL
 have eG:([0]:List Nat)≠[1]:=by decide
 have VE:=hu w1 (by omega)
 have ZS:=hu w2 (by omega)
 have uD:=EX.size (EX.mk op n1 w1 n2 w2 nm args)
 have hih:∀ x∈args,VP P G f [x.av] x.av:=fun x hx=>ih x hx (V8 x hx) (by have:=EX.sP hx;omega)
 have z1:(AV.agg [.int .i64 0, .bool false, .nils, .bool false, .nils, .str [], .nils]).cells.all AV.one=true:=by simp [AV.cells,AV.one]
 have s2:∀ σ : aa, σ [0]=some ⟨[(EX.mk op n1 w1 n2 w2 nm args).av],(EX.mk op n1 w1 n2 w2 nm args).av.size,false⟩->eO σ 1 (.ref [0] 0 2) (.sl 1 (us w1))=some { val := .tup [],rd:=[[0]],up:=[([0],some ⟨[(EX.mk op n1 w1 n2 w2 nm args).av],(EX.mk op n1 w1 n2 w2 nm args).av.size,false⟩)] } :=
   fun σ hs=>fN hs rfl rfl (by rw [uD];omega) (EX.u2 ..)
 have s4:∀ σ : aa, σ [0]=some ⟨[(EX.mk op n1 w1 n2 w2 nm args).av],(EX.mk op n1 w1 n2 w2 nm args).av.size,false⟩->eO σ 1 (.ref [0] 0 4) (.sl 1 (us w2))=some { val := .tup [],rd:=[[0]],up:=[([0],some ⟨[(EX.mk op n1 w1 n2 w2 nm args).av],(EX.mk op n1 w1 n2 w2 nm args).av.size,false⟩)] } :=
   fun σ hs=>fN hs rfl rfl (by rw [uD];omega) (EX.u4 ..)
 refine VP.has h ?_
 simp only [lX,SS,DD,Nat.reduceAdd,EX.one,z1,ai eG,ae,EX.q2]
 refine ax VE (by simp [kU]) ?_
 simp only [SS,DD,Nat.reduceAdd,ai eG,ae,EX.q4]
 refine ax ZS (by simp [kU]) ?_
 simp only [SS,DD,Nat.reduceAdd]
 rw [s2 _ (by simp [aa.put])]
 simp only [SS,DD,Nat.reduceAdd]
 rw [s4 _ (by simp [aa.put])]
 simp only [SS,DD,Nat.reduceAdd]
 refine ⟨by simp [ar,apart], ?_⟩
 simp only [SS,Nat.reduceAdd,ae,EX.q6]
 by_cases ha:args=[]
 . subst ha
   have hE:VP P G fe [.sl 7 (EX.kY [])] (.sl 7 (EX.kY [])):=ic (G:=G) he (es:=[]) (by simp) rfl (by simp [flat]) (by simp)
   refine aj hE (by intro x hx;rw [List.mem_singleton] at hx;subst hx;exact EX.eM []) ?_
   simp only [SS,Nat.reduceAdd]
   rw [fN (x:=(EX.mk op n1 w1 n2 w2 nm []).av) (y:=(EX.mk op n1 w1 n2 w2 nm []).av) (k:=(EX.mk op n1 w1 n2 w2 nm []).av.size) (by simp [aa.put]) rfl rfl (by rw [uD];omega) ((EX.u6 op n1 w1 n2 w2 nm [] _).trans (ya.eq op n1 w1 n2 w2 nm []))]
   simp only [SS,Nat.reduceAdd,ae,EX.q6,EX.kY,aE]
   refine VW.once ?_
   simp only [SS,Nat.reduceAdd,zz]
   simp only [ae,EX.all,SS,Nat.reduceAdd]
   rw [MF (by simp [aa.put];rfl)]
   simp only [SS,Nat.reduceAdd]
   refine ag▸ab (r:=(EX.mk op n1 w1 n2 w2 nm []).av) ?_ (EX.pure _)
   simp only [RS,bU,cy,ae,EX.all]
 . refine ⟨_,_,DE he ha (by omega) _,by simp,by simp, ?_⟩
   simp only [SS,Nat.reduceAdd]
   rw [fN (x:=(EX.mk op n1 w1 n2 w2 nm args).av) (k:=(EX.mk op n1 w1 n2 w2 nm args).av.size) (by simp [aa.put]) rfl rfl (by rw [uD];omega) (EX.u6 ..)]
   simp only [SS,Nat.reduceAdd,ae,ya.q6 _ _ _ _ _ _ _ n8,aE]
   refine VW.bR (α := Nat × Nat) (fun x=>⟨[(EX.mk op n1 w1 n2 w2 nm args).av, .ref [0] 0 0, .ref [1] 0 0]++List.replicate 23 .top++[.int .i64 (args.length:Int), .int .i64 (x.1:Int)]++List.replicate 14 .top,
       aa.put (aa.put (aa.put (fun _=>none) [0] (some ⟨[ya op n1 w1 n2 w2 nm (.osl [5,22] 7 0 args.length false)],7,false⟩)) [1] (some ⟨[.agg [.int .i64 0, .bool false, .nils, .bool false, .nils, .str [], .nils]],7,false⟩)) [5,22] (some ⟨EX.kY args,7,false⟩),x.2⟩)
     (fun x=>x.1<=args.length) (fun x=>args.length-x.1) (0,1000) ?_ (Nat.zero_le _) ?_
   . refine Wk.forget (by simp [Fg,List.replicate]) (fun j => ?_) (by omega)
     by_cases h0:j=[0]
     . subst h0;right;simp [aa.put,uD]
     by_cases h1:j=[1]
     . subst h1;right;simp [aa.put];rfl
     by_cases h2:j=[5,22]
     . subst h2;right;simp [aa.put]
     . left;simp [aa.put,h0,h1,h2]
   rintro ⟨i,nn⟩ hi
   simp only [] at hi
   have k0:([0]:List Nat)≠[5,22]:=by decide
   have k1:([1]:List Nat)≠[5,22]:=by decide
   by_cases aN:i<args.length
   . obtain ⟨x,hx⟩:∃ x,args[i]? = some x:=⟨_,List.getElem?_eq_getElem aN⟩
     have dd:decide ((i:Int)<(args.length:Int))=true:=an (by omega)
     have hg:(EX.kY args)[i]? = some x.av:=by rw [EX.cJ,List.getElem?_map,hx];rfl
     have Uf:∀ σ : aa,gi (σ.put [5,22] (some ⟨EX.kY args,7,false⟩)) true 7 (.ref [5,22] i 0)=some { val:=x.av,rd:=[[5,22]] }:=fun σ => by
       rw [mJ (aa.bd _ _ _) hg,EX.all];rfl
     have Yz:=hih x (List.mem_of_getElem? hx)
     simp only [SS,DD,Nat.reduceAdd,List.replicate,dd,ai eG,ai k0,ae,ya.q6 _ _ _ _ _ _ _ n8,lF aN,Uf]
     refine ax Yz (by simp [EX.pure]) ?_
     simp only [SS,DD,Nat.reduceAdd,lF aN]
     rw [ux (x:=x.av) (aa.bd _ _ _) hg (EX.size x) (EX.size x) (of_eq_true (EX.one x)) (by cases x;rw [EX.av];rfl),DC hg]
     simp only [SS,DD,Nat.reduceAdd]
     refine ⟨by simp [ar,apart], ?_⟩
     simp only [aq i (by omega)]
     refine ⟨(i+1,nn+1000),by simp only [];omega,by simp only [];omega,Wk.forget (by simp [Fg]) (fun j => .inr ?_) (by omega)⟩
     by_cases h2:j=[5,22]
     . subst h2;simp [aa.put]
     . simp [aa.put,h2]
   . have dd:decide ((i:Int)<(args.length:Int))=false:=ak (by omega)
     have jf:i=args.length:=by omega
     simp only [SS,Nat.reduceAdd,List.replicate,dd,ai eG,ai k0,ae,ya.all]
     rw [cE (n:=7) (v:=ya op n1 w1 n2 w2 nm (.osl [5,22] 7 0 args.length false)) (els:=[.agg [.int .i64 0, .bool false, .nils, .bool false, .nils, .str [], .nils]]) (el := .agg [.int .i64 0, .bool false, .nils, .bool false, .nils, .str [], .nils]) (k:=7) (by simp [aa.put]) rfl rfl (by simp [AV.size,AV.cells]) (ya.one _ _ _ _ _ _ _ rfl),ya.s9]
     simp only [SS,Nat.reduceAdd]
     rw [<- ya.eq]
     refine ag▸⟨ya op n1 w1 n2 w2 nm (.osl [5,22] 7 0 args.length false), ?_,ya.view _ _ _ _ _ _ _ _ (View.osl (bk:=⟨EX.kY args,7,false⟩) (by simp [aa.put]) rfl (by simp [EX.a8]) ?_ (EX.a8 _) (fun d hd => ?_))⟩
     . simp only [RS,bU,cy,ae,ya.all]
     . have e:(EX.kY args).take args.length=EX.kY args:=List.take_of_length_le (by rw [EX.a8];exact Nat.le_refl _)
       simp only [List.drop_zero,e]
       refine aY.pure fun c hc => ?_
       simp only [flat,List.mem_flatMap] at hc
       obtain ⟨v,hv,hc⟩:=hc
       rw [EX.cJ] at hv
       obtain ⟨y,_,rfl⟩:=List.mem_map.1 hv
       exact EX.j7 y c hc
     . rw [EX.cJ] at hd
       obtain ⟨y,_,rfl⟩:=List.mem_map.1 hd
       exact EX.size y
end
end Go.VL
end

section
set_option linter.unusedVariables false
set_option linter.unusedVariables false
namespace Go.VL
def yb (X:FX) (x:AV):AV := .agg [.str X.name, .int .i64 X.kind,strs X.aC,x, .bool X.supp]
theorem yb.eq (X:FX):yb X (.sl 7 (EX.kY X.bG))=X.av:=rfl
theorem yb.q3 (X:FX) {x:AV} (h:x.cells=[x]):part false (yb X x).cells 3 1=some x:=by simp [yb,AV.cells,part]
theorem yb.all (X:FX) (x:AV):part true (yb X x).cells 0 5=some (yb X x):=rfl
theorem yb.one (X:FX) (x:AV) (h:x.one=true):(yb X x).cells.all AV.one=true:=by simp [yb,AV.cells,AV.one,strs] at h ⊢;exact h
theorem yb.s9 (X:FX) (x:AV):(AV.agg [.str [], .int .i64 0, .nils, .nils, .bool false]).s9 0 (yb X x).cells=yb X x:=rfl
theorem yb.view {σ : aa} (X:FX) {x y:AV} (h:View σ x y):View σ (yb X x) (yb X y) :=
 View.agg (.cons (View.pure (af.str _)) (.cons (View.pure (af.int _ _)) (.cons (View.pure (gY _)) (.cons h (.cons (View.pure (af.bool _)) .nil)))))
theorem FX.u2 (X:FX):X.av.s9 2 [strs X.aC]=X.av:=rfl
theorem FX.u3 (X:FX) (x:AV):X.av.s9 3 [x]=yb X x:=rfl
theorem FX.one (X:FX):(X.av.cells.all AV.one=true)=True:=bP.one X.eJ
theorem FX.sz (X:FX):X.av.size=5:=rfl
theorem FX.c2 (Z:FX):part false Z.av.cells 2 1=some (strs Z.aC):=rfl
theorem FX.c3 (Z:FX):part false Z.av.cells 3 1=some (.sl 7 (EX.kY Z.bG)):=rfl
theorem FX.c0 (Z:FX):part false Z.av.cells 0 1=some (.str Z.name):=rfl
theorem FX.c4 (Z:FX):part false Z.av.cells 4 1=some (.bool Z.supp):=rfl
theorem mD (l:List (List UInt8)):(strs l).cells=[strs l]:=rfl
section
variable {P:Program} {G:Nat->Option (List AV)}
set_option maxHeartbeats 1000000 in
theorem Ou {f fs fe fx:FuncId} (h:Has P f (mq fs fe fx)) (X:FX) (hv:X.bG.length<=1000) (hs:VP P G fs [strs X.aC] (strs X.aC)) (he:Has P fe bf)
   (hx:∀ e∈X.bG,VP P G fx [e.av] e.av):VP P G f [X.av] X.av:=by
 have eG:([0]:List Nat)≠[1]:=by decide
 have z1:=je
 refine VP.has h ?_
 simp only [mq,SS,DD,Nat.reduceAdd,FX.one,z1,ai eG,ae,FX.c2]
 refine ax hs (by simp [gY]) ?_
 simp only [SS,DD,Nat.reduceAdd,ai eG,ae,FX.c3]
 by_cases ha:X.bG=[]
 . have hE:=ic (G:=G) he (es:=[]) (by simp) rfl (by simp [flat]) (by simp)
   have e3:EX.kY X.bG=[]:=by rw [ha];rfl
   rw [e3]
   refine ax hE (by intro x hx;rw [List.mem_singleton] at hx;subst hx;exact EX.eM []) ?_
   simp only [SS,DD,Nat.reduceAdd]
   rw [fN (x:=X.av) (y:=X.av) (k:=X.av.size) (by simp [aa.put]) (mD _) rfl (by rw [FX.sz];omega) (FX.u2 X)]
   simp only [SS,DD,Nat.reduceAdd]
   rw [fN (x:=X.av) (y:=X.av) (k:=X.av.size) (by simp [aa.put]) rfl rfl (by rw [FX.sz];omega) (by rw [FX.u3, <- yb.eq,e3])]
   simp only [SS,DD,Nat.reduceAdd]
   refine ⟨by simp [ar,apart], ?_⟩
   simp only [SS,Nat.reduceAdd,ae,FX.c3,e3,aE]
   refine VW.once ?_
   simp only [SS,Nat.reduceAdd,zz]
   simp only [ae,FX.whole,SS,Nat.reduceAdd]
   rw [cE (n:=5) (v:=X.av) (els:=[.agg [(.str []),(.int .i64 (0)), .nils, .nils,(.bool false)]]) (el := .agg [(.str []),(.int .i64 (0)), .nils, .nils,(.bool false)]) (k:=5) (by simp [aa.put,AV.size,AV.cells]) rfl rfl (by simp [AV.size,AV.cells]) (by rw [FX.one];trivial)]
   simp only [SS,Nat.reduceAdd]
   have el:∀ (σ : aa) (x:AV) (k:Nat),gi (σ.put [1] (some ⟨[x],k,false⟩)) true 5 (.ref [1] 0 0)=(part true x.cells 0 5).map fun v=>{ val:=v,rd:=[[1]] }:=fun σ x k=>ae
   refine ag▸ab (r:=X.av) ?_ (FX.pure X)
   simp only [RS,bU,cy,el]
   rfl
 . have oq:0<X.bG.length:=List.length_pos_iff.2 ha
   refine ⟨_,_,DE he ha (by omega) _,by simp,by simp, ?_⟩
   simp only [SS,DD,Nat.reduceAdd]
   rw [fN (x:=X.av) (y:=X.av) (k:=X.av.size) (by simp [aa.put]) (mD _) rfl (by rw [FX.sz];omega) (FX.u2 X)]
   simp only [SS,DD,Nat.reduceAdd]
   rw [fN (x:=X.av) (k:=X.av.size) (by simp [aa.put]) rfl rfl (by rw [FX.sz];omega) (FX.u3 X _)]
   simp only [SS,DD,Nat.reduceAdd]
   refine ⟨by simp [ar,apart], ?_⟩
   simp only [SS,Nat.reduceAdd,ae,yb.q3 _ n8,aE]
   refine VW.bR (α := Nat × Nat) (fun x=>⟨[X.av, .ref [0] 0 0, .ref [1] 0 0]++List.replicate 11 .top++[.int .i64 (X.bG.length:Int), .int .i64 (x.1:Int)]++List.replicate 14 .top,
       aa.put (aa.put (aa.put (fun _=>none) [0] (some ⟨[yb X (.osl [5,7] 7 0 X.bG.length false)],5,false⟩)) [1] (some ⟨[.agg [.str [], .int .i64 0, .nils, .nils, .bool false]],5,false⟩)) [5,7] (some ⟨EX.kY X.bG,7,false⟩),x.2⟩)
     (fun x=>x.1<=X.bG.length) (fun x=>X.bG.length-x.1) (0,1000) ?_ (Nat.zero_le _) ?_
   . refine Wk.forget (by simp [Fg,List.replicate]) (fun j => ?_) (by omega)
     by_cases h0:j=[0]
     . subst h0;right;simp [aa.put,FX.sz]
     by_cases h1:j=[1]
     . subst h1;right;simp [aa.put];rfl
     by_cases h2:j=[5,7]
     . subst h2;right;simp [aa.put]
     . left;simp [aa.put,h0,h1,h2]
   rintro ⟨i,nn⟩ hi
   simp only [] at hi
   have k0:([0]:List Nat)≠[5,7]:=by decide
   have k1:([1]:List Nat)≠[5,7]:=by decide
   by_cases aN:i<X.bG.length
   . obtain ⟨x,hx'⟩:∃ x,X.bG[i]? = some x:=⟨_,List.getElem?_eq_getElem aN⟩
     have dd:decide ((i:Int)<(X.bG.length:Int))=true:=an (by omega)
     have hg:(EX.kY X.bG)[i]? = some x.av:=by rw [EX.cJ,List.getElem?_map,hx'];rfl
     have Uf:∀ σ : aa,gi (σ.put [5,7] (some ⟨EX.kY X.bG,7,false⟩)) true 7 (.ref [5,7] i 0)=some { val:=x.av,rd:=[[5,7]] }:=fun σ => by
       rw [mJ (aa.bd _ _ _) hg,EX.all];rfl
     have Yz:=hx x (List.mem_of_getElem? hx')
     simp only [SS,DD,Nat.reduceAdd,List.replicate,dd,ai eG,ai k0,ae,yb.q3 _ n8,lF aN,Uf]
     refine ax Yz (by simp [EX.pure]) ?_
     simp only [SS,DD,Nat.reduceAdd,lF aN]
     rw [ux (x:=x.av) (aa.bd _ _ _) hg (EX.size x) (EX.size x) (of_eq_true (EX.one x)) (by cases x;rw [EX.av];rfl),DC hg]
     simp only [SS,DD,Nat.reduceAdd]
     refine ⟨by simp [ar,apart], ?_⟩
     simp only [aq i (by omega)]
     refine ⟨(i+1,nn+1000),by simp only [];omega,by simp only [];omega,Wk.forget (by simp [Fg]) (fun j => .inr ?_) (by omega)⟩
     by_cases h2:j=[5,7]
     . subst h2;simp [aa.put]
     . simp [aa.put,h2]
   . have dd:decide ((i:Int)<(X.bG.length:Int))=false:=ak (by omega)
     have jf:i=X.bG.length:=by omega
     simp only [SS,Nat.reduceAdd,List.replicate,dd,ai eG,ai k0,ae,yb.all]
     rw [cE (n:=5) (v:=yb X (.osl [5,7] 7 0 X.bG.length false)) (els:=[.agg [.str [], .int .i64 0, .nils, .nils, .bool false]]) (el := .agg [.str [], .int .i64 0, .nils, .nils, .bool false]) (k:=5) (by simp [aa.put]) rfl rfl (by simp [AV.size,AV.cells]) (yb.one _ _ rfl),yb.s9]
     simp only [SS,Nat.reduceAdd]
     rw [<- yb.eq]
     refine ag▸⟨yb X (.osl [5,7] 7 0 X.bG.length false), ?_,yb.view X (View.osl (bk:=⟨EX.kY X.bG,7,false⟩) (by simp [aa.put]) rfl (by simp [EX.a8]) ?_ (EX.a8 _) (fun d hd => ?_))⟩
     . simp only [RS,bU,cy,ae,yb.all]
     . have e:(EX.kY X.bG).take X.bG.length=EX.kY X.bG:=List.take_of_length_le (by rw [EX.a8];exact Nat.le_refl _)
       simp only [List.drop_zero,e]
       refine aY.pure fun c hc => ?_
       simp only [flat,List.mem_flatMap] at hc
       obtain ⟨v,hv,hc⟩:=hc
       rw [EX.cJ] at hv
       obtain ⟨y,_,rfl⟩:=List.mem_map.1 hv
       exact EX.j7 y c hc
     . rw [EX.cJ] at hd
       obtain ⟨y,_,rfl⟩:=List.mem_map.1 hd
       exact EX.size y
end
end Go.VL
end

section
set_option linter.unusedVariables false
set_option linter.unusedVariables false
namespace Go.VL
def dq (l:List FX) (nm:List UInt8):Int:=xT (l.findIdx? fun X=>X.name==nm)
def gh (l:List FX) (i:Nat):List FX:=l.take i++l.drop (i+1)
def ec (X:FX):List (List UInt8):=if X.valid=true then w7 (X.aC.map fun s=>(eQ s).getD []) else []
def cd (l:List FX):List (List UInt8):=l.map (·.name)
def BU (l:List FX) (i:Nat):Bool:=match l[i]? with
 | none=>true
 | some X=>X.valid && !(cd (l.take i)).contains X.name&&(ec X).all fun n=>(cd (l.take i)).contains n
def ek (l:List FX):Bool:=((List.range l.length).all (BU l))&&decide (l.length<=200)
theorem ny (l:List FX):((l.map FX.av).all fun e=>e.cells.all AV.one)=true:=by
 rw [List.all_eq_true];intro e he;obtain ⟨X,_,rfl⟩:=List.mem_map.1 he;exact of_eq_true (FX.one X)
theorem dX {σ : aa} {id:Id} {l:List FX} {t:Bool} (h : σ id=some ⟨l.map FX.av,5,false⟩):View σ (.osl id 5 0 l.length t) (du l):=by
 refine View.osl (bk:=⟨l.map FX.av,5,false⟩) h rfl (by simp) ?_ (by simp) (fun d hd => ?_)
 . have e:(l.map FX.av).take l.length=l.map FX.av:=List.take_of_length_le (by simp)
   simp only [List.drop_zero,e]
   refine aY.pure fun c hc => ?_
   simp only [flat,List.mem_flatMap] at hc
   obtain ⟨v,hv,hc⟩:=hc
   obtain ⟨y,_,rfl⟩:=List.mem_map.1 hv
   exact FX.j7 y c hc
 . obtain ⟨y,_,rfl⟩:=List.mem_map.1 hd
   rfl
section
variable {P:Program} {G:Nat->Option (List AV)}
theorem I6 {f:FuncId} (h:Has P f iw) (l:List FX) (nm:List UInt8) (hl:l.length<=1000000):VP P G f [du l, .str nm] (.int .i64 (dq l nm)):=by
 refine VP.has h ?_
 simp only [iw,SS,Nat.reduceAdd,aE]
 refine VW.bR (α := Nat × Nat) (fun x=>⟨[du l, .str nm, .top, .top, .int .i64 0, .int .i64 (x.1:Int)]++List.replicate 14 .top,fun _=>none,x.2⟩)
   (fun x=>x.1<=l.length/\∀ (j:Nat) X,j<x.1->l[j]? = some X->(X.name==nm)=false) (fun x=>l.length-x.1) (0,1000) ?_ ⟨Nat.zero_le _,fun j X hj=>absurd hj (Nat.not_lt_zero j)⟩ ?_
 . exact Wk.bc (by simp [Fg,List.replicate]) (by omega)
 rintro ⟨i,nn⟩ ⟨hi,hn⟩
 simp only [] at hi hn
 by_cases aN:i<l.length
 . obtain ⟨X,hX⟩:∃ X,l[i]? = some X:=⟨_,List.getElem?_eq_getElem aN⟩
   have dd:decide ((i:Int)<(l.length:Int))=true:=an (by omega)
   have hg:(l.map FX.av)[i]? = some X.av:=by rw [List.getElem?_map,hX];rfl
   have iB:bz 5 (du l) (.int .i64 (i:Int))=some (.ep X.av.cells 0):=aS rfl hg
   simp only [SS,Nat.reduceAdd,List.replicate,mu,dd,iB,az,FX.c0]
   cases Rk:(X.name==nm)
   . simp only [SS,Nat.reduceAdd,aq i (by omega)]
     refine ⟨(i+1,nn+1000),⟨by simp only [];omega, ?_⟩,by simp only [];omega,Wk.bc (by simp [Fg]) (by omega)⟩
     intro j X' hj xc
     by_cases B2:j<i
     . exact hn j X' B2 xc
     . have:j=i:=by simp only [] at hj;omega
       subst this;rw [hX] at xc;simp only [Option.some.injEq] at xc;subst xc;exact Rk
   . simp only [SS,Nat.reduceAdd]
     rw [dq,px hX Rk hn]
     exact ag▸ab rfl (af.int _ _)
 . have dd:decide ((i:Int)<(l.length:Int))=false:=ak (by omega)
   simp only [SS,Nat.reduceAdd,List.replicate,mu,dd]
   rw [dq,pw (fun j e hj=>hn j e (by have:=(List.getElem?_eq_some_iff.1 hj).1;omega) hj)]
   exact ag▸ab rfl (af.int _ _)
theorem pA {l:List FX} {h:Nat} (hh:h<=l.length):bZ 5 (du l) none (some (.int .i64 (h:Int))) none=some (du (l.take h)):=by
 simp [bZ,cN,dY,du,hh,List.map_take]
theorem pB {l:List FX} {h:Nat} (hh:h<=l.length):bZ 5 (du l) (some (.int .i64 (h:Int))) none none=some (du (l.drop h)):=by
 simp [bZ,cN,dY,du,hh,List.map_drop]
 rw [List.take_of_length_le (by simp)]
theorem Fm {σ : aa} {l:List FX}:dD σ 5 (du l)=some (l.map FX.av,[]):=e9
theorem wJ {σ : aa} {p:Id} {l m:List FX} (hm:m≠[]) (hl:l.length+m.length<=1000000):cg σ p 5 80 (.tsl 5 (l.map FX.av)) (du m)=some { val := .osl p 5 0 (l++m).length false,rd:=[],up:=[(p,some ⟨(l++m).map FX.av,5,false⟩)] }:=by
 have h1:=ny (l++m)
 rw [List.map_append] at h1
 rw [gU Fm (by simpa using hm) (by simp;omega) (cO (by simp;omega)) h1]
 simp
theorem Ca {σ : aa} {p id:Id} {l m:List FX} (h : σ id=some ⟨l.map FX.av,5,false⟩) (hm:m≠[]) (hl:l.length+m.length<=1000000):cg σ p 5 80 (.osl id 5 0 l.length false) (du m)=some { val := .osl p 5 0 (l++m).length false,rd:=[id],up:=[(id,none),(p,some ⟨(l++m).map FX.av,5,false⟩)] }:=by
 rw [lM (els:=l.map FX.av) Fm (by simpa using hm) h (by simp) (by simp;omega) (cO (by simp;omega)) (ny _) (ny _)]
 simp
theorem mj {σ : aa}:dD σ 5 (du [])=some ([],[]):=rfl
theorem UT {f:FuncId} (h:Has P f lf) (l:List FX) (i:Nat) (hi:i<l.length) (hl:l.length<=1000):VP P G f [du l, .int .i64 (i:Int)] (du (gh l i)):=by
 have hb:∀ (σ : aa) (p:Id),cl σ p (.buildSl 5 0 (.agg [(.str []),(.int .i64 0), .nils, .nils,(.bool false)]) [])=some { val := .tsl 5 [] }:=fun σ p=>TS rfl rfl
 have e1:IntKind.i64.wrap ((i:Int)+1)=((i+1:Nat):Int):=aq i (by omega)
 refine VP.has h ?_
 unfold gh
 simp only [lf,SS,DD,Nat.reduceAdd,hb,pA (Nat.le_of_lt hi)]
 by_cases h0:l.take i=[]
 . rw [h0,fj mj]
   simp only [SS,DD,Nat.reduceAdd,e1,pB (show i+1<=l.length from hi)]
   by_cases h1:l.drop (i+1)=[]
   . rw [h1,fj mj]
     simp only [SS,DD,Nat.reduceAdd]
     refine ⟨by simp [ar,apart], ?_⟩
     exact ag▸⟨_,rfl,View.Py 5⟩
   . rw [show (AV.tsl 5 []) = .tsl 5 (([]:List FX).map FX.av) from rfl,wJ h1 (by simp;omega)]
     simp only [SS,DD,Nat.reduceAdd]
     refine ⟨by simp [ar,apart], ?_⟩
     exact ag▸⟨_,rfl,dX (by simp [aa.put])⟩
 . rw [show (AV.tsl 5 []) = .tsl 5 (([]:List FX).map FX.av) from rfl,wJ h0 (by simp;omega)]
   simp only [SS,DD,Nat.reduceAdd,e1,pB (show i+1<=l.length from hi)]
   by_cases h1:l.drop (i+1)=[]
   . rw [h1,lN mj]
     simp only [SS,DD,Nat.reduceAdd]
     refine ⟨by simp [ar,apart], ?_⟩
     exact ag▸⟨_,rfl,dX (by simp [aa.put])⟩
   . rw [Ca (by simp [aa.put]) h1 (by simp;omega)]
     simp only [SS,DD,Nat.reduceAdd]
     refine ⟨by simp [ar,apart], ?_⟩
     exact ag▸⟨_,rfl,dX (by simp [aa.put])⟩
end
end Go.VL
end

section
set_option linter.unusedVariables false
set_option linter.unusedVariables false
namespace Go.VL
theorem AH {l:List FX} {i:Nat} (hi:i<l.length) (h:BU l i=false):ek l=false:=by
 unfold ek
 have e:(List.range l.length).all (BU l)=false:=by
   rw [List.all_eq_false]
   exact ⟨i,List.mem_range.2 hi,by rw [h];decide⟩
 rw [e,Bool.false_and]
theorem KS {l:List FX} (h:∀ i,i<l.length->BU l i=true):ek l=decide (l.length<=200):=by
 unfold ek
 have e:(List.range l.length).all (BU l)=true:=by
   rw [List.all_eq_true]
   exact fun i hi=>h i (List.mem_range.1 hi)
 rw [e,Bool.true_and]
theorem KT (l:List FX):(cd l).length=l.length:=List.length_map ..
section
variable {P:Program} {G:Nat->Option (List AV)} {π : Id} {base:Nat} {Q:cH->VS->Prop} {n:Nat} {d:Option Nat} {os:List bu} {i:Nat} {t:List AV} {σ : aa}
theorem Si {ck:Nat} {l:List (List UInt8)} (bY:l≠[]):View (aa.of [([ck],⟨l.map .str,1,false⟩)]) (wZ ck l) (strs l):=by
 rw [show wZ ck l = .osl [ck] 1 0 l.length false from if_neg bY]
 refine View.osl (bk:=⟨l.map .str,1,false⟩) (by simp [aa.of]) rfl (by simp) ?_ (by simp) (fun d hd => ?_)
 . have e:(l.map AV.str).take l.length=l.map AV.str:=List.take_of_length_le (by simp)
   simp only [List.drop_zero,e]
   rw [wc]
   exact aY.pure fun c hc=>by obtain ⟨s,_,rfl⟩:=List.mem_map.1 hc;exact af.str s
 . obtain ⟨s,_,rfl⟩:=List.mem_map.1 hd;rfl
theorem DF {fh:FuncId} (hh:∀ (l:List (List UInt8)) (s:List UInt8),l.length<=1000000->VP P G fh [strs l, .str s] (.bool (l.contains s))) {ck:Nat} {l:List (List UInt8)} {s:List UInt8} (hl:l.length<=1000000)
   (hσ : l≠[] -> σ [ck]=some ⟨l.map .str,1,false⟩) (k:vs P G π base Q n os (i+1) (fK t d (.bool (l.contains s))) σ):pM P G π base Q n d os i t σ fh [wZ ck l, .str s]:=by
 by_cases h0:l=[]
 . subst h0
   exact iJ [] (hh [] s (by simp)) (aY.cons (View.nils 1) (aY.cons (View.pure (af.str s)) .nil)) (cj.bool _) (by simp) k
 . exact iJ [([ck],⟨l.map .str,1,false⟩)] (hh l s hl) (aY.cons (Si h0) (aY.cons (View.pure (af.str s)) .nil)) (cj.bool _) (by simpa using hσ h0) k
set_option maxHeartbeats 1000000 in
theorem UU {f fv fh fn:FuncId} (h:Has P f (kE fv fh fn)) (l:List FX) (hl:l.length<=1000) (hv:∀ X∈l,VP P G fv [X.av] (.bool X.valid)) (hn:∀ X∈l,VP P G fn [X.av] (strs (ec X))) (yl:∀ X∈l,(ec X).length<=1000)
   (hh:∀ (l:List (List UInt8)) (s:List UInt8),l.length<=1000000->VP P G fh [strs l, .str s] (.bool (l.contains s))):VP P G f [du l] (.bool (ek l)):=by
 refine VP.has h ?_
 simp only [kE,SS,Nat.reduceAdd,aE]
 refine VW.bR (α := Nat × Nat × Nat) (fun x=>⟨[du l, .top, .bool false,wZ x.2.1 (cd (l.take x.1)), .int .i64 (x.1:Int)]++List.replicate 52 .top,
     aa.put (fun _=>none) [x.2.1] (if cd (l.take x.1)=[] then none else some ⟨(cd (l.take x.1)).map .str,1,false⟩),x.2.2⟩)
   (fun x=>x.1<=l.length/\x.2.1<x.2.2/\∀ j,j<x.1->BU l j=true) (fun x=>l.length-x.1) (0,0,1000) ?_ ⟨Nat.zero_le _,by simp only [];omega,fun j hj=>absurd hj (Nat.not_lt_zero j)⟩ ?_
 . refine Wk.forget (by simp [Fg,List.replicate,wZ,cd]) (fun j => ?_) (by simp only [];omega)
   left;simp [aa.put,cd]
 rintro ⟨i,ck,nn⟩ ⟨hi,Q3,cD⟩
 simp only [] at hi Q3 cD
 have aeo:(cd (l.take i)).length=i:=by rw [KT,List.length_take];omega
 by_cases aN:i<l.length
 case neg =>
   have dd:decide ((i:Int)<(l.length:Int))=false:=ak (by omega)
   have d2:decide ((l.length:Int)<=200)=decide (l.length<=200):=by
     by_cases q:l.length<=200
     . rw [an q,an (by omega)]
     . rw [ak q,ak (by omega)]
   simp only [SS,Nat.reduceAdd,List.replicate,mu,dd,d2]
   rw [KS fun j hj=>cD j (by omega)]
   exact ag▸ab rfl (af.bool _)
 obtain ⟨X,hX⟩:∃ X,l[i]? = some X:=⟨_,List.getElem?_eq_getElem aN⟩
 have hm:=List.mem_of_getElem? hX
 have dd:decide ((i:Int)<(l.length:Int))=true:=an (by omega)
 have hg:(l.map FX.av)[i]? = some X.av:=by rw [List.getElem?_map,hX];rfl
 have iB:bz 5 (du l) (.int .i64 (i:Int))=some (.ep X.av.cells 0):=aS rfl hg
 have ml:BU l i=(X.valid && !(cd (l.take i)).contains X.name&&(ec X).all fun n=>(cd (l.take i)).contains n):=by unfold BU;rw [hX]
 have qZ:cd (l.take (i+1))=cd (l.take i)++[X.name]:=by rw [List.take_add_one,hX];simp [cd]
 have pf:=hv X hm
 have Wm:=hn X hm
 have aep:=yl X hm
 generalize x5:cd (l.take i)=names at aeo ml qZ
 have hσ : names≠[]->(aa.put (fun _=>none) [ck] (if names=[] then none else some ⟨names.map .str,1,false⟩)) [ck]=some ⟨names.map .str,1,false⟩:=fun q=>by rw [aa.bd,if_neg q]
 simp only [SS,Nat.reduceAdd,List.replicate,mu,dd,iB,az,FX.whole]
 have uN:af X.av:=FX.pure X
 refine aj pf (by simp [uN]) ?_
 cases kX:X.valid
 . simp only [SS,Nat.reduceAdd]
   rw [AH aN (by rw [ml,kX,Bool.false_and,Bool.false_and])]
   exact ag▸ab rfl (af.bool _)
 simp only [SS,Nat.reduceAdd,iB,az,FX.c0]
 refine DF hh (by omega) hσ ?_
 cases R1:names.contains X.name
 case true =>
   simp only [SS,Nat.reduceAdd]
   rw [AH aN (by rw [ml,R1,Bool.not_true,Bool.and_false,Bool.false_and])]
   exact ag▸ab rfl (af.bool _)
 rw [kX,R1,Bool.true_and,Bool.not_false,Bool.true_and] at ml
 simp only [SS,Nat.reduceAdd,iB,az,FX.whole]
 refine aj Wm (by simp [uN]) ?_
 simp only [SS,Nat.reduceAdd,aE]
 refine VW.bR (α := Nat × Nat) (fun z=>⟨[du l, .top, .bool false,wZ ck names, .int .i64 (i:Int),strs (ec X), .int .i64 (z.1:Int)]++List.replicate 50 .top,
     aa.put (fun _=>none) [ck] (if names=[] then none else some ⟨names.map .str,1,false⟩),z.2⟩)
   (fun z=>z.1<=(ec X).length/\ck<z.2/\∀ (j:Nat) s,j<z.1->(ec X)[j]? = some s->names.contains s=true) (fun z=>(ec X).length-z.1) (0,nn+1000) ?_ ⟨Nat.zero_le _,by simp only [];omega,fun j s hj=>absurd hj (Nat.not_lt_zero j)⟩ ?_
 . exact Wk.bc (by simp [Fg,List.replicate]) (by simp only [];omega)
 rintro ⟨k,mm⟩ ⟨hk,Gz,yk⟩
 simp only [] at hk Gz yk
 by_cases H5:k<(ec X).length
 . obtain ⟨s,hs⟩:∃ s,(ec X)[k]? = some s:=⟨_,List.getElem?_eq_getElem H5⟩
   have d1:decide ((k:Int)<((ec X).length:Int))=true:=an (by omega)
   have AD:((ec X).map AV.str)[k]? = some (.str s):=by rw [List.getElem?_map,hs];rfl
   have mQ:bz 1 (strs (ec X)) (.int .i64 (k:Int))=some (.ep (AV.str s).cells 0):=aS rfl AD
   have Gm:part false (AV.str s).cells 0 1=some (.str s):=rfl
   simp only [SS,Nat.reduceAdd,List.replicate,dE,d1,mQ,az,Gm]
   refine DF hh (by omega) hσ ?_
   cases BA:names.contains s
   . simp only [SS,Nat.reduceAdd]
     rw [AH aN (by
       rw [ml,List.all_eq_false]
       exact ⟨s,List.mem_of_getElem? hs,by rw [BA];decide⟩)]
     exact ag▸ab rfl (af.bool _)
   . simp only [SS,Nat.reduceAdd,aq k (by omega)]
     refine ⟨(k+1,mm+1000),⟨by simp only [];omega,by simp only [];omega, ?_⟩,by simp only [];omega,Wk.bc (by simp [Fg]) (by simp only [];omega)⟩
     intro j s' hj Ov
     by_cases B2:j<k
     . exact yk j s' B2 Ov
     . have:j=k:=by simp only [] at hj;omega
       subst this;rw [hs] at Ov;simp only [Option.some.injEq] at Ov;subst Ov;exact BA
 have Yc:BU l i=true:=by
   rw [ml,List.all_eq_true]
   intro s hs
   obtain ⟨j,hj,Ov⟩:=List.getElem_of_mem hs
   exact yk j s (by omega) (by rw [List.getElem?_eq_getElem hj,Ov])
 have d1:decide ((k:Int)<((ec X).length:Int))=false:=ak (by omega)
 have Bo:∀ j,j<i+1->BU l j=true:=fun j hj=>by
   by_cases B2:j<i
   . exact cD j B2
   . rw [show j=i from by omega];exact Yc
 simp only [SS,Nat.reduceAdd,List.replicate,dE,d1,iB,az,FX.c0,uu]
 by_cases h0:names=[]
 . have e0:wZ ck names = .nils:=if_pos h0
   simp only [e0,oD,SS,Nat.reduceAdd,aq i (by omega)]
   refine ⟨(i+1,mm+4+6+1,mm+1000),⟨by simp only [];omega,by simp only [];omega,Bo⟩,by simp only [];omega, ?_⟩
   simp only [qZ,h0,List.nil_append,wZ,List.cons_ne_nil,if_false,List.length_singleton,List.map_cons,List.map_nil]
   refine Wk.forget (by simp [Fg]) (fun j => ?_) (by omega)
   by_cases h1:j=[mm+4+6+1]
   . subst h1;right;simp [aa.put]
   . left;simp [aa.put,h1]
 . have e0:wZ ck names = .osl [ck] 1 0 names.length false:=if_neg h0
   have zJ:∀ (p q:Id),q≠[ck]->cg ((aa.put (fun _=>none) [ck] (if names=[] then none else some ⟨names.map .str,1,false⟩)).put q (some ⟨[.str X.name],1,false⟩)) p 1 16 (.osl [ck] 1 0 names.length false) (.osl q 1 0 1 false)=some { val := .osl p 1 0 (names.length+1) false,rd:=[[ck],q],up:=[([ck],none),(p,some ⟨(names++[X.name]).map .str,1,false⟩)] } :=
     fun p q hq=>zo hq (by omega) (by rw [aa.bd,if_neg h0])
   have hq:([mm+4+6]:List Nat)≠[ck]:=by intro e;simp at e;omega
   have IX : ¬ names++[X.name]=[]:=by simp
   simp only [e0,zJ _ _ hq,SS,Nat.reduceAdd,aq i (by omega)]
   refine ⟨(i+1,mm+4+6+1,mm+1000),⟨by simp only [];omega,by simp only [];omega,Bo⟩,by simp only [];omega, ?_⟩
   simp only [qZ,wZ,if_neg IX,List.length_append,List.length_singleton]
   refine Wk.forget (by simp [Fg]) (fun j => ?_) (by omega)
   by_cases h1:j=[mm+4+6+1]
   . subst h1;right;simp [aa.put]
   . left;simp [aa.put,h1]
end
end Go.VL
end

section
set_option linter.unusedVariables false
set_option linter.unusedVariables false
namespace Go.VL
structure OX where
 kind:Nat
 F:FX
 name:List UInt8
 on:Bool
 pH:Int
def OX.av (o:OX):AV := .agg [.int .u8 (o.kind:Int), .str o.F.name, .int .i64 o.F.kind,strs o.F.aC, .sl 7 (EX.kY o.F.bG), .bool o.F.supp, .str o.name, .bool o.on, .int .i64 o.pH]
theorem OX.one (o:OX):(o.av.cells.all AV.one=true)=True:=by simp [OX.av,AV.cells,AV.one,strs]
theorem OX.sz (o:OX):o.av.size=9:=rfl
theorem OX.p0 (o:OX):part false o.av.cells 0 1=some (.int .u8 (o.kind:Int)):=rfl
theorem OX.pF (o:OX):part true o.av.cells 1 5=some o.F.av:=rfl
theorem OX.p1 (o:OX):part false o.av.cells 1 1=some (.str o.F.name):=rfl
theorem OX.p6 (o:OX):part false o.av.cells 6 1=some (.str o.name):=rfl
theorem OX.p7 (o:OX):part false o.av.cells 7 1=some (.bool o.on):=rfl
theorem OX.p8 (o:OX):part false o.av.cells 8 1=some (.int .i64 o.pH):=rfl
theorem OX.whole (o:OX):part true o.av.cells 0 9=some o.av:=rfl
theorem OX.pure (o:OX):af o.av:=af.agg (by
 intro c hc
 simp at hc
 rcases hc with rfl | rfl | rfl | rfl | rfl | rfl | rfl | rfl | rfl
 . exact af.int _ _
 . exact af.str _
 . exact af.int _ _
 . exact gY _
 . exact EX.eM _
 . exact af.bool _
 . exact af.str _
 . exact af.bool _
 . exact af.int _ _)
theorem AJ (k:Nat):br .rem .int (.int .u8 (k:Int)) (.int .u8 7)=some (.int .u8 ((k%7:Nat):Int)):=by
 have e:((k:Int).tmod 7)=((k%7:Nat):Int):=by rw [Int.tmod_eq_emod_of_nonneg (by omega)];omega
 have e2:IntKind.u8.wrap ((k%7:Nat):Int)=((k%7:Nat):Int):=by
   have:∀ r:Nat,r<7->IntKind.u8.wrap (r:Int)=(r:Int):=by decide
   exact this _ (Nat.mod_lt _ (by decide))
 simp [br,kZ,si,e]
def FX.bQ (X:FX) (b:Bool):FX:={ X with supp:=b }
def oH (l:List FX) (i:Nat) (X:FX):List FX:=l.take i++[X]++l.drop i
def cm (l:List FX) (o:OX):List FX × Int :=
 if o.kind%7=0 then (if o.F.valid=false then ([],1) else if 200<=l.length then ([],3) else if 0<=dq l o.F.name then ([],5) else if ek (l++[o.F])=true then (l++[o.F],0) else ([],4))
 else if o.kind%7=1 then (if o.F.valid=false then ([],1) else if dq l o.F.name<0 then ([],4) else if ek (l.set (dq l o.F.name).toNat o.F)=true then (l.set (dq l o.F.name).toNat o.F,0) else ([],4))
 else if o.kind%7=3/\(o.pH<0∨(l.length:Int)<=o.pH) then ([],1)
 else if dq l o.name<0 then ([],4)
 else
   let i:=(dq l o.name).toNat
   let X:=l.getD i ⟨[],0,[],[],false⟩
   let out:=if o.kind%7=2 then oH (gh l i) i (X.bQ o.on) else if o.kind%7=3 then oH (gh l i) o.pH.toNat X else gh l i
   if ek out=true then (out,0) else ([],14)
theorem oJ {σ : aa} {q:Id} {X:FX} (h : σ q=some ⟨[X.av],5,false⟩):dD σ 5 (.osl q 5 0 1 false)=some ([X.av],[q]):=jI (bk:=⟨[X.av],5,false⟩) h rfl (by simp)
theorem zu {σ : aa} {p q:Id} {l:List FX} {X:FX} (h : σ q=some ⟨[X.av],5,false⟩) (hl:l.length<=100000):cg σ p 5 80 (.tsl 5 (l.map FX.av)) (.osl q 5 0 1 false)=some { val := .osl p 5 0 (l++[X]).length false,rd:=[q],up:=[(p,some ⟨(l++[X]).map FX.av,5,false⟩)] }:=by
 have h1:=ny (l++[X])
 rw [List.map_append] at h1
 rw [gU (ys:=[X.av]) (oJ h) (by simp) (by simp;omega) (cO (by simp;omega)) h1]
 simp
theorem wo {σ : aa} {p id q:Id} {l:List FX} {X:FX} (h : σ id=some ⟨l.map FX.av,5,false⟩) (hq : σ q=some ⟨[X.av],5,false⟩) (hl:l.length<=100000):cg σ p 5 80 (.osl id 5 0 l.length false) (.osl q 5 0 1 false)=some { val := .osl p 5 0 (l++[X]).length false,rd:=[id,q],up:=[(id,none),(p,some ⟨(l++[X]).map FX.av,5,false⟩)] }:=by
 rw [lM (els:=l.map FX.av) (ys:=[X.av]) (oJ hq) (by simp) h (by simp) (by simp;omega) (cO (by simp;omega)) (ny [X]) (ny _)]
 simp
theorem xu {σ : aa} {q:Id} {X:FX}:cl σ q (.buildSl 5 1 (.agg [(.str []),(.int .i64 0), .nils, .nils,(.bool false)]) [(0,X.av)])=some { val := .osl q 5 0 1 false,up:=[(q,some ⟨[X.av],5,false⟩)] } :=
 WQ rfl (of_eq_true (FX.one X)) rfl rfl
theorem I7 {σ : aa} {q:Id}:cl σ q (.buildSl 5 0 (.agg [(.str []),(.int .i64 0), .nils, .nils,(.bool false)]) [])=some { val := .tsl 5 [] }:=TS rfl rfl
theorem q8:(AV.tsl 5 []) = .tsl 5 (([]:List FX).map FX.av):=rfl
theorem jC {l:List FX} {nm:List UInt8} (h : ¬ dq l nm<0):∃ i:Nat,dq l nm=(i:Int)/\i<l.length:=by
 unfold dq at h ⊢
 cases hf:l.findIdx? fun X=>X.name==nm with
 | none=>rw [hf] at h;exact absurd (by decide:xT none<0) h
 | some i=>exact ⟨i,rfl,(List.findIdx?_eq_some_iff_findIdx_eq.1 hf).1⟩
theorem bL {σ : aa} {x:AV} {l:List FX} {e:Int} (h:View σ x (du l)):View σ (.tup [x, .int .i64 e]) (.tup [du l, .int .i64 e]) :=
 View.tup (.cons h (.cons (View.pure (af.int _ _)) .nil))
section
variable {P:Program} {G:Nat->Option (List AV)} {π : Id} {base:Nat} {Q:cH->VS->Prop} {n:Nat} {d:Option Nat} {os:List bu} {i:Nat} {t:List AV} {σ : aa}
theorem eK {f:FuncId} {l:List FX} {id:Id} {tt:Bool} {r:AV} (h:VP P G f [du l] r) (hf:cj r) (hσ : σ id=some ⟨l.map FX.av,5,false⟩) (k:vs P G π base Q n os (i+1) (fK t d r) σ):pM P G π base Q n d os i t σ f [.osl id 5 0 l.length tt] :=
 iJ [(id,⟨l.map FX.av,5,false⟩)] h (aY.cons (dX (by simp [aa.of])) .nil) hf (by simpa using hσ) k
end
section
variable {P:Program} {G:Nat->Option (List AV)}
set_option maxHeartbeats 1000000 in
theorem I8 {f fv fp fl fc:FuncId} (h:Has P f (bD fv fp fl fc)) (l:List FX) (o:OX) (hk:o.kind%7=0) (hl:l.length<=1000) (hv:VP P G fv [o.F.av] (.bool o.F.valid))
   (hp:∀ nm,VP P G fp [du l, .str nm] (.int .i64 (dq l nm))) (hL:VP P G fl [du (l++[o.F])] (.bool (ek (l++[o.F])))):VP P G f [du l,o.av] (.tup [du (cm l o).1, .int .i64 (cm l o).2]):=by
 unfold cm
 rw [if_pos hk]
 have hr:br .rem .int (.int .u8 (o.kind:Int)) (.int .u8 7)=some (.int .u8 0):=by rw [AJ,hk];rfl
 have d0:decide ((0:Int)=0)=true:=rfl
 have hpF:af o.F.av:=FX.pure o.F
 have d1:decide ((200:Int)<=(l.length:Int))=decide (200<=l.length):=by
   by_cases q:200<=l.length
   . rw [an q,an (by omega)]
   . rw [ak q,ak (by omega)]
 refine VP.has h ?_
 simp only [bD,SS,Nat.reduceAdd,OX.one,ae,OX.p0,hr,decide_true,OX.pF]
 refine aj hv (by simp [hpF]) ?_
 cases kX:o.F.valid
 . rw [if_pos rfl]
   simp only [SS,Nat.reduceAdd]
   exact ag▸⟨_,rfl,bL (View.nils 5)⟩
 rw [if_neg (by decide)]
 simp only [SS,Nat.reduceAdd,mu,d1]
 by_cases h2:200<=l.length
 . rw [if_pos h2,an h2]
   simp only [SS,Nat.reduceAdd]
   exact ag▸⟨_,rfl,bL (View.nils 5)⟩
 rw [if_neg h2,ak h2]
 simp only [SS,Nat.reduceAdd,ae,OX.p1]
 refine aj (hp o.F.name) (by simp [dx,af.str]) ?_
 simp only [SS,Nat.reduceAdd]
 by_cases h3:0<=dq l o.F.name
 . rw [if_pos h3,an h3]
   simp only [SS,Nat.reduceAdd]
   exact ag▸⟨_,rfl,bL (View.nils 5)⟩
 rw [if_neg h3,ak h3]
 simp only [SS,DD,Nat.reduceAdd,I7]
 by_cases h0:l=[]
 . rw [h0,fj mj]
   simp only [SS,DD,Nat.reduceAdd,ae,OX.pF,xu]
   rw [q8,zu (X:=o.F) (by simp [aa.put]) (by simp)]
   simp only [SS,DD,Nat.reduceAdd]
   refine ⟨by simp [ar,apart], ?_⟩
   rw [h0,List.nil_append] at hL
   refine eK hL (cj.bool _) (by simp [aa.put]) ?_
   cases hB:ek [o.F]
   . simp only [SS,Nat.reduceAdd]
     exact ag▸⟨_,rfl,bL (View.nils 5)⟩
   . simp only [SS,Nat.reduceAdd]
     exact ag▸⟨_,rfl,bL (dX (l:=[o.F]) (by simp [aa.put]))⟩
 . rw [q8,wJ h0 (by simp;omega),List.nil_append]
   simp only [SS,DD,Nat.reduceAdd]
   rw [ai (by decide),ae,OX.pF]
   simp only [SS,DD,Nat.reduceAdd,xu]
   rw [wo (X:=o.F) (by simp [aa.put]) (by simp [aa.put]) (by omega)]
   simp only [SS,DD,Nat.reduceAdd]
   refine ⟨by simp [ar,apart], ?_⟩
   refine eK hL (cj.bool _) (by simp [aa.put]) ?_
   cases hB:ek (l++[o.F])
   . simp only [SS,Nat.reduceAdd]
     exact ag▸⟨_,rfl,bL (View.nils 5)⟩
   . simp only [SS,Nat.reduceAdd]
     exact ag▸⟨_,rfl,bL (dX (by simp [aa.put]))⟩
theorem map_set (l:List FX) (i:Nat) (X:FX):(l.map FX.av).set i X.av=(l.set i X).map FX.av:=by rw [List.map_set]
set_option maxHeartbeats 1000000 in
theorem I9 {f fv fp fl fc:FuncId} (h:Has P f (bD fv fp fl fc)) (l:List FX) (o:OX) (hk:o.kind%7=1) (hl:l.length<=1000) (hv:VP P G fv [o.F.av] (.bool o.F.valid))
   (hp:∀ nm,VP P G fp [du l, .str nm] (.int .i64 (dq l nm))) (hL:∀ i,VP P G fl [du (l.set i o.F)] (.bool (ek (l.set i o.F)))):VP P G f [du l,o.av] (.tup [du (cm l o).1, .int .i64 (cm l o).2]):=by
 unfold cm
 rw [if_neg (by omega),if_pos hk]
 have hr:br .rem .int (.int .u8 (o.kind:Int)) (.int .u8 7)=some (.int .u8 1):=by rw [AJ,hk];rfl
 have d0:decide ((1:Int)=0)=false:=rfl
 have hpF:af o.F.av:=FX.pure o.F
 refine VP.has h ?_
 simp only [bD,SS,Nat.reduceAdd,OX.one,ae,OX.p0,hr,d0,decide_true,OX.pF]
 refine aj hv (by simp [hpF]) ?_
 cases kX:o.F.valid
 . rw [if_pos rfl]
   simp only [SS,Nat.reduceAdd]
   exact ag▸⟨_,rfl,bL (View.nils 5)⟩
 rw [if_neg (by decide)]
 simp only [SS,Nat.reduceAdd,ae,OX.p1]
 refine aj (hp o.F.name) (by simp [dx,af.str]) ?_
 simp only [SS,Nat.reduceAdd]
 by_cases h3:dq l o.F.name<0
 . rw [if_pos h3,an h3]
   simp only [SS,Nat.reduceAdd]
   exact ag▸⟨_,rfl,bL (View.nils 5)⟩
 rw [if_neg h3,ak h3]
 obtain ⟨i,hi,aN⟩:=jC h3
 have h0:l≠[]:=by intro e;rw [e] at aN;simp at aN
 rw [hi,Int.toNat_natCast]
 obtain ⟨Y,hY⟩:∃ Y,l[i]? = some Y:=⟨_,List.getElem?_eq_getElem aN⟩
 have hg:(l.map FX.av)[i]? = some Y.av:=by rw [List.getElem?_map,hY];rfl
 simp only [SS,Nat.reduceAdd,I7]
 rw [q8,wJ h0 (by simp;omega),List.nil_append]
 simp only [SS,Nat.reduceAdd]
 rw [ai (by decide),ae,OX.pF]
 simp only [SS,Nat.reduceAdd,lF aN]
 rw [ux (k:=5) (els:=l.map FX.av) (x:=Y.av) (y:=o.F.av) (by simp [aa.put]) hg rfl rfl (of_eq_true (FX.one _)) rfl,map_set]
 simp only [SS,Nat.reduceAdd]
 have Cn:(l.set i o.F).length=l.length:=List.length_set
 rw [<- Cn]
 refine eK (hL i) (cj.bool _) (by simp [aa.put]) ?_
 cases hB:ek (l.set i o.F)
 . simp only [SS,Nat.reduceAdd]
   exact ag▸⟨_,rfl,bL (View.nils 5)⟩
 . simp only [SS,Nat.reduceAdd]
   exact ag▸⟨_,rfl,bL (dX (by simp [aa.put]))⟩
end
end Go.VL
end

section
set_option linter.unusedVariables false
set_option linter.unusedVariables false
namespace Go.VL
theorem FX.aba (X:FX):(AV.agg [.str [], .int .i64 0, .nils, .nils, .bool false]).s9 0 X.av.cells=X.av:=rfl
theorem FX.u4 (X:FX) (b:Bool):X.av.s9 4 [.bool b]=(X.bQ b).av:=rfl
theorem oO {l:List FX} {i:Nat} (h:i<l.length):(gh l i).length+1=l.length:=by
 simp [gh];omega
theorem zw {l:List FX} {i:Nat} {X:FX} (h:i<=l.length):(oH l i X).length=l.length+1:=by
 simp [oH];omega
theorem n9 {σ : aa} {id:Id} {X:FX} {k:Nat} (h : σ id=some ⟨[.agg [.str [], .int .i64 0, .nils, .nils, .bool false]],k,false⟩):eO σ 5 (.ref id 0 0) X.av=some { val := .tup [],rd:=[id],up:=[(id,some ⟨[X.av],k,false⟩)] }:=by
 rw [cE (n:=5) (v:=X.av) h rfl rfl (by simp [AV.size,AV.cells]) (of_eq_true (FX.one X)),FX.aba]
 rfl
theorem Fo {σ : aa} {p id:Id} {X:FX} {m:List FX} (h : σ id=some ⟨[X].map FX.av,5,false⟩) (hm:m≠[]) (hl:1+m.length<=1000000):cg σ p 5 80 (.osl id 5 0 1 false) (du m)=some { val := .osl p 5 0 (X::m).length false,rd:=[id],up:=[(id,none),(p,some ⟨(X::m).map FX.av,5,false⟩)] } :=
 Ca (l:=[X]) h hm (by simpa using hl)
theorem AK {bh:FX->Prop} {l:List FX} {i:Nat} (hg:∀ Y∈l,bh Y):∀ Y∈gh l i,bh Y:=by
 intro Y hY
 unfold gh at hY
 rcases List.mem_append.1 hY with h | h
 . exact hg Y (List.mem_of_mem_take h)
 . exact hg Y (List.mem_of_mem_drop h)
theorem Fp {bh:FX->Prop} {m:List FX} {j:Nat} {X:FX} (hg:∀ Y∈m,bh Y) (hX:bh X):∀ Y∈oH m j X,bh Y:=by
 intro Y hY
 unfold oH at hY
 simp only [List.mem_append,List.mem_singleton] at hY
 rcases hY with (h | h) | h
 . exact hg Y (List.mem_of_mem_take h)
 . rw [h];exact hX
 . exact hg Y (List.mem_of_mem_drop h)
section
variable {P:Program} {G:Nat->Option (List AV)}
set_option maxHeartbeats 4000000 in
theorem Ja {f fv fp fl fc:FuncId} (h:Has P f (bD fv fp fl fc)) (l:List FX) (o:OX) (hk:o.kind%7=3) (hl:l.length<=1000) {bh:FX->Prop} (Ur:∀ X∈l,bh X) (hgs:∀ X b,bh X->bh (X.bQ b))
   (hp:∀ nm,VP P G fp [du l, .str nm] (.int .i64 (dq l nm))) (hL:∀ m,m.length=l.length->(∀ X∈m,bh X)->VP P G fl [du m] (.bool (ek m))) (hc:∀ i,i<l.length->VP P G fc [du l, .int .i64 (i:Int)] (du (gh l i))) :
   VP P G f [du l,o.av] (.tup [du (cm l o).1, .int .i64 (cm l o).2]):=by
 unfold cm
 rw [if_neg (by omega),if_neg (by omega),hk]
 have hr:br .rem .int (.int .u8 (o.kind:Int)) (.int .u8 7)=some (.int .u8 3):=by rw [AJ,hk];rfl
 have d0:decide ((3:Int)=0)=false:=rfl
 have d1:decide ((3:Int)=1)=false:=rfl
 have d2:decide ((3:Int)=2)=false:=rfl
 refine VP.has h ?_
 simp only [bD,SS,Nat.reduceAdd,OX.one,ae,OX.p0,hr,d0,d1,decide_true,OX.p8]
 by_cases t1:o.pH<0
 . rw [if_pos ⟨trivial, .inl t1⟩,an t1]
   simp only [SS,Nat.reduceAdd]
   exact ag▸⟨_,rfl,bL (View.nils 5)⟩
 rw [ak t1]
 simp only [SS,Nat.reduceAdd,ae,OX.p8,mu]
 by_cases t2:(l.length:Int)<=o.pH
 . rw [if_pos ⟨trivial, .inr t2⟩,an t2]
   simp only [SS,Nat.reduceAdd]
   exact ag▸⟨_,rfl,bL (View.nils 5)⟩
 rw [ak t2,if_neg (by omega)]
 simp only [SS,Nat.reduceAdd,ae,OX.p6]
 refine aj (hp o.name) (by simp [dx,af.str]) ?_
 simp only [SS,Nat.reduceAdd]
 by_cases h3:dq l o.name<0
 . rw [if_pos h3,an h3]
   simp only [SS,Nat.reduceAdd]
   exact ag▸⟨_,rfl,bL (View.nils 5)⟩
 rw [if_neg h3,ak h3]
 obtain ⟨i,hi,aN⟩:=jC h3
 obtain ⟨j,hj⟩:∃ j:Nat,o.pH=(j:Int):=⟨o.pH.toNat,by omega⟩
 have nH:j<l.length:=by omega
 obtain ⟨X,hX⟩:∃ X,l[i]? = some X:=⟨_,List.getElem?_eq_getElem aN⟩
 have hg:(l.map FX.av)[i]? = some X.av:=by rw [List.getElem?_map,hX];rfl
 have iB:bz 5 (du l) (.int .i64 (i:Int))=some (.ep X.av.cells 0):=aS rfl hg
 have DO:l.getD i ⟨[],0,[],[],false⟩=X:=by rw [List.getD_eq_getElem?_getD,hX];rfl
 have uP:=oO aN
 have JM:=zw (X:=X) (show j<=(gh l i).length by omega)
 have AL:=hL _ (JM.trans uP) (Fp (AK Ur) (Ur X (List.mem_of_getElem? hX)))
 have e32:((3:Nat)=2)=False:=eq_false (by decide)
 rw [hi,hj,Int.toNat_natCast,Int.toNat_natCast,DO]
 simp only [e32,if_false]
 simp only [SS,Nat.reduceAdd]
 refine aj (hc i aN) (by simp [dx,af.int]) ?_
 generalize gh l i=m at *
 unfold oH at AL JM ⊢
 simp only [SS,Nat.reduceAdd,iB,az,FX.whole,je]
 rw [n9 (k:=(AV.agg [.str [], .int .i64 0, .nils, .nils, .bool false]).size) (by simp [aa.put])]
 simp only [SS,Nat.reduceAdd]
 rw [ai (by decide),ai (by decide),ae,OX.p0]
 simp only [SS,DD,Nat.reduceAdd,hr,d2,decide_true,I7]
 rw [ai (by decide),ai (by decide),ae,OX.p8,hj]
 have hj1:j<=m.length:=by omega
 simp only [SS,DD,Nat.reduceAdd,pA hj1]
 have Sj:=pB hj1
 have Us:(m.drop j).length<=1000:=by rw [List.length_drop];omega
 have D9:(m.take j).length<=1000:=by rw [List.length_take];omega
 generalize m.drop j=md at *
 generalize m.take j=mt at *
 by_cases h0:mt=[]
 . subst h0
   rw [fj mj]
   simp only [SS,DD,Nat.reduceAdd,ae,FX.whole,xu]
   rw [q8,zu (X:=X) (by simp [aa.put]) (by simp)]
   simp only [SS,DD,Nat.reduceAdd]
   repeat rw [ai (by decide)]
   rw [ae,OX.p8,hj]
   simp only [SS,DD,Nat.reduceAdd,Sj]
   by_cases h1:md=[]
   . subst h1
     rw [lN mj]
     simp only [SS,DD,Nat.reduceAdd]
     refine ⟨by simp [ar,apart], ?_⟩
     rw [List.append_nil,List.nil_append] at AL
     refine eK AL (cj.bool _) (by simp [aa.put]) ?_
     cases hB:ek [X]
     . simp only [SS,Nat.reduceAdd]
       exact ag▸⟨_,rfl,bL (View.nils 5)⟩
     . simp only [SS,Nat.reduceAdd]
       exact ag▸⟨_,rfl,bL (dX (l:=[X]) (by simp [aa.put]))⟩
   . rw [Fo (X:=X) (by simp [aa.put]) h1 (by omega)]
     simp only [SS,DD,Nat.reduceAdd]
     refine ⟨by simp [ar,apart], ?_⟩
     have AL:VP P G fl [du (X::md)] (.bool (ek (X::md))):=AL
     refine eK AL (cj.bool _) (by simp [aa.put]) ?_
     cases hB:ek (X::md)
     . simp only [SS,Nat.reduceAdd]
       exact ag▸⟨_,rfl,bL (View.nils 5)⟩
     . simp only [SS,Nat.reduceAdd]
       exact ag▸⟨_,rfl,bL (dX (l:=X::md) (by simp [aa.put]))⟩
 . rw [q8,wJ h0 (by simp;omega),List.nil_append]
   simp only [SS,DD,Nat.reduceAdd]
   rw [ai (by decide),ae,FX.whole]
   simp only [SS,DD,Nat.reduceAdd,xu]
   rw [wo (l:=mt) (X:=X) (by simp [aa.put]) (by simp [aa.put]) (by omega)]
   simp only [SS,DD,Nat.reduceAdd]
   repeat rw [ai (by decide)]
   rw [ae,OX.p8,hj]
   simp only [SS,DD,Nat.reduceAdd,Sj]
   by_cases h1:md=[]
   . subst h1
     rw [lN mj]
     simp only [SS,DD,Nat.reduceAdd]
     refine ⟨by simp [ar,apart]<;>(intro a b hh;rcases hh with ⟨rfl,_⟩ | ⟨rfl,_⟩<;>simp), ?_⟩
     rw [List.append_nil] at AL
     refine eK AL (cj.bool _) (by simp [aa.put]) ?_
     cases hB:ek (mt++[X])
     . simp only [SS,Nat.reduceAdd]
       exact ag▸⟨_,rfl,bL (View.nils 5)⟩
     . simp only [SS,Nat.reduceAdd]
       exact ag▸⟨_,rfl,bL (dX (l:=mt++[X]) (by simp [aa.put]))⟩
   . rw [Ca (l:=mt++[X]) (by simp [aa.put]) h1 (by simp;omega)]
     simp only [SS,DD,Nat.reduceAdd]
     refine ⟨by simp [ar,apart]<;>(intro a b hh;rcases hh with ⟨rfl,_⟩ | ⟨rfl,_⟩<;>simp), ?_⟩
     refine eK AL (cj.bool _) (by simp [aa.put]) ?_
     cases hB:ek (mt++[X]++md)
     . simp only [SS,Nat.reduceAdd]
       exact ag▸⟨_,rfl,bL (View.nils 5)⟩
     . simp only [SS,Nat.reduceAdd]
       exact ag▸⟨_,rfl,bL (dX (l:=mt++[X]++md) (by simp [aa.put]))⟩
set_option maxHeartbeats 4000000 in
theorem Jb {f fv fp fl fc:FuncId} (h:Has P f (bD fv fp fl fc)) (l:List FX) (o:OX) (hk:o.kind%7=2) (hl:l.length<=1000) {bh:FX->Prop} (Ur:∀ X∈l,bh X) (hgs:∀ X b,bh X->bh (X.bQ b))
   (hp:∀ nm,VP P G fp [du l, .str nm] (.int .i64 (dq l nm))) (hL:∀ m,m.length=l.length->(∀ X∈m,bh X)->VP P G fl [du m] (.bool (ek m))) (hc:∀ i,i<l.length->VP P G fc [du l, .int .i64 (i:Int)] (du (gh l i))) :
   VP P G f [du l,o.av] (.tup [du (cm l o).1, .int .i64 (cm l o).2]):=by
 unfold cm
 rw [if_neg (by omega),if_neg (by omega),hk]
 have hr:br .rem .int (.int .u8 (o.kind:Int)) (.int .u8 7)=some (.int .u8 2):=by rw [AJ,hk];rfl
 have d0:decide ((2:Int)=0)=false:=rfl
 have d1:decide ((2:Int)=1)=false:=rfl
 have d3:decide ((2:Int)=3)=false:=rfl
 refine VP.has h ?_
 simp only [bD,SS,Nat.reduceAdd,OX.one,ae,OX.p0,hr,d0,d1,d3,OX.p6]
 rw [if_neg (by omega)]
 refine aj (hp o.name) (by simp [dx,af.str]) ?_
 simp only [SS,Nat.reduceAdd]
 by_cases h3:dq l o.name<0
 . rw [if_pos h3,an h3]
   simp only [SS,Nat.reduceAdd]
   exact ag▸⟨_,rfl,bL (View.nils 5)⟩
 rw [if_neg h3,ak h3]
 obtain ⟨i,hi,aN⟩:=jC h3
 obtain ⟨X,hX⟩:∃ X,l[i]? = some X:=⟨_,List.getElem?_eq_getElem aN⟩
 have hg:(l.map FX.av)[i]? = some X.av:=by rw [List.getElem?_map,hX];rfl
 have iB:bz 5 (du l) (.int .i64 (i:Int))=some (.ep X.av.cells 0):=aS rfl hg
 have DO:l.getD i ⟨[],0,[],[],false⟩=X:=by rw [List.getD_eq_getElem?_getD,hX];rfl
 have uP:=oO aN
 have JM:=zw (X:=X.bQ o.on) (show i<=(gh l i).length by omega)
 have AL:=hL _ (JM.trans uP) (Fp (AK Ur) (hgs X o.on (Ur X (List.mem_of_getElem? hX))))
 rw [hi,Int.toNat_natCast,DO]
 simp only [SS,Nat.reduceAdd]
 refine aj (hc i aN) (by simp [dx,af.int]) ?_
 generalize gh l i=m at *
 unfold oH at AL JM ⊢
 simp only [SS,Nat.reduceAdd,iB,az,FX.whole,je]
 rw [n9 (k:=(AV.agg [.str [], .int .i64 0, .nils, .nils, .bool false]).size) (by simp [aa.put])]
 simp only [SS,Nat.reduceAdd]
 repeat rw [ai (by decide)]
 rw [ae,OX.p0]
 simp only [SS,Nat.reduceAdd,hr,decide_true]
 repeat rw [ai (by decide)]
 rw [ae,OX.p7]
 simp only [SS,Nat.reduceAdd]
 rw [fN (x:=X.av) (y:=(X.bQ o.on).av) (k:=(AV.agg [.str [], .int .i64 0, .nils, .nils, .bool false]).size) (by simp [aa.put]) rfl rfl (by rw [FX.sz];omega) (FX.u4 X _)]
 have TR:i<=m.length:=by omega
 simp only [SS,DD,Nat.reduceAdd,I7,pA TR]
 have Sj:=pB TR
 have Us:(m.drop i).length<=1000:=by rw [List.length_drop];omega
 have D9:(m.take i).length<=1000:=by rw [List.length_take];omega
 generalize m.drop i=md at *
 generalize m.take i=mt at *
 by_cases h0:mt=[]
 . subst h0
   rw [fj mj]
   simp only [SS,DD,Nat.reduceAdd,ae,FX.whole,xu]
   rw [q8,zu (X:=X.bQ o.on) (by simp [aa.put]) (by simp)]
   simp only [SS,DD,Nat.reduceAdd]
   simp only [SS,DD,Nat.reduceAdd,Sj]
   by_cases h1:md=[]
   . subst h1
     rw [lN mj]
     simp only [SS,DD,Nat.reduceAdd]
     refine ⟨by simp [ar,apart], ?_⟩
     rw [List.append_nil,List.nil_append] at AL
     refine eK AL (cj.bool _) (by simp [aa.put]) ?_
     cases hB:ek [X.bQ o.on]
     . simp only [SS,Nat.reduceAdd]
       exact ag▸⟨_,rfl,bL (View.nils 5)⟩
     . simp only [SS,Nat.reduceAdd]
       exact ag▸⟨_,rfl,bL (dX (l:=[X.bQ o.on]) (by simp [aa.put]))⟩
   . rw [Fo (X:=X.bQ o.on) (by simp [aa.put]) h1 (by omega)]
     simp only [SS,DD,Nat.reduceAdd]
     refine ⟨by simp [ar,apart], ?_⟩
     have AL:VP P G fl [du (X.bQ o.on::md)] (.bool (ek (X.bQ o.on::md))):=AL
     refine eK AL (cj.bool _) (by simp [aa.put]) ?_
     cases hB:ek (X.bQ o.on::md)
     . simp only [SS,Nat.reduceAdd]
       exact ag▸⟨_,rfl,bL (View.nils 5)⟩
     . simp only [SS,Nat.reduceAdd]
       exact ag▸⟨_,rfl,bL (dX (l:=X.bQ o.on::md) (by simp [aa.put]))⟩
 . rw [q8,wJ h0 (by simp;omega),List.nil_append]
   simp only [SS,DD,Nat.reduceAdd]
   rw [ai (by decide),ae,FX.whole]
   simp only [SS,DD,Nat.reduceAdd,xu]
   rw [wo (l:=mt) (X:=X.bQ o.on) (by simp [aa.put]) (by simp [aa.put]) (by omega)]
   simp only [SS,DD,Nat.reduceAdd]
   simp only [SS,DD,Nat.reduceAdd,Sj]
   by_cases h1:md=[]
   . subst h1
     rw [lN mj]
     simp only [SS,DD,Nat.reduceAdd]
     refine ⟨by simp [ar,apart]<;>(intro a b hh;rcases hh with ⟨rfl,_⟩ | ⟨rfl,_⟩<;>simp), ?_⟩
     rw [List.append_nil] at AL
     refine eK AL (cj.bool _) (by simp [aa.put]) ?_
     cases hB:ek (mt++[X.bQ o.on])
     . simp only [SS,Nat.reduceAdd]
       exact ag▸⟨_,rfl,bL (View.nils 5)⟩
     . simp only [SS,Nat.reduceAdd]
       exact ag▸⟨_,rfl,bL (dX (l:=mt++[X.bQ o.on]) (by simp [aa.put]))⟩
   . rw [Ca (l:=mt++[X.bQ o.on]) (by simp [aa.put]) h1 (by simp;omega)]
     simp only [SS,DD,Nat.reduceAdd]
     refine ⟨by simp [ar,apart]<;>(intro a b hh;rcases hh with ⟨rfl,_⟩ | ⟨rfl,_⟩<;>simp), ?_⟩
     refine eK AL (cj.bool _) (by simp [aa.put]) ?_
     cases hB:ek (mt++[X.bQ o.on]++md)
     . simp only [SS,Nat.reduceAdd]
       exact ag▸⟨_,rfl,bL (View.nils 5)⟩
     . simp only [SS,Nat.reduceAdd]
       exact ag▸⟨_,rfl,bL (dX (l:=mt++[X.bQ o.on]++md) (by simp [aa.put]))⟩
set_option maxHeartbeats 4000000 in
theorem Jc {f fv fp fl fc:FuncId} (h:Has P f (bD fv fp fl fc)) (l:List FX) (o:OX) (hk:o.kind%7=4) (hl:l.length<=1000) {bh:FX->Prop} (Ur:∀ X∈l,bh X) (hgs:∀ X b,bh X->bh (X.bQ b))
   (hp:∀ nm,VP P G fp [du l, .str nm] (.int .i64 (dq l nm))) (hL:∀ m,m.length+1=l.length->(∀ X∈m,bh X)->VP P G fl [du m] (.bool (ek m))) (hc:∀ i,i<l.length->VP P G fc [du l, .int .i64 (i:Int)] (du (gh l i))) :
   VP P G f [du l,o.av] (.tup [du (cm l o).1, .int .i64 (cm l o).2]):=by
 unfold cm
 rw [if_neg (by omega),if_neg (by omega),hk]
 have hr:br .rem .int (.int .u8 (o.kind:Int)) (.int .u8 7)=some (.int .u8 4):=by rw [AJ,hk];rfl
 have d0:decide ((4:Int)=0)=false:=rfl
 have d1:decide ((4:Int)=1)=false:=rfl
 have d2:decide ((4:Int)=2)=false:=rfl
 have d3:decide ((4:Int)=3)=false:=rfl
 have e42:((4:Nat)=2)=False:=eq_false (by decide)
 have e43:((4:Nat)=3)=False:=eq_false (by decide)
 refine VP.has h ?_
 simp only [bD,SS,Nat.reduceAdd,OX.one,ae,OX.p0,hr,d0,d1,d3,OX.p6]
 rw [if_neg (by omega)]
 refine aj (hp o.name) (by simp [dx,af.str]) ?_
 simp only [SS,Nat.reduceAdd]
 by_cases h3:dq l o.name<0
 . rw [if_pos h3,an h3]
   simp only [SS,Nat.reduceAdd]
   exact ag▸⟨_,rfl,bL (View.nils 5)⟩
 rw [if_neg h3,ak h3]
 obtain ⟨i,hi,aN⟩:=jC h3
 obtain ⟨X,hX⟩:∃ X,l[i]? = some X:=⟨_,List.getElem?_eq_getElem aN⟩
 have hg:(l.map FX.av)[i]? = some X.av:=by rw [List.getElem?_map,hX];rfl
 have iB:bz 5 (du l) (.int .i64 (i:Int))=some (.ep X.av.cells 0):=aS rfl hg
 have uP:=oO aN
 have AL:=hL _ uP (AK Ur)
 rw [hi,Int.toNat_natCast]
 simp only [e42,e43,if_false]
 simp only [SS,Nat.reduceAdd]
 refine aj (hc i aN) (by simp [dx,af.int]) ?_
 generalize gh l i=m at *
 simp only [SS,Nat.reduceAdd,iB,az,FX.whole,je]
 rw [n9 (k:=(AV.agg [.str [], .int .i64 0, .nils, .nils, .bool false]).size) (by simp [aa.put])]
 simp only [SS,Nat.reduceAdd]
 repeat rw [ai (by decide)]
 rw [ae,OX.p0]
 simp only [SS,Nat.reduceAdd,hr,d2,d3]
 refine aj AL (by simp [dx]) ?_
 cases hB:ek m
 . simp only [SS,Nat.reduceAdd]
   exact ag▸⟨_,rfl,bL (View.nils 5)⟩
 . simp only [SS,Nat.reduceAdd]
   exact ag▸⟨_,rfl,bL (View.pure (dx m))⟩
end
end Go.VL
end

section
set_option linter.unusedVariables false
set_option linter.unusedVariables false
namespace Go.VL
def qq (ls:List (List FX)):AV := .sl 1 (ls.map du)
def bn (ls:List (List FX)) (a:Nat):AV := .agg [qq ls, .int .i64 (a:Int)]
theorem Ow (l:List FX):(du l).cells=[du l]:=rfl
theorem Jd (ls:List (List FX)):flat (ls.map du)=ls.map du:=by
 induction ls with
 | nil=>rfl
 | cons l ls ih=>simp only [List.map_cons,flat,List.flatMap_cons,Ow] at ih ⊢;rw [ih];rfl
theorem Je (ls:List (List FX)):jN false (qq ls)=some (.int .i64 (ls.length:Int)):=by simp [qq,jN]
theorem DG (ls:List (List FX)):∀ c∈ls.map du,af c:=fun c hc=>by
 obtain ⟨l,_,rfl⟩:=List.mem_map.1 hc;exact dx l
theorem Ox (ls:List (List FX)):af (qq ls):=af.sl (by rw [Jd];exact DG ls)
theorem DH (ls:List (List FX)):((ls.map du).all fun e=>e.cells.all AV.one)=true:=by
 rw [List.all_eq_true];intro e he;obtain ⟨l,_,rfl⟩:=List.mem_map.1 he;rfl
theorem ke (ls:List (List FX)) (a:Nat):af (bn ls a):=af.agg (by
 intro c hc
 simp at hc
 rcases hc with rfl | rfl
 . exact Ox ls
 . exact af.int _ _)
theorem AM (ls:List (List FX)) (a:Nat):((bn ls a).cells.all AV.one=true)=True:=by simp [bn,AV.cells,AV.one,qq]
theorem sY (ls:List (List FX)) (a:Nat):part false (bn ls a).cells 0 1=some (qq ls):=rfl
theorem kt (ls:List (List FX)) (a:Nat):part false (bn ls a).cells 1 1=some (.int .i64 (a:Int)):=rfl
theorem iC (ls:List (List FX)) (a:Nat):part true (bn ls a).cells 0 2=some (bn ls a):=rfl
theorem MM {ls:List (List FX)} {a:Nat} {l:List FX} (h:ls[a]? = some l):bz 1 (qq ls) (.int .i64 (a:Int))=some (.ep (du l).cells 0):=aS rfl (by rw [List.getElem?_map,h];rfl)
theorem Jf (l:List FX):part false (du l).cells 0 1=some (du l):=rfl
theorem Fq {σ : aa} {id:Id} {ls:List (List FX)} {t:Bool} (h : σ id=some ⟨ls.map du,1,false⟩):View σ (.osl id 1 0 ls.length t) (qq ls):=by
 refine View.osl (bk:=⟨ls.map du,1,false⟩) h rfl (by simp) ?_ (by simp) (fun d hd => ?_)
 . have e:(ls.map du).take ls.length=ls.map du:=List.take_of_length_le (by simp)
   simp only [List.drop_zero,e,Jd]
   exact aY.pure (DG ls)
 . obtain ⟨y,_,rfl⟩:=List.mem_map.1 hd
   rfl
theorem Ee {ls:List (List FX)} {h:Nat} (hh:h<=ls.length):bZ 1 (qq ls) none (some (.int .i64 (h:Int))) none=some (qq (ls.take h)):=by
 simp [bZ,cN,dY,qq,hh,List.map_take]
theorem Sk {σ : aa} {p:Id} {m:List (List FX)} (hm:m≠[]) (hl:m.length<=1000000):cg σ p 1 24 (.tsl 1 []) (qq m)=some { val := .osl p 1 0 m.length false,rd:=[],up:=[(p,some ⟨m.map du,1,false⟩)] }:=by
 rw [gU (es:=[]) (ys:=m.map du) (x:=qq m) (rd:=[]) e9 (by simpa using hm) (by simp;omega) (cO (by simp;omega)) (by simpa using DH m)]
 simp
theorem Oy {σ : aa} {p id q:Id} {ls:List (List FX)} {l:List FX} (h : σ id=some ⟨ls.map du,1,false⟩) (hq : σ q=some ⟨[du l],1,false⟩) (hl:ls.length<=100000):cg σ p 1 24 (.osl id 1 0 ls.length false) (.osl q 1 0 1 false)=some { val := .osl p 1 0 (ls++[l]).length false,rd:=[id,q],up:=[(id,none),(p,some ⟨(ls++[l]).map du,1,false⟩)] }:=by
 rw [lM (els:=ls.map du) (ys:=[du l]) (jI (bk:=⟨[du l],1,false⟩) hq rfl (by simp)) (by simp) h (by simp) (by simp;omega) (cO (by simp;omega)) rfl (DH _)]
 simp
theorem Wc {σ : aa} {q:Id} {l:List FX}:cl σ q (.buildSl 1 1 .nils [(0,du l)])=some { val := .osl q 1 0 1 false,up:=[(q,some ⟨[du l],1,false⟩)] }:=WQ rfl rfl rfl rfl
theorem abc {σ : aa} {q:Id}:cl σ q (.buildSl 1 0 .nils [])=some { val := .tsl 1 [] }:=TS rfl rfl
theorem Oz (x:AV) (b:Nat):(AV.agg [.nils, .int .i64 0]).s9 0 (AV.agg [x, .int .i64 (b:Int)]).cells = .agg [x, .int .i64 (b:Int)]:=rfl
noncomputable def wq (ls:List (List FX)) (a:Nat) (o:OX):List (List FX) × Nat × Int × Bool :=
 if o.kind%7=5 then (if a=0 then (ls,a,0,false) else (ls,a-1,0,true))
 else if o.kind%7=6 then (if a+1=ls.length then (ls,a,0,false) else (ls,a+1,0,true))
 else
   let l:=ls.getD a []
   let c:=cm l o
   if c.2≠0∨gZ c.1 l=true then (ls,a,c.2,false) else (ls.take (a+1)++[c.1],a+1,0,false)
section
variable {P:Program} {G:Nat->Option (List AV)}
theorem Sl {f:FuncId} (h:Has P f iI) (ls:List (List FX)) (a:Nat) {l:List FX} (ha:ls[a]? = some l):VP P G f [bn ls a] (du l):=by
 refine VP.has h ?_
 simp only [iI,SS,Nat.reduceAdd,AM,ae,sY,kt,MM ha,az,Jf]
 exact ag▸ab rfl (dx l)
theorem Yd {f:FuncId} (h:Has P f fZ):VP P G f [] (bn [[]] 0):=by
 have hb:∀ (σ : aa) (q:Id),cl σ q (.buildSl 1 1 .nils [(0, .nils)])=some { val := .osl q 1 0 1 false,up:=[(q,some ⟨[.nils],1,false⟩)] }:=fun σ q=>WQ rfl rfl rfl rfl
 have e:∀ q:Id,pg [.nils, .int .i64 0] [(0,(1, .osl q 1 0 1 false))]=some [.osl q 1 0 1 false, .int .i64 0]:=fun q=>rfl
 have z1:(AV.cells (.agg [.nils, .int .i64 0])).all AV.one=true:=rfl
 refine VP.has h ?_
 simp only [fZ,SS,Nat.reduceAdd,hb,e,z1]
 rw [cE (n:=2) (v := .agg [.osl [1] 1 0 1 false, .int .i64 0]) (els:=[.agg [.nils, .int .i64 0]]) (el := .agg [.nils, .int .i64 0]) (k:=(AV.agg [.nils, .int .i64 0]).size) (by simp [aa.put]) rfl rfl (by simp [AV.size,AV.cells]) rfl]
 simp only [SS,Nat.reduceAdd]
 refine ag▸⟨.agg [.osl [1] 1 0 1 false, .int .i64 0], ?_,View.agg (.cons (View.osl (bk:=⟨[.nils],1,false⟩) (by simp [aa.put]) rfl (by simp) (aY.cons (View.nils 5) .nil) rfl (by simp;rfl)) (.cons (View.pure (af.int _ _)) .nil))⟩
 simp only [RS,bU,cy,ae]
 rfl
end
end Go.VL
end

section
set_option linter.unusedVariables false
set_option linter.unusedVariables false
namespace Go.VL
theorem jL {σ : aa} {id:Id} {x:AV} {b:Nat} {k:Nat} (hx:x.cells=[x]) (h1:x.one=true) (h : σ id=some ⟨[.agg [.nils, .int .i64 0]],k,false⟩) :
   eO σ 2 (.ref id 0 0) (.agg [x, .int .i64 (b:Int)])=some { val := .tup [],rd:=[id],up:=[(id,some ⟨[.agg [x, .int .i64 (b:Int)]],k,false⟩)] }:=by
 rw [cE (n:=2) (v := .agg [x, .int .i64 (b:Int)]) h rfl rfl (by simp [AV.size,AV.cells]) (by simp [AV.cells,AV.one] at h1 ⊢;exact h1),Oz]
 rfl
theorem wK {a:Nat} (h:a≠0) (hb:a<=1000000):IntKind.i64.wrap ((a:Int)-1)=((a-1:Nat):Int):=by
 rw [show (a:Int)-1=((a-1:Nat):Int) by omega]
 exact F1 _ (by omega)
theorem OA {σ : aa} {x:AV} {ls:List (List FX)} {a:Nat} {e:Int} {b:Bool} (h:View σ x (bn ls a)):View σ (.tup [x, .int .i64 e, .bool b]) (.tup [bn ls a, .int .i64 e, .bool b]) :=
 View.tup (.cons h (.cons (View.pure (af.int _ _)) (.cons (View.pure (af.bool _)) .nil)))
theorem DI:((AV.agg [.nils, .int .i64 0]).cells.all AV.one=true)=True:=by simp [AV.cells,AV.one]
theorem lG (x:AV) (a:Nat):part true (AV.agg [x, .int .i64 (a:Int)]).cells 0 2=some (.agg [x, .int .i64 (a:Int)]):=rfl
theorem Bq (x:AV) (a:Nat):part false (AV.agg [x, .int .i64 (a:Int)]).cells 1 1=some (.int .i64 (a:Int)):=rfl
theorem Jg (ls:List (List FX)) (a:Nat) (x:AV):(bn ls a).s9 0 [x] = .agg [x, .int .i64 (a:Int)]:=rfl
theorem Sm (x:AV) (a b:Nat):(AV.agg [x, .int .i64 (a:Int)]).s9 1 [.int .i64 (b:Int)] = .agg [x, .int .i64 (b:Int)]:=rfl
section
variable {P:Program} {G:Nat->Option (List AV)}
set_option maxHeartbeats 2000000 in
theorem abd {f fn fc fs:FuncId} (h:Has P f (lY fn fc fs)) (ls:List (List FX)) (a:Nat) (o:OX) {l:List FX} (ha:ls[a]? = some l) (xD:ls.length<=1000)
   (hn:VP P G fn [bn ls a] (du l)) (hc:o.kind%7<5->VP P G fc [du l,o.av] (.tup [du (cm l o).1, .int .i64 (cm l o).2]))
   (hs:o.kind%7<5->(cm l o).2=0->VP P G fs [du (cm l o).1,du l] (.bool (gZ (cm l o).1 l))) :
   VP P G f [bn ls a,o.av] (.tup [bn (wq ls a o).1 (wq ls a o).2.1, .int .i64 (wq ls a o).2.2.1, .bool (wq ls a o).2.2.2]):=by
 have halt:a<ls.length:=(List.getElem?_eq_some_iff.1 ha).1
 have DO:ls.getD a []=l:=by rw [List.getD_eq_getElem?_getD,ha];rfl
 have hk7:o.kind%7<7:=Nat.mod_lt _ (by decide)
 have hr:br .rem .int (.int .u8 (o.kind:Int)) (.int .u8 7)=some (.int .u8 ((o.kind%7:Nat):Int)):=AJ _
 have eG:([0]:List Nat)≠[1]:=by decide
 have mS:([0]:List Nat)≠[2]:=by decide
 have nU:([1]:List Nat)≠[2]:=by decide
 have mc:∀ (x:AV),∀ b:Nat,(AV.agg [x, .int .i64 (b:Int)]).size=2:=fun _ _=>rfl
 unfold wq
 refine VP.has h ?_
 simp only [lY,SS,Nat.reduceAdd,AM,OX.one,DI,ai nU,ae,OX.p0,hr]
 by_cases h5:o.kind%7=5
 . rw [if_pos h5,an (by omega:((o.kind%7:Nat):Int)=5)]
   simp only [SS,Nat.reduceAdd,ai eG,ai mS,ae,kt]
   by_cases h0:a=0
   . rw [if_pos h0,an (by omega:(a:Int)=0)]
     simp only [SS,Nat.reduceAdd,ai eG,ai mS,ae,iC]
     rw [show bn ls a = .agg [qq ls, .int .i64 (a:Int)] from rfl,jL (k:=(AV.agg [.nils, .int .i64 0]).size) rfl rfl (by simp [aa.put])]
     simp only [SS,Nat.reduceAdd]
     refine ag▸ab ?_ (af.tup (by intro c hc;simp at hc;rcases hc with rfl | rfl | rfl;exact ke ls a;exact af.int _ _;exact af.bool _))
     simp only [RS,bU,cy,ae,lG]
   . rw [if_neg h0,ak (by omega : ¬ (a:Int)=0)]
     simp only [SS,Nat.reduceAdd,ai eG,ai mS,ae,kt,wK h0 (by omega:a<=1000000)]
     rw [fN (x:=bn ls a) (y:=bn ls (a-1)) (k:=(bn ls a).size) (by simp [aa.put]) rfl rfl (by rw [bn,mc];omega) rfl]
     simp only [SS,Nat.reduceAdd,ae,iC]
     rw [show bn ls (a-1) = .agg [qq ls, .int .i64 ((a-1:Nat):Int)] from rfl,jL (k:=(AV.agg [.nils, .int .i64 0]).size) rfl rfl (by simp [aa.put])]
     simp only [SS,Nat.reduceAdd]
     refine ag▸ab ?_ (af.tup (by intro c hc;simp at hc;rcases hc with rfl | rfl | rfl;exact ke ls _;exact af.int _ _;exact af.bool _))
     simp only [RS,bU,cy,ae,lG]
 rw [if_neg h5,ak (by omega : ¬ ((o.kind%7:Nat):Int)=5)]
 simp only [SS,Nat.reduceAdd,ai nU,ae,OX.p0,hr]
 by_cases h6:o.kind%7=6
 . rw [if_pos h6,an (by omega:((o.kind%7:Nat):Int)=6)]
   simp only [SS,Nat.reduceAdd,ai eG,ai mS,ae,kt,sY,Je,wK (show ls.length≠0 by omega) (by omega:ls.length<=1000000)]
   by_cases h0:a+1=ls.length
   . rw [if_pos h0,an (by omega:(a:Int)=((ls.length-1:Nat):Int))]
     simp only [SS,Nat.reduceAdd,ai eG,ai mS,ae,iC]
     rw [show bn ls a = .agg [qq ls, .int .i64 (a:Int)] from rfl,jL (k:=(AV.agg [.nils, .int .i64 0]).size) rfl rfl (by simp [aa.put])]
     simp only [SS,Nat.reduceAdd]
     refine ag▸ab ?_ (af.tup (by intro c hc;simp at hc;rcases hc with rfl | rfl | rfl;exact ke ls a;exact af.int _ _;exact af.bool _))
     simp only [RS,bU,cy,ae,lG]
   . rw [if_neg h0,ak (by omega : ¬ (a:Int)=((ls.length-1:Nat):Int))]
     simp only [SS,Nat.reduceAdd,ai eG,ai mS,ae,kt,aq a (by omega)]
     rw [fN (x:=bn ls a) (y:=bn ls (a+1)) (k:=(bn ls a).size) (by simp [aa.put]) rfl rfl (by rw [bn,mc];omega) rfl]
     simp only [SS,Nat.reduceAdd,ae,iC]
     rw [show bn ls (a+1) = .agg [qq ls, .int .i64 ((a+1:Nat):Int)] from rfl,jL (k:=(AV.agg [.nils, .int .i64 0]).size) rfl rfl (by simp [aa.put])]
     simp only [SS,Nat.reduceAdd]
     refine ag▸ab ?_ (af.tup (by intro c hc;simp at hc;rcases hc with rfl | rfl | rfl;exact ke ls _;exact af.int _ _;exact af.bool _))
     simp only [RS,bU,cy,ae,lG]
 rw [if_neg h6,ak (by omega : ¬ ((o.kind%7:Nat):Int)=6),DO]
 have mH:=hc (by omega)
 have Wb:=hs (by omega)
 have hmp:=ke ls a
 generalize cm l o=c at *
 obtain ⟨m,e⟩:=c
 simp only [] at mH Wb ⊢
 simp only [SS,DD,Nat.reduceAdd,ai eG,ai mS,ae,iC]
 refine ax hn (by simp [hmp]) ?_
 simp only [SS,DD,Nat.reduceAdd,ai nU,ae,OX.whole]
 refine ax mH (by simp [dx,OX.pure]) ?_
 simp only [SS,DD,Nat.reduceAdd]
 refine ⟨by simp [ar,apart], ?_⟩
 by_cases he:e=0
 case neg =>
   rw [if_pos (.inl he)]
   simp only [SS,Nat.reduceAdd,an he,ai mS,ai eG,ae,iC]
   rw [show bn ls a = .agg [qq ls, .int .i64 (a:Int)] from rfl,jL (k:=(AV.agg [.nils, .int .i64 0]).size) rfl rfl (by simp [aa.put])]
   simp only [SS,Nat.reduceAdd]
   refine ag▸ab ?_ (af.tup (by intro c hc;simp at hc;rcases hc with rfl | rfl | rfl;exact ke ls a;exact af.int _ _;exact af.bool _))
   simp only [RS,bU,cy,ae,lG]
 subst he
 have d0:decide ((0:Int)≠0)=false:=rfl
 simp only [SS,Nat.reduceAdd,d0,ai mS,ai eG,ae,iC]
 refine aj hn (by simp [hmp]) ?_
 simp only [SS,Nat.reduceAdd]
 refine aj (Wb rfl) (by simp [dx]) ?_
 cases heq:gZ m l
 case true =>
   rw [if_pos (.inr rfl)]
   simp only [SS,Nat.reduceAdd,ai mS,ai eG,ae,iC]
   rw [show bn ls a = .agg [qq ls, .int .i64 (a:Int)] from rfl,jL (k:=(AV.agg [.nils, .int .i64 0]).size) rfl rfl (by simp [aa.put])]
   simp only [SS,Nat.reduceAdd]
   refine ag▸ab ?_ (af.tup (by intro c hc;simp at hc;rcases hc with rfl | rfl | rfl;exact ke ls a;exact af.int _ _;exact af.bool _))
   simp only [RS,bU,cy,ae,lG]
 rw [if_neg (by simp)]
 have D9:(ls.take (a+1)).length=a+1:=by rw [List.length_take];omega
 have bY:ls.take (a+1)≠[]:=by intro e;rw [e] at D9;simp at D9
 simp only [SS,Nat.reduceAdd,abc,ai mS,ai eG,ae,sY,kt,aq a (by omega),Ee (show a+1<=ls.length by omega)]
 rw [Sk bY (by omega)]
 simp only [SS,Nat.reduceAdd,Wc]
 rw [Oy (ls:=ls.take (a+1)) (l:=m) (by simp [aa.put]) (by simp [aa.put]) (by omega)]
 simp only [SS,Nat.reduceAdd]
 rw [fN (x:=bn ls a) (k:=(bn ls a).size) (by simp [aa.put]) n8 rfl (show 0+1<=2 by decide) (Jg ls a _)]
 simp only [SS,Nat.reduceAdd,ae,Bq,aq a (by omega)]
 rw [fN (k:=(bn ls a).size) (aa.bd _ _ _) rfl rfl (show 1+1<=2 by decide) (Sm _ a (a+1))]
 simp only [SS,Nat.reduceAdd,ae,lG]
 rw [jL (k:=(AV.agg [.nils, .int .i64 0]).size) n8 rfl (by simp [aa.put])]
 simp only [SS,Nat.reduceAdd]
 refine ag▸⟨.tup [.agg [.osl [40] 1 0 (ls.take (a+1)++[m]).length false, .int .i64 ((a+1:Nat):Int)], .int .i64 0, .bool false], ?_,OA (View.agg (.cons (Fq (ls:=ls.take (a+1)++[m]) (by simp [aa.put]) (t:=false)) (.cons (View.pure (af.int _ _)) .nil)))⟩
 simp only [RS,bU,cy,ae,lG]
end
end Go.VL
end

section
set_option linter.unusedVariables false
namespace Go.VL
section
variable {P:Program} {G:Nat->Option (List AV)}
def lav (l:List bP):AV:=match l with | [] => .nils | _::_=>zk l
def Qb (ls:List (List bP)) (now:Nat):dF:=⟨[.agg [.sl 1 (ls.map lav), .int .i64 now]],2,false⟩
theorem bF {i:Id} {b:dF}:aa.of [(i,b)] i=some b:=by simp [aa.of]
end
end Go.VL
end

section
set_option linter.unusedVariables false
namespace Go.VL
def bare (s:List UInt8):bP:=⟨s,1,[],[],false⟩
section
variable {P:Program} {G:Nat->Option (List AV)}
end
end Go.VL
end

section
set_option linter.unusedVariables false
namespace Go.VL
section
variable {P:Program} {G:Nat->Option (List AV)}
structure YO (P:Program) (G:Nat->Option (List AV)) (f fp fv ff fc Av fs yc fq We:FuncId):Prop where
 app:Has P f (ey fp fv ff fc Av fs yc)
 present:Has P fp bH
 valid:∀ s,bg s=true->VP P G fv [(bare s).av] (.bool true)
 find:∀ (l:List bP) (nm:List UInt8),(∀ F∈l,F.Ok)->l.length<9223372036854775807->VP P G ff [zk l, .str nm] (.int .i64 (MD l nm))
 cloneL:Has P fc aX
 clone:∀ s,VP P G Av [(bare s).av] (bare s).av
 sat:∀ l:List bP,(∀ F∈l,∃ s,F=bare s)->l.length<9223372036854775807->VP P G fs [zk l] (.bool true)
 change:Has P yc (cL fp fq We)
 eqf:Has P fq aH
variable {f fp fv ff fc Av fs yc fq We:FuncId}
end
end Go.VL
end

section
set_option linter.unusedVariables false
set_option linter.unusedVariables false
namespace Go.VL
def xv (l:List FX) (i:Nat):Bool:=match l[i]? with
 | none=>true
 | some X=>(ec X).all fun n => !decide (dq (l.take i) n<0)
def pC (l:List FX):Bool:=(List.range l.length).all (xv l)
theorem Sn {l:List FX} {i:Nat} (hi:i<l.length) (h:xv l i=false):pC l=false:=by
 unfold pC
 rw [List.all_eq_false]
 exact ⟨i,List.mem_range.2 hi,by rw [h];decide⟩
theorem OB {l:List FX} (h:∀ i,i<l.length->xv l i=true):pC l=true:=by
 unfold pC
 rw [List.all_eq_true]
 exact fun i hi=>h i (List.mem_range.1 hi)
theorem Fs (l:List FX):zk (l.map FX.eJ)=du l:=by
 simp [zk,du,FX.av,List.map_map,Function.comp_def]
theorem KU (l:List FX) (nm:List UInt8):MD (l.map FX.eJ) nm=dq l nm:=by
 unfold MD dq
 rw [List.findIdx?_map];rfl
section
variable {P:Program} {G:Nat->Option (List AV)}
theorem Sp {f f1 fi:FuncId} (h:Has P f (gx f1 fi)) (h1:∀ (F:bP) (nm:List UInt8),VP P G f1 [F.av, .ep [.str nm] 0] (.bool (F.name==nm)))
   (hi:Has P fi bo) {l:List FX} (hl:l.length<=1000) (hX:∀ X∈l,X.aC.length<=1000/\X.bG.length<=1000) (nm:List UInt8):VP P G f [du l, .str nm] (.int .i64 (dq l nm)):=by
 rw [<- Fs, <- KU]
 refine Uv h h1 hi (fun F hF => ?_) (by rw [List.length_map];omega) nm
 obtain ⟨X,hm,rfl⟩:=List.mem_map.1 hF
 exact FX.RQ (hX X hm).1 (hX X hm).2
set_option maxHeartbeats 1000000 in
theorem Gr {f fn ff:FuncId} (h:Has P f (fT fn ff)) (l:List FX) (hl:l.length<=1000) (hn:∀ X∈l,VP P G fn [X.av] (strs (ec X))) (yl:∀ X∈l,(ec X).length<=1000)
   (hf:∀ i nm,VP P G ff [du (l.take i), .str nm] (.int .i64 (dq (l.take i) nm))):VP P G f [du l] (.bool (pC l)):=by
 refine VP.has h ?_
 simp only [fT,SS,Nat.reduceAdd,mu,aE]
 refine VW.bR (α := Nat × Nat) (fun x=>⟨[du l, .top, .top, .top, .top, .top, .top,du l, .int .i64 (l.length:Int), .int .i64 (x.1:Int)]++List.replicate 19 .top,fun _=>none,x.2⟩)
   (fun x=>x.1<=l.length/\∀ j,j<x.1->xv l j=true) (fun x=>l.length-x.1) (0,1000) ?_ ⟨Nat.zero_le _,fun j hj=>absurd hj (Nat.not_lt_zero j)⟩ ?_
 . exact Wk.bc (by simp [Fg,List.replicate]) (by omega)
 rintro ⟨i,nn⟩ ⟨hi,cD⟩
 simp only [] at hi cD
 by_cases aN:i<l.length
 case neg =>
   have dd:decide ((i:Int)<(l.length:Int))=false:=ak (by omega)
   simp only [SS,List.replicate,dd]
   rw [OB fun j hj=>cD j (by omega)]
   exact ag▸ab rfl (af.bool _)
 obtain ⟨X,hX⟩:∃ X,l[i]? = some X:=⟨_,List.getElem?_eq_getElem aN⟩
 have hm:=List.mem_of_getElem? hX
 have dd:decide ((i:Int)<(l.length:Int))=true:=an (by omega)
 have hg:(l.map FX.av)[i]? = some X.av:=by rw [List.getElem?_map,hX];rfl
 have iB:bz 5 (du l) (.int .i64 (i:Int))=some (.ep X.av.cells 0):=aS rfl hg
 have ml:xv l i=((ec X).all fun n => !decide (dq (l.take i) n<0)):=by unfold xv;rw [hX]
 have Wm:=hn X hm
 have aep:=yl X hm
 have uN:af X.av:=FX.pure X
 simp only [SS,Nat.reduceAdd,List.replicate,dd,iB,az,FX.whole,je]
 rw [n9 (k:=(AV.agg [.str [], .int .i64 0, .nils, .nils, .bool false]).size) (by simp [aa.put])]
 simp only [SS,Nat.reduceAdd,ae,FX.whole]
 refine aj Wm (by simp [uN]) ?_
 simp only [SS,Nat.reduceAdd,dE,aE]
 refine VW.bR (α := Nat × Nat) (fun z=>⟨[du l, .top, .top, .int .i64 (i:Int), .top, .top, .top,du l, .int .i64 (l.length:Int), .int .i64 (i:Int), .top, .top, .top, .top, .top,strs (ec X), .int .i64 ((ec X).length:Int), .int .i64 (z.1:Int)]++List.replicate 11 .top,fun _=>none,z.2⟩)
   (fun z=>z.1<=(ec X).length/\∀ (j:Nat) s,j<z.1->(ec X)[j]? = some s->dq (l.take i) s<0->False) (fun z=>(ec X).length-z.1) (0,nn+1000) ?_ ⟨Nat.zero_le _,fun j s hj=>absurd hj (Nat.not_lt_zero j)⟩ ?_
 . exact Wk.forget (by simp [Fg,List.replicate]) (fun j => .inl rfl) (by omega)
 rintro ⟨k,mm⟩ ⟨hk,yk⟩
 simp only [] at hk yk
 by_cases H5:k<(ec X).length
 . obtain ⟨s,hs⟩:∃ s,(ec X)[k]? = some s:=⟨_,List.getElem?_eq_getElem H5⟩
   have d1:decide ((k:Int)<((ec X).length:Int))=true:=an (by omega)
   have AD:((ec X).map AV.str)[k]? = some (.str s):=by rw [List.getElem?_map,hs];rfl
   have mQ:bz 1 (strs (ec X)) (.int .i64 (k:Int))=some (.ep (AV.str s).cells 0):=aS rfl AD
   have Gm:part false (AV.str s).cells 0 1=some (.str s):=rfl
   simp only [SS,Nat.reduceAdd,List.replicate,d1,mQ,az,Gm,pA (Nat.le_of_lt aN)]
   refine aj (hf i s) (by simp [dx,af.str]) ?_
   simp only [SS,Nat.reduceAdd]
   by_cases hp:dq (l.take i) s<0
   . rw [an hp]
     simp only [SS]
     rw [Sn aN (by
       rw [ml,List.all_eq_false]
       exact ⟨s,List.mem_of_getElem? hs,by rw [an hp];decide⟩)]
     exact ag▸ab rfl (af.bool _)
   . rw [ak hp]
     simp only [SS,Nat.reduceAdd,aq k (by omega)]
     refine ⟨(k+1,mm+1000),⟨by simp only [];omega, ?_⟩,by simp only [];omega,Wk.bc (by simp [Fg]) (by omega)⟩
     intro j s' hj Ov
     by_cases B2:j<k
     . exact yk j s' B2 Ov
     . have:j=k:=by simp only [] at hj;omega
       subst this;rw [hs] at Ov;simp only [Option.some.injEq] at Ov;subst Ov;exact hp
 have Yc:xv l i=true:=by
   rw [ml,List.all_eq_true]
   intro s hs
   obtain ⟨j,hj,Ov⟩:=List.getElem_of_mem hs
   rw [ak (yk j s (by omega) (by rw [List.getElem?_eq_getElem hj,Ov]))]
   rfl
 have d1:decide ((k:Int)<((ec X).length:Int))=false:=ak (by omega)
 have Bo:∀ j,j<i+1->xv l j=true:=fun j hj=>by
   by_cases B2:j<i
   . exact cD j B2
   . rw [show j=i from by omega];exact Yc
 simp only [SS,Nat.reduceAdd,List.replicate,d1,aq i (by omega)]
 exact ⟨(i+1,mm+1000),⟨by simp only [];omega,Bo⟩,by simp only [];omega,Wk.bc (by simp [Fg]) (by omega)⟩
end
end Go.VL
end

section
set_option linter.unusedVariables false
set_option linter.unusedVariables false
namespace Go.VL
def fY (ls:List (List FX)) (now:Nat):dF:=⟨[bn ls now],2,false⟩
theorem View.Ye {σ : aa} (k:Nat):View σ .nils (.tsl k []):=fun G own E w v hi hr=>by
 simp only [aM] at hr ⊢;exact ⟨none,hr,Nat.zero_le _,by simp, .inl trivial⟩
theorem MN {hid:Id} {ls:List (List FX)} {now o:Nat} {σ : aa} (h : σ hid=some (fY ls now)):gi σ false 1 (.ref hid 0 o)=(part false (bn ls now).cells o 1).map fun v=>{ val:=v,rd:=[hid] }:=mJ (bk:=fY ls now) h rfl
theorem UW (ls:List (List FX)) (now:Nat):flat (fY ls now).els=[qq ls, .int .i64 (now:Int)]:=rfl
section
variable {P:Program} {G:Nat->Option (List AV)}
theorem jM {f:FuncId} (h:Has P f bH) {hid:Id} {ls:List (List FX)} {now:Nat} {l:List FX} (hl:ls[now]? = some l) (p:Id) :
   aB P G f [.ref hid 0 0] p [(hid,fY ls now)] { val:=du l,rd:=[hid] }:=by
 refine aB.has h ?_
 have e1:∀ o,gi (aa.of [(hid,fY ls now)]) false 1 (.ref hid 0 o)=(part false (bn ls now).cells o 1).map fun v=>{ val:=v,rd:=[hid] }:=fun o=>MN bF
 simp only [bH,SS,DD,Nat.reduceAdd,e1,sY,kt,MM hl,az,Jf]
 refine ⟨by simp [ar], ?_⟩
 exact aU▸aA rfl fun i => .inr rfl
theorem UX {f:FuncId} (h:Has P f ky) (p:Id):aB P G f [] p [] { val := .ref (3::p) 0 0,up:=[(3::p,some (fY [[]] 0))] }:=by
 refine aB.has h ?_
 have hb:∀ (σ : aa) (q:Id),cl σ q (.buildSl 1 1 .nils [(0, .nils)])=some { val := .osl q 1 0 1 false,up:=[(q,some ⟨[.nils],1,false⟩)] }:=fun σ q=>WQ rfl rfl rfl rfl
 have e:∀ q:Id,pg [.nils, .int .i64 0] [(0,(1, .osl q 1 0 1 false))]=some [.osl q 1 0 1 false, .int .i64 0]:=fun q=>rfl
 have z1:∀ q:Id,(AV.cells (.agg [.osl q 1 0 1 false, .int .i64 0])).all AV.one=true:=fun q=>rfl
 simp only [ky,SS,Nat.reduceAdd,hb,e,z1]
 refine aU▸⟨_,rfl,Fin.rm [(1::p,⟨[.nils],1,false⟩)] ?_ (kT.same _ _) ?_⟩
 . intro x hx;simp only [List.mem_singleton] at hx;subst hx;simp [aa.put]
 . intro i
   by_cases hi:i=3::p
   . subst hi
     refine .inr ⟨⟨[.agg [.osl (1::p) 1 0 1 false, .int .i64 0]],2,false⟩,fY [[]] 0,by simp [aa.put,AV.size,AV.cells],by simp [aa.app,aa.put],rfl, .inl rfl, ?_,rfl, ?_, ?_⟩
     . intro _ x hx;simp only [List.mem_singleton] at hx;subst hx;simp
     . intro e he;simp [fY] at he;subst he;rfl
     . refine ⟨kT.view ?_,kT.same _ _,trivial⟩
       exact View.osl (bk:=⟨[.nils],1,false⟩) bF rfl (Nat.le_refl _) (aY.cons (View.nils 5) .nil) rfl (by simp;rfl)
   . left;simp [aa.app,aa.put,hi,aa.of]
theorem sZ {f:FuncId} (h:Has P f aX):VP P G f [du []] (.tsl 5 []):=by
 refine VP.has h ?_
 simp only [aX,du,List.map_nil,SS,Nat.reduceAdd,I7,fj (e9 (k:=5) (es:=[]))]
 exact ⟨ag▸⟨.nils,rfl,View.Ye 5⟩,ag▸⟨_,rfl,View.pure (af.tsl (by simp [flat]))⟩⟩
theorem s5 {f:FuncId} (h:Has P f aX) {l:List FX} (bY:l≠[]) (hl:l.length<=1000) (p:Id) :
   aB P G f [du l] p [] { val := .osl (5::p) 5 0 l.length false,rd:=[],up:=[(5::p,some ⟨l.map FX.av,5,false⟩)] }:=by
 have:=Og (G:=G) h (l:=l.map FX.eJ) (by simpa using bY) (by simp;omega) p
 rw [Fs,List.length_map,List.map_map] at this
 exact this
theorem Jh {f fp fq fs:FuncId} (h:Has P f (cL fp fq fs)) (hp:Has P fp bH) {hid:Id} {ls:List (List FX)} {now:Nat} {l:List FX} (hl:ls[now]? = some l)
   (hq:VP P G fq [du l,du l, .fn (.func fs) [] []] (.bool true)) (p:Id):aB P G f [.ref hid 0 0,du l] p [(hid,fY ls now)] { val := .int .i64 0,rd:=[hid] }:=by
 refine aB.has h ?_
 simp only [cL,SS,Nat.reduceAdd]
 refine ⟨_,_,jM hp hl _,by simp [bF],by simp, ?_⟩
 simp only [SS,Nat.reduceAdd]
 refine aj hq (by intro x hx;simp at hx;rcases hx with rfl | rfl;exact dx l;exact af.fn (by simp) (by simp)) ?_
 simp only [SS,Nat.reduceAdd]
 exact aU▸aA rfl fun i => .inr rfl
theorem KV {f fp fq fs:FuncId} (h:Has P f (cL fp fq fs)) (hp:Has P fp bH) {hid:Id} {ls:List (List FX)} {now:Nat} {l l':List FX} (hl:ls[now]? = some l) (xD:ls.length<=1000)
   (hq:VP P G fq [du l',du l, .fn (.func fs) [] []] (.bool false)) (p:Id) (qJ:∀ q,q::p≠hid) :
   aB P G f [.ref hid 0 0,du l'] p [(hid,fY ls now)] { val := .int .i64 0,rd:=[hid],up:=[(hid,some (fY (ls.take (now+1)++[l']) (now+1)))] }:=by
 refine aB.has h ?_
 have aN:=(List.getElem?_eq_some_iff.1 hl).1
 have e1:∀ o,gi (aa.of [(hid,fY ls now)]) false 1 (.ref hid 0 o)=(part false (bn ls now).cells o 1).map fun v=>{ val:=v,rd:=[hid] }:=fun o=>MN bF
 have w1:=aq now (by omega)
 have Cn:bZ 1 (qq ls) none (some (.int .i64 ((now+1:Nat):Int))) (some (.int .i64 ((now+1:Nat):Int)))=some (.tsl 1 ((ls.take (now+1)).map du)):=by
   have hle:now+1<=ls.length:=aN
   have Xi:(now:Int)+1<=ls.length:=by omega
   have h0:(0:Int)<=(now:Int)+1:=by omega
   have ht:((now:Int)+1).toNat=now+1:=by omega
   simp [bZ,cN,dY,tf,Xi,h0,ht,List.map_take,qq]
 simp only [cL,SS,Nat.reduceAdd]
 refine ⟨_,_,jM hp hl _,by simp [bF],by simp, ?_⟩
 simp only [SS,Nat.reduceAdd]
 refine aj hq (by intro x hx;simp at hx;rcases hx with rfl | rfl | rfl;exact dx l';exact dx l;exact af.fn (by simp) (by simp)) ?_
 simp only [SS,DD,Nat.reduceAdd,e1,sY,kt,w1,Cn,Wc]
 have mR:(((ls.take (now+1)).map du++[du l']).all fun e=>e.cells.all AV.one)=true:=by
   rw [List.all_append,DH];rfl
 have hlen:(((ls.take (now+1)).map du).length+[du l'].length)=now+2:=by simp;omega
 have zJ:=gU (σ := (aa.of [(hid,fY ls now)]).put (23::p) (some ⟨[du l'],1,false⟩)) (p:=24::p) (k:=1) (bytes:=24) (x := .osl (23::p) 1 0 1 false) (es:=(ls.take (now+1)).map du) (ys:=[du l']) (rd:=[23::p])
   (by simp [dD,aa.put]) (by simp) (by rw [hlen];omega) (by rw [hlen];exact cO (by omega)) mR
 rw [hlen] at zJ
 have pK:=cE (σ := ((aa.of [(hid,fY ls now)]).put (23::p) (some ⟨[du l'],1,false⟩)).put (24::p) (some ⟨(ls.take (now+1)).map du++[du l'],1,false⟩)) (id:=hid) (els:=[bn ls now]) (k:=2) (n:=1) (e:=0) (o:=0)
   (el:=bn ls now) (v := .osl (24::p) 1 0 (now+2) false) (by simp [aa.put,(qJ 23).symm,(qJ 24).symm,aa.of,fY]) rfl rfl (by simp [bn,AV.size,AV.cells]) rfl
 simp only [zJ,SS,DD,Nat.reduceAdd,pK]
 refine ⟨?_, ?_⟩
 . have n23:=qJ 23
   simp [ar,apart,n23]
 simp only [SS,Nat.reduceAdd,n8,Jg,ae,Bq,w1]
 have aeq:∀ σ : aa,eO (σ.put hid (some ⟨[.agg [.osl (24::p) 1 0 (now+2) false, .int .i64 now]],2,false⟩)) 1 (.ref hid 0 1) (.int .i64 ((now+1:Nat):Int))=some { val := .tup [],rd:=[hid],up:=[(hid,some ⟨[.agg [.osl (24::p) 1 0 (now+2) false, .int .i64 ((now+1:Nat):Int)]],2,false⟩)] }:=by
   intro σ
   rw [cE (n:=1) (v := .int .i64 ((now+1:Nat):Int)) (els:=[.agg [.osl (24::p) 1 0 (now+2) false, .int .i64 now]]) (k:=2) (aa.bd _ _ _) rfl rfl (by simp [AV.size,AV.cells]) rfl]
   rfl
 simp only [SS,Nat.reduceAdd,aeq]
 refine aU▸⟨_,rfl,Fin.rm [(24::p,⟨(ls.take (now+1)).map du++[du l'],1,false⟩)] ?_ (kT.same _ _) ?_⟩
 . intro x hx;simp only [List.mem_singleton] at hx;subst hx;simp [aa.put,qJ 24]
 . intro i
   by_cases hi:i=hid
   . subst hi
     refine .inr ⟨⟨[.agg [.osl (24::p) 1 0 (now+2) false, .int .i64 ((now+1:Nat):Int)]],2,false⟩,fY (ls.take (now+1)++[l']) (now+1),by simp [aa.put],by simp [aa.app,aa.put],rfl, .inl rfl, ?_,rfl, ?_, ?_⟩
     . intro _ x hx;simp only [List.mem_singleton] at hx;subst hx;exact qJ 24
     . intro e he;simp [fY] at he;subst he;rfl
     . have hm:(ls.take (now+1)).map du++[du l']=(ls.take (now+1)++[l']).map du:=by simp
       have hn:(ls.take (now+1)++[l']).length=now+2:=by simp;omega
       rw [UW,hm, <- hn]
       exact ⟨kT.view (Fq bF),kT.same _ _,trivial⟩
   . left;simp [aa.app,aa.put,hi,aa.of]
end
end Go.VL
end

section
set_option linter.unusedVariables false
set_option linter.unusedVariables false
namespace Go.VL
noncomputable def DJ (hid:Id) (ls:List (List FX)) (now:Nat) (l m:List FX):List (Id × Option dF):=if gZ m l=true then [] else [(hid,some (fY (ls.take (now+1)++[m]) (now+1)))]
theorem qt {hid:Id} {ls:List (List FX)} {now:Nat} {l m:List FX}:∀ x∈DJ hid ls now l m,x.1=hid:=by
 intro x hx
 unfold DJ at hx
 split at hx
 . simp at hx
 . simp at hx;rw [hx]
theorem J3 {σ τ : aa} {i:Id} (h : σ i = τ i):∀ up:List (Id × Option dF),(σ.app up) i=(τ.app up) i:=by
 intro up
 induction up generalizing σ τ with
 | nil=>exact h
 | cons x up ih =>
   refine ih ?_
   by_cases e:i=x.1
   . subst e;rw [aa.bd,aa.bd]
   . rw [aa.bj _ _ _ e,aa.bj _ _ _ e,h]
theorem MO {σ : aa} {i:Id}:∀ up:List (Id × Option dF),(∀ x∈up,x.1≠i)->(σ.app up) i = σ i:=by
 intro up
 induction up generalizing σ with
 | nil=>intro _;rfl
 | cons x up ih =>
   intro h
   refine (ih fun y hy=>h y (List.mem_cons_of_mem _ hy)).trans ?_
   exact aa.bj _ _ _ (h x List.mem_cons_self).symm
theorem gg {hid:Id} {b:dF} {σ : aa} {up:List (Id × Option dF)} (hup:∀ x∈up,x.1=hid) (hσ : σ hid=some b) (i:Id):(aa.of [(hid,b)]).app up i=none∨(aa.of [(hid,b)]).app up i=(σ.app up) i:=by
 by_cases e:i=hid
 . subst e;right;exact J3 (by rw [hσ,bF]) up
 . left
   rw [MO up fun x hx he=>e ((hup x hx)▸he).symm]
   simp [aa.of,e]
section
variable {P:Program} {G:Nat->Option (List AV)} {π : Id} {base:Nat} {Q:cH->VS->Prop} {n:Nat} {d:Option Nat} {os:List bu} {i:Nat} {t:List AV} {σ : aa}
theorem kA {yc:FuncId} {hid id:Id} {ls:List (List FX)} {now:Nat} {x:AV} {m:List FX} {bk:dF} {up:List (Id × Option dF)} (h:aB P G yc [.ref hid 0 0,du m] ((base+i) :: π) [(hid,fY ls now)] { val := .int .i64 0,rd:=[hid],up:=up })
   (hv:View (aa.of [(id,bk)]) x (du m)) (bY:id≠hid) (uD:∀ e∈bk.els,e.size=bk.k) (h1 : σ id=some bk) (h2 : σ hid=some (fY ls now)) (k:vs P G π base Q n os (i+1) (fK t d (.int .i64 0)) ((σ.app (rm [(id,bk)])).app up)) :
   pM P G π base Q n d os i t σ yc [.ref hid 0 0,x]:=by
 refine ⟨[(id,bk)]++[(hid,fY ls now)],_,aB.TQ (args:=[.ref hid 0 0,x]) [(id,bk)] h ⟨kT.same _ _,kT.view hv,trivial⟩ ?_ ?_, ?_, ?_, ?_⟩
 . intro y hy z hz;simp only [List.mem_singleton] at hy hz;subst hy hz;exact bY
 . intro y hy;simp only [List.mem_singleton] at hy;subst hy;exact uD
 . intro y hy
   simp only [List.mem_append,List.mem_singleton] at hy
   rcases hy with rfl | rfl
   . exact h1
   . exact h2
 . intro y hy
   simp only [List.mem_append,List.mem_singleton] at hy
   rcases hy with rfl | rfl<;>simp
 . rw [tq];exact k
end
structure HH (P:Program) (G:Nat->Option (List AV)) (bh:FX->Prop) (fp fv ff fc Av fs yc:FuncId):Prop where
 present:Has P fp bH
 valid:∀ X,bh X->VP P G fv [X.av] (.bool X.valid)
 find:∀ (l:List FX) (nm:List UInt8),l.length<=1000->(∀ X∈l,bh X)->VP P G ff [du l, .str nm] (.int .i64 (dq l nm))
 cloneL:Has P fc aX
 clone:∀ X,bh X->VP P G Av [X.av] X.av
 sat:∀ l:List FX,l.length<=1000->(∀ X∈l,bh X)->VP P G fs [du l] (.bool (pC l))
 change:∀ (hid:Id) (ls:List (List FX)) (now:Nat) (l m:List FX) (p:Id),ls[now]? = some l->ls.length<=1000->l.length<=1000->m.length<=1000->(∀ X∈l,bh X)->(∀ X∈m,bh X)->(∀ q,q::p≠hid) ->
   aB P G yc [.ref hid 0 0,du m] p [(hid,fY ls now)] { val := .int .i64 0,rd:=[hid],up:=DJ hid ls now l m }
noncomputable def Ji (hid:Id) (ls:List (List FX)) (now:Nat) (l:List FX) (X:FX):Int × List (Id × Option dF) :=
 if X.valid=false then (1,[]) else if l.length=200 then (3,[]) else if 0<=dq l X.name then (5,[]) else if pC (l++[X])=true then (0,DJ hid ls now l (l++[X])) else (4,[])
theorem wL {l:List FX}:∀ e∈l.map FX.av,e.size=5:=by intro e he;obtain ⟨X,_,rfl⟩:=List.mem_map.1 he;rfl
section
variable {P:Program} {G:Nat->Option (List AV)} {bh:FX->Prop} {f fp fv ff fc Av fs yc:FuncId}
set_option maxHeartbeats 4000000 in
theorem KW (h:Has P f (ey fp fv ff fc Av fs yc)) (H:HH P G bh fp fv ff fc Av fs yc) {hid:Id} {ls:List (List FX)} {now:Nat} {l:List FX} (hl:ls[now]? = some l) (xD:ls.length<=1000)
   (hlen:l.length<=200) (hg:∀ X∈l,bh X) (X:FX) (hX:bh X) (p:Id) (qJ : ¬ p <:+ hid) :
   aB P G f [.ref hid 0 0,X.av] p [(hid,fY ls now)] { val := .int .i64 (Ji hid ls now l X).1,rd:=[hid],up:=(Ji hid ls now l X).2 }:=by
 unfold Ji
 have bY:∀ q:Id,q++p≠hid:=fun q e=>qJ ⟨q,e⟩
 have n0:(0::p)≠hid:=bY [0]
 have n23:(23::p)≠hid:=bY [23]
 have n24:(24::p)≠hid:=bY [24]
 have Yf:(5::20::p)≠hid:=bY [5,20]
 have n05:(0::p)≠5::20::p:=by simp
 have Wf:af X.av:=FX.pure X
 have GJ:∀ Y∈l++[X],bh Y:=by
   intro Y hY
   rcases List.mem_append.1 hY with h1 | h1
   . exact hg Y h1
   . rw [List.mem_singleton] at h1;subst h1;exact hX
 have hL:(l++[X]).length<=1000:=by simp;omega
 refine aB.has h ?_
 simp only [ey,SS,Nat.reduceAdd,FX.one]
 refine ⟨[(hid,fY ls now)],_,jM H.present hl _,by simp [aa.put,n0.symm,bF],by simp, ?_⟩
 simp only [SS,Nat.reduceAdd,ae,FX.whole]
 refine aj (H.valid X hX) (by simp [Wf]) ?_
 cases kX:X.valid
 . rw [if_pos rfl]
   simp only [SS,Nat.reduceAdd]
   exact aU▸aA rfl (gg (up:=[]) (by simp) (by simp [aa.put,n0.symm,bF]))
 rw [if_neg (by decide)]
 simp only [SS,Nat.reduceAdd,mu]
 by_cases h2:l.length=200
 . rw [if_pos h2,an (by omega:(l.length:Int)=200)]
   simp only [SS,Nat.reduceAdd]
   exact aU▸aA rfl (gg (up:=[]) (by simp) (by simp [aa.put,n0.symm,bF]))
 rw [if_neg h2,ak (by omega : ¬ (l.length:Int)=200)]
 simp only [SS,Nat.reduceAdd,ae,FX.c0]
 refine aj (H.find l X.name (by omega) hg) (by simp [dx,af.str]) ?_
 simp only [SS,Nat.reduceAdd]
 by_cases h3:0<=dq l X.name
 . rw [if_pos h3,an h3]
   simp only [SS,Nat.reduceAdd]
   exact aU▸aA rfl (gg (up:=[]) (by simp) (by simp [aa.put,n0.symm,bF]))
 rw [if_neg h3,ak h3]
 simp only [SS,DD,Nat.reduceAdd]
 by_cases h0:l=[]
 . subst h0
   refine ax (sZ H.cloneL) (by simp [dx]) ?_
   simp only [SS,DD,Nat.reduceAdd,ae,FX.whole]
   refine ax (H.clone X hX) (by simp [Wf]) ?_
   simp only [SS,DD,Nat.reduceAdd,xu]
   rw [q8,zu (X:=X) (by simp [aa.put]) (by simp)]
   simp only [SS,DD,Nat.reduceAdd]
   refine ⟨by simp [ar,apart], ?_⟩
   rw [List.nil_append] at GJ hL
   refine eK (H.sat [X] hL GJ) (cj.bool _) (by simp [aa.put]) ?_
   cases hB:pC [X]
   . simp only [SS,Nat.reduceAdd]
     exact aU▸aA rfl (gg (up:=[]) (by simp) (by simp [aa.put,n0.symm,n23.symm,n24.symm,bF]))
   . simp only [SS,Nat.reduceAdd]
     refine kA (id:=24::p) (bk:=⟨[X].map FX.av,5,false⟩) (H.change hid ls now [] [X] _ hl xD (by simp) hL hg GJ (fun q=>bY [q,_])) (dX (l:=[X]) (by simp [aa.of])) n24 wL (by simp [aa.put]) (by simp [aa.put,n0.symm,n23.symm,n24.symm,bF]) ?_
     simp only [SS,Nat.reduceAdd]
     exact aU▸aA rfl (gg qt (by simp [aa.put,aa.app,rm,n0.symm,n23.symm,n24.symm,bF]))
 . refine ⟨[],_,s5 H.cloneL h0 (by omega) _,by simp,by simp, ?_⟩
   simp only [SS,DD,Nat.reduceAdd]
   rw [ai n05,ae,FX.whole]
   simp only [SS,DD,Nat.reduceAdd]
   refine ax (H.clone X hX) (by simp [Wf]) ?_
   simp only [SS,DD,Nat.reduceAdd,xu]
   rw [wo (l:=l) (X:=X) (by simp [aa.put]) (by simp [aa.put]) (by omega)]
   simp only [SS,DD,Nat.reduceAdd]
   refine ⟨by simp [ar,apart], ?_⟩
   refine eK (H.sat _ hL GJ) (cj.bool _) (by simp [aa.put]) ?_
   cases hB:pC (l++[X])
   . simp only [SS,Nat.reduceAdd]
     exact aU▸aA rfl (gg (up:=[]) (by simp) (by simp [aa.put,n0.symm,n23.symm,n24.symm,Yf.symm,bF]))
   . simp only [SS,Nat.reduceAdd]
     refine kA (id:=24::p) (bk:=⟨(l++[X]).map FX.av,5,false⟩) (H.change hid ls now l (l++[X]) _ hl xD (by omega) hL hg GJ (fun q=>bY [q,_])) (dX (l:=l++[X]) (by simp [aa.of])) n24 wL (by simp [aa.put]) (by simp [aa.put,n0.symm,n23.symm,n24.symm,Yf.symm,bF]) ?_
     simp only [SS,Nat.reduceAdd]
     exact aU▸aA rfl (gg qt (by simp [aa.put,aa.app,rm,n0.symm,n23.symm,n24.symm,Yf.symm,bF]))
end
end Go.VL
end
