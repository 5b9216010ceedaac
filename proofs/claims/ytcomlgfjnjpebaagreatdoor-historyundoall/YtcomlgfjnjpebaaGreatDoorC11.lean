/- For the claim of HistoryUndoAll: parts CG2, CG3, CG4, CG5, CG6, CG7, CG8, CG9, CG10, CG11, CG12, CH5, CH6, CH7, CG13, CG14, CG15. -/
import Derived.Test.YtcomlgfjnjpebaaGreatDoorC10
set_option linter.unusedSimpArgs false
set_option linter.unusedVariables false
section
set_option linter.unusedVariables false
set_option linter.unusedVariables false
namespace Go.VL
theorem lR {α β : Type} (a a' : α) (b b' : β):gY (a,b) (a',b')=(gY a a'&&gY b b'):=by
 by_cases ha:a=a'
 . by_cases hb:b=b'
   . rw [bT ha,bT hb,bT (by rw [ha,hb])];rfl
   . rw [bT ha,bj hb,bj (fun e=>hb (Prod.mk.inj e).2)];rfl
 . rw [bj ha,bj (fun e=>ha (Prod.mk.inj e).1)];rfl
theorem A4 {α β : Type} {a a' : α} {b b' : β} (h:a=a'↔b=b'):gY a a'=gY b b':=by
 by_cases hb:b=b'
 . rw [bT hb,bT (h.2 hb)]
 . rw [bj hb,bj (fun e=>hb (h.1 e))]
section
variable (op:Int) (n1:Bool) (w1:List Nat) (n2:Bool) (w2:List Nat) (nm:List UInt8) (args:List EX)
theorem EX.q12:part true (EX.mk op n1 w1 n2 w2 nm args).av.cells 1 2=some (IR n1 w1):=by rw [EX.av];rfl
theorem EX.q34:part true (EX.mk op n1 w1 n2 w2 nm args).av.cells 3 2=some (IR n2 w2):=by rw [EX.av];rfl
theorem Yr:part true (RR n1 w1 n2 w2).cells 0 2=some (IR n1 w1):=rfl
theorem Ys:part true (RR n1 w1 n2 w2).cells 2 2=some (IR n2 w2):=rfl
variable (MX:Int) (DC:Bool) (Cj:List Nat) (DF:Bool) (Ck:List Nat) (Pd:List UInt8) (gv:List EX)
theorem EX.GN:gY (EX.mk op n1 w1 n2 w2 nm args) (EX.mk MX DC Cj DF Ck Pd gv)=(gY op MX&&gY nm Pd&&gY (n1,w1) (DC,Cj)&&gY (n2,w2) (DF,Ck)&&gY args gv):=by
 rw [<- lR, <- lR, <- lR, <- lR]
 refine A4 ⟨fun e => ?_,fun e => ?_⟩
 . cases e;rfl
 . simp only [Prod.mk.injEq] at e
   obtain ⟨⟨⟨⟨rfl,rfl⟩,rfl,rfl⟩,rfl,rfl⟩,rfl⟩:=e
   rfl
end
section
variable {P:Program} {G:Nat->Option (List AV)}
theorem Sz {f fi fq:FuncId} (h:Has P f (o9 fi fq f)) (hi:∀ b b' ws M5,ws.length<=9223372036854775807->M5.length<=9223372036854775807->VP P G fi [IR b ws,IR b' M5] (.bool (gY (b,ws) (b',M5))))
   (hq:Has P fq aP):∀ e:EX,e.Ok->∀ e':EX,e'.Ok->VP P G f [e.av,e'.av] (.bool (gY e e')):=EX.induct fun op n1 w1 n2 w2 nm args ih mo e' K8=>by
 cases e' with
 | mk MX DC Cj DF Ck Pd gv =>
 have R7:=EX.rf mo
 have Yt:=EX.rf K8
 rw [EX.Ok] at mo K8
 obtain ⟨_,_,_,_,mU,uI,_,Wx,_⟩:=mo
 obtain ⟨_,_,_,_,Yu,Yv,_,abr,_⟩:=K8
 have eE:([0]:List Nat)≠[1]:=by decide
 have Yw:=cW (G:=G) hq EX.av EX.size EX.pure (fun x=>of_eq_true (EX.one x)) EX.all EX.upd args gv Wx abr (fun x hx y hy=>ih x hx (R7 x hx) y (Yt y hy))
 rw [<- EX.cF, <- EX.cF] at Yw
 have Ua:=hi n1 DC w1 Cj mU Yu
 have EH:=hi n2 DF w2 Ck uI Yv
 rw [EX.GN]
 generalize gY (n1,w1) (DC,Cj)=b1 at Ua ⊢
 generalize gY (n2,w2) (DF,Ck)=b2 at EH ⊢
 generalize gY args gv=b3 at Yw ⊢
 have d0:=eq_int op MX
 have d1:=Sy nm Pd
 generalize gY op MX=a0 at d0 ⊢
 generalize gY nm Pd=a1 at d1 ⊢
 refine VP.has h ?_
 simp only [o9,SS,Nat.reduceAdd,EX.one,ai eE,ae,EX.q0,d0]
 cases a0
 . simp only [SS,Nat.reduceAdd,Bool.false_and]
   exact ag▸ab rfl (af.bool _)
 simp only [SS,Nat.reduceAdd,ai eE,ae,EX.q5,d1]
 cases a1
 . simp only [SS,Nat.reduceAdd,Bool.false_and,Bool.true_and]
   exact ag▸ab rfl (af.bool _)
 simp only [SS,Nat.reduceAdd,ai eE,ae,EX.q12]
 refine aj Ua (by simp [wS]) ?_
 cases b1
 . simp only [SS,Nat.reduceAdd,Bool.false_and,Bool.true_and]
   exact ag▸ab rfl (af.bool _)
 simp only [SS,Nat.reduceAdd,ai eE,ae,EX.q34]
 refine aj EH (by simp [wS]) ?_
 cases b2
 . simp only [SS,Nat.reduceAdd,Bool.false_and,Bool.true_and]
   exact ag▸ab rfl (af.bool _)
 simp only [SS,Nat.reduceAdd,ai eE,ae,EX.q6]
 refine aj Yw (by simp [EX.eJ,kq]) ?_
 simp only [SS,Nat.reduceAdd,Bool.true_and]
 exact ag▸ab rfl (af.bool _)
theorem Vc {f fs fq fe:FuncId} (h:Has P f (pW fs fq fe)) (hs:∀ l m:List (List UInt8),l.length<=9223372036854775807->m.length<=9223372036854775807->VP P G fs [strs l,strs m] (.bool (gY l m)))
   (hq:Has P fq aP) (he:∀ e:EX,e.Ok->∀ e':EX,e'.Ok->VP P G fe [e.av,e'.av] (.bool (gY e e'))) (X Y:FX) (hX:X.Ok) (hY:Y.Ok):VP P G f [X.eG.av,Y.eG.av] (.bool (gY X Y)):=by
 have eE:([0]:List Nat)≠[1]:=by decide
 have Yw:=cW (G:=G) hq EX.av EX.size EX.pure (fun x=>of_eq_true (EX.one x)) EX.all EX.upd X.vals Y.vals hX.vl hY.vl (fun x hx y hy=>he x (hX.vals x hx) y (hY.vals y hy))
 rw [<- EX.cF, <- EX.cF] at Yw
 have WA:=hs X.inputs Y.inputs hX.ins hY.ins
 have e:gY X Y=(gY X.name Y.name&&gY X.kind Y.kind&&gY X.supp Y.supp&&gY X.inputs Y.inputs&&gY X.vals Y.vals):=by
   rw [<- lR, <- lR, <- lR, <- lR]
   refine A4 ⟨fun e=>by rw [e],fun e => ?_⟩
   simp only [Prod.mk.injEq] at e
   cases X;cases Y
   obtain ⟨⟨⟨⟨h1,h2⟩,h3⟩,h4⟩,h5⟩:=e
   simp only at h1 h2 h3 h4 h5
   rw [h1,h2,h3,h4,h5]
 have p0:∀ Z:FX,part false Z.eG.av.cells 0 1=some (.str Z.name):=fun Z=>rfl
 have p1:∀ Z:FX,part false Z.eG.av.cells 1 1=some (.int .i64 Z.kind):=fun Z=>rfl
 have p2:∀ Z:FX,part false Z.eG.av.cells 2 1=some (strs Z.inputs):=fun Z=>rfl
 have p3:∀ Z:FX,part false Z.eG.av.cells 3 1=some (.sl 7 (EX.kV Z.vals)):=fun Z=>rfl
 have p4:∀ Z:FX,part false Z.eG.av.cells 4 1=some (.bool Z.supp):=fun Z=>rfl
 have d0:=Sy X.name Y.name
 have d1:=eq_int X.kind Y.kind
 have d2:=M4 X.supp Y.supp
 rw [e]
 generalize gY X.name Y.name=a0 at d0 ⊢
 generalize gY X.kind Y.kind=a1 at d1 ⊢
 generalize gY X.supp Y.supp=a2 at d2 ⊢
 generalize gY X.inputs Y.inputs=b1 at WA ⊢
 generalize gY X.vals Y.vals=b2 at Yw ⊢
 refine VP.has h ?_
 simp only [pW,SS,Nat.reduceAdd,bL.one,ai eE,ae,p0,d0]
 cases a0
 . simp only [SS,Nat.reduceAdd,Bool.false_and]
   exact ag▸ab rfl (af.bool _)
 simp only [SS,Nat.reduceAdd,ai eE,ae,p1,d1]
 cases a1
 . simp only [SS,Nat.reduceAdd,Bool.false_and,Bool.true_and]
   exact ag▸ab rfl (af.bool _)
 simp only [SS,Nat.reduceAdd,ai eE,ae,p4,d2]
 cases a2
 . simp only [SS,Nat.reduceAdd,Bool.false_and,Bool.true_and]
   exact ag▸ab rfl (af.bool _)
 simp only [SS,Nat.reduceAdd,ai eE,ae,p2]
 refine aj WA (by simp [gX]) ?_
 cases b1
 . simp only [SS,Nat.reduceAdd,Bool.false_and,Bool.true_and]
   exact ag▸ab rfl (af.bool _)
 simp only [SS,Nat.reduceAdd,ai eE,ae,p3]
 refine aj Yw (by simp [EX.eJ,kq]) ?_
 simp only [SS,Nat.reduceAdd,Bool.true_and]
 exact ag▸ab rfl (af.bool _)
end
end Go.VL
end

section
set_option linter.unusedVariables false
set_option linter.unusedVariables false
namespace Go.VL
theorem wC {α : Type} {l m:List α} (hlen:l.length=m.length) {i:Nat} (h:l.take i=m.take i) (hi : ¬ i<l.length):gY l m=true :=
 bT (by rw [List.take_of_length_le (by omega),List.take_of_length_le (by omega)] at h;exact h)
theorem zE {α : Type} {l m:List α} (h:l.length≠m.length):gY l m=false:=bj (fun e=>h (by rw [e]))
theorem DN {α : Type} {l m:List α} {i:Nat} {x y : α} (hx:l[i]? = some x) (hy:m[i]? = some y) (h:x≠y):gY l m=false :=
 bj (fun e=>h (by rw [e,hy] at hx;exact (Option.some.inj hx).symm))
theorem te {α : Type} {l m:List α} {i:Nat} {x : α} (h:l.take i=m.take i) (hx:l[i]? = some x) (hy:m[i]? = some x):l.take (i+1)=m.take (i+1):=by
 rw [List.take_add_one,List.take_add_one,hx,hy,h]
section
variable {P:Program} {G:Nat->Option (List AV)}
theorem DO {f:FuncId} (h:Has P f eA) (b b':Bool) (l m:List Nat) (hl:l.length<=9223372036854775807) (hm:m.length<=9223372036854775807):VP P G f [IR b l,IR b' m] (.bool (gY (b,l) (b',m))):=by
 have eE:([0]:List Nat)≠[1]:=by decide
 rw [lR]
 have Tc:∀ ws,jM false (.sl 1 (us ws))=some (.int .i64 ws.length):=fun ws=>by simp [jM,dD]
 by_cases hb:b=b'
 case neg =>
   have d1:(!(b==b'))=true:=by simp [hb]
   rw [bj hb]
   refine VP.has h ?_
   simp only [eA,SS,Nat.reduceAdd,yb,ai eE,ae,Jo,d1,Bool.false_and]
   exact ag▸ab rfl (af.bool _)
 have d1:(!(b==b'))=false:=by simp [hb]
 rw [bT hb,Bool.true_and]
 by_cases hlen:l.length=m.length
 case neg =>
   have d0:decide ((l.length:Int)≠(m.length:Int))=true:=ao (by omega)
   rw [zE hlen]
   refine VP.has h ?_
   simp only [eA,SS,Nat.reduceAdd,yb,ai eE,ae,Jo,FG,Tc,d1,d0]
   exact ag▸ab rfl (af.bool _)
 have d0:decide ((l.length:Int)≠(m.length:Int))=false:=ak (by omega)
 refine VP.has h ?_
 simp only [eA,SS,Nat.reduceAdd,yb,ai eE,ae,Jo,FG,Tc,d1,d0,aC]
 refine VW.bJ (α := Nat × Nat) (fun x=>⟨[IR b l,IR b' m, .ref [0] 0 0, .ref [1] 0 0, .bool false, .int .i64 (x.1:Int)]++List.replicate 32 .top,aa.put (aa.put (fun _=>none) [0] (some ⟨[IR b l],2,false⟩)) [1] (some ⟨[IR b' m],2,false⟩),x.2⟩)
   (fun x=>x.1<=l.length/\l.take x.1=m.take x.1) (fun x=>l.length-x.1) (0,1000) ?_ ⟨Nat.zero_le _,by simp⟩ ?_
 . exact Wk.forget (by simp [Fg,List.replicate]) (fun j => .inr rfl) (by omega)
 rintro ⟨i,nn⟩ ⟨hi,cz⟩
 simp only [] at hi cz
 by_cases hlt:i<l.length
 . obtain ⟨x,hx⟩:∃ x,l[i]? = some x:=⟨_,List.getElem?_eq_getElem hlt⟩
   obtain ⟨y,hy⟩:∃ y,m[i]? = some y:=⟨_,List.getElem?_eq_getElem (by omega)⟩
   have dd:decide ((i:Int)<(l.length:Int))=true:=ao (by omega)
   have hgx:(us l)[i]? = some (.int .u32 (x:Int)):=by rw [us,List.getElem?_map,hx];rfl
   have Ew:(us m)[i]? = some (.int .u32 (y:Int)):=by rw [us,List.getElem?_map,hy];rfl
   have B6:∀ z:Nat,part false (AV.int .u32 (z:Int)).cells 0 1=some (.int .u32 (z:Int)):=fun z=>rfl
   have mR:br 1 (.sl 1 (us l)) (.int .i64 (i:Int))=some (.ep (AV.int .u32 (x:Int)).cells 0):=aQ rfl hgx
   have td:br 1 (.sl 1 (us m)) (.int .i64 (i:Int))=some (.ep (AV.int .u32 (y:Int)).cells 0):=aQ rfl Ew
   by_cases pO:x=y
   . have hne:decide ((x:Int)≠(y:Int))=false:=by rw [wB,bT pO];rfl
     simp only [SS,DD,Nat.reduceAdd,List.replicate,ai eE,ae,FG,Tc,dd,mR,td,az,B6,hne,aq i (by omega)]
     refine ⟨by simp [ar,apart],(i+1,nn+1000),⟨by simp only [];omega, ?_⟩,by simp only [];omega,Wk.slots (by simp [Fg]) (by omega)⟩
     exact te cz hx (pO▸hy)
   . have hne:decide ((x:Int)≠(y:Int))=true:=by rw [wB,bj pO];rfl
     rw [DN hx hy pO]
     simp only [SS,DD,Nat.reduceAdd,List.replicate,ai eE,ae,FG,Tc,dd,mR,td,az,B6,hne]
     refine ⟨by simp [ar,apart], ?_⟩
     exact ag▸ab rfl (af.bool _)
 . have dd:decide ((i:Int)<(l.length:Int))=false:=ak (by omega)
   rw [wC hlen cz hlt]
   simp only [SS,Nat.reduceAdd,List.replicate,ai eE,ae,FG,Tc,dd]
   exact ag▸ab rfl (af.bool _)
theorem SA {f fs:FuncId} (h:Has P f (kL fs)) (n1:Bool) (w1:List Nat) (n2:Bool) (w2:List Nat) (DC:Bool) (Cj:List Nat) (DF:Bool) (Ck:List Nat)
   (h1:VP P G fs [IR n1 w1,IR DC Cj] (.bool (gY (n1,w1) (DC,Cj)))) (h2:VP P G fs [IR n2 w2,IR DF Ck] (.bool (gY (n2,w2) (DF,Ck)))) :
   VP P G f [RR n1 w1 n2 w2,RR DC Cj DF Ck] (.bool (gY (n1,w1) (DC,Cj)&&gY (n2,w2) (DF,Ck))):=by
 have eE:([0]:List Nat)≠[1]:=by decide
 generalize gY (n1,w1) (DC,Cj)=b1 at h1 ⊢
 generalize gY (n2,w2) (DF,Ck)=b2 at h2 ⊢
 refine VP.has h ?_
 simp only [kL,SS,Nat.reduceAdd,Dm,ai eE,ae,Yr]
 refine aj h1 (by simp [wS]) ?_
 cases b1
 . simp only [SS,Nat.reduceAdd,Bool.false_and]
   exact ag▸ab rfl (af.bool _)
 simp only [SS,Nat.reduceAdd,ai eE,ae,Ys]
 refine aj h2 (by simp [wS]) ?_
 simp only [SS,Nat.reduceAdd,Bool.true_and]
 exact ag▸ab rfl (af.bool _)
theorem OQ {f fs:FuncId} (h:Has P f (jX fs f)) (hs:∀ n1 w1 n2 w2 DC Cj DF Ck,w1.length<=9223372036854775807->w2.length<=9223372036854775807->Cj.length<=9223372036854775807->Ck.length<=9223372036854775807 ->
     VP P G fs [RR n1 w1 n2 w2,RR DC Cj DF Ck] (.bool (gY (n1,w1) (DC,Cj)&&gY (n2,w2) (DF,Ck)))):∀ e:EX,e.Ok->∀ e':EX,e'.Ok->VP P G f [e.av,e'.av] (.bool (gY e e')):=EX.induct fun op n1 w1 n2 w2 nm args ih mo e' K8=>by
 cases e' with
 | mk MX DC Cj DF Ck Pd gv =>
 have R7:=EX.rf mo
 have Yt:=EX.rf K8
 rw [EX.Ok] at mo K8
 obtain ⟨_,_,_,_,mU,uI,_,Wx,_⟩:=mo
 obtain ⟨_,_,_,_,Yu,Yv,_,abr,_⟩:=K8
 have eE:([0]:List Nat)≠[1]:=by decide
 have WA:=hs n1 w1 n2 w2 DC Cj DF Ck mU uI Yu Yv
 rw [EX.GN,Bool.and_assoc (gY op MX&&gY nm Pd)]
 generalize (gY (n1,w1) (DC,Cj)&&gY (n2,w2) (DF,Ck))=b1 at WA ⊢
 have d0:decide (op≠MX) = !gY op MX:=Sx op MX
 have d1:=DM nm Pd
 generalize gY op MX=a0 at d0 ⊢
 generalize gY nm Pd=a1 at d1 ⊢
 have dn:=wB args.length gv.length
 refine VP.has h ?_
 simp only [jX,SS,Nat.reduceAdd,EX.one,ai eE,ae,EX.q0,d0]
 cases a0
 . simp only [SS,Nat.reduceAdd,Bool.false_and]
   exact ag▸ab rfl (af.bool _)
 simp only [SS,Nat.reduceAdd,ai eE,ae,EX.q5,d1]
 cases a1
 . simp only [SS,Nat.reduceAdd,Bool.false_and,Bool.true_and]
   exact ag▸ab rfl (af.bool _)
 simp only [SS,Nat.reduceAdd,ai eE,ae,EX.q6,EX.a6,dn]
 by_cases hlen:args.length=gv.length
 case neg =>
   rw [bj hlen,zE hlen]
   simp only [SS,Nat.reduceAdd,Bool.and_false]
   exact ag▸ab rfl (af.bool _)
 rw [bT hlen]
 simp only [SS,Nat.reduceAdd,ai eE,ae,EX.q1]
 refine aj WA (by simp [eC]) ?_
 cases b1
 . simp only [SS,Nat.reduceAdd,Bool.false_and,Bool.true_and]
   exact ag▸ab rfl (af.bool _)
 simp only [SS,Nat.reduceAdd,Bool.true_and,aC]
 refine VW.bJ (α := Nat × Nat) (fun x=>⟨[(EX.mk op n1 w1 n2 w2 nm args).av,(EX.mk MX DC Cj DF Ck Pd gv).av, .ref [0] 0 0, .ref [1] 0 0, .bool false, .int .i64 (x.1:Int)]++List.replicate 48 .top,aa.put (aa.put (fun _=>none) [0] (some ⟨[(EX.mk op n1 w1 n2 w2 nm args).av],7,false⟩)) [1] (some ⟨[(EX.mk MX DC Cj DF Ck Pd gv).av],7,false⟩),x.2⟩)
   (fun x=>x.1<=args.length/\args.take x.1=gv.take x.1) (fun x=>args.length-x.1) (0,1000) ?_ ⟨Nat.zero_le _,by simp⟩ ?_
 . exact Wk.forget (by simp [Fg,List.replicate]) (fun j => .inr (by simp only [EX.size])) (by omega)
 rintro ⟨i,nn⟩ ⟨hi,cz⟩
 simp only [] at hi cz
 by_cases hlt:i<args.length
 . obtain ⟨x,hx⟩:∃ x,args[i]? = some x:=⟨_,List.getElem?_eq_getElem hlt⟩
   obtain ⟨y,hy⟩:∃ y,gv[i]? = some y:=⟨_,List.getElem?_eq_getElem (by omega)⟩
   have dd:decide ((i:Int)<(args.length:Int))=true:=ao (by omega)
   have hgx:(EX.kV args)[i]? = some x.av:=by rw [EX.cF,List.getElem?_map,hx];rfl
   have Ew:(EX.kV gv)[i]? = some y.av:=by rw [EX.cF,List.getElem?_map,hy];rfl
   have mR:br 7 (.sl 7 (EX.kV args)) (.int .i64 (i:Int))=some (.ep x.av.cells 0):=aQ rfl hgx
   have td:br 7 (.sl 7 (EX.kV gv)) (.int .i64 (i:Int))=some (.ep y.av.cells 0):=aQ rfl Ew
   have GM:=ih x (List.mem_of_getElem? hx) (R7 x (List.mem_of_getElem? hx)) y (Yt y (List.mem_of_getElem? hy))
   simp only [SS,DD,Nat.reduceAdd,List.replicate,ai eE,ae,EX.q6,EX.a6,dd,mR,td,az,EX.all]
   refine ax GM (by simp [EX.pure]) ?_
   by_cases pO:x=y
   . rw [bT pO]
     simp only [SS,DD,Nat.reduceAdd]
     refine ⟨by simp [ar,apart], ?_⟩
     simp only [aq i (by omega)]
     refine ⟨(i+1,nn+1000),⟨by simp only [];omega, ?_⟩,by simp only [];omega,Wk.slots (by simp [Fg]) (by omega)⟩
     exact te cz hx (pO▸hy)
   . rw [bj pO,DN hx hy pO]
     simp only [SS,DD,Nat.reduceAdd]
     refine ⟨by simp [ar,apart], ?_⟩
     exact ag▸ab rfl (af.bool _)
 . have dd:decide ((i:Int)<(args.length:Int))=false:=ak (by omega)
   rw [wC hlen cz hlt]
   simp only [SS,Nat.reduceAdd,List.replicate,ai eE,ae,EX.q6,EX.a6,dd]
   exact ag▸ab rfl (af.bool _)
end
end Go.VL
end

section
set_option linter.unusedVariables false
set_option linter.unusedVariables false
namespace Go.VL
theorem FX.GN (X Y:FX):gY X Y=(gY X.name Y.name&&gY X.kind Y.kind&&gY X.supp Y.supp&&gY X.inputs Y.inputs&&gY X.vals Y.vals):=by
 rw [<- lR, <- lR, <- lR, <- lR]
 refine A4 ⟨fun e=>by rw [e],fun e => ?_⟩
 simp only [Prod.mk.injEq] at e
 cases X;cases Y
 obtain ⟨⟨⟨⟨h1,h2⟩,h3⟩,h4⟩,h5⟩:=e
 simp only at h1 h2 h3 h4 h5
 rw [h1,h2,h3,h4,h5]
theorem Vd (x y:Bool):(!(x==y)) = !gY x y:=by rw [M4]
theorem FX.p0 (Z:FX):part false Z.eG.av.cells 0 1=some (.str Z.name):=rfl
theorem FX.p1 (Z:FX):part false Z.eG.av.cells 1 1=some (.int .i64 Z.kind):=rfl
theorem FX.p2 (Z:FX):part false Z.eG.av.cells 2 1=some (.sl 1 (Z.inputs.map .str)):=rfl
theorem FX.p3 (Z:FX):part false Z.eG.av.cells 3 1=some (.sl 7 (EX.kV Z.vals)):=rfl
theorem FX.p4 (Z:FX):part false Z.eG.av.cells 4 1=some (.bool Z.supp):=rfl
section
variable {P:Program} {G:Nat->Option (List AV)}
set_option maxHeartbeats 1000000 in
theorem DR {f fe:FuncId} (h:Has P f (eB fe)) (he:∀ e:EX,e.Ok->∀ e':EX,e'.Ok->VP P G fe [e.av,e'.av] (.bool (gY e e'))) (X Y:FX) (hX:X.Ok) (hY:Y.Ok) :
   VP P G f [X.eG.av,Y.eG.av] (.bool (gY X Y)):=by
 have eE:([0]:List Nat)≠[1]:=by decide
 have LA:=hX.ins
 have uG:=hX.vl
 rw [FX.GN]
 have d0:=DM X.name Y.name
 have d1:=Sx X.kind Y.kind
 have d2:=Vd X.supp Y.supp
 have d3:=wB X.inputs.length Y.inputs.length
 have d4:=wB X.vals.length Y.vals.length
 generalize gY X.name Y.name=a0 at d0 ⊢
 generalize gY X.kind Y.kind=a1 at d1 ⊢
 generalize gY X.supp Y.supp=a2 at d2 ⊢
 refine VP.has h ?_
 simp only [eB,SS,Nat.reduceAdd,bL.one,ai eE,ae,FX.p0,d0]
 cases a0
 . simp only [SS,Nat.reduceAdd,Bool.false_and]
   exact ag▸ab rfl (af.bool _)
 simp only [SS,Nat.reduceAdd,ai eE,ae,FX.p1,d1]
 cases a1
 . simp only [SS,Nat.reduceAdd,Bool.false_and,Bool.true_and]
   exact ag▸ab rfl (af.bool _)
 simp only [SS,Nat.reduceAdd,ai eE,ae,FX.p4,d2]
 cases a2
 . simp only [SS,Nat.reduceAdd,Bool.false_and,Bool.true_and]
   exact ag▸ab rfl (af.bool _)
 simp only [SS,Nat.reduceAdd,ai eE,ae,FX.p2,List.length_map,d3]
 by_cases hlen:X.inputs.length=Y.inputs.length
 case neg =>
   rw [bj hlen,zE hlen]
   simp only [SS,Nat.reduceAdd,Bool.false_and,Bool.true_and]
   exact ag▸ab rfl (af.bool _)
 rw [bT hlen]
 simp only [SS,Nat.reduceAdd,ai eE,ae,FX.p3,EX.a6,d4]
 by_cases xu:X.vals.length=Y.vals.length
 case neg =>
   rw [bj xu,zE (l:=X.vals) xu]
   simp only [SS,Nat.reduceAdd,Bool.and_false]
   exact ag▸ab rfl (af.bool _)
 rw [bT xu]
 simp only [SS,Nat.reduceAdd,Bool.true_and,aC]
 refine VW.bJ (α := Nat × Nat) (fun x=>⟨[X.eG.av,Y.eG.av, .ref [0] 0 0, .ref [1] 0 0, .bool false, .int .i64 (x.1:Int)]++List.replicate 75 .top,aa.put (aa.put (fun _=>none) [0] (some ⟨[X.eG.av],5,false⟩)) [1] (some ⟨[Y.eG.av],5,false⟩),x.2⟩)
   (fun x=>x.1<=X.inputs.length/\X.inputs.take x.1=Y.inputs.take x.1) (fun x=>X.inputs.length-x.1) (0,1000) ?_ ⟨Nat.zero_le _,by simp⟩ ?_
 . exact Wk.slots (by simp [Fg,List.replicate]) (by omega)
 rintro ⟨i,nn⟩ ⟨hi,cz⟩
 simp only [] at hi cz
 by_cases hlt:i<X.inputs.length
 . obtain ⟨x,hx⟩:∃ x,X.inputs[i]? = some x:=⟨_,List.getElem?_eq_getElem hlt⟩
   obtain ⟨y,hy⟩:∃ y,Y.inputs[i]? = some y:=⟨_,List.getElem?_eq_getElem (by omega)⟩
   have dd:decide ((i:Int)<(X.inputs.length:Int))=true:=ao (by omega)
   have hgx:(X.inputs.map AV.str)[i]? = some (.str x):=by rw [List.getElem?_map,hx];rfl
   have Ew:(Y.inputs.map AV.str)[i]? = some (.str y):=by rw [List.getElem?_map,hy];rfl
   have B6:∀ z,part false (AV.str z).cells 0 1=some (.str z):=fun z=>rfl
   have mR:br 1 (.sl 1 (X.inputs.map AV.str)) (.int .i64 (i:Int))=some (.ep (AV.str x).cells 0):=aQ rfl hgx
   have td:br 1 (.sl 1 (Y.inputs.map AV.str)) (.int .i64 (i:Int))=some (.ep (AV.str y).cells 0):=aQ rfl Ew
   have dxy:=DM x y
   simp only [SS,DD,Nat.reduceAdd,List.replicate,ai eE,ae,FX.p2,List.length_map,dd,mR,td,az,B6,dxy]
   refine ⟨by simp [ar,apart], ?_⟩
   by_cases pO:x=y
   . rw [bT pO]
     simp only [SS,Nat.reduceAdd,aq i (by omega)]
     refine ⟨(i+1,nn+1000),⟨by simp only [];omega, ?_⟩,by simp only [];omega,Wk.slots (by simp [Fg]) (by omega)⟩
     exact te cz hx (pO▸hy)
   . rw [bj pO,DN hx hy pO]
     simp only [SS,Bool.false_and]
     exact ag▸ab rfl (af.bool _)
 have dd:decide ((i:Int)<(X.inputs.length:Int))=false:=ak (by omega)
 rw [wC hlen cz hlt]
 simp only [SS,Nat.reduceAdd,List.replicate,ai eE,ae,FX.p2,List.length_map,dd,Bool.true_and,aC]
 clear hlt cz dd hi
 refine VW.bJ (α := Nat × Nat) (fun x=>⟨[X.eG.av,Y.eG.av, .ref [0] 0 0, .ref [1] 0 0, .bool false, .top, .int .i64 (x.1:Int)]++List.replicate 74 .top,aa.put (aa.put (fun _=>none) [0] (some ⟨[X.eG.av],5,false⟩)) [1] (some ⟨[Y.eG.av],5,false⟩),x.2⟩)
   (fun x=>x.1<=X.vals.length/\X.vals.take x.1=Y.vals.take x.1) (fun x=>X.vals.length-x.1) (0,nn+1000) ?_ ⟨Nat.zero_le _,by simp⟩ ?_
 . exact Wk.slots (by simp [Fg,List.replicate]) (by omega)
 rintro ⟨j,mm⟩ ⟨hi,cz⟩
 simp only [] at hi cz
 by_cases hlt:j<X.vals.length
 . obtain ⟨x,hx⟩:∃ x,X.vals[j]? = some x:=⟨_,List.getElem?_eq_getElem hlt⟩
   obtain ⟨y,hy⟩:∃ y,Y.vals[j]? = some y:=⟨_,List.getElem?_eq_getElem (by omega)⟩
   have dd:decide ((j:Int)<(X.vals.length:Int))=true:=ao (by omega)
   have hgx:(EX.kV X.vals)[j]? = some x.av:=by rw [EX.cF,List.getElem?_map,hx];rfl
   have Ew:(EX.kV Y.vals)[j]? = some y.av:=by rw [EX.cF,List.getElem?_map,hy];rfl
   have mR:br 7 (.sl 7 (EX.kV X.vals)) (.int .i64 (j:Int))=some (.ep x.av.cells 0):=aQ rfl hgx
   have td:br 7 (.sl 7 (EX.kV Y.vals)) (.int .i64 (j:Int))=some (.ep y.av.cells 0):=aQ rfl Ew
   have GM:=he x (hX.vals x (List.mem_of_getElem? hx)) y (hY.vals y (List.mem_of_getElem? hy))
   simp only [SS,DD,Nat.reduceAdd,List.replicate,ai eE,ae,FX.p3,EX.a6,dd,mR,td,az,EX.all]
   refine ax GM (by simp [EX.pure]) ?_
   by_cases pO:x=y
   . rw [bT pO]
     simp only [SS,DD,Nat.reduceAdd]
     refine ⟨by simp [ar,apart], ?_⟩
     simp only [aq j (by omega)]
     refine ⟨(j+1,mm+1000),⟨by simp only [];omega, ?_⟩,by simp only [];omega,Wk.slots (by simp [Fg]) (by omega)⟩
     exact te cz hx (pO▸hy)
   . rw [bj pO,DN hx hy pO]
     simp only [SS,DD,Nat.reduceAdd]
     refine ⟨by simp [ar,apart], ?_⟩
     exact ag▸ab rfl (af.bool _)
 . have dd:decide ((j:Int)<(X.vals.length:Int))=false:=ak (by omega)
   rw [wC xu cz hlt]
   simp only [SS,Nat.reduceAdd,List.replicate,ai eE,ae,FX.p3,EX.a6,dd]
   exact ag▸ab rfl (af.bool _)
theorem FX.j8 (X:FX):∀ c∈X.av.cells,af c:=by
 intro c hc
 simp [FX.av,FX.eG,bL.av,AV.cells] at hc
 rcases hc with rfl | rfl | rfl | rfl | rfl
 . exact af.str _
 . exact af.int _ _
 . exact gX _
 . exact EX.eJ _
 . exact af.bool _
def dr (l:List FX):AV := .sl 5 (l.map FX.av)
theorem my (l:List FX):jM false (dr l)=some (.int .i64 (l.length:Int)):=by simp [dr,jM]
theorem de (l:List FX):af (dr l):=af.sl (by
 intro c hc
 simp only [flat,List.mem_flatMap,List.mem_map] at hc
 obtain ⟨v,⟨X,_,rfl⟩,hc⟩:=hc
 exact FX.j8 X c hc)
theorem FX.whole (X:FX):part true X.av.cells 0 5=some X.av:=rfl
theorem Ve {f fs:FuncId} (h:Has P f (im fs)) (l m:List FX) (hl:l.length<=9223372036854775807) (hm:m.length<=9223372036854775807) (hs:∀ X∈l,∀ Y∈m,VP P G fs [X.av,Y.av] (.bool (gY X Y))):VP P G f [dr l,dr m] (.bool (gY l m)):=by
 have d0:=wB l.length m.length
 refine VP.has h ?_
 simp only [im,SS,Nat.reduceAdd,my,d0]
 by_cases hlen:l.length=m.length
 case neg =>
   rw [bj hlen,zE hlen]
   simp only [SS,Nat.reduceAdd]
   exact ag▸ab rfl (af.bool _)
 rw [bT hlen]
 simp only [SS,Nat.reduceAdd,aC]
 refine VW.bJ (α := Nat × Nat) (fun x=>⟨[dr l,dr m, .top, .top, .bool false, .int .i64 (x.1:Int)]++List.replicate 21 .top,fun _=>none,x.2⟩)
   (fun x=>x.1<=l.length/\l.take x.1=m.take x.1) (fun x=>l.length-x.1) (0,1000) ?_ ⟨Nat.zero_le _,by simp⟩ ?_
 . exact Wk.slots (by simp [Fg,List.replicate]) (by omega)
 rintro ⟨i,nn⟩ ⟨hi,cz⟩
 simp only [] at hi cz
 by_cases hlt:i<l.length
 . obtain ⟨x,hx⟩:∃ x,l[i]? = some x:=⟨_,List.getElem?_eq_getElem hlt⟩
   obtain ⟨y,hy⟩:∃ y,m[i]? = some y:=⟨_,List.getElem?_eq_getElem (by omega)⟩
   have dd:decide ((i:Int)<(l.length:Int))=true:=ao (by omega)
   have hgx:(l.map FX.av)[i]? = some x.av:=by rw [List.getElem?_map,hx];rfl
   have Ew:(m.map FX.av)[i]? = some y.av:=by rw [List.getElem?_map,hy];rfl
   have mR:br 5 (dr l) (.int .i64 (i:Int))=some (.ep x.av.cells 0):=aQ rfl hgx
   have td:br 5 (dr m) (.int .i64 (i:Int))=some (.ep y.av.cells 0):=aQ rfl Ew
   have GM:=hs x (List.mem_of_getElem? hx) y (List.mem_of_getElem? hy)
   have hp:∀ X:FX,af X.av:=FX.pure
   simp only [SS,DD,Nat.reduceAdd,List.replicate,my,dd,mR,td,az,FX.whole]
   refine ax GM (by simp [hp]) ?_
   by_cases pO:x=y
   . rw [bT pO]
     simp only [SS,DD,Nat.reduceAdd]
     refine ⟨by simp [ar,apart], ?_⟩
     simp only [aq i (by omega)]
     refine ⟨(i+1,nn+1000),⟨by simp only [];omega, ?_⟩,by simp only [];omega,Wk.slots (by simp [Fg]) (by omega)⟩
     exact te cz hx (pO▸hy)
   . rw [bj pO,DN hx hy pO]
     simp only [SS,DD,Nat.reduceAdd]
     refine ⟨by simp [ar,apart], ?_⟩
     exact ag▸ab rfl (af.bool _)
 . have dd:decide ((i:Int)<(l.length:Int))=false:=ak (by omega)
   rw [wC hlen cz hlt]
   simp only [SS,Nat.reduceAdd,List.replicate,my,dd]
   exact ag▸ab rfl (af.bool _)
end
end Go.VL
end

section
set_option linter.unusedVariables false
set_option linter.unusedVariables false
namespace Go.VL
theorem fN {σ : aa} {id:Id} {x v y:AV} {k o:Nat} (h : σ id=some ⟨[x],k,false⟩) (hv:v.cells=[v]) (h1:v.one=true) (ho:o+1<=x.size) (hu:x.upd o [v]=y) :
   eL σ 1 (.ref id 0 o) v=some { val := .tup [],rd:=[id],up:=[(id,some ⟨[y],k,false⟩)] }:=by
 rw [cA (n:=1) (v:=v) (els:=[x]) (el:=x) (k:=k) h rfl (by rw [hv];rfl) ho (by rw [hv];simpa using h1),hv,hu]
 rfl
theorem lE {q:Id} {k len i:Nat} {t:Bool} (h:i<len):br k (.osl q k 0 len t) (.int .i64 (i:Int))=some (.ref q i 0):=by
 simp only [br]
 rw [if_pos ⟨trivial,by omega,by omega⟩]
 simp
theorem uD {σ : aa} {q:Id} {k i:Nat} {els:List AV} {x y:AV} (h : σ q=some ⟨els,k,false⟩) (hi:els[i]? = some x) (hy:y.cells.length=k) (hx:x.size=k) (h1:y.cells.all AV.one=true) (hu:x.upd 0 y.cells=y) :
   eL σ k (.ref q i 0) y=some { val := .tup [],rd:=[q],up:=[(q,some ⟨els.set i y,k,false⟩)] }:=by
 rw [cA (n:=k) (v:=y) h hi hy (by omega) h1,hu]
theorem DT {α : Type} {l:List α} {i:Nat} {x : α} (h:l[i]? = some x):l.set i x=l:=by
 obtain ⟨hi,rfl⟩:=List.getElem?_eq_some_iff.1 h
 exact List.set_getElem_self hi
def yk (op:Int) (n1:Bool) (w1:List Nat) (n2:Bool) (w2:List Nat) (nm:List UInt8) (x:AV):AV := .agg [.int .i64 op, .bool n1, .sl 1 (us w1), .bool n2, .sl 1 (us w2), .str nm,x]
section
variable (op:Int) (n1:Bool) (w1:List Nat) (n2:Bool) (w2:List Nat) (nm:List UInt8) (args:List EX) (x y:AV)
theorem EX.q2:part false (EX.mk op n1 w1 n2 w2 nm args).av.cells 2 1=some (.sl 1 (us w1)):=by rw [EX.av];rfl
theorem EX.q4:part false (EX.mk op n1 w1 n2 w2 nm args).av.cells 4 1=some (.sl 1 (us w2)):=by rw [EX.av];rfl
theorem EX.u2:(EX.mk op n1 w1 n2 w2 nm args).av.upd 2 [.sl 1 (us w1)]=(EX.mk op n1 w1 n2 w2 nm args).av:=by rw [EX.av];rfl
theorem EX.u4:(EX.mk op n1 w1 n2 w2 nm args).av.upd 4 [.sl 1 (us w2)]=(EX.mk op n1 w1 n2 w2 nm args).av:=by rw [EX.av];rfl
theorem EX.u6:(EX.mk op n1 w1 n2 w2 nm args).av.upd 6 [x]=yk op n1 w1 n2 w2 nm x:=by rw [EX.av];rfl
theorem yk.eq:yk op n1 w1 n2 w2 nm (.sl 7 (EX.kV args))=(EX.mk op n1 w1 n2 w2 nm args).av:=by rw [EX.av];rfl
theorem yk.q6 (h:x.cells=[x]):part false (yk op n1 w1 n2 w2 nm x).cells 6 1=some x:=by simp [yk,AV.cells,part]
theorem yk.all:part true (yk op n1 w1 n2 w2 nm x).cells 0 7=some (yk op n1 w1 n2 w2 nm x):=rfl
theorem yk.one (h:x.one=true):(yk op n1 w1 n2 w2 nm x).cells.all AV.one=true:=by simp [yk,AV.cells,AV.one] at h ⊢;exact h
theorem yk.upd:(AV.agg [.int .i64 0, .bool false, .nils, .bool false, .nils, .str [], .nils]).upd 0 (yk op n1 w1 n2 w2 nm x).cells=yk op n1 w1 n2 w2 nm x:=rfl
theorem yk.view {σ : aa} (h:View σ x y):View σ (yk op n1 w1 n2 w2 nm x) (yk op n1 w1 n2 w2 nm y) :=
 View.agg (.cons (View.pure (af.int _ _)) (.cons (View.pure (af.bool _)) (.cons (View.pure (kS _)) (.cons (View.pure (af.bool _)) (.cons (View.pure (kS _)) (.cons (View.pure (af.str _)) (.cons h .nil)))))))
end
theorem og {q:Id} {k o len:Nat} {t:Bool}:(AV.osl q k o len t).cells=[.osl q k o len t]:=rfl
section
variable {P:Program} {G:Nat->Option (List AV)}
theorem DU {f:FuncId} (h:Has P f bb) {l:List EX} (hne:l≠[]) (hl:l.length*112<=140737488355328) (p:Id) :
   aB P G f [.sl 7 (EX.kV l)] p [] { val := .osl (5::p) 7 0 l.length false,rd:=[],up:=[(5::p,some ⟨EX.kV l,7,false⟩)] }:=by
 refine aB.has h ?_
 have hb:∀ (σ : aa) (p:Id),b8 σ p (.buildSl 7 0 (.agg [(.int .i64 (0)),(.bool false), .nils,(.bool false), .nils,(.str []), .nils]) [])=some { val := .tsl 7 [] }:=fun σ p=>Ub rfl rfl
 have xJ:(EX.kV l).all (fun e=>e.cells.all AV.one)=true:=by
   rw [EX.cF,List.all_eq_true];intro e he;obtain ⟨x,_,rfl⟩:=List.mem_map.1 he;exact of_eq_true (EX.one x)
 have Tg:=EX.a6 l
 cases l with
 | nil=>exact absurd rfl hne
 | cons F l =>
   simp only [EX.kV] at xJ Tg ⊢
   simp only [bb,SS,Nat.reduceAdd,hb]
   rw [gS (es:=[]) eX (by simp) (by rw [Tg];simpa using hl) (cK (by rw [Tg];simp at hl ⊢;omega)) (by simpa using xJ)]
   simp only [SS,Nat.reduceAdd]
   rw [List.length_cons] at Tg
   refine aS▸aA (by simp [bP,cu];exact Nat.succ.inj Tg) fun i => ?_
   by_cases hi:i=5::p
   . right;subst hi;simp [aa.app,aa.put]
   . left;simp [aa.app,aa.put,hi,aa.of]
set_option maxHeartbeats 1000000 in
theorem GO {f fu fe:FuncId} (h:Has P f (lY fu fe f)) (hu:∀ ws:List Nat,ws.length<=1000->VP P G fu [.sl 1 (us ws)] (.sl 1 (us ws)))
   (he:Has P fe bb):∀ e:EX,e.nA=true->e.nodes<=1000->VP P G f [e.av] e.av:=EX.induct fun op n1 w1 n2 w2 nm args ih Y8 Aw=>by
 have yw:EX.cT args<=999:=by rw [EX.nodes] at Aw;omega
 have aen:args.length<=999:=Nat.le_trans (EX.DG args) yw
 obtain ⟨Wx,mU,uI,aeo⟩:=EX.uz Y8
 have eE:([0]:List Nat)≠[1]:=by decide
 have V4:=hu w1 (by omega)
 have Uq:=hu w2 (by omega)
 have hsz:=EX.size (EX.mk op n1 w1 n2 w2 nm args)
 have hih:∀ x∈args,VP P G f [x.av] x.av:=fun x hx=>ih x hx (Wx x hx) (by have:=EX.sZ hx;omega)
 have z1:(AV.agg [.int .i64 0, .bool false, .nils, .bool false, .nils, .str [], .nils]).cells.all AV.one=true:=by simp [AV.cells,AV.one]
 have s2:∀ σ : aa, σ [0]=some ⟨[(EX.mk op n1 w1 n2 w2 nm args).av],(EX.mk op n1 w1 n2 w2 nm args).av.size,false⟩->eL σ 1 (.ref [0] 0 2) (.sl 1 (us w1))=some { val := .tup [],rd:=[[0]],up:=[([0],some ⟨[(EX.mk op n1 w1 n2 w2 nm args).av],(EX.mk op n1 w1 n2 w2 nm args).av.size,false⟩)] } :=
   fun σ hs=>fN hs rfl rfl (by rw [hsz];omega) (EX.u2 ..)
 have s4:∀ σ : aa, σ [0]=some ⟨[(EX.mk op n1 w1 n2 w2 nm args).av],(EX.mk op n1 w1 n2 w2 nm args).av.size,false⟩->eL σ 1 (.ref [0] 0 4) (.sl 1 (us w2))=some { val := .tup [],rd:=[[0]],up:=[([0],some ⟨[(EX.mk op n1 w1 n2 w2 nm args).av],(EX.mk op n1 w1 n2 w2 nm args).av.size,false⟩)] } :=
   fun σ hs=>fN hs rfl rfl (by rw [hsz];omega) (EX.u4 ..)
 refine VP.has h ?_
 simp only [lY,SS,DD,Nat.reduceAdd,EX.one,z1,ai eE,ae,EX.q2]
 refine ax V4 (by simp [kS]) ?_
 simp only [SS,DD,Nat.reduceAdd,ai eE,ae,EX.q4]
 refine ax Uq (by simp [kS]) ?_
 simp only [SS,DD,Nat.reduceAdd]
 rw [s2 _ (by simp [aa.put])]
 simp only [SS,DD,Nat.reduceAdd]
 rw [s4 _ (by simp [aa.put])]
 simp only [SS,DD,Nat.reduceAdd]
 refine ⟨by simp [ar,apart], ?_⟩
 simp only [SS,Nat.reduceAdd,ae,EX.q6]
 by_cases ha:args=[]
 . subst ha
   have hE:VP P G fe [.sl 7 (EX.kV [])] (.sl 7 (EX.kV [])):=ib (G:=G) he (es:=[]) (by simp) rfl (by simp [flat]) (by simp)
   refine aj hE (by intro x hx;rw [List.mem_singleton] at hx;subst hx;exact EX.eJ []) ?_
   simp only [SS,Nat.reduceAdd]
   rw [fN (x:=(EX.mk op n1 w1 n2 w2 nm []).av) (y:=(EX.mk op n1 w1 n2 w2 nm []).av) (k:=(EX.mk op n1 w1 n2 w2 nm []).av.size) (by simp [aa.put]) rfl rfl (by rw [hsz];omega) ((EX.u6 op n1 w1 n2 w2 nm [] _).trans (yk.eq op n1 w1 n2 w2 nm []))]
   simp only [SS,Nat.reduceAdd,ae,EX.q6,EX.kV,aC]
   refine VW.once ?_
   simp only [SS,Nat.reduceAdd,zz]
   simp only [ae,EX.all,SS,Nat.reduceAdd]
   rw [MY (by simp [aa.put];rfl)]
   simp only [SS,Nat.reduceAdd]
   refine ag▸ab (r:=(EX.mk op n1 w1 n2 w2 nm []).av) ?_ (EX.pure _)
   simp only [RS,bP,cu,ae,EX.all]
 . refine ⟨_,_,DU he ha (by omega) _,by simp,by simp, ?_⟩
   simp only [SS,Nat.reduceAdd]
   rw [fN (x:=(EX.mk op n1 w1 n2 w2 nm args).av) (k:=(EX.mk op n1 w1 n2 w2 nm args).av.size) (by simp [aa.put]) rfl rfl (by rw [hsz];omega) (EX.u6 ..)]
   simp only [SS,Nat.reduceAdd,ae,yk.q6 _ _ _ _ _ _ _ og,aC]
   refine VW.bJ (α := Nat × Nat) (fun x=>⟨[(EX.mk op n1 w1 n2 w2 nm args).av, .ref [0] 0 0, .ref [1] 0 0]++List.replicate 23 .top++[.int .i64 (args.length:Int), .int .i64 (x.1:Int)]++List.replicate 14 .top,
       aa.put (aa.put (aa.put (fun _=>none) [0] (some ⟨[yk op n1 w1 n2 w2 nm (.osl [5,22] 7 0 args.length false)],7,false⟩)) [1] (some ⟨[.agg [.int .i64 0, .bool false, .nils, .bool false, .nils, .str [], .nils]],7,false⟩)) [5,22] (some ⟨EX.kV args,7,false⟩),x.2⟩)
     (fun x=>x.1<=args.length) (fun x=>args.length-x.1) (0,1000) ?_ (Nat.zero_le _) ?_
   . refine Wk.forget (by simp [Fg,List.replicate]) (fun j => ?_) (by omega)
     by_cases h0:j=[0]
     . subst h0;right;simp [aa.put,hsz]
     by_cases h1:j=[1]
     . subst h1;right;simp [aa.put];rfl
     by_cases h2:j=[5,22]
     . subst h2;right;simp [aa.put]
     . left;simp [aa.put,h0,h1,h2]
   rintro ⟨i,nn⟩ hi
   simp only [] at hi
   have k0:([0]:List Nat)≠[5,22]:=by decide
   have k1:([1]:List Nat)≠[5,22]:=by decide
   by_cases hlt:i<args.length
   . obtain ⟨x,hx⟩:∃ x,args[i]? = some x:=⟨_,List.getElem?_eq_getElem hlt⟩
     have dd:decide ((i:Int)<(args.length:Int))=true:=ao (by omega)
     have hg:(EX.kV args)[i]? = some x.av:=by rw [EX.cF,List.getElem?_map,hx];rfl
     have Uz:∀ σ : aa,gh (σ.put [5,22] (some ⟨EX.kV args,7,false⟩)) true 7 (.ref [5,22] i 0)=some { val:=x.av,rd:=[[5,22]] }:=fun σ => by
       rw [mK (aa.a8 _ _ _) hg,EX.all];rfl
     have YV:=hih x (List.mem_of_getElem? hx)
     simp only [SS,DD,Nat.reduceAdd,List.replicate,dd,ai eE,ai k0,ae,yk.q6 _ _ _ _ _ _ _ og,lE hlt,Uz]
     refine ax YV (by simp [EX.pure]) ?_
     simp only [SS,DD,Nat.reduceAdd,lE hlt]
     rw [uD (x:=x.av) (aa.a8 _ _ _) hg (EX.size x) (EX.size x) (of_eq_true (EX.one x)) (by cases x;rw [EX.av];rfl),DT hg]
     simp only [SS,DD,Nat.reduceAdd]
     refine ⟨by simp [ar,apart], ?_⟩
     simp only [aq i (by omega)]
     refine ⟨(i+1,nn+1000),by simp only [];omega,by simp only [];omega,Wk.forget (by simp [Fg]) (fun j => .inr ?_) (by omega)⟩
     by_cases h2:j=[5,22]
     . subst h2;simp [aa.put]
     . simp [aa.put,h2]
   . have dd:decide ((i:Int)<(args.length:Int))=false:=ak (by omega)
     have jc:i=args.length:=by omega
     simp only [SS,Nat.reduceAdd,List.replicate,dd,ai eE,ai k0,ae,yk.all]
     rw [cA (n:=7) (v:=yk op n1 w1 n2 w2 nm (.osl [5,22] 7 0 args.length false)) (els:=[.agg [.int .i64 0, .bool false, .nils, .bool false, .nils, .str [], .nils]]) (el := .agg [.int .i64 0, .bool false, .nils, .bool false, .nils, .str [], .nils]) (k:=7) (by simp [aa.put]) rfl rfl (by simp [AV.size,AV.cells]) (yk.one _ _ _ _ _ _ _ rfl),yk.upd]
     simp only [SS,Nat.reduceAdd]
     rw [<- yk.eq]
     refine ag▸⟨yk op n1 w1 n2 w2 nm (.osl [5,22] 7 0 args.length false), ?_,yk.view _ _ _ _ _ _ _ _ (View.osl (bk:=⟨EX.kV args,7,false⟩) (by simp [aa.put]) rfl (by simp [EX.a6]) ?_ (EX.a6 _) (fun d hd => ?_))⟩
     . simp only [RS,bP,cu,ae,yk.all]
     . have e:(EX.kV args).take args.length=EX.kV args:=List.take_of_length_le (by rw [EX.a6];exact Nat.le_refl _)
       simp only [List.drop_zero,e]
       refine aW.pure fun c hc => ?_
       simp only [flat,List.mem_flatMap] at hc
       obtain ⟨v,hv,hc⟩:=hc
       rw [EX.cF] at hv
       obtain ⟨y,_,rfl⟩:=List.mem_map.1 hv
       exact EX.j8 y c hc
     . rw [EX.cF] at hd
       obtain ⟨y,_,rfl⟩:=List.mem_map.1 hd
       exact EX.size y
end
end Go.VL
end

section
set_option linter.unusedVariables false
set_option linter.unusedVariables false
namespace Go.VL
def yl (X:FX) (x:AV):AV := .agg [.str X.name, .int .i64 X.kind,strs X.inputs,x, .bool X.supp]
theorem yl.eq (X:FX):yl X (.sl 7 (EX.kV X.vals))=X.av:=rfl
theorem yl.q3 (X:FX) {x:AV} (h:x.cells=[x]):part false (yl X x).cells 3 1=some x:=by simp [yl,AV.cells,part]
theorem yl.all (X:FX) (x:AV):part true (yl X x).cells 0 5=some (yl X x):=rfl
theorem yl.one (X:FX) (x:AV) (h:x.one=true):(yl X x).cells.all AV.one=true:=by simp [yl,AV.cells,AV.one,strs] at h ⊢;exact h
theorem yl.upd (X:FX) (x:AV):(AV.agg [.str [], .int .i64 0, .nils, .nils, .bool false]).upd 0 (yl X x).cells=yl X x:=rfl
theorem yl.view {σ : aa} (X:FX) {x y:AV} (h:View σ x y):View σ (yl X x) (yl X y) :=
 View.agg (.cons (View.pure (af.str _)) (.cons (View.pure (af.int _ _)) (.cons (View.pure (gX _)) (.cons h (.cons (View.pure (af.bool _)) .nil)))))
theorem FX.u2 (X:FX):X.av.upd 2 [strs X.inputs]=X.av:=rfl
theorem FX.u3 (X:FX) (x:AV):X.av.upd 3 [x]=yl X x:=rfl
theorem FX.one (X:FX):(X.av.cells.all AV.one=true)=True:=bL.one X.eG
theorem FX.sz (X:FX):X.av.size=5:=rfl
theorem FX.c2 (Z:FX):part false Z.av.cells 2 1=some (strs Z.inputs):=rfl
theorem FX.c3 (Z:FX):part false Z.av.cells 3 1=some (.sl 7 (EX.kV Z.vals)):=rfl
theorem FX.c0 (Z:FX):part false Z.av.cells 0 1=some (.str Z.name):=rfl
theorem FX.c4 (Z:FX):part false Z.av.cells 4 1=some (.bool Z.supp):=rfl
theorem mF (l:List (List UInt8)):(strs l).cells=[strs l]:=rfl
section
variable {P:Program} {G:Nat->Option (List AV)}
set_option maxHeartbeats 1000000 in
theorem OR {f fs fe fx:FuncId} (h:Has P f (mr fs fe fx)) (X:FX) (hv:X.vals.length<=1000) (hs:VP P G fs [strs X.inputs] (strs X.inputs)) (he:Has P fe bb)
   (hx:∀ e∈X.vals,VP P G fx [e.av] e.av):VP P G f [X.av] X.av:=by
 have eE:([0]:List Nat)≠[1]:=by decide
 have z1:=jb
 refine VP.has h ?_
 simp only [mr,SS,DD,Nat.reduceAdd,FX.one,z1,ai eE,ae,FX.c2]
 refine ax hs (by simp [gX]) ?_
 simp only [SS,DD,Nat.reduceAdd,ai eE,ae,FX.c3]
 by_cases ha:X.vals=[]
 . have hE:=ib (G:=G) he (es:=[]) (by simp) rfl (by simp [flat]) (by simp)
   have e3:EX.kV X.vals=[]:=by rw [ha];rfl
   rw [e3]
   refine ax hE (by intro x hx;rw [List.mem_singleton] at hx;subst hx;exact EX.eJ []) ?_
   simp only [SS,DD,Nat.reduceAdd]
   rw [fN (x:=X.av) (y:=X.av) (k:=X.av.size) (by simp [aa.put]) (mF _) rfl (by rw [FX.sz];omega) (FX.u2 X)]
   simp only [SS,DD,Nat.reduceAdd]
   rw [fN (x:=X.av) (y:=X.av) (k:=X.av.size) (by simp [aa.put]) rfl rfl (by rw [FX.sz];omega) (by rw [FX.u3, <- yl.eq,e3])]
   simp only [SS,DD,Nat.reduceAdd]
   refine ⟨by simp [ar,apart], ?_⟩
   simp only [SS,Nat.reduceAdd,ae,FX.c3,e3,aC]
   refine VW.once ?_
   simp only [SS,Nat.reduceAdd,zz]
   simp only [ae,FX.whole,SS,Nat.reduceAdd]
   rw [cA (n:=5) (v:=X.av) (els:=[.agg [(.str []),(.int .i64 (0)), .nils, .nils,(.bool false)]]) (el := .agg [(.str []),(.int .i64 (0)), .nils, .nils,(.bool false)]) (k:=5) (by simp [aa.put,AV.size,AV.cells]) rfl rfl (by simp [AV.size,AV.cells]) (by rw [FX.one];trivial)]
   simp only [SS,Nat.reduceAdd]
   have el:∀ (σ : aa) (x:AV) (k:Nat),gh (σ.put [1] (some ⟨[x],k,false⟩)) true 5 (.ref [1] 0 0)=(part true x.cells 0 5).map fun v=>{ val:=v,rd:=[[1]] }:=fun σ x k=>ae
   refine ag▸ab (r:=X.av) ?_ (FX.pure X)
   simp only [RS,bP,cu,el]
   rfl
 . have oy:0<X.vals.length:=List.length_pos_iff.2 ha
   refine ⟨_,_,DU he ha (by omega) _,by simp,by simp, ?_⟩
   simp only [SS,DD,Nat.reduceAdd]
   rw [fN (x:=X.av) (y:=X.av) (k:=X.av.size) (by simp [aa.put]) (mF _) rfl (by rw [FX.sz];omega) (FX.u2 X)]
   simp only [SS,DD,Nat.reduceAdd]
   rw [fN (x:=X.av) (k:=X.av.size) (by simp [aa.put]) rfl rfl (by rw [FX.sz];omega) (FX.u3 X _)]
   simp only [SS,DD,Nat.reduceAdd]
   refine ⟨by simp [ar,apart], ?_⟩
   simp only [SS,Nat.reduceAdd,ae,yl.q3 _ og,aC]
   refine VW.bJ (α := Nat × Nat) (fun x=>⟨[X.av, .ref [0] 0 0, .ref [1] 0 0]++List.replicate 11 .top++[.int .i64 (X.vals.length:Int), .int .i64 (x.1:Int)]++List.replicate 14 .top,
       aa.put (aa.put (aa.put (fun _=>none) [0] (some ⟨[yl X (.osl [5,7] 7 0 X.vals.length false)],5,false⟩)) [1] (some ⟨[.agg [.str [], .int .i64 0, .nils, .nils, .bool false]],5,false⟩)) [5,7] (some ⟨EX.kV X.vals,7,false⟩),x.2⟩)
     (fun x=>x.1<=X.vals.length) (fun x=>X.vals.length-x.1) (0,1000) ?_ (Nat.zero_le _) ?_
   . refine Wk.forget (by simp [Fg,List.replicate]) (fun j => ?_) (by omega)
     by_cases h0:j=[0]
     . subst h0;right;simp [aa.put,FX.sz]
     by_cases h1:j=[1]
     . subst h1;right;simp [aa.put];rfl
     by_cases h2:j=[5,7]
     . subst h2;right;simp [aa.put]
     . left;simp [aa.put,h0,h1,h2]
   rintro ⟨i,nn⟩ hi
   simp only [] at hi
   have k0:([0]:List Nat)≠[5,7]:=by decide
   have k1:([1]:List Nat)≠[5,7]:=by decide
   by_cases hlt:i<X.vals.length
   . obtain ⟨x,hx'⟩:∃ x,X.vals[i]? = some x:=⟨_,List.getElem?_eq_getElem hlt⟩
     have dd:decide ((i:Int)<(X.vals.length:Int))=true:=ao (by omega)
     have hg:(EX.kV X.vals)[i]? = some x.av:=by rw [EX.cF,List.getElem?_map,hx'];rfl
     have Uz:∀ σ : aa,gh (σ.put [5,7] (some ⟨EX.kV X.vals,7,false⟩)) true 7 (.ref [5,7] i 0)=some { val:=x.av,rd:=[[5,7]] }:=fun σ => by
       rw [mK (aa.a8 _ _ _) hg,EX.all];rfl
     have YV:=hx x (List.mem_of_getElem? hx')
     simp only [SS,DD,Nat.reduceAdd,List.replicate,dd,ai eE,ai k0,ae,yl.q3 _ og,lE hlt,Uz]
     refine ax YV (by simp [EX.pure]) ?_
     simp only [SS,DD,Nat.reduceAdd,lE hlt]
     rw [uD (x:=x.av) (aa.a8 _ _ _) hg (EX.size x) (EX.size x) (of_eq_true (EX.one x)) (by cases x;rw [EX.av];rfl),DT hg]
     simp only [SS,DD,Nat.reduceAdd]
     refine ⟨by simp [ar,apart], ?_⟩
     simp only [aq i (by omega)]
     refine ⟨(i+1,nn+1000),by simp only [];omega,by simp only [];omega,Wk.forget (by simp [Fg]) (fun j => .inr ?_) (by omega)⟩
     by_cases h2:j=[5,7]
     . subst h2;simp [aa.put]
     . simp [aa.put,h2]
   . have dd:decide ((i:Int)<(X.vals.length:Int))=false:=ak (by omega)
     have jc:i=X.vals.length:=by omega
     simp only [SS,Nat.reduceAdd,List.replicate,dd,ai eE,ai k0,ae,yl.all]
     rw [cA (n:=5) (v:=yl X (.osl [5,7] 7 0 X.vals.length false)) (els:=[.agg [.str [], .int .i64 0, .nils, .nils, .bool false]]) (el := .agg [.str [], .int .i64 0, .nils, .nils, .bool false]) (k:=5) (by simp [aa.put]) rfl rfl (by simp [AV.size,AV.cells]) (yl.one _ _ rfl),yl.upd]
     simp only [SS,Nat.reduceAdd]
     rw [<- yl.eq]
     refine ag▸⟨yl X (.osl [5,7] 7 0 X.vals.length false), ?_,yl.view X (View.osl (bk:=⟨EX.kV X.vals,7,false⟩) (by simp [aa.put]) rfl (by simp [EX.a6]) ?_ (EX.a6 _) (fun d hd => ?_))⟩
     . simp only [RS,bP,cu,ae,yl.all]
     . have e:(EX.kV X.vals).take X.vals.length=EX.kV X.vals:=List.take_of_length_le (by rw [EX.a6];exact Nat.le_refl _)
       simp only [List.drop_zero,e]
       refine aW.pure fun c hc => ?_
       simp only [flat,List.mem_flatMap] at hc
       obtain ⟨v,hv,hc⟩:=hc
       rw [EX.cF] at hv
       obtain ⟨y,_,rfl⟩:=List.mem_map.1 hv
       exact EX.j8 y c hc
     . rw [EX.cF] at hd
       obtain ⟨y,_,rfl⟩:=List.mem_map.1 hd
       exact EX.size y
end
end Go.VL
end

section
set_option linter.unusedVariables false
set_option linter.unusedVariables false
namespace Go.VL
def dh (l:List FX) (nm:List UInt8):Int:=x6 (l.findIdx? fun X=>X.name==nm)
def gg (l:List FX) (i:Nat):List FX:=l.take i++l.drop (i+1)
def dX (X:FX):List (List UInt8):=if X.valid=true then xk (X.inputs.map fun s=>(eN s).getD []) else []
def bZ (l:List FX):List (List UInt8):=l.map (·.name)
def B7 (l:List FX) (i:Nat):Bool:=match l[i]? with
 | none=>true
 | some X=>X.valid && !(bZ (l.take i)).contains X.name&&(dX X).all fun n=>(bZ (l.take i)).contains n
def eg (l:List FX):Bool:=((List.range l.length).all (B7 l))&&decide (l.length<=200)
theorem nD (l:List FX):((l.map FX.av).all fun e=>e.cells.all AV.one)=true:=by
 rw [List.all_eq_true];intro e he;obtain ⟨X,_,rfl⟩:=List.mem_map.1 he;exact of_eq_true (FX.one X)
theorem dU {σ : aa} {id:Id} {l:List FX} {t:Bool} (h : σ id=some ⟨l.map FX.av,5,false⟩):View σ (.osl id 5 0 l.length t) (dr l):=by
 refine View.osl (bk:=⟨l.map FX.av,5,false⟩) h rfl (by simp) ?_ (by simp) (fun d hd => ?_)
 . have e:(l.map FX.av).take l.length=l.map FX.av:=List.take_of_length_le (by simp)
   simp only [List.drop_zero,e]
   refine aW.pure fun c hc => ?_
   simp only [flat,List.mem_flatMap] at hc
   obtain ⟨v,hv,hc⟩:=hc
   obtain ⟨y,_,rfl⟩:=List.mem_map.1 hv
   exact FX.j8 y c hc
 . obtain ⟨y,_,rfl⟩:=List.mem_map.1 hd
   rfl
section
variable {P:Program} {G:Nat->Option (List AV)}
theorem Jq {f:FuncId} (h:Has P f iv) (l:List FX) (nm:List UInt8) (hl:l.length<=1000000):VP P G f [dr l, .str nm] (.int .i64 (dh l nm)):=by
 refine VP.has h ?_
 simp only [iv,SS,Nat.reduceAdd,aC]
 refine VW.bJ (α := Nat × Nat) (fun x=>⟨[dr l, .str nm, .top, .top, .int .i64 0, .int .i64 (x.1:Int)]++List.replicate 14 .top,fun _=>none,x.2⟩)
   (fun x=>x.1<=l.length/\∀ (j:Nat) X,j<x.1->l[j]? = some X->(X.name==nm)=false) (fun x=>l.length-x.1) (0,1000) ?_ ⟨Nat.zero_le _,fun j X hj=>absurd hj (Nat.not_lt_zero j)⟩ ?_
 . exact Wk.slots (by simp [Fg,List.replicate]) (by omega)
 rintro ⟨i,nn⟩ ⟨hi,hn⟩
 simp only [] at hi hn
 by_cases hlt:i<l.length
 . obtain ⟨X,hX⟩:∃ X,l[i]? = some X:=⟨_,List.getElem?_eq_getElem hlt⟩
   have dd:decide ((i:Int)<(l.length:Int))=true:=ao (by omega)
   have hg:(l.map FX.av)[i]? = some X.av:=by rw [List.getElem?_map,hX];rfl
   have iA:br 5 (dr l) (.int .i64 (i:Int))=some (.ep X.av.cells 0):=aQ rfl hg
   simp only [SS,Nat.reduceAdd,List.replicate,my,dd,iA,az,FX.c0]
   cases RB:(X.name==nm)
   . simp only [SS,Nat.reduceAdd,aq i (by omega)]
     refine ⟨(i+1,nn+1000),⟨by simp only [];omega, ?_⟩,by simp only [];omega,Wk.slots (by simp [Fg]) (by omega)⟩
     intro j X' hj xm
     by_cases Ce:j<i
     . exact hn j X' Ce xm
     . have:j=i:=by simp only [] at hj;omega
       subst this;rw [hX] at xm;simp only [Option.some.injEq] at xm;subst xm;exact RB
   . simp only [SS,Nat.reduceAdd]
     rw [dh,pG hX RB hn]
     exact ag▸ab rfl (af.int _ _)
 . have dd:decide ((i:Int)<(l.length:Int))=false:=ak (by omega)
   simp only [SS,Nat.reduceAdd,List.replicate,my,dd]
   rw [dh,pE (fun j e hj=>hn j e (by have:=(List.getElem?_eq_some_iff.1 hj).1;omega) hj)]
   exact ag▸ab rfl (af.int _ _)
theorem pJ {l:List FX} {h:Nat} (hh:h<=l.length):bU 5 (dr l) none (some (.int .i64 (h:Int))) none=some (dr (l.take h)):=by
 simp [bU,cJ,dV,dr,hh,List.map_take]
theorem pK {l:List FX} {h:Nat} (hh:h<=l.length):bU 5 (dr l) (some (.int .i64 (h:Int))) none none=some (dr (l.drop h)):=by
 simp [bU,cJ,dV,dr,hh,List.map_drop]
 rw [List.take_of_length_le (by simp)]
theorem FH {σ : aa} {l:List FX}:dA σ 5 (dr l)=some (l.map FX.av,[]):=eX
theorem wU {σ : aa} {p:Id} {l m:List FX} (hm:m≠[]) (hl:l.length+m.length<=1000000):b6 σ p 5 80 (.tsl 5 (l.map FX.av)) (dr m)=some { val := .osl p 5 0 (l++m).length false,rd:=[],up:=[(p,some ⟨(l++m).map FX.av,5,false⟩)] }:=by
 have h1:=nD (l++m)
 rw [List.map_append] at h1
 rw [gS FH (by simpa using hm) (by simp;omega) (cK (by simp;omega)) h1]
 simp
theorem Cm {σ : aa} {p id:Id} {l m:List FX} (h : σ id=some ⟨l.map FX.av,5,false⟩) (hm:m≠[]) (hl:l.length+m.length<=1000000):b6 σ p 5 80 (.osl id 5 0 l.length false) (dr m)=some { val := .osl p 5 0 (l++m).length false,rd:=[id],up:=[(id,none),(p,some ⟨(l++m).map FX.av,5,false⟩)] }:=by
 rw [lN (els:=l.map FX.av) FH (by simpa using hm) h (by simp) (by simp;omega) (cK (by simp;omega)) (nD _) (nD _)]
 simp
theorem ml {σ : aa}:dA σ 5 (dr [])=some ([],[]):=rfl
theorem Vf {f:FuncId} (h:Has P f k8) (l:List FX) (i:Nat) (hi:i<l.length) (hl:l.length<=1000):VP P G f [dr l, .int .i64 (i:Int)] (dr (gg l i)):=by
 have hb:∀ (σ : aa) (p:Id),b8 σ p (.buildSl 5 0 (.agg [(.str []),(.int .i64 0), .nils, .nils,(.bool false)]) [])=some { val := .tsl 5 [] }:=fun σ p=>Ub rfl rfl
 have e1:IntKind.i64.wrap ((i:Int)+1)=((i+1:Nat):Int):=aq i (by omega)
 refine VP.has h ?_
 unfold gg
 simp only [k8,SS,DD,Nat.reduceAdd,hb,pJ (Nat.le_of_lt hi)]
 by_cases h0:l.take i=[]
 . rw [h0,eY ml]
   simp only [SS,DD,Nat.reduceAdd,e1,pK (show i+1<=l.length from hi)]
   by_cases h1:l.drop (i+1)=[]
   . rw [h1,eY ml]
     simp only [SS,DD,Nat.reduceAdd]
     refine ⟨by simp [ar,apart], ?_⟩
     exact ag▸⟨_,rfl,View.PS 5⟩
   . rw [show (AV.tsl 5 []) = .tsl 5 (([]:List FX).map FX.av) from rfl,wU h1 (by simp;omega)]
     simp only [SS,DD,Nat.reduceAdd]
     refine ⟨by simp [ar,apart], ?_⟩
     exact ag▸⟨_,rfl,dU (by simp [aa.put])⟩
 . rw [show (AV.tsl 5 []) = .tsl 5 (([]:List FX).map FX.av) from rfl,wU h0 (by simp;omega)]
   simp only [SS,DD,Nat.reduceAdd,e1,pK (show i+1<=l.length from hi)]
   by_cases h1:l.drop (i+1)=[]
   . rw [h1,lO ml]
     simp only [SS,DD,Nat.reduceAdd]
     refine ⟨by simp [ar,apart], ?_⟩
     exact ag▸⟨_,rfl,dU (by simp [aa.put])⟩
   . rw [Cm (by simp [aa.put]) h1 (by simp;omega)]
     simp only [SS,DD,Nat.reduceAdd]
     refine ⟨by simp [ar,apart], ?_⟩
     exact ag▸⟨_,rfl,dU (by simp [aa.put])⟩
end
end Go.VL
end

section
set_option linter.unusedVariables false
set_option linter.unusedVariables false
namespace Go.VL
theorem A5 {l:List FX} {i:Nat} (hi:i<l.length) (h:B7 l i=false):eg l=false:=by
 unfold eg
 have e:(List.range l.length).all (B7 l)=false:=by
   rw [List.all_eq_false]
   exact ⟨i,List.mem_range.2 hi,by rw [h];decide⟩
 rw [e,Bool.false_and]
theorem K9 {l:List FX} (h:∀ i,i<l.length->B7 l i=true):eg l=decide (l.length<=200):=by
 unfold eg
 have e:(List.range l.length).all (B7 l)=true:=by
   rw [List.all_eq_true]
   exact fun i hi=>h i (List.mem_range.1 hi)
 rw [e,Bool.true_and]
theorem La (l:List FX):(bZ l).length=l.length:=List.length_map ..
section
variable {P:Program} {G:Nat->Option (List AV)} {π : Id} {base:Nat} {Q:cD->VS->Prop} {n:Nat} {d:Option Nat} {os:List bp} {i:Nat} {t:List AV} {σ : aa}
theorem SB {ck:Nat} {l:List (List UInt8)} (hne:l≠[]):View (aa.of [([ck],⟨l.map .str,1,false⟩)]) (xi ck l) (strs l):=by
 rw [show xi ck l = .osl [ck] 1 0 l.length false from if_neg hne]
 refine View.osl (bk:=⟨l.map .str,1,false⟩) (by simp [aa.of]) rfl (by simp) ?_ (by simp) (fun d hd => ?_)
 . have e:(l.map AV.str).take l.length=l.map AV.str:=List.take_of_length_le (by simp)
   simp only [List.drop_zero,e]
   rw [wv]
   exact aW.pure fun c hc=>by obtain ⟨s,_,rfl⟩:=List.mem_map.1 hc;exact af.str s
 . obtain ⟨s,_,rfl⟩:=List.mem_map.1 hd;rfl
theorem DV {fh:FuncId} (hh:∀ (l:List (List UInt8)) (s:List UInt8),l.length<=1000000->VP P G fh [strs l, .str s] (.bool (l.contains s))) {ck:Nat} {l:List (List UInt8)} {s:List UInt8} (hl:l.length<=1000000)
   (hσ : l≠[] -> σ [ck]=some ⟨l.map .str,1,false⟩) (k:vs P G π base Q n os (i+1) (fK t d (.bool (l.contains s))) σ):pT P G π base Q n d os i t σ fh [xi ck l, .str s]:=by
 by_cases h0:l=[]
 . subst h0
   exact iG [] (hh [] s (by simp)) (aW.cons (View.nils 1) (aW.cons (View.pure (af.str s)) .nil)) (b7.bool _) (by simp) k
 . exact iG [([ck],⟨l.map .str,1,false⟩)] (hh l s hl) (aW.cons (SB h0) (aW.cons (View.pure (af.str s)) .nil)) (b7.bool _) (by simpa using hσ h0) k
set_option maxHeartbeats 1000000 in
theorem Vg {f fv fh fn:FuncId} (h:Has P f (kD fv fh fn)) (l:List FX) (hl:l.length<=1000) (hv:∀ X∈l,VP P G fv [X.av] (.bool X.valid)) (hn:∀ X∈l,VP P G fn [X.av] (strs (dX X))) (yw:∀ X∈l,(dX X).length<=1000)
   (hh:∀ (l:List (List UInt8)) (s:List UInt8),l.length<=1000000->VP P G fh [strs l, .str s] (.bool (l.contains s))):VP P G f [dr l] (.bool (eg l)):=by
 refine VP.has h ?_
 simp only [kD,SS,Nat.reduceAdd,aC]
 refine VW.bJ (α := Nat × Nat × Nat) (fun x=>⟨[dr l, .top, .bool false,xi x.2.1 (bZ (l.take x.1)), .int .i64 (x.1:Int)]++List.replicate 52 .top,
     aa.put (fun _=>none) [x.2.1] (if bZ (l.take x.1)=[] then none else some ⟨(bZ (l.take x.1)).map .str,1,false⟩),x.2.2⟩)
   (fun x=>x.1<=l.length/\x.2.1<x.2.2/\∀ j,j<x.1->B7 l j=true) (fun x=>l.length-x.1) (0,0,1000) ?_ ⟨Nat.zero_le _,by simp only [];omega,fun j hj=>absurd hj (Nat.not_lt_zero j)⟩ ?_
 . refine Wk.forget (by simp [Fg,List.replicate,xi,bZ]) (fun j => ?_) (by simp only [];omega)
   left;simp [aa.put,bZ]
 rintro ⟨i,ck,nn⟩ ⟨hi,Rl,cz⟩
 simp only [] at hi Rl cz
 have aeB:(bZ (l.take i)).length=i:=by rw [La,List.length_take];omega
 by_cases hlt:i<l.length
 case neg =>
   have dd:decide ((i:Int)<(l.length:Int))=false:=ak (by omega)
   have d2:decide ((l.length:Int)<=200)=decide (l.length<=200):=by
     by_cases q:l.length<=200
     . rw [ao q,ao (by omega)]
     . rw [ak q,ak (by omega)]
   simp only [SS,Nat.reduceAdd,List.replicate,my,dd,d2]
   rw [K9 fun j hj=>cz j (by omega)]
   exact ag▸ab rfl (af.bool _)
 obtain ⟨X,hX⟩:∃ X,l[i]? = some X:=⟨_,List.getElem?_eq_getElem hlt⟩
 have hm:=List.mem_of_getElem? hX
 have dd:decide ((i:Int)<(l.length:Int))=true:=ao (by omega)
 have hg:(l.map FX.av)[i]? = some X.av:=by rw [List.getElem?_map,hX];rfl
 have iA:br 5 (dr l) (.int .i64 (i:Int))=some (.ep X.av.cells 0):=aQ rfl hg
 have mo:B7 l i=(X.valid && !(bZ (l.take i)).contains X.name&&(dX X).all fun n=>(bZ (l.take i)).contains n):=by unfold B7;rw [hX]
 have ri:bZ (l.take (i+1))=bZ (l.take i)++[X.name]:=by rw [List.take_add_one,hX];simp [bZ]
 have px:=hv X hm
 have WJ:=hn X hm
 have aeC:=yw X hm
 generalize yf:bZ (l.take i)=names at aeB mo ri
 have hσ : names≠[]->(aa.put (fun _=>none) [ck] (if names=[] then none else some ⟨names.map .str,1,false⟩)) [ck]=some ⟨names.map .str,1,false⟩:=fun q=>by rw [aa.a8,if_neg q]
 simp only [SS,Nat.reduceAdd,List.replicate,my,dd,iA,az,FX.whole]
 have uS:af X.av:=FX.pure X
 refine aj px (by simp [uS]) ?_
 cases hval:X.valid
 . simp only [SS,Nat.reduceAdd]
   rw [A5 hlt (by rw [mo,hval,Bool.false_and,Bool.false_and])]
   exact ag▸ab rfl (af.bool _)
 simp only [SS,Nat.reduceAdd,iA,az,FX.c0]
 refine DV hh (by omega) hσ ?_
 cases Sk:names.contains X.name
 case true =>
   simp only [SS,Nat.reduceAdd]
   rw [A5 hlt (by rw [mo,Sk,Bool.not_true,Bool.and_false,Bool.false_and])]
   exact ag▸ab rfl (af.bool _)
 rw [hval,Sk,Bool.true_and,Bool.not_false,Bool.true_and] at mo
 simp only [SS,Nat.reduceAdd,iA,az,FX.whole]
 refine aj WJ (by simp [uS]) ?_
 simp only [SS,Nat.reduceAdd,aC]
 refine VW.bJ (α := Nat × Nat) (fun z=>⟨[dr l, .top, .bool false,xi ck names, .int .i64 (i:Int),strs (dX X), .int .i64 (z.1:Int)]++List.replicate 50 .top,
     aa.put (fun _=>none) [ck] (if names=[] then none else some ⟨names.map .str,1,false⟩),z.2⟩)
   (fun z=>z.1<=(dX X).length/\ck<z.2/\∀ (j:Nat) s,j<z.1->(dX X)[j]? = some s->names.contains s=true) (fun z=>(dX X).length-z.1) (0,nn+1000) ?_ ⟨Nat.zero_le _,by simp only [];omega,fun j s hj=>absurd hj (Nat.not_lt_zero j)⟩ ?_
 . exact Wk.slots (by simp [Fg,List.replicate]) (by simp only [];omega)
 rintro ⟨k,mm⟩ ⟨hk,EG,yv⟩
 simp only [] at hk EG yv
 by_cases Ir:k<(dX X).length
 . obtain ⟨s,hs⟩:∃ s,(dX X)[k]? = some s:=⟨_,List.getElem?_eq_getElem Ir⟩
   have d1:decide ((k:Int)<((dX X).length:Int))=true:=ao (by omega)
   have hgx:((dX X).map AV.str)[k]? = some (.str s):=by rw [List.getElem?_map,hs];rfl
   have mR:br 1 (strs (dX X)) (.int .i64 (k:Int))=some (.ep (AV.str s).cells 0):=aQ rfl hgx
   have GL:part false (AV.str s).cells 0 1=some (.str s):=rfl
   simp only [SS,Nat.reduceAdd,List.replicate,dB,d1,mR,az,GL]
   refine DV hh (by omega) hσ ?_
   cases hcs:names.contains s
   . simp only [SS,Nat.reduceAdd]
     rw [A5 hlt (by
       rw [mo,List.all_eq_false]
       exact ⟨s,List.mem_of_getElem? hs,by rw [hcs];decide⟩)]
     exact ag▸ab rfl (af.bool _)
   . simp only [SS,Nat.reduceAdd,aq k (by omega)]
     refine ⟨(k+1,mm+1000),⟨by simp only [];omega,by simp only [];omega, ?_⟩,by simp only [];omega,Wk.slots (by simp [Fg]) (by simp only [];omega)⟩
     intro j s' hj OS
     by_cases Ce:j<k
     . exact yv j s' Ce OS
     . have:j=k:=by simp only [] at hj;omega
       subst this;rw [hs] at OS;simp only [Option.some.injEq] at OS;subst OS;exact hcs
 have Yx:B7 l i=true:=by
   rw [mo,List.all_eq_true]
   intro s hs
   obtain ⟨j,hj,OS⟩:=List.getElem_of_mem hs
   exact yv j s (by omega) (by rw [List.getElem?_eq_getElem hj,OS])
 have d1:decide ((k:Int)<((dX X).length:Int))=false:=ak (by omega)
 have BG:∀ j,j<i+1->B7 l j=true:=fun j hj=>by
   by_cases Ce:j<i
   . exact cz j Ce
   . rw [show j=i from by omega];exact Yx
 simp only [SS,Nat.reduceAdd,List.replicate,dB,d1,iA,az,FX.c0,uA]
 by_cases h0:names=[]
 . have e0:xi ck names = .nils:=if_pos h0
   simp only [e0,oR,SS,Nat.reduceAdd,aq i (by omega)]
   refine ⟨(i+1,mm+4+6+1,mm+1000),⟨by simp only [];omega,by simp only [];omega,BG⟩,by simp only [];omega, ?_⟩
   simp only [ri,h0,List.nil_append,xi,List.cons_ne_nil,if_false,List.length_singleton,List.map_cons,List.map_nil]
   refine Wk.forget (by simp [Fg]) (fun j => ?_) (by omega)
   by_cases h1:j=[mm+4+6+1]
   . subst h1;right;simp [aa.put]
   . left;simp [aa.put,h1]
 . have e0:xi ck names = .osl [ck] 1 0 names.length false:=if_neg h0
   have zZ:∀ (p q:Id),q≠[ck]->b6 ((aa.put (fun _=>none) [ck] (if names=[] then none else some ⟨names.map .str,1,false⟩)).put q (some ⟨[.str X.name],1,false⟩)) p 1 16 (.osl [ck] 1 0 names.length false) (.osl q 1 0 1 false)=some { val := .osl p 1 0 (names.length+1) false,rd:=[[ck],q],up:=[([ck],none),(p,some ⟨(names++[X.name]).map .str,1,false⟩)] } :=
     fun p q hq=>zB hq (by omega) (by rw [aa.a8,if_neg h0])
   have hq:([mm+4+6]:List Nat)≠[ck]:=by intro e;simp at e;omega
   have Jh : ¬ names++[X.name]=[]:=by simp
   simp only [e0,zZ _ _ hq,SS,Nat.reduceAdd,aq i (by omega)]
   refine ⟨(i+1,mm+4+6+1,mm+1000),⟨by simp only [];omega,by simp only [];omega,BG⟩,by simp only [];omega, ?_⟩
   simp only [ri,xi,if_neg Jh,List.length_append,List.length_singleton]
   refine Wk.forget (by simp [Fg]) (fun j => ?_) (by omega)
   by_cases h1:j=[mm+4+6+1]
   . subst h1;right;simp [aa.put]
   . left;simp [aa.put,h1]
end
end Go.VL
end

section
set_option linter.unusedVariables false
set_option linter.unusedVariables false
namespace Go.VL
structure OX where
 kind:Nat
 F:FX
 name:List UInt8
 on:Bool
 pP:Int
def OX.av (o:OX):AV := .agg [.int .u8 (o.kind:Int), .str o.F.name, .int .i64 o.F.kind,strs o.F.inputs, .sl 7 (EX.kV o.F.vals), .bool o.F.supp, .str o.name, .bool o.on, .int .i64 o.pP]
theorem OX.one (o:OX):(o.av.cells.all AV.one=true)=True:=by simp [OX.av,AV.cells,AV.one,strs]
theorem OX.sz (o:OX):o.av.size=9:=rfl
theorem OX.p0 (o:OX):part false o.av.cells 0 1=some (.int .u8 (o.kind:Int)):=rfl
theorem OX.pF (o:OX):part true o.av.cells 1 5=some o.F.av:=rfl
theorem OX.p1 (o:OX):part false o.av.cells 1 1=some (.str o.F.name):=rfl
theorem OX.p6 (o:OX):part false o.av.cells 6 1=some (.str o.name):=rfl
theorem OX.p7 (o:OX):part false o.av.cells 7 1=some (.bool o.on):=rfl
theorem OX.p8 (o:OX):part false o.av.cells 8 1=some (.int .i64 o.pP):=rfl
theorem OX.whole (o:OX):part true o.av.cells 0 9=some o.av:=rfl
theorem OX.pure (o:OX):af o.av:=af.agg (by
 intro c hc
 simp at hc
 rcases hc with rfl | rfl | rfl | rfl | rfl | rfl | rfl | rfl | rfl
 . exact af.int _ _
 . exact af.str _
 . exact af.int _ _
 . exact gX _
 . exact EX.eJ _
 . exact af.bool _
 . exact af.str _
 . exact af.bool _
 . exact af.int _ _)
theorem A6 (k:Nat):bo .rem .int (.int .u8 (k:Int)) (.int .u8 7)=some (.int .u8 ((k%7:Nat):Int)):=by
 have e:((k:Int).tmod 7)=((k%7:Nat):Int):=by rw [Int.tmod_eq_emod_of_nonneg (by omega)];omega
 have e2:IntKind.u8.wrap ((k%7:Nat):Int)=((k%7:Nat):Int):=by
   have:∀ r:Nat,r<7->IntKind.u8.wrap (r:Int)=(r:Int):=by decide
   exact this _ (Nat.mod_lt _ (by decide))
 simp [bo,kW,sA,e]
def FX.bM (X:FX) (b:Bool):FX:={ X with supp:=b }
def oU (l:List FX) (i:Nat) (X:FX):List FX:=l.take i++[X]++l.drop i
def b9 (l:List FX) (o:OX):List FX × Int :=
 if o.kind%7=0 then (if o.F.valid=false then ([],1) else if 200<=l.length then ([],3) else if 0<=dh l o.F.name then ([],5) else if eg (l++[o.F])=true then (l++[o.F],0) else ([],4))
 else if o.kind%7=1 then (if o.F.valid=false then ([],1) else if dh l o.F.name<0 then ([],4) else if eg (l.set (dh l o.F.name).toNat o.F)=true then (l.set (dh l o.F.name).toNat o.F,0) else ([],4))
 else if o.kind%7=3/\(o.pP<0∨(l.length:Int)<=o.pP) then ([],1)
 else if dh l o.name<0 then ([],4)
 else
   let i:=(dh l o.name).toNat
   let X:=l.getD i ⟨[],0,[],[],false⟩
   let out:=if o.kind%7=2 then oU (gg l i) i (X.bM o.on) else if o.kind%7=3 then oU (gg l i) o.pP.toNat X else gg l i
   if eg out=true then (out,0) else ([],14)
theorem oV {σ : aa} {q:Id} {X:FX} (h : σ q=some ⟨[X.av],5,false⟩):dA σ 5 (.osl q 5 0 1 false)=some ([X.av],[q]):=jH (bk:=⟨[X.av],5,false⟩) h rfl (by simp)
theorem zG {σ : aa} {p q:Id} {l:List FX} {X:FX} (h : σ q=some ⟨[X.av],5,false⟩) (hl:l.length<=100000):b6 σ p 5 80 (.tsl 5 (l.map FX.av)) (.osl q 5 0 1 false)=some { val := .osl p 5 0 (l++[X]).length false,rd:=[q],up:=[(p,some ⟨(l++[X]).map FX.av,5,false⟩)] }:=by
 have h1:=nD (l++[X])
 rw [List.map_append] at h1
 rw [gS (ys:=[X.av]) (oV h) (by simp) (by simp;omega) (cK (by simp;omega)) h1]
 simp
theorem wD {σ : aa} {p id q:Id} {l:List FX} {X:FX} (h : σ id=some ⟨l.map FX.av,5,false⟩) (hq : σ q=some ⟨[X.av],5,false⟩) (hl:l.length<=100000):b6 σ p 5 80 (.osl id 5 0 l.length false) (.osl q 5 0 1 false)=some { val := .osl p 5 0 (l++[X]).length false,rd:=[id,q],up:=[(id,none),(p,some ⟨(l++[X]).map FX.av,5,false⟩)] }:=by
 rw [lN (els:=l.map FX.av) (ys:=[X.av]) (oV hq) (by simp) h (by simp) (by simp;omega) (cK (by simp;omega)) (nD [X]) (nD _)]
 simp
theorem xE {σ : aa} {q:Id} {X:FX}:b8 σ q (.buildSl 5 1 (.agg [(.str []),(.int .i64 0), .nils, .nils,(.bool false)]) [(0,X.av)])=some { val := .osl q 5 0 1 false,up:=[(q,some ⟨[X.av],5,false⟩)] } :=
 Xg rfl (of_eq_true (FX.one X)) rfl rfl
theorem Jr {σ : aa} {q:Id}:b8 σ q (.buildSl 5 0 (.agg [(.str []),(.int .i64 0), .nils, .nils,(.bool false)]) [])=some { val := .tsl 5 [] }:=Ub rfl rfl
theorem rk:(AV.tsl 5 []) = .tsl 5 (([]:List FX).map FX.av):=rfl
theorem jz {l:List FX} {nm:List UInt8} (h : ¬ dh l nm<0):∃ i:Nat,dh l nm=(i:Int)/\i<l.length:=by
 unfold dh at h ⊢
 cases hf:l.findIdx? fun X=>X.name==nm with
 | none=>rw [hf] at h;exact absurd (by decide:x6 none<0) h
 | some i=>exact ⟨i,rfl,(List.findIdx?_eq_some_iff_findIdx_eq.1 hf).1⟩
theorem bH {σ : aa} {x:AV} {l:List FX} {e:Int} (h:View σ x (dr l)):View σ (.tup [x, .int .i64 e]) (.tup [dr l, .int .i64 e]) :=
 View.tup (.cons h (.cons (View.pure (af.int _ _)) .nil))
section
variable {P:Program} {G:Nat->Option (List AV)} {π : Id} {base:Nat} {Q:cD->VS->Prop} {n:Nat} {d:Option Nat} {os:List bp} {i:Nat} {t:List AV} {σ : aa}
theorem eH {f:FuncId} {l:List FX} {id:Id} {tt:Bool} {r:AV} (h:VP P G f [dr l] r) (hf:b7 r) (hσ : σ id=some ⟨l.map FX.av,5,false⟩) (k:vs P G π base Q n os (i+1) (fK t d r) σ):pT P G π base Q n d os i t σ f [.osl id 5 0 l.length tt] :=
 iG [(id,⟨l.map FX.av,5,false⟩)] h (aW.cons (dU (by simp [aa.of])) .nil) hf (by simpa using hσ) k
end
section
variable {P:Program} {G:Nat->Option (List AV)}
set_option maxHeartbeats 1000000 in
theorem Js {f fv fp fl fc:FuncId} (h:Has P f (bA fv fp fl fc)) (l:List FX) (o:OX) (hk:o.kind%7=0) (hl:l.length<=1000) (hv:VP P G fv [o.F.av] (.bool o.F.valid))
   (hp:∀ nm,VP P G fp [dr l, .str nm] (.int .i64 (dh l nm))) (hL:VP P G fl [dr (l++[o.F])] (.bool (eg (l++[o.F])))):VP P G f [dr l,o.av] (.tup [dr (b9 l o).1, .int .i64 (b9 l o).2]):=by
 unfold b9
 rw [if_pos hk]
 have hr:bo .rem .int (.int .u8 (o.kind:Int)) (.int .u8 7)=some (.int .u8 0):=by rw [A6,hk];rfl
 have d0:decide ((0:Int)=0)=true:=rfl
 have hpF:af o.F.av:=FX.pure o.F
 have d1:decide ((200:Int)<=(l.length:Int))=decide (200<=l.length):=by
   by_cases q:200<=l.length
   . rw [ao q,ao (by omega)]
   . rw [ak q,ak (by omega)]
 refine VP.has h ?_
 simp only [bA,SS,Nat.reduceAdd,OX.one,ae,OX.p0,hr,decide_true,OX.pF]
 refine aj hv (by simp [hpF]) ?_
 cases hval:o.F.valid
 . rw [if_pos rfl]
   simp only [SS,Nat.reduceAdd]
   exact ag▸⟨_,rfl,bH (View.nils 5)⟩
 rw [if_neg (by decide)]
 simp only [SS,Nat.reduceAdd,my,d1]
 by_cases h2:200<=l.length
 . rw [if_pos h2,ao h2]
   simp only [SS,Nat.reduceAdd]
   exact ag▸⟨_,rfl,bH (View.nils 5)⟩
 rw [if_neg h2,ak h2]
 simp only [SS,Nat.reduceAdd,ae,OX.p1]
 refine aj (hp o.F.name) (by simp [de,af.str]) ?_
 simp only [SS,Nat.reduceAdd]
 by_cases h3:0<=dh l o.F.name
 . rw [if_pos h3,ao h3]
   simp only [SS,Nat.reduceAdd]
   exact ag▸⟨_,rfl,bH (View.nils 5)⟩
 rw [if_neg h3,ak h3]
 simp only [SS,DD,Nat.reduceAdd,Jr]
 by_cases h0:l=[]
 . rw [h0,eY ml]
   simp only [SS,DD,Nat.reduceAdd,ae,OX.pF,xE]
   rw [rk,zG (X:=o.F) (by simp [aa.put]) (by simp)]
   simp only [SS,DD,Nat.reduceAdd]
   refine ⟨by simp [ar,apart], ?_⟩
   rw [h0,List.nil_append] at hL
   refine eH hL (b7.bool _) (by simp [aa.put]) ?_
   cases hB:eg [o.F]
   . simp only [SS,Nat.reduceAdd]
     exact ag▸⟨_,rfl,bH (View.nils 5)⟩
   . simp only [SS,Nat.reduceAdd]
     exact ag▸⟨_,rfl,bH (dU (l:=[o.F]) (by simp [aa.put]))⟩
 . rw [rk,wU h0 (by simp;omega),List.nil_append]
   simp only [SS,DD,Nat.reduceAdd]
   rw [ai (by decide),ae,OX.pF]
   simp only [SS,DD,Nat.reduceAdd,xE]
   rw [wD (X:=o.F) (by simp [aa.put]) (by simp [aa.put]) (by omega)]
   simp only [SS,DD,Nat.reduceAdd]
   refine ⟨by simp [ar,apart], ?_⟩
   refine eH hL (b7.bool _) (by simp [aa.put]) ?_
   cases hB:eg (l++[o.F])
   . simp only [SS,Nat.reduceAdd]
     exact ag▸⟨_,rfl,bH (View.nils 5)⟩
   . simp only [SS,Nat.reduceAdd]
     exact ag▸⟨_,rfl,bH (dU (by simp [aa.put]))⟩
theorem map_set (l:List FX) (i:Nat) (X:FX):(l.map FX.av).set i X.av=(l.set i X).map FX.av:=by rw [List.map_set]
set_option maxHeartbeats 1000000 in
theorem Jt {f fv fp fl fc:FuncId} (h:Has P f (bA fv fp fl fc)) (l:List FX) (o:OX) (hk:o.kind%7=1) (hl:l.length<=1000) (hv:VP P G fv [o.F.av] (.bool o.F.valid))
   (hp:∀ nm,VP P G fp [dr l, .str nm] (.int .i64 (dh l nm))) (hL:∀ i,VP P G fl [dr (l.set i o.F)] (.bool (eg (l.set i o.F)))):VP P G f [dr l,o.av] (.tup [dr (b9 l o).1, .int .i64 (b9 l o).2]):=by
 unfold b9
 rw [if_neg (by omega),if_pos hk]
 have hr:bo .rem .int (.int .u8 (o.kind:Int)) (.int .u8 7)=some (.int .u8 1):=by rw [A6,hk];rfl
 have d0:decide ((1:Int)=0)=false:=rfl
 have hpF:af o.F.av:=FX.pure o.F
 refine VP.has h ?_
 simp only [bA,SS,Nat.reduceAdd,OX.one,ae,OX.p0,hr,d0,decide_true,OX.pF]
 refine aj hv (by simp [hpF]) ?_
 cases hval:o.F.valid
 . rw [if_pos rfl]
   simp only [SS,Nat.reduceAdd]
   exact ag▸⟨_,rfl,bH (View.nils 5)⟩
 rw [if_neg (by decide)]
 simp only [SS,Nat.reduceAdd,ae,OX.p1]
 refine aj (hp o.F.name) (by simp [de,af.str]) ?_
 simp only [SS,Nat.reduceAdd]
 by_cases h3:dh l o.F.name<0
 . rw [if_pos h3,ao h3]
   simp only [SS,Nat.reduceAdd]
   exact ag▸⟨_,rfl,bH (View.nils 5)⟩
 rw [if_neg h3,ak h3]
 obtain ⟨i,hi,hlt⟩:=jz h3
 have h0:l≠[]:=by intro e;rw [e] at hlt;simp at hlt
 rw [hi,Int.toNat_natCast]
 obtain ⟨Y,hY⟩:∃ Y,l[i]? = some Y:=⟨_,List.getElem?_eq_getElem hlt⟩
 have hg:(l.map FX.av)[i]? = some Y.av:=by rw [List.getElem?_map,hY];rfl
 simp only [SS,Nat.reduceAdd,Jr]
 rw [rk,wU h0 (by simp;omega),List.nil_append]
 simp only [SS,Nat.reduceAdd]
 rw [ai (by decide),ae,OX.pF]
 simp only [SS,Nat.reduceAdd,lE hlt]
 rw [uD (k:=5) (els:=l.map FX.av) (x:=Y.av) (y:=o.F.av) (by simp [aa.put]) hg rfl rfl (of_eq_true (FX.one _)) rfl,map_set]
 simp only [SS,Nat.reduceAdd]
 have Cy:(l.set i o.F).length=l.length:=List.length_set
 rw [<- Cy]
 refine eH (hL i) (b7.bool _) (by simp [aa.put]) ?_
 cases hB:eg (l.set i o.F)
 . simp only [SS,Nat.reduceAdd]
   exact ag▸⟨_,rfl,bH (View.nils 5)⟩
 . simp only [SS,Nat.reduceAdd]
   exact ag▸⟨_,rfl,bH (dU (by simp [aa.put]))⟩
end
end Go.VL
end

section
set_option linter.unusedVariables false
set_option linter.unusedVariables false
namespace Go.VL
theorem FX.abu (X:FX):(AV.agg [.str [], .int .i64 0, .nils, .nils, .bool false]).upd 0 X.av.cells=X.av:=rfl
theorem FX.u4 (X:FX) (b:Bool):X.av.upd 4 [.bool b]=(X.bM b).av:=rfl
theorem oW {l:List FX} {i:Nat} (h:i<l.length):(gg l i).length+1=l.length:=by
 simp [gg];omega
theorem zH {l:List FX} {i:Nat} {X:FX} (h:i<=l.length):(oU l i X).length=l.length+1:=by
 simp [oU];omega
theorem oh {σ : aa} {id:Id} {X:FX} {k:Nat} (h : σ id=some ⟨[.agg [.str [], .int .i64 0, .nils, .nils, .bool false]],k,false⟩):eL σ 5 (.ref id 0 0) X.av=some { val := .tup [],rd:=[id],up:=[(id,some ⟨[X.av],k,false⟩)] }:=by
 rw [cA (n:=5) (v:=X.av) h rfl rfl (by simp [AV.size,AV.cells]) (of_eq_true (FX.one X)),FX.abu]
 rfl
theorem FI {σ : aa} {p id:Id} {X:FX} {m:List FX} (h : σ id=some ⟨[X].map FX.av,5,false⟩) (hm:m≠[]) (hl:1+m.length<=1000000):b6 σ p 5 80 (.osl id 5 0 1 false) (dr m)=some { val := .osl p 5 0 (X::m).length false,rd:=[id],up:=[(id,none),(p,some ⟨(X::m).map FX.av,5,false⟩)] } :=
 Cm (l:=[X]) h hm (by simpa using hl)
theorem A7 {bc:FX->Prop} {l:List FX} {i:Nat} (hg:∀ Y∈l,bc Y):∀ Y∈gg l i,bc Y:=by
 intro Y hY
 unfold gg at hY
 rcases List.mem_append.1 hY with h | h
 . exact hg Y (List.mem_of_mem_take h)
 . exact hg Y (List.mem_of_mem_drop h)
theorem FJ {bc:FX->Prop} {m:List FX} {j:Nat} {X:FX} (hg:∀ Y∈m,bc Y) (hX:bc X):∀ Y∈oU m j X,bc Y:=by
 intro Y hY
 unfold oU at hY
 simp only [List.mem_append,List.mem_singleton] at hY
 rcases hY with (h | h) | h
 . exact hg Y (List.mem_of_mem_take h)
 . rw [h];exact hX
 . exact hg Y (List.mem_of_mem_drop h)
section
variable {P:Program} {G:Nat->Option (List AV)}
set_option maxHeartbeats 4000000 in
theorem Ju {f fv fp fl fc:FuncId} (h:Has P f (bA fv fp fl fc)) (l:List FX) (o:OX) (hk:o.kind%7=3) (hl:l.length<=1000) {bc:FX->Prop} (UL:∀ X∈l,bc X) (hgs:∀ X b,bc X->bc (X.bM b))
   (hp:∀ nm,VP P G fp [dr l, .str nm] (.int .i64 (dh l nm))) (hL:∀ m,m.length=l.length->(∀ X∈m,bc X)->VP P G fl [dr m] (.bool (eg m))) (hc:∀ i,i<l.length->VP P G fc [dr l, .int .i64 (i:Int)] (dr (gg l i))) :
   VP P G f [dr l,o.av] (.tup [dr (b9 l o).1, .int .i64 (b9 l o).2]):=by
 unfold b9
 rw [if_neg (by omega),if_neg (by omega),hk]
 have hr:bo .rem .int (.int .u8 (o.kind:Int)) (.int .u8 7)=some (.int .u8 3):=by rw [A6,hk];rfl
 have d0:decide ((3:Int)=0)=false:=rfl
 have d1:decide ((3:Int)=1)=false:=rfl
 have d2:decide ((3:Int)=2)=false:=rfl
 refine VP.has h ?_
 simp only [bA,SS,Nat.reduceAdd,OX.one,ae,OX.p0,hr,d0,d1,decide_true,OX.p8]
 by_cases t1:o.pP<0
 . rw [if_pos ⟨trivial, .inl t1⟩,ao t1]
   simp only [SS,Nat.reduceAdd]
   exact ag▸⟨_,rfl,bH (View.nils 5)⟩
 rw [ak t1]
 simp only [SS,Nat.reduceAdd,ae,OX.p8,my]
 by_cases t2:(l.length:Int)<=o.pP
 . rw [if_pos ⟨trivial, .inr t2⟩,ao t2]
   simp only [SS,Nat.reduceAdd]
   exact ag▸⟨_,rfl,bH (View.nils 5)⟩
 rw [ak t2,if_neg (by omega)]
 simp only [SS,Nat.reduceAdd,ae,OX.p6]
 refine aj (hp o.name) (by simp [de,af.str]) ?_
 simp only [SS,Nat.reduceAdd]
 by_cases h3:dh l o.name<0
 . rw [if_pos h3,ao h3]
   simp only [SS,Nat.reduceAdd]
   exact ag▸⟨_,rfl,bH (View.nils 5)⟩
 rw [if_neg h3,ak h3]
 obtain ⟨i,hi,hlt⟩:=jz h3
 obtain ⟨j,hj⟩:∃ j:Nat,o.pP=(j:Int):=⟨o.pP.toNat,by omega⟩
 have nL:j<l.length:=by omega
 obtain ⟨X,hX⟩:∃ X,l[i]? = some X:=⟨_,List.getElem?_eq_getElem hlt⟩
 have hg:(l.map FX.av)[i]? = some X.av:=by rw [List.getElem?_map,hX];rfl
 have iA:br 5 (dr l) (.int .i64 (i:Int))=some (.ep X.av.cells 0):=aQ rfl hg
 have D6:l.getD i ⟨[],0,[],[],false⟩=X:=by rw [List.getD_eq_getElem?_getD,hX];rfl
 have uU:=oW hlt
 have J1:=zH (X:=X) (show j<=(gg l i).length by omega)
 have A8:=hL _ (J1.trans uU) (FJ (A7 UL) (UL X (List.mem_of_getElem? hX)))
 have e32:((3:Nat)=2)=False:=eq_false (by decide)
 rw [hi,hj,Int.toNat_natCast,Int.toNat_natCast,D6]
 simp only [e32,if_false]
 simp only [SS,Nat.reduceAdd]
 refine aj (hc i hlt) (by simp [de,af.int]) ?_
 generalize gg l i=m at *
 unfold oU at A8 J1 ⊢
 simp only [SS,Nat.reduceAdd,iA,az,FX.whole,jb]
 rw [oh (k:=(AV.agg [.str [], .int .i64 0, .nils, .nils, .bool false]).size) (by simp [aa.put])]
 simp only [SS,Nat.reduceAdd]
 rw [ai (by decide),ai (by decide),ae,OX.p0]
 simp only [SS,DD,Nat.reduceAdd,hr,d2,decide_true,Jr]
 rw [ai (by decide),ai (by decide),ae,OX.p8,hj]
 have hj1:j<=m.length:=by omega
 simp only [SS,DD,Nat.reduceAdd,pJ hj1]
 have SC:=pK hj1
 have UM:(m.drop j).length<=1000:=by rw [List.length_drop];omega
 have Es:(m.take j).length<=1000:=by rw [List.length_take];omega
 generalize m.drop j=md at *
 generalize m.take j=mt at *
 by_cases h0:mt=[]
 . subst h0
   rw [eY ml]
   simp only [SS,DD,Nat.reduceAdd,ae,FX.whole,xE]
   rw [rk,zG (X:=X) (by simp [aa.put]) (by simp)]
   simp only [SS,DD,Nat.reduceAdd]
   repeat rw [ai (by decide)]
   rw [ae,OX.p8,hj]
   simp only [SS,DD,Nat.reduceAdd,SC]
   by_cases h1:md=[]
   . subst h1
     rw [lO ml]
     simp only [SS,DD,Nat.reduceAdd]
     refine ⟨by simp [ar,apart], ?_⟩
     rw [List.append_nil,List.nil_append] at A8
     refine eH A8 (b7.bool _) (by simp [aa.put]) ?_
     cases hB:eg [X]
     . simp only [SS,Nat.reduceAdd]
       exact ag▸⟨_,rfl,bH (View.nils 5)⟩
     . simp only [SS,Nat.reduceAdd]
       exact ag▸⟨_,rfl,bH (dU (l:=[X]) (by simp [aa.put]))⟩
   . rw [FI (X:=X) (by simp [aa.put]) h1 (by omega)]
     simp only [SS,DD,Nat.reduceAdd]
     refine ⟨by simp [ar,apart], ?_⟩
     have A8:VP P G fl [dr (X::md)] (.bool (eg (X::md))):=A8
     refine eH A8 (b7.bool _) (by simp [aa.put]) ?_
     cases hB:eg (X::md)
     . simp only [SS,Nat.reduceAdd]
       exact ag▸⟨_,rfl,bH (View.nils 5)⟩
     . simp only [SS,Nat.reduceAdd]
       exact ag▸⟨_,rfl,bH (dU (l:=X::md) (by simp [aa.put]))⟩
 . rw [rk,wU h0 (by simp;omega),List.nil_append]
   simp only [SS,DD,Nat.reduceAdd]
   rw [ai (by decide),ae,FX.whole]
   simp only [SS,DD,Nat.reduceAdd,xE]
   rw [wD (l:=mt) (X:=X) (by simp [aa.put]) (by simp [aa.put]) (by omega)]
   simp only [SS,DD,Nat.reduceAdd]
   repeat rw [ai (by decide)]
   rw [ae,OX.p8,hj]
   simp only [SS,DD,Nat.reduceAdd,SC]
   by_cases h1:md=[]
   . subst h1
     rw [lO ml]
     simp only [SS,DD,Nat.reduceAdd]
     refine ⟨by simp [ar,apart]<;>(intro a b hh;rcases hh with ⟨rfl,_⟩ | ⟨rfl,_⟩<;>simp), ?_⟩
     rw [List.append_nil] at A8
     refine eH A8 (b7.bool _) (by simp [aa.put]) ?_
     cases hB:eg (mt++[X])
     . simp only [SS,Nat.reduceAdd]
       exact ag▸⟨_,rfl,bH (View.nils 5)⟩
     . simp only [SS,Nat.reduceAdd]
       exact ag▸⟨_,rfl,bH (dU (l:=mt++[X]) (by simp [aa.put]))⟩
   . rw [Cm (l:=mt++[X]) (by simp [aa.put]) h1 (by simp;omega)]
     simp only [SS,DD,Nat.reduceAdd]
     refine ⟨by simp [ar,apart]<;>(intro a b hh;rcases hh with ⟨rfl,_⟩ | ⟨rfl,_⟩<;>simp), ?_⟩
     refine eH A8 (b7.bool _) (by simp [aa.put]) ?_
     cases hB:eg (mt++[X]++md)
     . simp only [SS,Nat.reduceAdd]
       exact ag▸⟨_,rfl,bH (View.nils 5)⟩
     . simp only [SS,Nat.reduceAdd]
       exact ag▸⟨_,rfl,bH (dU (l:=mt++[X]++md) (by simp [aa.put]))⟩
set_option maxHeartbeats 4000000 in
theorem Jv {f fv fp fl fc:FuncId} (h:Has P f (bA fv fp fl fc)) (l:List FX) (o:OX) (hk:o.kind%7=2) (hl:l.length<=1000) {bc:FX->Prop} (UL:∀ X∈l,bc X) (hgs:∀ X b,bc X->bc (X.bM b))
   (hp:∀ nm,VP P G fp [dr l, .str nm] (.int .i64 (dh l nm))) (hL:∀ m,m.length=l.length->(∀ X∈m,bc X)->VP P G fl [dr m] (.bool (eg m))) (hc:∀ i,i<l.length->VP P G fc [dr l, .int .i64 (i:Int)] (dr (gg l i))) :
   VP P G f [dr l,o.av] (.tup [dr (b9 l o).1, .int .i64 (b9 l o).2]):=by
 unfold b9
 rw [if_neg (by omega),if_neg (by omega),hk]
 have hr:bo .rem .int (.int .u8 (o.kind:Int)) (.int .u8 7)=some (.int .u8 2):=by rw [A6,hk];rfl
 have d0:decide ((2:Int)=0)=false:=rfl
 have d1:decide ((2:Int)=1)=false:=rfl
 have d3:decide ((2:Int)=3)=false:=rfl
 refine VP.has h ?_
 simp only [bA,SS,Nat.reduceAdd,OX.one,ae,OX.p0,hr,d0,d1,d3,OX.p6]
 rw [if_neg (by omega)]
 refine aj (hp o.name) (by simp [de,af.str]) ?_
 simp only [SS,Nat.reduceAdd]
 by_cases h3:dh l o.name<0
 . rw [if_pos h3,ao h3]
   simp only [SS,Nat.reduceAdd]
   exact ag▸⟨_,rfl,bH (View.nils 5)⟩
 rw [if_neg h3,ak h3]
 obtain ⟨i,hi,hlt⟩:=jz h3
 obtain ⟨X,hX⟩:∃ X,l[i]? = some X:=⟨_,List.getElem?_eq_getElem hlt⟩
 have hg:(l.map FX.av)[i]? = some X.av:=by rw [List.getElem?_map,hX];rfl
 have iA:br 5 (dr l) (.int .i64 (i:Int))=some (.ep X.av.cells 0):=aQ rfl hg
 have D6:l.getD i ⟨[],0,[],[],false⟩=X:=by rw [List.getD_eq_getElem?_getD,hX];rfl
 have uU:=oW hlt
 have J1:=zH (X:=X.bM o.on) (show i<=(gg l i).length by omega)
 have A8:=hL _ (J1.trans uU) (FJ (A7 UL) (hgs X o.on (UL X (List.mem_of_getElem? hX))))
 rw [hi,Int.toNat_natCast,D6]
 simp only [SS,Nat.reduceAdd]
 refine aj (hc i hlt) (by simp [de,af.int]) ?_
 generalize gg l i=m at *
 unfold oU at A8 J1 ⊢
 simp only [SS,Nat.reduceAdd,iA,az,FX.whole,jb]
 rw [oh (k:=(AV.agg [.str [], .int .i64 0, .nils, .nils, .bool false]).size) (by simp [aa.put])]
 simp only [SS,Nat.reduceAdd]
 repeat rw [ai (by decide)]
 rw [ae,OX.p0]
 simp only [SS,Nat.reduceAdd,hr,decide_true]
 repeat rw [ai (by decide)]
 rw [ae,OX.p7]
 simp only [SS,Nat.reduceAdd]
 rw [fN (x:=X.av) (y:=(X.bM o.on).av) (k:=(AV.agg [.str [], .int .i64 0, .nils, .nils, .bool false]).size) (by simp [aa.put]) rfl rfl (by rw [FX.sz];omega) (FX.u4 X _)]
 have Ua:i<=m.length:=by omega
 simp only [SS,DD,Nat.reduceAdd,Jr,pJ Ua]
 have SC:=pK Ua
 have UM:(m.drop i).length<=1000:=by rw [List.length_drop];omega
 have Es:(m.take i).length<=1000:=by rw [List.length_take];omega
 generalize m.drop i=md at *
 generalize m.take i=mt at *
 by_cases h0:mt=[]
 . subst h0
   rw [eY ml]
   simp only [SS,DD,Nat.reduceAdd,ae,FX.whole,xE]
   rw [rk,zG (X:=X.bM o.on) (by simp [aa.put]) (by simp)]
   simp only [SS,DD,Nat.reduceAdd]
   simp only [SS,DD,Nat.reduceAdd,SC]
   by_cases h1:md=[]
   . subst h1
     rw [lO ml]
     simp only [SS,DD,Nat.reduceAdd]
     refine ⟨by simp [ar,apart], ?_⟩
     rw [List.append_nil,List.nil_append] at A8
     refine eH A8 (b7.bool _) (by simp [aa.put]) ?_
     cases hB:eg [X.bM o.on]
     . simp only [SS,Nat.reduceAdd]
       exact ag▸⟨_,rfl,bH (View.nils 5)⟩
     . simp only [SS,Nat.reduceAdd]
       exact ag▸⟨_,rfl,bH (dU (l:=[X.bM o.on]) (by simp [aa.put]))⟩
   . rw [FI (X:=X.bM o.on) (by simp [aa.put]) h1 (by omega)]
     simp only [SS,DD,Nat.reduceAdd]
     refine ⟨by simp [ar,apart], ?_⟩
     have A8:VP P G fl [dr (X.bM o.on::md)] (.bool (eg (X.bM o.on::md))):=A8
     refine eH A8 (b7.bool _) (by simp [aa.put]) ?_
     cases hB:eg (X.bM o.on::md)
     . simp only [SS,Nat.reduceAdd]
       exact ag▸⟨_,rfl,bH (View.nils 5)⟩
     . simp only [SS,Nat.reduceAdd]
       exact ag▸⟨_,rfl,bH (dU (l:=X.bM o.on::md) (by simp [aa.put]))⟩
 . rw [rk,wU h0 (by simp;omega),List.nil_append]
   simp only [SS,DD,Nat.reduceAdd]
   rw [ai (by decide),ae,FX.whole]
   simp only [SS,DD,Nat.reduceAdd,xE]
   rw [wD (l:=mt) (X:=X.bM o.on) (by simp [aa.put]) (by simp [aa.put]) (by omega)]
   simp only [SS,DD,Nat.reduceAdd]
   simp only [SS,DD,Nat.reduceAdd,SC]
   by_cases h1:md=[]
   . subst h1
     rw [lO ml]
     simp only [SS,DD,Nat.reduceAdd]
     refine ⟨by simp [ar,apart]<;>(intro a b hh;rcases hh with ⟨rfl,_⟩ | ⟨rfl,_⟩<;>simp), ?_⟩
     rw [List.append_nil] at A8
     refine eH A8 (b7.bool _) (by simp [aa.put]) ?_
     cases hB:eg (mt++[X.bM o.on])
     . simp only [SS,Nat.reduceAdd]
       exact ag▸⟨_,rfl,bH (View.nils 5)⟩
     . simp only [SS,Nat.reduceAdd]
       exact ag▸⟨_,rfl,bH (dU (l:=mt++[X.bM o.on]) (by simp [aa.put]))⟩
   . rw [Cm (l:=mt++[X.bM o.on]) (by simp [aa.put]) h1 (by simp;omega)]
     simp only [SS,DD,Nat.reduceAdd]
     refine ⟨by simp [ar,apart]<;>(intro a b hh;rcases hh with ⟨rfl,_⟩ | ⟨rfl,_⟩<;>simp), ?_⟩
     refine eH A8 (b7.bool _) (by simp [aa.put]) ?_
     cases hB:eg (mt++[X.bM o.on]++md)
     . simp only [SS,Nat.reduceAdd]
       exact ag▸⟨_,rfl,bH (View.nils 5)⟩
     . simp only [SS,Nat.reduceAdd]
       exact ag▸⟨_,rfl,bH (dU (l:=mt++[X.bM o.on]++md) (by simp [aa.put]))⟩
set_option maxHeartbeats 4000000 in
theorem Jw {f fv fp fl fc:FuncId} (h:Has P f (bA fv fp fl fc)) (l:List FX) (o:OX) (hk:o.kind%7=4) (hl:l.length<=1000) {bc:FX->Prop} (UL:∀ X∈l,bc X) (hgs:∀ X b,bc X->bc (X.bM b))
   (hp:∀ nm,VP P G fp [dr l, .str nm] (.int .i64 (dh l nm))) (hL:∀ m,m.length+1=l.length->(∀ X∈m,bc X)->VP P G fl [dr m] (.bool (eg m))) (hc:∀ i,i<l.length->VP P G fc [dr l, .int .i64 (i:Int)] (dr (gg l i))) :
   VP P G f [dr l,o.av] (.tup [dr (b9 l o).1, .int .i64 (b9 l o).2]):=by
 unfold b9
 rw [if_neg (by omega),if_neg (by omega),hk]
 have hr:bo .rem .int (.int .u8 (o.kind:Int)) (.int .u8 7)=some (.int .u8 4):=by rw [A6,hk];rfl
 have d0:decide ((4:Int)=0)=false:=rfl
 have d1:decide ((4:Int)=1)=false:=rfl
 have d2:decide ((4:Int)=2)=false:=rfl
 have d3:decide ((4:Int)=3)=false:=rfl
 have e42:((4:Nat)=2)=False:=eq_false (by decide)
 have e43:((4:Nat)=3)=False:=eq_false (by decide)
 refine VP.has h ?_
 simp only [bA,SS,Nat.reduceAdd,OX.one,ae,OX.p0,hr,d0,d1,d3,OX.p6]
 rw [if_neg (by omega)]
 refine aj (hp o.name) (by simp [de,af.str]) ?_
 simp only [SS,Nat.reduceAdd]
 by_cases h3:dh l o.name<0
 . rw [if_pos h3,ao h3]
   simp only [SS,Nat.reduceAdd]
   exact ag▸⟨_,rfl,bH (View.nils 5)⟩
 rw [if_neg h3,ak h3]
 obtain ⟨i,hi,hlt⟩:=jz h3
 obtain ⟨X,hX⟩:∃ X,l[i]? = some X:=⟨_,List.getElem?_eq_getElem hlt⟩
 have hg:(l.map FX.av)[i]? = some X.av:=by rw [List.getElem?_map,hX];rfl
 have iA:br 5 (dr l) (.int .i64 (i:Int))=some (.ep X.av.cells 0):=aQ rfl hg
 have uU:=oW hlt
 have A8:=hL _ uU (A7 UL)
 rw [hi,Int.toNat_natCast]
 simp only [e42,e43,if_false]
 simp only [SS,Nat.reduceAdd]
 refine aj (hc i hlt) (by simp [de,af.int]) ?_
 generalize gg l i=m at *
 simp only [SS,Nat.reduceAdd,iA,az,FX.whole,jb]
 rw [oh (k:=(AV.agg [.str [], .int .i64 0, .nils, .nils, .bool false]).size) (by simp [aa.put])]
 simp only [SS,Nat.reduceAdd]
 repeat rw [ai (by decide)]
 rw [ae,OX.p0]
 simp only [SS,Nat.reduceAdd,hr,d2,d3]
 refine aj A8 (by simp [de]) ?_
 cases hB:eg m
 . simp only [SS,Nat.reduceAdd]
   exact ag▸⟨_,rfl,bH (View.nils 5)⟩
 . simp only [SS,Nat.reduceAdd]
   exact ag▸⟨_,rfl,bH (View.pure (de m))⟩
end
end Go.VL
end

section
set_option linter.unusedVariables false
set_option linter.unusedVariables false
namespace Go.VL
def qz (ls:List (List FX)):AV := .sl 1 (ls.map dr)
def bf (ls:List (List FX)) (a:Nat):AV := .agg [qz ls, .int .i64 (a:Int)]
theorem OT (l:List FX):(dr l).cells=[dr l]:=rfl
theorem Jy (ls:List (List FX)):flat (ls.map dr)=ls.map dr:=by
 induction ls with
 | nil=>rfl
 | cons l ls ih=>simp only [List.map_cons,flat,List.flatMap_cons,OT] at ih ⊢;rw [ih];rfl
theorem wE (ls:List (List FX)):jM false (qz ls)=some (.int .i64 (ls.length:Int)):=by simp [qz,jM]
theorem DW (ls:List (List FX)):∀ c∈ls.map dr,af c:=fun c hc=>by
 obtain ⟨l,_,rfl⟩:=List.mem_map.1 hc;exact de l
theorem OU (ls:List (List FX)):af (qz ls):=af.sl (by rw [Jy];exact DW ls)
theorem DX (ls:List (List FX)):((ls.map dr).all fun e=>e.cells.all AV.one)=true:=by
 rw [List.all_eq_true];intro e he;obtain ⟨l,_,rfl⟩:=List.mem_map.1 he;rfl
theorem lF (ls:List (List FX)) (a:Nat):af (bf ls a):=af.agg (by
 intro c hc
 simp at hc
 rcases hc with rfl | rfl
 . exact OU ls
 . exact af.int _ _)
theorem A9 (ls:List (List FX)) (a:Nat):((bf ls a).cells.all AV.one=true)=True:=by simp [bf,AV.cells,AV.one,qz]
theorem lG (ls:List (List FX)) (a:Nat):part false (bf ls a).cells 0 1=some (qz ls):=rfl
theorem jA (ls:List (List FX)) (a:Nat):part false (bf ls a).cells 1 1=some (.int .i64 (a:Int)):=rfl
theorem jB (ls:List (List FX)) (a:Nat):part true (bf ls a).cells 0 2=some (bf ls a):=rfl
theorem Cn {ls:List (List FX)} {a:Nat} {l:List FX} (h:ls[a]? = some l):br 1 (qz ls) (.int .i64 (a:Int))=some (.ep (dr l).cells 0):=aQ rfl (by rw [List.getElem?_map,h];rfl)
theorem zI (l:List FX):part false (dr l).cells 0 1=some (dr l):=rfl
theorem FK {σ : aa} {id:Id} {ls:List (List FX)} {t:Bool} (h : σ id=some ⟨ls.map dr,1,false⟩):View σ (.osl id 1 0 ls.length t) (qz ls):=by
 refine View.osl (bk:=⟨ls.map dr,1,false⟩) h rfl (by simp) ?_ (by simp) (fun d hd => ?_)
 . have e:(ls.map dr).take ls.length=ls.map dr:=List.take_of_length_le (by simp)
   simp only [List.drop_zero,e,Jy]
   exact aW.pure (DW ls)
 . obtain ⟨y,_,rfl⟩:=List.mem_map.1 hd
   rfl
theorem Ex {ls:List (List FX)} {h:Nat} (hh:h<=ls.length):bU 1 (qz ls) none (some (.int .i64 (h:Int))) none=some (qz (ls.take h)):=by
 simp [bU,cJ,dV,qz,hh,List.map_take]
theorem SD {σ : aa} {p:Id} {m:List (List FX)} (hm:m≠[]) (hl:m.length<=1000000):b6 σ p 1 24 (.tsl 1 []) (qz m)=some { val := .osl p 1 0 m.length false,rd:=[],up:=[(p,some ⟨m.map dr,1,false⟩)] }:=by
 rw [gS (es:=[]) (ys:=m.map dr) (x:=qz m) (rd:=[]) eX (by simpa using hm) (by simp;omega) (cK (by simp;omega)) (by simpa using DX m)]
 simp
theorem OV {σ : aa} {p id q:Id} {ls:List (List FX)} {l:List FX} (h : σ id=some ⟨ls.map dr,1,false⟩) (hq : σ q=some ⟨[dr l],1,false⟩) (hl:ls.length<=100000):b6 σ p 1 24 (.osl id 1 0 ls.length false) (.osl q 1 0 1 false)=some { val := .osl p 1 0 (ls++[l]).length false,rd:=[id,q],up:=[(id,none),(p,some ⟨(ls++[l]).map dr,1,false⟩)] }:=by
 rw [lN (els:=ls.map dr) (ys:=[dr l]) (jH (bk:=⟨[dr l],1,false⟩) hq rfl (by simp)) (by simp) h (by simp) (by simp;omega) (cK (by simp;omega)) rfl (DX _)]
 simp
theorem WB {σ : aa} {q:Id} {l:List FX}:b8 σ q (.buildSl 1 1 .nils [(0,dr l)])=some { val := .osl q 1 0 1 false,up:=[(q,some ⟨[dr l],1,false⟩)] }:=Xg rfl rfl rfl rfl
theorem abw {σ : aa} {q:Id}:b8 σ q (.buildSl 1 0 .nils [])=some { val := .tsl 1 [] }:=Ub rfl rfl
theorem OW (x:AV) (b:Nat):(AV.agg [.nils, .int .i64 0]).upd 0 (AV.agg [x, .int .i64 (b:Int)]).cells = .agg [x, .int .i64 (b:Int)]:=rfl
noncomputable def wF (ls:List (List FX)) (a:Nat) (o:OX):List (List FX) × Nat × Int × Bool :=
 if o.kind%7=5 then (if a=0 then (ls,a,0,false) else (ls,a-1,0,true))
 else if o.kind%7=6 then (if a+1=ls.length then (ls,a,0,false) else (ls,a+1,0,true))
 else
   let l:=ls.getD a []
   let c:=b9 l o
   if c.2≠0∨gY c.1 l=true then (ls,a,c.2,false) else (ls.take (a+1)++[c.1],a+1,0,false)
section
variable {P:Program} {G:Nat->Option (List AV)}
theorem Yy {f:FuncId} (h:Has P f iF) (ls:List (List FX)) (a:Nat) {l:List FX} (ha:ls[a]? = some l):VP P G f [bf ls a] (dr l):=by
 refine VP.has h ?_
 simp only [iF,SS,Nat.reduceAdd,A9,ae,lG,jA,Cn ha,az,zI]
 exact ag▸ab rfl (de l)
theorem Yz {f:FuncId} (h:Has P f fX):VP P G f [] (bf [[]] 0):=by
 have hb:∀ (σ : aa) (q:Id),b8 σ q (.buildSl 1 1 .nils [(0, .nils)])=some { val := .osl q 1 0 1 false,up:=[(q,some ⟨[.nils],1,false⟩)] }:=fun σ q=>Xg rfl rfl rfl rfl
 have e:∀ q:Id,py [.nils, .int .i64 0] [(0,(1, .osl q 1 0 1 false))]=some [.osl q 1 0 1 false, .int .i64 0]:=fun q=>rfl
 have z1:(AV.cells (.agg [.nils, .int .i64 0])).all AV.one=true:=rfl
 refine VP.has h ?_
 simp only [fX,SS,Nat.reduceAdd,hb,e,z1]
 rw [cA (n:=2) (v := .agg [.osl [1] 1 0 1 false, .int .i64 0]) (els:=[.agg [.nils, .int .i64 0]]) (el := .agg [.nils, .int .i64 0]) (k:=(AV.agg [.nils, .int .i64 0]).size) (by simp [aa.put]) rfl rfl (by simp [AV.size,AV.cells]) rfl]
 simp only [SS,Nat.reduceAdd]
 refine ag▸⟨.agg [.osl [1] 1 0 1 false, .int .i64 0], ?_,View.agg (.cons (View.osl (bk:=⟨[.nils],1,false⟩) (by simp [aa.put]) rfl (by simp) (aW.cons (View.nils 5) .nil) rfl (by simp;rfl)) (.cons (View.pure (af.int _ _)) .nil))⟩
 simp only [RS,bP,cu,ae]
 rfl
end
end Go.VL
end

section
set_option linter.unusedVariables false
set_option linter.unusedVariables false
namespace Go.VL
theorem jK {σ : aa} {id:Id} {x:AV} {b:Nat} {k:Nat} (hx:x.cells=[x]) (h1:x.one=true) (h : σ id=some ⟨[.agg [.nils, .int .i64 0]],k,false⟩) :
   eL σ 2 (.ref id 0 0) (.agg [x, .int .i64 (b:Int)])=some { val := .tup [],rd:=[id],up:=[(id,some ⟨[.agg [x, .int .i64 (b:Int)]],k,false⟩)] }:=by
 rw [cA (n:=2) (v := .agg [x, .int .i64 (b:Int)]) h rfl rfl (by simp [AV.size,AV.cells]) (by simp [AV.cells,AV.one] at h1 ⊢;exact h1),OW]
 rfl
theorem oi {a:Nat} (h:a≠0) (hb:a<=1000000):IntKind.i64.wrap ((a:Int)-1)=((a-1:Nat):Int):=by
 rw [show (a:Int)-1=((a-1:Nat):Int) by omega]
 exact Gm _ (by omega)
theorem OY {σ : aa} {x:AV} {ls:List (List FX)} {a:Nat} {e:Int} {b:Bool} (h:View σ x (bf ls a)):View σ (.tup [x, .int .i64 e, .bool b]) (.tup [bf ls a, .int .i64 e, .bool b]) :=
 View.tup (.cons h (.cons (View.pure (af.int _ _)) (.cons (View.pure (af.bool _)) .nil)))
theorem DY:((AV.agg [.nils, .int .i64 0]).cells.all AV.one=true)=True:=by simp [AV.cells,AV.one]
theorem lH (x:AV) (a:Nat):part true (AV.agg [x, .int .i64 (a:Int)]).cells 0 2=some (.agg [x, .int .i64 (a:Int)]):=rfl
theorem BI (x:AV) (a:Nat):part false (AV.agg [x, .int .i64 (a:Int)]).cells 1 1=some (.int .i64 (a:Int)):=rfl
theorem Jz (ls:List (List FX)) (a:Nat) (x:AV):(bf ls a).upd 0 [x] = .agg [x, .int .i64 (a:Int)]:=rfl
theorem SE (x:AV) (a b:Nat):(AV.agg [x, .int .i64 (a:Int)]).upd 1 [.int .i64 (b:Int)] = .agg [x, .int .i64 (b:Int)]:=rfl
section
variable {P:Program} {G:Nat->Option (List AV)}
set_option maxHeartbeats 2000000 in
theorem abx {f fn fc fs:FuncId} (h:Has P f (lZ fn fc fs)) (ls:List (List FX)) (a:Nat) (o:OX) {l:List FX} (ha:ls[a]? = some l) (xN:ls.length<=1000)
   (hn:VP P G fn [bf ls a] (dr l)) (hc:o.kind%7<5->VP P G fc [dr l,o.av] (.tup [dr (b9 l o).1, .int .i64 (b9 l o).2]))
   (hs:o.kind%7<5->(b9 l o).2=0->VP P G fs [dr (b9 l o).1,dr l] (.bool (gY (b9 l o).1 l))) :
   VP P G f [bf ls a,o.av] (.tup [bf (wF ls a o).1 (wF ls a o).2.1, .int .i64 (wF ls a o).2.2.1, .bool (wF ls a o).2.2.2]):=by
 have halt:a<ls.length:=(List.getElem?_eq_some_iff.1 ha).1
 have D6:ls.getD a []=l:=by rw [List.getD_eq_getElem?_getD,ha];rfl
 have hk7:o.kind%7<7:=Nat.mod_lt _ (by decide)
 have hr:bo .rem .int (.int .u8 (o.kind:Int)) (.int .u8 7)=some (.int .u8 ((o.kind%7:Nat):Int)):=A6 _
 have eE:([0]:List Nat)≠[1]:=by decide
 have mV:([0]:List Nat)≠[2]:=by decide
 have nZ:([1]:List Nat)≠[2]:=by decide
 have mc:∀ (x:AV),∀ b:Nat,(AV.agg [x, .int .i64 (b:Int)]).size=2:=fun _ _=>rfl
 unfold wF
 refine VP.has h ?_
 simp only [lZ,SS,Nat.reduceAdd,A9,OX.one,DY,ai nZ,ae,OX.p0,hr]
 by_cases h5:o.kind%7=5
 . rw [if_pos h5,ao (by omega:((o.kind%7:Nat):Int)=5)]
   simp only [SS,Nat.reduceAdd,ai eE,ai mV,ae,jA]
   by_cases h0:a=0
   . rw [if_pos h0,ao (by omega:(a:Int)=0)]
     simp only [SS,Nat.reduceAdd,ai eE,ai mV,ae,jB]
     rw [show bf ls a = .agg [qz ls, .int .i64 (a:Int)] from rfl,jK (k:=(AV.agg [.nils, .int .i64 0]).size) rfl rfl (by simp [aa.put])]
     simp only [SS,Nat.reduceAdd]
     refine ag▸ab ?_ (af.tup (by intro c hc;simp at hc;rcases hc with rfl | rfl | rfl;exact lF ls a;exact af.int _ _;exact af.bool _))
     simp only [RS,bP,cu,ae,lH]
   . rw [if_neg h0,ak (by omega : ¬ (a:Int)=0)]
     simp only [SS,Nat.reduceAdd,ai eE,ai mV,ae,jA,oi h0 (by omega:a<=1000000)]
     rw [fN (x:=bf ls a) (y:=bf ls (a-1)) (k:=(bf ls a).size) (by simp [aa.put]) rfl rfl (by rw [bf,mc];omega) rfl]
     simp only [SS,Nat.reduceAdd,ae,jB]
     rw [show bf ls (a-1) = .agg [qz ls, .int .i64 ((a-1:Nat):Int)] from rfl,jK (k:=(AV.agg [.nils, .int .i64 0]).size) rfl rfl (by simp [aa.put])]
     simp only [SS,Nat.reduceAdd]
     refine ag▸ab ?_ (af.tup (by intro c hc;simp at hc;rcases hc with rfl | rfl | rfl;exact lF ls _;exact af.int _ _;exact af.bool _))
     simp only [RS,bP,cu,ae,lH]
 rw [if_neg h5,ak (by omega : ¬ ((o.kind%7:Nat):Int)=5)]
 simp only [SS,Nat.reduceAdd,ai nZ,ae,OX.p0,hr]
 by_cases h6:o.kind%7=6
 . rw [if_pos h6,ao (by omega:((o.kind%7:Nat):Int)=6)]
   simp only [SS,Nat.reduceAdd,ai eE,ai mV,ae,jA,lG,wE,oi (show ls.length≠0 by omega) (by omega:ls.length<=1000000)]
   by_cases h0:a+1=ls.length
   . rw [if_pos h0,ao (by omega:(a:Int)=((ls.length-1:Nat):Int))]
     simp only [SS,Nat.reduceAdd,ai eE,ai mV,ae,jB]
     rw [show bf ls a = .agg [qz ls, .int .i64 (a:Int)] from rfl,jK (k:=(AV.agg [.nils, .int .i64 0]).size) rfl rfl (by simp [aa.put])]
     simp only [SS,Nat.reduceAdd]
     refine ag▸ab ?_ (af.tup (by intro c hc;simp at hc;rcases hc with rfl | rfl | rfl;exact lF ls a;exact af.int _ _;exact af.bool _))
     simp only [RS,bP,cu,ae,lH]
   . rw [if_neg h0,ak (by omega : ¬ (a:Int)=((ls.length-1:Nat):Int))]
     simp only [SS,Nat.reduceAdd,ai eE,ai mV,ae,jA,aq a (by omega)]
     rw [fN (x:=bf ls a) (y:=bf ls (a+1)) (k:=(bf ls a).size) (by simp [aa.put]) rfl rfl (by rw [bf,mc];omega) rfl]
     simp only [SS,Nat.reduceAdd,ae,jB]
     rw [show bf ls (a+1) = .agg [qz ls, .int .i64 ((a+1:Nat):Int)] from rfl,jK (k:=(AV.agg [.nils, .int .i64 0]).size) rfl rfl (by simp [aa.put])]
     simp only [SS,Nat.reduceAdd]
     refine ag▸ab ?_ (af.tup (by intro c hc;simp at hc;rcases hc with rfl | rfl | rfl;exact lF ls _;exact af.int _ _;exact af.bool _))
     simp only [RS,bP,cu,ae,lH]
 rw [if_neg h6,ak (by omega : ¬ ((o.kind%7:Nat):Int)=6),D6]
 have hcc:=hc (by omega)
 have WA:=hs (by omega)
 have hmp:=lF ls a
 generalize b9 l o=c at *
 obtain ⟨m,e⟩:=c
 simp only [] at hcc WA ⊢
 simp only [SS,DD,Nat.reduceAdd,ai eE,ai mV,ae,jB]
 refine ax hn (by simp [hmp]) ?_
 simp only [SS,DD,Nat.reduceAdd,ai nZ,ae,OX.whole]
 refine ax hcc (by simp [de,OX.pure]) ?_
 simp only [SS,DD,Nat.reduceAdd]
 refine ⟨by simp [ar,apart], ?_⟩
 by_cases he:e=0
 case neg =>
   rw [if_pos (.inl he)]
   simp only [SS,Nat.reduceAdd,ao he,ai mV,ai eE,ae,jB]
   rw [show bf ls a = .agg [qz ls, .int .i64 (a:Int)] from rfl,jK (k:=(AV.agg [.nils, .int .i64 0]).size) rfl rfl (by simp [aa.put])]
   simp only [SS,Nat.reduceAdd]
   refine ag▸ab ?_ (af.tup (by intro c hc;simp at hc;rcases hc with rfl | rfl | rfl;exact lF ls a;exact af.int _ _;exact af.bool _))
   simp only [RS,bP,cu,ae,lH]
 subst he
 have d0:decide ((0:Int)≠0)=false:=rfl
 simp only [SS,Nat.reduceAdd,d0,ai mV,ai eE,ae,jB]
 refine aj hn (by simp [hmp]) ?_
 simp only [SS,Nat.reduceAdd]
 refine aj (WA rfl) (by simp [de]) ?_
 cases heq:gY m l
 case true =>
   rw [if_pos (.inr rfl)]
   simp only [SS,Nat.reduceAdd,ai mV,ai eE,ae,jB]
   rw [show bf ls a = .agg [qz ls, .int .i64 (a:Int)] from rfl,jK (k:=(AV.agg [.nils, .int .i64 0]).size) rfl rfl (by simp [aa.put])]
   simp only [SS,Nat.reduceAdd]
   refine ag▸ab ?_ (af.tup (by intro c hc;simp at hc;rcases hc with rfl | rfl | rfl;exact lF ls a;exact af.int _ _;exact af.bool _))
   simp only [RS,bP,cu,ae,lH]
 rw [if_neg (by simp)]
 have Es:(ls.take (a+1)).length=a+1:=by rw [List.length_take];omega
 have hne:ls.take (a+1)≠[]:=by intro e;rw [e] at Es;simp at Es
 simp only [SS,Nat.reduceAdd,abw,ai mV,ai eE,ae,lG,jA,aq a (by omega),Ex (show a+1<=ls.length by omega)]
 rw [SD hne (by omega)]
 simp only [SS,Nat.reduceAdd,WB]
 rw [OV (ls:=ls.take (a+1)) (l:=m) (by simp [aa.put]) (by simp [aa.put]) (by omega)]
 simp only [SS,Nat.reduceAdd]
 rw [fN (x:=bf ls a) (k:=(bf ls a).size) (by simp [aa.put]) og rfl (show 0+1<=2 by decide) (Jz ls a _)]
 simp only [SS,Nat.reduceAdd,ae,BI,aq a (by omega)]
 rw [fN (k:=(bf ls a).size) (aa.a8 _ _ _) rfl rfl (show 1+1<=2 by decide) (SE _ a (a+1))]
 simp only [SS,Nat.reduceAdd,ae,lH]
 rw [jK (k:=(AV.agg [.nils, .int .i64 0]).size) og rfl (by simp [aa.put])]
 simp only [SS,Nat.reduceAdd]
 refine ag▸⟨.tup [.agg [.osl [40] 1 0 (ls.take (a+1)++[m]).length false, .int .i64 ((a+1:Nat):Int)], .int .i64 0, .bool false], ?_,OY (View.agg (.cons (FK (ls:=ls.take (a+1)++[m]) (by simp [aa.put]) (t:=false)) (.cons (View.pure (af.int _ _)) .nil)))⟩
 simp only [RS,bP,cu,ae,lH]
end
end Go.VL
end

section
set_option linter.unusedVariables false
namespace Go.VL
section
variable {P:Program} {G:Nat->Option (List AV)}
def lav (l:List bL):AV:=match l with | [] => .nils | _::_=>zw l
def Qt (ls:List (List bL)) (now:Nat):dC:=⟨[.agg [.sl 1 (ls.map lav), .int .i64 now]],2,false⟩
theorem bC {i:Id} {b:dC}:aa.of [(i,b)] i=some b:=by simp [aa.of]
end
end Go.VL
end

section
set_option linter.unusedVariables false
namespace Go.VL
def bare (s:List UInt8):bL:=⟨s,1,[],[],false⟩
section
variable {P:Program} {G:Nat->Option (List AV)}
end
end Go.VL
end

section
set_option linter.unusedVariables false
namespace Go.VL
section
variable {P:Program} {G:Nat->Option (List AV)}
structure Zb (P:Program) (G:Nat->Option (List AV)) (f fp fv ff fc z8 fs ym fq Vh:FuncId):Prop where
 app:Has P f (et fp fv ff fc z8 fs ym)
 present:Has P fp bD
 valid:∀ s,bd s=true->VP P G fv [(bare s).av] (.bool true)
 find:∀ (l:List bL) (nm:List UInt8),(∀ F∈l,F.Ok)->l.length<9223372036854775807->VP P G ff [zw l, .str nm] (.int .i64 (MW l nm))
 cloneL:Has P fc aV
 clone:∀ s,VP P G z8 [(bare s).av] (bare s).av
 sat:∀ l:List bL,(∀ F∈l,∃ s,F=bare s)->l.length<9223372036854775807->VP P G fs [zw l] (.bool true)
 change:Has P ym (cH fp fq Vh)
 eqf:Has P fq aG
variable {f fp fv ff fc z8 fs ym fq Vh:FuncId}
end
end Go.VL
end

section
set_option linter.unusedVariables false
set_option linter.unusedVariables false
namespace Go.VL
def xF (l:List FX) (i:Nat):Bool:=match l[i]? with
 | none=>true
 | some X=>(dX X).all fun n => !decide (dh (l.take i) n<0)
def pL (l:List FX):Bool:=(List.range l.length).all (xF l)
theorem SF {l:List FX} {i:Nat} (hi:i<l.length) (h:xF l i=false):pL l=false:=by
 unfold pL
 rw [List.all_eq_false]
 exact ⟨i,List.mem_range.2 hi,by rw [h];decide⟩
theorem OZ {l:List FX} (h:∀ i,i<l.length->xF l i=true):pL l=true:=by
 unfold pL
 rw [List.all_eq_true]
 exact fun i hi=>h i (List.mem_range.1 hi)
theorem FL (l:List FX):zw (l.map FX.eG)=dr l:=by
 simp [zw,dr,FX.av,List.map_map,Function.comp_def]
theorem Lb (l:List FX) (nm:List UInt8):MW (l.map FX.eG) nm=dh l nm:=by
 unfold MW dh
 rw [List.findIdx?_map];rfl
section
variable {P:Program} {G:Nat->Option (List AV)}
theorem SG {f f1 fi:FuncId} (h:Has P f (gw f1 fi)) (h1:∀ (F:bL) (nm:List UInt8),VP P G f1 [F.av, .ep [.str nm] 0] (.bool (F.name==nm)))
   (hi:Has P fi bl) {l:List FX} (hl:l.length<=1000) (hX:∀ X∈l,X.inputs.length<=1000/\X.vals.length<=1000) (nm:List UInt8):VP P G f [dr l, .str nm] (.int .i64 (dh l nm)):=by
 rw [<- FL, <- Lb]
 refine UO h h1 hi (fun F hF => ?_) (by rw [List.length_map];omega) nm
 obtain ⟨X,hm,rfl⟩:=List.mem_map.1 hF
 exact FX.Sc (hX X hm).1 (hX X hm).2
set_option maxHeartbeats 1000000 in
theorem GQ {f fn ff:FuncId} (h:Has P f (fQ fn ff)) (l:List FX) (hl:l.length<=1000) (hn:∀ X∈l,VP P G fn [X.av] (strs (dX X))) (yw:∀ X∈l,(dX X).length<=1000)
   (hf:∀ i nm,VP P G ff [dr (l.take i), .str nm] (.int .i64 (dh (l.take i) nm))):VP P G f [dr l] (.bool (pL l)):=by
 refine VP.has h ?_
 simp only [fQ,SS,Nat.reduceAdd,my,aC]
 refine VW.bJ (α := Nat × Nat) (fun x=>⟨[dr l, .top, .top, .top, .top, .top, .top,dr l, .int .i64 (l.length:Int), .int .i64 (x.1:Int)]++List.replicate 19 .top,fun _=>none,x.2⟩)
   (fun x=>x.1<=l.length/\∀ j,j<x.1->xF l j=true) (fun x=>l.length-x.1) (0,1000) ?_ ⟨Nat.zero_le _,fun j hj=>absurd hj (Nat.not_lt_zero j)⟩ ?_
 . exact Wk.slots (by simp [Fg,List.replicate]) (by omega)
 rintro ⟨i,nn⟩ ⟨hi,cz⟩
 simp only [] at hi cz
 by_cases hlt:i<l.length
 case neg =>
   have dd:decide ((i:Int)<(l.length:Int))=false:=ak (by omega)
   simp only [SS,List.replicate,dd]
   rw [OZ fun j hj=>cz j (by omega)]
   exact ag▸ab rfl (af.bool _)
 obtain ⟨X,hX⟩:∃ X,l[i]? = some X:=⟨_,List.getElem?_eq_getElem hlt⟩
 have hm:=List.mem_of_getElem? hX
 have dd:decide ((i:Int)<(l.length:Int))=true:=ao (by omega)
 have hg:(l.map FX.av)[i]? = some X.av:=by rw [List.getElem?_map,hX];rfl
 have iA:br 5 (dr l) (.int .i64 (i:Int))=some (.ep X.av.cells 0):=aQ rfl hg
 have mo:xF l i=((dX X).all fun n => !decide (dh (l.take i) n<0)):=by unfold xF;rw [hX]
 have WJ:=hn X hm
 have aeC:=yw X hm
 have uS:af X.av:=FX.pure X
 simp only [SS,Nat.reduceAdd,List.replicate,dd,iA,az,FX.whole,jb]
 rw [oh (k:=(AV.agg [.str [], .int .i64 0, .nils, .nils, .bool false]).size) (by simp [aa.put])]
 simp only [SS,Nat.reduceAdd,ae,FX.whole]
 refine aj WJ (by simp [uS]) ?_
 simp only [SS,Nat.reduceAdd,dB,aC]
 refine VW.bJ (α := Nat × Nat) (fun z=>⟨[dr l, .top, .top, .int .i64 (i:Int), .top, .top, .top,dr l, .int .i64 (l.length:Int), .int .i64 (i:Int), .top, .top, .top, .top, .top,strs (dX X), .int .i64 ((dX X).length:Int), .int .i64 (z.1:Int)]++List.replicate 11 .top,fun _=>none,z.2⟩)
   (fun z=>z.1<=(dX X).length/\∀ (j:Nat) s,j<z.1->(dX X)[j]? = some s->dh (l.take i) s<0->False) (fun z=>(dX X).length-z.1) (0,nn+1000) ?_ ⟨Nat.zero_le _,fun j s hj=>absurd hj (Nat.not_lt_zero j)⟩ ?_
 . exact Wk.forget (by simp [Fg,List.replicate]) (fun j => .inl rfl) (by omega)
 rintro ⟨k,mm⟩ ⟨hk,yv⟩
 simp only [] at hk yv
 by_cases Ir:k<(dX X).length
 . obtain ⟨s,hs⟩:∃ s,(dX X)[k]? = some s:=⟨_,List.getElem?_eq_getElem Ir⟩
   have d1:decide ((k:Int)<((dX X).length:Int))=true:=ao (by omega)
   have hgx:((dX X).map AV.str)[k]? = some (.str s):=by rw [List.getElem?_map,hs];rfl
   have mR:br 1 (strs (dX X)) (.int .i64 (k:Int))=some (.ep (AV.str s).cells 0):=aQ rfl hgx
   have GL:part false (AV.str s).cells 0 1=some (.str s):=rfl
   simp only [SS,Nat.reduceAdd,List.replicate,d1,mR,az,GL,pJ (Nat.le_of_lt hlt)]
   refine aj (hf i s) (by simp [de,af.str]) ?_
   simp only [SS,Nat.reduceAdd]
   by_cases hp:dh (l.take i) s<0
   . rw [ao hp]
     simp only [SS]
     rw [SF hlt (by
       rw [mo,List.all_eq_false]
       exact ⟨s,List.mem_of_getElem? hs,by rw [ao hp];decide⟩)]
     exact ag▸ab rfl (af.bool _)
   . rw [ak hp]
     simp only [SS,Nat.reduceAdd,aq k (by omega)]
     refine ⟨(k+1,mm+1000),⟨by simp only [];omega, ?_⟩,by simp only [];omega,Wk.slots (by simp [Fg]) (by omega)⟩
     intro j s' hj OS
     by_cases Ce:j<k
     . exact yv j s' Ce OS
     . have:j=k:=by simp only [] at hj;omega
       subst this;rw [hs] at OS;simp only [Option.some.injEq] at OS;subst OS;exact hp
 have Yx:xF l i=true:=by
   rw [mo,List.all_eq_true]
   intro s hs
   obtain ⟨j,hj,OS⟩:=List.getElem_of_mem hs
   rw [ak (yv j s (by omega) (by rw [List.getElem?_eq_getElem hj,OS]))]
   rfl
 have d1:decide ((k:Int)<((dX X).length:Int))=false:=ak (by omega)
 have BG:∀ j,j<i+1->xF l j=true:=fun j hj=>by
   by_cases Ce:j<i
   . exact cz j Ce
   . rw [show j=i from by omega];exact Yx
 simp only [SS,Nat.reduceAdd,List.replicate,d1,aq i (by omega)]
 exact ⟨(i+1,mm+1000),⟨by simp only [];omega,BG⟩,by simp only [];omega,Wk.slots (by simp [Fg]) (by omega)⟩
end
end Go.VL
end

section
set_option linter.unusedVariables false
set_option linter.unusedVariables false
namespace Go.VL
def e9 (ls:List (List FX)) (now:Nat):dC:=⟨[bf ls now],2,false⟩
theorem View.YA {σ : aa} (k:Nat):View σ .nils (.tsl k []):=fun G own E w v hi hr=>by
 simp only [aL] at hr ⊢;exact ⟨none,hr,Nat.zero_le _,by simp, .inl trivial⟩
theorem M6 {hid:Id} {ls:List (List FX)} {now o:Nat} {σ : aa} (h : σ hid=some (e9 ls now)):gh σ false 1 (.ref hid 0 o)=(part false (bf ls now).cells o 1).map fun v=>{ val:=v,rd:=[hid] }:=mK (bk:=e9 ls now) h rfl
theorem Vi (ls:List (List FX)) (now:Nat):flat (e9 ls now).els=[qz ls, .int .i64 (now:Int)]:=rfl
section
variable {P:Program} {G:Nat->Option (List AV)}
theorem jL {f:FuncId} (h:Has P f bD) {hid:Id} {ls:List (List FX)} {now:Nat} {l:List FX} (hl:ls[now]? = some l) (p:Id) :
   aB P G f [.ref hid 0 0] p [(hid,e9 ls now)] { val:=dr l,rd:=[hid] }:=by
 refine aB.has h ?_
 have e1:∀ o,gh (aa.of [(hid,e9 ls now)]) false 1 (.ref hid 0 o)=(part false (bf ls now).cells o 1).map fun v=>{ val:=v,rd:=[hid] }:=fun o=>M6 bC
 simp only [bD,SS,DD,Nat.reduceAdd,e1,lG,jA,Cn hl,az,zI]
 refine ⟨by simp [ar], ?_⟩
 exact aS▸aA rfl fun i => .inr rfl
theorem Vj {f:FuncId} (h:Has P f kx) (p:Id):aB P G f [] p [] { val := .ref (3::p) 0 0,up:=[(3::p,some (e9 [[]] 0))] }:=by
 refine aB.has h ?_
 have hb:∀ (σ : aa) (q:Id),b8 σ q (.buildSl 1 1 .nils [(0, .nils)])=some { val := .osl q 1 0 1 false,up:=[(q,some ⟨[.nils],1,false⟩)] }:=fun σ q=>Xg rfl rfl rfl rfl
 have e:∀ q:Id,py [.nils, .int .i64 0] [(0,(1, .osl q 1 0 1 false))]=some [.osl q 1 0 1 false, .int .i64 0]:=fun q=>rfl
 have z1:∀ q:Id,(AV.cells (.agg [.osl q 1 0 1 false, .int .i64 0])).all AV.one=true:=fun q=>rfl
 simp only [kx,SS,Nat.reduceAdd,hb,e,z1]
 refine aS▸⟨_,rfl,Fin.rC [(1::p,⟨[.nils],1,false⟩)] ?_ (kR.same _ _) ?_⟩
 . intro x hx;simp only [List.mem_singleton] at hx;subst hx;simp [aa.put]
 . intro i
   by_cases hi:i=3::p
   . subst hi
     refine .inr ⟨⟨[.agg [.osl (1::p) 1 0 1 false, .int .i64 0]],2,false⟩,e9 [[]] 0,by simp [aa.put,AV.size,AV.cells],by simp [aa.app,aa.put],rfl, .inl rfl, ?_,rfl, ?_, ?_⟩
     . intro _ x hx;simp only [List.mem_singleton] at hx;subst hx;simp
     . intro e he;simp [e9] at he;subst he;rfl
     . refine ⟨kR.view ?_,kR.same _ _,trivial⟩
       exact View.osl (bk:=⟨[.nils],1,false⟩) bC rfl (Nat.le_refl _) (aW.cons (View.nils 5) .nil) rfl (by simp;rfl)
   . left;simp [aa.app,aa.put,hi,aa.of]
theorem tf {f:FuncId} (h:Has P f aV):VP P G f [dr []] (.tsl 5 []):=by
 refine VP.has h ?_
 simp only [aV,dr,List.map_nil,SS,Nat.reduceAdd,Jr,eY (eX (k:=5) (es:=[]))]
 exact ⟨ag▸⟨.nils,rfl,View.YA 5⟩,ag▸⟨_,rfl,View.pure (af.tsl (by simp [flat]))⟩⟩
theorem th {f:FuncId} (h:Has P f aV) {l:List FX} (hne:l≠[]) (hl:l.length<=1000) (p:Id) :
   aB P G f [dr l] p [] { val := .osl (5::p) 5 0 l.length false,rd:=[],up:=[(5::p,some ⟨l.map FX.av,5,false⟩)] }:=by
 have:=OG (G:=G) h (l:=l.map FX.eG) (by simpa using hne) (by simp;omega) p
 rw [FL,List.length_map,List.map_map] at this
 exact this
theorem JA {f fp fq fs:FuncId} (h:Has P f (cH fp fq fs)) (hp:Has P fp bD) {hid:Id} {ls:List (List FX)} {now:Nat} {l:List FX} (hl:ls[now]? = some l)
   (hq:VP P G fq [dr l,dr l, .fn (.func fs) [] []] (.bool true)) (p:Id):aB P G f [.ref hid 0 0,dr l] p [(hid,e9 ls now)] { val := .int .i64 0,rd:=[hid] }:=by
 refine aB.has h ?_
 simp only [cH,SS,Nat.reduceAdd]
 refine ⟨_,_,jL hp hl _,by simp [bC],by simp, ?_⟩
 simp only [SS,Nat.reduceAdd]
 refine aj hq (by intro x hx;simp at hx;rcases hx with rfl | rfl;exact de l;exact af.fn (by simp) (by simp)) ?_
 simp only [SS,Nat.reduceAdd]
 exact aS▸aA rfl fun i => .inr rfl
theorem Lc {f fp fq fs:FuncId} (h:Has P f (cH fp fq fs)) (hp:Has P fp bD) {hid:Id} {ls:List (List FX)} {now:Nat} {l l':List FX} (hl:ls[now]? = some l) (xN:ls.length<=1000)
   (hq:VP P G fq [dr l',dr l, .fn (.func fs) [] []] (.bool false)) (p:Id) (qR:∀ q,q::p≠hid) :
   aB P G f [.ref hid 0 0,dr l'] p [(hid,e9 ls now)] { val := .int .i64 0,rd:=[hid],up:=[(hid,some (e9 (ls.take (now+1)++[l']) (now+1)))] }:=by
 refine aB.has h ?_
 have hlt:=(List.getElem?_eq_some_iff.1 hl).1
 have e1:∀ o,gh (aa.of [(hid,e9 ls now)]) false 1 (.ref hid 0 o)=(part false (bf ls now).cells o 1).map fun v=>{ val:=v,rd:=[hid] }:=fun o=>M6 bC
 have w1:=aq now (by omega)
 have Cy:bU 1 (qz ls) none (some (.int .i64 ((now+1:Nat):Int))) (some (.int .i64 ((now+1:Nat):Int)))=some (.tsl 1 ((ls.take (now+1)).map dr)):=by
   have hle:now+1<=ls.length:=hlt
   have XE:(now:Int)+1<=ls.length:=by omega
   have h0:(0:Int)<=(now:Int)+1:=by omega
   have ht:((now:Int)+1).toNat=now+1:=by omega
   simp [bU,cJ,dV,tu,XE,h0,ht,List.map_take,qz]
 simp only [cH,SS,Nat.reduceAdd]
 refine ⟨_,_,jL hp hl _,by simp [bC],by simp, ?_⟩
 simp only [SS,Nat.reduceAdd]
 refine aj hq (by intro x hx;simp at hx;rcases hx with rfl | rfl | rfl;exact de l';exact de l;exact af.fn (by simp) (by simp)) ?_
 simp only [SS,DD,Nat.reduceAdd,e1,lG,jA,w1,Cy,WB]
 have mU:(((ls.take (now+1)).map dr++[dr l']).all fun e=>e.cells.all AV.one)=true:=by
   rw [List.all_append,DX];rfl
 have hlen:(((ls.take (now+1)).map dr).length+[dr l'].length)=now+2:=by simp;omega
 have zZ:=gS (σ := (aa.of [(hid,e9 ls now)]).put (23::p) (some ⟨[dr l'],1,false⟩)) (p:=24::p) (k:=1) (bytes:=24) (x := .osl (23::p) 1 0 1 false) (es:=(ls.take (now+1)).map dr) (ys:=[dr l']) (rd:=[23::p])
   (by simp [dA,aa.put]) (by simp) (by rw [hlen];omega) (by rw [hlen];exact cK (by omega)) mU
 rw [hlen] at zZ
 have hst:=cA (σ := ((aa.of [(hid,e9 ls now)]).put (23::p) (some ⟨[dr l'],1,false⟩)).put (24::p) (some ⟨(ls.take (now+1)).map dr++[dr l'],1,false⟩)) (id:=hid) (els:=[bf ls now]) (k:=2) (n:=1) (e:=0) (o:=0)
   (el:=bf ls now) (v := .osl (24::p) 1 0 (now+2) false) (by simp [aa.put,(qR 23).symm,(qR 24).symm,aa.of,e9]) rfl rfl (by simp [bf,AV.size,AV.cells]) rfl
 simp only [zZ,SS,DD,Nat.reduceAdd,hst]
 refine ⟨?_, ?_⟩
 . have n23:=qR 23
   simp [ar,apart,n23]
 simp only [SS,Nat.reduceAdd,og,Jz,ae,BI,w1]
 have aeD:∀ σ : aa,eL (σ.put hid (some ⟨[.agg [.osl (24::p) 1 0 (now+2) false, .int .i64 now]],2,false⟩)) 1 (.ref hid 0 1) (.int .i64 ((now+1:Nat):Int))=some { val := .tup [],rd:=[hid],up:=[(hid,some ⟨[.agg [.osl (24::p) 1 0 (now+2) false, .int .i64 ((now+1:Nat):Int)]],2,false⟩)] }:=by
   intro σ
   rw [cA (n:=1) (v := .int .i64 ((now+1:Nat):Int)) (els:=[.agg [.osl (24::p) 1 0 (now+2) false, .int .i64 now]]) (k:=2) (aa.a8 _ _ _) rfl rfl (by simp [AV.size,AV.cells]) rfl]
   rfl
 simp only [SS,Nat.reduceAdd,aeD]
 refine aS▸⟨_,rfl,Fin.rC [(24::p,⟨(ls.take (now+1)).map dr++[dr l'],1,false⟩)] ?_ (kR.same _ _) ?_⟩
 . intro x hx;simp only [List.mem_singleton] at hx;subst hx;simp [aa.put,qR 24]
 . intro i
   by_cases hi:i=hid
   . subst hi
     refine .inr ⟨⟨[.agg [.osl (24::p) 1 0 (now+2) false, .int .i64 ((now+1:Nat):Int)]],2,false⟩,e9 (ls.take (now+1)++[l']) (now+1),by simp [aa.put],by simp [aa.app,aa.put],rfl, .inl rfl, ?_,rfl, ?_, ?_⟩
     . intro _ x hx;simp only [List.mem_singleton] at hx;subst hx;exact qR 24
     . intro e he;simp [e9] at he;subst he;rfl
     . have hm:(ls.take (now+1)).map dr++[dr l']=(ls.take (now+1)++[l']).map dr:=by simp
       have hn:(ls.take (now+1)++[l']).length=now+2:=by simp;omega
       rw [Vi,hm, <- hn]
       exact ⟨kR.view (FK bC),kR.same _ _,trivial⟩
   . left;simp [aa.app,aa.put,hi,aa.of]
end
end Go.VL
end

section
set_option linter.unusedVariables false
set_option linter.unusedVariables false
namespace Go.VL
noncomputable def DZ (hid:Id) (ls:List (List FX)) (now:Nat) (l m:List FX):List (Id × Option dC):=if gY m l=true then [] else [(hid,some (e9 (ls.take (now+1)++[m]) (now+1)))]
theorem qA {hid:Id} {ls:List (List FX)} {now:Nat} {l m:List FX}:∀ x∈DZ hid ls now l m,x.1=hid:=by
 intro x hx
 unfold DZ at hx
 split at hx
 . simp at hx
 . simp at hx;rw [hx]
theorem Ki {σ τ : aa} {i:Id} (h : σ i = τ i):∀ up:List (Id × Option dC),(σ.app up) i=(τ.app up) i:=by
 intro up
 induction up generalizing σ τ with
 | nil=>exact h
 | cons x up ih =>
   refine ih ?_
   by_cases e:i=x.1
   . subst e;rw [aa.a8,aa.a8]
   . rw [aa.bg _ _ _ e,aa.bg _ _ _ e,h]
theorem M7 {σ : aa} {i:Id}:∀ up:List (Id × Option dC),(∀ x∈up,x.1≠i)->(σ.app up) i = σ i:=by
 intro up
 induction up generalizing σ with
 | nil=>intro _;rfl
 | cons x up ih =>
   intro h
   refine (ih fun y hy=>h y (List.mem_cons_of_mem _ hy)).trans ?_
   exact aa.bg _ _ _ (h x List.mem_cons_self).symm
theorem gb {hid:Id} {b:dC} {σ : aa} {up:List (Id × Option dC)} (hup:∀ x∈up,x.1=hid) (hσ : σ hid=some b) (i:Id):(aa.of [(hid,b)]).app up i=none∨(aa.of [(hid,b)]).app up i=(σ.app up) i:=by
 by_cases e:i=hid
 . subst e;right;exact Ki (by rw [hσ,bC]) up
 . left
   rw [M7 up fun x hx he=>e ((hup x hx)▸he).symm]
   simp [aa.of,e]
section
variable {P:Program} {G:Nat->Option (List AV)} {π : Id} {base:Nat} {Q:cD->VS->Prop} {n:Nat} {d:Option Nat} {os:List bp} {i:Nat} {t:List AV} {σ : aa}
theorem kz {ym:FuncId} {hid id:Id} {ls:List (List FX)} {now:Nat} {x:AV} {m:List FX} {bk:dC} {up:List (Id × Option dC)} (h:aB P G ym [.ref hid 0 0,dr m] ((base+i) :: π) [(hid,e9 ls now)] { val := .int .i64 0,rd:=[hid],up:=up })
   (hv:View (aa.of [(id,bk)]) x (dr m)) (hne:id≠hid) (hsz:∀ e∈bk.els,e.size=bk.k) (h1 : σ id=some bk) (h2 : σ hid=some (e9 ls now)) (k:vs P G π base Q n os (i+1) (fK t d (.int .i64 0)) ((σ.app (rC [(id,bk)])).app up)) :
   pT P G π base Q n d os i t σ ym [.ref hid 0 0,x]:=by
 refine ⟨[(id,bk)]++[(hid,e9 ls now)],_,aB.T9 (args:=[.ref hid 0 0,x]) [(id,bk)] h ⟨kR.same _ _,kR.view hv,trivial⟩ ?_ ?_, ?_, ?_, ?_⟩
 . intro y hy z hz;simp only [List.mem_singleton] at hy hz;subst hy hz;exact hne
 . intro y hy;simp only [List.mem_singleton] at hy;subst hy;exact hsz
 . intro y hy
   simp only [List.mem_append,List.mem_singleton] at hy
   rcases hy with rfl | rfl
   . exact h1
   . exact h2
 . intro y hy
   simp only [List.mem_append,List.mem_singleton] at hy
   rcases hy with rfl | rfl<;>simp
 . rw [tF];exact k
end
structure HH (P:Program) (G:Nat->Option (List AV)) (bc:FX->Prop) (fp fv ff fc z8 fs ym:FuncId):Prop where
 present:Has P fp bD
 valid:∀ X,bc X->VP P G fv [X.av] (.bool X.valid)
 find:∀ (l:List FX) (nm:List UInt8),l.length<=1000->(∀ X∈l,bc X)->VP P G ff [dr l, .str nm] (.int .i64 (dh l nm))
 cloneL:Has P fc aV
 clone:∀ X,bc X->VP P G z8 [X.av] X.av
 sat:∀ l:List FX,l.length<=1000->(∀ X∈l,bc X)->VP P G fs [dr l] (.bool (pL l))
 change:∀ (hid:Id) (ls:List (List FX)) (now:Nat) (l m:List FX) (p:Id),ls[now]? = some l->ls.length<=1000->l.length<=1000->m.length<=1000->(∀ X∈l,bc X)->(∀ X∈m,bc X)->(∀ q,q::p≠hid) ->
   aB P G ym [.ref hid 0 0,dr m] p [(hid,e9 ls now)] { val := .int .i64 0,rd:=[hid],up:=DZ hid ls now l m }
noncomputable def JB (hid:Id) (ls:List (List FX)) (now:Nat) (l:List FX) (X:FX):Int × List (Id × Option dC) :=
 if X.valid=false then (1,[]) else if l.length=200 then (3,[]) else if 0<=dh l X.name then (5,[]) else if pL (l++[X])=true then (0,DZ hid ls now l (l++[X])) else (4,[])
theorem wV {l:List FX}:∀ e∈l.map FX.av,e.size=5:=by intro e he;obtain ⟨X,_,rfl⟩:=List.mem_map.1 he;rfl
section
variable {P:Program} {G:Nat->Option (List AV)} {bc:FX->Prop} {f fp fv ff fc z8 fs ym:FuncId}
set_option maxHeartbeats 4000000 in
theorem Ld (h:Has P f (et fp fv ff fc z8 fs ym)) (H:HH P G bc fp fv ff fc z8 fs ym) {hid:Id} {ls:List (List FX)} {now:Nat} {l:List FX} (hl:ls[now]? = some l) (xN:ls.length<=1000)
   (hlen:l.length<=200) (hg:∀ X∈l,bc X) (X:FX) (hX:bc X) (p:Id) (qR : ¬ p <:+ hid) :
   aB P G f [.ref hid 0 0,X.av] p [(hid,e9 ls now)] { val := .int .i64 (JB hid ls now l X).1,rd:=[hid],up:=(JB hid ls now l X).2 }:=by
 unfold JB
 have hne:∀ q:Id,q++p≠hid:=fun q e=>qR ⟨q,e⟩
 have n0:(0::p)≠hid:=hne [0]
 have n23:(23::p)≠hid:=hne [23]
 have n24:(24::p)≠hid:=hne [24]
 have YB:(5::20::p)≠hid:=hne [5,20]
 have n05:(0::p)≠5::20::p:=by simp
 have WC:af X.av:=FX.pure X
 have G5:∀ Y∈l++[X],bc Y:=by
   intro Y hY
   rcases List.mem_append.1 hY with h1 | h1
   . exact hg Y h1
   . rw [List.mem_singleton] at h1;subst h1;exact hX
 have hL:(l++[X]).length<=1000:=by simp;omega
 refine aB.has h ?_
 simp only [et,SS,Nat.reduceAdd,FX.one]
 refine ⟨[(hid,e9 ls now)],_,jL H.present hl _,by simp [aa.put,n0.symm,bC],by simp, ?_⟩
 simp only [SS,Nat.reduceAdd,ae,FX.whole]
 refine aj (H.valid X hX) (by simp [WC]) ?_
 cases hval:X.valid
 . rw [if_pos rfl]
   simp only [SS,Nat.reduceAdd]
   exact aS▸aA rfl (gb (up:=[]) (by simp) (by simp [aa.put,n0.symm,bC]))
 rw [if_neg (by decide)]
 simp only [SS,Nat.reduceAdd,my]
 by_cases h2:l.length=200
 . rw [if_pos h2,ao (by omega:(l.length:Int)=200)]
   simp only [SS,Nat.reduceAdd]
   exact aS▸aA rfl (gb (up:=[]) (by simp) (by simp [aa.put,n0.symm,bC]))
 rw [if_neg h2,ak (by omega : ¬ (l.length:Int)=200)]
 simp only [SS,Nat.reduceAdd,ae,FX.c0]
 refine aj (H.find l X.name (by omega) hg) (by simp [de,af.str]) ?_
 simp only [SS,Nat.reduceAdd]
 by_cases h3:0<=dh l X.name
 . rw [if_pos h3,ao h3]
   simp only [SS,Nat.reduceAdd]
   exact aS▸aA rfl (gb (up:=[]) (by simp) (by simp [aa.put,n0.symm,bC]))
 rw [if_neg h3,ak h3]
 simp only [SS,DD,Nat.reduceAdd]
 by_cases h0:l=[]
 . subst h0
   refine ax (tf H.cloneL) (by simp [de]) ?_
   simp only [SS,DD,Nat.reduceAdd,ae,FX.whole]
   refine ax (H.clone X hX) (by simp [WC]) ?_
   simp only [SS,DD,Nat.reduceAdd,xE]
   rw [rk,zG (X:=X) (by simp [aa.put]) (by simp)]
   simp only [SS,DD,Nat.reduceAdd]
   refine ⟨by simp [ar,apart], ?_⟩
   rw [List.nil_append] at G5 hL
   refine eH (H.sat [X] hL G5) (b7.bool _) (by simp [aa.put]) ?_
   cases hB:pL [X]
   . simp only [SS,Nat.reduceAdd]
     exact aS▸aA rfl (gb (up:=[]) (by simp) (by simp [aa.put,n0.symm,n23.symm,n24.symm,bC]))
   . simp only [SS,Nat.reduceAdd]
     refine kz (id:=24::p) (bk:=⟨[X].map FX.av,5,false⟩) (H.change hid ls now [] [X] _ hl xN (by simp) hL hg G5 (fun q=>hne [q,_])) (dU (l:=[X]) (by simp [aa.of])) n24 wV (by simp [aa.put]) (by simp [aa.put,n0.symm,n23.symm,n24.symm,bC]) ?_
     simp only [SS,Nat.reduceAdd]
     exact aS▸aA rfl (gb qA (by simp [aa.put,aa.app,rC,n0.symm,n23.symm,n24.symm,bC]))
 . refine ⟨[],_,th H.cloneL h0 (by omega) _,by simp,by simp, ?_⟩
   simp only [SS,DD,Nat.reduceAdd]
   rw [ai n05,ae,FX.whole]
   simp only [SS,DD,Nat.reduceAdd]
   refine ax (H.clone X hX) (by simp [WC]) ?_
   simp only [SS,DD,Nat.reduceAdd,xE]
   rw [wD (l:=l) (X:=X) (by simp [aa.put]) (by simp [aa.put]) (by omega)]
   simp only [SS,DD,Nat.reduceAdd]
   refine ⟨by simp [ar,apart], ?_⟩
   refine eH (H.sat _ hL G5) (b7.bool _) (by simp [aa.put]) ?_
   cases hB:pL (l++[X])
   . simp only [SS,Nat.reduceAdd]
     exact aS▸aA rfl (gb (up:=[]) (by simp) (by simp [aa.put,n0.symm,n23.symm,n24.symm,YB.symm,bC]))
   . simp only [SS,Nat.reduceAdd]
     refine kz (id:=24::p) (bk:=⟨(l++[X]).map FX.av,5,false⟩) (H.change hid ls now l (l++[X]) _ hl xN (by omega) hL hg G5 (fun q=>hne [q,_])) (dU (l:=l++[X]) (by simp [aa.of])) n24 wV (by simp [aa.put]) (by simp [aa.put,n0.symm,n23.symm,n24.symm,YB.symm,bC]) ?_
     simp only [SS,Nat.reduceAdd]
     exact aS▸aA rfl (gb qA (by simp [aa.put,aa.app,rC,n0.symm,n23.symm,n24.symm,YB.symm,bC]))
end
end Go.VL
end
