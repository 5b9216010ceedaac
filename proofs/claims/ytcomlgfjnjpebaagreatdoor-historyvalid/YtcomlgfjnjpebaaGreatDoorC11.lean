/- For the claim of HistoryValid: parts CG2, CG3, CG4, CG5, CG6, CG7, CG8, CG9, CG10, CG11, CG12, CH5, CH6, CH7, CG13, CG14, CG15. -/
import Derived.Test.YtcomlgfjnjpebaaGreatDoorC10
set_option linter.unusedSimpArgs false
set_option linter.unusedVariables false
section
set_option linter.unusedVariables false
set_option linter.unusedVariables false
namespace Go.VL
theorem lM {α β : Type} (a a' : α) (b b' : β):gY (a,b) (a',b')=(gY a a'&&gY b b'):=by
 by_cases ha:a=a'
 . by_cases hb:b=b'
   . rw [bY ha,bY hb,bY (by rw [ha,hb])];rfl
   . rw [bY ha,bg hb,bg (fun e=>hb (Prod.mk.inj e).2)];rfl
 . rw [bg ha,bg (fun e=>ha (Prod.mk.inj e).1)];rfl
theorem AP {α β : Type} {a a' : α} {b b' : β} (h:a=a'↔b=b'):gY a a'=gY b b':=by
 by_cases hb:b=b'
 . rw [bY hb,bY (h.2 hb)]
 . rw [bg hb,bg (fun e=>hb (h.1 e))]
section
variable (op:Int) (n1:Bool) (w1:List Nat) (n2:Bool) (w2:List Nat) (nm:List UInt8) (args:List EX)
theorem EX.q12:part true (EX.mk op n1 w1 n2 w2 nm args).av.cells 1 2=some (IR n1 w1):=by rw [EX.av];rfl
theorem EX.q34:part true (EX.mk op n1 w1 n2 w2 nm args).av.cells 3 2=some (IR n2 w2):=by rw [EX.av];rfl
theorem Yk:part true (RR n1 w1 n2 w2).cells 0 2=some (IR n1 w1):=rfl
theorem Yl:part true (RR n1 w1 n2 w2).cells 2 2=some (IR n2 w2):=rfl
variable (MR:Int) (Ds:Bool) (B9:List Nat) (Dt:Bool) (Ca:List Nat) (O8:List UInt8) (gv:List EX)
theorem EX.Gv:gY (EX.mk op n1 w1 n2 w2 nm args) (EX.mk MR Ds B9 Dt Ca O8 gv)=(gY op MR&&gY nm O8&&gY (n1,w1) (Ds,B9)&&gY (n2,w2) (Dt,Ca)&&gY args gv):=by
 rw [<- lM, <- lM, <- lM, <- lM]
 refine AP ⟨fun e => ?_,fun e => ?_⟩
 . cases e;rfl
 . simp only [Prod.mk.injEq] at e
   obtain ⟨⟨⟨⟨rfl,rfl⟩,rfl,rfl⟩,rfl,rfl⟩,rfl⟩:=e
   rfl
end
section
variable {P:Program} {G:Nat->Option (List AV)}
theorem St {f fi fq:FuncId} (h:Has P f (oW fi fq f)) (hi:∀ b b' ws MY,ws.length<=9223372036854775807->MY.length<=9223372036854775807->VP P G fi [IR b ws,IR b' MY] (.bool (gY (b,ws) (b',MY))))
   (hq:Has P fq aP):∀ e:EX,e.Ok->∀ e':EX,e'.Ok->VP P G f [e.av,e'.av] (.bool (gY e e')):=EX.induct fun op n1 w1 n2 w2 nm args ih mh e' K2=>by
 cases e' with
 | mk MR Ds B9 Dt Ca O8 gv =>
 have R1:=EX.qY mh
 have Ym:=EX.qY K2
 rw [EX.Ok] at mh K2
 obtain ⟨_,_,_,_,mO,uH,_,Wn,_⟩:=mh
 obtain ⟨_,_,_,_,Yn,Yo,_,abm,_⟩:=K2
 have eD:([0]:List Nat)≠[1]:=by decide
 have Yp:=cW (G:=G) hq EX.av EX.size EX.pure (fun x=>of_eq_true (EX.one x)) EX.all EX.upd args gv Wn abm (fun x hx y hy=>ih x hx (R1 x hx) y (Ym y hy))
 rw [<- EX.cF, <- EX.cF] at Yp
 have T4:=hi n1 Ds w1 B9 mO Yn
 have Ew:=hi n2 Dt w2 Ca uH Yo
 rw [EX.Gv]
 generalize gY (n1,w1) (Ds,B9)=b1 at T4 ⊢
 generalize gY (n2,w2) (Dt,Ca)=b2 at Ew ⊢
 generalize gY args gv=b3 at Yp ⊢
 have d0:=eq_int op MR
 have d1:=Ss nm O8
 generalize gY op MR=a0 at d0 ⊢
 generalize gY nm O8=a1 at d1 ⊢
 refine VP.has h ?_
 simp only [oW,SS,Nat.reduceAdd,EX.one,ai eD,ae,EX.q0,d0]
 cases a0
 . simp only [SS,Nat.reduceAdd,Bool.false_and]
   exact ag▸ab rfl (af.bool _)
 simp only [SS,Nat.reduceAdd,ai eD,ae,EX.q5,d1]
 cases a1
 . simp only [SS,Nat.reduceAdd,Bool.false_and,Bool.true_and]
   exact ag▸ab rfl (af.bool _)
 simp only [SS,Nat.reduceAdd,ai eD,ae,EX.q12]
 refine aj T4 (by simp [wO]) ?_
 cases b1
 . simp only [SS,Nat.reduceAdd,Bool.false_and,Bool.true_and]
   exact ag▸ab rfl (af.bool _)
 simp only [SS,Nat.reduceAdd,ai eD,ae,EX.q34]
 refine aj Ew (by simp [wO]) ?_
 cases b2
 . simp only [SS,Nat.reduceAdd,Bool.false_and,Bool.true_and]
   exact ag▸ab rfl (af.bool _)
 simp only [SS,Nat.reduceAdd,ai eD,ae,EX.q6]
 refine aj Yp (by simp [EX.eI,ki]) ?_
 simp only [SS,Nat.reduceAdd,Bool.true_and]
 exact ag▸ab rfl (af.bool _)
theorem U5 {f fs fq fe:FuncId} (h:Has P f (pR fs fq fe)) (hs:∀ l m:List (List UInt8),l.length<=9223372036854775807->m.length<=9223372036854775807->VP P G fs [strs l,strs m] (.bool (gY l m)))
   (hq:Has P fq aP) (he:∀ e:EX,e.Ok->∀ e':EX,e'.Ok->VP P G fe [e.av,e'.av] (.bool (gY e e'))) (X Y:FX) (hX:X.Ok) (hY:Y.Ok):VP P G f [X.eF.av,Y.eF.av] (.bool (gY X Y)):=by
 have eD:([0]:List Nat)≠[1]:=by decide
 have Yp:=cW (G:=G) hq EX.av EX.size EX.pure (fun x=>of_eq_true (EX.one x)) EX.all EX.upd X.vals Y.vals hX.vl hY.vl (fun x hx y hy=>he x (hX.vals x hx) y (hY.vals y hy))
 rw [<- EX.cF, <- EX.cF] at Yp
 have Wq:=hs X.inputs Y.inputs hX.ins hY.ins
 have e:gY X Y=(gY X.name Y.name&&gY X.kind Y.kind&&gY X.supp Y.supp&&gY X.inputs Y.inputs&&gY X.vals Y.vals):=by
   rw [<- lM, <- lM, <- lM, <- lM]
   refine AP ⟨fun e=>by rw [e],fun e => ?_⟩
   simp only [Prod.mk.injEq] at e
   cases X;cases Y
   obtain ⟨⟨⟨⟨h1,h2⟩,h3⟩,h4⟩,h5⟩:=e
   simp only at h1 h2 h3 h4 h5
   rw [h1,h2,h3,h4,h5]
 have p0:∀ Z:FX,part false Z.eF.av.cells 0 1=some (.str Z.name):=fun Z=>rfl
 have p1:∀ Z:FX,part false Z.eF.av.cells 1 1=some (.int .i64 Z.kind):=fun Z=>rfl
 have p2:∀ Z:FX,part false Z.eF.av.cells 2 1=some (strs Z.inputs):=fun Z=>rfl
 have p3:∀ Z:FX,part false Z.eF.av.cells 3 1=some (.sl 7 (EX.kR Z.vals)):=fun Z=>rfl
 have p4:∀ Z:FX,part false Z.eF.av.cells 4 1=some (.bool Z.supp):=fun Z=>rfl
 have d0:=Ss X.name Y.name
 have d1:=eq_int X.kind Y.kind
 have d2:=MX X.supp Y.supp
 rw [e]
 generalize gY X.name Y.name=a0 at d0 ⊢
 generalize gY X.kind Y.kind=a1 at d1 ⊢
 generalize gY X.supp Y.supp=a2 at d2 ⊢
 generalize gY X.inputs Y.inputs=b1 at Wq ⊢
 generalize gY X.vals Y.vals=b2 at Yp ⊢
 refine VP.has h ?_
 simp only [pR,SS,Nat.reduceAdd,bK.one,ai eD,ae,p0,d0]
 cases a0
 . simp only [SS,Nat.reduceAdd,Bool.false_and]
   exact ag▸ab rfl (af.bool _)
 simp only [SS,Nat.reduceAdd,ai eD,ae,p1,d1]
 cases a1
 . simp only [SS,Nat.reduceAdd,Bool.false_and,Bool.true_and]
   exact ag▸ab rfl (af.bool _)
 simp only [SS,Nat.reduceAdd,ai eD,ae,p4,d2]
 cases a2
 . simp only [SS,Nat.reduceAdd,Bool.false_and,Bool.true_and]
   exact ag▸ab rfl (af.bool _)
 simp only [SS,Nat.reduceAdd,ai eD,ae,p2]
 refine aj Wq (by simp [gX]) ?_
 cases b1
 . simp only [SS,Nat.reduceAdd,Bool.false_and,Bool.true_and]
   exact ag▸ab rfl (af.bool _)
 simp only [SS,Nat.reduceAdd,ai eD,ae,p3]
 refine aj Yp (by simp [EX.eI,ki]) ?_
 simp only [SS,Nat.reduceAdd,Bool.true_and]
 exact ag▸ab rfl (af.bool _)
end
end Go.VL
end

section
set_option linter.unusedVariables false
set_option linter.unusedVariables false
namespace Go.VL
theorem wB {α : Type} {l m:List α} (hlen:l.length=m.length) {i:Nat} (h:l.take i=m.take i) (hi : ¬ i<l.length):gY l m=true :=
 bY (by rw [List.take_of_length_le (by omega),List.take_of_length_le (by omega)] at h;exact h)
theorem zB {α : Type} {l m:List α} (h:l.length≠m.length):gY l m=false:=bg (fun e=>h (by rw [e]))
theorem DA {α : Type} {l m:List α} {i:Nat} {x y : α} (hx:l[i]? = some x) (hy:m[i]? = some y) (h:x≠y):gY l m=false :=
 bg (fun e=>h (by rw [e,hy] at hx;exact (Option.some.inj hx).symm))
theorem s9 {α : Type} {l m:List α} {i:Nat} {x : α} (h:l.take i=m.take i) (hx:l[i]? = some x) (hy:m[i]? = some x):l.take (i+1)=m.take (i+1):=by
 rw [List.take_add_one,List.take_add_one,hx,hy,h]
section
variable {P:Program} {G:Nat->Option (List AV)}
theorem DB {f:FuncId} (h:Has P f ey) (b b':Bool) (l m:List Nat) (hl:l.length<=9223372036854775807) (hm:m.length<=9223372036854775807):VP P G f [IR b l,IR b' m] (.bool (gY (b,l) (b',m))):=by
 have eD:([0]:List Nat)≠[1]:=by decide
 rw [lM]
 have S8:∀ ws,jK false (.sl 1 (us ws))=some (.int .i64 ws.length):=fun ws=>by simp [jK,dD]
 by_cases hb:b=b'
 case neg =>
   have d1:(!(b==b'))=true:=by simp [hb]
   rw [bg hb]
   refine VP.has h ?_
   simp only [ey,SS,Nat.reduceAdd,x9,ai eD,ae,Jb,d1,Bool.false_and]
   exact ag▸ab rfl (af.bool _)
 have d1:(!(b==b'))=false:=by simp [hb]
 rw [bY hb,Bool.true_and]
 by_cases hlen:l.length=m.length
 case neg =>
   have d0:decide ((l.length:Int)≠(m.length:Int))=true:=ao (by omega)
   rw [zB hlen]
   refine VP.has h ?_
   simp only [ey,SS,Nat.reduceAdd,x9,ai eD,ae,Jb,Fv,S8,d1,d0]
   exact ag▸ab rfl (af.bool _)
 have d0:decide ((l.length:Int)≠(m.length:Int))=false:=ak (by omega)
 refine VP.has h ?_
 simp only [ey,SS,Nat.reduceAdd,x9,ai eD,ae,Jb,Fv,S8,d1,d0,aD]
 refine VW.bL (α := Nat × Nat) (fun x=>⟨[IR b l,IR b' m, .ref [0] 0 0, .ref [1] 0 0, .bool false, .int .i64 (x.1:Int)]++List.replicate 32 .top,aa.put (aa.put (fun _=>none) [0] (some ⟨[IR b l],2,false⟩)) [1] (some ⟨[IR b' m],2,false⟩),x.2⟩)
   (fun x=>x.1<=l.length/\l.take x.1=m.take x.1) (fun x=>l.length-x.1) (0,1000) ?_ ⟨Nat.zero_le _,by simp⟩ ?_
 . exact Wk.forget (by simp [Fg,List.replicate]) (fun j => .inr rfl) (by omega)
 rintro ⟨i,nn⟩ ⟨hi,cz⟩
 simp only [] at hi cz
 by_cases hlt:i<l.length
 . obtain ⟨x,hx⟩:∃ x,l[i]? = some x:=⟨_,List.getElem?_eq_getElem hlt⟩
   obtain ⟨y,hy⟩:∃ y,m[i]? = some y:=⟨_,List.getElem?_eq_getElem (by omega)⟩
   have dd:decide ((i:Int)<(l.length:Int))=true:=ao (by omega)
   have hgx:(us l)[i]? = some (.int .u32 (x:Int)):=by rw [us,List.getElem?_map,hx];rfl
   have El:(us m)[i]? = some (.int .u32 (y:Int)):=by rw [us,List.getElem?_map,hy];rfl
   have BW:∀ z:Nat,part false (AV.int .u32 (z:Int)).cells 0 1=some (.int .u32 (z:Int)):=fun z=>rfl
   have mN:br 1 (.sl 1 (us l)) (.int .i64 (i:Int))=some (.ep (AV.int .u32 (x:Int)).cells 0):=aQ rfl hgx
   have s7:br 1 (.sl 1 (us m)) (.int .i64 (i:Int))=some (.ep (AV.int .u32 (y:Int)).cells 0):=aQ rfl El
   by_cases pJ:x=y
   . have hne:decide ((x:Int)≠(y:Int))=false:=by rw [wA,bY pJ];rfl
     simp only [SS,DD,Nat.reduceAdd,List.replicate,ai eD,ae,Fv,S8,dd,mN,s7,az,BW,hne,aq i (by omega)]
     refine ⟨by simp [ar,apart],(i+1,nn+1000),⟨by simp only [];omega, ?_⟩,by simp only [];omega,Wk.slots (by simp [Fg]) (by omega)⟩
     exact s9 cz hx (pJ▸hy)
   . have hne:decide ((x:Int)≠(y:Int))=true:=by rw [wA,bg pJ];rfl
     rw [DA hx hy pJ]
     simp only [SS,DD,Nat.reduceAdd,List.replicate,ai eD,ae,Fv,S8,dd,mN,s7,az,BW,hne]
     refine ⟨by simp [ar,apart], ?_⟩
     exact ag▸ab rfl (af.bool _)
 . have dd:decide ((i:Int)<(l.length:Int))=false:=ak (by omega)
   rw [wB hlen cz hlt]
   simp only [SS,Nat.reduceAdd,List.replicate,ai eD,ae,Fv,S8,dd]
   exact ag▸ab rfl (af.bool _)
theorem Su {f fs:FuncId} (h:Has P f (kH fs)) (n1:Bool) (w1:List Nat) (n2:Bool) (w2:List Nat) (Ds:Bool) (B9:List Nat) (Dt:Bool) (Ca:List Nat)
   (h1:VP P G fs [IR n1 w1,IR Ds B9] (.bool (gY (n1,w1) (Ds,B9)))) (h2:VP P G fs [IR n2 w2,IR Dt Ca] (.bool (gY (n2,w2) (Dt,Ca)))) :
   VP P G f [RR n1 w1 n2 w2,RR Ds B9 Dt Ca] (.bool (gY (n1,w1) (Ds,B9)&&gY (n2,w2) (Dt,Ca))):=by
 have eD:([0]:List Nat)≠[1]:=by decide
 generalize gY (n1,w1) (Ds,B9)=b1 at h1 ⊢
 generalize gY (n2,w2) (Dt,Ca)=b2 at h2 ⊢
 refine VP.has h ?_
 simp only [kH,SS,Nat.reduceAdd,Dc,ai eD,ae,Yk]
 refine aj h1 (by simp [wO]) ?_
 cases b1
 . simp only [SS,Nat.reduceAdd,Bool.false_and]
   exact ag▸ab rfl (af.bool _)
 simp only [SS,Nat.reduceAdd,ai eD,ae,Yl]
 refine aj h2 (by simp [wO]) ?_
 simp only [SS,Nat.reduceAdd,Bool.true_and]
 exact ag▸ab rfl (af.bool _)
theorem OJ {f fs:FuncId} (h:Has P f (jV fs f)) (hs:∀ n1 w1 n2 w2 Ds B9 Dt Ca,w1.length<=9223372036854775807->w2.length<=9223372036854775807->B9.length<=9223372036854775807->Ca.length<=9223372036854775807 ->
     VP P G fs [RR n1 w1 n2 w2,RR Ds B9 Dt Ca] (.bool (gY (n1,w1) (Ds,B9)&&gY (n2,w2) (Dt,Ca)))):∀ e:EX,e.Ok->∀ e':EX,e'.Ok->VP P G f [e.av,e'.av] (.bool (gY e e')):=EX.induct fun op n1 w1 n2 w2 nm args ih mh e' K2=>by
 cases e' with
 | mk MR Ds B9 Dt Ca O8 gv =>
 have R1:=EX.qY mh
 have Ym:=EX.qY K2
 rw [EX.Ok] at mh K2
 obtain ⟨_,_,_,_,mO,uH,_,Wn,_⟩:=mh
 obtain ⟨_,_,_,_,Yn,Yo,_,abm,_⟩:=K2
 have eD:([0]:List Nat)≠[1]:=by decide
 have Wq:=hs n1 w1 n2 w2 Ds B9 Dt Ca mO uH Yn Yo
 rw [EX.Gv,Bool.and_assoc (gY op MR&&gY nm O8)]
 generalize (gY (n1,w1) (Ds,B9)&&gY (n2,w2) (Dt,Ca))=b1 at Wq ⊢
 have d0:decide (op≠MR) = !gY op MR:=Sr op MR
 have d1:=Dz nm O8
 generalize gY op MR=a0 at d0 ⊢
 generalize gY nm O8=a1 at d1 ⊢
 have dn:=wA args.length gv.length
 refine VP.has h ?_
 simp only [jV,SS,Nat.reduceAdd,EX.one,ai eD,ae,EX.q0,d0]
 cases a0
 . simp only [SS,Nat.reduceAdd,Bool.false_and]
   exact ag▸ab rfl (af.bool _)
 simp only [SS,Nat.reduceAdd,ai eD,ae,EX.q5,d1]
 cases a1
 . simp only [SS,Nat.reduceAdd,Bool.false_and,Bool.true_and]
   exact ag▸ab rfl (af.bool _)
 simp only [SS,Nat.reduceAdd,ai eD,ae,EX.q6,EX.a6,dn]
 by_cases hlen:args.length=gv.length
 case neg =>
   rw [bg hlen,zB hlen]
   simp only [SS,Nat.reduceAdd,Bool.and_false]
   exact ag▸ab rfl (af.bool _)
 rw [bY hlen]
 simp only [SS,Nat.reduceAdd,ai eD,ae,EX.q1]
 refine aj Wq (by simp [eB]) ?_
 cases b1
 . simp only [SS,Nat.reduceAdd,Bool.false_and,Bool.true_and]
   exact ag▸ab rfl (af.bool _)
 simp only [SS,Nat.reduceAdd,Bool.true_and,aD]
 refine VW.bL (α := Nat × Nat) (fun x=>⟨[(EX.mk op n1 w1 n2 w2 nm args).av,(EX.mk MR Ds B9 Dt Ca O8 gv).av, .ref [0] 0 0, .ref [1] 0 0, .bool false, .int .i64 (x.1:Int)]++List.replicate 48 .top,aa.put (aa.put (fun _=>none) [0] (some ⟨[(EX.mk op n1 w1 n2 w2 nm args).av],7,false⟩)) [1] (some ⟨[(EX.mk MR Ds B9 Dt Ca O8 gv).av],7,false⟩),x.2⟩)
   (fun x=>x.1<=args.length/\args.take x.1=gv.take x.1) (fun x=>args.length-x.1) (0,1000) ?_ ⟨Nat.zero_le _,by simp⟩ ?_
 . exact Wk.forget (by simp [Fg,List.replicate]) (fun j => .inr (by simp only [EX.size])) (by omega)
 rintro ⟨i,nn⟩ ⟨hi,cz⟩
 simp only [] at hi cz
 by_cases hlt:i<args.length
 . obtain ⟨x,hx⟩:∃ x,args[i]? = some x:=⟨_,List.getElem?_eq_getElem hlt⟩
   obtain ⟨y,hy⟩:∃ y,gv[i]? = some y:=⟨_,List.getElem?_eq_getElem (by omega)⟩
   have dd:decide ((i:Int)<(args.length:Int))=true:=ao (by omega)
   have hgx:(EX.kR args)[i]? = some x.av:=by rw [EX.cF,List.getElem?_map,hx];rfl
   have El:(EX.kR gv)[i]? = some y.av:=by rw [EX.cF,List.getElem?_map,hy];rfl
   have mN:br 7 (.sl 7 (EX.kR args)) (.int .i64 (i:Int))=some (.ep x.av.cells 0):=aQ rfl hgx
   have s7:br 7 (.sl 7 (EX.kR gv)) (.int .i64 (i:Int))=some (.ep y.av.cells 0):=aQ rfl El
   have Gu:=ih x (List.mem_of_getElem? hx) (R1 x (List.mem_of_getElem? hx)) y (Ym y (List.mem_of_getElem? hy))
   simp only [SS,DD,Nat.reduceAdd,List.replicate,ai eD,ae,EX.q6,EX.a6,dd,mN,s7,az,EX.all]
   refine ax Gu (by simp [EX.pure]) ?_
   by_cases pJ:x=y
   . rw [bY pJ]
     simp only [SS,DD,Nat.reduceAdd]
     refine ⟨by simp [ar,apart], ?_⟩
     simp only [aq i (by omega)]
     refine ⟨(i+1,nn+1000),⟨by simp only [];omega, ?_⟩,by simp only [];omega,Wk.slots (by simp [Fg]) (by omega)⟩
     exact s9 cz hx (pJ▸hy)
   . rw [bg pJ,DA hx hy pJ]
     simp only [SS,DD,Nat.reduceAdd]
     refine ⟨by simp [ar,apart], ?_⟩
     exact ag▸ab rfl (af.bool _)
 . have dd:decide ((i:Int)<(args.length:Int))=false:=ak (by omega)
   rw [wB hlen cz hlt]
   simp only [SS,Nat.reduceAdd,List.replicate,ai eD,ae,EX.q6,EX.a6,dd]
   exact ag▸ab rfl (af.bool _)
end
end Go.VL
end

section
set_option linter.unusedVariables false
set_option linter.unusedVariables false
namespace Go.VL
theorem FX.Gv (X Y:FX):gY X Y=(gY X.name Y.name&&gY X.kind Y.kind&&gY X.supp Y.supp&&gY X.inputs Y.inputs&&gY X.vals Y.vals):=by
 rw [<- lM, <- lM, <- lM, <- lM]
 refine AP ⟨fun e=>by rw [e],fun e => ?_⟩
 simp only [Prod.mk.injEq] at e
 cases X;cases Y
 obtain ⟨⟨⟨⟨h1,h2⟩,h3⟩,h4⟩,h5⟩:=e
 simp only at h1 h2 h3 h4 h5
 rw [h1,h2,h3,h4,h5]
theorem U6 (x y:Bool):(!(x==y)) = !gY x y:=by rw [MX]
theorem FX.p0 (Z:FX):part false Z.eF.av.cells 0 1=some (.str Z.name):=rfl
theorem FX.p1 (Z:FX):part false Z.eF.av.cells 1 1=some (.int .i64 Z.kind):=rfl
theorem FX.p2 (Z:FX):part false Z.eF.av.cells 2 1=some (.sl 1 (Z.inputs.map .str)):=rfl
theorem FX.p3 (Z:FX):part false Z.eF.av.cells 3 1=some (.sl 7 (EX.kR Z.vals)):=rfl
theorem FX.p4 (Z:FX):part false Z.eF.av.cells 4 1=some (.bool Z.supp):=rfl
section
variable {P:Program} {G:Nat->Option (List AV)}
set_option maxHeartbeats 1000000 in
theorem DC {f fe:FuncId} (h:Has P f (eA fe)) (he:∀ e:EX,e.Ok->∀ e':EX,e'.Ok->VP P G fe [e.av,e'.av] (.bool (gY e e'))) (X Y:FX) (hX:X.Ok) (hY:Y.Ok) :
   VP P G f [X.eF.av,Y.eF.av] (.bool (gY X Y)):=by
 have eD:([0]:List Nat)≠[1]:=by decide
 have PB:=hX.ins
 have uF:=hX.vl
 rw [FX.Gv]
 have d0:=Dz X.name Y.name
 have d1:=Sr X.kind Y.kind
 have d2:=U6 X.supp Y.supp
 have d3:=wA X.inputs.length Y.inputs.length
 have d4:=wA X.vals.length Y.vals.length
 generalize gY X.name Y.name=a0 at d0 ⊢
 generalize gY X.kind Y.kind=a1 at d1 ⊢
 generalize gY X.supp Y.supp=a2 at d2 ⊢
 refine VP.has h ?_
 simp only [eA,SS,Nat.reduceAdd,bK.one,ai eD,ae,FX.p0,d0]
 cases a0
 . simp only [SS,Nat.reduceAdd,Bool.false_and]
   exact ag▸ab rfl (af.bool _)
 simp only [SS,Nat.reduceAdd,ai eD,ae,FX.p1,d1]
 cases a1
 . simp only [SS,Nat.reduceAdd,Bool.false_and,Bool.true_and]
   exact ag▸ab rfl (af.bool _)
 simp only [SS,Nat.reduceAdd,ai eD,ae,FX.p4,d2]
 cases a2
 . simp only [SS,Nat.reduceAdd,Bool.false_and,Bool.true_and]
   exact ag▸ab rfl (af.bool _)
 simp only [SS,Nat.reduceAdd,ai eD,ae,FX.p2,List.length_map,d3]
 by_cases hlen:X.inputs.length=Y.inputs.length
 case neg =>
   rw [bg hlen,zB hlen]
   simp only [SS,Nat.reduceAdd,Bool.false_and,Bool.true_and]
   exact ag▸ab rfl (af.bool _)
 rw [bY hlen]
 simp only [SS,Nat.reduceAdd,ai eD,ae,FX.p3,EX.a6,d4]
 by_cases xr:X.vals.length=Y.vals.length
 case neg =>
   rw [bg xr,zB (l:=X.vals) xr]
   simp only [SS,Nat.reduceAdd,Bool.and_false]
   exact ag▸ab rfl (af.bool _)
 rw [bY xr]
 simp only [SS,Nat.reduceAdd,Bool.true_and,aD]
 refine VW.bL (α := Nat × Nat) (fun x=>⟨[X.eF.av,Y.eF.av, .ref [0] 0 0, .ref [1] 0 0, .bool false, .int .i64 (x.1:Int)]++List.replicate 75 .top,aa.put (aa.put (fun _=>none) [0] (some ⟨[X.eF.av],5,false⟩)) [1] (some ⟨[Y.eF.av],5,false⟩),x.2⟩)
   (fun x=>x.1<=X.inputs.length/\X.inputs.take x.1=Y.inputs.take x.1) (fun x=>X.inputs.length-x.1) (0,1000) ?_ ⟨Nat.zero_le _,by simp⟩ ?_
 . exact Wk.slots (by simp [Fg,List.replicate]) (by omega)
 rintro ⟨i,nn⟩ ⟨hi,cz⟩
 simp only [] at hi cz
 by_cases hlt:i<X.inputs.length
 . obtain ⟨x,hx⟩:∃ x,X.inputs[i]? = some x:=⟨_,List.getElem?_eq_getElem hlt⟩
   obtain ⟨y,hy⟩:∃ y,Y.inputs[i]? = some y:=⟨_,List.getElem?_eq_getElem (by omega)⟩
   have dd:decide ((i:Int)<(X.inputs.length:Int))=true:=ao (by omega)
   have hgx:(X.inputs.map AV.str)[i]? = some (.str x):=by rw [List.getElem?_map,hx];rfl
   have El:(Y.inputs.map AV.str)[i]? = some (.str y):=by rw [List.getElem?_map,hy];rfl
   have BW:∀ z,part false (AV.str z).cells 0 1=some (.str z):=fun z=>rfl
   have mN:br 1 (.sl 1 (X.inputs.map AV.str)) (.int .i64 (i:Int))=some (.ep (AV.str x).cells 0):=aQ rfl hgx
   have s7:br 1 (.sl 1 (Y.inputs.map AV.str)) (.int .i64 (i:Int))=some (.ep (AV.str y).cells 0):=aQ rfl El
   have dxy:=Dz x y
   simp only [SS,DD,Nat.reduceAdd,List.replicate,ai eD,ae,FX.p2,List.length_map,dd,mN,s7,az,BW,dxy]
   refine ⟨by simp [ar,apart], ?_⟩
   by_cases pJ:x=y
   . rw [bY pJ]
     simp only [SS,Nat.reduceAdd,aq i (by omega)]
     refine ⟨(i+1,nn+1000),⟨by simp only [];omega, ?_⟩,by simp only [];omega,Wk.slots (by simp [Fg]) (by omega)⟩
     exact s9 cz hx (pJ▸hy)
   . rw [bg pJ,DA hx hy pJ]
     simp only [SS,Bool.false_and]
     exact ag▸ab rfl (af.bool _)
 have dd:decide ((i:Int)<(X.inputs.length:Int))=false:=ak (by omega)
 rw [wB hlen cz hlt]
 simp only [SS,Nat.reduceAdd,List.replicate,ai eD,ae,FX.p2,List.length_map,dd,Bool.true_and,aD]
 clear hlt cz dd hi
 refine VW.bL (α := Nat × Nat) (fun x=>⟨[X.eF.av,Y.eF.av, .ref [0] 0 0, .ref [1] 0 0, .bool false, .top, .int .i64 (x.1:Int)]++List.replicate 74 .top,aa.put (aa.put (fun _=>none) [0] (some ⟨[X.eF.av],5,false⟩)) [1] (some ⟨[Y.eF.av],5,false⟩),x.2⟩)
   (fun x=>x.1<=X.vals.length/\X.vals.take x.1=Y.vals.take x.1) (fun x=>X.vals.length-x.1) (0,nn+1000) ?_ ⟨Nat.zero_le _,by simp⟩ ?_
 . exact Wk.slots (by simp [Fg,List.replicate]) (by omega)
 rintro ⟨j,mm⟩ ⟨hi,cz⟩
 simp only [] at hi cz
 by_cases hlt:j<X.vals.length
 . obtain ⟨x,hx⟩:∃ x,X.vals[j]? = some x:=⟨_,List.getElem?_eq_getElem hlt⟩
   obtain ⟨y,hy⟩:∃ y,Y.vals[j]? = some y:=⟨_,List.getElem?_eq_getElem (by omega)⟩
   have dd:decide ((j:Int)<(X.vals.length:Int))=true:=ao (by omega)
   have hgx:(EX.kR X.vals)[j]? = some x.av:=by rw [EX.cF,List.getElem?_map,hx];rfl
   have El:(EX.kR Y.vals)[j]? = some y.av:=by rw [EX.cF,List.getElem?_map,hy];rfl
   have mN:br 7 (.sl 7 (EX.kR X.vals)) (.int .i64 (j:Int))=some (.ep x.av.cells 0):=aQ rfl hgx
   have s7:br 7 (.sl 7 (EX.kR Y.vals)) (.int .i64 (j:Int))=some (.ep y.av.cells 0):=aQ rfl El
   have Gu:=he x (hX.vals x (List.mem_of_getElem? hx)) y (hY.vals y (List.mem_of_getElem? hy))
   simp only [SS,DD,Nat.reduceAdd,List.replicate,ai eD,ae,FX.p3,EX.a6,dd,mN,s7,az,EX.all]
   refine ax Gu (by simp [EX.pure]) ?_
   by_cases pJ:x=y
   . rw [bY pJ]
     simp only [SS,DD,Nat.reduceAdd]
     refine ⟨by simp [ar,apart], ?_⟩
     simp only [aq j (by omega)]
     refine ⟨(j+1,mm+1000),⟨by simp only [];omega, ?_⟩,by simp only [];omega,Wk.slots (by simp [Fg]) (by omega)⟩
     exact s9 cz hx (pJ▸hy)
   . rw [bg pJ,DA hx hy pJ]
     simp only [SS,DD,Nat.reduceAdd]
     refine ⟨by simp [ar,apart], ?_⟩
     exact ag▸ab rfl (af.bool _)
 . have dd:decide ((j:Int)<(X.vals.length:Int))=false:=ak (by omega)
   rw [wB xr cz hlt]
   simp only [SS,Nat.reduceAdd,List.replicate,ai eD,ae,FX.p3,EX.a6,dd]
   exact ag▸ab rfl (af.bool _)
theorem FX.j4 (X:FX):∀ c∈X.av.cells,af c:=by
 intro c hc
 simp [FX.av,FX.eF,bK.av,AV.cells] at hc
 rcases hc with rfl | rfl | rfl | rfl | rfl
 . exact af.str _
 . exact af.int _ _
 . exact gX _
 . exact EX.eI _
 . exact af.bool _
def dm (l:List FX):AV := .sl 5 (l.map FX.av)
theorem mo (l:List FX):jK false (dm l)=some (.int .i64 (l.length:Int)):=by simp [dm,jK]
theorem du (l:List FX):af (dm l):=af.sl (by
 intro c hc
 simp only [flat,List.mem_flatMap,List.mem_map] at hc
 obtain ⟨v,⟨X,_,rfl⟩,hc⟩:=hc
 exact FX.j4 X c hc)
theorem FX.whole (X:FX):part true X.av.cells 0 5=some X.av:=rfl
theorem U7 {f fs:FuncId} (h:Has P f (im fs)) (l m:List FX) (hl:l.length<=9223372036854775807) (hm:m.length<=9223372036854775807) (hs:∀ X∈l,∀ Y∈m,VP P G fs [X.av,Y.av] (.bool (gY X Y))):VP P G f [dm l,dm m] (.bool (gY l m)):=by
 have d0:=wA l.length m.length
 refine VP.has h ?_
 simp only [im,SS,Nat.reduceAdd,mo,d0]
 by_cases hlen:l.length=m.length
 case neg =>
   rw [bg hlen,zB hlen]
   simp only [SS,Nat.reduceAdd]
   exact ag▸ab rfl (af.bool _)
 rw [bY hlen]
 simp only [SS,Nat.reduceAdd,aD]
 refine VW.bL (α := Nat × Nat) (fun x=>⟨[dm l,dm m, .top, .top, .bool false, .int .i64 (x.1:Int)]++List.replicate 21 .top,fun _=>none,x.2⟩)
   (fun x=>x.1<=l.length/\l.take x.1=m.take x.1) (fun x=>l.length-x.1) (0,1000) ?_ ⟨Nat.zero_le _,by simp⟩ ?_
 . exact Wk.slots (by simp [Fg,List.replicate]) (by omega)
 rintro ⟨i,nn⟩ ⟨hi,cz⟩
 simp only [] at hi cz
 by_cases hlt:i<l.length
 . obtain ⟨x,hx⟩:∃ x,l[i]? = some x:=⟨_,List.getElem?_eq_getElem hlt⟩
   obtain ⟨y,hy⟩:∃ y,m[i]? = some y:=⟨_,List.getElem?_eq_getElem (by omega)⟩
   have dd:decide ((i:Int)<(l.length:Int))=true:=ao (by omega)
   have hgx:(l.map FX.av)[i]? = some x.av:=by rw [List.getElem?_map,hx];rfl
   have El:(m.map FX.av)[i]? = some y.av:=by rw [List.getElem?_map,hy];rfl
   have mN:br 5 (dm l) (.int .i64 (i:Int))=some (.ep x.av.cells 0):=aQ rfl hgx
   have s7:br 5 (dm m) (.int .i64 (i:Int))=some (.ep y.av.cells 0):=aQ rfl El
   have Gu:=hs x (List.mem_of_getElem? hx) y (List.mem_of_getElem? hy)
   have hp:∀ X:FX,af X.av:=FX.pure
   simp only [SS,DD,Nat.reduceAdd,List.replicate,mo,dd,mN,s7,az,FX.whole]
   refine ax Gu (by simp [hp]) ?_
   by_cases pJ:x=y
   . rw [bY pJ]
     simp only [SS,DD,Nat.reduceAdd]
     refine ⟨by simp [ar,apart], ?_⟩
     simp only [aq i (by omega)]
     refine ⟨(i+1,nn+1000),⟨by simp only [];omega, ?_⟩,by simp only [];omega,Wk.slots (by simp [Fg]) (by omega)⟩
     exact s9 cz hx (pJ▸hy)
   . rw [bg pJ,DA hx hy pJ]
     simp only [SS,DD,Nat.reduceAdd]
     refine ⟨by simp [ar,apart], ?_⟩
     exact ag▸ab rfl (af.bool _)
 . have dd:decide ((i:Int)<(l.length:Int))=false:=ak (by omega)
   rw [wB hlen cz hlt]
   simp only [SS,Nat.reduceAdd,List.replicate,mo,dd]
   exact ag▸ab rfl (af.bool _)
end
end Go.VL
end

section
set_option linter.unusedVariables false
set_option linter.unusedVariables false
namespace Go.VL
theorem fJ {σ : aa} {id:Id} {x v y:AV} {k o:Nat} (h : σ id=some ⟨[x],k,false⟩) (hv:v.cells=[v]) (h1:v.one=true) (ho:o+1<=x.size) (hu:x.upd o [v]=y) :
   eK σ 1 (.ref id 0 o) v=some { val := .tup [],rd:=[id],up:=[(id,some ⟨[y],k,false⟩)] }:=by
 rw [cA (n:=1) (v:=v) (els:=[x]) (el:=x) (k:=k) h rfl (by rw [hv];rfl) ho (by rw [hv];simpa using h1),hv,hu]
 rfl
theorem lA {q:Id} {k len i:Nat} {t:Bool} (h:i<len):br k (.osl q k 0 len t) (.int .i64 (i:Int))=some (.ref q i 0):=by
 simp only [br]
 rw [if_pos ⟨trivial,by omega,by omega⟩]
 simp
theorem uC {σ : aa} {q:Id} {k i:Nat} {els:List AV} {x y:AV} (h : σ q=some ⟨els,k,false⟩) (hi:els[i]? = some x) (hy:y.cells.length=k) (hx:x.size=k) (h1:y.cells.all AV.one=true) (hu:x.upd 0 y.cells=y) :
   eK σ k (.ref q i 0) y=some { val := .tup [],rd:=[q],up:=[(q,some ⟨els.set i y,k,false⟩)] }:=by
 rw [cA (n:=k) (v:=y) h hi hy (by omega) h1,hu]
theorem DF {α : Type} {l:List α} {i:Nat} {x : α} (h:l[i]? = some x):l.set i x=l:=by
 obtain ⟨hi,rfl⟩:=List.getElem?_eq_some_iff.1 h
 exact List.set_getElem_self hi
def yh (op:Int) (n1:Bool) (w1:List Nat) (n2:Bool) (w2:List Nat) (nm:List UInt8) (x:AV):AV := .agg [.int .i64 op, .bool n1, .sl 1 (us w1), .bool n2, .sl 1 (us w2), .str nm,x]
section
variable (op:Int) (n1:Bool) (w1:List Nat) (n2:Bool) (w2:List Nat) (nm:List UInt8) (args:List EX) (x y:AV)
theorem EX.q2:part false (EX.mk op n1 w1 n2 w2 nm args).av.cells 2 1=some (.sl 1 (us w1)):=by rw [EX.av];rfl
theorem EX.q4:part false (EX.mk op n1 w1 n2 w2 nm args).av.cells 4 1=some (.sl 1 (us w2)):=by rw [EX.av];rfl
theorem EX.u2:(EX.mk op n1 w1 n2 w2 nm args).av.upd 2 [.sl 1 (us w1)]=(EX.mk op n1 w1 n2 w2 nm args).av:=by rw [EX.av];rfl
theorem EX.u4:(EX.mk op n1 w1 n2 w2 nm args).av.upd 4 [.sl 1 (us w2)]=(EX.mk op n1 w1 n2 w2 nm args).av:=by rw [EX.av];rfl
theorem EX.u6:(EX.mk op n1 w1 n2 w2 nm args).av.upd 6 [x]=yh op n1 w1 n2 w2 nm x:=by rw [EX.av];rfl
theorem yh.eq:yh op n1 w1 n2 w2 nm (.sl 7 (EX.kR args))=(EX.mk op n1 w1 n2 w2 nm args).av:=by rw [EX.av];rfl
theorem yh.q6 (h:x.cells=[x]):part false (yh op n1 w1 n2 w2 nm x).cells 6 1=some x:=by simp [yh,AV.cells,part]
theorem yh.all:part true (yh op n1 w1 n2 w2 nm x).cells 0 7=some (yh op n1 w1 n2 w2 nm x):=rfl
theorem yh.one (h:x.one=true):(yh op n1 w1 n2 w2 nm x).cells.all AV.one=true:=by simp [yh,AV.cells,AV.one] at h ⊢;exact h
theorem yh.upd:(AV.agg [.int .i64 0, .bool false, .nils, .bool false, .nils, .str [], .nils]).upd 0 (yh op n1 w1 n2 w2 nm x).cells=yh op n1 w1 n2 w2 nm x:=rfl
theorem yh.view {σ : aa} (h:View σ x y):View σ (yh op n1 w1 n2 w2 nm x) (yh op n1 w1 n2 w2 nm y) :=
 View.agg (.cons (View.pure (af.int _ _)) (.cons (View.pure (af.bool _)) (.cons (View.pure (kO _)) (.cons (View.pure (af.bool _)) (.cons (View.pure (kO _)) (.cons (View.pure (af.str _)) (.cons h .nil)))))))
end
theorem n9 {q:Id} {k o len:Nat} {t:Bool}:(AV.osl q k o len t).cells=[.osl q k o len t]:=rfl
section
variable {P:Program} {G:Nat->Option (List AV)}
theorem DG {f:FuncId} (h:Has P f a8) {l:List EX} (hne:l≠[]) (hl:l.length*112<=140737488355328) (p:Id) :
   aB P G f [.sl 7 (EX.kR l)] p [] { val := .osl (5::p) 7 0 l.length false,rd:=[],up:=[(5::p,some ⟨EX.kR l,7,false⟩)] }:=by
 refine aB.has h ?_
 have hb:∀ (σ : aa) (p:Id),b8 σ p (.buildSl 7 0 (.agg [(.int .i64 (0)),(.bool false), .nils,(.bool false), .nils,(.str []), .nils]) [])=some { val := .tsl 7 [] }:=fun σ p=>T5 rfl rfl
 have xH:(EX.kR l).all (fun e=>e.cells.all AV.one)=true:=by
   rw [EX.cF,List.all_eq_true];intro e he;obtain ⟨x,_,rfl⟩:=List.mem_map.1 he;exact of_eq_true (EX.one x)
 have Tc:=EX.a6 l
 cases l with
 | nil=>exact absurd rfl hne
 | cons F l =>
   simp only [EX.kR] at xH Tc ⊢
   simp only [a8,SS,Nat.reduceAdd,hb]
   rw [gS (es:=[]) eW (by simp) (by rw [Tc];simpa using hl) (cK (by rw [Tc];simp at hl ⊢;omega)) (by simpa using xH)]
   simp only [SS,Nat.reduceAdd]
   rw [List.length_cons] at Tc
   refine aV▸aA (by simp [bR,cv];exact Nat.succ.inj Tc) fun i => ?_
   by_cases hi:i=5::p
   . right;subst hi;simp [aa.app,aa.put]
   . left;simp [aa.app,aa.put,hi,aa.of]
set_option maxHeartbeats 1000000 in
theorem Gw {f fu fe:FuncId} (h:Has P f (lT fu fe f)) (hu:∀ ws:List Nat,ws.length<=1000->VP P G fu [.sl 1 (us ws)] (.sl 1 (us ws)))
   (he:Has P fe a8):∀ e:EX,e.nu=true->e.nodes<=1000->VP P G f [e.av] e.av:=EX.induct fun op n1 w1 n2 w2 nm args ih Y1 Ah=>by
 have yt:EX.cT args<=999:=by rw [EX.nodes] at Ah;omega
 have aeh:args.length<=999:=Nat.le_trans (EX.Du args) yt
 obtain ⟨Wn,mO,uH,aei⟩:=EX.uy Y1
 have eD:([0]:List Nat)≠[1]:=by decide
 have VU:=hu w1 (by omega)
 have Z7:=hu w2 (by omega)
 have hsz:=EX.size (EX.mk op n1 w1 n2 w2 nm args)
 have hih:∀ x∈args,VP P G f [x.av] x.av:=fun x hx=>ih x hx (Wn x hx) (by have:=EX.sV hx;omega)
 have z1:(AV.agg [.int .i64 0, .bool false, .nils, .bool false, .nils, .str [], .nils]).cells.all AV.one=true:=by simp [AV.cells,AV.one]
 have s2:∀ σ : aa, σ [0]=some ⟨[(EX.mk op n1 w1 n2 w2 nm args).av],(EX.mk op n1 w1 n2 w2 nm args).av.size,false⟩->eK σ 1 (.ref [0] 0 2) (.sl 1 (us w1))=some { val := .tup [],rd:=[[0]],up:=[([0],some ⟨[(EX.mk op n1 w1 n2 w2 nm args).av],(EX.mk op n1 w1 n2 w2 nm args).av.size,false⟩)] } :=
   fun σ hs=>fJ hs rfl rfl (by rw [hsz];omega) (EX.u2 ..)
 have s4:∀ σ : aa, σ [0]=some ⟨[(EX.mk op n1 w1 n2 w2 nm args).av],(EX.mk op n1 w1 n2 w2 nm args).av.size,false⟩->eK σ 1 (.ref [0] 0 4) (.sl 1 (us w2))=some { val := .tup [],rd:=[[0]],up:=[([0],some ⟨[(EX.mk op n1 w1 n2 w2 nm args).av],(EX.mk op n1 w1 n2 w2 nm args).av.size,false⟩)] } :=
   fun σ hs=>fJ hs rfl rfl (by rw [hsz];omega) (EX.u4 ..)
 refine VP.has h ?_
 simp only [lT,SS,DD,Nat.reduceAdd,EX.one,z1,ai eD,ae,EX.q2]
 refine ax VU (by simp [kO]) ?_
 simp only [SS,DD,Nat.reduceAdd,ai eD,ae,EX.q4]
 refine ax Z7 (by simp [kO]) ?_
 simp only [SS,DD,Nat.reduceAdd]
 rw [s2 _ (by simp [aa.put])]
 simp only [SS,DD,Nat.reduceAdd]
 rw [s4 _ (by simp [aa.put])]
 simp only [SS,DD,Nat.reduceAdd]
 refine ⟨by simp [ar,apart], ?_⟩
 simp only [SS,Nat.reduceAdd,ae,EX.q6]
 by_cases ha:args=[]
 . subst ha
   have hE:VP P G fe [.sl 7 (EX.kR [])] (.sl 7 (EX.kR [])):=ib (G:=G) he (es:=[]) (by simp) rfl (by simp [flat]) (by simp)
   refine aj hE (by intro x hx;rw [List.mem_singleton] at hx;subst hx;exact EX.eI []) ?_
   simp only [SS,Nat.reduceAdd]
   rw [fJ (x:=(EX.mk op n1 w1 n2 w2 nm []).av) (y:=(EX.mk op n1 w1 n2 w2 nm []).av) (k:=(EX.mk op n1 w1 n2 w2 nm []).av.size) (by simp [aa.put]) rfl rfl (by rw [hsz];omega) ((EX.u6 op n1 w1 n2 w2 nm [] _).trans (yh.eq op n1 w1 n2 w2 nm []))]
   simp only [SS,Nat.reduceAdd,ae,EX.q6,EX.kR,aD]
   refine VW.once ?_
   simp only [SS,Nat.reduceAdd,zz]
   simp only [ae,EX.all,SS,Nat.reduceAdd]
   rw [MS (by simp [aa.put];rfl)]
   simp only [SS,Nat.reduceAdd]
   refine ag▸ab (r:=(EX.mk op n1 w1 n2 w2 nm []).av) ?_ (EX.pure _)
   simp only [RS,bR,cv,ae,EX.all]
 . refine ⟨_,_,DG he ha (by omega) _,by simp,by simp, ?_⟩
   simp only [SS,Nat.reduceAdd]
   rw [fJ (x:=(EX.mk op n1 w1 n2 w2 nm args).av) (k:=(EX.mk op n1 w1 n2 w2 nm args).av.size) (by simp [aa.put]) rfl rfl (by rw [hsz];omega) (EX.u6 ..)]
   simp only [SS,Nat.reduceAdd,ae,yh.q6 _ _ _ _ _ _ _ n9,aD]
   refine VW.bL (α := Nat × Nat) (fun x=>⟨[(EX.mk op n1 w1 n2 w2 nm args).av, .ref [0] 0 0, .ref [1] 0 0]++List.replicate 23 .top++[.int .i64 (args.length:Int), .int .i64 (x.1:Int)]++List.replicate 14 .top,
       aa.put (aa.put (aa.put (fun _=>none) [0] (some ⟨[yh op n1 w1 n2 w2 nm (.osl [5,22] 7 0 args.length false)],7,false⟩)) [1] (some ⟨[.agg [.int .i64 0, .bool false, .nils, .bool false, .nils, .str [], .nils]],7,false⟩)) [5,22] (some ⟨EX.kR args,7,false⟩),x.2⟩)
     (fun x=>x.1<=args.length) (fun x=>args.length-x.1) (0,1000) ?_ (Nat.zero_le _) ?_
   . refine Wk.forget (by simp [Fg,List.replicate]) (fun j => ?_) (by omega)
     by_cases h0:j=[0]
     . subst h0;right;simp [aa.put,hsz]
     by_cases h1:j=[1]
     . subst h1;right;simp [aa.put];rfl
     by_cases h2:j=[5,22]
     . subst h2;right;simp [aa.put]
     . left;simp [aa.put,h0,h1,h2]
   rintro ⟨i,nn⟩ hi
   simp only [] at hi
   have k0:([0]:List Nat)≠[5,22]:=by decide
   have k1:([1]:List Nat)≠[5,22]:=by decide
   by_cases hlt:i<args.length
   . obtain ⟨x,hx⟩:∃ x,args[i]? = some x:=⟨_,List.getElem?_eq_getElem hlt⟩
     have dd:decide ((i:Int)<(args.length:Int))=true:=ao (by omega)
     have hg:(EX.kR args)[i]? = some x.av:=by rw [EX.cF,List.getElem?_map,hx];rfl
     have Us:∀ σ : aa,gh (σ.put [5,22] (some ⟨EX.kR args,7,false⟩)) true 7 (.ref [5,22] i 0)=some { val:=x.av,rd:=[[5,22]] }:=fun σ => by
       rw [mG (aa.bb _ _ _) hg,EX.all];rfl
     have YP:=hih x (List.mem_of_getElem? hx)
     simp only [SS,DD,Nat.reduceAdd,List.replicate,dd,ai eD,ai k0,ae,yh.q6 _ _ _ _ _ _ _ n9,lA hlt,Us]
     refine ax YP (by simp [EX.pure]) ?_
     simp only [SS,DD,Nat.reduceAdd,lA hlt]
     rw [uC (x:=x.av) (aa.bb _ _ _) hg (EX.size x) (EX.size x) (of_eq_true (EX.one x)) (by cases x;rw [EX.av];rfl),DF hg]
     simp only [SS,DD,Nat.reduceAdd]
     refine ⟨by simp [ar,apart], ?_⟩
     simp only [aq i (by omega)]
     refine ⟨(i+1,nn+1000),by simp only [];omega,by simp only [];omega,Wk.forget (by simp [Fg]) (fun j => .inr ?_) (by omega)⟩
     by_cases h2:j=[5,22]
     . subst h2;simp [aa.put]
     . simp [aa.put,h2]
   . have dd:decide ((i:Int)<(args.length:Int))=false:=ak (by omega)
     have jc:i=args.length:=by omega
     simp only [SS,Nat.reduceAdd,List.replicate,dd,ai eD,ai k0,ae,yh.all]
     rw [cA (n:=7) (v:=yh op n1 w1 n2 w2 nm (.osl [5,22] 7 0 args.length false)) (els:=[.agg [.int .i64 0, .bool false, .nils, .bool false, .nils, .str [], .nils]]) (el := .agg [.int .i64 0, .bool false, .nils, .bool false, .nils, .str [], .nils]) (k:=7) (by simp [aa.put]) rfl rfl (by simp [AV.size,AV.cells]) (yh.one _ _ _ _ _ _ _ rfl),yh.upd]
     simp only [SS,Nat.reduceAdd]
     rw [<- yh.eq]
     refine ag▸⟨yh op n1 w1 n2 w2 nm (.osl [5,22] 7 0 args.length false), ?_,yh.view _ _ _ _ _ _ _ _ (View.osl (bk:=⟨EX.kR args,7,false⟩) (by simp [aa.put]) rfl (by simp [EX.a6]) ?_ (EX.a6 _) (fun d hd => ?_))⟩
     . simp only [RS,bR,cv,ae,yh.all]
     . have e:(EX.kR args).take args.length=EX.kR args:=List.take_of_length_le (by rw [EX.a6];exact Nat.le_refl _)
       simp only [List.drop_zero,e]
       refine aW.pure fun c hc => ?_
       simp only [flat,List.mem_flatMap] at hc
       obtain ⟨v,hv,hc⟩:=hc
       rw [EX.cF] at hv
       obtain ⟨y,_,rfl⟩:=List.mem_map.1 hv
       exact EX.j4 y c hc
     . rw [EX.cF] at hd
       obtain ⟨y,_,rfl⟩:=List.mem_map.1 hd
       exact EX.size y
end
end Go.VL
end

section
set_option linter.unusedVariables false
set_option linter.unusedVariables false
namespace Go.VL
def yi (X:FX) (x:AV):AV := .agg [.str X.name, .int .i64 X.kind,strs X.inputs,x, .bool X.supp]
theorem yi.eq (X:FX):yi X (.sl 7 (EX.kR X.vals))=X.av:=rfl
theorem yi.q3 (X:FX) {x:AV} (h:x.cells=[x]):part false (yi X x).cells 3 1=some x:=by simp [yi,AV.cells,part]
theorem yi.all (X:FX) (x:AV):part true (yi X x).cells 0 5=some (yi X x):=rfl
theorem yi.one (X:FX) (x:AV) (h:x.one=true):(yi X x).cells.all AV.one=true:=by simp [yi,AV.cells,AV.one,strs] at h ⊢;exact h
theorem yi.upd (X:FX) (x:AV):(AV.agg [.str [], .int .i64 0, .nils, .nils, .bool false]).upd 0 (yi X x).cells=yi X x:=rfl
theorem yi.view {σ : aa} (X:FX) {x y:AV} (h:View σ x y):View σ (yi X x) (yi X y) :=
 View.agg (.cons (View.pure (af.str _)) (.cons (View.pure (af.int _ _)) (.cons (View.pure (gX _)) (.cons h (.cons (View.pure (af.bool _)) .nil)))))
theorem FX.u2 (X:FX):X.av.upd 2 [strs X.inputs]=X.av:=rfl
theorem FX.u3 (X:FX) (x:AV):X.av.upd 3 [x]=yi X x:=rfl
theorem FX.one (X:FX):(X.av.cells.all AV.one=true)=True:=bK.one X.eF
theorem FX.sz (X:FX):X.av.size=5:=rfl
theorem FX.c2 (Z:FX):part false Z.av.cells 2 1=some (strs Z.inputs):=rfl
theorem FX.c3 (Z:FX):part false Z.av.cells 3 1=some (.sl 7 (EX.kR Z.vals)):=rfl
theorem FX.c0 (Z:FX):part false Z.av.cells 0 1=some (.str Z.name):=rfl
theorem FX.c4 (Z:FX):part false Z.av.cells 4 1=some (.bool Z.supp):=rfl
theorem mB (l:List (List UInt8)):(strs l).cells=[strs l]:=rfl
section
variable {P:Program} {G:Nat->Option (List AV)}
set_option maxHeartbeats 1000000 in
theorem OK {f fs fe fx:FuncId} (h:Has P f (mj fs fe fx)) (X:FX) (hv:X.vals.length<=1000) (hs:VP P G fs [strs X.inputs] (strs X.inputs)) (he:Has P fe a8)
   (hx:∀ e∈X.vals,VP P G fx [e.av] e.av):VP P G f [X.av] X.av:=by
 have eD:([0]:List Nat)≠[1]:=by decide
 have z1:=jb
 refine VP.has h ?_
 simp only [mj,SS,DD,Nat.reduceAdd,FX.one,z1,ai eD,ae,FX.c2]
 refine ax hs (by simp [gX]) ?_
 simp only [SS,DD,Nat.reduceAdd,ai eD,ae,FX.c3]
 by_cases ha:X.vals=[]
 . have hE:=ib (G:=G) he (es:=[]) (by simp) rfl (by simp [flat]) (by simp)
   have e3:EX.kR X.vals=[]:=by rw [ha];rfl
   rw [e3]
   refine ax hE (by intro x hx;rw [List.mem_singleton] at hx;subst hx;exact EX.eI []) ?_
   simp only [SS,DD,Nat.reduceAdd]
   rw [fJ (x:=X.av) (y:=X.av) (k:=X.av.size) (by simp [aa.put]) (mB _) rfl (by rw [FX.sz];omega) (FX.u2 X)]
   simp only [SS,DD,Nat.reduceAdd]
   rw [fJ (x:=X.av) (y:=X.av) (k:=X.av.size) (by simp [aa.put]) rfl rfl (by rw [FX.sz];omega) (by rw [FX.u3, <- yi.eq,e3])]
   simp only [SS,DD,Nat.reduceAdd]
   refine ⟨by simp [ar,apart], ?_⟩
   simp only [SS,Nat.reduceAdd,ae,FX.c3,e3,aD]
   refine VW.once ?_
   simp only [SS,Nat.reduceAdd,zz]
   simp only [ae,FX.whole,SS,Nat.reduceAdd]
   rw [cA (n:=5) (v:=X.av) (els:=[.agg [(.str []),(.int .i64 (0)), .nils, .nils,(.bool false)]]) (el := .agg [(.str []),(.int .i64 (0)), .nils, .nils,(.bool false)]) (k:=5) (by simp [aa.put,AV.size,AV.cells]) rfl rfl (by simp [AV.size,AV.cells]) (by rw [FX.one];trivial)]
   simp only [SS,Nat.reduceAdd]
   have el:∀ (σ : aa) (x:AV) (k:Nat),gh (σ.put [1] (some ⟨[x],k,false⟩)) true 5 (.ref [1] 0 0)=(part true x.cells 0 5).map fun v=>{ val:=v,rd:=[[1]] }:=fun σ x k=>ae
   refine ag▸ab (r:=X.av) ?_ (FX.pure X)
   simp only [RS,bR,cv,el]
   rfl
 . have ot:0<X.vals.length:=List.length_pos_iff.2 ha
   refine ⟨_,_,DG he ha (by omega) _,by simp,by simp, ?_⟩
   simp only [SS,DD,Nat.reduceAdd]
   rw [fJ (x:=X.av) (y:=X.av) (k:=X.av.size) (by simp [aa.put]) (mB _) rfl (by rw [FX.sz];omega) (FX.u2 X)]
   simp only [SS,DD,Nat.reduceAdd]
   rw [fJ (x:=X.av) (k:=X.av.size) (by simp [aa.put]) rfl rfl (by rw [FX.sz];omega) (FX.u3 X _)]
   simp only [SS,DD,Nat.reduceAdd]
   refine ⟨by simp [ar,apart], ?_⟩
   simp only [SS,Nat.reduceAdd,ae,yi.q3 _ n9,aD]
   refine VW.bL (α := Nat × Nat) (fun x=>⟨[X.av, .ref [0] 0 0, .ref [1] 0 0]++List.replicate 11 .top++[.int .i64 (X.vals.length:Int), .int .i64 (x.1:Int)]++List.replicate 14 .top,
       aa.put (aa.put (aa.put (fun _=>none) [0] (some ⟨[yi X (.osl [5,7] 7 0 X.vals.length false)],5,false⟩)) [1] (some ⟨[.agg [.str [], .int .i64 0, .nils, .nils, .bool false]],5,false⟩)) [5,7] (some ⟨EX.kR X.vals,7,false⟩),x.2⟩)
     (fun x=>x.1<=X.vals.length) (fun x=>X.vals.length-x.1) (0,1000) ?_ (Nat.zero_le _) ?_
   . refine Wk.forget (by simp [Fg,List.replicate]) (fun j => ?_) (by omega)
     by_cases h0:j=[0]
     . subst h0;right;simp [aa.put,FX.sz]
     by_cases h1:j=[1]
     . subst h1;right;simp [aa.put];rfl
     by_cases h2:j=[5,7]
     . subst h2;right;simp [aa.put]
     . left;simp [aa.put,h0,h1,h2]
   rintro ⟨i,nn⟩ hi
   simp only [] at hi
   have k0:([0]:List Nat)≠[5,7]:=by decide
   have k1:([1]:List Nat)≠[5,7]:=by decide
   by_cases hlt:i<X.vals.length
   . obtain ⟨x,hx'⟩:∃ x,X.vals[i]? = some x:=⟨_,List.getElem?_eq_getElem hlt⟩
     have dd:decide ((i:Int)<(X.vals.length:Int))=true:=ao (by omega)
     have hg:(EX.kR X.vals)[i]? = some x.av:=by rw [EX.cF,List.getElem?_map,hx'];rfl
     have Us:∀ σ : aa,gh (σ.put [5,7] (some ⟨EX.kR X.vals,7,false⟩)) true 7 (.ref [5,7] i 0)=some { val:=x.av,rd:=[[5,7]] }:=fun σ => by
       rw [mG (aa.bb _ _ _) hg,EX.all];rfl
     have YP:=hx x (List.mem_of_getElem? hx')
     simp only [SS,DD,Nat.reduceAdd,List.replicate,dd,ai eD,ai k0,ae,yi.q3 _ n9,lA hlt,Us]
     refine ax YP (by simp [EX.pure]) ?_
     simp only [SS,DD,Nat.reduceAdd,lA hlt]
     rw [uC (x:=x.av) (aa.bb _ _ _) hg (EX.size x) (EX.size x) (of_eq_true (EX.one x)) (by cases x;rw [EX.av];rfl),DF hg]
     simp only [SS,DD,Nat.reduceAdd]
     refine ⟨by simp [ar,apart], ?_⟩
     simp only [aq i (by omega)]
     refine ⟨(i+1,nn+1000),by simp only [];omega,by simp only [];omega,Wk.forget (by simp [Fg]) (fun j => .inr ?_) (by omega)⟩
     by_cases h2:j=[5,7]
     . subst h2;simp [aa.put]
     . simp [aa.put,h2]
   . have dd:decide ((i:Int)<(X.vals.length:Int))=false:=ak (by omega)
     have jc:i=X.vals.length:=by omega
     simp only [SS,Nat.reduceAdd,List.replicate,dd,ai eD,ai k0,ae,yi.all]
     rw [cA (n:=5) (v:=yi X (.osl [5,7] 7 0 X.vals.length false)) (els:=[.agg [.str [], .int .i64 0, .nils, .nils, .bool false]]) (el := .agg [.str [], .int .i64 0, .nils, .nils, .bool false]) (k:=5) (by simp [aa.put]) rfl rfl (by simp [AV.size,AV.cells]) (yi.one _ _ rfl),yi.upd]
     simp only [SS,Nat.reduceAdd]
     rw [<- yi.eq]
     refine ag▸⟨yi X (.osl [5,7] 7 0 X.vals.length false), ?_,yi.view X (View.osl (bk:=⟨EX.kR X.vals,7,false⟩) (by simp [aa.put]) rfl (by simp [EX.a6]) ?_ (EX.a6 _) (fun d hd => ?_))⟩
     . simp only [RS,bR,cv,ae,yi.all]
     . have e:(EX.kR X.vals).take X.vals.length=EX.kR X.vals:=List.take_of_length_le (by rw [EX.a6];exact Nat.le_refl _)
       simp only [List.drop_zero,e]
       refine aW.pure fun c hc => ?_
       simp only [flat,List.mem_flatMap] at hc
       obtain ⟨v,hv,hc⟩:=hc
       rw [EX.cF] at hv
       obtain ⟨y,_,rfl⟩:=List.mem_map.1 hv
       exact EX.j4 y c hc
     . rw [EX.cF] at hd
       obtain ⟨y,_,rfl⟩:=List.mem_map.1 hd
       exact EX.size y
end
end Go.VL
end

section
set_option linter.unusedVariables false
set_option linter.unusedVariables false
namespace Go.VL
def dh (l:List FX) (nm:List UInt8):Int:=x4 (l.findIdx? fun X=>X.name==nm)
def gg (l:List FX) (i:Nat):List FX:=l.take i++l.drop (i+1)
def dX (X:FX):List (List UInt8):=if X.valid=true then xh (X.inputs.map fun s=>(eM s).getD []) else []
def bZ (l:List FX):List (List UInt8):=l.map (·.name)
def BX (l:List FX) (i:Nat):Bool:=match l[i]? with
 | none=>true
 | some X=>X.valid && !(bZ (l.take i)).contains X.name&&(dX X).all fun n=>(bZ (l.take i)).contains n
def eg (l:List FX):Bool:=((List.range l.length).all (BX l))&&decide (l.length<=200)
theorem ny (l:List FX):((l.map FX.av).all fun e=>e.cells.all AV.one)=true:=by
 rw [List.all_eq_true];intro e he;obtain ⟨X,_,rfl⟩:=List.mem_map.1 he;exact of_eq_true (FX.one X)
theorem dU {σ : aa} {id:Id} {l:List FX} {t:Bool} (h : σ id=some ⟨l.map FX.av,5,false⟩):View σ (.osl id 5 0 l.length t) (dm l):=by
 refine View.osl (bk:=⟨l.map FX.av,5,false⟩) h rfl (by simp) ?_ (by simp) (fun d hd => ?_)
 . have e:(l.map FX.av).take l.length=l.map FX.av:=List.take_of_length_le (by simp)
   simp only [List.drop_zero,e]
   refine aW.pure fun c hc => ?_
   simp only [flat,List.mem_flatMap] at hc
   obtain ⟨v,hv,hc⟩:=hc
   obtain ⟨y,_,rfl⟩:=List.mem_map.1 hv
   exact FX.j4 y c hc
 . obtain ⟨y,_,rfl⟩:=List.mem_map.1 hd
   rfl
section
variable {P:Program} {G:Nat->Option (List AV)}
theorem Jd {f:FuncId} (h:Has P f ir) (l:List FX) (nm:List UInt8) (hl:l.length<=1000000):VP P G f [dm l, .str nm] (.int .i64 (dh l nm)):=by
 refine VP.has h ?_
 simp only [ir,SS,Nat.reduceAdd,aD]
 refine VW.bL (α := Nat × Nat) (fun x=>⟨[dm l, .str nm, .top, .top, .int .i64 0, .int .i64 (x.1:Int)]++List.replicate 14 .top,fun _=>none,x.2⟩)
   (fun x=>x.1<=l.length/\∀ (j:Nat) X,j<x.1->l[j]? = some X->(X.name==nm)=false) (fun x=>l.length-x.1) (0,1000) ?_ ⟨Nat.zero_le _,fun j X hj=>absurd hj (Nat.not_lt_zero j)⟩ ?_
 . exact Wk.slots (by simp [Fg,List.replicate]) (by omega)
 rintro ⟨i,nn⟩ ⟨hi,hn⟩
 simp only [] at hi hn
 by_cases hlt:i<l.length
 . obtain ⟨X,hX⟩:∃ X,l[i]? = some X:=⟨_,List.getElem?_eq_getElem hlt⟩
   have dd:decide ((i:Int)<(l.length:Int))=true:=ao (by omega)
   have hg:(l.map FX.av)[i]? = some X.av:=by rw [List.getElem?_map,hX];rfl
   have iy:br 5 (dm l) (.int .i64 (i:Int))=some (.ep X.av.cells 0):=aQ rfl hg
   simp only [SS,Nat.reduceAdd,List.replicate,mo,dd,iy,az,FX.c0]
   cases Rv:(X.name==nm)
   . simp only [SS,Nat.reduceAdd,aq i (by omega)]
     refine ⟨(i+1,nn+1000),⟨by simp only [];omega, ?_⟩,by simp only [];omega,Wk.slots (by simp [Fg]) (by omega)⟩
     intro j X' hj xk
     by_cases B4:j<i
     . exact hn j X' B4 xk
     . have:j=i:=by simp only [] at hj;omega
       subst this;rw [hX] at xk;simp only [Option.some.injEq] at xk;subst xk;exact Rv
   . simp only [SS,Nat.reduceAdd]
     rw [dh,pA hX Rv hn]
     exact ag▸ab rfl (af.int _ _)
 . have dd:decide ((i:Int)<(l.length:Int))=false:=ak (by omega)
   simp only [SS,Nat.reduceAdd,List.replicate,mo,dd]
   rw [dh,pz (fun j e hj=>hn j e (by have:=(List.getElem?_eq_some_iff.1 hj).1;omega) hj)]
   exact ag▸ab rfl (af.int _ _)
theorem pD {l:List FX} {h:Nat} (hh:h<=l.length):bT 5 (dm l) none (some (.int .i64 (h:Int))) none=some (dm (l.take h)):=by
 simp [bT,cJ,dV,dm,hh,List.map_take]
theorem pE {l:List FX} {h:Nat} (hh:h<=l.length):bT 5 (dm l) (some (.int .i64 (h:Int))) none none=some (dm (l.drop h)):=by
 simp [bT,cJ,dV,dm,hh,List.map_drop]
 rw [List.take_of_length_le (by simp)]
theorem Fw {σ : aa} {l:List FX}:dA σ 5 (dm l)=some (l.map FX.av,[]):=eW
theorem wQ {σ : aa} {p:Id} {l m:List FX} (hm:m≠[]) (hl:l.length+m.length<=1000000):b6 σ p 5 80 (.tsl 5 (l.map FX.av)) (dm m)=some { val := .osl p 5 0 (l++m).length false,rd:=[],up:=[(p,some ⟨(l++m).map FX.av,5,false⟩)] }:=by
 have h1:=ny (l++m)
 rw [List.map_append] at h1
 rw [gS Fw (by simpa using hm) (by simp;omega) (cK (by simp;omega)) h1]
 simp
theorem Cc {σ : aa} {p id:Id} {l m:List FX} (h : σ id=some ⟨l.map FX.av,5,false⟩) (hm:m≠[]) (hl:l.length+m.length<=1000000):b6 σ p 5 80 (.osl id 5 0 l.length false) (dm m)=some { val := .osl p 5 0 (l++m).length false,rd:=[id],up:=[(id,none),(p,some ⟨(l++m).map FX.av,5,false⟩)] }:=by
 rw [lI (els:=l.map FX.av) Fw (by simpa using hm) h (by simp) (by simp;omega) (cK (by simp;omega)) (ny _) (ny _)]
 simp
theorem mg {σ : aa}:dA σ 5 (dm [])=some ([],[]):=rfl
theorem U8 {f:FuncId} (h:Has P f kY) (l:List FX) (i:Nat) (hi:i<l.length) (hl:l.length<=1000):VP P G f [dm l, .int .i64 (i:Int)] (dm (gg l i)):=by
 have hb:∀ (σ : aa) (p:Id),b8 σ p (.buildSl 5 0 (.agg [(.str []),(.int .i64 0), .nils, .nils,(.bool false)]) [])=some { val := .tsl 5 [] }:=fun σ p=>T5 rfl rfl
 have e1:IntKind.i64.wrap ((i:Int)+1)=((i+1:Nat):Int):=aq i (by omega)
 refine VP.has h ?_
 unfold gg
 simp only [kY,SS,DD,Nat.reduceAdd,hb,pD (Nat.le_of_lt hi)]
 by_cases h0:l.take i=[]
 . rw [h0,eX mg]
   simp only [SS,DD,Nat.reduceAdd,e1,pE (show i+1<=l.length from hi)]
   by_cases h1:l.drop (i+1)=[]
   . rw [h1,eX mg]
     simp only [SS,DD,Nat.reduceAdd]
     refine ⟨by simp [ar,apart], ?_⟩
     exact ag▸⟨_,rfl,View.PM 5⟩
   . rw [show (AV.tsl 5 []) = .tsl 5 (([]:List FX).map FX.av) from rfl,wQ h1 (by simp;omega)]
     simp only [SS,DD,Nat.reduceAdd]
     refine ⟨by simp [ar,apart], ?_⟩
     exact ag▸⟨_,rfl,dU (by simp [aa.put])⟩
 . rw [show (AV.tsl 5 []) = .tsl 5 (([]:List FX).map FX.av) from rfl,wQ h0 (by simp;omega)]
   simp only [SS,DD,Nat.reduceAdd,e1,pE (show i+1<=l.length from hi)]
   by_cases h1:l.drop (i+1)=[]
   . rw [h1,lJ mg]
     simp only [SS,DD,Nat.reduceAdd]
     refine ⟨by simp [ar,apart], ?_⟩
     exact ag▸⟨_,rfl,dU (by simp [aa.put])⟩
   . rw [Cc (by simp [aa.put]) h1 (by simp;omega)]
     simp only [SS,DD,Nat.reduceAdd]
     refine ⟨by simp [ar,apart], ?_⟩
     exact ag▸⟨_,rfl,dU (by simp [aa.put])⟩
end
end Go.VL
end

section
set_option linter.unusedVariables false
set_option linter.unusedVariables false
namespace Go.VL
theorem AQ {l:List FX} {i:Nat} (hi:i<l.length) (h:BX l i=false):eg l=false:=by
 unfold eg
 have e:(List.range l.length).all (BX l)=false:=by
   rw [List.all_eq_false]
   exact ⟨i,List.mem_range.2 hi,by rw [h];decide⟩
 rw [e,Bool.false_and]
theorem K3 {l:List FX} (h:∀ i,i<l.length->BX l i=true):eg l=decide (l.length<=200):=by
 unfold eg
 have e:(List.range l.length).all (BX l)=true:=by
   rw [List.all_eq_true]
   exact fun i hi=>h i (List.mem_range.1 hi)
 rw [e,Bool.true_and]
theorem K4 (l:List FX):(bZ l).length=l.length:=List.length_map ..
section
variable {P:Program} {G:Nat->Option (List AV)} {π : Id} {base:Nat} {Q:cD->VS->Prop} {n:Nat} {d:Option Nat} {os:List bp} {i:Nat} {t:List AV} {σ : aa}
theorem Sv {ck:Nat} {l:List (List UInt8)} (hne:l≠[]):View (aa.of [([ck],⟨l.map .str,1,false⟩)]) (xf ck l) (strs l):=by
 rw [show xf ck l = .osl [ck] 1 0 l.length false from if_neg hne]
 refine View.osl (bk:=⟨l.map .str,1,false⟩) (by simp [aa.of]) rfl (by simp) ?_ (by simp) (fun d hd => ?_)
 . have e:(l.map AV.str).take l.length=l.map AV.str:=List.take_of_length_le (by simp)
   simp only [List.drop_zero,e]
   rw [wu]
   exact aW.pure fun c hc=>by obtain ⟨s,_,rfl⟩:=List.mem_map.1 hc;exact af.str s
 . obtain ⟨s,_,rfl⟩:=List.mem_map.1 hd;rfl
theorem DI {fh:FuncId} (hh:∀ (l:List (List UInt8)) (s:List UInt8),l.length<=1000000->VP P G fh [strs l, .str s] (.bool (l.contains s))) {ck:Nat} {l:List (List UInt8)} {s:List UInt8} (hl:l.length<=1000000)
   (hσ : l≠[] -> σ [ck]=some ⟨l.map .str,1,false⟩) (k:vs P G π base Q n os (i+1) (fG t d (.bool (l.contains s))) σ):pO P G π base Q n d os i t σ fh [xf ck l, .str s]:=by
 by_cases h0:l=[]
 . subst h0
   exact iF [] (hh [] s (by simp)) (aW.cons (View.nils 1) (aW.cons (View.pure (af.str s)) .nil)) (b7.bool _) (by simp) k
 . exact iF [([ck],⟨l.map .str,1,false⟩)] (hh l s hl) (aW.cons (Sv h0) (aW.cons (View.pure (af.str s)) .nil)) (b7.bool _) (by simpa using hσ h0) k
set_option maxHeartbeats 1000000 in
theorem U9 {f fv fh fn:FuncId} (h:Has P f (kz fv fh fn)) (l:List FX) (hl:l.length<=1000) (hv:∀ X∈l,VP P G fv [X.av] (.bool X.valid)) (hn:∀ X∈l,VP P G fn [X.av] (strs (dX X))) (yt:∀ X∈l,(dX X).length<=1000)
   (hh:∀ (l:List (List UInt8)) (s:List UInt8),l.length<=1000000->VP P G fh [strs l, .str s] (.bool (l.contains s))):VP P G f [dm l] (.bool (eg l)):=by
 refine VP.has h ?_
 simp only [kz,SS,Nat.reduceAdd,aD]
 refine VW.bL (α := Nat × Nat × Nat) (fun x=>⟨[dm l, .top, .bool false,xf x.2.1 (bZ (l.take x.1)), .int .i64 (x.1:Int)]++List.replicate 52 .top,
     aa.put (fun _=>none) [x.2.1] (if bZ (l.take x.1)=[] then none else some ⟨(bZ (l.take x.1)).map .str,1,false⟩),x.2.2⟩)
   (fun x=>x.1<=l.length/\x.2.1<x.2.2/\∀ j,j<x.1->BX l j=true) (fun x=>l.length-x.1) (0,0,1000) ?_ ⟨Nat.zero_le _,by simp only [];omega,fun j hj=>absurd hj (Nat.not_lt_zero j)⟩ ?_
 . refine Wk.forget (by simp [Fg,List.replicate,xf,bZ]) (fun j => ?_) (by simp only [];omega)
   left;simp [aa.put,bZ]
 rintro ⟨i,ck,nn⟩ ⟨hi,Rg,cz⟩
 simp only [] at hi Rg cz
 have aev:(bZ (l.take i)).length=i:=by rw [K4,List.length_take];omega
 by_cases hlt:i<l.length
 case neg =>
   have dd:decide ((i:Int)<(l.length:Int))=false:=ak (by omega)
   have d2:decide ((l.length:Int)<=200)=decide (l.length<=200):=by
     by_cases q:l.length<=200
     . rw [ao q,ao (by omega)]
     . rw [ak q,ak (by omega)]
   simp only [SS,Nat.reduceAdd,List.replicate,mo,dd,d2]
   rw [K3 fun j hj=>cz j (by omega)]
   exact ag▸ab rfl (af.bool _)
 obtain ⟨X,hX⟩:∃ X,l[i]? = some X:=⟨_,List.getElem?_eq_getElem hlt⟩
 have hm:=List.mem_of_getElem? hX
 have dd:decide ((i:Int)<(l.length:Int))=true:=ao (by omega)
 have hg:(l.map FX.av)[i]? = some X.av:=by rw [List.getElem?_map,hX];rfl
 have iy:br 5 (dm l) (.int .i64 (i:Int))=some (.ep X.av.cells 0):=aQ rfl hg
 have mh:BX l i=(X.valid && !(bZ (l.take i)).contains X.name&&(dX X).all fun n=>(bZ (l.take i)).contains n):=by unfold BX;rw [hX]
 have q7:bZ (l.take (i+1))=bZ (l.take i)++[X.name]:=by rw [List.take_add_one,hX];simp [bZ]
 have pj:=hv X hm
 have WA:=hn X hm
 have aew:=yt X hm
 generalize yd:bZ (l.take i)=names at aev mh q7
 have hσ : names≠[]->(aa.put (fun _=>none) [ck] (if names=[] then none else some ⟨names.map .str,1,false⟩)) [ck]=some ⟨names.map .str,1,false⟩:=fun q=>by rw [aa.bb,if_neg q]
 simp only [SS,Nat.reduceAdd,List.replicate,mo,dd,iy,az,FX.whole]
 have uR:af X.av:=FX.pure X
 refine aj pj (by simp [uR]) ?_
 cases hval:X.valid
 . simp only [SS,Nat.reduceAdd]
   rw [AQ hlt (by rw [mh,hval,Bool.false_and,Bool.false_and])]
   exact ag▸ab rfl (af.bool _)
 simp only [SS,Nat.reduceAdd,iy,az,FX.c0]
 refine DI hh (by omega) hσ ?_
 cases Sd:names.contains X.name
 case true =>
   simp only [SS,Nat.reduceAdd]
   rw [AQ hlt (by rw [mh,Sd,Bool.not_true,Bool.and_false,Bool.false_and])]
   exact ag▸ab rfl (af.bool _)
 rw [hval,Sd,Bool.true_and,Bool.not_false,Bool.true_and] at mh
 simp only [SS,Nat.reduceAdd,iy,az,FX.whole]
 refine aj WA (by simp [uR]) ?_
 simp only [SS,Nat.reduceAdd,aD]
 refine VW.bL (α := Nat × Nat) (fun z=>⟨[dm l, .top, .bool false,xf ck names, .int .i64 (i:Int),strs (dX X), .int .i64 (z.1:Int)]++List.replicate 50 .top,
     aa.put (fun _=>none) [ck] (if names=[] then none else some ⟨names.map .str,1,false⟩),z.2⟩)
   (fun z=>z.1<=(dX X).length/\ck<z.2/\∀ (j:Nat) s,j<z.1->(dX X)[j]? = some s->names.contains s=true) (fun z=>(dX X).length-z.1) (0,nn+1000) ?_ ⟨Nat.zero_le _,by simp only [];omega,fun j s hj=>absurd hj (Nat.not_lt_zero j)⟩ ?_
 . exact Wk.slots (by simp [Fg,List.replicate]) (by simp only [];omega)
 rintro ⟨k,mm⟩ ⟨hk,GI,yr⟩
 simp only [] at hk GI yr
 by_cases Ib:k<(dX X).length
 . obtain ⟨s,hs⟩:∃ s,(dX X)[k]? = some s:=⟨_,List.getElem?_eq_getElem Ib⟩
   have d1:decide ((k:Int)<((dX X).length:Int))=true:=ao (by omega)
   have hgx:((dX X).map AV.str)[k]? = some (.str s):=by rw [List.getElem?_map,hs];rfl
   have mN:br 1 (strs (dX X)) (.int .i64 (k:Int))=some (.ep (AV.str s).cells 0):=aQ rfl hgx
   have Gt:part false (AV.str s).cells 0 1=some (.str s):=rfl
   simp only [SS,Nat.reduceAdd,List.replicate,dB,d1,mN,az,Gt]
   refine DI hh (by omega) hσ ?_
   cases hcs:names.contains s
   . simp only [SS,Nat.reduceAdd]
     rw [AQ hlt (by
       rw [mh,List.all_eq_false]
       exact ⟨s,List.mem_of_getElem? hs,by rw [hcs];decide⟩)]
     exact ag▸ab rfl (af.bool _)
   . simp only [SS,Nat.reduceAdd,aq k (by omega)]
     refine ⟨(k+1,mm+1000),⟨by simp only [];omega,by simp only [];omega, ?_⟩,by simp only [];omega,Wk.slots (by simp [Fg]) (by simp only [];omega)⟩
     intro j s' hj OL
     by_cases B4:j<k
     . exact yr j s' B4 OL
     . have:j=k:=by simp only [] at hj;omega
       subst this;rw [hs] at OL;simp only [Option.some.injEq] at OL;subst OL;exact hcs
 have Yq:BX l i=true:=by
   rw [mh,List.all_eq_true]
   intro s hs
   obtain ⟨j,hj,OL⟩:=List.getElem_of_mem hs
   exact yr j s (by omega) (by rw [List.getElem?_eq_getElem hj,OL])
 have d1:decide ((k:Int)<((dX X).length:Int))=false:=ak (by omega)
 have Bv:∀ j,j<i+1->BX l j=true:=fun j hj=>by
   by_cases B4:j<i
   . exact cz j B4
   . rw [show j=i from by omega];exact Yq
 simp only [SS,Nat.reduceAdd,List.replicate,dB,d1,iy,az,FX.c0,uz]
 by_cases h0:names=[]
 . have e0:xf ck names = .nils:=if_pos h0
   simp only [e0,oH,SS,Nat.reduceAdd,aq i (by omega)]
   refine ⟨(i+1,mm+4+6+1,mm+1000),⟨by simp only [];omega,by simp only [];omega,Bv⟩,by simp only [];omega, ?_⟩
   simp only [q7,h0,List.nil_append,xf,List.cons_ne_nil,if_false,List.length_singleton,List.map_cons,List.map_nil]
   refine Wk.forget (by simp [Fg]) (fun j => ?_) (by omega)
   by_cases h1:j=[mm+4+6+1]
   . subst h1;right;simp [aa.put]
   . left;simp [aa.put,h1]
 . have e0:xf ck names = .osl [ck] 1 0 names.length false:=if_neg h0
   have zO:∀ (p q:Id),q≠[ck]->b6 ((aa.put (fun _=>none) [ck] (if names=[] then none else some ⟨names.map .str,1,false⟩)).put q (some ⟨[.str X.name],1,false⟩)) p 1 16 (.osl [ck] 1 0 names.length false) (.osl q 1 0 1 false)=some { val := .osl p 1 0 (names.length+1) false,rd:=[[ck],q],up:=[([ck],none),(p,some ⟨(names++[X.name]).map .str,1,false⟩)] } :=
     fun p q hq=>zx hq (by omega) (by rw [aa.bb,if_neg h0])
   have hq:([mm+4+6]:List Nat)≠[ck]:=by intro e;simp at e;omega
   have I4 : ¬ names++[X.name]=[]:=by simp
   simp only [e0,zO _ _ hq,SS,Nat.reduceAdd,aq i (by omega)]
   refine ⟨(i+1,mm+4+6+1,mm+1000),⟨by simp only [];omega,by simp only [];omega,Bv⟩,by simp only [];omega, ?_⟩
   simp only [q7,xf,if_neg I4,List.length_append,List.length_singleton]
   refine Wk.forget (by simp [Fg]) (fun j => ?_) (by omega)
   by_cases h1:j=[mm+4+6+1]
   . subst h1;right;simp [aa.put]
   . left;simp [aa.put,h1]
end
end Go.VL
end

section
set_option linter.unusedVariables false
set_option linter.unusedVariables false
namespace Go.VL
structure OX where
 kind:Nat
 F:FX
 name:List UInt8
 on:Bool
 pK:Int
def OX.av (o:OX):AV := .agg [.int .u8 (o.kind:Int), .str o.F.name, .int .i64 o.F.kind,strs o.F.inputs, .sl 7 (EX.kR o.F.vals), .bool o.F.supp, .str o.name, .bool o.on, .int .i64 o.pK]
theorem OX.one (o:OX):(o.av.cells.all AV.one=true)=True:=by simp [OX.av,AV.cells,AV.one,strs]
theorem OX.sz (o:OX):o.av.size=9:=rfl
theorem OX.p0 (o:OX):part false o.av.cells 0 1=some (.int .u8 (o.kind:Int)):=rfl
theorem OX.pF (o:OX):part true o.av.cells 1 5=some o.F.av:=rfl
theorem OX.p1 (o:OX):part false o.av.cells 1 1=some (.str o.F.name):=rfl
theorem OX.p6 (o:OX):part false o.av.cells 6 1=some (.str o.name):=rfl
theorem OX.p7 (o:OX):part false o.av.cells 7 1=some (.bool o.on):=rfl
theorem OX.p8 (o:OX):part false o.av.cells 8 1=some (.int .i64 o.pK):=rfl
theorem OX.whole (o:OX):part true o.av.cells 0 9=some o.av:=rfl
theorem OX.pure (o:OX):af o.av:=af.agg (by
 intro c hc
 simp at hc
 rcases hc with rfl | rfl | rfl | rfl | rfl | rfl | rfl | rfl | rfl
 . exact af.int _ _
 . exact af.str _
 . exact af.int _ _
 . exact gX _
 . exact EX.eI _
 . exact af.bool _
 . exact af.str _
 . exact af.bool _
 . exact af.int _ _)
theorem AR (k:Nat):bo .rem .int (.int .u8 (k:Int)) (.int .u8 7)=some (.int .u8 ((k%7:Nat):Int)):=by
 have e:((k:Int).tmod 7)=((k%7:Nat):Int):=by rw [Int.tmod_eq_emod_of_nonneg (by omega)];omega
 have e2:IntKind.u8.wrap ((k%7:Nat):Int)=((k%7:Nat):Int):=by
   have:∀ r:Nat,r<7->IntKind.u8.wrap (r:Int)=(r:Int):=by decide
   exact this _ (Nat.mod_lt _ (by decide))
 simp [bo,kS,sr,e]
def FX.bM (X:FX) (b:Bool):FX:={ X with supp:=b }
def oJ (l:List FX) (i:Nat) (X:FX):List FX:=l.take i++[X]++l.drop i
def b9 (l:List FX) (o:OX):List FX × Int :=
 if o.kind%7=0 then (if o.F.valid=false then ([],1) else if 200<=l.length then ([],3) else if 0<=dh l o.F.name then ([],5) else if eg (l++[o.F])=true then (l++[o.F],0) else ([],4))
 else if o.kind%7=1 then (if o.F.valid=false then ([],1) else if dh l o.F.name<0 then ([],4) else if eg (l.set (dh l o.F.name).toNat o.F)=true then (l.set (dh l o.F.name).toNat o.F,0) else ([],4))
 else if o.kind%7=3/\(o.pK<0∨(l.length:Int)<=o.pK) then ([],1)
 else if dh l o.name<0 then ([],4)
 else
   let i:=(dh l o.name).toNat
   let X:=l.getD i ⟨[],0,[],[],false⟩
   let out:=if o.kind%7=2 then oJ (gg l i) i (X.bM o.on) else if o.kind%7=3 then oJ (gg l i) o.pK.toNat X else gg l i
   if eg out=true then (out,0) else ([],14)
theorem oO {σ : aa} {q:Id} {X:FX} (h : σ q=some ⟨[X.av],5,false⟩):dA σ 5 (.osl q 5 0 1 false)=some ([X.av],[q]):=jF (bk:=⟨[X.av],5,false⟩) h rfl (by simp)
theorem zC {σ : aa} {p q:Id} {l:List FX} {X:FX} (h : σ q=some ⟨[X.av],5,false⟩) (hl:l.length<=100000):b6 σ p 5 80 (.tsl 5 (l.map FX.av)) (.osl q 5 0 1 false)=some { val := .osl p 5 0 (l++[X]).length false,rd:=[q],up:=[(p,some ⟨(l++[X]).map FX.av,5,false⟩)] }:=by
 have h1:=ny (l++[X])
 rw [List.map_append] at h1
 rw [gS (ys:=[X.av]) (oO h) (by simp) (by simp;omega) (cK (by simp;omega)) h1]
 simp
theorem wC {σ : aa} {p id q:Id} {l:List FX} {X:FX} (h : σ id=some ⟨l.map FX.av,5,false⟩) (hq : σ q=some ⟨[X.av],5,false⟩) (hl:l.length<=100000):b6 σ p 5 80 (.osl id 5 0 l.length false) (.osl q 5 0 1 false)=some { val := .osl p 5 0 (l++[X]).length false,rd:=[id,q],up:=[(id,none),(p,some ⟨(l++[X]).map FX.av,5,false⟩)] }:=by
 rw [lI (els:=l.map FX.av) (ys:=[X.av]) (oO hq) (by simp) h (by simp) (by simp;omega) (cK (by simp;omega)) (ny [X]) (ny _)]
 simp
theorem xC {σ : aa} {q:Id} {X:FX}:b8 σ q (.buildSl 5 1 (.agg [(.str []),(.int .i64 0), .nils, .nils,(.bool false)]) [(0,X.av)])=some { val := .osl q 5 0 1 false,up:=[(q,some ⟨[X.av],5,false⟩)] } :=
 W9 rfl (of_eq_true (FX.one X)) rfl rfl
theorem Je {σ : aa} {q:Id}:b8 σ q (.buildSl 5 0 (.agg [(.str []),(.int .i64 0), .nils, .nils,(.bool false)]) [])=some { val := .tsl 5 [] }:=T5 rfl rfl
theorem q9:(AV.tsl 5 []) = .tsl 5 (([]:List FX).map FX.av):=rfl
theorem jz {l:List FX} {nm:List UInt8} (h : ¬ dh l nm<0):∃ i:Nat,dh l nm=(i:Int)/\i<l.length:=by
 unfold dh at h ⊢
 cases hf:l.findIdx? fun X=>X.name==nm with
 | none=>rw [hf] at h;exact absurd (by decide:x4 none<0) h
 | some i=>exact ⟨i,rfl,(List.findIdx?_eq_some_iff_findIdx_eq.1 hf).1⟩
theorem bH {σ : aa} {x:AV} {l:List FX} {e:Int} (h:View σ x (dm l)):View σ (.tup [x, .int .i64 e]) (.tup [dm l, .int .i64 e]) :=
 View.tup (.cons h (.cons (View.pure (af.int _ _)) .nil))
section
variable {P:Program} {G:Nat->Option (List AV)} {π : Id} {base:Nat} {Q:cD->VS->Prop} {n:Nat} {d:Option Nat} {os:List bp} {i:Nat} {t:List AV} {σ : aa}
theorem eG {f:FuncId} {l:List FX} {id:Id} {tt:Bool} {r:AV} (h:VP P G f [dm l] r) (hf:b7 r) (hσ : σ id=some ⟨l.map FX.av,5,false⟩) (k:vs P G π base Q n os (i+1) (fG t d r) σ):pO P G π base Q n d os i t σ f [.osl id 5 0 l.length tt] :=
 iF [(id,⟨l.map FX.av,5,false⟩)] h (aW.cons (dU (by simp [aa.of])) .nil) hf (by simpa using hσ) k
end
section
variable {P:Program} {G:Nat->Option (List AV)}
set_option maxHeartbeats 1000000 in
theorem Jf {f fv fp fl fc:FuncId} (h:Has P f (bA fv fp fl fc)) (l:List FX) (o:OX) (hk:o.kind%7=0) (hl:l.length<=1000) (hv:VP P G fv [o.F.av] (.bool o.F.valid))
   (hp:∀ nm,VP P G fp [dm l, .str nm] (.int .i64 (dh l nm))) (hL:VP P G fl [dm (l++[o.F])] (.bool (eg (l++[o.F])))):VP P G f [dm l,o.av] (.tup [dm (b9 l o).1, .int .i64 (b9 l o).2]):=by
 unfold b9
 rw [if_pos hk]
 have hr:bo .rem .int (.int .u8 (o.kind:Int)) (.int .u8 7)=some (.int .u8 0):=by rw [AR,hk];rfl
 have d0:decide ((0:Int)=0)=true:=rfl
 have hpF:af o.F.av:=FX.pure o.F
 have d1:decide ((200:Int)<=(l.length:Int))=decide (200<=l.length):=by
   by_cases q:200<=l.length
   . rw [ao q,ao (by omega)]
   . rw [ak q,ak (by omega)]
 refine VP.has h ?_
 simp only [bA,SS,Nat.reduceAdd,OX.one,ae,OX.p0,hr,decide_true,OX.pF]
 refine aj hv (by simp [hpF]) ?_
 cases hval:o.F.valid
 . rw [if_pos rfl]
   simp only [SS,Nat.reduceAdd]
   exact ag▸⟨_,rfl,bH (View.nils 5)⟩
 rw [if_neg (by decide)]
 simp only [SS,Nat.reduceAdd,mo,d1]
 by_cases h2:200<=l.length
 . rw [if_pos h2,ao h2]
   simp only [SS,Nat.reduceAdd]
   exact ag▸⟨_,rfl,bH (View.nils 5)⟩
 rw [if_neg h2,ak h2]
 simp only [SS,Nat.reduceAdd,ae,OX.p1]
 refine aj (hp o.F.name) (by simp [du,af.str]) ?_
 simp only [SS,Nat.reduceAdd]
 by_cases h3:0<=dh l o.F.name
 . rw [if_pos h3,ao h3]
   simp only [SS,Nat.reduceAdd]
   exact ag▸⟨_,rfl,bH (View.nils 5)⟩
 rw [if_neg h3,ak h3]
 simp only [SS,DD,Nat.reduceAdd,Je]
 by_cases h0:l=[]
 . rw [h0,eX mg]
   simp only [SS,DD,Nat.reduceAdd,ae,OX.pF,xC]
   rw [q9,zC (X:=o.F) (by simp [aa.put]) (by simp)]
   simp only [SS,DD,Nat.reduceAdd]
   refine ⟨by simp [ar,apart], ?_⟩
   rw [h0,List.nil_append] at hL
   refine eG hL (b7.bool _) (by simp [aa.put]) ?_
   cases hB:eg [o.F]
   . simp only [SS,Nat.reduceAdd]
     exact ag▸⟨_,rfl,bH (View.nils 5)⟩
   . simp only [SS,Nat.reduceAdd]
     exact ag▸⟨_,rfl,bH (dU (l:=[o.F]) (by simp [aa.put]))⟩
 . rw [q9,wQ h0 (by simp;omega),List.nil_append]
   simp only [SS,DD,Nat.reduceAdd]
   rw [ai (by decide),ae,OX.pF]
   simp only [SS,DD,Nat.reduceAdd,xC]
   rw [wC (X:=o.F) (by simp [aa.put]) (by simp [aa.put]) (by omega)]
   simp only [SS,DD,Nat.reduceAdd]
   refine ⟨by simp [ar,apart], ?_⟩
   refine eG hL (b7.bool _) (by simp [aa.put]) ?_
   cases hB:eg (l++[o.F])
   . simp only [SS,Nat.reduceAdd]
     exact ag▸⟨_,rfl,bH (View.nils 5)⟩
   . simp only [SS,Nat.reduceAdd]
     exact ag▸⟨_,rfl,bH (dU (by simp [aa.put]))⟩
theorem map_set (l:List FX) (i:Nat) (X:FX):(l.map FX.av).set i X.av=(l.set i X).map FX.av:=by rw [List.map_set]
set_option maxHeartbeats 1000000 in
theorem Jg {f fv fp fl fc:FuncId} (h:Has P f (bA fv fp fl fc)) (l:List FX) (o:OX) (hk:o.kind%7=1) (hl:l.length<=1000) (hv:VP P G fv [o.F.av] (.bool o.F.valid))
   (hp:∀ nm,VP P G fp [dm l, .str nm] (.int .i64 (dh l nm))) (hL:∀ i,VP P G fl [dm (l.set i o.F)] (.bool (eg (l.set i o.F)))):VP P G f [dm l,o.av] (.tup [dm (b9 l o).1, .int .i64 (b9 l o).2]):=by
 unfold b9
 rw [if_neg (by omega),if_pos hk]
 have hr:bo .rem .int (.int .u8 (o.kind:Int)) (.int .u8 7)=some (.int .u8 1):=by rw [AR,hk];rfl
 have d0:decide ((1:Int)=0)=false:=rfl
 have hpF:af o.F.av:=FX.pure o.F
 refine VP.has h ?_
 simp only [bA,SS,Nat.reduceAdd,OX.one,ae,OX.p0,hr,d0,decide_true,OX.pF]
 refine aj hv (by simp [hpF]) ?_
 cases hval:o.F.valid
 . rw [if_pos rfl]
   simp only [SS,Nat.reduceAdd]
   exact ag▸⟨_,rfl,bH (View.nils 5)⟩
 rw [if_neg (by decide)]
 simp only [SS,Nat.reduceAdd,ae,OX.p1]
 refine aj (hp o.F.name) (by simp [du,af.str]) ?_
 simp only [SS,Nat.reduceAdd]
 by_cases h3:dh l o.F.name<0
 . rw [if_pos h3,ao h3]
   simp only [SS,Nat.reduceAdd]
   exact ag▸⟨_,rfl,bH (View.nils 5)⟩
 rw [if_neg h3,ak h3]
 obtain ⟨i,hi,hlt⟩:=jz h3
 have h0:l≠[]:=by intro e;rw [e] at hlt;simp at hlt
 rw [hi,Int.toNat_natCast]
 obtain ⟨Y,hY⟩:∃ Y,l[i]? = some Y:=⟨_,List.getElem?_eq_getElem hlt⟩
 have hg:(l.map FX.av)[i]? = some Y.av:=by rw [List.getElem?_map,hY];rfl
 simp only [SS,Nat.reduceAdd,Je]
 rw [q9,wQ h0 (by simp;omega),List.nil_append]
 simp only [SS,Nat.reduceAdd]
 rw [ai (by decide),ae,OX.pF]
 simp only [SS,Nat.reduceAdd,lA hlt]
 rw [uC (k:=5) (els:=l.map FX.av) (x:=Y.av) (y:=o.F.av) (by simp [aa.put]) hg rfl rfl (of_eq_true (FX.one _)) rfl,map_set]
 simp only [SS,Nat.reduceAdd]
 have Co:(l.set i o.F).length=l.length:=List.length_set
 rw [<- Co]
 refine eG (hL i) (b7.bool _) (by simp [aa.put]) ?_
 cases hB:eg (l.set i o.F)
 . simp only [SS,Nat.reduceAdd]
   exact ag▸⟨_,rfl,bH (View.nils 5)⟩
 . simp only [SS,Nat.reduceAdd]
   exact ag▸⟨_,rfl,bH (dU (by simp [aa.put]))⟩
end
end Go.VL
end

section
set_option linter.unusedVariables false
set_option linter.unusedVariables false
namespace Go.VL
theorem FX.abo (X:FX):(AV.agg [.str [], .int .i64 0, .nils, .nils, .bool false]).upd 0 X.av.cells=X.av:=rfl
theorem FX.u4 (X:FX) (b:Bool):X.av.upd 4 [.bool b]=(X.bM b).av:=rfl
theorem oP {l:List FX} {i:Nat} (h:i<l.length):(gg l i).length+1=l.length:=by
 simp [gg];omega
theorem zD {l:List FX} {i:Nat} {X:FX} (h:i<=l.length):(oJ l i X).length=l.length+1:=by
 simp [oJ];omega
theorem oa {σ : aa} {id:Id} {X:FX} {k:Nat} (h : σ id=some ⟨[.agg [.str [], .int .i64 0, .nils, .nils, .bool false]],k,false⟩):eK σ 5 (.ref id 0 0) X.av=some { val := .tup [],rd:=[id],up:=[(id,some ⟨[X.av],k,false⟩)] }:=by
 rw [cA (n:=5) (v:=X.av) h rfl rfl (by simp [AV.size,AV.cells]) (of_eq_true (FX.one X)),FX.abo]
 rfl
theorem Fx {σ : aa} {p id:Id} {X:FX} {m:List FX} (h : σ id=some ⟨[X].map FX.av,5,false⟩) (hm:m≠[]) (hl:1+m.length<=1000000):b6 σ p 5 80 (.osl id 5 0 1 false) (dm m)=some { val := .osl p 5 0 (X::m).length false,rd:=[id],up:=[(id,none),(p,some ⟨(X::m).map FX.av,5,false⟩)] } :=
 Cc (l:=[X]) h hm (by simpa using hl)
theorem AU {bh:FX->Prop} {l:List FX} {i:Nat} (hg:∀ Y∈l,bh Y):∀ Y∈gg l i,bh Y:=by
 intro Y hY
 unfold gg at hY
 rcases List.mem_append.1 hY with h | h
 . exact hg Y (List.mem_of_mem_take h)
 . exact hg Y (List.mem_of_mem_drop h)
theorem Fy {bh:FX->Prop} {m:List FX} {j:Nat} {X:FX} (hg:∀ Y∈m,bh Y) (hX:bh X):∀ Y∈oJ m j X,bh Y:=by
 intro Y hY
 unfold oJ at hY
 simp only [List.mem_append,List.mem_singleton] at hY
 rcases hY with (h | h) | h
 . exact hg Y (List.mem_of_mem_take h)
 . rw [h];exact hX
 . exact hg Y (List.mem_of_mem_drop h)
section
variable {P:Program} {G:Nat->Option (List AV)}
set_option maxHeartbeats 4000000 in
theorem Jh {f fv fp fl fc:FuncId} (h:Has P f (bA fv fp fl fc)) (l:List FX) (o:OX) (hk:o.kind%7=3) (hl:l.length<=1000) {bh:FX->Prop} (UE:∀ X∈l,bh X) (hgs:∀ X b,bh X->bh (X.bM b))
   (hp:∀ nm,VP P G fp [dm l, .str nm] (.int .i64 (dh l nm))) (hL:∀ m,m.length=l.length->(∀ X∈m,bh X)->VP P G fl [dm m] (.bool (eg m))) (hc:∀ i,i<l.length->VP P G fc [dm l, .int .i64 (i:Int)] (dm (gg l i))) :
   VP P G f [dm l,o.av] (.tup [dm (b9 l o).1, .int .i64 (b9 l o).2]):=by
 unfold b9
 rw [if_neg (by omega),if_neg (by omega),hk]
 have hr:bo .rem .int (.int .u8 (o.kind:Int)) (.int .u8 7)=some (.int .u8 3):=by rw [AR,hk];rfl
 have d0:decide ((3:Int)=0)=false:=rfl
 have d1:decide ((3:Int)=1)=false:=rfl
 have d2:decide ((3:Int)=2)=false:=rfl
 refine VP.has h ?_
 simp only [bA,SS,Nat.reduceAdd,OX.one,ae,OX.p0,hr,d0,d1,decide_true,OX.p8]
 by_cases t1:o.pK<0
 . rw [if_pos ⟨trivial, .inl t1⟩,ao t1]
   simp only [SS,Nat.reduceAdd]
   exact ag▸⟨_,rfl,bH (View.nils 5)⟩
 rw [ak t1]
 simp only [SS,Nat.reduceAdd,ae,OX.p8,mo]
 by_cases t2:(l.length:Int)<=o.pK
 . rw [if_pos ⟨trivial, .inr t2⟩,ao t2]
   simp only [SS,Nat.reduceAdd]
   exact ag▸⟨_,rfl,bH (View.nils 5)⟩
 rw [ak t2,if_neg (by omega)]
 simp only [SS,Nat.reduceAdd,ae,OX.p6]
 refine aj (hp o.name) (by simp [du,af.str]) ?_
 simp only [SS,Nat.reduceAdd]
 by_cases h3:dh l o.name<0
 . rw [if_pos h3,ao h3]
   simp only [SS,Nat.reduceAdd]
   exact ag▸⟨_,rfl,bH (View.nils 5)⟩
 rw [if_neg h3,ak h3]
 obtain ⟨i,hi,hlt⟩:=jz h3
 obtain ⟨j,hj⟩:∃ j:Nat,o.pK=(j:Int):=⟨o.pK.toNat,by omega⟩
 have nH:j<l.length:=by omega
 obtain ⟨X,hX⟩:∃ X,l[i]? = some X:=⟨_,List.getElem?_eq_getElem hlt⟩
 have hg:(l.map FX.av)[i]? = some X.av:=by rw [List.getElem?_map,hX];rfl
 have iy:br 5 (dm l) (.int .i64 (i:Int))=some (.ep X.av.cells 0):=aQ rfl hg
 have DX:l.getD i ⟨[],0,[],[],false⟩=X:=by rw [List.getD_eq_getElem?_getD,hX];rfl
 have uT:=oP hlt
 have JV:=zD (X:=X) (show j<=(gg l i).length by omega)
 have AW:=hL _ (JV.trans uT) (Fy (AU UE) (UE X (List.mem_of_getElem? hX)))
 have e32:((3:Nat)=2)=False:=eq_false (by decide)
 rw [hi,hj,Int.toNat_natCast,Int.toNat_natCast,DX]
 simp only [e32,if_false]
 simp only [SS,Nat.reduceAdd]
 refine aj (hc i hlt) (by simp [du,af.int]) ?_
 generalize gg l i=m at *
 unfold oJ at AW JV ⊢
 simp only [SS,Nat.reduceAdd,iy,az,FX.whole,jb]
 rw [oa (k:=(AV.agg [.str [], .int .i64 0, .nils, .nils, .bool false]).size) (by simp [aa.put])]
 simp only [SS,Nat.reduceAdd]
 rw [ai (by decide),ai (by decide),ae,OX.p0]
 simp only [SS,DD,Nat.reduceAdd,hr,d2,decide_true,Je]
 rw [ai (by decide),ai (by decide),ae,OX.p8,hj]
 have hj1:j<=m.length:=by omega
 simp only [SS,DD,Nat.reduceAdd,pD hj1]
 have Sw:=pE hj1
 have UF:(m.drop j).length<=1000:=by rw [List.length_drop];omega
 have Eh:(m.take j).length<=1000:=by rw [List.length_take];omega
 generalize m.drop j=md at *
 generalize m.take j=mt at *
 by_cases h0:mt=[]
 . subst h0
   rw [eX mg]
   simp only [SS,DD,Nat.reduceAdd,ae,FX.whole,xC]
   rw [q9,zC (X:=X) (by simp [aa.put]) (by simp)]
   simp only [SS,DD,Nat.reduceAdd]
   repeat rw [ai (by decide)]
   rw [ae,OX.p8,hj]
   simp only [SS,DD,Nat.reduceAdd,Sw]
   by_cases h1:md=[]
   . subst h1
     rw [lJ mg]
     simp only [SS,DD,Nat.reduceAdd]
     refine ⟨by simp [ar,apart], ?_⟩
     rw [List.append_nil,List.nil_append] at AW
     refine eG AW (b7.bool _) (by simp [aa.put]) ?_
     cases hB:eg [X]
     . simp only [SS,Nat.reduceAdd]
       exact ag▸⟨_,rfl,bH (View.nils 5)⟩
     . simp only [SS,Nat.reduceAdd]
       exact ag▸⟨_,rfl,bH (dU (l:=[X]) (by simp [aa.put]))⟩
   . rw [Fx (X:=X) (by simp [aa.put]) h1 (by omega)]
     simp only [SS,DD,Nat.reduceAdd]
     refine ⟨by simp [ar,apart], ?_⟩
     have AW:VP P G fl [dm (X::md)] (.bool (eg (X::md))):=AW
     refine eG AW (b7.bool _) (by simp [aa.put]) ?_
     cases hB:eg (X::md)
     . simp only [SS,Nat.reduceAdd]
       exact ag▸⟨_,rfl,bH (View.nils 5)⟩
     . simp only [SS,Nat.reduceAdd]
       exact ag▸⟨_,rfl,bH (dU (l:=X::md) (by simp [aa.put]))⟩
 . rw [q9,wQ h0 (by simp;omega),List.nil_append]
   simp only [SS,DD,Nat.reduceAdd]
   rw [ai (by decide),ae,FX.whole]
   simp only [SS,DD,Nat.reduceAdd,xC]
   rw [wC (l:=mt) (X:=X) (by simp [aa.put]) (by simp [aa.put]) (by omega)]
   simp only [SS,DD,Nat.reduceAdd]
   repeat rw [ai (by decide)]
   rw [ae,OX.p8,hj]
   simp only [SS,DD,Nat.reduceAdd,Sw]
   by_cases h1:md=[]
   . subst h1
     rw [lJ mg]
     simp only [SS,DD,Nat.reduceAdd]
     refine ⟨by simp [ar,apart]<;>(intro a b hh;rcases hh with ⟨rfl,_⟩ | ⟨rfl,_⟩<;>simp), ?_⟩
     rw [List.append_nil] at AW
     refine eG AW (b7.bool _) (by simp [aa.put]) ?_
     cases hB:eg (mt++[X])
     . simp only [SS,Nat.reduceAdd]
       exact ag▸⟨_,rfl,bH (View.nils 5)⟩
     . simp only [SS,Nat.reduceAdd]
       exact ag▸⟨_,rfl,bH (dU (l:=mt++[X]) (by simp [aa.put]))⟩
   . rw [Cc (l:=mt++[X]) (by simp [aa.put]) h1 (by simp;omega)]
     simp only [SS,DD,Nat.reduceAdd]
     refine ⟨by simp [ar,apart]<;>(intro a b hh;rcases hh with ⟨rfl,_⟩ | ⟨rfl,_⟩<;>simp), ?_⟩
     refine eG AW (b7.bool _) (by simp [aa.put]) ?_
     cases hB:eg (mt++[X]++md)
     . simp only [SS,Nat.reduceAdd]
       exact ag▸⟨_,rfl,bH (View.nils 5)⟩
     . simp only [SS,Nat.reduceAdd]
       exact ag▸⟨_,rfl,bH (dU (l:=mt++[X]++md) (by simp [aa.put]))⟩
set_option maxHeartbeats 4000000 in
theorem Ji {f fv fp fl fc:FuncId} (h:Has P f (bA fv fp fl fc)) (l:List FX) (o:OX) (hk:o.kind%7=2) (hl:l.length<=1000) {bh:FX->Prop} (UE:∀ X∈l,bh X) (hgs:∀ X b,bh X->bh (X.bM b))
   (hp:∀ nm,VP P G fp [dm l, .str nm] (.int .i64 (dh l nm))) (hL:∀ m,m.length=l.length->(∀ X∈m,bh X)->VP P G fl [dm m] (.bool (eg m))) (hc:∀ i,i<l.length->VP P G fc [dm l, .int .i64 (i:Int)] (dm (gg l i))) :
   VP P G f [dm l,o.av] (.tup [dm (b9 l o).1, .int .i64 (b9 l o).2]):=by
 unfold b9
 rw [if_neg (by omega),if_neg (by omega),hk]
 have hr:bo .rem .int (.int .u8 (o.kind:Int)) (.int .u8 7)=some (.int .u8 2):=by rw [AR,hk];rfl
 have d0:decide ((2:Int)=0)=false:=rfl
 have d1:decide ((2:Int)=1)=false:=rfl
 have d3:decide ((2:Int)=3)=false:=rfl
 refine VP.has h ?_
 simp only [bA,SS,Nat.reduceAdd,OX.one,ae,OX.p0,hr,d0,d1,d3,OX.p6]
 rw [if_neg (by omega)]
 refine aj (hp o.name) (by simp [du,af.str]) ?_
 simp only [SS,Nat.reduceAdd]
 by_cases h3:dh l o.name<0
 . rw [if_pos h3,ao h3]
   simp only [SS,Nat.reduceAdd]
   exact ag▸⟨_,rfl,bH (View.nils 5)⟩
 rw [if_neg h3,ak h3]
 obtain ⟨i,hi,hlt⟩:=jz h3
 obtain ⟨X,hX⟩:∃ X,l[i]? = some X:=⟨_,List.getElem?_eq_getElem hlt⟩
 have hg:(l.map FX.av)[i]? = some X.av:=by rw [List.getElem?_map,hX];rfl
 have iy:br 5 (dm l) (.int .i64 (i:Int))=some (.ep X.av.cells 0):=aQ rfl hg
 have DX:l.getD i ⟨[],0,[],[],false⟩=X:=by rw [List.getD_eq_getElem?_getD,hX];rfl
 have uT:=oP hlt
 have JV:=zD (X:=X.bM o.on) (show i<=(gg l i).length by omega)
 have AW:=hL _ (JV.trans uT) (Fy (AU UE) (hgs X o.on (UE X (List.mem_of_getElem? hX))))
 rw [hi,Int.toNat_natCast,DX]
 simp only [SS,Nat.reduceAdd]
 refine aj (hc i hlt) (by simp [du,af.int]) ?_
 generalize gg l i=m at *
 unfold oJ at AW JV ⊢
 simp only [SS,Nat.reduceAdd,iy,az,FX.whole,jb]
 rw [oa (k:=(AV.agg [.str [], .int .i64 0, .nils, .nils, .bool false]).size) (by simp [aa.put])]
 simp only [SS,Nat.reduceAdd]
 repeat rw [ai (by decide)]
 rw [ae,OX.p0]
 simp only [SS,Nat.reduceAdd,hr,decide_true]
 repeat rw [ai (by decide)]
 rw [ae,OX.p7]
 simp only [SS,Nat.reduceAdd]
 rw [fJ (x:=X.av) (y:=(X.bM o.on).av) (k:=(AV.agg [.str [], .int .i64 0, .nils, .nils, .bool false]).size) (by simp [aa.put]) rfl rfl (by rw [FX.sz];omega) (FX.u4 X _)]
 have T4:i<=m.length:=by omega
 simp only [SS,DD,Nat.reduceAdd,Je,pD T4]
 have Sw:=pE T4
 have UF:(m.drop i).length<=1000:=by rw [List.length_drop];omega
 have Eh:(m.take i).length<=1000:=by rw [List.length_take];omega
 generalize m.drop i=md at *
 generalize m.take i=mt at *
 by_cases h0:mt=[]
 . subst h0
   rw [eX mg]
   simp only [SS,DD,Nat.reduceAdd,ae,FX.whole,xC]
   rw [q9,zC (X:=X.bM o.on) (by simp [aa.put]) (by simp)]
   simp only [SS,DD,Nat.reduceAdd]
   simp only [SS,DD,Nat.reduceAdd,Sw]
   by_cases h1:md=[]
   . subst h1
     rw [lJ mg]
     simp only [SS,DD,Nat.reduceAdd]
     refine ⟨by simp [ar,apart], ?_⟩
     rw [List.append_nil,List.nil_append] at AW
     refine eG AW (b7.bool _) (by simp [aa.put]) ?_
     cases hB:eg [X.bM o.on]
     . simp only [SS,Nat.reduceAdd]
       exact ag▸⟨_,rfl,bH (View.nils 5)⟩
     . simp only [SS,Nat.reduceAdd]
       exact ag▸⟨_,rfl,bH (dU (l:=[X.bM o.on]) (by simp [aa.put]))⟩
   . rw [Fx (X:=X.bM o.on) (by simp [aa.put]) h1 (by omega)]
     simp only [SS,DD,Nat.reduceAdd]
     refine ⟨by simp [ar,apart], ?_⟩
     have AW:VP P G fl [dm (X.bM o.on::md)] (.bool (eg (X.bM o.on::md))):=AW
     refine eG AW (b7.bool _) (by simp [aa.put]) ?_
     cases hB:eg (X.bM o.on::md)
     . simp only [SS,Nat.reduceAdd]
       exact ag▸⟨_,rfl,bH (View.nils 5)⟩
     . simp only [SS,Nat.reduceAdd]
       exact ag▸⟨_,rfl,bH (dU (l:=X.bM o.on::md) (by simp [aa.put]))⟩
 . rw [q9,wQ h0 (by simp;omega),List.nil_append]
   simp only [SS,DD,Nat.reduceAdd]
   rw [ai (by decide),ae,FX.whole]
   simp only [SS,DD,Nat.reduceAdd,xC]
   rw [wC (l:=mt) (X:=X.bM o.on) (by simp [aa.put]) (by simp [aa.put]) (by omega)]
   simp only [SS,DD,Nat.reduceAdd]
   simp only [SS,DD,Nat.reduceAdd,Sw]
   by_cases h1:md=[]
   . subst h1
     rw [lJ mg]
     simp only [SS,DD,Nat.reduceAdd]
     refine ⟨by simp [ar,apart]<;>(intro a b hh;rcases hh with ⟨rfl,_⟩ | ⟨rfl,_⟩<;>simp), ?_⟩
     rw [List.append_nil] at AW
     refine eG AW (b7.bool _) (by simp [aa.put]) ?_
     cases hB:eg (mt++[X.bM o.on])
     . simp only [SS,Nat.reduceAdd]
       exact ag▸⟨_,rfl,bH (View.nils 5)⟩
     . simp only [SS,Nat.reduceAdd]
       exact ag▸⟨_,rfl,bH (dU (l:=mt++[X.bM o.on]) (by simp [aa.put]))⟩
   . rw [Cc (l:=mt++[X.bM o.on]) (by simp [aa.put]) h1 (by simp;omega)]
     simp only [SS,DD,Nat.reduceAdd]
     refine ⟨by simp [ar,apart]<;>(intro a b hh;rcases hh with ⟨rfl,_⟩ | ⟨rfl,_⟩<;>simp), ?_⟩
     refine eG AW (b7.bool _) (by simp [aa.put]) ?_
     cases hB:eg (mt++[X.bM o.on]++md)
     . simp only [SS,Nat.reduceAdd]
       exact ag▸⟨_,rfl,bH (View.nils 5)⟩
     . simp only [SS,Nat.reduceAdd]
       exact ag▸⟨_,rfl,bH (dU (l:=mt++[X.bM o.on]++md) (by simp [aa.put]))⟩
set_option maxHeartbeats 4000000 in
theorem Jj {f fv fp fl fc:FuncId} (h:Has P f (bA fv fp fl fc)) (l:List FX) (o:OX) (hk:o.kind%7=4) (hl:l.length<=1000) {bh:FX->Prop} (UE:∀ X∈l,bh X) (hgs:∀ X b,bh X->bh (X.bM b))
   (hp:∀ nm,VP P G fp [dm l, .str nm] (.int .i64 (dh l nm))) (hL:∀ m,m.length+1=l.length->(∀ X∈m,bh X)->VP P G fl [dm m] (.bool (eg m))) (hc:∀ i,i<l.length->VP P G fc [dm l, .int .i64 (i:Int)] (dm (gg l i))) :
   VP P G f [dm l,o.av] (.tup [dm (b9 l o).1, .int .i64 (b9 l o).2]):=by
 unfold b9
 rw [if_neg (by omega),if_neg (by omega),hk]
 have hr:bo .rem .int (.int .u8 (o.kind:Int)) (.int .u8 7)=some (.int .u8 4):=by rw [AR,hk];rfl
 have d0:decide ((4:Int)=0)=false:=rfl
 have d1:decide ((4:Int)=1)=false:=rfl
 have d2:decide ((4:Int)=2)=false:=rfl
 have d3:decide ((4:Int)=3)=false:=rfl
 have e42:((4:Nat)=2)=False:=eq_false (by decide)
 have e43:((4:Nat)=3)=False:=eq_false (by decide)
 refine VP.has h ?_
 simp only [bA,SS,Nat.reduceAdd,OX.one,ae,OX.p0,hr,d0,d1,d3,OX.p6]
 rw [if_neg (by omega)]
 refine aj (hp o.name) (by simp [du,af.str]) ?_
 simp only [SS,Nat.reduceAdd]
 by_cases h3:dh l o.name<0
 . rw [if_pos h3,ao h3]
   simp only [SS,Nat.reduceAdd]
   exact ag▸⟨_,rfl,bH (View.nils 5)⟩
 rw [if_neg h3,ak h3]
 obtain ⟨i,hi,hlt⟩:=jz h3
 obtain ⟨X,hX⟩:∃ X,l[i]? = some X:=⟨_,List.getElem?_eq_getElem hlt⟩
 have hg:(l.map FX.av)[i]? = some X.av:=by rw [List.getElem?_map,hX];rfl
 have iy:br 5 (dm l) (.int .i64 (i:Int))=some (.ep X.av.cells 0):=aQ rfl hg
 have uT:=oP hlt
 have AW:=hL _ uT (AU UE)
 rw [hi,Int.toNat_natCast]
 simp only [e42,e43,if_false]
 simp only [SS,Nat.reduceAdd]
 refine aj (hc i hlt) (by simp [du,af.int]) ?_
 generalize gg l i=m at *
 simp only [SS,Nat.reduceAdd,iy,az,FX.whole,jb]
 rw [oa (k:=(AV.agg [.str [], .int .i64 0, .nils, .nils, .bool false]).size) (by simp [aa.put])]
 simp only [SS,Nat.reduceAdd]
 repeat rw [ai (by decide)]
 rw [ae,OX.p0]
 simp only [SS,Nat.reduceAdd,hr,d2,d3]
 refine aj AW (by simp [du]) ?_
 cases hB:eg m
 . simp only [SS,Nat.reduceAdd]
   exact ag▸⟨_,rfl,bH (View.nils 5)⟩
 . simp only [SS,Nat.reduceAdd]
   exact ag▸⟨_,rfl,bH (View.pure (du m))⟩
end
end Go.VL
end

section
set_option linter.unusedVariables false
set_option linter.unusedVariables false
namespace Go.VL
def qp (ls:List (List FX)):AV := .sl 1 (ls.map dm)
def bl (ls:List (List FX)) (a:Nat):AV := .agg [qp ls, .int .i64 (a:Int)]
theorem OM (l:List FX):(dm l).cells=[dm l]:=rfl
theorem Jk (ls:List (List FX)):flat (ls.map dm)=ls.map dm:=by
 induction ls with
 | nil=>rfl
 | cons l ls ih=>simp only [List.map_cons,flat,List.flatMap_cons,OM] at ih ⊢;rw [ih];rfl
theorem Jl (ls:List (List FX)):jK false (qp ls)=some (.int .i64 (ls.length:Int)):=by simp [qp,jK]
theorem DJ (ls:List (List FX)):∀ c∈ls.map dm,af c:=fun c hc=>by
 obtain ⟨l,_,rfl⟩:=List.mem_map.1 hc;exact du l
theorem OO (ls:List (List FX)):af (qp ls):=af.sl (by rw [Jk];exact DJ ls)
theorem DK (ls:List (List FX)):((ls.map dm).all fun e=>e.cells.all AV.one)=true:=by
 rw [List.all_eq_true];intro e he;obtain ⟨l,_,rfl⟩:=List.mem_map.1 he;rfl
theorem lB (ls:List (List FX)) (a:Nat):af (bl ls a):=af.agg (by
 intro c hc
 simp at hc
 rcases hc with rfl | rfl
 . exact OO ls
 . exact af.int _ _)
theorem AX (ls:List (List FX)) (a:Nat):((bl ls a).cells.all AV.one=true)=True:=by simp [bl,AV.cells,AV.one,qp]
theorem ta (ls:List (List FX)) (a:Nat):part false (bl ls a).cells 0 1=some (qp ls):=rfl
theorem ko (ls:List (List FX)) (a:Nat):part false (bl ls a).cells 1 1=some (.int .i64 (a:Int)):=rfl
theorem ku (ls:List (List FX)) (a:Nat):part true (bl ls a).cells 0 2=some (bl ls a):=rfl
theorem MZ {ls:List (List FX)} {a:Nat} {l:List FX} (h:ls[a]? = some l):br 1 (qp ls) (.int .i64 (a:Int))=some (.ep (dm l).cells 0):=aQ rfl (by rw [List.getElem?_map,h];rfl)
theorem Jm (l:List FX):part false (dm l).cells 0 1=some (dm l):=rfl
theorem Fz {σ : aa} {id:Id} {ls:List (List FX)} {t:Bool} (h : σ id=some ⟨ls.map dm,1,false⟩):View σ (.osl id 1 0 ls.length t) (qp ls):=by
 refine View.osl (bk:=⟨ls.map dm,1,false⟩) h rfl (by simp) ?_ (by simp) (fun d hd => ?_)
 . have e:(ls.map dm).take ls.length=ls.map dm:=List.take_of_length_le (by simp)
   simp only [List.drop_zero,e,Jk]
   exact aW.pure (DJ ls)
 . obtain ⟨y,_,rfl⟩:=List.mem_map.1 hd
   rfl
theorem Em {ls:List (List FX)} {h:Nat} (hh:h<=ls.length):bT 1 (qp ls) none (some (.int .i64 (h:Int))) none=some (qp (ls.take h)):=by
 simp [bT,cJ,dV,qp,hh,List.map_take]
theorem Sx {σ : aa} {p:Id} {m:List (List FX)} (hm:m≠[]) (hl:m.length<=1000000):b6 σ p 1 24 (.tsl 1 []) (qp m)=some { val := .osl p 1 0 m.length false,rd:=[],up:=[(p,some ⟨m.map dm,1,false⟩)] }:=by
 rw [gS (es:=[]) (ys:=m.map dm) (x:=qp m) (rd:=[]) eW (by simpa using hm) (by simp;omega) (cK (by simp;omega)) (by simpa using DK m)]
 simp
theorem OP {σ : aa} {p id q:Id} {ls:List (List FX)} {l:List FX} (h : σ id=some ⟨ls.map dm,1,false⟩) (hq : σ q=some ⟨[dm l],1,false⟩) (hl:ls.length<=100000):b6 σ p 1 24 (.osl id 1 0 ls.length false) (.osl q 1 0 1 false)=some { val := .osl p 1 0 (ls++[l]).length false,rd:=[id,q],up:=[(id,none),(p,some ⟨(ls++[l]).map dm,1,false⟩)] }:=by
 rw [lI (els:=ls.map dm) (ys:=[dm l]) (jF (bk:=⟨[dm l],1,false⟩) hq rfl (by simp)) (by simp) h (by simp) (by simp;omega) (cK (by simp;omega)) rfl (DK _)]
 simp
theorem Ws {σ : aa} {q:Id} {l:List FX}:b8 σ q (.buildSl 1 1 .nils [(0,dm l)])=some { val := .osl q 1 0 1 false,up:=[(q,some ⟨[dm l],1,false⟩)] }:=W9 rfl rfl rfl rfl
theorem abq {σ : aa} {q:Id}:b8 σ q (.buildSl 1 0 .nils [])=some { val := .tsl 1 [] }:=T5 rfl rfl
theorem OQ (x:AV) (b:Nat):(AV.agg [.nils, .int .i64 0]).upd 0 (AV.agg [x, .int .i64 (b:Int)]).cells = .agg [x, .int .i64 (b:Int)]:=rfl
noncomputable def vv (ls:List (List FX)) (a:Nat) (o:OX):List (List FX) × Nat × Int × Bool :=
 if o.kind%7=5 then (if a=0 then (ls,a,0,false) else (ls,a-1,0,true))
 else if o.kind%7=6 then (if a+1=ls.length then (ls,a,0,false) else (ls,a+1,0,true))
 else
   let l:=ls.getD a []
   let c:=b9 l o
   if c.2≠0∨gY c.1 l=true then (ls,a,c.2,false) else (ls.take (a+1)++[c.1],a+1,0,false)
section
variable {P:Program} {G:Nat->Option (List AV)}
theorem Yr {f:FuncId} (h:Has P f iE) (ls:List (List FX)) (a:Nat) {l:List FX} (ha:ls[a]? = some l):VP P G f [bl ls a] (dm l):=by
 refine VP.has h ?_
 simp only [iE,SS,Nat.reduceAdd,AX,ae,ta,ko,MZ ha,az,Jm]
 exact ag▸ab rfl (du l)
theorem Ys {f:FuncId} (h:Has P f iD):VP P G f [] (bl [[]] 0):=by
 have hb:∀ (σ : aa) (q:Id),b8 σ q (.buildSl 1 1 .nils [(0, .nils)])=some { val := .osl q 1 0 1 false,up:=[(q,some ⟨[.nils],1,false⟩)] }:=fun σ q=>W9 rfl rfl rfl rfl
 have e:∀ q:Id,pn [.nils, .int .i64 0] [(0,(1, .osl q 1 0 1 false))]=some [.osl q 1 0 1 false, .int .i64 0]:=fun q=>rfl
 have z1:(AV.cells (.agg [.nils, .int .i64 0])).all AV.one=true:=rfl
 refine VP.has h ?_
 simp only [iD,SS,Nat.reduceAdd,hb,e,z1]
 rw [cA (n:=2) (v := .agg [.osl [1] 1 0 1 false, .int .i64 0]) (els:=[.agg [.nils, .int .i64 0]]) (el := .agg [.nils, .int .i64 0]) (k:=(AV.agg [.nils, .int .i64 0]).size) (by simp [aa.put]) rfl rfl (by simp [AV.size,AV.cells]) rfl]
 simp only [SS,Nat.reduceAdd]
 refine ag▸⟨.agg [.osl [1] 1 0 1 false, .int .i64 0], ?_,View.agg (.cons (View.osl (bk:=⟨[.nils],1,false⟩) (by simp [aa.put]) rfl (by simp) (aW.cons (View.nils 5) .nil) rfl (by simp;rfl)) (.cons (View.pure (af.int _ _)) .nil))⟩
 simp only [RS,bR,cv,ae]
 rfl
end
end Go.VL
end

section
set_option linter.unusedVariables false
set_option linter.unusedVariables false
namespace Go.VL
theorem jI {σ : aa} {id:Id} {x:AV} {b:Nat} {k:Nat} (hx:x.cells=[x]) (h1:x.one=true) (h : σ id=some ⟨[.agg [.nils, .int .i64 0]],k,false⟩) :
   eK σ 2 (.ref id 0 0) (.agg [x, .int .i64 (b:Int)])=some { val := .tup [],rd:=[id],up:=[(id,some ⟨[.agg [x, .int .i64 (b:Int)]],k,false⟩)] }:=by
 rw [cA (n:=2) (v := .agg [x, .int .i64 (b:Int)]) h rfl rfl (by simp [AV.size,AV.cells]) (by simp [AV.cells,AV.one] at h1 ⊢;exact h1),OQ]
 rfl
theorem wR {a:Nat} (h:a≠0) (hb:a<=1000000):IntKind.i64.wrap ((a:Int)-1)=((a-1:Nat):Int):=by
 rw [show (a:Int)-1=((a-1:Nat):Int) by omega]
 exact F7 _ (by omega)
theorem OR {σ : aa} {x:AV} {ls:List (List FX)} {a:Nat} {e:Int} {b:Bool} (h:View σ x (bl ls a)):View σ (.tup [x, .int .i64 e, .bool b]) (.tup [bl ls a, .int .i64 e, .bool b]) :=
 View.tup (.cons h (.cons (View.pure (af.int _ _)) (.cons (View.pure (af.bool _)) .nil)))
theorem K5:((AV.agg [.nils, .int .i64 0]).cells.all AV.one=true)=True:=by simp [AV.cells,AV.one]
theorem lC (x:AV) (a:Nat):part true (AV.agg [x, .int .i64 (a:Int)]).cells 0 2=some (.agg [x, .int .i64 (a:Int)]):=rfl
theorem Bx (x:AV) (a:Nat):part false (AV.agg [x, .int .i64 (a:Int)]).cells 1 1=some (.int .i64 (a:Int)):=rfl
theorem Jn (ls:List (List FX)) (a:Nat) (x:AV):(bl ls a).upd 0 [x] = .agg [x, .int .i64 (a:Int)]:=rfl
theorem Sy (x:AV) (a b:Nat):(AV.agg [x, .int .i64 (a:Int)]).upd 1 [.int .i64 (b:Int)] = .agg [x, .int .i64 (b:Int)]:=rfl
section
variable {P:Program} {G:Nat->Option (List AV)}
set_option maxHeartbeats 2000000 in
theorem abr {f fn fc fs:FuncId} (h:Has P f (lU fn fc fs)) (ls:List (List FX)) (a:Nat) (o:OX) {l:List FX} (ha:ls[a]? = some l) (xL:ls.length<=1000)
   (hn:VP P G fn [bl ls a] (dm l)) (hc:o.kind%7<5->VP P G fc [dm l,o.av] (.tup [dm (b9 l o).1, .int .i64 (b9 l o).2]))
   (hs:o.kind%7<5->(b9 l o).2=0->VP P G fs [dm (b9 l o).1,dm l] (.bool (gY (b9 l o).1 l))) :
   VP P G f [bl ls a,o.av] (.tup [bl (vv ls a o).1 (vv ls a o).2.1, .int .i64 (vv ls a o).2.2.1, .bool (vv ls a o).2.2.2]):=by
 have halt:a<ls.length:=(List.getElem?_eq_some_iff.1 ha).1
 have DX:ls.getD a []=l:=by rw [List.getD_eq_getElem?_getD,ha];rfl
 have hk7:o.kind%7<7:=Nat.mod_lt _ (by decide)
 have hr:bo .rem .int (.int .u8 (o.kind:Int)) (.int .u8 7)=some (.int .u8 ((o.kind%7:Nat):Int)):=AR _
 have eD:([0]:List Nat)≠[1]:=by decide
 have mP:([0]:List Nat)≠[2]:=by decide
 have nV:([1]:List Nat)≠[2]:=by decide
 have mc:∀ (x:AV),∀ b:Nat,(AV.agg [x, .int .i64 (b:Int)]).size=2:=fun _ _=>rfl
 unfold vv
 refine VP.has h ?_
 simp only [lU,SS,Nat.reduceAdd,AX,OX.one,K5,ai nV,ae,OX.p0,hr]
 by_cases h5:o.kind%7=5
 . rw [if_pos h5,ao (by omega:((o.kind%7:Nat):Int)=5)]
   simp only [SS,Nat.reduceAdd,ai eD,ai mP,ae,ko]
   by_cases h0:a=0
   . rw [if_pos h0,ao (by omega:(a:Int)=0)]
     simp only [SS,Nat.reduceAdd,ai eD,ai mP,ae,ku]
     rw [show bl ls a = .agg [qp ls, .int .i64 (a:Int)] from rfl,jI (k:=(AV.agg [.nils, .int .i64 0]).size) rfl rfl (by simp [aa.put])]
     simp only [SS,Nat.reduceAdd]
     refine ag▸ab ?_ (af.tup (by intro c hc;simp at hc;rcases hc with rfl | rfl | rfl;exact lB ls a;exact af.int _ _;exact af.bool _))
     simp only [RS,bR,cv,ae,lC]
   . rw [if_neg h0,ak (by omega : ¬ (a:Int)=0)]
     simp only [SS,Nat.reduceAdd,ai eD,ai mP,ae,ko,wR h0 (by omega:a<=1000000)]
     rw [fJ (x:=bl ls a) (y:=bl ls (a-1)) (k:=(bl ls a).size) (by simp [aa.put]) rfl rfl (by rw [bl,mc];omega) rfl]
     simp only [SS,Nat.reduceAdd,ae,ku]
     rw [show bl ls (a-1) = .agg [qp ls, .int .i64 ((a-1:Nat):Int)] from rfl,jI (k:=(AV.agg [.nils, .int .i64 0]).size) rfl rfl (by simp [aa.put])]
     simp only [SS,Nat.reduceAdd]
     refine ag▸ab ?_ (af.tup (by intro c hc;simp at hc;rcases hc with rfl | rfl | rfl;exact lB ls _;exact af.int _ _;exact af.bool _))
     simp only [RS,bR,cv,ae,lC]
 rw [if_neg h5,ak (by omega : ¬ ((o.kind%7:Nat):Int)=5)]
 simp only [SS,Nat.reduceAdd,ai nV,ae,OX.p0,hr]
 by_cases h6:o.kind%7=6
 . rw [if_pos h6,ao (by omega:((o.kind%7:Nat):Int)=6)]
   simp only [SS,Nat.reduceAdd,ai eD,ai mP,ae,ko,ta,Jl,wR (show ls.length≠0 by omega) (by omega:ls.length<=1000000)]
   by_cases h0:a+1=ls.length
   . rw [if_pos h0,ao (by omega:(a:Int)=((ls.length-1:Nat):Int))]
     simp only [SS,Nat.reduceAdd,ai eD,ai mP,ae,ku]
     rw [show bl ls a = .agg [qp ls, .int .i64 (a:Int)] from rfl,jI (k:=(AV.agg [.nils, .int .i64 0]).size) rfl rfl (by simp [aa.put])]
     simp only [SS,Nat.reduceAdd]
     refine ag▸ab ?_ (af.tup (by intro c hc;simp at hc;rcases hc with rfl | rfl | rfl;exact lB ls a;exact af.int _ _;exact af.bool _))
     simp only [RS,bR,cv,ae,lC]
   . rw [if_neg h0,ak (by omega : ¬ (a:Int)=((ls.length-1:Nat):Int))]
     simp only [SS,Nat.reduceAdd,ai eD,ai mP,ae,ko,aq a (by omega)]
     rw [fJ (x:=bl ls a) (y:=bl ls (a+1)) (k:=(bl ls a).size) (by simp [aa.put]) rfl rfl (by rw [bl,mc];omega) rfl]
     simp only [SS,Nat.reduceAdd,ae,ku]
     rw [show bl ls (a+1) = .agg [qp ls, .int .i64 ((a+1:Nat):Int)] from rfl,jI (k:=(AV.agg [.nils, .int .i64 0]).size) rfl rfl (by simp [aa.put])]
     simp only [SS,Nat.reduceAdd]
     refine ag▸ab ?_ (af.tup (by intro c hc;simp at hc;rcases hc with rfl | rfl | rfl;exact lB ls _;exact af.int _ _;exact af.bool _))
     simp only [RS,bR,cv,ae,lC]
 rw [if_neg h6,ak (by omega : ¬ ((o.kind%7:Nat):Int)=6),DX]
 have hcc:=hc (by omega)
 have Wq:=hs (by omega)
 have hmp:=lB ls a
 generalize b9 l o=c at *
 obtain ⟨m,e⟩:=c
 simp only [] at hcc Wq ⊢
 simp only [SS,DD,Nat.reduceAdd,ai eD,ai mP,ae,ku]
 refine ax hn (by simp [hmp]) ?_
 simp only [SS,DD,Nat.reduceAdd,ai nV,ae,OX.whole]
 refine ax hcc (by simp [du,OX.pure]) ?_
 simp only [SS,DD,Nat.reduceAdd]
 refine ⟨by simp [ar,apart], ?_⟩
 by_cases he:e=0
 case neg =>
   rw [if_pos (.inl he)]
   simp only [SS,Nat.reduceAdd,ao he,ai mP,ai eD,ae,ku]
   rw [show bl ls a = .agg [qp ls, .int .i64 (a:Int)] from rfl,jI (k:=(AV.agg [.nils, .int .i64 0]).size) rfl rfl (by simp [aa.put])]
   simp only [SS,Nat.reduceAdd]
   refine ag▸ab ?_ (af.tup (by intro c hc;simp at hc;rcases hc with rfl | rfl | rfl;exact lB ls a;exact af.int _ _;exact af.bool _))
   simp only [RS,bR,cv,ae,lC]
 subst he
 have d0:decide ((0:Int)≠0)=false:=rfl
 simp only [SS,Nat.reduceAdd,d0,ai mP,ai eD,ae,ku]
 refine aj hn (by simp [hmp]) ?_
 simp only [SS,Nat.reduceAdd]
 refine aj (Wq rfl) (by simp [du]) ?_
 cases heq:gY m l
 case true =>
   rw [if_pos (.inr rfl)]
   simp only [SS,Nat.reduceAdd,ai mP,ai eD,ae,ku]
   rw [show bl ls a = .agg [qp ls, .int .i64 (a:Int)] from rfl,jI (k:=(AV.agg [.nils, .int .i64 0]).size) rfl rfl (by simp [aa.put])]
   simp only [SS,Nat.reduceAdd]
   refine ag▸ab ?_ (af.tup (by intro c hc;simp at hc;rcases hc with rfl | rfl | rfl;exact lB ls a;exact af.int _ _;exact af.bool _))
   simp only [RS,bR,cv,ae,lC]
 rw [if_neg (by simp)]
 have Eh:(ls.take (a+1)).length=a+1:=by rw [List.length_take];omega
 have hne:ls.take (a+1)≠[]:=by intro e;rw [e] at Eh;simp at Eh
 simp only [SS,Nat.reduceAdd,abq,ai mP,ai eD,ae,ta,ko,aq a (by omega),Em (show a+1<=ls.length by omega)]
 rw [Sx hne (by omega)]
 simp only [SS,Nat.reduceAdd,Ws]
 rw [OP (ls:=ls.take (a+1)) (l:=m) (by simp [aa.put]) (by simp [aa.put]) (by omega)]
 simp only [SS,Nat.reduceAdd]
 rw [fJ (x:=bl ls a) (k:=(bl ls a).size) (by simp [aa.put]) n9 rfl (show 0+1<=2 by decide) (Jn ls a _)]
 simp only [SS,Nat.reduceAdd,ae,Bx,aq a (by omega)]
 rw [fJ (k:=(bl ls a).size) (aa.bb _ _ _) rfl rfl (show 1+1<=2 by decide) (Sy _ a (a+1))]
 simp only [SS,Nat.reduceAdd,ae,lC]
 rw [jI (k:=(AV.agg [.nils, .int .i64 0]).size) n9 rfl (by simp [aa.put])]
 simp only [SS,Nat.reduceAdd]
 refine ag▸⟨.tup [.agg [.osl [40] 1 0 (ls.take (a+1)++[m]).length false, .int .i64 ((a+1:Nat):Int)], .int .i64 0, .bool false], ?_,OR (View.agg (.cons (Fz (ls:=ls.take (a+1)++[m]) (by simp [aa.put]) (t:=false)) (.cons (View.pure (af.int _ _)) .nil)))⟩
 simp only [RS,bR,cv,ae,lC]
end
end Go.VL
end

section
set_option linter.unusedVariables false
namespace Go.VL
section
variable {P:Program} {G:Nat->Option (List AV)}
def lav (l:List bK):AV:=match l with | [] => .nils | _::_=>zr l
def Qo (ls:List (List bK)) (now:Nat):dC:=⟨[.agg [.sl 1 (ls.map lav), .int .i64 now]],2,false⟩
theorem bC {i:Id} {b:dC}:aa.of [(i,b)] i=some b:=by simp [aa.of]
end
end Go.VL
end

section
set_option linter.unusedVariables false
namespace Go.VL
def bare (s:List UInt8):bK:=⟨s,1,[],[],false⟩
section
variable {P:Program} {G:Nat->Option (List AV)}
end
end Go.VL
end

section
set_option linter.unusedVariables false
namespace Go.VL
section
variable {P:Program} {G:Nat->Option (List AV)}
structure Y4 (P:Program) (G:Nat->Option (List AV)) (f fp fv ff fc AD fs yj fq Wt:FuncId):Prop where
 app:Has P f (et fp fv ff fc AD fs yj)
 present:Has P fp bD
 valid:∀ s,bc s=true->VP P G fv [(bare s).av] (.bool true)
 find:∀ (l:List bK) (nm:List UInt8),(∀ F∈l,F.Ok)->l.length<9223372036854775807->VP P G ff [zr l, .str nm] (.int .i64 (MQ l nm))
 cloneL:Has P fc aU
 clone:∀ s,VP P G AD [(bare s).av] (bare s).av
 sat:∀ l:List bK,(∀ F∈l,∃ s,F=bare s)->l.length<9223372036854775807->VP P G fs [zr l] (.bool true)
 change:Has P yj (cH fp fq Wt)
 eqf:Has P fq aG
variable {f fp fv ff fc AD fs yj fq Wt:FuncId}
end
end Go.VL
end

section
set_option linter.unusedVariables false
set_option linter.unusedVariables false
namespace Go.VL
def xD (l:List FX) (i:Nat):Bool:=match l[i]? with
 | none=>true
 | some X=>(dX X).all fun n => !decide (dh (l.take i) n<0)
def pG (l:List FX):Bool:=(List.range l.length).all (xD l)
theorem Sz {l:List FX} {i:Nat} (hi:i<l.length) (h:xD l i=false):pG l=false:=by
 unfold pG
 rw [List.all_eq_false]
 exact ⟨i,List.mem_range.2 hi,by rw [h];decide⟩
theorem OS {l:List FX} (h:∀ i,i<l.length->xD l i=true):pG l=true:=by
 unfold pG
 rw [List.all_eq_true]
 exact fun i hi=>h i (List.mem_range.1 hi)
theorem FA (l:List FX):zr (l.map FX.eF)=dm l:=by
 simp [zr,dm,FX.av,List.map_map,Function.comp_def]
theorem K6 (l:List FX) (nm:List UInt8):MQ (l.map FX.eF) nm=dh l nm:=by
 unfold MQ dh
 rw [List.findIdx?_map];rfl
section
variable {P:Program} {G:Nat->Option (List AV)}
theorem SA {f f1 fi:FuncId} (h:Has P f (gw f1 fi)) (h1:∀ (F:bK) (nm:List UInt8),VP P G f1 [F.av, .ep [.str nm] 0] (.bool (F.name==nm)))
   (hi:Has P fi bj) {l:List FX} (hl:l.length<=1000) (hX:∀ X∈l,X.inputs.length<=1000/\X.vals.length<=1000) (nm:List UInt8):VP P G f [dm l, .str nm] (.int .i64 (dh l nm)):=by
 rw [<- FA, <- K6]
 refine UH h h1 hi (fun F hF => ?_) (by rw [List.length_map];omega) nm
 obtain ⟨X,hm,rfl⟩:=List.mem_map.1 hF
 exact FX.R6 (hX X hm).1 (hX X hm).2
set_option maxHeartbeats 1000000 in
theorem Gx {f fn ff:FuncId} (h:Has P f (fO fn ff)) (l:List FX) (hl:l.length<=1000) (hn:∀ X∈l,VP P G fn [X.av] (strs (dX X))) (yt:∀ X∈l,(dX X).length<=1000)
   (hf:∀ i nm,VP P G ff [dm (l.take i), .str nm] (.int .i64 (dh (l.take i) nm))):VP P G f [dm l] (.bool (pG l)):=by
 refine VP.has h ?_
 simp only [fO,SS,Nat.reduceAdd,mo,aD]
 refine VW.bL (α := Nat × Nat) (fun x=>⟨[dm l, .top, .top, .top, .top, .top, .top,dm l, .int .i64 (l.length:Int), .int .i64 (x.1:Int)]++List.replicate 19 .top,fun _=>none,x.2⟩)
   (fun x=>x.1<=l.length/\∀ j,j<x.1->xD l j=true) (fun x=>l.length-x.1) (0,1000) ?_ ⟨Nat.zero_le _,fun j hj=>absurd hj (Nat.not_lt_zero j)⟩ ?_
 . exact Wk.slots (by simp [Fg,List.replicate]) (by omega)
 rintro ⟨i,nn⟩ ⟨hi,cz⟩
 simp only [] at hi cz
 by_cases hlt:i<l.length
 case neg =>
   have dd:decide ((i:Int)<(l.length:Int))=false:=ak (by omega)
   simp only [SS,List.replicate,dd]
   rw [OS fun j hj=>cz j (by omega)]
   exact ag▸ab rfl (af.bool _)
 obtain ⟨X,hX⟩:∃ X,l[i]? = some X:=⟨_,List.getElem?_eq_getElem hlt⟩
 have hm:=List.mem_of_getElem? hX
 have dd:decide ((i:Int)<(l.length:Int))=true:=ao (by omega)
 have hg:(l.map FX.av)[i]? = some X.av:=by rw [List.getElem?_map,hX];rfl
 have iy:br 5 (dm l) (.int .i64 (i:Int))=some (.ep X.av.cells 0):=aQ rfl hg
 have mh:xD l i=((dX X).all fun n => !decide (dh (l.take i) n<0)):=by unfold xD;rw [hX]
 have WA:=hn X hm
 have aew:=yt X hm
 have uR:af X.av:=FX.pure X
 simp only [SS,Nat.reduceAdd,List.replicate,dd,iy,az,FX.whole,jb]
 rw [oa (k:=(AV.agg [.str [], .int .i64 0, .nils, .nils, .bool false]).size) (by simp [aa.put])]
 simp only [SS,Nat.reduceAdd,ae,FX.whole]
 refine aj WA (by simp [uR]) ?_
 simp only [SS,Nat.reduceAdd,dB,aD]
 refine VW.bL (α := Nat × Nat) (fun z=>⟨[dm l, .top, .top, .int .i64 (i:Int), .top, .top, .top,dm l, .int .i64 (l.length:Int), .int .i64 (i:Int), .top, .top, .top, .top, .top,strs (dX X), .int .i64 ((dX X).length:Int), .int .i64 (z.1:Int)]++List.replicate 11 .top,fun _=>none,z.2⟩)
   (fun z=>z.1<=(dX X).length/\∀ (j:Nat) s,j<z.1->(dX X)[j]? = some s->dh (l.take i) s<0->False) (fun z=>(dX X).length-z.1) (0,nn+1000) ?_ ⟨Nat.zero_le _,fun j s hj=>absurd hj (Nat.not_lt_zero j)⟩ ?_
 . exact Wk.forget (by simp [Fg,List.replicate]) (fun j => .inl rfl) (by omega)
 rintro ⟨k,mm⟩ ⟨hk,yr⟩
 simp only [] at hk yr
 by_cases Ib:k<(dX X).length
 . obtain ⟨s,hs⟩:∃ s,(dX X)[k]? = some s:=⟨_,List.getElem?_eq_getElem Ib⟩
   have d1:decide ((k:Int)<((dX X).length:Int))=true:=ao (by omega)
   have hgx:((dX X).map AV.str)[k]? = some (.str s):=by rw [List.getElem?_map,hs];rfl
   have mN:br 1 (strs (dX X)) (.int .i64 (k:Int))=some (.ep (AV.str s).cells 0):=aQ rfl hgx
   have Gt:part false (AV.str s).cells 0 1=some (.str s):=rfl
   simp only [SS,Nat.reduceAdd,List.replicate,d1,mN,az,Gt,pD (Nat.le_of_lt hlt)]
   refine aj (hf i s) (by simp [du,af.str]) ?_
   simp only [SS,Nat.reduceAdd]
   by_cases hp:dh (l.take i) s<0
   . rw [ao hp]
     simp only [SS]
     rw [Sz hlt (by
       rw [mh,List.all_eq_false]
       exact ⟨s,List.mem_of_getElem? hs,by rw [ao hp];decide⟩)]
     exact ag▸ab rfl (af.bool _)
   . rw [ak hp]
     simp only [SS,Nat.reduceAdd,aq k (by omega)]
     refine ⟨(k+1,mm+1000),⟨by simp only [];omega, ?_⟩,by simp only [];omega,Wk.slots (by simp [Fg]) (by omega)⟩
     intro j s' hj OL
     by_cases B4:j<k
     . exact yr j s' B4 OL
     . have:j=k:=by simp only [] at hj;omega
       subst this;rw [hs] at OL;simp only [Option.some.injEq] at OL;subst OL;exact hp
 have Yq:xD l i=true:=by
   rw [mh,List.all_eq_true]
   intro s hs
   obtain ⟨j,hj,OL⟩:=List.getElem_of_mem hs
   rw [ak (yr j s (by omega) (by rw [List.getElem?_eq_getElem hj,OL]))]
   rfl
 have d1:decide ((k:Int)<((dX X).length:Int))=false:=ak (by omega)
 have Bv:∀ j,j<i+1->xD l j=true:=fun j hj=>by
   by_cases B4:j<i
   . exact cz j B4
   . rw [show j=i from by omega];exact Yq
 simp only [SS,Nat.reduceAdd,List.replicate,d1,aq i (by omega)]
 exact ⟨(i+1,mm+1000),⟨by simp only [];omega,Bv⟩,by simp only [];omega,Wk.slots (by simp [Fg]) (by omega)⟩
end
end Go.VL
end

section
set_option linter.unusedVariables false
set_option linter.unusedVariables false
namespace Go.VL
def ga (ls:List (List FX)) (now:Nat):dC:=⟨[bl ls now],2,false⟩
theorem View.Yt {σ : aa} (k:Nat):View σ .nils (.tsl k []):=fun G own E w v hi hr=>by
 simp only [aL] at hr ⊢;exact ⟨none,hr,Nat.zero_le _,by simp, .inl trivial⟩
theorem M0 {hid:Id} {ls:List (List FX)} {now o:Nat} {σ : aa} (h : σ hid=some (ga ls now)):gh σ false 1 (.ref hid 0 o)=(part false (bl ls now).cells o 1).map fun v=>{ val:=v,rd:=[hid] }:=mG (bk:=ga ls now) h rfl
theorem Va (ls:List (List FX)) (now:Nat):flat (ga ls now).els=[qp ls, .int .i64 (now:Int)]:=rfl
section
variable {P:Program} {G:Nat->Option (List AV)}
theorem jJ {f:FuncId} (h:Has P f bD) {hid:Id} {ls:List (List FX)} {now:Nat} {l:List FX} (hl:ls[now]? = some l) (p:Id) :
   aB P G f [.ref hid 0 0] p [(hid,ga ls now)] { val:=dm l,rd:=[hid] }:=by
 refine aB.has h ?_
 have e1:∀ o,gh (aa.of [(hid,ga ls now)]) false 1 (.ref hid 0 o)=(part false (bl ls now).cells o 1).map fun v=>{ val:=v,rd:=[hid] }:=fun o=>M0 bC
 simp only [bD,SS,DD,Nat.reduceAdd,e1,ta,ko,MZ hl,az,Jm]
 refine ⟨by simp [ar], ?_⟩
 exact aV▸aA rfl fun i => .inr rfl
theorem Vb {f:FuncId} (h:Has P f lZ) (p:Id):aB P G f [] p [] { val := .ref (3::p) 0 0,up:=[(3::p,some (ga [[]] 0))] }:=by
 refine aB.has h ?_
 have hb:∀ (σ : aa) (q:Id),b8 σ q (.buildSl 1 1 .nils [(0, .nils)])=some { val := .osl q 1 0 1 false,up:=[(q,some ⟨[.nils],1,false⟩)] }:=fun σ q=>W9 rfl rfl rfl rfl
 have e:∀ q:Id,pn [.nils, .int .i64 0] [(0,(1, .osl q 1 0 1 false))]=some [.osl q 1 0 1 false, .int .i64 0]:=fun q=>rfl
 have z1:∀ q:Id,(AV.cells (.agg [.osl q 1 0 1 false, .int .i64 0])).all AV.one=true:=fun q=>rfl
 simp only [lZ,SS,Nat.reduceAdd,hb,e,z1]
 refine aV▸⟨_,rfl,Fin.rq [(1::p,⟨[.nils],1,false⟩)] ?_ (kN.same _ _) ?_⟩
 . intro x hx;simp only [List.mem_singleton] at hx;subst hx;simp [aa.put]
 . intro i
   by_cases hi:i=3::p
   . subst hi
     refine .inr ⟨⟨[.agg [.osl (1::p) 1 0 1 false, .int .i64 0]],2,false⟩,ga [[]] 0,by simp [aa.put,AV.size,AV.cells],by simp [aa.app,aa.put],rfl, .inl rfl, ?_,rfl, ?_, ?_⟩
     . intro _ x hx;simp only [List.mem_singleton] at hx;subst hx;simp
     . intro e he;simp [ga] at he;subst he;rfl
     . refine ⟨kN.view ?_,kN.same _ _,trivial⟩
       exact View.osl (bk:=⟨[.nils],1,false⟩) bC rfl (Nat.le_refl _) (aW.cons (View.nils 5) .nil) rfl (by simp;rfl)
   . left;simp [aa.app,aa.put,hi,aa.of]
theorem tc {f:FuncId} (h:Has P f aU):VP P G f [dm []] (.tsl 5 []):=by
 refine VP.has h ?_
 simp only [aU,dm,List.map_nil,SS,Nat.reduceAdd,Je,eX (eW (k:=5) (es:=[]))]
 exact ⟨ag▸⟨.nils,rfl,View.Yt 5⟩,ag▸⟨_,rfl,View.pure (af.tsl (by simp [flat]))⟩⟩
theorem td {f:FuncId} (h:Has P f aU) {l:List FX} (hne:l≠[]) (hl:l.length<=1000) (p:Id) :
   aB P G f [dm l] p [] { val := .osl (5::p) 5 0 l.length false,rd:=[],up:=[(5::p,some ⟨l.map FX.av,5,false⟩)] }:=by
 have:=Oz (G:=G) h (l:=l.map FX.eF) (by simpa using hne) (by simp;omega) p
 rw [FA,List.length_map,List.map_map] at this
 exact this
theorem Jo {f fp fq fs:FuncId} (h:Has P f (cH fp fq fs)) (hp:Has P fp bD) {hid:Id} {ls:List (List FX)} {now:Nat} {l:List FX} (hl:ls[now]? = some l)
   (hq:VP P G fq [dm l,dm l, .fn (.func fs) [] []] (.bool true)) (p:Id):aB P G f [.ref hid 0 0,dm l] p [(hid,ga ls now)] { val := .int .i64 0,rd:=[hid] }:=by
 refine aB.has h ?_
 simp only [cH,SS,Nat.reduceAdd]
 refine ⟨_,_,jJ hp hl _,by simp [bC],by simp, ?_⟩
 simp only [SS,Nat.reduceAdd]
 refine aj hq (by intro x hx;simp at hx;rcases hx with rfl | rfl;exact du l;exact af.fn (by simp) (by simp)) ?_
 simp only [SS,Nat.reduceAdd]
 exact aV▸aA rfl fun i => .inr rfl
theorem K7 {f fp fq fs:FuncId} (h:Has P f (cH fp fq fs)) (hp:Has P fp bD) {hid:Id} {ls:List (List FX)} {now:Nat} {l l':List FX} (hl:ls[now]? = some l) (xL:ls.length<=1000)
   (hq:VP P G fq [dm l',dm l, .fn (.func fs) [] []] (.bool false)) (p:Id) (qK:∀ q,q::p≠hid) :
   aB P G f [.ref hid 0 0,dm l'] p [(hid,ga ls now)] { val := .int .i64 0,rd:=[hid],up:=[(hid,some (ga (ls.take (now+1)++[l']) (now+1)))] }:=by
 refine aB.has h ?_
 have hlt:=(List.getElem?_eq_some_iff.1 hl).1
 have e1:∀ o,gh (aa.of [(hid,ga ls now)]) false 1 (.ref hid 0 o)=(part false (bl ls now).cells o 1).map fun v=>{ val:=v,rd:=[hid] }:=fun o=>M0 bC
 have w1:=aq now (by omega)
 have Co:bT 1 (qp ls) none (some (.int .i64 ((now+1:Nat):Int))) (some (.int .i64 ((now+1:Nat):Int)))=some (.tsl 1 ((ls.take (now+1)).map dm)):=by
   have hle:now+1<=ls.length:=hlt
   have Xx:(now:Int)+1<=ls.length:=by omega
   have h0:(0:Int)<=(now:Int)+1:=by omega
   have ht:((now:Int)+1).toNat=now+1:=by omega
   simp [bT,cJ,dV,tp,Xx,h0,ht,List.map_take,qp]
 simp only [cH,SS,Nat.reduceAdd]
 refine ⟨_,_,jJ hp hl _,by simp [bC],by simp, ?_⟩
 simp only [SS,Nat.reduceAdd]
 refine aj hq (by intro x hx;simp at hx;rcases hx with rfl | rfl | rfl;exact du l';exact du l;exact af.fn (by simp) (by simp)) ?_
 simp only [SS,DD,Nat.reduceAdd,e1,ta,ko,w1,Co,Ws]
 have mO:(((ls.take (now+1)).map dm++[dm l']).all fun e=>e.cells.all AV.one)=true:=by
   rw [List.all_append,DK];rfl
 have hlen:(((ls.take (now+1)).map dm).length+[dm l'].length)=now+2:=by simp;omega
 have zO:=gS (σ := (aa.of [(hid,ga ls now)]).put (23::p) (some ⟨[dm l'],1,false⟩)) (p:=24::p) (k:=1) (bytes:=24) (x := .osl (23::p) 1 0 1 false) (es:=(ls.take (now+1)).map dm) (ys:=[dm l']) (rd:=[23::p])
   (by simp [dA,aa.put]) (by simp) (by rw [hlen];omega) (by rw [hlen];exact cK (by omega)) mO
 rw [hlen] at zO
 have hst:=cA (σ := ((aa.of [(hid,ga ls now)]).put (23::p) (some ⟨[dm l'],1,false⟩)).put (24::p) (some ⟨(ls.take (now+1)).map dm++[dm l'],1,false⟩)) (id:=hid) (els:=[bl ls now]) (k:=2) (n:=1) (e:=0) (o:=0)
   (el:=bl ls now) (v := .osl (24::p) 1 0 (now+2) false) (by simp [aa.put,(qK 23).symm,(qK 24).symm,aa.of,ga]) rfl rfl (by simp [bl,AV.size,AV.cells]) rfl
 simp only [zO,SS,DD,Nat.reduceAdd,hst]
 refine ⟨?_, ?_⟩
 . have n23:=qK 23
   simp [ar,apart,n23]
 simp only [SS,Nat.reduceAdd,n9,Jn,ae,Bx,w1]
 have aex:∀ σ : aa,eK (σ.put hid (some ⟨[.agg [.osl (24::p) 1 0 (now+2) false, .int .i64 now]],2,false⟩)) 1 (.ref hid 0 1) (.int .i64 ((now+1:Nat):Int))=some { val := .tup [],rd:=[hid],up:=[(hid,some ⟨[.agg [.osl (24::p) 1 0 (now+2) false, .int .i64 ((now+1:Nat):Int)]],2,false⟩)] }:=by
   intro σ
   rw [cA (n:=1) (v := .int .i64 ((now+1:Nat):Int)) (els:=[.agg [.osl (24::p) 1 0 (now+2) false, .int .i64 now]]) (k:=2) (aa.bb _ _ _) rfl rfl (by simp [AV.size,AV.cells]) rfl]
   rfl
 simp only [SS,Nat.reduceAdd,aex]
 refine aV▸⟨_,rfl,Fin.rq [(24::p,⟨(ls.take (now+1)).map dm++[dm l'],1,false⟩)] ?_ (kN.same _ _) ?_⟩
 . intro x hx;simp only [List.mem_singleton] at hx;subst hx;simp [aa.put,qK 24]
 . intro i
   by_cases hi:i=hid
   . subst hi
     refine .inr ⟨⟨[.agg [.osl (24::p) 1 0 (now+2) false, .int .i64 ((now+1:Nat):Int)]],2,false⟩,ga (ls.take (now+1)++[l']) (now+1),by simp [aa.put],by simp [aa.app,aa.put],rfl, .inl rfl, ?_,rfl, ?_, ?_⟩
     . intro _ x hx;simp only [List.mem_singleton] at hx;subst hx;exact qK 24
     . intro e he;simp [ga] at he;subst he;rfl
     . have hm:(ls.take (now+1)).map dm++[dm l']=(ls.take (now+1)++[l']).map dm:=by simp
       have hn:(ls.take (now+1)++[l']).length=now+2:=by simp;omega
       rw [Va,hm, <- hn]
       exact ⟨kN.view (Fz bC),kN.same _ _,trivial⟩
   . left;simp [aa.app,aa.put,hi,aa.of]
end
end Go.VL
end

section
set_option linter.unusedVariables false
set_option linter.unusedVariables false
namespace Go.VL
noncomputable def DL (hid:Id) (ls:List (List FX)) (now:Nat) (l m:List FX):List (Id × Option dC):=if gY m l=true then [] else [(hid,some (ga (ls.take (now+1)++[m]) (now+1)))]
theorem qq {hid:Id} {ls:List (List FX)} {now:Nat} {l m:List FX}:∀ x∈DL hid ls now l m,x.1=hid:=by
 intro x hx
 unfold DL at hx
 split at hx
 . simp at hx
 . simp at hx;rw [hx]
theorem Kc {σ τ : aa} {i:Id} (h : σ i = τ i):∀ up:List (Id × Option dC),(σ.app up) i=(τ.app up) i:=by
 intro up
 induction up generalizing σ τ with
 | nil=>exact h
 | cons x up ih =>
   refine ih ?_
   by_cases e:i=x.1
   . subst e;rw [aa.bb,aa.bb]
   . rw [aa.bd _ _ _ e,aa.bd _ _ _ e,h]
theorem M1 {σ : aa} {i:Id}:∀ up:List (Id × Option dC),(∀ x∈up,x.1≠i)->(σ.app up) i = σ i:=by
 intro up
 induction up generalizing σ with
 | nil=>intro _;rfl
 | cons x up ih =>
   intro h
   refine (ih fun y hy=>h y (List.mem_cons_of_mem _ hy)).trans ?_
   exact aa.bd _ _ _ (h x List.mem_cons_self).symm
theorem gb {hid:Id} {b:dC} {σ : aa} {up:List (Id × Option dC)} (hup:∀ x∈up,x.1=hid) (hσ : σ hid=some b) (i:Id):(aa.of [(hid,b)]).app up i=none∨(aa.of [(hid,b)]).app up i=(σ.app up) i:=by
 by_cases e:i=hid
 . subst e;right;exact Kc (by rw [hσ,bC]) up
 . left
   rw [M1 up fun x hx he=>e ((hup x hx)▸he).symm]
   simp [aa.of,e]
section
variable {P:Program} {G:Nat->Option (List AV)} {π : Id} {base:Nat} {Q:cD->VS->Prop} {n:Nat} {d:Option Nat} {os:List bp} {i:Nat} {t:List AV} {σ : aa}
theorem kv {yj:FuncId} {hid id:Id} {ls:List (List FX)} {now:Nat} {x:AV} {m:List FX} {bk:dC} {up:List (Id × Option dC)} (h:aB P G yj [.ref hid 0 0,dm m] ((base+i) :: π) [(hid,ga ls now)] { val := .int .i64 0,rd:=[hid],up:=up })
   (hv:View (aa.of [(id,bk)]) x (dm m)) (hne:id≠hid) (hsz:∀ e∈bk.els,e.size=bk.k) (h1 : σ id=some bk) (h2 : σ hid=some (ga ls now)) (k:vs P G π base Q n os (i+1) (fG t d (.int .i64 0)) ((σ.app (rq [(id,bk)])).app up)) :
   pO P G π base Q n d os i t σ yj [.ref hid 0 0,x]:=by
 refine ⟨[(id,bk)]++[(hid,ga ls now)],_,aB.T3 (args:=[.ref hid 0 0,x]) [(id,bk)] h ⟨kN.same _ _,kN.view hv,trivial⟩ ?_ ?_, ?_, ?_, ?_⟩
 . intro y hy z hz;simp only [List.mem_singleton] at hy hz;subst hy hz;exact hne
 . intro y hy;simp only [List.mem_singleton] at hy;subst hy;exact hsz
 . intro y hy
   simp only [List.mem_append,List.mem_singleton] at hy
   rcases hy with rfl | rfl
   . exact h1
   . exact h2
 . intro y hy
   simp only [List.mem_append,List.mem_singleton] at hy
   rcases hy with rfl | rfl<;>simp
 . rw [tC];exact k
end
structure HH (P:Program) (G:Nat->Option (List AV)) (bh:FX->Prop) (fp fv ff fc AD fs yj:FuncId):Prop where
 present:Has P fp bD
 valid:∀ X,bh X->VP P G fv [X.av] (.bool X.valid)
 find:∀ (l:List FX) (nm:List UInt8),l.length<=1000->(∀ X∈l,bh X)->VP P G ff [dm l, .str nm] (.int .i64 (dh l nm))
 cloneL:Has P fc aU
 clone:∀ X,bh X->VP P G AD [X.av] X.av
 sat:∀ l:List FX,l.length<=1000->(∀ X∈l,bh X)->VP P G fs [dm l] (.bool (pG l))
 change:∀ (hid:Id) (ls:List (List FX)) (now:Nat) (l m:List FX) (p:Id),ls[now]? = some l->ls.length<=1000->l.length<=1000->m.length<=1000->(∀ X∈l,bh X)->(∀ X∈m,bh X)->(∀ q,q::p≠hid) ->
   aB P G yj [.ref hid 0 0,dm m] p [(hid,ga ls now)] { val := .int .i64 0,rd:=[hid],up:=DL hid ls now l m }
noncomputable def Jp (hid:Id) (ls:List (List FX)) (now:Nat) (l:List FX) (X:FX):Int × List (Id × Option dC) :=
 if X.valid=false then (1,[]) else if l.length=200 then (3,[]) else if 0<=dh l X.name then (5,[]) else if pG (l++[X])=true then (0,DL hid ls now l (l++[X])) else (4,[])
theorem wS {l:List FX}:∀ e∈l.map FX.av,e.size=5:=by intro e he;obtain ⟨X,_,rfl⟩:=List.mem_map.1 he;rfl
section
variable {P:Program} {G:Nat->Option (List AV)} {bh:FX->Prop} {f fp fv ff fc AD fs yj:FuncId}
set_option maxHeartbeats 4000000 in
theorem K8 (h:Has P f (et fp fv ff fc AD fs yj)) (H:HH P G bh fp fv ff fc AD fs yj) {hid:Id} {ls:List (List FX)} {now:Nat} {l:List FX} (hl:ls[now]? = some l) (xL:ls.length<=1000)
   (hlen:l.length<=200) (hg:∀ X∈l,bh X) (X:FX) (hX:bh X) (p:Id) (qK : ¬ p <:+ hid) :
   aB P G f [.ref hid 0 0,X.av] p [(hid,ga ls now)] { val := .int .i64 (Jp hid ls now l X).1,rd:=[hid],up:=(Jp hid ls now l X).2 }:=by
 unfold Jp
 have hne:∀ q:Id,q++p≠hid:=fun q e=>qK ⟨q,e⟩
 have n0:(0::p)≠hid:=hne [0]
 have n23:(23::p)≠hid:=hne [23]
 have n24:(24::p)≠hid:=hne [24]
 have Yu:(5::20::p)≠hid:=hne [5,20]
 have n05:(0::p)≠5::20::p:=by simp
 have Wu:af X.av:=FX.pure X
 have GN:∀ Y∈l++[X],bh Y:=by
   intro Y hY
   rcases List.mem_append.1 hY with h1 | h1
   . exact hg Y h1
   . rw [List.mem_singleton] at h1;subst h1;exact hX
 have hL:(l++[X]).length<=1000:=by simp;omega
 refine aB.has h ?_
 simp only [et,SS,Nat.reduceAdd,FX.one]
 refine ⟨[(hid,ga ls now)],_,jJ H.present hl _,by simp [aa.put,n0.symm,bC],by simp, ?_⟩
 simp only [SS,Nat.reduceAdd,ae,FX.whole]
 refine aj (H.valid X hX) (by simp [Wu]) ?_
 cases hval:X.valid
 . rw [if_pos rfl]
   simp only [SS,Nat.reduceAdd]
   exact aV▸aA rfl (gb (up:=[]) (by simp) (by simp [aa.put,n0.symm,bC]))
 rw [if_neg (by decide)]
 simp only [SS,Nat.reduceAdd,mo]
 by_cases h2:l.length=200
 . rw [if_pos h2,ao (by omega:(l.length:Int)=200)]
   simp only [SS,Nat.reduceAdd]
   exact aV▸aA rfl (gb (up:=[]) (by simp) (by simp [aa.put,n0.symm,bC]))
 rw [if_neg h2,ak (by omega : ¬ (l.length:Int)=200)]
 simp only [SS,Nat.reduceAdd,ae,FX.c0]
 refine aj (H.find l X.name (by omega) hg) (by simp [du,af.str]) ?_
 simp only [SS,Nat.reduceAdd]
 by_cases h3:0<=dh l X.name
 . rw [if_pos h3,ao h3]
   simp only [SS,Nat.reduceAdd]
   exact aV▸aA rfl (gb (up:=[]) (by simp) (by simp [aa.put,n0.symm,bC]))
 rw [if_neg h3,ak h3]
 simp only [SS,DD,Nat.reduceAdd]
 by_cases h0:l=[]
 . subst h0
   refine ax (tc H.cloneL) (by simp [du]) ?_
   simp only [SS,DD,Nat.reduceAdd,ae,FX.whole]
   refine ax (H.clone X hX) (by simp [Wu]) ?_
   simp only [SS,DD,Nat.reduceAdd,xC]
   rw [q9,zC (X:=X) (by simp [aa.put]) (by simp)]
   simp only [SS,DD,Nat.reduceAdd]
   refine ⟨by simp [ar,apart], ?_⟩
   rw [List.nil_append] at GN hL
   refine eG (H.sat [X] hL GN) (b7.bool _) (by simp [aa.put]) ?_
   cases hB:pG [X]
   . simp only [SS,Nat.reduceAdd]
     exact aV▸aA rfl (gb (up:=[]) (by simp) (by simp [aa.put,n0.symm,n23.symm,n24.symm,bC]))
   . simp only [SS,Nat.reduceAdd]
     refine kv (id:=24::p) (bk:=⟨[X].map FX.av,5,false⟩) (H.change hid ls now [] [X] _ hl xL (by simp) hL hg GN (fun q=>hne [q,_])) (dU (l:=[X]) (by simp [aa.of])) n24 wS (by simp [aa.put]) (by simp [aa.put,n0.symm,n23.symm,n24.symm,bC]) ?_
     simp only [SS,Nat.reduceAdd]
     exact aV▸aA rfl (gb qq (by simp [aa.put,aa.app,rq,n0.symm,n23.symm,n24.symm,bC]))
 . refine ⟨[],_,td H.cloneL h0 (by omega) _,by simp,by simp, ?_⟩
   simp only [SS,DD,Nat.reduceAdd]
   rw [ai n05,ae,FX.whole]
   simp only [SS,DD,Nat.reduceAdd]
   refine ax (H.clone X hX) (by simp [Wu]) ?_
   simp only [SS,DD,Nat.reduceAdd,xC]
   rw [wC (l:=l) (X:=X) (by simp [aa.put]) (by simp [aa.put]) (by omega)]
   simp only [SS,DD,Nat.reduceAdd]
   refine ⟨by simp [ar,apart], ?_⟩
   refine eG (H.sat _ hL GN) (b7.bool _) (by simp [aa.put]) ?_
   cases hB:pG (l++[X])
   . simp only [SS,Nat.reduceAdd]
     exact aV▸aA rfl (gb (up:=[]) (by simp) (by simp [aa.put,n0.symm,n23.symm,n24.symm,Yu.symm,bC]))
   . simp only [SS,Nat.reduceAdd]
     refine kv (id:=24::p) (bk:=⟨(l++[X]).map FX.av,5,false⟩) (H.change hid ls now l (l++[X]) _ hl xL (by omega) hL hg GN (fun q=>hne [q,_])) (dU (l:=l++[X]) (by simp [aa.of])) n24 wS (by simp [aa.put]) (by simp [aa.put,n0.symm,n23.symm,n24.symm,Yu.symm,bC]) ?_
     simp only [SS,Nat.reduceAdd]
     exact aV▸aA rfl (gb qq (by simp [aa.put,aa.app,rq,n0.symm,n23.symm,n24.symm,Yu.symm,bC]))
end
end Go.VL
end
