/- For the claim of HistoryNoAliasing: parts CG2, CG3, CG4, CG5, CG6, CG7, CG8, CG9, CG10, CG11, CG12, CH5, CG13, CG14, CG15, CG16, PLX, CG17, CG19, CG18, PLY. -/
import Derived.Test.YtcomlgfjnjpebaaGreatDoorC08
set_option linter.unusedSimpArgs false
set_option linter.unusedVariables false
set_option maxRecDepth 100000
namespace Go.VL
theorem kE {α β : Type} (a a' : α) (b b' : β):gJ (a,b) (a',b')=(gJ a a'&&gJ b b'):=by
 by_cases ha:a=a'
 . by_cases hb:b=b'
   . rw [bI ha,bI hb,bI (by rw [ha,hb])];rfl
   . rw [bI ha,aZ hb,aZ (fun e=>hb (Prod.mk.inj e).2)];rfl
 . rw [aZ ha,aZ (fun e=>ha (Prod.mk.inj e).1)];rfl
theorem zl {α β : Type} {a a' : α} {b b' : β} (h:a=a'↔b=b'):gJ a a'=gJ b b':=by
 by_cases hb:b=b'
 . rw [bI hb,bI (h.2 hb)]
 . rw [aZ hb,aZ (fun e=>hb (h.1 e))]
section
variable (op:Int) (n1:Bool) (w1:List Nat) (n2:Bool) (w2:List Nat) (nm:List UInt8) (args:List EX)
theorem EX.q12:part true (EX.mk op n1 w1 n2 w2 nm args).av.cells 1 2=some (IR n1 w1):=by rw [EX.av];rfl
theorem EX.q34:part true (EX.mk op n1 w1 n2 w2 nm args).av.cells 3 2=some (IR n2 w2):=by rw [EX.av];rfl
theorem Yu:part true (RR n1 w1 n2 w2).cells 0 2=some (IR n1 w1):=rfl
theorem Yv:part true (RR n1 w1 n2 w2).cells 2 2=some (IR n2 w2):=rfl
variable (FQ:Int) (Cq:Bool) (A3:List Nat) (Cr:Bool) (A4:List Nat) (PH:List UInt8) (eD:List EX)
theorem EX.Gn:gJ (EX.mk op n1 w1 n2 w2 nm args) (EX.mk FQ Cq A3 Cr A4 PH eD)=(gJ op FQ&&gJ nm PH&&gJ (n1,w1) (Cq,A3)&&gJ (n2,w2) (Cr,A4)&&gJ args eD):=by
 rw [<- kE, <- kE, <- kE, <- kE]
 refine zl ⟨fun e => ?_,fun e => ?_⟩
 . cases e;rfl
 . simp only [Prod.mk.injEq] at e
   obtain ⟨⟨⟨⟨rfl,rfl⟩,rfl,rfl⟩,rfl,rfl⟩,rfl⟩:=e
   rfl
end
section
variable {P:Program} {G:Nat->Option (List AV)}
theorem R6 {f fi fq:FuncId} (h:Has P f (ng fi fq f)) (hi:∀ b b' ws MZ,ws.length<=9223372036854775807->MZ.length<=9223372036854775807->VP P G fi [IR b ws,IR b' MZ] (.bool (gJ (b,ws) (b',MZ))))
   (hq:Has P fq aM):∀ e:EX,e.Ok->∀ e':EX,e'.Ok->VP P G f [e.av,e'.av] (.bool (gJ e e')):=EX.induct fun op n1 w1 n2 w2 nm args ih dI e' KZ=>by
 cases e' with
 | mk FQ Cq A3 Cr A4 PH eD =>
 have RA:=EX.pB dI
 have Yw:=EX.pB KZ
 rw [EX.Ok] at dI KZ
 obtain ⟨_,_,_,_,lF,sD,_,WH,_⟩:=dI
 obtain ⟨_,_,_,_,Yx,Yy,_,abH,_⟩:=KZ
 have lG:([0]:List Nat)≠[1]:=by decide
 have Yz:=cQ (G:=G) hq EX.av EX.size EX.pure (fun x=>of_eq_true (EX.one x)) EX.all EX.upd args eD WH abH (fun x hx y hy=>ih x hx (RA x hx) y (Yw y hy))
 rw [<- EX.bY, <- EX.bY] at Yz
 have TF:=hi n1 Cq w1 A3 lF Yx
 have DU:=hi n2 Cr w2 A4 sD Yy
 rw [EX.Gn]
 generalize gJ (n1,w1) (Cq,A3)=b1 at TF ⊢
 generalize gJ (n2,w2) (Cr,A4)=b2 at DU ⊢
 generalize gJ args eD=b3 at Yz ⊢
 have d0:=eq_int op FQ
 have d1:=RY nm PH
 generalize gJ op FQ=a0 at d0 ⊢
 generalize gJ nm PH=a1 at d1 ⊢
 refine VP.has h ?_
 simp only [ng,SS,Nat.reduceAdd,EX.one,ay lG,ak,EX.q0,d0]
 cases a0
 . simp only [SS,Nat.reduceAdd,Bool.false_and]
   exact ah▸ae rfl (af.bool _)
 simp only [SS,Nat.reduceAdd,ay lG,ak,EX.q5,d1]
 cases a1
 . simp only [SS,Nat.reduceAdd,Bool.false_and,Bool.true_and]
   exact ah▸ae rfl (af.bool _)
 simp only [SS,Nat.reduceAdd,ay lG,ak,EX.q12]
 refine aj TF (by simp [uG]) ?_
 cases b1
 . simp only [SS,Nat.reduceAdd,Bool.false_and,Bool.true_and]
   exact ah▸ae rfl (af.bool _)
 simp only [SS,Nat.reduceAdd,ay lG,ak,EX.q34]
 refine aj DU (by simp [uG]) ?_
 cases b2
 . simp only [SS,Nat.reduceAdd,Bool.false_and,Bool.true_and]
   exact ah▸ae rfl (af.bool _)
 simp only [SS,Nat.reduceAdd,ay lG,ak,EX.q6]
 refine aj Yz (by simp [EX.fQ,tY]) ?_
 simp only [SS,Nat.reduceAdd,Bool.true_and]
 exact ah▸ae rfl (af.bool _)
theorem R7 {f fs fq fe:FuncId} (h:Has P f (og fs fq fe)) (hs:∀ l m:List (List UInt8),l.length<=9223372036854775807->m.length<=9223372036854775807->VP P G fs [strs l,strs m] (.bool (gJ l m)))
   (hq:Has P fq aM) (he:∀ e:EX,e.Ok->∀ e':EX,e'.Ok->VP P G fe [e.av,e'.av] (.bool (gJ e e'))) (X Y:FX) (hX:X.Ok) (hY:Y.Ok):VP P G f [X.eG.av,Y.eG.av] (.bool (gJ X Y)):=by
 have lG:([0]:List Nat)≠[1]:=by decide
 have Yz:=cQ (G:=G) hq EX.av EX.size EX.pure (fun x=>of_eq_true (EX.one x)) EX.all EX.upd X.vals Y.vals hX.vl hY.vl (fun x hx y hy=>he x (hX.vals x hx) y (hY.vals y hy))
 rw [<- EX.bY, <- EX.bY] at Yz
 have hss:=hs X.inputs Y.inputs hX.ins hY.ins
 have e:gJ X Y=(gJ X.name Y.name&&gJ X.kind Y.kind&&gJ X.supp Y.supp&&gJ X.inputs Y.inputs&&gJ X.vals Y.vals):=by
   rw [<- kE, <- kE, <- kE, <- kE]
   refine zl ⟨fun e=>by rw [e],fun e => ?_⟩
   simp only [Prod.mk.injEq] at e
   cases X;cases Y
   obtain ⟨⟨⟨⟨h1,h2⟩,h3⟩,h4⟩,h5⟩:=e
   simp only at h1 h2 h3 h4 h5
   rw [h1,h2,h3,h4,h5]
 have p0:∀ Z:FX,part false Z.eG.av.cells 0 1=some (.str Z.name):=fun Z=>rfl
 have p1:∀ Z:FX,part false Z.eG.av.cells 1 1=some (.int .i64 Z.kind):=fun Z=>rfl
 have p2:∀ Z:FX,part false Z.eG.av.cells 2 1=some (strs Z.inputs):=fun Z=>rfl
 have p3:∀ Z:FX,part false Z.eG.av.cells 3 1=some (.sl 7 (EX.dy Z.vals)):=fun Z=>rfl
 have p4:∀ Z:FX,part false Z.eG.av.cells 4 1=some (.bool Z.supp):=fun Z=>rfl
 have d0:=RY X.name Y.name
 have d1:=eq_int X.kind Y.kind
 have d2:=MY X.supp Y.supp
 rw [e]
 generalize gJ X.name Y.name=a0 at d0 ⊢
 generalize gJ X.kind Y.kind=a1 at d1 ⊢
 generalize gJ X.supp Y.supp=a2 at d2 ⊢
 generalize gJ X.inputs Y.inputs=b1 at hss ⊢
 generalize gJ X.vals Y.vals=b2 at Yz ⊢
 refine VP.has h ?_
 simp only [og,SS,Nat.reduceAdd,bK.one,ay lG,ak,p0,d0]
 cases a0
 . simp only [SS,Nat.reduceAdd,Bool.false_and]
   exact ah▸ae rfl (af.bool _)
 simp only [SS,Nat.reduceAdd,ay lG,ak,p1,d1]
 cases a1
 . simp only [SS,Nat.reduceAdd,Bool.false_and,Bool.true_and]
   exact ah▸ae rfl (af.bool _)
 simp only [SS,Nat.reduceAdd,ay lG,ak,p4,d2]
 cases a2
 . simp only [SS,Nat.reduceAdd,Bool.false_and,Bool.true_and]
   exact ah▸ae rfl (af.bool _)
 simp only [SS,Nat.reduceAdd,ay lG,ak,p2]
 refine aj hss (by simp [gq]) ?_
 cases b1
 . simp only [SS,Nat.reduceAdd,Bool.false_and,Bool.true_and]
   exact ah▸ae rfl (af.bool _)
 simp only [SS,Nat.reduceAdd,ay lG,ak,p3]
 refine aj Yz (by simp [EX.fQ,tY]) ?_
 simp only [SS,Nat.reduceAdd,Bool.true_and]
 exact ah▸ae rfl (af.bool _)
end
theorem ud {α : Type} {l m:List α} (hlen:l.length=m.length) {i:Nat} (h:l.take i=m.take i) (hi : ¬ i<l.length):gJ l m=true :=
 bI (by rw [List.take_of_length_le (by omega),List.take_of_length_le (by omega)] at h;exact h)
theorem r7 {α : Type} {l m:List α} (h:l.length≠m.length):gJ l m=false:=aZ (fun e=>h (by rw [e]))
theorem Cy {α : Type} {l m:List α} {i:Nat} {x y : α} (hx:l[i]? = some x) (hy:m[i]? = some y) (h:x≠y):gJ l m=false :=
 aZ (fun e=>h (by rw [e,hy] at hx;exact (Option.some.inj hx).symm))
theorem qT {α : Type} {l m:List α} {i:Nat} {x : α} (h:l.take i=m.take i) (hx:l[i]? = some x) (hy:m[i]? = some x):l.take (i+1)=m.take (i+1):=by
 rw [List.take_add_one,List.take_add_one,hx,hy,h]
section
variable {P:Program} {G:Nat->Option (List AV)}
theorem Cz {f:FuncId} (h:Has P f et) (b b':Bool) (l m:List Nat) (hl:l.length<=9223372036854775807) (hm:m.length<=9223372036854775807):VP P G f [IR b l,IR b' m] (.bool (gJ (b,l) (b',m))):=by
 have lG:([0]:List Nat)≠[1]:=by decide
 rw [kE]
 have Ty:∀ ws,ky false (.sl 1 (us ws))=some (.int .i64 ws.length):=fun ws=>by simp [ky,dD]
 by_cases hb:b=b'
 case neg =>
   have d1:(!(b==b'))=true:=by simp [hb]
   rw [aZ hb]
   refine VP.has h ?_
   simp only [et,SS,Nat.reduceAdd,zb,ay lG,ak,IK,d1,Bool.false_and]
   exact ah▸ae rfl (af.bool _)
 have d1:(!(b==b'))=false:=by simp [hb]
 rw [bI hb,Bool.true_and]
 by_cases hlen:l.length=m.length
 case neg =>
   have d0:decide ((l.length:Int)≠(m.length:Int))=true:=ai (by omega)
   rw [r7 hlen]
   refine VP.has h ?_
   simp only [et,SS,Nat.reduceAdd,zb,ay lG,ak,IK,EL,Ty,d1,d0]
   exact ah▸ae rfl (af.bool _)
 have d0:decide ((l.length:Int)≠(m.length:Int))=false:=ag (by omega)
 refine VP.has h ?_
 simp only [et,SS,Nat.reduceAdd,zb,ay lG,ak,IK,EL,Ty,d1,d0,az]
 refine VW.bG (α := Nat × Nat) (fun x=>⟨[IR b l,IR b' m, .ref [0] 0 0, .ref [1] 0 0, .bool false, .int .i64 (x.1:Int)]++List.replicate 32 .top,aa.put (aa.put (fun _=>none) [0] (some ⟨[IR b l],2,false⟩)) [1] (some ⟨[IR b' m],2,false⟩),x.2⟩)
   (fun x=>x.1<=l.length/\l.take x.1=m.take x.1) (fun x=>l.length-x.1) (0,1000) ?_ ⟨Nat.zero_le _,by simp⟩ ?_
 . exact Wk.forget (by simp [Fg,List.replicate]) (fun j => .inr rfl) (by omega)
 rintro ⟨i,nn⟩ ⟨hi,cx⟩
 simp only [] at hi cx
 by_cases hlt:i<l.length
 . obtain ⟨x,hx⟩:∃ x,l[i]? = some x:=⟨_,List.getElem?_eq_getElem hlt⟩
   obtain ⟨y,hy⟩:∃ y,m[i]? = some y:=⟨_,List.getElem?_eq_getElem (by omega)⟩
   have dd:decide ((i:Int)<(l.length:Int))=true:=ai (by omega)
   have hgx:(us l)[i]? = some (.int .u32 (x:Int)):=by rw [us,List.getElem?_map,hx];rfl
   have IJ:(us m)[i]? = some (.int .u32 (y:Int)):=by rw [us,List.getElem?_map,hy];rfl
   have AH:∀ z:Nat,part false (AV.int .u32 (z:Int)).cells 0 1=some (.int .u32 (z:Int)):=fun z=>rfl
   have lD:aV 1 (.sl 1 (us l)) (.int .i64 (i:Int))=some (.ep (AV.int .u32 (x:Int)).cells 0):=aN rfl hgx
   have qS:aV 1 (.sl 1 (us m)) (.int .i64 (i:Int))=some (.ep (AV.int .u32 (y:Int)).cells 0):=aN rfl IJ
   by_cases nO:x=y
   . have hne:decide ((x:Int)≠(y:Int))=false:=by rw [ub,bI nO];rfl
     simp only [SS,DD,Nat.reduceAdd,List.replicate,ay lG,ak,EL,Ty,dd,lD,qS,ax,AH,hne,ao i (by omega)]
     refine ⟨by simp [aJ,apart],(i+1,nn+1000),⟨by simp only [];omega, ?_⟩,by simp only [];omega,Wk.slots (by simp [Fg]) (by omega)⟩
     exact qT cx hx (nO▸hy)
   . have hne:decide ((x:Int)≠(y:Int))=true:=by rw [ub,aZ nO];rfl
     rw [Cy hx hy nO]
     simp only [SS,DD,Nat.reduceAdd,List.replicate,ay lG,ak,EL,Ty,dd,lD,qS,ax,AH,hne]
     refine ⟨by simp [aJ,apart], ?_⟩
     exact ah▸ae rfl (af.bool _)
 . have dd:decide ((i:Int)<(l.length:Int))=false:=ag (by omega)
   rw [ud hlen cx hlt]
   simp only [SS,Nat.reduceAdd,List.replicate,ay lG,ak,EL,Ty,dd]
   exact ah▸ae rfl (af.bool _)
theorem R8 {f fs:FuncId} (h:Has P f (jQ fs)) (n1:Bool) (w1:List Nat) (n2:Bool) (w2:List Nat) (Cq:Bool) (A3:List Nat) (Cr:Bool) (A4:List Nat)
   (h1:VP P G fs [IR n1 w1,IR Cq A3] (.bool (gJ (n1,w1) (Cq,A3)))) (h2:VP P G fs [IR n2 w2,IR Cr A4] (.bool (gJ (n2,w2) (Cr,A4)))) :
   VP P G f [RR n1 w1 n2 w2,RR Cq A3 Cr A4] (.bool (gJ (n1,w1) (Cq,A3)&&gJ (n2,w2) (Cr,A4))):=by
 have lG:([0]:List Nat)≠[1]:=by decide
 generalize gJ (n1,w1) (Cq,A3)=b1 at h1 ⊢
 generalize gJ (n2,w2) (Cr,A4)=b2 at h2 ⊢
 refine VP.has h ?_
 simp only [jQ,SS,Nat.reduceAdd,Ce,ay lG,ak,Yu]
 refine aj h1 (by simp [uG]) ?_
 cases b1
 . simp only [SS,Nat.reduceAdd,Bool.false_and]
   exact ah▸ae rfl (af.bool _)
 simp only [SS,Nat.reduceAdd,ay lG,ak,Yv]
 refine aj h2 (by simp [uG]) ?_
 simp only [SS,Nat.reduceAdd,Bool.true_and]
 exact ah▸ae rfl (af.bool _)
theorem O2 {f fs:FuncId} (h:Has P f (jm fs f)) (hs:∀ n1 w1 n2 w2 Cq A3 Cr A4,w1.length<=9223372036854775807->w2.length<=9223372036854775807->A3.length<=9223372036854775807->A4.length<=9223372036854775807 ->
     VP P G fs [RR n1 w1 n2 w2,RR Cq A3 Cr A4] (.bool (gJ (n1,w1) (Cq,A3)&&gJ (n2,w2) (Cr,A4)))):∀ e:EX,e.Ok->∀ e':EX,e'.Ok->VP P G f [e.av,e'.av] (.bool (gJ e e')):=EX.induct fun op n1 w1 n2 w2 nm args ih dI e' KZ=>by
 cases e' with
 | mk FQ Cq A3 Cr A4 PH eD =>
 have RA:=EX.pB dI
 have Yw:=EX.pB KZ
 rw [EX.Ok] at dI KZ
 obtain ⟨_,_,_,_,lF,sD,_,WH,_⟩:=dI
 obtain ⟨_,_,_,_,Yx,Yy,_,abH,_⟩:=KZ
 have lG:([0]:List Nat)≠[1]:=by decide
 have hss:=hs n1 w1 n2 w2 Cq A3 Cr A4 lF sD Yx Yy
 rw [EX.Gn,Bool.and_assoc (gJ op FQ&&gJ nm PH)]
 generalize (gJ (n1,w1) (Cq,A3)&&gJ (n2,w2) (Cr,A4))=b1 at hss ⊢
 have d0:decide (op≠FQ) = !gJ op FQ:=RX op FQ
 have d1:=Cx nm PH
 generalize gJ op FQ=a0 at d0 ⊢
 generalize gJ nm PH=a1 at d1 ⊢
 have dn:=ub args.length eD.length
 refine VP.has h ?_
 simp only [jm,SS,Nat.reduceAdd,EX.one,ay lG,ak,EX.q0,d0]
 cases a0
 . simp only [SS,Nat.reduceAdd,Bool.false_and]
   exact ah▸ae rfl (af.bool _)
 simp only [SS,Nat.reduceAdd,ay lG,ak,EX.q5,d1]
 cases a1
 . simp only [SS,Nat.reduceAdd,Bool.false_and,Bool.true_and]
   exact ah▸ae rfl (af.bool _)
 simp only [SS,Nat.reduceAdd,ay lG,ak,EX.q6,EX.cL,dn]
 by_cases hlen:args.length=eD.length
 case neg =>
   rw [aZ hlen,r7 hlen]
   simp only [SS,Nat.reduceAdd,Bool.and_false]
   exact ah▸ae rfl (af.bool _)
 rw [bI hlen]
 simp only [SS,Nat.reduceAdd,ay lG,ak,EX.q1]
 refine aj hss (by simp [Ga]) ?_
 cases b1
 . simp only [SS,Nat.reduceAdd,Bool.false_and,Bool.true_and]
   exact ah▸ae rfl (af.bool _)
 simp only [SS,Nat.reduceAdd,Bool.true_and,az]
 refine VW.bG (α := Nat × Nat) (fun x=>⟨[(EX.mk op n1 w1 n2 w2 nm args).av,(EX.mk FQ Cq A3 Cr A4 PH eD).av, .ref [0] 0 0, .ref [1] 0 0, .bool false, .int .i64 (x.1:Int)]++List.replicate 48 .top,aa.put (aa.put (fun _=>none) [0] (some ⟨[(EX.mk op n1 w1 n2 w2 nm args).av],7,false⟩)) [1] (some ⟨[(EX.mk FQ Cq A3 Cr A4 PH eD).av],7,false⟩),x.2⟩)
   (fun x=>x.1<=args.length/\args.take x.1=eD.take x.1) (fun x=>args.length-x.1) (0,1000) ?_ ⟨Nat.zero_le _,by simp⟩ ?_
 . exact Wk.forget (by simp [Fg,List.replicate]) (fun j => .inr (by simp only [EX.size])) (by omega)
 rintro ⟨i,nn⟩ ⟨hi,cx⟩
 simp only [] at hi cx
 by_cases hlt:i<args.length
 . obtain ⟨x,hx⟩:∃ x,args[i]? = some x:=⟨_,List.getElem?_eq_getElem hlt⟩
   obtain ⟨y,hy⟩:∃ y,eD[i]? = some y:=⟨_,List.getElem?_eq_getElem (by omega)⟩
   have dd:decide ((i:Int)<(args.length:Int))=true:=ai (by omega)
   have hgx:(EX.dy args)[i]? = some x.av:=by rw [EX.bY,List.getElem?_map,hx];rfl
   have IJ:(EX.dy eD)[i]? = some y.av:=by rw [EX.bY,List.getElem?_map,hy];rfl
   have lD:aV 7 (.sl 7 (EX.dy args)) (.int .i64 (i:Int))=some (.ep x.av.cells 0):=aN rfl hgx
   have qS:aV 7 (.sl 7 (EX.dy eD)) (.int .i64 (i:Int))=some (.ep y.av.cells 0):=aN rfl IJ
   have Gi:=ih x (List.mem_of_getElem? hx) (RA x (List.mem_of_getElem? hx)) y (Yw y (List.mem_of_getElem? hy))
   simp only [SS,DD,Nat.reduceAdd,List.replicate,ay lG,ak,EX.q6,EX.cL,dd,lD,qS,ax,EX.all]
   refine dG Gi (by simp [EX.pure]) ?_
   by_cases nO:x=y
   . rw [bI nO]
     simp only [SS,DD,Nat.reduceAdd]
     refine ⟨by simp [aJ,apart], ?_⟩
     simp only [ao i (by omega)]
     refine ⟨(i+1,nn+1000),⟨by simp only [];omega, ?_⟩,by simp only [];omega,Wk.slots (by simp [Fg]) (by omega)⟩
     exact qT cx hx (nO▸hy)
   . rw [aZ nO,Cy hx hy nO]
     simp only [SS,DD,Nat.reduceAdd]
     refine ⟨by simp [aJ,apart], ?_⟩
     exact ah▸ae rfl (af.bool _)
 . have dd:decide ((i:Int)<(args.length:Int))=false:=ag (by omega)
   rw [ud hlen cx hlt]
   simp only [SS,Nat.reduceAdd,List.replicate,ay lG,ak,EX.q6,EX.cL,dd]
   exact ah▸ae rfl (af.bool _)
end
theorem FX.Gn (X Y:FX):gJ X Y=(gJ X.name Y.name&&gJ X.kind Y.kind&&gJ X.supp Y.supp&&gJ X.inputs Y.inputs&&gJ X.vals Y.vals):=by
 rw [<- kE, <- kE, <- kE, <- kE]
 refine zl ⟨fun e=>by rw [e],fun e => ?_⟩
 simp only [Prod.mk.injEq] at e
 cases X;cases Y
 obtain ⟨⟨⟨⟨h1,h2⟩,h3⟩,h4⟩,h5⟩:=e
 simp only at h1 h2 h3 h4 h5
 rw [h1,h2,h3,h4,h5]
theorem UZ (x y:Bool):(!(x==y)) = !gJ x y:=by rw [MY]
theorem FX.p0 (Z:FX):part false Z.eG.av.cells 0 1=some (.str Z.name):=rfl
theorem FX.p1 (Z:FX):part false Z.eG.av.cells 1 1=some (.int .i64 Z.kind):=rfl
theorem FX.p2 (Z:FX):part false Z.eG.av.cells 2 1=some (.sl 1 (Z.inputs.map .str)):=rfl
theorem FX.p3 (Z:FX):part false Z.eG.av.cells 3 1=some (.sl 7 (EX.dy Z.vals)):=rfl
theorem FX.p4 (Z:FX):part false Z.eG.av.cells 4 1=some (.bool Z.supp):=rfl
section
variable {P:Program} {G:Nat->Option (List AV)}
set_option maxHeartbeats 1000000 in
theorem CA {f fe:FuncId} (h:Has P f (gv fe)) (he:∀ e:EX,e.Ok->∀ e':EX,e'.Ok->VP P G fe [e.av,e'.av] (.bool (gJ e e'))) (X Y:FX) (hX:X.Ok) (hY:Y.Ok) :
   VP P G f [X.eG.av,Y.eG.av] (.bool (gJ X Y)):=by
 have lG:([0]:List Nat)≠[1]:=by decide
 have LF:=hX.ins
 have o7:=hX.vl
 rw [FX.Gn]
 have d0:=Cx X.name Y.name
 have d1:=RX X.kind Y.kind
 have d2:=UZ X.supp Y.supp
 have d3:=ub X.inputs.length Y.inputs.length
 have d4:=ub X.vals.length Y.vals.length
 generalize gJ X.name Y.name=a0 at d0 ⊢
 generalize gJ X.kind Y.kind=a1 at d1 ⊢
 generalize gJ X.supp Y.supp=a2 at d2 ⊢
 refine VP.has h ?_
 simp only [gv,SS,Nat.reduceAdd,bK.one,ay lG,ak,FX.p0,d0]
 cases a0
 . simp only [SS,Nat.reduceAdd,Bool.false_and]
   exact ah▸ae rfl (af.bool _)
 simp only [SS,Nat.reduceAdd,ay lG,ak,FX.p1,d1]
 cases a1
 . simp only [SS,Nat.reduceAdd,Bool.false_and,Bool.true_and]
   exact ah▸ae rfl (af.bool _)
 simp only [SS,Nat.reduceAdd,ay lG,ak,FX.p4,d2]
 cases a2
 . simp only [SS,Nat.reduceAdd,Bool.false_and,Bool.true_and]
   exact ah▸ae rfl (af.bool _)
 simp only [SS,Nat.reduceAdd,ay lG,ak,FX.p2,List.length_map,d3]
 by_cases hlen:X.inputs.length=Y.inputs.length
 case neg =>
   rw [aZ hlen,r7 hlen]
   simp only [SS,Nat.reduceAdd,Bool.false_and,Bool.true_and]
   exact ah▸ae rfl (af.bool _)
 rw [bI hlen]
 simp only [SS,Nat.reduceAdd,ay lG,ak,FX.p3,EX.cL,d4]
 by_cases vq:X.vals.length=Y.vals.length
 case neg =>
   rw [aZ vq,r7 (l:=X.vals) vq]
   simp only [SS,Nat.reduceAdd,Bool.and_false]
   exact ah▸ae rfl (af.bool _)
 rw [bI vq]
 simp only [SS,Nat.reduceAdd,Bool.true_and,az]
 refine VW.bG (α := Nat × Nat) (fun x=>⟨[X.eG.av,Y.eG.av, .ref [0] 0 0, .ref [1] 0 0, .bool false, .int .i64 (x.1:Int)]++List.replicate 75 .top,aa.put (aa.put (fun _=>none) [0] (some ⟨[X.eG.av],5,false⟩)) [1] (some ⟨[Y.eG.av],5,false⟩),x.2⟩)
   (fun x=>x.1<=X.inputs.length/\X.inputs.take x.1=Y.inputs.take x.1) (fun x=>X.inputs.length-x.1) (0,1000) ?_ ⟨Nat.zero_le _,by simp⟩ ?_
 . exact Wk.slots (by simp [Fg,List.replicate]) (by omega)
 rintro ⟨i,nn⟩ ⟨hi,cx⟩
 simp only [] at hi cx
 by_cases hlt:i<X.inputs.length
 . obtain ⟨x,hx⟩:∃ x,X.inputs[i]? = some x:=⟨_,List.getElem?_eq_getElem hlt⟩
   obtain ⟨y,hy⟩:∃ y,Y.inputs[i]? = some y:=⟨_,List.getElem?_eq_getElem (by omega)⟩
   have dd:decide ((i:Int)<(X.inputs.length:Int))=true:=ai (by omega)
   have hgx:(X.inputs.map AV.str)[i]? = some (.str x):=by rw [List.getElem?_map,hx];rfl
   have IJ:(Y.inputs.map AV.str)[i]? = some (.str y):=by rw [List.getElem?_map,hy];rfl
   have AH:∀ z,part false (AV.str z).cells 0 1=some (.str z):=fun z=>rfl
   have lD:aV 1 (.sl 1 (X.inputs.map AV.str)) (.int .i64 (i:Int))=some (.ep (AV.str x).cells 0):=aN rfl hgx
   have qS:aV 1 (.sl 1 (Y.inputs.map AV.str)) (.int .i64 (i:Int))=some (.ep (AV.str y).cells 0):=aN rfl IJ
   have dxy:=Cx x y
   simp only [SS,DD,Nat.reduceAdd,List.replicate,ay lG,ak,FX.p2,List.length_map,dd,lD,qS,ax,AH,dxy]
   refine ⟨by simp [aJ,apart], ?_⟩
   by_cases nO:x=y
   . rw [bI nO]
     simp only [SS,Nat.reduceAdd,ao i (by omega)]
     refine ⟨(i+1,nn+1000),⟨by simp only [];omega, ?_⟩,by simp only [];omega,Wk.slots (by simp [Fg]) (by omega)⟩
     exact qT cx hx (nO▸hy)
   . rw [aZ nO,Cy hx hy nO]
     simp only [SS,Bool.false_and]
     exact ah▸ae rfl (af.bool _)
 have dd:decide ((i:Int)<(X.inputs.length:Int))=false:=ag (by omega)
 rw [ud hlen cx hlt]
 simp only [SS,Nat.reduceAdd,List.replicate,ay lG,ak,FX.p2,List.length_map,dd,Bool.true_and,az]
 clear hlt cx dd hi
 refine VW.bG (α := Nat × Nat) (fun x=>⟨[X.eG.av,Y.eG.av, .ref [0] 0 0, .ref [1] 0 0, .bool false, .top, .int .i64 (x.1:Int)]++List.replicate 74 .top,aa.put (aa.put (fun _=>none) [0] (some ⟨[X.eG.av],5,false⟩)) [1] (some ⟨[Y.eG.av],5,false⟩),x.2⟩)
   (fun x=>x.1<=X.vals.length/\X.vals.take x.1=Y.vals.take x.1) (fun x=>X.vals.length-x.1) (0,nn+1000) ?_ ⟨Nat.zero_le _,by simp⟩ ?_
 . exact Wk.slots (by simp [Fg,List.replicate]) (by omega)
 rintro ⟨j,mm⟩ ⟨hi,cx⟩
 simp only [] at hi cx
 by_cases hlt:j<X.vals.length
 . obtain ⟨x,hx⟩:∃ x,X.vals[j]? = some x:=⟨_,List.getElem?_eq_getElem hlt⟩
   obtain ⟨y,hy⟩:∃ y,Y.vals[j]? = some y:=⟨_,List.getElem?_eq_getElem (by omega)⟩
   have dd:decide ((j:Int)<(X.vals.length:Int))=true:=ai (by omega)
   have hgx:(EX.dy X.vals)[j]? = some x.av:=by rw [EX.bY,List.getElem?_map,hx];rfl
   have IJ:(EX.dy Y.vals)[j]? = some y.av:=by rw [EX.bY,List.getElem?_map,hy];rfl
   have lD:aV 7 (.sl 7 (EX.dy X.vals)) (.int .i64 (j:Int))=some (.ep x.av.cells 0):=aN rfl hgx
   have qS:aV 7 (.sl 7 (EX.dy Y.vals)) (.int .i64 (j:Int))=some (.ep y.av.cells 0):=aN rfl IJ
   have Gi:=he x (hX.vals x (List.mem_of_getElem? hx)) y (hY.vals y (List.mem_of_getElem? hy))
   simp only [SS,DD,Nat.reduceAdd,List.replicate,ay lG,ak,FX.p3,EX.cL,dd,lD,qS,ax,EX.all]
   refine dG Gi (by simp [EX.pure]) ?_
   by_cases nO:x=y
   . rw [bI nO]
     simp only [SS,DD,Nat.reduceAdd]
     refine ⟨by simp [aJ,apart], ?_⟩
     simp only [ao j (by omega)]
     refine ⟨(j+1,mm+1000),⟨by simp only [];omega, ?_⟩,by simp only [];omega,Wk.slots (by simp [Fg]) (by omega)⟩
     exact qT cx hx (nO▸hy)
   . rw [aZ nO,Cy hx hy nO]
     simp only [SS,DD,Nat.reduceAdd]
     refine ⟨by simp [aJ,apart], ?_⟩
     exact ah▸ae rfl (af.bool _)
 . have dd:decide ((j:Int)<(X.vals.length:Int))=false:=ag (by omega)
   rw [ud vq cx hlt]
   simp only [SS,Nat.reduceAdd,List.replicate,ay lG,ak,FX.p3,EX.cL,dd]
   exact ah▸ae rfl (af.bool _)
theorem FX.fP (X:FX):∀ c∈X.av.cells,af c:=by
 intro c hc
 simp [FX.av,FX.eG,bK.av,AV.cells] at hc
 rcases hc with rfl | rfl | rfl | rfl | rfl
 . exact af.str _
 . exact af.int _ _
 . exact gq _
 . exact EX.fQ _
 . exact af.bool _
def bT (l:List FX):AV := .sl 5 (l.map FX.av)
theorem bO (l:List FX):ky false (bT l)=some (.int .i64 (l.length:Int)):=by simp [bT,ky]
theorem kr (l:List FX):af (bT l):=af.sl (by
 intro c hc
 simp only [flat,List.mem_flatMap,List.mem_map] at hc
 obtain ⟨v,⟨X,_,rfl⟩,hc⟩:=hc
 exact FX.fP X c hc)
theorem FX.whole (X:FX):part true X.av.cells 0 5=some X.av:=rfl
theorem U0 {f fs:FuncId} (h:Has P f (jR fs)) (l m:List FX) (hl:l.length<=9223372036854775807) (hm:m.length<=9223372036854775807) (hs:∀ X∈l,∀ Y∈m,VP P G fs [X.av,Y.av] (.bool (gJ X Y))):VP P G f [bT l,bT m] (.bool (gJ l m)):=by
 have d0:=ub l.length m.length
 refine VP.has h ?_
 simp only [jR,SS,Nat.reduceAdd,bO,d0]
 by_cases hlen:l.length=m.length
 case neg =>
   rw [aZ hlen,r7 hlen]
   simp only [SS,Nat.reduceAdd]
   exact ah▸ae rfl (af.bool _)
 rw [bI hlen]
 simp only [SS,Nat.reduceAdd,az]
 refine VW.bG (α := Nat × Nat) (fun x=>⟨[bT l,bT m, .top, .top, .bool false, .int .i64 (x.1:Int)]++List.replicate 21 .top,fun _=>none,x.2⟩)
   (fun x=>x.1<=l.length/\l.take x.1=m.take x.1) (fun x=>l.length-x.1) (0,1000) ?_ ⟨Nat.zero_le _,by simp⟩ ?_
 . exact Wk.slots (by simp [Fg,List.replicate]) (by omega)
 rintro ⟨i,nn⟩ ⟨hi,cx⟩
 simp only [] at hi cx
 by_cases hlt:i<l.length
 . obtain ⟨x,hx⟩:∃ x,l[i]? = some x:=⟨_,List.getElem?_eq_getElem hlt⟩
   obtain ⟨y,hy⟩:∃ y,m[i]? = some y:=⟨_,List.getElem?_eq_getElem (by omega)⟩
   have dd:decide ((i:Int)<(l.length:Int))=true:=ai (by omega)
   have hgx:(l.map FX.av)[i]? = some x.av:=by rw [List.getElem?_map,hx];rfl
   have IJ:(m.map FX.av)[i]? = some y.av:=by rw [List.getElem?_map,hy];rfl
   have lD:aV 5 (bT l) (.int .i64 (i:Int))=some (.ep x.av.cells 0):=aN rfl hgx
   have qS:aV 5 (bT m) (.int .i64 (i:Int))=some (.ep y.av.cells 0):=aN rfl IJ
   have Gi:=hs x (List.mem_of_getElem? hx) y (List.mem_of_getElem? hy)
   have hp:∀ X:FX,af X.av:=FX.pure
   simp only [SS,DD,Nat.reduceAdd,List.replicate,bO,dd,lD,qS,ax,FX.whole]
   refine dG Gi (by simp [hp]) ?_
   by_cases nO:x=y
   . rw [bI nO]
     simp only [SS,DD,Nat.reduceAdd]
     refine ⟨by simp [aJ,apart], ?_⟩
     simp only [ao i (by omega)]
     refine ⟨(i+1,nn+1000),⟨by simp only [];omega, ?_⟩,by simp only [];omega,Wk.slots (by simp [Fg]) (by omega)⟩
     exact qT cx hx (nO▸hy)
   . rw [aZ nO,Cy hx hy nO]
     simp only [SS,DD,Nat.reduceAdd]
     refine ⟨by simp [aJ,apart], ?_⟩
     exact ah▸ae rfl (af.bool _)
 . have dd:decide ((i:Int)<(l.length:Int))=false:=ag (by omega)
   rw [ud hlen cx hlt]
   simp only [SS,Nat.reduceAdd,List.replicate,bO,dd]
   exact ah▸ae rfl (af.bool _)
end
theorem lx {σ : aa} {id:Id} {x v y:AV} {k o:Nat} (h : σ id=some ⟨[x],k,false⟩) (hv:v.cells=[v]) (h1:v.one=true) (ho:o+1<=x.size) (hu:x.upd o [v]=y) :
   eO σ 1 (.ref id 0 o) v=some { val := .tup [],rd:=[id],up:=[(id,some ⟨[y],k,false⟩)] }:=by
 rw [dw (n:=1) (v:=v) (els:=[x]) (el:=x) (k:=k) h rfl (by rw [hv];rfl) ho (by rw [hv];simpa using h1),hv,hu]
 rfl
theorem dV {q:Id} {k len i:Nat} {t:Bool} (h:i<len):aV k (.osl q k 0 len t) (.int .i64 (i:Int))=some (.ref q i 0):=by
 simp only [aV]
 rw [if_pos ⟨trivial,by omega,by omega⟩]
 simp
theorem ot {σ : aa} {q:Id} {k i:Nat} {els:List AV} {x y:AV} (h : σ q=some ⟨els,k,false⟩) (hi:els[i]? = some x) (hy:y.cells.length=k) (hx:x.size=k) (h1:y.cells.all AV.one=true) (hu:x.upd 0 y.cells=y) :
   eO σ k (.ref q i 0) y=some { val := .tup [],rd:=[q],up:=[(q,some ⟨els.set i y,k,false⟩)] }:=by
 rw [dw (n:=k) (v:=y) h hi hy (by omega) h1,hu]
theorem xX {α : Type} {l:List α} {i:Nat} {x : α} (h:l[i]? = some x):l.set i x=l:=by
 obtain ⟨hi,rfl⟩:=List.getElem?_eq_some_iff.1 h
 exact List.set_getElem_self hi
def wO (op:Int) (n1:Bool) (w1:List Nat) (n2:Bool) (w2:List Nat) (nm:List UInt8) (x:AV):AV := .agg [.int .i64 op, .bool n1, .sl 1 (us w1), .bool n2, .sl 1 (us w2), .str nm,x]
section
variable (op:Int) (n1:Bool) (w1:List Nat) (n2:Bool) (w2:List Nat) (nm:List UInt8) (args:List EX) (x y:AV)
theorem EX.q2:part false (EX.mk op n1 w1 n2 w2 nm args).av.cells 2 1=some (.sl 1 (us w1)):=by rw [EX.av];rfl
theorem EX.q4:part false (EX.mk op n1 w1 n2 w2 nm args).av.cells 4 1=some (.sl 1 (us w2)):=by rw [EX.av];rfl
theorem EX.u2:(EX.mk op n1 w1 n2 w2 nm args).av.upd 2 [.sl 1 (us w1)]=(EX.mk op n1 w1 n2 w2 nm args).av:=by rw [EX.av];rfl
theorem EX.u4:(EX.mk op n1 w1 n2 w2 nm args).av.upd 4 [.sl 1 (us w2)]=(EX.mk op n1 w1 n2 w2 nm args).av:=by rw [EX.av];rfl
theorem EX.u6:(EX.mk op n1 w1 n2 w2 nm args).av.upd 6 [x]=wO op n1 w1 n2 w2 nm x:=by rw [EX.av];rfl
theorem wO.eq:wO op n1 w1 n2 w2 nm (.sl 7 (EX.dy args))=(EX.mk op n1 w1 n2 w2 nm args).av:=by rw [EX.av];rfl
theorem wO.q6 (h:x.cells=[x]):part false (wO op n1 w1 n2 w2 nm x).cells 6 1=some x:=by simp [wO,AV.cells,part]
theorem wO.all:part true (wO op n1 w1 n2 w2 nm x).cells 0 7=some (wO op n1 w1 n2 w2 nm x):=rfl
theorem wO.one (h:x.one=true):(wO op n1 w1 n2 w2 nm x).cells.all AV.one=true:=by simp [wO,AV.cells,AV.one] at h ⊢;exact h
theorem wO.upd:(AV.agg [.int .i64 0, .bool false, .nils, .bool false, .nils, .str [], .nils]).upd 0 (wO op n1 w1 n2 w2 nm x).cells=wO op n1 w1 n2 w2 nm x:=rfl
theorem wO.view {σ : aa} (h:View σ x y):View σ (wO op n1 w1 n2 w2 nm x) (wO op n1 w1 n2 w2 nm y) :=
 View.agg (.cons (View.pure (af.int _ _)) (.cons (View.pure (af.bool _)) (.cons (View.pure (kz _)) (.cons (View.pure (af.bool _)) (.cons (View.pure (kz _)) (.cons (View.pure (af.str _)) (.cons h .nil)))))))
end
theorem qU {q:Id} {k o len:Nat} {t:Bool}:(AV.osl q k o len t).cells=[.osl q k o len t]:=rfl
section
variable {P:Program} {G:Nat->Option (List AV)}
theorem r8 {f:FuncId} (h:Has P f aE) {l:List EX} (hne:l≠[]) (hl:l.length*112<=140737488355328) (p:Id) :
   aq P G f [.sl 7 (EX.dy l)] p [] { val := .osl (5::p) 7 0 l.length false,rd:=[],up:=[(5::p,some ⟨EX.dy l,7,false⟩)] }:=by
 refine aq.has h ?_
 have hb:∀ (σ : aa) (p:Id),bu σ p (.buildSl 7 0 (.agg [(.int .i64 (0)),(.bool false), .nils,(.bool false), .nils,(.str []), .nils]) [])=some { val := .tsl 7 [] }:=fun σ p=>Wp rfl rfl
 have tk:(EX.dy l).all (fun e=>e.cells.all AV.one)=true:=by
   rw [EX.bY,List.all_eq_true];intro e he;obtain ⟨x,_,rfl⟩:=List.mem_map.1 he;exact of_eq_true (EX.one x)
 have Kg:=EX.cL l
 cases l with
 | nil=>exact absurd rfl hne
 | cons F l =>
   simp only [EX.dy] at tk Kg ⊢
   simp only [aE,SS,Nat.reduceAdd,hb]
   rw [cY (es:=[]) dM (by simp) (by rw [Kg];simpa using hl) (bE (by rw [Kg];simp at hl ⊢;omega)) (by simpa using tk)]
   simp only [SS,Nat.reduceAdd]
   rw [List.length_cons] at Kg
   refine bZ▸aW (by simp [fY,iR];exact Nat.succ.inj Kg) fun i => ?_
   by_cases hi:i=5::p
   . right;subst hi;simp [aa.app,aa.put]
   . left;simp [aa.app,aa.put,hi,aa.of]
set_option maxHeartbeats 1000000 in
theorem Gp {f fu fe:FuncId} (h:Has P f (kK fu fe f)) (hu:∀ ws:List Nat,ws.length<=1000->VP P G fu [.sl 1 (us ws)] (.sl 1 (us ws)))
   (he:Has P fe aE):∀ e:EX,e.lT=true->e.nodes<=1000->VP P G f [e.av] e.av:=EX.induct fun op n1 w1 n2 w2 nm args ih PI AW=>by
 have vN:EX.cK args<=999:=by rw [EX.nodes] at AW;omega
 have abJ:args.length<=999:=Nat.le_trans (EX.Cs args) vN
 obtain ⟨WH,lF,sD,afh⟩:=EX.r5 PI
 have lG:([0]:List Nat)≠[1]:=by decide
 have TB:=hu w1 (by omega)
 have Xl:=hu w2 (by omega)
 have hsz:=EX.size (EX.mk op n1 w1 n2 w2 nm args)
 have hih:∀ x∈args,VP P G f [x.av] x.av:=fun x hx=>ih x hx (WH x hx) (by have:=EX.qP hx;omega)
 have z1:(AV.agg [.int .i64 0, .bool false, .nils, .bool false, .nils, .str [], .nils]).cells.all AV.one=true:=by simp [AV.cells,AV.one]
 have s2:∀ σ : aa, σ [0]=some ⟨[(EX.mk op n1 w1 n2 w2 nm args).av],(EX.mk op n1 w1 n2 w2 nm args).av.size,false⟩->eO σ 1 (.ref [0] 0 2) (.sl 1 (us w1))=some { val := .tup [],rd:=[[0]],up:=[([0],some ⟨[(EX.mk op n1 w1 n2 w2 nm args).av],(EX.mk op n1 w1 n2 w2 nm args).av.size,false⟩)] } :=
   fun σ hs=>lx hs rfl rfl (by rw [hsz];omega) (EX.u2 ..)
 have s4:∀ σ : aa, σ [0]=some ⟨[(EX.mk op n1 w1 n2 w2 nm args).av],(EX.mk op n1 w1 n2 w2 nm args).av.size,false⟩->eO σ 1 (.ref [0] 0 4) (.sl 1 (us w2))=some { val := .tup [],rd:=[[0]],up:=[([0],some ⟨[(EX.mk op n1 w1 n2 w2 nm args).av],(EX.mk op n1 w1 n2 w2 nm args).av.size,false⟩)] } :=
   fun σ hs=>lx hs rfl rfl (by rw [hsz];omega) (EX.u4 ..)
 refine VP.has h ?_
 simp only [kK,SS,DD,Nat.reduceAdd,EX.one,z1,ay lG,ak,EX.q2]
 refine dG TB (by simp [kz]) ?_
 simp only [SS,DD,Nat.reduceAdd,ay lG,ak,EX.q4]
 refine dG Xl (by simp [kz]) ?_
 simp only [SS,DD,Nat.reduceAdd]
 rw [s2 _ (by simp [aa.put])]
 simp only [SS,DD,Nat.reduceAdd]
 rw [s4 _ (by simp [aa.put])]
 simp only [SS,DD,Nat.reduceAdd]
 refine ⟨by simp [aJ,apart], ?_⟩
 simp only [SS,Nat.reduceAdd,ak,EX.q6]
 by_cases ha:args=[]
 . subst ha
   have hE:VP P G fe [.sl 7 (EX.dy [])] (.sl 7 (EX.dy [])):=dh (G:=G) he (es:=[]) (by simp) rfl (by simp [flat]) (by simp)
   refine aj hE (by intro x hx;rw [List.mem_singleton] at hx;subst hx;exact EX.fQ []) ?_
   simp only [SS,Nat.reduceAdd]
   rw [lx (x:=(EX.mk op n1 w1 n2 w2 nm []).av) (y:=(EX.mk op n1 w1 n2 w2 nm []).av) (k:=(EX.mk op n1 w1 n2 w2 nm []).av.size) (by simp [aa.put]) rfl rfl (by rw [hsz];omega) ((EX.u6 op n1 w1 n2 w2 nm [] _).trans (wO.eq op n1 w1 n2 w2 nm []))]
   simp only [SS,Nat.reduceAdd,ak,EX.q6,EX.dy,az]
   refine VW.once ?_
   simp only [SS,Nat.reduceAdd,zz]
   simp only [ak,EX.all,SS,Nat.reduceAdd]
   rw [MT (by simp [aa.put];rfl)]
   simp only [SS,Nat.reduceAdd]
   refine ah▸ae (r:=(EX.mk op n1 w1 n2 w2 nm []).av) ?_ (EX.pure _)
   simp only [RS,fY,iR,ak,EX.all]
 . refine ⟨_,_,r8 he ha (by omega) _,by simp,by simp, ?_⟩
   simp only [SS,Nat.reduceAdd]
   rw [lx (x:=(EX.mk op n1 w1 n2 w2 nm args).av) (k:=(EX.mk op n1 w1 n2 w2 nm args).av.size) (by simp [aa.put]) rfl rfl (by rw [hsz];omega) (EX.u6 ..)]
   simp only [SS,Nat.reduceAdd,ak,wO.q6 _ _ _ _ _ _ _ qU,az]
   refine VW.bG (α := Nat × Nat) (fun x=>⟨[(EX.mk op n1 w1 n2 w2 nm args).av, .ref [0] 0 0, .ref [1] 0 0]++List.replicate 23 .top++[.int .i64 (args.length:Int), .int .i64 (x.1:Int)]++List.replicate 14 .top,
       aa.put (aa.put (aa.put (fun _=>none) [0] (some ⟨[wO op n1 w1 n2 w2 nm (.osl [5,22] 7 0 args.length false)],7,false⟩)) [1] (some ⟨[.agg [.int .i64 0, .bool false, .nils, .bool false, .nils, .str [], .nils]],7,false⟩)) [5,22] (some ⟨EX.dy args,7,false⟩),x.2⟩)
     (fun x=>x.1<=args.length) (fun x=>args.length-x.1) (0,1000) ?_ (Nat.zero_le _) ?_
   . refine Wk.forget (by simp [Fg,List.replicate]) (fun j => ?_) (by omega)
     by_cases h0:j=[0]
     . subst h0;right;simp [aa.put,hsz]
     by_cases h1:j=[1]
     . subst h1;right;simp [aa.put];rfl
     by_cases h2:j=[5,22]
     . subst h2;right;simp [aa.put]
     . left;simp [aa.put,h0,h1,h2]
   rintro ⟨i,nn⟩ hi
   simp only [] at hi
   have k0:([0]:List Nat)≠[5,22]:=by decide
   have k1:([1]:List Nat)≠[5,22]:=by decide
   by_cases hlt:i<args.length
   . obtain ⟨x,hx⟩:∃ x,args[i]? = some x:=⟨_,List.getElem?_eq_getElem hlt⟩
     have dd:decide ((i:Int)<(args.length:Int))=true:=ai (by omega)
     have hg:(EX.dy args)[i]? = some x.av:=by rw [EX.bY,List.getElem?_map,hx];rfl
     have UC:∀ σ : aa,fX (σ.put [5,22] (some ⟨EX.dy args,7,false⟩)) true 7 (.ref [5,22] i 0)=some { val:=x.av,rd:=[[5,22]] }:=fun σ => by
       rw [gO (aa.a6 _ _ _) hg,EX.all];rfl
     have Uu:=hih x (List.mem_of_getElem? hx)
     simp only [SS,DD,Nat.reduceAdd,List.replicate,dd,ay lG,ay k0,ak,wO.q6 _ _ _ _ _ _ _ qU,dV hlt,UC]
     refine dG Uu (by simp [EX.pure]) ?_
     simp only [SS,DD,Nat.reduceAdd,dV hlt]
     rw [ot (x:=x.av) (aa.a6 _ _ _) hg (EX.size x) (EX.size x) (of_eq_true (EX.one x)) (by cases x;rw [EX.av];rfl),xX hg]
     simp only [SS,DD,Nat.reduceAdd]
     refine ⟨by simp [aJ,apart], ?_⟩
     simp only [ao i (by omega)]
     refine ⟨(i+1,nn+1000),by simp only [];omega,by simp only [];omega,Wk.forget (by simp [Fg]) (fun j => .inr ?_) (by omega)⟩
     by_cases h2:j=[5,22]
     . subst h2;simp [aa.put]
     . simp [aa.put,h2]
   . have dd:decide ((i:Int)<(args.length:Int))=false:=ag (by omega)
     have fK:i=args.length:=by omega
     simp only [SS,Nat.reduceAdd,List.replicate,dd,ay lG,ay k0,ak,wO.all]
     rw [dw (n:=7) (v:=wO op n1 w1 n2 w2 nm (.osl [5,22] 7 0 args.length false)) (els:=[.agg [.int .i64 0, .bool false, .nils, .bool false, .nils, .str [], .nils]]) (el := .agg [.int .i64 0, .bool false, .nils, .bool false, .nils, .str [], .nils]) (k:=7) (by simp [aa.put]) rfl rfl (by simp [AV.size,AV.cells]) (wO.one _ _ _ _ _ _ _ rfl),wO.upd]
     simp only [SS,Nat.reduceAdd]
     rw [<- wO.eq]
     refine ah▸⟨wO op n1 w1 n2 w2 nm (.osl [5,22] 7 0 args.length false), ?_,wO.view _ _ _ _ _ _ _ _ (View.osl (bk:=⟨EX.dy args,7,false⟩) (by simp [aa.put]) rfl (by simp [EX.cL]) ?_ (EX.cL _) (fun d hd => ?_))⟩
     . simp only [RS,fY,iR,ak,wO.all]
     . have e:(EX.dy args).take args.length=EX.dy args:=List.take_of_length_le (by rw [EX.cL];exact Nat.le_refl _)
       simp only [List.drop_zero,e]
       refine aI.pure fun c hc => ?_
       simp only [flat,List.mem_flatMap] at hc
       obtain ⟨v,hv,hc⟩:=hc
       rw [EX.bY] at hv
       obtain ⟨y,_,rfl⟩:=List.mem_map.1 hv
       exact EX.fP y c hc
     . rw [EX.bY] at hd
       obtain ⟨y,_,rfl⟩:=List.mem_map.1 hd
       exact EX.size y
end
def wP (X:FX) (x:AV):AV := .agg [.str X.name, .int .i64 X.kind,strs X.inputs,x, .bool X.supp]
theorem wP.eq (X:FX):wP X (.sl 7 (EX.dy X.vals))=X.av:=rfl
theorem wP.q3 (X:FX) {x:AV} (h:x.cells=[x]):part false (wP X x).cells 3 1=some x:=by simp [wP,AV.cells,part]
theorem wP.all (X:FX) (x:AV):part true (wP X x).cells 0 5=some (wP X x):=rfl
theorem wP.one (X:FX) (x:AV) (h:x.one=true):(wP X x).cells.all AV.one=true:=by simp [wP,AV.cells,AV.one,strs] at h ⊢;exact h
theorem wP.upd (X:FX) (x:AV):(AV.agg [.str [], .int .i64 0, .nils, .nils, .bool false]).upd 0 (wP X x).cells=wP X x:=rfl
theorem wP.view {σ : aa} (X:FX) {x y:AV} (h:View σ x y):View σ (wP X x) (wP X y) :=
 View.agg (.cons (View.pure (af.str _)) (.cons (View.pure (af.int _ _)) (.cons (View.pure (gq _)) (.cons h (.cons (View.pure (af.bool _)) .nil)))))
theorem FX.u2 (X:FX):X.av.upd 2 [strs X.inputs]=X.av:=rfl
theorem FX.u3 (X:FX) (x:AV):X.av.upd 3 [x]=wP X x:=rfl
theorem FX.one (X:FX):(X.av.cells.all AV.one=true)=True:=bK.one X.eG
theorem FX.sz (X:FX):X.av.size=5:=rfl
theorem FX.c2 (Z:FX):part false Z.av.cells 2 1=some (strs Z.inputs):=rfl
theorem FX.c3 (Z:FX):part false Z.av.cells 3 1=some (.sl 7 (EX.dy Z.vals)):=rfl
theorem FX.c0 (Z:FX):part false Z.av.cells 0 1=some (.str Z.name):=rfl
theorem lj (l:List (List UInt8)):(strs l).cells=[strs l]:=rfl
section
variable {P:Program} {G:Nat->Option (List AV)}
set_option maxHeartbeats 1000000 in
theorem O3 {f fs fe fx:FuncId} (h:Has P f (dO fs fe fx)) (X:FX) (hv:X.vals.length<=1000) (hs:VP P G fs [strs X.inputs] (strs X.inputs)) (he:Has P fe aE)
   (hx:∀ e∈X.vals,VP P G fx [e.av] e.av):VP P G f [X.av] X.av:=by
 have lG:([0]:List Nat)≠[1]:=by decide
 have z1:=mG
 refine VP.has h ?_
 simp only [dO,SS,DD,Nat.reduceAdd,FX.one,z1,ay lG,ak,FX.c2]
 refine dG hs (by simp [gq]) ?_
 simp only [SS,DD,Nat.reduceAdd,ay lG,ak,FX.c3]
 by_cases ha:X.vals=[]
 . have hE:=dh (G:=G) he (es:=[]) (by simp) rfl (by simp [flat]) (by simp)
   have e3:EX.dy X.vals=[]:=by rw [ha];rfl
   rw [e3]
   refine dG hE (by intro x hx;rw [List.mem_singleton] at hx;subst hx;exact EX.fQ []) ?_
   simp only [SS,DD,Nat.reduceAdd]
   rw [lx (x:=X.av) (y:=X.av) (k:=X.av.size) (by simp [aa.put]) (lj _) rfl (by rw [FX.sz];omega) (FX.u2 X)]
   simp only [SS,DD,Nat.reduceAdd]
   rw [lx (x:=X.av) (y:=X.av) (k:=X.av.size) (by simp [aa.put]) rfl rfl (by rw [FX.sz];omega) (by rw [FX.u3, <- wP.eq,e3])]
   simp only [SS,DD,Nat.reduceAdd]
   refine ⟨by simp [aJ,apart], ?_⟩
   simp only [SS,Nat.reduceAdd,ak,FX.c3,e3,az]
   refine VW.once ?_
   simp only [SS,Nat.reduceAdd,zz]
   simp only [ak,FX.whole,SS,Nat.reduceAdd]
   rw [dw (n:=5) (v:=X.av) (els:=[.agg [(.str []),(.int .i64 (0)), .nils, .nils,(.bool false)]]) (el := .agg [(.str []),(.int .i64 (0)), .nils, .nils,(.bool false)]) (k:=5) (by simp [aa.put,AV.size,AV.cells]) rfl rfl (by simp [AV.size,AV.cells]) (by rw [FX.one];trivial)]
   simp only [SS,Nat.reduceAdd]
   have el:∀ (σ : aa) (x:AV) (k:Nat),fX (σ.put [1] (some ⟨[x],k,false⟩)) true 5 (.ref [1] 0 0)=(part true x.cells 0 5).map fun v=>{ val:=v,rd:=[[1]] }:=fun σ x k=>ak
   refine ah▸ae (r:=X.av) ?_ (FX.pure X)
   simp only [RS,fY,iR,el]
   rfl
 . have mK:0<X.vals.length:=List.length_pos_iff.2 ha
   refine ⟨_,_,r8 he ha (by omega) _,by simp,by simp, ?_⟩
   simp only [SS,DD,Nat.reduceAdd]
   rw [lx (x:=X.av) (y:=X.av) (k:=X.av.size) (by simp [aa.put]) (lj _) rfl (by rw [FX.sz];omega) (FX.u2 X)]
   simp only [SS,DD,Nat.reduceAdd]
   rw [lx (x:=X.av) (k:=X.av.size) (by simp [aa.put]) rfl rfl (by rw [FX.sz];omega) (FX.u3 X _)]
   simp only [SS,DD,Nat.reduceAdd]
   refine ⟨by simp [aJ,apart], ?_⟩
   simp only [SS,Nat.reduceAdd,ak,wP.q3 _ qU,az]
   refine VW.bG (α := Nat × Nat) (fun x=>⟨[X.av, .ref [0] 0 0, .ref [1] 0 0]++List.replicate 11 .top++[.int .i64 (X.vals.length:Int), .int .i64 (x.1:Int)]++List.replicate 14 .top,
       aa.put (aa.put (aa.put (fun _=>none) [0] (some ⟨[wP X (.osl [5,7] 7 0 X.vals.length false)],5,false⟩)) [1] (some ⟨[.agg [.str [], .int .i64 0, .nils, .nils, .bool false]],5,false⟩)) [5,7] (some ⟨EX.dy X.vals,7,false⟩),x.2⟩)
     (fun x=>x.1<=X.vals.length) (fun x=>X.vals.length-x.1) (0,1000) ?_ (Nat.zero_le _) ?_
   . refine Wk.forget (by simp [Fg,List.replicate]) (fun j => ?_) (by omega)
     by_cases h0:j=[0]
     . subst h0;right;simp [aa.put,FX.sz]
     by_cases h1:j=[1]
     . subst h1;right;simp [aa.put];rfl
     by_cases h2:j=[5,7]
     . subst h2;right;simp [aa.put]
     . left;simp [aa.put,h0,h1,h2]
   rintro ⟨i,nn⟩ hi
   simp only [] at hi
   have k0:([0]:List Nat)≠[5,7]:=by decide
   have k1:([1]:List Nat)≠[5,7]:=by decide
   by_cases hlt:i<X.vals.length
   . obtain ⟨x,Qa⟩:∃ x,X.vals[i]? = some x:=⟨_,List.getElem?_eq_getElem hlt⟩
     have dd:decide ((i:Int)<(X.vals.length:Int))=true:=ai (by omega)
     have hg:(EX.dy X.vals)[i]? = some x.av:=by rw [EX.bY,List.getElem?_map,Qa];rfl
     have UC:∀ σ : aa,fX (σ.put [5,7] (some ⟨EX.dy X.vals,7,false⟩)) true 7 (.ref [5,7] i 0)=some { val:=x.av,rd:=[[5,7]] }:=fun σ => by
       rw [gO (aa.a6 _ _ _) hg,EX.all];rfl
     have Uu:=hx x (List.mem_of_getElem? Qa)
     simp only [SS,DD,Nat.reduceAdd,List.replicate,dd,ay lG,ay k0,ak,wP.q3 _ qU,dV hlt,UC]
     refine dG Uu (by simp [EX.pure]) ?_
     simp only [SS,DD,Nat.reduceAdd,dV hlt]
     rw [ot (x:=x.av) (aa.a6 _ _ _) hg (EX.size x) (EX.size x) (of_eq_true (EX.one x)) (by cases x;rw [EX.av];rfl),xX hg]
     simp only [SS,DD,Nat.reduceAdd]
     refine ⟨by simp [aJ,apart], ?_⟩
     simp only [ao i (by omega)]
     refine ⟨(i+1,nn+1000),by simp only [];omega,by simp only [];omega,Wk.forget (by simp [Fg]) (fun j => .inr ?_) (by omega)⟩
     by_cases h2:j=[5,7]
     . subst h2;simp [aa.put]
     . simp [aa.put,h2]
   . have dd:decide ((i:Int)<(X.vals.length:Int))=false:=ag (by omega)
     have fK:i=X.vals.length:=by omega
     simp only [SS,Nat.reduceAdd,List.replicate,dd,ay lG,ay k0,ak,wP.all]
     rw [dw (n:=5) (v:=wP X (.osl [5,7] 7 0 X.vals.length false)) (els:=[.agg [.str [], .int .i64 0, .nils, .nils, .bool false]]) (el := .agg [.str [], .int .i64 0, .nils, .nils, .bool false]) (k:=5) (by simp [aa.put]) rfl rfl (by simp [AV.size,AV.cells]) (wP.one _ _ rfl),wP.upd]
     simp only [SS,Nat.reduceAdd]
     rw [<- wP.eq]
     refine ah▸⟨wP X (.osl [5,7] 7 0 X.vals.length false), ?_,wP.view X (View.osl (bk:=⟨EX.dy X.vals,7,false⟩) (by simp [aa.put]) rfl (by simp [EX.cL]) ?_ (EX.cL _) (fun d hd => ?_))⟩
     . simp only [RS,fY,iR,ak,wP.all]
     . have e:(EX.dy X.vals).take X.vals.length=EX.dy X.vals:=List.take_of_length_le (by rw [EX.cL];exact Nat.le_refl _)
       simp only [List.drop_zero,e]
       refine aI.pure fun c hc => ?_
       simp only [flat,List.mem_flatMap] at hc
       obtain ⟨v,hv,hc⟩:=hc
       rw [EX.bY] at hv
       obtain ⟨y,_,rfl⟩:=List.mem_map.1 hv
       exact EX.fP y c hc
     . rw [EX.bY] at hd
       obtain ⟨y,_,rfl⟩:=List.mem_map.1 hd
       exact EX.size y
end
def cM (l:List FX) (nm:List UInt8):Int:=vW (l.findIdx? fun X=>X.name==nm)
def eM (l:List FX) (i:Nat):List FX:=l.take i++l.drop (i+1)
def dW (X:FX):List (List UInt8):=if X.valid=true then uV (X.inputs.map fun s=>(eK s).getD []) else []
def bW (l:List FX):List (List UInt8):=l.map (·.name)
def AJ (l:List FX) (i:Nat):Bool:=match l[i]? with
 | none=>true
 | some X=>X.valid && !(bW (l.take i)).contains X.name&&(dW X).all fun n=>(bW (l.take i)).contains n
def eZ (l:List FX):Bool:=((List.range l.length).all (AJ l))&&decide (l.length<=200)
theorem lV (l:List FX):((l.map FX.av).all fun e=>e.cells.all AV.one)=true:=by
 rw [List.all_eq_true];intro e he;obtain ⟨X,_,rfl⟩:=List.mem_map.1 he;exact of_eq_true (FX.one X)
theorem kS {σ : aa} {id:Id} {l:List FX} {t:Bool} (h : σ id=some ⟨l.map FX.av,5,false⟩):View σ (.osl id 5 0 l.length t) (bT l):=by
 refine View.osl (bk:=⟨l.map FX.av,5,false⟩) h rfl (by simp) ?_ (by simp) (fun d hd => ?_)
 . have e:(l.map FX.av).take l.length=l.map FX.av:=List.take_of_length_le (by simp)
   simp only [List.drop_zero,e]
   refine aI.pure fun c hc => ?_
   simp only [flat,List.mem_flatMap] at hc
   obtain ⟨v,hv,hc⟩:=hc
   obtain ⟨y,_,rfl⟩:=List.mem_map.1 hv
   exact FX.fP y c hc
 . obtain ⟨y,_,rfl⟩:=List.mem_map.1 hd
   rfl
section
variable {P:Program} {G:Nat->Option (List AV)}
theorem IY {f:FuncId} (h:Has P f gY) (l:List FX) (nm:List UInt8) (hl:l.length<=1000000):VP P G f [bT l, .str nm] (.int .i64 (cM l nm)):=by
 refine VP.has h ?_
 simp only [gY,SS,Nat.reduceAdd,az]
 refine VW.bG (α := Nat × Nat) (fun x=>⟨[bT l, .str nm, .top, .top, .int .i64 0, .int .i64 (x.1:Int)]++List.replicate 14 .top,fun _=>none,x.2⟩)
   (fun x=>x.1<=l.length/\∀ (j:Nat) X,j<x.1->l[j]? = some X->(X.name==nm)=false) (fun x=>l.length-x.1) (0,1000) ?_ ⟨Nat.zero_le _,fun j X hj=>absurd hj (Nat.not_lt_zero j)⟩ ?_
 . exact Wk.slots (by simp [Fg,List.replicate]) (by omega)
 rintro ⟨i,nn⟩ ⟨hi,hn⟩
 simp only [] at hi hn
 by_cases hlt:i<l.length
 . obtain ⟨X,hX⟩:∃ X,l[i]? = some X:=⟨_,List.getElem?_eq_getElem hlt⟩
   have dd:decide ((i:Int)<(l.length:Int))=true:=ai (by omega)
   have hg:(l.map FX.av)[i]? = some X.av:=by rw [List.getElem?_map,hX];rfl
   have fT:aV 5 (bT l) (.int .i64 (i:Int))=some (.ep X.av.cells 0):=aN rfl hg
   simp only [SS,Nat.reduceAdd,List.replicate,bO,dd,fT,ax,FX.c0]
   cases Ru:(X.name==nm)
   . simp only [SS,Nat.reduceAdd,ao i (by omega)]
     refine ⟨(i+1,nn+1000),⟨by simp only [];omega, ?_⟩,by simp only [];omega,Wk.slots (by simp [Fg]) (by omega)⟩
     intro j X' hj u7
     by_cases AX:j<i
     . exact hn j X' AX u7
     . have:j=i:=by simp only [] at hj;omega
       subst this;rw [hX] at u7;simp only [Option.some.injEq] at u7;subst u7;exact Ru
   . simp only [SS,Nat.reduceAdd]
     rw [cM,nH hX Ru hn]
     exact ah▸ae rfl (af.int _ _)
 . have dd:decide ((i:Int)<(l.length:Int))=false:=ag (by omega)
   simp only [SS,Nat.reduceAdd,List.replicate,bO,dd]
   rw [cM,nG (fun j e hj=>hn j e (by have:=(List.getElem?_eq_some_iff.1 hj).1;omega) hj)]
   exact ah▸ae rfl (af.int _ _)
theorem nJ {l:List FX} {h:Nat} (hh:h<=l.length):bR 5 (bT l) none (some (.int .i64 (h:Int))) none=some (bT (l.take h)):=by
 simp [bR,cm,dT,bT,hh,List.map_take]
theorem nK {l:List FX} {h:Nat} (hh:h<=l.length):bR 5 (bT l) (some (.int .i64 (h:Int))) none none=some (bT (l.drop h)):=by
 simp [bR,cm,dT,bT,hh,List.map_drop]
 rw [List.take_of_length_le (by simp)]
theorem EM {σ : aa} {l:List FX}:dB σ 5 (bT l)=some (l.map FX.av,[]):=dM
theorem Gq {σ : aa} {p:Id} {l m:List FX} (hm:m≠[]) (hl:l.length+m.length<=1000000):bQ σ p 5 80 (.tsl 5 (l.map FX.av)) (bT m)=some { val := .osl p 5 0 (l++m).length false,rd:=[],up:=[(p,some ⟨(l++m).map FX.av,5,false⟩)] }:=by
 have h1:=lV (l++m)
 rw [List.map_append] at h1
 rw [cY EM (by simpa using hm) (by simp;omega) (bE (by simp;omega)) h1]
 simp
theorem M1 {σ : aa} {p id:Id} {l m:List FX} (h : σ id=some ⟨l.map FX.av,5,false⟩) (hm:m≠[]) (hl:l.length+m.length<=1000000):bQ σ p 5 80 (.osl id 5 0 l.length false) (bT m)=some { val := .osl p 5 0 (l++m).length false,rd:=[id],up:=[(id,none),(p,some ⟨(l++m).map FX.av,5,false⟩)] }:=by
 rw [jf (els:=l.map FX.av) EM (by simpa using hm) h (by simp) (by simp;omega) (bE (by simp;omega)) (lV _) (lV _)]
 simp
theorem ue {σ : aa}:dB σ 5 (bT [])=some ([],[]):=rfl
theorem U1 {f:FuncId} (h:Has P f ko) (l:List FX) (i:Nat) (hi:i<l.length) (hl:l.length<=1000):VP P G f [bT l, .int .i64 (i:Int)] (bT (eM l i)):=by
 have hb:∀ (σ : aa) (p:Id),bu σ p (.buildSl 5 0 (.agg [(.str []),(.int .i64 0), .nils, .nils,(.bool false)]) [])=some { val := .tsl 5 [] }:=fun σ p=>Wp rfl rfl
 have e1:IntKind.i64.wrap ((i:Int)+1)=((i+1:Nat):Int):=ao i (by omega)
 refine VP.has h ?_
 unfold eM
 simp only [ko,SS,DD,Nat.reduceAdd,hb,nJ (Nat.le_of_lt hi)]
 by_cases h0:l.take i=[]
 . rw [h0,gR ue]
   simp only [SS,DD,Nat.reduceAdd,e1,nK (show i+1<=l.length from hi)]
   by_cases h1:l.drop (i+1)=[]
   . rw [h1,gR ue]
     simp only [SS,DD,Nat.reduceAdd]
     refine ⟨by simp [aJ,apart], ?_⟩
     exact ah▸⟨_,rfl,View.FK 5⟩
   . rw [show (AV.tsl 5 []) = .tsl 5 (([]:List FX).map FX.av) from rfl,Gq h1 (by simp;omega)]
     simp only [SS,DD,Nat.reduceAdd]
     refine ⟨by simp [aJ,apart], ?_⟩
     exact ah▸⟨_,rfl,kS (by simp [aa.put])⟩
 . rw [show (AV.tsl 5 []) = .tsl 5 (([]:List FX).map FX.av) from rfl,Gq h0 (by simp;omega)]
   simp only [SS,DD,Nat.reduceAdd,e1,nK (show i+1<=l.length from hi)]
   by_cases h1:l.drop (i+1)=[]
   . rw [h1,rB ue]
     simp only [SS,DD,Nat.reduceAdd]
     refine ⟨by simp [aJ,apart], ?_⟩
     exact ah▸⟨_,rfl,kS (by simp [aa.put])⟩
   . rw [M1 (by simp [aa.put]) h1 (by simp;omega)]
     simp only [SS,DD,Nat.reduceAdd]
     refine ⟨by simp [aJ,apart], ?_⟩
     exact ah▸⟨_,rfl,kS (by simp [aa.put])⟩
end
theorem zm {l:List FX} {i:Nat} (hi:i<l.length) (h:AJ l i=false):eZ l=false:=by
 unfold eZ
 have e:(List.range l.length).all (AJ l)=false:=by
   rw [List.all_eq_false]
   exact ⟨i,List.mem_range.2 hi,by rw [h];decide⟩
 rw [e,Bool.false_and]
theorem K1 {l:List FX} (h:∀ i,i<l.length->AJ l i=true):eZ l=decide (l.length<=200):=by
 unfold eZ
 have e:(List.range l.length).all (AJ l)=true:=by
   rw [List.all_eq_true]
   exact fun i hi=>h i (List.mem_range.1 hi)
 rw [e,Bool.true_and]
theorem K2 (l:List FX):(bW l).length=l.length:=List.length_map ..
section
variable {P:Program} {G:Nat->Option (List AV)} {π : Id} {base:Nat} {Q:bB->VS->Prop} {n:Nat} {d:Option Nat} {os:List bg} {i:Nat} {t:List AV} {σ : aa}
theorem R9 {ck:Nat} {l:List (List UInt8)} (hne:l≠[]):View (aa.of [([ck],⟨l.map .str,1,false⟩)]) (uT ck l) (strs l):=by
 rw [show uT ck l = .osl [ck] 1 0 l.length false from if_neg hne]
 refine View.osl (bk:=⟨l.map .str,1,false⟩) (by simp [aa.of]) rfl (by simp) ?_ (by simp) (fun d hd => ?_)
 . have e:(l.map AV.str).take l.length=l.map AV.str:=List.take_of_length_le (by simp)
   simp only [List.drop_zero,e]
   rw [tV]
   exact aI.pure fun c hc=>by obtain ⟨s,_,rfl⟩:=List.mem_map.1 hc;exact af.str s
 . obtain ⟨s,_,rfl⟩:=List.mem_map.1 hd;rfl
theorem CB {fh:FuncId} (hh:∀ (l:List (List UInt8)) (s:List UInt8),l.length<=1000000->VP P G fh [strs l, .str s] (.bool (l.contains s))) {ck:Nat} {l:List (List UInt8)} {s:List UInt8} (hl:l.length<=1000000)
   (hσ : l≠[] -> σ [ck]=some ⟨l.map .str,1,false⟩) (k:vs P G π base Q n os (i+1) (fL t d (.bool (l.contains s))) σ):nW P G π base Q n d os i t σ fh [uT ck l, .str s]:=by
 by_cases h0:l=[]
 . subst h0
   exact ig [] (hh [] s (by simp)) (aI.cons (View.nils 1) (aI.cons (View.pure (af.str s)) .nil)) (aS.bool _) (by simp) k
 . exact ig [([ck],⟨l.map .str,1,false⟩)] (hh l s hl) (aI.cons (R9 h0) (aI.cons (View.pure (af.str s)) .nil)) (aS.bool _) (by simpa using hσ h0) k
set_option maxHeartbeats 1000000 in
theorem U2 {f fv fh fn:FuncId} (h:Has P f (jS fv fh fn)) (l:List FX) (hl:l.length<=1000) (hv:∀ X∈l,VP P G fv [X.av] (.bool X.valid)) (hn:∀ X∈l,VP P G fn [X.av] (strs (dW X))) (vN:∀ X∈l,(dW X).length<=1000)
   (hh:∀ (l:List (List UInt8)) (s:List UInt8),l.length<=1000000->VP P G fh [strs l, .str s] (.bool (l.contains s))):VP P G f [bT l] (.bool (eZ l)):=by
 refine VP.has h ?_
 simp only [jS,SS,Nat.reduceAdd,az]
 refine VW.bG (α := Nat × Nat × Nat) (fun x=>⟨[bT l, .top, .bool false,uT x.2.1 (bW (l.take x.1)), .int .i64 (x.1:Int)]++List.replicate 52 .top,
     aa.put (fun _=>none) [x.2.1] (if bW (l.take x.1)=[] then none else some ⟨(bW (l.take x.1)).map .str,1,false⟩),x.2.2⟩)
   (fun x=>x.1<=l.length/\x.2.1<x.2.2/\∀ j,j<x.1->AJ l j=true) (fun x=>l.length-x.1) (0,0,1000) ?_ ⟨Nat.zero_le _,by simp only [];omega,fun j hj=>absurd hj (Nat.not_lt_zero j)⟩ ?_
 . refine Wk.forget (by simp [Fg,List.replicate,uT,bW]) (fun j => ?_) (by simp only [];omega)
   left;simp [aa.put,bW]
 rintro ⟨i,ck,nn⟩ ⟨hi,RN,cx⟩
 simp only [] at hi RN cx
 have afi:(bW (l.take i)).length=i:=by rw [K2,List.length_take];omega
 by_cases hlt:i<l.length
 case neg =>
   have dd:decide ((i:Int)<(l.length:Int))=false:=ag (by omega)
   have d2:decide ((l.length:Int)<=200)=decide (l.length<=200):=by
     by_cases q:l.length<=200
     . rw [ai q,ai (by omega)]
     . rw [ag q,ag (by omega)]
   simp only [SS,Nat.reduceAdd,List.replicate,bO,dd,d2]
   rw [K1 fun j hj=>cx j (by omega)]
   exact ah▸ae rfl (af.bool _)
 obtain ⟨X,hX⟩:∃ X,l[i]? = some X:=⟨_,List.getElem?_eq_getElem hlt⟩
 have hm:=List.mem_of_getElem? hX
 have dd:decide ((i:Int)<(l.length:Int))=true:=ai (by omega)
 have hg:(l.map FX.av)[i]? = some X.av:=by rw [List.getElem?_map,hX];rfl
 have fT:aV 5 (bT l) (.int .i64 (i:Int))=some (.ep X.av.cells 0):=aN rfl hg
 have dI:AJ l i=(X.valid && !(bW (l.take i)).contains X.name&&(dW X).all fun n=>(bW (l.take i)).contains n):=by unfold AJ;rw [hX]
 have pD:bW (l.take (i+1))=bW (l.take i)++[X.name]:=by rw [List.take_add_one,hX];simp [bW]
 have l0:=hv X hm
 have Xm:=hn X hm
 have afj:=vN X hm
 generalize wu:bW (l.take i)=names at afi dI pD
 have hσ : names≠[]->(aa.put (fun _=>none) [ck] (if names=[] then none else some ⟨names.map .str,1,false⟩)) [ck]=some ⟨names.map .str,1,false⟩:=fun q=>by rw [aa.a6,if_neg q]
 simp only [SS,Nat.reduceAdd,List.replicate,bO,dd,fT,ax,FX.whole]
 have sM:af X.av:=FX.pure X
 refine aj l0 (by simp [sM]) ?_
 cases hval:X.valid
 . simp only [SS,Nat.reduceAdd]
   rw [zm hlt (by rw [dI,hval,Bool.false_and,Bool.false_and])]
   exact ah▸ae rfl (af.bool _)
 simp only [SS,Nat.reduceAdd,fT,ax,FX.c0]
 refine CB hh (by omega) hσ ?_
 cases RQ:names.contains X.name
 case true =>
   simp only [SS,Nat.reduceAdd]
   rw [zm hlt (by rw [dI,RQ,Bool.not_true,Bool.and_false,Bool.false_and])]
   exact ah▸ae rfl (af.bool _)
 rw [hval,RQ,Bool.true_and,Bool.not_false,Bool.true_and] at dI
 simp only [SS,Nat.reduceAdd,fT,ax,FX.whole]
 refine aj Xm (by simp [sM]) ?_
 simp only [SS,Nat.reduceAdd,az]
 refine VW.bG (α := Nat × Nat) (fun z=>⟨[bT l, .top, .bool false,uT ck names, .int .i64 (i:Int),strs (dW X), .int .i64 (z.1:Int)]++List.replicate 50 .top,
     aa.put (fun _=>none) [ck] (if names=[] then none else some ⟨names.map .str,1,false⟩),z.2⟩)
   (fun z=>z.1<=(dW X).length/\ck<z.2/\∀ (j:Nat) s,j<z.1->(dW X)[j]? = some s->names.contains s=true) (fun z=>(dW X).length-z.1) (0,nn+1000) ?_ ⟨Nat.zero_le _,by simp only [];omega,fun j s hj=>absurd hj (Nat.not_lt_zero j)⟩ ?_
 . exact Wk.slots (by simp [Fg,List.replicate]) (by simp only [];omega)
 rintro ⟨k,mm⟩ ⟨hk,Dh,w6⟩
 simp only [] at hk Dh w6
 by_cases FV:k<(dW X).length
 . obtain ⟨s,hs⟩:∃ s,(dW X)[k]? = some s:=⟨_,List.getElem?_eq_getElem FV⟩
   have d1:decide ((k:Int)<((dW X).length:Int))=true:=ai (by omega)
   have hgx:((dW X).map AV.str)[k]? = some (.str s):=by rw [List.getElem?_map,hs];rfl
   have lD:aV 1 (strs (dW X)) (.int .i64 (k:Int))=some (.ep (AV.str s).cells 0):=aN rfl hgx
   have Gh:part false (AV.str s).cells 0 1=some (.str s):=rfl
   simp only [SS,Nat.reduceAdd,List.replicate,dC,d1,lD,ax,Gh]
   refine CB hh (by omega) hσ ?_
   cases hcs:names.contains s
   . simp only [SS,Nat.reduceAdd]
     rw [zm hlt (by
       rw [dI,List.all_eq_false]
       exact ⟨s,List.mem_of_getElem? hs,by rw [hcs];decide⟩)]
     exact ah▸ae rfl (af.bool _)
   . simp only [SS,Nat.reduceAdd,ao k (by omega)]
     refine ⟨(k+1,mm+1000),⟨by simp only [];omega,by simp only [];omega, ?_⟩,by simp only [];omega,Wk.slots (by simp [Fg]) (by simp only [];omega)⟩
     intro j s' hj O4
     by_cases AX:j<k
     . exact w6 j s' AX O4
     . have:j=k:=by simp only [] at hj;omega
       subst this;rw [hs] at O4;simp only [Option.some.injEq] at O4;subst O4;exact hcs
 have YA:AJ l i=true:=by
   rw [dI,List.all_eq_true]
   intro s hs
   obtain ⟨j,hj,O4⟩:=List.getElem_of_mem hs
   exact w6 j s (by omega) (by rw [List.getElem?_eq_getElem hj,O4])
 have d1:decide ((k:Int)<((dW X).length:Int))=false:=ag (by omega)
 have Ae:∀ j,j<i+1->AJ l j=true:=fun j hj=>by
   by_cases AX:j<i
   . exact cx j AX
   . rw [show j=i from by omega];exact YA
 simp only [SS,Nat.reduceAdd,List.replicate,dC,d1,fT,ax,FX.c0,r6]
 by_cases h0:names=[]
 . have e0:uT ck names = .nils:=if_pos h0
   simp only [e0,mR,SS,Nat.reduceAdd,ao i (by omega)]
   refine ⟨(i+1,mm+4+6+1,mm+1000),⟨by simp only [];omega,by simp only [];omega,Ae⟩,by simp only [];omega, ?_⟩
   simp only [pD,h0,List.nil_append,uT,List.cons_ne_nil,if_false,List.length_singleton,List.map_cons,List.map_nil]
   refine Wk.forget (by simp [Fg]) (fun j => ?_) (by omega)
   by_cases h1:j=[mm+4+6+1]
   . subst h1;right;simp [aa.put]
   . left;simp [aa.put,h1]
 . have e0:uT ck names = .osl [ck] 1 0 names.length false:=if_neg h0
   have yD:∀ (p q:Id),q≠[ck]->bQ ((aa.put (fun _=>none) [ck] (if names=[] then none else some ⟨names.map .str,1,false⟩)).put q (some ⟨[.str X.name],1,false⟩)) p 1 16 (.osl [ck] 1 0 names.length false) (.osl q 1 0 1 false)=some { val := .osl p 1 0 (names.length+1) false,rd:=[[ck],q],up:=[([ck],none),(p,some ⟨(names++[X.name]).map .str,1,false⟩)] } :=
     fun p q hq=>xU hq (by omega) (by rw [aa.a6,if_neg h0])
   have hq:([mm+4+6]:List Nat)≠[ck]:=by intro e;simp at e;omega
   have IE : ¬ names++[X.name]=[]:=by simp
   simp only [e0,yD _ _ hq,SS,Nat.reduceAdd,ao i (by omega)]
   refine ⟨(i+1,mm+4+6+1,mm+1000),⟨by simp only [];omega,by simp only [];omega,Ae⟩,by simp only [];omega, ?_⟩
   simp only [pD,uT,if_neg IE,List.length_append,List.length_singleton]
   refine Wk.forget (by simp [Fg]) (fun j => ?_) (by omega)
   by_cases h1:j=[mm+4+6+1]
   . subst h1;right;simp [aa.put]
   . left;simp [aa.put,h1]
end
structure OX where
 kind:Nat
 F:FX
 name:List UInt8
 on:Bool
 pH:Int
def OX.av (o:OX):AV := .agg [.int .u8 (o.kind:Int), .str o.F.name, .int .i64 o.F.kind,strs o.F.inputs, .sl 7 (EX.dy o.F.vals), .bool o.F.supp, .str o.name, .bool o.on, .int .i64 o.pH]
theorem OX.one (o:OX):(o.av.cells.all AV.one=true)=True:=by simp [OX.av,AV.cells,AV.one,strs]
theorem OX.sz (o:OX):o.av.size=9:=rfl
theorem OX.p0 (o:OX):part false o.av.cells 0 1=some (.int .u8 (o.kind:Int)):=rfl
theorem OX.pF (o:OX):part true o.av.cells 1 5=some o.F.av:=rfl
theorem OX.p1 (o:OX):part false o.av.cells 1 1=some (.str o.F.name):=rfl
theorem OX.p6 (o:OX):part false o.av.cells 6 1=some (.str o.name):=rfl
theorem OX.whole (o:OX):part true o.av.cells 0 9=some o.av:=rfl
theorem OX.pure (o:OX):af o.av:=af.agg (by
 intro c hc
 simp at hc
 rcases hc with rfl | rfl | rfl | rfl | rfl | rfl | rfl | rfl | rfl
 . exact af.int _ _
 . exact af.str _
 . exact af.int _ _
 . exact gq _
 . exact EX.fQ _
 . exact af.bool _
 . exact af.str _
 . exact af.bool _
 . exact af.int _ _)
theorem K3 (k:Nat):bn .rem .int (.int .u8 (k:Int)) (.int .u8 7)=some (.int .u8 ((k%7:Nat):Int)):=by
 have e:((k:Int).tmod 7)=((k%7:Nat):Int):=by rw [Int.tmod_eq_emod_of_nonneg (by omega)];omega
 have e2:IntKind.u8.wrap ((k%7:Nat):Int)=((k%7:Nat):Int):=by
   have:∀ r:Nat,r<7->IntKind.u8.wrap (r:Int)=(r:Int):=by decide
   exact this _ (Nat.mod_lt _ (by decide))
 simp [bn,j3,qw,e]
def FX.bD (X:FX) (b:Bool):FX:={ X with supp:=b }
def l5 (l:List FX) (i:Nat) (X:FX):List FX:=l.take i++[X]++l.drop i
def bX (l:List FX) (o:OX):List FX × Int :=
 if o.kind%7=0 then (if o.F.valid=false then ([],1) else if 200<=l.length then ([],3) else if 0<=cM l o.F.name then ([],5) else if eZ (l++[o.F])=true then (l++[o.F],0) else ([],4))
 else if o.kind%7=1 then (if o.F.valid=false then ([],1) else if cM l o.F.name<0 then ([],4) else if eZ (l.set (cM l o.F.name).toNat o.F)=true then (l.set (cM l o.F.name).toNat o.F,0) else ([],4))
 else if o.kind%7=3/\(o.pH<0∨(l.length:Int)<=o.pH) then ([],1)
 else if cM l o.name<0 then ([],4)
 else
   let i:=(cM l o.name).toNat
   let X:=l.getD i ⟨[],0,[],[],false⟩
   let out:=if o.kind%7=2 then l5 (eM l i) i (X.bD o.on) else if o.kind%7=3 then l5 (eM l i) o.pH.toNat X else eM l i
   if eZ out=true then (out,0) else ([],14)
theorem mS {σ : aa} {q:Id} {X:FX} (h : σ q=some ⟨[X.av],5,false⟩):dB σ 5 (.osl q 5 0 1 false)=some ([X.av],[q]):=dY (bk:=⟨[X.av],5,false⟩) h rfl (by simp)
theorem Sa {σ : aa} {p q:Id} {l:List FX} {X:FX} (h : σ q=some ⟨[X.av],5,false⟩) (hl:l.length<=100000):bQ σ p 5 80 (.tsl 5 (l.map FX.av)) (.osl q 5 0 1 false)=some { val := .osl p 5 0 (l++[X]).length false,rd:=[q],up:=[(p,some ⟨(l++[X]).map FX.av,5,false⟩)] }:=by
 have h1:=lV (l++[X])
 rw [List.map_append] at h1
 rw [cY (ys:=[X.av]) (mS h) (by simp) (by simp;omega) (bE (by simp;omega)) h1]
 simp
theorem IZ {σ : aa} {p id q:Id} {l:List FX} {X:FX} (h : σ id=some ⟨l.map FX.av,5,false⟩) (hq : σ q=some ⟨[X.av],5,false⟩) (hl:l.length<=100000):bQ σ p 5 80 (.osl id 5 0 l.length false) (.osl q 5 0 1 false)=some { val := .osl p 5 0 (l++[X]).length false,rd:=[id,q],up:=[(id,none),(p,some ⟨(l++[X]).map FX.av,5,false⟩)] }:=by
 rw [jf (els:=l.map FX.av) (ys:=[X.av]) (mS hq) (by simp) h (by simp) (by simp;omega) (bE (by simp;omega)) (lV [X]) (lV _)]
 simp
theorem WK {σ : aa} {q:Id} {X:FX}:bu σ q (.buildSl 5 1 (.agg [(.str []),(.int .i64 0), .nils, .nils,(.bool false)]) [(0,X.av)])=some { val := .osl q 5 0 1 false,up:=[(q,some ⟨[X.av],5,false⟩)] } :=
 XA rfl (of_eq_true (FX.one X)) rfl rfl
theorem abK {σ : aa} {q:Id}:bu σ q (.buildSl 5 0 (.agg [(.str []),(.int .i64 0), .nils, .nils,(.bool false)]) [])=some { val := .tsl 5 [] }:=Wp rfl rfl
theorem iY {l:List FX} {nm:List UInt8} (h : ¬ cM l nm<0):∃ i:Nat,cM l nm=(i:Int)/\i<l.length:=by
 unfold cM at h ⊢
 cases hf:l.findIdx? fun X=>X.name==nm with
 | none=>rw [hf] at h;exact absurd (by decide:vW none<0) h
 | some i=>exact ⟨i,rfl,(List.findIdx?_eq_some_iff_findIdx_eq.1 hf).1⟩
theorem EN {σ : aa} {x:AV} {l:List FX} {e:Int} (h:View σ x (bT l)):View σ (.tup [x, .int .i64 e]) (.tup [bT l, .int .i64 e]) :=
 View.tup (.cons h (.cons (View.pure (af.int _ _)) .nil))
section
variable {P:Program} {G:Nat->Option (List AV)} {π : Id} {base:Nat} {Q:bB->VS->Prop} {n:Nat} {d:Option Nat} {os:List bg} {i:Nat} {t:List AV} {σ : aa}
theorem K4 {f:FuncId} {l:List FX} {id:Id} {tt:Bool} {r:AV} (h:VP P G f [bT l] r) (hf:aS r) (hσ : σ id=some ⟨l.map FX.av,5,false⟩) (k:vs P G π base Q n os (i+1) (fL t d r) σ):nW P G π base Q n d os i t σ f [.osl id 5 0 l.length tt] :=
 ig [(id,⟨l.map FX.av,5,false⟩)] h (aI.cons (kS (by simp [aa.of])) .nil) hf (by simpa using hσ) k
end
section
variable {P:Program} {G:Nat->Option (List AV)}
theorem map_set (l:List FX) (i:Nat) (X:FX):(l.map FX.av).set i X.av=(l.set i X).map FX.av:=by rw [List.map_set]
end
theorem FX.abL (X:FX):(AV.agg [.str [], .int .i64 0, .nils, .nils, .bool false]).upd 0 X.av.cells=X.av:=rfl
theorem mU {l:List FX} {i:Nat} (h:i<l.length):(eM l i).length+1=l.length:=by
 simp [eM];omega
theorem xY {l:List FX} {i:Nat} {X:FX} (h:i<=l.length):(l5 l i X).length=l.length+1:=by
 simp [l5];omega
theorem wx {σ : aa} {id:Id} {X:FX} {k:Nat} (h : σ id=some ⟨[.agg [.str [], .int .i64 0, .nils, .nils, .bool false]],k,false⟩):eO σ 5 (.ref id 0 0) X.av=some { val := .tup [],rd:=[id],up:=[(id,some ⟨[X.av],k,false⟩)] }:=by
 rw [dw (n:=5) (v:=X.av) h rfl rfl (by simp [AV.size,AV.cells]) (of_eq_true (FX.one X)),FX.abL]
 rfl
theorem zn {aU:FX->Prop} {l:List FX} {i:Nat} (hg:∀ Y∈l,aU Y):∀ Y∈eM l i,aU Y:=by
 intro Y hY
 unfold eM at hY
 rcases List.mem_append.1 hY with h | h
 . exact hg Y (List.mem_of_mem_take h)
 . exact hg Y (List.mem_of_mem_drop h)
theorem EO {aU:FX->Prop} {m:List FX} {j:Nat} {X:FX} (hg:∀ Y∈m,aU Y) (hX:aU X):∀ Y∈l5 m j X,aU Y:=by
 intro Y hY
 unfold l5 at hY
 simp only [List.mem_append,List.mem_singleton] at hY
 rcases hY with (h | h) | h
 . exact hg Y (List.mem_of_mem_take h)
 . rw [h];exact hX
 . exact hg Y (List.mem_of_mem_drop h)
def r9 (ls:List (List FX)):AV := .sl 1 (ls.map bT)
def b8 (ls:List (List FX)) (a:Nat):AV := .agg [r9 ls, .int .i64 (a:Int)]
theorem EP (l:List FX):(bT l).cells=[bT l]:=rfl
theorem Sb (ls:List (List FX)):flat (ls.map bT)=ls.map bT:=by
 induction ls with
 | nil=>rfl
 | cons l ls ih=>simp only [List.map_cons,flat,List.flatMap_cons,EP] at ih ⊢;rw [ih];rfl
theorem xZ (ls:List (List FX)):ky false (r9 ls)=some (.int .i64 (ls.length:Int)):=by simp [r9,ky]
theorem K5 (ls:List (List FX)):∀ c∈ls.map bT,af c:=fun c hc=>by
 obtain ⟨l,_,rfl⟩:=List.mem_map.1 hc;exact kr l
theorem x7 (ls:List (List FX)):((ls.map bT).all fun e=>e.cells.all AV.one)=true:=by
 rw [List.all_eq_true];intro e he;obtain ⟨l,_,rfl⟩:=List.mem_map.1 he;rfl
theorem O5 (ls:List (List FX)) (a:Nat):((b8 ls a).cells.all AV.one=true)=True:=by simp [b8,AV.cells,AV.one,r9]
theorem CC (ls:List (List FX)) (a:Nat):part false (b8 ls a).cells 0 1=some (r9 ls):=rfl
theorem CD (ls:List (List FX)) (a:Nat):part false (b8 ls a).cells 1 1=some (.int .i64 (a:Int)):=rfl
theorem ER (ls:List (List FX)) (a:Nat):part true (b8 ls a).cells 0 2=some (b8 ls a):=rfl
theorem A6 {ls:List (List FX)} {a:Nat} {l:List FX} (h:ls[a]? = some l):aV 1 (r9 ls) (.int .i64 (a:Int))=some (.ep (bT l).cells 0):=aN rfl (by rw [List.getElem?_map,h];rfl)
theorem I0 (l:List FX):part false (bT l).cells 0 1=some (bT l):=rfl
theorem ES {σ : aa} {id:Id} {ls:List (List FX)} {t:Bool} (h : σ id=some ⟨ls.map bT,1,false⟩):View σ (.osl id 1 0 ls.length t) (r9 ls):=by
 refine View.osl (bk:=⟨ls.map bT,1,false⟩) h rfl (by simp) ?_ (by simp) (fun d hd => ?_)
 . have e:(ls.map bT).take ls.length=ls.map bT:=List.take_of_length_le (by simp)
   simp only [List.drop_zero,e,Sb]
   exact aI.pure (K5 ls)
 . obtain ⟨y,_,rfl⟩:=List.mem_map.1 hd
   rfl
theorem vD {ls:List (List FX)} {h:Nat} (hh:h<=ls.length):bR 1 (r9 ls) none (some (.int .i64 (h:Int))) none=some (r9 (ls.take h)):=by
 simp [bR,cm,dT,r9,hh,List.map_take]
theorem I1 {σ : aa} {p:Id} {m:List (List FX)} (hm:m≠[]) (hl:m.length<=1000000):bQ σ p 1 24 (.tsl 1 []) (r9 m)=some { val := .osl p 1 0 m.length false,rd:=[],up:=[(p,some ⟨m.map bT,1,false⟩)] }:=by
 rw [cY (es:=[]) (ys:=m.map bT) (x:=r9 m) (rd:=[]) dM (by simpa using hm) (by simp;omega) (bE (by simp;omega)) (by simpa using x7 m)]
 simp
theorem O6 {σ : aa} {p id q:Id} {ls:List (List FX)} {l:List FX} (h : σ id=some ⟨ls.map bT,1,false⟩) (hq : σ q=some ⟨[bT l],1,false⟩) (hl:ls.length<=100000):bQ σ p 1 24 (.osl id 1 0 ls.length false) (.osl q 1 0 1 false)=some { val := .osl p 1 0 (ls++[l]).length false,rd:=[id,q],up:=[(id,none),(p,some ⟨(ls++[l]).map bT,1,false⟩)] }:=by
 rw [jf (els:=ls.map bT) (ys:=[bT l]) (dY (bk:=⟨[bT l],1,false⟩) hq rfl (by simp)) (by simp) h (by simp) (by simp;omega) (bE (by simp;omega)) rfl (x7 _)]
 simp
theorem abM {σ : aa} {q:Id} {l:List FX}:bu σ q (.buildSl 1 1 .nils [(0,bT l)])=some { val := .osl q 1 0 1 false,up:=[(q,some ⟨[bT l],1,false⟩)] }:=XA rfl rfl rfl rfl
theorem O7 (x:AV) (b:Nat):(AV.agg [.nils, .int .i64 0]).upd 0 (AV.agg [x, .int .i64 (b:Int)]).cells = .agg [x, .int .i64 (b:Int)]:=rfl
noncomputable def wy (ls:List (List FX)) (a:Nat) (o:OX):List (List FX) × Nat × Int × Bool :=
 if o.kind%7=5 then (if a=0 then (ls,a,0,false) else (ls,a-1,0,true))
 else if o.kind%7=6 then (if a+1=ls.length then (ls,a,0,false) else (ls,a+1,0,true))
 else
   let l:=ls.getD a []
   let c:=bX l o
   if c.2≠0∨gJ c.1 l=true then (ls,a,c.2,false) else (ls.take (a+1)++[c.1],a+1,0,false)
section
variable {P:Program} {G:Nat->Option (List AV)}
theorem Sc {f:FuncId} (h:Has P f eH) (ls:List (List FX)) (a:Nat) {l:List FX} (ha:ls[a]? = some l):VP P G f [b8 ls a] (bT l):=by
 refine VP.has h ?_
 simp only [eH,SS,Nat.reduceAdd,O5,ak,CC,CD,A6 ha,ax,I0]
 exact ah▸ae rfl (kr l)
theorem YB {f:FuncId} (h:Has P f gb):VP P G f [] (b8 [[]] 0):=by
 have hb:∀ (σ : aa) (q:Id),bu σ q (.buildSl 1 1 .nils [(0, .nils)])=some { val := .osl q 1 0 1 false,up:=[(q,some ⟨[.nils],1,false⟩)] }:=fun σ q=>XA rfl rfl rfl rfl
 have e:∀ q:Id,sA [.nils, .int .i64 0] [(0,(1, .osl q 1 0 1 false))]=some [.osl q 1 0 1 false, .int .i64 0]:=fun q=>rfl
 have z1:(AV.cells (.agg [.nils, .int .i64 0])).all AV.one=true:=rfl
 refine VP.has h ?_
 simp only [gb,SS,Nat.reduceAdd,hb,e,z1]
 rw [dw (n:=2) (v := .agg [.osl [1] 1 0 1 false, .int .i64 0]) (els:=[.agg [.nils, .int .i64 0]]) (el := .agg [.nils, .int .i64 0]) (k:=(AV.agg [.nils, .int .i64 0]).size) (by simp [aa.put]) rfl rfl (by simp [AV.size,AV.cells]) rfl]
 simp only [SS,Nat.reduceAdd]
 refine ah▸⟨.agg [.osl [1] 1 0 1 false, .int .i64 0], ?_,View.agg (.cons (View.osl (bk:=⟨[.nils],1,false⟩) (by simp [aa.put]) rfl (by simp) (aI.cons (View.nils 5) .nil) rfl (by simp;rfl)) (.cons (View.pure (af.int _ _)) .nil))⟩
 simp only [RS,fY,iR,ak]
 rfl
end
theorem I2 {σ : aa} {id:Id} {x:AV} {b:Nat} {k:Nat} (hx:x.cells=[x]) (h1:x.one=true) (h : σ id=some ⟨[.agg [.nils, .int .i64 0]],k,false⟩) :
   eO σ 2 (.ref id 0 0) (.agg [x, .int .i64 (b:Int)])=some { val := .tup [],rd:=[id],up:=[(id,some ⟨[.agg [x, .int .i64 (b:Int)]],k,false⟩)] }:=by
 rw [dw (n:=2) (v := .agg [x, .int .i64 (b:Int)]) h rfl rfl (by simp [AV.size,AV.cells]) (by simp [AV.cells,AV.one] at h1 ⊢;exact h1),O7]
 rfl
theorem ly {a:Nat} (h:a≠0) (hb:a<=1000000):IntKind.i64.wrap ((a:Int)-1)=((a-1:Nat):Int):=by
 rw [show (a:Int)-1=((a-1:Nat):Int) by omega]
 exact FU _ (by omega)
theorem O8 {σ : aa} {x:AV} {ls:List (List FX)} {a:Nat} {e:Int} {b:Bool} (h:View σ x (b8 ls a)):View σ (.tup [x, .int .i64 e, .bool b]) (.tup [b8 ls a, .int .i64 e, .bool b]) :=
 View.tup (.cons h (.cons (View.pure (af.int _ _)) (.cons (View.pure (af.bool _)) .nil)))
theorem Sd:((AV.agg [.nils, .int .i64 0]).cells.all AV.one=true)=True:=by simp [AV.cells,AV.one]
theorem I3 (x:AV) (a:Nat):part false (AV.agg [x, .int .i64 (a:Int)]).cells 1 1=some (.int .i64 (a:Int)):=rfl
theorem Se (ls:List (List FX)) (a:Nat) (x:AV):(b8 ls a).upd 0 [x] = .agg [x, .int .i64 (a:Int)]:=rfl
section
variable {P:Program} {G:Nat->Option (List AV)}
theorem dF {i:Id} {b:a8}:aa.of [(i,b)] i=some b:=by simp [aa.of]
end
def vE (l:List FX) (i:Nat):Bool:=match l[i]? with
 | none=>true
 | some X=>(dW X).all fun n => !decide (cM (l.take i) n<0)
def kT (l:List FX):Bool:=(List.range l.length).all (vE l)
theorem Sf {l:List FX} {i:Nat} (hi:i<l.length) (h:vE l i=false):kT l=false:=by
 unfold kT
 rw [List.all_eq_false]
 exact ⟨i,List.mem_range.2 hi,by rw [h];decide⟩
theorem O9 {l:List FX} (h:∀ i,i<l.length->vE l i=true):kT l=true:=by
 unfold kT
 rw [List.all_eq_true]
 exact fun i hi=>h i (List.mem_range.1 hi)
theorem ET (l:List FX):EI (l.map FX.eG)=bT l:=by
 simp [EI,bT,FX.av,List.map_map,Function.comp_def]
theorem K6 (l:List FX) (nm:List UInt8):Rv (l.map FX.eG) nm=cM l nm:=by
 unfold Rv cM
 rw [List.findIdx?_map];rfl
section
variable {P:Program} {G:Nat->Option (List AV)}
theorem Sg {f f1 fi:FuncId} (h:Has P f (iN f1 fi)) (h1:∀ (F:bK) (nm:List UInt8),VP P G f1 [F.av, .ep [.str nm] 0] (.bool (F.name==nm)))
   (hi:Has P fi bz) {l:List FX} (hl:l.length<=1000) (hX:∀ X∈l,X.inputs.length<=1000/\X.vals.length<=1000) (nm:List UInt8):VP P G f [bT l, .str nm] (.int .i64 (cM l nm)):=by
 rw [<- ET, <- K6]
 refine UK h h1 hi (fun F hF => ?_) (by rw [List.length_map];omega) nm
 obtain ⟨X,hm,rfl⟩:=List.mem_map.1 hF
 exact FX.RG (hX X hm).1 (hX X hm).2
set_option maxHeartbeats 1000000 in
theorem Gr {f fn ff:FuncId} (h:Has P f (iH fn ff)) (l:List FX) (hl:l.length<=1000) (hn:∀ X∈l,VP P G fn [X.av] (strs (dW X))) (vN:∀ X∈l,(dW X).length<=1000)
   (hf:∀ i nm,VP P G ff [bT (l.take i), .str nm] (.int .i64 (cM (l.take i) nm))):VP P G f [bT l] (.bool (kT l)):=by
 refine VP.has h ?_
 simp only [iH,SS,Nat.reduceAdd,bO,az]
 refine VW.bG (α := Nat × Nat) (fun x=>⟨[bT l, .top, .top, .top, .top, .top, .top,bT l, .int .i64 (l.length:Int), .int .i64 (x.1:Int)]++List.replicate 19 .top,fun _=>none,x.2⟩)
   (fun x=>x.1<=l.length/\∀ j,j<x.1->vE l j=true) (fun x=>l.length-x.1) (0,1000) ?_ ⟨Nat.zero_le _,fun j hj=>absurd hj (Nat.not_lt_zero j)⟩ ?_
 . exact Wk.slots (by simp [Fg,List.replicate]) (by omega)
 rintro ⟨i,nn⟩ ⟨hi,cx⟩
 simp only [] at hi cx
 by_cases hlt:i<l.length
 case neg =>
   have dd:decide ((i:Int)<(l.length:Int))=false:=ag (by omega)
   simp only [SS,List.replicate,dd]
   rw [O9 fun j hj=>cx j (by omega)]
   exact ah▸ae rfl (af.bool _)
 obtain ⟨X,hX⟩:∃ X,l[i]? = some X:=⟨_,List.getElem?_eq_getElem hlt⟩
 have hm:=List.mem_of_getElem? hX
 have dd:decide ((i:Int)<(l.length:Int))=true:=ai (by omega)
 have hg:(l.map FX.av)[i]? = some X.av:=by rw [List.getElem?_map,hX];rfl
 have fT:aV 5 (bT l) (.int .i64 (i:Int))=some (.ep X.av.cells 0):=aN rfl hg
 have dI:vE l i=((dW X).all fun n => !decide (cM (l.take i) n<0)):=by unfold vE;rw [hX]
 have Xm:=hn X hm
 have afj:=vN X hm
 have sM:af X.av:=FX.pure X
 simp only [SS,Nat.reduceAdd,List.replicate,dd,fT,ax,FX.whole,mG]
 rw [wx (k:=(AV.agg [.str [], .int .i64 0, .nils, .nils, .bool false]).size) (by simp [aa.put])]
 simp only [SS,Nat.reduceAdd,ak,FX.whole]
 refine aj Xm (by simp [sM]) ?_
 simp only [SS,Nat.reduceAdd,dC,az]
 refine VW.bG (α := Nat × Nat) (fun z=>⟨[bT l, .top, .top, .int .i64 (i:Int), .top, .top, .top,bT l, .int .i64 (l.length:Int), .int .i64 (i:Int), .top, .top, .top, .top, .top,strs (dW X), .int .i64 ((dW X).length:Int), .int .i64 (z.1:Int)]++List.replicate 11 .top,fun _=>none,z.2⟩)
   (fun z=>z.1<=(dW X).length/\∀ (j:Nat) s,j<z.1->(dW X)[j]? = some s->cM (l.take i) s<0->False) (fun z=>(dW X).length-z.1) (0,nn+1000) ?_ ⟨Nat.zero_le _,fun j s hj=>absurd hj (Nat.not_lt_zero j)⟩ ?_
 . exact Wk.forget (by simp [Fg,List.replicate]) (fun j => .inl rfl) (by omega)
 rintro ⟨k,mm⟩ ⟨hk,w6⟩
 simp only [] at hk w6
 by_cases FV:k<(dW X).length
 . obtain ⟨s,hs⟩:∃ s,(dW X)[k]? = some s:=⟨_,List.getElem?_eq_getElem FV⟩
   have d1:decide ((k:Int)<((dW X).length:Int))=true:=ai (by omega)
   have hgx:((dW X).map AV.str)[k]? = some (.str s):=by rw [List.getElem?_map,hs];rfl
   have lD:aV 1 (strs (dW X)) (.int .i64 (k:Int))=some (.ep (AV.str s).cells 0):=aN rfl hgx
   have Gh:part false (AV.str s).cells 0 1=some (.str s):=rfl
   simp only [SS,Nat.reduceAdd,List.replicate,d1,lD,ax,Gh,nJ (Nat.le_of_lt hlt)]
   refine aj (hf i s) (by simp [kr,af.str]) ?_
   simp only [SS,Nat.reduceAdd]
   by_cases hp:cM (l.take i) s<0
   . rw [ai hp]
     simp only [SS]
     rw [Sf hlt (by
       rw [dI,List.all_eq_false]
       exact ⟨s,List.mem_of_getElem? hs,by rw [ai hp];decide⟩)]
     exact ah▸ae rfl (af.bool _)
   . rw [ag hp]
     simp only [SS,Nat.reduceAdd,ao k (by omega)]
     refine ⟨(k+1,mm+1000),⟨by simp only [];omega, ?_⟩,by simp only [];omega,Wk.slots (by simp [Fg]) (by omega)⟩
     intro j s' hj O4
     by_cases AX:j<k
     . exact w6 j s' AX O4
     . have:j=k:=by simp only [] at hj;omega
       subst this;rw [hs] at O4;simp only [Option.some.injEq] at O4;subst O4;exact hp
 have YA:vE l i=true:=by
   rw [dI,List.all_eq_true]
   intro s hs
   obtain ⟨j,hj,O4⟩:=List.getElem_of_mem hs
   rw [ag (w6 j s (by omega) (by rw [List.getElem?_eq_getElem hj,O4]))]
   rfl
 have d1:decide ((k:Int)<((dW X).length:Int))=false:=ag (by omega)
 have Ae:∀ j,j<i+1->vE l j=true:=fun j hj=>by
   by_cases AX:j<i
   . exact cx j AX
   . rw [show j=i from by omega];exact YA
 simp only [SS,Nat.reduceAdd,List.replicate,d1,ao i (by omega)]
 exact ⟨(i+1,mm+1000),⟨by simp only [];omega,Ae⟩,by simp only [];omega,Wk.slots (by simp [Fg]) (by omega)⟩
end
def bH (ls:List (List FX)) (now:Nat):a8:=⟨[b8 ls now],2,false⟩
theorem View.YC {σ : aa} (k:Nat):View σ .nils (.tsl k []):=fun G own E w v hi hr=>by
 simp only [aD] at hr ⊢;exact ⟨none,hr,Nat.zero_le _,by simp, .inl trivial⟩
theorem WL {hid:Id} {ls:List (List FX)} {now o:Nat} {σ : aa} (h : σ hid=some (bH ls now)):fX σ false 1 (.ref hid 0 o)=(part false (b8 ls now).cells o 1).map fun v=>{ val:=v,rd:=[hid] }:=gO (bk:=bH ls now) h rfl
theorem U3 (ls:List (List FX)) (now:Nat):flat (bH ls now).els=[r9 ls, .int .i64 (now:Int)]:=rfl
section
variable {P:Program} {G:Nat->Option (List AV)}
theorem lz {f:FuncId} (h:Has P f bq) {hid:Id} {ls:List (List FX)} {now:Nat} {l:List FX} (hl:ls[now]? = some l) (p:Id) :
   aq P G f [.ref hid 0 0] p [(hid,bH ls now)] { val:=bT l,rd:=[hid] }:=by
 refine aq.has h ?_
 have e1:∀ o,fX (aa.of [(hid,bH ls now)]) false 1 (.ref hid 0 o)=(part false (b8 ls now).cells o 1).map fun v=>{ val:=v,rd:=[hid] }:=fun o=>WL dF
 simp only [bq,SS,DD,Nat.reduceAdd,e1,CC,CD,A6 hl,ax,I0]
 refine ⟨by simp [aJ], ?_⟩
 exact bZ▸aW rfl fun i => .inr rfl
theorem M3 {f:FuncId} (h:Has P f kR) (p:Id):aq P G f [] p [] { val := .ref (3::p) 0 0,up:=[(3::p,some (bH [[]] 0))] }:=by
 refine aq.has h ?_
 have hb:∀ (σ : aa) (q:Id),bu σ q (.buildSl 1 1 .nils [(0, .nils)])=some { val := .osl q 1 0 1 false,up:=[(q,some ⟨[.nils],1,false⟩)] }:=fun σ q=>XA rfl rfl rfl rfl
 have e:∀ q:Id,sA [.nils, .int .i64 0] [(0,(1, .osl q 1 0 1 false))]=some [.osl q 1 0 1 false, .int .i64 0]:=fun q=>rfl
 have z1:∀ q:Id,(AV.cells (.agg [.osl q 1 0 1 false, .int .i64 0])).all AV.one=true:=fun q=>rfl
 simp only [kR,SS,Nat.reduceAdd,hb,e,z1]
 refine bZ▸⟨_,rfl,Fin.nX [(1::p,⟨[.nils],1,false⟩)] ?_ (cX.same _ _) ?_⟩
 . intro x hx;simp only [List.mem_singleton] at hx;subst hx;simp [aa.put]
 . intro i
   by_cases hi:i=3::p
   . subst hi
     refine .inr ⟨⟨[.agg [.osl (1::p) 1 0 1 false, .int .i64 0]],2,false⟩,bH [[]] 0,by simp [aa.put,AV.size,AV.cells],by simp [aa.app,aa.put],rfl, .inl rfl, ?_,rfl, ?_, ?_⟩
     . intro _ x hx;simp only [List.mem_singleton] at hx;subst hx;simp
     . intro e he;simp [bH] at he;subst he;rfl
     . refine ⟨cX.view ?_,cX.same _ _,trivial⟩
       exact View.osl (bk:=⟨[.nils],1,false⟩) dF rfl (Nat.le_refl _) (aI.cons (View.nils 5) .nil) rfl (by simp;rfl)
   . left;simp [aa.app,aa.put,hi,aa.of]
theorem zo {f:FuncId} (h:Has P f a7):VP P G f [bT []] (.tsl 5 []):=by
 refine VP.has h ?_
 simp only [a7,bT,List.map_nil,SS,Nat.reduceAdd,abK,gR (dM (k:=5) (es:=[]))]
 exact ⟨ah▸⟨.nils,rfl,View.YC 5⟩,ah▸⟨_,rfl,View.pure (af.tsl (by simp [flat]))⟩⟩
theorem zp {f:FuncId} (h:Has P f a7) {l:List FX} (hne:l≠[]) (hl:l.length<=1000) (p:Id) :
   aq P G f [bT l] p [] { val := .osl (5::p) 5 0 l.length false,rd:=[],up:=[(5::p,some ⟨l.map FX.av,5,false⟩)] }:=by
 have:=OL (G:=G) h (l:=l.map FX.eG) (by simpa using hne) (by simp;omega) p
 rw [ET,List.length_map,List.map_map] at this
 exact this
theorem I4 {f fp fq fs:FuncId} (h:Has P f (eu fp fq fs)) (hp:Has P fp bq) {hid:Id} {ls:List (List FX)} {now:Nat} {l:List FX} (hl:ls[now]? = some l)
   (hq:VP P G fq [bT l,bT l, .fn (.func fs) [] []] (.bool true)) (p:Id):aq P G f [.ref hid 0 0,bT l] p [(hid,bH ls now)] { val := .int .i64 0,rd:=[hid] }:=by
 refine aq.has h ?_
 simp only [eu,SS,Nat.reduceAdd]
 refine ⟨_,_,lz hp hl _,by simp [dF],by simp, ?_⟩
 simp only [SS,Nat.reduceAdd]
 refine aj hq (by intro x hx;simp at hx;rcases hx with rfl | rfl;exact kr l;exact af.fn (by simp) (by simp)) ?_
 simp only [SS,Nat.reduceAdd]
 exact bZ▸aW rfl fun i => .inr rfl
theorem CE {f fp fq fs:FuncId} (h:Has P f (eu fp fq fs)) (hp:Has P fp bq) {hid:Id} {ls:List (List FX)} {now:Nat} {l l':List FX} (hl:ls[now]? = some l) (qA:ls.length<=1000)
   (hq:VP P G fq [bT l',bT l, .fn (.func fs) [] []] (.bool false)) (p:Id) (CF:∀ q,q::p≠hid) :
   aq P G f [.ref hid 0 0,bT l'] p [(hid,bH ls now)] { val := .int .i64 0,rd:=[hid],up:=[(hid,some (bH (ls.take (now+1)++[l']) (now+1)))] }:=by
 refine aq.has h ?_
 have hlt:=(List.getElem?_eq_some_iff.1 hl).1
 have e1:∀ o,fX (aa.of [(hid,bH ls now)]) false 1 (.ref hid 0 o)=(part false (b8 ls now).cells o 1).map fun v=>{ val:=v,rd:=[hid] }:=fun o=>WL dF
 have w1:=ao now (by omega)
 have vP:bR 1 (r9 ls) none (some (.int .i64 ((now+1:Nat):Int))) (some (.int .i64 ((now+1:Nat):Int)))=some (.tsl 1 ((ls.take (now+1)).map bT)):=by
   have hle:now+1<=ls.length:=hlt
   have XU:(now:Int)+1<=ls.length:=by omega
   have h0:(0:Int)<=(now:Int)+1:=by omega
   have ht:((now:Int)+1).toNat=now+1:=by omega
   simp [bR,cm,dT,rq,XU,h0,ht,List.map_take,r9]
 simp only [eu,SS,Nat.reduceAdd]
 refine ⟨_,_,lz hp hl _,by simp [dF],by simp, ?_⟩
 simp only [SS,Nat.reduceAdd]
 refine aj hq (by intro x hx;simp at hx;rcases hx with rfl | rfl | rfl;exact kr l';exact kr l;exact af.fn (by simp) (by simp)) ?_
 simp only [SS,DD,Nat.reduceAdd,e1,CC,CD,w1,vP,abM]
 have lF:(((ls.take (now+1)).map bT++[bT l']).all fun e=>e.cells.all AV.one)=true:=by
   rw [List.all_append,x7];rfl
 have hlen:(((ls.take (now+1)).map bT).length+[bT l'].length)=now+2:=by simp;omega
 have yD:=cY (σ := (aa.of [(hid,bH ls now)]).put (23::p) (some ⟨[bT l'],1,false⟩)) (p:=24::p) (k:=1) (bytes:=24) (x := .osl (23::p) 1 0 1 false) (es:=(ls.take (now+1)).map bT) (ys:=[bT l']) (rd:=[23::p])
   (by simp [dB,aa.put]) (by simp) (by rw [hlen];omega) (by rw [hlen];exact bE (by omega)) lF
 rw [hlen] at yD
 have hst:=dw (σ := ((aa.of [(hid,bH ls now)]).put (23::p) (some ⟨[bT l'],1,false⟩)).put (24::p) (some ⟨(ls.take (now+1)).map bT++[bT l'],1,false⟩)) (id:=hid) (els:=[b8 ls now]) (k:=2) (n:=1) (e:=0) (o:=0)
   (el:=b8 ls now) (v := .osl (24::p) 1 0 (now+2) false) (by simp [aa.put,(CF 23).symm,(CF 24).symm,aa.of,bH]) rfl rfl (by simp [b8,AV.size,AV.cells]) rfl
 simp only [yD,SS,DD,Nat.reduceAdd,hst]
 refine ⟨?_, ?_⟩
 . have n23:=CF 23
   simp [aJ,apart,n23]
 simp only [SS,Nat.reduceAdd,qU,Se,ak,I3,w1]
 have afk:∀ σ : aa,eO (σ.put hid (some ⟨[.agg [.osl (24::p) 1 0 (now+2) false, .int .i64 now]],2,false⟩)) 1 (.ref hid 0 1) (.int .i64 ((now+1:Nat):Int))=some { val := .tup [],rd:=[hid],up:=[(hid,some ⟨[.agg [.osl (24::p) 1 0 (now+2) false, .int .i64 ((now+1:Nat):Int)]],2,false⟩)] }:=by
   intro σ
   rw [dw (n:=1) (v := .int .i64 ((now+1:Nat):Int)) (els:=[.agg [.osl (24::p) 1 0 (now+2) false, .int .i64 now]]) (k:=2) (aa.a6 _ _ _) rfl rfl (by simp [AV.size,AV.cells]) rfl]
   rfl
 simp only [SS,Nat.reduceAdd,afk]
 refine bZ▸⟨_,rfl,Fin.nX [(24::p,⟨(ls.take (now+1)).map bT++[bT l'],1,false⟩)] ?_ (cX.same _ _) ?_⟩
 . intro x hx;simp only [List.mem_singleton] at hx;subst hx;simp [aa.put,CF 24]
 . intro i
   by_cases hi:i=hid
   . subst hi
     refine .inr ⟨⟨[.agg [.osl (24::p) 1 0 (now+2) false, .int .i64 ((now+1:Nat):Int)]],2,false⟩,bH (ls.take (now+1)++[l']) (now+1),by simp [aa.put],by simp [aa.app,aa.put],rfl, .inl rfl, ?_,rfl, ?_, ?_⟩
     . intro _ x hx;simp only [List.mem_singleton] at hx;subst hx;exact CF 24
     . intro e he;simp [bH] at he;subst he;rfl
     . have hm:(ls.take (now+1)).map bT++[bT l']=(ls.take (now+1)++[l']).map bT:=by simp
       have hn:(ls.take (now+1)++[l']).length=now+2:=by simp;omega
       rw [U3,hm, <- hn]
       exact ⟨cX.view (ES dF),cX.same _ _,trivial⟩
   . left;simp [aa.app,aa.put,hi,aa.of]
end
noncomputable def sa (hid:Id) (ls:List (List FX)) (now:Nat) (l m:List FX):List (Id × Option a8):=if gJ m l=true then [] else [(hid,some (bH (ls.take (now+1)++[m]) (now+1)))]
theorem CG {hid:Id} {ls:List (List FX)} {now:Nat} {l m:List FX}:∀ x∈sa hid ls now l m,x.1=hid:=by
 intro x hx
 unfold sa at hx
 split at hx
 . simp at hx
 . simp at hx;rw [hx]
theorem Kh {σ τ : aa} {i:Id} (h : σ i = τ i):∀ up:List (Id × Option a8),(σ.app up) i=(τ.app up) i:=by
 intro up
 induction up generalizing σ τ with
 | nil=>exact h
 | cons x up ih =>
   refine ih ?_
   by_cases e:i=x.1
   . subst e;rw [aa.a6,aa.a6]
   . rw [aa.bb _ _ _ e,aa.bb _ _ _ e,h]
theorem mH {σ : aa} {i:Id}:∀ up:List (Id × Option a8),(∀ x∈up,x.1≠i)->(σ.app up) i = σ i:=by
 intro up
 induction up generalizing σ with
 | nil=>intro _;rfl
 | cons x up ih =>
   intro h
   refine (ih fun y hy=>h y (List.mem_cons_of_mem _ hy)).trans ?_
   exact aa.bb _ _ _ (h x List.mem_cons_self).symm
theorem ou {hid:Id} {b:a8} {σ : aa} {up:List (Id × Option a8)} (hup:∀ x∈up,x.1=hid) (hσ : σ hid=some b) (i:Id):(aa.of [(hid,b)]).app up i=none∨(aa.of [(hid,b)]).app up i=(σ.app up) i:=by
 by_cases e:i=hid
 . subst e;right;exact Kh (by rw [hσ,dF]) up
 . left
   rw [mH up fun x hx he=>e ((hup x hx)▸he).symm]
   simp [aa.of,e]
section
variable {P:Program} {G:Nat->Option (List AV)} {π : Id} {base:Nat} {Q:bB->VS->Prop} {n:Nat} {d:Option Nat} {os:List bg} {i:Nat} {t:List AV} {σ : aa}
theorem vF {GQ:FuncId} {hid id:Id} {ls:List (List FX)} {now:Nat} {x:AV} {m:List FX} {bk:a8} {up:List (Id × Option a8)} (h:aq P G GQ [.ref hid 0 0,bT m] ((base+i) :: π) [(hid,bH ls now)] { val := .int .i64 0,rd:=[hid],up:=up })
   (hv:View (aa.of [(id,bk)]) x (bT m)) (hne:id≠hid) (hsz:∀ e∈bk.els,e.size=bk.k) (h1 : σ id=some bk) (h2 : σ hid=some (bH ls now)) (k:vs P G π base Q n os (i+1) (fL t d (.int .i64 0)) ((σ.app (nX [(id,bk)])).app up)) :
   nW P G π base Q n d os i t σ GQ [.ref hid 0 0,x]:=by
 refine ⟨[(id,bk)]++[(hid,bH ls now)],_,aq.xv (args:=[.ref hid 0 0,x]) [(id,bk)] h ⟨cX.same _ _,cX.view hv,trivial⟩ ?_ ?_, ?_, ?_, ?_⟩
 . intro y hy z hz;simp only [List.mem_singleton] at hy hz;subst hy hz;exact hne
 . intro y hy;simp only [List.mem_singleton] at hy;subst hy;exact hsz
 . intro y hy
   simp only [List.mem_append,List.mem_singleton] at hy
   rcases hy with rfl | rfl
   . exact h1
   . exact h2
 . intro y hy
   simp only [List.mem_append,List.mem_singleton] at hy
   rcases hy with rfl | rfl<;>simp
 . rw [nZ];exact k
end
structure HH (P:Program) (G:Nat->Option (List AV)) (aU:FX->Prop) (fp fv ff fc qu fs GQ:FuncId):Prop where
 present:Has P fp bq
 valid:∀ X,aU X->VP P G fv [X.av] (.bool X.valid)
 find:∀ (l:List FX) (nm:List UInt8),l.length<=1000->(∀ X∈l,aU X)->VP P G ff [bT l, .str nm] (.int .i64 (cM l nm))
 cloneL:Has P fc a7
 clone:∀ X,aU X->VP P G qu [X.av] X.av
 sat:∀ l:List FX,l.length<=1000->(∀ X∈l,aU X)->VP P G fs [bT l] (.bool (kT l))
 change:∀ (hid:Id) (ls:List (List FX)) (now:Nat) (l m:List FX) (p:Id),ls[now]? = some l->ls.length<=1000->l.length<=1000->m.length<=1000->(∀ X∈l,aU X)->(∀ X∈m,aU X)->(∀ q,q::p≠hid) ->
   aq P G GQ [.ref hid 0 0,bT m] p [(hid,bH ls now)] { val := .int .i64 0,rd:=[hid],up:=sa hid ls now l m }
noncomputable def DC (hid:Id) (ls:List (List FX)) (now:Nat) (l:List FX) (X:FX):Int × List (Id × Option a8) :=
 if X.valid=false then (1,[]) else if l.length=200 then (3,[]) else if 0<=cM l X.name then (5,[]) else if kT (l++[X])=true then (0,sa hid ls now l (l++[X])) else (4,[])
theorem Gs {l:List FX}:∀ e∈l.map FX.av,e.size=5:=by intro e he;obtain ⟨X,_,rfl⟩:=List.mem_map.1 he;rfl
section
variable {P:Program} {G:Nat->Option (List AV)} {π : Id} {base:Nat} {Q:bB->VS->Prop} {n:Nat} {d:Option Nat} {os:List bg} {i:Nat} {t:List AV} {σ : aa}
theorem Ag {f:FuncId} {l:List FX} {id:Id} {tt:Bool} {y r:AV} (h:VP P G f [bT l,y] r) (hy:af y) (hf:aS r) (hσ : σ id=some ⟨l.map FX.av,5,false⟩) (k:vs P G π base Q n os (i+1) (fL t d r) σ):nW P G π base Q n d os i t σ f [.osl id 5 0 l.length tt,y] :=
 ig [(id,⟨l.map FX.av,5,false⟩)] h (aI.cons (kS (by simp [aa.of])) (aI.cons (View.pure hy) .nil)) hf (by simpa using hσ) k
theorem I5 {f:FuncId} {y r:AV} (h:VP P G f [bT [],y] r) (hy:af y) (hf:aS r) (k:vs P G π base Q n os (i+1) (fL t d r) σ):nW P G π base Q n d os i t σ f [.tsl 5 [],y] :=
 ig [] h (aI.cons (View.FK 5) (aI.cons (View.pure hy) .nil)) hf (by simp) k
end
noncomputable def I6 (hid:Id) (ls:List (List FX)) (now:Nat) (l:List FX) (X:FX):Int × List (Id × Option a8) :=
 if X.valid=false then (1,[]) else if cM l X.name<0 then (4,[]) else if kT (l.set (cM l X.name).toNat X)=true then (0,sa hid ls now l (l.set (cM l X.name).toNat X)) else (4,[])
noncomputable def Si (hid:Id) (ls:List (List FX)) (now:Nat) (l:List FX) (nm:List UInt8) (on:Bool):Int × List (Id × Option a8) :=
 if cM l nm<0 then (4,[]) else (0,sa hid ls now l (l.set (cM l nm).toNat ((l.getD (cM l nm).toNat ⟨[],0,[],[],false⟩).bD on)))
theorem x8 (nm:List UInt8):cM [] nm = -1:=rfl
theorem x9 {aU:FX->Prop} {l:List FX} {i:Nat} {X:FX} (hg:∀ Y∈l,aU Y) (hX:aU X):∀ Y∈l.set i X,aU Y:=by
 intro Y hY
 rcases List.mem_or_eq_of_mem_set hY with h | h
 . exact hg Y h
 . rw [h];exact hX
theorem CH {l:List FX} {nm:List UInt8}:cM l nm<0↔nm ∉ bW l:=by
 unfold cM bW
 cases h:l.findIdx? fun X=>X.name==nm with
 | none =>
   have:=List.findIdx?_eq_none_iff.1 h
   constructor
   . intro _ hm
     obtain ⟨X,hX,rfl⟩:=List.mem_map.1 hm
     have:=this X hX
     simp at this
   . intro _;show vW none<0;decide
 | some i =>
   have:=List.findIdx?_eq_some_iff_getElem.1 h
   obtain ⟨hi,hp,_⟩:=this
   constructor
   . intro hn;exact absurd hn (by show ¬ ((i:Int)<0);omega)
   . intro hn
     exact absurd (List.mem_map.2 ⟨l[i],List.getElem_mem hi,by simpa using hp⟩) hn
theorem qV {l:List FX} {nm:List UInt8} {i:Nat} (h:cM l nm=(i:Int)):∃ X,l[i]? = some X/\X.name=nm:=by
 unfold cM at h
 cases hf:l.findIdx? fun X=>X.name==nm with
 | none=>rw [hf] at h;simp [vW] at h<;>omega
 | some k =>
   rw [hf] at h
   simp only [vW] at h
   obtain rfl:k=i:=by omega
   obtain ⟨hi,hp,_⟩:=List.findIdx?_eq_some_iff_getElem.1 hf
   exact ⟨l[k],List.getElem?_eq_getElem hi,by simpa using hp⟩
def I7 (l:List FX):Prop:=∀ X∈l,X.valid=true
theorem EU {l:List FX} {i:Nat} {X:FX} (hX:l[i]? = some X):vE l i=true↔∀ n∈dW X,n∈bW (l.take i):=by
 unfold vE
 rw [hX]
 simp only [List.all_eq_true]
 constructor
 . intro h n hn
   have:=h n hn
   by_cases hm:n∈bW (l.take i)
   . exact hm
   . rw [ai (CH.2 hm)] at this;cases this
 . intro h n hn
   rw [ag (fun hp=>CH.1 hp (h n hn))];rfl
theorem I8 {l:List FX} {i:Nat} {X:FX} (hX:l[i]? = some X):AJ l i=true↔X.valid=true/\X.name ∉ bW (l.take i)/\∀ n∈dW X,n∈bW (l.take i):=by
 unfold AJ
 rw [hX]
 simp only [Bool.and_eq_true,List.all_eq_true,Bool.not_eq_true',List.contains_iff_mem,and_assoc]
 constructor
 . rintro ⟨h1,h2,h3⟩
   exact ⟨h1,by simpa using h2,h3⟩
 . rintro ⟨h1,h2,h3⟩
   exact ⟨h1,by simpa using h2,h3⟩
theorem I9 {l:List FX}:kT l=true↔∀ i X,l[i]? = some X->∀ n∈dW X,n∈bW (l.take i):=by
 unfold kT
 rw [List.all_eq_true]
 constructor
 . intro h i X hX
   exact (EU hX).1 (h i (List.mem_range.2 (List.getElem?_eq_some_iff.1 hX).1))
 . intro h i hi
   have fK:=List.mem_range.1 hi
   exact (EU (List.getElem?_eq_getElem fK)).2 (h i _ (List.getElem?_eq_getElem fK))
theorem lA {l:List FX}:eZ l=true↔(∀ i X,l[i]? = some X->X.valid=true/\X.name ∉ bW (l.take i)/\∀ n∈dW X,n∈bW (l.take i))/\l.length<=200:=by
 unfold eZ
 rw [Bool.and_eq_true,List.all_eq_true,decide_eq_true_eq]
 constructor
 . rintro ⟨h,h2⟩
   exact ⟨fun i X hX=>(I8 hX).1 (h i (List.mem_range.2 (List.getElem?_eq_some_iff.1 hX).1)),h2⟩
 . rintro ⟨h,h2⟩
   refine ⟨fun i hi => ?_,h2⟩
   have fK:=List.mem_range.1 hi
   exact (I8 (List.getElem?_eq_getElem fK)).2 (h i _ (List.getElem?_eq_getElem fK))
theorem nodup_iff {l:List FX}:(bW l).Nodup↔∀ i X,l[i]? = some X->X.name ∉ bW (l.take i):=by
 induction l with
 | nil=>simp [bW]
 | cons Y l ih =>
   have e:bW (Y::l)=Y.name::bW l:=rfl
   rw [e,List.nodup_cons,ih]
   constructor
   . rintro ⟨h1,h2⟩ i X hX
     cases i with
     | zero=>simp [bW]
     | succ i =>
       have hX':l[i]? = some X:=by simpa using hX
       show X.name ∉ Y.name::bW (l.take i)
       rw [List.mem_cons,not_or]
       exact ⟨fun he=>h1 (he▸List.mem_map.2 ⟨X,List.mem_of_getElem? hX',rfl⟩),h2 i X hX'⟩
   . intro h
     refine ⟨fun hm => ?_,fun i X hX => ?_⟩
     . obtain ⟨X,hX,he⟩:=List.mem_map.1 hm
       obtain ⟨i,hi,rfl⟩:=List.getElem_of_mem hX
       refine h (i+1) l[i] (by simp [hi]) ?_
       show l[i].name∈Y.name::bW (l.take i)
       rw [he];exact List.mem_cons_self
     . have:=h (i+1) X (by simpa using hX)
       exact fun hm=>this (List.mem_cons_of_mem _ hm)
theorem sb {l:List FX} (hv:I7 l) (hn:(bW l).Nodup) (hl:l.length<=200):eZ l=kT l:=by
 by_cases h:kT l=true
 . rw [h,lA]
   exact ⟨fun i X hX=>⟨hv X (List.mem_of_getElem? hX),nodup_iff.1 hn i X hX,I9.1 h i X hX⟩,hl⟩
 . rw [Bool.not_eq_true] at h
   rw [h]
   cases hL:eZ l
   . rfl
   . exact absurd (I9.2 fun i X hX=>((lA.1 hL).1 i X hX).2.2) (by rw [h];decide)
theorem Ja {l:List FX} (h:eZ l=true):I7 l:=fun X hX=>by
 obtain ⟨i,hi,rfl⟩:=List.getElem_of_mem hX
 exact ((lA.1 h).1 i _ (List.getElem?_eq_getElem hi)).1
theorem Jb {l:List FX} (h:eZ l=true):(bW l).Nodup:=nodup_iff.2 fun i X hX=>((lA.1 h).1 i X hX).2.1
theorem iZ {l:List FX} (h:eZ l=true):l.length<=200:=(lA.1 h).2
theorem EW {l:List FX} {i:Nat} {X Y:FX} (hY:l[i]? = some Y) (h:X.name=Y.name):bW (l.set i X)=bW l:=by
 unfold bW
 rw [List.map_set,h]
 exact xX (by rw [List.getElem?_map,hY];rfl)
theorem Pa (l m:List FX):bW (l++m)=bW l++bW m:=List.map_append ..
theorem Jc {l:List FX} {i:Nat} {X:FX} (hX:l[i]? = some X):List.Perm l (X::eM l i):=by
 obtain ⟨hi,rfl⟩:=List.getElem?_eq_some_iff.1 hX
 unfold eM
 have e:l=l.take i++l[i]::l.drop (i+1):=by
   rw [<- List.drop_eq_getElem_cons hi,List.take_append_drop]
 conv=>lhs;rw [e]
 exact List.perm_middle
theorem Sj (m:List FX) (j:Nat) (X:FX):List.Perm (l5 m j X) (X::m):=by
 unfold l5
 rw [List.append_assoc]
 refine (List.perm_middle (l₁:=m.take j) (a:=X) (l₂:=m.drop j)).trans ?_
 rw [List.take_append_drop]
theorem CI {l m:List FX} (h:List.Perm l m) (hn:(bW l).Nodup):(bW m).Nodup:=(h.map _).nodup_iff.1 hn
theorem U4 {l:List FX} {i:Nat} {X Y:FX} (hY:l[i]? = some Y):l5 (eM l i) i X=l.set i X:=by
 obtain ⟨hi,rfl⟩:=List.getElem?_eq_some_iff.1 hY
 unfold l5 eM
 have h1:(l.take i).length=i:=by rw [List.length_take];omega
 rw [List.take_left' h1,List.drop_left' h1,List.set_eq_take_append_cons_drop,if_pos hi,List.append_assoc]
 rfl
theorem K7 {l:List FX} {i:Nat} {Y:FX} {b:Bool} (hY:l[i]? = some Y) (h:eZ l=true):eZ (l.set i (Y.bD b))=true:=by
 have hn:∀ k,bW ((l.set i (Y.bD b)).take k)=bW (l.take k):=fun k=>by
   have:=EW (X:=Y.bD b) hY rfl
   unfold bW at this ⊢
   rw [List.map_take,List.map_take,this]
 rw [lA]
 refine ⟨fun k X hX => ?_,by rw [List.length_set];exact iZ h⟩
 rw [hn]
 by_cases hk:k=i
 . subst hk
   rw [List.getElem?_set_self (List.getElem?_eq_some_iff.1 hY).1] at hX
   simp only [Option.some.injEq] at hX;subst hX
   exact (lA.1 h).1 k Y hY
 . rw [List.getElem?_set_ne (Ne.symm hk)] at hX
   exact (lA.1 h).1 k X hX
def zF:AV := .agg [.str [], .int .i64 0, .nils, .nils, .bool false]
theorem afl {σ : aa} {id:Id} {n i:Nat} (h:i<n):∃ v,jW σ 5 (.osl id 5 0 n false) (some (.int .i64 (i:Int))) (some (.int .i64 ((i+1:Nat):Int))) (some (.int .i64 (n:Int))) (bR 5 (.osl id 5 0 n false) (some (.int .i64 (i:Int))) (some (.int .i64 ((i+1:Nat):Int))) (some (.int .i64 (n:Int))))=some { val:=v }:=by
 have hb:cm n (some (.int .i64 (i:Int))) (some (.int .i64 ((i+1:Nat):Int)))=some (i,i+1):=by
   unfold cm
   simp only [dT]
   rw [if_pos ⟨by omega,by omega⟩]
   simp only [Int.toNat_natCast]
   rw [if_pos ⟨by omega,by omega⟩]
 unfold bR
 simp only [hb,if_true,Option.isNone_some,Bool.false_eq_true,if_false]
 split
 . exact ⟨_,rfl⟩
 . refine ⟨.top, ?_⟩
   simp only [jW,PR,if_true,hb]
   rw [if_pos ⟨by omega,by omega⟩]
theorem Sk {id:Id} {n j:Nat} (h0:0<j) (h:j<n):bR 5 (.osl id 5 0 n false) (some (.int .i64 (j:Int))) none none=some (.osl id 5 j (n-j) false):=by
 simp [bR,cm,dT,Nat.le_of_lt h,Nat.ne_of_gt h0,Nat.ne_of_lt h]
theorem M4 {id:Id} {n:Nat} (h0:0<n):bR 5 (.osl id 5 0 n false) (some (.int .i64 (n:Int))) none none=some (.sl 5 []):=by
 simp [bR,cm,dT,Nat.ne_of_gt h0]
theorem ya {id:Id} {n j:Nat} (h:j<n):bR 5 (.osl id 5 0 n false) (some (.int .i64 (j:Int))) none none=some (.osl id 5 j (n-j) false):=by
 rcases Nat.eq_zero_or_pos j with rfl | hp
 . simp [bR,cm,dT]
 . exact Sk hp h
theorem U5 {id:Id} {n j:Nat} (h:j<=n):∃ v,bR 5 (.osl id 5 0 n false) (some (.int .i64 (j:Int))) none none=some v:=by
 rcases Nat.lt_or_ge j n with h1 | h1
 . exact ⟨_,ya h1⟩
 . obtain rfl:j=n:=by omega
   rcases Nat.eq_zero_or_pos j with rfl | hp
   . exact ⟨.osl id 5 0 0 false,by simp [bR,cm,dT]⟩
   . exact ⟨_,M4 hp⟩
theorem YD {σ : aa} {id:Id} {n h:Nat} {bk:a8} (hσ : σ id=some bk) (hk:bk.k=5) (hl:bk.els.length=h) (hn:n<h) :
   jW σ 5 (.osl id 5 0 n false) none (some (.int .i64 (h:Int))) none (bR 5 (.osl id 5 0 n false) none (some (.int .i64 (h:Int))) none)=some { val := .osl id 5 0 h false,rd:=[id] }:=by
 have e:bR 5 (.osl id 5 0 n false) none (some (.int .i64 (h:Int))) none=none:=by
   simp [bR,cm,dT,show ¬ h<=n by omega]
 rw [e]
 simp [jW,hσ,hk,hl,bR,cm,dT]
theorem Jd {σ : aa} {id:Id} {n m:Nat} {bk:a8} (hσ : σ id=some bk) (hk:bk.k=5) (hm:m=n+1) (hl:bk.els.length=n+1) :
   jW σ 5 (.osl id 5 0 n false) (some (.int .i64 (n:Int))) (some (.int .i64 (m:Int))) none (bR 5 (.osl id 5 0 n false) (some (.int .i64 (n:Int))) (some (.int .i64 (m:Int))) none)=some { val := .osl id 5 n 1 false,rd:=[id] }:=by
 subst hm
 have hle : ¬ ((n:Int)+1<=n):=by omega
 have h0:(0:Int)<=(n:Int)+1:=by omega
 have h1:((n:Int)+1).toNat=n+1:=by omega
 have e:bR 5 (.osl id 5 0 n false) (some (.int .i64 (n:Int))) (some (.int .i64 ((n+1:Nat):Int))) none=none:=by
   simp [bR,cm,dT,hle]
 rw [e]
 rcases Nat.eq_zero_or_pos n with rfl | hp
 . simp [jW,hσ,hk,hl,bR,cm,dT]
 . have hn:(n:Int)<=(n:Int)+1:=by omega
   have e1:n+1-n=1:=by omega
   simp [jW,hσ,hk,hl,bR,cm,dT,h0,h1,hn,Nat.ne_of_gt hp,e1]
theorem Sl {σ : aa} {p id:Id} {E:List AV} {n i:Nat} (h : σ id=some ⟨E,5,false⟩) (hE:E.length=n) (hi:i+1<n) (hn:n<=1000) (h1:(E.all fun e=>e.cells.all AV.one)=true) :
   bQ σ p 5 80 (.osl id 5 0 i false) (.osl id 5 (i+1) (n-(i+1)) false)=some { val := .osl id 5 0 (n-1) false,rd:=[id,id],up:=[(id,some ⟨E.take i++E.drop (i+1)++E.drop (n-1),5,false⟩)] }:=by
 have hys:(E.drop (i+1)).take (n-(i+1))=E.drop (i+1):=List.take_of_length_le (by rw [List.length_drop];omega)
 have hyl:(E.drop (i+1)).length=n-(i+1):=by rw [List.length_drop];omega
 have hne:(E.drop (i+1)).isEmpty=false:=by
   cases hc:E.drop (i+1) with
   | nil=>rw [hc] at hyl;simp at hyl;omega
   | cons _ _=>rfl
 have ha:((E.drop (i+1)).all fun e=>e.cells.all AV.one)=true:=by
   rw [List.all_eq_true] at h1 ⊢;exact fun e he=>h1 e (List.mem_of_mem_drop he)
 have e2:i+(n-(i+1))=n-1:=by omega
 unfold bQ
 rw [dY h rfl (by simp;omega)]
 simp only [hys,hne,h,hyl,ha,e2,Bool.false_eq_true,if_false]
 rw [if_pos ⟨trivial,trivial,trivial,by omega,by omega,bE (by omega),trivial⟩,if_neg (by omega),if_pos ⟨by omega,trivial⟩]
theorem Je {σ : aa} {id:Id} {E:List AV} {n:Nat} (h : σ id=some ⟨E,5,false⟩) (hE:E.length=n+1):vL σ 5 (.agg [.str [], .int .i64 0, .nils, .nils, .bool false]) (.osl id 5 n 1 false)=some { val := .tup [],rd:=[id],up:=[(id,some ⟨E.take n++[zF],5,false⟩)] }:=by
 have hd:E.drop (n+1)=[]:=List.drop_of_length_le (by omega)
 simp [vL,sC,h,hE,hd,AV.size,AV.cells,AV.one,zF]
theorem Pb {σ : aa}:dB σ 5 (.sl 5 [])=some ([],[]):=rfl
section
variable {P:Program} {G:Nat->Option (List AV)}
set_option maxHeartbeats 1000000 in
theorem EY {f:FuncId} (h:Has P f bM) {id:Id} {l:List FX} {i:Nat} (hi:i<l.length) (hl:l.length<=1000) (p:Id) :
   aq P G f [.osl id 5 0 l.length false, .int .i64 (i:Int), .int .i64 ((i+1:Nat):Int)] p [(id,⟨l.map FX.av,5,false⟩)]
     { val := .osl id 5 0 (l.length-1) false,rd:=[id],up:=[(id,some ⟨(eM l i).map FX.av++[zF],5,false⟩)] }:=by
 refine aq.has h ?_
 obtain ⟨v13,afm⟩:=afl (σ := aa.of [(id,⟨l.map FX.av,5,false⟩)]) (id:=id) hi
 have d0:decide ((i:Int)=((i+1:Nat):Int))=false:=ag (by omega)
 have hst:aa.of [(id,⟨l.map FX.av,5,false⟩)] id=some ⟨l.map FX.av,5,false⟩:=dF
 have Re:l.length-1+1=l.length:=by omega
 simp only [bM,SS,DD,Nat.reduceAdd,afm,d0,Cf (Nat.le_of_lt hi)]
 have h1:=lV l
 by_cases hj:i+1=l.length
 . have e25:bR 5 (.osl id 5 0 l.length false) (some (.int .i64 ((i+1:Nat):Int))) none none=some (.sl 5 []):=by rw [hj];exact M4 (by omega)
   simp only [e25,SS,DD,Nat.reduceAdd,rB Pb]
   refine ⟨by simp [aJ], ?_⟩
   have ht:=Jd (σ := aa.of [(id,⟨l.map FX.av,5,false⟩)]) (id:=id) (n:=i) (m:=l.length) dF rfl hj.symm (by simp [hj])
   simp only [SS,Nat.reduceAdd,ht]
   rw [Je dF (by simp [hj])]
   simp only [SS,Nat.reduceAdd]
   refine bZ▸aW ?_ fun i' => ?_
   . simp only [RS,fY,iR,show l.length-1=i by omega]
   . right
     have e:(eM l i).map FX.av++[zF]=(l.map FX.av).take i++[zF]:=by
       unfold eM
       rw [List.drop_of_length_le (show l.length<=i+1 by omega),List.append_nil,List.map_take]
     rw [e]
     rfl
 . rw [Sk (Nat.succ_pos i) (show i+1<l.length by omega)]
   simp only [SS,DD,Nat.reduceAdd]
   rw [Sl (n:=l.length) dF (by simp) (by omega) hl h1]
   simp only [SS,DD,Nat.reduceAdd]
   refine ⟨by simp [aJ], ?_⟩
   have hE:((l.map FX.av).take i++(l.map FX.av).drop (i+1)++(l.map FX.av).drop (l.length-1)).length=l.length-1+1:=by simp;omega
   rw [Jd (m:=l.length) (aa.a6 _ _ _) rfl Re.symm hE]
   simp only [SS,Nat.reduceAdd]
   rw [Je (aa.a6 _ _ _) hE]
   simp only [SS,Nat.reduceAdd]
   refine bZ▸aW rfl fun i' => ?_
   right
   have e:(eM l i).map FX.av++[zF]=((l.map FX.av).take i++(l.map FX.av).drop (i+1)++(l.map FX.av).drop (l.length-1)).take (l.length-1)++[zF]:=by
     have hx:((l.map FX.av).take i++(l.map FX.av).drop (i+1)).length=l.length-1:=by simp;omega
     rw [List.take_left' hx]
     unfold eM
     rw [List.map_append,List.map_take,List.map_drop]
   rw [e]
   by_cases q:i'=id
   . subst q;simp [aa.app,aa.put]
   . simp [aa.app,aa.put,q]
end
theorem Sm {A:List AV} {z x:AV} {j:Nat} (hj:j<A.length) :
   (((A++[z]).take (j+1)++((A++[z]).drop j).take (A.length-j)++(A++[z]).drop (j+1+(A.length-j))).take j)++[x]++(((A++[z]).take (j+1)++((A++[z]).drop j).take (A.length-j)++(A++[z]).drop (j+1+(A.length-j))).drop (j+1))=A.take j++[x]++A.drop j:=by
 have h1:(A++[z]).drop (j+1+(A.length-j))=[]:=List.drop_of_length_le (by simp;omega)
 have h2:(A++[z]).take (j+1)=A.take (j+1):=List.take_append_of_le_length (by omega)
 have h3:(A++[z]).drop j=A.drop j++[z]:=List.drop_append_of_le_length (by omega)
 have h4:(A.drop j++[z]).take (A.length-j)=A.drop j:=List.take_left' (by simp)
 have h5:(A.take (j+1)).length=j+1:=by rw [List.length_take];omega
 rw [h1,h2,h3,h4,List.append_nil,List.drop_left' h5,List.take_append_of_le_length (by omega),List.take_take,Nat.min_eq_left (by omega)]
theorem U6 {σ : aa} {p id q:Id} {A:List AV} {z:AV} {X:FX} (h : σ id=some ⟨A++[z],5,false⟩) (hq : σ q=some ⟨[X.av],5,false⟩) (hA:A.length<=1000) :
   bQ σ p 5 80 (.osl id 5 0 A.length false) (.osl q 5 0 1 false)=some { val := .osl id 5 0 (A.length+1) false,rd:=[id,q],up:=[(id,some ⟨A++[X.av],5,false⟩)] }:=by
 have h1:([X.av].all fun e=>e.cells.all AV.one)=true:=lV [X]
 unfold bQ
 rw [mS hq]
 simp only [h,h1,List.isEmpty_cons,Bool.false_eq_true,if_false,List.length_cons,List.length_nil,List.length_append]
 rw [if_pos ⟨trivial,trivial,trivial,by omega,by omega,bE (by omega),trivial⟩,if_neg (by omega),if_pos ⟨by omega,trivial⟩]
 have e:(A++[z]).take A.length++[X.av]++(A++[z]).drop (A.length+(0+1))=A++[X.av]:=by
   rw [List.take_left' rfl,List.drop_of_length_le (by simp),List.append_nil]
 simp only [e,Nat.zero_add]
theorem U7 {σ : aa} {id:Id} {n:Nat} {bk:a8} (h : σ id=some bk):wR σ (.osl id 5 0 n false) (NB (.osl id 5 0 n false))=some { val := .ige bk.els.length,rd:=[id] }:=by
 simp [wR,NB,h]
theorem U8 {a n:Nat} (h:a<=n):bn .gtr .int (.int .i64 (a:Int)) (.ige n)=some (.bool false):=by
 simp [bn,j3,Lu,h]
theorem YE {σ : aa} {id q:Id} {o1 l1 o2 l2:Nat} {b1 b2:a8} (hne:q≠id) (h1 : σ q=some b1) (h2 : σ id=some b2) (hk:0<b2.k) (hl:0<b2.els.length):GU σ (.osl q 5 o1 l1 false) (.osl id 5 o2 l2 false)=some { val := .bool false,rd:=[q,id] }:=by
 simp [GU,hne,h1,h2,hk,hl]
theorem Pc {σ : aa} {id:Id} {E:List AV} {n j:Nat} (h : σ id=some ⟨E,5,false⟩) (hE:E.length=n+1) (hj:j<n) (h1:(E.all fun e=>e.cells.all AV.one)=true) :
   wQ σ 5 (.osl id 5 (j+1) (n+1-(j+1)) false) (.osl id 5 j (n+1-j) false)=some { val := .int .i64 ((n-j:Nat):Int),rd:=[id,id],up:=[(id,some ⟨E.take (j+1)++(E.drop j).take (n-j)++E.drop (j+1+(n-j)),5,false⟩)] }:=by
 have e1:((E.drop j).take (n+1-j)).take (n+1-(j+1))=(E.drop j).take (n-j):=by
   rw [List.take_take,Nat.min_eq_left (by omega)];congr 1;omega
 have hl:((E.drop j).take (n-j)).length=n-j:=by rw [List.length_take,List.length_drop];omega
 have hne:((E.drop j).take (n-j)).isEmpty=false:=by
   cases hc:(E.drop j).take (n-j) with
   | nil=>rw [hc] at hl;simp at hl;omega
   | cons _ _=>rfl
 have ha:(((E.drop j).take (n-j)).all fun e=>e.cells.all AV.one)=true:=by
   rw [List.all_eq_true] at h1 ⊢;exact fun e he=>h1 e (List.mem_of_mem_drop (List.mem_of_mem_take he))
 unfold wQ
 rw [dY h rfl (by simp;omega)]
 simp only [e1,hne,sC,h,hl,ha,if_true,Bool.false_eq_true,if_false]
 rw [if_pos ⟨trivial,by omega,trivial,trivial⟩]
theorem Sn {σ : aa} {id q:Id} {E:List AV} {n j:Nat} {X:FX} (h : σ id=some ⟨E,5,false⟩) (hq : σ q=some ⟨[X.av],5,false⟩) (hE:E.length=n+1) (hj:j<n) :
   wQ σ 5 (.osl id 5 j (n+1-j) false) (.osl q 5 0 1 false)=some { val := .int .i64 1,rd:=[id,q],up:=[(id,some ⟨E.take j++[X.av]++E.drop (j+1),5,false⟩)] }:=by
 have h1:([X.av].all fun e=>e.cells.all AV.one)=true:=lV [X]
 have e1:[X.av].take (n+1-j)=[X.av]:=List.take_of_length_le (by simp;omega)
 unfold wQ
 rw [mS hq]
 simp only [e1,sC,h,h1,List.isEmpty_cons,if_true,Bool.false_eq_true,if_false,List.length_cons,List.length_nil]
 rw [if_pos ⟨trivial,by omega,trivial,trivial⟩]
 rfl
section
variable {P:Program} {G:Nat->Option (List AV)}
set_option maxHeartbeats 2000000 in
theorem Pd {f fr:FuncId} (h:Has P f (cp fr)) {id q:Id} {M:List FX} {j:Nat} {X:FX} (hj:j<=M.length) (hM:M.length<=1000) (hq:q≠id) (p:Id) :
   aq P G f [.osl id 5 0 M.length false, .int .i64 (j:Int), .osl q 5 0 1 false] p [(id,⟨M.map FX.av++[zF],5,false⟩),(q,⟨[X.av],5,false⟩)]
     { val := .osl id 5 0 (M.length+1) false,rd:=[id,q],up:=[(id,some ⟨(l5 M j X).map FX.av,5,false⟩)] }:=by
 refine aq.has h ?_
 generalize hA:M.map FX.av=A
 have hAl:A.length=M.length:=by rw [<- hA,List.length_map]
 have abO:(l5 M j X).map FX.av=A.take j++[X.av]++A.drop j:=by
   unfold l5;rw [<- hA];simp
 have hA1:((A++[zF]).all fun e=>e.cells.all AV.one)=true:=by
   rw [<- hA,List.all_append,lV];rfl
 rw [abO]
 rw [<- hAl] at hj hM ⊢
 clear abO hAl hA
 have s1:aa.of [(id,⟨A++[zF],5,false⟩),(q,⟨[X.av],5,false⟩)] id=some ⟨A++[zF],5,false⟩:=by simp [aa.of]
 have s2:aa.of [(id,⟨A++[zF],5,false⟩),(q,⟨[X.av],5,false⟩)] q=some ⟨[X.av],5,false⟩:=by
   have hb:(q==id)=false:=by simpa using hq
   simp [aa.of,List.lookup_cons,hb]
 obtain ⟨v12,afn⟩:=U5 (id:=id) hj
 have d1:decide (((1:Nat):Int)=0)=false:=rfl
 have w1:IntKind.i64.wrap ((A.length:Int)+((1:Nat):Int))=((A.length+1:Nat):Int):=ao A.length (by omega)
 have w2:IntKind.i64.wrap ((j:Int)+((1:Nat):Int))=((j+1:Nat):Int):=ao j (by omega)
 simp only [cp,SS,Nat.reduceAdd,afn,d1]
 by_cases JZ:j=A.length
 . rw [ai (by omega:(j:Int)=(A.length:Int))]
   simp only [SS,Nat.reduceAdd]
   rw [U6 s1 s2 hM]
   simp only [SS,Nat.reduceAdd]
   refine bZ▸aW rfl fun i => ?_
   right
   rw [JZ,List.take_length,List.drop_length,List.append_nil]
   rfl
 rw [ag (by omega : ¬ (j:Int)=(A.length:Int))]
 have hlt:j<A.length:=by omega
 have g1:=U8 (a:=A.length+1) (n:=(A++[zF]).length) (by simp)
 have u1:=YD (n:=A.length) (h:=A.length+1) s1 rfl (by simp) (by omega)
 simp only [SS,Nat.reduceAdd,w1,U7 s1,g1,u1,w2]
 rw [ya (show j+1<A.length+1 by omega)]
 simp only [SS,Nat.reduceAdd]
 rw [YE hq s2 s1 (show 0<5 by decide) (by simp)]
 simp only [SS,DD,Nat.reduceAdd,w2]
 rw [ya (show j+1<A.length+1 by omega)]
 simp only [SS,DD,Nat.reduceAdd]
 rw [ya (show j<A.length+1 by omega)]
 simp only [SS,DD,Nat.reduceAdd]
 rw [Pc s1 (by simp) hlt hA1]
 simp only [SS,DD,Nat.reduceAdd]
 refine ⟨by simp [aJ], ?_⟩
 have lF:((A++[zF]).take (j+1)++((A++[zF]).drop j).take (A.length-j)++(A++[zF]).drop (j+1+(A.length-j))).length=A.length+1:=by simp;omega
 rw [ya (show j<A.length+1 by omega)]
 simp only [SS,Nat.reduceAdd]
 rw [Sn (n:=A.length) (X:=X) (aa.a6 _ _ _) (by rw [aa.bb _ _ _ hq];exact s2) lF hlt,Sm hlt]
 simp only [SS,Nat.reduceAdd]
 refine bZ▸aW rfl fun i => ?_
 right
 by_cases e:i=id
 . subst e;simp [aa.app,aa.put]
 . simp [aa.app,aa.put,e]
end
theorem EZ {σ : aa} {id:Id} {m:List FX} {r:List AV} {t:Bool} {n:Nat} (hn:n=m.length) (h : σ id=some ⟨m.map FX.av++r,5,false⟩):View σ (.osl id 5 0 n t) (bT m):=by
 subst hn
 refine View.osl (bk:=⟨m.map FX.av++r,5,false⟩) h rfl (by simp) ?_ (by simp) (fun d hd => ?_)
 . have e:((m.map FX.av++r).drop 0).take m.length=m.map FX.av:=by
     rw [List.drop_zero,List.take_left' (by simp)]
   simp only [e]
   refine aI.pure fun c hc => ?_
   simp only [flat,List.mem_flatMap] at hc
   obtain ⟨v,hv,hc⟩:=hc
   obtain ⟨y,_,rfl⟩:=List.mem_map.1 hv
   exact FX.fP y c hc
 . obtain ⟨y,_,rfl⟩:=List.mem_map.1 hd
   rfl
section
variable {P:Program} {G:Nat->Option (List AV)} {π : Id} {base:Nat} {Q:bB->VS->Prop} {n:Nat} {d:Option Nat} {os:List bg} {i:Nat} {t:List AV} {σ : aa}
theorem Jf {f:FuncId} {m:List FX} {r0:List AV} {id:Id} {tt:Bool} {k0:Nat} {r:AV} (h:VP P G f [bT m] r) (hn:k0=m.length) (hf:aS r) (hσ : σ id=some ⟨m.map FX.av++r0,5,false⟩) (k:vs P G π base Q n os (i+1) (fL t d r) σ):nW P G π base Q n d os i t σ f [.osl id 5 0 k0 tt] :=
 ig [(id,⟨m.map FX.av++r0,5,false⟩)] h (aI.cons (EZ (r:=r0) hn (by simp [aa.of])) .nil) hf (fun x hx=>by rw [List.mem_singleton] at hx;subst hx;exact hσ) k
end
noncomputable def zr (hid:Id) (ls:List (List FX)) (now:Nat) (l:List FX) (nm:List UInt8):Int × List (Id × Option a8) :=
 if cM l nm<0 then (4,[]) else if kT (eM l (cM l nm).toNat)=true then (0,sa hid ls now l (eM l (cM l nm).toNat)) else (14,[])
noncomputable def yb (hid:Id) (ls:List (List FX)) (now:Nat) (l:List FX) (nm:List UInt8) (pH:Int):Int × List (Id × Option a8) :=
 if pH<0∨(l.length:Int)<=pH then (1,[]) else if cM l nm<0 then (4,[]) else
   let m:=l5 (eM l (cM l nm).toNat) pH.toNat (l.getD (cM l nm).toNat ⟨[],0,[],[],false⟩)
   if kT m=true then (0,sa hid ls now l m) else (14,[])
theorem ov {aU:FX->Prop} {l:List FX} {i:Nat} (hg:∀ Y∈l,aU Y):∀ Y∈eM l i,aU Y:=by
 intro Y hY
 unfold eM at hY
 rcases List.mem_append.1 hY with h | h
 . exact hg Y (List.mem_of_mem_take h)
 . exact hg Y (List.mem_of_mem_drop h)
theorem yc {aU:FX->Prop} {m:List FX} {j:Nat} {X:FX} (hg:∀ Y∈m,aU Y) (hX:aU X):∀ Y∈l5 m j X,aU Y:=by
 intro Y hY
 unfold l5 at hY
 simp only [List.mem_append,List.mem_singleton] at hY
 rcases hY with (h | h) | h
 . exact hg Y (List.mem_of_mem_take h)
 . rw [h];exact hX
 . exact hg Y (List.mem_of_mem_drop h)
theorem szR {m:List FX}:∀ e∈m.map FX.av++[zF],e.size=5:=by
 intro e he
 rcases List.mem_append.1 he with h | h
 . exact Gs e h
 . rw [List.mem_singleton] at h;subst h;rfl
section
variable {P:Program} {G:Nat->Option (List AV)} {aU:FX->Prop} {f fp fv ff fc qu fs GQ fd abP:FuncId}
set_option maxHeartbeats 4000000 in
theorem U9 (h:Has P f (iD fp fc ff fd fs GQ)) (hd:Has P fd bM) (H:HH P G aU fp fv ff fc qu fs GQ) {hid:Id} {ls:List (List FX)} {now:Nat} {l:List FX} (hl:ls[now]? = some l) (qA:ls.length<=1000)
   (hlen:l.length<=200) (hg:∀ X∈l,aU X) (nm:List UInt8) (p:Id) (CF : ¬ p <:+ hid) :
   aq P G f [.ref hid 0 0, .str nm] p [(hid,bH ls now)] { val := .int .i64 (zr hid ls now l nm).1,rd:=[hid],up:=(zr hid ls now l nm).2 }:=by
 unfold zr
 have hne:∀ q:Id,q++p≠hid:=fun q e=>CF ⟨q,e⟩
 have Pe:(5::3::p)≠hid:=hne [5,3]
 refine aq.has h ?_
 simp only [iD,SS,Nat.reduceAdd]
 refine ⟨[(hid,bH ls now)],_,lz H.present hl _,by simp [dF],by simp, ?_⟩
 simp only [SS,Nat.reduceAdd]
 by_cases h0:l=[]
 . subst h0
   refine aj (zo H.cloneL) (by simp [kr]) ?_
   simp only [SS,Nat.reduceAdd]
   refine I5 (H.find [] nm (by simp) hg) (af.str _) (aS.int _ _) ?_
   have d0:decide ((-1:Int)<0)=true:=rfl
   rw [if_pos (show cM [] nm<0 from by rw [x8];decide)]
   simp only [x8,SS,Nat.reduceAdd,d0]
   exact bZ▸aW rfl (ou (up:=[]) (by simp) dF)
 refine ⟨[],_,zp H.cloneL h0 (by omega) _,by simp,by simp, ?_⟩
 simp only [SS,Nat.reduceAdd]
 refine Ag (H.find l nm (by omega) hg) (af.str _) (aS.int _ _) (by simp [aa.put]) ?_
 simp only [SS,Nat.reduceAdd]
 by_cases h3:cM l nm<0
 . rw [if_pos h3,ai h3]
   simp only [SS,Nat.reduceAdd]
   exact bZ▸aW rfl (ou (up:=[]) (by simp) (by simp [aa.put,Pe.symm,dF]))
 rw [if_neg h3,ag h3]
 obtain ⟨i,hi,hlt⟩:=iY h3
 rw [hi,Int.toNat_natCast]
 have o8:=mU hlt
 have E4:∀ Z∈eM l i,aU Z:=ov hg
 simp only [SS,Nat.reduceAdd,ao i (by omega)]
 refine ⟨[(5::3::p,⟨l.map FX.av,5,false⟩)],_,EY hd hlt (by omega) _,by simp [aa.put],by simp, ?_⟩
 simp only [SS,Nat.reduceAdd]
 refine Jf (r0:=[zF]) (H.sat _ (by omega) E4) (by omega) (aS.bool _) (by simp [aa.put]) ?_
 cases hB:kT (eM l i)
 . simp only [SS,Nat.reduceAdd]
   exact bZ▸aW rfl (ou (up:=[]) (by simp) (by simp [aa.put,Pe.symm,dF]))
 . simp only [SS,Nat.reduceAdd]
   refine vF (id:=5::3::p) (bk:=⟨(eM l i).map FX.av++[zF],5,false⟩) (H.change hid ls now l (eM l i) _ hl qA (by omega) (by omega) hg E4 (fun q=>hne [q,_])) (EZ (r:=[zF]) (by omega) (by simp [aa.of])) Pe szR (by simp [aa.put]) (by simp [aa.put,Pe.symm,dF]) ?_
   simp only [SS,Nat.reduceAdd]
   exact bZ▸aW rfl (ou CG (by simp [aa.put,aa.app,nX,Pe.symm,dF]))
set_option maxHeartbeats 4000000 in
theorem Sp (h:Has P f (jq fp fc ff fd abP fs GQ)) (hd:Has P fd bM) {fr:FuncId} (Gg:Has P abP (cp fr)) (H:HH P G aU fp fv ff fc qu fs GQ) {hid:Id} {ls:List (List FX)} {now:Nat} {l:List FX} (hl:ls[now]? = some l) (qA:ls.length<=1000)
   (hlen:l.length<=200) (hg:∀ X∈l,aU X) (nm:List UInt8) (pH:Int) (p:Id) (CF : ¬ p <:+ hid) :
   aq P G f [.ref hid 0 0, .str nm, .int .i64 pH] p [(hid,bH ls now)] { val := .int .i64 (yb hid ls now l nm pH).1,rd:=[hid],up:=(yb hid ls now l nm pH).2 }:=by
 unfold yb
 have hne:∀ q:Id,q++p≠hid:=fun q e=>CF ⟨q,e⟩
 have Pe:(5::3::p)≠hid:=hne [5,3]
 refine aq.has h ?_
 simp only [jq,SS,Nat.reduceAdd]
 refine ⟨[(hid,bH ls now)],_,lz H.present hl _,by simp [dF],by simp, ?_⟩
 simp only [SS,Nat.reduceAdd]
 by_cases h0:l=[]
 . subst h0
   rw [if_pos (show pH<0∨(([]:List FX).length:Int)<=pH from by simp;omega)]
   refine aj (zo H.cloneL) (by simp [kr]) ?_
   simp only [SS,Nat.reduceAdd]
   by_cases t1:pH<0
   . simp only [SS,Nat.reduceAdd,ai t1]
     exact bZ▸aW rfl (ou (up:=[]) (by simp) dF)
   . have t2:decide (((0:Nat):Int)<=pH)=true:=ai (by omega)
     simp only [SS,Nat.reduceAdd,ag t1,t2]
     exact bZ▸aW rfl (ou (up:=[]) (by simp) dF)
 refine ⟨[],_,zp H.cloneL h0 (by omega) _,by simp,by simp, ?_⟩
 simp only [SS,Nat.reduceAdd]
 by_cases t1:pH<0
 . rw [if_pos (.inl t1)]
   simp only [SS,Nat.reduceAdd,ai t1]
   exact bZ▸aW rfl (ou (up:=[]) (by simp) (by simp [aa.put,Pe.symm,dF]))
 simp only [SS,Nat.reduceAdd,ag t1]
 by_cases t2:(l.length:Int)<=pH
 . rw [if_pos (.inr t2)]
   simp only [SS,Nat.reduceAdd,ai t2]
   exact bZ▸aW rfl (ou (up:=[]) (by simp) (by simp [aa.put,Pe.symm,dF]))
 rw [if_neg (by omega)]
 simp only [SS,Nat.reduceAdd,ag t2]
 refine Ag (H.find l nm (by omega) hg) (af.str _) (aS.int _ _) (by simp [aa.put]) ?_
 simp only [SS,Nat.reduceAdd]
 by_cases h3:cM l nm<0
 . rw [if_pos h3,ai h3]
   simp only [SS,Nat.reduceAdd]
   exact bZ▸aW rfl (ou (up:=[]) (by simp) (by simp [aa.put,Pe.symm,dF]))
 rw [if_neg h3,ag h3]
 obtain ⟨i,hi,hlt⟩:=iY h3
 obtain ⟨j,hj⟩:∃ j:Nat,pH=(j:Int):=⟨pH.toNat,by omega⟩
 rw [hi,Int.toNat_natCast,hj,Int.toNat_natCast]
 obtain ⟨X,hX⟩:∃ X,l[i]? = some X:=⟨_,List.getElem?_eq_getElem hlt⟩
 have hgx:(l.map FX.av)[i]? = some X.av:=by rw [List.getElem?_map,hX];rfl
 have JV:l.getD i ⟨[],0,[],[],false⟩=X:=by rw [List.getD_eq_getElem?_getD,hX];rfl
 rw [JV]
 have o8:=mU hlt
 have l9:j<=(eM l i).length:=by omega
 have Lx:=xY (X:=X) l9
 have E4:∀ Z∈l5 (eM l i) j X,aU Z:=yc (ov hg) (hg X (List.mem_of_getElem? hX))
 simp only [SS,Nat.reduceAdd,dV hlt]
 rw [gO (bk:=⟨l.map FX.av,5,false⟩) (by simp [aa.put]) hgx,FX.whole]
 simp only [SS,Nat.reduceAdd,mG]
 have n23:(23::p)≠hid:=hne [23]
 have afo:l.length-1=(eM l i).length:=by omega
 rw [wx (k:=(AV.agg [.str [], .int .i64 0, .nils, .nils, .bool false]).size) (by simp [aa.put])]
 simp only [SS,DD,Nat.reduceAdd,ao i (by omega)]
 refine ⟨[(5::3::p,⟨l.map FX.av,5,false⟩)],_,EY hd hlt (by omega) _,by simp [aa.put],by simp, ?_⟩
 simp only [SS,DD,Nat.reduceAdd]
 rw [afo,ay (by simp),ak,FX.whole]
 simp only [SS,DD,Nat.reduceAdd,WK]
 have n32:(32::p)≠hid:=hne [32]
 refine ⟨[(5::3::p,⟨(eM l i).map FX.av++[zF],5,false⟩),(32::p,⟨[X.av],5,false⟩)],_,Pd Gg l9 (by omega) (by simp) _, ?_, ?_, ?_⟩
 . intro x hx
   simp only [List.mem_cons,List.not_mem_nil,or_false] at hx
   rcases hx with rfl | rfl
   . simp [aa.put]
   . exact aa.a6 _ _ _
 . intro x hx
   simp only [List.mem_cons,List.not_mem_nil,or_false] at hx
   rcases hx with rfl | rfl<;>simp
 simp only [SS,DD,Nat.reduceAdd]
 refine ⟨by simp [aJ,apart], ?_⟩
 rw [<- Lx]
 refine K4 (H.sat _ (by omega) E4) (aS.bool _) (by simp [aa.put]) ?_
 cases hB:kT (l5 (eM l i) j X)
 . simp only [SS,Nat.reduceAdd]
   exact bZ▸aW rfl (ou (up:=[]) (by simp) (by simp [aa.put,Pe.symm,n23.symm,n32.symm,dF]))
 . simp only [SS,Nat.reduceAdd]
   refine vF (id:=5::3::p) (bk:=⟨(l5 (eM l i) j X).map FX.av,5,false⟩) (H.change hid ls now l (l5 (eM l i) j X) _ hl qA (by omega) (by omega) hg E4 (fun q=>hne [q,_])) (kS (by simp [aa.of])) Pe Gs (by simp [aa.put]) (by simp [aa.put,Pe.symm,n23.symm,n32.symm,dF]) ?_
   simp only [SS,Nat.reduceAdd]
   exact bZ▸aW rfl (ou CG (by simp [aa.put,aa.app,nX,Pe.symm,n23.symm,n32.symm,dF]))
end
noncomputable def qW (hid:Id) (ls:List (List FX)) (now:Nat) (l:List FX) (o:OX):Int × List (Id × Option a8) :=
 if o.kind%7=0 then DC hid ls now l o.F else if o.kind%7=1 then I6 hid ls now l o.F else if o.kind%7=2 then Si hid ls now l o.name o.on
 else if o.kind%7=3 then yb hid ls now l o.name o.pH else zr hid ls now l o.name
def E5 (l:List FX) (o:OX):List FX × Int :=
 if o.kind%7=0 then (if o.F.valid=false then ([],1) else if l.length=200 then ([],3) else if 0<=cM l o.F.name then ([],5) else if kT (l++[o.F])=true then (l++[o.F],0) else ([],4))
 else if o.kind%7=1 then (if o.F.valid=false then ([],1) else if cM l o.F.name<0 then ([],4) else if kT (l.set (cM l o.F.name).toNat o.F)=true then (l.set (cM l o.F.name).toNat o.F,0) else ([],4))
 else if o.kind%7=2 then (if cM l o.name<0 then ([],4) else (l.set (cM l o.name).toNat ((l.getD (cM l o.name).toNat ⟨[],0,[],[],false⟩).bD o.on),0))
 else if o.kind%7=3 then (if o.pH<0∨(l.length:Int)<=o.pH then ([],1) else if cM l o.name<0 then ([],4) else
   if kT (l5 (eM l (cM l o.name).toNat) o.pH.toNat (l.getD (cM l o.name).toNat ⟨[],0,[],[],false⟩))=true then (l5 (eM l (cM l o.name).toNat) o.pH.toNat (l.getD (cM l o.name).toNat ⟨[],0,[],[],false⟩),0) else ([],14))
 else (if cM l o.name<0 then ([],4) else if kT (eM l (cM l o.name).toNat)=true then (eM l (cM l o.name).toNat,0) else ([],14))
theorem zt (hid:Id) (ls:List (List FX)) (now:Nat) (l:List FX) (o:OX):qW hid ls now l o=((E5 l o).2,if (E5 l o).2=0 then sa hid ls now l (E5 l o).1 else []):=by
 unfold qW E5 DC I6 Si yb zr
 simp only []
 repeat' split
 all_goals first | rfl | (simp_all;done) | skip
 all_goals simp_all
theorem K8 {l:List FX} {X:FX} (hn:(bW l).Nodup) (h:cM l X.name<0):(bW (l++[X])).Nodup:=by
 rw [Pa,List.nodup_append]
 refine ⟨hn,by simp [bW], ?_⟩
 intro a ha b hb AU
 simp [bW] at hb
 subst AU;subst hb
 exact CH.1 h ha
theorem Pf {l:List FX} {i:Nat} {X:FX} (hX:l[i]? = some X) (hn:(bW l).Nodup):(bW (eM l i)).Nodup:=by
 have:=CI (Jc hX) hn
 exact (List.nodup_cons.1 this).2
theorem Pg {l:List FX} {i j:Nat} {X:FX} (hX:l[i]? = some X) (hn:(bW l).Nodup):(bW (l5 (eM l i) j X)).Nodup :=
 CI ((Jc hX).trans (Sj _ _ _).symm) hn
theorem step_eq {l:List FX} {o:OX} (hL:eZ l=true) (hk:o.kind%7<5):E5 l o=bX l o:=by
 have hlen:=iZ hL
 have hval:=Ja hL
 have AW:=Jb hL
 unfold E5 bX
 by_cases k0:o.kind%7=0
 . rw [if_pos k0,if_pos k0]
   cases hv:o.F.valid
   . rw [if_pos (show false=false from rfl),if_pos (show false=false from rfl)]
   rw [if_neg (show ¬ (true=false) by decide),if_neg (show ¬ (true=false) by decide)]
   by_cases h2:l.length=200
   . rw [if_pos h2,if_pos (show 200<=l.length by omega)]
   rw [if_neg h2,if_neg (show ¬ 200<=l.length by omega)]
   by_cases h3:0<=cM l o.F.name
   . rw [if_pos h3,if_pos h3]
   rw [if_neg h3,if_neg h3]
   rw [sb (l:=l++[o.F]) (fun X hX=>by
     rcases List.mem_append.1 hX with h | h
     . exact hval X h
     . rw [List.mem_singleton] at h;rw [h];exact hv) (K8 AW (by omega)) (by simp;omega)]
 rw [if_neg k0,if_neg k0]
 by_cases k1:o.kind%7=1
 . rw [if_pos k1,if_pos k1]
   cases hv:o.F.valid
   . rw [if_pos (show false=false from rfl),if_pos (show false=false from rfl)]
   rw [if_neg (show ¬ (true=false) by decide),if_neg (show ¬ (true=false) by decide)]
   by_cases h3:cM l o.F.name<0
   . rw [if_pos h3,if_pos h3]
   rw [if_neg h3,if_neg h3]
   obtain ⟨i,hi,hlt⟩:=iY h3
   obtain ⟨Y,hY,hYn⟩:=qV hi
   rw [hi,Int.toNat_natCast]
   rw [sb (l:=l.set i o.F) (fun X hX=>by
     rcases List.mem_or_eq_of_mem_set hX with h | h
     . exact hval X h
     . rw [h];exact hv) (by rw [EW hY hYn.symm];exact AW) (by rw [List.length_set];exact hlen)]
 rw [if_neg k1,if_neg k1]
 by_cases k2:o.kind%7=2
 . rw [if_pos k2,if_neg (show ¬ (o.kind%7=3/\(o.pH<0∨(l.length:Int)<=o.pH)) from fun h=>by omega)]
   by_cases h3:cM l o.name<0
   . rw [if_pos h3,if_pos h3]
   rw [if_neg h3,if_neg h3]
   obtain ⟨i,hi,hlt⟩:=iY h3
   obtain ⟨Y,hY,hYn⟩:=qV hi
   have JV:l.getD i ⟨[],0,[],[],false⟩=Y:=by rw [List.getD_eq_getElem?_getD,hY];rfl
   rw [hi,Int.toNat_natCast,JV]
   simp only [if_pos k2,JV]
   rw [U4 hY,if_pos (K7 hY hL)]
 rw [if_neg k2]
 by_cases k3:o.kind%7=3
 . rw [if_pos k3]
   by_cases h1:o.pH<0∨(l.length:Int)<=o.pH
   . rw [if_pos h1,if_pos ⟨k3,h1⟩]
   rw [if_neg h1,if_neg (show ¬ (o.kind%7=3/\(o.pH<0∨(l.length:Int)<=o.pH)) from fun h=>h1 h.2)]
   by_cases h3:cM l o.name<0
   . rw [if_pos h3,if_pos h3]
   rw [if_neg h3,if_neg h3]
   obtain ⟨i,hi,hlt⟩:=iY h3
   obtain ⟨Y,hY,hYn⟩:=qV hi
   have JV:l.getD i ⟨[],0,[],[],false⟩=Y:=by rw [List.getD_eq_getElem?_getD,hY];rfl
   rw [hi,Int.toNat_natCast,JV]
   simp only [if_neg k2,if_pos k3,JV]
   have l9:o.pH.toNat<=(eM l i).length:=by have:=mU hlt;omega
   rw [sb (l:=l5 (eM l i) o.pH.toNat Y) (yc (ov hval) (hval Y (List.mem_of_getElem? hY))) (Pg hY AW) (by rw [xY l9,mU hlt];exact hlen)]
 . rw [if_neg k3,if_neg (show ¬ (o.kind%7=3/\(o.pH<0∨(l.length:Int)<=o.pH)) from fun h=>k3 h.1)]
   by_cases h3:cM l o.name<0
   . rw [if_pos h3,if_pos h3]
   rw [if_neg h3,if_neg h3]
   obtain ⟨i,hi,hlt⟩:=iY h3
   obtain ⟨Y,hY,hYn⟩:=qV hi
   rw [hi,Int.toNat_natCast]
   simp only [if_neg k2,if_neg k3]
   rw [sb (l:=eM l i) (ov hval) (Pf hY AW) (by have:=mU hlt;omega)]
end Go.VL
