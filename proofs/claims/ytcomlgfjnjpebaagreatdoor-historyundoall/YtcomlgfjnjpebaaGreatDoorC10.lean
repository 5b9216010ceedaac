/- For the claim of HistoryUndoAll: parts CF7, CF8, CF9, CF10, CH3, CH4, CF11, CF12, CF13, CF14, NL, HNJ, HHasH, CG1. -/
import Derived.Test.YtcomlgfjnjpebaaGreatDoorC09
import Derived.Test.YtcomlgfjnjpebaaGreatDoorC05
import Derived.Lib.IndexMore
import Derived.Sort.KeysCollected
import Derived.Sort.Walk0
import Derived.Lib.SlicesCompact
import Derived.Test.YtcomlgfjnjpebaaGreatDoorProg
import Derived.KernelRfl
import Derived.Test.YtcomlgfjnjpebaaGreatDoorC04
set_option linter.unusedSimpArgs false
set_option linter.unusedVariables false
section
set_option linter.unusedVariables false
set_option linter.unusedVariables false
namespace Go.VL
theorem EX.GI (op:Int) (n1:Bool) (w1:List Nat) (n2:Bool) (w2:List Nat) (nm:List UInt8) (args:List EX) :
   (EX.mk op n1 w1 n2 w2 nm args).formed=(gO op n1 w1 n2 w2 nm args.length&&EX.gm args):=by
 rw [EX.formed]
 unfold gO arity
 have Dg:args.length=0->EX.gm args=true:=fun h=>by rw [List.length_eq_zero_iff.1 h];rfl
 by_cases h1:op=1
 . subst h1
   by_cases h0:args.length=0
   . simp [h0,Dg h0]
   . simp [h0]
 rw [if_neg h1,if_neg h1]
 by_cases h2:op=2
 . subst h2
   by_cases h0:args.length=0
   . simp [h0,Dg h0]
   . simp [h0]
 rw [if_neg h2,if_neg h2]
 by_cases h3:op=3
 . subst h3
   by_cases h0:args.length=1
   . simp [h0]
   . simp [h0]
 rw [if_neg h3]
 by_cases h4:4<=op/\op<=7
 . have a1 : ¬ op<=2:=by omega
   have a2 : ¬ op<=3:=by omega
   have a3:1<=op:=by omega
   rw [if_pos h4,if_neg a1,if_neg a2]
   by_cases h0:args.length=2
   . simp [h0,a3,h4.2]
   . simp [h0]
 . rw [if_neg h4,Bool.false_and]
   by_cases a3:1<=op
   . have a4 : ¬ op<=7:=by omega
     simp [a4]
   . simp [a3]
section
variable {P:Program} {G:Nat->Option (List AV)}
theorem KV {f fs:FuncId} (h:Has P f (gj fs f))
   (hs:∀ op n1 w1 n2 w2 nm args,(EX.mk op n1 w1 n2 w2 nm args).Ok->(EX.mk op n1 w1 n2 w2 nm args).nA=true->VP P G fs [(EX.mk op n1 w1 n2 w2 nm args).av] (.bool (gO op n1 w1 n2 w2 nm args.length))) :
   ∀ e:EX,e.Ok->e.nA=true->VP P G f [e.av] (.bool e.formed):=EX.induct fun op n1 w1 n2 w2 nm args ih mo Y8=>by
 have BN:=hs _ _ _ _ _ _ _ mo Y8
 have R7:=EX.rf mo
 have Wx:=(EX.uz Y8).1
 rw [EX.Ok] at mo
 obtain ⟨_,_,_,_,_,_,_,Gg,_⟩:=mo
 rw [EX.GI]
 cases hb:gO op n1 w1 n2 w2 nm args.length
 . rw [hb] at BN
   refine VP.has h ?_
   simp only [gj,SS,Nat.reduceAdd,EX.one,ae,EX.all]
   refine aj BN (by simp [EX.pure]) ?_
   simp only [SS,Nat.reduceAdd,Bool.false_and]
   exact ag▸ab rfl (af.bool _)
 rw [hb] at BN
 rw [EX.wx,Bool.true_and]
 refine VP.has h ?_
 simp only [gj,SS,Nat.reduceAdd,EX.one,ae,EX.all]
 refine aj BN (by simp [EX.pure]) ?_
 simp only [SS,Nat.reduceAdd,aC]
 refine VW.bJ (α := Nat × Nat) (fun x=>⟨[(EX.mk op n1 w1 n2 w2 nm args).av, .ref [0] 0 0, .bool false, .int .i64 (x.1:Int)]++List.replicate 17 .top,aa.put (fun _=>none) [0] (some ⟨[(EX.mk op n1 w1 n2 w2 nm args).av],7,false⟩),x.2⟩)
   (fun x=>x.1<=args.length/\(args.take x.1).all EX.formed=true) (fun x=>args.length-x.1) (0,1000) ?_ ⟨Nat.zero_le _,by simp⟩ ?_
 . exact Wk.slots (by simp [Fg,List.replicate]) (by omega)
 rintro ⟨i,nn⟩ ⟨hi,cz⟩
 simp only [] at hi cz
 by_cases hlt:i<args.length
 . obtain ⟨x,hx⟩:∃ x,args[i]? = some x:=⟨_,List.getElem?_eq_getElem hlt⟩
   have hm:=List.mem_of_getElem? hx
   have hg:(EX.kV args)[i]? = some x.av:=by rw [EX.cF,List.getElem?_map,hx];rfl
   have d1:decide ((i:Int)<(args.length:Int))=true:=ao (by omega)
   have hfx:=ih x hm (R7 x hm) (Wx x hm)
   simp only [SS,Nat.reduceAdd,ae,EX.q6,EX.a6,d1,aQ rfl hg,az,EX.all]
   refine aj hfx (by simp [EX.pure]) ?_
   cases Yk:x.formed
   . have e:args.all EX.formed=false:=by
       rw [Bool.eq_false_iff];intro hh
       rw [List.all_eq_true] at hh
       rw [hh x hm] at Yk;cases Yk
     rw [e]
     simp only [SS,Nat.reduceAdd]
     exact ag▸ab rfl (af.bool _)
   . simp only [SS,Nat.reduceAdd,aq i (by omega)]
     refine ⟨(i+1,_),⟨by simp only [];omega, ?_⟩,by simp only [];omega,Wk.slots (by simp [Fg]) (Nat.le_refl _)⟩
     simp only []
     rw [List.take_add_one,hx,List.all_append,cz]
     simp [Yk]
 . have d1:decide ((i:Int)<(args.length:Int))=false:=ak (by omega)
   have jc:i=args.length:=by omega
   rw [jc,List.take_length] at cz
   rw [cz]
   simp only [SS,Nat.reduceAdd,ae,EX.q6,EX.a6,d1]
   exact ag▸ab rfl (af.bool _)
theorem OD {f:FuncId} (h:Has P f (jQ f)):∀ e:EX,e.nodes<=1000->VP P G f [e.av] (.int .i64 (e.depth:Int)):=EX.induct fun op n1 w1 n2 w2 nm args ih Aw=>by
 have yw:EX.cT args<=999:=by rw [EX.nodes] at Aw;omega
 have Gg:args.length<=999:=Nat.le_trans (EX.DG args) yw
 rw [EX.depth]
 refine VP.has h ?_
 simp only [jQ,SS,Nat.reduceAdd,EX.one,aC]
 refine VW.bJ (α := Nat × Nat) (fun x=>⟨[(EX.mk op n1 w1 n2 w2 nm args).av, .ref [0] 0 0, .top, .int .i64 ((EX.fL (args.take x.1):Nat):Int), .int .i64 (x.1:Int)]++List.replicate 17 .top,aa.put (fun _=>none) [0] (some ⟨[(EX.mk op n1 w1 n2 w2 nm args).av],7,false⟩),x.2⟩)
   (fun x=>x.1<=args.length) (fun x=>args.length-x.1) (0,1000) ?_ (Nat.zero_le _) ?_
 . exact Wk.slots (by simp [Fg,List.replicate,EX.fL]) (by omega)
 rintro ⟨i,nn⟩ hi
 simp only [] at hi
 by_cases hlt:i<args.length
 . obtain ⟨x,hx⟩:∃ x,args[i]? = some x:=⟨_,List.getElem?_eq_getElem hlt⟩
   have hm:=List.mem_of_getElem? hx
   have N6:=EX.sZ hm
   have hg:(EX.kV args)[i]? = some x.av:=by rw [EX.cF,List.getElem?_map,hx];rfl
   have d1:decide ((i:Int)<(args.length:Int))=true:=ao (by omega)
   have em:(if (x.depth:Int)>((EX.fL (args.take i):Nat):Int) then (x.depth:Int) else ((EX.fL (args.take i):Nat):Int))=((EX.fL (args.take (i+1)):Nat):Int):=by
     rw [List.take_add_one,hx,Option.toList_some,EX.wy]
     split<;>omega
   simp only [SS,Nat.reduceAdd,ae,EX.q6,EX.a6,d1,aQ rfl hg,az,EX.all]
   refine aj (ih x hm (by omega)) (by simp [EX.pure]) ?_
   simp only [SS,Nat.reduceAdd,aq i (by omega),em]
   exact ⟨(i+1,_),by simp only [];omega,by simp only [];omega,Wk.slots (by simp [Fg]) (Nat.le_refl _)⟩
 . have d1:decide ((i:Int)<(args.length:Int))=false:=ak (by omega)
   have jc:i=args.length:=by omega
   have UM:=EX.A1 args args.length
   rw [List.take_length] at UM
   have hw:IntKind.i64.wrap (((EX.fL args:Nat):Int)+1)=((EX.fL args+1:Nat):Int):=by rw [IntKind.wrap_i64];omega
   subst jc
   rw [List.take_length]
   simp only [SS,Nat.reduceAdd,ae,EX.q6,EX.a6,d1,hw]
   exact ag▸ab rfl (af.int _ _)
theorem Jc {f ff fd:FuncId} (h:Has P f (eR ff fd)) (e:EX) (hf:VP P G ff [e.av] (.bool e.formed)) (hd:VP P G fd [e.av] (.int .i64 (e.depth:Int))) :
   VP P G f [e.av] (.int .i64 (if e.formed=true then (if 40<e.depth then 3 else 0) else 1)):=by
 cases Hd:e.formed
 . rw [Hd] at hf
   refine VP.has h ?_
   simp only [eR,SS,Nat.reduceAdd,EX.one,ae,EX.all]
   refine aj hf (by simp [EX.pure]) ?_
   simp only [SS,Nat.reduceAdd]
   exact ag▸ab rfl (af.int _ _)
 . rw [Hd] at hf
   by_cases hdp:40<e.depth
   . have d1:decide ((40:Int)<(e.depth:Int))=true:=ao (by omega)
     rw [if_pos rfl,if_pos hdp]
     refine VP.has h ?_
     simp only [eR,SS,Nat.reduceAdd,EX.one,ae,EX.all]
     refine aj hf (by simp [EX.pure]) ?_
     simp only [SS,Nat.reduceAdd,ae,EX.all]
     refine aj hd (by simp [EX.pure]) ?_
     simp only [SS,Nat.reduceAdd,d1]
     exact ag▸ab rfl (af.int _ _)
   . have d1:decide ((40:Int)<(e.depth:Int))=false:=ak (by omega)
     rw [if_pos rfl,if_neg hdp]
     refine VP.has h ?_
     simp only [eR,SS,Nat.reduceAdd,EX.one,ae,EX.all]
     refine aj hf (by simp [EX.pure]) ?_
     simp only [SS,Nat.reduceAdd,ae,EX.all]
     refine aj hd (by simp [EX.pure]) ?_
     simp only [SS,Nat.reduceAdd,d1]
     exact ag▸ab rfl (af.int _ _)
theorem R9 {f:FuncId} (h:Has P f (jU f)):∀ e:EX,e.Ok->VP P G f [e.av] (.bool e.nA):=EX.induct fun op n1 w1 n2 w2 nm args ih mo=>by
 have R7:=EX.rf mo
 rw [EX.Ok] at mo
 obtain ⟨_,_,_,_,_,_,_,Gg,_⟩:=mo
 rw [EX.nA,EX.ye]
 have hlen:∀ ws,jM false (.sl 1 (us ws))=some (.int .i64 ws.length):=fun ws=>by simp [jM,dD]
 have l1:decide ((w1.length:Int)<=8)=decide (w1.length<=8):=by by_cases q:w1.length<=8<;>simp [q]<;>omega
 have l2:decide ((w2.length:Int)<=8)=decide (w2.length<=8):=by by_cases q:w2.length<=8<;>simp [q]<;>omega
 have l3:decide ((nm.length:Int)<=60)=decide (nm.length<=60):=by by_cases q:nm.length<=60<;>simp [q]<;>omega
 refine VP.has h ?_
 simp only [jU,SS,Nat.reduceAdd,EX.one,aC]
 refine VW.bJ (α := Nat × Nat) (fun x=>⟨[(EX.mk op n1 w1 n2 w2 nm args).av, .ref [0] 0 0, .bool false, .int .i64 (x.1:Int)]++List.replicate 34 .top,aa.put (fun _=>none) [0] (some ⟨[(EX.mk op n1 w1 n2 w2 nm args).av],7,false⟩),x.2⟩)
   (fun x=>x.1<=args.length/\(args.take x.1).all EX.nA=true) (fun x=>args.length-x.1) (0,1000) ?_ ⟨Nat.zero_le _,by simp⟩ ?_
 . exact Wk.slots (by simp [Fg,List.replicate]) (by omega)
 rintro ⟨i,nn⟩ ⟨hi,cz⟩
 simp only [] at hi cz
 by_cases hlt:i<args.length
 . obtain ⟨x,hx⟩:∃ x,args[i]? = some x:=⟨_,List.getElem?_eq_getElem hlt⟩
   have hm:=List.mem_of_getElem? hx
   have hg:(EX.kV args)[i]? = some x.av:=by rw [EX.cF,List.getElem?_map,hx];rfl
   have d1:decide ((i:Int)<(args.length:Int))=true:=ao (by omega)
   have hfx:=ih x hm (R7 x hm)
   simp only [SS,Nat.reduceAdd,ae,EX.q6,EX.a6,d1,aQ rfl hg,az,EX.all]
   refine aj hfx (by simp [EX.pure]) ?_
   cases Yk:x.nA
   . have e:args.all EX.nA=false:=by
       rw [Bool.eq_false_iff];intro hh
       rw [List.all_eq_true] at hh
       rw [hh x hm] at Yk;cases Yk
     rw [e]
     simp only [SS,Nat.reduceAdd,Bool.false_and]
     exact ag▸ab rfl (af.bool _)
   . simp only [SS,Nat.reduceAdd,aq i (by omega)]
     refine ⟨(i+1,_),⟨by simp only [];omega, ?_⟩,by simp only [];omega,Wk.slots (by simp [Fg]) (Nat.le_refl _)⟩
     simp only []
     rw [List.take_add_one,hx,List.all_append,cz]
     simp [Yk]
 . have d1:decide ((i:Int)<(args.length:Int))=false:=ak (by omega)
   have jc:i=args.length:=by omega
   rw [jc,List.take_length] at cz
   rw [cz,Bool.true_and]
   cases b1:decide (w1.length<=8)<;>cases b2:decide (w2.length<=8) <;>
   . rw [b1] at l1
     rw [b2] at l2
     simp only [SS,Nat.reduceAdd,ae,EX.q6,EX.a6,d1,EX.r2,EX.r4,EX.q5,hlen,l1,l2,l3,Bool.true_and,Bool.false_and]
     exact ag▸ab rfl (af.bool _)
def j9 (L n:Nat):Nat:=if n<=L then n else L+1
theorem EX.BD (x:EX):∀ l,EX.cT (l++[x])=EX.cT l+x.nodes
 | []=>by simp [EX.cT]
 | a::l=>by rw [List.cons_append,EX.cT,EX.cT,EX.BD x l];omega
theorem EX.Jd (l:List EX) (k:Nat):EX.cT (l.take k)<=EX.cT l:=by
 induction l generalizing k with
 | nil=>simp [EX.cT]
 | cons a l ih=>cases k with
   | zero=>simp [EX.cT]
   | succ k=>rw [List.take_succ_cons,EX.cT,EX.cT];have:=ih k;omega
theorem Sa {f:FuncId} (h:Has P f (jS f)):∀ e:EX,e.Ok->∀ L:Nat,L<=1000->VP P G f [e.av, .int .i64 (L:Int)] (.int .i64 ((j9 L e.nodes:Nat):Int)):=EX.induct fun op n1 w1 n2 w2 nm args ih mo L hL=>by
 have R7:=EX.rf mo
 rw [EX.Ok] at mo
 obtain ⟨_,_,_,_,_,_,_,Gg,_⟩:=mo
 rw [EX.nodes]
 refine VP.has h ?_
 simp only [jS,SS,Nat.reduceAdd,EX.one,aC]
 refine VW.bJ (α := Nat × Nat) (fun x=>⟨[(EX.mk op n1 w1 n2 w2 nm args).av, .int .i64 (L:Int), .ref [0] 0 0, .top, .top, .int .i64 ((j9 L (1+EX.cT (args.take x.1)):Nat):Int), .int .i64 (x.1:Int)]++List.replicate 24 .top,aa.put (fun _=>none) [0] (some ⟨[(EX.mk op n1 w1 n2 w2 nm args).av],7,false⟩),x.2⟩)
   (fun x=>x.1<=args.length) (fun x=>args.length-x.1) (0,1000) ?_ (Nat.zero_le _) ?_
 . have e0:j9 L (1+EX.cT (args.take 0))=1:=by rw [List.take_zero,EX.cT];unfold j9;split<;>omega
   simp only [e0]
   exact Wk.slots (by simp [Fg,List.replicate]) (by omega)
 rintro ⟨i,nn⟩ hi
 simp only [] at hi
 by_cases hlt:i<args.length
 . obtain ⟨x,hx⟩:∃ x,args[i]? = some x:=⟨_,List.getElem?_eq_getElem hlt⟩
   have hm:=List.mem_of_getElem? hx
   have hg:(EX.kV args)[i]? = some x.av:=by rw [EX.cF,List.getElem?_map,hx];rfl
   have d1:decide ((i:Int)<(args.length:Int))=true:=ao (by omega)
   by_cases hn:1+EX.cT (args.take i)<=L
   . have e1:j9 L (1+EX.cT (args.take i))=1+EX.cT (args.take i):=if_pos hn
     have d2:decide (((1+EX.cT (args.take i):Nat):Int)<=(L:Int))=true:=ao (by omega)
     have hw:IntKind.i64.wrap ((L:Int)-((1+EX.cT (args.take i):Nat):Int))=((L-(1+EX.cT (args.take i)):Nat):Int):=by rw [IntKind.wrap_i64];omega
     have hfx:=ih x hm (R7 x hm) (L-(1+EX.cT (args.take i))) (by omega)
     have hup:j9 (L-(1+EX.cT (args.take i))) x.nodes<=L+1:=by unfold j9;split<;>omega
     have wR:IntKind.i64.wrap (((1+EX.cT (args.take i):Nat):Int)+((j9 (L-(1+EX.cT (args.take i))) x.nodes:Nat):Int))=((j9 L (1+EX.cT (args.take (i+1))):Nat):Int):=by
       rw [List.take_add_one,hx,Option.toList_some,EX.BD]
       unfold j9 at hup ⊢
       rw [IntKind.wrap_i64]
       split<;>split<;>omega
     simp only [e1]
     simp only [SS,Nat.reduceAdd,ae,EX.q6,EX.a6,d1,d2,aQ rfl hg,az,EX.all,hw]
     refine aj hfx (by simp [EX.pure,af.int]) ?_
     simp only [SS,Nat.reduceAdd,aq i (by omega),wR]
     exact ⟨(i+1,_),by simp only [];omega,by simp only [];omega,Wk.slots (by simp [Fg]) (Nat.le_refl _)⟩
   . have e1:j9 L (1+EX.cT (args.take i))=L+1:=if_neg hn
     have d2:decide (((L+1:Nat):Int)<=(L:Int))=false:=ak (by omega)
     have ht:=EX.Jd args i
     have e2:j9 L (1+EX.cT args)=L+1:=if_neg (by omega)
     simp only [e1]
     rw [e2]
     simp only [SS,Nat.reduceAdd,ae,EX.q6,EX.a6,d1,d2]
     exact ag▸ab rfl (af.int _ _)
 . have d1:decide ((i:Int)<(args.length:Int))=false:=ak (by omega)
   have jc:i=args.length:=by omega
   subst jc
   simp only [List.take_length]
   simp only [SS,Nat.reduceAdd,ae,EX.q6,EX.a6,d1]
   exact ag▸ab rfl (af.int _ _)
theorem KW {f fn fl:FuncId} (h:Has P f (gC fn fl)) (e:EX) (hn:VP P G fn [e.av, .int .i64 120] (.int .i64 ((j9 120 e.nodes:Nat):Int))) (hl:VP P G fl [e.av] (.bool e.nA)) :
   VP P G f [e.av] (.bool (decide (e.nodes<=120)&&e.nA)):=by
 by_cases hd:e.nodes<=120
 . have e1:j9 120 e.nodes=e.nodes:=if_pos hd
   have d1:decide ((e.nodes:Int)<=120)=true:=ao (by omega)
   rw [e1] at hn
   rw [ao hd,Bool.true_and]
   refine VP.has h ?_
   simp only [gC,SS,Nat.reduceAdd,EX.one,ae,EX.all]
   refine aj hn (by simp [EX.pure,af.int]) ?_
   simp only [SS,Nat.reduceAdd,d1,ae,EX.all]
   refine aj hl (by simp [EX.pure]) ?_
   simp only [SS,Nat.reduceAdd]
   exact ag▸ab rfl (af.bool _)
 . have e1:j9 120 e.nodes=121:=if_neg hd
   have d1:decide ((((121:Nat)):Int)<=120)=false:=by decide
   rw [e1] at hn
   rw [ak hd,Bool.false_and]
   refine VP.has h ?_
   simp only [gC,SS,Nat.reduceAdd,EX.one,ae,EX.all]
   refine aj hn (by simp [EX.pure,af.int]) ?_
   simp only [SS,Nat.reduceAdd,d1]
   exact ag▸ab rfl (af.bool _)
end
end Go.VL
end

section
set_option linter.unusedVariables false
set_option linter.unusedVariables false
namespace Go.VL
def s5 (s:List UInt8):Nat:=match s with
 | []=>0
 | c::_=>if dx c=true then fH dm s else 0
section
variable {P:Program} {G:Nat->Option (List AV)}
theorem U3 {f fl fd:FuncId} (h:Has P f (fG fl fd)) (hl:∀ c,VP P G fl [hZ c] (.bool (dx c))) (hd:∀ c,VP P G fd [hZ c] (.bool (mh c)))
   (s:List UInt8) (hs:s.length<9223372036854775807):VP P G f [.str s, .int .i64 0] (.int .i64 ((s5 s:Nat):Int)):=by
 cases s with
 | nil =>
   refine VP.has h ?_
   have z0:decide ((0:Int)=((0:Nat):Int))=true:=rfl
   have e:s5 []=0:=rfl
   rw [e]
   simp only [fG,SS,Nat.reduceAdd,z0]
   exact ag▸ab rfl (af.int _ _)
 | cons c0 s0 =>
   generalize Y9:c0::s0=s at hs ⊢
   have hlen:0<s.length:=by rw [<- Y9];simp
   have d0:decide ((0:Int)=(s.length:Int))=false:=ak (by omega)
   have J5:s[0]? = some c0:=by rw [<- Y9];rfl
   have WY:=dF (k:=0) J5
   simp only [Int.natCast_zero] at WY
   cases U4:dx c0
   . have Lv:=hl c0
     rw [U4] at Lv
     have e:s5 s=0:=by rw [<- Y9];simp [s5,U4]
     rw [e]
     refine VP.has h ?_
     simp only [fG,SS,Nat.reduceAdd,d0,WY]
     refine aj Lv (by simp [ee]) ?_
     simp only [SS,Nat.reduceAdd]
     exact ag▸ab rfl (af.int _ _)
   have Lv:=hl c0
   rw [U4] at Lv
   have e:s5 s=fH dm s:=by rw [<- Y9];simp [s5,U4]
   rw [e]
   refine VP.has h ?_
   simp only [fG,SS,Nat.reduceAdd,d0,WY]
   refine aj Lv (by simp [ee]) ?_
   simp only [SS,Nat.reduceAdd,aC]
   refine VW.bJ (α := Nat × Nat) (fun x=>⟨[.str s, .int .i64 (x.1:Int), .top, .top, .top]++List.replicate 37 .top,fun _=>none,x.2⟩) (fun x=>x.1<=fH dm s) (fun x=>fH dm s-x.1) (0,1000) ?_ (Nat.zero_le _) ?_
   . exact Wk.slots (by simp [Fg,List.replicate]) (by omega)
   rintro ⟨k,n⟩ hk
   simp only [] at hk
   have Ir:=Db dm s
   by_cases hlt:k<s.length
   . obtain ⟨c,hc⟩:∃ c,s[k]? = some c:=⟨_,List.getElem?_eq_getElem hlt⟩
     have d1:decide ((k:Int)<(s.length:Int))=true:=ao (by omega)
     have F2:=hl c
     have Hm:=hd c
     have hwd:dm c=(dx c||mh c||decide ((c.toNat:Int)=95)):=rfl
     have vA:dm c=true->k<fH dm s:=fun hw=>by
       rcases Nat.lt_or_ge k (fH dm s) with q | q
       . exact q
       . have Mz:k=fH dm s:=by omega
         rcases x5 dm s with h0 | ⟨c',hc',Qx⟩
         . rw [<- Mz,hc] at h0;cases h0
         . rw [<- Mz,hc] at hc';cases hc';rw [hw] at Qx;cases Qx
     have CR:dm c=false->k=fH dm s:=fun hw=>by
       rcases Nat.lt_or_ge k (fH dm s) with q | q
       . obtain ⟨c',hc',Qx⟩:=Dc dm s k q
         rw [hc] at hc';cases hc';rw [hw] at Qx;cases Qx
       . omega
     have JY:(hZ c) = .int .u8 (c.toNat:Int):=rfl
     cases b1:dx c
     . rw [b1] at F2 hwd
       cases b2:mh c
       . rw [b2] at Hm hwd
         cases b3:decide ((c.toNat:Int)=95)
         . rw [b3] at hwd
           have Mz:=CR hwd
           simp only [SS,Nat.reduceAdd,d1,dF hc]
           refine aj F2 (by simp [ee]) ?_
           simp only [SS,Nat.reduceAdd,dF hc]
           refine aj Hm (by simp [ee]) ?_
           simp only [SS,Nat.reduceAdd,dF hc,JY,b3]
           rw [<- Mz]
           exact ag▸ab rfl (af.int _ _)
         . rw [b3] at hwd
           have Ir:=vA hwd
           simp only [SS,Nat.reduceAdd,d1,dF hc]
           refine aj F2 (by simp [ee]) ?_
           simp only [SS,Nat.reduceAdd,dF hc]
           refine aj Hm (by simp [ee]) ?_
           simp only [SS,Nat.reduceAdd,dF hc,JY,b3,aq k (by omega)]
           exact ⟨(k+1,_),by simp only [];omega,by simp only [];omega,Wk.slots (by simp [Fg]) (Nat.le_refl _)⟩
       . rw [b2] at Hm hwd
         have Ir:=vA hwd
         simp only [SS,Nat.reduceAdd,d1,dF hc]
         refine aj F2 (by simp [ee]) ?_
         simp only [SS,Nat.reduceAdd,dF hc]
         refine aj Hm (by simp [ee]) ?_
         simp only [SS,Nat.reduceAdd,aq k (by omega)]
         exact ⟨(k+1,_),by simp only [];omega,by simp only [];omega,Wk.slots (by simp [Fg]) (Nat.le_refl _)⟩
     . rw [b1] at F2 hwd
       have Ir:=vA hwd
       simp only [SS,Nat.reduceAdd,d1,dF hc]
       refine aj F2 (by simp [ee]) ?_
       simp only [SS,Nat.reduceAdd,aq k (by omega)]
       exact ⟨(k+1,_),by simp only [];omega,by simp only [];omega,Wk.slots (by simp [Fg]) (Nat.le_refl _)⟩
   . have d1:decide ((k:Int)<(s.length:Int))=false:=ak (by omega)
     have Mz:k=fH dm s:=by omega
     rw [<- Mz]
     simp only [SS,Nat.reduceAdd,d1]
     exact ag▸ab rfl (af.int _ _)
theorem KX {f fw:FuncId} (h:Has P f (eI fw)) (hw:∀ s:List UInt8,s.length<9223372036854775807->VP P G fw [.str s, .int .i64 0] (.int .i64 ((s5 s:Nat):Int))) (s:List UInt8) :
   VP P G f [.str s] (.bool (bd s)):=by
 cases s with
 | nil =>
   refine VP.has h ?_
   simp only [eI,SS,Nat.reduceAdd]
   exact ag▸ab rfl (af.bool _)
 | cons c s =>
   have e0:(!((c::s)==([]:List UInt8)))=true:=rfl
   by_cases h1:(((s.length+1:Nat)):Int)<=24
   . refine VP.has h ?_
     simp only [eI,SS,Nat.reduceAdd,e0,h1,decide_true]
     refine aj (hw (c::s) (by simp only [List.length_cons];omega)) (by simp [af.str,af.int]) ?_
     by_cases h3:s5 (c::s)=s.length+1
     . have h4:(s5 (c::s):Int)=((s.length+1:Nat):Int):=by omega
       have:bd (c::s)=true:=by
         have hv:bd (c::s)=(decide ((c::s).length<=24)&&dx c&&decide (fH dm (c::s)=(c::s).length)):=rfl
         have hwv:s5 (c::s)=if dx c=true then fH dm (c::s) else 0:=rfl
         rw [hwv] at h3
         rw [hv]
         cases h2:dx c
         . rw [h2] at h3;simp at h3
         . rw [h2,if_pos rfl] at h3
           have g1:decide ((c::s).length<=24)=true:=ao (by rw [List.length_cons];omega)
           have g2:decide (fH dm (c::s)=(c::s).length)=true:=ao (by rw [List.length_cons];omega)
           rw [g1,g2];rfl
       rw [this]
       simp only [SS,Nat.reduceAdd,h4,decide_true]
       exact ag▸ab rfl (af.bool _)
     . have h4 : ¬ (s5 (c::s):Int)=((s.length+1:Nat):Int):=by omega
       have:bd (c::s)=false:=by
         have hv:bd (c::s)=(decide ((c::s).length<=24)&&dx c&&decide (fH dm (c::s)=(c::s).length)):=rfl
         have hwv:s5 (c::s)=if dx c=true then fH dm (c::s) else 0:=rfl
         rw [hwv] at h3
         rw [hv]
         cases h2:dx c
         . rw [Bool.and_false,Bool.false_and]
         . rw [h2,if_pos rfl] at h3
           have g2:decide (fH dm (c::s)=(c::s).length)=false:=ak (by rw [List.length_cons];omega)
           rw [g2,Bool.and_false]
       rw [this]
       simp only [SS,Nat.reduceAdd,h4,decide_false]
       exact ag▸ab rfl (af.bool _)
   . refine VP.has h ?_
     have:bd (c::s)=false:=by unfold bd;simp only [List.length_cons];simp;intro h;omega
     rw [this]
     simp only [eI,SS,Nat.reduceAdd,e0,h1,decide_false]
     exact ag▸ab rfl (af.bool _)
end
end Go.VL
end

section
set_option linter.unusedVariables false
set_option linter.unusedVariables false
namespace Go.VL
def kr:List UInt8->Option Nat
 | []=>none
 | b::l=>if b=47 then some 0 else (kr l).map (· + 1)
theorem DI:∀ {s:List UInt8} {k:Nat},kr s=some k->k<s.length
 | b :: l,k,h=>by
   rw [kr] at h
   split at h
   . cases h;simp
   . obtain ⟨j,hj,rfl⟩:=Option.map_eq_some_iff.1 h
     have:=DI hj
     simp;omega
theorem Je:∀ {s:List UInt8} {k:Nat},kr s=some k->s[k]? = some 47
 | b :: l,k,h=>by
   rw [kr] at h
   split at h
   . rename_i hb;cases h;subst hb;rfl
   . obtain ⟨j,hj,rfl⟩:=Option.map_eq_some_iff.1 h
     simpa using Je hj
theorem zy:∀ {s:List UInt8} {k j:Nat},kr s=some k->j<k->s[j]? ≠ some 47
 | b :: l,k,j,h,hj=>by
   rw [kr] at h
   split at h
   . cases h;omega
   . rename_i hb
     obtain ⟨i,hi,rfl⟩:=Option.map_eq_some_iff.1 h
     cases j with
     | zero=>simpa using hb
     | succ j=>simpa using zy hi (show j<i by omega)
theorem DJ:∀ {s:List UInt8} {j:Nat},kr s=none->s[j]? ≠ some 47
 | [],j,_=>by simp
 | b :: l,j,h=>by
   rw [kr] at h
   split at h
   . cases h
   . rename_i hb
     have hl:kr l=none:=by simpa using h
     cases j with
     | zero=>simpa using hb
     | succ j=>simpa using DJ hl (j:=j)
theorem BF:∀ s:List UInt8,Lib.index s [47]=match kr s with | some k=>(k:Int) | none => -1
 | []=>rfl
 | b :: l=>by
   rw [Lib.index,kr,BF l]
   by_cases h:b=47
   . subst h;rfl
   . have:([47]:List UInt8).isPrefixOf (b::l)=false:=by
       have h' : ¬ (47:UInt8)=b:=fun e=>h e.symm
       simp [List.isPrefixOf,h']
     rw [this,if_neg h]
     cases kr l with
     | none=>rfl
     | some k =>
       have e:((k:Int) == -1)=false:=by
         rw [beq_eq_false_iff_ne];omega
       simp only [Bool.false_eq_true,if_false,e,Option.map_some]
       exact (Int.natCast_succ k).symm
theorem FC (s:List UInt8):Lib.cut s [47]=match kr s with | some k=>(s.take k,s.drop (k+1),true) | none=>(s,[],false):=by
 unfold Lib.cut
 rw [BF]
 cases kr s with
 | none=>rfl
 | some k=>simp
def n7 (c:UInt8):Bool := !decide ((c.toNat:Int)<33) && !decide ((126:Int)<(c.toNat:Int))
def eN (s:List UInt8):Option (List UInt8):=match kr s with
 | none=>none
 | some k=>if (decide (k+1≠s.length)&&decide (s.length<=200)&&bd (s.take k)&&s.all n7)=true then some (s.take k) else none
section
variable {P:Program} {G:Nat->Option (List AV)}
theorem Ev {f fc fn:FuncId} (h:Has P f (cZ fc fn)) (s:List UInt8) (hl:s.length<=1000000) (hc:VP P G fc [.str s, .str [47]] (.tup [.str (Lib.cut s [47]).1, .str (Lib.cut s [47]).2.1, .bool (Lib.cut s [47]).2.2]))
   (hn:∀ s,VP P G fn [.str s] (.bool (bd s))):VP P G f [.str s] (.bool (eN s).isSome):=by
 rw [FC] at hc
 unfold eN
 cases hs:kr s with
 | none =>
   rw [hs] at hc
   simp only [] at hc
   refine VP.has h ?_
   simp only [cZ,SS,Nat.reduceAdd]
   refine aj hc (by simp [af.str]) ?_
   simp only [SS,Nat.reduceAdd,qo,qp,qq,Option.isSome_none]
   exact ag▸ab rfl (af.bool _)
 | some k =>
   rw [hs] at hc
   simp only [] at hc ⊢
   have hk:=DI hs
   have yi:=hn (s.take k)
   by_cases h1:k+1=s.length
   . have e1:s.drop (k+1)=[]:=List.drop_of_length_le (by omega)
     rw [e1] at hc
     rw [ak (by omega : ¬ k+1≠s.length),Bool.false_and,Bool.false_and,Bool.false_and,if_neg (by decide)]
     refine VP.has h ?_
     simp only [cZ,SS,Nat.reduceAdd]
     refine aj hc (by simp [af.str]) ?_
     simp only [SS,Nat.reduceAdd,qo,qp,qq,Option.isSome_none]
     exact ag▸ab rfl (af.bool _)
   have e1:(s.drop (k+1)==([]:List UInt8))=false:=by
     rw [beq_eq_false_iff_ne];intro e
     have:=congrArg List.length e
     rw [List.length_drop] at this;simp at this;omega
   by_cases h2:s.length<=200
   case neg =>
     have d2:decide ((200:Int)<(s.length:Int))=true:=ao (by omega)
     rw [ak h2,Bool.and_false,Bool.false_and,Bool.false_and,if_neg (by decide)]
     refine VP.has h ?_
     simp only [cZ,SS,Nat.reduceAdd]
     refine aj hc (by simp [af.str]) ?_
     simp only [SS,Nat.reduceAdd,qo,qp,qq,Option.isSome_none,e1,d2]
     exact ag▸ab rfl (af.bool _)
   have d2:decide ((200:Int)<(s.length:Int))=false:=ak (by omega)
   rw [ao h1,ao h2]
   cases h3:bd (s.take k)
   . rw [h3] at yi
     simp only [Bool.and_false,Bool.false_and,Bool.false_eq_true,if_false,Option.isSome_none]
     refine VP.has h ?_
     simp only [cZ,SS,Nat.reduceAdd]
     refine aj hc (by simp [af.str]) ?_
     simp only [SS,Nat.reduceAdd,qo,qp,qq,e1,d2]
     refine aj yi (by simp [af.str]) ?_
     simp only [SS,Nat.reduceAdd]
     exact ag▸ab rfl (af.bool _)
   rw [h3] at yi
   have uW:(if (true&&true&&true&&s.all n7)=true then some (s.take k) else none).isSome=s.all n7:=by
     cases s.all n7<;>rfl
   rw [uW]
   refine VP.has h ?_
   simp only [cZ,SS,Nat.reduceAdd]
   refine aj hc (by simp [af.str]) ?_
   simp only [SS,Nat.reduceAdd,qo,qp,qq,e1,d2]
   refine aj yi (by simp [af.str]) ?_
   simp only [SS,Nat.reduceAdd,aC]
   refine VW.bJ (α := Nat × Nat) (fun x=>⟨[.str s]++List.replicate 29 .top++[.int .i64 (s.length:Int), .int .i64 (x.1:Int)]++List.replicate 13 .top,fun _=>none,x.2⟩)
     (fun x=>x.1<=s.length/\(s.take x.1).all n7=true) (fun x=>s.length-x.1) (0,1000) ?_ ⟨Nat.zero_le _,by simp⟩ ?_
   . exact Wk.slots (by simp [Fg,List.replicate]) (by omega)
   rintro ⟨i,nn⟩ ⟨hi,cz⟩
   simp only [] at hi cz
   by_cases hlt:i<s.length
   . obtain ⟨c,hc⟩:∃ c,s[i]? = some c:=⟨_,List.getElem?_eq_getElem hlt⟩
     have hm:=List.mem_of_getElem? hc
     have dd:decide ((i:Int)<(s.length:Int))=true:=ao (by omega)
     have JY:(hZ c) = .int .u8 (c.toNat:Int):=rfl
     have mo:n7 c=(!decide ((c.toNat:Int)<33) && !decide ((126:Int)<(c.toNat:Int))):=rfl
     have Sb:n7 c=false->s.all n7=false:=fun hb=>by
       rw [Bool.eq_false_iff];intro hh
       rw [List.all_eq_true] at hh
       rw [hh c hm] at hb;cases hb
     cases b1:decide ((c.toNat:Int)<33)
     . cases b2:decide ((126:Int)<(c.toNat:Int))
       . simp only [SS,Nat.reduceAdd,List.replicate,dd,dF hc,JY,b1,b2,aq i (by omega)]
         refine ⟨(i+1,_),⟨by simp only [];omega, ?_⟩,by simp only [];omega,Wk.slots (by simp [Fg]) (Nat.le_refl _)⟩
         simp only []
         rw [List.take_add_one,hc,List.all_append,cz]
         simp [mo,b1,b2]
       . rw [Sb (by rw [mo,b1,b2];rfl)]
         simp only [SS,Nat.reduceAdd,List.replicate,dd,dF hc,JY,b1,b2]
         exact ag▸ab rfl (af.bool _)
     . rw [Sb (by rw [mo,b1];rfl)]
       simp only [SS,Nat.reduceAdd,List.replicate,dd,dF hc,JY,b1]
       exact ag▸ab rfl (af.bool _)
   . have dd:decide ((i:Int)<(s.length:Int))=false:=ak (by omega)
     have jc:i=s.length:=by omega
     rw [jc,List.take_length] at cz
     rw [cz]
     simp only [SS,List.replicate,dd]
     exact ag▸ab rfl (af.bool _)
end
end Go.VL
end

section
set_option linter.unusedVariables false
set_option linter.unusedVariables false
namespace Go.VL
def KY (s:List UInt8) (i:Nat):Int:=match kr s with
 | some k=>if k<i then (k:Int) else -1-0
 | none => -1-0
section
variable {P:Program} {G:Nat->Option (List AV)}
theorem KZ {f fn : FuncId} (h:Has P f (iT fn)) (s:List UInt8) (hl:s.length<=1000000) (hn:∀ s,VP P G fn [.str s] (.bool (bd s))):VP P G f [.str s] (.str ((eN s).getD [])):=by
 have MZ:(∃ c∈s,n7 c=false)->(eN s).getD []=[]:=by
   rintro ⟨c,hm,hc⟩
   have:s.all n7=false:=by
     rw [Bool.eq_false_iff];intro hh
     rw [List.all_eq_true] at hh
     rw [hh c hm] at hc;cases hc
   unfold eN
   cases kr s with
   | none=>rfl
   | some k=>simp [this]
 refine VP.has h ?_
 simp only [iT,SS,Nat.reduceAdd,aC]
 refine VW.bJ (α := Nat × Nat) (fun x=>⟨[.str s, .top, .str [], .int .i64 (KY s x.1), .int .i64 (x.1:Int)]++List.replicate 49 .top,fun _=>none,x.2⟩)
   (fun x=>x.1<=s.length/\(s.take x.1).all n7=true) (fun x=>s.length-x.1) (0,1000) ?_ ⟨Nat.zero_le _,by simp⟩ ?_
 . have e0:KY s 0 = -1-0:=by unfold KY;split<;>simp
   simp only [e0]
   exact Wk.slots (by simp [Fg,List.replicate]) (by omega)
 rintro ⟨i,nn⟩ ⟨hi,cz⟩
 simp only [] at hi cz
 by_cases hlt:i<s.length
 . obtain ⟨c,hc⟩:∃ c,s[i]? = some c:=⟨_,List.getElem?_eq_getElem hlt⟩
   have hm:=List.mem_of_getElem? hc
   have dd:decide ((i:Int)<(s.length:Int))=true:=ao (by omega)
   have JY:(hZ c) = .int .u8 (c.toNat:Int):=rfl
   have mo:n7 c=(!decide ((c.toNat:Int)<33) && !decide ((126:Int)<(c.toNat:Int))):=rfl
   cases b1:decide ((c.toNat:Int)<33)
   . cases b2:decide ((126:Int)<(c.toNat:Int))
     . have BG : (s.take (i+1)).all n7=true:=by
         rw [List.take_add_one,hc,List.all_append,cz]
         simp [mo,b1,b2]
       by_cases Za:c=47
       . have d3 : decide ((c.toNat:Int)=47)=true:=by rw [Za];rfl
         rw [Za] at hc
         by_cases xg:KY s i<0
         . have d4:decide (KY s i<0)=true:=ao xg
           have e1:KY s (i+1)=(i:Int):=by
             unfold KY at xg ⊢
             cases hs:kr s with
             | none=>exact absurd hc (DJ hs)
             | some k =>
               rw [hs] at xg
               simp only [] at xg ⊢
               have hki : ¬ k<i:=by intro hk;rw [if_pos hk] at xg;omega
               have Mz : ¬ i<k:=fun hik=>zy hs hik hc
               rw [if_pos (by omega)];omega
           rw [<- Za] at hc
           simp only [SS,Nat.reduceAdd,dd,dF hc,JY,b1,b2,d3,d4,aq i (by omega)]
           refine ⟨(i+1,nn+1000),⟨by simp only [];omega,BG⟩,by simp only [];omega, ?_⟩
           simp only [e1]
           exact Wk.slots (by simp [Fg]) (by omega)
         . have d4:decide (KY s i<0)=false:=ak xg
           have e1:KY s (i+1)=KY s i:=by
             unfold KY at xg ⊢
             cases hs:kr s with
             | none=>rfl
             | some k =>
               rw [hs] at xg
               simp only [] at xg ⊢
               have hki:k<i:=by
                 rcases Nat.lt_or_ge k i with q | q
                 . exact q
                 . rw [if_neg (by omega)] at xg;simp at xg
               rw [if_pos hki,if_pos (by omega)]
           rw [<- Za] at hc
           simp only [SS,Nat.reduceAdd,dd,dF hc,JY,b1,b2,d3,d4,aq i (by omega)]
           refine ⟨(i+1,nn+1000),⟨by simp only [];omega,BG⟩,by simp only [];omega, ?_⟩
           simp only [e1]
           exact Wk.slots (by simp [Fg]) (by omega)
       . have d3:decide ((c.toNat:Int)=47)=false:=ak (fun e=>Za (by
           have:c.toNat=47:=by omega
           exact UInt8.toNat_inj.1 (by rw [this];rfl)))
         have e1:KY s (i+1)=KY s i:=by
           unfold KY
           cases hs:kr s with
           | none=>rfl
           | some k =>
             simp only []
             have hki:k≠i:=fun e=>by
               have:=Je hs
               rw [e,hc] at this
               exact Za (Option.some.inj this)
             by_cases q:k<i
             . rw [if_pos q,if_pos (by omega)]
             . rw [if_neg q,if_neg (by omega)]
         simp only [SS,Nat.reduceAdd,dd,dF hc,JY,b1,b2,d3,aq i (by omega)]
         refine ⟨(i+1,nn+1000),⟨by simp only [];omega,BG⟩,by simp only [];omega, ?_⟩
         simp only [e1]
         exact Wk.slots (by simp [Fg]) (by omega)
     . rw [MZ ⟨c,hm,by rw [mo,b1,b2];rfl⟩]
       simp only [SS,Nat.reduceAdd,dd,dF hc,JY,b1,b2]
       exact ag▸ab rfl (af.str _)
   . rw [MZ ⟨c,hm,by rw [mo,b1];rfl⟩]
     simp only [SS,Nat.reduceAdd,dd,dF hc,JY,b1]
     exact ag▸ab rfl (af.str _)
 . have dd:decide ((i:Int)<(s.length:Int))=false:=ak (by omega)
   have jc:i=s.length:=by omega
   rw [jc,List.take_length] at cz
   rw [jc]
   rw [jc] at dd
   unfold eN KY
   cases hs:kr s with
   | none =>
     have d1:decide ((-1-0:Int)<0)=true:=by decide
     simp only [SS,Nat.reduceAdd,dd,d1,Option.getD_none]
     exact ag▸ab rfl (af.str _)
   | some k =>
     have hk:=DI hs
     have d1:decide ((k:Int)<0)=false:=ak (by omega)
     have hw:IntKind.i64.wrap ((s.length:Int)-1)=(s.length:Int)-1:=by rw [IntKind.wrap_i64];omega
     have Cy:=AX (s:=s) (l:=k) (by omega)
     have yi:=hn (s.take k)
     rw [cz]
     simp only [hk,if_true]
     by_cases h1:k+1=s.length
     . have d2:decide ((k:Int)=(s.length:Int)-1)=true:=ao (by omega)
       rw [ak (by omega : ¬ k+1≠s.length),Bool.false_and,Bool.false_and,Bool.false_and,if_neg (by decide)]
       simp only [SS,Nat.reduceAdd,dd,d1,d2,hw,Option.getD_none]
       exact ag▸ab rfl (af.str _)
     have d2:decide ((k:Int)=(s.length:Int)-1)=false:=ak (by omega)
     by_cases h2:s.length<=200
     case neg =>
       have d3:decide ((200:Int)<(s.length:Int))=true:=ao (by omega)
       rw [ak h2,Bool.and_false,Bool.false_and,Bool.false_and,if_neg (by decide)]
       simp only [SS,Nat.reduceAdd,dd,d1,d2,d3,hw,Option.getD_none]
       exact ag▸ab rfl (af.str _)
     have d3:decide ((200:Int)<(s.length:Int))=false:=ak (by omega)
     rw [ao h1,ao h2]
     cases h3:bd (s.take k)
     . rw [h3] at yi
       simp only [SS,Nat.reduceAdd,dd,d1,d2,d3,hw,Cy,Bool.and_false,Bool.and_true,Option.getD_none]
       refine aj yi (by simp [af.str]) ?_
       simp only [SS,Nat.reduceAdd]
       exact ag▸ab rfl (af.str _)
     . rw [h3] at yi
       simp only [SS,Nat.reduceAdd,dd,d1,d2,d3,hw,Cy,Bool.and_true,Option.getD_some]
       refine aj yi (by simp [af.str]) ?_
       simp only [SS,Nat.reduceAdd,Cy]
       exact ag▸ab rfl (af.str _)
end
end Go.VL
end

section
set_option linter.unusedVariables false
namespace Go.VL
section
variable {P:Program} {G:Nat->Option (List AV)}
theorem n8 {f:FuncId} (h:Has P f cY) {es:List AV} (hk:∀ e∈es,e.size=1) (h1:(es.all fun e=>e.cells.all AV.one)=true) (hp:∀ c∈flat es,af c) (hl:es.length*16<=140737488355328):VP P G f [.sl 1 es] (.sl 1 es):=by
 refine VP.has h ?_
 have hb:∀ (σ : aa) (p:Id),b8 σ p (.buildSl 1 0 (AV.str []) [])=some { val := .tsl 1 [] }:=fun σ p=>Ub rfl rfl
 cases es with
 | nil =>
   simp only [cY,SS,Nat.reduceAdd]
   refine ⟨?_, ?_⟩
   . exact ag▸⟨.nils,rfl,View.nils 1⟩
   . simp only [SS,Nat.reduceAdd,hb,eY eX]
     exact ag▸⟨_,rfl,View.PS 1⟩
 | cons e es =>
   simp only [cY,SS,Nat.reduceAdd,hb]
   rw [gS (es:=[]) eX (by simp) (by simpa using hl) (cK (by simp at hl ⊢;omega)) (by simpa using h1)]
   simp only [SS,Nat.reduceAdd]
   refine ag▸⟨_,rfl,View.osl (bk:=⟨e::es,1,false⟩) rfl rfl (by simp) ?_ (by simp) hk⟩
   simpa using aW.pure hp
theorem ib {f:FuncId} (h:Has P f bb) {es:List AV} (hk:∀ e∈es,e.size=7) (h1:(es.all fun e=>e.cells.all AV.one)=true) (hp:∀ c∈flat es,af c) (hl:es.length*112<=140737488355328):VP P G f [.sl 7 es] (.sl 7 es):=by
 refine VP.has h ?_
 have hb:∀ (σ : aa) (p:Id),b8 σ p (.buildSl 7 0 (AV.agg [(.int .i64 (0)),(.bool false), .nils,(.bool false), .nils,(.str []), .nils]) [])=some { val := .tsl 7 [] }:=fun σ p=>Ub rfl rfl
 cases es with
 | nil =>
   simp only [bb,SS,Nat.reduceAdd]
   refine ⟨?_, ?_⟩
   . exact ag▸⟨.nils,rfl,View.nils 7⟩
   . simp only [SS,Nat.reduceAdd,hb,eY eX]
     exact ag▸⟨_,rfl,View.PS 7⟩
 | cons e es =>
   simp only [bb,SS,Nat.reduceAdd,hb]
   rw [gS (es:=[]) eX (by simp) (by simpa using hl) (cK (by simp at hl ⊢;omega)) (by simpa using h1)]
   simp only [SS,Nat.reduceAdd]
   refine ag▸⟨_,rfl,View.osl (bk:=⟨e::es,7,false⟩) rfl rfl (by simp) ?_ (by simp) hk⟩
   simpa using aW.pure hp
theorem OE (l:List bL):((l.map bL.av).all fun e=>e.cells.all AV.one)=true:=by
 rw [List.all_eq_true];intro e he;simp only [List.mem_map] at he;obtain ⟨F,_,rfl⟩:=he;exact F.one▸trivial
theorem OG {f:FuncId} (h:Has P f aV) {l:List bL} (hne:l≠[]) (hl:l.length*80<=140737488355328) (p:Id) :
   aB P G f [zw l] p [] { val := .osl (5::p) 5 0 l.length false,rd:=[],up:=[(5::p,some ⟨l.map bL.av,5,false⟩)] }:=by
 refine aB.has h ?_
 have hb:∀ (σ : aa) (p:Id),b8 σ p (.buildSl 5 0 (.agg [(.str []),(.int .i64 (0)), .nils, .nils,(.bool false)]) [])=some { val := .tsl 5 [] }:=fun σ p=>Ub rfl rfl
 have xJ:=OE l
 cases l with
 | nil=>exact absurd rfl hne
 | cons F l =>
   simp only [List.map_cons] at xJ
   simp only [aV,zw,SS,Nat.reduceAdd,hb]
   rw [gS (es:=[]) eX (by simp) (by simpa using hl) (cK (by simp at hl ⊢;omega)) (by simpa using xJ)]
   simp only [SS,Nat.reduceAdd]
   refine aS▸aA (by simp [bP,cu]) fun i => ?_
   by_cases hi:i=5::p
   . right;subst hi;simp [aa.app,aa.put]
   . left;simp [aa.app,aa.put,hi,aa.of]
end
end Go.VL
end

section
set_option linter.unusedVariables false
namespace Go.VL
section
variable {P:Program} {G:Nat->Option (List AV)}
theorem jb:(AV.cells (.agg [(.str []),(.int .i64 (0)), .nils, .nils,(.bool false)])).all AV.one=true:=rfl
end
end Go.VL
end

section
set_option linter.unusedVariables false
set_option linter.unusedVariables false
namespace Go.VL
structure FX where
 name:List UInt8
 kind:Int
 inputs:List (List UInt8)
 vals:List EX
 supp:Bool
def FX.eG (X:FX):bL:=⟨X.name,X.kind,X.inputs,EX.kV X.vals,X.supp⟩
def FX.av (X:FX):AV:=X.eG.av
structure FX.Ok (X:FX):Prop where
 name:X.name.length<=9223372036854775807
 ins:X.inputs.length<=9223372036854775807
 inl:∀ s∈X.inputs,s.length<=9223372036854775807
 vl:X.vals.length<=9223372036854775807
 vals:∀ e∈X.vals,e.Ok
theorem FX.pure (X:FX):af X.eG.av:=af.agg (by
 intro c hc
 simp [FX.eG] at hc
 rcases hc with rfl | rfl | rfl | rfl | rfl
 . exact af.str _
 . exact af.int _ _
 . exact gX _
 . exact EX.eJ _
 . exact af.bool _)
theorem FX.Sc {X:FX} (hi:X.inputs.length<=1000) (Pe:X.vals.length<=1000):X.eG.Ok:=⟨fun v hv=>by
 show oQ v
 have hv':v∈EX.kV X.vals:=hv
 rw [EX.cF] at hv'
 obtain ⟨e,_,rfl⟩:=List.mem_map.1 hv'
 exact e.like,by show X.inputs.length<_;omega,by show (EX.kV X.vals).length<_;rw [EX.a6];omega⟩
def uR (e:EX):Bool:=e.formed&&decide (e.depth<=40)
def FX.valid (X:FX):Bool:=bd X.name&&decide (1<=X.kind)&&decide (X.kind<=6)&&decide (X.inputs.length<=50)&&decide (X.vals.length<=10)&&X.inputs.all (fun s=>(eN s).isSome)&&X.vals.all uR
def n9 (e:EX):Bool:=decide (e.nodes<=120)&&e.nA
def FX.small (X:FX):Bool:=decide (X.inputs.length<=60)&&decide (X.vals.length<=12)&&decide (X.name.length<=100)&&X.inputs.all (fun s=>decide (s.length<=300))&&X.vals.all n9
noncomputable def exP (q:EX->Bool) (v:AV):Bool := @decide (∃ e:EX,e.av=v/\q e=true) (Classical.propDecidable _)
theorem Sd (q:EX->Bool) (e:EX):exP q e.av=q e:=by
 unfold exP
 cases h:q e
 . refine @decide_eq_false _ (Classical.propDecidable _) ?_
   rintro ⟨e',h1,h2⟩
   rw [EX.RF _ _ h1] at h2
   rw [h] at h2;cases h2
 . exact @decide_eq_true _ (Classical.propDecidable _) ⟨e,rfl,h⟩
def aet (q:List UInt8->Bool):AV->Bool
 | .str s=>q s
 | _=>false
theorem U5 (q:EX->Bool) (l:List EX):(EX.kV l).any (exP q)=l.any q:=by
 rw [EX.cF,List.any_map]
 congr 1;funext e;exact Sd q e
theorem Se (q:List UInt8->Bool) (l:List (List UInt8)):(l.map AV.str).any (aet q)=l.any q:=by
 rw [List.any_map];rfl
theorem M0 {α : Type} (p : α -> Bool) (l:List α):(l.any fun x => !p x) = !l.all p:=by
 induction l with
 | nil=>rfl
 | cons a l ih=>simp only [List.any_cons,List.all_cons,ih,Bool.not_and]
section
variable {P:Program} {G:Nat->Option (List AV)}
theorem OH {f fv:FuncId} (h:Has P f (kP fv)) (s:List UInt8) {b:Bool} (hv:VP P G fv [.str s] (.bool b)):VP P G f [.str s] (.bool (!b)):=by
 refine VP.has h ?_
 simp only [kP,SS,Nat.reduceAdd]
 refine aj hv (by simp [af.str]) ?_
 simp only [SS,Nat.reduceAdd]
 exact ag▸ab rfl (af.bool _)
theorem OI {f fv:FuncId} (h:Has P f (nb fv)) (e:EX) (hv:VP P G fv [e.av] (.int .i64 (if e.formed=true then (if 40<e.depth then 3 else 0) else 1))):VP P G f [e.av] (.bool (!uR e)):=by
 have hd:decide ((if e.formed=true then (if 40<e.depth then (3:Int) else 0) else 1)≠0) = !uR e:=by
   unfold uR
   cases e.formed
   . rfl
   . by_cases h40:40<e.depth
     . have : ¬ e.depth<=40:=by omega
       simp [h40,this]
     . have:e.depth<=40:=by omega
       simp [h40,this]
 refine VP.has h ?_
 simp only [nb,SS,Nat.reduceAdd,EX.one,ae,EX.all]
 refine aj hv (by simp [EX.pure]) ?_
 simp only [SS,Nat.reduceAdd,hd]
 exact ag▸ab rfl (af.bool _)
theorem OJ (l:List (List UInt8)):∀ e∈l.map AV.str,part false e.cells 0 1=some e:=by
 intro e he
 obtain ⟨s,_,rfl⟩:=List.mem_map.1 he
 rfl
theorem OK {f fn Y6 v1 Y7 v2 fi1 fi2:FuncId} (h:Has P f (ki fn Y6 v1 Y7 v2)) (hn:∀ s,VP P G fn [.str s] (.bool (bd s))) (Pb:Has P Y6 (cg fi1)) (Ua:Has P fi1 cy)
   (Il:Has P Y7 (bu fi2)) (EH:Has P fi2 bG) (X:FX) (hX:X.Ok) (hi:X.inputs.length<=1000) (Pe:X.vals.length<=1000)
   (px:∀ s∈X.inputs,VP P G v1 [.str s] (.bool (!(eN s).isSome))) (tr:∀ e∈X.vals,VP P G v2 [e.av] (.bool (!uR e))):VP P G f [X.av] (.bool X.valid):=by
 have h1:VP P G Y6 [strs X.inputs, .fn (.func v1) [] []] (.bool (!X.inputs.all (fun s=>(eN s).isSome))):=by
   rw [<- M0, <- Se]
   refine lQ Pb (mG Ua (OJ _) ?_ ?_ (by simp) (by simp) (by rw [List.length_map];omega)) (gX _) (kq _)
   all_goals
     intro v hv
     obtain ⟨s,hs,rfl⟩:=List.mem_map.1 hv
   . exact px s hs
   . exact af.str _
 have h2:VP P G Y7 [.sl 7 (EX.kV X.vals), .fn (.func v2) [] []] (.bool (!X.vals.all uR)):=by
   rw [<- M0, <- U5]
   refine fj Il (ga EH ?_ ?_ ?_ (by simp) (by simp) (by rw [EX.a6];omega)) (EX.eJ _) (kq _)
   all_goals
     intro v hv
     rw [EX.cF] at hv
     obtain ⟨x,hx,rfl⟩:=List.mem_map.1 hv
   . exact EX.all x
   . rw [Sd];exact tr x hx
   . exact EX.pure x
 have:=RE h hn X.eG (FX.Sc hi Pe) (fun _=>h1) (fun _=>h2)
 have e:(bd X.eG.name&&decide (1<=X.eG.kind)&&decide (X.eG.kind<=6)&&decide (X.eG.inputs.length<=50)&&decide (X.eG.values.length<=10) && !(!X.inputs.all (fun s=>(eN s).isSome)) && !(!X.vals.all uR))=X.valid:=by
   unfold FX.valid
   rw [Bool.not_not,Bool.not_not]
   show (bd X.name&&decide (1<=X.kind)&&decide (X.kind<=6)&&decide (X.inputs.length<=50)&&decide ((EX.kV X.vals).length<=10)&&_&&_)=_
   rw [EX.a6]
 rw [e] at this
 exact this
theorem Sf {f:FuncId} (h:Has P f k7) (l:List (List UInt8)) (hl:l.length<=1000000) (s:List UInt8):VP P G f [strs l, .str s] (.bool (l.contains s)):=by
 refine VP.has h ?_
 have hlen:jM false (strs l)=some (.int .i64 l.length):=by simp [strs,jM]
 simp only [k7,SS,Nat.reduceAdd,aC]
 refine VW.bJ (α := Nat × Nat) (fun x=>⟨[strs l, .str s, .top, .top, .bool false, .int .i64 (x.1:Int)]++List.replicate 12 .top,fun _=>none,x.2⟩)
   (fun x=>x.1<=l.length/\(l.take x.1).contains s=false) (fun x=>l.length-x.1) (0,1000) ?_ ⟨Nat.zero_le _,by simp⟩ ?_
 . exact Wk.slots (by simp [Fg,List.replicate]) (by omega)
 rintro ⟨i,nn⟩ ⟨hi,hno⟩
 simp only [] at hi hno
 by_cases hlt:i<l.length
 . obtain ⟨c,hc⟩:∃ c,l[i]? = some c:=⟨_,List.getElem?_eq_getElem hlt⟩
   have hm:=List.mem_of_getElem? hc
   have hg:(l.map AV.str)[i]? = some (.str c):=by rw [List.getElem?_map,hc];rfl
   have dd:decide ((i:Int)<(l.length:Int))=true:=ao (by omega)
   have B6:part false (AV.str c).cells 0 1=some (.str c):=rfl
   have iA:br 1 (strs l) (.int .i64 (i:Int))=some (.ep (AV.str c).cells 0):=aQ rfl hg
   cases b:(c==s)
   . simp only [SS,Nat.reduceAdd,hlen,dd,iA,az,B6,b,aq i (by omega)]
     refine ⟨(i+1,nn+1000),⟨by simp only [];omega, ?_⟩,by simp only [];omega,Wk.slots (by simp [Fg]) (by omega)⟩
     simp only []
     have hcs : ¬ c=s:=by simpa using b
     have aeu : ¬ s∈l.take i:=by simpa using hno
     rw [List.take_add_one,hc,Option.toList_some]
     simp only [List.contains_eq_mem,List.mem_append,List.mem_singleton]
     exact decide_eq_false (by rintro (q | q);exact aeu q;exact hcs q.symm)
   . have hcs:c=s:=by simpa using b
     have:l.contains s=true:=by rw [<- hcs];simpa using hm
     rw [this]
     simp only [SS,Nat.reduceAdd,hlen,dd,iA,az,B6,b]
     exact ag▸ab rfl (af.bool _)
 . have dd:decide ((i:Int)<(l.length:Int))=false:=ak (by omega)
   have jc:i=l.length:=by omega
   rw [jc,List.take_length] at hno
   rw [hno]
   simp only [SS,Nat.reduceAdd,hlen,dd]
   exact ag▸ab rfl (af.bool _)
end
end Go.VL
end

section
set_option linter.unusedVariables false
set_option linter.unusedVariables false
namespace Go.VL
theorem FX.wz (X:FX):X.eG.name=X.name:=rfl
theorem FX.DK (X:FX):X.eG.kind=X.kind:=rfl
theorem FX.ic (X:FX):X.eG.inputs=X.inputs:=rfl
theorem FX.nB (X:FX):X.eG.values=EX.kV X.vals:=rfl
theorem dB (l:List (List UInt8)):jM false (strs l)=some (.int .i64 l.length):=by simp [strs,jM]
theorem OL (e:EX):decide ((if e.formed=true then (if 40<e.depth then (3:Int) else 0) else 1)≠0) = !uR e:=by
 unfold uR
 cases e.formed
 . rfl
 . by_cases h40:40<e.depth
   . have : ¬ e.depth<=40:=by omega
     simp [h40,this]
   . have:e.depth<=40:=by omega
     simp [h40,this]
theorem GJ (s:List UInt8):((eN s).getD []==([]:List UInt8)) = !(eN s).isSome:=by
 unfold eN
 cases hs:kr s with
 | none=>rfl
 | some k =>
   simp only []
   split
   . rename_i h
     simp only [Bool.and_eq_true] at h
     have hn:=h.1.2
     cases ht:s.take k with
     | nil=>rw [ht] at hn;cases hn
     | cons a l=>rfl
   . rfl
section
variable {P:Program} {G:Nat->Option (List AV)}
theorem Jf {f fn fv ff:FuncId} (h:Has P f (cE fn fv ff)) (X:FX) (hX:X.Ok) (hn:VP P G fn [.str X.name] (.bool (bd X.name)))
   (hv:∀ e∈X.vals,VP P G fv [e.av] (.int .i64 (if e.formed=true then (if 40<e.depth then 3 else 0) else 1))) (hf:∀ s∈X.inputs,VP P G ff [.str s] (.str ((eN s).getD []))):VP P G f [X.av] (.bool X.valid):=by
 show VP P G f [X.eG.av] _
 have uS:=FX.pure X
 have il:=hX.ins
 have vl:=hX.vl
 unfold FX.valid
 have k1:decide (X.kind<1) = !decide (1<=X.kind):=by by_cases q:1<=X.kind<;>simp [q]<;>omega
 have k2:decide (6<X.kind) = !decide (X.kind<=6):=by by_cases q:X.kind<=6<;>simp [q]<;>omega
 have k3:decide ((50:Int)<(X.inputs.length:Int)) = !decide (X.inputs.length<=50):=by by_cases q:X.inputs.length<=50<;>simp [q]<;>omega
 have k4:decide ((10:Int)<(X.vals.length:Int)) = !decide (X.vals.length<=10):=by by_cases q:X.vals.length<=10<;>simp [q]<;>omega
 cases b1:bd X.name
 . rw [b1] at hn
   refine VP.has h ?_
   simp only [cE,SS,Nat.reduceAdd,bL.one,ae,bL.p0,FX.wz]
   refine aj hn (by simp [af.str]) ?_
   simp only [SS,Nat.reduceAdd,Bool.false_and]
   exact ag▸ab rfl (af.bool _)
 rw [b1] at hn
 cases b2:decide (1<=X.kind)
 . rw [b2] at k1
   refine VP.has h ?_
   simp only [cE,SS,Nat.reduceAdd,bL.one,ae,bL.p0,FX.wz]
   refine aj hn (by simp [af.str]) ?_
   simp only [SS,Nat.reduceAdd,ae,bL.p1,FX.DK,k1,Bool.false_and,Bool.and_false]
   exact ag▸ab rfl (af.bool _)
 rw [b2] at k1
 cases b3:decide (X.kind<=6)
 . rw [b3] at k2
   refine VP.has h ?_
   simp only [cE,SS,Nat.reduceAdd,bL.one,ae,bL.p0,FX.wz]
   refine aj hn (by simp [af.str]) ?_
   simp only [SS,Nat.reduceAdd,ae,bL.p1,FX.DK,k1,k2,Bool.false_and,Bool.and_false]
   exact ag▸ab rfl (af.bool _)
 rw [b3] at k2
 cases b4:decide (X.inputs.length<=50)
 . rw [b4] at k3
   refine VP.has h ?_
   simp only [cE,SS,Nat.reduceAdd,bL.one,ae,bL.p0,FX.wz]
   refine aj hn (by simp [af.str]) ?_
   simp only [SS,Nat.reduceAdd,ae,bL.p1,bL.p2,FX.DK,FX.ic,dB,k1,k2,k3,Bool.false_and,Bool.and_false]
   exact ag▸ab rfl (af.bool _)
 rw [b4] at k3
 cases b5:decide (X.vals.length<=10)
 . rw [b5] at k4
   refine VP.has h ?_
   simp only [cE,SS,Nat.reduceAdd,bL.one,ae,bL.p0,FX.wz]
   refine aj hn (by simp [af.str]) ?_
   simp only [SS,Nat.reduceAdd,ae,bL.p1,bL.p2,bL.p3,FX.DK,FX.ic,FX.nB,dB,EX.a6,k1,k2,k3,k4,Bool.false_and,Bool.and_false]
   exact ag▸ab rfl (af.bool _)
 rw [b5] at k4
 refine VP.has h ?_
 simp only [cE,SS,Nat.reduceAdd,bL.one,ae,bL.p0,FX.wz]
 refine aj hn (by simp [af.str]) ?_
 simp only [SS,Nat.reduceAdd,ae,bL.p1,bL.p2,bL.p3,FX.DK,FX.ic,FX.nB,dB,EX.a6,k1,k2,k3,k4,Bool.true_and,aC]
 refine VW.bJ (α := Nat × Nat) (fun x=>⟨[X.eG.av, .ref [0] 0 0, .bool false, .int .i64 (x.1:Int)]++List.replicate 55 .top,aa.put (fun _=>none) [0] (some ⟨[X.eG.av],5,false⟩),x.2⟩)
   (fun x=>x.1<=X.vals.length/\(X.vals.take x.1).all uR=true) (fun x=>X.vals.length-x.1) (0,1000) ?_ ⟨Nat.zero_le _,by simp⟩ ?_
 . exact Wk.slots (by simp [Fg,List.replicate]) (by omega)
 rintro ⟨i,nn⟩ ⟨hi,cz⟩
 simp only [] at hi cz
 by_cases hlt:i<X.vals.length
 . obtain ⟨e,he⟩:∃ e,X.vals[i]? = some e:=⟨_,List.getElem?_eq_getElem hlt⟩
   have hm:=List.mem_of_getElem? he
   have hg:(EX.kV X.vals)[i]? = some e.av:=by rw [EX.cF,List.getElem?_map,he];rfl
   have dd:decide ((i:Int)<(X.vals.length:Int))=true:=ao (by omega)
   have M1:=OL e
   simp only [SS,Nat.reduceAdd,ae,bL.p3,FX.nB,EX.a6,dd,aQ rfl hg,az,EX.all]
   refine aj (hv e hm) (by simp [EX.pure]) ?_
   cases tk:uR e
   . rw [tk] at M1
     have:X.vals.all uR=false:=by
       rw [Bool.eq_false_iff];intro hh
       rw [List.all_eq_true] at hh
       rw [hh e hm] at tk;cases tk
     rw [this]
     simp only [SS,Nat.reduceAdd,M1,Bool.and_false]
     exact ag▸ab rfl (af.bool _)
   . rw [tk] at M1
     simp only [SS,Nat.reduceAdd,M1,aq i (by omega)]
     refine ⟨(i+1,nn+1000),⟨by simp only [];omega, ?_⟩,by simp only [];omega,Wk.slots (by simp [Fg]) (by omega)⟩
     simp only []
     rw [List.take_add_one,he,List.all_append,cz]
     simp [tk]
 . have dd:decide ((i:Int)<(X.vals.length:Int))=false:=ak (by omega)
   have jc:i=X.vals.length:=by omega
   rw [jc,List.take_length] at cz
   rw [cz,Bool.and_true]
   simp only [SS,Nat.reduceAdd,ae,bL.p3,FX.nB,EX.a6,dd,aC]
   refine VW.bJ (α := Nat × Nat) (fun x=>⟨[X.eG.av, .ref [0] 0 0, .bool false, .top, .int .i64 (x.1:Int)]++List.replicate 54 .top,aa.put (fun _=>none) [0] (some ⟨[X.eG.av],5,false⟩),x.2⟩)
     (fun x=>x.1<=X.inputs.length/\(X.inputs.take x.1).all (fun s=>(eN s).isSome)=true) (fun x=>X.inputs.length-x.1) (0,nn+1000) ?_ ⟨Nat.zero_le _,by simp⟩ ?_
   . exact Wk.slots (by simp [Fg,List.replicate]) (by omega)
   rintro ⟨j,mm⟩ ⟨hj,zA⟩
   simp only [] at hj zA
   by_cases rA:j<X.inputs.length
   . obtain ⟨s,hs⟩:∃ s,X.inputs[j]? = some s:=⟨_,List.getElem?_eq_getElem rA⟩
     have hm:=List.mem_of_getElem? hs
     have hg:(X.inputs.map AV.str)[j]? = some (.str s):=by rw [List.getElem?_map,hs];rfl
     have iA:br 1 (strs X.inputs) (.int .i64 (j:Int))=some (.ep (AV.str s).cells 0):=aQ rfl hg
     have B6:part false (AV.str s).cells 0 1=some (.str s):=rfl
     have dd:decide ((j:Int)<(X.inputs.length:Int))=true:=ao (by omega)
     have M1:=GJ s
     simp only [SS,Nat.reduceAdd,ae,bL.p2,FX.ic,dB,dd,iA,az,B6]
     refine aj (hf s hm) (by simp [af.str]) ?_
     cases tk:(eN s).isSome
     . rw [tk] at M1
       have:X.inputs.all (fun s=>(eN s).isSome)=false:=by
         rw [Bool.eq_false_iff];intro hh
         rw [List.all_eq_true] at hh
         have:=hh s hm
         rw [tk] at this;cases this
       rw [this]
       simp only [SS,Nat.reduceAdd,M1]
       exact ag▸ab rfl (af.bool _)
     . rw [tk] at M1
       simp only [SS,Nat.reduceAdd,M1,aq j (by omega)]
       refine ⟨(j+1,mm+1000),⟨by simp only [];omega, ?_⟩,by simp only [];omega,Wk.slots (by simp [Fg]) (by omega)⟩
       simp only []
       rw [List.take_add_one,hs,List.all_append,zA]
       simp [tk]
   . have dd:decide ((j:Int)<(X.inputs.length:Int))=false:=ak (by omega)
     have hj':j=X.inputs.length:=by omega
     rw [hj',List.take_length] at zA
     rw [zA]
     simp only [SS,Nat.reduceAdd,ae,bL.p2,FX.ic,dB,dd]
     exact ag▸ab rfl (af.bool _)
theorem Jg {f fs:FuncId} (h:Has P f (dQ fs)) (X:FX) (hX:X.Ok) (hs:∀ e∈X.vals,VP P G fs [e.av] (.bool (n9 e))):VP P G f [X.av] (.bool X.small):=by
 show VP P G f [X.eG.av] _
 have uS:=FX.pure X
 have il:=hX.ins
 have vl:=hX.vl
 unfold FX.small
 have k3:decide ((60:Int)<(X.inputs.length:Int)) = !decide (X.inputs.length<=60):=by by_cases q:X.inputs.length<=60<;>simp [q]<;>omega
 have k4:decide ((12:Int)<(X.vals.length:Int)) = !decide (X.vals.length<=12):=by by_cases q:X.vals.length<=12<;>simp [q]<;>omega
 have k5:decide ((100:Int)<(X.name.length:Int)) = !decide (X.name.length<=100):=by by_cases q:X.name.length<=100<;>simp [q]<;>omega
 cases b3:decide (X.inputs.length<=60)
 . rw [b3] at k3
   refine VP.has h ?_
   simp only [dQ,SS,Nat.reduceAdd,bL.one,ae,bL.p2,FX.ic,dB,k3,Bool.false_and]
   exact ag▸ab rfl (af.bool _)
 rw [b3] at k3
 cases b4:decide (X.vals.length<=12)
 . rw [b4] at k4
   refine VP.has h ?_
   simp only [dQ,SS,Nat.reduceAdd,bL.one,ae,bL.p2,bL.p3,FX.ic,FX.nB,dB,EX.a6,k3,k4,Bool.false_and,Bool.and_false]
   exact ag▸ab rfl (af.bool _)
 rw [b4] at k4
 cases b5:decide (X.name.length<=100)
 . rw [b5] at k5
   refine VP.has h ?_
   simp only [dQ,SS,Nat.reduceAdd,bL.one,ae,bL.p0,bL.p2,bL.p3,FX.wz,FX.ic,FX.nB,dB,EX.a6,k3,k4,k5,Bool.false_and,Bool.and_false]
   exact ag▸ab rfl (af.bool _)
 rw [b5] at k5
 refine VP.has h ?_
 simp only [dQ,SS,Nat.reduceAdd,bL.one,ae,bL.p0,bL.p2,bL.p3,FX.wz,FX.ic,FX.nB,dB,EX.a6,k3,k4,k5,Bool.true_and,aC]
 refine VW.bJ (α := Nat × Nat) (fun x=>⟨[X.eG.av, .ref [0] 0 0, .bool false, .int .i64 (x.1:Int)]++List.replicate 45 .top,aa.put (fun _=>none) [0] (some ⟨[X.eG.av],5,false⟩),x.2⟩)
   (fun x=>x.1<=X.inputs.length/\(X.inputs.take x.1).all (fun s=>decide (s.length<=300))=true) (fun x=>X.inputs.length-x.1) (0,1000) ?_ ⟨Nat.zero_le _,by simp⟩ ?_
 . exact Wk.slots (by simp [Fg,List.replicate]) (by omega)
 rintro ⟨j,mm⟩ ⟨hj,zA⟩
 simp only [] at hj zA
 by_cases rA:j<X.inputs.length
 . obtain ⟨s,z6⟩:∃ s,X.inputs[j]? = some s:=⟨_,List.getElem?_eq_getElem rA⟩
   have hm:=List.mem_of_getElem? z6
   have Cy:=hX.inl s hm
   have hg:(X.inputs.map AV.str)[j]? = some (.str s):=by rw [List.getElem?_map,z6];rfl
   have iA:br 1 (strs X.inputs) (.int .i64 (j:Int))=some (.ep (AV.str s).cells 0):=aQ rfl hg
   have B6:part false (AV.str s).cells 0 1=some (.str s):=rfl
   have dd:decide ((j:Int)<(X.inputs.length:Int))=true:=ao (by omega)
   have M1:decide ((300:Int)<(s.length:Int)) = !decide (s.length<=300):=by by_cases q:s.length<=300<;>simp [q]<;>omega
   cases tk:decide (s.length<=300)
   . rw [tk] at M1
     have:X.inputs.all (fun s=>decide (s.length<=300))=false:=by
       rw [Bool.eq_false_iff];intro hh
       rw [List.all_eq_true] at hh
       have:=hh s hm
       rw [tk] at this;cases this
     rw [this]
     simp only [SS,Nat.reduceAdd,ae,bL.p2,FX.ic,dB,dd,iA,az,B6,M1,Bool.false_and]
     exact ag▸ab rfl (af.bool _)
   . rw [tk] at M1
     simp only [SS,Nat.reduceAdd,ae,bL.p2,FX.ic,dB,dd,iA,az,B6,M1,aq j (by omega)]
     refine ⟨(j+1,mm+1000),⟨by simp only [];omega, ?_⟩,by simp only [];omega,Wk.slots (by simp [Fg]) (by omega)⟩
     simp only []
     rw [List.take_add_one,z6,List.all_append,zA]
     simpa using tk
 . have dd:decide ((j:Int)<(X.inputs.length:Int))=false:=ak (by omega)
   have hj':j=X.inputs.length:=by omega
   rw [hj',List.take_length] at zA
   rw [zA,Bool.true_and]
   simp only [SS,Nat.reduceAdd,ae,bL.p2,FX.ic,dB,dd,aC]
   refine VW.bJ (α := Nat × Nat) (fun x=>⟨[X.eG.av, .ref [0] 0 0, .bool false, .top, .int .i64 (x.1:Int)]++List.replicate 44 .top,aa.put (fun _=>none) [0] (some ⟨[X.eG.av],5,false⟩),x.2⟩)
     (fun x=>x.1<=X.vals.length/\(X.vals.take x.1).all n9=true) (fun x=>X.vals.length-x.1) (0,mm+1000) ?_ ⟨Nat.zero_le _,by simp⟩ ?_
   . exact Wk.slots (by simp [Fg,List.replicate]) (by omega)
   rintro ⟨i,nn⟩ ⟨hi,cz⟩
   simp only [] at hi cz
   by_cases hlt:i<X.vals.length
   . obtain ⟨e,he⟩:∃ e,X.vals[i]? = some e:=⟨_,List.getElem?_eq_getElem hlt⟩
     have hm:=List.mem_of_getElem? he
     have hg:(EX.kV X.vals)[i]? = some e.av:=by rw [EX.cF,List.getElem?_map,he];rfl
     have dd:decide ((i:Int)<(X.vals.length:Int))=true:=ao (by omega)
     simp only [SS,Nat.reduceAdd,ae,bL.p3,FX.nB,EX.a6,dd,aQ rfl hg,az,EX.all]
     refine aj (hs e hm) (by simp [EX.pure]) ?_
     cases tk:n9 e
     . have:X.vals.all n9=false:=by
         rw [Bool.eq_false_iff];intro hh
         rw [List.all_eq_true] at hh
         rw [hh e hm] at tk;cases tk
       rw [this]
       simp only [SS,Nat.reduceAdd]
       exact ag▸ab rfl (af.bool _)
     . simp only [SS,Nat.reduceAdd,aq i (by omega)]
       refine ⟨(i+1,nn+1000),⟨by simp only [];omega, ?_⟩,by simp only [];omega,Wk.slots (by simp [Fg]) (by omega)⟩
       simp only []
       rw [List.take_add_one,he,List.all_append,cz]
       simp [tk]
   . have dd:decide ((i:Int)<(X.vals.length:Int))=false:=ak (by omega)
     have jc:i=X.vals.length:=by omega
     rw [jc,List.take_length] at cz
     rw [cz]
     simp only [SS,Nat.reduceAdd,ae,bL.p3,FX.nB,EX.a6,dd]
     exact ag▸ab rfl (af.bool _)
end
end Go.VL
end

section
set_option linter.unusedVariables false
set_option linter.unusedVariables false
namespace Go.VL
theorem uA {σ : aa} {q:Id} {x:List UInt8}:b8 σ q (.buildSl 1 1 (.str []) [(0, .str x)])=some { val := .osl q 1 0 1 false,up:=[(q,some ⟨[.str x],1,false⟩)] }:=Xg rfl rfl rfl rfl
theorem s6 (l:List (List UInt8)):((l.map AV.str).all fun e=>e.cells.all AV.one)=true:=by
 rw [List.all_eq_true];intro e he;obtain ⟨s,_,rfl⟩:=List.mem_map.1 he;rfl
theorem oR {σ : aa} {p q:Id} {x:List UInt8}:b6 (σ.put q (some ⟨[.str x],1,false⟩)) p 1 16 .nils (.osl q 1 0 1 false)=some { val := .osl p 1 0 1 false,rd:=[q],up:=[(p,some ⟨[.str x],1,false⟩)] } :=
 uh (x := .osl q 1 0 1 false) (ys:=[.str x]) (jH (bk:=⟨[.str x],1,false⟩) (aa.a8 _ _ _) rfl (by simp)) (by simp) (by simp) (cK (by simp)) (s6 [x])
theorem zB {σ : aa} {p id q:Id} {o:List (List UInt8)} {x:List UInt8} (hq:q≠id) (hb:o.length<=1000000) (h : σ id=some ⟨o.map .str,1,false⟩) :
   b6 (σ.put q (some ⟨[.str x],1,false⟩)) p 1 16 (.osl id 1 0 o.length false) (.osl q 1 0 1 false)=some { val := .osl p 1 0 (o.length+1) false,rd:=[id,q],up:=[(id,none),(p,some ⟨(o++[x]).map .str,1,false⟩)] }:=by
 have:=lN (σ := σ.put q (some ⟨[.str x],1,false⟩)) (p:=p) (id:=id) (k:=1) (bytes:=16) (len:=o.length) (els:=o.map .str) (x := .osl q 1 0 1 false) (ys:=[.str x]) (rd:=[q])
   (jH (bk:=⟨[.str x],1,false⟩) (aa.a8 _ _ _) rfl (by simp)) (by simp) (by rw [aa.bg _ _ _ hq.symm];exact h) (by rw [List.length_map]) (by simp;omega) (cK (by simp;omega)) (s6 [x]) (s6 o)
 rw [this,List.map_append]
 simp
def xi (ck:Nat) (l:List (List UInt8)):AV:=if l=[] then .nils else .osl [ck] 1 0 l.length false
def Yl (ck:Nat) (l:List (List UInt8)):aa:=aa.put (fun _=>none) [ck] (if l=[] then none else some ⟨l.map .str,1,false⟩)
theorem abj {a b:Nat} (h:a≠b) : ¬ ([a]:List Nat) <:+ [b]:=fun hs=>by
 have:=hs.eq_of_length rfl
 simp at this;exact h this
theorem s7 {σ : aa} {id:Id} {a t:List (List UInt8)} {b tt:Bool} (h : σ id=some ⟨(a++t).map .str,1,b⟩):View σ (.osl id 1 0 a.length tt) (strs a):=by
 refine View.osl (bk:=⟨(a++t).map .str,1,b⟩) h rfl (by simp) ?_ (by rw [List.length_map]) (by intro d hd;obtain ⟨s,_,rfl⟩:=List.mem_map.1 hd;rfl)
 have e:((((a++t).map AV.str).drop 0).take a.length)=a.map AV.str:=by
   rw [List.drop_zero, <- List.map_take,List.take_left']
   rfl
 show aW _ (flat ((((a++t).map AV.str).drop 0).take a.length)) _
 rw [e]
 exact aW.pure (by rw [wv];intro c hc;obtain ⟨s,_,rfl⟩:=List.mem_map.1 hc;exact af.str s)
section
variable {P:Program} {G:Nat->Option (List AV)}
theorem Sg {f fv abk fs fc:FuncId} (h:Has P f (kj fv abk fs fc)) (X:FX) (hX:X.Ok) (LA:X.valid=true->X.inputs.length<=1000) (hv:VP P G fv [X.av] (.bool X.valid))
   (hcut:∀ s∈X.inputs,VP P G abk [.str s, .str [47]] (.tup [.str (Lib.cut s [47]).1, .str (Lib.cut s [47]).2.1, .bool (Lib.cut s [47]).2.2]))
   (Y9:VP P G fs [.nils] (.tup [])) (J5:VP P G fc [.nils] .nils) (sf cf:List (List UInt8)->List (List UInt8)) (YU:∀ l,(sf l).length=l.length) (hcf:∀ l,(cf l).length<=l.length) (hcn:cf (sf [])=[])
   (hs:∀ (l:List (List UInt8)) (id p:Id),l.length<=1000000 -> ¬ p <:+ id->aB P G fs [.osl id 1 0 l.length false] p [(id,⟨l.map .str,1,false⟩)] { val := .tup [],rd:=[id],up:=[(id,some ⟨(sf l).map .str,1,false⟩)] })
   (hc:∀ (l:List (List UInt8)) (id p:Id),l.length<=1000000 -> ¬ p <:+ id->aB P G fc [.osl id 1 0 l.length false] p [(id,⟨l.map .str,1,false⟩)]
     { val := .osl id 1 0 (cf l).length false,rd:=[id],up:=[(id,some ⟨(cf l++List.replicate (l.length-(cf l).length) []).map .str,1,false⟩)] }) :
   VP P G f [X.av] (strs (if X.valid=true then cf (sf (X.inputs.map fun s=>(Lib.cut s [47]).1)) else [])):=by
 show VP P G f [X.eG.av] _
 have Pe:VP P G fv [X.eG.av] (.bool X.valid):=hv
 have uS:=FX.pure X
 cases hval:X.valid
 . rw [hval] at Pe
   rw [if_neg (by decide)]
   refine VP.has h ?_
   simp only [kj,SS,Nat.reduceAdd,bL.one,ae,bL.whole]
   refine aj Pe (by simp [uS]) ?_
   simp only [SS,Nat.reduceAdd]
   exact ag▸⟨_,rfl,View.nils 1⟩
 rw [hval] at Pe
 rw [if_pos rfl]
 have hlen:=LA hval
 generalize yf:(X.inputs.map fun s=>(Lib.cut s [47]).1)=names
 have yw:names.length=X.inputs.length:=by rw [<- yf,List.length_map]
 refine VP.has h ?_
 simp only [kj,SS,Nat.reduceAdd,bL.one,ae,bL.whole]
 refine aj Pe (by simp [uS]) ?_
 simp only [SS,Nat.reduceAdd,ae,bL.p2,FX.ic,dB,aC]
 refine VW.bJ (α := Nat × Nat × Nat) (fun x=>⟨[X.eG.av, .top, .top,xi x.2.1 (names.take x.1)]++List.replicate 9 .top++[strs X.inputs, .int .i64 (X.inputs.length:Int), .int .i64 (x.1:Int)]++List.replicate 18 .top,Yl x.2.1 (names.take x.1),x.2.2⟩)
   (fun x=>x.1<=X.inputs.length/\x.2.1<x.2.2) (fun x=>X.inputs.length-x.1) (0,1,1000) ?_ ⟨Nat.zero_le _,by decide⟩ ?_
 . refine Wk.forget (by simp [Fg,List.replicate,xi]) (fun j => ?_) (by simp only [];omega)
   left;simp [Yl,aa.put]
 rintro ⟨i,ck,nn⟩ ⟨hi,Rl⟩
 simp only [] at hi Rl
 by_cases hlt:i<X.inputs.length
 . obtain ⟨s,z6⟩:∃ s,X.inputs[i]? = some s:=⟨_,List.getElem?_eq_getElem hlt⟩
   have hm:=List.mem_of_getElem? z6
   have hg:(X.inputs.map AV.str)[i]? = some (.str s):=by rw [List.getElem?_map,z6];rfl
   have iA:br 1 (strs X.inputs) (.int .i64 (i:Int))=some (.ep (AV.str s).cells 0):=aQ rfl hg
   have B6:part false (AV.str s).cells 0 1=some (.str s):=rfl
   have dd:decide ((i:Int)<(X.inputs.length:Int))=true:=ao (by omega)
   have JX:names.take (i+1)=names.take i++[(Lib.cut s [47]).1]:=by
     rw [List.take_add_one, <- yf,List.getElem?_map,z6];rfl
   have Jh : ¬ names.take i++[(Lib.cut s [47]).1]=[]:=by simp
   have Es:(names.take i).length=i:=by rw [List.length_take];omega
   by_cases h0:i=0
   . subst h0
     have e0:xi ck (names.take 0) = .nils:=by simp [xi]
     simp only [e0]
     simp only [SS,Nat.reduceAdd,List.replicate,dd,iA,az,B6]
     refine aj (hcut s hm) (by simp [af.str]) ?_
     simp only [SS,Nat.reduceAdd,qo,qp,qq,uA,oR,aq 0 (by omega)]
     refine ⟨(0+1,nn+1+3+9+3,nn+1000),⟨by simp only [];omega,by simp only [];omega⟩,by simp only [];omega, ?_⟩
     simp only [JX]
     simp only [List.take_zero,List.nil_append,xi,Yl,List.cons_ne_nil,if_false,if_true,List.map_cons,List.map_nil,List.length_singleton]
     refine Wk.forget (by simp [Fg]) (fun j => ?_) (by omega)
     by_cases h1:j=[nn+1+3+9+3]
     . subst h1;right;simp [aa.put]
     . left;simp [aa.put,h1]
   . have hne : ¬ names.take i=[]:=by intro e;rw [e] at Es;simp at Es;omega
     have e0:xi ck (names.take i) = .osl [ck] 1 0 (names.take i).length false:=if_neg hne
     have zZ:∀ (p q:Id),q≠[ck]->b6 ((Yl ck (names.take i)).put q (some ⟨[.str (Lib.cut s [47]).1],1,false⟩)) p 1 16 (.osl [ck] 1 0 (names.take i).length false) (.osl q 1 0 1 false)=some { val := .osl p 1 0 ((names.take i).length+1) false,rd:=[[ck],q],up:=[([ck],none),(p,some ⟨(names.take i++[(Lib.cut s [47]).1]).map .str,1,false⟩)] } :=
       fun p q hq=>zB hq (by omega) (by unfold Yl;rw [aa.a8,if_neg hne])
     have hq:([nn+1+3+9+2]:List Nat)≠[ck]:=by intro e;simp at e;omega
     simp only [e0]
     simp only [SS,Nat.reduceAdd,List.replicate,dd,iA,az,B6]
     refine aj (hcut s hm) (by simp [af.str]) ?_
     simp only [SS,Nat.reduceAdd,qo,qp,qq,uA,zZ _ _ hq,aq i (by omega)]
     refine ⟨(i+1,nn+1+3+9+3,nn+1000),⟨by simp only [];omega,by simp only [];omega⟩,by simp only [];omega, ?_⟩
     simp only [JX]
     simp only [xi,if_neg Jh,List.length_append,List.length_singleton]
     refine Wk.forget (by simp [Fg]) (fun j => ?_) (by omega)
     unfold Yl
     by_cases h1:j=[nn+1+3+9+3]
     . subst h1;right;simp only [aa.a8,if_neg Jh]
     . left;simp [aa.put,h1]
 . have dd:decide ((i:Int)<(X.inputs.length:Int))=false:=ak (by omega)
   have jc:i=names.length:=by omega
   have J7:names.take i=names:=by rw [jc,List.take_length]
   simp only [J7]
   by_cases h0:names=[]
   . have e0:xi ck names = .nils:=by simp [xi,h0]
     have e1:cf (sf names)=[]:=by rw [h0];exact hcn
     rw [e1]
     simp only [e0]
     simp only [SS,Nat.reduceAdd,List.replicate,dd]
     refine aj (args:=[.nils]) Y9 (by simp [af.nils]) ?_
     simp only [SS,Nat.reduceAdd]
     refine aj (args:=[.nils]) J5 (by simp [af.nils]) ?_
     simp only [SS,Nat.reduceAdd]
     exact ag▸⟨_,rfl,View.nils 1⟩
   . have e0:xi ck names = .osl [ck] 1 0 names.length false:=if_neg h0
     simp only [e0]
     simp only [SS,Nat.reduceAdd,List.replicate,dd]
     refine ⟨[([ck],⟨names.map .str,1,false⟩)],_,hs names [ck] _ (by omega) (abj (by omega)),by simp [Yl,h0,aa.put],by simp, ?_⟩
     simp only [SS,Nat.reduceAdd]
     have Pb:=fun p hp=>hc (sf names) [ck] p (by rw [YU];omega) hp
     rw [YU] at Pb
     refine ⟨[([ck],⟨(sf names).map .str,1,false⟩)],_,Pb _ (abj (by omega)),by simp [aa.put],by simp, ?_⟩
     simp only [SS,Nat.reduceAdd]
     exact ag▸⟨_,rfl,s7 (t:=List.replicate (names.length-(cf (sf names)).length) []) (b:=false) (aa.a8 _ _ _)⟩
end
end Go.VL
end

section
set_option linter.unusedVariables false
set_option linter.unusedVariables false
namespace Go.VL
def D7 (n:List UInt8):List (List UInt8)->Nat
 | []=>0
 | x::l=>if Op.bytesLess x n=true then D7 n l+1 else 0
theorem Si (n:List UInt8):∀ l,D7 n l<=l.length
 | []=>Nat.le_refl _
 | x::l=>by
   rw [D7]
   split
   . have:=Si n l;simp;omega
   . exact Nat.zero_le _
theorem K0 (n:List UInt8):∀ (l:List (List UInt8)) (k:Nat),k<D7 n l->∃ x,l[k]? = some x/\Op.bytesLess x n=true
 | [],k,h=>absurd h (Nat.not_lt_zero k)
 | x :: l,k,h=>by
   rw [D7] at h
   split at h
   . rename_i hx
     cases k with
     | zero=>exact ⟨x,rfl,hx⟩
     | succ k=>exact K0 n l k (by omega)
   . omega
theorem DL (n:List UInt8):∀ (l:List (List UInt8)) (x:List UInt8),l[D7 n l]? = some x->Op.bytesLess x n=false
 | [],x,h=>by simp [D7] at h
 | y :: l,x,h=>by
   rw [D7] at h
   split at h
   . exact DL n l x (by simpa using h)
   . rename_i hy
     simp at h;subst h;simpa using hy
def xj (out:List (List UInt8)) (n:List UInt8):List (List UInt8):=if out.contains n=true then out else out.take (D7 n out)++[n]++out.drop (D7 n out)
theorem Sj (out:List (List UInt8)) (n:List UInt8):(xj out n).length<=out.length+1:=by
 unfold xj
 split
 . omega
 . simp only [List.length_append,List.length_take,List.length_drop,List.length_singleton];omega
def xk (ns:List (List UInt8)):List (List UInt8):=ns.foldl xj []
theorem FD (ns:List (List UInt8)) (n:List UInt8):xk (ns++[n])=xj (xk ns) n:=by unfold xk;rw [List.foldl_append];rfl
theorem Ji (ns:List (List UInt8)) (k:Nat):(xk (ns.take k)).length<=k:=by
 induction k with
 | zero=>simp [xk]
 | succ k ih =>
   rcases Nat.lt_or_ge k ns.length with hlt | tk
   . rw [List.take_add_one,List.getElem?_eq_getElem hlt,Option.toList_some,FD]
     have:=Sj (xk (ns.take k)) ns[k]
     omega
   . rw [List.take_of_length_le (by omega)]
     rw [List.take_of_length_le tk] at ih
     omega
theorem rh {a b:List UInt8}:bo .lss .str (.str a) (.str b)=some (.bool (Op.bytesLess a b)):=rfl
theorem BH {k l:Nat} {es:List AV} (h:l<=es.length):bU k (.sl k es) (some (.int .i64 (l:Int))) none none=some (.sl k (es.drop l)):=by
 simp [bU,cJ,dV,h]
theorem zC {σ : aa} {p id:Id} {n:Nat}:b6 σ p 1 16 (.osl id 1 0 n false) (.sl 1 [])=some { val := .osl id 1 0 n false,rd:=[] }:=by simp [b6,dA]
theorem Jj {σ : aa} {p id:Id} {o ys:List (List UInt8)} (hy:ys≠[]) (hb:o.length+ys.length<=1000000) (h : σ id=some ⟨o.map .str,1,false⟩) :
   b6 σ p 1 16 (.osl id 1 0 o.length false) (.sl 1 (ys.map .str))=some { val := .osl p 1 0 (o.length+ys.length) false,rd:=[id],up:=[(id,none),(p,some ⟨(o++ys).map .str,1,false⟩)] }:=by
 have:=lN (σ := σ) (p:=p) (id:=id) (k:=1) (bytes:=16) (len:=o.length) (els:=o.map .str) (x := .sl 1 (ys.map .str)) (ys:=ys.map .str) (rd:=[])
   eX (by simpa using hy) h (by rw [List.length_map]) (by simp;omega) (cK (by simp;omega)) (s6 ys) (s6 o)
 rw [this,List.map_append,List.length_map]
section
variable {P:Program} {G:Nat->Option (List AV)}
theorem OM {f fv ff fh:FuncId} (h:Has P f (gD fv ff fh)) (X:FX) (hX:X.Ok) (LA:X.valid=true->X.inputs.length<=1000) (hv:VP P G fv [X.av] (.bool X.valid))
   (hf:∀ s∈X.inputs,VP P G ff [.str s] (.str ((eN s).getD []))) (hh:∀ (l:List (List UInt8)) (s:List UInt8),l.length<=1000000->VP P G fh [strs l, .str s] (.bool (l.contains s))) :
   VP P G f [X.av] (strs (if X.valid=true then xk (X.inputs.map fun s=>(eN s).getD []) else [])):=by
 show VP P G f [X.eG.av] _
 have Pe:VP P G fv [X.eG.av] (.bool X.valid):=hv
 have uS:=FX.pure X
 cases hval:X.valid
 . rw [hval] at Pe
   rw [if_neg (by decide)]
   refine VP.has h ?_
   simp only [gD,SS,Nat.reduceAdd,bL.one,ae,bL.whole]
   refine aj Pe (by simp [uS]) ?_
   simp only [SS,Nat.reduceAdd]
   exact ag▸⟨_,rfl,View.nils 1⟩
 rw [hval] at Pe
 rw [if_pos rfl]
 have hlen:=LA hval
 generalize yf:(X.inputs.map fun s=>(eN s).getD [])=names
 have yw:names.length=X.inputs.length:=by rw [<- yf,List.length_map]
 refine VP.has h ?_
 simp only [gD,SS,Nat.reduceAdd,bL.one,ae,bL.whole]
 refine aj Pe (by simp [uS]) ?_
 simp only [SS,Nat.reduceAdd,aC]
 refine VW.bJ (α := Nat × Nat) (fun x=>⟨[X.eG.av, .ref [0] 0 0, .top,strs (xk (names.take x.1)), .int .i64 (x.1:Int)]++List.replicate 55 .top,aa.put (fun _=>none) [0] (some ⟨[X.eG.av],5,false⟩),x.2⟩)
   (fun x=>x.1<=X.inputs.length) (fun x=>X.inputs.length-x.1) (0,1000) ?_ (Nat.zero_le _) ?_
 . refine Wk.freeze [] (by simp) (by simp [NP,List.replicate];exact .inr (.inr (View.nils 1))) (fun j => ?_) (by omega)
   by_cases h1:j=[0]
   . subst h1;right;simp [aa.put,rC,aa.app];rfl
   . left;simp [aa.put,h1]
 rintro ⟨i,nn⟩ hi
 simp only [] at hi
 have Zr:=Ji names i
 generalize CR:xk (names.take i)=out at Zr
 by_cases hlt:i<X.inputs.length
 . obtain ⟨s,z6⟩:∃ s,X.inputs[i]? = some s:=⟨_,List.getElem?_eq_getElem hlt⟩
   have hm:=List.mem_of_getElem? z6
   have hg:(X.inputs.map AV.str)[i]? = some (.str s):=by rw [List.getElem?_map,z6];rfl
   have iA:br 1 (strs X.inputs) (.int .i64 (i:Int))=some (.ep (AV.str s).cells 0):=aQ rfl hg
   have B6:part false (AV.str s).cells 0 1=some (.str s):=rfl
   have dd:decide ((i:Int)<(X.inputs.length:Int))=true:=ao (by omega)
   generalize hn:(eN s).getD []=n
   have hfs:=hf s hm
   rw [hn] at hfs
   have ri:xk (names.take (i+1))=xj out n:=by
     rw [List.take_add_one, <- yf,List.getElem?_map,z6,Option.map_some,Option.toList_some,yf,FD,CR,hn]
   simp only [SS,Nat.reduceAdd,ae,bL.p2,FX.ic,dB,dd,iA,az,B6]
   refine aj hfs (by simp [af.str]) ?_
   simp only [SS,Nat.reduceAdd]
   refine aj (hh out n (by omega)) (by simp [af.str,gX]) ?_
   cases Sk:out.contains n
   . have GK:xj out n=out.take (D7 n out)++[n]++out.drop (D7 n out):=by unfold xj;rw [Sk];simp
     simp only [SS,Nat.reduceAdd,aC]
     have Tc:=Si n out
     refine VW.bJ (α := Nat × Nat × Nat) (fun z=>⟨[X.eG.av, .ref [0] 0 0, .top,strs out, .int .i64 (i:Int), .str n,xi z.2.1 (out.take z.1), .int .i64 (z.1:Int)]++List.replicate 52 .top,
       (aa.put (fun _=>none) [0] (some ⟨[X.eG.av],5,false⟩)).put [z.2.1] (if out.take z.1=[] then none else some ⟨(out.take z.1).map .str,1,false⟩),z.2.2⟩)
       (fun z=>z.1<=D7 n out/\0<z.2.1/\z.2.1<z.2.2) (fun z=>D7 n out-z.1) (0,1,nn+1000) ?_ ⟨Nat.zero_le _,Nat.one_pos,by simp only [];omega⟩ ?_
     . refine Wk.forget (by simp [Fg,List.replicate,xi]) (fun j => ?_) (by simp only [];omega)
       by_cases h1:j=[0]
       . subst h1;right;simp [aa.put]
       . left;simp [aa.put,h1]
     rintro ⟨k,ck,mm⟩ ⟨hk,aev,Rl⟩
     simp only [] at hk aev Rl
     have Es:(out.take k).length=k:=by rw [List.length_take];omega
     by_cases Ir:k<D7 n out
     . obtain ⟨x,hx,N6⟩:=K0 n out k Ir
       have hgx:(out.map AV.str)[k]? = some (.str x):=by rw [List.getElem?_map,hx];rfl
       have mR:br 1 (strs out) (.int .i64 (k:Int))=some (.ep (AV.str x).cells 0):=aQ rfl hgx
       have GL:part false (AV.str x).cells 0 1=some (.str x):=rfl
       have d1:decide ((k:Int)<(out.length:Int))=true:=ao (by omega)
       have JX:out.take (k+1)=out.take k++[x]:=by rw [List.take_add_one,hx];rfl
       have Jh : ¬ out.take k++[x]=[]:=by simp
       by_cases h0:k=0
       . subst h0
         have e0:xi ck (out.take 0) = .nils:=by simp [xi]
         simp only [e0]
         simp only [SS,Nat.reduceAdd,dB,d1,mR,az,GL,rh,N6,uA,oR,aq 0 (by omega)]
         refine ⟨(0+1,mm+12+6,mm+1000),⟨by simp only [];omega,by simp only [];omega,by simp only [];omega⟩,by simp only [];omega, ?_⟩
         simp only [JX,List.take_zero,List.nil_append,xi,List.cons_ne_nil,if_false,List.length_singleton,List.map_cons,List.map_nil]
         refine Wk.forget (by simp [Fg]) (fun j => ?_) (by omega)
         by_cases h1:j=[mm+12+6]
         . subst h1;right;simp [aa.put]
         by_cases h2:j=[0]
         . subst h2;right;simp [aa.put];omega
         . left;simp [aa.put,h1,h2]
       . have hne : ¬ out.take k=[]:=by intro e;rw [e] at Es;simp at Es;omega
         have e0:xi ck (out.take k) = .osl [ck] 1 0 (out.take k).length false:=if_neg hne
         have zZ:∀ (p q:Id),q≠[ck]->b6 (((aa.put (fun _=>none) [0] (some ⟨[X.eG.av],5,false⟩)).put [ck] (if out.take k=[] then none else some ⟨(out.take k).map .str,1,false⟩)).put q (some ⟨[.str x],1,false⟩)) p 1 16 (.osl [ck] 1 0 (out.take k).length false) (.osl q 1 0 1 false)=some { val := .osl p 1 0 ((out.take k).length+1) false,rd:=[[ck],q],up:=[([ck],none),(p,some ⟨(out.take k++[x]).map .str,1,false⟩)] } :=
           fun p q hq=>zB hq (by omega) (by rw [aa.a8,if_neg hne])
         have hq:([mm+12+5]:List Nat)≠[ck]:=by intro e;simp at e;omega
         simp only [e0]
         simp only [SS,Nat.reduceAdd,dB,d1,mR,az,GL,rh,N6,uA,zZ _ _ hq,aq k (by omega)]
         refine ⟨(k+1,mm+12+6,mm+1000),⟨by simp only [];omega,by simp only [];omega,by simp only [];omega⟩,by simp only [];omega, ?_⟩
         simp only [JX,xi,if_neg Jh,List.length_append,List.length_singleton]
         refine Wk.forget (by simp [Fg]) (fun j => ?_) (by omega)
         by_cases h1:j=[mm+12+6]
         . subst h1;right;simp [aa.put]
         by_cases h2:j=[0]
         . subst h2;right;simp [aa.put];omega
         . left;simp [aa.put,h1,h2]
     . have Mz:k=D7 n out:=by omega
       rw [<- Mz] at GK
       have abl:bU 1 (strs out) (some (.int .i64 0)) none none=some (.sl 1 (out.map .str)):=BH (k:=1) (l:=0) (es:=out.map AV.str) (Nat.zero_le _)
       have Cy:bU 1 (strs out) (some (.int .i64 (((out.take k).length:Nat):Int))) none none=some (.sl 1 ((out.drop k).map .str)):=by
         have:=BH (k:=1) (l:=k) (es:=out.map AV.str) (by rw [List.length_map];omega)
         rw [List.map_drop,Es];exact this
       rw [GK] at ri
       by_cases aew:k<out.length
       case pos =>
         obtain ⟨x,hx⟩:∃ x,out[k]? = some x:=⟨_,List.getElem?_eq_getElem aew⟩
         have N6:Op.bytesLess x n=false:=DL n out x (by rw [<- Mz];exact hx)
         have hgx:(out.map AV.str)[k]? = some (.str x):=by rw [List.getElem?_map,hx];rfl
         have mR:br 1 (strs out) (.int .i64 (k:Int))=some (.ep (AV.str x).cells 0):=aQ rfl hgx
         have GL:part false (AV.str x).cells 0 1=some (.str x):=rfl
         have d1:decide ((k:Int)<(out.length:Int))=true:=ao (by omega)
         have Wy:out.drop k≠[]:=by intro e;have:=congrArg List.length e;rw [List.length_drop] at this;simp at this;omega
         by_cases h0:k=0
         . have e0:xi ck (out.take k) = .nils:=by simp [xi,h0]
           have Jk:out.take k=[]:=by rw [h0];rfl
           have K1:out.drop k=out:=by rw [h0];rfl
           rw [K1] at Wy
           have I6:∀ (σ : aa) (p:Id),b6 ((σ.put [mm+12+3+2] (some ⟨[.str n],1,false⟩)).put [mm+12+3+3] (some ⟨[.str n],1,false⟩)) p 1 16 (.osl [mm+12+3+3] 1 0 1 false) (.sl 1 (out.map .str))=some { val := .osl p 1 0 (1+out.length) false,rd:=[[mm+12+3+3]],up:=[([mm+12+3+3],none),(p,some ⟨([n]++out).map .str,1,false⟩)] }:=fun σ p =>
             Jj (o:=[n]) Wy (by simp;omega) (aa.a8 _ _ _)
           rw [Jk,K1,List.nil_append] at GK
           simp only [e0]
           simp only [SS,DD,Nat.reduceAdd,dB,d1,mR,az,GL,rh,N6,uA,oR,abl,I6,aq i (by omega)]
           refine ⟨by simp [ar,apart], ?_⟩
           try rw [Jk,K1,List.nil_append] at ri
           refine ⟨(i+1,mm+1000),by simp only [];omega,by simp only [];omega, ?_⟩
           simp only [ri]
           refine Wk.freeze [([mm+12+3+7],⟨([n]++out).map .str,1,false⟩)] (by simp [aa.put]) ?_ (fun j => ?_) (by omega)
           . have hv:=s7 (σ := aa.of [([mm+12+3+7],⟨([n]++out).map AV.str,1,false⟩)]) (id:=[mm+12+3+7]) (a:=[n]++out) (t:=[]) (b:=false) (tt:=false) (by rw [List.append_nil];simp [aa.of])
             rw [List.length_append,List.length_singleton] at hv
             simp [NP]
             right;right
             simpa using hv
           . by_cases h1:j=[0]
             . subst h1;right;simp [aa.put,rC,aa.app]<;>omega
             . left;simp [aa.put,h1]
         . have hne : ¬ out.take k=[]:=by intro e;rw [e] at Es;simp at Es;omega
           have e0:xi ck (out.take k) = .osl [ck] 1 0 (out.take k).length false:=if_neg hne
           have zZ:∀ (p q:Id),q≠[ck]->b6 (((aa.put (fun _=>none) [0] (some ⟨[X.eG.av],5,false⟩)).put [ck] (if out.take k=[] then none else some ⟨(out.take k).map .str,1,false⟩)).put q (some ⟨[.str n],1,false⟩)) p 1 16 (.osl [ck] 1 0 (out.take k).length false) (.osl q 1 0 1 false)=some { val := .osl p 1 0 ((out.take k).length+1) false,rd:=[[ck],q],up:=[([ck],none),(p,some ⟨(out.take k++[n]).map .str,1,false⟩)] } :=
             fun p q hq=>zB hq (by omega) (by rw [aa.a8,if_neg hne])
           have hq:([mm+12+3+2]:List Nat)≠[ck]:=by intro e;simp at e;omega
           have I6:∀ (σ : aa) (p:Id),b6 (σ.put [mm+12+3+3] (some ⟨(out.take k++[n]).map .str,1,false⟩)) p 1 16 (.osl [mm+12+3+3] 1 0 ((out.take k).length+1) false) (.sl 1 ((out.drop k).map .str))=some { val := .osl p 1 0 ((out.take k).length+1+(out.drop k).length) false,rd:=[[mm+12+3+3]],up:=[([mm+12+3+3],none),(p,some ⟨(out.take k++[n]++out.drop k).map .str,1,false⟩)] }:=fun σ p=>by
             have:=Jj (σ := σ.put [mm+12+3+3] (some ⟨(out.take k++[n]).map .str,1,false⟩)) (p:=p) (o:=out.take k++[n]) (ys:=out.drop k) Wy (by rw [List.length_append,Es,List.length_drop,List.length_singleton];omega) (aa.a8 _ _ _)
             rwa [List.length_append,List.length_singleton] at this
           simp only [e0]
           simp only [SS,DD,Nat.reduceAdd,dB,d1,mR,az,GL,rh,N6,uA,zZ _ _ hq,Cy,I6,aq i (by omega)]
           refine ⟨by simp [ar,apart], ?_⟩
           refine ⟨(i+1,mm+1000),by simp only [];omega,by simp only [];omega, ?_⟩
           simp only [ri]
           refine Wk.freeze [([mm+12+3+7],⟨(out.take k++[n]++out.drop k).map .str,1,false⟩)] (by simp [aa.put]) ?_ (fun j => ?_) (by omega)
           . have hv:=s7 (σ := aa.of [([mm+12+3+7],⟨(out.take k++[n]++out.drop k).map AV.str,1,false⟩)]) (id:=[mm+12+3+7]) (a:=out.take k++[n]++out.drop k) (t:=[]) (b:=false) (tt:=false) (by rw [List.append_nil];simp [aa.of])
             rw [List.length_append,List.length_append,List.length_singleton] at hv
             simp [NP]
             right;right
             simpa using hv
           . by_cases h1:j=[0]
             . subst h1;right;simp [aa.put,rC,aa.app]<;>omega
             . left;simp [aa.put,h1]
       case neg =>
         have d1:decide ((k:Int)<(out.length:Int))=false:=ak (by omega)
         have Wy:out.drop k=[]:=List.drop_of_length_le (by omega)
         by_cases h0:k=0
         . have e0:xi ck (out.take k) = .nils:=by simp [xi,h0]
           have Jk:out.take k=[]:=by rw [h0];rfl
           have K1:out.drop k=out:=by rw [h0];rfl
           have ho:out=[]:=by rw [<- K1];exact Wy
           rw [Jk,K1,ho,List.nil_append,List.append_nil] at GK
           have abm:bU 1 (strs out) (some (.int .i64 0)) none none=some (.sl 1 []):=by rw [abl,ho];rfl
           simp only [e0]
           simp only [SS,DD,Nat.reduceAdd,dB,d1,uA,oR,abm,zC,aq i (by omega)]
           refine ⟨by simp [ar,apart], ?_⟩
           try rw [Jk,K1,ho,List.nil_append,List.append_nil] at ri
           refine ⟨(i+1,mm+1000),by simp only [];omega,by simp only [];omega, ?_⟩
           simp only [ri]
           refine Wk.freeze [([mm+12+3+3],⟨([n]).map .str,1,false⟩)] (by simp [aa.put]) ?_ (fun j => ?_) (by omega)
           . have hv:=s7 (σ := aa.of [([mm+12+3+3],⟨([n]).map AV.str,1,false⟩)]) (id:=[mm+12+3+3]) (a:=[n]) (t:=[]) (b:=false) (tt:=false) (by rw [List.append_nil];simp [aa.of])
             rw [List.length_singleton] at hv
             simp [NP]
             right;right
             simpa using hv
           . by_cases h1:j=[0]
             . subst h1;right;simp [aa.put,rC,aa.app]<;>omega
             . left;simp [aa.put,h1]
         . have hne : ¬ out.take k=[]:=by intro e;rw [e] at Es;simp at Es;omega
           have e0:xi ck (out.take k) = .osl [ck] 1 0 (out.take k).length false:=if_neg hne
           have zZ:∀ (p q:Id),q≠[ck]->b6 (((aa.put (fun _=>none) [0] (some ⟨[X.eG.av],5,false⟩)).put [ck] (if out.take k=[] then none else some ⟨(out.take k).map .str,1,false⟩)).put q (some ⟨[.str n],1,false⟩)) p 1 16 (.osl [ck] 1 0 (out.take k).length false) (.osl q 1 0 1 false)=some { val := .osl p 1 0 ((out.take k).length+1) false,rd:=[[ck],q],up:=[([ck],none),(p,some ⟨(out.take k++[n]).map .str,1,false⟩)] } :=
             fun p q hq=>zB hq (by omega) (by rw [aa.a8,if_neg hne])
           have hq:([mm+12+3+2]:List Nat)≠[ck]:=by intro e;simp at e;omega
           rw [Wy,List.append_nil] at GK
           have aex:bU 1 (strs out) (some (.int .i64 (((out.take k).length:Nat):Int))) none none=some (.sl 1 []):=by rw [Cy,Wy];rfl
           simp only [e0]
           simp only [SS,DD,Nat.reduceAdd,dB,d1,uA,zZ _ _ hq,aex,zC,aq i (by omega)]
           refine ⟨by simp [ar,apart], ?_⟩
           try rw [Wy,List.append_nil] at ri
           refine ⟨(i+1,mm+1000),by simp only [];omega,by simp only [];omega, ?_⟩
           simp only [ri]
           refine Wk.freeze [([mm+12+3+3],⟨(out.take k++[n]).map .str,1,false⟩)] (by simp [aa.put]) ?_ (fun j => ?_) (by omega)
           . have hv:=s7 (σ := aa.of [([mm+12+3+3],⟨(out.take k++[n]).map AV.str,1,false⟩)]) (id:=[mm+12+3+3]) (a:=out.take k++[n]) (t:=[]) (b:=false) (tt:=false) (by rw [List.append_nil];simp [aa.of])
             rw [List.length_append,List.length_singleton] at hv
             simp [NP]
             right;right
             simpa using hv
           . by_cases h1:j=[0]
             . subst h1;right;simp [aa.put,rC,aa.app]<;>omega
             . left;simp [aa.put,h1]
   . have GK:xj out n=out:=by unfold xj;rw [Sk];simp
     rw [GK] at ri
     simp only [SS,Nat.reduceAdd,aq i (by omega)]
     refine ⟨(i+1,nn+1000),by simp only [];omega,by simp only [];omega, ?_⟩
     simp only [ri]
     exact Wk.slots (by simp [Fg]) (by omega)
 . have dd:decide ((i:Int)<(X.inputs.length:Int))=false:=ak (by omega)
   have jc:i=names.length:=by omega
   have J7:names.take i=names:=by rw [jc,List.take_length]
   rw [<- J7,CR]
   simp only [SS,Nat.reduceAdd,ae,bL.p2,FX.ic,dB,dd]
   exact ag▸ab rfl (gX _)
end
end Go.VL
end

section
namespace Go.VL
open Go.Sort Go.Lib
theorem yg (a:List UInt8) : ¬ a<a:=List.lt_irrefl a
theorem A2 {a b c:List UInt8} (h:a<b) (k:b<c):a<c:=List.lt_trans h k
theorem K2 {a b:List UInt8} (h : ¬ a<b) (hn:a≠b):b<a :=
 Decidable.byContradiction fun k=>hn (List.le_antisymm (show a<=b from k) (show b<=a from h))
def Pf (l:List (List UInt8)):Prop:=l.Pairwise (· < ·)
theorem Sl:∀ {l m:List (List UInt8)},Pf l->Pf m->(∀ x,x∈l↔x∈m)->l=m
 | [],[],_,_,_=>rfl
 | [],b::m,_,_,h=>by have:=(h b).2 (by simp);simp at this
 | a::l,[],_,_,h=>by have:=(h a).1 (by simp);simp at this
 | a :: l,b::m,hl,hm,h=>by
   unfold Pf at hl hm
   rw [List.pairwise_cons] at hl hm
   have MP:a=b:=by
     have h1:=(h a).1 (by simp)
     have h2:=(h b).2 (by simp)
     rcases List.mem_cons.1 h1 with e | h1
     . exact e
     . rcases List.mem_cons.1 h2 with e | h2
       . exact e.symm
       . exact absurd (A2 (hm.1 a h1) (hl.1 b h2)) (yg b)
   subst MP
   refine congrArg (a :: ·) (Sl hl.2 hm.2 fun x => ?_)
   constructor
   . intro hx
     rcases List.mem_cons.1 ((h x).1 (by simp [hx])) with e | q
     . subst e;exact absurd (hl.1 x hx) (yg x)
     . exact q
   . intro hx
     rcases List.mem_cons.1 ((h x).2 (by simp [hx])) with e | q
     . subst e;exact absurd (hm.1 x hx) (yg x)
     . exact q
theorem Sm (out:List (List UInt8)) (n x:List UInt8):x∈xj out n↔x∈out∨x=n:=by
 unfold xj
 split
 . rename_i h
   have hn:n∈out:=by simpa using h
   constructor
   . exact .inl
   . rintro (q | rfl);exact q;exact hn
 . have e:=List.take_append_drop (D7 n out) out
   constructor
   . intro q
     rw [List.append_assoc,List.mem_append,List.mem_append,List.mem_singleton] at q
     rcases q with q | q | q
     . exact .inl (List.mem_of_mem_take q)
     . exact .inr q
     . exact .inl (List.mem_of_mem_drop q)
   . rintro (q | rfl)
     . rw [<- e,List.mem_append] at q
       rw [List.append_assoc,List.mem_append,List.mem_append]
       rcases q with q | q
       . exact .inl q
       . exact .inr (.inr q)
     . simp
theorem U6 {out:List (List UInt8)} (n:List UInt8) (h:Pf out):Pf (xj out n):=by
 unfold xj
 split
 . exact h
 . rename_i hc
   have hn:n ∉ out:=by simpa using hc
   have e:=List.take_append_drop (D7 n out) out
   unfold Pf at h ⊢
   rw [<- e,List.pairwise_append] at h
   have uV:∀ x∈out.take (D7 n out),x<n:=by
     intro x hx
     obtain ⟨k,hk,hkx⟩:=List.mem_iff_getElem.1 hx
     rw [List.length_take] at hk
     obtain ⟨y,hy,hyn⟩:=K0 n out k (by omega)
     rw [List.getElem_take] at hkx
     rw [List.getElem?_eq_getElem (by omega),Option.some.injEq,hkx] at hy
     subst hy
     rw [Go.Proofs.bytesLess_eq] at hyn
     simpa using hyn
   have Ah:∀ x∈out.drop (D7 n out),n<x:=by
     intro x hx
     cases hd:out.drop (D7 n out) with
     | nil=>rw [hd] at hx;simp at hx
     | cons y t =>
       have hy:out[D7 n out]? = some y:=by
         have:=congrArg (·[0]?) hd
         simpa using this
       have hny:=DL n out y hy
       rw [Go.Proofs.bytesLess_eq] at hny
       have hyn:n<y:=K2 (by simpa using hny) (fun e=>hn (by rw [<- e];exact List.mem_of_getElem? hy))
       rw [hd] at hx
       rcases List.mem_cons.1 hx with rfl | hx
       . exact hyn
       . rw [hd] at h
         exact A2 hyn ((List.pairwise_cons.1 h.2.1).1 x hx)
   rw [List.append_assoc,List.pairwise_append]
   refine ⟨h.1, ?_, ?_⟩
   . rw [List.singleton_append,List.pairwise_cons]
     exact ⟨Ah,h.2.1⟩
   . intro a ha b hb
     rw [List.singleton_append] at hb
     rcases List.mem_cons.1 hb with rfl | hb
     . exact uV a ha
     . exact h.2.2 a ha b hb
theorem Jl:∀ (ns out:List (List UInt8)),Pf out->Pf (ns.foldl xj out)/\∀ x,x∈ns.foldl xj out↔x∈out∨x∈ns
 | [],out,h=>⟨h,by simp⟩
 | n::ns,out,h=>by
   obtain ⟨h1,h2⟩:=Jl ns (xj out n) (U6 n h)
   refine ⟨h1,fun x => ?_⟩
   rw [List.foldl_cons,h2,Sm]
   simp [or_assoc]
theorem Sn (ns:List (List UInt8)):Pf (xk ns)/\∀ x,x∈xk ns↔x∈ns:=by
 obtain ⟨h1,h2⟩:=Jl ns [] List.Pairwise.nil
 exact ⟨h1,fun x=>by rw [xk,h2];simp⟩
theorem K3 (l:List (List UInt8)) (h:l.Pairwise fun a b => ¬ b<a):∀ m,m<=l.length->Pf (compactUpTo l.toArray m)/\(∀ x,x∈compactUpTo l.toArray m↔x∈l.take m):=by
 intro m
 induction m with
 | zero=>intro _;exact ⟨by simp [compactUpTo,Pf],by simp [compactUpTo]⟩
 | succ m ih =>
   intro hm
   obtain ⟨h1,h2⟩:=ih (by omega)
   have hlt:m<l.length:=by omega
   have hg:l.toArray[m]! = l[m]:=by rw [getElem!_pos l.toArray m (by simpa using hlt)];rfl
   have JX:l.take (m+1)=l.take m++[l[m]]:=by rw [List.take_add_one,List.getElem?_eq_getElem hlt];rfl
   rw [compactUpTo_succ,hg,JX]
   cases hk:keeps l.toArray m
   . simp only [Bool.false_eq_true,if_false,List.append_nil]
     refine ⟨h1,fun x => ?_⟩
     have TB:m≠0/\l.toArray[m]! = l.toArray[m-1]! := by
       unfold keeps at hk
       simp only [decide_eq_false_iff_not,not_or,Decidable.not_not] at hk
       exact hk
     have Y0:l.toArray[m-1]! = l[m-1]:=by rw [getElem!_pos l.toArray (m-1) (by simp;omega)];rfl
     rw [hg,Y0] at TB
     rw [h2,List.mem_append,List.mem_singleton]
     constructor
     . exact .inl
     . rintro (q | rfl)
       . exact q
       . rw [TB.2]
         exact List.mem_iff_getElem.2 ⟨m-1,by rw [List.length_take];omega,by rw [List.getElem_take]⟩
   . simp only [if_true]
     refine ⟨?_,fun x=>by rw [List.mem_append,List.mem_append,h2]⟩
     unfold Pf at h1 ⊢
     rw [List.pairwise_append]
     refine ⟨h1,by simp,fun a ha b hb => ?_⟩
     rw [List.mem_singleton] at hb
     subst hb
     have hat:=(h2 a).1 ha
     obtain ⟨j,hj,rfl⟩:=List.mem_iff_getElem.1 hat
     rw [List.length_take] at hj
     rw [List.getElem_take]
     have TB:m≠0:=by omega
     have Y0:l.toArray[m-1]! = l[m-1]:=by rw [getElem!_pos l.toArray (m-1) (by simp;omega)];rfl
     have hne:l[m]≠l[m-1]:=by
       unfold keeps at hk
       simp only [decide_eq_true_eq] at hk
       rcases hk with q | q
       . exact absurd q TB
       . rwa [hg,Y0] at q
     have hpw:=List.pairwise_iff_getElem.1 h
     have Bw:l[m-1]<l[m]:=K2 (hpw (m-1) m (by omega) hlt (by omega)) hne
     by_cases Xi:j=m-1
     . subst Xi;exact Bw
     . have h3:=hpw j (m-1) (by omega) (by omega) (by omega)
       rcases Decidable.em (l[j]=l[m-1]) with e | e
       . rw [e];exact Bw
       . exact A2 (K2 h3 (Ne.symm e)) Bw
theorem OO (ns:List (List UInt8)):Lib.compact (ns.mergeSort fun x y=>decide (x<=y))=xk ns:=by
 have hp:(ns.mergeSort fun x y=>decide (x<=y)).Pairwise fun a b => ¬ b<a:=by
   refine (List.pairwise_mergeSort (le:=fun x y:List UInt8=>decide (x<=y)) (fun a b c h k => ?_) (fun a b => ?_) ns).imp ?_
   . simp only [decide_eq_true_eq] at h k ⊢;exact List.le_trans h k
   . rcases List.le_total a b with q | q<;>simp [q]
   . intro a b h
     simp only [decide_eq_true_eq] at h
     exact h
 obtain ⟨h1,h2⟩:=K3 _ hp _ (Nat.le_refl _)
 obtain ⟨h3,h4⟩:=Sn ns
 refine Sl h1 h3 fun x => ?_
 have Vx:=h2 x
 rw [List.take_length,List.mem_mergeSort] at Vx
 exact Vx.trans (h4 x).symm
end Go.VL
end

section
set_option maxRecDepth 100000
namespace Go.Proofs.YtcomlgfjnjpebaaGreatDoor
open Go.VL Go.Proofs Go.RowKit
def gN (m:Int):Nat->Option (List AV)
 | 0=>some bW
 | 1=>some [.int .i64 m]
 | 2=>some GD
 | _=>none
theorem VP.up {P:Program} {G:Nat->Option (List AV)} {f:FuncId} {args:List AV} {r:AV} (h:VP P (fun _=>none) f args r):VP P G f args r :=
 ⟨h.1,fun w vs ok hi hr=>h.2 w vs ok ⟨hi.okb,hi.blk,hi.inj,fun _ _ h=>by simp at h,hi.new⟩ hr⟩
section
variable (m:Int)
theorem Jm (c:UInt8):VP Tryz.prog (gN m) 73 [hZ c] (.bool (dx c)):=Bt xU c
theorem Sp (c:UInt8):VP Tryz.prog (gN m) 103 [hZ c] (.bool (mh c)):=Da y7 c
theorem Ym (c:UInt8):VP Tryz.prog (gN m) 75 [hZ c] (.bool (dm c)):=NR AD (Jm m) (Sp m) c
theorem Yn (s:List UInt8) (hs:s.length<9223372036854775807):VP Tryz.prog (gN m) 74 [.str s, .fn (.func 75) [] []] (.int .i64 (fH dm s)):=Uc C7 (Ym m) s hs
theorem K4 (s:List UInt8):VP Tryz.prog (gN m) 50 [.str s] (.bool (bd s)):=NS AE (Jm m) (Yn m) s
theorem aey:Has Tryz.prog 117 jk:=qQ
theorem aez:Has Tryz.prog 118 mq:=r5
theorem OP (c:UInt8):VP Tryz.prog (gN m) 117 [hZ c] (.bool (dx c)):=Bt aey c
theorem Sq (c:UInt8):VP Tryz.prog (gN m) 118 [hZ c] (.bool (mh c)):=Da aez c
theorem Yo (s:List UInt8) (hs:s.length<9223372036854775807):VP Tryz.prog (gN m) 92 [.str s, .int .i64 0] (.int .i64 ((s5 s:Nat):Int)):=U3 sT (OP m) (Sq m) s hs
theorem K5 (s:List UInt8):VP Tryz.prog (gN m) 60 [.str s] (.bool (bd s)):=KX qP (Yo m) s
theorem wl {ws:List Nat} (hw:Wd ws) (h:ws.length<=8):ah (val ws)<=8:=Nat.le_trans (sX hw) h
theorem ow (b:Bool) (n:Nat):(jD b n).natAbs=n:=by cases b<;>simp [jD]
theorem abo (n1:Bool) (w1:List Nat) (n2:Bool) (w2:List Nat) (uK:Wd w1) (wR:Wd w2) (mU:w1.length<=8) (uI:w2.length<=8):VP Tryz.prog (gN m) 123 [RR n1 w1 n2 w2] (.bool (MV n1 w1 n2 w2)):=by
 have a1:=wl uK mU
 have a2:=wl wR uI
 have:=Ft xZ n1 w1 n2 w2 uK wR (g:=(Nat.gcd (val w1) (val w2):Nat)) (Wp (gN m) n1 w1 (by omega)) (Wp (gN m) n2 w2 (by omega)) (Yc (gN m) _ (by rw [ow];omega))
   (fun _=>by have:=aaU (gN m) (jD n1 (val w1)) (jD n2 (val w2)) (by rw [ow];omega) (by rw [ow];omega);rwa [ow,ow] at this) (i138 (gN m) _)
 exact this
theorem abp (n1:Bool) (w1:List Nat) (n2:Bool) (w2:List Nat) (uK:Wd w1) (wR:Wd w2) (mU:w1.length<=8) (uI:w2.length<=8):VP Tryz.prog (gN m) 157 [RR n1 w1 n2 w2] (.bool (MV n1 w1 n2 w2)):=by
 have a1:=wl uK mU
 have a2:=wl wR uI
 have:=Ft aej n1 w1 n2 w2 uK wR (g:=(Nat.gcd (val w1) (val w2):Nat)) (Wt (gN m) n1 w1 uK (by omega)) (Wt (gN m) n2 w2 wR (by omega)) (Ye (gN m) _ (by rw [ow];omega))
   (fun _=>by have:=Yg (gN m) (jD n1 (val w1)) (jD n2 (val w2)) (by rw [ow];omega) (by rw [ow];omega);rwa [ow,ow] at this) (Wu (gN m) _)
 exact this
theorem w1:ah 1<=1:=sW
theorem Yp (n1:Bool) (w1:List Nat) (n2:Bool) (w2:List Nat) (uK:Wd w1) (wR:Wd w2) (mU:w1.length<=8) (uI:w2.length<=8):∃ s,VP Tryz.prog (gN m) 104 [RR n1 w1 n2 w2] (.tup [.str s, .bool (oP n1 w1 n2 w2)]):=by
 obtain ⟨s,e⟩:=DA 40 n1 w1 n2 w2 (fun _ _=>rfl)
 refine ⟨s, ?_⟩
 rw [<- e]
 refine KQ pC n1 w1 n2 w2 uK wR mU uI (abo m n1 w1 n2 w2 uK wR mU uI) (fun a b ha=>Wq (gN m) a b (by omega)) (fun a b hb hg ha Ci hv => ?_)
 exact KO pC a b hb hg ha Ci hv (Wq (gN m) _ _ (by rw [Int.natAbs_natCast];omega)) (Yd (gN m) 10 (by decide) (by decide)) (Ru (gN m) 1 (by decide) (by decide))
   (fun y hy=>ad9 (gN m) _ _ (by rw [Int.natAbs_natCast];omega) (by show ah 1<=_;have:=sW;omega)) (fun a b hb _ ha Ci=>aeb (gN m) a b hb ha Ci)
   (fun n hn=>Tryz.Oq (gN m) rfl (t145 (gN m)) sK fy n (by omega)) (fun z hz=>Tryz.Ot (gN m) z hz)
theorem Yq (n1:Bool) (w1:List Nat) (n2:Bool) (w2:List Nat) (uK:Wd w1) (wR:Wd w2) (mU:w1.length<=8) (uI:w2.length<=8):∃ s,VP Tryz.prog (gN m) 134 [RR n1 w1 n2 w2] (.tup [.str s, .bool (oP n1 w1 n2 w2)]):=by
 obtain ⟨s,e⟩:=DA 41 n1 w1 n2 w2 Ou
 refine ⟨s, ?_⟩
 rw [<- e]
 refine I9 lB n1 w1 n2 w2 uK wR mU uI (abp m n1 w1 n2 w2 uK wR mU uI) (fun a b ha=>Wv (gN m) a b (by omega)) (fun a b hb hg ha Ci hv => ?_)
 exact I7 lB a b hb hg ha Ci hv (Wv (gN m) _ _ (by rw [Int.natAbs_natCast];omega)) (Rx (gN m) 10 (by decide) (by decide)) (Rw (gN m) 1 (by decide) (by decide))
   (fun y hy=>aa7 (gN m) _ _ (by rw [Int.natAbs_natCast];omega) (by show ah 1<=_;have:=sW;omega)) (fun a b hb qF hg ha Ci=>aek (gN m) a b hb qF hg ha Ci)
   (fun n hn=>f162 (gN m) n (by omega))
theorem Sr (e:EX) (ho:e.Ok) (hl:e.nA=true) (hn:e.nodes<=1000):VP Tryz.prog (gN m) 78 [e.av] (.bool e.formed) :=
 OA x3 rfl wa eT fO (Yp m) (K4 m) (fun n1 w1 n2 w2=>UQ AM n1 w1 n2 w2) e ho hl hn
theorem Ss (e:EX) (ho:e.Ok) (hs:n9 e=true):VP Tryz.prog (gN m) 56 [e.av] (.int .i64 (if e.formed=true then (if 40<e.depth then 3 else 0) else 1)):=by
 unfold n9 at hs
 simp only [Bool.and_eq_true,decide_eq_true_eq] at hs
 exact OC zh e (Sr m e ho hs.2 (by omega)) (OB zg e (by omega))
theorem St (e:EX) (ho:e.Ok) (hl:e.nA=true):VP Tryz.prog (gN m) 93 [e.av] (.bool e.formed) :=
 KV qO (fun op n1 w1 n2 w2 nm args ho hl=>by
   have hh:=EX.uz hl
   have Iu:=ho
   rw [EX.Ok] at Iu
   exact R8 rU op n1 w1 n2 w2 nm args (Yq m n1 w1 n2 w2 Iu.2.2.1 Iu.2.2.2.1 hh.2.1 hh.2.2.1) (K5 m nm)) e ho hl
theorem Su (e:EX) (ho:e.Ok) (hs:n9 e=true):VP Tryz.prog (gN m) 61 [e.av] (.int .i64 (if e.formed=true then (if 40<e.depth then 3 else 0) else 1)):=by
 unfold n9 at hs
 simp only [Bool.and_eq_true,decide_eq_true_eq] at hs
 exact Jc rW e (St m e ho hs.2) (OD rV e (by omega))
theorem U7 (e:EX) (ho:e.Ok):VP Tryz.prog (gN m) 28 [e.av] (.bool (n9 e)) :=
 KW rZ e (Sa rX e ho 120 (by decide)) (R9 rY e ho)
theorem Wz (s:List UInt8) (hs:s.length<=300):VP Tryz.prog (gN m) 30 [.str s, .str [47]] (.tup [.str (Lib.cut s [47]).1, .str (Lib.cut s [47]).2.1, .bool (Lib.cut s [47]).2.2]):=Tryz.Yh (gN m) (m:=m) rfl s (by omega)
theorem U8 (s:List UInt8) (hs:s.length<=300):VP Tryz.prog (gN m) 53 [.str s] (.bool (eN s).isSome):=Ev ug s (by omega) (Wz m s hs) (K4 m)
theorem FE (s:List UInt8) (hs:s.length<=300):VP Tryz.prog (gN m) 34 [.str s] (.str ((eN s).getD [])):=KZ qk s (by omega) (K5 m)
theorem qw {X:FX} (h:X.small=true):X.inputs.length<=60/\X.vals.length<=12/\(∀ s∈X.inputs,s.length<=300)/\(∀ e∈X.vals,n9 e=true):=by
 unfold FX.small at h
 simp only [Bool.and_eq_true,List.all_eq_true,decide_eq_true_eq] at h
 exact ⟨h.1.1.1.1,h.1.1.1.2,h.1.2,h.2⟩
theorem U9 (X:FX) (hX:X.Ok):VP Tryz.prog (gN m) 10 [X.av] (.bool X.small):=Jg r8 X hX (fun e he=>U7 m e (hX.vals e he))
theorem M3 (X:FX) (hX:X.Ok) (hs:X.small=true):VP Tryz.prog (gN m) 29 [X.av] (.bool X.valid):=by
 obtain ⟨q1,q2,h2,h3⟩:=qw hs
 exact OK y8 (K4 m) ly me eT fO X hX (by omega) (by omega)
   (fun s hm=>OH xe s (U8 m s (h2 s hm))) (fun e he=>OI xf e (Ss m e (hX.vals e he) (h3 e he)))
theorem Cl (X:FX) (hX:X.Ok) (hs:X.small=true):VP Tryz.prog (gN m) 33 [X.av] (.bool X.valid):=by
 obtain ⟨q1,q2,h2,h3⟩:=qw hs
 exact Jf r6 X hX (K5 m _) (fun e he=>Su m e (hX.vals e he) (h3 e he)) (fun s hm=>FE m s (h2 s hm))
theorem K6 {s:List UInt8} (h:(eN s).isSome=true):(eN s).getD []=(Lib.cut s [47]).1:=by
 rw [FC]
 unfold eN at h ⊢
 cases hs:kr s with
 | none=>rw [hs] at h;cases h
 | some k =>
   rw [hs] at h
   simp only [] at h ⊢
   split
   . rfl
   . rename_i hh;rw [if_neg hh] at h;cases h
theorem Sv {X:FX} (h:X.valid=true):(X.inputs.map fun s=>(Lib.cut s [47]).1)=X.inputs.map fun s=>(eN s).getD []:=by
 refine List.map_congr_left fun s hs => ?_
 unfold FX.valid at h
 simp only [Bool.and_eq_true,List.all_eq_true] at h
 exact (K6 (h.1.2 s hs)).symm
def FX.needs (X:FX):List (List UInt8):=if X.valid=true then xk (X.inputs.map fun s=>(eN s).getD []) else []
theorem Sw:VP Tryz.prog (gN m) 31 [.nils] (.tup []):=by
 refine VP.wN (r:={ val := .tup [] }) (aB.vJ Tryz.func31 (by kernel_rfl) (by kernel_rfl) ?_) (fun _ _ _ _ _=>by simp [aL,aM])
 intro own E w σ vs _ hi hr
 simp only [aM,aL] at hr
 obtain ⟨v,_,rfl,rfl,rfl⟩:=hr
 refine (Tryz.slices_Sort_string_none none 0 w).mono ?_
 rintro e W' ⟨rfl,rfl⟩
 exact ⟨_,rfl,Below.refl _ _,fun E w=>by simp [aL,aM]⟩
theorem Jn:VP Tryz.prog (gN m) 32 [.nils] .nils:=by
 refine VP.wN (r:={ val := .nils }) (aB.vJ Tryz.func32 (by kernel_rfl) (by kernel_rfl) ?_) (fun _ _ _ _ _=>by simp [aL])
 intro own E w σ vs _ hi hr
 simp only [aM,aL] at hr
 obtain ⟨v,_,rfl,rfl,rfl⟩:=hr
 refine (Tryz.slices_Compact_string_empty none 0 w).mono ?_
 rintro e W' ⟨rfl,rfl⟩
 exact ⟨_,rfl,Below.refl _ _,fun E w=>by simp [aL]⟩
theorem Va (X:FX) (hX:X.Ok) (hs:X.small=true):VP Tryz.prog (gN m) 11 [X.av] (strs (FX.needs X)):=by
 obtain ⟨h1,_,h2,h3⟩:=qw hs
 have:=Sg za X hX (fun _=>by omega) (M3 m X hX hs) (fun s hm=>Wz m s (h2 s hm)) (Sw m) (Jn m) Dz Lib.compact FB BC (by simp [Dz];rfl)
   (fun l id p hl hid=>Tryz.Rz (gN m) l hl hid) (fun l id p hl hid=>Tryz.I8 (gN m) l hl hid)
 have e:(if X.valid=true then Lib.compact (Dz (X.inputs.map fun s=>(Lib.cut s [47]).1)) else [])=FX.needs X:=by
   unfold FX.needs
   split
   . rename_i hv
     rw [Sv hv];exact OO _
   . rfl
 rwa [e] at this
theorem Vb (X:FX) (hX:X.Ok) (hs:X.small=true):VP Tryz.prog (gN m) 12 [X.av] (strs (FX.needs X)):=by
 obtain ⟨h1,_,h2,h3⟩:=qw hs
 exact OM r7 X hX (fun _=>by omega) (Cl m X hX hs) (fun s hm=>FE m s (h2 s hm)) (fun l s hl=>Sf nx l hl s)
theorem FF {X:FX} (hs:X.small=true):(FX.needs X).length<=1000:=by
 obtain ⟨h1,_,_,_⟩:=qw hs
 unfold FX.needs
 split
 . have:=Ji (X.inputs.map fun s=>(eN s).getD []) X.inputs.length
   rw [List.take_of_length_le (by rw [List.length_map];exact Nat.le_refl _)] at this
   omega
 . simp
end
end Go.Proofs.YtcomlgfjnjpebaaGreatDoor
end

section
set_option maxRecDepth 100000
namespace Go.Proofs.YtcomlgfjnjpebaaGreatDoor
open Go.VL Go.Proofs
theorem wA:Has Tryz.prog 120 (jW 135):=⟨_,Tryz.func120,by kernel_rfl⟩
theorem zD:Has Tryz.prog 98 (o9 120 97 98):=⟨_,Tryz.func98,by kernel_rfl⟩
theorem sj:Has Tryz.prog 69 (jX 99 69):=⟨_,Tryz.func69,by kernel_rfl⟩
theorem nJ:Has Tryz.prog 135 (dY):=⟨_,Tryz.func135,by kernel_rfl⟩
theorem nK:Has Tryz.prog 96 (dZ):=⟨_,Tryz.func96,by kernel_rfl⟩
theorem cU:Has Tryz.prog 97 (aP):=⟨_,Tryz.func97,by kernel_rfl⟩
theorem A3:Has Tryz.prog 68 (pW 96 97 98):=⟨_,Tryz.func68,by kernel_rfl⟩
theorem vu:Has Tryz.prog 66 (lY 95 65 66):=⟨_,Tryz.func66,by kernel_rfl⟩
theorem oa:Has Tryz.prog 42 (eB 69):=⟨_,Tryz.func42,by kernel_rfl⟩
theorem s9:Has Tryz.prog 19 (im 42):=⟨_,Tryz.func19,by kernel_rfl⟩
theorem ta:Has Tryz.prog 23 (kD 33 35 12):=⟨_,Tryz.func23,by kernel_rfl⟩
theorem pI:Has Tryz.prog 100 (iv):=⟨_,Tryz.func100,by kernel_rfl⟩
theorem uB:Has Tryz.prog 101 (k8):=⟨_,Tryz.func101,by kernel_rfl⟩
theorem dM:Has Tryz.prog 70 (bA 33 100 23 101):=⟨_,Tryz.func70,by kernel_rfl⟩
theorem vv:Has Tryz.prog 43 (lZ 20 70 19):=⟨_,Tryz.func43,by kernel_rfl⟩
theorem uC:Has Tryz.prog 21 (fX):=⟨_,Tryz.func21,by kernel_rfl⟩
theorem nC:Has Tryz.prog 20 (iF):=⟨_,Tryz.func20,by kernel_rfl⟩
theorem sk:Has Tryz.prog 24 (eS):=⟨_,Tryz.func24,by kernel_rfl⟩
theorem sn:Has Tryz.prog 25 (gE):=⟨_,Tryz.func25,by kernel_rfl⟩
theorem sq:Has Tryz.prog 44 (jZ 29 36 38 37 39 40 41):=⟨_,Tryz.func44,by kernel_rfl⟩
theorem pw:Has Tryz.prog 45 (hJ 36 38 37 41):=⟨_,Tryz.func45,by kernel_rfl⟩
theorem sr:Has Tryz.prog 26 (gG 36 38 37 47 46 40 41):=⟨_,Tryz.func26,by kernel_rfl⟩
theorem qx:Has Tryz.prog 27 (fT 36 38 37 47 40 41):=⟨_,Tryz.func27,by kernel_rfl⟩
theorem ke:Has Tryz.prog 46 (bQ 72):=⟨_,Tryz.func46,by kernel_rfl⟩
theorem eZ:Has Tryz.prog 47 (bx):=⟨_,Tryz.func47,by kernel_rfl⟩
theorem su:Has Tryz.prog 17 (j0 10):=⟨_,Tryz.func17,by kernel_rfl⟩
theorem tc:Has Tryz.prog 18 (ir 13 21 22):=⟨_,Tryz.func18,by kernel_rfl⟩
theorem qy:Has Tryz.prog 22 (ey 43 14 44 45 26 27 24 25):=⟨_,Tryz.func22,by kernel_rfl⟩
theorem mS:Has Tryz.prog 7 (fk 9 17 18 16 19 24 25):=⟨_,Tryz.func7,by kernel_rfl⟩
end Go.Proofs.YtcomlgfjnjpebaaGreatDoor
end

section
set_option linter.unusedVariables false
set_option linter.unusedVariables false
namespace Go.VL
noncomputable def gY {α : Type} (x y : α):Bool := @decide (x=y) (Classical.propDecidable _)
theorem bT {α : Type} {x y : α} (h:x=y):gY x y=true := @decide_eq_true _ (Classical.propDecidable _) h
theorem bj {α : Type} {x y : α} (h:x≠y):gY x y=false := @decide_eq_false _ (Classical.propDecidable _) h
theorem DM (x y:List UInt8):(!(x==y)) = !gY x y:=by
 by_cases h:x=y
 . rw [bT h];simp [h]
 . rw [bj h];simp [h]
theorem wB (x y:Nat):decide ((x:Int)≠(y:Int)) = !gY x y:=by
 by_cases h:x=y
 . rw [bT h];exact ak (by omega)
 . rw [bj h];exact ao (by omega)
theorem Sx (x y:Int):decide (x≠y) = !gY x y:=by
 by_cases h:x=y
 . rw [bT h];exact ak (by omega)
 . rw [bj h];exact ao h
theorem eq_int (x y:Int):decide (x=y)=gY x y:=by
 by_cases h:x=y
 . rw [bT h];exact ao h
 . rw [bj h];exact ak h
theorem Sy (x y:List UInt8):(x==y)=gY x y:=by
 by_cases h:x=y
 . rw [bT h];simp [h]
 . rw [bj h];simp [h]
section
variable {P:Program} {G:Nat->Option (List AV)}
theorem od {f:FuncId} (h:Has P f dZ) (l m:List (List UInt8)) (hl:l.length<=9223372036854775807) (hm:m.length<=9223372036854775807):VP P G f [.sl 1 (l.map AV.str), .sl 1 (m.map AV.str)] (.bool (gY l m)):=by
 by_cases hlen:l.length=m.length
 case neg =>
   have d0:decide ((l.length:Int)≠(m.length:Int))=true:=ao (by omega)
   rw [bj (fun e=>hlen (by rw [e]))]
   refine VP.has h ?_
   simp only [dZ,SS,Nat.reduceAdd,List.length_map,d0]
   exact ag▸ab rfl (af.bool _)
 have d0:decide ((l.length:Int)≠(m.length:Int))=false:=ak (by omega)
 refine VP.has h ?_
 simp only [dZ,SS,Nat.reduceAdd,List.length_map,d0,aC]
 refine VW.bJ (α := Nat × Nat) (fun x=>⟨[.sl 1 (l.map AV.str), .sl 1 (m.map AV.str), .top, .top, .top, .top, .top, .top, .top, .top, .top, .top, .int .i64 (l.length:Int), .int .i64 (x.1:Int)]++List.replicate 12 .top,fun _=>none,x.2⟩)
   (fun x=>x.1<=l.length/\l.take x.1=m.take x.1) (fun x=>l.length-x.1) (0,1000) ?_ ⟨Nat.zero_le _,by simp⟩ ?_
 . exact Wk.slots (by simp [Fg,List.replicate]) (by omega)
 rintro ⟨i,nn⟩ ⟨hi,cz⟩
 simp only [] at hi cz
 by_cases hlt:i<l.length
 . obtain ⟨x,hx⟩:∃ x,l[i]? = some x:=⟨_,List.getElem?_eq_getElem hlt⟩
   obtain ⟨y,hy⟩:∃ y,m[i]? = some y:=⟨_,List.getElem?_eq_getElem (by omega)⟩
   have dd:decide ((i:Int)<(l.length:Int))=true:=ao (by omega)
   have hgx:(l.map AV.str)[i]? = some (AV.str x):=by rw [List.getElem?_map,hx];rfl
   have Ew:(m.map AV.str)[i]? = some (AV.str y):=by rw [List.getElem?_map,hy];rfl
   have K7:part false (AV.str x).cells 0 1=some (AV.str x):=rfl
   have hpy:part false (AV.str y).cells 0 1=some (AV.str y):=rfl
   have mR:br 1 (.sl 1 (l.map AV.str)) (.int .i64 (i:Int))=some (.ep (AV.str x).cells 0):=aQ rfl hgx
   have td:br 1 (.sl 1 (m.map AV.str)) (.int .i64 (i:Int))=some (.ep (AV.str y).cells 0):=aQ rfl Ew
   by_cases pO:x=y
   . have hne:(!(x==y))=false:=by rw [DM,bT pO];rfl
     simp only [SS,DD,Nat.reduceAdd,List.replicate,dd,mR,td,az,K7,hpy,hne,aq i (by omega)]
     refine ⟨by simp [ar,apart],(i+1,nn+1000),⟨by simp only [];omega, ?_⟩,by simp only [];omega,Wk.slots (by simp [Fg]) (by omega)⟩
     simp only []
     rw [List.take_add_one,List.take_add_one,hx,hy,cz,pO]
   . have hne:(!(x==y))=true:=by rw [DM,bj pO];rfl
     rw [bj (fun e=>pO (by rw [e,hy] at hx;exact (Option.some.inj hx).symm))]
     simp only [SS,DD,Nat.reduceAdd,List.replicate,dd,mR,td,az,K7,hpy,hne]
     refine ⟨by simp [ar,apart], ?_⟩
     exact ag▸ab rfl (af.bool _)
 . have dd:decide ((i:Int)<(l.length:Int))=false:=ak (by omega)
   have jc:i=l.length:=by omega
   have EH:i=m.length:=by omega
   rw [bT (by rw [jc,List.take_length] at cz;rw [cz,hlen,List.take_length])]
   simp only [SS,List.replicate,dd]
   exact ag▸ab rfl (af.bool _)
theorem oe {f:FuncId} (h:Has P f dY) (l m:List (Nat)) (hl:l.length<=9223372036854775807) (hm:m.length<=9223372036854775807):VP P G f [.sl 1 (l.map (fun n:Nat=>AV.int .u32 (n:Int))), .sl 1 (m.map (fun n:Nat=>AV.int .u32 (n:Int)))] (.bool (gY l m)):=by
 by_cases hlen:l.length=m.length
 case neg =>
   have d0:decide ((l.length:Int)≠(m.length:Int))=true:=ao (by omega)
   rw [bj (fun e=>hlen (by rw [e]))]
   refine VP.has h ?_
   simp only [dY,SS,Nat.reduceAdd,List.length_map,d0]
   exact ag▸ab rfl (af.bool _)
 have d0:decide ((l.length:Int)≠(m.length:Int))=false:=ak (by omega)
 refine VP.has h ?_
 simp only [dY,SS,Nat.reduceAdd,List.length_map,d0,aC]
 refine VW.bJ (α := Nat × Nat) (fun x=>⟨[.sl 1 (l.map (fun n:Nat=>AV.int .u32 (n:Int))), .sl 1 (m.map (fun n:Nat=>AV.int .u32 (n:Int))), .top, .top, .top, .top, .top, .top, .top, .top, .top, .top, .int .i64 (l.length:Int), .int .i64 (x.1:Int)]++List.replicate 12 .top,fun _=>none,x.2⟩)
   (fun x=>x.1<=l.length/\l.take x.1=m.take x.1) (fun x=>l.length-x.1) (0,1000) ?_ ⟨Nat.zero_le _,by simp⟩ ?_
 . exact Wk.slots (by simp [Fg,List.replicate]) (by omega)
 rintro ⟨i,nn⟩ ⟨hi,cz⟩
 simp only [] at hi cz
 by_cases hlt:i<l.length
 . obtain ⟨x,hx⟩:∃ x,l[i]? = some x:=⟨_,List.getElem?_eq_getElem hlt⟩
   obtain ⟨y,hy⟩:∃ y,m[i]? = some y:=⟨_,List.getElem?_eq_getElem (by omega)⟩
   have dd:decide ((i:Int)<(l.length:Int))=true:=ao (by omega)
   have hgx:(l.map (fun n:Nat=>AV.int .u32 (n:Int)))[i]? = some ((fun n:Nat=>AV.int .u32 (n:Int)) x):=by rw [List.getElem?_map,hx];rfl
   have Ew:(m.map (fun n:Nat=>AV.int .u32 (n:Int)))[i]? = some ((fun n:Nat=>AV.int .u32 (n:Int)) y):=by rw [List.getElem?_map,hy];rfl
   have K7:part false ((fun n:Nat=>AV.int .u32 (n:Int)) x).cells 0 1=some ((fun n:Nat=>AV.int .u32 (n:Int)) x):=rfl
   have hpy:part false ((fun n:Nat=>AV.int .u32 (n:Int)) y).cells 0 1=some ((fun n:Nat=>AV.int .u32 (n:Int)) y):=rfl
   have mR:br 1 (.sl 1 (l.map (fun n:Nat=>AV.int .u32 (n:Int)))) (.int .i64 (i:Int))=some (.ep ((fun n:Nat=>AV.int .u32 (n:Int)) x).cells 0):=aQ rfl hgx
   have td:br 1 (.sl 1 (m.map (fun n:Nat=>AV.int .u32 (n:Int)))) (.int .i64 (i:Int))=some (.ep ((fun n:Nat=>AV.int .u32 (n:Int)) y).cells 0):=aQ rfl Ew
   by_cases pO:x=y
   . have hne:decide ((x:Int)≠(y:Int))=false:=by rw [wB,bT pO];rfl
     simp only [SS,DD,Nat.reduceAdd,List.replicate,dd,mR,td,az,K7,hpy,hne,aq i (by omega)]
     refine ⟨by simp [ar,apart],(i+1,nn+1000),⟨by simp only [];omega, ?_⟩,by simp only [];omega,Wk.slots (by simp [Fg]) (by omega)⟩
     simp only []
     rw [List.take_add_one,List.take_add_one,hx,hy,cz,pO]
   . have hne:decide ((x:Int)≠(y:Int))=true:=by rw [wB,bj pO];rfl
     rw [bj (fun e=>pO (by rw [e,hy] at hx;exact (Option.some.inj hx).symm))]
     simp only [SS,DD,Nat.reduceAdd,List.replicate,dd,mR,td,az,K7,hpy,hne]
     refine ⟨by simp [ar,apart], ?_⟩
     exact ag▸ab rfl (af.bool _)
 . have dd:decide ((i:Int)<(l.length:Int))=false:=ak (by omega)
   have jc:i=l.length:=by omega
   have EH:i=m.length:=by omega
   rw [bT (by rw [jc,List.take_length] at cz;rw [cz,hlen,List.take_length])]
   simp only [SS,List.replicate,dd]
   exact ag▸ab rfl (af.bool _)
theorem rj {σ : aa} {id:Id} {k kk:Nat} {z v:AV} (h : σ id=some ⟨[z],kk,false⟩) (hz:z.size=k) (hv:v.cells.length=k) (h1:v.cells.all AV.one=true) (hu:z.upd 0 v.cells=v) :
   eL σ k (.ref id 0 0) v=some { val := .tup [],rd:=[id],up:=[(id,some ⟨[v],kk,false⟩)] }:=by
 rw [cA (n:=k) (v:=v) h rfl (by rw [hv]) (by rw [hz];omega) h1]
 simp [hu]
theorem M4 (a b:Bool):(a==b)=gY a b:=by
 by_cases h:a=b
 . rw [bT h];simp [h]
 . rw [bj h];simp [h]
theorem Jo (b:Bool) (ws:List Nat):part false (IR b ws).cells 0 1=some (.bool b):=rfl
theorem FG (b:Bool) (ws:List Nat):part false (IR b ws).cells 1 1=some (.sl 1 (us ws)):=rfl
theorem Jp {f fe:FuncId} (h:Has P f (jW fe)) (b b':Bool) (ws M5:List Nat) (he:VP P G fe [.sl 1 (us ws), .sl 1 (us M5)] (.bool (gY ws M5))) :
   VP P G f [IR b ws,IR b' M5] (.bool (gY (b,ws) (b',M5))):=by
 have eE:([0]:List Nat)≠[1]:=by decide
 by_cases hb:b=b'
 . have d1:(b==b')=true:=by simp [hb]
   have e:gY (b,ws) (b',M5)=gY ws M5:=by
     by_cases hw:ws=M5
     . rw [bT hw,bT (by rw [hb,hw])]
     . rw [bj hw,bj (fun q=>hw (Prod.mk.inj q).2)]
   rw [e]
   refine VP.has h ?_
   simp only [jW,SS,Nat.reduceAdd,yb,ai eE,ae,Jo,FG,d1]
   refine aj he (by simp [kS]) ?_
   simp only [SS,Nat.reduceAdd]
   exact ag▸ab rfl (af.bool _)
 . have d1:(b==b')=false:=by simp [hb]
   rw [bj (fun q=>hb (Prod.mk.inj q).1)]
   refine VP.has h ?_
   simp only [jW,SS,Nat.reduceAdd,yb,ai eE,ae,Jo,d1]
   exact ag▸ab rfl (af.bool _)
theorem cW {f fe:FuncId} (h:Has P f aP) {α : Type} (φ : α -> AV) (hs:∀ x,(φ x).size=7) (hp:∀ x,af (φ x)) (h1:∀ x,(φ x).cells.all AV.one=true) (B6:∀ x,part true (φ x).cells 0 7=some (φ x)) (hu:∀ x,(AV.agg [.int .i64 0, .bool false, .nils, .bool false, .nils, .str [], .nils]).upd 0 (φ x).cells = φ x)
   (l m:List α) (hl:l.length<=9223372036854775807) (hm:m.length<=9223372036854775807) (he:∀ x∈l,∀ y∈m,VP P G fe [φ x, φ y] (.bool (gY x y))):VP P G f [.sl 7 (l.map φ), .sl 7 (m.map φ), .fn (.func fe) [] []] (.bool (gY l m)):=by
 by_cases hlen:l.length=m.length
 case neg =>
   have d0:decide ((l.length:Int)≠(m.length:Int))=true:=ao (by omega)
   rw [bj (fun e=>hlen (by rw [e]))]
   refine VP.has h ?_
   simp only [aP,SS,Nat.reduceAdd,List.length_map,d0]
   exact ag▸ab rfl (af.bool _)
 have d0:decide ((l.length:Int)≠(m.length:Int))=false:=ak (by omega)
 have z1:((AV.agg [.int .i64 0, .bool false, .nils, .bool false, .nils, .str [], .nils]).cells.all AV.one=true)=True:=by simp [AV.cells,AV.one]
 refine VP.has h ?_
 simp only [aP,SS,Nat.reduceAdd,List.length_map,d0,aC]
 refine VW.bJ (α := Nat × Nat) (fun x=>⟨[.sl 7 (l.map φ), .sl 7 (m.map φ), .fn (.func fe) [] [], .top, .top, .top, .top, .top, .top, .top, .top, .top, .top, .top, .top, .sl 7 (l.map φ), .int .i64 (l.length:Int), .int .i64 (x.1:Int)]++List.replicate 14 .top,fun _=>none,x.2⟩)
   (fun x=>x.1<=l.length/\l.take x.1=m.take x.1) (fun x=>l.length-x.1) (0,1000) ?_ ⟨Nat.zero_le _,by simp⟩ ?_
 . exact Wk.slots (by simp [Fg,List.replicate]) (by omega)
 rintro ⟨i,nn⟩ ⟨hi,cz⟩
 simp only [] at hi cz
 by_cases hlt:i<l.length
 . obtain ⟨x,hx⟩:∃ x,l[i]? = some x:=⟨_,List.getElem?_eq_getElem hlt⟩
   obtain ⟨y,hy⟩:∃ y,m[i]? = some y:=⟨_,List.getElem?_eq_getElem (by omega)⟩
   have dd:decide ((i:Int)<(l.length:Int))=true:=ao (by omega)
   have hgx:(l.map φ)[i]? = some (φ x):=by rw [List.getElem?_map,hx];rfl
   have Ew:(m.map φ)[i]? = some (φ y):=by rw [List.getElem?_map,hy];rfl
   have mR:br 7 (.sl 7 (l.map φ)) (.int .i64 (i:Int))=some (.ep (φ x).cells 0):=aQ rfl hgx
   have td:br 7 (.sl 7 (m.map φ)) (.int .i64 (i:Int))=some (.ep (φ y).cells 0):=aQ rfl Ew
   have GM:=he x (List.mem_of_getElem? hx) y (List.mem_of_getElem? hy)
   simp only [SS,Nat.reduceAdd,List.replicate,dd,mR,az,B6,z1]
   rw [rj (z:=(AV.agg [.int .i64 0, .bool false, .nils, .bool false, .nils, .str [], .nils])) (k:=7) (kk:=(AV.agg [.int .i64 0, .bool false, .nils, .bool false, .nils, .str [], .nils]).size) (by simp [aa.put]) rfl (hs x) (h1 x) (hu x)]
   simp only [SS,Nat.reduceAdd,td,az,B6,z1]
   rw [rj (z:=(AV.agg [.int .i64 0, .bool false, .nils, .bool false, .nils, .str [], .nils])) (k:=7) (kk:=(AV.agg [.int .i64 0, .bool false, .nils, .bool false, .nils, .str [], .nils]).size) (by simp [aa.put]) rfl (hs y) (h1 y) (hu y)]
   have kne:([nn+1+3]:List Nat)≠[nn+1+6+4]:=by intro e;simp at e
   simp only [SS,Nat.reduceAdd,ai kne,ae,B6]
   refine aj GM (by simp [hp]) ?_
   by_cases pO:x=y
   . rw [bT pO]
     simp only [SS,Nat.reduceAdd,aq i (by omega)]
     refine ⟨(i+1,nn+1000),⟨by simp only [];omega, ?_⟩,by simp only [];omega,Wk.forget (by simp [Fg]) (fun j => .inl rfl) (by omega)⟩
     simp only []
     rw [List.take_add_one,List.take_add_one,hx,hy,cz,pO]
   . rw [bj pO,bj (fun e=>pO (by rw [e,hy] at hx;exact (Option.some.inj hx).symm))]
     simp only [SS,Nat.reduceAdd]
     exact ag▸ab rfl (af.bool _)
 . have dd:decide ((i:Int)<(l.length:Int))=false:=ak (by omega)
   have jc:i=l.length:=by omega
   rw [bT (by rw [jc,List.take_length] at cz;rw [cz,hlen,List.take_length])]
   simp only [SS,List.replicate,dd]
   exact ag▸ab rfl (af.bool _)
theorem eh {f fe:FuncId} (h:Has P f aG) {α : Type} (φ : α -> AV) (hs:∀ x,(φ x).size=5) (hp:∀ x,af (φ x)) (h1:∀ x,(φ x).cells.all AV.one=true) (B6:∀ x,part true (φ x).cells 0 5=some (φ x)) (hu:∀ x,(AV.agg [(.str []),(.int .i64 (0)), .nils, .nils,(.bool false)]).upd 0 (φ x).cells = φ x)
   (l m:List α) (hl:l.length<=9223372036854775807) (hm:m.length<=9223372036854775807) (he:∀ x∈l,∀ y∈m,VP P G fe [φ x, φ y] (.bool (gY x y))):VP P G f [.sl 5 (l.map φ), .sl 5 (m.map φ), .fn (.func fe) [] []] (.bool (gY l m)):=by
 by_cases hlen:l.length=m.length
 case neg =>
   have d0:decide ((l.length:Int)≠(m.length:Int))=true:=ao (by omega)
   rw [bj (fun e=>hlen (by rw [e]))]
   refine VP.has h ?_
   simp only [aG,SS,Nat.reduceAdd,List.length_map,d0]
   exact ag▸ab rfl (af.bool _)
 have d0:decide ((l.length:Int)≠(m.length:Int))=false:=ak (by omega)
 have z1:((AV.agg [(.str []),(.int .i64 (0)), .nils, .nils,(.bool false)]).cells.all AV.one=true)=True:=by simp [AV.cells,AV.one]
 refine VP.has h ?_
 simp only [aG,SS,Nat.reduceAdd,List.length_map,d0,aC]
 refine VW.bJ (α := Nat × Nat) (fun x=>⟨[.sl 5 (l.map φ), .sl 5 (m.map φ), .fn (.func fe) [] [], .top, .top, .top, .top, .top, .top, .top, .top, .top, .top, .top, .top, .sl 5 (l.map φ), .int .i64 (l.length:Int), .int .i64 (x.1:Int)]++List.replicate 14 .top,fun _=>none,x.2⟩)
   (fun x=>x.1<=l.length/\l.take x.1=m.take x.1) (fun x=>l.length-x.1) (0,1000) ?_ ⟨Nat.zero_le _,by simp⟩ ?_
 . exact Wk.slots (by simp [Fg,List.replicate]) (by omega)
 rintro ⟨i,nn⟩ ⟨hi,cz⟩
 simp only [] at hi cz
 by_cases hlt:i<l.length
 . obtain ⟨x,hx⟩:∃ x,l[i]? = some x:=⟨_,List.getElem?_eq_getElem hlt⟩
   obtain ⟨y,hy⟩:∃ y,m[i]? = some y:=⟨_,List.getElem?_eq_getElem (by omega)⟩
   have dd:decide ((i:Int)<(l.length:Int))=true:=ao (by omega)
   have hgx:(l.map φ)[i]? = some (φ x):=by rw [List.getElem?_map,hx];rfl
   have Ew:(m.map φ)[i]? = some (φ y):=by rw [List.getElem?_map,hy];rfl
   have mR:br 5 (.sl 5 (l.map φ)) (.int .i64 (i:Int))=some (.ep (φ x).cells 0):=aQ rfl hgx
   have td:br 5 (.sl 5 (m.map φ)) (.int .i64 (i:Int))=some (.ep (φ y).cells 0):=aQ rfl Ew
   have GM:=he x (List.mem_of_getElem? hx) y (List.mem_of_getElem? hy)
   simp only [SS,Nat.reduceAdd,List.replicate,dd,mR,az,B6,z1]
   rw [rj (z:=(AV.agg [(.str []),(.int .i64 (0)), .nils, .nils,(.bool false)])) (k:=5) (kk:=(AV.agg [(.str []),(.int .i64 (0)), .nils, .nils,(.bool false)]).size) (by simp [aa.put]) rfl (hs x) (h1 x) (hu x)]
   simp only [SS,Nat.reduceAdd,td,az,B6,z1]
   rw [rj (z:=(AV.agg [(.str []),(.int .i64 (0)), .nils, .nils,(.bool false)])) (k:=5) (kk:=(AV.agg [(.str []),(.int .i64 (0)), .nils, .nils,(.bool false)]).size) (by simp [aa.put]) rfl (hs y) (h1 y) (hu y)]
   have kne:([nn+1+3]:List Nat)≠[nn+1+6+4]:=by intro e;simp at e
   simp only [SS,Nat.reduceAdd,ai kne,ae,B6]
   refine aj GM (by simp [hp]) ?_
   by_cases pO:x=y
   . rw [bT pO]
     simp only [SS,Nat.reduceAdd,aq i (by omega)]
     refine ⟨(i+1,nn+1000),⟨by simp only [];omega, ?_⟩,by simp only [];omega,Wk.forget (by simp [Fg]) (fun j => .inl rfl) (by omega)⟩
     simp only []
     rw [List.take_add_one,List.take_add_one,hx,hy,cz,pO]
   . rw [bj pO,bj (fun e=>pO (by rw [e,hy] at hx;exact (Option.some.inj hx).symm))]
     simp only [SS,Nat.reduceAdd]
     exact ag▸ab rfl (af.bool _)
 . have dd:decide ((i:Int)<(l.length:Int))=false:=ak (by omega)
   have jc:i=l.length:=by omega
   rw [bT (by rw [jc,List.take_length] at cz;rw [cz,hlen,List.take_length])]
   simp only [SS,List.replicate,dd]
   exact ag▸ab rfl (af.bool _)
end
end Go.VL
end
