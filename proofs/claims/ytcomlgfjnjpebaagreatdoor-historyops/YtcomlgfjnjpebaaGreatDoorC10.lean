/- For the claim of HistoryOps: parts CF7, CF8, CF9, CF10, CH3, CH4, CF11, CF12, CF13, CF14, NL, HNJ, HHasH, CG1. -/
import Derived.Test.YtcomlgfjnjpebaaGreatDoorC09
import Derived.Test.YtcomlgfjnjpebaaGreatDoorC05
import Derived.Lib.IndexMore
import Derived.Sort.KeysCollected
import Derived.Sort.Walk0
import Derived.Lib.SlicesCompact
import Derived.Test.YtcomlgfjnjpebaaGreatDoorProg
import Derived.KernelRfl
import Derived.Test.YtcomlgfjnjpebaaGreatDoorC04
set_option linter.unusedSimpArgs false
set_option linter.unusedVariables false
section
set_option linter.unusedVariables false
set_option linter.unusedVariables false
namespace Go.VL
theorem EX.Gj (op:Int) (n1:Bool) (w1:List Nat) (n2:Bool) (w2:List Nat) (nm:List UInt8) (args:List EX) :
   (EX.mk op n1 w1 n2 w2 nm args).formed=(gP op n1 w1 n2 w2 nm args.length&&EX.gm args):=by
 rw [EX.formed]
 unfold gP arity
 have C5:args.length=0->EX.gm args=true:=fun h=>by rw [List.length_eq_zero_iff.1 h];rfl
 by_cases h1:op=1
 . subst h1
   by_cases h0:args.length=0
   . simp [h0,C5 h0]
   . simp [h0]
 rw [if_neg h1,if_neg h1]
 by_cases h2:op=2
 . subst h2
   by_cases h0:args.length=0
   . simp [h0,C5 h0]
   . simp [h0]
 rw [if_neg h2,if_neg h2]
 by_cases h3:op=3
 . subst h3
   by_cases h0:args.length=1
   . simp [h0]
   . simp [h0]
 rw [if_neg h3]
 by_cases h4:4<=op/\op<=7
 . have a1 : ¬ op<=2:=by omega
   have a2 : ¬ op<=3:=by omega
   have a3:1<=op:=by omega
   rw [if_pos h4,if_neg a1,if_neg a2]
   by_cases h0:args.length=2
   . simp [h0,a3,h4.2]
   . simp [h0]
 . rw [if_neg h4,Bool.false_and]
   by_cases a3:1<=op
   . have a4 : ¬ op<=7:=by omega
     simp [a4]
   . simp [a3]
section
variable {P:Program} {G:Nat->Option (List AV)}
theorem KE {f fs:FuncId} (h:Has P f (gk fs f))
   (hs:∀ op n1 w1 n2 w2 nm args,(EX.mk op n1 w1 n2 w2 nm args).Ok->(EX.mk op n1 w1 n2 w2 nm args).nu=true->VP P G fs [(EX.mk op n1 w1 n2 w2 nm args).av] (.bool (gP op n1 w1 n2 w2 nm args.length))) :
   ∀ e:EX,e.Ok->e.nu=true->VP P G f [e.av] (.bool e.formed):=EX.induct fun op n1 w1 n2 w2 nm args ih ml YL=>by
 have Bx:=hs _ _ _ _ _ _ _ ml YL
 have RL:=EX.qX ml
 have V8:=(EX.ur YL).1
 rw [EX.Ok] at ml
 obtain ⟨_,_,_,_,_,_,_,GF,_⟩:=ml
 rw [EX.Gj]
 cases hb:gP op n1 w1 n2 w2 nm args.length
 . rw [hb] at Bx
   refine VP.has h ?_
   simp only [gk,SS,Nat.reduceAdd,EX.one,ae,EX.all]
   refine aj Bx (by simp [EX.pure]) ?_
   simp only [SS,Nat.reduceAdd,Bool.false_and]
   exact ag▸ab rfl (af.bool _)
 rw [hb] at Bx
 rw [EX.we,Bool.true_and]
 refine VP.has h ?_
 simp only [gk,SS,Nat.reduceAdd,EX.one,ae,EX.all]
 refine aj Bx (by simp [EX.pure]) ?_
 simp only [SS,Nat.reduceAdd,aE]
 refine VW.bR (α := Nat × Nat) (fun x=>⟨[(EX.mk op n1 w1 n2 w2 nm args).av, .ref [0] 0 0, .bool false, .int .i64 (x.1:Int)]++List.replicate 17 .top,aa.put (fun _=>none) [0] (some ⟨[(EX.mk op n1 w1 n2 w2 nm args).av],7,false⟩),x.2⟩)
   (fun x=>x.1<=args.length/\(args.take x.1).all EX.formed=true) (fun x=>args.length-x.1) (0,1000) ?_ ⟨Nat.zero_le _,by simp⟩ ?_
 . exact Wk.bc (by simp [Fg,List.replicate]) (by omega)
 rintro ⟨i,nn⟩ ⟨hi,cD⟩
 simp only [] at hi cD
 by_cases aN:i<args.length
 . obtain ⟨x,hx⟩:∃ x,args[i]? = some x:=⟨_,List.getElem?_eq_getElem aN⟩
   have hm:=List.mem_of_getElem? hx
   have hg:(EX.kY args)[i]? = some x.av:=by rw [EX.cJ,List.getElem?_map,hx];rfl
   have d1:decide ((i:Int)<(args.length:Int))=true:=an (by omega)
   have hfx:=ih x hm (RL x hm) (V8 x hm)
   simp only [SS,Nat.reduceAdd,ae,EX.q6,EX.a8,d1,aS rfl hg,az,EX.all]
   refine aj hfx (by simp [EX.pure]) ?_
   cases XZ:x.formed
   . have e:args.all EX.formed=false:=by
       rw [Bool.eq_false_iff];intro hh
       rw [List.all_eq_true] at hh
       rw [hh x hm] at XZ;cases XZ
     rw [e]
     simp only [SS,Nat.reduceAdd]
     exact ag▸ab rfl (af.bool _)
   . simp only [SS,Nat.reduceAdd,aq i (by omega)]
     refine ⟨(i+1,_),⟨by simp only [];omega, ?_⟩,by simp only [];omega,Wk.bc (by simp [Fg]) (Nat.le_refl _)⟩
     simp only []
     rw [List.take_add_one,hx,List.all_append,cD]
     simp [XZ]
 . have d1:decide ((i:Int)<(args.length:Int))=false:=ak (by omega)
   have jf:i=args.length:=by omega
   rw [jf,List.take_length] at cD
   rw [cD]
   simp only [SS,Nat.reduceAdd,ae,EX.q6,EX.a8,d1]
   exact ag▸ab rfl (af.bool _)
theorem Od {f:FuncId} (h:Has P f (jR f)):∀ e:EX,e.nodes<=1000->VP P G f [e.av] (.int .i64 (e.depth:Int)):=EX.induct fun op n1 w1 n2 w2 nm args ih Ac=>by
 have yl:EX.cX args<=999:=by rw [EX.nodes] at Ac;omega
 have GF:args.length<=999:=Nat.le_trans (EX.Dt args) yl
 rw [EX.depth]
 refine VP.has h ?_
 simp only [jR,SS,Nat.reduceAdd,EX.one,aE]
 refine VW.bR (α := Nat × Nat) (fun x=>⟨[(EX.mk op n1 w1 n2 w2 nm args).av, .ref [0] 0 0, .top, .int .i64 ((EX.fL (args.take x.1):Nat):Int), .int .i64 (x.1:Int)]++List.replicate 17 .top,aa.put (fun _=>none) [0] (some ⟨[(EX.mk op n1 w1 n2 w2 nm args).av],7,false⟩),x.2⟩)
   (fun x=>x.1<=args.length) (fun x=>args.length-x.1) (0,1000) ?_ (Nat.zero_le _) ?_
 . exact Wk.bc (by simp [Fg,List.replicate,EX.fL]) (by omega)
 rintro ⟨i,nn⟩ hi
 simp only [] at hi
 by_cases aN:i<args.length
 . obtain ⟨x,hx⟩:∃ x,args[i]? = some x:=⟨_,List.getElem?_eq_getElem aN⟩
   have hm:=List.mem_of_getElem? hx
   have NH:=EX.sP hm
   have hg:(EX.kY args)[i]? = some x.av:=by rw [EX.cJ,List.getElem?_map,hx];rfl
   have d1:decide ((i:Int)<(args.length:Int))=true:=an (by omega)
   have em:(if (x.depth:Int)>((EX.fL (args.take i):Nat):Int) then (x.depth:Int) else ((EX.fL (args.take i):Nat):Int))=((EX.fL (args.take (i+1)):Nat):Int):=by
     rw [List.take_add_one,hx,Option.toList_some,EX.wg]
     split<;>omega
   simp only [SS,Nat.reduceAdd,ae,EX.q6,EX.a8,d1,aS rfl hg,az,EX.all]
   refine aj (ih x hm (by omega)) (by simp [EX.pure]) ?_
   simp only [SS,Nat.reduceAdd,aq i (by omega),em]
   exact ⟨(i+1,_),by simp only [];omega,by simp only [];omega,Wk.bc (by simp [Fg]) (Nat.le_refl _)⟩
 . have d1:decide ((i:Int)<(args.length:Int))=false:=ak (by omega)
   have jf:i=args.length:=by omega
   have Us:=EX.AB args args.length
   rw [List.take_length] at Us
   have hw:IntKind.i64.wrap (((EX.fL args:Nat):Int)+1)=((EX.fL args+1:Nat):Int):=by rw [IntKind.wrap_i64];omega
   subst jf
   rw [List.take_length]
   simp only [SS,Nat.reduceAdd,ae,EX.q6,EX.a8,d1,hw]
   exact ag▸ab rfl (af.int _ _)
theorem IM {f ff fd:FuncId} (h:Has P f (eW ff fd)) (e:EX) (hf:VP P G ff [e.av] (.bool e.formed)) (hd:VP P G fd [e.av] (.int .i64 (e.depth:Int))) :
   VP P G f [e.av] (.int .i64 (if e.formed=true then (if 40<e.depth then 3 else 0) else 1)):=by
 cases GU:e.formed
 . rw [GU] at hf
   refine VP.has h ?_
   simp only [eW,SS,Nat.reduceAdd,EX.one,ae,EX.all]
   refine aj hf (by simp [EX.pure]) ?_
   simp only [SS,Nat.reduceAdd]
   exact ag▸ab rfl (af.int _ _)
 . rw [GU] at hf
   by_cases hdp:40<e.depth
   . have d1:decide ((40:Int)<(e.depth:Int))=true:=an (by omega)
     rw [if_pos rfl,if_pos hdp]
     refine VP.has h ?_
     simp only [eW,SS,Nat.reduceAdd,EX.one,ae,EX.all]
     refine aj hf (by simp [EX.pure]) ?_
     simp only [SS,Nat.reduceAdd,ae,EX.all]
     refine aj hd (by simp [EX.pure]) ?_
     simp only [SS,Nat.reduceAdd,d1]
     exact ag▸ab rfl (af.int _ _)
   . have d1:decide ((40:Int)<(e.depth:Int))=false:=ak (by omega)
     rw [if_pos rfl,if_neg hdp]
     refine VP.has h ?_
     simp only [eW,SS,Nat.reduceAdd,EX.one,ae,EX.all]
     refine aj hf (by simp [EX.pure]) ?_
     simp only [SS,Nat.reduceAdd,ae,EX.all]
     refine aj hd (by simp [EX.pure]) ?_
     simp only [SS,Nat.reduceAdd,d1]
     exact ag▸ab rfl (af.int _ _)
theorem RN {f:FuncId} (h:Has P f (jV f)):∀ e:EX,e.Ok->VP P G f [e.av] (.bool e.nu):=EX.induct fun op n1 w1 n2 w2 nm args ih ml=>by
 have RL:=EX.qX ml
 rw [EX.Ok] at ml
 obtain ⟨_,_,_,_,_,_,_,GF,_⟩:=ml
 rw [EX.nu,EX.x4]
 have hlen:∀ ws,jN false (.sl 1 (us ws))=some (.int .i64 ws.length):=fun ws=>by simp [jN,dG]
 have l1:decide ((w1.length:Int)<=8)=decide (w1.length<=8):=by by_cases q:w1.length<=8<;>simp [q]<;>omega
 have l2:decide ((w2.length:Int)<=8)=decide (w2.length<=8):=by by_cases q:w2.length<=8<;>simp [q]<;>omega
 have l3:decide ((nm.length:Int)<=60)=decide (nm.length<=60):=by by_cases q:nm.length<=60<;>simp [q]<;>omega
 refine VP.has h ?_
 simp only [jV,SS,Nat.reduceAdd,EX.one,aE]
 refine VW.bR (α := Nat × Nat) (fun x=>⟨[(EX.mk op n1 w1 n2 w2 nm args).av, .ref [0] 0 0, .bool false, .int .i64 (x.1:Int)]++List.replicate 34 .top,aa.put (fun _=>none) [0] (some ⟨[(EX.mk op n1 w1 n2 w2 nm args).av],7,false⟩),x.2⟩)
   (fun x=>x.1<=args.length/\(args.take x.1).all EX.nu=true) (fun x=>args.length-x.1) (0,1000) ?_ ⟨Nat.zero_le _,by simp⟩ ?_
 . exact Wk.bc (by simp [Fg,List.replicate]) (by omega)
 rintro ⟨i,nn⟩ ⟨hi,cD⟩
 simp only [] at hi cD
 by_cases aN:i<args.length
 . obtain ⟨x,hx⟩:∃ x,args[i]? = some x:=⟨_,List.getElem?_eq_getElem aN⟩
   have hm:=List.mem_of_getElem? hx
   have hg:(EX.kY args)[i]? = some x.av:=by rw [EX.cJ,List.getElem?_map,hx];rfl
   have d1:decide ((i:Int)<(args.length:Int))=true:=an (by omega)
   have hfx:=ih x hm (RL x hm)
   simp only [SS,Nat.reduceAdd,ae,EX.q6,EX.a8,d1,aS rfl hg,az,EX.all]
   refine aj hfx (by simp [EX.pure]) ?_
   cases XZ:x.nu
   . have e:args.all EX.nu=false:=by
       rw [Bool.eq_false_iff];intro hh
       rw [List.all_eq_true] at hh
       rw [hh x hm] at XZ;cases XZ
     rw [e]
     simp only [SS,Nat.reduceAdd,Bool.false_and]
     exact ag▸ab rfl (af.bool _)
   . simp only [SS,Nat.reduceAdd,aq i (by omega)]
     refine ⟨(i+1,_),⟨by simp only [];omega, ?_⟩,by simp only [];omega,Wk.bc (by simp [Fg]) (Nat.le_refl _)⟩
     simp only []
     rw [List.take_add_one,hx,List.all_append,cD]
     simp [XZ]
 . have d1:decide ((i:Int)<(args.length:Int))=false:=ak (by omega)
   have jf:i=args.length:=by omega
   rw [jf,List.take_length] at cD
   rw [cD,Bool.true_and]
   cases b1:decide (w1.length<=8)<;>cases b2:decide (w2.length<=8) <;>
   . rw [b1] at l1
     rw [b2] at l2
     simp only [SS,Nat.reduceAdd,ae,EX.q6,EX.a8,d1,EX.r2,EX.r4,EX.q5,hlen,l1,l2,l3,Bool.true_and,Bool.false_and]
     exact ag▸ab rfl (af.bool _)
def j8 (L n:Nat):Nat:=if n<=L then n else L+1
theorem EX.Bm (x:EX):∀ l,EX.cX (l++[x])=EX.cX l+x.nodes
 | []=>by simp [EX.cX]
 | a::l=>by rw [List.cons_append,EX.cX,EX.cX,EX.Bm x l];omega
theorem EX.IP (l:List EX) (k:Nat):EX.cX (l.take k)<=EX.cX l:=by
 induction l generalizing k with
 | nil=>simp [EX.cX]
 | cons a l ih=>cases k with
   | zero=>simp [EX.cX]
   | succ k=>rw [List.take_succ_cons,EX.cX,EX.cX];have:=ih k;omega
theorem RO {f:FuncId} (h:Has P f (jT f)):∀ e:EX,e.Ok->∀ L:Nat,L<=1000->VP P G f [e.av, .int .i64 (L:Int)] (.int .i64 ((j8 L e.nodes:Nat):Int)):=EX.induct fun op n1 w1 n2 w2 nm args ih ml L hL=>by
 have RL:=EX.qX ml
 rw [EX.Ok] at ml
 obtain ⟨_,_,_,_,_,_,_,GF,_⟩:=ml
 rw [EX.nodes]
 refine VP.has h ?_
 simp only [jT,SS,Nat.reduceAdd,EX.one,aE]
 refine VW.bR (α := Nat × Nat) (fun x=>⟨[(EX.mk op n1 w1 n2 w2 nm args).av, .int .i64 (L:Int), .ref [0] 0 0, .top, .top, .int .i64 ((j8 L (1+EX.cX (args.take x.1)):Nat):Int), .int .i64 (x.1:Int)]++List.replicate 24 .top,aa.put (fun _=>none) [0] (some ⟨[(EX.mk op n1 w1 n2 w2 nm args).av],7,false⟩),x.2⟩)
   (fun x=>x.1<=args.length) (fun x=>args.length-x.1) (0,1000) ?_ (Nat.zero_le _) ?_
 . have e0:j8 L (1+EX.cX (args.take 0))=1:=by rw [List.take_zero,EX.cX];unfold j8;split<;>omega
   simp only [e0]
   exact Wk.bc (by simp [Fg,List.replicate]) (by omega)
 rintro ⟨i,nn⟩ hi
 simp only [] at hi
 by_cases aN:i<args.length
 . obtain ⟨x,hx⟩:∃ x,args[i]? = some x:=⟨_,List.getElem?_eq_getElem aN⟩
   have hm:=List.mem_of_getElem? hx
   have hg:(EX.kY args)[i]? = some x.av:=by rw [EX.cJ,List.getElem?_map,hx];rfl
   have d1:decide ((i:Int)<(args.length:Int))=true:=an (by omega)
   by_cases hn:1+EX.cX (args.take i)<=L
   . have e1:j8 L (1+EX.cX (args.take i))=1+EX.cX (args.take i):=if_pos hn
     have d2:decide (((1+EX.cX (args.take i):Nat):Int)<=(L:Int))=true:=an (by omega)
     have hw:IntKind.i64.wrap ((L:Int)-((1+EX.cX (args.take i):Nat):Int))=((L-(1+EX.cX (args.take i)):Nat):Int):=by rw [IntKind.wrap_i64];omega
     have hfx:=ih x hm (RL x hm) (L-(1+EX.cX (args.take i))) (by omega)
     have hup:j8 (L-(1+EX.cX (args.take i))) x.nodes<=L+1:=by unfold j8;split<;>omega
     have wG:IntKind.i64.wrap (((1+EX.cX (args.take i):Nat):Int)+((j8 (L-(1+EX.cX (args.take i))) x.nodes:Nat):Int))=((j8 L (1+EX.cX (args.take (i+1))):Nat):Int):=by
       rw [List.take_add_one,hx,Option.toList_some,EX.Bm]
       unfold j8 at hup ⊢
       rw [IntKind.wrap_i64]
       split<;>split<;>omega
     simp only [e1]
     simp only [SS,Nat.reduceAdd,ae,EX.q6,EX.a8,d1,d2,aS rfl hg,az,EX.all,hw]
     refine aj hfx (by simp [EX.pure,af.int]) ?_
     simp only [SS,Nat.reduceAdd,aq i (by omega),wG]
     exact ⟨(i+1,_),by simp only [];omega,by simp only [];omega,Wk.bc (by simp [Fg]) (Nat.le_refl _)⟩
   . have e1:j8 L (1+EX.cX (args.take i))=L+1:=if_neg hn
     have d2:decide (((L+1:Nat):Int)<=(L:Int))=false:=ak (by omega)
     have ht:=EX.IP args i
     have e2:j8 L (1+EX.cX args)=L+1:=if_neg (by omega)
     simp only [e1]
     rw [e2]
     simp only [SS,Nat.reduceAdd,ae,EX.q6,EX.a8,d1,d2]
     exact ag▸ab rfl (af.int _ _)
 . have d1:decide ((i:Int)<(args.length:Int))=false:=ak (by omega)
   have jf:i=args.length:=by omega
   subst jf
   simp only [List.take_length]
   simp only [SS,Nat.reduceAdd,ae,EX.q6,EX.a8,d1]
   exact ag▸ab rfl (af.int _ _)
theorem KF {f fn fl:FuncId} (h:Has P f (gC fn fl)) (e:EX) (hn:VP P G fn [e.av, .int .i64 120] (.int .i64 ((j8 120 e.nodes:Nat):Int))) (hl:VP P G fl [e.av] (.bool e.nu)) :
   VP P G f [e.av] (.bool (decide (e.nodes<=120)&&e.nu)):=by
 by_cases hd:e.nodes<=120
 . have e1:j8 120 e.nodes=e.nodes:=if_pos hd
   have d1:decide ((e.nodes:Int)<=120)=true:=an (by omega)
   rw [e1] at hn
   rw [an hd,Bool.true_and]
   refine VP.has h ?_
   simp only [gC,SS,Nat.reduceAdd,EX.one,ae,EX.all]
   refine aj hn (by simp [EX.pure,af.int]) ?_
   simp only [SS,Nat.reduceAdd,d1,ae,EX.all]
   refine aj hl (by simp [EX.pure]) ?_
   simp only [SS,Nat.reduceAdd]
   exact ag▸ab rfl (af.bool _)
 . have e1:j8 120 e.nodes=121:=if_neg hd
   have d1:decide ((((121:Nat)):Int)<=120)=false:=by decide
   rw [e1] at hn
   rw [ak hd,Bool.false_and]
   refine VP.has h ?_
   simp only [gC,SS,Nat.reduceAdd,EX.one,ae,EX.all]
   refine aj hn (by simp [EX.pure,af.int]) ?_
   simp only [SS,Nat.reduceAdd,d1]
   exact ag▸ab rfl (af.bool _)
end
end Go.VL
end

section
set_option linter.unusedVariables false
set_option linter.unusedVariables false
namespace Go.VL
def sQ (s:List UInt8):Nat:=match s with
 | []=>0
 | c::_=>if dA c=true then fJ dt s else 0
section
variable {P:Program} {G:Nat->Option (List AV)}
theorem UH {f fl fd:FuncId} (h:Has P f (fH fl fd)) (hl:∀ c,VP P G fl [ia c] (.bool (dA c))) (hd:∀ c,VP P G fd [ia c] (.bool (mg c)))
   (s:List UInt8) (hs:s.length<9223372036854775807):VP P G f [.str s, .int .i64 0] (.int .i64 ((sQ s:Nat):Int)):=by
 cases s with
 | nil =>
   refine VP.has h ?_
   have z0:decide ((0:Int)=((0:Nat):Int))=true:=rfl
   have e:sQ []=0:=rfl
   rw [e]
   simp only [fH,SS,Nat.reduceAdd,z0]
   exact ag▸ab rfl (af.int _ _)
 | cons c0 s0 =>
   generalize YM:c0::s0=s at hs ⊢
   have hlen:0<s.length:=by rw [<- YM];simp
   have d0:decide ((0:Int)=(s.length:Int))=false:=ak (by omega)
   have JQ:s[0]? = some c0:=by rw [<- YM];rfl
   have WB:=dI (k:=0) JQ
   simp only [Int.natCast_zero] at WB
   cases UI:dA c0
   . have Lc:=hl c0
     rw [UI] at Lc
     have e:sQ s=0:=by rw [<- YM];simp [sQ,UI]
     rw [e]
     refine VP.has h ?_
     simp only [fH,SS,Nat.reduceAdd,d0,WB]
     refine aj Lc (by simp [eh]) ?_
     simp only [SS,Nat.reduceAdd]
     exact ag▸ab rfl (af.int _ _)
   have Lc:=hl c0
   rw [UI] at Lc
   have e:sQ s=fJ dt s:=by rw [<- YM];simp [sQ,UI]
   rw [e]
   refine VP.has h ?_
   simp only [fH,SS,Nat.reduceAdd,d0,WB]
   refine aj Lc (by simp [eh]) ?_
   simp only [SS,Nat.reduceAdd,aE]
   refine VW.bR (α := Nat × Nat) (fun x=>⟨[.str s, .int .i64 (x.1:Int), .top, .top, .top]++List.replicate 37 .top,fun _=>none,x.2⟩) (fun x=>x.1<=fJ dt s) (fun x=>fJ dt s-x.1) (0,1000) ?_ (Nat.zero_le _) ?_
   . exact Wk.bc (by simp [Fg,List.replicate]) (by omega)
   rintro ⟨k,n⟩ hk
   simp only [] at hk
   have H5:=C0 dt s
   by_cases aN:k<s.length
   . obtain ⟨c,hc⟩:∃ c,s[k]? = some c:=⟨_,List.getElem?_eq_getElem aN⟩
     have d1:decide ((k:Int)<(s.length:Int))=true:=an (by omega)
     have FF:=hl c
     have G4:=hd c
     have iu:dt c=(dA c||mg c||decide ((c.toNat:Int)=95)):=rfl
     have vp:dt c=true->k<fJ dt s:=fun hw=>by
       rcases Nat.lt_or_ge k (fJ dt s) with q | q
       . exact q
       . have Mg:k=fJ dt s:=by omega
         rcases xS dt s with h0 | ⟨c',wz,Qf⟩
         . rw [<- Mg,hc] at h0;cases h0
         . rw [<- Mg,hc] at wz;cases wz;rw [hw] at Qf;cases Qf
     have CG:dt c=false->k=fJ dt s:=fun hw=>by
       rcases Nat.lt_or_ge k (fJ dt s) with q | q
       . obtain ⟨c',wz,Qf⟩:=C1 dt s k q
         rw [hc] at wz;cases wz;rw [hw] at Qf;cases Qf
       . omega
     have JJ:(ia c) = .int .u8 (c.toNat:Int):=rfl
     cases b1:dA c
     . rw [b1] at FF iu
       cases b2:mg c
       . rw [b2] at G4 iu
         cases b3:decide ((c.toNat:Int)=95)
         . rw [b3] at iu
           have Mg:=CG iu
           simp only [SS,Nat.reduceAdd,d1,dI hc]
           refine aj FF (by simp [eh]) ?_
           simp only [SS,Nat.reduceAdd,dI hc]
           refine aj G4 (by simp [eh]) ?_
           simp only [SS,Nat.reduceAdd,dI hc,JJ,b3]
           rw [<- Mg]
           exact ag▸ab rfl (af.int _ _)
         . rw [b3] at iu
           have H5:=vp iu
           simp only [SS,Nat.reduceAdd,d1,dI hc]
           refine aj FF (by simp [eh]) ?_
           simp only [SS,Nat.reduceAdd,dI hc]
           refine aj G4 (by simp [eh]) ?_
           simp only [SS,Nat.reduceAdd,dI hc,JJ,b3,aq k (by omega)]
           exact ⟨(k+1,_),by simp only [];omega,by simp only [];omega,Wk.bc (by simp [Fg]) (Nat.le_refl _)⟩
       . rw [b2] at G4 iu
         have H5:=vp iu
         simp only [SS,Nat.reduceAdd,d1,dI hc]
         refine aj FF (by simp [eh]) ?_
         simp only [SS,Nat.reduceAdd,dI hc]
         refine aj G4 (by simp [eh]) ?_
         simp only [SS,Nat.reduceAdd,aq k (by omega)]
         exact ⟨(k+1,_),by simp only [];omega,by simp only [];omega,Wk.bc (by simp [Fg]) (Nat.le_refl _)⟩
     . rw [b1] at FF iu
       have H5:=vp iu
       simp only [SS,Nat.reduceAdd,d1,dI hc]
       refine aj FF (by simp [eh]) ?_
       simp only [SS,Nat.reduceAdd,aq k (by omega)]
       exact ⟨(k+1,_),by simp only [];omega,by simp only [];omega,Wk.bc (by simp [Fg]) (Nat.le_refl _)⟩
   . have d1:decide ((k:Int)<(s.length:Int))=false:=ak (by omega)
     have Mg:k=fJ dt s:=by omega
     rw [<- Mg]
     simp only [SS,Nat.reduceAdd,d1]
     exact ag▸ab rfl (af.int _ _)
theorem KG {f fw:FuncId} (h:Has P f (eL fw)) (hw:∀ s:List UInt8,s.length<9223372036854775807->VP P G fw [.str s, .int .i64 0] (.int .i64 ((sQ s:Nat):Int))) (s:List UInt8) :
   VP P G f [.str s] (.bool (bg s)):=by
 cases s with
 | nil =>
   refine VP.has h ?_
   simp only [eL,SS,Nat.reduceAdd]
   exact ag▸ab rfl (af.bool _)
 | cons c s =>
   have e0:(!((c::s)==([]:List UInt8)))=true:=rfl
   by_cases h1:(((s.length+1:Nat)):Int)<=24
   . refine VP.has h ?_
     simp only [eL,SS,Nat.reduceAdd,e0,h1,decide_true]
     refine aj (hw (c::s) (by simp only [List.length_cons];omega)) (by simp [af.str,af.int]) ?_
     by_cases h3:sQ (c::s)=s.length+1
     . have h4:(sQ (c::s):Int)=((s.length+1:Nat):Int):=by omega
       have:bg (c::s)=true:=by
         have hv:bg (c::s)=(decide ((c::s).length<=24)&&dA c&&decide (fJ dt (c::s)=(c::s).length)):=rfl
         have hwv:sQ (c::s)=if dA c=true then fJ dt (c::s) else 0:=rfl
         rw [hwv] at h3
         rw [hv]
         cases h2:dA c
         . rw [h2] at h3;simp at h3
         . rw [h2,if_pos rfl] at h3
           have g1:decide ((c::s).length<=24)=true:=an (by rw [List.length_cons];omega)
           have g2:decide (fJ dt (c::s)=(c::s).length)=true:=an (by rw [List.length_cons];omega)
           rw [g1,g2];rfl
       rw [this]
       simp only [SS,Nat.reduceAdd,h4,decide_true]
       exact ag▸ab rfl (af.bool _)
     . have h4 : ¬ (sQ (c::s):Int)=((s.length+1:Nat):Int):=by omega
       have:bg (c::s)=false:=by
         have hv:bg (c::s)=(decide ((c::s).length<=24)&&dA c&&decide (fJ dt (c::s)=(c::s).length)):=rfl
         have hwv:sQ (c::s)=if dA c=true then fJ dt (c::s) else 0:=rfl
         rw [hwv] at h3
         rw [hv]
         cases h2:dA c
         . rw [Bool.and_false,Bool.false_and]
         . rw [h2,if_pos rfl] at h3
           have g2:decide (fJ dt (c::s)=(c::s).length)=false:=ak (by rw [List.length_cons];omega)
           rw [g2,Bool.and_false]
       rw [this]
       simp only [SS,Nat.reduceAdd,h4,decide_false]
       exact ag▸ab rfl (af.bool _)
   . refine VP.has h ?_
     have:bg (c::s)=false:=by unfold bg;simp only [List.length_cons];simp;intro h;omega
     rw [this]
     simp only [eL,SS,Nat.reduceAdd,e0,h1,decide_false]
     exact ag▸ab rfl (af.bool _)
end
end Go.VL
end

section
set_option linter.unusedVariables false
set_option linter.unusedVariables false
namespace Go.VL
def kr:List UInt8->Option Nat
 | []=>none
 | b::l=>if b=47 then some 0 else (kr l).map (· + 1)
theorem Du:∀ {s:List UInt8} {k:Nat},kr s=some k->k<s.length
 | b :: l,k,h=>by
   rw [kr] at h
   split at h
   . cases h;simp
   . obtain ⟨j,hj,rfl⟩:=Option.map_eq_some_iff.1 h
     have:=Du hj
     simp;omega
theorem IQ:∀ {s:List UInt8} {k:Nat},kr s=some k->s[k]? = some 47
 | b :: l,k,h=>by
   rw [kr] at h
   split at h
   . rename_i hb;cases h;subst hb;rfl
   . obtain ⟨j,hj,rfl⟩:=Option.map_eq_some_iff.1 h
     simpa using IQ hj
theorem zm:∀ {s:List UInt8} {k j:Nat},kr s=some k->j<k->s[j]? ≠ some 47
 | b :: l,k,j,h,hj=>by
   rw [kr] at h
   split at h
   . cases h;omega
   . rename_i hb
     obtain ⟨i,hi,rfl⟩:=Option.map_eq_some_iff.1 h
     cases j with
     | zero=>simpa using hb
     | succ j=>simpa using zm hi (show j<i by omega)
theorem Dv:∀ {s:List UInt8} {j:Nat},kr s=none->s[j]? ≠ some 47
 | [],j,_=>by simp
 | b :: l,j,h=>by
   rw [kr] at h
   split at h
   . cases h
   . rename_i hb
     have hl:kr l=none:=by simpa using h
     cases j with
     | zero=>simpa using hb
     | succ j=>simpa using Dv hl (j:=j)
theorem Bn:∀ s:List UInt8,Lib.index s [47]=match kr s with | some k=>(k:Int) | none => -1
 | []=>rfl
 | b :: l=>by
   rw [Lib.index,kr,Bn l]
   by_cases h:b=47
   . subst h;rfl
   . have:([47]:List UInt8).isPrefixOf (b::l)=false:=by
       have h' : ¬ (47:UInt8)=b:=fun e=>h e.symm
       simp [List.isPrefixOf,h']
     rw [this,if_neg h]
     cases kr l with
     | none=>rfl
     | some k =>
       have e:((k:Int) == -1)=false:=by
         rw [beq_eq_false_iff_ne];omega
       simp only [Bool.false_eq_true,if_false,e,Option.map_some]
       exact (Int.natCast_succ k).symm
theorem Ff (s:List UInt8):Lib.cut s [47]=match kr s with | some k=>(s.take k,s.drop (k+1),true) | none=>(s,[],false):=by
 unfold Lib.cut
 rw [Bn]
 cases kr s with
 | none=>rfl
 | some k=>simp
def nW (c:UInt8):Bool := !decide ((c.toNat:Int)<33) && !decide ((126:Int)<(c.toNat:Int))
def eQ (s:List UInt8):Option (List UInt8):=match kr s with
 | none=>none
 | some k=>if (decide (k+1≠s.length)&&decide (s.length<=200)&&bg (s.take k)&&s.all nW)=true then some (s.take k) else none
section
variable {P:Program} {G:Nat->Option (List AV)}
theorem Ec {f fc fn:FuncId} (h:Has P f (di fc fn)) (s:List UInt8) (hl:s.length<=1000000) (hc:VP P G fc [.str s, .str [47]] (.tup [.str (Lib.cut s [47]).1, .str (Lib.cut s [47]).2.1, .bool (Lib.cut s [47]).2.2]))
   (hn:∀ s,VP P G fn [.str s] (.bool (bg s))):VP P G f [.str s] (.bool (eQ s).isSome):=by
 rw [Ff] at hc
 unfold eQ
 cases hs:kr s with
 | none =>
   rw [hs] at hc
   simp only [] at hc
   refine VP.has h ?_
   simp only [di,SS,Nat.reduceAdd]
   refine aj hc (by simp [af.str]) ?_
   simp only [SS,Nat.reduceAdd,qi,qj,qk,Option.isSome_none]
   exact ag▸ab rfl (af.bool _)
 | some k =>
   rw [hs] at hc
   simp only [] at hc ⊢
   have hk:=Du hs
   have x8:=hn (s.take k)
   by_cases h1:k+1=s.length
   . have e1:s.drop (k+1)=[]:=List.drop_of_length_le (by omega)
     rw [e1] at hc
     rw [ak (by omega : ¬ k+1≠s.length),Bool.false_and,Bool.false_and,Bool.false_and,if_neg (by decide)]
     refine VP.has h ?_
     simp only [di,SS,Nat.reduceAdd]
     refine aj hc (by simp [af.str]) ?_
     simp only [SS,Nat.reduceAdd,qi,qj,qk,Option.isSome_none]
     exact ag▸ab rfl (af.bool _)
   have e1:(s.drop (k+1)==([]:List UInt8))=false:=by
     rw [beq_eq_false_iff_ne];intro e
     have:=congrArg List.length e
     rw [List.length_drop] at this;simp at this;omega
   by_cases h2:s.length<=200
   case neg =>
     have d2:decide ((200:Int)<(s.length:Int))=true:=an (by omega)
     rw [ak h2,Bool.and_false,Bool.false_and,Bool.false_and,if_neg (by decide)]
     refine VP.has h ?_
     simp only [di,SS,Nat.reduceAdd]
     refine aj hc (by simp [af.str]) ?_
     simp only [SS,Nat.reduceAdd,qi,qj,qk,Option.isSome_none,e1,d2]
     exact ag▸ab rfl (af.bool _)
   have d2:decide ((200:Int)<(s.length:Int))=false:=ak (by omega)
   rw [an h1,an h2]
   cases h3:bg (s.take k)
   . rw [h3] at x8
     simp only [Bool.and_false,Bool.false_and,Bool.false_eq_true,if_false,Option.isSome_none]
     refine VP.has h ?_
     simp only [di,SS,Nat.reduceAdd]
     refine aj hc (by simp [af.str]) ?_
     simp only [SS,Nat.reduceAdd,qi,qj,qk,e1,d2]
     refine aj x8 (by simp [af.str]) ?_
     simp only [SS,Nat.reduceAdd]
     exact ag▸ab rfl (af.bool _)
   rw [h3] at x8
   have uR:(if (true&&true&&true&&s.all nW)=true then some (s.take k) else none).isSome=s.all nW:=by
     cases s.all nW<;>rfl
   rw [uR]
   refine VP.has h ?_
   simp only [di,SS,Nat.reduceAdd]
   refine aj hc (by simp [af.str]) ?_
   simp only [SS,Nat.reduceAdd,qi,qj,qk,e1,d2]
   refine aj x8 (by simp [af.str]) ?_
   simp only [SS,Nat.reduceAdd,aE]
   refine VW.bR (α := Nat × Nat) (fun x=>⟨[.str s]++List.replicate 29 .top++[.int .i64 (s.length:Int), .int .i64 (x.1:Int)]++List.replicate 13 .top,fun _=>none,x.2⟩)
     (fun x=>x.1<=s.length/\(s.take x.1).all nW=true) (fun x=>s.length-x.1) (0,1000) ?_ ⟨Nat.zero_le _,by simp⟩ ?_
   . exact Wk.bc (by simp [Fg,List.replicate]) (by omega)
   rintro ⟨i,nn⟩ ⟨hi,cD⟩
   simp only [] at hi cD
   by_cases aN:i<s.length
   . obtain ⟨c,hc⟩:∃ c,s[i]? = some c:=⟨_,List.getElem?_eq_getElem aN⟩
     have hm:=List.mem_of_getElem? hc
     have dd:decide ((i:Int)<(s.length:Int))=true:=an (by omega)
     have JJ:(ia c) = .int .u8 (c.toNat:Int):=rfl
     have ml:nW c=(!decide ((c.toNat:Int)<33) && !decide ((126:Int)<(c.toNat:Int))):=rfl
     have RP:nW c=false->s.all nW=false:=fun hb=>by
       rw [Bool.eq_false_iff];intro hh
       rw [List.all_eq_true] at hh
       rw [hh c hm] at hb;cases hb
     cases b1:decide ((c.toNat:Int)<33)
     . cases b2:decide ((126:Int)<(c.toNat:Int))
       . simp only [SS,Nat.reduceAdd,List.replicate,dd,dI hc,JJ,b1,b2,aq i (by omega)]
         refine ⟨(i+1,_),⟨by simp only [];omega, ?_⟩,by simp only [];omega,Wk.bc (by simp [Fg]) (Nat.le_refl _)⟩
         simp only []
         rw [List.take_add_one,hc,List.all_append,cD]
         simp [ml,b1,b2]
       . rw [RP (by rw [ml,b1,b2];rfl)]
         simp only [SS,Nat.reduceAdd,List.replicate,dd,dI hc,JJ,b1,b2]
         exact ag▸ab rfl (af.bool _)
     . rw [RP (by rw [ml,b1];rfl)]
       simp only [SS,Nat.reduceAdd,List.replicate,dd,dI hc,JJ,b1]
       exact ag▸ab rfl (af.bool _)
   . have dd:decide ((i:Int)<(s.length:Int))=false:=ak (by omega)
     have jf:i=s.length:=by omega
     rw [jf,List.take_length] at cD
     rw [cD]
     simp only [SS,List.replicate,dd]
     exact ag▸ab rfl (af.bool _)
end
end Go.VL
end

section
set_option linter.unusedVariables false
set_option linter.unusedVariables false
namespace Go.VL
def KH (s:List UInt8) (i:Nat):Int:=match kr s with
 | some k=>if k<i then (k:Int) else -1-0
 | none => -1-0
section
variable {P:Program} {G:Nat->Option (List AV)}
theorem KI {f fn : FuncId} (h:Has P f (iW fn)) (s:List UInt8) (hl:s.length<=1000000) (hn:∀ s,VP P G fn [.str s] (.bool (bg s))):VP P G f [.str s] (.str ((eQ s).getD [])):=by
 have MG:(∃ c∈s,nW c=false)->(eQ s).getD []=[]:=by
   rintro ⟨c,hm,hc⟩
   have:s.all nW=false:=by
     rw [Bool.eq_false_iff];intro hh
     rw [List.all_eq_true] at hh
     rw [hh c hm] at hc;cases hc
   unfold eQ
   cases kr s with
   | none=>rfl
   | some k=>simp [this]
 refine VP.has h ?_
 simp only [iW,SS,Nat.reduceAdd,aE]
 refine VW.bR (α := Nat × Nat) (fun x=>⟨[.str s, .top, .str [], .int .i64 (KH s x.1), .int .i64 (x.1:Int)]++List.replicate 49 .top,fun _=>none,x.2⟩)
   (fun x=>x.1<=s.length/\(s.take x.1).all nW=true) (fun x=>s.length-x.1) (0,1000) ?_ ⟨Nat.zero_le _,by simp⟩ ?_
 . have e0:KH s 0 = -1-0:=by unfold KH;split<;>simp
   simp only [e0]
   exact Wk.bc (by simp [Fg,List.replicate]) (by omega)
 rintro ⟨i,nn⟩ ⟨hi,cD⟩
 simp only [] at hi cD
 by_cases aN:i<s.length
 . obtain ⟨c,hc⟩:∃ c,s[i]? = some c:=⟨_,List.getElem?_eq_getElem aN⟩
   have hm:=List.mem_of_getElem? hc
   have dd:decide ((i:Int)<(s.length:Int))=true:=an (by omega)
   have JJ:(ia c) = .int .u8 (c.toNat:Int):=rfl
   have ml:nW c=(!decide ((c.toNat:Int)<33) && !decide ((126:Int)<(c.toNat:Int))):=rfl
   cases b1:decide ((c.toNat:Int)<33)
   . cases b2:decide ((126:Int)<(c.toNat:Int))
     . have Bo : (s.take (i+1)).all nW=true:=by
         rw [List.take_add_one,hc,List.all_append,cD]
         simp [ml,b1,b2]
       by_cases YN:c=47
       . have d3 : decide ((c.toNat:Int)=47)=true:=by rw [YN];rfl
         rw [YN] at hc
         by_cases wX:KH s i<0
         . have d4:decide (KH s i<0)=true:=an wX
           have e1:KH s (i+1)=(i:Int):=by
             unfold KH at wX ⊢
             cases hs:kr s with
             | none=>exact absurd hc (Dv hs)
             | some k =>
               rw [hs] at wX
               simp only [] at wX ⊢
               have hki : ¬ k<i:=by intro hk;rw [if_pos hk] at wX;omega
               have Mg : ¬ i<k:=fun hik=>zm hs hik hc
               rw [if_pos (by omega)];omega
           rw [<- YN] at hc
           simp only [SS,Nat.reduceAdd,dd,dI hc,JJ,b1,b2,d3,d4,aq i (by omega)]
           refine ⟨(i+1,nn+1000),⟨by simp only [];omega,Bo⟩,by simp only [];omega, ?_⟩
           simp only [e1]
           exact Wk.bc (by simp [Fg]) (by omega)
         . have d4:decide (KH s i<0)=false:=ak wX
           have e1:KH s (i+1)=KH s i:=by
             unfold KH at wX ⊢
             cases hs:kr s with
             | none=>rfl
             | some k =>
               rw [hs] at wX
               simp only [] at wX ⊢
               have hki:k<i:=by
                 rcases Nat.lt_or_ge k i with q | q
                 . exact q
                 . rw [if_neg (by omega)] at wX;simp at wX
               rw [if_pos hki,if_pos (by omega)]
           rw [<- YN] at hc
           simp only [SS,Nat.reduceAdd,dd,dI hc,JJ,b1,b2,d3,d4,aq i (by omega)]
           refine ⟨(i+1,nn+1000),⟨by simp only [];omega,Bo⟩,by simp only [];omega, ?_⟩
           simp only [e1]
           exact Wk.bc (by simp [Fg]) (by omega)
       . have d3:decide ((c.toNat:Int)=47)=false:=ak (fun e=>YN (by
           have:c.toNat=47:=by omega
           exact UInt8.toNat_inj.1 (by rw [this];rfl)))
         have e1:KH s (i+1)=KH s i:=by
           unfold KH
           cases hs:kr s with
           | none=>rfl
           | some k =>
             simp only []
             have hki:k≠i:=fun e=>by
               have:=IQ hs
               rw [e,hc] at this
               exact YN (Option.some.inj this)
             by_cases q:k<i
             . rw [if_pos q,if_pos (by omega)]
             . rw [if_neg q,if_neg (by omega)]
         simp only [SS,Nat.reduceAdd,dd,dI hc,JJ,b1,b2,d3,aq i (by omega)]
         refine ⟨(i+1,nn+1000),⟨by simp only [];omega,Bo⟩,by simp only [];omega, ?_⟩
         simp only [e1]
         exact Wk.bc (by simp [Fg]) (by omega)
     . rw [MG ⟨c,hm,by rw [ml,b1,b2];rfl⟩]
       simp only [SS,Nat.reduceAdd,dd,dI hc,JJ,b1,b2]
       exact ag▸ab rfl (af.str _)
   . rw [MG ⟨c,hm,by rw [ml,b1];rfl⟩]
     simp only [SS,Nat.reduceAdd,dd,dI hc,JJ,b1]
     exact ag▸ab rfl (af.str _)
 . have dd:decide ((i:Int)<(s.length:Int))=false:=ak (by omega)
   have jf:i=s.length:=by omega
   rw [jf,List.take_length] at cD
   rw [jf]
   rw [jf] at dd
   unfold eQ KH
   cases hs:kr s with
   | none =>
     have d1:decide ((-1-0:Int)<0)=true:=by decide
     simp only [SS,Nat.reduceAdd,dd,d1,Option.getD_none]
     exact ag▸ab rfl (af.str _)
   | some k =>
     have hk:=Du hs
     have d1:decide ((k:Int)<0)=false:=ak (by omega)
     have hw:IntKind.i64.wrap ((s.length:Int)-1)=(s.length:Int)-1:=by rw [IntKind.wrap_i64];omega
     have Cn:=Ay (s:=s) (l:=k) (by omega)
     have x8:=hn (s.take k)
     rw [cD]
     simp only [hk,if_true]
     by_cases h1:k+1=s.length
     . have d2:decide ((k:Int)=(s.length:Int)-1)=true:=an (by omega)
       rw [ak (by omega : ¬ k+1≠s.length),Bool.false_and,Bool.false_and,Bool.false_and,if_neg (by decide)]
       simp only [SS,Nat.reduceAdd,dd,d1,d2,hw,Option.getD_none]
       exact ag▸ab rfl (af.str _)
     have d2:decide ((k:Int)=(s.length:Int)-1)=false:=ak (by omega)
     by_cases h2:s.length<=200
     case neg =>
       have d3:decide ((200:Int)<(s.length:Int))=true:=an (by omega)
       rw [ak h2,Bool.and_false,Bool.false_and,Bool.false_and,if_neg (by decide)]
       simp only [SS,Nat.reduceAdd,dd,d1,d2,d3,hw,Option.getD_none]
       exact ag▸ab rfl (af.str _)
     have d3:decide ((200:Int)<(s.length:Int))=false:=ak (by omega)
     rw [an h1,an h2]
     cases h3:bg (s.take k)
     . rw [h3] at x8
       simp only [SS,Nat.reduceAdd,dd,d1,d2,d3,hw,Cn,Bool.and_false,Bool.and_true,Option.getD_none]
       refine aj x8 (by simp [af.str]) ?_
       simp only [SS,Nat.reduceAdd]
       exact ag▸ab rfl (af.str _)
     . rw [h3] at x8
       simp only [SS,Nat.reduceAdd,dd,d1,d2,d3,hw,Cn,Bool.and_true,Option.getD_some]
       refine aj x8 (by simp [af.str]) ?_
       simp only [SS,Nat.reduceAdd,Cn]
       exact ag▸ab rfl (af.str _)
end
end Go.VL
end

section
set_option linter.unusedVariables false
namespace Go.VL
section
variable {P:Program} {G:Nat->Option (List AV)}
theorem nX {f:FuncId} (h:Has P f dh) {es:List AV} (hk:∀ e∈es,e.size=1) (h1:(es.all fun e=>e.cells.all AV.one)=true) (hp:∀ c∈flat es,af c) (hl:es.length*16<=140737488355328):VP P G f [.sl 1 es] (.sl 1 es):=by
 refine VP.has h ?_
 have hb:∀ (σ : aa) (p:Id),cl σ p (.buildSl 1 0 (AV.str []) [])=some { val := .tsl 1 [] }:=fun σ p=>TS rfl rfl
 cases es with
 | nil =>
   simp only [dh,SS,Nat.reduceAdd]
   refine ⟨?_, ?_⟩
   . exact ag▸⟨.nils,rfl,View.nils 1⟩
   . simp only [SS,Nat.reduceAdd,hb,fj e9]
     exact ag▸⟨_,rfl,View.Py 1⟩
 | cons e es =>
   simp only [dh,SS,Nat.reduceAdd,hb]
   rw [gU (es:=[]) e9 (by simp) (by simpa using hl) (cO (by simp at hl ⊢;omega)) (by simpa using h1)]
   simp only [SS,Nat.reduceAdd]
   refine ag▸⟨_,rfl,View.osl (bk:=⟨e::es,1,false⟩) rfl rfl (by simp) ?_ (by simp) hk⟩
   simpa using aY.pure hp
theorem ic {f:FuncId} (h:Has P f bf) {es:List AV} (hk:∀ e∈es,e.size=7) (h1:(es.all fun e=>e.cells.all AV.one)=true) (hp:∀ c∈flat es,af c) (hl:es.length*112<=140737488355328):VP P G f [.sl 7 es] (.sl 7 es):=by
 refine VP.has h ?_
 have hb:∀ (σ : aa) (p:Id),cl σ p (.buildSl 7 0 (AV.agg [(.int .i64 (0)),(.bool false), .nils,(.bool false), .nils,(.str []), .nils]) [])=some { val := .tsl 7 [] }:=fun σ p=>TS rfl rfl
 cases es with
 | nil =>
   simp only [bf,SS,Nat.reduceAdd]
   refine ⟨?_, ?_⟩
   . exact ag▸⟨.nils,rfl,View.nils 7⟩
   . simp only [SS,Nat.reduceAdd,hb,fj e9]
     exact ag▸⟨_,rfl,View.Py 7⟩
 | cons e es =>
   simp only [bf,SS,Nat.reduceAdd,hb]
   rw [gU (es:=[]) e9 (by simp) (by simpa using hl) (cO (by simp at hl ⊢;omega)) (by simpa using h1)]
   simp only [SS,Nat.reduceAdd]
   refine ag▸⟨_,rfl,View.osl (bk:=⟨e::es,7,false⟩) rfl rfl (by simp) ?_ (by simp) hk⟩
   simpa using aY.pure hp
theorem Oe (l:List bP):((l.map bP.av).all fun e=>e.cells.all AV.one)=true:=by
 rw [List.all_eq_true];intro e he;simp only [List.mem_map] at he;obtain ⟨F,_,rfl⟩:=he;exact F.one▸trivial
theorem Og {f:FuncId} (h:Has P f aX) {l:List bP} (bY:l≠[]) (hl:l.length*80<=140737488355328) (p:Id) :
   aB P G f [zk l] p [] { val := .osl (5::p) 5 0 l.length false,rd:=[],up:=[(5::p,some ⟨l.map bP.av,5,false⟩)] }:=by
 refine aB.has h ?_
 have hb:∀ (σ : aa) (p:Id),cl σ p (.buildSl 5 0 (.agg [(.str []),(.int .i64 (0)), .nils, .nils,(.bool false)]) [])=some { val := .tsl 5 [] }:=fun σ p=>TS rfl rfl
 have xz:=Oe l
 cases l with
 | nil=>exact absurd rfl bY
 | cons F l =>
   simp only [List.map_cons] at xz
   simp only [aX,zk,SS,Nat.reduceAdd,hb]
   rw [gU (es:=[]) e9 (by simp) (by simpa using hl) (cO (by simp at hl ⊢;omega)) (by simpa using xz)]
   simp only [SS,Nat.reduceAdd]
   refine aU▸aA (by simp [bU,cy]) fun i => ?_
   by_cases hi:i=5::p
   . right;subst hi;simp [aa.app,aa.put]
   . left;simp [aa.app,aa.put,hi,aa.of]
end
end Go.VL
end

section
set_option linter.unusedVariables false
namespace Go.VL
section
variable {P:Program} {G:Nat->Option (List AV)}
theorem je:(AV.cells (.agg [(.str []),(.int .i64 (0)), .nils, .nils,(.bool false)])).all AV.one=true:=rfl
end
end Go.VL
end

section
set_option linter.unusedVariables false
set_option linter.unusedVariables false
namespace Go.VL
structure FX where
 name:List UInt8
 kind:Int
 aC:List (List UInt8)
 bG:List EX
 supp:Bool
def FX.eJ (X:FX):bP:=⟨X.name,X.kind,X.aC,EX.kY X.bG,X.supp⟩
def FX.av (X:FX):AV:=X.eJ.av
structure FX.Ok (X:FX):Prop where
 name:X.name.length<=9223372036854775807
 ins:X.aC.length<=9223372036854775807
 inl:∀ s∈X.aC,s.length<=9223372036854775807
 vl:X.bG.length<=9223372036854775807
 bG:∀ e∈X.bG,e.Ok
theorem FX.pure (X:FX):af X.eJ.av:=af.agg (by
 intro c hc
 simp [FX.eJ] at hc
 rcases hc with rfl | rfl | rfl | rfl | rfl
 . exact af.str _
 . exact af.int _ _
 . exact gY _
 . exact EX.eM _
 . exact af.bool _)
theorem FX.RQ {X:FX} (hi:X.aC.length<=1000) (OV:X.bG.length<=1000):X.eJ.Ok:=⟨fun v hv=>by
 show oz v
 have nA:v∈EX.kY X.bG:=hv
 rw [EX.cJ] at nA
 obtain ⟨e,_,rfl⟩:=List.mem_map.1 nA
 exact e.aaQ,by show X.aC.length<_;omega,by show (EX.kY X.bG).length<_;rw [EX.a8];omega⟩
def uM (e:EX):Bool:=e.formed&&decide (e.depth<=40)
def FX.valid (X:FX):Bool:=bg X.name&&decide (1<=X.kind)&&decide (X.kind<=6)&&decide (X.aC.length<=50)&&decide (X.bG.length<=10)&&X.aC.all (fun s=>(eQ s).isSome)&&X.bG.all uM
def nY (e:EX):Bool:=decide (e.nodes<=120)&&e.nu
def FX.small (X:FX):Bool:=decide (X.aC.length<=60)&&decide (X.bG.length<=12)&&decide (X.name.length<=100)&&X.aC.all (fun s=>decide (s.length<=300))&&X.bG.all nY
noncomputable def exP (q:EX->Bool) (v:AV):Bool := @decide (∃ e:EX,e.av=v/\q e=true) (Classical.propDecidable _)
theorem RT (q:EX->Bool) (e:EX):exP q e.av=q e:=by
 unfold exP
 cases h:q e
 . refine @decide_eq_false _ (Classical.propDecidable _) ?_
   rintro ⟨e',h1,h2⟩
   rw [EX.Rn _ _ h1] at h2
   rw [h] at h2;cases h2
 . exact @decide_eq_true _ (Classical.propDecidable _) ⟨e,rfl,h⟩
def aeg (q:List UInt8->Bool):AV->Bool
 | .str s=>q s
 | _=>false
theorem UJ (q:EX->Bool) (l:List EX):(EX.kY l).any (exP q)=l.any q:=by
 rw [EX.cJ,List.any_map]
 congr 1;funext e;exact RT q e
theorem RU (q:List UInt8->Bool) (l:List (List UInt8)):(l.map AV.str).any (aeg q)=l.any q:=by
 rw [List.any_map];rfl
theorem MH {α : Type} (p : α -> Bool) (l:List α):(l.any fun x => !p x) = !l.all p:=by
 induction l with
 | nil=>rfl
 | cons a l ih=>simp only [List.any_cons,List.all_cons,ih,Bool.not_and]
section
variable {P:Program} {G:Nat->Option (List AV)}
theorem Oh {f fv:FuncId} (h:Has P f (kR fv)) (s:List UInt8) {b:Bool} (hv:VP P G fv [.str s] (.bool b)):VP P G f [.str s] (.bool (!b)):=by
 refine VP.has h ?_
 simp only [kR,SS,Nat.reduceAdd]
 refine aj hv (by simp [af.str]) ?_
 simp only [SS,Nat.reduceAdd]
 exact ag▸ab rfl (af.bool _)
theorem Oi {f fv:FuncId} (h:Has P f (mY fv)) (e:EX) (hv:VP P G fv [e.av] (.int .i64 (if e.formed=true then (if 40<e.depth then 3 else 0) else 1))):VP P G f [e.av] (.bool (!uM e)):=by
 have hd:decide ((if e.formed=true then (if 40<e.depth then (3:Int) else 0) else 1)≠0) = !uM e:=by
   unfold uM
   cases e.formed
   . rfl
   . by_cases h40:40<e.depth
     . have : ¬ e.depth<=40:=by omega
       simp [h40,this]
     . have:e.depth<=40:=by omega
       simp [h40,this]
 refine VP.has h ?_
 simp only [mY,SS,Nat.reduceAdd,EX.one,ae,EX.all]
 refine aj hv (by simp [EX.pure]) ?_
 simp only [SS,Nat.reduceAdd,hd]
 exact ag▸ab rfl (af.bool _)
theorem Oj (l:List (List UInt8)):∀ e∈l.map AV.str,part false e.cells 0 1=some e:=by
 intro e he
 obtain ⟨s,_,rfl⟩:=List.mem_map.1 he
 rfl
theorem Ol {f fn YJ v1 YK v2 fi1 fi2:FuncId} (h:Has P f (ki fn YJ v1 YK v2)) (hn:∀ s,VP P G fn [.str s] (.bool (bg s))) (OS:Has P YJ (cp fi1)) (TR:Has P fi1 cC)
   (HZ:Has P YK (bA fi2)) (En:Has P fi2 bK) (X:FX) (hX:X.Ok) (hi:X.aC.length<=1000) (OV:X.bG.length<=1000)
   (pf:∀ s∈X.aC,VP P G v1 [.str s] (.bool (!(eQ s).isSome))) (te:∀ e∈X.bG,VP P G v2 [e.av] (.bool (!uM e))):VP P G f [X.av] (.bool X.valid):=by
 have h1:VP P G YJ [strs X.aC, .fn (.func v1) [] []] (.bool (!X.aC.all (fun s=>(eQ s).isSome))):=by
   rw [<- MH, <- RU]
   refine lP OS (mE TR (Oj _) ?_ ?_ (by simp) (by simp) (by rw [List.length_map];omega)) (gY _) (kq _)
   all_goals
     intro v hv
     obtain ⟨s,hs,rfl⟩:=List.mem_map.1 hv
   . exact pf s hs
   . exact af.str _
 have h2:VP P G YK [.sl 7 (EX.kY X.bG), .fn (.func v2) [] []] (.bool (!X.bG.all uM)):=by
   rw [<- MH, <- UJ]
   refine fy HZ (gd En ?_ ?_ ?_ (by simp) (by simp) (by rw [EX.a8];omega)) (EX.eM _) (kq _)
   all_goals
     intro v hv
     rw [EX.cJ] at hv
     obtain ⟨x,hx,rfl⟩:=List.mem_map.1 hv
   . exact EX.all x
   . rw [RT];exact te x hx
   . exact EX.pure x
 have:=Rm h hn X.eJ (FX.RQ hi OV) (fun _=>h1) (fun _=>h2)
 have e:(bg X.eJ.name&&decide (1<=X.eJ.kind)&&decide (X.eJ.kind<=6)&&decide (X.eJ.aC.length<=50)&&decide (X.eJ.values.length<=10) && !(!X.aC.all (fun s=>(eQ s).isSome)) && !(!X.bG.all uM))=X.valid:=by
   unfold FX.valid
   rw [Bool.not_not,Bool.not_not]
   show (bg X.name&&decide (1<=X.kind)&&decide (X.kind<=6)&&decide (X.aC.length<=50)&&decide ((EX.kY X.bG).length<=10)&&_&&_)=_
   rw [EX.a8]
 rw [e] at this
 exact this
theorem RW {f:FuncId} (h:Has P f ld) (l:List (List UInt8)) (hl:l.length<=1000000) (s:List UInt8):VP P G f [strs l, .str s] (.bool (l.contains s)):=by
 refine VP.has h ?_
 have hlen:jN false (strs l)=some (.int .i64 l.length):=by simp [strs,jN]
 simp only [ld,SS,Nat.reduceAdd,aE]
 refine VW.bR (α := Nat × Nat) (fun x=>⟨[strs l, .str s, .top, .top, .bool false, .int .i64 (x.1:Int)]++List.replicate 12 .top,fun _=>none,x.2⟩)
   (fun x=>x.1<=l.length/\(l.take x.1).contains s=false) (fun x=>l.length-x.1) (0,1000) ?_ ⟨Nat.zero_le _,by simp⟩ ?_
 . exact Wk.bc (by simp [Fg,List.replicate]) (by omega)
 rintro ⟨i,nn⟩ ⟨hi,qy⟩
 simp only [] at hi qy
 by_cases aN:i<l.length
 . obtain ⟨c,hc⟩:∃ c,l[i]? = some c:=⟨_,List.getElem?_eq_getElem aN⟩
   have hm:=List.mem_of_getElem? hc
   have hg:(l.map AV.str)[i]? = some (.str c):=by rw [List.getElem?_map,hc];rfl
   have dd:decide ((i:Int)<(l.length:Int))=true:=an (by omega)
   have BT:part false (AV.str c).cells 0 1=some (.str c):=rfl
   have iB:bz 1 (strs l) (.int .i64 (i:Int))=some (.ep (AV.str c).cells 0):=aS rfl hg
   cases b:(c==s)
   . simp only [SS,Nat.reduceAdd,hlen,dd,iB,az,BT,b,aq i (by omega)]
     refine ⟨(i+1,nn+1000),⟨by simp only [];omega, ?_⟩,by simp only [];omega,Wk.bc (by simp [Fg]) (by omega)⟩
     simp only []
     have BA : ¬ c=s:=by simpa using b
     have aeh : ¬ s∈l.take i:=by simpa using qy
     rw [List.take_add_one,hc,Option.toList_some]
     simp only [List.contains_eq_mem,List.mem_append,List.mem_singleton]
     exact decide_eq_false (by rintro (q | q);exact aeh q;exact BA q.symm)
   . have BA:c=s:=by simpa using b
     have:l.contains s=true:=by rw [<- BA];simpa using hm
     rw [this]
     simp only [SS,Nat.reduceAdd,hlen,dd,iB,az,BT,b]
     exact ag▸ab rfl (af.bool _)
 . have dd:decide ((i:Int)<(l.length:Int))=false:=ak (by omega)
   have jf:i=l.length:=by omega
   rw [jf,List.take_length] at qy
   rw [qy]
   simp only [SS,Nat.reduceAdd,hlen,dd]
   exact ag▸ab rfl (af.bool _)
end
end Go.VL
end

section
set_option linter.unusedVariables false
set_option linter.unusedVariables false
namespace Go.VL
theorem FX.wh (X:FX):X.eJ.name=X.name:=rfl
theorem FX.Dw (X:FX):X.eJ.kind=X.kind:=rfl
theorem FX.ig (X:FX):X.eJ.aC=X.aC:=rfl
theorem FX.nw (X:FX):X.eJ.values=EX.kY X.bG:=rfl
theorem dE (l:List (List UInt8)):jN false (strs l)=some (.int .i64 l.length):=by simp [strs,jN]
theorem Om (e:EX):decide ((if e.formed=true then (if 40<e.depth then (3:Int) else 0) else 1)≠0) = !uM e:=by
 unfold uM
 cases e.formed
 . rfl
 . by_cases h40:40<e.depth
   . have : ¬ e.depth<=40:=by omega
     simp [h40,this]
   . have:e.depth<=40:=by omega
     simp [h40,this]
theorem Gk (s:List UInt8):((eQ s).getD []==([]:List UInt8)) = !(eQ s).isSome:=by
 unfold eQ
 cases hs:kr s with
 | none=>rfl
 | some k =>
   simp only []
   split
   . rename_i h
     simp only [Bool.and_eq_true] at h
     have hn:=h.1.2
     cases ht:s.take k with
     | nil=>rw [ht] at hn;cases hn
     | cons a l=>rfl
   . rfl
section
variable {P:Program} {G:Nat->Option (List AV)}
theorem IU {f fn fv ff:FuncId} (h:Has P f (cI fn fv ff)) (X:FX) (hX:X.Ok) (hn:VP P G fn [.str X.name] (.bool (bg X.name)))
   (hv:∀ e∈X.bG,VP P G fv [e.av] (.int .i64 (if e.formed=true then (if 40<e.depth then 3 else 0) else 1))) (hf:∀ s∈X.aC,VP P G ff [.str s] (.str ((eQ s).getD []))):VP P G f [X.av] (.bool X.valid):=by
 show VP P G f [X.eJ.av] _
 have uN:=FX.pure X
 have il:=hX.ins
 have vl:=hX.vl
 unfold FX.valid
 have k1:decide (X.kind<1) = !decide (1<=X.kind):=by by_cases q:1<=X.kind<;>simp [q]<;>omega
 have k2:decide (6<X.kind) = !decide (X.kind<=6):=by by_cases q:X.kind<=6<;>simp [q]<;>omega
 have k3:decide ((50:Int)<(X.aC.length:Int)) = !decide (X.aC.length<=50):=by by_cases q:X.aC.length<=50<;>simp [q]<;>omega
 have k4:decide ((10:Int)<(X.bG.length:Int)) = !decide (X.bG.length<=10):=by by_cases q:X.bG.length<=10<;>simp [q]<;>omega
 cases b1:bg X.name
 . rw [b1] at hn
   refine VP.has h ?_
   simp only [cI,SS,Nat.reduceAdd,bP.one,ae,bP.p0,FX.wh]
   refine aj hn (by simp [af.str]) ?_
   simp only [SS,Nat.reduceAdd,Bool.false_and]
   exact ag▸ab rfl (af.bool _)
 rw [b1] at hn
 cases b2:decide (1<=X.kind)
 . rw [b2] at k1
   refine VP.has h ?_
   simp only [cI,SS,Nat.reduceAdd,bP.one,ae,bP.p0,FX.wh]
   refine aj hn (by simp [af.str]) ?_
   simp only [SS,Nat.reduceAdd,ae,bP.p1,FX.Dw,k1,Bool.false_and,Bool.and_false]
   exact ag▸ab rfl (af.bool _)
 rw [b2] at k1
 cases b3:decide (X.kind<=6)
 . rw [b3] at k2
   refine VP.has h ?_
   simp only [cI,SS,Nat.reduceAdd,bP.one,ae,bP.p0,FX.wh]
   refine aj hn (by simp [af.str]) ?_
   simp only [SS,Nat.reduceAdd,ae,bP.p1,FX.Dw,k1,k2,Bool.false_and,Bool.and_false]
   exact ag▸ab rfl (af.bool _)
 rw [b3] at k2
 cases b4:decide (X.aC.length<=50)
 . rw [b4] at k3
   refine VP.has h ?_
   simp only [cI,SS,Nat.reduceAdd,bP.one,ae,bP.p0,FX.wh]
   refine aj hn (by simp [af.str]) ?_
   simp only [SS,Nat.reduceAdd,ae,bP.p1,bP.p2,FX.Dw,FX.ig,dE,k1,k2,k3,Bool.false_and,Bool.and_false]
   exact ag▸ab rfl (af.bool _)
 rw [b4] at k3
 cases b5:decide (X.bG.length<=10)
 . rw [b5] at k4
   refine VP.has h ?_
   simp only [cI,SS,Nat.reduceAdd,bP.one,ae,bP.p0,FX.wh]
   refine aj hn (by simp [af.str]) ?_
   simp only [SS,Nat.reduceAdd,ae,bP.p1,bP.p2,bP.p3,FX.Dw,FX.ig,FX.nw,dE,EX.a8,k1,k2,k3,k4,Bool.false_and,Bool.and_false]
   exact ag▸ab rfl (af.bool _)
 rw [b5] at k4
 refine VP.has h ?_
 simp only [cI,SS,Nat.reduceAdd,bP.one,ae,bP.p0,FX.wh]
 refine aj hn (by simp [af.str]) ?_
 simp only [SS,Nat.reduceAdd,ae,bP.p1,bP.p2,bP.p3,FX.Dw,FX.ig,FX.nw,dE,EX.a8,k1,k2,k3,k4,Bool.true_and,aE]
 refine VW.bR (α := Nat × Nat) (fun x=>⟨[X.eJ.av, .ref [0] 0 0, .bool false, .int .i64 (x.1:Int)]++List.replicate 55 .top,aa.put (fun _=>none) [0] (some ⟨[X.eJ.av],5,false⟩),x.2⟩)
   (fun x=>x.1<=X.bG.length/\(X.bG.take x.1).all uM=true) (fun x=>X.bG.length-x.1) (0,1000) ?_ ⟨Nat.zero_le _,by simp⟩ ?_
 . exact Wk.bc (by simp [Fg,List.replicate]) (by omega)
 rintro ⟨i,nn⟩ ⟨hi,cD⟩
 simp only [] at hi cD
 by_cases aN:i<X.bG.length
 . obtain ⟨e,he⟩:∃ e,X.bG[i]? = some e:=⟨_,List.getElem?_eq_getElem aN⟩
   have hm:=List.mem_of_getElem? he
   have hg:(EX.kY X.bG)[i]? = some e.av:=by rw [EX.cJ,List.getElem?_map,he];rfl
   have dd:decide ((i:Int)<(X.bG.length:Int))=true:=an (by omega)
   have MI:=Om e
   simp only [SS,Nat.reduceAdd,ae,bP.p3,FX.nw,EX.a8,dd,aS rfl hg,az,EX.all]
   refine aj (hv e hm) (by simp [EX.pure]) ?_
   cases ta:uM e
   . rw [ta] at MI
     have:X.bG.all uM=false:=by
       rw [Bool.eq_false_iff];intro hh
       rw [List.all_eq_true] at hh
       rw [hh e hm] at ta;cases ta
     rw [this]
     simp only [SS,Nat.reduceAdd,MI,Bool.and_false]
     exact ag▸ab rfl (af.bool _)
   . rw [ta] at MI
     simp only [SS,Nat.reduceAdd,MI,aq i (by omega)]
     refine ⟨(i+1,nn+1000),⟨by simp only [];omega, ?_⟩,by simp only [];omega,Wk.bc (by simp [Fg]) (by omega)⟩
     simp only []
     rw [List.take_add_one,he,List.all_append,cD]
     simp [ta]
 . have dd:decide ((i:Int)<(X.bG.length:Int))=false:=ak (by omega)
   have jf:i=X.bG.length:=by omega
   rw [jf,List.take_length] at cD
   rw [cD,Bool.and_true]
   simp only [SS,Nat.reduceAdd,ae,bP.p3,FX.nw,EX.a8,dd,aE]
   refine VW.bR (α := Nat × Nat) (fun x=>⟨[X.eJ.av, .ref [0] 0 0, .bool false, .top, .int .i64 (x.1:Int)]++List.replicate 54 .top,aa.put (fun _=>none) [0] (some ⟨[X.eJ.av],5,false⟩),x.2⟩)
     (fun x=>x.1<=X.aC.length/\(X.aC.take x.1).all (fun s=>(eQ s).isSome)=true) (fun x=>X.aC.length-x.1) (0,nn+1000) ?_ ⟨Nat.zero_le _,by simp⟩ ?_
   . exact Wk.bc (by simp [Fg,List.replicate]) (by omega)
   rintro ⟨j,mm⟩ ⟨hj,zn⟩
   simp only [] at hj zn
   by_cases rk:j<X.aC.length
   . obtain ⟨s,hs⟩:∃ s,X.aC[j]? = some s:=⟨_,List.getElem?_eq_getElem rk⟩
     have hm:=List.mem_of_getElem? hs
     have hg:(X.aC.map AV.str)[j]? = some (.str s):=by rw [List.getElem?_map,hs];rfl
     have iB:bz 1 (strs X.aC) (.int .i64 (j:Int))=some (.ep (AV.str s).cells 0):=aS rfl hg
     have BT:part false (AV.str s).cells 0 1=some (.str s):=rfl
     have dd:decide ((j:Int)<(X.aC.length:Int))=true:=an (by omega)
     have MI:=Gk s
     simp only [SS,Nat.reduceAdd,ae,bP.p2,FX.ig,dE,dd,iB,az,BT]
     refine aj (hf s hm) (by simp [af.str]) ?_
     cases ta:(eQ s).isSome
     . rw [ta] at MI
       have:X.aC.all (fun s=>(eQ s).isSome)=false:=by
         rw [Bool.eq_false_iff];intro hh
         rw [List.all_eq_true] at hh
         have:=hh s hm
         rw [ta] at this;cases this
       rw [this]
       simp only [SS,Nat.reduceAdd,MI]
       exact ag▸ab rfl (af.bool _)
     . rw [ta] at MI
       simp only [SS,Nat.reduceAdd,MI,aq j (by omega)]
       refine ⟨(j+1,mm+1000),⟨by simp only [];omega, ?_⟩,by simp only [];omega,Wk.bc (by simp [Fg]) (by omega)⟩
       simp only []
       rw [List.take_add_one,hs,List.all_append,zn]
       simp [ta]
   . have dd:decide ((j:Int)<(X.aC.length:Int))=false:=ak (by omega)
     have BZ:j=X.aC.length:=by omega
     rw [BZ,List.take_length] at zn
     rw [zn]
     simp only [SS,Nat.reduceAdd,ae,bP.p2,FX.ig,dE,dd]
     exact ag▸ab rfl (af.bool _)
theorem IW {f fs:FuncId} (h:Has P f (dT fs)) (X:FX) (hX:X.Ok) (hs:∀ e∈X.bG,VP P G fs [e.av] (.bool (nY e))):VP P G f [X.av] (.bool X.small):=by
 show VP P G f [X.eJ.av] _
 have uN:=FX.pure X
 have il:=hX.ins
 have vl:=hX.vl
 unfold FX.small
 have k3:decide ((60:Int)<(X.aC.length:Int)) = !decide (X.aC.length<=60):=by by_cases q:X.aC.length<=60<;>simp [q]<;>omega
 have k4:decide ((12:Int)<(X.bG.length:Int)) = !decide (X.bG.length<=12):=by by_cases q:X.bG.length<=12<;>simp [q]<;>omega
 have k5:decide ((100:Int)<(X.name.length:Int)) = !decide (X.name.length<=100):=by by_cases q:X.name.length<=100<;>simp [q]<;>omega
 cases b3:decide (X.aC.length<=60)
 . rw [b3] at k3
   refine VP.has h ?_
   simp only [dT,SS,Nat.reduceAdd,bP.one,ae,bP.p2,FX.ig,dE,k3,Bool.false_and]
   exact ag▸ab rfl (af.bool _)
 rw [b3] at k3
 cases b4:decide (X.bG.length<=12)
 . rw [b4] at k4
   refine VP.has h ?_
   simp only [dT,SS,Nat.reduceAdd,bP.one,ae,bP.p2,bP.p3,FX.ig,FX.nw,dE,EX.a8,k3,k4,Bool.false_and,Bool.and_false]
   exact ag▸ab rfl (af.bool _)
 rw [b4] at k4
 cases b5:decide (X.name.length<=100)
 . rw [b5] at k5
   refine VP.has h ?_
   simp only [dT,SS,Nat.reduceAdd,bP.one,ae,bP.p0,bP.p2,bP.p3,FX.wh,FX.ig,FX.nw,dE,EX.a8,k3,k4,k5,Bool.false_and,Bool.and_false]
   exact ag▸ab rfl (af.bool _)
 rw [b5] at k5
 refine VP.has h ?_
 simp only [dT,SS,Nat.reduceAdd,bP.one,ae,bP.p0,bP.p2,bP.p3,FX.wh,FX.ig,FX.nw,dE,EX.a8,k3,k4,k5,Bool.true_and,aE]
 refine VW.bR (α := Nat × Nat) (fun x=>⟨[X.eJ.av, .ref [0] 0 0, .bool false, .int .i64 (x.1:Int)]++List.replicate 45 .top,aa.put (fun _=>none) [0] (some ⟨[X.eJ.av],5,false⟩),x.2⟩)
   (fun x=>x.1<=X.aC.length/\(X.aC.take x.1).all (fun s=>decide (s.length<=300))=true) (fun x=>X.aC.length-x.1) (0,1000) ?_ ⟨Nat.zero_le _,by simp⟩ ?_
 . exact Wk.bc (by simp [Fg,List.replicate]) (by omega)
 rintro ⟨j,mm⟩ ⟨hj,zn⟩
 simp only [] at hj zn
 by_cases rk:j<X.aC.length
 . obtain ⟨s,zK⟩:∃ s,X.aC[j]? = some s:=⟨_,List.getElem?_eq_getElem rk⟩
   have hm:=List.mem_of_getElem? zK
   have Cn:=hX.inl s hm
   have hg:(X.aC.map AV.str)[j]? = some (.str s):=by rw [List.getElem?_map,zK];rfl
   have iB:bz 1 (strs X.aC) (.int .i64 (j:Int))=some (.ep (AV.str s).cells 0):=aS rfl hg
   have BT:part false (AV.str s).cells 0 1=some (.str s):=rfl
   have dd:decide ((j:Int)<(X.aC.length:Int))=true:=an (by omega)
   have MI:decide ((300:Int)<(s.length:Int)) = !decide (s.length<=300):=by by_cases q:s.length<=300<;>simp [q]<;>omega
   cases ta:decide (s.length<=300)
   . rw [ta] at MI
     have:X.aC.all (fun s=>decide (s.length<=300))=false:=by
       rw [Bool.eq_false_iff];intro hh
       rw [List.all_eq_true] at hh
       have:=hh s hm
       rw [ta] at this;cases this
     rw [this]
     simp only [SS,Nat.reduceAdd,ae,bP.p2,FX.ig,dE,dd,iB,az,BT,MI,Bool.false_and]
     exact ag▸ab rfl (af.bool _)
   . rw [ta] at MI
     simp only [SS,Nat.reduceAdd,ae,bP.p2,FX.ig,dE,dd,iB,az,BT,MI,aq j (by omega)]
     refine ⟨(j+1,mm+1000),⟨by simp only [];omega, ?_⟩,by simp only [];omega,Wk.bc (by simp [Fg]) (by omega)⟩
     simp only []
     rw [List.take_add_one,zK,List.all_append,zn]
     simpa using ta
 . have dd:decide ((j:Int)<(X.aC.length:Int))=false:=ak (by omega)
   have BZ:j=X.aC.length:=by omega
   rw [BZ,List.take_length] at zn
   rw [zn,Bool.true_and]
   simp only [SS,Nat.reduceAdd,ae,bP.p2,FX.ig,dE,dd,aE]
   refine VW.bR (α := Nat × Nat) (fun x=>⟨[X.eJ.av, .ref [0] 0 0, .bool false, .top, .int .i64 (x.1:Int)]++List.replicate 44 .top,aa.put (fun _=>none) [0] (some ⟨[X.eJ.av],5,false⟩),x.2⟩)
     (fun x=>x.1<=X.bG.length/\(X.bG.take x.1).all nY=true) (fun x=>X.bG.length-x.1) (0,mm+1000) ?_ ⟨Nat.zero_le _,by simp⟩ ?_
   . exact Wk.bc (by simp [Fg,List.replicate]) (by omega)
   rintro ⟨i,nn⟩ ⟨hi,cD⟩
   simp only [] at hi cD
   by_cases aN:i<X.bG.length
   . obtain ⟨e,he⟩:∃ e,X.bG[i]? = some e:=⟨_,List.getElem?_eq_getElem aN⟩
     have hm:=List.mem_of_getElem? he
     have hg:(EX.kY X.bG)[i]? = some e.av:=by rw [EX.cJ,List.getElem?_map,he];rfl
     have dd:decide ((i:Int)<(X.bG.length:Int))=true:=an (by omega)
     simp only [SS,Nat.reduceAdd,ae,bP.p3,FX.nw,EX.a8,dd,aS rfl hg,az,EX.all]
     refine aj (hs e hm) (by simp [EX.pure]) ?_
     cases ta:nY e
     . have:X.bG.all nY=false:=by
         rw [Bool.eq_false_iff];intro hh
         rw [List.all_eq_true] at hh
         rw [hh e hm] at ta;cases ta
       rw [this]
       simp only [SS,Nat.reduceAdd]
       exact ag▸ab rfl (af.bool _)
     . simp only [SS,Nat.reduceAdd,aq i (by omega)]
       refine ⟨(i+1,nn+1000),⟨by simp only [];omega, ?_⟩,by simp only [];omega,Wk.bc (by simp [Fg]) (by omega)⟩
       simp only []
       rw [List.take_add_one,he,List.all_append,cD]
       simp [ta]
   . have dd:decide ((i:Int)<(X.bG.length:Int))=false:=ak (by omega)
     have jf:i=X.bG.length:=by omega
     rw [jf,List.take_length] at cD
     rw [cD]
     simp only [SS,Nat.reduceAdd,ae,bP.p3,FX.nw,EX.a8,dd]
     exact ag▸ab rfl (af.bool _)
end
end Go.VL
end

section
set_option linter.unusedVariables false
set_option linter.unusedVariables false
namespace Go.VL
theorem uu {σ : aa} {q:Id} {x:List UInt8}:cl σ q (.buildSl 1 1 (.str []) [(0, .str x)])=some { val := .osl q 1 0 1 false,up:=[(q,some ⟨[.str x],1,false⟩)] }:=WQ rfl rfl rfl rfl
theorem sR (l:List (List UInt8)):((l.map AV.str).all fun e=>e.cells.all AV.one)=true:=by
 rw [List.all_eq_true];intro e he;obtain ⟨s,_,rfl⟩:=List.mem_map.1 he;rfl
theorem oD {σ : aa} {p q:Id} {x:List UInt8}:cg (σ.put q (some ⟨[.str x],1,false⟩)) p 1 16 .nils (.osl q 1 0 1 false)=some { val := .osl p 1 0 1 false,rd:=[q],up:=[(p,some ⟨[.str x],1,false⟩)] } :=
 ub (x := .osl q 1 0 1 false) (ys:=[.str x]) (jI (bk:=⟨[.str x],1,false⟩) (aa.bd _ _ _) rfl (by simp)) (by simp) (by simp) (cO (by simp)) (sR [x])
theorem zo {σ : aa} {p id q:Id} {o:List (List UInt8)} {x:List UInt8} (hq:q≠id) (hb:o.length<=1000000) (h : σ id=some ⟨o.map .str,1,false⟩) :
   cg (σ.put q (some ⟨[.str x],1,false⟩)) p 1 16 (.osl id 1 0 o.length false) (.osl q 1 0 1 false)=some { val := .osl p 1 0 (o.length+1) false,rd:=[id,q],up:=[(id,none),(p,some ⟨(o++[x]).map .str,1,false⟩)] }:=by
 have:=lM (σ := σ.put q (some ⟨[.str x],1,false⟩)) (p:=p) (id:=id) (k:=1) (bytes:=16) (len:=o.length) (els:=o.map .str) (x := .osl q 1 0 1 false) (ys:=[.str x]) (rd:=[q])
   (jI (bk:=⟨[.str x],1,false⟩) (aa.bd _ _ _) rfl (by simp)) (by simp) (by rw [aa.bj _ _ _ hq.symm];exact h) (by rw [List.length_map]) (by simp;omega) (cO (by simp;omega)) (sR [x]) (sR o)
 rw [this,List.map_append]
 simp
def wZ (ck:Nat) (l:List (List UInt8)):AV:=if l=[] then .nils else .osl [ck] 1 0 l.length false
def X0 (ck:Nat) (l:List (List UInt8)):aa:=aa.put (fun _=>none) [ck] (if l=[] then none else some ⟨l.map .str,1,false⟩)
theorem aaZ {a b:Nat} (h:a≠b) : ¬ ([a]:List Nat) <:+ [b]:=fun hs=>by
 have:=hs.eq_of_length rfl
 simp at this;exact h this
theorem sS {σ : aa} {id:Id} {a t:List (List UInt8)} {b tt:Bool} (h : σ id=some ⟨(a++t).map .str,1,b⟩):View σ (.osl id 1 0 a.length tt) (strs a):=by
 refine View.osl (bk:=⟨(a++t).map .str,1,b⟩) h rfl (by simp) ?_ (by rw [List.length_map]) (by intro d hd;obtain ⟨s,_,rfl⟩:=List.mem_map.1 hd;rfl)
 have e:((((a++t).map AV.str).drop 0).take a.length)=a.map AV.str:=by
   rw [List.drop_zero, <- List.map_take,List.take_left']
   rfl
 show aY _ (flat ((((a++t).map AV.str).drop 0).take a.length)) _
 rw [e]
 exact aY.pure (by rw [wc];intro c hc;obtain ⟨s,_,rfl⟩:=List.mem_map.1 hc;exact af.str s)
section
variable {P:Program} {G:Nat->Option (List AV)}
theorem RX {f fv aa0 fs fc:FuncId} (h:Has P f (kj fv aa0 fs fc)) (X:FX) (hX:X.Ok) (Lh:X.valid=true->X.aC.length<=1000) (hv:VP P G fv [X.av] (.bool X.valid))
   (aa1:∀ s∈X.aC,VP P G aa0 [.str s, .str [47]] (.tup [.str (Lib.cut s [47]).1, .str (Lib.cut s [47]).2.1, .bool (Lib.cut s [47]).2.2]))
   (YM:VP P G fs [.nils] (.tup [])) (JQ:VP P G fc [.nils] .nils) (sf cf:List (List UInt8)->List (List UInt8)) (Yy:∀ l,(sf l).length=l.length) (hcf:∀ l,(cf l).length<=l.length) (hcn:cf (sf [])=[])
   (hs:∀ (l:List (List UInt8)) (id p:Id),l.length<=1000000 -> ¬ p <:+ id->aB P G fs [.osl id 1 0 l.length false] p [(id,⟨l.map .str,1,false⟩)] { val := .tup [],rd:=[id],up:=[(id,some ⟨(sf l).map .str,1,false⟩)] })
   (hc:∀ (l:List (List UInt8)) (id p:Id),l.length<=1000000 -> ¬ p <:+ id->aB P G fc [.osl id 1 0 l.length false] p [(id,⟨l.map .str,1,false⟩)]
     { val := .osl id 1 0 (cf l).length false,rd:=[id],up:=[(id,some ⟨(cf l++List.replicate (l.length-(cf l).length) []).map .str,1,false⟩)] }) :
   VP P G f [X.av] (strs (if X.valid=true then cf (sf (X.aC.map fun s=>(Lib.cut s [47]).1)) else [])):=by
 show VP P G f [X.eJ.av] _
 have OV:VP P G fv [X.eJ.av] (.bool X.valid):=hv
 have uN:=FX.pure X
 cases kX:X.valid
 . rw [kX] at OV
   rw [if_neg (by decide)]
   refine VP.has h ?_
   simp only [kj,SS,Nat.reduceAdd,bP.one,ae,bP.whole]
   refine aj OV (by simp [uN]) ?_
   simp only [SS,Nat.reduceAdd]
   exact ag▸⟨_,rfl,View.nils 1⟩
 rw [kX] at OV
 rw [if_pos rfl]
 have hlen:=Lh kX
 generalize x5:(X.aC.map fun s=>(Lib.cut s [47]).1)=names
 have yl:names.length=X.aC.length:=by rw [<- x5,List.length_map]
 refine VP.has h ?_
 simp only [kj,SS,Nat.reduceAdd,bP.one,ae,bP.whole]
 refine aj OV (by simp [uN]) ?_
 simp only [SS,Nat.reduceAdd,ae,bP.p2,FX.ig,dE,aE]
 refine VW.bR (α := Nat × Nat × Nat) (fun x=>⟨[X.eJ.av, .top, .top,wZ x.2.1 (names.take x.1)]++List.replicate 9 .top++[strs X.aC, .int .i64 (X.aC.length:Int), .int .i64 (x.1:Int)]++List.replicate 18 .top,X0 x.2.1 (names.take x.1),x.2.2⟩)
   (fun x=>x.1<=X.aC.length/\x.2.1<x.2.2) (fun x=>X.aC.length-x.1) (0,1,1000) ?_ ⟨Nat.zero_le _,by decide⟩ ?_
 . refine Wk.forget (by simp [Fg,List.replicate,wZ]) (fun j => ?_) (by simp only [];omega)
   left;simp [X0,aa.put]
 rintro ⟨i,ck,nn⟩ ⟨hi,Q3⟩
 simp only [] at hi Q3
 by_cases aN:i<X.aC.length
 . obtain ⟨s,zK⟩:∃ s,X.aC[i]? = some s:=⟨_,List.getElem?_eq_getElem aN⟩
   have hm:=List.mem_of_getElem? zK
   have hg:(X.aC.map AV.str)[i]? = some (.str s):=by rw [List.getElem?_map,zK];rfl
   have iB:bz 1 (strs X.aC) (.int .i64 (i:Int))=some (.ep (AV.str s).cells 0):=aS rfl hg
   have BT:part false (AV.str s).cells 0 1=some (.str s):=rfl
   have dd:decide ((i:Int)<(X.aC.length:Int))=true:=an (by omega)
   have JI:names.take (i+1)=names.take i++[(Lib.cut s [47]).1]:=by
     rw [List.take_add_one, <- x5,List.getElem?_map,zK];rfl
   have IX : ¬ names.take i++[(Lib.cut s [47]).1]=[]:=by simp
   have D9:(names.take i).length=i:=by rw [List.length_take];omega
   by_cases h0:i=0
   . subst h0
     have e0:wZ ck (names.take 0) = .nils:=by simp [wZ]
     simp only [e0]
     simp only [SS,Nat.reduceAdd,List.replicate,dd,iB,az,BT]
     refine aj (aa1 s hm) (by simp [af.str]) ?_
     simp only [SS,Nat.reduceAdd,qi,qj,qk,uu,oD,aq 0 (by omega)]
     refine ⟨(0+1,nn+1+3+9+3,nn+1000),⟨by simp only [];omega,by simp only [];omega⟩,by simp only [];omega, ?_⟩
     simp only [JI]
     simp only [List.take_zero,List.nil_append,wZ,X0,List.cons_ne_nil,if_false,if_true,List.map_cons,List.map_nil,List.length_singleton]
     refine Wk.forget (by simp [Fg]) (fun j => ?_) (by omega)
     by_cases h1:j=[nn+1+3+9+3]
     . subst h1;right;simp [aa.put]
     . left;simp [aa.put,h1]
   . have bY : ¬ names.take i=[]:=by intro e;rw [e] at D9;simp at D9;omega
     have e0:wZ ck (names.take i) = .osl [ck] 1 0 (names.take i).length false:=if_neg bY
     have zJ:∀ (p q:Id),q≠[ck]->cg ((X0 ck (names.take i)).put q (some ⟨[.str (Lib.cut s [47]).1],1,false⟩)) p 1 16 (.osl [ck] 1 0 (names.take i).length false) (.osl q 1 0 1 false)=some { val := .osl p 1 0 ((names.take i).length+1) false,rd:=[[ck],q],up:=[([ck],none),(p,some ⟨(names.take i++[(Lib.cut s [47]).1]).map .str,1,false⟩)] } :=
       fun p q hq=>zo hq (by omega) (by unfold X0;rw [aa.bd,if_neg bY])
     have hq:([nn+1+3+9+2]:List Nat)≠[ck]:=by intro e;simp at e;omega
     simp only [e0]
     simp only [SS,Nat.reduceAdd,List.replicate,dd,iB,az,BT]
     refine aj (aa1 s hm) (by simp [af.str]) ?_
     simp only [SS,Nat.reduceAdd,qi,qj,qk,uu,zJ _ _ hq,aq i (by omega)]
     refine ⟨(i+1,nn+1+3+9+3,nn+1000),⟨by simp only [];omega,by simp only [];omega⟩,by simp only [];omega, ?_⟩
     simp only [JI]
     simp only [wZ,if_neg IX,List.length_append,List.length_singleton]
     refine Wk.forget (by simp [Fg]) (fun j => ?_) (by omega)
     unfold X0
     by_cases h1:j=[nn+1+3+9+3]
     . subst h1;right;simp only [aa.bd,if_neg IX]
     . left;simp [aa.put,h1]
 . have dd:decide ((i:Int)<(X.aC.length:Int))=false:=ak (by omega)
   have jf:i=names.length:=by omega
   have JS:names.take i=names:=by rw [jf,List.take_length]
   simp only [JS]
   by_cases h0:names=[]
   . have e0:wZ ck names = .nils:=by simp [wZ,h0]
     have e1:cf (sf names)=[]:=by rw [h0];exact hcn
     rw [e1]
     simp only [e0]
     simp only [SS,Nat.reduceAdd,List.replicate,dd]
     refine aj (args:=[.nils]) YM (by simp [af.nils]) ?_
     simp only [SS,Nat.reduceAdd]
     refine aj (args:=[.nils]) JQ (by simp [af.nils]) ?_
     simp only [SS,Nat.reduceAdd]
     exact ag▸⟨_,rfl,View.nils 1⟩
   . have e0:wZ ck names = .osl [ck] 1 0 names.length false:=if_neg h0
     simp only [e0]
     simp only [SS,Nat.reduceAdd,List.replicate,dd]
     refine ⟨[([ck],⟨names.map .str,1,false⟩)],_,hs names [ck] _ (by omega) (aaZ (by omega)),by simp [X0,h0,aa.put],by simp, ?_⟩
     simp only [SS,Nat.reduceAdd]
     have OS:=fun p hp=>hc (sf names) [ck] p (by rw [Yy];omega) hp
     rw [Yy] at OS
     refine ⟨[([ck],⟨(sf names).map .str,1,false⟩)],_,OS _ (aaZ (by omega)),by simp [aa.put],by simp, ?_⟩
     simp only [SS,Nat.reduceAdd]
     exact ag▸⟨_,rfl,sS (t:=List.replicate (names.length-(cf (sf names)).length) []) (b:=false) (aa.bd _ _ _)⟩
end
end Go.VL
end

section
set_option linter.unusedVariables false
set_option linter.unusedVariables false
namespace Go.VL
def DP (n:List UInt8):List (List UInt8)->Nat
 | []=>0
 | x::l=>if Op.bytesLess x n=true then DP n l+1 else 0
theorem RY (n:List UInt8):∀ l,DP n l<=l.length
 | []=>Nat.le_refl _
 | x::l=>by
   rw [DP]
   split
   . have:=RY n l;simp;omega
   . exact Nat.zero_le _
theorem KJ (n:List UInt8):∀ (l:List (List UInt8)) (k:Nat),k<DP n l->∃ x,l[k]? = some x/\Op.bytesLess x n=true
 | [],k,h=>absurd h (Nat.not_lt_zero k)
 | x :: l,k,h=>by
   rw [DP] at h
   split at h
   . rename_i hx
     cases k with
     | zero=>exact ⟨x,rfl,hx⟩
     | succ k=>exact KJ n l k (by omega)
   . omega
theorem Dx (n:List UInt8):∀ (l:List (List UInt8)) (x:List UInt8),l[DP n l]? = some x->Op.bytesLess x n=false
 | [],x,h=>by simp [DP] at h
 | y :: l,x,h=>by
   rw [DP] at h
   split at h
   . exact Dx n l x (by simpa using h)
   . rename_i hy
     simp at h;subst h;simpa using hy
def w6 (out:List (List UInt8)) (n:List UInt8):List (List UInt8):=if out.contains n=true then out else out.take (DP n out)++[n]++out.drop (DP n out)
theorem RZ (out:List (List UInt8)) (n:List UInt8):(w6 out n).length<=out.length+1:=by
 unfold w6
 split
 . omega
 . simp only [List.length_append,List.length_take,List.length_drop,List.length_singleton];omega
def w7 (ns:List (List UInt8)):List (List UInt8):=ns.foldl w6 []
theorem Fh (ns:List (List UInt8)) (n:List UInt8):w7 (ns++[n])=w6 (w7 ns) n:=by unfold w7;rw [List.foldl_append];rfl
theorem IY (ns:List (List UInt8)) (k:Nat):(w7 (ns.take k)).length<=k:=by
 induction k with
 | zero=>simp [w7]
 | succ k ih =>
   rcases Nat.lt_or_ge k ns.length with aN | ta
   . rw [List.take_add_one,List.getElem?_eq_getElem aN,Option.toList_some,Fh]
     have:=RZ (w7 (ns.take k)) ns[k]
     omega
   . rw [List.take_of_length_le (by omega)]
     rw [List.take_of_length_le ta] at ih
     omega
theorem qY {a b:List UInt8}:br .lss .str (.str a) (.str b)=some (.bool (Op.bytesLess a b)):=rfl
theorem Bp {k l:Nat} {es:List AV} (h:l<=es.length):bZ k (.sl k es) (some (.int .i64 (l:Int))) none none=some (.sl k (es.drop l)):=by
 simp [bZ,cN,dY,h]
theorem zp {σ : aa} {p id:Id} {n:Nat}:cg σ p 1 16 (.osl id 1 0 n false) (.sl 1 [])=some { val := .osl id 1 0 n false,rd:=[] }:=by simp [cg,dD]
theorem IZ {σ : aa} {p id:Id} {o ys:List (List UInt8)} (hy:ys≠[]) (hb:o.length+ys.length<=1000000) (h : σ id=some ⟨o.map .str,1,false⟩) :
   cg σ p 1 16 (.osl id 1 0 o.length false) (.sl 1 (ys.map .str))=some { val := .osl p 1 0 (o.length+ys.length) false,rd:=[id],up:=[(id,none),(p,some ⟨(o++ys).map .str,1,false⟩)] }:=by
 have:=lM (σ := σ) (p:=p) (id:=id) (k:=1) (bytes:=16) (len:=o.length) (els:=o.map .str) (x := .sl 1 (ys.map .str)) (ys:=ys.map .str) (rd:=[])
   e9 (by simpa using hy) h (by rw [List.length_map]) (by simp;omega) (cO (by simp;omega)) (sR ys) (sR o)
 rw [this,List.map_append,List.length_map]
section
variable {P:Program} {G:Nat->Option (List AV)}
theorem On {f fv ff fh:FuncId} (h:Has P f (gD fv ff fh)) (X:FX) (hX:X.Ok) (Lh:X.valid=true->X.aC.length<=1000) (hv:VP P G fv [X.av] (.bool X.valid))
   (hf:∀ s∈X.aC,VP P G ff [.str s] (.str ((eQ s).getD []))) (hh:∀ (l:List (List UInt8)) (s:List UInt8),l.length<=1000000->VP P G fh [strs l, .str s] (.bool (l.contains s))) :
   VP P G f [X.av] (strs (if X.valid=true then w7 (X.aC.map fun s=>(eQ s).getD []) else [])):=by
 show VP P G f [X.eJ.av] _
 have OV:VP P G fv [X.eJ.av] (.bool X.valid):=hv
 have uN:=FX.pure X
 cases kX:X.valid
 . rw [kX] at OV
   rw [if_neg (by decide)]
   refine VP.has h ?_
   simp only [gD,SS,Nat.reduceAdd,bP.one,ae,bP.whole]
   refine aj OV (by simp [uN]) ?_
   simp only [SS,Nat.reduceAdd]
   exact ag▸⟨_,rfl,View.nils 1⟩
 rw [kX] at OV
 rw [if_pos rfl]
 have hlen:=Lh kX
 generalize x5:(X.aC.map fun s=>(eQ s).getD [])=names
 have yl:names.length=X.aC.length:=by rw [<- x5,List.length_map]
 refine VP.has h ?_
 simp only [gD,SS,Nat.reduceAdd,bP.one,ae,bP.whole]
 refine aj OV (by simp [uN]) ?_
 simp only [SS,Nat.reduceAdd,aE]
 refine VW.bR (α := Nat × Nat) (fun x=>⟨[X.eJ.av, .ref [0] 0 0, .top,strs (w7 (names.take x.1)), .int .i64 (x.1:Int)]++List.replicate 55 .top,aa.put (fun _=>none) [0] (some ⟨[X.eJ.av],5,false⟩),x.2⟩)
   (fun x=>x.1<=X.aC.length) (fun x=>X.aC.length-x.1) (0,1000) ?_ (Nat.zero_le _) ?_
 . refine Wk.freeze [] (by simp) (by simp [Nt,List.replicate];exact .inr (.inr (View.nils 1))) (fun j => ?_) (by omega)
   by_cases h1:j=[0]
   . subst h1;right;simp [aa.put,rm,aa.app];rfl
   . left;simp [aa.put,h1]
 rintro ⟨i,nn⟩ hi
 simp only [] at hi
 have Y6:=IY names i
 generalize CG:w7 (names.take i)=out at Y6
 by_cases aN:i<X.aC.length
 . obtain ⟨s,zK⟩:∃ s,X.aC[i]? = some s:=⟨_,List.getElem?_eq_getElem aN⟩
   have hm:=List.mem_of_getElem? zK
   have hg:(X.aC.map AV.str)[i]? = some (.str s):=by rw [List.getElem?_map,zK];rfl
   have iB:bz 1 (strs X.aC) (.int .i64 (i:Int))=some (.ep (AV.str s).cells 0):=aS rfl hg
   have BT:part false (AV.str s).cells 0 1=some (.str s):=rfl
   have dd:decide ((i:Int)<(X.aC.length:Int))=true:=an (by omega)
   generalize hn:(eQ s).getD []=n
   have hfs:=hf s hm
   rw [hn] at hfs
   have qZ:w7 (names.take (i+1))=w6 out n:=by
     rw [List.take_add_one, <- x5,List.getElem?_map,zK,Option.map_some,Option.toList_some,x5,Fh,CG,hn]
   simp only [SS,Nat.reduceAdd,ae,bP.p2,FX.ig,dE,dd,iB,az,BT]
   refine aj hfs (by simp [af.str]) ?_
   simp only [SS,Nat.reduceAdd]
   refine aj (hh out n (by omega)) (by simp [af.str,gY]) ?_
   cases R1:out.contains n
   . have Gl:w6 out n=out.take (DP n out)++[n]++out.drop (DP n out):=by unfold w6;rw [R1];simp
     simp only [SS,Nat.reduceAdd,aE]
     have SW:=RY n out
     refine VW.bR (α := Nat × Nat × Nat) (fun z=>⟨[X.eJ.av, .ref [0] 0 0, .top,strs out, .int .i64 (i:Int), .str n,wZ z.2.1 (out.take z.1), .int .i64 (z.1:Int)]++List.replicate 52 .top,
       (aa.put (fun _=>none) [0] (some ⟨[X.eJ.av],5,false⟩)).put [z.2.1] (if out.take z.1=[] then none else some ⟨(out.take z.1).map .str,1,false⟩),z.2.2⟩)
       (fun z=>z.1<=DP n out/\0<z.2.1/\z.2.1<z.2.2) (fun z=>DP n out-z.1) (0,1,nn+1000) ?_ ⟨Nat.zero_le _,Nat.one_pos,by simp only [];omega⟩ ?_
     . refine Wk.forget (by simp [Fg,List.replicate,wZ]) (fun j => ?_) (by simp only [];omega)
       by_cases h1:j=[0]
       . subst h1;right;simp [aa.put]
       . left;simp [aa.put,h1]
     rintro ⟨k,ck,mm⟩ ⟨hk,aei,Q3⟩
     simp only [] at hk aei Q3
     have D9:(out.take k).length=k:=by rw [List.length_take];omega
     by_cases H5:k<DP n out
     . obtain ⟨x,hx,NH⟩:=KJ n out k H5
       have AD:(out.map AV.str)[k]? = some (.str x):=by rw [List.getElem?_map,hx];rfl
       have mQ:bz 1 (strs out) (.int .i64 (k:Int))=some (.ep (AV.str x).cells 0):=aS rfl AD
       have Gm:part false (AV.str x).cells 0 1=some (.str x):=rfl
       have d1:decide ((k:Int)<(out.length:Int))=true:=an (by omega)
       have JI:out.take (k+1)=out.take k++[x]:=by rw [List.take_add_one,hx];rfl
       have IX : ¬ out.take k++[x]=[]:=by simp
       by_cases h0:k=0
       . subst h0
         have e0:wZ ck (out.take 0) = .nils:=by simp [wZ]
         simp only [e0]
         simp only [SS,Nat.reduceAdd,dE,d1,mQ,az,Gm,qY,NH,uu,oD,aq 0 (by omega)]
         refine ⟨(0+1,mm+12+6,mm+1000),⟨by simp only [];omega,by simp only [];omega,by simp only [];omega⟩,by simp only [];omega, ?_⟩
         simp only [JI,List.take_zero,List.nil_append,wZ,List.cons_ne_nil,if_false,List.length_singleton,List.map_cons,List.map_nil]
         refine Wk.forget (by simp [Fg]) (fun j => ?_) (by omega)
         by_cases h1:j=[mm+12+6]
         . subst h1;right;simp [aa.put]
         by_cases h2:j=[0]
         . subst h2;right;simp [aa.put];omega
         . left;simp [aa.put,h1,h2]
       . have bY : ¬ out.take k=[]:=by intro e;rw [e] at D9;simp at D9;omega
         have e0:wZ ck (out.take k) = .osl [ck] 1 0 (out.take k).length false:=if_neg bY
         have zJ:∀ (p q:Id),q≠[ck]->cg (((aa.put (fun _=>none) [0] (some ⟨[X.eJ.av],5,false⟩)).put [ck] (if out.take k=[] then none else some ⟨(out.take k).map .str,1,false⟩)).put q (some ⟨[.str x],1,false⟩)) p 1 16 (.osl [ck] 1 0 (out.take k).length false) (.osl q 1 0 1 false)=some { val := .osl p 1 0 ((out.take k).length+1) false,rd:=[[ck],q],up:=[([ck],none),(p,some ⟨(out.take k++[x]).map .str,1,false⟩)] } :=
           fun p q hq=>zo hq (by omega) (by rw [aa.bd,if_neg bY])
         have hq:([mm+12+5]:List Nat)≠[ck]:=by intro e;simp at e;omega
         simp only [e0]
         simp only [SS,Nat.reduceAdd,dE,d1,mQ,az,Gm,qY,NH,uu,zJ _ _ hq,aq k (by omega)]
         refine ⟨(k+1,mm+12+6,mm+1000),⟨by simp only [];omega,by simp only [];omega,by simp only [];omega⟩,by simp only [];omega, ?_⟩
         simp only [JI,wZ,if_neg IX,List.length_append,List.length_singleton]
         refine Wk.forget (by simp [Fg]) (fun j => ?_) (by omega)
         by_cases h1:j=[mm+12+6]
         . subst h1;right;simp [aa.put]
         by_cases h2:j=[0]
         . subst h2;right;simp [aa.put];omega
         . left;simp [aa.put,h1,h2]
     . have Mg:k=DP n out:=by omega
       rw [<- Mg] at Gl
       have aa2:bZ 1 (strs out) (some (.int .i64 0)) none none=some (.sl 1 (out.map .str)):=Bp (k:=1) (l:=0) (es:=out.map AV.str) (Nat.zero_le _)
       have Cn:bZ 1 (strs out) (some (.int .i64 (((out.take k).length:Nat):Int))) none none=some (.sl 1 ((out.drop k).map .str)):=by
         have:=Bp (k:=1) (l:=k) (es:=out.map AV.str) (by rw [List.length_map];omega)
         rw [List.map_drop,D9];exact this
       rw [Gl] at qZ
       by_cases aej:k<out.length
       case pos =>
         obtain ⟨x,hx⟩:∃ x,out[k]? = some x:=⟨_,List.getElem?_eq_getElem aej⟩
         have NH:Op.bytesLess x n=false:=Dx n out x (by rw [<- Mg];exact hx)
         have AD:(out.map AV.str)[k]? = some (.str x):=by rw [List.getElem?_map,hx];rfl
         have mQ:bz 1 (strs out) (.int .i64 (k:Int))=some (.ep (AV.str x).cells 0):=aS rfl AD
         have Gm:part false (AV.str x).cells 0 1=some (.str x):=rfl
         have d1:decide ((k:Int)<(out.length:Int))=true:=an (by omega)
         have V9:out.drop k≠[]:=by intro e;have:=congrArg List.length e;rw [List.length_drop] at this;simp at this;omega
         by_cases h0:k=0
         . have e0:wZ ck (out.take k) = .nils:=by simp [wZ,h0]
           have I0:out.take k=[]:=by rw [h0];rfl
           have KK:out.drop k=out:=by rw [h0];rfl
           rw [KK] at V9
           have IG:∀ (σ : aa) (p:Id),cg ((σ.put [mm+12+3+2] (some ⟨[.str n],1,false⟩)).put [mm+12+3+3] (some ⟨[.str n],1,false⟩)) p 1 16 (.osl [mm+12+3+3] 1 0 1 false) (.sl 1 (out.map .str))=some { val := .osl p 1 0 (1+out.length) false,rd:=[[mm+12+3+3]],up:=[([mm+12+3+3],none),(p,some ⟨([n]++out).map .str,1,false⟩)] }:=fun σ p =>
             IZ (o:=[n]) V9 (by simp;omega) (aa.bd _ _ _)
           rw [I0,KK,List.nil_append] at Gl
           simp only [e0]
           simp only [SS,DD,Nat.reduceAdd,dE,d1,mQ,az,Gm,qY,NH,uu,oD,aa2,IG,aq i (by omega)]
           refine ⟨by simp [ar,apart], ?_⟩
           try rw [I0,KK,List.nil_append] at qZ
           refine ⟨(i+1,mm+1000),by simp only [];omega,by simp only [];omega, ?_⟩
           simp only [qZ]
           refine Wk.freeze [([mm+12+3+7],⟨([n]++out).map .str,1,false⟩)] (by simp [aa.put]) ?_ (fun j => ?_) (by omega)
           . have hv:=sS (σ := aa.of [([mm+12+3+7],⟨([n]++out).map AV.str,1,false⟩)]) (id:=[mm+12+3+7]) (a:=[n]++out) (t:=[]) (b:=false) (tt:=false) (by rw [List.append_nil];simp [aa.of])
             rw [List.length_append,List.length_singleton] at hv
             simp [Nt]
             right;right
             simpa using hv
           . by_cases h1:j=[0]
             . subst h1;right;simp [aa.put,rm,aa.app]<;>omega
             . left;simp [aa.put,h1]
         . have bY : ¬ out.take k=[]:=by intro e;rw [e] at D9;simp at D9;omega
           have e0:wZ ck (out.take k) = .osl [ck] 1 0 (out.take k).length false:=if_neg bY
           have zJ:∀ (p q:Id),q≠[ck]->cg (((aa.put (fun _=>none) [0] (some ⟨[X.eJ.av],5,false⟩)).put [ck] (if out.take k=[] then none else some ⟨(out.take k).map .str,1,false⟩)).put q (some ⟨[.str n],1,false⟩)) p 1 16 (.osl [ck] 1 0 (out.take k).length false) (.osl q 1 0 1 false)=some { val := .osl p 1 0 ((out.take k).length+1) false,rd:=[[ck],q],up:=[([ck],none),(p,some ⟨(out.take k++[n]).map .str,1,false⟩)] } :=
             fun p q hq=>zo hq (by omega) (by rw [aa.bd,if_neg bY])
           have hq:([mm+12+3+2]:List Nat)≠[ck]:=by intro e;simp at e;omega
           have IG:∀ (σ : aa) (p:Id),cg (σ.put [mm+12+3+3] (some ⟨(out.take k++[n]).map .str,1,false⟩)) p 1 16 (.osl [mm+12+3+3] 1 0 ((out.take k).length+1) false) (.sl 1 ((out.drop k).map .str))=some { val := .osl p 1 0 ((out.take k).length+1+(out.drop k).length) false,rd:=[[mm+12+3+3]],up:=[([mm+12+3+3],none),(p,some ⟨(out.take k++[n]++out.drop k).map .str,1,false⟩)] }:=fun σ p=>by
             have:=IZ (σ := σ.put [mm+12+3+3] (some ⟨(out.take k++[n]).map .str,1,false⟩)) (p:=p) (o:=out.take k++[n]) (ys:=out.drop k) V9 (by rw [List.length_append,D9,List.length_drop,List.length_singleton];omega) (aa.bd _ _ _)
             rwa [List.length_append,List.length_singleton] at this
           simp only [e0]
           simp only [SS,DD,Nat.reduceAdd,dE,d1,mQ,az,Gm,qY,NH,uu,zJ _ _ hq,Cn,IG,aq i (by omega)]
           refine ⟨by simp [ar,apart], ?_⟩
           refine ⟨(i+1,mm+1000),by simp only [];omega,by simp only [];omega, ?_⟩
           simp only [qZ]
           refine Wk.freeze [([mm+12+3+7],⟨(out.take k++[n]++out.drop k).map .str,1,false⟩)] (by simp [aa.put]) ?_ (fun j => ?_) (by omega)
           . have hv:=sS (σ := aa.of [([mm+12+3+7],⟨(out.take k++[n]++out.drop k).map AV.str,1,false⟩)]) (id:=[mm+12+3+7]) (a:=out.take k++[n]++out.drop k) (t:=[]) (b:=false) (tt:=false) (by rw [List.append_nil];simp [aa.of])
             rw [List.length_append,List.length_append,List.length_singleton] at hv
             simp [Nt]
             right;right
             simpa using hv
           . by_cases h1:j=[0]
             . subst h1;right;simp [aa.put,rm,aa.app]<;>omega
             . left;simp [aa.put,h1]
       case neg =>
         have d1:decide ((k:Int)<(out.length:Int))=false:=ak (by omega)
         have V9:out.drop k=[]:=List.drop_of_length_le (by omega)
         by_cases h0:k=0
         . have e0:wZ ck (out.take k) = .nils:=by simp [wZ,h0]
           have I0:out.take k=[]:=by rw [h0];rfl
           have KK:out.drop k=out:=by rw [h0];rfl
           have ho:out=[]:=by rw [<- KK];exact V9
           rw [I0,KK,ho,List.nil_append,List.append_nil] at Gl
           have aa3:bZ 1 (strs out) (some (.int .i64 0)) none none=some (.sl 1 []):=by rw [aa2,ho];rfl
           simp only [e0]
           simp only [SS,DD,Nat.reduceAdd,dE,d1,uu,oD,aa3,zp,aq i (by omega)]
           refine ⟨by simp [ar,apart], ?_⟩
           try rw [I0,KK,ho,List.nil_append,List.append_nil] at qZ
           refine ⟨(i+1,mm+1000),by simp only [];omega,by simp only [];omega, ?_⟩
           simp only [qZ]
           refine Wk.freeze [([mm+12+3+3],⟨([n]).map .str,1,false⟩)] (by simp [aa.put]) ?_ (fun j => ?_) (by omega)
           . have hv:=sS (σ := aa.of [([mm+12+3+3],⟨([n]).map AV.str,1,false⟩)]) (id:=[mm+12+3+3]) (a:=[n]) (t:=[]) (b:=false) (tt:=false) (by rw [List.append_nil];simp [aa.of])
             rw [List.length_singleton] at hv
             simp [Nt]
             right;right
             simpa using hv
           . by_cases h1:j=[0]
             . subst h1;right;simp [aa.put,rm,aa.app]<;>omega
             . left;simp [aa.put,h1]
         . have bY : ¬ out.take k=[]:=by intro e;rw [e] at D9;simp at D9;omega
           have e0:wZ ck (out.take k) = .osl [ck] 1 0 (out.take k).length false:=if_neg bY
           have zJ:∀ (p q:Id),q≠[ck]->cg (((aa.put (fun _=>none) [0] (some ⟨[X.eJ.av],5,false⟩)).put [ck] (if out.take k=[] then none else some ⟨(out.take k).map .str,1,false⟩)).put q (some ⟨[.str n],1,false⟩)) p 1 16 (.osl [ck] 1 0 (out.take k).length false) (.osl q 1 0 1 false)=some { val := .osl p 1 0 ((out.take k).length+1) false,rd:=[[ck],q],up:=[([ck],none),(p,some ⟨(out.take k++[n]).map .str,1,false⟩)] } :=
             fun p q hq=>zo hq (by omega) (by rw [aa.bd,if_neg bY])
           have hq:([mm+12+3+2]:List Nat)≠[ck]:=by intro e;simp at e;omega
           rw [V9,List.append_nil] at Gl
           have aek:bZ 1 (strs out) (some (.int .i64 (((out.take k).length:Nat):Int))) none none=some (.sl 1 []):=by rw [Cn,V9];rfl
           simp only [e0]
           simp only [SS,DD,Nat.reduceAdd,dE,d1,uu,zJ _ _ hq,aek,zp,aq i (by omega)]
           refine ⟨by simp [ar,apart], ?_⟩
           try rw [V9,List.append_nil] at qZ
           refine ⟨(i+1,mm+1000),by simp only [];omega,by simp only [];omega, ?_⟩
           simp only [qZ]
           refine Wk.freeze [([mm+12+3+3],⟨(out.take k++[n]).map .str,1,false⟩)] (by simp [aa.put]) ?_ (fun j => ?_) (by omega)
           . have hv:=sS (σ := aa.of [([mm+12+3+3],⟨(out.take k++[n]).map AV.str,1,false⟩)]) (id:=[mm+12+3+3]) (a:=out.take k++[n]) (t:=[]) (b:=false) (tt:=false) (by rw [List.append_nil];simp [aa.of])
             rw [List.length_append,List.length_singleton] at hv
             simp [Nt]
             right;right
             simpa using hv
           . by_cases h1:j=[0]
             . subst h1;right;simp [aa.put,rm,aa.app]<;>omega
             . left;simp [aa.put,h1]
   . have Gl:w6 out n=out:=by unfold w6;rw [R1];simp
     rw [Gl] at qZ
     simp only [SS,Nat.reduceAdd,aq i (by omega)]
     refine ⟨(i+1,nn+1000),by simp only [];omega,by simp only [];omega, ?_⟩
     simp only [qZ]
     exact Wk.bc (by simp [Fg]) (by omega)
 . have dd:decide ((i:Int)<(X.aC.length:Int))=false:=ak (by omega)
   have jf:i=names.length:=by omega
   have JS:names.take i=names:=by rw [jf,List.take_length]
   rw [<- JS,CG]
   simp only [SS,Nat.reduceAdd,ae,bP.p2,FX.ig,dE,dd]
   exact ag▸ab rfl (gY _)
end
end Go.VL
end

section
namespace Go.VL
open Go.Sort Go.Lib
theorem x6 (a:List UInt8) : ¬ a<a:=List.lt_irrefl a
theorem AE {a b c:List UInt8} (h:a<b) (k:b<c):a<c:=List.lt_trans h k
theorem KL {a b:List UInt8} (h : ¬ a<b) (hn:a≠b):b<a :=
 Decidable.byContradiction fun k=>hn (List.le_antisymm (show a<=b from k) (show b<=a from h))
def OW (l:List (List UInt8)):Prop:=l.Pairwise (· < ·)
theorem R2:∀ {l m:List (List UInt8)},OW l->OW m->(∀ x,x∈l↔x∈m)->l=m
 | [],[],_,_,_=>rfl
 | [],b::m,_,_,h=>by have:=(h b).2 (by simp);simp at this
 | a::l,[],_,_,h=>by have:=(h a).1 (by simp);simp at this
 | a :: l,b::m,hl,hm,h=>by
   unfold OW at hl hm
   rw [List.pairwise_cons] at hl hm
   have Mw:a=b:=by
     have h1:=(h a).1 (by simp)
     have h2:=(h b).2 (by simp)
     rcases List.mem_cons.1 h1 with e | h1
     . exact e
     . rcases List.mem_cons.1 h2 with e | h2
       . exact e.symm
       . exact absurd (AE (hm.1 a h1) (hl.1 b h2)) (x6 b)
   subst Mw
   refine congrArg (a :: ·) (R2 hl.2 hm.2 fun x => ?_)
   constructor
   . intro hx
     rcases List.mem_cons.1 ((h x).1 (by simp [hx])) with e | q
     . subst e;exact absurd (hl.1 x hx) (x6 x)
     . exact q
   . intro hx
     rcases List.mem_cons.1 ((h x).2 (by simp [hx])) with e | q
     . subst e;exact absurd (hm.1 x hx) (x6 x)
     . exact q
theorem R3 (out:List (List UInt8)) (n x:List UInt8):x∈w6 out n↔x∈out∨x=n:=by
 unfold w6
 split
 . rename_i h
   have hn:n∈out:=by simpa using h
   constructor
   . exact .inl
   . rintro (q | rfl);exact q;exact hn
 . have e:=List.take_append_drop (DP n out) out
   constructor
   . intro q
     rw [List.append_assoc,List.mem_append,List.mem_append,List.mem_singleton] at q
     rcases q with q | q | q
     . exact .inl (List.mem_of_mem_take q)
     . exact .inr q
     . exact .inl (List.mem_of_mem_drop q)
   . rintro (q | rfl)
     . rw [<- e,List.mem_append] at q
       rw [List.append_assoc,List.mem_append,List.mem_append]
       rcases q with q | q
       . exact .inl q
       . exact .inr (.inr q)
     . simp
theorem UK {out:List (List UInt8)} (n:List UInt8) (h:OW out):OW (w6 out n):=by
 unfold w6
 split
 . exact h
 . rename_i hc
   have hn:n ∉ out:=by simpa using hc
   have e:=List.take_append_drop (DP n out) out
   unfold OW at h ⊢
   rw [<- e,List.pairwise_append] at h
   have uQ:∀ x∈out.take (DP n out),x<n:=by
     intro x hx
     obtain ⟨k,hk,hkx⟩:=List.mem_iff_getElem.1 hx
     rw [List.length_take] at hk
     obtain ⟨y,hy,hyn⟩:=KJ n out k (by omega)
     rw [List.getElem_take] at hkx
     rw [List.getElem?_eq_getElem (by omega),Option.some.injEq,hkx] at hy
     subst hy
     rw [Go.Proofs.bytesLess_eq] at hyn
     simpa using hyn
   have zT:∀ x∈out.drop (DP n out),n<x:=by
     intro x hx
     cases hd:out.drop (DP n out) with
     | nil=>rw [hd] at hx;simp at hx
     | cons y t =>
       have hy:out[DP n out]? = some y:=by
         have:=congrArg (·[0]?) hd
         simpa using this
       have hny:=Dx n out y hy
       rw [Go.Proofs.bytesLess_eq] at hny
       have hyn:n<y:=KL (by simpa using hny) (fun e=>hn (by rw [<- e];exact List.mem_of_getElem? hy))
       rw [hd] at hx
       rcases List.mem_cons.1 hx with rfl | hx
       . exact hyn
       . rw [hd] at h
         exact AE hyn ((List.pairwise_cons.1 h.2.1).1 x hx)
   rw [List.append_assoc,List.pairwise_append]
   refine ⟨h.1, ?_, ?_⟩
   . rw [List.singleton_append,List.pairwise_cons]
     exact ⟨zT,h.2.1⟩
   . intro a ha b hb
     rw [List.singleton_append] at hb
     rcases List.mem_cons.1 hb with rfl | hb
     . exact uQ a ha
     . exact h.2.2 a ha b hb
theorem I1:∀ (ns out:List (List UInt8)),OW out->OW (ns.foldl w6 out)/\∀ x,x∈ns.foldl w6 out↔x∈out∨x∈ns
 | [],out,h=>⟨h,by simp⟩
 | n::ns,out,h=>by
   obtain ⟨h1,h2⟩:=I1 ns (w6 out n) (UK n h)
   refine ⟨h1,fun x => ?_⟩
   rw [List.foldl_cons,h2,R3]
   simp [or_assoc]
theorem R4 (ns:List (List UInt8)):OW (w7 ns)/\∀ x,x∈w7 ns↔x∈ns:=by
 obtain ⟨h1,h2⟩:=I1 ns [] List.Pairwise.nil
 exact ⟨h1,fun x=>by rw [w7,h2];simp⟩
theorem KM (l:List (List UInt8)) (h:l.Pairwise fun a b => ¬ b<a):∀ m,m<=l.length->OW (compactUpTo l.toArray m)/\(∀ x,x∈compactUpTo l.toArray m↔x∈l.take m):=by
 intro m
 induction m with
 | zero=>intro _;exact ⟨by simp [compactUpTo,OW],by simp [compactUpTo]⟩
 | succ m ih =>
   intro hm
   obtain ⟨h1,h2⟩:=ih (by omega)
   have aN:m<l.length:=by omega
   have hg:l.toArray[m]! = l[m]:=by rw [getElem!_pos l.toArray m (by simpa using aN)];rfl
   have JI:l.take (m+1)=l.take m++[l[m]]:=by rw [List.take_add_one,List.getElem?_eq_getElem aN];rfl
   rw [compactUpTo_succ,hg,JI]
   cases hk:keeps l.toArray m
   . simp only [Bool.false_eq_true,if_false,List.append_nil]
     refine ⟨h1,fun x => ?_⟩
     have Tm:m≠0/\l.toArray[m]! = l.toArray[m-1]! := by
       unfold keeps at hk
       simp only [decide_eq_false_iff_not,not_or,Decidable.not_not] at hk
       exact hk
     have YE:l.toArray[m-1]! = l[m-1]:=by rw [getElem!_pos l.toArray (m-1) (by simp;omega)];rfl
     rw [hg,YE] at Tm
     rw [h2,List.mem_append,List.mem_singleton]
     constructor
     . exact .inl
     . rintro (q | rfl)
       . exact q
       . rw [Tm.2]
         exact List.mem_iff_getElem.2 ⟨m-1,by rw [List.length_take];omega,by rw [List.getElem_take]⟩
   . simp only [if_true]
     refine ⟨?_,fun x=>by rw [List.mem_append,List.mem_append,h2]⟩
     unfold OW at h1 ⊢
     rw [List.pairwise_append]
     refine ⟨h1,by simp,fun a ha b hb => ?_⟩
     rw [List.mem_singleton] at hb
     subst hb
     have hat:=(h2 a).1 ha
     obtain ⟨j,hj,rfl⟩:=List.mem_iff_getElem.1 hat
     rw [List.length_take] at hj
     rw [List.getElem_take]
     have Tm:m≠0:=by omega
     have YE:l.toArray[m-1]! = l[m-1]:=by rw [getElem!_pos l.toArray (m-1) (by simp;omega)];rfl
     have bY:l[m]≠l[m-1]:=by
       unfold keeps at hk
       simp only [decide_eq_true_eq] at hk
       rcases hk with q | q
       . exact absurd q Tm
       . rwa [hg,YE] at q
     have hpw:=List.pairwise_iff_getElem.1 h
     have Bg:l[m-1]<l[m]:=KL (hpw (m-1) m (by omega) aN (by omega)) bY
     by_cases WS:j=m-1
     . subst WS;exact Bg
     . have h3:=hpw j (m-1) (by omega) (by omega) (by omega)
       rcases Decidable.em (l[j]=l[m-1]) with e | e
       . rw [e];exact Bg
       . exact AE (KL h3 (Ne.symm e)) Bg
theorem Oo (ns:List (List UInt8)):Lib.compact (ns.mergeSort fun x y=>decide (x<=y))=w7 ns:=by
 have hp:(ns.mergeSort fun x y=>decide (x<=y)).Pairwise fun a b => ¬ b<a:=by
   refine (List.pairwise_mergeSort (le:=fun x y:List UInt8=>decide (x<=y)) (fun a b c h k => ?_) (fun a b => ?_) ns).imp ?_
   . simp only [decide_eq_true_eq] at h k ⊢;exact List.le_trans h k
   . rcases List.le_total a b with q | q<;>simp [q]
   . intro a b h
     simp only [decide_eq_true_eq] at h
     exact h
 obtain ⟨h1,h2⟩:=KM _ hp _ (Nat.le_refl _)
 obtain ⟨h3,h4⟩:=R4 ns
 refine R2 h1 h3 fun x => ?_
 have Vb:=h2 x
 rw [List.take_length,List.mem_mergeSort] at Vb
 exact Vb.trans (h4 x).symm
end Go.VL
end

section
set_option maxRecDepth 100000
namespace Go.Proofs.YtcomlgfjnjpebaaGreatDoor
open Go.VL Go.Proofs Go.RowKit
def gN (m:Int):Nat->Option (List AV)
 | 0=>some b7
 | 1=>some [.int .i64 m]
 | 2=>some Gf
 | _=>none
theorem VP.up {P:Program} {G:Nat->Option (List AV)} {f:FuncId} {args:List AV} {r:AV} (h:VP P (fun _=>none) f args r):VP P G f args r :=
 ⟨h.1,fun w vs ok hi hr=>h.2 w vs ok ⟨hi.okb,hi.blk,hi.inj,fun _ _ h=>by simp at h,hi.new⟩ hr⟩
section
variable (m:Int)
theorem I2 (c:UInt8):VP Tryz.prog (gN m) 73 [ia c] (.bool (dA c)):=Bd xK c
theorem R5 (c:UInt8):VP Tryz.prog (gN m) 103 [ia c] (.bool (mg c)):=CZ yS c
theorem X1 (c:UInt8):VP Tryz.prog (gN m) 75 [ia c] (.bool (dt c)):=Nv Ai (I2 m) (R5 m) c
theorem X2 (s:List UInt8) (hs:s.length<9223372036854775807):VP Tryz.prog (gN m) 74 [.str s, .fn (.func 75) [] []] (.int .i64 (fJ dt s)):=TT CW (X1 m) s hs
theorem KN (s:List UInt8):VP Tryz.prog (gN m) 50 [.str s] (.bool (bg s)):=Nw Aj (I2 m) (X2 m) s
theorem ael:Has Tryz.prog 117 jn:=qI
theorem aem:Has Tryz.prog 118 mo:=rR
theorem Oq (c:UInt8):VP Tryz.prog (gN m) 117 [ia c] (.bool (dA c)):=Bd ael c
theorem R6 (c:UInt8):VP Tryz.prog (gN m) 118 [ia c] (.bool (mg c)):=CZ aem c
theorem X3 (s:List UInt8) (hs:s.length<9223372036854775807):VP Tryz.prog (gN m) 92 [.str s, .int .i64 0] (.int .i64 ((sQ s:Nat):Int)):=UH sJ (Oq m) (R6 m) s hs
theorem KO (s:List UInt8):VP Tryz.prog (gN m) 60 [.str s] (.bool (bg s)):=KG qH (X3 m) s
theorem wl {ws:List Nat} (hw:Wd ws) (h:ws.length<=8):ah (val ws)<=8:=Nat.le_trans (sN hw) h
theorem oj (b:Bool) (n:Nat):(jE b n).natAbs=n:=by cases b<;>simp [jE]
theorem aa5 (n1:Bool) (w1:List Nat) (n2:Bool) (w2:List Nat) (uF:Wd w1) (wG:Wd w2) (mR:w1.length<=8) (uC:w2.length<=8):VP Tryz.prog (gN m) 123 [RR n1 w1 n2 w2] (.bool (MC n1 w1 n2 w2)):=by
 have a1:=wl uF mR
 have a2:=wl wG uC
 have:=E5 xP n1 w1 n2 w2 uF wG (g:=(Nat.gcd (val w1) (val w2):Nat)) (V1 (gN m) n1 w1 (by omega)) (V1 (gN m) n2 w2 (by omega)) (XQ (gN m) _ (by rw [oj];omega))
   (fun _=>by have:=aaA (gN m) (jE n1 (val w1)) (jE n2 (val w2)) (by rw [oj];omega) (by rw [oj];omega);rwa [oj,oj] at this) (i138 (gN m) _)
 exact this
theorem aa6 (n1:Bool) (w1:List Nat) (n2:Bool) (w2:List Nat) (uF:Wd w1) (wG:Wd w2) (mR:w1.length<=8) (uC:w2.length<=8):VP Tryz.prog (gN m) 157 [RR n1 w1 n2 w2] (.bool (MC n1 w1 n2 w2)):=by
 have a1:=wl uF mR
 have a2:=wl wG uC
 have:=E5 ad6 n1 w1 n2 w2 uF wG (g:=(Nat.gcd (val w1) (val w2):Nat)) (V4 (gN m) n1 w1 uF (by omega)) (V4 (gN m) n2 w2 wG (by omega)) (XS (gN m) _ (by rw [oj];omega))
   (fun _=>by have:=XU (gN m) (jE n1 (val w1)) (jE n2 (val w2)) (by rw [oj];omega) (by rw [oj];omega);rwa [oj,oj] at this) (V5 (gN m) _)
 exact this
theorem w1:ah 1<=1:=sM
theorem X4 (n1:Bool) (w1:List Nat) (n2:Bool) (w2:List Nat) (uF:Wd w1) (wG:Wd w2) (mR:w1.length<=8) (uC:w2.length<=8):∃ s,VP Tryz.prog (gN m) 104 [RR n1 w1 n2 w2] (.tup [.str s, .bool (oy n1 w1 n2 w2)]):=by
 obtain ⟨s,e⟩:=Dp 40 n1 w1 n2 w2 (fun _ _=>rfl)
 refine ⟨s, ?_⟩
 rw [<- e]
 refine Kz pr n1 w1 n2 w2 uF wG mR uC (aa5 m n1 w1 n2 w2 uF wG mR uC) (fun a b ha=>V2 (gN m) a b (by omega)) (fun a b hb hg ha B6 hv => ?_)
 exact Kx pr a b hb hg ha B6 hv (V2 (gN m) _ _ (by rw [Int.natAbs_natCast];omega)) (XR (gN m) 10 (by decide) (by decide)) (Rc (gN m) 1 (by decide) (by decide))
   (fun y hy=>adU (gN m) _ _ (by rw [Int.natAbs_natCast];omega) (by show ah 1<=_;have:=sM;omega)) (fun a b hb _ ha B6=>adW (gN m) a b hb ha B6)
   (fun n hn=>Tryz.NZ (gN m) rfl (t145 (gN m)) sA fA n (by omega)) (fun z hz=>Tryz.N3 (gN m) z hz)
theorem X5 (n1:Bool) (w1:List Nat) (n2:Bool) (w2:List Nat) (uF:Wd w1) (wG:Wd w2) (mR:w1.length<=8) (uC:w2.length<=8):∃ s,VP Tryz.prog (gN m) 134 [RR n1 w1 n2 w2] (.tup [.str s, .bool (oy n1 w1 n2 w2)]):=by
 obtain ⟨s,e⟩:=Dp 41 n1 w1 n2 w2 N4
 refine ⟨s, ?_⟩
 rw [<- e]
 refine IJ lC n1 w1 n2 w2 uF wG mR uC (aa6 m n1 w1 n2 w2 uF wG mR uC) (fun a b ha=>V6 (gN m) a b (by omega)) (fun a b hb hg ha B6 hv => ?_)
 exact IH lC a b hb hg ha B6 hv (V6 (gN m) _ _ (by rw [Int.natAbs_natCast];omega)) (Rg (gN m) 10 (by decide) (by decide)) (Rf (gN m) 1 (by decide) (by decide))
   (fun y hy=>aaN (gN m) _ _ (by rw [Int.natAbs_natCast];omega) (by show ah 1<=_;have:=sM;omega)) (fun a b hb qz hg ha B6=>ad7 (gN m) a b hb qz hg ha B6)
   (fun n hn=>f162 (gN m) n (by omega))
theorem R7 (e:EX) (ho:e.Ok) (hl:e.nu=true) (hn:e.nodes<=1000):VP Tryz.prog (gN m) 78 [e.av] (.bool e.formed) :=
 Oa xQ rfl vU eY fP (X4 m) (KN m) (fun n1 w1 n2 w2=>Uw Ap n1 w1 n2 w2) e ho hl hn
theorem R8 (e:EX) (ho:e.Ok) (hs:nY e=true):VP Tryz.prog (gN m) 56 [e.av] (.int .i64 (if e.formed=true then (if 40<e.depth then 3 else 0) else 1)):=by
 unfold nY at hs
 simp only [Bool.and_eq_true,decide_eq_true_eq] at hs
 exact Oc y8 e (R7 m e ho hs.2 (by omega)) (Ob y7 e (by omega))
theorem R9 (e:EX) (ho:e.Ok) (hl:e.nu=true):VP Tryz.prog (gN m) 93 [e.av] (.bool e.formed) :=
 KE qG (fun op n1 w1 n2 w2 nm args ho hl=>by
   have hh:=EX.ur hl
   have H7:=ho
   rw [EX.Ok] at H7
   exact RM rL op n1 w1 n2 w2 nm args (X5 m n1 w1 n2 w2 H7.2.2.1 H7.2.2.2.1 hh.2.1 hh.2.2.1) (KO m nm)) e ho hl
theorem Sa (e:EX) (ho:e.Ok) (hs:nY e=true):VP Tryz.prog (gN m) 61 [e.av] (.int .i64 (if e.formed=true then (if 40<e.depth then 3 else 0) else 1)):=by
 unfold nY at hs
 simp only [Bool.and_eq_true,decide_eq_true_eq] at hs
 exact IM rN e (R9 m e ho hs.2) (Od rM e (by omega))
theorem UL (e:EX) (ho:e.Ok):VP Tryz.prog (gN m) 28 [e.av] (.bool (nY e)) :=
 KF rQ e (RO rO e ho 120 (by decide)) (RN rP e ho)
theorem Wa (s:List UInt8) (hs:s.length<=300):VP Tryz.prog (gN m) 30 [.str s, .str [47]] (.tup [.str (Lib.cut s [47]).1, .str (Lib.cut s [47]).2.1, .bool (Lib.cut s [47]).2.2]):=Tryz.XV (gN m) (m:=m) rfl s (by omega)
theorem UM (s:List UInt8) (hs:s.length<=300):VP Tryz.prog (gN m) 53 [.str s] (.bool (eQ s).isSome):=Ec ua s (by omega) (Wa m s hs) (KN m)
theorem Fi (s:List UInt8) (hs:s.length<=300):VP Tryz.prog (gN m) 34 [.str s] (.str ((eQ s).getD [])):=KI qe s (by omega) (KO m)
theorem qn {X:FX} (h:X.small=true):X.aC.length<=60/\X.bG.length<=12/\(∀ s∈X.aC,s.length<=300)/\(∀ e∈X.bG,nY e=true):=by
 unfold FX.small at h
 simp only [Bool.and_eq_true,List.all_eq_true,decide_eq_true_eq] at h
 exact ⟨h.1.1.1.1,h.1.1.1.2,h.1.2,h.2⟩
theorem UN (X:FX) (hX:X.Ok):VP Tryz.prog (gN m) 10 [X.av] (.bool X.small):=IW rU X hX (fun e he=>UL m e (hX.bG e he))
theorem MJ (X:FX) (hX:X.Ok) (hs:X.small=true):VP Tryz.prog (gN m) 29 [X.av] (.bool X.valid):=by
 obtain ⟨q1,q2,h2,h3⟩:=qn hs
 exact Ol yT (KN m) lz mb eY fP X hX (by omega) (by omega)
   (fun s hm=>Oh wV s (UM m s (h2 s hm))) (fun e he=>Oi wW e (R8 m e (hX.bG e he) (h3 e he)))
theorem B9 (X:FX) (hX:X.Ok) (hs:X.small=true):VP Tryz.prog (gN m) 33 [X.av] (.bool X.valid):=by
 obtain ⟨q1,q2,h2,h3⟩:=qn hs
 exact IU rS X hX (KO m _) (fun e he=>Sa m e (hX.bG e he) (h3 e he)) (fun s hm=>Fi m s (h2 s hm))
theorem KP {s:List UInt8} (h:(eQ s).isSome=true):(eQ s).getD []=(Lib.cut s [47]).1:=by
 rw [Ff]
 unfold eQ at h ⊢
 cases hs:kr s with
 | none=>rw [hs] at h;cases h
 | some k =>
   rw [hs] at h
   simp only [] at h ⊢
   split
   . rfl
   . rename_i hh;rw [if_neg hh] at h;cases h
theorem Sb {X:FX} (h:X.valid=true):(X.aC.map fun s=>(Lib.cut s [47]).1)=X.aC.map fun s=>(eQ s).getD []:=by
 refine List.map_congr_left fun s hs => ?_
 unfold FX.valid at h
 simp only [Bool.and_eq_true,List.all_eq_true] at h
 exact (KP (h.1.2 s hs)).symm
def FX.Fj (X:FX):List (List UInt8):=if X.valid=true then w7 (X.aC.map fun s=>(eQ s).getD []) else []
theorem Sc:VP Tryz.prog (gN m) 31 [.nils] (.tup []):=by
 refine VP.wC (r:={ val := .tup [] }) (aB.vD Tryz.func31 (by kernel_rfl) (by kernel_rfl) ?_) (fun _ _ _ _ _=>by simp [aM,aO])
 intro own E w σ vs _ hi hr
 simp only [aO,aM] at hr
 obtain ⟨v,_,rfl,rfl,rfl⟩:=hr
 refine (Tryz.slices_Sort_string_none none 0 w).mono ?_
 rintro e W' ⟨rfl,rfl⟩
 exact ⟨_,rfl,Below.refl _ _,fun E w=>by simp [aM,aO]⟩
theorem I3:VP Tryz.prog (gN m) 32 [.nils] .nils:=by
 refine VP.wC (r:={ val := .nils }) (aB.vD Tryz.func32 (by kernel_rfl) (by kernel_rfl) ?_) (fun _ _ _ _ _=>by simp [aM])
 intro own E w σ vs _ hi hr
 simp only [aO,aM] at hr
 obtain ⟨v,_,rfl,rfl,rfl⟩:=hr
 refine (Tryz.slices_Compact_string_empty none 0 w).mono ?_
 rintro e W' ⟨rfl,rfl⟩
 exact ⟨_,rfl,Below.refl _ _,fun E w=>by simp [aM]⟩
theorem UO (X:FX) (hX:X.Ok) (hs:X.small=true):VP Tryz.prog (gN m) 11 [X.av] (strs (FX.Fj X)):=by
 obtain ⟨h1,_,h2,h3⟩:=qn hs
 have:=RX yV X hX (fun _=>by omega) (MJ m X hX hs) (fun s hm=>Wa m s (h2 s hm)) (Sc m) (I3 m) Dn Lib.compact Fe Bl (by simp [Dn];rfl)
   (fun l id p hl hid=>Tryz.Ri (gN m) l hl hid) (fun l id p hl hid=>Tryz.II (gN m) l hl hid)
 have e:(if X.valid=true then Lib.compact (Dn (X.aC.map fun s=>(Lib.cut s [47]).1)) else [])=FX.Fj X:=by
   unfold FX.Fj
   split
   . rename_i hv
     rw [Sb hv];exact Oo _
   . rfl
 rwa [e] at this
theorem UP (X:FX) (hX:X.Ok) (hs:X.small=true):VP Tryz.prog (gN m) 12 [X.av] (strs (FX.Fj X)):=by
 obtain ⟨h1,_,h2,h3⟩:=qn hs
 exact On rT X hX (fun _=>by omega) (B9 m X hX hs) (fun s hm=>Fi m s (h2 s hm)) (fun l s hl=>RW np l hl s)
theorem Fk {X:FX} (hs:X.small=true):(FX.Fj X).length<=1000:=by
 obtain ⟨h1,_,_,_⟩:=qn hs
 unfold FX.Fj
 split
 . have:=IY (X.aC.map fun s=>(eQ s).getD []) X.aC.length
   rw [List.take_of_length_le (by rw [List.length_map];exact Nat.le_refl _)] at this
   omega
 . simp
end
end Go.Proofs.YtcomlgfjnjpebaaGreatDoor
end

section
set_option maxRecDepth 100000
namespace Go.Proofs.YtcomlgfjnjpebaaGreatDoor
open Go.VL Go.Proofs
theorem wi:Has Tryz.prog 120 (jX 135):=⟨_,Tryz.func120,by kernel_rfl⟩
theorem zr:Has Tryz.prog 98 (oV 120 97 98):=⟨_,Tryz.func98,by kernel_rfl⟩
theorem r6:Has Tryz.prog 69 (jY 99 69):=⟨_,Tryz.func69,by kernel_rfl⟩
theorem nF:Has Tryz.prog 135 (ee):=⟨_,Tryz.func135,by kernel_rfl⟩
theorem nG:Has Tryz.prog 96 (eg):=⟨_,Tryz.func96,by kernel_rfl⟩
theorem cY:Has Tryz.prog 97 (aR):=⟨_,Tryz.func97,by kernel_rfl⟩
theorem AF:Has Tryz.prog 68 (pP 96 97 98):=⟨_,Tryz.func68,by kernel_rfl⟩
theorem vj:Has Tryz.prog 66 (lX 95 65 66):=⟨_,Tryz.func66,by kernel_rfl⟩
theorem nZ:Has Tryz.prog 42 (eD 69):=⟨_,Tryz.func42,by kernel_rfl⟩
theorem sT:Has Tryz.prog 19 (iq 42):=⟨_,Tryz.func19,by kernel_rfl⟩
theorem sU:Has Tryz.prog 23 (kE 33 35 12):=⟨_,Tryz.func23,by kernel_rfl⟩
theorem pz:Has Tryz.prog 100 (iw):=⟨_,Tryz.func100,by kernel_rfl⟩
theorem uv:Has Tryz.prog 101 (lf):=⟨_,Tryz.func101,by kernel_rfl⟩
theorem dP:Has Tryz.prog 70 (bD 33 100 23 101):=⟨_,Tryz.func70,by kernel_rfl⟩
theorem vk:Has Tryz.prog 43 (lY 20 70 19):=⟨_,Tryz.func43,by kernel_rfl⟩
theorem uw:Has Tryz.prog 21 (fZ):=⟨_,Tryz.func21,by kernel_rfl⟩
theorem nx:Has Tryz.prog 20 (iI):=⟨_,Tryz.func20,by kernel_rfl⟩
theorem r7:Has Tryz.prog 24 (eX):=⟨_,Tryz.func24,by kernel_rfl⟩
theorem r8:Has Tryz.prog 25 (gE):=⟨_,Tryz.func25,by kernel_rfl⟩
theorem r9:Has Tryz.prog 44 (j0 29 36 38 37 39 40 41):=⟨_,Tryz.func44,by kernel_rfl⟩
theorem pe:Has Tryz.prog 45 (hP 36 38 37 41):=⟨_,Tryz.func45,by kernel_rfl⟩
theorem sa:Has Tryz.prog 26 (gG 36 38 37 47 46 40 41):=⟨_,Tryz.func26,by kernel_rfl⟩
theorem qo:Has Tryz.prog 27 (fU 36 38 37 47 40 41):=⟨_,Tryz.func27,by kernel_rfl⟩
theorem j9:Has Tryz.prog 46 (bV 72):=⟨_,Tryz.func46,by kernel_rfl⟩
theorem fk:Has Tryz.prog 47 (bB):=⟨_,Tryz.func47,by kernel_rfl⟩
theorem sb:Has Tryz.prog 17 (j1 10):=⟨_,Tryz.func17,by kernel_rfl⟩
theorem sV:Has Tryz.prog 18 (ir 13 21 22):=⟨_,Tryz.func18,by kernel_rfl⟩
theorem qp:Has Tryz.prog 22 (eB 43 14 44 45 26 27 24 25):=⟨_,Tryz.func22,by kernel_rfl⟩
theorem oG:Has Tryz.prog 5 (gH 9 17 18 16 20 19):=⟨_,Tryz.func5,by kernel_rfl⟩
end Go.Proofs.YtcomlgfjnjpebaaGreatDoor
end

section
set_option linter.unusedVariables false
set_option linter.unusedVariables false
namespace Go.VL
noncomputable def gZ {α : Type} (x y : α):Bool := @decide (x=y) (Classical.propDecidable _)
theorem bX {α : Type} {x y : α} (h:x=y):gZ x y=true := @decide_eq_true _ (Classical.propDecidable _) h
theorem bm {α : Type} {x y : α} (h:x≠y):gZ x y=false := @decide_eq_false _ (Classical.propDecidable _) h
theorem Dy (x y:List UInt8):(!(x==y)) = !gZ x y:=by
 by_cases h:x=y
 . rw [bX h];simp [h]
 . rw [bm h];simp [h]
theorem wj (x y:Nat):decide ((x:Int)≠(y:Int)) = !gZ x y:=by
 by_cases h:x=y
 . rw [bX h];exact ak (by omega)
 . rw [bm h];exact an (by omega)
theorem Sd (x y:Int):decide (x≠y) = !gZ x y:=by
 by_cases h:x=y
 . rw [bX h];exact ak (by omega)
 . rw [bm h];exact an h
theorem eq_int (x y:Int):decide (x=y)=gZ x y:=by
 by_cases h:x=y
 . rw [bX h];exact an h
 . rw [bm h];exact ak h
theorem Se (x y:List UInt8):(x==y)=gZ x y:=by
 by_cases h:x=y
 . rw [bX h];simp [h]
 . rw [bm h];simp [h]
section
variable {P:Program} {G:Nat->Option (List AV)}
theorem n5 {f:FuncId} (h:Has P f eg) (l m:List (List UInt8)) (hl:l.length<=9223372036854775807) (hm:m.length<=9223372036854775807):VP P G f [.sl 1 (l.map AV.str), .sl 1 (m.map AV.str)] (.bool (gZ l m)):=by
 by_cases hlen:l.length=m.length
 case neg =>
   have d0:decide ((l.length:Int)≠(m.length:Int))=true:=an (by omega)
   rw [bm (fun e=>hlen (by rw [e]))]
   refine VP.has h ?_
   simp only [eg,SS,Nat.reduceAdd,List.length_map,d0]
   exact ag▸ab rfl (af.bool _)
 have d0:decide ((l.length:Int)≠(m.length:Int))=false:=ak (by omega)
 refine VP.has h ?_
 simp only [eg,SS,Nat.reduceAdd,List.length_map,d0,aE]
 refine VW.bR (α := Nat × Nat) (fun x=>⟨[.sl 1 (l.map AV.str), .sl 1 (m.map AV.str), .top, .top, .top, .top, .top, .top, .top, .top, .top, .top, .int .i64 (l.length:Int), .int .i64 (x.1:Int)]++List.replicate 12 .top,fun _=>none,x.2⟩)
   (fun x=>x.1<=l.length/\l.take x.1=m.take x.1) (fun x=>l.length-x.1) (0,1000) ?_ ⟨Nat.zero_le _,by simp⟩ ?_
 . exact Wk.bc (by simp [Fg,List.replicate]) (by omega)
 rintro ⟨i,nn⟩ ⟨hi,cD⟩
 simp only [] at hi cD
 by_cases aN:i<l.length
 . obtain ⟨x,hx⟩:∃ x,l[i]? = some x:=⟨_,List.getElem?_eq_getElem aN⟩
   obtain ⟨y,hy⟩:∃ y,m[i]? = some y:=⟨_,List.getElem?_eq_getElem (by omega)⟩
   have dd:decide ((i:Int)<(l.length:Int))=true:=an (by omega)
   have AD:(l.map AV.str)[i]? = some (AV.str x):=by rw [List.getElem?_map,hx];rfl
   have Ed:(m.map AV.str)[i]? = some (AV.str y):=by rw [List.getElem?_map,hy];rfl
   have KQ:part false (AV.str x).cells 0 1=some (AV.str x):=rfl
   have hpy:part false (AV.str y).cells 0 1=some (AV.str y):=rfl
   have mQ:bz 1 (.sl 1 (l.map AV.str)) (.int .i64 (i:Int))=some (.ep (AV.str x).cells 0):=aS rfl AD
   have sW:bz 1 (.sl 1 (m.map AV.str)) (.int .i64 (i:Int))=some (.ep (AV.str y).cells 0):=aS rfl Ed
   by_cases pG:x=y
   . have bY:(!(x==y))=false:=by rw [Dy,bX pG];rfl
     simp only [SS,DD,Nat.reduceAdd,List.replicate,dd,mQ,sW,az,KQ,hpy,bY,aq i (by omega)]
     refine ⟨by simp [ar,apart],(i+1,nn+1000),⟨by simp only [];omega, ?_⟩,by simp only [];omega,Wk.bc (by simp [Fg]) (by omega)⟩
     simp only []
     rw [List.take_add_one,List.take_add_one,hx,hy,cD,pG]
   . have bY:(!(x==y))=true:=by rw [Dy,bm pG];rfl
     rw [bm (fun e=>pG (by rw [e,hy] at hx;exact (Option.some.inj hx).symm))]
     simp only [SS,DD,Nat.reduceAdd,List.replicate,dd,mQ,sW,az,KQ,hpy,bY]
     refine ⟨by simp [ar,apart], ?_⟩
     exact ag▸ab rfl (af.bool _)
 . have dd:decide ((i:Int)<(l.length:Int))=false:=ak (by omega)
   have jf:i=l.length:=by omega
   have En:i=m.length:=by omega
   rw [bX (by rw [jf,List.take_length] at cD;rw [cD,hlen,List.take_length])]
   simp only [SS,List.replicate,dd]
   exact ag▸ab rfl (af.bool _)
theorem n7 {f:FuncId} (h:Has P f ee) (l m:List (Nat)) (hl:l.length<=9223372036854775807) (hm:m.length<=9223372036854775807):VP P G f [.sl 1 (l.map (fun n:Nat=>AV.int .u32 (n:Int))), .sl 1 (m.map (fun n:Nat=>AV.int .u32 (n:Int)))] (.bool (gZ l m)):=by
 by_cases hlen:l.length=m.length
 case neg =>
   have d0:decide ((l.length:Int)≠(m.length:Int))=true:=an (by omega)
   rw [bm (fun e=>hlen (by rw [e]))]
   refine VP.has h ?_
   simp only [ee,SS,Nat.reduceAdd,List.length_map,d0]
   exact ag▸ab rfl (af.bool _)
 have d0:decide ((l.length:Int)≠(m.length:Int))=false:=ak (by omega)
 refine VP.has h ?_
 simp only [ee,SS,Nat.reduceAdd,List.length_map,d0,aE]
 refine VW.bR (α := Nat × Nat) (fun x=>⟨[.sl 1 (l.map (fun n:Nat=>AV.int .u32 (n:Int))), .sl 1 (m.map (fun n:Nat=>AV.int .u32 (n:Int))), .top, .top, .top, .top, .top, .top, .top, .top, .top, .top, .int .i64 (l.length:Int), .int .i64 (x.1:Int)]++List.replicate 12 .top,fun _=>none,x.2⟩)
   (fun x=>x.1<=l.length/\l.take x.1=m.take x.1) (fun x=>l.length-x.1) (0,1000) ?_ ⟨Nat.zero_le _,by simp⟩ ?_
 . exact Wk.bc (by simp [Fg,List.replicate]) (by omega)
 rintro ⟨i,nn⟩ ⟨hi,cD⟩
 simp only [] at hi cD
 by_cases aN:i<l.length
 . obtain ⟨x,hx⟩:∃ x,l[i]? = some x:=⟨_,List.getElem?_eq_getElem aN⟩
   obtain ⟨y,hy⟩:∃ y,m[i]? = some y:=⟨_,List.getElem?_eq_getElem (by omega)⟩
   have dd:decide ((i:Int)<(l.length:Int))=true:=an (by omega)
   have AD:(l.map (fun n:Nat=>AV.int .u32 (n:Int)))[i]? = some ((fun n:Nat=>AV.int .u32 (n:Int)) x):=by rw [List.getElem?_map,hx];rfl
   have Ed:(m.map (fun n:Nat=>AV.int .u32 (n:Int)))[i]? = some ((fun n:Nat=>AV.int .u32 (n:Int)) y):=by rw [List.getElem?_map,hy];rfl
   have KQ:part false ((fun n:Nat=>AV.int .u32 (n:Int)) x).cells 0 1=some ((fun n:Nat=>AV.int .u32 (n:Int)) x):=rfl
   have hpy:part false ((fun n:Nat=>AV.int .u32 (n:Int)) y).cells 0 1=some ((fun n:Nat=>AV.int .u32 (n:Int)) y):=rfl
   have mQ:bz 1 (.sl 1 (l.map (fun n:Nat=>AV.int .u32 (n:Int)))) (.int .i64 (i:Int))=some (.ep ((fun n:Nat=>AV.int .u32 (n:Int)) x).cells 0):=aS rfl AD
   have sW:bz 1 (.sl 1 (m.map (fun n:Nat=>AV.int .u32 (n:Int)))) (.int .i64 (i:Int))=some (.ep ((fun n:Nat=>AV.int .u32 (n:Int)) y).cells 0):=aS rfl Ed
   by_cases pG:x=y
   . have bY:decide ((x:Int)≠(y:Int))=false:=by rw [wj,bX pG];rfl
     simp only [SS,DD,Nat.reduceAdd,List.replicate,dd,mQ,sW,az,KQ,hpy,bY,aq i (by omega)]
     refine ⟨by simp [ar,apart],(i+1,nn+1000),⟨by simp only [];omega, ?_⟩,by simp only [];omega,Wk.bc (by simp [Fg]) (by omega)⟩
     simp only []
     rw [List.take_add_one,List.take_add_one,hx,hy,cD,pG]
   . have bY:decide ((x:Int)≠(y:Int))=true:=by rw [wj,bm pG];rfl
     rw [bm (fun e=>pG (by rw [e,hy] at hx;exact (Option.some.inj hx).symm))]
     simp only [SS,DD,Nat.reduceAdd,List.replicate,dd,mQ,sW,az,KQ,hpy,bY]
     refine ⟨by simp [ar,apart], ?_⟩
     exact ag▸ab rfl (af.bool _)
 . have dd:decide ((i:Int)<(l.length:Int))=false:=ak (by omega)
   have jf:i=l.length:=by omega
   have En:i=m.length:=by omega
   rw [bX (by rw [jf,List.take_length] at cD;rw [cD,hlen,List.take_length])]
   simp only [SS,List.replicate,dd]
   exact ag▸ab rfl (af.bool _)
theorem q7 {σ : aa} {id:Id} {k kk:Nat} {z v:AV} (h : σ id=some ⟨[z],kk,false⟩) (hz:z.size=k) (hv:v.cells.length=k) (h1:v.cells.all AV.one=true) (hu:z.s9 0 v.cells=v) :
   eO σ k (.ref id 0 0) v=some { val := .tup [],rd:=[id],up:=[(id,some ⟨[v],kk,false⟩)] }:=by
 rw [cE (n:=k) (v:=v) h rfl (by rw [hv]) (by rw [hz];omega) h1]
 simp [hu]
theorem MK (a b:Bool):(a==b)=gZ a b:=by
 by_cases h:a=b
 . rw [bX h];simp [h]
 . rw [bm h];simp [h]
theorem I4 (b:Bool) (ws:List Nat):part false (IR b ws).cells 0 1=some (.bool b):=rfl
theorem Fl (b:Bool) (ws:List Nat):part false (IR b ws).cells 1 1=some (.sl 1 (us ws)):=rfl
theorem I5 {f fe:FuncId} (h:Has P f (jX fe)) (b b':Bool) (ws ML:List Nat) (he:VP P G fe [.sl 1 (us ws), .sl 1 (us ML)] (.bool (gZ ws ML))) :
   VP P G f [IR b ws,IR b' ML] (.bool (gZ (b,ws) (b',ML))):=by
 have eG:([0]:List Nat)≠[1]:=by decide
 by_cases hb:b=b'
 . have d1:(b==b')=true:=by simp [hb]
   have e:gZ (b,ws) (b',ML)=gZ ws ML:=by
     by_cases hw:ws=ML
     . rw [bX hw,bX (by rw [hb,hw])]
     . rw [bm hw,bm (fun q=>hw (Prod.mk.inj q).2)]
   rw [e]
   refine VP.has h ?_
   simp only [jX,SS,Nat.reduceAdd,xY,ai eG,ae,I4,Fl,d1]
   refine aj he (by simp [kU]) ?_
   simp only [SS,Nat.reduceAdd]
   exact ag▸ab rfl (af.bool _)
 . have d1:(b==b')=false:=by simp [hb]
   rw [bm (fun q=>hb (Prod.mk.inj q).1)]
   refine VP.has h ?_
   simp only [jX,SS,Nat.reduceAdd,xY,ai eG,ae,I4,d1]
   exact ag▸ab rfl (af.bool _)
theorem db {f fe:FuncId} (h:Has P f aR) {α : Type} (φ : α -> AV) (hs:∀ x,(φ x).size=7) (hp:∀ x,af (φ x)) (h1:∀ x,(φ x).cells.all AV.one=true) (BT:∀ x,part true (φ x).cells 0 7=some (φ x)) (hu:∀ x,(AV.agg [.int .i64 0, .bool false, .nils, .bool false, .nils, .str [], .nils]).s9 0 (φ x).cells = φ x)
   (l m:List α) (hl:l.length<=9223372036854775807) (hm:m.length<=9223372036854775807) (he:∀ x∈l,∀ y∈m,VP P G fe [φ x, φ y] (.bool (gZ x y))):VP P G f [.sl 7 (l.map φ), .sl 7 (m.map φ), .fn (.func fe) [] []] (.bool (gZ l m)):=by
 by_cases hlen:l.length=m.length
 case neg =>
   have d0:decide ((l.length:Int)≠(m.length:Int))=true:=an (by omega)
   rw [bm (fun e=>hlen (by rw [e]))]
   refine VP.has h ?_
   simp only [aR,SS,Nat.reduceAdd,List.length_map,d0]
   exact ag▸ab rfl (af.bool _)
 have d0:decide ((l.length:Int)≠(m.length:Int))=false:=ak (by omega)
 have z1:((AV.agg [.int .i64 0, .bool false, .nils, .bool false, .nils, .str [], .nils]).cells.all AV.one=true)=True:=by simp [AV.cells,AV.one]
 refine VP.has h ?_
 simp only [aR,SS,Nat.reduceAdd,List.length_map,d0,aE]
 refine VW.bR (α := Nat × Nat) (fun x=>⟨[.sl 7 (l.map φ), .sl 7 (m.map φ), .fn (.func fe) [] [], .top, .top, .top, .top, .top, .top, .top, .top, .top, .top, .top, .top, .sl 7 (l.map φ), .int .i64 (l.length:Int), .int .i64 (x.1:Int)]++List.replicate 14 .top,fun _=>none,x.2⟩)
   (fun x=>x.1<=l.length/\l.take x.1=m.take x.1) (fun x=>l.length-x.1) (0,1000) ?_ ⟨Nat.zero_le _,by simp⟩ ?_
 . exact Wk.bc (by simp [Fg,List.replicate]) (by omega)
 rintro ⟨i,nn⟩ ⟨hi,cD⟩
 simp only [] at hi cD
 by_cases aN:i<l.length
 . obtain ⟨x,hx⟩:∃ x,l[i]? = some x:=⟨_,List.getElem?_eq_getElem aN⟩
   obtain ⟨y,hy⟩:∃ y,m[i]? = some y:=⟨_,List.getElem?_eq_getElem (by omega)⟩
   have dd:decide ((i:Int)<(l.length:Int))=true:=an (by omega)
   have AD:(l.map φ)[i]? = some (φ x):=by rw [List.getElem?_map,hx];rfl
   have Ed:(m.map φ)[i]? = some (φ y):=by rw [List.getElem?_map,hy];rfl
   have mQ:bz 7 (.sl 7 (l.map φ)) (.int .i64 (i:Int))=some (.ep (φ x).cells 0):=aS rfl AD
   have sW:bz 7 (.sl 7 (m.map φ)) (.int .i64 (i:Int))=some (.ep (φ y).cells 0):=aS rfl Ed
   have Gn:=he x (List.mem_of_getElem? hx) y (List.mem_of_getElem? hy)
   simp only [SS,Nat.reduceAdd,List.replicate,dd,mQ,az,BT,z1]
   rw [q7 (z:=(AV.agg [.int .i64 0, .bool false, .nils, .bool false, .nils, .str [], .nils])) (k:=7) (kk:=(AV.agg [.int .i64 0, .bool false, .nils, .bool false, .nils, .str [], .nils]).size) (by simp [aa.put]) rfl (hs x) (h1 x) (hu x)]
   simp only [SS,Nat.reduceAdd,sW,az,BT,z1]
   rw [q7 (z:=(AV.agg [.int .i64 0, .bool false, .nils, .bool false, .nils, .str [], .nils])) (k:=7) (kk:=(AV.agg [.int .i64 0, .bool false, .nils, .bool false, .nils, .str [], .nils]).size) (by simp [aa.put]) rfl (hs y) (h1 y) (hu y)]
   have kne:([nn+1+3]:List Nat)≠[nn+1+6+4]:=by intro e;simp at e
   simp only [SS,Nat.reduceAdd,ai kne,ae,BT]
   refine aj Gn (by simp [hp]) ?_
   by_cases pG:x=y
   . rw [bX pG]
     simp only [SS,Nat.reduceAdd,aq i (by omega)]
     refine ⟨(i+1,nn+1000),⟨by simp only [];omega, ?_⟩,by simp only [];omega,Wk.forget (by simp [Fg]) (fun j => .inl rfl) (by omega)⟩
     simp only []
     rw [List.take_add_one,List.take_add_one,hx,hy,cD,pG]
   . rw [bm pG,bm (fun e=>pG (by rw [e,hy] at hx;exact (Option.some.inj hx).symm))]
     simp only [SS,Nat.reduceAdd]
     exact ag▸ab rfl (af.bool _)
 . have dd:decide ((i:Int)<(l.length:Int))=false:=ak (by omega)
   have jf:i=l.length:=by omega
   rw [bX (by rw [jf,List.take_length] at cD;rw [cD,hlen,List.take_length])]
   simp only [SS,List.replicate,dd]
   exact ag▸ab rfl (af.bool _)
theorem et {f fe:FuncId} (h:Has P f aH) {α : Type} (φ : α -> AV) (hs:∀ x,(φ x).size=5) (hp:∀ x,af (φ x)) (h1:∀ x,(φ x).cells.all AV.one=true) (BT:∀ x,part true (φ x).cells 0 5=some (φ x)) (hu:∀ x,(AV.agg [(.str []),(.int .i64 (0)), .nils, .nils,(.bool false)]).s9 0 (φ x).cells = φ x)
   (l m:List α) (hl:l.length<=9223372036854775807) (hm:m.length<=9223372036854775807) (he:∀ x∈l,∀ y∈m,VP P G fe [φ x, φ y] (.bool (gZ x y))):VP P G f [.sl 5 (l.map φ), .sl 5 (m.map φ), .fn (.func fe) [] []] (.bool (gZ l m)):=by
 by_cases hlen:l.length=m.length
 case neg =>
   have d0:decide ((l.length:Int)≠(m.length:Int))=true:=an (by omega)
   rw [bm (fun e=>hlen (by rw [e]))]
   refine VP.has h ?_
   simp only [aH,SS,Nat.reduceAdd,List.length_map,d0]
   exact ag▸ab rfl (af.bool _)
 have d0:decide ((l.length:Int)≠(m.length:Int))=false:=ak (by omega)
 have z1:((AV.agg [(.str []),(.int .i64 (0)), .nils, .nils,(.bool false)]).cells.all AV.one=true)=True:=by simp [AV.cells,AV.one]
 refine VP.has h ?_
 simp only [aH,SS,Nat.reduceAdd,List.length_map,d0,aE]
 refine VW.bR (α := Nat × Nat) (fun x=>⟨[.sl 5 (l.map φ), .sl 5 (m.map φ), .fn (.func fe) [] [], .top, .top, .top, .top, .top, .top, .top, .top, .top, .top, .top, .top, .sl 5 (l.map φ), .int .i64 (l.length:Int), .int .i64 (x.1:Int)]++List.replicate 14 .top,fun _=>none,x.2⟩)
   (fun x=>x.1<=l.length/\l.take x.1=m.take x.1) (fun x=>l.length-x.1) (0,1000) ?_ ⟨Nat.zero_le _,by simp⟩ ?_
 . exact Wk.bc (by simp [Fg,List.replicate]) (by omega)
 rintro ⟨i,nn⟩ ⟨hi,cD⟩
 simp only [] at hi cD
 by_cases aN:i<l.length
 . obtain ⟨x,hx⟩:∃ x,l[i]? = some x:=⟨_,List.getElem?_eq_getElem aN⟩
   obtain ⟨y,hy⟩:∃ y,m[i]? = some y:=⟨_,List.getElem?_eq_getElem (by omega)⟩
   have dd:decide ((i:Int)<(l.length:Int))=true:=an (by omega)
   have AD:(l.map φ)[i]? = some (φ x):=by rw [List.getElem?_map,hx];rfl
   have Ed:(m.map φ)[i]? = some (φ y):=by rw [List.getElem?_map,hy];rfl
   have mQ:bz 5 (.sl 5 (l.map φ)) (.int .i64 (i:Int))=some (.ep (φ x).cells 0):=aS rfl AD
   have sW:bz 5 (.sl 5 (m.map φ)) (.int .i64 (i:Int))=some (.ep (φ y).cells 0):=aS rfl Ed
   have Gn:=he x (List.mem_of_getElem? hx) y (List.mem_of_getElem? hy)
   simp only [SS,Nat.reduceAdd,List.replicate,dd,mQ,az,BT,z1]
   rw [q7 (z:=(AV.agg [(.str []),(.int .i64 (0)), .nils, .nils,(.bool false)])) (k:=5) (kk:=(AV.agg [(.str []),(.int .i64 (0)), .nils, .nils,(.bool false)]).size) (by simp [aa.put]) rfl (hs x) (h1 x) (hu x)]
   simp only [SS,Nat.reduceAdd,sW,az,BT,z1]
   rw [q7 (z:=(AV.agg [(.str []),(.int .i64 (0)), .nils, .nils,(.bool false)])) (k:=5) (kk:=(AV.agg [(.str []),(.int .i64 (0)), .nils, .nils,(.bool false)]).size) (by simp [aa.put]) rfl (hs y) (h1 y) (hu y)]
   have kne:([nn+1+3]:List Nat)≠[nn+1+6+4]:=by intro e;simp at e
   simp only [SS,Nat.reduceAdd,ai kne,ae,BT]
   refine aj Gn (by simp [hp]) ?_
   by_cases pG:x=y
   . rw [bX pG]
     simp only [SS,Nat.reduceAdd,aq i (by omega)]
     refine ⟨(i+1,nn+1000),⟨by simp only [];omega, ?_⟩,by simp only [];omega,Wk.forget (by simp [Fg]) (fun j => .inl rfl) (by omega)⟩
     simp only []
     rw [List.take_add_one,List.take_add_one,hx,hy,cD,pG]
   . rw [bm pG,bm (fun e=>pG (by rw [e,hy] at hx;exact (Option.some.inj hx).symm))]
     simp only [SS,Nat.reduceAdd]
     exact ag▸ab rfl (af.bool _)
 . have dd:decide ((i:Int)<(l.length:Int))=false:=ak (by omega)
   have jf:i=l.length:=by omega
   rw [bX (by rw [jf,List.take_length] at cD;rw [cD,hlen,List.take_length])]
   simp only [SS,List.replicate,dd]
   exact ag▸ab rfl (af.bool _)
end
end Go.VL
end
