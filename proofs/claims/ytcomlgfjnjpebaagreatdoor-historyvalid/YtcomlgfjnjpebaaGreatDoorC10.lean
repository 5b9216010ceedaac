/- For the claim of HistoryValid: parts CF7, CF8, CF9, CF10, CH3, CH4, CF11, CF12, CF13, CF14, NL, HNJ, HHasH, CG1. -/
import Derived.Test.YtcomlgfjnjpebaaGreatDoorC09
import Derived.Test.YtcomlgfjnjpebaaGreatDoorC05
import Derived.Lib.IndexMore
import Derived.Sort.KeysCollected
import Derived.Sort.Walk0
import Derived.Lib.SlicesCompact
import Derived.Test.YtcomlgfjnjpebaaGreatDoorProg
import Derived.KernelRfl
import Derived.Test.YtcomlgfjnjpebaaGreatDoorC04
set_option linter.unusedSimpArgs false
set_option linter.unusedVariables false
section
set_option linter.unusedVariables false
set_option linter.unusedVariables false
namespace Go.VL
theorem EX.Gq (op:Int) (n1:Bool) (w1:List Nat) (n2:Bool) (w2:List Nat) (nm:List UInt8) (args:List EX) :
   (EX.mk op n1 w1 n2 w2 nm args).formed=(gO op n1 w1 n2 w2 nm args.length&&EX.gm args):=by
 rw [EX.formed]
 unfold gO arity
 have C6:args.length=0->EX.gm args=true:=fun h=>by rw [List.length_eq_zero_iff.1 h];rfl
 by_cases h1:op=1
 . subst h1
   by_cases h0:args.length=0
   . simp [h0,C6 h0]
   . simp [h0]
 rw [if_neg h1,if_neg h1]
 by_cases h2:op=2
 . subst h2
   by_cases h0:args.length=0
   . simp [h0,C6 h0]
   . simp [h0]
 rw [if_neg h2,if_neg h2]
 by_cases h3:op=3
 . subst h3
   by_cases h0:args.length=1
   . simp [h0]
   . simp [h0]
 rw [if_neg h3]
 by_cases h4:4<=op/\op<=7
 . have a1 : ¬ op<=2:=by omega
   have a2 : ¬ op<=3:=by omega
   have a3:1<=op:=by omega
   rw [if_pos h4,if_neg a1,if_neg a2]
   by_cases h0:args.length=2
   . simp [h0,a3,h4.2]
   . simp [h0]
 . rw [if_neg h4,Bool.false_and]
   by_cases a3:1<=op
   . have a4 : ¬ op<=7:=by omega
     simp [a4]
   . simp [a3]
section
variable {P:Program} {G:Nat->Option (List AV)}
theorem KP {f fs:FuncId} (h:Has P f (gj fs f))
   (hs:∀ op n1 w1 n2 w2 nm args,(EX.mk op n1 w1 n2 w2 nm args).Ok->(EX.mk op n1 w1 n2 w2 nm args).nu=true->VP P G fs [(EX.mk op n1 w1 n2 w2 nm args).av] (.bool (gO op n1 w1 n2 w2 nm args.length))) :
   ∀ e:EX,e.Ok->e.nu=true->VP P G f [e.av] (.bool e.formed):=EX.induct fun op n1 w1 n2 w2 nm args ih mh Y1=>by
 have BC:=hs _ _ _ _ _ _ _ mh Y1
 have R1:=EX.qY mh
 have Wn:=(EX.uy Y1).1
 rw [EX.Ok] at mh
 obtain ⟨_,_,_,_,_,_,_,GK,_⟩:=mh
 rw [EX.Gq]
 cases hb:gO op n1 w1 n2 w2 nm args.length
 . rw [hb] at BC
   refine VP.has h ?_
   simp only [gj,SS,Nat.reduceAdd,EX.one,ae,EX.all]
   refine aj BC (by simp [EX.pure]) ?_
   simp only [SS,Nat.reduceAdd,Bool.false_and]
   exact ag▸ab rfl (af.bool _)
 rw [hb] at BC
 rw [EX.wv,Bool.true_and]
 refine VP.has h ?_
 simp only [gj,SS,Nat.reduceAdd,EX.one,ae,EX.all]
 refine aj BC (by simp [EX.pure]) ?_
 simp only [SS,Nat.reduceAdd,aD]
 refine VW.bL (α := Nat × Nat) (fun x=>⟨[(EX.mk op n1 w1 n2 w2 nm args).av, .ref [0] 0 0, .bool false, .int .i64 (x.1:Int)]++List.replicate 17 .top,aa.put (fun _=>none) [0] (some ⟨[(EX.mk op n1 w1 n2 w2 nm args).av],7,false⟩),x.2⟩)
   (fun x=>x.1<=args.length/\(args.take x.1).all EX.formed=true) (fun x=>args.length-x.1) (0,1000) ?_ ⟨Nat.zero_le _,by simp⟩ ?_
 . exact Wk.slots (by simp [Fg,List.replicate]) (by omega)
 rintro ⟨i,nn⟩ ⟨hi,cz⟩
 simp only [] at hi cz
 by_cases hlt:i<args.length
 . obtain ⟨x,hx⟩:∃ x,args[i]? = some x:=⟨_,List.getElem?_eq_getElem hlt⟩
   have hm:=List.mem_of_getElem? hx
   have hg:(EX.kR args)[i]? = some x.av:=by rw [EX.cF,List.getElem?_map,hx];rfl
   have d1:decide ((i:Int)<(args.length:Int))=true:=ao (by omega)
   have hfx:=ih x hm (R1 x hm) (Wn x hm)
   simp only [SS,Nat.reduceAdd,ae,EX.q6,EX.a6,d1,aQ rfl hg,az,EX.all]
   refine aj hfx (by simp [EX.pure]) ?_
   cases Yd:x.formed
   . have e:args.all EX.formed=false:=by
       rw [Bool.eq_false_iff];intro hh
       rw [List.all_eq_true] at hh
       rw [hh x hm] at Yd;cases Yd
     rw [e]
     simp only [SS,Nat.reduceAdd]
     exact ag▸ab rfl (af.bool _)
   . simp only [SS,Nat.reduceAdd,aq i (by omega)]
     refine ⟨(i+1,_),⟨by simp only [];omega, ?_⟩,by simp only [];omega,Wk.slots (by simp [Fg]) (Nat.le_refl _)⟩
     simp only []
     rw [List.take_add_one,hx,List.all_append,cz]
     simp [Yd]
 . have d1:decide ((i:Int)<(args.length:Int))=false:=ak (by omega)
   have jc:i=args.length:=by omega
   rw [jc,List.take_length] at cz
   rw [cz]
   simp only [SS,Nat.reduceAdd,ae,EX.q6,EX.a6,d1]
   exact ag▸ab rfl (af.bool _)
theorem Ox {f:FuncId} (h:Has P f (jO f)):∀ e:EX,e.nodes<=1000->VP P G f [e.av] (.int .i64 (e.depth:Int)):=EX.induct fun op n1 w1 n2 w2 nm args ih Ah=>by
 have yt:EX.cT args<=999:=by rw [EX.nodes] at Ah;omega
 have GK:args.length<=999:=Nat.le_trans (EX.Du args) yt
 rw [EX.depth]
 refine VP.has h ?_
 simp only [jO,SS,Nat.reduceAdd,EX.one,aD]
 refine VW.bL (α := Nat × Nat) (fun x=>⟨[(EX.mk op n1 w1 n2 w2 nm args).av, .ref [0] 0 0, .top, .int .i64 ((EX.fH (args.take x.1):Nat):Int), .int .i64 (x.1:Int)]++List.replicate 17 .top,aa.put (fun _=>none) [0] (some ⟨[(EX.mk op n1 w1 n2 w2 nm args).av],7,false⟩),x.2⟩)
   (fun x=>x.1<=args.length) (fun x=>args.length-x.1) (0,1000) ?_ (Nat.zero_le _) ?_
 . exact Wk.slots (by simp [Fg,List.replicate,EX.fH]) (by omega)
 rintro ⟨i,nn⟩ hi
 simp only [] at hi
 by_cases hlt:i<args.length
 . obtain ⟨x,hx⟩:∃ x,args[i]? = some x:=⟨_,List.getElem?_eq_getElem hlt⟩
   have hm:=List.mem_of_getElem? hx
   have NW:=EX.sV hm
   have hg:(EX.kR args)[i]? = some x.av:=by rw [EX.cF,List.getElem?_map,hx];rfl
   have d1:decide ((i:Int)<(args.length:Int))=true:=ao (by omega)
   have em:(if (x.depth:Int)>((EX.fH (args.take i):Nat):Int) then (x.depth:Int) else ((EX.fH (args.take i):Nat):Int))=((EX.fH (args.take (i+1)):Nat):Int):=by
     rw [List.take_add_one,hx,Option.toList_some,EX.wx]
     split<;>omega
   simp only [SS,Nat.reduceAdd,ae,EX.q6,EX.a6,d1,aQ rfl hg,az,EX.all]
   refine aj (ih x hm (by omega)) (by simp [EX.pure]) ?_
   simp only [SS,Nat.reduceAdd,aq i (by omega),em]
   exact ⟨(i+1,_),by simp only [];omega,by simp only [];omega,Wk.slots (by simp [Fg]) (Nat.le_refl _)⟩
 . have d1:decide ((i:Int)<(args.length:Int))=false:=ak (by omega)
   have jc:i=args.length:=by omega
   have UF:=EX.AL args args.length
   rw [List.take_length] at UF
   have hw:IntKind.i64.wrap (((EX.fH args:Nat):Int)+1)=((EX.fH args+1:Nat):Int):=by rw [IntKind.wrap_i64];omega
   subst jc
   rw [List.take_length]
   simp only [SS,Nat.reduceAdd,ae,EX.q6,EX.a6,d1,hw]
   exact ag▸ab rfl (af.int _ _)
theorem IZ {f ff fd:FuncId} (h:Has P f (eQ ff fd)) (e:EX) (hf:VP P G ff [e.av] (.bool e.formed)) (hd:VP P G fd [e.av] (.int .i64 (e.depth:Int))) :
   VP P G f [e.av] (.int .i64 (if e.formed=true then (if 40<e.depth then 3 else 0) else 1)):=by
 cases GZ:e.formed
 . rw [GZ] at hf
   refine VP.has h ?_
   simp only [eQ,SS,Nat.reduceAdd,EX.one,ae,EX.all]
   refine aj hf (by simp [EX.pure]) ?_
   simp only [SS,Nat.reduceAdd]
   exact ag▸ab rfl (af.int _ _)
 . rw [GZ] at hf
   by_cases hdp:40<e.depth
   . have d1:decide ((40:Int)<(e.depth:Int))=true:=ao (by omega)
     rw [if_pos rfl,if_pos hdp]
     refine VP.has h ?_
     simp only [eQ,SS,Nat.reduceAdd,EX.one,ae,EX.all]
     refine aj hf (by simp [EX.pure]) ?_
     simp only [SS,Nat.reduceAdd,ae,EX.all]
     refine aj hd (by simp [EX.pure]) ?_
     simp only [SS,Nat.reduceAdd,d1]
     exact ag▸ab rfl (af.int _ _)
   . have d1:decide ((40:Int)<(e.depth:Int))=false:=ak (by omega)
     rw [if_pos rfl,if_neg hdp]
     refine VP.has h ?_
     simp only [eQ,SS,Nat.reduceAdd,EX.one,ae,EX.all]
     refine aj hf (by simp [EX.pure]) ?_
     simp only [SS,Nat.reduceAdd,ae,EX.all]
     refine aj hd (by simp [EX.pure]) ?_
     simp only [SS,Nat.reduceAdd,d1]
     exact ag▸ab rfl (af.int _ _)
theorem R3 {f:FuncId} (h:Has P f (jS f)):∀ e:EX,e.Ok->VP P G f [e.av] (.bool e.nu):=EX.induct fun op n1 w1 n2 w2 nm args ih mh=>by
 have R1:=EX.qY mh
 rw [EX.Ok] at mh
 obtain ⟨_,_,_,_,_,_,_,GK,_⟩:=mh
 rw [EX.nu,EX.yc]
 have hlen:∀ ws,jK false (.sl 1 (us ws))=some (.int .i64 ws.length):=fun ws=>by simp [jK,dD]
 have l1:decide ((w1.length:Int)<=8)=decide (w1.length<=8):=by by_cases q:w1.length<=8<;>simp [q]<;>omega
 have l2:decide ((w2.length:Int)<=8)=decide (w2.length<=8):=by by_cases q:w2.length<=8<;>simp [q]<;>omega
 have l3:decide ((nm.length:Int)<=60)=decide (nm.length<=60):=by by_cases q:nm.length<=60<;>simp [q]<;>omega
 refine VP.has h ?_
 simp only [jS,SS,Nat.reduceAdd,EX.one,aD]
 refine VW.bL (α := Nat × Nat) (fun x=>⟨[(EX.mk op n1 w1 n2 w2 nm args).av, .ref [0] 0 0, .bool false, .int .i64 (x.1:Int)]++List.replicate 34 .top,aa.put (fun _=>none) [0] (some ⟨[(EX.mk op n1 w1 n2 w2 nm args).av],7,false⟩),x.2⟩)
   (fun x=>x.1<=args.length/\(args.take x.1).all EX.nu=true) (fun x=>args.length-x.1) (0,1000) ?_ ⟨Nat.zero_le _,by simp⟩ ?_
 . exact Wk.slots (by simp [Fg,List.replicate]) (by omega)
 rintro ⟨i,nn⟩ ⟨hi,cz⟩
 simp only [] at hi cz
 by_cases hlt:i<args.length
 . obtain ⟨x,hx⟩:∃ x,args[i]? = some x:=⟨_,List.getElem?_eq_getElem hlt⟩
   have hm:=List.mem_of_getElem? hx
   have hg:(EX.kR args)[i]? = some x.av:=by rw [EX.cF,List.getElem?_map,hx];rfl
   have d1:decide ((i:Int)<(args.length:Int))=true:=ao (by omega)
   have hfx:=ih x hm (R1 x hm)
   simp only [SS,Nat.reduceAdd,ae,EX.q6,EX.a6,d1,aQ rfl hg,az,EX.all]
   refine aj hfx (by simp [EX.pure]) ?_
   cases Yd:x.nu
   . have e:args.all EX.nu=false:=by
       rw [Bool.eq_false_iff];intro hh
       rw [List.all_eq_true] at hh
       rw [hh x hm] at Yd;cases Yd
     rw [e]
     simp only [SS,Nat.reduceAdd,Bool.false_and]
     exact ag▸ab rfl (af.bool _)
   . simp only [SS,Nat.reduceAdd,aq i (by omega)]
     refine ⟨(i+1,_),⟨by simp only [];omega, ?_⟩,by simp only [];omega,Wk.slots (by simp [Fg]) (Nat.le_refl _)⟩
     simp only []
     rw [List.take_add_one,hx,List.all_append,cz]
     simp [Yd]
 . have d1:decide ((i:Int)<(args.length:Int))=false:=ak (by omega)
   have jc:i=args.length:=by omega
   rw [jc,List.take_length] at cz
   rw [cz,Bool.true_and]
   cases b1:decide (w1.length<=8)<;>cases b2:decide (w2.length<=8) <;>
   . rw [b1] at l1
     rw [b2] at l2
     simp only [SS,Nat.reduceAdd,ae,EX.q6,EX.a6,d1,EX.r2,EX.r4,EX.q5,hlen,l1,l2,l3,Bool.true_and,Bool.false_and]
     exact ag▸ab rfl (af.bool _)
def j5 (L n:Nat):Nat:=if n<=L then n else L+1
theorem EX.Bt (x:EX):∀ l,EX.cT (l++[x])=EX.cT l+x.nodes
 | []=>by simp [EX.cT]
 | a::l=>by rw [List.cons_append,EX.cT,EX.cT,EX.Bt x l];omega
theorem EX.I0 (l:List EX) (k:Nat):EX.cT (l.take k)<=EX.cT l:=by
 induction l generalizing k with
 | nil=>simp [EX.cT]
 | cons a l ih=>cases k with
   | zero=>simp [EX.cT]
   | succ k=>rw [List.take_succ_cons,EX.cT,EX.cT];have:=ih k;omega
theorem R4 {f:FuncId} (h:Has P f (jQ f)):∀ e:EX,e.Ok->∀ L:Nat,L<=1000->VP P G f [e.av, .int .i64 (L:Int)] (.int .i64 ((j5 L e.nodes:Nat):Int)):=EX.induct fun op n1 w1 n2 w2 nm args ih mh L hL=>by
 have R1:=EX.qY mh
 rw [EX.Ok] at mh
 obtain ⟨_,_,_,_,_,_,_,GK,_⟩:=mh
 rw [EX.nodes]
 refine VP.has h ?_
 simp only [jQ,SS,Nat.reduceAdd,EX.one,aD]
 refine VW.bL (α := Nat × Nat) (fun x=>⟨[(EX.mk op n1 w1 n2 w2 nm args).av, .int .i64 (L:Int), .ref [0] 0 0, .top, .top, .int .i64 ((j5 L (1+EX.cT (args.take x.1)):Nat):Int), .int .i64 (x.1:Int)]++List.replicate 24 .top,aa.put (fun _=>none) [0] (some ⟨[(EX.mk op n1 w1 n2 w2 nm args).av],7,false⟩),x.2⟩)
   (fun x=>x.1<=args.length) (fun x=>args.length-x.1) (0,1000) ?_ (Nat.zero_le _) ?_
 . have e0:j5 L (1+EX.cT (args.take 0))=1:=by rw [List.take_zero,EX.cT];unfold j5;split<;>omega
   simp only [e0]
   exact Wk.slots (by simp [Fg,List.replicate]) (by omega)
 rintro ⟨i,nn⟩ hi
 simp only [] at hi
 by_cases hlt:i<args.length
 . obtain ⟨x,hx⟩:∃ x,args[i]? = some x:=⟨_,List.getElem?_eq_getElem hlt⟩
   have hm:=List.mem_of_getElem? hx
   have hg:(EX.kR args)[i]? = some x.av:=by rw [EX.cF,List.getElem?_map,hx];rfl
   have d1:decide ((i:Int)<(args.length:Int))=true:=ao (by omega)
   by_cases hn:1+EX.cT (args.take i)<=L
   . have e1:j5 L (1+EX.cT (args.take i))=1+EX.cT (args.take i):=if_pos hn
     have d2:decide (((1+EX.cT (args.take i):Nat):Int)<=(L:Int))=true:=ao (by omega)
     have hw:IntKind.i64.wrap ((L:Int)-((1+EX.cT (args.take i):Nat):Int))=((L-(1+EX.cT (args.take i)):Nat):Int):=by rw [IntKind.wrap_i64];omega
     have hfx:=ih x hm (R1 x hm) (L-(1+EX.cT (args.take i))) (by omega)
     have hup:j5 (L-(1+EX.cT (args.take i))) x.nodes<=L+1:=by unfold j5;split<;>omega
     have wN:IntKind.i64.wrap (((1+EX.cT (args.take i):Nat):Int)+((j5 (L-(1+EX.cT (args.take i))) x.nodes:Nat):Int))=((j5 L (1+EX.cT (args.take (i+1))):Nat):Int):=by
       rw [List.take_add_one,hx,Option.toList_some,EX.Bt]
       unfold j5 at hup ⊢
       rw [IntKind.wrap_i64]
       split<;>split<;>omega
     simp only [e1]
     simp only [SS,Nat.reduceAdd,ae,EX.q6,EX.a6,d1,d2,aQ rfl hg,az,EX.all,hw]
     refine aj hfx (by simp [EX.pure,af.int]) ?_
     simp only [SS,Nat.reduceAdd,aq i (by omega),wN]
     exact ⟨(i+1,_),by simp only [];omega,by simp only [];omega,Wk.slots (by simp [Fg]) (Nat.le_refl _)⟩
   . have e1:j5 L (1+EX.cT (args.take i))=L+1:=if_neg hn
     have d2:decide (((L+1:Nat):Int)<=(L:Int))=false:=ak (by omega)
     have ht:=EX.I0 args i
     have e2:j5 L (1+EX.cT args)=L+1:=if_neg (by omega)
     simp only [e1]
     rw [e2]
     simp only [SS,Nat.reduceAdd,ae,EX.q6,EX.a6,d1,d2]
     exact ag▸ab rfl (af.int _ _)
 . have d1:decide ((i:Int)<(args.length:Int))=false:=ak (by omega)
   have jc:i=args.length:=by omega
   subst jc
   simp only [List.take_length]
   simp only [SS,Nat.reduceAdd,ae,EX.q6,EX.a6,d1]
   exact ag▸ab rfl (af.int _ _)
theorem KQ {f fn fl:FuncId} (h:Has P f (gC fn fl)) (e:EX) (hn:VP P G fn [e.av, .int .i64 120] (.int .i64 ((j5 120 e.nodes:Nat):Int))) (hl:VP P G fl [e.av] (.bool e.nu)) :
   VP P G f [e.av] (.bool (decide (e.nodes<=120)&&e.nu)):=by
 by_cases hd:e.nodes<=120
 . have e1:j5 120 e.nodes=e.nodes:=if_pos hd
   have d1:decide ((e.nodes:Int)<=120)=true:=ao (by omega)
   rw [e1] at hn
   rw [ao hd,Bool.true_and]
   refine VP.has h ?_
   simp only [gC,SS,Nat.reduceAdd,EX.one,ae,EX.all]
   refine aj hn (by simp [EX.pure,af.int]) ?_
   simp only [SS,Nat.reduceAdd,d1,ae,EX.all]
   refine aj hl (by simp [EX.pure]) ?_
   simp only [SS,Nat.reduceAdd]
   exact ag▸ab rfl (af.bool _)
 . have e1:j5 120 e.nodes=121:=if_neg hd
   have d1:decide ((((121:Nat)):Int)<=120)=false:=by decide
   rw [e1] at hn
   rw [ak hd,Bool.false_and]
   refine VP.has h ?_
   simp only [gC,SS,Nat.reduceAdd,EX.one,ae,EX.all]
   refine aj hn (by simp [EX.pure,af.int]) ?_
   simp only [SS,Nat.reduceAdd,d1]
   exact ag▸ab rfl (af.bool _)
end
end Go.VL
end

section
set_option linter.unusedVariables false
set_option linter.unusedVariables false
namespace Go.VL
def sW (s:List UInt8):Nat:=match s with
 | []=>0
 | c::_=>if dx c=true then fD di s else 0
section
variable {P:Program} {G:Nat->Option (List AV)}
theorem UW {f fl fd:FuncId} (h:Has P f (fA fl fd)) (hl:∀ c,VP P G fl [hZ c] (.bool (dx c))) (hd:∀ c,VP P G fd [hZ c] (.bool (mb c)))
   (s:List UInt8) (hs:s.length<9223372036854775807):VP P G f [.str s, .int .i64 0] (.int .i64 ((sW s:Nat):Int)):=by
 cases s with
 | nil =>
   refine VP.has h ?_
   have z0:decide ((0:Int)=((0:Nat):Int))=true:=rfl
   have e:sW []=0:=rfl
   rw [e]
   simp only [fA,SS,Nat.reduceAdd,z0]
   exact ag▸ab rfl (af.int _ _)
 | cons c0 s0 =>
   generalize Y2:c0::s0=s at hs ⊢
   have hlen:0<s.length:=by rw [<- Y2];simp
   have d0:decide ((0:Int)=(s.length:Int))=false:=ak (by omega)
   have JZ:s[0]? = some c0:=by rw [<- Y2];rfl
   have WR:=dF (k:=0) JZ
   simp only [Int.natCast_zero] at WR
   cases UX:dx c0
   . have Lq:=hl c0
     rw [UX] at Lq
     have e:sW s=0:=by rw [<- Y2];simp [sW,UX]
     rw [e]
     refine VP.has h ?_
     simp only [fA,SS,Nat.reduceAdd,d0,WR]
     refine aj Lq (by simp [ee]) ?_
     simp only [SS,Nat.reduceAdd]
     exact ag▸ab rfl (af.int _ _)
   have Lq:=hl c0
   rw [UX] at Lq
   have e:sW s=fD di s:=by rw [<- Y2];simp [sW,UX]
   rw [e]
   refine VP.has h ?_
   simp only [fA,SS,Nat.reduceAdd,d0,WR]
   refine aj Lq (by simp [ee]) ?_
   simp only [SS,Nat.reduceAdd,aD]
   refine VW.bL (α := Nat × Nat) (fun x=>⟨[.str s, .int .i64 (x.1:Int), .top, .top, .top]++List.replicate 37 .top,fun _=>none,x.2⟩) (fun x=>x.1<=fD di s) (fun x=>fD di s-x.1) (0,1000) ?_ (Nat.zero_le _) ?_
   . exact Wk.slots (by simp [Fg,List.replicate]) (by omega)
   rintro ⟨k,n⟩ hk
   simp only [] at hk
   have Ib:=C1 di s
   by_cases hlt:k<s.length
   . obtain ⟨c,hc⟩:∃ c,s[k]? = some c:=⟨_,List.getElem?_eq_getElem hlt⟩
     have d1:decide ((k:Int)<(s.length:Int))=true:=ao (by omega)
     have FM:=hl c
     have G8:=hd c
     have hwd:di c=(dx c||mb c||decide ((c.toNat:Int)=95)):=rfl
     have vA:di c=true->k<fD di s:=fun hw=>by
       rcases Nat.lt_or_ge k (fD di s) with q | q
       . exact q
       . have Mt:k=fD di s:=by omega
         rcases x3 di s with h0 | ⟨c',hc',Qs⟩
         . rw [<- Mt,hc] at h0;cases h0
         . rw [<- Mt,hc] at hc';cases hc';rw [hw] at Qs;cases Qs
     have CH:di c=false->k=fD di s:=fun hw=>by
       rcases Nat.lt_or_ge k (fD di s) with q | q
       . obtain ⟨c',hc',Qs⟩:=C2 di s k q
         rw [hc] at hc';cases hc';rw [hw] at Qs;cases Qs
       . omega
     have JS:(hZ c) = .int .u8 (c.toNat:Int):=rfl
     cases b1:dx c
     . rw [b1] at FM hwd
       cases b2:mb c
       . rw [b2] at G8 hwd
         cases b3:decide ((c.toNat:Int)=95)
         . rw [b3] at hwd
           have Mt:=CH hwd
           simp only [SS,Nat.reduceAdd,d1,dF hc]
           refine aj FM (by simp [ee]) ?_
           simp only [SS,Nat.reduceAdd,dF hc]
           refine aj G8 (by simp [ee]) ?_
           simp only [SS,Nat.reduceAdd,dF hc,JS,b3]
           rw [<- Mt]
           exact ag▸ab rfl (af.int _ _)
         . rw [b3] at hwd
           have Ib:=vA hwd
           simp only [SS,Nat.reduceAdd,d1,dF hc]
           refine aj FM (by simp [ee]) ?_
           simp only [SS,Nat.reduceAdd,dF hc]
           refine aj G8 (by simp [ee]) ?_
           simp only [SS,Nat.reduceAdd,dF hc,JS,b3,aq k (by omega)]
           exact ⟨(k+1,_),by simp only [];omega,by simp only [];omega,Wk.slots (by simp [Fg]) (Nat.le_refl _)⟩
       . rw [b2] at G8 hwd
         have Ib:=vA hwd
         simp only [SS,Nat.reduceAdd,d1,dF hc]
         refine aj FM (by simp [ee]) ?_
         simp only [SS,Nat.reduceAdd,dF hc]
         refine aj G8 (by simp [ee]) ?_
         simp only [SS,Nat.reduceAdd,aq k (by omega)]
         exact ⟨(k+1,_),by simp only [];omega,by simp only [];omega,Wk.slots (by simp [Fg]) (Nat.le_refl _)⟩
     . rw [b1] at FM hwd
       have Ib:=vA hwd
       simp only [SS,Nat.reduceAdd,d1,dF hc]
       refine aj FM (by simp [ee]) ?_
       simp only [SS,Nat.reduceAdd,aq k (by omega)]
       exact ⟨(k+1,_),by simp only [];omega,by simp only [];omega,Wk.slots (by simp [Fg]) (Nat.le_refl _)⟩
   . have d1:decide ((k:Int)<(s.length:Int))=false:=ak (by omega)
     have Mt:k=fD di s:=by omega
     rw [<- Mt]
     simp only [SS,Nat.reduceAdd,d1]
     exact ag▸ab rfl (af.int _ _)
theorem KR {f fw:FuncId} (h:Has P f (eH fw)) (hw:∀ s:List UInt8,s.length<9223372036854775807->VP P G fw [.str s, .int .i64 0] (.int .i64 ((sW s:Nat):Int))) (s:List UInt8) :
   VP P G f [.str s] (.bool (bc s)):=by
 cases s with
 | nil =>
   refine VP.has h ?_
   simp only [eH,SS,Nat.reduceAdd]
   exact ag▸ab rfl (af.bool _)
 | cons c s =>
   have e0:(!((c::s)==([]:List UInt8)))=true:=rfl
   by_cases h1:(((s.length+1:Nat)):Int)<=24
   . refine VP.has h ?_
     simp only [eH,SS,Nat.reduceAdd,e0,h1,decide_true]
     refine aj (hw (c::s) (by simp only [List.length_cons];omega)) (by simp [af.str,af.int]) ?_
     by_cases h3:sW (c::s)=s.length+1
     . have h4:(sW (c::s):Int)=((s.length+1:Nat):Int):=by omega
       have:bc (c::s)=true:=by
         have hv:bc (c::s)=(decide ((c::s).length<=24)&&dx c&&decide (fD di (c::s)=(c::s).length)):=rfl
         have hwv:sW (c::s)=if dx c=true then fD di (c::s) else 0:=rfl
         rw [hwv] at h3
         rw [hv]
         cases h2:dx c
         . rw [h2] at h3;simp at h3
         . rw [h2,if_pos rfl] at h3
           have g1:decide ((c::s).length<=24)=true:=ao (by rw [List.length_cons];omega)
           have g2:decide (fD di (c::s)=(c::s).length)=true:=ao (by rw [List.length_cons];omega)
           rw [g1,g2];rfl
       rw [this]
       simp only [SS,Nat.reduceAdd,h4,decide_true]
       exact ag▸ab rfl (af.bool _)
     . have h4 : ¬ (sW (c::s):Int)=((s.length+1:Nat):Int):=by omega
       have:bc (c::s)=false:=by
         have hv:bc (c::s)=(decide ((c::s).length<=24)&&dx c&&decide (fD di (c::s)=(c::s).length)):=rfl
         have hwv:sW (c::s)=if dx c=true then fD di (c::s) else 0:=rfl
         rw [hwv] at h3
         rw [hv]
         cases h2:dx c
         . rw [Bool.and_false,Bool.false_and]
         . rw [h2,if_pos rfl] at h3
           have g2:decide (fD di (c::s)=(c::s).length)=false:=ak (by rw [List.length_cons];omega)
           rw [g2,Bool.and_false]
       rw [this]
       simp only [SS,Nat.reduceAdd,h4,decide_false]
       exact ag▸ab rfl (af.bool _)
   . refine VP.has h ?_
     have:bc (c::s)=false:=by unfold bc;simp only [List.length_cons];simp;intro h;omega
     rw [this]
     simp only [eH,SS,Nat.reduceAdd,e0,h1,decide_false]
     exact ag▸ab rfl (af.bool _)
end
end Go.VL
end

section
set_option linter.unusedVariables false
set_option linter.unusedVariables false
namespace Go.VL
def kj:List UInt8->Option Nat
 | []=>none
 | b::l=>if b=47 then some 0 else (kj l).map (· + 1)
theorem Dv:∀ {s:List UInt8} {k:Nat},kj s=some k->k<s.length
 | b :: l,k,h=>by
   rw [kj] at h
   split at h
   . cases h;simp
   . obtain ⟨j,hj,rfl⟩:=Option.map_eq_some_iff.1 h
     have:=Dv hj
     simp;omega
theorem I1:∀ {s:List UInt8} {k:Nat},kj s=some k->s[k]? = some 47
 | b :: l,k,h=>by
   rw [kj] at h
   split at h
   . rename_i hb;cases h;subst hb;rfl
   . obtain ⟨j,hj,rfl⟩:=Option.map_eq_some_iff.1 h
     simpa using I1 hj
theorem zu:∀ {s:List UInt8} {k j:Nat},kj s=some k->j<k->s[j]? ≠ some 47
 | b :: l,k,j,h,hj=>by
   rw [kj] at h
   split at h
   . cases h;omega
   . rename_i hb
     obtain ⟨i,hi,rfl⟩:=Option.map_eq_some_iff.1 h
     cases j with
     | zero=>simpa using hb
     | succ j=>simpa using zu hi (show j<i by omega)
theorem Dw:∀ {s:List UInt8} {j:Nat},kj s=none->s[j]? ≠ some 47
 | [],j,_=>by simp
 | b :: l,j,h=>by
   rw [kj] at h
   split at h
   . cases h
   . rename_i hb
     have hl:kj l=none:=by simpa using h
     cases j with
     | zero=>simpa using hb
     | succ j=>simpa using Dw hl (j:=j)
theorem Bu:∀ s:List UInt8,Lib.index s [47]=match kj s with | some k=>(k:Int) | none => -1
 | []=>rfl
 | b :: l=>by
   rw [Lib.index,kj,Bu l]
   by_cases h:b=47
   . subst h;rfl
   . have:([47]:List UInt8).isPrefixOf (b::l)=false:=by
       have h' : ¬ (47:UInt8)=b:=fun e=>h e.symm
       simp [List.isPrefixOf,h']
     rw [this,if_neg h]
     cases kj l with
     | none=>rfl
     | some k =>
       have e:((k:Int) == -1)=false:=by
         rw [beq_eq_false_iff_ne];omega
       simp only [Bool.false_eq_true,if_false,e,Option.map_some]
       exact (Int.natCast_succ k).symm
theorem Fq (s:List UInt8):Lib.cut s [47]=match kj s with | some k=>(s.take k,s.drop (k+1),true) | none=>(s,[],false):=by
 unfold Lib.cut
 rw [Bu]
 cases kj s with
 | none=>rfl
 | some k=>simp
def nX (c:UInt8):Bool := !decide ((c.toNat:Int)<33) && !decide ((126:Int)<(c.toNat:Int))
def eM (s:List UInt8):Option (List UInt8):=match kj s with
 | none=>none
 | some k=>if (decide (k+1≠s.length)&&decide (s.length<=200)&&bc (s.take k)&&s.all nX)=true then some (s.take k) else none
section
variable {P:Program} {G:Nat->Option (List AV)}
theorem Ek {f fc fn:FuncId} (h:Has P f (db fc fn)) (s:List UInt8) (hl:s.length<=1000000) (hc:VP P G fc [.str s, .str [47]] (.tup [.str (Lib.cut s [47]).1, .str (Lib.cut s [47]).2.1, .bool (Lib.cut s [47]).2.2]))
   (hn:∀ s,VP P G fn [.str s] (.bool (bc s))):VP P G f [.str s] (.bool (eM s).isSome):=by
 rw [Fq] at hc
 unfold eM
 cases hs:kj s with
 | none =>
   rw [hs] at hc
   simp only [] at hc
   refine VP.has h ?_
   simp only [db,SS,Nat.reduceAdd]
   refine aj hc (by simp [af.str]) ?_
   simp only [SS,Nat.reduceAdd,r7,r8,r9,Option.isSome_none]
   exact ag▸ab rfl (af.bool _)
 | some k =>
   rw [hs] at hc
   simp only [] at hc ⊢
   have hk:=Dv hs
   have yf:=hn (s.take k)
   by_cases h1:k+1=s.length
   . have e1:s.drop (k+1)=[]:=List.drop_of_length_le (by omega)
     rw [e1] at hc
     rw [ak (by omega : ¬ k+1≠s.length),Bool.false_and,Bool.false_and,Bool.false_and,if_neg (by decide)]
     refine VP.has h ?_
     simp only [db,SS,Nat.reduceAdd]
     refine aj hc (by simp [af.str]) ?_
     simp only [SS,Nat.reduceAdd,r7,r8,r9,Option.isSome_none]
     exact ag▸ab rfl (af.bool _)
   have e1:(s.drop (k+1)==([]:List UInt8))=false:=by
     rw [beq_eq_false_iff_ne];intro e
     have:=congrArg List.length e
     rw [List.length_drop] at this;simp at this;omega
   by_cases h2:s.length<=200
   case neg =>
     have d2:decide ((200:Int)<(s.length:Int))=true:=ao (by omega)
     rw [ak h2,Bool.and_false,Bool.false_and,Bool.false_and,if_neg (by decide)]
     refine VP.has h ?_
     simp only [db,SS,Nat.reduceAdd]
     refine aj hc (by simp [af.str]) ?_
     simp only [SS,Nat.reduceAdd,r7,r8,r9,Option.isSome_none,e1,d2]
     exact ag▸ab rfl (af.bool _)
   have d2:decide ((200:Int)<(s.length:Int))=false:=ak (by omega)
   rw [ao h1,ao h2]
   cases h3:bc (s.take k)
   . rw [h3] at yf
     simp only [Bool.and_false,Bool.false_and,Bool.false_eq_true,if_false,Option.isSome_none]
     refine VP.has h ?_
     simp only [db,SS,Nat.reduceAdd]
     refine aj hc (by simp [af.str]) ?_
     simp only [SS,Nat.reduceAdd,r7,r8,r9,e1,d2]
     refine aj yf (by simp [af.str]) ?_
     simp only [SS,Nat.reduceAdd]
     exact ag▸ab rfl (af.bool _)
   rw [h3] at yf
   have uV:(if (true&&true&&true&&s.all nX)=true then some (s.take k) else none).isSome=s.all nX:=by
     cases s.all nX<;>rfl
   rw [uV]
   refine VP.has h ?_
   simp only [db,SS,Nat.reduceAdd]
   refine aj hc (by simp [af.str]) ?_
   simp only [SS,Nat.reduceAdd,r7,r8,r9,e1,d2]
   refine aj yf (by simp [af.str]) ?_
   simp only [SS,Nat.reduceAdd,aD]
   refine VW.bL (α := Nat × Nat) (fun x=>⟨[.str s]++List.replicate 29 .top++[.int .i64 (s.length:Int), .int .i64 (x.1:Int)]++List.replicate 13 .top,fun _=>none,x.2⟩)
     (fun x=>x.1<=s.length/\(s.take x.1).all nX=true) (fun x=>s.length-x.1) (0,1000) ?_ ⟨Nat.zero_le _,by simp⟩ ?_
   . exact Wk.slots (by simp [Fg,List.replicate]) (by omega)
   rintro ⟨i,nn⟩ ⟨hi,cz⟩
   simp only [] at hi cz
   by_cases hlt:i<s.length
   . obtain ⟨c,hc⟩:∃ c,s[i]? = some c:=⟨_,List.getElem?_eq_getElem hlt⟩
     have hm:=List.mem_of_getElem? hc
     have dd:decide ((i:Int)<(s.length:Int))=true:=ao (by omega)
     have JS:(hZ c) = .int .u8 (c.toNat:Int):=rfl
     have mh:nX c=(!decide ((c.toNat:Int)<33) && !decide ((126:Int)<(c.toNat:Int))):=rfl
     have R5:nX c=false->s.all nX=false:=fun hb=>by
       rw [Bool.eq_false_iff];intro hh
       rw [List.all_eq_true] at hh
       rw [hh c hm] at hb;cases hb
     cases b1:decide ((c.toNat:Int)<33)
     . cases b2:decide ((126:Int)<(c.toNat:Int))
       . simp only [SS,Nat.reduceAdd,List.replicate,dd,dF hc,JS,b1,b2,aq i (by omega)]
         refine ⟨(i+1,_),⟨by simp only [];omega, ?_⟩,by simp only [];omega,Wk.slots (by simp [Fg]) (Nat.le_refl _)⟩
         simp only []
         rw [List.take_add_one,hc,List.all_append,cz]
         simp [mh,b1,b2]
       . rw [R5 (by rw [mh,b1,b2];rfl)]
         simp only [SS,Nat.reduceAdd,List.replicate,dd,dF hc,JS,b1,b2]
         exact ag▸ab rfl (af.bool _)
     . rw [R5 (by rw [mh,b1];rfl)]
       simp only [SS,Nat.reduceAdd,List.replicate,dd,dF hc,JS,b1]
       exact ag▸ab rfl (af.bool _)
   . have dd:decide ((i:Int)<(s.length:Int))=false:=ak (by omega)
     have jc:i=s.length:=by omega
     rw [jc,List.take_length] at cz
     rw [cz]
     simp only [SS,List.replicate,dd]
     exact ag▸ab rfl (af.bool _)
end
end Go.VL
end

section
set_option linter.unusedVariables false
set_option linter.unusedVariables false
namespace Go.VL
def KS (s:List UInt8) (i:Nat):Int:=match kj s with
 | some k=>if k<i then (k:Int) else -1-0
 | none => -1-0
section
variable {P:Program} {G:Nat->Option (List AV)}
theorem KT {f fn : FuncId} (h:Has P f (iS fn)) (s:List UInt8) (hl:s.length<=1000000) (hn:∀ s,VP P G fn [.str s] (.bool (bc s))):VP P G f [.str s] (.str ((eM s).getD [])):=by
 have MT:(∃ c∈s,nX c=false)->(eM s).getD []=[]:=by
   rintro ⟨c,hm,hc⟩
   have:s.all nX=false:=by
     rw [Bool.eq_false_iff];intro hh
     rw [List.all_eq_true] at hh
     rw [hh c hm] at hc;cases hc
   unfold eM
   cases kj s with
   | none=>rfl
   | some k=>simp [this]
 refine VP.has h ?_
 simp only [iS,SS,Nat.reduceAdd,aD]
 refine VW.bL (α := Nat × Nat) (fun x=>⟨[.str s, .top, .str [], .int .i64 (KS s x.1), .int .i64 (x.1:Int)]++List.replicate 49 .top,fun _=>none,x.2⟩)
   (fun x=>x.1<=s.length/\(s.take x.1).all nX=true) (fun x=>s.length-x.1) (0,1000) ?_ ⟨Nat.zero_le _,by simp⟩ ?_
 . have e0:KS s 0 = -1-0:=by unfold KS;split<;>simp
   simp only [e0]
   exact Wk.slots (by simp [Fg,List.replicate]) (by omega)
 rintro ⟨i,nn⟩ ⟨hi,cz⟩
 simp only [] at hi cz
 by_cases hlt:i<s.length
 . obtain ⟨c,hc⟩:∃ c,s[i]? = some c:=⟨_,List.getElem?_eq_getElem hlt⟩
   have hm:=List.mem_of_getElem? hc
   have dd:decide ((i:Int)<(s.length:Int))=true:=ao (by omega)
   have JS:(hZ c) = .int .u8 (c.toNat:Int):=rfl
   have mh:nX c=(!decide ((c.toNat:Int)<33) && !decide ((126:Int)<(c.toNat:Int))):=rfl
   cases b1:decide ((c.toNat:Int)<33)
   . cases b2:decide ((126:Int)<(c.toNat:Int))
     . have Bv : (s.take (i+1)).all nX=true:=by
         rw [List.take_add_one,hc,List.all_append,cz]
         simp [mh,b1,b2]
       by_cases Y3:c=47
       . have d3 : decide ((c.toNat:Int)=47)=true:=by rw [Y3];rfl
         rw [Y3] at hc
         by_cases xd:KS s i<0
         . have d4:decide (KS s i<0)=true:=ao xd
           have e1:KS s (i+1)=(i:Int):=by
             unfold KS at xd ⊢
             cases hs:kj s with
             | none=>exact absurd hc (Dw hs)
             | some k =>
               rw [hs] at xd
               simp only [] at xd ⊢
               have hki : ¬ k<i:=by intro hk;rw [if_pos hk] at xd;omega
               have Mt : ¬ i<k:=fun hik=>zu hs hik hc
               rw [if_pos (by omega)];omega
           rw [<- Y3] at hc
           simp only [SS,Nat.reduceAdd,dd,dF hc,JS,b1,b2,d3,d4,aq i (by omega)]
           refine ⟨(i+1,nn+1000),⟨by simp only [];omega,Bv⟩,by simp only [];omega, ?_⟩
           simp only [e1]
           exact Wk.slots (by simp [Fg]) (by omega)
         . have d4:decide (KS s i<0)=false:=ak xd
           have e1:KS s (i+1)=KS s i:=by
             unfold KS at xd ⊢
             cases hs:kj s with
             | none=>rfl
             | some k =>
               rw [hs] at xd
               simp only [] at xd ⊢
               have hki:k<i:=by
                 rcases Nat.lt_or_ge k i with q | q
                 . exact q
                 . rw [if_neg (by omega)] at xd;simp at xd
               rw [if_pos hki,if_pos (by omega)]
           rw [<- Y3] at hc
           simp only [SS,Nat.reduceAdd,dd,dF hc,JS,b1,b2,d3,d4,aq i (by omega)]
           refine ⟨(i+1,nn+1000),⟨by simp only [];omega,Bv⟩,by simp only [];omega, ?_⟩
           simp only [e1]
           exact Wk.slots (by simp [Fg]) (by omega)
       . have d3:decide ((c.toNat:Int)=47)=false:=ak (fun e=>Y3 (by
           have:c.toNat=47:=by omega
           exact UInt8.toNat_inj.1 (by rw [this];rfl)))
         have e1:KS s (i+1)=KS s i:=by
           unfold KS
           cases hs:kj s with
           | none=>rfl
           | some k =>
             simp only []
             have hki:k≠i:=fun e=>by
               have:=I1 hs
               rw [e,hc] at this
               exact Y3 (Option.some.inj this)
             by_cases q:k<i
             . rw [if_pos q,if_pos (by omega)]
             . rw [if_neg q,if_neg (by omega)]
         simp only [SS,Nat.reduceAdd,dd,dF hc,JS,b1,b2,d3,aq i (by omega)]
         refine ⟨(i+1,nn+1000),⟨by simp only [];omega,Bv⟩,by simp only [];omega, ?_⟩
         simp only [e1]
         exact Wk.slots (by simp [Fg]) (by omega)
     . rw [MT ⟨c,hm,by rw [mh,b1,b2];rfl⟩]
       simp only [SS,Nat.reduceAdd,dd,dF hc,JS,b1,b2]
       exact ag▸ab rfl (af.str _)
   . rw [MT ⟨c,hm,by rw [mh,b1];rfl⟩]
     simp only [SS,Nat.reduceAdd,dd,dF hc,JS,b1]
     exact ag▸ab rfl (af.str _)
 . have dd:decide ((i:Int)<(s.length:Int))=false:=ak (by omega)
   have jc:i=s.length:=by omega
   rw [jc,List.take_length] at cz
   rw [jc]
   rw [jc] at dd
   unfold eM KS
   cases hs:kj s with
   | none =>
     have d1:decide ((-1-0:Int)<0)=true:=by decide
     simp only [SS,Nat.reduceAdd,dd,d1,Option.getD_none]
     exact ag▸ab rfl (af.str _)
   | some k =>
     have hk:=Dv hs
     have d1:decide ((k:Int)<0)=false:=ak (by omega)
     have hw:IntKind.i64.wrap ((s.length:Int)-1)=(s.length:Int)-1:=by rw [IntKind.wrap_i64];omega
     have Co:=AH (s:=s) (l:=k) (by omega)
     have yf:=hn (s.take k)
     rw [cz]
     simp only [hk,if_true]
     by_cases h1:k+1=s.length
     . have d2:decide ((k:Int)=(s.length:Int)-1)=true:=ao (by omega)
       rw [ak (by omega : ¬ k+1≠s.length),Bool.false_and,Bool.false_and,Bool.false_and,if_neg (by decide)]
       simp only [SS,Nat.reduceAdd,dd,d1,d2,hw,Option.getD_none]
       exact ag▸ab rfl (af.str _)
     have d2:decide ((k:Int)=(s.length:Int)-1)=false:=ak (by omega)
     by_cases h2:s.length<=200
     case neg =>
       have d3:decide ((200:Int)<(s.length:Int))=true:=ao (by omega)
       rw [ak h2,Bool.and_false,Bool.false_and,Bool.false_and,if_neg (by decide)]
       simp only [SS,Nat.reduceAdd,dd,d1,d2,d3,hw,Option.getD_none]
       exact ag▸ab rfl (af.str _)
     have d3:decide ((200:Int)<(s.length:Int))=false:=ak (by omega)
     rw [ao h1,ao h2]
     cases h3:bc (s.take k)
     . rw [h3] at yf
       simp only [SS,Nat.reduceAdd,dd,d1,d2,d3,hw,Co,Bool.and_false,Bool.and_true,Option.getD_none]
       refine aj yf (by simp [af.str]) ?_
       simp only [SS,Nat.reduceAdd]
       exact ag▸ab rfl (af.str _)
     . rw [h3] at yf
       simp only [SS,Nat.reduceAdd,dd,d1,d2,d3,hw,Co,Bool.and_true,Option.getD_some]
       refine aj yf (by simp [af.str]) ?_
       simp only [SS,Nat.reduceAdd,Co]
       exact ag▸ab rfl (af.str _)
end
end Go.VL
end

section
set_option linter.unusedVariables false
namespace Go.VL
section
variable {P:Program} {G:Nat->Option (List AV)}
theorem nY {f:FuncId} (h:Has P f cZ) {es:List AV} (hk:∀ e∈es,e.size=1) (h1:(es.all fun e=>e.cells.all AV.one)=true) (hp:∀ c∈flat es,af c) (hl:es.length*16<=140737488355328):VP P G f [.sl 1 es] (.sl 1 es):=by
 refine VP.has h ?_
 have hb:∀ (σ : aa) (p:Id),b8 σ p (.buildSl 1 0 (AV.str []) [])=some { val := .tsl 1 [] }:=fun σ p=>T5 rfl rfl
 cases es with
 | nil =>
   simp only [cZ,SS,Nat.reduceAdd]
   refine ⟨?_, ?_⟩
   . exact ag▸⟨.nils,rfl,View.nils 1⟩
   . simp only [SS,Nat.reduceAdd,hb,eX eW]
     exact ag▸⟨_,rfl,View.PM 1⟩
 | cons e es =>
   simp only [cZ,SS,Nat.reduceAdd,hb]
   rw [gS (es:=[]) eW (by simp) (by simpa using hl) (cK (by simp at hl ⊢;omega)) (by simpa using h1)]
   simp only [SS,Nat.reduceAdd]
   refine ag▸⟨_,rfl,View.osl (bk:=⟨e::es,1,false⟩) rfl rfl (by simp) ?_ (by simp) hk⟩
   simpa using aW.pure hp
theorem ib {f:FuncId} (h:Has P f a8) {es:List AV} (hk:∀ e∈es,e.size=7) (h1:(es.all fun e=>e.cells.all AV.one)=true) (hp:∀ c∈flat es,af c) (hl:es.length*112<=140737488355328):VP P G f [.sl 7 es] (.sl 7 es):=by
 refine VP.has h ?_
 have hb:∀ (σ : aa) (p:Id),b8 σ p (.buildSl 7 0 (AV.agg [(.int .i64 (0)),(.bool false), .nils,(.bool false), .nils,(.str []), .nils]) [])=some { val := .tsl 7 [] }:=fun σ p=>T5 rfl rfl
 cases es with
 | nil =>
   simp only [a8,SS,Nat.reduceAdd]
   refine ⟨?_, ?_⟩
   . exact ag▸⟨.nils,rfl,View.nils 7⟩
   . simp only [SS,Nat.reduceAdd,hb,eX eW]
     exact ag▸⟨_,rfl,View.PM 7⟩
 | cons e es =>
   simp only [a8,SS,Nat.reduceAdd,hb]
   rw [gS (es:=[]) eW (by simp) (by simpa using hl) (cK (by simp at hl ⊢;omega)) (by simpa using h1)]
   simp only [SS,Nat.reduceAdd]
   refine ag▸⟨_,rfl,View.osl (bk:=⟨e::es,7,false⟩) rfl rfl (by simp) ?_ (by simp) hk⟩
   simpa using aW.pure hp
theorem Oy (l:List bK):((l.map bK.av).all fun e=>e.cells.all AV.one)=true:=by
 rw [List.all_eq_true];intro e he;simp only [List.mem_map] at he;obtain ⟨F,_,rfl⟩:=he;exact F.one▸trivial
theorem Oz {f:FuncId} (h:Has P f aU) {l:List bK} (hne:l≠[]) (hl:l.length*80<=140737488355328) (p:Id) :
   aB P G f [zr l] p [] { val := .osl (5::p) 5 0 l.length false,rd:=[],up:=[(5::p,some ⟨l.map bK.av,5,false⟩)] }:=by
 refine aB.has h ?_
 have hb:∀ (σ : aa) (p:Id),b8 σ p (.buildSl 5 0 (.agg [(.str []),(.int .i64 (0)), .nils, .nils,(.bool false)]) [])=some { val := .tsl 5 [] }:=fun σ p=>T5 rfl rfl
 have xH:=Oy l
 cases l with
 | nil=>exact absurd rfl hne
 | cons F l =>
   simp only [List.map_cons] at xH
   simp only [aU,zr,SS,Nat.reduceAdd,hb]
   rw [gS (es:=[]) eW (by simp) (by simpa using hl) (cK (by simp at hl ⊢;omega)) (by simpa using xH)]
   simp only [SS,Nat.reduceAdd]
   refine aV▸aA (by simp [bR,cv]) fun i => ?_
   by_cases hi:i=5::p
   . right;subst hi;simp [aa.app,aa.put]
   . left;simp [aa.app,aa.put,hi,aa.of]
end
end Go.VL
end

section
set_option linter.unusedVariables false
namespace Go.VL
section
variable {P:Program} {G:Nat->Option (List AV)}
theorem jb:(AV.cells (.agg [(.str []),(.int .i64 (0)), .nils, .nils,(.bool false)])).all AV.one=true:=rfl
end
end Go.VL
end

section
set_option linter.unusedVariables false
set_option linter.unusedVariables false
namespace Go.VL
structure FX where
 name:List UInt8
 kind:Int
 inputs:List (List UInt8)
 vals:List EX
 supp:Bool
def FX.eF (X:FX):bK:=⟨X.name,X.kind,X.inputs,EX.kR X.vals,X.supp⟩
def FX.av (X:FX):AV:=X.eF.av
structure FX.Ok (X:FX):Prop where
 name:X.name.length<=9223372036854775807
 ins:X.inputs.length<=9223372036854775807
 inl:∀ s∈X.inputs,s.length<=9223372036854775807
 vl:X.vals.length<=9223372036854775807
 vals:∀ e∈X.vals,e.Ok
theorem FX.pure (X:FX):af X.eF.av:=af.agg (by
 intro c hc
 simp [FX.eF] at hc
 rcases hc with rfl | rfl | rfl | rfl | rfl
 . exact af.str _
 . exact af.int _ _
 . exact gX _
 . exact EX.eI _
 . exact af.bool _)
theorem FX.R6 {X:FX} (hi:X.inputs.length<=1000) (O9:X.vals.length<=1000):X.eF.Ok:=⟨fun v hv=>by
 show oG v
 have hv':v∈EX.kR X.vals:=hv
 rw [EX.cF] at hv'
 obtain ⟨e,_,rfl⟩:=List.mem_map.1 hv'
 exact e.like,by show X.inputs.length<_;omega,by show (EX.kR X.vals).length<_;rw [EX.a6];omega⟩
def uQ (e:EX):Bool:=e.formed&&decide (e.depth<=40)
def FX.valid (X:FX):Bool:=bc X.name&&decide (1<=X.kind)&&decide (X.kind<=6)&&decide (X.inputs.length<=50)&&decide (X.vals.length<=10)&&X.inputs.all (fun s=>(eM s).isSome)&&X.vals.all uQ
def nZ (e:EX):Bool:=decide (e.nodes<=120)&&e.nu
def FX.small (X:FX):Bool:=decide (X.inputs.length<=60)&&decide (X.vals.length<=12)&&decide (X.name.length<=100)&&X.inputs.all (fun s=>decide (s.length<=300))&&X.vals.all nZ
noncomputable def exP (q:EX->Bool) (v:AV):Bool := @decide (∃ e:EX,e.av=v/\q e=true) (Classical.propDecidable _)
theorem R7 (q:EX->Bool) (e:EX):exP q e.av=q e:=by
 unfold exP
 cases h:q e
 . refine @decide_eq_false _ (Classical.propDecidable _) ?_
   rintro ⟨e',h1,h2⟩
   rw [EX.Ry _ _ h1] at h2
   rw [h] at h2;cases h2
 . exact @decide_eq_true _ (Classical.propDecidable _) ⟨e,rfl,h⟩
def aen (q:List UInt8->Bool):AV->Bool
 | .str s=>q s
 | _=>false
theorem UY (q:EX->Bool) (l:List EX):(EX.kR l).any (exP q)=l.any q:=by
 rw [EX.cF,List.any_map]
 congr 1;funext e;exact R7 q e
theorem R8 (q:List UInt8->Bool) (l:List (List UInt8)):(l.map AV.str).any (aen q)=l.any q:=by
 rw [List.any_map];rfl
theorem MU {α : Type} (p : α -> Bool) (l:List α):(l.any fun x => !p x) = !l.all p:=by
 induction l with
 | nil=>rfl
 | cons a l ih=>simp only [List.any_cons,List.all_cons,ih,Bool.not_and]
section
variable {P:Program} {G:Nat->Option (List AV)}
theorem OA {f fv:FuncId} (h:Has P f (kL fv)) (s:List UInt8) {b:Bool} (hv:VP P G fv [.str s] (.bool b)):VP P G f [.str s] (.bool (!b)):=by
 refine VP.has h ?_
 simp only [kL,SS,Nat.reduceAdd]
 refine aj hv (by simp [af.str]) ?_
 simp only [SS,Nat.reduceAdd]
 exact ag▸ab rfl (af.bool _)
theorem OB {f fv:FuncId} (h:Has P f (mW fv)) (e:EX) (hv:VP P G fv [e.av] (.int .i64 (if e.formed=true then (if 40<e.depth then 3 else 0) else 1))):VP P G f [e.av] (.bool (!uQ e)):=by
 have hd:decide ((if e.formed=true then (if 40<e.depth then (3:Int) else 0) else 1)≠0) = !uQ e:=by
   unfold uQ
   cases e.formed
   . rfl
   . by_cases h40:40<e.depth
     . have : ¬ e.depth<=40:=by omega
       simp [h40,this]
     . have:e.depth<=40:=by omega
       simp [h40,this]
 refine VP.has h ?_
 simp only [mW,SS,Nat.reduceAdd,EX.one,ae,EX.all]
 refine aj hv (by simp [EX.pure]) ?_
 simp only [SS,Nat.reduceAdd,hd]
 exact ag▸ab rfl (af.bool _)
theorem OC (l:List (List UInt8)):∀ e∈l.map AV.str,part false e.cells 0 1=some e:=by
 intro e he
 obtain ⟨s,_,rfl⟩:=List.mem_map.1 he
 rfl
theorem OD {f fn YZ v1 Y0 v2 fi1 fi2:FuncId} (h:Has P f (ke fn YZ v1 Y0 v2)) (hn:∀ s,VP P G fn [.str s] (.bool (bc s))) (O5:Has P YZ (cg fi1)) (T4:Has P fi1 cy)
   (H6:Has P Y0 (bu fi2)) (Ew:Has P fi2 bG) (X:FX) (hX:X.Ok) (hi:X.inputs.length<=1000) (O9:X.vals.length<=1000)
   (pj:∀ s∈X.inputs,VP P G v1 [.str s] (.bool (!(eM s).isSome))) (tk:∀ e∈X.vals,VP P G v2 [e.av] (.bool (!uQ e))):VP P G f [X.av] (.bool X.valid):=by
 have h1:VP P G YZ [strs X.inputs, .fn (.func v1) [] []] (.bool (!X.inputs.all (fun s=>(eM s).isSome))):=by
   rw [<- MU, <- R8]
   refine lL O5 (mC T4 (OC _) ?_ ?_ (by simp) (by simp) (by rw [List.length_map];omega)) (gX _) (ki _)
   all_goals
     intro v hv
     obtain ⟨s,hs,rfl⟩:=List.mem_map.1 hv
   . exact pj s hs
   . exact af.str _
 have h2:VP P G Y0 [.sl 7 (EX.kR X.vals), .fn (.func v2) [] []] (.bool (!X.vals.all uQ)):=by
   rw [<- MU, <- UY]
   refine eZ H6 (fZ Ew ?_ ?_ ?_ (by simp) (by simp) (by rw [EX.a6];omega)) (EX.eI _) (ki _)
   all_goals
     intro v hv
     rw [EX.cF] at hv
     obtain ⟨x,hx,rfl⟩:=List.mem_map.1 hv
   . exact EX.all x
   . rw [R7];exact tk x hx
   . exact EX.pure x
 have:=Rx h hn X.eF (FX.R6 hi O9) (fun _=>h1) (fun _=>h2)
 have e:(bc X.eF.name&&decide (1<=X.eF.kind)&&decide (X.eF.kind<=6)&&decide (X.eF.inputs.length<=50)&&decide (X.eF.values.length<=10) && !(!X.inputs.all (fun s=>(eM s).isSome)) && !(!X.vals.all uQ))=X.valid:=by
   unfold FX.valid
   rw [Bool.not_not,Bool.not_not]
   show (bc X.name&&decide (1<=X.kind)&&decide (X.kind<=6)&&decide (X.inputs.length<=50)&&decide ((EX.kR X.vals).length<=10)&&_&&_)=_
   rw [EX.a6]
 rw [e] at this
 exact this
theorem R9 {f:FuncId} (h:Has P f kX) (l:List (List UInt8)) (hl:l.length<=1000000) (s:List UInt8):VP P G f [strs l, .str s] (.bool (l.contains s)):=by
 refine VP.has h ?_
 have hlen:jK false (strs l)=some (.int .i64 l.length):=by simp [strs,jK]
 simp only [kX,SS,Nat.reduceAdd,aD]
 refine VW.bL (α := Nat × Nat) (fun x=>⟨[strs l, .str s, .top, .top, .bool false, .int .i64 (x.1:Int)]++List.replicate 12 .top,fun _=>none,x.2⟩)
   (fun x=>x.1<=l.length/\(l.take x.1).contains s=false) (fun x=>l.length-x.1) (0,1000) ?_ ⟨Nat.zero_le _,by simp⟩ ?_
 . exact Wk.slots (by simp [Fg,List.replicate]) (by omega)
 rintro ⟨i,nn⟩ ⟨hi,hno⟩
 simp only [] at hi hno
 by_cases hlt:i<l.length
 . obtain ⟨c,hc⟩:∃ c,l[i]? = some c:=⟨_,List.getElem?_eq_getElem hlt⟩
   have hm:=List.mem_of_getElem? hc
   have hg:(l.map AV.str)[i]? = some (.str c):=by rw [List.getElem?_map,hc];rfl
   have dd:decide ((i:Int)<(l.length:Int))=true:=ao (by omega)
   have BW:part false (AV.str c).cells 0 1=some (.str c):=rfl
   have iy:br 1 (strs l) (.int .i64 (i:Int))=some (.ep (AV.str c).cells 0):=aQ rfl hg
   cases b:(c==s)
   . simp only [SS,Nat.reduceAdd,hlen,dd,iy,az,BW,b,aq i (by omega)]
     refine ⟨(i+1,nn+1000),⟨by simp only [];omega, ?_⟩,by simp only [];omega,Wk.slots (by simp [Fg]) (by omega)⟩
     simp only []
     have hcs : ¬ c=s:=by simpa using b
     have aeo : ¬ s∈l.take i:=by simpa using hno
     rw [List.take_add_one,hc,Option.toList_some]
     simp only [List.contains_eq_mem,List.mem_append,List.mem_singleton]
     exact decide_eq_false (by rintro (q | q);exact aeo q;exact hcs q.symm)
   . have hcs:c=s:=by simpa using b
     have:l.contains s=true:=by rw [<- hcs];simpa using hm
     rw [this]
     simp only [SS,Nat.reduceAdd,hlen,dd,iy,az,BW,b]
     exact ag▸ab rfl (af.bool _)
 . have dd:decide ((i:Int)<(l.length:Int))=false:=ak (by omega)
   have jc:i=l.length:=by omega
   rw [jc,List.take_length] at hno
   rw [hno]
   simp only [SS,Nat.reduceAdd,hlen,dd]
   exact ag▸ab rfl (af.bool _)
end
end Go.VL
end

section
set_option linter.unusedVariables false
set_option linter.unusedVariables false
namespace Go.VL
theorem FX.wy (X:FX):X.eF.name=X.name:=rfl
theorem FX.Dx (X:FX):X.eF.kind=X.kind:=rfl
theorem FX.ic (X:FX):X.eF.inputs=X.inputs:=rfl
theorem FX.nw (X:FX):X.eF.values=EX.kR X.vals:=rfl
theorem dB (l:List (List UInt8)):jK false (strs l)=some (.int .i64 l.length):=by simp [strs,jK]
theorem OE (e:EX):decide ((if e.formed=true then (if 40<e.depth then (3:Int) else 0) else 1)≠0) = !uQ e:=by
 unfold uQ
 cases e.formed
 . rfl
 . by_cases h40:40<e.depth
   . have : ¬ e.depth<=40:=by omega
     simp [h40,this]
   . have:e.depth<=40:=by omega
     simp [h40,this]
theorem Gr (s:List UInt8):((eM s).getD []==([]:List UInt8)) = !(eM s).isSome:=by
 unfold eM
 cases hs:kj s with
 | none=>rfl
 | some k =>
   simp only []
   split
   . rename_i h
     simp only [Bool.and_eq_true] at h
     have hn:=h.1.2
     cases ht:s.take k with
     | nil=>rw [ht] at hn;cases hn
     | cons a l=>rfl
   . rfl
section
variable {P:Program} {G:Nat->Option (List AV)}
theorem I2 {f fn fv ff:FuncId} (h:Has P f (cE fn fv ff)) (X:FX) (hX:X.Ok) (hn:VP P G fn [.str X.name] (.bool (bc X.name)))
   (hv:∀ e∈X.vals,VP P G fv [e.av] (.int .i64 (if e.formed=true then (if 40<e.depth then 3 else 0) else 1))) (hf:∀ s∈X.inputs,VP P G ff [.str s] (.str ((eM s).getD []))):VP P G f [X.av] (.bool X.valid):=by
 show VP P G f [X.eF.av] _
 have uR:=FX.pure X
 have il:=hX.ins
 have vl:=hX.vl
 unfold FX.valid
 have k1:decide (X.kind<1) = !decide (1<=X.kind):=by by_cases q:1<=X.kind<;>simp [q]<;>omega
 have k2:decide (6<X.kind) = !decide (X.kind<=6):=by by_cases q:X.kind<=6<;>simp [q]<;>omega
 have k3:decide ((50:Int)<(X.inputs.length:Int)) = !decide (X.inputs.length<=50):=by by_cases q:X.inputs.length<=50<;>simp [q]<;>omega
 have k4:decide ((10:Int)<(X.vals.length:Int)) = !decide (X.vals.length<=10):=by by_cases q:X.vals.length<=10<;>simp [q]<;>omega
 cases b1:bc X.name
 . rw [b1] at hn
   refine VP.has h ?_
   simp only [cE,SS,Nat.reduceAdd,bK.one,ae,bK.p0,FX.wy]
   refine aj hn (by simp [af.str]) ?_
   simp only [SS,Nat.reduceAdd,Bool.false_and]
   exact ag▸ab rfl (af.bool _)
 rw [b1] at hn
 cases b2:decide (1<=X.kind)
 . rw [b2] at k1
   refine VP.has h ?_
   simp only [cE,SS,Nat.reduceAdd,bK.one,ae,bK.p0,FX.wy]
   refine aj hn (by simp [af.str]) ?_
   simp only [SS,Nat.reduceAdd,ae,bK.p1,FX.Dx,k1,Bool.false_and,Bool.and_false]
   exact ag▸ab rfl (af.bool _)
 rw [b2] at k1
 cases b3:decide (X.kind<=6)
 . rw [b3] at k2
   refine VP.has h ?_
   simp only [cE,SS,Nat.reduceAdd,bK.one,ae,bK.p0,FX.wy]
   refine aj hn (by simp [af.str]) ?_
   simp only [SS,Nat.reduceAdd,ae,bK.p1,FX.Dx,k1,k2,Bool.false_and,Bool.and_false]
   exact ag▸ab rfl (af.bool _)
 rw [b3] at k2
 cases b4:decide (X.inputs.length<=50)
 . rw [b4] at k3
   refine VP.has h ?_
   simp only [cE,SS,Nat.reduceAdd,bK.one,ae,bK.p0,FX.wy]
   refine aj hn (by simp [af.str]) ?_
   simp only [SS,Nat.reduceAdd,ae,bK.p1,bK.p2,FX.Dx,FX.ic,dB,k1,k2,k3,Bool.false_and,Bool.and_false]
   exact ag▸ab rfl (af.bool _)
 rw [b4] at k3
 cases b5:decide (X.vals.length<=10)
 . rw [b5] at k4
   refine VP.has h ?_
   simp only [cE,SS,Nat.reduceAdd,bK.one,ae,bK.p0,FX.wy]
   refine aj hn (by simp [af.str]) ?_
   simp only [SS,Nat.reduceAdd,ae,bK.p1,bK.p2,bK.p3,FX.Dx,FX.ic,FX.nw,dB,EX.a6,k1,k2,k3,k4,Bool.false_and,Bool.and_false]
   exact ag▸ab rfl (af.bool _)
 rw [b5] at k4
 refine VP.has h ?_
 simp only [cE,SS,Nat.reduceAdd,bK.one,ae,bK.p0,FX.wy]
 refine aj hn (by simp [af.str]) ?_
 simp only [SS,Nat.reduceAdd,ae,bK.p1,bK.p2,bK.p3,FX.Dx,FX.ic,FX.nw,dB,EX.a6,k1,k2,k3,k4,Bool.true_and,aD]
 refine VW.bL (α := Nat × Nat) (fun x=>⟨[X.eF.av, .ref [0] 0 0, .bool false, .int .i64 (x.1:Int)]++List.replicate 55 .top,aa.put (fun _=>none) [0] (some ⟨[X.eF.av],5,false⟩),x.2⟩)
   (fun x=>x.1<=X.vals.length/\(X.vals.take x.1).all uQ=true) (fun x=>X.vals.length-x.1) (0,1000) ?_ ⟨Nat.zero_le _,by simp⟩ ?_
 . exact Wk.slots (by simp [Fg,List.replicate]) (by omega)
 rintro ⟨i,nn⟩ ⟨hi,cz⟩
 simp only [] at hi cz
 by_cases hlt:i<X.vals.length
 . obtain ⟨e,he⟩:∃ e,X.vals[i]? = some e:=⟨_,List.getElem?_eq_getElem hlt⟩
   have hm:=List.mem_of_getElem? he
   have hg:(EX.kR X.vals)[i]? = some e.av:=by rw [EX.cF,List.getElem?_map,he];rfl
   have dd:decide ((i:Int)<(X.vals.length:Int))=true:=ao (by omega)
   have MV:=OE e
   simp only [SS,Nat.reduceAdd,ae,bK.p3,FX.nw,EX.a6,dd,aQ rfl hg,az,EX.all]
   refine aj (hv e hm) (by simp [EX.pure]) ?_
   cases th:uQ e
   . rw [th] at MV
     have:X.vals.all uQ=false:=by
       rw [Bool.eq_false_iff];intro hh
       rw [List.all_eq_true] at hh
       rw [hh e hm] at th;cases th
     rw [this]
     simp only [SS,Nat.reduceAdd,MV,Bool.and_false]
     exact ag▸ab rfl (af.bool _)
   . rw [th] at MV
     simp only [SS,Nat.reduceAdd,MV,aq i (by omega)]
     refine ⟨(i+1,nn+1000),⟨by simp only [];omega, ?_⟩,by simp only [];omega,Wk.slots (by simp [Fg]) (by omega)⟩
     simp only []
     rw [List.take_add_one,he,List.all_append,cz]
     simp [th]
 . have dd:decide ((i:Int)<(X.vals.length:Int))=false:=ak (by omega)
   have jc:i=X.vals.length:=by omega
   rw [jc,List.take_length] at cz
   rw [cz,Bool.and_true]
   simp only [SS,Nat.reduceAdd,ae,bK.p3,FX.nw,EX.a6,dd,aD]
   refine VW.bL (α := Nat × Nat) (fun x=>⟨[X.eF.av, .ref [0] 0 0, .bool false, .top, .int .i64 (x.1:Int)]++List.replicate 54 .top,aa.put (fun _=>none) [0] (some ⟨[X.eF.av],5,false⟩),x.2⟩)
     (fun x=>x.1<=X.inputs.length/\(X.inputs.take x.1).all (fun s=>(eM s).isSome)=true) (fun x=>X.inputs.length-x.1) (0,nn+1000) ?_ ⟨Nat.zero_le _,by simp⟩ ?_
   . exact Wk.slots (by simp [Fg,List.replicate]) (by omega)
   rintro ⟨j,mm⟩ ⟨hj,zw⟩
   simp only [] at hj zw
   by_cases rn:j<X.inputs.length
   . obtain ⟨s,hs⟩:∃ s,X.inputs[j]? = some s:=⟨_,List.getElem?_eq_getElem rn⟩
     have hm:=List.mem_of_getElem? hs
     have hg:(X.inputs.map AV.str)[j]? = some (.str s):=by rw [List.getElem?_map,hs];rfl
     have iy:br 1 (strs X.inputs) (.int .i64 (j:Int))=some (.ep (AV.str s).cells 0):=aQ rfl hg
     have BW:part false (AV.str s).cells 0 1=some (.str s):=rfl
     have dd:decide ((j:Int)<(X.inputs.length:Int))=true:=ao (by omega)
     have MV:=Gr s
     simp only [SS,Nat.reduceAdd,ae,bK.p2,FX.ic,dB,dd,iy,az,BW]
     refine aj (hf s hm) (by simp [af.str]) ?_
     cases th:(eM s).isSome
     . rw [th] at MV
       have:X.inputs.all (fun s=>(eM s).isSome)=false:=by
         rw [Bool.eq_false_iff];intro hh
         rw [List.all_eq_true] at hh
         have:=hh s hm
         rw [th] at this;cases this
       rw [this]
       simp only [SS,Nat.reduceAdd,MV]
       exact ag▸ab rfl (af.bool _)
     . rw [th] at MV
       simp only [SS,Nat.reduceAdd,MV,aq j (by omega)]
       refine ⟨(j+1,mm+1000),⟨by simp only [];omega, ?_⟩,by simp only [];omega,Wk.slots (by simp [Fg]) (by omega)⟩
       simp only []
       rw [List.take_add_one,hs,List.all_append,zw]
       simp [th]
   . have dd:decide ((j:Int)<(X.inputs.length:Int))=false:=ak (by omega)
     have hj':j=X.inputs.length:=by omega
     rw [hj',List.take_length] at zw
     rw [zw]
     simp only [SS,Nat.reduceAdd,ae,bK.p2,FX.ic,dB,dd]
     exact ag▸ab rfl (af.bool _)
theorem I3 {f fs:FuncId} (h:Has P f (dQ fs)) (X:FX) (hX:X.Ok) (hs:∀ e∈X.vals,VP P G fs [e.av] (.bool (nZ e))):VP P G f [X.av] (.bool X.small):=by
 show VP P G f [X.eF.av] _
 have uR:=FX.pure X
 have il:=hX.ins
 have vl:=hX.vl
 unfold FX.small
 have k3:decide ((60:Int)<(X.inputs.length:Int)) = !decide (X.inputs.length<=60):=by by_cases q:X.inputs.length<=60<;>simp [q]<;>omega
 have k4:decide ((12:Int)<(X.vals.length:Int)) = !decide (X.vals.length<=12):=by by_cases q:X.vals.length<=12<;>simp [q]<;>omega
 have k5:decide ((100:Int)<(X.name.length:Int)) = !decide (X.name.length<=100):=by by_cases q:X.name.length<=100<;>simp [q]<;>omega
 cases b3:decide (X.inputs.length<=60)
 . rw [b3] at k3
   refine VP.has h ?_
   simp only [dQ,SS,Nat.reduceAdd,bK.one,ae,bK.p2,FX.ic,dB,k3,Bool.false_and]
   exact ag▸ab rfl (af.bool _)
 rw [b3] at k3
 cases b4:decide (X.vals.length<=12)
 . rw [b4] at k4
   refine VP.has h ?_
   simp only [dQ,SS,Nat.reduceAdd,bK.one,ae,bK.p2,bK.p3,FX.ic,FX.nw,dB,EX.a6,k3,k4,Bool.false_and,Bool.and_false]
   exact ag▸ab rfl (af.bool _)
 rw [b4] at k4
 cases b5:decide (X.name.length<=100)
 . rw [b5] at k5
   refine VP.has h ?_
   simp only [dQ,SS,Nat.reduceAdd,bK.one,ae,bK.p0,bK.p2,bK.p3,FX.wy,FX.ic,FX.nw,dB,EX.a6,k3,k4,k5,Bool.false_and,Bool.and_false]
   exact ag▸ab rfl (af.bool _)
 rw [b5] at k5
 refine VP.has h ?_
 simp only [dQ,SS,Nat.reduceAdd,bK.one,ae,bK.p0,bK.p2,bK.p3,FX.wy,FX.ic,FX.nw,dB,EX.a6,k3,k4,k5,Bool.true_and,aD]
 refine VW.bL (α := Nat × Nat) (fun x=>⟨[X.eF.av, .ref [0] 0 0, .bool false, .int .i64 (x.1:Int)]++List.replicate 45 .top,aa.put (fun _=>none) [0] (some ⟨[X.eF.av],5,false⟩),x.2⟩)
   (fun x=>x.1<=X.inputs.length/\(X.inputs.take x.1).all (fun s=>decide (s.length<=300))=true) (fun x=>X.inputs.length-x.1) (0,1000) ?_ ⟨Nat.zero_le _,by simp⟩ ?_
 . exact Wk.slots (by simp [Fg,List.replicate]) (by omega)
 rintro ⟨j,mm⟩ ⟨hj,zw⟩
 simp only [] at hj zw
 by_cases rn:j<X.inputs.length
 . obtain ⟨s,zP⟩:∃ s,X.inputs[j]? = some s:=⟨_,List.getElem?_eq_getElem rn⟩
   have hm:=List.mem_of_getElem? zP
   have Co:=hX.inl s hm
   have hg:(X.inputs.map AV.str)[j]? = some (.str s):=by rw [List.getElem?_map,zP];rfl
   have iy:br 1 (strs X.inputs) (.int .i64 (j:Int))=some (.ep (AV.str s).cells 0):=aQ rfl hg
   have BW:part false (AV.str s).cells 0 1=some (.str s):=rfl
   have dd:decide ((j:Int)<(X.inputs.length:Int))=true:=ao (by omega)
   have MV:decide ((300:Int)<(s.length:Int)) = !decide (s.length<=300):=by by_cases q:s.length<=300<;>simp [q]<;>omega
   cases th:decide (s.length<=300)
   . rw [th] at MV
     have:X.inputs.all (fun s=>decide (s.length<=300))=false:=by
       rw [Bool.eq_false_iff];intro hh
       rw [List.all_eq_true] at hh
       have:=hh s hm
       rw [th] at this;cases this
     rw [this]
     simp only [SS,Nat.reduceAdd,ae,bK.p2,FX.ic,dB,dd,iy,az,BW,MV,Bool.false_and]
     exact ag▸ab rfl (af.bool _)
   . rw [th] at MV
     simp only [SS,Nat.reduceAdd,ae,bK.p2,FX.ic,dB,dd,iy,az,BW,MV,aq j (by omega)]
     refine ⟨(j+1,mm+1000),⟨by simp only [];omega, ?_⟩,by simp only [];omega,Wk.slots (by simp [Fg]) (by omega)⟩
     simp only []
     rw [List.take_add_one,zP,List.all_append,zw]
     simpa using th
 . have dd:decide ((j:Int)<(X.inputs.length:Int))=false:=ak (by omega)
   have hj':j=X.inputs.length:=by omega
   rw [hj',List.take_length] at zw
   rw [zw,Bool.true_and]
   simp only [SS,Nat.reduceAdd,ae,bK.p2,FX.ic,dB,dd,aD]
   refine VW.bL (α := Nat × Nat) (fun x=>⟨[X.eF.av, .ref [0] 0 0, .bool false, .top, .int .i64 (x.1:Int)]++List.replicate 44 .top,aa.put (fun _=>none) [0] (some ⟨[X.eF.av],5,false⟩),x.2⟩)
     (fun x=>x.1<=X.vals.length/\(X.vals.take x.1).all nZ=true) (fun x=>X.vals.length-x.1) (0,mm+1000) ?_ ⟨Nat.zero_le _,by simp⟩ ?_
   . exact Wk.slots (by simp [Fg,List.replicate]) (by omega)
   rintro ⟨i,nn⟩ ⟨hi,cz⟩
   simp only [] at hi cz
   by_cases hlt:i<X.vals.length
   . obtain ⟨e,he⟩:∃ e,X.vals[i]? = some e:=⟨_,List.getElem?_eq_getElem hlt⟩
     have hm:=List.mem_of_getElem? he
     have hg:(EX.kR X.vals)[i]? = some e.av:=by rw [EX.cF,List.getElem?_map,he];rfl
     have dd:decide ((i:Int)<(X.vals.length:Int))=true:=ao (by omega)
     simp only [SS,Nat.reduceAdd,ae,bK.p3,FX.nw,EX.a6,dd,aQ rfl hg,az,EX.all]
     refine aj (hs e hm) (by simp [EX.pure]) ?_
     cases th:nZ e
     . have:X.vals.all nZ=false:=by
         rw [Bool.eq_false_iff];intro hh
         rw [List.all_eq_true] at hh
         rw [hh e hm] at th;cases th
       rw [this]
       simp only [SS,Nat.reduceAdd]
       exact ag▸ab rfl (af.bool _)
     . simp only [SS,Nat.reduceAdd,aq i (by omega)]
       refine ⟨(i+1,nn+1000),⟨by simp only [];omega, ?_⟩,by simp only [];omega,Wk.slots (by simp [Fg]) (by omega)⟩
       simp only []
       rw [List.take_add_one,he,List.all_append,cz]
       simp [th]
   . have dd:decide ((i:Int)<(X.vals.length:Int))=false:=ak (by omega)
     have jc:i=X.vals.length:=by omega
     rw [jc,List.take_length] at cz
     rw [cz]
     simp only [SS,Nat.reduceAdd,ae,bK.p3,FX.nw,EX.a6,dd]
     exact ag▸ab rfl (af.bool _)
end
end Go.VL
end

section
set_option linter.unusedVariables false
set_option linter.unusedVariables false
namespace Go.VL
theorem uz {σ : aa} {q:Id} {x:List UInt8}:b8 σ q (.buildSl 1 1 (.str []) [(0, .str x)])=some { val := .osl q 1 0 1 false,up:=[(q,some ⟨[.str x],1,false⟩)] }:=W9 rfl rfl rfl rfl
theorem sX (l:List (List UInt8)):((l.map AV.str).all fun e=>e.cells.all AV.one)=true:=by
 rw [List.all_eq_true];intro e he;obtain ⟨s,_,rfl⟩:=List.mem_map.1 he;rfl
theorem oH {σ : aa} {p q:Id} {x:List UInt8}:b6 (σ.put q (some ⟨[.str x],1,false⟩)) p 1 16 .nils (.osl q 1 0 1 false)=some { val := .osl p 1 0 1 false,rd:=[q],up:=[(p,some ⟨[.str x],1,false⟩)] } :=
 ug (x := .osl q 1 0 1 false) (ys:=[.str x]) (jF (bk:=⟨[.str x],1,false⟩) (aa.bb _ _ _) rfl (by simp)) (by simp) (by simp) (cK (by simp)) (sX [x])
theorem zx {σ : aa} {p id q:Id} {o:List (List UInt8)} {x:List UInt8} (hq:q≠id) (hb:o.length<=1000000) (h : σ id=some ⟨o.map .str,1,false⟩) :
   b6 (σ.put q (some ⟨[.str x],1,false⟩)) p 1 16 (.osl id 1 0 o.length false) (.osl q 1 0 1 false)=some { val := .osl p 1 0 (o.length+1) false,rd:=[id,q],up:=[(id,none),(p,some ⟨(o++[x]).map .str,1,false⟩)] }:=by
 have:=lI (σ := σ.put q (some ⟨[.str x],1,false⟩)) (p:=p) (id:=id) (k:=1) (bytes:=16) (len:=o.length) (els:=o.map .str) (x := .osl q 1 0 1 false) (ys:=[.str x]) (rd:=[q])
   (jF (bk:=⟨[.str x],1,false⟩) (aa.bb _ _ _) rfl (by simp)) (by simp) (by rw [aa.bd _ _ _ hq.symm];exact h) (by rw [List.length_map]) (by simp;omega) (cK (by simp;omega)) (sX [x]) (sX o)
 rw [this,List.map_append]
 simp
def xf (ck:Nat) (l:List (List UInt8)):AV:=if l=[] then .nils else .osl [ck] 1 0 l.length false
def Ye (ck:Nat) (l:List (List UInt8)):aa:=aa.put (fun _=>none) [ck] (if l=[] then none else some ⟨l.map .str,1,false⟩)
theorem abd {a b:Nat} (h:a≠b) : ¬ ([a]:List Nat) <:+ [b]:=fun hs=>by
 have:=hs.eq_of_length rfl
 simp at this;exact h this
theorem sY {σ : aa} {id:Id} {a t:List (List UInt8)} {b tt:Bool} (h : σ id=some ⟨(a++t).map .str,1,b⟩):View σ (.osl id 1 0 a.length tt) (strs a):=by
 refine View.osl (bk:=⟨(a++t).map .str,1,b⟩) h rfl (by simp) ?_ (by rw [List.length_map]) (by intro d hd;obtain ⟨s,_,rfl⟩:=List.mem_map.1 hd;rfl)
 have e:((((a++t).map AV.str).drop 0).take a.length)=a.map AV.str:=by
   rw [List.drop_zero, <- List.map_take,List.take_left']
   rfl
 show aW _ (flat ((((a++t).map AV.str).drop 0).take a.length)) _
 rw [e]
 exact aW.pure (by rw [wu];intro c hc;obtain ⟨s,_,rfl⟩:=List.mem_map.1 hc;exact af.str s)
section
variable {P:Program} {G:Nat->Option (List AV)}
theorem Sa {f fv abe fs fc:FuncId} (h:Has P f (kf fv abe fs fc)) (X:FX) (hX:X.Ok) (PB:X.valid=true->X.inputs.length<=1000) (hv:VP P G fv [X.av] (.bool X.valid))
   (hcut:∀ s∈X.inputs,VP P G abe [.str s, .str [47]] (.tup [.str (Lib.cut s [47]).1, .str (Lib.cut s [47]).2.1, .bool (Lib.cut s [47]).2.2]))
   (Y2:VP P G fs [.nils] (.tup [])) (JZ:VP P G fc [.nils] .nils) (sf cf:List (List UInt8)->List (List UInt8)) (YO:∀ l,(sf l).length=l.length) (hcf:∀ l,(cf l).length<=l.length) (hcn:cf (sf [])=[])
   (hs:∀ (l:List (List UInt8)) (id p:Id),l.length<=1000000 -> ¬ p <:+ id->aB P G fs [.osl id 1 0 l.length false] p [(id,⟨l.map .str,1,false⟩)] { val := .tup [],rd:=[id],up:=[(id,some ⟨(sf l).map .str,1,false⟩)] })
   (hc:∀ (l:List (List UInt8)) (id p:Id),l.length<=1000000 -> ¬ p <:+ id->aB P G fc [.osl id 1 0 l.length false] p [(id,⟨l.map .str,1,false⟩)]
     { val := .osl id 1 0 (cf l).length false,rd:=[id],up:=[(id,some ⟨(cf l++List.replicate (l.length-(cf l).length) []).map .str,1,false⟩)] }) :
   VP P G f [X.av] (strs (if X.valid=true then cf (sf (X.inputs.map fun s=>(Lib.cut s [47]).1)) else [])):=by
 show VP P G f [X.eF.av] _
 have O9:VP P G fv [X.eF.av] (.bool X.valid):=hv
 have uR:=FX.pure X
 cases hval:X.valid
 . rw [hval] at O9
   rw [if_neg (by decide)]
   refine VP.has h ?_
   simp only [kf,SS,Nat.reduceAdd,bK.one,ae,bK.whole]
   refine aj O9 (by simp [uR]) ?_
   simp only [SS,Nat.reduceAdd]
   exact ag▸⟨_,rfl,View.nils 1⟩
 rw [hval] at O9
 rw [if_pos rfl]
 have hlen:=PB hval
 generalize yd:(X.inputs.map fun s=>(Lib.cut s [47]).1)=names
 have yt:names.length=X.inputs.length:=by rw [<- yd,List.length_map]
 refine VP.has h ?_
 simp only [kf,SS,Nat.reduceAdd,bK.one,ae,bK.whole]
 refine aj O9 (by simp [uR]) ?_
 simp only [SS,Nat.reduceAdd,ae,bK.p2,FX.ic,dB,aD]
 refine VW.bL (α := Nat × Nat × Nat) (fun x=>⟨[X.eF.av, .top, .top,xf x.2.1 (names.take x.1)]++List.replicate 9 .top++[strs X.inputs, .int .i64 (X.inputs.length:Int), .int .i64 (x.1:Int)]++List.replicate 18 .top,Ye x.2.1 (names.take x.1),x.2.2⟩)
   (fun x=>x.1<=X.inputs.length/\x.2.1<x.2.2) (fun x=>X.inputs.length-x.1) (0,1,1000) ?_ ⟨Nat.zero_le _,by decide⟩ ?_
 . refine Wk.forget (by simp [Fg,List.replicate,xf]) (fun j => ?_) (by simp only [];omega)
   left;simp [Ye,aa.put]
 rintro ⟨i,ck,nn⟩ ⟨hi,Rg⟩
 simp only [] at hi Rg
 by_cases hlt:i<X.inputs.length
 . obtain ⟨s,zP⟩:∃ s,X.inputs[i]? = some s:=⟨_,List.getElem?_eq_getElem hlt⟩
   have hm:=List.mem_of_getElem? zP
   have hg:(X.inputs.map AV.str)[i]? = some (.str s):=by rw [List.getElem?_map,zP];rfl
   have iy:br 1 (strs X.inputs) (.int .i64 (i:Int))=some (.ep (AV.str s).cells 0):=aQ rfl hg
   have BW:part false (AV.str s).cells 0 1=some (.str s):=rfl
   have dd:decide ((i:Int)<(X.inputs.length:Int))=true:=ao (by omega)
   have JQ:names.take (i+1)=names.take i++[(Lib.cut s [47]).1]:=by
     rw [List.take_add_one, <- yd,List.getElem?_map,zP];rfl
   have I4 : ¬ names.take i++[(Lib.cut s [47]).1]=[]:=by simp
   have Eh:(names.take i).length=i:=by rw [List.length_take];omega
   by_cases h0:i=0
   . subst h0
     have e0:xf ck (names.take 0) = .nils:=by simp [xf]
     simp only [e0]
     simp only [SS,Nat.reduceAdd,List.replicate,dd,iy,az,BW]
     refine aj (hcut s hm) (by simp [af.str]) ?_
     simp only [SS,Nat.reduceAdd,r7,r8,r9,uz,oH,aq 0 (by omega)]
     refine ⟨(0+1,nn+1+3+9+3,nn+1000),⟨by simp only [];omega,by simp only [];omega⟩,by simp only [];omega, ?_⟩
     simp only [JQ]
     simp only [List.take_zero,List.nil_append,xf,Ye,List.cons_ne_nil,if_false,if_true,List.map_cons,List.map_nil,List.length_singleton]
     refine Wk.forget (by simp [Fg]) (fun j => ?_) (by omega)
     by_cases h1:j=[nn+1+3+9+3]
     . subst h1;right;simp [aa.put]
     . left;simp [aa.put,h1]
   . have hne : ¬ names.take i=[]:=by intro e;rw [e] at Eh;simp at Eh;omega
     have e0:xf ck (names.take i) = .osl [ck] 1 0 (names.take i).length false:=if_neg hne
     have zO:∀ (p q:Id),q≠[ck]->b6 ((Ye ck (names.take i)).put q (some ⟨[.str (Lib.cut s [47]).1],1,false⟩)) p 1 16 (.osl [ck] 1 0 (names.take i).length false) (.osl q 1 0 1 false)=some { val := .osl p 1 0 ((names.take i).length+1) false,rd:=[[ck],q],up:=[([ck],none),(p,some ⟨(names.take i++[(Lib.cut s [47]).1]).map .str,1,false⟩)] } :=
       fun p q hq=>zx hq (by omega) (by unfold Ye;rw [aa.bb,if_neg hne])
     have hq:([nn+1+3+9+2]:List Nat)≠[ck]:=by intro e;simp at e;omega
     simp only [e0]
     simp only [SS,Nat.reduceAdd,List.replicate,dd,iy,az,BW]
     refine aj (hcut s hm) (by simp [af.str]) ?_
     simp only [SS,Nat.reduceAdd,r7,r8,r9,uz,zO _ _ hq,aq i (by omega)]
     refine ⟨(i+1,nn+1+3+9+3,nn+1000),⟨by simp only [];omega,by simp only [];omega⟩,by simp only [];omega, ?_⟩
     simp only [JQ]
     simp only [xf,if_neg I4,List.length_append,List.length_singleton]
     refine Wk.forget (by simp [Fg]) (fun j => ?_) (by omega)
     unfold Ye
     by_cases h1:j=[nn+1+3+9+3]
     . subst h1;right;simp only [aa.bb,if_neg I4]
     . left;simp [aa.put,h1]
 . have dd:decide ((i:Int)<(X.inputs.length:Int))=false:=ak (by omega)
   have jc:i=names.length:=by omega
   have J1:names.take i=names:=by rw [jc,List.take_length]
   simp only [J1]
   by_cases h0:names=[]
   . have e0:xf ck names = .nils:=by simp [xf,h0]
     have e1:cf (sf names)=[]:=by rw [h0];exact hcn
     rw [e1]
     simp only [e0]
     simp only [SS,Nat.reduceAdd,List.replicate,dd]
     refine aj (args:=[.nils]) Y2 (by simp [af.nils]) ?_
     simp only [SS,Nat.reduceAdd]
     refine aj (args:=[.nils]) JZ (by simp [af.nils]) ?_
     simp only [SS,Nat.reduceAdd]
     exact ag▸⟨_,rfl,View.nils 1⟩
   . have e0:xf ck names = .osl [ck] 1 0 names.length false:=if_neg h0
     simp only [e0]
     simp only [SS,Nat.reduceAdd,List.replicate,dd]
     refine ⟨[([ck],⟨names.map .str,1,false⟩)],_,hs names [ck] _ (by omega) (abd (by omega)),by simp [Ye,h0,aa.put],by simp, ?_⟩
     simp only [SS,Nat.reduceAdd]
     have O5:=fun p hp=>hc (sf names) [ck] p (by rw [YO];omega) hp
     rw [YO] at O5
     refine ⟨[([ck],⟨(sf names).map .str,1,false⟩)],_,O5 _ (abd (by omega)),by simp [aa.put],by simp, ?_⟩
     simp only [SS,Nat.reduceAdd]
     exact ag▸⟨_,rfl,sY (t:=List.replicate (names.length-(cf (sf names)).length) []) (b:=false) (aa.bb _ _ _)⟩
end
end Go.VL
end

section
set_option linter.unusedVariables false
set_option linter.unusedVariables false
namespace Go.VL
def DY (n:List UInt8):List (List UInt8)->Nat
 | []=>0
 | x::l=>if Op.bytesLess x n=true then DY n l+1 else 0
theorem Sb (n:List UInt8):∀ l,DY n l<=l.length
 | []=>Nat.le_refl _
 | x::l=>by
   rw [DY]
   split
   . have:=Sb n l;simp;omega
   . exact Nat.zero_le _
theorem KU (n:List UInt8):∀ (l:List (List UInt8)) (k:Nat),k<DY n l->∃ x,l[k]? = some x/\Op.bytesLess x n=true
 | [],k,h=>absurd h (Nat.not_lt_zero k)
 | x :: l,k,h=>by
   rw [DY] at h
   split at h
   . rename_i hx
     cases k with
     | zero=>exact ⟨x,rfl,hx⟩
     | succ k=>exact KU n l k (by omega)
   . omega
theorem Dy (n:List UInt8):∀ (l:List (List UInt8)) (x:List UInt8),l[DY n l]? = some x->Op.bytesLess x n=false
 | [],x,h=>by simp [DY] at h
 | y :: l,x,h=>by
   rw [DY] at h
   split at h
   . exact Dy n l x (by simpa using h)
   . rename_i hy
     simp at h;subst h;simpa using hy
def xg (out:List (List UInt8)) (n:List UInt8):List (List UInt8):=if out.contains n=true then out else out.take (DY n out)++[n]++out.drop (DY n out)
theorem Sc (out:List (List UInt8)) (n:List UInt8):(xg out n).length<=out.length+1:=by
 unfold xg
 split
 . omega
 . simp only [List.length_append,List.length_take,List.length_drop,List.length_singleton];omega
def xh (ns:List (List UInt8)):List (List UInt8):=ns.foldl xg []
theorem Fs (ns:List (List UInt8)) (n:List UInt8):xh (ns++[n])=xg (xh ns) n:=by unfold xh;rw [List.foldl_append];rfl
theorem I5 (ns:List (List UInt8)) (k:Nat):(xh (ns.take k)).length<=k:=by
 induction k with
 | zero=>simp [xh]
 | succ k ih =>
   rcases Nat.lt_or_ge k ns.length with hlt | th
   . rw [List.take_add_one,List.getElem?_eq_getElem hlt,Option.toList_some,Fs]
     have:=Sc (xh (ns.take k)) ns[k]
     omega
   . rw [List.take_of_length_le (by omega)]
     rw [List.take_of_length_le th] at ih
     omega
theorem qZ {a b:List UInt8}:bo .lss .str (.str a) (.str b)=some (.bool (Op.bytesLess a b)):=rfl
theorem Bw {k l:Nat} {es:List AV} (h:l<=es.length):bT k (.sl k es) (some (.int .i64 (l:Int))) none none=some (.sl k (es.drop l)):=by
 simp [bT,cJ,dV,h]
theorem zy {σ : aa} {p id:Id} {n:Nat}:b6 σ p 1 16 (.osl id 1 0 n false) (.sl 1 [])=some { val := .osl id 1 0 n false,rd:=[] }:=by simp [b6,dA]
theorem I6 {σ : aa} {p id:Id} {o ys:List (List UInt8)} (hy:ys≠[]) (hb:o.length+ys.length<=1000000) (h : σ id=some ⟨o.map .str,1,false⟩) :
   b6 σ p 1 16 (.osl id 1 0 o.length false) (.sl 1 (ys.map .str))=some { val := .osl p 1 0 (o.length+ys.length) false,rd:=[id],up:=[(id,none),(p,some ⟨(o++ys).map .str,1,false⟩)] }:=by
 have:=lI (σ := σ) (p:=p) (id:=id) (k:=1) (bytes:=16) (len:=o.length) (els:=o.map .str) (x := .sl 1 (ys.map .str)) (ys:=ys.map .str) (rd:=[])
   eW (by simpa using hy) h (by rw [List.length_map]) (by simp;omega) (cK (by simp;omega)) (sX ys) (sX o)
 rw [this,List.map_append,List.length_map]
section
variable {P:Program} {G:Nat->Option (List AV)}
theorem OG {f fv ff fh:FuncId} (h:Has P f (gD fv ff fh)) (X:FX) (hX:X.Ok) (PB:X.valid=true->X.inputs.length<=1000) (hv:VP P G fv [X.av] (.bool X.valid))
   (hf:∀ s∈X.inputs,VP P G ff [.str s] (.str ((eM s).getD []))) (hh:∀ (l:List (List UInt8)) (s:List UInt8),l.length<=1000000->VP P G fh [strs l, .str s] (.bool (l.contains s))) :
   VP P G f [X.av] (strs (if X.valid=true then xh (X.inputs.map fun s=>(eM s).getD []) else [])):=by
 show VP P G f [X.eF.av] _
 have O9:VP P G fv [X.eF.av] (.bool X.valid):=hv
 have uR:=FX.pure X
 cases hval:X.valid
 . rw [hval] at O9
   rw [if_neg (by decide)]
   refine VP.has h ?_
   simp only [gD,SS,Nat.reduceAdd,bK.one,ae,bK.whole]
   refine aj O9 (by simp [uR]) ?_
   simp only [SS,Nat.reduceAdd]
   exact ag▸⟨_,rfl,View.nils 1⟩
 rw [hval] at O9
 rw [if_pos rfl]
 have hlen:=PB hval
 generalize yd:(X.inputs.map fun s=>(eM s).getD [])=names
 have yt:names.length=X.inputs.length:=by rw [<- yd,List.length_map]
 refine VP.has h ?_
 simp only [gD,SS,Nat.reduceAdd,bK.one,ae,bK.whole]
 refine aj O9 (by simp [uR]) ?_
 simp only [SS,Nat.reduceAdd,aD]
 refine VW.bL (α := Nat × Nat) (fun x=>⟨[X.eF.av, .ref [0] 0 0, .top,strs (xh (names.take x.1)), .int .i64 (x.1:Int)]++List.replicate 55 .top,aa.put (fun _=>none) [0] (some ⟨[X.eF.av],5,false⟩),x.2⟩)
   (fun x=>x.1<=X.inputs.length) (fun x=>X.inputs.length-x.1) (0,1000) ?_ (Nat.zero_le _) ?_
 . refine Wk.freeze [] (by simp) (by simp [NI,List.replicate];exact .inr (.inr (View.nils 1))) (fun j => ?_) (by omega)
   by_cases h1:j=[0]
   . subst h1;right;simp [aa.put,rq,aa.app];rfl
   . left;simp [aa.put,h1]
 rintro ⟨i,nn⟩ hi
 simp only [] at hi
 have Zl:=I5 names i
 generalize CH:xh (names.take i)=out at Zl
 by_cases hlt:i<X.inputs.length
 . obtain ⟨s,zP⟩:∃ s,X.inputs[i]? = some s:=⟨_,List.getElem?_eq_getElem hlt⟩
   have hm:=List.mem_of_getElem? zP
   have hg:(X.inputs.map AV.str)[i]? = some (.str s):=by rw [List.getElem?_map,zP];rfl
   have iy:br 1 (strs X.inputs) (.int .i64 (i:Int))=some (.ep (AV.str s).cells 0):=aQ rfl hg
   have BW:part false (AV.str s).cells 0 1=some (.str s):=rfl
   have dd:decide ((i:Int)<(X.inputs.length:Int))=true:=ao (by omega)
   generalize hn:(eM s).getD []=n
   have hfs:=hf s hm
   rw [hn] at hfs
   have q7:xh (names.take (i+1))=xg out n:=by
     rw [List.take_add_one, <- yd,List.getElem?_map,zP,Option.map_some,Option.toList_some,yd,Fs,CH,hn]
   simp only [SS,Nat.reduceAdd,ae,bK.p2,FX.ic,dB,dd,iy,az,BW]
   refine aj hfs (by simp [af.str]) ?_
   simp only [SS,Nat.reduceAdd]
   refine aj (hh out n (by omega)) (by simp [af.str,gX]) ?_
   cases Sd:out.contains n
   . have Gs:xg out n=out.take (DY n out)++[n]++out.drop (DY n out):=by unfold xg;rw [Sd];simp
     simp only [SS,Nat.reduceAdd,aD]
     have S8:=Sb n out
     refine VW.bL (α := Nat × Nat × Nat) (fun z=>⟨[X.eF.av, .ref [0] 0 0, .top,strs out, .int .i64 (i:Int), .str n,xf z.2.1 (out.take z.1), .int .i64 (z.1:Int)]++List.replicate 52 .top,
       (aa.put (fun _=>none) [0] (some ⟨[X.eF.av],5,false⟩)).put [z.2.1] (if out.take z.1=[] then none else some ⟨(out.take z.1).map .str,1,false⟩),z.2.2⟩)
       (fun z=>z.1<=DY n out/\0<z.2.1/\z.2.1<z.2.2) (fun z=>DY n out-z.1) (0,1,nn+1000) ?_ ⟨Nat.zero_le _,Nat.one_pos,by simp only [];omega⟩ ?_
     . refine Wk.forget (by simp [Fg,List.replicate,xf]) (fun j => ?_) (by simp only [];omega)
       by_cases h1:j=[0]
       . subst h1;right;simp [aa.put]
       . left;simp [aa.put,h1]
     rintro ⟨k,ck,mm⟩ ⟨hk,aep,Rg⟩
     simp only [] at hk aep Rg
     have Eh:(out.take k).length=k:=by rw [List.length_take];omega
     by_cases Ib:k<DY n out
     . obtain ⟨x,hx,NW⟩:=KU n out k Ib
       have hgx:(out.map AV.str)[k]? = some (.str x):=by rw [List.getElem?_map,hx];rfl
       have mN:br 1 (strs out) (.int .i64 (k:Int))=some (.ep (AV.str x).cells 0):=aQ rfl hgx
       have Gt:part false (AV.str x).cells 0 1=some (.str x):=rfl
       have d1:decide ((k:Int)<(out.length:Int))=true:=ao (by omega)
       have JQ:out.take (k+1)=out.take k++[x]:=by rw [List.take_add_one,hx];rfl
       have I4 : ¬ out.take k++[x]=[]:=by simp
       by_cases h0:k=0
       . subst h0
         have e0:xf ck (out.take 0) = .nils:=by simp [xf]
         simp only [e0]
         simp only [SS,Nat.reduceAdd,dB,d1,mN,az,Gt,qZ,NW,uz,oH,aq 0 (by omega)]
         refine ⟨(0+1,mm+12+6,mm+1000),⟨by simp only [];omega,by simp only [];omega,by simp only [];omega⟩,by simp only [];omega, ?_⟩
         simp only [JQ,List.take_zero,List.nil_append,xf,List.cons_ne_nil,if_false,List.length_singleton,List.map_cons,List.map_nil]
         refine Wk.forget (by simp [Fg]) (fun j => ?_) (by omega)
         by_cases h1:j=[mm+12+6]
         . subst h1;right;simp [aa.put]
         by_cases h2:j=[0]
         . subst h2;right;simp [aa.put];omega
         . left;simp [aa.put,h1,h2]
       . have hne : ¬ out.take k=[]:=by intro e;rw [e] at Eh;simp at Eh;omega
         have e0:xf ck (out.take k) = .osl [ck] 1 0 (out.take k).length false:=if_neg hne
         have zO:∀ (p q:Id),q≠[ck]->b6 (((aa.put (fun _=>none) [0] (some ⟨[X.eF.av],5,false⟩)).put [ck] (if out.take k=[] then none else some ⟨(out.take k).map .str,1,false⟩)).put q (some ⟨[.str x],1,false⟩)) p 1 16 (.osl [ck] 1 0 (out.take k).length false) (.osl q 1 0 1 false)=some { val := .osl p 1 0 ((out.take k).length+1) false,rd:=[[ck],q],up:=[([ck],none),(p,some ⟨(out.take k++[x]).map .str,1,false⟩)] } :=
           fun p q hq=>zx hq (by omega) (by rw [aa.bb,if_neg hne])
         have hq:([mm+12+5]:List Nat)≠[ck]:=by intro e;simp at e;omega
         simp only [e0]
         simp only [SS,Nat.reduceAdd,dB,d1,mN,az,Gt,qZ,NW,uz,zO _ _ hq,aq k (by omega)]
         refine ⟨(k+1,mm+12+6,mm+1000),⟨by simp only [];omega,by simp only [];omega,by simp only [];omega⟩,by simp only [];omega, ?_⟩
         simp only [JQ,xf,if_neg I4,List.length_append,List.length_singleton]
         refine Wk.forget (by simp [Fg]) (fun j => ?_) (by omega)
         by_cases h1:j=[mm+12+6]
         . subst h1;right;simp [aa.put]
         by_cases h2:j=[0]
         . subst h2;right;simp [aa.put];omega
         . left;simp [aa.put,h1,h2]
     . have Mt:k=DY n out:=by omega
       rw [<- Mt] at Gs
       have abf:bT 1 (strs out) (some (.int .i64 0)) none none=some (.sl 1 (out.map .str)):=Bw (k:=1) (l:=0) (es:=out.map AV.str) (Nat.zero_le _)
       have Co:bT 1 (strs out) (some (.int .i64 (((out.take k).length:Nat):Int))) none none=some (.sl 1 ((out.drop k).map .str)):=by
         have:=Bw (k:=1) (l:=k) (es:=out.map AV.str) (by rw [List.length_map];omega)
         rw [List.map_drop,Eh];exact this
       rw [Gs] at q7
       by_cases aeq:k<out.length
       case pos =>
         obtain ⟨x,hx⟩:∃ x,out[k]? = some x:=⟨_,List.getElem?_eq_getElem aeq⟩
         have NW:Op.bytesLess x n=false:=Dy n out x (by rw [<- Mt];exact hx)
         have hgx:(out.map AV.str)[k]? = some (.str x):=by rw [List.getElem?_map,hx];rfl
         have mN:br 1 (strs out) (.int .i64 (k:Int))=some (.ep (AV.str x).cells 0):=aQ rfl hgx
         have Gt:part false (AV.str x).cells 0 1=some (.str x):=rfl
         have d1:decide ((k:Int)<(out.length:Int))=true:=ao (by omega)
         have Wo:out.drop k≠[]:=by intro e;have:=congrArg List.length e;rw [List.length_drop] at this;simp at this;omega
         by_cases h0:k=0
         . have e0:xf ck (out.take k) = .nils:=by simp [xf,h0]
           have I7:out.take k=[]:=by rw [h0];rfl
           have KV:out.drop k=out:=by rw [h0];rfl
           rw [KV] at Wo
           have IP:∀ (σ : aa) (p:Id),b6 ((σ.put [mm+12+3+2] (some ⟨[.str n],1,false⟩)).put [mm+12+3+3] (some ⟨[.str n],1,false⟩)) p 1 16 (.osl [mm+12+3+3] 1 0 1 false) (.sl 1 (out.map .str))=some { val := .osl p 1 0 (1+out.length) false,rd:=[[mm+12+3+3]],up:=[([mm+12+3+3],none),(p,some ⟨([n]++out).map .str,1,false⟩)] }:=fun σ p =>
             I6 (o:=[n]) Wo (by simp;omega) (aa.bb _ _ _)
           rw [I7,KV,List.nil_append] at Gs
           simp only [e0]
           simp only [SS,DD,Nat.reduceAdd,dB,d1,mN,az,Gt,qZ,NW,uz,oH,abf,IP,aq i (by omega)]
           refine ⟨by simp [ar,apart], ?_⟩
           try rw [I7,KV,List.nil_append] at q7
           refine ⟨(i+1,mm+1000),by simp only [];omega,by simp only [];omega, ?_⟩
           simp only [q7]
           refine Wk.freeze [([mm+12+3+7],⟨([n]++out).map .str,1,false⟩)] (by simp [aa.put]) ?_ (fun j => ?_) (by omega)
           . have hv:=sY (σ := aa.of [([mm+12+3+7],⟨([n]++out).map AV.str,1,false⟩)]) (id:=[mm+12+3+7]) (a:=[n]++out) (t:=[]) (b:=false) (tt:=false) (by rw [List.append_nil];simp [aa.of])
             rw [List.length_append,List.length_singleton] at hv
             simp [NI]
             right;right
             simpa using hv
           . by_cases h1:j=[0]
             . subst h1;right;simp [aa.put,rq,aa.app]<;>omega
             . left;simp [aa.put,h1]
         . have hne : ¬ out.take k=[]:=by intro e;rw [e] at Eh;simp at Eh;omega
           have e0:xf ck (out.take k) = .osl [ck] 1 0 (out.take k).length false:=if_neg hne
           have zO:∀ (p q:Id),q≠[ck]->b6 (((aa.put (fun _=>none) [0] (some ⟨[X.eF.av],5,false⟩)).put [ck] (if out.take k=[] then none else some ⟨(out.take k).map .str,1,false⟩)).put q (some ⟨[.str n],1,false⟩)) p 1 16 (.osl [ck] 1 0 (out.take k).length false) (.osl q 1 0 1 false)=some { val := .osl p 1 0 ((out.take k).length+1) false,rd:=[[ck],q],up:=[([ck],none),(p,some ⟨(out.take k++[n]).map .str,1,false⟩)] } :=
             fun p q hq=>zx hq (by omega) (by rw [aa.bb,if_neg hne])
           have hq:([mm+12+3+2]:List Nat)≠[ck]:=by intro e;simp at e;omega
           have IP:∀ (σ : aa) (p:Id),b6 (σ.put [mm+12+3+3] (some ⟨(out.take k++[n]).map .str,1,false⟩)) p 1 16 (.osl [mm+12+3+3] 1 0 ((out.take k).length+1) false) (.sl 1 ((out.drop k).map .str))=some { val := .osl p 1 0 ((out.take k).length+1+(out.drop k).length) false,rd:=[[mm+12+3+3]],up:=[([mm+12+3+3],none),(p,some ⟨(out.take k++[n]++out.drop k).map .str,1,false⟩)] }:=fun σ p=>by
             have:=I6 (σ := σ.put [mm+12+3+3] (some ⟨(out.take k++[n]).map .str,1,false⟩)) (p:=p) (o:=out.take k++[n]) (ys:=out.drop k) Wo (by rw [List.length_append,Eh,List.length_drop,List.length_singleton];omega) (aa.bb _ _ _)
             rwa [List.length_append,List.length_singleton] at this
           simp only [e0]
           simp only [SS,DD,Nat.reduceAdd,dB,d1,mN,az,Gt,qZ,NW,uz,zO _ _ hq,Co,IP,aq i (by omega)]
           refine ⟨by simp [ar,apart], ?_⟩
           refine ⟨(i+1,mm+1000),by simp only [];omega,by simp only [];omega, ?_⟩
           simp only [q7]
           refine Wk.freeze [([mm+12+3+7],⟨(out.take k++[n]++out.drop k).map .str,1,false⟩)] (by simp [aa.put]) ?_ (fun j => ?_) (by omega)
           . have hv:=sY (σ := aa.of [([mm+12+3+7],⟨(out.take k++[n]++out.drop k).map AV.str,1,false⟩)]) (id:=[mm+12+3+7]) (a:=out.take k++[n]++out.drop k) (t:=[]) (b:=false) (tt:=false) (by rw [List.append_nil];simp [aa.of])
             rw [List.length_append,List.length_append,List.length_singleton] at hv
             simp [NI]
             right;right
             simpa using hv
           . by_cases h1:j=[0]
             . subst h1;right;simp [aa.put,rq,aa.app]<;>omega
             . left;simp [aa.put,h1]
       case neg =>
         have d1:decide ((k:Int)<(out.length:Int))=false:=ak (by omega)
         have Wo:out.drop k=[]:=List.drop_of_length_le (by omega)
         by_cases h0:k=0
         . have e0:xf ck (out.take k) = .nils:=by simp [xf,h0]
           have I7:out.take k=[]:=by rw [h0];rfl
           have KV:out.drop k=out:=by rw [h0];rfl
           have ho:out=[]:=by rw [<- KV];exact Wo
           rw [I7,KV,ho,List.nil_append,List.append_nil] at Gs
           have abg:bT 1 (strs out) (some (.int .i64 0)) none none=some (.sl 1 []):=by rw [abf,ho];rfl
           simp only [e0]
           simp only [SS,DD,Nat.reduceAdd,dB,d1,uz,oH,abg,zy,aq i (by omega)]
           refine ⟨by simp [ar,apart], ?_⟩
           try rw [I7,KV,ho,List.nil_append,List.append_nil] at q7
           refine ⟨(i+1,mm+1000),by simp only [];omega,by simp only [];omega, ?_⟩
           simp only [q7]
           refine Wk.freeze [([mm+12+3+3],⟨([n]).map .str,1,false⟩)] (by simp [aa.put]) ?_ (fun j => ?_) (by omega)
           . have hv:=sY (σ := aa.of [([mm+12+3+3],⟨([n]).map AV.str,1,false⟩)]) (id:=[mm+12+3+3]) (a:=[n]) (t:=[]) (b:=false) (tt:=false) (by rw [List.append_nil];simp [aa.of])
             rw [List.length_singleton] at hv
             simp [NI]
             right;right
             simpa using hv
           . by_cases h1:j=[0]
             . subst h1;right;simp [aa.put,rq,aa.app]<;>omega
             . left;simp [aa.put,h1]
         . have hne : ¬ out.take k=[]:=by intro e;rw [e] at Eh;simp at Eh;omega
           have e0:xf ck (out.take k) = .osl [ck] 1 0 (out.take k).length false:=if_neg hne
           have zO:∀ (p q:Id),q≠[ck]->b6 (((aa.put (fun _=>none) [0] (some ⟨[X.eF.av],5,false⟩)).put [ck] (if out.take k=[] then none else some ⟨(out.take k).map .str,1,false⟩)).put q (some ⟨[.str n],1,false⟩)) p 1 16 (.osl [ck] 1 0 (out.take k).length false) (.osl q 1 0 1 false)=some { val := .osl p 1 0 ((out.take k).length+1) false,rd:=[[ck],q],up:=[([ck],none),(p,some ⟨(out.take k++[n]).map .str,1,false⟩)] } :=
             fun p q hq=>zx hq (by omega) (by rw [aa.bb,if_neg hne])
           have hq:([mm+12+3+2]:List Nat)≠[ck]:=by intro e;simp at e;omega
           rw [Wo,List.append_nil] at Gs
           have aer:bT 1 (strs out) (some (.int .i64 (((out.take k).length:Nat):Int))) none none=some (.sl 1 []):=by rw [Co,Wo];rfl
           simp only [e0]
           simp only [SS,DD,Nat.reduceAdd,dB,d1,uz,zO _ _ hq,aer,zy,aq i (by omega)]
           refine ⟨by simp [ar,apart], ?_⟩
           try rw [Wo,List.append_nil] at q7
           refine ⟨(i+1,mm+1000),by simp only [];omega,by simp only [];omega, ?_⟩
           simp only [q7]
           refine Wk.freeze [([mm+12+3+3],⟨(out.take k++[n]).map .str,1,false⟩)] (by simp [aa.put]) ?_ (fun j => ?_) (by omega)
           . have hv:=sY (σ := aa.of [([mm+12+3+3],⟨(out.take k++[n]).map AV.str,1,false⟩)]) (id:=[mm+12+3+3]) (a:=out.take k++[n]) (t:=[]) (b:=false) (tt:=false) (by rw [List.append_nil];simp [aa.of])
             rw [List.length_append,List.length_singleton] at hv
             simp [NI]
             right;right
             simpa using hv
           . by_cases h1:j=[0]
             . subst h1;right;simp [aa.put,rq,aa.app]<;>omega
             . left;simp [aa.put,h1]
   . have Gs:xg out n=out:=by unfold xg;rw [Sd];simp
     rw [Gs] at q7
     simp only [SS,Nat.reduceAdd,aq i (by omega)]
     refine ⟨(i+1,nn+1000),by simp only [];omega,by simp only [];omega, ?_⟩
     simp only [q7]
     exact Wk.slots (by simp [Fg]) (by omega)
 . have dd:decide ((i:Int)<(X.inputs.length:Int))=false:=ak (by omega)
   have jc:i=names.length:=by omega
   have J1:names.take i=names:=by rw [jc,List.take_length]
   rw [<- J1,CH]
   simp only [SS,Nat.reduceAdd,ae,bK.p2,FX.ic,dB,dd]
   exact ag▸ab rfl (gX _)
end
end Go.VL
end

section
namespace Go.VL
open Go.Sort Go.Lib
theorem ye (a:List UInt8) : ¬ a<a:=List.lt_irrefl a
theorem AM {a b c:List UInt8} (h:a<b) (k:b<c):a<c:=List.lt_trans h k
theorem KW {a b:List UInt8} (h : ¬ a<b) (hn:a≠b):b<a :=
 Decidable.byContradiction fun k=>hn (List.le_antisymm (show a<=b from k) (show b<=a from h))
def Pa (l:List (List UInt8)):Prop:=l.Pairwise (· < ·)
theorem Se:∀ {l m:List (List UInt8)},Pa l->Pa m->(∀ x,x∈l↔x∈m)->l=m
 | [],[],_,_,_=>rfl
 | [],b::m,_,_,h=>by have:=(h b).2 (by simp);simp at this
 | a::l,[],_,_,h=>by have:=(h a).1 (by simp);simp at this
 | a :: l,b::m,hl,hm,h=>by
   unfold Pa at hl hm
   rw [List.pairwise_cons] at hl hm
   have MJ:a=b:=by
     have h1:=(h a).1 (by simp)
     have h2:=(h b).2 (by simp)
     rcases List.mem_cons.1 h1 with e | h1
     . exact e
     . rcases List.mem_cons.1 h2 with e | h2
       . exact e.symm
       . exact absurd (AM (hm.1 a h1) (hl.1 b h2)) (ye b)
   subst MJ
   refine congrArg (a :: ·) (Se hl.2 hm.2 fun x => ?_)
   constructor
   . intro hx
     rcases List.mem_cons.1 ((h x).1 (by simp [hx])) with e | q
     . subst e;exact absurd (hl.1 x hx) (ye x)
     . exact q
   . intro hx
     rcases List.mem_cons.1 ((h x).2 (by simp [hx])) with e | q
     . subst e;exact absurd (hm.1 x hx) (ye x)
     . exact q
theorem Sf (out:List (List UInt8)) (n x:List UInt8):x∈xg out n↔x∈out∨x=n:=by
 unfold xg
 split
 . rename_i h
   have hn:n∈out:=by simpa using h
   constructor
   . exact .inl
   . rintro (q | rfl);exact q;exact hn
 . have e:=List.take_append_drop (DY n out) out
   constructor
   . intro q
     rw [List.append_assoc,List.mem_append,List.mem_append,List.mem_singleton] at q
     rcases q with q | q | q
     . exact .inl (List.mem_of_mem_take q)
     . exact .inr q
     . exact .inl (List.mem_of_mem_drop q)
   . rintro (q | rfl)
     . rw [<- e,List.mem_append] at q
       rw [List.append_assoc,List.mem_append,List.mem_append]
       rcases q with q | q
       . exact .inl q
       . exact .inr (.inr q)
     . simp
theorem UZ {out:List (List UInt8)} (n:List UInt8) (h:Pa out):Pa (xg out n):=by
 unfold xg
 split
 . exact h
 . rename_i hc
   have hn:n ∉ out:=by simpa using hc
   have e:=List.take_append_drop (DY n out) out
   unfold Pa at h ⊢
   rw [<- e,List.pairwise_append] at h
   have uU:∀ x∈out.take (DY n out),x<n:=by
     intro x hx
     obtain ⟨k,hk,hkx⟩:=List.mem_iff_getElem.1 hx
     rw [List.length_take] at hk
     obtain ⟨y,hy,hyn⟩:=KU n out k (by omega)
     rw [List.getElem_take] at hkx
     rw [List.getElem?_eq_getElem (by omega),Option.some.injEq,hkx] at hy
     subst hy
     rw [Go.Proofs.bytesLess_eq] at hyn
     simpa using hyn
   have zY:∀ x∈out.drop (DY n out),n<x:=by
     intro x hx
     cases hd:out.drop (DY n out) with
     | nil=>rw [hd] at hx;simp at hx
     | cons y t =>
       have hy:out[DY n out]? = some y:=by
         have:=congrArg (·[0]?) hd
         simpa using this
       have hny:=Dy n out y hy
       rw [Go.Proofs.bytesLess_eq] at hny
       have hyn:n<y:=KW (by simpa using hny) (fun e=>hn (by rw [<- e];exact List.mem_of_getElem? hy))
       rw [hd] at hx
       rcases List.mem_cons.1 hx with rfl | hx
       . exact hyn
       . rw [hd] at h
         exact AM hyn ((List.pairwise_cons.1 h.2.1).1 x hx)
   rw [List.append_assoc,List.pairwise_append]
   refine ⟨h.1, ?_, ?_⟩
   . rw [List.singleton_append,List.pairwise_cons]
     exact ⟨zY,h.2.1⟩
   . intro a ha b hb
     rw [List.singleton_append] at hb
     rcases List.mem_cons.1 hb with rfl | hb
     . exact uU a ha
     . exact h.2.2 a ha b hb
theorem I8:∀ (ns out:List (List UInt8)),Pa out->Pa (ns.foldl xg out)/\∀ x,x∈ns.foldl xg out↔x∈out∨x∈ns
 | [],out,h=>⟨h,by simp⟩
 | n::ns,out,h=>by
   obtain ⟨h1,h2⟩:=I8 ns (xg out n) (UZ n h)
   refine ⟨h1,fun x => ?_⟩
   rw [List.foldl_cons,h2,Sf]
   simp [or_assoc]
theorem Sg (ns:List (List UInt8)):Pa (xh ns)/\∀ x,x∈xh ns↔x∈ns:=by
 obtain ⟨h1,h2⟩:=I8 ns [] List.Pairwise.nil
 exact ⟨h1,fun x=>by rw [xh,h2];simp⟩
theorem KX (l:List (List UInt8)) (h:l.Pairwise fun a b => ¬ b<a):∀ m,m<=l.length->Pa (compactUpTo l.toArray m)/\(∀ x,x∈compactUpTo l.toArray m↔x∈l.take m):=by
 intro m
 induction m with
 | zero=>intro _;exact ⟨by simp [compactUpTo,Pa],by simp [compactUpTo]⟩
 | succ m ih =>
   intro hm
   obtain ⟨h1,h2⟩:=ih (by omega)
   have hlt:m<l.length:=by omega
   have hg:l.toArray[m]! = l[m]:=by rw [getElem!_pos l.toArray m (by simpa using hlt)];rfl
   have JQ:l.take (m+1)=l.take m++[l[m]]:=by rw [List.take_add_one,List.getElem?_eq_getElem hlt];rfl
   rw [compactUpTo_succ,hg,JQ]
   cases hk:keeps l.toArray m
   . simp only [Bool.false_eq_true,if_false,List.append_nil]
     refine ⟨h1,fun x => ?_⟩
     have Tx:m≠0/\l.toArray[m]! = l.toArray[m-1]! := by
       unfold keeps at hk
       simp only [decide_eq_false_iff_not,not_or,Decidable.not_not] at hk
       exact hk
     have YU:l.toArray[m-1]! = l[m-1]:=by rw [getElem!_pos l.toArray (m-1) (by simp;omega)];rfl
     rw [hg,YU] at Tx
     rw [h2,List.mem_append,List.mem_singleton]
     constructor
     . exact .inl
     . rintro (q | rfl)
       . exact q
       . rw [Tx.2]
         exact List.mem_iff_getElem.2 ⟨m-1,by rw [List.length_take];omega,by rw [List.getElem_take]⟩
   . simp only [if_true]
     refine ⟨?_,fun x=>by rw [List.mem_append,List.mem_append,h2]⟩
     unfold Pa at h1 ⊢
     rw [List.pairwise_append]
     refine ⟨h1,by simp,fun a ha b hb => ?_⟩
     rw [List.mem_singleton] at hb
     subst hb
     have hat:=(h2 a).1 ha
     obtain ⟨j,hj,rfl⟩:=List.mem_iff_getElem.1 hat
     rw [List.length_take] at hj
     rw [List.getElem_take]
     have Tx:m≠0:=by omega
     have YU:l.toArray[m-1]! = l[m-1]:=by rw [getElem!_pos l.toArray (m-1) (by simp;omega)];rfl
     have hne:l[m]≠l[m-1]:=by
       unfold keeps at hk
       simp only [decide_eq_true_eq] at hk
       rcases hk with q | q
       . exact absurd q Tx
       . rwa [hg,YU] at q
     have hpw:=List.pairwise_iff_getElem.1 h
     have Bm:l[m-1]<l[m]:=KW (hpw (m-1) m (by omega) hlt (by omega)) hne
     by_cases Xb:j=m-1
     . subst Xb;exact Bm
     . have h3:=hpw j (m-1) (by omega) (by omega) (by omega)
       rcases Decidable.em (l[j]=l[m-1]) with e | e
       . rw [e];exact Bm
       . exact AM (KW h3 (Ne.symm e)) Bm
theorem OH (ns:List (List UInt8)):Lib.compact (ns.mergeSort fun x y=>decide (x<=y))=xh ns:=by
 have hp:(ns.mergeSort fun x y=>decide (x<=y)).Pairwise fun a b => ¬ b<a:=by
   refine (List.pairwise_mergeSort (le:=fun x y:List UInt8=>decide (x<=y)) (fun a b c h k => ?_) (fun a b => ?_) ns).imp ?_
   . simp only [decide_eq_true_eq] at h k ⊢;exact List.le_trans h k
   . rcases List.le_total a b with q | q<;>simp [q]
   . intro a b h
     simp only [decide_eq_true_eq] at h
     exact h
 obtain ⟨h1,h2⟩:=KX _ hp _ (Nat.le_refl _)
 obtain ⟨h3,h4⟩:=Sg ns
 refine Se h1 h3 fun x => ?_
 have Vo:=h2 x
 rw [List.take_length,List.mem_mergeSort] at Vo
 exact Vo.trans (h4 x).symm
end Go.VL
end

section
set_option maxRecDepth 100000
namespace Go.Proofs.YtcomlgfjnjpebaaGreatDoor
open Go.VL Go.Proofs Go.RowKit
def gN (m:Int):Nat->Option (List AV)
 | 0=>some bV
 | 1=>some [.int .i64 m]
 | 2=>some Gl
 | _=>none
theorem VP.up {P:Program} {G:Nat->Option (List AV)} {f:FuncId} {args:List AV} {r:AV} (h:VP P (fun _=>none) f args r):VP P G f args r :=
 ⟨h.1,fun w vs ok hi hr=>h.2 w vs ok ⟨hi.okb,hi.blk,hi.inj,fun _ _ h=>by simp at h,hi.new⟩ hr⟩
section
variable (m:Int)
theorem I9 (c:UInt8):VP Tryz.prog (gN m) 73 [hZ c] (.bool (dx c)):=Bj xS c
theorem Si (c:UInt8):VP Tryz.prog (gN m) 103 [hZ c] (.bool (mb c)):=C0 yY c
theorem Yf (c:UInt8):VP Tryz.prog (gN m) 75 [hZ c] (.bool (di c)):=NK Ao (I9 m) (Si m) c
theorem Yg (s:List UInt8) (hs:s.length<9223372036854775807):VP Tryz.prog (gN m) 74 [.str s, .fn (.func 75) [] []] (.int .i64 (fD di s)):=T6 CX (Yf m) s hs
theorem KY (s:List UInt8):VP Tryz.prog (gN m) 50 [.str s] (.bool (bc s)):=NL Ap (I9 m) (Yg m) s
theorem aes:Has Tryz.prog 117 jk:=qJ
theorem aet:Has Tryz.prog 118 mi:=rU
theorem OI (c:UInt8):VP Tryz.prog (gN m) 117 [hZ c] (.bool (dx c)):=Bj aes c
theorem Sj (c:UInt8):VP Tryz.prog (gN m) 118 [hZ c] (.bool (mb c)):=C0 aet c
theorem Yh (s:List UInt8) (hs:s.length<9223372036854775807):VP Tryz.prog (gN m) 92 [.str s, .int .i64 0] (.int .i64 ((sW s:Nat):Int)):=UW sP (OI m) (Sj m) s hs
theorem KZ (s:List UInt8):VP Tryz.prog (gN m) 60 [.str s] (.bool (bc s)):=KR qI (Yh m) s
theorem wl {ws:List Nat} (hw:Wd ws) (h:ws.length<=8):ah (val ws)<=8:=Nat.le_trans (sT hw) h
theorem oo (b:Bool) (n:Nat):(jB b n).natAbs=n:=by cases b<;>simp [jB]
theorem abj (n1:Bool) (w1:List Nat) (n2:Bool) (w2:List Nat) (uJ:Wd w1) (wN:Wd w2) (mO:w1.length<=8) (uH:w2.length<=8):VP Tryz.prog (gN m) 123 [RR n1 w1 n2 w2] (.bool (MP n1 w1 n2 w2)):=by
 have a1:=wl uJ mO
 have a2:=wl wN uH
 have:=Ff xX n1 w1 n2 w2 uJ wN (g:=(Nat.gcd (val w1) (val w2):Nat)) (We (gN m) n1 w1 (by omega)) (We (gN m) n2 w2 (by omega)) (X5 (gN m) _ (by rw [oo];omega))
   (fun _=>by have:=aaP (gN m) (jB n1 (val w1)) (jB n2 (val w2)) (by rw [oo];omega) (by rw [oo];omega);rwa [oo,oo] at this) (i138 (gN m) _)
 exact this
theorem abk (n1:Bool) (w1:List Nat) (n2:Bool) (w2:List Nat) (uJ:Wd w1) (wN:Wd w2) (mO:w1.length<=8) (uH:w2.length<=8):VP Tryz.prog (gN m) 157 [RR n1 w1 n2 w2] (.bool (MP n1 w1 n2 w2)):=by
 have a1:=wl uJ mO
 have a2:=wl wN uH
 have:=Ff aed n1 w1 n2 w2 uJ wN (g:=(Nat.gcd (val w1) (val w2):Nat)) (Wi (gN m) n1 w1 uJ (by omega)) (Wi (gN m) n2 w2 wN (by omega)) (X7 (gN m) _ (by rw [oo];omega))
   (fun _=>by have:=X9 (gN m) (jB n1 (val w1)) (jB n2 (val w2)) (by rw [oo];omega) (by rw [oo];omega);rwa [oo,oo] at this) (Wj (gN m) _)
 exact this
theorem w1:ah 1<=1:=sS
theorem Yi (n1:Bool) (w1:List Nat) (n2:Bool) (w2:List Nat) (uJ:Wd w1) (wN:Wd w2) (mO:w1.length<=8) (uH:w2.length<=8):∃ s,VP Tryz.prog (gN m) 104 [RR n1 w1 n2 w2] (.tup [.str s, .bool (oD n1 w1 n2 w2)]):=by
 obtain ⟨s,e⟩:=Dq 40 n1 w1 n2 w2 (fun _ _=>rfl)
 refine ⟨s, ?_⟩
 rw [<- e]
 refine KJ px n1 w1 n2 w2 uJ wN mO uH (abj m n1 w1 n2 w2 uJ wN mO uH) (fun a b ha=>Wf (gN m) a b (by omega)) (fun a b hb hg ha B8 hv => ?_)
 exact KH px a b hb hg ha B8 hv (Wf (gN m) _ _ (by rw [Int.natAbs_natCast];omega)) (X6 (gN m) 10 (by decide) (by decide)) (Rp (gN m) 1 (by decide) (by decide))
   (fun y hy=>ad1 (gN m) _ _ (by rw [Int.natAbs_natCast];omega) (by show ah 1<=_;have:=sS;omega)) (fun a b hb _ ha B8=>ad5 (gN m) a b hb ha B8)
   (fun n hn=>Tryz.Oi (gN m) rfl (t145 (gN m)) sG e9 n (by omega)) (fun z hz=>Tryz.Oj (gN m) z hz)
theorem Yj (n1:Bool) (w1:List Nat) (n2:Bool) (w2:List Nat) (uJ:Wd w1) (wN:Wd w2) (mO:w1.length<=8) (uH:w2.length<=8):∃ s,VP Tryz.prog (gN m) 134 [RR n1 w1 n2 w2] (.tup [.str s, .bool (oD n1 w1 n2 w2)]):=by
 obtain ⟨s,e⟩:=Dq 41 n1 w1 n2 w2 Ol
 refine ⟨s, ?_⟩
 rw [<- e]
 refine IW lx n1 w1 n2 w2 uJ wN mO uH (abk m n1 w1 n2 w2 uJ wN mO uH) (fun a b ha=>Wl (gN m) a b (by omega)) (fun a b hb hg ha B8 hv => ?_)
 exact IQ lx a b hb hg ha B8 hv (Wl (gN m) _ _ (by rw [Int.natAbs_natCast];omega)) (Rr (gN m) 10 (by decide) (by decide)) (Rq (gN m) 1 (by decide) (by decide))
   (fun y hy=>aa2 (gN m) _ _ (by rw [Int.natAbs_natCast];omega) (by show ah 1<=_;have:=sS;omega)) (fun a b hb qA hg ha B8=>aee (gN m) a b hb qA hg ha B8)
   (fun n hn=>f162 (gN m) n (by omega))
theorem Sk (e:EX) (ho:e.Ok) (hl:e.nu=true) (hn:e.nodes<=1000):VP Tryz.prog (gN m) 78 [e.av] (.bool e.formed) :=
 Ou xY rfl vZ eS fL (Yi m) (KY m) (fun n1 w1 n2 w2=>UI Ax n1 w1 n2 w2) e ho hl hn
theorem Sl (e:EX) (ho:e.Ok) (hs:nZ e=true):VP Tryz.prog (gN m) 56 [e.av] (.int .i64 (if e.formed=true then (if 40<e.depth then 3 else 0) else 1)):=by
 unfold nZ at hs
 simp only [Bool.and_eq_true,decide_eq_true_eq] at hs
 exact Ow ze e (Sk m e ho hs.2 (by omega)) (Ov zd e (by omega))
theorem Sm (e:EX) (ho:e.Ok) (hl:e.nu=true):VP Tryz.prog (gN m) 93 [e.av] (.bool e.formed) :=
 KP qH (fun op n1 w1 n2 w2 nm args ho hl=>by
   have hh:=EX.uy hl
   have Ie:=ho
   rw [EX.Ok] at Ie
   exact R2 rO op n1 w1 n2 w2 nm args (Yj m n1 w1 n2 w2 Ie.2.2.1 Ie.2.2.2.1 hh.2.1 hh.2.2.1) (KZ m nm)) e ho hl
theorem Sn (e:EX) (ho:e.Ok) (hs:nZ e=true):VP Tryz.prog (gN m) 61 [e.av] (.int .i64 (if e.formed=true then (if 40<e.depth then 3 else 0) else 1)):=by
 unfold nZ at hs
 simp only [Bool.and_eq_true,decide_eq_true_eq] at hs
 exact IZ rQ e (Sm m e ho hs.2) (Ox rP e (by omega))
theorem U0 (e:EX) (ho:e.Ok):VP Tryz.prog (gN m) 28 [e.av] (.bool (nZ e)) :=
 KQ rT e (R4 rR e ho 120 (by decide)) (R3 rS e ho)
theorem Wp (s:List UInt8) (hs:s.length<=300):VP Tryz.prog (gN m) 30 [.str s, .str [47]] (.tup [.str (Lib.cut s [47]).1, .str (Lib.cut s [47]).2.1, .bool (Lib.cut s [47]).2.2]):=Tryz.Ya (gN m) (m:=m) rfl s (by omega)
theorem U1 (s:List UInt8) (hs:s.length<=300):VP Tryz.prog (gN m) 53 [.str s] (.bool (eM s).isSome):=Ek uf s (by omega) (Wp m s hs) (KY m)
theorem Ft (s:List UInt8) (hs:s.length<=300):VP Tryz.prog (gN m) 34 [.str s] (.str ((eM s).getD [])):=KT qg s (by omega) (KZ m)
theorem qm {X:FX} (h:X.small=true):X.inputs.length<=60/\X.vals.length<=12/\(∀ s∈X.inputs,s.length<=300)/\(∀ e∈X.vals,nZ e=true):=by
 unfold FX.small at h
 simp only [Bool.and_eq_true,List.all_eq_true,decide_eq_true_eq] at h
 exact ⟨h.1.1.1.1,h.1.1.1.2,h.1.2,h.2⟩
theorem U2 (X:FX) (hX:X.Ok):VP Tryz.prog (gN m) 10 [X.av] (.bool X.small):=I3 rX X hX (fun e he=>U0 m e (hX.vals e he))
theorem MW (X:FX) (hX:X.Ok) (hs:X.small=true):VP Tryz.prog (gN m) 29 [X.av] (.bool X.valid):=by
 obtain ⟨q1,q2,h2,h3⟩:=qm hs
 exact OD yZ (KY m) lr l8 eS fL X hX (by omega) (by omega)
   (fun s hm=>OA w9 s (U1 m s (h2 s hm))) (fun e he=>OB xc e (Sl m e (hX.vals e he) (h3 e he)))
theorem Cb (X:FX) (hX:X.Ok) (hs:X.small=true):VP Tryz.prog (gN m) 33 [X.av] (.bool X.valid):=by
 obtain ⟨q1,q2,h2,h3⟩:=qm hs
 exact I2 rV X hX (KZ m _) (fun e he=>Sn m e (hX.vals e he) (h3 e he)) (fun s hm=>Ft m s (h2 s hm))
theorem K0 {s:List UInt8} (h:(eM s).isSome=true):(eM s).getD []=(Lib.cut s [47]).1:=by
 rw [Fq]
 unfold eM at h ⊢
 cases hs:kj s with
 | none=>rw [hs] at h;cases h
 | some k =>
   rw [hs] at h
   simp only [] at h ⊢
   split
   . rfl
   . rename_i hh;rw [if_neg hh] at h;cases h
theorem Sp {X:FX} (h:X.valid=true):(X.inputs.map fun s=>(Lib.cut s [47]).1)=X.inputs.map fun s=>(eM s).getD []:=by
 refine List.map_congr_left fun s hs => ?_
 unfold FX.valid at h
 simp only [Bool.and_eq_true,List.all_eq_true] at h
 exact (K0 (h.1.2 s hs)).symm
def FX.needs (X:FX):List (List UInt8):=if X.valid=true then xh (X.inputs.map fun s=>(eM s).getD []) else []
theorem Sq:VP Tryz.prog (gN m) 31 [.nils] (.tup []):=by
 refine VP.wJ (r:={ val := .tup [] }) (aB.vJ Tryz.func31 (by kernel_rfl) (by kernel_rfl) ?_) (fun _ _ _ _ _=>by simp [aL,aM])
 intro own E w σ vs _ hi hr
 simp only [aM,aL] at hr
 obtain ⟨v,_,rfl,rfl,rfl⟩:=hr
 refine (Tryz.slices_Sort_string_none none 0 w).mono ?_
 rintro e W' ⟨rfl,rfl⟩
 exact ⟨_,rfl,Below.refl _ _,fun E w=>by simp [aL,aM]⟩
theorem Ja:VP Tryz.prog (gN m) 32 [.nils] .nils:=by
 refine VP.wJ (r:={ val := .nils }) (aB.vJ Tryz.func32 (by kernel_rfl) (by kernel_rfl) ?_) (fun _ _ _ _ _=>by simp [aL])
 intro own E w σ vs _ hi hr
 simp only [aM,aL] at hr
 obtain ⟨v,_,rfl,rfl,rfl⟩:=hr
 refine (Tryz.slices_Compact_string_empty none 0 w).mono ?_
 rintro e W' ⟨rfl,rfl⟩
 exact ⟨_,rfl,Below.refl _ _,fun E w=>by simp [aL]⟩
theorem U3 (X:FX) (hX:X.Ok) (hs:X.small=true):VP Tryz.prog (gN m) 11 [X.av] (strs (FX.needs X)):=by
 obtain ⟨h1,_,h2,h3⟩:=qm hs
 have:=Sa y7 X hX (fun _=>by omega) (MW m X hX hs) (fun s hm=>Wp m s (h2 s hm)) (Sq m) (Ja m) Dp Lib.compact Fp Br (by simp [Dp];rfl)
   (fun l id p hl hid=>Tryz.Rt (gN m) l hl hid) (fun l id p hl hid=>Tryz.IU (gN m) l hl hid)
 have e:(if X.valid=true then Lib.compact (Dp (X.inputs.map fun s=>(Lib.cut s [47]).1)) else [])=FX.needs X:=by
   unfold FX.needs
   split
   . rename_i hv
     rw [Sp hv];exact OH _
   . rfl
 rwa [e] at this
theorem U4 (X:FX) (hX:X.Ok) (hs:X.small=true):VP Tryz.prog (gN m) 12 [X.av] (strs (FX.needs X)):=by
 obtain ⟨h1,_,h2,h3⟩:=qm hs
 exact OG rW X hX (fun _=>by omega) (Cb m X hX hs) (fun s hm=>Ft m s (h2 s hm)) (fun l s hl=>R9 nk l hl s)
theorem Fu {X:FX} (hs:X.small=true):(FX.needs X).length<=1000:=by
 obtain ⟨h1,_,_,_⟩:=qm hs
 unfold FX.needs
 split
 . have:=I5 (X.inputs.map fun s=>(eM s).getD []) X.inputs.length
   rw [List.take_of_length_le (by rw [List.length_map];exact Nat.le_refl _)] at this
   omega
 . simp
end
end Go.Proofs.YtcomlgfjnjpebaaGreatDoor
end

section
set_option maxRecDepth 100000
namespace Go.Proofs.YtcomlgfjnjpebaaGreatDoor
open Go.VL Go.Proofs
theorem wz:Has Tryz.prog 120 (jU 135):=⟨_,Tryz.func120,by kernel_rfl⟩
theorem zA:Has Tryz.prog 98 (oW 120 97 98):=⟨_,Tryz.func98,by kernel_rfl⟩
theorem sc:Has Tryz.prog 69 (jV 99 69):=⟨_,Tryz.func69,by kernel_rfl⟩
theorem nE:Has Tryz.prog 135 (dY):=⟨_,Tryz.func135,by kernel_rfl⟩
theorem nF:Has Tryz.prog 96 (dZ):=⟨_,Tryz.func96,by kernel_rfl⟩
theorem cU:Has Tryz.prog 97 (aP):=⟨_,Tryz.func97,by kernel_rfl⟩
theorem AO:Has Tryz.prog 68 (pR 96 97 98):=⟨_,Tryz.func68,by kernel_rfl⟩
theorem vt:Has Tryz.prog 66 (lT 95 65 66):=⟨_,Tryz.func66,by kernel_rfl⟩
theorem n5:Has Tryz.prog 42 (eA 69):=⟨_,Tryz.func42,by kernel_rfl⟩
theorem sZ:Has Tryz.prog 19 (im 42):=⟨_,Tryz.func19,by kernel_rfl⟩
theorem s5:Has Tryz.prog 23 (kz 33 35 12):=⟨_,Tryz.func23,by kernel_rfl⟩
theorem pC:Has Tryz.prog 100 (ir):=⟨_,Tryz.func100,by kernel_rfl⟩
theorem uA:Has Tryz.prog 101 (kY):=⟨_,Tryz.func101,by kernel_rfl⟩
theorem dM:Has Tryz.prog 70 (bA 33 100 23 101):=⟨_,Tryz.func70,by kernel_rfl⟩
theorem vu:Has Tryz.prog 43 (lU 20 70 19):=⟨_,Tryz.func43,by kernel_rfl⟩
theorem uB:Has Tryz.prog 21 (iD):=⟨_,Tryz.func21,by kernel_rfl⟩
theorem nx:Has Tryz.prog 20 (iE):=⟨_,Tryz.func20,by kernel_rfl⟩
theorem se:Has Tryz.prog 24 (eR):=⟨_,Tryz.func24,by kernel_rfl⟩
theorem si:Has Tryz.prog 25 (gE):=⟨_,Tryz.func25,by kernel_rfl⟩
theorem sj:Has Tryz.prog 44 (jX 29 36 38 37 39 40 41):=⟨_,Tryz.func44,by kernel_rfl⟩
theorem pg:Has Tryz.prog 45 (hJ 36 38 37 41):=⟨_,Tryz.func45,by kernel_rfl⟩
theorem sk:Has Tryz.prog 26 (gG 36 38 37 47 46 40 41):=⟨_,Tryz.func26,by kernel_rfl⟩
theorem qn:Has Tryz.prog 27 (fP 36 38 37 47 40 41):=⟨_,Tryz.func27,by kernel_rfl⟩
theorem j6:Has Tryz.prog 46 (bP 72):=⟨_,Tryz.func46,by kernel_rfl⟩
theorem eY:Has Tryz.prog 47 (bx):=⟨_,Tryz.func47,by kernel_rfl⟩
theorem sn:Has Tryz.prog 17 (jY 10):=⟨_,Tryz.func17,by kernel_rfl⟩
theorem s6:Has Tryz.prog 18 (nI 13 21 22):=⟨_,Tryz.func18,by kernel_rfl⟩
theorem qo:Has Tryz.prog 22 (fQ 43 14 44 45 26 27 24 25):=⟨_,Tryz.func22,by kernel_rfl⟩
theorem nG:Has Tryz.prog 6 (fW 9 17 13 21 22 16 23):=⟨_,Tryz.func6,by kernel_rfl⟩
end Go.Proofs.YtcomlgfjnjpebaaGreatDoor
end

section
set_option linter.unusedVariables false
set_option linter.unusedVariables false
namespace Go.VL
noncomputable def gY {α : Type} (x y : α):Bool := @decide (x=y) (Classical.propDecidable _)
theorem bY {α : Type} {x y : α} (h:x=y):gY x y=true := @decide_eq_true _ (Classical.propDecidable _) h
theorem bg {α : Type} {x y : α} (h:x≠y):gY x y=false := @decide_eq_false _ (Classical.propDecidable _) h
theorem Dz (x y:List UInt8):(!(x==y)) = !gY x y:=by
 by_cases h:x=y
 . rw [bY h];simp [h]
 . rw [bg h];simp [h]
theorem wA (x y:Nat):decide ((x:Int)≠(y:Int)) = !gY x y:=by
 by_cases h:x=y
 . rw [bY h];exact ak (by omega)
 . rw [bg h];exact ao (by omega)
theorem Sr (x y:Int):decide (x≠y) = !gY x y:=by
 by_cases h:x=y
 . rw [bY h];exact ak (by omega)
 . rw [bg h];exact ao h
theorem eq_int (x y:Int):decide (x=y)=gY x y:=by
 by_cases h:x=y
 . rw [bY h];exact ao h
 . rw [bg h];exact ak h
theorem Ss (x y:List UInt8):(x==y)=gY x y:=by
 by_cases h:x=y
 . rw [bY h];simp [h]
 . rw [bg h];simp [h]
section
variable {P:Program} {G:Nat->Option (List AV)}
theorem n7 {f:FuncId} (h:Has P f dZ) (l m:List (List UInt8)) (hl:l.length<=9223372036854775807) (hm:m.length<=9223372036854775807):VP P G f [.sl 1 (l.map AV.str), .sl 1 (m.map AV.str)] (.bool (gY l m)):=by
 by_cases hlen:l.length=m.length
 case neg =>
   have d0:decide ((l.length:Int)≠(m.length:Int))=true:=ao (by omega)
   rw [bg (fun e=>hlen (by rw [e]))]
   refine VP.has h ?_
   simp only [dZ,SS,Nat.reduceAdd,List.length_map,d0]
   exact ag▸ab rfl (af.bool _)
 have d0:decide ((l.length:Int)≠(m.length:Int))=false:=ak (by omega)
 refine VP.has h ?_
 simp only [dZ,SS,Nat.reduceAdd,List.length_map,d0,aD]
 refine VW.bL (α := Nat × Nat) (fun x=>⟨[.sl 1 (l.map AV.str), .sl 1 (m.map AV.str), .top, .top, .top, .top, .top, .top, .top, .top, .top, .top, .int .i64 (l.length:Int), .int .i64 (x.1:Int)]++List.replicate 12 .top,fun _=>none,x.2⟩)
   (fun x=>x.1<=l.length/\l.take x.1=m.take x.1) (fun x=>l.length-x.1) (0,1000) ?_ ⟨Nat.zero_le _,by simp⟩ ?_
 . exact Wk.slots (by simp [Fg,List.replicate]) (by omega)
 rintro ⟨i,nn⟩ ⟨hi,cz⟩
 simp only [] at hi cz
 by_cases hlt:i<l.length
 . obtain ⟨x,hx⟩:∃ x,l[i]? = some x:=⟨_,List.getElem?_eq_getElem hlt⟩
   obtain ⟨y,hy⟩:∃ y,m[i]? = some y:=⟨_,List.getElem?_eq_getElem (by omega)⟩
   have dd:decide ((i:Int)<(l.length:Int))=true:=ao (by omega)
   have hgx:(l.map AV.str)[i]? = some (AV.str x):=by rw [List.getElem?_map,hx];rfl
   have El:(m.map AV.str)[i]? = some (AV.str y):=by rw [List.getElem?_map,hy];rfl
   have K1:part false (AV.str x).cells 0 1=some (AV.str x):=rfl
   have hpy:part false (AV.str y).cells 0 1=some (AV.str y):=rfl
   have mN:br 1 (.sl 1 (l.map AV.str)) (.int .i64 (i:Int))=some (.ep (AV.str x).cells 0):=aQ rfl hgx
   have s7:br 1 (.sl 1 (m.map AV.str)) (.int .i64 (i:Int))=some (.ep (AV.str y).cells 0):=aQ rfl El
   by_cases pJ:x=y
   . have hne:(!(x==y))=false:=by rw [Dz,bY pJ];rfl
     simp only [SS,DD,Nat.reduceAdd,List.replicate,dd,mN,s7,az,K1,hpy,hne,aq i (by omega)]
     refine ⟨by simp [ar,apart],(i+1,nn+1000),⟨by simp only [];omega, ?_⟩,by simp only [];omega,Wk.slots (by simp [Fg]) (by omega)⟩
     simp only []
     rw [List.take_add_one,List.take_add_one,hx,hy,cz,pJ]
   . have hne:(!(x==y))=true:=by rw [Dz,bg pJ];rfl
     rw [bg (fun e=>pJ (by rw [e,hy] at hx;exact (Option.some.inj hx).symm))]
     simp only [SS,DD,Nat.reduceAdd,List.replicate,dd,mN,s7,az,K1,hpy,hne]
     refine ⟨by simp [ar,apart], ?_⟩
     exact ag▸ab rfl (af.bool _)
 . have dd:decide ((i:Int)<(l.length:Int))=false:=ak (by omega)
   have jc:i=l.length:=by omega
   have Ew:i=m.length:=by omega
   rw [bY (by rw [jc,List.take_length] at cz;rw [cz,hlen,List.take_length])]
   simp only [SS,List.replicate,dd]
   exact ag▸ab rfl (af.bool _)
theorem n8 {f:FuncId} (h:Has P f dY) (l m:List (Nat)) (hl:l.length<=9223372036854775807) (hm:m.length<=9223372036854775807):VP P G f [.sl 1 (l.map (fun n:Nat=>AV.int .u32 (n:Int))), .sl 1 (m.map (fun n:Nat=>AV.int .u32 (n:Int)))] (.bool (gY l m)):=by
 by_cases hlen:l.length=m.length
 case neg =>
   have d0:decide ((l.length:Int)≠(m.length:Int))=true:=ao (by omega)
   rw [bg (fun e=>hlen (by rw [e]))]
   refine VP.has h ?_
   simp only [dY,SS,Nat.reduceAdd,List.length_map,d0]
   exact ag▸ab rfl (af.bool _)
 have d0:decide ((l.length:Int)≠(m.length:Int))=false:=ak (by omega)
 refine VP.has h ?_
 simp only [dY,SS,Nat.reduceAdd,List.length_map,d0,aD]
 refine VW.bL (α := Nat × Nat) (fun x=>⟨[.sl 1 (l.map (fun n:Nat=>AV.int .u32 (n:Int))), .sl 1 (m.map (fun n:Nat=>AV.int .u32 (n:Int))), .top, .top, .top, .top, .top, .top, .top, .top, .top, .top, .int .i64 (l.length:Int), .int .i64 (x.1:Int)]++List.replicate 12 .top,fun _=>none,x.2⟩)
   (fun x=>x.1<=l.length/\l.take x.1=m.take x.1) (fun x=>l.length-x.1) (0,1000) ?_ ⟨Nat.zero_le _,by simp⟩ ?_
 . exact Wk.slots (by simp [Fg,List.replicate]) (by omega)
 rintro ⟨i,nn⟩ ⟨hi,cz⟩
 simp only [] at hi cz
 by_cases hlt:i<l.length
 . obtain ⟨x,hx⟩:∃ x,l[i]? = some x:=⟨_,List.getElem?_eq_getElem hlt⟩
   obtain ⟨y,hy⟩:∃ y,m[i]? = some y:=⟨_,List.getElem?_eq_getElem (by omega)⟩
   have dd:decide ((i:Int)<(l.length:Int))=true:=ao (by omega)
   have hgx:(l.map (fun n:Nat=>AV.int .u32 (n:Int)))[i]? = some ((fun n:Nat=>AV.int .u32 (n:Int)) x):=by rw [List.getElem?_map,hx];rfl
   have El:(m.map (fun n:Nat=>AV.int .u32 (n:Int)))[i]? = some ((fun n:Nat=>AV.int .u32 (n:Int)) y):=by rw [List.getElem?_map,hy];rfl
   have K1:part false ((fun n:Nat=>AV.int .u32 (n:Int)) x).cells 0 1=some ((fun n:Nat=>AV.int .u32 (n:Int)) x):=rfl
   have hpy:part false ((fun n:Nat=>AV.int .u32 (n:Int)) y).cells 0 1=some ((fun n:Nat=>AV.int .u32 (n:Int)) y):=rfl
   have mN:br 1 (.sl 1 (l.map (fun n:Nat=>AV.int .u32 (n:Int)))) (.int .i64 (i:Int))=some (.ep ((fun n:Nat=>AV.int .u32 (n:Int)) x).cells 0):=aQ rfl hgx
   have s7:br 1 (.sl 1 (m.map (fun n:Nat=>AV.int .u32 (n:Int)))) (.int .i64 (i:Int))=some (.ep ((fun n:Nat=>AV.int .u32 (n:Int)) y).cells 0):=aQ rfl El
   by_cases pJ:x=y
   . have hne:decide ((x:Int)≠(y:Int))=false:=by rw [wA,bY pJ];rfl
     simp only [SS,DD,Nat.reduceAdd,List.replicate,dd,mN,s7,az,K1,hpy,hne,aq i (by omega)]
     refine ⟨by simp [ar,apart],(i+1,nn+1000),⟨by simp only [];omega, ?_⟩,by simp only [];omega,Wk.slots (by simp [Fg]) (by omega)⟩
     simp only []
     rw [List.take_add_one,List.take_add_one,hx,hy,cz,pJ]
   . have hne:decide ((x:Int)≠(y:Int))=true:=by rw [wA,bg pJ];rfl
     rw [bg (fun e=>pJ (by rw [e,hy] at hx;exact (Option.some.inj hx).symm))]
     simp only [SS,DD,Nat.reduceAdd,List.replicate,dd,mN,s7,az,K1,hpy,hne]
     refine ⟨by simp [ar,apart], ?_⟩
     exact ag▸ab rfl (af.bool _)
 . have dd:decide ((i:Int)<(l.length:Int))=false:=ak (by omega)
   have jc:i=l.length:=by omega
   have Ew:i=m.length:=by omega
   rw [bY (by rw [jc,List.take_length] at cz;rw [cz,hlen,List.take_length])]
   simp only [SS,List.replicate,dd]
   exact ag▸ab rfl (af.bool _)
theorem q8 {σ : aa} {id:Id} {k kk:Nat} {z v:AV} (h : σ id=some ⟨[z],kk,false⟩) (hz:z.size=k) (hv:v.cells.length=k) (h1:v.cells.all AV.one=true) (hu:z.upd 0 v.cells=v) :
   eK σ k (.ref id 0 0) v=some { val := .tup [],rd:=[id],up:=[(id,some ⟨[v],kk,false⟩)] }:=by
 rw [cA (n:=k) (v:=v) h rfl (by rw [hv]) (by rw [hz];omega) h1]
 simp [hu]
theorem MX (a b:Bool):(a==b)=gY a b:=by
 by_cases h:a=b
 . rw [bY h];simp [h]
 . rw [bg h];simp [h]
theorem Jb (b:Bool) (ws:List Nat):part false (IR b ws).cells 0 1=some (.bool b):=rfl
theorem Fv (b:Bool) (ws:List Nat):part false (IR b ws).cells 1 1=some (.sl 1 (us ws)):=rfl
theorem Jc {f fe:FuncId} (h:Has P f (jU fe)) (b b':Bool) (ws MY:List Nat) (he:VP P G fe [.sl 1 (us ws), .sl 1 (us MY)] (.bool (gY ws MY))) :
   VP P G f [IR b ws,IR b' MY] (.bool (gY (b,ws) (b',MY))):=by
 have eD:([0]:List Nat)≠[1]:=by decide
 by_cases hb:b=b'
 . have d1:(b==b')=true:=by simp [hb]
   have e:gY (b,ws) (b',MY)=gY ws MY:=by
     by_cases hw:ws=MY
     . rw [bY hw,bY (by rw [hb,hw])]
     . rw [bg hw,bg (fun q=>hw (Prod.mk.inj q).2)]
   rw [e]
   refine VP.has h ?_
   simp only [jU,SS,Nat.reduceAdd,x9,ai eD,ae,Jb,Fv,d1]
   refine aj he (by simp [kO]) ?_
   simp only [SS,Nat.reduceAdd]
   exact ag▸ab rfl (af.bool _)
 . have d1:(b==b')=false:=by simp [hb]
   rw [bg (fun q=>hb (Prod.mk.inj q).1)]
   refine VP.has h ?_
   simp only [jU,SS,Nat.reduceAdd,x9,ai eD,ae,Jb,d1]
   exact ag▸ab rfl (af.bool _)
theorem cW {f fe:FuncId} (h:Has P f aP) {α : Type} (φ : α -> AV) (hs:∀ x,(φ x).size=7) (hp:∀ x,af (φ x)) (h1:∀ x,(φ x).cells.all AV.one=true) (BW:∀ x,part true (φ x).cells 0 7=some (φ x)) (hu:∀ x,(AV.agg [.int .i64 0, .bool false, .nils, .bool false, .nils, .str [], .nils]).upd 0 (φ x).cells = φ x)
   (l m:List α) (hl:l.length<=9223372036854775807) (hm:m.length<=9223372036854775807) (he:∀ x∈l,∀ y∈m,VP P G fe [φ x, φ y] (.bool (gY x y))):VP P G f [.sl 7 (l.map φ), .sl 7 (m.map φ), .fn (.func fe) [] []] (.bool (gY l m)):=by
 by_cases hlen:l.length=m.length
 case neg =>
   have d0:decide ((l.length:Int)≠(m.length:Int))=true:=ao (by omega)
   rw [bg (fun e=>hlen (by rw [e]))]
   refine VP.has h ?_
   simp only [aP,SS,Nat.reduceAdd,List.length_map,d0]
   exact ag▸ab rfl (af.bool _)
 have d0:decide ((l.length:Int)≠(m.length:Int))=false:=ak (by omega)
 have z1:((AV.agg [.int .i64 0, .bool false, .nils, .bool false, .nils, .str [], .nils]).cells.all AV.one=true)=True:=by simp [AV.cells,AV.one]
 refine VP.has h ?_
 simp only [aP,SS,Nat.reduceAdd,List.length_map,d0,aD]
 refine VW.bL (α := Nat × Nat) (fun x=>⟨[.sl 7 (l.map φ), .sl 7 (m.map φ), .fn (.func fe) [] [], .top, .top, .top, .top, .top, .top, .top, .top, .top, .top, .top, .top, .sl 7 (l.map φ), .int .i64 (l.length:Int), .int .i64 (x.1:Int)]++List.replicate 14 .top,fun _=>none,x.2⟩)
   (fun x=>x.1<=l.length/\l.take x.1=m.take x.1) (fun x=>l.length-x.1) (0,1000) ?_ ⟨Nat.zero_le _,by simp⟩ ?_
 . exact Wk.slots (by simp [Fg,List.replicate]) (by omega)
 rintro ⟨i,nn⟩ ⟨hi,cz⟩
 simp only [] at hi cz
 by_cases hlt:i<l.length
 . obtain ⟨x,hx⟩:∃ x,l[i]? = some x:=⟨_,List.getElem?_eq_getElem hlt⟩
   obtain ⟨y,hy⟩:∃ y,m[i]? = some y:=⟨_,List.getElem?_eq_getElem (by omega)⟩
   have dd:decide ((i:Int)<(l.length:Int))=true:=ao (by omega)
   have hgx:(l.map φ)[i]? = some (φ x):=by rw [List.getElem?_map,hx];rfl
   have El:(m.map φ)[i]? = some (φ y):=by rw [List.getElem?_map,hy];rfl
   have mN:br 7 (.sl 7 (l.map φ)) (.int .i64 (i:Int))=some (.ep (φ x).cells 0):=aQ rfl hgx
   have s7:br 7 (.sl 7 (m.map φ)) (.int .i64 (i:Int))=some (.ep (φ y).cells 0):=aQ rfl El
   have Gu:=he x (List.mem_of_getElem? hx) y (List.mem_of_getElem? hy)
   simp only [SS,Nat.reduceAdd,List.replicate,dd,mN,az,BW,z1]
   rw [q8 (z:=(AV.agg [.int .i64 0, .bool false, .nils, .bool false, .nils, .str [], .nils])) (k:=7) (kk:=(AV.agg [.int .i64 0, .bool false, .nils, .bool false, .nils, .str [], .nils]).size) (by simp [aa.put]) rfl (hs x) (h1 x) (hu x)]
   simp only [SS,Nat.reduceAdd,s7,az,BW,z1]
   rw [q8 (z:=(AV.agg [.int .i64 0, .bool false, .nils, .bool false, .nils, .str [], .nils])) (k:=7) (kk:=(AV.agg [.int .i64 0, .bool false, .nils, .bool false, .nils, .str [], .nils]).size) (by simp [aa.put]) rfl (hs y) (h1 y) (hu y)]
   have kne:([nn+1+3]:List Nat)≠[nn+1+6+4]:=by intro e;simp at e
   simp only [SS,Nat.reduceAdd,ai kne,ae,BW]
   refine aj Gu (by simp [hp]) ?_
   by_cases pJ:x=y
   . rw [bY pJ]
     simp only [SS,Nat.reduceAdd,aq i (by omega)]
     refine ⟨(i+1,nn+1000),⟨by simp only [];omega, ?_⟩,by simp only [];omega,Wk.forget (by simp [Fg]) (fun j => .inl rfl) (by omega)⟩
     simp only []
     rw [List.take_add_one,List.take_add_one,hx,hy,cz,pJ]
   . rw [bg pJ,bg (fun e=>pJ (by rw [e,hy] at hx;exact (Option.some.inj hx).symm))]
     simp only [SS,Nat.reduceAdd]
     exact ag▸ab rfl (af.bool _)
 . have dd:decide ((i:Int)<(l.length:Int))=false:=ak (by omega)
   have jc:i=l.length:=by omega
   rw [bY (by rw [jc,List.take_length] at cz;rw [cz,hlen,List.take_length])]
   simp only [SS,List.replicate,dd]
   exact ag▸ab rfl (af.bool _)
theorem eh {f fe:FuncId} (h:Has P f aG) {α : Type} (φ : α -> AV) (hs:∀ x,(φ x).size=5) (hp:∀ x,af (φ x)) (h1:∀ x,(φ x).cells.all AV.one=true) (BW:∀ x,part true (φ x).cells 0 5=some (φ x)) (hu:∀ x,(AV.agg [(.str []),(.int .i64 (0)), .nils, .nils,(.bool false)]).upd 0 (φ x).cells = φ x)
   (l m:List α) (hl:l.length<=9223372036854775807) (hm:m.length<=9223372036854775807) (he:∀ x∈l,∀ y∈m,VP P G fe [φ x, φ y] (.bool (gY x y))):VP P G f [.sl 5 (l.map φ), .sl 5 (m.map φ), .fn (.func fe) [] []] (.bool (gY l m)):=by
 by_cases hlen:l.length=m.length
 case neg =>
   have d0:decide ((l.length:Int)≠(m.length:Int))=true:=ao (by omega)
   rw [bg (fun e=>hlen (by rw [e]))]
   refine VP.has h ?_
   simp only [aG,SS,Nat.reduceAdd,List.length_map,d0]
   exact ag▸ab rfl (af.bool _)
 have d0:decide ((l.length:Int)≠(m.length:Int))=false:=ak (by omega)
 have z1:((AV.agg [(.str []),(.int .i64 (0)), .nils, .nils,(.bool false)]).cells.all AV.one=true)=True:=by simp [AV.cells,AV.one]
 refine VP.has h ?_
 simp only [aG,SS,Nat.reduceAdd,List.length_map,d0,aD]
 refine VW.bL (α := Nat × Nat) (fun x=>⟨[.sl 5 (l.map φ), .sl 5 (m.map φ), .fn (.func fe) [] [], .top, .top, .top, .top, .top, .top, .top, .top, .top, .top, .top, .top, .sl 5 (l.map φ), .int .i64 (l.length:Int), .int .i64 (x.1:Int)]++List.replicate 14 .top,fun _=>none,x.2⟩)
   (fun x=>x.1<=l.length/\l.take x.1=m.take x.1) (fun x=>l.length-x.1) (0,1000) ?_ ⟨Nat.zero_le _,by simp⟩ ?_
 . exact Wk.slots (by simp [Fg,List.replicate]) (by omega)
 rintro ⟨i,nn⟩ ⟨hi,cz⟩
 simp only [] at hi cz
 by_cases hlt:i<l.length
 . obtain ⟨x,hx⟩:∃ x,l[i]? = some x:=⟨_,List.getElem?_eq_getElem hlt⟩
   obtain ⟨y,hy⟩:∃ y,m[i]? = some y:=⟨_,List.getElem?_eq_getElem (by omega)⟩
   have dd:decide ((i:Int)<(l.length:Int))=true:=ao (by omega)
   have hgx:(l.map φ)[i]? = some (φ x):=by rw [List.getElem?_map,hx];rfl
   have El:(m.map φ)[i]? = some (φ y):=by rw [List.getElem?_map,hy];rfl
   have mN:br 5 (.sl 5 (l.map φ)) (.int .i64 (i:Int))=some (.ep (φ x).cells 0):=aQ rfl hgx
   have s7:br 5 (.sl 5 (m.map φ)) (.int .i64 (i:Int))=some (.ep (φ y).cells 0):=aQ rfl El
   have Gu:=he x (List.mem_of_getElem? hx) y (List.mem_of_getElem? hy)
   simp only [SS,Nat.reduceAdd,List.replicate,dd,mN,az,BW,z1]
   rw [q8 (z:=(AV.agg [(.str []),(.int .i64 (0)), .nils, .nils,(.bool false)])) (k:=5) (kk:=(AV.agg [(.str []),(.int .i64 (0)), .nils, .nils,(.bool false)]).size) (by simp [aa.put]) rfl (hs x) (h1 x) (hu x)]
   simp only [SS,Nat.reduceAdd,s7,az,BW,z1]
   rw [q8 (z:=(AV.agg [(.str []),(.int .i64 (0)), .nils, .nils,(.bool false)])) (k:=5) (kk:=(AV.agg [(.str []),(.int .i64 (0)), .nils, .nils,(.bool false)]).size) (by simp [aa.put]) rfl (hs y) (h1 y) (hu y)]
   have kne:([nn+1+3]:List Nat)≠[nn+1+6+4]:=by intro e;simp at e
   simp only [SS,Nat.reduceAdd,ai kne,ae,BW]
   refine aj Gu (by simp [hp]) ?_
   by_cases pJ:x=y
   . rw [bY pJ]
     simp only [SS,Nat.reduceAdd,aq i (by omega)]
     refine ⟨(i+1,nn+1000),⟨by simp only [];omega, ?_⟩,by simp only [];omega,Wk.forget (by simp [Fg]) (fun j => .inl rfl) (by omega)⟩
     simp only []
     rw [List.take_add_one,List.take_add_one,hx,hy,cz,pJ]
   . rw [bg pJ,bg (fun e=>pJ (by rw [e,hy] at hx;exact (Option.some.inj hx).symm))]
     simp only [SS,Nat.reduceAdd]
     exact ag▸ab rfl (af.bool _)
 . have dd:decide ((i:Int)<(l.length:Int))=false:=ak (by omega)
   have jc:i=l.length:=by omega
   rw [bY (by rw [jc,List.take_length] at cz;rw [cz,hlen,List.take_length])]
   simp only [SS,List.replicate,dd]
   exact ag▸ab rfl (af.bool _)
end
end Go.VL
end
