/- For the claim of FeaturePattern: parts CQE, CQF, CQG, CQH, CQI, CQJ, CQK, CQL, CQM, VL38, VL39. -/
import Derived.Test.YtchdghnpcekegaaGreatDoorC10
import Derived.Test.YtchdghnpcekegaaGreatDoorC05
set_option linter.unusedSimpArgs false
set_option linter.unusedVariables false
section
set_option linter.unusedSimpArgs false
set_option linter.unusedVariables false
set_option maxRecDepth 100000
namespace Go.VL
open Go.Lib
section
variable {P:Program} {G:Nat->Option (List AV)}
theorem aeg {s:List UInt8}:part false [AV.str s] 0 1=some (.str s):=rfl
theorem X7 {s:List UInt8}:((AV.str s).cells.all AV.one=true)=True:=by simp [AV.cells,AV.one]
theorem ahv {f:FuncId} {c:AV} (h:aa c):aa (.fn (.func f) [] [c]):=aa.fn (by simp) (by simpa using h)
theorem X8 {s:List UInt8}:aa (.ep [.str s] 0):=aa.ep (by simp [aa.str])
theorem Om {f:FuncId} (h:Has P f ow) (x:NX) (nm:List UInt8):VP P G f [x.av, .ep [.str nm] 0] (.bool (x.name==nm)):=by
 refine VP.has h ?_
 simp only [ow]
 repeat (first
   | simp (disch:=first | decide | exact rfl) only [SS,DD,Nat.reduceAdd,reduceIte,af,ai,az,ZZ,CC,aW,g0,g1,g2,decide_true,decide_false,kA,AA,aN,aeg]
   | with_reducible refine ao (by assumption) (by simp [ag,aq,aj,aa.int,aa.bool,aa.str,aA,ar,aw,aB,aE,aF,aC,aH,aQ,aL]) ?_
   | with_reducible refine ay (by assumption) (by simp [ag,aq,aj,aa.int,aa.bool,aa.str,aA,ar,aw,aB,aE,aF,aC,aH,aQ,aL]) ?_
   | with_reducible refine And.intro (a:=ab _ _) (by simp [ab,apart]) ?_
   | with_reducible refine VW.aI 3 (VW.of ?_)
   | with_reducible refine b9.next _ (VW.of ?_)
   | rw [au (by exact rfl) (by exact rfl) (by exact rfl) (by exact rfl) (by exact rfl)]
   | rw [bW (by exact rfl) (by exact rfl) (by exact rfl) (by exact rfl)]
   | rw [bX (by exact rfl) (by exact rfl) (by exact rfl) (by exact rfl) (by exact rfl) (by exact rfl)]
   | fail)
 exact ax▸ae rfl (aa.bool _)
theorem iJ {f fw:FuncId} (h:Has P f dJ) {a c:List AV} {l:List NX} {p:NX->Bool} (hw:∀ e∈l,VP P G fw (a++[e.av]++c) (.bool (p e)))
   (ha:∀ x∈a,aa x) (hc:∀ x∈c,aa x) (hl:l.length<=1000000):VP P G f [dT l, .fn (.func fw) a c] (.int .i64 (Af (l.findIdx? p))):=by
 refine VP.has h ?_
 simp only [dJ,SS,Nat.reduceAdd,reduceIte,az]
 refine VW.scan l p (fun i=>[dT l, .fn (.func fw) a c, .top, .top, .top, .top, .top, .int .i64 l.length, .int .i64 i]++List.replicate 10 .top) (fun _=>none) 1000 (Wk.slots (by simp [Fg,List.replicate]) (by omega)) (fun i m x hx hlt hn d => ?_) (fun m hn d => ?_)
 . have hm:=List.mem_of_getElem? hx
   have hv:=hw x hm
   have ZG:∀ y∈a++[x.av]++c,aa y:=by
     intro y hy
     simp only [List.mem_append,List.mem_singleton] at hy
     rcases hy with (hy | rfl) | hy
     . exact ha y hy
     . exact aF _
     . exact hc y hy
   cases hb:p x<;>rw [hb] at hv<;>replace hv:=fun _:Unit=>hv
   . skip
     repeat (first
       | simp (disch:=first | decide | exact rfl) only [SS,DD,Nat.reduceAdd,reduceIte,af,ai,az,ZZ,CC,aW,g0,g1,g2,decide_true,decide_false,d,oR hx,aN,U3,aP i (by omega)]
       | with_reducible refine ao (by assumption) (by simp [ag,aq,aj,aa.int,aa.bool,aa.str,aA,ar,aw,aB,aE,aF,aC,aH,aQ,aL]) ?_
       | with_reducible refine ay (by assumption) (by simp [ag,aq,aj,aa.int,aa.bool,aa.str,aA,ar,aw,aB,aE,aF,aC,aH,aQ,aL]) ?_
       | with_reducible refine And.intro (a:=ab _ _) (by simp [ab,apart]) ?_
       | with_reducible refine VW.aI 3 (VW.of ?_)
       | with_reducible refine b9.next _ (VW.of ?_)
       | rw [au (by exact rfl) (by exact rfl) (by exact rfl) (by exact rfl) (by exact rfl)]
       | rw [bW (by exact rfl) (by exact rfl) (by exact rfl) (by exact rfl)]
       | rw [bX (by exact rfl) (by exact rfl) (by exact rfl) (by exact rfl) (by exact rfl) (by exact rfl)]
       | refine ao (hv ()) ZG ?_
       | fail)
     exact ⟨(i+1,_),⟨hlt,hn.succ hx hb⟩,by simp only [];omega,Wk.slots (by simp [Fg,List.replicate]) (Nat.le_refl _)⟩
   . skip
     repeat (first
       | simp (disch:=first | decide | exact rfl) only [SS,DD,Nat.reduceAdd,reduceIte,af,ai,az,ZZ,CC,aW,g0,g1,g2,decide_true,decide_false,d,oR hx,aN,U3]
       | with_reducible refine ao (by assumption) (by simp [ag,aq,aj,aa.int,aa.bool,aa.str,aA,ar,aw,aB,aE,aF,aC,aH,aQ,aL]) ?_
       | with_reducible refine ay (by assumption) (by simp [ag,aq,aj,aa.int,aa.bool,aa.str,aA,ar,aw,aB,aE,aF,aC,aH,aQ,aL]) ?_
       | with_reducible refine And.intro (a:=ab _ _) (by simp [ab,apart]) ?_
       | with_reducible refine VW.aI 3 (VW.of ?_)
       | with_reducible refine b9.next _ (VW.of ?_)
       | rw [au (by exact rfl) (by exact rfl) (by exact rfl) (by exact rfl) (by exact rfl)]
       | rw [bW (by exact rfl) (by exact rfl) (by exact rfl) (by exact rfl)]
       | rw [bX (by exact rfl) (by exact rfl) (by exact rfl) (by exact rfl) (by exact rfl) (by exact rfl)]
       | refine ao (hv ()) ZG ?_
       | fail)
     rw [qN hx hb hn]
     exact ax▸ae rfl (aa.int _ _)
 . skip
   repeat (first
     | simp (disch:=first | decide | exact rfl) only [SS,DD,Nat.reduceAdd,reduceIte,af,ai,az,ZZ,CC,aW,g0,g1,g2,decide_true,decide_false,d]
     | with_reducible refine ao (by assumption) (by simp [ag,aq,aj,aa.int,aa.bool,aa.str,aA,ar,aw,aB,aE,aF,aC,aH,aQ,aL]) ?_
     | with_reducible refine ay (by assumption) (by simp [ag,aq,aj,aa.int,aa.bool,aa.str,aA,ar,aw,aB,aE,aF,aC,aH,aQ,aL]) ?_
     | with_reducible refine And.intro (a:=ab _ _) (by simp [ab,apart]) ?_
     | with_reducible refine VW.aI 3 (VW.of ?_)
     | with_reducible refine b9.next _ (VW.of ?_)
     | rw [au (by exact rfl) (by exact rfl) (by exact rfl) (by exact rfl) (by exact rfl)]
     | rw [bW (by exact rfl) (by exact rfl) (by exact rfl) (by exact rfl)]
     | rw [bX (by exact rfl) (by exact rfl) (by exact rfl) (by exact rfl) (by exact rfl) (by exact rfl)]
     | fail)
   rw [qM (fun j e hj=>hn j e (List.getElem?_eq_some_iff.1 hj).1 hj)]
   exact ax▸ae rfl (aa.int _ _)
theorem kH {f fi fw:FuncId} (h:Has P f (dt fi)) {a c:List AV} {l:List NX} {p:NX->Bool} (hi:VP P G fi [dT l, .fn (.func fw) a c] (.int .i64 (Af (l.findIdx? p)))) (Ic:aa (.fn (.func fw) a c)):VP P G f [dT l, .fn (.func fw) a c] (.bool (l.any p)):=by
 have e:decide (0<=Af (l.findIdx? p))=l.any p:=by
   rw [<- List.findIdx?_isSome]
   cases l.findIdx? p<;>simp [Af]
 replace hi:=fun _:Unit=>hi
 refine VP.has h ?_
 simp only [dt]
 repeat (first
   | simp (disch:=first | decide | exact rfl) only [SS,DD,Nat.reduceAdd,reduceIte,af,ai,az,ZZ,CC,aW,g0,g1,g2,decide_true,decide_false,e]
   | with_reducible refine ao (by assumption) (by simp [ag,aq,aj,aa.int,aa.bool,aa.str,aA,ar,aw,aB,aE,aF,aC,aH,aQ,aL]) ?_
   | with_reducible refine ay (by assumption) (by simp [ag,aq,aj,aa.int,aa.bool,aa.str,aA,ar,aw,aB,aE,aF,aC,aH,aQ,aL]) ?_
   | with_reducible refine And.intro (a:=ab _ _) (by simp [ab,apart]) ?_
   | with_reducible refine VW.aI 3 (VW.of ?_)
   | with_reducible refine b9.next _ (VW.of ?_)
   | rw [au (by exact rfl) (by exact rfl) (by exact rfl) (by exact rfl) (by exact rfl)]
   | rw [bW (by exact rfl) (by exact rfl) (by exact rfl) (by exact rfl)]
   | rw [bX (by exact rfl) (by exact rfl) (by exact rfl) (by exact rfl) (by exact rfl) (by exact rfl)]
   | refine ao (hi ()) (by intro x hx;simp at hx;rcases hx with rfl | rfl;exact aC l;exact Ic) ?_
   | fail)
 exact ax▸ae rfl (aa.bool _)
theorem R5 {f f1 fi:FuncId} (h:Has P f (qm f1 fi)) (l:List NX) (nm:List UInt8) (hi:VP P G fi [dT l, .fn (.func f1) [] [.ep [.str nm] 0]] (.int .i64 (ek l nm))):VP P G f [dT l, .str nm] (.int .i64 (ek l nm)):=by
 refine VP.has h ?_
 simp only [qm]
 repeat (first
   | simp (disch:=first | decide | exact rfl) only [SS,DD,Nat.reduceAdd,reduceIte,af,ai,az,ZZ,CC,aW,g0,g1,g2,decide_true,decide_false,X7]
   | with_reducible refine ao (by assumption) (by simp [ag,aq,aj,aa.int,aa.bool,aa.str,aA,ar,aw,aB,aE,aF,aC,aH,aQ,aL]) ?_
   | with_reducible refine ay (by assumption) (by simp [ag,aq,aj,aa.int,aa.bool,aa.str,aA,ar,aw,aB,aE,aF,aC,aH,aQ,aL]) ?_
   | with_reducible refine And.intro (a:=ab _ _) (by simp [ab,apart]) ?_
   | with_reducible refine VW.aI 3 (VW.of ?_)
   | with_reducible refine b9.next _ (VW.of ?_)
   | rw [au (by exact rfl) (by exact rfl) (by exact rfl) (by exact rfl) (by exact rfl)]
   | rw [bW (by exact rfl) (by exact rfl) (by exact rfl) (by exact rfl)]
   | rw [bX (by exact rfl) (by exact rfl) (by exact rfl) (by exact rfl) (by exact rfl) (by exact rfl)]
   | refine bG [([0],⟨[.str nm],1,false⟩)] hi (aM.cons (View.pure (aC l)) (aM.cons (View.fn aM.nil (aM.cons (View.ref (bk:=⟨[.str nm],1,false⟩) (by simp [ah.of]) rfl (aM.pure (by simp [AV.cells,aa.str]))) aM.nil)) aM.nil)) (by simp [ah.put,AV.size,AV.cells]) ?_
   | fail)
 exact ax▸ae rfl (aa.int _ _)
theorem Ve {f fi:FuncId} (h:Has P f (mn fi)) (l:List NX) (nm:List UInt8) (hi:VP P G fi [dT l, .str nm] (.int .i64 (ek l nm))) (hf : ¬ ek l nm<0):VP P G f [dT l, .str nm] (.tup [(eJ l nm).av, .bool true]):=by
 obtain ⟨k,z,hk,hz,hzn,ZF⟩:=zz hf
 rw [hk] at hi
 rw [ZF]
 have d1:decide ((k:Int)<0)=false:=aD (by omega)
 refine VP.has h ?_
 simp only [mn]
 repeat (first
   | simp (disch:=first | decide | exact rfl) only [SS,DD,Nat.reduceAdd,reduceIte,af,ai,az,ZZ,CC,aW,g0,g1,g2,decide_true,decide_false,d1,oR hz,aN,Mn,gC]
   | with_reducible refine ao (by assumption) (by simp [ag,aq,aj,aa.int,aa.bool,aa.str,aA,ar,aw,aB,aE,aF,aC,aH,aQ,aL]) ?_
   | with_reducible refine ay (by assumption) (by simp [ag,aq,aj,aa.int,aa.bool,aa.str,aA,ar,aw,aB,aE,aF,aC,aH,aQ,aL]) ?_
   | with_reducible refine And.intro (a:=ab _ _) (by simp [ab,apart]) ?_
   | with_reducible refine VW.aI 3 (VW.of ?_)
   | with_reducible refine b9.next _ (VW.of ?_)
   | rw [au (by exact rfl) (by exact rfl) (by exact rfl) (by exact rfl) (by exact rfl)]
   | rw [bW (by exact rfl) (by exact rfl) (by exact rfl) (by exact rfl)]
   | rw [bX (by exact rfl) (by exact rfl) (by exact rfl) (by exact rfl) (by exact rfl) (by exact rfl)]
   | fail)
 refine ax▸ae (r := .tup [z.c.av, .bool true]) ?_ (aa.tup (by simp [aE,aa.bool]))
 simp (disch:=decide) only [RS,a8,bg,af,ai,oQ]
theorem R6 {f fi:FuncId} (h:Has P f (mn fi)) (l:List NX) (nm:List UInt8) (hi:VP P G fi [dT l, .str nm] (.int .i64 (ek l nm))) (hf:ek l nm<0):VP P G f [dT l, .str nm] (.tup [zC, .bool false]):=by
 have d1:decide (ek l nm<0)=true:=aG hf
 have e0:iN [.bool false, .nils, .nils, .nils, .nils, .nils, .nils, .nils, .nils, .nils, .nils, .nils, .nils, .bool false] []=some [.bool false, .nils, .nils, .nils, .nils, .nils, .nils, .nils, .nils, .nils, .nils, .nils, .nils, .bool false]:=rfl
 refine VP.has h ?_
 simp only [mn]
 repeat (first
   | simp (disch:=first | decide | exact rfl) only [SS,DD,Nat.reduceAdd,reduceIte,af,ai,az,ZZ,CC,aW,g0,g1,g2,decide_true,decide_false,d1,gC,e0]
   | with_reducible refine ao (by assumption) (by simp [ag,aq,aj,aa.int,aa.bool,aa.str,aA,ar,aw,aB,aE,aF,aC,aH,aQ,aL]) ?_
   | with_reducible refine ay (by assumption) (by simp [ag,aq,aj,aa.int,aa.bool,aa.str,aA,ar,aw,aB,aE,aF,aC,aH,aQ,aL]) ?_
   | with_reducible refine And.intro (a:=ab _ _) (by simp [ab,apart]) ?_
   | with_reducible refine VW.aI 3 (VW.of ?_)
   | with_reducible refine b9.next _ (VW.of ?_)
   | rw [au (by exact rfl) (by exact rfl) (by exact rfl) (by exact rfl) (by exact rfl)]
   | rw [bW (by exact rfl) (by exact rfl) (by exact rfl) (by exact rfl)]
   | rw [bX (by exact rfl) (by exact rfl) (by exact rfl) (by exact rfl) (by exact rfl) (by exact rfl)]
   | fail)
 refine ax▸ae (r := .tup [zC, .bool false]) ?_ (aa.tup (by simp [zC,aa.agg,aa.bool,aA]))
 simp (disch:=decide) only [RS,a8,bg,af,ai];rfl
end
end Go.VL
end

section
set_option linter.unusedSimpArgs false
set_option linter.unusedVariables false
set_option maxRecDepth 100000
namespace Go.VL
open Go.Lib
theorem HV {l:List (List UInt8)} {h:Nat} (hh:h<=l.length):fK 1 (strs l) none (some (.int .i64 (h:Int))) none=some (strs (l.take h)):=by
 simp [strs,fK,gy,jW,hh,List.map_take]
section
variable {P:Program} {G:Nat->Option (List AV)}
theorem R7 {f:FuncId} (h:Has P f gr) (l:List (List UInt8)) (s:List UInt8) (hl:l.length<=1000000):VP P G f [strs l, .str s] (.int .i64 (Af (l.findIdx? fun x=>s==x))):=by
 refine VP.has h ?_
 simp only [gr,SS,Nat.reduceAdd,reduceIte,eS,az]
 refine VW.scan l (fun x=>s==x) (fun i=>[strs l, .str s, .top, .top, .top, .top, .top, .int .i64 l.length, .int .i64 i]++List.replicate 10 .top) (fun _=>none) 1000 (Wk.slots (by simp [Fg,List.replicate]) (by omega)) (fun i m x hx hlt hn d => ?_) (fun m hn d => ?_)
 . cases hb:s==x
   . skip
     repeat (first
       | simp (disch:=first | decide | exact rfl) only [SS,DD,Nat.reduceAdd,reduceIte,af,ai,az,ZZ,CC,aW,g0,g1,g2,decide_true,decide_false,d,nF hx,vF,aN,hb,aP i (by omega)]
       | with_reducible refine ao (by assumption) (by simp [ag,aq,aj,aa.int,aa.bool,aa.str,aA,ar,aw,aB,aE,aF,aC,aH,aQ,aL]) ?_
       | with_reducible refine ay (by assumption) (by simp [ag,aq,aj,aa.int,aa.bool,aa.str,aA,ar,aw,aB,aE,aF,aC,aH,aQ,aL]) ?_
       | with_reducible refine And.intro (a:=ab _ _) (by simp [ab,apart]) ?_
       | with_reducible refine VW.aI 3 (VW.of ?_)
       | with_reducible refine b9.next _ (VW.of ?_)
       | rw [au (by exact rfl) (by exact rfl) (by exact rfl) (by exact rfl) (by exact rfl)]
       | rw [bW (by exact rfl) (by exact rfl) (by exact rfl) (by exact rfl)]
       | rw [bX (by exact rfl) (by exact rfl) (by exact rfl) (by exact rfl) (by exact rfl) (by exact rfl)]
       | fail)
     exact ⟨(i+1,_),⟨hlt,hn.succ hx hb⟩,by simp only [];omega,Wk.slots (by simp [Fg,List.replicate]) (Nat.le_refl _)⟩
   . skip
     repeat (first
       | simp (disch:=first | decide | exact rfl) only [SS,DD,Nat.reduceAdd,reduceIte,af,ai,az,ZZ,CC,aW,g0,g1,g2,decide_true,decide_false,d,nF hx,vF,aN,hb]
       | with_reducible refine ao (by assumption) (by simp [ag,aq,aj,aa.int,aa.bool,aa.str,aA,ar,aw,aB,aE,aF,aC,aH,aQ,aL]) ?_
       | with_reducible refine ay (by assumption) (by simp [ag,aq,aj,aa.int,aa.bool,aa.str,aA,ar,aw,aB,aE,aF,aC,aH,aQ,aL]) ?_
       | with_reducible refine And.intro (a:=ab _ _) (by simp [ab,apart]) ?_
       | with_reducible refine VW.aI 3 (VW.of ?_)
       | with_reducible refine b9.next _ (VW.of ?_)
       | rw [au (by exact rfl) (by exact rfl) (by exact rfl) (by exact rfl) (by exact rfl)]
       | rw [bW (by exact rfl) (by exact rfl) (by exact rfl) (by exact rfl)]
       | rw [bX (by exact rfl) (by exact rfl) (by exact rfl) (by exact rfl) (by exact rfl) (by exact rfl)]
       | fail)
     rw [qN hx hb hn]
     exact ax▸ae rfl (aa.int _ _)
 . skip
   repeat (first
     | simp (disch:=first | decide | exact rfl) only [SS,DD,Nat.reduceAdd,reduceIte,af,ai,az,ZZ,CC,aW,g0,g1,g2,decide_true,decide_false,d]
     | with_reducible refine ao (by assumption) (by simp [ag,aq,aj,aa.int,aa.bool,aa.str,aA,ar,aw,aB,aE,aF,aC,aH,aQ,aL]) ?_
     | with_reducible refine ay (by assumption) (by simp [ag,aq,aj,aa.int,aa.bool,aa.str,aA,ar,aw,aB,aE,aF,aC,aH,aQ,aL]) ?_
     | with_reducible refine And.intro (a:=ab _ _) (by simp [ab,apart]) ?_
     | with_reducible refine VW.aI 3 (VW.of ?_)
     | with_reducible refine b9.next _ (VW.of ?_)
     | rw [au (by exact rfl) (by exact rfl) (by exact rfl) (by exact rfl) (by exact rfl)]
     | rw [bW (by exact rfl) (by exact rfl) (by exact rfl) (by exact rfl)]
     | rw [bX (by exact rfl) (by exact rfl) (by exact rfl) (by exact rfl) (by exact rfl) (by exact rfl)]
     | fail)
   rw [qM (fun j e hj=>hn j e (List.getElem?_eq_some_iff.1 hj).1 hj)]
   exact ax▸ae rfl (aa.int _ _)
theorem Kf {f fi:FuncId} (h:Has P f (fy fi)) (l:List (List UInt8)) (s:List UInt8) (hi:VP P G fi [strs l, .str s] (.int .i64 (Af (l.findIdx? fun x=>s==x)))):VP P G f [strs l, .str s] (.bool (l.any fun x=>s==x)):=by
 have e:decide (0<=Af (l.findIdx? fun x=>s==x))=l.any fun x=>s==x:=by
   rw [<- List.findIdx?_isSome]
   cases l.findIdx? fun x=>s==x<;>simp [Af]
 refine VP.has h ?_
 simp only [fy]
 repeat (first
   | simp (disch:=first | decide | exact rfl) only [SS,DD,Nat.reduceAdd,reduceIte,af,ai,az,ZZ,CC,aW,g0,g1,g2,decide_true,decide_false,e]
   | with_reducible refine ao (by assumption) (by simp [ag,aq,aj,aa.int,aa.bool,aa.str,aA,ar,aw,aB,aE,aF,aC,aH,aQ,aL]) ?_
   | with_reducible refine ay (by assumption) (by simp [ag,aq,aj,aa.int,aa.bool,aa.str,aA,ar,aw,aB,aE,aF,aC,aH,aQ,aL]) ?_
   | with_reducible refine And.intro (a:=ab _ _) (by simp [ab,apart]) ?_
   | with_reducible refine VW.aI 3 (VW.of ?_)
   | with_reducible refine b9.next _ (VW.of ?_)
   | rw [au (by exact rfl) (by exact rfl) (by exact rfl) (by exact rfl) (by exact rfl)]
   | rw [bW (by exact rfl) (by exact rfl) (by exact rfl) (by exact rfl)]
   | rw [bX (by exact rfl) (by exact rfl) (by exact rfl) (by exact rfl) (by exact rfl) (by exact rfl)]
   | fail)
 exact ax▸ae rfl (aa.bool _)
open Classical in
theorem Mv {f fc:FuncId} (h:Has P f (nx fc)) (l:List (List UInt8)) (hl:l.length<=1000000) (hc:∀ (i:Nat) s,l[i]? = some s->VP P G fc [strs (l.take i), .str s] (.bool ((l.take i).any fun x=>s==x))):VP P G f [strs l] (.bool (decide (HU l l.length))):=by
 refine VP.has h ?_
 simp only [nx,SS,Nat.reduceAdd,reduceIte,eS,az]
 refine VW.dU (α := Nat × Nat) (fun y=>⟨[strs l, .top, .top, .top, .top,strs l, .int .i64 l.length, .int .i64 (y.1:Nat)]++List.replicate 10 .top,fun _=>none,y.2⟩) (fun y=>y.1<=l.length /\ ¬ HU l y.1) (fun y=>l.length-y.1) (0,1000) ?_ ⟨Nat.zero_le _,fun ⟨j,k,_,_,h,_⟩=>by simp only [] at h;omega⟩ ?_
 . exact Wk.slots (by simp [Fg,List.replicate]) (by simp only [];omega)
 rintro ⟨i,n⟩ ⟨hi,hd⟩
 simp only [] at hi hd
 by_cases hlt:i<l.length
 . obtain ⟨x,hx⟩:∃ x,l[i]? = some x:=⟨l[i],by simp [hlt]⟩
   have d:decide ((i:Int)<(l.length:Int))=true:=aG (by omega)
   have hv:=hc i x hx
   have hw:=aP i (by omega)
   have WH:=HV (l:=l) (h:=i) hi
   cases hb:(l.take i).any fun y=>x==y<;>rw [hb] at hv
   . skip
     repeat (first
       | simp (disch:=first | decide | exact rfl) only [SS,DD,Nat.reduceAdd,reduceIte,af,ai,az,ZZ,CC,aW,g0,g1,g2,decide_true,decide_false,d,nF hx,vF,aN,WH,hw]
       | with_reducible refine ao (by assumption) (by simp [ag,aq,aj,aa.int,aa.bool,aa.str,aA,ar,aw,aB,aE,aF,aC,aH,aQ,aL]) ?_
       | with_reducible refine ay (by assumption) (by simp [ag,aq,aj,aa.int,aa.bool,aa.str,aA,ar,aw,aB,aE,aF,aC,aH,aQ,aL]) ?_
       | with_reducible refine And.intro (a:=ab _ _) (by simp [ab,apart]) ?_
       | with_reducible refine VW.aI 3 (VW.of ?_)
       | with_reducible refine b9.next _ (VW.of ?_)
       | rw [au (by exact rfl) (by exact rfl) (by exact rfl) (by exact rfl) (by exact rfl)]
       | rw [bW (by exact rfl) (by exact rfl) (by exact rfl) (by exact rfl)]
       | rw [bX (by exact rfl) (by exact rfl) (by exact rfl) (by exact rfl) (by exact rfl) (by exact rfl)]
       | fail)
     refine ⟨(i+1,_),⟨hlt,I9 hx hd fun j hj e => ?_⟩,by simp only [];omega,Wk.slots (by simp [Fg,List.replicate]) (Nat.le_refl _)⟩
     have:((l.take i).any fun y=>x==y)=true:=List.any_eq_true.2 ⟨x,List.mem_of_getElem? (by rw [List.getElem?_take_of_lt hj];exact e),by simp⟩
     rw [this] at hb;cases hb
   . skip
     repeat (first
       | simp (disch:=first | decide | exact rfl) only [SS,DD,Nat.reduceAdd,reduceIte,af,ai,az,ZZ,CC,aW,g0,g1,g2,decide_true,decide_false,d,nF hx,vF,aN,WH]
       | with_reducible refine ao (by assumption) (by simp [ag,aq,aj,aa.int,aa.bool,aa.str,aA,ar,aw,aB,aE,aF,aC,aH,aQ,aL]) ?_
       | with_reducible refine ay (by assumption) (by simp [ag,aq,aj,aa.int,aa.bool,aa.str,aA,ar,aw,aB,aE,aF,aC,aH,aQ,aL]) ?_
       | with_reducible refine And.intro (a:=ab _ _) (by simp [ab,apart]) ?_
       | with_reducible refine VW.aI 3 (VW.of ?_)
       | with_reducible refine b9.next _ (VW.of ?_)
       | rw [au (by exact rfl) (by exact rfl) (by exact rfl) (by exact rfl) (by exact rfl)]
       | rw [bW (by exact rfl) (by exact rfl) (by exact rfl) (by exact rfl)]
       | rw [bX (by exact rfl) (by exact rfl) (by exact rfl) (by exact rfl) (by exact rfl) (by exact rfl)]
       | fail)
     obtain ⟨y,hy,hyx⟩:=List.any_eq_true.1 hb
     obtain ⟨j,hj⟩:=List.getElem?_of_mem hy
     have TM:j<i:=by have:=(List.getElem?_eq_some_iff.1 hj).1;simp at this;omega
     rw [List.getElem?_take_of_lt TM] at hj
     have ahw:x=y:=by simpa using hyx
     rw [decide_eq_true (show HU l l.length from ⟨j,i,x,TM,hlt,by rw [hj,ahw],hx⟩)]
     exact ax▸ae rfl (aa.bool _)
 . have d:decide ((i:Int)<(l.length:Int))=false:=aD (by omega)
   have U4:i=l.length:=by omega
   rw [U4] at hd
   rw [decide_eq_false hd]
   repeat (first
     | simp (disch:=first | decide | exact rfl) only [SS,DD,Nat.reduceAdd,reduceIte,af,ai,az,ZZ,CC,aW,g0,g1,g2,decide_true,decide_false,d]
     | with_reducible refine ao (by assumption) (by simp [ag,aq,aj,aa.int,aa.bool,aa.str,aA,ar,aw,aB,aE,aF,aC,aH,aQ,aL]) ?_
     | with_reducible refine ay (by assumption) (by simp [ag,aq,aj,aa.int,aa.bool,aa.str,aA,ar,aw,aB,aE,aF,aC,aH,aQ,aL]) ?_
     | with_reducible refine And.intro (a:=ab _ _) (by simp [ab,apart]) ?_
     | with_reducible refine VW.aI 3 (VW.of ?_)
     | with_reducible refine b9.next _ (VW.of ?_)
     | rw [au (by exact rfl) (by exact rfl) (by exact rfl) (by exact rfl) (by exact rfl)]
     | rw [bW (by exact rfl) (by exact rfl) (by exact rfl) (by exact rfl)]
     | rw [bX (by exact rfl) (by exact rfl) (by exact rfl) (by exact rfl) (by exact rfl) (by exact rfl)]
     | fail)
   exact ax▸ae rfl (aa.bool _)
end
end Go.VL
end

section
set_option linter.unusedSimpArgs false
set_option linter.unusedVariables false
set_option maxRecDepth 100000
namespace Go.VL
open Go.Lib
theorem lz:aa zC:=aa.agg (by simp [aa.bool,aA])
theorem ZH {p:Id} {k bytes n:Nat} {z:AV} (hb:n*bytes<=140737488355328) (hn:n<=1000000) (hz:z.size=k) (h1:z.cells.all AV.one=true):jn p k bytes z (.int .i64 (n:Int)) (.int .i64 (n:Int))=some { val := .osl p k 0 n false,up:=[(p,some ⟨List.replicate n z,k,false⟩)] }:=by
 simp only [jn]
 rw [if_pos ⟨by omega,by omega,by rw [<- Int.natCast_mul];exact Int.ofNat_le.2 hb,by have:n<=maxLen:=eC (by omega);omega,hz,h1⟩]
 simp
theorem Mw {A:List AV} {x z:AV} {i k:Nat} (h:A.length=i):(A++List.replicate (k+1) z).set i x=A++[x]++List.replicate k z:=by
 rw [List.set_append_right _ _ (by omega),h,Nat.sub_self,List.replicate_succ,List.set_cons_zero];simp
section
variable {P:Program} {G:Nat->Option (List AV)}
open Classical in
set_option maxHeartbeats 1000000 in
theorem On {f fn fr fF:FuncId} (h:Has P f (px fn fr fF)) (nm:List UInt8) (l:List NX) (ins:List (List UInt8)) (hN:VP P G fn [.str nm] (.bool (eH nm))) (hR:VP P G fr [strs ins] (.bool (decide (HU ins ins.length))))
   (hF:∀ s∈ins,VP P G fF [dT l, .str s] (if ek l s<0 then .tup [zC, .bool false] else .tup [(eJ l s).av, .bool true])) (hl:ins.length<=1000) :
   VP P G f [.str nm,dT l,strs ins] (if dz nm l ins=0 then .tup [Oh (ins.map (eJ l)), .int .i64 0] else .tup [.nils, .int .i64 (dz nm l ins)]):=by
 refine VP.has h ?_
 simp only [px]
 cases ta:eH nm<;>rw [ta] at hN
 . have hE:dz nm l ins=1:=by unfold dz;rw [if_pos (.inl ta)]
   rw [hE,if_neg (by decide)]
   repeat (first
     | simp (disch:=first | decide | exact rfl) only [SS,DD,Nat.reduceAdd,reduceIte,af,ai,az,ZZ,CC,aW,g0,g1,g2,decide_true,decide_false]
     | with_reducible refine ao (by assumption) (by simp [ag,aq,aj,aa.int,aa.bool,aa.str,aA,ar,aw,aB,aE,aF,aC,aH,aQ,lz,aL]) ?_
     | with_reducible refine ay (by assumption) (by simp [ag,aq,aj,aa.int,aa.bool,aa.str,aA,ar,aw,aB,aE,aF,aC,aH,aQ,lz,aL]) ?_
     | with_reducible refine And.intro (a:=ab _ _) (by simp [ab,apart]) ?_
     | with_reducible refine VW.aI 3 (VW.of ?_)
     | with_reducible refine b9.next _ (VW.of ?_)
     | rw [au (by exact rfl) (by exact rfl) (by exact rfl) (by exact rfl) (by exact rfl)]
     | rw [bW (by exact rfl) (by exact rfl) (by exact rfl) (by exact rfl)]
     | rw [bX (by exact rfl) (by exact rfl) (by exact rfl) (by exact rfl) (by exact rfl) (by exact rfl)]
     | fail)
   exact ax▸ae rfl (aa.tup (by simp [aA,aa.int]))
 by_cases h0:ins=[]
 . have d0:decide ((ins.length:Int)=0)=true:=aG (by rw [h0];rfl)
   have hE:dz nm l ins=1:=by unfold dz;rw [if_pos (.inr h0)]
   rw [hE,if_neg (by decide)]
   repeat (first
     | simp (disch:=first | decide | exact rfl) only [SS,DD,Nat.reduceAdd,reduceIte,af,ai,az,ZZ,CC,aW,g0,g1,g2,decide_true,decide_false,eS,d0]
     | with_reducible refine ao (by assumption) (by simp [ag,aq,aj,aa.int,aa.bool,aa.str,aA,ar,aw,aB,aE,aF,aC,aH,aQ,lz,aL]) ?_
     | with_reducible refine ay (by assumption) (by simp [ag,aq,aj,aa.int,aa.bool,aa.str,aA,ar,aw,aB,aE,aF,aC,aH,aQ,lz,aL]) ?_
     | with_reducible refine And.intro (a:=ab _ _) (by simp [ab,apart]) ?_
     | with_reducible refine VW.aI 3 (VW.of ?_)
     | with_reducible refine b9.next _ (VW.of ?_)
     | rw [au (by exact rfl) (by exact rfl) (by exact rfl) (by exact rfl) (by exact rfl)]
     | rw [bW (by exact rfl) (by exact rfl) (by exact rfl) (by exact rfl)]
     | rw [bX (by exact rfl) (by exact rfl) (by exact rfl) (by exact rfl) (by exact rfl) (by exact rfl)]
     | fail)
   exact ax▸ae rfl (aa.tup (by simp [aA,aa.int]))
 have d0:decide ((ins.length:Int)=0)=false:=aD (fun e=>h0 (List.length_eq_zero_iff.1 (by omega)))
 have hE0 : ¬ (eH nm=false∨ins=[]):=by simp [h0,ta]
 by_cases hd:HU ins ins.length
 . rw [decide_eq_true hd] at hR
   have hE:dz nm l ins=1:=by unfold dz;rw [if_neg hE0,if_pos hd]
   rw [hE,if_neg (by decide)]
   repeat (first
     | simp (disch:=first | decide | exact rfl) only [SS,DD,Nat.reduceAdd,reduceIte,af,ai,az,ZZ,CC,aW,g0,g1,g2,decide_true,decide_false,eS,d0]
     | with_reducible refine ao (by assumption) (by simp [ag,aq,aj,aa.int,aa.bool,aa.str,aA,ar,aw,aB,aE,aF,aC,aH,aQ,lz,aL]) ?_
     | with_reducible refine ay (by assumption) (by simp [ag,aq,aj,aa.int,aa.bool,aa.str,aA,ar,aw,aB,aE,aF,aC,aH,aQ,lz,aL]) ?_
     | with_reducible refine And.intro (a:=ab _ _) (by simp [ab,apart]) ?_
     | with_reducible refine VW.aI 3 (VW.of ?_)
     | with_reducible refine b9.next _ (VW.of ?_)
     | rw [au (by exact rfl) (by exact rfl) (by exact rfl) (by exact rfl) (by exact rfl)]
     | rw [bW (by exact rfl) (by exact rfl) (by exact rfl) (by exact rfl)]
     | rw [bX (by exact rfl) (by exact rfl) (by exact rfl) (by exact rfl) (by exact rfl) (by exact rfl)]
     | fail)
   exact ax▸ae rfl (aa.tup (by simp [aA,aa.int]))
 rw [decide_eq_false hd] at hR
 have ss:=fun p:Id=>ZH (p:=p) (k:=14) (bytes:=304) (n:=ins.length) (z:=zC) (by omega) (by omega) rfl rfl
 unfold zC at ss
 repeat (first
   | simp (disch:=first | decide | exact rfl) only [SS,DD,Nat.reduceAdd,reduceIte,af,ai,ZZ,CC,aW,g0,g1,g2,decide_true,decide_false,eS,d0,ss]
   | with_reducible refine ao (by assumption) (by simp [ag,aq,aj,aa.int,aa.bool,aa.str,aA,ar,aw,aB,aE,aF,aC,aH,aQ,lz,aL]) ?_
   | with_reducible refine ay (by assumption) (by simp [ag,aq,aj,aa.int,aa.bool,aa.str,aA,ar,aw,aB,aE,aF,aC,aH,aQ,lz,aL]) ?_
   | with_reducible refine And.intro (a:=ab _ _) (by simp [ab,apart]) ?_
   | rw [au (by exact rfl) (by exact rfl) (by exact rfl) (by exact rfl) (by exact rfl)]
   | rw [bW (by exact rfl) (by exact rfl) (by exact rfl) (by exact rfl)]
   | rw [bX (by exact rfl) (by exact rfl) (by exact rfl) (by exact rfl) (by exact rfl) (by exact rfl)]
   | fail)
 simp only [az]
 refine VW.dU (α := Nat × Nat) (fun y=>⟨[.str nm,dT l,strs ins]++List.replicate 5 .top++[.osl [16] 14 0 ins.length false]++List.replicate 19 .top++[strs ins, .int .i64 ins.length, .int .i64 (y.1:Nat)]++List.replicate 18 .top,
   ah.put (fun _=>none) [16] (some ⟨(ins.take y.1).map (fun s=>(eJ l s).av)++List.replicate (ins.length-y.1) zC,14,false⟩),y.2⟩)
   (fun y=>y.1<=ins.length/\zu ins (fun s=>decide (ek l s<0)) y.1/\1000<=y.2) (fun y=>ins.length-y.1) (0,1000) ?_ ⟨Nat.zero_le _,fun j e hj=>absurd hj (Nat.not_lt_zero j),Nat.le_refl _⟩ ?_
 . refine Wk.forget (by simp [Fg,List.replicate]) (dG (by simp [ah.put,zC]) oU) (by omega)
 rintro ⟨i,m⟩ ⟨hi,hn,hm⟩
 simp only [] at hi hn hm
 by_cases hlt:i<ins.length
 . obtain ⟨s,hs⟩:∃ s,ins[i]? = some s:=⟨ins[i],by simp [hlt]⟩
   have d:decide ((i:Int)<(ins.length:Int))=true:=aG (by omega)
   have hv:=hF s (List.mem_of_getElem? hs)
   have hw:=aP i (by omega)
   have l16:16<m:=by omega
   have zo:(zC.cells.all AV.one=true)=True:=by simp [zC,AV.cells,AV.one]
   by_cases hb:ek l s<0
   . rw [if_pos hb] at hv
     clear hF ss
     repeat (first
       | simp (disch:=first | decide | exact rfl | with_reducible assumption | exact Nat.ne_of_lt (by repeat (first | with_reducible assumption | apply Nat.lt_add_right))) only [bm,SS,DD,Nat.reduceAdd,reduceIte,af,ai,ZZ,CC,aW,g0,g1,g2,decide_true,decide_false,eS,d,nF hs,vF,aN,gC]
       | with_reducible refine ao (by assumption) (by simp [ag,aq,aj,aa.int,aa.bool,aa.str,aA,ar,aw,aB,aE,aF,aC,aH,aQ,lz,aL]) ?_
       | with_reducible refine ay (by assumption) (by simp [ag,aq,aj,aa.int,aa.bool,aa.str,aA,ar,aw,aB,aE,aF,aC,aH,aQ,lz,aL]) ?_
       | with_reducible refine And.intro (a:=ab _ _) (by simp [ab,apart];try assumption) ?_
       | rw [au (by repeat (first | with_reducible exact bb | refine (bE (by first | with_reducible assumption | decide | exact Nat.ne_of_lt (by repeat (first | with_reducible assumption | apply Nat.lt_add_right)))).trans ?_)) (by exact rfl) (by exact rfl) (by exact rfl) (by exact rfl)]
       | rw [bW (by exact rfl) (by exact rfl) (by exact rfl) (by exact rfl)]
       | rw [bX (by exact rfl) (by exact rfl) (by exact rfl) (by exact rfl) (by exact rfl) (by exact rfl)]
       | fail)
     have hE:dz nm l ins=4:=by unfold dz;rw [if_neg hE0,if_neg hd,if_pos (zx hs (by simp [hb]))]
     rw [hE,if_neg (by decide)]
     exact ax▸ae rfl (aa.tup (by simp [aA,aa.int]))
   . rw [if_neg hb] at hv
     have mE:cW 14 (.osl [16] 14 0 ins.length false) (.int .i64 (i:Int))=some (.ref [16] i 0):=by rw [GH hlt,Nat.zero_add]
     have E6:=zQ (f:=fun s=>(eJ l s).av) hs
     obtain ⟨k,hk⟩:∃ k,ins.length-i=k+1:=⟨ins.length-i-1,by omega⟩
     have hk2:ins.length-(i+1)=k:=by omega
     have hA:((ins.take i).map fun s=>(eJ l s).av).length=i:=by simp;omega
     have hst:∀ σ : ah, σ [16]=some ⟨(ins.take i).map (fun s=>(eJ l s).av)++List.replicate (ins.length-i) zC,14,false⟩->fJ σ 14 (.ref [16] i 0) (eJ l s).av=some { val := .tup [],rd:=[[16]],up:=[([16],some ⟨(ins.take (i+1)).map (fun s=>(eJ l s).av)++List.replicate (ins.length-(i+1)) zC,14,false⟩)] }:=fun σ hσ => by
       rw [fH (n:=14) (v:=(eJ l s).av) (el:=zC) hσ (by rw [hk,List.getElem?_append_right (by omega),hA,Nat.sub_self];rfl) rfl (by decide) (of_eq_true (mU _))]
       rw [E6,hk2,hk,Mw hA]
       rfl
     clear hF ss
     repeat (first
       | simp (disch:=first | decide | exact rfl | with_reducible assumption | exact Nat.ne_of_lt (by repeat (first | with_reducible assumption | apply Nat.lt_add_right))) only [bm,SS,DD,Nat.reduceAdd,reduceIte,af,ai,ZZ,CC,aW,g0,g1,g2,decide_true,decide_false,eS,d,nF hs,vF,aN,gC,mU,oQ,mE,hw]
       | with_reducible refine ao (by assumption) (by simp [ag,aq,aj,aa.int,aa.bool,aa.str,aA,ar,aw,aB,aE,aF,aC,aH,aQ,lz,aL]) ?_
       | with_reducible refine ay (by assumption) (by simp [ag,aq,aj,aa.int,aa.bool,aa.str,aA,ar,aw,aB,aE,aF,aC,aH,aQ,lz,aL]) ?_
       | with_reducible refine And.intro (a:=ab _ _) (by simp [ab,apart];try assumption) ?_
       | rw [au (by repeat (first | with_reducible exact bb | refine (bE (by first | with_reducible assumption | decide | exact Nat.ne_of_lt (by repeat (first | with_reducible assumption | apply Nat.lt_add_right)))).trans ?_)) (by exact rfl) (by exact rfl) (by exact rfl) (by exact rfl)]
       | rw [bW (by exact rfl) (by exact rfl) (by exact rfl) (by exact rfl)]
       | rw [bX (by exact rfl) (by exact rfl) (by exact rfl) (by exact rfl) (by exact rfl) (by exact rfl)]
       | rw [hst _ (by repeat (first | with_reducible exact bb | refine (bE (by first | with_reducible assumption | decide | exact Nat.ne_of_lt (by repeat (first | with_reducible assumption | apply Nat.lt_add_right)))).trans ?_))]
       | fail)
     exact ⟨(i+1,_),⟨hlt,hn.succ hs (by simp [hb]),by simp only [];omega⟩,by simp only [];omega,Wk.forget (by simp [Fg,List.replicate]) (dG (by exact bb) oU) (Nat.le_refl _)⟩
 . have d:decide ((i:Int)<(ins.length:Int))=false:=aD (by omega)
   have U4:i=ins.length:=by omega
   subst U4
   have hE:dz nm l ins=0:=by unfold dz;rw [if_neg hE0,if_neg hd,if_neg (by rw [hn.any (Nat.le_refl _)];decide)]
   rw [if_pos hE]
   simp only [List.take_length,Nat.sub_self,List.replicate_zero,List.append_nil]
   clear hF ss
   repeat (first
     | simp (disch:=first | decide | exact rfl | with_reducible assumption | exact Nat.ne_of_lt (by repeat (first | with_reducible assumption | apply Nat.lt_add_right))) only [bm,SS,DD,Nat.reduceAdd,reduceIte,af,ai,ZZ,CC,aW,g0,g1,g2,decide_true,decide_false,eS,d]
     | with_reducible refine ao (by assumption) (by simp [ag,aq,aj,aa.int,aa.bool,aa.str,aA,ar,aw,aB,aE,aF,aC,aH,aQ,lz,aL]) ?_
     | with_reducible refine ay (by assumption) (by simp [ag,aq,aj,aa.int,aa.bool,aa.str,aA,ar,aw,aB,aE,aF,aC,aH,aQ,lz,aL]) ?_
     | with_reducible refine And.intro (a:=ab _ _) (by simp [ab,apart];try assumption) ?_
     | rw [au (by repeat (first | with_reducible exact bb | refine (bE (by first | with_reducible assumption | decide | exact Nat.ne_of_lt (by repeat (first | with_reducible assumption | apply Nat.lt_add_right)))).trans ?_)) (by exact rfl) (by exact rfl) (by exact rfl) (by exact rfl)]
     | rw [bW (by exact rfl) (by exact rfl) (by exact rfl) (by exact rfl)]
     | rw [bX (by exact rfl) (by exact rfl) (by exact rfl) (by exact rfl) (by exact rfl) (by exact rfl)]
     | fail)
   refine ax▸⟨_,rfl,View.tup (.cons ?_ (.cons (View.pure (aa.int _ _)) .nil))⟩
   have e:(ins.map fun s=>(eJ l s).av)=(ins.map (eJ l)).map CX.av:=by rw [List.map_map];rfl
   have:=CO (σ := ah.put (fun _=>none) [16] (some ⟨(ins.map (eJ l)).map CX.av,14,false⟩)) (q:=[16]) (k:=14) (l:=(ins.map (eJ l)).map CX.av) (.inr bb) (by intro a ha;obtain ⟨y,_,rfl⟩:=List.mem_map.1 ha;rfl) (G8 _)
   rw [Ew (by simpa using h0)] at this
   have hlen:((ins.map (eJ l)).map CX.av).length=ins.length:=by simp
   rw [hlen] at this
   rw [e]
   exact this
end
end Go.VL
end

section
set_option linter.unusedSimpArgs false
set_option linter.unusedVariables false
set_option maxRecDepth 100000
namespace Go.VL
open Go.Lib
theorem Fs {l:List NX}:((dT l).cells.all AV.one=true)=True:=by simp [AV.cells,AV.one]
theorem aeh {l:List NX}:part false [dT l] 0 1=some (dT l):=rfl
theorem Mx {l:List NX}:part false (dT l).cells 0 1=some (dT l):=rfl
section
variable {P:Program} {G:Nat->Option (List AV)}
theorem Vf {f:FuncId} (h:Has P f py) (x:NX):VP P G f [x.av] (.bool (decide (200<x.name.length))):=by
 have e:decide ((200:Int)<(x.name.length:Int))=decide (200<x.name.length):=by congr 1;exact propext (by omega)
 refine VP.has h ?_
 simp only [py]
 repeat (first
   | simp (disch:=first | decide | exact rfl) only [SS,DD,Nat.reduceAdd,reduceIte,af,ai,az,ZZ,CC,aW,g0,g1,g2,decide_true,decide_false,kA,AA,e]
   | with_reducible refine ao (by assumption) (by simp [ag,aq,aj,aa.int,aa.bool,aa.str,aA,ar,aw,aB,aE,aF,aC,aH,aQ,aL]) ?_
   | with_reducible refine ay (by assumption) (by simp [ag,aq,aj,aa.int,aa.bool,aa.str,aA,ar,aw,aB,aE,aF,aC,aH,aQ,aL]) ?_
   | with_reducible refine And.intro (a:=ab _ _) (by simp [ab,apart]) ?_
   | with_reducible refine VW.aI 3 (VW.of ?_)
   | with_reducible refine b9.next _ (VW.of ?_)
   | rw [au (by exact rfl) (by exact rfl) (by exact rfl) (by exact rfl) (by exact rfl)]
   | rw [bW (by exact rfl) (by exact rfl) (by exact rfl) (by exact rfl)]
   | rw [bX (by exact rfl) (by exact rfl) (by exact rfl) (by exact rfl) (by exact rfl) (by exact rfl)]
   | fail)
 exact ax▸ae rfl (aa.bool _)
theorem Vg {f fi:FuncId} (h:Has P f (pz fi)) (l:List NX) (x:NX) (hi:VP P G fi [dT l, .str x.name] (.int .i64 (ek l x.name))):VP P G f [x.av, .ep [dT l] 0] (.bool (decide (0<=ek l x.name))):=by
 refine VP.has h ?_
 simp only [pz]
 repeat (first
   | simp (disch:=first | decide | exact rfl) only [SS,DD,Nat.reduceAdd,reduceIte,af,ai,az,ZZ,CC,aW,g0,g1,g2,decide_true,decide_false,kA,AA,aN,aeh]
   | with_reducible refine ao (by assumption) (by simp [ag,aq,aj,aa.int,aa.bool,aa.str,aA,ar,aw,aB,aE,aF,aC,aH,aQ,aL]) ?_
   | with_reducible refine ay (by assumption) (by simp [ag,aq,aj,aa.int,aa.bool,aa.str,aA,ar,aw,aB,aE,aF,aC,aH,aQ,aL]) ?_
   | with_reducible refine And.intro (a:=ab _ _) (by simp [ab,apart]) ?_
   | with_reducible refine VW.aI 3 (VW.of ?_)
   | with_reducible refine b9.next _ (VW.of ?_)
   | rw [au (by exact rfl) (by exact rfl) (by exact rfl) (by exact rfl) (by exact rfl)]
   | rw [bW (by exact rfl) (by exact rfl) (by exact rfl) (by exact rfl)]
   | rw [bX (by exact rfl) (by exact rfl) (by exact rfl) (by exact rfl) (by exact rfl) (by exact rfl)]
   | fail)
 exact ax▸ae rfl (aa.bool _)
set_option maxHeartbeats 2000000 in
theorem Vh {f f1 f2 fc:FuncId} (h:Has P f (rr f1 f2 fc)) (l more:List NX) (hl:l.length<=1000000) (hm:more.length<=1000000) (h1:VP P G fc [dT more, .fn (.func f1) [] []] (.bool (more.any fun x=>decide (200<x.name.length))))
   (h2:VP P G fc [dT more, .fn (.func f2) [] [.ep [dT l] 0]] (.bool (more.any fun x=>decide (0<=ek l x.name)))):VP P G f [dT l,dT more] (.int .i64 (iE l more)):=by
 have hw:IntKind.i64.wrap ((l.length:Int)+(more.length:Int))=((l.length+more.length:Nat):Int):=by rw [IntKind.wrap_i64];omega
 refine VP.has h ?_
 unfold iE
 simp only [rr]
 by_cases h0:200<l.length+more.length
 . have d0:decide ((200:Int)<((l.length+more.length:Nat):Int))=true:=aG (by omega)
   rw [if_pos h0]
   repeat (first
     | simp (disch:=first | decide | exact rfl) only [SS,DD,Nat.reduceAdd,reduceIte,af,ai,az,ZZ,CC,aW,g0,g1,g2,decide_true,decide_false,Fs,Mx,List.length_map,hw,d0]
     | with_reducible refine ao (by assumption) (by simp [ag,aq,aj,aa.int,aa.bool,aa.str,aA,ar,aw,aB,aE,aF,aC,aH,aQ,aL]) ?_
     | with_reducible refine ay (by assumption) (by simp [ag,aq,aj,aa.int,aa.bool,aa.str,aA,ar,aw,aB,aE,aF,aC,aH,aQ,aL]) ?_
     | with_reducible refine And.intro (a:=ab _ _) (by simp [ab,apart]) ?_
     | with_reducible refine VW.aI 3 (VW.of ?_)
     | with_reducible refine b9.next _ (VW.of ?_)
     | rw [au (by exact rfl) (by exact rfl) (by exact rfl) (by exact rfl) (by exact rfl)]
     | rw [bW (by exact rfl) (by exact rfl) (by exact rfl) (by exact rfl)]
     | rw [bX (by exact rfl) (by exact rfl) (by exact rfl) (by exact rfl) (by exact rfl) (by exact rfl)]
     | fail)
   exact ax▸ae rfl (aa.int _ _)
 have d0:decide ((200:Int)<((l.length+more.length:Nat):Int))=false:=aD (by omega)
 rw [if_neg h0]
 cases hb:more.any fun x=>decide (200<x.name.length)<;>rw [hb] at h1
 . rw [if_neg (by decide)]
   cases hc:more.any fun x=>decide (0<=ek l x.name)<;>rw [hc] at h2
   . rw [if_neg (by decide)]
     repeat (first
       | simp (disch:=first | decide | exact rfl) only [SS,DD,Nat.reduceAdd,reduceIte,af,ai,az,ZZ,CC,aW,g0,g1,g2,decide_true,decide_false,Fs,Mx,List.length_map,hw,d0]
       | with_reducible refine ao (by assumption) (by simp [ag,aq,aj,aa.int,aa.bool,aa.str,aA,ar,aw,aB,aE,aF,aC,aH,aQ,aL]) ?_
       | with_reducible refine ay (by assumption) (by simp [ag,aq,aj,aa.int,aa.bool,aa.str,aA,ar,aw,aB,aE,aF,aC,aH,aQ,aL]) ?_
       | with_reducible refine And.intro (a:=ab _ _) (by simp [ab,apart]) ?_
       | with_reducible refine VW.aI 3 (VW.of ?_)
       | with_reducible refine b9.next _ (VW.of ?_)
       | rw [au (by exact rfl) (by exact rfl) (by exact rfl) (by exact rfl) (by exact rfl)]
       | rw [bW (by exact rfl) (by exact rfl) (by exact rfl) (by exact rfl)]
       | rw [bX (by exact rfl) (by exact rfl) (by exact rfl) (by exact rfl) (by exact rfl) (by exact rfl)]
       | refine bG [([0],⟨[dT l],1,false⟩)] h2 (aM.cons (View.pure (aC more)) (aM.cons (View.fn aM.nil (aM.cons (View.ref (bk:=⟨[dT l],1,false⟩) (by simp [ah.of]) rfl (aM.pure (by simp [AV.cells,aC]))) aM.nil)) aM.nil)) (by simp [ah.put,AV.size,AV.cells]) ?_
       | fail)
     exact ax▸ae rfl (aa.int _ _)
   . rw [if_pos rfl]
     repeat (first
       | simp (disch:=first | decide | exact rfl) only [SS,DD,Nat.reduceAdd,reduceIte,af,ai,az,ZZ,CC,aW,g0,g1,g2,decide_true,decide_false,Fs,Mx,List.length_map,hw,d0]
       | with_reducible refine ao (by assumption) (by simp [ag,aq,aj,aa.int,aa.bool,aa.str,aA,ar,aw,aB,aE,aF,aC,aH,aQ,aL]) ?_
       | with_reducible refine ay (by assumption) (by simp [ag,aq,aj,aa.int,aa.bool,aa.str,aA,ar,aw,aB,aE,aF,aC,aH,aQ,aL]) ?_
       | with_reducible refine And.intro (a:=ab _ _) (by simp [ab,apart]) ?_
       | with_reducible refine VW.aI 3 (VW.of ?_)
       | with_reducible refine b9.next _ (VW.of ?_)
       | rw [au (by exact rfl) (by exact rfl) (by exact rfl) (by exact rfl) (by exact rfl)]
       | rw [bW (by exact rfl) (by exact rfl) (by exact rfl) (by exact rfl)]
       | rw [bX (by exact rfl) (by exact rfl) (by exact rfl) (by exact rfl) (by exact rfl) (by exact rfl)]
       | refine bG [([0],⟨[dT l],1,false⟩)] h2 (aM.cons (View.pure (aC more)) (aM.cons (View.fn aM.nil (aM.cons (View.ref (bk:=⟨[dT l],1,false⟩) (by simp [ah.of]) rfl (aM.pure (by simp [AV.cells,aC]))) aM.nil)) aM.nil)) (by simp [ah.put,AV.size,AV.cells]) ?_
       | fail)
     exact ax▸ae rfl (aa.int _ _)
 . rw [if_pos rfl]
   repeat (first
     | simp (disch:=first | decide | exact rfl) only [SS,DD,Nat.reduceAdd,reduceIte,af,ai,az,ZZ,CC,aW,g0,g1,g2,decide_true,decide_false,Fs,Mx,List.length_map,hw,d0]
     | with_reducible refine ao (by assumption) (by simp [ag,aq,aj,aa.int,aa.bool,aa.str,aA,ar,aw,aB,aE,aF,aC,aH,aQ,aL]) ?_
     | with_reducible refine ay (by assumption) (by simp [ag,aq,aj,aa.int,aa.bool,aa.str,aA,ar,aw,aB,aE,aF,aC,aH,aQ,aL]) ?_
     | with_reducible refine And.intro (a:=ab _ _) (by simp [ab,apart]) ?_
     | with_reducible refine VW.aI 3 (VW.of ?_)
     | with_reducible refine b9.next _ (VW.of ?_)
     | rw [au (by exact rfl) (by exact rfl) (by exact rfl) (by exact rfl) (by exact rfl)]
     | rw [bW (by exact rfl) (by exact rfl) (by exact rfl) (by exact rfl)]
     | rw [bX (by exact rfl) (by exact rfl) (by exact rfl) (by exact rfl) (by exact rfl) (by exact rfl)]
     | fail)
   exact ax▸ae rfl (aa.int _ _)
end
end Go.VL
end

section
set_option linter.unusedSimpArgs false
set_option linter.unusedVariables false
set_option maxRecDepth 100000
namespace Go.VL
open Go.Lib
abbrev zN:AV := .agg [.str [], .bool false, .nils, .nils, .nils, .nils, .nils, .nils, .nils, .nils, .nils, .nils, .nils, .nils, .bool false]
theorem s5 {a b:List NX}:aa (.sl 1 [dT a,dT b]):=aa.sl (by intro c hc;simp [flat,AV.cells] at hc;rcases hc with rfl | rfl<;>exact aC _)
theorem abk {q:Id} {n:Nat} (h0:0<n) (hn:n<=1000):H3 q 15 320 zN .nils (.int .i64 (n:Int))=some { val := .osl q 15 0 n false,up:=[(q,some ⟨List.replicate n zN,15,false⟩)] }:=by
 simp only [H3]
 rw [if_pos ⟨by omega,by omega,by have:n<=maxLen:=eC (by omega);omega,rfl,rfl⟩]
 simp
theorem Jv {σ : ah} {p id:Id} {A:List AV} {ys:List NX} {k:Nat} (h : σ id=some ⟨A++List.replicate (ys.length+k) zN,15,false⟩) (h0:ys≠[]) (hl:A.length+ys.length<=1000) :
   eu σ p 15 320 (.osl id 15 0 A.length false) (dT ys)=some { val := .osl id 15 0 (A.length+ys.length) false,rd:=[id],up:=[(id,some ⟨A++ys.map NX.av++List.replicate k zN,15,false⟩)] }:=by
 have hy:0<ys.length:=List.length_pos_iff.2 h0
 have e1:(ys.map NX.av).isEmpty=false:=by simpa using h0
 have hmx:A.length+ys.length<=maxLen:=eC (by omega)
 simp only [eu,fX,e1,h,List.length_map]
 rw [if_neg (by decide),if_pos ⟨trivial,trivial,trivial,by simp,by omega,hmx,nj kA ys⟩,if_neg (by decide),if_neg (fun hh=>by have:=hh.1;rw [List.length_append,List.length_replicate] at this;omega),if_pos ⟨by simp,trivial⟩]
 simp [List.take_append,List.drop_append]
section
variable {P:Program} {G:Nat->Option (List AV)}
theorem Kg {f:FuncId} (h:Has P f du) (n:Nat) (h0:0<n) (hn:n<=1000) (p:Id):bc P G f [.nils, .int .i64 (n:Int)] p [] { val := .osl (18::p) 15 0 0 false,up:=[(18::p,some ⟨List.replicate n zN,15,false⟩)] }:=by
 have d1:decide ((n:Int)<0)=false:=aD (by omega)
 have d2:decide ((0:Int)<(n:Int))=true:=aG (by omega)
 have w1:IntKind.i64.wrap ((0:Int)-0)=0:=by decide
 have w2:IntKind.i64.wrap ((n:Int)-0)=(n:Int):=by rw [IntKind.wrap_i64];omega
 have cp:SJ .nils=some (.int .i64 0):=rfl
 have so:∀ q:Id,fK 15 (.osl q 15 0 n false) none (some (.int .i64 0)) none=some (.osl q 15 0 0 false):=fun q=>GO (h:=0) (Nat.zero_le _)
 refine bc.has h ?_
 simp only [du]
 repeat (first
   | simp (disch:=first | decide | exact rfl) only [bm,SS,DD,Nat.reduceAdd,reduceIte,af,ai,az,ZZ,CC,aW,g0,g1,g2,decide_true,decide_false,d1,d2,w1,w2,cp,dF,En,abk h0 hn,so]
   | with_reducible refine ao (by assumption) (by simp [ag,aq,aj,aa.int,aa.bool,aa.str,aA,ar,aw,aB,aE,aF,aC,aH,aQ,s5,aL]) ?_
   | with_reducible refine ay (by assumption) (by simp [ag,aq,aj,aa.int,aa.bool,aa.str,aA,ar,aw,aB,aE,aF,aC,aH,aQ,s5,aL]) ?_
   | with_reducible refine And.intro (a:=ab _ _) (by simp [ab,apart]) ?_
   | with_reducible refine VW.aI 3 (VW.of ?_)
   | with_reducible refine b9.next _ (VW.of ?_)
   | rw [au (by repeat (first | exact bb | refine (dr (by simp)).trans ?_)) (by exact rfl) (by exact rfl) (by exact rfl) (by exact rfl)]
   | rw [bW (by exact rfl) (by exact rfl) (by exact rfl) (by exact rfl)]
   | rw [bX (by exact rfl) (by exact rfl) (by exact rfl) (by exact rfl) (by exact rfl) (by exact rfl)]
   | fail)
 refine eh▸bK rfl (fun i => ?_)
 by_cases e:i=18::p
 . right;subst e;simp [ah.app,ah.put]
 . left;simp [ah.app,ah.put,ah.of,e]
theorem R8 {f fg:FuncId} (h:Has P f (eo fg)) (hg:Has P fg du) (l more:List NX) (hl:l≠[]) (hm:more≠[]) (hlen:l.length+more.length<=200):VP P G f [.sl 1 [dT l,dT more]] (dT (l++more)):=by
 have l0:0<l.length:=List.length_pos_iff.2 hl
 have w1:IntKind.i64.wrap ((0:Int)+(l.length:Int))=(l.length:Int):=by rw [IntKind.wrap_i64];omega
 have w2:IntKind.i64.wrap ((l.length:Int)+(more.length:Int))=((l.length+more.length:Nat):Int):=by rw [IntKind.wrap_i64];omega
 have d1:decide ((l.length:Int)<0)=false:=aD (by omega)
 have d2:decide (((l.length+more.length:Nat):Int)<0)=false:=aD (by omega)
 have d3:p7 false (.sl 1 [dT l,dT more])=some (.int .i64 2):=rfl
 have a1:∀ (σ : ah) (p id:Id), σ id=some ⟨List.replicate (l.length+more.length) zN,15,false⟩->eu σ p 15 320 (.osl id 15 0 0 false) (dT l)=some { val := .osl id 15 0 l.length false,rd:=[id],up:=[(id,some ⟨l.map NX.av++List.replicate more.length zN,15,false⟩)] }:=fun σ p id hσ => by
   have:=Jv (σ := σ) (p:=p) (id:=id) (A:=[]) (ys:=l) (k:=more.length) (by simpa using hσ) hl (by simp;omega)
   simpa using this
 have a2:∀ (σ : ah) (p id:Id), σ id=some ⟨l.map NX.av++List.replicate more.length zN,15,false⟩->eu σ p 15 320 (.osl id 15 0 l.length false) (dT more)=some { val := .osl id 15 0 (l++more).length false,rd:=[id],up:=[(id,some ⟨(l++more).map NX.av,15,false⟩)] }:=fun σ p id hσ => by
   have:=Jv (σ := σ) (p:=p) (id:=id) (A:=l.map NX.av) (ys:=more) (k:=0) (by simpa using hσ) hm (by simp;omega)
   simpa using this
 refine VP.has h ?_
 simp only [eo]
 repeat (first
   | simp (disch:=first | decide | exact rfl) only [SS,DD,Nat.reduceAdd,reduceIte,af,ai,az,ZZ,CC,aW,g0,g1,g2,decide_true,decide_false,d3,L8,Rx,aN,Mx,List.length_map,w1,w2,d1,d2]
   | with_reducible refine ao (by assumption) (by simp [ag,aq,aj,aa.int,aa.bool,aa.str,aA,ar,aw,aB,aE,aF,aC,aH,aQ,s5,aL]) ?_
   | with_reducible refine ay (by assumption) (by simp [ag,aq,aj,aa.int,aa.bool,aa.str,aA,ar,aw,aB,aE,aF,aC,aH,aQ,s5,aL]) ?_
   | with_reducible refine And.intro (a:=ab _ _) (by simp [ab,apart]) ?_
   | with_reducible refine VW.aI 3 (VW.of ?_)
   | with_reducible refine b9.next _ (VW.of ?_)
   | rw [au (by exact rfl) (by exact rfl) (by exact rfl) (by exact rfl) (by exact rfl)]
   | rw [bW (by exact rfl) (by exact rfl) (by exact rfl) (by exact rfl)]
   | rw [bX (by exact rfl) (by exact rfl) (by exact rfl) (by exact rfl) (by exact rfl) (by exact rfl)]
   | refine ⟨[],_,Kg hg (l.length+more.length) (by omega) (by omega) _,by simp,by simp, ?_⟩
   | rw [a1 _ _ _ (by exact rfl)]
   | rw [a2 _ _ _ (by exact rfl)]
   | fail)
 refine ax▸⟨_,rfl,Kb (by exact rfl)⟩
theorem X9 {f fr fc:FuncId} (h:Has P f (ru fr fc)) (l more:List NX) (hr:VP P G fr [dT l,dT more] (.int .i64 (iE l more))) (hc:iE l more=0->VP P G fc [.sl 1 [dT l,dT more]] (dT (l++more))) :
   VP P G f [dT l,dT more] (if iE l more=0 then .tup [dT (l++more), .int .i64 0] else .tup [.nils, .int .i64 (iE l more)]):=by
 refine VP.has h ?_
 simp only [ru]
 by_cases h0:iE l more=0
 . have d0:decide (iE l more≠0)=false:=aD (by simpa using h0)
   have W5:=hc h0
   rw [if_pos h0]
   have hv:aM (ah.of [([10],⟨[dT l,dT more],1,false⟩)]) [.osl [10] 1 0 2 false] [.sl 1 [dT l,dT more]]:=aM.cons (Uw (b:=false) (by simp [ah.of]) rfl rfl (by intro c hc;simp [AV.cells] at hc;subst hc;exact aC _) (by intro c hc;simp [AV.cells] at hc;subst hc;exact aC _)) aM.nil
   repeat (first
     | simp (disch:=first | decide | exact rfl) only [SS,DD,Nat.reduceAdd,reduceIte,af,ai,az,ZZ,CC,aW,g0,g1,g2,decide_true,decide_false,d0]
     | with_reducible refine ao (by assumption) (by simp [ag,aq,aj,aa.int,aa.bool,aa.str,aA,ar,aw,aB,aE,aF,aC,aH,aQ,s5,aL]) ?_
     | with_reducible refine ay (by assumption) (by simp [ag,aq,aj,aa.int,aa.bool,aa.str,aA,ar,aw,aB,aE,aF,aC,aH,aQ,s5,aL]) ?_
     | with_reducible refine And.intro (a:=ab _ _) (by simp [ab,apart]) ?_
     | with_reducible refine VW.aI 3 (VW.of ?_)
     | with_reducible refine b9.next _ (VW.of ?_)
     | rw [au (by exact rfl) (by exact rfl) (by exact rfl) (by exact rfl) (by exact rfl)]
     | rw [bW (by exact rfl) (by exact rfl) (by exact rfl) (by exact rfl)]
     | rw [bX (by exact rfl) (by exact rfl) (by exact rfl) (by exact rfl) (by exact rfl) (by exact rfl)]
     | refine bG _ W5 hv (by simp [ah.put]) ?_
     | fail)
   exact ax▸ae rfl (aa.tup (by simp [aC,aa.int]))
 . have d0:decide (iE l more≠0)=true:=aG h0
   rw [if_neg h0]
   repeat (first
     | simp (disch:=first | decide | exact rfl) only [SS,DD,Nat.reduceAdd,reduceIte,af,ai,az,ZZ,CC,aW,g0,g1,g2,decide_true,decide_false,d0]
     | with_reducible refine ao (by assumption) (by simp [ag,aq,aj,aa.int,aa.bool,aa.str,aA,ar,aw,aB,aE,aF,aC,aH,aQ,s5,aL]) ?_
     | with_reducible refine ay (by assumption) (by simp [ag,aq,aj,aa.int,aa.bool,aa.str,aA,ar,aw,aB,aE,aF,aC,aH,aQ,s5,aL]) ?_
     | with_reducible refine And.intro (a:=ab _ _) (by simp [ab,apart]) ?_
     | with_reducible refine VW.aI 3 (VW.of ?_)
     | with_reducible refine b9.next _ (VW.of ?_)
     | rw [au (by exact rfl) (by exact rfl) (by exact rfl) (by exact rfl) (by exact rfl)]
     | rw [bW (by exact rfl) (by exact rfl) (by exact rfl) (by exact rfl)]
     | rw [bX (by exact rfl) (by exact rfl) (by exact rfl) (by exact rfl) (by exact rfl) (by exact rfl)]
     | fail)
   exact ax▸ae rfl (aa.tup (by simp [aA,aa.int]))
end
end Go.VL
end

section
set_option linter.unusedSimpArgs false
set_option linter.unusedVariables false
set_option maxRecDepth 100000
namespace Go.VL
open Go.Lib
def ZI:List UInt8:=[48,49,50,51,52,53,54,55,56,57,97,98,99,100,101,102,103,104,105,106,107,108,109,110,111,112,113,114,115,116,117,118,119,120,121,122]
def Hb:List UInt8:=(List.range 100).flatMap fun n=>[UInt8.ofNat (48+n/10),UInt8.ofNat (48+n%10)]
theorem R9:∀ n,n<100->(Hb.take (n*2+2)).drop (n*2)=[UInt8.ofNat (48+n/10),UInt8.ofNat (48+n%10)]:=by decide
theorem Vi {L:List UInt8} (hL:L=Hb) {n:Nat} (hn:n<100):vL (.str L) (some (.int .i64 ((n*2:Nat):Int))) (some (.int .i64 ((n*2+2:Nat):Int)))=some (.str [UInt8.ofNat (48+n/10),UInt8.ofNat (48+n%10)]):=by
 subst hL
 have hlen:Hb.length=200:=by decide
 have h1:n*2+2<=Hb.length:=by omega
 rw [<- R9 n hn]
 have b:gy Hb.length (some (.int .i64 ((n*2:Nat):Int))) (some (.int .i64 ((n*2+2:Nat):Int)))=some (n*2,n*2+2):=by
   rw [hlen];simp only [gy,jW];rw [if_pos (by omega)];simp only [Int.toNat_natCast];rw [if_pos (by omega)]
 simp only [vL,b]
section
variable {P:Program} {G:Nat->Option (List AV)}
theorem Vj {f:FuncId} (h:Has P f ji) (n:Nat) (hn:n<100):VP P G f [.int .i64 (n:Int)] (.str (decDigits n)):=by
 have w1:IntKind.i64.wrap ((n:Int)+1)=((n+1:Nat):Int):=by rw [IntKind.wrap_i64];omega
 have w2:IntKind.i64.wrap ((n:Int)*2)=((n*2:Nat):Int):=by rw [IntKind.wrap_i64];omega
 have w3:IntKind.i64.wrap (((n*2:Nat):Int)+2)=((n*2+2:Nat):Int):=by rw [IntKind.wrap_i64];omega
 refine VP.has h ?_
 simp only [ji]
 by_cases h0:n<10
 . have d0:decide ((n:Int)<10)=true:=aG (by omega)
   have e:∀ n,n<10->vL (.str ZI) (some (.int .i64 ((n:Nat):Int))) (some (.int .i64 ((n+1:Nat):Int)))=some (.str [UInt8.ofNat (48+n)]):=by
     intro n hn
     rcases (by omega:n=0∨n=1∨n=2∨n=3∨n=4∨n=5∨n=6∨n=7∨n=8∨n=9) with rfl | rfl | rfl | rfl | rfl | rfl | rfl | rfl | rfl | rfl<;>rfl
   have e1:=e n h0
   unfold ZI at e1
   rw [oO h0]
   repeat (first
     | simp (disch:=first | decide | exact rfl) only [SS,DD,Nat.reduceAdd,reduceIte,af,ai,az,ZZ,CC,aW,g0,g1,g2,decide_true,decide_false,d0,w1,e1]
     | with_reducible refine ao (by assumption) (by simp [ag,aq,aj,aa.int,aa.bool,aa.str,aA,ar,aw,aB,aE,aF,aC,aH,aQ,aL]) ?_
     | with_reducible refine ay (by assumption) (by simp [ag,aq,aj,aa.int,aa.bool,aa.str,aA,ar,aw,aB,aE,aF,aC,aH,aQ,aL]) ?_
     | with_reducible refine And.intro (a:=ab _ _) (by simp [ab,apart]) ?_
     | with_reducible refine VW.aI 3 (VW.of ?_)
     | with_reducible refine b9.next _ (VW.of ?_)
     | rw [au (by exact rfl) (by exact rfl) (by exact rfl) (by exact rfl) (by exact rfl)]
     | rw [bW (by exact rfl) (by exact rfl) (by exact rfl) (by exact rfl)]
     | rw [bX (by exact rfl) (by exact rfl) (by exact rfl) (by exact rfl) (by exact rfl) (by exact rfl)]
     | fail)
   exact ax▸ae rfl (aa.str _)
 . have d0:decide ((n:Int)<10)=false:=aD (by omega)
   rw [DY h0,oO (by omega)]
   repeat (first
     | simp (disch:=first | decide | exact rfl) only [SS,DD,Nat.reduceAdd,reduceIte,af,ai,az,ZZ,CC,aW,g0,g1,g2,decide_true,decide_false,d0,w2,w3]
     | with_reducible refine ao (by assumption) (by simp [ag,aq,aj,aa.int,aa.bool,aa.str,aA,ar,aw,aB,aE,aF,aC,aH,aQ,aL]) ?_
     | with_reducible refine ay (by assumption) (by simp [ag,aq,aj,aa.int,aa.bool,aa.str,aA,ar,aw,aB,aE,aF,aC,aH,aQ,aL]) ?_
     | with_reducible refine And.intro (a:=ab _ _) (by simp [ab,apart]) ?_
     | with_reducible refine VW.aI 3 (VW.of ?_)
     | with_reducible refine b9.next _ (VW.of ?_)
     | rw [au (by exact rfl) (by exact rfl) (by exact rfl) (by exact rfl) (by exact rfl)]
     | rw [bW (by exact rfl) (by exact rfl) (by exact rfl) (by exact rfl)]
     | rw [bX (by exact rfl) (by exact rfl) (by exact rfl) (by exact rfl) (by exact rfl) (by exact rfl)]
     | rw [Vi (by exact rfl) (by assumption)]
     | fail)
   exact ax▸ae rfl (aa.str _)
theorem Kh {f f1 f2 f3 f4:FuncId} (h:Has P f (gH f1 f2 f3 f4)) (n:Nat) (hn:n<100) (hs:VP P G f1 [.int .i64 (n:Int)] (.str (decDigits n))):VP P G f [.int .i64 (n:Int), .int .i64 10] (.str (decDigits n)):=by
 have d1:decide ((0:Int)<=(n:Int))=true:=aG (by omega)
 have d2:decide ((n:Int)<100)=true:=aG (by omega)
 have d3:decide ((10:Int)=10)=true:=rfl
 refine VP.has h ?_
 simp only [gH]
 repeat (first
   | simp (disch:=first | decide | exact rfl) only [SS,DD,Nat.reduceAdd,reduceIte,af,ai,az,ZZ,CC,aW,g0,g1,g2,decide_true,decide_false,d1,d2,d3]
   | with_reducible refine ao (by assumption) (by simp [ag,aq,aj,aa.int,aa.bool,aa.str,aA,ar,aw,aB,aE,aF,aC,aH,aQ,aL]) ?_
   | with_reducible refine ay (by assumption) (by simp [ag,aq,aj,aa.int,aa.bool,aa.str,aA,ar,aw,aB,aE,aF,aC,aH,aQ,aL]) ?_
   | with_reducible refine And.intro (a:=ab _ _) (by simp [ab,apart]) ?_
   | with_reducible refine VW.aI 3 (VW.of ?_)
   | with_reducible refine b9.next _ (VW.of ?_)
   | rw [au (by exact rfl) (by exact rfl) (by exact rfl) (by exact rfl) (by exact rfl)]
   | rw [bW (by exact rfl) (by exact rfl) (by exact rfl) (by exact rfl)]
   | rw [bX (by exact rfl) (by exact rfl) (by exact rfl) (by exact rfl) (by exact rfl) (by exact rfl)]
   | fail)
 exact ax▸ae rfl (aa.str _)
theorem Vk {f f1:FuncId} (h:Has P f (jO f1)) (n:Nat) (hs:VP P G f1 [.int .i64 (n:Int), .int .i64 10] (.str (decDigits n))):VP P G f [.int .i64 (n:Int)] (.str (decDigits n)):=by
 refine VP.has h ?_
 simp only [jO]
 repeat (first
   | simp (disch:=first | decide | exact rfl) only [SS,DD,Nat.reduceAdd,reduceIte,af,ai,az,ZZ,CC,aW,g0,g1,g2,decide_true,decide_false]
   | with_reducible refine ao (by assumption) (by simp [ag,aq,aj,aa.int,aa.bool,aa.str,aA,ar,aw,aB,aE,aF,aC,aH,aQ,aL]) ?_
   | with_reducible refine ay (by assumption) (by simp [ag,aq,aj,aa.int,aa.bool,aa.str,aA,ar,aw,aB,aE,aF,aC,aH,aQ,aL]) ?_
   | with_reducible refine And.intro (a:=ab _ _) (by simp [ab,apart]) ?_
   | with_reducible refine VW.aI 3 (VW.of ?_)
   | with_reducible refine b9.next _ (VW.of ?_)
   | rw [au (by exact rfl) (by exact rfl) (by exact rfl) (by exact rfl) (by exact rfl)]
   | rw [bW (by exact rfl) (by exact rfl) (by exact rfl) (by exact rfl)]
   | rw [bX (by exact rfl) (by exact rfl) (by exact rfl) (by exact rfl) (by exact rfl) (by exact rfl)]
   | fail)
 exact ax▸ae rfl (aa.str _)
theorem Ya {f f1:FuncId} (h:Has P f (ry f1)) (n:Nat) (hs:VP P G f1 [.int .i64 (n:Int)] (.str (decDigits n))):VP P G f [.int .i64 (n:Int)] (.str (decDigits n)):=by
 refine VP.has h ?_
 simp only [ry]
 repeat (first
   | simp (disch:=first | decide | exact rfl) only [SS,DD,Nat.reduceAdd,reduceIte,af,ai,az,ZZ,CC,aW,g0,g1,g2,decide_true,decide_false]
   | with_reducible refine ao (by assumption) (by simp [ag,aq,aj,aa.int,aa.bool,aa.str,aA,ar,aw,aB,aE,aF,aC,aH,aQ,aL]) ?_
   | with_reducible refine ay (by assumption) (by simp [ag,aq,aj,aa.int,aa.bool,aa.str,aA,ar,aw,aB,aE,aF,aC,aH,aQ,aL]) ?_
   | with_reducible refine And.intro (a:=ab _ _) (by simp [ab,apart]) ?_
   | with_reducible refine VW.aI 3 (VW.of ?_)
   | with_reducible refine b9.next _ (VW.of ?_)
   | rw [au (by exact rfl) (by exact rfl) (by exact rfl) (by exact rfl) (by exact rfl)]
   | rw [bW (by exact rfl) (by exact rfl) (by exact rfl) (by exact rfl)]
   | rw [bX (by exact rfl) (by exact rfl) (by exact rfl) (by exact rfl) (by exact rfl) (by exact rfl)]
   | fail)
 exact ax▸ae rfl (aa.str _)
theorem Hc {f:FuncId} (h:Has P f cm) {es:List AV} (hk:∀ e∈es,e.size=15) (h1:(es.all fun e=>e.cells.all AV.one)=true) (hp:∀ c∈flat es,aa c) (hl:es.length*320<=140737488355328):VP P G f [.sl 15 es] (.sl 15 es):=by
 refine VP.has h ?_
 have hb:∀ (σ : ah) (p:Id),b8 σ p (.buildSl 15 0 zN [])=some { val := .tsl 15 [] }:=fun σ p=>bs0 rfl rfl
 cases es with
 | nil =>
   simp only [cm,SS,Nat.reduceAdd,reduceIte]
   refine ⟨?_, ?_⟩
   . exact ax▸⟨.nils,rfl,View.nils 15⟩
   . simp only [SS,Nat.reduceAdd,reduceIte,hb,oD fX]
     exact ax▸⟨_,rfl,View.WT 15⟩
 | cons e es =>
   simp only [cm,SS,Nat.reduceAdd,reduceIte,hb]
   rw [nM (es:=[]) fX (by simp) (by simpa using hl) (eC (by simp at hl ⊢;omega)) (by simpa using h1)]
   simp only [SS,Nat.reduceAdd,reduceIte]
   refine ax▸⟨_,rfl,View.osl (bk:=⟨e::es,15,false⟩) rfl rfl (by simp) ?_ (by simp) hk⟩
   simpa using aM.pure hp
theorem HW {f:FuncId} (h:Has P f cm) (l:List NX) (hl:l.length<=1000000):VP P G f [dT l] (dT l) :=
 Hc h (by intro a ha;obtain ⟨y,_,rfl⟩:=List.mem_map.1 ha;rfl) (nj kA l) (vE l) (by simp;omega)
end
end Go.VL
end

section
set_option linter.unusedSimpArgs false
set_option linter.unusedVariables false
set_option maxRecDepth 100000
namespace Go.VL
open Go.Lib
section
variable {P:Program} {G:Nat->Option (List AV)}
theorem Ki {f ff fi:FuncId} (h:Has P f (nu ff fi)) (a:Q2):da P G f [V2 a, .int .i64 0] (V2 a):=fun p id jS=>by
 have hq:=ly jS
 refine bc.has h ?_
 simp only [nu]
 repeat (first
   | simp (disch:=first | decide | exact rfl) only [bm,SS,DD,Nat.reduceAdd,reduceIte,af,ai,az,ZZ,CC,aW,g0,g1,g2,decide_true,decide_false,fE,cC,cz]
   | with_reducible refine ao (by assumption) (by simp [ag,aq,aj,aa.int,aa.bool,aa.str,aA,ar,aw,aB,aE,aF,aC,aH,aQ,aL]) ?_
   | with_reducible refine ay (by assumption) (by simp [ag,aq,aj,aa.int,aa.bool,aa.str,aA,ar,aw,aB,aE,aF,aC,aH,aQ,aL]) ?_
   | with_reducible refine And.intro (a:=ab _ _) (by simp [ab,apart]) ?_
   | with_reducible refine VW.aI 3 (VW.of ?_)
   | with_reducible refine b9.next _ (VW.of ?_)
   | rw [au (by repeat (first | exact bb | refine (dr (by simp)).trans ?_)) (by exact rfl) (by exact rfl) (by exact rfl) (by exact rfl)]
   | rw [bW (by exact rfl) (by exact rfl) (by exact rfl) (by exact rfl)]
   | rw [bX (by exact rfl) (by exact rfl) (by exact rfl) (by exact rfl) (by exact rfl) (by exact rfl)]
   | fail)
 refine eh▸bK (by simp (disch:=decide) only [RS,a8,bg,ai,cC]) (zt (by simp [ah.app,ah.put,ah.of,hq]))
theorem Yb {f fa fv:FuncId} (h:Has P f (nw fa fv)) (a b:Q2) (ha:VP P G fa [V2 a,V2 b] (.tup [V2 (gv a b), .int .i64 0])) (hv:∀ a,da P G fv [V2 a, .int .i64 0] (V2 a)):da P G f [V2 a,V2 b] (V2 (gv a b)):=fun p id jS=>by
 have hq:=ly jS
 refine bc.has h ?_
 simp only [nw]
 repeat (first
   | simp (disch:=first | decide | exact rfl) only [bm,SS,DD,Nat.reduceAdd,reduceIte,af,ai,az,ZZ,CC,aW,g0,g1,g2,decide_true,decide_false,fE,cC,cz]
   | with_reducible refine ao (by assumption) (by simp [ag,aq,aj,aa.int,aa.bool,aa.str,aA,ar,aw,aB,aE,aF,aC,aH,aQ,aL]) ?_
   | with_reducible refine ay (by assumption) (by simp [ag,aq,aj,aa.int,aa.bool,aa.str,aA,ar,aw,aB,aE,aF,aC,aH,aQ,aL]) ?_
   | with_reducible refine And.intro (a:=ab _ _) (by simp [ab,apart]) ?_
   | with_reducible refine VW.aI 3 (VW.of ?_)
   | with_reducible refine b9.next _ (VW.of ?_)
   | rw [au (by repeat (first | exact bb | refine (dr (by simp)).trans ?_)) (by exact rfl) (by exact rfl) (by exact rfl) (by exact rfl)]
   | rw [bW (by exact rfl) (by exact rfl) (by exact rfl) (by exact rfl)]
   | rw [bX (by exact rfl) (by exact rfl) (by exact rfl) (by exact rfl) (by exact rfl) (by exact rfl)]
   | refine gw (hv _) jS (by simp [ah.put,ah.of,hq]) ?_
   | fail)
 refine eh▸bK (by simp (disch:=decide) only [RS,a8,bg,ai,cC]) (zt (by simp [ah.app,ah.put,ah.of,hq]))
theorem Sa {f fa fv:FuncId} (h:Has P f (ml fa fv)) (a:Q2) (n:Rat) (ha:VP P G fa [V2 a,NV n] (.tup [V2 (ga a n), .int .i64 0])) (hv:∀ a,da P G fv [V2 a, .int .i64 0] (V2 a)):da P G f [V2 a,NV n] (V2 (ga a n)):=fun p id jS=>by
 have hq:=ly jS
 refine bc.has h ?_
 simp only [ml]
 repeat (first
   | simp (disch:=first | decide | exact rfl) only [bm,SS,DD,Nat.reduceAdd,reduceIte,af,ai,az,ZZ,CC,aW,g0,g1,g2,decide_true,decide_false,fE,cC,eM,cA,cz]
   | with_reducible refine ao (by assumption) (by simp [ag,aq,aj,aa.int,aa.bool,aa.str,aA,ar,aw,aB,aE,aF,aC,aH,aQ,aL]) ?_
   | with_reducible refine ay (by assumption) (by simp [ag,aq,aj,aa.int,aa.bool,aa.str,aA,ar,aw,aB,aE,aF,aC,aH,aQ,aL]) ?_
   | with_reducible refine And.intro (a:=ab _ _) (by simp [ab,apart]) ?_
   | with_reducible refine VW.aI 3 (VW.of ?_)
   | with_reducible refine b9.next _ (VW.of ?_)
   | rw [au (by repeat (first | exact bb | refine (dr (by simp)).trans ?_)) (by exact rfl) (by exact rfl) (by exact rfl) (by exact rfl)]
   | rw [bW (by exact rfl) (by exact rfl) (by exact rfl) (by exact rfl)]
   | rw [bX (by exact rfl) (by exact rfl) (by exact rfl) (by exact rfl) (by exact rfl) (by exact rfl)]
   | refine gw (hv _) jS (by simp [ah.put,ah.of,hq]) ?_
   | fail)
 refine eh▸bK (by simp (disch:=decide) only [RS,a8,bg,ai,cC]) (zt (by simp [ah.app,ah.put,ah.of,hq]))
end
end Go.VL
end

section
set_option linter.unusedSimpArgs false
set_option linter.unusedVariables false
set_option maxRecDepth 100000
namespace Go.VL
open Go.Lib
def Hp (c w k:Id) (way:Q2):List (Id × dA):=[(c,⟨[.ref k 0 0],1,false⟩),(w,⟨[V2 way],4,false⟩),(k,eB)]
def ImC (P:Program) (G:Nat->Option (List AV)) (f:FuncId) (HX:List AV) (S:List (Id × dA)) (im:Q2->Q2) (ok:Q2->Prop):Prop :=
 ∀ p:Id,(∀ x∈S, ¬ p <:+ x.1)->∀ a:Q2,ok a->bc P G f (V2 a::HX) p S { val:=V2 (im a),rd:=S.map (·.1) }
section
variable {P:Program} {G:Nat->Option (List AV)}
theorem abl {c w k:Id} {way:Q2}:ah.of (Hp c w k way) c=some ⟨[.ref k 0 0],1,false⟩:=by simp [ah.of,Hp]
theorem Yc {c w k:Id} {way:Q2} (h:c≠w):ah.of (Hp c w k way) w=some ⟨[V2 way],4,false⟩:=by
 have e:(w==c)=false:=by simp [h.symm]
 simp [ah.of,Hp,List.lookup,e]
theorem Yd {c w k:Id} {way:Q2} (h:c≠k) (g:w≠k):ah.of (Hp c w k way) k=some eB:=by
 have e:(k==c)=false:=by simp [h.symm]
 have e':(k==w)=false:=by simp [g.symm]
 simp [ah.of,Hp,List.lookup,e,e']
theorem ahz {c w k i:Id} {way:Q2} (h:i≠c) (g:i≠w) (l:i≠k):ah.of (Hp c w k way) i=none:=by
 have e:(i==c)=false:=by simp [h]
 have e':(i==w)=false:=by simp [g]
 have e'':(i==k)=false:=by simp [l]
 simp [ah.of,Hp,List.lookup,e,e',e'']
theorem abm {c w k:Id} {way:Q2} {σ : ah} (hc:c≠w) (hk:c≠k) (hw:w≠k) (h1 : σ c=some ⟨[.ref k 0 0],1,false⟩) (h2 : σ w=some ⟨[V2 way],4,false⟩) (h3 : σ k=some eB) (i:Id):(ah.of (Hp c w k way)).app [] i=none∨(ah.of (Hp c w k way)).app [] i = σ i:=by
 by_cases e1:i=c
 . subst e1;right;rw [h1];simpa [ah.app] using abl
 by_cases e2:i=w
 . subst e2;right;rw [h2];simpa [ah.app] using Yc hc
 by_cases e3:i=k
 . subst e3;right;rw [h3];simpa [ah.app] using Yd hk hw
 . left;simpa [ah.app] using ahz e1 e2 e3
theorem abn {c w k:Id} {way:Q2}:jm (ah.of (Hp c w k way)) false 1 (.ref c 0 0)=some { val := .ref k 0 0,rd:=[c] }:=by
 rw [qT (bk:=⟨[.ref k 0 0],1,false⟩) (el := .ref k 0 0) (by simp [ah.of,Hp]) rfl];rfl
theorem abo {c w k:Id} {way:Q2} (h:c≠w):jm (ah.of (Hp c w k way)) true 4 (.ref w 0 0)=some { val:=V2 way,rd:=[w] }:=by
 rw [qT (bk:=⟨[V2 way],4,false⟩) (el:=V2 way) (Yc h) rfl];simp [cC]
theorem Kj {f fa:FuncId} {way:Q2} {c w k:Id} (d1:c≠w) (d2:c≠k) (d3:w≠k) (h:Has P f (fG fa)) (ha:∀ a,m9 5000 a->da P G fa [V2 a,V2 way] (V2 (gv a way))):ImC P G f [.ref c 0 0, .ref w 0 0] (Hp c w k way) (fun a=>gv a way) (m9 5000):=fun p hS a sa=>by
 have hk : ¬ p <:+ k:=hS (k,eB) (by simp [Hp])
 have q1:=ly (hS (c,⟨[.ref k 0 0],1,false⟩) (by simp [Hp]))
 have q2:=ly (hS (w,⟨[V2 way],4,false⟩) (by simp [Hp]))
 have q3:=ly hk
 have ha1:=ha a sa
 show bc P G f [V2 a, .ref c 0 0, .ref w 0 0] p (Hp c w k way) { val:=V2 (gv a way),rd:=[c,w,k] }
 refine bc.has h ?_
 simp only [fG]
 repeat (first
   | simp (disch:=first | decide | exact rfl) only [bm,SS,DD,Nat.reduceAdd,reduceIte,af,ai,az,ZZ,CC,aW,g0,g1,g2,decide_true,decide_false,fE,cC,cz,abn,abo d1,af (q1 _),af (q2 _)]
   | with_reducible refine ao (by assumption) (by simp [ag,aq,aj,aa.int,aa.bool,aa.str,aA,ar,aw,aB,aE,aF,aC,aH,aQ,aL]) ?_
   | with_reducible refine ay (by assumption) (by simp [ag,aq,aj,aa.int,aa.bool,aa.str,aA,ar,aw,aB,aE,aF,aC,aH,aQ,aL]) ?_
   | with_reducible refine And.intro (a:=ab _ _) (by simp [ab,apart]) ?_
   | with_reducible refine VW.aI 3 (VW.of ?_)
   | with_reducible refine b9.next _ (VW.of ?_)
   | rw [au (by repeat (first | exact bb | refine (dr (by simp)).trans ?_)) (by exact rfl) (by exact rfl) (by exact rfl) (by exact rfl)]
   | rw [bW (by exact rfl) (by exact rfl) (by exact rfl) (by exact rfl)]
   | rw [bX (by exact rfl) (by exact rfl) (by exact rfl) (by exact rfl) (by exact rfl) (by exact rfl)]
   | refine gw ha1 hk (by simp [ah.put,q3,Yd d2 d3]) ?_
   | fail)
 refine eh▸bK (by simp (disch:=decide) only [RS,a8,bg,ai,cC]) (abm d1 d2 d3 (by simp [ah.app,ah.put,q1,abl]) (by simp [ah.app,ah.put,q2,Yc d1]) (by simp [ah.app,ah.put,q3,Yd d2 d3]))
end
end Go.VL
end

section
set_option linter.unusedSimpArgs false
set_option linter.unusedVariables false
set_option maxRecDepth 100000
namespace Go.VL
open Go.Lib
def CX.img (x:CX) (im:Q2->Q2) (mir:Bool):CX:=⟨x.G4,im x.a,im x.b,if x.G4 then im x.c else x.c,if x.G4 then !(x.cw==mir) else x.cw⟩
theorem Vl {σ σ':ah} {id:Id} {b:Option dA} (h : σ' id=none) (hs:∀ i, σ' i=none ∨ σ' i = σ i) (i:Id) : σ' i=none ∨ σ' i=(σ.put id b) i:=by
 by_cases e:i=id
 . subst e;exact .inl h
 . rw [dr e];exact hs i
theorem sub_self {σ : ah}:∀ i, σ i=none ∨ σ i = σ i:=fun _ => .inr rfl
section
variable {P:Program} {G:Nat->Option (List AV)} {π : Id} {base:Nat} {Q:cd->VS->Prop} {n:Nat} {ps:List (Nat × Nat)} {d:Option Nat} {os:List bA} {i:Nat} {t:List AV} {σ : ah} {acc:List eT} {f:FuncId} {HX:List AV} {S:List (Id × dA)} {im:Q2->Q2} {ok:Q2->Prop} {a:Q2}
theorem Qa {p:Id} {x:Id} {m:Nat} (h : ¬ p <:+ x) : ¬ (m::p) <:+ x:=fun ⟨q,e⟩=>h ⟨q++[m],by simpa using e⟩
theorem Sb (h:ImC P G f HX S im ok) (hp:∀ x∈S, ¬ π <:+ x.1) (ha:ok a) (hσ : ∀ x∈S, σ x.1=some x.2) (k:vs P G π base Q n os (i+1) (gg t d (V2 (im a))) σ):yv P G π base Q n d os i t σ f (V2 a::HX) :=
 ⟨_,_,h _ (fun x hx=>Qa (hp x hx)) a ha,hσ,fun x hx=>List.mem_map.2 ⟨x,hx,rfl⟩,k⟩
theorem Sc (h:ImC P G f HX S im ok) (hp:∀ x∈S, ¬ π <:+ x.1) (ha:ok a) (hσ : ∀ x∈S, σ x.1=some x.2) (k:vd P G π base Q n ps os (i+1) ({ val:=V2 (im a),rd:=S.map (·.1) }::acc) (gg t d (V2 (im a))) σ):Dd P G π base Q n ps d os i acc t σ f (V2 a::HX) :=
 ⟨_,_,h _ (fun x hx=>Qa (hp x hx)) a ha,hσ,fun x hx=>List.mem_map.2 ⟨x,hx,rfl⟩,k⟩
end
section
variable {P:Program} {G:Nat->Option (List AV)}
set_option maxHeartbeats 2000000 in
theorem Sd {f fi:FuncId} (h:Has P f ig) (pre:List UInt8) (ins:List (List UInt8)) (g:List UInt8->CX) {HX:List AV} {S:List (Id × dA)} {im:Q2->Q2} {ok:Q2->Prop} (mir:Bool) (hI:ImC P G fi HX S im ok) (hS:∀ x∈S,ah.of S x.1=some x.2)
   (gP:∀ s∈ins,ok (g s).a/\ok (g s).b/\ok (g s).c) (hlen:ins.length<=1000) (aei:pre.length<=100000) (js:∀ s∈ins,s.length<=100000) (p:Id) (hp:∀ x∈S, ¬ p <:+ x.1) (F:List UInt8->AV) (hF:∀ s,F s=NX.av ⟨pre++[47]++s,(g s).img im mir⟩) :
   bc P G f [.str pre,strs ins,Oh (ins.map g), .fn (.func fi) [] HX, .bool mir] p S { val := .osl (3::p) 15 0 ins.length false,rd:=S.map (·.1),up:=[(3::p,some ⟨ins.map F,15,false⟩)] }:=by
 have hne:∀ x∈S,∀ q,x.1≠q::p:=fun x hx q=>ly (hp x hx) q
 have h0:∀ q,ah.of S (q::p)=none:=fun q=>by
   show S.lookup (q::p)=none
   rw [List.lookup_eq_none_iff]
   intro x hx
   simpa using fun e=>hne x hx q e.symm
 have ss:=fun q:Id=>ZH (p:=q) (k:=15) (bytes:=320) (n:=ins.length) (z:=zN) (by omega) (by omega) rfl rfl
 refine bc.has h ?_
 simp only [ig]
 repeat (first
   | simp (disch:=first | decide | exact rfl | with_reducible assumption | exact Nat.ne_of_lt (by repeat (first | with_reducible assumption | apply Nat.lt_add_right))) only [bm,SS,DD,Nat.reduceAdd,reduceIte,af,ai,ZZ,CC,aW,g0,g1,g2,decide_true,decide_false,eS,ss,List.length_map]
   | with_reducible refine ao (by assumption) (by simp [ag,aq,aj,aa.int,aa.bool,aa.str,aA,ar,aw,aB,aE,aF,aC,aH,aQ,aL]) ?_
   | with_reducible refine ay (by assumption) (by simp [ag,aq,aj,aa.int,aa.bool,aa.str,aA,ar,aw,aB,aE,aF,aC,aH,aQ,aL]) ?_
   | with_reducible refine And.intro (a:=ab _ _) (by simp [ab,apart];try assumption) ?_
   | rw [au (by repeat (first | with_reducible exact bb | refine (bE (by first | with_reducible assumption | decide | exact Nat.ne_of_lt (by repeat (first | with_reducible assumption | apply Nat.lt_add_right)))).trans ?_)) (by exact rfl) (by exact rfl) (by exact rfl) (by exact rfl)]
   | rw [bW (by exact rfl) (by exact rfl) (by exact rfl) (by exact rfl)]
   | rw [bX (by exact rfl) (by exact rfl) (by exact rfl) (by exact rfl) (by exact rfl) (by exact rfl)]
   | fail)
 simp only [az]
 refine VW.dU (α := Nat × Nat) (fun y=>⟨[.str pre,strs ins,Oh (ins.map g), .fn (.func fi) [] HX, .bool mir]++List.replicate 6 .top++[.osl (3::p) 15 0 ins.length false]++List.replicate 5 .top++[Oh (ins.map g), .int .i64 ins.length, .int .i64 (y.1:Nat)]++List.replicate 40 .top,
   (ah.of S).put (3::p) (some ⟨(ins.take y.1).map F++List.replicate (ins.length-y.1) zN,15,false⟩),y.2⟩)
   (fun y=>y.1<=ins.length/\1000<=y.2) (fun y=>ins.length-y.1) (0,1000) ?_ ⟨Nat.zero_le _,Nat.le_refl _⟩ ?_
 . exact Wk.slots (by simp [Fg,List.replicate]) (by omega)
 rintro ⟨i,m⟩ ⟨hi,hm⟩
 simp only [] at hi hm
 by_cases hlt:i<ins.length
 . obtain ⟨s,hs⟩:∃ s,ins[i]? = some s:=⟨ins[i],by simp [hlt]⟩
   have d:decide ((i:Int)<(ins.length:Int))=true:=aG (by omega)
   have hms:=List.mem_of_getElem? hs
   obtain ⟨oa,ob,oc⟩:=gP s hms
   have hc:(ins.map g)[i]? = some (g s):=by rw [List.getElem?_map,hs];rfl
   have hw:=aP i (by omega)
   have l3:3<m:=by omega
   have b1:i+1<=ins.length:=hlt
   have b2:ins.length-(i+1)<ins.length-i:=by omega
   have c1:=ni (a:=pre) (b:=[47]) (by simp;omega)
   have c2:=ni (a:=pre++[47]) (b:=s) (by have:=js s hms;simp;omega)
   have mE:cW 15 (.osl (3::p) 15 0 ins.length false) (.int .i64 (i:Int))=some (.ref (3::p) i 0):=by rw [GH hlt,Nat.zero_add]
   have E6:=zQ (f:=F) hs
   obtain ⟨k,hk⟩:∃ k,ins.length-i=k+1:=⟨ins.length-i-1,by omega⟩
   have hk2:ins.length-(i+1)=k:=by omega
   have hA:((ins.take i).map F).length=i:=by simp;omega
   have hst:∀ (σ : ah) (x:CX),x=(g s).img im mir -> σ (3::p)=some ⟨(ins.take i).map F++List.replicate (ins.length-i) zN,15,false⟩->fJ σ 15 (.ref (3::p) i 0) (NX.av ⟨pre++[47]++s,x⟩)=some { val := .tup [],rd:=[3::p],up:=[(3::p,some ⟨(ins.take (i+1)).map F++List.replicate (ins.length-(i+1)) zN,15,false⟩)] }:=fun σ x hx hσ => by
     rw [fH (n:=15) (v:=NX.av ⟨pre++[47]++s,x⟩) (el:=zN) hσ (by rw [hk,List.getElem?_append_right (by omega),hA,Nat.sub_self];rfl) rfl (by decide) (of_eq_true (kA _))]
     rw [E6,hk2,hk,Mw hA,hF s,hx]
     rfl
   clear gP ss js E6 hA
   simp only []
   generalize g s=z at *
   generalize pre++[47]++s=nm at *
   rcases z with ⟨_ | _,za,zb,zc,zw⟩
   all_goals
     repeat (first
       | simp (disch:=first | decide | exact rfl | with_reducible assumption | exact Nat.ne_of_lt (by repeat (first | with_reducible assumption | apply Nat.lt_add_right))) only [bm,SS,DD,Nat.reduceAdd,reduceIte,af,ai,ZZ,CC,aW,g0,g1,g2,decide_true,decide_false,List.length_map,d,Oi hc,nF hs,vF,aN,mU,oQ,Et,Eu,Ev,G6,UY,cC,kA,gC,c1,c2,G9,Ms,mE,hw]
       | with_reducible refine ao (by assumption) (by simp [ag,aq,aj,aa.int,aa.bool,aa.str,aA,ar,aw,aB,aE,aF,aC,aH,aQ,aL]) ?_
       | with_reducible refine ay (by assumption) (by simp [ag,aq,aj,aa.int,aa.bool,aa.str,aA,ar,aw,aB,aE,aF,aC,aH,aQ,aL]) ?_
       | with_reducible refine And.intro (a:=ab _ _) (by simp [ab,apart];try assumption) ?_
       | rw [au (by repeat (first | with_reducible exact bb | refine (bE (by first | with_reducible assumption | decide | exact Nat.ne_of_lt (by repeat (first | with_reducible assumption | apply Nat.lt_add_right)))).trans ?_)) (by exact rfl) (by exact rfl) (by exact rfl) (by exact rfl)]
       | rw [bW (by exact rfl) (by exact rfl) (by exact rfl) (by exact rfl)]
       | rw [bX (by exact rfl) (by exact rfl) (by exact rfl) (by exact rfl) (by exact rfl) (by exact rfl)]
       | rw [Fj (by repeat (first | with_reducible exact bb | refine (bE (by first | with_reducible assumption | decide | exact Nat.ne_of_lt (by repeat (first | with_reducible assumption | apply Nat.lt_add_right)))).trans ?_))]
       | rw [Fk (by repeat (first | with_reducible exact bb | refine (bE (by first | with_reducible assumption | decide | exact Nat.ne_of_lt (by repeat (first | with_reducible assumption | apply Nat.lt_add_right)))).trans ?_))]
       | rw [Fl (by repeat (first | with_reducible exact bb | refine (bE (by first | with_reducible assumption | decide | exact Nat.ne_of_lt (by repeat (first | with_reducible assumption | apply Nat.lt_add_right)))).trans ?_))]
       | rw [UZ (by repeat (first | with_reducible exact bb | refine (bE (by first | with_reducible assumption | decide | exact Nat.ne_of_lt (by repeat (first | with_reducible assumption | apply Nat.lt_add_right)))).trans ?_))]
       | refine Sc hI hp (by with_reducible assumption) (fun x hx=>by repeat (first | exact hS x hx | refine (dr (hne x hx _)).trans ?_)) ?_
       | refine Sb hI hp (by with_reducible assumption) (fun x hx=>by repeat (first | exact hS x hx | refine (dr (hne x hx _)).trans ?_)) ?_
       | rw [hst _ _ (by exact rfl) (by repeat (first | with_reducible exact bb | refine (bE (by first | with_reducible assumption | decide | exact Nat.ne_of_lt (by repeat (first | with_reducible assumption | apply Nat.lt_add_right)))).trans ?_))]
       | fail)
     exact ⟨(i+1,_),⟨b1,by simp only [];omega⟩,b2,Wk.forget (by simp [Fg,List.replicate]) (dG (by exact bb) (by repeat (first | exact sub_self | refine Vl (h0 _) ?_))) (Nat.le_refl _)⟩
 . have d:decide ((i:Int)<(ins.length:Int))=false:=aD (by omega)
   have U4:i=ins.length:=by omega
   subst U4
   simp only [List.take_length,Nat.sub_self,List.replicate_zero,List.append_nil]
   clear gP ss
   repeat (first
     | simp (disch:=first | decide | exact rfl | with_reducible assumption | exact Nat.ne_of_lt (by repeat (first | with_reducible assumption | apply Nat.lt_add_right))) only [bm,SS,DD,Nat.reduceAdd,reduceIte,af,ai,ZZ,CC,aW,g0,g1,g2,decide_true,decide_false,List.length_map,d]
     | with_reducible refine ao (by assumption) (by simp [ag,aq,aj,aa.int,aa.bool,aa.str,aA,ar,aw,aB,aE,aF,aC,aH,aQ,aL]) ?_
     | with_reducible refine ay (by assumption) (by simp [ag,aq,aj,aa.int,aa.bool,aa.str,aA,ar,aw,aB,aE,aF,aC,aH,aQ,aL]) ?_
     | with_reducible refine And.intro (a:=ab _ _) (by simp [ab,apart];try assumption) ?_
     | rw [au (by repeat (first | with_reducible exact bb | refine (bE (by first | with_reducible assumption | decide | exact Nat.ne_of_lt (by repeat (first | with_reducible assumption | apply Nat.lt_add_right)))).trans ?_)) (by exact rfl) (by exact rfl) (by exact rfl) (by exact rfl)]
     | rw [bW (by exact rfl) (by exact rfl) (by exact rfl) (by exact rfl)]
     | rw [bX (by exact rfl) (by exact rfl) (by exact rfl) (by exact rfl) (by exact rfl) (by exact rfl)]
     | fail)
   exact eh▸bK rfl (fun i => .inr rfl)
end
end Go.VL
end

section
namespace Go.VL
mutual
def AV.dV (ρ : Id->Id):AV->AV
 | .fn f a c => .fn f (cy ρ a) (cy ρ c)
 | .agg cs => .agg (cy ρ cs)
 | .tup cs => .tup (cy ρ cs)
 | .sl k es => .sl k (cy ρ es)
 | .tsl k es => .tsl k (cy ρ es)
 | .osl i k o l t => .osl (ρ i) k o l t
 | .ref i e o => .ref (ρ i) e o
 | .ep cs o => .ep (cy ρ cs) o
 | .bool b => .bool b
 | .int k n => .int k n
 | .str l => .str l
 | .nilp => .nilp
 | .nilf => .nilf
 | .nils => .nils
 | .top => .top
 | .anyb => .anyb
 | .ige n => .ige n
def cy (ρ : Id->Id):List AV->List AV
 | []=>[]
 | c::cs=>c.dV ρ :: cy ρ cs
end
def dA.dV (ρ : Id->Id) (b:dA):dA:=⟨cy ρ b.els,b.k,b.fr⟩
section
variable {ρ : Id->Id}
theorem iX:∀ {cs:List AV},cy ρ cs=cs.map (AV.dV ρ)
 | []=>rfl
 | c::cs=>by simp only [cy,List.map_cons,iX (cs:=cs)]
theorem iz {cs:List AV}:(cy ρ cs).length=cs.length:=by rw [iX,List.length_map]
theorem zS (c:AV):(c.dV ρ).cells=cy ρ c.cells:=by cases c<;>rfl
theorem My (c:AV):(c.dV ρ).size=c.size:=by unfold AV.size;rw [zS,iz]
theorem zA {xs ys:List AV}:cy ρ (xs++ys)=cy ρ xs++cy ρ ys:=by simp only [iX,List.map_append]
theorem Hd:∀ {es:List AV},flat (cy ρ es)=cy ρ (flat es)
 | []=>rfl
 | e::es=>by
   have h1:flat (e::es)=e.cells++flat es:=by simp [flat]
   have h2:flat (cy ρ (e::es))=(e.dV ρ).cells++flat (cy ρ es):=by simp [flat,cy]
   rw [h1,h2,zS,zA,Hd (es:=es)]
theorem D0 {k:Nat} {es:List AV} (h:∀ e∈es,e.size=k):∀ e∈cy ρ es,e.size=k:=by
 intro e he;rw [iX] at he;obtain ⟨x,hx,rfl⟩:=List.mem_map.1 he;rw [My];exact h x hx
theorem Bk {k:Nat} {es:List AV} (h:∀ e∈cy ρ es,e.size=k):∀ e∈es,e.size=k:=by
 intro e he;rw [<- My (ρ := ρ)];exact h _ (by rw [iX];exact List.mem_map.2 ⟨e,he,rfl⟩)
mutual
theorem aX.dV {E E':Env} {w:World} (hμ : ∀ i x,E.μ i=some x->E'.μ (ρ i)=some x) (gP:∀ b,E.ok b->E'.ok b):∀ (c:AV) (v:Value),aX E w c v->aX E' w (c.dV ρ) v
 | .bool _,_,r=>by simpa [aX,AV.dV] using r
 | .int _ _,_,r=>by simpa [aX,AV.dV] using r
 | .str _,_,r=>by simpa [aX,AV.dV] using r
 | .nilp,_,r=>by simpa [aX,AV.dV] using r
 | .nilf,_,r=>by simpa [aX,AV.dV] using r
 | .nils,_,r=>by simpa [aX,AV.dV] using r
 | .top,_,_=>by simp [aX,AV.dV]
 | .anyb,_,r=>by simpa [aX,AV.dV] using r
 | .ige _,_,r=>by simpa [aX,AV.dV] using r
 | .fn f a c,v,r=>by
   simp only [aX,AV.dV] at r ⊢
   obtain ⟨xs,ys,e,ra,rc⟩:=r
   exact ⟨xs,ys,e,bf.dV hμ gP a _ ra,bf.dV hμ gP c _ rc⟩
 | .agg cs,v,r=>by
   simp only [aX,AV.dV] at r ⊢
   obtain ⟨xs,e,ra⟩:=r
   exact ⟨xs,e,bf.dV hμ gP cs _ ra⟩
 | .tup cs,v,r=>by
   simp only [aX,AV.dV] at r ⊢
   obtain ⟨xs,e,ra⟩:=r
   exact ⟨xs,e,bf.dV hμ gP cs _ ra⟩
 | .sl k es,v,r=>by
   simp only [aX,AV.dV] at r ⊢
   obtain ⟨a,cap,e,h1,h2,hk,h3⟩:=r
   refine ⟨a,cap,by rw [iz];exact e,by rw [iz];exact h1,h2,D0 hk,h3.imp (fun h=>by rw [h];rfl) ?_⟩
   rintro ⟨b,o,ea,hb,hr⟩
   exact ⟨b,o,ea,gP b hb,bp.dV hμ gP es o hr⟩
 | .tsl k es,v,r=>by
   simp only [aX,AV.dV] at r ⊢
   obtain ⟨a,e,h2,hk,h3⟩:=r
   refine ⟨a,by rw [iz];exact e,by rw [iz];exact h2,D0 hk,h3.imp (fun h=>by rw [h];rfl) ?_⟩
   rintro ⟨b,o,ea,hb,hr⟩
   exact ⟨b,o,ea,gP b hb,bp.dV hμ gP es o hr⟩
 | .osl id k off len t,v,r=>by
   simp only [aX,AV.dV] at r ⊢
   obtain ⟨g,N,cap,hm,rest⟩:=r
   exact ⟨g,N,cap,hμ _ _ hm,rest⟩
 | .ref id e o,v,r=>by
   simp only [aX,AV.dV] at r ⊢
   obtain ⟨g,k,N,hm,rest⟩:=r
   exact ⟨g,k,N,hμ _ _ hm,rest⟩
 | .ep cs o,v,r=>by
   simp only [aX,AV.dV] at r ⊢
   obtain ⟨b,p,e,hb,hr⟩:=r
   exact ⟨b,p,e,gP b hb,bu.dV hμ gP cs p hr⟩
theorem bf.dV {E E':Env} {w:World} (hμ : ∀ i x,E.μ i=some x->E'.μ (ρ i)=some x) (gP:∀ b,E.ok b->E'.ok b):∀ (cs:List AV) (vs:List Value),bf E w cs vs->bf E' w (cy ρ cs) vs
 | [],_,r=>by simpa [bf,cy] using r
 | c::cs,vs,r=>by
   simp only [bf,cy] at r ⊢
   obtain ⟨v,rest,e,r1,r2⟩:=r
   exact ⟨v,rest,e,aX.dV hμ gP c v r1,bf.dV hμ gP cs rest r2⟩
theorem bp.dV {E E':Env} {w:World} (hμ : ∀ i x,E.μ i=some x->E'.μ (ρ i)=some x) (gP:∀ b,E.ok b->E'.ok b) {b:Nat}:∀ (es:List AV) (o:Nat),bp E w b o es->bp E' w b o (cy ρ es)
 | [],_,_=>by simp [bp,cy]
 | .agg cs::es,o,r=>by
   simp only [bp,cy,AV.dV,iz] at r ⊢
   exact ⟨bu.dV hμ gP cs o r.1,bp.dV hμ gP es _ r.2⟩
 | .bool _::es,o,r | .int _ _::es,o,r | .str _::es,o,r | .nilp::es,o,r | .nilf::es,o,r | .nils::es,o,r | .top::es,o,r | .anyb::es,o,r | .ige _::es,o,r | .fn _ _ _::es,o,r
 | .tup _::es,o,r | .sl _ _::es,o,r | .tsl _ _::es,o,r | .osl _ _ _ _ _::es,o,r | .ref _ _ _::es,o,r | .ep _ _::es,o,r=>by
   simp only [bp,cy,AV.dV] at r ⊢
   obtain ⟨⟨v,hv,hr⟩,r2⟩:=r
   have:=aX.dV hμ gP _ v hr
   simp only [AV.dV] at this
   exact ⟨⟨v,hv,this⟩,bp.dV hμ gP es _ r2⟩
theorem bu.dV {E E':Env} {w:World} (hμ : ∀ i x,E.μ i=some x->E'.μ (ρ i)=some x) (gP:∀ b,E.ok b->E'.ok b) {b:Nat}:∀ (cs:List AV) (o:Nat),bu E w b o cs->bu E' w b o (cy ρ cs)
 | [],_,_=>by simp [bu,cy]
 | c::cs,o,r=>by
   simp only [bu,cy] at r ⊢
   obtain ⟨⟨v,hv,hr⟩,r2⟩:=r
   exact ⟨⟨v,hv,aX.dV hμ gP c v hr⟩,bu.dV hμ gP cs _ r2⟩
end
mutual
theorem aX.dx {E E':Env} {w:World} (hμ : ∀ i x,E'.μ (ρ i)=some x->E.μ i=some x) (gP:∀ b,E'.ok b->E.ok b):∀ (c:AV) (v:Value),aX E' w (c.dV ρ) v->aX E w c v
 | .bool _,_,r=>by simpa [aX,AV.dV] using r
 | .int _ _,_,r=>by simpa [aX,AV.dV] using r
 | .str _,_,r=>by simpa [aX,AV.dV] using r
 | .nilp,_,r=>by simpa [aX,AV.dV] using r
 | .nilf,_,r=>by simpa [aX,AV.dV] using r
 | .nils,_,r=>by simpa [aX,AV.dV] using r
 | .top,_,_=>by simp [aX]
 | .anyb,_,r=>by simpa [aX,AV.dV] using r
 | .ige _,_,r=>by simpa [aX,AV.dV] using r
 | .fn f a c,v,r=>by
   simp only [aX,AV.dV] at r ⊢
   obtain ⟨xs,ys,e,ra,rc⟩:=r
   exact ⟨xs,ys,e,bf.dx hμ gP a _ ra,bf.dx hμ gP c _ rc⟩
 | .agg cs,v,r=>by
   simp only [aX,AV.dV] at r ⊢
   obtain ⟨xs,e,ra⟩:=r
   exact ⟨xs,e,bf.dx hμ gP cs _ ra⟩
 | .tup cs,v,r=>by
   simp only [aX,AV.dV] at r ⊢
   obtain ⟨xs,e,ra⟩:=r
   exact ⟨xs,e,bf.dx hμ gP cs _ ra⟩
 | .sl k es,v,r=>by
   simp only [aX,AV.dV,iz] at r ⊢
   obtain ⟨a,cap,e,h1,h2,hk,h3⟩:=r
   refine ⟨a,cap,e,h1,h2,Bk hk,h3.imp (fun h=>by have:=congrArg List.length h;rw [iz] at this;exact List.length_eq_zero_iff.1 this) ?_⟩
   rintro ⟨b,o,ea,hb,hr⟩
   exact ⟨b,o,ea,gP b hb,bp.dx hμ gP es o hr⟩
 | .tsl k es,v,r=>by
   simp only [aX,AV.dV,iz] at r ⊢
   obtain ⟨a,e,h2,hk,h3⟩:=r
   refine ⟨a,e,h2,Bk hk,h3.imp (fun h=>by have:=congrArg List.length h;rw [iz] at this;exact List.length_eq_zero_iff.1 this) ?_⟩
   rintro ⟨b,o,ea,hb,hr⟩
   exact ⟨b,o,ea,gP b hb,bp.dx hμ gP es o hr⟩
 | .osl id k off len t,v,r=>by
   simp only [aX,AV.dV] at r ⊢
   obtain ⟨g,N,cap,hm,rest⟩:=r
   exact ⟨g,N,cap,hμ _ _ hm,rest⟩
 | .ref id e o,v,r=>by
   simp only [aX,AV.dV] at r ⊢
   obtain ⟨g,k,N,hm,rest⟩:=r
   exact ⟨g,k,N,hμ _ _ hm,rest⟩
 | .ep cs o,v,r=>by
   simp only [aX,AV.dV] at r ⊢
   obtain ⟨b,p,e,hb,hr⟩:=r
   exact ⟨b,p,e,gP b hb,bu.dx hμ gP cs p hr⟩
theorem bf.dx {E E':Env} {w:World} (hμ : ∀ i x,E'.μ (ρ i)=some x->E.μ i=some x) (gP:∀ b,E'.ok b->E.ok b):∀ (cs:List AV) (vs:List Value),bf E' w (cy ρ cs) vs->bf E w cs vs
 | [],_,r=>by simpa [bf,cy] using r
 | c::cs,vs,r=>by
   simp only [bf,cy] at r ⊢
   obtain ⟨v,rest,e,r1,r2⟩:=r
   exact ⟨v,rest,e,aX.dx hμ gP c v r1,bf.dx hμ gP cs rest r2⟩
theorem bp.dx {E E':Env} {w:World} (hμ : ∀ i x,E'.μ (ρ i)=some x->E.μ i=some x) (gP:∀ b,E'.ok b->E.ok b) {b:Nat}:∀ (es:List AV) (o:Nat),bp E' w b o (cy ρ es)->bp E w b o es
 | [],_,_=>by simp [bp]
 | .agg cs::es,o,r=>by
   simp only [bp,cy,AV.dV,iz] at r ⊢
   exact ⟨bu.dx hμ gP cs o r.1,bp.dx hμ gP es _ r.2⟩
 | .bool b1::es,o,r=>by simp only [bp,cy,AV.dV] at r ⊢;obtain ⟨⟨v,hv,hr⟩,r2⟩:=r;exact ⟨⟨v,hv,aX.dx hμ gP (.bool b1) v hr⟩,bp.dx hμ gP es _ r2⟩
 | .int a1 a2::es,o,r=>by simp only [bp,cy,AV.dV] at r ⊢;obtain ⟨⟨v,hv,hr⟩,r2⟩:=r;exact ⟨⟨v,hv,aX.dx hμ gP (.int a1 a2) v hr⟩,bp.dx hμ gP es _ r2⟩
 | .str a1::es,o,r=>by simp only [bp,cy,AV.dV] at r ⊢;obtain ⟨⟨v,hv,hr⟩,r2⟩:=r;exact ⟨⟨v,hv,aX.dx hμ gP (.str a1) v hr⟩,bp.dx hμ gP es _ r2⟩
 | .nilp::es,o,r=>by simp only [bp,cy,AV.dV] at r ⊢;obtain ⟨⟨v,hv,hr⟩,r2⟩:=r;exact ⟨⟨v,hv,aX.dx hμ gP .nilp v hr⟩,bp.dx hμ gP es _ r2⟩
 | .nilf::es,o,r=>by simp only [bp,cy,AV.dV] at r ⊢;obtain ⟨⟨v,hv,hr⟩,r2⟩:=r;exact ⟨⟨v,hv,aX.dx hμ gP .nilf v hr⟩,bp.dx hμ gP es _ r2⟩
 | .nils::es,o,r=>by simp only [bp,cy,AV.dV] at r ⊢;obtain ⟨⟨v,hv,hr⟩,r2⟩:=r;exact ⟨⟨v,hv,aX.dx hμ gP .nils v hr⟩,bp.dx hμ gP es _ r2⟩
 | .top::es,o,r=>by simp only [bp,cy,AV.dV] at r ⊢;obtain ⟨⟨v,hv,hr⟩,r2⟩:=r;exact ⟨⟨v,hv,aX.dx hμ gP .top v hr⟩,bp.dx hμ gP es _ r2⟩
 | .anyb::es,o,r=>by simp only [bp,cy,AV.dV] at r ⊢;obtain ⟨⟨v,hv,hr⟩,r2⟩:=r;exact ⟨⟨v,hv,aX.dx hμ gP .anyb v hr⟩,bp.dx hμ gP es _ r2⟩
 | .ige a1::es,o,r=>by simp only [bp,cy,AV.dV] at r ⊢;obtain ⟨⟨v,hv,hr⟩,r2⟩:=r;exact ⟨⟨v,hv,aX.dx hμ gP (.ige a1) v hr⟩,bp.dx hμ gP es _ r2⟩
 | .fn a1 a2 a3::es,o,r=>by simp only [bp,cy,AV.dV] at r ⊢;obtain ⟨⟨v,hv,hr⟩,r2⟩:=r;exact ⟨⟨v,hv,aX.dx hμ gP (.fn a1 a2 a3) v (by simpa only [AV.dV] using hr)⟩,bp.dx hμ gP es _ r2⟩
 | .tup a1::es,o,r=>by simp only [bp,cy,AV.dV] at r ⊢;obtain ⟨⟨v,hv,hr⟩,r2⟩:=r;exact ⟨⟨v,hv,aX.dx hμ gP (.tup a1) v (by simpa only [AV.dV] using hr)⟩,bp.dx hμ gP es _ r2⟩
 | .sl a1 a2::es,o,r=>by simp only [bp,cy,AV.dV] at r ⊢;obtain ⟨⟨v,hv,hr⟩,r2⟩:=r;exact ⟨⟨v,hv,aX.dx hμ gP (.sl a1 a2) v (by simpa only [AV.dV] using hr)⟩,bp.dx hμ gP es _ r2⟩
 | .tsl a1 a2::es,o,r=>by simp only [bp,cy,AV.dV] at r ⊢;obtain ⟨⟨v,hv,hr⟩,r2⟩:=r;exact ⟨⟨v,hv,aX.dx hμ gP (.tsl a1 a2) v (by simpa only [AV.dV] using hr)⟩,bp.dx hμ gP es _ r2⟩
 | .osl a1 a2 a3 a4 a5::es,o,r=>by simp only [bp,cy,AV.dV] at r ⊢;obtain ⟨⟨v,hv,hr⟩,r2⟩:=r;exact ⟨⟨v,hv,aX.dx hμ gP (.osl a1 a2 a3 a4 a5) v (by simpa only [AV.dV] using hr)⟩,bp.dx hμ gP es _ r2⟩
 | .ref a1 a2 a3::es,o,r=>by simp only [bp,cy,AV.dV] at r ⊢;obtain ⟨⟨v,hv,hr⟩,r2⟩:=r;exact ⟨⟨v,hv,aX.dx hμ gP (.ref a1 a2 a3) v (by simpa only [AV.dV] using hr)⟩,bp.dx hμ gP es _ r2⟩
 | .ep a1 a2::es,o,r=>by simp only [bp,cy,AV.dV] at r ⊢;obtain ⟨⟨v,hv,hr⟩,r2⟩:=r;exact ⟨⟨v,hv,aX.dx hμ gP (.ep a1 a2) v (by simpa only [AV.dV] using hr)⟩,bp.dx hμ gP es _ r2⟩
theorem bu.dx {E E':Env} {w:World} (hμ : ∀ i x,E'.μ (ρ i)=some x->E.μ i=some x) (gP:∀ b,E'.ok b->E.ok b) {b:Nat}:∀ (cs:List AV) (o:Nat),bu E' w b o (cy ρ cs)->bu E w b o cs
 | [],_,_=>by simp [bu]
 | c::cs,o,r=>by
   simp only [bu,cy] at r ⊢
   obtain ⟨⟨v,hv,hr⟩,r2⟩:=r
   exact ⟨⟨v,hv,aX.dx hμ gP c v hr⟩,bu.dx hμ gP cs _ r2⟩
end
theorem eY.dV {E E':Env} {w:World} (hμ : ∀ i x,E.μ i=some x->E'.μ (ρ i)=some x) (gP:∀ b,E.ok b->E'.ok b) {b o:Nat} {cs:List AV} (h:eY E w b o cs):eY E' w b o (cy ρ cs) :=
 eZ.1 (bu.dV hμ gP cs o (eZ.2 h))
theorem eY.dx {E E':Env} {w:World} (hμ : ∀ i x,E'.μ (ρ i)=some x->E.μ i=some x) (gP:∀ b,E'.ok b->E.ok b) {b o:Nat} {cs:List AV} (h:eY E' w b o (cy ρ cs)):eY E w b o cs :=
 eZ.1 (bu.dx hμ gP cs o (eZ.2 h))
end
def mF (n:Nat) (π : Id) (κ : Nat->Id):Id->Id
 | []=>[]
 | a :: asz=>match asz with
   | []=>match a with | 0 => π | k+1 => κ (k+1)
   | b::bs=>match b,bs with
     | 0,[]=>(n+a) :: π
     | _,_=>a::mF n π κ asz
theorem nO {n:Nat} {π : Id} {κ : Nat->Id} {q:Nat}:∀ l:Id,mF n π κ (l++[q,0])=l++((n+q) :: π)
 | []=>rfl
 | [a]=>by simp [mF]
 | a::b::l=>by
   have:=nO (n:=n) (π := π) (κ := κ) (q:=q) (b::l)
   simp only [List.cons_append] at this ⊢
   rw [<- this]
   cases h:l++[q,0] with
   | nil=>simp at h
   | cons c cs=>cases b<;>simp [mF]
theorem Kk {i:Id} (h:[0] <:+ i):i=[0]∨∃ l q,i=l++[q,0]:=by
 obtain ⟨t,rfl⟩:=h
 rcases List.eq_nil_or_concat t with rfl | ⟨l,q,rfl⟩
 . exact .inl rfl
 . exact .inr ⟨l,q,by simp⟩
theorem Ye {n:Nat} {π : Id} {κ : Nat->Id} {i j:Id} (hi:[0] <:+ i) (hj:[0] <:+ j) (h:mF n π κ i=mF n π κ j):i=j:=by
 rcases Kk hi with rfl | ⟨l,q,rfl⟩<;>rcases Kk hj with rfl | ⟨l',q',rfl⟩
 . rfl
 . rw [nO] at h;have:=congrArg List.length h;simp [mF] at this;omega
 . rw [nO] at h;have:=congrArg List.length h;simp [mF] at this;omega
 . rw [nO,nO] at h
   have hl:l.length=l'.length:=by have:=congrArg List.length h;simp at this;omega
   obtain ⟨h1,h2⟩:=List.append_inj h hl
   simp only [List.cons.injEq,and_true] at h2
   have:q=q':=by omega
   rw [h1,this]
section
variable {P:Program} {G:Nat->Option (List AV)}
open Classical in
noncomputable def CP (n:Nat) (π : Id) (κ : Nat->Id) (E E0:Env):Env:=⟨fun j=>if h:∃ i,[0] <:+ i/\mF n π κ i=j then E0.μ h.choose else E.μ j,E0.ok⟩
theorem Ex {n:Nat} {π : Id} {κ : Nat->Id} {E E0:Env} {i:Id} (hi:[0] <:+ i):(CP n π κ E E0).μ (mF n π κ i)=E0.μ i:=by
 have hex:∃ i',[0] <:+ i'/\mF n π κ i'=mF n π κ i:=⟨i,hi,rfl⟩
 simp only [CP]
 rw [dif_pos hex]
 exact congrArg E0.μ (Ye hex.choose_spec.1 hi hex.choose_spec.2)
theorem s6 {n:Nat} {π : Id} {κ : Nat->Id} {E E0:Env} {j:Id} (h:∀ i,[0] <:+ i->mF n π κ i≠j):(CP n π κ E E0).μ j=E.μ j:=by
 simp only [CP]
 rw [dif_neg];rintro ⟨i,hi,e⟩;exact h i hi e
theorem He {n:Nat} {π : Id} {κ : Nat->Id} {E:Env} (hf:zX E π n) {i:Id} (hi:[0] <:+ i):E.μ (mF n π κ i)=none:=by
 rcases Kk hi with rfl | ⟨l,q,rfl⟩
 . exact hf.self
 . rw [nO];exact hf.at (q:=n+q) (Nat.le_add_right _ _) ⟨l,rfl⟩
def Se (ρ : Id->Id) (σ0 σ : ah):Prop:=(∀ i b, σ0 i=some b -> σ (ρ i)=some (b.dV ρ))/\∀ j, σ j=none∨∃ i b, σ0 i=some b /\ ρ i=j /\ σ j=some (b.dV ρ)
theorem VW.dV {vc:cB} {Q0:cd->VS->Prop} {t0:List AV} {σ0 σ : ah} {n:Nat} {π : Id} {κ : Nat->Id} (h:VW P G [0] vc Q0 ⟨t0, σ0,0⟩)
   (hσ : ∀ i b, σ0 i=some b -> σ (mF n π κ i)=some (b.dV (mF n π κ))) (ahA:∀ i j, σ0 i≠none -> σ0 j≠none->i≠j->mF n π κ i≠mF n π κ j) :
   VW P G π vc (fun e s=>∃ s0,Q0 e s0/\s.t=cy (mF n π κ) s0.t/\s.n=n+s0.n/\Se (mF n π κ) s0.σ s.σ) ⟨cy (mF n π κ) t0, σ,n⟩:=by
 intro c hc own E w a R hm hR
 obtain ⟨H0,hi,sI,ahB⟩:=hm
 let E0:Env:=⟨fun i=>E.μ (mF n π κ i),E.ok⟩
 have hm0:mz G [0] own E0 w ⟨t0, σ0,0⟩ a:=by
   refine ⟨bf.dx (E:=E0) (E':=E) (fun i x hx=>hx) (fun b hb=>hb) _ _ H0, ?_,fun j hj _=>He sI hj,ahB⟩
   refine ⟨hi.okb,fun id bk hs => ?_,fun i j x y p6 hj' hne hx hy => ?_,hi.glob,hi.new⟩
   . obtain ⟨g,N,cur,ty,hB⟩:=hi.blk _ _ (hσ id bk hs)
     refine ⟨g,N,cur,ty,hB.μ,hB.heap,hB.size, ?_,hB.most,hB.own,hB.ok,hB.no,Bk hB.k, ?_⟩
     . have:=hB.len;rwa [show (bk.dV (mF n π κ)).els.length=bk.els.length from iz] at this
     . have:=hB.row
       rw [show (bk.dV (mF n π κ)).els=cy (mF n π κ) bk.els from rfl,Hd] at this
       exact eY.dx (E:=E0) (E':=E) (fun i x hx=>hx) (fun b hb=>hb) this
   . obtain ⟨b,hb⟩:=Option.ne_none_iff_exists'.1 p6
     obtain ⟨b',M3⟩:=Option.ne_none_iff_exists'.1 hj'
     exact hi.inj _ _ x y (by show σ _≠none;rw [hσ i b hb];simp) (by show σ _≠none;rw [hσ j b' M3];simp) (ahA i j p6 hj' hne) hx hy
 refine h c hc own E0 w a R hm0 ?_
 intro e s0 E0' w' a' hq had qH
 obtain ⟨ahD,p6,Np,aej⟩:=qH
 let E':=CP n π κ E E0'
 have hμ : ∀ i x,E0'.μ i=some x->E'.μ (mF n π κ i)=some x:=by
   intro i x hx
   by_cases h0:[0] <:+ i
   . exact (Ex h0).trans hx
   . have h1:E.μ (mF n π κ i)=some x:=by have:=had.ids i h0;rw [hx] at this;exact this.symm
     exact (s6 fun i' p6 e=>by have:=He (κ := κ) sI p6;rw [e,h1] at this;cases this).trans h1
 have hold:∀ j x,E.μ j=some x->E'.μ j=some x:=fun j x hx=>(s6 fun i' p6 e=>by have:=He (κ := κ) sI p6;rw [e,hx] at this;cases this).trans hx
 have hS:∀ j b,(∃ i b0,s0.σ i=some b0/\mF n π κ i=j/\b=b0.dV (mF n π κ))->∃ i g N cur ty b0,s0.σ i=some b0/\mF n π κ i=j/\xA E0' own w' i b0 g N cur ty/\xA E' own w' j b g N cur ty:=by
   rintro j b ⟨i,b0,h1,rfl,rfl⟩
   obtain ⟨g,N,cur,ty,hB⟩:=p6.blk i b0 h1
   refine ⟨i,g,N,cur,ty,b0,h1,rfl,hB,hμ _ _ hB.μ,hB.heap,hB.size, ?_,hB.most,hB.own,hB.ok,hB.no,D0 hB.k, ?_⟩
   . rw [show (b0.dV (mF n π κ)).els.length=b0.els.length from iz];exact hB.len
   . rw [show (b0.dV (mF n π κ)).els=cy (mF n π κ) b0.els from rfl,Hd]
     exact eY.dV hμ (fun b hb=>hb) hB.row
 classical
 let σ':ah:=fun j=>if h:∃ i b,s0.σ i=some b/\mF n π κ i=j then some (h.choose_spec.choose.dV (mF n π κ)) else none
 have Vm:∀ j, σ' j=none∨∃ i b,s0.σ i=some b/\mF n π κ i=j /\ σ' j=some (b.dV (mF n π κ)):=fun j=>by
   by_cases h:∃ i b,s0.σ i=some b/\mF n π κ i=j
   . right;exact ⟨h.choose,h.choose_spec.choose,h.choose_spec.choose_spec.1,h.choose_spec.choose_spec.2,dif_pos h⟩
   . left;exact dif_neg h
 have ahE:Inv G own E' w' σ':=by
   refine ⟨p6.okb,fun j bk hs => ?_,fun j j' x y hj hj' hne hx hy => ?_,p6.glob,p6.new⟩
   . rcases Vm j with h1 | ⟨i,b,h1,h2,h3⟩
     . rw [h1] at hs;cases hs
     . rw [h3] at hs
       simp only [Option.some.injEq] at hs
       obtain ⟨i',g,N,cur,ty,b0,_,_,_,hB⟩:=hS j bk ⟨i,b,h1,h2,hs.symm⟩
       exact ⟨g,N,cur,ty,hB⟩
   . rcases Vm j with h1 | ⟨i,b,h1,h2,h3⟩
     . exact absurd h1 hj
     rcases Vm j' with h4 | ⟨i',b',h4,h5,h6⟩
     . exact absurd h4 hj'
     obtain ⟨g,N,cur,ty,hB⟩:=p6.blk i b h1
     obtain ⟨g',N',Na,OH,Kw⟩:=p6.blk i' b' h4
     have e1:=hμ _ _ hB.μ
     have e2:=hμ _ _ Kw.μ
     rw [h2,hx] at e1
     rw [h5,hy] at e2
     simp only [Option.some.injEq] at e1 e2
     rw [e1,e2]
     exact p6.inj i i' _ _ (by rw [h1];simp) (by rw [h4];simp) (fun e=>hne (by rw [<- h2, <- h5,e])) hB.μ Kw.μ
 have aek:∀ i b,s0.σ i=some b -> σ' (mF n π κ i)=some (b.dV (mF n π κ)):=fun i b h1=>by
   rcases Vm (mF n π κ i) with h2 | ⟨i',b',h3,h4,h5⟩
   . exact absurd ((dif_pos ⟨i,b,h1,rfl⟩).symm.trans h2) (by simp)
   . obtain ⟨g,N,cur,ty,hB⟩:=p6.blk i b h1
     obtain ⟨g',N',Na,OH,Kw⟩:=p6.blk i' b' h3
     by_cases e:i'=i
     . subst e;rw [h1] at h3;simp only [Option.some.injEq] at h3;subst h3;exact h5
     . have e1:=hμ _ _ hB.μ
       have e2:=hμ _ _ Kw.μ
       rw [h4,e1] at e2
       simp only [Option.some.injEq,Prod.mk.injEq] at e2
       exact absurd e2.1.symm (p6.inj i' i _ _ (by rw [h3];simp) (by rw [h1];simp) e Kw.μ hB.μ)
 refine hR e ⟨cy (mF n π κ) s0.t, σ',n+s0.n⟩ E' w' a' ⟨s0,hq,rfl,rfl,aek,Vm⟩ ⟨⟨⟨hold,had.step.ok,had.step.same⟩,had.os,had.tape,had.output,had.size,had.block,had.V9⟩,fun j hj=>s6 fun i hi e=>hj ?_⟩ ⟨bf.dV hμ (fun b hb=>hb) _ _ ahD,ahE,fun j hj hq' => ?_,aej⟩
 . rcases Kk hi with rfl | ⟨l,q,rfl⟩
   . rw [<- e];exact List.suffix_refl _
   . rw [nO] at e;rw [<- e];exact ⟨l++[n+q],by simp⟩
 . by_cases hex:∃ i,[0] <:+ i/\mF n π κ i=j
   . obtain ⟨i,QT,rfl⟩:=hex
     refine (Ex QT).trans (Np i QT fun q Kr hs=>hq' (n+q) (by show n+q<n+s0.n;omega) ?_)
     obtain ⟨t,rfl⟩:=hs
     rw [nO];exact ⟨t,rfl⟩
   . refine (s6 fun i hi e=>hex ⟨i,hi,e⟩).trans (sI j hj fun q Kr=>hq' q (Nat.lt_of_lt_of_le Kr (Nat.le_add_right _ _)))
theorem Mz {ρ : Id->Id} {agg:Bool} {cs:List AV} {o n:Nat} {v:AV} (h:part agg cs o n=some v):part agg (cy ρ cs) o n=some (v.dV ρ):=by
 unfold part at h ⊢
 rw [iz]
 split at h
 . rename_i h1
   rw [if_pos h1]
   split at h
   . rename_i h2
     rw [if_pos h2]
     simp only [Option.some.injEq] at h
     subst h
     simp only [AV.dV,iX,List.map_take,List.map_drop]
   . rename_i h2
     rw [if_neg h2]
     split at h
     . rename_i h3;rw [if_pos h3,iX,List.getElem?_map,h];rfl
     . cases h
 . cases h
theorem Sf {ρ : Id->Id} {σ0 σ : ah} (hs:Se ρ σ0 σ) {agg:Bool} {n:Nat} {x:AV} {r:eT} (h:jm σ0 agg n x=some r):∃ r',jm σ agg n (x.dV ρ)=some r'/\r'.val=r.val.dV ρ := by
 cases x<;>simp only [jm,reduceCtorEq] at h
 case ref id e o =>
   cases hb : σ0 id with
   | none=>rw [hb] at h;cases h
   | some bk =>
     rw [hb] at h
     simp only [] at h
     cases he:bk.els[e]? with
     | none=>rw [he] at h;cases h
     | some el =>
       rw [he] at h
       simp only [Option.map_eq_some_iff] at h
       obtain ⟨v,hv,rfl⟩:=h
       refine ⟨{ val:=v.dV ρ,rd:=[ρ id] }, ?_,rfl⟩
       have e1:(bk.dV ρ).els[e]? = some (el.dV ρ):=by
         show (cy ρ bk.els)[e]? = _
         rw [iX,List.getElem?_map,he];rfl
       simp only [AV.dV,jm,hs.1 id bk hb,e1,zS,Mz hv,Option.map_some]
 case ep cs o =>
   simp only [Option.map_eq_some_iff] at h
   obtain ⟨v,hv,rfl⟩:=h
   refine ⟨{ val:=v.dV ρ }, ?_,rfl⟩
   simp only [AV.dV,jm,Mz hv,Option.map_some]
theorem MA {ρ : Id->Id} {t:List AV} {k:Nat}:(cy ρ t).getD k (.tup [])=(t.getD k (.tup [])).dV ρ := by
 rw [List.getD_eq_getElem?_getD,List.getD_eq_getElem?_getD,iX,List.getElem?_map]
 cases t[k]? <;> rfl
theorem Sg {ρ : Id->Id} {s0 s:VS} (ht:s.t=cy ρ s0.t) (hs:Se ρ s0.σ s.σ) {x:ur} {v:AV} (h:bg s0 x=some v):bg s x=some (v.dV ρ):=by
 cases x with
 | tmp k=>simp only [bg,Option.some.injEq] at h ⊢;rw [ht,MA,h]
 | cell k agg n =>
   simp only [bg,Option.map_eq_some_iff] at h ⊢
   obtain ⟨r,hr,rfl⟩:=h
   obtain ⟨r',h1,h2⟩:=Sf hs hr
   exact ⟨r',by rw [ht,MA];exact h1,h2⟩
theorem MB {ρ : Id->Id} {s0 s:VS} (ht:s.t=cy ρ s0.t) (hs:Se ρ s0.σ s.σ):∀ {rs:List ur} {vs:List AV},rs.mapM (bg s0)=some vs->rs.mapM (bg s)=some (cy ρ vs)
 | [],vs,h=>by simp only [List.mapM_nil,Option.pure_def,Option.some.injEq] at h ⊢;subst h;rfl
 | x::rs,vs,h=>by
   simp only [List.mapM_cons,Option.bind_eq_bind,Option.bind_eq_some_iff,Option.pure_def,Option.some.injEq] at h ⊢
   obtain ⟨v,hv,vs',M4,rfl⟩:=h
   exact ⟨_,Sg ht hs hv,_,MB ht hs M4,rfl⟩
theorem Si {ρ : Id->Id} {s0 s:VS} (ht:s.t=cy ρ s0.t) (hs:Se ρ s0.σ s.σ) {rs:List ur} {v:AV} (h:a8 rs s0=some v):a8 rs s=some (v.dV ρ):=by
 unfold a8 at h ⊢
 cases hm:rs.mapM (bg s0) with
 | none=>rw [hm] at h;cases h
 | some vs =>
   rw [hm] at h
   rw [MB ht hs hm]
   match vs,h with
   | [],h=>simp only [Option.some.injEq] at h;subst h;rfl
   | [v],h=>simp only [Option.some.injEq] at h;subst h;rfl
   | v::v'::vs,h=>simp only [Option.some.injEq] at h;subst h;rfl
end
end Go.VL
end

section
namespace Go.VL
abbrev de:=List (Id × Option dA)
def MC:Id->Id->Bool
 | [],[]=>true
 | a::asz,b::bs=>Nat.beq a b&&MC asz bs
 | _,_=>false
theorem pO:∀ {a b:Id},MC a b=true↔a=b
 | [],[]=>by simp [MC]
 | a::asz,b::bs=>by simp only [MC,Bool.and_eq_true,Nat.beq_eq,pO (a:=asz),List.cons.injEq]
 | [],_::_=>by simp [MC]
 | _::_,[]=>by simp [MC]
def de.find:de->Id->Option dA
 | [],_=>none
 | (j,b)::S,i=>match MC i j with
   | true=>b
   | false=>de.find S i
def de.to (S:de):ah:=fun i=>S.find i
def de.app (S:de):List (Id × Option dA)->de
 | []=>S
 | x::up=>de.app (x::S) up
theorem de.abp (i:Id) (b:Option dA) (S:de):de.to ((i,b)::S)=S.to.put i b:=by
 funext j
 show de.find _ j=_
 simp only [de.find,ah.put]
 cases h:MC j i with
 | true=>rw [if_pos (pO.1 h)]
 | false=>rw [if_neg (fun e=>by rw [pO.2 e] at h;cases h)];rfl
theorem de.Oo:∀ (up:List (Id × Option dA)) (S:de),(S.app up).to=S.to.app up
 | [],_=>rfl
 | (i,b)::up,S=>by simp only [de.app,ah.app,de.Oo up,de.abp]
inductive Hint (P:Program) (G:Nat->Option (List AV)) where
 | ev (k:Nat) (o:Option eT) (r:eT) (h:o=some r)
 | eq (k:Nat) (a b:AV) (h:a=b)
 | br (k:Nat) (x b:Bool) (h:x=b)
 | st (k:Nat) (S:List (Id × dA)) (op:gD AV) (r:Id->eT) (h:∀ σ p,(∀ x∈S, σ x.1=some x.2)->b8 σ p op=some (r p))
 | vp (f:FuncId) (args:List AV) (r:AV) (h:VP P G f args r) (hp:∀ c∈args,aa c)
 | rel (f:FuncId) (args:List AV) (S:List (Id × dA)) (r:Id->eT) (h:∀ p,(∀ x∈S, ¬ p <:+ x.1)->bc P G f args p S (r p)) (hr:∀ p,∀ x∈S,x.1∈(r p).rd)
 | lp (π : Id) (c:cB) (t0:List AV) (S0:List (Id × dA)) (n0:Nat) (e:cd) (t1:List AV) (S1:de) (n1:Nat) (h:VW P G π (.loop c) (fun e' s'=>e'=e/\Wk G π s' ⟨t1,S1.to,n1⟩) ⟨t0,ah.of S0,n0⟩)
inductive M7 where
 | ev (o:Option eT)
 | val (a:AV)
 | op (o:gD AV) (S:List (Option dA))
 | call (f:FuncId) (args:List AV) (S:List (Option dA))
 | lp (π : Id) (c:cB) (t:List AV) (S:List (Option dA))
def Vn:Id->Id->Bool
 | p,[]=>MC p []
 | p,a::asz=>MC p (a::asz)||Vn p asz
theorem MD {p:Id}:∀ {i:Id},Vn p i=false -> ¬ p <:+ i
 | [],h=>by
   simp only [Vn] at h
   intro hs
   have:p=[]:=List.suffix_nil.1 hs
   rw [pO.2 this] at h;cases h
 | a::asz,h=>by
   simp only [Vn,Bool.or_eq_false_iff] at h
   intro hs
   rcases List.suffix_cons_iff.1 hs with e | e
   . rw [pO.2 e] at h;cases h.1
   . exact MD h.2 e
structure TS where
 t:List AV
 S:de
 n:Nat
def TS.to (s:TS):VS:=⟨s.t,s.S.to,s.n⟩
def Hf:List AV->List AV->List AV
 | c::cs,d::ds=>(match d with | .top => .top | _=>c)::Hf cs ds
 | cs,_=>cs
theorem Hg:∀ {cs ds:List AV},Hf cs ds=ds->Fg cs ds
 | [],[],_=>trivial
 | c::cs,d::ds,h=>by
   simp only [Hf,List.cons.injEq] at h
   refine ⟨?_,Hg h.2⟩
   cases d<;>simp_all
 | [],_::_,h=>by simp [Hf] at h
 | _::_,[],h=>by simp [Hf] at h
def keyOf (o:bA):Nat:=match o.dst with
 | some d=>d
 | none=>match o.op with
   | .store _ (.t x) _=>x+100000
   | _=>0
def CQ (a b:List Id):Bool:=a.all fun i => !b.any fun j=>MC i j
def Qb (a b:eT):Bool:=CQ (a.up.map (·.1)) b.rd&&CQ (a.up.map (·.1)) (b.up.map (·.1))&&CQ (b.up.map (·.1)) a.rd
def Bl (rs:List eT) (ps:List (Nat × Nat)):Bool:=ps.all fun q=>match rs[q.1]?,rs[q.2]? with
 | some a,some b=>Qb a b
 | _,_=>true
theorem xy {a b:List Id} (h:CQ a b=true) {i:Id} (hi:i∈a):i ∉ b:=by
 simp only [CQ,List.all_eq_true,Bool.not_eq_true',List.any_eq_false] at h
 exact fun hj=>h i hi i hj (pO.2 rfl)
theorem E7 {rs:List eT} {ps:List (Nat × Nat)} (h:Bl rs ps=true):ab rs ps:=by
 intro q hq a b ha hb
 simp only [Bl,List.all_eq_true] at h
 have:=h q hq
 rw [ha,hb] at this
 simp only [Qb,Bool.and_eq_true] at this
 obtain ⟨⟨h1,h2⟩,h3⟩:=this
 exact ⟨fun x hx=>⟨xy h1 (List.mem_map.2 ⟨x,hx,rfl⟩),xy h2 (List.mem_map.2 ⟨x,hx,rfl⟩)⟩,fun x hx=>xy h3 (List.mem_map.2 ⟨x,hx,rfl⟩)⟩
abbrev Oq:=List (M7 × M7)
section
variable {P:Program} {G:Nat->Option (List AV)}
def AB (S:de) (p:Id) (op:gD AV) (hs:List (Hint P G)):Option (Oq × List (Hint P G) × eT):=match b8 S.to p op with
 | some r=>some ([],hs,r)
 | none=>none
def Vo (S:de) (p:Id) (k:Nat) (op:gD AV) (hs:List (Hint P G)):Option (Oq × List (Hint P G) × eT) :=
 match op with
 | .call f asz=>match f with
   | .fn (.func g) first cap=>match hs with
     | .vp f' lD r _ _::eK=>some ([(.call g (first++asz++cap) [], .call f' lD [])],eK,{ val:=r })
     | .rel f' lD S' r _ _::eK=>match S'.all fun x => !Vn p x.1 with
       | true=>some ([(.call g (first++asz++cap) (S'.map fun x=>S.find x.1), .call f' lD (S'.map fun x=>some x.2))],eK,r p)
       | false=>none
     | _=>none
   | _=>none
 | op=>match hs with
   | .ev k' o r _::eK=>match Nat.beq k' k with
     | true=>some ([(.ev (b8 S.to p op), .ev o)],eK,r)
     | false=>AB S p op hs
   | .eq k' a b _::eK=>match Nat.beq k' k with
     | true=>match b8 S.to p op with
       | some r=>some ([(.val r.val, .val a)],eK,{ r with val:=b })
       | none=>none
     | false=>AB S p op hs
   | .st k' S' op' r _::eK=>match Nat.beq k' k with
     | true=>some ([(.op op (S'.map fun x=>S.find x.1), .op op' (S'.map fun x=>some x.2))],eK,r p)
     | false=>AB S p op hs
   | _=>AB S p op hs
def Kl (π : Id) (base:Nat):List bA->Nat->List eT->List AV->de->List (Hint P G)->Option (Oq × List (Hint P G) × List eT × List AV × de)
 | [],_,acc,t,S,hs=>some ([],hs,acc,t,S)
 | o :: os,i,acc,t,S,hs=>match e7 t o.guard with
   | none=>none
   | some false=>Kl π base os (i+1) ({ val := .tup [] }::acc) (gg t o.dst (.tup [])) S hs
   | some true=>match Vo S ((base+i) :: π) (keyOf o) (o.op.map (bd.ev G t)) hs with
     | none=>none
     | some (c,eK,r)=>match Kl π base os (i+1) (r::acc) (gg t o.dst r.val) (S.app r.up) eK with
       | none=>none
       | some (cs,x)=>some (c++cs,x)
def ael:bd->Nat
 | .t k=>k
 | _=>0
def jr : Bool->Nat->cB->Id->List (Hint P G)->TS->Option (Oq × List (Hint P G) × cd × TS)
 | _,0,_,_,_,_=>none
 | z,m+1,c, π,hs,s=>match c with
   | .skip=>some ([],hs, .normal,s)
   | .ret=>some ([],hs, .ret,s)
   | .exit i=>some ([],hs, .exit i,s)
   | .seq a b=>match jr true m a π hs s with
     | some (cs,eK, .normal,s')=>match jr true m b π eK s' with
       | some (Bw,x)=>some (cs++Bw,x)
       | none=>none
     | r=>r
   | .cond c a b=>match hs with
     | .br k x v _::eK=>match Nat.beq k (ael c) with
       | true=>match jr true m (match v with | true=>a | false=>b) π eK s with
         | some (cs,y)=>some ((.val (c.ev G s.t), .val (.bool x))::cs,y)
         | none=>none
       | false=>match c.ev G s.t with
         | .bool true=>jr true m a π hs s
         | .bool false=>jr true m b π hs s
         | _=>none
     | _=>match c.ev G s.t with
       | .bool true=>jr true m a π hs s
       | .bool false=>jr true m b π hs s
       | _=>none
   | .block i c=>match jr true m c π hs s with
     | some (cs,eK, .exit j,s')=>match Nat.beq j i with
       | true=>some (cs,eK, .normal,s')
       | false=>some (cs,eK, .exit j,s')
     | r=>r
   | .loop c=>match z,hs with
     | true, .lp π' c' t0 S0 n0 e t1 S1 n1 _::eK=>match Nat.ble s.n n0 with
       | true=>some ([(.lp π c (Hf s.t t0) (S0.map fun x=>s.S.find x.1), .lp π' c' t0 (S0.map fun x=>some x.2))],eK,e,⟨t1,S1,n1⟩)
       | false=>none
     | _,_=>match jr true m c π hs s with
       | some (cs,eK, .normal,s')=>match jr false m (.loop c) π eK s' with
         | some (Bw,x)=>some (cs++Bw,x)
         | none=>none
       | r=>r
   | .reg ps os=>match Kl π s.n os 0 [] s.t s.S hs with
     | none=>none
     | some (cs,eK,rs,t,S)=>match ps with
       | none=>some (cs,eK, .normal,⟨t,S,s.n+os.length⟩)
       | some ps=>match Bl rs.reverse ps with
         | true=>some (cs,eK, .normal,⟨t,S,s.n+os.length⟩)
         | false=>none
def sC (cs:Oq):Prop:=∀ x∈cs,x.1=x.2
theorem sC.of_map {cs:Oq} (h:cs.map (·.1)=cs.map (·.2)):sC cs:=by
 intro x hx
 obtain ⟨i,hi⟩:=List.getElem?_of_mem hx
 have:=congrArg (·[i]?) h
 simpa [List.getElem?_map,hi] using this
theorem sC.left {a b:Oq} (h:sC (a++b)):sC a:=fun x hx=>h x (List.mem_append_left _ hx)
theorem sC.right {a b:Oq} (h:sC (a++b)):sC b:=fun x hx=>h x (List.mem_append_right _ hx)
theorem nP {S:de} {S':List (Id × dA)} (h:(S'.map fun x=>S.find x.1)=S'.map fun x=>some x.2):∀ x∈S',S.to x.1=some x.2:=by
 intro x hx
 obtain ⟨i,hi⟩:=List.getElem?_of_mem hx
 have:=congrArg (·[i]?) h
 have e:S.find x.1=some x.2:=by simpa [List.getElem?_map,hi] using this
 exact e
theorem Ey {S:de} {p:Id} {k:Nat} {op:gD AV} {hs eK:List (Hint P G)} {cs:Oq} {r:eT} (h:Vo S p k op hs=some (cs,eK,r)) (hc:sC cs) {K:eT->Prop} (hK:K r):yq P G S.to p op K:=by
 have auto:∀ {cs eK},AB S p op hs=some (cs,eK,r)->op.tg=false->yq P G S.to p op K:=by
   intro cs eK h Hq
   unfold AB at h
   rw [uy Hq]
   split at h
   . rename_i r' hr;simp only [Option.some.injEq,Prod.mk.injEq] at h;obtain ⟨_,_,rfl⟩:=h;rw [hr];exact hK
   . cases h
 have other:∀ {cs eK},op.tg=false->sC cs->(match hs with
   | .ev k' o r _::eK=>match Nat.beq k' k with
     | true=>some ([((M7.ev (b8 S.to p op)), .ev o)],eK,r)
     | false=>AB S p op hs
   | .eq k' a b _::eK=>match Nat.beq k' k with
     | true=>match b8 S.to p op with
       | some r=>some ([(.val r.val, .val a)],eK,{ r with val:=b })
       | none=>none
     | false=>AB S p op hs
   | .st k' S' op' r _::eK=>match Nat.beq k' k with
     | true=>some ([(.op op (S'.map fun x=>S.find x.1), .op op' (S'.map fun x=>some x.2))],eK,r p)
     | false=>AB S p op hs
   | _=>AB S p op hs)=some (cs,eK,r)->yq P G S.to p op K:=by
   intro cs eK Hq hc h
   cases hs with
   | nil=>exact auto h Hq
   | cons x js =>
     cases x with
     | ev k' o r' ho =>
       simp only [] at h
       split at h
       . simp only [Option.some.injEq,Prod.mk.injEq] at h
         obtain ⟨rfl,_,rfl⟩:=h
         have:=hc _ (List.mem_singleton.2 rfl)
         simp only [M7.ev.injEq] at this
         rw [uy Hq,this,ho];exact hK
       . exact auto h Hq
     | eq k' a b M6 =>
       simp only [] at h
       split at h
       . split at h
         . rename_i r' hr
           simp only [Option.some.injEq,Prod.mk.injEq] at h
           obtain ⟨rfl,_,rfl⟩:=h
           have:=hc _ (List.mem_singleton.2 rfl)
           simp only [M7.val.injEq] at this
           rw [uy Hq,hr]
           have e:{ r' with val:=b }=r':=by rw [<- M6, <- this]
           rw [e] at hK;exact hK
         . cases h
       . exact auto h Hq
     | st k' S' op' r' ho =>
       simp only [] at h
       split at h
       . simp only [Option.some.injEq,Prod.mk.injEq] at h
         obtain ⟨rfl,_,rfl⟩:=h
         have:=hc _ (List.mem_singleton.2 rfl)
         simp only [M7.op.injEq] at this
         rw [uy Hq,this.1,ho _ _ (nP this.2)];exact hK
       . exact auto h Hq
     | _=>exact auto h Hq
 cases op with
 | call f asz =>
   simp only [Vo] at h
   simp only [yq]
   split at h
   . cases hs with
     | nil=>cases h
     | cons x js =>
       cases x with
       | vp f' lD r' hv hp =>
         simp only [Option.some.injEq,Prod.mk.injEq] at h
         obtain ⟨rfl,_,rfl⟩:=h
         have:=hc _ (List.mem_singleton.2 rfl)
         simp only [M7.call.injEq,and_true] at this
         obtain ⟨rfl,e⟩:=this
         exact ⟨[],_,e▸bc.OT hv hp p,by simp,by simp,hK⟩
       | rel f' lD S' r' hv hr =>
         simp only [] at h
         split at h
         . rename_i hsf
           simp only [Option.some.injEq,Prod.mk.injEq] at h
           obtain ⟨rfl,_,rfl⟩:=h
           have:=hc _ (List.mem_singleton.2 rfl)
           simp only [M7.call.injEq] at this
           obtain ⟨rfl,e,e2⟩:=this
           refine ⟨S',_,e▸hv p fun x hx=>MD ?_,nP e2,hr p,hK⟩
           have:=List.all_eq_true.1 hsf x hx
           simpa using this
         . cases h
       | _=>cases h
   . cases h
 | _=>exact other rfl hc h
theorem Hh {π : Id} {base:Nat} {rs:List eT} {t':List AV} {S':de} {eK:List (Hint P G)} {K:List eT->List AV->ah->Prop} (hK:K rs.reverse t' S'.to) :
   ∀ (os:List bA) (i:Nat) (acc:List eT) (t:List AV) (S:de) (hs:List (Hint P G)) (cs:Oq),Kl π base os i acc t S hs=some (cs,eK,rs,t',S')->sC cs->BF P G π base K os i acc t S.to
 | [],i,acc,t,S,hs,cs,h,_=>by
   simp only [Kl,Option.some.injEq,Prod.mk.injEq] at h
   obtain ⟨_,_,rfl,rfl,rfl⟩:=h
   exact hK
 | o :: os,i,acc,t,S,hs,cs,h,hc=>by
   simp only [Kl] at h
   simp only [BF]
   split at h
   . cases h
   . rename_i hw;rw [hw];exact Hh hK os _ _ _ _ _ _ h hc
   . rename_i hw
     rw [hw]
     split at h
     . cases h
     . rename_i c js r hr
       split at h
       . cases h
       . rename_i cs1 x hx
         simp only [Option.some.injEq,Prod.mk.injEq] at h
         obtain ⟨rfl,rfl⟩:=h
         have:=Hh hK os _ _ _ _ _ _ hx hc.right
         rw [de.Oo] at this
         exact Ey hr hc.left this
theorem Hi {π : Id} {base:Nat} {rs:List eT} {t':List AV} {S':de} {eK:List (Hint P G)} {K:List AV->ah->Prop} (hK:K t' S'.to) :
   ∀ (os:List bA) (i:Nat) (acc:List eT) (t:List AV) (S:de) (hs:List (Hint P G)) (cs:Oq),Kl π base os i acc t S hs=some (cs,eK,rs,t',S')->sC cs->BD P G π base K os i t S.to
 | [],i,acc,t,S,hs,cs,h,_=>by
   simp only [Kl,Option.some.injEq,Prod.mk.injEq] at h
   obtain ⟨_,_,rfl,rfl,rfl⟩:=h
   exact hK
 | o :: os,i,acc,t,S,hs,cs,h,hc=>by
   simp only [Kl] at h
   simp only [BD]
   split at h
   . cases h
   . rename_i hw;rw [hw];exact Hi hK os _ _ _ _ _ _ h hc
   . rename_i hw
     rw [hw]
     split at h
     . cases h
     . rename_i c js r hr
       split at h
       . cases h
       . rename_i cs1 x hx
         simp only [Option.some.injEq,Prod.mk.injEq] at h
         obtain ⟨rfl,rfl⟩:=h
         have:=Hi hK os _ _ _ _ _ _ hx hc.right
         rw [de.Oo] at this
         exact Ey hr hc.left this
theorem Ez {c:cB} {π : Id}:∀ (m:Nat),(∀ m'<m,∀ (hs eK:List (Hint P G)) cs s s' e,jr true m' c π hs s=some (cs,eK,e,s')->sC cs->VW P G π c (fun e' s2=>e'=e/\s2=s'.to) s.to) ->
   ∀ (hs eK:List (Hint P G)) cs s s' e,jr false m (.loop c) π hs s=some (cs,eK,e,s')->sC cs->∃ n,b9 P G π c (fun e' s2=>e'=e/\s2=s'.to) n s.to
 | 0,_,_,_,_,_,_,_,h,_=>by simp [jr] at h
 | m + 1,hb,hs,eK,cs,s,s',e,h,hc=>by
   simp only [jr] at h
   split at h
   . rename_i c1 js s1 h1
     split at h
     . rename_i c2 x h2
       simp only [Option.some.injEq,Prod.mk.injEq] at h
       obtain ⟨rfl,rfl⟩:=h
       obtain ⟨n,hn⟩:=Ez m (fun m' hm=>hb m' (by omega)) js eK c2 s1 s' e h2 hc.right
       refine ⟨n+1,(hb m (by omega) hs js c1 s s1 _ h1 hc.left).mono fun e' s2 hq => ?_⟩
       obtain ⟨rfl,rfl⟩:=hq
       exact hn
     . cases h
   . rename_i h1
     refine ⟨1,(hb m (by omega) hs eK cs s s' e h hc).mono fun e' s2 hq => ?_⟩
     obtain ⟨rfl,rfl⟩:=hq
     cases e' with
     | normal=>exact absurd h (h1 _ _ _)
     | exit i=>exact ⟨rfl,rfl⟩
     | ret=>exact ⟨rfl,rfl⟩
theorem VW.post {vc:cB} {π : Id} {Q:cd->VS->Prop} {s:VS} (h:VW P G π vc (fun e s'=>∃ s1,Q e s1/\Wk G π s' s1) s):VW P G π vc Q s:=by
 intro c hc own E w a R hm hR
 refine h c hc own E w a R hm fun e s' E' w' a' hq had qH => ?_
 obtain ⟨s1,h1,h2⟩:=hq
 obtain ⟨E1,a1,m1⟩:=h2 own E' w' a' qH
 exact hR e s1 E1 w' a' h1 (had.trans a1) m1
theorem et : ∀ (m:Nat) (c:cB) (π : Id) (hs eK:List (Hint P G)) (cs:Oq) (s s':TS) (e:cd),jr true m c π hs s=some (cs,eK,e,s')->sC cs->VW P G π c (fun e' s2=>e'=e/\s2=s'.to) s.to
 | 0,_,_,_,_,_,_,_,_,h,_=>by simp [jr] at h
 | m + 1, c, π,hs,eK,cs,s,s',e,h,hc=>by
   have cnd:∀ {hs eK:List (Hint P G)} {cs:Oq} {a b:cB} {x:bd},(match x.ev G s.t with
       | .bool true=>jr true m a π hs s
       | .bool false=>jr true m b π hs s
       | _=>none)=some (cs,eK,e,s')->sC cs->VW P G π (.cond x a b) (fun e' s2=>e'=e/\s2=s'.to) s.to:=by
     intro hs eK cs a b x h hc
     split at h
     . rename_i hb;exact VW.cond hb (by simpa using et m a π _ _ _ s s' e h hc)
     . rename_i hb;exact VW.cond hb (by simpa using et m b π _ _ _ s s' e h hc)
     . cases h
   cases c with
   | skip=>simp only [jr,Option.some.injEq,Prod.mk.injEq] at h;obtain ⟨_,_,rfl,rfl⟩:=h;exact VW.skip ⟨rfl,rfl⟩
   | ret=>simp only [jr,Option.some.injEq,Prod.mk.injEq] at h;obtain ⟨_,_,rfl,rfl⟩:=h;exact VW.ret ⟨rfl,rfl⟩
   | exit i=>simp only [jr,Option.some.injEq,Prod.mk.injEq] at h;obtain ⟨_,_,rfl,rfl⟩:=h;exact VW.exit ⟨rfl,rfl⟩
   | seq a b =>
     simp only [jr] at h
     refine VW.seq ?_
     split at h
     . rename_i c1 js s1 h1
       split at h
       . rename_i c2 x h2
         simp only [Option.some.injEq,Prod.mk.injEq] at h
         obtain ⟨rfl,rfl⟩:=h
         refine (et m a π _ _ _ s s1 _ h1 hc.left).mono fun e' s2 hq => ?_
         obtain ⟨rfl,rfl⟩:=hq
         exact et m b π _ _ _ s1 s' e h2 hc.right
       . cases h
     . rename_i h1
       refine (et m a π _ _ _ s s' e h hc).mono fun e' s2 hq => ?_
       obtain ⟨rfl,rfl⟩:=hq
       cases e' with
       | normal=>exact absurd h (h1 _ _ _)
       | exit i=>exact ⟨rfl,rfl⟩
       | ret=>exact ⟨rfl,rfl⟩
   | cond x a b =>
     simp only [jr] at h
     cases hs with
     | nil=>exact cnd h hc
     | cons y js =>
       cases y with
       | br k y v hv =>
         simp only [] at h
         split at h
         . split at h
           . rename_i c1 y1 h1
             simp only [Option.some.injEq,Prod.mk.injEq] at h
             obtain ⟨rfl,rfl⟩:=h
             have h2:=hc _ (List.mem_cons_self ..)
             simp only [M7.val.injEq] at h2
             have hc':sC c1:=fun z hz=>hc z (List.mem_cons_of_mem _ hz)
             refine VW.cond (b:=v) (by rw [<- hv];exact h2) ?_
             cases v with
             | true=>simpa using et m a π _ _ _ s s' e h1 hc'
             | false=>simpa using et m b π _ _ _ s s' e h1 hc'
           . cases h
         . exact cnd h hc
       | _=>exact cnd h hc
   | block i c =>
     simp only [jr] at h
     refine VW.block ?_
     split at h
     . rename_i c1 js j s1 h1
       split at h
       . rename_i hj
         simp only [Option.some.injEq,Prod.mk.injEq] at h
         obtain ⟨rfl,rfl,rfl,rfl⟩:=h
         refine (et m c π _ _ _ s _ _ h1 hc).mono fun e' s2 hq => ?_
         obtain ⟨rfl,rfl⟩:=hq
         simp [Nat.beq_eq▸hj]
       . rename_i hj
         simp only [Option.some.injEq,Prod.mk.injEq] at h
         obtain ⟨rfl,rfl,rfl,rfl⟩:=h
         refine (et m c π _ _ _ s _ _ h1 hc).mono fun e' s2 hq => ?_
         obtain ⟨rfl,rfl⟩:=hq
         have : ¬ j=i:=fun e=>by rw [e,Nat.beq_refl] at hj;cases hj
         simp [this]
     . rename_i h1
       refine (et m c π _ _ _ s s' e h hc).mono fun e' s2 hq => ?_
       obtain ⟨rfl,rfl⟩:=hq
       cases e' with
       | normal=>exact ⟨rfl,rfl⟩
       | exit i=>exact absurd h (h1 _ _ _ _)
       | ret=>exact ⟨rfl,rfl⟩
   | loop c =>
     have plain:∀ {h1':(match jr true m c π hs s with
       | some (cs,eK, .normal,s')=>match jr false m (.loop c) π eK s' with
         | some (Bw,x)=>some (cs++Bw,x)
         | none=>none
       | r=>r)=some (cs,eK,e,s')},VW P G π (.loop c) (fun e' s2=>e'=e/\s2=s'.to) s.to:=by
       intro h
       split at h
       . rename_i c1 js s1 h1
         split at h
         . rename_i c2 x h2
           simp only [Option.some.injEq,Prod.mk.injEq] at h
           obtain ⟨rfl,rfl⟩:=h
           obtain ⟨n,hn⟩:=Ez m (fun m' hm hs eK cs s s' e hr hc=>et m' c π hs eK cs s s' e hr hc) js eK c2 s1 s' e h2 hc.right
           refine VW.rounds (n+1) ((et m c π hs js c1 s s1 _ h1 hc.left).mono fun e' s2 hq => ?_)
           obtain ⟨rfl,rfl⟩:=hq
           exact hn
         . cases h
       . rename_i h1
         refine VW.rounds 1 ((et m c π hs eK cs s s' e h hc).mono fun e' s2 hq => ?_)
         obtain ⟨rfl,rfl⟩:=hq
         cases e' with
         | normal=>exact absurd h (h1 _ _ _)
         | exit i=>exact ⟨rfl,rfl⟩
         | ret=>exact ⟨rfl,rfl⟩
     cases hs with
     | nil=>simp only [jr] at h;exact plain (h1':=h)
     | cons y js =>
     cases y with
     | lp π' c' t0 S0 n0 e1 t1 S1 n1 hv =>
       simp only [jr] at h
       split at h
       . rename_i hn
         simp only [Option.some.injEq,Prod.mk.injEq] at h
         obtain ⟨rfl,_,rfl,rfl⟩:=h
         have h2:=hc _ (List.mem_singleton.2 rfl)
         simp only [M7.lp.injEq] at h2
         obtain ⟨rfl,rfl,h3,h4⟩:=h2
         exact VW.wk (Wk.forget (Hg h3) (fun i=>ah.vQ (nP h4) i) (Nat.le_of_ble_eq_true hn)) (VW.post (hv.mono fun e' s2 hq=>⟨_,⟨hq.1,rfl⟩,hq.2⟩))
       . cases h
     | _=>simp only [jr] at h;exact plain (h1':=h)
   | reg ps os =>
     simp only [jr] at h
     split at h
     . cases h
     . rename_i c1 js rs t S h1
       cases ps with
       | none =>
         simp only [Option.some.injEq,Prod.mk.injEq] at h
         obtain ⟨rfl,rfl,rfl,rfl⟩:=h
         exact VW.Tg (Hi ⟨rfl,rfl⟩ os _ _ _ _ _ _ h1 hc)
       | some ps =>
         simp only [] at h
         split at h
         . rename_i hap
           simp only [Option.some.injEq,Prod.mk.injEq] at h
           obtain ⟨rfl,rfl,rfl,rfl⟩:=h
           exact VW.Th (Hh ⟨E7 hap,rfl,rfl⟩ os _ _ _ _ _ _ h1 hc)
         . cases h
 termination_by m=>m
end
end Go.VL
end
