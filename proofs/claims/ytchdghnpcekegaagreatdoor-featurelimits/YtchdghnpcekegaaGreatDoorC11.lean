/- For the claim of FeatureLimits: parts CQG, CQH, CQI, CQJ, CQK, CQL, CQM, VL38, VL39, VL40, PUI, GC3, CQN. -/
import Derived.Test.YtchdghnpcekegaaGreatDoorC10
import Derived.Test.YtchdghnpcekegaaGreatDoorC05
import Derived.Test.YtchdghnpcekegaaGreatDoorC03
import Derived.Test.YtchdghnpcekegaaGreatDoorC07
import Derived.KernelRfl
set_option linter.unusedSimpArgs false
set_option linter.unusedVariables false
section
set_option linter.unusedVariables false
set_option linter.unusedVariables false
set_option maxRecDepth 100000
namespace Go.VL
open Go.Lib
theorem Vr {p:Id} {k bytes n:Nat} {z:AV} (hb:n*bytes<=140737488355328) (hn:n<=1000000) (hz:z.size=k) (h1:z.cells.all AV.one=true):jm p k bytes z (.int .i64 (n:Int)) (.int .i64 (n:Int))=some { val := .osl p k 0 n false,up:=[(p,some ⟨List.replicate n z,k,false⟩)] }:=by
 simp only [jm]
 rw [if_pos ⟨by omega,by omega,by rw [<- Int.natCast_mul];exact Int.ofNat_le.2 hb,by have:n<=maxLen:=eN (by omega);omega,hz,h1⟩]
 simp
theorem MF {A:List AV} {x z:AV} {i k:Nat} (h:A.length=i):(A++List.replicate (k+1) z).set i x=A++[x]++List.replicate k z:=by
 rw [List.set_append_right _ _ (by omega),h,Nat.sub_self,List.replicate_succ,List.set_cons_zero];simp
section
variable {P:Program} {G:Nat->Option (List AV)}
open Classical in
set_option maxHeartbeats 1000000 in
theorem Ot {f fn fr fF:FuncId} (h:Has P f (pz fn fr fF)) (nm:List UInt8) (l:List NX) (ins:List (List UInt8)) (hN:VP P G fn [.str nm] (.bool (eA nm))) (hR:VP P G fr [strs ins] (.bool (decide (HZ ins ins.length))))
   (hF:∀ s∈ins,VP P G fF [dP l, .str s] (if dY l s<0 then .tup [zC, .bool false] else .tup [(eD l s).av, .bool true])) (hl:ins.length<=1000) :
   VP P G f [.str nm,dP l,strs ins] (if dw nm l ins=0 then .tup [My (ins.map (eD l)), .int .i64 0] else .tup [.nils, .int .i64 (dw nm l ins)]):=by
 refine VP.has h ?_
 simp only [pz]
 cases qU:eA nm<;>rw [qU] at hN
 . have hE:dw nm l ins=1:=by unfold dw;rw [if_pos (.inl qU)]
   rw [hE,if_neg (by decide)]
   repeat (first
     | simp (disch:=first | decide | exact rfl) only [SS,Nat.reduceAdd]
     | with_reducible refine ah (by assumption) (by simp [aa.str,aR]) ?_
     | with_reducible refine aj (by assumption) (by simp [aR]) ?_
     | with_reducible refine And.intro (a:=ab _ _) (by simp [ab,apart]) ?_
     | with_reducible refine VW.aA 3 (VW.of ?_)
     | with_reducible refine bW.next _ (VW.of ?_)
     | rw [ai (by exact rfl) (by exact rfl) (by exact rfl) (by exact rfl) (by exact rfl)]
     | rw [bQ (by exact rfl) (by exact rfl) (by exact rfl) (by exact rfl)]
     | rw [bR (by exact rfl) (by exact rfl) (by exact rfl) (by exact rfl) (by exact rfl) (by exact rfl)]
     | fail)
   exact ak▸ae rfl (aa.tup (by simp [aP,aa.int]))
 by_cases h0:ins=[]
 . have d0:decide ((ins.length:Int)=0)=true:=aw (by rw [h0];rfl)
   have hE:dw nm l ins=1:=by unfold dw;rw [if_pos (.inr h0)]
   rw [hE,if_neg (by decide)]
   repeat (first
     | simp (disch:=first | decide | exact rfl) only [SS,Nat.reduceAdd,gH,d0]
     | with_reducible refine ah (by assumption) (by simp [aa.str,aR]) ?_
     | with_reducible refine aj (by assumption) (by simp [aR]) ?_
     | with_reducible refine And.intro (a:=ab _ _) (by simp [ab,apart]) ?_
     | with_reducible refine VW.aA 3 (VW.of ?_)
     | with_reducible refine bW.next _ (VW.of ?_)
     | rw [ai (by exact rfl) (by exact rfl) (by exact rfl) (by exact rfl) (by exact rfl)]
     | rw [bQ (by exact rfl) (by exact rfl) (by exact rfl) (by exact rfl)]
     | rw [bR (by exact rfl) (by exact rfl) (by exact rfl) (by exact rfl) (by exact rfl) (by exact rfl)]
     | fail)
   exact ak▸ae rfl (aa.tup (by simp [aP,aa.int]))
 have d0:decide ((ins.length:Int)=0)=false:=ar (fun e=>h0 (List.length_eq_zero_iff.1 (by omega)))
 have hE0 : ¬ (eA nm=false∨ins=[]):=by simp [h0,qU]
 by_cases hd:HZ ins ins.length
 . rw [decide_eq_true hd] at hR
   have hE:dw nm l ins=1:=by unfold dw;rw [if_neg hE0,if_pos hd]
   rw [hE,if_neg (by decide)]
   repeat (first
     | simp (disch:=first | decide | exact rfl) only [SS,Nat.reduceAdd,gH,d0]
     | with_reducible refine ah (by assumption) (by simp [aa.str,aR]) ?_
     | with_reducible refine aj (by assumption) (by simp [aR]) ?_
     | with_reducible refine And.intro (a:=ab _ _) (by simp [ab,apart]) ?_
     | with_reducible refine VW.aA 3 (VW.of ?_)
     | with_reducible refine bW.next _ (VW.of ?_)
     | rw [ai (by exact rfl) (by exact rfl) (by exact rfl) (by exact rfl) (by exact rfl)]
     | rw [bQ (by exact rfl) (by exact rfl) (by exact rfl) (by exact rfl)]
     | rw [bR (by exact rfl) (by exact rfl) (by exact rfl) (by exact rfl) (by exact rfl) (by exact rfl)]
     | fail)
   exact ak▸ae rfl (aa.tup (by simp [aP,aa.int]))
 rw [decide_eq_false hd] at hR
 have sr:=fun p:Id=>Vr (p:=p) (k:=14) (bytes:=304) (n:=ins.length) (z:=zC) (by omega) (by omega) rfl rfl
 unfold zC at sr
 repeat (first
   | simp (disch:=first | decide | exact rfl) only [SS,Nat.reduceAdd,gH,d0,sr]
   | with_reducible refine ah (by assumption) (by simp [aa.str,aR]) ?_
   | with_reducible refine aj (by assumption) (by simp [aR]) ?_
   | with_reducible refine And.intro (a:=ab _ _) (by simp [ab,apart]) ?_
   | rw [ai (by exact rfl) (by exact rfl) (by exact rfl) (by exact rfl) (by exact rfl)]
   | rw [bQ (by exact rfl) (by exact rfl) (by exact rfl) (by exact rfl)]
   | rw [bR (by exact rfl) (by exact rfl) (by exact rfl) (by exact rfl) (by exact rfl) (by exact rfl)]
   | fail)
 simp only [aK]
 refine VW.dQ (α := Nat × Nat) (fun y=>⟨[.str nm,dP l,strs ins]++List.replicate 5 .top++[.osl [16] 14 0 ins.length false]++List.replicate 19 .top++[strs ins, .int .i64 ins.length, .int .i64 (y.1:Nat)]++List.replicate 18 .top,
   af.put (fun _=>none) [16] (some ⟨(ins.take y.1).map (fun s=>(eD l s).av)++List.replicate (ins.length-y.1) zC,14,false⟩),y.2⟩)
   (fun y=>y.1<=ins.length/\zp ins (fun s=>decide (dY l s<0)) y.1/\1000<=y.2) (fun y=>ins.length-y.1) (0,1000) ?_ ⟨Nat.zero_le _,fun j e hj=>absurd hj (Nat.not_lt_zero j),Nat.le_refl _⟩ ?_
 . refine Wk.forget (by simp [Fg,List.replicate]) (dB (by simp [af.put,zC]) oW) (by omega)
 rintro ⟨i,m⟩ ⟨hi,hn,hm⟩
 simp only [] at hi hn hm
 by_cases hlt:i<ins.length
 . obtain ⟨s,hs⟩:∃ s,ins[i]? = some s:=⟨ins[i],by simp [hlt]⟩
   have d:decide ((i:Int)<(ins.length:Int))=true:=aw (by omega)
   have hv:=hF s (List.mem_of_getElem? hs)
   have hw:=aI i (by omega)
   have l16:16<m:=by omega
   have zo:(zC.cells.all AV.one=true)=True:=by simp [zC,AV.cells,AV.one]
   by_cases hb:dY l s<0
   . rw [if_pos hb] at hv
     clear hF sr
     repeat (first
       | simp (disch:=first | decide | exact rfl | with_reducible assumption | exact Nat.ne_of_lt (by repeat (first | with_reducible assumption | apply Nat.lt_add_right))) only [SS,Nat.reduceAdd,g0,g1,d,nI hs,vk,aH,gu]
       | with_reducible refine ah (by assumption) (by simp [aa.str,aD]) ?_
       | with_reducible refine aj (by assumption) (by simp [aa.str,aD]) ?_
       | with_reducible refine And.intro (a:=ab _ _) (by simp [ab,apart];try assumption) ?_
       | rw [ai (by repeat (first | with_reducible exact aZ | refine (bz (by first | with_reducible assumption | decide | exact Nat.ne_of_lt (by repeat (first | with_reducible assumption | apply Nat.lt_add_right)))).trans ?_)) (by exact rfl) (by exact rfl) (by exact rfl) (by exact rfl)]
       | rw [bQ (by exact rfl) (by exact rfl) (by exact rfl) (by exact rfl)]
       | rw [bR (by exact rfl) (by exact rfl) (by exact rfl) (by exact rfl) (by exact rfl) (by exact rfl)]
       | fail)
     have hE:dw nm l ins=4:=by unfold dw;rw [if_neg hE0,if_neg hd,if_pos (zr hs (by simp [hb]))]
     rw [hE,if_neg (by decide)]
     exact ak▸ae rfl (aa.tup (by simp [aP,aa.int]))
   . rw [if_neg hb] at hv
     have nX:cn 14 (.osl [16] 14 0 ins.length false) (.int .i64 (i:Int))=some (.ref [16] i 0):=by rw [GL hlt,Nat.zero_add]
     have Bm:=zL (f:=fun s=>(eD l s).av) hs
     obtain ⟨k,hk⟩:∃ k,ins.length-i=k+1:=⟨ins.length-i-1,by omega⟩
     have hk2:ins.length-(i+1)=k:=by omega
     have hA:((ins.take i).map fun s=>(eD l s).av).length=i:=by simp;omega
     have hst:∀ σ : af, σ [16]=some ⟨(ins.take i).map (fun s=>(eD l s).av)++List.replicate (ins.length-i) zC,14,false⟩->fy σ 14 (.ref [16] i 0) (eD l s).av=some { val := .tup [],rd:=[[16]],up:=[([16],some ⟨(ins.take (i+1)).map (fun s=>(eD l s).av)++List.replicate (ins.length-(i+1)) zC,14,false⟩)] }:=fun σ hσ => by
       rw [eO (n:=14) (v:=(eD l s).av) (el:=zC) hσ (by rw [hk,List.getElem?_append_right (by omega),hA,Nat.sub_self];rfl) rfl (by decide) (of_eq_true (Bc _))]
       rw [Bm,hk2,hk,MF hA]
       rfl
     clear hF sr
     repeat (first
       | simp (disch:=first | decide | exact rfl | with_reducible assumption | exact Nat.ne_of_lt (by repeat (first | with_reducible assumption | apply Nat.lt_add_right))) only [SS,Nat.reduceAdd,ao,g0,g1,d,nI hs,vk,aH,gu,oU,nX,hw]
       | with_reducible refine ah (by assumption) (by simp [aa.str,aD]) ?_
       | with_reducible refine aj (by assumption) (by simp [aa.str,aD]) ?_
       | with_reducible refine And.intro (a:=ab _ _) (by simp [ab,apart];try assumption) ?_
       | rw [ai (by repeat (first | with_reducible exact aZ | refine (bz (by first | with_reducible assumption | decide | exact Nat.ne_of_lt (by repeat (first | with_reducible assumption | apply Nat.lt_add_right)))).trans ?_)) (by exact rfl) (by exact rfl) (by exact rfl) (by exact rfl)]
       | rw [bQ (by exact rfl) (by exact rfl) (by exact rfl) (by exact rfl)]
       | rw [bR (by exact rfl) (by exact rfl) (by exact rfl) (by exact rfl) (by exact rfl) (by exact rfl)]
       | rw [hst _ (by repeat (first | with_reducible exact aZ | refine (bz (by first | with_reducible assumption | decide | exact Nat.ne_of_lt (by repeat (first | with_reducible assumption | apply Nat.lt_add_right)))).trans ?_))]
       | fail)
     exact ⟨(i+1,_),⟨hlt,hn.succ hs (by simp [hb]),by simp only [];omega⟩,by simp only [];omega,Wk.forget (by simp [Fg]) (dB (by exact aZ) oW) (Nat.le_refl _)⟩
 . have d:decide ((i:Int)<(ins.length:Int))=false:=ar (by omega)
   have Vg:i=ins.length:=by omega
   subst Vg
   have hE:dw nm l ins=0:=by unfold dw;rw [if_neg hE0,if_neg hd,if_neg (by rw [hn.any (Nat.le_refl _)];decide)]
   rw [if_pos hE]
   simp only [List.take_length,Nat.sub_self,List.replicate_zero,List.append_nil]
   clear hF sr
   repeat (first
     | simp (disch:=first | decide | exact rfl | with_reducible assumption | exact Nat.ne_of_lt (by repeat (first | with_reducible assumption | apply Nat.lt_add_right))) only [SS,Nat.reduceAdd,d]
     | with_reducible refine ah (by assumption) (by simp [aR]) ?_
     | with_reducible refine aj (by assumption) (by simp [aR]) ?_
     | with_reducible refine And.intro (a:=ab _ _) (by simp [ab,apart];try assumption) ?_
     | rw [ai (by repeat (first | with_reducible exact aZ | refine (bz (by first | with_reducible assumption | decide | exact Nat.ne_of_lt (by repeat (first | with_reducible assumption | apply Nat.lt_add_right)))).trans ?_)) (by exact rfl) (by exact rfl) (by exact rfl) (by exact rfl)]
     | rw [bQ (by exact rfl) (by exact rfl) (by exact rfl) (by exact rfl)]
     | rw [bR (by exact rfl) (by exact rfl) (by exact rfl) (by exact rfl) (by exact rfl) (by exact rfl)]
     | fail)
   refine ak▸⟨_,rfl,View.tup (.cons ?_ (.cons (View.pure (aa.int _ _)) .nil))⟩
   have e:(ins.map fun s=>(eD l s).av)=(ins.map (eD l)).map CX.av:=by rw [List.map_map];rfl
   have:=CL (σ := af.put (fun _=>none) [16] (some ⟨(ins.map (eD l)).map CX.av,14,false⟩)) (q:=[16]) (k:=14) (l:=(ins.map (eD l)).map CX.av) (.inr aZ) (by intro a ha;obtain ⟨y,_,rfl⟩:=List.mem_map.1 ha;rfl) (Hc _)
   rw [Ey (by simpa using h0)] at this
   have hlen:((ins.map (eD l)).map CX.av).length=ins.length:=by simp
   rw [hlen] at this
   rw [e]
   exact this
end
end Go.VL
end

section
set_option linter.unusedVariables false
set_option linter.unusedVariables false
set_option maxRecDepth 100000
namespace Go.VL
open Go.Lib
theorem Fv {l:List NX}:((dP l).cells.all AV.one=true)=True:=by simp [AV.cells,AV.one]
theorem aey {l:List NX}:part false [dP l] 0 1=some (dP l):=rfl
theorem MG {l:List NX}:part false (dP l).cells 0 1=some (dP l):=rfl
section
variable {P:Program} {G:Nat->Option (List AV)}
theorem Vs {f:FuncId} (h:Has P f pA) (x:NX):VP P G f [x.av] (.bool (decide (200<x.name.length))):=by
 have e:decide ((200:Int)<(x.name.length:Int))=decide (200<x.name.length):=by congr 1;exact propext (by omega)
 refine VP.has h ?_
 simp only [pA]
 repeat (first
   | simp (disch:=first | decide | exact rfl) only [SS,Nat.reduceAdd,ao,kC,Av,e]
   | with_reducible refine ah (by assumption) (by simp [au,ay,ax,aa.int,aa.bool,aa.str,aP,az,aC,aG,aV,bf,aD,aR,bL,bT]) ?_
   | with_reducible refine aj (by assumption) (by simp [au,ay,ax,aa.int,aa.bool,aa.str,aP,az,aC,aG,aV,bf,aD,aR,bL,bT]) ?_
   | with_reducible refine And.intro (a:=ab _ _) (by simp [ab,apart]) ?_
   | with_reducible refine VW.aA 3 (VW.of ?_)
   | with_reducible refine bW.next _ (VW.of ?_)
   | rw [ai (by exact rfl) (by exact rfl) (by exact rfl) (by exact rfl) (by exact rfl)]
   | rw [bQ (by exact rfl) (by exact rfl) (by exact rfl) (by exact rfl)]
   | rw [bR (by exact rfl) (by exact rfl) (by exact rfl) (by exact rfl) (by exact rfl) (by exact rfl)]
   | fail)
 exact ak▸ae rfl (aa.bool _)
theorem Vt {f fi:FuncId} (h:Has P f (pB fi)) (l:List NX) (x:NX) (hi:VP P G fi [dP l, .str x.name] (.int .i64 (dY l x.name))):VP P G f [x.av, .ep [dP l] 0] (.bool (decide (0<=dY l x.name))):=by
 refine VP.has h ?_
 simp only [pB]
 repeat (first
   | simp (disch:=first | decide | exact rfl) only [SS,Nat.reduceAdd,ao,kC,Av,aH,aey]
   | with_reducible refine ah (by assumption) (by simp [aa.str,aD]) ?_
   | with_reducible refine aj (by assumption) (by simp [aa.str,aD]) ?_
   | with_reducible refine And.intro (a:=ab _ _) (by simp [ab,apart]) ?_
   | with_reducible refine VW.aA 3 (VW.of ?_)
   | with_reducible refine bW.next _ (VW.of ?_)
   | rw [ai (by exact rfl) (by exact rfl) (by exact rfl) (by exact rfl) (by exact rfl)]
   | rw [bQ (by exact rfl) (by exact rfl) (by exact rfl) (by exact rfl)]
   | rw [bR (by exact rfl) (by exact rfl) (by exact rfl) (by exact rfl) (by exact rfl) (by exact rfl)]
   | fail)
 exact ak▸ae rfl (aa.bool _)
set_option maxHeartbeats 2000000 in
theorem Vu {f f1 f2 fc:FuncId} (h:Has P f (rp f1 f2 fc)) (l more:List NX) (hl:l.length<=1000000) (hm:more.length<=1000000) (h1:VP P G fc [dP more, .fn (.func f1) [] []] (.bool (more.any fun x=>decide (200<x.name.length))))
   (h2:VP P G fc [dP more, .fn (.func f2) [] [.ep [dP l] 0]] (.bool (more.any fun x=>decide (0<=dY l x.name)))):VP P G f [dP l,dP more] (.int .i64 (iE l more)):=by
 have hw:IntKind.i64.wrap ((l.length:Int)+(more.length:Int))=((l.length+more.length:Nat):Int):=by rw [IntKind.wrap_i64];omega
 refine VP.has h ?_
 unfold iE
 simp only [rp]
 by_cases h0:200<l.length+more.length
 . have d0:decide ((200:Int)<((l.length+more.length:Nat):Int))=true:=aw (by omega)
   rw [if_pos h0]
   repeat (first
     | simp (disch:=first | decide | exact rfl) only [SS,Nat.reduceAdd,ao,Fv,MG,List.length_map,hw,d0]
     | with_reducible refine ah (by assumption) (by simp [aD]) ?_
     | with_reducible refine aj (by assumption) (by simp [aD]) ?_
     | with_reducible refine And.intro (a:=ab _ _) (by simp [ab,apart]) ?_
     | with_reducible refine VW.aA 3 (VW.of ?_)
     | with_reducible refine bW.next _ (VW.of ?_)
     | rw [ai (by exact rfl) (by exact rfl) (by exact rfl) (by exact rfl) (by exact rfl)]
     | rw [bQ (by exact rfl) (by exact rfl) (by exact rfl) (by exact rfl)]
     | rw [bR (by exact rfl) (by exact rfl) (by exact rfl) (by exact rfl) (by exact rfl) (by exact rfl)]
     | fail)
   exact ak▸ae rfl (aa.int _ _)
 have d0:decide ((200:Int)<((l.length+more.length:Nat):Int))=false:=ar (by omega)
 rw [if_neg h0]
 cases hb:more.any fun x=>decide (200<x.name.length)<;>rw [hb] at h1
 . rw [if_neg (by decide)]
   cases hc:more.any fun x=>decide (0<=dY l x.name)<;>rw [hc] at h2
   . rw [if_neg (by decide)]
     repeat (first
       | simp (disch:=first | decide | exact rfl) only [SS,Nat.reduceAdd,ao,J2,Fv,MG,List.length_map,hw,d0]
       | with_reducible refine ah (by assumption) (by simp [aD,bT]) ?_
       | with_reducible refine aj (by assumption) (by simp [aD]) ?_
       | with_reducible refine And.intro (a:=ab _ _) (by simp [ab,apart]) ?_
       | with_reducible refine VW.aA 3 (VW.of ?_)
       | with_reducible refine bW.next _ (VW.of ?_)
       | rw [ai (by exact rfl) (by exact rfl) (by exact rfl) (by exact rfl) (by exact rfl)]
       | rw [bQ (by exact rfl) (by exact rfl) (by exact rfl) (by exact rfl)]
       | rw [bR (by exact rfl) (by exact rfl) (by exact rfl) (by exact rfl) (by exact rfl) (by exact rfl)]
       | refine bB [([0],⟨[dP l],1,false⟩)] h2 (aF.cons (View.pure (aD more)) (aF.cons (View.fn aF.nil (aF.cons (View.ref (bk:=⟨[dP l],1,false⟩) (by simp [af.of]) rfl (aF.pure (by simp [AV.cells,aD]))) aF.nil)) aF.nil)) (by simp [af.put,AV.size,AV.cells]) ?_
       | fail)
     exact ak▸ae rfl (aa.int _ _)
   . rw [if_pos rfl]
     repeat (first
       | simp (disch:=first | decide | exact rfl) only [SS,Nat.reduceAdd,ao,J2,Fv,MG,List.length_map,hw,d0]
       | with_reducible refine ah (by assumption) (by simp [aD,bT]) ?_
       | with_reducible refine aj (by assumption) (by simp [aD]) ?_
       | with_reducible refine And.intro (a:=ab _ _) (by simp [ab,apart]) ?_
       | with_reducible refine VW.aA 3 (VW.of ?_)
       | with_reducible refine bW.next _ (VW.of ?_)
       | rw [ai (by exact rfl) (by exact rfl) (by exact rfl) (by exact rfl) (by exact rfl)]
       | rw [bQ (by exact rfl) (by exact rfl) (by exact rfl) (by exact rfl)]
       | rw [bR (by exact rfl) (by exact rfl) (by exact rfl) (by exact rfl) (by exact rfl) (by exact rfl)]
       | refine bB [([0],⟨[dP l],1,false⟩)] h2 (aF.cons (View.pure (aD more)) (aF.cons (View.fn aF.nil (aF.cons (View.ref (bk:=⟨[dP l],1,false⟩) (by simp [af.of]) rfl (aF.pure (by simp [AV.cells,aD]))) aF.nil)) aF.nil)) (by simp [af.put,AV.size,AV.cells]) ?_
       | fail)
     exact ak▸ae rfl (aa.int _ _)
 . rw [if_pos rfl]
   repeat (first
     | simp (disch:=first | decide | exact rfl) only [SS,Nat.reduceAdd,ao,Fv,MG,List.length_map,hw,d0]
     | with_reducible refine ah (by assumption) (by simp [aD,bT]) ?_
     | with_reducible refine aj (by assumption) (by simp [aD]) ?_
     | with_reducible refine And.intro (a:=ab _ _) (by simp [ab,apart]) ?_
     | with_reducible refine VW.aA 3 (VW.of ?_)
     | with_reducible refine bW.next _ (VW.of ?_)
     | rw [ai (by exact rfl) (by exact rfl) (by exact rfl) (by exact rfl) (by exact rfl)]
     | rw [bQ (by exact rfl) (by exact rfl) (by exact rfl) (by exact rfl)]
     | rw [bR (by exact rfl) (by exact rfl) (by exact rfl) (by exact rfl) (by exact rfl) (by exact rfl)]
     | fail)
   exact ak▸ae rfl (aa.int _ _)
end
end Go.VL
end

section
set_option linter.unusedVariables false
set_option linter.unusedVariables false
set_option maxRecDepth 100000
namespace Go.VL
open Go.Lib
abbrev zN:AV := .agg [.str [], .bool false, .nils, .nils, .nils, .nils, .nils, .nils, .nils, .nils, .nils, .nils, .nils, .nils, .bool false]
theorem zO {a b:List NX}:aa (.sl 1 [dP a,dP b]):=aa.sl (by intro c hc;simp [flat,AV.cells] at hc;rcases hc with rfl | rfl<;>exact aD _)
theorem abE {q:Id} {n:Nat} (h0:0<n) (hn:n<=1000):H9 q 15 320 zN .nils (.int .i64 (n:Int))=some { val := .osl q 15 0 n false,up:=[(q,some ⟨List.replicate n zN,15,false⟩)] }:=by
 simp only [H9]
 rw [if_pos ⟨by omega,by omega,by have:n<=maxLen:=eN (by omega);omega,rfl,rfl⟩]
 simp
theorem JC {σ : af} {p id:Id} {A:List AV} {ys:List NX} {k:Nat} (h : σ id=some ⟨A++List.replicate (ys.length+k) zN,15,false⟩) (h0:ys≠[]) (hl:A.length+ys.length<=1000) :
   eh σ p 15 320 (.osl id 15 0 A.length false) (dP ys)=some { val := .osl id 15 0 (A.length+ys.length) false,rd:=[id],up:=[(id,some ⟨A++ys.map NX.av++List.replicate k zN,15,false⟩)] }:=by
 have hy:0<ys.length:=List.length_pos_iff.2 h0
 have e1:(ys.map NX.av).isEmpty=false:=by simpa using h0
 have hmx:A.length+ys.length<=maxLen:=eN (by omega)
 simp only [eh,ky,e1,h,List.length_map]
 rw [if_neg (by decide),if_pos ⟨trivial,trivial,trivial,by simp,by omega,hmx,mK kC ys⟩,if_neg (by decide),if_neg (fun hh=>by have:=hh.1;rw [List.length_append,List.length_replicate] at this;omega),if_pos ⟨by simp,trivial⟩]
 simp [List.drop_append]
section
variable {P:Program} {G:Nat->Option (List AV)}
theorem Km {f:FuncId} (h:Has P f dp) (n:Nat) (h0:0<n) (hn:n<=1000) (p:Id):aW P G f [.nils, .int .i64 (n:Int)] p [] { val := .osl (18::p) 15 0 0 false,up:=[(18::p,some ⟨List.replicate n zN,15,false⟩)] }:=by
 have d1:decide ((n:Int)<0)=false:=ar (by omega)
 have d2:decide ((0:Int)<(n:Int))=true:=aw (by omega)
 have w1:IntKind.i64.wrap ((0:Int)-0)=0:=by decide
 have w2:IntKind.i64.wrap ((n:Int)-0)=(n:Int):=by rw [IntKind.wrap_i64];omega
 have cp:SY .nils=some (.int .i64 0):=rfl
 have so:∀ q:Id,gP 15 (.osl q 15 0 n false) none (some (.int .i64 0)) none=some (.osl q 15 0 0 false):=fun q=>GV (h:=0) (Nat.zero_le _)
 refine aW.has h ?_
 simp only [dp]
 repeat (first
   | simp (disch:=first | decide | exact rfl) only [SS,Nat.reduceAdd,d1,d2,w1,w2,cp,Er,abE h0 hn,so]
   | with_reducible refine ah (by assumption) (by simp [au,ay,ax,aa.int,aa.bool,aa.str,aP,az,aC,aG,aV,bf,aD,aR,bL,zO,bT]) ?_
   | with_reducible refine aj (by assumption) (by simp [au,ay,ax,aa.int,aa.bool,aa.str,aP,az,aC,aG,aV,bf,aD,aR,bL,zO,bT]) ?_
   | with_reducible refine And.intro (a:=ab _ _) (by simp [ab,apart]) ?_
   | with_reducible refine VW.aA 3 (VW.of ?_)
   | with_reducible refine bW.next _ (VW.of ?_)
   | rw [ai (by repeat (first | exact aZ | refine (di (by simp)).trans ?_)) (by exact rfl) (by exact rfl) (by exact rfl) (by exact rfl)]
   | rw [bQ (by exact rfl) (by exact rfl) (by exact rfl) (by exact rfl)]
   | rw [bR (by exact rfl) (by exact rfl) (by exact rfl) (by exact rfl) (by exact rfl) (by exact rfl)]
   | fail)
 refine dX▸bF rfl (fun i => ?_)
 by_cases e:i=18::p
 . right;subst e;simp [af.app,af.put]
 . left;simp [af.app,af.put,af.of,e]
theorem Sg {f fg:FuncId} (h:Has P f (dZ fg)) (hg:Has P fg dp) (l more:List NX) (hl:l≠[]) (hm:more≠[]) (hlen:l.length+more.length<=200):VP P G f [.sl 1 [dP l,dP more]] (dP (l++more)):=by
 have l0:0<l.length:=List.length_pos_iff.2 hl
 have w1:IntKind.i64.wrap ((0:Int)+(l.length:Int))=(l.length:Int):=by rw [IntKind.wrap_i64];omega
 have w2:IntKind.i64.wrap ((l.length:Int)+(more.length:Int))=((l.length+more.length:Nat):Int):=by rw [IntKind.wrap_i64];omega
 have d1:decide ((l.length:Int)<0)=false:=ar (by omega)
 have d2:decide (((l.length+more.length:Nat):Int)<0)=false:=ar (by omega)
 have d3:sX false (.sl 1 [dP l,dP more])=some (.int .i64 2):=rfl
 have a1:∀ (σ : af) (p id:Id), σ id=some ⟨List.replicate (l.length+more.length) zN,15,false⟩->eh σ p 15 320 (.osl id 15 0 0 false) (dP l)=some { val := .osl id 15 0 l.length false,rd:=[id],up:=[(id,some ⟨l.map NX.av++List.replicate more.length zN,15,false⟩)] }:=fun σ p id hσ => by
   have:=JC (σ := σ) (p:=p) (id:=id) (A:=[]) (ys:=l) (k:=more.length) (by simpa using hσ) hl (by simp;omega)
   simpa using this
 have a2:∀ (σ : af) (p id:Id), σ id=some ⟨l.map NX.av++List.replicate more.length zN,15,false⟩->eh σ p 15 320 (.osl id 15 0 l.length false) (dP more)=some { val := .osl id 15 0 (l++more).length false,rd:=[id],up:=[(id,some ⟨(l++more).map NX.av,15,false⟩)] }:=fun σ p id hσ => by
   have:=JC (σ := σ) (p:=p) (id:=id) (A:=l.map NX.av) (ys:=more) (k:=0) (by simpa using hσ) hm (by simp;omega)
   simpa using this
 refine VP.has h ?_
 simp only [dZ]
 repeat (first
   | simp (disch:=first | decide | exact rfl) only [SS,Nat.reduceAdd,aK,ZZ,d3,Mf,RF,aH,MG,List.length_map,w1,w2,d1,d2]
   | with_reducible refine ah (by assumption) (by simp [au,ay,ax,aa.int,aa.bool,aa.str,aP,az,aC,aG,aV,bf,aD,aR,bL,zO,bT]) ?_
   | with_reducible refine aj (by assumption) (by simp [au,ay,ax,aa.int,aa.bool,aa.str,aP,az,aC,aG,aV,bf,aD,aR,bL,zO,bT]) ?_
   | with_reducible refine And.intro (a:=ab _ _) (by simp [ab,apart]) ?_
   | with_reducible refine VW.aA 3 (VW.of ?_)
   | with_reducible refine bW.next _ (VW.of ?_)
   | rw [ai (by exact rfl) (by exact rfl) (by exact rfl) (by exact rfl) (by exact rfl)]
   | rw [bQ (by exact rfl) (by exact rfl) (by exact rfl) (by exact rfl)]
   | rw [bR (by exact rfl) (by exact rfl) (by exact rfl) (by exact rfl) (by exact rfl) (by exact rfl)]
   | refine ⟨[],_,Km hg (l.length+more.length) (by omega) (by omega) _,by simp,by simp, ?_⟩
   | rw [a1 _ _ _ (by exact rfl)]
   | rw [a2 _ _ _ (by exact rfl)]
   | fail)
 refine ak▸⟨_,rfl,Fu (by exact rfl)⟩
theorem Yq {f fr fc:FuncId} (h:Has P f (rq fr fc)) (l more:List NX) (hr:VP P G fr [dP l,dP more] (.int .i64 (iE l more))) (hc:iE l more=0->VP P G fc [.sl 1 [dP l,dP more]] (dP (l++more))) :
   VP P G f [dP l,dP more] (if iE l more=0 then .tup [dP (l++more), .int .i64 0] else .tup [.nils, .int .i64 (iE l more)]):=by
 refine VP.has h ?_
 simp only [rq]
 by_cases h0:iE l more=0
 . have d0:decide (iE l more≠0)=false:=ar (by simpa using h0)
   have Xl:=hc h0
   rw [if_pos h0]
   have hv:aF (af.of [([10],⟨[dP l,dP more],1,false⟩)]) [.osl [10] 1 0 2 false] [.sl 1 [dP l,dP more]]:=aF.cons (UH (b:=false) (by simp [af.of]) rfl rfl (by intro c hc;simp [AV.cells] at hc;subst hc;exact aD _) (by intro c hc;simp [AV.cells] at hc;subst hc;exact aD _)) aF.nil
   repeat (first
     | simp (disch:=first | decide | exact rfl) only [SS,Nat.reduceAdd,J2,d0]
     | with_reducible refine ah (by assumption) (by simp [aD,zO]) ?_
     | with_reducible refine aj (by assumption) (by simp [zO]) ?_
     | with_reducible refine And.intro (a:=ab _ _) (by simp [ab,apart]) ?_
     | with_reducible refine VW.aA 3 (VW.of ?_)
     | with_reducible refine bW.next _ (VW.of ?_)
     | rw [ai (by exact rfl) (by exact rfl) (by exact rfl) (by exact rfl) (by exact rfl)]
     | rw [bQ (by exact rfl) (by exact rfl) (by exact rfl) (by exact rfl)]
     | rw [bR (by exact rfl) (by exact rfl) (by exact rfl) (by exact rfl) (by exact rfl) (by exact rfl)]
     | refine bB _ Xl hv (by simp [af.put]) ?_
     | fail)
   exact ak▸ae rfl (aa.tup (by simp [aD,aa.int]))
 . have d0:decide (iE l more≠0)=true:=aw h0
   rw [if_neg h0]
   repeat (first
     | simp (disch:=first | decide | exact rfl) only [SS,Nat.reduceAdd,d0]
     | with_reducible refine ah (by assumption) (by simp [aD]) ?_
     | with_reducible refine aj (by assumption) (by simp [aD]) ?_
     | with_reducible refine And.intro (a:=ab _ _) (by simp [ab,apart]) ?_
     | with_reducible refine VW.aA 3 (VW.of ?_)
     | with_reducible refine bW.next _ (VW.of ?_)
     | rw [ai (by exact rfl) (by exact rfl) (by exact rfl) (by exact rfl) (by exact rfl)]
     | rw [bQ (by exact rfl) (by exact rfl) (by exact rfl) (by exact rfl)]
     | rw [bR (by exact rfl) (by exact rfl) (by exact rfl) (by exact rfl) (by exact rfl) (by exact rfl)]
     | fail)
   exact ak▸ae rfl (aa.tup (by simp [aP,aa.int]))
end
end Go.VL
end

section
set_option linter.unusedVariables false
set_option linter.unusedVariables false
set_option maxRecDepth 100000
namespace Go.VL
open Go.Lib
def Z3:List UInt8:=[48,49,50,51,52,53,54,55,56,57,97,98,99,100,101,102,103,104,105,106,107,108,109,110,111,112,113,114,115,116,117,118,119,120,121,122]
def Hf:List UInt8:=(List.range 100).flatMap fun n=>[UInt8.ofNat (48+n/10),UInt8.ofNat (48+n%10)]
theorem Si:∀ n,n<100->(Hf.take (n*2+2)).drop (n*2)=[UInt8.ofNat (48+n/10),UInt8.ofNat (48+n%10)]:=by decide
theorem Vv {L:List UInt8} (hL:L=Hf) {n:Nat} (hn:n<100):vA (.str L) (some (.int .i64 ((n*2:Nat):Int))) (some (.int .i64 ((n*2+2:Nat):Int)))=some (.str [UInt8.ofNat (48+n/10),UInt8.ofNat (48+n%10)]):=by
 subst hL
 have hlen:Hf.length=200:=by decide
 have h1:n*2+2<=Hf.length:=by omega
 rw [<- Si n hn]
 have b:gO Hf.length (some (.int .i64 ((n*2:Nat):Int))) (some (.int .i64 ((n*2+2:Nat):Int)))=some (n*2,n*2+2):=by
   rw [hlen];simp only [gO,kN];rw [if_pos (by omega)];simp only [Int.toNat_natCast];rw [if_pos (by omega)]
 simp only [vA,b]
section
variable {P:Program} {G:Nat->Option (List AV)}
theorem Vw {f:FuncId} (h:Has P f jh) (n:Nat) (hn:n<100):VP P G f [.int .i64 (n:Int)] (.str (decDigits n)):=by
 have w1:IntKind.i64.wrap ((n:Int)+1)=((n+1:Nat):Int):=by rw [IntKind.wrap_i64];omega
 have w2:IntKind.i64.wrap ((n:Int)*2)=((n*2:Nat):Int):=by rw [IntKind.wrap_i64];omega
 have w3:IntKind.i64.wrap (((n*2:Nat):Int)+2)=((n*2+2:Nat):Int):=by rw [IntKind.wrap_i64];omega
 refine VP.has h ?_
 simp only [jh]
 by_cases h0:n<10
 . have d0:decide ((n:Int)<10)=true:=aw (by omega)
   have e:∀ n,n<10->vA (.str Z3) (some (.int .i64 ((n:Nat):Int))) (some (.int .i64 ((n+1:Nat):Int)))=some (.str [UInt8.ofNat (48+n)]):=by
     intro n hn
     rcases (by omega:n=0∨n=1∨n=2∨n=3∨n=4∨n=5∨n=6∨n=7∨n=8∨n=9) with rfl | rfl | rfl | rfl | rfl | rfl | rfl | rfl | rfl | rfl<;>rfl
   have e1:=e n h0
   unfold Z3 at e1
   rw [nc h0]
   repeat (first
     | simp (disch:=first | decide | exact rfl) only [SS,Nat.reduceAdd,d0,w1,e1]
     | with_reducible refine ah (by assumption) (by simp [au,ay,ax,aa.int,aa.bool,aa.str,aP,az,aC,aG,aV,bf,aD,aR,bL,bT]) ?_
     | with_reducible refine aj (by assumption) (by simp [au,ay,ax,aa.int,aa.bool,aa.str,aP,az,aC,aG,aV,bf,aD,aR,bL,bT]) ?_
     | with_reducible refine And.intro (a:=ab _ _) (by simp [ab,apart]) ?_
     | with_reducible refine VW.aA 3 (VW.of ?_)
     | with_reducible refine bW.next _ (VW.of ?_)
     | rw [ai (by exact rfl) (by exact rfl) (by exact rfl) (by exact rfl) (by exact rfl)]
     | rw [bQ (by exact rfl) (by exact rfl) (by exact rfl) (by exact rfl)]
     | rw [bR (by exact rfl) (by exact rfl) (by exact rfl) (by exact rfl) (by exact rfl) (by exact rfl)]
     | fail)
   exact ak▸ae rfl (aa.str _)
 . have d0:decide ((n:Int)<10)=false:=ar (by omega)
   rw [D1 h0,nc (by omega)]
   repeat (first
     | simp (disch:=first | decide | exact rfl) only [SS,Nat.reduceAdd,d0,w2,w3]
     | with_reducible refine ah (by assumption) (by simp [au,ay,ax,aa.int,aa.bool,aa.str,aP,az,aC,aG,aV,bf,aD,aR,bL,bT]) ?_
     | with_reducible refine aj (by assumption) (by simp [au,ay,ax,aa.int,aa.bool,aa.str,aP,az,aC,aG,aV,bf,aD,aR,bL,bT]) ?_
     | with_reducible refine And.intro (a:=ab _ _) (by simp [ab,apart]) ?_
     | with_reducible refine VW.aA 3 (VW.of ?_)
     | with_reducible refine bW.next _ (VW.of ?_)
     | rw [ai (by exact rfl) (by exact rfl) (by exact rfl) (by exact rfl) (by exact rfl)]
     | rw [bQ (by exact rfl) (by exact rfl) (by exact rfl) (by exact rfl)]
     | rw [bR (by exact rfl) (by exact rfl) (by exact rfl) (by exact rfl) (by exact rfl) (by exact rfl)]
     | rw [Vv (by exact rfl) (by assumption)]
     | fail)
   exact ak▸ae rfl (aa.str _)
theorem Kn {f f1 f2 f3 f4:FuncId} (h:Has P f (gA f1 f2 f3 f4)) (n:Nat) (hn:n<100) (hs:VP P G f1 [.int .i64 (n:Int)] (.str (decDigits n))):VP P G f [.int .i64 (n:Int), .int .i64 10] (.str (decDigits n)):=by
 have d1:decide ((0:Int)<=(n:Int))=true:=aw (by omega)
 have d2:decide ((n:Int)<100)=true:=aw (by omega)
 have d3:decide ((10:Int)=10)=true:=rfl
 refine VP.has h ?_
 simp only [gA]
 repeat (first
   | simp (disch:=first | decide | exact rfl) only [SS,Nat.reduceAdd,decide_true,d1,d2]
   | with_reducible refine ah (by assumption) (by simp [aa.int]) ?_
   | with_reducible refine aj (by assumption) (by simp [aa.int]) ?_
   | with_reducible refine And.intro (a:=ab _ _) (by simp [ab,apart]) ?_
   | with_reducible refine VW.aA 3 (VW.of ?_)
   | with_reducible refine bW.next _ (VW.of ?_)
   | rw [ai (by exact rfl) (by exact rfl) (by exact rfl) (by exact rfl) (by exact rfl)]
   | rw [bQ (by exact rfl) (by exact rfl) (by exact rfl) (by exact rfl)]
   | rw [bR (by exact rfl) (by exact rfl) (by exact rfl) (by exact rfl) (by exact rfl) (by exact rfl)]
   | fail)
 exact ak▸ae rfl (aa.str _)
theorem Vx {f f1:FuncId} (h:Has P f (jN f1)) (n:Nat) (hs:VP P G f1 [.int .i64 (n:Int), .int .i64 10] (.str (decDigits n))):VP P G f [.int .i64 (n:Int)] (.str (decDigits n)):=by
 refine VP.has h ?_
 simp only [jN]
 repeat (first
   | simp (disch:=first | decide | exact rfl) only [SS,Nat.reduceAdd]
   | with_reducible refine ah (by assumption) (by simp [aa.int]) ?_
   | with_reducible refine aj (by assumption) (by simp [aa.int]) ?_
   | with_reducible refine And.intro (a:=ab _ _) (by simp [ab,apart]) ?_
   | with_reducible refine VW.aA 3 (VW.of ?_)
   | with_reducible refine bW.next _ (VW.of ?_)
   | rw [ai (by exact rfl) (by exact rfl) (by exact rfl) (by exact rfl) (by exact rfl)]
   | rw [bQ (by exact rfl) (by exact rfl) (by exact rfl) (by exact rfl)]
   | rw [bR (by exact rfl) (by exact rfl) (by exact rfl) (by exact rfl) (by exact rfl) (by exact rfl)]
   | fail)
 exact ak▸ae rfl (aa.str _)
theorem Yr {f f1:FuncId} (h:Has P f (rr f1)) (n:Nat) (hs:VP P G f1 [.int .i64 (n:Int)] (.str (decDigits n))):VP P G f [.int .i64 (n:Int)] (.str (decDigits n)):=by
 refine VP.has h ?_
 simp only [rr]
 repeat (first
   | simp (disch:=first | decide | exact rfl) only [SS,Nat.reduceAdd]
   | with_reducible refine ah (by assumption) (by simp [aa.int]) ?_
   | with_reducible refine aj (by assumption) (by simp [aa.int]) ?_
   | with_reducible refine And.intro (a:=ab _ _) (by simp [ab,apart]) ?_
   | with_reducible refine VW.aA 3 (VW.of ?_)
   | with_reducible refine bW.next _ (VW.of ?_)
   | rw [ai (by exact rfl) (by exact rfl) (by exact rfl) (by exact rfl) (by exact rfl)]
   | rw [bQ (by exact rfl) (by exact rfl) (by exact rfl) (by exact rfl)]
   | rw [bR (by exact rfl) (by exact rfl) (by exact rfl) (by exact rfl) (by exact rfl) (by exact rfl)]
   | fail)
 exact ak▸ae rfl (aa.str _)
end
end Go.VL
end

section
set_option linter.unusedVariables false
set_option linter.unusedVariables false
set_option maxRecDepth 100000
namespace Go.VL
open Go.Lib
section
variable {P:Program} {G:Nat->Option (List AV)}
theorem Ko {f ff fi:FuncId} (h:Has P f (ny ff fi)) (a:Q2):cX P G f [V2 a, .int .i64 0] (V2 a):=fun p id jS=>by
 have hq:=lB jS
 refine aW.has h ?_
 simp only [ny]
 repeat (first
   | simp (disch:=first | decide | exact rfl) only [eG,SS,Nat.reduceAdd,ao,ZZ,gl,cK,cx]
   | with_reducible refine ah (by assumption) (by simp [au,ay,ax,aa.int,aa.bool,aa.str,aP,az,aC,aG,aV,bf,aD,aR,bL,bT]) ?_
   | with_reducible refine aj (by assumption) (by simp [au,ay,ax,aa.int,aa.bool,aa.str,aP,az,aC,aG,aV,bf,aD,aR,bL,bT]) ?_
   | with_reducible refine And.intro (a:=ab _ _) (by simp [ab,apart]) ?_
   | with_reducible refine VW.aA 3 (VW.of ?_)
   | with_reducible refine bW.next _ (VW.of ?_)
   | rw [ai (by repeat (first | exact aZ | refine (di (by simp)).trans ?_)) (by exact rfl) (by exact rfl) (by exact rfl) (by exact rfl)]
   | rw [bQ (by exact rfl) (by exact rfl) (by exact rfl) (by exact rfl)]
   | rw [bR (by exact rfl) (by exact rfl) (by exact rfl) (by exact rfl) (by exact rfl) (by exact rfl)]
   | fail)
 refine dX▸bF (by simp (disch:=decide) only [RS,aY,a7,ao,cK]) (zm (by simp [af.put,af.of,hq]))
theorem Ys {f fa fv:FuncId} (h:Has P f (nz fa fv)) (a b:Q2) (ha:VP P G fa [V2 a,V2 b] (.tup [V2 (gm a b), .int .i64 0])) (hv:∀ a,cX P G fv [V2 a, .int .i64 0] (V2 a)):cX P G f [V2 a,V2 b] (V2 (gm a b)):=fun p id jS=>by
 have hq:=lB jS
 refine aW.has h ?_
 simp only [nz]
 repeat (first
   | simp (disch:=first | decide | exact rfl) only [eG,SS,Nat.reduceAdd,ao,g0,g1,gl,cK,cx]
   | with_reducible refine ah (by assumption) (by simp [aG]) ?_
   | with_reducible refine aj (by assumption) (by simp [aG]) ?_
   | with_reducible refine And.intro (a:=ab _ _) (by simp [ab,apart]) ?_
   | with_reducible refine VW.aA 3 (VW.of ?_)
   | with_reducible refine bW.next _ (VW.of ?_)
   | rw [ai (by repeat (first | exact aZ | refine (di (by simp)).trans ?_)) (by exact rfl) (by exact rfl) (by exact rfl) (by exact rfl)]
   | rw [bQ (by exact rfl) (by exact rfl) (by exact rfl) (by exact rfl)]
   | rw [bR (by exact rfl) (by exact rfl) (by exact rfl) (by exact rfl) (by exact rfl) (by exact rfl)]
   | refine gn (hv _) jS (by simp [af.put,af.of,hq]) ?_
   | fail)
 refine dX▸bF (by simp (disch:=decide) only [RS,aY,a7,ao,cK]) (zm (by simp [af.put,af.of,hq]))
theorem Sj {f fa fv:FuncId} (h:Has P f (mq fa fv)) (a:Q2) (n:Rat) (ha:VP P G fa [V2 a,NV n] (.tup [V2 (fS a n), .int .i64 0])) (hv:∀ a,cX P G fv [V2 a, .int .i64 0] (V2 a)):cX P G f [V2 a,NV n] (V2 (fS a n)):=fun p id jS=>by
 have hq:=lB jS
 refine aW.has h ?_
 simp only [mq]
 repeat (first
   | simp (disch:=first | decide | exact rfl) only [eG,SS,Nat.reduceAdd,ao,g0,g1,gl,cK,hJ,cz,cx]
   | with_reducible refine ah (by assumption) (by simp [aC,aG]) ?_
   | with_reducible refine aj (by assumption) (by simp [aC,aG]) ?_
   | with_reducible refine And.intro (a:=ab _ _) (by simp [ab,apart]) ?_
   | with_reducible refine VW.aA 3 (VW.of ?_)
   | with_reducible refine bW.next _ (VW.of ?_)
   | rw [ai (by repeat (first | exact aZ | refine (di (by simp)).trans ?_)) (by exact rfl) (by exact rfl) (by exact rfl) (by exact rfl)]
   | rw [bQ (by exact rfl) (by exact rfl) (by exact rfl) (by exact rfl)]
   | rw [bR (by exact rfl) (by exact rfl) (by exact rfl) (by exact rfl) (by exact rfl) (by exact rfl)]
   | refine gn (hv _) jS (by simp [af.put,af.of,hq]) ?_
   | fail)
 refine dX▸bF (by simp (disch:=decide) only [RS,aY,a7,ao,cK]) (zm (by simp [af.put,af.of,hq]))
end
end Go.VL
end

section
set_option linter.unusedVariables false
set_option linter.unusedVariables false
set_option maxRecDepth 100000
namespace Go.VL
open Go.Lib
def Ht (c w k:Id) (way:Q2):List (Id × da):=[(c,⟨[.ref k 0 0],1,false⟩),(w,⟨[V2 way],4,false⟩),(k,eB)]
def ImC (P:Program) (G:Nat->Option (List AV)) (f:FuncId) (H2:List AV) (S:List (Id × da)) (im:Q2->Q2) (ok:Q2->Prop):Prop :=
 ∀ p:Id,(∀ x∈S, ¬ p <:+ x.1)->∀ a:Q2,ok a->aW P G f (V2 a::H2) p S { val:=V2 (im a),rd:=S.map (·.1) }
section
variable {P:Program} {G:Nat->Option (List AV)}
theorem abF {c w k:Id} {way:Q2}:af.of (Ht c w k way) c=some ⟨[.ref k 0 0],1,false⟩:=by simp [af.of,Ht]
theorem Yt {c w k:Id} {way:Q2} (h:c≠w):af.of (Ht c w k way) w=some ⟨[V2 way],4,false⟩:=by
 have e:(w==c)=false:=by simp [h.symm]
 simp [af.of,Ht,List.lookup,e]
theorem Yu {c w k:Id} {way:Q2} (h:c≠k) (g:w≠k):af.of (Ht c w k way) k=some eB:=by
 have e:(k==c)=false:=by simp [h.symm]
 have e':(k==w)=false:=by simp [g.symm]
 simp [af.of,Ht,List.lookup,e,e']
theorem ahQ {c w k i:Id} {way:Q2} (h:i≠c) (g:i≠w) (l:i≠k):af.of (Ht c w k way) i=none:=by
 have e:(i==c)=false:=by simp [h]
 have e':(i==w)=false:=by simp [g]
 have e'':(i==k)=false:=by simp [l]
 simp [af.of,Ht,List.lookup,e,e',e'']
theorem abG {c w k:Id} {way:Q2} {σ : af} (hc:c≠w) (hk:c≠k) (hw:w≠k) (h1 : σ c=some ⟨[.ref k 0 0],1,false⟩) (h2 : σ w=some ⟨[V2 way],4,false⟩) (h3 : σ k=some eB) (i:Id):(af.of (Ht c w k way)).app [] i=none∨(af.of (Ht c w k way)).app [] i = σ i:=by
 by_cases e1:i=c
 . subst e1;right;rw [h1];simpa [af.app] using abF
 by_cases e2:i=w
 . subst e2;right;rw [h2];simpa [af.app] using Yt hc
 by_cases e3:i=k
 . subst e3;right;rw [h3];simpa [af.app] using Yu hk hw
 . left;simpa [af.app] using ahQ e1 e2 e3
theorem abH {c w k:Id} {way:Q2}:jl (af.of (Ht c w k way)) false 1 (.ref c 0 0)=some { val := .ref k 0 0,rd:=[c] }:=by
 rw [qR (bk:=⟨[.ref k 0 0],1,false⟩) (el := .ref k 0 0) (by simp [af.of,Ht]) rfl];rfl
theorem abI {c w k:Id} {way:Q2} (h:c≠w):jl (af.of (Ht c w k way)) true 4 (.ref w 0 0)=some { val:=V2 way,rd:=[w] }:=by
 rw [qR (bk:=⟨[V2 way],4,false⟩) (el:=V2 way) (Yt h) rfl];simp [cK]
theorem Kp {f fa:FuncId} {way:Q2} {c w k:Id} (d1:c≠w) (d2:c≠k) (d3:w≠k) (h:Has P f (fx fa)) (ha:∀ a,nd 5000 a->cX P G fa [V2 a,V2 way] (V2 (gm a way))):ImC P G f [.ref c 0 0, .ref w 0 0] (Ht c w k way) (fun a=>gm a way) (nd 5000):=fun p hS a sa=>by
 have hk : ¬ p <:+ k:=hS (k,eB) (by simp [Ht])
 have q1:=lB (hS (c,⟨[.ref k 0 0],1,false⟩) (by simp [Ht]))
 have q2:=lB (hS (w,⟨[V2 way],4,false⟩) (by simp [Ht]))
 have q3:=lB hk
 have ha1:=ha a sa
 show aW P G f [V2 a, .ref c 0 0, .ref w 0 0] p (Ht c w k way) { val:=V2 (gm a way),rd:=[c,w,k] }
 refine aW.has h ?_
 simp only [fx]
 repeat (first
   | simp (disch:=first | decide | exact rfl) only [eG,SS,Nat.reduceAdd,ao,gl,cK,cx,abH,abI d1,aq (q1 _),aq (q2 _)]
   | with_reducible refine ah (by assumption) (by simp [au,ay,ax,aa.int,aa.bool,aa.str,aP,az,aC,aG,aV,bf,aD,aR,bL,bT]) ?_
   | with_reducible refine aj (by assumption) (by simp [au,ay,ax,aa.int,aa.bool,aa.str,aP,az,aC,aG,aV,bf,aD,aR,bL,bT]) ?_
   | with_reducible refine And.intro (a:=ab _ _) (by simp [ab,apart]) ?_
   | with_reducible refine VW.aA 3 (VW.of ?_)
   | with_reducible refine bW.next _ (VW.of ?_)
   | rw [ai (by repeat (first | exact aZ | refine (di (by simp)).trans ?_)) (by exact rfl) (by exact rfl) (by exact rfl) (by exact rfl)]
   | rw [bQ (by exact rfl) (by exact rfl) (by exact rfl) (by exact rfl)]
   | rw [bR (by exact rfl) (by exact rfl) (by exact rfl) (by exact rfl) (by exact rfl) (by exact rfl)]
   | refine gn ha1 hk (by simp [af.put,q3,Yu d2 d3]) ?_
   | fail)
 refine dX▸bF (by simp (disch:=decide) only [RS,aY,a7,ao,cK]) (abG d1 d2 d3 (by simp [af.put,q1,abF]) (by simp [af.put,q2,Yt d1]) (by simp [af.put,q3,Yu d2 d3]))
end
end Go.VL
end

section
set_option linter.unusedVariables false
set_option linter.unusedVariables false
set_option maxRecDepth 100000
namespace Go.VL
open Go.Lib
def CX.img (x:CX) (im:Q2->Q2) (mir:Bool):CX:=⟨x.G9,im x.a,im x.b,if x.G9 then im x.c else x.c,if x.G9 then !(x.cw==mir) else x.cw⟩
theorem Vy {σ σ':af} {id:Id} {b:Option da} (h : σ' id=none) (hs:∀ i, σ' i=none ∨ σ' i = σ i) (i:Id) : σ' i=none ∨ σ' i=(σ.put id b) i:=by
 by_cases e:i=id
 . subst e;exact .inl h
 . rw [di e];exact hs i
theorem sub_self {σ : af}:∀ i, σ i=none ∨ σ i = σ i:=fun _ => .inr rfl
section
variable {P:Program} {G:Nat->Option (List AV)} {π : Id} {base:Nat} {Q:bX->VS->Prop} {n:Nat} {ps:List (Nat × Nat)} {d:Option Nat} {os:List bq} {i:Nat} {t:List AV} {σ : af} {acc:List eP} {f:FuncId} {H2:List AV} {S:List (Id × da)} {im:Q2->Q2} {ok:Q2->Prop} {a:Q2}
theorem Qg {p:Id} {x:Id} {m:Nat} (h : ¬ p <:+ x) : ¬ (m::p) <:+ x:=fun ⟨q,e⟩=>h ⟨q++[m],by simpa using e⟩
theorem Sk (h:ImC P G f H2 S im ok) (hp:∀ x∈S, ¬ π <:+ x.1) (ha:ok a) (hσ : ∀ x∈S, σ x.1=some x.2) (k:vs P G π base Q n os (i+1) (fU t d (V2 (im a))) σ):yp P G π base Q n d os i t σ f (V2 a::H2) :=
 ⟨_,_,h _ (fun x hx=>Qg (hp x hx)) a ha,hσ,fun x hx=>List.mem_map.2 ⟨x,hx,rfl⟩,k⟩
theorem Sl (h:ImC P G f H2 S im ok) (hp:∀ x∈S, ¬ π <:+ x.1) (ha:ok a) (hσ : ∀ x∈S, σ x.1=some x.2) (k:vd P G π base Q n ps os (i+1) ({ val:=V2 (im a),rd:=S.map (·.1) }::acc) (fU t d (V2 (im a))) σ):Dg P G π base Q n ps d os i acc t σ f (V2 a::H2) :=
 ⟨_,_,h _ (fun x hx=>Qg (hp x hx)) a ha,hσ,fun x hx=>List.mem_map.2 ⟨x,hx,rfl⟩,k⟩
end
section
variable {P:Program} {G:Nat->Option (List AV)}
set_option maxHeartbeats 2000000 in
theorem Sn {f fi:FuncId} (h:Has P f ij) (pre:List UInt8) (ins:List (List UInt8)) (g:List UInt8->CX) {H2:List AV} {S:List (Id × da)} {im:Q2->Q2} {ok:Q2->Prop} (mir:Bool) (hI:ImC P G fi H2 S im ok) (hS:∀ x∈S,af.of S x.1=some x.2)
   (gK:∀ s∈ins,ok (g s).a/\ok (g s).b/\ok (g s).c) (hlen:ins.length<=1000) (aez:pre.length<=100000) (jq:∀ s∈ins,s.length<=100000) (p:Id) (hp:∀ x∈S, ¬ p <:+ x.1) (F:List UInt8->AV) (hF:∀ s,F s=NX.av ⟨pre++[47]++s,(g s).img im mir⟩) :
   aW P G f [.str pre,strs ins,My (ins.map g), .fn (.func fi) [] H2, .bool mir] p S { val := .osl (3::p) 15 0 ins.length false,rd:=S.map (·.1),up:=[(3::p,some ⟨ins.map F,15,false⟩)] }:=by
 have hne:∀ x∈S,∀ q,x.1≠q::p:=fun x hx q=>lB (hp x hx) q
 have h0:∀ q,af.of S (q::p)=none:=fun q=>by
   show S.lookup (q::p)=none
   rw [List.lookup_eq_none_iff]
   intro x hx
   simpa using fun e=>hne x hx q e.symm
 have sr:=fun q:Id=>Vr (p:=q) (k:=15) (bytes:=320) (n:=ins.length) (z:=zN) (by omega) (by omega) rfl rfl
 refine aW.has h ?_
 simp only [ij]
 repeat (first
   | simp (disch:=first | decide | exact rfl | with_reducible assumption | exact Nat.ne_of_lt (by repeat (first | with_reducible assumption | apply Nat.lt_add_right))) only [SS,Nat.reduceAdd,gH,sr,List.length_map]
   | with_reducible refine ah (by assumption) (by simp [au,ay,ax,aa.int,aa.bool,aa.str,aP,az,aC,aG,aV,bf,aD,aR,bL,bT]) ?_
   | with_reducible refine aj (by assumption) (by simp [au,ay,ax,aa.int,aa.bool,aa.str,aP,az,aC,aG,aV,bf,aD,aR,bL,bT]) ?_
   | with_reducible refine And.intro (a:=ab _ _) (by simp [ab,apart];try assumption) ?_
   | rw [ai (by repeat (first | with_reducible exact aZ | refine (bz (by first | with_reducible assumption | decide | exact Nat.ne_of_lt (by repeat (first | with_reducible assumption | apply Nat.lt_add_right)))).trans ?_)) (by exact rfl) (by exact rfl) (by exact rfl) (by exact rfl)]
   | rw [bQ (by exact rfl) (by exact rfl) (by exact rfl) (by exact rfl)]
   | rw [bR (by exact rfl) (by exact rfl) (by exact rfl) (by exact rfl) (by exact rfl) (by exact rfl)]
   | fail)
 simp only [aK]
 refine VW.dQ (α := Nat × Nat) (fun y=>⟨[.str pre,strs ins,My (ins.map g), .fn (.func fi) [] H2, .bool mir]++List.replicate 6 .top++[.osl (3::p) 15 0 ins.length false]++List.replicate 5 .top++[My (ins.map g), .int .i64 ins.length, .int .i64 (y.1:Nat)]++List.replicate 40 .top,
   (af.of S).put (3::p) (some ⟨(ins.take y.1).map F++List.replicate (ins.length-y.1) zN,15,false⟩),y.2⟩)
   (fun y=>y.1<=ins.length/\1000<=y.2) (fun y=>ins.length-y.1) (0,1000) ?_ ⟨Nat.zero_le _,Nat.le_refl _⟩ ?_
 . exact Wk.slots (by simp [Fg,List.replicate]) (by omega)
 rintro ⟨i,m⟩ ⟨hi,hm⟩
 simp only [] at hi hm
 by_cases hlt:i<ins.length
 . obtain ⟨s,hs⟩:∃ s,ins[i]? = some s:=⟨ins[i],by simp [hlt]⟩
   have d:decide ((i:Int)<(ins.length:Int))=true:=aw (by omega)
   have hms:=List.mem_of_getElem? hs
   obtain ⟨oa,ob,oc⟩:=gK s hms
   have hc:(ins.map g)[i]? = some (g s):=by rw [List.getElem?_map,hs];rfl
   have hw:=aI i (by omega)
   have l3:3<m:=by omega
   have b1:i+1<=ins.length:=hlt
   have b2:ins.length-(i+1)<ins.length-i:=by omega
   have c1:=jt (a:=pre) (b:=[47]) (by simp;omega)
   have c2:=jt (a:=pre++[47]) (b:=s) (by have:=jq s hms;simp;omega)
   have nX:cn 15 (.osl (3::p) 15 0 ins.length false) (.int .i64 (i:Int))=some (.ref (3::p) i 0):=by rw [GL hlt,Nat.zero_add]
   have Bm:=zL (f:=F) hs
   obtain ⟨k,hk⟩:∃ k,ins.length-i=k+1:=⟨ins.length-i-1,by omega⟩
   have hk2:ins.length-(i+1)=k:=by omega
   have hA:((ins.take i).map F).length=i:=by simp;omega
   have hst:∀ (σ : af) (x:CX),x=(g s).img im mir -> σ (3::p)=some ⟨(ins.take i).map F++List.replicate (ins.length-i) zN,15,false⟩->fy σ 15 (.ref (3::p) i 0) (NX.av ⟨pre++[47]++s,x⟩)=some { val := .tup [],rd:=[3::p],up:=[(3::p,some ⟨(ins.take (i+1)).map F++List.replicate (ins.length-(i+1)) zN,15,false⟩)] }:=fun σ x hx hσ => by
     rw [eO (n:=15) (v:=NX.av ⟨pre++[47]++s,x⟩) (el:=zN) hσ (by rw [hk,List.getElem?_append_right (by omega),hA,Nat.sub_self];rfl) rfl (by decide) (of_eq_true (kC _))]
     rw [Bm,hk2,hk,MF hA,hF s,hx]
     rfl
   clear gK sr jq Bm hA
   simp only []
   generalize g s=z at *
   generalize pre++[47]++s=nm at *
   rcases z with ⟨_ | _,za,zb,zc,zw⟩
   all_goals
     repeat (first
       | simp (disch:=first | decide | exact rfl | with_reducible assumption | exact Nat.ne_of_lt (by repeat (first | with_reducible assumption | apply Nat.lt_add_right))) only [SS,DD,Nat.reduceAdd,ao,d,Kj hc,nI hs,vk,aH,oU,Ev,Ew,Ex,Hb,U9,gu,c1,c2,Hd,MA,nX,hw]
       | with_reducible refine ah (by assumption) (by simp [au,ay,ax,aa.int,aa.bool,aa.str,aP,az,aC,aG,aV,bf,aD,aR,bL,bT]) ?_
       | with_reducible refine aj (by assumption) (by simp [au,ay,ax,aa.int,aa.bool,aa.str,aP,az,aC,aG,aV,bf,aD,aR,bL,bT]) ?_
       | with_reducible refine And.intro (a:=ab _ _) (by simp [ab,apart];try assumption) ?_
       | rw [ai (by repeat (first | with_reducible exact aZ | refine (bz (by first | with_reducible assumption | decide | exact Nat.ne_of_lt (by repeat (first | with_reducible assumption | apply Nat.lt_add_right)))).trans ?_)) (by exact rfl) (by exact rfl) (by exact rfl) (by exact rfl)]
       | rw [bQ (by exact rfl) (by exact rfl) (by exact rfl) (by exact rfl)]
       | rw [bR (by exact rfl) (by exact rfl) (by exact rfl) (by exact rfl) (by exact rfl) (by exact rfl)]
       | rw [Fm (by repeat (first | with_reducible exact aZ | refine (bz (by first | with_reducible assumption | decide | exact Nat.ne_of_lt (by repeat (first | with_reducible assumption | apply Nat.lt_add_right)))).trans ?_))]
       | rw [Fo (by repeat (first | with_reducible exact aZ | refine (bz (by first | with_reducible assumption | decide | exact Nat.ne_of_lt (by repeat (first | with_reducible assumption | apply Nat.lt_add_right)))).trans ?_))]
       | rw [Fp (by repeat (first | with_reducible exact aZ | refine (bz (by first | with_reducible assumption | decide | exact Nat.ne_of_lt (by repeat (first | with_reducible assumption | apply Nat.lt_add_right)))).trans ?_))]
       | rw [Va (by repeat (first | with_reducible exact aZ | refine (bz (by first | with_reducible assumption | decide | exact Nat.ne_of_lt (by repeat (first | with_reducible assumption | apply Nat.lt_add_right)))).trans ?_))]
       | refine Sl hI hp (by with_reducible assumption) (fun x hx=>by repeat (first | exact hS x hx | refine (di (hne x hx _)).trans ?_)) ?_
       | refine Sk hI hp (by with_reducible assumption) (fun x hx=>by repeat (first | exact hS x hx | refine (di (hne x hx _)).trans ?_)) ?_
       | rw [hst _ _ (by exact rfl) (by repeat (first | with_reducible exact aZ | refine (bz (by first | with_reducible assumption | decide | exact Nat.ne_of_lt (by repeat (first | with_reducible assumption | apply Nat.lt_add_right)))).trans ?_))]
       | fail)
     exact ⟨(i+1,_),⟨b1,by simp only [];omega⟩,b2,Wk.forget (by simp [Fg]) (dB (by exact aZ) (by repeat (first | exact sub_self | refine Vy (h0 _) ?_))) (Nat.le_refl _)⟩
 . have d:decide ((i:Int)<(ins.length:Int))=false:=ar (by omega)
   have Vg:i=ins.length:=by omega
   subst Vg
   simp only [List.take_length,Nat.sub_self,List.replicate_zero,List.append_nil]
   clear gK sr
   repeat (first
     | simp (disch:=first | decide | exact rfl | with_reducible assumption | exact Nat.ne_of_lt (by repeat (first | with_reducible assumption | apply Nat.lt_add_right))) only [SS,Nat.reduceAdd,d]
     | with_reducible refine ah (by assumption) (by simp [au,ay,ax,aa.int,aa.bool,aa.str,aP,az,aC,aG,aV,bf,aD,aR,bL,bT]) ?_
     | with_reducible refine aj (by assumption) (by simp [au,ay,ax,aa.int,aa.bool,aa.str,aP,az,aC,aG,aV,bf,aD,aR,bL,bT]) ?_
     | with_reducible refine And.intro (a:=ab _ _) (by simp [ab,apart];try assumption) ?_
     | rw [ai (by repeat (first | with_reducible exact aZ | refine (bz (by first | with_reducible assumption | decide | exact Nat.ne_of_lt (by repeat (first | with_reducible assumption | apply Nat.lt_add_right)))).trans ?_)) (by exact rfl) (by exact rfl) (by exact rfl) (by exact rfl)]
     | rw [bQ (by exact rfl) (by exact rfl) (by exact rfl) (by exact rfl)]
     | rw [bR (by exact rfl) (by exact rfl) (by exact rfl) (by exact rfl) (by exact rfl) (by exact rfl)]
     | fail)
   exact dX▸bF rfl (fun i => .inr rfl)
end
end Go.VL
end

section
namespace Go.VL
mutual
def AV.dz (ρ : Id->Id):AV->AV
 | .fn f a c => .fn f (b8 ρ a) (b8 ρ c)
 | .agg cs => .agg (b8 ρ cs)
 | .tup cs => .tup (b8 ρ cs)
 | .sl k es => .sl k (b8 ρ es)
 | .tsl k es => .tsl k (b8 ρ es)
 | .osl i k o l t => .osl (ρ i) k o l t
 | .ref i e o => .ref (ρ i) e o
 | .ep cs o => .ep (b8 ρ cs) o
 | .bool b => .bool b
 | .int k n => .int k n
 | .str l => .str l
 | .nilp => .nilp
 | .nilf => .nilf
 | .nils => .nils
 | .top => .top
 | .anyb => .anyb
 | .ige n => .ige n
def b8 (ρ : Id->Id):List AV->List AV
 | []=>[]
 | c::cs=>c.dz ρ :: b8 ρ cs
end
def da.dz (ρ : Id->Id) (b:da):da:=⟨b8 ρ b.els,b.k,b.fr⟩
section
variable {ρ : Id->Id}
theorem gI:∀ {cs:List AV},b8 ρ cs=cs.map (AV.dz ρ)
 | []=>rfl
 | c::cs=>by simp only [b8,List.map_cons,gI (cs:=cs)]
theorem gJ {cs:List AV}:(b8 ρ cs).length=cs.length:=by rw [gI,List.length_map]
theorem zP (c:AV):(c.dz ρ).cells=b8 ρ c.cells:=by cases c<;>rfl
theorem MH (c:AV):(c.dz ρ).size=c.size:=by unfold AV.size;rw [zP,gJ]
theorem mB {xs ys:List AV}:b8 ρ (xs++ys)=b8 ρ xs++b8 ρ ys:=by simp only [gI,List.map_append]
theorem CM:∀ {es:List AV},flat (b8 ρ es)=b8 ρ (flat es)
 | []=>rfl
 | e::es=>by
   have h1:flat (e::es)=e.cells++flat es:=by simp [flat]
   have h2:flat (b8 ρ (e::es))=(e.dz ρ).cells++flat (b8 ρ es):=by simp [flat,b8]
   rw [h1,h2,zP,mB,CM (es:=es)]
theorem zQ {k:Nat} {es:List AV} (h:∀ e∈es,e.size=k):∀ e∈b8 ρ es,e.size=k:=by
 intro e he;rw [gI] at he;obtain ⟨x,hx,rfl⟩:=List.mem_map.1 he;rw [MH];exact h x hx
theorem Bg {k:Nat} {es:List AV} (h:∀ e∈b8 ρ es,e.size=k):∀ e∈es,e.size=k:=by
 intro e he;rw [<- MH (ρ := ρ)];exact h _ (by rw [gI];exact List.mem_map.2 ⟨e,he,rfl⟩)
mutual
theorem aT.dz {E E':Env} {w:World} (hμ : ∀ i x,E.μ i=some x->E'.μ (ρ i)=some x) (gK:∀ b,E.ok b->E'.ok b):∀ (c:AV) (v:Value),aT E w c v->aT E' w (c.dz ρ) v
 | .bool _,_,r=>by simpa [aT,AV.dz] using r
 | .int _ _,_,r=>by simpa [aT,AV.dz] using r
 | .str _,_,r=>by simpa [aT,AV.dz] using r
 | .nilp,_,r=>by simpa [aT,AV.dz] using r
 | .nilf,_,r=>by simpa [aT,AV.dz] using r
 | .nils,_,r=>by simpa [aT,AV.dz] using r
 | .top,_,_=>by simp [aT,AV.dz]
 | .anyb,_,r=>by simpa [aT,AV.dz] using r
 | .ige _,_,r=>by simpa [aT,AV.dz] using r
 | .fn f a c,v,r=>by
   simp only [aT,AV.dz] at r ⊢
   obtain ⟨xs,ys,e,ra,rc⟩:=r
   exact ⟨xs,ys,e,bd.dz hμ gK a _ ra,bd.dz hμ gK c _ rc⟩
 | .agg cs,v,r=>by
   simp only [aT,AV.dz] at r ⊢
   obtain ⟨xs,e,ra⟩:=r
   exact ⟨xs,e,bd.dz hμ gK cs _ ra⟩
 | .tup cs,v,r=>by
   simp only [aT,AV.dz] at r ⊢
   obtain ⟨xs,e,ra⟩:=r
   exact ⟨xs,e,bd.dz hμ gK cs _ ra⟩
 | .sl k es,v,r=>by
   simp only [aT,AV.dz] at r ⊢
   obtain ⟨a,cap,e,h1,h2,hk,h3⟩:=r
   refine ⟨a,cap,by rw [gJ];exact e,by rw [gJ];exact h1,h2,zQ hk,h3.imp (fun h=>by rw [h];rfl) ?_⟩
   rintro ⟨b,o,ea,hb,hr⟩
   exact ⟨b,o,ea,gK b hb,bj.dz hμ gK es o hr⟩
 | .tsl k es,v,r=>by
   simp only [aT,AV.dz] at r ⊢
   obtain ⟨a,e,h2,hk,h3⟩:=r
   refine ⟨a,by rw [gJ];exact e,by rw [gJ];exact h2,zQ hk,h3.imp (fun h=>by rw [h];rfl) ?_⟩
   rintro ⟨b,o,ea,hb,hr⟩
   exact ⟨b,o,ea,gK b hb,bj.dz hμ gK es o hr⟩
 | .osl id k off len t,v,r=>by
   simp only [aT,AV.dz] at r ⊢
   obtain ⟨g,N,cap,hm,rest⟩:=r
   exact ⟨g,N,cap,hμ _ _ hm,rest⟩
 | .ref id e o,v,r=>by
   simp only [aT,AV.dz] at r ⊢
   obtain ⟨g,k,N,hm,rest⟩:=r
   exact ⟨g,k,N,hμ _ _ hm,rest⟩
 | .ep cs o,v,r=>by
   simp only [aT,AV.dz] at r ⊢
   obtain ⟨b,p,e,hb,hr⟩:=r
   exact ⟨b,p,e,gK b hb,bm.dz hμ gK cs p hr⟩
theorem bd.dz {E E':Env} {w:World} (hμ : ∀ i x,E.μ i=some x->E'.μ (ρ i)=some x) (gK:∀ b,E.ok b->E'.ok b):∀ (cs:List AV) (vs:List Value),bd E w cs vs->bd E' w (b8 ρ cs) vs
 | [],_,r=>by simpa [bd,b8] using r
 | c::cs,vs,r=>by
   simp only [bd,b8] at r ⊢
   obtain ⟨v,rest,e,r1,r2⟩:=r
   exact ⟨v,rest,e,aT.dz hμ gK c v r1,bd.dz hμ gK cs rest r2⟩
theorem bj.dz {E E':Env} {w:World} (hμ : ∀ i x,E.μ i=some x->E'.μ (ρ i)=some x) (gK:∀ b,E.ok b->E'.ok b) {b:Nat}:∀ (es:List AV) (o:Nat),bj E w b o es->bj E' w b o (b8 ρ es)
 | [],_,_=>by simp [bj,b8]
 | .agg cs::es,o,r=>by
   simp only [bj,b8,AV.dz,gJ] at r ⊢
   exact ⟨bm.dz hμ gK cs o r.1,bj.dz hμ gK es _ r.2⟩
 | .bool _::es,o,r | .int _ _::es,o,r | .str _::es,o,r | .nilp::es,o,r | .nilf::es,o,r | .nils::es,o,r | .top::es,o,r | .anyb::es,o,r | .ige _::es,o,r | .fn _ _ _::es,o,r
 | .tup _::es,o,r | .sl _ _::es,o,r | .tsl _ _::es,o,r | .osl _ _ _ _ _::es,o,r | .ref _ _ _::es,o,r | .ep _ _::es,o,r=>by
   simp only [bj,b8,AV.dz] at r ⊢
   obtain ⟨⟨v,hv,hr⟩,r2⟩:=r
   have:=aT.dz hμ gK _ v hr
   simp only [AV.dz] at this
   exact ⟨⟨v,hv,this⟩,bj.dz hμ gK es _ r2⟩
theorem bm.dz {E E':Env} {w:World} (hμ : ∀ i x,E.μ i=some x->E'.μ (ρ i)=some x) (gK:∀ b,E.ok b->E'.ok b) {b:Nat}:∀ (cs:List AV) (o:Nat),bm E w b o cs->bm E' w b o (b8 ρ cs)
 | [],_,_=>by simp [bm,b8]
 | c::cs,o,r=>by
   simp only [bm,b8] at r ⊢
   obtain ⟨⟨v,hv,hr⟩,r2⟩:=r
   exact ⟨⟨v,hv,aT.dz hμ gK c v hr⟩,bm.dz hμ gK cs _ r2⟩
end
mutual
theorem aT.du {E E':Env} {w:World} (hμ : ∀ i x,E'.μ (ρ i)=some x->E.μ i=some x) (gK:∀ b,E'.ok b->E.ok b):∀ (c:AV) (v:Value),aT E' w (c.dz ρ) v->aT E w c v
 | .bool _,_,r=>by simpa [aT,AV.dz] using r
 | .int _ _,_,r=>by simpa [aT,AV.dz] using r
 | .str _,_,r=>by simpa [aT,AV.dz] using r
 | .nilp,_,r=>by simpa [aT,AV.dz] using r
 | .nilf,_,r=>by simpa [aT,AV.dz] using r
 | .nils,_,r=>by simpa [aT,AV.dz] using r
 | .top,_,_=>by simp [aT]
 | .anyb,_,r=>by simpa [aT,AV.dz] using r
 | .ige _,_,r=>by simpa [aT,AV.dz] using r
 | .fn f a c,v,r=>by
   simp only [aT,AV.dz] at r ⊢
   obtain ⟨xs,ys,e,ra,rc⟩:=r
   exact ⟨xs,ys,e,bd.du hμ gK a _ ra,bd.du hμ gK c _ rc⟩
 | .agg cs,v,r=>by
   simp only [aT,AV.dz] at r ⊢
   obtain ⟨xs,e,ra⟩:=r
   exact ⟨xs,e,bd.du hμ gK cs _ ra⟩
 | .tup cs,v,r=>by
   simp only [aT,AV.dz] at r ⊢
   obtain ⟨xs,e,ra⟩:=r
   exact ⟨xs,e,bd.du hμ gK cs _ ra⟩
 | .sl k es,v,r=>by
   simp only [aT,AV.dz,gJ] at r ⊢
   obtain ⟨a,cap,e,h1,h2,hk,h3⟩:=r
   refine ⟨a,cap,e,h1,h2,Bg hk,h3.imp (fun h=>by have:=congrArg List.length h;rw [gJ] at this;exact List.length_eq_zero_iff.1 this) ?_⟩
   rintro ⟨b,o,ea,hb,hr⟩
   exact ⟨b,o,ea,gK b hb,bj.du hμ gK es o hr⟩
 | .tsl k es,v,r=>by
   simp only [aT,AV.dz,gJ] at r ⊢
   obtain ⟨a,e,h2,hk,h3⟩:=r
   refine ⟨a,e,h2,Bg hk,h3.imp (fun h=>by have:=congrArg List.length h;rw [gJ] at this;exact List.length_eq_zero_iff.1 this) ?_⟩
   rintro ⟨b,o,ea,hb,hr⟩
   exact ⟨b,o,ea,gK b hb,bj.du hμ gK es o hr⟩
 | .osl id k off len t,v,r=>by
   simp only [aT,AV.dz] at r ⊢
   obtain ⟨g,N,cap,hm,rest⟩:=r
   exact ⟨g,N,cap,hμ _ _ hm,rest⟩
 | .ref id e o,v,r=>by
   simp only [aT,AV.dz] at r ⊢
   obtain ⟨g,k,N,hm,rest⟩:=r
   exact ⟨g,k,N,hμ _ _ hm,rest⟩
 | .ep cs o,v,r=>by
   simp only [aT,AV.dz] at r ⊢
   obtain ⟨b,p,e,hb,hr⟩:=r
   exact ⟨b,p,e,gK b hb,bm.du hμ gK cs p hr⟩
theorem bd.du {E E':Env} {w:World} (hμ : ∀ i x,E'.μ (ρ i)=some x->E.μ i=some x) (gK:∀ b,E'.ok b->E.ok b):∀ (cs:List AV) (vs:List Value),bd E' w (b8 ρ cs) vs->bd E w cs vs
 | [],_,r=>by simpa [bd,b8] using r
 | c::cs,vs,r=>by
   simp only [bd,b8] at r ⊢
   obtain ⟨v,rest,e,r1,r2⟩:=r
   exact ⟨v,rest,e,aT.du hμ gK c v r1,bd.du hμ gK cs rest r2⟩
theorem bj.du {E E':Env} {w:World} (hμ : ∀ i x,E'.μ (ρ i)=some x->E.μ i=some x) (gK:∀ b,E'.ok b->E.ok b) {b:Nat}:∀ (es:List AV) (o:Nat),bj E' w b o (b8 ρ es)->bj E w b o es
 | [],_,_=>by simp [bj]
 | .agg cs::es,o,r=>by
   simp only [bj,b8,AV.dz,gJ] at r ⊢
   exact ⟨bm.du hμ gK cs o r.1,bj.du hμ gK es _ r.2⟩
 | .bool b1::es,o,r=>by simp only [bj,b8,AV.dz] at r ⊢;obtain ⟨⟨v,hv,hr⟩,r2⟩:=r;exact ⟨⟨v,hv,aT.du hμ gK (.bool b1) v hr⟩,bj.du hμ gK es _ r2⟩
 | .int a1 a2::es,o,r=>by simp only [bj,b8,AV.dz] at r ⊢;obtain ⟨⟨v,hv,hr⟩,r2⟩:=r;exact ⟨⟨v,hv,aT.du hμ gK (.int a1 a2) v hr⟩,bj.du hμ gK es _ r2⟩
 | .str a1::es,o,r=>by simp only [bj,b8,AV.dz] at r ⊢;obtain ⟨⟨v,hv,hr⟩,r2⟩:=r;exact ⟨⟨v,hv,aT.du hμ gK (.str a1) v hr⟩,bj.du hμ gK es _ r2⟩
 | .nilp::es,o,r=>by simp only [bj,b8,AV.dz] at r ⊢;obtain ⟨⟨v,hv,hr⟩,r2⟩:=r;exact ⟨⟨v,hv,aT.du hμ gK .nilp v hr⟩,bj.du hμ gK es _ r2⟩
 | .nilf::es,o,r=>by simp only [bj,b8,AV.dz] at r ⊢;obtain ⟨⟨v,hv,hr⟩,r2⟩:=r;exact ⟨⟨v,hv,aT.du hμ gK .nilf v hr⟩,bj.du hμ gK es _ r2⟩
 | .nils::es,o,r=>by simp only [bj,b8,AV.dz] at r ⊢;obtain ⟨⟨v,hv,hr⟩,r2⟩:=r;exact ⟨⟨v,hv,aT.du hμ gK .nils v hr⟩,bj.du hμ gK es _ r2⟩
 | .top::es,o,r=>by simp only [bj,b8,AV.dz] at r ⊢;obtain ⟨⟨v,hv,hr⟩,r2⟩:=r;exact ⟨⟨v,hv,aT.du hμ gK .top v hr⟩,bj.du hμ gK es _ r2⟩
 | .anyb::es,o,r=>by simp only [bj,b8,AV.dz] at r ⊢;obtain ⟨⟨v,hv,hr⟩,r2⟩:=r;exact ⟨⟨v,hv,aT.du hμ gK .anyb v hr⟩,bj.du hμ gK es _ r2⟩
 | .ige a1::es,o,r=>by simp only [bj,b8,AV.dz] at r ⊢;obtain ⟨⟨v,hv,hr⟩,r2⟩:=r;exact ⟨⟨v,hv,aT.du hμ gK (.ige a1) v hr⟩,bj.du hμ gK es _ r2⟩
 | .fn a1 a2 a3::es,o,r=>by simp only [bj,b8,AV.dz] at r ⊢;obtain ⟨⟨v,hv,hr⟩,r2⟩:=r;exact ⟨⟨v,hv,aT.du hμ gK (.fn a1 a2 a3) v (by simpa only [AV.dz] using hr)⟩,bj.du hμ gK es _ r2⟩
 | .tup a1::es,o,r=>by simp only [bj,b8,AV.dz] at r ⊢;obtain ⟨⟨v,hv,hr⟩,r2⟩:=r;exact ⟨⟨v,hv,aT.du hμ gK (.tup a1) v (by simpa only [AV.dz] using hr)⟩,bj.du hμ gK es _ r2⟩
 | .sl a1 a2::es,o,r=>by simp only [bj,b8,AV.dz] at r ⊢;obtain ⟨⟨v,hv,hr⟩,r2⟩:=r;exact ⟨⟨v,hv,aT.du hμ gK (.sl a1 a2) v (by simpa only [AV.dz] using hr)⟩,bj.du hμ gK es _ r2⟩
 | .tsl a1 a2::es,o,r=>by simp only [bj,b8,AV.dz] at r ⊢;obtain ⟨⟨v,hv,hr⟩,r2⟩:=r;exact ⟨⟨v,hv,aT.du hμ gK (.tsl a1 a2) v (by simpa only [AV.dz] using hr)⟩,bj.du hμ gK es _ r2⟩
 | .osl a1 a2 a3 a4 a5::es,o,r=>by simp only [bj,b8,AV.dz] at r ⊢;obtain ⟨⟨v,hv,hr⟩,r2⟩:=r;exact ⟨⟨v,hv,aT.du hμ gK (.osl a1 a2 a3 a4 a5) v (by simpa only [AV.dz] using hr)⟩,bj.du hμ gK es _ r2⟩
 | .ref a1 a2 a3::es,o,r=>by simp only [bj,b8,AV.dz] at r ⊢;obtain ⟨⟨v,hv,hr⟩,r2⟩:=r;exact ⟨⟨v,hv,aT.du hμ gK (.ref a1 a2 a3) v (by simpa only [AV.dz] using hr)⟩,bj.du hμ gK es _ r2⟩
 | .ep a1 a2::es,o,r=>by simp only [bj,b8,AV.dz] at r ⊢;obtain ⟨⟨v,hv,hr⟩,r2⟩:=r;exact ⟨⟨v,hv,aT.du hμ gK (.ep a1 a2) v (by simpa only [AV.dz] using hr)⟩,bj.du hμ gK es _ r2⟩
theorem bm.du {E E':Env} {w:World} (hμ : ∀ i x,E'.μ (ρ i)=some x->E.μ i=some x) (gK:∀ b,E'.ok b->E.ok b) {b:Nat}:∀ (cs:List AV) (o:Nat),bm E' w b o (b8 ρ cs)->bm E w b o cs
 | [],_,_=>by simp [bm]
 | c::cs,o,r=>by
   simp only [bm,b8] at r ⊢
   obtain ⟨⟨v,hv,hr⟩,r2⟩:=r
   exact ⟨⟨v,hv,aT.du hμ gK c v hr⟩,bm.du hμ gK cs _ r2⟩
end
theorem eH.dz {E E':Env} {w:World} (hμ : ∀ i x,E.μ i=some x->E'.μ (ρ i)=some x) (gK:∀ b,E.ok b->E'.ok b) {b o:Nat} {cs:List AV} (h:eH E w b o cs):eH E' w b o (b8 ρ cs) :=
 eR.1 (bm.dz hμ gK cs o (eR.2 h))
theorem eH.du {E E':Env} {w:World} (hμ : ∀ i x,E'.μ (ρ i)=some x->E.μ i=some x) (gK:∀ b,E'.ok b->E.ok b) {b o:Nat} {cs:List AV} (h:eH E' w b o (b8 ρ cs)):eH E w b o cs :=
 eR.1 (bm.du hμ gK cs o (eR.2 h))
end
def mC (n:Nat) (π : Id) (κ : Nat->Id):Id->Id
 | []=>[]
 | a :: asz=>match asz with
   | []=>match a with | 0 => π | k+1 => κ (k+1)
   | b::bs=>match b,bs with
     | 0,[]=>(n+a) :: π
     | _,_=>a::mC n π κ asz
theorem nR {n:Nat} {π : Id} {κ : Nat->Id} {q:Nat}:∀ l:Id,mC n π κ (l++[q,0])=l++((n+q) :: π)
 | []=>rfl
 | [a]=>by simp [mC]
 | a::b::l=>by
   have:=nR (n:=n) (π := π) (κ := κ) (q:=q) (b::l)
   simp only [List.cons_append] at this ⊢
   rw [<- this]
   cases h:l++[q,0] with
   | nil=>simp at h
   | cons c cs=>cases b<;>simp [mC]
theorem Kq {i:Id} (h:[0] <:+ i):i=[0]∨∃ l q,i=l++[q,0]:=by
 obtain ⟨t,rfl⟩:=h
 rcases List.eq_nil_or_concat t with rfl | ⟨l,q,rfl⟩
 . exact .inl rfl
 . exact .inr ⟨l,q,by simp⟩
theorem Yv {n:Nat} {π : Id} {κ : Nat->Id} {i j:Id} (hi:[0] <:+ i) (hj:[0] <:+ j) (h:mC n π κ i=mC n π κ j):i=j:=by
 rcases Kq hi with rfl | ⟨l,q,rfl⟩<;>rcases Kq hj with rfl | ⟨l',q',rfl⟩
 . rfl
 . rw [nR] at h;have:=congrArg List.length h;simp [mC] at this;omega
 . rw [nR] at h;have:=congrArg List.length h;simp [mC] at this;omega
 . rw [nR,nR] at h
   have hl:l.length=l'.length:=by have:=congrArg List.length h;simp at this;omega
   obtain ⟨h1,h2⟩:=List.append_inj h hl
   simp only [List.cons.injEq,and_true] at h2
   have:q=q':=by omega
   rw [h1,this]
section
variable {P:Program} {G:Nat->Option (List AV)}
open Classical in
noncomputable def CN (n:Nat) (π : Id) (κ : Nat->Id) (E E0:Env):Env:=⟨fun j=>if h:∃ i,[0] <:+ i/\mC n π κ i=j then E0.μ h.choose else E.μ j,E0.ok⟩
theorem Ez {n:Nat} {π : Id} {κ : Nat->Id} {E E0:Env} {i:Id} (hi:[0] <:+ i):(CN n π κ E E0).μ (mC n π κ i)=E0.μ i:=by
 have hex:∃ i',[0] <:+ i'/\mC n π κ i'=mC n π κ i:=⟨i,hi,rfl⟩
 simp only [CN]
 rw [dif_pos hex]
 exact congrArg E0.μ (Yv hex.choose_spec.1 hi hex.choose_spec.2)
theorem sU {n:Nat} {π : Id} {κ : Nat->Id} {E E0:Env} {j:Id} (h:∀ i,[0] <:+ i->mC n π κ i≠j):(CN n π κ E E0).μ j=E.μ j:=by
 simp only [CN]
 rw [dif_neg];rintro ⟨i,hi,e⟩;exact h i hi e
theorem Hg {n:Nat} {π : Id} {κ : Nat->Id} {E:Env} (hf:zT E π n) {i:Id} (hi:[0] <:+ i):E.μ (mC n π κ i)=none:=by
 rcases Kq hi with rfl | ⟨l,q,rfl⟩
 . exact hf.self
 . rw [nR];exact hf.at (q:=n+q) (Nat.le_add_right _ _) ⟨l,rfl⟩
def Sp (ρ : Id->Id) (σ0 σ : af):Prop:=(∀ i b, σ0 i=some b -> σ (ρ i)=some (b.dz ρ))/\∀ j, σ j=none∨∃ i b, σ0 i=some b /\ ρ i=j /\ σ j=some (b.dz ρ)
theorem VW.dz {vc:cg} {Q0:bX->VS->Prop} {t0:List AV} {σ0 σ : af} {n:Nat} {π : Id} {κ : Nat->Id} (h:VW P G [0] vc Q0 ⟨t0, σ0,0⟩)
   (hσ : ∀ i b, σ0 i=some b -> σ (mC n π κ i)=some (b.dz (mC n π κ))) (ahR:∀ i j, σ0 i≠none -> σ0 j≠none->i≠j->mC n π κ i≠mC n π κ j) :
   VW P G π vc (fun e s=>∃ s0,Q0 e s0/\s.t=b8 (mC n π κ) s0.t/\s.n=n+s0.n/\Sp (mC n π κ) s0.σ s.σ) ⟨b8 (mC n π κ) t0, σ,n⟩:=by
 intro c hc own E w a R hm hR
 obtain ⟨Hp,hi,pS,abJ⟩:=hm
 let E0:Env:=⟨fun i=>E.μ (mC n π κ i),E.ok⟩
 have hm0:mE G [0] own E0 w ⟨t0, σ0,0⟩ a:=by
   refine ⟨bd.du (E:=E0) (E':=E) (fun i x hx=>hx) (fun b hb=>hb) _ _ Hp, ?_,fun j hj _=>Hg pS hj,abJ⟩
   refine ⟨hi.okb,fun id bk hs => ?_,fun i j x y pM hj' hne hx hy => ?_,hi.glob,hi.new⟩
   . obtain ⟨g,N,cur,ty,hB⟩:=hi.blk _ _ (hσ id bk hs)
     refine ⟨g,N,cur,ty,hB.μ,hB.heap,hB.size, ?_,hB.most,hB.own,hB.ok,hB.no,Bg hB.k, ?_⟩
     . have:=hB.len;rwa [show (bk.dz (mC n π κ)).els.length=bk.els.length from gJ] at this
     . have:=hB.row
       rw [show (bk.dz (mC n π κ)).els=b8 (mC n π κ) bk.els from rfl,CM] at this
       exact eH.du (E:=E0) (E':=E) (fun i x hx=>hx) (fun b hb=>hb) this
   . obtain ⟨b,hb⟩:=Option.ne_none_iff_exists'.1 pM
     obtain ⟨b',QM⟩:=Option.ne_none_iff_exists'.1 hj'
     exact hi.inj _ _ x y (by show σ _≠none;rw [hσ i b hb];simp) (by show σ _≠none;rw [hσ j b' QM];simp) (ahR i j pM hj' hne) hx hy
 refine h c hc own E0 w a R hm0 ?_
 intro e s0 E0' w' a' hq had qG
 obtain ⟨ahT,pM,Nu,aeA⟩:=qG
 let E':=CN n π κ E E0'
 have hμ : ∀ i x,E0'.μ i=some x->E'.μ (mC n π κ i)=some x:=by
   intro i x hx
   by_cases h0:[0] <:+ i
   . exact (Ez h0).trans hx
   . have h1:E.μ (mC n π κ i)=some x:=by have:=had.ids i h0;rw [hx] at this;exact this.symm
     exact (sU fun i' pM e=>by have:=Hg (κ := κ) pS pM;rw [e,h1] at this;cases this).trans h1
 have hold:∀ j x,E.μ j=some x->E'.μ j=some x:=fun j x hx=>(sU fun i' pM e=>by have:=Hg (κ := κ) pS pM;rw [e,hx] at this;cases this).trans hx
 have hS:∀ j b,(∃ i b0,s0.σ i=some b0/\mC n π κ i=j/\b=b0.dz (mC n π κ))->∃ i g N cur ty b0,s0.σ i=some b0/\mC n π κ i=j/\xt E0' own w' i b0 g N cur ty/\xt E' own w' j b g N cur ty:=by
   rintro j b ⟨i,b0,h1,rfl,rfl⟩
   obtain ⟨g,N,cur,ty,hB⟩:=pM.blk i b0 h1
   refine ⟨i,g,N,cur,ty,b0,h1,rfl,hB,hμ _ _ hB.μ,hB.heap,hB.size, ?_,hB.most,hB.own,hB.ok,hB.no,zQ hB.k, ?_⟩
   . rw [show (b0.dz (mC n π κ)).els.length=b0.els.length from gJ];exact hB.len
   . rw [show (b0.dz (mC n π κ)).els=b8 (mC n π κ) b0.els from rfl,CM]
     exact eH.dz hμ (fun b hb=>hb) hB.row
 classical
 let σ':af:=fun j=>if h:∃ i b,s0.σ i=some b/\mC n π κ i=j then some (h.choose_spec.choose.dz (mC n π κ)) else none
 have Vz:∀ j, σ' j=none∨∃ i b,s0.σ i=some b/\mC n π κ i=j /\ σ' j=some (b.dz (mC n π κ)):=fun j=>by
   by_cases h:∃ i b,s0.σ i=some b/\mC n π κ i=j
   . right;exact ⟨h.choose,h.choose_spec.choose,h.choose_spec.choose_spec.1,h.choose_spec.choose_spec.2,dif_pos h⟩
   . left;exact dif_neg h
 have ahU:Inv G own E' w' σ':=by
   refine ⟨pM.okb,fun j bk hs => ?_,fun j j' x y hj hj' hne hx hy => ?_,pM.glob,pM.new⟩
   . rcases Vz j with h1 | ⟨i,b,h1,h2,h3⟩
     . rw [h1] at hs;cases hs
     . rw [h3] at hs
       simp only [Option.some.injEq] at hs
       obtain ⟨i',g,N,cur,ty,b0,_,_,_,hB⟩:=hS j bk ⟨i,b,h1,h2,hs.symm⟩
       exact ⟨g,N,cur,ty,hB⟩
   . rcases Vz j with h1 | ⟨i,b,h1,h2,h3⟩
     . exact absurd h1 hj
     rcases Vz j' with h4 | ⟨i',b',h4,h5,h6⟩
     . exact absurd h4 hj'
     obtain ⟨g,N,cur,ty,hB⟩:=pM.blk i b h1
     obtain ⟨g',N',KB,Ng,H8⟩:=pM.blk i' b' h4
     have e1:=hμ _ _ hB.μ
     have e2:=hμ _ _ H8.μ
     rw [h2,hx] at e1
     rw [h5,hy] at e2
     simp only [Option.some.injEq] at e1 e2
     rw [e1,e2]
     exact pM.inj i i' _ _ (by rw [h1];simp) (by rw [h4];simp) (fun e=>hne (by rw [<- h2, <- h5,e])) hB.μ H8.μ
 have aeB:∀ i b,s0.σ i=some b -> σ' (mC n π κ i)=some (b.dz (mC n π κ)):=fun i b h1=>by
   rcases Vz (mC n π κ i) with h2 | ⟨i',b',h3,h4,h5⟩
   . exact absurd ((dif_pos ⟨i,b,h1,rfl⟩).symm.trans h2) (by simp)
   . obtain ⟨g,N,cur,ty,hB⟩:=pM.blk i b h1
     obtain ⟨g',N',KB,Ng,H8⟩:=pM.blk i' b' h3
     by_cases e:i'=i
     . subst e;rw [h1] at h3;simp only [Option.some.injEq] at h3;subst h3;exact h5
     . have e1:=hμ _ _ hB.μ
       have e2:=hμ _ _ H8.μ
       rw [h4,e1] at e2
       simp only [Option.some.injEq,Prod.mk.injEq] at e2
       exact absurd e2.1.symm (pM.inj i' i _ _ (by rw [h3];simp) (by rw [h1];simp) e H8.μ hB.μ)
 refine hR e ⟨b8 (mC n π κ) s0.t, σ',n+s0.n⟩ E' w' a' ⟨s0,hq,rfl,rfl,aeB,Vz⟩ ⟨⟨⟨hold,had.step.ok,had.step.same⟩,had.os,had.tape,had.output,had.size,had.block,had.Ws⟩,fun j hj=>sU fun i hi e=>hj ?_⟩ ⟨bd.dz hμ (fun b hb=>hb) _ _ ahT,ahU,fun j hj hq' => ?_,aeA⟩
 . rcases Kq hi with rfl | ⟨l,q,rfl⟩
   . rw [<- e];exact List.suffix_refl _
   . rw [nR] at e;rw [<- e];exact ⟨l++[n+q],by simp⟩
 . by_cases hex:∃ i,[0] <:+ i/\mC n π κ i=j
   . obtain ⟨i,O0,rfl⟩:=hex
     refine (Ez O0).trans (Nu i O0 fun q Kw hs=>hq' (n+q) (by show n+q<n+s0.n;omega) ?_)
     obtain ⟨t,rfl⟩:=hs
     rw [nR];exact ⟨t,rfl⟩
   . refine (sU fun i hi e=>hex ⟨i,hi,e⟩).trans (pS j hj fun q Kw=>hq' q (Nat.lt_of_lt_of_le Kw (Nat.le_add_right _ _)))
theorem MI {ρ : Id->Id} {agg:Bool} {cs:List AV} {o n:Nat} {v:AV} (h:part agg cs o n=some v):part agg (b8 ρ cs) o n=some (v.dz ρ):=by
 unfold part at h ⊢
 rw [gJ]
 split at h
 . rename_i h1
   rw [if_pos h1]
   split at h
   . rename_i h2
     rw [if_pos h2]
     simp only [Option.some.injEq] at h
     subst h
     simp only [AV.dz,gI,List.map_take,List.map_drop]
   . rename_i h2
     rw [if_neg h2]
     split at h
     . rename_i h3;rw [if_pos h3,gI,List.getElem?_map,h];rfl
     . cases h
 . cases h
theorem Sq {ρ : Id->Id} {σ0 σ : af} (hs:Sp ρ σ0 σ) {agg:Bool} {n:Nat} {x:AV} {r:eP} (h:jl σ0 agg n x=some r):∃ r',jl σ agg n (x.dz ρ)=some r'/\r'.val=r.val.dz ρ := by
 cases x<;>simp only [jl,reduceCtorEq] at h
 case ref id e o =>
   cases hb : σ0 id with
   | none=>rw [hb] at h;cases h
   | some bk =>
     rw [hb] at h
     simp only [] at h
     cases he:bk.els[e]? with
     | none=>rw [he] at h;cases h
     | some el =>
       rw [he] at h
       simp only [Option.map_eq_some_iff] at h
       obtain ⟨v,hv,rfl⟩:=h
       refine ⟨{ val:=v.dz ρ,rd:=[ρ id] }, ?_,rfl⟩
       have e1:(bk.dz ρ).els[e]? = some (el.dz ρ):=by
         show (b8 ρ bk.els)[e]? = _
         rw [gI,List.getElem?_map,he];rfl
       simp only [AV.dz,jl,hs.1 id bk hb,e1,zP,MI hv,Option.map_some]
 case ep cs o =>
   simp only [Option.map_eq_some_iff] at h
   obtain ⟨v,hv,rfl⟩:=h
   refine ⟨{ val:=v.dz ρ }, ?_,rfl⟩
   simp only [AV.dz,jl,MI hv,Option.map_some]
theorem MJ {ρ : Id->Id} {t:List AV} {k:Nat}:(b8 ρ t).getD k (.tup [])=(t.getD k (.tup [])).dz ρ := by
 rw [List.getD_eq_getElem?_getD,List.getD_eq_getElem?_getD,gI,List.getElem?_map]
 cases t[k]? <;> rfl
theorem Sr {ρ : Id->Id} {s0 s:VS} (ht:s.t=b8 ρ s0.t) (hs:Sp ρ s0.σ s.σ) {x:ug} {v:AV} (h:a7 s0 x=some v):a7 s x=some (v.dz ρ):=by
 cases x with
 | tmp k=>simp only [a7,Option.some.injEq] at h ⊢;rw [ht,MJ,h]
 | cell k agg n =>
   simp only [a7,Option.map_eq_some_iff] at h ⊢
   obtain ⟨r,hr,rfl⟩:=h
   obtain ⟨r',h1,h2⟩:=Sq hs hr
   exact ⟨r',by rw [ht,MJ];exact h1,h2⟩
theorem MK {ρ : Id->Id} {s0 s:VS} (ht:s.t=b8 ρ s0.t) (hs:Sp ρ s0.σ s.σ):∀ {rs:List ug} {vs:List AV},rs.mapM (a7 s0)=some vs->rs.mapM (a7 s)=some (b8 ρ vs)
 | [],vs,h=>by simp only [List.mapM_nil,Option.pure_def,Option.some.injEq] at h ⊢;subst h;rfl
 | x::rs,vs,h=>by
   simp only [List.mapM_cons,Option.bind_eq_bind,Option.bind_eq_some_iff,Option.pure_def,Option.some.injEq] at h ⊢
   obtain ⟨v,hv,vs',Na,rfl⟩:=h
   exact ⟨_,Sr ht hs hv,_,MK ht hs Na,rfl⟩
theorem Ss {ρ : Id->Id} {s0 s:VS} (ht:s.t=b8 ρ s0.t) (hs:Sp ρ s0.σ s.σ) {rs:List ug} {v:AV} (h:aY rs s0=some v):aY rs s=some (v.dz ρ):=by
 unfold aY at h ⊢
 cases hm:rs.mapM (a7 s0) with
 | none=>rw [hm] at h;cases h
 | some vs =>
   rw [hm] at h
   rw [MK ht hs hm]
   match vs,h with
   | [],h=>simp only [Option.some.injEq] at h;subst h;rfl
   | [v],h=>simp only [Option.some.injEq] at h;subst h;rfl
   | v::v'::vs,h=>simp only [Option.some.injEq] at h;subst h;rfl
end
end Go.VL
end

section
namespace Go.VL
abbrev cA:=List (Id × Option da)
def ML:Id->Id->Bool
 | [],[]=>true
 | a::asz,b::bs=>Nat.beq a b&&ML asz bs
 | _,_=>false
theorem pQ:∀ {a b:Id},ML a b=true↔a=b
 | [],[]=>by simp [ML]
 | a::asz,b::bs=>by simp only [ML,Bool.and_eq_true,Nat.beq_eq,pQ (a:=asz),List.cons.injEq]
 | [],_::_=>by simp [ML]
 | _::_,[]=>by simp [ML]
def cA.find:cA->Id->Option da
 | [],_=>none
 | (j,b)::S,i=>match ML i j with
   | true=>b
   | false=>cA.find S i
def cA.to (S:cA):af:=fun i=>S.find i
def cA.app (S:cA):List (Id × Option da)->cA
 | []=>S
 | x::up=>cA.app (x::S) up
theorem cA.abK (i:Id) (b:Option da) (S:cA):cA.to ((i,b)::S)=S.to.put i b:=by
 funext j
 show cA.find _ j=_
 simp only [cA.find,af.put]
 cases h:ML j i with
 | true=>rw [if_pos (pQ.1 h)]
 | false=>rw [if_neg (fun e=>by rw [pQ.2 e] at h;cases h)];rfl
theorem cA.Ou:∀ (up:List (Id × Option da)) (S:cA),(S.app up).to=S.to.app up
 | [],_=>rfl
 | (i,b)::up,S=>by simp only [cA.app,af.app,cA.Ou up,cA.abK]
inductive Hint (P:Program) (G:Nat->Option (List AV)) where
 | ev (k:Nat) (o:Option eP) (r:eP) (h:o=some r)
 | eq (k:Nat) (a b:AV) (h:a=b)
 | br (k:Nat) (x b:Bool) (h:x=b)
 | st (k:Nat) (S:List (Id × da)) (op:gv AV) (r:Id->eP) (h:∀ σ p,(∀ x∈S, σ x.1=some x.2)->bU σ p op=some (r p))
 | vp (f:FuncId) (args:List AV) (r:AV) (h:VP P G f args r) (hp:∀ c∈args,aa c)
 | rel (f:FuncId) (args:List AV) (S:List (Id × da)) (r:Id->eP) (h:∀ p,(∀ x∈S, ¬ p <:+ x.1)->aW P G f args p S (r p)) (hr:∀ p,∀ x∈S,x.1∈(r p).rd)
 | lp (π : Id) (c:cg) (t0:List AV) (S0:List (Id × da)) (n0:Nat) (e:bX) (t1:List AV) (S1:cA) (n1:Nat) (h:VW P G π (.loop c) (fun e' s'=>e'=e/\Wk G π s' ⟨t1,S1.to,n1⟩) ⟨t0,af.of S0,n0⟩)
inductive Nd where
 | ev (o:Option eP)
 | val (a:AV)
 | op (o:gv AV) (S:List (Option da))
 | call (f:FuncId) (args:List AV) (S:List (Option da))
 | lp (π : Id) (c:cg) (t:List AV) (S:List (Option da))
def VA:Id->Id->Bool
 | p,[]=>ML p []
 | p,a::asz=>ML p (a::asz)||VA p asz
theorem MM {p:Id}:∀ {i:Id},VA p i=false -> ¬ p <:+ i
 | [],h=>by
   simp only [VA] at h
   intro hs
   have:p=[]:=List.suffix_nil.1 hs
   rw [pQ.2 this] at h;cases h
 | a::asz,h=>by
   simp only [VA,Bool.or_eq_false_iff] at h
   intro hs
   rcases List.suffix_cons_iff.1 hs with e | e
   . rw [pQ.2 e] at h;cases h.1
   . exact MM h.2 e
structure TS where
 t:List AV
 S:cA
 n:Nat
def TS.to (s:TS):VS:=⟨s.t,s.S.to,s.n⟩
def Hh:List AV->List AV->List AV
 | c::cs,d::ds=>(match d with | .top => .top | _=>c)::Hh cs ds
 | cs,_=>cs
theorem Hi:∀ {cs ds:List AV},Hh cs ds=ds->Fg cs ds
 | [],[],_=>trivial
 | c::cs,d::ds,h=>by
   simp only [Hh,List.cons.injEq] at h
   refine ⟨?_,Hi h.2⟩
   cases d<;>simp_all
 | [],_::_,h=>by simp [Hh] at h
 | _::_,[],h=>by simp [Hh] at h
def keyOf (o:bq):Nat:=match o.dst with
 | some d=>d
 | none=>match o.op with
   | .store _ (.t x) _=>x+100000
   | _=>0
def CO (a b:List Id):Bool:=a.all fun i => !b.any fun j=>ML i j
def Qh (a b:eP):Bool:=CO (a.up.map (·.1)) b.rd&&CO (a.up.map (·.1)) (b.up.map (·.1))&&CO (b.up.map (·.1)) a.rd
def Bh (rs:List eP) (ps:List (Nat × Nat)):Bool:=ps.all fun q=>match rs[q.1]?,rs[q.2]? with
 | some a,some b=>Qh a b
 | _,_=>true
theorem xq {a b:List Id} (h:CO a b=true) {i:Id} (hi:i∈a):i ∉ b:=by
 simp only [CO,List.all_eq_true,Bool.not_eq_true',List.any_eq_false] at h
 exact fun hj=>h i hi i hj (pQ.2 rfl)
theorem E8 {rs:List eP} {ps:List (Nat × Nat)} (h:Bh rs ps=true):ab rs ps:=by
 intro q hq a b ha hb
 simp only [Bh,List.all_eq_true] at h
 have:=h q hq
 rw [ha,hb] at this
 simp only [Qh,Bool.and_eq_true] at this
 obtain ⟨⟨h1,h2⟩,h3⟩:=this
 exact ⟨fun x hx=>⟨xq h1 (List.mem_map.2 ⟨x,hx,rfl⟩),xq h2 (List.mem_map.2 ⟨x,hx,rfl⟩)⟩,fun x hx=>xq h3 (List.mem_map.2 ⟨x,hx,rfl⟩)⟩
abbrev Ov:=List (Nd × Nd)
section
variable {P:Program} {G:Nat->Option (List AV)}
def Aw (S:cA) (p:Id) (op:gv AV) (hs:List (Hint P G)):Option (Ov × List (Hint P G) × eP):=match bU S.to p op with
 | some r=>some ([],hs,r)
 | none=>none
def VB (S:cA) (p:Id) (k:Nat) (op:gv AV) (hs:List (Hint P G)):Option (Ov × List (Hint P G) × eP) :=
 match op with
 | .call f asz=>match f with
   | .fn (.func g) first cap=>match hs with
     | .vp f' lG r _ _::eE=>some ([(.call g (first++asz++cap) [], .call f' lG [])],eE,{ val:=r })
     | .rel f' lG S' r _ _::eE=>match S'.all fun x => !VA p x.1 with
       | true=>some ([(.call g (first++asz++cap) (S'.map fun x=>S.find x.1), .call f' lG (S'.map fun x=>some x.2))],eE,r p)
       | false=>none
     | _=>none
   | _=>none
 | op=>match hs with
   | .ev k' o r _::eE=>match Nat.beq k' k with
     | true=>some ([(.ev (bU S.to p op), .ev o)],eE,r)
     | false=>Aw S p op hs
   | .eq k' a b _::eE=>match Nat.beq k' k with
     | true=>match bU S.to p op with
       | some r=>some ([(.val r.val, .val a)],eE,{ r with val:=b })
       | none=>none
     | false=>Aw S p op hs
   | .st k' S' op' r _::eE=>match Nat.beq k' k with
     | true=>some ([(.op op (S'.map fun x=>S.find x.1), .op op' (S'.map fun x=>some x.2))],eE,r p)
     | false=>Aw S p op hs
   | _=>Aw S p op hs
def Kr (π : Id) (base:Nat):List bq->Nat->List eP->List AV->cA->List (Hint P G)->Option (Ov × List (Hint P G) × List eP × List AV × cA)
 | [],_,acc,t,S,hs=>some ([],hs,acc,t,S)
 | o :: os,i,acc,t,S,hs=>match eT t o.guard with
   | none=>none
   | some false=>Kr π base os (i+1) ({ val := .tup [] }::acc) (fU t o.dst (.tup [])) S hs
   | some true=>match VB S ((base+i) :: π) (keyOf o) (o.op.map (a6.ev G t)) hs with
     | none=>none
     | some (c,eE,r)=>match Kr π base os (i+1) (r::acc) (fU t o.dst r.val) (S.app r.up) eE with
       | none=>none
       | some (cs,x)=>some (c++cs,x)
def aeC:a6->Nat
 | .t k=>k
 | _=>0
def jo : Bool->Nat->cg->Id->List (Hint P G)->TS->Option (Ov × List (Hint P G) × bX × TS)
 | _,0,_,_,_,_=>none
 | z,m+1,c, π,hs,s=>match c with
   | .skip=>some ([],hs, .normal,s)
   | .ret=>some ([],hs, .ret,s)
   | .exit i=>some ([],hs, .exit i,s)
   | .seq a b=>match jo true m a π hs s with
     | some (cs,eE, .normal,s')=>match jo true m b π eE s' with
       | some (CZ,x)=>some (cs++CZ,x)
       | none=>none
     | r=>r
   | .cond c a b=>match hs with
     | .br k x v _::eE=>match Nat.beq k (aeC c) with
       | true=>match jo true m (match v with | true=>a | false=>b) π eE s with
         | some (cs,y)=>some ((.val (c.ev G s.t), .val (.bool x))::cs,y)
         | none=>none
       | false=>match c.ev G s.t with
         | .bool true=>jo true m a π hs s
         | .bool false=>jo true m b π hs s
         | _=>none
     | _=>match c.ev G s.t with
       | .bool true=>jo true m a π hs s
       | .bool false=>jo true m b π hs s
       | _=>none
   | .block i c=>match jo true m c π hs s with
     | some (cs,eE, .exit j,s')=>match Nat.beq j i with
       | true=>some (cs,eE, .normal,s')
       | false=>some (cs,eE, .exit j,s')
     | r=>r
   | .loop c=>match z,hs with
     | true, .lp π' c' t0 S0 n0 e t1 S1 n1 _::eE=>match Nat.ble s.n n0 with
       | true=>some ([(.lp π c (Hh s.t t0) (S0.map fun x=>s.S.find x.1), .lp π' c' t0 (S0.map fun x=>some x.2))],eE,e,⟨t1,S1,n1⟩)
       | false=>none
     | _,_=>match jo true m c π hs s with
       | some (cs,eE, .normal,s')=>match jo false m (.loop c) π eE s' with
         | some (CZ,x)=>some (cs++CZ,x)
         | none=>none
       | r=>r
   | .reg ps os=>match Kr π s.n os 0 [] s.t s.S hs with
     | none=>none
     | some (cs,eE,rs,t,S)=>match ps with
       | none=>some (cs,eE, .normal,⟨t,S,s.n+os.length⟩)
       | some ps=>match Bh rs.reverse ps with
         | true=>some (cs,eE, .normal,⟨t,S,s.n+os.length⟩)
         | false=>none
def ss (cs:Ov):Prop:=∀ x∈cs,x.1=x.2
theorem ss.of_map {cs:Ov} (h:cs.map (·.1)=cs.map (·.2)):ss cs:=by
 intro x hx
 obtain ⟨i,hi⟩:=List.getElem?_of_mem hx
 have:=congrArg (·[i]?) h
 simpa [List.getElem?_map,hi] using this
theorem ss.left {a b:Ov} (h:ss (a++b)):ss a:=fun x hx=>h x (List.mem_append_left _ hx)
theorem ss.right {a b:Ov} (h:ss (a++b)):ss b:=fun x hx=>h x (List.mem_append_right _ hx)
theorem nS {S:cA} {S':List (Id × da)} (h:(S'.map fun x=>S.find x.1)=S'.map fun x=>some x.2):∀ x∈S',S.to x.1=some x.2:=by
 intro x hx
 obtain ⟨i,hi⟩:=List.getElem?_of_mem hx
 have:=congrArg (·[i]?) h
 have e:S.find x.1=some x.2:=by simpa [List.getElem?_map,hi] using this
 exact e
theorem EA {S:cA} {p:Id} {k:Nat} {op:gv AV} {hs eE:List (Hint P G)} {cs:Ov} {r:eP} (h:VB S p k op hs=some (cs,eE,r)) (hc:ss cs) {K:eP->Prop} (hK:K r):yl P G S.to p op K:=by
 have auto:∀ {cs eE},Aw S p op hs=some (cs,eE,r)->op.s6=false->yl P G S.to p op K:=by
   intro cs eE h Hu
   unfold Aw at h
   rw [um Hu]
   split at h
   . rename_i r' hr;simp only [Option.some.injEq,Prod.mk.injEq] at h;obtain ⟨_,_,rfl⟩:=h;rw [hr];exact hK
   . cases h
 have other:∀ {cs eE},op.s6=false->ss cs->(match hs with
   | .ev k' o r _::eE=>match Nat.beq k' k with
     | true=>some ([((Nd.ev (bU S.to p op)), .ev o)],eE,r)
     | false=>Aw S p op hs
   | .eq k' a b _::eE=>match Nat.beq k' k with
     | true=>match bU S.to p op with
       | some r=>some ([(.val r.val, .val a)],eE,{ r with val:=b })
       | none=>none
     | false=>Aw S p op hs
   | .st k' S' op' r _::eE=>match Nat.beq k' k with
     | true=>some ([(.op op (S'.map fun x=>S.find x.1), .op op' (S'.map fun x=>some x.2))],eE,r p)
     | false=>Aw S p op hs
   | _=>Aw S p op hs)=some (cs,eE,r)->yl P G S.to p op K:=by
   intro cs eE Hu hc h
   cases hs with
   | nil=>exact auto h Hu
   | cons x jq =>
     cases x with
     | ev k' o r' ho =>
       simp only [] at h
       split at h
       . simp only [Option.some.injEq,Prod.mk.injEq] at h
         obtain ⟨rfl,_,rfl⟩:=h
         have:=hc _ (List.mem_singleton.2 rfl)
         simp only [Nd.ev.injEq] at this
         rw [um Hu,this,ho];exact hK
       . exact auto h Hu
     | eq k' a b Nc =>
       simp only [] at h
       split at h
       . split at h
         . rename_i r' hr
           simp only [Option.some.injEq,Prod.mk.injEq] at h
           obtain ⟨rfl,_,rfl⟩:=h
           have:=hc _ (List.mem_singleton.2 rfl)
           simp only [Nd.val.injEq] at this
           rw [um Hu,hr]
           have e:{ r' with val:=b }=r':=by rw [<- Nc, <- this]
           rw [e] at hK;exact hK
         . cases h
       . exact auto h Hu
     | st k' S' op' r' ho =>
       simp only [] at h
       split at h
       . simp only [Option.some.injEq,Prod.mk.injEq] at h
         obtain ⟨rfl,_,rfl⟩:=h
         have:=hc _ (List.mem_singleton.2 rfl)
         simp only [Nd.op.injEq] at this
         rw [um Hu,this.1,ho _ _ (nS this.2)];exact hK
       . exact auto h Hu
     | _=>exact auto h Hu
 cases op with
 | call f asz =>
   simp only [VB] at h
   simp only [yl]
   split at h
   . cases hs with
     | nil=>cases h
     | cons x jq =>
       cases x with
       | vp f' lG r' hv hp =>
         simp only [Option.some.injEq,Prod.mk.injEq] at h
         obtain ⟨rfl,_,rfl⟩:=h
         have:=hc _ (List.mem_singleton.2 rfl)
         simp only [Nd.call.injEq,and_true] at this
         obtain ⟨rfl,e⟩:=this
         exact ⟨[],_,e▸aW.OZ hv hp p,by simp,by simp,hK⟩
       | rel f' lG S' r' hv hr =>
         simp only [] at h
         split at h
         . rename_i hsf
           simp only [Option.some.injEq,Prod.mk.injEq] at h
           obtain ⟨rfl,_,rfl⟩:=h
           have:=hc _ (List.mem_singleton.2 rfl)
           simp only [Nd.call.injEq] at this
           obtain ⟨rfl,e,e2⟩:=this
           refine ⟨S',_,e▸hv p fun x hx=>MM ?_,nS e2,hr p,hK⟩
           have:=List.all_eq_true.1 hsf x hx
           simpa using this
         . cases h
       | _=>cases h
   . cases h
 | _=>exact other rfl hc h
theorem Hj {π : Id} {base:Nat} {rs:List eP} {t':List AV} {S':cA} {eE:List (Hint P G)} {K:List eP->List AV->af->Prop} (hK:K rs.reverse t' S'.to) :
   ∀ (os:List bq) (i:Nat) (acc:List eP) (t:List AV) (S:cA) (hs:List (Hint P G)) (cs:Ov),Kr π base os i acc t S hs=some (cs,eE,rs,t',S')->ss cs->Bz P G π base K os i acc t S.to
 | [],i,acc,t,S,hs,cs,h,_=>by
   simp only [Kr,Option.some.injEq,Prod.mk.injEq] at h
   obtain ⟨_,_,rfl,rfl,rfl⟩:=h
   exact hK
 | o :: os,i,acc,t,S,hs,cs,h,hc=>by
   simp only [Kr] at h
   simp only [Bz]
   split at h
   . cases h
   . rename_i hw;rw [hw];exact Hj hK os _ _ _ _ _ _ h hc
   . rename_i hw
     rw [hw]
     split at h
     . cases h
     . rename_i c jq r hr
       split at h
       . cases h
       . rename_i cs1 x hx
         simp only [Option.some.injEq,Prod.mk.injEq] at h
         obtain ⟨rfl,rfl⟩:=h
         have:=Hj hK os _ _ _ _ _ _ hx hc.right
         rw [cA.Ou] at this
         exact EA hr hc.left this
theorem Hk {π : Id} {base:Nat} {rs:List eP} {t':List AV} {S':cA} {eE:List (Hint P G)} {K:List AV->af->Prop} (hK:K t' S'.to) :
   ∀ (os:List bq) (i:Nat) (acc:List eP) (t:List AV) (S:cA) (hs:List (Hint P G)) (cs:Ov),Kr π base os i acc t S hs=some (cs,eE,rs,t',S')->ss cs->Bx P G π base K os i t S.to
 | [],i,acc,t,S,hs,cs,h,_=>by
   simp only [Kr,Option.some.injEq,Prod.mk.injEq] at h
   obtain ⟨_,_,rfl,rfl,rfl⟩:=h
   exact hK
 | o :: os,i,acc,t,S,hs,cs,h,hc=>by
   simp only [Kr] at h
   simp only [Bx]
   split at h
   . cases h
   . rename_i hw;rw [hw];exact Hk hK os _ _ _ _ _ _ h hc
   . rename_i hw
     rw [hw]
     split at h
     . cases h
     . rename_i c jq r hr
       split at h
       . cases h
       . rename_i cs1 x hx
         simp only [Option.some.injEq,Prod.mk.injEq] at h
         obtain ⟨rfl,rfl⟩:=h
         have:=Hk hK os _ _ _ _ _ _ hx hc.right
         rw [cA.Ou] at this
         exact EA hr hc.left this
theorem EB {c:cg} {π : Id}:∀ (m:Nat),(∀ m'<m,∀ (hs eE:List (Hint P G)) cs s s' e,jo true m' c π hs s=some (cs,eE,e,s')->ss cs->VW P G π c (fun e' s2=>e'=e/\s2=s'.to) s.to) ->
   ∀ (hs eE:List (Hint P G)) cs s s' e,jo false m (.loop c) π hs s=some (cs,eE,e,s')->ss cs->∃ n,bW P G π c (fun e' s2=>e'=e/\s2=s'.to) n s.to
 | 0,_,_,_,_,_,_,_,h,_=>by simp [jo] at h
 | m + 1,hb,hs,eE,cs,s,s',e,h,hc=>by
   simp only [jo] at h
   split at h
   . rename_i c1 jq s1 h1
     split at h
     . rename_i c2 x h2
       simp only [Option.some.injEq,Prod.mk.injEq] at h
       obtain ⟨rfl,rfl⟩:=h
       obtain ⟨n,hn⟩:=EB m (fun m' hm=>hb m' (by omega)) jq eE c2 s1 s' e h2 hc.right
       refine ⟨n+1,(hb m (by omega) hs jq c1 s s1 _ h1 hc.left).mono fun e' s2 hq => ?_⟩
       obtain ⟨rfl,rfl⟩:=hq
       exact hn
     . cases h
   . rename_i h1
     refine ⟨1,(hb m (by omega) hs eE cs s s' e h hc).mono fun e' s2 hq => ?_⟩
     obtain ⟨rfl,rfl⟩:=hq
     cases e' with
     | normal=>exact absurd h (h1 _ _ _)
     | exit i=>exact ⟨rfl,rfl⟩
     | ret=>exact ⟨rfl,rfl⟩
theorem VW.post {vc:cg} {π : Id} {Q:bX->VS->Prop} {s:VS} (h:VW P G π vc (fun e s'=>∃ s1,Q e s1/\Wk G π s' s1) s):VW P G π vc Q s:=by
 intro c hc own E w a R hm hR
 refine h c hc own E w a R hm fun e s' E' w' a' hq had qG => ?_
 obtain ⟨s1,h1,h2⟩:=hq
 obtain ⟨E1,a1,m1⟩:=h2 own E' w' a' qG
 exact hR e s1 E1 w' a' h1 (had.trans a1) m1
theorem eg : ∀ (m:Nat) (c:cg) (π : Id) (hs eE:List (Hint P G)) (cs:Ov) (s s':TS) (e:bX),jo true m c π hs s=some (cs,eE,e,s')->ss cs->VW P G π c (fun e' s2=>e'=e/\s2=s'.to) s.to
 | 0,_,_,_,_,_,_,_,_,h,_=>by simp [jo] at h
 | m + 1, c, π,hs,eE,cs,s,s',e,h,hc=>by
   have cnd:∀ {hs eE:List (Hint P G)} {cs:Ov} {a b:cg} {x:a6},(match x.ev G s.t with
       | .bool true=>jo true m a π hs s
       | .bool false=>jo true m b π hs s
       | _=>none)=some (cs,eE,e,s')->ss cs->VW P G π (.cond x a b) (fun e' s2=>e'=e/\s2=s'.to) s.to:=by
     intro hs eE cs a b x h hc
     split at h
     . rename_i hb;exact VW.cond hb (by simpa using eg m a π _ _ _ s s' e h hc)
     . rename_i hb;exact VW.cond hb (by simpa using eg m b π _ _ _ s s' e h hc)
     . cases h
   cases c with
   | skip=>simp only [jo,Option.some.injEq,Prod.mk.injEq] at h;obtain ⟨_,_,rfl,rfl⟩:=h;exact VW.skip ⟨rfl,rfl⟩
   | ret=>simp only [jo,Option.some.injEq,Prod.mk.injEq] at h;obtain ⟨_,_,rfl,rfl⟩:=h;exact VW.ret ⟨rfl,rfl⟩
   | exit i=>simp only [jo,Option.some.injEq,Prod.mk.injEq] at h;obtain ⟨_,_,rfl,rfl⟩:=h;exact VW.exit ⟨rfl,rfl⟩
   | seq a b =>
     simp only [jo] at h
     refine VW.seq ?_
     split at h
     . rename_i c1 jq s1 h1
       split at h
       . rename_i c2 x h2
         simp only [Option.some.injEq,Prod.mk.injEq] at h
         obtain ⟨rfl,rfl⟩:=h
         refine (eg m a π _ _ _ s s1 _ h1 hc.left).mono fun e' s2 hq => ?_
         obtain ⟨rfl,rfl⟩:=hq
         exact eg m b π _ _ _ s1 s' e h2 hc.right
       . cases h
     . rename_i h1
       refine (eg m a π _ _ _ s s' e h hc).mono fun e' s2 hq => ?_
       obtain ⟨rfl,rfl⟩:=hq
       cases e' with
       | normal=>exact absurd h (h1 _ _ _)
       | exit i=>exact ⟨rfl,rfl⟩
       | ret=>exact ⟨rfl,rfl⟩
   | cond x a b =>
     simp only [jo] at h
     cases hs with
     | nil=>exact cnd h hc
     | cons y jq =>
       cases y with
       | br k y v hv =>
         simp only [] at h
         split at h
         . split at h
           . rename_i c1 y1 h1
             simp only [Option.some.injEq,Prod.mk.injEq] at h
             obtain ⟨rfl,rfl⟩:=h
             have h2:=hc _ (List.mem_cons_self ..)
             simp only [Nd.val.injEq] at h2
             have hc':ss c1:=fun z hz=>hc z (List.mem_cons_of_mem _ hz)
             refine VW.cond (b:=v) (by rw [<- hv];exact h2) ?_
             cases v with
             | true=>simpa using eg m a π _ _ _ s s' e h1 hc'
             | false=>simpa using eg m b π _ _ _ s s' e h1 hc'
           . cases h
         . exact cnd h hc
       | _=>exact cnd h hc
   | block i c =>
     simp only [jo] at h
     refine VW.block ?_
     split at h
     . rename_i c1 jq j s1 h1
       split at h
       . rename_i hj
         simp only [Option.some.injEq,Prod.mk.injEq] at h
         obtain ⟨rfl,rfl,rfl,rfl⟩:=h
         refine (eg m c π _ _ _ s _ _ h1 hc).mono fun e' s2 hq => ?_
         obtain ⟨rfl,rfl⟩:=hq
         simp [Nat.beq_eq▸hj]
       . rename_i hj
         simp only [Option.some.injEq,Prod.mk.injEq] at h
         obtain ⟨rfl,rfl,rfl,rfl⟩:=h
         refine (eg m c π _ _ _ s _ _ h1 hc).mono fun e' s2 hq => ?_
         obtain ⟨rfl,rfl⟩:=hq
         have : ¬ j=i:=fun e=>by rw [e,Nat.beq_refl] at hj;cases hj
         simp [this]
     . rename_i h1
       refine (eg m c π _ _ _ s s' e h hc).mono fun e' s2 hq => ?_
       obtain ⟨rfl,rfl⟩:=hq
       cases e' with
       | normal=>exact ⟨rfl,rfl⟩
       | exit i=>exact absurd h (h1 _ _ _ _)
       | ret=>exact ⟨rfl,rfl⟩
   | loop c =>
     have plain:∀ {h1':(match jo true m c π hs s with
       | some (cs,eE, .normal,s')=>match jo false m (.loop c) π eE s' with
         | some (CZ,x)=>some (cs++CZ,x)
         | none=>none
       | r=>r)=some (cs,eE,e,s')},VW P G π (.loop c) (fun e' s2=>e'=e/\s2=s'.to) s.to:=by
       intro h
       split at h
       . rename_i c1 jq s1 h1
         split at h
         . rename_i c2 x h2
           simp only [Option.some.injEq,Prod.mk.injEq] at h
           obtain ⟨rfl,rfl⟩:=h
           obtain ⟨n,hn⟩:=EB m (fun m' hm hs eE cs s s' e hr hc=>eg m' c π hs eE cs s s' e hr hc) jq eE c2 s1 s' e h2 hc.right
           refine VW.rounds (n+1) ((eg m c π hs jq c1 s s1 _ h1 hc.left).mono fun e' s2 hq => ?_)
           obtain ⟨rfl,rfl⟩:=hq
           exact hn
         . cases h
       . rename_i h1
         refine VW.rounds 1 ((eg m c π hs eE cs s s' e h hc).mono fun e' s2 hq => ?_)
         obtain ⟨rfl,rfl⟩:=hq
         cases e' with
         | normal=>exact absurd h (h1 _ _ _)
         | exit i=>exact ⟨rfl,rfl⟩
         | ret=>exact ⟨rfl,rfl⟩
     cases hs with
     | nil=>simp only [jo] at h;exact plain (h1':=h)
     | cons y jq =>
     cases y with
     | lp π' c' t0 S0 n0 e1 t1 S1 n1 hv =>
       simp only [jo] at h
       split at h
       . rename_i hn
         simp only [Option.some.injEq,Prod.mk.injEq] at h
         obtain ⟨rfl,_,rfl,rfl⟩:=h
         have h2:=hc _ (List.mem_singleton.2 rfl)
         simp only [Nd.lp.injEq] at h2
         obtain ⟨rfl,rfl,h3,h4⟩:=h2
         exact VW.wk (Wk.forget (Hi h3) (fun i=>af.vH (nS h4) i) (Nat.le_of_ble_eq_true hn)) (VW.post (hv.mono fun e' s2 hq=>⟨_,⟨hq.1,rfl⟩,hq.2⟩))
       . cases h
     | _=>simp only [jo] at h;exact plain (h1':=h)
   | reg ps os =>
     simp only [jo] at h
     split at h
     . cases h
     . rename_i c1 jq rs t S h1
       cases ps with
       | none =>
         simp only [Option.some.injEq,Prod.mk.injEq] at h
         obtain ⟨rfl,rfl,rfl,rfl⟩:=h
         exact VW.Tr (Hk ⟨rfl,rfl⟩ os _ _ _ _ _ _ h1 hc)
       | some ps =>
         simp only [] at h
         split at h
         . rename_i hap
           simp only [Option.some.injEq,Prod.mk.injEq] at h
           obtain ⟨rfl,rfl,rfl,rfl⟩:=h
           exact VW.Ts (Hj ⟨E8 hap,rfl,rfl⟩ os _ _ _ _ _ _ h1 hc)
         . cases h
 termination_by m=>m
end
end Go.VL
end

section
namespace Go.VL
class PU (c:AV):Prop where
 pure:aa c
 fix:∀ ρ,c.dz ρ = c
class H3 (l:List AV):Prop where
 pure:∀ c∈l,aa c
 fix:∀ ρ,b8 ρ l=l
instance:H3 []:=⟨by simp,fun _=>rfl⟩
instance {c:AV} {l:List AV} [h:PU c] [k:H3 l]:H3 (c::l):=⟨by intro d hd;rcases List.mem_cons.1 hd with rfl | hd;exact h.pure;exact k.pure d hd,fun ρ => by simp only [b8,h.fix,k.fix]⟩
instance {b:Bool}:PU (.bool b):=⟨aa.bool b,fun _=>rfl⟩
instance {k:IntKind} {n:Int}:PU (.int k n):=⟨aa.int k n,fun _=>rfl⟩
instance {l:List UInt8}:PU (.str l):=⟨aa.str l,fun _=>rfl⟩
instance:PU .nils:=⟨aa.nils,fun _=>rfl⟩
instance:PU .nilp:=⟨aa.nilp,fun _=>rfl⟩
instance:PU .nilf:=⟨aa.nilf,fun _=>rfl⟩
instance {l:List AV} [h:H3 l]:PU (.agg l):=⟨aa.agg h.pure,fun ρ => by simp only [AV.dz,h.fix]⟩
instance {l:List AV} [h:H3 l]:PU (.tup l):=⟨aa.tup h.pure,fun ρ => by simp only [AV.dz,h.fix]⟩
instance {l:List AV} {o:Nat} [h:H3 l]:PU (.ep l o):=⟨aa.ep h.pure,fun ρ => by simp only [AV.dz,h.fix]⟩
instance {f:Fn} {a c:List AV} [h:H3 a] [k:H3 c]:PU (.fn f a c):=⟨aa.fn h.pure k.pure,fun ρ => by simp only [AV.dz,h.fix,k.fix]⟩
theorem PU.slice {k:Nat} {l:List AV} (h:∀ c∈flat l,aa c) (hf:∀ c∈l,∀ ρ,c.dz ρ = c):PU (.sl k l):=⟨aa.sl h,fun ρ => by
 have e:b8 ρ l=l:=by rw [gI];exact (List.map_congr_left fun c hc=>hf c hc ρ).trans (List.map_id l)
 simp only [AV.dz,e]⟩
instance {k:Nat}:PU (.sl k []):=PU.slice (by simp [flat]) (by simp)
section
variable {P:Program} {G:Nat->Option (List AV)}
def hc {f:FuncId} {args:List AV} {r:AV} (h:VP P G f args r) [p:H3 args]:Hint P G := .vp f args r h p.pure
def hb (k:Nat) {x b:Bool} (h:x=b):Hint P G := .eq k (.bool x) (.bool b) (by rw [h])
def hw (k:Nat) {x y:Int} (h:x=y) (i:IntKind := .i64):Hint P G := .eq k (.int i x) (.int i y) (by rw [h])
def hv (k:Nat) {a b:AV} (h:a=b):Hint P G := .eq k a b h
def ho (k:Nat) {o:Option AV} {v:AV} (h:o=some v):Hint P G := .ev k (bu o) { val:=v } (by rw [h];rfl)
abbrev Ow (P:Program) (G:Nat->Option (List AV)):=Option (Ov × List (Hint P G) × bX × TS)
def Qi:bX->Bool
 | .normal=>true
 | .ret=>true
 | _=>false
def VC (rs:List ug):Ow P G->Option (List Nd × Bool × Option AV)
 | some (cs,_,e,s)=>some (cs.map (·.1),Qi e,aY rs s.to)
 | none=>none
def VD (r:AV):Ow P G->Option (List Nd × Bool × Option AV)
 | some (cs,_,_,_)=>some (cs.map (·.2),true,some r)
 | none=>some ([],true,none)
theorem Bi {e:bX} (h:Qi e=true):e = .normal∨e = .ret:=by cases e<;>simp [Qi] at h ⊢
abbrev MN (vf:aB) (args:List AV) (hs:List (Hint P G)):Ow P G:=jo true 1000 vf.body [] hs ⟨args++List.replicate (vf.nt-args.length) (.tup []),[],0⟩
theorem VP.tr {f:FuncId} {vf:aB} (h:Has P f vf) (hs:List (Hint P G)) {args:List AV} {r:AV} [hp:PU r] (hr:VC vf.results (MN vf args hs)=VD r (MN vf args hs)):VP P G f args r:=by
 obtain ⟨fn,hf,hc⟩:=h
 refine VP.Tt hf hc ?_
 cases hx:MN vf args hs with
 | none=>rw [hx] at hr;simp [VC,VD] at hr
 | some y =>
   obtain ⟨cs,eE,e,s⟩:=y
   rw [hx] at hr
   simp only [VC,VD,Option.some.injEq,Prod.mk.injEq] at hr
   refine (eg 1000 _ _ _ _ _ _ _ _ hx (ss.of_map hr.1)).mono fun e' s2 hq => ?_
   obtain ⟨rfl,rfl⟩:=hq
   exact ⟨Bi hr.2.1,r,hr.2.2,View.pure hp.pure⟩
def CP (rs:List ug) (K:List (Id × da)):Ow P G->Option (List Nd × Bool × Option AV × List (Option da))
 | some (cs,_,e,s)=>some (cs.map (·.1),Qi e,aY rs s.to,K.map fun x=>s.S.find x.1)
 | none=>none
def CQ (r:AV) (K:List (Id × da)):Ow P G->Option (List Nd × Bool × Option AV × List (Option da))
 | some (cs,_,_,_)=>some (cs.map (·.2),true,some r,K.map fun x=>some x.2)
 | none=>some ([],true,none,[])
theorem VP.trV {f:FuncId} {vf:aB} (h:Has P f vf) (hs:List (Hint P G)) (K:List (Id × da)) (r0:AV) {args:List AV} {r:AV} (hr:CP vf.results K (MN vf args hs)=CQ r0 K (MN vf args hs))
   (hv:∀ σ : af,(∀ x∈K, σ x.1=some x.2)->View σ r0 r):VP P G f args r:=by
 obtain ⟨fn,hf,hc⟩:=h
 refine VP.Tt hf hc ?_
 cases hx:MN vf args hs with
 | none=>rw [hx] at hr;simp [CP,CQ] at hr
 | some y =>
   obtain ⟨cs,eE,e,s⟩:=y
   rw [hx] at hr
   simp only [CP,CQ,Option.some.injEq,Prod.mk.injEq] at hr
   refine (eg 1000 _ _ _ _ _ _ _ _ hx (ss.of_map hr.1)).mono fun e' s2 hq => ?_
   obtain ⟨rfl,rfl⟩:=hq
   exact ⟨Bi hr.2.1,r0,hr.2.2.1,hv _ (nS hr.2.2.2)⟩
def vn (ρ : Id->Id) (K:List (Id × da)):List (Id × da):=K.map fun x=>(ρ x.1,x.2.dz ρ)
def H4 (K:List (Id × da)):cA:=K.map fun x=>(x.1,some x.2)
theorem CR:∀ {K:List (Id × da)} {i:Id} {b:da},(H4 K).to i=some b->(i,b)∈K
 | [],_,_,h=>by cases h
 | (j,c)::K,i,b,h=>by
   have h':cA.find ((j,some c)::H4 K) i=some b:=h
   simp only [cA.find] at h'
   split at h'
   . rename_i he;simp only [Option.some.injEq] at h';subst h';rw [pQ.1 he];simp
   . exact List.mem_cons_of_mem _ (CR h')
theorem oY:∀ {S:List (Id × da)} {x:Id × da},(S.map (·.1)).Nodup->x∈S->af.of S x.1=some x.2
 | [],x,_,hx=>by simp at hx
 | (j,c)::S,x,hnd,hx=>by
   simp only [List.map_cons,List.nodup_cons] at hnd
   rcases List.mem_cons.1 hx with rfl | hx
   . simp [af.of]
   . have hne:x.1≠j:=fun e=>hnd.1 (List.mem_map.2 ⟨x,hx,e⟩)
     show List.lookup _ _=_
     rw [List.lookup_cons]
     have:(x.1==j)=false:=by simpa using hne
     rw [this]
     exact oY hnd.2 hx
theorem MO {ρ : Id->Id}:∀ {K:List (Id × da)},((vn ρ K).map (·.1)).Nodup->∀ x∈K,∀ y∈K,x.1≠y.1 -> ρ x.1 ≠ ρ y.1
 | [],_,x,hx,_,_,_=>by simp at hx
 | z::K,h,x,hx,y,hy,hne=>by
   have h':((ρ z.1,z.2.dz ρ)::vn ρ K).map (·.1) |>.Nodup:=h
   simp only [List.map_cons,List.nodup_cons] at h'
   have hm:∀ w∈K, ρ w.1∈(vn ρ K).map (·.1):=fun w hw=>List.mem_map.2 ⟨(ρ w.1,w.2.dz ρ),List.mem_map.2 ⟨w,hw,rfl⟩,rfl⟩
   rcases List.mem_cons.1 hx with Hs | Hs<;>rcases List.mem_cons.1 hy with OU | OU
   . exact absurd (by rw [Hs,OU]) hne
   . subst Hs;exact fun e=>h'.1 (e▸hm y OU)
   . subst OU;exact fun e=>h'.1 (e▸hm x Hs)
   . exact MO h'.2 x Hs y OU hne
theorem VW.trR {vc:cg} {π : Id} {n:Nat} {κ : Nat->Id} {hs eE:List (Hint P G)} {cs:Ov} {t0:List AV} {S0:List (Id × da)} {e:bX} {s:TS} (hr:jo true 1000 vc [0] hs ⟨t0,H4 S0,0⟩=some (cs,eE,e,s)) (hc:ss cs) (hd:((vn (mC n π κ) S0).map (·.1)).Nodup) :
   VW P G π vc (fun e' s'=>e'=e/\s'.t=b8 (mC n π κ) s.t/\s'.n=n+s.n/\Sp (mC n π κ) s.S.to s'.σ) ⟨b8 (mC n π κ) t0,af.of (vn (mC n π κ) S0),n⟩:=by
 refine (VW.dz (κ := κ) (n:=n) (eg 1000 _ _ _ _ _ _ _ _ hr hc) (fun i b hb => ?_) fun i j hi hj hne => ?_).mono fun e' s' hq => ?_
 . exact oY hd (List.mem_map.2 ⟨(i,b),CR hb,rfl⟩)
 . obtain ⟨b,hb⟩:=Option.ne_none_iff_exists'.1 hi
   obtain ⟨c,hc⟩:=Option.ne_none_iff_exists'.1 hj
   exact MO hd _ (CR hb) _ (CR hc) hne
 . obtain ⟨s0,⟨rfl,rfl⟩,h1,h2,h3⟩:=hq
   exact ⟨rfl,h1,h2,h3⟩
def rest (WD S0:List (Id × da)):List (Id × da):=S0.filter fun x => !WD.any fun y=>ML y.1 x.1
theorem aW.tr {f:FuncId} {vf:aB} (h:Has P f vf) (κ : Nat->Id) {p:Id} (hs:List (Hint P G)) {args:List AV} {S up:List (Id × da)} {val:AV} (o9:List AV) (S0:List (Id × da)) (St:AV) (WD:List (Id × da))
   (hr:CP vf.results (WD++rest WD S0) (jo true 1000 vf.body [0] hs ⟨o9++List.replicate (vf.nt-o9.length) (.tup []),H4 S0,0⟩)=CQ St (WD++rest WD S0) (jo true 1000 vf.body [0] hs ⟨o9++List.replicate (vf.nt-o9.length) (.tup []),H4 S0,0⟩))
   (ha:b8 (mC 0 p κ) o9=args) (hS:vn (mC 0 p κ) S0=S) (hv:St.dz (mC 0 p κ)=val) (hu:vn (mC 0 p κ) WD=up) (hd:(S.map (·.1)).Nodup) (xK:(up.map (·.1)).Nodup) :
   aW P G f args p S { val,rd:=S.map (·.1),up:=up.map fun x=>(x.1,some x.2) }:=by
 subst ha;subst hS;subst hv;subst hu
 obtain ⟨fn,hf,hcf⟩:=h
 cases hx:jo true 1000 vf.body [0] hs ⟨o9++List.replicate (vf.nt-o9.length) (.tup []),H4 S0,0⟩ with
 | none=>rw [hx] at hr;simp [CP,CQ] at hr
 | some y =>
   obtain ⟨cs,eE,e,s⟩:=y
   rw [hx] at hr
   simp only [CP,CQ,Option.some.injEq,Prod.mk.injEq] at hr
   obtain ⟨hk,he,ho,hK⟩:=hr
   have hK':=nS hK
   refine aW.Zj hf hcf ?_
   have e0:b8 (mC 0 p κ) o9++List.replicate (vf.nt-(b8 (mC 0 p κ) o9).length) (.tup [])=b8 (mC 0 p κ) (o9++List.replicate (vf.nt-o9.length) (.tup [])):=by
     rw [mB,gJ]
     congr 1
     rw [gI,List.map_replicate];rfl
   rw [e0]
   refine (VW.trR (κ := κ) (n:=0) (π := p) hx (ss.of_map hk) hd).mono fun e' s' hq => ?_
   obtain ⟨rfl,h1,h2,h3⟩:=hq
   refine ⟨Bi he,_,Ss (s0:=s.to) h1 h3 ho,Fin.same rfl fun j => ?_⟩
   by_cases hj:∃ x∈(vn (mC 0 p κ) WD).map (fun x=>(x.1,some x.2)),x.1=j
   . right
     obtain ⟨x,Hs,rfl⟩:=hj
     obtain ⟨y,hy,rfl⟩:=List.mem_map.1 Hs
     obtain ⟨z,hz,rfl⟩:=List.mem_map.1 hy
     have a1:s'.σ (mC 0 p κ z.1)=some (z.2.dz (mC 0 p κ)):=h3.1 _ _ (hK' z (List.mem_append_left _ hz))
     have a2:∀ (U:List (Id × da)) (σ : af),(U.map (·.1)).Nodup->∀ w∈U, σ.app (U.map fun x=>(x.1,some x.2)) w.1=some w.2:=by
       intro U
       induction U with
       | nil=>intro σ _ w hw;simp at hw
       | cons u U ih =>
         intro σ hn w hw
         simp only [List.map_cons,List.nodup_cons] at hn
         simp only [List.map_cons,af.app]
         rcases List.mem_cons.1 hw with rfl | hw
         . rw [af.JD,af.dA]
           rintro x hx e
           obtain ⟨v,hv,rfl⟩:=List.mem_map.1 hx
           exact hn.1 (List.mem_map.2 ⟨v,hv,e⟩)
         . exact ih _ hn.2 w hw
     rw [a1]
     exact a2 _ _ xK _ (List.mem_map.2 ⟨z,hz,rfl⟩)
   . rw [af.JD _ _ _ fun x hx e=>hj ⟨x,hx,e⟩]
     cases hl:(vn (mC 0 p κ) S0).lookup j with
     | none=>exact .inl hl
     | some b =>
       right
       show List.lookup _ _=_
       rw [hl]
       obtain ⟨z,hz,ez⟩:=List.mem_map.1 (gw hl)
       simp only [Prod.mk.injEq] at ez
       obtain ⟨rfl,rfl⟩:=ez
       have hz2:z∈rest WD S0:=by
         refine List.mem_filter.2 ⟨hz, ?_⟩
         cases hb:WD.any fun y=>ML y.1 z.1 with
         | false=>rfl
         | true =>
           obtain ⟨y,hy,hyz⟩:=List.any_eq_true.1 hb
           exact absurd ⟨(mC 0 p κ y.1,some (y.2.dz (mC 0 p κ))),List.mem_map.2 ⟨_,List.mem_map.2 ⟨y,hy,rfl⟩,rfl⟩,by rw [pQ.1 hyz]⟩ hj
       exact (h3.1 _ _ (hK' z (List.mem_append_right _ hz2))).symm
theorem aW.trs {f:FuncId} {vf:aB} (h:Has P f vf) (κ : Nat->Id) {p:Id} (hs:List (Hint P G)) {args:List AV} {S:List (Id × da)} {val:AV} (o9:List AV) (S0:List (Id × da)) (St:AV)
   (hr:CP vf.results S0 (jo true 1000 vf.body [0] hs ⟨o9++List.replicate (vf.nt-o9.length) (.tup []),H4 S0,0⟩)=CQ St S0 (jo true 1000 vf.body [0] hs ⟨o9++List.replicate (vf.nt-o9.length) (.tup []),H4 S0,0⟩))
   (ha:b8 (mC 0 p κ) o9=args) (hS:vn (mC 0 p κ) S0=S) (hv:St.dz (mC 0 p κ)=val) (hd:(S.map (·.1)).Nodup) :
   aW P G f args p S { val,rd:=S.map (·.1) }:=by
 have e:([]:List (Id × da))++rest [] S0=S0:=by
   unfold rest
   rw [List.nil_append,List.filter_eq_self]
   intro x _;rfl
 exact aW.tr (up:=[]) h κ hs o9 S0 St [] (by rw [e];exact hr) ha hS hv rfl hd List.nodup_nil
def VE (K:List (Id × da)) (t1:List AV) (n1:Nat):Ow P G->Option (List Nd × bX × Bool × List AV × List (Option da))
 | some (cs,_,e,s)=>some (cs.map (·.1),e,Nat.ble s.n n1,Hh s.t t1,K.map fun x=>s.S.find x.1)
 | none=>none
def VF (e1:bX) (K:List (Id × da)) (t1:List AV):Ow P G->Option (List Nd × bX × Bool × List AV × List (Option da))
 | some (cs,_,_,_)=>some (cs.map (·.2),e1,true,t1,K.map fun x=>some x.2)
 | none=>some ([],e1,true,[],[])
theorem VG {ρ : Id->Id}:∀ {cs ds:List AV},Fg cs ds->Fg (b8 ρ cs) (b8 ρ ds)
 | [],[],_=>trivial
 | c::cs,d::ds,h=>by
   simp only [Fg] at h
   refine ⟨?_,VG h.2⟩
   rcases h.1 with rfl | rfl
   . exact .inl rfl
   . exact .inr rfl
 | [],_::_,h=>by simp [Fg] at h
 | _::_,[],h=>by simp [Fg] at h
theorem VW.tr {vc:cg} {π : Id} {n:Nat} (κ : Nat->Id) (hs:List (Hint P G)) {t t':List AV} {S K:List (Id × da)} {Q:bX->VS->Prop} (t0:List AV) (S0:List (Id × da)) (e1:bX) (t1:List AV) (K0:List (Id × da)) (n1:Nat)
   (hr:VE K0 t1 n1 (jo true 1000 vc [0] hs ⟨t0,H4 S0,0⟩)=VF e1 K0 t1 (jo true 1000 vc [0] hs ⟨t0,H4 S0,0⟩))
   (ht:b8 (mC n π κ) t0=t) (hS:vn (mC n π κ) S0=S) (zG:b8 (mC n π κ) t1=t') (hK:vn (mC n π κ) K0=K) (hd:(S.map (·.1)).Nodup) (hq:∀ s,Wk G π s ⟨t',af.of K,n+n1⟩->Q e1 s) :
   VW P G π vc Q ⟨t,af.of S,n⟩:=by
 subst ht;subst hS;subst zG;subst hK
 cases hx:jo true 1000 vc [0] hs ⟨t0,H4 S0,0⟩ with
 | none=>rw [hx] at hr;simp only [VE,VF] at hr;cases hr
 | some y =>
   obtain ⟨cs,eE,e,s⟩:=y
   rw [hx] at hr
   simp only [VE,VF,Option.some.injEq,Prod.mk.injEq] at hr
   obtain ⟨hk,rfl,hn,hm,hK⟩:=hr
   refine (VW.trR (κ := κ) (n:=n) (π := π) hx (ss.of_map hk) hd).mono fun e' s' hq' => ?_
   obtain ⟨rfl,h1,h2,h3⟩:=hq'
   refine hq s' ?_
   obtain ⟨t2, σ2,n2⟩:=s'
   simp only [] at h1 h2 h3
   subst h1;subst h2
   refine Wk.forget (VG (Hi hm)) (fun j=>af.vH (fun x hx => ?_) j) (Nat.add_le_add_left (Nat.le_of_ble_eq_true hn) _)
   obtain ⟨z,hz,rfl⟩:=List.mem_map.1 hx
   exact h3.1 _ _ (nS hK z hz)
end
end Go.VL
end

section
set_option linter.unusedVariables false
namespace Go.VL
theorem VH (ws:List Nat) (ρ : Id->Id):b8 ρ (us ws)=us ws:=by
 rw [gI];unfold us;rw [List.map_map];rfl
theorem H3.map {α : Type} {f : α -> AV} (h:∀ x,PU (f x)) (l:List α):H3 (l.map f):=⟨by intro c hc;obtain ⟨x,_,rfl⟩:=List.mem_map.1 hc;exact (h x).pure,fun ρ => by rw [gI,List.map_map];exact List.map_congr_left fun x _=>(h x).fix ρ⟩
theorem H3.cells {c:AV} (h:PU c) (hp:∀ d∈c.cells,aa d):H3 c.cells:=⟨hp,fun ρ => by rw [<- zP,h.fix]⟩
theorem PU.rows {α : Type} {f : α -> AV} {k:Nat} (h:∀ x,PU (f x)) (hp:∀ x,∀ d∈(f x).cells,aa d) (l:List α):PU (.sl k (l.map f)):=PU.slice (by
 intro c hc
 simp only [flat,List.mem_flatMap,List.mem_map] at hc
 obtain ⟨_,⟨x,_,rfl⟩,hc⟩:=hc
 exact hp x c hc) (by intro c hc ρ;obtain ⟨x,_,rfl⟩:=List.mem_map.1 hc;exact (h x).fix ρ)
instance {ws:List Nat}:PU (.sl 1 (us ws)):=⟨Ci ws,fun ρ => by show AV.sl 1 (b8 ρ (us ws))=_;rw [VH]⟩
instance {i:IntKind} {n:Int}:PU (.sl 1 [.int i n]):=PU.slice (by intro c hc;simp [flat,AV.cells] at hc;subst hc;exact aa.int _ _) (by intro c hc ρ;simp at hc;subst hc;rfl)
instance {n:Nat}:PU (W n):=⟨ay n,fun ρ => by show AV.sl 1 (b8 ρ (us (digits n)))=_;rw [VH];rfl⟩
instance {z:Int}:PU (IV z):=by unfold IV;infer_instance
instance {q:Rat}:PU (QV q):=by unfold QV RV;infer_instance
instance {q:Rat}:PU (EV q):=PU.slice (by intro c hc;simp only [flat,List.flatMap_cons,List.flatMap_nil,List.append_nil] at hc;exact Cy q c hc) (by intro c hc ρ;simp at hc;subst hc;exact PU.fix ρ)
instance {q:Rat}:PU (NV q):=by unfold NV;infer_instance
instance {v:Q2}:PU (V2 v):=by unfold V2;infer_instance
instance {x:CX}:PU x.av:=by unfold CX.av CX.cells;infer_instance
instance {x:NX}:PU x.av:=by unfold NX.av CX.cells;infer_instance
instance {x:DX}:PU x.av:=by unfold DX.av;infer_instance
instance {l:List NX}:PU (dP l):=PU.rows (fun x=>inferInstance) CH l
instance {l:List CX}:PU (My l):=PU.rows (fun x=>inferInstance) Ha l
instance {l:List DX}:PU (Ft l):=PU.rows (fun x=>inferInstance) (fun x d hd=>by
 simp only [DX.av,AV.cells,List.mem_cons,List.not_mem_nil,or_false] at hd
 rcases hd with rfl | rfl | rfl | rfl | rfl | rfl | rfl | rfl<;>first | exact aa.bool _ | exact aa.int _ _) l
instance {l:List (List UInt8)}:PU (strs l):=PU.rows (f:=AV.str) (fun x=>inferInstance) (fun x d hd=>by simp only [AV.cells,List.mem_singleton] at hd;subst hd;exact aa.str x) l
theorem nT {ρ : Id->Id} {c:AV} {l:List AV}:b8 ρ (c::l)=c.dz ρ :: b8 ρ l:=rfl
theorem rV {ρ : Id->Id}:b8 ρ []=[]:=rfl
theorem CS {ρ : Id->Id} {n:Nat}:b8 ρ (List.replicate n .top)=List.replicate n .top:=by rw [gI,List.map_replicate];rfl
theorem PU.fixed {c:AV} [h:PU c] {ρ : Id->Id}:c.dz ρ = c:=h.fix ρ
theorem Qj {ρ : Id->Id} {i:Id} {e o:Nat}:AV.dz ρ (.ref i e o) = .ref (ρ i) e o:=rfl
theorem Qk {ρ : Id->Id} {i:Id} {k o l:Nat} {t:Bool}:AV.dz ρ (.osl i k o l t) = .osl (ρ i) k o l t:=rfl
theorem Fw {ρ : Id->Id}:AV.dz ρ .top = .top:=rfl
theorem eQ {ρ : Id->Id} {l:List AV} {k:Nat} {b:Bool}:da.dz ρ ⟨l,k,b⟩=⟨b8 ρ l,k,b⟩:=rfl
theorem cO {ρ : Id->Id} {x:Id × da} {K:List (Id × da)}:vn ρ (x::K)=(ρ x.1,x.2.dz ρ)::vn ρ K:=rfl
theorem dO {ρ : Id->Id}:vn ρ []=[]:=rfl
theorem fE {ρ : Id->Id} {l:List NX}:b8 ρ (l.map NX.av)=l.map NX.av:=(H3.map (fun x=>inferInstance) l).fix ρ
theorem abM {ρ : Id->Id}:eB.dz ρ = eB:=rfl
section
variable {P:Program} {G:Nat->Option (List AV)}
def lF {f:FuncId} {args lG:List AV} {r:AV} (S:List (Id × da)) (h:VP P G f lG r) (hv:aF (af.of S) args lG):Hint P G := .rel f args S (fun _=>{ val:=r,rd:=S.map (·.1),up:=Di S }) (fun p _=>aW.JG h hv) (fun p x hx=>List.mem_map.2 ⟨x,hx,rfl⟩)
def dC {f:FuncId} {args:List AV} {r:AV} (id:Id) (h:cX P G f args r):Hint P G := .rel f (.ref id 0 0::args) [(id,eB)] (fun _=>{ val:=r,rd:=[id] }) (fun p hp=>h p id (hp (id,eB) (by simp))) (fun p x hx=>by simp at hx;subst hx;simp)
theorem cX.tr {f:FuncId} {vf:aB} (h:Has P f vf) (hs:List (Hint P G)) {args:List AV} {r:AV} [ha:H3 args] [hr:PU r]
   (hx:CP vf.results [([1],eB)] (jo true 1000 vf.body [0] hs ⟨(.ref [1] 0 0::args)++List.replicate (vf.nt-(AV.ref [1] 0 0::args).length) (.tup []),H4 [([1],eB)],0⟩)=CQ r [([1],eB)] (jo true 1000 vf.body [0] hs ⟨(.ref [1] 0 0::args)++List.replicate (vf.nt-(AV.ref [1] 0 0::args).length) (.tup []),H4 [([1],eB)],0⟩)):cX P G f args r:=fun p id jS =>
 aW.trs h (fun _=>id) hs (.ref [1] 0 0::args) [([1],eB)] r hx (by rw [nT,ha.fix];rfl) rfl (hr.fix _) (by simp)
end
end Go.VL
end

section
set_option maxRecDepth 100000
namespace Go.VL
abbrev abN (tD eM bD ru mW pC:Nat):cg:=(.seq (cS [oM 46 18,oM 47 5,oT 48 .leq 46 47] (.cond (.t 48) .skip (.exit 0))) (.seq (.block 1 (.seq (.reg (some [(0,3),(0,5),(0,7),(1,7),(2,7),(3,7),(5,7),(6,7)]) [oL 51 1 16,aQ 52 4 9,aQ 53 4 10,bo 54 tD 52 53,oM 55 18,oC 56 eM 55,⟨some 57,.call (.f bD) [(.t 51),(.t 54),(.t 56)],none⟩,⟨some 19,.box (.c (.agg [.nils,.nils,.nils,.nils])),none⟩,oS 4 19 57]) (cR [oM 58 17,oM 59 0,⟨some 60,.bin .add .str (.t 59) (.c (.str [47])),none⟩,oM 61 18,oC 62 ru 61,⟨some 63,.bin .add .str (.t 60) (.t 62),none⟩,oM 64 2,oM 65 14,⟨some 66,.mkfn (.func mW) [] [(.t 16),(.t 19)],none⟩,⟨some 67,.call (.f pC) [(.t 63),(.t 64),(.t 65),(.t 66),(.c (.bool false))],none⟩,zF 68 15 320 58 67,oM 17 68]))) (cR [oM 49 18,bp 50 .add 49 1,oM 18 50])))
end Go.VL
end

section
set_option linter.unusedSimpArgs false
set_option linter.unusedVariables false
set_option maxRecDepth 100000
namespace Go.VL
open Go.Lib
theorem Su (x:CX) (w:Q2):x.img (fun a=>gm a w) false=x.shift w:=by
 unfold CX.img CX.shift
 cases x.G9<;>cases x.cw<;>rfl
theorem Hl {m:List NX}:List.take m.length (m.map NX.av)=m.map NX.av:=List.take_of_length_le (by simp)
theorem Yw {σ : af} {p id:Id} {m:List NX} (h : σ id=some ⟨m.map NX.av,15,false⟩) (h0:m≠[]) (hl:m.length<=1000000):eh σ p 15 320 .nils (.osl id 15 0 m.length false)=some { val := .osl p 15 0 m.length false,rd:=[id],up:=[(p,some ⟨m.map NX.av,15,false⟩)] }:=by
 have:=Ch (σ := σ) (p:=p) (k:=15) (bytes:=320) (x := .osl id 15 0 m.length false) (ys:=m.map NX.av) (rd:=[id]) (by rw [jW h rfl (by simp),List.drop_zero,Hl]) (by simpa using h0) (by simp;omega) (eN (by simp;omega)) (mK kC m)
 simpa using this
theorem Yx {σ : af} {p id D9:Id} {l m:List NX} (h : σ id=some ⟨m.map NX.av,15,false⟩) (h2 : σ D9=some ⟨l.map NX.av,15,false⟩) (h0:m≠[]) (hl:l.length+m.length<=1000000):eh σ p 15 320 (.osl D9 15 0 l.length false) (.osl id 15 0 m.length false)=some { val := .osl p 15 0 (l++m).length false,rd:=[D9,id],up:=[(D9,none),(p,some ⟨(l++m).map NX.av,15,false⟩)] }:=by
 have:=oJ (σ := σ) (p:=p) (id:=D9) (k:=15) (bytes:=320) (len:=l.length) (x := .osl id 15 0 m.length false) (els:=l.map NX.av) (ys:=m.map NX.av) (rd:=[id]) (by rw [jW h rfl (by simp),List.drop_zero,Hl]) (by simpa using h0) h2 (by simp) (by simp;omega) (eN (by simp;omega)) (mK kC m) (mK kC l)
 simpa using this
theorem Hm {q:Id} {l:List NX} (h:l≠[]):OL q 15 (l.map NX.av) = .osl q 15 0 l.length false:=by rw [Ey (by simpa using h)];simp
def BL (q:Id) (l:List NX):List (Id × da):=if l=[] then [] else [(q,⟨l.map NX.av,15,false⟩)]
theorem CT {q:Id} {l:List NX} (h:l≠[]):BL q l=[(q,⟨l.map NX.av,15,false⟩)]:=if_neg h
section
variable {P:Program} {G:Nat->Option (List AV)} {Q:bX->VS->Prop}
theorem Sv {f1 fm fa:FuncId} (h1:Has P f1 (fx fa)) (hm:Has P fm ij) (hA:CJ P G fa) (nm:List UInt8) (l:List NX) (ins:List (List UInt8)) (v:Q2) (hv:nd 1000 v) (c:Nat) (hc:c<=50) (qU:nm.length<=1000) (hl:∀ z∈l,NOk 2000 z) (yc:ins.length<=10) (iI:∀ s∈ins, ¬ dY l s<0)
   (p:Id) (hp:∀ x∈Ht [4] [10,0] [3] (fS v (((c+1:Nat):Int):Rat)), ¬ p <:+ x.1) :
   aW P G fm [.str (nm++[47]++decDigits (c+1)),strs ins,My (ins.map (eD l)), .fn (.func f1) [] [.ref [4] 0 0, .ref [10,0] 0 0], .bool false] p (Ht [4] [10,0] [3] (fS v (((c+1:Nat):Int):Rat)))
     { val := .osl (3::p) 15 0 (ins.map (sT nm l v (c+1))).length false,rd:=[[4],[10,0],[3]],up:=[(3::p,some ⟨(ins.map (sT nm l v (c+1))).map NX.av,15,false⟩)] }:=by
 have sw:Sm 1 (((c+1:Nat):Int):Rat):=He (by omega)
 have Rc:nd 1001 (fS v (((c+1:Nat):Int):Rat)):=hv.scale sw
 have hdl:=D3 (i:=c+1) (by omega)
 have hI:=Kp (P:=P) (G:=G) (f:=f1) (fa:=fa) (way:=fS v (((c+1:Nat):Int):Rat)) (c:=[4]) (w:=[10,0]) (k:=[3]) (by decide) (by decide) (by decide) h1 (fun a sa=>hA a _ sa (Rc.mono (by omega)))
 have key:=Sn (P:=P) (G:=G) hm (nm++[47]++decDigits (c+1)) ins (eD l) false hI (by
     intro x hx
     simp only [Ht,List.mem_cons,List.not_mem_nil,or_false] at hx
     rcases hx with rfl | rfl | rfl
     . exact abF
     . exact Yt (by decide)
     . exact Yu (by decide) (by decide)) (fun s hs=>by
     obtain ⟨k,z,_,hz,_,Z1⟩:=zu (iI s hs)
     have:=(hl z (List.mem_of_getElem? hz)).2
     rw [Z1]
     exact ⟨this.1.mono (by omega),this.2.1.mono (by omega),this.2.2.mono (by omega)⟩) (by omega) (by simp;omega) (fun s hs=>by
     obtain ⟨k,z,_,hz,hzn,_⟩:=zu (iI s hs)
     have:=(hl z (List.mem_of_getElem? hz)).1
     rw [hzn] at this;omega) p hp (fun s=>NX.av (sT nm l v (c+1) s)) (fun s=>by unfold sT;rw [Su])
 have e:(ins.map (sT nm l v (c+1))).map NX.av=ins.map fun s=>NX.av (sT nm l v (c+1) s):=by rw [List.map_map];rfl
 rw [e,List.length_map]
 exact key
def VI (nm:List UInt8) (l:List NX) (ins:List (List UInt8)) (N c:Nat) (i0 i1 i4:Id) (o:AV):List AV:=[.str nm,dP l,strs ins, .top, .top, .int .i64 (N:Int)]++List.replicate 3 .top++[.ref i0 0 0, .ref i1 0 0]++List.replicate 3 .top++[My (ins.map (eD l)), .top, .ref i4 0 0,o, .int .i64 ((c+1:Nat):Int)]++List.replicate 64 .top
def Nf (v:Q2) (i0 i1 i3 i4:Id) (B:List (Id × da)):List (Id × da):=(i0,⟨[QV v.1],4,false⟩)::(i1,⟨[QV v.2],4,false⟩)::(i3,eB)::(i4,⟨[.ref i3 0 0],1,false⟩)::B
theorem zR {ρ : Id->Id} {nm:List UInt8} {l:List NX} {ins:List (List UInt8)} {N c:Nat} {i0 i1 i4:Id} {o:AV}:b8 ρ (VI nm l ins N c i0 i1 i4 o)=VI nm l ins N c (ρ i0) (ρ i1) (ρ i4) (o.dz ρ):=by
 unfold VI
 simp only [mB,nT,rV,CS,PU.fixed,Qj,Fw]
theorem zS {ρ : Id->Id} {v:Q2} {i0 i1 i3 i4:Id} {B:List (Id × da)}:vn ρ (Nf v i0 i1 i3 i4 B)=Nf v (ρ i0) (ρ i1) (ρ i3) (ρ i4) (vn ρ B):=by
 unfold Nf
 simp only [cO,eQ,nT,rV,PU.fixed,Qj,abM]
def fpK (q:Id):Nat->Id
 | 1=>[0]
 | 2=>[1]
 | 3=>[30]
 | 4=>[31]
 | _=>q
def fpE (l L:List NX):List AV:=[.top,dP l]++List.replicate 14 .top++[.ref [31] 0 0,dP L]++List.replicate 65 .top
theorem Sw {fmk fn fc fd f1 fm fa:FuncId} (nm:List UInt8) (l:List NX) (ins:List (List UInt8)) (N:Nat) (v:Q2) (hN0:N<=50) (hN1:0<N) (hv:nd 1000 v) (hM:VP P G fmk [QV v.1,QV v.2] (V2 v)) (hN:∀ i:Nat,i<=1000->VP P G fn [.int .i64 (i:Int)] (NV (((i:Nat):Int):Rat))) (hC:xp P G fc)
   (hD:∀ n:Nat,n<100->VP P G fd [.int .i64 (n:Int)] (.str (decDigits n))) (h1:Has P f1 (fx fa)) (hm:Has P fm ij) (hA:CJ P G fa) (iI:∀ s∈ins, ¬ dY l s<0) (qU:nm.length<=1000) (hl:∀ z∈l,NOk 2000 z) (yc:ins.length<=10) (O0:ins≠[]) :
   VW P G [] (.loop (abN fmk fn fc fd f1 fm)) (fun e s=>e = .exit 0/\Wk G [] s ⟨fpE l (bH nm l v ins N),cA.to (H4 [([30],eB),([31],⟨[.ref [30] 0 0],1,false⟩)]),10000⟩) ⟨VI nm l ins N 0 [0] [1] [31] .nils,af.of (Nf v [0] [1] [30] [31] []),1000⟩:=by
 have hne:∀ c,0<c->bH nm l v ins c≠[]:=by
   intro c hc
   cases c with
   | zero=>omega
   | succ k=>simp [bH,O0]
 refine VW.L3 (α := Nat × Nat) (fun z=>⟨VI nm l ins N z.1 [0] [1] [31] (OL [z.2] 15 ((bH nm l v ins z.1).map NX.av)),af.of (Nf v [0] [1] [30] [31] (BL [z.2] (bH nm l v ins z.1))),1000+27*z.1⟩)
   (fun z=>z.1<=N/\999<=z.2/\z.2<1000+27*z.1) (fun z=>N-z.1) (0,999) (Wk.refl _ _ _) ⟨Nat.zero_le _,by decide,by decide⟩ ?_
 rintro ⟨c,q⟩ ⟨hcN,Kw,hq⟩
 simp only [] at hcN Kw hq ⊢
 generalize Jw:1000+27*c=m at *
 have hd:∀ L:List NX,((Nf v [0] [1] [30] [31] (BL [q] L)).map (·.1)).Nodup:=by
   intro L
   have a0 : ¬ 0=q:=by omega
   have a1 : ¬ 1=q:=by omega
   have a2 : ¬ 30=q:=by omega
   have a3 : ¬ 31=q:=by omega
   unfold Nf BL
   split<;>simp [a0,a1,a2,a3]
 by_cases hlt:c<N
 . have d4:decide (((c+1:Nat):Int)<=(N:Int))=true:=aw (by omega)
   have n1:=hN (c+1) (by omega)
   have sw:Sm 1 (((c+1:Nat):Int):Rat):=He (by omega)
   have s1:=hC v (((c+1:Nat):Int):Rat) (hv.mono (by omega)) (sw.mono (by omega))
   have hD1:=hD (c+1) (by omega)
   have Vn:(bH nm l v ins c).length<=500:=by rw [p7];exact Nat.le_trans (Nat.mul_le_mul (by omega:c<=50) yc) (by decide)
   have Yn:=aI (c+1) (by omega)
   have hdl:=D3 (i:=c+1) (by omega)
   have c1:=jt (a:=nm) (b:=[47]) (by simp;omega)
   have c2:=jt (a:=nm++[47]) (b:=decDigits (c+1)) (by simp;omega)
   have aaD:=Sv (P:=P) (G:=G) h1 hm hA nm l ins v hv c (by omega) qU hl yc iI
   have hM0:ins.map (sT nm l v (c+1))≠[]:=by simpa using O0
   have hMl:(ins.map (sT nm l v (c+1))).length<=1000:=by simp;omega
   have Ii:bH nm l v ins (c+1)=bH nm l v ins c++ins.map (sT nm l v (c+1)):=rfl
   have hP1:c+1<=N/\999<=m+22/\m+22<1000+27*(c+1):=by omega
   have Yy:m+27=1000+27*(c+1):=by omega
   generalize hMd:ins.map (sT nm l v (c+1))=M at *
   generalize hLd:bH nm l v ins c=L at *
   let Zi:Hint P G := .rel fm _ _ _ aaD (by intro p x hx;simp only [Ht,List.mem_cons,List.not_mem_nil,or_false] at hx;rcases hx with rfl | rfl | rfl<;>simp)
   by_cases Be:L=[]
   . subst Be
     simp only [List.nil_append] at Ii
     have a1:∀ (σ : af) (p:Id),(∀ x∈[([3,21,0],(⟨M.map NX.av,15,false⟩:da))], σ x.1=some x.2)->bU σ p (.append 15 320 .nils (.osl [3,21,0] 15 0 M.length false))=some { val := .osl p 15 0 M.length false,rd:=[[3,21,0]],up:=[(p,some ⟨M.map NX.av,15,false⟩)] } :=
       fun σ p hσ => Yw (hσ ([3,21,0],⟨M.map NX.av,15,false⟩) (by simp)) hM0 (by omega)
     refine VW.tr (π := []) (n:=m) (fpK [q]) [hb 48 d4,hc hM,hc n1,dC [3] s1,ho 60 c1,hc hD1,ho 63 c2,Zi, .st 68 _ _ _ a1,hw 50 Yn]
       (VI nm l ins N c [1] [2] [4] .nils) (Nf v [1] [2] [3] [4] []) .normal (VI nm l ins N (c+1) [1] [2] [4] (.osl [22,0] 15 0 M.length false)) (Nf v [1] [2] [3] [4] [([22,0],⟨M.map NX.av,15,false⟩)]) 27 (by kernel_rfl)
       zR (zS.trans rfl) zR (zS.trans (by simp only [cO,dO,eQ,fE];rfl)) (hd []) fun s hw => ?_
     exact ⟨(c+1,m+22),hP1,by simp only [];omega,by simp only [Ii,Hm hM0,CT hM0, <- Yy];exact hw⟩
   . have aeD:L++M≠[]:=by simp [Be]
     rw [Hm Be,CT Be]
     have qS:=hd L
     rw [CT Be] at qS
     have a1:∀ (σ : af) (p:Id),(∀ x∈[([3,21,0],(⟨M.map NX.av,15,false⟩:da)),([5],⟨L.map NX.av,15,false⟩)], σ x.1=some x.2)->bU σ p (.append 15 320 (.osl [5] 15 0 L.length false) (.osl [3,21,0] 15 0 M.length false))=some { val := .osl p 15 0 (L++M).length false,rd:=[[5],[3,21,0]],up:=[([5],none),(p,some ⟨(L++M).map NX.av,15,false⟩)] } :=
       fun σ p hσ => Yx (hσ ([3,21,0],⟨M.map NX.av,15,false⟩) (by simp)) (hσ ([5],⟨L.map NX.av,15,false⟩) (by simp)) hM0 (by omega)
     refine VW.tr (π := []) (n:=m) (fpK [q]) [hb 48 d4,hc hM,hc n1,dC [3] s1,ho 60 c1,hc hD1,ho 63 c2,Zi, .st 68 _ _ _ a1,hw 50 Yn]
       (VI nm l ins N c [1] [2] [4] (.osl [5] 15 0 L.length false)) (Nf v [1] [2] [3] [4] [([5],⟨L.map NX.av,15,false⟩)]) .normal (VI nm l ins N (c+1) [1] [2] [4] (.osl [22,0] 15 0 (L++M).length false)) (Nf v [1] [2] [3] [4] [([22,0],⟨(L++M).map NX.av,15,false⟩)]) 27 (by kernel_rfl)
       zR (zS.trans (by simp only [cO,dO,eQ,fE];rfl)) zR (zS.trans (by simp only [cO,dO,eQ,fE];rfl)) qS fun s hw => ?_
     exact ⟨(c+1,m+22),hP1,by simp only [];omega,by simp only [Ii,Hm aeD,CT aeD, <- Yy];exact hw⟩
 . have hcc:c=N:=by omega
   subst hcc
   have d4:decide (((c+1:Nat):Int)<=(c:Int))=false:=ar (by omega)
   have Be:=hne c hN1
   have VJ:m+3<=10000:=by omega
   generalize bH nm l v ins c=L at *
   rw [Hm Be,CT Be]
   have qS:=hd L
   rw [CT Be] at qS
   refine VW.tr (π := []) (n:=m) (fpK [q]) [hb 48 d4] (VI nm l ins c c [1] [2] [4] (.osl [5] 15 0 L.length false)) (Nf v [1] [2] [3] [4] [([5],⟨L.map NX.av,15,false⟩)]) (.exit 0)
     (VI nm l ins c c [1] [2] [4] (.osl [5] 15 0 L.length false)) (Nf v [1] [2] [3] [4] [([5],⟨L.map NX.av,15,false⟩)]) 3 (by kernel_rfl)
     zR (zS.trans (by simp only [cO,dO,eQ,fE];rfl)) zR (zS.trans (by simp only [cO,dO,eQ,fE];rfl)) qS fun s hw=>⟨rfl,hw.trans ?_⟩
   have a0:([0]:Id)≠[q]:=by simp;omega
   have a1:([1]:Id)≠[q]:=by simp;omega
   have a2:([30]:Id)≠[q]:=by simp;omega
   have a3:([31]:Id)≠[q]:=by simp;omega
   have hq1:af.of (Nf v [0] [1] [30] [31] [([q],(⟨L.map NX.av,15,false⟩:da))]) [q]=some ⟨L.map NX.av,15,false⟩:=oY qS (x:=([q],⟨L.map NX.av,15,false⟩)) (by simp [Nf])
   refine Wk.freeze [([q],⟨L.map NX.av,15,false⟩)] (by intro x hx;rw [List.mem_singleton.1 hx];exact hq1) ?_ (fun i => ?_) VJ
   . have hv:=Fu (σ := af.of [([q],(⟨L.map NX.av,15,false⟩:da))]) (id:=[q]) (l:=L) (b:=false) (t:=false) (by simp [af.of])
     repeat (first | exact trivial | refine And.intro (Or.inl rfl) ?_ | refine And.intro (Or.inr (Or.inl rfl)) ?_ | refine And.intro (Or.inr (Or.inr hv)) ?_)
   . have e:∀ i:Id,(i=[30]∨i=[31])->cA.to (H4 [([30],eB),([31],⟨[.ref [30] 0 0],1,false⟩)]) i=(af.of (Nf v [0] [1] [30] [31] [([q],(⟨L.map NX.av,15,false⟩:da))])).app (Di [([q],⟨L.map NX.av,15,false⟩)]) i:=by
       rintro i (rfl | rfl)
       . show _=af.put _ _ _ _;rw [di a2];rfl
       . show _=af.put _ _ _ _;rw [di a3];rfl
     by_cases h30:i=[30]
     . exact .inr (e i (.inl h30))
     by_cases h31:i=[31]
     . exact .inr (e i (.inr h31))
     . left
       show cA.find _ _=none
       have b1:ML i [30]=false:=by cases h:ML i [30] with | false=>rfl | true=>exact absurd (pQ.1 h) h30
       have b2:ML i [31]=false:=by cases h:ML i [31] with | false=>rfl | true=>exact absurd (pQ.1 h) h31
       simp only [H4,List.map_cons,List.map_nil,cA.find,b1,b2]
end
end Go.VL
end
