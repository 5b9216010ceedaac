/- For the claim of FeatureFillet: parts TY2, TIN, TS7, TS8, TS9, TSA, TSB, TSD, TSE, TSF, TSG, VL35, OX, OXF, VL30. -/
import Derived.Test.YtndoagbiakehnaaGreatC11
import Derived.Test.YtndoagbiakehnaaGreatC09
import Derived.Test.YtndoagbiakehnaaGreatC10
import Derived.Test.YtndoagbiakehnaaGreatC06
import Derived.Deep.Slices
import Derived.Test.YtndoagbiakehnaaGreatProg
import Derived.Test.YtndoagbiakehnaaGreatC07
import Derived.Lib.IndexMore
import Derived.Test.YtndoagbiakehnaaGreatC04
import Derived.KernelRfl
import Derived.OpenShut
import Derived.ProofKit
import Derived.Test.YtndoagbiakehnaaGreatC03
set_option linter.unusedSimpArgs false
set_option linter.unusedVariables false
section
set_option maxRecDepth 100000
namespace Go.Proofs.YtndoagbiakehnaaGreat
open Go.VL Go.Proofs Go.Lib
theorem nr {σ : ae} {id:VL.Id} {l:List NY} {b t:Bool} (h : σ id=some ⟨l.map NY.av,15,b⟩):View σ (.osl id 15 0 l.length t) (iw l):=by
 have e:(l.map NY.av).length=l.length:=List.length_map ..
 rw [<- e]
 exact View.osl (bk:=⟨l.map NY.av,15,b⟩) h rfl (by simp) (by rw [List.drop_zero,List.take_length];exact ah.pure (RU l)) (by simp) (by intro a ha;obtain ⟨y,_,rfl⟩:=List.mem_map.1 ha;rfl)
theorem Lh {σ : ae} {p id:VL.Id} {A:List AV} {ys:List NY} {k:Nat} (h : σ id=some ⟨A++List.replicate (ys.length+k) zN,15,false⟩) (h0:ys≠[]) (hl:A.length+ys.length<=1000) :
   dR σ p 15 320 (.osl id 15 0 A.length false) (iw ys)=some { val := .osl id 15 0 (A.length+ys.length) false,rd:=[id],up:=[(id,some ⟨A++ys.map NY.av++List.replicate k zN,15,false⟩)] }:=by
 have hy:0<ys.length:=List.length_pos_iff.2 h0
 have e1:(ys.map NY.av).isEmpty=false:=by simpa using h0
 have hmx:A.length+ys.length<=maxLen:=fQ (by omega)
 simp only [dR,gj,e1,h,List.length_map]
 rw [if_neg (by decide),if_pos ⟨trivial,trivial,trivial,by simp,by omega,hmx,pS D7 ys⟩,if_neg (by decide),if_neg (fun hh=>by have:=hh.1;rw [List.length_append,List.length_replicate] at this;omega),if_pos ⟨by simp,trivial⟩]
 simp [List.drop_append]
theorem yq {σ : ae} {p:VL.Id} {l:List NY} (h0:l≠[]) (hl:l.length<=1000000):dR σ p 15 320 (.tsl 15 []) (iw l)=some { val := .osl p 15 0 l.length false,up:=[(p,some ⟨l.map NY.av,15,false⟩)] }:=by
 rw [mW (es:=[]) (ys:=l.map NY.av) gj (by simpa using h0) (by simp;omega) (fQ (by simp;omega)) (by simpa using pS D7 l)]
 simp
theorem UG {σ : ae} {p id:VL.Id} {l m:List NY} (h : σ id=some ⟨l.map NY.av,15,false⟩) (h0:m≠[]) (hl:l.length+m.length<=1000000):dR σ p 15 320 (.osl id 15 0 l.length false) (iw m)=some { val := .osl p 15 0 (l++m).length false,rd:=[id],up:=[(id,none),(p,some ⟨(l++m).map NY.av,15,false⟩)] }:=by
 have:=px (σ := σ) (p:=p) (id:=id) (k:=15) (bytes:=320) (len:=l.length) (x:=iw m) (els:=l.map NY.av) (ys:=m.map NY.av) (rd:=[]) gj (by simpa using h0) h (by simp) (by simp;omega) (fQ (by simp;omega)) (pS D7 m) (pS D7 l)
 simpa using this
theorem Nl {l m:List NY} (h:lA l m=0):l.length+m.length<=200:=by
 unfold lA at h
 split at h
 . cases h
 . omega
instance {a b:List NY}:PU (.sl 1 [iw a,iw b]):=PU.slice (by intro c hc;simp only [flat,List.flatMap_cons,List.flatMap_nil,List.append_nil,AV.cells,List.mem_append,List.mem_singleton] at hc;rcases hc with rfl | rfl<;>exact PU.pure) (by intro c hc ρ;simp at hc;rcases hc with rfl | rfl;exact PU.fix ρ;exact PU.fix ρ)
abbrev D9:bJ:=(.seq (cS [oM 13 5,oM 14 1,oN 15 14,oT 16 .lss 13 15] (.cond (.t 16) .skip (.exit 0))) (.seq (.block 1 (cS [oM 19 1,oM 20 5,oA 21 15 19 20,oF 22 0 21,oL 23 1 22,⟨some 24,.len true (.t 23),none⟩,dr 25 .gtr 24 200] (.cond (.t 25) (cS [oI 4 3] .ret) .skip))) (cR [oM 17 5,dr 18 .add 17 1,oM 5 18])))
abbrev Ea (ff:Nat):bJ:=(.seq (cS [oM 26 6,oM 27 1,oN 28 27,oT 29 .lss 26 28] (.cond (.t 29) .skip (.exit 2))) (.seq (.block 3 (cS [oM 32 0,oM 33 1,oM 34 6,oA 35 15 33 34,oF 36 0 35,oL 37 1 36,lB 38 ff 32 37,dr 39 .geq 38 0] (.cond (.t 39) (cS [oI 4 5] .ret) .skip))) (cR [oM 30 6,dr 31 .add 30 1,oM 6 31])))
def wO (l m:List NY) (r i j:AV):List AV:=[iw l,iw m, .top, .top,r,i,j]++List.replicate 33 .top
theorem jF {ρ : VL.Id->VL.Id} {l m:List NY} {r i j:AV} (hr:r.cG ρ = r:=by rfl) (hi:i.cG ρ = i:=by rfl) (hj:j.cG ρ = j:=by rfl):bK ρ (wO l m r i j)=wO l m r i j:=by
 unfold wO
 simp only [cW,aT,bn,eI,PU.fixed,je,hr,hi,hj]
abbrev Z5 (fe:Nat):bJ:=(.seq (cS [oM 11 5,oM 12 0,oN 13 12,oT 14 .lss 11 13] (.cond (.t 14) .skip (.exit 0))) (.seq (.block 1 (.seq (.reg (some []) [oM 17 0,oM 18 5,oA 19 15 17 18,oF 20 0 19,oL 21 1 20,oM 22 1,oM 23 5,oA 24 15 22 23,oF 25 0 24,oL 26 1 25,⟨some 27,.bin .neq .str (.t 21) (.t 26),none⟩,oM 28 27,gM 29 0 28 false,gM 30 5 28 false,⟨some 31,.iaddrS 15 (.t 29) (.t 30),some (28,false)⟩,gF 32 1 31 28 false,OW 33 14 32 28 false,gM 34 1 28 false,gM 35 5 28 false,⟨some 36,.iaddrS 15 (.t 34) (.t 35),some (28,false)⟩,gF 37 1 36 28 false,OW 38 14 37 28 false,⟨some 39,.call (.f fe) [(.t 33),(.t 38)],some (28,false)⟩,⟨some 40,.un .not (.t 39),some (28,false)⟩,JZ 41 28 40]) (.cond (.t 41) (cS [oB 4 false] .ret) .skip))) (cR [oM 15 5,dr 16 .add 15 1,oM 5 16])))
def Z6 (l:List NY) (i:Nat):List AV:=[iw l,iw l, .top, .top, .top, .int .i64 (i:Int)]++List.replicate 36 .top
theorem Eb {ρ : VL.Id->VL.Id} {l:List NY} {i:Nat}:bK ρ (Z6 l i)=Z6 l i:=by
 unfold Z6
 simp only [cW,aT,bn,eI,PU.fixed,je]
abbrev Z7 (fv fV:Nat):bJ:=(.seq (cS [oM 5 3,oM 6 0,oN 7 6,oT 8 .lss 5 7] (.cond (.t 8) .skip (.exit 0))) (.seq (.block 1 (cS [oM 11 0,oM 12 3,oA 13 15 11 12,oF 14 1 13,xh 15 14 14,⟨some 4,.box (.c (.agg [(.bool false),.nils,.nils,.nils,.nils,.nils,.nils,.nils,.nils,.nils,.nils,.nils,.nils,(.bool false)])),none⟩,oS 14 4 15] (cS [oF 16 1 4,xh 17 4 16,oC 18 fv 17,oNo 19 18,oM 20 19,gF 21 5 4 20 false,OW 22 4 21 20 false,⟨some 23,.call (.f fv) [.t 22],some (20,false)⟩,⟨some 24,.un .not (.t 23),some (20,false)⟩,JZ 25 20 24,oM 26 25,gF 27 0 4 26 false,gL 28 1 27 26 false,gM 29 28 26 false,gF 30 9 4 29 true,OW 31 4 30 29 true,⟨some 32,.call (.f fv) [.t 31],some (29,true)⟩,⟨some 33,.un .not (.t 32),some (29,true)⟩,⟨some 34,.pick (.t 29) (.t 33) (.c (.bool false)),some (26,false)⟩,JZ 35 26 34,oM 36 35,OW 37 14 4 36 false,⟨some 38,.call (.f fV) [.t 37],some (36,false)⟩,⟨some 39,.un .not (.t 38),some (36,false)⟩,JZ 40 36 39] (.cond (.t 40) (cS [oB 2 false] .ret) .skip)))) (cR [oM 9 3,dr 10 .add 9 1,oM 3 10])))
def UH (l:List NY) (i:Nat):List AV:=[iw l, .top, .top, .int .i64 (i:Int)]++List.replicate 37 .top
theorem vH {ρ : VL.Id->VL.Id} {l:List NY} {i:Nat}:bK ρ (UH l i)=UH l i:=by
 unfold UH
 simp only [cW,aT,bn,eI,PU.fixed,je]
section
variable (G:Nat->Option (List AV))
theorem UI (l more:List NY) (hl:l≠[]) (hm:more≠[]) (hlen:l.length+more.length<=200):VP Tryz.prog G 94 [.sl 1 [iw l,iw more]] (iw (l++more)):=by
 have l0:0<l.length:=List.length_pos_iff.2 hl
 have w1:IntKind.i64.wrap ((0:Int)+((l.map NY.av).length:Int))=(l.length:Int):=by rw [IntKind.wrap_i64,List.length_map];omega
 have w2:IntKind.i64.wrap ((l.length:Int)+((more.map NY.av).length:Int))=((l.length+more.length:Nat):Int):=by rw [IntKind.wrap_i64,List.length_map];omega
 have d1:decide ((l.length:Int)<0)=false:=ag (by omega)
 have d2:decide (((l.length+more.length:Nat):Int)<0)=false:=ag (by omega)
 have a1:∀ (σ : ae) (p:VL.Id),(∀ y∈[([18,33],(⟨List.replicate (l.length+more.length) zN,15,false⟩:cN))], σ y.1=some y.2)->bu σ p (.append 15 320 (.osl [18,33] 15 0 0 false) (iw l))=some { val := .osl [18,33] 15 0 l.length false,rd:=[[18,33]],up:=[([18,33],some ⟨l.map NY.av++List.replicate more.length zN,15,false⟩)] }:=fun σ p hσ => by
   have:=Lh (σ := σ) (p:=p) (id:=[18,33]) (A:=[]) (ys:=l) (k:=more.length) (by simpa using hσ ([18,33],⟨List.replicate (l.length+more.length) zN,15,false⟩) (by simp)) hl (by simp;omega)
   show dR σ p 15 320 (.osl [18,33] 15 0 0 false) (iw l)=_
   simpa using this
 have a2:∀ (σ : ae) (p:VL.Id),(∀ y∈[([18,33],(⟨l.map NY.av++List.replicate more.length zN,15,false⟩:cN))], σ y.1=some y.2)->bu σ p (.append 15 320 (.osl [18,33] 15 0 l.length false) (iw more))=some { val := .osl [18,33] 15 0 (l++more).length false,rd:=[[18,33]],up:=[([18,33],some ⟨(l++more).map NY.av,15,false⟩)] }:=fun σ p hσ => by
   have:=Lh (σ := σ) (p:=p) (id:=[18,33]) (A:=l.map NY.av) (ys:=more) (k:=0) (by simpa using hσ ([18,33],⟨l.map NY.av++List.replicate more.length zN,15,false⟩) (by simp)) hm (by simp;omega)
   show dR σ p 15 320 (.osl [18,33] 15 0 l.length false) (iw more)=_
   simpa using this
 exact VP.dm hN [hw 18 w1,hb 20 d1,hw 18 w2,hb 20 d2, .rel 163 _ [] _ (fun p _=>Ds dy (l.length+more.length) (by omega) (by omega) p) (by intro p x hx;simp at hx), .st 33 _ _ _ a1, .st 33 _ _ _ a2]
   [([18,33],⟨(l++more).map NY.av,15,false⟩)] (.osl [18,33] 15 0 (l++more).length false) (by kernel_rfl) (fun σ h=>nr (h ([18,33],⟨(l++more).map NY.av,15,false⟩) (by simp)))
def xX (l more:List NY):AV:=if lA l more=0 then .tup [iw (l++more), .int .i64 0] else .tup [.nils, .int .i64 (lA l more)]
theorem afu (l more:List NY) (hl:l≠[]) (hm:more≠[]) (hll:l.length<=1000) (CO:more.length<=1000):VP Tryz.prog G 36 [iw l,iw more] (xX l more):=by
 have hr:=aft G l more hll CO
 unfold xX
 by_cases h0:lA l more=0
 . rw [if_pos h0]
   rw [h0] at hr
   have hv:ah (ae.of [([10],⟨[iw l,iw more],1,false⟩)]) [.osl [10] 1 0 2 false] [.sl 1 [iw l,iw more]]:=ah.cons (kr (b:=false) (by simp [ae.of]) rfl rfl (by intro c hc;simp [AV.cells] at hc;subst hc;exact PU.pure) (by intro c hc;simp [AV.cells] at hc;subst hc;exact PU.pure)) ah.nil
   exact vt [hc hr,bm [([10],⟨[iw l,iw more],1,false⟩)] (UI G l more hl hm (Nl h0)) hv] (by kernel_rfl)
 . rw [if_neg h0]
   exact vt [hc hr,hb 11 (bne_iff_ne.2 h0)] (by kernel_rfl)
theorem afv (l more:List NY) (hl:l.length<=1000) (hm:more.length<=1000):VP Tryz.prog G 111 [iw l,iw more] (.int .i64 (lA l more)):=by
 have w11:IntKind.i64.wrap (((l.map NY.av).length:Int)+((more.map NY.av).length:Int))=((l.length+more.length:Nat):Int):=by rw [IntKind.wrap_i64,List.length_map,List.length_map];omega
 unfold lA
 by_cases h0:200<l.length+more.length
 . rw [if_pos h0]
   exact vt [hw 11 w11,hb 12 (ai (by omega):decide (((l.length+more.length:Nat):Int)>200)=true)] (by kernel_rfl)
 rw [if_neg h0]
 have d12:decide (((l.length+more.length:Nat):Int)>200)=false:=ag (by omega)
 have e25:∀ x:NY,decide ((x.name.length:Int)>200)=decide (200<x.name.length):=fun x=>by congr 1;exact propext (by omega)
 have s1:∀ i x,more[i]? = some x->i<more.length->decide (200<x.name.length)=false->WQ Tryz.prog G [] D9 .normal 40 (wO l more (.int .i64 0) (.int .i64 (i:Int)) .top) [] (wO l more (.int .i64 0) (.int .i64 ((i+1:Nat):Int)) .top) []:=fun i x hx hlt hp n Q hq =>
   VW.tr (π := []) (n:=n) (fun _=>[]) [hb 16 (mC hlt),ho 21 (kx hx),hb 25 ((e25 x).trans hp),hw 18 (aF i (by omega))] (wO l more (.int .i64 0) (.int .i64 (i:Int)) .top) [] .normal (wO l more (.int .i64 0) (.int .i64 ((i+1:Nat):Int)) .top) [] 40 (by kernel_rfl) jF rfl jF rfl (by simp) hq
 cases pZ:more.any fun x=>decide (200<x.name.length)
 . rw [if_neg (by decide)]
   have l1:=VW.through (P:=Tryz.prog) (G:=G) (π := []) (c:=D9) more (fun i=>wO l more (.int .i64 0) (.int .i64 (i:Int)) .top) [] 40 1000 1000000 0 (wO l more (.int .i64 0) .top .top) (by omega) (fun i x hx hlt=>s1 i x hx hlt (by rw [List.any_eq_false] at pZ;simpa using pZ x (List.mem_of_getElem? hx)))
     (fun n Q hq=>VW.tr (π := []) (n:=n) (fun _=>[]) [hb 16 (rW (l:=more))] (wO l more (.int .i64 0) (.int .i64 (more.length:Int)) .top) [] (.exit 0) (wO l more (.int .i64 0) .top .top) [] 40 (by kernel_rfl) jF rfl jF rfl (by simp) hq)
   have s2:∀ i x,more[i]? = some x->i<more.length->decide (0<=kK l x.name)=false->WQ Tryz.prog G [] (Ea 12) .normal 40 (wO l more (.int .i64 0) .top (.int .i64 (i:Int))) [] (wO l more (.int .i64 0) .top (.int .i64 ((i+1:Nat):Int))) []:=fun i x hx hlt hp n Q hq =>
     VW.tr (π := []) (n:=n) (fun _=>[]) [hb 29 (mC hlt),ho 35 (kx hx),hc (RX G l x.name hl),hb 39 (hp:decide (kK l x.name≥0)=false),hw 31 (aF i (by omega))] (wO l more (.int .i64 0) .top (.int .i64 (i:Int))) [] .normal (wO l more (.int .i64 0) .top (.int .i64 ((i+1:Nat):Int))) [] 40 (by kernel_rfl) jF rfl jF rfl (by simp) hq
   cases qh:more.any fun x=>decide (0<=kK l x.name)
   . rw [if_neg (by decide)]
     have l2:=VW.through (P:=Tryz.prog) (G:=G) (π := []) (c:=Ea 12) more (fun i=>wO l more (.int .i64 0) .top (.int .i64 (i:Int))) [] 40 2000000 3000000 2 (wO l more .top .top .top) (by omega) (fun i x hx hlt=>s2 i x hx hlt (by rw [List.any_eq_false] at qh;simpa using qh x (List.mem_of_getElem? hx)))
       (fun n Q hq=>VW.tr (π := []) (n:=n) (fun _=>[]) [hb 29 (rW (l:=more))] (wO l more (.int .i64 0) .top (.int .i64 (more.length:Int))) [] (.exit 2) (wO l more .top .top .top) [] 40 (by kernel_rfl) jF rfl jF rfl (by simp) hq)
     exact vt [hw 11 w11,hb 12 d12, .lp [] _ _ _ _ _ _ _ _ l1, .lp [] _ _ _ _ _ _ _ _ l2] (by kernel_rfl)
   . rw [if_pos rfl]
     have l2:=VW.UE (P:=Tryz.prog) (G:=G) (π := []) (c:=Ea 12) more (fun x=>decide (0<=kK l x.name)) qh (fun i=>wO l more (.int .i64 0) .top (.int .i64 (i:Int))) [] 40 2000000 3000000 (wO l more (.int .i64 5) .top .top) (by omega) s2
       (fun i x hx hlt hp _ n Q hq=>VW.tr (π := []) (n:=n) (fun _=>[]) [hb 29 (mC hlt),ho 35 (kx hx),hc (RX G l x.name hl),hb 39 (hp:decide (kK l x.name≥0)=true)] (wO l more (.int .i64 0) .top (.int .i64 (i:Int))) [] .ret (wO l more (.int .i64 5) .top .top) [] 40 (by kernel_rfl) jF rfl jF rfl (by simp) hq)
     exact vt [hw 11 w11,hb 12 d12, .lp [] _ _ _ _ _ _ _ _ l1, .lp [] _ _ _ _ _ _ _ _ l2] (by kernel_rfl)
 . rw [if_pos rfl]
   have l1:=VW.UE (P:=Tryz.prog) (G:=G) (π := []) (c:=D9) more (fun x=>decide (200<x.name.length)) pZ (fun i=>wO l more (.int .i64 0) (.int .i64 (i:Int)) .top) [] 40 1000 1000000 (wO l more (.int .i64 3) .top .top) (by omega) s1
     (fun i x hx hlt hp _ n Q hq=>VW.tr (π := []) (n:=n) (fun _=>[]) [hb 16 (mC hlt),ho 21 (kx hx),hb 25 ((e25 x).trans hp)] (wO l more (.int .i64 0) (.int .i64 (i:Int)) .top) [] .ret (wO l more (.int .i64 3) .top .top) [] 40 (by kernel_rfl) jF rfl jF rfl (by simp) hq)
   exact vt [hw 11 w11,hb 12 d12, .lp [] _ _ _ _ _ _ _ _ l1] (by kernel_rfl)
theorem RZ (l more:List NY) (hl:l≠[]) (hm:more≠[]) (hll:l.length<=1000) (CO:more.length<=1000):VP Tryz.prog G 54 [iw l,iw more] (xX l more):=by
 have hf:=afv G l more hll CO
 unfold xX
 by_cases h0:lA l more=0
 . rw [if_pos h0]
   rw [h0] at hf
   have a1:∀ (σ : ae) (p:VL.Id),(∀ y∈([]:List (VL.Id × cN)), σ y.1=some y.2)->bu σ p (.append 15 320 (.tsl 15 []) (iw l))=some { val := .osl p 15 0 l.length false,rd:=[],up:=[(p,some ⟨l.map NY.av,15,false⟩)] }:=fun σ p _=>yq (σ := σ) hl (by omega)
   have a2:∀ (σ : ae) (p:VL.Id),(∀ y∈[([10],(⟨l.map NY.av,15,false⟩:cN))], σ y.1=some y.2)->bu σ p (.append 15 320 (.osl [10] 15 0 l.length false) (iw more))=some { val := .osl p 15 0 (l++more).length false,rd:=[[10]],up:=[([10],none),(p,some ⟨(l++more).map NY.av,15,false⟩)] }:=fun σ p hσ => UG (hσ ([10],⟨l.map NY.av,15,false⟩) (by simp)) hm (by omega)
   exact VP.dm hN [hc hf, .st 15 [] _ _ a1, .st 17 _ _ _ a2] [([12],⟨(l++more).map NY.av,15,false⟩)] (.tup [.osl [12] 15 0 (l++more).length false, .int .i64 0]) (by kernel_rfl) (fun σ h=>vT (nr (h ([12],⟨(l++more).map NY.av,15,false⟩) (by simp))))
 . rw [if_neg h0]
   exact vt [hc hf,hb 11 (bne_iff_ne.2 h0)] (by kernel_rfl)
theorem Z8 (l:List NY) (hl:l.length<=1000) (he:∀ x∈l,VP Tryz.prog G 68 [x.cv,x.cv] (.bool true)):VP Tryz.prog G 26 [iw l,iw l] (.bool true):=by
 have e10:(((l.map NY.av).length:Int) != ((l.map NY.av).length:Int))=false:=by simp
 have RY:=VW.through (P:=Tryz.prog) (G:=G) (π := []) (c:=Z5 68) l (fun i=>Z6 l i) [] 60 1000 1000000 0 (List.replicate 42 .top) (by omega)
   (fun i x hx hlt n Q hq=>VW.tr (π := []) (n:=n) (fun _=>[]) [hb 14 (mC hlt),ho 19 (kx hx),ho 24 (kx hx),hb 27 (by simp:(!(x.name==x.name))=false),ho 31 (kx hx),ho 36 (kx hx),hc (he x (List.mem_of_getElem? hx)),hw 16 (aF i (by omega))] (Z6 l i) [] .normal (Z6 l (i+1)) [] 60 (by kernel_rfl) Eb rfl Eb rfl (by simp) hq)
   (fun n Q hq=>VW.tr (π := []) (n:=n) (fun _=>[]) [hb 14 (rW (l:=l))] (Z6 l l.length) [] (.exit 0) (List.replicate 42 .top) [] 60 (by kernel_rfl) Eb rfl eI rfl (by simp) hq)
 exact vt [hb 10 e10, .lp [] _ _ _ _ _ _ _ _ RY] (by kernel_rfl)
theorem afw (l:List NY) (hl:l.length<=1000) (hv:∀ x∈l,VP Tryz.prog G 112 [aV x.a1 x.a2] (.bool true)/\VP Tryz.prog G 112 [aV x.b1 x.b2] (.bool true)/\VP Tryz.prog G 112 [aV x.c1 x.c2] (.bool true)/\VP Tryz.prog G 113 [x.cv] (.bool true)):VP Tryz.prog G 55 [iw l] (.bool true):=by
 have RY:=VW.through (P:=Tryz.prog) (G:=G) (π := []) (c:=Z7 112 113) l (fun i=>UH l i) [] 60 1000 1000000 0 (List.replicate 41 .top) (by omega)
   (fun i x hx hlt n Q hq=>by
     obtain ⟨v1,v2,v3,v4⟩:=hv x (List.mem_of_getElem? hx)
     have hg:=kx hx
     obtain ⟨nm',mF,cw,fa,fb,fc,⟨l1,m1,D3,D4⟩,⟨l2,m2,o9,pc⟩,⟨l3,m3,tR,tT⟩,⟨l4,m4,Ld,Le⟩,⟨l5,m5,NF,NG⟩,⟨l6,m6,Ha,Hb⟩⟩:=x
     cases mF
     . cases fa<;>cases fb<;>cases fc<;>exact VW.tr (π := []) (n:=n) (fun _=>[]) [hb 8 (mC hlt),ho 13 hg,hc v1,hc v2,hc v4,hw 10 (aF i (by omega))] (UH l i) [] .normal (UH l (i+1)) [] 60 (by kernel_rfl) vH rfl vH rfl (by simp) hq
     . cases fa<;>cases fb<;>cases fc<;>exact VW.tr (π := []) (n:=n) (fun _=>[]) [hb 8 (mC hlt),ho 13 hg,hc v1,hc v2,hc v3,hc v4,hw 10 (aF i (by omega))] (UH l i) [] .normal (UH l (i+1)) [] 60 (by kernel_rfl) vH rfl vH rfl (by simp) hq)
   (fun n Q hq=>VW.tr (π := []) (n:=n) (fun _=>[]) [hb 8 (rW (l:=l))] (UH l l.length) [] (.exit 0) (List.replicate 41 .top) [] 60 (by kernel_rfl) vH rfl eI rfl (by simp) hq)
 exact vt [.lp [] _ _ _ _ _ _ _ _ RY] (by kernel_rfl)
theorem UJ (e:Int):VP Tryz.prog G 11 [.nils, .int .i64 e, .nils, .int .i64 e] (.bool true):=by
 have h1:VP Tryz.prog G 55 [.nils] (.bool true):=vt [] (by kernel_rfl)
 have h2:VP Tryz.prog G 26 [.nils, .nils] (.bool true):=vt [] (by kernel_rfl)
 exact vt [hb 11 (by simp:(e==e)=true),hc h1,hc h2] (by kernel_rfl)
end
end Go.Proofs.YtndoagbiakehnaaGreat
end

section
set_option maxRecDepth 100000
namespace Go.Proofs.YtndoagbiakehnaaGreat
open Go.VL Go.Proofs Go.Lib
theorem dup2 {a b:List UInt8}:TC [a,b] 2↔a=b:=by
 constructor
 . rintro ⟨j,k,x,h1,h2,h3,h4⟩
   obtain rfl:j=0:=by omega
   obtain rfl:k=1:=by omega
   simp only [List.getElem?_cons_zero,Option.some.injEq] at h3
   simp only [List.getElem?_cons_succ,List.getElem?_cons_zero,Option.some.injEq] at h4
   rw [h3,h4]
 . rintro rfl;exact ⟨0,1,a,by omega,by omega,rfl,rfl⟩
theorem He {nm:List UInt8} {l:List NX} {a b:List UInt8}:dk nm l [a,b]=if dB nm=false then 1 else if a=b then 1 else if gV l a<0 then 4 else if gV l b<0 then 4 else 0:=by
 unfold dk
 by_cases h1:dB nm=false
 . rw [if_pos (.inl h1),if_pos h1]
 rw [if_neg (by simp [h1]),if_neg h1]
 by_cases h2:a=b
 . rw [if_pos (show TC [a,b] [a,b].length from dup2.2 h2),if_pos h2]
 rw [if_neg (show ¬ TC [a,b] [a,b].length from fun h=>h2 (dup2.1 h)),if_neg h2]
 by_cases h3:gV l a<0
 . rw [if_pos h3,if_pos (by simp [h3])]
 rw [if_neg h3]
 by_cases h4:gV l b<0
 . rw [if_pos h4,if_pos (by simp [h4])]
 . rw [if_neg h4,if_neg (by simp [h3,h4])]
theorem yt (l:List NX) (s:List UInt8):kK (l.map NX.toY) s=gV l s:=by
 unfold kK gV
 rw [List.findIdx?_map]
 rfl
instance {s:List UInt8}:PU (.sl 1 [.str s]):=(inferInstance:PU (strs [s]))
section
variable (G:Nat->Option (List AV))
theorem wP (l:List NX) (hl:l.length<=1000) (s:List UInt8):VP Tryz.prog G 12 [lg l, .str s] (.int .i64 (gV l s)):=by
 have h:=RX G (l.map NX.toY) s (by simpa using hl)
 rw [pX,yt] at h
 exact h
theorem afx (nm:List UInt8) (l:List NX) (hl:l.length<=1000) (a b:List UInt8):VP Tryz.prog G 37 [.str nm,lg l,strs [a,b]] (.int .i64 (dk nm l [a,b])):=by
 have hn:=adN G nm
 have f1:=wP G l hl a
 have f2:=wP G l hl b
 rw [He]
 by_cases h1:dB nm=false
 . rw [h1] at hn
   rw [if_pos h1]
   exact vt [hc hn] (by kernel_rfl)
 rw [if_neg h1]
 rw [show dB nm=true by simpa using h1] at hn
 by_cases h2:a=b
 . rw [if_pos h2]
   exact vt [hc hn,hb 37 (beq_iff_eq.2 h2.symm)] (by kernel_rfl)
 have Ns:(b==a)=false:=by rw [beq_eq_false_iff_ne];exact fun e=>h2 e.symm
 rw [if_neg h2]
 by_cases h3:gV l a<0
 . rw [if_pos h3]
   exact vt [hc hn,hb 37 Ns,hc f1,hb 50 (ai h3)] (by kernel_rfl)
 rw [if_neg h3]
 by_cases h4:gV l b<0
 . rw [if_pos h4]
   exact vt [hc hn,hb 37 Ns,hc f1,hb 50 (ag h3),hc f2,hb 50 (ai h4)] (by kernel_rfl)
 . rw [if_neg h4]
   exact vt [hc hn,hb 37 Ns,hc f1,hb 50 (ag h3),hc f2,hb 50 (ag h4)] (by kernel_rfl)
theorem afy (a b:List UInt8):VP Tryz.prog G 73 [strs [a,b]] (.bool (b==a)):=by
 have i0:VP Tryz.prog G 190 [.sl 1 [], .str a] (.int .i64 (-1)):=vt [] (by kernel_rfl)
 have c0:VP Tryz.prog G 139 [.sl 1 [], .str a] (.bool false):=vt [hc i0] (by kernel_rfl)
 cases h:b==a
 . have i1:VP Tryz.prog G 190 [.sl 1 [.str a], .str b] (.int .i64 (-1)):=vt [hb 16 h] (by kernel_rfl)
   have c1:VP Tryz.prog G 139 [.sl 1 [.str a], .str b] (.bool false):=vt [hc i1] (by kernel_rfl)
   exact vt [hc c0,hc c1] (by kernel_rfl)
 . have i1:VP Tryz.prog G 190 [.sl 1 [.str a], .str b] (.int .i64 0):=vt [hb 16 h] (by kernel_rfl)
   have c1:VP Tryz.prog G 139 [.sl 1 [.str a], .str b] (.bool true):=vt [hc i1] (by kernel_rfl)
   exact vt [hc c0,hc c1] (by kernel_rfl)
theorem R2 (l:List NX) (hl:l.length<=1000) (s:List UInt8):VP Tryz.prog G 74 [lg l, .str s] (if gV l s<0 then .tup [zC, .bool false] else .tup [(cF l s).av, .bool true]):=by
 have h:=D8 G (l.map NX.toY) s (by simpa using hl)
 rw [pX,yt] at h
 by_cases h0:gV l s<0
 . rw [if_pos h0]
   exact vt [hc h,hb 11 (ai h0)] (by kernel_rfl)
 . rw [if_neg h0]
   obtain ⟨k,z,hk,hz,_,e⟩:=zU h0
   rw [hk] at h
   rw [e]
   have h0':decide ((k:Int)<0)=false:=ag (by omega)
   have g:=zS hz
   obtain ⟨xn,xr,xa,xb,xc,xw⟩:=z
   exact vt [hc h,hb 11 h0',ho 15 g] (by kernel_rfl)
theorem R3 (nm:List UInt8) (l:List NX) (hl:l.length<=1000) (a b:List UInt8):VP Tryz.prog G 30 [.str nm,lg l,strs [a,b]] (if dk nm l [a,b]=0 then .tup [VI ([a,b].map (cF l)), .int .i64 0] else .tup [.nils, .int .i64 (dk nm l [a,b])]):=by
 have hn:=QG G nm
 have hr:=afy G a b
 have f1:=R2 G l hl a
 have f2:=R2 G l hl b
 rw [He]
 by_cases h1:dB nm=false
 . rw [h1] at hn
   rw [if_pos h1,if_neg (by decide)]
   exact vt [hc hn] (by kernel_rfl)
 rw [if_neg h1]
 rw [show dB nm=true by simpa using h1] at hn
 by_cases h2:a=b
 . rw [if_pos h2,if_neg (by decide)]
   rw [show (b==a)=true from beq_iff_eq.2 h2.symm] at hr
   exact vt [hc hn,hc hr] (by kernel_rfl)
 rw [show (b==a)=false by rw [beq_eq_false_iff_ne];exact fun e=>h2 e.symm] at hr
 rw [if_neg h2]
 by_cases h3:gV l a<0
 . rw [if_pos h3] at f1 ⊢
   rw [if_neg (by decide)]
   exact vt [hc hn,hc hr,hc f1] (by kernel_rfl)
 rw [if_neg h3] at f1 ⊢
 by_cases h4:gV l b<0
 . rw [if_pos h4] at f2 ⊢
   rw [if_neg (by decide)]
   exact vt [hc hn,hc hr,hc f1,hc f2] (by kernel_rfl)
 . rw [if_neg h4] at f2 ⊢
   rw [if_pos rfl]
   show VP Tryz.prog G 30 [.str nm,lg l,strs [a,b]] (.tup [.sl 14 [(cF l a).av,(cF l b).av], .int .i64 0])
   generalize cF l a=x at *
   generalize cF l b=y at *
   have cx:∀ x:CX,∀ c∈x.av.cells,af c:=oO
   exact VP.dm hN [hc hn,hc hr,hc f1,hc f2] [([16],⟨[x.av,y.av],14,false⟩)] (.tup [.osl [16] 14 0 2 false, .int .i64 0]) (by kernel_rfl) (fun σ h=>View.tup (ah.cons (kr (h ([16],⟨[x.av,y.av],14,false⟩) (by simp)) rfl rfl (oO x) (oO y)) (ah.cons (View.pure (af.int _ _)) ah.nil)))
end
end Go.Proofs.YtndoagbiakehnaaGreat
end

section
set_option maxRecDepth 100000
namespace Go.Proofs.YtndoagbiakehnaaGreat
open Go.VL Go.Proofs Go.Lib
def o0 (x y:CX):Option (Q2 × Q2 × Q2):=if x.a=y.a then some (x.a,x.b,y.b) else if x.a=y.b then some (x.a,x.b,y.a) else if x.b=y.a then some (x.b,x.a,y.b) else if x.b=y.b then some (x.b,x.a,y.a) else none
def zV4:AV := .agg [.nils, .nils, .nils, .nils]
instance:PU zV4:=by unfold zV4;infer_instance
def R4:Option (Q2 × Q2 × Q2)->AV
 | some (p,u,v) => .tup [V2 p,V2 u,V2 v, .bool true]
 | none => .tup [zV4,zV4,zV4, .bool false]
instance {o:Option (Q2 × Q2 × Q2)}:PU (R4 o):=by rcases o with _ | ⟨p,u,v⟩<;>(unfold R4;infer_instance)
def eK (nm:List UInt8) (x:CX) (p:Q2) {b:Bool} (Z1 Z2:Nm b):NY:=if x.a=p then ⟨nm,x.mF,x.cw,b,false,false,Z1,Z2,nR x.b.1,nR x.b.2,nR x.c.1,nR x.c.2⟩ else ⟨nm,x.mF,x.cw,false,b,false,nR x.a.1,nR x.a.2,Z1,Z2,nR x.c.1,nR x.c.2⟩
def gw (nm:List UInt8) {b:Bool} (F1 F2 P1 P2 Q1 Q2:Nm b) (w:Bool):NY:=⟨nm++[47,48],true,w,b,b,b,F1,F2,P1,P2,Q1,Q2⟩
def kD (l:List NX) (i j:Nat) (A B:NY):List NY:=((l.map NX.toY).set i A).set j B
section
variable (G:Nat->Option (List AV))
set_option maxHeartbeats 2000000 in
theorem yu (x y:CX) (hx:x.Sm 20) (hy:y.Sm 20):VP Tryz.prog G 31 [x.av,y.av] (R4 (o0 x y)):=by
 have e1:=gEq G x.a y.a (hx.1.mono (by omega)) (hy.1.mono (by omega))
 have e2:=gEq G x.a y.b (hx.1.mono (by omega)) (hy.2.1.mono (by omega))
 have e3:=gEq G x.b y.a (hx.2.1.mono (by omega)) (hy.1.mono (by omega))
 have e4:=gEq G x.b y.b (hx.2.1.mono (by omega)) (hy.2.1.mono (by omega))
 obtain ⟨xr,xa,xb,xc,xw⟩:=x
 obtain ⟨yr,ya,yb,yc,yw⟩:=y
 dsimp only at e1 e2 e3 e4
 unfold o0
 by_cases h1:xa=ya
 . rw [if_pos h1]
   rw [decide_eq_true h1] at e1
   exact vt [hc e1] (by kernel_rfl)
 rw [if_neg h1]
 rw [decide_eq_false h1] at e1
 by_cases h2:xa=yb
 . rw [if_pos h2]
   rw [decide_eq_true h2] at e2
   exact vt [hc e1,hc e2] (by kernel_rfl)
 rw [if_neg h2]
 rw [decide_eq_false h2] at e2
 by_cases h3:xb=ya
 . rw [if_pos h3]
   rw [decide_eq_true h3] at e3
   exact vt [hc e1,hc e2,hc e3] (by kernel_rfl)
 rw [if_neg h3]
 rw [decide_eq_false h3] at e3
 by_cases h4:xb=yb
 . rw [if_pos h4]
   rw [decide_eq_true h4] at e4
   exact vt [hc e1,hc e2,hc e3,hc e4] (by kernel_rfl)
 rw [if_neg h4]
 rw [decide_eq_false h4] at e4
 exact vt [hc e1,hc e2,hc e3,hc e4] (by kernel_rfl)
theorem WT (nm:List UInt8) (x:CX) (hx:x.Sm 20) (p:Q2) (hp:bl 20 p) {b:Bool} (Z1 Z2:Nm b):VP Tryz.prog G 34 [x.av,V2 p,aV Z1 Z2] (eK nm x p Z1 Z2).cv:=by
 have e1:=gEq G x.a p (hx.1.mono (by omega)) (hp.mono (by omega))
 obtain ⟨xr,xa,xb,xc,xw⟩:=x
 obtain ⟨l,m,pl,pm⟩:=Z1
 obtain ⟨l2,m2,o9,pc⟩:=Z2
 dsimp only at e1
 unfold eK
 by_cases h1:xa=p
 . rw [decide_eq_true h1] at e1
   rw [if_pos h1]
   cases b<;>exact vt [hc e1] (by kernel_rfl)
 . rw [decide_eq_false h1] at e1
   rw [if_neg h1]
   cases b<;>exact vt [hc e1] (by kernel_rfl)
theorem R5 (l:List NX) (h0:l≠[]) (hl:l.length<=1000) (p:VL.Id):aw Tryz.prog G 9 [lg l] p [] { val := .osl (5::p) 15 0 l.length false,rd:=[],up:=[(5::p,some ⟨l.map NX.av,15,false⟩)] }:=by
 have a1:∀ (σ : ae) (p:VL.Id),(∀ y∈([]:List (VL.Id × cN)), σ y.1=some y.2)->bu σ p (.append 15 320 (.tsl 15 []) (lg l))=some { val := .osl p 15 0 l.length false,rd:=[],up:=[(p,some ⟨l.map NX.av,15,false⟩)] }:=fun σ p _=>by
   have:=yq (σ := σ) (p:=p) (l:=l.map NX.toY) (by simpa using h0) (by simp;omega)
   rw [pX,List.length_map] at this
   rw [show (l.map NX.toY).map NY.av=l.map NX.av from by rw [List.map_map];rfl] at this
   exact this
 cases l with
 | nil=>exact absurd rfl h0
 | cons x t =>
 exact aw.tr (p:=p) (up:=[(5::p,⟨(x::t).map NX.av,15,false⟩)]) cu (fun _=>[]) [.st 7 [] _ _ a1] [lg (x::t)] [] (.osl [5,0] 15 0 (x::t).length false) [([5,0],⟨(x::t).map NX.av,15,false⟩)] (by kernel_rfl) (by rw [nE.fix]) rfl rfl (by simp only [aU,bh,bM,TE];rfl) (by simp) (by simp)
theorem tU (nm:List UInt8) (l:List NX) (a b:List UInt8):ah (ae.of [([7],⟨[.str a, .str b],1,false⟩)]) [.str nm,lg l, .osl [7] 1 0 2 false] [.str nm,lg l,strs [a,b]]:=ah.cons (View.pure PU.pure) (ah.cons (View.pure PU.pure) (ah.cons (kr (b:=false) (by simp [ae.of]) rfl rfl (by intro c hc;rcases List.mem_singleton.1 hc with rfl;exact PU.pure) (by intro c hc;rcases List.mem_singleton.1 hc with rfl;exact PU.pure)) ah.nil))
theorem Z9 (nm:List UInt8) (l:List NX) (a b:List UInt8) (r:Rat) (hl:l.length<=1000) (fP:dk nm l [a,b]≠0):VP Tryz.prog G 8 [.str nm,lg l, .str a, .str b,QV r] (.tup [.nils, .int .i64 (dk nm l [a,b])]):=by
 have hI:=R3 G nm l hl a b
 rw [if_neg fP] at hI
 exact vt [bm [([7],⟨[.str a, .str b],1,false⟩)] hI (tU nm l a b),hb 30 (bne_iff_ne.2 fP)] (by kernel_rfl)
theorem aaa (nm:List UInt8) (l:List NX) (a b:List UInt8) (r:Rat) (hl:l.length<=1000) (fP:dk nm l [a,b]=0) (hx:(cF l a).Sm 20) (hy:(cF l b).Sm 20) (A9:(cF l a).mF=true∨(cF l b).mF=true∨o0 (cF l a) (cF l b)=none):VP Tryz.prog G 8 [.str nm,lg l, .str a, .str b,QV r] (.tup [.nils, .int .i64 1]):=by
 have hI:=R3 G nm l hl a b
 rw [if_pos fP] at hI
 have lJ:=yu G (cF l a) (cF l b) hx hy
 rw [show [a,b].map (cF l)=[cF l a,cF l b] from rfl] at hI
 generalize cF l a=x at *
 generalize cF l b=y at *
 generalize o0 x y=o at *
 obtain ⟨xr,xa,xb,xc,xw⟩:=x
 obtain ⟨yr,ya,yb,yc,yw⟩:=y
 dsimp only at A9
 cases o with
 | none=>cases xr<;>cases yr<;>exact vt [bm [([7],⟨[.str a, .str b],1,false⟩)] hI (tU nm l a b),hc lJ] (by kernel_rfl)
 | some t =>
   obtain ⟨p,u,v⟩:=t
   cases xr<;>cases yr
   . rcases A9 with h | h | h<;>cases h
   all_goals exact vt [bm [([7],⟨[.str a, .str b],1,false⟩)] hI (tU nm l a b),hc lJ] (by kernel_rfl)
structure qd (l:List NX) (a b:List UInt8) (x y:CX) (p u v:Q2):Prop where
 ex:cF l a=x
 ey:cF l b=y
 xs:x.mF=false
 ys:y.mF=false
 hx:x.Sm 20
 hy:y.Sm 20
 c:o0 x y=some (p,u,v)
theorem aab (nm:List UInt8) (l:List NX) (a b:List UInt8) (r:Rat) (x y:CX) (p u v:Q2) (hl:l.length<=1000) (fP:dk nm l [a,b]=0) (C:qd l a b x y p u v) (sr:Sm 20 r) (h0:az r<=0):VP Tryz.prog G 8 [.str nm,lg l, .str a, .str b,QV r] (.tup [.nils, .int .i64 6]):=by
 have hI:=R3 G nm l hl a b
 rw [if_pos fP] at hI
 have lJ:=yu G x y C.hx C.hy
 rw [show [a,b].map (cF l)=[cF l a,cF l b] from rfl,C.ex,C.ey] at hI
 rw [C.c] at lJ
 have hs:=xD G r (sr.mono (by omega))
 obtain ⟨xr,xa,xb,xc,xw⟩:=x
 obtain ⟨yr,ya,yb,yc,yw⟩:=y
 obtain rfl:xr=false:=C.xs
 obtain rfl:yr=false:=C.ys
 exact vt [bm [([7],⟨[.str a, .str b],1,false⟩)] hI (tU nm l a b),hc lJ,hc hs,hb 62 (ai h0)] (by kernel_rfl)
theorem R6 (nm:List UInt8) (l:List NX) (a b:List UInt8) (r:Rat) (x y:CX) (p u v:Q2) (hl:l.length<=1000) (fP:dk nm l [a,b]=0) (C:qd l a b x y p u v) (sr:Sm 20 r) (h0 : ¬ az r<=0) (w:Bool) (e:Int) (he:e≠0) (hR:VP Tryz.prog G 33 [V2 p,V2 u,V2 v,QV r] (.tup [Sv w, .int .i64 e])):VP Tryz.prog G 8 [.str nm,lg l, .str a, .str b,QV r] (.tup [.nils, .int .i64 e]):=by
 have hI:=R3 G nm l hl a b
 rw [if_pos fP] at hI
 have lJ:=yu G x y C.hx C.hy
 rw [show [a,b].map (cF l)=[cF l a,cF l b] from rfl,C.ex,C.ey] at hI
 rw [C.c] at lJ
 have hs:=xD G r (sr.mono (by omega))
 obtain ⟨xr,xa,xb,xc,xw⟩:=x
 obtain ⟨yr,ya,yb,yc,yw⟩:=y
 obtain rfl:xr=false:=C.xs
 obtain rfl:yr=false:=C.ys
 exact vt [bm [([7],⟨[.str a, .str b],1,false⟩)] hI (tU nm l a b),hc lJ,hc hs,hb 62 (ag h0),hc hR,hb 72 (bne_iff_ne.2 he)] (by kernel_rfl)
theorem wQ {q:VL.Id} {k len i:Nat} {t:Bool} (h:i<len):bG k (.osl q k 0 len t) (.int .i64 (i:Int))=some (.ref q i 0):=by
 simp only [bG]
 rw [if_pos ⟨trivial,by omega,by omega⟩]
 simp
theorem aac (x:NX) (A:NY) (h:A.name=x.name):(NX.av x).upd 1 A.cv.cells=A.av:=by
 obtain ⟨nm,mF,cw,fa,fb,fc,a1,a2,b1,b2,c1,c2⟩:=A
 obtain ⟨xn,xr,xa,xb,xc,xw⟩:=x
 obtain rfl:nm=xn:=h
 cases fa<;>cases fb<;>cases fc<;>rfl
theorem aad (A:NY):A.cv.cells.length=14:=by
 obtain ⟨nm,mF,cw,fa,fb,fc,a1,a2,b1,b2,c1,c2⟩:=A
 cases fa<;>cases fb<;>cases fc<;>rfl
theorem aae (A:NY):A.cv.cells.all AV.one=true:=by
 obtain ⟨nm,mF,cw,fa,fb,fc,a1,a2,b1,b2,c1,c2⟩:=A
 cases fa<;>cases fb<;>cases fc<;>rfl
theorem UK (x:NX):x.av.size=15:=rfl
theorem toY_map (l:List NX):(l.map NX.toY).map NY.av=l.map NX.av:=by rw [List.map_map];rfl
theorem Am {l:List NX} {i j:Nat} {A B:NY}:(kD l i j A B).map NY.av=((l.map NX.av).set i A.av).set j B.av:=by
 unfold kD;rw [List.map_set,List.map_set,toY_map]
theorem iW {l:List NX} {i j:Nat} {A B:NY}:(kD l i j A B).length=l.length:=by unfold kD;simp
theorem o6 {σ : ae} {q:VL.Id} {els:List AV} {i:Nat} {x:NX} {A:NY} (h : σ q=some ⟨els,15,false⟩) (he:els[i]? = some x.av) (hn:A.name=x.name):j5 σ 14 (.ref q i 1) A.cv=some { val := .tup [],rd:=[q],up:=[(q,some ⟨els.set i A.av,15,false⟩)] }:=by
 have:=lX (σ := σ) (id:=q) (els:=els) (k:=15) (n:=14) (e:=i) (o:=1) (el:=x.av) (v:=A.cv) h he (aad A) (by rw [UK];omega) (aae A)
 rw [aac x A hn] at this
 exact this
set_option maxHeartbeats 2000000 in
theorem aaf (nm:List UInt8) (l:List NX) (a b:List UInt8) (r:Rat) (x y:CX) (p u v:Q2) (x3:nm.length<=1000) (hl:l.length<=1000) (fP:dk nm l [a,b]=0) (C:qd l a b x y p u v) (sp:bl 20 p) (sr:Sm 20 r) (h0 : ¬ az r<=0)
   {bT:Bool} (F1 F2 P1 P2 Q1 Q2:Nm bT) (w:Bool) (hR:VP Tryz.prog G 33 [V2 p,V2 u,V2 v,QV r] (.tup [ZI F1 F2 P1 P2 Q1 Q2 w, .int .i64 0]))
   (i j:Nat) (X Y:NX) (hi:gV l a=(i:Int)) (hj:gV l b=(j:Int)) (hX:l[i]? = some X) (hY:l[j]? = some Y) (hne:i≠j) (eX:X.c=x) (eY:Y.c=y) :
   VP Tryz.prog G 8 [.str nm,lg l, .str a, .str b,QV r] (xX (kD l i j (eK X.name x p F1 F2) (eK Y.name y p P1 P2)) [gw nm F1 F2 P1 P2 Q1 Q2 w]):=by
 have hI:=R3 G nm l hl a b
 rw [if_pos fP] at hI
 have lJ:=yu G x y C.hx C.hy
 rw [show [a,b].map (cF l)=[cF l a,cF l b] from rfl,C.ex,C.ey] at hI
 rw [C.c] at lJ
 have hs:=xD G r (sr.mono (by omega))
 have x5:l≠[]:=by rintro rfl;simp at hX
 have hli:i<l.length:=(List.getElem?_eq_some_iff.1 hX).1
 have Xv:j<l.length:=(List.getElem?_eq_some_iff.1 hY).1
 have i1:=D8 G (l.map NX.toY) a (by simpa using hl)
 have i2:=D8 G (l.map NX.toY) b (by simpa using hl)
 rw [pX,yt,hi] at i1
 rw [pX,yt,hj] at i2
 have r1:=WT G X.name x C.hx p sp F1 F2
 have r2:=WT G Y.name y C.hy p sp P1 P2
 have n1:(eK X.name x p F1 F2).name=X.name:=by unfold eK;split<;>rfl
 have n2:(eK Y.name y p P1 P2).name=Y.name:=by unfold eK;split<;>rfl
 generalize eK X.name x p F1 F2=A at *
 generalize eK Y.name y p P1 P2=B at *
 have k1:bG 15 (.osl [5,68] 15 0 l.length false) (.int .i64 (i:Int))=some (.ref [5,68] i 0):=wQ hli
 have k2:bG 15 (.osl [5,68] 15 0 l.length false) (.int .i64 (j:Int))=some (.ref [5,68] j 0):=wQ Xv
 have s1:∀ (σ : ae) (p:VL.Id),(∀ z∈[(([5,68]:VL.Id),(⟨l.map NX.av,15,false⟩:cN))], σ z.1=some z.2)->bu σ p (.store 14 (.ref [5,68] i 1) A.cv)=some { val := .tup [],rd:=[[5,68]],up:=[([5,68],some ⟨(l.map NX.av).set i A.av,15,false⟩)] }:=fun σ _ hσ => o6 (x:=X) (hσ ([5,68],_) (by simp)) (by rw [List.getElem?_map,hX];rfl) n1
 have s2:∀ (σ : ae) (p:VL.Id),(∀ z∈[(([5,68]:VL.Id),(⟨(l.map NX.av).set i A.av,15,false⟩:cN))], σ z.1=some z.2)->bu σ p (.store 14 (.ref [5,68] j 1) B.cv)=some { val := .tup [],rd:=[[5,68]],up:=[([5,68],some ⟨((l.map NX.av).set i A.av).set j B.av,15,false⟩)] }:=fun σ _ hσ => o6 (x:=Y) (hσ ([5,68],_) (by simp)) (by rw [List.getElem?_set_ne hne,List.getElem?_map,hY];rfl) n2
 have zT:=pR (a:=nm) (b:=[47,48]) (by simp;omega)
 have hw:=afu G (kD l i j A B) [gw nm F1 F2 P1 P2 Q1 Q2 w] (by intro e;have:=congrArg List.length e;rw [iW] at this;simp at this;exact x5 this) (by simp) (by rw [iW];exact hl) (by simp)
 obtain ⟨xr,xa,xb,xc,xw⟩:=x
 obtain ⟨yr,ya,yb,yc,yw⟩:=y
 obtain rfl:xr=false:=C.xs
 obtain rfl:yr=false:=C.ys
 have hv:ah (ae.of [(([5,68]:VL.Id),(⟨((l.map NX.av).set i A.av).set j B.av,15,false⟩:cN)),([111],⟨[(gw nm F1 F2 P1 P2 Q1 Q2 w).av],15,false⟩)]) [.osl [5,68] 15 0 l.length false, .osl [111] 15 0 1 false] [iw (kD l i j A B),iw [gw nm F1 F2 P1 P2 Q1 Q2 w]]:=by
   have h1:=nr (σ := ae.of [(([5,68]:VL.Id),(⟨((l.map NX.av).set i A.av).set j B.av,15,false⟩:cN)),([111],⟨[(gw nm F1 F2 P1 P2 Q1 Q2 w).av],15,false⟩)]) (id:=[5,68]) (l:=kD l i j A B) (b:=false) (t:=false) (by rw [Am];simp [ae.of])
   rw [iW] at h1
   have h2:=nr (σ := ae.of [(([5,68]:VL.Id),(⟨((l.map NX.av).set i A.av).set j B.av,15,false⟩:cN)),([111],⟨[(gw nm F1 F2 P1 P2 Q1 Q2 w).av],15,false⟩)]) (id:=[111]) (l:=[gw nm F1 F2 P1 P2 Q1 Q2 w]) (b:=false) (t:=false) (by simp [ae.of,List.lookup])
   exact ah.cons h1 (ah.cons h2 ah.nil)
 unfold xX at hw ⊢
 by_cases hf:lA (kD l i j A B) [gw nm F1 F2 P1 P2 Q1 Q2 w]=0
 . rw [if_pos hf] at hw ⊢
   generalize kD l i j A B++[gw nm F1 F2 P1 P2 Q1 Q2 w]=M at *
   cases bT<;>exact vt [bm [([7],⟨[.str a, .str b],1,false⟩)] hI (tU nm l a b),hc lJ,hc hs,hb 62 (ag h0),hc hR, .rel 9 _ [] _ (fun π _=>R5 G l x5 hl π) (by intro p x hx;simp at hx),hc i1,hc r1,ho 87 k1, .st 100088 _ _ _ s1,hc i2,hc r2,ho 100 k2, .st 100101 _ _ _ s2,ho 104 zT,bm [([5,68],⟨((l.map NX.av).set i A.av).set j B.av,15,false⟩),([111],⟨[(gw nm F1 F2 P1 P2 Q1 Q2 w).av],15,false⟩)] hw hv] (by kernel_rfl)
 . rw [if_neg hf] at hw ⊢
   generalize lA (kD l i j A B) [gw nm F1 F2 P1 P2 Q1 Q2 w]=M at *
   cases bT<;>exact vt [bm [([7],⟨[.str a, .str b],1,false⟩)] hI (tU nm l a b),hc lJ,hc hs,hb 62 (ag h0),hc hR, .rel 9 _ [] _ (fun π _=>R5 G l x5 hl π) (by intro p x hx;simp at hx),hc i1,hc r1,ho 87 k1, .st 100088 _ _ _ s1,hc i2,hc r2,ho 100 k2, .st 100101 _ _ _ s2,ho 104 zT,bm [([5,68],⟨((l.map NX.av).set i A.av).set j B.av,15,false⟩),([111],⟨[(gw nm F1 F2 P1 P2 Q1 Q2 w).av],15,false⟩)] hw hv] (by kernel_rfl)
end
end Go.Proofs.YtndoagbiakehnaaGreat
end

section
set_option maxRecDepth 100000
namespace Go.Proofs.YtndoagbiakehnaaGreat
open Go.VL Go.Proofs Go.Lib
def R7 (x y:CX):Option (Q2 × Q2 × Q2)->AV
 | some (p,u,v) => .tup [V2 p,V2 u,V2 v, .bool true]
 | none => .tup [V2 x.b,V2 x.a,V2 y.a, .bool false]
instance {x y:CX} {o:Option (Q2 × Q2 × Q2)}:PU (R7 x y o):=by rcases o with _ | ⟨p,u,v⟩<;>(unfold R7;infer_instance)
section
variable (G:Nat->Option (List AV))
set_option maxHeartbeats 2000000 in
theorem lU (x y:CX) (hx:x.Sm 20) (hy:y.Sm 20):VP Tryz.prog G 38 [x.av,y.av] (R7 x y (o0 x y)):=by
 have e1:=qb G x.a y.a (hx.1.mono (by omega)) (hy.1.mono (by omega))
 have e2:=qb G x.a y.b (hx.1.mono (by omega)) (hy.2.1.mono (by omega))
 have e3:=qb G x.b y.a (hx.2.1.mono (by omega)) (hy.1.mono (by omega))
 have e4:=qb G x.b y.b (hx.2.1.mono (by omega)) (hy.2.1.mono (by omega))
 obtain ⟨xr,xa,xb,xc,xw⟩:=x
 obtain ⟨yr,ya,yb,yc,yw⟩:=y
 dsimp only at e1 e2 e3 e4
 unfold o0
 by_cases h1:xa=ya
 . rw [if_pos h1]
   rw [decide_eq_true h1] at e1
   exact vt [hc e1] (by kernel_rfl)
 rw [if_neg h1]
 rw [decide_eq_false h1] at e1
 by_cases h2:xa=yb
 . rw [if_pos h2]
   rw [decide_eq_true h2] at e2
   exact vt [hc e1,hc e2] (by kernel_rfl)
 rw [if_neg h2]
 rw [decide_eq_false h2] at e2
 by_cases h3:xb=ya
 . rw [if_pos h3]
   rw [decide_eq_true h3] at e3
   exact vt [hc e1,hc e2,hc e3] (by kernel_rfl)
 rw [if_neg h3]
 rw [decide_eq_false h3] at e3
 by_cases h4:xb=yb
 . rw [if_pos h4]
   rw [decide_eq_true h4] at e4
   exact vt [hc e1,hc e2,hc e3,hc e4] (by kernel_rfl)
 rw [if_neg h4]
 rw [decide_eq_false h4] at e4
 exact vt [hc e1,hc e2,hc e3,hc e4] (by kernel_rfl)
theorem Li (nm:List UInt8) (x:CX) (hx:x.Sm 20) (p:Q2) (hp:bl 20 p) {b:Bool} (Z1 Z2:Nm b):VP Tryz.prog G 53 [x.av,V2 p,aV Z1 Z2] (eK nm x p Z1 Z2).cv:=by
 have e1:=qb G x.a p (hx.1.mono (by omega)) (hp.mono (by omega))
 obtain ⟨xr,xa,xb,xc,xw⟩:=x
 obtain ⟨l,m,pl,pm⟩:=Z1
 obtain ⟨l2,m2,o9,pc⟩:=Z2
 dsimp only at e1
 unfold eK
 by_cases h1:xa=p
 . rw [decide_eq_true h1] at e1
   rw [if_pos h1]
   cases b<;>exact vt [hc e1] (by kernel_rfl)
 . rw [decide_eq_false h1] at e1
   rw [if_neg h1]
   cases b<;>exact vt [hc e1] (by kernel_rfl)
theorem yv (u v:Q2) (hu:bl 41 u) (hv:bl 41 v):aC Tryz.prog G 41 [V2 u,V2 v] (NV (cX (-u.2,u.1) v)):=by
 have h:VP Tryz.prog G 99 [V2 u,V2 v] (.tup [NV (cX (-u.2,u.1) v), .int .i64 0]):=vt [hc (DB G u (hu.mono (by omega))),hc (IF G (-u.2,u.1) v ⟨hu.2.neg.mono (by omega),hu.1.mono (by omega)⟩ (hv.mono (by omega)))] (by kernel_rfl)
 exact aC.tr hN [hc h,au [1] (YP G (cX (-u.2,u.1) v))] (by kernel_rfl)
theorem afB (u v:Q2) (hu:bl 41 u) (hv:bl 41 v):aC Tryz.prog G 49 [V2 u,V2 v] (NV (cX u v)) :=
 aC.tr hN [hc (IF G u v (hu.mono (by omega)) (hv.mono (by omega))),au [1] (YP G (cX u v))] (by kernel_rfl)
theorem Lj (nm:List UInt8) (l:List NX) (a b:List UInt8) (i:VL.Id):ah (ae.of [(i,⟨[.str a, .str b],1,false⟩)]) [.str nm,lg l, .osl i 1 0 2 false] [.str nm,lg l,strs [a,b]]:=ah.cons (View.pure PU.pure) (ah.cons (View.pure PU.pure) (ah.cons (kr (b:=false) (by simp [ae.of]) rfl rfl (by intro c hc;rcases List.mem_singleton.1 hc with rfl;exact PU.pure) (by intro c hc;rcases List.mem_singleton.1 hc with rfl;exact PU.pure)) ah.nil))
theorem aag (nm:List UInt8) (l:List NX) (a b:List UInt8) (r:Rat) (hl:l.length<=1000) (fP:dk nm l [a,b]≠0):VP Tryz.prog G 10 [.str nm,lg l, .str a, .str b,QV r] (.tup [.nils, .int .i64 (dk nm l [a,b])]):=by
 have hI:=afx G nm l hl a b
 exact vt [bm [([7],⟨[.str a, .str b],1,false⟩)] hI (Lj nm l a b [7]),hb 42 (bne_iff_ne.2 fP)] (by kernel_rfl)
structure Ao (l:List NX) (a b:List UInt8) (x y:CX) (i j:Nat) (X Y:NX):Prop where
 hi:gV l a=(i:Int)
 hj:gV l b=(j:Int)
 hX:l[i]? = some X
 hY:l[j]? = some Y
 ne:i≠j
 eX:X.c=x
 eY:Y.c=y
variable {G}
def NH (nm:List UInt8) (l:List NX) (a b:List UInt8) (x y:CX) (i j:Nat) (X Y:NX) (hl:l.length<=1000) (fP:dk nm l [a,b]=0) (P:Ao l a b x y i j X Y) (o:AV) [PU o] (lJ:VP Tryz.prog G 38 [x.av,y.av] o):List (Hint Tryz.prog G) :=
 [bm [([7],⟨[.str a, .str b],1,false⟩)] (fP▸afx G nm l hl a b:VP Tryz.prog G 37 [.str nm,lg l,strs [a,b]] (.int .i64 0)) (Lj nm l a b [7]),hc (P.hi▸wP G l hl a:VP Tryz.prog G 12 [lg l, .str a] (.int .i64 (i:Int))),hc (P.hj▸wP G l hl b:VP Tryz.prog G 12 [lg l, .str b] (.int .i64 (j:Int))),ho 52 (zS P.hX),ho 57 (zS P.hY),hc lJ]
variable (G)
set_option maxHeartbeats 2000000 in
theorem aah (nm:List UInt8) (l:List NX) (a b:List UInt8) (r:Rat) (x y:CX) (i j:Nat) (X Y:NX) (hl:l.length<=1000) (fP:dk nm l [a,b]=0) (P:Ao l a b x y i j X Y) (hx:x.Sm 20) (hy:y.Sm 20) (A9:x.mF=true∨y.mF=true∨o0 x y=none):VP Tryz.prog G 10 [.str nm,lg l, .str a, .str b,QV r] (.tup [.nils, .int .i64 1]):=by
 have lJ:=lU G x y hx hy
 generalize o0 x y=o at *
 obtain ⟨xn,xr,xa,xb,xc,xw⟩:=X
 obtain ⟨yn,yr,ya,yb,yc,yw⟩:=Y
 obtain rfl:=P.eX
 obtain rfl:=P.eY
 dsimp only at A9
 cases o with
 | none=>cases xr<;>cases yr<;>exact vt (NH nm l a b _ _ i j _ _ hl fP P _ lJ) (by kernel_rfl)
 | some t =>
   obtain ⟨p,u,v⟩:=t
   cases xr<;>cases yr
   . rcases A9 with h | h | h<;>cases h
   all_goals exact vt (NH nm l a b _ _ i j _ _ hl fP P _ lJ) (by kernel_rfl)
set_option maxHeartbeats 2000000 in
theorem aai (nm:List UInt8) (l:List NX) (a b:List UInt8) (r:Rat) (x y:CX) (p u v:Q2) (i j:Nat) (X Y:NX) (hl:l.length<=1000) (fP:dk nm l [a,b]=0) (P:Ao l a b x y i j X Y) (C:qd l a b x y p u v) (sr:Sm 20 r) (h0:az r<=0):VP Tryz.prog G 10 [.str nm,lg l, .str a, .str b,QV r] (.tup [.nils, .int .i64 6]):=by
 have lJ:=lU G x y C.hx C.hy
 rw [C.c] at lJ
 have hs:=GK G r (sr.mono (by omega))
 obtain ⟨xn,xr,xa,xb,xc,xw⟩:=X
 obtain ⟨yn,yr,ya,yb,yc,yw⟩:=Y
 obtain rfl:=P.eX
 obtain rfl:=P.eY
 obtain rfl:xr=false:=C.xs
 obtain rfl:yr=false:=C.ys
 exact vt (NH nm l a b _ _ i j _ _ hl fP P _ lJ++[hc hs,hb 80 (ai h0)]) (by kernel_rfl)
end
end Go.Proofs.YtndoagbiakehnaaGreat
end

section
set_option maxRecDepth 100000
namespace Go.Proofs.YtndoagbiakehnaaGreat
open Go.VL Go.Proofs Go.Lib
section
variable (G:Nat->Option (List AV))
variable {G}
def rj0 (K:VL.Id) (f:FG) (hf:f.Sm) (s:Int) (hs:VP Tryz.prog G 42 [NV f.x] (.int .i64 s)) (h0 : ¬ az f.r<=0):List (Hint Tryz.prog G) :=
 [hc (GK G f.r (hf.r.mono (by omega))),hb 80 (ag h0),hc (Ck G f.r),au K (wI G f.a f.p (hf.a.mono (by omega)) (hf.p.mono (by omega)):aC Tryz.prog G 40 [V2 f.a,V2 f.p] (V2 f.u)),au K (wI G f.b f.p (hf.b.mono (by omega)) (hf.p.mono (by omega)):aC Tryz.prog G 40 [V2 f.b,V2 f.p] (V2 f.v)),au K (yv G f.u f.v hf.u hf.v:aC Tryz.prog G 41 [V2 f.u,V2 f.v] (NV f.x)),hc hs]
def UL (K:VL.Id) (f:FG) (hf:f.Sm) (ew:f.x=f.w) (s:Int) (hs:VP Tryz.prog G 42 [NV f.x] (.int .i64 s)) (h0 : ¬ az f.r<=0):List (Hint Tryz.prog G) :=
 [hc (GK G f.r (hf.r.mono (by omega))),hb 80 (ag h0),hc (Ck G f.r),au K (wI G f.a f.p (hf.a.mono (by omega)) (hf.p.mono (by omega)):aC Tryz.prog G 40 [V2 f.a,V2 f.p] (V2 f.u)),au K (wI G f.b f.p (hf.b.mono (by omega)) (hf.p.mono (by omega)):aC Tryz.prog G 40 [V2 f.b,V2 f.p] (V2 f.v)),au K (ew▸(yv G f.u f.v hf.u hf.v:aC Tryz.prog G 41 [V2 f.u,V2 f.v] (NV f.x)):aC Tryz.prog G 41 [V2 f.u,V2 f.v] (NV f.w)),hc (ew▸hs:VP Tryz.prog G 42 [NV f.w] (.int .i64 s))]
def WU (K:VL.Id) {f:FG} {bA bB bT:Bool} {v:RV bA bB bT} {sx sy:Int} (hf:f.Sm) (hM:VP Tryz.prog G 102 [NV (cX f.u f.u)] (.tup [v.M.av, .int .i64 0])) (hN:VP Tryz.prog G 102 [NV (cX f.v f.v)] (.tup [v.N.av, .int .i64 0])) (n:RN G f v sx sy 106 108 105 104 42):List (Hint Tryz.prog G) :=
 [au K (DC G f.u (hf.u.mono (by omega))),au K (RT G hM),au K (DC G f.v (hf.v.mono (by omega))),au K (RT G hN),au K (RQ G n.mn),au K (afB G f.u f.v hf.u hf.v:aC Tryz.prog G 49 [V2 f.u,V2 f.v] (NV f.d)),au K (afp G (Y:=nR f.d) n.s:aC Tryz.prog G 48 [v.MN.av,NV f.d] v.S.av),au K (RQ G (X:=nR f.r) n.rs:aC Tryz.prog G 47 [NV f.r,v.S.av] v.RS.av),au K (Cy G (Y:=nR f.w) n.t:aC Tryz.prog G 46 [v.RS.av,NV f.w] v.T.av),au K (Al G n.x),hc n.gx]
def rj2 (K:VL.Id) {f:FG} {bA bB bT:Bool} {v:RV bA bB bT} {sx sy:Int} (n:RN G f v sx sy 106 108 105 104 42):List (Hint Tryz.prog G) :=
 [au K (Cy G n.tm),au K (vG G (X1:=nR f.u.1) (X2:=nR f.u.2) n.d1 n.d2:aC Tryz.prog G 52 [V2 f.u,v.TM.av] (aV v.D1 v.D2)),au K (D6 G (X1:=nR f.p.1) (X2:=nR f.p.2) n.f1 n.f2:aC Tryz.prog G 51 [V2 f.p,aV v.D1 v.D2] (aV v.F1 v.F2)),au K (Cy G n.tn),au K (vG G (X1:=nR f.v.1) (X2:=nR f.v.2) n.h1 n.h2:aC Tryz.prog G 52 [V2 f.v,v.TN.av] (aV v.H1 v.H2)),au K (D6 G (X1:=nR f.p.1) (X2:=nR f.p.2) n.p1 n.p2:aC Tryz.prog G 51 [V2 f.p,aV v.H1 v.H2] (aV v.P1 v.P2)),au K (Cy G (X:=nR f.r) n.rm:aC Tryz.prog G 46 [NV f.r,v.M.av] v.RM.av),au K (vG G (X1:=nR f.u.1) (X2:=nR f.u.2) n.a1 n.a2:aC Tryz.prog G 52 [V2 f.u,v.RM.av] (aV v.A1 v.A2)),au K (Cy G (X:=nR f.r) n.rn:aC Tryz.prog G 46 [NV f.r,v.N.av] v.RN.av),au K (vG G (X1:=nR f.v.1) (X2:=nR f.v.2) n.b1 n.b2:aC Tryz.prog G 52 [V2 f.v,v.RN.av] (aV v.B1 v.B2)),au K (D6 G n.c1 n.c2),au K (RQ G n.mn),au K (Cy G (Y:=nR f.w) n.mc:aC Tryz.prog G 46 [v.MN.av,NV f.w] v.MC.av),au K (vG G n.k1 n.k2),au K (D6 G (X1:=nR f.p.1) (X2:=nR f.p.2) n.q1 n.q2:aC Tryz.prog G 51 [V2 f.p,aV v.K1 v.K2] (aV v.Q1 v.Q2))]
variable (G)
theorem aaj (nm:List UInt8) (l:List NX) (a b:List UInt8) (f:FG) (x y:CX) (i j:Nat) (X Y:NX) (hl:l.length<=1000) (fP:dk nm l [a,b]=0) (P:Ao l a b x y i j X Y) (C:qd l a b x y f.p f.a f.b) (hf:f.Sm) (h0 : ¬ az f.r<=0) (hx:f.x=0):VP Tryz.prog G 10 [.str nm,lg l, .str a, .str b,QV f.r] (.tup [.nils, .int .i64 10]):=by
 have lJ:=lU G x y C.hx C.hy
 rw [C.c] at lJ
 have hs:=kt G f.x (hf.x.mono (by omega))
 rw [show az f.x=0 from by rw [hx];rfl] at hs
 obtain ⟨xn,xr,xa,xb,xc,xw⟩:=X
 obtain ⟨yn,yr,ya,yb,yc,yw⟩:=Y
 obtain rfl:=P.eX
 obtain rfl:=P.eY
 obtain rfl:xr=false:=C.xs
 obtain rfl:yr=false:=C.ys
 exact vt (NH nm l a b _ _ i j _ _ hl fP P _ lJ++rj0 [63] f hf 0 hs h0) (by kernel_rfl)
section
set_option maxHeartbeats 2000000 in
theorem aak (nm:List UInt8) (l:List NX) (a b:List UInt8) (f:FG) (x y:CX) (i j:Nat) (X Y:NX) (hl:l.length<=1000) (fP:dk nm l [a,b]=0) (P:Ao l a b x y i j X Y) (C:qd l a b x y f.p f.a f.b) (hf:f.Sm) (h0 : ¬ az f.r<=0) {bA bB bT:Bool} (rP:bT=(bA||bB)) {v:RV bA bB bT} {sx sy:Int} (hM:VP Tryz.prog G 102 [NV (cX f.u f.u)] (.tup [v.M.av, .int .i64 0])) (hN:VP Tryz.prog G 102 [NV (cX f.v f.v)] (.tup [v.N.av, .int .i64 0])) (n:RN G f v sx sy 106 108 105 104 42) (e:az f.x = -1) (h1:sx<=0):VP Tryz.prog G 10 [.str nm,lg l, .str a, .str b,QV f.r] (.tup [.nils, .int .i64 16]):=by
 have lJ:=lU G x y C.hx C.hy
 rw [C.c] at lJ
 have hs:=kt G f.x (hf.x.mono (by omega))
 have hn:=xE G f.x (hf.x.mono (by omega))
 rw [show -f.x=f.w from by unfold FG.w;rw [if_pos (by omega)]] at hn
 rw [e] at hs
 obtain ⟨xn,xr,xa,xb,xc,xw⟩:=X
 obtain ⟨yn,yr,ya,yb,yc,yw⟩:=Y
 obtain rfl:=P.eX
 obtain rfl:=P.eY
 obtain rfl:xr=false:=C.xs
 obtain rfl:yr=false:=C.ys
 cases bA<;>cases bB<;>cases bT<;>first | exact absurd rP (by decide) | exact vt (NH nm l a b _ _ i j _ _ hl fP P _ lJ++(rj0 [63] f hf (-1) hs h0++hc hn::(WU [63] hf hM hN n++[hb 136 (ai h1)]))) (by kernel_rfl)
set_option maxHeartbeats 2000000 in
theorem aal (nm:List UInt8) (l:List NX) (a b:List UInt8) (f:FG) (x y:CX) (i j:Nat) (X Y:NX) (hl:l.length<=1000) (fP:dk nm l [a,b]=0) (P:Ao l a b x y i j X Y) (C:qd l a b x y f.p f.a f.b) (hf:f.Sm) (h0 : ¬ az f.r<=0) {bA bB bT:Bool} (rP:bT=(bA||bB)) {v:RV bA bB bT} {sx sy:Int} (hM:VP Tryz.prog G 102 [NV (cX f.u f.u)] (.tup [v.M.av, .int .i64 0])) (hN:VP Tryz.prog G 102 [NV (cX f.v f.v)] (.tup [v.N.av, .int .i64 0])) (n:RN G f v sx sy 106 108 105 104 42) (e:az f.x = -1) (h1 : ¬ sx<=0) (h2:sy<=0):VP Tryz.prog G 10 [.str nm,lg l, .str a, .str b,QV f.r] (.tup [.nils, .int .i64 16]):=by
 have lJ:=lU G x y C.hx C.hy
 rw [C.c] at lJ
 have hs:=kt G f.x (hf.x.mono (by omega))
 have hn:=xE G f.x (hf.x.mono (by omega))
 rw [show -f.x=f.w from by unfold FG.w;rw [if_pos (by omega)]] at hn
 rw [e] at hs
 obtain ⟨xn,xr,xa,xb,xc,xw⟩:=X
 obtain ⟨yn,yr,ya,yb,yc,yw⟩:=Y
 obtain rfl:=P.eX
 obtain rfl:=P.eY
 obtain rfl:xr=false:=C.xs
 obtain rfl:yr=false:=C.ys
 cases bA<;>cases bB<;>cases bT<;>first | exact absurd rP (by decide) | exact vt (NH nm l a b _ _ i j _ _ hl fP P _ lJ++(rj0 [63] f hf (-1) hs h0++hc hn::(WU [63] hf hM hN n++[hb 136 (ag h1),au [63] (Al G n.y),hc n.gy,hb 143 (ai h2)]))) (by kernel_rfl)
set_option maxHeartbeats 2000000 in
theorem aam (nm:List UInt8) (l:List NX) (a b:List UInt8) (f:FG) (x y:CX) (i j:Nat) (X Y:NX) (hl:l.length<=1000) (fP:dk nm l [a,b]=0) (P:Ao l a b x y i j X Y) (C:qd l a b x y f.p f.a f.b) (hf:f.Sm) (h0 : ¬ az f.r<=0) {bA bB bT:Bool} (rP:bT=(bA||bB)) {v:RV bA bB bT} {sx sy:Int} (hM:VP Tryz.prog G 102 [NV (cX f.u f.u)] (.tup [v.M.av, .int .i64 0])) (hN:VP Tryz.prog G 102 [NV (cX f.v f.v)] (.tup [v.N.av, .int .i64 0])) (n:RN G f v sx sy 106 108 105 104 42) (e:az f.x=1) (h1:sx<=0):VP Tryz.prog G 10 [.str nm,lg l, .str a, .str b,QV f.r] (.tup [.nils, .int .i64 16]):=by
 have lJ:=lU G x y C.hx C.hy
 rw [C.c] at lJ
 have hs:=kt G f.x (hf.x.mono (by omega))
 have ew:f.x=f.w:=by unfold FG.w;rw [if_neg (by omega)]
 have hk:=yv G f.u f.v hf.u hf.v
 rw [e] at hs
 obtain ⟨xn,xr,xa,xb,xc,xw⟩:=X
 obtain ⟨yn,yr,ya,yb,yc,yw⟩:=Y
 obtain rfl:=P.eX
 obtain rfl:=P.eY
 obtain rfl:xr=false:=C.xs
 obtain rfl:yr=false:=C.ys
 cases bA<;>cases bB<;>cases bT<;>first | exact absurd rP (by decide) | exact vt (NH nm l a b _ _ i j _ _ hl fP P _ lJ++(UL [63] f hf ew 1 hs h0++(WU [63] hf hM hN n++[hb 136 (ai h1)]))) (by kernel_rfl)
set_option maxHeartbeats 2000000 in
theorem aan (nm:List UInt8) (l:List NX) (a b:List UInt8) (f:FG) (x y:CX) (i j:Nat) (X Y:NX) (hl:l.length<=1000) (fP:dk nm l [a,b]=0) (P:Ao l a b x y i j X Y) (C:qd l a b x y f.p f.a f.b) (hf:f.Sm) (h0 : ¬ az f.r<=0) {bA bB bT:Bool} (rP:bT=(bA||bB)) {v:RV bA bB bT} {sx sy:Int} (hM:VP Tryz.prog G 102 [NV (cX f.u f.u)] (.tup [v.M.av, .int .i64 0])) (hN:VP Tryz.prog G 102 [NV (cX f.v f.v)] (.tup [v.N.av, .int .i64 0])) (n:RN G f v sx sy 106 108 105 104 42) (e:az f.x=1) (h1 : ¬ sx<=0) (h2:sy<=0):VP Tryz.prog G 10 [.str nm,lg l, .str a, .str b,QV f.r] (.tup [.nils, .int .i64 16]):=by
 have lJ:=lU G x y C.hx C.hy
 rw [C.c] at lJ
 have hs:=kt G f.x (hf.x.mono (by omega))
 have ew:f.x=f.w:=by unfold FG.w;rw [if_neg (by omega)]
 have hk:=yv G f.u f.v hf.u hf.v
 rw [e] at hs
 obtain ⟨xn,xr,xa,xb,xc,xw⟩:=X
 obtain ⟨yn,yr,ya,yb,yc,yw⟩:=Y
 obtain rfl:=P.eX
 obtain rfl:=P.eY
 obtain rfl:xr=false:=C.xs
 obtain rfl:yr=false:=C.ys
 cases bA<;>cases bB<;>cases bT<;>first | exact absurd rP (by decide) | exact vt (NH nm l a b _ _ i j _ _ hl fP P _ lJ++(UL [63] f hf ew 1 hs h0++(WU [63] hf hM hN n++[hb 136 (ag h1),au [63] (Al G n.y),hc n.gy,hb 143 (ai h2)]))) (by kernel_rfl)
end
end
end Go.Proofs.YtndoagbiakehnaaGreat
end

section
set_option maxRecDepth 100000
namespace Go.Proofs.YtndoagbiakehnaaGreat
open Go.VL Go.Proofs Go.Lib
section
variable (G:Nat->Option (List AV))
section
set_option maxHeartbeats 2000000 in
theorem aao (nm:List UInt8) (l:List NX) (a b:List UInt8) (f:FG) (x y:CX) (i j:Nat) (X Y:NX) (hl:l.length<=1000) (fP:dk nm l [a,b]=0) (P:Ao l a b x y i j X Y) (C:qd l a b x y f.p f.a f.b) (hf:f.Sm) (h0 : ¬ az f.r<=0) {bA bB bT:Bool} (rP:bT=(bA||bB)) {v:RV bA bB bT} {sx sy:Int} (hM:VP Tryz.prog G 102 [NV (cX f.u f.u)] (.tup [v.M.av, .int .i64 0])) (hN:VP Tryz.prog G 102 [NV (cX f.v f.v)] (.tup [v.N.av, .int .i64 0])) (n:RN G f v sx sy 106 108 105 104 42) (e:az f.x = -1) (h1 : ¬ sx<=0) (h2 : ¬ sy<=0) (x3:nm.length<=1000) (sp:bl 20 f.p):VP Tryz.prog G 10 [.str nm,lg l, .str a, .str b,QV f.r] (xX (kD l i j (eK X.name x f.p v.F1 v.F2) (eK Y.name y f.p v.P1 v.P2)) [gw nm v.F1 v.F2 v.P1 v.P2 v.Q1 v.Q2 false]):=by
 have lJ:=lU G x y C.hx C.hy
 rw [C.c] at lJ
 have hs:=kt G f.x (hf.x.mono (by omega))
 have hn:=xE G f.x (hf.x.mono (by omega))
 rw [show -f.x=f.w from by unfold FG.w;rw [if_pos (by omega)]] at hn
 rw [e] at hs
 have hX:=P.hX
 have hY:=P.hY
 have hne:=P.ne
 have x5:l≠[]:=by rintro rfl;simp at hX
 have hli:i<l.length:=(List.getElem?_eq_some_iff.1 hX).1
 have Xv:j<l.length:=(List.getElem?_eq_some_iff.1 hY).1
 have r1:=Li G X.name x C.hx f.p sp v.F1 v.F2
 have r2:=Li G Y.name y C.hy f.p sp v.P1 v.P2
 have n1:(eK X.name x f.p v.F1 v.F2).name=X.name:=by unfold eK;split<;>rfl
 have n2:(eK Y.name y f.p v.P1 v.P2).name=Y.name:=by unfold eK;split<;>rfl
 generalize eK X.name x f.p v.F1 v.F2=A at *
 generalize eK Y.name y f.p v.P1 v.P2=B at *
 have k1:bG 15 (.osl [207] 15 0 l.length false) (.int .i64 (i:Int))=some (.ref [207] i 0):=wQ hli
 have k2:bG 15 (.osl [207] 15 0 l.length false) (.int .i64 (j:Int))=some (.ref [207] j 0):=wQ Xv
 have a1:∀ (σ : ae) (p:VL.Id),(∀ y∈([]:List (VL.Id × cN)), σ y.1=some y.2)->bu σ p (.append 15 320 (.tsl 15 []) (lg l))=some { val := .osl p 15 0 l.length false,rd:=[],up:=[(p,some ⟨l.map NX.av,15,false⟩)] }:=fun σ p _=>by
   have:=yq (σ := σ) (p:=p) (l:=l.map NX.toY) (by simpa using x5) (by simp;omega)
   rw [pX,List.length_map] at this
   rw [show (l.map NX.toY).map NY.av=l.map NX.av from by rw [List.map_map];rfl] at this
   exact this
 have s1:∀ (σ : ae) (p:VL.Id),(∀ z∈[(([207]:VL.Id),(⟨l.map NX.av,15,false⟩:cN))], σ z.1=some z.2)->bu σ p (.store 14 (.ref [207] i 1) A.cv)=some { val := .tup [],rd:=[[207]],up:=[([207],some ⟨(l.map NX.av).set i A.av,15,false⟩)] }:=fun σ _ hσ => o6 (x:=X) (hσ ([207],_) (by simp)) (by rw [List.getElem?_map,hX];rfl) n1
 have s2:∀ (σ : ae) (p:VL.Id),(∀ z∈[(([207]:VL.Id),(⟨(l.map NX.av).set i A.av,15,false⟩:cN))], σ z.1=some z.2)->bu σ p (.store 14 (.ref [207] j 1) B.cv)=some { val := .tup [],rd:=[[207]],up:=[([207],some ⟨((l.map NX.av).set i A.av).set j B.av,15,false⟩)] }:=fun σ _ hσ => o6 (x:=Y) (hσ ([207],_) (by simp)) (by rw [List.getElem?_set_ne hne,List.getElem?_map,hY];rfl) n2
 have zT:=pR (a:=nm) (b:=[47,48]) (by simp;omega)
 have hw:=RZ G (kD l i j A B) [gw nm v.F1 v.F2 v.P1 v.P2 v.Q1 v.Q2 false] (by intro e;have:=congrArg List.length e;rw [iW] at this;simp at this;exact x5 this) (by simp) (by rw [iW];exact hl) (by simp)
 have hv:ah (ae.of [(([207]:VL.Id),(⟨((l.map NX.av).set i A.av).set j B.av,15,false⟩:cN)),([237],⟨[(gw nm v.F1 v.F2 v.P1 v.P2 v.Q1 v.Q2 false).av],15,false⟩)]) [.osl [207] 15 0 l.length false, .osl [237] 15 0 1 false] [iw (kD l i j A B),iw [gw nm v.F1 v.F2 v.P1 v.P2 v.Q1 v.Q2 false]]:=by
   have h1:=nr (σ := ae.of [(([207]:VL.Id),(⟨((l.map NX.av).set i A.av).set j B.av,15,false⟩:cN)),([237],⟨[(gw nm v.F1 v.F2 v.P1 v.P2 v.Q1 v.Q2 false).av],15,false⟩)]) (id:=[207]) (l:=kD l i j A B) (b:=false) (t:=false) (by rw [Am];simp [ae.of])
   rw [iW] at h1
   have h2:=nr (σ := ae.of [(([207]:VL.Id),(⟨((l.map NX.av).set i A.av).set j B.av,15,false⟩:cN)),([237],⟨[(gw nm v.F1 v.F2 v.P1 v.P2 v.Q1 v.Q2 false).av],15,false⟩)]) (id:=[237]) (l:=[gw nm v.F1 v.F2 v.P1 v.P2 v.Q1 v.Q2 false]) (b:=false) (t:=false) (by simp [ae.of,List.lookup])
   exact ah.cons h1 (ah.cons h2 ah.nil)
 obtain ⟨xn,xr,xa,xb,xc,xw⟩:=X
 obtain ⟨yn,yr,ya,yb,yc,yw⟩:=Y
 obtain rfl:=P.eX
 obtain rfl:=P.eY
 obtain rfl:xr=false:=C.xs
 obtain rfl:yr=false:=C.ys
 unfold xX at hw ⊢
 by_cases Xp:lA (kD l i j A B) [gw nm v.F1 v.F2 v.P1 v.P2 v.Q1 v.Q2 false]=0
 . rw [if_pos Xp] at hw ⊢
   generalize kD l i j A B++[gw nm v.F1 v.F2 v.P1 v.P2 v.Q1 v.Q2 false]=M at *
   cases bA<;>cases bB<;>cases bT<;>first | exact absurd rP (by decide) | exact vt (NH nm l a b _ _ i j _ _ hl fP P _ lJ++(rj0 [63] f hf (-1) hs h0++hc hn::(WU [63] hf hM hN n++hb 136 (ag h1)::au [63] (Al G n.y)::hc n.gy::hb 143 (ag h2)::(rj2 [63] n++[.st 205 [] _ _ a1,hc r1,hc r2,ho 218 k1, .st 100219 _ _ _ s1,ho 220 k2, .st 100221 _ _ _ s2,ho 224 zT,bm [([207],⟨((l.map NX.av).set i A.av).set j B.av,15,false⟩),([237],⟨[(gw nm v.F1 v.F2 v.P1 v.P2 v.Q1 v.Q2 false).av],15,false⟩)] hw hv])))) (by kernel_rfl)
 . rw [if_neg Xp] at hw ⊢
   generalize lA (kD l i j A B) [gw nm v.F1 v.F2 v.P1 v.P2 v.Q1 v.Q2 false]=M at *
   cases bA<;>cases bB<;>cases bT<;>first | exact absurd rP (by decide) | exact vt (NH nm l a b _ _ i j _ _ hl fP P _ lJ++(rj0 [63] f hf (-1) hs h0++hc hn::(WU [63] hf hM hN n++hb 136 (ag h1)::au [63] (Al G n.y)::hc n.gy::hb 143 (ag h2)::(rj2 [63] n++[.st 205 [] _ _ a1,hc r1,hc r2,ho 218 k1, .st 100219 _ _ _ s1,ho 220 k2, .st 100221 _ _ _ s2,ho 224 zT,bm [([207],⟨((l.map NX.av).set i A.av).set j B.av,15,false⟩),([237],⟨[(gw nm v.F1 v.F2 v.P1 v.P2 v.Q1 v.Q2 false).av],15,false⟩)] hw hv])))) (by kernel_rfl)
end
end
end Go.Proofs.YtndoagbiakehnaaGreat
end

section
set_option maxRecDepth 100000
namespace Go.Proofs.YtndoagbiakehnaaGreat
open Go.VL Go.Proofs Go.Lib
section
variable (G:Nat->Option (List AV))
section
set_option maxHeartbeats 2000000 in
theorem aap (nm:List UInt8) (l:List NX) (a b:List UInt8) (f:FG) (x y:CX) (i j:Nat) (X Y:NX) (hl:l.length<=1000) (fP:dk nm l [a,b]=0) (P:Ao l a b x y i j X Y) (C:qd l a b x y f.p f.a f.b) (hf:f.Sm) (h0 : ¬ az f.r<=0) {bA bB bT:Bool} (rP:bT=(bA||bB)) {v:RV bA bB bT} {sx sy:Int} (hM:VP Tryz.prog G 102 [NV (cX f.u f.u)] (.tup [v.M.av, .int .i64 0])) (hN:VP Tryz.prog G 102 [NV (cX f.v f.v)] (.tup [v.N.av, .int .i64 0])) (n:RN G f v sx sy 106 108 105 104 42) (e:az f.x=1) (h1 : ¬ sx<=0) (h2 : ¬ sy<=0) (x3:nm.length<=1000) (sp:bl 20 f.p):VP Tryz.prog G 10 [.str nm,lg l, .str a, .str b,QV f.r] (xX (kD l i j (eK X.name x f.p v.F1 v.F2) (eK Y.name y f.p v.P1 v.P2)) [gw nm v.F1 v.F2 v.P1 v.P2 v.Q1 v.Q2 true]):=by
 have lJ:=lU G x y C.hx C.hy
 rw [C.c] at lJ
 have hs:=kt G f.x (hf.x.mono (by omega))
 have ew:f.x=f.w:=by unfold FG.w;rw [if_neg (by omega)]
 rw [e] at hs
 have hX:=P.hX
 have hY:=P.hY
 have hne:=P.ne
 have x5:l≠[]:=by rintro rfl;simp at hX
 have hli:i<l.length:=(List.getElem?_eq_some_iff.1 hX).1
 have Xv:j<l.length:=(List.getElem?_eq_some_iff.1 hY).1
 have r1:=Li G X.name x C.hx f.p sp v.F1 v.F2
 have r2:=Li G Y.name y C.hy f.p sp v.P1 v.P2
 have n1:(eK X.name x f.p v.F1 v.F2).name=X.name:=by unfold eK;split<;>rfl
 have n2:(eK Y.name y f.p v.P1 v.P2).name=Y.name:=by unfold eK;split<;>rfl
 generalize eK X.name x f.p v.F1 v.F2=A at *
 generalize eK Y.name y f.p v.P1 v.P2=B at *
 have k1:bG 15 (.osl [204] 15 0 l.length false) (.int .i64 (i:Int))=some (.ref [204] i 0):=wQ hli
 have k2:bG 15 (.osl [204] 15 0 l.length false) (.int .i64 (j:Int))=some (.ref [204] j 0):=wQ Xv
 have a1:∀ (σ : ae) (p:VL.Id),(∀ y∈([]:List (VL.Id × cN)), σ y.1=some y.2)->bu σ p (.append 15 320 (.tsl 15 []) (lg l))=some { val := .osl p 15 0 l.length false,rd:=[],up:=[(p,some ⟨l.map NX.av,15,false⟩)] }:=fun σ p _=>by
   have:=yq (σ := σ) (p:=p) (l:=l.map NX.toY) (by simpa using x5) (by simp;omega)
   rw [pX,List.length_map] at this
   rw [show (l.map NX.toY).map NY.av=l.map NX.av from by rw [List.map_map];rfl] at this
   exact this
 have s1:∀ (σ : ae) (p:VL.Id),(∀ z∈[(([204]:VL.Id),(⟨l.map NX.av,15,false⟩:cN))], σ z.1=some z.2)->bu σ p (.store 14 (.ref [204] i 1) A.cv)=some { val := .tup [],rd:=[[204]],up:=[([204],some ⟨(l.map NX.av).set i A.av,15,false⟩)] }:=fun σ _ hσ => o6 (x:=X) (hσ ([204],_) (by simp)) (by rw [List.getElem?_map,hX];rfl) n1
 have s2:∀ (σ : ae) (p:VL.Id),(∀ z∈[(([204]:VL.Id),(⟨(l.map NX.av).set i A.av,15,false⟩:cN))], σ z.1=some z.2)->bu σ p (.store 14 (.ref [204] j 1) B.cv)=some { val := .tup [],rd:=[[204]],up:=[([204],some ⟨((l.map NX.av).set i A.av).set j B.av,15,false⟩)] }:=fun σ _ hσ => o6 (x:=Y) (hσ ([204],_) (by simp)) (by rw [List.getElem?_set_ne hne,List.getElem?_map,hY];rfl) n2
 have zT:=pR (a:=nm) (b:=[47,48]) (by simp;omega)
 have hw:=RZ G (kD l i j A B) [gw nm v.F1 v.F2 v.P1 v.P2 v.Q1 v.Q2 true] (by intro e;have:=congrArg List.length e;rw [iW] at this;simp at this;exact x5 this) (by simp) (by rw [iW];exact hl) (by simp)
 have hv:ah (ae.of [(([204]:VL.Id),(⟨((l.map NX.av).set i A.av).set j B.av,15,false⟩:cN)),([234],⟨[(gw nm v.F1 v.F2 v.P1 v.P2 v.Q1 v.Q2 true).av],15,false⟩)]) [.osl [204] 15 0 l.length false, .osl [234] 15 0 1 false] [iw (kD l i j A B),iw [gw nm v.F1 v.F2 v.P1 v.P2 v.Q1 v.Q2 true]]:=by
   have h1:=nr (σ := ae.of [(([204]:VL.Id),(⟨((l.map NX.av).set i A.av).set j B.av,15,false⟩:cN)),([234],⟨[(gw nm v.F1 v.F2 v.P1 v.P2 v.Q1 v.Q2 true).av],15,false⟩)]) (id:=[204]) (l:=kD l i j A B) (b:=false) (t:=false) (by rw [Am];simp [ae.of])
   rw [iW] at h1
   have h2:=nr (σ := ae.of [(([204]:VL.Id),(⟨((l.map NX.av).set i A.av).set j B.av,15,false⟩:cN)),([234],⟨[(gw nm v.F1 v.F2 v.P1 v.P2 v.Q1 v.Q2 true).av],15,false⟩)]) (id:=[234]) (l:=[gw nm v.F1 v.F2 v.P1 v.P2 v.Q1 v.Q2 true]) (b:=false) (t:=false) (by simp [ae.of,List.lookup])
   exact ah.cons h1 (ah.cons h2 ah.nil)
 obtain ⟨xn,xr,xa,xb,xc,xw⟩:=X
 obtain ⟨yn,yr,ya,yb,yc,yw⟩:=Y
 obtain rfl:=P.eX
 obtain rfl:=P.eY
 obtain rfl:xr=false:=C.xs
 obtain rfl:yr=false:=C.ys
 unfold xX at hw ⊢
 by_cases Xp:lA (kD l i j A B) [gw nm v.F1 v.F2 v.P1 v.P2 v.Q1 v.Q2 true]=0
 . rw [if_pos Xp] at hw ⊢
   generalize kD l i j A B++[gw nm v.F1 v.F2 v.P1 v.P2 v.Q1 v.Q2 true]=M at *
   cases bA<;>cases bB<;>cases bT<;>first | exact absurd rP (by decide) | exact vt (NH nm l a b _ _ i j _ _ hl fP P _ lJ++(UL [63] f hf ew 1 hs h0++(WU [63] hf hM hN n++hb 136 (ag h1)::au [63] (Al G n.y)::hc n.gy::hb 143 (ag h2)::(rj2 [63] n++[.st 205 [] _ _ a1,hc r1,hc r2,ho 218 k1, .st 100219 _ _ _ s1,ho 220 k2, .st 100221 _ _ _ s2,ho 224 zT,bm [([204],⟨((l.map NX.av).set i A.av).set j B.av,15,false⟩),([234],⟨[(gw nm v.F1 v.F2 v.P1 v.P2 v.Q1 v.Q2 true).av],15,false⟩)] hw hv])))) (by kernel_rfl)
 . rw [if_neg Xp] at hw ⊢
   generalize lA (kD l i j A B) [gw nm v.F1 v.F2 v.P1 v.P2 v.Q1 v.Q2 true]=M at *
   cases bA<;>cases bB<;>cases bT<;>first | exact absurd rP (by decide) | exact vt (NH nm l a b _ _ i j _ _ hl fP P _ lJ++(UL [63] f hf ew 1 hs h0++(WU [63] hf hM hN n++hb 136 (ag h1)::au [63] (Al G n.y)::hc n.gy::hb 143 (ag h2)::(rj2 [63] n++[.st 205 [] _ _ a1,hc r1,hc r2,ho 218 k1, .st 100219 _ _ _ s1,ho 220 k2, .st 100221 _ _ _ s2,ho 224 zT,bm [([204],⟨((l.map NX.av).set i A.av).set j B.av,15,false⟩),([234],⟨[(gw nm v.F1 v.F2 v.P1 v.P2 v.Q1 v.Q2 true).av],15,false⟩)] hw hv])))) (by kernel_rfl)
end
end
end Go.Proofs.YtndoagbiakehnaaGreat
end

section
set_option maxRecDepth 100000
namespace Go.Proofs.YtndoagbiakehnaaGreat
open Go.VL Go.Proofs Go.Lib
def Cz (G:Nat->Option (List AV)) (x:NY):Prop:=VP Tryz.prog G 112 [aV x.a1 x.a2] (.bool true)/\VP Tryz.prog G 112 [aV x.b1 x.b2] (.bool true)/\VP Tryz.prog G 112 [aV x.c1 x.c2] (.bool true)/\VP Tryz.prog G 113 [x.cv] (.bool true)/\VP Tryz.prog G 68 [x.cv,x.cv] (.bool true)
theorem I0 {x y:CX} {p u v:Q2} (h:o0 x y=some (p,u,v)):(x.a=p/\x.b=u∨x.b=p/\x.a=u)/\(y.a=p/\y.b=v∨y.b=p/\y.a=v):=by
 unfold o0 at h
 split at h
 . rename_i e;simp only [Option.some.injEq,Prod.mk.injEq] at h;obtain ⟨rfl,rfl,rfl⟩:=h;exact ⟨.inl ⟨rfl,rfl⟩, .inl ⟨e.symm,rfl⟩⟩
 split at h
 . rename_i e;simp only [Option.some.injEq,Prod.mk.injEq] at h;obtain ⟨rfl,rfl,rfl⟩:=h;exact ⟨.inl ⟨rfl,rfl⟩, .inr ⟨e.symm,rfl⟩⟩
 split at h
 . rename_i e;simp only [Option.some.injEq,Prod.mk.injEq] at h;obtain ⟨rfl,rfl,rfl⟩:=h;exact ⟨.inr ⟨rfl,rfl⟩, .inl ⟨e.symm,rfl⟩⟩
 split at h
 . rename_i e;simp only [Option.some.injEq,Prod.mk.injEq] at h;obtain ⟨rfl,rfl,rfl⟩:=h;exact ⟨.inr ⟨rfl,rfl⟩, .inr ⟨e.symm,rfl⟩⟩
 . cases h
theorem Hf {c:Cf} {x y:Q4} (h:c.sT (bO x (bQ y))=0):c.sT (bO y (bQ x))=0:=by
 have e:=c.zm _ (r2 (-1)) h
 have e2:bD c.q1 c.q2 (bO x (bQ y)) (r2 (-1))=bO y (bQ x):=by unfold bD aR cY bO cY bQ j3 r2;apply dt<;>simp only []<;>grind
 rw [e2] at e;exact e
section
variable {G:Nat->Option (List AV)}
theorem afD {b:Bool} (N1 N2:Nm b) (nm:List UInt8) (x:CX) (p a:Q2) (hs:x.mF=false) (hx:x.Sm 20) (hv:x.a≠x.b) (he:x.a=p/\x.b=a∨x.b=p/\x.a=a) (eA:VP Tryz.prog G 19 [aV N1 N2,V2 a] (.bool false)) (eB:VP Tryz.prog G 19 [V2 a,aV N1 N2] (.bool false)) (eZ:VP Tryz.prog G 19 [aV N1 N2,aV N1 N2] (.bool true)) (vZ:VP Tryz.prog G 112 [aV N1 N2] (.bool true)):Cz G (eK nm x p N1 N2):=by
 have sa:bl 20 a:=by
   rcases he with ⟨_,rfl⟩ | ⟨_,rfl⟩
   . exact hx.2.1
   . exact hx.1
 have eR:=qb G a a (sa.mono (by omega)) (sa.mono (by omega))
 rw [decide_eq_true rfl] at eR
 have vR:=Ae G a (sa.mono (by omega))
 have vC:=Ae G x.c (hx.2.2.mono (by omega))
 obtain ⟨xr,xa,xb,xc,xw⟩:=x
 obtain rfl:xr=false:=hs
 dsimp only at he hv vC
 obtain ⟨l1,m1,D3,D4⟩:=N1
 obtain ⟨l2,m2,o9,pc⟩:=N2
 unfold eK
 rcases he with ⟨rfl,rfl⟩ | ⟨rfl,rfl⟩
 . rw [if_pos rfl]
   refine ⟨vZ,vR,vC, ?_, ?_⟩
   . cases b<;>exact vt [hc eA] (by kernel_rfl)
   . cases b<;>exact vt [hc eZ,hc eR] (by kernel_rfl)
 . rw [if_neg hv]
   refine ⟨vR,vZ,vC, ?_, ?_⟩
   . cases b<;>exact vt [hc eB] (by kernel_rfl)
   . cases b<;>exact vt [hc eR,hc eZ] (by kernel_rfl)
theorem akH {b:Bool} (F1 F2 P1 P2 Q1 Q2 Z:Nm b) (nm:List UInt8) (w:Bool) (k1:aC Tryz.prog G 15 [aV F1 F2,aV Q1 Q2] Z.av) (k2:aC Tryz.prog G 15 [aV P1 P2,aV Q1 Q2] Z.av) (hs:VP Tryz.prog G 42 [Z.av] (.int .i64 1)) (he:VP Tryz.prog G 18 [Z.av,Z.av] (.bool true))
   (v1:VP Tryz.prog G 112 [aV F1 F2] (.bool true)) (v2:VP Tryz.prog G 112 [aV P1 P2] (.bool true)) (v3:VP Tryz.prog G 112 [aV Q1 Q2] (.bool true))
   (e1:VP Tryz.prog G 19 [aV F1 F2,aV F1 F2] (.bool true)) (e2:VP Tryz.prog G 19 [aV P1 P2,aV P1 P2] (.bool true)) (e3:VP Tryz.prog G 19 [aV Q1 Q2,aV Q1 Q2] (.bool true)):Cz G (gw nm F1 F2 P1 P2 Q1 Q2 w):=by
 obtain ⟨l1,m1,D3,D4⟩:=F1
 obtain ⟨l2,m2,o9,pc⟩:=F2
 obtain ⟨l3,m3,tR,tT⟩:=P1
 obtain ⟨l4,m4,Ld,Le⟩:=P2
 obtain ⟨l5,m5,NF,NG⟩:=Q1
 obtain ⟨l6,m6,Ha,Hb⟩:=Q2
 obtain ⟨l7,m7,Nj,Nk⟩:=Z
 refine ⟨v1,v2,v3, ?_, ?_⟩
 . cases b<;>exact vt [au [6] k1,au [6] k2,hc hs,hc he] (by kernel_rfl)
 . cases b<;>cases w<;>exact vt [hc e1,hc e2,hc e3] (by kernel_rfl)
end
section
variable {G:Nat->Option (List AV)} {c:Cf}
theorem Ay.eqP (P:Ay G c) (x1 x2:Q4) (s1:cC 1000 x1) (s2:cC 1000 x2):VP Tryz.prog G 19 [aV (c.nT x1) (c.nT x2),aV (c.nT x1) (c.nT x2)] (.bool true):=UD G (P.eqS x1 s1) (P.eqS x2 s2)
theorem Ay.UM (P:Ay G c) (x1 x2:Q4) (s1:cC 1000 x1) (s2:cC 1000 x2):VP Tryz.prog G 112 [aV (c.nT x1) (c.nT x2)] (.bool true):=afq G (P.vT x1 s1) (P.vT x2 s2)
theorem CA (P:Ay G c) (nm:List UInt8) (x:CX) (p a:Q2) (hs:x.mF=false) (hx:x.Sm 20) (hv:x.a≠x.b) (he:x.a=p/\x.b=a∨x.b=p/\x.a=a) (Z1 Z2:Q4) (z1:cC 700 Z1) (z2:cC 700 Z2) (hne : ¬ (c.sT (bO Z1 (bQ (r2 a.1)))=0/\c.sT (bO Z2 (bQ (r2 a.2)))=0)):Cz G (eK nm x p (c.nT Z1) (c.nT Z2)):=by
 have sa:bl 20 a:=by
   rcases he with ⟨_,rfl⟩ | ⟨_,rfl⟩
   . exact hx.2.1
   . exact hx.1
 have r1:cC 20 (r2 a.1):=eh sa.1 (by omega)
 have r2':cC 20 (r2 a.2):=eh sa.2 (by omega)
 have dif:∀ {X Y:Q4},cC 700 X->cC 20 Y->cC 800 (bO X (bQ Y))/\cC 800 (bO Y (bQ X)):=fun {X Y} h1 h2 =>
   ⟨⟨⟨(h1.1.1.add h2.1.1.neg).mono (by omega),(h1.1.2.add h2.1.2.neg).mono (by omega)⟩,⟨(h1.2.1.add h2.2.1.neg).mono (by omega),(h1.2.2.add h2.2.2.neg).mono (by omega)⟩⟩,⟨⟨(h2.1.1.add h1.1.1.neg).mono (by omega),(h2.1.2.add h1.1.2.neg).mono (by omega)⟩,⟨(h2.2.1.add h1.2.1.neg).mono (by omega),(h2.2.2.add h1.2.2.neg).mono (by omega)⟩⟩⟩
 have q1:=P.eq (k := .T) (l := .R) rfl Z1 (r2 a.1) trivial rfl (z1.mono (by omega)) (r1.mono (by omega)) (dif z1 r1).1
 have q2:=P.eq (k := .T) (l := .R) rfl Z2 (r2 a.2) trivial rfl (z2.mono (by omega)) (r2'.mono (by omega)) (dif z2 r2').1
 have q3:=P.eq (k := .R) (l := .T) rfl (r2 a.1) Z1 rfl trivial (r1.mono (by omega)) (z1.mono (by omega)) (dif z1 r1).2
 have q4:=P.eq (k := .R) (l := .T) rfl (r2 a.2) Z2 rfl trivial (r2'.mono (by omega)) (z2.mono (by omega)) (dif z2 r2').2
 have eA:=UD G (X1:=c.nT Z1) (X2:=c.nT Z2) (Y1:=nR a.1) (Y2:=nR a.2) q1 q2
 have eB:=UD G (X1:=nR a.1) (X2:=nR a.2) (Y1:=c.nT Z1) (Y2:=c.nT Z2) q3 q4
 have f1:(decide (c.sT (bO Z1 (bQ (r2 a.1)))=0)&&decide (c.sT (bO Z2 (bQ (r2 a.2)))=0))=false:=by
   rw [<- Bool.decide_and];exact decide_eq_false hne
 have f2:(decide (c.sT (bO (r2 a.1) (bQ Z1))=0)&&decide (c.sT (bO (r2 a.2) (bQ Z2))=0))=false:=by
   rw [<- Bool.decide_and];exact decide_eq_false fun h=>hne ⟨Hf h.1,Hf h.2⟩
 rw [f1] at eA
 rw [f2] at eB
 exact afD _ _ nm x p a hs hx hv he eA eB (P.eqP Z1 Z2 (z1.mono (by omega)) (z2.mono (by omega))) (P.UM Z1 Z2 (z1.mono (by omega)) (z2.mono (by omega)))
theorem Ap (f:FG) (hf:f.Sm) (hx:f.x≠0) (hq:∀ i:Q2->Rat,i=i1∨i=i2->True):(∀ i:Q2->Rat,i=i1∨i=i2->cC 620 (f.fy c.q1 i)/\cC 620 (f.sV c.q2 i)/\cC 620 (f.g7 i))/\cC 300 (f.g1 c.q1)/\cC 300 (f.g2 c.q1)/\cC 300 (f.h1 c.q2)/\cC 300 (f.h2 c.q2):=by
 have z:∀ {m},Go.VL.Sm (m+1) (0:Rat):=fun {m}=>Sm.zero.mono (by omega)
 have q1:=dz.div c.s1 (by omega)
 have q2:=dz.div c.s2 (by omega)
 have sk:=hf.k
 have WG:Go.VL.Sm 351 (f.k*f.d):=(sk.mul hf.d).mono (by omega)
 have YT:Go.VL.Sm 542 (f.k*f.d*(1/c.q1)):=(WG.mul q1).mono (by omega)
 have sn1:Go.VL.Sm 542 (f.k*f.d*(1/c.q2)):=(WG.mul q2).mono (by omega)
 have ss:=FG.ZJ hf hx
 refine ⟨fun i hi => ?_, ?_, ?_, ?_, ?_⟩
 . obtain ⟨a,b,p⟩:=hf.iu i hi
   exact ⟨s4 (p.mono (by omega)) ((a.mul YT).mono (by omega)) ((a.mul sk).mono (by omega)) z,s4 (p.mono (by omega)) ((b.mul sk).mono (by omega)) ((b.mul sn1).mono (by omega)) z,s4 (p.mono (by omega)) ((b.mul sk).mono (by omega)) ((a.mul sk).mono (by omega)) z⟩
 . exact s4 z (((ss.mul q1).mul hf.u.2).mono (by omega)) z z
 . exact s4 z (((ss.mul q1).mul hf.u.1).neg.mono (by omega)) z z
 . exact s4 z z (((ss.mul q2).mul hf.v.2).neg.mono (by omega)) z
 . exact s4 z z (((ss.mul q2).mul hf.v.1).mono (by omega)) z
theorem WV (P:Ay G c) (f:FG) (hf:f.Sm) (hx:f.x≠0) (e1:cX f.u f.u=c.q1) (e2:cX f.v f.v=c.q2):cC 400 (r2 (f.r*f.r)):=eh ((hf.r.mul hf.r).mono (by omega)) (by omega)
theorem WW (P:Ay G c) (f:FG) (hf:f.Sm) (hx:f.x≠0) (e1:cX f.u f.u=c.q1) (e2:cX f.v f.v=c.q2):aC Tryz.prog G 15 [aV (c.nT (f.fy c.q1 i1)) (c.nT (f.fy c.q1 i2)),aV (c.nT (f.g7 i1)) (c.nT (f.g7 i2))] (c.nT (r2 (f.r*f.r))).av:=by
 obtain ⟨h,g1,g2,_,_⟩:=Ap (c:=c) f hf hx (fun _ _=>trivial)
 have m1:cC 1000 (bD c.q1 c.q2 (f.g1 c.q1) (f.g1 c.q1)):=by
   show cC 1000 (bD c.q1 c.q2 (L4 0 (f.s*(1/c.q1)*f.u.2) 0) (L4 0 (f.s*(1/c.q1)*f.u.2) 0))
   rw [sqm];exact eh ((c.s1.mul (g1.1.2.mul g1.1.2)).mono (by omega)) (by omega)
 have m2:cC 1000 (bD c.q1 c.q2 (f.g2 c.q1) (f.g2 c.q1)):=by
   show cC 1000 (bD c.q1 c.q2 (L4 0 (-(f.s*(1/c.q1)*f.u.1)) 0) (L4 0 (-(f.s*(1/c.q1)*f.u.1)) 0))
   rw [sqm];exact eh ((c.s1.mul (g2.1.2.mul g2.1.2)).mono (by omega)) (by omega)
 exact P.far _ _ _ _ _ _ _ ((h i1 (.inl rfl)).1.mono (by omega)) ((h i2 (.inr rfl)).1.mono (by omega)) ((h i1 (.inl rfl)).2.2.mono (by omega)) ((h i2 (.inr rfl)).2.2.mono (by omega)) (fc1 e1 c.p1) (fc2 e1 c.p1) (g1.mono (by omega)) (g2.mono (by omega)) m1 m2 (aky hx e1 c.p1)
theorem WX (P:Ay G c) (f:FG) (hf:f.Sm) (hx:f.x≠0) (e1:cX f.u f.u=c.q1) (e2:cX f.v f.v=c.q2):aC Tryz.prog G 15 [aV (c.nT (f.sV c.q2 i1)) (c.nT (f.sV c.q2 i2)),aV (c.nT (f.g7 i1)) (c.nT (f.g7 i2))] (c.nT (r2 (f.r*f.r))).av:=by
 obtain ⟨h,_,_,g1,g2⟩:=Ap (c:=c) f hf hx (fun _ _=>trivial)
 have m1:cC 1000 (bD c.q1 c.q2 (f.h1 c.q2) (f.h1 c.q2)):=by
   show cC 1000 (bD c.q1 c.q2 (L4 0 0 (-(f.s*(1/c.q2)*f.v.2))) (L4 0 0 (-(f.s*(1/c.q2)*f.v.2))))
   rw [sqn];exact eh ((c.s2.mul (g1.2.1.mul g1.2.1)).mono (by omega)) (by omega)
 have m2:cC 1000 (bD c.q1 c.q2 (f.h2 c.q2) (f.h2 c.q2)):=by
   show cC 1000 (bD c.q1 c.q2 (L4 0 0 (f.s*(1/c.q2)*f.v.1)) (L4 0 0 (f.s*(1/c.q2)*f.v.1)))
   rw [sqn];exact eh ((c.s2.mul (g2.2.1.mul g2.2.1)).mono (by omega)) (by omega)
 exact P.far _ _ _ _ _ _ _ ((h i1 (.inl rfl)).2.1.mono (by omega)) ((h i2 (.inr rfl)).2.1.mono (by omega)) ((h i1 (.inl rfl)).2.2.mono (by omega)) ((h i2 (.inr rfl)).2.2.mono (by omega)) (tc1 e2 c.p2) (tc2 e2 c.p2) (g1.mono (by omega)) (g2.mono (by omega)) m1 m2 (akz hx e2 c.p2)
theorem R8 (P:Ay G c) (f:FG) (hf:f.Sm) (hx:f.x≠0) (e1:cX f.u f.u=c.q1) (e2:cX f.v f.v=c.q2) (nm:List UInt8) (w:Bool) (hr:f.r≠0):Cz G (gw nm (c.nT (f.fy c.q1 i1)) (c.nT (f.fy c.q1 i2)) (c.nT (f.sV c.q2 i1)) (c.nT (f.sV c.q2 i2)) (c.nT (f.g7 i1)) (c.nT (f.g7 i2)) w):=by
 obtain ⟨h,_,_,_,_⟩:=Ap (c:=c) f hf hx (fun _ _=>trivial)
 have a:=h i1 (.inl rfl)
 have b:=h i2 (.inr rfl)
 have sr:=WV P f hf hx e1 e2
 have hs:=P.rf.sgn .T (.inl rfl) (r2 (f.r*f.r)) (sr.mono (by omega))
 rw [show c.sg .T (r2 (f.r*f.r))=1 from by show c.sT (r2 (f.r*f.r))=1;rw [c.zr];exact ZK.2 (sq_pos hr)] at hs
 exact akH _ _ _ _ _ _ (c.nT (r2 (f.r*f.r))) nm w (WW P f hf hx e1 e2) (WX P f hf hx e1 e2) hs (P.eqS _ (sr.mono (by omega))) (P.UM _ _ (a.1.mono (by omega)) (b.1.mono (by omega))) (P.UM _ _ (a.2.1.mono (by omega)) (b.2.1.mono (by omega))) (P.UM _ _ (a.2.2.mono (by omega)) (b.2.2.mono (by omega))) (P.eqP _ _ (a.1.mono (by omega)) (b.1.mono (by omega))) (P.eqP _ _ (a.2.1.mono (by omega)) (b.2.1.mono (by omega))) (P.eqP _ _ (a.2.2.mono (by omega)) (b.2.2.mono (by omega)))
theorem afE (f:FG) (hx:f.x≠0):f.u.1≠0∨f.u.2≠0:=by
 by_cases a:f.u.1=0
 . right;intro b;apply hx
   unfold FG.x;show -f.u.2*f.v.1+f.u.1*f.v.2=0
   rw [a,b];grind
 . exact .inl a
theorem afF (f:FG) (hx:f.x≠0):f.v.1≠0∨f.v.2≠0:=by
 by_cases a:f.v.1=0
 . right;intro b;apply hx
   unfold FG.x;show -f.u.2*f.v.1+f.u.1*f.v.2=0
   rw [a,b];grind
 . exact .inl a
theorem UN (f:FG) (hx:f.x≠0) (hs : ¬ c.sT (xQ f.d f.k)<=0) : ¬ (c.sT (bO (f.fy c.q1 i1) (bQ (r2 (i1 f.a))))=0/\c.sT (bO (f.fy c.q1 i2) (bQ (r2 (i2 f.a))))=0):=by
 rintro ⟨h1,h2⟩
 rw [fa1] at h1
 rw [fa2] at h2
 rcases afE f hx with h | h
 . have:=c.zm _ ((0, -(1/i1 f.u)),(0,0)) h1
   rw [ae7 (i:=i1) h c.p1] at this;omega
 . have:=c.zm _ ((0, -(1/i2 f.u)),(0,0)) h2
   rw [ae7 (i:=i2) h c.p1] at this;omega
theorem afG (f:FG) (hx:f.x≠0) (hs : ¬ c.sU (yQ f.d f.k)<=0) : ¬ (c.sT (bO (f.sV c.q2 i1) (bQ (r2 (i1 f.b))))=0/\c.sT (bO (f.sV c.q2 i2) (bQ (r2 (i2 f.b))))=0):=by
 rintro ⟨h1,h2⟩
 rw [tb1] at h1
 rw [tb2] at h2
 rcases afF f hx with h | h
 . have:=c.zm _ ((0,0),(-(1/i1 f.v),0)) h1
   rw [ae8 (i:=i1) h c.p2] at this
   have:=c.zu _ this;omega
 . have:=c.zm _ ((0,0),(-(1/i2 f.v),0)) h2
   rw [ae8 (i:=i2) h c.p2] at this
   have:=c.zu _ this;omega
end
end Go.Proofs.YtndoagbiakehnaaGreat
end

section
set_option maxRecDepth 100000
namespace Go.Proofs.YtndoagbiakehnaaGreat
open Go.VL Go.Proofs Go.Lib
def Hx (l:Rat × Rat × Rat):AV := .agg [.nils,EV l.1, .nils,EV l.2.1, .nils,EV l.2.2]
instance {l:Rat × Rat × Rat}:PU (Hx l):=by unfold Hx;infer_instance
def ln3 (a b:Q2):Rat × Rat × Rat:=(-(bR b a).2*(1/(if -(bR b a).2=0 then (bR b a).1 else -(bR b a).2)),(bR b a).1*(1/(if -(bR b a).2=0 then (bR b a).1 else -(bR b a).2)),(-(bR b a).2*a.1+(bR b a).1*a.2)*(1/(if -(bR b a).2=0 then (bR b a).1 else -(bR b a).2)))
theorem WY {p e a b:Q2} (hne:p≠e) (sp:bl 20 p) (se:bl 20 e) (h:a=p/\b=e∨b=p/\a=e):∃ j,LnU p (bR e p) (ln3 a b) j:=by
 have sd:bl 41 (bR b a):=by
   rcases h with ⟨rfl,rfl⟩ | ⟨rfl,rfl⟩
   . exact bl.sub se sp
   . exact bl.sub sp se
 have hd:bR b a≠(0,0):=fun e'=>hne (by
   obtain ⟨x,y⟩:=a
   obtain ⟨z,t⟩:=b
   simp only [bR,Prod.mk.injEq] at e'
   rcases h with ⟨rfl,rfl⟩ | ⟨rfl,rfl⟩<;>refine Prod.ext ?_ ?_<;>simp only []<;>grind)
 have hg:(if -(bR b a).2=0 then (bR b a).1 else -(bR b a).2)≠0:=by
   split
   . rename_i h0
     intro h1;exact hd (Prod.ext h1 (by simp only [];grind))
   . assumption
 have sg:Sm 41 (if -(bR b a).2=0 then (bR b a).1 else -(bR b a).2):=by
   split
   . exact sd.1
   . exact sd.2.neg
 unfold ln3
 generalize (if -(bR b a).2=0 then (bR b a).1 else -(bR b a).2)=g at *
 have hj:g*(1/g)=1:=by rw [Rat.div_def,Rat.one_mul,Rat.mul_inv_cancel _ hg]
 have sj:Sm 42 (1/g):=(dz.div sg (by omega)).mono (by omega)
 have j0:1/g≠0:=fun h0=>by rw [h0,Rat.mul_zero] at hj;exact absurd hj (by decide)
 generalize 1/g=j at *
 rcases h with ⟨rfl,rfl⟩ | ⟨rfl,rfl⟩
 . exact ⟨j,rfl,rfl,rfl,j0,sj⟩
 . refine ⟨-j, ?_, ?_, ?_,by grind,sj.neg⟩
   . unfold bR;simp only [];grind
   . unfold bR;simp only [];grind
   . unfold bR;simp only [];grind
section
variable (G:Nat->Option (List AV))
theorem Ec {b:Bool} (X:Nm b):aC Tryz.prog G 176 [X.av, .int .i64 0] X.av:=by
 obtain ⟨l,m,pl,pm⟩:=X
 cases b<;>exact aC.tr hN [] (by kernel_rfl)
theorem WZ {b b2 b3:Bool} {X:Nm b} {Y:Nm b2} {Z:Nm b3} (h:VP Tryz.prog G 106 [X.av,Y.av] (.tup [Z.av, .int .i64 0])):aC Tryz.prog G 118 [X.av,Y.av] Z.av:=by
 have hn:=Ec G Z
 obtain ⟨l,m,pl,pm⟩:=X
 obtain ⟨l2,m2,o9,pc⟩:=Y
 obtain ⟨l3,m3,tR,tT⟩:=Z
 cases b<;>cases b2<;>cases b3<;>exact aC.tr hN [hc h,au [1] hn] (by kernel_rfl)
theorem R9 {b b2 b3:Bool} {X:Nm b} {Y:Nm b2} {Z:Nm b3} (h:VP Tryz.prog G 108 [X.av,Y.av] (.tup [Z.av, .int .i64 0])):aC Tryz.prog G 124 [X.av,Y.av] Z.av:=by
 have hn:=Ec G Z
 obtain ⟨l,m,pl,pm⟩:=X
 obtain ⟨l2,m2,o9,pc⟩:=Y
 obtain ⟨l3,m3,tR,tT⟩:=Z
 cases b<;>cases b2<;>cases b3<;>exact aC.tr hN [hc h,au [1] hn] (by kernel_rfl)
theorem CB {b b2 b3:Bool} {X:Nm b} {Y:Nm b2} {Z:Nm b3} (h:VP Tryz.prog G 105 [X.av,Y.av] (.tup [Z.av, .int .i64 0])):aC Tryz.prog G 119 [X.av,Y.av] Z.av:=by
 have hn:=Ec G Z
 obtain ⟨l,m,pl,pm⟩:=X
 obtain ⟨l2,m2,o9,pc⟩:=Y
 obtain ⟨l3,m3,tR,tT⟩:=Z
 cases b<;>cases b2<;>cases b3<;>exact aC.tr hN [hc h,au [1] hn] (by kernel_rfl)
theorem W0 {b b2 b3:Bool} {X:Nm b} {Y:Nm b2} {Z:Nm b3} (h:VP Tryz.prog G 104 [X.av,Y.av] (.tup [Z.av, .int .i64 0])):aC Tryz.prog G 120 [X.av,Y.av] Z.av:=by
 have hn:=Ec G Z
 obtain ⟨l,m,pl,pm⟩:=X
 obtain ⟨l2,m2,o9,pc⟩:=Y
 obtain ⟨l3,m3,tR,tT⟩:=Z
 cases b<;>cases b2<;>cases b3<;>exact aC.tr hN [hc h,au [1] hn] (by kernel_rfl)
theorem afI (a b:Rat) (ha:Sm 100000 a) (hb:Sm 100000 b):aC Tryz.prog G 118 [NV a,NV b] (NV (a+b)):=WZ G (X:=nR a) (Y:=nR b) (Z:=nR (a+b)) (Cj G a b ha hb)
theorem UO (a b:Rat) (ha:Sm 100000 a) (hb:Sm 100000 b):aC Tryz.prog G 119 [NV a,NV b] (NV (a*b)):=CB G (X:=nR a) (Y:=nR b) (Z:=nR (a*b)) (Ad G a b ha hb)
theorem Nn (a b:Rat) (h:b≠0) (ha:Sm 5000 a) (hb:Sm 5000 b):aC Tryz.prog G 120 [NV a,NV b] (NV (a*(1/b))):=W0 G (X:=nR a) (Y:=nR b) (Z:=nR (a*(1/b))) ((UB G).dv (nR a) (nR b) (nR (1/b)) (nR (a*(1/b))) (RL G b h (hb.mono (by omega))) rfl (Ad G a (1/b) (ha.mono (by omega)) ((Rt.div hb (by omega)).mono (by omega))))
theorem afJ (a b k:Rat) (h0 : ¬ (a=0/\b=0)) (ha:Sm 5000 a) (hb:Sm 5000 b) (hk:Sm 5000 k):aC Tryz.prog G 117 [NV a,NV b,NV k] (.tup [Hx (a*(1/(if a=0 then b else a)),b*(1/(if a=0 then b else a)),k*(1/(if a=0 then b else a))), .int .i64 0]):=by
 have hs:=kt G a (ha.mono (by omega))
 have e:decide (az a=0)=decide (a=0):=oR a
 by_cases h:a=0
 . have h2:b≠0:=fun e=>h0 ⟨h,e⟩
   rw [decide_eq_true h] at e
   simp only [if_pos h]
   exact aC.tr hN [hc hs,Go.VL.hb 15 e,au [1] (Nn G a b h2 ha hb),au [1] (Nn G b b h2 hb hb),au [1] (Nn G k b h2 hk hb)] (by kernel_rfl)
 . rw [decide_eq_false h] at e
   simp only [if_neg h]
   exact aC.tr hN [hc hs,Go.VL.hb 15 e,au [1] (Nn G a a h ha ha),au [1] (Nn G b a h hb ha),au [1] (Nn G k a h hk ha)] (by kernel_rfl)
theorem afK (d:Q2) (h:d≠(0,0)) (hd:bl 100000 d):VP Tryz.prog G 115 [V2 d] (.bool false):=by
 have e1:decide (az d.1=0)=decide (d.1=0):=oR d.1
 have e2:decide (az d.2=0)=decide (d.2=0):=oR d.2
 by_cases h1:d.1=0
 . have h2:d.2≠0:=fun e=>h (Prod.ext h1 e)
   rw [decide_eq_true h1] at e1
   rw [decide_eq_false h2] at e2
   exact vt [hc (kt G d.1 hd.1),hb 6 e1,hc (kt G d.2 hd.2),hb 11 e2] (by kernel_rfl)
 . rw [decide_eq_false h1] at e1
   exact vt [hc (kt G d.1 hd.1),hb 6 e1] (by kernel_rfl)
theorem Hg (a b:Q2) (h:a≠b) (ha:bl 20 a) (hb:bl 20 b):VP Tryz.prog G 13 [V2 a,V2 b] (.tup [Hx (ln3 a b), .int .i64 0]):=by
 have e:=qb G a b (ha.mono (by omega)) (hb.mono (by omega))
 rw [decide_eq_false h] at e
 have hs:=QE G b a (hb.mono (by omega)) (ha.mono (by omega))
 have hd:bl 41 (bR b a):=bl.sub hb ha
 have h0:bR b a≠(0,0):=fun e=>h (by
   obtain ⟨x,y⟩:=a
   obtain ⟨z,t⟩:=b
   simp only [bR,Prod.mk.injEq] at e
   refine Prod.ext ?_ ?_<;>simp only []<;>grind)
 have hl:VP Tryz.prog G 57 [V2 a,V2 (bR b a)] (.tup [Hx (ln3 a b), .int .i64 0]):=by
   unfold ln3
   generalize bR b a=d at *
   have s1:Sm 1040 (-d.2*a.1):=(hd.2.neg.mul ha.1).mono (by omega)
   have s2:Sm 1040 (d.1*a.2):=(hd.1.mul ha.2).mono (by omega)
   have m1:=UO G (-d.2) a.1 (hd.2.neg.mono (by omega)) (ha.1.mono (by omega))
   have m2:=UO G d.1 a.2 (hd.1.mono (by omega)) (ha.2.mono (by omega))
   have m3:=afI G _ _ (s1.mono (by omega)) (s2.mono (by omega))
   have m4:=afJ G (-d.2) d.1 _ (fun ⟨e1,e2⟩=>h0 (Prod.ext e2 (by simp only [];grind))) (hd.2.neg.mono (by omega)) (hd.1.mono (by omega)) ((s1.add s2).mono (by omega))
   exact vt [hc (afK G d h0 (hd.mono (by omega))),hc (DB G d (hd.mono (by omega))),au [7] m1,au [7] m2,au [7] m3,au [7] m4] (by kernel_rfl)
 exact vt [hc e,hc hs,hc hl] (by kernel_rfl)
theorem UQ {b:Bool} (X Y:Nm b):aC Tryz.prog G 123 [X.av,Y.av] (.tup [aV X Y, .int .i64 0]):=by
 obtain ⟨l,m,pl,pm⟩:=X
 obtain ⟨l2,m2,o9,pc⟩:=Y
 cases b<;>exact aC.tr hN [] (by kernel_rfl)
theorem afL:VP Tryz.prog G 122 [.int .i64 1] (NV 1):=by
 have h:=jf G 1 (by decide) (by decide)
 rw [show ((1:Int):Rat)=1 from rfl] at h
 exact vt [hc h,hc (Ck G 1)] (by kernel_rfl)
theorem W4 {b:Bool} (l:Rat × Rat × Rat) (C1 C2 M1 M2 M3 X F F' A1 A2 Z1 Z2:Nm b) (s1:Sm 100 l.1) (s2:Sm 100 l.2.1)
   (m1:VP Tryz.prog G 105 [NV l.1,C1.av] (.tup [M1.av, .int .i64 0])) (m2:VP Tryz.prog G 105 [NV l.2.1,C2.av] (.tup [M2.av, .int .i64 0])) (a:VP Tryz.prog G 106 [M1.av,M2.av] (.tup [M3.av, .int .i64 0])) (s:VP Tryz.prog G 108 [M3.av,NV l.2.2] (.tup [X.av, .int .i64 0]))
   (dv:VP Tryz.prog G 104 [X.av,NV (l.1*l.1+l.2.1*l.2.1)] (.tup [F.av, .int .i64 0])) (o:VP Tryz.prog G 105 [F.av,NV 1] (.tup [F'.av, .int .i64 0])) (t1:VP Tryz.prog G 105 [F'.av,NV l.1] (.tup [A1.av, .int .i64 0])) (z1:VP Tryz.prog G 108 [C1.av,A1.av] (.tup [Z1.av, .int .i64 0])) (t2:VP Tryz.prog G 105 [F'.av,NV l.2.1] (.tup [A2.av, .int .i64 0])) (z2:VP Tryz.prog G 108 [C2.av,A2.av] (.tup [Z2.av, .int .i64 0])):VP Tryz.prog G 14 [Hx l,aV C1 C2] (.tup [aV Z1 Z2, .int .i64 0]):=by
 have n1:=UO G l.1 l.1 (s1.mono (by omega)) (s1.mono (by omega))
 have n2:=UO G l.2.1 l.2.1 (s2.mono (by omega)) (s2.mono (by omega))
 have n3:=afI G (l.1*l.1) (l.2.1*l.2.1) ((s1.mul s1).mono (by omega)) ((s2.mul s2).mono (by omega))
 have h2:VP Tryz.prog G 122 [.int .i64 1] (NV 1):=afL G
 have k1:=CB G (X:=nR l.1) m1
 have k2:=CB G (X:=nR l.2.1) m2
 have k3:=WZ G a
 have k4:=R9 G (Y:=nR l.2.2) s
 have k5:=W0 G (Y:=nR (l.1*l.1+l.2.1*l.2.1)) dv
 have k6:=CB G (Y:=nR 1) o
 have k7:=CB G (Y:=nR l.1) t1
 have k8:=R9 G z1
 have k9:=CB G (Y:=nR l.2.1) t2
 have kA:=R9 G z2
 have kB:=UQ G Z1 Z2
 obtain ⟨c1,d1,pc1,pd1⟩:=C1
 obtain ⟨c2,d2,pc2,pd2⟩:=C2
 obtain ⟨c3,d3,pc3,pd3⟩:=M1
 obtain ⟨c4,d4,pc4,pd4⟩:=M2
 obtain ⟨c5,d5,pc5,pd5⟩:=M3
 obtain ⟨c6,d6,pc6,pd6⟩:=X
 obtain ⟨c7,d7,pc7,pd7⟩:=F
 obtain ⟨c8,d8,pc8,pd8⟩:=F'
 obtain ⟨c9,d9,pc9,pd9⟩:=A1
 obtain ⟨ca,da,pca,pda⟩:=A2
 obtain ⟨cb,db,pcb,pdb⟩:=Z1
 obtain ⟨cc,dc,pcc,pdc⟩:=Z2
 cases b
 . have ex:aC Tryz.prog G 121 [Hx l,aV (⟨c1,d1,pc1,pd1⟩:Nm false) ⟨c2,d2,pc2,pd2⟩] (⟨c6,d6,pc6,pd6⟩:Nm false).av:=aC.tr hN [au [1] k1,au [1] k2,au [1] k3,au [1] k4] (by kernel_rfl)
   have al:VP Tryz.prog G 58 [Hx l,aV (⟨c1,d1,pc1,pd1⟩:Nm false) ⟨c2,d2,pc2,pd2⟩, .int .i64 1] (.tup [aV (⟨cb,db,pcb,pdb⟩:Nm false) ⟨cc,dc,pcc,pdc⟩, .int .i64 0]):=vt [au [5] ex,au [5] n1,au [5] n2,au [5] n3,au [5] k5,hc h2,au [5] k6,au [5] k7,au [5] k8,au [5] k9,au [5] kA,au [5] kB] (by kernel_rfl)
   exact vt [hc al] (by kernel_rfl)
 . have ex:aC Tryz.prog G 121 [Hx l,aV (⟨c1,d1,pc1,pd1⟩:Nm true) ⟨c2,d2,pc2,pd2⟩] (⟨c6,d6,pc6,pd6⟩:Nm true).av:=aC.tr hN [au [1] k1,au [1] k2,au [1] k3,au [1] k4] (by kernel_rfl)
   have al:VP Tryz.prog G 58 [Hx l,aV (⟨c1,d1,pc1,pd1⟩:Nm true) ⟨c2,d2,pc2,pd2⟩, .int .i64 1] (.tup [aV (⟨cb,db,pcb,pdb⟩:Nm true) ⟨cc,dc,pcc,pdc⟩, .int .i64 0]):=vt [au [5] ex,au [5] n1,au [5] n2,au [5] n3,au [5] k5,hc h2,au [5] k6,au [5] k7,au [5] k8,au [5] k9,au [5] kA,au [5] kB] (by kernel_rfl)
   exact vt [hc al] (by kernel_rfl)
end
theorem Lk {q1 q2 a x y z:Rat}:bD q1 q2 (r2 a) (L4 x y z)=L4 (a*x) (a*y) (a*z):=by unfold bD aR cY;apply dt<;>simp only []<;>grind
theorem Sa {q1 q2 a y:Rat}:bD q1 q2 (L4 0 y 0) (r2 a)=L4 0 (y*a) 0:=by unfold bD aR cY;apply dt<;>simp only []<;>grind
theorem Sb {q1 q2 a y:Rat}:bD q1 q2 (L4 0 0 y) (r2 a)=L4 0 0 (y*a):=by unfold bD aR cY;apply dt<;>simp only []<;>grind
section
variable {f:FG} {l:Rat × Rat × Rat} {j:Rat}
theorem akI (L:LnU f.p f.u l j):bO (bO (L4 (l.1*i1 f.p) (l.1*(i1 f.v*f.k)) (l.1*(i1 f.u*f.k))) (L4 (l.2.1*i2 f.p) (l.2.1*(i2 f.v*f.k)) (l.2.1*(i2 f.u*f.k)))) (bQ (r2 l.2.2))=L4 0 (f.s*j) 0:=by
 rw [L.e1,L.e2,L.e3]
 unfold FG.s FG.x bO cY bQ j3
 apply dt<;>simp only [cX]<;>grind
theorem akJ (L:LnU f.p f.v l j):bO (bO (L4 (l.1*i1 f.p) (l.1*(i1 f.v*f.k)) (l.1*(i1 f.u*f.k))) (L4 (l.2.1*i2 f.p) (l.2.1*(i2 f.v*f.k)) (l.2.1*(i2 f.u*f.k)))) (bQ (r2 l.2.2))=L4 0 0 (-(f.s*j)):=by
 rw [L.e1,L.e2,L.e3]
 unfold FG.s FG.x bO cY bQ j3
 apply dt<;>simp only [cX]<;>grind
theorem lnN {p u:Q2} {q:Rat} (L:LnU p u l j) (hq:cX u u=q):l.1*l.1+l.2.1*l.2.1=q*(j*j):=by
 rw [L.e1,L.e2, <- hq];unfold cX;grind
theorem W5 {q y:Rat} (hy:y=q*(j*j)) (hq:0<q.num) (j0:j≠0):y≠0/\j*j*(1/y)=1/q:=by
 have q0:=Ax hq
 have y0:y≠0:=by
   rw [hy];intro h
   rcases Rat.mul_eq_zero.1 h with h | h
   . exact q0 h
   . rcases Rat.mul_eq_zero.1 h with h | h<;>exact j0 h
 refine ⟨y0, ?_⟩
 have e1:y*(1/y)=1:=by rw [Rat.div_def,Rat.one_mul,Rat.mul_inv_cancel _ y0]
 have e2:=cZ hq
 generalize 1/y=i at *
 generalize 1/q=k at *
 have t:q*k*(j*j*i)=k*(q*(j*j)*i):=by grind
 rw [e2, <- hy,e1] at t
 grind
theorem Ll {x y z:Q4} (h:bO z (bQ x)=y):bO x (bQ (bQ y))=z:=by
 rw [<- h];unfold bO cY bQ j3;apply dt<;>simp only []<;>grind
end
section
variable {G:Nat->Option (List AV)} {c:Cf}
theorem afM (P:Ay G c) (f:FG) (hf:f.Sm) (hx:f.x≠0) (e1:cX f.u f.u=c.q1) (e2:cX f.v f.v=c.q2) {l:Rat × Rat × Rat} {j:Rat} (L:LnU f.p f.u l j):VP Tryz.prog G 14 [Hx l,aV (c.nT (f.g7 i1)) (c.nT (f.g7 i2))] (.tup [aV (c.nT (f.fy c.q1 i1)) (c.nT (f.fy c.q1 i2)), .int .i64 0]):=by
 have z:∀ {m},Go.VL.Sm (m+1) (0:Rat):=fun {m}=>Sm.zero.mono (by omega)
 obtain ⟨h,g1,g2,_,_⟩:=Ap (c:=c) f hf hx (fun _ _=>trivial)
 have c1:=(h i1 (.inl rfl)).2.2
 have c2:=(h i2 (.inr rfl)).2.2
 have s1:Go.VL.Sm 83 l.1:=by rw [L.e1];exact (hf.u.2.neg.mul L.js).mono (by omega)
 have s2:Go.VL.Sm 83 l.2.1:=by rw [L.e2];exact (hf.u.1.mul L.js).mono (by omega)
 have s3:Go.VL.Sm 170 l.2.2:=by rw [L.e3];exact (((hf.u.2.neg.mul hf.p.1).add (hf.u.1.mul hf.p.2)).mul L.js).mono (by omega)
 have ss:=FG.ZJ hf hx
 have sk:=hf.k
 have t1:cC 320 (L4 (l.1*i1 f.p) (l.1*(i1 f.v*f.k)) (l.1*(i1 f.u*f.k))):=s4 ((s1.mul hf.p.1).mono (by omega)) ((s1.mul (hf.v.1.mul sk)).mono (by omega)) ((s1.mul (hf.u.1.mul sk)).mono (by omega)) z
 have t2:cC 320 (L4 (l.2.1*i2 f.p) (l.2.1*(i2 f.v*f.k)) (l.2.1*(i2 f.u*f.k))):=s4 ((s2.mul hf.p.2).mono (by omega)) ((s2.mul (hf.v.2.mul sk)).mono (by omega)) ((s2.mul (hf.u.2.mul sk)).mono (by omega)) z
 have t3:cC 1000 (bO (L4 (l.1*i1 f.p) (l.1*(i1 f.v*f.k)) (l.1*(i1 f.u*f.k))) (L4 (l.2.1*i2 f.p) (l.2.1*(i2 f.v*f.k)) (l.2.1*(i2 f.u*f.k)))):=⟨⟨(t1.1.1.add t2.1.1).mono (by omega),(t1.1.2.add t2.1.2).mono (by omega)⟩,⟨(t1.2.1.add t2.2.1).mono (by omega),(t1.2.2.add t2.2.2).mono (by omega)⟩⟩
 have m1:=P.rf.mul (k := .R) (l := .T) rfl (r2 l.1) (f.g7 i1) rfl trivial (eh (s1.mono (by omega)) (by omega)) (c1.mono (by omega))
 have m2:=P.rf.mul (k := .R) (l := .T) rfl (r2 l.2.1) (f.g7 i2) rfl trivial (eh (s2.mono (by omega)) (by omega)) (c2.mono (by omega))
 rw [show bD c.q1 c.q2 (r2 l.1) (f.g7 i1)=_ from Lk] at m1
 rw [show bD c.q1 c.q2 (r2 l.2.1) (f.g7 i2)=_ from Lk] at m2
 have a:=P.rf.add (k := .T) (l := .T) rfl _ _ trivial trivial (t1.mono (by omega)) (t2.mono (by omega))
 have s:=P.rf.sub (k := .T) (l := .R) rfl _ (r2 l.2.2) trivial rfl t3 (eh (s3.mono (by omega)) (by omega))
 rw [akI L] at s
 obtain ⟨y0,hy⟩:=W5 (lnN L e1) c.p1 L.j0
 have sy:Go.VL.Sm 340 (l.1*l.1+l.2.1*l.2.1):=((s1.mul s1).add (s2.mul s2)).mono (by omega)
 have sE:cC 1000 (L4 0 (f.s*j) 0):=s4 z ((ss.mul L.js).mono (by omega)) z z
 have d:=P.rf.Ux (UB G) _ _ y0 sE (sy.mono (by omega))
 rw [Sa] at d
 have sF:cC 1000 (L4 0 (f.s*j*(1/(l.1*l.1+l.2.1*l.2.1))) 0):=s4 z (((ss.mul L.js).mul (dz.div sy (by omega))).mono (by omega)) z z
 have o:=P.rf.mul (k := .T) (l := .R) rfl _ (r2 1) trivial rfl sF (eh (dz.mono (by omega)) (by omega))
 rw [Sa,Rat.mul_one] at o
 have q1':=P.rf.mul (k := .T) (l := .R) rfl _ (r2 l.1) trivial rfl sF (eh (s1.mono (by omega)) (by omega))
 have q2':=P.rf.mul (k := .T) (l := .R) rfl _ (r2 l.2.1) trivial rfl sF (eh (s2.mono (by omega)) (by omega))
 rw [Sa] at q1' q2'
 have k1:f.s*j*(1/(l.1*l.1+l.2.1*l.2.1))*l.1 = -(f.s*(1/c.q1)*f.u.2):=by
   rw [<- hy];rw [L.e1]
   generalize 1/_=i
   grind
 have k2:f.s*j*(1/(l.1*l.1+l.2.1*l.2.1))*l.2.1 = -(-(f.s*(1/c.q1)*f.u.1)):=by
   rw [<- hy];rw [L.e2]
   generalize 1/_=i
   grind
 have n1:(L4 0 (f.s*j*(1/(l.1*l.1+l.2.1*l.2.1))*l.1) 0:Q4)=bQ (f.g1 c.q1):=by
   rw [k1];unfold FG.g1 bQ j3;apply dt<;>simp only []<;>grind
 have n2:(L4 0 (f.s*j*(1/(l.1*l.1+l.2.1*l.2.1))*l.2.1) 0:Q4)=bQ (f.g2 c.q1):=by
   rw [k2];unfold FG.g2 bQ j3;apply dt<;>simp only []<;>grind
 have sn:∀ {x:Q4},cC 300 x->cC 1000 (bQ x):=fun {x} h=>⟨⟨h.1.1.neg.mono (by omega),h.1.2.neg.mono (by omega)⟩,⟨h.2.1.neg.mono (by omega),h.2.2.neg.mono (by omega)⟩⟩
 have z1:=P.rf.sub (k := .T) (l := .T) rfl (f.g7 i1) (bQ (f.g1 c.q1)) trivial trivial (c1.mono (by omega)) (sn g1)
 have z2:=P.rf.sub (k := .T) (l := .T) rfl (f.g7 i2) (bQ (f.g2 c.q1)) trivial trivial (c2.mono (by omega)) (sn g2)
 rw [Ll (fc1 e1 c.p1)] at z1
 rw [Ll (fc2 e1 c.p1)] at z2
 rw [n1] at q1'
 rw [n2] at q2'
 exact W4 G l _ _ _ _ _ _ _ _ _ _ _ _ (s1.mono (by omega)) (s2.mono (by omega)) m1 m2 a s d o q1' z1 q2' z2
theorem afN (P:Ay G c) (f:FG) (hf:f.Sm) (hx:f.x≠0) (e1:cX f.u f.u=c.q1) (e2:cX f.v f.v=c.q2) {l:Rat × Rat × Rat} {j:Rat} (L:LnU f.p f.v l j):VP Tryz.prog G 14 [Hx l,aV (c.nT (f.g7 i1)) (c.nT (f.g7 i2))] (.tup [aV (c.nT (f.sV c.q2 i1)) (c.nT (f.sV c.q2 i2)), .int .i64 0]):=by
 have z:∀ {m},Go.VL.Sm (m+1) (0:Rat):=fun {m}=>Sm.zero.mono (by omega)
 obtain ⟨h,_,_,g1,g2⟩:=Ap (c:=c) f hf hx (fun _ _=>trivial)
 have c1:=(h i1 (.inl rfl)).2.2
 have c2:=(h i2 (.inr rfl)).2.2
 have s1:Go.VL.Sm 83 l.1:=by rw [L.e1];exact (hf.v.2.neg.mul L.js).mono (by omega)
 have s2:Go.VL.Sm 83 l.2.1:=by rw [L.e2];exact (hf.v.1.mul L.js).mono (by omega)
 have s3:Go.VL.Sm 170 l.2.2:=by rw [L.e3];exact (((hf.v.2.neg.mul hf.p.1).add (hf.v.1.mul hf.p.2)).mul L.js).mono (by omega)
 have ss:=FG.ZJ hf hx
 have sk:=hf.k
 have t1:cC 320 (L4 (l.1*i1 f.p) (l.1*(i1 f.v*f.k)) (l.1*(i1 f.u*f.k))):=s4 ((s1.mul hf.p.1).mono (by omega)) ((s1.mul (hf.v.1.mul sk)).mono (by omega)) ((s1.mul (hf.u.1.mul sk)).mono (by omega)) z
 have t2:cC 320 (L4 (l.2.1*i2 f.p) (l.2.1*(i2 f.v*f.k)) (l.2.1*(i2 f.u*f.k))):=s4 ((s2.mul hf.p.2).mono (by omega)) ((s2.mul (hf.v.2.mul sk)).mono (by omega)) ((s2.mul (hf.u.2.mul sk)).mono (by omega)) z
 have t3:cC 1000 (bO (L4 (l.1*i1 f.p) (l.1*(i1 f.v*f.k)) (l.1*(i1 f.u*f.k))) (L4 (l.2.1*i2 f.p) (l.2.1*(i2 f.v*f.k)) (l.2.1*(i2 f.u*f.k)))):=⟨⟨(t1.1.1.add t2.1.1).mono (by omega),(t1.1.2.add t2.1.2).mono (by omega)⟩,⟨(t1.2.1.add t2.2.1).mono (by omega),(t1.2.2.add t2.2.2).mono (by omega)⟩⟩
 have m1:=P.rf.mul (k := .R) (l := .T) rfl (r2 l.1) (f.g7 i1) rfl trivial (eh (s1.mono (by omega)) (by omega)) (c1.mono (by omega))
 have m2:=P.rf.mul (k := .R) (l := .T) rfl (r2 l.2.1) (f.g7 i2) rfl trivial (eh (s2.mono (by omega)) (by omega)) (c2.mono (by omega))
 rw [show bD c.q1 c.q2 (r2 l.1) (f.g7 i1)=_ from Lk] at m1
 rw [show bD c.q1 c.q2 (r2 l.2.1) (f.g7 i2)=_ from Lk] at m2
 have a:=P.rf.add (k := .T) (l := .T) rfl _ _ trivial trivial (t1.mono (by omega)) (t2.mono (by omega))
 have s:=P.rf.sub (k := .T) (l := .R) rfl _ (r2 l.2.2) trivial rfl t3 (eh (s3.mono (by omega)) (by omega))
 rw [akJ L] at s
 obtain ⟨y0,hy⟩:=W5 (lnN L e2) c.p2 L.j0
 have sy:Go.VL.Sm 340 (l.1*l.1+l.2.1*l.2.1):=((s1.mul s1).add (s2.mul s2)).mono (by omega)
 have sE:cC 1000 (L4 0 0 (-(f.s*j))):=s4 z z ((ss.mul L.js).neg.mono (by omega)) z
 have d:=P.rf.Ux (UB G) _ _ y0 sE (sy.mono (by omega))
 rw [Sb] at d
 have sF:cC 1000 (L4 0 0 (-(f.s*j)*(1/(l.1*l.1+l.2.1*l.2.1)))):=s4 z z (((ss.mul L.js).neg.mul (dz.div sy (by omega))).mono (by omega)) z
 have o:=P.rf.mul (k := .T) (l := .R) rfl _ (r2 1) trivial rfl sF (eh (dz.mono (by omega)) (by omega))
 rw [Sb,Rat.mul_one] at o
 have q1':=P.rf.mul (k := .T) (l := .R) rfl _ (r2 l.1) trivial rfl sF (eh (s1.mono (by omega)) (by omega))
 have q2':=P.rf.mul (k := .T) (l := .R) rfl _ (r2 l.2.1) trivial rfl sF (eh (s2.mono (by omega)) (by omega))
 rw [Sb] at q1' q2'
 have k1 : -(f.s*j)*(1/(l.1*l.1+l.2.1*l.2.1))*l.1 = -(-(f.s*(1/c.q2)*f.v.2)):=by
   rw [<- hy];rw [L.e1]
   generalize 1/_=i
   grind
 have k2 : -(f.s*j)*(1/(l.1*l.1+l.2.1*l.2.1))*l.2.1 = -(f.s*(1/c.q2)*f.v.1):=by
   rw [<- hy];rw [L.e2]
   generalize 1/_=i
   grind
 have n1:(L4 0 0 (-(f.s*j)*(1/(l.1*l.1+l.2.1*l.2.1))*l.1):Q4)=bQ (f.h1 c.q2):=by
   rw [k1];unfold FG.h1 bQ j3;apply dt<;>simp only []<;>grind
 have n2:(L4 0 0 (-(f.s*j)*(1/(l.1*l.1+l.2.1*l.2.1))*l.2.1):Q4)=bQ (f.h2 c.q2):=by
   rw [k2];unfold FG.h2 bQ j3;apply dt<;>simp only []<;>grind
 have sn:∀ {x:Q4},cC 300 x->cC 1000 (bQ x):=fun {x} h=>⟨⟨h.1.1.neg.mono (by omega),h.1.2.neg.mono (by omega)⟩,⟨h.2.1.neg.mono (by omega),h.2.2.neg.mono (by omega)⟩⟩
 have z1:=P.rf.sub (k := .T) (l := .T) rfl (f.g7 i1) (bQ (f.h1 c.q2)) trivial trivial (c1.mono (by omega)) (sn g1)
 have z2:=P.rf.sub (k := .T) (l := .T) rfl (f.g7 i2) (bQ (f.h2 c.q2)) trivial trivial (c2.mono (by omega)) (sn g2)
 rw [Ll (tc1 e2 c.p2)] at z1
 rw [Ll (tc2 e2 c.p2)] at z2
 rw [n1] at q1'
 rw [n2] at q2'
 exact W4 G l _ _ _ _ _ _ _ _ _ _ _ _ (s1.mono (by omega)) (s2.mono (by omega)) m1 m2 a s d o q1' z1 q2' z2
end
end Go.Proofs.YtndoagbiakehnaaGreat
end

section
set_option maxRecDepth 100000
namespace Go.Proofs.YtndoagbiakehnaaGreat
open Go.VL Go.Proofs Go.Lib
instance {n1 n2:Bool} {w1 w2:List Nat}:PU (RR n1 w1 n2 w2):=by unfold RR;infer_instance
theorem afO {n1 n2:Bool} {w1 w2:List Nat} (h1:Wd w1) (h2:Wd w2) (v1:eo n1 w1=true) (v2:eo n2 w2=true) (hp:0<sgn n2 (val w2)) (hg:Nat.gcd (sgn n1 (val w1)).natAbs (sgn n2 (val w2)).natAbs=1) (l1:w1.length<=2) (l2:w2.length<=2):∃ q:Rat,RR n1 w1 n2 w2=QV q/\Sm 2 q:=by
 have e1:=Ki h1 v1
 have e2:=Ki h2 v2
 have a1:(sgn n1 (val w1)).natAbs=val w1:=by cases n1<;>simp [sgn]
 have a2:(sgn n2 (val w2)).natAbs=val w2:=by cases n2<;>simp [sgn]
 have s1:aa (sgn n1 (val w1)).natAbs<=2:=by rw [a1];exact Nat.le_trans (cK (di h1)) l1
 have s2:aa (sgn n2 (val w2)).natAbs<=2:=by rw [a2];exact Nat.le_trans (cK (di h2)) l2
 generalize sgn n1 (val w1)=z1 at *
 generalize sgn n2 (val w2)=z2 at *
 refine ⟨⟨z1,z2.natAbs,by omega,hg⟩, ?_,s1,s2⟩
 have e3:((z2.natAbs:Nat):Int)=z2:=Int.natAbs_of_nonneg (by omega)
 show RR n1 w1 n2 w2=Go.VL.RV z1 ((z2.natAbs:Nat):Int)
 rw [e3]
 unfold IR IV at e1 e2
 simp only [AV.agg.injEq,List.cons.injEq,and_true] at e1 e2
 unfold RR Go.VL.RV
 rw [e1.1,e1.2,e2.1,e2.2]
section
variable (G:Nat->Option (List AV))
theorem aas (n1 n2:Bool) (w1 w2:List Nat) (h1:Wd w1) (h2:Wd w2) (l1:w1.length<=9223372036854775807) (l2:w2.length<=9223372036854775807):∃ ok:Bool,VP Tryz.prog G 7 [RR n1 w1 n2 w2] (.bool ok)/\(ok=true->∃ q:Rat,RR n1 w1 n2 w2=QV q/\Sm 2 q):=by
 have hS:∀ ok,VP Tryz.prog G 29 [RR n1 w1 n2 w2, .int .i64 2] (.bool ok)->VP Tryz.prog G 7 [RR n1 w1 n2 w2] (.bool ok):=fun ok h=>vt [hc h] (by kernel_rfl)
 have k8:jY false (.sl 1 (us w1))=some (.int .i64 w1.length):=by simp [jY,dD]
 have k15:jY false (.sl 1 (us w2))=some (.int .i64 w2.length):=by simp [jY,dD]
 by_cases c1:w1.length<=2
 . by_cases c2:w2.length<=2
   . have hv:=Md (G:=G) adr n1 w1 n2 w2 h1 h2 ((Nat.gcd (sgn n1 (val w1)).natAbs (sgn n2 (val w2)).natAbs:Nat):Int) (QA G n1 w1 h1 l1) (QA G n2 w2 h2 l2)
       (GJ G _ (by
         have a2:(sgn n2 (val w2)).natAbs=val w2:=by cases n2<;>simp [sgn]
         rw [a2];have:=cK (di h2);omega))
       (fun _=>QB G _ _ (by
         have a1:(sgn n1 (val w1)).natAbs=val w1:=by cases n1<;>simp [sgn]
         rw [a1];have:=cK (di h1);omega) (by
         have a2:(sgn n2 (val w2)).natAbs=val w2:=by cases n2<;>simp [sgn]
         rw [a2];have:=cK (di h2);omega)) (Uc G _)
     refine ⟨eo n1 w1&&eo n2 w2&&decide (0<sgn n2 (val w2))&&decide (((Nat.gcd (sgn n1 (val w1)).natAbs (sgn n2 (val w2)).natAbs:Nat):Int)=1),hS _ (vt [ho 8 k8,hb 10 (ai (by omega):decide ((w1.length:Int)<=2)=true),ho 15 k15,hb 17 (ai (by omega):decide ((w2.length:Int)<=2)=true),hc hv] (by kernel_rfl)),fun eQ => ?_⟩
     rw [Bool.and_eq_true,Bool.and_eq_true,Bool.and_eq_true] at eQ
     exact afO h1 h2 eQ.1.1.1 eQ.1.1.2 (of_decide_eq_true eQ.1.2) (by have:=of_decide_eq_true eQ.2;omega) c1 c2
   . exact ⟨false,hS _ (vt [ho 8 k8,hb 10 (ai (by omega):decide ((w1.length:Int)<=2)=true),ho 15 k15,hb 17 (ag (by omega):decide ((w2.length:Int)<=2)=false)] (by kernel_rfl)),fun h=>by cases h⟩
 . exact ⟨false,hS _ (vt [ho 8 k8,hb 10 (ag (by omega):decide ((w1.length:Int)<=2)=false)] (by kernel_rfl)),fun h=>by cases h⟩
theorem aat (x:NX) (hs:x.c.Sm 20) (hv:x.c.valid=true):Cz G (NX.toY x):=by
 have h:=QH G x.c (hs.mono (by omega))
 rw [hv] at h
 have e1:=qb G x.c.a x.c.a (hs.1.mono (by omega)) (hs.1.mono (by omega))
 have e2:=qb G x.c.b x.c.b (hs.2.1.mono (by omega)) (hs.2.1.mono (by omega))
 have e3:=qb G x.c.c x.c.c (hs.2.2.mono (by omega)) (hs.2.2.mono (by omega))
 rw [decide_eq_true rfl] at e1 e2 e3
 refine ⟨Ae G x.c.a (hs.1.mono (by omega)),Ae G x.c.b (hs.2.1.mono (by omega)),Ae G x.c.c (hs.2.2.mono (by omega)),h, ?_⟩
 obtain ⟨nm,xr,xa,xb,xc,xw⟩:=x
 cases xr
 . exact vt [hc e1,hc e2] (by kernel_rfl)
 . cases xw<;>exact vt [hc e1,hc e2,hc e3] (by kernel_rfl)
theorem aau (L:List NY) (hl:L.length<=1000) (hL:∀ z∈L,Cz G z):VP Tryz.prog G 11 [iw L, .int .i64 0,iw L, .int .i64 0] (.bool true):=by
 have h1:=afw G L hl fun z hz=>⟨(hL z hz).1,(hL z hz).2.1,(hL z hz).2.2.1,(hL z hz).2.2.2.1⟩
 have h2:=Z8 G L hl fun z hz=>(hL z hz).2.2.2.2
 exact vt [hc h1,hc h2] (by kernel_rfl)
structure afP (l:List NX) (a b nm:List UInt8) (r:Rat) (M:List NY):Prop where
 t : ∃ (bT:Bool) (F1 F2 P1 P2 Q1 Q2 Z:Nm bT) (w:Bool) (L:List NY) (i j:Nat) (X Y:NX) (la lb:Rat × Rat × Rat) (e:Bool),
   M=L++[gw nm F1 F2 P1 P2 Q1 Q2 w]/\L.length<=200/\gV l a=(i:Int)/\gV l b=(j:Int)/\l[i]? = some X/\l[j]? = some Y /\
   VP Tryz.prog G 13 [V2 X.c.a,V2 X.c.b] (.tup [Hx la, .int .i64 0])/\VP Tryz.prog G 13 [V2 Y.c.a,V2 Y.c.b] (.tup [Hx lb, .int .i64 0]) /\
   VP Tryz.prog G 14 [Hx la,aV Q1 Q2] (.tup [aV F1 F2, .int .i64 0])/\VP Tryz.prog G 14 [Hx lb,aV Q1 Q2] (.tup [aV P1 P2, .int .i64 0]) /\
   aC Tryz.prog G 15 [aV F1 F2,aV Q1 Q2] Z.av/\aC Tryz.prog G 15 [aV P1 P2,aV Q1 Q2] Z.av/\VP Tryz.prog G 18 [Z.av,NV (r*r)] (.bool true) /\
   VP Tryz.prog G 19 [aV F1 F2,aV F1 F2] (.bool true)/\VP Tryz.prog G 19 [aV P1 P2,aV F1 F2] (.bool e)/\VP Tryz.prog G 19 [aV P1 P2,aV P1 P2] (.bool true)
theorem Sc {u:Q2} (h:u.1≠0∨u.2≠0):0<cX u u:=by
 show 0<u.1*u.1+u.2*u.2
 rcases h with h | h
 . have:=sq_pos h
   by_cases h2:u.2=0
   . rw [h2];grind
   . have:=sq_pos h2;grind
 . have:=sq_pos h
   by_cases h2:u.1=0
   . rw [h2];grind
   . have:=sq_pos h2;grind
theorem Np (nm:List UInt8) (l:List NX) (a b:List UInt8) (r:Rat) (sr:Sm 2 r) (x3:nm.length<=40) (hl:l.length<=6) (hz:∀ z∈l,z.c.valid=true/\z.c.Sm 20/\z.name.length<=10) :
   (∃ e:Int,e≠0/\VP Tryz.prog G 8 [.str nm,lg l, .str a, .str b,QV r] (.tup [.nils, .int .i64 e])/\VP Tryz.prog G 10 [.str nm,lg l, .str a, .str b,QV r] (.tup [.nils, .int .i64 e])) ∨
   (∃ M:List NY,VP Tryz.prog G 8 [.str nm,lg l, .str a, .str b,QV r] (.tup [iw M, .int .i64 0])/\VP Tryz.prog G 10 [.str nm,lg l, .str a, .str b,QV r] (.tup [iw M, .int .i64 0])/\VP Tryz.prog G 11 [iw M, .int .i64 0,iw M, .int .i64 0] (.bool true)/\afP G l a b nm r M):=by
 by_cases fP:dk nm l [a,b]=0
 case neg=>exact .inl ⟨_,fP,Z9 G nm l a b r (by omega) fP,aag G nm l a b r (by omega) fP⟩
 obtain ⟨i,X,hi,hX,hXn,eX⟩:=zU ((zV fP).2.2 a (by simp))
 obtain ⟨j,Y,hj,hY,hYn,eY⟩:=zU ((zV fP).2.2 b (by simp))
 have xl:a≠b:=by
   intro e
   unfold dk at fP
   split at fP
   . cases fP
   rw [if_pos ⟨0,1,a,by omega,by simp,rfl,by rw [e];rfl⟩] at fP
   cases fP
 have hne:i≠j:=by
   rintro rfl
   rw [hX] at hY
   simp only [Option.some.injEq] at hY
   exact xl (by rw [<- hXn, <- hYn,hY])
 obtain ⟨vX,sX,_⟩:=hz X (List.mem_of_getElem? hX)
 obtain ⟨vY,sY,_⟩:=hz Y (List.mem_of_getElem? hY)
 have P:Ao l a b X.c Y.c i j X Y:=⟨hi,hj,hX,hY,hne,rfl,rfl⟩
 have s20:Sm 20 r:=sr.mono (by omega)
 by_cases A9:X.c.mF=true∨Y.c.mF=true∨o0 X.c Y.c=none
 . refine .inl ⟨1,by decide, ?_,aah G nm l a b r X.c Y.c i j X Y (by omega) fP P sX sY A9⟩
   refine aaa G nm l a b r (by omega) fP (by rw [eX];exact sX) (by rw [eY];exact sY) ?_
   rw [eX,eY];exact A9
 rw [not_or,not_or] at A9
 obtain ⟨ax,ay,hcn⟩:=A9
 have ax:X.c.mF=false:=by cases h:X.c.mF;rfl;exact absurd h ax
 have ay:Y.c.mF=false:=by cases h:Y.c.mF;rfl;exact absurd h ay
 cases hcT:o0 X.c Y.c with
 | none=>exact absurd hcT hcn
 | some t =>
 obtain ⟨p,u,v⟩:=t
 have C:qd l a b X.c Y.c p u v:=⟨eX,eY,ax,ay,sX,sY,hcT⟩
 by_cases h0:az r<=0
 . exact .inl ⟨6,by decide,aab G nm l a b r X.c Y.c p u v (by omega) fP C s20 h0,aai G nm l a b r X.c Y.c p u v i j X Y (by omega) fP P C s20 h0⟩
 obtain ⟨ex,ey⟩:=I0 hcT
 have sp:bl 20 p:=by rcases ex with ⟨rfl,_⟩ | ⟨rfl,_⟩;exact sX.1;exact sX.2.1
 have su:bl 20 u:=by rcases ex with ⟨_,rfl⟩ | ⟨_,rfl⟩;exact sX.2.1;exact sX.1
 have sv:bl 20 v:=by rcases ey with ⟨_,rfl⟩ | ⟨_,rfl⟩;exact sY.2.1;exact sY.1
 have nX:X.c.a≠X.c.b:=by
   intro e;unfold CX.valid at vX;rw [ax,e] at vX;simp at vX
 have nY:Y.c.a≠Y.c.b:=by
   intro e;unfold CX.valid at vY;rw [ay,e] at vY;simp at vY
 have npu:p≠u:=by rcases ex with ⟨rfl,rfl⟩ | ⟨rfl,rfl⟩;exact nX;exact nX.symm
 have npv:p≠v:=by rcases ey with ⟨rfl,rfl⟩ | ⟨rfl,rfl⟩;exact nY;exact nY.symm
 have hf:FG.Sm ⟨p,u,v,r⟩:=⟨sp,su,sv,s20⟩
 by_cases hx:FG.x ⟨p,u,v,r⟩=0
 . exact .inl ⟨10,by decide,R6 G nm l a b r X.c Y.c p u v (by omega) fP C s20 h0 false 10 (by decide) (Nh G ⟨p,u,v,r⟩ hf hx),aaj G nm l a b ⟨p,u,v,r⟩ X.c Y.c i j X Y (by omega) fP P C hf h0 hx⟩
 have s1:Sm 190 (cX (FG.u ⟨p,u,v,r⟩) (FG.u ⟨p,u,v,r⟩)):=(Sm.dot hf.u hf.u).mono (by omega)
 have s2:Sm 190 (cX (FG.v ⟨p,u,v,r⟩) (FG.v ⟨p,u,v,r⟩)):=(Sm.dot hf.v hf.v).mono (by omega)
 obtain ⟨c,e1,e2,Pc⟩:=afn G (Sc (afE _ hx)) (Sc (afF _ hx)) s1 s2
 have e1:=e1.symm
 have e2:=e2.symm
 have hM:VP Tryz.prog G 102 [NV (cX (FG.u ⟨p,u,v,r⟩) (FG.u ⟨p,u,v,r⟩))] (.tup [(rv c ⟨p,u,v,r⟩).M.av, .int .i64 0]):=by rw [e1];exact Pc.sm
 have hN:VP Tryz.prog G 102 [NV (cX (FG.v ⟨p,u,v,r⟩) (FG.v ⟨p,u,v,r⟩))] (.tup [(rv c ⟨p,u,v,r⟩).N.av, .int .i64 0]):=by rw [e2];exact Pc.sn
 have n:=WE Pc.rf (UB G) ⟨p,u,v,r⟩ hf hx
 have pr:=RP G Pc ⟨p,u,v,r⟩ hf hx e1 e2
 unfold afo at pr
 have o8:az (FG.x ⟨p,u,v,r⟩) = -1∨az (FG.x ⟨p,u,v,r⟩)=1:=by
   rcases pT (FG.x ⟨p,u,v,r⟩) with h | h | h
   . exact .inl h
   . exact absurd (jL.1 h) hx
   . exact .inr h
 by_cases hs:c.sT (xQ (FG.d ⟨p,u,v,r⟩) (FG.k ⟨p,u,v,r⟩))<=0∨c.sU (yQ (FG.d ⟨p,u,v,r⟩) (FG.k ⟨p,u,v,r⟩))<=0
 . rw [if_pos hs] at pr
   refine .inl ⟨16,by decide,R6 G nm l a b r X.c Y.c p u v (by omega) fP C s20 h0 _ 16 (by decide) pr, ?_⟩
   by_cases h1:c.sT (xQ (FG.d ⟨p,u,v,r⟩) (FG.k ⟨p,u,v,r⟩))<=0
   . rcases o8 with e | e
     . exact aak G nm l a b ⟨p,u,v,r⟩ X.c Y.c i j X Y (by omega) fP P C hf h0 c.bt hM hN n e h1
     . exact aam G nm l a b ⟨p,u,v,r⟩ X.c Y.c i j X Y (by omega) fP P C hf h0 c.bt hM hN n e h1
   . have h2:c.sU (yQ (FG.d ⟨p,u,v,r⟩) (FG.k ⟨p,u,v,r⟩))<=0:=by rcases hs with h | h;exact absurd h h1;exact h
     rcases o8 with e | e
     . exact aal G nm l a b ⟨p,u,v,r⟩ X.c Y.c i j X Y (by omega) fP P C hf h0 c.bt hM hN n e h1 h2
     . exact aan G nm l a b ⟨p,u,v,r⟩ X.c Y.c i j X Y (by omega) fP P C hf h0 c.bt hM hN n e h1 h2
 rw [if_neg hs] at pr
 rw [not_or] at hs
 obtain ⟨h1,h2⟩:=hs
 have p1:=aaf G nm l a b r X.c Y.c p u v (by omega) (by omega) fP C sp s20 h0 _ _ _ _ _ _ _ pr i j X Y hi hj hX hY hne rfl rfl
 have r1:VP Tryz.prog G 10 [.str nm,lg l, .str a, .str b,QV r] (xX (kD l i j (eK X.name X.c p (c.nT (FG.fy ⟨p,u,v,r⟩ c.q1 i1)) (c.nT (FG.fy ⟨p,u,v,r⟩ c.q1 i2))) (eK Y.name Y.c p (c.nT (FG.sV ⟨p,u,v,r⟩ c.q2 i1)) (c.nT (FG.sV ⟨p,u,v,r⟩ c.q2 i2)))) [gw nm (c.nT (FG.fy ⟨p,u,v,r⟩ c.q1 i1)) (c.nT (FG.fy ⟨p,u,v,r⟩ c.q1 i2)) (c.nT (FG.sV ⟨p,u,v,r⟩ c.q2 i1)) (c.nT (FG.sV ⟨p,u,v,r⟩ c.q2 i2)) (c.nT (FG.g7 ⟨p,u,v,r⟩ i1)) (c.nT (FG.g7 ⟨p,u,v,r⟩ i2)) (decide (0<az (FG.x ⟨p,u,v,r⟩)))]):=by
   rcases o8 with e | e
   . rw [e];exact aao G nm l a b ⟨p,u,v,r⟩ X.c Y.c i j X Y (by omega) fP P C hf h0 c.bt hM hN n e h1 h2 (by omega) sp
   . rw [e];exact aap G nm l a b ⟨p,u,v,r⟩ X.c Y.c i j X Y (by omega) fP P C hf h0 c.bt hM hN n e h1 h2 (by omega) sp
 generalize decide (0<az (FG.x ⟨p,u,v,r⟩))=w at *
 obtain ⟨hsm,_,_,_,_⟩:=Ap (c:=c) ⟨p,u,v,r⟩ hf hx (fun _ _=>trivial)
 have m1:=hsm i1 (.inl rfl)
 have m2:=hsm i2 (.inr rfl)
 have gA:=CA Pc X.name X.c p u ax sX nX ex _ _ (m1.1.mono (by omega)) (m2.1.mono (by omega)) (UN (c:=c) ⟨p,u,v,r⟩ hx h1)
 have gB:=CA Pc Y.name Y.c p v ay sY nY ey _ _ (m1.2.1.mono (by omega)) (m2.2.1.mono (by omega)) (afG (c:=c) ⟨p,u,v,r⟩ hx h2)
 have r0:r≠0:=by rintro rfl;exact h0 (by decide)
 have gC:=R8 Pc ⟨p,u,v,r⟩ hf hx e1 e2 nm w r0
 obtain ⟨ja,La⟩:=WY npu sp su ex
 obtain ⟨jb,Lb⟩:=WY npv sp sv ey
 have tA:=Hg G X.c.a X.c.b nX sX.1 sX.2.1
 have tB:=Hg G Y.c.a Y.c.b nY sY.1 sY.2.1
 have fA:=afM Pc ⟨p,u,v,r⟩ hf hx e1 e2 La
 have fB:=afN Pc ⟨p,u,v,r⟩ hf hx e1 e2 Lb
 have kA:=WW Pc ⟨p,u,v,r⟩ hf hx e1 e2
 have kB:=WX Pc ⟨p,u,v,r⟩ hf hx e1 e2
 have srr:=WV Pc ⟨p,u,v,r⟩ hf hx e1 e2
 have eZ:VP Tryz.prog G 18 [(c.nT (r2 (r*r))).av,NV (r*r)] (.bool true):=by
   have:=Pc.eq (k := .T) (l := .R) rfl (r2 (r*r)) (r2 (r*r)) trivial rfl (srr.mono (by omega)) (srr.mono (by omega)) (by rw [rV];exact eh (Sm.zero.mono (by omega):Go.VL.Sm 800 (0:Rat)) (by omega))
   rw [rV,c.zr] at this
   exact this
 have eF:=Pc.eqP _ _ (m1.1.mono (by omega)) (m2.1.mono (by omega))
 have eT:=Pc.eqP _ _ (m1.2.1.mono (by omega)) (m2.2.1.mono (by omega))
 have eM:∃ e:Bool,VP Tryz.prog G 19 [aV (c.nT (FG.sV ⟨p,u,v,r⟩ c.q2 i1)) (c.nT (FG.sV ⟨p,u,v,r⟩ c.q2 i2)),aV (c.nT (FG.fy ⟨p,u,v,r⟩ c.q1 i1)) (c.nT (FG.fy ⟨p,u,v,r⟩ c.q1 i2))] (.bool e):=by
   obtain ⟨_,g1,g2,k1,k2⟩:=Ap (c:=c) ⟨p,u,v,r⟩ hf hx (fun _ _=>trivial)
   have d:∀ {z x y g h:Q4},bO x (bQ z)=g->bO y (bQ z)=h->cC 300 g->cC 300 h->cC 800 (bO y (bQ x)):=fun {z x y g h} hg hh sg sh=>by
     have e:bO y (bQ x)=bO h (bQ g):=by rw [<- hg, <- hh];unfold bO cY bQ j3;apply dt<;>simp only []<;>grind
     rw [e]
     exact ⟨⟨(sh.1.1.add sg.1.1.neg).mono (by omega),(sh.1.2.add sg.1.2.neg).mono (by omega)⟩,⟨(sh.2.1.add sg.2.1.neg).mono (by omega),(sh.2.2.add sg.2.2.neg).mono (by omega)⟩⟩
   exact ⟨_,UD G (Pc.eq (k := .T) (l := .T) rfl _ _ trivial trivial (m1.2.1.mono (by omega)) (m1.1.mono (by omega)) (d (fc1 e1 c.p1) (tc1 e2 c.p2) g1 k1)) (Pc.eq (k := .T) (l := .T) rfl _ _ trivial trivial (m2.2.1.mono (by omega)) (m2.1.mono (by omega)) (d (fc2 e1 c.p1) (tc2 e2 c.p2) g2 k2))⟩
 obtain ⟨e,eM⟩:=eM
 unfold xX at p1 r1
 by_cases hft:lA (kD l i j (eK X.name X.c p (c.nT (FG.fy ⟨p,u,v,r⟩ c.q1 i1)) (c.nT (FG.fy ⟨p,u,v,r⟩ c.q1 i2))) (eK Y.name Y.c p (c.nT (FG.sV ⟨p,u,v,r⟩ c.q2 i1)) (c.nT (FG.sV ⟨p,u,v,r⟩ c.q2 i2)))) [gw nm (c.nT (FG.fy ⟨p,u,v,r⟩ c.q1 i1)) (c.nT (FG.fy ⟨p,u,v,r⟩ c.q1 i2)) (c.nT (FG.sV ⟨p,u,v,r⟩ c.q2 i1)) (c.nT (FG.sV ⟨p,u,v,r⟩ c.q2 i2)) (c.nT (FG.g7 ⟨p,u,v,r⟩ i1)) (c.nT (FG.g7 ⟨p,u,v,r⟩ i2)) w]=0
 . rw [if_pos hft] at p1 r1
   refine .inr ⟨_,p1,r1,aau G _ (by rw [List.length_append,iW];simp;omega) fun z hzm => ?_,⟨c.bT,_,_,_,_,_,_,c.nT (r2 (r*r)),w,_,i,j,X,Y,_,_,e,rfl,by rw [iW];omega,hi,hj,hX,hY,tA,tB,fA,fB,kA,kB,eZ,eF,eM,eT⟩⟩
   rcases List.mem_append.1 hzm with hm | hm
   . unfold kD at hm
     rcases List.mem_or_eq_of_mem_set hm with hm | rfl
     . rcases List.mem_or_eq_of_mem_set hm with hm | rfl
       . obtain ⟨x,hx',rfl⟩:=List.mem_map.1 hm
         exact aat G x (hz x hx').2.1 (hz x hx').1
       . exact gA
     . exact gB
   . simp only [List.mem_singleton] at hm;subst hm;exact gC
 . rw [if_neg hft] at p1 r1
   exact .inl ⟨_,hft,p1,r1⟩
end
end Go.Proofs.YtndoagbiakehnaaGreat
end

section
set_option maxRecDepth 100000
namespace Go.Proofs.YtndoagbiakehnaaGreat
open Go.VL Go.Proofs Go.Lib
def wR (s0 s1 s2:List UInt8):AV := .agg [.str s0, .str s1, .str s2]
instance {s0 s1 s2:List UInt8}:PU (wR s0 s1 s2):=by unfold wR;infer_instance
section
variable (G:Nat->Option (List AV))
set_option maxHeartbeats 2000000 in
theorem afQ (l:List NX) (s0 s1 s2:List UInt8) (r:Rat) (M:List NY) (hl:l.length<=6) (sr:Sm 2 r) (h40 : ¬ 40<s0.length) (T:afP G l s1 s2 s0 r M) (ds:List DX) (mN:VP Tryz.prog G 5 [] (.bool true)) (hL:VP Tryz.prog G 6 [Eg ds] (.tup [lg l, .bool true])) (hS:VP Tryz.prog G 7 [QV r] (.bool true))
   (p1:VP Tryz.prog G 8 [.str s0,lg l, .str s1, .str s2,QV r] (.tup [iw M, .int .i64 0])) (r1:VP Tryz.prog G 10 [.str s0,lg l, .str s1, .str s2,QV r] (.tup [iw M, .int .i64 0])) (R1:VP Tryz.prog G 11 [iw M, .int .i64 0,iw M, .int .i64 0] (.bool true)) :
   VP Tryz.prog G 3 [Eg ds,wR s0 s1 s2,QV r] (.bool true):=by
 obtain ⟨bT,F1,F2,P1,P2,Q1,Q2,Z,w,L,i,j,X,Y,la,lb,e,hM,hLl,hi,hj,hX,hY,tA,tB,fA,fB,kA,kB,eZ,eF,eM,eT⟩:=T.t
 have hcn:VP Tryz.prog G 9 [lg l] (lg l):=sO cu l (by omega)
 have f1:=wP G l (by omega) s1
 have f2:=wP G l (by omega) s2
 rw [hi] at f1
 rw [hj] at f2
 have d42:decide ((s0.length:Int)>40)=false:=ag (by omega)
 have k79:jY false (iw M)=some (.int .i64 ((L.length+1:Nat):Int)):=by
   subst hM
   simp [jY]
 have k80:IntKind.i64.wrap (((L.length+1:Nat):Int)-1)=(L.length:Int):=by rw [IntKind.wrap_i64];omega
 have k81:=kx (l:=M) (i:=L.length) (x:=gw s0 F1 F2 P1 P2 Q1 Q2 w) (by subst hM;simp)
 have hm:=Ud G r r (sr.mono (by omega)) (sr.mono (by omega))
 have hq:=Ck G (r*r)
 obtain ⟨xn,xr,xa,xb,xc,xw⟩:=X
 obtain ⟨yn,yr,ya,yb,yc,yw⟩:=Y
 have g1:=zS hX
 have g2:=zS hY
 clear hM T
 cases e
 . cases bT<;>exact vt [hc mN,hc hL,hc hS,hb 42 d42,hc hcn,hc p1,hc r1,hc R1,ho 79 k79,hw 80 k80,ho 81 k81,hc f1,ho 94 g1,hc tA,hc fA,au [109] kA,hc hm,hc hq,hc eZ,hc eF,hc f2,ho 94 g2,hc tB,hc fB,au [194] kB,hc hm,hc hq,hc eZ,hc eM,hc eT] (by kernel_rfl)
 . cases bT<;>exact vt [hc mN,hc hL,hc hS,hb 42 d42,hc hcn,hc p1,hc r1,hc R1,ho 79 k79,hw 80 k80,ho 81 k81,hc f1,ho 94 g1,hc tA,hc fA,au [109] kA,hc hm,hc hq,hc eZ,hc eF,hc f2,ho 94 g2,hc tB,hc fB,au [194] kB,hc hm,hc hq,hc eZ,hc eM] (by kernel_rfl)
set_option maxHeartbeats 2000000 in
theorem aav (mN:VP Tryz.prog G 5 [] (.bool true)) (ds:List DX) (U3:∀ d∈ds,d.Ok) (s0 s1 s2:List UInt8) (n1 n2:Bool) (w1 w2:List Nat) (h1:Wd w1) (h2:Wd w2) (l1:w1.length<=9223372036854775807) (l2:w2.length<=9223372036854775807):VP Tryz.prog G 3 [Eg ds,wR s0 s1 s2,RR n1 w1 n2 w2] (.bool true):=by
 have hL:=adP G ds U3
 obtain ⟨ok,hS,hq⟩:=aas G n1 n2 w1 w2 h1 h2 l1 l2
 cases eQ:xT ds<;>rw [eQ] at hL
 . exact vt [hc mN,hc hL] (by kernel_rfl)
 obtain ⟨hl6,hz⟩:=M0 U3 eQ
 cases ok
 . exact vt [hc mN,hc hL,hc hS] (by kernel_rfl)
 obtain ⟨d,hd,sd⟩:=hq rfl
 rw [hd] at hS ⊢
 generalize named (made ds)=l at *
 by_cases h40:40<s0.length
 . exact vt [hc mN,hc hL,hc hS,hb 42 (ai (by omega):decide ((s0.length:Int)>40)=true)] (by kernel_rfl)
 have d42:decide ((s0.length:Int)>40)=false:=ag (by omega)
 rcases Np G s0 l s1 s2 d sd (by omega) hl6 hz with ⟨e,he,p1,r1⟩ | ⟨M,p1,r1,R1,T⟩
 . have hcn:VP Tryz.prog G 9 [lg l] (lg l):=sO cu l (by omega)
   exact vt [hc mN,hc hL,hc hS,hb 42 d42,hc hcn,hc p1,hc r1,hc (UJ G e),hb 76 (bne_iff_ne.2 he)] (by kernel_rfl)
 . exact afQ G l s0 s1 s2 d M hl6 sd h40 T ds mN hL hS p1 r1 R1
end
end Go.Proofs.YtndoagbiakehnaaGreat
end

section
namespace Go.VL
section
variable {H:Type} {enc:TypeId × Value->H} {P:Program} {w:World} {spare:Nat->Bool} {held:Bool}
def ky (w:World):Env:=⟨fun _=>none,fun b=>b<w.heap.size⟩
theorem nZ {α β : Type} {f : α -> β} {Q : α -> Prop}:∀ {es:List β},(∀ c∈es,∃ x,c=f x/\Q x)->∃ l:List α,es=l.map f/\∀ x∈l,Q x
 | [],_=>⟨[],rfl,by simp⟩
 | c::es,h=>by
   obtain ⟨x,hx,hq⟩:=h c (by simp)
   obtain ⟨l,hl,hql⟩:=nZ (es:=es) fun y hy=>h y (by simp [hy])
   exact ⟨x::l,by rw [hx,hl];rfl,by intro y hy;rcases List.mem_cons.1 hy with rfl | hy;exact hq;exact hql y hy⟩
theorem Lm {t e:TypeId} {fuel k:Nat} {cs:List Value} {x:DataW H × List MemPlace} (ht:P.underlying t=some (.slice e)) (hk:P.cellsOf e=k) (Hk:0<k) (h:DataW.trod enc P w 0 spare held fuel t cs=some x) (Good:AV->Prop)
   (F:∀ n ub y,fuel=n+1->DataW.trod enc P w 0 spare held n e ub=some y->∃ c:AV,Good c/\c.size=k/\aK (ky w) w c.cells ub) :
   ∃ (es:List AV) (v:Value),cs=[v]/\aG (ky w) w (.sl k es) v/\(∀ c∈es,Good c)/\es.length<=maxLen:=by
 rcases DataW.trod_slice ht h with ⟨rfl,rfl⟩ | ⟨a,len,cap,elems,rest,n,hfu,rfl,rfl,_,hl,hm,hlen,qf,_,_⟩
 . exact ⟨[],_,rfl,by simp only [aG];exact ⟨none,0,rfl,Nat.le_refl _,Nat.zero_le _,by simp, .inl trivial⟩,by simp,Nat.zero_le _⟩
 have hC:∀ i,i<len->∃ c:AV,Good c/\c.size=k/\∃ ub,w.cells? 0 (a.add (i*k)) k=some ub/\aK (ky w) w c.cells ub:=by
   intro i hi
   have h1:=qf i hi
   rw [List.getElem?_eq_getElem (by omega),hk] at h1
   obtain ⟨ub,h2,h3⟩:=Option.bind_eq_some_iff.1 h1
   obtain ⟨c,hg,hs,hr⟩:=F n ub _ hfu h3
   exact ⟨c,hg,hs,ub,h2,hr⟩
 have hC':∀ i:_root_.Fin len,∃ c:AV,Good c/\c.size=k/\∃ ub,w.cells? 0 (a.add (i.1*k)) k=some ub/\aK (ky w) w c.cells ub:=fun i=>hC i.1 i.2
 let C:_root_.Fin len->AV:=fun i=>(hC' i).choose
 have hCs:∀ i,Good (C i)/\(C i).size=k/\∃ ub,w.cells? 0 (a.add (i.1*k)) k=some ub/\aK (ky w) w (C i).cells ub:=fun i=>(hC' i).choose_spec
 have hsz:∀ c∈List.ofFn C,c.size=k:=by intro c hc;obtain ⟨i,rfl⟩:=List.mem_ofFn.1 hc;exact (hCs i).2.1
 refine ⟨List.ofFn C,_,rfl, ?_,by intro c hc;obtain ⟨i,rfl⟩:=List.mem_ofFn.1 hc;exact (hCs i).1,by rw [List.length_ofFn];omega⟩
 simp only [aG]
 refine ⟨some a,cap,by rw [List.length_ofFn],by rw [List.length_ofFn];exact hl,hm,hsz, ?_⟩
 by_cases h0:len=0
 . left;exact List.length_eq_zero_iff.1 (by rw [List.length_ofFn];exact h0)
 right
 have hcell:∀ (i:_root_.Fin len) (r:Nat) (c:AV),(C i).cells[r]? = some c->∃ v,w.cell? ((a.add (i.1*k)).add r)=some v/\aG (ky w) w c v:=by
   intro i r c hc
   obtain ⟨_,hs,ub,h1,h2⟩:=hCs i
   obtain ⟨El,hp⟩:=bz.1 h2
   obtain ⟨v,hv,yF⟩:=hp r c hc
   refine ⟨v, ?_,yF⟩
   have hrk:r<k:=by have:=(List.getElem?_eq_some_iff.1 hc).1;rw [<- hs];exact this
   rw [(World.cells?_some h1).2.2 r hrk,hv]
 obtain ⟨b,o,spot⟩:=a
 have hz:0<len:=Nat.pos_of_ne_zero h0
 obtain ⟨c0,SD⟩:∃ c,(C ⟨0,hz⟩).cells[0]? = some c:=⟨_,List.getElem?_eq_getElem (by have:=(hCs ⟨0,hz⟩).2.1;unfold AV.size at this;omega)⟩
 obtain ⟨v0,hv0,_⟩:=hcell ⟨0,hz⟩ 0 c0 SD
 have afR:((⟨b,o,spot⟩:Addr).add (0*k)).add 0=⟨b,o,spot⟩:=by simp [Addr.add]
 have afS:w.cell? ⟨b,o,spot⟩=some v0:=by rw [<- afR];exact hv0
 have hsp:spot=none:=World.cell?_spot afS
 subst hsp
 refine ⟨b,o,rfl,World.block_lt_of_cell? _ _ afS,dw.2 ?_⟩
 intro j c hj
 have qu:j<(flat (List.ofFn C)).length:=(List.getElem?_eq_some_iff.1 hj).1
 rw [b9 hsz,List.length_ofFn] at qu
 have H6:j/k<len:=(Nat.div_lt_iff_lt_mul Hk).2 qu
 have Yf:j%k<k:=Nat.mod_lt _ Hk
 have Yt:(List.ofFn C)[j/k]? = some (C ⟨j/k,H6⟩):=by rw [List.getElem?_ofFn,dif_pos H6]
 have yz:=flat_get hsz Yt Yf
 have hjj:j/k*k+j%k=j:=by rw [Nat.mul_comm];exact Nat.div_add_mod j k
 rw [hjj,hj] at yz
 obtain ⟨v,hv,hr⟩:=hcell ⟨j/k,H6⟩ (j%k) c yz.symm
 refine ⟨v, ?_,hr⟩
 have akN:((⟨b,o,none⟩:Addr).add (j/k*k)).add (j%k)=⟨b,o+j,none⟩:=by
   have h1:∀ (o n:Nat),(⟨b,o,none⟩:Addr).add n=⟨b,o+n,none⟩:=fun o n=>by unfold Addr.add;split<;>simp_all
   rw [h1,h1,Nat.add_assoc,hjj]
 rw [<- akN];exact hv
end
end Go.VL
end

section
set_option maxRecDepth 100000
namespace Go.Proofs.YtndoagbiakehnaaGreat
open Go.VL
theorem CD:maxLen<=9223372036854775807:=Nat.le_refl _
section
variable {H:Type} {enc:TypeId × Value->H} {w:World} {spare:Nat->Bool} {held:Bool} {fuel:Nat} {cs:List Value} {x:DataW H × List MemPlace}
theorem I1 (h:DataW.trod enc Tryz.prog w 0 spare held fuel 9 cs=some x):∃ s:List UInt8,aK (ky w) w [.str s] cs/\s.length<=9223372036854775807:=by
 obtain ⟨s,rfl,_,hs⟩:=DataW.trod_string Tryz.underlying9 h
 refine ⟨s.data.toList, ?_, ?_⟩
 . simp only [aK,aG]
   exact ⟨_,[],rfl,rfl,rfl⟩
 . have e:s.data.toList.length=s.size:=Array.length_toList
   rw [e];exact Nat.le_trans hs CD
theorem Ed (h:DataW.trod enc Tryz.prog w 0 spare held fuel 4 cs=some x):∃ b:Bool,aK (ky w) w [.bool b] cs:=by
 obtain ⟨b,rfl,_⟩:=DataW.trod_bool Tryz.underlying4 h
 exact ⟨b,by simp [aK,aG]⟩
theorem W6 (h:DataW.trod enc Tryz.prog w 0 spare held fuel 5 cs=some x):∃ n:Nat,n<256/\aK (ky w) w [.int .u8 (n:Int)] cs:=by
 obtain ⟨n,rfl,_,hw⟩:=DataW.trod_int Tryz.underlying5 h
 have hb:=bounds_u8 hw
 obtain ⟨m,rfl⟩:=Int.eq_ofNat_of_zero_le hb.1
 exact ⟨m,by omega,by simp [aK,aG]⟩
theorem W7 (h:DataW.trod enc Tryz.prog w 0 spare held fuel 110 cs=some x):∃ n:Int,(-128<=n/\n<128)/\aK (ky w) w [.int .i8 n] cs:=by
 obtain ⟨n,rfl,_,hw⟩:=DataW.trod_int Tryz.underlying110 h
 exact ⟨n,by have:=bounds_i8 hw;omega,by simp [aK,aG]⟩
theorem Sd (h:DataW.trod enc Tryz.prog w 0 spare held fuel 24 cs=some x):∃ ws:List Nat,aK (ky w) w [.sl 1 (us ws)] cs/\Wd ws/\ws.length<=9223372036854775807:=by
 obtain ⟨es,v,rfl,hr,hg,hl⟩:=Lm (k:=1) Tryz.underlying24 (by kernel_rfl) (by decide) h (fun c=>∃ n:Nat,c = .int .u32 (n:Int)/\n<ak) (fun n ub y _ hy=>by
   obtain ⟨n,rfl,_,hw⟩:=DataW.trod_int Tryz.underlying146 hy
   have hb:=bounds_u32 hw
   obtain ⟨m,rfl⟩:=Int.eq_ofNat_of_zero_le hb.1
   exact ⟨.int .u32 (m:Int),⟨m,rfl,by unfold ak;omega⟩,rfl,by simp [AV.cells,aK,aG]⟩)
 obtain ⟨ws,rfl,hw⟩:=nZ hg
 refine ⟨ws,by simp only [aK];exact ⟨v,[],rfl,hr,rfl⟩,hw, ?_⟩
 rw [List.length_map] at hl
 exact Nat.le_trans hl CD
theorem Se (h:DataW.trod enc Tryz.prog w 0 spare held fuel 26 cs=some x):∃ (b:Bool) (ws:List Nat),aK (ky w) w [.bool b, .sl 1 (us ws)] cs/\Wd ws/\ws.length<=9223372036854775807:=by
 obtain ⟨xs,n,_,_,hl,N8,hf⟩:=DataW.trod_struct Tryz.underlying26 h
 have hC:Tryz.prog.cellsOf 26=2:=by kernel_rfl
 have h4:Tryz.prog.cellsOf 4=1:=by kernel_rfl
 have h24:Tryz.prog.cellsOf 24=1:=by kernel_rfl
 rw [hC] at hl
 have hxs:xs.length=2:=N8
 match cs,hl with
 | [c0,c1],_ =>
   have f0:DataW.trod enc Tryz.prog w 0 spare held n 4 (List.take (Tryz.prog.cellsOf 4) (List.drop 0 [c0,c1]))=xs[0]? := hf 0 _ rfl
   have f1:DataW.trod enc Tryz.prog w 0 spare held n 24 (List.take (Tryz.prog.cellsOf 24) (List.drop 1 [c0,c1]))=xs[1]? := hf 1 _ rfl
   rw [List.getElem?_eq_getElem (by omega)] at f0 f1
   simp only [h4,h24,List.drop_zero,List.drop_succ_cons,List.take_succ_cons,List.take_zero] at f0 f1
   obtain ⟨b,hb⟩:=Ed f0
   obtain ⟨ws,hw,hwd,Yg⟩:=Sd f1
   exact ⟨b,ws,aK.append (xs:=[.bool b]) (us:=[c0]) hb hw,hwd,Yg⟩
theorem aaw (h:DataW.trod enc Tryz.prog w 0 spare held fuel 28 cs=some x):∃ (n1:Bool) (w1:List Nat) (n2:Bool) (w2:List Nat),aK (ky w) w [.bool n1, .sl 1 (us w1), .bool n2, .sl 1 (us w2)] cs/\Wd w1/\Wd w2/\w1.length<=9223372036854775807/\w2.length<=9223372036854775807:=by
 obtain ⟨xs,n,_,_,hl,N8,hf⟩:=DataW.trod_struct Tryz.underlying28 h
 have hC:Tryz.prog.cellsOf 28=4:=by kernel_rfl
 have h26:Tryz.prog.cellsOf 26=2:=by kernel_rfl
 rw [hC] at hl
 have hxs:xs.length=2:=N8
 match cs,hl with
 | [c0,c1,c2,c3],_ =>
   have f0:DataW.trod enc Tryz.prog w 0 spare held n 26 (List.take (Tryz.prog.cellsOf 26) (List.drop 0 [c0,c1,c2,c3]))=xs[0]? := hf 0 _ rfl
   have f1:DataW.trod enc Tryz.prog w 0 spare held n 26 (List.take (Tryz.prog.cellsOf 26) (List.drop 2 [c0,c1,c2,c3]))=xs[1]? := hf 1 _ rfl
   rw [List.getElem?_eq_getElem (by omega)] at f0 f1
   simp only [h26,List.drop_zero,List.drop_succ_cons,List.take_succ_cons,List.take_zero] at f0 f1
   obtain ⟨n1,w1,h1,nQ,mD⟩:=Se f0
   obtain ⟨n2,w2,h2,pw,El⟩:=Se f1
   exact ⟨n1,w1,n2,w2,aK.append (xs:=[.bool n1, .sl 1 (us w1)]) (us:=[c0,c1]) h1 h2,nQ,pw,mD,El⟩
theorem c8:Tryz.prog.cellsOf 110=1:=by kernel_rfl
theorem c4:Tryz.prog.cellsOf 4=1:=by kernel_rfl
theorem c5:Tryz.prog.cellsOf 5=1:=by kernel_rfl
theorem afT:Tryz.prog.cellsOf 111=2:=by kernel_rfl
theorem afU:Tryz.prog.cellsOf 113=8:=by kernel_rfl
theorem W8 (h:DataW.trod enc Tryz.prog w 0 spare held fuel 111 cs=some x):∃ a:Int × Int,VF a/\aK (ky w) w [.int .i8 a.1, .int .i8 a.2] cs:=by
 obtain ⟨xs,n,_,_,hl,N8,hf⟩:=DataW.trod_array Tryz.underlying111 h
 rw [afT] at hl
 match cs,hl with
 | [a,b],_ =>
   have f0:=hf 0 (by decide)
   have f1:=hf 1 (by decide)
   rw [List.getElem?_eq_getElem (by omega)] at f0 f1
   simp only [c8,Nat.zero_mul,Nat.one_mul,List.drop_zero,List.drop_succ_cons,List.take_succ_cons,List.take_zero] at f0 f1
   obtain ⟨i,hi,Od⟩:=W7 f0
   obtain ⟨j,hj,hrj⟩:=W7 f1
   exact ⟨(i,j),⟨hi.1,hi.2,hj.1,hj.2⟩,aK.append (xs:=[.int .i8 i]) (us:=[a]) Od hrj⟩
theorem Sf (h:DataW.trod enc Tryz.prog w 0 spare held fuel 113 cs=some x):∃ d:DX,d.Ok/\aK (ky w) w d.av.cells cs:=by
 obtain ⟨xs,n,_,_,hl,N8,hf⟩:=DataW.trod_struct Tryz.underlying113 h
 rw [afU] at hl
 have hxs:xs.length=6:=N8
 match cs,hl with
 | [c0,c1,c2,c3,c4',c5',c6,c7],_ =>
   have f0:DataW.trod enc Tryz.prog w 0 spare held n 4 (List.take (Tryz.prog.cellsOf 4) (List.drop 0 [c0,c1,c2,c3,c4',c5',c6,c7]))=xs[0]? := hf 0 _ rfl
   have f1:DataW.trod enc Tryz.prog w 0 spare held n 4 (List.take (Tryz.prog.cellsOf 4) (List.drop 1 [c0,c1,c2,c3,c4',c5',c6,c7]))=xs[1]? := hf 1 _ rfl
   have f2:DataW.trod enc Tryz.prog w 0 spare held n 111 (List.take (Tryz.prog.cellsOf 111) (List.drop 2 [c0,c1,c2,c3,c4',c5',c6,c7]))=xs[2]? := hf 2 _ rfl
   have f3:DataW.trod enc Tryz.prog w 0 spare held n 111 (List.take (Tryz.prog.cellsOf 111) (List.drop 4 [c0,c1,c2,c3,c4',c5',c6,c7]))=xs[3]? := hf 3 _ rfl
   have f4:DataW.trod enc Tryz.prog w 0 spare held n 5 (List.take (Tryz.prog.cellsOf 5) (List.drop 6 [c0,c1,c2,c3,c4',c5',c6,c7]))=xs[4]? := hf 4 _ rfl
   have f5:DataW.trod enc Tryz.prog w 0 spare held n 5 (List.take (Tryz.prog.cellsOf 5) (List.drop 7 [c0,c1,c2,c3,c4',c5',c6,c7]))=xs[5]? := hf 5 _ rfl
   rw [List.getElem?_eq_getElem (by omega)] at f0 f1 f2 f3 f4 f5
   simp only [c4,c5,afT,List.drop_zero,List.drop_succ_cons,List.take_succ_cons,List.take_zero] at f0 f1 f2 f3 f4 f5
   obtain ⟨a,ha⟩:=Ed f0
   obtain ⟨b,hb⟩:=Ed f1
   obtain ⟨p,hp,UY⟩:=W8 f2
   obtain ⟨q,hq,I7⟩:=W8 f3
   obtain ⟨s,hs,Nu⟩:=W6 f4
   obtain ⟨u,hu,hur⟩:=W6 f5
   refine ⟨⟨a,b,p,q,s,u⟩,⟨hp,hq,hs,hu⟩, ?_⟩
   show aK (ky w) w [.bool a, .bool b, .int .i8 p.1, .int .i8 p.2, .int .i8 q.1, .int .i8 q.2, .int .u8 (s:Int), .int .u8 (u:Int)] _
   exact aK.append (xs:=[.bool a]) (us:=[c0]) ha (aK.append (xs:=[.bool b]) (us:=[c1]) hb (aK.append (xs:=[.int .i8 p.1, .int .i8 p.2]) (us:=[c2,c3]) UY (aK.append (xs:=[.int .i8 q.1, .int .i8 q.2]) (us:=[c4',c5']) I7 (aK.append (xs:=[.int .u8 (s:Int)]) (us:=[c6]) Nu hur))))
theorem Nq (h:DataW.trod enc Tryz.prog w 0 spare held fuel 22 cs=some x):∃ l:List DX,(∀ d∈l,d.Ok)/\aK (ky w) w [Eg l] cs:=by
 obtain ⟨es,v,rfl,hr,hg,hl⟩:=Lm (k:=8) Tryz.underlying22 afU (by decide) h (fun c=>∃ d:DX,c=d.av/\d.Ok) (fun n ub y _ hy=>by
   obtain ⟨d,h1,h2⟩:=Sf hy
   exact ⟨d.av,⟨d,rfl,h1⟩,rfl,h2⟩)
 obtain ⟨l,rfl,hw⟩:=nZ hg
 exact ⟨l,hw,by simp only [aK];exact ⟨v,[],rfl,hr,rfl⟩⟩
end
end Go.Proofs.YtndoagbiakehnaaGreat
end

section
set_option maxRecDepth 100000
namespace Go.Proofs.YtndoagbiakehnaaGreat
open Go.VL
section
variable {H:Type} {enc:TypeId × Value->H} {w:World} {spare:Nat->Bool} {held:Bool} {fuel:Nat} {cs:List Value} {x:DataW H × List MemPlace}
theorem c23:Tryz.prog.cellsOf 23=3:=by kernel_rfl
theorem c9s:Tryz.prog.cellsOf 9=1:=by kernel_rfl
theorem afV (h:DataW.trod enc Tryz.prog w 0 spare held fuel 23 cs=some x):∃ a b c:List UInt8,aK (ky w) w [.str a, .str b, .str c] cs:=by
 obtain ⟨xs,n,_,_,hl,N8,hf⟩:=DataW.trod_array Tryz.underlying23 h
 rw [c23] at hl
 match cs,hl with
 | [a,b,c],_ =>
   have f0:=hf 0 (by decide)
   have f1:=hf 1 (by decide)
   have f2:=hf 2 (by decide)
   rw [List.getElem?_eq_getElem (by omega)] at f0 f1 f2
   simp only [c9s,Nat.mul_one,List.drop_zero,List.drop_succ_cons,List.take_succ_cons,List.take_zero] at f0 f1 f2
   obtain ⟨i,Od,_⟩:=I1 f0
   obtain ⟨j,hrj,_⟩:=I1 f1
   obtain ⟨k,hrk,_⟩:=I1 f2
   exact ⟨i,j,k,aK.append (xs:=[.str i]) (us:=[a]) Od (aK.append (xs:=[.str j]) (us:=[b]) hrj hrk)⟩
end
end Go.Proofs.YtndoagbiakehnaaGreat
end

section
namespace Go.VL
open Go.ChangeShapes Go.WideShapes Go.ChangeAt Go.RowKit
section
variable {H:Type} {enc:TypeId × Value->H} {P:Program}
theorem sZ (hl:laidOutB P=true) {W W':World} {sp:Nat->Bool} (hB:Below W.heap.size W W'):∀ {ts:List TypeId} {vs:List Value} {ds:List (DataW H)} {ps:List MemPlace},
   (∀ t∈ts,P.readableRec t=true/\t<P.types.size)->DataW.TrodAll enc P W 0 (fun _=>true) true ts vs ds ps->(∀ p∈ps,p.block<W.heap.size)->(∀ p∈ps,sp p.block=true) ->
   DataW.TrodAll enc P W' 0 sp true ts vs ds ps
 | [],[],[],ps,_,h,_,_=>by simpa [DataW.TrodAll] using h
 | t::ts,v::vs,d::ds,ps,hr,h,hlt,hsp=>by
   simp only [DataW.TrodAll] at h ⊢
   obtain ⟨p,q,h1,h2,rfl⟩:=h
   refine ⟨p,q, ?_,sZ hl hB (fun x hx=>hr x (by simp [hx])) h2 (fun x hx=>hlt x (by simp [hx])) (fun x hx=>hsp x (by simp [hx])),rfl⟩
   exact WideElems.Trod_stays hl (hr t (by simp)).1 (hr t (by simp)).2 h1 (fun x hx=>hB.same (hlt x (by simp [hx]))) (fun x hx=>hsp x (by simp [hx]))
 | [],[],_::_,_,_,h,_,_=>by simp [DataW.TrodAll] at h
 | [],_::_,_,_,_,h,_,_=>by simp [DataW.TrodAll] at h
 | _::_,[],_,_,_,h,_,_=>by simp [DataW.TrodAll] at h
 | _::_,_::_,[],_,_,h,_,_=>by simp [DataW.TrodAll] at h
theorem Sg {f:Func} {s:ChangeSpec} {apart fresh handsOn:Bool} {W W':World} {args:Array Value} {ds gs:List (DataW H)} {before:List MemPlace}
   (hl:laidOutB P=true) (hr:∀ t∈f.params.toList,P.readableRec t=true/\t<P.types.size) (hv:s.vars=[])
   (hs:(s.fn H (ds++gs))={ results:=[.lit (.bool true)],args:=ds }) {tb:TypeId} (Ev:f.resultTypes = #[tb]) (XE:P.underlying tb=some .bool)
   (hW:DataW.Whole enc P f.params.toList s.vars apart W args.toList ds gs before) (hB:Below W.heap.size W W') :
   s.post enc P f apart fresh handsOn false W args (.bool true) W':=by
 have hlt:=hW.lt
 have hW':=hW
 obtain ⟨p,q,h1,h2,rfl,h3,h4⟩:=hW
 rw [hv] at h2
 have hq:q=[]/\gs=[]:=by
   cases gs with
   | nil=>simp only [DataW.TrodVars] at h2;exact ⟨h2,rfl⟩
   | cons _ _=>simp [DataW.TrodVars] at h2
 obtain ⟨rfl,rfl⟩:=hq
 refine ⟨ds,[],p++[],[],p,[],hW', ?_, ?_, ?_,hB.frame _,fun h=>by simp at h⟩
 . rw [hs,Ev]
   exact trodAll_mk1 ⟨1,by simp [DataW.trod,XE,Value.cells]⟩
 . rw [hs]
   exact sZ hl hB hr h1 (fun x hx=>hlt x (by simp [hx])) (fun x hx=>by simpa using hlt x (by simp [hx]))
 . rw [hs,hv];simp [DataW.TrodVars]
end
theorem Hh {P:Program} {G:Nat->Option (List AV)} {f:FuncId} {args:List AV} {r:dH} (h:aw P G f args [] [] r) (hr:r.val = .bool true) {w:World} {ok:Nat->Prop}
   (eQ:∀ b,ok b->b<w.heap.size) (hg:∀ g cs,G g=some cs->ok g/\aZ ⟨fun _=>none,ok⟩ w g 0 cs) {vs:List Value} (ha:aK ⟨fun _=>none,ok⟩ w args vs) :
   Calls P f vs.toArray w fun e w'=>e = .returned (.bool true)/\Below w.heap.size w w':=by
 have hi:Inv G (fun k=>w.heap.size<=k) ⟨fun _=>none,ok⟩ w (fun _=>none):=⟨eQ,fun id bk h=>by simp at h,fun i j x y h=>absurd rfl h,hg,fun k hk=>hk⟩
 refine (h.2 _ _ w _ vs (by simp) hi ha (fun _ _=>rfl)).mono fun e w' he => ?_
 obtain ⟨v,E',rfl,hp⟩:=he
 have hv:=hp.rep
 rw [hr] at hv
 simp only [aG] at hv
 subst hv
 exact ⟨rfl,hp.Au.os,hp.Au.tape,hp.Au.output,hp.Au.size,fun k hk=>hp.Au.block k hk (by omega)⟩
end Go.VL
end
