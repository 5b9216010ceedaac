/- For the claim of FeatureOffset: parts RY2, RT1, ISR, ISS, IST, RT2, RT3, RT4, RY4. -/
import Derived.Test.YtndoagbiakehnaaGreatC11
import Derived.Test.YtndoagbiakehnaaGreatC07
import Derived.Test.YtndoagbiakehnaaGreatC06
import Derived.Test.YtndoagbiakehnaaGreatC05
set_option linter.unusedSimpArgs false
set_option linter.unusedVariables false
section
set_option maxRecDepth 100000
namespace Go.Proofs.YtndoagbiakehnaaGreat
open Go.VL Go.Proofs Go.Lib
theorem GI {σ : ae} {id:VL.Id} {l:List NY} {b t:Bool} (h : σ id=some ⟨l.map NY.av,15,b⟩):View σ (.osl id 15 0 l.length t) (ou l):=by
 have e:(l.map NY.av).length=l.length:=List.length_map ..
 rw [<- e]
 exact View.osl (bk:=⟨l.map NY.av,15,b⟩) h rfl (by simp) (by rw [List.drop_zero,List.take_length];exact az.pure (Yb l)) (by simp) (by intro a ha;obtain ⟨y,_,rfl⟩:=List.mem_map.1 ha;rfl)
theorem SV {σ : ae} {p id:VL.Id} {A:List AV} {ys:List NY} {k:Nat} (h : σ id=some ⟨A++List.replicate (ys.length+k) zN,15,false⟩) (h0:ys≠[]) (hl:A.length+ys.length<=1000) :
   fK σ p 15 320 (.osl id 15 0 A.length false) (ou ys)=some { val := .osl id 15 0 (A.length+ys.length) false,rd:=[id],up:=[(id,some ⟨A++ys.map NY.av++List.replicate k zN,15,false⟩)] }:=by
 have hy:0<ys.length:=List.length_pos_iff.2 h0
 have e1:(ys.map NY.av).isEmpty=false:=by simpa using h0
 have hmx:A.length+ys.length<=maxLen:=gC (by omega)
 simp only [fK,gB,e1,h,List.length_map]
 rw [if_neg (by decide),if_pos ⟨trivial,trivial,trivial,by simp,by omega,hmx,q8 Be ys⟩,if_neg (by decide),if_neg (fun hh=>by have:=hh.1;rw [List.length_append,List.length_replicate] at this;omega),if_pos ⟨by simp,trivial⟩]
 simp [List.drop_append]
theorem aa3 {σ : ae} {p:VL.Id} {l:List NY} (h0:l≠[]) (hl:l.length<=1000000):fK σ p 15 320 (.tsl 15 []) (ou l)=some { val := .osl p 15 0 l.length false,up:=[(p,some ⟨l.map NY.av,15,false⟩)] }:=by
 rw [rp (es:=[]) (ys:=l.map NY.av) gB (by simpa using h0) (by simp;omega) (gC (by simp;omega)) (by simpa using q8 Be l)]
 simp
theorem aa4 {σ : ae} {p id:VL.Id} {l m:List NY} (h : σ id=some ⟨l.map NY.av,15,false⟩) (h0:m≠[]) (hl:l.length+m.length<=1000000):fK σ p 15 320 (.osl id 15 0 l.length false) (ou m)=some { val := .osl p 15 0 (l++m).length false,rd:=[id],up:=[(id,none),(p,some ⟨(l++m).map NY.av,15,false⟩)] }:=by
 have:=yb (σ := σ) (p:=p) (id:=id) (k:=15) (bytes:=320) (len:=l.length) (x:=ou m) (els:=l.map NY.av) (ys:=m.map NY.av) (rd:=[]) gB (by simpa using h0) h (by simp) (by simp;omega) (gC (by simp;omega)) (q8 Be m) (q8 Be l)
 simpa using this
theorem KE {l m:List NY} (h:wZ l m=0):l.length+m.length<=200:=by
 unfold wZ at h
 split at h
 . cases h
 . omega
instance {a b:List NY}:PU (.sl 1 [ou a,ou b]):=PU.slice (by intro c hc;simp only [flat,List.flatMap_cons,List.flatMap_nil,List.append_nil,AV.cells,List.mem_append,List.mem_singleton] at hc;rcases hc with rfl | rfl<;>exact PU.pure) (by intro c hc ρ;simp at hc;rcases hc with rfl | rfl;exact PU.fix ρ;exact PU.fix ρ)
abbrev Md:bY:=(.seq (cS [oM 13 5,oM 14 1,oN 15 14,oT 16 .lss 13 15] (.cond (.t 16) .skip (.exit 0))) (.seq (.block 1 (cS [oM 19 1,oM 20 5,oA 21 15 19 20,oF 22 0 21,oL 23 1 22,⟨some 24,.len true (.t 23),none⟩,bd 25 .gtr 24 200] (.cond (.t 25) (cS [oI 4 3] .ret) .skip))) (cR [oM 17 5,bd 18 .add 17 1,oM 5 18])))
abbrev Me (ff:Nat):bY:=(.seq (cS [oM 26 6,oM 27 1,oN 28 27,oT 29 .lss 26 28] (.cond (.t 29) .skip (.exit 2))) (.seq (.block 3 (cS [oM 32 0,oM 33 1,oM 34 6,oA 35 15 33 34,oF 36 0 35,oL 37 1 36,bc 38 ff 32 37,bd 39 .geq 38 0] (.cond (.t 39) (cS [oI 4 5] .ret) .skip))) (cR [oM 30 6,bd 31 .add 30 1,oM 6 31])))
def Fp (l m:List NY) (r i j:AV):List AV:=[ou l,ou m, .top, .top,r,i,j]++List.replicate 33 .top
theorem n8 {ρ : VL.Id->VL.Id} {l m:List NY} {r i j:AV} (hr:r.dJ ρ = r:=by rfl) (hi:i.dJ ρ = i:=by rfl) (hj:j.dJ ρ = j:=by rfl):bQ ρ (Fp l m r i j)=Fp l m r i j:=by
 unfold Fp
 simp only [cL,bA,cd,eZ,PU.fixed,kV,hr,hi,hj]
abbrev afk (fe:Nat):bY:=(.seq (cS [oM 11 5,oM 12 0,oN 13 12,oT 14 .lss 11 13] (.cond (.t 14) .skip (.exit 0))) (.seq (.block 1 (.seq (.reg (some []) [oM 17 0,oM 18 5,oA 19 15 17 18,oF 20 0 19,oL 21 1 20,oM 22 1,oM 23 5,oA 24 15 22 23,oF 25 0 24,oL 26 1 25,⟨some 27,.bin .neq .str (.t 21) (.t 26),none⟩,oM 28 27,gM 29 0 28 false,gM 30 5 28 false,⟨some 31,.iaddrS 15 (.t 29) (.t 30),some (28,false)⟩,gF 32 1 31 28 false,sx 33 14 32 28 false,gM 34 1 28 false,gM 35 5 28 false,⟨some 36,.iaddrS 15 (.t 34) (.t 35),some (28,false)⟩,gF 37 1 36 28 false,sx 38 14 37 28 false,⟨some 39,.call (.f fe) [(.t 33),(.t 38)],some (28,false)⟩,⟨some 40,.un .not (.t 39),some (28,false)⟩,sj 41 28 40]) (.cond (.t 41) (cS [oB 4 false] .ret) .skip))) (cR [oM 15 5,bd 16 .add 15 1,oM 5 16])))
def saT (l:List NY) (i:Nat):List AV:=[ou l,ou l, .top, .top, .top, .int .i64 (i:Int)]++List.replicate 36 .top
theorem Mf {ρ : VL.Id->VL.Id} {l:List NY} {i:Nat}:bQ ρ (saT l i)=saT l i:=by
 unfold saT
 simp only [cL,bA,cd,eZ,PU.fixed,kV]
abbrev afm (fv fV:Nat):bY:=(.seq (cS [oM 5 3,oM 6 0,oN 7 6,oT 8 .lss 5 7] (.cond (.t 8) .skip (.exit 0))) (.seq (.block 1 (cS [oM 11 0,oM 12 3,oA 13 15 11 12,oF 14 1 13,aF 15 14 14,⟨some 4,.box (.c (.agg [(.bool false),.nils,.nils,.nils,.nils,.nils,.nils,.nils,.nils,.nils,.nils,.nils,.nils,(.bool false)])),none⟩,oS 14 4 15] (cS [oF 16 1 4,aF 17 4 16,oC 18 fv 17,rr 19 18,oM 20 19,gF 21 5 4 20 false,sx 22 4 21 20 false,⟨some 23,.call (.f fv) [.t 22],some (20,false)⟩,⟨some 24,.un .not (.t 23),some (20,false)⟩,sj 25 20 24,oM 26 25,gF 27 0 4 26 false,gL 28 1 27 26 false,gM 29 28 26 false,gF 30 9 4 29 true,sx 31 4 30 29 true,⟨some 32,.call (.f fv) [.t 31],some (29,true)⟩,⟨some 33,.un .not (.t 32),some (29,true)⟩,⟨some 34,.pick (.t 29) (.t 33) (.c (.bool false)),some (26,false)⟩,sj 35 26 34,oM 36 35,sx 37 14 4 36 false,⟨some 38,.call (.f fV) [.t 37],some (36,false)⟩,⟨some 39,.un .not (.t 38),some (36,false)⟩,sj 40 36 39] (.cond (.t 40) (cS [oB 2 false] .ret) .skip)))) (cR [oM 9 3,bd 10 .add 9 1,oM 3 10])))
def goT (l:List NY) (i:Nat):List AV:=[ou l, .top, .top, .int .i64 (i:Int)]++List.replicate 37 .top
theorem Eh {ρ : VL.Id->VL.Id} {l:List NY} {i:Nat}:bQ ρ (goT l i)=goT l i:=by
 unfold goT
 simp only [cL,bA,cd,eZ,PU.fixed,kV]
section
variable (G:Nat->Option (List AV))
theorem aa6 (l more:List NY) (hl:l≠[]) (hm:more≠[]) (hlen:l.length+more.length<=200):VP Tryz.prog G 94 [.sl 1 [ou l,ou more]] (ou (l++more)):=by
 have l0:0<l.length:=List.length_pos_iff.2 hl
 have w1:IntKind.i64.wrap ((0:Int)+((l.map NY.av).length:Int))=(l.length:Int):=by rw [IntKind.wrap_i64,List.length_map];omega
 have w2:IntKind.i64.wrap ((l.length:Int)+((more.map NY.av).length:Int))=((l.length+more.length:Nat):Int):=by rw [IntKind.wrap_i64,List.length_map];omega
 have d1:decide ((l.length:Int)<0)=false:=ak (by omega)
 have d2:decide (((l.length+more.length:Nat):Int)<0)=false:=ak (by omega)
 have a1:∀ (σ : ae) (p:VL.Id),(∀ y∈[([18,33],(⟨List.replicate (l.length+more.length) zN,15,false⟩:dc))], σ y.1=some y.2)->bW σ p (.append 15 320 (.osl [18,33] 15 0 0 false) (ou l))=some { val := .osl [18,33] 15 0 l.length false,rd:=[[18,33]],up:=[([18,33],some ⟨l.map NY.av++List.replicate more.length zN,15,false⟩)] }:=fun σ p hσ => by
   have:=SV (σ := σ) (p:=p) (id:=[18,33]) (A:=[]) (ys:=l) (k:=more.length) (by simpa using hσ ([18,33],⟨List.replicate (l.length+more.length) zN,15,false⟩) (by simp)) hl (by simp;omega)
   show fK σ p 15 320 (.osl [18,33] 15 0 0 false) (ou l)=_
   simpa using this
 have a2:∀ (σ : ae) (p:VL.Id),(∀ y∈[([18,33],(⟨l.map NY.av++List.replicate more.length zN,15,false⟩:dc))], σ y.1=some y.2)->bW σ p (.append 15 320 (.osl [18,33] 15 0 l.length false) (ou more))=some { val := .osl [18,33] 15 0 (l++more).length false,rd:=[[18,33]],up:=[([18,33],some ⟨(l++more).map NY.av,15,false⟩)] }:=fun σ p hσ => by
   have:=SV (σ := σ) (p:=p) (id:=[18,33]) (A:=l.map NY.av) (ys:=more) (k:=0) (by simpa using hσ ([18,33],⟨l.map NY.av++List.replicate more.length zN,15,false⟩) (by simp)) hm (by simp;omega)
   show fK σ p 15 320 (.osl [18,33] 15 0 l.length false) (ou more)=_
   simpa using this
 exact VP.n7 et [hw 18 w1,hb 20 d1,hw 18 w2,hb 20 d2, .rel 163 _ [] _ (fun p _=>LV eK (l.length+more.length) (by omega) (by omega) p) (by intro p x hx;simp at hx), .st 33 _ _ _ a1, .st 33 _ _ _ a2]
   [([18,33],⟨(l++more).map NY.av,15,false⟩)] (.osl [18,33] 15 0 (l++more).length false) (by kernel_rfl) (fun σ h=>GI (h ([18,33],⟨(l++more).map NY.av,15,false⟩) (by simp)))
def O6 (l more:List NY):AV:=if wZ l more=0 then .tup [ou (l++more), .int .i64 0] else .tup [.nils, .int .i64 (wZ l more)]
theorem ajo (l more:List NY) (hl:l≠[]) (hm:more≠[]) (hll:l.length<=1000) (KV:more.length<=1000):VP Tryz.prog G 36 [ou l,ou more] (O6 l more):=by
 have hr:=ajn G l more hll KV
 unfold O6
 by_cases h0:wZ l more=0
 . rw [if_pos h0]
   rw [h0] at hr
   have hv:az (ae.of [([10],⟨[ou l,ou more],1,false⟩)]) [.osl [10] 1 0 2 false] [.sl 1 [ou l,ou more]]:=az.cons (Fm (b:=false) (by simp [ae.of]) rfl rfl (by intro c hc;simp [AV.cells] at hc;subst hc;exact PU.pure) (by intro c hc;simp [AV.cells] at hc;subst hc;exact PU.pure)) az.nil
   exact VP.tr mX [hc hr,fR [([10],⟨[ou l,ou more],1,false⟩)] (aa6 G l more hl hm (KE h0)) hv] (by kernel_rfl)
 . rw [if_neg h0]
   exact VP.tr mX [hc hr,hb 11 (bne_iff_ne.2 h0)] (by kernel_rfl)
theorem ajp (l more:List NY) (hl:l.length<=1000) (hm:more.length<=1000):VP Tryz.prog G 111 [ou l,ou more] (.int .i64 (wZ l more)):=by
 have w11:IntKind.i64.wrap (((l.map NY.av).length:Int)+((more.map NY.av).length:Int))=((l.length+more.length:Nat):Int):=by rw [IntKind.wrap_i64,List.length_map,List.length_map];omega
 unfold wZ
 by_cases h0:200<l.length+more.length
 . rw [if_pos h0]
   exact VP.tr g7 [hw 11 w11,hb 12 (aw (by omega):decide (((l.length+more.length:Nat):Int)>200)=true)] (by kernel_rfl)
 rw [if_neg h0]
 have d12:decide (((l.length+more.length:Nat):Int)>200)=false:=ak (by omega)
 have e25:∀ x:NY,decide ((x.name.length:Int)>200)=decide (200<x.name.length):=fun x=>by congr 1;exact propext (by omega)
 have s1:∀ i x,more[i]? = some x->i<more.length->decide (200<x.name.length)=false->Rnd Tryz.prog G [] Md .normal 40 (Fp l more (.int .i64 0) (.int .i64 (i:Int)) .top) [] (Fp l more (.int .i64 0) (.int .i64 ((i+1:Nat):Int)) .top) []:=fun i x hx hlt hp n Q hq =>
   VW.tr (π := []) (n:=n) (fun _=>[]) [hb 16 (tE hlt),ho 21 (qW hx),hb 25 ((e25 x).trans hp),hw 18 (aD i (by omega))] (Fp l more (.int .i64 0) (.int .i64 (i:Int)) .top) [] .normal (Fp l more (.int .i64 0) (.int .i64 ((i+1:Nat):Int)) .top) [] 40 (by kernel_rfl) n8 rfl n8 rfl (by simp) hq
 cases yr:more.any fun x=>decide (200<x.name.length)
 . rw [if_neg (by decide)]
   have l1:=VW.through (P:=Tryz.prog) (G:=G) (π := []) (c:=Md) more (fun i=>Fp l more (.int .i64 0) (.int .i64 (i:Int)) .top) [] 40 1000 1000000 0 (Fp l more (.int .i64 0) .top .top) (by omega) (fun i x hx hlt=>s1 i x hx hlt (by rw [List.any_eq_false] at yr;simpa using yr x (List.mem_of_getElem? hx)))
     (fun n Q hq=>VW.tr (π := []) (n:=n) (fun _=>[]) [hb 16 (BB (l:=more))] (Fp l more (.int .i64 0) (.int .i64 (more.length:Int)) .top) [] (.exit 0) (Fp l more (.int .i64 0) .top .top) [] 40 (by kernel_rfl) n8 rfl n8 rfl (by simp) hq)
   have s2:∀ i x,more[i]? = some x->i<more.length->decide (0<=qp l x.name)=false->Rnd Tryz.prog G [] (Me 12) .normal 40 (Fp l more (.int .i64 0) .top (.int .i64 (i:Int))) [] (Fp l more (.int .i64 0) .top (.int .i64 ((i+1:Nat):Int))) []:=fun i x hx hlt hp n Q hq =>
     VW.tr (π := []) (n:=n) (fun _=>[]) [hb 29 (tE hlt),ho 35 (qW hx),hc (Yd G l x.name hl),hb 39 (hp:decide (qp l x.name≥0)=false),hw 31 (aD i (by omega))] (Fp l more (.int .i64 0) .top (.int .i64 (i:Int))) [] .normal (Fp l more (.int .i64 0) .top (.int .i64 ((i+1:Nat):Int))) [] 40 (by kernel_rfl) n8 rfl n8 rfl (by simp) hq
   cases zE:more.any fun x=>decide (0<=qp l x.name)
   . rw [if_neg (by decide)]
     have l2:=VW.through (P:=Tryz.prog) (G:=G) (π := []) (c:=Me 12) more (fun i=>Fp l more (.int .i64 0) .top (.int .i64 (i:Int))) [] 40 2000000 3000000 2 (Fp l more .top .top .top) (by omega) (fun i x hx hlt=>s2 i x hx hlt (by rw [List.any_eq_false] at zE;simpa using zE x (List.mem_of_getElem? hx)))
       (fun n Q hq=>VW.tr (π := []) (n:=n) (fun _=>[]) [hb 29 (BB (l:=more))] (Fp l more (.int .i64 0) .top (.int .i64 (more.length:Int))) [] (.exit 2) (Fp l more .top .top .top) [] 40 (by kernel_rfl) n8 rfl n8 rfl (by simp) hq)
     exact VP.tr g7 [hw 11 w11,hb 12 d12, .lp [] _ _ _ _ _ _ _ _ l1, .lp [] _ _ _ _ _ _ _ _ l2] (by kernel_rfl)
   . rw [if_pos rfl]
     have l2:=VW.aa1 (P:=Tryz.prog) (G:=G) (π := []) (c:=Me 12) more (fun x=>decide (0<=qp l x.name)) zE (fun i=>Fp l more (.int .i64 0) .top (.int .i64 (i:Int))) [] 40 2000000 3000000 (Fp l more (.int .i64 5) .top .top) (by omega) s2
       (fun i x hx hlt hp _ n Q hq=>VW.tr (π := []) (n:=n) (fun _=>[]) [hb 29 (tE hlt),ho 35 (qW hx),hc (Yd G l x.name hl),hb 39 (hp:decide (qp l x.name≥0)=true)] (Fp l more (.int .i64 0) .top (.int .i64 (i:Int))) [] .ret (Fp l more (.int .i64 5) .top .top) [] 40 (by kernel_rfl) n8 rfl n8 rfl (by simp) hq)
     exact VP.tr g7 [hw 11 w11,hb 12 d12, .lp [] _ _ _ _ _ _ _ _ l1, .lp [] _ _ _ _ _ _ _ _ l2] (by kernel_rfl)
 . rw [if_pos rfl]
   have l1:=VW.aa1 (P:=Tryz.prog) (G:=G) (π := []) (c:=Md) more (fun x=>decide (200<x.name.length)) yr (fun i=>Fp l more (.int .i64 0) (.int .i64 (i:Int)) .top) [] 40 1000 1000000 (Fp l more (.int .i64 3) .top .top) (by omega) s1
     (fun i x hx hlt hp _ n Q hq=>VW.tr (π := []) (n:=n) (fun _=>[]) [hb 16 (tE hlt),ho 21 (qW hx),hb 25 ((e25 x).trans hp)] (Fp l more (.int .i64 0) (.int .i64 (i:Int)) .top) [] .ret (Fp l more (.int .i64 3) .top .top) [] 40 (by kernel_rfl) n8 rfl n8 rfl (by simp) hq)
   exact VP.tr g7 [hw 11 w11,hb 12 d12, .lp [] _ _ _ _ _ _ _ _ l1] (by kernel_rfl)
theorem afn (l more:List NY) (hl:l≠[]) (hm:more≠[]) (hll:l.length<=1000) (KV:more.length<=1000):VP Tryz.prog G 54 [ou l,ou more] (O6 l more):=by
 have hf:=ajp G l more hll KV
 unfold O6
 by_cases h0:wZ l more=0
 . rw [if_pos h0]
   rw [h0] at hf
   have a1:∀ (σ : ae) (p:VL.Id),(∀ y∈([]:List (VL.Id × dc)), σ y.1=some y.2)->bW σ p (.append 15 320 (.tsl 15 []) (ou l))=some { val := .osl p 15 0 l.length false,rd:=[],up:=[(p,some ⟨l.map NY.av,15,false⟩)] }:=fun σ p _=>aa3 (σ := σ) hl (by omega)
   have a2:∀ (σ : ae) (p:VL.Id),(∀ y∈[([10],(⟨l.map NY.av,15,false⟩:dc))], σ y.1=some y.2)->bW σ p (.append 15 320 (.osl [10] 15 0 l.length false) (ou more))=some { val := .osl p 15 0 (l++more).length false,rd:=[[10]],up:=[([10],none),(p,some ⟨(l++more).map NY.av,15,false⟩)] }:=fun σ p hσ => aa4 (hσ ([10],⟨l.map NY.av,15,false⟩) (by simp)) hm (by omega)
   exact VP.n7 nS [hc hf, .st 15 [] _ _ a1, .st 17 _ _ _ a2] [([12],⟨(l++more).map NY.av,15,false⟩)] (.tup [.osl [12] 15 0 (l++more).length false, .int .i64 0]) (by kernel_rfl) (fun σ h=>vT (GI (h ([12],⟨(l++more).map NY.av,15,false⟩) (by simp))))
 . rw [if_neg h0]
   exact VP.tr nS [hc hf,hb 11 (bne_iff_ne.2 h0)] (by kernel_rfl)
theorem afo (l:List NY) (hl:l.length<=1000) (he:∀ x∈l,VP Tryz.prog G 68 [x.cv,x.cv] (.bool true)):VP Tryz.prog G 26 [ou l,ou l] (.bool true):=by
 have e10:(((l.map NY.av).length:Int) != ((l.map NY.av).length:Int))=false:=by simp
 have Jt:=VW.through (P:=Tryz.prog) (G:=G) (π := []) (c:=afk 68) l (fun i=>saT l i) [] 60 1000 1000000 0 (List.replicate 42 .top) (by omega)
   (fun i x hx hlt n Q hq=>VW.tr (π := []) (n:=n) (fun _=>[]) [hb 14 (tE hlt),ho 19 (qW hx),ho 24 (qW hx),hb 27 (by simp:(!(x.name==x.name))=false),ho 31 (qW hx),ho 36 (qW hx),hc (he x (List.mem_of_getElem? hx)),hw 16 (aD i (by omega))] (saT l i) [] .normal (saT l (i+1)) [] 60 (by kernel_rfl) Mf rfl Mf rfl (by simp) hq)
   (fun n Q hq=>VW.tr (π := []) (n:=n) (fun _=>[]) [hb 14 (BB (l:=l))] (saT l l.length) [] (.exit 0) (List.replicate 42 .top) [] 60 (by kernel_rfl) Mf rfl eZ rfl (by simp) hq)
 exact VP.tr g8 [hb 10 e10, .lp [] _ _ _ _ _ _ _ _ Jt] (by kernel_rfl)
theorem ajr (l:List NY) (hl:l.length<=1000) (hv:∀ x∈l,VP Tryz.prog G 112 [VQ x.q x.b x.a1 x.a2] (.bool true)/\VP Tryz.prog G 112 [VQ x.q x.b x.b1 x.b2] (.bool true)/\VP Tryz.prog G 112 [V2 x.c] (.bool true)/\VP Tryz.prog G 113 [x.cv] (.bool true)):VP Tryz.prog G 55 [ou l] (.bool true):=by
 have Jt:=VW.through (P:=Tryz.prog) (G:=G) (π := []) (c:=afm 112 113) l (fun i=>goT l i) [] 60 1000 1000000 0 (List.replicate 41 .top) (by omega)
   (fun i x hx hlt n Q hq=>by
     obtain ⟨v1,v2,v3,v4⟩:=hv x (List.mem_of_getElem? hx)
     have hg:=qW hx
     obtain ⟨nm,wU,q,b,a1,a2,b1,b2,c,cw⟩:=x
     cases wU
     . cases b<;>exact VW.tr (π := []) (n:=n) (fun _=>[]) [hb 8 (tE hlt),ho 13 hg,hc v1,hc v2,hc v4,hw 10 (aD i (by omega))] (goT l i) [] .normal (goT l (i+1)) [] 60 (by kernel_rfl) Eh rfl Eh rfl (by simp) hq
     . cases b<;>exact VW.tr (π := []) (n:=n) (fun _=>[]) [hb 8 (tE hlt),ho 13 hg,hc v1,hc v2,hc v3,hc v4,hw 10 (aD i (by omega))] (goT l i) [] .normal (goT l (i+1)) [] 60 (by kernel_rfl) Eh rfl Eh rfl (by simp) hq)
   (fun n Q hq=>VW.tr (π := []) (n:=n) (fun _=>[]) [hb 8 (BB (l:=l))] (goT l l.length) [] (.exit 0) (List.replicate 41 .top) [] 60 (by kernel_rfl) Eh rfl eZ rfl (by simp) hq)
 exact VP.tr oO [.lp [] _ _ _ _ _ _ _ _ Jt] (by kernel_rfl)
theorem GJ (e:Int):VP Tryz.prog G 11 [.nils, .int .i64 e, .nils, .int .i64 e] (.bool true):=by
 have h1:VP Tryz.prog G 55 [.nils] (.bool true):=VP.tr oO [] (by kernel_rfl)
 have h2:VP Tryz.prog G 26 [.nils, .nils] (.bool true):=VP.tr g8 [] (by kernel_rfl)
 exact VP.tr nT [hb 11 (by simp:(e==e)=true),hc h1,hc h2] (by kernel_rfl)
end
end Go.Proofs.YtndoagbiakehnaaGreat
end

section
set_option maxRecDepth 100000
namespace Go.Proofs.YtndoagbiakehnaaGreat
open Go.VL Go.Proofs Go.Lib
section
variable (G:Nat->Option (List AV))
theorem ajs (x:Rat):VP Tryz.prog G 219 [.sl 1 [],QV x] (EV x):=VP.n7 mL [] [([3],⟨[QV x],4,false⟩)] (.osl [3] 4 0 1 false) (by kernel_rfl) (fun σ h=>L0 (h ([3],⟨[QV x],4,false⟩) (by simp)))
theorem Ye (x:Rat) (hx:Sm 100000 x):VP Tryz.prog G 218 [EV x] (.bool (decide (x=0))):=by
 have k16:ni false (W x.num.natAbs)=some (.int .i64 (aa x.num.natAbs:Int)):=bb _
 by_cases h:x=0
 . have h0:=cg.2 (show x.num.natAbs=0 by rw [h];rfl)
   have e:decide ((aa x.num.natAbs:Int)>0)=false:=ak (by omega)
   rw [decide_eq_true h]
   exact VP.tr oD [ho 16 k16,hb 17 e] (by kernel_rfl)
 . have e:decide ((aa x.num.natAbs:Int)>0)=true:=aw (by
     have:aa x.num.natAbs≠0:=fun e=>h (by have:=cg.1 e;exact Rat.num_eq_zero.1 (by omega))
     omega)
   rw [decide_eq_false h]
   exact VP.tr oD [ho 16 k16,hb 17 e] (by kernel_rfl)
theorem Yf (a b:Rat) (ha:Sm 100000 a) (hb:Sm 100000 b) (p:VL.Id):aM Tryz.prog G 171 [.sl 1 [],EV a,EV b] p [] { val := .osl (11::p) 4 0 1 false,rd:=[],up:=[(11::p,some ⟨[QV (a*b)],4,false⟩)] } :=
 aM.tr (p:=p) (up:=[(11::p,⟨[QV (a*b)],4,false⟩)]) dC (fun _=>[]) [hc (aeE G a b ha hb)] [.sl 1 [],EV a,EV b] [] (.osl [11,0] 4 0 1 false) [([11,0],⟨[QV (a*b)],4,false⟩)] (by kernel_rfl) (by rw [Cm.fix]) rfl rfl (by simp only [bl,bG,ck,bA,cd,PU.fixed];rfl) (by simp) (by simp)
theorem FW (a b:Rat) (ha:Sm 100000 a) (hb:Sm 100000 b):VP Tryz.prog G 171 [.sl 1 [],EV a,EV b] (EV (a*b)) :=
 VP.n7 dC [hc (aeE G a b ha hb)] [([11],⟨[QV (a*b)],4,false⟩)] (.osl [11] 4 0 1 false) (by kernel_rfl) (fun σ h=>L0 (h ([11],⟨[QV (a*b)],4,false⟩) (by simp)))
theorem ac2 (a b:Rat) (ha:Sm 100000 a) (hb:Sm 100000 b):VP Tryz.prog G 172 [.sl 1 [],EV a,EV b] (EV (a+b)) :=
 VP.n7 iA [hc (XF G a b ha hb)] [([18],⟨[QV (a+b)],4,false⟩)] (.osl [18] 4 0 1 false) (by kernel_rfl) (fun σ h=>L0 (h ([18],⟨[QV (a+b)],4,false⟩) (by simp)))
theorem afp (a b:Rat) (ha:Sm 100000 a) (hb:Sm 100000 b) (p q:VL.Id):aM Tryz.prog G 172 [.sl 1 [], .osl q 4 0 1 false,EV b] p [(q,⟨[QV a],4,false⟩)] { val := .osl (18::p) 4 0 1 false,rd:=[q],up:=[(18::p,some ⟨[QV (a+b)],4,false⟩)] } :=
 aM.tr (p:=p) (up:=[(18::p,⟨[QV (a+b)],4,false⟩)]) iA (fun _=>q) [hc (XF G a b ha hb)] [.sl 1 [], .osl [1] 4 0 1 false,EV b] [([1],⟨[QV a],4,false⟩)] (.osl [18,0] 4 0 1 false) [([18,0],⟨[QV (a+b)],4,false⟩)] (by kernel_rfl) (by simp only [bA,cd,PU.fixed,Ef];rfl) (by simp only [bl,bG,ck,bA,cd,PU.fixed];rfl) rfl (by simp only [bl,bG,ck,bA,cd,PU.fixed];rfl) (by simp) (by simp)
theorem ac3 (a:Rat) (ha:Sm 100000 a):VP Tryz.prog G 101 [.sl 1 [],EV a] (EV (-a)) :=
 VP.n7 kP [hc (aaB G a ha)] [([14],⟨[QV (-a)],4,false⟩)] (.osl [14] 4 0 1 false) (by kernel_rfl) (fun σ h=>L0 (h ([14],⟨[QV (-a)],4,false⟩) (by simp)))
theorem ajt (a b:Rat) (ha:Sm 100000 a) (hb:Sm 100000 b):VP Tryz.prog G 245 [.sl 1 [],EV a,EV b] (EV (a + -b)):=VP.tr ya [hc (ac3 G b hb),hc (ac2 G a (-b) ha hb.neg)] (by kernel_rfl)
theorem xT0:VP Tryz.prog G 248 [.sl 1 []] (.bool true):=VP.tr jE [] (by kernel_rfl)
theorem xF0 (x:Rat) (hx:Sm 100000 x):VP Tryz.prog G 215 [.sl 1 [],EV x] (.bool true):=VP.tr jb [hc (xT0 G),hc (r6R G x hx)] (by kernel_rfl)
theorem xs0 (x:Rat) (hx:Sm 100000 x):VP Tryz.prog G 166 [.sl 1 [],EV x] (.int .i64 (aZ x)):=VP.tr dW [hc (XE G x hx)] (by kernel_rfl)
theorem ans:VP Tryz.prog G 276 [.sl 1 []] (.bool true):=VP.tr oP [hc (xT0 G)] (by kernel_rfl)
theorem ant (x:Rat) (hx:Sm 100000 x):VP Tryz.prog G 246 [.sl 1 [],EV x] (.int .i64 (aZ x)):=VP.tr oQ [hc (xF0 G x hx),hc (ans G),hc (xs0 G x hx)] (by kernel_rfl)
theorem xR1 (v:Q2) (hv:bR 100000 v):VP Tryz.prog G 249 [E1 v, .int .i64 2] (.bool true):=VP.tr nM [hc (Qp G v.1 hv.1),hc (Qp G v.2 hv.2)] (by kernel_rfl)
theorem xT1 (q:Rat) (hq:Sm 100000 q):VP Tryz.prog G 248 [T1 q] (.bool true):=VP.tr jE [hc (r6R G q hq)] (by kernel_rfl)
theorem xF1 (q:Rat) (v:Q2) (hq:Sm 100000 q) (hv:bR 100000 v):VP Tryz.prog G 215 [T1 q,E1 v] (.bool true):=VP.tr jb [hc (xT1 G q hq),hc (xR1 G v hv)] (by kernel_rfl)
theorem aju (q x:Rat) (p:VL.Id):aM Tryz.prog G 219 [T1 q,QV x] p [] { val := .osl (14::p) 4 0 2 false,rd:=[],up:=[(14::p,some ⟨[QV x,QV 0],4,false⟩)] } :=
 aM.tr (p:=p) (up:=[(14::p,⟨[QV x,QV 0],4,false⟩)]) mL (fun _=>[]) [hc (Gn G 0 (by decide) (by decide))] [T1 q,QV x] [] (.osl [14,0] 4 0 2 false) [([14,0],⟨[QV x,QV 0],4,false⟩)] (by kernel_rfl) (by rw [Cm.fix]) rfl rfl (by simp only [bl,bG,ck,bA,cd,PU.fixed];rfl) (by simp) (by simp)
theorem afq (q:Rat):VP Tryz.prog G 251 [T1 q, .int .i64 0] (E1 (0,1)):=VP.n7 wM [hc (Gn G 0 (by decide) (by decide)), .rel 219 _ [] _ (fun p _=>aju G q 0 p) (by intro p x hx;simp at hx),hc (Gn G 1 (by decide) (by decide))] [([14,3],⟨[QV 0,QV 1],4,false⟩)] (.osl [14,3] 4 0 2 false) (by kernel_rfl) (fun σ h=>KC (h ([14,3],⟨[QV 0,QV 1],4,false⟩) (by simp)))
theorem ajv (q:Rat) (a b:Q2) (ha:bR 100000 a) (hb:bR 100000 b):VP Tryz.prog G 172 [T1 q,E1 a,E1 b] (E1 (a.1+b.1,a.2+b.2)) :=
 VP.n7 iA [hc (XF G a.1 b.1 ha.1 hb.1),hc (XF G a.2 b.2 ha.2 hb.2)] [([38],⟨[QV (a.1+b.1),QV (a.2+b.2)],4,false⟩)] (.osl [38] 4 0 2 false) (by kernel_rfl) (fun σ h=>KC (h ([38],⟨[QV (a.1+b.1),QV (a.2+b.2)],4,false⟩) (by simp)))
theorem ajw (q:Rat) (a:Q2) (ha:bR 100000 a):VP Tryz.prog G 101 [T1 q,E1 a] (E1 (-a.1, -a.2)) :=
 VP.n7 kP [hc (aaB G a.1 ha.1),hc (aaB G a.2 ha.2)] [([30],⟨[QV (-a.1),QV (-a.2)],4,false⟩)] (.osl [30] 4 0 2 false) (by kernel_rfl) (fun σ h=>KC (h ([30],⟨[QV (-a.1),QV (-a.2)],4,false⟩) (by simp)))
theorem ajx (q:Rat) (a b:Q2) (hq:Sm 20000 q) (ha:bR 20000 a) (hb:bR 20000 b):VP Tryz.prog G 171 [T1 q,E1 a,E1 b] (E1 (eG q a b)):=by
 have za:=Ye G a.2 (ha.2.mono (by omega))
 have zb:=Ye G b.2 (hb.2.mono (by omega))
 have d0:=fun p=>Yf G a.1 b.1 (ha.1.mono (by omega)) (hb.1.mono (by omega)) p
 have m4:=FW G a.1 b.2 (ha.1.mono (by omega)) (hb.2.mono (by omega))
 have m5:=FW G a.2 b.1 (ha.2.mono (by omega)) (hb.1.mono (by omega))
 by_cases a0:a.2=0
 . rw [decide_eq_true a0] at za
   by_cases b0:b.2=0
   . rw [decide_eq_true b0] at zb
     have e:eG q a b=(a.1*b.1,0):=by unfold eG;rw [a0,b0];refine Prod.ext ?_ ?_<;>simp only []<;>grind
     rw [e]
     exact VP.n7 dC [hc za,hc zb, .rel 171 _ [] _ (fun p _=>d0 p) (by intro p x hx;simp at hx),hc (Gn G 0 (by decide) (by decide)),hc (ajs G 0)] [([48],⟨[QV (a.1*b.1),QV 0],4,false⟩)] (.osl [48] 4 0 2 false) (by kernel_rfl) (fun σ h=>KC (h ([48],⟨[QV (a.1*b.1),QV 0],4,false⟩) (by simp)))
   . rw [decide_eq_false b0] at zb
     have e:eG q a b=(a.1*b.1,a.1*b.2):=by unfold eG;rw [a0];refine Prod.ext ?_ ?_<;>simp only []<;>grind
     rw [e]
     exact VP.n7 dC [hc za,hc zb, .rel 171 _ [] _ (fun p _=>d0 p) (by intro p x hx;simp at hx),hc m4] [([54],⟨[QV (a.1*b.1),QV (a.1*b.2)],4,false⟩)] (.osl [54] 4 0 2 false) (by kernel_rfl) (fun σ h=>KC (h ([54],⟨[QV (a.1*b.1),QV (a.1*b.2)],4,false⟩) (by simp)))
 rw [decide_eq_false a0] at za
 by_cases b0:b.2=0
 . rw [decide_eq_true b0] at zb
   have e:eG q a b=(a.1*b.1,a.2*b.1):=by unfold eG;rw [b0];refine Prod.ext ?_ ?_<;>simp only []<;>grind
   rw [e]
   exact VP.n7 dC [hc za,hc zb, .rel 171 _ [] _ (fun p _=>d0 p) (by intro p x hx;simp at hx),hc m5] [([55],⟨[QV (a.1*b.1),QV (a.2*b.1)],4,false⟩)] (.osl [55] 4 0 2 false) (by kernel_rfl) (fun σ h=>KC (h ([55],⟨[QV (a.1*b.1),QV (a.2*b.1)],4,false⟩) (by simp)))
 rw [decide_eq_false b0] at zb
 have m2:=FW G a.2 b.2 (ha.2.mono (by omega)) (hb.2.mono (by omega))
 have m3:=FW G (a.2*b.2) q ((ha.2.mul hb.2).mono (by omega)) (hq.mono (by omega))
 have d1:=fun p q'=>afp G (a.1*b.1) (a.2*b.2*q) ((ha.1.mul hb.1).mono (by omega)) (((ha.2.mul hb.2).mul hq).mono (by omega)) p q'
 have d2:=ac2 G (a.1*b.2) (a.2*b.1) ((ha.1.mul hb.2).mono (by omega)) ((ha.2.mul hb.1).mono (by omega))
 exact VP.n7 dC [hc za,hc zb, .rel 171 _ [] _ (fun p _=>d0 p) (by intro p x hx;simp at hx),hc m2,hc m3, .rel 172 _ [([11,38],⟨[QV (a.1*b.1)],4,false⟩)] _ (fun p _=>d1 p [11,38]) (by intro p x hx;rcases List.mem_singleton.1 hx with rfl;simp),hc m4,hc m5,hc d2] [([80],⟨[QV (eG q a b).1,QV (eG q a b).2],4,false⟩)] (.osl [80] 4 0 2 false) (by kernel_rfl) (fun σ h=>KC (h ([80],⟨[QV (eG q a b).1,QV (eG q a b).2],4,false⟩) (by simp)))
theorem Yg (q:Rat) (a:Q2) (hq:Sm 1000 q) (ha:bR 20000 a):VP Tryz.prog G 212 [T1 q,E1 a] (EV (eJ q a)):=by
 have m1:=FW G a.1 a.1 (ha.1.mono (by omega)) (ha.1.mono (by omega))
 have m2:=FW G a.2 a.2 (ha.2.mono (by omega)) (ha.2.mono (by omega))
 have m3:=FW G (a.2*a.2) q ((ha.2.mul ha.2).mono (by omega)) (hq.mono (by omega))
 have m5:=ajt G (a.1*a.1) (a.2*a.2*q) ((ha.1.mul ha.1).mono (by omega)) (((ha.2.mul ha.2).mul hq).mono (by omega))
 exact VP.tr wL [hc m1,hc m2,hc m3,hc m5] (by kernel_rfl)
theorem FX (b:Rat):1/b=b⁻¹ := by rw [Rat.div_def,Rat.one_mul]
theorem ajy (b:Rat) (h:b≠0) (hb:Sm 100000 b):VP Tryz.prog G 217 [QV b] (QV (1/b)):=by rw [FX];exact Oh pO (aeC G) b h hb
theorem ac4 {a:Rat} (h:a≠0):((aa a.num.natAbs:Int)==0)=false:=by
 have:=Kp a
 rw [ak h] at this
 exact this
theorem afr (a:Rat) (W6:a≠0) (ha:Sm 100000 a) (p:VL.Id):aM Tryz.prog G 169 [.sl 1 [],EV a] p [] { val := .tup [.osl (16::p) 4 0 1 false, .int .i64 0],rd:=[],up:=[(16::p,some ⟨[QV (1/a)],4,false⟩)] } :=
 aM.tr (p:=p) (up:=[(16::p,⟨[QV (1/a)],4,false⟩)]) gb (fun _=>[]) [ho 20 (bb a.num.natAbs),hb 21 (ac4 W6),hc (ajy G a W6 ha)] [.sl 1 [],EV a] [] (.tup [.osl [16,0] 4 0 1 false, .int .i64 0]) [([16,0],⟨[QV (1/a)],4,false⟩)] (by kernel_rfl) (by rw [Cm.fix]) rfl rfl (by simp only [bl,bG,ck,bA,cd,PU.fixed];rfl) (by simp) (by simp)
theorem ajz (a:Rat) (W6:a≠0) (ha:Sm 100000 a):VP Tryz.prog G 169 [.sl 1 [],EV a] (.tup [EV (1/a), .int .i64 0]) :=
 VP.n7 gb [ho 20 (bb a.num.natAbs),hb 21 (ac4 W6),hc (ajy G a W6 ha)] [([16],⟨[QV (1/a)],4,false⟩)] (.tup [.osl [16] 4 0 1 false, .int .i64 0]) (by kernel_rfl) (fun σ h=>vT (L0 (h ([16],⟨[QV (1/a)],4,false⟩) (by simp))))
theorem ajA (q:Rat) (a:Q2) (h0:eJ q a≠0) (hq:Sm 1000 q) (ha:bR 1000 a):VP Tryz.prog G 169 [T1 q,E1 a] (.tup [E1 (o7 q a), .int .i64 0]):=by
 have za:=Ye G a.2 (ha.2.mono (by omega))
 by_cases a0:a.2=0
 . rw [decide_eq_true a0] at za
   have hx:a.1≠0:=fun e=>h0 (by unfold eJ;rw [e,a0];grind)
   have e:o7 q a=(1/a.1,0):=by
     obtain ⟨x,y⟩:=a
     simp only [] at a0 hx
     subst a0
     unfold o7 eJ
     refine Prod.ext ?_ ?_<;>simp only []<;>grind
   rw [e]
   exact VP.n7 gb [hc za, .rel 169 _ [] _ (fun p _=>afr G a.1 hx (ha.1.mono (by omega)) p) (by intro p x hx;simp at hx),hc (Gn G 0 (by decide) (by decide)),hc (ajs G 0)] [([35],⟨[QV (1/a.1),QV 0],4,false⟩)] (.tup [.osl [35] 4 0 2 false, .int .i64 0]) (by kernel_rfl) (fun σ h=>vT (KC (h ([35],⟨[QV (1/a.1),QV 0],4,false⟩) (by simp))))
 rw [decide_eq_false a0] at za
 have sn:=GD hq ha
 have si:Sm 5002 (1/eJ q a):=(Sm.div (aav (a:=1) (by decide):Sm 1 (1:Rat)) sn (by omega)).mono (by omega)
 have hn:=Yg G q a hq (ha.mono (by omega))
 have hi:=ajz G (eJ q a) h0 (sn.mono (by omega))
 have m1:=fun p=>Yf G a.1 (1/eJ q a) (ha.1.mono (by omega)) (si.mono (by omega)) p
 have m2:=ac3 G a.2 (ha.2.mono (by omega))
 have m3:=FW G (-a.2) (1/eJ q a) (ha.2.neg.mono (by omega)) (si.mono (by omega))
 have e:o7 q a=(a.1*(1/eJ q a), -a.2*(1/eJ q a)):=by unfold o7;rw [Rat.neg_mul]
 rw [e]
 exact VP.n7 gb [hc za,hc hn,hc hi, .rel 171 _ [] _ (fun p _=>m1 p) (by intro p x hx;simp at hx),hc m2,hc m3] [([45],⟨[QV (a.1*(1/eJ q a)),QV (-a.2*(1/eJ q a))],4,false⟩)] (.tup [.osl [45] 4 0 2 false, .int .i64 0]) (by kernel_rfl) (fun σ h=>vT (KC (h ([45],⟨[QV (a.1*(1/eJ q a)),QV (-a.2*(1/eJ q a))],4,false⟩) (by simp))))
theorem Yh (q:Rat) (v:Q2):BS q v=if aZ v.2=0∨aZ v.1=aZ v.2 then aZ v.1 else if aZ v.1=0 then aZ v.2 else aZ v.1*aZ (eJ q v):=by
 have e:v.1*v.1 + -(q*(v.2*v.2))=eJ q v:=by unfold eJ;grind
 unfold BS;rw [e]
theorem xs1 (q:Rat) (v:Q2) (hq:Sm 1000 q) (hv:bR 20000 v):VP Tryz.prog G 166 [T1 q,E1 v] (.int .i64 (BS q v)):=by
 have h1:=xs0 G v.1 (hv.1.mono (by omega))
 have h2:=xs0 G v.2 (hv.2.mono (by omega))
 have hn:=Yg G q v hq hv
 have h3:=xs0 G (eJ q v) ((GD hq hv).mono (by omega))
 have kw:IntKind.i64.wrap (aZ v.1*aZ (eJ q v))=aZ v.1*aZ (eJ q v):=by
   rw [IntKind.wrap_i64]
   rcases IH v.1 with h | h | h<;>rcases IH (eJ q v) with h' | h' | h'<;>rw [h,h']<;>decide
 rw [Yh]
 by_cases a:aZ v.2=0
 . rw [if_pos (.inl a)]
   exact VP.tr dW [hc h1,hc h2,hb 41 (beq_iff_eq.2 a)] (by kernel_rfl)
 have a':(aZ v.2==0)=false:=by rw [beq_eq_false_iff_ne];exact a
 by_cases b:aZ v.1=aZ v.2
 . rw [if_pos (.inr b)]
   exact VP.tr dW [hc h1,hc h2,hb 41 a',hb 45 (beq_iff_eq.2 b)] (by kernel_rfl)
 have b':(aZ v.1==aZ v.2)=false:=by rw [beq_eq_false_iff_ne];exact b
 rw [if_neg (by rw [not_or];exact ⟨a,b⟩)]
 by_cases c:aZ v.1=0
 . rw [if_pos c]
   exact VP.tr dW [hc h1,hc h2,hb 41 a',hb 45 b',hb 49 (beq_iff_eq.2 c)] (by kernel_rfl)
 have c':(aZ v.1==0)=false:=by rw [beq_eq_false_iff_ne];exact c
 rw [if_neg c]
 exact VP.tr dW [hc h1,hc h2,hb 41 a',hb 45 b',hb 49 c',hc hn,hc h3,hw 59 kw] (by kernel_rfl)
theorem anu (q:Rat) (v:Q2) (hq:Sm 1000 q) (hv:bR 20000 v):VP Tryz.prog G 100 [T1 q,E1 v] (.int .i64 (BS q v)):=VP.tr oG [hc (xs1 G q v hq hv)] (by kernel_rfl)
end
end Go.Proofs.YtndoagbiakehnaaGreat
end

section
set_option linter.unusedVariables false
set_option maxRecDepth 100000
namespace Go.VL
open Go.Lib
theorem BC {σ : ae} {q:Id} {o:List Nat} {i x:Nat} (h : σ q=some ⟨us o,1,false⟩) (hi:o[i]? = some x) (p:Id):bW σ p (.load false 1 (.ref q i 0))=some { val := .int .u32 (x:Int),rd:=[q] }:=jo h hi
theorem Ei {σ : ae} {q:Id} {o:List Nat} {i x:Nat} (h : σ q=some ⟨us o,1,false⟩) (hi:i<o.length) (p:Id):bW σ p (.store 1 (.ref q i 0) (.int .u32 (x:Int)))=some { val := .tup [],rd:=[q],up:=[(q,some ⟨us (o.set i x),1,false⟩)] }:=bV h hi
theorem iY {ρ : Id->Id} {ws:List Nat}:bQ ρ (us ws)=us ws:=Qn ws ρ
abbrev afs:bY:=(.seq (cS [oM 3 0,oN 4 3,bd 5 .gtr 4 0,oM 6 5,gM 7 0 6 true,gM 8 0 6 true,gN 9 8 6 true,⟨some 10,.bin .sub .int (.t 9) (.c (.int .i64 1)),some (6,true)⟩,⟨some 11,.iaddrS 1 (.t 7) (.t 10),some (6,true)⟩,gL 12 1 11 6 true,⟨some 13,.bin .eql .int (.t 12) (.c (.int .u32 0)),some (6,true)⟩,pg 14 6 13] (.cond (.t 14) .skip (.exit 0))) (.block 1 (cR [oM 15 0,oM 16 0,oN 17 16,bd 18 .sub 17 1,⟨some 19,.slice 1 (.t 15) none (some (.t 18)) none,none⟩,oM 0 19])))
def U0 (q:Id) (k:Nat):List AV := .osl q 1 0 k false::List.replicate 20 .top
theorem BD {ρ : Id->Id} {q:Id} {k:Nat}:bQ ρ (U0 q k)=U0 (ρ q) k:=by
 unfold U0
 simp only [bA,eZ,Ef]
abbrev uB (q:Id) (ws:List Nat):Id × dc:=(q,⟨us ws,1,false⟩)
section
variable {P:Program} {G:Nat->Option (List AV)}
theorem UH (ws:List Nat) (hwd:Wd ws) (k0:Nat) (Pe:k0<=ws.length) (hl:ws.length<=1000000) :
   VW P G [0] (.loop afs) (fun e s=>e = .exit 0/\Wk G [0] s ⟨U0 [1] (aa (val (ws.take k0))),cz.to (FU [uB [1] ws]),1000000000⟩) ⟨U0 [1] k0,ae.of [uB [1] ws],1000⟩:=by
 refine VW.yJ (α := Nat × Nat) (fun x=>⟨U0 [1] x.1,ae.of [uB [1] ws],x.2⟩) (fun x=>x.1<=k0/\val (ws.take x.1)=val (ws.take k0)/\x.2+30*x.1<=1000+30*k0) (fun x=>x.1) (k0,1000) (Wk.refl _ _ _) ⟨Nat.le_refl _,rfl,Nat.le_refl _⟩ ?_
 rintro ⟨k,n⟩ ⟨hk,hv,hn⟩
 simp only [] at hk hv hn ⊢
 by_cases h0:k=0
 . subst h0
   have d0:decide ((((0:Nat):Int))>0)=false:=by decide
   have e:aa (val (ws.take k0))=0:=by rw [<- hv];simp [val,aa,bo]
   rw [e]
   refine VW.tr (π := [0]) (n:=n) (fun _=>[1]) [hb 5 d0] (U0 [1] 0) [uB [1] ws] (.exit 0) (U0 [1] 0) [uB [1] ws] 30 (by kernel_rfl)
     BD (by simp only [bl,bG,ck,iY];rfl) BD (by simp only [bl,bG,ck,iY];rfl) (by simp) fun s hw=>⟨rfl, ?_⟩
   exact Wk.toT (by simp) (hw.trans (Wk.forget (Fg.same _) (fun j => .inr rfl) (by omega)))
 . obtain ⟨j,rfl⟩:∃ j,k=j+1:=⟨k-1,by omega⟩
   obtain ⟨w,hwk⟩:∃ w,ws[j]? = some w:=⟨ws[j],by rw [List.getElem?_eq_getElem]⟩
   have d0:decide ((((j+1:Nat)):Int)>0)=true:=aw (by omega)
   have w10:IntKind.i64.wrap (((j+1:Nat):Int)-1)=(j:Int):=by rw [IntKind.wrap_i64];omega
   have a11:bK 1 (.osl [1] 1 0 (j+1) false) (.int .i64 (j:Int))=some (.ref [1] j 0):=b7 (by omega)
   have l12:∀ (σ : ae) (p:Id),(∀ y∈[uB [1] ws], σ y.1=some y.2)->bW σ p (.load false 1 (.ref [1] j 0))=some { val := .int .u32 (w:Int),rd:=[[1]] }:=fun σ p hσ => BC (hσ (uB [1] ws) (by simp)) hwk p
   have RP:ws.take (j+1)=ws.take j++[w]:=by
     have:=List.take_add_one (l:=ws) (i:=j)
     rw [hwk] at this
     simpa using this
   by_cases hz:w=0
   . subst hz
     have d13:decide ((((0:Nat):Int))=0)=true:=by decide
     have s19:∀ (σ : ae) (p:Id),(∀ y∈([]:List (Id × dc)), σ y.1=some y.2)->bW σ p (.slice 1 (.osl [1] 1 0 (j+1) false) none (some (.int .i64 (j:Int))) none)=some { val := .osl [1] 1 0 j false }:=fun σ p _=>by
       show rT σ 1 (.osl [1] 1 0 (j+1) false) none (some (.int .i64 (j:Int))) none (gh 1 (.osl [1] 1 0 (j+1) false) none (some (.int .i64 (j:Int))) none)=_
       rw [CS (by omega)];rfl
     refine VW.tr (π := [0]) (n:=n) (fun _=>[1]) [hb 5 d0,hw 10 w10,ho 11 a11, .st 12 _ _ _ l12,hb 13 d13,hw 18 w10, .st 19 _ _ _ s19] (U0 [1] (j+1)) [uB [1] ws] .normal (U0 [1] j) [uB [1] ws] 30 (by kernel_rfl)
       BD (by simp only [bl,bG,ck,iY];rfl) BD (by simp only [bl,bG,ck,iY];rfl) (by simp) fun s hw => ?_
     exact ⟨(j,n+30),⟨by simp only [];omega,by simp only [];rw [<- hv,RP,jH],by simp only [];omega⟩,by simp only [];omega,hw⟩
   . have d13:decide ((w:Int)=0)=false:=ak (by omega)
     have e:aa (val (ws.take k0))=j+1:=by
       rw [<- hv]
       unfold aa
       rw [jG (jP hwd (j+1)) (.inr ⟨w,by rw [RP];simp,hz⟩),List.length_take]
       omega
     rw [e]
     refine VW.tr (π := [0]) (n:=n) (fun _=>[1]) [hb 5 d0,hw 10 w10,ho 11 a11, .st 12 _ _ _ l12,hb 13 d13] (U0 [1] (j+1)) [uB [1] ws] (.exit 0) (U0 [1] (j+1)) [uB [1] ws] 30 (by kernel_rfl)
       BD (by simp only [bl,bG,ck,iY];rfl) BD (by simp only [bl,bG,ck,iY];rfl) (by simp) fun s hw=>⟨rfl, ?_⟩
     exact Wk.toT (by simp) (hw.trans (Wk.forget (Fg.same _) (fun j => .inr rfl) (by omega)))
theorem ac5 {f:FuncId} (h:Has P f gq) (ws:List Nat) (hw:Wd ws) (k0:Nat) (Pe:k0<=ws.length) (hl:ws.length<=1000000) (p q:Id) :
   aM P G f [.osl q 1 0 k0 false] p [uB q ws] { val := .osl q 1 0 (aa (val (ws.take k0))) false,rd:=[q] } :=
 aM.trs (p:=p) h (fun _=>q) [.lp [0] _ _ _ _ _ _ _ _ (UH ws hw k0 Pe hl)] [.osl [1] 1 0 k0 false] [uB [1] ws] (.osl [1] 1 0 (aa (val (ws.take k0))) false) (by kernel_rfl) rfl (by simp only [bl,bG,ck,iY];rfl) rfl (by simp)
abbrev ajB:bY:=(.seq (cS [oM 21 8,oM 22 1,oN 23 22,oT 24 .lss 21 23] (.cond (.t 24) .skip (.exit 2))) (.seq (.block 3 (.seq (.reg (some []) [oM 27 7,oM 28 5,oM 29 6,oM 30 8,oT 31 .add 29 30,oA 32 1 28 31,oL 33 1 32,oK 34 .u64 33,oT 35 .add 27 34,oM 36 0,oM 37 6,oA 38 1 36 37,oL 39 1 38,oK 40 .u64 39,oM 41 1,oM 42 8,oA 43 1 41 42,oL 44 1 43,oK 45 .u64 44,oT 46 .mul 40 45,oT 47 .add 35 46,oM 7 47]) (cS [oM 48 5,oM 49 6,oM 50 8,oT 51 .add 49 50,oM 52 7,oK 53 .u32 52,oA 54 1 48 51,oS 1 54 53] (cR [oM 55 7,⟨some 56,.bin .shr .int (.t 55) (.c (.int .u64 32)),none⟩,oM 7 56])))) (cR [oM 25 8,bd 26 .add 25 1,oM 8 26])))
abbrev ajC:bY:=(.seq (cS [oM 15 6,oM 16 0,oN 17 16,oT 18 .lss 15 17] (.cond (.t 18) .skip (.exit 0))) (.seq (.block 1 (cS [⟨some 7,.mv (.c (.int .u64 0)),none⟩] (.seq (cS [oI 8 0] (.block 2 (.loop ajB))) (cR [oM 57 5,oM 58 6,oM 59 1,oN 60 59,oT 61 .add 58 60,oM 62 7,oK 63 .u32 62,oA 64 1 57 61,oS 1 64 63])))) (cR [oM 19 6,bd 20 .add 19 1,oM 6 20])))
def O7 (q1 q2:Id) (k L:Nat) (i:Nat) (c j:AV):List AV:=[.osl q1 1 0 k false, .osl q1 1 0 k false, .top, .top, .top, .osl q2 1 0 L false, .int .i64 (i:Int),c,j]++List.replicate 58 .top
theorem uF {ρ : Id->Id} {q1 q2:Id} {k L i:Nat} {c j:AV}:bQ ρ (O7 q1 q2 k L i c j)=O7 (ρ q1) (ρ q2) k L i (c.dJ ρ) (j.dJ ρ):=by
 unfold O7
 simp only [cL,bA,cd,eZ,Ef,kV]
 rfl
def tmK (q1 q2:Id):Nat->Id
 | 1=>q1
 | _=>q2
theorem Yi {L X m:Nat} (hX:X<ay ^ m):val ((pad L X).drop m)=0:=by
 by_cases hL:L<=m
 . rw [List.drop_eq_nil_of_le (by rw [dR];exact hL)];rfl
 . have h1:val (pad L X)=X:=cH (Nat.lt_of_lt_of_le hX (Nat.pow_le_pow_right bZ (by omega)))
   have h2:=bO ((pad L X).take m) ((pad L X).drop m)
   rw [List.take_append_drop,h1,List.length_take,dR,Nat.min_eq_left (by omega)] at h2
   rcases Nat.eq_zero_or_pos (val ((pad L X).drop m)) with h | h
   . exact h
   . exfalso
     have:=Nat.mul_le_mul_left (ay ^ m) h
     simp only [Nat.succ_eq_add_one,Nat.zero_add,Nat.mul_one] at this
     omega
theorem aa7 {o:List Nat} {m:Nat} (hw:Wd o) (hm:m<=o.length) (h:val (o.drop m)=0):val o<ay ^ m:=by
 have h2:=bO (o.take m) (o.drop m)
 rw [List.take_append_drop,h,Nat.mul_zero,Nat.add_zero] at h2
 have h3:=eF (jP hw m)
 rw [List.length_take,Nat.min_eq_left hm] at h3
 omega
theorem aa8 (ws:List Nat) (PG:Wd ws) (k:Nat) (hk:k<=ws.length) (hk2:k<=10000) (i a X S:Nat) (ha:ws[i]? = some a) (hik:i<k) (hX:X<ay ^ (i+k)) (hS:S=X+ay ^ i*(a*val (ws.take k))) :
   VW P G [0] (.loop ajB) (fun e s=>e = .exit 2/\Wk G [0] s ⟨O7 [1] [2] k (k+k) i (.int .u64 ((S/ay ^ (i+k):Nat):Int)) .top,cz.to (FU [uB [1] ws,uB [2] (pad (k+k) (S%ay ^ (i+k)))]),1000000⟩)
     ⟨O7 [1] [2] k (k+k) i (.int .u64 0) (.int .i64 0),ae.of [uB [1] ws,uB [2] (pad (k+k) X)],1000⟩:=by
 have hX2:X<ay ^ (k+k):=Nat.lt_of_lt_of_le hX (Nat.pow_le_pow_right bZ (by omega))
 refine VW.yJ (α := Nat × List Nat × Nat) (fun x=>⟨O7 [1] [2] k (k+k) i (.int .u64 (x.2.2:Int)) (.int .i64 (x.1:Int)),ae.of [uB [1] ws,uB [2] x.2.1],1000+60*x.1⟩)
   (fun x=>x.1<=k/\x.2.1.length=k+k/\Wd x.2.1/\x.2.2<ay/\x.2.1.drop (i+k)=(pad (k+k) X).drop (i+k)/\val x.2.1+ay ^ (i+x.1)*x.2.2=X+ay ^ i*(a*val (ws.take x.1))) (fun x=>k-x.1) (0,pad (k+k) X,0) (Wk.refl _ _ _) ⟨Nat.zero_le _,dR _ _,mM _ _,bZ,rfl,by simp [val,cH hX2]⟩ ?_
 rintro ⟨j,o',c⟩ ⟨hj,Lv,CM,hc,hz,hv'⟩
 simp only [] at hj Lv CM hc hz hv' ⊢
 have vC:=PG a (List.mem_of_getElem? ha)
 by_cases C5:j<k
 . obtain ⟨b,JI⟩:∃ b,ws[j]? = some b:=⟨_,List.getElem?_eq_getElem (by omega)⟩
   have FH:=PG b (List.mem_of_getElem? JI)
   obtain ⟨z,We⟩:∃ z,o'[i+j]? = some z:=⟨_,List.getElem?_eq_getElem (by rw [Lv];omega)⟩
   have RW:=CM z (List.mem_of_getElem? We)
   have d24:decide ((j:Int)<(k:Int))=true:=aw (by omega)
   have w31:=lU i j (by omega)
   have a32:bK 1 (.osl [2] 1 0 (k+k) false) (.int .i64 ((i+j:Nat):Int))=some (.ref [2] (i+j) 0):=b7 (by omega)
   have a38:bK 1 (.osl [1] 1 0 k false) (.int .i64 (i:Int))=some (.ref [1] i 0):=b7 hik
   have a43:bK 1 (.osl [1] 1 0 k false) (.int .i64 (j:Int))=some (.ref [1] j 0):=b7 C5
   have l33:∀ (σ : ae) (p:Id),(∀ y∈[uB [2] o'], σ y.1=some y.2)->bW σ p (.load false 1 (.ref [2] (i+j) 0))=some { val := .int .u32 (z:Int),rd:=[[2]] }:=fun σ p hσ => BC (hσ (uB [2] o') (by simp)) We p
   have l39:∀ (σ : ae) (p:Id),(∀ y∈[uB [1] ws], σ y.1=some y.2)->bW σ p (.load false 1 (.ref [1] i 0))=some { val := .int .u32 (a:Int),rd:=[[1]] }:=fun σ p hσ => BC (hσ (uB [1] ws) (by simp)) ha p
   have l44:∀ (σ : ae) (p:Id),(∀ y∈[uB [1] ws], σ y.1=some y.2)->bW σ p (.load false 1 (.ref [1] j 0))=some { val := .int .u32 (b:Int),rd:=[[1]] }:=fun σ p hσ => BC (hσ (uB [1] ws) (by simp)) JI p
   have f1:=bj a vC
   have f2:=bj b FH
   have f3:=bj z RW
   have f4:=ND a b vC FH
   have hle:=Lu vC FH
   have f5:=p9 c z (by unfold ay at RW hc;omega)
   have f6:=p9 (c+z) (a*b) (by unfold ay at RW hc;omega)
   have hc':(c+z+a*b)/ay<ay:=by unfold ay at RW hc ⊢;omega
   have f8:IntKind.u32.wrap ((c+z+a*b:Nat):Int)=(((c+z+a*b)%ay:Nat):Int):=w6 _
   have h56:bP .shr .int (.int .u64 ((c+z+a*b:Nat):Int)) (.int .u64 32)=some (.int .u64 (((c+z+a*b)/ay:Nat):Int)):=p8 _
   have s54:∀ (σ : ae) (p:Id),(∀ y∈[uB [2] o'], σ y.1=some y.2)->bW σ p (.store 1 (.ref [2] (i+j) 0) (.int .u32 (((c+z+a*b)%ay:Nat):Int)))=some { val := .tup [],rd:=[[2]],up:=[([2],some ⟨us (o'.set (i+j) ((c+z+a*b)%ay)),1,false⟩)] }:=fun σ p hσ => Ei (hσ (uB [2] o') (by simp)) (by rw [Lv];omega) p
   have RU:=aD j (by omega)
   have hst:=Fh (o:=pad (k+k) X) (x:=a) (y:=b) (s:=c+z+a*b) We (by rw [cH hX2];exact hv') (by omega)
   rw [cH hX2] at hst
   refine VW.tr (π := [0]) (n:=1000+60*j) (tmK [1] [2]) [hb 24 d24,hw 31 w31,ho 32 a32, .st 33 _ _ _ l33,hw 34 f3 .u64,hw 35 f5 .u64,ho 38 a38, .st 39 _ _ _ l39,hw 40 f1 .u64,ho 43 a43, .st 44 _ _ _ l44,hw 45 f2 .u64,hw 46 f4 .u64,hw 47 f6 .u64,hw 51 w31,hw 53 f8 .u32,ho 54 a32, .st 100054 _ _ _ s54,ho 56 h56,hw 26 RU]
     (O7 [1] [2] k (k+k) i (.int .u64 (c:Int)) (.int .i64 (j:Int))) [uB [1] ws,uB [2] o'] .normal (O7 [1] [2] k (k+k) i (.int .u64 (((c+z+a*b)/ay:Nat):Int)) (.int .i64 ((j+1:Nat):Int))) [uB [1] ws,uB [2] (o'.set (i+j) ((c+z+a*b)%ay))] 60 (by kernel_rfl)
     uF (by simp only [bl,bG,ck,iY];rfl) uF (by simp only [bl,bG,ck,iY];rfl) (by simp) fun s hw => ?_
   refine ⟨(j+1,o'.set (i+j) ((c+z+a*b)%ay),(c+z+a*b)/ay),⟨by simp only [];omega,by simp [Lv],CK CM (Nat.mod_lt _ bZ),hc', ?_, ?_⟩,by simp only [];omega, ?_⟩
   . simp only [];rw [List.drop_set_of_lt (by omega)];exact hz
   . show _=X+ay ^ i*(a*val (ws.take (j+1)))
     rw [aG JI];exact hst
   . have e:1000+60*j+60=1000+60*(j+1):=by omega
     simp only [];rw [<- e];exact hw
 . have hjw:j=k:=by omega
   subst hjw
   have d24:decide ((j:Int)<(j:Int))=false:=ak (by omega)
   have anz:=aa7 (m:=i+j) CM (by omega) (by rw [hz];exact Yi hX)
   have hdm:=(Nat.div_mod_unique (a:=S) (d:=c) (c:=val o') (b:=ay ^ (i+j)) (Nat.pow_pos bZ)).2 ⟨by rw [hS, <- hv'],anz⟩
   have hoo:=qa CM
   rw [Lv, <- hdm.2] at hoo
   rw [hoo,hdm.1]
   refine VW.tr (π := [0]) (n:=1000+60*j) (tmK [1] [2]) [hb 24 d24]
     (O7 [1] [2] j (j+j) i (.int .u64 (c:Int)) (.int .i64 (j:Int))) [uB [1] ws,uB [2] o'] (.exit 2) (O7 [1] [2] j (j+j) i (.int .u64 (c:Int)) .top) [uB [1] ws,uB [2] o'] 60 (by kernel_rfl)
     uF (by simp only [bl,bG,ck,iY];rfl) uF (by simp only [bl,bG,ck,iY];rfl) (by simp) fun s hw=>⟨rfl, ?_⟩
   exact Wk.toT (by simp) (hw.trans (Wk.forget (Fg.same _) (fun j => .inr rfl) (by omega)))
theorem Yj (ws:List Nat) (PG:Wd ws) (k:Nat) (hk:k<=ws.length) (hk2:k<=10000) :
   VW P G [0] (.loop ajC) (fun e s=>e = .exit 0/\Wk G [0] s ⟨O7 [1] [6,0] k (k+k) k .top .top,cz.to (FU [uB [1] ws,uB [6,0] (pad (k+k) (val (ws.take k)*val (ws.take k)))]),1000000000000⟩)
     ⟨O7 [1] [6,0] k (k+k) 0 .top .top,ae.of [uB [1] ws,uB [6,0] (pad (k+k) 0)],1000⟩:=by
 have hvk:val (ws.take k)<ay ^ k:=by
   have:=eF (jP PG k)
   rwa [List.length_take,Nat.min_eq_left hk] at this
 refine VW.yJ (α := Nat) (fun i=>⟨O7 [1] [6,0] k (k+k) i .top .top,ae.of [uB [1] ws,uB [6,0] (pad (k+k) (val (ws.take i)*val (ws.take k)))],1000+1000100*i⟩)
   (fun i=>i<=k) (fun i=>k-i) 0 (by simp only [List.take_zero,val,Nat.zero_mul];exact Wk.refl _ _ _) (Nat.zero_le _) ?_
 intro i hi
 by_cases hik:i<k
 . obtain ⟨a,ha⟩:∃ a,ws[i]? = some a:=⟨_,List.getElem?_eq_getElem (by omega)⟩
   have MC:val (ws.take i)<ay ^ i:=by
     have:=eF (jP PG i)
     rwa [List.length_take,Nat.min_eq_left (by omega)] at this
   have hX:val (ws.take i)*val (ws.take k)<ay ^ (i+k):=by rw [Nat.pow_add];exact Nat.mul_lt_mul'' MC hvk
   have hS:val (ws.take (i+1))*val (ws.take k)=val (ws.take i)*val (ws.take k)+ay ^ i*(a*val (ws.take k)):=by rw [aG ha,Nat.add_mul,Nat.mul_assoc]
   have hl:=aa8 (P:=P) (G:=G) ws PG k hk hk2 i a _ _ ha hik hX hS
   have hS2:val (ws.take (i+1))*val (ws.take k)<ay ^ (i+k+1):=by
     have h1:val (ws.take (i+1))<ay ^ (i+1):=by
       have:=eF (jP PG (i+1))
       rwa [List.length_take,Nat.min_eq_left (by omega)] at this
     have:=Nat.mul_lt_mul'' h1 hvk
     rw [<- Nat.pow_add] at this
     rwa [show i+k+1=i+1+k by omega]
   generalize hSS:val (ws.take (i+1))*val (ws.take k)=S at *
   generalize val (ws.take i)*val (ws.take k)=X at *
   have hSc:S/ay ^ (i+k)<ay:=by
     rw [Nat.div_lt_iff_lt_mul (Nat.pow_pos bZ), <- Nat.pow_succ'];exact hS2
   have hSm:S%ay ^ (i+k)<ay ^ (i+k):=Nat.mod_lt _ (Nat.pow_pos bZ)
   have BI:S%ay ^ (i+k)<ay ^ (k+k):=Nat.lt_of_lt_of_le hSm (Nat.pow_le_pow_right bZ (by omega))
   obtain ⟨y,hy⟩:∃ y,(pad (k+k) (S%ay ^ (i+k)))[i+k]? = some y:=⟨_,List.getElem?_eq_getElem (by rw [dR];omega)⟩
   have PV:=CL (by rw [cH BI];exact hSm) hy
   subst PV
   have NC:(pad (k+k) (S%ay ^ (i+k))).set (i+k) (S/ay ^ (i+k))=pad (k+k) S:=by
     have h1:=Bq (x:=S/ay ^ (i+k)) hy
     rw [cH BI,Nat.mul_zero,Nat.add_zero,Nat.mod_add_div] at h1
     have h2:=qa (CK (mM (k+k) (S%ay ^ (i+k))) (i:=i+k) hSc)
     rw [h1,List.length_set,dR] at h2
     exact h2.symm
   have d18:decide ((i:Int)<(k:Int))=true:=aw (by omega)
   have w61:=lU i k (by omega)
   have f63:IntKind.u32.wrap ((S/ay ^ (i+k):Nat):Int)=((S/ay ^ (i+k):Nat):Int):=by rw [w6,Nat.mod_eq_of_lt hSc]
   have a64:bK 1 (.osl [2] 1 0 (k+k) false) (.int .i64 ((i+k:Nat):Int))=some (.ref [2] (i+k) 0):=b7 (by omega)
   have s64:∀ (σ : ae) (p:Id),(∀ y∈[uB [2] (pad (k+k) (S%ay ^ (i+k)))], σ y.1=some y.2)->bW σ p (.store 1 (.ref [2] (i+k) 0) (.int .u32 ((S/ay ^ (i+k):Nat):Int)))=some { val := .tup [],rd:=[[2]],up:=[([2],some ⟨us (pad (k+k) S),1,false⟩)] }:=fun σ p hσ => by
     rw [<- NC];exact Ei (hσ (uB [2] (pad (k+k) (S%ay ^ (i+k)))) (by simp)) (by rw [dR];omega) p
   have sr:=aD i (by omega)
   refine VW.tr (π := [0]) (n:=1000+1000100*i) (tmK [1] [6,0]) [hb 18 d18, .lp [0] _ _ _ _ _ _ _ _ hl,hw 61 w61,hw 63 f63 .u32,ho 64 a64, .st 100064 _ _ _ s64,hw 20 sr]
     (O7 [1] [2] k (k+k) i .top .top) [uB [1] ws,uB [2] (pad (k+k) X)] .normal (O7 [1] [2] k (k+k) (i+1) .top .top) [uB [1] ws,uB [2] (pad (k+k) S)] 1000100 (by kernel_rfl)
     uF (by simp only [bl,bG,ck,iY];rfl) uF (by simp only [bl,bG,ck,iY];rfl) (by simp) fun s hw => ?_
   refine ⟨i+1,by omega,by simp only [];omega, ?_⟩
   have e:1000+1000100*i+1000100=1000+1000100*(i+1):=by omega
   simp only [];rw [hSS, <- e];exact hw
 . have qm:i=k:=by omega
   subst qm
   have d18:decide ((i:Int)<(i:Int))=false:=ak (by omega)
   refine VW.tr (π := [0]) (n:=1000+1000100*i) (tmK [1] [6,0]) [hb 18 d18]
     (O7 [1] [2] i (i+i) i .top .top) [uB [1] ws,uB [2] (pad (i+i) (val (ws.take i)*val (ws.take i)))] (.exit 0) (O7 [1] [2] i (i+i) i .top .top) [uB [1] ws,uB [2] (pad (i+i) (val (ws.take i)*val (ws.take i)))] 60 (by kernel_rfl)
     uF (by simp only [bl,bG,ck,iY];rfl) uF (by simp only [bl,bG,ck,iY];rfl) (by simp) fun s hw=>⟨rfl, ?_⟩
   exact Wk.toT (by simp) (hw.trans (Wk.forget (Fg.same _) (fun j => .inr rfl) (by omega)))
theorem aft {f ft:FuncId} (h:Has P f (dz ft)) (ht:Has P ft gq) (ws:List Nat) (PG:Wd ws) (k:Nat) (hk:k<=ws.length) (hk2:k<=10000) (p q:Id) :
   aM P G f [.osl q 1 0 k false, .osl q 1 0 k false] p [uB q ws] { val := .osl (6::p) 1 0 (aa (val (ws.take k)*val (ws.take k))) false,rd:=[q],up:=[(6::p,some ⟨us (pad (k+k) (val (ws.take k)*val (ws.take k))),1,false⟩)] }:=by
 have w13:=lU k k (by omega)
 have tp:∀ (σ : ae) (p:Id),(∀ y∈([]:List (Id × dc)), σ y.1=some y.2)->bW σ p (.mksl 1 4 (.int .u32 0) (.int .i64 ((k+k:Nat):Int)) (.int .i64 ((k+k:Nat):Int)))=some { val := .osl p 1 0 (k+k) false,up:=[(p,some ⟨us (pad (k+k) 0),1,false⟩)] }:=fun σ p _=>by
   have e:pad (k+k) 0=List.replicate (k+k) 0:=by
     have:=qa (A5 (k+k))
     rwa [List.length_replicate,sk (fun w hw=>List.eq_of_mem_replicate hw)] at this
   rw [e];exact lJ (by omega)
 have hl:=Yj (P:=P) (G:=G) ws PG k hk hk2
 have hvk:val (ws.take k)<ay ^ k:=by
   have:=eF (jP PG k)
   rwa [List.length_take,Nat.min_eq_left hk] at this
 have xd:val (pad (k+k) (val (ws.take k)*val (ws.take k)))=val (ws.take k)*val (ws.take k):=cH (by rw [Nat.pow_add];exact Nat.mul_lt_mul'' hvk hvk)
 generalize val (ws.take k)*val (ws.take k)=S at *
 have TQ:∀ p:Id,aM P G ft [.osl [6,0] 1 0 (k+k) false] p [uB [6,0] (pad (k+k) S)] { val := .osl [6,0] 1 0 (aa S) false,rd:=[[6,0]] }:=fun p=>by
   have:=ac5 (G:=G) ht (pad (k+k) S) (mM _ _) (k+k) (by rw [dR];omega) (by rw [dR];omega) p [6,0]
   rwa [List.take_of_length_le (by rw [dR];omega),xd] at this
 exact aM.tr (up:=[uB (6::p) (pad (k+k) S)]) (p:=p) h (fun _=>q) [hw 13 w13, .st 14 _ _ _ tp, .lp [0] _ _ _ _ _ _ _ _ hl, .rel ft _ [uB [6,0] (pad (k+k) S)] _ (fun p _=>TQ p) (by intro p x hx;rcases List.mem_singleton.1 hx with rfl;simp)]
   [.osl [1] 1 0 k false, .osl [1] 1 0 k false] [uB [1] ws] (.osl [6,0] 1 0 (aa S) false) [uB [6,0] (pad (k+k) S)] (by kernel_rfl) rfl (by simp only [bl,bG,ck,iY];rfl) rfl (by simp only [bl,bG,ck,iY];rfl) (by simp) (by simp)
end
end Go.VL
end

section
set_option linter.unusedVariables false
set_option maxRecDepth 100000
namespace Go.VL
open Go.Lib
theorem Yk {ws:List Nat} (hwd:Wd ws) {q m w:Nat} (hw:ws[q]? = some w) (hm:m<32) (hd:2 ^ (32*q+m+1) ∣ val ws):2 ^ (m+1) ∣ w:=by
 have hq:q<ws.length:=(List.getElem?_eq_some_iff.1 hw).1
 have hB:ay ^ q=2 ^ (32*q):=by rw [show ay=2 ^ 32 from rfl, <- Nat.pow_mul]
 have e:val ws=val (ws.take q)+ay ^ q*(w+ay*val (ws.drop (q+1))):=by
   have h1:=bO (ws.take q) (ws.drop q)
   rw [List.take_append_drop,List.length_take,Nat.min_eq_left (by omega)] at h1
   rw [h1,List.drop_eq_getElem_cons hq]
   have:ws[q]=w:=by have:=List.getElem?_eq_getElem hq;rw [hw] at this;exact (Option.some.inj this).symm
   rw [this];rfl
 have hlt:val (ws.take q)<ay ^ q:=by
   have:=eF (jP hwd q)
   rwa [List.length_take,Nat.min_eq_left (by omega)] at this
 have hp:2 ^ (32*q+m+1)=ay ^ q*2 ^ (m+1):=by rw [hB, <- Nat.pow_add,Nat.add_assoc]
 rw [hp,e] at hd
 have h0:val (ws.take q)=0:=by
   have h1:ay ^ q ∣ val (ws.take q)+ay ^ q*(w+ay*val (ws.drop (q+1))):=Nat.dvd_trans (Nat.dvd_mul_right _ _) hd
   exact Nat.eq_zero_of_dvd_of_lt ((Nat.dvd_add_left (Nat.dvd_mul_right _ _)).1 h1) hlt
 rw [h0,Nat.zero_add] at hd
 have h2:=Nat.dvd_of_mul_dvd_mul_left (Nat.pow_pos bZ) hd
 have h3:2 ^ (m+1) ∣ ay*val (ws.drop (q+1)):=Nat.dvd_trans (by rw [show ay=2 ^ 32 from rfl];exact Nat.pow_dvd_pow 2 (by omega)) (Nat.dvd_mul_right _ _)
 exact (Nat.dvd_add_left h3).1 h2
theorem QE {w m:Nat} (hm:m<32) (hw:w<ay) (hd:2 ^ (m+1) ∣ w):w+2 ^ m<ay/\w ||| 2 ^ m=w+2 ^ m:=by
 obtain ⟨a,rfl⟩:=hd
 have hpm:2 ^ (m+1)=2*2 ^ m:=by rw [Nat.pow_succ,Nat.mul_comm]
 have re:0<2 ^ m:=Nat.pow_pos (by decide)
 have hB:ay=2 ^ (m+1)*2 ^ (31-m):=by rw [<- Nat.pow_add,show m+1+(31-m)=32 by omega];rfl
 refine ⟨?_,(Nat.two_pow_add_eq_or_of_lt (i:=m+1) (b:=2 ^ m) (by rw [hpm];omega) a).symm⟩
 rw [hB] at hw ⊢
 have ha:=Nat.lt_of_mul_lt_mul_left hw
 have:=Nat.mul_le_mul_left (2 ^ (m+1)) ha
 rw [Nat.succ_eq_add_one,Nat.mul_add,Nat.mul_one] at this
 omega
theorem anA {m:Nat} (hm:m<32):bP .shl .int (.int .u32 1) (.int .i64 (m:Int))=some (.int .u32 ((2 ^ m:Nat):Int)):=by
 rw [K7 (by omega)]
 have e1:min (m:Int).toNat IntKind.u32.bits=m:=by rw [Int.toNat_natCast];exact Nat.min_eq_left (show m<=32 by omega)
 have e2:(1:Int)*2 ^ m=((2 ^ m:Nat):Int):=by rw [Int.one_mul];exact (Int.natCast_pow 2 m).symm
 have e3:2 ^ m<ay:=Nat.pow_lt_pow_right (by decide) hm
 rw [e1,e2,w6,Nat.mod_eq_of_lt e3]
theorem afu {w m:Nat} (hm:m<32) (hw:w<ay) (hd:2 ^ (m+1) ∣ w):bP .or .int (.int .u32 (w:Int)) (.int .u32 ((2 ^ m:Nat):Int))=some (.int .u32 ((w+2 ^ m:Nat):Int)):=by
 rw [Zy w (2 ^ m) hw (Nat.pow_lt_pow_right (by decide) hm),(QE hm hw hd).2]
theorem QF {k:IntKind} {a b:Int}:bP .andNot .int (.int k a) (.int k b)=some (.int k (k.wrap (BitVec.ofInt k.bits a &&& ~~~BitVec.ofInt k.bits b).toNat)):=by
 simp only [bP];rw [show lW .andNot .int (.int k a) (.int k b)=some (.int k (k.wrap (BitVec.ofInt k.bits a &&& ~~~BitVec.ofInt k.bits b).toNat)) from by simp [lW,vH,bitsOf]]
theorem aba {w m:Nat} (hm:m<32) (hw:w<ay) (hd:2 ^ (m+1) ∣ w):bP .andNot .int (.int .u32 ((w+2 ^ m:Nat):Int)) (.int .u32 ((2 ^ m:Nat):Int))=some (.int .u32 (w:Int)):=by
 rw [QF, <- (QE hm hw hd).2]
 have hwm:w.testBit m=false:=by
   obtain ⟨a,rfl⟩:=hd
   rw [Nat.testBit_two_pow_mul];simp;omega
 have e:(BitVec.ofInt 32 ((w ||| 2 ^ m:Nat):Int) &&& ~~~BitVec.ofInt 32 ((2 ^ m:Nat):Int))=BitVec.ofNat 32 w:=by
   rw [BitVec.ofInt_natCast,BitVec.ofInt_natCast]
   refine BitVec.eq_of_getLsbD_eq fun j hj => ?_
   simp only [BitVec.getLsbD_and,BitVec.getLsbD_not,BitVec.getLsbD_ofNat,hj,decide_true,Bool.true_and,Nat.testBit_or,Nat.testBit_two_pow]
   by_cases h:m=j
   . subst h;simp [hwm]
   . simp [h]
 show some (AV.int .u32 (IntKind.u32.wrap ((BitVec.ofInt 32 ((w ||| 2 ^ m:Nat):Int) &&& ~~~BitVec.ofInt 32 ((2 ^ m:Nat):Int)).toNat:Int)))=_
 rw [e,BitVec.toNat_ofNat,w6]
 have:w<2 ^ 32:=hw
 rw [Nat.mod_eq_of_lt this,Nat.mod_eq_of_lt hw]
theorem abb {N R i:Nat} (h1:2 ^ (i+1) ∣ R) (h3:N<(R+2 ^ (i+1))*(R+2 ^ (i+1))) (hy:(R+2 ^ i)*(R+2 ^ i)<=N):2 ^ i ∣ R+2 ^ i/\N<(R+2 ^ i+2 ^ i)*(R+2 ^ i+2 ^ i):=by
 have e:R+2 ^ i+2 ^ i=R+2 ^ (i+1):=by rw [Nat.pow_succ];omega
 exact ⟨(Nat.dvd_add_left (Nat.dvd_refl _)).2 (Nat.dvd_trans (Nat.pow_dvd_pow 2 (by omega)) h1),by rw [e];exact h3⟩
theorem SW {o:List Nat} (h:Wd o):o.take (aa (val o))=digits (val o):=by
 have hle:aa (val o)<=o.length:=dH (eF h)
 have h1:=bO (o.take (aa (val o))) (o.drop (aa (val o)))
 rw [List.take_append_drop,List.length_take,Nat.min_eq_left hle] at h1
 have h2:val o<ay ^ aa (val o):=by
   have:=eF (aQ (val o))
   rwa [aI] at this
 have h3:val (o.drop (aa (val o)))=0:=by
   rcases Nat.eq_zero_or_pos (val (o.drop (aa (val o)))) with h | h
   . exact h
   . exfalso
     have:=Nat.mul_le_mul_left (ay ^ aa (val o)) h
     simp only [Nat.succ_eq_add_one,Nat.zero_add,Nat.mul_one] at this
     omega
 rw [h3,Nat.mul_zero,Nat.add_zero] at h1
 have p1:=qa (jP h (aa (val o)))
 rw [List.length_take,Nat.min_eq_left hle, <- h1] at p1
 have p2:=qa (aQ (val o))
 rw [aI] at p2
 exact p1.symm.trans p2
theorem abc {σ : ae} {q:Id} {o:List Nat} (h:Wd o) (hσ : σ q=some ⟨us o,1,false⟩):View σ (.osl q 1 0 (aa (val o)) false) (W (val o)):=by
 have hle:aa (val o)<=o.length:=dH (eF h)
 have e:W (val o) = .sl 1 (us (o.take (aa (val o)))):=by rw [SW h];rfl
 rw [e]
 exact View.osl (bk:=⟨us o,1,false⟩) hσ rfl (by simpa [eL] using hle) (by rw [List.drop_zero,Ls];exact az.pure (tk _)) (by rw [eL,List.length_take];omega) (yd _)
abbrev abd (ft fm fc:Nat):bY:=(.seq (cS [oM 22 6,bd 23 .geq 22 0] (.cond (.t 23) .skip (.exit 0))) (.seq (.block 1 (.seq (.reg (some []) [oM 26 5,oM 27 6,bd 28 .quo 27 32,oM 29 5,oM 30 6,bd 31 .quo 30 32,oA 32 1 29 31,oL 33 1 32,oM 34 6,bd 35 .rem 34 32,⟨some 36,.bin .shl .int (.c (.int .u32 1)) (.t 35),none⟩,oT 37 .or 33 36,oA 38 1 26 28,oS 1 38 37]) (.seq (.reg (some [(1,6),(3,6),(4,6)]) [oM 39 5,oC 40 ft 39,oM 41 5,oC 42 ft 41,bc 43 fm 40 42,oF 44 1 1,oL 45 1 44,bc 46 fc 43 45,bd 47 .gtr 46 0]) (.cond (.t 47) (.reg (some []) [oM 48 5,oM 49 6,bd 50 .quo 49 32,oM 51 5,oM 52 6,bd 53 .quo 52 32,oA 54 1 51 53,oL 55 1 54,oM 56 6,bd 57 .rem 56 32,⟨some 58,.bin .shl .int (.c (.int .u32 1)) (.t 57),none⟩,oT 59 .andNot 55 58,oA 60 1 48 50,oS 1 60 59]) .skip)))) (cR [oM 24 6,bd 25 .sub 24 1,oM 6 25])))
def U1 (i0 i1 i2:Id) (L:Nat) (i:Int):List AV:=[.top, .ref i0 0 0, .ref i1 0 0, .int .i64 0, .top, .osl i2 1 0 L false, .int .i64 i]++List.replicate 56 .top
theorem BF {ρ : Id->Id} {i0 i1 i2:Id} {L:Nat} {i:Int}:bQ ρ (U1 i0 i1 i2 L i)=U1 (ρ i0) (ρ i1) (ρ i2) L i:=by
 unfold U1
 simp only [cL,bA,cd,eZ,Bx,Ef,kV]
 rfl
def rsK (q:Nat):Nat->Id
 | 1=>[0]
 | 2=>[1]
 | _=>[q]
def Pm (i0 i1 i2:Id) (z:Int) (ws:List Nat):List (Id × dc):=[(i0,⟨[IV z],2,false⟩),(i1,⟨[.agg [.bool false, .nils]],2,false⟩),uB i2 ws]
theorem BG {ρ : Id->Id} {i0 i1 i2:Id} {z:Int} {ws:List Nat}:yn ρ (Pm i0 i1 i2 z ws)=Pm (ρ i0) (ρ i1) (ρ i2) z ws:=by
 unfold Pm
 simp only [bl,bG,ck,iY,bA,cd,PU.fixed]
section
variable {P:Program} {G:Nat->Option (List AV)}
theorem QG {ft fm fc:FuncId} (z:Int) (s L b:Nat) (hs:mO z.natAbs s) (Gl:z.natAbs<(2 ^ b)*2 ^ b) (hL:L=b/32+1) (hL2:L<=10000) (TQ:Has P ft gq) (htm:Has P fm (dz ft))
   (JG:∀ n,aa n<=L+L->VP P G fc [W n,W z.natAbs] (.int .i64 (eM n z.natAbs))) :
   VW P G [] (.loop (abd ft fm fc)) (fun e s'=>e = .exit 0/\Wk G [] s' ⟨U1 [0] [1] [16] L (-1),cz.to (FU (Pm [0] [1] [16] z (pad L s))),1000000000⟩) ⟨U1 [0] [1] [16] L ((b:Int)-1),ae.of (Pm [0] [1] [16] z (pad L 0)),1000⟩:=by
 have hpB:2 ^ b<ay ^ L:=by
   rw [show ay=2 ^ 32 from rfl, <- Nat.pow_mul]
   exact Nat.pow_lt_pow_right (by decide) (by omega)
 have Yl:val (pad L 0)=0:=cH (Nat.pow_pos bZ)
 refine VW.yJ (α := Nat × List Nat) (fun x=>⟨U1 [0] [1] [16] L ((x.1:Int)-1),ae.of (Pm [0] [1] [16] z x.2),1000+200*(b-x.1)⟩)
   (fun x=>x.1<=b/\x.2.length=L/\Wd x.2/\2 ^ x.1 ∣ val x.2/\val x.2*val x.2<=z.natAbs/\z.natAbs<(val x.2+2 ^ x.1)*(val x.2+2 ^ x.1)) (fun x=>x.1) (b,pad L 0) ?_ ⟨Nat.le_refl _,dR _ _,mM _ _,by rw [Yl];exact Nat.dvd_zero _,by rw [Yl];omega,by rw [Yl,Nat.zero_add];exact Gl⟩ ?_
 . simp only [Nat.sub_self];exact Wk.refl _ _ _
 rintro ⟨i,ws⟩ ⟨hi,hlen,hwd,hd,hle,Zj⟩
 simp only [] at hi hlen hwd hd hle Zj ⊢
 cases i with
 | zero =>
   have d23:decide (((0:Nat):Int)-1≥0)=false:=by decide
   have hv:val ws=s:=by
     have h1:val ws<=s:=L8 hs hle
     have h2:s<=val ws:=L8 ⟨hle,by simpa using Zj⟩ hs.1
     omega
   have hp:=qa hwd
   rw [hlen,hv] at hp
   rw [hp]
   refine VW.tr (π := []) (n:=1000+200*(b-0)) (rsK 16) [hb 23 d23] (U1 [1] [2] [3] L (-1)) (Pm [1] [2] [3] z ws) (.exit 0) (U1 [1] [2] [3] L (-1)) (Pm [1] [2] [3] z ws) 200 (by kernel_rfl)
     BF BG BF BG (by simp [Pm]) fun s hw=>⟨rfl, ?_⟩
   exact Wk.toT (by simp [Pm]) (hw.trans (Wk.forget (Fg.same _) (fun j => .inr rfl) (by omega)))
 | succ i =>
   have hq:i/32<L:=by omega
   have hm:i%32<32:=Nat.mod_lt _ (by decide)
   have him:32*(i/32)+i%32=i:=Nat.div_add_mod i 32
   obtain ⟨w,Je⟩:∃ w,ws[i/32]? = some w:=⟨_,List.getElem?_eq_getElem (by rw [hlen];exact hq)⟩
   have hww:=hwd w (List.mem_of_getElem? Je)
   have hdw:2 ^ (i%32+1) ∣ w:=Yk hwd Je hm (by rw [him];exact hd)
   have hlt:=(QE hm hww hdw).1
   have k0:(((i+1:Nat):Int))-1=(i:Int):=by omega
   have d23:decide ((i:Int)≥0)=true:=aw (by omega)
   have w28:IntKind.i64.wrap ((i:Int).tdiv 32)=((i/32:Nat):Int):=by rw [Int.tdiv_eq_ediv_of_nonneg (by omega),IntKind.wrap_i64];omega
   have w35:(i:Int).tmod 32=((i%32:Nat):Int):=by rw [Int.tmod_eq_emod_of_nonneg (by omega)];omega
   have a32:bK 1 (.osl [3] 1 0 L false) (.int .i64 ((i/32:Nat):Int))=some (.ref [3] (i/32) 0):=b7 hq
   have l33:∀ (σ : ae) (p:Id),(∀ y∈[uB [3] ws], σ y.1=some y.2)->bW σ p (.load false 1 (.ref [3] (i/32) 0))=some { val := .int .u32 (w:Int),rd:=[[3]] }:=fun σ p hσ => BC (hσ (uB [3] ws) (by simp)) Je p
   have o36:=anA hm
   have o37:=afu hm hww hdw
   have s38:∀ (σ : ae) (p:Id),(∀ y∈[uB [3] ws], σ y.1=some y.2)->bW σ p (.store 1 (.ref [3] (i/32) 0) (.int .u32 ((w+2 ^ (i%32):Nat):Int)))=some { val := .tup [],rd:=[[3]],up:=[([3],some ⟨us (ws.set (i/32) (w+2 ^ (i%32))),1,false⟩)] }:=fun σ p hσ => Ei (hσ (uB [3] ws) (by simp)) (by rw [hlen];exact hq) p
   have qq:val (ws.set (i/32) (w+2 ^ (i%32)))=val ws+2 ^ i:=by
     have:=Bq (x:=w+2 ^ (i%32)) Je
     rw [Nat.mul_add] at this
     have e:ay ^ (i/32)*2 ^ (i%32)=2 ^ i:=by rw [show ay=2 ^ 32 from rfl, <- Nat.pow_mul, <- Nat.pow_add,him]
     rw [e] at this
     omega
   have tG:(ws.set (i/32) (w+2 ^ (i%32))).length=L:=by rw [List.length_set,hlen]
   have Ym:Wd (ws.set (i/32) (w+2 ^ (i%32))):=CK hwd hlt
   have ajE:(ws.set (i/32) (w+2 ^ (i%32))).set (i/32) w=ws:=by
     rw [List.set_set]
     obtain ⟨h1,h2⟩:=List.getElem?_eq_some_iff.1 Je
     rw [<- h2];exact List.set_getElem_self h1
   have afv:(ws.set (i/32) (w+2 ^ (i%32)))[i/32]? = some (w+2 ^ (i%32)):=List.getElem?_set_self (by rw [hlen];exact hq)
   have RP:=SW Ym
   have anF:aa (val (ws.set (i/32) (w+2 ^ (i%32))))<=L:=by rw [<- tG];exact dH (eF Ym)
   rw [qq] at RP anF
   have t1:∀ p:Id,aM P G ft [.osl [3] 1 0 L false] p [uB [3] (ws.set (i/32) (w+2 ^ (i%32)))] { val := .osl [3] 1 0 (aa (val ws+2 ^ i)) false,rd:=[[3]] }:=fun p=>by
     have:=ac5 (G:=G) TQ _ Ym L (by omega) (by omega) p [3]
     rwa [List.take_of_length_le (by omega),qq] at this
   have t2:∀ p:Id,aM P G fm [.osl [3] 1 0 (aa (val ws+2 ^ i)) false, .osl [3] 1 0 (aa (val ws+2 ^ i)) false] p [uB [3] (ws.set (i/32) (w+2 ^ (i%32)))] { val := .osl (6::p) 1 0 (aa ((val ws+2 ^ i)*(val ws+2 ^ i))) false,rd:=[[3]],up:=[(6::p,some ⟨us (pad (aa (val ws+2 ^ i)+aa (val ws+2 ^ i)) ((val ws+2 ^ i)*(val ws+2 ^ i))),1,false⟩)] }:=fun p=>by
     have:=aft (G:=G) htm TQ _ Ym (aa (val ws+2 ^ i)) (by omega) (by omega) p [3]
     rwa [RP,aI] at this
   have hy:=abb (N:=z.natAbs) hd Zj
   have hdi:2 ^ i ∣ val ws:=Nat.dvd_trans (Nat.pow_dvd_pow 2 (by omega)) hd
   have w25:IntKind.i64.wrap ((i:Int)-1)=(i:Int)-1:=by rw [IntKind.wrap_i64];omega
   have ajF:1000+200*(b-(i+1))+200=1000+200*(b-i):=by omega
   have hwR:val ws+2 ^ i<ay ^ aa (val ws+2 ^ i):=by
     have:=eF (aQ (val ws+2 ^ i))
     rwa [aI] at this
   rw [k0]
   generalize hR:val ws=R at *
   generalize ws.set (i/32) (w+2 ^ (i%32))=o1 at *
   generalize hR1:R+2 ^ i=R1 at *
   have hpv:val (pad (aa R1+aa R1) (R1*R1))=R1*R1:=cH (by rw [Nat.pow_add];exact Nat.mul_lt_mul'' hwR hwR)
   have h46:=JG (R1*R1) (Nat.le_trans (rq _ _) (by omega))
   have hvw:az (ae.of [uB [6,20,0] (pad (aa R1+aa R1) (R1*R1))]) [.osl [6,20,0] 1 0 (aa (R1*R1)) false,W z.natAbs] [W (R1*R1),W z.natAbs]:=by
     refine az.cons ?_ (az.cons (View.pure (aC _)) az.nil)
     have:=abc (σ := ae.of [uB [6,20,0] (pad (aa R1+aa R1) (R1*R1))]) (q:=[6,20,0]) (mM (aa R1+aa R1) (R1*R1)) (by simp [ae.of])
     rwa [hpv] at this
   by_cases hc:R1*R1<=z.natAbs
   . obtain ⟨y1,y2⟩:=hy hc
     have d47:decide (eM (R1*R1) z.natAbs>0)=false:=ak (by unfold eM iF;split<;>(try split)<;>omega)
     refine VW.tr (π := []) (n:=1000+200*(b-(i+1))) (rsK 16) [hb 23 d23,hw 28 w28,hw 31 w28,ho 32 a32, .st 33 _ _ _ l33,hw 35 w35,ho 36 o36,ho 37 o37,ho 38 a32, .st 100038 _ _ _ s38,
         .rel ft _ [uB [3] o1] _ (fun p _=>t1 p) (by intro p x hx;rcases List.mem_singleton.1 hx with rfl;simp), .rel ft _ [uB [3] o1] _ (fun p _=>t1 p) (by intro p x hx;rcases List.mem_singleton.1 hx with rfl;simp), .rel fm _ [uB [3] o1] _ (fun p _=>t2 p) (by intro p x hx;rcases List.mem_singleton.1 hx with rfl;simp),
         fR [uB [6,20,0] (pad (aa R1+aa R1) (R1*R1))] h46 hvw,hb 47 d47,hw 25 w25] (U1 [1] [2] [3] L (i:Int)) (Pm [1] [2] [3] z ws) .normal (U1 [1] [2] [3] L ((i:Int)-1)) (Pm [1] [2] [3] z o1) 200 (by kernel_rfl)
       BF BG BF BG (by simp [Pm]) fun s hw => ?_
     exact ⟨(i,o1),⟨by simp only [];omega,tG,Ym,by simp only [];rw [qq];exact y1,by simp only [];rw [qq];exact hc,by simp only [];rw [qq];exact y2⟩,by simp only [];omega,by simp only [];rw [<- ajF];exact hw⟩
   . have d47:decide (eM (R1*R1) z.natAbs>0)=true:=aw (by unfold eM iF;split<;>(try split)<;>omega)
     have l55:∀ (σ : ae) (p:Id),(∀ y∈[uB [3] o1], σ y.1=some y.2)->bW σ p (.load false 1 (.ref [3] (i/32) 0))=some { val := .int .u32 ((w+2 ^ (i%32):Nat):Int),rd:=[[3]] }:=fun σ p hσ => BC (hσ (uB [3] o1) (by simp)) afv p
     have o59:=aba hm hww hdw
     have s60:∀ (σ : ae) (p:Id),(∀ y∈[uB [3] o1], σ y.1=some y.2)->bW σ p (.store 1 (.ref [3] (i/32) 0) (.int .u32 (w:Int)))=some { val := .tup [],rd:=[[3]],up:=[([3],some ⟨us ws,1,false⟩)] }:=fun σ p hσ => by
       rw [<- ajE];exact Ei (hσ (uB [3] o1) (by simp)) (by rw [tG];exact hq) p
     refine VW.tr (π := []) (n:=1000+200*(b-(i+1))) (rsK 16) [hb 23 d23,hw 28 w28,hw 31 w28,ho 32 a32, .st 33 _ _ _ l33,hw 35 w35,ho 36 o36,ho 37 o37,ho 38 a32, .st 100038 _ _ _ s38,
         .rel ft _ [uB [3] o1] _ (fun p _=>t1 p) (by intro p x hx;rcases List.mem_singleton.1 hx with rfl;simp), .rel ft _ [uB [3] o1] _ (fun p _=>t1 p) (by intro p x hx;rcases List.mem_singleton.1 hx with rfl;simp), .rel fm _ [uB [3] o1] _ (fun p _=>t2 p) (by intro p x hx;rcases List.mem_singleton.1 hx with rfl;simp),
         fR [uB [6,20,0] (pad (aa R1+aa R1) (R1*R1))] h46 hvw,hb 47 d47,hw 50 w28,hw 53 w28,ho 54 a32, .st 55 _ _ _ l55,hw 57 w35,ho 58 o36,ho 59 o59,ho 60 a32, .st 100060 _ _ _ s60,hw 25 w25] (U1 [1] [2] [3] L (i:Int)) (Pm [1] [2] [3] z ws) .normal (U1 [1] [2] [3] L ((i:Int)-1)) (Pm [1] [2] [3] z ws) 200 (by kernel_rfl)
       BF BG BF BG (by simp [Pm]) fun s hw => ?_
     exact ⟨(i,ws),⟨by simp only [];omega,hlen,hwd,by simp only [];rw [hR];exact hdi,by simp only [];rw [hR];exact hle,by simp only [];rw [hR,hR1];omega⟩,by simp only [];omega,by simp only [];rw [<- ajF];exact hw⟩
theorem Yn {f ft fl:FuncId} (h:Has P f (ql ft fl)) (hl:Has P fl fC) (z:Int) (hz:z.natAbs≠0) (hwl:aa z.natAbs<=1000000) (ht:VP P G ft [W z.natAbs] (W z.natAbs)) :
   ∃ b:Nat,z.natAbs<2 ^ b/\b<=32*aa z.natAbs/\VP P G f [IV z] (.int .i64 (b:Int)):=by
 obtain ⟨a,t,hd,ht0,htB,hlt,hlen⟩:=IJ hz
 have B2:gg t<=32:=by
   have h2:=(tq htB (Nat.pos_of_ne_zero ht0)).2
   rcases Nat.lt_or_ge 32 (gg t) with h' | h'
   . exfalso
     have:=Nat.pow_le_pow_right (n:=2) (by decide) h'
     unfold ay at htB
     omega
   . exact h'
 refine ⟨32*a.length+gg t,hlt,by omega, ?_⟩
 have tG:=Ia (G:=G) hl (n:=z.natAbs) (x:=t) (k:=a.length) hlen.symm (by rw [hd];simp) (by omega)
 exact VP.tr h [hc ht,hc tG] (by kernel_rfl)
theorem Yo {f fn fb ft fm fc fs:FuncId} (h:Has P f (qk fn fb ft fm fc fs)) (z:Int) (s b:Nat) (hz:0<z) (hs:mO z.natAbs s) (Gl:z.natAbs<2 ^ b) (zE:b<=100000) (hn:VP P G fn [IV z] (IV z)) (hbt:VP P G fb [IV z] (.int .i64 (b:Int)))
   (TQ:Has P ft gq) (htm:Has P fm (dz ft)) (JG:∀ n,aa n<=10000->VP P G fc [W n,W z.natAbs] (.int .i64 (eM n z.natAbs))) (o9:∀ L,L<=10000->s<ay ^ L->VP P G fs [.bool false, .sl 1 (us (pad L s))] (IV (s:Int))) :
   VP P G f [IV z] (.tup [IV (s:Int), .int .i64 0]):=by
 have d10:decide (z<0)=false:=ak (by omega)
 have w14:IntKind.i64.wrap ((b:Int)+1)=((b+1:Nat):Int):=by rw [IntKind.wrap_i64];omega
 have w15:IntKind.i64.wrap ((((b+1:Nat)):Int).tdiv 2)=(((b+1)/2:Nat):Int):=by rw [Int.tdiv_eq_ediv_of_nonneg (by omega),IntKind.wrap_i64];omega
 have hbb:z.natAbs<2 ^ ((b+1)/2)*2 ^ ((b+1)/2):=by
   rw [<- Nat.pow_add]
   exact Nat.lt_of_lt_of_le Gl (Nat.pow_le_pow_right (by decide) (by omega))
 generalize hm:(b+1)/2=m at *
 have BI:m<=50001:=by omega
 have w17:IntKind.i64.wrap ((m:Int).tdiv 32)=((m/32:Nat):Int):=by rw [Int.tdiv_eq_ediv_of_nonneg (by omega),IntKind.wrap_i64];omega
 have w18:IntKind.i64.wrap (((m/32:Nat):Int)+1)=((m/32+1:Nat):Int):=by rw [IntKind.wrap_i64];omega
 have w21:IntKind.i64.wrap ((m:Int)-1)=(m:Int)-1:=by rw [IntKind.wrap_i64];omega
 have hl:=QG (P:=P) (G:=G) (ft:=ft) (fm:=fm) (fc:=fc) z s (m/32+1) m hs hbb rfl (by omega) TQ htm (fun n hn=>JG n (by omega))
 have hsL:s<ay ^ (m/32+1):=by
   have h1:s<2 ^ m:=by
     rcases Nat.lt_or_ge s (2 ^ m) with h | h
     . exact h
     . exfalso
       have:=Nat.mul_le_mul h h
       have:=hs.1
       omega
   refine Nat.lt_trans h1 ?_
   rw [show ay=2 ^ 32 from rfl, <- Nat.pow_mul]
   exact Nat.pow_lt_pow_right (by decide) (by omega)
 have anH:=o9 (m/32+1) (by omega) hsL
 have tp:∀ (σ : ae) (p:Id),(∀ y∈([]:List (Id × dc)), σ y.1=some y.2)->bW σ p (.mksl 1 4 (.int .u32 0) (.int .i64 ((m/32+1:Nat):Int)) (.int .i64 ((m/32+1:Nat):Int)))=some { val := .osl p 1 0 (m/32+1) false,up:=[(p,some ⟨us (pad (m/32+1) 0),1,false⟩)] }:=fun σ p _=>by
   have e:pad (m/32+1) 0=List.replicate (m/32+1) 0:=by
     have:=qa (A5 (m/32+1))
     rwa [List.length_replicate,sk (fun w hw=>List.eq_of_mem_replicate hw)] at this
   rw [e];exact lJ (by omega)
 have hvw:az (ae.of [uB [16] (pad (m/32+1) s)]) [.bool false, .osl [16] 1 0 (m/32+1) false] [.bool false, .sl 1 (us (pad (m/32+1) s))]:=az.cons (View.pure (ab.bool _)) (az.cons (View.osl (bk:=⟨us (pad (m/32+1) s),1,false⟩) (by simp [ae.of]) rfl (by simp [eL,dR]) (by rw [List.drop_zero,List.take_of_length_le (by simp [eL,dR])];exact az.pure (tk _)) (by rw [eL,dR]) (yd _)) az.nil)
 generalize m/32+1=L at *
 exact VP.tr h [hc hn,hb 10 d10,hc hbt,hw 14 w14,hw 15 w15,hw 17 w17,hw 18 w18, .st 19 _ _ _ tp,hw 21 w21, .lp [] _ _ _ _ _ _ _ _ hl,fR [uB [16] (pad L s)] anH hvw] (by kernel_rfl)
end
end Go.VL
end

section
set_option linter.unusedVariables false
set_option maxRecDepth 100000
namespace Go.VL
open Go.Lib
abbrev QH:bY:=(.seq (cS [oM 20 5,oF 21 1 2,oL 22 1 21,oN 23 22,oT 24 .lss 20 23] (.cond (.t 24) .skip (.exit 0))) (.seq (.block 1 (.seq (.reg (some []) [oF 27 1 2,oL 28 1 27,oM 29 5,oA 30 1 28 29,oL 31 1 30,oF 32 1 3,oL 33 1 32,oM 34 5,oA 35 1 33 34,oL 36 1 35,oT 37 .neq 31 36]) (.cond (.t 37) (cS [oB 4 false] .ret) .skip))) (cR [oM 25 5,bd 26 .add 25 1,oM 5 26])))
def O8 (i0 i1:Id) (b i:AV):List AV:=[.top, .top, .ref i0 0 0, .ref i1 0 0,b,i]++List.replicate 32 .top
theorem BH {ρ : Id->Id} {i0 i1:Id} {b i:AV}:bQ ρ (O8 i0 i1 b i)=O8 (ρ i0) (ρ i1) (b.dJ ρ) (i.dJ ρ):=by
 unfold O8
 simp only [cL,bA,cd,eZ,Bx,kV]
def Pn (i0 i1:Id) (m n:Nat):List (Id × dc):=[(i0,⟨[IV (m:Int)],2,false⟩),(i1,⟨[IV (n:Int)],2,false⟩)]
theorem GK {ρ : Id->Id} {i0 i1:Id} {m n:Nat}:yn ρ (Pn i0 i1 m n)=Pn (ρ i0) (ρ i1) m n:=by
 unfold Pn
 simp only [bl,bG,ck,bA,cd,PU.fixed]
def smK:Nat->Id
 | 1=>[0]
 | _=>[1]
section
variable {P:Program} {G:Nat->Option (List AV)}
theorem Yp {m n:Nat} {Q:bM->VS->Prop} (i a:Nat) (hi:i<=1000000) (hlt:i<aa m) (ha:(digits m)[i]? = some a) (JI:(digits n)[i]? = some a) (N:Nat) (hq:∀ s,Wk G [] s ⟨O8 [0] [1] (.bool false) (.int .i64 ((i+1:Nat):Int)),ae.of (Pn [0] [1] m n),N+40⟩->Q .normal s) :
   VW P G [] QH Q ⟨O8 [0] [1] (.bool false) (.int .i64 (i:Int)),ae.of (Pn [0] [1] m n),N⟩:=by
 have ZG:ni false (W m)=some (.int .i64 (aa m:Int)):=bb _
 have d24:decide ((i:Int)<(aa m:Int))=true:=aw (by omega)
 have a30:bK 1 (W m) (.int .i64 (i:Int))=some (.ep (AV.int .u32 (a:Int)).cells 0):=fG (k:=1) rfl (qP ha)
 have a35:bK 1 (W n) (.int .i64 (i:Int))=some (.ep (AV.int .u32 (a:Int)).cells 0):=fG (k:=1) rfl (qP JI)
 have d37:((a:Int) != (a:Int))=false:=by simp
 have sr:=aD i (by omega)
 exact VW.tr (π := []) (n:=N) smK [ho 23 ZG,hb 24 d24,ho 30 a30,ho 35 a35,hb 37 d37,hw 26 sr] (O8 [1] [2] (.bool false) (.int .i64 (i:Int))) (Pn [1] [2] m n) .normal (O8 [1] [2] (.bool false) (.int .i64 ((i+1:Nat):Int))) (Pn [1] [2] m n) 40 (by kernel_rfl)
   BH GK BH GK (by simp [Pn]) hq
theorem abe (m:Nat) (hm:aa m<=100000):VW P G [] (.loop QH) (fun e s=>e = .exit 0/\Wk G [] s ⟨O8 [0] [1] (.bool false) .top,cz.to (FU []),1000000000⟩) ⟨O8 [0] [1] (.bool false) (.int .i64 0),ae.of (Pn [0] [1] m m),1000⟩:=by
 refine VW.yJ (α := Nat) (fun i=>⟨O8 [0] [1] (.bool false) (.int .i64 (i:Int)),ae.of (Pn [0] [1] m m),1000+40*i⟩) (fun i=>i<=aa m) (fun i=>aa m-i) 0 (Wk.refl _ _ _) (Nat.zero_le _) ?_
 intro i hi
 by_cases hlt:i<aa m
 . obtain ⟨a,ha⟩:∃ a,(digits m)[i]? = some a:=⟨_,List.getElem?_eq_getElem hlt⟩
   refine Yp i a (by omega) hlt ha ha _ fun s hw=>⟨i+1,by omega,by simp only [];omega, ?_⟩
   have e:1000+40*i+40=1000+40*(i+1):=by omega
   simp only [];rw [<- e];exact hw
 . have ZG:ni false (W m)=some (.int .i64 (aa m:Int)):=bb _
   have d24:decide ((i:Int)<(aa m:Int))=false:=ak (by omega)
   refine VW.tr (π := []) (n:=1000+40*i) smK [ho 23 ZG,hb 24 d24] (O8 [1] [2] (.bool false) (.int .i64 (i:Int))) (Pn [1] [2] m m) (.exit 0) (O8 [1] [2] (.bool false) .top) [] 40 (by kernel_rfl)
     BH GK BH rfl (by simp [Pn]) fun s hw=>⟨rfl, ?_⟩
   exact Wk.toT (by simp) (hw.trans (Wk.forget (Fg.same _) (fun j => .inr rfl) (by omega)))
theorem abf (m n:Nat) (hne:m≠n) (hl:aa m=aa n) (hm:aa m<=100000):VW P G [] (.loop QH) (fun e s=>e = .ret/\Wk G [] s ⟨O8 [0] [1] (.bool false) .top,cz.to (FU []),1000000000⟩) ⟨O8 [0] [1] (.bool false) (.int .i64 0),ae.of (Pn [0] [1] m n),1000⟩:=by
 refine VW.yJ (α := Nat) (fun i=>⟨O8 [0] [1] (.bool false) (.int .i64 (i:Int)),ae.of (Pn [0] [1] m n),1000+40*i⟩) (fun i=>i<=aa m/\∀ j,j<i->(digits m)[j]? = (digits n)[j]?) (fun i=>aa m-i) 0 (Wk.refl _ _ _) ⟨Nat.zero_le _,fun j h=>absurd h (Nat.not_lt_zero j)⟩ ?_
 rintro i ⟨hi,hs⟩
 by_cases hlt:i<aa m
 . obtain ⟨a,ha⟩:∃ a,(digits m)[i]? = some a:=⟨_,List.getElem?_eq_getElem hlt⟩
   obtain ⟨b,JI⟩:∃ b,(digits n)[i]? = some b:=⟨_,List.getElem?_eq_getElem (show i<aa n by omega)⟩
   by_cases Mq:a=b
   . subst Mq
     refine Yp i a (by omega) hlt ha JI _ fun s hw=>⟨i+1,⟨by omega,fun j hj => ?_⟩,by simp only [];omega, ?_⟩
     . rcases (by omega:j<i∨j=i) with h | rfl
       . exact hs j h
       . rw [ha,JI]
     . have e:1000+40*i+40=1000+40*(i+1):=by omega
       simp only [];rw [<- e];exact hw
   . have ZG:ni false (W m)=some (.int .i64 (aa m:Int)):=bb _
     have d24:decide ((i:Int)<(aa m:Int))=true:=aw (by omega)
     have a30:bK 1 (W m) (.int .i64 (i:Int))=some (.ep (AV.int .u32 (a:Int)).cells 0):=fG (k:=1) rfl (qP ha)
     have a35:bK 1 (W n) (.int .i64 (i:Int))=some (.ep (AV.int .u32 (b:Int)).cells 0):=fG (k:=1) rfl (qP JI)
     have d37:((a:Int) != (b:Int))=true:=bne_iff_ne.2 (by omega)
     refine VW.tr (π := []) (n:=1000+40*i) smK [ho 23 ZG,hb 24 d24,ho 30 a30,ho 35 a35,hb 37 d37] (O8 [1] [2] (.bool false) (.int .i64 (i:Int))) (Pn [1] [2] m n) .ret (O8 [1] [2] (.bool false) .top) [] 40 (by kernel_rfl)
       BH GK BH rfl (by simp [Pn]) fun s hw=>⟨rfl, ?_⟩
     exact Wk.toT (by simp) (hw.trans (Wk.forget (Fg.same _) (fun j => .inr rfl) (by omega)))
 . exfalso
   refine hne ?_
   have e:digits m=digits n:=List.ext_getElem? fun j=>by
     by_cases h:j<i
     . exact hs j h
     . rw [List.getElem?_eq_none (show aa m<=j by omega),List.getElem?_eq_none (show aa n<=j by omega)]
   rw [<- aI m, <- aI n,e]
theorem UI {f:FuncId} (h:Has P f nC) (m n:Nat) (hm:aa m<=100000) (hn:aa n<=100000):VP P G f [IV (m:Int),IV (n:Int)] (.bool (decide (m=n))):=by
 have k14:ni false (W m)=some (.int .i64 (aa m:Int)):=bb _
 have k17:ni false (W n)=some (.int .i64 (aa n:Int)):=bb _
 have e10:(!(decide ((m:Int)<0)==decide ((n:Int)<0)))=false:=by rw [ak (by omega),ak (by omega)];rfl
 by_cases hl:aa m=aa n
 . have e18:((aa m:Int) != (aa n:Int))=false:=by rw [hl];simp
   by_cases he:m=n
   . subst he
     rw [decide_eq_true rfl]
     exact VP.tr h [hb 10 e10,ho 14 k14,ho 17 k17,hb 18 e18, .lp [] _ _ _ _ _ _ _ _ (abe m hm)] (by kernel_rfl)
   . rw [decide_eq_false he]
     exact VP.tr h [hb 10 e10,ho 14 k14,ho 17 k17,hb 18 e18, .lp [] _ _ _ _ _ _ _ _ (abf m n he hl hm)] (by kernel_rfl)
 . have e18:((aa m:Int) != (aa n:Int))=true:=bne_iff_ne.2 (by omega)
   rw [decide_eq_false (fun e=>hl (by rw [e]))]
   exact VP.tr h [hb 10 e10,ho 14 k14,ho 17 k17,hb 18 e18] (by kernel_rfl)
theorem O9 {f ft:FuncId} (h:Has P f (gX ft)) (ht:ja P G ft) {ws:List Nat} (hw:Wd ws) (hl:ws.length<=1000000):VP P G f [.bool false, .sl 1 (us ws)] (IV ((val ws:Nat):Int)):=by
 have e:IV ((val ws:Nat):Int) = .agg [.bool false,W (val ws)]:=by
   unfold IV
   rw [ak (by omega : ¬ ((val ws:Nat):Int)<0)];rfl
 rw [e]
 exact VP.tr h [hc (ht ws hw (by omega))] (by kernel_rfl)
end
end Go.VL
end

section
set_option maxRecDepth 100000
namespace Go.Proofs.YtndoagbiakehnaaGreat
open Go.VL Go.Proofs Go.Lib
instance:PU zR:=by unfold zR;infer_instance
section
variable (G:Nat->Option (List AV))
theorem Mg (z:Int) (s:Nat) (hz:0<z) (hw:aa z.natAbs<=400) (hs:mO z.natAbs s):VP Tryz.prog G 295 [IV z] (.tup [IV (s:Int), .int .i64 0]):=by
 obtain ⟨b,h1,h2,h3⟩:=Yn (P:=Tryz.prog) (G:=G) wO m9 z (by omega) (by omega) (ng (t203 G) z.natAbs (by omega))
 exact Yo wN z s b hz hs h1 (by omega) (acH G z (by omega)) h3 oz jD (fun n hn=>aew G n z.natAbs (by omega) (by omega)) (fun L hL hsL=>by
   have:=O9 (G:=G) m8 (t203 G) (mM L s) (by rw [dR];omega)
   rw [cH hsL] at this
   exact this)
theorem SX (z:Int) (s:Nat) (hz:0<z) (hw:aa z.natAbs<=400) (hs:mO z.natAbs s):VP Tryz.prog G 60 [IV (s:Int),IV (s:Int)] (IV ((s*s:Nat):Int))/\VP Tryz.prog G 296 [IV ((s*s:Nat):Int),IV z] (.bool (decide ((s:Int)*s=z))):=by
 have G4:aa s<=400:=Nat.le_trans (bg (by have:=hs.1;exact Nat.le_trans (Nat.le_mul_self s) this)) hw
 have hss:aa (s*s)<=800:=Nat.le_trans (rq s s) (by omega)
 have h1:=aaz G (s:Int) (s:Int) (by rw [Int.natAbs_natCast];omega) (by rw [Int.natAbs_natCast];omega)
 have h2:=UI (P:=Tryz.prog) (G:=G) td (s*s) z.natAbs (by omega) (by omega)
 rw [Int.natAbs_of_nonneg (by omega)] at h2
 have e:decide (s*s=z.natAbs)=decide ((s:Int)*s=z):=decide_eq_decide.2 ⟨fun h=>by have:=congrArg (fun x:Nat=>(x:Int)) h;simp only [Int.natCast_mul] at this;omega,fun h=>by rw [<- h,Int.natAbs_mul];rfl⟩
 rw [e] at h2
 exact ⟨by rw [Int.natCast_mul];exact h1,h2⟩
theorem afw (q r:Rat) (hq:0<q.num) (hs:Sm 400 q) (hr:r*r=q) (h0:0<r.num):VP Tryz.prog G 277 [QV q] (.tup [QV r, .bool true]):=by
 have e1:q.num=r.num*r.num:=by rw [<- hr];exact (IL r).1
 have e2:q.den=r.den*r.den:=by rw [<- hr];exact (IL r).2
 have rs:∀ n:Nat,mO (n*n) n:=fun n=>⟨Nat.le_refl _,Nat.mul_lt_mul'' (Nat.lt_succ_self n) (Nat.lt_succ_self n)⟩
 have r1:mO q.num.natAbs r.num.natAbs:=by rw [e1,Int.natAbs_mul];exact rs _
 have r2:mO (q.den:Int).natAbs r.den:=by rw [Int.natAbs_natCast,e2];exact rs _
 have dp:0<(q.den:Int):=by have:=q.den_pos;omega
 have a1:=Mg G q.num r.num.natAbs hq hs.1 r1
 have a2:=Mg G (q.den:Int) r.den dp (by simpa using hs.2) r2
 obtain ⟨m1,s1⟩:=SX G q.num r.num.natAbs hq hs.1 r1
 obtain ⟨m2,s2⟩:=SX G (q.den:Int) r.den dp (by simpa using hs.2) r2
 have c1:((r.num.natAbs:Int)*(r.num.natAbs:Int)=q.num):=by rw [e1,Int.natAbs_of_nonneg (by omega)]
 have c2:((r.den:Int)*(r.den:Int)=(q.den:Int)):=by rw [e2];simp
 rw [decide_eq_true c1] at s1
 rw [decide_eq_true c2] at s2
 have k:(r.num.natAbs:Int)=r.num:=Int.natAbs_of_nonneg (by omega)
 rw [k] at a1 m1
 exact VP.tr kd [hb 10 (ak (by omega):decide (q.num<0)=false),hc a1,hc a2,hc m1,hc s1,hc m2,hc s2] (by kernel_rfl)
theorem Yq (q:Rat) (hq:0<q.num) (hs:Sm 400 q) (hr:∀ r:Rat,r*r≠q):VP Tryz.prog G 277 [QV q] (.tup [zR, .bool false]):=by
 obtain ⟨s,h1⟩:=GF q.num.natAbs
 obtain ⟨t,h2⟩:=GF (q.den:Int).natAbs
 have dp:0<(q.den:Int):=by have:=q.den_pos;omega
 have a1:=Mg G q.num s hq hs.1 h1
 have a2:=Mg G (q.den:Int) t dp (by simpa using hs.2) h2
 obtain ⟨m1,s1⟩:=SX G q.num s hq hs.1 h1
 obtain ⟨m2,s2⟩:=SX G (q.den:Int) t dp (by simpa using hs.2) h2
 have d10:decide (q.num<0)=false:=ak (by omega)
 by_cases c1:((s:Int)*s=q.num)
 . by_cases c2:((t:Int)*t=(q.den:Int))
   . exfalso
     exact hr (((s:Int):Rat)/((t:Int):Rat)) (X4 c1 c2)
   . rw [decide_eq_true c1] at s1
     rw [decide_eq_false c2] at s2
     exact VP.tr kd [hb 10 d10,hc a1,hc a2,hc m1,hc s1,hc m2,hc s2] (by kernel_rfl)
 . rw [decide_eq_false c1] at s1
   exact VP.tr kd [hb 10 d10,hc a1,hc a2,hc m1,hc s1] (by kernel_rfl)
theorem vzR {σ : ae} {i:VL.Id} {b t:Bool} (h : σ i=some ⟨[zR],4,b⟩):View σ (.tup [.osl i 4 0 1 t, .bool false]) (.tup [.sl 4 [zR], .bool false]):=View.tup (az.cons (rN h rfl IM) (az.cons (View.pure (ab.bool _)) az.nil))
theorem anM (q:Rat) (hq:0<q.num) (hs:Sm 400 q) (hr:∀ r:Rat,r*r≠q):VP Tryz.prog G 247 [.nils,EV q] (.tup [.sl 4 [zR], .bool false]) :=
 VP.n7 jc [hc (Yq G q hq hs hr)] [([16],⟨[zR],4,false⟩)] (.tup [.osl [16] 4 0 1 false, .bool false]) (by kernel_rfl) (fun σ h=>vzR (h ([16],⟨[zR],4,false⟩) (by simp)))
theorem ajG (q:Rat) (hq:0<q.num) (hs:Sm 400 q) (hr:∀ r:Rat,r*r≠q):VP Tryz.prog G 247 [.sl 1 [],EV q] (.tup [.sl 4 [zR], .bool false]) :=
 VP.n7 jc [hc (Yq G q hq hs hr)] [([16],⟨[zR],4,false⟩)] (.tup [.osl [16] 4 0 1 false, .bool false]) (by kernel_rfl) (fun σ h=>vzR (h ([16],⟨[zR],4,false⟩) (by simp)))
theorem anN (q r:Rat) (hq:0<q.num) (hs:Sm 400 q) (hr:r*r=q) (h0:0<r.num):VP Tryz.prog G 247 [.nils,EV q] (.tup [EV r, .bool true]) :=
 VP.n7 jc [hc (afw G q r hq hs hr h0)] [([16],⟨[QV r],4,false⟩)] (.tup [.osl [16] 4 0 1 false, .bool true]) (by kernel_rfl) (fun σ h=>View.tup (az.cons (L0 (h ([16],⟨[QV r],4,false⟩) (by simp))) (az.cons (View.pure (ab.bool _)) az.nil)))
theorem anO:VP Tryz.prog G 276 [.nils] (.bool true):=VP.tr oP [hc (r6T G)] (by kernel_rfl)
theorem afx (x:Rat) (hx:Sm 100000 x):VP Tryz.prog G 246 [.nils,EV x] (.int .i64 (aZ x)):=VP.tr oQ [hc (r6F G x hx),hc (anO G),hc (r7S G x hx)] (by kernel_rfl)
theorem anP (q:Rat) (hq:0<q.num) (hs:Sm 400 q) (hr:∀ r:Rat,r*r≠q):VP Tryz.prog G 250 [.nils,EV q] (.tup [.nils, .bool false]):=VP.tr oR [hc (anM G q hq hs hr)] (by kernel_rfl)
theorem anQ (q r:Rat) (hq:0<q.num) (hs:Sm 400 q) (hr:r*r=q) (h0:0<r.num) (I3:Sm 100000 r):VP Tryz.prog G 250 [.nils,EV q] (.tup [EV r, .bool true]):=by
 have o9:=afx G r I3
 rw [show aZ r=1 from Int.sign_eq_one_of_pos h0] at o9
 exact VP.tr oR [hc (anN G q r hq hs hr h0),hc o9] (by kernel_rfl)
theorem anR (q:Rat) (hq:0<q.num) (hs:Sm 400 q) (hr:∀ r:Rat,r*r≠q):VP Tryz.prog G 216 [.nils,EV q] (.tup [T1 q,E1 (0,1), .int .i64 0]):=by
 have o9:=afx G q (hs.mono (by omega))
 rw [show aZ q=1 from Int.sign_eq_one_of_pos hq] at o9
 have hv:az (ae.of [([24],⟨[EV q],1,false⟩)]) [.osl [24] 1 0 1 false, .int .i64 0] [T1 q, .int .i64 0]:=az.cons (rN (b:=false) (by simp [ae.of]) rfl (by intro c hc;rcases List.mem_singleton.1 hc with rfl;exact aW q)) (az.cons (View.pure (ab.int _ _)) az.nil)
 exact VP.n7 nd [hc o9,hc (anP G q hq hs hr),fR [([24],⟨[EV q],1,false⟩)] (afq G q) hv] [([24],⟨[EV q],1,true⟩)] (.tup [.osl [24] 1 0 1 false,E1 (0,1), .int .i64 0]) (by kernel_rfl) (fun σ h=>View.tup (az.cons (rN (h ([24],⟨[EV q],1,true⟩) (by simp)) rfl (by intro c hc;rcases List.mem_singleton.1 hc with rfl;exact aW q)) (az.pure (by intro c hc;simp at hc;rcases hc with rfl | rfl;exact PU.pure;exact ab.int _ _))))
theorem anS (q r:Rat) (hq:0<q.num) (hs:Sm 400 q) (hr:r*r=q) (h0:0<r.num) (I3:Sm 100000 r):VP Tryz.prog G 216 [.nils,EV q] (.tup [.nils,EV r, .int .i64 0]):=by
 have o9:=afx G q (hs.mono (by omega))
 rw [show aZ q=1 from Int.sign_eq_one_of_pos hq] at o9
 exact VP.tr nd [hc o9,hc (anQ G q r hq hs hr h0 I3)] (by kernel_rfl)
theorem ajH:VP Tryz.prog G 214 [.nils] (.bool true):=LG iT
theorem anT (q:Rat) (hq:0<q.num) (hs:Sm 400 q) (hr:∀ r:Rat,r*r≠q):VP Tryz.prog G 214 [T1 q] (.bool true):=by
 have o9:=ant G q (hs.mono (by omega))
 rw [show aZ q=1 from Int.sign_eq_one_of_pos hq] at o9
 exact VP.tr iT [hc (xF0 G q (hs.mono (by omega))),hc o9,hc (ajG G q hq hs hr)] (by kernel_rfl)
theorem anU (q:Rat) (hq:0<q.num) (hs:Sm 400 q) (hr:∀ r:Rat,r*r≠q):VP Tryz.prog G 168 [.nils,EV q] (.tup [T1 q,E1 (0,1), .int .i64 0]):=VP.tr nc [hc (ajH G),hc (r6F G q (hs.mono (by omega))),hc (anR G q hq hs hr)] (by kernel_rfl)
theorem anV (q r:Rat) (hq:0<q.num) (hs:Sm 400 q) (hr:r*r=q) (h0:0<r.num) (I3:Sm 100000 r):VP Tryz.prog G 168 [.nils,EV q] (.tup [.nils,EV r, .int .i64 0]):=VP.tr nc [hc (ajH G),hc (r6F G q (hs.mono (by omega))),hc (anS G q r hq hs hr h0 I3)] (by kernel_rfl)
theorem ajI (q:Rat) (v:Q2) (hq:0<q.num) (hs:Sm 400 q) (hr:∀ r:Rat,r*r≠q) (hv:bR 100000 v):VP Tryz.prog G 175 [N1 q v] (.bool true):=VP.tr nO [hc (xF1 G q v (hs.mono (by omega)) hv),hc (anT G q hq hs hr)] (by kernel_rfl)
theorem afy (q:Rat) (hq:0<q.num) (hs:Sm 400 q) (hr:∀ r:Rat,r*r≠q):VP Tryz.prog G 102 [NV q] (.tup [N1 q (0,1), .int .i64 0]):=VP.tr oU [hc (anU G q hq hs hr)] (by kernel_rfl)
theorem afz (q r:Rat) (hq:0<q.num) (hs:Sm 400 q) (hr:r*r=q) (h0:0<r.num) (I3:Sm 100000 r):VP Tryz.prog G 102 [NV q] (.tup [NV r, .int .i64 0]):=VP.tr oU [hc (anV G q r hq hs hr h0 I3)] (by kernel_rfl)
end
end Go.Proofs.YtndoagbiakehnaaGreat
end

section
set_option maxRecDepth 100000
namespace Go.Proofs.YtndoagbiakehnaaGreat
open Go.VL Go.Proofs Go.Lib
theorem afA {σ : ae} {i:VL.Id} {A B:AV} (h : σ i=some ⟨[A,B],2,false⟩) (hA:A.size=2) (hB:B.size=2) (pa:∀ c∈A.cells,ab c) (pb:∀ c∈B.cells,ab c):View σ (.tup [.osl i 2 0 2 false, .int .i64 0]) (.tup [.sl 2 [A,B], .int .i64 0]):=vT (v2L h hA hB pa pb)
section
variable (G:Nat->Option (List AV))
theorem ajJ (q:Rat) (hq:Sm 40000 q):VP Tryz.prog G 297 [QV q,QV q] (.int .i64 0):=by
 have s1:=hq.1
 have s2:=hq.2
 have m1:=aaz G q.num (q.den:Int) (by omega) (by rw [Int.natAbs_natCast];omega)
 have hz:aa (q.num*(q.den:Int)).natAbs<=100000:=Nat.le_trans (cj _ _) (by rw [Int.natAbs_natCast];omega)
 generalize q.num*(q.den:Int)=z at *
 have h1:=acE G z z (by omega) (by omega)
 rw [Int.sub_self] at h1
 have h2:=SA G 0 (by show aa 0<=_;rw [cg.2 rfl];omega)
 have h3:VP Tryz.prog G 307 [IV z,IV z] (.int .i64 0):=VP.tr x6 [hc h1,hc h2] (by kernel_rfl)
 exact VP.tr x9 [hc m1,hc m1,hc h3] (by kernel_rfl)
theorem ajK (q:Rat) (hq:Sm 40000 q):VP Tryz.prog G 279 [EV q,EV q] (.bool true):=VP.tr wG [hc (ajJ G q hq)] (by kernel_rfl)
theorem anW:VP Tryz.prog G 252 [.nils, .nils] (.bool true):=VP.tr gl [] (by kernel_rfl)
theorem UJ (q:Rat):VP Tryz.prog G 252 [T1 q, .nils] (.bool true):=VP.tr gl [] (by kernel_rfl)
theorem Yr (q:Rat) (hq:Sm 40000 q):VP Tryz.prog G 252 [T1 q,T1 q] (.bool true):=VP.tr gl [hc (ajK G q hq)] (by kernel_rfl)
theorem yL1 (q:Rat) (v:Q2):VP Tryz.prog G 254 [T1 q,E1 v] (E1 v):=VP.n7 j8 [] [([3],⟨[QV v.1,QV v.2],4,false⟩)] (.osl [3] 4 0 2 false) (by kernel_rfl) (fun σ h=>KC (h ([3],⟨[QV v.1,QV v.2],4,false⟩) (by simp)))
theorem yL0 (q x:Rat):VP Tryz.prog G 254 [T1 q,EV x] (E1 (x,0)):=VP.n7 j8 [hc (Gn G 0 (by decide) (by decide))] [([14],⟨[QV x,QV 0],4,false⟩)] (.osl [14] 4 0 2 false) (by kernel_rfl) (fun σ h=>KC (h ([14],⟨[QV x,QV 0],4,false⟩) (by simp)))
theorem anX (x q:Rat) (v:Q2) (hq:Sm 40000 q):VP Tryz.prog G 220 [.sl 2 [NV x,N1 q v]] (.tup [.sl 2 [N1 q (x,0),N1 q v], .int .i64 0]) :=
 VP.n7 gZ [hc (anW G),hc (UJ G q),hc (UJ G q),hc (yL0 G q x),hc (Yr G q hq),hc (yL1 G q v)] [([133],⟨[N1 q (x,0),N1 q v],2,false⟩)] (.tup [.osl [133] 2 0 2 false, .int .i64 0]) (by kernel_rfl) (fun σ h=>afA (h ([133],⟨[N1 q (x,0),N1 q v],2,false⟩) (by simp)) rfl rfl (fJ _ _) (fJ _ _))
theorem anY (x q:Rat) (v:Q2) (hq:Sm 40000 q):VP Tryz.prog G 220 [.sl 2 [N1 q v,NV x]] (.tup [.sl 2 [N1 q v,N1 q (x,0)], .int .i64 0]) :=
 VP.n7 gZ [hc (UJ G q),hc (UJ G q),hc (Yr G q hq),hc (yL1 G q v),hc (UJ G q),hc (yL0 G q x)] [([133],⟨[N1 q v,N1 q (x,0)],2,false⟩)] (.tup [.osl [133] 2 0 2 false, .int .i64 0]) (by kernel_rfl) (fun σ h=>afA (h ([133],⟨[N1 q v,N1 q (x,0)],2,false⟩) (by simp)) rfl rfl (fJ _ _) (fJ _ _))
theorem anZ (q:Rat) (u v:Q2) (hq:Sm 40000 q):VP Tryz.prog G 220 [.sl 2 [N1 q u,N1 q v]] (.tup [.sl 2 [N1 q u,N1 q v], .int .i64 0]) :=
 VP.n7 gZ [hc (UJ G q),hc (Yr G q hq),hc (Yr G q hq),hc (yL1 G q u),hc (Yr G q hq),hc (yL1 G q v)] [([133],⟨[N1 q u,N1 q v],2,false⟩)] (.tup [.osl [133] 2 0 2 false, .int .i64 0]) (by kernel_rfl) (fun σ h=>afA (h ([133],⟨[N1 q u,N1 q v],2,false⟩) (by simp)) rfl rfl (fJ _ _) (fJ _ _))
theorem vw2 {A B:AV} (hA:A.size=2) (hB:B.size=2) (pa:∀ c∈A.cells,ab c) (pb:∀ c∈B.cells,ab c):az (ae.of [([7],⟨[A,B],2,false⟩)]) [.osl [7] 2 0 2 false] [.sl 2 [A,B]]:=az.cons (v2L (by simp [ae.of]) hA hB pa pb) az.nil
theorem ajL (x q:Rat) (v:Q2) (hq:Sm 40000 q):VP Tryz.prog G 170 [NV x,N1 q v] (.tup [N1 q (x,0),N1 q v, .int .i64 0]):=VP.tr iB [fR [([7],⟨[NV x,N1 q v],2,false⟩)] (anX G x q v hq) (vw2 rfl rfl (kg x) (fJ q v))] (by kernel_rfl)
theorem ajM (x q:Rat) (v:Q2) (hq:Sm 40000 q):VP Tryz.prog G 170 [N1 q v,NV x] (.tup [N1 q v,N1 q (x,0), .int .i64 0]):=VP.tr iB [fR [([7],⟨[N1 q v,NV x],2,false⟩)] (anY G x q v hq) (vw2 rfl rfl (fJ q v) (kg x))] (by kernel_rfl)
theorem ajN (q:Rat) (u v:Q2) (hq:Sm 40000 q):VP Tryz.prog G 170 [N1 q u,N1 q v] (.tup [N1 q u,N1 q v, .int .i64 0]):=VP.tr iB [fR [([7],⟨[N1 q u,N1 q v],2,false⟩)] (anZ G q u v hq) (vw2 rfl rfl (fJ q u) (fJ q v))] (by kernel_rfl)
theorem Ys (q:Rat) (b c:Bool) (u v:Q2) (hq:Sm 10000 q) (hu:bR 10000 u) (hv:bR 10000 v) (fu:Fl b u) (fv:Fl c v):VP Tryz.prog G 106 [nq q b u,nq q c v] (.tup [nq q (b||c) (u.1+v.1,u.2+v.2), .int .i64 0]):=by
 have sq:=hq.mono (k:=40000) (by omega)
 have ha:=ajv G q u v (hu.mono (by omega)) (hv.mono (by omega))
 cases b<;>cases c
 . exact OG G u.1 v.1 (hu.1.mono (by omega)) (hv.1.mono (by omega))
 . obtain ⟨x,y⟩:=u
   obtain rfl:=zQ fu
   exact VP.tr iC [hc (ajL G x q v sq),hc ha] (by kernel_rfl)
 . obtain ⟨x,y⟩:=v
   obtain rfl:=zQ fv
   exact VP.tr iC [hc (ajM G x q u sq),hc ha] (by kernel_rfl)
 . exact VP.tr iC [hc (ajN G q u v sq),hc ha] (by kernel_rfl)
theorem UK (q:Rat) (b c:Bool) (u v:Q2) (hq:Sm 10000 q) (hu:bR 10000 u) (hv:bR 10000 v) (fu:Fl b u) (fv:Fl c v):VP Tryz.prog G 105 [nq q b u,nq q c v] (.tup [nq q (b||c) (eG q u v), .int .i64 0]):=by
 have sq:=hq.mono (k:=40000) (by omega)
 have ha:=ajx G q u v (hq.mono (by omega)) (hu.mono (by omega)) (hv.mono (by omega))
 cases b<;>cases c
 . obtain ⟨x,y⟩:=u
   obtain rfl:=zQ fu
   obtain ⟨z,t⟩:=v
   obtain rfl:=zQ fv
   have:=OH G x z (hu.1.mono (by omega)) (hv.1.mono (by omega))
   rw [<- OX (q:=q)] at this
   exact this
 . obtain ⟨x,y⟩:=u
   obtain rfl:=zQ fu
   exact VP.tr iD [hc (ajL G x q v sq),hc ha] (by kernel_rfl)
 . obtain ⟨x,y⟩:=v
   obtain rfl:=zQ fv
   exact VP.tr iD [hc (ajM G x q u sq),hc ha] (by kernel_rfl)
 . exact VP.tr iD [hc (ajN G q u v sq),hc ha] (by kernel_rfl)
theorem afB (q:Rat) (b:Bool) (u:Q2) (hu:bR 10000 u):VP Tryz.prog G 43 [nq q b u] (nq q b (-u.1, -u.2)):=by
 cases b
 . exact OI G u.1 (hu.1.mono (by omega))
 . exact VP.tr pP [hc (ajw G q u (hu.mono (by omega)))] (by kernel_rfl)
theorem Fl.neg {b:Bool} {v:Q2} (h:Fl b v):Fl b (-v.1, -v.2):=fun e=>by show -v.2=0;rw [h e];rfl
theorem ajO (q:Rat) (b c:Bool) (u v:Q2) (hq:Sm 10000 q) (hu:bR 10000 u) (hv:bR 10000 v) (fu:Fl b u) (fv:Fl c v):VP Tryz.prog G 108 [nq q b u,nq q c v] (.tup [nq q (b||c) (u.1 + -v.1,u.2 + -v.2), .int .i64 0]):=by
 have hn:=afB G q c v hv
 have ha:=Ys G q b c u (-v.1, -v.2) hq hu ⟨hv.1.neg,hv.2.neg⟩ fu fv.neg
 cases b<;>cases c<;>exact VP.tr pQ [hc hn,hc ha] (by kernel_rfl)
theorem an1 (q:Rat) (b c:Bool) (u v:Q2) (hq:Sm 1000 q) (hu:bR 1000 u) (hv:bR 1000 v) (fu:Fl b u) (fv:Fl c v) (h0:eJ q v≠0):VP Tryz.prog G 104 [nq q b u,nq q c v] (.tup [nq q (b||c) (eG q u (o7 q v)), .int .i64 0]):=by
 have si:=(X5 hq hv).mono (k:=10000) (by omega)
 cases c
 . obtain ⟨x,y⟩:=v
   obtain rfl:=zQ fv
   have hx:x≠0:=by rintro rfl;exact h0 (by unfold eJ;simp only [];grind)
   rw [IP hx] at si ⊢
   have hi:VP Tryz.prog G 169 [.nils,EV x] (.tup [EV (1/x), .int .i64 0]):=by rw [FX];exact Xa gb x hx (Oh pO (aeC G) x hx (hv.1.mono (by omega)))
   have hm:=UK G q b false u (1/x,0) (hq.mono (by omega)) (hu.mono (by omega)) si fu (fun _=>rfl)
   cases b<;>exact VP.tr p5 [hc hi,hc hm] (by kernel_rfl)
 . have hm:=UK G q b true u (o7 q v) (hq.mono (by omega)) (hu.mono (by omega)) si fu (fun h=>by cases h)
   cases b<;>exact VP.tr p5 [hc (ajA G q v h0 hq hv),hc hm] (by kernel_rfl)
theorem Yt (q:Rat) (b:Bool) (v:Q2) (hq:Sm 1000 q) (hv:bR 20000 v) (fv:Fl b v):VP Tryz.prog G 42 [nq q b v] (.int .i64 (BS q v)):=by
 cases b
 . have e:BS q v=aZ v.1:=by unfold BS;rw [fv rfl,if_pos (.inl (by rfl))]
   rw [e]
   exact Qq G v.1 (hv.1.mono (by omega))
 . exact VP.tr oH [hc (anu G q v hq hv)] (by kernel_rfl)
theorem yEq (q:Rat) (b c:Bool) (u v:Q2) (hq:Sm 1000 q) (hu:bR 9900 u) (hv:bR 9900 v) (fu:Fl b u) (fv:Fl c v):VP Tryz.prog G 18 [nq q b u,nq q c v] (.bool (decide (BS q (u.1 + -v.1,u.2 + -v.2)=0))):=by
 have hs:=ajO G q b c u v (hq.mono (by omega)) (hu.mono (by omega)) (hv.mono (by omega)) fu fv
 have fd:Fl (b||c) (u.1 + -v.1,u.2 + -v.2):=fun e=>by
   rw [Bool.or_eq_false_iff] at e
   show u.2 + -v.2=0
   rw [fu e.1,fv e.2,Rat.neg_zero,Rat.add_zero]
 have hg:=Yt G q (b||c) (u.1 + -v.1,u.2 + -v.2) (hq.mono (by omega)) ⟨(hu.1.add hv.1.neg).mono (by omega),(hu.2.add hv.2.neg).mono (by omega)⟩ fd
 have JG:VP Tryz.prog G 63 [nq q b u,nq q c v] (.tup [.int .i64 (BS q (u.1 + -v.1,u.2 + -v.2)), .int .i64 0]):=by
   cases b<;>cases c<;>exact VP.tr pR [hc hs,hc hg] (by kernel_rfl)
 cases b<;>cases c<;>exact VP.tr nN [hc JG] (by kernel_rfl)
theorem ajP (q:Rat) (b:Bool) (v:Q2) (hq:0<q.num) (hs:Sm 400 q) (hr:b=true->∀ r:Rat,r*r≠q) (hv:bR 100000 v):VP Tryz.prog G 175 [nq q b v] (.bool true):=by
 cases b
 . exact XH G v.1 hv.1
 . exact ajI G q v hq hs (hr rfl) hv
end
end Go.Proofs.YtndoagbiakehnaaGreat
end

section
set_option maxRecDepth 100000
namespace Go.Proofs.YtndoagbiakehnaaGreat
open Go.VL Go.Proofs Go.Lib
section
variable (G:Nat->Option (List AV))
theorem ajQ (q:Rat) (b:Bool) (u v:Q2):VP Tryz.prog G 174 [nq q b u,nq q b v, .int .i64 0] (.tup [VQ q b u v, .int .i64 0]):=by
 cases b<;>exact VP.tr pS [] (by kernel_rfl)
theorem ajR (q:Rat) (b c:Bool) (u v s t:Q2) (hq:Sm 10000 q) (hu:bR 10000 u) (hv:bR 10000 v) (hs:bR 10000 s) (ht:bR 10000 t) (fu:Fl b u) (fv:Fl b v) (fs:Fl c s) (ft:Fl c t):VP Tryz.prog G 109 [VQ q b u v,VQ q c s t] (.tup [VQ q (b||c) (u.1+s.1,u.2+s.2) (v.1+t.1,v.2+t.2), .int .i64 0]):=by
 have h1:=Ys G q b c u s hq hu hs fu fs
 have h2:=Ys G q b c v t hq hv ht fv ft
 have h3:=ajQ G q (b||c) (u.1+s.1,u.2+s.2) (v.1+t.1,v.2+t.2)
 cases b<;>cases c<;>exact VP.tr pT [hc h1,hc h2,hc (aaC G),hc h3] (by kernel_rfl)
theorem an3 (q:Rat) (b:Bool) (u v:Q2) (hu:bR 10000 u) (hv:bR 10000 v):VP Tryz.prog G 114 [VQ q b u v] (VQ q b (-u.1, -u.2) (-v.1, -v.2)):=by
 have h1:=afB G q b u hu
 have h2:=afB G q b v hv
 cases b<;>exact VP.tr pU [hc h1,hc h2] (by kernel_rfl)
theorem an4 (q:Rat) (b c:Bool) (u v s t:Q2) (hq:Sm 10000 q) (hu:bR 10000 u) (hv:bR 10000 v) (hs:bR 10000 s) (ht:bR 10000 t) (fu:Fl b u) (fv:Fl b v) (fs:Fl c s) (ft:Fl c t):VP Tryz.prog G 56 [VQ q b u v,VQ q c s t] (.tup [VQ q (b||c) (u.1 + -s.1,u.2 + -s.2) (v.1 + -t.1,v.2 + -t.2), .int .i64 0]):=by
 have h1:=an3 G q c s t hs ht
 have h2:=ajR G q b c u v (-s.1, -s.2) (-t.1, -t.2) hq hu hv ⟨hs.1.neg,hs.2.neg⟩ ⟨ht.1.neg,ht.2.neg⟩ fu fv fs.neg ft.neg
 cases b<;>cases c<;>exact VP.tr pV [hc h1,hc h2] (by kernel_rfl)
theorem afC (q:Rat) (b:Bool) (a f:Q2) (hq:Sm 10000 q) (ha:bR 10000 a) (hf:bR 10000 f) (ff:Fl b f):VP Tryz.prog G 110 [V2 a,nq q b f] (.tup [VQ q b (eG q (a.1,0) f) (eG q (a.2,0) f), .int .i64 0]):=by
 have h1:=UK G q false b (a.1,0) f hq (z2 ha.1 (by omega)) hf (fun _=>rfl) ff
 have h2:=UK G q false b (a.2,0) f hq (z2 ha.2 (by omega)) hf (fun _=>rfl) ff
 rw [Bool.false_or] at h1 h2
 have h3:=ajQ G q b (eG q (a.1,0) f) (eG q (a.2,0) f)
 cases b<;>exact VP.tr nQ [hc h1,hc h2,hc (aaC G),hc h3] (by kernel_rfl)
theorem Yu (q:Rat) (b:Bool) (u v:Q2):bu Tryz.prog G 97 [VQ q b u v, .int .i64 0] (VQ q b u v):=by
 cases b<;>exact bu.tr lR [aP [1] (SD G)] (by kernel_rfl)
theorem Pa (q:Rat) (b:Bool) (u:Q2):bu Tryz.prog G 98 [nq q b u, .int .i64 0] (nq q b u):=by
 cases b<;>exact bu.tr lQ [aP [1] (SD G)] (by kernel_rfl)
theorem Mh (q:Rat) (b:Bool) (a u v:Q2) (hq:Sm 10000 q) (ha:bR 10000 a) (hu:bR 10000 u) (hv:bR 10000 v) (fu:Fl b u) (fv:Fl b v):bu Tryz.prog G 51 [V2 a,VQ q b u v] (VQ q b (a.1+u.1,0+u.2) (a.2+v.1,0+v.2)):=by
 have h:VP Tryz.prog G 109 [V2 a,VQ q b u v] (.tup [VQ q b (a.1+u.1,0+u.2) (a.2+v.1,0+v.2), .int .i64 0]):=by
   have:=ajR G q false b (a.1,0) (a.2,0) u v hq (z2 ha.1 (by omega)) (z2 ha.2 (by omega)) hu hv (fun _=>rfl) (fun _=>rfl) fu fv
   rwa [Bool.false_or] at this
 have hk:=Yu G q b (a.1+u.1,0+u.2) (a.2+v.1,0+v.2)
 cases b<;>exact bu.tr lg [hc h,aP [1] hk] (by kernel_rfl)
theorem Mi (q:Rat) (b:Bool) (a f:Q2) (hq:Sm 10000 q) (ha:bR 10000 a) (hf:bR 10000 f) (ff:Fl b f):bu Tryz.prog G 52 [V2 a,nq q b f] (VQ q b (eG q (a.1,0) f) (eG q (a.2,0) f)):=by
 have h:=afC G q b a f hq ha hf ff
 have hk:=Yu G q b (eG q (a.1,0) f) (eG q (a.2,0) f)
 cases b<;>exact bu.tr kq [hc h,aP [1] hk] (by kernel_rfl)
theorem Yv (q:Rat) (b:Bool) (l:Q2) (h:o8 q b l):bu Tryz.prog G 44 [NV q] (nq q b l):=by
 have hk:=Pa G q b l
 have hs:=h.sm.mono (k:=400) (by omega)
 rcases h.cs with ⟨rfl,rfl,hr⟩ | ⟨rfl,_,hr,h0⟩
 . exact bu.tr lh [hc (afy G q h.pos hs hr),aP [1] hk] (by kernel_rfl)
 . exact bu.tr lh [hc (afz G q l.1 h.pos hs hr h0 (h.sl.1.mono (by omega))),aP [1] hk] (by kernel_rfl)
theorem ac6 (q:Rat) (b c:Bool) (u v:Q2) (hq:Sm 1000 q) (hu:bR 1000 u) (hv:bR 1000 v) (fu:Fl b u) (fv:Fl c v) (h0:eJ q v≠0):bu Tryz.prog G 46 [nq q b u,nq q c v] (nq q (b||c) (eG q u (o7 q v))):=by
 have h:=an1 G q b c u v hq hu hv fu fv h0
 have hk:=Pa G q (b||c) (eG q u (o7 q v))
 cases b<;>cases c<;>exact bu.tr rX [hc h,aP [1] hk] (by kernel_rfl)
theorem ajS (q:Rat) (b:Bool) (u:Q2) (x:Rat) (hq:Sm 10000 q) (hu:bR 10000 u) (hx:Sm 10000 x) (fu:Fl b u):bu Tryz.prog G 48 [nq q b u,NV x] (nq q b (u.1+x,u.2+0)):=by
 have h:VP Tryz.prog G 106 [nq q b u,NV x] (.tup [nq q b (u.1+x,u.2+0), .int .i64 0]):=by
   have:=Ys G q b false u (x,0) hq hu (z2 hx (by omega)) fu (fun _=>rfl)
   rwa [Bool.or_false] at this
 have hk:=Pa G q b (u.1+x,u.2+0)
 cases b<;>exact bu.tr rZ [hc h,aP [1] hk] (by kernel_rfl)
theorem ajT (q:Rat) (b:Bool) (u:Q2) (x:Rat) (hq:Sm 10000 q) (hu:bR 10000 u) (hx:Sm 10000 x) (fu:Fl b u):bu Tryz.prog G 50 [nq q b u,NV x] (nq q b (u.1 + -x,u.2+0)):=by
 have h:VP Tryz.prog G 108 [nq q b u,NV x] (.tup [nq q b (u.1 + -x,u.2+0), .int .i64 0]):=by
   have:=ajO G q b false u (x,0) hq hu (z2 hx (by omega)) fu (fun _=>rfl)
   rw [Bool.or_false] at this
   simp only [Rat.neg_zero] at this
   exact this
 have hk:=Pa G q b (u.1 + -x,u.2+0)
 cases b<;>exact bu.tr rY [hc h,aP [1] hk] (by kernel_rfl)
theorem abg (xa xb xc:Q2) (cw:Bool) (d q:Rat) (b:Bool) (l:Q2) (hx:bR 20 xa/\bR 20 xb/\bR 20 xc) (hd:Sm 20 d) (Zz:nV (-(bf xb xa).2,(bf xb xa).1) (-(bf xb xa).2,(bf xb xa).1)=q) (h:o8 q b l) :
   VP Tryz.prog G 65 [CX.av ⟨false,xa,xb,xc,cw⟩,QV d] (.tup [aaX q b ⟨false,xa,xb,xc,cw⟩ (Gr q d l), .int .i64 0]):=by
 have sd:bR 41 (bf xb xa):=bR.sub hx.2.1 hx.1
 have sn:bR 41 (-(bf xb xa).2,(bf xb xa).1):=⟨sd.2.neg,sd.1⟩
 have k1:=Iz G xb xa (hx.2.1.mono (by omega)) (hx.1.mono (by omega))
 have k2:=SC G (bf xb xa) (sd.mono (by omega))
 have k3:=SE G (-(bf xb xa).2,(bf xb xa).1) (sn.mono (by omega))
 rw [Zz] at k3
 have k4:=Yv G q b l h
 have k5:bu Tryz.prog G 46 [NV d,nq q b l] (nq q b (Gr q d l)):=by
   have:=ac6 G q false b (d,0) l (h.sm.mono (by omega)) (z2 (hd.mono (by omega)) (by omega)) (h.sl.mono (by omega)) (fun _=>rfl) h.fl h.n0
   rwa [Bool.false_or] at this
 have sf:bR 1100 (Gr q d l):=h.div (z2 (hd.mono (by omega)) (by omega))
 have ff:Fl b (Gr q d l):=h.fF (fun _=>rfl)
 have k6:=Mi G q b (-(bf xb xa).2,(bf xb xa).1) (Gr q d l) (h.sm.mono (by omega)) (sn.mono (by omega)) (sf.mono (by omega)) ff
 have k7:=Mh G q b xa _ _ (h.sm.mono (by omega)) (hx.1.mono (by omega)) ((qo (q:=q) sn.1 sf).mono (by omega)) ((qo (q:=q) sn.2 sf).mono (by omega)) (fSc ff) (fSc ff)
 have k8:=Mh G q b xb _ _ (h.sm.mono (by omega)) (hx.2.1.mono (by omega)) ((qo (q:=q) sn.1 sf).mono (by omega)) ((qo (q:=q) sn.2 sf).mono (by omega)) (fSc ff) (fSc ff)
 cases b<;>exact VP.tr dP [hc (Ix G d),aP [5] k1,hc k2,aP [5] k3,aP [5] k4,aP [5] k5,aP [5] k6,aP [5] k7,aP [5] k8] (by kernel_rfl)
set_option maxHeartbeats 1000000 in
theorem abh (xa xb xc:Q2) (cw:Bool) (d q:Rat) (b:Bool) (l:Q2) (hx:bR 20 xa/\bR 20 xb/\bR 20 xc) (hd:Sm 20 d) (Zz:nV (bf xa xc) (bf xa xc)=q) (h:o8 q b l) :
   VP Tryz.prog G 65 [CX.av ⟨true,xa,xb,xc,cw⟩,QV d] (if BS q (qe l cw d)<=0 then .tup [zC, .int .i64 6] else .tup [aaY q b ⟨true,xa,xb,xc,cw⟩ (BU q l cw d), .int .i64 0]):=by
 have su:bR 41 (bf xa xc):=bR.sub hx.1 hx.2.2
 have sv:bR 41 (bf xb xc):=bR.sub hx.2.1 hx.2.2
 have k0:=aeP G xc xa (hx.2.2.mono (by omega)) (hx.1.mono (by omega))
 have eq:Kq xc xa=q:=by rw [<- Zz];unfold Kq nV bf;simp only [];grind
 rw [eq] at k0
 have k1:=Yv G q b l h
 have k2:=ajT G q b l d (h.sm.mono (by omega)) (h.sl.mono (by omega)) (hd.mono (by omega)) h.fl
 have k3:=ajS G q b l d (h.sm.mono (by omega)) (h.sl.mono (by omega)) (hd.mono (by omega)) h.fl
 have s1:Sm 20 (if cw then d else -d):=by cases cw<;>simp only [if_true,Bool.false_eq_true,if_false];exact hd.neg;exact hd
 have z0:Sm 20 (0:Rat):=(Sm.zero).mono (by omega)
 have sS:bR 230 (qe l cw d):=⟨(h.sl.1.add s1).mono (by omega),(h.sl.2.add (z0:Sm 20 (0:Rat))).mono (by omega)⟩
 have fS:Fl b (qe l cw d):=fun e=>by show l.2+0=0;rw [h.fl e,Rat.add_zero]
 have k5:=Yt G q b (qe l cw d) (h.sm.mono (by omega)) (sS.mono (by omega)) fS
 have k6:bu Tryz.prog G 46 [nq q b (qe l cw d),nq q b l] (nq q b (BU q l cw d)):=by
   have:=ac6 G q b b (qe l cw d) l (h.sm.mono (by omega)) (sS.mono (by omega)) (h.sl.mono (by omega)) fS h.fl h.n0
   rwa [Bool.or_self] at this
 have sf:bR 1100 (BU q l cw d):=h.div sS
 have ff:Fl b (BU q l cw d):=h.fF fS
 have m1:=Iz G xa xc (hx.1.mono (by omega)) (hx.2.2.mono (by omega))
 have m2:=Iz G xb xc (hx.2.1.mono (by omega)) (hx.2.2.mono (by omega))
 have k7:=Mi G q b (bf xa xc) (BU q l cw d) (h.sm.mono (by omega)) (su.mono (by omega)) (sf.mono (by omega)) ff
 have k8:=Mi G q b (bf xb xc) (BU q l cw d) (h.sm.mono (by omega)) (sv.mono (by omega)) (sf.mono (by omega)) ff
 have k9:=Mh G q b xc _ _ (h.sm.mono (by omega)) (hx.2.2.mono (by omega)) ((qo (q:=q) su.1 sf).mono (by omega)) ((qo (q:=q) su.2 sf).mono (by omega)) (fSc ff) (fSc ff)
 have k10:=Mh G q b xc _ _ (h.sm.mono (by omega)) (hx.2.2.mono (by omega)) ((qo (q:=q) sv.1 sf).mono (by omega)) ((qo (q:=q) sv.2 sf).mono (by omega)) (fSc ff) (fSc ff)
 by_cases o9:BS q (qe l cw d)<=0
 . rw [if_pos o9]
   have e74:decide (BS q (qe l cw d)<=0)=true:=aw o9
   cases cw
   . cases b<;>exact VP.tr dP [hc (Ix G d),aP [5] k0,aP [5] k1,aP [5] k2,hc k5,hb 74 e74] (by kernel_rfl)
   . cases b<;>exact VP.tr dP [hc (Ix G d),aP [5] k0,aP [5] k1,aP [5] k2,aP [5] k3,hc k5,hb 74 e74] (by kernel_rfl)
 . rw [if_neg o9]
   have e74:decide (BS q (qe l cw d)<=0)=false:=ak o9
   cases cw
   . cases b<;>exact VP.tr dP [hc (Ix G d),aP [5] k0,aP [5] k1,aP [5] k2,hc k5,hb 74 e74,aP [5] k6,aP [5] m1,aP [5] k7,aP [5] k9,aP [5] m2,aP [5] k8,aP [5] k10] (by kernel_rfl)
   . cases b<;>exact VP.tr dP [hc (Ix G d),aP [5] k0,aP [5] k1,aP [5] k2,aP [5] k3,hc k5,hb 74 e74,aP [5] k6,aP [5] m1,aP [5] k7,aP [5] k9,aP [5] m2,aP [5] k8,aP [5] k10] (by kernel_rfl)
end
end Go.Proofs.YtndoagbiakehnaaGreat
end

section
set_option maxRecDepth 100000
namespace Go.Proofs.YtndoagbiakehnaaGreat
open Go.VL Go.Proofs Go.Lib
section
variable (G:Nat->Option (List AV))
theorem zEq (q:Rat) (b:Bool) (u v s t:Q2) (hq:Sm 1000 q) (hu:bR 9900 u) (hv:bR 9900 v) (hs:bR 9900 s) (ht:bR 9900 t) (fu:Fl b u) (fv:Fl b v) (fs:Fl b s) (ft:Fl b t):VP Tryz.prog G 19 [VQ q b u v,VQ q b s t] (.bool (decide (BS q (u.1 + -s.1,u.2 + -s.2)=0)&&decide (BS q (v.1 + -t.1,v.2 + -t.2)=0))):=by
 have h1:=yEq G q b b u s hq hu hs fu fs
 have h2:=yEq G q b b v t hq hv ht fv ft
 cases d1:decide (BS q (u.1 + -s.1,u.2 + -s.2)=0)<;>rw [d1] at h1
 . cases b<;>exact VP.tr gJ [hc h1] (by kernel_rfl)
 . cases b<;>exact VP.tr gJ [hc h1,hc h2] (by kernel_rfl)
theorem IW (u:Q2):(u.1 + -u.1,u.2 + -u.2)=((0:Rat),(0:Rat)):=by refine Prod.ext ?_ ?_<;>simp only []<;>grind
theorem ajV (q:Rat) (b:Bool) (u v:Q2) (hq:Sm 1000 q) (hu:bR 9900 u) (hv:bR 9900 v) (fu:Fl b u) (fv:Fl b v):VP Tryz.prog G 19 [VQ q b u v,VQ q b u v] (.bool true):=by
 have h:=zEq G q b u v u v hq hu hv hu hv fu fv fu fv
 rw [IW,IW,IU] at h
 exact h
theorem abi (q:Rat) (b:Bool) (u v:Q2) (hq:0<q.num) (hs:Sm 400 q) (hr:b=true->∀ r:Rat,r*r≠q) (hu:bR 100000 u) (hv:bR 100000 v):VP Tryz.prog G 112 [VQ q b u v] (.bool true):=by
 have h1:=ajP G q b u hq hs hr hu
 have h2:=ajP G q b v hq hs hr hv
 cases b<;>exact VP.tr nR [hc h1,hc h2] (by kernel_rfl)
theorem zSq (q:Rat) (b:Bool) (u v:Q2) (hq:Sm 200 q) (hu:bR 1200 u) (hv:bR 1200 v) (fu:Fl b u) (fv:Fl b v):VP Tryz.prog G 103 [VQ q b u v] (.tup [nq q b (QA q u v), .int .i64 0]):=by
 have fm:∀ {w:Q2},Fl b w->Fl b (eG q w w):=fun {w} h e=>by show w.1*w.2+w.2*w.1=0;rw [h e,Rat.mul_zero,Rat.zero_mul,Rat.add_zero]
 have m1:=UK G q b b u u (hq.mono (by omega)) (hu.mono (by omega)) (hu.mono (by omega)) fu fu
 have m2:=UK G q b b v v (hq.mono (by omega)) (hv.mono (by omega)) (hv.mono (by omega)) fv fv
 have m3:=Ys G q b b (eG q u u) (eG q v v) (hq.mono (by omega)) ((Qx hq hu hu).mono (by omega)) ((Qx hq hv hv).mono (by omega)) (fm fu) (fm fv)
 rw [Bool.or_self] at m1 m2 m3
 have h:VP Tryz.prog G 107 [VQ q b u v,VQ q b u v] (.tup [nq q b (QA q u v), .int .i64 0]):=by
   cases b<;>exact VP.tr pW [hc m1,hc m2,hc m3] (by kernel_rfl)
 cases b<;>exact VP.tr na [hc h] (by kernel_rfl)
theorem ac7 (q:Rat) (b:Bool) (u v c:Q2) (hq:Sm 200 q) (hu:bR 1170 u) (hv:bR 1170 v) (hcc:bR 20 c) (fu:Fl b u) (fv:Fl b v):bu Tryz.prog G 15 [VQ q b u v,V2 c] (nq q b (QA q (wY u c.1) (wY v c.2))):=by
 have h:VP Tryz.prog G 56 [VQ q b u v,V2 c] (.tup [VQ q b (wY u c.1) (wY v c.2), .int .i64 0]):=by
   have:=an4 G q b false u v (c.1,0) (c.2,0) (hq.mono (by omega)) (hu.mono (by omega)) (hv.mono (by omega)) (z2 (hcc.1.mono (by omega)) (by omega)) (z2 (hcc.2.mono (by omega)) (by omega)) fu fv (fun _=>rfl) (fun _=>rfl)
   rw [Bool.or_false] at this
   simp only [Rat.neg_zero] at this
   exact this
 have fo:∀ {w:Q2} {x:Rat},Fl b w->Fl b (wY w x):=fun {w x} h e=>by show w.2+0=0;rw [h e,Rat.add_zero]
 have z0:Sm 20 (0:Rat):=(Sm.zero).mono (by omega)
 have hs:=zSq G q b (wY u c.1) (wY v c.2) hq ⟨(hu.1.add hcc.1.neg).mono (by omega),(hu.2.add z0).mono (by omega)⟩ ⟨(hv.1.add hcc.2.neg).mono (by omega),(hv.2.add z0).mono (by omega)⟩ (fo fu) (fo fv)
 have k1:=Yu G q b (wY u c.1) (wY v c.2)
 have k2:=Pa G q b (QA q (wY u c.1) (wY v c.2))
 have k3:bu Tryz.prog G 40 [VQ q b u v,V2 c] (VQ q b (wY u c.1) (wY v c.2)):=by
   cases b<;>exact bu.tr kp [hc h,aP [1] k1] (by kernel_rfl)
 have k4:bu Tryz.prog G 45 [VQ q b (wY u c.1) (wY v c.2)] (nq q b (QA q (wY u c.1) (wY v c.2))):=by
   cases b<;>exact bu.tr j9 [hc hs,aP [1] k2] (by kernel_rfl)
 cases b<;>exact bu.tr lS [aP [1] k3,aP [1] k4] (by kernel_rfl)
def IX (x:NY):Prop:=VP Tryz.prog G 112 [VQ x.q x.b x.a1 x.a2] (.bool true)/\VP Tryz.prog G 112 [VQ x.q x.b x.b1 x.b2] (.bool true)/\VP Tryz.prog G 112 [V2 x.c] (.bool true)/\VP Tryz.prog G 113 [x.cv] (.bool true)/\VP Tryz.prog G 68 [x.cv,x.cv] (.bool true)
theorem afD (x:NY) (hq:Sm 1000 x.q) (h1:bR 9900 x.a1) (h2:bR 9900 x.a2) (h3:bR 9900 x.b1) (h4:bR 9900 x.b2) (h5:bR 20 x.c) (f1:Fl x.b x.a1) (f2:Fl x.b x.a2) (f3:Fl x.b x.b1) (f4:Fl x.b x.b2):VP Tryz.prog G 68 [x.cv,x.cv] (.bool true):=by
 have e1:=ajV G x.q x.b x.a1 x.a2 hq h1 h2 f1 f2
 have e2:=ajV G x.q x.b x.b1 x.b2 hq h3 h4 f3 f4
 have e3:=XK G x.c x.c (h5.mono (by omega)) (h5.mono (by omega))
 rw [decide_eq_true rfl] at e3
 obtain ⟨nm,wU,q,b,a1,a2,b1,b2,c,cw⟩:=x
 cases b
 . cases wU
   . exact VP.tr dK [hc e1,hc e2] (by kernel_rfl)
   . cases cw<;>exact VP.tr dK [hc e1,hc e2,hc e3] (by kernel_rfl)
 . cases wU
   . exact VP.tr dK [hc e1,hc e2] (by kernel_rfl)
   . cases cw<;>exact VP.tr dK [hc e1,hc e2,hc e3] (by kernel_rfl)
theorem FY {q x y:Rat} {f:Q2} (hx:Sm 20 x) (hy:Sm 41 y) (hf:bR 1100 f):bR 1170 (Bz q x y f):=⟨(hx.add (qo (q:=q) hy hf).1).mono (by omega),(((Sm.zero).mono (by omega):Sm 20 (0:Rat)).add (qo (q:=q) hy hf).2).mono (by omega)⟩
theorem FZ {q x y:Rat} {b:Bool} {f:Q2} (h:Fl b f):Fl b (Bz q x y f):=fun e=>by show 0+(eG q (y,0) f).2=0;rw [fSc h e,Rat.add_zero]
def afE (q:Rat) (b:Bool) (x:CX) (f:Q2):NY:=⟨[],false,q,b,Bz q x.a.1 (-(bf x.b x.a).2) f,Bz q x.a.2 (bf x.b x.a).1 f,Bz q x.b.1 (-(bf x.b x.a).2) f,Bz q x.b.2 (bf x.b x.a).1 f,x.c,x.cw⟩
def afF (q:Rat) (b:Bool) (x:CX) (f:Q2):NY:=⟨[],true,q,b,Bz q x.c.1 (bf x.a x.c).1 f,Bz q x.c.2 (bf x.a x.c).2 f,Bz q x.c.1 (bf x.b x.c).1 f,Bz q x.c.2 (bf x.b x.c).2 f,x.c,x.cw⟩
theorem abj (xa xb xc:Q2) (cw:Bool) (q:Rat) (b:Bool) (l f:Q2) (hx:bR 20 xa/\bR 20 xb/\bR 20 xc) (h:o8 q b l) (hf:bR 1100 f) (ff:Fl b f) (hne:xa≠xb):IX G (afE q b ⟨false,xa,xb,xc,cw⟩ f):=by
 have sd:bR 41 (bf xb xa):=bR.sub hx.2.1 hx.1
 have s1:=FY (q:=q) hx.1.1 sd.2.neg hf
 have s2:=FY (q:=q) hx.1.2 sd.1 hf
 have s3:=FY (q:=q) hx.2.1.1 sd.2.neg hf
 have s4:=FY (q:=q) hx.2.1.2 sd.1 hf
 have g1:Fl b (Bz q xa.1 (-(bf xb xa).2) f):=FZ ff
 have g2:Fl b (Bz q xa.2 (bf xb xa).1 f):=FZ ff
 have g3:Fl b (Bz q xb.1 (-(bf xb xa).2) f):=FZ ff
 have g4:Fl b (Bz q xb.2 (bf xb xa).1 f):=FZ ff
 refine ⟨abi G q b _ _ h.pos (h.sm.mono (by omega)) h.no (s1.mono (by omega)) (s2.mono (by omega)),abi G q b _ _ h.pos (h.sm.mono (by omega)) h.no (s3.mono (by omega)) (s4.mono (by omega)),Iy G xc (hx.2.2.mono (by omega)), ?_,afD G (afE q b ⟨false,xa,xb,xc,cw⟩ f) (h.sm.mono (by omega)) (s1.mono (by omega)) (s2.mono (by omega)) (s3.mono (by omega)) (s4.mono (by omega)) hx.2.2 g1 g2 g3 g4⟩
 have he:=zEq G q b _ _ _ _ (h.sm.mono (by omega)) (s1.mono (by omega)) (s2.mono (by omega)) (s3.mono (by omega)) (s4.mono (by omega)) g1 g2 g3 g4
 rw [O2,O2,Mb,Mb] at he
 have hd:(decide (aZ (xa.1-xb.1)=0)&&decide (aZ (xa.2-xb.2)=0))=false:=by
   rw [Bool.and_eq_false_iff]
   by_cases e1:xa.1=xb.1
   . right
     exact decide_eq_false fun e=>hne (Prod.ext e1 (by have:=yp.1 e;grind))
   . left
     exact decide_eq_false fun e=>e1 (by have:=yp.1 e;grind)
 rw [hd] at he
 cases b<;>exact VP.tr jF [hc he] (by kernel_rfl)
theorem abk (xa xb xc:Q2) (cw:Bool) (q:Rat) (b:Bool) (l f:Q2) (hx:bR 20 xa/\bR 20 xb/\bR 20 xc) (h:o8 q b l) (hf:bR 1100 f) (ff:Fl b f) (hA:nV (bf xa xc) (bf xa xc)=q) (hB:nV (bf xb xc) (bf xb xc)=q) (hf0:f.1≠0) (hn:(∀ r:Rat,r*r≠q)∨f.2=0):IX G (afF q b ⟨true,xa,xb,xc,cw⟩ f):=by
 have su:bR 41 (bf xa xc):=bR.sub hx.1 hx.2.2
 have sv:bR 41 (bf xb xc):=bR.sub hx.2.1 hx.2.2
 have s1:=FY (q:=q) hx.2.2.1 su.1 hf
 have s2:=FY (q:=q) hx.2.2.2 su.2 hf
 have s3:=FY (q:=q) hx.2.2.1 sv.1 hf
 have s4:=FY (q:=q) hx.2.2.2 sv.2 hf
 have g1:Fl b (Bz q xc.1 (bf xa xc).1 f):=FZ ff
 have g2:Fl b (Bz q xc.2 (bf xa xc).2 f):=FZ ff
 have g3:Fl b (Bz q xc.1 (bf xb xc).1 f):=FZ ff
 have g4:Fl b (Bz q xc.2 (bf xb xc).2 f):=FZ ff
 refine ⟨abi G q b _ _ h.pos (h.sm.mono (by omega)) h.no (s1.mono (by omega)) (s2.mono (by omega)),abi G q b _ _ h.pos (h.sm.mono (by omega)) h.no (s3.mono (by omega)) (s4.mono (by omega)),Iy G xc (hx.2.2.mono (by omega)), ?_,afD G (afF q b ⟨true,xa,xb,xc,cw⟩ f) (h.sm.mono (by omega)) (s1.mono (by omega)) (s2.mono (by omega)) (s3.mono (by omega)) (s4.mono (by omega)) hx.2.2 g1 g2 g3 g4⟩
 have k1:=ac7 G q b _ _ xc h.sm s1 s2 hx.2.2 g1 g2
 have k2:=ac7 G q b _ _ xc h.sm s3 s4 hx.2.2 g3 g4
 rw [X9 hA] at k1
 rw [X9 hB] at k2
 have fF:Fl b (q*(f.1*f.1+f.2*f.2*q),q*(f.1*f.2+f.2*f.1)):=fun e=>by show q*(f.1*f.2+f.2*f.1)=0;rw [ff e];grind
 have sF:bR 9900 (q*(f.1*f.1+f.2*f.2*q),q*(f.1*f.2+f.2*f.1)):=⟨(h.sm.mul ((hf.1.mul hf.1).add ((hf.2.mul hf.2).mul h.sm))).mono (by omega),(h.sm.mul ((hf.1.mul hf.2).add (hf.2.mul hf.1))).mono (by omega)⟩
 have k3:=Yt G q b _ (h.sm.mono (by omega)) (sF.mono (by omega)) fF
 rw [afh h.anr hn hf0] at k3
 have k4:=yEq G q b b _ _ (h.sm.mono (by omega)) sF sF fF fF
 rw [IW,IU,decide_eq_true rfl] at k4
 generalize (q*(f.1*f.1+f.2*f.2*q),q*(f.1*f.2+f.2*f.1))=F at *
 cases b<;>exact VP.tr jF [aP [6] k1,aP [6] k2,hc k3,hc k4] (by kernel_rfl)
def Gs:Option NY->AV
 | none => .tup [zC, .int .i64 6]
 | some y => .tup [y.cv, .int .i64 0]
theorem afG (d:Rat) (hd:Sm 20 d) (x:CX) (hx:x.Sm 20) (hv:x.valid=true):∃ o:Option NY,VP Tryz.prog G 64 [x.av,QV d] (Gs o)/\VP Tryz.prog G 65 [x.av,QV d] (Gs o)/\∀ y,o=some y->IX G y:=by
 obtain ⟨wU,xa,xb,xc,cw⟩:=x
 cases wU
 . have hne:xa≠xb:=by
     intro e
     unfold CX.valid at hv
     rw [if_neg Bool.false_ne_true] at hv
     simp [e] at hv
   have sd:bR 41 (bf xb xa):=bR.sub hx.2.1 hx.1
   have sn:bR 41 (-(bf xb xa).2,(bf xb xa).1):=⟨sd.2.neg,sd.1⟩
   have hq:0<nV (-(bf xb xa).2,(bf xb xa).1) (-(bf xb xa).2,(bf xb xa).1):=by
     unfold nV bf
     simp only []
     have n1:=X8 (xb.1-xa.1)
     have n2:=X8 (xb.2-xa.2)
     by_cases e1:xa.1=xb.1
     . have e2:xb.2-xa.2≠0:=fun e=>hne (Prod.ext e1 (by grind))
       have:=sq_pos e2
       grind
     . have e2:xb.1-xa.1≠0:=fun e=>e1 (by grind)
       have:=sq_pos e2
       grind
   obtain ⟨b,l,h⟩:=Ya hq ((Sm.dot sn sn).mono (by omega))
   have sf:bR 1100 (Gr _ d l):=h.div (z2 (hd.mono (by omega)) (by omega))
   have ff:Fl b (Gr _ d l):=h.fF (fun _=>rfl)
   exact ⟨some (afE _ b ⟨false,xa,xb,xc,cw⟩ (Gr _ d l)),aff G xa xb xc cw d _ b l hx hd rfl h,abg G xa xb xc cw d _ b l hx hd rfl h,fun y hy=>by
     cases hy
     exact abj G xa xb xc cw _ b l _ hx h sf ff hne⟩
 . unfold CX.valid at hv
   rw [if_pos rfl,Bool.and_eq_true] at hv
   have h1:=of_decide_eq_true hv.1
   have h2:=of_decide_eq_true hv.2
   simp only [] at h1 h2
   have su:bR 41 (bf xa xc):=bR.sub hx.1 hx.2.2
   have hq:0<nV (bf xa xc) (bf xa xc):=by
     refine Qz.1 ?_
     unfold Kq at h1
     rcases IH (nV (bf xa xc) (bf xa xc)) with h | h | h<;>omega
   obtain ⟨b,l,h⟩:=Ya hq ((Sm.dot su su).mono (by omega))
   have p1:=afg G xa xb xc cw d _ b l hx hd rfl h
   have p2:=abh G xa xb xc cw d _ b l hx hd rfl h
   by_cases hs:BS (nV (bf xa xc) (bf xa xc)) (qe l cw d)<=0
   . rw [if_pos hs] at p1 p2
     exact ⟨none,p1,p2,fun y hy=>by cases hy⟩
   . rw [if_neg hs] at p1 p2
     have s1:Sm 20 (if cw then d else -d):=by cases cw<;>simp only [if_true,Bool.false_eq_true,if_false];exact hd.neg;exact hd
     have z0:Sm 20 (0:Rat):=(Sm.zero).mono (by omega)
     have sS:bR 230 (qe l cw d):=⟨(h.sl.1.add s1).mono (by omega),(h.sl.2.add z0).mono (by omega)⟩
     have fS:Fl b (qe l cw d):=fun e=>by show l.2+0=0;rw [h.fl e,Rat.add_zero]
     obtain ⟨n1,n2⟩:=aaZ h hs
     exact ⟨some (afF _ b ⟨true,xa,xb,xc,cw⟩ (BU _ l cw d)),p1,p2,fun y hy=>by
       cases hy
       exact abk G xa xb xc cw _ b l _ hx h (h.div sS) (h.fF fS) rfl h2.symm n1 n2⟩
end
end Go.Proofs.YtndoagbiakehnaaGreat
end
