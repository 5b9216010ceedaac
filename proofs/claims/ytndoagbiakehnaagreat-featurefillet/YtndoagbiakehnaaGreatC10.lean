/- For the claim of FeatureFillet: parts RO6, RT2, SP2, SP3, SP4, FHas, SR2, SP5, RO7, RT3, SR3, SR4, OA3, OA4, OA5, OA6, OM1, RO8, RO9. -/
import Derived.Test.YtndoagbiakehnaaGreatC08
import Derived.Test.YtndoagbiakehnaaGreatC09
import Derived.Test.YtndoagbiakehnaaGreatProg
import Derived.KernelRfl
import Derived.Test.YtndoagbiakehnaaGreatC04
import Derived.Test.YtndoagbiakehnaaGreatC05
import Derived.Test.YtndoagbiakehnaaGreatC03
set_option linter.unusedSimpArgs false
set_option linter.unusedVariables false
section
set_option maxRecDepth 100000
namespace Go.Proofs.YtndoagbiakehnaaGreat
open Go.VL Go.Proofs Go.Lib
def zR:AV := .agg [.bool false, .nils, .bool false, .nils]
theorem oW:∀ c∈zR.cells,af c:=by intro c hc;simp only [zR,AV.cells,List.mem_cons,List.not_mem_nil,or_false] at hc;rcases hc with rfl | rfl | rfl | rfl<;>first | exact af.bool _ | exact af.nils
section
variable (G:Nat->Option (List AV))
theorem ajp (q:Rat) (hq:0<q.num) (hs:Sm 400 q) (hr:∀ r:Rat,r*r≠q):VP Tryz.prog G 266 [.nils,EV q] (.tup [.sl 4 [zR], .bool false]) :=
 VP.dm hN [hc (Ra G q hq hs hr)] [([16],⟨[zR],4,false⟩)] (.tup [.osl [16] 4 0 1 false, .bool false]) (by kernel_rfl) (fun σ h=>View.tup (ah.cons (iT (h ([16],⟨[zR],4,false⟩) (by simp)) rfl oW) (ah.cons (View.pure (af.bool _)) ah.nil)))
instance:PU (.sl 4 [zR]):=PU.slice (by intro c hc;simp only [flat,List.flatMap_cons,List.flatMap_nil,List.append_nil] at hc;exact oW c hc) (by intro c hc ρ;simp at hc;subst hc;rfl)
theorem aee (q:Rat) (hq:0<q.num) (hs:Sm 400 q) (hr:∀ r:Rat,r*r≠q):VP Tryz.prog G 239 [.nils,EV q] (.tup [.nils, .bool false]):=vt [hc (ajp G q hq hs hr)] (by kernel_rfl)
theorem ajq (p:VL.Id):aw Tryz.prog G 240 [.nils] p [] { val := .osl (3::p) 1 0 0 false,rd:=[],up:=[(3::p,some ⟨[],1,false⟩)] } :=
 aw.tr (p:=p) (up:=[(3::p,⟨[],1,false⟩)]) qU (fun _=>[]) [] [.nils] [] (.osl [3,0] 1 0 0 false) [([3,0],⟨[],1,false⟩)] (by kernel_rfl) rfl rfl rfl rfl (by simp) (by simp)
theorem aef (q:Rat) (hq:0<q.num) (hs:Sm 400 q) (hr:∀ r:Rat,r*r≠q):VP Tryz.prog G 205 [.nils,EV q] (.tup [T1 q,E1 (0,1), .int .i64 0]):=by
 have s1:=hs.mono (k:=100000) (by omega)
 have o8:=GM G q s1
 have h1:az q=1:=by unfold az;exact Int.sign_eq_one_of_pos hq
 rw [h1] at o8
 have hv:ah (ae.of [([35],⟨[EV q],1,false⟩)]) [.osl [35] 1 0 1 false, .int .i64 0] [T1 q, .int .i64 0]:=ah.cons (iT (b:=false) (by simp [ae.of]) rfl (by intro c hc;rcases List.mem_singleton.1 hc with rfl;exact b6 q)) (ah.cons (View.pure (af.int _ _)) ah.nil)
 exact VP.dm hN [hc (tF G q s1),hc (q7),hc o8,hc (aee G q hq hs hr), .rel 240 _ [] _ (fun p _=>ajq G p) (by intro p x hx;simp at hx),hc (rI bL q),bm [([35],⟨[EV q],1,false⟩)] (Y7 G q s1) hv] [([35],⟨[EV q],1,true⟩)] (.tup [.osl [35] 1 0 1 false,E1 (0,1), .int .i64 0]) (by kernel_rfl) (fun σ h=>View.tup (ah.cons (iT (h ([35],⟨[EV q],1,true⟩) (by simp)) rfl (by intro c hc;rcases List.mem_singleton.1 hc with rfl;exact b6 q)) (ah.pure (by intro c hc;simp at hc;rcases hc with rfl | rfl;exact PU.pure;exact af.int _ _))))
theorem Zl (q:Rat) (hq:0<q.num) (hs:Sm 400 q) (hr:∀ r:Rat,r*r≠q):VP Tryz.prog G 151 [NV q] (.tup [N1 q (0,1), .int .i64 0]) :=
 vt [hc (aef G q hq hs hr),hc (vD G q (0,1) (hs.mono (by omega)) ⟨gZ,V4 (NB (by decide +kernel))⟩)] (by kernel_rfl)
theorem Zm (q r:Rat) (hq:0<q.num) (hs:Sm 400 q) (hr:r*r=q) (h0:0<r.num) (Av:Sm 100000 r):VP Tryz.prog G 151 [NV q] (.tup [NV r, .int .i64 0]):=by
 have s1:=hs.mono (k:=100000) (by omega)
 have o8:=GM G q s1
 have h1:az q=1:=by unfold az;exact Int.sign_eq_one_of_pos hq
 rw [h1] at o8
 have Nu:=GM G r Av
 have h2:az r=1:=by unfold az;exact Int.sign_eq_one_of_pos h0
 rw [h2] at Nu
 exact Gv q r (Ch q r (tF G q s1) (q7) o8 (xC q r (z8 q r (Q9 G q r hq hs hr h0)) Nu) (z7)) (z9 r (lR r (qa G r Av)))
end
end Go.Proofs.YtndoagbiakehnaaGreat
end

section
set_option maxRecDepth 100000
namespace Go.Proofs.YtndoagbiakehnaaGreat
open Go.VL Go.Proofs Go.Lib
instance:PU zR:=by unfold zR;infer_instance
section
variable (G:Nat->Option (List AV))
theorem DU (z:Int) (s:Nat) (hz:0<z) (hw:aa z.natAbs<=400) (hs:iq z.natAbs s):VP Tryz.prog G 295 [IV z] (.tup [IV (s:Int), .int .i64 0]):=by
 obtain ⟨b,h1,h2,h3⟩:=Qn (P:=Tryz.prog) (G:=G) ox jh z (by omega) (by omega) (kp (t203 G) z.natAbs (by omega))
 exact Qo ow z s b hz hs h1 (by omega) (VY G z (by omega)) h3 jU gm (fun n hn=>Yz G n z.natAbs (by omega) (by omega)) (fun L hL hsL=>by
   have:=Gz (G:=G) (t203 G) (iS L s) (by rw [cP];omega)
   rw [bZ hsL] at this
   exact this)
theorem KU (z:Int) (s:Nat) (hz:0<z) (hw:aa z.natAbs<=400) (hs:iq z.natAbs s):VP Tryz.prog G 60 [IV (s:Int),IV (s:Int)] (IV ((s*s:Nat):Int))/\VP Tryz.prog G 296 [IV ((s*s:Nat):Int),IV z] (.bool (decide ((s:Int)*s=z))):=by
 have Xk:aa s<=400:=Nat.le_trans (aP (by have:=hs.1;exact Nat.le_trans (Nat.le_mul_self s) this)) hw
 have hss:aa (s*s)<=800:=Nat.le_trans (ly s s) (by omega)
 have h1:=MX G (s:Int) (s:Int) (by rw [Int.natAbs_natCast];omega) (by rw [Int.natAbs_natCast];omega)
 have h2:=MP (G:=G) (s*s) z.natAbs (by omega) (by omega)
 rw [Int.natAbs_of_nonneg (by omega)] at h2
 have e:decide (s*s=z.natAbs)=decide ((s:Int)*s=z):=decide_eq_decide.2 ⟨fun h=>by have:=congrArg (fun x:Nat=>(x:Int)) h;simp only [Int.natCast_mul] at this;omega,fun h=>by rw [<- h,Int.natAbs_mul];rfl⟩
 rw [e] at h2
 exact ⟨by rw [Int.natCast_mul];exact h1,h2⟩
theorem Rb (q r:Rat) (hq:0<q.num) (hs:Sm 400 q) (hr:r*r=q) (h0:0<r.num):VP Tryz.prog G 277 [QV q] (.tup [QV r, .bool true]):=by
 have e1:q.num=r.num*r.num:=by rw [<- hr];exact (Ah r).1
 have e2:q.den=r.den*r.den:=by rw [<- hr];exact (Ah r).2
 have rs:∀ n:Nat,iq (n*n) n:=fun n=>⟨Nat.le_refl _,Nat.mul_lt_mul'' (Nat.lt_succ_self n) (Nat.lt_succ_self n)⟩
 have r1:iq q.num.natAbs r.num.natAbs:=by rw [e1,Int.natAbs_mul];exact rs _
 have r2:iq (q.den:Int).natAbs r.den:=by rw [Int.natAbs_natCast,e2];exact rs _
 have dp:0<(q.den:Int):=by have:=q.den_pos;omega
 have a1:=DU G q.num r.num.natAbs hq hs.1 r1
 have a2:=DU G (q.den:Int) r.den dp (by simpa using hs.2) r2
 obtain ⟨m1,s1⟩:=KU G q.num r.num.natAbs hq hs.1 r1
 obtain ⟨m2,s2⟩:=KU G (q.den:Int) r.den dp (by simpa using hs.2) r2
 have c1:((r.num.natAbs:Int)*(r.num.natAbs:Int)=q.num):=by rw [e1,Int.natAbs_of_nonneg (by omega)]
 have c2:((r.den:Int)*(r.den:Int)=(q.den:Int)):=by rw [e2];simp
 rw [decide_eq_true c1] at s1
 rw [decide_eq_true c2] at s2
 have k:(r.num.natAbs:Int)=r.num:=Int.natAbs_of_nonneg (by omega)
 rw [k] at a1 m1
 exact vt [hb 10 (ag (by omega):decide (q.num<0)=false),hc a1,hc a2,hc m1,hc s1,hc m2,hc s2] (by kernel_rfl)
theorem Rc (q:Rat) (hq:0<q.num) (hs:Sm 400 q) (hr:∀ r:Rat,r*r≠q):VP Tryz.prog G 277 [QV q] (.tup [zR, .bool false]):=by
 obtain ⟨s,h1⟩:=yl q.num.natAbs
 obtain ⟨t,h2⟩:=yl (q.den:Int).natAbs
 have dp:0<(q.den:Int):=by have:=q.den_pos;omega
 have a1:=DU G q.num s hq hs.1 h1
 have a2:=DU G (q.den:Int) t dp (by simpa using hs.2) h2
 obtain ⟨m1,s1⟩:=KU G q.num s hq hs.1 h1
 obtain ⟨m2,s2⟩:=KU G (q.den:Int) t dp (by simpa using hs.2) h2
 have d10:decide (q.num<0)=false:=ag (by omega)
 by_cases c1:((s:Int)*s=q.num)
 . by_cases c2:((t:Int)*t=(q.den:Int))
   . exfalso
     exact hr (((s:Int):Rat)/((t:Int):Rat)) (Q8 c1 c2)
   . rw [decide_eq_true c1] at s1
     rw [decide_eq_false c2] at s2
     exact vt [hb 10 d10,hc a1,hc a2,hc m1,hc s1,hc m2,hc s2] (by kernel_rfl)
 . rw [decide_eq_false c1] at s1
   exact vt [hb 10 d10,hc a1,hc a2,hc m1,hc s1] (by kernel_rfl)
theorem vzR {σ : ae} {i:VL.Id} {b t:Bool} (h : σ i=some ⟨[zR],4,b⟩):View σ (.tup [.osl i 4 0 1 t, .bool false]) (.tup [.sl 4 [zR], .bool false]):=View.tup (ah.cons (iT h rfl oW) (ah.cons (View.pure (af.bool _)) ah.nil))
theorem ajr (q:Rat) (hq:0<q.num) (hs:Sm 400 q) (hr:∀ r:Rat,r*r≠q):VP Tryz.prog G 247 [.nils,EV q] (.tup [.sl 4 [zR], .bool false]) :=
 VP.dm hN [hc (Rc G q hq hs hr)] [([16],⟨[zR],4,false⟩)] (.tup [.osl [16] 4 0 1 false, .bool false]) (by kernel_rfl) (fun σ h=>vzR (h ([16],⟨[zR],4,false⟩) (by simp)))
theorem G4 (q:Rat) (hq:0<q.num) (hs:Sm 400 q) (hr:∀ r:Rat,r*r≠q):VP Tryz.prog G 247 [.sl 1 [],EV q] (.tup [.sl 4 [zR], .bool false]) :=
 VP.dm hN [hc (Rc G q hq hs hr)] [([16],⟨[zR],4,false⟩)] (.tup [.osl [16] 4 0 1 false, .bool false]) (by kernel_rfl) (fun σ h=>vzR (h ([16],⟨[zR],4,false⟩) (by simp)))
theorem ajs (q r:Rat) (hq:0<q.num) (hs:Sm 400 q) (hr:r*r=q) (h0:0<r.num):VP Tryz.prog G 247 [.nils,EV q] (.tup [EV r, .bool true]) :=
 VP.dm hN [hc (Rb G q r hq hs hr h0)] [([16],⟨[QV r],4,false⟩)] (.tup [.osl [16] 4 0 1 false, .bool true]) (by kernel_rfl) (fun σ h=>View.tup (ah.cons (Aw (h ([16],⟨[QV r],4,false⟩) (by simp))) (ah.cons (View.pure (af.bool _)) ah.nil)))
theorem ajt:VP Tryz.prog G 276 [.nils] (.bool true):=vt [hc (r6T G)] (by kernel_rfl)
theorem Zn (x:Rat) (hx:Sm 100000 x):VP Tryz.prog G 246 [.nils,EV x] (.int .i64 (az x)):=vt [hc (r6F G x hx),hc (ajt G),hc (r7S G x hx)] (by kernel_rfl)
theorem aju (q:Rat) (hq:0<q.num) (hs:Sm 400 q) (hr:∀ r:Rat,r*r≠q):VP Tryz.prog G 250 [.nils,EV q] (.tup [.nils, .bool false]):=vt [hc (ajr G q hq hs hr)] (by kernel_rfl)
theorem ajv (q r:Rat) (hq:0<q.num) (hs:Sm 400 q) (hr:r*r=q) (h0:0<r.num) (Av:Sm 100000 r):VP Tryz.prog G 250 [.nils,EV q] (.tup [EV r, .bool true]):=by
 have o8:=Zn G r Av
 rw [show az r=1 from Int.sign_eq_one_of_pos h0] at o8
 exact vt [hc (ajs G q r hq hs hr h0),hc o8] (by kernel_rfl)
theorem ajw (q:Rat) (hq:0<q.num) (hs:Sm 400 q) (hr:∀ r:Rat,r*r≠q):VP Tryz.prog G 216 [.nils,EV q] (.tup [T1 q,E1 (0,1), .int .i64 0]):=by
 have o8:=Zn G q (hs.mono (by omega))
 rw [show az q=1 from Int.sign_eq_one_of_pos hq] at o8
 have hv:ah (ae.of [([24],⟨[EV q],1,false⟩)]) [.osl [24] 1 0 1 false, .int .i64 0] [T1 q, .int .i64 0]:=ah.cons (iT (b:=false) (by simp [ae.of]) rfl (by intro c hc;rcases List.mem_singleton.1 hc with rfl;exact b6 q)) (ah.cons (View.pure (af.int _ _)) ah.nil)
 exact VP.dm hN [hc o8,hc (aju G q hq hs hr),bm [([24],⟨[EV q],1,false⟩)] (Za G q) hv] [([24],⟨[EV q],1,true⟩)] (.tup [.osl [24] 1 0 1 false,E1 (0,1), .int .i64 0]) (by kernel_rfl) (fun σ h=>View.tup (ah.cons (iT (h ([24],⟨[EV q],1,true⟩) (by simp)) rfl (by intro c hc;rcases List.mem_singleton.1 hc with rfl;exact b6 q)) (ah.pure (by intro c hc;simp at hc;rcases hc with rfl | rfl;exact PU.pure;exact af.int _ _))))
theorem ajx (q r:Rat) (hq:0<q.num) (hs:Sm 400 q) (hr:r*r=q) (h0:0<r.num) (Av:Sm 100000 r):VP Tryz.prog G 216 [.nils,EV q] (.tup [.nils,EV r, .int .i64 0]):=by
 have o8:=Zn G q (hs.mono (by omega))
 rw [show az q=1 from Int.sign_eq_one_of_pos hq] at o8
 exact vt [hc o8,hc (ajv G q r hq hs hr h0 Av)] (by kernel_rfl)
theorem aeg:VP Tryz.prog G 214 [.nils] (.bool true):=A5
theorem Zo (q:Rat) (hq:0<q.num) (hs:Sm 400 q) (hr:∀ r:Rat,r*r≠q):VP Tryz.prog G 214 [T1 q] (.bool true):=by
 have o8:=adZ G q (hs.mono (by omega))
 rw [show az q=1 from Int.sign_eq_one_of_pos hq] at o8
 exact vt [hc (xF0 G q (hs.mono (by omega))),hc o8,hc (G4 G q hq hs hr)] (by kernel_rfl)
theorem ajy (q:Rat) (hq:0<q.num) (hs:Sm 400 q) (hr:∀ r:Rat,r*r≠q):VP Tryz.prog G 168 [.nils,EV q] (.tup [T1 q,E1 (0,1), .int .i64 0]):=vt [hc (aeg G),hc (r6F G q (hs.mono (by omega))),hc (ajw G q hq hs hr)] (by kernel_rfl)
theorem ajz (q r:Rat) (hq:0<q.num) (hs:Sm 400 q) (hr:r*r=q) (h0:0<r.num) (Av:Sm 100000 r):VP Tryz.prog G 168 [.nils,EV q] (.tup [.nils,EV r, .int .i64 0]):=vt [hc (aeg G),hc (r6F G q (hs.mono (by omega))),hc (ajx G q r hq hs hr h0 Av)] (by kernel_rfl)
theorem aeh (q:Rat) (v:Q2) (hq:0<q.num) (hs:Sm 400 q) (hr:∀ r:Rat,r*r≠q) (hv:bl 100000 v):VP Tryz.prog G 175 [N1 q v] (.bool true):=vt [hc (xF1 G q v (hs.mono (by omega)) hv),hc (Zo G q hq hs hr)] (by kernel_rfl)
theorem Zp (q:Rat) (hq:0<q.num) (hs:Sm 400 q) (hr:∀ r:Rat,r*r≠q):VP Tryz.prog G 102 [NV q] (.tup [N1 q (0,1), .int .i64 0]):=vt [hc (ajy G q hq hs hr)] (by kernel_rfl)
theorem Zq (q r:Rat) (hq:0<q.num) (hs:Sm 400 q) (hr:r*r=q) (h0:0<r.num) (Av:Sm 100000 r):VP Tryz.prog G 102 [NV q] (.tup [NV r, .int .i64 0]):=vt [hc (ajz G q r hq hs hr h0 Av)] (by kernel_rfl)
end
end Go.Proofs.YtndoagbiakehnaaGreat
end

section
set_option maxRecDepth 100000
namespace Go.Proofs.YtndoagbiakehnaaGreat
open Go.VL Go.Proofs Go.Lib
section
variable (G:Nat->Option (List AV))
def zsq:AV := .sl 4 [QV 0,zR]
theorem Wl (p:VL.Id):aw Tryz.prog G 303 [.nils, .int .i64 2] p [] { val := .osl (18::p) 4 0 0 false,rd:=[],up:=[(18::p,some ⟨[zR,zR],4,false⟩)] } :=
 aw.tr (p:=p) (up:=[(18::p,⟨[zR,zR],4,false⟩)]) fX (fun _=>[]) [] [.nils, .int .i64 2] [] (.osl [18,0] 4 0 0 false) [([18,0],⟨[zR,zR],4,false⟩)] (by kernel_rfl) (by rw [nE.fix]) rfl rfl rfl (by simp) (by simp)
theorem aei (p:VL.Id):aw Tryz.prog G 303 [.nils, .int .i64 4] p [] { val := .osl (18::p) 4 0 0 false,rd:=[],up:=[(18::p,some ⟨[zR,zR,zR,zR],4,false⟩)] } :=
 aw.tr (p:=p) (up:=[(18::p,⟨[zR,zR,zR,zR],4,false⟩)]) fX (fun _=>[]) [] [.nils, .int .i64 4] [] (.osl [18,0] 4 0 0 false) [([18,0],⟨[zR,zR,zR,zR],4,false⟩)] (by kernel_rfl) (by rw [nE.fix]) rfl rfl rfl (by simp) (by simp)
theorem inv0 (x:Rat) (h0:x≠0) (hx:Sm 100000 x):VP Tryz.prog G 207 [.sl 1 [],EV x] (.tup [EV (1/x), .int .i64 0]):=vt [hc (Co G x hx),hc (V7 G x h0 hx)] (by kernel_rfl)
theorem Re (p:VL.Id):aw Tryz.prog G 267 [.int .i64 1] p [] { val := .osl (2::p) 4 0 1 false,rd:=[],up:=[(2::p,some ⟨[QV 0],4,false⟩)] } :=
 aw.tr (p:=p) (up:=[(2::p,⟨[QV 0],4,false⟩)]) jD (fun _=>[]) [hc (jo G 0 (by decide) (by decide))] [.int .i64 1] [] (.osl [2,0] 4 0 1 false) [([2,0],⟨[QV 0],4,false⟩)] (by kernel_rfl) (by rw [nE.fix]) rfl rfl (by simp only [aU,bh,bM,aT,bn,PU.fixed];rfl) (by simp) (by simp)
theorem KV (x:Rat) (hx:Sm 100000 x):VP Tryz.prog G 258 [.sl 1 [],QV x] (EV x) :=
 VP.dm hN [hc (adW G),hc (tG G x hx), .rel 267 _ [] _ (fun p _=>Re G p) (by intro p x hx;simp at hx)] [([2,13],⟨[QV x],4,false⟩)] (.osl [2,13] 4 0 1 false) (by kernel_rfl) (fun σ h=>Aw (h ([2,13],⟨[QV x],4,false⟩) (by simp)))
theorem aej:VP Tryz.prog G 234 [.sl 1 []] (.bool true):=vt [hc (jo G 0 (by decide) (by decide)),hc (KV G 0 gZ),hc (Co G 0 gZ)] (by kernel_rfl)
theorem aek (x:Rat) (hx:Sm 100000 x):VP Tryz.prog G 146 [.sl 1 [],EV x] (.int .i64 (az x)):=by
 have hg:VP Tryz.prog G 199 [.sl 1 [], .sl 1 [EV x]] (.bool true):=vt [hc (Co G x hx),hc (aej G)] (by kernel_rfl)
 have hw:ah (ae.of [([3],⟨[EV x],1,false⟩)]) [.sl 1 [], .osl [3] 1 0 1 false] [.sl 1 [], .sl 1 [EV x]]:=ah.cons (View.pure PU.pure) (ah.cons (iT (b:=false) (by simp [ae.of]) rfl (by intro c hc;rcases List.mem_singleton.1 hc with rfl;exact PU.pure)) ah.nil)
 exact vt [bm [([3],⟨[EV x],1,false⟩)] hg hw,hc (Cp G x hx)] (by kernel_rfl)
theorem Rf (q:Rat) (hq:0<q.num) (hs:Sm 400 q) (hr:∀ r:Rat,r*r≠q):VP Tryz.prog G 266 [.sl 1 [],EV q] (.tup [.sl 4 [zR], .bool false]) :=
 VP.dm hN [hc (Ra G q hq hs hr)] [([16],⟨[zR],4,false⟩)] (.tup [.osl [16] 4 0 1 false, .bool false]) (by kernel_rfl) (fun σ h=>View.tup (ah.cons (iT (h ([16],⟨[zR],4,false⟩) (by simp)) rfl oW) (ah.cons (View.pure (af.bool _)) ah.nil)))
theorem ael (q r:Rat) (hq:0<q.num) (hs:Sm 400 q) (hr:r*r=q) (h0:0<r.num):VP Tryz.prog G 266 [.sl 1 [],EV q] (.tup [EV r, .bool true]) :=
 VP.dm hN [hc (Q9 G q r hq hs hr h0)] [([16],⟨[QV r],4,false⟩)] (.tup [.osl [16] 4 0 1 false, .bool true]) (by kernel_rfl) (fun σ h=>View.tup (ah.cons (Aw (h ([16],⟨[QV r],4,false⟩) (by simp))) (ah.cons (View.pure (af.bool _)) ah.nil)))
theorem Wm (a b:Rat):VP Tryz.prog G 288 [.sl 1 [EV a,EV b]] (E1 (a,b)) :=
 VP.dm hN [.rel 303 _ [] _ (fun p _=>Wl G p) (by intro p x hx;simp at hx)] [([18,33],⟨[QV a,QV b],4,false⟩)] (.osl [18,33] 4 0 2 false) (by kernel_rfl) (fun σ h=>yj (h ([18,33],⟨[QV a,QV b],4,false⟩) (by simp)))
theorem aem:VP Tryz.prog G 288 [.sl 1 [EV 0, .sl 4 [zR]]] zsq :=
 VP.dm hN [.rel 303 _ [] _ (fun p _=>Wl G p) (by intro p x hx;simp at hx)] [([18,33],⟨[QV 0,zR],4,false⟩)] (.osl [18,33] 4 0 2 false) (by kernel_rfl) (fun σ h=>kr (h ([18,33],⟨[QV 0,zR],4,false⟩) (by simp)) rfl rfl (gU 0) oW)
theorem Wn (u v:Q2):VP Tryz.prog G 288 [.sl 1 [E1 u,E1 v]] (E2 (u,v)) :=
 VP.dm hN [.rel 303 _ [] _ (fun p _=>aei G p) (by intro p x hx;simp at hx)] [([18,33],j4 (u,v))] (.osl [18,33] 4 0 4 false) (by kernel_rfl) (fun σ h=>xG (h ([18,33],j4 (u,v)) (by simp)))
theorem ajA (p:Rat):VP Tryz.prog G 240 [T1 p] (T1 p):=VP.dm hN [hc (rI bL p)] [([3],⟨[EV p],1,false⟩)] (.osl [3] 1 0 1 false) (by kernel_rfl) (fun σ h=>iT (h ([3],⟨[EV p],1,false⟩) (by simp)) rfl (by intro c hc;rcases List.mem_singleton.1 hc with rfl;exact b6 p))
theorem tL (x:Rat) (hx:Sm 100000 x):VP Tryz.prog G 259 [EV x] (.bool (decide (x=0))):=by
 have h:VP Tryz.prog G 262 [EV x, .fn (.func 283) [] []] (.bool (!decide (x=0))):=by
   have hz:=z1 G x hx
   cases he:decide (x=0)<;>rw [he] at hz
   . have hi:VP Tryz.prog G 284 [EV x, .fn (.func 283) [] []] (.int .i64 0):=vt [hc hz] (by kernel_rfl)
     exact vt [hc hi] (by kernel_rfl)
   . have hi:VP Tryz.prog G 284 [EV x, .fn (.func 283) [] []] (.int .i64 (-1)):=vt [hc hz] (by kernel_rfl)
     exact vt [hc hi] (by kernel_rfl)
 exact vt [hc h,hb 5 (Bool.not_not (decide (x=0)))] (by kernel_rfl)
theorem ym {x:Rat}:0<x.num↔0<x:=by
 have h1:=Rat.num_nonneg (q:=x)
 have h2:=Rat.num_eq_zero (q:=x)
 constructor
 . intro h
   have a:=h1.1 (by omega)
   have b:x≠0:=fun e=>by have:=h2.2 e;omega
   grind
 . intro h
   have a:=h1.2 (by grind)
   have b:x.num≠0:=fun e=>by have:=h2.1 e;grind
   omega
theorem rT {a b:Rat} (ha:0<a.num) (hb:0<b.num):0<(a/b).num:=by
 rw [Rat.div_def]
 exact ym.2 (Rat.mul_pos (ym.1 ha) (Rat.inv_pos.2 (ym.1 hb)))
theorem dz:Sm 1 (1:Rat):=⟨oD,oD⟩
instance:PU zsq:=PU.slice (by intro c hc;simp only [flat,List.flatMap_cons,List.flatMap_nil,List.append_nil,List.mem_append] at hc;rcases hc with hc | hc;exact gU _ c hc;exact oW c hc) (by intro c hc ρ;simp at hc;rcases hc with rfl | rfl;exact PU.fix ρ;rfl)
instance {x:Rat}:PU (.sl 4 [QV x]):=(inferInstance:PU (EV x))
instance {v:Q2}:PU (.sl 4 [QV v.1,QV v.2]):=(inferInstance:PU (E1 v))
instance {x y:Rat}:PU (.sl 4 [QV x,QV y]):=(inferInstance:PU (E1 (x,y)))
theorem Rg {i:VL.Id} {a b:List AV} {m n:Nat} [PU (.sl m a)] [PU (.sl n b)]:ah (ae.of [(i,⟨[.sl m a, .sl n b],1,false⟩)]) [.osl i 1 0 2 false] [.sl 1 [.sl m a, .sl n b]]:=ah.cons (kr (b:=false) (by simp [ae.of]) rfl rfl (by intro c hc;rcases List.mem_singleton.1 hc with rfl;exact PU.pure) (by intro c hc;rcases List.mem_singleton.1 hc with rfl;exact PU.pure)) ah.nil
theorem xW {a b:Rat}:a*(1/b)=a/b:=by rw [Rat.div_def,Rat.div_def,Rat.one_mul]
theorem Zr (p x:Rat) (hp:0<p.num) (hx:0<x.num) (sp:Sm 190 p) (sx:Sm 190 x) (h1:∀ r:Rat,r*r≠x) (h2:∀ r:Rat,r*r≠x/p):VP Tryz.prog G 266 [T1 p,E1 (x,0)] (.tup [zsq, .bool false]):=by
 have p0:p≠0:=fun h=>by rw [h] at hp;exact absurd hp (by decide)
 have hz:=tL G 0 gZ
 have sd:Sm 381 (x*(1/p)):=by rw [xW];exact (sx.div sp (by omega)).mono (by omega)
 have hn:0<(x*(1/p)).num:=by rw [xW];exact rT hx hp
 exact vt [hc hz,hc (Rf G x hx (sx.mono (by omega)) h1),hc (inv0 G p p0 (sp.mono (by omega))),hc (GV G x (1/p) (sx.mono (by omega)) ((dz.div sp (by omega)).mono (by omega))),hc (Rf G _ hn (sd.mono (by omega)) (by rw [xW];exact h2)),hc (jo G 0 (by decide) (by decide)),hc (KV G 0 gZ),bm [([66],⟨[EV 0, .sl 4 [zR]],1,false⟩)] (aem G) Rg] (by kernel_rfl)
theorem aen (p x w:Rat) (hp:0<p.num) (hx:0<x.num) (hw:0<w.num) (sp:Sm 190 p) (sx:Sm 190 x) (h1:∀ r:Rat,r*r≠x) (h2:w*w=x/p):VP Tryz.prog G 266 [T1 p,E1 (x,0)] (.tup [E1 (0,w), .bool true]):=by
 have p0:p≠0:=fun h=>by rw [h] at hp;exact absurd hp (by decide)
 have hz:=tL G 0 gZ
 have sd:Sm 381 (x*(1/p)):=by rw [xW];exact (sx.div sp (by omega)).mono (by omega)
 have hn:0<(x*(1/p)).num:=by rw [xW];exact rT hx hp
 exact vt [hc hz,hc (Rf G x hx (sx.mono (by omega)) h1),hc (inv0 G p p0 (sp.mono (by omega))),hc (GV G x (1/p) (sx.mono (by omega)) ((dz.div sp (by omega)).mono (by omega))),hc (ael G _ w hn (sd.mono (by omega)) (by rw [xW];exact h2) hw),hc (jo G 0 (by decide) (by decide)),hc (KV G 0 gZ),bm [([66],⟨[EV 0,EV w],1,false⟩)] (Wm G 0 w) Rg] (by kernel_rfl)
theorem ajB (p x s:Rat) (hx:0<x.num) (hw:0<s.num) (sx:Sm 190 x) (h2:s*s=x):VP Tryz.prog G 266 [T1 p,E1 (x,0)] (.tup [E1 (s,0), .bool true]):=by
 have hz:=tL G 0 gZ
 exact vt [hc hz,hc (ael G x s hx (sx.mono (by omega)) h2 hw),hc (jo G 0 (by decide) (by decide)),hc (KV G 0 gZ),bm [([45],⟨[EV s,EV 0],1,false⟩)] (Wm G s 0) Rg] (by kernel_rfl)
theorem pU {p x:Rat} (hx:0<x.num):gh p (x,0)=1:=by unfold gh;rw [if_pos (.inl (by rfl))];unfold az;exact Int.sign_eq_one_of_pos hx
theorem DV {p w:Rat} (hw:0<w.num):gh p (0,w)=1:=by
 have e:az w=1:=by unfold az;exact Int.sign_eq_one_of_pos hw
 have z:az (0:Rat)=0:=rfl
 unfold gh;rw [e,z,if_neg (by decide),if_pos rfl]
theorem iV {x:Rat} (hx:0<x.num):az x=1:=by unfold az;exact Int.sign_eq_one_of_pos hx
theorem aeo (p x:Rat) (v:Q2) (hp:0<p.num) (sp:Sm 190 p) (sv:bl 1000 v) (e:gh p v=1) (h:VP Tryz.prog G 266 [T1 p,E1 (x,0)] (.tup [E1 v, .bool true])):VP Tryz.prog G 239 [T1 p,E1 (x,0)] (.tup [E1 v, .bool true]):=by
 have hs:=Ag G p v (sp.mono (by omega)) (sv.mono (by omega)) (iV hp)
 rw [e] at hs
 exact vt [hc h,hc hs] (by kernel_rfl)
theorem aep (p x:Rat) (h:VP Tryz.prog G 266 [T1 p,E1 (x,0)] (.tup [zsq, .bool false])):VP Tryz.prog G 239 [T1 p,E1 (x,0)] (.tup [.nils, .bool false]):=vt [hc h] (by kernel_rfl)
theorem aeq (p:Rat) (hp:0<p.num) (sp:Sm 190 p) (h1:∀ r:Rat,r*r≠p):VP Tryz.prog G 238 [T1 p] (.bool true):=by
 have hs:=aek G p (sp.mono (by omega))
 rw [iV hp] at hs
 exact vt [hc (Co G p (sp.mono (by omega))),hc hs,hc (Rf G p hp (sp.mono (by omega)) h1)] (by kernel_rfl)
theorem ajC (p q:Rat) (hp:0<p.num) (hq:0<q.num) (sp:Sm 190 p) (sq:Sm 190 q) (h1:∀ r:Rat,r*r≠p) (h2:∀ r:Rat,r*r≠q) (h3:∀ r:Rat,r*r≠q/p):VP Tryz.prog G 238 [T2 p q] (.bool true):=by
 have hs:=aek G p (sp.mono (by omega))
 rw [iV hp] at hs
 have ht:=Ag G p (q,0) (sp.mono (by omega)) ⟨sq.mono (by omega),Sm.zero.mono (by omega)⟩ (iV hp)
 rw [pU hq] at ht
 exact vt [hc (Co G p (sp.mono (by omega))),hc hs,hc (Rf G p hp (sp.mono (by omega)) h1),hc (tI G p (q,0) (sp.mono (by omega)) ⟨sq.mono (by omega),gZ⟩),hc ht,hc (Zr G p q hp hq sp sq h2 h3)] (by kernel_rfl)
theorem aer (x:Rat) (p:VL.Id):aw Tryz.prog G 240 [T1 x] p [] { val := .osl (3::p) 1 0 1 false,rd:=[],up:=[(3::p,some ⟨[EV x],1,false⟩)] } :=
 aw.tr (p:=p) (up:=[(3::p,⟨[EV x],1,false⟩)]) qU (fun _=>[]) [hc (rI bL x)] [T1 x] [] (.osl [3,0] 1 0 1 false) [([3,0],⟨[EV x],1,false⟩)] (by kernel_rfl) (by rw [nE.fix]) rfl rfl (by simp only [aU,bh,bM,aT,bn,PU.fixed];rfl) (by simp) (by simp)
theorem vT2 {σ : ae} {i:VL.Id} {p q:Rat} {b t:Bool} (h : σ i=some ⟨[EV p,E1 (q,0)],1,b⟩):View σ (.osl i 1 0 2 t) (T2 p q):=kr h rfl rfl (by intro c hc;rcases List.mem_singleton.1 hc with rfl;exact PU.pure) (by intro c hc;rcases List.mem_singleton.1 hc with rfl;exact PU.pure)
theorem ajD (p q:Rat):VP Tryz.prog G 240 [T2 p q] (T2 p q):=VP.dm hN [hc (rI bL p),hc (Y6 G (q,0))] [([3],⟨[EV p,E1 (q,0)],1,false⟩)] (.osl [3] 1 0 2 false) (by kernel_rfl) (fun σ h=>vT2 (h ([3],⟨[EV p,E1 (q,0)],1,false⟩) (by simp)))
theorem aes (p x:Rat) (v:Q2) (hp:0<p.num) (hx:0<x.num) (sp:Sm 190 p) (sx:Sm 190 x) (sv:bl 1000 v) (h1:∀ r:Rat,r*r≠p) (e:gh p v=1) (h:VP Tryz.prog G 266 [T1 p,E1 (x,0)] (.tup [E1 v, .bool true])):VP Tryz.prog G 205 [T1 p,E1 (x,0)] (.tup [T1 p,E1 v, .int .i64 0]):=by
 have ht:=Ag G p (x,0) (sp.mono (by omega)) ⟨sx.mono (by omega),Sm.zero.mono (by omega)⟩ (iV hp)
 rw [pU hx] at ht
 exact vt [hc (tI G p (x,0) (sp.mono (by omega)) ⟨sx.mono (by omega),gZ⟩),hc (aeq G p hp sp h1),hc ht,hc (aeo G p x v hp sp sv e h),hc (ajA G p)] (by kernel_rfl)
theorem Wo (p q:Rat) (hp:0<p.num) (hq:0<q.num) (sp:Sm 190 p) (sq:Sm 190 q) (h1:∀ r:Rat,r*r≠p) (h2:∀ r:Rat,r*r≠q) (h3:∀ r:Rat,r*r≠q/p):VP Tryz.prog G 205 [T1 p,E1 (q,0)] (.tup [T2 p q,E2 ((0,0),(1,0)), .int .i64 0]):=by
 have ht:=Ag G p (q,0) (sp.mono (by omega)) ⟨sq.mono (by omega),Sm.zero.mono (by omega)⟩ (iV hp)
 rw [pU hq] at ht
 have hv:ah (ae.of [([35],⟨[EV p,E1 (q,0)],1,false⟩)]) [.osl [35] 1 0 2 false, .int .i64 1] [T2 p q, .int .i64 1]:=ah.cons (vT2 (b:=false) (by simp [ae.of])) (ah.cons (View.pure (af.int _ _)) ah.nil)
 exact VP.dm hN [hc (tI G p (q,0) (sp.mono (by omega)) ⟨sq.mono (by omega),gZ⟩),hc (aeq G p hp sp h1),hc ht,hc (aep G p q (Zr G p q hp hq sp sq h2 h3)), .rel 240 _ [] _ (fun r _=>aer G p r) (by intro p x hx;simp at hx),hc (Y6 G (q,0)),bm [([35],⟨[EV p,E1 (q,0)],1,false⟩)] (Zd G p q (sp.mono (by omega)) (sq.mono (by omega))) hv] [([35],⟨[EV p,E1 (q,0)],1,true⟩)] (.tup [.osl [35] 1 0 2 false,E2 ((0,0),(1,0)), .int .i64 0]) (by kernel_rfl) (fun σ h=>View.tup (ah.cons (vT2 (h ([35],⟨[EV p,E1 (q,0)],1,true⟩) (by simp))) (ah.pure (by intro c hc;simp at hc;rcases hc with rfl | rfl;exact PU.pure;exact af.int _ _))))
theorem ajE (p q x:Rat) (v:Q2) (sp:Sm 190 p) (h:VP Tryz.prog G 266 [T1 p,E1 (x,0)] (.tup [E1 v, .bool true])):VP Tryz.prog G 266 [T2 p q,E2 ((x,0),(0,0))] (.tup [E2 (v,(0,0)), .bool true]):=by
 have hz:=Af G (0,0) ⟨gZ,gZ⟩
 rw [decide_eq_true rfl] at hz
 exact vt [hc hz,hc h,hc (jo G 0 (by decide) (by decide)),hc (oV G p 0 (sp.mono (by omega)) gZ),bm [([45],⟨[E1 v,E1 (0,0)],1,false⟩)] (Wn G v (0,0)) Rg] (by kernel_rfl)
theorem Wp {p q:Rat} (h:q≠0):mO p (q,0)=(1/q,0):=by
 unfold mO cj
 refine Prod.ext ?_ ?_<;>simp only []<;>grind
theorem Wq {p q:Rat} (h:q≠0):aR p (q,0) (1/q,0)=(1,0):=by
 unfold aR
 refine Prod.ext ?_ ?_<;>simp only []<;>grind
theorem ajF (p q:Rat) (hp:0<p.num) (hq:0<q.num) (sp:Sm 190 p) (sq:Sm 190 q) (h2:∀ r:Rat,r*r≠q) (h3:∀ r:Rat,r*r≠q/p):VP Tryz.prog G 266 [T2 p q,E2 ((q,0),(0,0))] (.tup [E2 ((0,0),(1,0)), .bool true]):=by
 have q0:q≠0:=fun h=>by rw [h] at hq;exact absurd hq (by decide)
 have hz:=Af G (0,0) ⟨gZ,gZ⟩
 rw [decide_eq_true rfl] at hz
 have n0:cj p (q,0)≠0:=by
   unfold cj;simp only [];intro h
   have:q*q=0:=by grind
   exact absurd this (by grind)
 have hi:=KN G p (q,0) n0 (sp.mono (by omega)) ⟨sq.mono (by omega),Sm.zero.mono (by omega)⟩
 rw [Wp q0] at hi
 have hm:=vA G p (q,0) (1/q,0) (sp.mono (by omega)) ⟨sq.mono (by omega),Sm.zero.mono (by omega)⟩ ⟨(dz.div sq (by omega)).mono (by omega),Sm.zero.mono (by omega)⟩
 rw [Wq q0] at hm
 exact vt [hc hz,hc (Zr G p q hp hq sp sq h2 h3),hc hi,hc hm,hc (ajB G p 1 1 (by decide) (by decide) (dz.mono (by omega)) (by grind)),hc (jo G 0 (by decide) (by decide)),hc (oV G p 0 (sp.mono (by omega)) gZ),bm [([66],⟨[E1 (0,0),E1 (1,0)],1,false⟩)] (Wn G (0,0) (1,0)) Rg] (by kernel_rfl)
theorem Ws (p q x:Rat) (w:Q4) (hp:0<p.num) (hq:0<q.num) (hx:0<x.num) (sp:Sm 190 p) (sq:Sm 190 q) (sx:Sm 190 x) (sw:cC 800 w) (h1:∀ r:Rat,r*r≠p) (h2:∀ r:Rat,r*r≠q) (h3:∀ r:Rat,r*r≠q/p) (e:xV p q w=1) (h:VP Tryz.prog G 266 [T2 p q,E2 ((x,0),(0,0))] (.tup [E2 w, .bool true])):VP Tryz.prog G 205 [T2 p q,E2 ((x,0),(0,0))] (.tup [T2 p q,E2 w, .int .i64 0]):=by
 have z:∀ k,1<=k->Sm k (0:Rat):=fun k hk=>Sm.zero.mono hk
 have ht:=IL G p q ((x,0),(0,0)) (sp.mono (by omega)) (sq.mono (by omega)) ⟨⟨sx.mono (by omega),z _ (by omega)⟩,⟨z _ (by omega),z _ (by omega)⟩⟩ (iV hp) (iV hq)
 have e0:xV p q ((x,0),(0,0))=1:=by unfold xV;rw [if_pos (.inl (by rfl))];exact pU hx
 rw [e0] at ht
 have hs:=IL G p q w (sp.mono (by omega)) (sq.mono (by omega)) sw (iV hp) (iV hq)
 rw [e] at hs
 have hp:VP Tryz.prog G 239 [T2 p q,E2 ((x,0),(0,0))] (.tup [E2 w, .bool true]):=vt [hc h,hc hs] (by kernel_rfl)
 exact vt [hc (DN G p q ((x,0),(0,0)) (sp.mono (by omega)) (sq.mono (by omega)) ⟨⟨sx.mono (by omega),gZ⟩,⟨gZ,gZ⟩⟩),hc (ajC G p q ‹_› hq sp sq h1 h2 h3),hc ht,hc hp,hc (ajD G p q)] (by kernel_rfl)
end
end Go.Proofs.YtndoagbiakehnaaGreat
end

section
set_option maxRecDepth 100000
namespace Go.Proofs.YtndoagbiakehnaaGreat
open Go.VL Go.Proofs Go.Lib
def N2 (p q:Rat) (w:Q4):AV := .agg [T2 p q,E2 w]
instance {p q:Rat} {w:Q4}:PU (N2 p q w):=by unfold N2;infer_instance
theorem aN (p q:Rat) (w:Q4):∀ c∈(N2 p q w).cells,af c:=by intro c hc;simp only [N2,AV.cells,List.mem_cons,List.not_mem_nil,or_false] at hc;rcases hc with rfl | rfl<;>exact PU.pure
def rU (w:Q4):Q4:=((w.1.1,w.2.1),(w.1.2,w.2.2))
abbrev rA:Q4:=((0,1),(0,0))
abbrev rB:Q4:=((0,0),(1,0))
structure jB (p q:Rat):Prop where
 p0:0<p.num
 q0:0<q.num
 sp:Sm 190 p
 sq:Sm 190 q
 np:∀ r:Rat,r*r≠p
 nq:∀ r:Rat,r*r≠q
 nd:∀ r:Rat,r*r≠q/p
theorem Ax {p:Rat} (h:0<p.num):p≠0:=fun e=>by rw [e] at h;exact absurd h (by decide)
theorem jB.sym {p q:Rat} (h:jB p q):jB q p:=⟨h.q0,h.p0,h.sq,h.sp,h.nq,h.np,fun r e=>by
 have a:=Ax h.p0
 have b:=Ax h.q0
 have r0 : r ≠ 0 := by rintro rfl;rw [Rat.div_def] at e;have:q⁻¹ ≠ 0:=by grind
                       grind
 refine h.nd (1/r) ?_
 rw [Rat.div_def] at e ⊢
 grind⟩
theorem jB.ne {p q:Rat} (h:jB p q):p≠q:=fun e=>h.nd 1 (by rw [e,Rat.div_def,Rat.mul_inv_cancel _ (Ax h.q0),Rat.one_mul])
structure sQ (p q w:Rat):Prop where
 p0:0<p.num
 q0:0<q.num
 w0:0<w.num
 sp:Sm 190 p
 sq:Sm 190 q
 np:∀ r:Rat,r*r≠p
 nq:∀ r:Rat,r*r≠q
 e:w*w=q/p
 sw:Sm 400 w
section
variable (G:Nat->Option (List AV))
theorem Zs (v:Q2) (hv:bl 100000 v):VP Tryz.prog G 192 [E1 v,E1 v] (.bool true):=by
 have h1:=rR v.1 v.1 (Ub G v.1 v.1 hv.1 hv.1)
 have h2:=rR v.2 v.2 (Ub G v.2 v.2 hv.2 hv.2)
 rw [decide_eq_true rfl] at h1 h2
 have h:VP Tryz.prog G 225 [E1 v,E1 v, .fn (.func 226) [] []] (.bool true):=vt [hc h1,hc h2] (by kernel_rfl)
 exact vt [hc h] (by kernel_rfl)
theorem IP (a b:Rat) (ha:Sm 100000 a) (hb:Sm 100000 b) (h:a≠b):VP Tryz.prog G 192 [EV a,EV b] (.bool false):=by
 have hs:=QQ G a b ha hb
 rw [decide_eq_false h] at hs
 exact hs
theorem Rh (a:Rat) (ha:Sm 100000 a):VP Tryz.prog G 192 [EV a,EV a] (.bool true):=by
 have hs:=QQ G a a ha ha
 rw [decide_eq_true rfl] at hs
 exact hs
theorem G5 (p q:Rat) (hp:Sm 100000 p) (hq:Sm 100000 q) (h:p≠q):VP Tryz.prog G 191 [T1 p,T1 q] (.bool false):=by
 have h:VP Tryz.prog G 224 [T1 p,T1 q, .fn (.func 192) [] []] (.bool false):=vt [hc (IP G p q hp hq h)] (by kernel_rfl)
 exact vt [hc h] (by kernel_rfl)
theorem G6 (p q:Rat):VP Tryz.prog G 191 [T2 p q, .nils] (.bool true):=by
 have h:VP Tryz.prog G 224 [.sl 1 [], .nils, .fn (.func 192) [] []] (.bool true):=vt [] (by kernel_rfl)
 exact vt [hc h] (by kernel_rfl)
theorem Ri (p q:Rat):VP Tryz.prog G 191 [.nils,T2 p q] (.bool false):=vt [] (by kernel_rfl)
theorem Zt (x p q:Rat):VP Tryz.prog G 191 [T1 x,T2 p q] (.bool false):=vt [] (by kernel_rfl)
theorem Ct (p q:Rat) (hp:Sm 100000 p):VP Tryz.prog G 191 [T2 p q,T1 p] (.bool true):=by
 have h:VP Tryz.prog G 224 [T1 p,T1 p, .fn (.func 192) [] []] (.bool true):=vt [hc (Rh G p hp)] (by kernel_rfl)
 exact vt [hc h] (by kernel_rfl)
theorem KW (p q x:Rat) (hp:Sm 100000 p) (hx:Sm 100000 x) (h:p≠x):VP Tryz.prog G 191 [T2 p q,T1 x] (.bool false):=by
 have h:VP Tryz.prog G 224 [T1 p,T1 x, .fn (.func 192) [] []] (.bool false):=vt [hc (IP G p x hp hx h)] (by kernel_rfl)
 exact vt [hc h] (by kernel_rfl)
theorem xH (p q:Rat) (hp:Sm 100000 p) (hq:Sm 100000 q):VP Tryz.prog G 191 [T2 p q,T2 p q] (.bool true):=by
 have h:VP Tryz.prog G 224 [T2 p q,T2 p q, .fn (.func 192) [] []] (.bool true):=vt [hc (Rh G p hp),hc (Zs G (q,0) ⟨hq,gZ⟩)] (by kernel_rfl)
 exact vt [hc h] (by kernel_rfl)
theorem aet (p q r s:Rat) (hp:Sm 100000 p) (hr:Sm 100000 r) (h:p≠r):VP Tryz.prog G 191 [T2 p q,T2 r s] (.bool false):=by
 have h:VP Tryz.prog G 224 [T2 p q,T2 r s, .fn (.func 192) [] []] (.bool false):=vt [hc (IP G p r hp hr h)] (by kernel_rfl)
 exact vt [hc h] (by kernel_rfl)
theorem ajG (w:Q4):VP Tryz.prog G 231 [E2 w] (E2 w):=VP.dm hN [] [([5],j4 w)] (.osl [5] 4 0 4 false) (by kernel_rfl) (fun σ h=>xG (h ([5],j4 w) (by simp)))
theorem aeu (v:Q2) (p:VL.Id):aw Tryz.prog G 231 [E1 v] p [] { val := .osl (5::p) 4 0 2 false,rd:=[],up:=[(5::p,some (vE v))] } :=
 aw.tr (p:=p) (up:=[(5::p,vE v)]) bL (fun _=>[]) [] [E1 v] [] (.osl [5,0] 4 0 2 false) [([5,0],vE v)] (by kernel_rfl) (by rw [nE.fix]) rfl rfl (by rw [rb];rfl) (by simp) (by simp)
theorem sS (p q:Rat) (w:Q4):VP Tryz.prog G 197 [T2 p q,E2 w] (E2 w):=vt [hc (ajG G w)] (by kernel_rfl)
theorem KX (p q:Rat) (v:Q2):VP Tryz.prog G 197 [T2 p q,E1 v] (E2 (v,(0,0))):=VP.dm hN [.rel 231 _ [] _ (fun p _=>aeu G v p) (by intro p x hx;simp at hx),hc (jo G 0 (by decide) (by decide)),hc (jo G 0 (by decide) (by decide))] [([24],j4 (v,(0,0)))] (.osl [24] 4 0 4 false) (by kernel_rfl) (fun σ h=>xG (h ([24],j4 (v,(0,0))) (by simp)))
theorem Wt (p q x:Rat):VP Tryz.prog G 197 [T2 p q,EV x] (E2 ((x,0),(0,0))):=VP.dm hN [.rel 231 _ [] _ (fun p _=>V8 G x p) (by intro p x hx;simp at hx),hc (jo G 0 (by decide) (by decide)),hc (jo G 0 (by decide) (by decide)),hc (jo G 0 (by decide) (by decide))] [([35],j4 ((x,0),(0,0)))] (.osl [35] 4 0 4 false) (by kernel_rfl) (fun σ h=>xG (h ([35],j4 ((x,0),(0,0))) (by simp)))
theorem ajH (w:Q4) (hw:cC 100000 w):VP Tryz.prog G 201 [E2 w] (E2 w):=VP.dm hN [hc (qa G w.1.1 hw.1.1),hc (qa G w.1.2 hw.1.2),hc (qa G w.2.1 hw.2.1),hc (qa G w.2.2 hw.2.2)] [([3],j4 w)] (.osl [3] 4 0 4 false) (by kernel_rfl) (fun σ h=>xG (h ([3],j4 w) (by simp)))
theorem r9 (p q:Rat) (w:Q4) (hp:Sm 100000 p) (hq:Sm 100000 q) (hw:cC 100000 w):VP Tryz.prog G 147 [N2 p q w] (N2 p q w):=VP.dm hN [hc (ajH G w hw),hc (lR p (qa G p hp)),hc (Wa G (q,0) ⟨hq,gZ⟩)] [([35],⟨[EV p,E1 (q,0)],1,false⟩)] (.agg [.osl [35] 1 0 2 false,E2 w]) (by kernel_rfl) (fun σ h=>View.agg (ah.cons (vT2 (h ([35],⟨[EV p,E1 (q,0)],1,false⟩) (by simp))) (ah.cons (View.pure PU.pure) ah.nil)))
theorem Rj (p x:Rat) (hp:Sm 100000 p) (hx:Sm 100000 x):VP Tryz.prog G 230 [.agg [T1 p, .nils],EV x] (E1 (x,0)):=vt [hc (oV G p x hp hx)] (by kernel_rfl)
theorem Wu (p q x:Rat) (hp:Sm 100000 p) (hq:Sm 100000 q) (hx:Sm 100000 x):VP Tryz.prog G 230 [.agg [T2 p q, .nils],EV x] (E2 ((x,0),(0,0))):=vt [hc (rS G p q x hp hq hx)] (by kernel_rfl)
theorem Zu (p x:Rat) (l:List AV) [PU (.sl 1 l)] (hp:Sm 100000 p) (hx:Sm 100000 x):VP Tryz.prog G 230 [.agg [T1 p, .sl 1 l],EV x] (E1 (x,0)):=vt [hc (oV G p x hp hx)] (by kernel_rfl)
theorem M8 (p q x:Rat) (l:List AV) [PU (.sl 1 l)] (hp:Sm 100000 p) (hq:Sm 100000 q) (hx:Sm 100000 x):VP Tryz.prog G 230 [.agg [T2 p q, .sl 1 l],EV x] (E2 ((x,0),(0,0))):=vt [hc (rS G p q x hp hq hx)] (by kernel_rfl)
instance {w:Q2}:PU (.sl 1 [E1 w]):=PU.slice (by intro c hc;simp only [flat,List.flatMap_cons,List.flatMap_nil,List.append_nil] at hc;rcases List.mem_singleton.1 hc with rfl;exact PU.pure) (by intro c hc ρ;simp at hc;subst hc;exact PU.fix ρ)
instance {v w:Q4}:PU (.sl 1 [E2 v,E2 w]):=PU.slice (by
 intro c hc
 simp only [flat,List.flatMap_cons,List.flatMap_nil,List.append_nil,List.mem_append] at hc
 rcases hc with hc | hc<;>(rcases List.mem_singleton.1 hc with rfl;exact PU.pure)) (by intro c hc ρ;simp at hc;rcases hc with rfl | rfl<;>exact PU.fix ρ)
theorem ajI (p w:Rat) (v:Q2) (sp:Sm 1000 p) (sw:Sm 1000 w) (sv:bl 10000 v):VP Tryz.prog G 230 [.agg [T1 p, .sl 1 [E1 (0,w)]],E1 v] (E1 (v.1,v.2*w)):=by
 have hz:=tL G v.2 (sv.2.mono (by omega))
 have z:∀ k,1<=k->Sm k (0:Rat):=fun k hk=>Sm.zero.mono hk
 by_cases e:v.2=0
 . rw [decide_eq_true e] at hz
   rw [e,Rat.zero_mul]
   exact vt [hc (Zu G p v.1 [E1 (0,w)] (sp.mono (by omega)) (sv.1.mono (by omega))),hc hz] (by kernel_rfl)
 . rw [decide_eq_false e] at hz
   have hm:=vA G p (v.2,0) (0,w) (sp.mono (by omega)) ⟨sv.2.mono (by omega),z _ (by omega)⟩ ⟨z _ (by omega),sw.mono (by omega)⟩
   have em:aR p (v.2,0) (0,w)=(0,v.2*w):=by unfold aR;refine Prod.ext ?_ ?_<;>simp only []<;>grind
   rw [em] at hm
   have ha:=GQ G p (v.1,0) (0,v.2*w) (sp.mono (by omega)) ⟨sv.1.mono (by omega),z _ (by omega)⟩ ⟨z _ (by omega),(sv.2.mul sw).mono (by omega)⟩
   rw [show (((v.1,0):Q2).1+((0,v.2*w):Q2).1,((v.1,0):Q2).2+((0,v.2*w):Q2).2)=(v.1,v.2*w) from by refine Prod.ext ?_ ?_<;>simp only []<;>grind] at ha
   exact vt [hc (Zu G p v.1 [E1 (0,w)] (sp.mono (by omega)) (sv.1.mono (by omega))),hc hz,hc (Zu G p v.2 [E1 (0,w)] (sp.mono (by omega)) (sv.2.mono (by omega))),hc (Cn G p (0,w)),hc hm,hc ha] (by kernel_rfl)
theorem Cu:cC 1 rB:=⟨⟨Sm.zero,Sm.zero⟩,⟨dz,Sm.zero⟩⟩
theorem KY:cC 1 rA:=⟨⟨Sm.zero,dz⟩,⟨Sm.zero,Sm.zero⟩⟩
theorem eh {x:Rat} {k:Nat} (h:Sm k x) (hk:1<=k):cC k ((x,0),(0,0)):=⟨⟨h,Sm.zero.mono hk⟩,⟨Sm.zero.mono hk,Sm.zero.mono hk⟩⟩
theorem KZ {p q y:Rat}:bD p q ((y,0),(0,0)) rB=((0,0),(y,0)):=by
 unfold bD cY aR
 refine Prod.ext (Prod.ext ?_ ?_) (Prod.ext ?_ ?_)<;>simp only []<;>grind
theorem Rk {x y:Rat}:bO ((x,0),(0,0)) ((0,0),(y,0))=((x,0),(y,0)):=by
 unfold bO cY
 refine Prod.ext (Prod.ext ?_ ?_) (Prod.ext ?_ ?_)<;>simp only []<;>grind
theorem aev (p q:Rat) (v:Q2) (sp:Sm 1000 p) (sq:Sm 1000 q) (sv:bl 3000 v):VP Tryz.prog G 230 [.agg [T2 p q, .sl 1 [E2 rB]],E1 v] (E2 ((v.1,0),(v.2,0))):=by
 have hz:=tL G v.2 (sv.2.mono (by omega))
 by_cases e:v.2=0
 . rw [decide_eq_true e] at hz
   rw [e]
   exact vt [hc (M8 G p q v.1 [E2 rB] (sp.mono (by omega)) (sq.mono (by omega)) (sv.1.mono (by omega))),hc hz] (by kernel_rfl)
 . rw [decide_eq_false e] at hz
   have hm:=KS G p q ((v.2,0),(0,0)) rB sp sq (eh sv.2 (by omega)) (Cu.mono (by omega))
   rw [KZ] at hm
   have ha:=KR G p q ((v.1,0),(0,0)) ((0,0),(v.2,0)) sp sq ((eh sv.1 (by omega)).mono (by omega)) ⟨⟨Sm.zero.mono (by omega),Sm.zero.mono (by omega)⟩,⟨sv.2.mono (by omega),Sm.zero.mono (by omega)⟩⟩
   rw [Rk] at ha
   exact vt [hc (M8 G p q v.1 [E2 rB] (sp.mono (by omega)) (sq.mono (by omega)) (sv.1.mono (by omega))),hc hz,hc (M8 G p q v.2 [E2 rB] (sp.mono (by omega)) (sq.mono (by omega)) (sv.2.mono (by omega))),hc (sS G p q rB),hc hm,hc ha] (by kernel_rfl)
theorem aew (p q:Rat) (v:Q2) (sp:Sm 1000 p) (sq:Sm 1000 q) (sv:bl 3000 v):VP Tryz.prog G 230 [.agg [T2 p q, .sl 1 [E2 rB,E2 rA]],E1 v] (E2 ((v.1,0),(v.2,0))):=by
 have hz:=tL G v.2 (sv.2.mono (by omega))
 by_cases e:v.2=0
 . rw [decide_eq_true e] at hz
   rw [e]
   exact vt [hc (M8 G p q v.1 [E2 rB,E2 rA] (sp.mono (by omega)) (sq.mono (by omega)) (sv.1.mono (by omega))),hc hz] (by kernel_rfl)
 . rw [decide_eq_false e] at hz
   have hm:=KS G p q ((v.2,0),(0,0)) rB sp sq (eh sv.2 (by omega)) (Cu.mono (by omega))
   rw [KZ] at hm
   have ha:=KR G p q ((v.1,0),(0,0)) ((0,0),(v.2,0)) sp sq ((eh sv.1 (by omega)).mono (by omega)) ⟨⟨Sm.zero.mono (by omega),Sm.zero.mono (by omega)⟩,⟨sv.2.mono (by omega),Sm.zero.mono (by omega)⟩⟩
   rw [Rk] at ha
   exact vt [hc (M8 G p q v.1 [E2 rB,E2 rA] (sp.mono (by omega)) (sq.mono (by omega)) (sv.1.mono (by omega))),hc hz,hc (M8 G p q v.2 [E2 rB,E2 rA] (sp.mono (by omega)) (sq.mono (by omega)) (sv.2.mono (by omega))),hc (sS G p q rB),hc hm,hc ha] (by kernel_rfl)
theorem ajJ (p q:Rat) (v:Q4) (sp:Sm 1000 p) (sq:Sm 1000 q) (sv:cC 3000 v):VP Tryz.prog G 230 [.agg [T2 p q, .sl 1 [E2 rB,E2 rA]],E2 v] (E2 (rU v)):=by
 have hz:=Af G v.2 ⟨sv.2.1.mono (by omega),sv.2.2.mono (by omega)⟩
 have h1:=aew G p q v.1 sp sq sv.1
 by_cases e:v.2=(0,0)
 . rw [decide_eq_true e] at hz
   have e2:rU v=((v.1.1,0),(v.1.2,0)):=by unfold rU;rw [e]
   rw [e2]
   exact vt [hc h1,hc hz] (by kernel_rfl)
 . rw [decide_eq_false e] at hz
   have hm:=KS G p q ((v.2.1,0),(v.2.2,0)) rA sp sq ⟨⟨sv.2.1,Sm.zero.mono (by omega)⟩,⟨sv.2.2,Sm.zero.mono (by omega)⟩⟩ (KY.mono (by omega))
   have em:bD p q ((v.2.1,0),(v.2.2,0)) rA=((0,v.2.1),(0,v.2.2)):=by
     unfold bD cY aR
     refine Prod.ext (Prod.ext ?_ ?_) (Prod.ext ?_ ?_)<;>simp only []<;>grind
   rw [em] at hm
   have ha:=KR G p q ((v.1.1,0),(v.1.2,0)) ((0,v.2.1),(0,v.2.2)) sp sq ⟨⟨sv.1.1.mono (by omega),Sm.zero.mono (by omega)⟩,⟨sv.1.2.mono (by omega),Sm.zero.mono (by omega)⟩⟩ ⟨⟨Sm.zero.mono (by omega),sv.2.1.mono (by omega)⟩,⟨Sm.zero.mono (by omega),sv.2.2.mono (by omega)⟩⟩
   have ea:bO ((v.1.1,0),(v.1.2,0)) ((0,v.2.1),(0,v.2.2))=rU v:=by
     unfold bO cY rU
     refine Prod.ext (Prod.ext ?_ ?_) (Prod.ext ?_ ?_)<;>simp only []<;>grind
   rw [ea] at ha
   exact vt [hc h1,hc hz,hc (aew G p q v.2 sp sq sv.2),hc (sS G p q rA),hc hm,hc ha] (by kernel_rfl)
end
end Go.Proofs.YtndoagbiakehnaaGreat
end

section
set_option maxRecDepth 100000
namespace Go.Proofs.YtndoagbiakehnaaGreat
open Go.VL Go.Proofs Go.Lib
section
variable (G:Nat->Option (List AV))
theorem vR1 {σ : ae} {i:VL.Id} {n:Nat} {l:List AV} {T:AV} [PU T] [PU (.sl n l)] {b:Bool} (h : σ i=some ⟨[.sl n l],1,b⟩):View σ (.tup [.agg [T, .osl i 1 0 1 false], .int .i64 0]) (.tup [.agg [T, .sl 1 [.sl n l]], .int .i64 0]):=View.tup (ah.cons (View.agg (ah.cons (View.pure PU.pure) (ah.cons (iT h rfl (by intro c hc;rcases List.mem_singleton.1 hc with rfl;exact PU.pure)) ah.nil))) (ah.cons (View.pure (af.int _ _)) ah.nil))
instance {w:Q4}:PU (.sl 4 [QV w.1.1,QV w.1.2,QV w.2.1,QV w.2.2]):=(inferInstance:PU (E2 w))
instance {x y z t:Rat}:PU (.sl 4 [QV x,QV y,QV z,QV t]):=(inferInstance:PU (E2 ((x,y),(z,t))))
theorem sQ.xp {p q w:Rat} (h:sQ p q w):VP Tryz.prog G 266 [T1 p,E1 (q,0)] (.tup [E1 (0,w), .bool true]):=aen G p q w h.p0 h.q0 h.w0 h.sp h.sq h.nq h.e
theorem exA {p q w:Rat} (h:sQ p q w):VP Tryz.prog G 229 [T1 p,T1 q] (.tup [.agg [T1 p, .sl 1 [E1 (0,w)]], .int .i64 0]) :=
 VP.dm hN [hc (Rj G p q (h.sp.mono (by omega)) (h.sq.mono (by omega))),hc (aes G p q (0,w) h.p0 h.q0 h.sp h.sq ⟨Sm.zero.mono (by omega),h.sw.mono (by omega)⟩ h.np (DV h.w0) (h.xp G))] [([33],⟨[E1 (0,w)],1,false⟩)] (.tup [.agg [T1 p, .osl [33] 1 0 1 false], .int .i64 0]) (by kernel_rfl) (fun σ k=>vR1 (k ([33],⟨[E1 (0,w)],1,false⟩) (by simp)))
theorem exN {p q:Rat} (h:jB p q):VP Tryz.prog G 229 [T1 p,T1 q] (.tup [.agg [T2 p q, .sl 1 [E2 rB]], .int .i64 0]) :=
 VP.dm hN [hc (Rj G p q (h.sp.mono (by omega)) (h.sq.mono (by omega))),hc (Wo G p q h.p0 h.q0 h.sp h.sq h.np h.nq h.nd)] [([33],⟨[E2 rB],1,false⟩)] (.tup [.agg [T2 p q, .osl [33] 1 0 1 false], .int .i64 0]) (by kernel_rfl) (fun σ k=>vR1 (k ([33],⟨[E2 rB],1,false⟩) (by simp)))
theorem Wv {p q:Rat}:xV p q rB=1:=by
 have e1:gh p (0,0)=0:=by unfold gh;rw [if_pos (.inl (by rfl))];rfl
 have e2:gh p (1,0)=1:=pU (by decide)
 unfold xV;rw [e1,e2,if_neg (by decide),if_pos rfl]
theorem Ww {p q:Rat}:xV p q rA=1:=by
 have e1:gh p (0,0)=0:=by unfold gh;rw [if_pos (.inl (by rfl))];rfl
 unfold xV;rw [e1,if_pos (.inl rfl)];exact DV (by decide)
theorem aex {p q:Rat} (h:jB p q):VP Tryz.prog G 205 [T2 p q,E2 ((q,0),(0,0))] (.tup [T2 p q,E2 rB, .int .i64 0]):=Ws G p q q rB h.p0 h.q0 h.q0 h.sp h.sq h.sq (Cu.mono (by omega)) h.np h.nq h.nd Wv (ajF G p q h.p0 h.q0 h.sp h.sq h.nq h.nd)
theorem aey {p q:Rat} (h:jB p q):VP Tryz.prog G 205 [T2 p q,E2 ((p,0),(0,0))] (.tup [T2 p q,E2 rA, .int .i64 0]):=Ws G p q p rA h.p0 h.q0 h.p0 h.sp h.sq h.sp (KY.mono (by omega)) h.np h.nq h.nd Ww (ajE G p q p (0,1) h.sp (aen G p p 1 h.p0 h.p0 (by decide) h.sp h.sp h.np (by rw [Rat.div_def,Rat.mul_inv_cancel _ (Ax h.p0),Rat.one_mul])))
theorem exB {p q:Rat} (h:jB p q):VP Tryz.prog G 229 [T2 p q,T1 q] (.tup [.agg [T2 p q, .sl 1 [E2 rB]], .int .i64 0]) :=
 VP.dm hN [hc (Wu G p q q (h.sp.mono (by omega)) (h.sq.mono (by omega)) (h.sq.mono (by omega))),hc (aex G h)] [([33],⟨[E2 rB],1,false⟩)] (.tup [.agg [T2 p q, .osl [33] 1 0 1 false], .int .i64 0]) (by kernel_rfl) (fun σ k=>vR1 (k ([33],⟨[E2 rB],1,false⟩) (by simp)))
theorem ajM (p q x:Rat) (w:Q4) (i r:VL.Id) (hp:Sm 100000 p) (hq:Sm 100000 q) (hx:Sm 100000 x):aw Tryz.prog G 230 [.agg [T2 p q, .osl i 1 0 1 false],EV x] r [(i,⟨[E2 w],1,false⟩)] { val:=E2 ((x,0),(0,0)),rd:=[i] } :=
 aw.tr (p:=r) (up:=[]) iR (fun _=>i) [hc (rS G p q x hp hq hx)] [.agg [T2 p q, .osl [1] 1 0 1 false],EV x] [([1],⟨[E2 w],1,false⟩)] (E2 ((x,0),(0,0))) [] (by kernel_rfl) (by show [AV.agg [(T2 p q).cG _, .osl i 1 0 1 false],(EV x).cG _]=_;rw [PU.fix,PU.fix]) (by simp only [aU,bh,bM,aT,bn,PU.fixed];rfl) (PU.fix _) rfl (by simp) (by simp)
theorem aez (p q x:Rat) (w:Q4) (i r:VL.Id) (hp:Sm 100000 p) (hq:Sm 100000 q) (hx:Sm 100000 x):aw Tryz.prog G 230 [.agg [T2 p q, .osl i 1 0 1 false],E1 (x,0)] r [(i,⟨[E2 w],1,false⟩)] { val:=E2 ((x,0),(0,0)),rd:=[i] }:=by
 have hz:=tL G 0 gZ
 rw [decide_eq_true rfl] at hz
 exact aw.tr (p:=r) (up:=[]) iR (fun _=>i) [.rel 230 _ [([1],⟨[E2 w],1,false⟩)] _ (fun r _=>ajM G p q x w [1] r hp hq hx) (by intro p x hx;rcases List.mem_singleton.1 hx with rfl;simp),hc hz] [.agg [T2 p q, .osl [1] 1 0 1 false],E1 (x,0)] [([1],⟨[E2 w],1,false⟩)] (E2 ((x,0),(0,0))) [] (by kernel_rfl) (by show [AV.agg [(T2 p q).cG _, .osl i 1 0 1 false],(E1 (x,0)).cG _]=_;rw [PU.fix,PU.fix]) (by simp only [aU,bh,bM,aT,bn,PU.fixed];rfl) (PU.fix _) rfl (by simp) (by simp)
theorem vR2 {σ : ae} {i:VL.Id} {v w:Q4} {T:AV} [PU T] {b:Bool} (h : σ i=some ⟨[E2 v,E2 w],1,b⟩):View σ (.tup [.agg [T, .osl i 1 0 2 false], .int .i64 0]) (.tup [.agg [T, .sl 1 [E2 v,E2 w]], .int .i64 0]):=View.tup (ah.cons (View.agg (ah.cons (View.pure PU.pure) (ah.cons (kr h rfl rfl (by intro c hc;rcases List.mem_singleton.1 hc with rfl;exact PU.pure) (by intro c hc;rcases List.mem_singleton.1 hc with rfl;exact PU.pure)) ah.nil))) (ah.cons (View.pure (af.int _ _)) ah.nil))
theorem exU {p q:Rat} (h:jB p q):VP Tryz.prog G 229 [T1 q,T2 p q] (.tup [.agg [T2 q p, .sl 1 [E2 rB,E2 rA]], .int .i64 0]) :=
 VP.dm hN [hc (Rj G q p (h.sq.mono (by omega)) (h.sp.mono (by omega))),hc (Wo G q p h.q0 h.p0 h.sq h.sp h.nq h.np h.sym.nd), .rel 230 _ [([33],⟨[E2 rB],1,false⟩)] _ (fun r _=>aez G q p q rB [33] r (h.sq.mono (by omega)) (h.sp.mono (by omega)) (h.sq.mono (by omega))) (by intro p x hx;rcases List.mem_singleton.1 hx with rfl;simp),hc (aey G h.sym)] [([64],⟨[E2 rB,E2 rA],1,false⟩)] (.tup [.agg [T2 q p, .osl [64] 1 0 2 false], .int .i64 0]) (by kernel_rfl) (fun σ k=>vR2 (k ([64],⟨[E2 rB,E2 rA],1,false⟩) (by simp)))
theorem exV {p q:Rat} (h:jB p q):VP Tryz.prog G 229 [T2 q p,T2 p q] (.tup [.agg [T2 q p, .sl 1 [E2 rB,E2 rA]], .int .i64 0]) :=
 VP.dm hN [hc (Wu G q p p (h.sq.mono (by omega)) (h.sp.mono (by omega)) (h.sp.mono (by omega))),hc (aex G h.sym), .rel 230 _ [([33],⟨[E2 rB],1,false⟩)] _ (fun r _=>aez G q p q rB [33] r (h.sq.mono (by omega)) (h.sp.mono (by omega)) (h.sq.mono (by omega))) (by intro p x hx;rcases List.mem_singleton.1 hx with rfl;simp),hc (aey G h.sym)] [([64],⟨[E2 rB,E2 rA],1,false⟩)] (.tup [.agg [T2 q p, .osl [64] 1 0 2 false], .int .i64 0]) (by kernel_rfl) (fun σ k=>vR2 (k ([64],⟨[E2 rB,E2 rA],1,false⟩) (by simp)))
end
end Go.Proofs.YtndoagbiakehnaaGreat
end

section
set_option maxRecDepth 100000
namespace Go.Proofs.YtndoagbiakehnaaGreat
open Go.VL Go.Proofs
theorem jC:Hn 255:=hN
end Go.Proofs.YtndoagbiakehnaaGreat
end

section
set_option maxRecDepth 100000
namespace Go.Proofs.YtndoagbiakehnaaGreat
open Go.VL Go.Proofs Go.Lib
section
variable (G:Nat->Option (List AV))
theorem aeA (a b:Rat):VP Tryz.prog G 278 [EV a,EV b] (E1 (a,b)):=VP.dm hN [] [([5],⟨[QV a,QV b],4,false⟩)] (.osl [5] 4 0 2 false) (by kernel_rfl) (fun σ h=>yj (h ([5],⟨[QV a,QV b],4,false⟩) (by simp)))
theorem aeB (u v:Q2):VP Tryz.prog G 278 [E1 u,E1 v] (E2 (u,v)):=VP.dm hN [] [([5],j4 (u,v))] (.osl [5] 4 0 4 false) (by kernel_rfl) (fun σ h=>xG (h ([5],j4 (u,v)) (by simp)))
theorem Wx (q r:Rat) (hq:0<q.num) (hs:Sm 400 q) (hr:r*r=q) (h0:0<r.num):VP Tryz.prog G 247 [.sl 1 [],EV q] (.tup [EV r, .bool true]) :=
 VP.dm hN [hc (Rb G q r hq hs hr h0)] [([16],⟨[QV r],4,false⟩)] (.tup [.osl [16] 4 0 1 false, .bool true]) (by kernel_rfl) (fun σ h=>View.tup (ah.cons (Aw (h ([16],⟨[QV r],4,false⟩) (by simp))) (ah.cons (View.pure (af.bool _)) ah.nil)))
theorem M9 (p x:Rat) (hp:0<p.num) (hx:0<x.num) (sp:Sm 190 p) (sx:Sm 190 x):VP Tryz.prog G 246 [T1 p,E1 (x,0)] (.int .i64 1):=by
 have ht:=ad5 G p (x,0) (sp.mono (by omega)) ⟨sx.mono (by omega),Sm.zero.mono (by omega)⟩ (iV hp)
 rw [pU hx] at ht
 exact ht
theorem zz0:VP Tryz.prog G 218 [EV 0] (.bool true):=by
 have hz:=Cr G 0 gZ
 rw [decide_eq_true rfl] at hz
 exact hz
theorem Zv (p x:Rat) (hp:0<p.num) (hx:0<x.num) (sp:Sm 190 p) (sx:Sm 190 x) (h1:∀ r:Rat,r*r≠x) (h2:∀ r:Rat,r*r≠x/p):VP Tryz.prog G 247 [T1 p,E1 (x,0)] (.tup [.nils, .bool false]):=by
 have sd:Sm 381 (x*(1/p)):=by rw [xW];exact (sx.div sp (by omega)).mono (by omega)
 have hn:0<(x*(1/p)).num:=by rw [xW];exact rT hx hp
 exact vt [hc (M9 G p x hp hx sp sx),hc (jf G 0 (by decide) (by decide)),hc (M5 G 0),hc (zz0 G),hc (G4 G x hx (sx.mono (by omega)) h1),hc (QY G p (Ax hp) (sp.mono (by omega))),hc (ni G x (1/p) (sx.mono (by omega)) ((dz.div sp (by omega)).mono (by omega))),hc (G4 G _ hn (sd.mono (by omega)) (by rw [xW];exact h2))] (by kernel_rfl)
theorem aeC (p x w:Rat) (hp:0<p.num) (hx:0<x.num) (hw:0<w.num) (sp:Sm 190 p) (sx:Sm 190 x) (h1:∀ r:Rat,r*r≠x) (h2:w*w=x/p):VP Tryz.prog G 247 [T1 p,E1 (x,0)] (.tup [E1 (0,w), .bool true]):=by
 have sd:Sm 381 (x*(1/p)):=by rw [xW];exact (sx.div sp (by omega)).mono (by omega)
 have hn:0<(x*(1/p)).num:=by rw [xW];exact rT hx hp
 exact vt [hc (M9 G p x hp hx sp sx),hc (jf G 0 (by decide) (by decide)),hc (M5 G 0),hc (zz0 G),hc (G4 G x hx (sx.mono (by omega)) h1),hc (QY G p (Ax hp) (sp.mono (by omega))),hc (ni G x (1/p) (sx.mono (by omega)) ((dz.div sp (by omega)).mono (by omega))),hc (Wx G _ w hn (sd.mono (by omega)) (by rw [xW];exact h2) hw),hc (aeA G 0 w)] (by kernel_rfl)
theorem ajO (p x s:Rat) (hp:0<p.num) (hx:0<x.num) (hw:0<s.num) (sp:Sm 190 p) (sx:Sm 190 x) (h2:s*s=x):VP Tryz.prog G 247 [T1 p,E1 (x,0)] (.tup [E1 (s,0), .bool true]) :=
 vt [hc (M9 G p x hp hx sp sx),hc (jf G 0 (by decide) (by decide)),hc (M5 G 0),hc (zz0 G),hc (Wx G x s hx (sx.mono (by omega)) h2 hw),hc (aeA G s 0)] (by kernel_rfl)
theorem Wy {p q:Rat} (h:jB p q):VP Tryz.prog G 214 [T2 p q] (.bool true):=by
 have hs:=adZ G p (h.sp.mono (by omega))
 rw [iV h.p0] at hs
 exact vt [hc (xF0 G p (h.sp.mono (by omega))),hc hs,hc (G4 G p h.p0 (h.sp.mono (by omega)) h.np),hc (xF1 G p (q,0) (h.sp.mono (by omega)) ⟨h.sq.mono (by omega),gZ⟩),hc (M9 G p q h.p0 h.q0 h.sp h.sq),hc (Zv G p q h.p0 h.q0 h.sp h.sq h.nq h.nd)] (by kernel_rfl)
theorem aeD (p x:Rat) (v:Q2) (hp:0<p.num) (hx:0<x.num) (sp:Sm 190 p) (sx:Sm 190 x) (sv:bl 1000 v) (h1:∀ r:Rat,r*r≠p) (e:gh p v=1) (h:VP Tryz.prog G 247 [T1 p,E1 (x,0)] (.tup [E1 v, .bool true])):VP Tryz.prog G 168 [T1 p,E1 (x,0)] (.tup [T1 p,E1 v, .int .i64 0]):=by
 have hs:=ad5 G p v (sp.mono (by omega)) (sv.mono (by omega)) (iV hp)
 rw [e] at hs
 have hr:VP Tryz.prog G 250 [T1 p,E1 (x,0)] (.tup [E1 v, .bool true]):=vt [hc h,hc hs] (by kernel_rfl)
 have he:VP Tryz.prog G 216 [T1 p,E1 (x,0)] (.tup [T1 p,E1 v, .int .i64 0]):=vt [hc (M9 G p x hp hx sp sx),hc hr] (by kernel_rfl)
 exact vt [hc (Zo G p hp (sp.mono (by omega)) h1),hc (xF1 G p (x,0) (sp.mono (by omega)) ⟨sx.mono (by omega),gZ⟩),hc he] (by kernel_rfl)
theorem Wz {p q:Rat} (h:jB p q):VP Tryz.prog G 168 [T1 p,E1 (q,0)] (.tup [T2 p q,E2 rB, .int .i64 0]):=by
 have hr:VP Tryz.prog G 250 [T1 p,E1 (q,0)] (.tup [.nils, .bool false]):=vt [hc (Zv G p q h.p0 h.q0 h.sp h.sq h.nq h.nd)] (by kernel_rfl)
 have hv:ah (ae.of [([24],⟨[EV p,E1 (q,0)],1,false⟩)]) [.osl [24] 1 0 2 false, .int .i64 1] [T2 p q, .int .i64 1]:=ah.cons (vT2 (b:=false) (by simp [ae.of])) (ah.cons (View.pure (af.int _ _)) ah.nil)
 have he:VP Tryz.prog G 216 [T1 p,E1 (q,0)] (.tup [T2 p q,E2 rB, .int .i64 0]):=VP.dm hN [hc (M9 G p q h.p0 h.q0 h.sp h.sq),hc hr,bm [([24],⟨[EV p,E1 (q,0)],1,false⟩)] (Zh G p q) hv] [([24],⟨[EV p,E1 (q,0)],1,true⟩)] (.tup [.osl [24] 1 0 2 false,E2 rB, .int .i64 0]) (by kernel_rfl) (fun σ h=>View.tup (ah.cons (vT2 (h ([24],⟨[EV p,E1 (q,0)],1,true⟩) (by simp))) (ah.pure (by intro c hc;simp at hc;rcases hc with rfl | rfl;exact PU.pure;exact af.int _ _))))
 exact vt [hc (Zo G p h.p0 (h.sp.mono (by omega)) h.np),hc (xF1 G p (q,0) (h.sp.mono (by omega)) ⟨h.sq.mono (by omega),gZ⟩),hc he] (by kernel_rfl)
theorem zz1:VP Tryz.prog G 218 [E1 (0,0)] (.bool true):=by
 have hz:=IM G (0,0)
 rw [decide_eq_true rfl] at hz
 exact hz
theorem Zw {p q x:Rat} (h:jB p q) (hx:0<x.num) (sx:Sm 190 x):VP Tryz.prog G 246 [T2 p q,E2 ((x,0),(0,0))] (.int .i64 1):=by
 have ht:=aed G p q ((x,0),(0,0)) (h.sp.mono (by omega)) (h.sq.mono (by omega)) ((eh sx (by omega)).mono (by omega)) (iV h.p0) (iV h.q0)
 have e0:xV p q ((x,0),(0,0))=1:=by unfold xV;rw [if_pos (.inl (by rfl))];exact pU hx
 rw [e0] at ht
 exact ht
theorem WA {p q:Rat} (x:Rat) (w:Q4) (h:jB p q) (hx:0<x.num) (sx:Sm 190 x) (sw:cC 1 w) (e:xV p q w=1) (hq:VP Tryz.prog G 247 [T2 p q,E2 ((x,0),(0,0))] (.tup [E2 w, .bool true])):VP Tryz.prog G 168 [T2 p q,E2 ((x,0),(0,0))] (.tup [T2 p q,E2 w, .int .i64 0]):=by
 have hs:=aed G p q w (h.sp.mono (by omega)) (h.sq.mono (by omega)) (sw.mono (by omega)) (iV h.p0) (iV h.q0)
 rw [e] at hs
 have hr:VP Tryz.prog G 250 [T2 p q,E2 ((x,0),(0,0))] (.tup [E2 w, .bool true]):=vt [hc hq,hc hs] (by kernel_rfl)
 have he:VP Tryz.prog G 216 [T2 p q,E2 ((x,0),(0,0))] (.tup [T2 p q,E2 w, .int .i64 0]):=vt [hc (Zw G h hx sx),hc hr] (by kernel_rfl)
 exact vt [hc (Wy G h),hc (xF2 G p q ((x,0),(0,0)) (h.sp.mono (by omega)) (h.sq.mono (by omega)) ((eh sx (by omega)).mono (by omega))),hc he] (by kernel_rfl)
theorem aeE {p q:Rat} (h:jB p q):VP Tryz.prog G 168 [T2 p q,E2 ((p,0),(0,0))] (.tup [T2 p q,E2 rA, .int .i64 0]):=by
 have hq:VP Tryz.prog G 247 [T2 p q,E2 ((p,0),(0,0))] (.tup [E2 rA, .bool true]):=vt [hc (Zw G h h.p0 h.sp),hc (jf G 0 (by decide) (by decide)),hc (QW G p 0),hc (zz1 G),hc (aeC G p p 1 h.p0 h.p0 (by decide) h.sp h.sp h.np (by rw [Rat.div_def,Rat.mul_inv_cancel _ (Ax h.p0),Rat.one_mul])),hc (aeB G (0,1) (0,0))] (by kernel_rfl)
 exact WA G p rA h h.p0 h.sp KY Ww hq
theorem aeF {p q:Rat} (h:jB p q):VP Tryz.prog G 168 [T2 p q,E2 ((q,0),(0,0))] (.tup [T2 p q,E2 rB, .int .i64 0]):=by
 have q0:=Ax h.q0
 have n0:cj p (q,0)≠0:=by
   unfold cj;simp only [];intro e
   have:q*q=0:=by grind
   exact absurd this (by grind)
 have hi:=KO G p (q,0) n0 (h.sp.mono (by omega)) ⟨h.sq.mono (by omega),Sm.zero.mono (by omega)⟩
 rw [Wp q0] at hi
 have hm:=q9 G p (q,0) (1/q,0) (h.sp.mono (by omega)) ⟨h.sq.mono (by omega),Sm.zero.mono (by omega)⟩ ⟨(dz.div h.sq (by omega)).mono (by omega),Sm.zero.mono (by omega)⟩
 rw [Wq q0] at hm
 have hq:VP Tryz.prog G 247 [T2 p q,E2 ((q,0),(0,0))] (.tup [E2 rB, .bool true]):=vt [hc (Zw G h h.q0 h.sq),hc (jf G 0 (by decide) (by decide)),hc (QW G p 0),hc (zz1 G),hc (Zv G p q h.p0 h.q0 h.sp h.sq h.nq h.nd),hc hi,hc hm,hc (ajO G p 1 1 h.p0 (by decide) (by decide) h.sp (dz.mono (by omega)) (by grind)),hc (aeB G (0,0) (1,0))] (by kernel_rfl)
 exact WA G q rB h h.q0 h.sq Cu Wv hq
end
end Go.Proofs.YtndoagbiakehnaaGreat
end

section
set_option maxRecDepth 100000
namespace Go.Proofs.YtndoagbiakehnaaGreat
open Go.VL Go.Proofs Go.Lib
abbrev a2 (v:Q2):Q4:=(v,(0,0))
abbrev b2 (v:Q2):Q4:=((v.1,0),(v.2,0))
abbrev r2 (x:Rat):Q4:=((x,0),(0,0))
theorem K3 {k:Nat} {v:Q2} (h:bl k v) (hk:1<=k):cC k (a2 v):=⟨h,⟨Sm.zero.mono hk,Sm.zero.mono hk⟩⟩
theorem WB {k:Nat} {v:Q2} (h:bl k v) (hk:1<=k):cC k (b2 v):=⟨⟨h.1,Sm.zero.mono hk⟩,⟨h.2,Sm.zero.mono hk⟩⟩
theorem tM {k:Nat} {v:Q4} (h:cC k v):cC k (rU v):=⟨⟨h.1.1,h.2.1⟩,⟨h.1.2,h.2.2⟩⟩
instance {p q:Rat} {u v:Q2}:PU (.sl 2 [N1 p u,N1 q v]):=DK (bb _ _) (bb _ _)
instance {p q r:Rat} {u:Q4} {v:Q2}:PU (.sl 2 [N2 p q u,N1 r v]):=DK (aN _ _ _) (bb _ _)
instance {p q r:Rat} {u:Q4} {v:Q2}:PU (.sl 2 [N1 r v,N2 p q u]):=DK (bb _ _) (aN _ _ _)
instance {p q x:Rat} {u:Q4}:PU (.sl 2 [N2 p q u,NV x]):=DK (aN _ _ _) (eg _)
instance {p q x:Rat} {u:Q4}:PU (.sl 2 [NV x,N2 p q u]):=DK (eg _) (aN _ _ _)
instance {p q r s:Rat} {u v:Q4}:PU (.sl 2 [N2 p q u,N2 r s v]):=DK (aN _ _ _) (aN _ _ _)
theorem vJ {σ : ae} {i:VL.Id} {A B:AV} (h : σ i=some ⟨[A,B],2,false⟩) (hA:A.size=2) (hB:B.size=2) (pa:∀ c∈A.cells,af c) (pb:∀ c∈B.cells,af c):View σ (.tup [.osl i 2 0 2 false, .int .i64 0]) (.tup [.sl 2 [A,B], .int .i64 0]):=vT (II h hA hB pa pb)
section
variable (G:Nat->Option (List AV))
theorem cAB {p q:Rat} (h:jB p q) (u v:Q2):VP Tryz.prog G 228 [.sl 2 [N1 p u,N1 q v]] (.tup [T2 p q, .int .i64 0]):=vt [hc (tK G p),hc (nW G p),hc (G5 G p q (h.sp.mono (by omega)) (h.sq.mono (by omega)) h.ne),hc (G5 G q p (h.sq.mono (by omega)) (h.sp.mono (by omega)) h.ne.symm),hc (exN G h)] (by kernel_rfl)
theorem jAB {p q:Rat} (h:jB p q) (u v:Q2) (su:bl 3000 u) (sv:bl 3000 v):VP Tryz.prog G 193 [.sl 2 [N1 p u,N1 q v]] (.tup [.sl 2 [N2 p q (a2 u),N2 p q (b2 v)], .int .i64 0]) :=
 VP.dm hN [hc (cAB G h u v),hc (Ct G p q (h.sp.mono (by omega))),hc (KX G p q u),hc (r9 G p q (a2 u) (h.sp.mono (by omega)) (h.sq.mono (by omega)) (K3 (su.mono (by omega)) (by omega))),hc (KW G p q q (h.sp.mono (by omega)) (h.sq.mono (by omega)) h.ne),hc (exB G h),hc (aev G p q v (h.sp.mono (by omega)) (h.sq.mono (by omega)) sv),hc (r9 G p q (b2 v) (h.sp.mono (by omega)) (h.sq.mono (by omega)) (WB (sv.mono (by omega)) (by omega)))] [([77],⟨[N2 p q (a2 u),N2 p q (b2 v)],2,false⟩)] (.tup [.osl [77] 2 0 2 false, .int .i64 0]) (by kernel_rfl) (fun σ k=>vJ (k ([77],⟨[N2 p q (a2 u),N2 p q (b2 v)],2,false⟩) (by simp)) rfl rfl (aN _ _ _) (aN _ _ _))
theorem oAB (f:Nat) {p q:Rat} (h:jB p q) (u v:Q2) (w:Q4) (su:bl 3000 u) (sv:bl 3000 v) (ho:VP Tryz.prog G f [T2 p q,E2 (a2 u),E2 (b2 v)] (E2 w)):VP Tryz.prog G 154 [N1 p u,N1 q v, .fn (.func f) [] []] (.tup [N2 p q w, .int .i64 0]):=by
 have hw:ah (ae.of [([6],⟨[N1 p u,N1 q v],2,false⟩)]) [.osl [6] 2 0 2 false] [.sl 2 [N1 p u,N1 q v]]:=ah.cons (II (by simp [ae.of]) rfl rfl (bb _ _) (bb _ _)) ah.nil
 exact vt [bm [([6],⟨[N1 p u,N1 q v],2,false⟩)] (jAB G h u v su sv) hw,hc ho] (by kernel_rfl)
theorem cTA {p q:Rat} (h:jB p q) (u:Q4) (v:Q2):VP Tryz.prog G 228 [.sl 2 [N2 p q u,N1 p v]] (.tup [T2 p q, .int .i64 0]):=vt [hc (Ri G p q),hc (G6 G p q),hc (Ct G p q (h.sp.mono (by omega)))] (by kernel_rfl)
theorem jTA {p q:Rat} (h:jB p q) (u:Q4) (v:Q2) (su:cC 3000 u) (sv:bl 3000 v):VP Tryz.prog G 193 [.sl 2 [N2 p q u,N1 p v]] (.tup [.sl 2 [N2 p q (u),N2 p q (a2 v)], .int .i64 0]) :=
 VP.dm hN [hc (cTA G h u v),hc (xH G p q (h.sp.mono (by omega)) (h.sq.mono (by omega))),hc (sS G p q u),hc (r9 G p q (u) (h.sp.mono (by omega)) (h.sq.mono (by omega)) (su.mono (by omega))),hc (Ct G p q (h.sp.mono (by omega))),hc (KX G p q v),hc (r9 G p q (a2 v) (h.sp.mono (by omega)) (h.sq.mono (by omega)) (K3 (sv.mono (by omega)) (by omega)))] [([65],⟨[N2 p q (u),N2 p q (a2 v)],2,false⟩)] (.tup [.osl [65] 2 0 2 false, .int .i64 0]) (by kernel_rfl) (fun σ k=>vJ (k ([65],⟨[N2 p q (u),N2 p q (a2 v)],2,false⟩) (by simp)) rfl rfl (aN _ _ _) (aN _ _ _))
theorem oTA (f:Nat) {p q:Rat} (h:jB p q) (u:Q4) (v:Q2) (w:Q4) (su:cC 3000 u) (sv:bl 3000 v) (ho:VP Tryz.prog G f [T2 p q,E2 (u),E2 (a2 v)] (E2 w)):VP Tryz.prog G 154 [N2 p q u,N1 p v, .fn (.func f) [] []] (.tup [N2 p q w, .int .i64 0]):=by
 have hw:ah (ae.of [([6],⟨[N2 p q u,N1 p v],2,false⟩)]) [.osl [6] 2 0 2 false] [.sl 2 [N2 p q u,N1 p v]]:=ah.cons (II (by simp [ae.of]) rfl rfl (aN _ _ _) (bb _ _)) ah.nil
 exact vt [bm [([6],⟨[N2 p q u,N1 p v],2,false⟩)] (jTA G h u v su sv) hw,hc ho] (by kernel_rfl)
theorem cAT {p q:Rat} (h:jB p q) (u:Q2) (v:Q4):VP Tryz.prog G 228 [.sl 2 [N1 p u,N2 p q v]] (.tup [T2 p q, .int .i64 0]):=vt [hc (tK G p),hc (nW G p),hc (Zt G p p q),hc (Ct G p q (h.sp.mono (by omega)))] (by kernel_rfl)
theorem jAT {p q:Rat} (h:jB p q) (u:Q2) (v:Q4) (su:bl 3000 u) (sv:cC 3000 v):VP Tryz.prog G 193 [.sl 2 [N1 p u,N2 p q v]] (.tup [.sl 2 [N2 p q (a2 u),N2 p q (v)], .int .i64 0]) :=
 VP.dm hN [hc (cAT G h u v),hc (Ct G p q (h.sp.mono (by omega))),hc (KX G p q u),hc (r9 G p q (a2 u) (h.sp.mono (by omega)) (h.sq.mono (by omega)) (K3 (su.mono (by omega)) (by omega))),hc (xH G p q (h.sp.mono (by omega)) (h.sq.mono (by omega))),hc (sS G p q v),hc (r9 G p q (v) (h.sp.mono (by omega)) (h.sq.mono (by omega)) (sv.mono (by omega)))] [([65],⟨[N2 p q (a2 u),N2 p q (v)],2,false⟩)] (.tup [.osl [65] 2 0 2 false, .int .i64 0]) (by kernel_rfl) (fun σ k=>vJ (k ([65],⟨[N2 p q (a2 u),N2 p q (v)],2,false⟩) (by simp)) rfl rfl (aN _ _ _) (aN _ _ _))
theorem oAT (f:Nat) {p q:Rat} (h:jB p q) (u:Q2) (v:Q4) (w:Q4) (su:bl 3000 u) (sv:cC 3000 v) (ho:VP Tryz.prog G f [T2 p q,E2 (a2 u),E2 (v)] (E2 w)):VP Tryz.prog G 154 [N1 p u,N2 p q v, .fn (.func f) [] []] (.tup [N2 p q w, .int .i64 0]):=by
 have hw:ah (ae.of [([6],⟨[N1 p u,N2 p q v],2,false⟩)]) [.osl [6] 2 0 2 false] [.sl 2 [N1 p u,N2 p q v]]:=ah.cons (II (by simp [ae.of]) rfl rfl (bb _ _) (aN _ _ _)) ah.nil
 exact vt [bm [([6],⟨[N1 p u,N2 p q v],2,false⟩)] (jAT G h u v su sv) hw,hc ho] (by kernel_rfl)
theorem cTB {p q:Rat} (h:jB p q) (u:Q4) (v:Q2):VP Tryz.prog G 228 [.sl 2 [N2 p q u,N1 q v]] (.tup [T2 p q, .int .i64 0]):=vt [hc (Ri G p q),hc (G6 G p q),hc (KW G p q q (h.sp.mono (by omega)) (h.sq.mono (by omega)) h.ne),hc (Zt G q p q),hc (exB G h)] (by kernel_rfl)
theorem jTB {p q:Rat} (h:jB p q) (u:Q4) (v:Q2) (su:cC 3000 u) (sv:bl 3000 v):VP Tryz.prog G 193 [.sl 2 [N2 p q u,N1 q v]] (.tup [.sl 2 [N2 p q (u),N2 p q (b2 v)], .int .i64 0]) :=
 VP.dm hN [hc (cTB G h u v),hc (xH G p q (h.sp.mono (by omega)) (h.sq.mono (by omega))),hc (sS G p q u),hc (r9 G p q (u) (h.sp.mono (by omega)) (h.sq.mono (by omega)) (su.mono (by omega))),hc (KW G p q q (h.sp.mono (by omega)) (h.sq.mono (by omega)) h.ne),hc (exB G h),hc (aev G p q v (h.sp.mono (by omega)) (h.sq.mono (by omega)) sv),hc (r9 G p q (b2 v) (h.sp.mono (by omega)) (h.sq.mono (by omega)) (WB (sv.mono (by omega)) (by omega)))] [([77],⟨[N2 p q (u),N2 p q (b2 v)],2,false⟩)] (.tup [.osl [77] 2 0 2 false, .int .i64 0]) (by kernel_rfl) (fun σ k=>vJ (k ([77],⟨[N2 p q (u),N2 p q (b2 v)],2,false⟩) (by simp)) rfl rfl (aN _ _ _) (aN _ _ _))
theorem oTB (f:Nat) {p q:Rat} (h:jB p q) (u:Q4) (v:Q2) (w:Q4) (su:cC 3000 u) (sv:bl 3000 v) (ho:VP Tryz.prog G f [T2 p q,E2 (u),E2 (b2 v)] (E2 w)):VP Tryz.prog G 154 [N2 p q u,N1 q v, .fn (.func f) [] []] (.tup [N2 p q w, .int .i64 0]):=by
 have hw:ah (ae.of [([6],⟨[N2 p q u,N1 q v],2,false⟩)]) [.osl [6] 2 0 2 false] [.sl 2 [N2 p q u,N1 q v]]:=ah.cons (II (by simp [ae.of]) rfl rfl (aN _ _ _) (bb _ _)) ah.nil
 exact vt [bm [([6],⟨[N2 p q u,N1 q v],2,false⟩)] (jTB G h u v su sv) hw,hc ho] (by kernel_rfl)
theorem cBT {p q:Rat} (h:jB p q) (u:Q2) (v:Q4):VP Tryz.prog G 228 [.sl 2 [N1 q u,N2 p q v]] (.tup [T2 q p, .int .i64 0]):=vt [hc (tK G q),hc (nW G q),hc (Zt G q p q),hc (KW G p q q (h.sp.mono (by omega)) (h.sq.mono (by omega)) h.ne),hc (exU G h)] (by kernel_rfl)
theorem jBT {p q:Rat} (h:jB p q) (u:Q2) (v:Q4) (su:bl 3000 u) (sv:cC 3000 v):VP Tryz.prog G 193 [.sl 2 [N1 q u,N2 p q v]] (.tup [.sl 2 [N2 q p (a2 u),N2 q p (rU v)], .int .i64 0]) :=
 VP.dm hN [hc (cBT G h u v),hc (Ct G q p (h.sq.mono (by omega))),hc (KX G q p u),hc (r9 G q p (a2 u) (h.sq.mono (by omega)) (h.sp.mono (by omega)) (K3 (su.mono (by omega)) (by omega))),hc (aet G q p p q (h.sq.mono (by omega)) (h.sp.mono (by omega)) h.ne.symm),hc (exV G h),hc (ajJ G q p v (h.sq.mono (by omega)) (h.sp.mono (by omega)) sv),hc (r9 G q p (rU v) (h.sq.mono (by omega)) (h.sp.mono (by omega)) (tM (sv.mono (by omega))))] [([77],⟨[N2 q p (a2 u),N2 q p (rU v)],2,false⟩)] (.tup [.osl [77] 2 0 2 false, .int .i64 0]) (by kernel_rfl) (fun σ k=>vJ (k ([77],⟨[N2 q p (a2 u),N2 q p (rU v)],2,false⟩) (by simp)) rfl rfl (aN _ _ _) (aN _ _ _))
theorem oBT (f:Nat) {p q:Rat} (h:jB p q) (u:Q2) (v:Q4) (w:Q4) (su:bl 3000 u) (sv:cC 3000 v) (ho:VP Tryz.prog G f [T2 q p,E2 (a2 u),E2 (rU v)] (E2 w)):VP Tryz.prog G 154 [N1 q u,N2 p q v, .fn (.func f) [] []] (.tup [N2 q p w, .int .i64 0]):=by
 have hw:ah (ae.of [([6],⟨[N1 q u,N2 p q v],2,false⟩)]) [.osl [6] 2 0 2 false] [.sl 2 [N1 q u,N2 p q v]]:=ah.cons (II (by simp [ae.of]) rfl rfl (bb _ _) (aN _ _ _)) ah.nil
 exact vt [bm [([6],⟨[N1 q u,N2 p q v],2,false⟩)] (jBT G h u v su sv) hw,hc ho] (by kernel_rfl)
theorem cTR {p q:Rat} (_h:jB p q) (u:Q4) (v:Rat):VP Tryz.prog G 228 [.sl 2 [N2 p q u,NV v]] (.tup [T2 p q, .int .i64 0]):=vt [hc (Ri G p q),hc (G6 G p q),hc (G6 G p q)] (by kernel_rfl)
theorem jTR {p q:Rat} (h:jB p q) (u:Q4) (v:Rat) (su:cC 3000 u) (sv:Sm 3000 v):VP Tryz.prog G 193 [.sl 2 [N2 p q u,NV v]] (.tup [.sl 2 [N2 p q (u),N2 p q (r2 v)], .int .i64 0]) :=
 VP.dm hN [hc (cTR G h u v),hc (xH G p q (h.sp.mono (by omega)) (h.sq.mono (by omega))),hc (sS G p q u),hc (r9 G p q (u) (h.sp.mono (by omega)) (h.sq.mono (by omega)) (su.mono (by omega))),hc (G6 G p q),hc (Wt G p q v),hc (r9 G p q (r2 v) (h.sp.mono (by omega)) (h.sq.mono (by omega)) ((eh sv (by omega)).mono (by omega)))] [([65],⟨[N2 p q (u),N2 p q (r2 v)],2,false⟩)] (.tup [.osl [65] 2 0 2 false, .int .i64 0]) (by kernel_rfl) (fun σ k=>vJ (k ([65],⟨[N2 p q (u),N2 p q (r2 v)],2,false⟩) (by simp)) rfl rfl (aN _ _ _) (aN _ _ _))
theorem oTR (f:Nat) {p q:Rat} (h:jB p q) (u:Q4) (v:Rat) (w:Q4) (su:cC 3000 u) (sv:Sm 3000 v) (ho:VP Tryz.prog G f [T2 p q,E2 (u),E2 (r2 v)] (E2 w)):VP Tryz.prog G 154 [N2 p q u,NV v, .fn (.func f) [] []] (.tup [N2 p q w, .int .i64 0]):=by
 have hw:ah (ae.of [([6],⟨[N2 p q u,NV v],2,false⟩)]) [.osl [6] 2 0 2 false] [.sl 2 [N2 p q u,NV v]]:=ah.cons (II (by simp [ae.of]) rfl rfl (aN _ _ _) (eg _)) ah.nil
 exact vt [bm [([6],⟨[N2 p q u,NV v],2,false⟩)] (jTR G h u v su sv) hw,hc ho] (by kernel_rfl)
theorem cRT {p q:Rat} (_h:jB p q) (u:Rat) (v:Q4):VP Tryz.prog G 228 [.sl 2 [NV u,N2 p q v]] (.tup [T2 p q, .int .i64 0]):=vt [hc (IE G),hc (Ri G p q),hc (G6 G p q)] (by kernel_rfl)
theorem jRT {p q:Rat} (h:jB p q) (u:Rat) (v:Q4) (su:Sm 3000 u) (sv:cC 3000 v):VP Tryz.prog G 193 [.sl 2 [NV u,N2 p q v]] (.tup [.sl 2 [N2 p q (r2 u),N2 p q (v)], .int .i64 0]) :=
 VP.dm hN [hc (cRT G h u v),hc (G6 G p q),hc (Wt G p q u),hc (r9 G p q (r2 u) (h.sp.mono (by omega)) (h.sq.mono (by omega)) ((eh su (by omega)).mono (by omega))),hc (xH G p q (h.sp.mono (by omega)) (h.sq.mono (by omega))),hc (sS G p q v),hc (r9 G p q (v) (h.sp.mono (by omega)) (h.sq.mono (by omega)) (sv.mono (by omega)))] [([65],⟨[N2 p q (r2 u),N2 p q (v)],2,false⟩)] (.tup [.osl [65] 2 0 2 false, .int .i64 0]) (by kernel_rfl) (fun σ k=>vJ (k ([65],⟨[N2 p q (r2 u),N2 p q (v)],2,false⟩) (by simp)) rfl rfl (aN _ _ _) (aN _ _ _))
theorem oRT (f:Nat) {p q:Rat} (h:jB p q) (u:Rat) (v:Q4) (w:Q4) (su:Sm 3000 u) (sv:cC 3000 v) (ho:VP Tryz.prog G f [T2 p q,E2 (r2 u),E2 (v)] (E2 w)):VP Tryz.prog G 154 [NV u,N2 p q v, .fn (.func f) [] []] (.tup [N2 p q w, .int .i64 0]):=by
 have hw:ah (ae.of [([6],⟨[NV u,N2 p q v],2,false⟩)]) [.osl [6] 2 0 2 false] [.sl 2 [NV u,N2 p q v]]:=ah.cons (II (by simp [ae.of]) rfl rfl (eg _) (aN _ _ _)) ah.nil
 exact vt [bm [([6],⟨[NV u,N2 p q v],2,false⟩)] (jRT G h u v su sv) hw,hc ho] (by kernel_rfl)
theorem cTT {p q:Rat} (h:jB p q) (u v:Q4):VP Tryz.prog G 228 [.sl 2 [N2 p q u,N2 p q v]] (.tup [T2 p q, .int .i64 0]):=vt [hc (Ri G p q),hc (G6 G p q),hc (xH G p q (h.sp.mono (by omega)) (h.sq.mono (by omega)))] (by kernel_rfl)
theorem jTT {p q:Rat} (h:jB p q) (u v:Q4) (su:cC 3000 u) (sv:cC 3000 v):VP Tryz.prog G 193 [.sl 2 [N2 p q u,N2 p q v]] (.tup [.sl 2 [N2 p q (u),N2 p q (v)], .int .i64 0]) :=
 VP.dm hN [hc (cTT G h u v),hc (xH G p q (h.sp.mono (by omega)) (h.sq.mono (by omega))),hc (sS G p q u),hc (r9 G p q (u) (h.sp.mono (by omega)) (h.sq.mono (by omega)) (su.mono (by omega))),hc (xH G p q (h.sp.mono (by omega)) (h.sq.mono (by omega))),hc (sS G p q v),hc (r9 G p q (v) (h.sp.mono (by omega)) (h.sq.mono (by omega)) (sv.mono (by omega)))] [([65],⟨[N2 p q (u),N2 p q (v)],2,false⟩)] (.tup [.osl [65] 2 0 2 false, .int .i64 0]) (by kernel_rfl) (fun σ k=>vJ (k ([65],⟨[N2 p q (u),N2 p q (v)],2,false⟩) (by simp)) rfl rfl (aN _ _ _) (aN _ _ _))
theorem oTT (f:Nat) {p q:Rat} (h:jB p q) (u v:Q4) (w:Q4) (su:cC 3000 u) (sv:cC 3000 v) (ho:VP Tryz.prog G f [T2 p q,E2 (u),E2 (v)] (E2 w)):VP Tryz.prog G 154 [N2 p q u,N2 p q v, .fn (.func f) [] []] (.tup [N2 p q w, .int .i64 0]):=by
 have hw:ah (ae.of [([6],⟨[N2 p q u,N2 p q v],2,false⟩)]) [.osl [6] 2 0 2 false] [.sl 2 [N2 p q u,N2 p q v]]:=ah.cons (II (by simp [ae.of]) rfl rfl (aN _ _ _) (aN _ _ _)) ah.nil
 exact vt [bm [([6],⟨[N2 p q u,N2 p q v],2,false⟩)] (jTT G h u v su sv) hw,hc ho] (by kernel_rfl)
end
end Go.Proofs.YtndoagbiakehnaaGreat
end

section
set_option maxRecDepth 100000
namespace Go.Proofs.YtndoagbiakehnaaGreat
open Go.VL Go.Proofs Go.Lib
theorem Rl {q x:Rat} (h:x≠0):mO q (x,0)=(1/x,0):=by
 unfold mO cj
 refine Prod.ext ?_ ?_<;>simp only []<;>grind
section
variable (G:Nat->Option (List AV))
end
end Go.Proofs.YtndoagbiakehnaaGreat
end

section
set_option maxRecDepth 100000
namespace Go.Proofs.YtndoagbiakehnaaGreat
open Go.VL Go.Proofs Go.Lib
theorem Zx {σ : ae} {i:VL.Id} {A B:AV} (h : σ i=some ⟨[A,B],2,false⟩) (hA:A.size=2) (hB:B.size=2) (pa:∀ c∈A.cells,af c) (pb:∀ c∈B.cells,af c):View σ (.tup [.osl i 2 0 2 false, .int .i64 0]) (.tup [.sl 2 [A,B], .int .i64 0]):=vT (II h hA hB pa pb)
section
variable (G:Nat->Option (List AV))
theorem Rm (q:Rat) (hq:Sm 40000 q):VP Tryz.prog G 297 [QV q,QV q] (.int .i64 0):=by
 have s1:=hq.1
 have s2:=hq.2
 have m1:=MX G q.num (q.den:Int) (by omega) (by rw [Int.natAbs_natCast];omega)
 have hz:aa (q.num*(q.den:Int)).natAbs<=100000:=Nat.le_trans (bF _ _) (by rw [Int.natAbs_natCast];omega)
 generalize q.num*(q.den:Int)=z at *
 have h1:=Qz G z z (by omega) (by omega)
 rw [Int.sub_self] at h1
 have h2:=GJ G 0 (by show aa 0<=_;rw [bE.2 rfl];omega)
 have h3:VP Tryz.prog G 307 [IV z,IV z] (.int .i64 0):=vt [hc h1,hc h2] (by kernel_rfl)
 exact vt [hc m1,hc m1,hc h3] (by kernel_rfl)
theorem Rn (q:Rat) (hq:Sm 40000 q):VP Tryz.prog G 279 [EV q,EV q] (.bool true):=vt [hc (Rm G q hq)] (by kernel_rfl)
theorem aeG:VP Tryz.prog G 252 [.nils, .nils] (.bool true):=vt [] (by kernel_rfl)
theorem A8 (q:Rat):VP Tryz.prog G 252 [T1 q, .nils] (.bool true):=vt [] (by kernel_rfl)
theorem Na (q:Rat) (hq:Sm 40000 q):VP Tryz.prog G 252 [T1 q,T1 q] (.bool true):=vt [hc (Rn G q hq)] (by kernel_rfl)
theorem yL1 (q:Rat) (v:Q2):VP Tryz.prog G 254 [T1 q,E1 v] (E1 v):=VP.dm hN [] [([3],⟨[QV v.1,QV v.2],4,false⟩)] (.osl [3] 4 0 2 false) (by kernel_rfl) (fun σ h=>yj (h ([3],⟨[QV v.1,QV v.2],4,false⟩) (by simp)))
theorem yL0 (q x:Rat):VP Tryz.prog G 254 [T1 q,EV x] (E1 (x,0)):=VP.dm hN [hc (jf G 0 (by decide) (by decide))] [([14],⟨[QV x,QV 0],4,false⟩)] (.osl [14] 4 0 2 false) (by kernel_rfl) (fun σ h=>yj (h ([14],⟨[QV x,QV 0],4,false⟩) (by simp)))
theorem ajP (x q:Rat) (v:Q2) (hq:Sm 40000 q):VP Tryz.prog G 220 [.sl 2 [NV x,N1 q v]] (.tup [.sl 2 [N1 q (x,0),N1 q v], .int .i64 0]) :=
 VP.dm hN [hc (aeG G),hc (A8 G q),hc (A8 G q),hc (yL0 G q x),hc (Na G q hq),hc (yL1 G q v)] [([133],⟨[N1 q (x,0),N1 q v],2,false⟩)] (.tup [.osl [133] 2 0 2 false, .int .i64 0]) (by kernel_rfl) (fun σ h=>Zx (h ([133],⟨[N1 q (x,0),N1 q v],2,false⟩) (by simp)) rfl rfl (bb _ _) (bb _ _))
theorem ajQ (x q:Rat) (v:Q2) (hq:Sm 40000 q):VP Tryz.prog G 220 [.sl 2 [N1 q v,NV x]] (.tup [.sl 2 [N1 q v,N1 q (x,0)], .int .i64 0]) :=
 VP.dm hN [hc (A8 G q),hc (A8 G q),hc (Na G q hq),hc (yL1 G q v),hc (A8 G q),hc (yL0 G q x)] [([133],⟨[N1 q v,N1 q (x,0)],2,false⟩)] (.tup [.osl [133] 2 0 2 false, .int .i64 0]) (by kernel_rfl) (fun σ h=>Zx (h ([133],⟨[N1 q v,N1 q (x,0)],2,false⟩) (by simp)) rfl rfl (bb _ _) (bb _ _))
theorem ajR (q:Rat) (u v:Q2) (hq:Sm 40000 q):VP Tryz.prog G 220 [.sl 2 [N1 q u,N1 q v]] (.tup [.sl 2 [N1 q u,N1 q v], .int .i64 0]) :=
 VP.dm hN [hc (A8 G q),hc (Na G q hq),hc (Na G q hq),hc (yL1 G q u),hc (Na G q hq),hc (yL1 G q v)] [([133],⟨[N1 q u,N1 q v],2,false⟩)] (.tup [.osl [133] 2 0 2 false, .int .i64 0]) (by kernel_rfl) (fun σ h=>Zx (h ([133],⟨[N1 q u,N1 q v],2,false⟩) (by simp)) rfl rfl (bb _ _) (bb _ _))
theorem NC {A B:AV} (hA:A.size=2) (hB:B.size=2) (pa:∀ c∈A.cells,af c) (pb:∀ c∈B.cells,af c):ah (ae.of [([7],⟨[A,B],2,false⟩)]) [.osl [7] 2 0 2 false] [.sl 2 [A,B]]:=ah.cons (II (by simp [ae.of]) hA hB pa pb) ah.nil
theorem aeH (x q:Rat) (v:Q2) (hq:Sm 40000 q):VP Tryz.prog G 170 [NV x,N1 q v] (.tup [N1 q (x,0),N1 q v, .int .i64 0]):=vt [bm [([7],⟨[NV x,N1 q v],2,false⟩)] (ajP G x q v hq) (NC rfl rfl (eg x) (bb q v))] (by kernel_rfl)
theorem aeI (x q:Rat) (v:Q2) (hq:Sm 40000 q):VP Tryz.prog G 170 [N1 q v,NV x] (.tup [N1 q v,N1 q (x,0), .int .i64 0]):=vt [bm [([7],⟨[N1 q v,NV x],2,false⟩)] (ajQ G x q v hq) (NC rfl rfl (bb q v) (eg x))] (by kernel_rfl)
theorem Zy (q:Rat) (u v:Q2) (hq:Sm 40000 q):VP Tryz.prog G 170 [N1 q u,N1 q v] (.tup [N1 q u,N1 q v, .int .i64 0]):=vt [bm [([7],⟨[N1 q u,N1 q v],2,false⟩)] (ajR G q u v hq) (NC rfl rfl (bb q u) (bb q v))] (by kernel_rfl)
theorem aeJ (q:Rat) (b c:Bool) (u v:Q2) (hq:Sm 10000 q) (hu:bl 10000 u) (hv:bl 10000 v) (fu:Fl b u) (fv:Fl c v):VP Tryz.prog G 106 [nq q b u,nq q c v] (.tup [nq q (b||c) (u.1+v.1,u.2+v.2), .int .i64 0]):=by
 have sq:=hq.mono (k:=40000) (by omega)
 have ha:=GZ G q u v (hu.mono (by omega)) (hv.mono (by omega))
 cases b<;>cases c
 . exact Cj G u.1 v.1 (hu.1.mono (by omega)) (hv.1.mono (by omega))
 . obtain ⟨x,y⟩:=u
   obtain rfl:=zQ fu
   exact vt [hc (aeH G x q v sq),hc ha] (by kernel_rfl)
 . obtain ⟨x,y⟩:=v
   obtain rfl:=zQ fv
   exact vt [hc (aeI G x q u sq),hc ha] (by kernel_rfl)
 . exact vt [hc (Zy G q u v sq),hc ha] (by kernel_rfl)
theorem Zz (q:Rat) (b c:Bool) (u v:Q2) (hq:Sm 10000 q) (hu:bl 10000 u) (hv:bl 10000 v) (fu:Fl b u) (fv:Fl c v):VP Tryz.prog G 105 [nq q b u,nq q c v] (.tup [nq q (b||c) (aR q u v), .int .i64 0]):=by
 have sq:=hq.mono (k:=40000) (by omega)
 have ha:=q9 G q u v (hq.mono (by omega)) (hu.mono (by omega)) (hv.mono (by omega))
 cases b<;>cases c
 . obtain ⟨x,y⟩:=u
   obtain rfl:=zQ fu
   obtain ⟨z,t⟩:=v
   obtain rfl:=zQ fv
   have:=Ad G x z (hu.1.mono (by omega)) (hv.1.mono (by omega))
   rw [<- GU (q:=q)] at this
   exact this
 . obtain ⟨x,y⟩:=u
   obtain rfl:=zQ fu
   exact vt [hc (aeH G x q v sq),hc ha] (by kernel_rfl)
 . obtain ⟨x,y⟩:=v
   obtain rfl:=zQ fv
   exact vt [hc (aeI G x q u sq),hc ha] (by kernel_rfl)
 . exact vt [hc (Zy G q u v sq),hc ha] (by kernel_rfl)
theorem Ro (q:Rat) (b:Bool) (u:Q2) (hu:bl 10000 u):VP Tryz.prog G 43 [nq q b u] (nq q b (-u.1, -u.2)):=by
 cases b
 . exact xE G u.1 (hu.1.mono (by omega))
 . exact vt [hc (Wc G q u (hu.mono (by omega)))] (by kernel_rfl)
theorem Fl.neg {b:Bool} {v:Q2} (h:Fl b v):Fl b (-v.1, -v.2):=fun e=>by show -v.2=0;rw [h e];rfl
theorem ajS (q:Rat) (b c:Bool) (u v:Q2) (hq:Sm 10000 q) (hu:bl 10000 u) (hv:bl 10000 v) (fu:Fl b u) (fv:Fl c v):VP Tryz.prog G 108 [nq q b u,nq q c v] (.tup [nq q (b||c) (u.1 + -v.1,u.2 + -v.2), .int .i64 0]):=by
 have hn:=Ro G q c v hv
 have ha:=aeJ G q b c u (-v.1, -v.2) hq hu ⟨hv.1.neg,hv.2.neg⟩ fu fv.neg
 cases b<;>cases c<;>exact vt [hc hn,hc ha] (by kernel_rfl)
theorem aeK (q:Rat) (b:Bool) (v:Q2) (hq:Sm 1000 q) (hv:bl 20000 v) (fv:Fl b v):VP Tryz.prog G 42 [nq q b v] (.int .i64 (gh q v)):=by
 cases b
 . have e:gh q v=az v.1:=by unfold gh;rw [fv rfl,if_pos (.inl (by rfl))]
   rw [e]
   exact kt G v.1 (hv.1.mono (by omega))
 . exact vt [hc (ajl G q v hq hv)] (by kernel_rfl)
theorem aeL (q:Rat) (b:Bool) (v:Q2) (hq:0<q.num) (hs:Sm 400 q) (hr:b=true->∀ r:Rat,r*r≠q) (hv:bl 100000 v):VP Tryz.prog G 175 [nq q b v] (.bool true):=by
 cases b
 . exact QC G v.1 hv.1
 . exact aeh G q v hq hs (hr rfl) hv
end
end Go.Proofs.YtndoagbiakehnaaGreat
end

section
set_option maxRecDepth 100000
namespace Go.Proofs.YtndoagbiakehnaaGreat
open Go.VL Go.Proofs Go.Lib
section
variable (G:Nat->Option (List AV))
theorem aeM (a b:Rat) (ha:Sm 40000 a) (hb:Sm 40000 b) (h:a≠b):∃ k:Int,k≠0/\VP Tryz.prog G 297 [QV a,QV b] (.int .i64 k):=by
 have s1:=ha.1
 have s2:=ha.2
 have s3:=hb.1
 have s4:=hb.2
 have m1:=MX G a.num (b.den:Int) (by omega) (by rw [Int.natAbs_natCast];omega)
 have m2:=MX G b.num (a.den:Int) (by omega) (by rw [Int.natAbs_natCast];omega)
 have z1:aa (a.num*(b.den:Int)).natAbs<=100000:=Nat.le_trans (bF _ _) (by rw [Int.natAbs_natCast];omega)
 have z2:aa (b.num*(a.den:Int)).natAbs<=100000:=Nat.le_trans (bF _ _) (by rw [Int.natAbs_natCast];omega)
 have hne:a.num*(b.den:Int)≠b.num*(a.den:Int):=fun e=>h (Rat.eq_iff_mul_eq_mul.2 e)
 generalize a.num*(b.den:Int)=x at *
 generalize b.num*(a.den:Int)=y at *
 have h1:=Qz G x y (by omega) (by omega)
 have hz:aa (x-y).natAbs<=300000:=by rw [Int.sub_eq_add_neg];exact Nat.le_trans (Dj _ _) (by rw [Int.natAbs_neg];omega)
 have h2:=GJ G (x-y) (by omega)
 have h3:VP Tryz.prog G 307 [IV x,IV y] (.int .i64 (x-y).sign):=vt [hc h1,hc h2] (by kernel_rfl)
 exact ⟨(x-y).sign,fun e=>hne (by have:=Int.sign_eq_zero_iff_zero.1 e;omega),vt [hc m1,hc m2,hc h3] (by kernel_rfl)⟩
theorem IQ (a b:Rat) (ha:Sm 40000 a) (hb:Sm 40000 b) (h:a≠b):VP Tryz.prog G 279 [EV a,EV b] (.bool false):=by
 obtain ⟨k,k0,hk⟩:=aeM G a b ha hb h
 exact vt [hc hk,Go.VL.hb 26 (bne_iff_ne.2 k0)] (by kernel_rfl)
theorem ZA (v:Q2) (hv:bl 40000 v):VP Tryz.prog G 279 [E1 v,E1 v] (.bool true):=vt [hc (Rm G v.1 hv.1),hc (Rm G v.2 hv.2)] (by kernel_rfl)
theorem Rp (p q:Rat) (hp:Sm 40000 p) (hq:Sm 40000 q) (h:p≠q):VP Tryz.prog G 252 [T1 p,T1 q] (.bool false):=vt [hc (IQ G p q hp hq h)] (by kernel_rfl)
theorem G7 (p q:Rat):VP Tryz.prog G 252 [T2 p q, .nils] (.bool true):=vt [] (by kernel_rfl)
theorem ajT (x p q:Rat):VP Tryz.prog G 252 [T1 x,T2 p q] (.bool false):=vt [] (by kernel_rfl)
theorem Cv (p q:Rat) (hp:Sm 40000 p):VP Tryz.prog G 252 [T2 p q,T1 p] (.bool true):=vt [hc (Rn G p hp)] (by kernel_rfl)
theorem K4 (p q x:Rat) (hp:Sm 40000 p) (hx:Sm 40000 x) (h:p≠x):VP Tryz.prog G 252 [T2 p q,T1 x] (.bool false):=vt [hc (IQ G p x hp hx h)] (by kernel_rfl)
theorem xI (p q:Rat) (hp:Sm 40000 p) (hq:Sm 40000 q):VP Tryz.prog G 252 [T2 p q,T2 p q] (.bool true):=vt [hc (Rn G p hp),hc (ZA G (q,0) ⟨hq,Sm.zero.mono (by omega)⟩)] (by kernel_rfl)
theorem aeN (p q r s:Rat) (hp:Sm 40000 p) (hr:Sm 40000 r) (h:p≠r):VP Tryz.prog G 252 [T2 p q,T2 r s] (.bool false):=vt [hc (IQ G p r hp hr h)] (by kernel_rfl)
theorem Ai (p q:Rat) (w:Q4):VP Tryz.prog G 254 [T2 p q,E2 w] (E2 w):=VP.dm hN [] [([3],j4 w)] (.osl [3] 4 0 4 false) (by kernel_rfl) (fun σ h=>xG (h ([3],j4 w) (by simp)))
theorem Ut (p q:Rat) (v:Q2):VP Tryz.prog G 254 [T2 p q,E1 v] (E2 (a2 v)):=VP.dm hN [hc (jf G 0 (by decide) (by decide)),hc (jf G 0 (by decide) (by decide))] [([25],j4 (a2 v))] (.osl [25] 4 0 4 false) (by kernel_rfl) (fun σ h=>xG (h ([25],j4 (a2 v)) (by simp)))
theorem aeO (p q x:Rat):VP Tryz.prog G 254 [T2 p q,EV x] (E2 (r2 x)):=VP.dm hN [hc (jf G 0 (by decide) (by decide)),hc (jf G 0 (by decide) (by decide)),hc (jf G 0 (by decide) (by decide))] [([36],j4 (r2 x))] (.osl [36] 4 0 4 false) (by kernel_rfl) (fun σ h=>xG (h ([36],j4 (r2 x)) (by simp)))
theorem ZB (p x:Rat):VP Tryz.prog G 255 [T1 p, .nils,EV x] (E1 (x,0)):=vt [hc (QW G p x)] (by kernel_rfl)
theorem aeP (p q x:Rat):VP Tryz.prog G 255 [T2 p q, .nils,EV x] (E2 (r2 x)):=vt [hc (Zf G p q x)] (by kernel_rfl)
theorem ri1 (p x:Rat) (l:List AV):VP Tryz.prog G 255 [T1 p, .sl 1 l,EV x] (E1 (x,0)):=vt [hc (QW G p x)] (by kernel_rfl)
theorem ri2 (p q x:Rat) (l:List AV):VP Tryz.prog G 255 [T2 p q, .sl 1 l,EV x] (E2 (r2 x)):=vt [hc (Zf G p q x)] (by kernel_rfl)
theorem ZC {p w y:Rat}:aR p (y,0) (0,w)=(0,y*w):=by unfold aR;refine Prod.ext ?_ ?_<;>simp only []<;>grind
theorem riA (p w:Rat) (v:Q2) (sp:Sm 1000 p) (sw:Sm 1000 w) (sv:bl 10000 v):VP Tryz.prog G 255 [T1 p, .sl 1 [E1 (0,w)],E1 v] (E1 (v.1,v.2*w)):=by
 have z:∀ k,1<=k->Sm k (0:Rat):=fun k hk=>Sm.zero.mono hk
 have hm:=q9 G p (v.2,0) (0,w) (sp.mono (by omega)) ⟨sv.2.mono (by omega),z _ (by omega)⟩ ⟨z _ (by omega),sw.mono (by omega)⟩
 rw [ZC] at hm
 have ha:=GZ G p (v.1,0) (0,v.2*w) ⟨sv.1.mono (by omega),z _ (by omega)⟩ ⟨z _ (by omega),(sv.2.mul sw).mono (by omega)⟩
 rw [show (((v.1,0):Q2).1+((0,v.2*w):Q2).1,((v.1,0):Q2).2+((0,v.2*w):Q2).2)=(v.1,v.2*w) from by refine Prod.ext ?_ ?_<;>simp only []<;>grind] at ha
 exact vt [hc (ri1 G p v.1 [E1 (0,w)]),hc (ri1 G p v.2 [E1 (0,w)]),hc (yL1 G p (0,w)),hc hm,hc ha] (by kernel_rfl)
theorem riB (p q:Rat) (v:Q2) (l:List AV) (hl:l=[E2 rB]∨l=[E2 rB,E2 rA]) (sp:Sm 1000 p) (sq:Sm 1000 q) (sv:bl 3000 v):VP Tryz.prog G 255 [T2 p q, .sl 1 l,E1 v] (E2 (b2 v)):=by
 have hm:=KT G p q ((v.2,0),(0,0)) rB sp sq (eh sv.2 (by omega)) (Cu.mono (by omega))
 rw [KZ] at hm
 have ha:=G3 G p q ((v.1,0),(0,0)) ((0,0),(v.2,0)) ((eh sv.1 (by omega)).mono (by omega)) ⟨⟨Sm.zero.mono (by omega),Sm.zero.mono (by omega)⟩,⟨sv.2.mono (by omega),Sm.zero.mono (by omega)⟩⟩
 rw [Rk] at ha
 rcases hl with rfl | rfl
 . exact vt [hc (ri2 G p q v.1 [E2 rB]),hc (ri2 G p q v.2 [E2 rB]),hc (Ai G p q rB),hc hm,hc ha] (by kernel_rfl)
 . exact vt [hc (ri2 G p q v.1 [E2 rB,E2 rA]),hc (ri2 G p q v.2 [E2 rB,E2 rA]),hc (Ai G p q rB),hc hm,hc ha] (by kernel_rfl)
theorem aeQ {p q:Rat} {x:Q2}:bD p q ((x.1,0),(x.2,0)) rA=((0,x.1),(0,x.2)):=by
 unfold bD cY aR
 refine Prod.ext (Prod.ext ?_ ?_) (Prod.ext ?_ ?_)<;>simp only []<;>grind
theorem aeR {v:Q4}:bO ((v.1.1,0),(v.1.2,0)) ((0,v.2.1),(0,v.2.2))=rU v:=by
 unfold bO cY rU
 refine Prod.ext (Prod.ext ?_ ?_) (Prod.ext ?_ ?_)<;>simp only []<;>grind
theorem riU (p q:Rat) (v:Q4) (sp:Sm 1000 p) (sq:Sm 1000 q) (sv:cC 3000 v):VP Tryz.prog G 255 [T2 p q, .sl 1 [E2 rB,E2 rA],E2 v] (E2 (rU v)):=by
 have hm:=KT G p q ((v.2.1,0),(v.2.2,0)) rA sp sq ⟨⟨sv.2.1,Sm.zero.mono (by omega)⟩,⟨sv.2.2,Sm.zero.mono (by omega)⟩⟩ (KY.mono (by omega))
 rw [aeQ] at hm
 have ha:=G3 G p q ((v.1.1,0),(v.1.2,0)) ((0,v.2.1),(0,v.2.2)) ⟨⟨sv.1.1.mono (by omega),Sm.zero.mono (by omega)⟩,⟨sv.1.2.mono (by omega),Sm.zero.mono (by omega)⟩⟩ ⟨⟨Sm.zero.mono (by omega),sv.2.1.mono (by omega)⟩,⟨Sm.zero.mono (by omega),sv.2.2.mono (by omega)⟩⟩
 rw [aeR] at ha
 exact vt [hc (riB G p q v.1 _ (.inr rfl) sp sq sv.1),hc (riB G p q v.2 _ (.inr rfl) sp sq sv.2),hc (Ai G p q rA),hc hm,hc ha] (by kernel_rfl)
theorem ajU (p q x:Rat) (w:Q4) (i r:VL.Id):aw Tryz.prog G 255 [T2 p q, .osl i 1 0 1 false,EV x] r [(i,⟨[E2 w],1,false⟩)] { val:=E2 (r2 x),rd:=[i] } :=
 aw.tr (p:=r) (up:=[]) jC (fun _=>i) [hc (Zf G p q x)] [T2 p q, .osl [1] 1 0 1 false,EV x] [([1],⟨[E2 w],1,false⟩)] (E2 (r2 x)) [] (by kernel_rfl) (by show [(T2 p q).cG _, .osl i 1 0 1 false,(EV x).cG _]=_;rw [PU.fix,PU.fix]) (by simp only [aU,bh,bM,aT,bn,PU.fixed];rfl) (PU.fix _) rfl (by simp) (by simp)
theorem aeS (p q x:Rat) (i r:VL.Id) (sp:Sm 1000 p) (sq:Sm 1000 q) (sx:Sm 1000 x):aw Tryz.prog G 255 [T2 p q, .osl i 1 0 1 false,E1 (x,0)] r [(i,⟨[E2 rB],1,false⟩)] { val:=E2 (r2 x),rd:=[i] }:=by
 have hm:=KT G p q (r2 0) rB sp sq (eh (Sm.zero.mono (by omega)) (by omega)) (Cu.mono (by omega))
 rw [KZ] at hm
 have ha:=G3 G p q (r2 x) ((0,0),(0,0)) ((eh sx (by omega)).mono (by omega)) ((eh (Sm.zero) (by omega)).mono (by omega))
 have ea:bO (r2 x) ((0,0),(0,0))=r2 x:=by
   unfold bO cY
   refine Prod.ext (Prod.ext ?_ ?_) (Prod.ext ?_ ?_)<;>simp only []<;>grind
 rw [ea] at ha
 have k:∀ y:Rat,∀ r':VL.Id,aw Tryz.prog G 255 [T2 p q, .osl [1] 1 0 1 false,EV y] r' [([1],⟨[E2 rB],1,false⟩)] { val:=E2 (r2 y),rd:=[[1]] }:=fun y r'=>ajU G p q y rB [1] r'
 exact aw.tr (p:=r) (up:=[]) jC (fun _=>i) [.rel 255 _ [([1],⟨[E2 rB],1,false⟩)] _ (fun r' _=>k x r') (by intro p x hx;rcases List.mem_singleton.1 hx with rfl;simp), .rel 255 _ [([1],⟨[E2 rB],1,false⟩)] _ (fun r' _=>k 0 r') (by intro p x hx;rcases List.mem_singleton.1 hx with rfl;simp),hc (Ai G p q rB),hc hm,hc ha] [T2 p q, .osl [1] 1 0 1 false,E1 (x,0)] [([1],⟨[E2 rB],1,false⟩)] (E2 (r2 x)) [] (by kernel_rfl) (by show [(T2 p q).cG _, .osl i 1 0 1 false,(E1 (x,0)).cG _]=_;rw [PU.fix,PU.fix]) (by simp only [aU,bh,bM,aT,bn,PU.fixed];rfl) (PU.fix _) rfl (by simp) (by simp)
theorem vX1 {σ : ae} {i:VL.Id} {n:Nat} {l:List AV} {T:AV} [PU T] [PU (.sl n l)] {b:Bool} (h : σ i=some ⟨[.sl n l],1,b⟩):View σ (.tup [T, .osl i 1 0 1 false, .int .i64 0]) (.tup [T, .sl 1 [.sl n l], .int .i64 0]):=View.tup (ah.cons (View.pure PU.pure) (ah.cons (iT h rfl (by intro c hc;rcases List.mem_singleton.1 hc with rfl;exact PU.pure)) (ah.cons (View.pure (af.int _ _)) ah.nil)))
theorem vX2 {σ : ae} {i:VL.Id} {v w:Q4} {T:AV} [PU T] {b:Bool} (h : σ i=some ⟨[E2 v,E2 w],1,b⟩):View σ (.tup [T, .osl i 1 0 2 false, .int .i64 0]) (.tup [T, .sl 1 [E2 v,E2 w], .int .i64 0]):=View.tup (ah.cons (View.pure PU.pure) (ah.cons (kr h rfl rfl (by intro c hc;rcases List.mem_singleton.1 hc with rfl;exact PU.pure) (by intro c hc;rcases List.mem_singleton.1 hc with rfl;exact PU.pure)) (ah.cons (View.pure (af.int _ _)) ah.nil)))
theorem rxA {p q w:Rat} (h:sQ p q w):VP Tryz.prog G 253 [T1 p,T1 q] (.tup [T1 p, .sl 1 [E1 (0,w)], .int .i64 0]) :=
 VP.dm hN [hc (ZB G p q),hc (aeD G p q (0,w) h.p0 h.q0 h.sp h.sq ⟨Sm.zero.mono (by omega),h.sw.mono (by omega)⟩ h.np (DV h.w0) (aeC G p q w h.p0 h.q0 h.w0 h.sp h.sq h.nq h.e))] [([31],⟨[E1 (0,w)],1,false⟩)] (.tup [T1 p, .osl [31] 1 0 1 false, .int .i64 0]) (by kernel_rfl) (fun σ k=>vX1 (k ([31],⟨[E1 (0,w)],1,false⟩) (by simp)))
theorem rxN {p q:Rat} (h:jB p q):VP Tryz.prog G 253 [T1 p,T1 q] (.tup [T2 p q, .sl 1 [E2 rB], .int .i64 0]) :=
 VP.dm hN [hc (ZB G p q),hc (Wz G h)] [([31],⟨[E2 rB],1,false⟩)] (.tup [T2 p q, .osl [31] 1 0 1 false, .int .i64 0]) (by kernel_rfl) (fun σ k=>vX1 (k ([31],⟨[E2 rB],1,false⟩) (by simp)))
theorem rxB {p q:Rat} (h:jB p q):VP Tryz.prog G 253 [T2 p q,T1 q] (.tup [T2 p q, .sl 1 [E2 rB], .int .i64 0]) :=
 VP.dm hN [hc (aeP G p q q),hc (aeF G h)] [([31],⟨[E2 rB],1,false⟩)] (.tup [T2 p q, .osl [31] 1 0 1 false, .int .i64 0]) (by kernel_rfl) (fun σ k=>vX1 (k ([31],⟨[E2 rB],1,false⟩) (by simp)))
theorem rxU {p q:Rat} (h:jB p q):VP Tryz.prog G 253 [T1 q,T2 p q] (.tup [T2 q p, .sl 1 [E2 rB,E2 rA], .int .i64 0]) :=
 VP.dm hN [hc (ZB G q p),hc (Wz G h.sym), .rel 255 _ [([31],⟨[E2 rB],1,false⟩)] _ (fun r _=>aeS G q p q [31] r (h.sq.mono (by omega)) (h.sp.mono (by omega)) (h.sq.mono (by omega))) (by intro p x hx;rcases List.mem_singleton.1 hx with rfl;simp),hc (aeE G h.sym)] [([63],⟨[E2 rB,E2 rA],1,false⟩)] (.tup [T2 q p, .osl [63] 1 0 2 false, .int .i64 0]) (by kernel_rfl) (fun σ k=>vX2 (k ([63],⟨[E2 rB,E2 rA],1,false⟩) (by simp)))
theorem rxV {p q:Rat} (h:jB p q):VP Tryz.prog G 253 [T2 q p,T2 p q] (.tup [T2 q p, .sl 1 [E2 rB,E2 rA], .int .i64 0]) :=
 VP.dm hN [hc (aeP G q p p),hc (aeF G h.sym), .rel 255 _ [([31],⟨[E2 rB],1,false⟩)] _ (fun r _=>aeS G q p q [31] r (h.sq.mono (by omega)) (h.sp.mono (by omega)) (h.sq.mono (by omega))) (by intro p x hx;rcases List.mem_singleton.1 hx with rfl;simp),hc (aeE G h.sym)] [([63],⟨[E2 rB,E2 rA],1,false⟩)] (.tup [T2 q p, .osl [63] 1 0 2 false, .int .i64 0]) (by kernel_rfl) (fun σ k=>vX2 (k ([63],⟨[E2 rB,E2 rA],1,false⟩) (by simp)))
end
end Go.Proofs.YtndoagbiakehnaaGreat
end

section
set_option maxRecDepth 100000
namespace Go.Proofs.YtndoagbiakehnaaGreat
open Go.VL Go.Proofs Go.Lib
section
variable (G:Nat->Option (List AV))
theorem yAB {p q:Rat} (h:jB p q) (u v:Q2) (sv:bl 3000 v):VP Tryz.prog G 170 [N1 p u,N1 q v] (.tup [N2 p q (a2 u),N2 p q (b2 v), .int .i64 0]):=by
 have hj:VP Tryz.prog G 220 [.sl 2 [N1 p u,N1 q v]] (.tup [.sl 2 [N2 p q (a2 u),N2 p q (b2 v)], .int .i64 0]):=VP.dm hN [hc (A8 G p),hc (Rp G p q (h.sp.mono (by omega)) (h.sq.mono (by omega)) h.ne),hc (rxN G h),hc (Cv G p q (h.sp.mono (by omega))),hc (Ut G p q u),hc (K4 G p q q (h.sp.mono (by omega)) (h.sq.mono (by omega)) h.ne),hc (rxB G h),hc (riB G p q v _ (.inl rfl) (h.sp.mono (by omega)) (h.sq.mono (by omega)) sv)] [([166],⟨[N2 p q (a2 u),N2 p q (b2 v)],2,false⟩)] (.tup [.osl [166] 2 0 2 false, .int .i64 0]) (by kernel_rfl) (fun σ k=>vJ (k ([166],⟨[N2 p q (a2 u),N2 p q (b2 v)],2,false⟩) (by simp)) rfl rfl (aN _ _ _) (aN _ _ _))
 exact vt [bm [([7],⟨[N1 p u,N1 q v],2,false⟩)] hj (NC rfl rfl (bb _ _) (bb _ _))] (by kernel_rfl)
theorem yTA {p q:Rat} (h:jB p q) (u:Q4) (v:Q2):VP Tryz.prog G 170 [N2 p q u,N1 p v] (.tup [N2 p q (u),N2 p q (a2 v), .int .i64 0]):=by
 have hj:VP Tryz.prog G 220 [.sl 2 [N2 p q u,N1 p v]] (.tup [.sl 2 [N2 p q (u),N2 p q (a2 v)], .int .i64 0]):=VP.dm hN [hc (G7 G p q),hc (Cv G p q (h.sp.mono (by omega))),hc (xI G p q (h.sp.mono (by omega)) (h.sq.mono (by omega))),hc (Ai G p q u),hc (Cv G p q (h.sp.mono (by omega))),hc (Ut G p q v)] [([133],⟨[N2 p q (u),N2 p q (a2 v)],2,false⟩)] (.tup [.osl [133] 2 0 2 false, .int .i64 0]) (by kernel_rfl) (fun σ k=>vJ (k ([133],⟨[N2 p q (u),N2 p q (a2 v)],2,false⟩) (by simp)) rfl rfl (aN _ _ _) (aN _ _ _))
 exact vt [bm [([7],⟨[N2 p q u,N1 p v],2,false⟩)] hj (NC rfl rfl (aN _ _ _) (bb _ _))] (by kernel_rfl)
theorem yAT {p q:Rat} (h:jB p q) (u:Q2) (v:Q4):VP Tryz.prog G 170 [N1 p u,N2 p q v] (.tup [N2 p q (a2 u),N2 p q (v), .int .i64 0]):=by
 have hj:VP Tryz.prog G 220 [.sl 2 [N1 p u,N2 p q v]] (.tup [.sl 2 [N2 p q (a2 u),N2 p q (v)], .int .i64 0]):=VP.dm hN [hc (A8 G p),hc (Cv G p q (h.sp.mono (by omega))),hc (Cv G p q (h.sp.mono (by omega))),hc (Ut G p q u),hc (xI G p q (h.sp.mono (by omega)) (h.sq.mono (by omega))),hc (Ai G p q v)] [([131],⟨[N2 p q (a2 u),N2 p q (v)],2,false⟩)] (.tup [.osl [131] 2 0 2 false, .int .i64 0]) (by kernel_rfl) (fun σ k=>vJ (k ([131],⟨[N2 p q (a2 u),N2 p q (v)],2,false⟩) (by simp)) rfl rfl (aN _ _ _) (aN _ _ _))
 exact vt [bm [([7],⟨[N1 p u,N2 p q v],2,false⟩)] hj (NC rfl rfl (bb _ _) (aN _ _ _))] (by kernel_rfl)
theorem yTB {p q:Rat} (h:jB p q) (u:Q4) (v:Q2) (sv:bl 3000 v):VP Tryz.prog G 170 [N2 p q u,N1 q v] (.tup [N2 p q (u),N2 p q (b2 v), .int .i64 0]):=by
 have hj:VP Tryz.prog G 220 [.sl 2 [N2 p q u,N1 q v]] (.tup [.sl 2 [N2 p q (u),N2 p q (b2 v)], .int .i64 0]):=VP.dm hN [hc (G7 G p q),hc (K4 G p q q (h.sp.mono (by omega)) (h.sq.mono (by omega)) h.ne),hc (rxB G h),hc (xI G p q (h.sp.mono (by omega)) (h.sq.mono (by omega))),hc (Ai G p q u),hc (K4 G p q q (h.sp.mono (by omega)) (h.sq.mono (by omega)) h.ne),hc (rxB G h),hc (riB G p q v _ (.inl rfl) (h.sp.mono (by omega)) (h.sq.mono (by omega)) sv)] [([166],⟨[N2 p q (u),N2 p q (b2 v)],2,false⟩)] (.tup [.osl [166] 2 0 2 false, .int .i64 0]) (by kernel_rfl) (fun σ k=>vJ (k ([166],⟨[N2 p q (u),N2 p q (b2 v)],2,false⟩) (by simp)) rfl rfl (aN _ _ _) (aN _ _ _))
 exact vt [bm [([7],⟨[N2 p q u,N1 q v],2,false⟩)] hj (NC rfl rfl (aN _ _ _) (bb _ _))] (by kernel_rfl)
theorem yBT {p q:Rat} (h:jB p q) (u:Q2) (v:Q4) (sv:cC 3000 v):VP Tryz.prog G 170 [N1 q u,N2 p q v] (.tup [N2 q p (a2 u),N2 q p (rU v), .int .i64 0]):=by
 have hj:VP Tryz.prog G 220 [.sl 2 [N1 q u,N2 p q v]] (.tup [.sl 2 [N2 q p (a2 u),N2 q p (rU v)], .int .i64 0]):=VP.dm hN [hc (A8 G q),hc (K4 G p q q (h.sp.mono (by omega)) (h.sq.mono (by omega)) h.ne),hc (ajT G q p q),hc (rxU G h),hc (Cv G q p (h.sq.mono (by omega))),hc (Ut G q p u),hc (aeN G q p p q (h.sq.mono (by omega)) (h.sp.mono (by omega)) h.ne.symm),hc (rxV G h),hc (riU G q p v (h.sq.mono (by omega)) (h.sp.mono (by omega)) sv)] [([166],⟨[N2 q p (a2 u),N2 q p (rU v)],2,false⟩)] (.tup [.osl [166] 2 0 2 false, .int .i64 0]) (by kernel_rfl) (fun σ k=>vJ (k ([166],⟨[N2 q p (a2 u),N2 q p (rU v)],2,false⟩) (by simp)) rfl rfl (aN _ _ _) (aN _ _ _))
 exact vt [bm [([7],⟨[N1 q u,N2 p q v],2,false⟩)] hj (NC rfl rfl (bb _ _) (aN _ _ _))] (by kernel_rfl)
theorem yTR {p q:Rat} (h:jB p q) (u:Q4) (v:Rat):VP Tryz.prog G 170 [N2 p q u,NV v] (.tup [N2 p q (u),N2 p q (r2 v), .int .i64 0]):=by
 have hj:VP Tryz.prog G 220 [.sl 2 [N2 p q u,NV v]] (.tup [.sl 2 [N2 p q (u),N2 p q (r2 v)], .int .i64 0]):=VP.dm hN [hc (G7 G p q),hc (G7 G p q),hc (xI G p q (h.sp.mono (by omega)) (h.sq.mono (by omega))),hc (Ai G p q u),hc (G7 G p q),hc (aeO G p q v)] [([133],⟨[N2 p q (u),N2 p q (r2 v)],2,false⟩)] (.tup [.osl [133] 2 0 2 false, .int .i64 0]) (by kernel_rfl) (fun σ k=>vJ (k ([133],⟨[N2 p q (u),N2 p q (r2 v)],2,false⟩) (by simp)) rfl rfl (aN _ _ _) (aN _ _ _))
 exact vt [bm [([7],⟨[N2 p q u,NV v],2,false⟩)] hj (NC rfl rfl (aN _ _ _) (eg _))] (by kernel_rfl)
theorem yRT {p q:Rat} (h:jB p q) (u:Rat) (v:Q4):VP Tryz.prog G 170 [NV u,N2 p q v] (.tup [N2 p q (r2 u),N2 p q (v), .int .i64 0]):=by
 have hj:VP Tryz.prog G 220 [.sl 2 [NV u,N2 p q v]] (.tup [.sl 2 [N2 p q (r2 u),N2 p q (v)], .int .i64 0]):=VP.dm hN [hc (aeG G),hc (G7 G p q),hc (G7 G p q),hc (aeO G p q u),hc (xI G p q (h.sp.mono (by omega)) (h.sq.mono (by omega))),hc (Ai G p q v)] [([133],⟨[N2 p q (r2 u),N2 p q (v)],2,false⟩)] (.tup [.osl [133] 2 0 2 false, .int .i64 0]) (by kernel_rfl) (fun σ k=>vJ (k ([133],⟨[N2 p q (r2 u),N2 p q (v)],2,false⟩) (by simp)) rfl rfl (aN _ _ _) (aN _ _ _))
 exact vt [bm [([7],⟨[NV u,N2 p q v],2,false⟩)] hj (NC rfl rfl (eg _) (aN _ _ _))] (by kernel_rfl)
theorem yTT {p q:Rat} (h:jB p q) (u v:Q4):VP Tryz.prog G 170 [N2 p q u,N2 p q v] (.tup [N2 p q (u),N2 p q (v), .int .i64 0]):=by
 have hj:VP Tryz.prog G 220 [.sl 2 [N2 p q u,N2 p q v]] (.tup [.sl 2 [N2 p q (u),N2 p q (v)], .int .i64 0]):=VP.dm hN [hc (G7 G p q),hc (xI G p q (h.sp.mono (by omega)) (h.sq.mono (by omega))),hc (xI G p q (h.sp.mono (by omega)) (h.sq.mono (by omega))),hc (Ai G p q u),hc (xI G p q (h.sp.mono (by omega)) (h.sq.mono (by omega))),hc (Ai G p q v)] [([133],⟨[N2 p q (u),N2 p q (v)],2,false⟩)] (.tup [.osl [133] 2 0 2 false, .int .i64 0]) (by kernel_rfl) (fun σ k=>vJ (k ([133],⟨[N2 p q (u),N2 p q (v)],2,false⟩) (by simp)) rfl rfl (aN _ _ _) (aN _ _ _))
 exact vt [bm [([7],⟨[N2 p q u,N2 p q v],2,false⟩)] hj (NC rfl rfl (aN _ _ _) (aN _ _ _))] (by kernel_rfl)
theorem sQ.one {p w:Rat} (h:sQ p p w):w=1:=by
 have e:=h.e
 have w0:=ym.1 h.w0
 rw [Rat.div_def,Rat.mul_inv_cancel _ (Ax h.p0)] at e
 have:(w-1)*(w+1)=0:=by grind
 rcases Rat.mul_eq_zero.1 this with a | a
 . grind
 . grind
theorem yDD {p q w:Rat} (h:sQ p q w) (u v:Q2) (sv:bl 3000 v):VP Tryz.prog G 170 [N1 p u,N1 q v] (.tup [N1 p u,N1 p (v.1,v.2*w), .int .i64 0]):=by
 by_cases e:p=q
 . subst e
   rw [h.one,Rat.mul_one]
   exact Zy G p u v (h.sp.mono (by omega))
 have hj:VP Tryz.prog G 220 [.sl 2 [N1 p u,N1 q v]] (.tup [.sl 2 [N1 p u,N1 p (v.1,v.2*w)], .int .i64 0]):=VP.dm hN [hc (A8 G p),hc (Rp G p q (h.sp.mono (by omega)) (h.sq.mono (by omega)) e),hc (rxA G h),hc (Na G p (h.sp.mono (by omega))),hc (yL1 G p u),hc (Rp G p q (h.sp.mono (by omega)) (h.sq.mono (by omega)) e),hc (rxA G h),hc (riA G p w v (h.sp.mono (by omega)) (h.sw.mono (by omega)) (sv.mono (by omega)))] [([166],⟨[N1 p u,N1 p (v.1,v.2*w)],2,false⟩)] (.tup [.osl [166] 2 0 2 false, .int .i64 0]) (by kernel_rfl) (fun σ k=>vJ (k ([166],⟨[N1 p u,N1 p (v.1,v.2*w)],2,false⟩) (by simp)) rfl rfl (bb _ _) (bb _ _))
 exact vt [bm [([7],⟨[N1 p u,N1 q v],2,false⟩)] hj (NC rfl rfl (bb _ _) (bb _ _))] (by kernel_rfl)
theorem oDD (f:Nat) {p q w:Rat} (h:sQ p q w) (u v x:Q2) (su:bl 3000 u) (sv:bl 3000 v) (ho:VP Tryz.prog G f [T1 p,E1 u,E1 (v.1,v.2*w)] (E1 x)):VP Tryz.prog G 154 [N1 p u,N1 q v, .fn (.func f) [] []] (.tup [N1 p x, .int .i64 0]):=by
 by_cases e:p=q
 . subst e
   rw [h.one,Rat.mul_one] at ho
   exact yk G f p u v x (h.sp.mono (by omega)) (su.mono (by omega)) (sv.mono (by omega)) ho
 have sx:bl 100000 (v.1,v.2*w):=⟨sv.1.mono (by omega),(sv.2.mul h.sw).mono (by omega)⟩
 have hm:VP Tryz.prog G 228 [.sl 2 [N1 p u,N1 q v]] (.tup [T1 p, .int .i64 0]):=vt [hc (tK G p),hc (nW G p),hc (G5 G p q (h.sp.mono (by omega)) (h.sq.mono (by omega)) e),hc (G5 G q p (h.sq.mono (by omega)) (h.sp.mono (by omega)) (Ne.symm e)),hc (exA G h)] (by kernel_rfl)
 have hj:VP Tryz.prog G 193 [.sl 2 [N1 p u,N1 q v]] (.tup [.sl 2 [N1 p u,N1 p (v.1,v.2*w)], .int .i64 0]):=VP.dm hN [hc hm,hc (wJ G p (h.sp.mono (by omega))),hc (Cn G p u),hc (vD G p u (h.sp.mono (by omega)) (su.mono (by omega))),hc (G5 G p q (h.sp.mono (by omega)) (h.sq.mono (by omega)) e),hc (exA G h),hc (ajI G p w v (h.sp.mono (by omega)) (h.sw.mono (by omega)) (sv.mono (by omega))),hc (vD G p (v.1,v.2*w) (h.sp.mono (by omega)) sx)] [([77],⟨[N1 p u,N1 p (v.1,v.2*w)],2,false⟩)] (.tup [.osl [77] 2 0 2 false, .int .i64 0]) (by kernel_rfl) (fun σ k=>vJ (k ([77],⟨[N1 p u,N1 p (v.1,v.2*w)],2,false⟩) (by simp)) rfl rfl (bb _ _) (bb _ _))
 have hw:ah (ae.of [([6],⟨[N1 p u,N1 q v],2,false⟩)]) [.osl [6] 2 0 2 false] [.sl 2 [N1 p u,N1 q v]]:=ah.cons (II (by simp [ae.of]) rfl rfl (bb _ _) (bb _ _)) ah.nil
 exact vt [bm [([6],⟨[N1 p u,N1 q v],2,false⟩)] hj hw,hc ho] (by kernel_rfl)
end
end Go.Proofs.YtndoagbiakehnaaGreat
end

section
set_option maxRecDepth 100000
namespace Go.Proofs.YtndoagbiakehnaaGreat
open Go.VL Go.Proofs Go.Lib
def sg (a b:Q2):AV := .agg [.bool false, .nils,EV a.1, .nils,EV a.2, .nils,EV b.1, .nils,EV b.2, .nils, .nils, .nils, .nils, .bool false]
def lS (s:List UInt8) (c:AV):AV := .agg (.str s::c.cells)
instance {a b:Q2}:PU (sg a b):=by unfold sg;infer_instance
instance {s:List UInt8} {a b:Q2}:PU (lS s (sg a b)):=by unfold lS sg AV.cells;infer_instance
def sA:AV:=sg (0,0) (4,0)
def sB':AV:=sg (0,0) (0,4)
instance:PU sA:=by unfold sA;infer_instance
instance:PU sB':=by unfold sB';infer_instance
theorem Aj {a b:Q2}:∀ c∈(sg a b).cells,af c:=by intro c hc;simp only [sg,AV.cells,List.mem_cons,List.not_mem_nil,or_false] at hc;rcases hc with rfl | rfl | rfl | rfl | rfl | rfl | rfl | rfl | rfl | rfl | rfl | rfl | rfl | rfl<;>first | exact af.bool _ | exact af.nils | exact b6 _
theorem cO {s:List UInt8} {a b:Q2}:∀ c∈(lS s (sg a b)).cells,af c:=by
 intro c hc
 rcases List.mem_cons.1 hc with rfl | hc
 . exact af.str _
 . exact Aj c hc
section
variable (G:Nat->Option (List AV))
theorem K5:VP Tryz.prog G 31 [sA,sB'] (.tup [V2 (0,0),V2 (4,0),V2 (0,4), .bool true]):=vt [hc (kEq G (0,0) (0,0) true)] (by kernel_rfl)
theorem aeT:VP Tryz.prog G 34 [sA,V2 (0,0),V2 (1,0)] (sg (1,0) (4,0)):=vt [hc (kEq G (0,0) (0,0) true)] (by kernel_rfl)
theorem aeU:VP Tryz.prog G 34 [sB',V2 (0,0),V2 (0,1)] (sg (0,1) (0,4)):=vt [hc (kEq G (0,0) (0,0) true)] (by kernel_rfl)
def rnd (a b c:Q2) (w:Bool):AV := .agg [.nils,EV a.1, .nils,EV a.2, .nils,EV b.1, .nils,EV b.2, .nils,EV c.1, .nils,EV c.2, .bool w]
instance {a b c:Q2} {w:Bool}:PU (rnd a b c w):=by unfold rnd;infer_instance
theorem Uu:VP Tryz.prog G 33 [V2 (0,0),V2 (4,0),V2 (0,4),QV 1] (.tup [rnd (1,0) (0,1) (1,1) true, .int .i64 0]):=VP.tr mZ
 [au [7] (QJ G (4,0) (0,0) (4,0)),au [7] (QJ G (0,4) (0,0) (0,4)),hc (kCr G (4,0) (0,4) (0,4) 16),au [7] (GN G 16),hc (YX G 16 1),hc (YX G 16 1),hc (kFr G 1),hc (QK G (4,0)),au [7] (GN G 4),hc (QK G (0,4)),au [7] (GN G 4),au [7] (Uk G 4 4 16),
  hc (Ul G (4,0) (0,4) 0),au [7] (GN G 0),hc (kAd G 16 0 16),au [7] (GN G 16),au [7] (Uk G 1 16 16),au [7] (GO G 16 16 1),hc (kSb G 4 1 3),au [7] (GN G 3),hc (kSb G 4 1 3),au [7] (GN G 3),hc (YX G 3 1),hc (YX G 3 1),
  au [7] (GO G 1 4 (1/4)),au [7] (kSc G (4,0) (1,0) (1/4)),au [7] (Cl G (0,0) (1,0) (1,0)),au [7] (GO G 1 4 (1/4)),au [7] (kSc G (0,4) (0,1) (1/4)),au [7] (Cl G (0,0) (0,1) (0,1)),
  au [7] (GO G 1 4 (1/4)),au [7] (kSc G (4,0) (1,0) (1/4)),au [7] (GO G 1 4 (1/4)),au [7] (kSc G (0,4) (0,1) (1/4)),au [7] (Cl G (1,0) (0,1) (1,1)),au [7] (GO G 16 16 1),au [7] (kSc G (1,1) (1,1) 1),au [7] (Cl G (0,0) (1,1) (1,1))] (by kernel_rfl)
theorem Uv:VP Tryz.prog G 33 [V2 (0,0),V2 (4,0),V2 (0,4),QV 4] (.tup [.agg [.nils, .nils, .nils, .nils, .nils, .nils, .nils, .nils, .nils, .nils, .nils, .nils, .bool true], .int .i64 16]):=VP.tr mZ
 [au [7] (QJ G (4,0) (0,0) (4,0)),au [7] (QJ G (0,4) (0,0) (0,4)),hc (kCr G (4,0) (0,4) (0,4) 16),au [7] (GN G 16),hc (YX G 16 1),hc (YX G 16 1),hc (kFr G 4),hc (QK G (4,0)),au [7] (GN G 4),hc (QK G (0,4)),au [7] (GN G 4),au [7] (Uk G 4 4 16),
  hc (Ul G (4,0) (0,4) 0),au [7] (GN G 0),hc (kAd G 16 0 16),au [7] (GN G 16),au [7] (Uk G 4 16 64),au [7] (GO G 64 16 4),hc (kSb G 4 4 0),au [7] (GN G 0),hc (kSb G 4 4 0),au [7] (GN G 0),hc (YX G 0 0)] (by kernel_rfl)
theorem ajZ:VP Tryz.prog G 64 [sA,QV 2] (.tup [sg (0,2) (4,2), .int .i64 0]):=VP.tr qT
 [hc (kFr G 2),au [5] (QJ G (4,0) (0,0) (4,0)),hc ((show ((-(0:Rat)),(4:Rat))=((0:Rat),(4:Rat)) by decide +kernel)▸V6 G (4,0):VP Tryz.prog G 131 [V2 (4,0)] (V2 (0,4))),hc (QK G (0,4)),au [5] (GN G 4),au [5] (GO G 2 4 (1/2)),au [5] (kSc G (0,4) (0,2) (1/2)),au [5] (Cl G (0,0) (0,2) (0,2)),au [5] (Cl G (4,0) (0,2) (4,2))] (by kernel_rfl)
end
end Go.Proofs.YtndoagbiakehnaaGreat
end

section
set_option maxRecDepth 100000
namespace Go.Proofs.YtndoagbiakehnaaGreat
open Go.VL Go.Proofs Go.Lib
def pr (p q r s:Q2):AV := .sl 15 [lS [97] (sg p q),lS [98] (sg r s)]
theorem lT {l:List AV} (h:∀ e∈l,∀ c∈e.cells,af c):∀ c∈flat l,af c:=by
 intro c hc
 obtain ⟨e,he,hc⟩:=List.mem_flatMap.1 hc
 exact h e he c hc
theorem PU.sl1 {k:Nat} {a:AV} [h:PU a] (ha:∀ c∈a.cells,af c):PU (.sl k [a]):=PU.slice (lT (by intro e he;simp at he;subst he;exact ha)) (by intro c hc ρ;simp at hc;subst hc;exact h.fix ρ)
theorem PU.sl2 {k:Nat} {a b:AV} [h:PU a] [g:PU b] (ha:∀ c∈a.cells,af c) (hb:∀ c∈b.cells,af c):PU (.sl k [a,b]):=PU.slice (lT (by intro e he;simp at he;rcases he with rfl | rfl;exact ha;exact hb)) (by intro c hc ρ;simp at hc;rcases hc with rfl | rfl;exact h.fix ρ;exact g.fix ρ)
instance {p q r s:Q2}:PU (pr p q r s):=PU.sl2 cO cO
def WC (a:List UInt8):AV := .sl 1 [.str a]
def st2 (a b:List UInt8):AV := .sl 1 [.str a, .str b]
instance {a:List UInt8}:PU (WC a):=PU.sl1 (by intro c hc;simp [AV.cells] at hc;subst hc;exact af.str _)
instance {a b:List UInt8}:PU (st2 a b):=PU.sl2 (by intro c hc;simp [AV.cells] at hc;subst hc;exact af.str _) (by intro c hc;simp [AV.cells] at hc;subst hc;exact af.str _)
section
variable (G:Nat->Option (List AV)) (p q r s:Q2)
theorem a1 (n m:List UInt8) (b:Bool) (h:(n==m)=b):VP Tryz.prog G 92 [lS n (sg p q), .ep [.str m] 0] (.bool b):=vt [hb 7 h] (by kernel_rfl)
theorem aIF (m:List UInt8) (x y:Bool) (i:Int) (hx:([97]==m)=x) (hy:([98]==m)=y) (hi:(if x then 0 else if y then 1 else -1)=i):VP Tryz.prog G 91 [pr p q r s, .fn (.func 92) [] [.ep [.str m] 0]] (.int .i64 i):=by
 cases x<;>cases y<;>cases hi
 . exact vt [hc (a1 G p q _ m _ hx),hc (a1 G r s _ m _ hy)] (by kernel_rfl)
 . exact vt [hc (a1 G p q _ m _ hx),hc (a1 G r s _ m _ hy)] (by kernel_rfl)
 . exact vt [hc (a1 G p q _ m _ hx)] (by kernel_rfl)
 . exact vt [hc (a1 G p q _ m _ hx)] (by kernel_rfl)
theorem aIx (m:List UInt8) (i:Int) (h:(if [97]==m then 0 else if [98]==m then 1 else -1)=i:=by decide):VP Tryz.prog G 35 [pr p q r s, .str m] (.int .i64 i):=by
 have hv:ah (ae.of [([0],⟨[.str m],1,false⟩)]) [pr p q r s, .fn (.func 92) [] [.ref [0] 0 0]] [pr p q r s, .fn (.func 92) [] [.ep [.str m] 0]]:=ah.cons (View.pure PU.pure) (ah.cons (View.fn ah.nil (ah.cons (View.ref (bk:=⟨[.str m],1,false⟩) (by simp [ae.of]) rfl (ah.pure (by simp [AV.cells,af.str]))) ah.nil)) ah.nil)
 exact vt [bm [([0],⟨[.str m],1,false⟩)] (aIF G p q r s m _ _ i rfl rfl h) hv] (by kernel_rfl)
theorem aFa:VP Tryz.prog G 74 [pr p q r s, .str [97]] (.tup [sg p q, .bool true]):=vt [hc (aIx G p q r s [97] 0)] (by kernel_rfl)
theorem aFb:VP Tryz.prog G 74 [pr p q r s, .str [98]] (.tup [sg r s, .bool true]):=vt [hc (aIx G p q r s [98] 1)] (by kernel_rfl)
theorem aj1 (m:List UInt8):VP Tryz.prog G 190 [.sl 1 [], .str m] (.int .i64 (-1)):=vt [] (by kernel_rfl)
theorem aj2:VP Tryz.prog G 190 [WC [97], .str [98]] (.int .i64 (-1)):=vt [] (by kernel_rfl)
theorem aeV (m:List UInt8):VP Tryz.prog G 139 [.sl 1 [], .str m] (.bool false):=vt [hc (aj1 G m)] (by kernel_rfl)
theorem aj3:VP Tryz.prog G 139 [WC [97], .str [98]] (.bool false):=vt [hc (aj2 G)] (by kernel_rfl)
theorem aj4:VP Tryz.prog G 73 [st2 [97] [98]] (.bool false):=vt [hc (aeV G [97]),hc (aj3 G)] (by kernel_rfl)
theorem aj5:VP Tryz.prog G 73 [WC [97]] (.bool false):=vt [hc (aeV G [97])] (by kernel_rfl)
theorem vO {σ : ae} {id:VL.Id} {k n:Nat} {l:List AV} (h : σ id=some ⟨l,k,false⟩) (hn:l.length=n) (hf:∀ e∈l,e.size=k) (hp:∀ e∈l,∀ c∈e.cells,af c):View σ (.osl id k 0 n false) (.sl k l):=by
 subst hn
 exact View.osl (bk:=⟨l,k,false⟩) h rfl (by simp) (by rw [List.drop_zero,List.take_length];exact ah.pure (lT hp)) rfl hf
theorem vTa {σ : ae} {a b:AV} {e:Int} (h:View σ a b):View σ (.tup [a, .int .i64 e]) (.tup [b, .int .i64 e]):=View.tup (ah.cons h (ah.cons (View.pure (af.int _ _)) ah.nil))
theorem aeW:VP Tryz.prog G 30 [.str [102],pr p q r s,st2 [97] [98]] (.tup [.sl 14 [sg p q,sg r s], .int .i64 0]):=VP.dm hN [hc (QG G [102]),hc (aj4 G),hc (aFa G p q r s),hc (aFb G p q r s)] [([16],⟨[sg p q,sg r s],14,false⟩)] (.tup [.osl [16] 14 0 2 false, .int .i64 0]) (by kernel_rfl) (fun σ h=>vTa (vO (h ([16],⟨[sg p q,sg r s],14,false⟩) (by simp)) rfl (by intro e he;simp at he;rcases he with rfl | rfl<;>rfl) (by intro e he;simp at he;rcases he with rfl | rfl<;>exact Aj)))
theorem aj6:VP Tryz.prog G 30 [.str [103],pr p q r s,WC [97]] (.tup [.sl 14 [sg p q], .int .i64 0]):=VP.dm hN [hc (QG G [103]),hc (aj5 G),hc (aFa G p q r s)] [([16],⟨[sg p q],14,false⟩)] (.tup [.osl [16] 14 0 1 false, .int .i64 0]) (by kernel_rfl) (fun σ h=>vTa (vO (h ([16],⟨[sg p q],14,false⟩) (by simp)) rfl (by intro e he;simp at he;subst he;rfl) (by intro e he;simp at he;subst he;exact Aj)))
def x1:AV:=NX.av ⟨[102,47,48],⟨true,(1,0),(0,1),(1,1),true⟩⟩
def x2:AV:=lS [103,47,97] (sg (0,2) (4,2))
instance:PU x1:=by unfold x1;infer_instance
instance:PU x2:=by unfold x2;infer_instance
theorem mA:∀ c∈x1.cells,af c:=u9 _
theorem oY:∀ c∈x2.cells,af c:=cO
instance:PU (.sl 15 [x1]):=PU.sl1 mA
instance:PU (.sl 15 [x2]):=PU.sl1 oY
theorem aj7:VP Tryz.prog G 160 [x1] (.bool false):=vt [] (by kernel_rfl)
theorem aj8:VP Tryz.prog G 161 [x1, .ep [pr p q r s] 0] (.bool false):=vt [hc (aIx G p q r s [102,47,48] (-1))] (by kernel_rfl)
theorem aj9:VP Tryz.prog G 91 [.sl 15 [x1], .fn (.func 160) [] []] (.int .i64 (-1)):=vt [hc (aj7 G)] (by kernel_rfl)
theorem aka:VP Tryz.prog G 91 [.sl 15 [x1], .fn (.func 161) [] [.ep [pr p q r s] 0]] (.int .i64 (-1)):=vt [hc (aj8 G p q r s)] (by kernel_rfl)
theorem akb:VP Tryz.prog G 162 [.sl 15 [x1], .fn (.func 160) [] []] (.bool false):=vt [hc (aj9 G)] (by kernel_rfl)
theorem akc:VP Tryz.prog G 162 [.sl 15 [x1], .fn (.func 161) [] [.ep [pr p q r s] 0]] (.bool false):=vt [hc (aka G p q r s)] (by kernel_rfl)
theorem akd:VP Tryz.prog G 93 [pr p q r s, .sl 15 [x1]] (.int .i64 0):=by
 have hv:ah (ae.of [([0],⟨[pr p q r s],1,false⟩)]) [.sl 15 [x1], .fn (.func 161) [] [.ref [0] 0 0]] [.sl 15 [x1], .fn (.func 161) [] [.ep [pr p q r s] 0]]:=ah.cons (View.pure PU.pure) (ah.cons (View.fn ah.nil (ah.cons (View.ref (bk:=⟨[pr p q r s],1,false⟩) (by simp [ae.of]) rfl (ah.pure (by intro c hc;rcases List.mem_singleton.1 hc with rfl;exact PU.pure))) ah.nil)) ah.nil)
 exact vt [hc (akb G),bm [([0],⟨[pr p q r s],1,false⟩)] (akc G p q r s) hv] (by kernel_rfl)
theorem ake:VP Tryz.prog G 160 [x2] (.bool false):=vt [] (by kernel_rfl)
theorem akf:VP Tryz.prog G 161 [x2, .ep [pr p q r s] 0] (.bool false):=vt [hc (aIx G p q r s [103,47,97] (-1))] (by kernel_rfl)
theorem akg:VP Tryz.prog G 91 [.sl 15 [x2], .fn (.func 160) [] []] (.int .i64 (-1)):=vt [hc (ake G)] (by kernel_rfl)
theorem akh:VP Tryz.prog G 91 [.sl 15 [x2], .fn (.func 161) [] [.ep [pr p q r s] 0]] (.int .i64 (-1)):=vt [hc (akf G p q r s)] (by kernel_rfl)
theorem aki:VP Tryz.prog G 162 [.sl 15 [x2], .fn (.func 160) [] []] (.bool false):=vt [hc (akg G)] (by kernel_rfl)
theorem akj:VP Tryz.prog G 162 [.sl 15 [x2], .fn (.func 161) [] [.ep [pr p q r s] 0]] (.bool false):=vt [hc (akh G p q r s)] (by kernel_rfl)
theorem akk:VP Tryz.prog G 93 [pr p q r s, .sl 15 [x2]] (.int .i64 0):=by
 have hv:ah (ae.of [([0],⟨[pr p q r s],1,false⟩)]) [.sl 15 [x2], .fn (.func 161) [] [.ref [0] 0 0]] [.sl 15 [x2], .fn (.func 161) [] [.ep [pr p q r s] 0]]:=ah.cons (View.pure PU.pure) (ah.cons (View.fn ah.nil (ah.cons (View.ref (bk:=⟨[pr p q r s],1,false⟩) (by simp [ae.of]) rfl (ah.pure (by intro c hc;rcases List.mem_singleton.1 hc with rfl;exact PU.pure))) ah.nil)) ah.nil)
 exact vt [hc (aki G),bm [([0],⟨[pr p q r s],1,false⟩)] (akj G p q r s) hv] (by kernel_rfl)
theorem akl:VP Tryz.prog G 94 [.sl 1 [pr p q r s, .sl 15 [x1]]] (.sl 15 [lS [97] (sg p q),lS [98] (sg r s),x1]):=VP.dm hN
 [.rel 163 _ [] _ (fun p _=>Ds dy 3 (by decide) (by decide) p) (by intro p x hx;simp at hx)] [([18,33],⟨[lS [97] (sg p q),lS [98] (sg r s),x1],15,false⟩)] (.osl [18,33] 15 0 3 false) (by kernel_rfl)
 (fun σ h=>vO (h ([18,33],⟨[lS [97] (sg p q),lS [98] (sg r s),x1],15,false⟩) (by simp)) rfl (by intro e he;simp at he;rcases he with rfl | rfl | rfl<;>rfl) (by intro e he;simp at he;rcases he with rfl | rfl | rfl;exact cO;exact cO;exact mA))
theorem akm:VP Tryz.prog G 94 [.sl 1 [pr p q r s, .sl 15 [x2]]] (.sl 15 [lS [97] (sg p q),lS [98] (sg r s),x2]):=VP.dm hN
 [.rel 163 _ [] _ (fun p _=>Ds dy 3 (by decide) (by decide) p) (by intro p x hx;simp at hx)] [([18,33],⟨[lS [97] (sg p q),lS [98] (sg r s),x2],15,false⟩)] (.osl [18,33] 15 0 3 false) (by kernel_rfl)
 (fun σ h=>vO (h ([18,33],⟨[lS [97] (sg p q),lS [98] (sg r s),x2],15,false⟩) (by simp)) rfl (by intro e he;simp at he;rcases he with rfl | rfl | rfl<;>rfl) (by intro e he;simp at he;rcases he with rfl | rfl | rfl;exact cO;exact cO;exact oY))
theorem akn:VP Tryz.prog G 36 [pr p q r s, .sl 15 [x1]] (.tup [.sl 15 [lS [97] (sg p q),lS [98] (sg r s),x1], .int .i64 0]):=by
 have hv:ah (ae.of [([10],⟨[pr p q r s, .sl 15 [x1]],1,false⟩)]) [.osl [10] 1 0 2 false] [.sl 1 [pr p q r s, .sl 15 [x1]]]:=ah.cons (vO (by simp [ae.of]) rfl (by intro e he;simp at he;rcases he with rfl | rfl<;>rfl) (by intro e he c hc;simp at he;rcases he with rfl | rfl<;>(rcases List.mem_singleton.1 hc with rfl;exact PU.pure))) ah.nil
 haveI:PU (.sl 15 [lS [97] (sg p q),lS [98] (sg r s),x1]):=PU.slice (lT (by intro e he;simp at he;rcases he with rfl | rfl | rfl;exact cO;exact cO;exact mA)) (by intro e he ρ;simp at he;rcases he with rfl | rfl | rfl<;>exact PU.fix ρ)
 exact vt [hc (akd G p q r s),bm [([10],⟨[pr p q r s, .sl 15 [x1]],1,false⟩)] (akl G p q r s) hv] (by kernel_rfl)
theorem ako:VP Tryz.prog G 36 [pr p q r s, .sl 15 [x2]] (.tup [.sl 15 [lS [97] (sg p q),lS [98] (sg r s),x2], .int .i64 0]):=by
 have hv:ah (ae.of [([10],⟨[pr p q r s, .sl 15 [x2]],1,false⟩)]) [.osl [10] 1 0 2 false] [.sl 1 [pr p q r s, .sl 15 [x2]]]:=ah.cons (vO (by simp [ae.of]) rfl (by intro e he;simp at he;rcases he with rfl | rfl<;>rfl) (by intro e he c hc;simp at he;rcases he with rfl | rfl<;>(rcases List.mem_singleton.1 hc with rfl;exact PU.pure))) ah.nil
 haveI:PU (.sl 15 [lS [97] (sg p q),lS [98] (sg r s),x2]):=PU.slice (lT (by intro e he;simp at he;rcases he with rfl | rfl | rfl;exact cO;exact cO;exact oY)) (by intro e he ρ;simp at he;rcases he with rfl | rfl | rfl<;>exact PU.fix ρ)
 exact vt [hc (akk G p q r s),bm [([10],⟨[pr p q r s, .sl 15 [x2]],1,false⟩)] (akm G p q r s) hv] (by kernel_rfl)
end
end Go.Proofs.YtndoagbiakehnaaGreat
end

section
set_option maxRecDepth 100000
namespace Go.Proofs.YtndoagbiakehnaaGreat
open Go.VL Go.Proofs Go.Lib
section
variable (G:Nat->Option (List AV)) (p q r s:Q2)
theorem zq (k:Rat) (i:Int) (e:az k=i:=by decide +kernel) (h:qB k=true:=by decide +kernel):VP Tryz.prog G 32 [QV k] (.int .i64 i):=kQs G k i e h
theorem aCl (π : VL.Id):aw Tryz.prog G 9 [pr p q r s] π [] { val := .osl (5 :: π) 15 0 2 false,rd:=[],up:=[(5 :: π,some ⟨[lS [97] (sg p q),lS [98] (sg r s)],15,false⟩)] } :=
 aw.tr (up:=[(5 :: π,⟨[lS [97] (sg p q),lS [98] (sg r s)],15,false⟩)]) (p := π) cu (fun _=>[]) [] [pr p q r s] [] (.osl [5,0] 15 0 2 false) [([5,0],⟨[lS [97] (sg p q),lS [98] (sg r s)],15,false⟩)] (by kernel_rfl) (by rw [nE.fix]) rfl rfl (by simp [oa,cN.cG,aT,bn,PU.fixed,iZ]) (by simp) (by simp)
def w1:AV := .sl 15 [lS [97] (sg (1,0) (4,0)),lS [98] (sg (0,1) (0,4)),x1]
def Hw:AV:=pr (0,0) (4,0) (0,0) (0,4)
instance:PU Hw:=by unfold Hw;infer_instance
theorem aF4:VP Tryz.prog G 8 [.str [102],Hw, .str [97], .str [98],QV 4] (.tup [.nils, .int .i64 16]):=by
 have hv:ah (ae.of [([7],⟨[.str [97], .str [98]],1,false⟩)]) [.str [102],Hw, .osl [7] 1 0 2 false] [.str [102],Hw,st2 [97] [98]]:=ah.cons (View.pure PU.pure) (ah.cons (View.pure PU.pure) (ah.cons (vO (by simp [ae.of]) rfl (by intro e he;simp at he;rcases he with rfl | rfl<;>rfl) (by intro e he c hc;simp at he;rcases he with rfl | rfl<;>(rcases List.mem_singleton.1 hc with rfl;exact PU.pure))) ah.nil))
 exact vt [bm [([7],⟨[.str [97], .str [98]],1,false⟩)] (aeW G (0,0) (4,0) (0,0) (0,4)) hv,hc (K5 G),hc (zq G 4 1),hc (Uv G)] (by kernel_rfl)
theorem vS2 {σ : ae} {i:VL.Id} {a b:List UInt8} (h : σ i=some ⟨[.str a, .str b],1,false⟩):View σ (.osl i 1 0 2 false) (st2 a b):=vO h rfl (by intro e he;simp at he;rcases he with rfl | rfl<;>rfl) (by intro e he c hc;simp at he;rcases he with rfl | rfl<;>(rcases List.mem_singleton.1 hc with rfl;exact PU.pure))
theorem vS1 {σ : ae} {i:VL.Id} {a:List UInt8} (h : σ i=some ⟨[.str a],1,false⟩):View σ (.osl i 1 0 1 false) (WC a):=vO h rfl (by intro e he;simp at he;subst he;rfl) (by intro e he c hc;simp at he;subst he;rcases List.mem_singleton.1 hc with rfl;exact PU.pure)
theorem vPr {σ : ae} {i:VL.Id} (h : σ i=some ⟨[lS [97] (sg p q),lS [98] (sg r s)],15,false⟩):View σ (.osl i 15 0 2 false) (pr p q r s):=vO h rfl (by intro e he;simp at he;rcases he with rfl | rfl<;>rfl) (by intro e he;simp at he;rcases he with rfl | rfl<;>exact cO)
theorem vX {σ : ae} {i:VL.Id} {x:AV} (h : σ i=some ⟨[x],15,false⟩) (hx:∀ c∈x.cells,af c) (h1:x.size=15):View σ (.osl i 15 0 1 false) (.sl 15 [x]):=vO h rfl (by intro e he;simp at he;subst he;exact h1) (by intro e he;simp at he;subst he;exact hx)
theorem aF1:VP Tryz.prog G 8 [.str [102],Hw, .str [97], .str [98],QV 1] (.tup [w1, .int .i64 0]):=by
 have hv:ah (ae.of [([7],⟨[.str [97], .str [98]],1,false⟩)]) [.str [102],Hw, .osl [7] 1 0 2 false] [.str [102],Hw,st2 [97] [98]]:=ah.cons (View.pure PU.pure) (ah.cons (View.pure PU.pure) (ah.cons (vS2 (by simp [ae.of])) ah.nil))
 let S:List (VL.Id × cN):=[([5,68],⟨[lS [97] (sg (1,0) (4,0)),lS [98] (sg (0,1) (0,4))],15,false⟩),([111],⟨[x1],15,false⟩)]
 have hw:ah (ae.of S) [.osl [5,68] 15 0 2 false, .osl [111] 15 0 1 false] [pr (1,0) (4,0) (0,1) (0,4), .sl 15 [x1]]:=ah.cons (vPr _ _ _ _ (by simp [ae.of,S])) (ah.cons (vX (by simp [ae.of,S,List.lookup]) mA rfl) ah.nil)
 haveI:PU w1:=PU.slice (lT (by intro e he;simp at he;rcases he with rfl | rfl | rfl;exact cO;exact cO;exact mA)) (by intro e he ρ;simp at he;rcases he with rfl | rfl | rfl<;>exact PU.fix ρ)
 exact vt [bm [([7],⟨[.str [97], .str [98]],1,false⟩)] (aeW G (0,0) (4,0) (0,0) (0,4)) hv,hc (K5 G),hc (zq G 1 1),hc (Uu G), .rel 9 _ [] _ (fun π _=>aCl G (0,0) (4,0) (0,0) (0,4) π) (by intro p x hx;simp at hx),
   hc (aIx G (0,0) (4,0) (0,0) (0,4) [97] 0),hc (aeT G),hc (aIx G (0,0) (4,0) (0,0) (0,4) [98] 1),hc (aeU G),bm S (akn G (1,0) (4,0) (0,1) (0,4)) hw] (by kernel_rfl)
theorem aO:VP Tryz.prog G 20 [.str [103],Hw,WC [97],QV 2] (.tup [.sl 15 [lS [97] sA,lS [98] sB',x2], .int .i64 0]):=by
 have hw:ah (ae.of [([19],⟨[x2],15,false⟩)]) [Hw, .osl [19] 15 0 1 false] [Hw, .sl 15 [x2]]:=ah.cons (View.pure PU.pure) (ah.cons (vX (by simp [ae.of]) oY rfl) ah.nil)
 haveI:PU (.sl 15 [lS [97] sA,lS [98] sB',x2]):=PU.slice (lT (by intro e he;simp at he;rcases he with rfl | rfl | rfl;exact cO;exact cO;exact oY)) (by intro e he ρ;simp at he;rcases he with rfl | rfl | rfl;exact (inferInstance:PU (lS [97] (sg _ _))).fix ρ;exact (inferInstance:PU (lS [98] (sg _ _))).fix ρ;exact PU.fix ρ)
 exact vt [hc (aj6 G (0,0) (4,0) (0,0) (0,4)),hc (zq G 2 1),hc (ajZ G),bm [([19],⟨[x2],15,false⟩)] (ako G (0,0) (4,0) (0,0) (0,4)) hw] (by kernel_rfl)
end
end Go.Proofs.YtndoagbiakehnaaGreat
end

section
set_option maxRecDepth 100000
namespace Go.Proofs.YtndoagbiakehnaaGreat
open Go.VL Go.Proofs Go.Lib
section
variable (G:Nat->Option (List AV)) (p q r s:Q2)
theorem Uw (a b:Q2) (c:Bool) (e:decide (a=b)=c:=by decide +kernel) (h1:(vB a&&vB b)=true:=by decide +kernel):VP Tryz.prog G 19 [V2 a,V2 b] (.bool c):=by
 simp only [Bool.and_eq_true] at h1
 have s1:=(xU h1.1).mono (k:=45000) (by omega)
 have s2:=(xU h1.2).mono (k:=45000) (by omega)
 exact e▸qb G a b s1 s2
theorem Nb (a b:Int) (v:Q2) (e:((a:Rat),(b:Rat))=v:=by decide +kernel) (h:(decide (-100<=a)&&decide (a<=100)&&decide (-100<=b)&&decide (b<=100))=true:=by decide +kernel):VP Tryz.prog G 25 [.int .i64 a, .int .i64 b] (V2 v):=by
 simp only [Bool.and_eq_true,decide_eq_true_eq] at h
 subst e
 exact vk a b (jf G a (by omega) (by omega)) (jf G b (by omega) (by omega)) (KJ G ((a:Rat),(b:Rat)))
theorem Rr (a b c d:Int) (u v:Q2) (h1:VP Tryz.prog G 25 [.int .i64 a, .int .i64 b] (V2 u)) (h2:VP Tryz.prog G 25 [.int .i64 c, .int .i64 d] (V2 v)):VP Tryz.prog G 23 [.int .i64 a, .int .i64 b, .int .i64 c, .int .i64 d] (sg u v):=vt [hc h1,hc h2] (by kernel_rfl)
theorem kE (u v:Q2) (h1:VP Tryz.prog G 19 [V2 u,V2 u] (.bool true)) (h2:VP Tryz.prog G 19 [V2 v,V2 v] (.bool true)):VP Tryz.prog G 68 [sg u v,sg u v] (.bool true):=vt [hc h1,hc h2] (by kernel_rfl)
def xc:AV:=CX.av ⟨true,(1,0),(0,1),(1,1),true⟩
instance:PU xc:=by unfold xc;infer_instance
theorem kX:VP Tryz.prog G 68 [xc,xc] (.bool true):=vt [hc (Uw G (1,0) (1,0) true),hc (Uw G (0,1) (0,1) true),hc (Uw G (1,1) (1,1) true)] (by kernel_rfl)
instance:PU w1:=PU.slice (lT (by intro e he;simp at he;rcases he with rfl | rfl | rfl;exact cO;exact cO;exact mA)) (by intro e he ρ;simp at he;rcases he with rfl | rfl | rfl<;>exact PU.fix ρ)
theorem ZD:VP Tryz.prog G 26 [w1,w1] (.bool true):=vt [hc (kE G (1,0) (4,0) (Uw G (1,0) (1,0) true) (Uw G (4,0) (4,0) true)),hc (kE G (0,1) (0,4) (Uw G (0,1) (0,1) true) (Uw G (0,4) (0,4) true)),hc (kX G)] (by kernel_rfl)
theorem ZE:VP Tryz.prog G 26 [.sl 15 [x2], .sl 15 [x2]] (.bool true):=vt [hc (kE G (0,2) (4,2) (Uw G (0,2) (0,2) true) (Uw G (4,2) (4,2) true))] (by kernel_rfl)
theorem kI (z:Int) (v:Rat) (e:(z:Rat)=v:=by decide +kernel) (h:(decide (-100<=z)&&decide (z<=100))=true:=by decide +kernel):VP Tryz.prog G 24 [.int .i64 z] (QV v):=by
 simp only [Bool.and_eq_true,decide_eq_true_eq] at h
 exact e▸jf G z (by omega) (by omega)
def Lb (i:VL.Id) (b:Bool):VL.Id × cN:=(i,⟨[lS [97] (sg (0,0) (4,0)),lS [98] (sg (0,0) (0,4))],15,b⟩)
theorem aeX {σ : ae} {i:VL.Id} {b:Bool} (h : σ i=some (Lb i b).2):View σ (.osl i 15 0 2 false) Hw:=View.osl (bk:=(Lb i b).2) h rfl (by simp [Lb]) (ah.pure (lT (by intro e he;simp [Lb] at he;rcases he with rfl | rfl<;>exact cO))) rfl (by intro e he;simp at he;rcases he with rfl | rfl<;>rfl)
theorem hvF (i:VL.Id) (b:Bool) (k:Rat):ah (ae.of [Lb i b]) [.str [102], .osl i 15 0 2 false, .str [97], .str [98],QV k] [.str [102],Hw, .str [97], .str [98],QV k]:=ah.cons (View.pure PU.pure) (ah.cons (aeX (b:=b) (by simp [ae.of,Lb])) (ah.pure nE.pure))
theorem Rs:VP Tryz.prog G 5 [] (.bool true):=by
 let S:List (VL.Id × cN):=[Lb [5] true,([24],⟨[.str [97]],1,false⟩)]
 have hO:ah (ae.of S) [.str [103], .osl [5] 15 0 2 false, .osl [24] 1 0 1 false,QV 2] [.str [103],Hw,WC [97],QV 2]:=ah.cons (View.pure PU.pure) (ah.cons (aeX (b:=true) (by simp [ae.of,Lb,S])) (ah.cons (vS1 (by simp [ae.of,S,Lb,List.lookup])) (ah.pure nE.pure)))
 let T:List (VL.Id × cN):=[([44],⟨[lS [97] (sg (1,0) (4,0)),lS [98] (sg (0,1) (0,4)),x1],15,false⟩)]
 have hT:ah (ae.of T) [w1, .osl [44] 15 0 3 false] [w1,w1]:=ah.cons (View.pure PU.pure) (ah.cons (vO (by simp [ae.of,T]) rfl (by intro e he;simp at he;rcases he with rfl | rfl | rfl<;>rfl) (by intro e he;simp at he;rcases he with rfl | rfl | rfl;exact cO;exact cO;exact mA)) ah.nil)
 have hU:ah (ae.of [([71],⟨[x2],15,false⟩)]) [.sl 15 [x2], .osl [71] 15 0 1 false] [.sl 15 [x2], .sl 15 [x2]]:=ah.cons (View.pure PU.pure) (ah.cons (vX (by simp [ae.of]) oY rfl) ah.nil)
 exact vt [hc (Rr G 0 0 4 0 (0,0) (4,0) (Nb G 0 0 _) (Nb G 4 0 _)),hc (Rr G 0 0 0 4 (0,0) (0,4) (Nb G 0 0 _) (Nb G 0 4 _)),hc (kI G 1 1),bm [Lb [5] false] (aF1 G) (hvF [5] false 1),hc (kI G 4 4),bm [Lb [5] true] (aF4 G) (hvF [5] true 4),hc (kI G 2 2),bm S (aO G) hO,
   hc (Nb G 1 0 (1,0)),hc (Nb G 0 1 (0,1)),hc (Nb G 1 1 (1,1)),hc (Rr G 1 0 4 0 (1,0) (4,0) (Nb G 1 0 _) (Nb G 4 0 _)),hc (Rr G 0 1 0 4 (0,1) (0,4) (Nb G 0 1 _) (Nb G 0 4 _)),bm T (ZD G) hT,hc (Rr G 0 2 4 2 (0,2) (4,2) (Nb G 0 2 _) (Nb G 4 2 _)),bm [([71],⟨[x2],15,false⟩)] (ZE G) hU] (by kernel_rfl)
end
end Go.Proofs.YtndoagbiakehnaaGreat
end

section
set_option maxRecDepth 100000
namespace Go.Proofs.YtndoagbiakehnaaGreat
open Go.VL Go.Proofs Go.Lib
theorem Rt:Sm 1 (1:Rat):=Yp (a:=1) (by decide)
section
variable (G:Nat->Option (List AV))
theorem aeY (a b:Q2) (ha:bl 40000 a) (hb:bl 40000 b):VP Tryz.prog G 143 [V2 a,V2 b] (.tup [V2 (bR a b), .int .i64 0]):=Gk a b _ (rK a b _ (M4 G _ _ (ha.1.mono (by omega)) (hb.1.mono (by omega))) (M4 G _ _ (ha.2.mono (by omega)) (hb.2.mono (by omega))))
theorem ZF (a b:Q2) (ha:bl 20000 a) (hb:bl 20000 b):VP Tryz.prog G 87 [V2 a,V2 b] (.tup [NV (cX a b), .int .i64 0]):=KG a b (rK a b (a.1*b.1,a.2*b.2) (DA G _ _ (ha.1.mono (by omega)) (hb.1.mono (by omega))) (DA G _ _ (ha.2.mono (by omega)) (hb.2.mono (by omega)))) (MY G _ _ ((ha.1.mul hb.1).mono (by omega)) ((ha.2.mul hb.2).mono (by omega)))
theorem gEq (a b:Q2) (ha:bl 40000 a) (hb:bl 40000 b):VP Tryz.prog G 75 [V2 a,V2 b] (.bool (decide (a=b))):=Cg a b (nEq G _ _ (ha.1.mono (by omega)) (hb.1.mono (by omega))) (nEq G _ _ (ha.2.mono (by omega)) (hb.2.mono (by omega)))
theorem gSq (a:Q2) (ha:bl 20000 a):VP Tryz.prog G 150 [V2 a] (.tup [NV (cX a a), .int .i64 0]):=z6 a (ZF G a a ha ha)
end
end Go.Proofs.YtndoagbiakehnaaGreat
end

section
set_option maxRecDepth 100000
namespace Go.Proofs.YtndoagbiakehnaaGreat
open Go.VL Go.Proofs Go.Lib
def Rq (q:Rat) (b:Bool):AV:=match b with | true=>T1 q | false => .nils
def Cq (b:Bool) (v:Q2):AV:=match b with | true=>E1 v | false=>EV v.1
instance {q:Rat} {b:Bool}:PU (Rq q b):=by cases b<;>(unfold Rq;infer_instance)
instance {b:Bool} {v:Q2}:PU (Cq b v):=by cases b<;>(unfold Cq;infer_instance)
def VQ (q:Rat) (b:Bool) (u v:Q2):AV := .agg [Rq q b,Cq b u,Rq q b,Cq b v]
instance {q:Rat} {b:Bool} {u v:Q2}:PU (VQ q b u v):=by unfold VQ;infer_instance
theorem ZG {q:Rat} {a b:Q2} {i j k:Nat} (hq:Sm i q) (ha:bl j a) (hb:bl k b):bl (2*j+2*k+i+1) (aR q a b):=⟨((ha.1.mul hb.1).add ((ha.2.mul hb.2).mul hq)).mono (by omega),((ha.1.mul hb.2).add (ha.2.mul hb.1)).mono (by omega)⟩
theorem z2 {k:Nat} {x:Rat} (h:Sm k x) (hk:1<=k):bl k (x,(0:Rat)):=⟨h,Sm.zero.mono hk⟩
theorem vI {v:Q2}:Fl true v:=fun h=>by cases h
section
variable (G:Nat->Option (List AV))
end
end Go.Proofs.YtndoagbiakehnaaGreat
end

section
set_option maxRecDepth 100000
namespace Go.Proofs.YtndoagbiakehnaaGreat
open Go.VL Go.Proofs Go.Lib
def cvQ (q:Rat) (b mF:Bool) (a1 a2 b1 b2 c:Q2) (w:Bool):AV := .agg [.bool mF,Rq q b,Cq b a1,Rq q b,Cq b a2,Rq q b,Cq b b1,Rq q b,Cq b b2, .nils,EV c.1, .nils,EV c.2, .bool w]
instance {q:Rat} {b mF:Bool} {a1 a2 b1 b2 c:Q2} {w:Bool}:PU (cvQ q b mF a1 a2 b1 b2 c w):=by unfold cvQ;infer_instance
structure pV (q:Rat) (b:Bool) (l:Q2):Prop where
 pos:0<q.num
 sm:Sm 200 q
 sl:bl 200 l
 cs:(b=true/\l=(0,1)/\∀ r:Rat,r*r≠q)∨(b=false/\l.2=0/\l.1*l.1=q/\0<l.1.num)
theorem pV.q1 {q:Rat} {b:Bool} {l:Q2} (h:pV q b l):az q=1:=Int.sign_eq_one_of_pos h.pos
theorem pV.q0 {q:Rat} {b:Bool} {l:Q2} (h:pV q b l):q≠0:=fun e=>by have:=h.pos;rw [e] at this;exact absurd this (by decide)
theorem pV.fl {q:Rat} {b:Bool} {l:Q2} (h:pV q b l):Fl b l:=by
 rcases h.cs with ⟨rfl,_,_⟩ | ⟨_,h2,_⟩
 . exact vI
 . exact fun _=>h2
theorem pV.no {q:Rat} {b:Bool} {l:Q2} (h:pV q b l):b=true->∀ r:Rat,r*r≠q:=by
 rcases h.cs with ⟨_,_,h3⟩ | ⟨rfl,_⟩
 . exact fun _=>h3
 . exact fun e=>by cases e
theorem pV.iv {q:Rat} {b:Bool} {l:Q2} (h:pV q b l):cj q l≠0/\((b=true/\l=(0,1)/\mO q l=(0,1/q))∨(b=false/\l.2=0/\l.1≠0/\l.1*l.1=q/\mO q l=(1/l.1,0))):=by
 have h0:=h.q0
 rcases h.cs with ⟨rfl,rfl,_⟩ | ⟨rfl,h2,h3,h4⟩
 . refine ⟨?_, .inl ⟨rfl,rfl, ?_⟩⟩
   . unfold cj;simp only [];grind
   . unfold mO cj;refine Prod.ext ?_ ?_<;>simp only []<;>grind
 . obtain ⟨r,s⟩:=l
   simp only [] at h2 h3 h4
   subst h2
   have hr:r≠0:=fun e=>by rw [e] at h4;exact absurd h4 (by decide)
   refine ⟨?_, .inr ⟨rfl,rfl,hr,h3,Rl hr⟩⟩
   unfold cj;simp only [];grind
theorem pV.n0 {q:Rat} {b:Bool} {l:Q2} (h:pV q b l):cj q l≠0:=h.iv.1
instance:PU zC:=by unfold zC;infer_instance
section
variable (G:Nat->Option (List AV))
theorem Nc (a:Q2) (q:Rat) (b:Bool) (l:Q2) (ha:bl 100 a) (hd:cX a a=q) (h:pV q b l):VP Tryz.prog G 83 [V2 a] (.tup [nq q b l, .int .i64 0]):=by
 have h1:=gSq G a (ha.mono (by omega))
 rw [hd] at h1
 have hs:=h.sm.mono (k:=400) (by omega)
 rcases h.cs with ⟨rfl,rfl,hr⟩ | ⟨rfl,_,hr,h0⟩
 . exact vt [hc h1,hc (Zl G q h.pos hs hr)] (by kernel_rfl)
 . exact vt [hc h1,hc (Zm G q l.1 h.pos hs hr h0 (h.sl.1.mono (by omega)))] (by kernel_rfl)
theorem ae0 (a:Q2) (ha:bl 10000 a):VP Tryz.prog G 131 [V2 a] (V2 (-a.2,a.1)):=by
 have hn:=DG G (-a.1) (ha.1.neg.mono (by omega))
 rw [Rat.neg_neg] at hn
 exact Gu a (DG G _ (ha.2.mono (by omega))) (Gt _ (DG G _ (ha.1.mono (by omega))) hn)
def WD (q x y:Rat) (f:Q2):Q2:=(x+(aR q (y,0) f).1,0+(aR q (y,0) f).2)
def ae1 (q:Rat) (b:Bool) (x:CX) (f:Q2):AV:=cvQ q b false (WD q x.a.1 (-(bR x.b x.a).2) f) (WD q x.a.2 (bR x.b x.a).1 f) (WD q x.b.1 (-(bR x.b x.a).2) f) (WD q x.b.2 (bR x.b x.a).1 f) x.c x.cw
def ae2 (q:Rat) (b:Bool) (x:CX) (f:Q2):AV:=cvQ q b true (WD q x.c.1 (bR x.a x.c).1 f) (WD q x.c.2 (bR x.a x.c).2 f) (WD q x.c.1 (bR x.b x.c).1 f) (WD q x.c.2 (bR x.b x.c).2 f) x.c x.cw
instance {q:Rat} {b:Bool} {x:CX} {f:Q2}:PU (ae1 q b x f):=by unfold ae1;infer_instance
instance {q:Rat} {b:Bool} {x:CX} {f:Q2}:PU (ae2 q b x f):=by unfold ae2;infer_instance
end
end Go.Proofs.YtndoagbiakehnaaGreat
end
