/- For every input, FeatureMirror returns true, and its argument reads afterwards as it read before. Conditions: none. -/
import Derived.Test.YtchdghnpcekegaaGreatC11
import Derived.Test.YtchdghnpcekegaaGreatC10
import Derived.Test.YtchdghnpcekegaaGreatC05
import Derived.Test.YtchdghnpcekegaaGreatC07
import Derived.Deep.Slices
import Derived.Test.YtchdghnpcekegaaGreatProg
import Derived.Test.YtchdghnpcekegaaGreatC08
import Derived.Lib.IndexMore
import Derived.KernelRfl
import Derived.OpenShut
import Derived.ProofKit
import Derived.Test.YtchdghnpcekegaaGreatC03
import Derived.Test.YtchdghnpcekegaaGreatRows
import Derived.Lib.SmallJoins
set_option linter.unusedSimpArgs false
set_option linter.unusedVariables false
section
set_option maxRecDepth 100000
namespace Go.Proofs.YtchdghnpcekegaaGreat
open Go.VL Go.Proofs Go.Lib
def pr (p q r s:Q2):AV := .sl 15 [rh [97] (sg p q),rh [98] (sg r s)]
theorem ri {l:List AV} (h:∀ e∈l,∀ c∈e.cells,aa c):∀ c∈flat l,aa c:=by
 intro c hc
 obtain ⟨e,he,hc⟩:=List.mem_flatMap.1 hc
 exact h e he c hc
theorem PU.sl1 {k:Nat} {a:AV} [h:PU a] (ha:∀ c∈a.cells,aa c):PU (.sl k [a]):=PU.slice (ri (by intro e he;simp at he;subst he;exact ha)) (by intro c hc ρ;simp at hc;subst hc;exact h.fix ρ)
theorem PU.sl2 {k:Nat} {a b:AV} [h:PU a] [g:PU b] (ha:∀ c∈a.cells,aa c) (hb:∀ c∈b.cells,aa c):PU (.sl k [a,b]):=PU.slice (ri (by intro e he;simp at he;rcases he with rfl | rfl;exact ha;exact hb)) (by intro c hc ρ;simp at hc;rcases hc with rfl | rfl;exact h.fix ρ;exact g.fix ρ)
instance {p q r s:Q2}:PU (pr p q r s):=PU.sl2 dD dD
def st1 (a:List UInt8):AV := .sl 1 [.str a]
def st2 (a b:List UInt8):AV := .sl 1 [.str a, .str b]
instance {a:List UInt8}:PU (st1 a):=PU.sl1 (by intro c hc;simp [AV.cells] at hc;subst hc;exact aa.str _)
instance {a b:List UInt8}:PU (st2 a b):=PU.sl2 (by intro c hc;simp [AV.cells] at hc;subst hc;exact aa.str _) (by intro c hc;simp [AV.cells] at hc;subst hc;exact aa.str _)
section
variable (G:Nat->Option (List AV)) (p q r s:Q2)
theorem a1 (n m:List UInt8) (b:Bool) (h:(n==m)=b):VP Tryz.prog G 82 [rh n (sg p q), .ep [.str m] 0] (.bool b):=VP.tr qO [hb 7 h] (by kernel_rfl)
theorem aIF (m:List UInt8) (x y:Bool) (i:Int) (hx:([97]==m)=x) (hy:([98]==m)=y) (hi:(if x then 0 else if y then 1 else -1)=i):VP Tryz.prog G 81 [pr p q r s, .fn (.func 82) [] [.ep [.str m] 0]] (.int .i64 i):=by
 cases x<;>cases y<;>cases hi
 . exact VP.tr aR [hc (a1 G p q _ m _ hx),hc (a1 G r s _ m _ hy)] (by kernel_rfl)
 . exact VP.tr aR [hc (a1 G p q _ m _ hx),hc (a1 G r s _ m _ hy)] (by kernel_rfl)
 . exact VP.tr aR [hc (a1 G p q _ m _ hx)] (by kernel_rfl)
 . exact VP.tr aR [hc (a1 G p q _ m _ hx)] (by kernel_rfl)
theorem aIx (m:List UInt8) (i:Int) (h:(if [97]==m then 0 else if [98]==m then 1 else -1)=i:=by decide):VP Tryz.prog G 39 [pr p q r s, .str m] (.int .i64 i):=by
 have hv:aG (af.of [([0],⟨[.str m],1,false⟩)]) [pr p q r s, .fn (.func 82) [] [.ref [0] 0 0]] [pr p q r s, .fn (.func 82) [] [.ep [.str m] 0]]:=aG.cons (View.pure PU.pure) (aG.cons (View.fn aG.nil (aG.cons (View.ref (bk:=⟨[.str m],1,false⟩) (by simp [af.of]) rfl (aG.pure (by simp [AV.cells,aa.str]))) aG.nil)) aG.nil)
 exact VP.tr te [il [([0],⟨[.str m],1,false⟩)] (aIF G p q r s m _ _ i rfl rfl h) hv] (by kernel_rfl)
theorem aFa:VP Tryz.prog G 47 [pr p q r s, .str [97]] (.tup [sg p q, .bool true]):=VP.tr mX [hc (aIx G p q r s [97] 0)] (by kernel_rfl)
theorem aFb:VP Tryz.prog G 47 [pr p q r s, .str [98]] (.tup [sg r s, .bool true]):=VP.tr mX [hc (aIx G p q r s [98] 1)] (by kernel_rfl)
theorem ajX (m:List UInt8):VP Tryz.prog G 145 [.sl 1 [], .str m] (.int .i64 (-1)):=VP.tr fG [] (by kernel_rfl)
theorem ajY:VP Tryz.prog G 145 [st1 [97], .str [98]] (.int .i64 (-1)):=VP.tr fG [] (by kernel_rfl)
theorem agJ (m:List UInt8):VP Tryz.prog G 96 [.sl 1 [], .str m] (.bool false):=VP.tr eN [hc (ajX G m)] (by kernel_rfl)
theorem ajZ:VP Tryz.prog G 96 [st1 [97], .str [98]] (.bool false):=VP.tr eN [hc (ajY G)] (by kernel_rfl)
theorem aj0:VP Tryz.prog G 46 [st2 [97] [98]] (.bool false):=VP.tr mN [hc (agJ G [97]),hc (ajZ G)] (by kernel_rfl)
theorem aj1:VP Tryz.prog G 46 [st1 [97]] (.bool false):=VP.tr mN [hc (agJ G [97])] (by kernel_rfl)
theorem vO {σ : af} {id:VL.Id} {k n:Nat} {l:List AV} (h : σ id=some ⟨l,k,false⟩) (hn:l.length=n) (hf:∀ e∈l,e.size=k) (hp:∀ e∈l,∀ c∈e.cells,aa c):View σ (.osl id k 0 n false) (.sl k l):=by
 subst hn
 exact View.osl (bk:=⟨l,k,false⟩) h rfl (by simp) (by rw [List.drop_zero,List.take_length];exact aG.pure (ri hp)) rfl hf
theorem vT {σ : af} {a b:AV} {e:Int} (h:View σ a b):View σ (.tup [a, .int .i64 e]) (.tup [b, .int .i64 e]):=View.tup (aG.cons h (aG.cons (View.pure (aa.int _ _)) aG.nil))
theorem agK:VP Tryz.prog G 21 [.str [102],pr p q r s,st2 [97] [98]] (.tup [.sl 14 [sg p q,sg r s], .int .i64 0]):=VP.trV nS [hc (Xc G [102]),hc (aj0 G),hc (aFa G p q r s),hc (aFb G p q r s)] [([16],⟨[sg p q,sg r s],14,false⟩)] (.tup [.osl [16] 14 0 2 false, .int .i64 0]) (by kernel_rfl) (fun σ h=>vT (vO (h ([16],⟨[sg p q,sg r s],14,false⟩) (by simp)) rfl (by intro e he;simp at he;rcases he with rfl | rfl<;>rfl) (by intro e he;simp at he;rcases he with rfl | rfl<;>exact H8)))
theorem aj2:VP Tryz.prog G 21 [.str [103],pr p q r s,st1 [97]] (.tup [.sl 14 [sg p q], .int .i64 0]):=VP.trV nS [hc (Xc G [103]),hc (aj1 G),hc (aFa G p q r s)] [([16],⟨[sg p q],14,false⟩)] (.tup [.osl [16] 14 0 1 false, .int .i64 0]) (by kernel_rfl) (fun σ h=>vT (vO (h ([16],⟨[sg p q],14,false⟩) (by simp)) rfl (by intro e he;simp at he;subst he;rfl) (by intro e he;simp at he;subst he;exact H8)))
def x1:AV:=NX.av ⟨[102,47,48],⟨true,(1,0),(0,1),(1,1),true⟩⟩
def x2:AV:=rh [103,47,97] (sg (0,2) (4,2))
instance:PU x1:=by unfold x1;infer_instance
instance:PU x2:=by unfold x2;infer_instance
theorem sw:∀ c∈x1.cells,aa c:=Dt _
theorem wC:∀ c∈x2.cells,aa c:=dD
instance:PU (.sl 15 [x1]):=PU.sl1 sw
instance:PU (.sl 15 [x2]):=PU.sl1 wC
theorem aj3:VP Tryz.prog G 107 [x1] (.bool false):=VP.tr nT [] (by kernel_rfl)
theorem aj4:VP Tryz.prog G 108 [x1, .ep [pr p q r s] 0] (.bool false):=VP.tr nU [hc (aIx G p q r s [102,47,48] (-1))] (by kernel_rfl)
theorem aj5:VP Tryz.prog G 81 [.sl 15 [x1], .fn (.func 107) [] []] (.int .i64 (-1)):=VP.tr aR [hc (aj3 G)] (by kernel_rfl)
theorem aj6:VP Tryz.prog G 81 [.sl 15 [x1], .fn (.func 108) [] [.ep [pr p q r s] 0]] (.int .i64 (-1)):=VP.tr aR [hc (aj4 G p q r s)] (by kernel_rfl)
theorem aj7:VP Tryz.prog G 109 [.sl 15 [x1], .fn (.func 107) [] []] (.bool false):=VP.tr bh [hc (aj5 G)] (by kernel_rfl)
theorem aj8:VP Tryz.prog G 109 [.sl 15 [x1], .fn (.func 108) [] [.ep [pr p q r s] 0]] (.bool false):=VP.tr bh [hc (aj6 G p q r s)] (by kernel_rfl)
theorem aj9:VP Tryz.prog G 56 [pr p q r s, .sl 15 [x1]] (.int .i64 0):=by
 have hv:aG (af.of [([0],⟨[pr p q r s],1,false⟩)]) [.sl 15 [x1], .fn (.func 108) [] [.ref [0] 0 0]] [.sl 15 [x1], .fn (.func 108) [] [.ep [pr p q r s] 0]]:=aG.cons (View.pure PU.pure) (aG.cons (View.fn aG.nil (aG.cons (View.ref (bk:=⟨[pr p q r s],1,false⟩) (by simp [af.of]) rfl (aG.pure (by intro c hc;rcases List.mem_singleton.1 hc with rfl;exact PU.pure))) aG.nil)) aG.nil)
 exact VP.tr pP [hc (aj7 G),il [([0],⟨[pr p q r s],1,false⟩)] (aj8 G p q r s) hv] (by kernel_rfl)
theorem aka:VP Tryz.prog G 107 [x2] (.bool false):=VP.tr nT [] (by kernel_rfl)
theorem akb:VP Tryz.prog G 108 [x2, .ep [pr p q r s] 0] (.bool false):=VP.tr nU [hc (aIx G p q r s [103,47,97] (-1))] (by kernel_rfl)
theorem akc:VP Tryz.prog G 81 [.sl 15 [x2], .fn (.func 107) [] []] (.int .i64 (-1)):=VP.tr aR [hc (aka G)] (by kernel_rfl)
theorem akd:VP Tryz.prog G 81 [.sl 15 [x2], .fn (.func 108) [] [.ep [pr p q r s] 0]] (.int .i64 (-1)):=VP.tr aR [hc (akb G p q r s)] (by kernel_rfl)
theorem ake:VP Tryz.prog G 109 [.sl 15 [x2], .fn (.func 107) [] []] (.bool false):=VP.tr bh [hc (akc G)] (by kernel_rfl)
theorem akf:VP Tryz.prog G 109 [.sl 15 [x2], .fn (.func 108) [] [.ep [pr p q r s] 0]] (.bool false):=VP.tr bh [hc (akd G p q r s)] (by kernel_rfl)
theorem akg:VP Tryz.prog G 56 [pr p q r s, .sl 15 [x2]] (.int .i64 0):=by
 have hv:aG (af.of [([0],⟨[pr p q r s],1,false⟩)]) [.sl 15 [x2], .fn (.func 108) [] [.ref [0] 0 0]] [.sl 15 [x2], .fn (.func 108) [] [.ep [pr p q r s] 0]]:=aG.cons (View.pure PU.pure) (aG.cons (View.fn aG.nil (aG.cons (View.ref (bk:=⟨[pr p q r s],1,false⟩) (by simp [af.of]) rfl (aG.pure (by intro c hc;rcases List.mem_singleton.1 hc with rfl;exact PU.pure))) aG.nil)) aG.nil)
 exact VP.tr pP [hc (ake G),il [([0],⟨[pr p q r s],1,false⟩)] (akf G p q r s) hv] (by kernel_rfl)
theorem akh:VP Tryz.prog G 57 [.sl 1 [pr p q r s, .sl 15 [x1]]] (.sl 15 [rh [97] (sg p q),rh [98] (sg r s),x1]):=VP.trV dS
 [.rel 110 _ [] _ (fun p _=>K9 er 3 (by decide) (by decide) p) (by intro p x hx;simp at hx)] [([18,33],⟨[rh [97] (sg p q),rh [98] (sg r s),x1],15,false⟩)] (.osl [18,33] 15 0 3 false) (by kernel_rfl)
 (fun σ h=>vO (h ([18,33],⟨[rh [97] (sg p q),rh [98] (sg r s),x1],15,false⟩) (by simp)) rfl (by intro e he;simp at he;rcases he with rfl | rfl | rfl<;>rfl) (by intro e he;simp at he;rcases he with rfl | rfl | rfl;exact dD;exact dD;exact sw))
theorem aki:VP Tryz.prog G 57 [.sl 1 [pr p q r s, .sl 15 [x2]]] (.sl 15 [rh [97] (sg p q),rh [98] (sg r s),x2]):=VP.trV dS
 [.rel 110 _ [] _ (fun p _=>K9 er 3 (by decide) (by decide) p) (by intro p x hx;simp at hx)] [([18,33],⟨[rh [97] (sg p q),rh [98] (sg r s),x2],15,false⟩)] (.osl [18,33] 15 0 3 false) (by kernel_rfl)
 (fun σ h=>vO (h ([18,33],⟨[rh [97] (sg p q),rh [98] (sg r s),x2],15,false⟩) (by simp)) rfl (by intro e he;simp at he;rcases he with rfl | rfl | rfl<;>rfl) (by intro e he;simp at he;rcases he with rfl | rfl | rfl;exact dD;exact dD;exact wC))
theorem akj:VP Tryz.prog G 27 [pr p q r s, .sl 15 [x1]] (.tup [.sl 15 [rh [97] (sg p q),rh [98] (sg r s),x1], .int .i64 0]):=by
 have hv:aG (af.of [([10],⟨[pr p q r s, .sl 15 [x1]],1,false⟩)]) [.osl [10] 1 0 2 false] [.sl 1 [pr p q r s, .sl 15 [x1]]]:=aG.cons (vO (by simp [af.of]) rfl (by intro e he;simp at he;rcases he with rfl | rfl<;>rfl) (by intro e he c hc;simp at he;rcases he with rfl | rfl<;>(rcases List.mem_singleton.1 hc with rfl;exact PU.pure))) aG.nil
 haveI:PU (.sl 15 [rh [97] (sg p q),rh [98] (sg r s),x1]):=PU.slice (ri (by intro e he;simp at he;rcases he with rfl | rfl | rfl;exact dD;exact dD;exact sw)) (by intro e he ρ;simp at he;rcases he with rfl | rfl | rfl<;>exact PU.fix ρ)
 exact VP.tr pQ [hc (aj9 G p q r s),il [([10],⟨[pr p q r s, .sl 15 [x1]],1,false⟩)] (akh G p q r s) hv] (by kernel_rfl)
theorem akk:VP Tryz.prog G 27 [pr p q r s, .sl 15 [x2]] (.tup [.sl 15 [rh [97] (sg p q),rh [98] (sg r s),x2], .int .i64 0]):=by
 have hv:aG (af.of [([10],⟨[pr p q r s, .sl 15 [x2]],1,false⟩)]) [.osl [10] 1 0 2 false] [.sl 1 [pr p q r s, .sl 15 [x2]]]:=aG.cons (vO (by simp [af.of]) rfl (by intro e he;simp at he;rcases he with rfl | rfl<;>rfl) (by intro e he c hc;simp at he;rcases he with rfl | rfl<;>(rcases List.mem_singleton.1 hc with rfl;exact PU.pure))) aG.nil
 haveI:PU (.sl 15 [rh [97] (sg p q),rh [98] (sg r s),x2]):=PU.slice (ri (by intro e he;simp at he;rcases he with rfl | rfl | rfl;exact dD;exact dD;exact wC)) (by intro e he ρ;simp at he;rcases he with rfl | rfl | rfl<;>exact PU.fix ρ)
 exact VP.tr pQ [hc (akg G p q r s),il [([10],⟨[pr p q r s, .sl 15 [x2]],1,false⟩)] (aki G p q r s) hv] (by kernel_rfl)
end
end Go.Proofs.YtchdghnpcekegaaGreat
end

section
set_option maxRecDepth 100000
namespace Go.Proofs.YtchdghnpcekegaaGreat
open Go.VL Go.Proofs Go.Lib
section
variable (G:Nat->Option (List AV)) (p q r s:Q2)
theorem zq (k:Rat) (i:Int) (e:dm k=i:=by decide +kernel) (h:qB k=true:=by decide +kernel):VP Tryz.prog G 36 [QV k] (.int .i64 i):=kQs G k i e h
theorem aCl (π : VL.Id):aZ Tryz.prog G 7 [pr p q r s] π [] { val := .osl (5 :: π) 15 0 2 false,rd:=[],up:=[(5 :: π,some ⟨[rh [97] (sg p q),rh [98] (sg r s)],15,false⟩)] } :=
 aZ.tr (up:=[(5 :: π,⟨[rh [97] (sg p q),rh [98] (sg r s)],15,false⟩)]) (p := π) gA (fun _=>[]) [] [pr p q r s] [] (.osl [5,0] 15 0 2 false) [([5,0],⟨[rh [97] (sg p q),rh [98] (sg r s)],15,false⟩)] (by kernel_rfl) (by rw [H3.fix]) rfl rfl (by simp [A2,cZ.dT,kW,pk,PU.fixed,m5]) (by simp) (by simp)
def w1:AV := .sl 15 [rh [97] (sg (1,0) (4,0)),rh [98] (sg (0,1) (0,4)),x1]
def Ru:AV:=pr (0,0) (4,0) (0,0) (0,4)
instance:PU Ru:=by unfold Ru;infer_instance
theorem aF4:VP Tryz.prog G 14 [.str [102],Ru, .str [97], .str [98],QV 4] (.tup [.nils, .int .i64 16]):=by
 have hv:aG (af.of [([7],⟨[.str [97], .str [98]],1,false⟩)]) [.str [102],Ru, .osl [7] 1 0 2 false] [.str [102],Ru,st2 [97] [98]]:=aG.cons (View.pure PU.pure) (aG.cons (View.pure PU.pure) (aG.cons (vO (by simp [af.of]) rfl (by intro e he;simp at he;rcases he with rfl | rfl<;>rfl) (by intro e he c hc;simp at he;rcases he with rfl | rfl<;>(rcases List.mem_singleton.1 hc with rfl;exact PU.pure))) aG.nil))
 exact VP.tr se [il [([7],⟨[.str [97], .str [98]],1,false⟩)] (agK G (0,0) (4,0) (0,0) (0,4)) hv,hc (Rt G),hc (zq G 4 1),hc (Z0 G)] (by kernel_rfl)
theorem vS2 {σ : af} {i:VL.Id} {a b:List UInt8} (h : σ i=some ⟨[.str a, .str b],1,false⟩):View σ (.osl i 1 0 2 false) (st2 a b):=vO h rfl (by intro e he;simp at he;rcases he with rfl | rfl<;>rfl) (by intro e he c hc;simp at he;rcases he with rfl | rfl<;>(rcases List.mem_singleton.1 hc with rfl;exact PU.pure))
theorem vS1 {σ : af} {i:VL.Id} {a:List UInt8} (h : σ i=some ⟨[.str a],1,false⟩):View σ (.osl i 1 0 1 false) (st1 a):=vO h rfl (by intro e he;simp at he;subst he;rfl) (by intro e he c hc;simp at he;subst he;rcases List.mem_singleton.1 hc with rfl;exact PU.pure)
theorem vPr {σ : af} {i:VL.Id} (h : σ i=some ⟨[rh [97] (sg p q),rh [98] (sg r s)],15,false⟩):View σ (.osl i 15 0 2 false) (pr p q r s):=vO h rfl (by intro e he;simp at he;rcases he with rfl | rfl<;>rfl) (by intro e he;simp at he;rcases he with rfl | rfl<;>exact dD)
theorem vX {σ : af} {i:VL.Id} {x:AV} (h : σ i=some ⟨[x],15,false⟩) (hx:∀ c∈x.cells,aa c) (h1:x.size=15):View σ (.osl i 15 0 1 false) (.sl 15 [x]):=vO h rfl (by intro e he;simp at he;subst he;exact h1) (by intro e he;simp at he;subst he;exact hx)
theorem aF1:VP Tryz.prog G 14 [.str [102],Ru, .str [97], .str [98],QV 1] (.tup [w1, .int .i64 0]):=by
 have hv:aG (af.of [([7],⟨[.str [97], .str [98]],1,false⟩)]) [.str [102],Ru, .osl [7] 1 0 2 false] [.str [102],Ru,st2 [97] [98]]:=aG.cons (View.pure PU.pure) (aG.cons (View.pure PU.pure) (aG.cons (vS2 (by simp [af.of])) aG.nil))
 let S:List (VL.Id × cZ):=[([5,68],⟨[rh [97] (sg (1,0) (4,0)),rh [98] (sg (0,1) (0,4))],15,false⟩),([111],⟨[x1],15,false⟩)]
 have hw:aG (af.of S) [.osl [5,68] 15 0 2 false, .osl [111] 15 0 1 false] [pr (1,0) (4,0) (0,1) (0,4), .sl 15 [x1]]:=aG.cons (vPr _ _ _ _ (by simp [af.of,S])) (aG.cons (vX (by simp [af.of,S,List.lookup]) sw rfl) aG.nil)
 haveI:PU w1:=PU.slice (ri (by intro e he;simp at he;rcases he with rfl | rfl | rfl;exact dD;exact dD;exact sw)) (by intro e he ρ;simp at he;rcases he with rfl | rfl | rfl<;>exact PU.fix ρ)
 exact VP.tr se [il [([7],⟨[.str [97], .str [98]],1,false⟩)] (agK G (0,0) (4,0) (0,0) (0,4)) hv,hc (Rt G),hc (zq G 1 1),hc (ZY G), .rel 7 _ [] _ (fun π _=>aCl G (0,0) (4,0) (0,0) (0,4) π) (by intro p x hx;simp at hx),
   hc (aIx G (0,0) (4,0) (0,0) (0,4) [97] 0),hc (agH G),hc (aIx G (0,0) (4,0) (0,0) (0,4) [98] 1),hc (agI G),il S (akj G (1,0) (4,0) (0,1) (0,4)) hw] (by kernel_rfl)
theorem aO:VP Tryz.prog G 16 [.str [103],Ru,st1 [97],QV 2] (.tup [.sl 15 [rh [97] sA,rh [98] sB',x2], .int .i64 0]):=by
 have hw:aG (af.of [([19],⟨[x2],15,false⟩)]) [Ru, .osl [19] 15 0 1 false] [Ru, .sl 15 [x2]]:=aG.cons (View.pure PU.pure) (aG.cons (vX (by simp [af.of]) wC rfl) aG.nil)
 haveI:PU (.sl 15 [rh [97] sA,rh [98] sB',x2]):=PU.slice (ri (by intro e he;simp at he;rcases he with rfl | rfl | rfl;exact dD;exact dD;exact wC)) (by intro e he ρ;simp at he;rcases he with rfl | rfl | rfl;exact (inferInstance:PU (rh [97] (sg _ _))).fix ρ;exact (inferInstance:PU (rh [98] (sg _ _))).fix ρ;exact PU.fix ρ)
 exact VP.tr BR [hc (aj2 G (0,0) (4,0) (0,0) (0,4)),hc (zq G 2 1),hc (ajV G),il [([19],⟨[x2],15,false⟩)] (akk G (0,0) (4,0) (0,0) (0,4)) hw] (by kernel_rfl)
end
end Go.Proofs.YtchdghnpcekegaaGreat
end

section
set_option maxRecDepth 100000
namespace Go.Proofs.YtchdghnpcekegaaGreat
open Go.VL Go.Proofs Go.Lib
section
variable (G:Nat->Option (List AV)) (p q r s:Q2)
theorem Z1 (a b:Q2) (c:Bool) (e:decide (a=b)=c:=by decide +kernel) (h1:(vB a&&vB b)=true:=by decide +kernel):VP Tryz.prog G 34 [V2 a,V2 b] (.bool c):=by
 simp only [Bool.and_eq_true] at h1
 have s1:=(FX h1.1).mono (k:=45000) (by omega)
 have s2:=(FX h1.2).mono (k:=45000) (by omega)
 exact e▸DA G a b s1 s2
theorem TH (a b:Int) (v:Q2) (e:((a:Rat),(b:Rat))=v:=by decide +kernel) (h:(decide (-100<=a)&&decide (a<=100)&&decide (-100<=b)&&decide (b<=100))=true:=by decide +kernel):VP Tryz.prog G 17 [.int .i64 a, .int .i64 b] (V2 v):=by
 simp only [Bool.and_eq_true,decide_eq_true_eq] at h
 subst e
 exact Fl ny a b (Pp G a (by omega) (by omega)) (Pp G b (by omega) (by omega)) (Rp G ((a:Rat),(b:Rat)))
theorem Xk (a b c d:Int) (u v:Q2) (h1:VP Tryz.prog G 17 [.int .i64 a, .int .i64 b] (V2 u)) (h2:VP Tryz.prog G 17 [.int .i64 c, .int .i64 d] (V2 v)):VP Tryz.prog G 13 [.int .i64 a, .int .i64 b, .int .i64 c, .int .i64 d] (sg u v):=VP.tr sc [hc h1,hc h2] (by kernel_rfl)
theorem kE (u v:Q2) (h1:VP Tryz.prog G 34 [V2 u,V2 u] (.bool true)) (h2:VP Tryz.prog G 34 [V2 v,V2 v] (.bool true)):VP Tryz.prog G 11 [sg u v,sg u v] (.bool true):=VP.tr gi [hc h1,hc h2] (by kernel_rfl)
def xc:AV:=CX.av ⟨true,(1,0),(0,1),(1,1),true⟩
instance:PU xc:=by unfold xc;infer_instance
theorem kX:VP Tryz.prog G 11 [xc,xc] (.bool true):=VP.tr gi [hc (Z1 G (1,0) (1,0) true),hc (Z1 G (0,1) (0,1) true),hc (Z1 G (1,1) (1,1) true)] (by kernel_rfl)
instance:PU w1:=PU.slice (ri (by intro e he;simp at he;rcases he with rfl | rfl | rfl;exact dD;exact dD;exact sw)) (by intro e he ρ;simp at he;rcases he with rfl | rfl | rfl<;>exact PU.fix ρ)
theorem adb:VP Tryz.prog G 18 [w1,w1] (.bool true):=VP.tr jW [hc (kE G (1,0) (4,0) (Z1 G (1,0) (1,0) true) (Z1 G (4,0) (4,0) true)),hc (kE G (0,1) (0,4) (Z1 G (0,1) (0,1) true) (Z1 G (0,4) (0,4) true)),hc (kX G)] (by kernel_rfl)
theorem ade:VP Tryz.prog G 18 [.sl 15 [x2], .sl 15 [x2]] (.bool true):=VP.tr jW [hc (kE G (0,2) (4,2) (Z1 G (0,2) (0,2) true) (Z1 G (4,2) (4,2) true))] (by kernel_rfl)
theorem kI (z:Int) (v:Rat) (e:(z:Rat)=v:=by decide +kernel) (h:(decide (-100<=z)&&decide (z<=100))=true:=by decide +kernel):VP Tryz.prog G 15 [.int .i64 z] (QV v):=by
 simp only [Bool.and_eq_true,decide_eq_true_eq] at h
 exact e▸Pp G z (by omega) (by omega)
def Lb (i:VL.Id) (b:Bool):VL.Id × cZ:=(i,⟨[rh [97] (sg (0,0) (4,0)),rh [98] (sg (0,0) (0,4))],15,b⟩)
theorem agL {σ : af} {i:VL.Id} {b:Bool} (h : σ i=some (Lb i b).2):View σ (.osl i 15 0 2 false) Ru:=View.osl (bk:=(Lb i b).2) h rfl (by simp [Lb]) (aG.pure (ri (by intro e he;simp [Lb] at he;rcases he with rfl | rfl<;>exact dD))) rfl (by intro e he;simp at he;rcases he with rfl | rfl<;>rfl)
theorem hvF (i:VL.Id) (b:Bool) (k:Rat):aG (af.of [Lb i b]) [.str [102], .osl i 15 0 2 false, .str [97], .str [98],QV k] [.str [102],Ru, .str [97], .str [98],QV k]:=aG.cons (View.pure PU.pure) (aG.cons (agL (b:=b) (by simp [af.of,Lb])) (aG.pure H3.pure))
theorem Xl:VP Tryz.prog G 4 [] (.bool true):=by
 let S:List (VL.Id × cZ):=[Lb [5] true,([24],⟨[.str [97]],1,false⟩)]
 have hO:aG (af.of S) [.str [103], .osl [5] 15 0 2 false, .osl [24] 1 0 1 false,QV 2] [.str [103],Ru,st1 [97],QV 2]:=aG.cons (View.pure PU.pure) (aG.cons (agL (b:=true) (by simp [af.of,Lb,S])) (aG.cons (vS1 (by simp [af.of,S,Lb,List.lookup])) (aG.pure H3.pure)))
 let T:List (VL.Id × cZ):=[([44],⟨[rh [97] (sg (1,0) (4,0)),rh [98] (sg (0,1) (0,4)),x1],15,false⟩)]
 have hT:aG (af.of T) [w1, .osl [44] 15 0 3 false] [w1,w1]:=aG.cons (View.pure PU.pure) (aG.cons (vO (by simp [af.of,T]) rfl (by intro e he;simp at he;rcases he with rfl | rfl | rfl<;>rfl) (by intro e he;simp at he;rcases he with rfl | rfl | rfl;exact dD;exact dD;exact sw)) aG.nil)
 have hU:aG (af.of [([71],⟨[x2],15,false⟩)]) [.sl 15 [x2], .osl [71] 15 0 1 false] [.sl 15 [x2], .sl 15 [x2]]:=aG.cons (View.pure PU.pure) (aG.cons (vX (by simp [af.of]) wC rfl) aG.nil)
 exact VP.tr uH [hc (Xk G 0 0 4 0 (0,0) (4,0) (TH G 0 0 _) (TH G 4 0 _)),hc (Xk G 0 0 0 4 (0,0) (0,4) (TH G 0 0 _) (TH G 0 4 _)),hc (kI G 1 1),il [Lb [5] false] (aF1 G) (hvF [5] false 1),hc (kI G 4 4),il [Lb [5] true] (aF4 G) (hvF [5] true 4),hc (kI G 2 2),il S (aO G) hO,
   hc (TH G 1 0 (1,0)),hc (TH G 0 1 (0,1)),hc (TH G 1 1 (1,1)),hc (Xk G 1 0 4 0 (1,0) (4,0) (TH G 1 0 _) (TH G 4 0 _)),hc (Xk G 0 1 0 4 (0,1) (0,4) (TH G 0 1 _) (TH G 0 4 _)),il T (adb G) hT,hc (Xk G 0 2 4 2 (0,2) (4,2) (TH G 0 2 _) (TH G 4 2 _)),il [([71],⟨[x2],15,false⟩)] (ade G) hU] (by kernel_rfl)
end
end Go.Proofs.YtchdghnpcekegaaGreat
end

section
set_option linter.unusedVariables false
namespace Go.VL
def EM (a b:Q2):Rat × Rat × Rat :=
 let n:Q2:=(b.2-a.2, -(b.1-a.1))
 let f:=if n.1=0 then n.2 else n.1
 (n.1*(1/f),n.2*(1/f),fB a n*(1/f))
def yd (l:Rat × Rat × Rat) (p:Q2):Rat:=((fB (l.1,l.2.1) p-l.2.2)*(1/fB (l.1,l.2.1) (l.1,l.2.1)))*2
def wD (l:Rat × Rat × Rat) (p:Q2):Q2:=(p.1-l.1*yd l p,p.2-l.2.1*yd l p)
def N9 (l:Rat × Rat × Rat):Rat:=fB (l.1,l.2.1) (l.1,l.2.1)
theorem inv_mul {N:Rat} (h:N≠0):N*(1/N)=1:=by rw [Rat.div_def,Rat.one_mul];exact Rat.mul_inv_cancel N h
theorem Gd {l:Rat × Rat × Rat} (h:N9 l≠0) (p:Q2):wD l (wD l p)=p:=by
 obtain ⟨A,B,C⟩:=l
 obtain ⟨x,y⟩:=p
 have hk:=inv_mul h
 unfold N9 fB at hk
 unfold wD yd fB
 simp only [] at hk ⊢
 generalize 1/(A*A+B*B)=k at *
 refine Prod.ext ?_ ?_
 . simp only [];grind
 . simp only [];grind
theorem Z2 {l:Rat × Rat × Rat} (h:N9 l≠0) (p q:Q2):JY (wD l p) (wD l q)=JY p q:=by
 obtain ⟨A,B,C⟩:=l
 obtain ⟨x,y⟩:=p
 obtain ⟨z,t⟩:=q
 have hk:=inv_mul h
 unfold N9 fB at hk
 unfold JY eR wD yd fB
 simp only [] at hk ⊢
 generalize 1/(A*A+B*B)=k at *
 grind
theorem sq_nonneg (a:Rat):0<=a*a:=by
 by_cases h:0<=a
 . exact Rat.mul_nonneg h h
 . have h':0 <= -a:=by grind
   have:=Rat.mul_nonneg h' h'
   grind
theorem adf (B:Rat):1+B*B≠0:=by have:=sq_nonneg B;generalize B*B=c at *;grind
theorem adg (B:Rat):B*B+1≠0:=by have:=sq_nonneg B;generalize B*B=c at *;grind
theorem Rv {a b:Q2} (h:a≠b):N9 (EM a b)≠0:=by
 obtain ⟨x,y⟩:=a
 obtain ⟨z,t⟩:=b
 unfold N9 EM fB
 simp only []
 by_cases h1:t-y=0
 . have h2 : -(z-x)≠0:=fun e=>h (by refine Prod.ext ?_ ?_<;>simp only []<;>grind)
   rw [if_pos h1]
   have hk:=inv_mul h2
   generalize 1 / -(z-x)=k at *
   rw [hk,Rat.one_mul]
   exact adg _
 . rw [if_neg h1]
   have hk:=inv_mul h1
   generalize 1/(t-y)=k at *
   rw [hk,Rat.one_mul]
   exact adf _
theorem adh {a b:Q2} (h:a≠b) (n:Q2) (hn:n=(-(b.2-a.2),b.1-a.1)):(n.1*(1/(if n.1=0 then n.2 else n.1)),n.2*(1/(if n.1=0 then n.2 else n.1)),(n.1*a.1+n.2*a.2)*(1/(if n.1=0 then n.2 else n.1)))=EM a b:=by
 subst hn
 obtain ⟨x,y⟩:=a
 obtain ⟨z,t⟩:=b
 unfold EM fB
 simp only []
 by_cases h1:t-y=0
 . have h2:z-x≠0:=fun e=>h (by refine Prod.ext ?_ ?_<;>simp only []<;>grind)
   have h3 : -(z-x)≠0:=by grind
   have h4 : -(t-y)=0:=by grind
   rw [if_pos h1,if_pos h4]
   have hk:=inv_mul h2
   have hj:=inv_mul h3
   generalize 1/(z-x)=k at *
   generalize 1 / -(z-x)=j at *
   have e:j = -k:=by grind
   subst e
   refine Prod.ext ?_ (Prod.ext ?_ ?_)<;>simp only []<;>grind
 . have h4 : -(t-y)≠0:=by grind
   rw [if_neg h1,if_neg h4]
   have hk:=inv_mul h1
   have hj:=inv_mul h4
   generalize 1/(t-y)=k at *
   generalize 1 / -(t-y)=j at *
   have e:j = -k:=by grind
   subst e
   refine Prod.ext ?_ (Prod.ext ?_ ?_)<;>simp only []<;>grind
theorem Z3 {l:Rat × Rat × Rat} (h:N9 l≠0) {p q:Q2}:wD l p=wD l q↔p=q:=⟨fun e=>by rw [<- Gd h p,e,Gd h],fun e=>by rw [e]⟩
def CX.pj (l:Rat × Rat × Rat) (x:CX):CX:=x.img (wD l) true
theorem TI {l:Rat × Rat × Rat} (h:N9 l≠0) (x:CX):(x.pj l).valid=x.valid:=by
 unfold CX.valid CX.pj CX.img
 cases hx:x.Aj
 . simp only [Bool.false_eq_true,if_false]
   congr 1
   exact decide_eq_decide.2 (Z3 h)
 . simp only [if_true,Z2 h]
theorem TJ {l:Rat × Rat × Rat} (h:N9 l≠0) (x:CX):(x.pj l).pj l=x:=by
 obtain ⟨Aj,a,b,c,cw⟩:=x
 unfold CX.pj CX.img
 cases Aj
 . simp [Gd h]
 . cases cw<;>simp [Gd h]
end Go.VL
end

section
set_option linter.unusedSimpArgs false
set_option linter.unusedVariables false
set_option maxRecDepth 100000
namespace Go.VL
open Go.Lib
abbrev adi (fF fM f1:Nat):cy:=(.seq (cS [oM 55 15,oM 56 2,oN 57 56,oT 58 .lss 55 57,oM 59 58,gM 60 13 59 true,⟨some 61,.bin .eql .int (.t 60) (.c (.int .i64 0)),some (59,true)⟩,oo 62 59 61] (.cond (.t 62) .skip (.exit 0))) (.seq (.block 1 (cS [oM 65 1,oM 66 1,oM 67 2,oM 68 15,oA 69 1 67 68,oL 70 1 69,bf 71 fF 66 70,oA 72 15 65 71,oF 73 1 72,aK 74 14 73,⟨some 16,.box (.c (.agg [(.bool false),.nils,.nils,.nils,.nils,.nils,.nils,.nils,.nils,.nils,.nils,.nils,.nils,(.bool false)])),none⟩,oS 14 16 74] (cS [aK 76 6 12,oF 77 1 16,aK 78 4 77,bf 79 fM 76 78,oM 75 79,oE 80 75 0,oE 81 75 1,⟨some 17,.box (.c (.agg [.nils,.nils,.nils,.nils])),none⟩,oS 4 17 80,oM 18 81] (cS [aK 83 6 12,oF 84 5 16,aK 85 4 84,bf 86 fM 83 85,oM 82 86,oE 87 82 0,oE 88 82 1,⟨some 19,.box (.c (.agg [.nils,.nils,.nils,.nils])),none⟩,oS 4 19 87,oM 20 88] (.seq (.reg (some [(1,3)]) [aK 89 4 17,aK 90 4 19,oF 91 1 16,oS 4 91 89,oF 92 5 16,oS 4 92 90]) (cS [oM 93 18,oM 94 20,bf 95 f1 93 94,oM 13 95] (.seq (cS [oF 96 0 16,oL 97 1 96] (.cond (.t 97) (cS [aK 99 6 12,oF 100 9 16,aK 101 4 100,bf 102 fM 99 101,oM 98 102,oE 103 98 0,oE 104 98 1,⟨some 21,.box (.c (.agg [.nils,.nils,.nils,.nils])),none⟩,oS 4 21 103,oM 22 104] (cS [aK 105 4 21,oF 106 13 16,oL 107 1 106,sx 108 107,oF 109 9 16,oS 4 109 105,oF 110 13 16,oS 1 110 108] (cR [oM 111 13,oM 112 22,bf 113 f1 111 112,oM 13 113]))) .skip)) (.reg (some []) [oM 114 14,oM 115 0,⟨some 116,.bin .add .str (.t 115) (.c (.str [47])),none⟩,oM 117 2,oM 118 15,oA 119 1 117 118,oL 120 1 119,⟨some 121,.bin .add .str (.t 116) (.t 120),none⟩,aK 122 14 16,⟨some 123,.build [(.str []),(.bool false),.nils,.nils,.nils,.nils,.nils,.nils,.nils,.nils,.nils,.nils,.nils,.nils,(.bool false)] [(0,(1,(.t 121))),(1,(14,(.t 122)))],none⟩,⟨some 124,.buildSl 15 1 (.agg [(.str []),(.bool false),.nils,.nils,.nils,.nils,.nils,.nils,.nils,.nils,.nils,.nils,.nils,.nils,(.bool false)]) [(0,(.t 123))],none⟩,yZ 125 15 320 114 124,oM 14 125])))))))) (cR [oM 63 15,bn 64 .add 63 1,oM 15 64])))
def LV (l:Rat × Rat × Rat):AV := .agg [.nils,EV l.1, .nils,EV l.2.1, .nils,EV l.2.2]
instance {l:Rat × Rat × Rat}:PU (LV l):=by unfold LV;infer_instance
def yX (nm:List UInt8) (l:List NX) (ln:Rat × Rat × Rat) (s:List UInt8):NX:=⟨nm++[47]++s,(a6 l s).pj ln⟩
def Lh (nm:List UInt8) (l:List NX) (ins:List (List UInt8)) (ax:List UInt8) (i:Nat) (w:Id) (o:AV):List AV:=[.str nm,dB l,strs ins, .str ax]++List.replicate 8 .top++[.ref w 0 0, .int .i64 0,o, .int .i64 (i:Int)]++List.replicate 118 .top
theorem lH {ρ : Id->Id} {nm:List UInt8} {l:List NX} {ins:List (List UInt8)} {ax:List UInt8} {i:Nat} {w:Id} {o:AV}:b9 ρ (Lh nm l ins ax i w o)=Lh nm l ins ax i (ρ w) (o.dT ρ):=by
 unfold Lh
 simp only [qj,kW,pk,H4,PU.fixed,Le,Ld]
def rmK (w q:Nat):Nat->Id
 | 1=>[w]
 | _=>[q]
def rmE (nm:List UInt8) (l L:List NX):List AV:=[.top,dB l]++List.replicate 11 .top++[.int .i64 0,dB L]++List.replicate 119 .top
theorem jb {ρ : Id->Id} {l:Rat × Rat × Rat}:b9 ρ [LV l]=[LV l]:=H3.fix ρ
theorem Li {σ : af} {p id Cf:Id} {l:List NX} {x:NX} (h : σ id=some ⟨[x.av],15,false⟩) (h2 : σ Cf=some ⟨l.map NX.av,15,false⟩) (hl:l.length<=100000):eu σ p 15 320 (.osl Cf 15 0 l.length false) (.osl id 15 0 1 false)=some { val := .osl p 15 0 (l++[x]).length false,rd:=[Cf,id],up:=[(Cf,none),(p,some ⟨(l++[x]).map NX.av,15,false⟩)] }:=by
 have:=AE (σ := σ) (p:=p) (bytes:=320) (t:=false) h h2 (by simp;omega) (by decide) (of_eq_true (nX _)) (pg nX l)
 have e:(l++[x]).map NX.av=l.map NX.av++[x.av]:=by simp
 have e':(l++[x]).length=(l.map NX.av).length+1:=by simp
 rw [e,e']
 have e2:l.length=(l.map NX.av).length:=by simp
 rw [e2];exact this
section
variable {P:Program} {G:Nat->Option (List AV)}
theorem TK {fF fM f1:FuncId} (nm:List UInt8) (l:List NX) (ins:List (List UInt8)) (ax:List UInt8) (ln:Rat × Rat × Rat) (W0:Nat) (hW:W0<999) (uS:nm.length<=1000) (hlz:∀ z∈l,z.name.length<=1000) (Pz:ins.length<=10) (h0:ins≠[]) (iL:∀ s∈ins, ¬ da l s<0)
   (hF:∀ s,VP P G fF [dB l, .str s] (.int .i64 (da l s))) (h1:VP P G f1 [.int .i64 0, .int .i64 0] (.int .i64 0)) (hM:∀ z∈l,∀ p:Q2,(p=z.c.a∨p=z.c.b∨p=z.c.c)->VP P G fM [LV ln,V2 p] (.tup [V2 (wD ln p), .int .i64 0])) :
   VW P G [] (.loop (adi fF fM f1)) (fun e s=>e = .exit 0/\Wk G [] s ⟨rmE nm l (ins.map (yX nm l ln)),dz.to (N8 []),10000⟩) ⟨Lh nm l ins ax 0 [W0] .nils,af.of [([W0],⟨[LV ln],6,false⟩)],1000⟩:=by
 refine VW.QX (α := Nat × Nat × Nat) (fun y=>⟨Lh nm l ins ax y.1 [W0] (OL [y.2.1] 15 (((ins.take y.1).map (yX nm l ln)).map NX.av)),af.of (([W0],⟨[LV ln],6,false⟩)::BL [y.2.1] ((ins.take y.1).map (yX nm l ln))),y.2.2⟩)
   (fun y=>y.1<=ins.length/\999<=y.2.1/\y.2.1<y.2.2/\y.2.2<=1000+200*y.1) (fun y=>ins.length-y.1) (0,999,1000) (Wk.refl _ _ _) ⟨Nat.zero_le _,by decide,by decide,by decide⟩ ?_
 rintro ⟨i,q,m⟩ ⟨hi,XM,hqm,hm⟩
 simp only [] at hi XM hqm hm ⊢
 have hd:∀ L:List NX,(((([W0],⟨[LV ln],6,false⟩):Id × cZ)::BL [q] L).map (·.1)).Nodup:=by
   intro L
   have a0 : ¬ W0=q:=by omega
   unfold BL
   split<;>simp [a0]
 by_cases hlt:i<ins.length
 . obtain ⟨s,hs⟩:∃ s,ins[i]? = some s:=⟨ins[i],by simp [hlt]⟩
   have hsm:=List.mem_of_getElem? hs
   obtain ⟨k,z,hk,hz,F9,Bo⟩:=jY (iL s hsm)
   have Ie:=List.mem_of_getElem? hz
   have d:decide ((i:Int)<((ins.map AV.str).length:Int))=true:=ay (by simpa using hlt)
   have TZ:cx 1 (strs ins) (.int .i64 (i:Int))=some (.ep (AV.str s).cells 0):=fX (k:=1) rfl (by rw [List.getElem?_map,hs];rfl)
   have XQ:=hF s
   rw [hk] at XQ
   have k72:=mP hz
   have Xm:=aL i (by omega)
   have Ya:=hlz z Ie
   rw [F9] at Ya
   have c1:=tE (a:=nm) (b:=[47]) (by simp;omega)
   have c2:=tE (a:=nm++[47]) (b:=s) (by simp;omega)
   have EJ:(ins.take (i+1)).map (yX nm l ln)=(ins.take i).map (yX nm l ln)++[yX nm l ln s]:=wA hs
   have hX:yX nm l ln s=⟨nm++[47]++s,z.c.pj ln⟩:=by unfold yX;rw [Bo]
   have hLl:((ins.take i).map (yX nm l ln)).length<=10:=by simp;omega
   have ma:=hM z Ie z.c.a (.inl rfl)
   have mb:=hM z Ie z.c.b (.inr (.inl rfl))
   have mc:=hM z Ie z.c.c (.inr (.inr rfl))
   rw [hX] at EJ
   generalize nm++[47]++s=ns at *
   generalize (ins.take i).map (yX nm l ln)=L at *
   have hLX:=EJ▸(List.append_ne_nil_of_right_ne_nil L (List.cons_ne_nil (⟨ns,z.c.pj ln⟩:NX) []))
   obtain ⟨zn,⟨Aj,za,zb,zc,cw⟩⟩:=z
   by_cases Fo:L=[]
   . subst Fo
     cases Aj
     . have a1:∀ (σ : af) (p:Id),(∀ y∈[([62,0],(⟨[NX.av ⟨ns,CX.pj ln ⟨false,za,zb,zc,cw⟩⟩],15,false⟩:cZ))], σ y.1=some y.2)->bO σ p (.append 15 320 .nils (.osl [62,0] 15 0 1 false))=some { val := .osl p 15 0 1 false,rd:=[[62,0]],up:=[(p,some ⟨[NX.av ⟨ns,CX.pj ln ⟨false,za,zb,zc,cw⟩⟩],15,false⟩)] } :=
         fun σ p hσ => uP (hσ ([62,0],⟨[NX.av ⟨ns,CX.pj ln ⟨false,za,zb,zc,cw⟩⟩],15,false⟩) (by simp)) (by decide) (of_eq_true (nX _))
       refine VW.tr (π := []) (n:=m) (rmK W0 q) [hb 58 d,ho 69 TZ,hc XQ,ho 72 k72,hc ma,hc mb,hc h1,ho 116 c1,ho 119 TZ,ho 121 c2, .st 125 _ _ _ a1,hw 64 Xm] (Lh nm l ins ax i [1] .nils) [([1],⟨[LV ln],6,false⟩)] .normal (Lh nm l ins ax (i+1) [1] (.osl [63,0] 15 0 1 false)) [([1],⟨[LV ln],6,false⟩),([63,0],⟨[NX.av ⟨ns,CX.pj ln ⟨false,za,zb,zc,cw⟩⟩],15,false⟩)] 68 (by kernel_rfl)
         lH (by simp only [dC,eJ,gj,jb];rfl) lH (by simp only [dC,eJ,gj,jb,kW,pk,PU.fixed];rfl) (hd []) fun s hw => ?_
       exact ⟨(i+1,m+63,m+68),⟨hlt,by simp only [];omega,by simp only [];omega,by simp only [];omega⟩,by simp only [];omega,by simp only [EJ];exact hw⟩
     . cases cw
       . have a1:∀ (σ : af) (p:Id),(∀ y∈[([84,0],(⟨[NX.av ⟨ns,CX.pj ln ⟨true,za,zb,zc,false⟩⟩],15,false⟩:cZ))], σ y.1=some y.2)->bO σ p (.append 15 320 .nils (.osl [84,0] 15 0 1 false))=some { val := .osl p 15 0 1 false,rd:=[[84,0]],up:=[(p,some ⟨[NX.av ⟨ns,CX.pj ln ⟨true,za,zb,zc,false⟩⟩],15,false⟩)] } :=
           fun σ p hσ => uP (hσ ([84,0],⟨[NX.av ⟨ns,CX.pj ln ⟨true,za,zb,zc,false⟩⟩],15,false⟩) (by simp)) (by decide) (of_eq_true (nX _))
         refine VW.tr (π := []) (n:=m) (rmK W0 q) [hb 58 d,ho 69 TZ,hc XQ,ho 72 k72,hc ma,hc mb,hc h1,hc mc,hc h1,ho 116 c1,ho 119 TZ,ho 121 c2, .st 125 _ _ _ a1,hw 64 Xm] (Lh nm l ins ax i [1] .nils) [([1],⟨[LV ln],6,false⟩)] .normal (Lh nm l ins ax (i+1) [1] (.osl [85,0] 15 0 1 false)) [([1],⟨[LV ln],6,false⟩),([85,0],⟨[NX.av ⟨ns,CX.pj ln ⟨true,za,zb,zc,false⟩⟩],15,false⟩)] 90 (by kernel_rfl)
           lH (by simp only [dC,eJ,gj,jb];rfl) lH (by simp only [dC,eJ,gj,jb,kW,pk,PU.fixed];rfl) (hd []) fun s hw => ?_
         exact ⟨(i+1,m+85,m+90),⟨hlt,by simp only [];omega,by simp only [];omega,by simp only [];omega⟩,by simp only [];omega,by simp only [EJ];exact hw⟩
       . have a1:∀ (σ : af) (p:Id),(∀ y∈[([84,0],(⟨[NX.av ⟨ns,CX.pj ln ⟨true,za,zb,zc,true⟩⟩],15,false⟩:cZ))], σ y.1=some y.2)->bO σ p (.append 15 320 .nils (.osl [84,0] 15 0 1 false))=some { val := .osl p 15 0 1 false,rd:=[[84,0]],up:=[(p,some ⟨[NX.av ⟨ns,CX.pj ln ⟨true,za,zb,zc,true⟩⟩],15,false⟩)] } :=
           fun σ p hσ => uP (hσ ([84,0],⟨[NX.av ⟨ns,CX.pj ln ⟨true,za,zb,zc,true⟩⟩],15,false⟩) (by simp)) (by decide) (of_eq_true (nX _))
         refine VW.tr (π := []) (n:=m) (rmK W0 q) [hb 58 d,ho 69 TZ,hc XQ,ho 72 k72,hc ma,hc mb,hc h1,hc mc,hc h1,ho 116 c1,ho 119 TZ,ho 121 c2, .st 125 _ _ _ a1,hw 64 Xm] (Lh nm l ins ax i [1] .nils) [([1],⟨[LV ln],6,false⟩)] .normal (Lh nm l ins ax (i+1) [1] (.osl [85,0] 15 0 1 false)) [([1],⟨[LV ln],6,false⟩),([85,0],⟨[NX.av ⟨ns,CX.pj ln ⟨true,za,zb,zc,true⟩⟩],15,false⟩)] 90 (by kernel_rfl)
           lH (by simp only [dC,eJ,gj,jb];rfl) lH (by simp only [dC,eJ,gj,jb,kW,pk,PU.fixed];rfl) (hd []) fun s hw => ?_
         exact ⟨(i+1,m+85,m+90),⟨hlt,by simp only [];omega,by simp only [];omega,by simp only [];omega⟩,by simp only [];omega,by simp only [EJ];exact hw⟩
   . rw [NA Fo,H5 Fo]
     have qQ:=hd L
     rw [H5 Fo] at qQ
     have NP:=fun (x:NX)=>List.append_ne_nil_of_right_ne_nil L (List.cons_ne_nil x [])
     replace NP:=NP ⟨ns,CX.pj ln ⟨Aj,za,zb,zc,cw⟩⟩
     cases Aj
     . have a1:∀ (σ : af) (p:Id),(∀ y∈[([62,0],(⟨[NX.av ⟨ns,CX.pj ln ⟨false,za,zb,zc,cw⟩⟩],15,false⟩:cZ)),([2],⟨L.map NX.av,15,false⟩)], σ y.1=some y.2)->bO σ p (.append 15 320 (.osl [2] 15 0 L.length false) (.osl [62,0] 15 0 1 false))=some { val := .osl p 15 0 (L++[(⟨ns,CX.pj ln ⟨false,za,zb,zc,cw⟩⟩:NX)]).length false,rd:=[[2],[62,0]],up:=[([2],none),(p,some ⟨(L++[(⟨ns,CX.pj ln ⟨false,za,zb,zc,cw⟩⟩:NX)]).map NX.av,15,false⟩)] } :=
         fun σ p hσ => Li (hσ ([62,0],⟨[NX.av ⟨ns,CX.pj ln ⟨false,za,zb,zc,cw⟩⟩],15,false⟩) (by simp)) (hσ ([2],⟨L.map NX.av,15,false⟩) (by simp)) (by omega)
       refine VW.tr (π := []) (n:=m) (rmK W0 q) [hb 58 d,ho 69 TZ,hc XQ,ho 72 k72,hc ma,hc mb,hc h1,ho 116 c1,ho 119 TZ,ho 121 c2, .st 125 _ _ _ a1,hw 64 Xm] (Lh nm l ins ax i [1] (.osl [2] 15 0 L.length false)) [([1],⟨[LV ln],6,false⟩),([2],⟨L.map NX.av,15,false⟩)] .normal (Lh nm l ins ax (i+1) [1] (.osl [63,0] 15 0 (L++[(⟨ns,CX.pj ln ⟨false,za,zb,zc,cw⟩⟩:NX)]).length false)) [([1],⟨[LV ln],6,false⟩),([63,0],⟨(L++[(⟨ns,CX.pj ln ⟨false,za,zb,zc,cw⟩⟩:NX)]).map NX.av,15,false⟩)] 68 (by kernel_rfl)
         lH (by simp only [dC,eJ,gj,jb,tI];rfl) lH (by simp only [dC,eJ,gj,jb,tI];rfl) qQ fun s hw => ?_
       exact ⟨(i+1,m+63,m+68),⟨hlt,by simp only [];omega,by simp only [];omega,by simp only [];omega⟩,by simp only [];omega,by simp only [EJ,NA NP,H5 NP];exact hw⟩
     . cases cw
       . have a1:∀ (σ : af) (p:Id),(∀ y∈[([84,0],(⟨[NX.av ⟨ns,CX.pj ln ⟨true,za,zb,zc,false⟩⟩],15,false⟩:cZ)),([2],⟨L.map NX.av,15,false⟩)], σ y.1=some y.2)->bO σ p (.append 15 320 (.osl [2] 15 0 L.length false) (.osl [84,0] 15 0 1 false))=some { val := .osl p 15 0 (L++[(⟨ns,CX.pj ln ⟨true,za,zb,zc,false⟩⟩:NX)]).length false,rd:=[[2],[84,0]],up:=[([2],none),(p,some ⟨(L++[(⟨ns,CX.pj ln ⟨true,za,zb,zc,false⟩⟩:NX)]).map NX.av,15,false⟩)] } :=
           fun σ p hσ => Li (hσ ([84,0],⟨[NX.av ⟨ns,CX.pj ln ⟨true,za,zb,zc,false⟩⟩],15,false⟩) (by simp)) (hσ ([2],⟨L.map NX.av,15,false⟩) (by simp)) (by omega)
         refine VW.tr (π := []) (n:=m) (rmK W0 q) [hb 58 d,ho 69 TZ,hc XQ,ho 72 k72,hc ma,hc mb,hc h1,hc mc,hc h1,ho 116 c1,ho 119 TZ,ho 121 c2, .st 125 _ _ _ a1,hw 64 Xm] (Lh nm l ins ax i [1] (.osl [2] 15 0 L.length false)) [([1],⟨[LV ln],6,false⟩),([2],⟨L.map NX.av,15,false⟩)] .normal (Lh nm l ins ax (i+1) [1] (.osl [85,0] 15 0 (L++[(⟨ns,CX.pj ln ⟨true,za,zb,zc,false⟩⟩:NX)]).length false)) [([1],⟨[LV ln],6,false⟩),([85,0],⟨(L++[(⟨ns,CX.pj ln ⟨true,za,zb,zc,false⟩⟩:NX)]).map NX.av,15,false⟩)] 90 (by kernel_rfl)
           lH (by simp only [dC,eJ,gj,jb,tI];rfl) lH (by simp only [dC,eJ,gj,jb,tI];rfl) qQ fun s hw => ?_
         exact ⟨(i+1,m+85,m+90),⟨hlt,by simp only [];omega,by simp only [];omega,by simp only [];omega⟩,by simp only [];omega,by simp only [EJ,NA NP,H5 NP];exact hw⟩
       . have a1:∀ (σ : af) (p:Id),(∀ y∈[([84,0],(⟨[NX.av ⟨ns,CX.pj ln ⟨true,za,zb,zc,true⟩⟩],15,false⟩:cZ)),([2],⟨L.map NX.av,15,false⟩)], σ y.1=some y.2)->bO σ p (.append 15 320 (.osl [2] 15 0 L.length false) (.osl [84,0] 15 0 1 false))=some { val := .osl p 15 0 (L++[(⟨ns,CX.pj ln ⟨true,za,zb,zc,true⟩⟩:NX)]).length false,rd:=[[2],[84,0]],up:=[([2],none),(p,some ⟨(L++[(⟨ns,CX.pj ln ⟨true,za,zb,zc,true⟩⟩:NX)]).map NX.av,15,false⟩)] } :=
           fun σ p hσ => Li (hσ ([84,0],⟨[NX.av ⟨ns,CX.pj ln ⟨true,za,zb,zc,true⟩⟩],15,false⟩) (by simp)) (hσ ([2],⟨L.map NX.av,15,false⟩) (by simp)) (by omega)
         refine VW.tr (π := []) (n:=m) (rmK W0 q) [hb 58 d,ho 69 TZ,hc XQ,ho 72 k72,hc ma,hc mb,hc h1,hc mc,hc h1,ho 116 c1,ho 119 TZ,ho 121 c2, .st 125 _ _ _ a1,hw 64 Xm] (Lh nm l ins ax i [1] (.osl [2] 15 0 L.length false)) [([1],⟨[LV ln],6,false⟩),([2],⟨L.map NX.av,15,false⟩)] .normal (Lh nm l ins ax (i+1) [1] (.osl [85,0] 15 0 (L++[(⟨ns,CX.pj ln ⟨true,za,zb,zc,true⟩⟩:NX)]).length false)) [([1],⟨[LV ln],6,false⟩),([85,0],⟨(L++[(⟨ns,CX.pj ln ⟨true,za,zb,zc,true⟩⟩:NX)]).map NX.av,15,false⟩)] 90 (by kernel_rfl)
           lH (by simp only [dC,eJ,gj,jb,tI];rfl) lH (by simp only [dC,eJ,gj,jb,tI];rfl) qQ fun s hw => ?_
         exact ⟨(i+1,m+85,m+90),⟨hlt,by simp only [];omega,by simp only [];omega,by simp only [];omega⟩,by simp only [];omega,by simp only [EJ,NA NP,H5 NP];exact hw⟩
 . have hcc:i=ins.length:=by omega
   subst hcc
   have d:decide (((ins.length:Nat):Int)<((ins.map AV.str).length:Int))=false:=au (by simp)
   rw [List.take_length]
   have Fo:ins.map (yX nm l ln)≠[]:=by simpa using h0
   have adk:m+8<=10000:=by omega
   generalize ins.map (yX nm l ln)=L at *
   rw [NA Fo,H5 Fo]
   have qQ:=hd L
   rw [H5 Fo] at qQ
   refine VW.tr (π := []) (n:=m) (rmK W0 q) [hb 58 d] (Lh nm l ins ax ins.length [1] (.osl [2] 15 0 L.length false)) [([1],⟨[LV ln],6,false⟩),([2],⟨L.map NX.av,15,false⟩)] (.exit 0) (Lh nm l ins ax ins.length [1] (.osl [2] 15 0 L.length false)) [([1],⟨[LV ln],6,false⟩),([2],⟨L.map NX.av,15,false⟩)] 8 (by kernel_rfl)
     lH (by simp only [dC,eJ,gj,jb,tI];rfl) lH (by simp only [dC,eJ,gj,jb,tI];rfl) qQ fun s hw=>⟨rfl,hw.trans ?_⟩
   have YJ:af.of [([W0],(⟨[LV ln],6,false⟩:cZ)),([q],⟨L.map NX.av,15,false⟩)] [q]=some ⟨L.map NX.av,15,false⟩:=yc qQ (x:=([q],⟨L.map NX.av,15,false⟩)) (by simp)
   refine Wk.freeze [([q],⟨L.map NX.av,15,false⟩)] (by intro x hx;rw [List.mem_singleton.1 hx];exact YJ) ?_ (fun i => .inl rfl) adk
   have hv:=F8 (σ := af.of [([q],(⟨L.map NX.av,15,false⟩:cZ))]) (id:=[q]) (l:=L) (b:=false) (t:=false) (by simp [af.of])
   repeat (first | exact trivial | refine And.intro (Or.inl rfl) ?_ | refine And.intro (Or.inr (Or.inl rfl)) ?_ | refine And.intro (Or.inr (Or.inr hv)) ?_)
end
end Go.VL
end

section
set_option maxRecDepth 100000
namespace Go.Proofs.YtchdghnpcekegaaGreat
open Go.VL Go.Proofs Go.Lib
def TL (l:Rat × Rat × Rat):Prop:=Sm 83 l.1/\Sm 83 l.2.1/\Sm 165 l.2.2
theorem H9:Sm 1 (1:Rat):=afO (a:=1) (by decide)
theorem PA:Sm 1 (2:Rat):=afO (a:=2) (by decide)
theorem Xn {a b:Q2} (ha:jt 20 a) (hb:jt 20 b):TL (EM a b):=by
 have d:=hb.sub ha
 have n1:Sm 41 (b.2-a.2):=d.2
 have n2:Sm 41 (-(b.1-a.1)):=d.1.neg
 unfold TL EM
 simp only []
 have hf:Sm 41 (if b.2-a.2=0 then -(b.1-a.1) else b.2-a.2):=by split<;>assumption
 have hk:=H9.div hf (by omega)
 have hd:Sm 123 (fB a (b.2-a.2, -(b.1-a.1))):=(Sm.dot (b:=(b.2-a.2, -(b.1-a.1))) ha ⟨n1,n2⟩).mono (by omega)
 exact ⟨(n1.mul hk).mono (by omega),(n2.mul hk).mono (by omega),(hd.mul hk).mono (by omega)⟩
theorem NQ {l:Rat × Rat × Rat} (hl:TL l) {k:Nat} {p:Q2} (hp:jt k p):Sm (2*k+333) (fB (l.1,l.2.1) p-l.2.2):=((Sm.dot (a:=(l.1,l.2.1)) ⟨hl.1,hl.2.1⟩ hp).sub hl.2.2).mono (by omega)
theorem NR {l:Rat × Rat × Rat} (hl:TL l):Sm 333 (N9 l):=(Sm.dot (a:=(l.1,l.2.1)) (b:=(l.1,l.2.1)) ⟨hl.1,hl.2.1⟩ ⟨hl.1,hl.2.1⟩).mono (by omega)
theorem Rw {l:Rat × Rat × Rat} (hl:TL l) {k:Nat} {p:Q2} (hp:jt k p):Sm (2*k+668) (yd l p):=(((NQ hl hp).mul (H9.div (NR hl) (by omega))).mul PA).mono (by omega)
theorem PB {l:Rat × Rat × Rat} (hl:TL l) {k:Nat} {p:Q2} (hp:jt k p):jt (3*k+752) (wD l p):=⟨(hp.1.sub (hl.1.mul (Rw hl hp))).mono (by omega),(hp.2.sub (hl.2.1.mul (Rw hl hp))).mono (by omega)⟩
section
variable (G:Nat->Option (List AV))
theorem agM (a b:Q2) (ha:jt 40000 a) (hb:jt 40000 b):VP Tryz.prog G 52 [V2 a,V2 b] (.tup [V2 (eR a b), .int .i64 0]):=Ra zW a b _ (wu iN a b _ (TG G _ _ (ha.1.mono (by omega)) (hb.1.mono (by omega))) (TG G _ _ (ha.2.mono (by omega)) (hb.2.mono (by omega))))
theorem adl (a b:Q2) (ha:jt 20000 a) (hb:jt 20000 b):VP Tryz.prog G 77 [V2 a,V2 b] (.tup [NV (fB a b), .int .i64 0]):=Rr z8 a b (wu iN a b (a.1*b.1,a.2*b.2) (Lf G _ _ (ha.1.mono (by omega)) (hb.1.mono (by omega))) (Lf G _ _ (ha.2.mono (by omega)) (hb.2.mono (by omega)))) (W5 G _ _ ((ha.1.mul hb.1).mono (by omega)) ((ha.2.mul hb.2).mono (by omega)))
theorem gEq (a b:Q2) (ha:jt 40000 a) (hb:jt 40000 b):VP Tryz.prog G 48 [V2 a,V2 b] (.bool (decide (a=b))):=J6 vH a b (nEq G _ _ (ha.1.mono (by omega)) (hb.1.mono (by omega))) (nEq G _ _ (ha.2.mono (by omega)) (hb.2.mono (by omega)))
theorem gSq (a:Q2) (ha:jt 20000 a):VP Tryz.prog G 132 [V2 a] (.tup [NV (fB a a), .int .i64 0]):=H6 th a (adl G a a ha ha)
theorem EN (a:Rat):bF Tryz.prog G 98 [NV a, .int .i64 0] (NV a):=bF.tr Aa [] (by kernel_rfl)
theorem adm (a:Q2):bF Tryz.prog G 51 [V2 a, .int .i64 0] (V2 a):=bF.tr C5 [] (by kernel_rfl)
theorem adn (a:Q2):bF Tryz.prog G 104 [V2 a] (.tup [V2 a, .int .i64 0]):=bF.tr AZ [] (by kernel_rfl)
theorem ado (a:Q2) (ha:jt 40000 a):VP Tryz.prog G 50 [V2 a] (V2 (a.2, -a.1)):=VP.tr Hs [hc (ZQ G a.1 (ha.1.mono (by omega)))] (by kernel_rfl)
theorem Rx (l:Rat × Rat × Rat):VP Tryz.prog G 106 [LV l] (V2 (l.1,l.2.1)):=VP.tr FU [] (by kernel_rfl)
theorem agN (a n:Q2) (ha:jt 40 a) (hn:jt 1000 n) (h0 : ¬ (n.1=0/\n.2=0)):bF Tryz.prog G 49 [V2 a,V2 n] (.tup [LV (n.1*(1/(if n.1=0 then n.2 else n.1)),n.2*(1/(if n.1=0 then n.2 else n.1)),fB a n*(1/(if n.1=0 then n.2 else n.1))), .int .i64 0]):=by
 have hd:=adl G a n (ha.mono (by omega)) (hn.mono (by omega))
 have sd:Sm 5000 (fB a n):=(Sm.dot ha hn).mono (by omega)
 have hs:=abm G n.1 (hn.1.mono (by omega))
 have e:decide (dm n.1=0)=decide (n.1=0):=AG n.1
 by_cases h:n.1=0
 . have h2:n.2≠0:=fun e=>h0 ⟨h,e⟩
   rw [decide_eq_true h] at e
   simp only [if_pos h]
   have q1:=NL G n.1 n.2 h2 (hn.1.mono (by omega)) (hn.2.mono (by omega))
   have q2:=NL G n.2 n.2 h2 (hn.2.mono (by omega)) (hn.2.mono (by omega))
   have q3:=NL G (fB a n) n.2 h2 sd (hn.2.mono (by omega))
   exact bF.tr sj [hc hd,bj [1] (EN G (fB a n)),hc hs,hb 22 e,hc q1,bj [1] (EN G (n.1*(1/n.2))),hc q2,bj [1] (EN G (n.2*(1/n.2))),hc q3,bj [1] (EN G (fB a n*(1/n.2)))] (by kernel_rfl)
 . rw [decide_eq_false h] at e
   simp only [if_neg h]
   have q1:=NL G n.1 n.1 h (hn.1.mono (by omega)) (hn.1.mono (by omega))
   have q2:=NL G n.2 n.1 h (hn.2.mono (by omega)) (hn.1.mono (by omega))
   have q3:=NL G (fB a n) n.1 h sd (hn.1.mono (by omega))
   exact bF.tr sj [hc hd,bj [1] (EN G (fB a n)),hc hs,hb 22 e,hc q1,bj [1] (EN G (n.1*(1/n.1))),hc q2,bj [1] (EN G (n.2*(1/n.1))),hc q3,bj [1] (EN G (fB a n*(1/n.1)))] (by kernel_rfl)
theorem Xo (a b:Q2) (h:a≠b) (ha:jt 20 a) (hb:jt 20 b):VP Tryz.prog G 22 [V2 a,V2 b] (.tup [LV (EM a b), .int .i64 0]):=by
 have e:=gEq G a b (ha.mono (by omega)) (hb.mono (by omega))
 rw [decide_eq_false h] at e
 have hs:=agM G b a (hb.mono (by omega)) (ha.mono (by omega))
 have sd:jt 41 (eR b a):=hb.sub ha
 have hr:=ado G (eR b a) (sd.mono (by omega))
 have hl:=agN G a ((eR b a).2, -(eR b a).1) (ha.mono (by omega)) ⟨sd.2.mono (by omega),sd.1.neg.mono (by omega)⟩ (fun hh=>h (by
   obtain ⟨h1,h2⟩:=hh
   obtain ⟨x,y⟩:=a
   obtain ⟨z,t⟩:=b
   simp only [eR] at h1 h2
   refine Prod.ext ?_ ?_<;>simp only []<;>grind))
 exact VP.tr EA [hc e,hc hs,bj [8] (adm G (eR b a)),hc hr,bj [8] hl] (by kernel_rfl)
theorem Z4 (l:Rat × Rat × Rat) (p:Q2) (hl:TL l) (hp:jt 2000 p) (h0:N9 l≠0):bF Tryz.prog G 103 [LV l,V2 p] (NV ((fB (l.1,l.2.1) p-l.2.2)*(1/fB (l.1,l.2.1) (l.1,l.2.1)))):=by
 have sn:jt 20000 (l.1,l.2.1):=⟨hl.1.mono (by omega),hl.2.1.mono (by omega)⟩
 have h1:=adl G (l.1,l.2.1) p sn (hp.mono (by omega))
 have s1:Sm 4167 (fB (l.1,l.2.1) p):=(Sm.dot (a:=(l.1,l.2.1)) ⟨hl.1,hl.2.1⟩ hp).mono (by omega)
 have h2:=TG G _ l.2.2 (s1.mono (by omega)) (hl.2.2.mono (by omega))
 have h3:=gSq G (l.1,l.2.1) sn
 have h4:=NL G _ (fB (l.1,l.2.1) (l.1,l.2.1)) h0 ((NQ hl hp).mono (by omega)) ((NR hl).mono (by omega))
 exact bF.tr Ab [hc (Rx G l),hc h1,bj [1] (EN G (fB (l.1,l.2.1) p)),hc h2,bj [1] (EN G (fB (l.1,l.2.1) p-l.2.2)),hc h3,bj [1] (EN G (fB (l.1,l.2.1) (l.1,l.2.1))),hc h4,bj [1] (EN G ((fB (l.1,l.2.1) p-l.2.2)*(1/fB (l.1,l.2.1) (l.1,l.2.1))))] (by kernel_rfl)
theorem Xp (l:Rat × Rat × Rat) (p:Q2) (hl:TL l) (hp:jt 2000 p) (h0:N9 l≠0):VP Tryz.prog G 55 [LV l,V2 p, .int .i64 2] (.tup [V2 (wD l p), .int .i64 0]):=by
 have h1:=Z4 G l p hl hp h0
 have h2:VP Tryz.prog G 54 [.int .i64 2] (NV 2):=ajG G 2 (by decide)
 have s1:Sm 4667 ((fB (l.1,l.2.1) p-l.2.2)*(1/fB (l.1,l.2.1) (l.1,l.2.1))):=((NQ hl hp).mul (H9.div (NR hl) (by omega))).mono (by omega)
 have h3:=Lf G _ 2 (s1.mono (by omega)) (PA.mono (by omega))
 have sf:=Rw hl hp
 have sn:jt 83 (l.1,l.2.1):=⟨hl.1,hl.2.1⟩
 have h4:=W6 G (l.1,l.2.1) (yd l p) (sn.mono (by omega)) (sf.mono (by omega))
 have h5:=agM G p (iA (l.1,l.2.1) (yd l p)) (hp.mono (by omega)) ((sn.scale sf).mono (by omega))
 exact VP.tr EB [bj [5] h1,hc h2,hc h3,bj [5] (EN G (yd l p)),hc (Rx G l),hc h4,bj [5] (adm G (iA (l.1,l.2.1) (yd l p))),hc h5,bj [5] (adm G (eR p (iA (l.1,l.2.1) (yd l p)))),bj [5] (adn G (eR p (iA (l.1,l.2.1) (yd l p))))] (by kernel_rfl)
theorem Z5 (l:Rat × Rat × Rat) (p:Q2) (hl:TL l) (hp:jt 2000 p) (h0:N9 l≠0):VP Tryz.prog G 26 [LV l,V2 p] (.tup [V2 (wD l p), .int .i64 0]):=VP.tr FT [hc (Xp G l p hl hp h0)] (by kernel_rfl)
end
end Go.Proofs.YtchdghnpcekegaaGreat
end

section
set_option linter.unusedSimpArgs false
set_option linter.unusedVariables false
set_option maxRecDepth 100000
namespace Go.VL
open Go.Lib
abbrev Z6:cy:=(cS [oT 93 .lss 92 91] (.seq (.cond (.t 93) .skip (.exit 0)) (.seq (.block 1 (cS [oA 94 15 90 92,aK 95 15 94,⟨some 15,.box (.c (.agg [(.str []),(.bool false),.nils,.nils,.nils,.nils,.nils,.nils,.nils,.nils,.nils,.nils,.nils,.nils,(.bool false)])),none⟩,oS 15 15 95] (cR [oM 96 13,oF 97 0 15,oL 98 1 97,⟨some 99,.buildSl 1 1 (.str []) [(0,(.t 98))],none⟩,yZ 100 1 16 96 99,oM 13 100]))) (cR [bn 101 .add 92 1,oM 92 101]))))
abbrev Z7 (fF fE:Nat):cy:=(cS [oT 124 .lss 123 122] (.seq (.cond (.t 124) .skip (.exit 2)) (.seq (.block 3 (cS [oM 125 123,oA 126 1 121 123,oL 127 1 126,oM 18 125,oM 19 127] (.seq (.reg (some [(7,11)]) [oM 128 16,oM 129 9,oN 130 129,oM 131 18,oT 132 .add 130 131,oA 133 15 128 132,oF 134 1 133,aK 135 14 134,oM 136 5,oM 137 5,oM 138 19,bf 139 fF 137 138,oA 140 15 136 139,oF 141 1 140,aK 142 14 141,bf 143 fE 135 142,sx 144 143]) (.cond (.t 144) (cS [oB 4 false] .ret) .skip)))) (cR [bn 145 .add 123 1,oM 123 145]))))
def Xq (l:List NX) (ins:List (List UInt8)) (ax:List UInt8) (m ms:List NX) (i:Nat) (o:AV):List AV:=List.replicate 5 .top++[dB l, .top,strs ins, .str ax,dB m]++List.replicate 3 .top++[o]++List.replicate 76 .top++[dB ms, .int .i64 ((ms.map NX.av).length:Nat), .int .i64 (i:Int)]++List.replicate 53 .top
theorem AK {ρ : Id->Id} {l:List NX} {ins:List (List UInt8)} {ax:List UInt8} {m ms:List NX} {i:Nat} {o:AV}:b9 ρ (Xq l ins ax m ms i o)=Xq l ins ax m ms i (o.dT ρ):=by
 unfold Xq
 simp only [qj,kW,pk,H4,PU.fixed,Le]
def mlE (l:List NX) (ins:List (List UInt8)) (ax:List UInt8) (m:List NX) (ns:List (List UInt8)):List AV:=List.replicate 5 .top++[dB l, .top,strs ins, .str ax,dB m]++List.replicate 3 .top++[strs ns]++List.replicate 132 .top
def BS (q:Id) (l:List (List UInt8)):List (Id × cZ):=if l=[] then [] else [(q,⟨l.map AV.str,1,false⟩)]
theorem Xr {q:Id} {l:List (List UInt8)} (h:l≠[]):BS q l=[(q,⟨l.map AV.str,1,false⟩)]:=if_neg h
theorem Xs {q:Id} {l:List (List UInt8)} (h:l≠[]):OL q 1 (l.map AV.str) = .osl q 1 0 l.length false:=by rw [Fm (by simpa using h)];simp
theorem Ge {ρ : Id->Id} {l:List (List UInt8)}:b9 ρ (l.map AV.str)=l.map AV.str:=(H3.map (f:=AV.str) (fun _=>inferInstance) l).fix ρ
theorem Z8 {ρ : Id->Id} {s:List UInt8}:b9 ρ [AV.str s]=[AV.str s]:=rfl
theorem adp (l:List (List UInt8)):((l.map AV.str).all fun e=>e.cells.all AV.one)=true:=pg (f:=AV.str) (fun x=>by simp [AV.cells,AV.one]) l
theorem Z9 {σ : af} {p id Cf:Id} {l:List (List UInt8)} {x:List UInt8} (h : σ id=some ⟨[.str x],1,false⟩) (h2 : σ Cf=some ⟨l.map AV.str,1,false⟩) (hl:l.length<=100000):eu σ p 1 16 (.osl Cf 1 0 l.length false) (.osl id 1 0 1 false)=some { val := .osl p 1 0 (l++[x]).length false,rd:=[Cf,id],up:=[(Cf,none),(p,some ⟨(l++[x]).map AV.str,1,false⟩)] }:=by
 have:=AE (σ := σ) (p:=p) (bytes:=16) (t:=false) h h2 (by simp;omega) (by decide) rfl (adp l)
 have e:(l++[x]).map AV.str=l.map AV.str++[.str x]:=by simp
 have e':(l++[x]).length=(l.map AV.str).length+1:=by simp
 rw [e,e']
 have e2:l.length=(l.map AV.str).length:=by simp
 rw [e2];exact this
theorem Xt {σ : af} {q:Id} {l:List (List UInt8)} (h : σ q=some ⟨l.map AV.str,1,false⟩):View σ (.osl q 1 0 l.length false) (strs l):=by
 have e:(l.map AV.str).length=l.length:=List.length_map ..
 rw [<- e]
 exact View.osl (bk:=⟨l.map AV.str,1,false⟩) h rfl (by simp) (by
   rw [List.drop_zero,List.take_length]
   refine aG.pure (by intro c hc;obtain ⟨e,he,hc⟩:=List.mem_flatMap.1 hc;obtain ⟨s,_,rfl⟩:=List.mem_map.1 he;rcases List.mem_singleton.1 hc with rfl;exact aa.str _)) (by simp) (by intro a ha;obtain ⟨y,_,rfl⟩:=List.mem_map.1 ha;rfl)
section
variable {P:Program} {G:Nat->Option (List AV)}
theorem PC (l:List NX) (ins:List (List UInt8)) (ax:List UInt8) (m ms:List NX) (h0:ms≠[]) (hl:ms.length<=100) :
   VW P G [] (.loop Z6) (fun e s=>e = .exit 0/\Wk G [] s ⟨mlE l ins ax m (ms.map NX.name),dz.to (N8 []),10000⟩) ⟨Xq l ins ax m ms 0 .nils,af.of [],1000⟩:=by
 refine VW.QX (α := Nat × Nat) (fun y=>⟨Xq l ins ax m ms y.1 (OL [y.2] 1 (((ms.take y.1).map NX.name).map AV.str)),af.of (BS [y.2] ((ms.take y.1).map NX.name)),1000+13*y.1⟩)
   (fun y=>y.1<=ms.length) (fun y=>ms.length-y.1) (0,999) (Wk.refl _ _ _) (Nat.zero_le _) ?_
 rintro ⟨i,q⟩ hi
 simp only [] at hi ⊢
 generalize Kk:1000+13*i=n at *
 by_cases hlt:i<ms.length
 . obtain ⟨x,hx⟩:∃ x,ms[i]? = some x:=⟨ms[i],by simp [hlt]⟩
   have d:decide ((i:Int)<(((ms.map NX.av).length:Nat):Int))=true:=ay (by simpa using hlt)
   have k94:=mP hx
   have Xm:=aL i (by omega)
   have EJ:(ms.take (i+1)).map NX.name=(ms.take i).map NX.name++[x.name]:=wA hx
   have hLl:((ms.take i).map NX.name).length<=100:=by simp;omega
   generalize (ms.take i).map NX.name=L at *
   obtain ⟨xn,xc⟩:=x
   simp only [] at EJ
   have hmn:n+13=1000+13*(i+1):=by omega
   by_cases Fo:L=[]
   . subst Fo
     have a1:∀ (σ : af) (p:Id),(∀ y∈[([8,0],(⟨[.str xn],1,false⟩:cZ))], σ y.1=some y.2)->bO σ p (.append 1 16 .nils (.osl [8,0] 1 0 1 false))=some { val := .osl p 1 0 1 false,rd:=[[8,0]],up:=[(p,some ⟨[.str xn],1,false⟩)] } :=
       fun σ p hσ => uP (hσ ([8,0],⟨[.str xn],1,false⟩) (by simp)) (by decide) rfl
     refine VW.tr (π := []) (n:=n) (fun _=>[q]) [hb 93 d,ho 94 k94, .st 100 _ _ _ a1,hw 101 Xm] (Xq l ins ax m ms i .nils) [] .normal (Xq l ins ax m ms (i+1) (.osl [9,0] 1 0 1 false)) [([9,0],⟨[.str xn],1,false⟩)] 13 (by kernel_rfl)
       AK rfl AK (by simp only [dC,eJ,gj,Z8];rfl) (by simp [BS]) fun s hw => ?_
     exact ⟨(i+1,n+9),hlt,by simp only [];omega,by simp only [EJ, <- hmn];exact hw⟩
   . rw [Xs Fo,Xr Fo]
     have hLX:L++[xn]≠[]:=by simp
     have a1:∀ (σ : af) (p:Id),(∀ y∈[([8,0],(⟨[.str xn],1,false⟩:cZ)),([1],⟨L.map AV.str,1,false⟩)], σ y.1=some y.2)->bO σ p (.append 1 16 (.osl [1] 1 0 L.length false) (.osl [8,0] 1 0 1 false))=some { val := .osl p 1 0 (L++[xn]).length false,rd:=[[1],[8,0]],up:=[([1],none),(p,some ⟨(L++[xn]).map AV.str,1,false⟩)] } :=
       fun σ p hσ => Z9 (hσ ([8,0],⟨[.str xn],1,false⟩) (by simp)) (hσ ([1],⟨L.map AV.str,1,false⟩) (by simp)) (by omega)
     refine VW.tr (π := []) (n:=n) (fun _=>[q]) [hb 93 d,ho 94 k94, .st 100 _ _ _ a1,hw 101 Xm] (Xq l ins ax m ms i (.osl [1] 1 0 L.length false)) [([1],⟨L.map AV.str,1,false⟩)] .normal (Xq l ins ax m ms (i+1) (.osl [9,0] 1 0 (L++[xn]).length false)) [([9,0],⟨(L++[xn]).map AV.str,1,false⟩)] 13 (by kernel_rfl)
       AK (by simp only [dC,eJ,gj,Ge];rfl) AK (by simp only [dC,eJ,gj,Ge];rfl) (by simp) fun s hw => ?_
     exact ⟨(i+1,n+9),hlt,by simp only [];omega,by simp only [EJ,Xs hLX,Xr hLX, <- hmn];exact hw⟩
 . have hcc:i=ms.length:=by omega
   subst hcc
   have d:decide (((ms.length:Nat):Int)<(((ms.map NX.av).length:Nat):Int))=false:=au (by simp)
   rw [List.take_length]
   have Fo:ms.map NX.name≠[]:=by simpa using h0
   have adk:n+1<=10000:=by omega
   generalize ms.map NX.name=L at *
   rw [Xs Fo,Xr Fo]
   refine VW.tr (π := []) (n:=n) (fun _=>[q]) [hb 93 d] (Xq l ins ax m ms ms.length (.osl [1] 1 0 L.length false)) [([1],⟨L.map AV.str,1,false⟩)] (.exit 0) (Xq l ins ax m ms ms.length (.osl [1] 1 0 L.length false)) [([1],⟨L.map AV.str,1,false⟩)] 1 (by kernel_rfl)
     AK (by simp only [dC,eJ,gj,Ge];rfl) AK (by simp only [dC,eJ,gj,Ge];rfl) (by simp) fun s hw=>⟨rfl,hw.trans ?_⟩
   have YJ:af.of [([q],(⟨L.map AV.str,1,false⟩:cZ))] [q]=some ⟨L.map AV.str,1,false⟩:=by simp [af.of]
   refine Wk.freeze [([q],⟨L.map AV.str,1,false⟩)] (by intro x hx;rw [List.mem_singleton.1 hx];exact YJ) ?_ (fun i => .inl rfl) adk
   have hv:=Xt (σ := af.of [([q],(⟨L.map AV.str,1,false⟩:cZ))]) (q:=[q]) (l:=L) (by simp [af.of])
   repeat (first | exact trivial | refine And.intro (Or.inl rfl) ?_ | refine And.intro (Or.inr (Or.inl rfl)) ?_ | refine And.intro (Or.inr (Or.inr hv)) ?_)
def mcT (l:List NX) (ins:List (List UInt8)) (m n:List NX) (i:Nat):List AV:=List.replicate 5 .top++[dB l, .top, .top, .top,dB m]++List.replicate 6 .top++[dB n]++List.replicate 104 .top++[strs ins, .int .i64 ((ins.map AV.str).length:Nat), .int .i64 (i:Int)]++List.replicate 22 .top
theorem Gf {ρ : Id->Id} {l:List NX} {ins:List (List UInt8)} {m n:List NX} {i:Nat}:b9 ρ (mcT l ins m n i)=mcT l ins m n i:=by
 unfold mcT
 simp only [qj,kW,pk,H4,PU.fixed,Le]
theorem PD {fF fE:FuncId} (l:List NX) (ins:List (List UInt8)) (m n:List NX) (Pz:ins.length<=100) (hm:m.length<=1000) (hF:∀ s,VP P G fF [dB l, .str s] (.int .i64 (da l s))) (iL:∀ s∈ins, ¬ da l s<0) (hE:∀ s∈ins,VP P G fE [(a6 l s).av,(a6 l s).av] (.bool true))
   (hn:∀ i s,ins[i]? = some s->∃ y:NX,n[m.length+i]? = some y/\y.c=a6 l s) :
   VW P G [] (.loop (Z7 fF fE)) (fun e s=>e = .exit 2/\Wk G [] s ⟨List.replicate 146 .top,dz.to (N8 []),30000⟩) ⟨mcT l ins m n 0,af.of [],20000⟩:=by
 refine VW.QX (α := Nat) (fun i=>⟨mcT l ins m n i,af.of [],20000+25*i⟩) (fun i=>i<=ins.length) (fun i=>ins.length-i) 0 (Wk.refl _ _ _) (Nat.zero_le _) ?_
 intro i hi
 generalize Kk:20000+25*i=N at *
 by_cases hlt:i<ins.length
 . obtain ⟨s,hs⟩:∃ s,ins[i]? = some s:=⟨ins[i],by simp [hlt]⟩
   have hsm:=List.mem_of_getElem? hs
   obtain ⟨k,z,hk,hz,F9,Bo⟩:=jY (iL s hsm)
   obtain ⟨y,hy,hyc⟩:=hn i s hs
   have d:decide ((i:Int)<(((ins.map AV.str).length:Nat):Int))=true:=ay (by simpa using hlt)
   have akm:cx 1 (strs ins) (.int .i64 (i:Int))=some (.ep (AV.str s).cells 0):=fX (k:=1) rfl (by rw [List.getElem?_map,hs];rfl)
   have akn:IntKind.i64.wrap (((m.map NX.av).length:Int)+(i:Int))=((m.length+i:Nat):Int):=by rw [IntKind.wrap_i64,List.length_map];omega
   have ako:=mP hy
   have XQ:=hF s
   rw [hk] at XQ
   have akp:=mP hz
   have hE1:=hE s hsm
   rw [<- hyc] at hE1
   have hcy:y.c=z.c:=hyc.trans Bo
   have hE2:VP P G fE [y.c.av,z.c.av] (.bool true):=by rw [<- hcy];exact hE1
   have Xm:=aL i (by omega)
   have hmn:N+25=20000+25*(i+1):=by omega
   refine VW.tr (π := []) (n:=N) (fun _=>[]) [hb 124 d,ho 126 akm,hw 132 akn,ho 133 ako,hc XQ,ho 140 akp,hc hE2,hw 145 Xm] (mcT l ins m n i) [] .normal (mcT l ins m n (i+1)) [] 25 (by kernel_rfl) Gf rfl Gf rfl (by simp) fun s hw => ?_
   exact ⟨i+1,hlt,by simp only [];omega,by simp only [<- hmn];exact hw⟩
 . have hcc:i=ins.length:=by omega
   subst hcc
   have d:decide (((ins.length:Nat):Int)<(((ins.map AV.str).length:Nat):Int))=false:=au (by simp)
   refine VW.tr (π := []) (n:=N) (fun _=>[]) [hb 124 d] (mcT l ins m n ins.length) [] (.exit 2) (mcT l ins m n ins.length) [] 1 (by kernel_rfl) Gf rfl Gf rfl (by simp) fun s hw=>⟨rfl,hw.trans ?_⟩
   refine Wk.forget ?_ (fun j => .inl rfl) (by omega)
   repeat (first | exact trivial | refine And.intro (Or.inl rfl) ?_)
end
end Go.VL
end

section
set_option linter.unusedSimpArgs false
set_option linter.unusedVariables false
set_option maxRecDepth 100000
namespace Go.VL
open Go.Lib
def bC (nm:List UInt8) (l:List NX) (ins:List (List UInt8)) (ax:List UInt8):List NX:=ins.map (yX nm l (EM (a6 l ax).a (a6 l ax).b))
noncomputable def DB (nm:List UInt8) (l:List NX) (ins:List (List UInt8)) (ax:List UInt8):Int:=if ins=[] then 1 else if dG nm l (ins++[ax])≠0 then dG nm l (ins++[ax]) else if (a6 l ax).Aj=true then 1 else iG l (bC nm l ins ax)
noncomputable def NS (nm:List UInt8) (l:List NX) (ins:List (List UInt8)) (ax:List UInt8):AV:=if DB nm l ins ax=0 then .tup [dB (l++bC nm l ins ax), .int .i64 0] else .tup [.nils, .int .i64 (DB nm l ins ax)]
theorem DC {nm:List UInt8} {l:List NX} {ins:List (List UInt8)} {ax:List UInt8} (h:DB nm l ins ax=0):ins≠[]/\dG nm l (ins++[ax])=0/\(a6 l ax).Aj=false/\iG l (bC nm l ins ax)=0:=by
 unfold DB at h
 split at h
 . cases h
 rename_i h1
 split at h
 . rename_i h2;exact absurd h h2
 rename_i h2
 split at h
 . cases h
 rename_i h3
 exact ⟨h1,by simpa using h2,by simpa using h3,h⟩
theorem TM {σ : af} {nm ax:List UInt8} {ins:List (List UInt8)}:pZ σ 1 (strs (nm::(ins++[ax]))) (some (.int .i64 1)) (some (.int .i64 ((ins.length+1:Nat):Int))) none (ek 1 (strs (nm::(ins++[ax]))) (some (.int .i64 1)) (some (.int .i64 ((ins.length+1:Nat):Int))) none)=some { val:=strs ins }:=by
 have h2:List.take ins.length ((ins++[ax]).map AV.str)=ins.map AV.str:=by
   rw [List.map_append]
   exact List.take_left' (by simp)
 have:ek 1 (strs (nm::(ins++[ax]))) (some (.int .i64 1)) (some (.int .i64 ((ins.length+1:Nat):Int))) none=some (strs ins):=by
   simp only [strs,ek,gw,jA]
   have a1:(1:Int)<=(ins.length:Int)+1:=by omega
   have a2:(ins.length:Int)+1<=(ins.length:Int)+1+1:=by omega
   have b1:(0:Int)<=(ins.length:Int)+1:=by omega
   simp [a1,a2,b1,List.take_succ_cons]
 rw [this];rfl
theorem PE {σ : af} {l m:List NX}:pZ σ 15 (dB (l++m)) (some (.int .i64 ((l.map NX.av).length:Nat))) none none (ek 15 (dB (l++m)) (some (.int .i64 ((l.map NX.av).length:Nat))) none none)=some { val:=dB m }:=by
 have:ek 15 (dB (l++m)) (some (.int .i64 ((l.map NX.av).length:Nat))) none none=some (dB m):=by
   simp only [dB,ek,gw,jA]
   have a1:(l.length:Int)<=(l.length:Int)+m.length:=by omega
   have h2:List.take m.length (m.map NX.av)=m.map NX.av:=List.take_of_length_le (by simp)
   simp only [List.map_append,List.length_append,List.length_map]
   simp [a1]
   rw [List.take_of_length_le (by simp),List.drop_left' (by simp)]
 rw [this];rfl
theorem NT {names:List (List UInt8)} (h:2<=names.length):∃ nm ins ax,names=nm::(ins++[ax]):=by
 cases names with
 | nil=>simp at h
 | cons nm r=>exact ⟨nm,r.dropLast,r.getLast (by intro e;subst e;simp at h),by rw [List.dropLast_concat_getLast]⟩
section
variable {P:Program} {G:Nat->Option (List AV)}
theorem Xu {f fa fl fcn fcs fp fr fR fF fE:FuncId} (h:Has P f (jV fa fl fcn fcs fp fr fR fF fE)) (ds:List DX) (names:List (List UInt8)) (wb:VP P G fa [] (.bool true)) (ok:Bool) (l:List NX) (hl:VP P G fl [Lq ds] (.tup [dB l, .bool ok]))
   (hcn:ok=true->VP P G fcn [dB l] (dB l)) (hcs:∀ ns:List (List UInt8),ns.length<=1000->VP P G fcs [strs ns] (strs ns))
   (hM:ok=true->∀ nm ins ax,nm.length<=40->ins.length<=4->VP P G fp [.str nm,dB l,strs ins, .str ax] (NS nm l ins ax)) (hr:ok=true->∀ nm ins ax,nm.length<=40->ins.length<=4->VP P G fr [.str nm,dB l,strs ins, .str ax] (NS nm l ins ax))
   (hR:ok=true->∀ nm ins ax,nm.length<=40->ins.length<=4->DB nm l ins ax=0->VP P G fR [dB (l++bC nm l ins ax), .int .i64 0,dB (l++bC nm l ins ax), .int .i64 0] (.bool true)) (hR0:∀ e,VP P G fR [.nils, .int .i64 e, .nils, .int .i64 e] (.bool true))
   (h2:ok=true->∀ nm ins ax,nm.length<=40->ins.length<=4->DB nm l ins ax=0->∃ n:List NX,VP P G fp [.str [97,103,97,105,110],dB (l++bC nm l ins ax),strs ((bC nm l ins ax).map NX.name), .str ax] (.tup [dB n, .int .i64 0])/\n.length=(l++bC nm l ins ax).length+ins.length/\∀ i s,ins[i]? = some s->∃ y:NX,n[(l++bC nm l ins ax).length+i]? = some y/\y.c=a6 l s)
   (hll:l.length<=100) (hF:∀ s,VP P G fF [dB l, .str s] (.int .i64 (da l s))) (hE:ok=true->∀ s, ¬ da l s<0->VP P G fE [(a6 l s).av,(a6 l s).av] (.bool true)):VP P G f [Lq ds,strs names] (.bool true):=by
 cases ok
 . exact VP.tr h [hc wb,hc hl] (by kernel_rfl)
 have TN:qS false (strs names)=some (.int .i64 names.length):=gK names
 by_cases XG:names.length<2
 . exact VP.tr h [hc wb,hc hl,ho 31 TN,hb 32 (ay (by omega):decide ((names.length:Int)<2)=true)] (by kernel_rfl)
 have d1:decide ((names.length:Int)<2)=false:=au (by omega)
 by_cases h6:6<names.length
 . exact VP.tr h [hc wb,hc hl,ho 31 TN,hb 32 d1,ho 36 TN,hb 37 (ay (by omega):decide ((names.length:Int)>6)=true)] (by kernel_rfl)
 have d2:decide ((names.length:Int)>6)=false:=au (by omega)
 obtain ⟨nm,ins,ax,uS⟩:=NT (by omega:2<=names.length)
 have X4:names.length=ins.length+2:=by rw [uS];simp
 have mY:cx 1 (strs names) (.int .i64 0)=some (.ep (AV.str nm).cells 0):=by rw [uS];simp [strs,cx]
 by_cases h40:40<nm.length
 . exact VP.tr h [hc wb,hc hl,ho 31 TN,hb 32 d1,ho 36 TN,hb 37 d2,ho 41 mY,hb 44 (ay (by omega):decide ((nm.length:Int)>40)=true)] (by kernel_rfl)
 have d3:decide ((nm.length:Int)>40)=false:=au (by omega)
 have k49:IntKind.i64.wrap ((names.length:Int)-1)=((ins.length+1:Nat):Int):=by rw [IntKind.wrap_i64];omega
 have k50:∀ (σ : af) (p:Id),(∀ x∈([]:List (Id × cZ)), σ x.1=some x.2)->bO σ p (.slice 1 (strs names) (some (.int .i64 1)) (some (.int .i64 ((ins.length+1:Nat):Int))) none)=some { val:=strs ins }:=fun σ p _=>by rw [uS];exact TM (σ := σ)
 have k55:cx 1 (strs names) (.int .i64 ((ins.length+1:Nat):Int))=some (.ep (AV.str ax).cells 0):=fX (k:=1) rfl (by rw [uS];simp)
 have Ry:nm.length<=40:=by omega
 have hi4:ins.length<=4:=by omega
 have p1:=hM rfl nm ins ax Ry hi4
 have r1:=hr rfl nm ins ax Ry hi4
 have agP:=hcs ins (by omega)
 have agQ:=hcn rfl
 unfold NS at p1 r1
 by_cases XN:DB nm l ins ax=0
 case neg =>
   rw [if_neg XN] at p1 r1
   exact VP.tr h [hc wb,hc hl,ho 31 TN,hb 32 d1,ho 36 TN,hb 37 d2,ho 41 mY,hb 44 d3,ho 48 TN,hw 49 k49, .st 50 [] _ _ k50,ho 53 TN,hw 54 k49,ho 55 k55,ho 59 mY,hc agQ,hc agP,hc p1,ho 71 mY,hc r1,hc (hR0 (DB nm l ins ax)),hb 86 (bne_iff_ne.2 XN)] (by kernel_rfl)
 rw [if_pos XN] at p1 r1
 have R1:=hR rfl nm ins ax Ry hi4 XN
 obtain ⟨n,p2,hn,hcv⟩:=h2 rfl nm ins ax Ry hi4 XN
 obtain ⟨TT,nk,_,DT⟩:=DC XN
 obtain ⟨_,_,iL⟩:=pY nk
 have alQ:=wB DT
 have hM0:bC nm l ins ax≠[]:=by unfold bC;simpa using TT
 have hMl:(bC nm l ins ax).length=ins.length:=by unfold bC;simp
 generalize bC nm l ins ax=M at *
 have k90:∀ (σ : af) (p:Id),(∀ x∈([]:List (Id × cZ)), σ x.1=some x.2)->bO σ p (.slice 15 (dB (l++M)) (some (.int .i64 ((l.map NX.av).length:Nat))) none none)=some { val:=dB M }:=fun σ p _=>PE (σ := σ)
 have l1:=PC (P:=P) (G:=G) l ins ax (l++M) M hM0 (by omega)
 have l2:=PD (P:=P) (G:=G) (fF:=fF) (fE:=fE) l ins (l++M) n (by omega) (by simp;omega) hF (fun s hs=>iL s (List.mem_append_left _ hs)) (fun s hs=>hE rfl s (iL s (List.mem_append_left _ hs))) hcv
 have akq:IntKind.i64.wrap ((((l++M).map NX.av).length:Int)+((ins.map AV.str).length:Int))=((n.map NX.av).length:Int):=by rw [IntKind.wrap_i64,List.length_map,List.length_map,List.length_map,hn];simp;omega
 have akr:(((n.map NX.av).length:Int) != ((n.map NX.av).length:Int))=false:=by simp
 exact VP.tr h [hc wb,hc hl,ho 31 TN,hb 32 d1,ho 36 TN,hb 37 d2,ho 41 mY,hb 44 d3,ho 48 TN,hw 49 k49, .st 50 [] _ _ k50,ho 53 TN,hw 54 k49,ho 55 k55,ho 59 mY,hc agQ,hc agP,hc p1,ho 71 mY,hc r1,hc R1, .st 90 [] _ _ k90, .lp [] _ _ _ _ _ _ _ _ l1,hc p2,hw 118 akq,hb 119 akr, .lp [] _ _ _ _ _ _ _ _ l2] (by kernel_rfl)
end
end Go.VL
end

section
set_option maxRecDepth 100000
namespace Go.Proofs.YtchdghnpcekegaaGreat
open Go.VL Go.Proofs Go.Lib
def Xv (c w k:VL.Id) (l:Rat × Rat × Rat):List (VL.Id × cZ):=[(c,⟨[.ref k 0 0],1,false⟩),(w,⟨[LV l],6,false⟩),(k,eB)]
def mrK (c w k:VL.Id):Nat->VL.Id
 | 1=>c
 | 2=>w
 | _=>k
theorem DF (l:List (List UInt8)):((l.map AV.str).all fun e=>e.cells.all AV.one)=true:=pg (f:=AV.str) (fun x=>by simp [AV.cells,AV.one]) l
section
variable (G:Nat->Option (List AV))
theorem aks (l:Rat × Rat × Rat) (hl:TL l) (h0:N9 l≠0) {c w k:VL.Id} (d1:c≠w) (d2:c≠k) (d3:w≠k):ImC Tryz.prog G 24 [.ref c 0 0, .ref w 0 0] (Xv c w k l) (wD l) (jt 2000):=fun p hS a sa =>
 aZ.trs (p:=p) z9 (mrK c w k) [hc (Z5 G l a hl sa h0),bj [3] (Gb iV (wD l a))] [V2 a, .ref [1] 0 0, .ref [2] 0 0] (Xv [1] [2] [3] l) (V2 (wD l a)) (by kernel_rfl)
   (by simp only [kW,pk,PU.fixed,Ld];rfl) (by unfold Xv;simp only [dC,eJ,gj,kW,pk,PU.fixed,Ld,acL];rfl) PU.fixed (by simp [Xv,d1,d2,d3])
theorem Lj (ins:List (List UInt8)) (h0:ins≠[]) (hl:ins.length<=1000) (p:VL.Id):aZ Tryz.prog G 8 [strs ins] p [] { val := .osl (5::p) 1 0 ins.length false,rd:=[],up:=[(5::p,some ⟨ins.map AV.str,1,false⟩)] }:=by
 obtain ⟨s,t,rfl⟩:∃ s t,ins=s::t:=by
   cases ins with
   | nil=>exact absurd rfl h0
   | cons s t=>exact ⟨s,t,rfl⟩
 generalize Pz:s::t=ins at *
 have a1:∀ (σ : af) (p:VL.Id),(∀ y∈([]:List (VL.Id × cZ)), σ y.1=some y.2)->bO σ p (.append 1 16 (.tsl 1 []) (strs ins))=some { val := .osl p 1 0 ins.length false,rd:=[],up:=[(p,some ⟨ins.map AV.str,1,false⟩)] }:=fun σ p _=>by
   have:=j3 (σ := σ) (p:=p) (k:=1) (bytes:=16) (es:=[]) (x:=strs ins) (ys:=ins.map AV.str) (rd:=[]) eO (by simpa using h0) (by simp;omega) (eD (by simp;omega)) (by simpa using DF ins)
   simp only [List.nil_append,List.length_nil,List.length_map,Nat.zero_add] at this
   exact this
 have e:∀ ρ : VL.Id->VL.Id,b9 ρ (ins.map AV.str)=ins.map AV.str:=fun ρ => (H3.map (f:=AV.str) (fun _=>inferInstance) ins).fix ρ
 subst Pz
 exact aZ.tr (p:=p) (up:=[(5::p,⟨(s::t).map AV.str,1,false⟩)]) js (fun _=>[]) [.st 7 [] _ _ a1] [strs (s::t)] [] (.osl [5,0] 1 0 (s::t).length false) [([5,0],⟨(s::t).map AV.str,1,false⟩)] (by kernel_rfl) (by rw [H3.fix]) rfl rfl (by simp only [dC,eJ,gj,e];rfl) (by simp) (by simp)
theorem Xw {σ : af} {f:List UInt8->CX} {ins:List (List UInt8)} {ax:List UInt8}:pZ σ 14 (IP ((ins++[ax]).map f)) none (some (.int .i64 (ins.length:Int))) none (ek 14 (IP ((ins++[ax]).map f)) none (some (.int .i64 (ins.length:Int))) none)=some { val:=IP (ins.map f) }:=by
 have h1:(ins.length:Int)<=(ins.length:Int)+1:=by omega
 have h2:List.take ins.length (((ins++[ax]).map f).map CX.av)=(ins.map f).map CX.av:=by
   rw [List.map_append,List.map_append]
   exact List.take_left' (by simp)
 have:ek 14 (IP ((ins++[ax]).map f)) none (some (.int .i64 (ins.length:Int))) none=some (IP (ins.map f)):=by
   simp only [IP,ek,gw,jA]
   simp [h1]
 rw [this];rfl
theorem Rz (nm:List UInt8) (l:List NX) (ins:List (List UInt8)) (ax:List UInt8) (uS:nm.length<=1000) (Pz:ins.length<=10) (hl:l.length<=1000) (hz:∀ z∈l,z.name.length<=1000/\z.c.valid=true/\z.c.Sm 1000) (T1:∀ z∈l,z.name=ax->z.c.Sm 20) :
   VP Tryz.prog G 6 [.str nm,dB l,strs ins, .str ax] (NS nm l ins ax):=by
 have hlen:qS false (strs ins)=some (.int .i64 ins.length):=gK ins
 unfold NS DB
 by_cases h0:ins=[]
 . subst h0
   rw [if_pos rfl,if_neg (by decide)]
   exact VP.tr iy [] (by kernel_rfl)
 rw [if_neg h0]
 have e18:((ins.length:Int)==0)=false:=by rw [beq_eq_false_iff_ne];intro e;exact h0 (List.length_eq_zero_iff.1 (by omega))
 have hI:=pIn G nm l hl (ins++[ax]) (by simp;omega)
 have k28:∀ (σ : af) (p:VL.Id),(∀ y∈[([13],(⟨[.str ax],1,false⟩:cZ)),([5,11],⟨ins.map AV.str,1,false⟩)], σ y.1=some y.2)->bO σ p (.append 1 16 (.osl [5,11] 1 0 ins.length false) (.osl [13] 1 0 1 false))=some { val := .osl p 1 0 (ins++[ax]).length false,rd:=[[5,11],[13]],up:=[([5,11],none),(p,some ⟨(ins++[ax]).map AV.str,1,false⟩)] }:=fun σ p hσ => by
   have:=AE (σ := σ) (p:=p) (bytes:=16) (t:=false) (hσ ([13],⟨[.str ax],1,false⟩) (by simp)) (hσ ([5,11],⟨ins.map AV.str,1,false⟩) (by simp)) (by simp;omega) (by decide) rfl (DF ins)
   have e:(ins++[ax]).map AV.str=ins.map AV.str++[.str ax]:=by simp
   have e':(ins++[ax]).length=(ins.map AV.str).length+1:=by simp
   rw [e,e']
   have e2:ins.length=(ins.map AV.str).length:=by simp
   rw [e2];exact this
 have hv:aG (af.of [([14],⟨(ins++[ax]).map AV.str,1,false⟩)]) [.str nm,dB l, .osl [14] 1 0 (ins++[ax]).length false] [.str nm,dB l,strs (ins++[ax])]:=aG.cons (View.pure PU.pure) (aG.cons (View.pure PU.pure) (aG.cons (vO (by simp [af.of]) (by simp) (by intro e he;obtain ⟨s,_,rfl⟩:=List.mem_map.1 he;rfl) (by intro e he c hc;obtain ⟨s,_,rfl⟩:=List.mem_map.1 he;rcases List.mem_singleton.1 hc with rfl;exact aa.str _)) aG.nil))
 by_cases nk:dG nm l (ins++[ax])=0
 case neg =>
   rw [if_neg nk] at hI
   rw [if_pos nk,if_neg nk]
   exact VP.tr iy [ho 17 hlen,hb 18 e18,ho 20 hlen, .rel 8 _ [] _ (fun p _=>Lj G ins h0 (by omega) p) (by intro p x hx;simp at hx), .st 28 _ _ _ k28,il [([14],⟨(ins++[ax]).map AV.str,1,false⟩)] hI hv,hb 33 (bne_iff_ne.2 nk)] (by kernel_rfl)
 rw [if_pos nk] at hI
 rw [if_neg (show ¬ (dG nm l (ins++[ax])≠0) by simp [nk])]
 obtain ⟨sY,_,iL⟩:=pY nk
 have e33:((0:Int) != 0)=false:=rfl
 have k37:cx 14 (IP ((ins++[ax]).map (a6 l))) (.int .i64 (ins.length:Int))=some (.ep (a6 l ax).av.cells 0):=K6 (by simp)
 obtain ⟨k0,z0,_,OA,F9,Bo⟩:=jY (iL ax (by simp))
 have Ur:=List.mem_of_getElem? OA
 have g0:=hz z0 Ur
 by_cases ha:(a6 l ax).Aj=true
 . rw [if_pos ha,if_neg (by decide)]
   exact VP.tr iy [ho 17 hlen,hb 18 e18,ho 20 hlen, .rel 8 _ [] _ (fun p _=>Lj G ins h0 (by omega) p) (by intro p x hx;simp at hx), .st 28 _ _ _ k28,il [([14],⟨(ins++[ax]).map AV.str,1,false⟩)] hI hv,ho 37 k37,hb 39 ha] (by kernel_rfl)
 rw [if_neg ha]
 have ha':(a6 l ax).Aj=false:=by simpa using ha
 have FV:(a6 l ax).a≠(a6 l ax).b:=by
   have XR:=g0.2.1
   rw [<- Bo] at XR
   unfold CX.valid at XR
   rw [ha'] at XR
   simpa using XR
 have XS:=T1 z0 Ur F9
 rw [<- Bo] at XS
 have hT:=Xo G _ _ FV XS.1 XS.2.1
 have Un:=Rv FV
 have R9:=Xn XS.1 XS.2.1
 unfold bC yX
 generalize EM (a6 l ax).a (a6 l ax).b=ln at *
 have k63:∀ (σ : af) (p:VL.Id),(∀ x∈([]:List (VL.Id × cZ)), σ x.1=some x.2)->bO σ p (.slice 14 (IP ((ins++[ax]).map (a6 l))) none (some (.int .i64 (ins.length:Int))) none)=some { val:=IP (ins.map (a6 l)) }:=fun σ p _=>Xw (σ := σ)
 have Yj:=fun p hp=>Tu (P:=Tryz.prog) (G:=G) BQ nm ins (a6 l) true (aks G ln R9 Un (c:=[49]) (w:=[42]) (k:=[48]) (by decide) (by decide) (by decide)) (by
     intro x hx
     simp only [Xv,List.mem_cons,List.not_mem_nil,or_false] at hx
     rcases hx with rfl | rfl | rfl<;>rfl) (fun s hs=>by
     obtain ⟨k,z,_,hz',_,hcu⟩:=jY (iL s (List.mem_append_left _ hs))
     have:=(hz z (List.mem_of_getElem? hz')).2.2
     rw [hcu]
     exact ⟨this.1.mono (by omega),this.2.1.mono (by omega),this.2.2.mono (by omega)⟩) (by omega) (by omega) (fun s hs=>by
     obtain ⟨k,z,_,hz',aku,_⟩:=jY (iL s (List.mem_append_left _ hs))
     have:=(hz z (List.mem_of_getElem? hz')).1
     rw [aku] at this;omega) p hp (fun s=>NX.av ⟨nm++[47]++s,(a6 l s).pj ln⟩) (fun s=>rfl)
 have Ln:l≠[]:=by rintro rfl;simp at Ur
 have hW:=agD G l (ins.map fun s=>⟨nm++[47]++s,(a6 l s).pj ln⟩) hl (by simp;omega) Ln (by simpa using h0)
 have Kk:(ins.map fun s=>(⟨nm++[47]++s,(a6 l s).pj ln⟩:NX)).map NX.av=ins.map fun s=>NX.av ⟨nm++[47]++s,(a6 l s).pj ln⟩:=by rw [List.map_map];rfl
 have hvw:aG (af.of [([3,57],⟨ins.map fun s=>NX.av ⟨nm++[47]++s,(a6 l s).pj ln⟩,15,false⟩)]) [dB l, .osl [3,57] 15 0 ins.length false] [dB l,dB (ins.map fun s=>⟨nm++[47]++s,(a6 l s).pj ln⟩)]:=by
   have:=F8 (σ := af.of [([3,57],⟨ins.map fun s=>NX.av ⟨nm++[47]++s,(a6 l s).pj ln⟩,15,false⟩)]) (id:=[3,57]) (l:=ins.map fun s=>⟨nm++[47]++s,(a6 l s).pj ln⟩) (b:=false) (t:=false) (by simp only [af.of];rw [Kk];simp)
   rw [List.length_map] at this
   exact aG.cons (View.pure PU.pure) (aG.cons this aG.nil)
 by_cases hf:iG l (ins.map fun s=>⟨nm++[47]++s,(a6 l s).pj ln⟩)=0
 . rw [if_pos hf] at hW ⊢
   exact VP.tr iy [ho 17 hlen,hb 18 e18,ho 20 hlen, .rel 8 _ [] _ (fun p _=>Lj G ins h0 (by omega) p) (by intro p x hx;simp at hx), .st 28 _ _ _ k28,il [([14],⟨(ins++[ax]).map AV.str,1,false⟩)] hI hv,ho 37 k37,hb 39 ha',ho 43 k37,ho 48 k37,hc hT, .st 63 [] _ _ k63, .rel 23 _ (Xv [49] [42] [48] ln) _ (fun p hp=>Yj p hp) (by intro p x hx;simp only [Xv,List.mem_cons,List.not_mem_nil,or_false] at hx;rcases hx with rfl | rfl | rfl<;>simp [Xv]),il _ hW hvw] (by kernel_rfl)
 . rw [if_neg hf] at hW ⊢
   exact VP.tr iy [ho 17 hlen,hb 18 e18,ho 20 hlen, .rel 8 _ [] _ (fun p _=>Lj G ins h0 (by omega) p) (by intro p x hx;simp at hx), .st 28 _ _ _ k28,il [([14],⟨(ins++[ax]).map AV.str,1,false⟩)] hI hv,ho 37 k37,hb 39 ha',ho 43 k37,ho 48 k37,hc hT, .st 63 [] _ _ k63, .rel 23 _ (Xv [49] [42] [48] ln) _ (fun p hp=>Yj p hp) (by intro p x hx;simp only [Xv,List.mem_cons,List.not_mem_nil,or_false] at hx;rcases hx with rfl | rfl | rfl<;>simp [Xv]),il _ hW hvw] (by kernel_rfl)
end
end Go.Proofs.YtchdghnpcekegaaGreat
end

section
set_option maxRecDepth 100000
namespace Go.Proofs.YtchdghnpcekegaaGreat
open Go.VL Go.Proofs Go.Lib
section
variable (G:Nat->Option (List AV))
theorem NU (b:Rat):1/b=b⁻¹ := by rw [Rat.div_def,Rat.one_mul]
theorem agR (b:Rat) (h:b≠0) (hb:Sm 100000 b):VP Tryz.prog G 197 [.nils,EV b] (.tup [EV (1/b), .int .i64 0]):=by
 rw [NU]
 exact Wb xL b h (V4 xH (agd G) b h hb)
theorem agS (a b:Rat) (h:b≠0) (ha:Sm 5000 a) (hb:Sm 5000 b):VP Tryz.prog G 164 [NV a,NV b] (.tup [NV (a*(1/b)), .int .i64 0]) :=
 VP.tr xY [hc (agR G b h (hb.mono (by omega))),hc (J2 G a (1/b) (ha.mono (by omega)) ((H9.div hb (by omega)).mono (by omega)))] (by kernel_rfl)
theorem RA (a:Rat):bF Tryz.prog G 162 [NV a, .int .i64 0] (NV a):=bF.tr qH [] (by kernel_rfl)
theorem adr (a b:Rat) (ha:Sm 100000 a) (hb:Sm 100000 b):bF Tryz.prog G 116 [NV a,NV b] (NV (a+b)):=bF.tr qY [hc (NC G a b ha hb),bj [1] (RA G (a+b))] (by kernel_rfl)
theorem ads (a b:Rat) (ha:Sm 100000 a) (hb:Sm 100000 b):bF Tryz.prog G 122 [NV a,NV b] (NV (a-b)):=bF.tr q8 [hc (abf G a b ha hb),bj [1] (RA G (a-b))] (by kernel_rfl)
theorem Lk (a b:Rat) (ha:Sm 100000 a) (hb:Sm 100000 b):bF Tryz.prog G 117 [NV a,NV b] (NV (a*b)):=bF.tr qZ [hc (J2 G a b ha hb),bj [1] (RA G (a*b))] (by kernel_rfl)
theorem PF (a b:Rat) (h:b≠0) (ha:Sm 5000 a) (hb:Sm 5000 b):bF Tryz.prog G 118 [NV a,NV b] (NV (a*(1/b))):=bF.tr q7 [hc (agS G a b h ha hb),bj [1] (RA G (a*(1/b)))] (by kernel_rfl)
theorem agT (a b k:Rat) (h0 : ¬ (a=0/\b=0)) (ha:Sm 5000 a) (hb:Sm 5000 b) (hk:Sm 5000 k):bF Tryz.prog G 115 [NV a,NV b,NV k] (.tup [LV (a*(1/(if a=0 then b else a)),b*(1/(if a=0 then b else a)),k*(1/(if a=0 then b else a))), .int .i64 0]):=by
 have hs:=EL G a (ha.mono (by omega))
 have e:decide (dm a=0)=decide (a=0):=AG a
 by_cases h:a=0
 . have h2:b≠0:=fun e=>h0 ⟨h,e⟩
   rw [decide_eq_true h] at e
   simp only [if_pos h]
   exact bF.tr kR [hc hs,Go.VL.hb 15 e,bj [1] (PF G a b h2 ha hb),bj [1] (PF G b b h2 hb hb),bj [1] (PF G k b h2 hk hb)] (by kernel_rfl)
 . rw [decide_eq_false h] at e
   simp only [if_neg h]
   exact bF.tr kR [hc hs,Go.VL.hb 15 e,bj [1] (PF G a a h ha ha),bj [1] (PF G b a h hb ha),bj [1] (PF G k a h hk ha)] (by kernel_rfl)
theorem agU (d:Q2) (h:d≠(0,0)) (hd:jt 100000 d):VP Tryz.prog G 114 [V2 d] (.bool false):=by
 have e1:decide (dm d.1=0)=decide (d.1=0):=AG d.1
 have e2:decide (dm d.2=0)=decide (d.2=0):=AG d.2
 by_cases h1:d.1=0
 . have h2:d.2≠0:=fun e=>h (Prod.ext h1 e)
   rw [decide_eq_true h1] at e1
   rw [decide_eq_false h2] at e2
   exact VP.tr n7 [hc (EL G d.1 hd.1),hb 6 e1,hc (EL G d.2 hd.2),hb 11 e2] (by kernel_rfl)
 . rw [decide_eq_false h1] at e1
   exact VP.tr n7 [hc (EL G d.1 hd.1),hb 6 e1] (by kernel_rfl)
theorem adt (a d:Q2) (h:d≠(0,0)) (ha:jt 40 a) (hd:jt 1000 d):VP Tryz.prog G 60 [V2 a,V2 d] (.tup [LV (-d.2*(1/(if -d.2=0 then d.1 else -d.2)),d.1*(1/(if -d.2=0 then d.1 else -d.2)),(-d.2*a.1+d.1*a.2)*(1/(if -d.2=0 then d.1 else -d.2))), .int .i64 0]):=by
 have s1:Sm 1040 (-d.2*a.1):=(hd.2.neg.mul ha.1).mono (by omega)
 have s2:Sm 1040 (d.1*a.2):=(hd.1.mul ha.2).mono (by omega)
 have m1:=Lk G (-d.2) a.1 (hd.2.neg.mono (by omega)) (ha.1.mono (by omega))
 have m2:=Lk G d.1 a.2 (hd.1.mono (by omega)) (ha.2.mono (by omega))
 have m3:=adr G _ _ (s1.mono (by omega)) (s2.mono (by omega))
 have m4:=agT G (-d.2) d.1 _ (fun ⟨e1,e2⟩=>h (Prod.ext e2 (by simp only [];grind))) (hd.2.neg.mono (by omega)) (hd.1.mono (by omega)) ((s1.add s2).mono (by omega))
 exact VP.tr uJ [hc (agU G d h (hd.mono (by omega))),hc (Rq G d (hd.mono (by omega))),bj [7] m1,bj [7] m2,bj [7] m3,bj [7] m4] (by kernel_rfl)
theorem Xx (a b:Q2) (h:a≠b) (ha:jt 20 a) (hb:jt 20 b):VP Tryz.prog G 29 [V2 a,V2 b] (.tup [LV (EM a b), .int .i64 0]):=by
 have e:=DA G a b (ha.mono (by omega)) (hb.mono (by omega))
 rw [decide_eq_false h] at e
 have hs:=W9 G b a (hb.mono (by omega)) (ha.mono (by omega))
 have sd:jt 41 (eR b a):=jt.sub hb ha
 have hd:eR b a≠(0,0):=fun e=>h (by
   obtain ⟨x,y⟩:=a
   obtain ⟨z,t⟩:=b
   simp only [eR,Prod.mk.injEq] at e
   refine Prod.ext ?_ ?_<;>simp only []<;>grind)
 have hl:=adt G a (eR b a) hd (ha.mono (by omega)) (sd.mono (by omega))
 have he:=adh h (-(eR b a).2,(eR b a).1) rfl
 simp only [] at he
 rw [he] at hl
 exact VP.tr si [hc e,hc hs,hc hl] (by kernel_rfl)
theorem aac (l:Rat × Rat × Rat) (p:Q2) (hl:TL l) (hp:jt 2000 p):bF Tryz.prog G 119 [LV l,V2 p] (NV (fB (l.1,l.2.1) p-l.2.2)):=by
 have s1:Sm 2083 (l.1*p.1):=(hl.1.mul hp.1).mono (by omega)
 have s2:Sm 2083 (l.2.1*p.2):=(hl.2.1.mul hp.2).mono (by omega)
 have m1:=Lk G l.1 p.1 (hl.1.mono (by omega)) (hp.1.mono (by omega))
 have m2:=Lk G l.2.1 p.2 (hl.2.1.mono (by omega)) (hp.2.mono (by omega))
 have m3:=adr G _ _ (s1.mono (by omega)) (s2.mono (by omega))
 have m4:=ads G _ l.2.2 ((s1.add s2).mono (by omega)) (hl.2.2.mono (by omega))
 exact bF.tr sV [bj [1] m1,bj [1] m2,bj [1] m3,bj [1] m4] (by kernel_rfl)
theorem adu (x y:Rat):bF Tryz.prog G 121 [NV x,NV y] (.tup [V2 (x,y), .int .i64 0]):=bF.tr qg [] (by kernel_rfl)
theorem adw (l:Rat × Rat × Rat) (p:Q2) (hl:TL l) (hp:jt 2000 p) (h0:N9 l≠0):VP Tryz.prog G 61 [LV l,V2 p, .int .i64 2] (.tup [V2 (wD l p), .int .i64 0]):=by
 have m1:=aac G l p hl hp
 have n1:=Lk G l.1 l.1 (hl.1.mono (by omega)) (hl.1.mono (by omega))
 have n2:=Lk G l.2.1 l.2.1 (hl.2.1.mono (by omega)) (hl.2.1.mono (by omega))
 have n3:=adr G (l.1*l.1) (l.2.1*l.2.1) ((hl.1.mul hl.1).mono (by omega)) ((hl.2.1.mul hl.2.1).mono (by omega))
 have m2:=PF G _ (l.1*l.1+l.2.1*l.2.1) h0 ((NQ hl hp).mono (by omega)) ((NR hl).mono (by omega))
 have h2:VP Tryz.prog G 120 [.int .i64 2] (NV 2):=agm G 2 (by decide)
 have s1:Sm 4667 ((fB (l.1,l.2.1) p-l.2.2)*(1/(l.1*l.1+l.2.1*l.2.1))):=((NQ hl hp).mul (H9.div (NR hl) (by omega))).mono (by omega)
 have m3:=Lk G _ 2 (s1.mono (by omega)) (PA.mono (by omega))
 have sf:=Rw hl hp
 have q1:=Lk G (yd l p) l.1 (sf.mono (by omega)) (hl.1.mono (by omega))
 have q2:=Lk G (yd l p) l.2.1 (sf.mono (by omega)) (hl.2.1.mono (by omega))
 have r1:=ads G p.1 (yd l p*l.1) (hp.1.mono (by omega)) ((sf.mul hl.1).mono (by omega))
 have r2:=ads G p.2 (yd l p*l.2.1) (hp.2.mono (by omega)) ((sf.mul hl.2.1).mono (by omega))
 have e:wD l p=(p.1-yd l p*l.1,p.2-yd l p*l.2.1):=by unfold wD;rw [Rat.mul_comm l.1,Rat.mul_comm l.2.1]
 rw [e]
 exact VP.tr uK [bj [5] m1,bj [5] n1,bj [5] n2,bj [5] n3,bj [5] m2,hc h2,bj [5] m3,bj [5] q1,bj [5] r1,bj [5] q2,bj [5] r2,bj [5] (adu G (p.1-yd l p*l.1) (p.2-yd l p*l.2.1))] (by kernel_rfl)
theorem Ll (l:Rat × Rat × Rat) (p:Q2) (hl:TL l) (hp:jt 2000 p) (h0:N9 l≠0):VP Tryz.prog G 30 [LV l,V2 p] (.tup [V2 (wD l p), .int .i64 0]):=VP.tr sU [hc (adw G l p hl hp h0)] (by kernel_rfl)
theorem adx (b:Int):VP Tryz.prog G 31 [.int .i64 0, .int .i64 b] (.int .i64 b):=VP.tr uI [] (by kernel_rfl)
end
end Go.Proofs.YtchdghnpcekegaaGreat
end

section
set_option maxRecDepth 100000
namespace Go.Proofs.YtchdghnpcekegaaGreat
open Go.VL Go.Proofs Go.Lib
section
variable (G:Nat->Option (List AV))
theorem aad (nm:List UInt8) (l:List NX) (ins:List (List UInt8)) (ax:List UInt8) (uS:nm.length<=1000) (Pz:ins.length<=10) (hl:l.length<=1000) (hz:∀ z∈l,z.name.length<=1000/\z.c.valid=true/\z.c.Sm 1000) (T1:∀ z∈l,z.name=ax->z.c.Sm 20) :
   VP Tryz.prog G 9 [.str nm,dB l,strs ins, .str ax] (NS nm l ins ax):=by
 have hlen:qS false (strs ins)=some (.int .i64 ins.length):=gK ins
 unfold NS DB
 by_cases h0:ins=[]
 . subst h0
   rw [if_pos rfl,if_neg (by decide)]
   exact VP.tr eh [] (by kernel_rfl)
 rw [if_neg h0]
 have e18:((ins.length:Int)==0)=false:=by rw [beq_eq_false_iff_ne];intro e;exact h0 (List.length_eq_zero_iff.1 (by omega))
 have hI:VP Tryz.prog G 28 [.str nm,dB l,strs (ins++[ax])] (.int .i64 (dG nm l (ins++[ax]))):=Nj sT nm l (ins++[ax]) (agx G nm) (fun s _=>ND G l hl s) (by simp;omega)
 have k30:∀ (σ : af) (p:VL.Id),(∀ y∈([]:List (VL.Id × cZ)), σ y.1=some y.2)->bO σ p (.append 1 16 (.tsl 1 []) (strs ins))=some { val := .osl p 1 0 ins.length false,rd:=[],up:=[(p,some ⟨ins.map AV.str,1,false⟩)] }:=fun σ p _=>by
   have:=j3 (σ := σ) (p:=p) (k:=1) (bytes:=16) (es:=[]) (x:=strs ins) (ys:=ins.map AV.str) (rd:=[]) eO (by simpa using h0) (by simp;omega) (eD (by simp;omega)) (by simpa using DF ins)
   simp only [List.nil_append,List.length_nil,List.length_map,Nat.zero_add] at this
   exact this
 have k33:∀ (σ : af) (p:VL.Id),(∀ y∈[([11],(⟨[.str ax],1,false⟩:cZ)),([9],⟨ins.map AV.str,1,false⟩)], σ y.1=some y.2)->bO σ p (.append 1 16 (.osl [9] 1 0 ins.length false) (.osl [11] 1 0 1 false))=some { val := .osl p 1 0 (ins++[ax]).length false,rd:=[[9],[11]],up:=[([9],none),(p,some ⟨(ins++[ax]).map AV.str,1,false⟩)] }:=fun σ p hσ => by
   have:=AE (σ := σ) (p:=p) (bytes:=16) (t:=false) (hσ ([11],⟨[.str ax],1,false⟩) (by simp)) (hσ ([9],⟨ins.map AV.str,1,false⟩) (by simp)) (by simp;omega) (by decide) rfl (DF ins)
   have e:(ins++[ax]).map AV.str=ins.map AV.str++[.str ax]:=by simp
   have e':(ins++[ax]).length=(ins.map AV.str).length+1:=by simp
   rw [e,e']
   have e2:ins.length=(ins.map AV.str).length:=by simp
   rw [e2];exact this
 have hv:aG (af.of [([12],⟨(ins++[ax]).map AV.str,1,false⟩)]) [.str nm,dB l, .osl [12] 1 0 (ins++[ax]).length false] [.str nm,dB l,strs (ins++[ax])]:=aG.cons (View.pure PU.pure) (aG.cons (View.pure PU.pure) (aG.cons (vO (by simp [af.of]) (by simp) (by intro e he;obtain ⟨s,_,rfl⟩:=List.mem_map.1 he;rfl) (by intro e he c hc;obtain ⟨s,_,rfl⟩:=List.mem_map.1 he;rcases List.mem_singleton.1 hc with rfl;exact aa.str _)) aG.nil))
 by_cases nk:dG nm l (ins++[ax])=0
 case neg =>
   rw [if_pos nk,if_neg nk]
   exact VP.tr eh [ho 24 hlen,hb 25 e18, .st 30 [] _ _ k30, .st 33 _ _ _ k33,il [([12],⟨(ins++[ax]).map AV.str,1,false⟩)] hI hv,hb 36 (bne_iff_ne.2 nk)] (by kernel_rfl)
 rw [nk] at hI
 rw [if_neg (show ¬ (dG nm l (ins++[ax])≠0) by simp [nk])]
 obtain ⟨sY,_,iL⟩:=pY nk
 obtain ⟨k0,z0,Oc,OA,F9,Bo⟩:=jY (iL ax (by simp))
 have Ur:=List.mem_of_getElem? OA
 have g0:=hz z0 Ur
 have hF:=ND G l hl ax
 rw [Oc] at hF
 have k42:=mP OA
 rw [Bo]
 by_cases ha:z0.c.Aj=true
 . rw [if_pos ha,if_neg (by decide)]
   exact VP.tr eh [ho 24 hlen,hb 25 e18, .st 30 [] _ _ k30, .st 33 _ _ _ k33,il [([12],⟨(ins++[ax]).map AV.str,1,false⟩)] hI hv,hc hF,ho 42 k42,hb 46 ha] (by kernel_rfl)
 rw [if_neg ha]
 have ha':z0.c.Aj=false:=by simpa using ha
 have FV:z0.c.a≠z0.c.b:=by
   have XR:=g0.2.1
   unfold CX.valid at XR
   rw [ha'] at XR
   simpa using XR
 have XS:=T1 z0 Ur F9
 have hT:=Xx G _ _ FV XS.1 XS.2.1
 have Un:=Rv FV
 have R9:=Xn XS.1 XS.2.1
 unfold bC
 rw [Bo]
 generalize EM z0.c.a z0.c.b=ln at *
 have Ln:l≠[]:=by rintro rfl;simp at Ur
 have hA:=Ph uG l (ins.map (yX nm l ln)) (agA G l _ hl (by simp;omega)) Ln (by simpa using h0)
 have lp:=TK (P:=Tryz.prog) (G:=G) (fF:=12) (fM:=30) (f1:=31) nm l ins ax ln 36 (by decide) uS (fun z h=>(hz z h).1) Pz h0 (fun s hs=>iL s (List.mem_append_left _ hs)) (fun s=>ND G l hl s) (adx G 0) (fun z h p hp=>by
   have s1:=(hz z h).2.2
   rcases hp with rfl | rfl | rfl
   . exact Ll G ln _ R9 (s1.1.mono (by omega)) Un
   . exact Ll G ln _ R9 (s1.2.1.mono (by omega)) Un
   . exact Ll G ln _ R9 (s1.2.2.mono (by omega)) Un)
 by_cases hf:iG l (ins.map (yX nm l ln))=0
 . rw [if_pos hf] at hA ⊢
   exact VP.tr eh [ho 24 hlen,hb 25 e18, .st 30 [] _ _ k30, .st 33 _ _ _ k33,il [([12],⟨(ins++[ax]).map AV.str,1,false⟩)] hI hv,hc hF,ho 42 k42,hb 46 ha',hc hT, .lp [] _ _ _ _ _ _ _ _ lp,hc hA] (by kernel_rfl)
 . rw [if_neg hf] at hA ⊢
   exact VP.tr eh [ho 24 hlen,hb 25 e18, .st 30 [] _ _ k30, .st 33 _ _ _ k33,il [([12],⟨(ins++[ax]).map AV.str,1,false⟩)] hI hv,hc hF,ho 42 k42,hb 46 ha',hc hT, .lp [] _ _ _ _ _ _ _ _ lp,hc hA] (by kernel_rfl)
end
end Go.Proofs.YtchdghnpcekegaaGreat
end

section
set_option linter.unusedVariables false
namespace Go.VL
theorem EO {l:List NX} {s:List UInt8}:da l s<0↔∀ z∈l,z.name≠s:=by
 unfold da
 cases hf:l.findIdx? fun x=>x.name==s with
 | none =>
   rw [List.findIdx?_eq_none_iff] at hf
   simp only [yT]
   refine ⟨fun _ z hz e => ?_,fun _=>by decide⟩
   have:=hf z hz
   rw [e] at this;simp at this
 | some k =>
   rw [List.findIdx?_eq_some_iff_getElem] at hf
   obtain ⟨hk,h1,_⟩:=hf
   simp only [yT]
   refine ⟨fun h=>by omega,fun h=>absurd (eq_of_beq h1) (h _ (List.getElem_mem hk))⟩
theorem PG {l:List NX} {s:List UInt8} {c:CX} (h : ¬ da l s<0) (hc:∀ z∈l,z.name=s->z.c=c):a6 l s=c:=by
 obtain ⟨k,z,_,hz,F9,Bo⟩:=jY h
 rw [Bo];exact hc z (List.mem_of_getElem? hz) F9
theorem NW {l m:List NX} {s:List UInt8} (h : ¬ da l s<0):a6 (l++m) s=a6 l s:=by
 unfold da at h
 cases hf:l.findIdx? fun x=>x.name==s with
 | none=>rw [hf] at h;simp [yT] at h
 | some k =>
   have hk:k<l.length:=(List.findIdx?_eq_some_iff_getElem.1 hf).1
   unfold a6 da
   rw [List.findIdx?_append,hf]
   simp only [Option.some_or,yT,Int.toNat_natCast]
   rw [List.getElem?_append_left hk]
theorem Xy {nm:List UInt8} {l:List NX} {ins:List (List UInt8)} {ax s:List UInt8} (hf:iG l (bC nm l ins ax)=0) (hs:s∈ins) :
   ¬ da (l++bC nm l ins ax) (nm++[47]++s)<0/\a6 (l++bC nm l ins ax) (nm++[47]++s)=(a6 l s).pj (EM (a6 l ax).a (a6 l ax).b):=by
 have nk:yX nm l (EM (a6 l ax).a (a6 l ax).b) s∈bC nm l ins ax:=List.mem_map.2 ⟨s,hs,rfl⟩
 have Bm:∀ x∈bC nm l ins ax,da l x.name<0:=by
   unfold iG at hf
   split at hf
   . cases hf
   split at hf
   . cases hf
   split at hf
   . cases hf
   rename_i h
   intro x hx
   by_cases Mw:da l x.name<0
   . exact Mw
   . exact absurd (List.any_eq_true.2 ⟨x,hx,decide_eq_true (by omega)⟩) h
 have h1 : ¬ da (l++bC nm l ins ax) (nm++[47]++s)<0:=fun h=>EO.1 h _ (List.mem_append_right _ nk) rfl
 refine ⟨h1,PG h1 fun z hz F9 => ?_⟩
 rcases List.mem_append.1 hz with hz | hz
 . exact absurd F9 (EO.1 (Bm _ nk) z hz)
 . obtain ⟨t,ht,rfl⟩:=List.mem_map.1 hz
   have:t=s:=by
     have e:nm++[47]++t=nm++[47]++s:=F9
     exact List.append_cancel_left e
   rw [this];rfl
theorem Xz {nm:List UInt8} {l:List NX} {ins:List (List UInt8)} {ax:List UInt8} (uS:nm.length<=40) (Pz:ins.length<=4) (hl:l.length<=6) (h3:∀ z∈l,z.name.length=3) (hE:DB nm l ins ax=0) (hv:(a6 l ax).a≠(a6 l ax).b) :
   DB [97,103,97,105,110] (l++bC nm l ins ax) ((bC nm l ins ax).map NX.name) ax=0 /\
   ((l++bC nm l ins ax)++bC [97,103,97,105,110] (l++bC nm l ins ax) ((bC nm l ins ax).map NX.name) ax).length=(l++bC nm l ins ax).length+ins.length /\
   ∀ i s,ins[i]? = some s->∃ y:NX,((l++bC nm l ins ax)++bC [97,103,97,105,110] (l++bC nm l ins ax) ((bC nm l ins ax).map NX.name) ax)[(l++bC nm l ins ax).length+i]? = some y/\y.c=a6 l s:=by
 obtain ⟨h0,nk,yV,DT⟩:=DC hE
 obtain ⟨sY,_,iL⟩:=pY nk
 have T1:=iL ax (by simp)
 have hs3:∀ s∈ins,s.length=3:=fun s hs=>by
   obtain ⟨k,z,_,hz,F9,_⟩:=jY (iL s (List.mem_append_left _ hs))
   rw [<- F9];exact h3 z (List.mem_of_getElem? hz)
 have anS:ax.length=3:=by
   obtain ⟨k,z,_,hz,F9,_⟩:=jY T1
   rw [<- F9];exact h3 z (List.mem_of_getElem? hz)
 have ady:(bC nm l ins ax).map NX.name=ins.map fun s=>nm++[47]++s:=by unfold bC;rw [List.map_map];rfl
 have adz:a6 (l++bC nm l ins ax) ax=a6 l ax:=NW T1
 have Un:=Rv hv
 have PH:=fun s (hs:s∈ins)=>Xy (nm:=nm) (ax:=ax) DT hs
 have hM2:bC [97,103,97,105,110] (l++bC nm l ins ax) ((bC nm l ins ax).map NX.name) ax=ins.map fun s=>⟨[97,103,97,105,110]++[47]++(nm++[47]++s),a6 l s⟩:=by
   rw [ady]
   unfold bC yX at PH adz ⊢
   rw [List.map_map]
   refine List.map_congr_left fun s hs => ?_
   simp only [Function.comp]
   rw [adz,(PH s hs).2,TJ Un]
 have agV:(bC nm l ins ax).length=ins.length:=by unfold bC;simp
 have hMn:∀ z∈bC nm l ins ax,z.name.length=nm.length+4:=by
   intro z hz
   obtain ⟨s,hs,rfl⟩:=List.mem_map.1 hz
   show (nm++[47]++s).length=_
   simp [hs3 s hs]
 rw [hM2]
 refine ⟨?_,by simp only [List.length_append,List.length_map],fun i s hs=>⟨⟨[97,103,97,105,110]++[47]++(nm++[47]++s),a6 l s⟩,by rw [List.getElem?_append_right (by omega),Nat.add_sub_cancel_left,List.getElem?_map,hs];rfl,rfl⟩⟩
 have hI2:dG [97,103,97,105,110] (l++bC nm l ins ax) ((ins.map fun s=>nm++[47]++s)++[ax])=0:=by
   unfold dG
   rw [if_neg (by rw [not_or];exact ⟨by decide,by simp⟩),if_neg,if_neg]
   . rw [List.any_eq_true]
     rintro ⟨t,ht,Mw⟩
     have Mw:=of_decide_eq_true Mw
     rcases List.mem_append.1 ht with ht | ht
     . obtain ⟨s,hs,rfl⟩:=List.mem_map.1 ht
       exact (PH s hs).1 Mw
     . rw [List.mem_singleton] at ht
       subst ht
       obtain ⟨k,z,_,hz,F9,_⟩:=jY T1
       exact EO.1 Mw z (List.mem_append_left _ (List.mem_of_getElem? hz)) F9
   . rintro ⟨j,k,x,MU,hk,hj,Ul⟩
     have hd : ¬ HT (ins++[ax]) (ins++[ax]).length:=by
       unfold dG at nk
       split at nk
       . cases nk
       split at nk
       . cases nk
       . assumption
     have hlen:((ins.map fun s=>nm++[47]++s)++[ax]).length=ins.length+1:=by simp
     rw [hlen] at hk
     have wI:j<ins.length:=by omega
     rw [List.getElem?_append_left (by simpa using wI),List.getElem?_map] at hj
     obtain ⟨s,hs,rfl⟩:=Option.map_eq_some_iff.1 hj
     by_cases QH:k<ins.length
     . rw [List.getElem?_append_left (by simpa using QH),List.getElem?_map] at Ul
       obtain ⟨t,ht,e⟩:=Option.map_eq_some_iff.1 Ul
       have:t=s:=List.append_cancel_left e
       subst this
       exact hd ⟨j,k,t,MU,by simp;omega,by rw [List.getElem?_append_left wI];exact hs,by rw [List.getElem?_append_left QH];exact ht⟩
     . have TU:k=ins.length:=by omega
       subst TU
       rw [List.getElem?_append_right (by simp)] at Ul
       simp at Ul
       have:=hs3 s (List.mem_of_getElem? hs)
       have e:=congrArg List.length Ul
       simp at e
       omega
 unfold DB
 rw [ady,if_neg (by simpa using h0),hI2,if_neg (by simp),adz,if_neg (by simp [yV]), <- ady,hM2]
 unfold iG
 rw [if_neg (by simp [agV];omega),if_neg,if_neg]
 . rw [List.any_eq_true]
   rintro ⟨x,hx,Fv⟩
   have Fv:=of_decide_eq_true Fv
   obtain ⟨s,hs,rfl⟩:=List.mem_map.1 hx
   obtain ⟨k,z,_,hz,F9,_⟩:=jY (l:=l++bC nm l ins ax) (s:=[97,103,97,105,110]++[47]++(nm++[47]++s)) (by simp only [] at Fv;omega)
   have hzl:=congrArg List.length F9
   have:=hs3 s hs
   simp at hzl
   rcases List.mem_append.1 (List.mem_of_getElem? hz) with h | h
   . have:=h3 z h;omega
   . have:=hMn z h;omega
 . rw [List.any_eq_true]
   rintro ⟨x,hx,Fv⟩
   have Fv:=of_decide_eq_true Fv
   obtain ⟨s,hs,rfl⟩:=List.mem_map.1 hx
   have:=hs3 s hs
   simp at Fv
   omega
end Go.VL
end

section
set_option maxRecDepth 100000
namespace Go.Proofs.YtchdghnpcekegaaGreat
open Go.VL Go.Proofs Go.Lib
section
variable (G:Nat->Option (List AV))
theorem akw (wb:VP Tryz.prog G 4 [] (.bool true)) (ds:List DX) (hd:∀ d∈ds,d.Ok) (names:List (List UInt8)):VP Tryz.prog G 3 [Lq ds,strs names] (.bool true):=by
 have hll:(named (made ds)).length<=6:=by
   by_cases hf:yW ds=true
   . exact (J5 hd hf).1
   . have:made ds=[]:=by unfold made;rw [if_neg hf]
     rw [this];simp [named]
 have hL:yW ds=true->∀ z∈named (made ds),z.c.valid=true/\z.c.Sm 20/\z.name.length=3:=fun h z hz=>by
   obtain ⟨h1,h2⟩:=J5 hd h
   obtain ⟨i,hi,hn,_⟩:=J4 hz
   have hi6:i<6:=by unfold named at h1;rw [List.length_mapIdx] at h1;omega
   exact ⟨(h2 z hz).1,(h2 z hz).2.1,by rw [hn,qi (by omega)];simp⟩
 have hl:=agz G ds hd
 generalize named (made ds)=l at *
 have hz:yW ds=true->∀ z∈l,z.name.length<=1000/\z.c.valid=true/\z.c.Sm 1000:=fun h z hz=>⟨by have:=(hL h z hz).2.2;omega,(hL h z hz).1,(hL h z hz).2.1.mono (by omega)⟩
 have hcv:yW ds=true->∀ s, ¬ da l s<0->∃ z∈l,z.name=s/\a6 l s=z.c:=fun h s hs=>by
   obtain ⟨k,z,_,hz,F9,Bo⟩:=jY hs
   exact ⟨z,List.mem_of_getElem? hz,F9,Bo⟩
 have FV:yW ds=true->∀ ax, ¬ da l ax<0->(a6 l ax).Aj=false->(a6 l ax).a≠(a6 l ax).b/\(a6 l ax).Sm 20:=fun h ax T1 yV=>by
   obtain ⟨z,Ie,_,Bo⟩:=hcv h ax T1
   rw [Bo] at yV ⊢
   have hv:=(hL h z Ie).1
   unfold CX.valid at hv
   rw [yV] at hv
   exact ⟨by simpa using hv,(hL h z Ie).2.1⟩
 have XA:yW ds=true->∀ nm ins ax,nm.length<=40->DB nm l ins ax=0->∀ z∈l++bC nm l ins ax,z.name.length<=1000/\z.c.valid=true/\z.c.Sm 1000:=fun h nm ins ax uS hE z Ie=>by
   obtain ⟨_,nk,yV,_⟩:=DC hE
   obtain ⟨_,_,iL⟩:=pY nk
   obtain ⟨hne,hsm⟩:=FV h ax (iL ax (by simp)) yV
   rcases List.mem_append.1 Ie with h' | h'
   . exact hz h z h'
   . obtain ⟨s,hs,rfl⟩:=List.mem_map.1 h'
     obtain ⟨y,hy,hyn,hyc⟩:=hcv h s (iL s (List.mem_append_left _ hs))
     have hy3:=hL h y hy
     have R9:=Xn hsm.1 hsm.2.1
     refine ⟨?_, ?_, ?_⟩
     . show (nm++[47]++s).length<=1000
       have:s.length=3:=by rw [<- hyn];exact hy3.2.2
       simp;omega
     . show ((a6 l s).pj _).valid=true
       rw [TI (Rv hne),hyc];exact hy3.1
     . show ((a6 l s).pj _).Sm 1000
       rw [hyc]
       unfold CX.pj CX.img
       refine ⟨(PB R9 hy3.2.1.1).mono (by omega),(PB R9 hy3.2.1.2.1).mono (by omega), ?_⟩
       simp only []
       split
       . exact (PB R9 hy3.2.1.2.2).mono (by omega)
       . exact hy3.2.1.2.2.mono (by omega)
 refine Xu o7 ds names wb (yW ds) l hl (fun h=>IU gA _ (by omega)) (agF G)
   (fun h nm ins ax uS hi=>Rz G nm l ins ax (by omega) (by omega) (by omega) (hz h) (fun z Ie _=>(hL h z Ie).2.1))
   (fun h nm ins ax uS hi=>aad G nm l ins ax (by omega) (by omega) (by omega) (hz h) (fun z Ie _=>(hL h z Ie).2.1))
   (fun h nm ins ax uS hi hE=>ac7 G _ 0 (by have:=wB (DC hE).2.2.2;simp;omega) (fun z Ie=>⟨(XA h nm ins ax uS hE z Ie).2.1,(XA h nm ins ax uS hE z Ie).2.2.mono (by omega)⟩)) (ZK G)
   (fun h nm ins ax uS hi hE => ?_) (by omega) (fun s=>ND G l (by omega) s) (fun h s hs => ?_)
 . obtain ⟨_,nk,yV,DT⟩:=DC hE
   obtain ⟨_,_,iL⟩:=pY nk
   have T1:=iL ax (by simp)
   obtain ⟨hne,_⟩:=FV h ax T1 yV
   obtain ⟨a1,a2,a3⟩:=Xz uS hi hll (fun z Ie=>(hL h z Ie).2.2) hE hne
   have hlen:=wB DT
   have hp:=Rz G [97,103,97,105,110] (l++bC nm l ins ax) ((bC nm l ins ax).map NX.name) ax (by decide) (by unfold bC;simp;omega) (by simp;omega) (XA h nm ins ax uS hE) (fun z Ie F9=>by
     rcases List.mem_append.1 Ie with h' | h'
     . exact (hL h z h').2.1
     . exfalso
       obtain ⟨s,hs,rfl⟩:=List.mem_map.1 h'
       obtain ⟨y,hy,hyn,_⟩:=hcv h ax T1
       have e:(nm++[47]++s).length=ax.length:=congrArg List.length F9
       have e3:ax.length=3:=by rw [<- hyn];exact (hL h y hy).2.2
       obtain ⟨w,hw,hwn,_⟩:=hcv h s (iL s (List.mem_append_left _ hs))
       have e4:s.length=3:=by rw [<- hwn];exact (hL h w hw).2.2
       simp at e;omega)
   unfold NS at hp
   rw [if_pos a1] at hp
   exact ⟨_,hp,a2,a3⟩
 . obtain ⟨z,Ie,_,Bo⟩:=hcv h s hs
   have hsm:=(hL h z Ie).2.1
   rw [Bo]
   have he:=HS (P:=Tryz.prog) (G:=G) gi z.c z.c fun u v huv=>by
     simp only [List.mem_cons,Prod.mk.injEq,List.not_mem_nil,or_false] at huv
     rcases huv with ⟨rfl,rfl⟩ | ⟨rfl,rfl⟩ | ⟨rfl,rfl⟩
     . exact DA G _ _ (hsm.1.mono (by omega)) (hsm.1.mono (by omega))
     . exact DA G _ _ (hsm.2.1.mono (by omega)) (hsm.2.1.mono (by omega))
     . exact DA G _ _ (hsm.2.2.mono (by omega)) (hsm.2.2.mono (by omega))
   rw [J3] at he
   exact he
end
end Go.Proofs.YtchdghnpcekegaaGreat
end

section
namespace Go.VL
section
variable {H:Type} {enc:TypeId × Value->H} {P:Program} {w:World} {spare:Nat->Bool} {held:Bool}
def qR (w:World):Env:=⟨fun _=>none,fun b=>b<w.heap.size⟩
theorem uR {α β : Type} {f : α -> β} {Q : α -> Prop}:∀ {es:List β},(∀ c∈es,∃ x,c=f x/\Q x)->∃ l:List α,es=l.map f/\∀ x∈l,Q x
 | [],_=>⟨[],rfl,by simp⟩
 | c::es,h=>by
   obtain ⟨x,hx,hq⟩:=h c (by simp)
   obtain ⟨l,hl,hql⟩:=uR (es:=es) fun y hy=>h y (by simp [hy])
   exact ⟨x::l,by rw [hx,hl];rfl,by intro y hy;rcases List.mem_cons.1 hy with rfl | hy;exact hq;exact hql y hy⟩
theorem RB {t e:TypeId} {fuel k:Nat} {cs:List Value} {x:DataW H × List MemPlace} (ht:P.underlying t=some (.slice e)) (hk:P.cellsOf e=k) (Oc:0<k) (h:DataW.trod enc P w 0 spare held fuel t cs=some x) (Good:AV->Prop)
   (F:∀ n Ck y,fuel=n+1->DataW.trod enc P w 0 spare held n e Ck=some y->∃ c:AV,Good c/\c.size=k/\bc (qR w) w c.cells Ck) :
   ∃ (es:List AV) (v:Value),cs=[v]/\aT (qR w) w (.sl k es) v/\(∀ c∈es,Good c)/\es.length<=maxLen:=by
 rcases DataW.trod_slice ht h with ⟨rfl,rfl⟩ | ⟨a,len,cap,elems,rest,n,hfu,rfl,rfl,_,hl,hm,hlen,Cb,_,_⟩
 . exact ⟨[],_,rfl,by simp only [aT];exact ⟨none,0,rfl,Nat.le_refl _,Nat.zero_le _,by simp, .inl trivial⟩,by simp,Nat.zero_le _⟩
 have hC:∀ i,i<len->∃ c:AV,Good c/\c.size=k/\∃ Ck,w.cells? 0 (a.add (i*k)) k=some Ck/\bc (qR w) w c.cells Ck:=by
   intro i hi
   have h1:=Cb i hi
   rw [List.getElem?_eq_getElem (by omega),hk] at h1
   obtain ⟨Ck,h2,h3⟩:=Option.bind_eq_some_iff.1 h1
   obtain ⟨c,hg,hs,hr⟩:=F n Ck _ hfu h3
   exact ⟨c,hg,hs,Ck,h2,hr⟩
 have hC':∀ i:_root_.Fin len,∃ c:AV,Good c/\c.size=k/\∃ Ck,w.cells? 0 (a.add (i.1*k)) k=some Ck/\bc (qR w) w c.cells Ck:=fun i=>hC i.1 i.2
 let C:_root_.Fin len->AV:=fun i=>(hC' i).choose
 have hCs:∀ i,Good (C i)/\(C i).size=k/\∃ Ck,w.cells? 0 (a.add (i.1*k)) k=some Ck/\bc (qR w) w (C i).cells Ck:=fun i=>(hC' i).choose_spec
 have hsz:∀ c∈List.ofFn C,c.size=k:=by intro c hc;obtain ⟨i,rfl⟩:=List.mem_ofFn.1 hc;exact (hCs i).2.1
 refine ⟨List.ofFn C,_,rfl, ?_,by intro c hc;obtain ⟨i,rfl⟩:=List.mem_ofFn.1 hc;exact (hCs i).1,by rw [List.length_ofFn];omega⟩
 simp only [aT]
 refine ⟨some a,cap,by rw [List.length_ofFn],by rw [List.length_ofFn];exact hl,hm,hsz, ?_⟩
 by_cases h0:len=0
 . left;exact List.length_eq_zero_iff.1 (by rw [List.length_ofFn];exact h0)
 right
 have hcell:∀ (i:_root_.Fin len) (r:Nat) (c:AV),(C i).cells[r]? = some c->∃ v,w.cell? ((a.add (i.1*k)).add r)=some v/\aT (qR w) w c v:=by
   intro i r c hc
   obtain ⟨_,hs,Ck,h1,h2⟩:=hCs i
   obtain ⟨RN,hp⟩:=bI.1 h2
   obtain ⟨v,hv,Gn⟩:=hp r c hc
   refine ⟨v, ?_,Gn⟩
   have hrk:r<k:=by have:=(List.getElem?_eq_some_iff.1 hc).1;rw [<- hs];exact this
   rw [(World.cells?_some h1).2.2 r hrk,hv]
 obtain ⟨b,o,spot⟩:=a
 have hz:0<len:=Nat.pos_of_ne_zero h0
 obtain ⟨c0,X0⟩:∃ c,(C ⟨0,hz⟩).cells[0]? = some c:=⟨_,List.getElem?_eq_getElem (by have:=(hCs ⟨0,hz⟩).2.1;unfold AV.size at this;omega)⟩
 obtain ⟨v0,XR,_⟩:=hcell ⟨0,hz⟩ 0 c0 X0
 have agW:((⟨b,o,spot⟩:Addr).add (0*k)).add 0=⟨b,o,spot⟩:=by simp [Addr.add]
 have agX:w.cell? ⟨b,o,spot⟩=some v0:=by rw [<- agW];exact XR
 have hsp:spot=none:=World.cell?_spot agX
 subst hsp
 refine ⟨b,o,rfl,World.block_lt_of_cell? _ _ agX,dN.2 ?_⟩
 intro j c hj
 have wI:j<(flat (List.ofFn C)).length:=(List.getElem?_eq_some_iff.1 hj).1
 rw [cD hsz,List.length_ofFn] at wI
 have MU:j/k<len:=(Nat.div_lt_iff_lt_mul Oc).2 wI
 have hjr:j%k<k:=Nat.mod_lt _ Oc
 have aky:(List.ofFn C)[j/k]? = some (C ⟨j/k,MU⟩):=by rw [List.getElem?_ofFn,dif_pos MU]
 have Gi:=flat_get hsz aky hjr
 have hjj:j/k*k+j%k=j:=by rw [Nat.mul_comm];exact Nat.div_add_mod j k
 rw [hjj,hj] at Gi
 obtain ⟨v,hv,hr⟩:=hcell ⟨j/k,MU⟩ (j%k) c Gi.symm
 refine ⟨v, ?_,hr⟩
 have akz:((⟨b,o,none⟩:Addr).add (j/k*k)).add (j%k)=⟨b,o+j,none⟩:=by
   have h1:∀ (o n:Nat),(⟨b,o,none⟩:Addr).add n=⟨b,o+n,none⟩:=fun o n=>by unfold Addr.add;split<;>simp_all
   rw [h1,h1,Nat.add_assoc,hjj]
 rw [<- akz];exact hv
end
end Go.VL
end

section
set_option maxRecDepth 100000
namespace Go.Proofs.YtchdghnpcekegaaGreat
open Go.VL
theorem TP:maxLen<=9223372036854775807:=Nat.le_refl _
section
variable {H:Type} {enc:TypeId × Value->H} {w:World} {spare:Nat->Bool} {held:Bool} {fuel:Nat} {cs:List Value} {x:DataW H × List MemPlace}
theorem adA (h:DataW.trod enc Tryz.prog w 0 spare held fuel 9 cs=some x):∃ s:List UInt8,bc (qR w) w [.str s] cs/\s.length<=9223372036854775807:=by
 obtain ⟨s,rfl,_,hs⟩:=DataW.trod_string Tryz.underlying9 h
 refine ⟨s.data.toList, ?_, ?_⟩
 . simp only [bc,aT]
   exact ⟨_,[],rfl,rfl,rfl⟩
 . have e:s.data.toList.length=s.size:=Array.length_toList
   rw [e];exact Nat.le_trans hs TP
theorem RD (h:DataW.trod enc Tryz.prog w 0 spare held fuel 4 cs=some x):∃ b:Bool,bc (qR w) w [.bool b] cs:=by
 obtain ⟨b,rfl,_⟩:=DataW.trod_bool Tryz.underlying4 h
 exact ⟨b,by simp [bc,aT]⟩
theorem abp (h:DataW.trod enc Tryz.prog w 0 spare held fuel 5 cs=some x):∃ n:Nat,n<256/\bc (qR w) w [.int .u8 (n:Int)] cs:=by
 obtain ⟨n,rfl,_,hw⟩:=DataW.trod_int Tryz.underlying5 h
 have hb:=bounds_u8 hw
 obtain ⟨m,rfl⟩:=Int.eq_ofNat_of_zero_le hb.1
 exact ⟨m,by omega,by simp [bc,aT]⟩
theorem abq (h:DataW.trod enc Tryz.prog w 0 spare held fuel 95 cs=some x):∃ n:Int,(-128<=n/\n<128)/\bc (qR w) w [.int .i8 n] cs:=by
 obtain ⟨n,rfl,_,hw⟩:=DataW.trod_int Tryz.underlying95 h
 exact ⟨n,by have:=bounds_i8 hw;omega,by simp [bc,aT]⟩
theorem aae (h:DataW.trod enc Tryz.prog w 0 spare held fuel 23 cs=some x):∃ l:List (List UInt8),bc (qR w) w [strs l] cs:=by
 obtain ⟨es,v,rfl,hr,hg,hl⟩:=RB (k:=1) Tryz.underlying23 (by kernel_rfl) (by decide) h (fun c=>∃ s:List UInt8,c = .str s/\s.length<=9223372036854775807) (fun n Ck y _ hy=>by
   obtain ⟨s,hs,hl⟩:=adA hy
   exact ⟨.str s,⟨s,rfl,hl⟩,rfl,hs⟩)
 obtain ⟨l,rfl,hw⟩:=uR hg
 exact ⟨l,by simp only [bc];exact ⟨v,[],rfl,hr,rfl⟩⟩
theorem c8:Tryz.prog.cellsOf 95=1:=by kernel_rfl
theorem c4:Tryz.prog.cellsOf 4=1:=by kernel_rfl
theorem c5:Tryz.prog.cellsOf 5=1:=by kernel_rfl
theorem c98:Tryz.prog.cellsOf 96=2:=by kernel_rfl
theorem agY:Tryz.prog.cellsOf 98=8:=by kernel_rfl
theorem abr (h:DataW.trod enc Tryz.prog w 0 spare held fuel 96 cs=some x):∃ a:Int × Int,ok8 a/\bc (qR w) w [.int .i8 a.1, .int .i8 a.2] cs:=by
 obtain ⟨xs,n,_,_,hl,hxl,hf⟩:=DataW.trod_array Tryz.underlying96 h
 rw [c98] at hl
 match cs,hl with
 | [a,b],_ =>
   have f0:=hf 0 (by decide)
   have f1:=hf 1 (by decide)
   rw [List.getElem?_eq_getElem (by omega)] at f0 f1
   simp only [c8,Nat.zero_mul,Nat.one_mul,List.drop_zero,List.drop_succ_cons,List.take_succ_cons,List.take_zero] at f0 f1
   obtain ⟨i,hi,Yg⟩:=abq f0
   obtain ⟨j,hj,hrj⟩:=abq f1
   exact ⟨(i,j),⟨hi.1,hi.2,hj.1,hj.2⟩,bc.append (xs:=[.int .i8 i]) (us:=[a]) Yg hrj⟩
theorem XB (h:DataW.trod enc Tryz.prog w 0 spare held fuel 98 cs=some x):∃ d:DX,d.Ok/\bc (qR w) w d.av.cells cs:=by
 obtain ⟨xs,n,_,_,hl,hxl,hf⟩:=DataW.trod_struct Tryz.underlying98 h
 rw [agY] at hl
 have hxs:xs.length=6:=hxl
 match cs,hl with
 | [c0,c1,c2,c3,c4',c5',c6,c7],_ =>
   have f0:DataW.trod enc Tryz.prog w 0 spare held n 4 (List.take (Tryz.prog.cellsOf 4) (List.drop 0 [c0,c1,c2,c3,c4',c5',c6,c7]))=xs[0]? := hf 0 _ rfl
   have f1:DataW.trod enc Tryz.prog w 0 spare held n 4 (List.take (Tryz.prog.cellsOf 4) (List.drop 1 [c0,c1,c2,c3,c4',c5',c6,c7]))=xs[1]? := hf 1 _ rfl
   have f2:DataW.trod enc Tryz.prog w 0 spare held n 96 (List.take (Tryz.prog.cellsOf 96) (List.drop 2 [c0,c1,c2,c3,c4',c5',c6,c7]))=xs[2]? := hf 2 _ rfl
   have f3:DataW.trod enc Tryz.prog w 0 spare held n 96 (List.take (Tryz.prog.cellsOf 96) (List.drop 4 [c0,c1,c2,c3,c4',c5',c6,c7]))=xs[3]? := hf 3 _ rfl
   have f4:DataW.trod enc Tryz.prog w 0 spare held n 5 (List.take (Tryz.prog.cellsOf 5) (List.drop 6 [c0,c1,c2,c3,c4',c5',c6,c7]))=xs[4]? := hf 4 _ rfl
   have f5:DataW.trod enc Tryz.prog w 0 spare held n 5 (List.take (Tryz.prog.cellsOf 5) (List.drop 7 [c0,c1,c2,c3,c4',c5',c6,c7]))=xs[5]? := hf 5 _ rfl
   rw [List.getElem?_eq_getElem (by omega)] at f0 f1 f2 f3 f4 f5
   simp only [c4,c5,c98,List.drop_zero,List.drop_succ_cons,List.take_succ_cons,List.take_zero] at f0 f1 f2 f3 f4 f5
   obtain ⟨a,ha⟩:=RD f0
   obtain ⟨b,hb⟩:=RD f1
   obtain ⟨p,hp,hpr⟩:=abr f2
   obtain ⟨q,hq,PM⟩:=abr f3
   obtain ⟨s,hs,hsr⟩:=abp f4
   obtain ⟨u,hu,hur⟩:=abp f5
   refine ⟨⟨a,b,p,q,s,u⟩,⟨hp,hq,hs,hu⟩, ?_⟩
   show bc (qR w) w [.bool a, .bool b, .int .i8 p.1, .int .i8 p.2, .int .i8 q.1, .int .i8 q.2, .int .u8 (s:Int), .int .u8 (u:Int)] _
   exact bc.append (xs:=[.bool a]) (us:=[c0]) ha (bc.append (xs:=[.bool b]) (us:=[c1]) hb (bc.append (xs:=[.int .i8 p.1, .int .i8 p.2]) (us:=[c2,c3]) hpr (bc.append (xs:=[.int .i8 q.1, .int .i8 q.2]) (us:=[c4',c5']) PM (bc.append (xs:=[.int .u8 (s:Int)]) (us:=[c6]) hsr hur))))
theorem TQ (h:DataW.trod enc Tryz.prog w 0 spare held fuel 22 cs=some x):∃ l:List DX,(∀ d∈l,d.Ok)/\bc (qR w) w [Lq l] cs:=by
 obtain ⟨es,v,rfl,hr,hg,hl⟩:=RB (k:=8) Tryz.underlying22 agY (by decide) h (fun c=>∃ d:DX,c=d.av/\d.Ok) (fun n Ck y _ hy=>by
   obtain ⟨d,h1,h2⟩:=XB hy
   exact ⟨d.av,⟨d,rfl,h1⟩,rfl,h2⟩)
 obtain ⟨l,rfl,hw⟩:=uR hg
 exact ⟨l,hw,by simp only [bc];exact ⟨v,[],rfl,hr,rfl⟩⟩
end
end Go.Proofs.YtchdghnpcekegaaGreat
end

section
namespace Go.VL
open Go.ChangeShapes Go.WideShapes Go.ChangeAt Go.RowKit
section
variable {H:Type} {enc:TypeId × Value->H} {P:Program}
theorem Bl (hl:laidOutB P=true) {W W':World} {sp:Nat->Bool} (hB:Below W.heap.size W W'):∀ {ts:List TypeId} {vs:List Value} {ds:List (DataW H)} {ps:List MemPlace},
   (∀ t∈ts,P.readableRec t=true/\t<P.types.size)->DataW.TrodAll enc P W 0 (fun _=>true) true ts vs ds ps->(∀ p∈ps,p.block<W.heap.size)->(∀ p∈ps,sp p.block=true) ->
   DataW.TrodAll enc P W' 0 sp true ts vs ds ps
 | [],[],[],ps,_,h,_,_=>by simpa [DataW.TrodAll] using h
 | t::ts,v::vs,d::ds,ps,hr,h,hlt,hsp=>by
   simp only [DataW.TrodAll] at h ⊢
   obtain ⟨p,q,h1,h2,rfl⟩:=h
   refine ⟨p,q, ?_,Bl hl hB (fun x hx=>hr x (by simp [hx])) h2 (fun x hx=>hlt x (by simp [hx])) (fun x hx=>hsp x (by simp [hx])),rfl⟩
   exact WideElems.Trod_stays hl (hr t (by simp)).1 (hr t (by simp)).2 h1 (fun x hx=>hB.same (hlt x (by simp [hx]))) (fun x hx=>hsp x (by simp [hx]))
 | [],[],_::_,_,_,h,_,_=>by simp [DataW.TrodAll] at h
 | [],_::_,_,_,_,h,_,_=>by simp [DataW.TrodAll] at h
 | _::_,[],_,_,_,h,_,_=>by simp [DataW.TrodAll] at h
 | _::_,_::_,[],_,_,h,_,_=>by simp [DataW.TrodAll] at h
theorem XC {f:Func} {s:ChangeSpec} {apart fresh handsOn:Bool} {W W':World} {args:Array Value} {ds gs:List (DataW H)} {before:List MemPlace}
   (hl:laidOutB P=true) (hr:∀ t∈f.params.toList,P.readableRec t=true/\t<P.types.size) (hv:s.vars=[])
   (hs:(s.fn H (ds++gs))={ results:=[.lit (.bool true)],args:=ds }) {tb:TypeId} (LC:f.resultTypes = #[tb]) (htb:P.underlying tb=some .bool)
   (hW:DataW.Whole enc P f.params.toList s.vars apart W args.toList ds gs before) (hB:Below W.heap.size W W') :
   s.post enc P f apart fresh handsOn false W args (.bool true) W':=by
 have hlt:=hW.lt
 have hW':=hW
 obtain ⟨p,q,h1,h2,rfl,h3,h4⟩:=hW
 rw [hv] at h2
 have hq:q=[]/\gs=[]:=by
   cases gs with
   | nil=>simp only [DataW.TrodVars] at h2;exact ⟨h2,rfl⟩
   | cons _ _=>simp [DataW.TrodVars] at h2
 obtain ⟨rfl,rfl⟩:=hq
 refine ⟨ds,[],p++[],[],p,[],hW', ?_, ?_, ?_,hB.frame _,fun h=>by simp at h⟩
 . rw [hs,LC]
   exact trodAll_mk1 ⟨1,by simp [DataW.trod,htb,Value.cells]⟩
 . rw [hs]
   exact Bl hl hB hr h1 (fun x hx=>hlt x (by simp [hx])) (fun x hx=>by simpa using hlt x (by simp [hx]))
 . rw [hs,hv];simp [DataW.TrodVars]
end
theorem NY {P:Program} {G:Nat->Option (List AV)} {f:FuncId} {args:List AV} {r:eS} (h:aZ P G f args [] [] r) (hr:r.val = .bool true) {w:World} {ok:Nat->Prop}
   (ic:∀ b,ok b->b<w.heap.size) (hg:∀ g cs,G g=some cs->ok g/\bp ⟨fun _=>none,ok⟩ w g 0 cs) {vs:List Value} (ha:bc ⟨fun _=>none,ok⟩ w args vs) :
   Calls P f vs.toArray w fun e w'=>e = .returned (.bool true)/\Below w.heap.size w w':=by
 have hi:Inv G (fun k=>w.heap.size<=k) ⟨fun _=>none,ok⟩ w (fun _=>none):=⟨ic,fun id bk h=>by simp at h,fun i j x y h=>absurd rfl h,hg,fun k hk=>hk⟩
 refine (h.2 _ _ w _ vs (by simp) hi ha (fun _ _=>rfl)).mono fun e w' he => ?_
 obtain ⟨v,E',rfl,hp⟩:=he
 have hv:=hp.rep
 rw [hr] at hv
 simp only [aT] at hv
 subst hv
 exact ⟨rfl,hp.Ia.os,hp.Ia.tape,hp.Ia.output,hp.Ia.size,fun k hk=>hp.Ia.block k hk (by omega)⟩
end Go.VL
end

section
namespace Go.Proofs.YtchdghnpcekegaaGreat
open Go.ChangeShapes Go.WideShapes Go.ChangeAt Go.RowKit Go.Joins Go.Deep
theorem Tryz.own:ownKnob Tryz.prog.godebug=none:=by kernel_rfl
theorem Tryz.laidOut:laidOutB Tryz.prog=true:=by kernel_rfl
set_option maxRecDepth 100000 in
theorem lifted (os:Os) (started:os.Started) (H:Type) (enc:TypeId × Value->H) :
   ReturnsInHanded {} Tryz.checked os 3 .any (Rows.featureMirrorSpec.pre6 enc Tryz.prog Tryz.f3 Rows.featureMirrorRow.domain false) (Rows.featureMirrorSpec.post enc Tryz.prog Tryz.f3 false true false false):=by
 refine returnsInHanded_of_change (C:=Tryz.checked) Tryz.own started (by kernel_rfl) Tryz.func3
   (ChangeSpec.witness6 (enc:=enc) (C:=Tryz.checked) false ⟨#[], #[.slice none 0 0, .slice none 0 0],[]⟩ 8 (by kernel_rfl) (by kernel_rfl) (by kernel_rfl) (by kernel_rfl)) ?_
 intro W base args ds gs before abt hW hcnd _
 have hval:∀ (j:Nat) t v,Tryz.f3.params[j]? = some t->args[j]? = some v->Value.okWide Tryz.prog W .any base t v:=abt
 have hW':=hW
 obtain ⟨p,q,hA0,hV,rfl,hfz,hnd⟩:=hW
 have hA:DataW.TrodAll enc Tryz.prog W 0 (fun _=>true) true Tryz.f3.params.toList args.toList ds p:=hA0
 rw [Tryz.params3] at hA hval
 obtain ⟨v0,v1,d0,d1,q0,q1,rfl,rfl,rfl,h0,h1⟩:=trodAll_two hA
 obtain ⟨rfl,rfl⟩:=trodVars_none hV
 clear hA0 abt
 obtain ⟨a0,l0,k0,rfl⟩:=okWide_slice Tryz.underlying22 (hval 0 22 v0 rfl rfl)
 obtain ⟨a1,l1,k1,rfl⟩:=okWide_slice Tryz.underlying23 (hval 1 23 v1 rfl rfl)
 obtain ⟨m0,e0⟩:=h0
 obtain ⟨m1,e1⟩:=h1
 obtain ⟨ds,hds,r0⟩:=TQ e0
 obtain ⟨ns,r1⟩:=aae e1
 have Se:VL.bc (VL.qR W) W [VL.Lq ds,VL.strs ns] [.slice a0 l0 k0, .slice a1 l1 k1]:=VL.bc.append (xs:=[VL.Lq ds]) (us:=[.slice a0 l0 k0]) r0 r1
 refine (VL.NY (G:=fun _=>none) (ok:=fun b=>b<W.heap.size) (VL.aZ.PX (akw _ (Xl _) ds hds ns) (VL.H3.pure) []) rfl (fun _ h=>h) (fun _ _ h=>by cases h) (vs:=[.slice a0 l0 k0, .slice a1 l1 k1]) Se).mono fun e W' he => ?_
 obtain ⟨rfl,hB⟩:=he
 exact ⟨_,rfl,VL.XC Tryz.laidOut (by rw [Tryz.params3];intro t ht;simp at ht;rcases ht with rfl | rfl<;>exact ⟨by kernel_rfl,by decide +kernel⟩) rfl rfl rfl (tb:=4) Tryz.underlying4 hW' hB⟩
theorem featureMirror_holds:Rows.FeatureMirrorSaid :=
 OpenClaim.holds_of_wide 3 Tryz.f3 rfl rfl rfl rfl rfl rfl rfl ⟨rfl,rfl,rfl,rfl,rfl⟩ rfl rfl rfl rfl rfl (by kernel_rfl) Tryz.func3 (by kernel_rfl)
   (of_decide_eq_true (by kernel_rfl)) (by unfold Func.isWrapper;first | (rw [if_pos (by decide +kernel)];kernel_rfl) | (rw [if_neg (by decide +kernel)];exact ⟨rfl,rfl⟩))
   (fun os started H enc _=>lifted os started H enc)
end Go.Proofs.YtchdghnpcekegaaGreat
end
