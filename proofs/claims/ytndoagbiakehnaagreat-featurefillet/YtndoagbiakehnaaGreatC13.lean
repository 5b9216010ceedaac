/- For every input, FeatureFillet returns true, and its argument reads afterwards as it read before. Conditions: none. -/
import Derived.Test.YtndoagbiakehnaaGreatRows
import Derived.Test.YtndoagbiakehnaaGreatC12
import Derived.Test.YtndoagbiakehnaaGreatC10
import Derived.Test.YtndoagbiakehnaaGreatC03
import Derived.ProofKit
import Derived.Lib.SmallJoins
set_option linter.unusedSimpArgs false
set_option linter.unusedVariables false
section
namespace Go.Proofs.YtndoagbiakehnaaGreat
open Go.ChangeShapes Go.WideShapes Go.ChangeAt Go.RowKit Go.Joins Go.Deep
theorem I3 {P:Program} {w:World} {r:Reach} {base:Nat} {t:TypeId} {v:Value} {n:Nat} {e:TypeId} (ht:P.underlying t=some (.array n e)) (h:Value.okWide P w r base t v):∃ cs,v = .agg cs/\cs.size=P.cellsOf t:=by
 simp only [Value.okWide,ht] at h
 obtain ⟨cs,h1,h2,_⟩:=h
 exact ⟨cs,h1,h2⟩
theorem Tryz.own:ownKnob Tryz.prog.godebug=none:=by kernel_rfl
theorem Tryz.laidOut:laidOutB Tryz.prog=true:=by kernel_rfl
set_option maxRecDepth 100000 in
theorem lifted (os:Os) (started:os.Started) (H:Type) (enc:TypeId × Value->H) :
   ReturnsInHanded {} Tryz.checked os 3 .any (Rows.featureFilletSpec.pre6 enc Tryz.prog Tryz.f3 Rows.featureFilletRow.domain false) (Rows.featureFilletSpec.post enc Tryz.prog Tryz.f3 false true false false):=by
 refine returnsInHanded_of_change (C:=Tryz.checked) Tryz.own started (by kernel_rfl) Tryz.func3
   (ChangeSpec.witness6 (enc:=enc) (C:=Tryz.checked) false ⟨#[], #[.slice none 0 0, .agg #[.string ⟨#[]⟩, .string ⟨#[]⟩, .string ⟨#[]⟩], .agg #[.bool false, .slice none 0 0, .bool false, .slice none 0 0]],[]⟩ 8 (by kernel_rfl) (by kernel_rfl) (by kernel_rfl) (by kernel_rfl)) ?_
 intro W base args ds gs before W9 hW hcnd _
 have hval:∀ (j:Nat) t v,Tryz.f3.params[j]? = some t->args[j]? = some v->Value.okWide Tryz.prog W .any base t v:=W9
 have hW':=hW
 obtain ⟨p,q,Vw,hV,rfl,hfz,hnd⟩:=hW
 have hA:DataW.TrodAll enc Tryz.prog W 0 (fun _=>true) true Tryz.f3.params.toList args.toList ds p:=Vw
 rw [Tryz.params3] at hA hval
 obtain ⟨v0,v1,v2,d0,d1,d2,q0,q1,q2,rfl,rfl,rfl,h0,h1,h2⟩:=trodAll_three hA
 obtain ⟨rfl,rfl⟩:=trodVars_none hV
 clear Vw W9
 obtain ⟨a0,l0,k0,rfl⟩:=okWide_slice Tryz.underlying22 (hval 0 22 v0 rfl rfl)
 obtain ⟨ys,rfl,_⟩:=I3 Tryz.underlying23 (hval 1 23 v1 rfl rfl)
 obtain ⟨xs,rfl,_⟩:=okWide_struct Tryz.underlying28 (hval 2 28 v2 rfl rfl)
 obtain ⟨m0,e0⟩:=h0
 obtain ⟨m1,e1⟩:=h1
 obtain ⟨m2,e2⟩:=h2
 obtain ⟨ds,U3,r0⟩:=Nq e0
 obtain ⟨s0,s1,s2,r1⟩:=afV e1
 obtain ⟨n1,w1,n2,w2,r2,p5,Tj,mD,El⟩:=aaw e2
 have LR:VL.aK (VL.ky W) W [VL.Eg ds,wR s0 s1 s2,VL.RR n1 w1 n2 w2] [.slice a0 l0 k0, .agg ys, .agg xs] :=
   VL.aK.append (xs:=[VL.Eg ds]) (us:=[.slice a0 l0 k0]) r0 (VL.aK.append (xs:=[wR s0 s1 s2]) (us:=[.agg ys]) ⟨.agg ys,[],rfl,⟨ys,rfl,r1⟩,rfl⟩ ⟨.agg xs,[],rfl,⟨xs,rfl,r2⟩,rfl⟩)
 refine (VL.Hh (G:=fun _=>none) (ok:=fun b=>b<W.heap.size) (VL.aw.Je (aav _ (Rs _) ds U3 s0 s1 s2 n1 n2 w1 w2 p5 Tj mD El) (VL.nE.pure) []) rfl (fun _ h=>h) (fun _ _ h=>by cases h) (vs:=[.slice a0 l0 k0, .agg ys, .agg xs]) LR).mono fun e W' he => ?_
 obtain ⟨rfl,hB⟩:=he
 exact ⟨_,rfl,VL.Sg Tryz.laidOut (by rw [Tryz.params3];intro t ht;simp at ht;rcases ht with rfl | rfl | rfl<;>exact ⟨by kernel_rfl,by decide +kernel⟩) rfl rfl rfl (tb:=4) Tryz.underlying4 hW' hB⟩
theorem featureFillet_holds:Rows.FeatureFilletSaid :=
 OpenClaim.holds_of_wide 3 Tryz.f3 rfl rfl rfl rfl rfl rfl rfl ⟨rfl,rfl,rfl,rfl,rfl⟩ rfl rfl rfl rfl rfl (by kernel_rfl) Tryz.func3 (by kernel_rfl)
   (of_decide_eq_true (by kernel_rfl)) (by unfold Func.isWrapper;first | (rw [if_pos (by decide +kernel)];kernel_rfl) | (rw [if_neg (by decide +kernel)];exact ⟨rfl,rfl⟩))
   (fun os started H enc _=>lifted os started H enc)
end Go.Proofs.YtndoagbiakehnaaGreat
end
