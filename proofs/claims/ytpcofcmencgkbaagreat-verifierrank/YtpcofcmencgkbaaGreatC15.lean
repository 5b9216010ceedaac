/- For every input, VerifierRank returns true, and its argument reads afterwards as it read before. Conditions: none. -/
import Derived.Test.YtpcofcmencgkbaaGreatRows
import Derived.Test.YtpcofcmencgkbaaGreatC13
import Derived.Test.YtpcofcmencgkbaaGreatC14
import Derived.Test.YtpcofcmencgkbaaGreatC03
import Derived.ProofKit
import Derived.Lib.SmallJoins
set_option linter.defProp false
set_option linter.unusedSimpArgs false
set_option linter.unusedVariables false
set_option maxRecDepth 100000
open Go.Proofs.Tryz renaming checked->PF,f3->EP,prog->ab
open Go.Proofs.YtpcofcmencgkbaaGreat.Rows renaming verifierRankSpec->Z7
open Go.aF.bl renaming append->nK
namespace Go.Proofs.YtpcofcmencgkbaaGreat
section
open Go.ChangeShapes Go.WideShapes Go.ChangeAt Go.RowKit Go.Joins Go.Deep
def Tryz.own:ownKnob ab.godebug=none:=by kernel_rfl
def Tryz.laidOut:laidOutB ab=true:=by kernel_rfl
set_option maxRecDepth 100000 in
theorem ahn (os:Os) (started:os.Started) (H:Type) (enc:TypeId × Value->H) :
   ReturnsInHanded {} PF os 3 .any (Z7.pre6 enc ab EP Rows.verifierRankRow.domain false) (Z7.post enc ab EP false true false false):=by
 refine returnsInHanded_of_change (C:=PF) Tryz.own started (by kernel_rfl) Tryz.func3
   (ChangeSpec.witness6 (enc:=enc) (C:=PF) false ⟨#[], #[.agg #[.slice none 0 0, .slice none 0 0, .int .u8 0], .agg #[.int .u8 0, .int .u8 0, .int .i8 0], .int .u8 0],[]⟩ 8 (by kernel_rfl) (by kernel_rfl) (by kernel_rfl) (by kernel_rfl)) ?_
 intro W base args ds gs before SS hW hcnd _
 have hval:∀ (j:Nat) t v,EP.params[j]? = some t->args[j]? = some v->Value.okWide ab W .any base t v:=SS
 have aeH:=hW
 obtain ⟨p,q,Sl,wO,rfl,aqV,LF⟩:=hW
 have hA:DataW.TrodAll enc ab W 0 (fun _=>true) true EP.params.toList args.toList ds p:=Sl
 rw [Tryz.params3] at hA hval
 obtain ⟨v0,v1,v2,d0,d1,d2,q0,q1,C6,rfl,rfl,rfl,h0,h1,h2⟩:=trodAll_three hA
 obtain ⟨rfl,rfl⟩:=trodVars_none wO
 clear Sl SS
 obtain ⟨ys,rfl,_⟩:=okWide_struct Tryz.underlying26 (hval 0 26 v0 rfl rfl)
 obtain ⟨xs,rfl,_⟩:=okWide_struct Tryz.underlying29 (hval 1 29 v1 rfl rfl)
 obtain ⟨YE,rfl⟩:=okWide_int Tryz.underlying5 (hval 2 5 v2 rfl rfl)
 obtain ⟨zr,e0⟩:=h0
 obtain ⟨arc,e1⟩:=h1
 obtain ⟨ard,e2⟩:=h2
 obtain ⟨ops,at_,bt,ho,ha,hc,eA⟩:=ajK e0
 obtain ⟨s,hs,r1⟩:=ajL e1
 obtain ⟨f,hf,r2⟩:=tL e2
 have afC:aF.bl (aF.lT W) W [tf ops at_ bt,mI s,u8 f] [.agg ys, .agg xs, .int .u8 YE] :=
   nK (xs:=[tf ops at_ bt]) (us:=[.agg ys]) ⟨.agg ys,[],rfl,⟨ys,rfl,eA⟩,rfl⟩ (nK (xs:=[mI s]) (us:=[.agg xs]) ⟨.agg xs,[],rfl,⟨xs,rfl,r1⟩,rfl⟩ r2)
 refine (aF.ahd (G:=fun _=>none) (ok:=fun b=>b<W.heap.size) (aF.cu.UB (ahc _ (aaQ _) ho ha hc hs hf) (aF.br.pure) []) rfl (fun _ h=>h) (fun _ _ h=>by cases h) (vs:=[.agg ys, .agg xs, .int .u8 YE]) afC).mono fun e W' he => ?_
 obtain ⟨rfl,hB⟩:=he
 exact ⟨_,rfl,aF.akj Tryz.laidOut (by rw [Tryz.params3];intro t ht;simp at ht;rcases ht with rfl | rfl | rfl<;>exact ⟨by kernel_rfl,by decide +kernel⟩) rfl rfl rfl (tb:=4) Tryz.underlying4 aeH hB⟩
theorem verifierRank_holds:Rows.VerifierRankSaid :=
 OpenClaim.holds_of_wide 3 EP rfl rfl rfl rfl rfl rfl rfl ⟨rfl,rfl,rfl,rfl,rfl⟩ rfl rfl rfl rfl rfl (by kernel_rfl) Tryz.func3 agD
   (of_decide_eq_true (by kernel_rfl)) (by unfold Func.isWrapper;first | (rw [if_pos (by decide +kernel)];kernel_rfl) | (rw [if_neg (by decide +kernel)];exact ⟨rfl,rfl⟩))
   (λ os a H enc _=>ahn os a H enc)
end
end Go.Proofs.YtpcofcmencgkbaaGreat
