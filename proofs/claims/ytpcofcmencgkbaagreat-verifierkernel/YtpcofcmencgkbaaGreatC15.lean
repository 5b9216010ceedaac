/- For every input, VerifierKernel returns true, and its argument reads afterwards as it read before. Conditions: none. -/
import Derived.Test.YtpcofcmencgkbaaGreatRows
import Derived.Test.YtpcofcmencgkbaaGreatC13
import Derived.Test.YtpcofcmencgkbaaGreatC14
import Derived.Test.YtpcofcmencgkbaaGreatC03
import Derived.ProofKit
import Derived.Lib.SmallJoins
set_option linter.defProp false
set_option linter.unusedSectionVars false
set_option linter.unusedSimpArgs false
set_option linter.unusedVariables false
set_option maxRecDepth 100000
open Go.Proofs.Tryz renaming checked->PB,f11->EF,params11->aaE,prog->ab
open Go.Proofs.YtpcofcmencgkbaaGreat.Rows renaming verifierKernelSpec->aaC
namespace Go.Proofs.YtpcofcmencgkbaaGreat
section
open Go.ChangeShapes Go.WideShapes Go.ChangeAt Go.RowKit Go.Joins Go.Deep
theorem Tryz.own:ownKnob ab.godebug=none:=an
theorem Tryz.laidOut:laidOutB ab=true:=an
set_option maxRecDepth 100000 in theorem ahM(os:Os)(started:os.Started)(H:Type)(enc:TypeId×Value->H):ReturnsInHanded {} PB os 11 .any (aaC.pre6 enc ab EF Rows.verifierKernelRow.domain false) (aaC.post enc ab EF false true false false):=by refine returnsInHanded_of_change (C:=PB) Tryz.own started an Tryz.func11 (ChangeSpec.witness6 (enc:=enc) (C:=PB) false ⟨#[],#[.agg #[.slice none 0 0,.slice none 0 0,.int .u8 0],.slice none 0 0],[]⟩ 8 an an an an) ?_;intro W base args ds gs before S6 hW hcnd _;have hval:∀(j:Nat)t v,EF.params[j]?=some t->args[j]?=some v->Value.okWide ab W .any base t v:=S6;have aeX:=hW;obtain⟨p,q,Sx,qc,rfl,arf,aro⟩:=hW;have hA:DataW.TrodAll enc ab W 0 (fun _=>true) true EF.params.toList args.toList ds p:=Sx;rw[aaE]at hA hval;obtain⟨v0,v1,d0,d1,q0,q1,rfl,rfl,rfl,h0,h1⟩:=trodAll_two hA;obtain⟨rfl,rfl⟩:=trodVars_none qc;clear Sx S6;obtain⟨ys,rfl,_⟩:=okWide_struct Tryz.underlying26 (hval 0 26 v0 rfl rfl);obtain⟨a1,jv,k1,rfl⟩:=okWide_slice Tryz.underlying24 (hval 1 24 v1 rfl rfl);obtain⟨arx,e0⟩:=h0;obtain⟨zq,e1⟩:=h1;obtain⟨ops,at_,bz,ho,ha,hc,eL⟩:=akd e0;obtain⟨f,hf,r2⟩:=Vk e1;have afR:ay.bc (ay.mO W) W [p7 ops at_ bz,.sl 1 (f.map u8)] [.agg ys,.slice a1 jv k1]:=ay.bc.append (xs:=[p7 ops at_ bz]) (us:=[.agg ys]) ⟨.agg ys,[],rfl,⟨ys,rfl,eL⟩,rfl⟩ r2;refine(ay.ahF (G:=fun _=>none) (ok:=fun b=>b<W.heap.size) (ay.cj.Va (ahE _ ho ha hc hf) (ay.bq.pure) []) rfl (fun _ h=>h) (fun _ _ h=>by cases h) (vs:=[.agg ys,.slice a1 jv k1]) afR).mono fun e W' he=>?_;obtain⟨rfl,hB⟩:=he;exact⟨_,rfl,ay.akA Tryz.laidOut (by rw[aaE];intro t ht;simp at ht;rcases ht with rfl|rfl<;>exact⟨an,by decide+kernel⟩) rfl rfl rfl (tb:=4) Tryz.underlying4 aeX hB⟩
theorem verifierKernel_holds:Rows.VerifierKernelSaid:=OpenClaim.holds_of_wide 11 EF rfl rfl rfl rfl rfl rfl rfl ⟨rfl,rfl,rfl,rfl,rfl⟩ rfl rfl rfl rfl rfl an Tryz.func11 ag6 (of_decide_eq_true an) (by unfold Func.isWrapper;first|(rw[if_pos (by decide+kernel)];kernel_rfl)|(rw[if_neg (by decide+kernel)];exact⟨rfl,rfl⟩)) (fun os started H enc _=>ahM os started H enc)
end
end Go.Proofs.YtpcofcmencgkbaaGreat
