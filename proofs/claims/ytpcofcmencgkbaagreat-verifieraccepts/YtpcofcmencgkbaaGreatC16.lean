/- For every input, VerifierAccepts returns true, and its argument reads afterwards as it read before. Conditions: none. -/
import Derived.Test.YtpcofcmencgkbaaGreatRows
import Derived.Test.YtpcofcmencgkbaaGreatC13
import Derived.Test.YtpcofcmencgkbaaGreatC14
import Derived.Test.YtpcofcmencgkbaaGreatC15
import Derived.Test.YtpcofcmencgkbaaGreatC03
import Derived.ProofKit
import Derived.Lib.SmallJoins
set_option linter.defProp false
set_option linter.unusedSectionVars false
set_option linter.unusedSimpArgs false
set_option linter.unusedVariables false
set_option maxRecDepth 100000
open Go.Proofs.Tryz renaming checked->QC,f10->Fv,params10->ab1,prog->ab
open Go.Proofs.YtpcofcmencgkbaaGreat.Rows renaming verifierAcceptsSpec->ab0
namespace Go.Proofs.YtpcofcmencgkbaaGreat
section
open Go.ChangeShapes Go.WideShapes Go.ChangeAt Go.RowKit Go.Joins Go.Deep
theorem Tryz.own:ownKnob ab.godebug=none:=an
theorem Tryz.laidOut:laidOutB ab=true:=an
set_option maxRecDepth 100000 in theorem ajs(os:Os)(started:os.Started)(H:Type)(enc:TypeId×Value->H):ReturnsInHanded {} QC os 10 .any (ab0.pre6 enc ab Fv Rows.verifierAcceptsRow.domain false) (ab0.post enc ab Fv false true false false):=by refine returnsInHanded_of_change (C:=QC) Tryz.own started an Tryz.func10 (ChangeSpec.witness6 (enc:=enc) (C:=QC) false ⟨#[],#[.agg #[.slice none 0 0,.slice none 0 0,.int .u8 0],.int .u8 0],[]⟩ 8 an an an an) ?_;intro W base args ds gs before Um hW hcnd _;have hval:∀(j:Nat)t v,Fv.params[j]?=some t->args[j]?=some v->Value.okWide ab W .any base t v:=Um;have agG:=hW;obtain⟨p,q,TH,ri,rfl,atE,Mv⟩:=hW;have hA:DataW.TrodAll enc ab W 0 (fun _=>true) true Fv.params.toList args.toList ds p:=TH;rw[ab1]at hA hval;obtain⟨v0,v1,d0,d1,q0,q1,rfl,rfl,rfl,h0,h1⟩:=trodAll_two hA;obtain⟨rfl,rfl⟩:=trodVars_none ri;clear TH Um;obtain⟨ys,rfl,_⟩:=okWide_struct Tryz.underlying26 (hval 0 26 v0 rfl rfl);obtain⟨aar,rfl⟩:=okWide_int Tryz.underlying5 (hval 1 5 v1 rfl rfl);obtain⟨HS,e0⟩:=h0;obtain⟨Vl,e1⟩:=h1;obtain⟨ops,at_,bE,ho,ha,hc,eU⟩:=amr e0;obtain⟨f,hf,r2⟩:=xV e1;have ahx:aA.bq (aA.nB W) W [sD ops at_ bE,u8 f] [.agg ys,.int .u8 aar]:=aA.bq.append (xs:=[sD ops at_ bE]) (us:=[.agg ys]) ⟨.agg ys,[],rfl,⟨ys,rfl,eU⟩,rfl⟩ r2;refine(aA.ajl (G:=fun _=>none) (ok:=fun b=>b<W.heap.size) (aA.cv.Wq (ajj _ ho ha hc hf) (aA.bn.pure) []) rfl (fun _ h=>h) (fun _ _ h=>by cases h) (vs:=[.agg ys,.int .u8 aar]) ahx).mono fun e W' he=>?_;obtain⟨rfl,hB⟩:=he;exact⟨_,rfl,aA.amS Tryz.laidOut (by rw[ab1];intro t ht;simp at ht;rcases ht with rfl|rfl<;>exact⟨an,by decide+kernel⟩) rfl rfl rfl (tb:=4) Tryz.underlying4 agG hB⟩
theorem verifierAccepts_holds:Rows.VerifierAcceptsSaid:=OpenClaim.holds_of_wide 10 Fv rfl rfl rfl rfl rfl rfl rfl ⟨rfl,rfl,rfl,rfl,rfl⟩ rfl rfl rfl rfl rfl an Tryz.func10 aiO (of_decide_eq_true an) (by unfold Func.isWrapper;first|(rw[if_pos (by decide+kernel)];kernel_rfl)|(rw[if_neg (by decide+kernel)];exact⟨rfl,rfl⟩)) (fun os started H enc _=>ajs os started H enc)
end
end Go.Proofs.YtpcofcmencgkbaaGreat
