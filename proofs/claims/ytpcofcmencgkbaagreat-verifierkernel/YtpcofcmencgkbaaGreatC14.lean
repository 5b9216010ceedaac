/- For the claim of VerifierKernel: parts XW4, VL30. -/
import Derived.Test.YtpcofcmencgkbaaGreatRows
import Derived.ProofKit
import Derived.Lib.SmallJoins
import Derived.Test.YtpcofcmencgkbaaGreatC03
set_option linter.defProp false
set_option linter.unusedSectionVars false
set_option linter.unusedSimpArgs false
set_option linter.unusedVariables false
set_option maxRecDepth 100000
open Go.DataW renaming TrodAll->vD,TrodVars->PA
open Go.Proofs.YtpcofcmencgkbaaGreat.Rows renaming verifierKernelRow->EE
open Go.Proofs.YtpcofcmencgkbaaGreat.Tryz renaming pinned->ED
namespace Go.Proofs.YtpcofcmencgkbaaGreat
section
open Go.ChangeShapes Go.WideShapes Go.ChangeAt Go.RowKit Go.Joins Go.Deep
theorem Tq:ED.checked.prog.inPlace 11=EE.inPlace:=of_decide_eq_true an
theorem ag1:ED.checked.prog.unfollowed 11=EE.unfollowed:=an
theorem ag2:ED.checked.prog.recurses 11=EE.recurses:=an
theorem ag3:ED.checked.prog.varsNamed 11=EE.named:=of_decide_eq_true an
theorem ag6:joinedFacts ED.checked.prog 11 Tryz.f11 Rows.verifierKernelSpec EE=true:=by unfold joinedFacts;rw[Tq,ag1,ag2,ag3];kernel_rfl
end
end Go.Proofs.YtpcofcmencgkbaaGreat
namespace Go.ay
section
open Go.ChangeShapes Go.WideShapes Go.ChangeAt Go.RowKit
variable{H:Type}{enc:TypeId×Value->H}{P:Program}
def XR(k:laidOutB P=true){W m:World}{l:Nat->Bool}(j:Below W.heap.size W m):∀{g:List TypeId}{vs:List Value}{ds:List (DataW H)}{c:List MemPlace},(∀t∈g,P.readableRec t=true/\t<P.types.size)->vD enc P W 0 (λ _=>true) true g vs ds c->(∀p∈c,p.block<W.heap.size)->(∀p∈c,l p.block=true)->vD enc P m 0 l true g vs ds c|[],[],[],c,_,h,_,_=>by simpa[vD]using h|t::g,v::vs,d::ds,c,i,h,f,e=>by simp only[vD]at h⊢;obtain⟨p,q,h1,n,rfl⟩:=h;refine⟨p,q,?_,XR k j (λ x a=>i x (by simp[a])) n (λ x a=>f x (by simp[a])) (λ x a=>e x (by simp[a])),rfl⟩;exact WideElems.Trod_stays k (i t am).1 (i t am).2 h1 (λ x a=>j.same (f x (by simp[a]))) (λ x a=>e x (by simp[a]))|[],[],_::_,_,_,h,_,_=>by simp[vD]at h|[],_::_,_,_,_,h,_,_=>by simp[vD]at h|_::_,[],_,_,_,h,_,_=>by simp[vD]at h|_::_,_::_,[],_,_,h,_,_=>by simp[vD]at h
def akA{f:Func}{s:ChangeSpec}{apart c a:Bool}{W r:World}{args:Array Value}{ds g:List (DataW H)}{b:List MemPlace}(y:laidOutB P=true)(w:∀t∈f.params.toList,P.readableRec t=true/\t<P.types.size)(u:s.vars=[])(k:(s.fn H (ds++g))={results:=[.lit (.bool true)],args:=ds}){tb:TypeId}(e:f.resultTypes=#[tb])(j:P.underlying tb=some .bool)(l:DataW.Whole enc P f.params.toList s.vars apart W args.toList ds g b)(o:Below W.heap.size W r):s.post enc P f apart c a false W args (.bool true) r:=by
 have d:=l.lt;have m:=l;obtain⟨p,q,h1,i,rfl,z,A⟩:=l;rw[u]at i;have v:q=[]/\g=[]:=by cases g with|nil=>simp only[PA]at i;exact⟨i,rfl⟩|cons _ _=>simp[PA]at i
 obtain⟨rfl,rfl⟩:=v;refine⟨ds,[],p++[],[],p,[],m,?_,?_,?_,o.frame _,λ h=>by simp at h⟩;rw[k,e];exact trodAll_mk1 ⟨1,by simp[DataW.trod,j,Value.cells]⟩;rw[k];exact XR y o w h1 (λ x n=>d x (by simp[n])) (λ x n=>by simpa using d x (by simp[n]));rw[k,u];simp[PA]
def ahF{P:Program}{G:Nat->Option (List aa)}{f:FuncId}{args:List aa}{r:bG}(h:cj P G f args [] [] r)(m:r.val=.bool true){w:World}{ok:Nat->Prop}(d:∀b,ok b->b<w.heap.size)(q:∀g cs,G g=some cs->ok g/\eF ⟨λ _=>none,ok⟩ w g 0 cs){vs:List Value}(o:bc ⟨λ _=>none,ok⟩ w args vs):Calls P f vs.toArray w λ e w'=>e=.returned (.bool true)/\Below w.heap.size w w':=by have n:Inv G (λ k=>w.heap.size<=k) ⟨λ _=>none,ok⟩ w (λ _=>none):=⟨d,λ id aq h=>by simp at h,λ i j x y h=>absurd rfl h,q,λ k l=>l⟩;refine(h.2 _ _ w _ vs am n o (λ _ _=>rfl)).mono λ e w' p=>?_;obtain⟨v,E',rfl,a⟩:=p;have c:=a.rep;rw[m]at c;simp only[av]at c;subst c;exact⟨rfl,a.iO.os,a.iO.tape,a.iO.output,a.iO.size,λ k l=>a.iO.block k l ac⟩
end
end Go.ay
