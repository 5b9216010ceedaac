/- For the claim of VerifierAccepts: parts XVJ, VL30. -/
import Derived.Test.YtpcofcmencgkbaaGreatRows
import Derived.ProofKit
import Derived.Lib.SmallJoins
import Derived.Test.YtpcofcmencgkbaaGreatC03
set_option linter.defProp false
set_option linter.unusedSectionVars false
set_option linter.unusedSimpArgs false
set_option linter.unusedVariables false
set_option maxRecDepth 100000
open Go.DataW renaming TrodAll->wK,TrodVars->QB
open Go.Proofs.YtpcofcmencgkbaaGreat.Rows renaming verifierAcceptsRow->Fu
open Go.Proofs.YtpcofcmencgkbaaGreat.Tryz renaming pinned->Ft
namespace Go.Proofs.YtpcofcmencgkbaaGreat
section
open Go.ChangeShapes Go.WideShapes Go.ChangeAt Go.RowKit Go.Joins Go.Deep
theorem UH:Ft.checked.prog.inPlace 10=Fu.inPlace:=of_decide_eq_true an
theorem aiJ:Ft.checked.prog.unfollowed 10=Fu.unfollowed:=an
theorem aiK:Ft.checked.prog.recurses 10=Fu.recurses:=an
theorem aiL:Ft.checked.prog.varsNamed 10=Fu.named:=of_decide_eq_true an
theorem aiO:joinedFacts Ft.checked.prog 10 Tryz.f10 Rows.verifierAcceptsSpec Fu=true:=by unfold joinedFacts;rw[UH,aiJ,aiK,aiL];kernel_rfl
end
end Go.Proofs.YtpcofcmencgkbaaGreat
namespace Go.aA
section
open Go.ChangeShapes Go.WideShapes Go.ChangeAt Go.RowKit
variable{H:Type}{enc:TypeId×Value->H}{P:Program}
def Zh(k:laidOutB P=true){W m:World}{l:Nat->Bool}(j:Below W.heap.size W m):∀{g:List TypeId}{vs:List Value}{ds:List (DataW H)}{c:List MemPlace},(∀t∈g,P.readableRec t=true/\t<P.types.size)->wK enc P W 0 (λ _=>true) true g vs ds c->(∀p∈c,p.block<W.heap.size)->(∀p∈c,l p.block=true)->wK enc P m 0 l true g vs ds c|[],[],[],c,_,h,_,_=>by simpa[wK]using h|t::g,v::vs,d::ds,c,i,h,f,e=>by simp only[wK]at h⊢;obtain⟨p,q,h1,n,rfl⟩:=h;refine⟨p,q,?_,Zh k j (λ x a=>i x (by simp[a])) n (λ x a=>f x (by simp[a])) (λ x a=>e x (by simp[a])),rfl⟩;exact WideElems.Trod_stays k (i t am).1 (i t am).2 h1 (λ x a=>j.same (f x (by simp[a]))) (λ x a=>e x (by simp[a]))|[],[],_::_,_,_,h,_,_=>by simp[wK]at h|[],_::_,_,_,_,h,_,_=>by simp[wK]at h|_::_,[],_,_,_,h,_,_=>by simp[wK]at h|_::_,_::_,[],_,_,h,_,_=>by simp[wK]at h
def amS{f:Func}{s:ChangeSpec}{apart c a:Bool}{W r:World}{args:Array Value}{ds g:List (DataW H)}{b:List MemPlace}(y:laidOutB P=true)(w:∀t∈f.params.toList,P.readableRec t=true/\t<P.types.size)(u:s.vars=[])(k:(s.fn H (ds++g))={results:=[.lit (.bool true)],args:=ds}){tb:TypeId}(e:f.resultTypes=#[tb])(j:P.underlying tb=some .bool)(l:DataW.Whole enc P f.params.toList s.vars apart W args.toList ds g b)(o:Below W.heap.size W r):s.post enc P f apart c a false W args (.bool true) r:=by
 have d:=l.lt;have m:=l;obtain⟨p,q,h1,i,rfl,z,A⟩:=l;rw[u]at i;have v:q=[]/\g=[]:=by cases g with|nil=>simp only[QB]at i;exact⟨i,rfl⟩|cons _ _=>simp[QB]at i
 obtain⟨rfl,rfl⟩:=v;refine⟨ds,[],p++[],[],p,[],m,?_,?_,?_,o.frame _,λ h=>by simp at h⟩;rw[k,e];exact trodAll_mk1 ⟨1,by simp[DataW.trod,j,Value.cells]⟩;rw[k];exact Zh y o w h1 (λ x n=>d x (by simp[n])) (λ x n=>by simpa using d x (by simp[n]));rw[k,u];simp[QB]
def ajl{P:Program}{G:Nat->Option (List aa)}{f:FuncId}{args:List aa}{r:bR}(h:cv P G f args [] [] r)(m:r.val=.bool true){w:World}{ok:Nat->Prop}(d:∀b,ok b->b<w.heap.size)(q:∀g cs,G g=some cs->ok g/\eO ⟨λ _=>none,ok⟩ w g 0 cs){vs:List Value}(o:bq ⟨λ _=>none,ok⟩ w args vs):Calls P f vs.toArray w λ e w'=>e=.returned (.bool true)/\Below w.heap.size w w':=by have n:Inv G (λ k=>w.heap.size<=k) ⟨λ _=>none,ok⟩ w (λ _=>none):=⟨d,λ id av h=>by simp at h,λ i j x y h=>absurd rfl h,q,λ k l=>l⟩;refine(h.2 _ _ w _ vs am n o (λ _ _=>rfl)).mono λ e w' p=>?_;obtain⟨v,E',rfl,a⟩:=p;have c:=a.rep;rw[m]at c;simp only[ax]at c;subst c;exact⟨rfl,a.jo.os,a.jo.tape,a.jo.output,a.jo.size,λ k l=>a.jo.block k l ac⟩
end
end Go.aA
