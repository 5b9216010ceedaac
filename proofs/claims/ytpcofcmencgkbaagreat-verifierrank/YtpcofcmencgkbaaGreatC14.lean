/- For the claim of VerifierRank: parts XUZ, VL30. -/
import Derived.Test.YtpcofcmencgkbaaGreatRows
import Derived.ProofKit
import Derived.Lib.SmallJoins
import Derived.Test.YtpcofcmencgkbaaGreatC03
set_option linter.defProp false
set_option linter.unusedSimpArgs false
set_option linter.unusedVariables false
set_option maxRecDepth 100000
open Go.DataW renaming TrodAll->vY,TrodVars->PE
open Go.Proofs.YtpcofcmencgkbaaGreat.Rows renaming verifierRankRow->EO
open Go.Proofs.YtpcofcmencgkbaaGreat.Tryz renaming pinned->EN
namespace Go.Proofs.YtpcofcmencgkbaaGreat
section
open Go.ChangeShapes Go.WideShapes Go.ChangeAt Go.RowKit Go.Joins Go.Deep
def agz:EN.checked.prog.inPlace 3=EO.inPlace:=of_decide_eq_true (by kernel_rfl)
def agA:EN.checked.prog.unfollowed 3=EO.unfollowed:=by kernel_rfl
def agB:EN.checked.prog.recurses 3=EO.recurses:=by kernel_rfl
def agC:EN.checked.prog.varsNamed 3=EO.named:=of_decide_eq_true (by kernel_rfl)
theorem agD:joinedFacts EN.checked.prog 3 Tryz.f3 Rows.verifierRankSpec EO=true:=by
 unfold joinedFacts
 rw [agz,agA,agB,agC]
 kernel_rfl
end
end Go.Proofs.YtpcofcmencgkbaaGreat
namespace Go.aF
section
open Go.ChangeShapes Go.WideShapes Go.ChangeAt Go.RowKit
variable {H:Type} {enc:TypeId × Value->H} {P:Program}
def Xw (k:laidOutB P=true) {W m:World} {l:Nat->Bool} (j:Below W.heap.size W m):∀ {g:List TypeId} {vs:List Value} {ds:List (DataW H)} {c:List MemPlace},
   (∀ t∈g,P.readableRec t=true/\t<P.types.size)->vY enc P W 0 (λ _=>true) true g vs ds c->(∀ p∈c,p.block<W.heap.size)->(∀ p∈c,l p.block=true) ->
   vY enc P m 0 l true g vs ds c
 | [],[],[],c,_,h,_,_=>by simpa [vY] using h
 | t::g,v::vs,d::ds,c,i,h,f,e=>by
   simp only [vY] at h ⊢
   obtain ⟨p,q,h1,n,rfl⟩:=h
   refine ⟨p,q, ?_,Xw k j (λ x a=>i x (by simp [a])) n (λ x a=>f x (by simp [a])) (λ x a=>e x (by simp [a])),rfl⟩
   exact WideElems.Trod_stays k (i t (by simp)).1 (i t (by simp)).2 h1 (λ x a=>j.same (f x (by simp [a]))) (λ x a=>e x (by simp [a]))
 | [],[],_::_,_,_,h,_,_=>by simp [vY] at h
 | [],_::_,_,_,_,h,_,_=>by simp [vY] at h
 | _::_,[],_,_,_,h,_,_=>by simp [vY] at h
 | _::_,_::_,[],_,_,h,_,_=>by simp [vY] at h
def akj {f:Func} {s:ChangeSpec} {apart c a:Bool} {W r:World} {args:Array Value} {ds g:List (DataW H)} {b:List MemPlace}
   (y:laidOutB P=true) (w:∀ t∈f.params.toList,P.readableRec t=true/\t<P.types.size) (u:s.vars=[])
   (k:(s.fn H (ds++g))={ results:=[.lit (.bool true)],args:=ds }) {tb:TypeId} (e:f.resultTypes = #[tb]) (j:P.underlying tb=some .bool)
   (l:DataW.Whole enc P f.params.toList s.vars apart W args.toList ds g b) (o:Below W.heap.size W r) :
   s.post enc P f apart c a false W args (.bool true) r:=by
 have d:=l.lt
 have m:=l
 obtain ⟨p,q,h1,i,rfl,z,A⟩:=l
 rw [u] at i
 have v:q=[]/\g=[]:=by
   cases g with
   | nil=>simp only [PE] at i;exact ⟨i,rfl⟩
   | cons _ _=>simp [PE] at i
 obtain ⟨rfl,rfl⟩:=v
 refine ⟨ds,[],p++[],[],p,[],m, ?_, ?_, ?_,o.frame _, λ h=>by simp at h⟩
 rw [k,e]
 exact trodAll_mk1 ⟨1,by simp [DataW.trod,j,Value.cells]⟩
 rw [k]
 exact Xw y o w h1 (λ x n=>d x (by simp [n])) (λ x n=>by simpa using d x (by simp [n]))
 rw [k,u];simp [PE]
def ahd {P:Program} {G:Nat->Option (List aa)} {f:FuncId} {args:List aa} {r:bM} (h:cu P G f args [] [] r) (m:r.val = .bool true) {w:World} {ok:Nat->Prop}
   (d:∀ b,ok b->b<w.heap.size) (q:∀ g cs,G g=some cs->ok g/\eE ⟨λ _=>none,ok⟩ w g 0 cs) {vs:List Value} (o:bl ⟨λ _=>none,ok⟩ w args vs) :
   Calls P f vs.toArray w λ e w'=>e = .returned (.bool true)/\Below w.heap.size w w':=by
 have n:Inv G (λ k=>w.heap.size<=k) ⟨λ _=>none,ok⟩ w (λ _=>none):=⟨d, λ id au h=>by simp at h, λ i j x y h=>absurd rfl h,q, λ k l=>l⟩
 refine (h.2 _ _ w _ vs (by simp) n o (λ _ _=>rfl)).mono λ e w' p => ?_
 obtain ⟨v,E',rfl,a⟩:=p
 have c:=a.rep
 rw [m] at c
 simp only [av] at c
 subst c
 exact ⟨rfl,a.jc.os,a.jc.tape,a.jc.output,a.jc.size, λ k l=>a.jc.block k l (by omega)⟩
end
end Go.aF
