/- For the claim of VerifierAccepts: parts XUX. -/
import Derived.Test.YtpcofcmencgkbaaGreatProg
import Derived.Test.YtpcofcmencgkbaaGreatC13
import Derived.Test.YtpcofcmencgkbaaGreatC04
import Derived.Test.YtpcofcmencgkbaaGreatC03
import Derived.Lib.ItoaNum
import Derived.Lib.IndexMore
import Derived.KernelRfl
import Derived.OpenShut
set_option linter.defProp false
set_option linter.unusedSectionVars false
set_option linter.unusedSimpArgs false
set_option linter.unusedVariables false
set_option maxRecDepth 100000
open Go.DataW renaming trod->oX,trod_int->abT,trod_struct->abU
open Go.Proofs.Tryz renaming prog->ab
open Go.aA.bq renaming append->tA
open List renaming drop->wJ,drop_succ_cons->abW,drop_zero->nY,getElem?_eq_getElem->eu,take->wI,take_succ_cons->abX,take_zero->abY
open Go.aA
namespace Go.Proofs.YtpcofcmencgkbaaGreat
section
variable{H:Type}{enc:TypeId×Value->H}{w:World}{spare:Nat->Bool}{held:Bool}{fuel:Nat}{cs:List Value}{x:DataW H×List MemPlace}
def xV(h:oX enc ab w 0 spare held fuel 5 cs=some x):∃n:Nat,n<256/\bq (nB w) w [.int .u8 (n:Int)] cs:=by obtain⟨n,rfl,_,hw⟩:=abT Tryz.underlying5 h;have hb:=bounds_u8 hw;obtain⟨m,rfl⟩:=Int.eq_ofNat_of_zero_le hb.1;exact⟨m,ac,by simp[bq,ax]⟩
def amt(h:oX enc ab w 0 spare held fuel 27 cs=some x):∃n:Int,(-128<=n/\n<128)/\bq (nB w) w [.int .i8 n] cs:=by obtain⟨n,rfl,_,hw⟩:=abT Tryz.underlying27 h;exact⟨n,by have:=bounds_i8 hw;omega,by simp[bq,ax]⟩
def Lf:ab.cellsOf 5=1:=an
def adI:ab.cellsOf 27=1:=an
def RE:ab.cellsOf 152=5:=an
def adF:ab.cellsOf 23=1:=an
def adG:ab.cellsOf 24=1:=an
def adH:ab.cellsOf 26=3:=an
def amu(h:oX enc ab w 0 spare held fuel 152 cs=some x):∃o:fI,lU o/\bq (nB w) w (k9 o).cells cs:=by have⟨xs,n,_,_,s,m,k⟩:=abU Tryz.underlying152 h;rw[RE]at s;have B:xs.length=5:=m;match cs,s with|[i,v1,v2,g,j],_=>have l:oX enc ab w 0 spare held n 5 (wI (ab.cellsOf 5) (wJ 0 [i,v1,v2,g,j]))=xs[0]?:=k 0 _ rfl;have f1:oX enc ab w 0 spare held n 5 (wI (ab.cellsOf 5) (wJ 1 [i,v1,v2,g,j]))=xs[1]?:=k 1 _ rfl;have p:oX enc ab w 0 spare held n 5 (wI (ab.cellsOf 5) (wJ 2 [i,v1,v2,g,j]))=xs[2]?:=k 2 _ rfl;have q:oX enc ab w 0 spare held n 27 (wI (ab.cellsOf 27) (wJ 3 [i,v1,v2,g,j]))=xs[3]?:=k 3 _ rfl;have r:oX enc ab w 0 spare held n 5 (wI (ab.cellsOf 5) (wJ 4 [i,v1,v2,g,j]))=xs[4]?:=k 4 _ rfl;rw[eu ac]at l f1 p q r;simp only[Lf,adI,nY,abW,abX,abY]at l f1 p q r;have⟨a,u,A⟩:=xV l;have⟨b,hb,v⟩:=xV f1;have⟨c,hc,z⟩:=xV p;have⟨d,hd,rd⟩:=amt q;have⟨e,y,t⟩:=xV r;refine⟨⟨a,b,c,d,e⟩,⟨u,hb,hc,y,hd.1,by have:=hd.2;show d<=127;omega⟩,?_⟩;show bq (nB w) w [.int .u8 (a:Int),.int .u8 (b:Int),.int .u8 (c:Int),.int .i8 d,.int .u8 (e:Int)] _;exact tA (xs:=[.int .u8 (a:Int)]) (us:=[i]) A (tA (xs:=[.int .u8 (b:Int)]) (us:=[v1]) v (tA (xs:=[.int .u8 (c:Int)]) (us:=[v2]) z (tA (xs:=[.int .i8 d]) (us:=[g]) rd t)))
def amv(h:oX enc ab w 0 spare held fuel 23 cs=some x):∃l:List fI,(∀o∈l,lU o)/\bq (nB w) w [.sl 5 (l.map k9)] cs:=by obtain⟨es,v,rfl,g,i,j⟩:=Wz (k:=5) Tryz.underlying23 RE al h (λ c=>∃d:fI,c=k9 d/\lU d) (λ n e y _ f=>by have⟨d,h1,b⟩:=amu f;exact⟨k9 d,⟨d,rfl,h1⟩,rfl,b⟩);obtain⟨l,rfl,hw⟩:=LP i;exact⟨l,hw,by simp only[bq];exact⟨v,[],rfl,g,rfl⟩⟩
def ams(h:oX enc ab w 0 spare held fuel 24 cs=some x):∃l:List Nat,(∀a∈l,a<256)/\bq (nB w) w [.sl 1 (l.map u8)] cs:=by obtain⟨es,v,rfl,f,d,m⟩:=Wz (k:=1) Tryz.underlying24 Lf al h (λ c=>∃n:Nat,c=u8 n/\n<256) (λ n e y _ g=>by have⟨n,i,j⟩:=xV g;exact⟨u8 n,⟨n,rfl,i⟩,rfl,j⟩);obtain⟨l,rfl,hw⟩:=LP d;exact⟨l,hw,by simp only[bq];exact⟨v,[],rfl,f,rfl⟩⟩
def amr(h:oX enc ab w 0 spare held fuel 26 cs=some x):∃(ops:List fI)(at_:List Nat)(d:Nat),(∀o∈ops,lU o)/\(∀a∈at_,a<256)/\d<256/\bq (nB w) w (sD ops at_ d).cells cs:=by have⟨xs,n,_,_,k,f,i⟩:=abU Tryz.underlying26 h;rw[adH]at k;have r:xs.length=3:=f;match cs,k with|[e,v1,v2],_=>have g:oX enc ab w 0 spare held n 23 (wI (ab.cellsOf 23) (wJ 0 [e,v1,v2]))=xs[0]?:=i 0 _ rfl;have f1:oX enc ab w 0 spare held n 24 (wI (ab.cellsOf 24) (wJ 1 [e,v1,v2]))=xs[1]?:=i 1 _ rfl;have j:oX enc ab w 0 spare held n 5 (wI (ab.cellsOf 5) (wJ 2 [e,v1,v2]))=xs[2]?:=i 2 _ rfl;rw[eu ac]at g f1 j;simp only[Lf,adF,adG,nY,abW,abX,abY]at g f1 j;have⟨ops,ho,l⟩:=amv g;have⟨at_,p,q⟩:=ams f1;have⟨c,hc,m⟩:=xV j;refine⟨ops,at_,c,ho,p,hc,?_⟩;show bq (nB w) w [.sl 5 (ops.map k9),.sl 1 (at_.map u8),u8 c] _;exact tA (xs:=[.sl 5 (ops.map k9)]) (us:=[e]) l (tA (xs:=[.sl 1 (at_.map u8)]) (us:=[v1]) q m)
end
end Go.Proofs.YtpcofcmencgkbaaGreat
