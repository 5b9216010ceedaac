/- For the claim of FeatureFillet: parts OHas, CLex, CB, WN, CI1, CI2, CI3, CI4, CI5, CI6, CI7, CI8, CI9, CI10, CI11, CI12, CI13, CI14, CI15, CI16, CI17, CI18, FD, CI19, CI20. -/
import Derived.Test.YtndoagbiakehnaaGreatProg
import Derived.KernelRfl
import Derived.Test.YtndoagbiakehnaaGreatC04
import Derived.Test.YtndoagbiakehnaaGreatC03
import Derived.Laws.Bits64
import Derived.Laws.BitsAllLaws
set_option linter.unusedSimpArgs false
set_option linter.unusedVariables false
section
set_option maxRecDepth 100000
namespace Go.Proofs.YtndoagbiakehnaaGreat
open Go.VL Go.Proofs
noncomputable def co (n:Nat):Option bp:=(Tryz.prog.funcs[n]?).bind (yD Tryz.prog)
noncomputable def cn (n:Nat):bp:=(co n).getD ⟨0,[], .skip⟩
abbrev Hn (n:Nat):Prop:=Has Tryz.prog n (cn n)
theorem hN {n:Nat} (e:(co n).isSome=true:=by kernel_rfl):Hn n:=by
 obtain ⟨x,hx⟩:=Option.isSome_iff_exists.1 e
 have h:=hx
 rw [co,Option.bind_eq_some_iff] at h
 obtain ⟨fn,h1,h2⟩:=h
 exact ⟨fn,h1,by rw [cn,hx];exact h2⟩
theorem vt {n:Nat} {G:Nat->Option (List AV)} (l:List (Hint Tryz.prog G)) {args:List AV} {r:AV} [PU r] (hr:J2 (cn n).results (Fz (cn n) args l)=J3 r (Fz (cn n) args l):=by kernel_rfl) (e:(co n).isSome=true:=by kernel_rfl):VP Tryz.prog G n args r:=VP.tr (hN e) l hr
theorem zx:Has Tryz.prog 137 (pA):=⟨_,Tryz.func137,by kernel_rfl⟩
theorem wo:Has Tryz.prog 72 (iM 136 137 138):=⟨_,Tryz.func72,by kernel_rfl⟩
theorem mI:Has Tryz.prog 95 (dI 164):=⟨_,Tryz.func95,by kernel_rfl⟩
theorem om:Has Tryz.prog 164 (dW 210 211):=⟨_,Tryz.func164,by kernel_rfl⟩
theorem mJ:Hn 210:=hN
theorem nK:Hn 211:=hN
theorem wq:Has Tryz.prog 141 (eD):=⟨_,Tryz.func141,by kernel_rfl⟩
theorem qQ:Has Tryz.prog 261 (ib 141):=⟨_,Tryz.func261,by kernel_rfl⟩
theorem rZ:Has Tryz.prog 281 (j8 280 299):=⟨_,Tryz.func281,by kernel_rfl⟩
theorem wu:Has Tryz.prog 292 (mi):=⟨_,Tryz.func292,by kernel_rfl⟩
theorem uR:Has Tryz.prog 293 (lD 141):=⟨_,Tryz.func293,by kernel_rfl⟩
theorem uS:Has Tryz.prog 282 (lE 141):=⟨_,Tryz.func282,by kernel_rfl⟩
theorem qo:Has Tryz.prog 311 (gz):=⟨_,Tryz.func311,by kernel_rfl⟩
theorem kg:Has Tryz.prog 314 (eE):=⟨_,Tryz.func314,by kernel_rfl⟩
theorem pF:Has Tryz.prog 309 (iN 141 261):=⟨_,Tryz.func309,by kernel_rfl⟩
theorem th:Has Tryz.prog 300 (kR 281 204 301 261 309 310 311 141 312 313 314):=⟨_,Tryz.func300,by kernel_rfl⟩
theorem qR:Has Tryz.prog 312 (ic):=⟨_,Tryz.func312,by kernel_rfl⟩
theorem uT:Has Tryz.prog 285 (lF):=⟨_,Tryz.func285,by kernel_rfl⟩
theorem xP:Has Tryz.prog 286 (nF 141 300 204 260 301 261):=⟨_,Tryz.func286,by kernel_rfl⟩
theorem ti:Has Tryz.prog 264 (gK 285 76 286 273):=⟨_,Tryz.func264,by kernel_rfl⟩
theorem wv:Has Tryz.prog 268 (j9 273 257 233 275):=⟨_,Tryz.func268,by kernel_rfl⟩
theorem lQ:Has Tryz.prog 318 (kd):=⟨_,Tryz.func318,by kernel_rfl⟩
theorem uU:Has Tryz.prog 298 (lH):=⟨_,Tryz.func298,by kernel_rfl⟩
theorem qS:Has Tryz.prog 308 (jI):=⟨_,Tryz.func308,by kernel_rfl⟩
theorem r6:Has Tryz.prog 280 (ke 298):=⟨_,Tryz.func280,by kernel_rfl⟩
theorem pG:Has Tryz.prog 299 (iO 308):=⟨_,Tryz.func299,by kernel_rfl⟩
theorem kz:Has Tryz.prog 204 (cH):=⟨_,Tryz.func204,by kernel_rfl⟩
theorem jU:Has Tryz.prog 128 (dX):=⟨_,Tryz.func128,by kernel_rfl⟩
theorem nL:Hn 132:=hN
theorem nM:Has Tryz.prog 178 (ig):=⟨_,Tryz.func178,by kernel_rfl⟩
theorem mq:Has Tryz.prog 177 (gl):=⟨_,Tryz.func177,by kernel_rfl⟩
theorem oo:Has Tryz.prog 222 (iy 128):=⟨_,Tryz.func222,by kernel_rfl⟩
theorem jx:Has Tryz.prog 183 (df 128):=⟨_,Tryz.func183,by kernel_rfl⟩
theorem gm:Has Tryz.prog 127 (cJ 128):=⟨_,Tryz.func127,by kernel_rfl⟩
theorem qp:Has Tryz.prog 179 (jn 128):=⟨_,Tryz.func179,by kernel_rfl⟩
theorem jh:Has Tryz.prog 180 (dJ):=⟨_,Tryz.func180,by kernel_rfl⟩
theorem oq:Has Tryz.prog 184 (iz 128):=⟨_,Tryz.func184,by kernel_rfl⟩
theorem nN:Has Tryz.prog 182 (fh 127 128 177 183):=⟨_,Tryz.func182,by kernel_rfl⟩
theorem mK:Has Tryz.prog 129 (gO 177 178 132 179 180 181 128 182 183 184):=⟨_,Tryz.func129,by kernel_rfl⟩
theorem pH:Has Tryz.prog 61 (iP 128 129 126):=⟨_,Tryz.func61,by kernel_rfl⟩
theorem nO:Hn 71:=hN
theorem ot:Hn 39:=hN
theorem sL:Has Tryz.prog 209 (FB 244):=⟨_,Tryz.func209,by kernel_rfl⟩
theorem AU:Hn 242:=hN
theorem jD:Has Tryz.prog 267 (ld 198):=⟨_,Tryz.func267,by kernel_rfl⟩
theorem uV:Has Tryz.prog 258 (lI 235 264 267):=⟨_,Tryz.func258,by kernel_rfl⟩
theorem bL:Has Tryz.prog 231 (cA):=⟨_,Tryz.func231,by kernel_rfl⟩
theorem tj:Has Tryz.prog 154 (kS 193):=⟨_,Tryz.func154,by kernel_rfl⟩
theorem kh:Hn 172:=hN
theorem dO:Hn 171:=hN
theorem pI:Has Tryz.prog 169 (qN 217 218 169 24 219 212 171 101):=⟨_,Tryz.func169,by kernel_rfl⟩
theorem mL:Has Tryz.prog 70 (gQ):=⟨_,Tryz.func70,by kernel_rfl⟩
theorem ou:Has Tryz.prog 134 (iA 188 67):=⟨_,Tryz.func134,by kernel_rfl⟩
theorem ji:Has Tryz.prog 27 (eN 69):=⟨_,Tryz.func27,by kernel_rfl⟩
theorem mM:Has Tryz.prog 28 (gR 70):=⟨_,Tryz.func28,by kernel_rfl⟩
theorem ov:Has Tryz.prog 6 (iC 27 28):=⟨_,Tryz.func6,by kernel_rfl⟩
theorem dy:Has Tryz.prog 163 (dF):=⟨_,Tryz.func163,by kernel_rfl⟩
theorem cu:Has Tryz.prog 9 (bV):=⟨_,Tryz.func9,by kernel_rfl⟩
theorem mZ:Hn 33:=hN
theorem qT:Hn 64:=hN
theorem qU:Has Tryz.prog 240 (C8 231):=⟨_,Tryz.func240,by kernel_rfl⟩
theorem iQ:Hn 219:=hN
theorem ow:Has Tryz.prog 295 (kG 125 306 128 127 177 126):=⟨_,Tryz.func295,by kernel_rfl⟩
theorem ox:Has Tryz.prog 306 (kH 128 180):=⟨_,Tryz.func306,by kernel_rfl⟩
theorem iR:Hn 230:=hN
theorem fX:Hn 303:=hN
theorem r7:Has Tryz.prog 313 (iF):=⟨_,Tryz.func313,by kernel_rfl⟩
theorem mr:Has Tryz.prog 181 (eu):=⟨_,Tryz.func181,by kernel_rfl⟩
end Go.Proofs.YtndoagbiakehnaaGreat
end

section
set_option linter.unusedVariables false
namespace Go.VL
def cy (c:UInt8):Bool:=(decide ((97:Int)<=c.toNat)&&decide ((c.toNat:Int)<=122))||(decide ((65:Int)<=c.toNat)&&decide ((c.toNat:Int)<=90))
def gS (c:UInt8):Bool:=decide ((48:Int)<=c.toNat)&&decide ((c.toNat:Int)<=57)
def cD (c:UInt8):Bool:=cy c||gS c||decide ((c.toNat:Int)=95)
def eH (c:UInt8):AV := .int .u8 c.toNat
theorem dA (c:UInt8):af (eH c):=af.int _ _
section
variable {P:Program} {G:Nat->Option (List AV)}
theorem FC {f:FuncId} (h:Has P f kP) (c:UInt8):VP P G f [eH c] (.bool (cy c)):=by
 refine VP.has h ?_
 unfold cy
 by_cases h1:(97:Int)<=c.toNat<;>by_cases h2:(c.toNat:Int)<=122<;>by_cases h3:(65:Int)<=c.toNat<;>by_cases h4:(c.toNat:Int)<=90 <;>
   (simp only [kP,eH,SS,Nat.reduceAdd,h1,h2,h3,h4,decide_true,decide_false,Bool.and_self,Bool.and_true,Bool.and_false,Bool.or_false,Bool.or_true,Bool.or_self]
    exact ao▸aj rfl (af.bool _))
theorem HN {f:FuncId} (h:Has P f lC) (c:UInt8):VP P G f [eH c] (.bool (gS c)):=by
 refine VP.has h ?_
 unfold gS
 by_cases h1:(48:Int)<=c.toNat<;>by_cases h2:(c.toNat:Int)<=57 <;>
   (simp only [lC,eH,SS,Nat.reduceAdd,h1,h2,decide_true,decide_false,Bool.and_self,Bool.and_true,Bool.and_false]
    exact ao▸aj rfl (af.bool _))
theorem aaG {f fl fd:FuncId} (h:Has P f (qI fl fd)) (hl:∀ c,VP P G fl [eH c] (.bool (cy c))) (hd:∀ c,VP P G fd [eH c] (.bool (gS c))) (c:UInt8) :
   VP P G f [eH c] (.bool (cD c)):=by
 refine VP.has h ?_
 simp only [qI,SS,Nat.reduceAdd]
 refine aq (hl c) (by simp [dA]) ?_
 unfold cD
 cases h1:cy c
 . simp only [SS,Nat.reduceAdd]
   refine aq (hd c) (by simp [dA]) ?_
   cases h2:gS c
   . by_cases h3:(c.toNat:Int)=95 <;>
     (simp only [SS,Nat.reduceAdd,eH,h3,decide_true,decide_false,Bool.or_true,Bool.or_self]
      exact ao▸aj rfl (af.bool _))
   . simp only [SS,Nat.reduceAdd,Bool.or_true,Bool.true_or]
     exact ao▸aj rfl (af.bool _)
 . simp only [SS,Nat.reduceAdd,Bool.true_or]
   exact ao▸aj rfl (af.bool _)
def dZ (p:UInt8->Bool) (s:List UInt8):Nat:=(s.takeWhile p).length
theorem zy (p:UInt8->Bool):∀ s:List UInt8,dZ p s<=s.length
 | []=>Nat.le_refl _
 | c::s=>by unfold dZ;simp only [List.takeWhile_cons];split<;>simp;exact zy p s
theorem zz (p:UInt8->Bool):∀ (s:List UInt8) (k:Nat),k<dZ p s->∃ c,s[k]? = some c/\p c=true
 | [],k,h=>by simp [dZ] at h
 | c :: s,k,h=>by
   unfold dZ at h;simp only [List.takeWhile_cons] at h
   split at h
   . rename_i hc
     cases k with
     | zero=>exact ⟨c,rfl,hc⟩
     | succ k=>simpa using zz p s k (by simpa [dZ] using h)
   . simp at h
theorem tk (p:UInt8->Bool):∀ (s:List UInt8),s[dZ p s]? = none∨∃ c,s[dZ p s]? = some c/\p c=false
 | [] => .inl rfl
 | c::s=>by
   unfold dZ;simp only [List.takeWhile_cons]
   split
   . simpa [dZ] using tk p s
   . rename_i hc;exact .inr ⟨c,rfl,by simpa using hc⟩
theorem fR {s:List UInt8} {k:Nat} {c:UInt8} (h:s[k]? = some c):(if (0:Int)<=(k:Int) then bd ((s[(k:Int).toNat]?).map fun b=>AV.int .u8 b.toNat) else none)=bd (some (eH c)):=by
 rw [if_pos (by omega),Int.toNat_natCast,h];rfl
theorem aF (k:Nat) (h:k<9223372036854775807):IntKind.i64.wrap ((k:Int)+1)=((k+1:Nat):Int):=by rw [IntKind.wrap_i64];omega
theorem S7 {f fw:FuncId} (h:Has P f pA) {p:UInt8->Bool} (hw:∀ c,VP P G fw [eH c] (.bool (p c))) (s:List UInt8) (hs:s.length<9223372036854775807) :
   VP P G f [.str s, .fn (.func fw) [] []] (.int .i64 (dZ p s)):=by
 refine VP.has h ?_
 simp only [pA,SS,Nat.reduceAdd,bf]
 refine VW.dV (α := Nat × Nat) (fun x=>⟨[.str s, .fn (.func fw) [] [], .top, .top, .top, .int .i64 x.1]++List.replicate 14 .top,fun _=>none,x.2⟩) (fun x=>x.1<=dZ p s) (fun x=>dZ p s-x.1) (0,2) ?_ (Nat.zero_le _) ?_
 . exact Wk.slots (by simp [Fg,List.replicate]) (Nat.le_refl _)
 rintro ⟨k,n⟩ hk
 simp only [] at hk
 have O3:=zy p s
 simp only [SS,Nat.reduceAdd]
 by_cases hlt:k<dZ p s
 . obtain ⟨c,hc,S8⟩:=zz p s k hlt
   have h1:(k:Int)<(s.length:Int):=by omega
   simp only [SS,Nat.reduceAdd,h1,decide_true,fR hc]
   refine aq (hw c) (by simp [dA]) ?_
   rw [S8]
   simp only [SS,Nat.reduceAdd,aF k (by omega)]
   exact ⟨(k+1,_),by simp only [];omega,by simp only [];omega,Wk.slots (by simp [Fg]) (Nat.le_refl _)⟩
 . have Sr:k=dZ p s:=by omega
   rcases tk p s with h0 | ⟨c,hc,S8⟩
   . have h1 : ¬ (k:Int)<(s.length:Int):=by have:=List.getElem?_eq_none_iff.1 h0;omega
     simp only [SS,Nat.reduceAdd,h1,decide_false]
     rw [Sr]
     exact ao▸aj rfl (af.int _ _)
   . have h1:(k:Int)<(s.length:Int):=by have:=(List.getElem?_eq_some_iff.1 hc).1;omega
     rw [<- Sr] at hc
     simp only [SS,Nat.reduceAdd,h1,decide_true,fR hc]
     refine aq (hw c) (by simp [dA]) ?_
     rw [S8]
     simp only [SS,Nat.reduceAdd]
     rw [Sr]
     exact ao▸aj rfl (af.int _ _)
def dB (s:List UInt8):Bool:=match s with
 | []=>false
 | c::_=>decide (s.length<=24)&&cy c&&decide (dZ cD s=s.length)
theorem L3 {f fl fs fw:FuncId} (h:Has P f (iM fl fs fw)) (hl:∀ c,VP P G fl [eH c] (.bool (cy c)))
   (hs:∀ s:List UInt8,s.length<9223372036854775807->VP P G fs [.str s, .fn (.func fw) [] []] (.int .i64 (dZ cD s))) (s:List UInt8):VP P G f [.str s] (.bool (dB s)):=by
 refine VP.has h ?_
 cases s with
 | nil =>
   simp only [iM,SS,Nat.reduceAdd]
   exact ao▸aj rfl (af.bool _)
 | cons c s =>
   have e0:(!((c::s)==([]:List UInt8)))=true:=rfl
   by_cases h1:(((s.length+1:Nat)):Int)<=24
   . have e1:(if (0:Int)<=0 then bd (Option.map (fun b=>AV.int IntKind.u8 ↑b.toNat) (c::s)[Int.toNat 0]?) else none)=bd (some (eH c)):=rfl
     simp only [iM,SS,Nat.reduceAdd,e0,h1,decide_true,e1]
     refine aq (hl c) (by simp [dA]) ?_
     cases h2:cy c
     . simp only [SS,Nat.reduceAdd]
       have:dB (c::s)=false:=by unfold dB;simp [h2]
       rw [this]
       exact ao▸aj rfl (af.bool _)
     . simp only [SS,Nat.reduceAdd]
       refine aq (hs (c::s) (by simp only [List.length_cons];omega)) (by simp;exact ⟨af.str _,af.fn (by simp) (by simp)⟩) ?_
       by_cases h3:dZ cD (c::s)=(s.length+1)
       . have h4:(dZ cD (c::s):Int)=((s.length+1:Nat):Int):=by omega
         simp only [SS,Nat.reduceAdd,h4,decide_true]
         have:dB (c::s)=true:=by unfold dB;simp [h2,h3];omega
         rw [this]
         exact ao▸aj rfl (af.bool _)
       . have h4 : ¬ (dZ cD (c::s):Int)=((s.length+1:Nat):Int):=by omega
         simp only [SS,Nat.reduceAdd,h4,decide_false]
         have:dB (c::s)=false:=by unfold dB;simp [h3]
         rw [this]
         exact ao▸aj rfl (af.bool _)
   . simp only [iM,SS,Nat.reduceAdd,e0,h1,decide_false]
     have:dB (c::s)=false:=by unfold dB;simp only [List.length_cons];simp;intro h;omega
     rw [this]
     exact ao▸aj rfl (af.bool _)
end
end Go.VL
end

section
set_option linter.unusedVariables false
namespace Go.VL
theorem eO {k kk:Nat} {es:List AV} {e:AV} {ik:IntKind} {i:Nat} (hk:kk=k) (h:es[i]? = some e):bG k (.sl kk es) (.int ik (i:Int))=some (.ep e.cells 0):=by
 subst hk
 simp [bG,h]
def AW:Option Nat->Int
 | some i=>i
 | none => -1
theorem C9 {α : Type} {p : α -> Bool} {l:List α} (h:∀ (j:Nat) x,l[j]? = some x->p x=false):l.findIdx? p=none:=by
 rw [List.findIdx?_eq_none_iff]
 intro x hx
 obtain ⟨j,hj⟩:=List.getElem?_of_mem hx
 exact h j x hj
theorem uW {α : Type} {p : α -> Bool} {l:List α} {i:Nat} {x : α} (hi:l[i]? = some x) (hx:p x=true) (h:∀ (j:Nat) x,j<i->l[j]? = some x->p x=false):l.findIdx? p=some i:=by
 rw [List.findIdx?_eq_some_iff_getElem]
 obtain ⟨hlt,he⟩:=List.getElem?_eq_some_iff.1 hi
 refine ⟨hlt,by rw [he];exact hx,fun j hji => ?_⟩
 have:=h j _ hji (List.getElem?_eq_getElem (by omega))
 simp [this]
section
variable {P:Program} {G:Nat->Option (List AV)}
end
end Go.VL
end

section
namespace Go.VL
def ak:Nat:=4294967296
theorem Da:1<ak:=by decide
theorem bx:0<ak:=by decide
def val:List Nat->Nat
 | []=>0
 | w::r=>w+ak*val r
def Wd (ws:List Nat):Prop:=∀ w∈ws,w<ak
def digits (n:Nat):List Nat:=if _h:n=0 then [] else n%ak::digits (n/ak)
termination_by n
decreasing_by exact Nat.div_lt_self (Nat.pos_of_ne_zero _h) Da
theorem a9:digits 0=[]:=by rw [digits];simp
theorem gn {n:Nat} (h:n≠0):digits n=n%ak::digits (n/ak):=by rw [digits];simp [h]
theorem aE (n:Nat):val (digits n)=n:=by
 induction n using Nat.strongRecOn with
 | _ n ih =>
   by_cases h:n=0
   . subst h;rw [a9];rfl
   . rw [gn h,val,ih _ (Nat.div_lt_self (Nat.pos_of_ne_zero h) Da)]
     exact Nat.mod_add_div n ak
theorem aH (n:Nat):Wd (digits n):=by
 induction n using Nat.strongRecOn with
 | _ n ih =>
   by_cases h:n=0
   . subst h;rw [a9];intro w hw;simp at hw
   . rw [gn h]
     intro w hw
     rcases List.mem_cons.1 hw with rfl | hw
     . exact Nat.mod_lt _ (by decide)
     . exact ih _ (Nat.div_lt_self (Nat.pos_of_ne_zero h) Da) w hw
theorem jy {n:Nat}:digits n=[]↔n=0:=by
 constructor
 . intro h
   have:=aE n
   rw [h] at this
   exact this.symm
 . rintro rfl;exact a9
theorem bq (a b:List Nat):val (a++b)=val a+ak ^ a.length*val b:=by
 induction a with
 | nil=>simp [val]
 | cons x a ih =>
   simp only [List.cons_append,val,ih,List.length_cons,Nat.pow_succ]
   rw [Nat.mul_add, <- Nat.add_assoc]
   congr 1
   rw [<- Nat.mul_assoc,Nat.mul_comm (ak ^ a.length) ak]
theorem di {ws:List Nat} (h:Wd ws):val ws<ak ^ ws.length:=by
 induction ws with
 | nil=>simp [val]
 | cons w ws ih =>
   have h1:=ih (fun x hx=>h x (List.mem_cons_of_mem _ hx))
   have h2:=h w (by simp)
   simp only [val,List.length_cons,Nat.pow_succ]
   have h3:ak*(val ws+1)<=ak*ak ^ ws.length:=Nat.mul_le_mul_left _ h1
   rw [Nat.mul_comm (ak ^ ws.length) ak]
   rw [Nat.mul_add] at h3
   omega
theorem lY {ws:List Nat} (h:∀ w∈ws,w=0):val ws=0:=by
 induction ws with
 | nil=>rfl
 | cons w ws ih=>simp only [val];rw [ih (fun x hx=>h x (List.mem_cons_of_mem _ hx)),h w (by simp)];rfl
theorem gp {ws:List Nat} (h:Wd ws) (h0:ws=[]∨∃ w,ws.getLast? = some w/\w≠0):digits (val ws)=ws:=by
 induction ws with
 | nil=>simp [val,a9]
 | cons w ws ih =>
   have hw:=h w (by simp)
   have HO:Wd ws:=fun x hx=>h x (List.mem_cons_of_mem _ hx)
   cases ws with
   | nil =>
     rcases h0 with h0 | ⟨x,hx,hne⟩
     . simp at h0
     . simp at hx;subst hx
       simp only [val,Nat.mul_zero,Nat.add_zero]
       rw [gn hne,Nat.mod_eq_of_lt hw,Nat.div_eq_of_lt hw,a9]
   | cons y ws =>
     have hl:∃ x,(y::ws).getLast? = some x/\x≠0:=by
       rcases h0 with h0 | ⟨x,hx,hne⟩
       . simp at h0
       . exact ⟨x,by simpa [List.getLast?_cons_cons] using hx,hne⟩
     have hih:=ih HO (.inr hl)
     have hv:val (y::ws)≠0:=by
       intro e
       have:digits (val (y::ws))=[]:=by rw [e,a9]
       rw [hih] at this;simp at this
     have hne:val (w::y::ws)≠0:=by
       simp only [val] at hv ⊢
       have:0<ak*(y+ak*val ws):=Nat.mul_pos (by decide) (Nat.pos_of_ne_zero hv)
       omega
     rw [gn hne]
     have e1:val (w::y::ws)%ak=w:=by
       show (w+ak*val (y::ws))%ak=w
       rw [Nat.add_mul_mod_self_left];exact Nat.mod_eq_of_lt hw
     have e2:val (w::y::ws)/ak=val (y::ws):=by
       show (w+ak*val (y::ws))/ak=_
       rw [Nat.add_mul_div_left _ _ (by decide),Nat.div_eq_of_lt hw,Nat.zero_add]
     rw [e1,e2,hih]
theorem na {n:Nat}:digits n=[]∨∃ w,(digits n).getLast? = some w/\w≠0:=by
 induction n using Nat.strongRecOn with
 | _ n ih =>
   by_cases h:n=0
   . left;subst h;exact a9
   . right
     rw [gn h]
     rcases ih _ (Nat.div_lt_self (Nat.pos_of_ne_zero h) Da) with h1 | ⟨w,h1,h2⟩
     . have hd:=jy.1 h1
       rw [h1]
       refine ⟨n%ak,rfl, ?_⟩
       rw [Nat.mod_eq_of_lt]
       . exact h
       . rcases Nat.div_eq_zero_iff.1 hd with h3 | h3
         . exact absurd h3 (by decide)
         . exact h3
     . cases hd:digits (n/ak) with
       | nil=>rw [hd] at h1;simp at h1
       | cons x xs=>rw [hd] at h1;exact ⟨w,by simpa [List.getLast?_cons_cons] using h1,h2⟩
theorem gq (ws:List Nat):val (ws++[0])=val ws:=by rw [bq];simp [val]
theorem gD {ws:List Nat} (h:Wd ws) (k:Nat):Wd (ws.take k):=fun w hw=>h w (List.mem_of_mem_take hw)
theorem cz {a b:List Nat} (ha:Wd a) (hb:Wd b):Wd (a++b):=fun w hw=>(List.mem_append.1 hw).elim (ha w) (hb w)
def aa (n:Nat):Nat:=(digits n).length
theorem b7 (n:Nat):n<ak ^ aa n:=by have:=di (aH n);rwa [aE] at this
theorem cK {n k:Nat} (h:n<ak ^ k):aa n<=k:=by
 induction k generalizing n with
 | zero=>simp at h;subst h;simp [aa,a9]
 | succ k ih =>
   by_cases h0:n=0
   . subst h0;simp [aa,a9]
   . unfold aa
     rw [gn h0]
     have:n/ak<ak ^ k:=by rw [Nat.pow_succ] at h;exact Nat.div_lt_of_lt_mul (by rwa [Nat.mul_comm])
     have:=ih this
     simp only [List.length_cons]
     unfold aa at this
     omega
theorem aP {m n:Nat} (h:m<=n):aa m<=aa n:=cK (Nat.lt_of_le_of_lt h (b7 n))
theorem nb {n:Nat} (h:n≠0):ak ^ (aa n-1)<=n:=by
 rcases Nat.lt_or_ge n (ak ^ (aa n-1)) with h1 | h1
 . have:=cK h1
   have h2:0<aa n:=by
     unfold aa
     cases hd:digits n with
     | nil=>exact absurd (jy.1 hd) h
     | cons _ _=>simp
   omega
 . exact h1
theorem ly (m n:Nat):aa (m*n)<=aa m+aa n:=by
 refine cK ?_
 rw [Nat.pow_add]
 exact Nat.mul_lt_mul'' (b7 m) (b7 n)
end Go.VL
end

section
set_option linter.unusedVariables false
namespace Go.VL
def us (ws:List Nat):List AV:=ws.map fun w:Nat => .int .u32 (w:Int)
def W (n:Nat):AV := .sl 1 (us (digits n))
theorem dD (ws:List Nat):(us ws).length=ws.length:=by simp [us]
theorem mw {ws:List Nat} {i w:Nat} (h:ws[i]? = some w):(us ws)[i]? = some (.int .u32 (w:Int)):=by simp [us,h]
theorem Db (ws:List Nat) (k:Nat):(us ws).take k=us (ws.take k):=by simp [us,List.map_take]
theorem wz (a b:List Nat):us (a++b)=us a++us b:=by simp [us]
theorem J4 (ws:List Nat):flat (us ws)=us ws:=by
 induction ws with
 | nil=>rfl
 | cons w ws ih=>simp only [us,List.map_cons,flat,List.flatMap_cons,AV.cells] at ih ⊢;rw [ih];rfl
theorem yd (ws:List Nat):af (.sl 1 (us ws)):=af.sl (by rw [J4];intro c hc;simp only [us,List.mem_map] at hc;obtain ⟨w,_,rfl⟩:=hc;exact af.int _ _)
theorem my (ws:List Nat):∀ c∈flat (us ws),af c:=by rw [J4];intro c hc;simp only [us,List.mem_map] at hc;obtain ⟨w,_,rfl⟩:=hc;exact af.int _ _
theorem pJ (ws:List Nat):∀ e∈us ws,e.size=1:=by intro e he;simp only [us,List.mem_map] at he;obtain ⟨w,_,rfl⟩:=he;rfl
theorem HP (ws:List Nat):((us ws).all fun e=>e.cells.all AV.one)=true:=by rw [List.all_eq_true];intro e he;simp only [us,List.mem_map] at he;obtain ⟨w,_,rfl⟩:=he;rfl
theorem aM (n:Nat):af (W n):=yd _
theorem bg {k:IntKind} {n:Int}:part false (AV.int k n).cells 0 1=some (.int k n):=rfl
theorem nP (k:Nat) (h:0<k) (h2:k<=9223372036854775807):IntKind.i64.wrap ((k:Int)-1)=((k-1:Nat):Int):=by rw [IntKind.wrap_i64];omega
theorem ai {p:Prop} [Decidable p] (h:p):decide p=true:=decide_eq_true h
theorem ag {p:Prop} [Decidable p] (h : ¬ p):decide p=false:=decide_eq_false h
theorem O4 {k kk:Nat} {es:List AV} {h:Nat} (hk:kk=k) (hh:h<=es.length):fC k (.sl kk es) none (some (.int .i64 (h:Int))) none=some (.sl k (es.take h)):=by
 subst hk
 simp [fC,et,iI,hh]
section
variable {P:Program} {G:Nat->Option (List AV)}
theorem J5 {f:FuncId} (h:Has P f eD) {ws:List Nat} (hw:Wd ws) (hl:ws.length<=9223372036854775807):VP P G f [.sl 1 (us ws)] (W (val ws)):=by
 refine VP.has h ?_
 simp only [eD,SS,bf]
 refine VW.dV (α := Nat × Nat) (fun x=>⟨[.sl 1 (us (ws.take x.1))]++List.replicate 20 .top,fun _=>none,x.2⟩) (fun x=>x.1<=ws.length/\val (ws.take x.1)=val ws) (fun x=>x.1) (ws.length,1) ?_ ⟨Nat.le_refl _,by rw [List.take_length]⟩ ?_
 . exact Wk.slots (by simp [Fg,List.replicate]) (Nat.le_refl _)
 rintro ⟨k,n⟩ ⟨hk,hv⟩
 simp only [] at hk hv
 have Xt:(us (ws.take k)).length=k:=by rw [dD,List.length_take];omega
 simp only [SS,Nat.reduceAdd,Xt]
 by_cases h0:k=0
 . subst h0
   have d0:decide ((0:Int)<((0:Nat):Int))=false:=by decide
   simp only [SS,Nat.reduceAdd,d0]
   refine ao▸aj (r:=W (val ws)) ?_ (aM _)
   have:digits (val ws)=[]:=by rw [<- hv];simp [val,a9]
   simp [dU,fU,W,us,this]
 . have lq:0<k:=Nat.pos_of_ne_zero h0
   have d0:decide ((0:Int)<(k:Int))=true:=ai (by omega)
   have p5:=nP k lq (by omega)
   obtain ⟨w,Vo⟩:∃ w,ws[k-1]? = some w:=⟨ws[k-1],by rw [List.getElem?_eq_getElem]⟩
   have ab2:(ws.take k)[k-1]? = some w:=by rw [List.getElem?_take_of_lt (by omega)];exact Vo
   have J6:ws.take k=ws.take (k-1)++[w]:=by
     have:=List.take_add_one (l:=ws) (i:=k-1)
     rw [Vo,show k-1+1=k from by omega] at this
     simpa using this
   have O3:k-1<=(us (ws.take k)).length:=by rw [Xt];omega
   by_cases hz:w=0
   . have d1:decide ((w:Int)=0)=true:=ai (by omega)
     simp only [SS,Nat.reduceAdd,d0,p5,eO rfl (mw ab2),aS,bg,d1,Xt,O4 rfl O3]
     have hm:min (k-1) k=k-1:=Nat.min_eq_left (Nat.sub_le _ _)
     refine ⟨(k-1,_),⟨by simp only [];omega, ?_⟩,by simp only [];omega,Wk.slots (by simp [Fg,Db,List.take_take,hm]) (Nat.le_refl _)⟩
     simp only []
     rw [<- hv,J6,hz,gq]
   . have d1:decide ((w:Int)=0)=false:=ag (by omega)
     simp only [SS,Nat.reduceAdd,d0,p5,eO rfl (mw ab2),aS,bg,d1,Xt]
     refine ao▸aj (r:=W (val ws)) ?_ (aM _)
     have e:digits (val ws)=ws.take k:=by
       rw [<- hv]
       exact gp (gD hw k) (.inr ⟨w,by rw [J6];simp,hz⟩)
     simp [dU,fU,W,e]
end
end Go.VL
end

section
set_option linter.unusedVariables false
namespace Go.VL
def eP (a b:Int):Int:=if a<b then -1 else if b<a then 1 else 0
def de (m n:Nat):Int:=eP m n
def IV (z:Int):AV := .agg [.bool (decide (z<0)),W z.natAbs]
def sgn (neg:Bool) (n:Nat):Int:=if neg then -(n:Int) else n
theorem bU (z:Int):af (IV z):=af.agg (by intro c hc;simp at hc;rcases hc with rfl | rfl;exact af.bool _;exact aM _)
theorem HQ (z:Int):((IV z).cells.all AV.one=true)=True:=by simp [IV,AV.cells,AV.one,W]
theorem J7 (z:Int):part false (IV z).cells 0 1=some (.bool (decide (z<0))):=rfl
theorem xu (z:Int):part false (IV z).cells 1 1=some (W z.natAbs):=rfl
theorem zA (z:Int):part true (IV z).cells 0 2=some (IV z):=rfl
theorem fk {id:Id} {ws:List Nat} {b t:Bool} {n:Nat} (hn:n=ws.length):View (ae.of [(id,⟨us ws,1,b⟩)]) (.osl id 1 0 n t) (.sl 1 (us ws)):=by
 subst hn
 refine View.osl (bk:=⟨us ws,1,b⟩) (by simp [ae.of]) rfl (by rw [dD];omega) ?_ (by rw [dD]) (pJ ws)
 rw [List.drop_zero,List.take_of_length_le (by rw [dD];exact Nat.le_refl _)]
 exact ah.pure (my ws)
theorem ye {a b:List Nat} (ha:Wd a) (_hb:Wd b) (hl:a.length=b.length) {i x y:Nat} (hx:a[i]? = some x) (hy:b[i]? = some y) (hd:a.drop (i+1)=b.drop (i+1)) (hxy:x<y):val a<val b:=by
 have kC:=(List.getElem?_eq_some_iff.1 hx).1
 have XD:=(List.getElem?_eq_some_iff.1 hy).1
 have ea:a=a.take i++x::a.drop (i+1):=by
   have:=List.take_append_drop i a
   rw [List.drop_eq_getElem_cons kC] at this
   obtain ⟨_,h2⟩:=List.getElem?_eq_some_iff.1 hx
   rw [h2] at this;exact this.symm
 have eb:b=b.take i++y::b.drop (i+1):=by
   have:=List.take_append_drop i b
   rw [List.drop_eq_getElem_cons XD] at this
   obtain ⟨_,h2⟩:=List.getElem?_eq_some_iff.1 hy
   rw [h2] at this;exact this.symm
 rw [ea,eb,bq,bq, <- hd]
 have hta:(a.take i).length=i:=by rw [List.length_take];omega
 have XE:(b.take i).length=i:=by rw [List.length_take];omega
 have h1:=di (gD ha i)
 rw [hta] at h1 ⊢
 rw [XE]
 simp only [val]
 have h2:ak ^ i*(x+1)<=ak ^ i*y:=Nat.mul_le_mul_left _ hxy
 rw [Nat.mul_add,Nat.mul_one] at h2
 rw [Nat.mul_add,Nat.mul_add]
 omega
section
variable {P:Program} {G:Nat->Option (List AV)}
theorem HR {f:FuncId} (h:Has P f lH) (a:Int):VP P G f [.int .i64 a] (.bool false):=by
 refine VP.has h ?_
 have e:decide (a≠a)=false:=by simp
 simp only [lH,SS,Nat.reduceAdd,e]
 exact ao▸aj rfl (af.bool _)
theorem HS {f fn:FuncId} (h:Has P f (ke fn)) (hn:∀ a,VP P G fn [.int .i64 a] (.bool false)) (a b:Int):VP P G f [.int .i64 a, .int .i64 b] (.int .i64 (eP a b)):=by
 refine VP.has h ?_
 simp only [ke,SS,Nat.reduceAdd]
 refine aq (hn a) (by simp [af.int]) ?_
 simp only [SS,Nat.reduceAdd]
 refine aq (hn b) (by simp [af.int]) ?_
 unfold eP
 by_cases h1:a<b
 . simp only [SS,Nat.reduceAdd,h1,decide_true]
   exact ao▸aj rfl (af.int _ _)
 . by_cases h2:b<a
   . simp only [SS,Nat.reduceAdd,h1,h2,decide_true,decide_false]
     exact ao▸aj rfl (af.int _ _)
   . simp only [SS,Nat.reduceAdd,h1,h2,decide_false]
     exact ao▸aj rfl (af.int _ _)
theorem AX {f:FuncId} (h:Has P f jI) (a:Int):VP P G f [.int .u32 a] (.bool false):=by
 refine VP.has h ?_
 have e:decide (a≠a)=false:=by simp
 simp only [jI,SS,Nat.reduceAdd,e]
 exact ao▸aj rfl (af.bool _)
theorem AY {f fn:FuncId} (h:Has P f (iO fn)) (hn:∀ a,VP P G fn [.int .u32 a] (.bool false)) (a b:Int):VP P G f [.int .u32 a, .int .u32 b] (.int .i64 (eP a b)):=by
 refine VP.has h ?_
 simp only [iO,SS,Nat.reduceAdd]
 refine aq (hn a) (by simp [af.int]) ?_
 simp only [SS,Nat.reduceAdd]
 refine aq (hn b) (by simp [af.int]) ?_
 unfold eP
 by_cases h1:a<b
 . simp only [SS,Nat.reduceAdd,h1,decide_true]
   exact ao▸aj rfl (af.int _ _)
 . by_cases h2:b<a
   . simp only [SS,Nat.reduceAdd,h1,h2,decide_true,decide_false]
     exact ao▸aj rfl (af.int _ _)
   . simp only [SS,Nat.reduceAdd,h1,h2,decide_false]
     exact ao▸aj rfl (af.int _ _)
def fY (P:Program) (G:Nat->Option (List AV)) (f:FuncId):Prop:=∀ ws:List Nat,Wd ws->ws.length<=9223372036854775807->VP P G f [.sl 1 (us ws)] (W (val ws))
theorem xv {f ft:FuncId} (h:Has P f (ib ft)) (ht:fY P G ft) (n:Nat) (hn:n<18446744073709551616):VP P G f [.int .u64 (n:Int)] (W n):=by
 refine VP.has h ?_
 have e1:IntKind.u32.wrap (n:Int)=((n%ak:Nat):Int):=by rw [IntKind.wrap_u32];unfold ak;omega
 have e2:bo .shr .int (.int .u64 (n:Int)) (.int .u64 32)=some (.int .u64 ((n/ak:Nat):Int)):=by
   rw [mV (by decide)]
   have:(n:Int).fdiv (2 ^ (min (32:Int).toNat IntKind.u64.bits))=((n/ak:Nat):Int):=by
     show (n:Int).fdiv (2 ^ 32)=_
     rw [Int.fdiv_eq_ediv_of_nonneg _ (by decide)];unfold ak;omega
   rw [this]
 have e3:IntKind.u32.wrap ((n/ak:Nat):Int)=((n/ak:Nat):Int):=by rw [IntKind.wrap_u32];unfold ak;omega
 have hb:∀ (σ : ae) (q:Id),bu σ q (.buildSl 1 2 (.int .u32 0) [(0, .int .u32 ((n%ak:Nat):Int)),(1, .int .u32 ((n/ak:Nat):Int))])=some { val := .osl q 1 0 2 false,up:=[(q,some ⟨us [n%ak,n/ak],1,false⟩)] }:=fun σ q=>x8 rfl rfl rfl rfl rfl rfl
 have hw:Wd [n%ak,n/ak]:=by intro w hw;simp at hw;rcases hw with rfl | rfl<;>unfold ak<;>omega
 have hv:val [n%ak,n/ak]=n:=by simp [val,Nat.mod_add_div]
 have rz:=ht [n%ak,n/ak] hw (by simp)
 rw [hv] at rz
 simp only [ib,SS,Nat.reduceAdd,e1,e2,e3,hb]
 refine cB [([6],⟨us [n%ak,n/ak],1,false⟩)] rz (ah.cons (fk rfl) ah.nil) (by simp [ae.put]) ?_
 simp only [SS,Nat.reduceAdd]
 exact ao▸aj rfl (aM _)
end
end Go.VL
end

section
set_option linter.unusedVariables false
namespace Go.VL
theorem rC {a b:Int} (h:a<b):eP a b = -1:=by simp [eP,h]
theorem rD {a b:Int} (h:b<a):eP a b=1:=by simp [eP,h];omega
theorem J8 {a b:Int} (h:a=b):eP a b=0:=by simp [eP,h]
theorem aQ (m:Nat):jY false (W m)=some (.int .i64 (aa m)):=by simp [W,jY,dD,aa]
theorem pK {m n:Nat} (h:aa m<aa n):m<n:=by
 rcases Nat.lt_or_ge m n with h1 | h1
 . exact h1
 . have:=aP h1;omega
theorem cI {m i w:Nat} (h:(digits m)[i]? = some w):bG 1 (W m) (.int .i64 (i:Int))=some (.ep (AV.int .u32 (w:Int)).cells 0):=eO rfl (mw h)
section
variable {P:Program} {G:Nat->Option (List AV)}
theorem HT {f fi fw:FuncId} (h:Has P f (j8 fi fw)) (hi:∀ a b:Int,VP P G fi [.int .i64 a, .int .i64 b] (.int .i64 (eP a b))) (hw:∀ a b:Int,VP P G fw [.int .u32 a, .int .u32 b] (.int .i64 (eP a b)))
   (m n:Nat) (hm:aa m<9223372036854775807) (hn:aa n<9223372036854775807):VP P G f [W m,W n] (.int .i64 (de m n)):=by
 refine VP.has h ?_
 simp only [j8,SS,Nat.reduceAdd,aQ]
 by_cases hl:aa m=aa n
 case neg =>
   have d:decide ((aa m:Int)≠(aa n:Int))=true:=ai (by omega)
   simp only [SS,Nat.reduceAdd,aQ,d]
   refine aq (hi _ _) (by simp [af.int]) ?_
   simp only [SS,Nat.reduceAdd]
   have e:eP (aa m:Int) (aa n:Int)=de m n:=by
     rcases Nat.lt_or_ge (aa m) (aa n) with h1 | h1
     . have h2:=pK h1
       rw [rC (by omega)];unfold de;rw [rC (by omega)]
     . have h1':aa n<aa m:=by omega
       have h2:=pK h1'
       rw [rD (by omega)];unfold de;rw [rD (by omega)]
   rw [e]
   exact ao▸aj rfl (af.int _ _)
 have d:decide ((aa m:Int)≠(aa n:Int))=false:=ag (by omega)
 have ew:IntKind.i64.wrap ((aa m:Int)-1)=(aa m:Int)-1:=by rw [IntKind.wrap_i64];omega
 have hd0:(digits m).drop (aa m)=(digits n).drop (aa m):=by
   have e1:(digits m).drop (aa m)=[]:=List.drop_of_length_le (Nat.le_refl _)
   have e2:(digits n).drop (aa m)=[]:=List.drop_of_length_le (by show aa n<=aa m;omega)
   rw [e1,e2]
 simp only [SS,Nat.reduceAdd,aQ,d,ew,bf]
 refine VW.dV (α := Nat × Nat) (fun x=>⟨[W m,W n, .top, .top, .top, .int .i64 ((x.1:Int)-1)]++List.replicate 35 .top,fun _=>none,x.2⟩) (fun x=>x.1<=aa m/\(digits m).drop x.1=(digits n).drop x.1) (fun x=>x.1) (aa m,10) ?_
   ⟨Nat.le_refl _,hd0⟩ ?_
 . exact Wk.slots (by simp [Fg,List.replicate]) (Nat.le_refl _)
 rintro ⟨j,q⟩ ⟨hj,hd⟩
 simp only [] at hj hd
 simp only [SS,Nat.reduceAdd]
 by_cases h0:j=0
 . subst h0
   have d0:decide ((0:Int)<=((0:Nat):Int)-1)=false:=by decide
   simp only [SS,d0]
   have e:m=n:=by
     simp only [List.drop_zero] at hd
     rw [<- aE m,hd,aE]
   have e2:de m n=0:=J8 (by omega)
   rw [e2]
   exact ao▸aj rfl (af.int _ _)
 . have lq:0<j:=Nat.pos_of_ne_zero h0
   have d0:decide ((0:Int)<=((j-1:Nat):Int))=true:=ai (by omega)
   have ej:(j:Int)-1=((j-1:Nat):Int):=by omega
   have hjm:j-1<(digits m).length:=by show j-1<aa m;omega
   have Ls:j-1<(digits n).length:=by show j-1<aa n;omega
   have ew2:IntKind.i64.wrap (((j-1:Nat):Int)-1)=((j-1:Nat):Int)-1:=by rw [IntKind.wrap_i64];omega
   obtain ⟨x,hx⟩:∃ x,(digits m)[j-1]? = some x:=⟨_,List.getElem?_eq_getElem hjm⟩
   obtain ⟨y,hy⟩:∃ y,(digits n)[j-1]? = some y:=⟨_,List.getElem?_eq_getElem Ls⟩
   have Sj:(digits m).drop (j-1+1)=(digits n).drop (j-1+1):=by rw [show j-1+1=j from by omega];exact hd
   have hap:aB (([]:List dH)) ([]:List (Nat × Nat)):=by simp [aB]
   by_cases hxy:x=y
   . have d1:decide ((x:Int)≠(y:Int))=false:=ag (by omega)
     simp only [SS,DD,Nat.reduceAdd,d0,ej,cI hx,cI hy,aS,bg,d1,ew2]
     refine ⟨by simp [aB],(j-1,_),⟨by simp only [];omega, ?_⟩,by simp only [];omega,Wk.slots (by simp [Fg]) (Nat.le_refl _)⟩
     simp only []
     rw [List.drop_eq_getElem_cons hjm,List.drop_eq_getElem_cons Ls,Sj]
     obtain ⟨_,h1⟩:=List.getElem?_eq_some_iff.1 hx
     obtain ⟨_,h2⟩:=List.getElem?_eq_some_iff.1 hy
     rw [h1,h2,hxy]
   . have d1:decide ((x:Int)≠(y:Int))=true:=ai (by omega)
     have e:eP (x:Int) (y:Int)=de m n:=by
       rcases Nat.lt_or_ge x y with h1 | h1
       . have:=ye (aH m) (aH n) hl hx hy Sj h1
         rw [aE,aE] at this
         rw [rC (by omega)];unfold de;rw [rC (by omega)]
       . have:=ye (aH n) (aH m) hl.symm hy hx Sj.symm (by omega)
         rw [aE,aE] at this
         rw [rD (by omega)];unfold de;rw [rD (by omega)]
     simp only [SS,DD,Nat.reduceAdd,d0,ej,cI hx,cI hy,aS,bg,d1]
     refine ⟨by simp [aB], ?_⟩
     refine aL (hw _ _) (by simp [af.int]) ?_
     simp only [SS,DD,Nat.reduceAdd,e]
     refine ⟨by simp [aB], ?_⟩
     exact ao▸aj rfl (af.int _ _)
end
end Go.VL
end

section
set_option linter.unusedVariables false
namespace Go.VL
theorem uX {o:List Nat} (h:Wd o) (wW:o=[]∨ak ^ (o.length-1)<=val o):digits (val o)=o:=by
 refine gp h ?_
 rcases wW with h0 | wW
 . exact .inl h0
 . by_cases h0:o=[]
   . exact .inl h0
   . right
     refine ⟨o.getLast h0,List.getLast?_eq_some_getLast h0,fun hz => ?_⟩
     have e:=List.dropLast_concat_getLast h0
     rw [hz] at e
     have hv:val o=val o.dropLast:=by rw [<- e,gq,List.dropLast_concat]
     have hlt:=di (ws:=o.dropLast) (fun w hw=>h w ((List.dropLast_sublist _).subset hw))
     rw [List.length_dropLast] at hlt
     omega
theorem aA {a:List Nat} {i x:Nat} (h:a[i]? = some x):val (a.take (i+1))=val (a.take i)+ak ^ i*x:=by
 have hlt:=(List.getElem?_eq_some_iff.1 h).1
 have e:a.take (i+1)=a.take i++[x]:=by rw [List.take_add_one,h];rfl
 rw [e,bq]
 have:(a.take i).length=i:=by rw [List.length_take];omega
 rw [this];simp [val]
theorem gr {a:List Nat} {i:Nat} (h:a.length<=i):val (a.take (i+1))=val (a.take i):=by
 rw [List.take_of_length_le h,List.take_of_length_le (by omega)]
theorem jz {o:List Nat} {i c va vb x y s:Nat} (ho:o.length=i) (hv:val o+ak ^ i*c=va+vb) (hs:s=c+x+y):val (o++[s%ak])+ak ^ (i+1)*(s/ak)=(va+ak ^ i*x)+(vb+ak ^ i*y):=by
 have e2:=Nat.mod_add_div s ak
 rw [bq,ho]
 simp only [val,Nat.mul_zero,Nat.add_zero,Nat.pow_succ]
 rw [Nat.mul_assoc,Nat.add_assoc, <- Nat.mul_add,e2,hs]
 rw [Nat.mul_add,Nat.mul_add]
 omega
theorem lf {o:List Nat} (h:Wd o) (s:Nat):Wd (o++[s%ak]):=cz h (by intro w hw;simp at hw;subst hw;exact Nat.mod_lt _ bx)
theorem o7 (s:Nat):IntKind.u32.wrap (s:Int)=((s%ak:Nat):Int):=by rw [IntKind.wrap_u32];unfold ak;omega
theorem w64 (s:Nat) (h:s<18446744073709551616):IntKind.u64.wrap (s:Int)=(s:Int):=by rw [IntKind.wrap_u64];omega
theorem ki (s:Nat):bo .shr .int (.int .u64 (s:Int)) (.int .u64 32)=some (.int .u64 ((s/ak:Nat):Int)):=by
 rw [mV (by decide)]
 have:(s:Int).fdiv (2 ^ (min (32:Int).toNat IntKind.u64.bits))=((s/ak:Nat):Int):=by
   show (s:Int).fdiv (2 ^ 32)=_
   rw [Int.fdiv_eq_ediv_of_nonneg _ (by decide)];unfold ak;omega
 rw [this]
theorem aW (x:Nat) (h:x<ak):IntKind.u64.wrap (x:Int)=(x:Int):=w64 x (by unfold ak at h;omega)
theorem kj (a b:Nat) (h:a+b<18446744073709551616):IntKind.u64.wrap ((a:Int)+(b:Int))=((a+b:Nat):Int):=by rw [IntKind.wrap_u64];omega
theorem xx {σ : ae} {q:Id} {x:Nat}:bu σ q (.buildSl 1 1 (.int .u32 0) [(0, .int .u32 (x:Int))])=some { val := .osl q 1 0 1 false,up:=[(q,some ⟨us [x],1,false⟩)] }:=x7 rfl rfl rfl rfl
theorem Vp {p:Id} {c:Nat} (h:c*4<=140737488355328):g8 p 1 4 (.int .u32 0) (.int .i64 0) (.int .i64 (c:Int))=some { val := .osl p 1 0 0 false,up:=[(p,some ⟨us [],1,false⟩)] }:=by
 have hm:=fQ (n:=c) (by omega)
 show (if (0:Int)<=0/\(0:Int)<=(c:Int)/\(c:Int)*((4:Nat):Int)<=140737488355328/\(c:Int)<=((maxLen:Nat):Int)/\(AV.int IntKind.u32 0).size=1/\(AV.int IntKind.u32 0).cells.all AV.one=true then _ else none)=_
 rw [if_pos ⟨by omega,by omega,by omega,by omega,rfl,rfl⟩]
 rfl
theorem wA {σ : ae} {p id q:Id} {o:List Nat} {x len:Nat} (hq:q≠id) (hl:len=o.length) (hb:(len+1)*4<=140737488355328) (h : σ id=some ⟨us o,1,false⟩) :
   dR (σ.put q (some ⟨us [x],1,false⟩)) p 1 4 (.osl id 1 0 len false) (.osl q 1 0 1 false)=some { val := .osl p 1 0 (len+1) false,rd:=[id,q],up:=[(id,none),(p,some ⟨us (o++[x]),1,false⟩)] }:=by
 have:=px (σ := σ.put q (some ⟨us [x],1,false⟩)) (p:=p) (id:=id) (k:=1) (bytes:=4) (len:=len) (els:=us o) (x := .osl q 1 0 1 false) (ys:=us [x]) (rd:=[q])
   (qH (bk:=⟨us [x],1,false⟩) (ae.dG _ _ _) rfl (by simp [dD])) (by simp [us]) (by rw [ae.b8 _ _ _ hq.symm];exact h) (by rw [dD];exact hl) (by rw [dD];exact hb) (fQ (by rw [dD];simp;omega)) (HP _) (HP _)
 rw [this,wz]
 simp [dD]
theorem zB {rs:List n5} {s:VS} {id:Id} {n:Nat} {t b:Bool} {o:List Nat} (h1:dU rs s=some (.osl id 1 0 n t)) (h2:s.σ id=some ⟨us o,1,b⟩) (hn:n=o.length):∃ r0,dU rs s=some r0/\View s.σ r0 (.sl 1 (us o)):=by
 subst hn
 refine ⟨_,h1,View.osl (bk:=⟨us o,1,b⟩) h2 rfl (by simp [dD]) ?_ (by rw [dD]) (pJ o)⟩
 rw [List.drop_zero,List.take_of_length_le (by rw [dD];exact Nat.le_refl _)]
 exact ah.pure (my o)
section
variable {P:Program} {G:Nat->Option (List AV)}
theorem S9 {f:FuncId} (h:Has P f mi) (m n:Nat) (hm:aa m<=1000000) (hn:aa n<=1000000):VP P G f [W m,W n] (W (m+n)):=by
 refine VP.has h ?_
 simp only [mi,SS,Nat.reduceAdd,aQ]
 by_cases hs:aa m<aa n
 . have hle:aa m<=aa n:=by omega
   have hlx:aa n<=1000000:=hn
   have hd:decide ((aa m:Int)<(aa n:Int))=true:=by first | exact ai (by omega) | exact ag (by omega)
   have ew:IntKind.i64.wrap ((aa n:Int)+1)=((aa n+1:Nat):Int):=aF _ (by omega)
   have qq:∀ p:Id,g8 p 1 4 (.int .u32 0) (.int .i64 0) (.int .i64 ((aa n+1:Nat):Int))=some { val := .osl p 1 0 0 false,up:=[(p,some ⟨us [],1,false⟩)] }:=fun p=>Vp (by omega)
   simp only [SS,Nat.reduceAdd,aQ,hd,ew,qq,bf]
   refine VW.dV (α := Nat × Nat × Nat × List Nat × Nat) (fun x=>⟨[W n,W m, .top, .top, .top, .osl [x.2.2.1] 1 0 x.1 false, .int .u64 (x.2.2.2.2:Int), .top, .top]++List.replicate 11 .top++[W n, .int .i64 (aa n), .int .i64 x.1]++List.replicate 35 .top,
     ae.put (fun _=>none) [x.2.2.1] (some ⟨us x.2.2.2.1,1,false⟩),x.2.1⟩)
     (fun x=>x.1<=aa n/\x.2.2.1<x.2.1/\x.2.2.2.1.length=x.1/\Wd x.2.2.2.1/\x.2.2.2.2<=1/\val x.2.2.2.1+ak ^ x.1*x.2.2.2.2=val ((digits n).take x.1)+val ((digits m).take x.1)) (fun x=>aa n-x.1) (0,19,13,[],0) ?_ ?_ ?_
   . exact Wk.slots (by simp [Fg,List.replicate]) (Nat.le_refl _)
   . exact ⟨Nat.zero_le _,by decide,rfl,by intro w hw;simp at hw,by decide,by simp [val]⟩
   rintro ⟨i,nn,q,o,c⟩ ⟨hi,hq,ho,hwd,hc,hv⟩
   simp only [] at hi hq ho hwd hc hv
   have nQ:i<aa n->decide ((i:Int)<(aa n:Int))=true:=fun h=>ai (by omega)
   have pw : ¬ i<aa n->decide ((i:Int)<(aa n:Int))=false:=fun h=>ag (by omega)
   have XF:(i+1)*4<=140737488355328:=by omega
   have cL : ¬ i<aa n->i=aa n:=by omega
   have lZ:=aF i (by omega)
   simp only [SS]
   by_cases hlt:i<aa n
   . have gW:i+1<=aa n/\aa n-(i+1)<aa n-i:=by omega
     obtain ⟨a,ha⟩:∃ a,(digits n)[i]? = some a:=⟨_,List.getElem?_eq_getElem hlt⟩
     have mN:=aH n a (List.mem_of_getElem? ha)
     have f1:=aW a mN
     have f2:=kj c a (by unfold ak at mN;omega)
     by_cases hy:i<aa m
     . obtain ⟨b,hb⟩:∃ b,(digits m)[i]? = some b:=⟨_,List.getElem?_eq_getElem hy⟩
       have xy:=aH m b (List.mem_of_getElem? hb)
       have d3:decide ((i:Int)<(aa m:Int))=true:=ai (by omega)
       have f3:=aW b xy
       have f4:=kj (c+a) b (by unfold ak at mN xy;omega)
       have Ta:(c+a+b)/ak<=1:=by unfold ak at mN xy ⊢;omega
       simp only [SS,Nat.reduceAdd,nQ hlt,cI ha,cI hb,aQ,aS,bg,f1,f2,d3,f3,f4,o7,xx]
       rw [wA (o:=o)]
       . simp only [SS,Nat.reduceAdd,ki,lZ]
         refine ⟨(i+1,_,nn+1+5+5+4+8+4,o++[(c+a+b)%ak],(c+a+b)/ak),⟨gW.1, ?_,by simp [ho],lf hwd _,Ta, ?_⟩,gW.2,Wk.forget (by simp [Fg]) (fun j => ?_) (Nat.le_refl _)⟩
         . simp only [];omega
         . show val (o++[(c+a+b)%ak])+ak ^ (i+1)*((c+a+b)/ak)=_
           rw [aA ha,aA hb]
           exact jz ho hv rfl
         . simp only [ae.put];split<;>simp
       . intro e;simp at e;omega
       . exact ho.symm
       . exact XF
       . exact ae.dG _ _ _
     . have d3:decide ((i:Int)<(aa m:Int))=false:=ag (by omega)
       have Ta:(c+a)/ak<=1:=by unfold ak at mN ⊢;omega
       simp only [SS,Nat.reduceAdd,nQ hlt,cI ha,aQ,aS,bg,f1,f2,d3,o7,xx]
       rw [wA (o:=o)]
       . simp only [SS,Nat.reduceAdd,ki,lZ]
         refine ⟨(i+1,_,nn+1+5+5+4+4,o++[(c+a)%ak],(c+a)/ak),⟨gW.1, ?_,by simp [ho],lf hwd _,Ta, ?_⟩,gW.2,Wk.forget (by simp [Fg]) (fun j => ?_) (Nat.le_refl _)⟩
         . simp only [];omega
         . show val (o++[(c+a)%ak])+ak ^ (i+1)*((c+a)/ak)=_
           rw [aA ha,gr (by show aa m<=i;omega)]
           have:=jz (x:=a) (y:=0) (s:=c+a) ho hv (by omega)
           simpa using this
         . simp only [ae.put];split<;>simp
       . intro e;simp at e;omega
       . exact ho.symm
       . exact XF
       . exact ae.dG _ _ _
   . have kJ:=cL hlt
     have pL:val o+ak ^ i*c=m+n:=by
       have e1:(digits n).take (aa n)=digits n:=List.take_of_length_le (Nat.le_refl _)
       have e2:(digits m).take (aa n)=digits m:=List.take_of_length_le hle
       rw [hv,kJ,e1,e2,aE,aE]
       all_goals omega
     by_cases h0:c=0
     . have d4:decide ((0:Int)<(c:Int))=false:=ag (by omega)
       have e:W (m+n) = .sl 1 (us o):=by
         rw [h0] at pL
         simp only [Nat.mul_zero,Nat.add_zero] at pL
         unfold W
         rw [<- pL,uX hwd]
         rcases Nat.eq_zero_or_pos i with h1 | h1
         . left;rw [h1] at ho;exact List.length_eq_zero_iff.1 ho
         . right
           rw [pL,ho,kJ]
           have FD:n≠0:=by rintro e;rw [e] at kJ;simp [aa,a9] at kJ;omega
           have:=nb FD
           omega
       simp only [SS,Nat.reduceAdd,pw hlt,d4]
       rw [e]
       exact ao▸zB (b:=false) rfl (by simp [ae.put]) ho.symm
     . have lJ:c=1:=by omega
       have d4:decide ((0:Int)<(c:Int))=true:=ai (by omega)
       have e1:c%ak=1:=by rw [lJ];rfl
       have e:W (m+n) = .sl 1 (us (o++[1])):=by
         have kL:val (o++[1])=m+n:=by rw [bq,ho, <- pL,lJ];simp [val]
         unfold W
         rw [<- kL,gp (cz hwd (by intro w hw;simp at hw;subst hw;decide)) (.inr ⟨1,by simp,by decide⟩)]
       simp only [SS,Nat.reduceAdd,pw hlt,d4,o7,e1,xx]
       rw [wA (o:=o)]
       . simp only [SS,Nat.reduceAdd]
         rw [e]
         exact ao▸zB (b:=false) rfl (by simp [ae.put]) (by simp [ho])
       . intro e;simp at e;omega
       . exact ho.symm
       . exact XF
       . exact ae.dG _ _ _
 . have hle:aa n<=aa m:=by omega
   have hlx:aa m<=1000000:=hm
   have hd:decide ((aa m:Int)<(aa n:Int))=false:=by first | exact ai (by omega) | exact ag (by omega)
   have ew:IntKind.i64.wrap ((aa m:Int)+1)=((aa m+1:Nat):Int):=aF _ (by omega)
   have qq:∀ p:Id,g8 p 1 4 (.int .u32 0) (.int .i64 0) (.int .i64 ((aa m+1:Nat):Int))=some { val := .osl p 1 0 0 false,up:=[(p,some ⟨us [],1,false⟩)] }:=fun p=>Vp (by omega)
   simp only [SS,Nat.reduceAdd,aQ,hd,ew,qq,bf]
   refine VW.dV (α := Nat × Nat × Nat × List Nat × Nat) (fun x=>⟨[W m,W n, .top, .top, .top, .osl [x.2.2.1] 1 0 x.1 false, .int .u64 (x.2.2.2.2:Int), .top, .top]++List.replicate 11 .top++[W m, .int .i64 (aa m), .int .i64 x.1]++List.replicate 35 .top,
     ae.put (fun _=>none) [x.2.2.1] (some ⟨us x.2.2.2.1,1,false⟩),x.2.1⟩)
     (fun x=>x.1<=aa m/\x.2.2.1<x.2.1/\x.2.2.2.1.length=x.1/\Wd x.2.2.2.1/\x.2.2.2.2<=1/\val x.2.2.2.1+ak ^ x.1*x.2.2.2.2=val ((digits m).take x.1)+val ((digits n).take x.1)) (fun x=>aa m-x.1) (0,15,9,[],0) ?_ ?_ ?_
   . exact Wk.slots (by simp [Fg,List.replicate]) (Nat.le_refl _)
   . exact ⟨Nat.zero_le _,by decide,rfl,by intro w hw;simp at hw,by decide,by simp [val]⟩
   rintro ⟨i,nn,q,o,c⟩ ⟨hi,hq,ho,hwd,hc,hv⟩
   simp only [] at hi hq ho hwd hc hv
   have nQ:i<aa m->decide ((i:Int)<(aa m:Int))=true:=fun h=>ai (by omega)
   have pw : ¬ i<aa m->decide ((i:Int)<(aa m:Int))=false:=fun h=>ag (by omega)
   have XF:(i+1)*4<=140737488355328:=by omega
   have cL : ¬ i<aa m->i=aa m:=by omega
   have lZ:=aF i (by omega)
   simp only [SS]
   by_cases hlt:i<aa m
   . have gW:i+1<=aa m/\aa m-(i+1)<aa m-i:=by omega
     obtain ⟨a,ha⟩:∃ a,(digits m)[i]? = some a:=⟨_,List.getElem?_eq_getElem hlt⟩
     have mN:=aH m a (List.mem_of_getElem? ha)
     have f1:=aW a mN
     have f2:=kj c a (by unfold ak at mN;omega)
     by_cases hy:i<aa n
     . obtain ⟨b,hb⟩:∃ b,(digits n)[i]? = some b:=⟨_,List.getElem?_eq_getElem hy⟩
       have xy:=aH n b (List.mem_of_getElem? hb)
       have d3:decide ((i:Int)<(aa n:Int))=true:=ai (by omega)
       have f3:=aW b xy
       have f4:=kj (c+a) b (by unfold ak at mN xy;omega)
       have Ta:(c+a+b)/ak<=1:=by unfold ak at mN xy ⊢;omega
       simp only [SS,Nat.reduceAdd,nQ hlt,cI ha,cI hb,aQ,aS,bg,f1,f2,d3,f3,f4,o7,xx]
       rw [wA (o:=o)]
       . simp only [SS,Nat.reduceAdd,ki,lZ]
         refine ⟨(i+1,_,nn+1+5+5+4+8+4,o++[(c+a+b)%ak],(c+a+b)/ak),⟨gW.1, ?_,by simp [ho],lf hwd _,Ta, ?_⟩,gW.2,Wk.forget (by simp [Fg]) (fun j => ?_) (Nat.le_refl _)⟩
         . simp only [];omega
         . show val (o++[(c+a+b)%ak])+ak ^ (i+1)*((c+a+b)/ak)=_
           rw [aA ha,aA hb]
           exact jz ho hv rfl
         . simp only [ae.put];split<;>simp
       . intro e;simp at e;omega
       . exact ho.symm
       . exact XF
       . exact ae.dG _ _ _
     . have d3:decide ((i:Int)<(aa n:Int))=false:=ag (by omega)
       have Ta:(c+a)/ak<=1:=by unfold ak at mN ⊢;omega
       simp only [SS,Nat.reduceAdd,nQ hlt,cI ha,aQ,aS,bg,f1,f2,d3,o7,xx]
       rw [wA (o:=o)]
       . simp only [SS,Nat.reduceAdd,ki,lZ]
         refine ⟨(i+1,_,nn+1+5+5+4+4,o++[(c+a)%ak],(c+a)/ak),⟨gW.1, ?_,by simp [ho],lf hwd _,Ta, ?_⟩,gW.2,Wk.forget (by simp [Fg]) (fun j => ?_) (Nat.le_refl _)⟩
         . simp only [];omega
         . show val (o++[(c+a)%ak])+ak ^ (i+1)*((c+a)/ak)=_
           rw [aA ha,gr (by show aa n<=i;omega)]
           have:=jz (x:=a) (y:=0) (s:=c+a) ho hv (by omega)
           simpa using this
         . simp only [ae.put];split<;>simp
       . intro e;simp at e;omega
       . exact ho.symm
       . exact XF
       . exact ae.dG _ _ _
   . have kJ:=cL hlt
     have pL:val o+ak ^ i*c=m+n:=by
       have e1:(digits m).take (aa m)=digits m:=List.take_of_length_le (Nat.le_refl _)
       have e2:(digits n).take (aa m)=digits n:=List.take_of_length_le hle
       rw [hv,kJ,e1,e2,aE,aE]
       all_goals omega
     by_cases h0:c=0
     . have d4:decide ((0:Int)<(c:Int))=false:=ag (by omega)
       have e:W (m+n) = .sl 1 (us o):=by
         rw [h0] at pL
         simp only [Nat.mul_zero,Nat.add_zero] at pL
         unfold W
         rw [<- pL,uX hwd]
         rcases Nat.eq_zero_or_pos i with h1 | h1
         . left;rw [h1] at ho;exact List.length_eq_zero_iff.1 ho
         . right
           rw [pL,ho,kJ]
           have FD:m≠0:=by rintro e;rw [e] at kJ;simp [aa,a9] at kJ;omega
           have:=nb FD
           omega
       simp only [SS,Nat.reduceAdd,pw hlt,d4]
       rw [e]
       exact ao▸zB (b:=false) rfl (by simp [ae.put]) ho.symm
     . have lJ:c=1:=by omega
       have d4:decide ((0:Int)<(c:Int))=true:=ai (by omega)
       have e1:c%ak=1:=by rw [lJ];rfl
       have e:W (m+n) = .sl 1 (us (o++[1])):=by
         have kL:val (o++[1])=m+n:=by rw [bq,ho, <- pL,lJ];simp [val]
         unfold W
         rw [<- kL,gp (cz hwd (by intro w hw;simp at hw;subst hw;decide)) (.inr ⟨1,by simp,by decide⟩)]
       simp only [SS,Nat.reduceAdd,pw hlt,d4,o7,e1,xx]
       rw [wA (o:=o)]
       . simp only [SS,Nat.reduceAdd]
         rw [e]
         exact ao▸zB (b:=false) rfl (by simp [ae.put]) (by simp [ho])
       . intro e;simp at e;omega
       . exact ho.symm
       . exact XF
       . exact ae.dG _ _ _
end
end Go.VL
end

section
set_option linter.unusedVariables false
namespace Go.VL
theorem Dc (c:Nat):List.replicate c (AV.int .u32 0)=us (List.replicate c 0):=by simp [us]
theorem XG (o:List Nat) (i x:Nat):(us o).set i (.int .u32 (x:Int))=us (o.set i x):=by simp [us,List.map_set]
theorem iD {p:Id} {c:Nat} (h:c*4<=140737488355328):g8 p 1 4 (.int .u32 0) (.int .i64 (c:Int)) (.int .i64 (c:Int))=some { val := .osl p 1 0 c false,up:=[(p,some ⟨us (List.replicate c 0),1,false⟩)] }:=by
 have hm:=fQ (n:=c) (by omega)
 show (if (0:Int)<=(c:Int)/\(c:Int)<=(c:Int)/\(c:Int)*((4:Nat):Int)<=140737488355328/\(c:Int)<=((maxLen:Nat):Int)/\(AV.int IntKind.u32 0).size=1/\(AV.int IntKind.u32 0).cells.all AV.one=true then _ else none)=_
 rw [if_pos ⟨by omega,by omega,by omega,by omega,rfl,rfl⟩]
 simp only [Int.toNat_natCast,Dc]
theorem bI {q:Id} {len i:Nat} {t:Bool} (h:i<len):bG 1 (.osl q 1 0 len t) (.int .i64 (i:Int))=some (.ref q i 0):=by
 simp only [bG]
 rw [if_pos ⟨trivial,by omega,by omega⟩]
 simp
theorem bC {σ : ae} {q:Id} {o:List Nat} {i x:Nat} (h : σ q=some ⟨us o,1,false⟩) (hi:i<o.length):j5 σ 1 (.ref q i 0) (.int .u32 (x:Int))=some { val := .tup [],rd:=[q],up:=[(q,some ⟨us (o.set i x),1,false⟩)] }:=by
 obtain ⟨w,hw⟩:∃ w,o[i]? = some w:=⟨_,List.getElem?_eq_getElem hi⟩
 rw [lX (n:=1) (v := .int .u32 (x:Int)) h (mw hw) rfl (by simp [AV.size,AV.cells]) rfl, <- XG]
 rfl
theorem fZ {σ : ae} {q:Id} {o:List Nat} {i x:Nat} {b:Bool} (h : σ q=some ⟨us o,1,b⟩) (hi:o[i]? = some x):jq σ false 1 (.ref q i 0)=some { val := .int .u32 (x:Int),rd:=[q] }:=by
 rw [BV h (mw hi)];rfl
theorem Tb (o:List Nat) (k x:Nat):(o++List.replicate (k+1) 0).set o.length x=(o++[x])++List.replicate k 0:=by
 rw [List.set_append_right _ _ (Nat.le_refl _),Nat.sub_self,List.replicate_succ,List.set_cons_zero]
 simp
theorem rE {o:List Nat} {i x y:Nat} (h:o[i]? = some y):val (o.set i x)+ak ^ i*y=val o+ak ^ i*x:=by
 have hi:=(List.getElem?_eq_some_iff.1 h).1
 have ht:(o.take i).length=i:=by rw [List.length_take];omega
 have e1:o=o.take i++y::o.drop (i+1):=by
   have:=List.take_append_drop i o
   rw [List.drop_eq_getElem_cons hi] at this
   obtain ⟨_,h2⟩:=List.getElem?_eq_some_iff.1 h
   rw [h2] at this;exact this.symm
 have e2:o.set i x=o.take i++x::o.drop (i+1):=by rw [List.set_eq_take_append_cons_drop,if_pos hi]
 rw [e2]
 have e3:val o=val (o.take i++y::o.drop (i+1)):=congrArg val e1
 rw [e3,bq,bq,ht]
 simp only [val,Nat.mul_add]
 omega
theorem tp {o:List Nat} (h:Wd o) {i x:Nat} (hx:x<ak):Wd (o.set i x):=fun w hw=>by
 rcases List.mem_or_eq_of_mem_set hw with h1 | h1
 . exact h w h1
 . rw [h1];exact hx
theorem qV (k:Nat):Wd (List.replicate k 0):=fun w hw=>by rw [List.eq_of_mem_replicate hw];exact bx
theorem J9 (o:List Nat) (k:Nat):val (o++List.replicate k 0)=val o:=by
 rw [bq,lY (fun w hw=>List.eq_of_mem_replicate hw)];omega
theorem FE {x y c:Nat} (hx:x<ak) (hy:y<ak) (hc:c<=1):∃ w c':Nat,w<ak/\c'<=1/\w+y+c=x+ak*c'/\IntKind.u32.wrap (IntKind.u64.wrap (IntKind.u64.wrap ((x:Int)-(c:Int))-(y:Int)))=(w:Int) /\
   bo .shr .int (.int .u64 (IntKind.u64.wrap (IntKind.u64.wrap ((x:Int)-(c:Int))-(y:Int)))) (.int .u64 63)=some (.int .u64 (c':Int)):=by
 have I4:∀ a:Int,bo .shr .int (.int .u64 a) (.int .u64 63)=some (.int .u64 (a/9223372036854775808)):=fun a=>by
   rw [mV (by decide)]
   show some (AV.int .u64 (a.fdiv (2 ^ 63)))=_
   rw [Int.fdiv_eq_ediv_of_nonneg _ (by decide)];rfl
 rw [I4]
 unfold ak at *
 by_cases h:c+y<=x
 . refine ⟨x-c-y,0,by omega,by omega,by omega, ?_, ?_⟩
   . rw [IntKind.wrap_u32,IntKind.wrap_u64,IntKind.wrap_u64];omega
   . rw [IntKind.wrap_u64,IntKind.wrap_u64];congr 2;omega
 . refine ⟨x+4294967296-c-y,1,by omega,by omega,by omega, ?_, ?_⟩
   . rw [IntKind.wrap_u32,IntKind.wrap_u64,IntKind.wrap_u64];omega
   . rw [IntKind.wrap_u64,IntKind.wrap_u64];congr 2;omega
theorem L5 {x c:Nat} (hx:x<ak) (hc:c<=1):∃ w c':Nat,w<ak/\c'<=1/\w+0+c=x+ak*c'/\IntKind.u32.wrap (IntKind.u64.wrap ((x:Int)-(c:Int)))=(w:Int) /\
   bo .shr .int (.int .u64 (IntKind.u64.wrap ((x:Int)-(c:Int)))) (.int .u64 63)=some (.int .u64 (c':Int)):=by
 obtain ⟨w,c',h1,h2,h3,h4,h5⟩:=FE (y:=0) hx bx hc
 have e:IntKind.u64.wrap (IntKind.u64.wrap ((x:Int)-(c:Int))-((0:Nat):Int))=IntKind.u64.wrap ((x:Int)-(c:Int)):=by rw [IntKind.wrap_u64,IntKind.wrap_u64];omega
 rw [e] at h4 h5
 exact ⟨w,c',h1,h2,h3,h4,h5⟩
theorem jV {o:List Nat} {i c va vb x y w c':Nat} (ho:o.length=i) (hv:val o+vb=va+ak ^ i*c-ak ^ i*c+ak ^ i*c) (hw:w+y+c=x+ak*c'):val (o++[w])+(vb+ak ^ i*y)=(va+ak ^ i*x)+ak ^ (i+1)*c':=by
 have h:ak ^ i*w+ak ^ i*y+ak ^ i*c=ak ^ i*x+ak ^ i*(ak*c'):=by rw [<- Nat.mul_add, <- Nat.mul_add, <- Nat.mul_add,hw]
 rw [bq,ho]
 simp only [val,Nat.mul_zero,Nat.add_zero,Nat.pow_succ]
 rw [Nat.mul_assoc]
 omega
section
variable {P:Program} {G:Nat->Option (List AV)}
theorem O5 {f ft:FuncId} (h:Has P f (lD ft)) (ht:fY P G ft) (m n:Nat) (x3:n<=m) (hm:aa m<=1000000):VP P G f [W m,W n] (W (m-n)):=by
 refine VP.has h ?_
 have hle:aa n<=aa m:=aP x3
 have qq:∀ p:Id,g8 p 1 4 (.int .u32 0) (.int .i64 (aa m:Int)) (.int .i64 (aa m:Int))=some { val := .osl p 1 0 (aa m) false,up:=[(p,some ⟨us (List.replicate (aa m) 0),1,false⟩)] }:=fun p=>iD (by omega)
 simp only [lD,SS,Nat.reduceAdd,aQ,qq,bf]
 refine VW.dV (α := Nat × Nat × List Nat × Nat) (fun x=>⟨[W m,W n, .top, .top, .top, .osl [3] 1 0 (aa m) false, .int .u64 (x.2.2.2:Int)]++List.replicate 6 .top++[W m, .int .i64 (aa m), .int .i64 x.1]++List.replicate 29 .top,
   ae.put (fun _=>none) [3] (some ⟨us (x.2.2.1++List.replicate (aa m-x.1) 0),1,false⟩),x.2.1⟩)
   (fun x=>x.1<=aa m/\x.2.2.1.length=x.1/\Wd x.2.2.1/\x.2.2.2<=1/\val x.2.2.1+val ((digits n).take x.1)=val ((digits m).take x.1)+ak ^ x.1*x.2.2.2) (fun x=>aa m-x.1) (0,9,[],0) ?_ ?_ ?_
 . exact Wk.slots (by simp [Fg,List.replicate]) (Nat.le_refl _)
 . exact ⟨Nat.zero_le _,rfl,by intro w hw;simp at hw,by decide,by simp [val]⟩
 rintro ⟨i,nn,o,c⟩ ⟨hi,ho,hwd,hc,hv⟩
 simp only [] at hi ho hwd hc hv
 have nQ:i<aa m->decide ((i:Int)<(aa m:Int))=true:=fun h=>ai (by omega)
 have pw : ¬ i<aa m->decide ((i:Int)<(aa m:Int))=false:=fun h=>ag (by omega)
 have cL : ¬ i<aa m->i=aa m:=by omega
 have lZ:=aF i (by omega)
 have U0:i<aa m->i<(o++List.replicate (aa m-i) 0).length:=fun h=>by rw [List.length_append,List.length_replicate];omega
 have FF:i<aa m->∀ x,(o++List.replicate (aa m-i) 0).set i x=(o++[x])++List.replicate (aa m-(i+1)) 0:=fun h x=>by
   rw [show aa m-i=(aa m-(i+1))+1 from by omega, <- ho];exact Tb _ _ _
 have gW:i<aa m->i+1<=aa m/\aa m-(i+1)<aa m-i:=fun h=>by omega
 have hny : ¬ i<aa n->aa n<=i:=by omega
 have d3t:i<aa n->decide ((i:Int)<(aa n:Int))=true:=fun h=>ai (by omega)
 have d3f : ¬ i<aa n->decide ((i:Int)<(aa n:Int))=false:=fun h=>ag (by omega)
 simp only [SS]
 by_cases hlt:i<aa m
 . obtain ⟨a,ha⟩:∃ a,(digits m)[i]? = some a:=⟨_,List.getElem?_eq_getElem hlt⟩
   have mN:=aH m a (List.mem_of_getElem? ha)
   have f1:=aW a mN
   have kC:=bI (q:=[3]) (t:=false) hlt
   by_cases hy:i<aa n
   . obtain ⟨b,hb⟩:∃ b,(digits n)[i]? = some b:=⟨_,List.getElem?_eq_getElem hy⟩
     have xy:=aH n b (List.mem_of_getElem? hb)
     have f3:=aW b xy
     obtain ⟨w,c',h1,h2,h3,h4,h5⟩:=FE mN xy hc
     have hv':=jV (va:=val ((digits m).take i)) (vb:=val ((digits n).take i)) ho (by rw [hv];omega) h3
     simp only [SS,Nat.reduceAdd,nQ hlt,cI ha,cI hb,aQ,aS,bg,f1,f3,d3t hy,h4,kC]
     rw [bC (o:=o++List.replicate (aa m-i) 0) (by simp [ae.put]) (U0 hlt),FF hlt]
     simp only [SS,Nat.reduceAdd,h5,lZ]
     refine ⟨(i+1,_,o++[w],c'),⟨(gW hlt).1,by simp [ho],cz hwd (by intro z hz;simp at hz;subst hz;exact h1),h2, ?_⟩,(gW hlt).2,Wk.forget (by simp [Fg]) (fun j => ?_) (Nat.le_refl _)⟩
     . show val (o++[w])+val ((digits n).take (i+1))=_
       rw [aA ha,aA hb];exact hv'
     . simp only [ae.put];split<;>simp
   . obtain ⟨w,c',h1,h2,h3,h4,h5⟩:=L5 mN hc
     have hv':=jV (va:=val ((digits m).take i)) (vb:=val ((digits n).take i)) ho (by rw [hv];omega) h3
     simp only [SS,Nat.reduceAdd,nQ hlt,cI ha,aQ,aS,bg,f1,d3f hy,h4,kC]
     rw [bC (o:=o++List.replicate (aa m-i) 0) (by simp [ae.put]) (U0 hlt),FF hlt]
     simp only [SS,Nat.reduceAdd,h5,lZ]
     refine ⟨(i+1,_,o++[w],c'),⟨(gW hlt).1,by simp [ho],cz hwd (by intro z hz;simp at hz;subst hz;exact h1),h2, ?_⟩,(gW hlt).2,Wk.forget (by simp [Fg]) (fun j => ?_) (Nat.le_refl _)⟩
     . show val (o++[w])+val ((digits n).take (i+1))=_
       rw [aA ha,gr (hny hy)]
       simpa using hv'
     . simp only [ae.put];split<;>simp
 . have kJ:=cL hlt
   have e1:(digits m).take (aa m)=digits m:=List.take_of_length_le (Nat.le_refl _)
   have e2:(digits n).take (aa m)=digits n:=List.take_of_length_le hle
   have pL:val o+n=m+ak ^ aa m*c:=by rw [kJ,e1,e2,aE,aE] at hv;exact hv
   have s7:val o=m-n:=by
     have:=di hwd
     rw [ho,kJ] at this
     rcases Nat.le_one_iff_eq_zero_or_eq_one.1 hc with h0 | h0
     . rw [h0] at pL;omega
     . rw [h0] at pL;omega
   have e3:o++List.replicate (aa m-i) 0=o:=by rw [kJ,Nat.sub_self];simp
   have rz:=ht o hwd (by rw [ho];omega)
   rw [s7] at rz
   simp only [SS,Nat.reduceAdd,pw hlt,e3]
   refine cB [([3],⟨us o,1,false⟩)] rz (ah.cons (fk (by rw [ho,kJ])) ah.nil) (by simp [ae.put]) ?_
   simp only [SS,Nat.reduceAdd]
   exact ao▸aj rfl (aM _)
end
end Go.VL
end

section
set_option linter.unusedVariables false
namespace Go.VL
theorem FH (a b:Nat) (ha:a<ak) (hb:b<ak):IntKind.u64.wrap ((a:Int)*(b:Int))=((a*b:Nat):Int):=by
 have:a*b<=4294967295*4294967295:=Nat.mul_le_mul (by unfold ak at ha;omega) (by unfold ak at hb;omega)
 rw [<- Int.natCast_mul,IntKind.wrap_u64];omega
theorem Dd {a b:Nat} (ha:a<ak) (hb:b<ak):a*b<=18446744065119617025:=by
 have:a*b<=4294967295*4294967295:=Nat.mul_le_mul (by unfold ak at ha;omega) (by unfold ak at hb;omega)
 omega
theorem iG (a b:Nat) (h:a+b<=9223372036854775807):IntKind.i64.wrap ((a:Int)+(b:Int))=((a+b:Nat):Int):=by rw [IntKind.wrap_i64];omega
theorem tq {o:List Nat} {k y:Nat} (h:val o<ak ^ k) (hy:o[k]? = some y):y=0:=by
 have:=rE (x:=0) hy
 rcases Nat.eq_zero_or_pos y with h0 | h0
 . exact h0
 . have:ak ^ k*1<=ak ^ k*y:=Nat.mul_le_mul_left _ h0
   omega
theorem wB {o o':List Nat} {i j c x y z s v:Nat} (hz:o'[i+j]? = some z) (hv:val o'+ak ^ (i+j)*c=val o+ak ^ i*(x*v)) (hs:s=c+(x*y+z)) :
   val (o'.set (i+j) (s%ak))+ak ^ (i+(j+1))*(s/ak)=val o+ak ^ i*(x*(v+ak ^ j*y)):=by
 have e1:=rE (x:=s%ak) hz
 have e2:ak ^ (i+j)*(s%ak)+ak ^ (i+j)*(ak*(s/ak))=ak ^ (i+j)*c+ak ^ (i+j)*(x*y)+ak ^ (i+j)*z:=by
   rw [<- Nat.mul_add,Nat.mod_add_div,hs,Nat.mul_add,Nat.mul_add];omega
 have e3:ak ^ (i+(j+1))*(s/ak)=ak ^ (i+j)*(ak*(s/ak)):=by rw [<- Nat.add_assoc,Nat.pow_succ,Nat.mul_assoc]
 have e4:ak ^ i*(x*(v+ak ^ j*y))=ak ^ i*(x*v)+ak ^ (i+j)*(x*y):=by
   rw [Nat.mul_add,Nat.mul_add,Nat.pow_add]
   congr 1
   rw [Nat.mul_assoc,Nat.mul_left_comm x]
 rw [e3,e4]
 omega
theorem bE {n:Nat}:aa n=0↔n=0:=by
 constructor
 . intro h;exact jy.1 (List.length_eq_zero_iff.1 h)
 . intro h;rw [h,aa,a9];rfl
section
variable {P:Program} {G:Nat->Option (List AV)}
theorem O6 {f ft:FuncId} (h:Has P f (lE ft)) (ht:fY P G ft) (m n:Nat) (hm:aa m<=1000000) (hn:aa n<=1000000):VP P G f [W m,W n] (W (m*n)):=by
 refine VP.has h ?_
 have z1:aa m=0->decide ((aa m:Int)=0)=true:=fun h=>ai (by omega)
 have z2 : ¬ aa m=0->decide ((aa m:Int)=0)=false:=fun h=>ag (by omega)
 have z3:aa n=0->decide ((aa n:Int)=0)=true:=fun h=>ai (by omega)
 have z4 : ¬ aa n=0->decide ((aa n:Int)=0)=false:=fun h=>ag (by omega)
 have L6:m*n=0->∀ σ,View σ .nils (W (m*n)):=fun h σ => by rw [h];simp only [W,a9,us];exact View.nils 1
 have qq:∀ p:Id,g8 p 1 4 (.int .u32 0) (.int .i64 ((aa m+aa n:Nat):Int)) (.int .i64 ((aa m+aa n:Nat):Int))=some { val := .osl p 1 0 (aa m+aa n) false,up:=[(p,some ⟨us (List.replicate (aa m+aa n) 0),1,false⟩)] }:=fun p=>iD (by omega)
 have hL:=iG (aa m) (aa n) (by omega)
 simp only [lE,SS,Nat.reduceAdd,aQ]
 by_cases h0:aa m=0
 . simp only [SS,Nat.reduceAdd,z1 h0]
   refine ao▸⟨.nils,rfl,L6 (by rw [bE.1 h0];simp) _⟩
 by_cases h1:aa n=0
 . simp only [SS,Nat.reduceAdd,z2 h0,z3 h1,aQ]
   refine ao▸⟨.nils,rfl,L6 (by rw [bE.1 h1];simp) _⟩
 simp only [SS,Nat.reduceAdd,z2 h0,z4 h1,aQ,hL,qq,bf]
 refine VW.dV (α := Nat × Nat × List Nat) (fun x=>⟨[W m,W n, .top, .top, .top, .osl [14] 1 0 (aa m+aa n) false]++List.replicate 19 .top++[W m, .int .i64 (aa m), .int .i64 x.1]++List.replicate 47 .top,
   ae.put (fun _=>none) [14] (some ⟨us x.2.2,1,false⟩),x.2.1⟩)
   (fun x=>x.1<=aa m/\x.2.2.length=aa m+aa n/\Wd x.2.2/\val x.2.2=val ((digits m).take x.1)*n) (fun x=>aa m-x.1) (0,19,List.replicate (aa m+aa n) 0) ?_ ?_ ?_
 . exact Wk.slots (by simp [Fg,List.replicate]) (Nat.le_refl _)
 . exact ⟨Nat.zero_le _,List.length_replicate ..,qV _,by simp only [];rw [lY (fun w hw=>List.eq_of_mem_replicate hw)];simp [val]⟩
 rintro ⟨i,nn,o⟩ ⟨hi,ho,hwd,hv⟩
 simp only [] at hi ho hwd hv
 have nQ:i<aa m->decide ((i:Int)<(aa m:Int))=true:=fun h=>ai (by omega)
 have pw : ¬ i<aa m->decide ((i:Int)<(aa m:Int))=false:=fun h=>ag (by omega)
 have cL : ¬ i<aa m->i=aa m:=by omega
 have lZ:=aF i (by omega)
 have gW:i<aa m->i+1<=aa m/\aa m-(i+1)<aa m-i:=fun h=>by omega
 have fP:=iG i (aa n) (by omega)
 have HU:i<aa m->i+aa n<aa m+aa n:=fun h=>by omega
 simp only [SS]
 by_cases hlt:i<aa m
 . obtain ⟨a,ha⟩:∃ a,(digits m)[i]? = some a:=⟨_,List.getElem?_eq_getElem hlt⟩
   have mN:=aH m a (List.mem_of_getElem? ha)
   have f1:=aW a mN
   have Nv:o[i+aa n]? = some 0:=by
     obtain ⟨y,hy⟩:∃ y,o[i+aa n]? = some y:=⟨_,List.getElem?_eq_getElem (by rw [ho];exact HU hlt)⟩
     have e:=tq (k:=i+aa n) (by
       rw [hv,Nat.pow_add]
       have h2:val ((digits m).take i)<ak ^ i:=by
         have:=di (gD (aH m) i)
         rwa [List.length_take,Nat.min_eq_left (show i<=(digits m).length from Nat.le_of_lt hlt)] at this
       exact Nat.mul_lt_mul'' h2 (b7 n)) hy
     rw [e] at hy;exact hy
   simp only [SS,Nat.reduceAdd,nQ hlt,cI ha,aQ,aS,bg,bf]
   refine VW.dV (α := Nat × Nat × List Nat × Nat) (fun x=>⟨[W m,W n, .top, .top, .top, .osl [14] 1 0 (aa m+aa n) false, .int .i64 i, .int .u32 a, .int .u64 (x.2.2.2:Int)]++List.replicate 16 .top++[W m, .int .i64 (aa m), .int .i64 i]++List.replicate 4 .top++[W n, .int .i64 (aa n), .int .i64 x.1]++List.replicate 40 .top,
     ae.put (fun _=>none) [14] (some ⟨us x.2.2.1,1,false⟩),x.2.1⟩)
     (fun x=>x.1<=aa n/\x.2.2.1.length=aa m+aa n/\Wd x.2.2.1/\x.2.2.2<ak/\x.2.2.1[i+aa n]? = some 0/\val x.2.2.1+ak ^ (i+x.1)*x.2.2.2=val o+ak ^ i*(a*val ((digits n).take x.1))) (fun x=>aa n-x.1) (0,nn+10,o,0) ?_ ?_ ?_
   . exact Wk.slots (by simp [Fg,List.replicate]) (by simp only [];omega)
   . exact ⟨Nat.zero_le _,ho,hwd,bx,Nv,by simp [val]⟩
   rintro ⟨j,mm,o',c⟩ ⟨hj,AZ,tu,hc,hz,hv'⟩
   simp only [] at hj AZ tu hc hz hv'
   have FI:j<aa n->decide ((j:Int)<(aa n:Int))=true:=fun h=>ai (by omega)
   have FJ : ¬ j<aa n->decide ((j:Int)<(aa n:Int))=false:=fun h=>ag (by omega)
   have Nr : ¬ j<aa n->j=aa n:=by omega
   have Ka:=aF j (by omega)
   have XA:j<aa n->j+1<=aa n/\aa n-(j+1)<aa n-j:=fun h=>by omega
   have LM:=iG i j (by omega)
   have HV:j<aa n->i+j<aa m+aa n:=fun h=>by omega
   have hne:j<aa n->i+j≠i+aa n:=fun h=>by omega
   simp only [SS]
   by_cases tW:j<aa n
   . obtain ⟨b,hb⟩:∃ b,(digits n)[j]? = some b:=⟨_,List.getElem?_eq_getElem tW⟩
     have xy:=aH n b (List.mem_of_getElem? hb)
     have f2:=aW b xy
     obtain ⟨z,O7⟩:∃ z,o'[i+j]? = some z:=⟨_,List.getElem?_eq_getElem (by rw [AZ];exact HV tW)⟩
     have Kb:=tu z (List.mem_of_getElem? O7)
     have f3:=aW z Kb
     have f4:=FH a b mN xy
     have hle:=Dd mN xy
     have f5:=kj (a*b) z (by unfold ak at Kb;omega)
     have f6:=kj c (a*b+z) (by unfold ak at Kb hc;omega)
     have hc':(c+(a*b+z))/ak<ak:=by unfold ak at Kb hc ⊢;omega
     have kC:=bI (q:=[14]) (t:=false) (HV tW)
     have hst:=wB O7 hv' (rfl:c+(a*b+z)=c+(a*b+z))
     simp only [SS,Nat.reduceAdd,FI tW,cI hb,aS,bg,f1,f2,f4,LM,kC]
     rw [fZ (o:=o') (b:=false) (by simp [ae.put]) O7]
     simp only [SS,Nat.reduceAdd,f3,f5,f6,o7,LM,kC]
     rw [bC (o:=o') (by simp [ae.put]) (by rw [AZ];exact HV tW)]
     simp only [SS,Nat.reduceAdd,ki,Ka]
     refine ⟨(j+1,_,o'.set (i+j) ((c+(a*b+z))%ak),(c+(a*b+z))/ak),⟨(XA tW).1,by simp [AZ],tp tu (Nat.mod_lt _ bx),hc', ?_, ?_⟩,(XA tW).2,Wk.forget (by simp [Fg]) (fun j => ?_) (Nat.le_refl _)⟩
     . rw [List.getElem?_set_ne (hne tW)];exact hz
     . show _=val o+ak ^ i*(a*val ((digits n).take (j+1)))
       rw [aA hb];exact hst
     . simp only [ae.put];split<;>simp
   . have XH:=Nr tW
     have kC:=bI (q:=[14]) (t:=false) (HU hlt)
     have f7:IntKind.u32.wrap (c:Int)=(c:Int):=by rw [o7,Nat.mod_eq_of_lt hc]
     have hval:val (o'.set (i+aa n) c)=val ((digits m).take (i+1))*n:=by
       have e:=rE (x:=c) hz
       have e2:(digits n).take (aa n)=digits n:=List.take_of_length_le (Nat.le_refl _)
       rw [XH,e2,aE,hv] at hv'
       rw [aA ha,Nat.add_mul]
       have e3:ak ^ i*a*n=ak ^ i*(a*n):=Nat.mul_assoc _ _ _
       omega
     simp only [SS,Nat.reduceAdd,FJ tW,aQ,fP,f7,kC]
     rw [bC (o:=o') (by simp [ae.put]) (by rw [AZ];exact HU hlt)]
     simp only [SS,Nat.reduceAdd,lZ]
     refine ⟨(i+1,_,o'.set (i+aa n) c),⟨(gW hlt).1,by simp [AZ],tp tu hc,hval⟩,(gW hlt).2,Wk.forget (by simp [Fg]) (fun j => ?_) (Nat.le_refl _)⟩
     simp only [ae.put];split<;>simp
 . have kJ:=cL hlt
   have e1:(digits m).take (aa m)=digits m:=List.take_of_length_le (Nat.le_refl _)
   have s7:val o=m*n:=by rw [hv,kJ,e1,aE]
   have rz:=ht o hwd (by rw [ho];omega)
   rw [s7] at rz
   simp only [SS,Nat.reduceAdd,pw hlt]
   refine cB [([14],⟨us o,1,false⟩)] rz (ah.cons (fk ho.symm) ah.nil) (by simp [ae.put]) ?_
   simp only [SS,Nat.reduceAdd]
   exact ao▸aj rfl (aM _)
end
end Go.VL
end

section
set_option linter.unusedVariables false
namespace Go.VL
theorem HW {k:IntKind} {a b:Int}:bo .or .int (.int k a) (.int k b)=some (.int k (k.wrap (BitVec.ofInt k.bits a ||| BitVec.ofInt k.bits b).toNat)):=by
 simp only [bo];rw [show iH .or .int (.int k a) (.int k b)=some (.int k (k.wrap (BitVec.ofInt k.bits a ||| BitVec.ofInt k.bits b).toNat)) from by simp [iH,n4,bitsOf]]
theorem XI (a b:Nat) (ha:a<18446744073709551616) (hb:b<18446744073709551616):bo .or .int (.int .u64 (a:Int)) (.int .u64 (b:Int))=some (.int .u64 ((a ||| b:Nat):Int)):=by
 have hx:a ||| b<2 ^ 64:=Nat.or_lt_two_pow (by omega) (by omega)
 have h1:(BitVec.ofInt 64 (a:Int)).toNat=a:=by
   rw [BitVec.ofInt_natCast,BitVec.toNat_ofNat];exact Nat.mod_eq_of_lt (by omega)
 have h2:(BitVec.ofInt 64 (b:Int)).toNat=b:=by
   rw [BitVec.ofInt_natCast,BitVec.toNat_ofNat];exact Nat.mod_eq_of_lt (by omega)
 rw [HW]
 show some (AV.int .u64 (IntKind.u64.wrap ((BitVec.ofInt 64 (a:Int) ||| BitVec.ofInt 64 (b:Int)).toNat:Int)))=_
 rw [BitVec.toNat_or,h1,h2,w64 _ (by omega)]
theorem Tc (a b:Nat) (ha:a<ak) (hb:b<ak):bo .or .int (.int .u32 (a:Int)) (.int .u32 (b:Int))=some (.int .u32 ((a ||| b:Nat):Int)):=by
 unfold ak at ha hb
 have hx:a ||| b<2 ^ 32:=Nat.or_lt_two_pow (by omega) (by omega)
 have h1:(BitVec.ofInt 32 (a:Int)).toNat=a:=by
   rw [BitVec.ofInt_natCast,BitVec.toNat_ofNat];exact Nat.mod_eq_of_lt (by omega)
 have h2:(BitVec.ofInt 32 (b:Int)).toNat=b:=by
   rw [BitVec.ofInt_natCast,BitVec.toNat_ofNat];exact Nat.mod_eq_of_lt (by omega)
 rw [HW]
 show some (AV.int .u32 (IntKind.u32.wrap ((BitVec.ofInt 32 (a:Int) ||| BitVec.ofInt 32 (b:Int)).toNat:Int)))=_
 rw [BitVec.toNat_or,h1,h2,o7,Nat.mod_eq_of_lt (by unfold ak;omega)]
theorem BW (a b:Nat) (ha:a<ak) (hb:b<ak):bo .or .int (.int .u64 ((ak*a:Nat):Int)) (.int .u64 (b:Int))=some (.int .u64 ((ak*a+b:Nat):Int)):=by
 rw [XI _ _ (by unfold ak at *;omega) (by unfold ak at *;omega)]
 have:=Nat.two_pow_add_eq_or_of_lt (i:=32) (b:=b) (by unfold ak at hb;omega) a
 rw [show ak=2 ^ 32 from rfl,this]
theorem tv (a:Nat) (ha:a<ak):bo .shl .int (.int .u64 (a:Int)) (.int .u64 32)=some (.int .u64 ((ak*a:Nat):Int)):=by
 rw [C0 (by decide)]
 have:IntKind.u64.wrap ((a:Int)*2 ^ (min (32:Int).toNat IntKind.u64.bits))=((ak*a:Nat):Int):=by
   show IntKind.u64.wrap ((a:Int)*2 ^ 32)=_
   rw [IntKind.wrap_u64];unfold ak at *;omega
 rw [this]
theorem BX (a b:Nat) (ha:a<18446744073709551616) (hb:b≠0):bo .quo .int (.int .u64 (a:Int)) (.int .u64 (b:Int))=some (.int .u64 ((a/b:Nat):Int)):=by
 rw [CZ (by omega)]
 show some (AV.int .u64 (IntKind.u64.wrap ((a/b:Nat):Int)))=_
 rw [w64 _ (Nat.lt_of_le_of_lt (Nat.div_le_self _ _) ha)]
theorem BZ (a b:Nat) (hb:b≠0):bo .rem .int (.int .u64 (a:Int)) (.int .u64 (b:Int))=some (.int .u64 ((a%b:Nat):Int)):=by
 rw [JP (by omega)];rfl
def zs (k:Nat):List Nat:=List.replicate k 0
theorem pM:zs 0=[]:=rfl
theorem qW (q:List Nat) (j x:Nat):(zs (j+1)++q).set j x=zs j++x::q:=by
 unfold zs
 rw [List.replicate_succ',List.append_assoc,List.set_append_right _ _ (by simp)]
 simp
section
variable {P:Program} {G:Nat->Option (List AV)}
theorem A3 {f ft fu:FuncId} (h:Has P f (iN ft fu)) (ht:fY P G ft) (hu:∀ n,n<18446744073709551616->VP P G fu [.int .u64 ((n:Nat):Int)] (W n)) (m w:Nat) (hm:aa m<=1000000) (hw:w<ak) (x6:w≠0) :
   VP P G f [W m, .int .u32 (w:Int)] (.tup [W (m/w),W (m%w)]):=by
 refine VP.has h ?_
 have qq:∀ p:Id,g8 p 1 4 (.int .u32 0) (.int .i64 (aa m:Int)) (.int .i64 (aa m:Int))=some { val := .osl p 1 0 (aa m) false,up:=[(p,some ⟨us (List.replicate (aa m) 0),1,false⟩)] }:=fun p=>iD (by omega)
 have hwL:IntKind.i64.wrap ((aa m:Int)-1)=(aa m:Int)-1:=by rw [IntKind.wrap_i64];omega
 have f0:=aW w hw
 have hwz:((w:Nat):Int)≠0:=by omega
 simp only [iN,SS,Nat.reduceAdd,aQ,qq,hwL,bf]
 refine VW.dV (α := Nat × Nat × List Nat × Nat) (fun x=>⟨[W m, .int .u32 (w:Int), .top, .top, .top, .top, .osl [4] 1 0 (aa m) false, .int .u64 (x.2.2.2:Int), .int .i64 ((x.1:Int)-1)]++List.replicate 34 .top,
   ae.put (fun _=>none) [4] (some ⟨us (zs x.1++x.2.2.1),1,false⟩),x.2.1⟩)
   (fun x=>x.1+x.2.2.1.length=aa m/\Wd x.2.2.1/\x.2.2.2<w/\val ((digits m).drop x.1)=val x.2.2.1*w+x.2.2.2) (fun x=>x.1) (aa m,11,[],0) ?_ ?_ ?_
 . rw [List.append_nil];exact Wk.slots (by simp [Fg,List.replicate]) (Nat.le_refl _)
 . refine ⟨by simp,by intro w hw;simp at hw,Nat.pos_of_ne_zero x6, ?_⟩
   show val ((digits m).drop (aa m))=_
   rw [List.drop_eq_nil_of_le (show (digits m).length<=aa m from Nat.le_refl _)];simp [val]
 rintro ⟨k,nn,q,r⟩ ⟨hk,hwd,hr,hv⟩
 simp only [] at hk hwd hr hv
 by_cases h0:k=0
 . subst h0
   have d0:decide ((0:Int)<=((0:Nat):Int)-1)=false:=by decide
   have e:m/w=val q/\m%w=r:=by
     rw [List.drop_zero,aE] at hv
     refine (Nat.div_mod_unique (Nat.pos_of_ne_zero x6)).2 ⟨?_,hr⟩
     rw [hv,Nat.mul_comm w];omega
   have rz:=ht q hwd (by omega)
   rw [<- e.1] at rz
   have Bl:=hu r (by unfold ak at hw;omega)
   have hq:aa m=q.length:=by omega
   simp only [SS,Nat.reduceAdd,d0,pM]
   refine cB [([4],⟨us q,1,false⟩)] rz (ah.cons (fk hq) ah.nil) (by simp [ae.put]) ?_
   simp only [SS,Nat.reduceAdd]
   refine aq Bl (by simp [af.int]) ?_
   simp only [SS,Nat.reduceAdd]
   rw [e.2]
   exact ao▸aj rfl (af.tup (by intro c hc;simp at hc;rcases hc with rfl | rfl<;>exact aM _))
 . obtain ⟨j,rfl⟩:∃ j,k=j+1:=⟨k-1,by omega⟩
   have d0:decide ((0:Int)<=(j:Int))=true:=ai (by omega)
   have hj:((j+1:Nat):Int)-1=(j:Int):=by omega
   have qu:j<aa m:=by omega
   have Ka:IntKind.i64.wrap ((j:Int)-1)=(j:Int)-1:=by rw [IntKind.wrap_i64];omega
   obtain ⟨a,ha⟩:∃ a,(digits m)[j]? = some a:=⟨_,List.getElem?_eq_getElem qu⟩
   have mN:=aH m a (List.mem_of_getElem? ha)
   have f1:=aW a mN
   have FK:r<ak:=by omega
   have f2:=tv r FK
   have f3:=BW r a FK mN
   have hlt:ak*r+a<18446744073709551616:=by unfold ak at *;omega
   have f4:=BX (ak*r+a) w hlt x6
   have f5:=BZ (ak*r+a) w x6
   have O8:(ak*r+a)/w<ak:=by
     rw [Nat.div_lt_iff_lt_mul (Nat.pos_of_ne_zero x6)]
     have:ak*(r+1)<=ak*w:=Nat.mul_le_mul_left _ hr
     rw [Nat.mul_add] at this
     omega
   have f6:IntKind.u32.wrap (((ak*r+a)/w:Nat):Int)=(((ak*r+a)/w:Nat):Int):=by rw [o7,Nat.mod_eq_of_lt O8]
   have kC:=bI (q:=[4]) (t:=false) qu
   have U0:j<(zs (j+1)++q).length:=by simp [zs];omega
   have hv':val ((digits m).drop j)=val ((ak*r+a)/w::q)*w+(ak*r+a)%w:=by
     rw [List.drop_eq_getElem_cons (show j<(digits m).length from qu)]
     obtain ⟨_,h2⟩:=List.getElem?_eq_some_iff.1 ha
     rw [h2]
     simp only [val]
     rw [hv,Nat.add_mul,Nat.mul_add,Nat.mul_assoc ak]
     have:=Nat.div_add_mod (ak*r+a) w
     rw [Nat.mul_comm] at this
     omega
   have O3:j+((ak*r+a)/w::q).length=aa m:=by simp;omega
   simp only [SS,Nat.reduceAdd,d0,hj,cI ha,aS,bg,f0,f1,f2,f3,f4,f6,kC]
   rw [bC (o:=zs (j+1)++q) (by simp [ae.put]) U0,qW]
   simp only [SS,Nat.reduceAdd,f0,f5,Ka]
   refine ⟨(j,_,(ak*r+a)/w::q,(ak*r+a)%w),⟨O3, ?_,Nat.mod_lt _ (Nat.pos_of_ne_zero x6),hv'⟩,Nat.lt_succ_self j,Wk.forget (by simp [Fg]) (fun j => ?_) (Nat.le_refl _)⟩
   . intro z hz
     rcases List.mem_cons.1 hz with rfl | hz
     . exact O8
     . exact hwd z hz
   . simp only [ae.put];split<;>simp
end
end Go.VL
end

section
set_option linter.unusedVariables false
namespace Go.VL
def pad:Nat->Nat->List Nat
 | 0,_=>[]
 | k+1,n=>n%ak::pad k (n/ak)
theorem cP (k n:Nat):(pad k n).length=k:=by
 induction k generalizing n with
 | zero=>rfl
 | succ k ih=>simp [pad,ih]
theorem iS (k n:Nat):Wd (pad k n):=by
 induction k generalizing n with
 | zero=>intro w hw;simp [pad] at hw
 | succ k ih =>
   intro w hw
   rcases List.mem_cons.1 hw with rfl | hw
   . exact Nat.mod_lt _ bx
   . exact ih _ w hw
theorem ko {o:List Nat} (h:Wd o):pad o.length (val o)=o:=by
 induction o with
 | nil=>rfl
 | cons w o ih =>
   have hw:=h w List.mem_cons_self
   simp only [List.length_cons,pad,val]
   rw [Nat.add_mul_mod_self_left,Nat.mod_eq_of_lt hw,Nat.add_mul_div_left _ _ bx,Nat.div_eq_of_lt hw,Nat.zero_add,ih fun z hz=>h z (List.mem_cons_of_mem _ hz)]
theorem bZ {k n:Nat} (h:n<ak ^ k):val (pad k n)=n:=by
 induction k generalizing n with
 | zero=>simp at h;simp [pad,val,h]
 | succ k ih =>
   simp only [pad,val]
   rw [ih (by rw [Nat.div_lt_iff_lt_mul bx];rwa [Nat.pow_succ] at h),Nat.mod_add_div]
theorem Vq (k:Nat):Wd (zs k):=qV k
theorem ga (k:Nat):zs (k+1)=0::zs k:=rfl
theorem pN (o:List Nat) (c:Nat) (t:List Nat) {i:Nat} (h:o.length=i):(o++c::t)[i]? = some c:=by subst h;simp
theorem dS (o:List Nat) (c:Nat) (t:List Nat) {i:Nat} (x:Nat) (h:o.length=i):(o++c::t).set i x=o++x::t:=by
 subst h;rw [List.set_append_right _ _ (Nat.le_refl _),Nat.sub_self,List.set_cons_zero]
theorem FL (o:List Nat) (c d:Nat) (t:List Nat) {i:Nat} (x:Nat) (h:o.length=i):(o++c::d::t).set (i+1) x=(o++[c])++x::t:=by
 have e:o++c::d::t=(o++[c])++d::t:=by simp
 rw [e];exact dS _ _ _ _ (by simp [h])
theorem oy {s:Nat} (hs:s<=32):2 ^ (32-s)*2 ^ s=ak:=by
 rw [<- Nat.pow_add,Nat.sub_add_cancel hs];rfl
theorem FM {x c s:Nat} (hs:s<=32) (hc:c<2 ^ s) (hx:x<ak):c ||| ((x*2 ^ s)%ak)=c+(x*2 ^ s)%ak/\c+(x*2 ^ s)%ak<ak/\(x*2 ^ s)/ak<2 ^ s:=by
 have hB:=oy hs
 have e:(x*2 ^ s)%ak=2 ^ s*(x%2 ^ (32-s)):=by rw [<- hB,Nat.mul_mod_mul_right,Nat.mul_comm]
 have hlt:x%2 ^ (32-s)<2 ^ (32-s):=Nat.mod_lt _ (Nat.two_pow_pos _)
 have h1:2 ^ s*(x%2 ^ (32-s)+1)<=2 ^ s*2 ^ (32-s):=Nat.mul_le_mul_left _ hlt
 rw [Nat.mul_add,Nat.mul_comm (2 ^ s) (2 ^ (32-s)),hB] at h1
 refine ⟨?_,by rw [e];omega, ?_⟩
 . rw [e,Nat.or_comm, <- Nat.two_pow_add_eq_or_of_lt hc,Nat.add_comm]
 . rw [Nat.div_lt_iff_lt_mul bx,Nat.mul_comm]
   exact Nat.mul_lt_mul_of_pos_left hx (Nat.two_pow_pos _)
theorem O9 (x s:Nat) (hs:s<=32) (hx:x<ak):bo .shl .int (.int .u64 (x:Int)) (.int .i64 (s:Int))=some (.int .u64 ((x*2 ^ s:Nat):Int)):=by
 rw [C0 (by omega)]
 have h1:x*2 ^ s<18446744073709551616:=by
   have h2:2 ^ s<=2 ^ 32:=Nat.pow_le_pow_right (by decide) hs
   have h3:x*2 ^ s<=x*2 ^ 32:=Nat.mul_le_mul_left _ h2
   unfold ak at hx;omega
 have h2:min (s:Int).toNat IntKind.u64.bits=s:=by
   show min (s:Int).toNat 64=s
   rw [Int.toNat_natCast];omega
 have h3:(x:Int)*2 ^ s=((x*2 ^ s:Nat):Int):=by rw [Int.natCast_mul,Int.natCast_pow];rfl
 rw [h2,h3,w64 _ h1]
section
variable {P:Program} {G:Nat->Option (List AV)}
theorem uY {f:FuncId} (h:Has P f gz) (m s:Nat) (hm:aa m<=1000000) (hs:s<=31) (p:Id) :
   aw P G f [W m, .int .i64 (s:Int)] p [] { val := .osl (4::p) 1 0 (aa m+1) false,rd:=[],up:=[(4::p,some ⟨us (pad (aa m+1) (m*2 ^ s)),1,false⟩)] }:=by
 refine aw.has h ?_
 have hL:=aF (aa m) (by omega)
 have qq:∀ p:Id,g8 p 1 4 (.int .u32 0) (.int .i64 ((aa m+1:Nat):Int)) (.int .i64 ((aa m+1:Nat):Int))=some { val := .osl p 1 0 (aa m+1) false,up:=[(p,some ⟨us (List.replicate (aa m+1) 0),1,false⟩)] }:=fun p=>iD (by omega)
 have hz:us (List.replicate (aa m+1) 0)=us (0::zs (aa m)):=rfl
 simp only [gz,SS,Nat.reduceAdd,aQ,hL,qq,bf]
 refine VW.dV (α := Nat × Nat × List Nat × Nat) (fun x=>⟨[W m, .int .i64 (s:Int), .top, .top, .top, .osl (4::p) 1 0 (aa m+1) false]++List.replicate 7 .top++[W m, .int .i64 (aa m), .int .i64 x.1]++List.replicate 25 .top,
   ae.put (ae.of []) (4::p) (some ⟨us (x.2.2.1++x.2.2.2::zs (aa m-x.1)),1,false⟩),x.2.1⟩)
   (fun x=>x.1<=aa m/\x.2.2.1.length=x.1/\Wd x.2.2.1/\x.2.2.2<2 ^ s/\val x.2.2.1+ak ^ x.1*x.2.2.2=val ((digits m).take x.1)*2 ^ s) (fun x=>aa m-x.1) (0,9,[],0) ?_ ?_ ?_
 . exact Wk.slots (by simp [Fg,List.replicate]) (Nat.le_refl _)
 . exact ⟨Nat.zero_le _,rfl,by intro w hw;simp at hw,Nat.two_pow_pos _,by simp [val]⟩
 rintro ⟨i,nn,o,c⟩ ⟨hi,ho,hwd,hc,hv⟩
 simp only [] at hi ho hwd hc hv
 have nQ:i<aa m->decide ((i:Int)<(aa m:Int))=true:=fun h=>ai (by omega)
 have pw : ¬ i<aa m->decide ((i:Int)<(aa m:Int))=false:=fun h=>ag (by omega)
 have cL : ¬ i<aa m->i=aa m:=by omega
 have lZ:=aF i (by omega)
 have gW:i<aa m->i+1<=aa m/\aa m-(i+1)<aa m-i:=fun h=>by omega
 have hcB:c<ak:=by
   have h2:2 ^ s<=2 ^ 32:=Nat.pow_le_pow_right (by decide) (by omega)
   unfold ak;omega
 simp only [SS]
 by_cases hlt:i<aa m
 . obtain ⟨x,hx⟩:∃ x,(digits m)[i]? = some x:=⟨_,List.getElem?_eq_getElem hlt⟩
   have mE:=aH m x (List.mem_of_getElem? hx)
   have f1:=aW x mE
   have f2:=O9 x s (by omega) mE
   obtain ⟨g1,g2,g3⟩:=FM (s:=s) (by omega) hc mE
   have f3:=Tc c (x*2 ^ s%ak) hcB (Nat.mod_lt _ bx)
   rw [g1] at f3
   have g4:x*2 ^ s/ak<ak:=by
     have h2:2 ^ s<=2 ^ 32:=Nat.pow_le_pow_right (by decide) (by omega)
     have:(2:Nat) ^ 32=ak:=rfl
     omega
   have f4:IntKind.u32.wrap ((x*2 ^ s/ak:Nat):Int)=((x*2 ^ s/ak:Nat):Int):=by rw [o7,Nat.mod_eq_of_lt g4]
   have kC:=bI (q:=4::p) (t:=false) (show i<aa m+1 by omega)
   have XJ:=bI (q:=4::p) (t:=false) (show i+1<aa m+1 by omega)
   obtain ⟨k,hk⟩:∃ k,aa m-i=k+1:=⟨aa m-i-1,by omega⟩
   have wU:aa m-(i+1)=k:=by omega
   have mD:i<(o++c::0::zs k).length:=by simp;omega
   have El:i+1<(o++(c+x*2 ^ s%ak)::0::zs k).length:=by simp;omega
   have hv':val (o++[c+x*2 ^ s%ak])+ak ^ (i+1)*(x*2 ^ s/ak)=val ((digits m).take (i+1))*2 ^ s:=by
     rw [aA hx,bq,ho,Nat.add_mul, <- hv]
     simp only [val,Nat.mul_zero,Nat.add_zero,Nat.pow_succ]
     have e2:ak ^ i*(x*2 ^ s%ak)+ak ^ i*(ak*(x*2 ^ s/ak))=ak ^ i*(x*2 ^ s):=by rw [<- Nat.mul_add,Nat.mod_add_div]
     rw [Nat.mul_assoc,Nat.mul_assoc,Nat.mul_add]
     omega
   simp only [SS,Nat.reduceAdd,nQ hlt,cI hx,aS,bg,f1,f2,kC,hk,ga]
   rw [fZ (o:=o++c::0::zs k) (b:=false) (by simp [ae.put]) (pN _ _ _ ho)]
   simp only [SS,Nat.reduceAdd,o7,f3,kC]
   rw [bC (o:=o++c::0::zs k) (by simp [ae.put]) mD,dS _ _ _ _ ho]
   simp only [SS,Nat.reduceAdd,lZ,ki,f4,XJ]
   rw [bC (o:=o++(c+x*2 ^ s%ak)::0::zs k) (by simp [ae.put]) El,FL _ _ _ _ _ ho]
   simp only [SS,Nat.reduceAdd,lZ]
   refine ⟨(i+1,_,o++[c+x*2 ^ s%ak],x*2 ^ s/ak),⟨(gW hlt).1,by simp [ho],cz hwd (by intro z hz;simp at hz;subst hz;exact g2),g3,hv'⟩,(gW hlt).2,Wk.forget (by simp [Fg]) (fun j => ?_) (Nat.le_refl _)⟩
   simp only [ae.put,wU];split<;>simp
 . have kJ:=cL hlt
   have e1:(digits m).take (aa m)=digits m:=List.take_of_length_le (Nat.le_refl _)
   have s7:val (o++[c])=m*2 ^ s:=by
     rw [bq,ho];simp only [val,Nat.mul_zero,Nat.add_zero]
     rw [hv,kJ,e1,aE]
   have hlen:(o++[c]).length=aa m+1:=by simp [ho,kJ]
   have e:pad (aa m+1) (m*2 ^ s)=o++[c]:=by
     rw [<- s7, <- hlen]
     exact ko (cz hwd (by intro z hz;simp at hz;subst hz;exact hcB))
   have e3:zs (aa m-i)=[]:=by rw [kJ,Nat.sub_self];rfl
   simp only [SS,Nat.reduceAdd,pw hlt,e,e3]
   exact jt▸dN rfl fun i => .inr rfl
end
end Go.VL
end

section
set_option linter.unusedVariables false
namespace Go.VL
theorem uZ {x y s:Nat} (hs:s<=32) (hx:x<ak):(x/2 ^ s) ||| ((y*2 ^ (32-s))%ak)=x/2 ^ s+2 ^ (32-s)*(y%2 ^ s)/\x/2 ^ s+2 ^ (32-s)*(y%2 ^ s)<ak/\2 ^ s*(x/2 ^ s+2 ^ (32-s)*(y%2 ^ s))+x%2 ^ s=x+ak*(y%2 ^ s):=by
 have hB:=oy hs
 have e:(y*2 ^ (32-s))%ak=2 ^ (32-s)*(y%2 ^ s):=by rw [<- hB,Nat.mul_comm y,Nat.mul_mod_mul_left]
 have hlt:y%2 ^ s<2 ^ s:=Nat.mod_lt _ (Nat.two_pow_pos _)
 have hd:x/2 ^ s<2 ^ (32-s):=by rw [Nat.div_lt_iff_lt_mul (Nat.two_pow_pos _),hB];exact hx
 have h1:2 ^ (32-s)*(y%2 ^ s+1)<=2 ^ (32-s)*2 ^ s:=Nat.mul_le_mul_left _ hlt
 rw [Nat.mul_add,hB] at h1
 refine ⟨?_,by omega, ?_⟩
 . rw [e,Nat.or_comm, <- Nat.two_pow_add_eq_or_of_lt hd,Nat.add_comm]
 . have h2:=Nat.div_add_mod x (2 ^ s)
   have h3:2 ^ s*(2 ^ (32-s)*(y%2 ^ s))=ak*(y%2 ^ s):=by rw [<- Nat.mul_assoc,Nat.mul_comm (2 ^ s),hB]
   rw [Nat.mul_add,h3];omega
theorem XK (x s:Nat) (hs:s<=32):bo .shr .int (.int .u32 (x:Int)) (.int .i64 (s:Int))=some (.int .u32 ((x/2 ^ s:Nat):Int)):=by
 rw [mV (by omega)]
 have h2:min (s:Int).toNat IntKind.u32.bits=s:=by
   show min (s:Int).toNat 32=s
   rw [Int.toNat_natCast];omega
 have h3:(x:Int).fdiv (2 ^ s)=((x/2 ^ s:Nat):Int):=by
   have h4:(2:Int) ^ s=((2 ^ s:Nat):Int):=by rw [Int.natCast_pow];rfl
   rw [h4,Int.fdiv_eq_ediv_of_nonneg _ (Int.natCast_nonneg _)]
   exact (Int.natCast_ediv _ _).symm
 rw [h2,h3]
theorem qX (m:Nat):((digits m)[0]?).getD 0=m%ak:=by
 by_cases h:m=0
 . rw [h,a9];rfl
 . rw [gn h];rfl
section
variable {P:Program} {G:Nat->Option (List AV)}
theorem sM {f:FuncId} (h:Has P f eE) (m s:Nat) (hm:aa m<=1000000) (hs:s<=31) :
   VP P G f [W m, .int .i64 (s:Int)] (.sl 1 (us (pad (aa m) (m/2 ^ s)))):=by
 refine VP.has h ?_
 have qq:∀ p:Id,g8 p 1 4 (.int .u32 0) (.int .i64 (aa m:Int)) (.int .i64 (aa m:Int))=some { val := .osl p 1 0 (aa m) false,up:=[(p,some ⟨us (List.replicate (aa m) 0),1,false⟩)] }:=fun p=>iD (by omega)
 have hz:us (List.replicate (aa m) 0)=us ([]++zs (aa m-0)):=rfl
 have ahJ:IntKind.i64.wrap (32-(s:Int))=((32-s:Nat):Int):=by rw [IntKind.wrap_i64];omega
 have h2s:2 ^ s*2 ^ (32-s)=ak:=by rw [Nat.mul_comm];exact oy (by omega)
 simp only [eE,SS,Nat.reduceAdd,aQ,qq,hz,bf]
 refine VW.dV (α := Nat × Nat × List Nat) (fun x=>⟨[W m, .int .i64 (s:Int), .top, .top, .top, .osl [3] 1 0 (aa m) false]++List.replicate 5 .top++[W m, .int .i64 (aa m), .int .i64 x.1]++List.replicate 33 .top,
   ae.put (fun _=>none) [3] (some ⟨us (x.2.2++zs (aa m-x.1)),1,false⟩),x.2.1⟩)
   (fun x=>x.1<=aa m/\x.2.2.length=x.1/\Wd x.2.2/\2 ^ s*val x.2.2+m%2 ^ s=val ((digits m).take x.1)+ak ^ x.1*(((digits m)[x.1]?).getD 0%2 ^ s)) (fun x=>aa m-x.1) (0,8,[]) ?_ ?_ ?_
 . exact Wk.slots (by simp [Fg,List.replicate]) (Nat.le_refl _)
 . refine ⟨Nat.zero_le _,rfl,by intro w hw;simp at hw, ?_⟩
   show 2 ^ s*val []+m%2 ^ s=val ((digits m).take 0)+ak ^ 0*(((digits m)[0]?).getD 0%2 ^ s)
   rw [qX, <- h2s,Nat.mod_mul_right_mod]
   simp [val]
 rintro ⟨i,nn,o⟩ ⟨hi,ho,hwd,hv⟩
 simp only [] at hi ho hwd hv
 have nQ:i<aa m->decide ((i:Int)<(aa m:Int))=true:=fun h=>ai (by omega)
 have pw : ¬ i<aa m->decide ((i:Int)<(aa m:Int))=false:=fun h=>ag (by omega)
 have FI:i+1<aa m->decide (((i+1:Nat):Int)<(aa m:Int))=true:=fun h=>ai (by omega)
 have FJ : ¬ i+1<aa m->decide (((i+1:Nat):Int)<(aa m:Int))=false:=fun h=>ag (by omega)
 have cL : ¬ i<aa m->i=aa m:=by omega
 have XL:i<aa m -> ¬ i+1<aa m->i+1=aa m:=by omega
 have lZ:=aF i (by omega)
 have gW:i<aa m->i+1<=aa m/\aa m-(i+1)<aa m-i:=fun h=>by omega
 simp only [SS]
 by_cases hlt:i<aa m
 . obtain ⟨x,hx⟩:∃ x,(digits m)[i]? = some x:=⟨_,List.getElem?_eq_getElem hlt⟩
   have mE:=aH m x (List.mem_of_getElem? hx)
   have f2:=XK x s (by omega)
   have kC:=bI (q:=[3]) (t:=false) hlt
   obtain ⟨k,hk⟩:∃ k,aa m-i=k+1:=⟨aa m-i-1,by omega⟩
   have wU:aa m-(i+1)=k:=by omega
   have mD:i<(o++0::zs k).length:=by simp;omega
   have El:i<(o++(x/2 ^ s)::zs k).length:=by simp;omega
   have hstep:∀ y w,w=x/2 ^ s+2 ^ (32-s)*(y%2 ^ s)->2 ^ s*w+x%2 ^ s=x+ak*(y%2 ^ s)->((digits m)[i+1]?).getD 0=y ->
       2 ^ s*val (o++[w])+m%2 ^ s=val ((digits m).take (i+1))+ak ^ (i+1)*(((digits m)[i+1]?).getD 0%2 ^ s):=by
     intro y w _ hw hy
     rw [hx,Option.getD_some] at hv
     rw [aA hx,bq,ho,hy]
     simp only [val,Nat.mul_zero,Nat.add_zero,Nat.pow_succ]
     have e1:ak ^ i*(2 ^ s*w)+ak ^ i*(x%2 ^ s)=ak ^ i*x+ak ^ i*(ak*(y%2 ^ s)):=by rw [<- Nat.mul_add,hw,Nat.mul_add]
     have e2:2 ^ s*(val o+ak ^ i*w)=2 ^ s*val o+ak ^ i*(2 ^ s*w):=by rw [Nat.mul_add,Nat.mul_left_comm]
     rw [e2,Nat.mul_assoc]
     omega
   by_cases hn:i+1<aa m
   . obtain ⟨y,hy⟩:∃ y,(digits m)[i+1]? = some y:=⟨_,List.getElem?_eq_getElem hn⟩
     have wC:=aH m y (List.mem_of_getElem? hy)
     have f1:=aW y wC
     have f3:=O9 y (32-s) (by omega) wC
     obtain ⟨g1,g2,g3⟩:=uZ (y:=y) (s:=s) (by omega) mE
     have f4:=Tc (x/2 ^ s) (y*2 ^ (32-s)%ak) (Nat.lt_of_le_of_lt (Nat.div_le_self _ _) mE) (Nat.mod_lt _ bx)
     rw [g1] at f4
     have hv':=hstep y _ rfl g3 (by rw [hy];rfl)
     simp only [SS,Nat.reduceAdd,nQ hlt,cI hx,aS,bg,f2,kC,hk,ga]
     rw [bC (o:=o++0::zs k) (by simp [ae.put]) mD,dS _ _ _ _ ho]
     simp only [SS,DD,Nat.reduceAdd,lZ,aQ,FI hn,kC]
     rw [fZ (o:=o++(x/2 ^ s)::zs k) (b:=false) (by simp [ae.put]) (pN _ _ _ ho)]
     simp only [SS,DD,Nat.reduceAdd,lZ,cI hy,aS,bg,f1,ahJ,f3,o7,f4,kC]
     rw [bC (o:=o++(x/2 ^ s)::zs k) (by simp [ae.put]) El,dS _ _ _ _ ho]
     simp only [SS,DD,Nat.reduceAdd,lZ]
     refine ⟨by simp [aB], ?_⟩
     refine ⟨(i+1,_,o++[x/2 ^ s+2 ^ (32-s)*(y%2 ^ s)]),⟨(gW hlt).1,by simp [ho],cz hwd (by intro z hz;simp at hz;subst hz;exact g2),hv'⟩,(gW hlt).2,Wk.forget (by simp [Fg]) (fun j => ?_) (Nat.le_refl _)⟩
     simp only [ae.put,wU];split<;>simp
   . have uq:(digits m)[i+1]? = none:=List.getElem?_eq_none (by have:=XL hlt hn;show aa m<=i+1;omega)
     obtain ⟨g1,g2,g3⟩:=uZ (y:=0) (s:=s) (by omega) mE
     have e0:x/2 ^ s+2 ^ (32-s)*(0%2 ^ s)=x/2 ^ s:=by simp
     rw [e0] at g2 g3
     have hv':=hstep 0 (x/2 ^ s) e0.symm g3 (by rw [uq];rfl)
     simp only [SS,Nat.reduceAdd,nQ hlt,cI hx,aS,bg,f2,kC,hk,ga]
     rw [bC (o:=o++0::zs k) (by simp [ae.put]) mD,dS _ _ _ _ ho]
     simp only [SS,Nat.reduceAdd,lZ,aQ,FJ hn]
     refine ⟨(i+1,_,o++[x/2 ^ s]),⟨(gW hlt).1,by simp [ho],cz hwd (by intro z hz;simp at hz;subst hz;exact g2),hv'⟩,(gW hlt).2,Wk.forget (by simp [Fg]) (fun j => ?_) (Nat.le_refl _)⟩
     simp only [ae.put,wU];split<;>simp
 . have kJ:=cL hlt
   have e1:(digits m).take (aa m)=digits m:=List.take_of_length_le (Nat.le_refl _)
   have uq:(digits m)[aa m]? = none:=List.getElem?_eq_none (Nat.le_refl _)
   have s7:val o=m/2 ^ s:=by
     rw [kJ,e1,aE,uq] at hv
     have h1:=Nat.div_add_mod m (2 ^ s)
     have h2:2 ^ s*val o=2 ^ s*(m/2 ^ s):=by
       simp at hv;omega
     exact Nat.eq_of_mul_eq_mul_left (Nat.two_pow_pos _) h2
   have hlen:o.length=aa m:=by rw [ho,kJ]
   have e:pad (aa m) (m/2 ^ s)=o:=by rw [<- s7, <- hlen];exact ko hwd
   have e3:zs (aa m-i)=[]:=by rw [kJ,Nat.sub_self];rfl
   simp only [SS,Nat.reduceAdd,pw hlt,e,e3]
   exact ao▸zB (b:=false) rfl (by simp [ae.put]) hlen.symm
end
end Go.VL
end

section
set_option linter.unusedVariables false
namespace Go.VL
theorem yf (k n c:Nat):pad k (n+ak ^ k*c)=pad k n:=by
 induction k generalizing n with
 | zero=>rfl
 | succ k ih =>
   have e:ak ^ (k+1)*c=ak*(ak ^ k*c):=by rw [Nat.pow_succ,Nat.mul_comm (ak ^ k),Nat.mul_assoc]
   simp only [pad]
   rw [e,Nat.add_mul_mod_self_left,Nat.add_mul_div_left _ _ bx,ih]
theorem kT {q:Id} {off len i:Nat} {t:Bool} (h:i<len):bG 1 (.osl q 1 off len t) (.int .i64 (i:Int))=some (.ref q (off+i) 0):=by
 simp only [bG]
 rw [if_pos ⟨trivial,by omega,by omega⟩]
 simp
theorem B0 {x k:Nat} (hx:x<ak) (hk:k<=ak):∃ w c':Nat,w<ak/\c'<=1/\w+k=x+ak*c'/\IntKind.u32.wrap (IntKind.u64.wrap ((x:Int)-(k:Int)))=(w:Int) /\
   bo .shr .int (.int .u64 (IntKind.u64.wrap ((x:Int)-(k:Int)))) (.int .u64 63)=some (.int .u64 (c':Int)):=by
 have I4:∀ a:Int,bo .shr .int (.int .u64 a) (.int .u64 63)=some (.int .u64 (a/9223372036854775808)):=fun a=>by
   rw [mV (by decide)]
   show some (AV.int .u64 (a.fdiv (2 ^ 63)))=_
   rw [Int.fdiv_eq_ediv_of_nonneg _ (by decide)];rfl
 rw [I4]
 unfold ak at *
 by_cases h:k<=x
 . refine ⟨x-k,0,by omega,by omega,by omega, ?_, ?_⟩
   . rw [IntKind.wrap_u32,IntKind.wrap_u64];omega
   . rw [IntKind.wrap_u64];congr 2;omega
 . refine ⟨x+4294967296-k,1,by omega,by omega,by omega, ?_, ?_⟩
   . rw [IntKind.wrap_u32,IntKind.wrap_u64];omega
   . rw [IntKind.wrap_u64];congr 2;omega
theorem u0 {b:List Nat} {k:Nat} (h:b.length=k):val (b.take k)=val b:=by rw [List.take_of_length_le (Nat.le_of_eq h)]
theorem B3 {i j:Id} {b c:cN} {d:Option cN}:(ae.of [(i,b)]).put i d j=(ae.of [(i,c)]).put i d j:=by
 by_cases h:j=i
 . subst h;rw [ae.dG,ae.dG]
 . rw [ae.b8 _ _ _ h,ae.b8 _ _ _ h]
   have:(j==i)=false:=by simpa using h
   simp [ae.of,List.lookup,this]
section
variable {P:Program} {G:Nat->Option (List AV)}
theorem FN {f:FuncId} (h:Has P f ic) {id:Id} {a b t:List Nat} {v q:Nat} {tight:Bool} (hv:aa v<=1000000) (hb:b.length=aa v+1) (Nw:Wd b) (hq:q<ak) (p:Id) :
   aw P G f [.osl id 1 a.length (aa v+1) tight,W v, .int .u64 (q:Int)] p [(id,⟨us (a++b++t),1,false⟩)]
     { val := .bool (decide (val b<q*v)),rd:=[id],up:=[(id,some ⟨us (a++pad (aa v+1) (val b+ak ^ (aa v+1)-q*v)++t),1,false⟩)] }:=by
 refine aw.has h ?_
 simp only [ic,SS,Nat.reduceAdd,aQ,bf]
 refine VW.dV (α := Nat × Nat × List Nat × Nat) (fun x=>⟨[.osl id 1 a.length (aa v+1) tight,W v, .int .u64 (q:Int), .top, .top, .top, .top, .int .u64 (x.2.2.2:Int)]++List.replicate 5 .top++[W v, .int .i64 (aa v), .int .i64 x.1]++List.replicate 47 .top,
   ae.of [(id,⟨us ((a++x.2.2.1)++(b.drop x.1++t)),1,false⟩)],x.2.1⟩)
   (fun x=>x.1<=aa v/\x.2.2.1.length=x.1/\Wd x.2.2.1/\x.2.2.2<=ak/\val x.2.2.1+val ((digits v).take x.1)*q=val (b.take x.1)+ak ^ x.1*x.2.2.2) (fun x=>aa v-x.1) (0,5,[],0) ?_ ?_ ?_
 . exact Wk.forget (by simp [Fg,List.replicate]) (fun j=>by simp) (Nat.le_refl _)
 . exact ⟨Nat.zero_le _,rfl,by intro w hw;simp at hw,Nat.zero_le _,by simp [val]⟩
 rintro ⟨i,nn,o,k⟩ ⟨hi,ho,hwd,hk,hv'⟩
 simp only [] at hi ho hwd hk hv'
 have nQ:i<aa v->decide ((i:Int)<(aa v:Int))=true:=fun h=>ai (by omega)
 have pw : ¬ i<aa v->decide ((i:Int)<(aa v:Int))=false:=fun h=>ag (by omega)
 have cL : ¬ i<aa v->i=aa v:=by omega
 have lZ:=aF i (by omega)
 have gW:i<aa v->i+1<=aa v/\aa v-(i+1)<aa v-i:=fun h=>by omega
 have XD:i<b.length:=by omega
 have kC:=kT (q:=id) (off:=a.length) (t:=tight) (show i<aa v+1 by omega)
 obtain ⟨x,hx⟩:∃ x,b[i]? = some x:=⟨_,List.getElem?_eq_getElem XD⟩
 have mE:=Nw x (List.mem_of_getElem? hx)
 have hdr:b.drop i=x::b.drop (i+1):=by
   obtain ⟨_,h2⟩:=List.getElem?_eq_some_iff.1 hx
   rw [List.drop_eq_getElem_cons XD,h2]
 have f1:=aW x mE
 have Pa:(a++o).length=a.length+i:=by rw [List.length_append,ho]
 have mD:a.length+i<((a++o)++x::(b.drop (i+1)++t)).length:=by rw [List.length_append,Pa];simp
 simp only [SS]
 by_cases hlt:i<aa v
 . obtain ⟨y,hy⟩:∃ y,(digits v)[i]? = some y:=⟨_,List.getElem?_eq_getElem hlt⟩
   have wC:=aH v y (List.mem_of_getElem? hy)
   have f2:=aW y wC
   have f3:=FH y q wC hq
   have hle:=Dd wC hq
   have f4:=kj (y*q) k (by unfold ak at hk;omega)
   have f5:IntKind.u64.wrap (((y*q+k)%ak:Nat):Int)=(((y*q+k)%ak:Nat):Int):=aW _ (Nat.mod_lt _ bx)
   obtain ⟨w,c',h1,h2,h3,h4,h5⟩:=B0 (k:=(y*q+k)%ak) mE (Nat.le_of_lt (Nat.mod_lt _ bx))
   have hdq:(y*q+k)/ak+1<=ak:=by unfold ak at hk ⊢;omega
   have f6:=kj ((y*q+k)/ak) c' (by unfold ak at hdq ⊢;omega)
   have hk':(y*q+k)/ak+c'<=ak:=by omega
   have hst:w+y*q+k=x+ak*((y*q+k)/ak+c'):=by
     have:=Nat.mod_add_div (y*q+k) ak
     rw [Nat.mul_add];omega
   have Pb:=jV (va:=val (b.take i)) (vb:=val ((digits v).take i)*q) ho (by rw [hv'];omega) hst
   simp only [SS,Nat.reduceAdd,nQ hlt,cI hy,aS,bg,f2,f3,f4,kC,hdr]
   rw [fZ (o:=(a++o)++x::(b.drop (i+1)++t)) (b:=false) (by simp [ae.of]) (pN _ _ _ Pa)]
   simp only [SS,Nat.reduceAdd,f1,o7,f5,h4,kC]
   rw [bC (o:=(a++o)++x::(b.drop (i+1)++t)) (by simp [ae.of]) mD,dS _ _ _ _ Pa]
   simp only [SS,Nat.reduceAdd,ki,h5,f6,lZ]
   refine ⟨(i+1,_,o++[w],(y*q+k)/ak+c'),⟨(gW hlt).1,by simp [ho],cz hwd (by intro z hz;simp at hz;subst hz;exact h1),hk', ?_⟩,(gW hlt).2,Wk.forget (by simp [Fg]) (fun j => ?_) (Nat.le_refl _)⟩
   . show val (o++[w])+val ((digits v).take (i+1))*q=_
     rw [aA hx,aA hy,Nat.add_mul,Nat.mul_assoc];exact Pb
   . simp only [ae.put,ae.of];split<;>simp_all
 . have kJ:=cL hlt
   subst kJ
   obtain ⟨w,c',h1,h2,h3,h4,h5⟩:=B0 (k:=k) mE hk
   have s6:b.drop (aa v+1)=[]:=List.drop_eq_nil_of_le (by omega)
   have e1:(digits v).take (aa v)=digits v:=List.take_of_length_le (Nat.le_refl _)
   have e2:val (b.take (aa v+1))=val b:=u0 hb
   have Pb:=jV (va:=val (b.take (aa v))) (vb:=val ((digits v).take (aa v))*q) (y:=0) (c:=k) (w:=w) (c':=c') (x:=x) ho (by rw [hv'];omega) (by omega)
   rw [e1,aE, <- aA hx,e2,Nat.mul_zero,Nat.add_zero,Nat.mul_comm v q] at Pb
   have Td:Wd (o++[w]):=cz hwd (by intro z hz;simp at hz;subst hz;exact h1)
   have qg:(o++[w]).length=aa v+1:=by simp [ho]
   have qC:val (o++[w])<ak ^ (aa v+1):=by have:=di Td;rwa [qg] at this
   have e:pad (aa v+1) (val b+ak ^ (aa v+1)-q*v)=o++[w]/\decide ((c':Int)=1)=decide (val b<q*v):=by
     rcases Nat.le_one_iff_eq_zero_or_eq_one.1 h2 with h0 | h0
     . rw [h0] at Pb ⊢
       refine ⟨?_, ?_⟩
       . have:val b+ak ^ (aa v+1)-q*v=val (o++[w])+ak ^ (aa v+1)*1:=by omega
         rw [this,yf, <- qg];exact ko Td
       . rw [ag (show ¬ val b<q*v by omega)];rfl
     . rw [h0] at Pb ⊢
       refine ⟨?_, ?_⟩
       . have:val b+ak ^ (aa v+1)-q*v=val (o++[w]):=by omega
         rw [this, <- qg];exact ko Td
       . rw [ai (show val b<q*v by omega)];rfl
   simp only [SS,Nat.reduceAdd,pw hlt,aQ,kC,hdr]
   rw [fZ (o:=(a++o)++x::(b.drop (aa v+1)++t)) (b:=false) (by simp [ae.of]) (pN _ _ _ Pa)]
   simp only [SS,Nat.reduceAdd,f1,h4,kC,aQ]
   rw [bC (o:=(a++o)++x::(b.drop (aa v+1)++t)) (by simp [ae.of]) mD,dS _ _ _ _ Pa,s6]
   simp only [SS,Nat.reduceAdd,h5,e.2,e.1]
   have e5:a++(o++[w])++t=a++o++w::t:=by simp
   refine jt▸dN rfl fun i => .inr ?_
   simp only [ae.app,e5];exact B3
end
end Go.VL
end

section
set_option linter.unusedVariables false
namespace Go.VL
section
variable {P:Program} {G:Nat->Option (List AV)}
theorem HX {f:FuncId} (h:Has P f iF) {id:Id} {a b t:List Nat} {v:Nat} {tight:Bool} (hv:aa v<=1000000) (hb:b.length=aa v+1) (Nw:Wd b) (p:Id) :
   aw P G f [.osl id 1 a.length (aa v+1) tight,W v] p [(id,⟨us (a++b++t),1,false⟩)]
     { val := .tup [],rd:=[id],up:=[(id,some ⟨us (a++pad (aa v+1) (val b+v)++t),1,false⟩)] }:=by
 refine aw.has h ?_
 simp only [iF,SS,Nat.reduceAdd,aQ,bf]
 refine VW.dV (α := Nat × Nat × List Nat × Nat) (fun x=>⟨[.osl id 1 a.length (aa v+1) tight,W v, .top, .top, .int .u64 (x.2.2.2:Int)]++List.replicate 2 .top++[W v, .int .i64 (aa v), .int .i64 x.1]++List.replicate 31 .top,
   ae.of [(id,⟨us ((a++x.2.2.1)++(b.drop x.1++t)),1,false⟩)],x.2.1⟩)
   (fun x=>x.1<=aa v/\x.2.2.1.length=x.1/\Wd x.2.2.1/\x.2.2.2<=1/\val x.2.2.1+ak ^ x.1*x.2.2.2=val (b.take x.1)+val ((digits v).take x.1)) (fun x=>aa v-x.1) (0,4,[],0) ?_ ?_ ?_
 . exact Wk.forget (by simp [Fg,List.replicate]) (fun j=>by simp) (Nat.le_refl _)
 . exact ⟨Nat.zero_le _,rfl,by intro w hw;simp at hw,Nat.zero_le _,by simp [val]⟩
 rintro ⟨i,nn,o,k⟩ ⟨hi,ho,hwd,hk,hv'⟩
 simp only [] at hi ho hwd hk hv'
 have nQ:i<aa v->decide ((i:Int)<(aa v:Int))=true:=fun h=>ai (by omega)
 have pw : ¬ i<aa v->decide ((i:Int)<(aa v:Int))=false:=fun h=>ag (by omega)
 have cL : ¬ i<aa v->i=aa v:=by omega
 have lZ:=aF i (by omega)
 have gW:i<aa v->i+1<=aa v/\aa v-(i+1)<aa v-i:=fun h=>by omega
 have XD:i<b.length:=by omega
 have kC:=kT (q:=id) (off:=a.length) (t:=tight) (show i<aa v+1 by omega)
 obtain ⟨x,hx⟩:∃ x,b[i]? = some x:=⟨_,List.getElem?_eq_getElem XD⟩
 have mE:=Nw x (List.mem_of_getElem? hx)
 have hdr:b.drop i=x::b.drop (i+1):=by
   obtain ⟨_,h2⟩:=List.getElem?_eq_some_iff.1 hx
   rw [List.drop_eq_getElem_cons XD,h2]
 have f1:=aW x mE
 have Pa:(a++o).length=a.length+i:=by rw [List.length_append,ho]
 have mD:a.length+i<((a++o)++x::(b.drop (i+1)++t)).length:=by rw [List.length_append,Pa];simp
 simp only [SS]
 by_cases hlt:i<aa v
 . obtain ⟨y,hy⟩:∃ y,(digits v)[i]? = some y:=⟨_,List.getElem?_eq_getElem hlt⟩
   have wC:=aH v y (List.mem_of_getElem? hy)
   have f2:=aW y wC
   have f3:=kj x y (by unfold ak at mE wC;omega)
   have f4:=kj k (x+y) (by unfold ak at mE wC;omega)
   have hk':(k+(x+y))/ak<=1:=by unfold ak at mE wC ⊢;omega
   have Pb:=jz (x:=x) (y:=y) (s:=k+(x+y)) ho hv' (by omega)
   simp only [SS,Nat.reduceAdd,nQ hlt,cI hy,aS,bg,kC,hdr]
   rw [fZ (o:=(a++o)++x::(b.drop (i+1)++t)) (b:=false) (by simp [ae.of]) (pN _ _ _ Pa)]
   simp only [SS,Nat.reduceAdd,f1,f2,f3,f4,o7,kC]
   rw [bC (o:=(a++o)++x::(b.drop (i+1)++t)) (by simp [ae.of]) mD,dS _ _ _ _ Pa]
   simp only [SS,Nat.reduceAdd,ki,lZ]
   refine ⟨(i+1,_,o++[(k+(x+y))%ak],(k+(x+y))/ak),⟨(gW hlt).1,by simp [ho],lf hwd _,hk', ?_⟩,(gW hlt).2,Wk.forget (by simp [Fg]) (fun j => ?_) (Nat.le_refl _)⟩
   . show val (o++[(k+(x+y))%ak])+ak ^ (i+1)*((k+(x+y))/ak)=_
     rw [aA hx,aA hy];exact Pb
   . simp only [ae.put,ae.of];split<;>simp_all
 . have kJ:=cL hlt
   subst kJ
   have s6:b.drop (aa v+1)=[]:=List.drop_eq_nil_of_le (by omega)
   have e1:(digits v).take (aa v)=digits v:=List.take_of_length_le (Nat.le_refl _)
   have e2:val (b.take (aa v+1))=val b:=u0 hb
   have Pb:=jz (x:=x) (y:=0) (s:=k+x) ho hv' (by omega)
   rw [e1,aE, <- aA hx,e2] at Pb
   simp only [Nat.mul_zero,Nat.add_zero] at Pb
   have f5:IntKind.u32.wrap (k:Int)=(k:Int):=by rw [o7,Nat.mod_eq_of_lt (by unfold ak;omega)]
   have f6:IntKind.u32.wrap ((x:Int)+(k:Int))=(((k+x)%ak:Nat):Int):=by rw [IntKind.wrap_u32];unfold ak;omega
   have Td:Wd (o++[(k+x)%ak]):=lf hwd _
   have qg:(o++[(k+x)%ak]).length=aa v+1:=by simp [ho]
   have e:pad (aa v+1) (val b+v)=o++[(k+x)%ak]:=by
     rw [<- Pb,yf, <- qg];exact ko Td
   simp only [SS,Nat.reduceAdd,pw hlt,aQ,kC,hdr]
   rw [fZ (o:=(a++o)++x::(b.drop (aa v+1)++t)) (b:=false) (by simp [ae.of]) (pN _ _ _ Pa)]
   simp only [SS,Nat.reduceAdd,f5,f6,kC]
   rw [bC (o:=(a++o)++x::(b.drop (aa v+1)++t)) (by simp [ae.of]) mD,dS _ _ _ _ Pa,s6]
   simp only [SS,Nat.reduceAdd,e]
   have e5:a++(o++[(k+x)%ak])++t=a++o++(k+x)%ak::t:=by simp
   refine Ft▸dN rfl fun i => .inr ?_
   simp only [ae.app,e5];exact B3
end
end Go.VL
end

section
set_option linter.unusedVariables false
namespace Go.VL
def lens:List UInt8:=[0,1,2,2,3,3,3,3,4,4,4,4,4,4,4,4,5,5,5,5,5,5,5,5,5,5,5,5,5,5,5,5,6,6,6,6,6,6,6,6,6,6,6,6,6,6,6,6,6,6,6,6,6,6,6,6,6,6,6,6,6,6,6,6,7,7,7,7,7,7,7,7,7,7,7,7,7,7,7,7,7,7,7,7,7,7,7,7,7,7,7,7,7,7,7,7,7,7,7,7,7,7,7,7,7,7,7,7,7,7,7,7,7,7,7,7,7,7,7,7,7,7,7,7,7,7,7,7,8,8,8,8,8,8,8,8,8,8,8,8,8,8,8,8,8,8,8,8,8,8,8,8,8,8,8,8,8,8,8,8,8,8,8,8,8,8,8,8,8,8,8,8,8,8,8,8,8,8,8,8,8,8,8,8,8,8,8,8,8,8,8,8,8,8,8,8,8,8,8,8,8,8,8,8,8,8,8,8,8,8,8,8,8,8,8,8,8,8,8,8,8,8,8,8,8,8,8,8,8,8,8,8,8,8,8,8,8,8,8,8,8,8,8,8,8,8,8,8,8,8,8,8,8,8,8,8]
def len8 (v:Nat):Nat:=((lens[v]?).getD 0).toNat
def ee (x:Nat):Nat :=
 if 65536<=x then (if 256<=x/65536 then 24+len8 (x/65536/256) else 16+len8 (x/65536)) else (if 256<=x then 8+len8 (x/256) else len8 x)
set_option maxRecDepth 100000 in
theorem Pd {v:Nat} (h:v<256):lens[v]? = some ((lens[v]?).getD 0):=by
 have:v<lens.length:=h
 rw [List.getElem?_eq_getElem this];rfl
theorem u3 (v:Nat):len8 v<256:=(((lens[v]?).getD 0)).toNat_lt
set_option maxRecDepth 100000 in
theorem Pe:(List.range 256).all (fun v=>v==0||(decide (v<2 ^ len8 v)&&decide (2 ^ len8 v<=2*v)))=true:=by decide
theorem u4 {v:Nat} (h:v<256) (h0:0<v):v<2 ^ len8 v/\2 ^ len8 v<=2*v:=by
 have:=List.all_eq_true.1 Pe v (List.mem_range.2 h)
 simp only [Bool.or_eq_true,Bool.and_eq_true,beq_iff_eq,decide_eq_true_eq] at this
 rcases this with h1 | h1
 . omega
 . exact h1
theorem tw {x a k j:Nat} (he:a=x/2 ^ j) (h:a<2 ^ k/\2 ^ k<=2*a):x<2 ^ (j+k)/\2 ^ (j+k)<=2*x:=by
 subst he
 have hp:=Nat.two_pow_pos j
 refine ⟨?_, ?_⟩
 . have:=(Nat.div_lt_iff_lt_mul hp).1 h.1
   rwa [Nat.pow_add,Nat.mul_comm]
 . have h1:=Nat.mul_le_mul_left (2 ^ j) h.2
   have h2:=Nat.mul_div_le x (2 ^ j)
   rw [Nat.pow_add,Nat.mul_left_comm] at *
   omega
theorem mz {x:Nat} (h:x<ak) (h0:0<x):x<2 ^ ee x/\2 ^ ee x<=2*x:=by
 unfold ak at h
 unfold ee
 by_cases h1:65536<=x
 . by_cases h2:256<=x/65536
   . rw [if_pos h1,if_pos h2]
     exact tw (j:=24) (a:=x/65536/256) (by rw [Nat.div_div_eq_div_mul]) (u4 (by omega) (by omega))
   . rw [if_pos h1,if_neg h2]
     exact tw (j:=16) (a:=x/65536) rfl (u4 (by omega) (by omega))
 . by_cases h2:256<=x
   . rw [if_neg h1,if_pos h2]
     exact tw (j:=8) (a:=x/256) rfl (u4 (by omega) (by omega))
   . rw [if_neg h1,if_neg h2]
     exact u4 (by omega) h0
section
variable {P:Program} {G:Nat->Option (List AV)}
set_option maxRecDepth 100000 in
theorem FO {f:FuncId} (h:Has P f kd) (x:Nat) (hx:x<ak):VP P G f [.int .u32 (x:Int)] (.int .i64 (ee x:Int)):=by
 refine VP.has h ?_
 have s16:bo .shr .int (.int .u32 (x:Int)) (.int .u64 16)=some (.int .u32 ((x/65536:Nat):Int)):=by
   rw [mV (by decide)]
   have:(x:Int).fdiv (2 ^ (min (16:Int).toNat IntKind.u32.bits))=((x/65536:Nat):Int):=by
     show (x:Int).fdiv (2 ^ 16)=_
     rw [Int.fdiv_eq_ediv_of_nonneg _ (by decide)];omega
   rw [this]
 have s8:∀ y:Nat,bo .shr .int (.int .u32 (y:Int)) (.int .u64 8)=some (.int .u32 ((y/256:Nat):Int)):=fun y=>by
   rw [mV (by decide)]
   have:(y:Int).fdiv (2 ^ (min (8:Int).toNat IntKind.u32.bits))=((y/256:Nat):Int):=by
     show (y:Int).fdiv (2 ^ 8)=_
     rw [Int.fdiv_eq_ediv_of_nonneg _ (by decide)];omega
   rw [this]
 have w8:∀ y:Nat,y<256->IntKind.u8.wrap (y:Int)=(y:Int):=fun y h=>by rw [IntKind.wrap_u8'];omega
 have wl:∀ y:Nat,IntKind.i64.wrap ((len8 y:Nat):Int)=((len8 y:Nat):Int):=fun y=>by have:=u3 y;rw [IntKind.wrap_i64];omega
 have hix:∀ (p:Id) (σ : ae) (y:Nat),y<256->bu σ p (.indexS (.str [0,1,2,2,3,3,3,3,4,4,4,4,4,4,4,4,5,5,5,5,5,5,5,5,5,5,5,5,5,5,5,5,6,6,6,6,6,6,6,6,6,6,6,6,6,6,6,6,6,6,6,6,6,6,6,6,6,6,6,6,6,6,6,6,7,7,7,7,7,7,7,7,7,7,7,7,7,7,7,7,7,7,7,7,7,7,7,7,7,7,7,7,7,7,7,7,7,7,7,7,7,7,7,7,7,7,7,7,7,7,7,7,7,7,7,7,7,7,7,7,7,7,7,7,7,7,7,7,8,8,8,8,8,8,8,8,8,8,8,8,8,8,8,8,8,8,8,8,8,8,8,8,8,8,8,8,8,8,8,8,8,8,8,8,8,8,8,8,8,8,8,8,8,8,8,8,8,8,8,8,8,8,8,8,8,8,8,8,8,8,8,8,8,8,8,8,8,8,8,8,8,8,8,8,8,8,8,8,8,8,8,8,8,8,8,8,8,8,8,8,8,8,8,8,8,8,8,8,8,8,8,8,8,8,8,8,8,8,8,8,8,8,8,8,8,8,8,8,8,8,8,8,8,8,8,8]) (.int .u8 (y:Int)))=some { val := .int .u8 ((len8 y:Nat):Int) }:=fun p σ y h=>by
   show bu σ p (.indexS (.str lens) (.int .u8 (y:Int)))=_
   rw [ta,if_pos (by omega),Int.toNat_natCast,Pd h];rfl
 have hB:x<4294967296:=hx
 simp only [kd]
 by_cases h1:65536<=x
 . have d1:decide ((65536:Int)<=(x:Int))=true:=ai (by omega)
   by_cases h2:256<=x/65536
   . have d2:decide ((256:Int)<=((x/65536:Nat):Int))=true:=ai (by omega)
     have hb:x/65536/256<256:=by omega
     have e:ee x=24+len8 (x/65536/256):=by unfold ee;rw [if_pos h1,if_pos h2]
     have e1:IntKind.i64.wrap ((16:Int)+8)=24:=by rw [IntKind.wrap_i64];omega
     have e2:IntKind.i64.wrap ((24:Int)+((len8 (x/65536/256):Nat):Int))=((24+len8 (x/65536/256):Nat):Int):=by have:=u3 (x/65536/256);rw [IntKind.wrap_i64];omega
     simp only [SS,Nat.reduceAdd,d1,d2,s16,s8,w8 _ hb,hix _ _ _ hb,wl,e1,e2]
     rw [e];exact ao▸aj rfl (af.int _ _)
   . have d2:decide ((256:Int)<=((x/65536:Nat):Int))=false:=ag (by omega)
     have hb:x/65536<256:=by omega
     have e:ee x=16+len8 (x/65536):=by unfold ee;rw [if_pos h1,if_neg h2]
     have e2:IntKind.i64.wrap ((16:Int)+((len8 (x/65536):Nat):Int))=((16+len8 (x/65536):Nat):Int):=by have:=u3 (x/65536);rw [IntKind.wrap_i64];omega
     simp only [SS,Nat.reduceAdd,d1,d2,s16,w8 _ hb,hix _ _ _ hb,wl,e2]
     rw [e];exact ao▸aj rfl (af.int _ _)
 . have d1:decide ((65536:Int)<=(x:Int))=false:=ag (by omega)
   by_cases h2:256<=x
   . have d2:decide ((256:Int)<=(x:Int))=true:=ai (by omega)
     have hb:x/256<256:=by omega
     have e:ee x=8+len8 (x/256):=by unfold ee;rw [if_neg h1,if_pos h2]
     have e1:IntKind.i64.wrap ((0:Int)+8)=8:=by rw [IntKind.wrap_i64];omega
     have e2:IntKind.i64.wrap ((8:Int)+((len8 (x/256):Nat):Int))=((8+len8 (x/256):Nat):Int):=by have:=u3 (x/256);rw [IntKind.wrap_i64];omega
     simp only [SS,Nat.reduceAdd,d1,d2,s8,w8 _ hb,hix _ _ _ hb,wl,e1,e2]
     rw [e];exact ao▸aj rfl (af.int _ _)
   . have d2:decide ((256:Int)<=(x:Int))=false:=ag (by omega)
     have hb:x<256:=by omega
     have e:ee x=len8 x:=by unfold ee;rw [if_neg h1,if_neg h2]
     have e2:IntKind.i64.wrap ((0:Int)+((len8 x:Nat):Int))=((len8 x:Nat):Int):=by have:=u3 x;rw [IntKind.wrap_i64];omega
     simp only [SS,Nat.reduceAdd,d1,d2,w8 _ hb,hix _ _ _ hb,wl,e2]
     rw [e];exact ao▸aj rfl (af.int _ _)
end
end Go.VL
end

section
set_option linter.unusedVariables false
namespace Go.VL
section
variable {P:Program} {G:Nat->Option (List AV)}
theorem L8 {f:FuncId} (h:Has P f cH) {es:List AV} (hk:∀ e∈es,e.size=1) (h1:(es.all fun e=>e.cells.all AV.one)=true) (hp:∀ c∈flat es,af c) (hl:es.length*4<=140737488355328):VP P G f [.sl 1 es] (.sl 1 es):=by
 refine VP.has h ?_
 have hb:∀ (σ : ae) (p:Id),bu σ p (.buildSl 1 0 (.int .u32 0) [])=some { val := .tsl 1 [] }:=fun σ p=>bs0 rfl rfl
 cases es with
 | nil =>
   simp only [cH,SS,Nat.reduceAdd]
   refine ⟨?_, ?_⟩
   . exact ao▸⟨.nils,rfl,View.nils 1⟩
   . simp only [SS,Nat.reduceAdd,hb,mh gj]
     exact ao▸⟨_,rfl,View.Xw 1⟩
 | cons e es =>
   simp only [cH,SS,Nat.reduceAdd,hb]
   rw [mW (es:=[]) gj (by simp) (by simpa using hl) (fQ (by simp at hl ⊢;omega)) (by simpa using h1)]
   simp only [SS,Nat.reduceAdd]
   refine ao▸⟨_,rfl,View.osl (bk:=⟨e::es,1,false⟩) rfl rfl (by simp) ?_ (by simp) hk⟩
   simpa using ah.pure hp
theorem L9 {f:FuncId} (h:Has P f cH) (n:Nat) (hn:aa n<=1000000):VP P G f [W n] (W n) :=
 L8 h (pJ _) (HP _) (my _) (by rw [dD];show aa n*4<=_;omega)
end
end Go.VL
end

section
set_option linter.unusedVariables false
namespace Go.VL
theorem u5 (z:Int):sgn (decide (z<0)) z.natAbs=z:=by
 unfold sgn
 by_cases h:z<0
 . simp only [h,decide_true,if_true];omega
 . simp only [h,decide_false,Bool.false_eq_true,if_false];omega
theorem Kc (z:Int):sgn (!decide (z<0)) z.natAbs = -z:=by
 unfold sgn
 by_cases h:z<0
 . simp only [h,decide_true,Bool.not_true,Bool.false_eq_true,if_false];omega
 . simp only [h,decide_false,Bool.not_false,if_true];omega
theorem Ke (y z:Int):sgn (!(decide (y<0)==decide (z<0))) (y.natAbs*z.natAbs)=y*z:=by
 rw [<- Int.natAbs_mul]
 unfold sgn
 by_cases h:y<0<;>by_cases h2:z<0
 . have:=Int.mul_pos_of_neg_of_neg h h2
   simp [h,h2];omega
 . have h3:y*z<=0:=Int.mul_nonpos_of_nonpos_of_nonneg (by omega) (by omega)
   simp [h,h2];omega
 . have h3:y*z<=0:=Int.mul_nonpos_of_nonneg_of_nonpos (by omega) (by omega)
   simp [h,h2];omega
 . have h3:0<=y*z:=Int.mul_nonneg (by omega) (by omega)
   simp [h,h2];omega
theorem rF:((AV.cells (.agg [(.bool false), .nils])).all AV.one=true)=True:=by simp [AV.cells,AV.one]
theorem qY (σ : ae) (id:Id) (k:Nat) (z:Int):j5 (σ.put id (some ⟨[.agg [.bool false, .nils]],k,false⟩)) 2 (.ref id 0 0) (IV z)=some { val := .tup [],rd:=[id],up:=[(id,some ⟨[IV z],k,false⟩)] }:=by
 rw [lX (n:=2) (v:=IV z) (els:=[.agg [.bool false, .nils]]) (k:=k) (ae.dG _ _ _) rfl rfl (by simp [AV.size,AV.cells]) rfl]
 rfl
section
variable {P:Program} {G:Nat->Option (List AV)}
theorem kp {ft:FuncId} (ht:fY P G ft) (n:Nat) (hn:aa n<=9223372036854775807):VP P G ft [W n] (W n):=by
 have:=ht (digits n) (aH n) hn
 rw [aE] at this;exact this
def fL (P:Program) (G:Nat->Option (List AV)) (f:FuncId):Prop:=∀ (neg:Bool) (n:Nat),aa n<=9223372036854775807->VP P G f [.bool neg,W n] (IV (sgn neg n))
theorem kU (n:Nat) (hn:n<18446744073709551616):aa n<=2:=cK (by unfold ak;omega)
end
end Go.VL
end

section
set_option linter.unusedVariables false
namespace Go.VL
theorem kV (a b:Int):eP a b = -1/\a<b∨eP a b=0/\a=b∨eP a b=1/\b<a:=by
 unfold eP
 by_cases h1:a<b
 . simp [h1]
 . by_cases h2:b<a
   . simp [h1,h2]
   . right;left;simp [h1,h2];omega
theorem kW (z:Int):z.sign = -1/\z<0∨z.sign=0/\z=0∨z.sign=1/\0<z:=by
 rcases Int.lt_trichotomy z 0 with h | h | h
 . exact .inl ⟨Int.sign_eq_neg_one_of_neg h,h⟩
 . exact .inr (.inl ⟨by rw [h];rfl,h⟩)
 . exact .inr (.inr ⟨Int.sign_eq_one_of_pos h,h⟩)
theorem B4 {y z:Int} (h:y.sign≠z.sign):eP y.sign z.sign=eP y z:=by
 rcases kV y z with ⟨e,c⟩ | ⟨e,c⟩ | ⟨e,c⟩<;>rcases kV y.sign z.sign with ⟨e2,c2⟩ | ⟨e2,c2⟩ | ⟨e2,c2⟩<;>rcases kW y with ⟨s,p⟩ | ⟨s,p⟩ | ⟨s,p⟩<;>rcases kW z with ⟨s2,p2⟩ | ⟨s2,p2⟩ | ⟨s2,p2⟩<;>omega
theorem Te {y z:Int} (h:y.sign=z.sign):y.sign*de y.natAbs z.natAbs=eP y z:=by
 unfold de
 rcases kV y z with ⟨e,c⟩ | ⟨e,c⟩ | ⟨e,c⟩<;>rcases kV (y.natAbs:Int) (z.natAbs:Int) with ⟨e2,c2⟩ | ⟨e2,c2⟩ | ⟨e2,c2⟩<;>rcases kW y with ⟨s,p⟩ | ⟨s,p⟩ | ⟨s,p⟩<;>rcases kW z with ⟨s2,p2⟩ | ⟨s2,p2⟩ | ⟨s2,p2⟩<;>rw [s,e2,e]<;>omega
section
variable {P:Program} {G:Nat->Option (List AV)}
end
end Go.VL
end

section
set_option linter.unusedVariables false
namespace Go.VL
def RV (a b:Int):AV := .agg [.bool (decide (a<0)),W a.natAbs, .bool (decide (b<0)),W b.natAbs]
theorem yg (a b:Int):af (RV a b):=af.agg (by intro c hc;simp at hc;rcases hc with rfl | rfl | rfl | rfl;exact af.bool _;exact aM _;exact af.bool _;exact aM _)
theorem HY (a b:Int):((RV a b).cells.all AV.one=true)=True:=by simp [RV,AV.cells,AV.one,W]
theorem Kf (a b:Int):part true (RV a b).cells 0 2=some (IV a):=rfl
theorem Kg (a b:Int):part true (RV a b).cells 2 2=some (IV b):=rfl
theorem Ma:((AV.cells (.agg [(.bool false), .nils,(.bool false), .nils])).all AV.one=true)=True:=by simp [AV.cells,AV.one]
theorem Tf (a b:Int):lL [.bool false, .nils, .bool false, .nils] [(0,(2,IV a)),(2,(2,IV b))]=some [.bool (decide (a<0)),W a.natAbs, .bool (decide (b<0)),W b.natAbs]:=rfl
section
variable {P:Program} {G:Nat->Option (List AV)}
theorem ahL {f fi:FuncId} (h:Has P f (qM fi)) (hi:VP P G fi [.int .i64 1] (IV 1)):VP P G f [] (IV 1):=by
 refine VP.has h ?_
 simp only [qM,SS,Nat.reduceAdd,rF]
 refine aq hi (by simp [af.int]) ?_
 simp only [SS,Nat.reduceAdd,qY]
 refine ao▸aj (r:=IV 1) ?_ (bU _)
 simp only [RS,dU,fU,aY];rfl
theorem Pf {f fi:FuncId} (h:Has P f (lG fi)) (a b:Int) (hi:VP P G fi [IV a] (.int .i64 a.sign)):VP P G f [RV a b] (.int .i64 a.sign):=by
 refine VP.has h ?_
 simp only [lG,SS,Nat.reduceAdd,HY,aY,Kf]
 refine aq hi (by simp [bU]) ?_
 simp only [SS,Nat.reduceAdd]
 exact ao▸aj rfl (af.int _ _)
end
end Go.VL
end

section
set_option linter.unusedVariables false
namespace Go.VL
theorem oz {σ : ae} {id:Id} {k:Nat} {z:Int} {y:AV} (hs:y.size=2) (hu:y.upd 0 (IV z).cells=IV z) (h : σ id=some ⟨[y],k,false⟩):j5 σ 2 (.ref id 0 0) (IV z)=some { val := .tup [],rd:=[id],up:=[(id,some ⟨[IV z],k,false⟩)] }:=by
 rw [lX (n:=2) (v:=IV z) h rfl rfl (by rw [hs];exact Nat.le_refl _) rfl]
 simp [hu]
theorem Pg (y z:Int):(IV y).upd 0 (IV z).cells=IV z:=rfl
theorem Ph (z:Int):(AV.agg [.bool false, .nils]).upd 0 (IV z).cells=IV z:=rfl
section
variable {P:Program} {G:Nat->Option (List AV)}
end
end Go.VL
end

section
set_option linter.unusedVariables false
namespace Go.VL
def Ht (a b:Int):Bool := !(decide (a<0)==decide (b<0))
def dmq (a b:Int):Nat:=if Ht a b=true/\0<a.natAbs%b.natAbs then a.natAbs/b.natAbs+1 else a.natAbs/b.natAbs
def dmr (a b:Int):Nat:=if Ht a b=true/\0<a.natAbs%b.natAbs then b.natAbs-a.natAbs%b.natAbs else a.natAbs%b.natAbs
theorem zD:digits 1=[1]:=by rw [gn (by decide),show 1/ak=0 from rfl,a9];rfl
theorem Pj {id:Id} {b t:Bool}:View (ae.of [(id,⟨us [1],1,b⟩)]) (.osl id 1 0 1 t) (W 1):=by
 unfold W;rw [zD];exact fk rfl
theorem Pk (m n:Nat):aa (m/n)<=aa m:=aP (Nat.div_le_self _ _)
theorem zE (m n:Nat):aa (m%n)<=aa m:=aP (Nat.mod_le _ _)
theorem Mb (m:Nat):aa (m+1)<=aa m+1:=cK (by
 have h1:=b7 m
 rw [Nat.pow_succ]
 have h2:ak ^ aa m*2<=ak ^ aa m*ak:=Nat.mul_le_mul_left _ (by decide)
 omega)
theorem oD:aa 1<=1:=by unfold aa;rw [zD];decide
theorem wD {α : Type} {a b : α}:[a,b][0]? = some a:=rfl
theorem wE {α : Type} {a b : α}:[a,b][1]? = some b:=rfl
section
variable {P:Program} {G:Nat->Option (List AV)}
end
end Go.VL
end

section
namespace Go.VL
theorem De {a b q r:Int} (hb:0<b) (h:a=b*q+r) (h0:0<=r) (h1:r<b):a.fdiv b=q/\a.fmod b=r:=by
 have:=(Int.ediv_emod_unique (a:=a) (b:=b) (r:=r) (q:=q) hb).2 ⟨by omega,h0,h1⟩
 rw [Int.fdiv_eq_ediv_of_nonneg _ (Int.le_of_lt hb),Int.fmod_eq_emod_of_nonneg _ (Int.le_of_lt hb)]
 exact this
theorem XM (a b:Int):a.fdiv b=(-a).fdiv (-b)/\a.fmod b = -((-a).fmod (-b)):=by
 have h1:(-a).fdiv (-b)=a.fdiv b:=Int.neg_fdiv_neg a b
 refine ⟨h1.symm, ?_⟩
 have h2:=Int.mul_fdiv_add_fmod a b
 have h3:=Int.mul_fdiv_add_fmod (-a) (-b)
 rw [h1,Int.neg_mul] at h3
 omega
theorem Tg {m n:Nat} (hn:n≠0):((m:Int).fdiv n=(m/n:Nat)/\(m:Int).fmod n=(m%n:Nat)) /\
   (m%n=0->(-(m:Int)).fdiv n = -((m/n:Nat):Int)/\(-(m:Int)).fmod n=0)/\(0<m%n->(-(m:Int)).fdiv n = -((m/n+1:Nat):Int)/\(-(m:Int)).fmod n=((n-m%n:Nat):Int)):=by
 have hlt:m%n<n:=Nat.mod_lt _ (Nat.pos_of_ne_zero hn)
 have e:(m:Int)=(n:Int)*((m/n:Nat):Int)+((m%n:Nat):Int):=by
   rw [<- Int.natCast_mul, <- Int.natCast_add,Nat.div_add_mod]
 generalize m/n=q at *
 generalize m%n=r at *
 refine ⟨De (by omega) e (by omega) (by omega),fun h=>De (by omega) ?_ (by omega) (by omega),fun h=>De (by omega) ?_ (by omega) (by omega)⟩
 . rw [Int.mul_neg];omega
 . rw [Int.mul_neg,Int.natCast_add,Int.mul_add];omega
theorem Pl (a b:Int) (hb:b≠0):sgn (Ht a b) (dmq a b)=a.fdiv b/\sgn (decide (b<0)) (dmr a b)=a.fmod b:=by
 have Vr:b.natAbs≠0:=by omega
 obtain ⟨⟨c1,c2⟩,c3,c4⟩:=Tg (m:=a.natAbs) Vr
 unfold dmq dmr
 by_cases h1:b<0
 . have eb : -b=(b.natAbs:Int):=by omega
   obtain ⟨n1,n2⟩:=XM a b
   rw [n1,n2,eb]
   by_cases h2:a<0
   . have ea : -a=(a.natAbs:Int):=by omega
     have hd:Ht a b=false:=by simp [Ht,h1,h2]
     rw [ea,c1,c2,hd]
     simp [sgn,h1]
   . have ea : -a = -(a.natAbs:Int):=by omega
     have hd:Ht a b=true:=by simp [Ht,h1,h2]
     rw [ea,hd]
     by_cases hr:0<a.natAbs%b.natAbs
     . rw [(c4 hr).1,(c4 hr).2,if_pos ⟨rfl,hr⟩,if_pos ⟨rfl,hr⟩]
       simp [sgn,h1]
     . have h0:a.natAbs%b.natAbs=0:=by omega
       rw [(c3 h0).1,(c3 h0).2,if_neg (fun e=>hr e.2),if_neg (fun e=>hr e.2),h0]
       simp [sgn,h1]
 . have eb:b=(b.natAbs:Int):=by omega
   have qh:decide (b<0)=false:=ag h1
   by_cases h2:a<0
   . have ea:a = -(a.natAbs:Int):=by omega
     have hd:Ht a b=true:=by simp [Ht,h1,h2]
     rw [hd,qh]
     by_cases hr:0<a.natAbs%b.natAbs
     . have q1:=(c4 hr).1
       have q2:=(c4 hr).2
       rw [<- ea, <- eb] at q1 q2
       rw [q1,q2,if_pos ⟨rfl,hr⟩,if_pos ⟨rfl,hr⟩]
       exact ⟨rfl,rfl⟩
     . have h0:a.natAbs%b.natAbs=0:=by omega
       have q1:=(c3 h0).1
       have q2:=(c3 h0).2
       rw [<- ea, <- eb] at q1 q2
       rw [q1,q2,if_neg (fun e=>hr e.2),if_neg (fun e=>hr e.2),h0]
       exact ⟨rfl,rfl⟩
   . have ea:a=(a.natAbs:Int):=by omega
     have hd:Ht a b=false:=by simp [Ht,h1,h2]
     rw [<- ea, <- eb] at c1 c2
     rw [c1,c2,hd,qh]
     simp [sgn]
end Go.VL
end

section
set_option linter.unusedVariables false
namespace Go.VL
theorem wF {σ : ae} {id:Id} {k:Nat} {a b:Int} (h : σ id=some ⟨[.agg [.bool false, .nils, .bool false, .nils]],k,false⟩):j5 σ 4 (.ref id 0 0) (RV a b)=some { val := .tup [],rd:=[id],up:=[(id,some ⟨[RV a b],k,false⟩)] }:=by
 rw [lX (n:=4) (v:=RV a b) h rfl rfl (by simp [AV.size,AV.cells]) rfl]
 rfl
section
variable {P:Program} {G:Nat->Option (List AV)}
end
end Go.VL
end

section
set_option linter.unusedVariables false
namespace Go.VL
section
variable {P:Program} {G:Nat->Option (List AV)}
theorem Th {f fi fm fo fl:FuncId} (h:Has P f (j9 fi fm fo fl)) (a b c d:Int) (x:AV) {x1 x2:Int} (hx:x=RV x1 x2) (hi:∀ z,VP P G fi [IV z] (.bool (decide (z=1)))) (U1:VP P G fm [IV a,IV c] (IV (a*c))) (uf:VP P G fm [IV b,IV d] (IV (b*d))) (ho:VP P G fo [] (IV 1))
   (hl:VP P G fl [IV (a*c),IV (b*d)] x):VP P G f [RV a b,RV c d] (if b=1/\d=1 then RV (a*c) 1 else x):=by
 refine VP.has h ?_
 have Df:([0]:List Nat)≠[1]:=by decide
 have Nx:([0]:List Nat)≠[2]:=by decide
 have FP:([1]:List Nat)≠[2]:=by decide
 have Ti:∀ x y:Int,(AV.agg [.bool (decide (x<0)),W x.natAbs, .bool (decide (y<0)),W y.natAbs])=RV x y:=fun _ _=>rfl
 subst hx
 simp only [j9,SS,Nat.reduceAdd,HY,Ma,bj Df,bj Nx,aY,Kg]
 refine aq (hi b) (by simp [bU]) ?_
 have Kh:∀ (h : ¬ (b=1/\d=1)),(if b=1/\d=1 then RV (a*c) 1 else RV x1 x2)=RV x1 x2:=fun h=>if_neg h
 by_cases hb:b=1
 . have d1:decide (b=1)=true:=ai hb
   simp only [SS,Nat.reduceAdd,d1,bj FP,aY,Kg]
   refine aq (hi d) (by simp [bU]) ?_
   by_cases hd:d=1
   . have d2:decide (d=1)=true:=ai hd
     rw [if_pos ⟨hb,hd⟩]
     simp only [SS,Nat.reduceAdd,d2,bj Df,bj Nx,bj FP,aY,Kf]
     refine aq U1 (by simp [bU]) ?_
     simp only [SS,Nat.reduceAdd]
     refine aq ho (by simp) ?_
     simp only [SS,Nat.reduceAdd,Tf,Ti]
     rw [wF (k:=(AV.agg [.bool false, .nils, .bool false, .nils]).size) (by simp [ae.put])]
     simp only [SS,Nat.reduceAdd]
     refine ao▸aj (r:=RV (a*c) 1) ?_ (yg _ _)
     simp only [RS,dU,fU,aY]
     rfl
   . have d2:decide (d=1)=false:=ag hd
     rw [Kh fun e=>hd e.2]
     simp only [SS,DD,Nat.reduceAdd,d2,bj Df,bj Nx,bj FP,aY,Kf]
     refine aL U1 (by simp [bU]) ?_
     simp only [SS,DD,Nat.reduceAdd,bj Df,bj Nx,bj FP,aY,Kg]
     refine aL uf (by simp [bU]) ?_
     simp only [SS,DD,Nat.reduceAdd]
     refine aL hl (by simp [bU]) ?_
     simp only [SS,DD,Nat.reduceAdd]
     rw [wF (k:=(AV.agg [.bool false, .nils, .bool false, .nils]).size) (by simp [ae.put])]
     simp only [SS,DD,Nat.reduceAdd]
     refine ⟨by simp [aB,apart], ?_⟩
     refine ao▸aj (r:=RV x1 x2) ?_ (yg _ _)
     simp only [RS,dU,fU,aY]
     rfl
 . have d1:decide (b=1)=false:=ag hb
   rw [Kh fun e=>hb e.1]
   simp only [SS,DD,Nat.reduceAdd,d1,bj Df,bj Nx,bj FP,aY,Kf]
   refine aL U1 (by simp [bU]) ?_
   simp only [SS,DD,Nat.reduceAdd,bj Df,bj Nx,bj FP,aY,Kg]
   refine aL uf (by simp [bU]) ?_
   simp only [SS,DD,Nat.reduceAdd]
   refine aL hl (by simp [bU]) ?_
   simp only [SS,DD,Nat.reduceAdd]
   rw [wF (k:=(AV.agg [.bool false, .nils, .bool false, .nils]).size) (by simp [ae.put])]
   simp only [SS,DD,Nat.reduceAdd]
   refine ⟨by simp [aB,apart], ?_⟩
   refine ao▸aj (r:=RV x1 x2) ?_ (yg _ _)
   simp only [RS,dU,fU,aY]
   rfl
end
end Go.VL
end
