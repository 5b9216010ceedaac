/- For the claim of HistoryNoAliasing: parts CF8, CF9, CF10, CH3, CH4, CF11, CF12, CF13, CF14, NL, CG1, VL36, CQA, PUI, WK2, WK3, HKS. -/
import Derived.Test.YtcomlgfjnjpebaaGreatDoorC07
import Derived.Lib.IndexMore
import Derived.Test.YtcomlgfjnjpebaaGreatDoorC04
import Derived.Sort.KeysCollected
import Derived.Sort.Walk0
import Derived.Lib.SlicesCompact
import Derived.Test.YtcomlgfjnjpebaaGreatDoorC06
import Derived.Test.YtcomlgfjnjpebaaGreatDoorC03
import Derived.Test.YtcomlgfjnjpebaaGreatDoorC05
set_option linter.unusedSimpArgs false
set_option linter.unusedVariables false
set_option maxRecDepth 100000
namespace Go.VL
def qQ (s:List UInt8):Nat:=match s with
 | []=>0
 | c::_=>if cJ c=true then fH db s else 0
section
variable {P:Program} {G:Nat->Option (List AV)}
theorem UN {f fl fd:FuncId} (h:Has P f (fJ fl fd)) (hl:∀ c,VP P G fl [ga c] (.bool (cJ c))) (hd:∀ c,VP P G fd [ga c] (.bool (jE c)))
   (s:List UInt8) (hs:s.length<9223372036854775807):VP P G f [.str s, .int .i64 0] (.int .i64 ((qQ s:Nat):Int)):=by
 cases s with
 | nil =>
   refine VP.has h ?_
   have z0:decide ((0:Int)=((0:Nat):Int))=true:=rfl
   have e:qQ []=0:=rfl
   rw [e]
   simp only [fJ,SS,Nat.reduceAdd,z0]
   exact ah▸ae rfl (af.int _ _)
 | cons c0 s0 =>
   generalize RE:c0::s0=s at hs ⊢
   have hlen:0<s.length:=by rw [<- RE];simp
   have d0:decide ((0:Int)=(s.length:Int))=false:=ag (by omega)
   have P5:s[0]? = some c0:=by rw [<- RE];rfl
   have N5:=dH (k:=0) P5
   simp only [Int.natCast_zero] at N5
   cases UO:cJ c0
   . have De:=hl c0
     rw [UO] at De
     have e:qQ s=0:=by rw [<- RE];simp [qQ,UO]
     rw [e]
     refine VP.has h ?_
     simp only [fJ,SS,Nat.reduceAdd,d0,N5]
     refine aj De (by simp [eX]) ?_
     simp only [SS,Nat.reduceAdd]
     exact ah▸ae rfl (af.int _ _)
   have De:=hl c0
   rw [UO] at De
   have e:qQ s=fH db s:=by rw [<- RE];simp [qQ,UO]
   rw [e]
   refine VP.has h ?_
   simp only [fJ,SS,Nat.reduceAdd,d0,N5]
   refine aj De (by simp [eX]) ?_
   simp only [SS,Nat.reduceAdd,az]
   refine VW.bG (α := Nat × Nat) (fun x=>⟨[.str s, .int .i64 (x.1:Int), .top, .top, .top]++List.replicate 37 .top,fun _=>none,x.2⟩) (fun x=>x.1<=fH db s) (fun x=>fH db s-x.1) (0,1000) ?_ (Nat.zero_le _) ?_
   . exact Wk.slots (by simp [Fg,List.replicate]) (by omega)
   rintro ⟨k,n⟩ hk
   simp only [] at hk
   have FV:=B1 db s
   by_cases hlt:k<s.length
   . obtain ⟨c,hc⟩:∃ c,s[k]? = some c:=⟨_,List.getElem?_eq_getElem hlt⟩
     have d1:decide ((k:Int)<(s.length:Int))=true:=ai (by omega)
     have Ft:=hl c
     have G9:=hd c
     have hwd:db c=(cJ c||jE c||decide ((c.toNat:Int)=95)):=rfl
     have pc:db c=true->k<fH db s:=fun hw=>by
       rcases Nat.lt_or_ge k (fH db s) with q | q
       . exact q
       . have MB:k=fH db s:=by omega
         rcases vV db s with h0 | ⟨c',hc',QP⟩
         . rw [<- MB,hc] at h0;cases h0
         . rw [<- MB,hc] at hc';cases hc';rw [hw] at QP;cases QP
     have Dz:db c=false->k=fH db s:=fun hw=>by
       rcases Nat.lt_or_ge k (fH db s) with q | q
       . obtain ⟨c',hc',QP⟩:=B2 db s k q
         rw [hc] at hc';cases hc';rw [hw] at QP;cases QP
       . omega
     have JU:(ga c) = .int .u8 (c.toNat:Int):=rfl
     cases b1:cJ c
     . rw [b1] at Ft hwd
       cases b2:jE c
       . rw [b2] at G9 hwd
         cases b3:decide ((c.toNat:Int)=95)
         . rw [b3] at hwd
           have MB:=Dz hwd
           simp only [SS,Nat.reduceAdd,d1,dH hc]
           refine aj Ft (by simp [eX]) ?_
           simp only [SS,Nat.reduceAdd,dH hc]
           refine aj G9 (by simp [eX]) ?_
           simp only [SS,Nat.reduceAdd,dH hc,JU,b3]
           rw [<- MB]
           exact ah▸ae rfl (af.int _ _)
         . rw [b3] at hwd
           have FV:=pc hwd
           simp only [SS,Nat.reduceAdd,d1,dH hc]
           refine aj Ft (by simp [eX]) ?_
           simp only [SS,Nat.reduceAdd,dH hc]
           refine aj G9 (by simp [eX]) ?_
           simp only [SS,Nat.reduceAdd,dH hc,JU,b3,ao k (by omega)]
           exact ⟨(k+1,_),by simp only [];omega,by simp only [];omega,Wk.slots (by simp [Fg]) (Nat.le_refl _)⟩
       . rw [b2] at G9 hwd
         have FV:=pc hwd
         simp only [SS,Nat.reduceAdd,d1,dH hc]
         refine aj Ft (by simp [eX]) ?_
         simp only [SS,Nat.reduceAdd,dH hc]
         refine aj G9 (by simp [eX]) ?_
         simp only [SS,Nat.reduceAdd,ao k (by omega)]
         exact ⟨(k+1,_),by simp only [];omega,by simp only [];omega,Wk.slots (by simp [Fg]) (Nat.le_refl _)⟩
     . rw [b1] at Ft hwd
       have FV:=pc hwd
       simp only [SS,Nat.reduceAdd,d1,dH hc]
       refine aj Ft (by simp [eX]) ?_
       simp only [SS,Nat.reduceAdd,ao k (by omega)]
       exact ⟨(k+1,_),by simp only [];omega,by simp only [];omega,Wk.slots (by simp [Fg]) (Nat.le_refl _)⟩
   . have d1:decide ((k:Int)<(s.length:Int))=false:=ag (by omega)
     have MB:k=fH db s:=by omega
     rw [<- MB]
     simp only [SS,Nat.reduceAdd,d1]
     exact ah▸ae rfl (af.int _ _)
theorem KM {f fw:FuncId} (h:Has P f (eI fw)) (hw:∀ s:List UInt8,s.length<9223372036854775807->VP P G fw [.str s, .int .i64 0] (.int .i64 ((qQ s:Nat):Int))) (s:List UInt8) :
   VP P G f [.str s] (.bool (b7 s)):=by
 cases s with
 | nil =>
   refine VP.has h ?_
   simp only [eI,SS,Nat.reduceAdd]
   exact ah▸ae rfl (af.bool _)
 | cons c s =>
   have e0:(!((c::s)==([]:List UInt8)))=true:=rfl
   by_cases h1:(((s.length+1:Nat)):Int)<=24
   . refine VP.has h ?_
     simp only [eI,SS,Nat.reduceAdd,e0,h1,decide_true]
     refine aj (hw (c::s) (by simp only [List.length_cons];omega)) (by simp [af.str,af.int]) ?_
     by_cases h3:qQ (c::s)=s.length+1
     . have h4:(qQ (c::s):Int)=((s.length+1:Nat):Int):=by omega
       have:b7 (c::s)=true:=by
         have hv:b7 (c::s)=(decide ((c::s).length<=24)&&cJ c&&decide (fH db (c::s)=(c::s).length)):=rfl
         have hwv:qQ (c::s)=if cJ c=true then fH db (c::s) else 0:=rfl
         rw [hwv] at h3
         rw [hv]
         cases h2:cJ c
         . rw [h2] at h3;simp at h3
         . rw [h2,if_pos rfl] at h3
           have g1:decide ((c::s).length<=24)=true:=ai (by rw [List.length_cons];omega)
           have g2:decide (fH db (c::s)=(c::s).length)=true:=ai (by rw [List.length_cons];omega)
           rw [g1,g2];rfl
       rw [this]
       simp only [SS,Nat.reduceAdd,h4,decide_true]
       exact ah▸ae rfl (af.bool _)
     . have h4 : ¬ (qQ (c::s):Int)=((s.length+1:Nat):Int):=by omega
       have:b7 (c::s)=false:=by
         have hv:b7 (c::s)=(decide ((c::s).length<=24)&&cJ c&&decide (fH db (c::s)=(c::s).length)):=rfl
         have hwv:qQ (c::s)=if cJ c=true then fH db (c::s) else 0:=rfl
         rw [hwv] at h3
         rw [hv]
         cases h2:cJ c
         . rw [Bool.and_false,Bool.false_and]
         . rw [h2,if_pos rfl] at h3
           have g2:decide (fH db (c::s)=(c::s).length)=false:=ag (by rw [List.length_cons];omega)
           rw [g2,Bool.and_false]
       rw [this]
       simp only [SS,Nat.reduceAdd,h4,decide_false]
       exact ah▸ae rfl (af.bool _)
   . refine VP.has h ?_
     have:b7 (c::s)=false:=by unfold b7;simp only [List.length_cons];simp;intro h;omega
     rw [this]
     simp only [eI,SS,Nat.reduceAdd,e0,h1,decide_false]
     exact ah▸ae rfl (af.bool _)
end
def jG:List UInt8->Option Nat
 | []=>none
 | b::l=>if b=47 then some 0 else (jG l).map (· + 1)
theorem Ct:∀ {s:List UInt8} {k:Nat},jG s=some k->k<s.length
 | b :: l,k,h=>by
   rw [jG] at h
   split at h
   . cases h;simp
   . obtain ⟨j,hj,rfl⟩:=Option.map_eq_some_iff.1 h
     have:=Ct hj
     simp;omega
theorem IB:∀ {s:List UInt8} {k:Nat},jG s=some k->s[k]? = some 47
 | b :: l,k,h=>by
   rw [jG] at h
   split at h
   . rename_i hb;cases h;subst hb;rfl
   . obtain ⟨j,hj,rfl⟩:=Option.map_eq_some_iff.1 h
     simpa using IB hj
theorem xS:∀ {s:List UInt8} {k j:Nat},jG s=some k->j<k->s[j]? ≠ some 47
 | b :: l,k,j,h,hj=>by
   rw [jG] at h
   split at h
   . cases h;omega
   . rename_i hb
     obtain ⟨i,hi,rfl⟩:=Option.map_eq_some_iff.1 h
     cases j with
     | zero=>simpa using hb
     | succ j=>simpa using xS hi (show j<i by omega)
theorem Cu:∀ {s:List UInt8} {j:Nat},jG s=none->s[j]? ≠ some 47
 | [],j,_=>by simp
 | b :: l,j,h=>by
   rw [jG] at h
   split at h
   . cases h
   . rename_i hb
     have hl:jG l=none:=by simpa using h
     cases j with
     | zero=>simpa using hb
     | succ j=>simpa using Cu hl (j:=j)
theorem Ad:∀ s:List UInt8,Lib.index s [47]=match jG s with | some k=>(k:Int) | none => -1
 | []=>rfl
 | b :: l=>by
   rw [Lib.index,jG,Ad l]
   by_cases h:b=47
   . subst h;rfl
   . have:([47]:List UInt8).isPrefixOf (b::l)=false:=by
       have h' : ¬ (47:UInt8)=b:=fun e=>h e.symm
       simp [List.isPrefixOf,h']
     rw [this,if_neg h]
     cases jG l with
     | none=>rfl
     | some k =>
       have e:((k:Int) == -1)=false:=by
         rw [beq_eq_false_iff_ne];omega
       simp only [Bool.false_eq_true,if_false,e,Option.map_some]
       exact (Int.natCast_succ k).symm
theorem EJ (s:List UInt8):Lib.cut s [47]=match jG s with | some k=>(s.take k,s.drop (k+1),true) | none=>(s,[],false):=by
 unfold Lib.cut
 rw [Ad]
 cases jG s with
 | none=>rfl
 | some k=>simp
def mq (c:UInt8):Bool := !decide ((c.toNat:Int)<33) && !decide ((126:Int)<(c.toNat:Int))
def eK (s:List UInt8):Option (List UInt8):=match jG s with
 | none=>none
 | some k=>if (decide (k+1≠s.length)&&decide (s.length<=200)&&b7 (s.take k)&&s.all mq)=true then some (s.take k) else none
section
variable {P:Program} {G:Nat->Option (List AV)}
theorem DA {f fc fn:FuncId} (h:Has P f (dN fc fn)) (s:List UInt8) (hl:s.length<=1000000) (hc:VP P G fc [.str s, .str [47]] (.tup [.str (Lib.cut s [47]).1, .str (Lib.cut s [47]).2.1, .bool (Lib.cut s [47]).2.2]))
   (hn:∀ s,VP P G fn [.str s] (.bool (b7 s))):VP P G f [.str s] (.bool (eK s).isSome):=by
 rw [EJ] at hc
 unfold eK
 cases hs:jG s with
 | none =>
   rw [hs] at hc
   simp only [] at hc
   refine VP.has h ?_
   simp only [dN,SS,Nat.reduceAdd]
   refine aj hc (by simp [af.str]) ?_
   simp only [SS,Nat.reduceAdd,wb,we,wh,Option.isSome_none]
   exact ah▸ae rfl (af.bool _)
 | some k =>
   rw [hs] at hc
   simp only [] at hc ⊢
   have hk:=Ct hs
   have yI:=hn (s.take k)
   by_cases h1:k+1=s.length
   . have e1:s.drop (k+1)=[]:=List.drop_of_length_le (by omega)
     rw [e1] at hc
     rw [ag (by omega : ¬ k+1≠s.length),Bool.false_and,Bool.false_and,Bool.false_and,if_neg (by decide)]
     refine VP.has h ?_
     simp only [dN,SS,Nat.reduceAdd]
     refine aj hc (by simp [af.str]) ?_
     simp only [SS,Nat.reduceAdd,wb,we,wh,Option.isSome_none]
     exact ah▸ae rfl (af.bool _)
   have e1:(s.drop (k+1)==([]:List UInt8))=false:=by
     rw [beq_eq_false_iff_ne];intro e
     have:=congrArg List.length e
     rw [List.length_drop] at this;simp at this;omega
   by_cases h2:s.length<=200
   case neg =>
     have d2:decide ((200:Int)<(s.length:Int))=true:=ai (by omega)
     rw [ag h2,Bool.and_false,Bool.false_and,Bool.false_and,if_neg (by decide)]
     refine VP.has h ?_
     simp only [dN,SS,Nat.reduceAdd]
     refine aj hc (by simp [af.str]) ?_
     simp only [SS,Nat.reduceAdd,wb,we,wh,Option.isSome_none,e1,d2]
     exact ah▸ae rfl (af.bool _)
   have d2:decide ((200:Int)<(s.length:Int))=false:=ag (by omega)
   rw [ai h1,ai h2]
   cases h3:b7 (s.take k)
   . rw [h3] at yI
     simp only [Bool.and_false,Bool.false_and,Bool.false_eq_true,if_false,Option.isSome_none]
     refine VP.has h ?_
     simp only [dN,SS,Nat.reduceAdd]
     refine aj hc (by simp [af.str]) ?_
     simp only [SS,Nat.reduceAdd,wb,we,wh,e1,d2]
     refine aj yI (by simp [af.str]) ?_
     simp only [SS,Nat.reduceAdd]
     exact ah▸ae rfl (af.bool _)
   rw [h3] at yI
   have xj:(if (true&&true&&true&&s.all mq)=true then some (s.take k) else none).isSome=s.all mq:=by
     cases s.all mq<;>rfl
   rw [xj]
   refine VP.has h ?_
   simp only [dN,SS,Nat.reduceAdd]
   refine aj hc (by simp [af.str]) ?_
   simp only [SS,Nat.reduceAdd,wb,we,wh,e1,d2]
   refine aj yI (by simp [af.str]) ?_
   simp only [SS,Nat.reduceAdd,az]
   refine VW.bG (α := Nat × Nat) (fun x=>⟨[.str s]++List.replicate 29 .top++[.int .i64 (s.length:Int), .int .i64 (x.1:Int)]++List.replicate 13 .top,fun _=>none,x.2⟩)
     (fun x=>x.1<=s.length/\(s.take x.1).all mq=true) (fun x=>s.length-x.1) (0,1000) ?_ ⟨Nat.zero_le _,by simp⟩ ?_
   . exact Wk.slots (by simp [Fg,List.replicate]) (by omega)
   rintro ⟨i,nn⟩ ⟨hi,cx⟩
   simp only [] at hi cx
   by_cases hlt:i<s.length
   . obtain ⟨c,hc⟩:∃ c,s[i]? = some c:=⟨_,List.getElem?_eq_getElem hlt⟩
     have hm:=List.mem_of_getElem? hc
     have dd:decide ((i:Int)<(s.length:Int))=true:=ai (by omega)
     have JU:(ga c) = .int .u8 (c.toNat:Int):=rfl
     have dI:mq c=(!decide ((c.toNat:Int)<33) && !decide ((126:Int)<(c.toNat:Int))):=rfl
     have RF:mq c=false->s.all mq=false:=fun hb=>by
       rw [Bool.eq_false_iff];intro hh
       rw [List.all_eq_true] at hh
       rw [hh c hm] at hb;cases hb
     cases b1:decide ((c.toNat:Int)<33)
     . cases b2:decide ((126:Int)<(c.toNat:Int))
       . simp only [SS,Nat.reduceAdd,List.replicate,dd,dH hc,JU,b1,b2,ao i (by omega)]
         refine ⟨(i+1,_),⟨by simp only [];omega, ?_⟩,by simp only [];omega,Wk.slots (by simp [Fg]) (Nat.le_refl _)⟩
         simp only []
         rw [List.take_add_one,hc,List.all_append,cx]
         simp [dI,b1,b2]
       . rw [RF (by rw [dI,b1,b2];rfl)]
         simp only [SS,Nat.reduceAdd,List.replicate,dd,dH hc,JU,b1,b2]
         exact ah▸ae rfl (af.bool _)
     . rw [RF (by rw [dI,b1];rfl)]
       simp only [SS,Nat.reduceAdd,List.replicate,dd,dH hc,JU,b1]
       exact ah▸ae rfl (af.bool _)
   . have dd:decide ((i:Int)<(s.length:Int))=false:=ag (by omega)
     have fK:i=s.length:=by omega
     rw [fK,List.take_length] at cx
     rw [cx]
     simp only [SS,List.replicate,dd]
     exact ah▸ae rfl (af.bool _)
end
def KN (s:List UInt8) (i:Nat):Int:=match jG s with
 | some k=>if k<i then (k:Int) else -1-0
 | none => -1-0
section
variable {P:Program} {G:Nat->Option (List AV)}
theorem KO {f fn : FuncId} (h:Has P f (iF fn)) (s:List UInt8) (hl:s.length<=1000000) (hn:∀ s,VP P G fn [.str s] (.bool (b7 s))):VP P G f [.str s] (.str ((eK s).getD [])):=by
 have MU:(∃ c∈s,mq c=false)->(eK s).getD []=[]:=by
   rintro ⟨c,hm,hc⟩
   have:s.all mq=false:=by
     rw [Bool.eq_false_iff];intro hh
     rw [List.all_eq_true] at hh
     rw [hh c hm] at hc;cases hc
   unfold eK
   cases jG s with
   | none=>rfl
   | some k=>simp [this]
 refine VP.has h ?_
 simp only [iF,SS,Nat.reduceAdd,az]
 refine VW.bG (α := Nat × Nat) (fun x=>⟨[.str s, .top, .str [], .int .i64 (KN s x.1), .int .i64 (x.1:Int)]++List.replicate 49 .top,fun _=>none,x.2⟩)
   (fun x=>x.1<=s.length/\(s.take x.1).all mq=true) (fun x=>s.length-x.1) (0,1000) ?_ ⟨Nat.zero_le _,by simp⟩ ?_
 . have e0:KN s 0 = -1-0:=by unfold KN;split<;>simp
   simp only [e0]
   exact Wk.slots (by simp [Fg,List.replicate]) (by omega)
 rintro ⟨i,nn⟩ ⟨hi,cx⟩
 simp only [] at hi cx
 by_cases hlt:i<s.length
 . obtain ⟨c,hc⟩:∃ c,s[i]? = some c:=⟨_,List.getElem?_eq_getElem hlt⟩
   have hm:=List.mem_of_getElem? hc
   have dd:decide ((i:Int)<(s.length:Int))=true:=ai (by omega)
   have JU:(ga c) = .int .u8 (c.toNat:Int):=rfl
   have dI:mq c=(!decide ((c.toNat:Int)<33) && !decide ((126:Int)<(c.toNat:Int))):=rfl
   cases b1:decide ((c.toNat:Int)<33)
   . cases b2:decide ((126:Int)<(c.toNat:Int))
     . have Ae : (s.take (i+1)).all mq=true:=by
         rw [List.take_add_one,hc,List.all_append,cx]
         simp [dI,b1,b2]
       by_cases ZU:c=47
       . have d3 : decide ((c.toNat:Int)=47)=true:=by rw [ZU];rfl
         rw [ZU] at hc
         by_cases uS:KN s i<0
         . have d4:decide (KN s i<0)=true:=ai uS
           have e1:KN s (i+1)=(i:Int):=by
             unfold KN at uS ⊢
             cases hs:jG s with
             | none=>exact absurd hc (Cu hs)
             | some k =>
               rw [hs] at uS
               simp only [] at uS ⊢
               have hki : ¬ k<i:=by intro hk;rw [if_pos hk] at uS;omega
               have MB : ¬ i<k:=fun hik=>xS hs hik hc
               rw [if_pos (by omega)];omega
           rw [<- ZU] at hc
           simp only [SS,Nat.reduceAdd,dd,dH hc,JU,b1,b2,d3,d4,ao i (by omega)]
           refine ⟨(i+1,nn+1000),⟨by simp only [];omega,Ae⟩,by simp only [];omega, ?_⟩
           simp only [e1]
           exact Wk.slots (by simp [Fg]) (by omega)
         . have d4:decide (KN s i<0)=false:=ag uS
           have e1:KN s (i+1)=KN s i:=by
             unfold KN at uS ⊢
             cases hs:jG s with
             | none=>rfl
             | some k =>
               rw [hs] at uS
               simp only [] at uS ⊢
               have hki:k<i:=by
                 rcases Nat.lt_or_ge k i with q | q
                 . exact q
                 . rw [if_neg (by omega)] at uS;simp at uS
               rw [if_pos hki,if_pos (by omega)]
           rw [<- ZU] at hc
           simp only [SS,Nat.reduceAdd,dd,dH hc,JU,b1,b2,d3,d4,ao i (by omega)]
           refine ⟨(i+1,nn+1000),⟨by simp only [];omega,Ae⟩,by simp only [];omega, ?_⟩
           simp only [e1]
           exact Wk.slots (by simp [Fg]) (by omega)
       . have d3:decide ((c.toNat:Int)=47)=false:=ag (fun e=>ZU (by
           have:c.toNat=47:=by omega
           exact UInt8.toNat_inj.1 (by rw [this];rfl)))
         have e1:KN s (i+1)=KN s i:=by
           unfold KN
           cases hs:jG s with
           | none=>rfl
           | some k =>
             simp only []
             have hki:k≠i:=fun e=>by
               have:=IB hs
               rw [e,hc] at this
               exact ZU (Option.some.inj this)
             by_cases q:k<i
             . rw [if_pos q,if_pos (by omega)]
             . rw [if_neg q,if_neg (by omega)]
         simp only [SS,Nat.reduceAdd,dd,dH hc,JU,b1,b2,d3,ao i (by omega)]
         refine ⟨(i+1,nn+1000),⟨by simp only [];omega,Ae⟩,by simp only [];omega, ?_⟩
         simp only [e1]
         exact Wk.slots (by simp [Fg]) (by omega)
     . rw [MU ⟨c,hm,by rw [dI,b1,b2];rfl⟩]
       simp only [SS,Nat.reduceAdd,dd,dH hc,JU,b1,b2]
       exact ah▸ae rfl (af.str _)
   . rw [MU ⟨c,hm,by rw [dI,b1];rfl⟩]
     simp only [SS,Nat.reduceAdd,dd,dH hc,JU,b1]
     exact ah▸ae rfl (af.str _)
 . have dd:decide ((i:Int)<(s.length:Int))=false:=ag (by omega)
   have fK:i=s.length:=by omega
   rw [fK,List.take_length] at cx
   rw [fK]
   rw [fK] at dd
   unfold eK KN
   cases hs:jG s with
   | none =>
     have d1:decide ((-1-0:Int)<0)=true:=by decide
     simp only [SS,Nat.reduceAdd,dd,d1,Option.getD_none]
     exact ah▸ae rfl (af.str _)
   | some k =>
     have hk:=Ct hs
     have d1:decide ((k:Int)<0)=false:=ag (by omega)
     have hw:IntKind.i64.wrap ((s.length:Int)-1)=(s.length:Int)-1:=by rw [IntKind.wrap_i64];omega
     have vP:=zg (s:=s) (l:=k) (by omega)
     have yI:=hn (s.take k)
     rw [cx]
     simp only [hk,if_true]
     by_cases h1:k+1=s.length
     . have d2:decide ((k:Int)=(s.length:Int)-1)=true:=ai (by omega)
       rw [ag (by omega : ¬ k+1≠s.length),Bool.false_and,Bool.false_and,Bool.false_and,if_neg (by decide)]
       simp only [SS,Nat.reduceAdd,dd,d1,d2,hw,Option.getD_none]
       exact ah▸ae rfl (af.str _)
     have d2:decide ((k:Int)=(s.length:Int)-1)=false:=ag (by omega)
     by_cases h2:s.length<=200
     case neg =>
       have d3:decide ((200:Int)<(s.length:Int))=true:=ai (by omega)
       rw [ag h2,Bool.and_false,Bool.false_and,Bool.false_and,if_neg (by decide)]
       simp only [SS,Nat.reduceAdd,dd,d1,d2,d3,hw,Option.getD_none]
       exact ah▸ae rfl (af.str _)
     have d3:decide ((200:Int)<(s.length:Int))=false:=ag (by omega)
     rw [ai h1,ai h2]
     cases h3:b7 (s.take k)
     . rw [h3] at yI
       simp only [SS,Nat.reduceAdd,dd,d1,d2,d3,hw,vP,Bool.and_false,Bool.and_true,Option.getD_none]
       refine aj yI (by simp [af.str]) ?_
       simp only [SS,Nat.reduceAdd]
       exact ah▸ae rfl (af.str _)
     . rw [h3] at yI
       simp only [SS,Nat.reduceAdd,dd,d1,d2,d3,hw,vP,Bool.and_true,Option.getD_some]
       refine aj yI (by simp [af.str]) ?_
       simp only [SS,Nat.reduceAdd,vP]
       exact ah▸ae rfl (af.str _)
end
section
variable {P:Program} {G:Nat->Option (List AV)}
theorem mr {f:FuncId} (h:Has P f aR) {es:List AV} (hk:∀ e∈es,e.size=1) (h1:(es.all fun e=>e.cells.all AV.one)=true) (hp:∀ c∈flat es,af c) (hl:es.length*16<=140737488355328):VP P G f [.sl 1 es] (.sl 1 es):=by
 refine VP.has h ?_
 have hb:∀ (σ : aa) (p:Id),bu σ p (.buildSl 1 0 (AV.str []) [])=some { val := .tsl 1 [] }:=fun σ p=>Wp rfl rfl
 cases es with
 | nil =>
   simp only [aR,SS,Nat.reduceAdd]
   refine ⟨?_, ?_⟩
   . exact ah▸⟨.nils,rfl,View.nils 1⟩
   . simp only [SS,Nat.reduceAdd,hb,gR dM]
     exact ah▸⟨_,rfl,View.FK 1⟩
 | cons e es =>
   simp only [aR,SS,Nat.reduceAdd,hb]
   rw [cY (es:=[]) dM (by simp) (by simpa using hl) (bE (by simp at hl ⊢;omega)) (by simpa using h1)]
   simp only [SS,Nat.reduceAdd]
   refine ah▸⟨_,rfl,View.osl (bk:=⟨e::es,1,false⟩) rfl rfl (by simp) ?_ (by simp) hk⟩
   simpa using aI.pure hp
theorem dh {f:FuncId} (h:Has P f aE) {es:List AV} (hk:∀ e∈es,e.size=7) (h1:(es.all fun e=>e.cells.all AV.one)=true) (hp:∀ c∈flat es,af c) (hl:es.length*112<=140737488355328):VP P G f [.sl 7 es] (.sl 7 es):=by
 refine VP.has h ?_
 have hb:∀ (σ : aa) (p:Id),bu σ p (.buildSl 7 0 (AV.agg [(.int .i64 (0)),(.bool false), .nils,(.bool false), .nils,(.str []), .nils]) [])=some { val := .tsl 7 [] }:=fun σ p=>Wp rfl rfl
 cases es with
 | nil =>
   simp only [aE,SS,Nat.reduceAdd]
   refine ⟨?_, ?_⟩
   . exact ah▸⟨.nils,rfl,View.nils 7⟩
   . simp only [SS,Nat.reduceAdd,hb,gR dM]
     exact ah▸⟨_,rfl,View.FK 7⟩
 | cons e es =>
   simp only [aE,SS,Nat.reduceAdd,hb]
   rw [cY (es:=[]) dM (by simp) (by simpa using hl) (bE (by simp at hl ⊢;omega)) (by simpa using h1)]
   simp only [SS,Nat.reduceAdd]
   refine ah▸⟨_,rfl,View.osl (bk:=⟨e::es,7,false⟩) rfl rfl (by simp) ?_ (by simp) hk⟩
   simpa using aI.pure hp
theorem OK (l:List bK):((l.map bK.av).all fun e=>e.cells.all AV.one)=true:=by
 rw [List.all_eq_true];intro e he;simp only [List.mem_map] at he;obtain ⟨F,_,rfl⟩:=he;exact F.one▸trivial
theorem OL {f:FuncId} (h:Has P f a7) {l:List bK} (hne:l≠[]) (hl:l.length*80<=140737488355328) (p:Id) :
   aq P G f [EI l] p [] { val := .osl (5::p) 5 0 l.length false,rd:=[],up:=[(5::p,some ⟨l.map bK.av,5,false⟩)] }:=by
 refine aq.has h ?_
 have hb:∀ (σ : aa) (p:Id),bu σ p (.buildSl 5 0 (.agg [(.str []),(.int .i64 (0)), .nils, .nils,(.bool false)]) [])=some { val := .tsl 5 [] }:=fun σ p=>Wp rfl rfl
 have tk:=OK l
 cases l with
 | nil=>exact absurd rfl hne
 | cons F l =>
   simp only [List.map_cons] at tk
   simp only [a7,EI,SS,Nat.reduceAdd,hb]
   rw [cY (es:=[]) dM (by simp) (by simpa using hl) (bE (by simp at hl ⊢;omega)) (by simpa using tk)]
   simp only [SS,Nat.reduceAdd]
   refine bZ▸aW (by simp [fY,iR]) fun i => ?_
   by_cases hi:i=5::p
   . right;subst hi;simp [aa.app,aa.put]
   . left;simp [aa.app,aa.put,hi,aa.of]
end
section
variable {P:Program} {G:Nat->Option (List AV)}
theorem mG:(AV.cells (.agg [(.str []),(.int .i64 (0)), .nils, .nils,(.bool false)])).all AV.one=true:=rfl
end
structure FX where
 name:List UInt8
 kind:Int
 inputs:List (List UInt8)
 vals:List EX
 supp:Bool
def FX.eG (X:FX):bK:=⟨X.name,X.kind,X.inputs,EX.dy X.vals,X.supp⟩
def FX.av (X:FX):AV:=X.eG.av
structure FX.Ok (X:FX):Prop where
 name:X.name.length<=9223372036854775807
 ins:X.inputs.length<=9223372036854775807
 inl:∀ s∈X.inputs,s.length<=9223372036854775807
 vl:X.vals.length<=9223372036854775807
 vals:∀ e∈X.vals,e.Ok
theorem FX.pure (X:FX):af X.eG.av:=af.agg (by
 intro c hc
 simp [FX.eG] at hc
 rcases hc with rfl | rfl | rfl | rfl | rfl
 . exact af.str _
 . exact af.int _ _
 . exact gq _
 . exact EX.fQ _
 . exact af.bool _)
theorem FX.RG {X:FX} (hi:X.inputs.length<=1000) (MV:X.vals.length<=1000):X.eG.Ok:=⟨fun v hv=>by
 show qO v
 have hv':v∈EX.dy X.vals:=hv
 rw [EX.bY] at hv'
 obtain ⟨e,_,rfl⟩:=List.mem_map.1 hv'
 exact e.like,by show X.inputs.length<_;omega,by show (EX.dy X.vals).length<_;rw [EX.cL];omega⟩
def sL (e:EX):Bool:=e.formed&&decide (e.depth<=40)
def FX.valid (X:FX):Bool:=b7 X.name&&decide (1<=X.kind)&&decide (X.kind<=6)&&decide (X.inputs.length<=50)&&decide (X.vals.length<=10)&&X.inputs.all (fun s=>(eK s).isSome)&&X.vals.all sL
def mw (e:EX):Bool:=decide (e.nodes<=120)&&e.lT
def FX.small (X:FX):Bool:=decide (X.inputs.length<=60)&&decide (X.vals.length<=12)&&decide (X.name.length<=100)&&X.inputs.all (fun s=>decide (s.length<=300))&&X.vals.all mw
noncomputable def exP (q:EX->Bool) (v:AV):Bool := @decide (∃ e:EX,e.av=v/\q e=true) (Classical.propDecidable _)
theorem RH (q:EX->Bool) (e:EX):exP q e.av=q e:=by
 unfold exP
 cases h:q e
 . refine @decide_eq_false _ (Classical.propDecidable _) ?_
   rintro ⟨e',h1,h2⟩
   rw [EX.Ry _ _ h1] at h2
   rw [h] at h2;cases h2
 . exact @decide_eq_true _ (Classical.propDecidable _) ⟨e,rfl,h⟩
def ae4 (q:List UInt8->Bool):AV->Bool
 | .str s=>q s
 | _=>false
theorem UQ (q:EX->Bool) (l:List EX):(EX.dy l).any (exP q)=l.any q:=by
 rw [EX.bY,List.any_map]
 congr 1;funext e;exact RH q e
theorem RJ (q:List UInt8->Bool) (l:List (List UInt8)):(l.map AV.str).any (ae4 q)=l.any q:=by
 rw [List.any_map];rfl
theorem MW {α : Type} (p : α -> Bool) (l:List α):(l.any fun x => !p x) = !l.all p:=by
 induction l with
 | nil=>rfl
 | cons a l ih=>simp only [List.any_cons,List.all_cons,ih,Bool.not_and]
section
variable {P:Program} {G:Nat->Option (List AV)}
theorem OM {f fv:FuncId} (h:Has P f (lR fv)) (s:List UInt8) {b:Bool} (hv:VP P G fv [.str s] (.bool b)):VP P G f [.str s] (.bool (!b)):=by
 refine VP.has h ?_
 simp only [lR,SS,Nat.reduceAdd]
 refine aj hv (by simp [af.str]) ?_
 simp only [SS,Nat.reduceAdd]
 exact ah▸ae rfl (af.bool _)
theorem OO {f fv:FuncId} (h:Has P f (lS fv)) (e:EX) (hv:VP P G fv [e.av] (.int .i64 (if e.formed=true then (if 40<e.depth then 3 else 0) else 1))):VP P G f [e.av] (.bool (!sL e)):=by
 have hd:decide ((if e.formed=true then (if 40<e.depth then (3:Int) else 0) else 1)≠0) = !sL e:=by
   unfold sL
   cases e.formed
   . rfl
   . by_cases h40:40<e.depth
     . have : ¬ e.depth<=40:=by omega
       simp [h40,this]
     . have:e.depth<=40:=by omega
       simp [h40,this]
 refine VP.has h ?_
 simp only [lS,SS,Nat.reduceAdd,EX.one,ak,EX.all]
 refine aj hv (by simp [EX.pure]) ?_
 simp only [SS,Nat.reduceAdd,hd]
 exact ah▸ae rfl (af.bool _)
theorem OP (l:List (List UInt8)):∀ e∈l.map AV.str,part false e.cells 0 1=some e:=by
 intro e he
 obtain ⟨s,_,rfl⟩:=List.mem_map.1 he
 rfl
theorem OQ {f fn ZR v1 ZT v2 fi1 fi2:FuncId} (h:Has P f (k7 fn ZR v1 ZT v2)) (hn:∀ s,VP P G fn [.str s] (.bool (b7 s))) (PF:Has P ZR (cH fi1)) (TF:Has P fi1 dv)
   (H4:Has P ZT (cu fi2)) (DU:Has P fi2 cE) (X:FX) (hX:X.Ok) (hi:X.inputs.length<=1000) (MV:X.vals.length<=1000)
   (l0:∀ s∈X.inputs,VP P G v1 [.str s] (.bool (!(eK s).isSome))) (oG:∀ e∈X.vals,VP P G v2 [e.av] (.bool (!sL e))):VP P G f [X.av] (.bool X.valid):=by
 have h1:VP P G ZR [strs X.inputs, .fn (.func v1) [] []] (.bool (!X.inputs.all (fun s=>(eK s).isSome))):=by
   rw [<- MW, <- RJ]
   refine kD PF (lh TF (OP _) ?_ ?_ (by simp) (by simp) (by rw [List.length_map];omega)) (gq _) (tY _)
   all_goals
     intro v hv
     obtain ⟨s,hs,rfl⟩:=List.mem_map.1 hv
   . exact l0 s hs
   . exact af.str _
 have h2:VP P G ZT [.sl 7 (EX.dy X.vals), .fn (.func v2) [] []] (.bool (!X.vals.all sL)):=by
   rw [<- MW, <- UQ]
   refine eY H4 (gi DU ?_ ?_ ?_ (by simp) (by simp) (by rw [EX.cL];omega)) (EX.fQ _) (tY _)
   all_goals
     intro v hv
     rw [EX.bY] at hv
     obtain ⟨x,hx,rfl⟩:=List.mem_map.1 hv
   . exact EX.all x
   . rw [RH];exact oG x hx
   . exact EX.pure x
 have:=Rx h hn X.eG (FX.RG hi MV) (fun _=>h1) (fun _=>h2)
 have e:(b7 X.eG.name&&decide (1<=X.eG.kind)&&decide (X.eG.kind<=6)&&decide (X.eG.inputs.length<=50)&&decide (X.eG.values.length<=10) && !(!X.inputs.all (fun s=>(eK s).isSome)) && !(!X.vals.all sL))=X.valid:=by
   unfold FX.valid
   rw [Bool.not_not,Bool.not_not]
   show (b7 X.name&&decide (1<=X.kind)&&decide (X.kind<=6)&&decide (X.inputs.length<=50)&&decide ((EX.dy X.vals).length<=10)&&_&&_)=_
   rw [EX.cL]
 rw [e] at this
 exact this
theorem RL {f:FuncId} (h:Has P f kq) (l:List (List UInt8)) (hl:l.length<=1000000) (s:List UInt8):VP P G f [strs l, .str s] (.bool (l.contains s)):=by
 refine VP.has h ?_
 have hlen:ky false (strs l)=some (.int .i64 l.length):=by simp [strs,ky]
 simp only [kq,SS,Nat.reduceAdd,az]
 refine VW.bG (α := Nat × Nat) (fun x=>⟨[strs l, .str s, .top, .top, .bool false, .int .i64 (x.1:Int)]++List.replicate 12 .top,fun _=>none,x.2⟩)
   (fun x=>x.1<=l.length/\(l.take x.1).contains s=false) (fun x=>l.length-x.1) (0,1000) ?_ ⟨Nat.zero_le _,by simp⟩ ?_
 . exact Wk.slots (by simp [Fg,List.replicate]) (by omega)
 rintro ⟨i,nn⟩ ⟨hi,hno⟩
 simp only [] at hi hno
 by_cases hlt:i<l.length
 . obtain ⟨c,hc⟩:∃ c,l[i]? = some c:=⟨_,List.getElem?_eq_getElem hlt⟩
   have hm:=List.mem_of_getElem? hc
   have hg:(l.map AV.str)[i]? = some (.str c):=by rw [List.getElem?_map,hc];rfl
   have dd:decide ((i:Int)<(l.length:Int))=true:=ai (by omega)
   have AH:part false (AV.str c).cells 0 1=some (.str c):=rfl
   have fT:aV 1 (strs l) (.int .i64 (i:Int))=some (.ep (AV.str c).cells 0):=aN rfl hg
   cases b:(c==s)
   . simp only [SS,Nat.reduceAdd,hlen,dd,fT,ax,AH,b,ao i (by omega)]
     refine ⟨(i+1,nn+1000),⟨by simp only [];omega, ?_⟩,by simp only [];omega,Wk.slots (by simp [Fg]) (by omega)⟩
     simp only []
     have hcs : ¬ c=s:=by simpa using b
     have ae5 : ¬ s∈l.take i:=by simpa using hno
     rw [List.take_add_one,hc,Option.toList_some]
     simp only [List.contains_eq_mem,List.mem_append,List.mem_singleton]
     exact decide_eq_false (by rintro (q | q);exact ae5 q;exact hcs q.symm)
   . have hcs:c=s:=by simpa using b
     have:l.contains s=true:=by rw [<- hcs];simpa using hm
     rw [this]
     simp only [SS,Nat.reduceAdd,hlen,dd,fT,ax,AH,b]
     exact ah▸ae rfl (af.bool _)
 . have dd:decide ((i:Int)<(l.length:Int))=false:=ag (by omega)
   have fK:i=l.length:=by omega
   rw [fK,List.take_length] at hno
   rw [hno]
   simp only [SS,Nat.reduceAdd,hlen,dd]
   exact ah▸ae rfl (af.bool _)
end
theorem FX.ua (X:FX):X.eG.name=X.name:=rfl
theorem FX.Cv (X:FX):X.eG.kind=X.kind:=rfl
theorem FX.gV (X:FX):X.eG.inputs=X.inputs:=rfl
theorem FX.lU (X:FX):X.eG.values=EX.dy X.vals:=rfl
theorem dC (l:List (List UInt8)):ky false (strs l)=some (.int .i64 l.length):=by simp [strs,ky]
theorem OR (e:EX):decide ((if e.formed=true then (if 40<e.depth then (3:Int) else 0) else 1)≠0) = !sL e:=by
 unfold sL
 cases e.formed
 . rfl
 . by_cases h40:40<e.depth
   . have : ¬ e.depth<=40:=by omega
     simp [h40,this]
   . have:e.depth<=40:=by omega
     simp [h40,this]
theorem Gf (s:List UInt8):((eK s).getD []==([]:List UInt8)) = !(eK s).isSome:=by
 unfold eK
 cases hs:jG s with
 | none=>rfl
 | some k =>
   simp only []
   split
   . rename_i h
     simp only [Bool.and_eq_true] at h
     have hn:=h.1.2
     cases ht:s.take k with
     | nil=>rw [ht] at hn;cases hn
     | cons a l=>rfl
   . rfl
section
variable {P:Program} {G:Nat->Option (List AV)}
theorem IC {f fn fv ff:FuncId} (h:Has P f (cD fn fv ff)) (X:FX) (hX:X.Ok) (hn:VP P G fn [.str X.name] (.bool (b7 X.name)))
   (hv:∀ e∈X.vals,VP P G fv [e.av] (.int .i64 (if e.formed=true then (if 40<e.depth then 3 else 0) else 1))) (hf:∀ s∈X.inputs,VP P G ff [.str s] (.str ((eK s).getD []))):VP P G f [X.av] (.bool X.valid):=by
 show VP P G f [X.eG.av] _
 have sM:=FX.pure X
 have il:=hX.ins
 have vl:=hX.vl
 unfold FX.valid
 have k1:decide (X.kind<1) = !decide (1<=X.kind):=by by_cases q:1<=X.kind<;>simp [q]<;>omega
 have k2:decide (6<X.kind) = !decide (X.kind<=6):=by by_cases q:X.kind<=6<;>simp [q]<;>omega
 have k3:decide ((50:Int)<(X.inputs.length:Int)) = !decide (X.inputs.length<=50):=by by_cases q:X.inputs.length<=50<;>simp [q]<;>omega
 have k4:decide ((10:Int)<(X.vals.length:Int)) = !decide (X.vals.length<=10):=by by_cases q:X.vals.length<=10<;>simp [q]<;>omega
 cases b1:b7 X.name
 . rw [b1] at hn
   refine VP.has h ?_
   simp only [cD,SS,Nat.reduceAdd,bK.one,ak,bK.p0,FX.ua]
   refine aj hn (by simp [af.str]) ?_
   simp only [SS,Nat.reduceAdd,Bool.false_and]
   exact ah▸ae rfl (af.bool _)
 rw [b1] at hn
 cases b2:decide (1<=X.kind)
 . rw [b2] at k1
   refine VP.has h ?_
   simp only [cD,SS,Nat.reduceAdd,bK.one,ak,bK.p0,FX.ua]
   refine aj hn (by simp [af.str]) ?_
   simp only [SS,Nat.reduceAdd,ak,bK.p1,FX.Cv,k1,Bool.false_and,Bool.and_false]
   exact ah▸ae rfl (af.bool _)
 rw [b2] at k1
 cases b3:decide (X.kind<=6)
 . rw [b3] at k2
   refine VP.has h ?_
   simp only [cD,SS,Nat.reduceAdd,bK.one,ak,bK.p0,FX.ua]
   refine aj hn (by simp [af.str]) ?_
   simp only [SS,Nat.reduceAdd,ak,bK.p1,FX.Cv,k1,k2,Bool.false_and,Bool.and_false]
   exact ah▸ae rfl (af.bool _)
 rw [b3] at k2
 cases b4:decide (X.inputs.length<=50)
 . rw [b4] at k3
   refine VP.has h ?_
   simp only [cD,SS,Nat.reduceAdd,bK.one,ak,bK.p0,FX.ua]
   refine aj hn (by simp [af.str]) ?_
   simp only [SS,Nat.reduceAdd,ak,bK.p1,bK.p2,FX.Cv,FX.gV,dC,k1,k2,k3,Bool.false_and,Bool.and_false]
   exact ah▸ae rfl (af.bool _)
 rw [b4] at k3
 cases b5:decide (X.vals.length<=10)
 . rw [b5] at k4
   refine VP.has h ?_
   simp only [cD,SS,Nat.reduceAdd,bK.one,ak,bK.p0,FX.ua]
   refine aj hn (by simp [af.str]) ?_
   simp only [SS,Nat.reduceAdd,ak,bK.p1,bK.p2,bK.p3,FX.Cv,FX.gV,FX.lU,dC,EX.cL,k1,k2,k3,k4,Bool.false_and,Bool.and_false]
   exact ah▸ae rfl (af.bool _)
 rw [b5] at k4
 refine VP.has h ?_
 simp only [cD,SS,Nat.reduceAdd,bK.one,ak,bK.p0,FX.ua]
 refine aj hn (by simp [af.str]) ?_
 simp only [SS,Nat.reduceAdd,ak,bK.p1,bK.p2,bK.p3,FX.Cv,FX.gV,FX.lU,dC,EX.cL,k1,k2,k3,k4,Bool.true_and,az]
 refine VW.bG (α := Nat × Nat) (fun x=>⟨[X.eG.av, .ref [0] 0 0, .bool false, .int .i64 (x.1:Int)]++List.replicate 55 .top,aa.put (fun _=>none) [0] (some ⟨[X.eG.av],5,false⟩),x.2⟩)
   (fun x=>x.1<=X.vals.length/\(X.vals.take x.1).all sL=true) (fun x=>X.vals.length-x.1) (0,1000) ?_ ⟨Nat.zero_le _,by simp⟩ ?_
 . exact Wk.slots (by simp [Fg,List.replicate]) (by omega)
 rintro ⟨i,nn⟩ ⟨hi,cx⟩
 simp only [] at hi cx
 by_cases hlt:i<X.vals.length
 . obtain ⟨e,he⟩:∃ e,X.vals[i]? = some e:=⟨_,List.getElem?_eq_getElem hlt⟩
   have hm:=List.mem_of_getElem? he
   have hg:(EX.dy X.vals)[i]? = some e.av:=by rw [EX.bY,List.getElem?_map,he];rfl
   have dd:decide ((i:Int)<(X.vals.length:Int))=true:=ai (by omega)
   have MX:=OR e
   simp only [SS,Nat.reduceAdd,ak,bK.p3,FX.lU,EX.cL,dd,aN rfl hg,ax,EX.all]
   refine aj (hv e hm) (by simp [EX.pure]) ?_
   cases rn:sL e
   . rw [rn] at MX
     have:X.vals.all sL=false:=by
       rw [Bool.eq_false_iff];intro hh
       rw [List.all_eq_true] at hh
       rw [hh e hm] at rn;cases rn
     rw [this]
     simp only [SS,Nat.reduceAdd,MX,Bool.and_false]
     exact ah▸ae rfl (af.bool _)
   . rw [rn] at MX
     simp only [SS,Nat.reduceAdd,MX,ao i (by omega)]
     refine ⟨(i+1,nn+1000),⟨by simp only [];omega, ?_⟩,by simp only [];omega,Wk.slots (by simp [Fg]) (by omega)⟩
     simp only []
     rw [List.take_add_one,he,List.all_append,cx]
     simp [rn]
 . have dd:decide ((i:Int)<(X.vals.length:Int))=false:=ag (by omega)
   have fK:i=X.vals.length:=by omega
   rw [fK,List.take_length] at cx
   rw [cx,Bool.and_true]
   simp only [SS,Nat.reduceAdd,ak,bK.p3,FX.lU,EX.cL,dd,az]
   refine VW.bG (α := Nat × Nat) (fun x=>⟨[X.eG.av, .ref [0] 0 0, .bool false, .top, .int .i64 (x.1:Int)]++List.replicate 54 .top,aa.put (fun _=>none) [0] (some ⟨[X.eG.av],5,false⟩),x.2⟩)
     (fun x=>x.1<=X.inputs.length/\(X.inputs.take x.1).all (fun s=>(eK s).isSome)=true) (fun x=>X.inputs.length-x.1) (0,nn+1000) ?_ ⟨Nat.zero_le _,by simp⟩ ?_
   . exact Wk.slots (by simp [Fg,List.replicate]) (by omega)
   rintro ⟨j,mm⟩ ⟨hj,xT⟩
   simp only [] at hj xT
   by_cases pV:j<X.inputs.length
   . obtain ⟨s,hs⟩:∃ s,X.inputs[j]? = some s:=⟨_,List.getElem?_eq_getElem pV⟩
     have hm:=List.mem_of_getElem? hs
     have hg:(X.inputs.map AV.str)[j]? = some (.str s):=by rw [List.getElem?_map,hs];rfl
     have fT:aV 1 (strs X.inputs) (.int .i64 (j:Int))=some (.ep (AV.str s).cells 0):=aN rfl hg
     have AH:part false (AV.str s).cells 0 1=some (.str s):=rfl
     have dd:decide ((j:Int)<(X.inputs.length:Int))=true:=ai (by omega)
     have MX:=Gf s
     simp only [SS,Nat.reduceAdd,ak,bK.p2,FX.gV,dC,dd,fT,ax,AH]
     refine aj (hf s hm) (by simp [af.str]) ?_
     cases rn:(eK s).isSome
     . rw [rn] at MX
       have:X.inputs.all (fun s=>(eK s).isSome)=false:=by
         rw [Bool.eq_false_iff];intro hh
         rw [List.all_eq_true] at hh
         have:=hh s hm
         rw [rn] at this;cases this
       rw [this]
       simp only [SS,Nat.reduceAdd,MX]
       exact ah▸ae rfl (af.bool _)
     . rw [rn] at MX
       simp only [SS,Nat.reduceAdd,MX,ao j (by omega)]
       refine ⟨(j+1,mm+1000),⟨by simp only [];omega, ?_⟩,by simp only [];omega,Wk.slots (by simp [Fg]) (by omega)⟩
       simp only []
       rw [List.take_add_one,hs,List.all_append,xT]
       simp [rn]
   . have dd:decide ((j:Int)<(X.inputs.length:Int))=false:=ag (by omega)
     have hj':j=X.inputs.length:=by omega
     rw [hj',List.take_length] at xT
     rw [xT]
     simp only [SS,Nat.reduceAdd,ak,bK.p2,FX.gV,dC,dd]
     exact ah▸ae rfl (af.bool _)
theorem ID {f fs:FuncId} (h:Has P f (dR fs)) (X:FX) (hX:X.Ok) (hs:∀ e∈X.vals,VP P G fs [e.av] (.bool (mw e))):VP P G f [X.av] (.bool X.small):=by
 show VP P G f [X.eG.av] _
 have sM:=FX.pure X
 have il:=hX.ins
 have vl:=hX.vl
 unfold FX.small
 have k3:decide ((60:Int)<(X.inputs.length:Int)) = !decide (X.inputs.length<=60):=by by_cases q:X.inputs.length<=60<;>simp [q]<;>omega
 have k4:decide ((12:Int)<(X.vals.length:Int)) = !decide (X.vals.length<=12):=by by_cases q:X.vals.length<=12<;>simp [q]<;>omega
 have k5:decide ((100:Int)<(X.name.length:Int)) = !decide (X.name.length<=100):=by by_cases q:X.name.length<=100<;>simp [q]<;>omega
 cases b3:decide (X.inputs.length<=60)
 . rw [b3] at k3
   refine VP.has h ?_
   simp only [dR,SS,Nat.reduceAdd,bK.one,ak,bK.p2,FX.gV,dC,k3,Bool.false_and]
   exact ah▸ae rfl (af.bool _)
 rw [b3] at k3
 cases b4:decide (X.vals.length<=12)
 . rw [b4] at k4
   refine VP.has h ?_
   simp only [dR,SS,Nat.reduceAdd,bK.one,ak,bK.p2,bK.p3,FX.gV,FX.lU,dC,EX.cL,k3,k4,Bool.false_and,Bool.and_false]
   exact ah▸ae rfl (af.bool _)
 rw [b4] at k4
 cases b5:decide (X.name.length<=100)
 . rw [b5] at k5
   refine VP.has h ?_
   simp only [dR,SS,Nat.reduceAdd,bK.one,ak,bK.p0,bK.p2,bK.p3,FX.ua,FX.gV,FX.lU,dC,EX.cL,k3,k4,k5,Bool.false_and,Bool.and_false]
   exact ah▸ae rfl (af.bool _)
 rw [b5] at k5
 refine VP.has h ?_
 simp only [dR,SS,Nat.reduceAdd,bK.one,ak,bK.p0,bK.p2,bK.p3,FX.ua,FX.gV,FX.lU,dC,EX.cL,k3,k4,k5,Bool.true_and,az]
 refine VW.bG (α := Nat × Nat) (fun x=>⟨[X.eG.av, .ref [0] 0 0, .bool false, .int .i64 (x.1:Int)]++List.replicate 45 .top,aa.put (fun _=>none) [0] (some ⟨[X.eG.av],5,false⟩),x.2⟩)
   (fun x=>x.1<=X.inputs.length/\(X.inputs.take x.1).all (fun s=>decide (s.length<=300))=true) (fun x=>X.inputs.length-x.1) (0,1000) ?_ ⟨Nat.zero_le _,by simp⟩ ?_
 . exact Wk.slots (by simp [Fg,List.replicate]) (by omega)
 rintro ⟨j,mm⟩ ⟨hj,xT⟩
 simp only [] at hj xT
 by_cases pV:j<X.inputs.length
 . obtain ⟨s,mV⟩:∃ s,X.inputs[j]? = some s:=⟨_,List.getElem?_eq_getElem pV⟩
   have hm:=List.mem_of_getElem? mV
   have vP:=hX.inl s hm
   have hg:(X.inputs.map AV.str)[j]? = some (.str s):=by rw [List.getElem?_map,mV];rfl
   have fT:aV 1 (strs X.inputs) (.int .i64 (j:Int))=some (.ep (AV.str s).cells 0):=aN rfl hg
   have AH:part false (AV.str s).cells 0 1=some (.str s):=rfl
   have dd:decide ((j:Int)<(X.inputs.length:Int))=true:=ai (by omega)
   have MX:decide ((300:Int)<(s.length:Int)) = !decide (s.length<=300):=by by_cases q:s.length<=300<;>simp [q]<;>omega
   cases rn:decide (s.length<=300)
   . rw [rn] at MX
     have:X.inputs.all (fun s=>decide (s.length<=300))=false:=by
       rw [Bool.eq_false_iff];intro hh
       rw [List.all_eq_true] at hh
       have:=hh s hm
       rw [rn] at this;cases this
     rw [this]
     simp only [SS,Nat.reduceAdd,ak,bK.p2,FX.gV,dC,dd,fT,ax,AH,MX,Bool.false_and]
     exact ah▸ae rfl (af.bool _)
   . rw [rn] at MX
     simp only [SS,Nat.reduceAdd,ak,bK.p2,FX.gV,dC,dd,fT,ax,AH,MX,ao j (by omega)]
     refine ⟨(j+1,mm+1000),⟨by simp only [];omega, ?_⟩,by simp only [];omega,Wk.slots (by simp [Fg]) (by omega)⟩
     simp only []
     rw [List.take_add_one,mV,List.all_append,xT]
     simpa using rn
 . have dd:decide ((j:Int)<(X.inputs.length:Int))=false:=ag (by omega)
   have hj':j=X.inputs.length:=by omega
   rw [hj',List.take_length] at xT
   rw [xT,Bool.true_and]
   simp only [SS,Nat.reduceAdd,ak,bK.p2,FX.gV,dC,dd,az]
   refine VW.bG (α := Nat × Nat) (fun x=>⟨[X.eG.av, .ref [0] 0 0, .bool false, .top, .int .i64 (x.1:Int)]++List.replicate 44 .top,aa.put (fun _=>none) [0] (some ⟨[X.eG.av],5,false⟩),x.2⟩)
     (fun x=>x.1<=X.vals.length/\(X.vals.take x.1).all mw=true) (fun x=>X.vals.length-x.1) (0,mm+1000) ?_ ⟨Nat.zero_le _,by simp⟩ ?_
   . exact Wk.slots (by simp [Fg,List.replicate]) (by omega)
   rintro ⟨i,nn⟩ ⟨hi,cx⟩
   simp only [] at hi cx
   by_cases hlt:i<X.vals.length
   . obtain ⟨e,he⟩:∃ e,X.vals[i]? = some e:=⟨_,List.getElem?_eq_getElem hlt⟩
     have hm:=List.mem_of_getElem? he
     have hg:(EX.dy X.vals)[i]? = some e.av:=by rw [EX.bY,List.getElem?_map,he];rfl
     have dd:decide ((i:Int)<(X.vals.length:Int))=true:=ai (by omega)
     simp only [SS,Nat.reduceAdd,ak,bK.p3,FX.lU,EX.cL,dd,aN rfl hg,ax,EX.all]
     refine aj (hs e hm) (by simp [EX.pure]) ?_
     cases rn:mw e
     . have:X.vals.all mw=false:=by
         rw [Bool.eq_false_iff];intro hh
         rw [List.all_eq_true] at hh
         rw [hh e hm] at rn;cases rn
       rw [this]
       simp only [SS,Nat.reduceAdd]
       exact ah▸ae rfl (af.bool _)
     . simp only [SS,Nat.reduceAdd,ao i (by omega)]
       refine ⟨(i+1,nn+1000),⟨by simp only [];omega, ?_⟩,by simp only [];omega,Wk.slots (by simp [Fg]) (by omega)⟩
       simp only []
       rw [List.take_add_one,he,List.all_append,cx]
       simp [rn]
   . have dd:decide ((i:Int)<(X.vals.length:Int))=false:=ag (by omega)
     have fK:i=X.vals.length:=by omega
     rw [fK,List.take_length] at cx
     rw [cx]
     simp only [SS,Nat.reduceAdd,ak,bK.p3,FX.lU,EX.cL,dd]
     exact ah▸ae rfl (af.bool _)
end
theorem r6 {σ : aa} {q:Id} {x:List UInt8}:bu σ q (.buildSl 1 1 (.str []) [(0, .str x)])=some { val := .osl q 1 0 1 false,up:=[(q,some ⟨[.str x],1,false⟩)] }:=XA rfl rfl rfl rfl
theorem qR (l:List (List UInt8)):((l.map AV.str).all fun e=>e.cells.all AV.one)=true:=by
 rw [List.all_eq_true];intro e he;obtain ⟨s,_,rfl⟩:=List.mem_map.1 he;rfl
theorem mR {σ : aa} {p q:Id} {x:List UInt8}:bQ (σ.put q (some ⟨[.str x],1,false⟩)) p 1 16 .nils (.osl q 1 0 1 false)=some { val := .osl p 1 0 1 false,rd:=[q],up:=[(p,some ⟨[.str x],1,false⟩)] } :=
 nF (x := .osl q 1 0 1 false) (ys:=[.str x]) (dY (bk:=⟨[.str x],1,false⟩) (aa.a6 _ _ _) rfl (by simp)) (by simp) (by simp) (bE (by simp)) (qR [x])
theorem xU {σ : aa} {p id q:Id} {o:List (List UInt8)} {x:List UInt8} (hq:q≠id) (hb:o.length<=1000000) (h : σ id=some ⟨o.map .str,1,false⟩) :
   bQ (σ.put q (some ⟨[.str x],1,false⟩)) p 1 16 (.osl id 1 0 o.length false) (.osl q 1 0 1 false)=some { val := .osl p 1 0 (o.length+1) false,rd:=[id,q],up:=[(id,none),(p,some ⟨(o++[x]).map .str,1,false⟩)] }:=by
 have:=jf (σ := σ.put q (some ⟨[.str x],1,false⟩)) (p:=p) (id:=id) (k:=1) (bytes:=16) (len:=o.length) (els:=o.map .str) (x := .osl q 1 0 1 false) (ys:=[.str x]) (rd:=[q])
   (dY (bk:=⟨[.str x],1,false⟩) (aa.a6 _ _ _) rfl (by simp)) (by simp) (by rw [aa.bb _ _ _ hq.symm];exact h) (by rw [List.length_map]) (by simp;omega) (bE (by simp;omega)) (qR [x]) (qR o)
 rw [this,List.map_append]
 simp
def uT (ck:Nat) (l:List (List UInt8)):AV:=if l=[] then .nils else .osl [ck] 1 0 l.length false
def Ys (ck:Nat) (l:List (List UInt8)):aa:=aa.put (fun _=>none) [ck] (if l=[] then none else some ⟨l.map .str,1,false⟩)
theorem aby {a b:Nat} (h:a≠b) : ¬ ([a]:List Nat) <:+ [b]:=fun hs=>by
 have:=hs.eq_of_length rfl
 simp at this;exact h this
theorem nP {σ : aa} {id:Id} {a t:List (List UInt8)} {b tt:Bool} (h : σ id=some ⟨(a++t).map .str,1,b⟩):View σ (.osl id 1 0 a.length tt) (strs a):=by
 refine View.osl (bk:=⟨(a++t).map .str,1,b⟩) h rfl (by simp) ?_ (by rw [List.length_map]) (by intro d hd;obtain ⟨s,_,rfl⟩:=List.mem_map.1 hd;rfl)
 have e:((((a++t).map AV.str).drop 0).take a.length)=a.map AV.str:=by
   rw [List.drop_zero, <- List.map_take,List.take_left']
   rfl
 show aI _ (flat ((((a++t).map AV.str).drop 0).take a.length)) _
 rw [e]
 exact aI.pure (by rw [tV];intro c hc;obtain ⟨s,_,rfl⟩:=List.mem_map.1 hc;exact af.str s)
section
variable {P:Program} {G:Nat->Option (List AV)}
theorem RM {f fv abz fs fc:FuncId} (h:Has P f (k8 fv abz fs fc)) (X:FX) (hX:X.Ok) (LF:X.valid=true->X.inputs.length<=1000) (hv:VP P G fv [X.av] (.bool X.valid))
   (hcut:∀ s∈X.inputs,VP P G abz [.str s, .str [47]] (.tup [.str (Lib.cut s [47]).1, .str (Lib.cut s [47]).2.1, .bool (Lib.cut s [47]).2.2]))
   (RE:VP P G fs [.nils] (.tup [])) (P5:VP P G fc [.nils] .nils) (sf cf:List (List UInt8)->List (List UInt8)) (ZK:∀ l,(sf l).length=l.length) (hcf:∀ l,(cf l).length<=l.length) (hcn:cf (sf [])=[])
   (hs:∀ (l:List (List UInt8)) (id p:Id),l.length<=1000000 -> ¬ p <:+ id->aq P G fs [.osl id 1 0 l.length false] p [(id,⟨l.map .str,1,false⟩)] { val := .tup [],rd:=[id],up:=[(id,some ⟨(sf l).map .str,1,false⟩)] })
   (hc:∀ (l:List (List UInt8)) (id p:Id),l.length<=1000000 -> ¬ p <:+ id->aq P G fc [.osl id 1 0 l.length false] p [(id,⟨l.map .str,1,false⟩)]
     { val := .osl id 1 0 (cf l).length false,rd:=[id],up:=[(id,some ⟨(cf l++List.replicate (l.length-(cf l).length) []).map .str,1,false⟩)] }) :
   VP P G f [X.av] (strs (if X.valid=true then cf (sf (X.inputs.map fun s=>(Lib.cut s [47]).1)) else [])):=by
 show VP P G f [X.eG.av] _
 have MV:VP P G fv [X.eG.av] (.bool X.valid):=hv
 have sM:=FX.pure X
 cases hval:X.valid
 . rw [hval] at MV
   rw [if_neg (by decide)]
   refine VP.has h ?_
   simp only [k8,SS,Nat.reduceAdd,bK.one,ak,bK.whole]
   refine aj MV (by simp [sM]) ?_
   simp only [SS,Nat.reduceAdd]
   exact ah▸⟨_,rfl,View.nils 1⟩
 rw [hval] at MV
 rw [if_pos rfl]
 have hlen:=LF hval
 generalize wu:(X.inputs.map fun s=>(Lib.cut s [47]).1)=names
 have vN:names.length=X.inputs.length:=by rw [<- wu,List.length_map]
 refine VP.has h ?_
 simp only [k8,SS,Nat.reduceAdd,bK.one,ak,bK.whole]
 refine aj MV (by simp [sM]) ?_
 simp only [SS,Nat.reduceAdd,ak,bK.p2,FX.gV,dC,az]
 refine VW.bG (α := Nat × Nat × Nat) (fun x=>⟨[X.eG.av, .top, .top,uT x.2.1 (names.take x.1)]++List.replicate 9 .top++[strs X.inputs, .int .i64 (X.inputs.length:Int), .int .i64 (x.1:Int)]++List.replicate 18 .top,Ys x.2.1 (names.take x.1),x.2.2⟩)
   (fun x=>x.1<=X.inputs.length/\x.2.1<x.2.2) (fun x=>X.inputs.length-x.1) (0,1,1000) ?_ ⟨Nat.zero_le _,by decide⟩ ?_
 . refine Wk.forget (by simp [Fg,List.replicate,uT]) (fun j => ?_) (by simp only [];omega)
   left;simp [Ys,aa.put]
 rintro ⟨i,ck,nn⟩ ⟨hi,RN⟩
 simp only [] at hi RN
 by_cases hlt:i<X.inputs.length
 . obtain ⟨s,mV⟩:∃ s,X.inputs[i]? = some s:=⟨_,List.getElem?_eq_getElem hlt⟩
   have hm:=List.mem_of_getElem? mV
   have hg:(X.inputs.map AV.str)[i]? = some (.str s):=by rw [List.getElem?_map,mV];rfl
   have fT:aV 1 (strs X.inputs) (.int .i64 (i:Int))=some (.ep (AV.str s).cells 0):=aN rfl hg
   have AH:part false (AV.str s).cells 0 1=some (.str s):=rfl
   have dd:decide ((i:Int)<(X.inputs.length:Int))=true:=ai (by omega)
   have JR:names.take (i+1)=names.take i++[(Lib.cut s [47]).1]:=by
     rw [List.take_add_one, <- wu,List.getElem?_map,mV];rfl
   have IE : ¬ names.take i++[(Lib.cut s [47]).1]=[]:=by simp
   have JT:(names.take i).length=i:=by rw [List.length_take];omega
   by_cases h0:i=0
   . subst h0
     have e0:uT ck (names.take 0) = .nils:=by simp [uT]
     simp only [e0]
     simp only [SS,Nat.reduceAdd,List.replicate,dd,fT,ax,AH]
     refine aj (hcut s hm) (by simp [af.str]) ?_
     simp only [SS,Nat.reduceAdd,wb,we,wh,r6,mR,ao 0 (by omega)]
     refine ⟨(0+1,nn+1+3+9+3,nn+1000),⟨by simp only [];omega,by simp only [];omega⟩,by simp only [];omega, ?_⟩
     simp only [JR]
     simp only [List.take_zero,List.nil_append,uT,Ys,List.cons_ne_nil,if_false,if_true,List.map_cons,List.map_nil,List.length_singleton]
     refine Wk.forget (by simp [Fg]) (fun j => ?_) (by omega)
     by_cases h1:j=[nn+1+3+9+3]
     . subst h1;right;simp [aa.put]
     . left;simp [aa.put,h1]
   . have hne : ¬ names.take i=[]:=by intro e;rw [e] at JT;simp at JT;omega
     have e0:uT ck (names.take i) = .osl [ck] 1 0 (names.take i).length false:=if_neg hne
     have yD:∀ (p q:Id),q≠[ck]->bQ ((Ys ck (names.take i)).put q (some ⟨[.str (Lib.cut s [47]).1],1,false⟩)) p 1 16 (.osl [ck] 1 0 (names.take i).length false) (.osl q 1 0 1 false)=some { val := .osl p 1 0 ((names.take i).length+1) false,rd:=[[ck],q],up:=[([ck],none),(p,some ⟨(names.take i++[(Lib.cut s [47]).1]).map .str,1,false⟩)] } :=
       fun p q hq=>xU hq (by omega) (by unfold Ys;rw [aa.a6,if_neg hne])
     have hq:([nn+1+3+9+2]:List Nat)≠[ck]:=by intro e;simp at e;omega
     simp only [e0]
     simp only [SS,Nat.reduceAdd,List.replicate,dd,fT,ax,AH]
     refine aj (hcut s hm) (by simp [af.str]) ?_
     simp only [SS,Nat.reduceAdd,wb,we,wh,r6,yD _ _ hq,ao i (by omega)]
     refine ⟨(i+1,nn+1+3+9+3,nn+1000),⟨by simp only [];omega,by simp only [];omega⟩,by simp only [];omega, ?_⟩
     simp only [JR]
     simp only [uT,if_neg IE,List.length_append,List.length_singleton]
     refine Wk.forget (by simp [Fg]) (fun j => ?_) (by omega)
     unfold Ys
     by_cases h1:j=[nn+1+3+9+3]
     . subst h1;right;simp only [aa.a6,if_neg IE]
     . left;simp [aa.put,h1]
 . have dd:decide ((i:Int)<(X.inputs.length:Int))=false:=ag (by omega)
   have fK:i=names.length:=by omega
   have J5:names.take i=names:=by rw [fK,List.take_length]
   simp only [J5]
   by_cases h0:names=[]
   . have e0:uT ck names = .nils:=by simp [uT,h0]
     have e1:cf (sf names)=[]:=by rw [h0];exact hcn
     rw [e1]
     simp only [e0]
     simp only [SS,Nat.reduceAdd,List.replicate,dd]
     refine aj (args:=[.nils]) RE (by simp [af.nils]) ?_
     simp only [SS,Nat.reduceAdd]
     refine aj (args:=[.nils]) P5 (by simp [af.nils]) ?_
     simp only [SS,Nat.reduceAdd]
     exact ah▸⟨_,rfl,View.nils 1⟩
   . have e0:uT ck names = .osl [ck] 1 0 names.length false:=if_neg h0
     simp only [e0]
     simp only [SS,Nat.reduceAdd,List.replicate,dd]
     refine ⟨[([ck],⟨names.map .str,1,false⟩)],_,hs names [ck] _ (by omega) (aby (by omega)),by simp [Ys,h0,aa.put],by simp, ?_⟩
     simp only [SS,Nat.reduceAdd]
     have PF:=fun p hp=>hc (sf names) [ck] p (by rw [ZK];omega) hp
     rw [ZK] at PF
     refine ⟨[([ck],⟨(sf names).map .str,1,false⟩)],_,PF _ (aby (by omega)),by simp [aa.put],by simp, ?_⟩
     simp only [SS,Nat.reduceAdd]
     exact ah▸⟨_,rfl,nP (t:=List.replicate (names.length-(cf (sf names)).length) []) (b:=false) (aa.a6 _ _ _)⟩
end
def C7 (n:List UInt8):List (List UInt8)->Nat
 | []=>0
 | x::l=>if Op.bytesLess x n=true then C7 n l+1 else 0
theorem RO (n:List UInt8):∀ l,C7 n l<=l.length
 | []=>Nat.le_refl _
 | x::l=>by
   rw [C7]
   split
   . have:=RO n l;simp;omega
   . exact Nat.zero_le _
theorem KP (n:List UInt8):∀ (l:List (List UInt8)) (k:Nat),k<C7 n l->∃ x,l[k]? = some x/\Op.bytesLess x n=true
 | [],k,h=>absurd h (Nat.not_lt_zero k)
 | x :: l,k,h=>by
   rw [C7] at h
   split at h
   . rename_i hx
     cases k with
     | zero=>exact ⟨x,rfl,hx⟩
     | succ k=>exact KP n l k (by omega)
   . omega
theorem Cw (n:List UInt8):∀ (l:List (List UInt8)) (x:List UInt8),l[C7 n l]? = some x->Op.bytesLess x n=false
 | [],x,h=>by simp [C7] at h
 | y :: l,x,h=>by
   rw [C7] at h
   split at h
   . exact Cw n l x (by simpa using h)
   . rename_i hy
     simp at h;subst h;simpa using hy
def uU (out:List (List UInt8)) (n:List UInt8):List (List UInt8):=if out.contains n=true then out else out.take (C7 n out)++[n]++out.drop (C7 n out)
theorem RP (out:List (List UInt8)) (n:List UInt8):(uU out n).length<=out.length+1:=by
 unfold uU
 split
 . omega
 . simp only [List.length_append,List.length_take,List.length_drop,List.length_singleton];omega
def uV (ns:List (List UInt8)):List (List UInt8):=ns.foldl uU []
theorem EK (ns:List (List UInt8)) (n:List UInt8):uV (ns++[n])=uU (uV ns) n:=by unfold uV;rw [List.foldl_append];rfl
theorem IF (ns:List (List UInt8)) (k:Nat):(uV (ns.take k)).length<=k:=by
 induction k with
 | zero=>simp [uV]
 | succ k ih =>
   rcases Nat.lt_or_ge k ns.length with hlt | rn
   . rw [List.take_add_one,List.getElem?_eq_getElem hlt,Option.toList_some,EK]
     have:=RP (uV (ns.take k)) ns[k]
     omega
   . rw [List.take_of_length_le (by omega)]
     rw [List.take_of_length_le rn] at ih
     omega
theorem pC {a b:List UInt8}:bn .lss .str (.str a) (.str b)=some (.bool (Op.bytesLess a b)):=rfl
theorem Af {k l:Nat} {es:List AV} (h:l<=es.length):bR k (.sl k es) (some (.int .i64 (l:Int))) none none=some (.sl k (es.drop l)):=by
 simp [bR,cm,dT,h]
theorem xV {σ : aa} {p id:Id} {n:Nat}:bQ σ p 1 16 (.osl id 1 0 n false) (.sl 1 [])=some { val := .osl id 1 0 n false,rd:=[] }:=by simp [bQ,dB]
theorem IG {σ : aa} {p id:Id} {o ys:List (List UInt8)} (hy:ys≠[]) (hb:o.length+ys.length<=1000000) (h : σ id=some ⟨o.map .str,1,false⟩) :
   bQ σ p 1 16 (.osl id 1 0 o.length false) (.sl 1 (ys.map .str))=some { val := .osl p 1 0 (o.length+ys.length) false,rd:=[id],up:=[(id,none),(p,some ⟨(o++ys).map .str,1,false⟩)] }:=by
 have:=jf (σ := σ) (p:=p) (id:=id) (k:=1) (bytes:=16) (len:=o.length) (els:=o.map .str) (x := .sl 1 (ys.map .str)) (ys:=ys.map .str) (rd:=[])
   dM (by simpa using hy) h (by rw [List.length_map]) (by simp;omega) (bE (by simp;omega)) (qR ys) (qR o)
 rw [this,List.map_append,List.length_map]
section
variable {P:Program} {G:Nat->Option (List AV)}
theorem OS {f fv ff fh:FuncId} (h:Has P f (gI fv ff fh)) (X:FX) (hX:X.Ok) (LF:X.valid=true->X.inputs.length<=1000) (hv:VP P G fv [X.av] (.bool X.valid))
   (hf:∀ s∈X.inputs,VP P G ff [.str s] (.str ((eK s).getD []))) (hh:∀ (l:List (List UInt8)) (s:List UInt8),l.length<=1000000->VP P G fh [strs l, .str s] (.bool (l.contains s))) :
   VP P G f [X.av] (strs (if X.valid=true then uV (X.inputs.map fun s=>(eK s).getD []) else [])):=by
 show VP P G f [X.eG.av] _
 have MV:VP P G fv [X.eG.av] (.bool X.valid):=hv
 have sM:=FX.pure X
 cases hval:X.valid
 . rw [hval] at MV
   rw [if_neg (by decide)]
   refine VP.has h ?_
   simp only [gI,SS,Nat.reduceAdd,bK.one,ak,bK.whole]
   refine aj MV (by simp [sM]) ?_
   simp only [SS,Nat.reduceAdd]
   exact ah▸⟨_,rfl,View.nils 1⟩
 rw [hval] at MV
 rw [if_pos rfl]
 have hlen:=LF hval
 generalize wu:(X.inputs.map fun s=>(eK s).getD [])=names
 have vN:names.length=X.inputs.length:=by rw [<- wu,List.length_map]
 refine VP.has h ?_
 simp only [gI,SS,Nat.reduceAdd,bK.one,ak,bK.whole]
 refine aj MV (by simp [sM]) ?_
 simp only [SS,Nat.reduceAdd,az]
 refine VW.bG (α := Nat × Nat) (fun x=>⟨[X.eG.av, .ref [0] 0 0, .top,strs (uV (names.take x.1)), .int .i64 (x.1:Int)]++List.replicate 55 .top,aa.put (fun _=>none) [0] (some ⟨[X.eG.av],5,false⟩),x.2⟩)
   (fun x=>x.1<=X.inputs.length) (fun x=>X.inputs.length-x.1) (0,1000) ?_ (Nat.zero_le _) ?_
 . refine Wk.freeze [] (by simp) (by simp [N9,List.replicate];exact .inr (.inr (View.nils 1))) (fun j => ?_) (by omega)
   by_cases h1:j=[0]
   . subst h1;right;simp [aa.put,nX,aa.app];rfl
   . left;simp [aa.put,h1]
 rintro ⟨i,nn⟩ hi
 simp only [] at hi
 have hrl:=IF names i
 generalize Dz:uV (names.take i)=out at hrl
 by_cases hlt:i<X.inputs.length
 . obtain ⟨s,mV⟩:∃ s,X.inputs[i]? = some s:=⟨_,List.getElem?_eq_getElem hlt⟩
   have hm:=List.mem_of_getElem? mV
   have hg:(X.inputs.map AV.str)[i]? = some (.str s):=by rw [List.getElem?_map,mV];rfl
   have fT:aV 1 (strs X.inputs) (.int .i64 (i:Int))=some (.ep (AV.str s).cells 0):=aN rfl hg
   have AH:part false (AV.str s).cells 0 1=some (.str s):=rfl
   have dd:decide ((i:Int)<(X.inputs.length:Int))=true:=ai (by omega)
   generalize hn:(eK s).getD []=n
   have hfs:=hf s hm
   rw [hn] at hfs
   have pD:uV (names.take (i+1))=uU out n:=by
     rw [List.take_add_one, <- wu,List.getElem?_map,mV,Option.map_some,Option.toList_some,wu,EK,Dz,hn]
   simp only [SS,Nat.reduceAdd,ak,bK.p2,FX.gV,dC,dd,fT,ax,AH]
   refine aj hfs (by simp [af.str]) ?_
   simp only [SS,Nat.reduceAdd]
   refine aj (hh out n (by omega)) (by simp [af.str,gq]) ?_
   cases RQ:out.contains n
   . have Gg:uU out n=out.take (C7 n out)++[n]++out.drop (C7 n out):=by unfold uU;rw [RQ];simp
     simp only [SS,Nat.reduceAdd,az]
     have Ty:=RO n out
     refine VW.bG (α := Nat × Nat × Nat) (fun z=>⟨[X.eG.av, .ref [0] 0 0, .top,strs out, .int .i64 (i:Int), .str n,uT z.2.1 (out.take z.1), .int .i64 (z.1:Int)]++List.replicate 52 .top,
       (aa.put (fun _=>none) [0] (some ⟨[X.eG.av],5,false⟩)).put [z.2.1] (if out.take z.1=[] then none else some ⟨(out.take z.1).map .str,1,false⟩),z.2.2⟩)
       (fun z=>z.1<=C7 n out/\0<z.2.1/\z.2.1<z.2.2) (fun z=>C7 n out-z.1) (0,1,nn+1000) ?_ ⟨Nat.zero_le _,Nat.one_pos,by simp only [];omega⟩ ?_
     . refine Wk.forget (by simp [Fg,List.replicate,uT]) (fun j => ?_) (by simp only [];omega)
       by_cases h1:j=[0]
       . subst h1;right;simp [aa.put]
       . left;simp [aa.put,h1]
     rintro ⟨k,ck,mm⟩ ⟨hk,ae7,RN⟩
     simp only [] at hk ae7 RN
     have JT:(out.take k).length=k:=by rw [List.length_take];omega
     by_cases FV:k<C7 n out
     . obtain ⟨x,hx,Oq⟩:=KP n out k FV
       have hgx:(out.map AV.str)[k]? = some (.str x):=by rw [List.getElem?_map,hx];rfl
       have lD:aV 1 (strs out) (.int .i64 (k:Int))=some (.ep (AV.str x).cells 0):=aN rfl hgx
       have Gh:part false (AV.str x).cells 0 1=some (.str x):=rfl
       have d1:decide ((k:Int)<(out.length:Int))=true:=ai (by omega)
       have JR:out.take (k+1)=out.take k++[x]:=by rw [List.take_add_one,hx];rfl
       have IE : ¬ out.take k++[x]=[]:=by simp
       by_cases h0:k=0
       . subst h0
         have e0:uT ck (out.take 0) = .nils:=by simp [uT]
         simp only [e0]
         simp only [SS,Nat.reduceAdd,dC,d1,lD,ax,Gh,pC,Oq,r6,mR,ao 0 (by omega)]
         refine ⟨(0+1,mm+12+6,mm+1000),⟨by simp only [];omega,by simp only [];omega,by simp only [];omega⟩,by simp only [];omega, ?_⟩
         simp only [JR,List.take_zero,List.nil_append,uT,List.cons_ne_nil,if_false,List.length_singleton,List.map_cons,List.map_nil]
         refine Wk.forget (by simp [Fg]) (fun j => ?_) (by omega)
         by_cases h1:j=[mm+12+6]
         . subst h1;right;simp [aa.put]
         by_cases h2:j=[0]
         . subst h2;right;simp [aa.put];omega
         . left;simp [aa.put,h1,h2]
       . have hne : ¬ out.take k=[]:=by intro e;rw [e] at JT;simp at JT;omega
         have e0:uT ck (out.take k) = .osl [ck] 1 0 (out.take k).length false:=if_neg hne
         have yD:∀ (p q:Id),q≠[ck]->bQ (((aa.put (fun _=>none) [0] (some ⟨[X.eG.av],5,false⟩)).put [ck] (if out.take k=[] then none else some ⟨(out.take k).map .str,1,false⟩)).put q (some ⟨[.str x],1,false⟩)) p 1 16 (.osl [ck] 1 0 (out.take k).length false) (.osl q 1 0 1 false)=some { val := .osl p 1 0 ((out.take k).length+1) false,rd:=[[ck],q],up:=[([ck],none),(p,some ⟨(out.take k++[x]).map .str,1,false⟩)] } :=
           fun p q hq=>xU hq (by omega) (by rw [aa.a6,if_neg hne])
         have hq:([mm+12+5]:List Nat)≠[ck]:=by intro e;simp at e;omega
         simp only [e0]
         simp only [SS,Nat.reduceAdd,dC,d1,lD,ax,Gh,pC,Oq,r6,yD _ _ hq,ao k (by omega)]
         refine ⟨(k+1,mm+12+6,mm+1000),⟨by simp only [];omega,by simp only [];omega,by simp only [];omega⟩,by simp only [];omega, ?_⟩
         simp only [JR,uT,if_neg IE,List.length_append,List.length_singleton]
         refine Wk.forget (by simp [Fg]) (fun j => ?_) (by omega)
         by_cases h1:j=[mm+12+6]
         . subst h1;right;simp [aa.put]
         by_cases h2:j=[0]
         . subst h2;right;simp [aa.put];omega
         . left;simp [aa.put,h1,h2]
     . have MB:k=C7 n out:=by omega
       rw [<- MB] at Gg
       have abA:bR 1 (strs out) (some (.int .i64 0)) none none=some (.sl 1 (out.map .str)):=Af (k:=1) (l:=0) (es:=out.map AV.str) (Nat.zero_le _)
       have vP:bR 1 (strs out) (some (.int .i64 (((out.take k).length:Nat):Int))) none none=some (.sl 1 ((out.drop k).map .str)):=by
         have:=Af (k:=1) (l:=k) (es:=out.map AV.str) (by rw [List.length_map];omega)
         rw [List.map_drop,JT];exact this
       rw [Gg] at pD
       by_cases ae8:k<out.length
       case pos =>
         obtain ⟨x,hx⟩:∃ x,out[k]? = some x:=⟨_,List.getElem?_eq_getElem ae8⟩
         have Oq:Op.bytesLess x n=false:=Cw n out x (by rw [<- MB];exact hx)
         have hgx:(out.map AV.str)[k]? = some (.str x):=by rw [List.getElem?_map,hx];rfl
         have lD:aV 1 (strs out) (.int .i64 (k:Int))=some (.ep (AV.str x).cells 0):=aN rfl hgx
         have Gh:part false (AV.str x).cells 0 1=some (.str x):=rfl
         have d1:decide ((k:Int)<(out.length:Int))=true:=ai (by omega)
         have WI:out.drop k≠[]:=by intro e;have:=congrArg List.length e;rw [List.length_drop] at this;simp at this;omega
         by_cases h0:k=0
         . have e0:uT ck (out.take k) = .nils:=by simp [uT,h0]
           have IH:out.take k=[]:=by rw [h0];rfl
           have KQ:out.drop k=out:=by rw [h0];rfl
           rw [KQ] at WI
           have Iu:∀ (σ : aa) (p:Id),bQ ((σ.put [mm+12+3+2] (some ⟨[.str n],1,false⟩)).put [mm+12+3+3] (some ⟨[.str n],1,false⟩)) p 1 16 (.osl [mm+12+3+3] 1 0 1 false) (.sl 1 (out.map .str))=some { val := .osl p 1 0 (1+out.length) false,rd:=[[mm+12+3+3]],up:=[([mm+12+3+3],none),(p,some ⟨([n]++out).map .str,1,false⟩)] }:=fun σ p =>
             IG (o:=[n]) WI (by simp;omega) (aa.a6 _ _ _)
           rw [IH,KQ,List.nil_append] at Gg
           simp only [e0]
           simp only [SS,DD,Nat.reduceAdd,dC,d1,lD,ax,Gh,pC,Oq,r6,mR,abA,Iu,ao i (by omega)]
           refine ⟨by simp [aJ,apart], ?_⟩
           try rw [IH,KQ,List.nil_append] at pD
           refine ⟨(i+1,mm+1000),by simp only [];omega,by simp only [];omega, ?_⟩
           simp only [pD]
           refine Wk.freeze [([mm+12+3+7],⟨([n]++out).map .str,1,false⟩)] (by simp [aa.put]) ?_ (fun j => ?_) (by omega)
           . have hv:=nP (σ := aa.of [([mm+12+3+7],⟨([n]++out).map AV.str,1,false⟩)]) (id:=[mm+12+3+7]) (a:=[n]++out) (t:=[]) (b:=false) (tt:=false) (by rw [List.append_nil];simp [aa.of])
             rw [List.length_append,List.length_singleton] at hv
             simp [N9]
             right;right
             simpa using hv
           . by_cases h1:j=[0]
             . subst h1;right;simp [aa.put,nX,aa.app]<;>omega
             . left;simp [aa.put,h1]
         . have hne : ¬ out.take k=[]:=by intro e;rw [e] at JT;simp at JT;omega
           have e0:uT ck (out.take k) = .osl [ck] 1 0 (out.take k).length false:=if_neg hne
           have yD:∀ (p q:Id),q≠[ck]->bQ (((aa.put (fun _=>none) [0] (some ⟨[X.eG.av],5,false⟩)).put [ck] (if out.take k=[] then none else some ⟨(out.take k).map .str,1,false⟩)).put q (some ⟨[.str n],1,false⟩)) p 1 16 (.osl [ck] 1 0 (out.take k).length false) (.osl q 1 0 1 false)=some { val := .osl p 1 0 ((out.take k).length+1) false,rd:=[[ck],q],up:=[([ck],none),(p,some ⟨(out.take k++[n]).map .str,1,false⟩)] } :=
             fun p q hq=>xU hq (by omega) (by rw [aa.a6,if_neg hne])
           have hq:([mm+12+3+2]:List Nat)≠[ck]:=by intro e;simp at e;omega
           have Iu:∀ (σ : aa) (p:Id),bQ (σ.put [mm+12+3+3] (some ⟨(out.take k++[n]).map .str,1,false⟩)) p 1 16 (.osl [mm+12+3+3] 1 0 ((out.take k).length+1) false) (.sl 1 ((out.drop k).map .str))=some { val := .osl p 1 0 ((out.take k).length+1+(out.drop k).length) false,rd:=[[mm+12+3+3]],up:=[([mm+12+3+3],none),(p,some ⟨(out.take k++[n]++out.drop k).map .str,1,false⟩)] }:=fun σ p=>by
             have:=IG (σ := σ.put [mm+12+3+3] (some ⟨(out.take k++[n]).map .str,1,false⟩)) (p:=p) (o:=out.take k++[n]) (ys:=out.drop k) WI (by rw [List.length_append,JT,List.length_drop,List.length_singleton];omega) (aa.a6 _ _ _)
             rwa [List.length_append,List.length_singleton] at this
           simp only [e0]
           simp only [SS,DD,Nat.reduceAdd,dC,d1,lD,ax,Gh,pC,Oq,r6,yD _ _ hq,vP,Iu,ao i (by omega)]
           refine ⟨by simp [aJ,apart], ?_⟩
           refine ⟨(i+1,mm+1000),by simp only [];omega,by simp only [];omega, ?_⟩
           simp only [pD]
           refine Wk.freeze [([mm+12+3+7],⟨(out.take k++[n]++out.drop k).map .str,1,false⟩)] (by simp [aa.put]) ?_ (fun j => ?_) (by omega)
           . have hv:=nP (σ := aa.of [([mm+12+3+7],⟨(out.take k++[n]++out.drop k).map AV.str,1,false⟩)]) (id:=[mm+12+3+7]) (a:=out.take k++[n]++out.drop k) (t:=[]) (b:=false) (tt:=false) (by rw [List.append_nil];simp [aa.of])
             rw [List.length_append,List.length_append,List.length_singleton] at hv
             simp [N9]
             right;right
             simpa using hv
           . by_cases h1:j=[0]
             . subst h1;right;simp [aa.put,nX,aa.app]<;>omega
             . left;simp [aa.put,h1]
       case neg =>
         have d1:decide ((k:Int)<(out.length:Int))=false:=ag (by omega)
         have WI:out.drop k=[]:=List.drop_of_length_le (by omega)
         by_cases h0:k=0
         . have e0:uT ck (out.take k) = .nils:=by simp [uT,h0]
           have IH:out.take k=[]:=by rw [h0];rfl
           have KQ:out.drop k=out:=by rw [h0];rfl
           have ho:out=[]:=by rw [<- KQ];exact WI
           rw [IH,KQ,ho,List.nil_append,List.append_nil] at Gg
           have abB:bR 1 (strs out) (some (.int .i64 0)) none none=some (.sl 1 []):=by rw [abA,ho];rfl
           simp only [e0]
           simp only [SS,DD,Nat.reduceAdd,dC,d1,r6,mR,abB,xV,ao i (by omega)]
           refine ⟨by simp [aJ,apart], ?_⟩
           try rw [IH,KQ,ho,List.nil_append,List.append_nil] at pD
           refine ⟨(i+1,mm+1000),by simp only [];omega,by simp only [];omega, ?_⟩
           simp only [pD]
           refine Wk.freeze [([mm+12+3+3],⟨([n]).map .str,1,false⟩)] (by simp [aa.put]) ?_ (fun j => ?_) (by omega)
           . have hv:=nP (σ := aa.of [([mm+12+3+3],⟨([n]).map AV.str,1,false⟩)]) (id:=[mm+12+3+3]) (a:=[n]) (t:=[]) (b:=false) (tt:=false) (by rw [List.append_nil];simp [aa.of])
             rw [List.length_singleton] at hv
             simp [N9]
             right;right
             simpa using hv
           . by_cases h1:j=[0]
             . subst h1;right;simp [aa.put,nX,aa.app]<;>omega
             . left;simp [aa.put,h1]
         . have hne : ¬ out.take k=[]:=by intro e;rw [e] at JT;simp at JT;omega
           have e0:uT ck (out.take k) = .osl [ck] 1 0 (out.take k).length false:=if_neg hne
           have yD:∀ (p q:Id),q≠[ck]->bQ (((aa.put (fun _=>none) [0] (some ⟨[X.eG.av],5,false⟩)).put [ck] (if out.take k=[] then none else some ⟨(out.take k).map .str,1,false⟩)).put q (some ⟨[.str n],1,false⟩)) p 1 16 (.osl [ck] 1 0 (out.take k).length false) (.osl q 1 0 1 false)=some { val := .osl p 1 0 ((out.take k).length+1) false,rd:=[[ck],q],up:=[([ck],none),(p,some ⟨(out.take k++[n]).map .str,1,false⟩)] } :=
             fun p q hq=>xU hq (by omega) (by rw [aa.a6,if_neg hne])
           have hq:([mm+12+3+2]:List Nat)≠[ck]:=by intro e;simp at e;omega
           rw [WI,List.append_nil] at Gg
           have ae9:bR 1 (strs out) (some (.int .i64 (((out.take k).length:Nat):Int))) none none=some (.sl 1 []):=by rw [vP,WI];rfl
           simp only [e0]
           simp only [SS,DD,Nat.reduceAdd,dC,d1,r6,yD _ _ hq,ae9,xV,ao i (by omega)]
           refine ⟨by simp [aJ,apart], ?_⟩
           try rw [WI,List.append_nil] at pD
           refine ⟨(i+1,mm+1000),by simp only [];omega,by simp only [];omega, ?_⟩
           simp only [pD]
           refine Wk.freeze [([mm+12+3+3],⟨(out.take k++[n]).map .str,1,false⟩)] (by simp [aa.put]) ?_ (fun j => ?_) (by omega)
           . have hv:=nP (σ := aa.of [([mm+12+3+3],⟨(out.take k++[n]).map AV.str,1,false⟩)]) (id:=[mm+12+3+3]) (a:=out.take k++[n]) (t:=[]) (b:=false) (tt:=false) (by rw [List.append_nil];simp [aa.of])
             rw [List.length_append,List.length_singleton] at hv
             simp [N9]
             right;right
             simpa using hv
           . by_cases h1:j=[0]
             . subst h1;right;simp [aa.put,nX,aa.app]<;>omega
             . left;simp [aa.put,h1]
   . have Gg:uU out n=out:=by unfold uU;rw [RQ];simp
     rw [Gg] at pD
     simp only [SS,Nat.reduceAdd,ao i (by omega)]
     refine ⟨(i+1,nn+1000),by simp only [];omega,by simp only [];omega, ?_⟩
     simp only [pD]
     exact Wk.slots (by simp [Fg]) (by omega)
 . have dd:decide ((i:Int)<(X.inputs.length:Int))=false:=ag (by omega)
   have fK:i=names.length:=by omega
   have J5:names.take i=names:=by rw [fK,List.take_length]
   rw [<- J5,Dz]
   simp only [SS,Nat.reduceAdd,ak,bK.p2,FX.gV,dC,dd]
   exact ah▸ae rfl (gq _)
end
section
open Go.Sort Go.Lib
theorem wv (a:List UInt8) : ¬ a<a:=List.lt_irrefl a
theorem zk {a b c:List UInt8} (h:a<b) (k:b<c):a<c:=List.lt_trans h k
theorem KR {a b:List UInt8} (h : ¬ a<b) (hn:a≠b):b<a :=
 Decidable.byContradiction fun k=>hn (List.le_antisymm (show a<=b from k) (show b<=a from h))
def PJ (l:List (List UInt8)):Prop:=l.Pairwise (· < ·)
theorem RT:∀ {l m:List (List UInt8)},PJ l->PJ m->(∀ x,x∈l↔x∈m)->l=m
 | [],[],_,_,_=>rfl
 | [],b::m,_,_,h=>by have:=(h b).2 (by simp);simp at this
 | a::l,[],_,_,h=>by have:=(h a).1 (by simp);simp at this
 | a :: l,b::m,hl,hm,h=>by
   unfold PJ at hl hm
   rw [List.pairwise_cons] at hl hm
   have AU:a=b:=by
     have h1:=(h a).1 (by simp)
     have h2:=(h b).2 (by simp)
     rcases List.mem_cons.1 h1 with e | h1
     . exact e
     . rcases List.mem_cons.1 h2 with e | h2
       . exact e.symm
       . exact absurd (zk (hm.1 a h1) (hl.1 b h2)) (wv b)
   subst AU
   refine congrArg (a :: ·) (RT hl.2 hm.2 fun x => ?_)
   constructor
   . intro hx
     rcases List.mem_cons.1 ((h x).1 (by simp [hx])) with e | q
     . subst e;exact absurd (hl.1 x hx) (wv x)
     . exact q
   . intro hx
     rcases List.mem_cons.1 ((h x).2 (by simp [hx])) with e | q
     . subst e;exact absurd (hm.1 x hx) (wv x)
     . exact q
theorem RU (out:List (List UInt8)) (n x:List UInt8):x∈uU out n↔x∈out∨x=n:=by
 unfold uU
 split
 . rename_i h
   have hn:n∈out:=by simpa using h
   constructor
   . exact .inl
   . rintro (q | rfl);exact q;exact hn
 . have e:=List.take_append_drop (C7 n out) out
   constructor
   . intro q
     rw [List.append_assoc,List.mem_append,List.mem_append,List.mem_singleton] at q
     rcases q with q | q | q
     . exact .inl (List.mem_of_mem_take q)
     . exact .inr q
     . exact .inl (List.mem_of_mem_drop q)
   . rintro (q | rfl)
     . rw [<- e,List.mem_append] at q
       rw [List.append_assoc,List.mem_append,List.mem_append]
       rcases q with q | q
       . exact .inl q
       . exact .inr (.inr q)
     . simp
theorem UR {out:List (List UInt8)} (n:List UInt8) (h:PJ out):PJ (uU out n):=by
 unfold uU
 split
 . exact h
 . rename_i hc
   have hn:n ∉ out:=by simpa using hc
   have e:=List.take_append_drop (C7 n out) out
   unfold PJ at h ⊢
   rw [<- e,List.pairwise_append] at h
   have rz:∀ x∈out.take (C7 n out),x<n:=by
     intro x hx
     obtain ⟨k,hk,hkx⟩:=List.mem_iff_getElem.1 hx
     rw [List.length_take] at hk
     obtain ⟨y,hy,hyn⟩:=KP n out k (by omega)
     rw [List.getElem_take] at hkx
     rw [List.getElem?_eq_getElem (by omega),Option.some.injEq,hkx] at hy
     subst hy
     rw [Go.Proofs.bytesLess_eq] at hyn
     simpa using hyn
   have wW:∀ x∈out.drop (C7 n out),n<x:=by
     intro x hx
     cases hd:out.drop (C7 n out) with
     | nil=>rw [hd] at hx;simp at hx
     | cons y t =>
       have hy:out[C7 n out]? = some y:=by
         have:=congrArg (·[0]?) hd
         simpa using this
       have hny:=Cw n out y hy
       rw [Go.Proofs.bytesLess_eq] at hny
       have hyn:n<y:=KR (by simpa using hny) (fun e=>hn (by rw [<- e];exact List.mem_of_getElem? hy))
       rw [hd] at hx
       rcases List.mem_cons.1 hx with rfl | hx
       . exact hyn
       . rw [hd] at h
         exact zk hyn ((List.pairwise_cons.1 h.2.1).1 x hx)
   rw [List.append_assoc,List.pairwise_append]
   refine ⟨h.1, ?_, ?_⟩
   . rw [List.singleton_append,List.pairwise_cons]
     exact ⟨wW,h.2.1⟩
   . intro a ha b hb
     rw [List.singleton_append] at hb
     rcases List.mem_cons.1 hb with rfl | hb
     . exact rz a ha
     . exact h.2.2 a ha b hb
theorem II:∀ (ns out:List (List UInt8)),PJ out->PJ (ns.foldl uU out)/\∀ x,x∈ns.foldl uU out↔x∈out∨x∈ns
 | [],out,h=>⟨h,by simp⟩
 | n::ns,out,h=>by
   obtain ⟨h1,h2⟩:=II ns (uU out n) (UR n h)
   refine ⟨h1,fun x => ?_⟩
   rw [List.foldl_cons,h2,RU]
   simp [or_assoc]
theorem RW (ns:List (List UInt8)):PJ (uV ns)/\∀ x,x∈uV ns↔x∈ns:=by
 obtain ⟨h1,h2⟩:=II ns [] List.Pairwise.nil
 exact ⟨h1,fun x=>by rw [uV,h2];simp⟩
theorem KS (l:List (List UInt8)) (h:l.Pairwise fun a b => ¬ b<a):∀ m,m<=l.length->PJ (compactUpTo l.toArray m)/\(∀ x,x∈compactUpTo l.toArray m↔x∈l.take m):=by
 intro m
 induction m with
 | zero=>intro _;exact ⟨by simp [compactUpTo,PJ],by simp [compactUpTo]⟩
 | succ m ih =>
   intro hm
   obtain ⟨h1,h2⟩:=ih (by omega)
   have hlt:m<l.length:=by omega
   have hg:l.toArray[m]! = l[m]:=by rw [getElem!_pos l.toArray m (by simpa using hlt)];rfl
   have JR:l.take (m+1)=l.take m++[l[m]]:=by rw [List.take_add_one,List.getElem?_eq_getElem hlt];rfl
   rw [compactUpTo_succ,hg,JR]
   cases hk:keeps l.toArray m
   . simp only [Bool.false_eq_true,if_false,List.append_nil]
     refine ⟨h1,fun x => ?_⟩
     have Qb:m≠0/\l.toArray[m]! = l.toArray[m-1]! := by
       unfold keeps at hk
       simp only [decide_eq_false_iff_not,not_or,Decidable.not_not] at hk
       exact hk
     have hg1:l.toArray[m-1]! = l[m-1]:=by rw [getElem!_pos l.toArray (m-1) (by simp;omega)];rfl
     rw [hg,hg1] at Qb
     rw [h2,List.mem_append,List.mem_singleton]
     constructor
     . exact .inl
     . rintro (q | rfl)
       . exact q
       . rw [Qb.2]
         exact List.mem_iff_getElem.2 ⟨m-1,by rw [List.length_take];omega,by rw [List.getElem_take]⟩
   . simp only [if_true]
     refine ⟨?_,fun x=>by rw [List.mem_append,List.mem_append,h2]⟩
     unfold PJ at h1 ⊢
     rw [List.pairwise_append]
     refine ⟨h1,by simp,fun a ha b hb => ?_⟩
     rw [List.mem_singleton] at hb
     subst hb
     have hat:=(h2 a).1 ha
     obtain ⟨j,hj,rfl⟩:=List.mem_iff_getElem.1 hat
     rw [List.length_take] at hj
     rw [List.getElem_take]
     have Qb:m≠0:=by omega
     have hg1:l.toArray[m-1]! = l[m-1]:=by rw [getElem!_pos l.toArray (m-1) (by simp;omega)];rfl
     have hne:l[m]≠l[m-1]:=by
       unfold keeps at hk
       simp only [decide_eq_true_eq] at hk
       rcases hk with q | q
       . exact absurd q Qb
       . rwa [hg,hg1] at q
     have hpw:=List.pairwise_iff_getElem.1 h
     have Ig:l[m-1]<l[m]:=KR (hpw (m-1) m (by omega) hlt (by omega)) hne
     by_cases XE:j=m-1
     . subst XE;exact Ig
     . have h3:=hpw j (m-1) (by omega) (by omega) (by omega)
       rcases Decidable.em (l[j]=l[m-1]) with e | e
       . rw [e];exact Ig
       . exact zk (KR h3 (Ne.symm e)) Ig
theorem OT (ns:List (List UInt8)):Lib.compact (ns.mergeSort fun x y=>decide (x<=y))=uV ns:=by
 have hp:(ns.mergeSort fun x y=>decide (x<=y)).Pairwise fun a b => ¬ b<a:=by
   refine (List.pairwise_mergeSort (le:=fun x y:List UInt8=>decide (x<=y)) (fun a b c h k => ?_) (fun a b => ?_) ns).imp ?_
   . simp only [decide_eq_true_eq] at h k ⊢;exact List.le_trans h k
   . rcases List.le_total a b with q | q<;>simp [q]
   . intro a b h
     simp only [decide_eq_true_eq] at h
     exact h
 obtain ⟨h1,h2⟩:=KS _ hp _ (Nat.le_refl _)
 obtain ⟨h3,h4⟩:=RW ns
 refine RT h1 h3 fun x => ?_
 have Tx:=h2 x
 rw [List.take_length,List.mem_mergeSort] at Tx
 exact Tx.trans (h4 x).symm
end
noncomputable def gJ {α : Type} (x y : α):Bool := @decide (x=y) (Classical.propDecidable _)
theorem bI {α : Type} {x y : α} (h:x=y):gJ x y=true := @decide_eq_true _ (Classical.propDecidable _) h
theorem aZ {α : Type} {x y : α} (h:x≠y):gJ x y=false := @decide_eq_false _ (Classical.propDecidable _) h
theorem Cx (x y:List UInt8):(!(x==y)) = !gJ x y:=by
 by_cases h:x=y
 . rw [bI h];simp [h]
 . rw [aZ h];simp [h]
theorem ub (x y:Nat):decide ((x:Int)≠(y:Int)) = !gJ x y:=by
 by_cases h:x=y
 . rw [bI h];exact ag (by omega)
 . rw [aZ h];exact ai (by omega)
theorem RX (x y:Int):decide (x≠y) = !gJ x y:=by
 by_cases h:x=y
 . rw [bI h];exact ag (by omega)
 . rw [aZ h];exact ai h
theorem eq_int (x y:Int):decide (x=y)=gJ x y:=by
 by_cases h:x=y
 . rw [bI h];exact ai h
 . rw [aZ h];exact ag h
theorem RY (x y:List UInt8):(x==y)=gJ x y:=by
 by_cases h:x=y
 . rw [bI h];simp [h]
 . rw [aZ h];simp [h]
section
variable {P:Program} {G:Nat->Option (List AV)}
theorem my {f:FuncId} (h:Has P f ee) (l m:List (List UInt8)) (hl:l.length<=9223372036854775807) (hm:m.length<=9223372036854775807):VP P G f [.sl 1 (l.map AV.str), .sl 1 (m.map AV.str)] (.bool (gJ l m)):=by
 by_cases hlen:l.length=m.length
 case neg =>
   have d0:decide ((l.length:Int)≠(m.length:Int))=true:=ai (by omega)
   rw [aZ (fun e=>hlen (by rw [e]))]
   refine VP.has h ?_
   simp only [ee,SS,Nat.reduceAdd,List.length_map,d0]
   exact ah▸ae rfl (af.bool _)
 have d0:decide ((l.length:Int)≠(m.length:Int))=false:=ag (by omega)
 refine VP.has h ?_
 simp only [ee,SS,Nat.reduceAdd,List.length_map,d0,az]
 refine VW.bG (α := Nat × Nat) (fun x=>⟨[.sl 1 (l.map AV.str), .sl 1 (m.map AV.str), .top, .top, .top, .top, .top, .top, .top, .top, .top, .top, .int .i64 (l.length:Int), .int .i64 (x.1:Int)]++List.replicate 12 .top,fun _=>none,x.2⟩)
   (fun x=>x.1<=l.length/\l.take x.1=m.take x.1) (fun x=>l.length-x.1) (0,1000) ?_ ⟨Nat.zero_le _,by simp⟩ ?_
 . exact Wk.slots (by simp [Fg,List.replicate]) (by omega)
 rintro ⟨i,nn⟩ ⟨hi,cx⟩
 simp only [] at hi cx
 by_cases hlt:i<l.length
 . obtain ⟨x,hx⟩:∃ x,l[i]? = some x:=⟨_,List.getElem?_eq_getElem hlt⟩
   obtain ⟨y,hy⟩:∃ y,m[i]? = some y:=⟨_,List.getElem?_eq_getElem (by omega)⟩
   have dd:decide ((i:Int)<(l.length:Int))=true:=ai (by omega)
   have hgx:(l.map AV.str)[i]? = some (AV.str x):=by rw [List.getElem?_map,hx];rfl
   have IJ:(m.map AV.str)[i]? = some (AV.str y):=by rw [List.getElem?_map,hy];rfl
   have hpx:part false (AV.str x).cells 0 1=some (AV.str x):=rfl
   have hpy:part false (AV.str y).cells 0 1=some (AV.str y):=rfl
   have lD:aV 1 (.sl 1 (l.map AV.str)) (.int .i64 (i:Int))=some (.ep (AV.str x).cells 0):=aN rfl hgx
   have qS:aV 1 (.sl 1 (m.map AV.str)) (.int .i64 (i:Int))=some (.ep (AV.str y).cells 0):=aN rfl IJ
   by_cases nO:x=y
   . have hne:(!(x==y))=false:=by rw [Cx,bI nO];rfl
     simp only [SS,DD,Nat.reduceAdd,List.replicate,dd,lD,qS,ax,hpx,hpy,hne,ao i (by omega)]
     refine ⟨by simp [aJ,apart],(i+1,nn+1000),⟨by simp only [];omega, ?_⟩,by simp only [];omega,Wk.slots (by simp [Fg]) (by omega)⟩
     simp only []
     rw [List.take_add_one,List.take_add_one,hx,hy,cx,nO]
   . have hne:(!(x==y))=true:=by rw [Cx,aZ nO];rfl
     rw [aZ (fun e=>nO (by rw [e,hy] at hx;exact (Option.some.inj hx).symm))]
     simp only [SS,DD,Nat.reduceAdd,List.replicate,dd,lD,qS,ax,hpx,hpy,hne]
     refine ⟨by simp [aJ,apart], ?_⟩
     exact ah▸ae rfl (af.bool _)
 . have dd:decide ((i:Int)<(l.length:Int))=false:=ag (by omega)
   have fK:i=l.length:=by omega
   have DU:i=m.length:=by omega
   rw [bI (by rw [fK,List.take_length] at cx;rw [cx,hlen,List.take_length])]
   simp only [SS,List.replicate,dd]
   exact ah▸ae rfl (af.bool _)
theorem mz {f:FuncId} (h:Has P f dZ) (l m:List (Nat)) (hl:l.length<=9223372036854775807) (hm:m.length<=9223372036854775807):VP P G f [.sl 1 (l.map (fun n:Nat=>AV.int .u32 (n:Int))), .sl 1 (m.map (fun n:Nat=>AV.int .u32 (n:Int)))] (.bool (gJ l m)):=by
 by_cases hlen:l.length=m.length
 case neg =>
   have d0:decide ((l.length:Int)≠(m.length:Int))=true:=ai (by omega)
   rw [aZ (fun e=>hlen (by rw [e]))]
   refine VP.has h ?_
   simp only [dZ,SS,Nat.reduceAdd,List.length_map,d0]
   exact ah▸ae rfl (af.bool _)
 have d0:decide ((l.length:Int)≠(m.length:Int))=false:=ag (by omega)
 refine VP.has h ?_
 simp only [dZ,SS,Nat.reduceAdd,List.length_map,d0,az]
 refine VW.bG (α := Nat × Nat) (fun x=>⟨[.sl 1 (l.map (fun n:Nat=>AV.int .u32 (n:Int))), .sl 1 (m.map (fun n:Nat=>AV.int .u32 (n:Int))), .top, .top, .top, .top, .top, .top, .top, .top, .top, .top, .int .i64 (l.length:Int), .int .i64 (x.1:Int)]++List.replicate 12 .top,fun _=>none,x.2⟩)
   (fun x=>x.1<=l.length/\l.take x.1=m.take x.1) (fun x=>l.length-x.1) (0,1000) ?_ ⟨Nat.zero_le _,by simp⟩ ?_
 . exact Wk.slots (by simp [Fg,List.replicate]) (by omega)
 rintro ⟨i,nn⟩ ⟨hi,cx⟩
 simp only [] at hi cx
 by_cases hlt:i<l.length
 . obtain ⟨x,hx⟩:∃ x,l[i]? = some x:=⟨_,List.getElem?_eq_getElem hlt⟩
   obtain ⟨y,hy⟩:∃ y,m[i]? = some y:=⟨_,List.getElem?_eq_getElem (by omega)⟩
   have dd:decide ((i:Int)<(l.length:Int))=true:=ai (by omega)
   have hgx:(l.map (fun n:Nat=>AV.int .u32 (n:Int)))[i]? = some ((fun n:Nat=>AV.int .u32 (n:Int)) x):=by rw [List.getElem?_map,hx];rfl
   have IJ:(m.map (fun n:Nat=>AV.int .u32 (n:Int)))[i]? = some ((fun n:Nat=>AV.int .u32 (n:Int)) y):=by rw [List.getElem?_map,hy];rfl
   have hpx:part false ((fun n:Nat=>AV.int .u32 (n:Int)) x).cells 0 1=some ((fun n:Nat=>AV.int .u32 (n:Int)) x):=rfl
   have hpy:part false ((fun n:Nat=>AV.int .u32 (n:Int)) y).cells 0 1=some ((fun n:Nat=>AV.int .u32 (n:Int)) y):=rfl
   have lD:aV 1 (.sl 1 (l.map (fun n:Nat=>AV.int .u32 (n:Int)))) (.int .i64 (i:Int))=some (.ep ((fun n:Nat=>AV.int .u32 (n:Int)) x).cells 0):=aN rfl hgx
   have qS:aV 1 (.sl 1 (m.map (fun n:Nat=>AV.int .u32 (n:Int)))) (.int .i64 (i:Int))=some (.ep ((fun n:Nat=>AV.int .u32 (n:Int)) y).cells 0):=aN rfl IJ
   by_cases nO:x=y
   . have hne:decide ((x:Int)≠(y:Int))=false:=by rw [ub,bI nO];rfl
     simp only [SS,DD,Nat.reduceAdd,List.replicate,dd,lD,qS,ax,hpx,hpy,hne,ao i (by omega)]
     refine ⟨by simp [aJ,apart],(i+1,nn+1000),⟨by simp only [];omega, ?_⟩,by simp only [];omega,Wk.slots (by simp [Fg]) (by omega)⟩
     simp only []
     rw [List.take_add_one,List.take_add_one,hx,hy,cx,nO]
   . have hne:decide ((x:Int)≠(y:Int))=true:=by rw [ub,aZ nO];rfl
     rw [aZ (fun e=>nO (by rw [e,hy] at hx;exact (Option.some.inj hx).symm))]
     simp only [SS,DD,Nat.reduceAdd,List.replicate,dd,lD,qS,ax,hpx,hpy,hne]
     refine ⟨by simp [aJ,apart], ?_⟩
     exact ah▸ae rfl (af.bool _)
 . have dd:decide ((i:Int)<(l.length:Int))=false:=ag (by omega)
   have fK:i=l.length:=by omega
   have DU:i=m.length:=by omega
   rw [bI (by rw [fK,List.take_length] at cx;rw [cx,hlen,List.take_length])]
   simp only [SS,List.replicate,dd]
   exact ah▸ae rfl (af.bool _)
theorem pG {σ : aa} {id:Id} {k kk:Nat} {z v:AV} (h : σ id=some ⟨[z],kk,false⟩) (hz:z.size=k) (hv:v.cells.length=k) (h1:v.cells.all AV.one=true) (hu:z.upd 0 v.cells=v) :
   eO σ k (.ref id 0 0) v=some { val := .tup [],rd:=[id],up:=[(id,some ⟨[v],kk,false⟩)] }:=by
 rw [dw (n:=k) (v:=v) h rfl (by rw [hv]) (by rw [hz];omega) h1]
 simp [hu]
theorem MY (a b:Bool):(a==b)=gJ a b:=by
 by_cases h:a=b
 . rw [bI h];simp [h]
 . rw [aZ h];simp [h]
theorem IK (b:Bool) (ws:List Nat):part false (IR b ws).cells 0 1=some (.bool b):=rfl
theorem EL (b:Bool) (ws:List Nat):part false (IR b ws).cells 1 1=some (.sl 1 (us ws)):=rfl
theorem IL {f fe:FuncId} (h:Has P f (jl fe)) (b b':Bool) (ws MZ:List Nat) (he:VP P G fe [.sl 1 (us ws), .sl 1 (us MZ)] (.bool (gJ ws MZ))) :
   VP P G f [IR b ws,IR b' MZ] (.bool (gJ (b,ws) (b',MZ))):=by
 have lG:([0]:List Nat)≠[1]:=by decide
 by_cases hb:b=b'
 . have d1:(b==b')=true:=by simp [hb]
   have e:gJ (b,ws) (b',MZ)=gJ ws MZ:=by
     by_cases hw:ws=MZ
     . rw [bI hw,bI (by rw [hb,hw])]
     . rw [aZ hw,aZ (fun q=>hw (Prod.mk.inj q).2)]
   rw [e]
   refine VP.has h ?_
   simp only [jl,SS,Nat.reduceAdd,zb,ay lG,ak,IK,EL,d1]
   refine aj he (by simp [kz]) ?_
   simp only [SS,Nat.reduceAdd]
   exact ah▸ae rfl (af.bool _)
 . have d1:(b==b')=false:=by simp [hb]
   rw [aZ (fun q=>hb (Prod.mk.inj q).1)]
   refine VP.has h ?_
   simp only [jl,SS,Nat.reduceAdd,zb,ay lG,ak,IK,d1]
   exact ah▸ae rfl (af.bool _)
theorem cQ {f fe:FuncId} (h:Has P f aM) {α : Type} (φ : α -> AV) (hs:∀ x,(φ x).size=7) (hp:∀ x,af (φ x)) (h1:∀ x,(φ x).cells.all AV.one=true) (AH:∀ x,part true (φ x).cells 0 7=some (φ x)) (hu:∀ x,(AV.agg [.int .i64 0, .bool false, .nils, .bool false, .nils, .str [], .nils]).upd 0 (φ x).cells = φ x)
   (l m:List α) (hl:l.length<=9223372036854775807) (hm:m.length<=9223372036854775807) (he:∀ x∈l,∀ y∈m,VP P G fe [φ x, φ y] (.bool (gJ x y))):VP P G f [.sl 7 (l.map φ), .sl 7 (m.map φ), .fn (.func fe) [] []] (.bool (gJ l m)):=by
 by_cases hlen:l.length=m.length
 case neg =>
   have d0:decide ((l.length:Int)≠(m.length:Int))=true:=ai (by omega)
   rw [aZ (fun e=>hlen (by rw [e]))]
   refine VP.has h ?_
   simp only [aM,SS,Nat.reduceAdd,List.length_map,d0]
   exact ah▸ae rfl (af.bool _)
 have d0:decide ((l.length:Int)≠(m.length:Int))=false:=ag (by omega)
 have z1:((AV.agg [.int .i64 0, .bool false, .nils, .bool false, .nils, .str [], .nils]).cells.all AV.one=true)=True:=by simp [AV.cells,AV.one]
 refine VP.has h ?_
 simp only [aM,SS,Nat.reduceAdd,List.length_map,d0,az]
 refine VW.bG (α := Nat × Nat) (fun x=>⟨[.sl 7 (l.map φ), .sl 7 (m.map φ), .fn (.func fe) [] [], .top, .top, .top, .top, .top, .top, .top, .top, .top, .top, .top, .top, .sl 7 (l.map φ), .int .i64 (l.length:Int), .int .i64 (x.1:Int)]++List.replicate 14 .top,fun _=>none,x.2⟩)
   (fun x=>x.1<=l.length/\l.take x.1=m.take x.1) (fun x=>l.length-x.1) (0,1000) ?_ ⟨Nat.zero_le _,by simp⟩ ?_
 . exact Wk.slots (by simp [Fg,List.replicate]) (by omega)
 rintro ⟨i,nn⟩ ⟨hi,cx⟩
 simp only [] at hi cx
 by_cases hlt:i<l.length
 . obtain ⟨x,hx⟩:∃ x,l[i]? = some x:=⟨_,List.getElem?_eq_getElem hlt⟩
   obtain ⟨y,hy⟩:∃ y,m[i]? = some y:=⟨_,List.getElem?_eq_getElem (by omega)⟩
   have dd:decide ((i:Int)<(l.length:Int))=true:=ai (by omega)
   have hgx:(l.map φ)[i]? = some (φ x):=by rw [List.getElem?_map,hx];rfl
   have IJ:(m.map φ)[i]? = some (φ y):=by rw [List.getElem?_map,hy];rfl
   have lD:aV 7 (.sl 7 (l.map φ)) (.int .i64 (i:Int))=some (.ep (φ x).cells 0):=aN rfl hgx
   have qS:aV 7 (.sl 7 (m.map φ)) (.int .i64 (i:Int))=some (.ep (φ y).cells 0):=aN rfl IJ
   have Gi:=he x (List.mem_of_getElem? hx) y (List.mem_of_getElem? hy)
   simp only [SS,Nat.reduceAdd,List.replicate,dd,lD,ax,AH,z1]
   rw [pG (z:=(AV.agg [.int .i64 0, .bool false, .nils, .bool false, .nils, .str [], .nils])) (k:=7) (kk:=(AV.agg [.int .i64 0, .bool false, .nils, .bool false, .nils, .str [], .nils]).size) (by simp [aa.put]) rfl (hs x) (h1 x) (hu x)]
   simp only [SS,Nat.reduceAdd,qS,ax,AH,z1]
   rw [pG (z:=(AV.agg [.int .i64 0, .bool false, .nils, .bool false, .nils, .str [], .nils])) (k:=7) (kk:=(AV.agg [.int .i64 0, .bool false, .nils, .bool false, .nils, .str [], .nils]).size) (by simp [aa.put]) rfl (hs y) (h1 y) (hu y)]
   have kne:([nn+1+3]:List Nat)≠[nn+1+6+4]:=by intro e;simp at e
   simp only [SS,Nat.reduceAdd,ay kne,ak,AH]
   refine aj Gi (by simp [hp]) ?_
   by_cases nO:x=y
   . rw [bI nO]
     simp only [SS,Nat.reduceAdd,ao i (by omega)]
     refine ⟨(i+1,nn+1000),⟨by simp only [];omega, ?_⟩,by simp only [];omega,Wk.forget (by simp [Fg]) (fun j => .inl rfl) (by omega)⟩
     simp only []
     rw [List.take_add_one,List.take_add_one,hx,hy,cx,nO]
   . rw [aZ nO,aZ (fun e=>nO (by rw [e,hy] at hx;exact (Option.some.inj hx).symm))]
     simp only [SS,Nat.reduceAdd]
     exact ah▸ae rfl (af.bool _)
 . have dd:decide ((i:Int)<(l.length:Int))=false:=ag (by omega)
   have fK:i=l.length:=by omega
   rw [bI (by rw [fK,List.take_length] at cx;rw [cx,hlen,List.take_length])]
   simp only [SS,List.replicate,dd]
   exact ah▸ae rfl (af.bool _)
theorem eg {f fe:FuncId} (h:Has P f aT) {α : Type} (φ : α -> AV) (hs:∀ x,(φ x).size=5) (hp:∀ x,af (φ x)) (h1:∀ x,(φ x).cells.all AV.one=true) (AH:∀ x,part true (φ x).cells 0 5=some (φ x)) (hu:∀ x,(AV.agg [(.str []),(.int .i64 (0)), .nils, .nils,(.bool false)]).upd 0 (φ x).cells = φ x)
   (l m:List α) (hl:l.length<=9223372036854775807) (hm:m.length<=9223372036854775807) (he:∀ x∈l,∀ y∈m,VP P G fe [φ x, φ y] (.bool (gJ x y))):VP P G f [.sl 5 (l.map φ), .sl 5 (m.map φ), .fn (.func fe) [] []] (.bool (gJ l m)):=by
 by_cases hlen:l.length=m.length
 case neg =>
   have d0:decide ((l.length:Int)≠(m.length:Int))=true:=ai (by omega)
   rw [aZ (fun e=>hlen (by rw [e]))]
   refine VP.has h ?_
   simp only [aT,SS,Nat.reduceAdd,List.length_map,d0]
   exact ah▸ae rfl (af.bool _)
 have d0:decide ((l.length:Int)≠(m.length:Int))=false:=ag (by omega)
 have z1:((AV.agg [(.str []),(.int .i64 (0)), .nils, .nils,(.bool false)]).cells.all AV.one=true)=True:=by simp [AV.cells,AV.one]
 refine VP.has h ?_
 simp only [aT,SS,Nat.reduceAdd,List.length_map,d0,az]
 refine VW.bG (α := Nat × Nat) (fun x=>⟨[.sl 5 (l.map φ), .sl 5 (m.map φ), .fn (.func fe) [] [], .top, .top, .top, .top, .top, .top, .top, .top, .top, .top, .top, .top, .sl 5 (l.map φ), .int .i64 (l.length:Int), .int .i64 (x.1:Int)]++List.replicate 14 .top,fun _=>none,x.2⟩)
   (fun x=>x.1<=l.length/\l.take x.1=m.take x.1) (fun x=>l.length-x.1) (0,1000) ?_ ⟨Nat.zero_le _,by simp⟩ ?_
 . exact Wk.slots (by simp [Fg,List.replicate]) (by omega)
 rintro ⟨i,nn⟩ ⟨hi,cx⟩
 simp only [] at hi cx
 by_cases hlt:i<l.length
 . obtain ⟨x,hx⟩:∃ x,l[i]? = some x:=⟨_,List.getElem?_eq_getElem hlt⟩
   obtain ⟨y,hy⟩:∃ y,m[i]? = some y:=⟨_,List.getElem?_eq_getElem (by omega)⟩
   have dd:decide ((i:Int)<(l.length:Int))=true:=ai (by omega)
   have hgx:(l.map φ)[i]? = some (φ x):=by rw [List.getElem?_map,hx];rfl
   have IJ:(m.map φ)[i]? = some (φ y):=by rw [List.getElem?_map,hy];rfl
   have lD:aV 5 (.sl 5 (l.map φ)) (.int .i64 (i:Int))=some (.ep (φ x).cells 0):=aN rfl hgx
   have qS:aV 5 (.sl 5 (m.map φ)) (.int .i64 (i:Int))=some (.ep (φ y).cells 0):=aN rfl IJ
   have Gi:=he x (List.mem_of_getElem? hx) y (List.mem_of_getElem? hy)
   simp only [SS,Nat.reduceAdd,List.replicate,dd,lD,ax,AH,z1]
   rw [pG (z:=(AV.agg [(.str []),(.int .i64 (0)), .nils, .nils,(.bool false)])) (k:=5) (kk:=(AV.agg [(.str []),(.int .i64 (0)), .nils, .nils,(.bool false)]).size) (by simp [aa.put]) rfl (hs x) (h1 x) (hu x)]
   simp only [SS,Nat.reduceAdd,qS,ax,AH,z1]
   rw [pG (z:=(AV.agg [(.str []),(.int .i64 (0)), .nils, .nils,(.bool false)])) (k:=5) (kk:=(AV.agg [(.str []),(.int .i64 (0)), .nils, .nils,(.bool false)]).size) (by simp [aa.put]) rfl (hs y) (h1 y) (hu y)]
   have kne:([nn+1+3]:List Nat)≠[nn+1+6+4]:=by intro e;simp at e
   simp only [SS,Nat.reduceAdd,ay kne,ak,AH]
   refine aj Gi (by simp [hp]) ?_
   by_cases nO:x=y
   . rw [bI nO]
     simp only [SS,Nat.reduceAdd,ao i (by omega)]
     refine ⟨(i+1,nn+1000),⟨by simp only [];omega, ?_⟩,by simp only [];omega,Wk.forget (by simp [Fg]) (fun j => .inl rfl) (by omega)⟩
     simp only []
     rw [List.take_add_one,List.take_add_one,hx,hy,cx,nO]
   . rw [aZ nO,aZ (fun e=>nO (by rw [e,hy] at hx;exact (Option.some.inj hx).symm))]
     simp only [SS,Nat.reduceAdd]
     exact ah▸ae rfl (af.bool _)
 . have dd:decide ((i:Int)<(l.length:Int))=false:=ag (by omega)
   have fK:i=l.length:=by omega
   rw [bI (by rw [fK,List.take_length] at cx;rw [cx,hlen,List.take_length])]
   simp only [SS,List.replicate,dd]
   exact ah▸ae rfl (af.bool _)
end
theorem Yt {σ : aa} {p id:Id} {k bytes:Nat} {e:AV} {b t:Bool} (h : σ id=some ⟨[e],k,b⟩) (hb:bytes<=140737488355328) (h1:e.cells.all AV.one=true) :
   bQ σ p k bytes .nils (.osl id k 0 1 t)=some { val := .osl p k 0 1 false,rd:=[id],up:=[(p,some ⟨[e],k,false⟩)] } :=
 nF (ys:=[e]) (by rw [dY h rfl (by simp)];rfl) (by simp) (by simpa using hb) (bE (by simp)) (by simpa using h1)
section
open Go.Lib
theorem Gj {σ : aa} {p id GL:Id} {k bytes:Nat} {l:List AV} {x:AV} {b t:Bool} (h : σ id=some ⟨[x],k,b⟩) (h2 : σ GL=some ⟨l,k,false⟩) (hb:(l.length+1)*bytes<=140737488355328) (h0:0<bytes) (h1:x.cells.all AV.one=true) (h3:(l.all fun e=>e.cells.all AV.one)=true) :
   bQ σ p k bytes (.osl GL k 0 l.length false) (.osl id k 0 1 t)=some { val := .osl p k 0 (l.length+1) false,rd:=[GL,id],up:=[(GL,none),(p,some ⟨l++[x],k,false⟩)] } :=
 jf (σ := σ) (p:=p) (id:=GL) (k:=k) (bytes:=bytes) (len:=l.length) (x := .osl id k 0 1 t) (els:=l) (ys:=[x]) (rd:=[id]) (by rw [dY h rfl (by simp)];rfl) (by simp) h2 rfl hb (bE (by have:=Nat.le_mul_of_pos_right (l.length+1) h0;simp;omega)) (by simpa using h1) h3
theorem M0 {α : Type} {f : α -> AV} (h:∀ x,((f x).cells.all AV.one=true)=True) (l:List α):((l.map f).all fun e=>e.cells.all AV.one)=true:=by
 rw [List.all_eq_true];intro e he;obtain ⟨x,_,rfl⟩:=List.mem_map.1 he;exact of_eq_true (h x)
end
theorem Gk (ws:List Nat) (ρ : Id->Id):bJ ρ (us ws)=us ws:=by
 rw [fG];unfold us;rw [List.map_map];rfl
theorem C5.map {α : Type} {f : α -> AV} (h:∀ x,PU (f x)) (l:List α):C5 (l.map f):=⟨by intro c hc;obtain ⟨x,_,rfl⟩:=List.mem_map.1 hc;exact (h x).pure,fun ρ => by rw [fG,List.map_map];exact List.map_congr_left fun x _=>(h x).fix ρ⟩
theorem PU.rows {α : Type} {f : α -> AV} {k:Nat} (h:∀ x,PU (f x)) (hp:∀ x,∀ d∈(f x).cells,af d) (l:List α):PU (.sl k (l.map f)):=PU.slice (by
 intro c hc
 simp only [flat,List.mem_flatMap,List.mem_map] at hc
 obtain ⟨_,⟨x,_,rfl⟩,hc⟩:=hc
 exact hp x c hc) (by intro c hc ρ;obtain ⟨x,_,rfl⟩:=List.mem_map.1 hc;exact (h x).fix ρ)
instance {ws:List Nat}:PU (.sl 1 (us ws)):=⟨kz ws,fun ρ => by show AV.sl 1 (bJ ρ (us ws))=_;rw [Gk]⟩
instance {i:IntKind} {n:Int}:PU (.sl 1 [.int i n]):=PU.slice (by intro c hc;simp [flat,AV.cells] at hc;subst hc;exact af.int _ _) (by intro c hc ρ;simp at hc;subst hc;rfl)
instance {n:Nat}:PU (W n):=⟨bp n,fun ρ => by show AV.sl 1 (bJ ρ (us (digits n)))=_;rw [Gk];rfl⟩
instance {z:Int}:PU (IV z):=by unfold IV;infer_instance
instance {l:List (List UInt8)}:PU (strs l):=PU.rows (f:=AV.str) (fun x=>inferInstance) (fun x d hd=>by simp only [AV.cells,List.mem_singleton] at hd;subst hd;exact af.str x) l
theorem bF {ρ : Id->Id} {c:AV} {l:List AV}:bJ ρ (c::l)=c.di ρ :: bJ ρ l:=rfl
theorem cd {ρ : Id->Id}:bJ ρ []=[]:=rfl
theorem uc {ρ : Id->Id} {n:Nat}:bJ ρ (List.replicate n .top)=List.replicate n .top:=by rw [fG,List.map_replicate];rfl
theorem PU.fixed {c:AV} [h:PU c] {ρ : Id->Id}:c.di ρ = c:=h.fix ρ
theorem uI {ρ : Id->Id} {i:Id} {e o:Nat}:AV.di ρ (.ref i e o) = .ref (ρ i) e o:=rfl
theorem nI {ρ : Id->Id} {i:Id} {k o l:Nat} {t:Bool}:AV.di ρ (.osl i k o l t) = .osl (ρ i) k o l t:=rfl
theorem xW {ρ : Id->Id}:AV.di ρ .top = .top:=rfl
theorem cy {ρ : Id->Id} {l:List AV} {k:Nat} {b:Bool}:a8.di ρ ⟨l,k,b⟩=⟨bJ ρ l,k,b⟩:=rfl
theorem aY {ρ : Id->Id} {x:Id × a8} {K:List (Id × a8)}:uQ ρ (x::K)=(ρ x.1,x.2.di ρ)::uQ ρ K:=rfl
theorem bm {ρ : Id->Id}:uQ ρ []=[]:=rfl
section
variable {P:Program} {G:Nat->Option (List AV)}
def D6 {f:FuncId} {args eD:List AV} {r:AV} (S:List (Id × a8)) (h:VP P G f eD r) (hv:aI (aa.of S) args eD):Hint P G := .rel f args S (fun _=>{ val:=r,rd:=S.map (·.1),up:=nX S }) (fun p _=>aq.AR h hv) (fun p x hx=>List.mem_map.2 ⟨x,hx,rfl⟩)
end
section
open Go.Proofs
section
variable {P:Program} {G:Nat->Option (List AV)}
instance {n:Bool} {w:List Nat}:PU (IR n w):=by unfold IR;infer_instance
instance {a b:Int}:PU (RV a b):=by unfold RV;infer_instance
end
end
section
open Go.Proofs
section
variable {P:Program} {G:Nat->Option (List AV)}
instance {c:UInt8}:PU (ga c):=by unfold ga;infer_instance
end
end
end Go.VL
namespace Go.Proofs.YtcomlgfjnjpebaaGreatDoor
section
open Go.VL Go.Proofs
section
variable {G:Nat->Option (List AV)}
theorem RZ (hs:iM Tryz.prog G 182) (z:Int) (hz:ab z.natAbs<=1000000):VP Tryz.prog G 223 [IV z] (IV (-z)):=by
 have dr:=hs (!decide (z<0)) z.natAbs (by omega)
 rw [MH] at dr
 have lG:([0]:List Nat)≠[1]:=by decide
 exact vt [hc dr] (by kernel_rfl)
theorem OU (hs:iM Tryz.prog G 182) (z:Int) (hz:ab z.natAbs<=1000000):VP Tryz.prog G 185 [IV z] (IV z):=by
 have dr:=hs (decide (z<0)) z.natAbs (by omega)
 rw [Ca] at dr
 have lG:([0]:List Nat)≠[1]:=by decide
 exact vt [hc dr] (by kernel_rfl)
theorem UT (hi:VP Tryz.prog G 126 [.int .i64 1] (IV 1)):VP Tryz.prog G 140 [] (IV 1):=by
 exact vt [hc hi] (by kernel_rfl)
theorem OV (a b:Int) (hi:VP Tryz.prog G 137 [IV a] (.int .i64 a.sign)):VP Tryz.prog G 124 [RV a b] (.int .i64 a.sign):=by
 exact vt [hc hi] (by kernel_rfl)
theorem UU (OW:∀ z:Int,ab z.natAbs<=1000000->VP Tryz.prog G 137 [IV z] (.int .i64 z.sign)) (hci:∀ a b:Int,VP Tryz.prog G 143 [.int .i64 a, .int .i64 b] (.int .i64 (iy a b))) (ht:gU Tryz.prog G 145)
  (hC:∀ m n,ab m<=1000000->ab n<=1000000->VP Tryz.prog G 144 [W m,W n] (.int .i64 (gr m n))) (y z:Int) (hy:ab y.natAbs<=1000000) (hz:ab z.natAbs<=1000000):VP Tryz.prog G 127 [IV y,IV z] (.int .i64 (iy y z)):=by
 have i1:=OW y hy
 have i2:=OW z hz
 by_cases hs:y.sign=z.sign
 . have d0:(y.sign != z.sign)=false:=by simp [hs]
   have e1:IntKind.i64.wrap (y.sign*gr y.natAbs z.natAbs)=iy y z:=by
     rw [Ur hs,IntKind.wrap_i64]
     rcases od y z with ⟨e,_⟩ | ⟨e,_⟩ | ⟨e,_⟩<;>rw [e]<;>omega
   have t1:=nD ht y.natAbs (by omega)
   have t2:=nD ht z.natAbs (by omega)
   have c1:=hC y.natAbs z.natAbs hy hz
   rw [<- e1]
   exact vt [hc i1,hc i2,hb 13 d0,hc t1,hc t2,hc c1] (by kernel_rfl)
 . have d0:(y.sign != z.sign)=true:=by simp [hs]
   have c1:=hci y.sign z.sign
   rw [Oi hs] at c1
   exact vt [hc i1,hc i2,hb 13 d0,hc c1] (by kernel_rfl)
theorem OY (z:Int):VP Tryz.prog G 138 [IV z] (.bool (decide (z=1))):=by
 have h11:ab 1=1:=by unfold ab;rw [iw (by decide),show 1/au=0 from rfl,bh];rfl
 by_cases hn:z<0
 . have d0:(!decide (z<0))=false:=by rw [ai hn];rfl
   rw [ag (show z≠1 by omega)]
   exact vt [hb 6 d0] (by kernel_rfl)
 . have d0:(!decide (z<0))=true:=by rw [ag hn];rfl
   by_cases h1:ab z.natAbs=1
   . obtain ⟨w,hw⟩:=List.length_eq_one_iff.1 h1
     have hv:z.natAbs=w:=by have:=aH z.natAbs;rw [hw] at this;simp [val] at this;omega
     rw [show decide (z=1)=decide ((w:Int)=1) by congr 1;apply propext;omega]
     have e:IV z = .agg [.bool (decide (z<0)), .sl 1 (us [w])]:=by rw [<- hw];rfl
     rw [e]
     exact vt [hb 6 d0] (by kernel_rfl)
   . have d1:decide ((ab z.natAbs:Int)=1)=false:=ag (by omega)
     rw [ag (show z≠1 by intro e;rw [e] at h1;exact h1 h11)]
     exact vt [hb 6 d0,ho 9 (@bc z.natAbs),hb 10 d1] (by kernel_rfl)
theorem OZ (z:Int):VP Tryz.prog G 180 [IV z] (.bool (decide (z=1))):=by
 have h11:ab 1=1:=by unfold ab;rw [iw (by decide),show 1/au=0 from rfl,bh];rfl
 by_cases h1:ab z.natAbs=1
 . obtain ⟨w,hw⟩:=List.length_eq_one_iff.1 h1
   have hv:z.natAbs=w:=by have:=aH z.natAbs;rw [hw] at this;simp [val] at this;omega
   have e:IV z = .agg [.bool (decide (z<0)), .sl 1 (us [w])]:=by rw [<- hw];rfl
   rw [e]
   by_cases mW:w=1
   . have d2:decide ((w:Int)=1)=true:=ai (by omega)
     rw [show decide (z=1) = !decide (z<0) by
       by_cases hn:z<0
       . rw [ai hn,ag (by omega)];rfl
       . rw [ag hn,ai (by omega)];rfl]
     exact vt [hb 14 d2] (by kernel_rfl)
   . have d2:decide ((w:Int)=1)=false:=ag (by omega)
     rw [ag (show z≠1 by omega)]
     exact vt [hb 14 d2] (by kernel_rfl)
 . have d1:decide ((ab z.natAbs:Int)=1)=false:=ag (by omega)
   rw [ag (show z≠1 by intro e;rw [e] at h1;exact h1 h11)]
   exact vt [ho 5 (@bc z.natAbs),hb 6 d1] (by kernel_rfl)
theorem UW (a b:Int) (hO:VP Tryz.prog G 138 [IV b] (.bool (decide (b=1)))) (hd:VP Tryz.prog G 196 [IV a,IV b] (.tup [IV (a.fdiv b),IV (a.fmod b), .int .i64 0])):VP Tryz.prog G 170 [IV a,IV b] (IV (a.fdiv b)):=by
 by_cases h1:b=1
 . have d1:decide (b=1)=true:=ai h1
   rw [show a.fdiv b=a by rw [h1,Int.fdiv_one]]
   exact vt [hc hO,hbr 9 d1] (by kernel_rfl)
 . have d1:decide (b=1)=false:=ag h1
   exact vt [hc hO,hbr 9 d1,hc hd] (by kernel_rfl)
theorem KT (hu:∀ n,n<18446744073709551616->VP Tryz.prog G 183 [.int .u64 ((n:Nat):Int)] (W n)) (hs:iM Tryz.prog G 182) (a:Int) (h1 : -9223372036854775808<=a) (h2:a<9223372036854775808):VP Tryz.prog G 160 [.int .i64 a] (IV a):=by
 have hsz:=mn a.natAbs (by omega)
 have dr:=hs (decide (a<0)) a.natAbs (by omega)
 rw [Ca] at dr
 have DV:=hu a.natAbs (by omega)
 by_cases hn:a<0
 . have d1:decide (a<0)=true:=ai hn
   rw [d1] at dr
   rw [<- show IntKind.u64.wrap (0-(IntKind.u64.wrap a))=(a.natAbs:Int) by rw [IntKind.wrap_u64,IntKind.wrap_u64];omega] at DV
   exact vt [hb 4 d1,hc DV,hc dr] (by kernel_rfl)
 . have d1:decide (a<0)=false:=ag hn
   rw [d1] at dr
   rw [<- show IntKind.u64.wrap a=(a.natAbs:Int) by rw [IntKind.wrap_u64];omega] at DV
   exact vt [hb 4 d1,hc DV,hc dr] (by kernel_rfl)
theorem R1 (hn:∀ z:Int,ab z.natAbs<=1000000->VP Tryz.prog G 185 [IV z] (IV z))
  (hp:∀ m n,ab m<=1000000->ab n<=1000000->VP Tryz.prog G 224 [W m,W n] (W (m+n))) (hs:iM Tryz.prog G 182) (hC:∀ m n,ab m<=1000000->ab n<=1000000->VP Tryz.prog G 184 [W m,W n] (.int .i64 (gr m n)))
  (hm:∀ m n,n<=m->ab m<=1000000->VP Tryz.prog G 217 [W m,W n] (W (m-n))) (a b:Int) (ha:ab a.natAbs<=1000000) (hB:ab b.natAbs<=1000000):VP Tryz.prog G 220 [IV a,IV b] (IV (a+b)):=by
 have n1:=hn a ha
 have n2:=hn b hB
 have hwl:ab (a.natAbs+b.natAbs)<=1000001:=F6 ha hB
 have hpv:=hp a.natAbs b.natAbs ha hB
 have hcv:=hC a.natAbs b.natAbs ha hB
 by_cases AU:decide (a<0)=decide (b<0)
 . have d0:(decide (a<0)==decide (b<0))=true:=by rw [AU];exact beq_self_eq_true _
   have WJ:=hs (decide (a<0)) (a.natAbs+b.natAbs) (by omega)
   rw [Rp AU] at WJ
   exact vt [hc n1,hc n2,hb 13 d0,hc hpv,hc WJ] (by kernel_rfl)
 . have d0:(decide (a<0)==decide (b<0))=false:=by simpa using AU
   by_cases rn:b.natAbs<=a.natAbs
   . have d1:decide (0<=gr a.natAbs b.natAbs)=true:=ai (by simp only [gr,iy];rw [if_neg (by omega)];split<;>decide)
     have MQ:=hm a.natAbs b.natAbs rn ha
     have WJ:=hs (decide (a<0)) (a.natAbs-b.natAbs) (by have:=c9 (Nat.sub_le a.natAbs b.natAbs);omega)
     rw [Iq AU rn] at WJ
     exact vt [hc n1,hc n2,hb 13 d0,hc hcv,hb 27 d1,hc MQ,hc WJ] (by kernel_rfl)
   . have d1:decide (0<=gr a.natAbs b.natAbs)=false:=ag (by simp only [gr,iy];rw [if_pos (by omega)];decide)
     have MQ:=hm b.natAbs a.natAbs (by omega) hB
     have WJ:=hs (decide (b<0)) (b.natAbs-a.natAbs) (by have:=c9 (Nat.sub_le b.natAbs a.natAbs);omega)
     rw [Iq (fun e=>AU e.symm) (by omega),Int.add_comm] at WJ
     exact vt [hc n1,hc n2,hb 13 d0,hc hcv,hb 27 d1,hc MQ,hc WJ] (by kernel_rfl)
theorem O0 (hn:∀ z:Int,ab z.natAbs<=1000000->VP Tryz.prog G 185 [IV z] (IV z))
  (ht:∀ m n,ab m<=1000000->ab n<=1000000->VP Tryz.prog G 205 [W m,W n] (W (m*n))) (hs:iM Tryz.prog G 182) (a b:Int) (ha:ab a.natAbs<=1000000) (hB:ab b.natAbs<=1000000):VP Tryz.prog G 187 [IV a,IV b] (IV (a*b)):=by
 have n1:=hn a ha
 have n2:=hn b hB
 have Kw:=ht a.natAbs b.natAbs ha hB
 have dr:=hs (!(decide (a<0)==decide (b<0))) (a.natAbs*b.natAbs) (by have:=oa a.natAbs b.natAbs;omega)
 rw [MI] at dr
 exact vt [hc n1,hc n2,hc Kw,hc dr] (by kernel_rfl)
theorem KU (a b g:Int) (hg:VP Tryz.prog G 139 [IV a,IV b] (IV g)) (hn:VP Tryz.prog G 169 [IV g] (IV (-g)))
  (hq:∀ x y:Int,(x=a∨x=b)->(y=g∨y = -g)->VP Tryz.prog G 170 [IV x,IV y] (IV (x.fdiv y))):VP Tryz.prog G 147 [IV a,IV b] (RV (a.fdiv (if b<0 then -g else g)) (b.fdiv (if b<0 then -g else g))):=by
 by_cases hB:b<0
 . have q1:=hq a (-g) (.inl rfl) (.inr rfl)
   have q2:=hq b (-g) (.inr rfl) (.inr rfl)
   rw [if_pos hB]
   have d1:=ai hB
   exact vt [hc hg,hb 10 d1,hc hn,hc q1,hc q2] (by kernel_rfl)
 . have q1:=hq a g (.inl rfl) (.inl rfl)
   have q2:=hq b g (.inr rfl) (.inl rfl)
   rw [if_neg hB]
   have d1:=ag hB
   exact vt [hc hg,hb 10 d1,hc q1,hc q2] (by kernel_rfl)
theorem R2 (a b c d:Int) (x:AV) {x1 x2:Int} (hx:x=RV x1 x2) (hi:∀ z,VP Tryz.prog G 138 [IV z] (.bool (decide (z=1)))) (GM:VP Tryz.prog G 146 [IV a,IV c] (IV (a*c))) (sQ:VP Tryz.prog G 146 [IV b,IV d] (IV (b*d))) (hO:VP Tryz.prog G 140 [] (IV 1))
  (hl:VP Tryz.prog G 147 [IV (a*c),IV (b*d)] x):VP Tryz.prog G 128 [RV a b,RV c d] (if b=1/\d=1 then RV (a*c) 1 else x):=by
 subst hx
 have i1:=hi b
 have i2:=hi d
 by_cases hB:b=1
 . have d1:=ai hB
   by_cases hd:d=1
   . have d2:=ai hd
     rw [if_pos ⟨hB,hd⟩]
     unfold RV
     exact vt [hc i1,hb 8 d1,hc i2,hb 12 d2,hc GM,hc hO] (by kernel_rfl)
   . have d2:=ag hd
     rw [if_neg fun e=>hd e.2]
     unfold RV
     exact vt [hc i1,hb 8 d1,hc i2,hb 12 d2,hc GM,hc sQ,hc hl] (by kernel_rfl)
 . have d1:=ag hB
   rw [if_neg fun e=>hB e.1]
   unfold RV
   exact vt [hc i1,hb 8 d1,hc GM,hc sQ,hc hl] (by kernel_rfl)
theorem IM (ht:gU Tryz.prog G 145):iM Tryz.prog G 141:=fun neg n hn=>by
 have t1:=nD ht n hn
 have hl := @bc n
 have hp:=bC (n:=n)
 by_cases h0:n=0
 . have d0:decide ((ab n:Int)=0)=true:=ai (by omega)
   have e:IV (iL neg n) = .agg [.bool false, .sl 1 []]:=by rw [h0];cases neg<;>simp [IV,iL,W,bh,us]
   rw [e]
   refine VP.trV hN [hc t1,ho 8 hl,hb 9 d0] [] (.agg [.bool false, .nils]) (by kernel_rfl) fun _ _=>View.agg (aI.cons (View.pure (af.bool _)) (aI.cons (View.nils 1) aI.nil))
 . have d0:decide ((ab n:Int)=0)=false:=ag (by omega)
   have ei:IV (iL neg n) = .agg [.bool neg,W n]:=by cases neg<;>simp only [IV,iL]<;>simp<;>omega
   rw [ei]
   exact vt [hc t1,ho 8 hl,hb 9 d0] (by kernel_rfl)
theorem IP (ht:gU Tryz.prog G 203):iM Tryz.prog G 182:=fun neg n hn=>by
 have t1:=nD ht n hn
 have hl := @bc n
 have hp:=bC (n:=n)
 have dd:decide ((0:Int)<(ab n:Int))=decide (0<n):=by congr 1;apply propext;omega
 rw [aa8, <- dd]
 cases neg
 . exact vt [hc t1] (by kernel_rfl)
 . exact vt [hc t1,ho 10 hl] (by kernel_rfl)
theorem IQ (ht:gU Tryz.prog G 203) (neg:Bool) (ws:List Nat) (hw:Wd ws) (hl:ws.length<=9223372036854775807):VP Tryz.prog G 178 [IR neg ws] (.bool (fj neg ws)):=by
 have hlen:ky false (.sl 1 (us ws))=some (.int .i64 ws.length):=by simp [ky,dD]
 have t1:=ht ws hw hl
 have wl := @bc (val ws)
 rw [<- Ir neg hw]
 have d0:decide ((ab (val ws):Int)=(ws.length:Int))=decide (ab (val ws)=ws.length):=by congr 1;apply propext;omega
 have d1:decide ((0:Int)<(ws.length:Int))=decide (0<ws.length):=by congr 1;apply propext;omega
 rw [<- d0, <- d1]
 by_cases c:(ab (val ws):Int)=(ws.length:Int)
 . have c1:decide ((ab (val ws):Int)=(ws.length:Int))=true:=ai c
   rw [c1]
   cases neg
   . exact vt [hc t1,ho 6 wl,ho 9 hlen,hb 10 c1] (by kernel_rfl)
   . exact vt [hc t1,ho 6 wl,ho 9 hlen,hb 10 c1,ho 18 hlen] (by kernel_rfl)
 . have c1:decide ((ab (val ws):Int)=(ws.length:Int))=false:=ag c
   rw [c1]
   exact vt [hc t1,ho 6 wl,ho 9 hlen,hb 10 c1] (by kernel_rfl)
theorem KV (n1:Bool) (w1:List Nat) (n2:Bool) (w2:List Nat) (mW:Wd w1) (th:Wd w2) (g:Int)
  (l0:VP Tryz.prog G 136 [IR n1 w1] (.bool (fj n1 w1))) (oG:VP Tryz.prog G 136 [IR n2 w2] (.bool (fj n2 w2))) (hs:VP Tryz.prog G 137 [IV (iL n2 (val w2))] (.int .i64 (iL n2 (val w2)).sign))
  (hg:0<iL n2 (val w2)->VP Tryz.prog G 139 [IV (iL n1 (val w1)),IV (iL n2 (val w2))] (IV g)) (hO:VP Tryz.prog G 138 [IV g] (.bool (decide (g=1)))) :
   VP Tryz.prog G 123 [RR n1 w1 n2 w2] (.bool (fj n1 w1&&fj n2 w2&&decide (0<iL n2 (val w2))&&decide (g=1))):=by
 cases c1:fj n1 w1
 . rw [c1] at l0
   exact vt [hc l0] (by kernel_rfl)
 . rw [c1] at l0
   cases c2:fj n2 w2
   . rw [c2] at oG
     exact vt [hc l0,hc oG] (by kernel_rfl)
   . rw [c2] at oG
     have e1:=EB mW c1
     have e2:=EB th c2
     have e:RR n1 w1 n2 w2=RV (iL n1 (val w1)) (iL n2 (val w2)):=by
       simp only [IR,IV,AV.agg.injEq,List.cons.injEq,and_true] at e1 e2
       rw [RR,RV,e1.1,e1.2,e2.1,e2.2]
     rw [e1] at l0
     rw [e2] at oG
     rw [e]
     by_cases c3:0<iL n2 (val w2)
     . have d3:decide (0<(iL n2 (val w2)).sign)=true:=ai (by rw [Int.sign_eq_one_of_pos c3];decide)
       rw [ai c3]
       have GR:=hg c3
       exact vt [hc l0,hc oG,hc hs,hb 17 d3,hc GR,hc hO] (by kernel_rfl)
     . have d3:decide (0<(iL n2 (val w2)).sign)=false:=ag (by rcases ki (iL n2 (val w2)) with ⟨e,p⟩ | ⟨e,p⟩ | ⟨e,p⟩<;>omega)
       rw [ag c3]
       exact vt [hc l0,hc oG,hc hs,hb 17 d3] (by kernel_rfl)
theorem KW (ht:gU Tryz.prog G 145) (hd:∀ m n,n≠0->ab m<=900000->ab n<=900000->VP Tryz.prog G 164 [W m,W n] (.tup [W (m/n),W (m%n)]))
  (hp:∀ m n,ab m<=1000000->ab n<=1000000->VP Tryz.prog G 207 [W m,W n] (W (m+n))) (hm:∀ m n,n<=m->ab m<=1000000->VP Tryz.prog G 208 [W m,W n] (W (m-n))) (hs:iM Tryz.prog G 141) (a b:Int) (Gb:b≠0) (ha:ab a.natAbs<=900000) (hB:ab b.natAbs<=900000) :
   VP Tryz.prog G 196 [IV a,IV b] (.tup [IV (iL (JS a b) (dmq a b)),IV (iL (decide (b<0)) (dmr a b)), .int .i64 0]):=by
 have hbn:b.natAbs≠0:=by omega
 have A2:ab b.natAbs≠0:=fun e=>hbn (bC.1 e)
 have d0:decide ((ab b.natAbs:Int)=0)=false:=ag (by omega)
 have w1:=Ie a.natAbs b.natAbs
 have w2:=xN a.natAbs b.natAbs
 have w3:=Oj (a.natAbs/b.natAbs)
 have w4:ab (b.natAbs-a.natAbs%b.natAbs)<=ab b.natAbs:=c9 (Nat.sub_le _ _)
 have w5:=qG
 have P7:a.natAbs%b.natAbs<b.natAbs:=Nat.mod_lt _ (Nat.pos_of_ne_zero hbn)
 have hpv:=hp (a.natAbs/b.natAbs) 1 (by omega) (by omega)
 have MQ:=hm b.natAbs (a.natAbs%b.natAbs) (Nat.le_of_lt P7) (by omega)
 have t1:=nD ht b.natAbs (by omega)
 have t2:=nD ht a.natAbs (by omega)
 have Q6:=hd a.natAbs b.natAbs hbn ha hB
 have l1 := @bc b.natAbs
 have l2 := @bc (a.natAbs%b.natAbs)
 have hr:=bC (n:=a.natAbs%b.natAbs)
 have s2:=hs (decide (b<0)) (b.natAbs-a.natAbs%b.natAbs) (by omega)
 have s3:=hs (decide (b<0)) (a.natAbs%b.natAbs) (by omega)
 have s0:=hs (JS a b) (a.natAbs/b.natAbs) (by omega)
 have s1:=hs (JS a b) (a.natAbs/b.natAbs+1) (by omega)
 unfold dmq dmr
 by_cases OW:JS a b=true
 . by_cases hr:0<a.natAbs%b.natAbs
   . have d1:decide ((0:Int)<(ab (a.natAbs%b.natAbs):Int))=true:=ai (by omega)
     rw [if_pos ⟨OW,hr⟩,if_pos ⟨OW,hr⟩]
     exact vt [hc t1,ho 14 l1,hb 15 d0,hc t2,hc Q6,hb 31 OW,ho 33 l2,hb 34 d1,D6 [([33],⟨us [1],1,false⟩)] hpv (aI.cons (View.pure (bp _)) (aI.cons (Q3 (t:=false)) aI.nil)),hc MQ,hc s1,hc s2] (by kernel_rfl)
   . have d1:decide ((0:Int)<(ab (a.natAbs%b.natAbs):Int))=false:=ag (by omega)
     rw [if_neg (fun e=>hr e.2),if_neg (fun e=>hr e.2)]
     exact vt [hc t1,ho 14 l1,hb 15 d0,hc t2,hc Q6,hb 31 OW,ho 33 l2,hb 34 d1,hc s0,hc s3] (by kernel_rfl)
 . have ZK:JS a b=false:=by simpa using OW
   rw [if_neg (fun e=>OW e.1),if_neg (fun e=>OW e.1)]
   exact vt [hc t1,ho 14 l1,hb 15 d0,hc t2,hc Q6,hb 31 ZK,hc s0,hc s3] (by kernel_rfl)
theorem R3 (ht:gU Tryz.prog G 145) (z:Int) (hz:ab z.natAbs<=1000000):VP Tryz.prog G 137 [IV z] (.int .i64 z.sign):=by
 have hl:ab z.natAbs=0↔z=0:=by rw [bC];omega
 have t1:=nD ht z.natAbs (by omega)
 have l1 := @bc z.natAbs
 by_cases h0:z=0
 . have d0:decide ((ab z.natAbs:Int)=0)=true:=ai (by have:=hl.2 h0;omega)
   rw [show z.sign=0 by rw [h0];rfl]
   exact vt [hc t1,ho 7 l1,hb 8 d0] (by kernel_rfl)
 . have d0:decide ((ab z.natAbs:Int)=0)=false:=ag (by have:=fun e=>h0 (hl.1 e);omega)
   by_cases hn:z<0
   . have d1:decide (z<0)=true:=ai hn
     rw [Int.sign_eq_neg_one_of_neg hn]
     exact vt [hc t1,ho 7 l1,hb 8 d0,hb 11 d1] (by kernel_rfl)
   . have d1:decide (z<0)=false:=ag hn
     rw [Int.sign_eq_one_of_pos (by omega)]
     exact vt [hc t1,ho 7 l1,hb 8 d0,hb 11 d1] (by kernel_rfl)
theorem KX (hn:∀ z:Int,ab z.natAbs<=1000000->VP Tryz.prog G 185 [IV z] (IV z)) (z:Int) (hz:ab z.natAbs<=1000000):VP Tryz.prog G 179 [IV z] (.int .i64 z.sign):=by
 have hl:ab z.natAbs=0↔z=0:=by rw [bC];omega
 have t1:=hn z hz
 have l1 := @bc z.natAbs
 by_cases h0:z=0
 . have d0:decide ((ab z.natAbs:Int)=0)=true:=ai (by have:=hl.2 h0;omega)
   rw [show z.sign=0 by rw [h0];rfl]
   exact vt [hc t1,ho 7 l1,hb 8 d0] (by kernel_rfl)
 . have d0:decide ((ab z.natAbs:Int)=0)=false:=ag (by have:=fun e=>h0 (hl.1 e);omega)
   by_cases hn:z<0
   . have d1:decide (z<0)=true:=ai hn
     rw [Int.sign_eq_neg_one_of_neg hn]
     exact vt [hc t1,ho 7 l1,hb 8 d0,hb 10 d1] (by kernel_rfl)
   . have d1:decide (z<0)=false:=ag hn
     rw [Int.sign_eq_one_of_pos (by omega)]
     exact vt [hc t1,ho 7 l1,hb 8 d0,hb 10 d1] (by kernel_rfl)
theorem UX (ht:gU Tryz.prog G 145) (hC:∀ n,ab n<=1000000->VP Tryz.prog G 95 [W n] (W n)) (hs:iM Tryz.prog G 141) (z:Int) (hz:ab z.natAbs<=1000000):VP Tryz.prog G 169 [IV z] (IV (-z)):=by
 have dr:=hs (!decide (z<0)) z.natAbs (by omega)
 rw [MH] at dr
 have t1:=nD ht z.natAbs (by omega)
 have c1:=hC z.natAbs hz
 exact vt [hc t1,hc c1,hc dr] (by kernel_rfl)
theorem UY (ht:gU Tryz.prog G 145) (hm:∀ m n,ab m<=1000000->ab n<=1000000->VP Tryz.prog G 168 [W m,W n] (W (m*n))) (hs:iM Tryz.prog G 141) (y z:Int) (hy:ab y.natAbs<=1000000) (hz:ab z.natAbs<=1000000):VP Tryz.prog G 146 [IV y,IV z] (IV (y*z)):=by
 have dr:=hs (!(decide (y<0)==decide (z<0))) (y.natAbs*z.natAbs) (by have:=oa y.natAbs z.natAbs;omega)
 rw [MI] at dr
 have t1:=nD ht y.natAbs (by omega)
 have t2:=nD ht z.natAbs (by omega)
 have m1:=hm y.natAbs z.natAbs hy hz
 exact vt [hc t1,hc t2,hc m1,hc dr] (by kernel_rfl)
theorem IU (hu:∀ n,n<18446744073709551616->VP Tryz.prog G 142 [.int .u64 ((n:Nat):Int)] (W n)) (hs:iM Tryz.prog G 141) (a:Int) (h1 : -9223372036854775808<=a) (h2:a<9223372036854775808):VP Tryz.prog G 126 [.int .i64 a] (IV a):=by
 have hsz:=mn a.natAbs (by omega)
 have dr:=hs (decide (a<0)) a.natAbs (by omega)
 rw [Ca] at dr
 have DV:=hu a.natAbs (by omega)
 by_cases hn:a<0
 . have d1:decide (a<0)=true:=ai hn
   rw [<- show IntKind.u64.wrap (0-(IntKind.u64.wrap a))=(a.natAbs:Int) by rw [IntKind.wrap_u64,IntKind.wrap_u64];omega] at DV
   exact vt [hb 7 d1,hc DV,hc dr] (by kernel_rfl)
 . have d1:decide (a<0)=false:=ag hn
   rw [<- show IntKind.u64.wrap a=(a.natAbs:Int) by rw [IntKind.wrap_u64];omega] at DV
   exact vt [hb 7 d1,hc DV,hc dr] (by kernel_rfl)
theorem Gl (a:Int) (hi:VP Tryz.prog G 126 [.int .i64 a] (IV a)) (hO:VP Tryz.prog G 140 [] (IV 1)):VP Tryz.prog G 125 [.int .i64 a] (RV a 1)   := by
 exact vt [hc hi,hc hO] (by kernel_rfl)
theorem DB (a:Int) (hi:VP Tryz.prog G 160 [.int .i64 a] (IV a)) (hO:VP Tryz.prog G 160 [.int .i64 1] (IV 1)):VP Tryz.prog G 159 [.int .i64 a] (RV a 1):=by
 exact vt [hc hi,hc hO] (by kernel_rfl)
theorem R4 (hl:∀ x,x<au->VP Tryz.prog G 90 [.int .u32 ((x:Nat):Int)] (.int .i64 (ir x:Int))) (x:Nat) (hx:x<au) (h0:0<x):VP Tryz.prog G 190 [.int .u32 (x:Int)] (.int .i64 ((32-ir x:Nat):Int)):=by
 have hb:ir x<=32:=by
   have h1:=(xL hx h0).2
   have h2:2 ^ ir x<2 ^ 33:=by unfold au at hx;omega
   have:=(Nat.pow_lt_pow_iff_right (by decide:1<2)).1 h2
   omega
 have e:IntKind.i64.wrap ((32:Int)-((ir x:Nat):Int))=((32-ir x:Nat):Int):=by rw [IntKind.wrap_i64];omega
 have l1:=hl x hx
 rw [<- e]
 exact vt [hc l1] (by kernel_rfl)
theorem R5 (hn:∀ z:Int,ab z.natAbs<=1000000->VP Tryz.prog G 223 [IV z] (IV (-z)))
  (ha:∀ a b:Int,ab a.natAbs<=1000000->ab b.natAbs<=1000000->VP Tryz.prog G 220 [IV a,IV b] (IV (a+b))) (a b:Int) (hwa:ab a.natAbs<=1000000) (A2:ab b.natAbs<=1000000):VP Tryz.prog G 219 [IV a,IV b] (IV (a-b)):=by
 have hav:=ha a (-b) hwa (by rw [Int.natAbs_neg];exact A2)
 rw [<- Int.sub_eq_add_neg] at hav
 have n1:=hn b A2
 exact vt [hc n1,hc hav] (by kernel_rfl)
theorem IW (hn:∀ z:Int,ab z.natAbs<=1000000->VP Tryz.prog G 185 [IV z] (IV z))
  (hd:∀ m n,n≠0->ab m<=900000->ab n<=900000->VP Tryz.prog G 204 [W m,W n] (.tup [W (m/n),W (m%n)])) (hs:iM Tryz.prog G 182)
  (hm:∀ a b:Int,ab a.natAbs<=1000000->ab b.natAbs<=1000000->VP Tryz.prog G 187 [IV a,IV b] (IV (a*b))) (hsu:∀ a b:Int,ab a.natAbs<=1000000->ab b.natAbs<=1000000->VP Tryz.prog G 219 [IV a,IV b] (IV (a-b)))
  (OW:∀ z:Int,ab z.natAbs<=1000000->VP Tryz.prog G 179 [IV z] (.int .i64 z.sign)) (a b:Nat) (Gb:b≠0) (ha:ab a<=900000) (hB:ab b<=900000) :
   VP Tryz.prog G 206 [IV (a:Int),IV (b:Int)] (.tup [IV ((a/b:Nat):Int),IV ((a%b:Nat):Int), .int .i64 0]):=by
 have A2:ab b≠0:=fun e=>Gb (bC.1 e)
 have d0:decide ((ab b:Int)=0)=false:=ag (by omega)
 have w1:=Ie a b
 have w2:=xN a b
 have dr:=hs false (a/b) (by omega)
 rw [mo] at dr
 have hle:a/b*b<=a:=Nat.div_mul_le_self a b
 have MQ:=hm ((a/b:Nat):Int) (b:Int) (by rw [k6];omega) (by rw [k6];omega)
 have w3:ab (a/b*b)<=ab a:=c9 hle
 rw [<- Int.natCast_mul] at MQ
 have abG:=hsu (a:Int) ((a/b*b:Nat):Int) (by rw [k6];omega) (by rw [k6];omega)
 have er:(a:Int)-((a/b*b:Nat):Int)=((a%b:Nat):Int):=by have:=Nat.div_add_mod a b;rw [Nat.mul_comm] at this;omega
 rw [er] at abG
 have aff:=OW ((a%b:Nat):Int) (by rw [k6];omega)
 have afg:=OW (b:Int) (by rw [k6];omega)
 have d1:decide (IntKind.i64.wrap (((a%b:Nat):Int).sign*(b:Int).sign)<0)=false:=by
   have e1:(b:Int).sign=1:=Int.sign_eq_one_of_pos (by omega)
   rw [e1,Int.mul_one]
   rcases Nat.eq_zero_or_pos (a%b) with e | e
   . rw [e];decide
   . rw [Int.sign_eq_one_of_pos (by omega)];decide
 have n1:=hn a (by rw [k6];omega)
 have n2:=hn b (by rw [k6];omega)
 have l1 := @bc b
 have q1:=hd a b Gb ha hB
 exact vt [hc n1,hc n2,ho 17 l1,hb 18 d0,hc q1,hc dr,hc MQ,hc abG,hc aff,hc afg,hb 46 d1] (by kernel_rfl)
theorem O1 (a b:Nat) (hd:VP Tryz.prog G 206 [IV (a:Int),IV (b:Int)] (.tup [IV ((a/b:Nat):Int),IV ((a%b:Nat):Int), .int .i64 0])):VP Tryz.prog G 188 [IV (a:Int),IV (b:Int)] (IV ((a/b:Nat):Int)):=by
 exact vt [hc hd] (by kernel_rfl)
theorem Gm (c:UInt8):VP Tryz.prog G 73 [ga c] (.bool (cJ c)):=by
 unfold cJ
 by_cases h1:(97:Int)<=c.toNat
 . rw [ai h1]
   by_cases h2:(c.toNat:Int)<=122
   . rw [ai h2]
     exact vt [hb 4 (ai h1),hb 7 (ai h2)] (by kernel_rfl)
   . have h3:(65:Int)<=c.toNat:=by omega
     rw [ag h2,ai h3]
     exact vt [hb 4 (ai h1),hb 7 (ag h2),hb 11 (ai h3)] (by kernel_rfl)
 . rw [ag h1]
   by_cases h3:(65:Int)<=c.toNat
   . rw [ai h3]
     exact vt [hb 4 (ag h1),hb 11 (ai h3)] (by kernel_rfl)
   . rw [ag h3]
     exact vt [hb 4 (ag h1),hb 11 (ag h3)] (by kernel_rfl)
theorem IX (c:UInt8):VP Tryz.prog G 103 [ga c] (.bool (jE c)):=by
 unfold jE
 by_cases h1:(48:Int)<=c.toNat
 . rw [ai h1]
   exact vt [hb 4 (ai h1)] (by kernel_rfl)
 . rw [ag h1]
   exact vt [hb 4 (ag h1)] (by kernel_rfl)
theorem KY (hl:∀ c,VP Tryz.prog G 73 [ga c] (.bool (cJ c))) (hd:∀ c,VP Tryz.prog G 103 [ga c] (.bool (jE c))) (c:UInt8) :
   VP Tryz.prog G 75 [ga c] (.bool (db c)):=by
 unfold db
 have l1:=hl c
 have l2:=hd c
 cases h1:cJ c
 . rw [h1] at l1
   cases h2:jE c
   . rw [h2] at l2
     exact vt [hc l1,hc l2] (by kernel_rfl)
   . rw [h2] at l2
     exact vt [hc l1,hc l2] (by kernel_rfl)
 . rw [h1] at l1
   exact vt [hc l1] (by kernel_rfl)
end
end
end Go.Proofs.YtcomlgfjnjpebaaGreatDoor
