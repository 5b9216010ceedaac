/- For the claim of HistoryUndoAll: parts CI2, CI3, CI4, CI5, CI6, CI7, CI8, CI9, CI10, CI11, CI12, CI13, CI14, CI15, CI16, CI17, CI18, FD, CI19, CI20. -/
import Derived.Test.YtcomlgfjnjpebaaGreatDoorC05
import Derived.Laws.Bits64
import Derived.Laws.BitsAllLaws
set_option linter.unusedSimpArgs false
set_option linter.unusedVariables false
section
set_option linter.unusedVariables false
namespace Go.VL
def iZ (a b:Int):Int:=if a<b then -1 else if b<a then 1 else 0
def gp (m n:Nat):Int:=iZ m n
def IV (z:Int):AV := .agg [.bool (decide (z<0)),W z.natAbs]
def jD (neg:Bool) (n:Nat):Int:=if neg then -(n:Int) else n
theorem aF (z:Int):af (IV z):=af.agg (by intro c hc;simp at hc;rcases hc with rfl | rfl;exact af.bool _;exact aJ _)
theorem ia (z:Int):((IV z).cells.all AV.one=true)=True:=by simp [IV,AV.cells,AV.one,W]
theorem jI (z:Int):part false (IV z).cells 0 1=some (.bool (decide (z<0))):=rfl
theorem iu (z:Int):part false (IV z).cells 1 1=some (W z.natAbs):=rfl
theorem cp (z:Int):part true (IV z).cells 0 2=some (IV z):=rfl
theorem gJ {id:Id} {ws:List Nat} {b t:Bool} {n:Nat} (hn:n=ws.length):View (aa.of [(id,⟨us ws,1,b⟩)]) (.osl id 1 0 n t) (.sl 1 (us ws)):=by
 subst hn
 refine View.osl (bk:=⟨us ws,1,b⟩) (by simp [aa.of]) rfl (by rw [dD];omega) ?_ (by rw [dD]) (wO ws)
 rw [List.drop_zero,List.take_of_length_le (by rw [dD];exact Nat.le_refl _)]
 exact aW.pure (sU ws)
theorem Cf {a b:List Nat} (ha:Wd a) (_hb:Wd b) (hl:a.length=b.length) {i x y:Nat} (hx:a[i]? = some x) (hy:b[i]? = some y) (hd:a.drop (i+1)=b.drop (i+1)) (pO:x<y):val a<val b:=by
 have iA:=(List.getElem?_eq_some_iff.1 hx).1
 have Xh:=(List.getElem?_eq_some_iff.1 hy).1
 have ea:a=a.take i++x::a.drop (i+1):=by
   have:=List.take_append_drop i a
   rw [List.drop_eq_getElem_cons iA] at this
   obtain ⟨_,h2⟩:=List.getElem?_eq_some_iff.1 hx
   rw [h2] at this;exact this.symm
 have eb:b=b.take i++y::b.drop (i+1):=by
   have:=List.take_append_drop i b
   rw [List.drop_eq_getElem_cons Xh] at this
   obtain ⟨_,h2⟩:=List.getElem?_eq_some_iff.1 hy
   rw [h2] at this;exact this.symm
 rw [ea,eb,cv,cv, <- hd]
 have hta:(a.take i).length=i:=by rw [List.length_take];omega
 have htb:(b.take i).length=i:=by rw [List.length_take];omega
 have h1:=lC (q8 ha i)
 rw [hta] at h1 ⊢
 rw [htb]
 simp only [val]
 have h2:au ^ i*(x+1)<=au ^ i*y:=Nat.mul_le_mul_left _ pO
 rw [Nat.mul_add,Nat.mul_one] at h2
 rw [Nat.mul_add,Nat.mul_add]
 omega
section
variable {P:Program} {G:Nat->Option (List AV)}
theorem Kn {f:FuncId} (h:Has P f pj) (a:Int):VP P G f [.int .i64 a] (.bool false):=by
 refine VP.has h ?_
 have e:decide (a≠a)=false:=by simp
 simp only [pj,SS,Nat.reduceAdd,e]
 exact ag▸ab rfl (af.bool _)
theorem Ko {f fn:FuncId} (h:Has P f (nr fn)) (hn:∀ a,VP P G fn [.int .i64 a] (.bool false)) (a b:Int):VP P G f [.int .i64 a, .int .i64 b] (.int .i64 (iZ a b)):=by
 refine VP.has h ?_
 simp only [nr,SS,Nat.reduceAdd]
 refine aj (hn a) (by simp [af.int]) ?_
 simp only [SS,Nat.reduceAdd]
 refine aj (hn b) (by simp [af.int]) ?_
 unfold iZ
 by_cases h1:a<b
 . simp only [SS,Nat.reduceAdd,h1,decide_true]
   exact ag▸ab rfl (af.int _ _)
 . by_cases h2:b<a
   . simp only [SS,Nat.reduceAdd,h1,h2,decide_true,decide_false]
     exact ag▸ab rfl (af.int _ _)
   . simp only [SS,Nat.reduceAdd,h1,h2,decide_false]
     exact ag▸ab rfl (af.int _ _)
theorem En {f:FuncId} (h:Has P f mC) (a:Int):VP P G f [.int .u32 a] (.bool false):=by
 refine VP.has h ?_
 have e:decide (a≠a)=false:=by simp
 simp only [mC,SS,Nat.reduceAdd,e]
 exact ag▸ab rfl (af.bool _)
theorem Eo {f fn:FuncId} (h:Has P f (lf fn)) (hn:∀ a,VP P G fn [.int .u32 a] (.bool false)) (a b:Int):VP P G f [.int .u32 a, .int .u32 b] (.int .i64 (iZ a b)):=by
 refine VP.has h ?_
 simp only [lf,SS,Nat.reduceAdd]
 refine aj (hn a) (by simp [af.int]) ?_
 simp only [SS,Nat.reduceAdd]
 refine aj (hn b) (by simp [af.int]) ?_
 unfold iZ
 by_cases h1:a<b
 . simp only [SS,Nat.reduceAdd,h1,decide_true]
   exact ag▸ab rfl (af.int _ _)
 . by_cases h2:b<a
   . simp only [SS,Nat.reduceAdd,h1,h2,decide_true,decide_false]
     exact ag▸ab rfl (af.int _ _)
   . simp only [SS,Nat.reduceAdd,h1,h2,decide_false]
     exact ag▸ab rfl (af.int _ _)
def gU (P:Program) (G:Nat->Option (List AV)) (f:FuncId):Prop:=∀ ws:List Nat,Wd ws->ws.length<=9223372036854775807->VP P G f [.sl 1 (us ws)] (W (val ws))
theorem Bv {f ft:FuncId} (h:Has P f (j3 ft)) (ht:gU P G ft) (n:Nat) (hn:n<18446744073709551616):VP P G f [.int .u64 (n:Int)] (W n):=by
 refine VP.has h ?_
 have e1:IntKind.u32.wrap (n:Int)=((n%au:Nat):Int):=by rw [IntKind.wrap_u32];unfold au;omega
 have e2:bo .shr .int (.int .u64 (n:Int)) (.int .u64 32)=some (.int .u64 ((n/au:Nat):Int)):=by
   rw [qZ (by decide)]
   have:(n:Int).fdiv (2 ^ (min (32:Int).toNat IntKind.u64.bits))=((n/au:Nat):Int):=by
     show (n:Int).fdiv (2 ^ 32)=_
     rw [Int.fdiv_eq_ediv_of_nonneg _ (by decide)];unfold au;omega
   rw [this]
 have e3:IntKind.u32.wrap ((n/au:Nat):Int)=((n/au:Nat):Int):=by rw [IntKind.wrap_u32];unfold au;omega
 have hb:∀ (σ : aa) (q:Id),b8 σ q (.buildSl 1 2 (.int .u32 0) [(0, .int .u32 ((n%au:Nat):Int)),(1, .int .u32 ((n/au:Nat):Int))])=some { val := .osl q 1 0 2 false,up:=[(q,some ⟨us [n%au,n/au],1,false⟩)] }:=fun σ q=>bs2 rfl rfl rfl rfl rfl rfl
 have hw:Wd [n%au,n/au]:=by intro w hw;simp at hw;rcases hw with rfl | rfl<;>unfold au<;>omega
 have hv:val [n%au,n/au]=n:=by simp [val,Nat.mod_add_div]
 have xz:=ht [n%au,n/au] hw (by simp)
 rw [hv] at xz
 simp only [j3,SS,Nat.reduceAdd,e1,e2,e3,hb]
 refine cM [([6],⟨us [n%au,n/au],1,false⟩)] xz (aW.cons (gJ rfl) aW.nil) (by simp [aa.put]) ?_
 simp only [SS,Nat.reduceAdd]
 exact ag▸ab rfl (aJ _)
theorem NT {f ft:FuncId} (h:Has P f (lL ft)) (ht:gU P G ft) (neg:Bool) {ws:List Nat} (hw:Wd ws) (hl:ws.length<=9223372036854775807):VP P G f [.bool neg, .sl 1 (us ws)] (IV (jD neg (val ws))):=by
 refine VP.has h ?_
 have z1:(AV.cells (.agg [(.bool false), .nils])).all AV.one=true:=rfl
 have hlen:∀ m,jM false (W m)=some (.int .i64 (digits m).length):=fun m=>by simp [W,jM,dD]
 simp only [lL,SS,Nat.reduceAdd,z1]
 refine aj (ht ws hw hl) (by simp [kS]) ?_
 simp only [SS,Nat.reduceAdd,hlen]
 by_cases h0:val ws=0
 . have d0:decide (((digits (val ws)).length:Int)=0)=true:=ao (by rw [h0,bq];rfl)
   have e:py [.bool false, .nils] []=some [.bool false, .nils]:=rfl
   have e2:∀ (σ : aa) (id:Id) (k:Nat),eL (σ.put id (some ⟨[.agg [.bool false, .nils]],k,false⟩)) 2 (.ref id 0 0) (.agg [.bool false, .nils])=some { val := .tup [],rd:=[id],up:=[(id,some ⟨[.agg [.bool false, .nils]],k,false⟩)] }:=by
     intro σ id k
     rw [cA (n:=2) (v := .agg [.bool false, .nils]) (els:=[.agg [.bool false, .nils]]) (k:=k) (aa.a8 _ _ _) rfl rfl (by simp [AV.size,AV.cells]) rfl]
     rfl
   simp only [SS,Nat.reduceAdd,d0,e,e2]
   refine ag▸⟨.agg [.bool false, .nils], ?_, ?_⟩
   . simp only [RS,bP,cu,ae];rfl
   . have:IV (jD neg (val ws)) = .agg [.bool false, .sl 1 []]:=by rw [h0];cases neg<;>simp [IV,jD,W,bq,us]
     rw [this]
     exact View.agg (aW.cons (View.pure (af.bool _)) (aW.cons (View.nils 1) aW.nil))
 . have hne:(digits (val ws)).length≠0:=by intro e;exact h0 (oq.1 (List.length_eq_zero_iff.1 e))
   have d0:decide (((digits (val ws)).length:Int)=0)=false:=ak (by omega)
   have e:py [.bool false, .nils] [(0,(1, .bool neg)),(1,(1,W (val ws)))]=some [.bool neg,W (val ws)]:=rfl
   have e2:∀ (σ : aa) (id:Id) (k:Nat),eL (σ.put id (some ⟨[.agg [.bool false, .nils]],k,false⟩)) 2 (.ref id 0 0) (.agg [.bool neg,W (val ws)])=some { val := .tup [],rd:=[id],up:=[(id,some ⟨[.agg [.bool neg,W (val ws)]],k,false⟩)] }:=by
     intro σ id k
     rw [cA (n:=2) (v := .agg [.bool neg,W (val ws)]) (els:=[.agg [.bool false, .nils]]) (k:=k) (aa.a8 _ _ _) rfl rfl (by simp [AV.size,AV.cells]) rfl]
     rfl
   simp only [SS,Nat.reduceAdd,d0,e,e2]
   have ei:IV (jD neg (val ws)) = .agg [.bool neg,W (val ws)]:=by
     cases neg
     . simp only [IV,jD];simp<;>omega
     . simp only [IV,jD];simp<;>omega
   rw [ei]
   refine ag▸ab (r := .agg [.bool neg,W (val ws)]) ?_ (af.agg (by intro c hc;simp at hc;rcases hc with rfl | rfl;exact af.bool _;exact aJ _))
   simp only [RS,bP,cu,ae];rfl
end
end Go.VL
end

section
set_option linter.unusedVariables false
namespace Go.VL
theorem wP {a b:Int} (h:a<b):iZ a b = -1:=by simp [iZ,h]
theorem wQ {a b:Int} (h:b<a):iZ a b=1:=by simp [iZ,h];omega
theorem Gq {a b:Int} (h:a=b):iZ a b=0:=by simp [iZ,h]
theorem bh (m:Nat):jM false (W m)=some (.int .i64 (ah m)):=by simp [W,jM,dD,ah]
theorem ui {m n:Nat} (h:ah m<ah n):m<n:=by
 rcases Nat.lt_or_ge m n with h1 | h1
 . exact h1
 . have:=cP h1;omega
theorem db {m i w:Nat} (h:(digits m)[i]? = some w):br 1 (W m) (.int .i64 (i:Int))=some (.ep (AV.int .u32 (w:Int)).cells 0):=aQ rfl (r9 h)
section
variable {P:Program} {G:Nat->Option (List AV)}
theorem Kp {f fi fw:FuncId} (h:Has P f (ng fi fw)) (hi:∀ a b:Int,VP P G fi [.int .i64 a, .int .i64 b] (.int .i64 (iZ a b))) (hw:∀ a b:Int,VP P G fw [.int .u32 a, .int .u32 b] (.int .i64 (iZ a b)))
   (m n:Nat) (hm:ah m<9223372036854775807) (hn:ah n<9223372036854775807):VP P G f [W m,W n] (.int .i64 (gp m n)):=by
 refine VP.has h ?_
 simp only [ng,SS,Nat.reduceAdd,bh]
 by_cases hl:ah m=ah n
 case neg =>
   have d:decide ((ah m:Int)≠(ah n:Int))=true:=ao (by omega)
   simp only [SS,Nat.reduceAdd,bh,d]
   refine aj (hi _ _) (by simp [af.int]) ?_
   simp only [SS,Nat.reduceAdd]
   have e:iZ (ah m:Int) (ah n:Int)=gp m n:=by
     rcases Nat.lt_or_ge (ah m) (ah n) with h1 | h1
     . have h2:=ui h1
       rw [wP (by omega)];unfold gp;rw [wP (by omega)]
     . have Lm:ah n<ah m:=by omega
       have h2:=ui Lm
       rw [wQ (by omega)];unfold gp;rw [wQ (by omega)]
   rw [e]
   exact ag▸ab rfl (af.int _ _)
 have d:decide ((ah m:Int)≠(ah n:Int))=false:=ak (by omega)
 have ew:IntKind.i64.wrap ((ah m:Int)-1)=(ah m:Int)-1:=by rw [IntKind.wrap_i64];omega
 have hd0:(digits m).drop (ah m)=(digits n).drop (ah m):=by
   have e1:(digits m).drop (ah m)=[]:=List.drop_of_length_le (Nat.le_refl _)
   have e2:(digits n).drop (ah m)=[]:=List.drop_of_length_le (by show ah n<=ah m;omega)
   rw [e1,e2]
 simp only [SS,Nat.reduceAdd,bh,d,ew,aC]
 refine VW.bJ (α := Nat × Nat) (fun x=>⟨[W m,W n, .top, .top, .top, .int .i64 ((x.1:Int)-1)]++List.replicate 35 .top,fun _=>none,x.2⟩) (fun x=>x.1<=ah m/\(digits m).drop x.1=(digits n).drop x.1) (fun x=>x.1) (ah m,10) ?_
   ⟨Nat.le_refl _,hd0⟩ ?_
 . exact Wk.slots (by simp [Fg,List.replicate]) (Nat.le_refl _)
 rintro ⟨j,q⟩ ⟨hj,hd⟩
 simp only [] at hj hd
 simp only [SS,Nat.reduceAdd]
 by_cases h0:j=0
 . subst h0
   have d0:decide ((0:Int)<=((0:Nat):Int)-1)=false:=by decide
   simp only [SS,d0]
   have e:m=n:=by
     simp only [List.drop_zero] at hd
     rw [<- aI m,hd,aI]
   have e2:gp m n=0:=Gq (by omega)
   rw [e2]
   exact ag▸ab rfl (af.int _ _)
 . have oy:0<j:=Nat.pos_of_ne_zero h0
   have d0:decide ((0:Int)<=((j-1:Nat):Int))=true:=ao (by omega)
   have ej:(j:Int)-1=((j-1:Nat):Int):=by omega
   have Xi:j-1<(digits m).length:=by show j-1<ah m;omega
   have J0:j-1<(digits n).length:=by show j-1<ah n;omega
   have ew2:IntKind.i64.wrap (((j-1:Nat):Int)-1)=((j-1:Nat):Int)-1:=by rw [IntKind.wrap_i64];omega
   obtain ⟨x,hx⟩:∃ x,(digits m)[j-1]? = some x:=⟨_,List.getElem?_eq_getElem Xi⟩
   obtain ⟨y,hy⟩:∃ y,(digits n)[j-1]? = some y:=⟨_,List.getElem?_eq_getElem J0⟩
   have Tb:(digits m).drop (j-1+1)=(digits n).drop (j-1+1):=by rw [show j-1+1=j from by omega];exact hd
   have zZ:ar (([]:List dN)) ([]:List (Nat × Nat)):=by simp [ar]
   by_cases pO:x=y
   . have d1:decide ((x:Int)≠(y:Int))=false:=ak (by omega)
     simp only [SS,DD,Nat.reduceAdd,d0,ej,db hx,db hy,az,bm,d1,ew2]
     refine ⟨by simp [ar],(j-1,_),⟨by simp only [];omega, ?_⟩,by simp only [];omega,Wk.slots (by simp [Fg]) (Nat.le_refl _)⟩
     simp only []
     rw [List.drop_eq_getElem_cons Xi,List.drop_eq_getElem_cons J0,Tb]
     obtain ⟨_,h1⟩:=List.getElem?_eq_some_iff.1 hx
     obtain ⟨_,h2⟩:=List.getElem?_eq_some_iff.1 hy
     rw [h1,h2,pO]
   . have d1:decide ((x:Int)≠(y:Int))=true:=ao (by omega)
     have e:iZ (x:Int) (y:Int)=gp m n:=by
       rcases Nat.lt_or_ge x y with h1 | h1
       . have:=Cf (aO m) (aO n) hl hx hy Tb h1
         rw [aI,aI] at this
         rw [wP (by omega)];unfold gp;rw [wP (by omega)]
       . have:=Cf (aO n) (aO m) hl.symm hy hx Tb.symm (by omega)
         rw [aI,aI] at this
         rw [wQ (by omega)];unfold gp;rw [wQ (by omega)]
     simp only [SS,DD,Nat.reduceAdd,d0,ej,db hx,db hy,az,bm,d1]
     refine ⟨by simp [ar], ?_⟩
     refine ax (hw _ _) (by simp [af.int]) ?_
     simp only [SS,DD,Nat.reduceAdd,e]
     refine ⟨by simp [ar], ?_⟩
     exact ag▸ab rfl (af.int _ _)
end
end Go.VL
end

section
set_option linter.unusedVariables false
namespace Go.VL
theorem zj {o:List Nat} (h:Wd o) (tk:o=[]∨au ^ (o.length-1)<=val o):digits (val o)=o:=by
 refine lD h ?_
 rcases tk with h0 | tk
 . exact .inl h0
 . by_cases h0:o=[]
   . exact .inl h0
   . right
     refine ⟨o.getLast h0,List.getLast?_eq_some_getLast h0,fun hz => ?_⟩
     have e:=List.dropLast_concat_getLast h0
     rw [hz] at e
     have hv:val o=val o.dropLast:=by rw [<- e,ky,List.dropLast_concat]
     have hlt:=lC (ws:=o.dropLast) (fun w hw=>h w ((List.dropLast_sublist _).subset hw))
     rw [List.length_dropLast] at hlt
     omega
theorem aE {a:List Nat} {i x:Nat} (h:a[i]? = some x):val (a.take (i+1))=val (a.take i)+au ^ i*x:=by
 have hlt:=(List.getElem?_eq_some_iff.1 h).1
 have e:a.take (i+1)=a.take i++[x]:=by rw [List.take_add_one,h];rfl
 rw [e,cv]
 have:(a.take i).length=i:=by rw [List.length_take];omega
 rw [this];simp [val]
theorem ja {a:List Nat} {i:Nat} (h:a.length<=i):val (a.take (i+1))=val (a.take i):=by
 rw [List.take_of_length_le h,List.take_of_length_le (by omega)]
theorem mi {o:List Nat} {i c va vb x y s:Nat} (ho:o.length=i) (hv:val o+au ^ i*c=va+vb) (hs:s=c+x+y):val (o++[s%au])+au ^ (i+1)*(s/au)=(va+au ^ i*x)+(vb+au ^ i*y):=by
 have e2:=Nat.mod_add_div s au
 rw [cv,ho]
 simp only [val,Nat.mul_zero,Nat.add_zero,Nat.pow_succ]
 rw [Nat.mul_assoc,Nat.add_assoc, <- Nat.mul_add,e2,hs]
 rw [Nat.mul_add,Nat.mul_add]
 omega
theorem ot {o:List Nat} (h:Wd o) (s:Nat):Wd (o++[s%au]):=cw h (by intro w hw;simp at hw;subst hw;exact Nat.mod_lt _ cV)
theorem uQ (s:Nat):IntKind.u32.wrap (s:Int)=((s%au:Nat):Int):=by rw [IntKind.wrap_u32];unfold au;omega
theorem w64 (s:Nat) (h:s<18446744073709551616):IntKind.u64.wrap (s:Int)=(s:Int):=by rw [IntKind.wrap_u64];omega
theorem nM (s:Nat):bo .shr .int (.int .u64 (s:Int)) (.int .u64 32)=some (.int .u64 ((s/au:Nat):Int)):=by
 rw [qZ (by decide)]
 have:(s:Int).fdiv (2 ^ (min (32:Int).toNat IntKind.u64.bits))=((s/au:Nat):Int):=by
   show (s:Int).fdiv (2 ^ 32)=_
   rw [Int.fdiv_eq_ediv_of_nonneg _ (by decide)];unfold au;omega
 rw [this]
theorem bn (x:Nat) (h:x<au):IntKind.u64.wrap (x:Int)=(x:Int):=w64 x (by unfold au at h;omega)
theorem oO (a b:Nat) (h:a+b<18446744073709551616):IntKind.u64.wrap ((a:Int)+(b:Int))=((a+b:Nat):Int):=by rw [IntKind.wrap_u64];omega
theorem xA {σ : aa} {q:Id} {x:Nat}:b8 σ q (.buildSl 1 1 (.int .u32 0) [(0, .int .u32 (x:Int))])=some { val := .osl q 1 0 1 false,up:=[(q,some ⟨us [x],1,false⟩)] }:=Xg rfl rfl rfl rfl
theorem V7 {p:Id} {c:Nat} (h:c*4<=140737488355328):kX p 1 4 (.int .u32 0) (.int .i64 0) (.int .i64 (c:Int))=some { val := .osl p 1 0 0 false,up:=[(p,some ⟨us [],1,false⟩)] }:=by
 have hm:=cK (n:=c) (by omega)
 show (if (0:Int)<=0/\(0:Int)<=(c:Int)/\(c:Int)*((4:Nat):Int)<=140737488355328/\(c:Int)<=((maxLen:Nat):Int)/\(AV.int IntKind.u32 0).size=1/\(AV.int IntKind.u32 0).cells.all AV.one=true then _ else none)=_
 rw [if_pos ⟨by omega,by omega,by omega,by omega,rfl,rfl⟩]
 rfl
theorem x7 {σ : aa} {p id q:Id} {o:List Nat} {x len:Nat} (hq:q≠id) (hl:len=o.length) (hb:(len+1)*4<=140737488355328) (h : σ id=some ⟨us o,1,false⟩) :
   b6 (σ.put q (some ⟨us [x],1,false⟩)) p 1 4 (.osl id 1 0 len false) (.osl q 1 0 1 false)=some { val := .osl p 1 0 (len+1) false,rd:=[id,q],up:=[(id,none),(p,some ⟨us (o++[x]),1,false⟩)] }:=by
 have:=lN (σ := σ.put q (some ⟨us [x],1,false⟩)) (p:=p) (id:=id) (k:=1) (bytes:=4) (len:=len) (els:=us o) (x := .osl q 1 0 1 false) (ys:=us [x]) (rd:=[q])
   (jH (bk:=⟨us [x],1,false⟩) (aa.a8 _ _ _) rfl (by simp [dD])) (by simp [us]) (by rw [aa.bg _ _ _ hq.symm];exact h) (by rw [dD];exact hl) (by rw [dD];exact hb) (cK (by rw [dD];simp;omega)) (AQ _) (AQ _)
 rw [this,AP]
 simp [dD]
theorem Dd {rs:List xI} {s:VS} {id:Id} {n:Nat} {t b:Bool} {o:List Nat} (h1:bP rs s=some (.osl id 1 0 n t)) (h2:s.σ id=some ⟨us o,1,b⟩) (hn:n=o.length):∃ r0,bP rs s=some r0/\View s.σ r0 (.sl 1 (us o)):=by
 subst hn
 refine ⟨_,h1,View.osl (bk:=⟨us o,1,b⟩) h2 rfl (by simp [dD]) ?_ (by rw [dD]) (wO o)⟩
 rw [List.drop_zero,List.take_of_length_le (by rw [dD];exact Nat.le_refl _)]
 exact aW.pure (sU o)
section
variable {P:Program} {G:Nat->Option (List AV)}
theorem Ud {f:FuncId} (h:Has P f pY) (m n:Nat) (hm:ah m<=1000000) (hn:ah n<=1000000):VP P G f [W m,W n] (W (m+n)):=by
 refine VP.has h ?_
 simp only [pY,SS,Nat.reduceAdd,bh]
 by_cases hs:ah m<ah n
 . have hle:ah m<=ah n:=by omega
   have hlx:ah n<=1000000:=hn
   have hd:decide ((ah m:Int)<(ah n:Int))=true:=by first | exact ao (by omega) | exact ak (by omega)
   have ew:IntKind.i64.wrap ((ah n:Int)+1)=((ah n+1:Nat):Int):=aq _ (by omega)
   have xh:∀ p:Id,kX p 1 4 (.int .u32 0) (.int .i64 0) (.int .i64 ((ah n+1:Nat):Int))=some { val := .osl p 1 0 0 false,up:=[(p,some ⟨us [],1,false⟩)] }:=fun p=>V7 (by omega)
   simp only [SS,Nat.reduceAdd,bh,hd,ew,xh,aC]
   refine VW.bJ (α := Nat × Nat × Nat × List Nat × Nat) (fun x=>⟨[W n,W m, .top, .top, .top, .osl [x.2.2.1] 1 0 x.1 false, .int .u64 (x.2.2.2.2:Int), .top, .top]++List.replicate 11 .top++[W n, .int .i64 (ah n), .int .i64 x.1]++List.replicate 35 .top,
     aa.put (fun _=>none) [x.2.2.1] (some ⟨us x.2.2.2.1,1,false⟩),x.2.1⟩)
     (fun x=>x.1<=ah n/\x.2.2.1<x.2.1/\x.2.2.2.1.length=x.1/\Wd x.2.2.2.1/\x.2.2.2.2<=1/\val x.2.2.2.1+au ^ x.1*x.2.2.2.2=val ((digits n).take x.1)+val ((digits m).take x.1)) (fun x=>ah n-x.1) (0,19,13,[],0) ?_ ?_ ?_
   . exact Wk.slots (by simp [Fg,List.replicate]) (Nat.le_refl _)
   . exact ⟨Nat.zero_le _,by decide,rfl,by intro w hw;simp at hw,by decide,by simp [val]⟩
   rintro ⟨i,nn,q,o,c⟩ ⟨hi,hq,ho,hwd,hc,hv⟩
   simp only [] at hi hq ho hwd hc hv
   have qD:i<ah n->decide ((i:Int)<(ah n:Int))=true:=fun h=>ao (by omega)
   have tE : ¬ i<ah n->decide ((i:Int)<(ah n:Int))=false:=fun h=>ak (by omega)
   have Xj:(i+1)*4<=140737488355328:=by omega
   have dt : ¬ i<ah n->i=ah n:=by omega
   have rb:=aq i (by omega)
   simp only [SS]
   by_cases hlt:i<ah n
   . have l7:i+1<=ah n/\ah n-(i+1)<ah n-i:=by omega
     obtain ⟨a,ha⟩:∃ a,(digits n)[i]? = some a:=⟨_,List.getElem?_eq_getElem hlt⟩
     have uj:=aO n a (List.mem_of_getElem? ha)
     have f1:=bn a uj
     have f2:=oO c a (by unfold au at uj;omega)
     by_cases hy:i<ah m
     . obtain ⟨b,hb⟩:∃ b,(digits m)[i]? = some b:=⟨_,List.getElem?_eq_getElem hy⟩
       have yj:=aO m b (List.mem_of_getElem? hb)
       have d3:decide ((i:Int)<(ah m:Int))=true:=ao (by omega)
       have f3:=bn b yj
       have f4:=oO (c+a) b (by unfold au at uj yj;omega)
       have Il:(c+a+b)/au<=1:=by unfold au at uj yj ⊢;omega
       simp only [SS,Nat.reduceAdd,qD hlt,db ha,db hb,bh,az,bm,f1,f2,d3,f3,f4,uQ,xA]
       rw [x7 (o:=o)]
       . simp only [SS,Nat.reduceAdd,nM,rb]
         refine ⟨(i+1,_,nn+1+5+5+4+8+4,o++[(c+a+b)%au],(c+a+b)/au),⟨l7.1, ?_,by simp [ho],ot hwd _,Il, ?_⟩,l7.2,Wk.forget (by simp [Fg]) (fun j => ?_) (Nat.le_refl _)⟩
         . simp only [];omega
         . show val (o++[(c+a+b)%au])+au ^ (i+1)*((c+a+b)/au)=_
           rw [aE ha,aE hb]
           exact mi ho hv rfl
         . simp only [aa.put];split<;>simp
       . intro e;simp at e;omega
       . exact ho.symm
       . exact Xj
       . exact aa.a8 _ _ _
     . have d3:decide ((i:Int)<(ah m:Int))=false:=ak (by omega)
       have Il:(c+a)/au<=1:=by unfold au at uj ⊢;omega
       simp only [SS,Nat.reduceAdd,qD hlt,db ha,bh,az,bm,f1,f2,d3,uQ,xA]
       rw [x7 (o:=o)]
       . simp only [SS,Nat.reduceAdd,nM,rb]
         refine ⟨(i+1,_,nn+1+5+5+4+4,o++[(c+a)%au],(c+a)/au),⟨l7.1, ?_,by simp [ho],ot hwd _,Il, ?_⟩,l7.2,Wk.forget (by simp [Fg]) (fun j => ?_) (Nat.le_refl _)⟩
         . simp only [];omega
         . show val (o++[(c+a)%au])+au ^ (i+1)*((c+a)/au)=_
           rw [aE ha,ja (by show ah m<=i;omega)]
           have:=mi (x:=a) (y:=0) (s:=c+a) ho hv (by omega)
           simpa using this
         . simp only [aa.put];split<;>simp
       . intro e;simp at e;omega
       . exact ho.symm
       . exact Xj
       . exact aa.a8 _ _ _
   . have ou:=dt hlt
     have zk:val o+au ^ i*c=m+n:=by
       have e1:(digits n).take (ah n)=digits n:=List.take_of_length_le (Nat.le_refl _)
       have e2:(digits m).take (ah n)=digits m:=List.take_of_length_le hle
       rw [hv,ou,e1,e2,aI,aI]
       all_goals omega
     by_cases h0:c=0
     . have d4:decide ((0:Int)<(c:Int))=false:=ak (by omega)
       have e:W (m+n) = .sl 1 (us o):=by
         rw [h0] at zk
         simp only [Nat.mul_zero,Nat.add_zero] at zk
         unfold W
         rw [<- zk,zj hwd]
         rcases Nat.eq_zero_or_pos i with h1 | h1
         . left;rw [h1] at ho;exact List.length_eq_zero_iff.1 ho
         . right
           rw [zk,ho,ou]
           have NU:n≠0:=by rintro e;rw [e] at ou;simp [ah,bq] at ou;omega
           have:=q9 NU
           omega
       simp only [SS,Nat.reduceAdd,tE hlt,d4]
       rw [e]
       exact ag▸Dd (b:=false) rfl (by simp [aa.put]) ho.symm
     . have Pb:c=1:=by omega
       have d4:decide ((0:Int)<(c:Int))=true:=ao (by omega)
       have e1:c%au=1:=by rw [Pb];rfl
       have e:W (m+n) = .sl 1 (us (o++[1])):=by
         have px:val (o++[1])=m+n:=by rw [cv,ho, <- zk,Pb];simp [val]
         unfold W
         rw [<- px,lD (cw hwd (by intro w hw;simp at hw;subst hw;decide)) (.inr ⟨1,by simp,by decide⟩)]
       simp only [SS,Nat.reduceAdd,tE hlt,d4,uQ,e1,xA]
       rw [x7 (o:=o)]
       . simp only [SS,Nat.reduceAdd]
         rw [e]
         exact ag▸Dd (b:=false) rfl (by simp [aa.put]) (by simp [ho])
       . intro e;simp at e;omega
       . exact ho.symm
       . exact Xj
       . exact aa.a8 _ _ _
 . have hle:ah n<=ah m:=by omega
   have hlx:ah m<=1000000:=hm
   have hd:decide ((ah m:Int)<(ah n:Int))=false:=by first | exact ao (by omega) | exact ak (by omega)
   have ew:IntKind.i64.wrap ((ah m:Int)+1)=((ah m+1:Nat):Int):=aq _ (by omega)
   have xh:∀ p:Id,kX p 1 4 (.int .u32 0) (.int .i64 0) (.int .i64 ((ah m+1:Nat):Int))=some { val := .osl p 1 0 0 false,up:=[(p,some ⟨us [],1,false⟩)] }:=fun p=>V7 (by omega)
   simp only [SS,Nat.reduceAdd,bh,hd,ew,xh,aC]
   refine VW.bJ (α := Nat × Nat × Nat × List Nat × Nat) (fun x=>⟨[W m,W n, .top, .top, .top, .osl [x.2.2.1] 1 0 x.1 false, .int .u64 (x.2.2.2.2:Int), .top, .top]++List.replicate 11 .top++[W m, .int .i64 (ah m), .int .i64 x.1]++List.replicate 35 .top,
     aa.put (fun _=>none) [x.2.2.1] (some ⟨us x.2.2.2.1,1,false⟩),x.2.1⟩)
     (fun x=>x.1<=ah m/\x.2.2.1<x.2.1/\x.2.2.2.1.length=x.1/\Wd x.2.2.2.1/\x.2.2.2.2<=1/\val x.2.2.2.1+au ^ x.1*x.2.2.2.2=val ((digits m).take x.1)+val ((digits n).take x.1)) (fun x=>ah m-x.1) (0,15,9,[],0) ?_ ?_ ?_
   . exact Wk.slots (by simp [Fg,List.replicate]) (Nat.le_refl _)
   . exact ⟨Nat.zero_le _,by decide,rfl,by intro w hw;simp at hw,by decide,by simp [val]⟩
   rintro ⟨i,nn,q,o,c⟩ ⟨hi,hq,ho,hwd,hc,hv⟩
   simp only [] at hi hq ho hwd hc hv
   have qD:i<ah m->decide ((i:Int)<(ah m:Int))=true:=fun h=>ao (by omega)
   have tE : ¬ i<ah m->decide ((i:Int)<(ah m:Int))=false:=fun h=>ak (by omega)
   have Xj:(i+1)*4<=140737488355328:=by omega
   have dt : ¬ i<ah m->i=ah m:=by omega
   have rb:=aq i (by omega)
   simp only [SS]
   by_cases hlt:i<ah m
   . have l7:i+1<=ah m/\ah m-(i+1)<ah m-i:=by omega
     obtain ⟨a,ha⟩:∃ a,(digits m)[i]? = some a:=⟨_,List.getElem?_eq_getElem hlt⟩
     have uj:=aO m a (List.mem_of_getElem? ha)
     have f1:=bn a uj
     have f2:=oO c a (by unfold au at uj;omega)
     by_cases hy:i<ah n
     . obtain ⟨b,hb⟩:∃ b,(digits n)[i]? = some b:=⟨_,List.getElem?_eq_getElem hy⟩
       have yj:=aO n b (List.mem_of_getElem? hb)
       have d3:decide ((i:Int)<(ah n:Int))=true:=ao (by omega)
       have f3:=bn b yj
       have f4:=oO (c+a) b (by unfold au at uj yj;omega)
       have Il:(c+a+b)/au<=1:=by unfold au at uj yj ⊢;omega
       simp only [SS,Nat.reduceAdd,qD hlt,db ha,db hb,bh,az,bm,f1,f2,d3,f3,f4,uQ,xA]
       rw [x7 (o:=o)]
       . simp only [SS,Nat.reduceAdd,nM,rb]
         refine ⟨(i+1,_,nn+1+5+5+4+8+4,o++[(c+a+b)%au],(c+a+b)/au),⟨l7.1, ?_,by simp [ho],ot hwd _,Il, ?_⟩,l7.2,Wk.forget (by simp [Fg]) (fun j => ?_) (Nat.le_refl _)⟩
         . simp only [];omega
         . show val (o++[(c+a+b)%au])+au ^ (i+1)*((c+a+b)/au)=_
           rw [aE ha,aE hb]
           exact mi ho hv rfl
         . simp only [aa.put];split<;>simp
       . intro e;simp at e;omega
       . exact ho.symm
       . exact Xj
       . exact aa.a8 _ _ _
     . have d3:decide ((i:Int)<(ah n:Int))=false:=ak (by omega)
       have Il:(c+a)/au<=1:=by unfold au at uj ⊢;omega
       simp only [SS,Nat.reduceAdd,qD hlt,db ha,bh,az,bm,f1,f2,d3,uQ,xA]
       rw [x7 (o:=o)]
       . simp only [SS,Nat.reduceAdd,nM,rb]
         refine ⟨(i+1,_,nn+1+5+5+4+4,o++[(c+a)%au],(c+a)/au),⟨l7.1, ?_,by simp [ho],ot hwd _,Il, ?_⟩,l7.2,Wk.forget (by simp [Fg]) (fun j => ?_) (Nat.le_refl _)⟩
         . simp only [];omega
         . show val (o++[(c+a)%au])+au ^ (i+1)*((c+a)/au)=_
           rw [aE ha,ja (by show ah n<=i;omega)]
           have:=mi (x:=a) (y:=0) (s:=c+a) ho hv (by omega)
           simpa using this
         . simp only [aa.put];split<;>simp
       . intro e;simp at e;omega
       . exact ho.symm
       . exact Xj
       . exact aa.a8 _ _ _
   . have ou:=dt hlt
     have zk:val o+au ^ i*c=m+n:=by
       have e1:(digits m).take (ah m)=digits m:=List.take_of_length_le (Nat.le_refl _)
       have e2:(digits n).take (ah m)=digits n:=List.take_of_length_le hle
       rw [hv,ou,e1,e2,aI,aI]
       all_goals omega
     by_cases h0:c=0
     . have d4:decide ((0:Int)<(c:Int))=false:=ak (by omega)
       have e:W (m+n) = .sl 1 (us o):=by
         rw [h0] at zk
         simp only [Nat.mul_zero,Nat.add_zero] at zk
         unfold W
         rw [<- zk,zj hwd]
         rcases Nat.eq_zero_or_pos i with h1 | h1
         . left;rw [h1] at ho;exact List.length_eq_zero_iff.1 ho
         . right
           rw [zk,ho,ou]
           have NU:m≠0:=by rintro e;rw [e] at ou;simp [ah,bq] at ou;omega
           have:=q9 NU
           omega
       simp only [SS,Nat.reduceAdd,tE hlt,d4]
       rw [e]
       exact ag▸Dd (b:=false) rfl (by simp [aa.put]) ho.symm
     . have Pb:c=1:=by omega
       have d4:decide ((0:Int)<(c:Int))=true:=ao (by omega)
       have e1:c%au=1:=by rw [Pb];rfl
       have e:W (m+n) = .sl 1 (us (o++[1])):=by
         have px:val (o++[1])=m+n:=by rw [cv,ho, <- zk,Pb];simp [val]
         unfold W
         rw [<- px,lD (cw hwd (by intro w hw;simp at hw;subst hw;decide)) (.inr ⟨1,by simp,by decide⟩)]
       simp only [SS,Nat.reduceAdd,tE hlt,d4,uQ,e1,xA]
       rw [x7 (o:=o)]
       . simp only [SS,Nat.reduceAdd]
         rw [e]
         exact ag▸Dd (b:=false) rfl (by simp [aa.put]) (by simp [ho])
       . intro e;simp at e;omega
       . exact ho.symm
       . exact Xj
       . exact aa.a8 _ _ _
end
end Go.VL
end

section
set_option linter.unusedVariables false
namespace Go.VL
theorem Gr (c:Nat):List.replicate c (AV.int .u32 0)=us (List.replicate c 0):=by simp [us]
theorem Xk (o:List Nat) (i x:Nat):(us o).set i (.int .u32 (x:Int))=us (o.set i x):=by simp [us,List.map_set]
theorem mD {p:Id} {c:Nat} (h:c*4<=140737488355328):kX p 1 4 (.int .u32 0) (.int .i64 (c:Int)) (.int .i64 (c:Int))=some { val := .osl p 1 0 c false,up:=[(p,some ⟨us (List.replicate c 0),1,false⟩)] }:=by
 have hm:=cK (n:=c) (by omega)
 show (if (0:Int)<=(c:Int)/\(c:Int)<=(c:Int)/\(c:Int)*((4:Nat):Int)<=140737488355328/\(c:Int)<=((maxLen:Nat):Int)/\(AV.int IntKind.u32 0).size=1/\(AV.int IntKind.u32 0).cells.all AV.one=true then _ else none)=_
 rw [if_pos ⟨by omega,by omega,by omega,by omega,rfl,rfl⟩]
 simp only [Int.toNat_natCast,Gr]
theorem cB {q:Id} {len i:Nat} {t:Bool} (h:i<len):br 1 (.osl q 1 0 len t) (.int .i64 (i:Int))=some (.ref q i 0):=by
 simp only [br]
 rw [if_pos ⟨trivial,by omega,by omega⟩]
 simp
theorem bR {σ : aa} {q:Id} {o:List Nat} {i x:Nat} (h : σ q=some ⟨us o,1,false⟩) (hi:i<o.length):eL σ 1 (.ref q i 0) (.int .u32 (x:Int))=some { val := .tup [],rd:=[q],up:=[(q,some ⟨us (o.set i x),1,false⟩)] }:=by
 obtain ⟨w,hw⟩:∃ w,o[i]? = some w:=⟨_,List.getElem?_eq_getElem hi⟩
 rw [cA (n:=1) (v := .int .u32 (x:Int)) h (r9 hw) rfl (by simp [AV.size,AV.cells]) rfl, <- Xk]
 rfl
theorem iL {σ : aa} {q:Id} {o:List Nat} {i x:Nat} {b:Bool} (h : σ q=some ⟨us o,1,b⟩) (hi:o[i]? = some x):gh σ false 1 (.ref q i 0)=some { val := .int .u32 (x:Int),rd:=[q] }:=by
 rw [mK h (r9 hi)];rfl
theorem Ue (o:List Nat) (k x:Nat):(o++List.replicate (k+1) 0).set o.length x=(o++[x])++List.replicate k 0:=by
 rw [List.set_append_right _ _ (Nat.le_refl _),Nat.sub_self,List.replicate_succ,List.set_cons_zero]
 simp
theorem Cg {o:List Nat} {i x y:Nat} (h:o[i]? = some y):val (o.set i x)+au ^ i*y=val o+au ^ i*x:=by
 have hi:=(List.getElem?_eq_some_iff.1 h).1
 have ht:(o.take i).length=i:=by rw [List.length_take];omega
 have e1:o=o.take i++y::o.drop (i+1):=by
   have:=List.take_append_drop i o
   rw [List.drop_eq_getElem_cons hi] at this
   obtain ⟨_,h2⟩:=List.getElem?_eq_some_iff.1 h
   rw [h2] at this;exact this.symm
 have e2:o.set i x=o.take i++x::o.drop (i+1):=by rw [List.set_eq_take_append_cons_drop,if_pos hi]
 rw [e2]
 have e3:val o=val (o.take i++y::o.drop (i+1)):=congrArg val e1
 rw [e3,cv,cv,ht]
 simp only [val,Nat.mul_add]
 omega
theorem Gs {o:List Nat} (h:Wd o) {i x:Nat} (hx:x<au):Wd (o.set i x):=fun w hw=>by
 rcases List.mem_or_eq_of_mem_set hw with h1 | h1
 . exact h w h1
 . rw [h1];exact hx
theorem De (k:Nat):Wd (List.replicate k 0):=fun w hw=>by rw [List.eq_of_mem_replicate hw];exact cV
theorem MC (o:List Nat) (k:Nat):val (o++List.replicate k 0)=val o:=by
 rw [cv,AO (fun w hw=>List.eq_of_mem_replicate hw)];omega
theorem Is {x y c:Nat} (hx:x<au) (hy:y<au) (hc:c<=1):∃ w c':Nat,w<au/\c'<=1/\w+y+c=x+au*c'/\IntKind.u32.wrap (IntKind.u64.wrap (IntKind.u64.wrap ((x:Int)-(c:Int))-(y:Int)))=(w:Int) /\
   bo .shr .int (.int .u64 (IntKind.u64.wrap (IntKind.u64.wrap ((x:Int)-(c:Int))-(y:Int)))) (.int .u64 63)=some (.int .u64 (c':Int)):=by
 have BN:∀ a:Int,bo .shr .int (.int .u64 a) (.int .u64 63)=some (.int .u64 (a/9223372036854775808)):=fun a=>by
   rw [qZ (by decide)]
   show some (AV.int .u64 (a.fdiv (2 ^ 63)))=_
   rw [Int.fdiv_eq_ediv_of_nonneg _ (by decide)];rfl
 rw [BN]
 unfold au at *
 by_cases h:c+y<=x
 . refine ⟨x-c-y,0,by omega,by omega,by omega, ?_, ?_⟩
   . rw [IntKind.wrap_u32,IntKind.wrap_u64,IntKind.wrap_u64];omega
   . rw [IntKind.wrap_u64,IntKind.wrap_u64];congr 2;omega
 . refine ⟨x+4294967296-c-y,1,by omega,by omega,by omega, ?_, ?_⟩
   . rw [IntKind.wrap_u32,IntKind.wrap_u64,IntKind.wrap_u64];omega
   . rw [IntKind.wrap_u64,IntKind.wrap_u64];congr 2;omega
theorem NV {x c:Nat} (hx:x<au) (hc:c<=1):∃ w c':Nat,w<au/\c'<=1/\w+0+c=x+au*c'/\IntKind.u32.wrap (IntKind.u64.wrap ((x:Int)-(c:Int)))=(w:Int) /\
   bo .shr .int (.int .u64 (IntKind.u64.wrap ((x:Int)-(c:Int)))) (.int .u64 63)=some (.int .u64 (c':Int)):=by
 obtain ⟨w,c',h1,h2,h3,h4,h5⟩:=Is (y:=0) hx cV hc
 have e:IntKind.u64.wrap (IntKind.u64.wrap ((x:Int)-(c:Int))-((0:Nat):Int))=IntKind.u64.wrap ((x:Int)-(c:Int)):=by rw [IntKind.wrap_u64,IntKind.wrap_u64];omega
 rw [e] at h4 h5
 exact ⟨w,c',h1,h2,h3,h4,h5⟩
theorem mL {o:List Nat} {i c va vb x y w c':Nat} (ho:o.length=i) (hv:val o+vb=va+au ^ i*c-au ^ i*c+au ^ i*c) (hw:w+y+c=x+au*c'):val (o++[w])+(vb+au ^ i*y)=(va+au ^ i*x)+au ^ (i+1)*c':=by
 have h:au ^ i*w+au ^ i*y+au ^ i*c=au ^ i*x+au ^ i*(au*c'):=by rw [<- Nat.mul_add, <- Nat.mul_add, <- Nat.mul_add,hw]
 rw [cv,ho]
 simp only [val,Nat.mul_zero,Nat.add_zero,Nat.pow_succ]
 rw [Nat.mul_assoc]
 omega
section
variable {P:Program} {G:Nat->Option (List AV)}
theorem Qz {f ft:FuncId} (h:Has P f (pc ft)) (ht:gU P G ft) (m n:Nat) (yi:n<=m) (hm:ah m<=1000000):VP P G f [W m,W n] (W (m-n)):=by
 refine VP.has h ?_
 have hle:ah n<=ah m:=cP yi
 have xh:∀ p:Id,kX p 1 4 (.int .u32 0) (.int .i64 (ah m:Int)) (.int .i64 (ah m:Int))=some { val := .osl p 1 0 (ah m) false,up:=[(p,some ⟨us (List.replicate (ah m) 0),1,false⟩)] }:=fun p=>mD (by omega)
 simp only [pc,SS,Nat.reduceAdd,bh,xh,aC]
 refine VW.bJ (α := Nat × Nat × List Nat × Nat) (fun x=>⟨[W m,W n, .top, .top, .top, .osl [3] 1 0 (ah m) false, .int .u64 (x.2.2.2:Int)]++List.replicate 6 .top++[W m, .int .i64 (ah m), .int .i64 x.1]++List.replicate 29 .top,
   aa.put (fun _=>none) [3] (some ⟨us (x.2.2.1++List.replicate (ah m-x.1) 0),1,false⟩),x.2.1⟩)
   (fun x=>x.1<=ah m/\x.2.2.1.length=x.1/\Wd x.2.2.1/\x.2.2.2<=1/\val x.2.2.1+val ((digits n).take x.1)=val ((digits m).take x.1)+au ^ x.1*x.2.2.2) (fun x=>ah m-x.1) (0,9,[],0) ?_ ?_ ?_
 . exact Wk.slots (by simp [Fg,List.replicate]) (Nat.le_refl _)
 . exact ⟨Nat.zero_le _,rfl,by intro w hw;simp at hw,by decide,by simp [val]⟩
 rintro ⟨i,nn,o,c⟩ ⟨hi,ho,hwd,hc,hv⟩
 simp only [] at hi ho hwd hc hv
 have qD:i<ah m->decide ((i:Int)<(ah m:Int))=true:=fun h=>ao (by omega)
 have tE : ¬ i<ah m->decide ((i:Int)<(ah m:Int))=false:=fun h=>ak (by omega)
 have dt : ¬ i<ah m->i=ah m:=by omega
 have rb:=aq i (by omega)
 have Te:i<ah m->i<(o++List.replicate (ah m-i) 0).length:=fun h=>by rw [List.length_append,List.length_replicate];omega
 have Uf:i<ah m->∀ x,(o++List.replicate (ah m-i) 0).set i x=(o++[x])++List.replicate (ah m-(i+1)) 0:=fun h x=>by
   rw [show ah m-i=(ah m-(i+1))+1 from by omega, <- ho];exact Ue _ _ _
 have l7:i<ah m->i+1<=ah m/\ah m-(i+1)<ah m-i:=fun h=>by omega
 have hny : ¬ i<ah n->ah n<=i:=by omega
 have d3t:i<ah n->decide ((i:Int)<(ah n:Int))=true:=fun h=>ao (by omega)
 have d3f : ¬ i<ah n->decide ((i:Int)<(ah n:Int))=false:=fun h=>ak (by omega)
 simp only [SS]
 by_cases hlt:i<ah m
 . obtain ⟨a,ha⟩:∃ a,(digits m)[i]? = some a:=⟨_,List.getElem?_eq_getElem hlt⟩
   have uj:=aO m a (List.mem_of_getElem? ha)
   have f1:=bn a uj
   have iA:=cB (q:=[3]) (t:=false) hlt
   by_cases hy:i<ah n
   . obtain ⟨b,hb⟩:∃ b,(digits n)[i]? = some b:=⟨_,List.getElem?_eq_getElem hy⟩
     have yj:=aO n b (List.mem_of_getElem? hb)
     have f3:=bn b yj
     obtain ⟨w,c',h1,h2,h3,h4,h5⟩:=Is uj yj hc
     have hv':=mL (va:=val ((digits m).take i)) (vb:=val ((digits n).take i)) ho (by rw [hv];omega) h3
     simp only [SS,Nat.reduceAdd,qD hlt,db ha,db hb,bh,az,bm,f1,f3,d3t hy,h4,iA]
     rw [bR (o:=o++List.replicate (ah m-i) 0) (by simp [aa.put]) (Te hlt),Uf hlt]
     simp only [SS,Nat.reduceAdd,h5,rb]
     refine ⟨(i+1,_,o++[w],c'),⟨(l7 hlt).1,by simp [ho],cw hwd (by intro z hz;simp at hz;subst hz;exact h1),h2, ?_⟩,(l7 hlt).2,Wk.forget (by simp [Fg]) (fun j => ?_) (Nat.le_refl _)⟩
     . show val (o++[w])+val ((digits n).take (i+1))=_
       rw [aE ha,aE hb];exact hv'
     . simp only [aa.put];split<;>simp
   . obtain ⟨w,c',h1,h2,h3,h4,h5⟩:=NV uj hc
     have hv':=mL (va:=val ((digits m).take i)) (vb:=val ((digits n).take i)) ho (by rw [hv];omega) h3
     simp only [SS,Nat.reduceAdd,qD hlt,db ha,bh,az,bm,f1,d3f hy,h4,iA]
     rw [bR (o:=o++List.replicate (ah m-i) 0) (by simp [aa.put]) (Te hlt),Uf hlt]
     simp only [SS,Nat.reduceAdd,h5,rb]
     refine ⟨(i+1,_,o++[w],c'),⟨(l7 hlt).1,by simp [ho],cw hwd (by intro z hz;simp at hz;subst hz;exact h1),h2, ?_⟩,(l7 hlt).2,Wk.forget (by simp [Fg]) (fun j => ?_) (Nat.le_refl _)⟩
     . show val (o++[w])+val ((digits n).take (i+1))=_
       rw [aE ha,ja (hny hy)]
       simpa using hv'
     . simp only [aa.put];split<;>simp
 . have ou:=dt hlt
   have e1:(digits m).take (ah m)=digits m:=List.take_of_length_le (Nat.le_refl _)
   have e2:(digits n).take (ah m)=digits n:=List.take_of_length_le hle
   have zk:val o+n=m+au ^ ah m*c:=by rw [ou,e1,e2,aI,aI] at hv;exact hv
   have xM:val o=m-n:=by
     have:=lC hwd
     rw [ho,ou] at this
     rcases Nat.le_one_iff_eq_zero_or_eq_one.1 hc with h0 | h0
     . rw [h0] at zk;omega
     . rw [h0] at zk;omega
   have e3:o++List.replicate (ah m-i) 0=o:=by rw [ou,Nat.sub_self];simp
   have xz:=ht o hwd (by rw [ho];omega)
   rw [xM] at xz
   simp only [SS,Nat.reduceAdd,tE hlt,e3]
   refine cM [([3],⟨us o,1,false⟩)] xz (aW.cons (gJ (by rw [ho,ou])) aW.nil) (by simp [aa.put]) ?_
   simp only [SS,Nat.reduceAdd]
   exact ag▸ab rfl (aJ _)
end
end Go.VL
end

section
set_option linter.unusedVariables false
namespace Go.VL
theorem MD (a b:Nat) (ha:a<au) (hb:b<au):IntKind.u64.wrap ((a:Int)*(b:Int))=((a*b:Nat):Int):=by
 have:a*b<=4294967295*4294967295:=Nat.mul_le_mul (by unfold au at ha;omega) (by unfold au at hb;omega)
 rw [<- Int.natCast_mul,IntKind.wrap_u64];omega
theorem Kq {a b:Nat} (ha:a<au) (hb:b<au):a*b<=18446744065119617025:=by
 have:a*b<=4294967295*4294967295:=Nat.mul_le_mul (by unfold au at ha;omega) (by unfold au at hb;omega)
 omega
theorem ny (a b:Nat) (h:a+b<=9223372036854775807):IntKind.i64.wrap ((a:Int)+(b:Int))=((a+b:Nat):Int):=by rw [IntKind.wrap_i64];omega
theorem Df {o:List Nat} {k y:Nat} (h:val o<au ^ k) (hy:o[k]? = some y):y=0:=by
 have:=Cg (x:=0) hy
 rcases Nat.eq_zero_or_pos y with h0 | h0
 . exact h0
 . have:au ^ k*1<=au ^ k*y:=Nat.mul_le_mul_left _ h0
   omega
theorem Fm {o o':List Nat} {i j c x y z s v:Nat} (hz:o'[i+j]? = some z) (hv:val o'+au ^ (i+j)*c=val o+au ^ i*(x*v)) (hs:s=c+(x*y+z)) :
   val (o'.set (i+j) (s%au))+au ^ (i+(j+1))*(s/au)=val o+au ^ i*(x*(v+au ^ j*y)):=by
 have e1:=Cg (x:=s%au) hz
 have e2:au ^ (i+j)*(s%au)+au ^ (i+j)*(au*(s/au))=au ^ (i+j)*c+au ^ (i+j)*(x*y)+au ^ (i+j)*z:=by
   rw [<- Nat.mul_add,Nat.mod_add_div,hs,Nat.mul_add,Nat.mul_add];omega
 have e3:au ^ (i+(j+1))*(s/au)=au ^ (i+j)*(au*(s/au)):=by rw [<- Nat.add_assoc,Nat.pow_succ,Nat.mul_assoc]
 have e4:au ^ i*(x*(v+au ^ j*y))=au ^ i*(x*v)+au ^ (i+j)*(x*y):=by
   rw [Nat.mul_add,Nat.mul_add,Nat.pow_add]
   congr 1
   rw [Nat.mul_assoc,Nat.mul_left_comm x]
 rw [e3,e4]
 omega
theorem bE {n:Nat}:ah n=0↔n=0:=by
 constructor
 . intro h;exact oq.1 (List.length_eq_zero_iff.1 h)
 . intro h;rw [h,ah,bq];rfl
section
variable {P:Program} {G:Nat->Option (List AV)}
theorem QA {f ft:FuncId} (h:Has P f (pe ft)) (ht:gU P G ft) (m n:Nat) (hm:ah m<=1000000) (hn:ah n<=1000000):VP P G f [W m,W n] (W (m*n)):=by
 refine VP.has h ?_
 have z1:ah m=0->decide ((ah m:Int)=0)=true:=fun h=>ao (by omega)
 have z2 : ¬ ah m=0->decide ((ah m:Int)=0)=false:=fun h=>ak (by omega)
 have z3:ah n=0->decide ((ah n:Int)=0)=true:=fun h=>ao (by omega)
 have z4 : ¬ ah n=0->decide ((ah n:Int)=0)=false:=fun h=>ak (by omega)
 have Dg:m*n=0->∀ σ,View σ .nils (W (m*n)):=fun h σ => by rw [h];simp only [W,bq,us];exact View.nils 1
 have xh:∀ p:Id,kX p 1 4 (.int .u32 0) (.int .i64 ((ah m+ah n:Nat):Int)) (.int .i64 ((ah m+ah n:Nat):Int))=some { val := .osl p 1 0 (ah m+ah n) false,up:=[(p,some ⟨us (List.replicate (ah m+ah n) 0),1,false⟩)] }:=fun p=>mD (by omega)
 have hL:=ny (ah m) (ah n) (by omega)
 simp only [pe,SS,Nat.reduceAdd,bh]
 by_cases h0:ah m=0
 . simp only [SS,Nat.reduceAdd,z1 h0]
   refine ag▸⟨.nils,rfl,Dg (by rw [bE.1 h0];simp) _⟩
 by_cases h1:ah n=0
 . simp only [SS,Nat.reduceAdd,z2 h0,z3 h1,bh]
   refine ag▸⟨.nils,rfl,Dg (by rw [bE.1 h1];simp) _⟩
 simp only [SS,Nat.reduceAdd,z2 h0,z4 h1,bh,hL,xh,aC]
 refine VW.bJ (α := Nat × Nat × List Nat) (fun x=>⟨[W m,W n, .top, .top, .top, .osl [14] 1 0 (ah m+ah n) false]++List.replicate 19 .top++[W m, .int .i64 (ah m), .int .i64 x.1]++List.replicate 47 .top,
   aa.put (fun _=>none) [14] (some ⟨us x.2.2,1,false⟩),x.2.1⟩)
   (fun x=>x.1<=ah m/\x.2.2.length=ah m+ah n/\Wd x.2.2/\val x.2.2=val ((digits m).take x.1)*n) (fun x=>ah m-x.1) (0,19,List.replicate (ah m+ah n) 0) ?_ ?_ ?_
 . exact Wk.slots (by simp [Fg,List.replicate]) (Nat.le_refl _)
 . exact ⟨Nat.zero_le _,List.length_replicate ..,De _,by simp only [];rw [AO (fun w hw=>List.eq_of_mem_replicate hw)];simp [val]⟩
 rintro ⟨i,nn,o⟩ ⟨hi,ho,hwd,hv⟩
 simp only [] at hi ho hwd hv
 have qD:i<ah m->decide ((i:Int)<(ah m:Int))=true:=fun h=>ao (by omega)
 have tE : ¬ i<ah m->decide ((i:Int)<(ah m:Int))=false:=fun h=>ak (by omega)
 have dt : ¬ i<ah m->i=ah m:=by omega
 have rb:=aq i (by omega)
 have l7:i<ah m->i+1<=ah m/\ah m-(i+1)<ah m-i:=fun h=>by omega
 have vA:=ny i (ah n) (by omega)
 have Kr:i<ah m->i+ah n<ah m+ah n:=fun h=>by omega
 simp only [SS]
 by_cases hlt:i<ah m
 . obtain ⟨a,ha⟩:∃ a,(digits m)[i]? = some a:=⟨_,List.getElem?_eq_getElem hlt⟩
   have uj:=aO m a (List.mem_of_getElem? ha)
   have f1:=bn a uj
   have Tj:o[i+ah n]? = some 0:=by
     obtain ⟨y,hy⟩:∃ y,o[i+ah n]? = some y:=⟨_,List.getElem?_eq_getElem (by rw [ho];exact Kr hlt)⟩
     have e:=Df (k:=i+ah n) (by
       rw [hv,Nat.pow_add]
       have h2:val ((digits m).take i)<au ^ i:=by
         have:=lC (q8 (aO m) i)
         rwa [List.length_take,Nat.min_eq_left (show i<=(digits m).length from Nat.le_of_lt hlt)] at this
       exact Nat.mul_lt_mul'' h2 (cN n)) hy
     rw [e] at hy;exact hy
   simp only [SS,Nat.reduceAdd,qD hlt,db ha,bh,az,bm,aC]
   refine VW.bJ (α := Nat × Nat × List Nat × Nat) (fun x=>⟨[W m,W n, .top, .top, .top, .osl [14] 1 0 (ah m+ah n) false, .int .i64 i, .int .u32 a, .int .u64 (x.2.2.2:Int)]++List.replicate 16 .top++[W m, .int .i64 (ah m), .int .i64 i]++List.replicate 4 .top++[W n, .int .i64 (ah n), .int .i64 x.1]++List.replicate 40 .top,
     aa.put (fun _=>none) [14] (some ⟨us x.2.2.1,1,false⟩),x.2.1⟩)
     (fun x=>x.1<=ah n/\x.2.2.1.length=ah m+ah n/\Wd x.2.2.1/\x.2.2.2<au/\x.2.2.1[i+ah n]? = some 0/\val x.2.2.1+au ^ (i+x.1)*x.2.2.2=val o+au ^ i*(a*val ((digits n).take x.1))) (fun x=>ah n-x.1) (0,nn+10,o,0) ?_ ?_ ?_
   . exact Wk.slots (by simp [Fg,List.replicate]) (by simp only [];omega)
   . exact ⟨Nat.zero_le _,ho,hwd,cV,Tj,by simp [val]⟩
   rintro ⟨j,mm,o',c⟩ ⟨hj,Iu,Gt,hc,hz,hv'⟩
   simp only [] at hj Iu Gt hc hz hv'
   have Iv:j<ah n->decide ((j:Int)<(ah n:Int))=true:=fun h=>ao (by omega)
   have Iw : ¬ j<ah n->decide ((j:Int)<(ah n:Int))=false:=fun h=>ak (by omega)
   have xm : ¬ j<ah n->j=ah n:=by omega
   have ME:=aq j (by omega)
   have z6:j<ah n->j+1<=ah n/\ah n-(j+1)<ah n-j:=fun h=>by omega
   have Kg:=ny i j (by omega)
   have Ks:j<ah n->i+j<ah m+ah n:=fun h=>by omega
   have hne:j<ah n->i+j≠i+ah n:=fun h=>by omega
   simp only [SS]
   by_cases z7:j<ah n
   . obtain ⟨b,hb⟩:∃ b,(digits n)[j]? = some b:=⟨_,List.getElem?_eq_getElem z7⟩
     have yj:=aO n b (List.mem_of_getElem? hb)
     have f2:=bn b yj
     obtain ⟨z,Xl⟩:∃ z,o'[i+j]? = some z:=⟨_,List.getElem?_eq_getElem (by rw [Iu];exact Ks z7)⟩
     have Ug:=Gt z (List.mem_of_getElem? Xl)
     have f3:=bn z Ug
     have f4:=MD a b uj yj
     have hle:=Kq uj yj
     have f5:=oO (a*b) z (by unfold au at Ug;omega)
     have f6:=oO c (a*b+z) (by unfold au at Ug hc;omega)
     have hc':(c+(a*b+z))/au<au:=by unfold au at Ug hc ⊢;omega
     have iA:=cB (q:=[14]) (t:=false) (Ks z7)
     have hst:=Fm Xl hv' (rfl:c+(a*b+z)=c+(a*b+z))
     simp only [SS,Nat.reduceAdd,Iv z7,db hb,az,bm,f1,f2,f4,Kg,iA]
     rw [iL (o:=o') (b:=false) (by simp [aa.put]) Xl]
     simp only [SS,Nat.reduceAdd,f3,f5,f6,uQ,Kg,iA]
     rw [bR (o:=o') (by simp [aa.put]) (by rw [Iu];exact Ks z7)]
     simp only [SS,Nat.reduceAdd,nM,ME]
     refine ⟨(j+1,_,o'.set (i+j) ((c+(a*b+z))%au),(c+(a*b+z))/au),⟨(z6 z7).1,by simp [Iu],Gs Gt (Nat.mod_lt _ cV),hc', ?_, ?_⟩,(z6 z7).2,Wk.forget (by simp [Fg]) (fun j => ?_) (Nat.le_refl _)⟩
     . rw [List.getElem?_set_ne (hne z7)];exact hz
     . show _=val o+au ^ i*(a*val ((digits n).take (j+1)))
       rw [aE hb];exact hst
     . simp only [aa.put];split<;>simp
   . have ZY:=xm z7
     have iA:=cB (q:=[14]) (t:=false) (Kr hlt)
     have f7:IntKind.u32.wrap (c:Int)=(c:Int):=by rw [uQ,Nat.mod_eq_of_lt hc]
     have hval:val (o'.set (i+ah n) c)=val ((digits m).take (i+1))*n:=by
       have e:=Cg (x:=c) hz
       have e2:(digits n).take (ah n)=digits n:=List.take_of_length_le (Nat.le_refl _)
       rw [ZY,e2,aI,hv] at hv'
       rw [aE ha,Nat.add_mul]
       have e3:au ^ i*a*n=au ^ i*(a*n):=Nat.mul_assoc _ _ _
       omega
     simp only [SS,Nat.reduceAdd,Iw z7,bh,vA,f7,iA]
     rw [bR (o:=o') (by simp [aa.put]) (by rw [Iu];exact Kr hlt)]
     simp only [SS,Nat.reduceAdd,rb]
     refine ⟨(i+1,_,o'.set (i+ah n) c),⟨(l7 hlt).1,by simp [Iu],Gs Gt hc,hval⟩,(l7 hlt).2,Wk.forget (by simp [Fg]) (fun j => ?_) (Nat.le_refl _)⟩
     simp only [aa.put];split<;>simp
 . have ou:=dt hlt
   have e1:(digits m).take (ah m)=digits m:=List.take_of_length_le (Nat.le_refl _)
   have xM:val o=m*n:=by rw [hv,ou,e1,aI]
   have xz:=ht o hwd (by rw [ho];omega)
   rw [xM] at xz
   simp only [SS,Nat.reduceAdd,tE hlt]
   refine cM [([14],⟨us o,1,false⟩)] xz (aW.cons (gJ ho.symm) aW.nil) (by simp [aa.put]) ?_
   simp only [SS,Nat.reduceAdd]
   exact ag▸ab rfl (aJ _)
end
end Go.VL
end

section
set_option linter.unusedVariables false
namespace Go.VL
theorem Kt {k:IntKind} {a b:Int}:bo .or .int (.int k a) (.int k b)=some (.int k (k.wrap (BitVec.ofInt k.bits a ||| BitVec.ofInt k.bits b).toNat)):=by
 simp only [bo];rw [show kW .or .int (.int k a) (.int k b)=some (.int k (k.wrap (BitVec.ofInt k.bits a ||| BitVec.ofInt k.bits b).toNat)) from by simp [kW,sA,bitsOf]]
theorem Xm (a b:Nat) (ha:a<18446744073709551616) (hb:b<18446744073709551616):bo .or .int (.int .u64 (a:Int)) (.int .u64 (b:Int))=some (.int .u64 ((a ||| b:Nat):Int)):=by
 have hx:a ||| b<2 ^ 64:=Nat.or_lt_two_pow (by omega) (by omega)
 have h1:(BitVec.ofInt 64 (a:Int)).toNat=a:=by
   rw [BitVec.ofInt_natCast,BitVec.toNat_ofNat];exact Nat.mod_eq_of_lt (by omega)
 have h2:(BitVec.ofInt 64 (b:Int)).toNat=b:=by
   rw [BitVec.ofInt_natCast,BitVec.toNat_ofNat];exact Nat.mod_eq_of_lt (by omega)
 rw [Kt]
 show some (AV.int .u64 (IntKind.u64.wrap ((BitVec.ofInt 64 (a:Int) ||| BitVec.ofInt 64 (b:Int)).toNat:Int)))=_
 rw [BitVec.toNat_or,h1,h2,w64 _ (by omega)]
theorem Xn (a b:Nat) (ha:a<au) (hb:b<au):bo .or .int (.int .u32 (a:Int)) (.int .u32 (b:Int))=some (.int .u32 ((a ||| b:Nat):Int)):=by
 unfold au at ha hb
 have hx:a ||| b<2 ^ 32:=Nat.or_lt_two_pow (by omega) (by omega)
 have h1:(BitVec.ofInt 32 (a:Int)).toNat=a:=by
   rw [BitVec.ofInt_natCast,BitVec.toNat_ofNat];exact Nat.mod_eq_of_lt (by omega)
 have h2:(BitVec.ofInt 32 (b:Int)).toNat=b:=by
   rw [BitVec.ofInt_natCast,BitVec.toNat_ofNat];exact Nat.mod_eq_of_lt (by omega)
 rw [Kt]
 show some (AV.int .u32 (IntKind.u32.wrap ((BitVec.ofInt 32 (a:Int) ||| BitVec.ofInt 32 (b:Int)).toNat:Int)))=_
 rw [BitVec.toNat_or,h1,h2,uQ,Nat.mod_eq_of_lt (by unfold au;omega)]
theorem Dh (a b:Nat) (ha:a<au) (hb:b<au):bo .or .int (.int .u64 ((au*a:Nat):Int)) (.int .u64 (b:Int))=some (.int .u64 ((au*a+b:Nat):Int)):=by
 rw [Xm _ _ (by unfold au at *;omega) (by unfold au at *;omega)]
 have:=Nat.two_pow_add_eq_or_of_lt (i:=32) (b:=b) (by unfold au at hb;omega) a
 rw [show au=2 ^ 32 from rfl,this]
theorem wh (a:Nat) (ha:a<au):bo .shl .int (.int .u64 (a:Int)) (.int .u64 32)=some (.int .u64 ((au*a:Nat):Int)):=by
 rw [Mt (by decide)]
 have:IntKind.u64.wrap ((a:Int)*2 ^ (min (32:Int).toNat IntKind.u64.bits))=((au*a:Nat):Int):=by
   show IntKind.u64.wrap ((a:Int)*2 ^ 32)=_
   rw [IntKind.wrap_u64];unfold au at *;omega
 rw [this]
theorem Di (a b:Nat) (ha:a<18446744073709551616) (hb:b≠0):bo .quo .int (.int .u64 (a:Int)) (.int .u64 (b:Int))=some (.int .u64 ((a/b:Nat):Int)):=by
 rw [Mm (by omega)]
 show some (AV.int .u64 (IntKind.u64.wrap ((a/b:Nat):Int)))=_
 rw [w64 _ (Nat.lt_of_le_of_lt (Nat.div_le_self _ _) ha)]
theorem Dj (a b:Nat) (hb:b≠0):bo .rem .int (.int .u64 (a:Int)) (.int .u64 (b:Int))=some (.int .u64 ((a%b:Nat):Int)):=by
 rw [T1 (by omega)];rfl
def zs (k:Nat):List Nat:=List.replicate k 0
theorem uk:zs 0=[]:=rfl
theorem wi (q:List Nat) (j x:Nat):(zs (j+1)++q).set j x=zs j++x::q:=by
 unfold zs
 rw [List.replicate_succ',List.append_assoc,List.set_append_right _ _ (by simp)]
 simp
section
variable {P:Program} {G:Nat->Option (List AV)}
theorem Ep {f ft fu:FuncId} (h:Has P f (ld ft fu)) (ht:gU P G ft) (hu:∀ n,n<18446744073709551616->VP P G fu [.int .u64 ((n:Nat):Int)] (W n)) (m w:Nat) (hm:ah m<=1000000) (hw:w<au) (Kh:w≠0) :
   VP P G f [W m, .int .u32 (w:Int)] (.tup [W (m/w),W (m%w)]):=by
 refine VP.has h ?_
 have xh:∀ p:Id,kX p 1 4 (.int .u32 0) (.int .i64 (ah m:Int)) (.int .i64 (ah m:Int))=some { val := .osl p 1 0 (ah m) false,up:=[(p,some ⟨us (List.replicate (ah m) 0),1,false⟩)] }:=fun p=>mD (by omega)
 have Xo:IntKind.i64.wrap ((ah m:Int)-1)=(ah m:Int)-1:=by rw [IntKind.wrap_i64];omega
 have f0:=bn w hw
 have hwz:((w:Nat):Int)≠0:=by omega
 simp only [ld,SS,Nat.reduceAdd,bh,xh,Xo,aC]
 refine VW.bJ (α := Nat × Nat × List Nat × Nat) (fun x=>⟨[W m, .int .u32 (w:Int), .top, .top, .top, .top, .osl [4] 1 0 (ah m) false, .int .u64 (x.2.2.2:Int), .int .i64 ((x.1:Int)-1)]++List.replicate 34 .top,
   aa.put (fun _=>none) [4] (some ⟨us (zs x.1++x.2.2.1),1,false⟩),x.2.1⟩)
   (fun x=>x.1+x.2.2.1.length=ah m/\Wd x.2.2.1/\x.2.2.2<w/\val ((digits m).drop x.1)=val x.2.2.1*w+x.2.2.2) (fun x=>x.1) (ah m,11,[],0) ?_ ?_ ?_
 . rw [List.append_nil];exact Wk.slots (by simp [Fg,List.replicate]) (Nat.le_refl _)
 . refine ⟨by simp,by intro w hw;simp at hw,Nat.pos_of_ne_zero Kh, ?_⟩
   show val ((digits m).drop (ah m))=_
   rw [List.drop_eq_nil_of_le (show (digits m).length<=ah m from Nat.le_refl _)];simp [val]
 rintro ⟨k,nn,q,r⟩ ⟨hk,hwd,hr,hv⟩
 simp only [] at hk hwd hr hv
 by_cases h0:k=0
 . subst h0
   have d0:decide ((0:Int)<=((0:Nat):Int)-1)=false:=by decide
   have e:m/w=val q/\m%w=r:=by
     rw [List.drop_zero,aI] at hv
     refine (Nat.div_mod_unique (Nat.pos_of_ne_zero Kh)).2 ⟨?_,hr⟩
     rw [hv,Nat.mul_comm w];omega
   have xz:=ht q hwd (by omega)
   rw [<- e.1] at xz
   have JW:=hu r (by unfold au at hw;omega)
   have hq:ah m=q.length:=by omega
   simp only [SS,Nat.reduceAdd,d0,uk]
   refine cM [([4],⟨us q,1,false⟩)] xz (aW.cons (gJ hq) aW.nil) (by simp [aa.put]) ?_
   simp only [SS,Nat.reduceAdd]
   refine aj JW (by simp [af.int]) ?_
   simp only [SS,Nat.reduceAdd]
   rw [e.2]
   exact ag▸ab rfl (af.tup (by intro c hc;simp at hc;rcases hc with rfl | rfl<;>exact aJ _))
 . obtain ⟨j,rfl⟩:∃ j,k=j+1:=⟨k-1,by omega⟩
   have d0:decide ((0:Int)<=(j:Int))=true:=ao (by omega)
   have hj:((j+1:Nat):Int)-1=(j:Int):=by omega
   have nL:j<ah m:=by omega
   have ME:IntKind.i64.wrap ((j:Int)-1)=(j:Int)-1:=by rw [IntKind.wrap_i64];omega
   obtain ⟨a,ha⟩:∃ a,(digits m)[j]? = some a:=⟨_,List.getElem?_eq_getElem nL⟩
   have uj:=aO m a (List.mem_of_getElem? ha)
   have f1:=bn a uj
   have D4:r<au:=by omega
   have f2:=wh r D4
   have f3:=Dh r a D4 uj
   have hlt:au*r+a<18446744073709551616:=by unfold au at *;omega
   have f4:=Di (au*r+a) w hlt Kh
   have f5:=Dj (au*r+a) w Kh
   have Ix:(au*r+a)/w<au:=by
     rw [Nat.div_lt_iff_lt_mul (Nat.pos_of_ne_zero Kh)]
     have:au*(r+1)<=au*w:=Nat.mul_le_mul_left _ hr
     rw [Nat.mul_add] at this
     omega
   have f6:IntKind.u32.wrap (((au*r+a)/w:Nat):Int)=(((au*r+a)/w:Nat):Int):=by rw [uQ,Nat.mod_eq_of_lt Ix]
   have iA:=cB (q:=[4]) (t:=false) nL
   have Te:j<(zs (j+1)++q).length:=by simp [zs];omega
   have hv':val ((digits m).drop j)=val ((au*r+a)/w::q)*w+(au*r+a)%w:=by
     rw [List.drop_eq_getElem_cons (show j<(digits m).length from nL)]
     obtain ⟨_,h2⟩:=List.getElem?_eq_some_iff.1 ha
     rw [h2]
     simp only [val]
     rw [hv,Nat.add_mul,Nat.mul_add,Nat.mul_assoc au]
     have:=Nat.div_add_mod (au*r+a) w
     rw [Nat.mul_comm] at this
     omega
   have Ir:j+((au*r+a)/w::q).length=ah m:=by simp;omega
   simp only [SS,Nat.reduceAdd,d0,hj,db ha,az,bm,f0,f1,f2,f3,f4,f6,iA]
   rw [bR (o:=zs (j+1)++q) (by simp [aa.put]) Te,wi]
   simp only [SS,Nat.reduceAdd,f0,f5,ME]
   refine ⟨(j,_,(au*r+a)/w::q,(au*r+a)%w),⟨Ir, ?_,Nat.mod_lt _ (Nat.pos_of_ne_zero Kh),hv'⟩,Nat.lt_succ_self j,Wk.forget (by simp [Fg]) (fun j => ?_) (Nat.le_refl _)⟩
   . intro z hz
     rcases List.mem_cons.1 hz with rfl | hz
     . exact Ix
     . exact hwd z hz
   . simp only [aa.put];split<;>simp
end
end Go.VL
end

section
set_option linter.unusedVariables false
namespace Go.VL
def pad:Nat->Nat->List Nat
 | 0,_=>[]
 | k+1,n=>n%au::pad k (n/au)
theorem kT (k n:Nat):(pad k n).length=k:=by
 induction k generalizing n with
 | zero=>rfl
 | succ k ih=>simp [pad,ih]
theorem sb (k n:Nat):Wd (pad k n):=by
 induction k generalizing n with
 | zero=>intro w hw;simp [pad] at hw
 | succ k ih =>
   intro w hw
   rcases List.mem_cons.1 hw with rfl | hw
   . exact Nat.mod_lt _ cV
   . exact ih _ w hw
theorem x8 {o:List Nat} (h:Wd o):pad o.length (val o)=o:=by
 induction o with
 | nil=>rfl
 | cons w o ih =>
   have hw:=h w List.mem_cons_self
   simp only [List.length_cons,pad,val]
   rw [Nat.add_mul_mod_self_left,Nat.mod_eq_of_lt hw,Nat.add_mul_div_left _ _ cV,Nat.div_eq_of_lt hw,Nat.zero_add,ih fun z hz=>h z (List.mem_cons_of_mem _ hz)]
theorem gq {k n:Nat} (h:n<au ^ k):val (pad k n)=n:=by
 induction k generalizing n with
 | zero=>simp at h;simp [pad,val,h]
 | succ k ih =>
   simp only [pad,val]
   rw [ih (by rw [Nat.div_lt_iff_lt_mul cV];rwa [Nat.pow_succ] at h),Nat.mod_add_div]
theorem QB (k:Nat):Wd (zs k):=De k
theorem iM (k:Nat):zs (k+1)=0::zs k:=rfl
theorem um (o:List Nat) (c:Nat) (t:List Nat) {i:Nat} (h:o.length=i):(o++c::t)[i]? = some c:=by subst h;simp
theorem fA (o:List Nat) (c:Nat) (t:List Nat) {i:Nat} (x:Nat) (h:o.length=i):(o++c::t).set i x=o++x::t:=by
 subst h;rw [List.set_append_right _ _ (Nat.le_refl _),Nat.sub_self,List.set_cons_zero]
theorem Iy (o:List Nat) (c d:Nat) (t:List Nat) {i:Nat} (x:Nat) (h:o.length=i):(o++c::d::t).set (i+1) x=(o++[c])++x::t:=by
 have e:o++c::d::t=(o++[c])++d::t:=by simp
 rw [e];exact fA _ _ _ _ (by simp [h])
theorem sV {s:Nat} (hs:s<=32):2 ^ (32-s)*2 ^ s=au:=by
 rw [<- Nat.pow_add,Nat.sub_add_cancel hs];rfl
theorem Iz {x c s:Nat} (hs:s<=32) (hc:c<2 ^ s) (hx:x<au):c ||| ((x*2 ^ s)%au)=c+(x*2 ^ s)%au/\c+(x*2 ^ s)%au<au/\(x*2 ^ s)/au<2 ^ s:=by
 have hB:=sV hs
 have e:(x*2 ^ s)%au=2 ^ s*(x%2 ^ (32-s)):=by rw [<- hB,Nat.mul_mod_mul_right,Nat.mul_comm]
 have hlt:x%2 ^ (32-s)<2 ^ (32-s):=Nat.mod_lt _ (Nat.two_pow_pos _)
 have h1:2 ^ s*(x%2 ^ (32-s)+1)<=2 ^ s*2 ^ (32-s):=Nat.mul_le_mul_left _ hlt
 rw [Nat.mul_add,Nat.mul_comm (2 ^ s) (2 ^ (32-s)),hB] at h1
 refine ⟨?_,by rw [e];omega, ?_⟩
 . rw [e,Nat.or_comm, <- Nat.two_pow_add_eq_or_of_lt hc,Nat.add_comm]
 . rw [Nat.div_lt_iff_lt_mul cV,Nat.mul_comm]
   exact Nat.mul_lt_mul_of_pos_left hx (Nat.two_pow_pos _)
theorem QC (x s:Nat) (hs:s<=32) (hx:x<au):bo .shl .int (.int .u64 (x:Int)) (.int .i64 (s:Int))=some (.int .u64 ((x*2 ^ s:Nat):Int)):=by
 rw [Mt (by omega)]
 have h1:x*2 ^ s<18446744073709551616:=by
   have h2:2 ^ s<=2 ^ 32:=Nat.pow_le_pow_right (by decide) hs
   have h3:x*2 ^ s<=x*2 ^ 32:=Nat.mul_le_mul_left _ h2
   unfold au at hx;omega
 have h2:min (s:Int).toNat IntKind.u64.bits=s:=by
   show min (s:Int).toNat 64=s
   rw [Int.toNat_natCast];omega
 have h3:(x:Int)*2 ^ s=((x*2 ^ s:Nat):Int):=by rw [Int.natCast_mul,Int.natCast_pow];rfl
 rw [h2,h3,w64 _ h1]
section
variable {P:Program} {G:Nat->Option (List AV)}
theorem zl {f:FuncId} (h:Has P f jf) (m s:Nat) (hm:ah m<=1000000) (hs:s<=31) (p:Id) :
   aB P G f [W m, .int .i64 (s:Int)] p [] { val := .osl (4::p) 1 0 (ah m+1) false,rd:=[],up:=[(4::p,some ⟨us (pad (ah m+1) (m*2 ^ s)),1,false⟩)] }:=by
 refine aB.has h ?_
 have hL:=aq (ah m) (by omega)
 have xh:∀ p:Id,kX p 1 4 (.int .u32 0) (.int .i64 ((ah m+1:Nat):Int)) (.int .i64 ((ah m+1:Nat):Int))=some { val := .osl p 1 0 (ah m+1) false,up:=[(p,some ⟨us (List.replicate (ah m+1) 0),1,false⟩)] }:=fun p=>mD (by omega)
 have hz:us (List.replicate (ah m+1) 0)=us (0::zs (ah m)):=rfl
 simp only [jf,SS,Nat.reduceAdd,bh,hL,xh,aC]
 refine VW.bJ (α := Nat × Nat × List Nat × Nat) (fun x=>⟨[W m, .int .i64 (s:Int), .top, .top, .top, .osl (4::p) 1 0 (ah m+1) false]++List.replicate 7 .top++[W m, .int .i64 (ah m), .int .i64 x.1]++List.replicate 25 .top,
   aa.put (aa.of []) (4::p) (some ⟨us (x.2.2.1++x.2.2.2::zs (ah m-x.1)),1,false⟩),x.2.1⟩)
   (fun x=>x.1<=ah m/\x.2.2.1.length=x.1/\Wd x.2.2.1/\x.2.2.2<2 ^ s/\val x.2.2.1+au ^ x.1*x.2.2.2=val ((digits m).take x.1)*2 ^ s) (fun x=>ah m-x.1) (0,9,[],0) ?_ ?_ ?_
 . exact Wk.slots (by simp [Fg,List.replicate]) (Nat.le_refl _)
 . exact ⟨Nat.zero_le _,rfl,by intro w hw;simp at hw,Nat.two_pow_pos _,by simp [val]⟩
 rintro ⟨i,nn,o,c⟩ ⟨hi,ho,hwd,hc,hv⟩
 simp only [] at hi ho hwd hc hv
 have qD:i<ah m->decide ((i:Int)<(ah m:Int))=true:=fun h=>ao (by omega)
 have tE : ¬ i<ah m->decide ((i:Int)<(ah m:Int))=false:=fun h=>ak (by omega)
 have dt : ¬ i<ah m->i=ah m:=by omega
 have rb:=aq i (by omega)
 have l7:i<ah m->i+1<=ah m/\ah m-(i+1)<ah m-i:=fun h=>by omega
 have hcB:c<au:=by
   have h2:2 ^ s<=2 ^ 32:=Nat.pow_le_pow_right (by decide) (by omega)
   unfold au;omega
 simp only [SS]
 by_cases hlt:i<ah m
 . obtain ⟨x,hx⟩:∃ x,(digits m)[i]? = some x:=⟨_,List.getElem?_eq_getElem hlt⟩
   have qE:=aO m x (List.mem_of_getElem? hx)
   have f1:=bn x qE
   have f2:=QC x s (by omega) qE
   obtain ⟨g1,g2,g3⟩:=Iz (s:=s) (by omega) hc qE
   have f3:=Xn c (x*2 ^ s%au) hcB (Nat.mod_lt _ cV)
   rw [g1] at f3
   have g4:x*2 ^ s/au<au:=by
     have h2:2 ^ s<=2 ^ 32:=Nat.pow_le_pow_right (by decide) (by omega)
     have:(2:Nat) ^ 32=au:=rfl
     omega
   have f4:IntKind.u32.wrap ((x*2 ^ s/au:Nat):Int)=((x*2 ^ s/au:Nat):Int):=by rw [uQ,Nat.mod_eq_of_lt g4]
   have iA:=cB (q:=4::p) (t:=false) (show i<ah m+1 by omega)
   have Xp:=cB (q:=4::p) (t:=false) (show i+1<ah m+1 by omega)
   obtain ⟨k,hk⟩:∃ k,ah m-i=k+1:=⟨ah m-i-1,by omega⟩
   have Bd:ah m-(i+1)=k:=by omega
   have mU:i<(o++c::0::zs k).length:=by simp;omega
   have uI:i+1<(o++(c+x*2 ^ s%au)::0::zs k).length:=by simp;omega
   have hv':val (o++[c+x*2 ^ s%au])+au ^ (i+1)*(x*2 ^ s/au)=val ((digits m).take (i+1))*2 ^ s:=by
     rw [aE hx,cv,ho,Nat.add_mul, <- hv]
     simp only [val,Nat.mul_zero,Nat.add_zero,Nat.pow_succ]
     have e2:au ^ i*(x*2 ^ s%au)+au ^ i*(au*(x*2 ^ s/au))=au ^ i*(x*2 ^ s):=by rw [<- Nat.mul_add,Nat.mod_add_div]
     rw [Nat.mul_assoc,Nat.mul_assoc,Nat.mul_add]
     omega
   simp only [SS,Nat.reduceAdd,qD hlt,db hx,az,bm,f1,f2,iA,hk,iM]
   rw [iL (o:=o++c::0::zs k) (b:=false) (by simp [aa.put]) (um _ _ _ ho)]
   simp only [SS,Nat.reduceAdd,uQ,f3,iA]
   rw [bR (o:=o++c::0::zs k) (by simp [aa.put]) mU,fA _ _ _ _ ho]
   simp only [SS,Nat.reduceAdd,rb,nM,f4,Xp]
   rw [bR (o:=o++(c+x*2 ^ s%au)::0::zs k) (by simp [aa.put]) uI,Iy _ _ _ _ _ ho]
   simp only [SS,Nat.reduceAdd,rb]
   refine ⟨(i+1,_,o++[c+x*2 ^ s%au],x*2 ^ s/au),⟨(l7 hlt).1,by simp [ho],cw hwd (by intro z hz;simp at hz;subst hz;exact g2),g3,hv'⟩,(l7 hlt).2,Wk.forget (by simp [Fg]) (fun j => ?_) (Nat.le_refl _)⟩
   simp only [aa.put,Bd];split<;>simp
 . have ou:=dt hlt
   have e1:(digits m).take (ah m)=digits m:=List.take_of_length_le (Nat.le_refl _)
   have xM:val (o++[c])=m*2 ^ s:=by
     rw [cv,ho];simp only [val,Nat.mul_zero,Nat.add_zero]
     rw [hv,ou,e1,aI]
   have hlen:(o++[c]).length=ah m+1:=by simp [ho,ou]
   have e:pad (ah m+1) (m*2 ^ s)=o++[c]:=by
     rw [<- xM, <- hlen]
     exact x8 (cw hwd (by intro z hz;simp at hz;subst hz;exact hcB))
   have e3:zs (ah m-i)=[]:=by rw [ou,Nat.sub_self];rfl
   simp only [SS,Nat.reduceAdd,tE hlt,e,e3]
   exact aS▸aA rfl fun i => .inr rfl
end
end Go.VL
end

section
set_option linter.unusedVariables false
namespace Go.VL
theorem zm {x y s:Nat} (hs:s<=32) (hx:x<au):(x/2 ^ s) ||| ((y*2 ^ (32-s))%au)=x/2 ^ s+2 ^ (32-s)*(y%2 ^ s)/\x/2 ^ s+2 ^ (32-s)*(y%2 ^ s)<au/\2 ^ s*(x/2 ^ s+2 ^ (32-s)*(y%2 ^ s))+x%2 ^ s=x+au*(y%2 ^ s):=by
 have hB:=sV hs
 have e:(y*2 ^ (32-s))%au=2 ^ (32-s)*(y%2 ^ s):=by rw [<- hB,Nat.mul_comm y,Nat.mul_mod_mul_left]
 have hlt:y%2 ^ s<2 ^ s:=Nat.mod_lt _ (Nat.two_pow_pos _)
 have hd:x/2 ^ s<2 ^ (32-s):=by rw [Nat.div_lt_iff_lt_mul (Nat.two_pow_pos _),hB];exact hx
 have h1:2 ^ (32-s)*(y%2 ^ s+1)<=2 ^ (32-s)*2 ^ s:=Nat.mul_le_mul_left _ hlt
 rw [Nat.mul_add,hB] at h1
 refine ⟨?_,by omega, ?_⟩
 . rw [e,Nat.or_comm, <- Nat.two_pow_add_eq_or_of_lt hd,Nat.add_comm]
 . have h2:=Nat.div_add_mod x (2 ^ s)
   have h3:2 ^ s*(2 ^ (32-s)*(y%2 ^ s))=au*(y%2 ^ s):=by rw [<- Nat.mul_assoc,Nat.mul_comm (2 ^ s),hB]
   rw [Nat.mul_add,h3];omega
theorem Xq (x s:Nat) (hs:s<=32):bo .shr .int (.int .u32 (x:Int)) (.int .i64 (s:Int))=some (.int .u32 ((x/2 ^ s:Nat):Int)):=by
 rw [qZ (by omega)]
 have h2:min (s:Int).toNat IntKind.u32.bits=s:=by
   show min (s:Int).toNat 32=s
   rw [Int.toNat_natCast];omega
 have h3:(x:Int).fdiv (2 ^ s)=((x/2 ^ s:Nat):Int):=by
   have h4:(2:Int) ^ s=((2 ^ s:Nat):Int):=by rw [Int.natCast_pow];rfl
   rw [h4,Int.fdiv_eq_ediv_of_nonneg _ (Int.natCast_nonneg _)]
   exact (Int.natCast_ediv _ _).symm
 rw [h2,h3]
theorem wj (m:Nat):((digits m)[0]?).getD 0=m%au:=by
 by_cases h:m=0
 . rw [h,bq];rfl
 . rw [iY h];rfl
section
variable {P:Program} {G:Nat->Option (List AV)}
theorem Er {f:FuncId} (h:Has P f iH) (m s:Nat) (hm:ah m<=1000000) (hs:s<=31) :
   VP P G f [W m, .int .i64 (s:Int)] (.sl 1 (us (pad (ah m) (m/2 ^ s)))):=by
 refine VP.has h ?_
 have xh:∀ p:Id,kX p 1 4 (.int .u32 0) (.int .i64 (ah m:Int)) (.int .i64 (ah m:Int))=some { val := .osl p 1 0 (ah m) false,up:=[(p,some ⟨us (List.replicate (ah m) 0),1,false⟩)] }:=fun p=>mD (by omega)
 have hz:us (List.replicate (ah m) 0)=us ([]++zs (ah m-0)):=rfl
 have adh:IntKind.i64.wrap (32-(s:Int))=((32-s:Nat):Int):=by rw [IntKind.wrap_i64];omega
 have h2s:2 ^ s*2 ^ (32-s)=au:=by rw [Nat.mul_comm];exact sV (by omega)
 simp only [iH,SS,Nat.reduceAdd,bh,xh,hz,aC]
 refine VW.bJ (α := Nat × Nat × List Nat) (fun x=>⟨[W m, .int .i64 (s:Int), .top, .top, .top, .osl [3] 1 0 (ah m) false]++List.replicate 5 .top++[W m, .int .i64 (ah m), .int .i64 x.1]++List.replicate 33 .top,
   aa.put (fun _=>none) [3] (some ⟨us (x.2.2++zs (ah m-x.1)),1,false⟩),x.2.1⟩)
   (fun x=>x.1<=ah m/\x.2.2.length=x.1/\Wd x.2.2/\2 ^ s*val x.2.2+m%2 ^ s=val ((digits m).take x.1)+au ^ x.1*(((digits m)[x.1]?).getD 0%2 ^ s)) (fun x=>ah m-x.1) (0,8,[]) ?_ ?_ ?_
 . exact Wk.slots (by simp [Fg,List.replicate]) (Nat.le_refl _)
 . refine ⟨Nat.zero_le _,rfl,by intro w hw;simp at hw, ?_⟩
   show 2 ^ s*val []+m%2 ^ s=val ((digits m).take 0)+au ^ 0*(((digits m)[0]?).getD 0%2 ^ s)
   rw [wj, <- h2s,Nat.mod_mul_right_mod]
   simp [val]
 rintro ⟨i,nn,o⟩ ⟨hi,ho,hwd,hv⟩
 simp only [] at hi ho hwd hv
 have qD:i<ah m->decide ((i:Int)<(ah m:Int))=true:=fun h=>ao (by omega)
 have tE : ¬ i<ah m->decide ((i:Int)<(ah m:Int))=false:=fun h=>ak (by omega)
 have Iv:i+1<ah m->decide (((i+1:Nat):Int)<(ah m:Int))=true:=fun h=>ao (by omega)
 have Iw : ¬ i+1<ah m->decide (((i+1:Nat):Int)<(ah m:Int))=false:=fun h=>ak (by omega)
 have dt : ¬ i<ah m->i=ah m:=by omega
 have Xr:i<ah m -> ¬ i+1<ah m->i+1=ah m:=by omega
 have rb:=aq i (by omega)
 have l7:i<ah m->i+1<=ah m/\ah m-(i+1)<ah m-i:=fun h=>by omega
 simp only [SS]
 by_cases hlt:i<ah m
 . obtain ⟨x,hx⟩:∃ x,(digits m)[i]? = some x:=⟨_,List.getElem?_eq_getElem hlt⟩
   have qE:=aO m x (List.mem_of_getElem? hx)
   have f2:=Xq x s (by omega)
   have iA:=cB (q:=[3]) (t:=false) hlt
   obtain ⟨k,hk⟩:∃ k,ah m-i=k+1:=⟨ah m-i-1,by omega⟩
   have Bd:ah m-(i+1)=k:=by omega
   have mU:i<(o++0::zs k).length:=by simp;omega
   have uI:i<(o++(x/2 ^ s)::zs k).length:=by simp;omega
   have hstep:∀ y w,w=x/2 ^ s+2 ^ (32-s)*(y%2 ^ s)->2 ^ s*w+x%2 ^ s=x+au*(y%2 ^ s)->((digits m)[i+1]?).getD 0=y ->
       2 ^ s*val (o++[w])+m%2 ^ s=val ((digits m).take (i+1))+au ^ (i+1)*(((digits m)[i+1]?).getD 0%2 ^ s):=by
     intro y w _ hw hy
     rw [hx,Option.getD_some] at hv
     rw [aE hx,cv,ho,hy]
     simp only [val,Nat.mul_zero,Nat.add_zero,Nat.pow_succ]
     have e1:au ^ i*(2 ^ s*w)+au ^ i*(x%2 ^ s)=au ^ i*x+au ^ i*(au*(y%2 ^ s)):=by rw [<- Nat.mul_add,hw,Nat.mul_add]
     have e2:2 ^ s*(val o+au ^ i*w)=2 ^ s*val o+au ^ i*(2 ^ s*w):=by rw [Nat.mul_add,Nat.mul_left_comm]
     rw [e2,Nat.mul_assoc]
     omega
   by_cases hn:i+1<ah m
   . obtain ⟨y,hy⟩:∃ y,(digits m)[i+1]? = some y:=⟨_,List.getElem?_eq_getElem hn⟩
     have AR:=aO m y (List.mem_of_getElem? hy)
     have f1:=bn y AR
     have f3:=QC y (32-s) (by omega) AR
     obtain ⟨g1,g2,g3⟩:=zm (y:=y) (s:=s) (by omega) qE
     have f4:=Xn (x/2 ^ s) (y*2 ^ (32-s)%au) (Nat.lt_of_le_of_lt (Nat.div_le_self _ _) qE) (Nat.mod_lt _ cV)
     rw [g1] at f4
     have hv':=hstep y _ rfl g3 (by rw [hy];rfl)
     simp only [SS,Nat.reduceAdd,qD hlt,db hx,az,bm,f2,iA,hk,iM]
     rw [bR (o:=o++0::zs k) (by simp [aa.put]) mU,fA _ _ _ _ ho]
     simp only [SS,DD,Nat.reduceAdd,rb,bh,Iv hn,iA]
     rw [iL (o:=o++(x/2 ^ s)::zs k) (b:=false) (by simp [aa.put]) (um _ _ _ ho)]
     simp only [SS,DD,Nat.reduceAdd,rb,db hy,az,bm,f1,adh,f3,uQ,f4,iA]
     rw [bR (o:=o++(x/2 ^ s)::zs k) (by simp [aa.put]) uI,fA _ _ _ _ ho]
     simp only [SS,DD,Nat.reduceAdd,rb]
     refine ⟨by simp [ar], ?_⟩
     refine ⟨(i+1,_,o++[x/2 ^ s+2 ^ (32-s)*(y%2 ^ s)]),⟨(l7 hlt).1,by simp [ho],cw hwd (by intro z hz;simp at hz;subst hz;exact g2),hv'⟩,(l7 hlt).2,Wk.forget (by simp [Fg]) (fun j => ?_) (Nat.le_refl _)⟩
     simp only [aa.put,Bd];split<;>simp
   . have yE:(digits m)[i+1]? = none:=List.getElem?_eq_none (by have:=Xr hlt hn;show ah m<=i+1;omega)
     obtain ⟨g1,g2,g3⟩:=zm (y:=0) (s:=s) (by omega) qE
     have e0:x/2 ^ s+2 ^ (32-s)*(0%2 ^ s)=x/2 ^ s:=by simp
     rw [e0] at g2 g3
     have hv':=hstep 0 (x/2 ^ s) e0.symm g3 (by rw [yE];rfl)
     simp only [SS,Nat.reduceAdd,qD hlt,db hx,az,bm,f2,iA,hk,iM]
     rw [bR (o:=o++0::zs k) (by simp [aa.put]) mU,fA _ _ _ _ ho]
     simp only [SS,Nat.reduceAdd,rb,bh,Iw hn]
     refine ⟨(i+1,_,o++[x/2 ^ s]),⟨(l7 hlt).1,by simp [ho],cw hwd (by intro z hz;simp at hz;subst hz;exact g2),hv'⟩,(l7 hlt).2,Wk.forget (by simp [Fg]) (fun j => ?_) (Nat.le_refl _)⟩
     simp only [aa.put,Bd];split<;>simp
 . have ou:=dt hlt
   have e1:(digits m).take (ah m)=digits m:=List.take_of_length_le (Nat.le_refl _)
   have yE:(digits m)[ah m]? = none:=List.getElem?_eq_none (Nat.le_refl _)
   have xM:val o=m/2 ^ s:=by
     rw [ou,e1,aI,yE] at hv
     have h1:=Nat.div_add_mod m (2 ^ s)
     have h2:2 ^ s*val o=2 ^ s*(m/2 ^ s):=by
       simp at hv;omega
     exact Nat.eq_of_mul_eq_mul_left (Nat.two_pow_pos _) h2
   have hlen:o.length=ah m:=by rw [ho,ou]
   have e:pad (ah m) (m/2 ^ s)=o:=by rw [<- xM, <- hlen];exact x8 hwd
   have e3:zs (ah m-i)=[]:=by rw [ou,Nat.sub_self];rfl
   simp only [SS,Nat.reduceAdd,tE hlt,e,e3]
   exact ag▸Dd (b:=false) rfl (by simp [aa.put]) hlen.symm
end
end Go.VL
end

section
set_option linter.unusedVariables false
namespace Go.VL
theorem Ch (k n c:Nat):pad k (n+au ^ k*c)=pad k n:=by
 induction k generalizing n with
 | zero=>rfl
 | succ k ih =>
   have e:au ^ (k+1)*c=au*(au ^ k*c):=by rw [Nat.pow_succ,Nat.mul_comm (au ^ k),Nat.mul_assoc]
   simp only [pad]
   rw [e,Nat.add_mul_mod_self_left,Nat.add_mul_div_left _ _ cV,ih]
theorem nX {q:Id} {off len i:Nat} {t:Bool} (h:i<len):br 1 (.osl q 1 off len t) (.int .i64 (i:Int))=some (.ref q (off+i) 0):=by
 simp only [br]
 rw [if_pos ⟨trivial,by omega,by omega⟩]
 simp
theorem Fo {x k:Nat} (hx:x<au) (hk:k<=au):∃ w c':Nat,w<au/\c'<=1/\w+k=x+au*c'/\IntKind.u32.wrap (IntKind.u64.wrap ((x:Int)-(k:Int)))=(w:Int) /\
   bo .shr .int (.int .u64 (IntKind.u64.wrap ((x:Int)-(k:Int)))) (.int .u64 63)=some (.int .u64 (c':Int)):=by
 have BN:∀ a:Int,bo .shr .int (.int .u64 a) (.int .u64 63)=some (.int .u64 (a/9223372036854775808)):=fun a=>by
   rw [qZ (by decide)]
   show some (AV.int .u64 (a.fdiv (2 ^ 63)))=_
   rw [Int.fdiv_eq_ediv_of_nonneg _ (by decide)];rfl
 rw [BN]
 unfold au at *
 by_cases h:k<=x
 . refine ⟨x-k,0,by omega,by omega,by omega, ?_, ?_⟩
   . rw [IntKind.wrap_u32,IntKind.wrap_u64];omega
   . rw [IntKind.wrap_u64];congr 2;omega
 . refine ⟨x+4294967296-k,1,by omega,by omega,by omega, ?_, ?_⟩
   . rw [IntKind.wrap_u32,IntKind.wrap_u64];omega
   . rw [IntKind.wrap_u64];congr 2;omega
theorem zn {b:List Nat} {k:Nat} (h:b.length=k):val (b.take k)=val b:=by rw [List.take_of_length_le (Nat.le_of_eq h)]
theorem Fp {i j:Id} {b c:dC} {d:Option dC}:(aa.of [(i,b)]).put i d j=(aa.of [(i,c)]).put i d j:=by
 by_cases h:j=i
 . subst h;rw [aa.a8,aa.a8]
 . rw [aa.bg _ _ _ h,aa.bg _ _ _ h]
   have:(j==i)=false:=by simpa using h
   simp [aa.of,List.lookup,this]
section
variable {P:Program} {G:Nat->Option (List AV)}
theorem IA {f:FuncId} (h:Has P f j4) {id:Id} {a b t:List Nat} {v q:Nat} {tight:Bool} (hv:ah v<=1000000) (hb:b.length=ah v+1) (Ci:Wd b) (hq:q<au) (p:Id) :
   aB P G f [.osl id 1 a.length (ah v+1) tight,W v, .int .u64 (q:Int)] p [(id,⟨us (a++b++t),1,false⟩)]
     { val := .bool (decide (val b<q*v)),rd:=[id],up:=[(id,some ⟨us (a++pad (ah v+1) (val b+au ^ (ah v+1)-q*v)++t),1,false⟩)] }:=by
 refine aB.has h ?_
 simp only [j4,SS,Nat.reduceAdd,bh,aC]
 refine VW.bJ (α := Nat × Nat × List Nat × Nat) (fun x=>⟨[.osl id 1 a.length (ah v+1) tight,W v, .int .u64 (q:Int), .top, .top, .top, .top, .int .u64 (x.2.2.2:Int)]++List.replicate 5 .top++[W v, .int .i64 (ah v), .int .i64 x.1]++List.replicate 47 .top,
   aa.of [(id,⟨us ((a++x.2.2.1)++(b.drop x.1++t)),1,false⟩)],x.2.1⟩)
   (fun x=>x.1<=ah v/\x.2.2.1.length=x.1/\Wd x.2.2.1/\x.2.2.2<=au/\val x.2.2.1+val ((digits v).take x.1)*q=val (b.take x.1)+au ^ x.1*x.2.2.2) (fun x=>ah v-x.1) (0,5,[],0) ?_ ?_ ?_
 . exact Wk.forget (by simp [Fg,List.replicate]) (fun j=>by simp) (Nat.le_refl _)
 . exact ⟨Nat.zero_le _,rfl,by intro w hw;simp at hw,Nat.zero_le _,by simp [val]⟩
 rintro ⟨i,nn,o,k⟩ ⟨hi,ho,hwd,hk,hv'⟩
 simp only [] at hi ho hwd hk hv'
 have qD:i<ah v->decide ((i:Int)<(ah v:Int))=true:=fun h=>ao (by omega)
 have tE : ¬ i<ah v->decide ((i:Int)<(ah v:Int))=false:=fun h=>ak (by omega)
 have dt : ¬ i<ah v->i=ah v:=by omega
 have rb:=aq i (by omega)
 have l7:i<ah v->i+1<=ah v/\ah v-(i+1)<ah v-i:=fun h=>by omega
 have Xh:i<b.length:=by omega
 have iA:=nX (q:=id) (off:=a.length) (t:=tight) (show i<ah v+1 by omega)
 obtain ⟨x,hx⟩:∃ x,b[i]? = some x:=⟨_,List.getElem?_eq_getElem Xh⟩
 have qE:=Ci x (List.mem_of_getElem? hx)
 have ZZ:b.drop i=x::b.drop (i+1):=by
   obtain ⟨_,h2⟩:=List.getElem?_eq_some_iff.1 hx
   rw [List.drop_eq_getElem_cons Xh,h2]
 have f1:=bn x qE
 have QD:(a++o).length=a.length+i:=by rw [List.length_append,ho]
 have mU:a.length+i<((a++o)++x::(b.drop (i+1)++t)).length:=by rw [List.length_append,QD];simp
 simp only [SS]
 by_cases hlt:i<ah v
 . obtain ⟨y,hy⟩:∃ y,(digits v)[i]? = some y:=⟨_,List.getElem?_eq_getElem hlt⟩
   have AR:=aO v y (List.mem_of_getElem? hy)
   have f2:=bn y AR
   have f3:=MD y q AR hq
   have hle:=Kq AR hq
   have f4:=oO (y*q) k (by unfold au at hk;omega)
   have f5:IntKind.u64.wrap (((y*q+k)%au:Nat):Int)=(((y*q+k)%au:Nat):Int):=bn _ (Nat.mod_lt _ cV)
   obtain ⟨w,c',h1,h2,h3,h4,h5⟩:=Fo (k:=(y*q+k)%au) qE (Nat.le_of_lt (Nat.mod_lt _ cV))
   have hdq:(y*q+k)/au+1<=au:=by unfold au at hk ⊢;omega
   have f6:=oO ((y*q+k)/au) c' (by unfold au at hdq ⊢;omega)
   have Zh:(y*q+k)/au+c'<=au:=by omega
   have hst:w+y*q+k=x+au*((y*q+k)/au+c'):=by
     have:=Nat.mod_add_div (y*q+k) au
     rw [Nat.mul_add];omega
   have QE:=mL (va:=val (b.take i)) (vb:=val ((digits v).take i)*q) ho (by rw [hv'];omega) hst
   simp only [SS,Nat.reduceAdd,qD hlt,db hy,az,bm,f2,f3,f4,iA,ZZ]
   rw [iL (o:=(a++o)++x::(b.drop (i+1)++t)) (b:=false) (by simp [aa.of]) (um _ _ _ QD)]
   simp only [SS,Nat.reduceAdd,f1,uQ,f5,h4,iA]
   rw [bR (o:=(a++o)++x::(b.drop (i+1)++t)) (by simp [aa.of]) mU,fA _ _ _ _ QD]
   simp only [SS,Nat.reduceAdd,nM,h5,f6,rb]
   refine ⟨(i+1,_,o++[w],(y*q+k)/au+c'),⟨(l7 hlt).1,by simp [ho],cw hwd (by intro z hz;simp at hz;subst hz;exact h1),Zh, ?_⟩,(l7 hlt).2,Wk.forget (by simp [Fg]) (fun j => ?_) (Nat.le_refl _)⟩
   . show val (o++[w])+val ((digits v).take (i+1))*q=_
     rw [aE hx,aE hy,Nat.add_mul,Nat.mul_assoc];exact QE
   . simp only [aa.put,aa.of];split<;>simp_all
 . have ou:=dt hlt
   subst ou
   obtain ⟨w,c',h1,h2,h3,h4,h5⟩:=Fo (k:=k) qE hk
   have B9:b.drop (ah v+1)=[]:=List.drop_eq_nil_of_le (by omega)
   have e1:(digits v).take (ah v)=digits v:=List.take_of_length_le (Nat.le_refl _)
   have e2:val (b.take (ah v+1))=val b:=zn hb
   have QE:=mL (va:=val (b.take (ah v))) (vb:=val ((digits v).take (ah v))*q) (y:=0) (c:=k) (w:=w) (c':=c') (x:=x) ho (by rw [hv'];omega) (by omega)
   rw [e1,aI, <- aE hx,e2,Nat.mul_zero,Nat.add_zero,Nat.mul_comm v q] at QE
   have Uh:Wd (o++[w]):=cw hwd (by intro z hz;simp at hz;subst hz;exact h1)
   have uV:(o++[w]).length=ah v+1:=by simp [ho]
   have rA:val (o++[w])<au ^ (ah v+1):=by have:=lC Uh;rwa [uV] at this
   have e:pad (ah v+1) (val b+au ^ (ah v+1)-q*v)=o++[w]/\decide ((c':Int)=1)=decide (val b<q*v):=by
     rcases Nat.le_one_iff_eq_zero_or_eq_one.1 h2 with h0 | h0
     . rw [h0] at QE ⊢
       refine ⟨?_, ?_⟩
       . have:val b+au ^ (ah v+1)-q*v=val (o++[w])+au ^ (ah v+1)*1:=by omega
         rw [this,Ch, <- uV];exact x8 Uh
       . rw [ak (show ¬ val b<q*v by omega)];rfl
     . rw [h0] at QE ⊢
       refine ⟨?_, ?_⟩
       . have:val b+au ^ (ah v+1)-q*v=val (o++[w]):=by omega
         rw [this, <- uV];exact x8 Uh
       . rw [ao (show val b<q*v by omega)];rfl
   simp only [SS,Nat.reduceAdd,tE hlt,bh,iA,ZZ]
   rw [iL (o:=(a++o)++x::(b.drop (ah v+1)++t)) (b:=false) (by simp [aa.of]) (um _ _ _ QD)]
   simp only [SS,Nat.reduceAdd,f1,h4,iA,bh]
   rw [bR (o:=(a++o)++x::(b.drop (ah v+1)++t)) (by simp [aa.of]) mU,fA _ _ _ _ QD,B9]
   simp only [SS,Nat.reduceAdd,h5,e.2,e.1]
   have e5:a++(o++[w])++t=a++o++w::t:=by simp
   refine aS▸aA rfl fun i => .inr ?_
   simp only [aa.app,e5];exact Fp
end
end Go.VL
end

section
set_option linter.unusedVariables false
namespace Go.VL
section
variable {P:Program} {G:Nat->Option (List AV)}
theorem Ku {f:FuncId} (h:Has P f kQ) {id:Id} {a b t:List Nat} {v:Nat} {tight:Bool} (hv:ah v<=1000000) (hb:b.length=ah v+1) (Ci:Wd b) (p:Id) :
   aB P G f [.osl id 1 a.length (ah v+1) tight,W v] p [(id,⟨us (a++b++t),1,false⟩)]
     { val := .tup [],rd:=[id],up:=[(id,some ⟨us (a++pad (ah v+1) (val b+v)++t),1,false⟩)] }:=by
 refine aB.has h ?_
 simp only [kQ,SS,Nat.reduceAdd,bh,aC]
 refine VW.bJ (α := Nat × Nat × List Nat × Nat) (fun x=>⟨[.osl id 1 a.length (ah v+1) tight,W v, .top, .top, .int .u64 (x.2.2.2:Int)]++List.replicate 2 .top++[W v, .int .i64 (ah v), .int .i64 x.1]++List.replicate 31 .top,
   aa.of [(id,⟨us ((a++x.2.2.1)++(b.drop x.1++t)),1,false⟩)],x.2.1⟩)
   (fun x=>x.1<=ah v/\x.2.2.1.length=x.1/\Wd x.2.2.1/\x.2.2.2<=1/\val x.2.2.1+au ^ x.1*x.2.2.2=val (b.take x.1)+val ((digits v).take x.1)) (fun x=>ah v-x.1) (0,4,[],0) ?_ ?_ ?_
 . exact Wk.forget (by simp [Fg,List.replicate]) (fun j=>by simp) (Nat.le_refl _)
 . exact ⟨Nat.zero_le _,rfl,by intro w hw;simp at hw,Nat.zero_le _,by simp [val]⟩
 rintro ⟨i,nn,o,k⟩ ⟨hi,ho,hwd,hk,hv'⟩
 simp only [] at hi ho hwd hk hv'
 have qD:i<ah v->decide ((i:Int)<(ah v:Int))=true:=fun h=>ao (by omega)
 have tE : ¬ i<ah v->decide ((i:Int)<(ah v:Int))=false:=fun h=>ak (by omega)
 have dt : ¬ i<ah v->i=ah v:=by omega
 have rb:=aq i (by omega)
 have l7:i<ah v->i+1<=ah v/\ah v-(i+1)<ah v-i:=fun h=>by omega
 have Xh:i<b.length:=by omega
 have iA:=nX (q:=id) (off:=a.length) (t:=tight) (show i<ah v+1 by omega)
 obtain ⟨x,hx⟩:∃ x,b[i]? = some x:=⟨_,List.getElem?_eq_getElem Xh⟩
 have qE:=Ci x (List.mem_of_getElem? hx)
 have ZZ:b.drop i=x::b.drop (i+1):=by
   obtain ⟨_,h2⟩:=List.getElem?_eq_some_iff.1 hx
   rw [List.drop_eq_getElem_cons Xh,h2]
 have f1:=bn x qE
 have QD:(a++o).length=a.length+i:=by rw [List.length_append,ho]
 have mU:a.length+i<((a++o)++x::(b.drop (i+1)++t)).length:=by rw [List.length_append,QD];simp
 simp only [SS]
 by_cases hlt:i<ah v
 . obtain ⟨y,hy⟩:∃ y,(digits v)[i]? = some y:=⟨_,List.getElem?_eq_getElem hlt⟩
   have AR:=aO v y (List.mem_of_getElem? hy)
   have f2:=bn y AR
   have f3:=oO x y (by unfold au at qE AR;omega)
   have f4:=oO k (x+y) (by unfold au at qE AR;omega)
   have Zh:(k+(x+y))/au<=1:=by unfold au at qE AR ⊢;omega
   have QE:=mi (x:=x) (y:=y) (s:=k+(x+y)) ho hv' (by omega)
   simp only [SS,Nat.reduceAdd,qD hlt,db hy,az,bm,iA,ZZ]
   rw [iL (o:=(a++o)++x::(b.drop (i+1)++t)) (b:=false) (by simp [aa.of]) (um _ _ _ QD)]
   simp only [SS,Nat.reduceAdd,f1,f2,f3,f4,uQ,iA]
   rw [bR (o:=(a++o)++x::(b.drop (i+1)++t)) (by simp [aa.of]) mU,fA _ _ _ _ QD]
   simp only [SS,Nat.reduceAdd,nM,rb]
   refine ⟨(i+1,_,o++[(k+(x+y))%au],(k+(x+y))/au),⟨(l7 hlt).1,by simp [ho],ot hwd _,Zh, ?_⟩,(l7 hlt).2,Wk.forget (by simp [Fg]) (fun j => ?_) (Nat.le_refl _)⟩
   . show val (o++[(k+(x+y))%au])+au ^ (i+1)*((k+(x+y))/au)=_
     rw [aE hx,aE hy];exact QE
   . simp only [aa.put,aa.of];split<;>simp_all
 . have ou:=dt hlt
   subst ou
   have B9:b.drop (ah v+1)=[]:=List.drop_eq_nil_of_le (by omega)
   have e1:(digits v).take (ah v)=digits v:=List.take_of_length_le (Nat.le_refl _)
   have e2:val (b.take (ah v+1))=val b:=zn hb
   have QE:=mi (x:=x) (y:=0) (s:=k+x) ho hv' (by omega)
   rw [e1,aI, <- aE hx,e2] at QE
   simp only [Nat.mul_zero,Nat.add_zero] at QE
   have f5:IntKind.u32.wrap (k:Int)=(k:Int):=by rw [uQ,Nat.mod_eq_of_lt (by unfold au;omega)]
   have f6:IntKind.u32.wrap ((x:Int)+(k:Int))=(((k+x)%au:Nat):Int):=by rw [IntKind.wrap_u32];unfold au;omega
   have Uh:Wd (o++[(k+x)%au]):=ot hwd _
   have uV:(o++[(k+x)%au]).length=ah v+1:=by simp [ho]
   have e:pad (ah v+1) (val b+v)=o++[(k+x)%au]:=by
     rw [<- QE,Ch, <- uV];exact x8 Uh
   simp only [SS,Nat.reduceAdd,tE hlt,bh,iA,ZZ]
   rw [iL (o:=(a++o)++x::(b.drop (ah v+1)++t)) (b:=false) (by simp [aa.of]) (um _ _ _ QD)]
   simp only [SS,Nat.reduceAdd,f5,f6,iA]
   rw [bR (o:=(a++o)++x::(b.drop (ah v+1)++t)) (by simp [aa.of]) mU,fA _ _ _ _ QD,B9]
   simp only [SS,Nat.reduceAdd,e]
   have e5:a++(o++[(k+x)%au])++t=a++o++(k+x)%au::t:=by simp
   refine Iq▸aA rfl fun i => .inr ?_
   simp only [aa.app,e5];exact Fp
end
end Go.VL
end

section
set_option linter.unusedVariables false
namespace Go.VL
def lens:List UInt8:=[0,1,2,2,3,3,3,3,4,4,4,4,4,4,4,4,5,5,5,5,5,5,5,5,5,5,5,5,5,5,5,5,6,6,6,6,6,6,6,6,6,6,6,6,6,6,6,6,6,6,6,6,6,6,6,6,6,6,6,6,6,6,6,6,7,7,7,7,7,7,7,7,7,7,7,7,7,7,7,7,7,7,7,7,7,7,7,7,7,7,7,7,7,7,7,7,7,7,7,7,7,7,7,7,7,7,7,7,7,7,7,7,7,7,7,7,7,7,7,7,7,7,7,7,7,7,7,7,8,8,8,8,8,8,8,8,8,8,8,8,8,8,8,8,8,8,8,8,8,8,8,8,8,8,8,8,8,8,8,8,8,8,8,8,8,8,8,8,8,8,8,8,8,8,8,8,8,8,8,8,8,8,8,8,8,8,8,8,8,8,8,8,8,8,8,8,8,8,8,8,8,8,8,8,8,8,8,8,8,8,8,8,8,8,8,8,8,8,8,8,8,8,8,8,8,8,8,8,8,8,8,8,8,8,8,8,8,8,8,8,8,8,8,8,8,8,8,8,8,8,8,8,8,8,8,8]
def len8 (v:Nat):Nat:=((lens[v]?).getD 0).toNat
def iN (x:Nat):Nat :=
 if 65536<=x then (if 256<=x/65536 then 24+len8 (x/65536/256) else 16+len8 (x/65536)) else (if 256<=x then 8+len8 (x/256) else len8 x)
set_option maxRecDepth 100000 in
theorem QF {v:Nat} (h:v<256):lens[v]? = some ((lens[v]?).getD 0):=by
 have:v<lens.length:=h
 rw [List.getElem?_eq_getElem this];rfl
theorem zo (v:Nat):len8 v<256:=(((lens[v]?).getD 0)).toNat_lt
set_option maxRecDepth 100000 in
theorem QG:(List.range 256).all (fun v=>v==0||(decide (v<2 ^ len8 v)&&decide (2 ^ len8 v<=2*v)))=true:=by decide
theorem zp {v:Nat} (h:v<256) (h0:0<v):v<2 ^ len8 v/\2 ^ len8 v<=2*v:=by
 have:=List.all_eq_true.1 QG v (List.mem_range.2 h)
 simp only [Bool.or_eq_true,Bool.and_eq_true,beq_iff_eq,decide_eq_true_eq] at this
 rcases this with h1 | h1
 . omega
 . exact h1
theorem x9 {x a k j:Nat} (he:a=x/2 ^ j) (h:a<2 ^ k/\2 ^ k<=2*a):x<2 ^ (j+k)/\2 ^ (j+k)<=2*x:=by
 subst he
 have hp:=Nat.two_pow_pos j
 refine ⟨?_, ?_⟩
 . have:=(Nat.div_lt_iff_lt_mul hp).1 h.1
   rwa [Nat.pow_add,Nat.mul_comm]
 . have h1:=Nat.mul_le_mul_left (2 ^ j) h.2
   have h2:=Nat.mul_div_le x (2 ^ j)
   rw [Nat.pow_add,Nat.mul_left_comm] at *
   omega
theorem zr {x:Nat} (h:x<au) (h0:0<x):x<2 ^ iN x/\2 ^ iN x<=2*x:=by
 unfold au at h
 unfold iN
 by_cases h1:65536<=x
 . by_cases h2:256<=x/65536
   . rw [if_pos h1,if_pos h2]
     exact x9 (j:=24) (a:=x/65536/256) (by rw [Nat.div_div_eq_div_mul]) (zp (by omega) (by omega))
   . rw [if_pos h1,if_neg h2]
     exact x9 (j:=16) (a:=x/65536) rfl (zp (by omega) (by omega))
 . by_cases h2:256<=x
   . rw [if_neg h1,if_pos h2]
     exact x9 (j:=8) (a:=x/256) rfl (zp (by omega) (by omega))
   . rw [if_neg h1,if_neg h2]
     exact zp (by omega) h0
section
variable {P:Program} {G:Nat->Option (List AV)}
set_option maxRecDepth 100000 in
theorem QH {f:FuncId} (h:Has P f np) (x:Nat) (hx:x<au):VP P G f [.int .u32 (x:Int)] (.int .i64 (iN x:Int)):=by
 refine VP.has h ?_
 have s16:bo .shr .int (.int .u32 (x:Int)) (.int .u64 16)=some (.int .u32 ((x/65536:Nat):Int)):=by
   rw [qZ (by decide)]
   have:(x:Int).fdiv (2 ^ (min (16:Int).toNat IntKind.u32.bits))=((x/65536:Nat):Int):=by
     show (x:Int).fdiv (2 ^ 16)=_
     rw [Int.fdiv_eq_ediv_of_nonneg _ (by decide)];omega
   rw [this]
 have s8:∀ y:Nat,bo .shr .int (.int .u32 (y:Int)) (.int .u64 8)=some (.int .u32 ((y/256:Nat):Int)):=fun y=>by
   rw [qZ (by decide)]
   have:(y:Int).fdiv (2 ^ (min (8:Int).toNat IntKind.u32.bits))=((y/256:Nat):Int):=by
     show (y:Int).fdiv (2 ^ 8)=_
     rw [Int.fdiv_eq_ediv_of_nonneg _ (by decide)];omega
   rw [this]
 have w8:∀ y:Nat,y<256->IntKind.u8.wrap (y:Int)=(y:Int):=fun y h=>by rw [IntKind.wrap_u8'];omega
 have wl:∀ y:Nat,IntKind.i64.wrap ((len8 y:Nat):Int)=((len8 y:Nat):Int):=fun y=>by have:=zo y;rw [IntKind.wrap_i64];omega
 have QI:∀ (p:Id) (σ : aa) (y:Nat),y<256->b8 σ p (.indexS (.str [0,1,2,2,3,3,3,3,4,4,4,4,4,4,4,4,5,5,5,5,5,5,5,5,5,5,5,5,5,5,5,5,6,6,6,6,6,6,6,6,6,6,6,6,6,6,6,6,6,6,6,6,6,6,6,6,6,6,6,6,6,6,6,6,7,7,7,7,7,7,7,7,7,7,7,7,7,7,7,7,7,7,7,7,7,7,7,7,7,7,7,7,7,7,7,7,7,7,7,7,7,7,7,7,7,7,7,7,7,7,7,7,7,7,7,7,7,7,7,7,7,7,7,7,7,7,7,7,8,8,8,8,8,8,8,8,8,8,8,8,8,8,8,8,8,8,8,8,8,8,8,8,8,8,8,8,8,8,8,8,8,8,8,8,8,8,8,8,8,8,8,8,8,8,8,8,8,8,8,8,8,8,8,8,8,8,8,8,8,8,8,8,8,8,8,8,8,8,8,8,8,8,8,8,8,8,8,8,8,8,8,8,8,8,8,8,8,8,8,8,8,8,8,8,8,8,8,8,8,8,8,8,8,8,8,8,8,8,8,8,8,8,8,8,8,8,8,8,8,8,8,8,8,8,8,8]) (.int .u8 (y:Int)))=some { val := .int .u8 ((len8 y:Nat):Int) }:=fun p σ y h=>by
   show b8 σ p (.indexS (.str lens) (.int .u8 (y:Int)))=_
   rw [xQ,if_pos (by omega),Int.toNat_natCast,QF h];rfl
 have hB:x<4294967296:=hx
 simp only [np]
 by_cases h1:65536<=x
 . have d1:decide ((65536:Int)<=(x:Int))=true:=ao (by omega)
   by_cases h2:256<=x/65536
   . have d2:decide ((256:Int)<=((x/65536:Nat):Int))=true:=ao (by omega)
     have hb:x/65536/256<256:=by omega
     have e:iN x=24+len8 (x/65536/256):=by unfold iN;rw [if_pos h1,if_pos h2]
     have e1:IntKind.i64.wrap ((16:Int)+8)=24:=by rw [IntKind.wrap_i64];omega
     have e2:IntKind.i64.wrap ((24:Int)+((len8 (x/65536/256):Nat):Int))=((24+len8 (x/65536/256):Nat):Int):=by have:=zo (x/65536/256);rw [IntKind.wrap_i64];omega
     simp only [SS,Nat.reduceAdd,d1,d2,s16,s8,w8 _ hb,QI _ _ _ hb,wl,e1,e2]
     rw [e];exact ag▸ab rfl (af.int _ _)
   . have d2:decide ((256:Int)<=((x/65536:Nat):Int))=false:=ak (by omega)
     have hb:x/65536<256:=by omega
     have e:iN x=16+len8 (x/65536):=by unfold iN;rw [if_pos h1,if_neg h2]
     have e2:IntKind.i64.wrap ((16:Int)+((len8 (x/65536):Nat):Int))=((16+len8 (x/65536):Nat):Int):=by have:=zo (x/65536);rw [IntKind.wrap_i64];omega
     simp only [SS,Nat.reduceAdd,d1,d2,s16,w8 _ hb,QI _ _ _ hb,wl,e2]
     rw [e];exact ag▸ab rfl (af.int _ _)
 . have d1:decide ((65536:Int)<=(x:Int))=false:=ak (by omega)
   by_cases h2:256<=x
   . have d2:decide ((256:Int)<=(x:Int))=true:=ao (by omega)
     have hb:x/256<256:=by omega
     have e:iN x=8+len8 (x/256):=by unfold iN;rw [if_neg h1,if_pos h2]
     have e1:IntKind.i64.wrap ((0:Int)+8)=8:=by rw [IntKind.wrap_i64];omega
     have e2:IntKind.i64.wrap ((8:Int)+((len8 (x/256):Nat):Int))=((8+len8 (x/256):Nat):Int):=by have:=zo (x/256);rw [IntKind.wrap_i64];omega
     simp only [SS,Nat.reduceAdd,d1,d2,s8,w8 _ hb,QI _ _ _ hb,wl,e1,e2]
     rw [e];exact ag▸ab rfl (af.int _ _)
   . have d2:decide ((256:Int)<=(x:Int))=false:=ak (by omega)
     have hb:x<256:=by omega
     have e:iN x=len8 x:=by unfold iN;rw [if_neg h1,if_neg h2]
     have e2:IntKind.i64.wrap ((0:Int)+((len8 x:Nat):Int))=((len8 x:Nat):Int):=by have:=zo x;rw [IntKind.wrap_i64];omega
     simp only [SS,Nat.reduceAdd,d1,d2,w8 _ hb,QI _ _ _ hb,wl,e2]
     rw [e];exact ag▸ab rfl (af.int _ _)
theorem Ui {f fl:FuncId} (h:Has P f (hP fl)) (hl:∀ x,x<au->VP P G fl [.int .u32 ((x:Nat):Int)] (.int .i64 (iN x:Int))) (x:Nat) (hx:x<au) (h0:0<x):VP P G f [.int .u32 (x:Int)] (.int .i64 ((32-iN x:Nat):Int)):=by
 refine VP.has h ?_
 have hb:iN x<=32:=by
   have h1:=(zr hx h0).2
   have h2:2 ^ iN x<2 ^ 33:=by unfold au at hx;omega
   have:=(Nat.pow_lt_pow_iff_right (by decide:1<2)).1 h2
   omega
 have e:IntKind.i64.wrap ((32:Int)-((iN x:Nat):Int))=((32-iN x:Nat):Int):=by rw [IntKind.wrap_i64];omega
 simp only [hP,SS,Nat.reduceAdd]
 refine aj (hl x hx) (by simp [af.int]) ?_
 simp only [SS,Nat.reduceAdd,e]
 exact ag▸ab rfl (af.int _ _)
end
end Go.VL
end

section
set_option linter.unusedVariables false
namespace Go.VL
section
variable {P:Program} {G:Nat->Option (List AV)}
theorem Fq {f:FuncId} (h:Has P f aY) {es:List AV} (hk:∀ e∈es,e.size=1) (h1:(es.all fun e=>e.cells.all AV.one)=true) (hp:∀ c∈flat es,af c) (hl:es.length*4<=140737488355328):VP P G f [.sl 1 es] (.sl 1 es):=by
 refine VP.has h ?_
 have hb:∀ (σ : aa) (p:Id),b8 σ p (.buildSl 1 0 (.int .u32 0) [])=some { val := .tsl 1 [] }:=fun σ p=>Ub rfl rfl
 cases es with
 | nil =>
   simp only [aY,SS,Nat.reduceAdd]
   refine ⟨?_, ?_⟩
   . exact ag▸⟨.nils,rfl,View.nils 1⟩
   . simp only [SS,Nat.reduceAdd,hb,eY eX]
     exact ag▸⟨_,rfl,View.PS 1⟩
 | cons e es =>
   simp only [aY,SS,Nat.reduceAdd,hb]
   rw [gS (es:=[]) eX (by simp) (by simpa using hl) (cK (by simp at hl ⊢;omega)) (by simpa using h1)]
   simp only [SS,Nat.reduceAdd]
   refine ag▸⟨_,rfl,View.osl (bk:=⟨e::es,1,false⟩) rfl rfl (by simp) ?_ (by simp) hk⟩
   simpa using aW.pure hp
theorem Fs {f:FuncId} (h:Has P f aY) (n:Nat) (hn:ah n<=1000000):VP P G f [W n] (W n) :=
 Fq h (wO _) (AQ _) (sU _) (by rw [dD];show ah n*4<=_;omega)
end
end Go.VL
end

section
set_option linter.unusedVariables false
namespace Go.VL
theorem Dk (z:Int):jD (decide (z<0)) z.natAbs=z:=by
 unfold jD
 by_cases h:z<0
 . simp only [h,decide_true,if_true];omega
 . simp only [h,decide_false,Bool.false_eq_true,if_false];omega
theorem MF (z:Int):jD (!decide (z<0)) z.natAbs = -z:=by
 unfold jD
 by_cases h:z<0
 . simp only [h,decide_true,Bool.not_true,Bool.false_eq_true,if_false];omega
 . simp only [h,decide_false,Bool.not_false,if_true];omega
theorem MG (y z:Int):jD (!(decide (y<0)==decide (z<0))) (y.natAbs*z.natAbs)=y*z:=by
 rw [<- Int.natAbs_mul]
 unfold jD
 by_cases h:y<0<;>by_cases h2:z<0
 . have:=Int.mul_pos_of_neg_of_neg h h2
   simp [h,h2];omega
 . have h3:y*z<=0:=Int.mul_nonpos_of_nonpos_of_nonneg (by omega) (by omega)
   simp [h,h2];omega
 . have h3:y*z<=0:=Int.mul_nonpos_of_nonneg_of_nonpos (by omega) (by omega)
   simp [h,h2];omega
 . have h3:0<=y*z:=Int.mul_nonneg (by omega) (by omega)
   simp [h,h2];omega
theorem cx:((AV.cells (.agg [(.bool false), .nils])).all AV.one=true)=True:=by simp [AV.cells,AV.one]
theorem gy (σ : aa) (id:Id) (k:Nat) (z:Int):eL (σ.put id (some ⟨[.agg [.bool false, .nils]],k,false⟩)) 2 (.ref id 0 0) (IV z)=some { val := .tup [],rd:=[id],up:=[(id,some ⟨[IV z],k,false⟩)] }:=by
 rw [cA (n:=2) (v:=IV z) (els:=[.agg [.bool false, .nils]]) (k:=k) (aa.a8 _ _ _) rfl rfl (by simp [AV.size,AV.cells]) rfl]
 rfl
section
variable {P:Program} {G:Nat->Option (List AV)}
theorem qm {ft:FuncId} (ht:gU P G ft) (n:Nat) (hn:ah n<=9223372036854775807):VP P G ft [W n] (W n):=by
 have:=ht (digits n) (aO n) hn
 rw [aI] at this;exact this
def jh (P:Program) (G:Nat->Option (List AV)) (f:FuncId):Prop:=∀ (neg:Bool) (n:Nat),ah n<=9223372036854775807->VP P G f [.bool neg,W n] (IV (jD neg n))
theorem Kv {f ft:FuncId} (h:Has P f (lL ft)) (ht:gU P G ft):jh P G f:=fun neg n hn=>by
 have:=NT h ht neg (aO n) hn
 rw [aI] at this;exact this
theorem Uj {f ft:FuncId} (h:Has P f (p5 ft)) (ht:gU P G ft) (z:Int) (hz:ah z.natAbs<=1000000):VP P G f [IV z] (.int .i64 z.sign):=by
 refine VP.has h ?_
 have hl:ah z.natAbs=0↔z=0:=by rw [bE];omega
 simp only [p5,SS,Nat.reduceAdd,ia,ae,iu]
 refine aj (qm ht z.natAbs (by omega)) (by simp [aJ]) ?_
 simp only [SS,Nat.reduceAdd,bh]
 by_cases h0:z=0
 . have d0:decide ((ah z.natAbs:Int)=0)=true:=ao (by have:=hl.2 h0;omega)
   simp only [SS,Nat.reduceAdd,d0]
   rw [h0]
   exact ag▸ab rfl (af.int _ _)
 . have d0:decide ((ah z.natAbs:Int)=0)=false:=ak (by have:=fun e=>h0 (hl.1 e);omega)
   by_cases hn:z<0
   . have d1:decide (z<0)=true:=ao hn
     simp only [SS,Nat.reduceAdd,d0,ae,jI,d1]
     rw [Int.sign_eq_neg_one_of_neg hn]
     exact ag▸ab rfl (af.int _ _)
   . have d1:decide (z<0)=false:=ak hn
     simp only [SS,Nat.reduceAdd,d0,ae,jI,d1]
     rw [Int.sign_eq_one_of_pos (by omega)]
     exact ag▸ab rfl (af.int _ _)
theorem nY (n:Nat) (hn:n<18446744073709551616):ah n<=2:=jg (by unfold au;omega)
theorem Kw {f fu fs:FuncId} (h:Has P f (nj fu fs)) (hu:∀ n,n<18446744073709551616->VP P G fu [.int .u64 ((n:Nat):Int)] (W n)) (hs:jh P G fs) (a:Int) (h1 : -9223372036854775808<=a) (h2:a<9223372036854775808):VP P G f [.int .i64 a] (IV a):=by
 refine VP.has h ?_
 have hsz:=nY a.natAbs (by omega)
 have l8:=hs (decide (a<0)) a.natAbs (by omega)
 rw [Dk] at l8
 have JW:=hu a.natAbs (by omega)
 simp only [nj,SS,Nat.reduceAdd,cx]
 by_cases hn:a<0
 . have d1:decide (a<0)=true:=ao hn
   rw [d1] at l8
   have e1:IntKind.u64.wrap (0-(IntKind.u64.wrap a))=(a.natAbs:Int):=by rw [IntKind.wrap_u64,IntKind.wrap_u64];omega
   simp only [SS,Nat.reduceAdd,d1,e1]
   refine aj JW (by simp [af.int]) ?_
   simp only [SS,Nat.reduceAdd]
   refine aj l8 (by simp [af.bool,aJ]) ?_
   simp only [SS,Nat.reduceAdd,gy]
   refine ag▸ab (r:=IV a) ?_ (aF _)
   simp only [RS,bP,cu,ae];rfl
 . have d1:decide (a<0)=false:=ak hn
   rw [d1] at l8
   have e1:IntKind.u64.wrap a=(a.natAbs:Int):=by rw [IntKind.wrap_u64];omega
   simp only [SS,Nat.reduceAdd,d1,e1]
   refine aj JW (by simp [af.int]) ?_
   simp only [SS,Nat.reduceAdd]
   refine aj l8 (by simp [af.bool,aJ]) ?_
   simp only [SS,Nat.reduceAdd,gy]
   refine ag▸ab (r:=IV a) ?_ (aF _)
   simp only [RS,bP,cu,ae];rfl
theorem Xs {f ft fc fs:FuncId} (h:Has P f (rK ft fc fs)) (ht:gU P G ft) (hc:∀ n,ah n<=1000000->VP P G fc [W n] (W n)) (hs:jh P G fs) (z:Int) (hz:ah z.natAbs<=1000000):VP P G f [IV z] (IV (-z)):=by
 refine VP.has h ?_
 have l8:=hs (!decide (z<0)) z.natAbs (by omega)
 rw [MF] at l8
 simp only [rK,SS,DD,Nat.reduceAdd,ia,cx,ai (show ([0]:List Nat)≠[1] by decide),ae,jI,iu]
 refine ax (qm ht z.natAbs (by omega)) (by simp [aJ]) ?_
 simp only [SS,DD,Nat.reduceAdd]
 refine ax (hc z.natAbs hz) (by simp [aJ]) ?_
 simp only [SS,DD,Nat.reduceAdd]
 refine ax l8 (by simp [af.bool,aJ]) ?_
 simp only [SS,DD,Nat.reduceAdd,gy]
 refine ⟨by simp [ar,apart], ?_⟩
 refine ag▸ab (r:=IV (-z)) ?_ (aF _)
 simp only [RS,bP,cu,ae];rfl
theorem Xt {f ft fm fs:FuncId} (h:Has P f (rL ft fm fs)) (ht:gU P G ft) (hm:∀ m n,ah m<=1000000->ah n<=1000000->VP P G fm [W m,W n] (W (m*n))) (hs:jh P G fs) (y z:Int) (hy:ah y.natAbs<=1000000) (hz:ah z.natAbs<=1000000):VP P G f [IV y,IV z] (IV (y*z)):=by
 refine VP.has h ?_
 have l8:=hs (!(decide (y<0)==decide (z<0))) (y.natAbs*z.natAbs) (by have:=ql y.natAbs z.natAbs;omega)
 rw [MG] at l8
 simp only [rL,SS,DD,Nat.reduceAdd,ia,cx,ai (show ([0]:List Nat)≠[1] by decide),ai (show ([0]:List Nat)≠[2] by decide),ai (show ([1]:List Nat)≠[2] by decide),ae,jI,iu]
 refine ax (qm ht y.natAbs (by omega)) (by simp [aJ]) ?_
 simp only [SS,DD,Nat.reduceAdd,ai (show ([1]:List Nat)≠[2] by decide),ae,iu]
 refine ax (qm ht z.natAbs (by omega)) (by simp [aJ]) ?_
 simp only [SS,DD,Nat.reduceAdd]
 refine ax (hm y.natAbs z.natAbs hy hz) (by simp [aJ]) ?_
 simp only [SS,DD,Nat.reduceAdd]
 refine ax l8 (by simp [af.bool,aJ]) ?_
 simp only [SS,DD,Nat.reduceAdd,gy]
 refine ⟨by simp [ar,apart], ?_⟩
 refine ag▸ab (r:=IV (y*z)) ?_ (aF _)
 simp only [RS,bP,cu,ae];rfl
end
end Go.VL
end

section
set_option linter.unusedVariables false
namespace Go.VL
theorem qn (a b:Int):iZ a b = -1/\a<b∨iZ a b=0/\a=b∨iZ a b=1/\b<a:=by
 unfold iZ
 by_cases h1:a<b
 . simp [h1]
 . by_cases h2:b<a
   . simp [h1,h2]
   . right;left;simp [h1,h2];omega
theorem mE (z:Int):z.sign = -1/\z<0∨z.sign=0/\z=0∨z.sign=1/\0<z:=by
 rcases Int.lt_trichotomy z 0 with h | h | h
 . exact .inl ⟨Int.sign_eq_neg_one_of_neg h,h⟩
 . exact .inr (.inl ⟨by rw [h];rfl,h⟩)
 . exact .inr (.inr ⟨Int.sign_eq_one_of_pos h,h⟩)
theorem NW {y z:Int} (h:y.sign≠z.sign):iZ y.sign z.sign=iZ y z:=by
 rcases qn y z with ⟨e,c⟩ | ⟨e,c⟩ | ⟨e,c⟩<;>rcases qn y.sign z.sign with ⟨e2,c2⟩ | ⟨e2,c2⟩ | ⟨e2,c2⟩<;>rcases mE y with ⟨s,p⟩ | ⟨s,p⟩ | ⟨s,p⟩<;>rcases mE z with ⟨s2,p2⟩ | ⟨s2,p2⟩ | ⟨s2,p2⟩<;>omega
theorem Uk {y z:Int} (h:y.sign=z.sign):y.sign*gp y.natAbs z.natAbs=iZ y z:=by
 unfold gp
 rcases qn y z with ⟨e,c⟩ | ⟨e,c⟩ | ⟨e,c⟩<;>rcases qn (y.natAbs:Int) (z.natAbs:Int) with ⟨e2,c2⟩ | ⟨e2,c2⟩ | ⟨e2,c2⟩<;>rcases mE y with ⟨s,p⟩ | ⟨s,p⟩ | ⟨s,p⟩<;>rcases mE z with ⟨s2,p2⟩ | ⟨s2,p2⟩ | ⟨s2,p2⟩<;>rw [s,e2,e]<;>omega
section
variable {P:Program} {G:Nat->Option (List AV)}
theorem Xu {f Z0 fci ft fc:FuncId} (h:Has P f (rJ Z0 fci ft fc)) (IB:∀ z:Int,ah z.natAbs<=1000000->VP P G Z0 [IV z] (.int .i64 z.sign)) (hci:∀ a b:Int,VP P G fci [.int .i64 a, .int .i64 b] (.int .i64 (iZ a b))) (ht:gU P G ft)
   (hc:∀ m n,ah m<=1000000->ah n<=1000000->VP P G fc [W m,W n] (.int .i64 (gp m n))) (y z:Int) (hy:ah y.natAbs<=1000000) (hz:ah z.natAbs<=1000000):VP P G f [IV y,IV z] (.int .i64 (iZ y z)):=by
 refine VP.has h ?_
 simp only [rJ,SS,DD,Nat.reduceAdd,ia,ai (show ([0]:List Nat)≠[1] by decide),ae,cp]
 refine ax (IB y hy) (by simp [aF]) ?_
 simp only [SS,DD,Nat.reduceAdd,ae,cp]
 refine ax (IB z hz) (by simp [aF]) ?_
 simp only [SS,DD,Nat.reduceAdd]
 refine ⟨by simp [ar,apart], ?_⟩
 by_cases hs:y.sign=z.sign
 . have d0:decide (y.sign≠z.sign)=false:=ak (by simpa using hs)
   have e1:IntKind.i64.wrap (y.sign*gp y.natAbs z.natAbs)=iZ y z:=by
     rw [Uk hs,IntKind.wrap_i64]
     rcases qn y z with ⟨e,_⟩ | ⟨e,_⟩ | ⟨e,_⟩<;>rw [e]<;>omega
   simp only [SS,DD,Nat.reduceAdd,d0,ai (show ([0]:List Nat)≠[1] by decide),ae,iu]
   refine ax (qm ht y.natAbs (by omega)) (by simp [aJ]) ?_
   simp only [SS,DD,Nat.reduceAdd,ae,iu]
   refine ax (qm ht z.natAbs (by omega)) (by simp [aJ]) ?_
   simp only [SS,DD,Nat.reduceAdd]
   refine ax (hc y.natAbs z.natAbs hy hz) (by simp [aJ]) ?_
   simp only [SS,DD,Nat.reduceAdd,e1]
   refine ⟨by simp [ar,apart], ?_⟩
   exact ag▸ab rfl (af.int _ _)
 . have d0:decide (y.sign≠z.sign)=true:=ao hs
   simp only [SS,Nat.reduceAdd,d0]
   refine aj (hci y.sign z.sign) (by simp [af.int]) ?_
   simp only [SS,Nat.reduceAdd]
   rw [NW hs]
   exact ag▸ab rfl (af.int _ _)
end
end Go.VL
end

section
set_option linter.unusedVariables false
namespace Go.VL
def RV (a b:Int):AV := .agg [.bool (decide (a<0)),W a.natAbs, .bool (decide (b<0)),W b.natAbs]
theorem fB (a b:Int):af (RV a b):=af.agg (by intro c hc;simp at hc;rcases hc with rfl | rfl | rfl | rfl;exact af.bool _;exact aJ _;exact af.bool _;exact aJ _)
theorem ya (a b:Int):((RV a b).cells.all AV.one=true)=True:=by simp [RV,AV.cells,AV.one,W]
theorem nz (a b:Int):part true (RV a b).cells 0 2=some (IV a):=rfl
theorem mj (a b:Int):part true (RV a b).cells 2 2=some (IV b):=rfl
theorem mM:((AV.cells (.agg [(.bool false), .nils,(.bool false), .nils])).all AV.one=true)=True:=by simp [AV.cells,AV.one]
theorem IC (σ : aa) (id:Id) (k:Nat) (a b:Int):eL (σ.put id (some ⟨[.agg [.bool false, .nils, .bool false, .nils]],k,false⟩)) 4 (.ref id 0 0) (RV a b)=some { val := .tup [],rd:=[id],up:=[(id,some ⟨[RV a b],k,false⟩)] }:=by
 rw [cA (n:=4) (v:=RV a b) (els:=[.agg [.bool false, .nils, .bool false, .nils]]) (k:=k) (aa.a8 _ _ _) rfl rfl (by simp [AV.size,AV.cells]) rfl]
 rfl
theorem pH (a b:Int):py [.bool false, .nils, .bool false, .nils] [(0,(2,IV a)),(2,(2,IV b))]=some [.bool (decide (a<0)),W a.natAbs, .bool (decide (b<0)),W b.natAbs]:=rfl
section
variable {P:Program} {G:Nat->Option (List AV)}
theorem Xv {f fi:FuncId} (h:Has P f (p9 fi)) (hi:VP P G fi [.int .i64 1] (IV 1)):VP P G f [] (IV 1):=by
 refine VP.has h ?_
 simp only [p9,SS,Nat.reduceAdd,cx]
 refine aj hi (by simp [af.int]) ?_
 simp only [SS,Nat.reduceAdd,gy]
 refine ag▸ab (r:=IV 1) ?_ (aF _)
 simp only [RS,bP,cu,ae];rfl
theorem ID {f fi fo:FuncId} (h:Has P f (mB fi fo)) (a:Int) (hi:VP P G fi [.int .i64 a] (IV a)) (ho:VP P G fo [] (IV 1)):VP P G f [.int .i64 a] (RV a 1):=by
 refine VP.has h ?_
 have e:(AV.agg [.bool (decide (a<0)),W a.natAbs, .bool (decide ((1:Int)<0)),W (1:Int).natAbs])=RV a 1:=rfl
 simp only [mB,SS,Nat.reduceAdd,mM]
 refine aj hi (by simp [af.int]) ?_
 simp only [SS,Nat.reduceAdd]
 refine aj ho (by simp) ?_
 simp only [SS,Nat.reduceAdd,pH,e,IC]
 refine ag▸ab (r:=RV a 1) ?_ (fB _ _)
 simp only [RS,bP,cu,ae];rfl
theorem IE {f fi:FuncId} (h:Has P f (mw fi)) (a b:Int) (hi:VP P G fi [IV a] (.int .i64 a.sign)):VP P G f [RV a b] (.int .i64 a.sign):=by
 refine VP.has h ?_
 simp only [mw,SS,Nat.reduceAdd,ya,ae,nz]
 refine aj hi (by simp [aF]) ?_
 simp only [SS,Nat.reduceAdd]
 exact ag▸ab rfl (af.int _ _)
theorem QJ {f:FuncId} (h:Has P f nW) (z:Int):VP P G f [IV z] (.bool (decide (z=1))):=by
 refine VP.has h ?_
 have hl:ah z.natAbs=1->∃ w,digits z.natAbs=[w]:=fun h=>List.length_eq_one_iff.1 h
 have h11:ah 1=1:=by unfold ah;rw [iY (by decide),show 1/au=0 from rfl,bq];rfl
 simp only [nW,SS,Nat.reduceAdd,ia,ae,jI]
 by_cases hn:z<0
 . have d0:decide (z<0)=true:=ao hn
   have e:decide (z=1)=false:=ak (by omega)
   simp only [SS,Nat.reduceAdd,d0,e]
   exact ag▸ab rfl (af.bool _)
 . have d0:decide (z<0)=false:=ak hn
   by_cases h1:ah z.natAbs=1
   . have d1:decide ((ah z.natAbs:Int)=1)=true:=ao (by omega)
     obtain ⟨w,hw⟩:=hl h1
     have hg:(digits z.natAbs)[0]? = some w:=by rw [hw];rfl
     have QI:br 1 (W z.natAbs) (.int .i64 0)=some (.ep (AV.int .u32 (w:Int)).cells 0):=aQ (i:=0) rfl (r9 hg)
     have hv:z.natAbs=w:=by have:=aI z.natAbs;rw [hw] at this;simp [val] at this;omega
     have e:decide ((w:Int)=1)=decide (z=1):=by congr 1;apply propext;omega
     simp only [SS,Nat.reduceAdd,d0,ae,iu,bh,d1,QI,az,bm,e]
     exact ag▸ab rfl (af.bool _)
   . have d1:decide ((ah z.natAbs:Int)=1)=false:=ak (by omega)
     have e:decide (z=1)=false:=ak (by intro e;rw [e] at h1;exact h1 h11)
     simp only [SS,Nat.reduceAdd,d0,ae,iu,bh,d1,e]
     exact ag▸ab rfl (af.bool _)
end
end Go.VL
end

section
set_option linter.unusedVariables false
namespace Go.VL
theorem bB {σ : aa} {id:Id} {k:Nat} {z:Int} {y:AV} (hs:y.size=2) (hu:y.upd 0 (IV z).cells=IV z) (h : σ id=some ⟨[y],k,false⟩):eL σ 2 (.ref id 0 0) (IV z)=some { val := .tup [],rd:=[id],up:=[(id,some ⟨[IV z],k,false⟩)] }:=by
 rw [cA (n:=2) (v:=IV z) h rfl rfl (by rw [hs];exact Nat.le_refl _) rfl]
 simp [hu]
theorem sc (y z:Int):(IV y).upd 0 (IV z).cells=IV z:=rfl
theorem jJ (z:Int):(AV.agg [.bool false, .nils]).upd 0 (IV z).cells=IV z:=rfl
theorem Ul {σ : aa} {id:Id} {k:Nat} {z:Int} {b:Bool} (h : σ id=some ⟨[IV z],k,b⟩):gh σ true 2 (.ref id 0 0)=some { val:=IV z,rd:=[id] }:=by
 rw [mK h (el:=IV z) rfl,cp];rfl
theorem qo {α : Type} {a b c : α}:[a,b,c][0]? = some a:=rfl
theorem qp {α : Type} {a b c : α}:[a,b,c][1]? = some b:=rfl
theorem qq {α : Type} {a b c : α}:[a,b,c][2]? = some c:=rfl
section
variable {P:Program} {G:Nat->Option (List AV)}
theorem Xw {f fo fd:FuncId} (h:Has P f (qa fo fd)) (a b:Int) (ho:VP P G fo [IV b] (.bool (decide (b=1)))) (hd:VP P G fd [IV a,IV b] (.tup [IV (a.fdiv b),IV (a.fmod b), .int .i64 0])):VP P G f [IV a,IV b] (IV (a.fdiv b)):=by
 refine VP.has h ?_
 simp only [qa,SS,Nat.reduceAdd,ia,cx,ai (show ([1]:List Nat)≠[2] by decide),ae,cp]
 refine aj ho (by simp [aF]) ?_
 by_cases h1:b=1
 . have d1:decide (b=1)=true:=ao h1
   have e:a.fdiv b=a:=by rw [h1,Int.fdiv_one]
   simp only [SS,Nat.reduceAdd,d1,ai (show ([0]:List Nat)≠[2] by decide),ai (show ([0]:List Nat)≠[1] by decide),ae,cp]
   rw [bB (k:=(AV.agg [.bool false, .nils]).size) (y := .agg [.bool false, .nils]) rfl (jJ _) (by simp [aa.put])]
   simp only [SS,Nat.reduceAdd,e]
   refine ag▸ab (r:=IV a) ?_ (aF _)
   simp only [RS,bP,cu,ae];rfl
 . have d1:decide (b=1)=false:=ak h1
   simp only [SS,Nat.reduceAdd,d1,ai (show ([0]:List Nat)≠[2] by decide),ai (show ([0]:List Nat)≠[1] by decide),ai (show ([1]:List Nat)≠[2] by decide),ae,cp]
   refine aj hd (by simp [aF]) ?_
   simp only [SS,Nat.reduceAdd,cx,qo,qp,qq]
   rw [bB (k:=(AV.agg [.bool false, .nils]).size) (y := .agg [.bool false, .nils]) rfl (jJ _) (by simp [aa.put])]
   simp only [SS,Nat.reduceAdd]
   rw [bB (k:=(AV.agg [.bool false, .nils]).size) (y := .agg [.bool false, .nils]) rfl (jJ _) (by simp [aa.put])]
   simp only [SS,Nat.reduceAdd]
   rw [Ul (z:=a.fdiv b) (k:=(AV.agg [.bool false, .nils]).size) (b:=false) (by simp [aa.put])]
   simp only [SS,Nat.reduceAdd]
   rw [bB (k:=(AV.agg [.bool false, .nils]).size) (y := .agg [.bool false, .nils]) rfl (jJ _) (by simp [aa.put])]
   simp only [SS,Nat.reduceAdd]
   refine ag▸ab (r:=IV (a.fdiv b)) ?_ (aF _)
   simp only [RS,bP,cu,ae];rfl
end
end Go.VL
end

section
set_option linter.unusedVariables false
namespace Go.VL
def IF (a b:Int):Bool := !(decide (a<0)==decide (b<0))
def QK (a b:Int):Nat:=if IF a b=true/\0<a.natAbs%b.natAbs then a.natAbs/b.natAbs+1 else a.natAbs/b.natAbs
def QL (a b:Int):Nat:=if IF a b=true/\0<a.natAbs%b.natAbs then b.natAbs-a.natAbs%b.natAbs else a.natAbs%b.natAbs
theorem Dl:digits 1=[1]:=by rw [iY (by decide),show 1/au=0 from rfl,bq];rfl
theorem QM {id:Id} {b t:Bool}:View (aa.of [(id,⟨us [1],1,b⟩)]) (.osl id 1 0 1 t) (W 1):=by
 unfold W;rw [Dl];exact gJ rfl
theorem IG (m n:Nat):ah (m/n)<=ah m:=cP (Nat.div_le_self _ _)
theorem zt (m n:Nat):ah (m%n)<=ah m:=cP (Nat.mod_le _ _)
theorem NY (m:Nat):ah (m+1)<=ah m+1:=jg (by
 have h1:=cN m
 rw [Nat.pow_succ]
 have h2:au ^ ah m*2<=au ^ ah m*au:=Nat.mul_le_mul_left _ (by decide)
 omega)
theorem sW:ah 1<=1:=by unfold ah;rw [Dl];decide
theorem uo {α : Type} {a b : α}:[a,b][0]? = some a:=rfl
theorem uq {α : Type} {a b : α}:[a,b][1]? = some b:=rfl
section
variable {P:Program} {G:Nat->Option (List AV)}
theorem NZ {f ft fd fp fm fs:FuncId} (h:Has P f (nU ft fd fp fm fs)) (ht:gU P G ft) (hd:∀ m n,n≠0->ah m<=900000->ah n<=900000->VP P G fd [W m,W n] (.tup [W (m/n),W (m%n)]))
   (hp:∀ m n,ah m<=1000000->ah n<=1000000->VP P G fp [W m,W n] (W (m+n))) (hm:∀ m n,n<=m->ah m<=1000000->VP P G fm [W m,W n] (W (m-n))) (hs:jh P G fs) (a b:Int) (G3:b≠0) (ha:ah a.natAbs<=900000) (hb:ah b.natAbs<=900000) :
   VP P G f [IV a,IV b] (.tup [IV (jD (IF a b) (QK a b)),IV (jD (decide (b<0)) (QL a b)), .int .i64 0]):=by
 refine VP.has h ?_
 have Z1:b.natAbs≠0:=by omega
 have Ci:ah b.natAbs≠0:=fun e=>Z1 (bE.1 e)
 have d0:decide ((ah b.natAbs:Int)=0)=false:=ak (by omega)
 have w1:=IG a.natAbs b.natAbs
 have w2:=zt a.natAbs b.natAbs
 have w3:=NY (a.natAbs/b.natAbs)
 have w4:ah (b.natAbs-a.natAbs%b.natAbs)<=ah b.natAbs:=cP (Nat.sub_le _ _)
 have w5:=sW
 have PC:a.natAbs%b.natAbs<b.natAbs:=Nat.mod_lt _ (Nat.pos_of_ne_zero Z1)
 have hpv:=hp (a.natAbs/b.natAbs) 1 (by omega) (by omega)
 have MH:=hm b.natAbs (a.natAbs%b.natAbs) (Nat.le_of_lt PC) (by omega)
 have adl:0<a.natAbs%b.natAbs->decide ((0:Int)<(ah (a.natAbs%b.natAbs):Int))=true:=fun h=>ao (by
   have:ah (a.natAbs%b.natAbs)≠0:=fun e=>by have:=bE.1 e;omega
   omega)
 have Z2 : ¬ 0<a.natAbs%b.natAbs->decide ((0:Int)<(ah (a.natAbs%b.natAbs):Int))=false:=fun h=>ak (by
   have:ah (a.natAbs%b.natAbs)=0:=bE.2 (by omega)
   omega)
 have eE:([0]:List Nat)≠[1]:=by decide
 have mV:([0]:List Nat)≠[2]:=by decide
 have Xx:([0]:List Nat)≠[3]:=by decide
 have nZ:([1]:List Nat)≠[2]:=by decide
 have Tk:([1]:List Nat)≠[3]:=by decide
 have uW:∀ (q r:Nat),q=QK a b->r=QL a b->ah q<=1000000->ah r<=1000000->VP P G fs [.bool (IF a b),W q] (IV (jD (IF a b) (QK a b)))/\VP P G fs [.bool (decide (b<0)),W r] (IV (jD (decide (b<0)) (QL a b))):=fun q r hq hr h1 h2=>by
   subst hq;subst hr
   exact ⟨hs _ _ (by omega),hs _ _ (by omega)⟩
 simp only [nU,SS,Nat.reduceAdd,ia,cx,ai nZ,ai Tk,ae,iu]
 refine aj (qm ht b.natAbs (by omega)) (by simp [aJ]) ?_
 simp only [SS,Nat.reduceAdd,bh,d0,ai eE,ai mV,ai Xx,ae,iu]
 refine aj (qm ht a.natAbs (by omega)) (by simp [aJ]) ?_
 simp only [SS,Nat.reduceAdd]
 refine aj (hd a.natAbs b.natAbs Z1 ha hb) (by simp [aJ]) ?_
 simp only [SS,Nat.reduceAdd,uo,uq,ai eE,ai mV,ai Xx,ai nZ,ai Tk,ae,jI]
 have Tf:(!(decide (a<0)==decide (b<0)))=IF a b:=rfl
 simp only [Tf]
 have hbs:∀ (σ : aa) (q:Id),b8 σ q (.buildSl 1 1 (.int .u32 0) [(0, .int .u32 1)])=some { val := .osl q 1 0 1 false,up:=[(q,some ⟨us [1],1,false⟩)] }:=fun σ q=>xA (x:=1)
 have Z3:([2]:List Nat)≠[3]:=by decide
 have k0b:([0]:List Nat)≠[33]:=by decide
 have k1b:([1]:List Nat)≠[33]:=by decide
 by_cases IB:IF a b=true
 . by_cases hr:0<a.natAbs%b.natAbs
   . have d1:=adl hr
     obtain ⟨g1,g2⟩:=uW (a.natAbs/b.natAbs+1) (b.natAbs-a.natAbs%b.natAbs) (by unfold QK;rw [if_pos ⟨IB,hr⟩]) (by unfold QL;rw [if_pos ⟨IB,hr⟩]) (by omega) (by omega)
     rw [IB] at g1
     simp only [SS,Nat.reduceAdd,IB,bh,d1,hbs]
     refine cM [([33],⟨us [1],1,false⟩)] hpv (aW.cons (View.pure (aJ _)) (aW.cons QM aW.nil)) (by simp [aa.put]) ?_
     simp only [SS,Nat.reduceAdd]
     refine aj MH (by simp [aJ]) ?_
     simp only [SS,DD,Nat.reduceAdd,aa.app,rC,ai eE,ai mV,ai Xx,ai nZ,ai Tk,ai k0b,ai k1b,ae,jI,Tf,IB]
     refine ax g1 (by simp [af.bool,aJ]) ?_
     simp only [SS,DD,Nat.reduceAdd,ai nZ,ai Tk,ai k1b,ae,jI]
     refine ax g2 (by simp [af.bool,aJ]) ?_
     simp only [SS,DD,Nat.reduceAdd]
     rw [bB (k:=(AV.agg [.bool false, .nils]).size) (y := .agg [.bool false, .nils]) rfl (jJ _) (by simp [aa.put])]
     simp only [SS,DD,Nat.reduceAdd]
     rw [bB (k:=(AV.agg [.bool false, .nils]).size) (y := .agg [.bool false, .nils]) rfl (jJ _) (by simp [aa.put])]
     simp only [SS,DD,Nat.reduceAdd]
     refine ⟨by simp [ar,apart], ?_⟩
     refine ag▸ab (r := .tup [IV (jD true (QK a b)),IV (jD (decide (b<0)) (QL a b)), .int .i64 0]) ?_ (af.tup (by intro c hc;simp at hc;rcases hc with rfl | rfl | rfl;exact aF _;exact aF _;exact af.int _ _))
     simp only [RS,bP,cu,ai Z3,ae,cp]
   . have d1:=Z2 hr
     obtain ⟨g1,g2⟩:=uW (a.natAbs/b.natAbs) (a.natAbs%b.natAbs) (by unfold QK;rw [if_neg (fun e=>hr e.2)]) (by unfold QL;rw [if_neg (fun e=>hr e.2)]) (by omega) (by omega)
     rw [IB] at g1
     simp only [SS,DD,Nat.reduceAdd,IB,bh,d1]
     simp only [SS,DD,Nat.reduceAdd,aa.app,ai eE,ai mV,ai Xx,ai nZ,ai Tk,ae,jI,Tf,IB]
     refine ax g1 (by simp [af.bool,aJ]) ?_
     simp only [SS,DD,Nat.reduceAdd,ai nZ,ai Tk,ae,jI]
     refine ax g2 (by simp [af.bool,aJ]) ?_
     simp only [SS,DD,Nat.reduceAdd]
     rw [bB (k:=(AV.agg [.bool false, .nils]).size) (y := .agg [.bool false, .nils]) rfl (jJ _) (by simp [aa.put])]
     simp only [SS,DD,Nat.reduceAdd]
     rw [bB (k:=(AV.agg [.bool false, .nils]).size) (y := .agg [.bool false, .nils]) rfl (jJ _) (by simp [aa.put])]
     simp only [SS,DD,Nat.reduceAdd]
     refine ⟨by simp [ar,apart], ?_⟩
     refine ag▸ab (r := .tup [IV (jD true (QK a b)),IV (jD (decide (b<0)) (QL a b)), .int .i64 0]) ?_ (af.tup (by intro c hc;simp at hc;rcases hc with rfl | rfl | rfl;exact aF _;exact aF _;exact af.int _ _))
     simp only [RS,bP,cu,ai Z3,ae,cp]
 . have YU:IF a b=false:=by simpa using IB
   obtain ⟨g1,g2⟩:=uW (a.natAbs/b.natAbs) (a.natAbs%b.natAbs) (by unfold QK;rw [if_neg (fun e=>IB e.1)]) (by unfold QL;rw [if_neg (fun e=>IB e.1)]) (by omega) (by omega)
   rw [YU] at g1
   simp only [SS,DD,Nat.reduceAdd,YU]
   simp only [SS,DD,Nat.reduceAdd,aa.app,ai eE,ai mV,ai Xx,ai nZ,ai Tk,ae,jI,Tf,YU]
   refine ax g1 (by simp [af.bool,aJ]) ?_
   simp only [SS,DD,Nat.reduceAdd,ai nZ,ai Tk,ae,jI]
   refine ax g2 (by simp [af.bool,aJ]) ?_
   simp only [SS,DD,Nat.reduceAdd]
   rw [bB (k:=(AV.agg [.bool false, .nils]).size) (y := .agg [.bool false, .nils]) rfl (jJ _) (by simp [aa.put])]
   simp only [SS,DD,Nat.reduceAdd]
   rw [bB (k:=(AV.agg [.bool false, .nils]).size) (y := .agg [.bool false, .nils]) rfl (jJ _) (by simp [aa.put])]
   simp only [SS,DD,Nat.reduceAdd]
   refine ⟨by simp [ar,apart], ?_⟩
   refine ag▸ab (r := .tup [IV (jD false (QK a b)),IV (jD (decide (b<0)) (QL a b)), .int .i64 0]) ?_ (af.tup (by intro c hc;simp at hc;rcases hc with rfl | rfl | rfl;exact aF _;exact aF _;exact af.int _ _))
   simp only [RS,bP,cu,ai Z3,ae,cp]
end
end Go.VL
end

section
namespace Go.VL
theorem Gu {a b q r:Int} (hb:0<b) (h:a=b*q+r) (h0:0<=r) (h1:r<b):a.fdiv b=q/\a.fmod b=r:=by
 have:=(Int.ediv_emod_unique (a:=a) (b:=b) (r:=r) (q:=q) hb).2 ⟨by omega,h0,h1⟩
 rw [Int.fdiv_eq_ediv_of_nonneg _ (Int.le_of_lt hb),Int.fmod_eq_emod_of_nonneg _ (Int.le_of_lt hb)]
 exact this
theorem Xy (a b:Int):a.fdiv b=(-a).fdiv (-b)/\a.fmod b = -((-a).fmod (-b)):=by
 have h1:(-a).fdiv (-b)=a.fdiv b:=Int.neg_fdiv_neg a b
 refine ⟨h1.symm, ?_⟩
 have h2:=Int.mul_fdiv_add_fmod a b
 have h3:=Int.mul_fdiv_add_fmod (-a) (-b)
 rw [h1,Int.neg_mul] at h3
 omega
theorem Um {m n:Nat} (hn:n≠0):((m:Int).fdiv n=(m/n:Nat)/\(m:Int).fmod n=(m%n:Nat)) /\
   (m%n=0->(-(m:Int)).fdiv n = -((m/n:Nat):Int)/\(-(m:Int)).fmod n=0)/\(0<m%n->(-(m:Int)).fdiv n = -((m/n+1:Nat):Int)/\(-(m:Int)).fmod n=((n-m%n:Nat):Int)):=by
 have hlt:m%n<n:=Nat.mod_lt _ (Nat.pos_of_ne_zero hn)
 have e:(m:Int)=(n:Int)*((m/n:Nat):Int)+((m%n:Nat):Int):=by
   rw [<- Int.natCast_mul, <- Int.natCast_add,Nat.div_add_mod]
 generalize m/n=q at *
 generalize m%n=r at *
 refine ⟨Gu (by omega) e (by omega) (by omega),fun h=>Gu (by omega) ?_ (by omega) (by omega),fun h=>Gu (by omega) ?_ (by omega) (by omega)⟩
 . rw [Int.mul_neg];omega
 . rw [Int.mul_neg,Int.natCast_add,Int.mul_add];omega
theorem QN (a b:Int) (hb:b≠0):jD (IF a b) (QK a b)=a.fdiv b/\jD (decide (b<0)) (QL a b)=a.fmod b:=by
 have Z1:b.natAbs≠0:=by omega
 obtain ⟨⟨c1,c2⟩,c3,c4⟩:=Um (m:=a.natAbs) Z1
 unfold QK QL
 by_cases h1:b<0
 . have eb : -b=(b.natAbs:Int):=by omega
   obtain ⟨n1,n2⟩:=Xy a b
   rw [n1,n2,eb]
   by_cases h2:a<0
   . have ea : -a=(a.natAbs:Int):=by omega
     have hd:IF a b=false:=by simp [IF,h1,h2]
     rw [ea,c1,c2,hd]
     simp [jD,h1]
   . have ea : -a = -(a.natAbs:Int):=by omega
     have hd:IF a b=true:=by simp [IF,h1,h2]
     rw [ea,hd]
     by_cases hr:0<a.natAbs%b.natAbs
     . rw [(c4 hr).1,(c4 hr).2,if_pos ⟨rfl,hr⟩,if_pos ⟨rfl,hr⟩]
       simp [jD,h1]
     . have h0:a.natAbs%b.natAbs=0:=by omega
       rw [(c3 h0).1,(c3 h0).2,if_neg (fun e=>hr e.2),if_neg (fun e=>hr e.2),h0]
       simp [jD,h1]
 . have eb:b=(b.natAbs:Int):=by omega
   have G0:decide (b<0)=false:=ak h1
   by_cases h2:a<0
   . have ea:a = -(a.natAbs:Int):=by omega
     have hd:IF a b=true:=by simp [IF,h1,h2]
     rw [hd,G0]
     by_cases hr:0<a.natAbs%b.natAbs
     . have q1:=(c4 hr).1
       have q2:=(c4 hr).2
       rw [<- ea, <- eb] at q1 q2
       rw [q1,q2,if_pos ⟨rfl,hr⟩,if_pos ⟨rfl,hr⟩]
       exact ⟨rfl,rfl⟩
     . have h0:a.natAbs%b.natAbs=0:=by omega
       have q1:=(c3 h0).1
       have q2:=(c3 h0).2
       rw [<- ea, <- eb] at q1 q2
       rw [q1,q2,if_neg (fun e=>hr e.2),if_neg (fun e=>hr e.2),h0]
       exact ⟨rfl,rfl⟩
   . have ea:a=(a.natAbs:Int):=by omega
     have hd:IF a b=false:=by simp [IF,h1,h2]
     rw [<- ea, <- eb] at c1 c2
     rw [c1,c2,hd,G0]
     simp [jD]
end Go.VL
end

section
set_option linter.unusedVariables false
namespace Go.VL
theorem gW {σ : aa} {id:Id} {k:Nat} {a b:Int} (h : σ id=some ⟨[.agg [.bool false, .nils, .bool false, .nils]],k,false⟩):eL σ 4 (.ref id 0 0) (RV a b)=some { val := .tup [],rd:=[id],up:=[(id,some ⟨[RV a b],k,false⟩)] }:=by
 rw [cA (n:=4) (v:=RV a b) h rfl rfl (by simp [AV.size,AV.cells]) rfl]
 rfl
section
variable {P:Program} {G:Nat->Option (List AV)}
theorem N3 {f fg fn fq:FuncId} (h:Has P f (nk fg fn fq)) (a b g:Int) (hg:VP P G fg [IV a,IV b] (IV g)) (hn:VP P G fn [IV g] (IV (-g)))
   (hq:∀ x y:Int,(x=a∨x=b)->(y=g∨y = -g)->VP P G fq [IV x,IV y] (IV (x.fdiv y))):VP P G f [IV a,IV b] (RV (a.fdiv (if b<0 then -g else g)) (b.fdiv (if b<0 then -g else g))):=by
 refine VP.has h ?_
 have eE:([0]:List Nat)≠[1]:=by decide
 have mV:([0]:List Nat)≠[2]:=by decide
 have k06:([0]:List Nat)≠[6]:=by decide
 have nZ:([1]:List Nat)≠[2]:=by decide
 have k16:([1]:List Nat)≠[6]:=by decide
 simp only [nk,SS,Nat.reduceAdd,ia,mM,ai eE,ai mV,ai nZ,ae,cp]
 refine aj hg (by simp [aF]) ?_
 simp only [SS,Nat.reduceAdd,cx,gy,ai nZ,ai k16,ae,jI]
 have IH:∀ x y:Int,(AV.agg [.bool (decide (x<0)),W x.natAbs, .bool (decide (y<0)),W y.natAbs])=RV x y:=fun _ _=>rfl
 by_cases Gv:decide (b<0)=true
 . have e:(if b<0 then -g else g)=(-g):=by simp at Gv;first | exact if_pos Gv | exact if_neg (by omega)
   rw [e]
   have q1:=hq a (-g) (.inl rfl) (by simp)
   have q2:=hq b (-g) (.inr rfl) (by simp)
   simp only [SS,Nat.reduceAdd,Gv,ae,cp]
   first
     | refine aj hn (by simp [aF]) ?_
       simp only [SS,Nat.reduceAdd]
       rw [bB (k:=(AV.agg [.bool false, .nils]).size) (y:=IV g) rfl (sc _ _) (by simp [aa.put])]
       simp only [SS,DD,Nat.reduceAdd,ai eE,ai mV,ai k06,ae,cp]
     | skip
   refine ax q1 (by simp [aF]) ?_
   simp only [SS,DD,Nat.reduceAdd,ai nZ,ai k16,ae,cp]
   refine ax q2 (by simp [aF]) ?_
   simp only [SS,DD,Nat.reduceAdd,pH,IH]
   rw [gW (k:=(AV.agg [.bool false, .nils, .bool false, .nils]).size) (by simp [aa.put])]
   simp only [SS,DD,Nat.reduceAdd]
   refine ⟨by simp [ar,apart], ?_⟩
   refine ag▸ab (r:=RV (a.fdiv (-g)) (b.fdiv (-g))) ?_ (fB _ _)
   simp only [RS,bP,cu,ae]
   rfl
 by_cases Gw:decide (b<0)=false
 . have e:(if b<0 then -g else g)=g:=by simp at Gw;first | exact if_pos Gw | exact if_neg (by omega)
   rw [e]
   have q1:=hq a g (.inl rfl) (by simp)
   have q2:=hq b g (.inr rfl) (by simp)
   simp only [SS,DD,Nat.reduceAdd,Gw,ai eE,ai mV,ai k06,ae,cp]
   first
     | refine aj hn (by simp [aF]) ?_
       simp only [SS,Nat.reduceAdd,reduceIte]
       rw [bB (k:=(AV.agg [.bool false, .nils]).size) (y:=IV g) rfl (sc _ _) (by simp [aa.put])]
       simp only [SS,DD,Nat.reduceAdd,reduceIte,ai eE,ai mV,ai nZ,ai k16,ai k06,ae,cp]
     | skip
   refine ax q1 (by simp [aF]) ?_
   simp only [SS,DD,Nat.reduceAdd,ai nZ,ai k16,ae,cp]
   refine ax q2 (by simp [aF]) ?_
   simp only [SS,DD,Nat.reduceAdd,pH,IH]
   rw [gW (k:=(AV.agg [.bool false, .nils, .bool false, .nils]).size) (by simp [aa.put])]
   simp only [SS,DD,Nat.reduceAdd]
   refine ⟨by simp [ar,apart], ?_⟩
   refine ag▸ab (r:=RV (a.fdiv g) (b.fdiv g)) ?_ (fB _ _)
   simp only [RS,bP,cu,ae]
   rfl
 . exfalso;revert Gv Gw;cases decide (b<0)<;>simp
end
end Go.VL
end

section
set_option linter.unusedVariables false
namespace Go.VL
section
variable {P:Program} {G:Nat->Option (List AV)}
theorem Un {f fi fm fo fl:FuncId} (h:Has P f (qc fi fm fo fl)) (a b c d:Int) (x:AV) {x1 x2:Int} (hx:x=RV x1 x2) (hi:∀ z,VP P G fi [IV z] (.bool (decide (z=1)))) (G2:VP P G fm [IV a,IV c] (IV (a*c))) (tp:VP P G fm [IV b,IV d] (IV (b*d))) (ho:VP P G fo [] (IV 1))
   (hl:VP P G fl [IV (a*c),IV (b*d)] x):VP P G f [RV a b,RV c d] (if b=1/\d=1 then RV (a*c) 1 else x):=by
 refine VP.has h ?_
 have eE:([0]:List Nat)≠[1]:=by decide
 have mV:([0]:List Nat)≠[2]:=by decide
 have nZ:([1]:List Nat)≠[2]:=by decide
 have IH:∀ x y:Int,(AV.agg [.bool (decide (x<0)),W x.natAbs, .bool (decide (y<0)),W y.natAbs])=RV x y:=fun _ _=>rfl
 subst hx
 simp only [qc,SS,Nat.reduceAdd,ya,mM,ai eE,ai mV,ae,mj]
 refine aj (hi b) (by simp [aF]) ?_
 have Bw:∀ (h : ¬ (b=1/\d=1)),(if b=1/\d=1 then RV (a*c) 1 else RV x1 x2)=RV x1 x2:=fun h=>if_neg h
 by_cases hb:b=1
 . have d1:decide (b=1)=true:=ao hb
   simp only [SS,Nat.reduceAdd,d1,ai nZ,ae,mj]
   refine aj (hi d) (by simp [aF]) ?_
   by_cases hd:d=1
   . have d2:decide (d=1)=true:=ao hd
     rw [if_pos ⟨hb,hd⟩]
     simp only [SS,Nat.reduceAdd,d2,ai eE,ai mV,ai nZ,ae,nz]
     refine aj G2 (by simp [aF]) ?_
     simp only [SS,Nat.reduceAdd]
     refine aj ho (by simp) ?_
     simp only [SS,Nat.reduceAdd,pH,IH]
     rw [gW (k:=(AV.agg [.bool false, .nils, .bool false, .nils]).size) (by simp [aa.put])]
     simp only [SS,Nat.reduceAdd]
     refine ag▸ab (r:=RV (a*c) 1) ?_ (fB _ _)
     simp only [RS,bP,cu,ae]
     rfl
   . have d2:decide (d=1)=false:=ak hd
     rw [Bw fun e=>hd e.2]
     simp only [SS,DD,Nat.reduceAdd,d2,ai eE,ai mV,ai nZ,ae,nz]
     refine ax G2 (by simp [aF]) ?_
     simp only [SS,DD,Nat.reduceAdd,ai eE,ai mV,ai nZ,ae,mj]
     refine ax tp (by simp [aF]) ?_
     simp only [SS,DD,Nat.reduceAdd]
     refine ax hl (by simp [aF]) ?_
     simp only [SS,DD,Nat.reduceAdd]
     rw [gW (k:=(AV.agg [.bool false, .nils, .bool false, .nils]).size) (by simp [aa.put])]
     simp only [SS,DD,Nat.reduceAdd]
     refine ⟨by simp [ar,apart], ?_⟩
     refine ag▸ab (r:=RV x1 x2) ?_ (fB _ _)
     simp only [RS,bP,cu,ae]
     rfl
 . have d1:decide (b=1)=false:=ak hb
   rw [Bw fun e=>hb e.1]
   simp only [SS,DD,Nat.reduceAdd,d1,ai eE,ai mV,ai nZ,ae,nz]
   refine ax G2 (by simp [aF]) ?_
   simp only [SS,DD,Nat.reduceAdd,ai eE,ai mV,ai nZ,ae,mj]
   refine ax tp (by simp [aF]) ?_
   simp only [SS,DD,Nat.reduceAdd]
   refine ax hl (by simp [aF]) ?_
   simp only [SS,DD,Nat.reduceAdd]
   rw [gW (k:=(AV.agg [.bool false, .nils, .bool false, .nils]).size) (by simp [aa.put])]
   simp only [SS,DD,Nat.reduceAdd]
   refine ⟨by simp [ar,apart], ?_⟩
   refine ag▸ab (r:=RV x1 x2) ?_ (fB _ _)
   simp only [RS,bP,cu,ae]
   rfl
end
end Go.VL
end
