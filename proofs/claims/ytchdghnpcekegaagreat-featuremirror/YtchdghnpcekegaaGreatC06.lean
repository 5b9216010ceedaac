/- For the claim of FeatureMirror: parts CI2, CI3, CI4, CI5, CI6, CI7, CI8, CI9, CI10, CI11, CI12, CI13, CI14, CI15, CI16, CI17, CI18, FD, CI19, CI20, CI21. -/
import Derived.Test.YtchdghnpcekegaaGreatC05
import Derived.Laws.Bits64
import Derived.Laws.BitsAllLaws
set_option linter.unusedSimpArgs false
set_option linter.unusedVariables false
section
set_option linter.unusedVariables false
namespace Go.VL
def jm (a b:Int):Int:=if a<b then -1 else if b<a then 1 else 0
def fY (m n:Nat):Int:=jm m n
def IV (z:Int):AV := .agg [.bool (decide (z<0)),W z.natAbs]
def x3 (neg:Bool) (n:Nat):Int:=if neg then -(n:Int) else n
theorem aw (z:Int):aa (IV z):=aa.agg (by intro c hc;simp at hc;rcases hc with rfl | rfl;exact aa.bool _;exact aB _)
theorem gZ (z:Int):((IV z).cells.all AV.one=true)=True:=by simp [IV,AV.cells,AV.one,W]
theorem jX (z:Int):part false (IV z).cells 0 1=some (.bool (decide (z<0))):=rfl
theorem iF (z:Int):part false (IV z).cells 1 1=some (W z.natAbs):=rfl
theorem db (z:Int):part true (IV z).cells 0 2=some (IV z):=rfl
theorem g7 {id:Id} {ws:List Nat} {b t:Bool} {n:Nat} (hn:n=ws.length):View (af.of [(id,⟨us ws,1,b⟩)]) (.osl id 1 0 n t) (.sl 1 (us ws)):=by
 subst hn
 refine View.osl (bk:=⟨us ws,1,b⟩) (by simp [af.of]) rfl (by rw [gv];omega) ?_ (by rw [gv]) (C7 ws)
 rw [List.drop_zero,List.take_of_length_le (by rw [gv];exact Nat.le_refl _)]
 exact aG.pure (Ae ws)
theorem F2 {a b:List Nat} (ha:Wd a) (_hb:Wd b) (hl:a.length=b.length) {i x y:Nat} (hx:a[i]? = some x) (hy:b[i]? = some y) (hd:a.drop (i+1)=b.drop (i+1)) (hxy:x<y):val a<val b:=by
 have mY:=(List.getElem?_eq_some_iff.1 hx).1
 have hib:=(List.getElem?_eq_some_iff.1 hy).1
 have ea:a=a.take i++x::a.drop (i+1):=by
   have:=List.take_append_drop i a
   rw [List.drop_eq_getElem_cons mY] at this
   obtain ⟨_,h2⟩:=List.getElem?_eq_some_iff.1 hx
   rw [h2] at this;exact this.symm
 have eb:b=b.take i++y::b.drop (i+1):=by
   have:=List.take_append_drop i b
   rw [List.drop_eq_getElem_cons hib] at this
   obtain ⟨_,h2⟩:=List.getElem?_eq_some_iff.1 hy
   rw [h2] at this;exact this.symm
 rw [ea,eb,cv,cv, <- hd]
 have hta:(a.take i).length=i:=by rw [List.length_take];omega
 have htb:(b.take i).length=i:=by rw [List.length_take];omega
 have h1:=mO (tk ha i)
 rw [hta] at h1 ⊢
 rw [htb]
 simp only [val]
 have h2:aE ^ i*(x+1)<=aE ^ i*y:=Nat.mul_le_mul_left _ hxy
 rw [Nat.mul_add,Nat.mul_one] at h2
 rw [Nat.mul_add,Nat.mul_add]
 omega
section
variable {P:Program} {G:Nat->Option (List AV)}
theorem Ov {f:FuncId} (h:Has P f qp) (a:Int):VP P G f [.int .i64 a] (.bool false):=by
 refine VP.has h ?_
 have e:decide (a≠a)=false:=by simp
 simp only [qp,SS,Nat.reduceAdd,e]
 exact ai▸ae rfl (aa.bool _)
theorem Ow {f fn:FuncId} (h:Has P f (oD fn)) (hn:∀ a,VP P G fn [.int .i64 a] (.bool false)) (a b:Int):VP P G f [.int .i64 a, .int .i64 b] (.int .i64 (jm a b)):=by
 refine VP.has h ?_
 simp only [oD,SS,Nat.reduceAdd]
 refine ah (hn a) (by simp [aa.int]) ?_
 simp only [SS,Nat.reduceAdd]
 refine ah (hn b) (by simp [aa.int]) ?_
 unfold jm
 by_cases h1:a<b
 . simp only [SS,Nat.reduceAdd,h1,decide_true]
   exact ai▸ae rfl (aa.int _ _)
 . by_cases h2:b<a
   . simp only [SS,Nat.reduceAdd,h1,h2,decide_true,decide_false]
     exact ai▸ae rfl (aa.int _ _)
   . simp only [SS,Nat.reduceAdd,h1,h2,decide_false]
     exact ai▸ae rfl (aa.int _ _)
theorem II {f:FuncId} (h:Has P f nM) (a:Int):VP P G f [.int .u32 a] (.bool false):=by
 refine VP.has h ?_
 have e:decide (a≠a)=false:=by simp
 simp only [nM,SS,Nat.reduceAdd,e]
 exact ai▸ae rfl (aa.bool _)
theorem IJ {f fn:FuncId} (h:Has P f (lR fn)) (hn:∀ a,VP P G fn [.int .u32 a] (.bool false)) (a b:Int):VP P G f [.int .u32 a, .int .u32 b] (.int .i64 (jm a b)):=by
 refine VP.has h ?_
 simp only [lR,SS,Nat.reduceAdd]
 refine ah (hn a) (by simp [aa.int]) ?_
 simp only [SS,Nat.reduceAdd]
 refine ah (hn b) (by simp [aa.int]) ?_
 unfold jm
 by_cases h1:a<b
 . simp only [SS,Nat.reduceAdd,h1,decide_true]
   exact ai▸ae rfl (aa.int _ _)
 . by_cases h2:b<a
   . simp only [SS,Nat.reduceAdd,h1,h2,decide_true,decide_false]
     exact ai▸ae rfl (aa.int _ _)
   . simp only [SS,Nat.reduceAdd,h1,h2,decide_false]
     exact ai▸ae rfl (aa.int _ _)
def iW (P:Program) (G:Nat->Option (List AV)) (f:FuncId):Prop:=∀ ws:List Nat,Wd ws->ws.length<=9223372036854775807->VP P G f [.sl 1 (us ws)] (W (val ws))
theorem Ff {f ft:FuncId} (h:Has P f (j6 ft)) (ht:iW P G ft) (n:Nat) (hn:n<18446744073709551616):VP P G f [.int .u64 (n:Int)] (W n):=by
 refine VP.has h ?_
 have e1:IntKind.u32.wrap (n:Int)=((n%aE:Nat):Int):=by rw [IntKind.wrap_u32];unfold aE;omega
 have e2:bR .shr .int (.int .u64 (n:Int)) (.int .u64 32)=some (.int .u64 ((n/aE:Nat):Int)):=by
   rw [s7 (by decide)]
   have:(n:Int).fdiv (2 ^ (min (32:Int).toNat IntKind.u64.bits))=((n/aE:Nat):Int):=by
     show (n:Int).fdiv (2 ^ 32)=_
     rw [Int.fdiv_eq_ediv_of_nonneg _ (by decide)];unfold aE;omega
   rw [this]
 have e3:IntKind.u32.wrap ((n/aE:Nat):Int)=((n/aE:Nat):Int):=by rw [IntKind.wrap_u32];unfold aE;omega
 have hb:∀ (σ : af) (q:Id),bO σ q (.buildSl 1 2 (.int .u32 0) [(0, .int .u32 ((n%aE:Nat):Int)),(1, .int .u32 ((n/aE:Nat):Int))])=some { val := .osl q 1 0 2 false,up:=[(q,some ⟨us [n%aE,n/aE],1,false⟩)] }:=fun σ q=>b6 rfl rfl rfl rfl rfl rfl
 have hw:Wd [n%aE,n/aE]:=by intro w hw;simp at hw;rcases hw with rfl | rfl<;>unfold aE<;>omega
 have hv:val [n%aE,n/aE]=n:=by simp [val,Nat.mod_add_div]
 have Ay:=ht [n%aE,n/aE] hw (by simp)
 rw [hv] at Ay
 simp only [j6,SS,Nat.reduceAdd,e1,e2,e3,hb]
 refine bJ [([6],⟨us [n%aE,n/aE],1,false⟩)] Ay (aG.cons (g7 rfl) aG.nil) (by simp [af.put]) ?_
 simp only [SS,Nat.reduceAdd]
 exact ai▸ae rfl (aB _)
theorem Sn {f ft:FuncId} (h:Has P f (mU ft)) (ht:iW P G ft) (neg:Bool) {ws:List Nat} (hw:Wd ws) (hl:ws.length<=9223372036854775807):VP P G f [.bool neg, .sl 1 (us ws)] (IV (x3 neg (val ws))):=by
 refine VP.has h ?_
 have z1:(AV.cells (.agg [(.bool false), .nils])).all AV.one=true:=rfl
 have hlen:∀ m,qS false (W m)=some (.int .i64 (digits m).length):=fun m=>by simp [W,qS,gv]
 simp only [mU,SS,Nat.reduceAdd,z1]
 refine ah (ht ws hw hl) (by simp [C6]) ?_
 simp only [SS,Nat.reduceAdd,hlen]
 by_cases h0:val ws=0
 . have d0:decide (((digits (val ws)).length:Int)=0)=true:=ay (by rw [h0,bA];rfl)
   have e:jq [.bool false, .nils] []=some [.bool false, .nils]:=rfl
   have e2:∀ (σ : af) (id:Id) (k:Nat),fD (σ.put id (some ⟨[.agg [.bool false, .nils]],k,false⟩)) 2 (.ref id 0 0) (.agg [.bool false, .nils])=some { val := .tup [],rd:=[id],up:=[(id,some ⟨[.agg [.bool false, .nils]],k,false⟩)] }:=by
     intro σ id k
     rw [fy (n:=2) (v := .agg [.bool false, .nils]) (els:=[.agg [.bool false, .nils]]) (k:=k) (af.dE _ _ _) rfl rfl (by simp [AV.size,AV.cells]) rfl]
     rfl
   simp only [SS,Nat.reduceAdd,d0,e,e2]
   refine ai▸⟨.agg [.bool false, .nils], ?_, ?_⟩
   . simp only [RS,aX,a9,ao];rfl
   . have:IV (x3 neg (val ws)) = .agg [.bool false, .sl 1 []]:=by rw [h0];cases neg<;>simp [IV,x3,W,bA,us]
     rw [this]
     exact View.agg (aG.cons (View.pure (aa.bool _)) (aG.cons (View.nils 1) aG.nil))
 . have hne:(digits (val ws)).length≠0:=by intro e;exact h0 (nA.1 (List.length_eq_zero_iff.1 e))
   have d0:decide (((digits (val ws)).length:Int)=0)=false:=au (by omega)
   have e:jq [.bool false, .nils] [(0,(1, .bool neg)),(1,(1,W (val ws)))]=some [.bool neg,W (val ws)]:=rfl
   have e2:∀ (σ : af) (id:Id) (k:Nat),fD (σ.put id (some ⟨[.agg [.bool false, .nils]],k,false⟩)) 2 (.ref id 0 0) (.agg [.bool neg,W (val ws)])=some { val := .tup [],rd:=[id],up:=[(id,some ⟨[.agg [.bool neg,W (val ws)]],k,false⟩)] }:=by
     intro σ id k
     rw [fy (n:=2) (v := .agg [.bool neg,W (val ws)]) (els:=[.agg [.bool false, .nils]]) (k:=k) (af.dE _ _ _) rfl rfl (by simp [AV.size,AV.cells]) rfl]
     rfl
   simp only [SS,Nat.reduceAdd,d0,e,e2]
   have ei:IV (x3 neg (val ws)) = .agg [.bool neg,W (val ws)]:=by
     cases neg
     . simp only [IV,x3];simp<;>omega
     . simp only [IV,x3];simp<;>omega
   rw [ei]
   refine ai▸ae (r := .agg [.bool neg,W (val ws)]) ?_ (aa.agg (by intro c hc;simp at hc;rcases hc with rfl | rfl;exact aa.bool _;exact aB _))
   simp only [RS,aX,a9,ao];rfl
end
end Go.VL
end

section
set_option linter.unusedVariables false
namespace Go.VL
theorem Az {a b:Int} (h:a<b):jm a b = -1:=by simp [jm,h]
theorem AA {a b:Int} (h:b<a):jm a b=1:=by simp [jm,h];omega
theorem QL {a b:Int} (h:a=b):jm a b=0:=by simp [jm,h]
theorem bg (m:Nat):qS false (W m)=some (.int .i64 (ag m)):=by simp [W,qS,gv,ag]
theorem x4 {m n:Nat} (h:ag m<ag n):m<n:=by
 rcases Nat.lt_or_ge m n with h1 | h1
 . exact h1
 . have:=bE h1;omega
theorem di {m i w:Nat} (h:(digits m)[i]? = some w):cx 1 (W m) (.int .i64 (i:Int))=some (.ep (AV.int .u32 (w:Int)).cells 0):=fX rfl (xZ h)
section
variable {P:Program} {G:Nat->Option (List AV)}
theorem Ox {f fi fw:FuncId} (h:Has P f (oq fi fw)) (hi:∀ a b:Int,VP P G fi [.int .i64 a, .int .i64 b] (.int .i64 (jm a b))) (hw:∀ a b:Int,VP P G fw [.int .u32 a, .int .u32 b] (.int .i64 (jm a b)))
   (m n:Nat) (hm:ag m<9223372036854775807) (hn:ag n<9223372036854775807):VP P G f [W m,W n] (.int .i64 (fY m n)):=by
 refine VP.has h ?_
 simp only [oq,SS,Nat.reduceAdd,bg]
 by_cases hl:ag m=ag n
 case neg =>
   have d:decide ((ag m:Int)≠(ag n:Int))=true:=ay (by omega)
   simp only [SS,Nat.reduceAdd,bg,d]
   refine ah (hi _ _) (by simp [aa.int]) ?_
   simp only [SS,Nat.reduceAdd]
   have e:jm (ag m:Int) (ag n:Int)=fY m n:=by
     rcases Nat.lt_or_ge (ag m) (ag n) with h1 | h1
     . have h2:=x4 h1
       rw [Az (by omega)];unfold fY;rw [Az (by omega)]
     . have h1':ag n<ag m:=by omega
       have h2:=x4 h1'
       rw [AA (by omega)];unfold fY;rw [AA (by omega)]
   rw [e]
   exact ai▸ae rfl (aa.int _ _)
 have d:decide ((ag m:Int)≠(ag n:Int))=false:=au (by omega)
 have ew:IntKind.i64.wrap ((ag m:Int)-1)=(ag m:Int)-1:=by rw [IntKind.wrap_i64];omega
 have hd0:(digits m).drop (ag m)=(digits n).drop (ag m):=by
   have e1:(digits m).drop (ag m)=[]:=List.drop_of_length_le (Nat.le_refl _)
   have e2:(digits n).drop (ag m)=[]:=List.drop_of_length_le (by show ag n<=ag m;omega)
   rw [e1,e2]
 simp only [SS,Nat.reduceAdd,bg,d,ew,aP]
 refine VW.ey (α := Nat × Nat) (fun x=>⟨[W m,W n, .top, .top, .top, .int .i64 ((x.1:Int)-1)]++List.replicate 35 .top,fun _=>none,x.2⟩) (fun x=>x.1<=ag m/\(digits m).drop x.1=(digits n).drop x.1) (fun x=>x.1) (ag m,10) ?_
   ⟨Nat.le_refl _,hd0⟩ ?_
 . exact Wk.slots (by simp [Fg,List.replicate]) (Nat.le_refl _)
 rintro ⟨j,q⟩ ⟨hj,hd⟩
 simp only [] at hj hd
 simp only [SS,Nat.reduceAdd]
 by_cases h0:j=0
 . subst h0
   have d0:decide ((0:Int)<=((0:Nat):Int)-1)=false:=by decide
   simp only [SS,d0]
   have e:m=n:=by
     simp only [List.drop_zero] at hd
     rw [<- aV m,hd,aV]
   have e2:fY m n=0:=QL (by omega)
   rw [e2]
   exact ai▸ae rfl (aa.int _ _)
 . have ql:0<j:=Nat.pos_of_ne_zero h0
   have d0:decide ((0:Int)<=((j-1:Nat):Int))=true:=ay (by omega)
   have ej:(j:Int)-1=((j-1:Nat):Int):=by omega
   have hjm:j-1<(digits m).length:=by show j-1<ag m;omega
   have RI:j-1<(digits n).length:=by show j-1<ag n;omega
   have ew2:IntKind.i64.wrap (((j-1:Nat):Int)-1)=((j-1:Nat):Int)-1:=by rw [IntKind.wrap_i64];omega
   obtain ⟨x,hx⟩:∃ x,(digits m)[j-1]? = some x:=⟨_,List.getElem?_eq_getElem hjm⟩
   obtain ⟨y,hy⟩:∃ y,(digits n)[j-1]? = some y:=⟨_,List.getElem?_eq_getElem RI⟩
   have XE:(digits m).drop (j-1+1)=(digits n).drop (j-1+1):=by rw [show j-1+1=j from by omega];exact hd
   have hap:ab (([]:List eS)) ([]:List (Nat × Nat)):=by simp [ab]
   by_cases hxy:x=y
   . have d1:decide ((x:Int)≠(y:Int))=false:=au (by omega)
     simp only [SS,DD,Nat.reduceAdd,d0,ej,di hx,di hy,aI,bo,d1,ew2]
     refine ⟨by simp [ab],(j-1,_),⟨by simp only [];omega, ?_⟩,by simp only [];omega,Wk.slots (by simp [Fg]) (Nat.le_refl _)⟩
     simp only []
     rw [List.drop_eq_getElem_cons hjm,List.drop_eq_getElem_cons RI,XE]
     obtain ⟨_,h1⟩:=List.getElem?_eq_some_iff.1 hx
     obtain ⟨_,h2⟩:=List.getElem?_eq_some_iff.1 hy
     rw [h1,h2,hxy]
   . have d1:decide ((x:Int)≠(y:Int))=true:=ay (by omega)
     have e:jm (x:Int) (y:Int)=fY m n:=by
       rcases Nat.lt_or_ge x y with h1 | h1
       . have:=F2 (aW m) (aW n) hl hx hy XE h1
         rw [aV,aV] at this
         rw [Az (by omega)];unfold fY;rw [Az (by omega)]
       . have:=F2 (aW n) (aW m) hl.symm hy hx XE.symm (by omega)
         rw [aV,aV] at this
         rw [AA (by omega)];unfold fY;rw [AA (by omega)]
     simp only [SS,DD,Nat.reduceAdd,d0,ej,di hx,di hy,aI,bo,d1]
     refine ⟨by simp [ab], ?_⟩
     refine ak (hw _ _) (by simp [aa.int]) ?_
     simp only [SS,DD,Nat.reduceAdd,e]
     refine ⟨by simp [ab], ?_⟩
     exact ai▸ae rfl (aa.int _ _)
end
end Go.VL
end

section
set_option linter.unusedVariables false
namespace Go.VL
theorem C8 {o:List Nat} (h:Wd o) (Fv:o=[]∨aE ^ (o.length-1)<=val o):digits (val o)=o:=by
 refine nV h ?_
 rcases Fv with h0 | Fv
 . exact .inl h0
 . by_cases h0:o=[]
   . exact .inl h0
   . right
     refine ⟨o.getLast h0,List.getLast?_eq_some_getLast h0,fun hz => ?_⟩
     have e:=List.dropLast_concat_getLast h0
     rw [hz] at e
     have hv:val o=val o.dropLast:=by rw [<- e,kV,List.dropLast_concat]
     have hlt:=mO (ws:=o.dropLast) (fun w hw=>h w ((List.dropLast_sublist _).subset hw))
     rw [List.length_dropLast] at hlt
     omega
theorem aN {a:List Nat} {i x:Nat} (h:a[i]? = some x):val (a.take (i+1))=val (a.take i)+aE ^ i*x:=by
 have hlt:=(List.getElem?_eq_some_iff.1 h).1
 have e:a.take (i+1)=a.take i++[x]:=by rw [List.take_add_one,h];rfl
 rw [e,cv]
 have:(a.take i).length=i:=by rw [List.length_take];omega
 rw [this];simp [val]
theorem jn {a:List Nat} {i:Nat} (h:a.length<=i):val (a.take (i+1))=val (a.take i):=by
 rw [List.take_of_length_le h,List.take_of_length_le (by omega)]
theorem nB {o:List Nat} {i c va vb x y s:Nat} (ho:o.length=i) (hv:val o+aE ^ i*c=va+vb) (hs:s=c+x+y):val (o++[s%aE])+aE ^ (i+1)*(s/aE)=(va+aE ^ i*x)+(vb+aE ^ i*y):=by
 have e2:=Nat.mod_add_div s aE
 rw [cv,ho]
 simp only [val,Nat.mul_zero,Nat.add_zero,Nat.pow_succ]
 rw [Nat.mul_assoc,Nat.add_assoc, <- Nat.mul_add,e2,hs]
 rw [Nat.mul_add,Nat.mul_add]
 omega
theorem p6 {o:List Nat} (h:Wd o) (s:Nat):Wd (o++[s%aE]):=cM h (by intro w hw;simp at hw;subst hw;exact Nat.mod_lt _ cW)
theorem y0 (s:Nat):IntKind.u32.wrap (s:Int)=((s%aE:Nat):Int):=by rw [IntKind.wrap_u32];unfold aE;omega
theorem w64 (s:Nat) (h:s<18446744073709551616):IntKind.u64.wrap (s:Int)=(s:Int):=by rw [IntKind.wrap_u64];omega
theorem pt (s:Nat):bR .shr .int (.int .u64 (s:Int)) (.int .u64 32)=some (.int .u64 ((s/aE:Nat):Int)):=by
 rw [s7 (by decide)]
 have:(s:Int).fdiv (2 ^ (min (32:Int).toNat IntKind.u64.bits))=((s/aE:Nat):Int):=by
   show (s:Int).fdiv (2 ^ 32)=_
   rw [Int.fdiv_eq_ediv_of_nonneg _ (by decide)];unfold aE;omega
 rw [this]
theorem bu (x:Nat) (h:x<aE):IntKind.u64.wrap (x:Int)=(x:Int):=w64 x (by unfold aE at h;omega)
theorem qh (a b:Nat) (h:a+b<18446744073709551616):IntKind.u64.wrap ((a:Int)+(b:Int))=((a+b:Nat):Int):=by rw [IntKind.wrap_u64];omega
theorem C9 {σ : af} {q:Id} {x:Nat}:bO σ q (.buildSl 1 1 (.int .u32 0) [(0, .int .u32 (x:Int))])=some { val := .osl q 1 0 1 false,up:=[(q,some ⟨us [x],1,false⟩)] }:=bZ rfl rfl rfl rfl
theorem aaI {p:Id} {c:Nat} (h:c*4<=140737488355328):jr p 1 4 (.int .u32 0) (.int .i64 0) (.int .i64 (c:Int))=some { val := .osl p 1 0 0 false,up:=[(p,some ⟨us [],1,false⟩)] }:=by
 have hm:=eD (n:=c) (by omega)
 show (if (0:Int)<=0/\(0:Int)<=(c:Int)/\(c:Int)*((4:Nat):Int)<=140737488355328/\(c:Int)<=((maxLen:Nat):Int)/\(AV.int IntKind.u32 0).size=1/\(AV.int IntKind.u32 0).cells.all AV.one=true then _ else none)=_
 rw [if_pos ⟨by omega,by omega,by omega,by omega,rfl,rfl⟩]
 rfl
theorem EE {σ : af} {p id q:Id} {o:List Nat} {x len:Nat} (hq:q≠id) (hl:len=o.length) (hb:(len+1)*4<=140737488355328) (h : σ id=some ⟨us o,1,false⟩) :
   eu (σ.put q (some ⟨us [x],1,false⟩)) p 1 4 (.osl id 1 0 len false) (.osl q 1 0 1 false)=some { val := .osl p 1 0 (len+1) false,rd:=[id,q],up:=[(id,none),(p,some ⟨us (o++[x]),1,false⟩)] }:=by
 have:=q9 (σ := σ.put q (some ⟨us [x],1,false⟩)) (p:=p) (id:=id) (k:=1) (bytes:=4) (len:=len) (els:=us o) (x := .osl q 1 0 1 false) (ys:=us [x]) (rd:=[q])
   (tj (bk:=⟨us [x],1,false⟩) (af.dE _ _ _) rfl (by simp [gv])) (by simp [us]) (by rw [af.cC _ _ _ hq.symm];exact h) (by rw [gv];exact hl) (by rw [gv];exact hb) (eD (by rw [gv];simp;omega)) (Ou _) (Ou _)
 rw [this,ED]
 simp [gv]
theorem Hy {rs:List uT} {s:VS} {id:Id} {n:Nat} {t b:Bool} {o:List Nat} (h1:aX rs s=some (.osl id 1 0 n t)) (h2:s.σ id=some ⟨us o,1,b⟩) (hn:n=o.length):∃ r0,aX rs s=some r0/\View s.σ r0 (.sl 1 (us o)):=by
 subst hn
 refine ⟨_,h1,View.osl (bk:=⟨us o,1,b⟩) h2 rfl (by simp [gv]) ?_ (by rw [gv]) (C7 o)⟩
 rw [List.drop_zero,List.take_of_length_le (by rw [gv];exact Nat.le_refl _)]
 exact aG.pure (Ae o)
section
variable {P:Program} {G:Nat->Option (List AV)}
theorem Yu {f:FuncId} (h:Has P f rr) (m n:Nat) (hm:ag m<=1000000) (hn:ag n<=1000000):VP P G f [W m,W n] (W (m+n)):=by
 refine VP.has h ?_
 simp only [rr,SS,Nat.reduceAdd,bg]
 by_cases hs:ag m<ag n
 . have hle:ag m<=ag n:=by omega
   have hlx:ag n<=1000000:=hn
   have hd:decide ((ag m:Int)<(ag n:Int))=true:=by first | exact ay (by omega) | exact au (by omega)
   have ew:IntKind.i64.wrap ((ag n:Int)+1)=((ag n+1:Nat):Int):=aL _ (by omega)
   have uM:∀ p:Id,jr p 1 4 (.int .u32 0) (.int .i64 0) (.int .i64 ((ag n+1:Nat):Int))=some { val := .osl p 1 0 0 false,up:=[(p,some ⟨us [],1,false⟩)] }:=fun p=>aaI (by omega)
   simp only [SS,Nat.reduceAdd,bg,hd,ew,uM,aP]
   refine VW.ey (α := Nat × Nat × Nat × List Nat × Nat) (fun x=>⟨[W n,W m, .top, .top, .top, .osl [x.2.2.1] 1 0 x.1 false, .int .u64 (x.2.2.2.2:Int), .top, .top]++List.replicate 11 .top++[W n, .int .i64 (ag n), .int .i64 x.1]++List.replicate 35 .top,
     af.put (fun _=>none) [x.2.2.1] (some ⟨us x.2.2.2.1,1,false⟩),x.2.1⟩)
     (fun x=>x.1<=ag n/\x.2.2.1<x.2.1/\x.2.2.2.1.length=x.1/\Wd x.2.2.2.1/\x.2.2.2.2<=1/\val x.2.2.2.1+aE ^ x.1*x.2.2.2.2=val ((digits n).take x.1)+val ((digits m).take x.1)) (fun x=>ag n-x.1) (0,19,13,[],0) ?_ ?_ ?_
   . exact Wk.slots (by simp [Fg,List.replicate]) (Nat.le_refl _)
   . exact ⟨Nat.zero_le _,by decide,rfl,by intro w hw;simp at hw,by decide,by simp [val]⟩
   rintro ⟨i,nn,q,o,c⟩ ⟨hi,hq,ho,hwd,hc,hv⟩
   simp only [] at hi hq ho hwd hc hv
   have qQ:i<ag n->decide ((i:Int)<(ag n:Int))=true:=fun h=>ay (by omega)
   have yw : ¬ i<ag n->decide ((i:Int)<(ag n:Int))=false:=fun h=>au (by omega)
   have hb4:(i+1)*4<=140737488355328:=by omega
   have dH : ¬ i<ag n->i=ag n:=by omega
   have tq:=aL i (by omega)
   simp only [SS]
   by_cases hlt:i<ag n
   . have jv:i+1<=ag n/\ag n-(i+1)<ag n-i:=by omega
     obtain ⟨a,ha⟩:∃ a,(digits n)[i]? = some a:=⟨_,List.getElem?_eq_getElem hlt⟩
     have wb:=aW n a (List.mem_of_getElem? ha)
     have f1:=bu a wb
     have f2:=qh c a (by unfold aE at wb;omega)
     by_cases hy:i<ag m
     . obtain ⟨b,hb⟩:∃ b,(digits m)[i]? = some b:=⟨_,List.getElem?_eq_getElem hy⟩
       have Ib:=aW m b (List.mem_of_getElem? hb)
       have d3:decide ((i:Int)<(ag m:Int))=true:=ay (by omega)
       have f3:=bu b Ib
       have f4:=qh (c+a) b (by unfold aE at wb Ib;omega)
       have Yv:(c+a+b)/aE<=1:=by unfold aE at wb Ib ⊢;omega
       simp only [SS,Nat.reduceAdd,qQ hlt,di ha,di hb,bg,aI,bo,f1,f2,d3,f3,f4,y0,C9]
       rw [EE (o:=o)]
       . simp only [SS,Nat.reduceAdd,pt,tq]
         refine ⟨(i+1,_,nn+1+5+5+4+8+4,o++[(c+a+b)%aE],(c+a+b)/aE),⟨jv.1, ?_,by simp [ho],p6 hwd _,Yv, ?_⟩,jv.2,Wk.forget (by simp [Fg]) (fun j => ?_) (Nat.le_refl _)⟩
         . simp only [];omega
         . show val (o++[(c+a+b)%aE])+aE ^ (i+1)*((c+a+b)/aE)=_
           rw [aN ha,aN hb]
           exact nB ho hv rfl
         . simp only [af.put];split<;>simp
       . intro e;simp at e;omega
       . exact ho.symm
       . exact hb4
       . exact af.dE _ _ _
     . have d3:decide ((i:Int)<(ag m:Int))=false:=au (by omega)
       have Yv:(c+a)/aE<=1:=by unfold aE at wb ⊢;omega
       simp only [SS,Nat.reduceAdd,qQ hlt,di ha,bg,aI,bo,f1,f2,d3,y0,C9]
       rw [EE (o:=o)]
       . simp only [SS,Nat.reduceAdd,pt,tq]
         refine ⟨(i+1,_,nn+1+5+5+4+4,o++[(c+a)%aE],(c+a)/aE),⟨jv.1, ?_,by simp [ho],p6 hwd _,Yv, ?_⟩,jv.2,Wk.forget (by simp [Fg]) (fun j => ?_) (Nat.le_refl _)⟩
         . simp only [];omega
         . show val (o++[(c+a)%aE])+aE ^ (i+1)*((c+a)/aE)=_
           rw [aN ha,jn (by show ag m<=i;omega)]
           have:=nB (x:=a) (y:=0) (s:=c+a) ho hv (by omega)
           simpa using this
         . simp only [af.put];split<;>simp
       . intro e;simp at e;omega
       . exact ho.symm
       . exact hb4
       . exact af.dE _ _ _
   . have p7:=dH hlt
     have A1:val o+aE ^ i*c=m+n:=by
       have e1:(digits n).take (ag n)=digits n:=List.take_of_length_le (Nat.le_refl _)
       have e2:(digits m).take (ag n)=digits m:=List.take_of_length_le hle
       rw [hv,p7,e1,e2,aV,aV]
       all_goals omega
     by_cases h0:c=0
     . have d4:decide ((0:Int)<(c:Int))=false:=au (by omega)
       have e:W (m+n) = .sl 1 (us o):=by
         rw [h0] at A1
         simp only [Nat.mul_zero,Nat.add_zero] at A1
         unfold W
         rw [<- A1,C8 hwd]
         rcases Nat.eq_zero_or_pos i with h1 | h1
         . left;rw [h1] at ho;exact List.length_eq_zero_iff.1 ho
         . right
           rw [A1,ho,p7]
           have Sp:n≠0:=by rintro e;rw [e] at p7;simp [ag,bA] at p7;omega
           have:=tp Sp
           omega
       simp only [SS,Nat.reduceAdd,yw hlt,d4]
       rw [e]
       exact ai▸Hy (b:=false) rfl (by simp [af.put]) ho.symm
     . have Yw:c=1:=by omega
       have d4:decide ((0:Int)<(c:Int))=true:=ay (by omega)
       have e1:c%aE=1:=by rw [Yw];rfl
       have e:W (m+n) = .sl 1 (us (o++[1])):=by
         have rn:val (o++[1])=m+n:=by rw [cv,ho, <- A1,Yw];simp [val]
         unfold W
         rw [<- rn,nV (cM hwd (by intro w hw;simp at hw;subst hw;decide)) (.inr ⟨1,by simp,by decide⟩)]
       simp only [SS,Nat.reduceAdd,yw hlt,d4,y0,e1,C9]
       rw [EE (o:=o)]
       . simp only [SS,Nat.reduceAdd]
         rw [e]
         exact ai▸Hy (b:=false) rfl (by simp [af.put]) (by simp [ho])
       . intro e;simp at e;omega
       . exact ho.symm
       . exact hb4
       . exact af.dE _ _ _
 . have hle:ag n<=ag m:=by omega
   have hlx:ag m<=1000000:=hm
   have hd:decide ((ag m:Int)<(ag n:Int))=false:=by first | exact ay (by omega) | exact au (by omega)
   have ew:IntKind.i64.wrap ((ag m:Int)+1)=((ag m+1:Nat):Int):=aL _ (by omega)
   have uM:∀ p:Id,jr p 1 4 (.int .u32 0) (.int .i64 0) (.int .i64 ((ag m+1:Nat):Int))=some { val := .osl p 1 0 0 false,up:=[(p,some ⟨us [],1,false⟩)] }:=fun p=>aaI (by omega)
   simp only [SS,Nat.reduceAdd,bg,hd,ew,uM,aP]
   refine VW.ey (α := Nat × Nat × Nat × List Nat × Nat) (fun x=>⟨[W m,W n, .top, .top, .top, .osl [x.2.2.1] 1 0 x.1 false, .int .u64 (x.2.2.2.2:Int), .top, .top]++List.replicate 11 .top++[W m, .int .i64 (ag m), .int .i64 x.1]++List.replicate 35 .top,
     af.put (fun _=>none) [x.2.2.1] (some ⟨us x.2.2.2.1,1,false⟩),x.2.1⟩)
     (fun x=>x.1<=ag m/\x.2.2.1<x.2.1/\x.2.2.2.1.length=x.1/\Wd x.2.2.2.1/\x.2.2.2.2<=1/\val x.2.2.2.1+aE ^ x.1*x.2.2.2.2=val ((digits m).take x.1)+val ((digits n).take x.1)) (fun x=>ag m-x.1) (0,15,9,[],0) ?_ ?_ ?_
   . exact Wk.slots (by simp [Fg,List.replicate]) (Nat.le_refl _)
   . exact ⟨Nat.zero_le _,by decide,rfl,by intro w hw;simp at hw,by decide,by simp [val]⟩
   rintro ⟨i,nn,q,o,c⟩ ⟨hi,hq,ho,hwd,hc,hv⟩
   simp only [] at hi hq ho hwd hc hv
   have qQ:i<ag m->decide ((i:Int)<(ag m:Int))=true:=fun h=>ay (by omega)
   have yw : ¬ i<ag m->decide ((i:Int)<(ag m:Int))=false:=fun h=>au (by omega)
   have hb4:(i+1)*4<=140737488355328:=by omega
   have dH : ¬ i<ag m->i=ag m:=by omega
   have tq:=aL i (by omega)
   simp only [SS]
   by_cases hlt:i<ag m
   . have jv:i+1<=ag m/\ag m-(i+1)<ag m-i:=by omega
     obtain ⟨a,ha⟩:∃ a,(digits m)[i]? = some a:=⟨_,List.getElem?_eq_getElem hlt⟩
     have wb:=aW m a (List.mem_of_getElem? ha)
     have f1:=bu a wb
     have f2:=qh c a (by unfold aE at wb;omega)
     by_cases hy:i<ag n
     . obtain ⟨b,hb⟩:∃ b,(digits n)[i]? = some b:=⟨_,List.getElem?_eq_getElem hy⟩
       have Ib:=aW n b (List.mem_of_getElem? hb)
       have d3:decide ((i:Int)<(ag n:Int))=true:=ay (by omega)
       have f3:=bu b Ib
       have f4:=qh (c+a) b (by unfold aE at wb Ib;omega)
       have Yv:(c+a+b)/aE<=1:=by unfold aE at wb Ib ⊢;omega
       simp only [SS,Nat.reduceAdd,qQ hlt,di ha,di hb,bg,aI,bo,f1,f2,d3,f3,f4,y0,C9]
       rw [EE (o:=o)]
       . simp only [SS,Nat.reduceAdd,pt,tq]
         refine ⟨(i+1,_,nn+1+5+5+4+8+4,o++[(c+a+b)%aE],(c+a+b)/aE),⟨jv.1, ?_,by simp [ho],p6 hwd _,Yv, ?_⟩,jv.2,Wk.forget (by simp [Fg]) (fun j => ?_) (Nat.le_refl _)⟩
         . simp only [];omega
         . show val (o++[(c+a+b)%aE])+aE ^ (i+1)*((c+a+b)/aE)=_
           rw [aN ha,aN hb]
           exact nB ho hv rfl
         . simp only [af.put];split<;>simp
       . intro e;simp at e;omega
       . exact ho.symm
       . exact hb4
       . exact af.dE _ _ _
     . have d3:decide ((i:Int)<(ag n:Int))=false:=au (by omega)
       have Yv:(c+a)/aE<=1:=by unfold aE at wb ⊢;omega
       simp only [SS,Nat.reduceAdd,qQ hlt,di ha,bg,aI,bo,f1,f2,d3,y0,C9]
       rw [EE (o:=o)]
       . simp only [SS,Nat.reduceAdd,pt,tq]
         refine ⟨(i+1,_,nn+1+5+5+4+4,o++[(c+a)%aE],(c+a)/aE),⟨jv.1, ?_,by simp [ho],p6 hwd _,Yv, ?_⟩,jv.2,Wk.forget (by simp [Fg]) (fun j => ?_) (Nat.le_refl _)⟩
         . simp only [];omega
         . show val (o++[(c+a)%aE])+aE ^ (i+1)*((c+a)/aE)=_
           rw [aN ha,jn (by show ag n<=i;omega)]
           have:=nB (x:=a) (y:=0) (s:=c+a) ho hv (by omega)
           simpa using this
         . simp only [af.put];split<;>simp
       . intro e;simp at e;omega
       . exact ho.symm
       . exact hb4
       . exact af.dE _ _ _
   . have p7:=dH hlt
     have A1:val o+aE ^ i*c=m+n:=by
       have e1:(digits m).take (ag m)=digits m:=List.take_of_length_le (Nat.le_refl _)
       have e2:(digits n).take (ag m)=digits n:=List.take_of_length_le hle
       rw [hv,p7,e1,e2,aV,aV]
       all_goals omega
     by_cases h0:c=0
     . have d4:decide ((0:Int)<(c:Int))=false:=au (by omega)
       have e:W (m+n) = .sl 1 (us o):=by
         rw [h0] at A1
         simp only [Nat.mul_zero,Nat.add_zero] at A1
         unfold W
         rw [<- A1,C8 hwd]
         rcases Nat.eq_zero_or_pos i with h1 | h1
         . left;rw [h1] at ho;exact List.length_eq_zero_iff.1 ho
         . right
           rw [A1,ho,p7]
           have Sp:m≠0:=by rintro e;rw [e] at p7;simp [ag,bA] at p7;omega
           have:=tp Sp
           omega
       simp only [SS,Nat.reduceAdd,yw hlt,d4]
       rw [e]
       exact ai▸Hy (b:=false) rfl (by simp [af.put]) ho.symm
     . have Yw:c=1:=by omega
       have d4:decide ((0:Int)<(c:Int))=true:=ay (by omega)
       have e1:c%aE=1:=by rw [Yw];rfl
       have e:W (m+n) = .sl 1 (us (o++[1])):=by
         have rn:val (o++[1])=m+n:=by rw [cv,ho, <- A1,Yw];simp [val]
         unfold W
         rw [<- rn,nV (cM hwd (by intro w hw;simp at hw;subst hw;decide)) (.inr ⟨1,by simp,by decide⟩)]
       simp only [SS,Nat.reduceAdd,yw hlt,d4,y0,e1,C9]
       rw [EE (o:=o)]
       . simp only [SS,Nat.reduceAdd]
         rw [e]
         exact ai▸Hy (b:=false) rfl (by simp [af.put]) (by simp [ho])
       . intro e;simp at e;omega
       . exact ho.symm
       . exact hb4
       . exact af.dE _ _ _
end
end Go.VL
end

section
set_option linter.unusedVariables false
namespace Go.VL
theorem KH (c:Nat):List.replicate c (AV.int .u32 0)=us (List.replicate c 0):=by simp [us]
theorem abR (o:List Nat) (i x:Nat):(us o).set i (.int .u32 (x:Int))=us (o.set i x):=by simp [us,List.map_set]
theorem nW {p:Id} {c:Nat} (h:c*4<=140737488355328):jr p 1 4 (.int .u32 0) (.int .i64 (c:Int)) (.int .i64 (c:Int))=some { val := .osl p 1 0 c false,up:=[(p,some ⟨us (List.replicate c 0),1,false⟩)] }:=by
 have hm:=eD (n:=c) (by omega)
 show (if (0:Int)<=(c:Int)/\(c:Int)<=(c:Int)/\(c:Int)*((4:Nat):Int)<=140737488355328/\(c:Int)<=((maxLen:Nat):Int)/\(AV.int IntKind.u32 0).size=1/\(AV.int IntKind.u32 0).cells.all AV.one=true then _ else none)=_
 rw [if_pos ⟨by omega,by omega,by omega,by omega,rfl,rfl⟩]
 simp only [Int.toNat_natCast,KH]
theorem cN {q:Id} {len i:Nat} {t:Bool} (h:i<len):cx 1 (.osl q 1 0 len t) (.int .i64 (i:Int))=some (.ref q i 0):=by
 simp only [cx]
 rw [if_pos ⟨trivial,by omega,by omega⟩]
 simp
theorem bP {σ : af} {q:Id} {o:List Nat} {i x:Nat} (h : σ q=some ⟨us o,1,false⟩) (hi:i<o.length):fD σ 1 (.ref q i 0) (.int .u32 (x:Int))=some { val := .tup [],rd:=[q],up:=[(q,some ⟨us (o.set i x),1,false⟩)] }:=by
 obtain ⟨w,hw⟩:∃ w,o[i]? = some w:=⟨_,List.getElem?_eq_getElem hi⟩
 rw [fy (n:=1) (v := .int .u32 (x:Int)) h (xZ hw) rfl (by simp [AV.size,AV.cells]) rfl, <- abR]
 rfl
theorem jy {σ : af} {q:Id} {o:List Nat} {i x:Nat} {b:Bool} (h : σ q=some ⟨us o,1,b⟩) (hi:o[i]? = some x):kM σ false 1 (.ref q i 0)=some { val := .int .u32 (x:Int),rd:=[q] }:=by
 rw [Ax h (xZ hi)];rfl
theorem Yx (o:List Nat) (k x:Nat):(o++List.replicate (k+1) 0).set o.length x=(o++[x])++List.replicate k 0:=by
 rw [List.set_append_right _ _ (Nat.le_refl _),Nat.sub_self,List.replicate_succ,List.set_cons_zero]
 simp
theorem F3 {o:List Nat} {i x y:Nat} (h:o[i]? = some y):val (o.set i x)+aE ^ i*y=val o+aE ^ i*x:=by
 have hi:=(List.getElem?_eq_some_iff.1 h).1
 have ht:(o.take i).length=i:=by rw [List.length_take];omega
 have e1:o=o.take i++y::o.drop (i+1):=by
   have:=List.take_append_drop i o
   rw [List.drop_eq_getElem_cons hi] at this
   obtain ⟨_,h2⟩:=List.getElem?_eq_some_iff.1 h
   rw [h2] at this;exact this.symm
 have e2:o.set i x=o.take i++x::o.drop (i+1):=by rw [List.set_eq_take_append_cons_drop,if_pos hi]
 rw [e2]
 have e3:val o=val (o.take i++y::o.drop (i+1)):=congrArg val e1
 rw [e3,cv,cv,ht]
 simp only [val,Nat.mul_add]
 omega
theorem KI {o:List Nat} (h:Wd o) {i x:Nat} (hx:x<aE):Wd (o.set i x):=fun w hw=>by
 rcases List.mem_or_eq_of_mem_set hw with h1 | h1
 . exact h w h1
 . rw [h1];exact hx
theorem Hz (k:Nat):Wd (List.replicate k 0):=fun w hw=>by rw [List.eq_of_mem_replicate hw];exact cW
theorem QM (o:List Nat) (k:Nat):val (o++List.replicate k 0)=val o:=by
 rw [cv,EC (fun w hw=>List.eq_of_mem_replicate hw)];omega
theorem My {x y c:Nat} (hx:x<aE) (hy:y<aE) (hc:c<=1):∃ w c':Nat,w<aE/\c'<=1/\w+y+c=x+aE*c'/\IntKind.u32.wrap (IntKind.u64.wrap (IntKind.u64.wrap ((x:Int)-(c:Int))-(y:Int)))=(w:Int) /\
   bR .shr .int (.int .u64 (IntKind.u64.wrap (IntKind.u64.wrap ((x:Int)-(c:Int))-(y:Int)))) (.int .u64 63)=some (.int .u64 (c':Int)):=by
 have PJ:∀ a:Int,bR .shr .int (.int .u64 a) (.int .u64 63)=some (.int .u64 (a/9223372036854775808)):=fun a=>by
   rw [s7 (by decide)]
   show some (AV.int .u64 (a.fdiv (2 ^ 63)))=_
   rw [Int.fdiv_eq_ediv_of_nonneg _ (by decide)];rfl
 rw [PJ]
 unfold aE at *
 by_cases h:c+y<=x
 . refine ⟨x-c-y,0,by omega,by omega,by omega, ?_, ?_⟩
   . rw [IntKind.wrap_u32,IntKind.wrap_u64,IntKind.wrap_u64];omega
   . rw [IntKind.wrap_u64,IntKind.wrap_u64];congr 2;omega
 . refine ⟨x+4294967296-c-y,1,by omega,by omega,by omega, ?_, ?_⟩
   . rw [IntKind.wrap_u32,IntKind.wrap_u64,IntKind.wrap_u64];omega
   . rw [IntKind.wrap_u64,IntKind.wrap_u64];congr 2;omega
theorem Sq {x c:Nat} (hx:x<aE) (hc:c<=1):∃ w c':Nat,w<aE/\c'<=1/\w+0+c=x+aE*c'/\IntKind.u32.wrap (IntKind.u64.wrap ((x:Int)-(c:Int)))=(w:Int) /\
   bR .shr .int (.int .u64 (IntKind.u64.wrap ((x:Int)-(c:Int)))) (.int .u64 63)=some (.int .u64 (c':Int)):=by
 obtain ⟨w,c',h1,h2,h3,h4,h5⟩:=My (y:=0) hx cW hc
 have e:IntKind.u64.wrap (IntKind.u64.wrap ((x:Int)-(c:Int))-((0:Nat):Int))=IntKind.u64.wrap ((x:Int)-(c:Int)):=by rw [IntKind.wrap_u64,IntKind.wrap_u64];omega
 rw [e] at h4 h5
 exact ⟨w,c',h1,h2,h3,h4,h5⟩
theorem n8 {o:List Nat} {i c va vb x y w c':Nat} (ho:o.length=i) (hv:val o+vb=va+aE ^ i*c-aE ^ i*c+aE ^ i*c) (hw:w+y+c=x+aE*c'):val (o++[w])+(vb+aE ^ i*y)=(va+aE ^ i*x)+aE ^ (i+1)*c':=by
 have h:aE ^ i*w+aE ^ i*y+aE ^ i*c=aE ^ i*x+aE ^ i*(aE*c'):=by rw [<- Nat.mul_add, <- Nat.mul_add, <- Nat.mul_add,hw]
 rw [cv,ho]
 simp only [val,Nat.mul_zero,Nat.add_zero,Nat.pow_succ]
 rw [Nat.mul_assoc]
 omega
section
variable {P:Program} {G:Nat->Option (List AV)}
theorem Va {f ft:FuncId} (h:Has P f (qm ft)) (ht:iW P G ft) (m n:Nat) (uS:n<=m) (hm:ag m<=1000000):VP P G f [W m,W n] (W (m-n)):=by
 refine VP.has h ?_
 have hle:ag n<=ag m:=bE uS
 have uM:∀ p:Id,jr p 1 4 (.int .u32 0) (.int .i64 (ag m:Int)) (.int .i64 (ag m:Int))=some { val := .osl p 1 0 (ag m) false,up:=[(p,some ⟨us (List.replicate (ag m) 0),1,false⟩)] }:=fun p=>nW (by omega)
 simp only [qm,SS,Nat.reduceAdd,bg,uM,aP]
 refine VW.ey (α := Nat × Nat × List Nat × Nat) (fun x=>⟨[W m,W n, .top, .top, .top, .osl [3] 1 0 (ag m) false, .int .u64 (x.2.2.2:Int)]++List.replicate 6 .top++[W m, .int .i64 (ag m), .int .i64 x.1]++List.replicate 29 .top,
   af.put (fun _=>none) [3] (some ⟨us (x.2.2.1++List.replicate (ag m-x.1) 0),1,false⟩),x.2.1⟩)
   (fun x=>x.1<=ag m/\x.2.2.1.length=x.1/\Wd x.2.2.1/\x.2.2.2<=1/\val x.2.2.1+val ((digits n).take x.1)=val ((digits m).take x.1)+aE ^ x.1*x.2.2.2) (fun x=>ag m-x.1) (0,9,[],0) ?_ ?_ ?_
 . exact Wk.slots (by simp [Fg,List.replicate]) (Nat.le_refl _)
 . exact ⟨Nat.zero_le _,rfl,by intro w hw;simp at hw,by decide,by simp [val]⟩
 rintro ⟨i,nn,o,c⟩ ⟨hi,ho,hwd,hc,hv⟩
 simp only [] at hi ho hwd hc hv
 have qQ:i<ag m->decide ((i:Int)<(ag m:Int))=true:=fun h=>ay (by omega)
 have yw : ¬ i<ag m->decide ((i:Int)<(ag m:Int))=false:=fun h=>au (by omega)
 have dH : ¬ i<ag m->i=ag m:=by omega
 have tq:=aL i (by omega)
 have hol:i<ag m->i<(o++List.replicate (ag m-i) 0).length:=fun h=>by rw [List.length_append,List.length_replicate];omega
 have Yy:i<ag m->∀ x,(o++List.replicate (ag m-i) 0).set i x=(o++[x])++List.replicate (ag m-(i+1)) 0:=fun h x=>by
   rw [show ag m-i=(ag m-(i+1))+1 from by omega, <- ho];exact Yx _ _ _
 have jv:i<ag m->i+1<=ag m/\ag m-(i+1)<ag m-i:=fun h=>by omega
 have hny : ¬ i<ag n->ag n<=i:=by omega
 have d3t:i<ag n->decide ((i:Int)<(ag n:Int))=true:=fun h=>ay (by omega)
 have d3f : ¬ i<ag n->decide ((i:Int)<(ag n:Int))=false:=fun h=>au (by omega)
 simp only [SS]
 by_cases hlt:i<ag m
 . obtain ⟨a,ha⟩:∃ a,(digits m)[i]? = some a:=⟨_,List.getElem?_eq_getElem hlt⟩
   have wb:=aW m a (List.mem_of_getElem? ha)
   have f1:=bu a wb
   have mY:=cN (q:=[3]) (t:=false) hlt
   by_cases hy:i<ag n
   . obtain ⟨b,hb⟩:∃ b,(digits n)[i]? = some b:=⟨_,List.getElem?_eq_getElem hy⟩
     have Ib:=aW n b (List.mem_of_getElem? hb)
     have f3:=bu b Ib
     obtain ⟨w,c',h1,h2,h3,h4,h5⟩:=My wb Ib hc
     have hv':=n8 (va:=val ((digits m).take i)) (vb:=val ((digits n).take i)) ho (by rw [hv];omega) h3
     simp only [SS,Nat.reduceAdd,qQ hlt,di ha,di hb,bg,aI,bo,f1,f3,d3t hy,h4,mY]
     rw [bP (o:=o++List.replicate (ag m-i) 0) (by simp [af.put]) (hol hlt),Yy hlt]
     simp only [SS,Nat.reduceAdd,h5,tq]
     refine ⟨(i+1,_,o++[w],c'),⟨(jv hlt).1,by simp [ho],cM hwd (by intro z hz;simp at hz;subst hz;exact h1),h2, ?_⟩,(jv hlt).2,Wk.forget (by simp [Fg]) (fun j => ?_) (Nat.le_refl _)⟩
     . show val (o++[w])+val ((digits n).take (i+1))=_
       rw [aN ha,aN hb];exact hv'
     . simp only [af.put];split<;>simp
   . obtain ⟨w,c',h1,h2,h3,h4,h5⟩:=Sq wb hc
     have hv':=n8 (va:=val ((digits m).take i)) (vb:=val ((digits n).take i)) ho (by rw [hv];omega) h3
     simp only [SS,Nat.reduceAdd,qQ hlt,di ha,bg,aI,bo,f1,d3f hy,h4,mY]
     rw [bP (o:=o++List.replicate (ag m-i) 0) (by simp [af.put]) (hol hlt),Yy hlt]
     simp only [SS,Nat.reduceAdd,h5,tq]
     refine ⟨(i+1,_,o++[w],c'),⟨(jv hlt).1,by simp [ho],cM hwd (by intro z hz;simp at hz;subst hz;exact h1),h2, ?_⟩,(jv hlt).2,Wk.forget (by simp [Fg]) (fun j => ?_) (Nat.le_refl _)⟩
     . show val (o++[w])+val ((digits n).take (i+1))=_
       rw [aN ha,jn (hny hy)]
       simpa using hv'
     . simp only [af.put];split<;>simp
 . have p7:=dH hlt
   have e1:(digits m).take (ag m)=digits m:=List.take_of_length_le (Nat.le_refl _)
   have e2:(digits n).take (ag m)=digits n:=List.take_of_length_le hle
   have A1:val o+n=m+aE ^ ag m*c:=by rw [p7,e1,e2,aV,aV] at hv;exact hv
   have Bp:val o=m-n:=by
     have:=mO hwd
     rw [ho,p7] at this
     rcases Nat.le_one_iff_eq_zero_or_eq_one.1 hc with h0 | h0
     . rw [h0] at A1;omega
     . rw [h0] at A1;omega
   have e3:o++List.replicate (ag m-i) 0=o:=by rw [p7,Nat.sub_self];simp
   have Ay:=ht o hwd (by rw [ho];omega)
   rw [Bp] at Ay
   simp only [SS,Nat.reduceAdd,yw hlt,e3]
   refine bJ [([3],⟨us o,1,false⟩)] Ay (aG.cons (g7 (by rw [ho,p7])) aG.nil) (by simp [af.put]) ?_
   simp only [SS,Nat.reduceAdd]
   exact ai▸ae rfl (aB _)
end
end Go.VL
end

section
set_option linter.unusedVariables false
namespace Go.VL
theorem QN (a b:Nat) (ha:a<aE) (hb:b<aE):IntKind.u64.wrap ((a:Int)*(b:Int))=((a*b:Nat):Int):=by
 have:a*b<=4294967295*4294967295:=Nat.mul_le_mul (by unfold aE at ha;omega) (by unfold aE at hb;omega)
 rw [<- Int.natCast_mul,IntKind.wrap_u64];omega
theorem Oy {a b:Nat} (ha:a<aE) (hb:b<aE):a*b<=18446744065119617025:=by
 have:a*b<=4294967295*4294967295:=Nat.mul_le_mul (by unfold aE at ha;omega) (by unfold aE at hb;omega)
 omega
theorem pa (a b:Nat) (h:a+b<=9223372036854775807):IntKind.i64.wrap ((a:Int)+(b:Int))=((a+b:Nat):Int):=by rw [IntKind.wrap_i64];omega
theorem HA {o:List Nat} {k y:Nat} (h:val o<aE ^ k) (hy:o[k]? = some y):y=0:=by
 have:=F3 (x:=0) hy
 rcases Nat.eq_zero_or_pos y with h0 | h0
 . exact h0
 . have:aE ^ k*1<=aE ^ k*y:=Nat.mul_le_mul_left _ h0
   omega
theorem JG {o o':List Nat} {i j c x y z s v:Nat} (hz:o'[i+j]? = some z) (hv:val o'+aE ^ (i+j)*c=val o+aE ^ i*(x*v)) (hs:s=c+(x*y+z)) :
   val (o'.set (i+j) (s%aE))+aE ^ (i+(j+1))*(s/aE)=val o+aE ^ i*(x*(v+aE ^ j*y)):=by
 have e1:=F3 (x:=s%aE) hz
 have e2:aE ^ (i+j)*(s%aE)+aE ^ (i+j)*(aE*(s/aE))=aE ^ (i+j)*c+aE ^ (i+j)*(x*y)+aE ^ (i+j)*z:=by
   rw [<- Nat.mul_add,Nat.mod_add_div,hs,Nat.mul_add,Nat.mul_add];omega
 have e3:aE ^ (i+(j+1))*(s/aE)=aE ^ (i+j)*(aE*(s/aE)):=by rw [<- Nat.add_assoc,Nat.pow_succ,Nat.mul_assoc]
 have e4:aE ^ i*(x*(v+aE ^ j*y))=aE ^ i*(x*v)+aE ^ (i+j)*(x*y):=by
   rw [Nat.mul_add,Nat.mul_add,Nat.pow_add]
   congr 1
   rw [Nat.mul_assoc,Nat.mul_left_comm x]
 rw [e3,e4]
 omega
theorem cI {n:Nat}:ag n=0↔n=0:=by
 constructor
 . intro h;exact nA.1 (List.length_eq_zero_iff.1 h)
 . intro h;rw [h,ag,bA];rfl
section
variable {P:Program} {G:Nat->Option (List AV)}
theorem Vb {f ft:FuncId} (h:Has P f (qn ft)) (ht:iW P G ft) (m n:Nat) (hm:ag m<=1000000) (hn:ag n<=1000000):VP P G f [W m,W n] (W (m*n)):=by
 refine VP.has h ?_
 have z1:ag m=0->decide ((ag m:Int)=0)=true:=fun h=>ay (by omega)
 have z2 : ¬ ag m=0->decide ((ag m:Int)=0)=false:=fun h=>au (by omega)
 have z3:ag n=0->decide ((ag n:Int)=0)=true:=fun h=>ay (by omega)
 have z4 : ¬ ag n=0->decide ((ag n:Int)=0)=false:=fun h=>au (by omega)
 have Sr:m*n=0->∀ σ,View σ .nils (W (m*n)):=fun h σ => by rw [h];simp only [W,bA,us];exact View.nils 1
 have uM:∀ p:Id,jr p 1 4 (.int .u32 0) (.int .i64 ((ag m+ag n:Nat):Int)) (.int .i64 ((ag m+ag n:Nat):Int))=some { val := .osl p 1 0 (ag m+ag n) false,up:=[(p,some ⟨us (List.replicate (ag m+ag n) 0),1,false⟩)] }:=fun p=>nW (by omega)
 have hL:=pa (ag m) (ag n) (by omega)
 simp only [qn,SS,Nat.reduceAdd,bg]
 by_cases h0:ag m=0
 . simp only [SS,Nat.reduceAdd,z1 h0]
   refine ai▸⟨.nils,rfl,Sr (by rw [cI.1 h0];simp) _⟩
 by_cases h1:ag n=0
 . simp only [SS,Nat.reduceAdd,z2 h0,z3 h1,bg]
   refine ai▸⟨.nils,rfl,Sr (by rw [cI.1 h1];simp) _⟩
 simp only [SS,Nat.reduceAdd,z2 h0,z4 h1,bg,hL,uM,aP]
 refine VW.ey (α := Nat × Nat × List Nat) (fun x=>⟨[W m,W n, .top, .top, .top, .osl [14] 1 0 (ag m+ag n) false]++List.replicate 19 .top++[W m, .int .i64 (ag m), .int .i64 x.1]++List.replicate 47 .top,
   af.put (fun _=>none) [14] (some ⟨us x.2.2,1,false⟩),x.2.1⟩)
   (fun x=>x.1<=ag m/\x.2.2.length=ag m+ag n/\Wd x.2.2/\val x.2.2=val ((digits m).take x.1)*n) (fun x=>ag m-x.1) (0,19,List.replicate (ag m+ag n) 0) ?_ ?_ ?_
 . exact Wk.slots (by simp [Fg,List.replicate]) (Nat.le_refl _)
 . exact ⟨Nat.zero_le _,List.length_replicate ..,Hz _,by simp only [];rw [EC (fun w hw=>List.eq_of_mem_replicate hw)];simp [val]⟩
 rintro ⟨i,nn,o⟩ ⟨hi,ho,hwd,hv⟩
 simp only [] at hi ho hwd hv
 have qQ:i<ag m->decide ((i:Int)<(ag m:Int))=true:=fun h=>ay (by omega)
 have yw : ¬ i<ag m->decide ((i:Int)<(ag m:Int))=false:=fun h=>au (by omega)
 have dH : ¬ i<ag m->i=ag m:=by omega
 have tq:=aL i (by omega)
 have jv:i<ag m->i+1<=ag m/\ag m-(i+1)<ag m-i:=fun h=>by omega
 have nk:=pa i (ag n) (by omega)
 have Oz:i<ag m->i+ag n<ag m+ag n:=fun h=>by omega
 simp only [SS]
 by_cases hlt:i<ag m
 . obtain ⟨a,ha⟩:∃ a,(digits m)[i]? = some a:=⟨_,List.getElem?_eq_getElem hlt⟩
   have wb:=aW m a (List.mem_of_getElem? ha)
   have f1:=bu a wb
   have OA:o[i+ag n]? = some 0:=by
     obtain ⟨y,hy⟩:∃ y,o[i+ag n]? = some y:=⟨_,List.getElem?_eq_getElem (by rw [ho];exact Oz hlt)⟩
     have e:=HA (k:=i+ag n) (by
       rw [hv,Nat.pow_add]
       have h2:val ((digits m).take i)<aE ^ i:=by
         have:=mO (tk (aW m) i)
         rwa [List.length_take,Nat.min_eq_left (show i<=(digits m).length from Nat.le_of_lt hlt)] at this
       exact Nat.mul_lt_mul'' h2 (cV n)) hy
     rw [e] at hy;exact hy
   simp only [SS,Nat.reduceAdd,qQ hlt,di ha,bg,aI,bo,aP]
   refine VW.ey (α := Nat × Nat × List Nat × Nat) (fun x=>⟨[W m,W n, .top, .top, .top, .osl [14] 1 0 (ag m+ag n) false, .int .i64 i, .int .u32 a, .int .u64 (x.2.2.2:Int)]++List.replicate 16 .top++[W m, .int .i64 (ag m), .int .i64 i]++List.replicate 4 .top++[W n, .int .i64 (ag n), .int .i64 x.1]++List.replicate 40 .top,
     af.put (fun _=>none) [14] (some ⟨us x.2.2.1,1,false⟩),x.2.1⟩)
     (fun x=>x.1<=ag n/\x.2.2.1.length=ag m+ag n/\Wd x.2.2.1/\x.2.2.2<aE/\x.2.2.1[i+ag n]? = some 0/\val x.2.2.1+aE ^ (i+x.1)*x.2.2.2=val o+aE ^ i*(a*val ((digits n).take x.1))) (fun x=>ag n-x.1) (0,nn+10,o,0) ?_ ?_ ?_
   . exact Wk.slots (by simp [Fg,List.replicate]) (by simp only [];omega)
   . exact ⟨Nat.zero_le _,ho,hwd,cW,OA,by simp [val]⟩
   rintro ⟨j,mm,o',c⟩ ⟨hj,Ss,KJ,hc,hz,hv'⟩
   simp only [] at hj Ss KJ hc hz hv'
   have Mz:j<ag n->decide ((j:Int)<(ag n:Int))=true:=fun h=>ay (by omega)
   have MA : ¬ j<ag n->decide ((j:Int)<(ag n:Int))=false:=fun h=>au (by omega)
   have Ls : ¬ j<ag n->j=ag n:=by omega
   have TV:=aL j (by omega)
   have UI:j<ag n->j+1<=ag n/\ag n-(j+1)<ag n-j:=fun h=>by omega
   have R7:=pa i j (by omega)
   have OC:j<ag n->i+j<ag m+ag n:=fun h=>by omega
   have hne:j<ag n->i+j≠i+ag n:=fun h=>by omega
   simp only [SS]
   by_cases DJ:j<ag n
   . obtain ⟨b,hb⟩:∃ b,(digits n)[j]? = some b:=⟨_,List.getElem?_eq_getElem DJ⟩
     have Ib:=aW n b (List.mem_of_getElem? hb)
     have f2:=bu b Ib
     obtain ⟨z,hzz⟩:∃ z,o'[i+j]? = some z:=⟨_,List.getElem?_eq_getElem (by rw [Ss];exact OC DJ)⟩
     have Yz:=KJ z (List.mem_of_getElem? hzz)
     have f3:=bu z Yz
     have f4:=QN a b wb Ib
     have hle:=Oy wb Ib
     have f5:=qh (a*b) z (by unfold aE at Yz;omega)
     have f6:=qh c (a*b+z) (by unfold aE at Yz hc;omega)
     have hc':(c+(a*b+z))/aE<aE:=by unfold aE at Yz hc ⊢;omega
     have mY:=cN (q:=[14]) (t:=false) (OC DJ)
     have hst:=JG hzz hv' (rfl:c+(a*b+z)=c+(a*b+z))
     simp only [SS,Nat.reduceAdd,Mz DJ,di hb,aI,bo,f1,f2,f4,R7,mY]
     rw [jy (o:=o') (b:=false) (by simp [af.put]) hzz]
     simp only [SS,Nat.reduceAdd,f3,f5,f6,y0,R7,mY]
     rw [bP (o:=o') (by simp [af.put]) (by rw [Ss];exact OC DJ)]
     simp only [SS,Nat.reduceAdd,pt,TV]
     refine ⟨(j+1,_,o'.set (i+j) ((c+(a*b+z))%aE),(c+(a*b+z))/aE),⟨(UI DJ).1,by simp [Ss],KI KJ (Nat.mod_lt _ cW),hc', ?_, ?_⟩,(UI DJ).2,Wk.forget (by simp [Fg]) (fun j => ?_) (Nat.le_refl _)⟩
     . rw [List.getElem?_set_ne (hne DJ)];exact hz
     . show _=val o+aE ^ i*(a*val ((digits n).take (j+1)))
       rw [aN hb];exact hst
     . simp only [af.put];split<;>simp
   . have hjw:=Ls DJ
     have mY:=cN (q:=[14]) (t:=false) (Oz hlt)
     have f7:IntKind.u32.wrap (c:Int)=(c:Int):=by rw [y0,Nat.mod_eq_of_lt hc]
     have hval:val (o'.set (i+ag n) c)=val ((digits m).take (i+1))*n:=by
       have e:=F3 (x:=c) hz
       have e2:(digits n).take (ag n)=digits n:=List.take_of_length_le (Nat.le_refl _)
       rw [hjw,e2,aV,hv] at hv'
       rw [aN ha,Nat.add_mul]
       have e3:aE ^ i*a*n=aE ^ i*(a*n):=Nat.mul_assoc _ _ _
       omega
     simp only [SS,Nat.reduceAdd,MA DJ,bg,nk,f7,mY]
     rw [bP (o:=o') (by simp [af.put]) (by rw [Ss];exact Oz hlt)]
     simp only [SS,Nat.reduceAdd,tq]
     refine ⟨(i+1,_,o'.set (i+ag n) c),⟨(jv hlt).1,by simp [Ss],KI KJ hc,hval⟩,(jv hlt).2,Wk.forget (by simp [Fg]) (fun j => ?_) (Nat.le_refl _)⟩
     simp only [af.put];split<;>simp
 . have p7:=dH hlt
   have e1:(digits m).take (ag m)=digits m:=List.take_of_length_le (Nat.le_refl _)
   have Bp:val o=m*n:=by rw [hv,p7,e1,aV]
   have Ay:=ht o hwd (by rw [ho];omega)
   rw [Bp] at Ay
   simp only [SS,Nat.reduceAdd,yw hlt]
   refine bJ [([14],⟨us o,1,false⟩)] Ay (aG.cons (g7 ho.symm) aG.nil) (by simp [af.put]) ?_
   simp only [SS,Nat.reduceAdd]
   exact ai▸ae rfl (aB _)
end
end Go.VL
end

section
set_option linter.unusedVariables false
namespace Go.VL
theorem OD {k:IntKind} {a b:Int}:bR .or .int (.int k a) (.int k b)=some (.int k (k.wrap (BitVec.ofInt k.bits a ||| BitVec.ofInt k.bits b).toNat)):=by
 simp only [bR];rw [show m9 .or .int (.int k a) (.int k b)=some (.int k (k.wrap (BitVec.ofInt k.bits a ||| BitVec.ofInt k.bits b).toNat)) from by simp [m9,wG,bitsOf]]
theorem abT (a b:Nat) (ha:a<18446744073709551616) (hb:b<18446744073709551616):bR .or .int (.int .u64 (a:Int)) (.int .u64 (b:Int))=some (.int .u64 ((a ||| b:Nat):Int)):=by
 have hx:a ||| b<2 ^ 64:=Nat.or_lt_two_pow (by omega) (by omega)
 have h1:(BitVec.ofInt 64 (a:Int)).toNat=a:=by
   rw [BitVec.ofInt_natCast,BitVec.toNat_ofNat];exact Nat.mod_eq_of_lt (by omega)
 have h2:(BitVec.ofInt 64 (b:Int)).toNat=b:=by
   rw [BitVec.ofInt_natCast,BitVec.toNat_ofNat];exact Nat.mod_eq_of_lt (by omega)
 rw [OD]
 show some (AV.int .u64 (IntKind.u64.wrap ((BitVec.ofInt 64 (a:Int) ||| BitVec.ofInt 64 (b:Int)).toNat:Int)))=_
 rw [BitVec.toNat_or,h1,h2,w64 _ (by omega)]
theorem abU (a b:Nat) (ha:a<aE) (hb:b<aE):bR .or .int (.int .u32 (a:Int)) (.int .u32 (b:Int))=some (.int .u32 ((a ||| b:Nat):Int)):=by
 unfold aE at ha hb
 have hx:a ||| b<2 ^ 32:=Nat.or_lt_two_pow (by omega) (by omega)
 have h1:(BitVec.ofInt 32 (a:Int)).toNat=a:=by
   rw [BitVec.ofInt_natCast,BitVec.toNat_ofNat];exact Nat.mod_eq_of_lt (by omega)
 have h2:(BitVec.ofInt 32 (b:Int)).toNat=b:=by
   rw [BitVec.ofInt_natCast,BitVec.toNat_ofNat];exact Nat.mod_eq_of_lt (by omega)
 rw [OD]
 show some (AV.int .u32 (IntKind.u32.wrap ((BitVec.ofInt 32 (a:Int) ||| BitVec.ofInt 32 (b:Int)).toNat:Int)))=_
 rw [BitVec.toNat_or,h1,h2,y0,Nat.mod_eq_of_lt (by unfold aE;omega)]
theorem JH (a b:Nat) (ha:a<aE) (hb:b<aE):bR .or .int (.int .u64 ((aE*a:Nat):Int)) (.int .u64 (b:Int))=some (.int .u64 ((aE*a+b:Nat):Int)):=by
 rw [abT _ _ (by unfold aE at *;omega) (by unfold aE at *;omega)]
 have:=Nat.two_pow_add_eq_or_of_lt (i:=32) (b:=b) (by unfold aE at hb;omega) a
 rw [show aE=2 ^ 32 from rfl,this]
theorem BW (a:Nat) (ha:a<aE):bR .shl .int (.int .u64 (a:Int)) (.int .u64 32)=some (.int .u64 ((aE*a:Nat):Int)):=by
 rw [QD (by decide)]
 have:IntKind.u64.wrap ((a:Int)*2 ^ (min (32:Int).toNat IntKind.u64.bits))=((aE*a:Nat):Int):=by
   show IntKind.u64.wrap ((a:Int)*2 ^ 32)=_
   rw [IntKind.wrap_u64];unfold aE at *;omega
 rw [this]
theorem JI (a b:Nat) (ha:a<18446744073709551616) (hb:b≠0):bR .quo .int (.int .u64 (a:Int)) (.int .u64 (b:Int))=some (.int .u64 ((a/b:Nat):Int)):=by
 rw [Kv (by omega)]
 show some (AV.int .u64 (IntKind.u64.wrap ((a/b:Nat):Int)))=_
 rw [w64 _ (Nat.lt_of_le_of_lt (Nat.div_le_self _ _) ha)]
theorem JJ (a b:Nat) (hb:b≠0):bR .rem .int (.int .u64 (a:Int)) (.int .u64 (b:Int))=some (.int .u64 ((a%b:Nat):Int)):=by
 rw [Qw (by omega)];rfl
def zs (k:Nat):List Nat:=List.replicate k 0
theorem x5:zs 0=[]:=rfl
theorem Af (q:List Nat) (j x:Nat):(zs (j+1)++q).set j x=zs j++x::q:=by
 unfold zs
 rw [List.replicate_succ',List.append_assoc,List.set_append_right _ _ (by simp)]
 simp
section
variable {P:Program} {G:Nat->Option (List AV)}
theorem IK {f ft fu:FuncId} (h:Has P f (lN ft fu)) (ht:iW P G ft) (hu:∀ n,n<18446744073709551616->VP P G fu [.int .u64 ((n:Nat):Int)] (W n)) (m w:Nat) (hm:ag m<=1000000) (hw:w<aE) (Oo:w≠0) :
   VP P G f [W m, .int .u32 (w:Int)] (.tup [W (m/w),W (m%w)]):=by
 refine VP.has h ?_
 have uM:∀ p:Id,jr p 1 4 (.int .u32 0) (.int .i64 (ag m:Int)) (.int .i64 (ag m:Int))=some { val := .osl p 1 0 (ag m) false,up:=[(p,some ⟨us (List.replicate (ag m) 0),1,false⟩)] }:=fun p=>nW (by omega)
 have hwL:IntKind.i64.wrap ((ag m:Int)-1)=(ag m:Int)-1:=by rw [IntKind.wrap_i64];omega
 have f0:=bu w hw
 have hwz:((w:Nat):Int)≠0:=by omega
 simp only [lN,SS,Nat.reduceAdd,bg,uM,hwL,aP]
 refine VW.ey (α := Nat × Nat × List Nat × Nat) (fun x=>⟨[W m, .int .u32 (w:Int), .top, .top, .top, .top, .osl [4] 1 0 (ag m) false, .int .u64 (x.2.2.2:Int), .int .i64 ((x.1:Int)-1)]++List.replicate 34 .top,
   af.put (fun _=>none) [4] (some ⟨us (zs x.1++x.2.2.1),1,false⟩),x.2.1⟩)
   (fun x=>x.1+x.2.2.1.length=ag m/\Wd x.2.2.1/\x.2.2.2<w/\val ((digits m).drop x.1)=val x.2.2.1*w+x.2.2.2) (fun x=>x.1) (ag m,11,[],0) ?_ ?_ ?_
 . rw [List.append_nil];exact Wk.slots (by simp [Fg,List.replicate]) (Nat.le_refl _)
 . refine ⟨by simp,by intro w hw;simp at hw,Nat.pos_of_ne_zero Oo, ?_⟩
   show val ((digits m).drop (ag m))=_
   rw [List.drop_eq_nil_of_le (show (digits m).length<=ag m from Nat.le_refl _)];simp [val]
 rintro ⟨k,nn,q,r⟩ ⟨hk,hwd,hr,hv⟩
 simp only [] at hk hwd hr hv
 by_cases h0:k=0
 . subst h0
   have d0:decide ((0:Int)<=((0:Nat):Int)-1)=false:=by decide
   have e:m/w=val q/\m%w=r:=by
     rw [List.drop_zero,aV] at hv
     refine (Nat.div_mod_unique (Nat.pos_of_ne_zero Oo)).2 ⟨?_,hr⟩
     rw [hv,Nat.mul_comm w];omega
   have Ay:=ht q hwd (by omega)
   rw [<- e.1] at Ay
   have N4:=hu r (by unfold aE at hw;omega)
   have hq:ag m=q.length:=by omega
   simp only [SS,Nat.reduceAdd,d0,x5]
   refine bJ [([4],⟨us q,1,false⟩)] Ay (aG.cons (g7 hq) aG.nil) (by simp [af.put]) ?_
   simp only [SS,Nat.reduceAdd]
   refine ah N4 (by simp [aa.int]) ?_
   simp only [SS,Nat.reduceAdd]
   rw [e.2]
   exact ai▸ae rfl (aa.tup (by intro c hc;simp at hc;rcases hc with rfl | rfl<;>exact aB _))
 . obtain ⟨j,rfl⟩:∃ j,k=j+1:=⟨k-1,by omega⟩
   have d0:decide ((0:Int)<=(j:Int))=true:=ay (by omega)
   have hj:((j+1:Nat):Int)-1=(j:Int):=by omega
   have wI:j<ag m:=by omega
   have TV:IntKind.i64.wrap ((j:Int)-1)=(j:Int)-1:=by rw [IntKind.wrap_i64];omega
   obtain ⟨a,ha⟩:∃ a,(digits m)[j]? = some a:=⟨_,List.getElem?_eq_getElem wI⟩
   have wb:=aW m a (List.mem_of_getElem? ha)
   have f1:=bu a wb
   have MB:r<aE:=by omega
   have f2:=BW r MB
   have f3:=JH r a MB wb
   have hlt:aE*r+a<18446744073709551616:=by unfold aE at *;omega
   have f4:=JI (aE*r+a) w hlt Oo
   have f5:=JJ (aE*r+a) w Oo
   have Vc:(aE*r+a)/w<aE:=by
     rw [Nat.div_lt_iff_lt_mul (Nat.pos_of_ne_zero Oo)]
     have:aE*(r+1)<=aE*w:=Nat.mul_le_mul_left _ hr
     rw [Nat.mul_add] at this
     omega
   have f6:IntKind.u32.wrap (((aE*r+a)/w:Nat):Int)=(((aE*r+a)/w:Nat):Int):=by rw [y0,Nat.mod_eq_of_lt Vc]
   have mY:=cN (q:=[4]) (t:=false) wI
   have hol:j<(zs (j+1)++q).length:=by simp [zs];omega
   have hv':val ((digits m).drop j)=val ((aE*r+a)/w::q)*w+(aE*r+a)%w:=by
     rw [List.drop_eq_getElem_cons (show j<(digits m).length from wI)]
     obtain ⟨_,h2⟩:=List.getElem?_eq_some_iff.1 ha
     rw [h2]
     simp only [val]
     rw [hv,Nat.add_mul,Nat.mul_add,Nat.mul_assoc aE]
     have:=Nat.div_add_mod (aE*r+a) w
     rw [Nat.mul_comm] at this
     omega
   have QH:j+((aE*r+a)/w::q).length=ag m:=by simp;omega
   simp only [SS,Nat.reduceAdd,d0,hj,di ha,aI,bo,f0,f1,f2,f3,f4,f6,mY]
   rw [bP (o:=zs (j+1)++q) (by simp [af.put]) hol,Af]
   simp only [SS,Nat.reduceAdd,f0,f5,TV]
   refine ⟨(j,_,(aE*r+a)/w::q,(aE*r+a)%w),⟨QH, ?_,Nat.mod_lt _ (Nat.pos_of_ne_zero Oo),hv'⟩,Nat.lt_succ_self j,Wk.forget (by simp [Fg]) (fun j => ?_) (Nat.le_refl _)⟩
   . intro z hz
     rcases List.mem_cons.1 hz with rfl | hz
     . exact Vc
     . exact hwd z hz
   . simp only [af.put];split<;>simp
end
end Go.VL
end

section
set_option linter.unusedVariables false
namespace Go.VL
def pad:Nat->Nat->List Nat
 | 0,_=>[]
 | k+1,n=>n%aE::pad k (n/aE)
theorem kK (k n:Nat):(pad k n).length=k:=by
 induction k generalizing n with
 | zero=>rfl
 | succ k ih=>simp [pad,ih]
theorem sk (k n:Nat):Wd (pad k n):=by
 induction k generalizing n with
 | zero=>intro w hw;simp [pad] at hw
 | succ k ih =>
   intro w hw
   rcases List.mem_cons.1 hw with rfl | hw
   . exact Nat.mod_lt _ cW
   . exact ih _ w hw
theorem BX {o:List Nat} (h:Wd o):pad o.length (val o)=o:=by
 induction o with
 | nil=>rfl
 | cons w o ih =>
   have hw:=h w List.mem_cons_self
   simp only [List.length_cons,pad,val]
   rw [Nat.add_mul_mod_self_left,Nat.mod_eq_of_lt hw,Nat.add_mul_div_left _ _ cW,Nat.div_eq_of_lt hw,Nat.zero_add,ih fun z hz=>h z (List.mem_cons_of_mem _ hz)]
theorem fZ {k n:Nat} (h:n<aE ^ k):val (pad k n)=n:=by
 induction k generalizing n with
 | zero=>simp at h;simp [pad,val,h]
 | succ k ih =>
   simp only [pad,val]
   rw [ih (by rw [Nat.div_lt_iff_lt_mul cW];rwa [Nat.pow_succ] at h),Nat.mod_add_div]
theorem aaJ (k:Nat):Wd (zs k):=Hz k
theorem iX (k:Nat):zs (k+1)=0::zs k:=rfl
theorem x6 (o:List Nat) (c:Nat) (t:List Nat) {i:Nat} (h:o.length=i):(o++c::t)[i]? = some c:=by subst h;simp
theorem fL (o:List Nat) (c:Nat) (t:List Nat) {i:Nat} (x:Nat) (h:o.length=i):(o++c::t).set i x=o++x::t:=by
 subst h;rw [List.set_append_right _ _ (Nat.le_refl _),Nat.sub_self,List.set_cons_zero]
theorem MC (o:List Nat) (c d:Nat) (t:List Nat) {i:Nat} (x:Nat) (h:o.length=i):(o++c::d::t).set (i+1) x=(o++[c])++x::t:=by
 have e:o++c::d::t=(o++[c])++d::t:=by simp
 rw [e];exact fL _ _ _ _ (by simp [h])
theorem we {s:Nat} (hs:s<=32):2 ^ (32-s)*2 ^ s=aE:=by
 rw [<- Nat.pow_add,Nat.sub_add_cancel hs];rfl
theorem MD {x c s:Nat} (hs:s<=32) (hc:c<2 ^ s) (hx:x<aE):c ||| ((x*2 ^ s)%aE)=c+(x*2 ^ s)%aE/\c+(x*2 ^ s)%aE<aE/\(x*2 ^ s)/aE<2 ^ s:=by
 have hB:=we hs
 have e:(x*2 ^ s)%aE=2 ^ s*(x%2 ^ (32-s)):=by rw [<- hB,Nat.mul_mod_mul_right,Nat.mul_comm]
 have hlt:x%2 ^ (32-s)<2 ^ (32-s):=Nat.mod_lt _ (Nat.two_pow_pos _)
 have h1:2 ^ s*(x%2 ^ (32-s)+1)<=2 ^ s*2 ^ (32-s):=Nat.mul_le_mul_left _ hlt
 rw [Nat.mul_add,Nat.mul_comm (2 ^ s) (2 ^ (32-s)),hB] at h1
 refine ⟨?_,by rw [e];omega, ?_⟩
 . rw [e,Nat.or_comm, <- Nat.two_pow_add_eq_or_of_lt hc,Nat.add_comm]
 . rw [Nat.div_lt_iff_lt_mul cW,Nat.mul_comm]
   exact Nat.mul_lt_mul_of_pos_left hx (Nat.two_pow_pos _)
theorem Vd (x s:Nat) (hs:s<=32) (hx:x<aE):bR .shl .int (.int .u64 (x:Int)) (.int .i64 (s:Int))=some (.int .u64 ((x*2 ^ s:Nat):Int)):=by
 rw [QD (by omega)]
 have h1:x*2 ^ s<18446744073709551616:=by
   have h2:2 ^ s<=2 ^ 32:=Nat.pow_le_pow_right (by decide) hs
   have h3:x*2 ^ s<=x*2 ^ 32:=Nat.mul_le_mul_left _ h2
   unfold aE at hx;omega
 have h2:min (s:Int).toNat IntKind.u64.bits=s:=by
   show min (s:Int).toNat 64=s
   rw [Int.toNat_natCast];omega
 have h3:(x:Int)*2 ^ s=((x*2 ^ s:Nat):Int):=by rw [Int.natCast_mul,Int.natCast_pow];rfl
 rw [h2,h3,w64 _ h1]
section
variable {P:Program} {G:Nat->Option (List AV)}
theorem Da {f:FuncId} (h:Has P f jx) (m s:Nat) (hm:ag m<=1000000) (hs:s<=31) (p:Id) :
   aZ P G f [W m, .int .i64 (s:Int)] p [] { val := .osl (4::p) 1 0 (ag m+1) false,rd:=[],up:=[(4::p,some ⟨us (pad (ag m+1) (m*2 ^ s)),1,false⟩)] }:=by
 refine aZ.has h ?_
 have hL:=aL (ag m) (by omega)
 have uM:∀ p:Id,jr p 1 4 (.int .u32 0) (.int .i64 ((ag m+1:Nat):Int)) (.int .i64 ((ag m+1:Nat):Int))=some { val := .osl p 1 0 (ag m+1) false,up:=[(p,some ⟨us (List.replicate (ag m+1) 0),1,false⟩)] }:=fun p=>nW (by omega)
 have hz:us (List.replicate (ag m+1) 0)=us (0::zs (ag m)):=rfl
 simp only [jx,SS,Nat.reduceAdd,bg,hL,uM,aP]
 refine VW.ey (α := Nat × Nat × List Nat × Nat) (fun x=>⟨[W m, .int .i64 (s:Int), .top, .top, .top, .osl (4::p) 1 0 (ag m+1) false]++List.replicate 7 .top++[W m, .int .i64 (ag m), .int .i64 x.1]++List.replicate 25 .top,
   af.put (af.of []) (4::p) (some ⟨us (x.2.2.1++x.2.2.2::zs (ag m-x.1)),1,false⟩),x.2.1⟩)
   (fun x=>x.1<=ag m/\x.2.2.1.length=x.1/\Wd x.2.2.1/\x.2.2.2<2 ^ s/\val x.2.2.1+aE ^ x.1*x.2.2.2=val ((digits m).take x.1)*2 ^ s) (fun x=>ag m-x.1) (0,9,[],0) ?_ ?_ ?_
 . exact Wk.slots (by simp [Fg,List.replicate]) (Nat.le_refl _)
 . exact ⟨Nat.zero_le _,rfl,by intro w hw;simp at hw,Nat.two_pow_pos _,by simp [val]⟩
 rintro ⟨i,nn,o,c⟩ ⟨hi,ho,hwd,hc,hv⟩
 simp only [] at hi ho hwd hc hv
 have qQ:i<ag m->decide ((i:Int)<(ag m:Int))=true:=fun h=>ay (by omega)
 have yw : ¬ i<ag m->decide ((i:Int)<(ag m:Int))=false:=fun h=>au (by omega)
 have dH : ¬ i<ag m->i=ag m:=by omega
 have tq:=aL i (by omega)
 have jv:i<ag m->i+1<=ag m/\ag m-(i+1)<ag m-i:=fun h=>by omega
 have hcB:c<aE:=by
   have h2:2 ^ s<=2 ^ 32:=Nat.pow_le_pow_right (by decide) (by omega)
   unfold aE;omega
 simp only [SS]
 by_cases hlt:i<ag m
 . obtain ⟨x,hx⟩:∃ x,(digits m)[i]? = some x:=⟨_,List.getElem?_eq_getElem hlt⟩
   have sy:=aW m x (List.mem_of_getElem? hx)
   have f1:=bu x sy
   have f2:=Vd x s (by omega) sy
   obtain ⟨g1,g2,g3⟩:=MD (s:=s) (by omega) hc sy
   have f3:=abU c (x*2 ^ s%aE) hcB (Nat.mod_lt _ cW)
   rw [g1] at f3
   have g4:x*2 ^ s/aE<aE:=by
     have h2:2 ^ s<=2 ^ 32:=Nat.pow_le_pow_right (by decide) (by omega)
     have:(2:Nat) ^ 32=aE:=rfl
     omega
   have f4:IntKind.u32.wrap ((x*2 ^ s/aE:Nat):Int)=((x*2 ^ s/aE:Nat):Int):=by rw [y0,Nat.mod_eq_of_lt g4]
   have mY:=cN (q:=4::p) (t:=false) (show i<ag m+1 by omega)
   have abV:=cN (q:=4::p) (t:=false) (show i+1<ag m+1 by omega)
   obtain ⟨k,hk⟩:∃ k,ag m-i=k+1:=⟨ag m-i-1,by omega⟩
   have ES:ag m-(i+1)=k:=by omega
   have Au:i<(o++c::0::zs k).length:=by simp;omega
   have RN:i+1<(o++(c+x*2 ^ s%aE)::0::zs k).length:=by simp;omega
   have hv':val (o++[c+x*2 ^ s%aE])+aE ^ (i+1)*(x*2 ^ s/aE)=val ((digits m).take (i+1))*2 ^ s:=by
     rw [aN hx,cv,ho,Nat.add_mul, <- hv]
     simp only [val,Nat.mul_zero,Nat.add_zero,Nat.pow_succ]
     have e2:aE ^ i*(x*2 ^ s%aE)+aE ^ i*(aE*(x*2 ^ s/aE))=aE ^ i*(x*2 ^ s):=by rw [<- Nat.mul_add,Nat.mod_add_div]
     rw [Nat.mul_assoc,Nat.mul_assoc,Nat.mul_add]
     omega
   simp only [SS,Nat.reduceAdd,qQ hlt,di hx,aI,bo,f1,f2,mY,hk,iX]
   rw [jy (o:=o++c::0::zs k) (b:=false) (by simp [af.put]) (x6 _ _ _ ho)]
   simp only [SS,Nat.reduceAdd,y0,f3,mY]
   rw [bP (o:=o++c::0::zs k) (by simp [af.put]) Au,fL _ _ _ _ ho]
   simp only [SS,Nat.reduceAdd,tq,pt,f4,abV]
   rw [bP (o:=o++(c+x*2 ^ s%aE)::0::zs k) (by simp [af.put]) RN,MC _ _ _ _ _ ho]
   simp only [SS,Nat.reduceAdd,tq]
   refine ⟨(i+1,_,o++[c+x*2 ^ s%aE],x*2 ^ s/aE),⟨(jv hlt).1,by simp [ho],cM hwd (by intro z hz;simp at hz;subst hz;exact g2),g3,hv'⟩,(jv hlt).2,Wk.forget (by simp [Fg]) (fun j => ?_) (Nat.le_refl _)⟩
   simp only [af.put,ES];split<;>simp
 . have p7:=dH hlt
   have e1:(digits m).take (ag m)=digits m:=List.take_of_length_le (Nat.le_refl _)
   have Bp:val (o++[c])=m*2 ^ s:=by
     rw [cv,ho];simp only [val,Nat.mul_zero,Nat.add_zero]
     rw [hv,p7,e1,aV]
   have hlen:(o++[c]).length=ag m+1:=by simp [ho,p7]
   have e:pad (ag m+1) (m*2 ^ s)=o++[c]:=by
     rw [<- Bp, <- hlen]
     exact BX (cM hwd (by intro z hz;simp at hz;subst hz;exact hcB))
   have e3:zs (ag m-i)=[]:=by rw [p7,Nat.sub_self];rfl
   simp only [SS,Nat.reduceAdd,yw hlt,e,e3]
   exact eI▸bH rfl fun i => .inr rfl
end
end Go.VL
end

section
set_option linter.unusedVariables false
namespace Go.VL
theorem Db {x y s:Nat} (hs:s<=32) (hx:x<aE):(x/2 ^ s) ||| ((y*2 ^ (32-s))%aE)=x/2 ^ s+2 ^ (32-s)*(y%2 ^ s)/\x/2 ^ s+2 ^ (32-s)*(y%2 ^ s)<aE/\2 ^ s*(x/2 ^ s+2 ^ (32-s)*(y%2 ^ s))+x%2 ^ s=x+aE*(y%2 ^ s):=by
 have hB:=we hs
 have e:(y*2 ^ (32-s))%aE=2 ^ (32-s)*(y%2 ^ s):=by rw [<- hB,Nat.mul_comm y,Nat.mul_mod_mul_left]
 have hlt:y%2 ^ s<2 ^ s:=Nat.mod_lt _ (Nat.two_pow_pos _)
 have hd:x/2 ^ s<2 ^ (32-s):=by rw [Nat.div_lt_iff_lt_mul (Nat.two_pow_pos _),hB];exact hx
 have h1:2 ^ (32-s)*(y%2 ^ s+1)<=2 ^ (32-s)*2 ^ s:=Nat.mul_le_mul_left _ hlt
 rw [Nat.mul_add,hB] at h1
 refine ⟨?_,by omega, ?_⟩
 . rw [e,Nat.or_comm, <- Nat.two_pow_add_eq_or_of_lt hd,Nat.add_comm]
 . have h2:=Nat.div_add_mod x (2 ^ s)
   have h3:2 ^ s*(2 ^ (32-s)*(y%2 ^ s))=aE*(y%2 ^ s):=by rw [<- Nat.mul_assoc,Nat.mul_comm (2 ^ s),hB]
   rw [Nat.mul_add,h3];omega
theorem abW (x s:Nat) (hs:s<=32):bR .shr .int (.int .u32 (x:Int)) (.int .i64 (s:Int))=some (.int .u32 ((x/2 ^ s:Nat):Int)):=by
 rw [s7 (by omega)]
 have h2:min (s:Int).toNat IntKind.u32.bits=s:=by
   show min (s:Int).toNat 32=s
   rw [Int.toNat_natCast];omega
 have h3:(x:Int).fdiv (2 ^ s)=((x/2 ^ s:Nat):Int):=by
   have h4:(2:Int) ^ s=((2 ^ s:Nat):Int):=by rw [Int.natCast_pow];rfl
   rw [h4,Int.fdiv_eq_ediv_of_nonneg _ (Int.natCast_nonneg _)]
   exact (Int.natCast_ediv _ _).symm
 rw [h2,h3]
theorem Ag (m:Nat):((digits m)[0]?).getD 0=m%aE:=by
 by_cases h:m=0
 . rw [h,bA];rfl
 . rw [iz h];rfl
section
variable {P:Program} {G:Nat->Option (List AV)}
theorem Bh {f:FuncId} (h:Has P f gn) (m s:Nat) (hm:ag m<=1000000) (hs:s<=31) :
   VP P G f [W m, .int .i64 (s:Int)] (.sl 1 (us (pad (ag m) (m/2 ^ s)))):=by
 refine VP.has h ?_
 have uM:∀ p:Id,jr p 1 4 (.int .u32 0) (.int .i64 (ag m:Int)) (.int .i64 (ag m:Int))=some { val := .osl p 1 0 (ag m) false,up:=[(p,some ⟨us (List.replicate (ag m) 0),1,false⟩)] }:=fun p=>nW (by omega)
 have hz:us (List.replicate (ag m) 0)=us ([]++zs (ag m-0)):=rfl
 have aii:IntKind.i64.wrap (32-(s:Int))=((32-s:Nat):Int):=by rw [IntKind.wrap_i64];omega
 have h2s:2 ^ s*2 ^ (32-s)=aE:=by rw [Nat.mul_comm];exact we (by omega)
 simp only [gn,SS,Nat.reduceAdd,bg,uM,hz,aP]
 refine VW.ey (α := Nat × Nat × List Nat) (fun x=>⟨[W m, .int .i64 (s:Int), .top, .top, .top, .osl [3] 1 0 (ag m) false]++List.replicate 5 .top++[W m, .int .i64 (ag m), .int .i64 x.1]++List.replicate 33 .top,
   af.put (fun _=>none) [3] (some ⟨us (x.2.2++zs (ag m-x.1)),1,false⟩),x.2.1⟩)
   (fun x=>x.1<=ag m/\x.2.2.length=x.1/\Wd x.2.2/\2 ^ s*val x.2.2+m%2 ^ s=val ((digits m).take x.1)+aE ^ x.1*(((digits m)[x.1]?).getD 0%2 ^ s)) (fun x=>ag m-x.1) (0,8,[]) ?_ ?_ ?_
 . exact Wk.slots (by simp [Fg,List.replicate]) (Nat.le_refl _)
 . refine ⟨Nat.zero_le _,rfl,by intro w hw;simp at hw, ?_⟩
   show 2 ^ s*val []+m%2 ^ s=val ((digits m).take 0)+aE ^ 0*(((digits m)[0]?).getD 0%2 ^ s)
   rw [Ag, <- h2s,Nat.mod_mul_right_mod]
   simp [val]
 rintro ⟨i,nn,o⟩ ⟨hi,ho,hwd,hv⟩
 simp only [] at hi ho hwd hv
 have qQ:i<ag m->decide ((i:Int)<(ag m:Int))=true:=fun h=>ay (by omega)
 have yw : ¬ i<ag m->decide ((i:Int)<(ag m:Int))=false:=fun h=>au (by omega)
 have Mz:i+1<ag m->decide (((i+1:Nat):Int)<(ag m:Int))=true:=fun h=>ay (by omega)
 have MA : ¬ i+1<ag m->decide (((i+1:Nat):Int)<(ag m:Int))=false:=fun h=>au (by omega)
 have dH : ¬ i<ag m->i=ag m:=by omega
 have abX:i<ag m -> ¬ i+1<ag m->i+1=ag m:=by omega
 have tq:=aL i (by omega)
 have jv:i<ag m->i+1<=ag m/\ag m-(i+1)<ag m-i:=fun h=>by omega
 simp only [SS]
 by_cases hlt:i<ag m
 . obtain ⟨x,hx⟩:∃ x,(digits m)[i]? = some x:=⟨_,List.getElem?_eq_getElem hlt⟩
   have sy:=aW m x (List.mem_of_getElem? hx)
   have f2:=abW x s (by omega)
   have mY:=cN (q:=[3]) (t:=false) hlt
   obtain ⟨k,hk⟩:∃ k,ag m-i=k+1:=⟨ag m-i-1,by omega⟩
   have ES:ag m-(i+1)=k:=by omega
   have Au:i<(o++0::zs k).length:=by simp;omega
   have RN:i<(o++(x/2 ^ s)::zs k).length:=by simp;omega
   have hstep:∀ y w,w=x/2 ^ s+2 ^ (32-s)*(y%2 ^ s)->2 ^ s*w+x%2 ^ s=x+aE*(y%2 ^ s)->((digits m)[i+1]?).getD 0=y ->
       2 ^ s*val (o++[w])+m%2 ^ s=val ((digits m).take (i+1))+aE ^ (i+1)*(((digits m)[i+1]?).getD 0%2 ^ s):=by
     intro y w _ hw hy
     rw [hx,Option.getD_some] at hv
     rw [aN hx,cv,ho,hy]
     simp only [val,Nat.mul_zero,Nat.add_zero,Nat.pow_succ]
     have e1:aE ^ i*(2 ^ s*w)+aE ^ i*(x%2 ^ s)=aE ^ i*x+aE ^ i*(aE*(y%2 ^ s)):=by rw [<- Nat.mul_add,hw,Nat.mul_add]
     have e2:2 ^ s*(val o+aE ^ i*w)=2 ^ s*val o+aE ^ i*(2 ^ s*w):=by rw [Nat.mul_add,Nat.mul_left_comm]
     rw [e2,Nat.mul_assoc]
     omega
   by_cases hn:i+1<ag m
   . obtain ⟨y,hy⟩:∃ y,(digits m)[i+1]? = some y:=⟨_,List.getElem?_eq_getElem hn⟩
     have EF:=aW m y (List.mem_of_getElem? hy)
     have f1:=bu y EF
     have f3:=Vd y (32-s) (by omega) EF
     obtain ⟨g1,g2,g3⟩:=Db (y:=y) (s:=s) (by omega) sy
     have f4:=abU (x/2 ^ s) (y*2 ^ (32-s)%aE) (Nat.lt_of_le_of_lt (Nat.div_le_self _ _) sy) (Nat.mod_lt _ cW)
     rw [g1] at f4
     have hv':=hstep y _ rfl g3 (by rw [hy];rfl)
     simp only [SS,Nat.reduceAdd,qQ hlt,di hx,aI,bo,f2,mY,hk,iX]
     rw [bP (o:=o++0::zs k) (by simp [af.put]) Au,fL _ _ _ _ ho]
     simp only [SS,DD,Nat.reduceAdd,tq,bg,Mz hn,mY]
     rw [jy (o:=o++(x/2 ^ s)::zs k) (b:=false) (by simp [af.put]) (x6 _ _ _ ho)]
     simp only [SS,DD,Nat.reduceAdd,tq,di hy,aI,bo,f1,aii,f3,y0,f4,mY]
     rw [bP (o:=o++(x/2 ^ s)::zs k) (by simp [af.put]) RN,fL _ _ _ _ ho]
     simp only [SS,DD,Nat.reduceAdd,tq]
     refine ⟨by simp [ab], ?_⟩
     refine ⟨(i+1,_,o++[x/2 ^ s+2 ^ (32-s)*(y%2 ^ s)]),⟨(jv hlt).1,by simp [ho],cM hwd (by intro z hz;simp at hz;subst hz;exact g2),hv'⟩,(jv hlt).2,Wk.forget (by simp [Fg]) (fun j => ?_) (Nat.le_refl _)⟩
     simp only [af.put,ES];split<;>simp
   . have Cu:(digits m)[i+1]? = none:=List.getElem?_eq_none (by have:=abX hlt hn;show ag m<=i+1;omega)
     obtain ⟨g1,g2,g3⟩:=Db (y:=0) (s:=s) (by omega) sy
     have e0:x/2 ^ s+2 ^ (32-s)*(0%2 ^ s)=x/2 ^ s:=by simp
     rw [e0] at g2 g3
     have hv':=hstep 0 (x/2 ^ s) e0.symm g3 (by rw [Cu];rfl)
     simp only [SS,Nat.reduceAdd,qQ hlt,di hx,aI,bo,f2,mY,hk,iX]
     rw [bP (o:=o++0::zs k) (by simp [af.put]) Au,fL _ _ _ _ ho]
     simp only [SS,Nat.reduceAdd,tq,bg,MA hn]
     refine ⟨(i+1,_,o++[x/2 ^ s]),⟨(jv hlt).1,by simp [ho],cM hwd (by intro z hz;simp at hz;subst hz;exact g2),hv'⟩,(jv hlt).2,Wk.forget (by simp [Fg]) (fun j => ?_) (Nat.le_refl _)⟩
     simp only [af.put,ES];split<;>simp
 . have p7:=dH hlt
   have e1:(digits m).take (ag m)=digits m:=List.take_of_length_le (Nat.le_refl _)
   have Cu:(digits m)[ag m]? = none:=List.getElem?_eq_none (Nat.le_refl _)
   have Bp:val o=m/2 ^ s:=by
     rw [p7,e1,aV,Cu] at hv
     have h1:=Nat.div_add_mod m (2 ^ s)
     have h2:2 ^ s*val o=2 ^ s*(m/2 ^ s):=by
       simp at hv;omega
     exact Nat.eq_of_mul_eq_mul_left (Nat.two_pow_pos _) h2
   have hlen:o.length=ag m:=by rw [ho,p7]
   have e:pad (ag m) (m/2 ^ s)=o:=by rw [<- Bp, <- hlen];exact BX hwd
   have e3:zs (ag m-i)=[]:=by rw [p7,Nat.sub_self];rfl
   simp only [SS,Nat.reduceAdd,yw hlt,e,e3]
   exact ai▸Hy (b:=false) rfl (by simp [af.put]) hlen.symm
end
end Go.VL
end

section
set_option linter.unusedVariables false
namespace Go.VL
theorem F4 (k n c:Nat):pad k (n+aE ^ k*c)=pad k n:=by
 induction k generalizing n with
 | zero=>rfl
 | succ k ih =>
   have e:aE ^ (k+1)*c=aE*(aE ^ k*c):=by rw [Nat.pow_succ,Nat.mul_comm (aE ^ k),Nat.mul_assoc]
   simp only [pad]
   rw [e,Nat.add_mul_mod_self_left,Nat.add_mul_div_left _ _ cW,ih]
theorem pR {q:Id} {off len i:Nat} {t:Bool} (h:i<len):cx 1 (.osl q 1 off len t) (.int .i64 (i:Int))=some (.ref q (off+i) 0):=by
 simp only [cx]
 rw [if_pos ⟨trivial,by omega,by omega⟩]
 simp
theorem JK {x k:Nat} (hx:x<aE) (hk:k<=aE):∃ w c':Nat,w<aE/\c'<=1/\w+k=x+aE*c'/\IntKind.u32.wrap (IntKind.u64.wrap ((x:Int)-(k:Int)))=(w:Int) /\
   bR .shr .int (.int .u64 (IntKind.u64.wrap ((x:Int)-(k:Int)))) (.int .u64 63)=some (.int .u64 (c':Int)):=by
 have PJ:∀ a:Int,bR .shr .int (.int .u64 a) (.int .u64 63)=some (.int .u64 (a/9223372036854775808)):=fun a=>by
   rw [s7 (by decide)]
   show some (AV.int .u64 (a.fdiv (2 ^ 63)))=_
   rw [Int.fdiv_eq_ediv_of_nonneg _ (by decide)];rfl
 rw [PJ]
 unfold aE at *
 by_cases h:k<=x
 . refine ⟨x-k,0,by omega,by omega,by omega, ?_, ?_⟩
   . rw [IntKind.wrap_u32,IntKind.wrap_u64];omega
   . rw [IntKind.wrap_u64];congr 2;omega
 . refine ⟨x+4294967296-k,1,by omega,by omega,by omega, ?_, ?_⟩
   . rw [IntKind.wrap_u32,IntKind.wrap_u64];omega
   . rw [IntKind.wrap_u64];congr 2;omega
theorem Dc {b:List Nat} {k:Nat} (h:b.length=k):val (b.take k)=val b:=by rw [List.take_of_length_le (Nat.le_of_eq h)]
theorem JL {i j:Id} {b c:cZ} {d:Option cZ}:(af.of [(i,b)]).put i d j=(af.of [(i,c)]).put i d j:=by
 by_cases h:j=i
 . subst h;rw [af.dE,af.dE]
 . rw [af.cC _ _ _ h,af.cC _ _ _ h]
   have:(j==i)=false:=by simpa using h
   simp [af.of,List.lookup,this]
section
variable {P:Program} {G:Nat->Option (List AV)}
theorem ME {f:FuncId} (h:Has P f j7) {id:Id} {a b t:List Nat} {v q:Nat} {tight:Bool} (hv:ag v<=1000000) (hb:b.length=ag v+1) (TW:Wd b) (hq:q<aE) (p:Id) :
   aZ P G f [.osl id 1 a.length (ag v+1) tight,W v, .int .u64 (q:Int)] p [(id,⟨us (a++b++t),1,false⟩)]
     { val := .bool (decide (val b<q*v)),rd:=[id],up:=[(id,some ⟨us (a++pad (ag v+1) (val b+aE ^ (ag v+1)-q*v)++t),1,false⟩)] }:=by
 refine aZ.has h ?_
 simp only [j7,SS,Nat.reduceAdd,bg,aP]
 refine VW.ey (α := Nat × Nat × List Nat × Nat) (fun x=>⟨[.osl id 1 a.length (ag v+1) tight,W v, .int .u64 (q:Int), .top, .top, .top, .top, .int .u64 (x.2.2.2:Int)]++List.replicate 5 .top++[W v, .int .i64 (ag v), .int .i64 x.1]++List.replicate 47 .top,
   af.of [(id,⟨us ((a++x.2.2.1)++(b.drop x.1++t)),1,false⟩)],x.2.1⟩)
   (fun x=>x.1<=ag v/\x.2.2.1.length=x.1/\Wd x.2.2.1/\x.2.2.2<=aE/\val x.2.2.1+val ((digits v).take x.1)*q=val (b.take x.1)+aE ^ x.1*x.2.2.2) (fun x=>ag v-x.1) (0,5,[],0) ?_ ?_ ?_
 . exact Wk.forget (by simp [Fg,List.replicate]) (fun j=>by simp) (Nat.le_refl _)
 . exact ⟨Nat.zero_le _,rfl,by intro w hw;simp at hw,Nat.zero_le _,by simp [val]⟩
 rintro ⟨i,nn,o,k⟩ ⟨hi,ho,hwd,hk,hv'⟩
 simp only [] at hi ho hwd hk hv'
 have qQ:i<ag v->decide ((i:Int)<(ag v:Int))=true:=fun h=>ay (by omega)
 have yw : ¬ i<ag v->decide ((i:Int)<(ag v:Int))=false:=fun h=>au (by omega)
 have dH : ¬ i<ag v->i=ag v:=by omega
 have tq:=aL i (by omega)
 have jv:i<ag v->i+1<=ag v/\ag v-(i+1)<ag v-i:=fun h=>by omega
 have hib:i<b.length:=by omega
 have mY:=pR (q:=id) (off:=a.length) (t:=tight) (show i<ag v+1 by omega)
 obtain ⟨x,hx⟩:∃ x,b[i]? = some x:=⟨_,List.getElem?_eq_getElem hib⟩
 have sy:=TW x (List.mem_of_getElem? hx)
 have hdr:b.drop i=x::b.drop (i+1):=by
   obtain ⟨_,h2⟩:=List.getElem?_eq_some_iff.1 hx
   rw [List.drop_eq_getElem_cons hib,h2]
 have f1:=bu x sy
 have Ve:(a++o).length=a.length+i:=by rw [List.length_append,ho]
 have Au:a.length+i<((a++o)++x::(b.drop (i+1)++t)).length:=by rw [List.length_append,Ve];simp
 simp only [SS]
 by_cases hlt:i<ag v
 . obtain ⟨y,hy⟩:∃ y,(digits v)[i]? = some y:=⟨_,List.getElem?_eq_getElem hlt⟩
   have EF:=aW v y (List.mem_of_getElem? hy)
   have f2:=bu y EF
   have f3:=QN y q EF hq
   have hle:=Oy EF hq
   have f4:=qh (y*q) k (by unfold aE at hk;omega)
   have f5:IntKind.u64.wrap (((y*q+k)%aE:Nat):Int)=(((y*q+k)%aE:Nat):Int):=bu _ (Nat.mod_lt _ cW)
   obtain ⟨w,c',h1,h2,h3,h4,h5⟩:=JK (k:=(y*q+k)%aE) sy (Nat.le_of_lt (Nat.mod_lt _ cW))
   have hdq:(y*q+k)/aE+1<=aE:=by unfold aE at hk ⊢;omega
   have f6:=qh ((y*q+k)/aE) c' (by unfold aE at hdq ⊢;omega)
   have Ul:(y*q+k)/aE+c'<=aE:=by omega
   have hst:w+y*q+k=x+aE*((y*q+k)/aE+c'):=by
     have:=Nat.mod_add_div (y*q+k) aE
     rw [Nat.mul_add];omega
   have Vf:=n8 (va:=val (b.take i)) (vb:=val ((digits v).take i)*q) ho (by rw [hv'];omega) hst
   simp only [SS,Nat.reduceAdd,qQ hlt,di hy,aI,bo,f2,f3,f4,mY,hdr]
   rw [jy (o:=(a++o)++x::(b.drop (i+1)++t)) (b:=false) (by simp [af.of]) (x6 _ _ _ Ve)]
   simp only [SS,Nat.reduceAdd,f1,y0,f5,h4,mY]
   rw [bP (o:=(a++o)++x::(b.drop (i+1)++t)) (by simp [af.of]) Au,fL _ _ _ _ Ve]
   simp only [SS,Nat.reduceAdd,pt,h5,f6,tq]
   refine ⟨(i+1,_,o++[w],(y*q+k)/aE+c'),⟨(jv hlt).1,by simp [ho],cM hwd (by intro z hz;simp at hz;subst hz;exact h1),Ul, ?_⟩,(jv hlt).2,Wk.forget (by simp [Fg]) (fun j => ?_) (Nat.le_refl _)⟩
   . show val (o++[w])+val ((digits v).take (i+1))*q=_
     rw [aN hx,aN hy,Nat.add_mul,Nat.mul_assoc];exact Vf
   . simp only [af.put,af.of];split<;>simp_all
 . have p7:=dH hlt
   subst p7
   obtain ⟨w,c',h1,h2,h3,h4,h5⟩:=JK (k:=k) sy hk
   have F1:b.drop (ag v+1)=[]:=List.drop_eq_nil_of_le (by omega)
   have e1:(digits v).take (ag v)=digits v:=List.take_of_length_le (Nat.le_refl _)
   have e2:val (b.take (ag v+1))=val b:=Dc hb
   have Vf:=n8 (va:=val (b.take (ag v))) (vb:=val ((digits v).take (ag v))*q) (y:=0) (c:=k) (w:=w) (c':=c') (x:=x) ho (by rw [hv'];omega) (by omega)
   rw [e1,aV, <- aN hx,e2,Nat.mul_zero,Nat.add_zero,Nat.mul_comm v q] at Vf
   have YA:Wd (o++[w]):=cM hwd (by intro z hz;simp at hz;subst hz;exact h1)
   have y5:(o++[w]).length=ag v+1:=by simp [ho]
   have y9:val (o++[w])<aE ^ (ag v+1):=by have:=mO YA;rwa [y5] at this
   have e:pad (ag v+1) (val b+aE ^ (ag v+1)-q*v)=o++[w]/\decide ((c':Int)=1)=decide (val b<q*v):=by
     rcases Nat.le_one_iff_eq_zero_or_eq_one.1 h2 with h0 | h0
     . rw [h0] at Vf ⊢
       refine ⟨?_, ?_⟩
       . have:val b+aE ^ (ag v+1)-q*v=val (o++[w])+aE ^ (ag v+1)*1:=by omega
         rw [this,F4, <- y5];exact BX YA
       . rw [au (show ¬ val b<q*v by omega)];rfl
     . rw [h0] at Vf ⊢
       refine ⟨?_, ?_⟩
       . have:val b+aE ^ (ag v+1)-q*v=val (o++[w]):=by omega
         rw [this, <- y5];exact BX YA
       . rw [ay (show val b<q*v by omega)];rfl
   simp only [SS,Nat.reduceAdd,yw hlt,bg,mY,hdr]
   rw [jy (o:=(a++o)++x::(b.drop (ag v+1)++t)) (b:=false) (by simp [af.of]) (x6 _ _ _ Ve)]
   simp only [SS,Nat.reduceAdd,f1,h4,mY,bg]
   rw [bP (o:=(a++o)++x::(b.drop (ag v+1)++t)) (by simp [af.of]) Au,fL _ _ _ _ Ve,F1]
   simp only [SS,Nat.reduceAdd,h5,e.2,e.1]
   have e5:a++(o++[w])++t=a++o++w::t:=by simp
   refine eI▸bH rfl fun i => .inr ?_
   simp only [af.app,e5];exact JL
end
end Go.VL
end

section
set_option linter.unusedVariables false
namespace Go.VL
section
variable {P:Program} {G:Nat->Option (List AV)}
theorem OE {f:FuncId} (h:Has P f lE) {id:Id} {a b t:List Nat} {v:Nat} {tight:Bool} (hv:ag v<=1000000) (hb:b.length=ag v+1) (TW:Wd b) (p:Id) :
   aZ P G f [.osl id 1 a.length (ag v+1) tight,W v] p [(id,⟨us (a++b++t),1,false⟩)]
     { val := .tup [],rd:=[id],up:=[(id,some ⟨us (a++pad (ag v+1) (val b+v)++t),1,false⟩)] }:=by
 refine aZ.has h ?_
 simp only [lE,SS,Nat.reduceAdd,bg,aP]
 refine VW.ey (α := Nat × Nat × List Nat × Nat) (fun x=>⟨[.osl id 1 a.length (ag v+1) tight,W v, .top, .top, .int .u64 (x.2.2.2:Int)]++List.replicate 2 .top++[W v, .int .i64 (ag v), .int .i64 x.1]++List.replicate 31 .top,
   af.of [(id,⟨us ((a++x.2.2.1)++(b.drop x.1++t)),1,false⟩)],x.2.1⟩)
   (fun x=>x.1<=ag v/\x.2.2.1.length=x.1/\Wd x.2.2.1/\x.2.2.2<=1/\val x.2.2.1+aE ^ x.1*x.2.2.2=val (b.take x.1)+val ((digits v).take x.1)) (fun x=>ag v-x.1) (0,4,[],0) ?_ ?_ ?_
 . exact Wk.forget (by simp [Fg,List.replicate]) (fun j=>by simp) (Nat.le_refl _)
 . exact ⟨Nat.zero_le _,rfl,by intro w hw;simp at hw,Nat.zero_le _,by simp [val]⟩
 rintro ⟨i,nn,o,k⟩ ⟨hi,ho,hwd,hk,hv'⟩
 simp only [] at hi ho hwd hk hv'
 have qQ:i<ag v->decide ((i:Int)<(ag v:Int))=true:=fun h=>ay (by omega)
 have yw : ¬ i<ag v->decide ((i:Int)<(ag v:Int))=false:=fun h=>au (by omega)
 have dH : ¬ i<ag v->i=ag v:=by omega
 have tq:=aL i (by omega)
 have jv:i<ag v->i+1<=ag v/\ag v-(i+1)<ag v-i:=fun h=>by omega
 have hib:i<b.length:=by omega
 have mY:=pR (q:=id) (off:=a.length) (t:=tight) (show i<ag v+1 by omega)
 obtain ⟨x,hx⟩:∃ x,b[i]? = some x:=⟨_,List.getElem?_eq_getElem hib⟩
 have sy:=TW x (List.mem_of_getElem? hx)
 have hdr:b.drop i=x::b.drop (i+1):=by
   obtain ⟨_,h2⟩:=List.getElem?_eq_some_iff.1 hx
   rw [List.drop_eq_getElem_cons hib,h2]
 have f1:=bu x sy
 have Ve:(a++o).length=a.length+i:=by rw [List.length_append,ho]
 have Au:a.length+i<((a++o)++x::(b.drop (i+1)++t)).length:=by rw [List.length_append,Ve];simp
 simp only [SS]
 by_cases hlt:i<ag v
 . obtain ⟨y,hy⟩:∃ y,(digits v)[i]? = some y:=⟨_,List.getElem?_eq_getElem hlt⟩
   have EF:=aW v y (List.mem_of_getElem? hy)
   have f2:=bu y EF
   have f3:=qh x y (by unfold aE at sy EF;omega)
   have f4:=qh k (x+y) (by unfold aE at sy EF;omega)
   have Ul:(k+(x+y))/aE<=1:=by unfold aE at sy EF ⊢;omega
   have Vf:=nB (x:=x) (y:=y) (s:=k+(x+y)) ho hv' (by omega)
   simp only [SS,Nat.reduceAdd,qQ hlt,di hy,aI,bo,mY,hdr]
   rw [jy (o:=(a++o)++x::(b.drop (i+1)++t)) (b:=false) (by simp [af.of]) (x6 _ _ _ Ve)]
   simp only [SS,Nat.reduceAdd,f1,f2,f3,f4,y0,mY]
   rw [bP (o:=(a++o)++x::(b.drop (i+1)++t)) (by simp [af.of]) Au,fL _ _ _ _ Ve]
   simp only [SS,Nat.reduceAdd,pt,tq]
   refine ⟨(i+1,_,o++[(k+(x+y))%aE],(k+(x+y))/aE),⟨(jv hlt).1,by simp [ho],p6 hwd _,Ul, ?_⟩,(jv hlt).2,Wk.forget (by simp [Fg]) (fun j => ?_) (Nat.le_refl _)⟩
   . show val (o++[(k+(x+y))%aE])+aE ^ (i+1)*((k+(x+y))/aE)=_
     rw [aN hx,aN hy];exact Vf
   . simp only [af.put,af.of];split<;>simp_all
 . have p7:=dH hlt
   subst p7
   have F1:b.drop (ag v+1)=[]:=List.drop_eq_nil_of_le (by omega)
   have e1:(digits v).take (ag v)=digits v:=List.take_of_length_le (Nat.le_refl _)
   have e2:val (b.take (ag v+1))=val b:=Dc hb
   have Vf:=nB (x:=x) (y:=0) (s:=k+x) ho hv' (by omega)
   rw [e1,aV, <- aN hx,e2] at Vf
   simp only [Nat.mul_zero,Nat.add_zero] at Vf
   have f5:IntKind.u32.wrap (k:Int)=(k:Int):=by rw [y0,Nat.mod_eq_of_lt (by unfold aE;omega)]
   have f6:IntKind.u32.wrap ((x:Int)+(k:Int))=(((k+x)%aE:Nat):Int):=by rw [IntKind.wrap_u32];unfold aE;omega
   have YA:Wd (o++[(k+x)%aE]):=p6 hwd _
   have y5:(o++[(k+x)%aE]).length=ag v+1:=by simp [ho]
   have e:pad (ag v+1) (val b+v)=o++[(k+x)%aE]:=by
     rw [<- Vf,F4, <- y5];exact BX YA
   simp only [SS,Nat.reduceAdd,yw hlt,bg,mY,hdr]
   rw [jy (o:=(a++o)++x::(b.drop (ag v+1)++t)) (b:=false) (by simp [af.of]) (x6 _ _ _ Ve)]
   simp only [SS,Nat.reduceAdd,f5,f6,mY]
   rw [bP (o:=(a++o)++x::(b.drop (ag v+1)++t)) (by simp [af.of]) Au,fL _ _ _ _ Ve,F1]
   simp only [SS,Nat.reduceAdd,e]
   have e5:a++(o++[(k+x)%aE])++t=a++o++(k+x)%aE::t:=by simp
   refine Fc▸bH rfl fun i => .inr ?_
   simp only [af.app,e5];exact JL
end
end Go.VL
end

section
set_option linter.unusedVariables false
namespace Go.VL
def lens:List UInt8:=[0,1,2,2,3,3,3,3,4,4,4,4,4,4,4,4,5,5,5,5,5,5,5,5,5,5,5,5,5,5,5,5,6,6,6,6,6,6,6,6,6,6,6,6,6,6,6,6,6,6,6,6,6,6,6,6,6,6,6,6,6,6,6,6,7,7,7,7,7,7,7,7,7,7,7,7,7,7,7,7,7,7,7,7,7,7,7,7,7,7,7,7,7,7,7,7,7,7,7,7,7,7,7,7,7,7,7,7,7,7,7,7,7,7,7,7,7,7,7,7,7,7,7,7,7,7,7,7,8,8,8,8,8,8,8,8,8,8,8,8,8,8,8,8,8,8,8,8,8,8,8,8,8,8,8,8,8,8,8,8,8,8,8,8,8,8,8,8,8,8,8,8,8,8,8,8,8,8,8,8,8,8,8,8,8,8,8,8,8,8,8,8,8,8,8,8,8,8,8,8,8,8,8,8,8,8,8,8,8,8,8,8,8,8,8,8,8,8,8,8,8,8,8,8,8,8,8,8,8,8,8,8,8,8,8,8,8,8,8,8,8,8,8,8,8,8,8,8,8,8,8,8,8,8,8,8]
def len8 (v:Nat):Nat:=((lens[v]?).getD 0).toNat
def iE (x:Nat):Nat :=
 if 65536<=x then (if 256<=x/65536 then 24+len8 (x/65536/256) else 16+len8 (x/65536)) else (if 256<=x then 8+len8 (x/256) else len8 x)
set_option maxRecDepth 100000 in
theorem Vg {v:Nat} (h:v<256):lens[v]? = some ((lens[v]?).getD 0):=by
 have:v<lens.length:=h
 rw [List.getElem?_eq_getElem this];rfl
theorem Dd (v:Nat):len8 v<256:=(((lens[v]?).getD 0)).toNat_lt
set_option maxRecDepth 100000 in
theorem Vh:(List.range 256).all (fun v=>v==0||(decide (v<2 ^ len8 v)&&decide (2 ^ len8 v<=2*v)))=true:=by decide
theorem De {v:Nat} (h:v<256) (h0:0<v):v<2 ^ len8 v/\2 ^ len8 v<=2*v:=by
 have:=List.all_eq_true.1 Vh v (List.mem_range.2 h)
 simp only [Bool.or_eq_true,Bool.and_eq_true,beq_iff_eq,decide_eq_true_eq] at this
 rcases this with h1 | h1
 . omega
 . exact h1
theorem BZ {x a k j:Nat} (he:a=x/2 ^ j) (h:a<2 ^ k/\2 ^ k<=2*a):x<2 ^ (j+k)/\2 ^ (j+k)<=2*x:=by
 subst he
 have hp:=Nat.two_pow_pos j
 refine ⟨?_, ?_⟩
 . have:=(Nat.div_lt_iff_lt_mul hp).1 h.1
   rwa [Nat.pow_add,Nat.mul_comm]
 . have h1:=Nat.mul_le_mul_left (2 ^ j) h.2
   have h2:=Nat.mul_div_le x (2 ^ j)
   rw [Nat.pow_add,Nat.mul_left_comm] at *
   omega
theorem Df {x:Nat} (h:x<aE) (h0:0<x):x<2 ^ iE x/\2 ^ iE x<=2*x:=by
 unfold aE at h
 unfold iE
 by_cases h1:65536<=x
 . by_cases h2:256<=x/65536
   . rw [if_pos h1,if_pos h2]
     exact BZ (j:=24) (a:=x/65536/256) (by rw [Nat.div_div_eq_div_mul]) (De (by omega) (by omega))
   . rw [if_pos h1,if_neg h2]
     exact BZ (j:=16) (a:=x/65536) rfl (De (by omega) (by omega))
 . by_cases h2:256<=x
   . rw [if_neg h1,if_pos h2]
     exact BZ (j:=8) (a:=x/256) rfl (De (by omega) (by omega))
   . rw [if_neg h1,if_neg h2]
     exact De (by omega) h0
section
variable {P:Program} {G:Nat->Option (List AV)}
set_option maxRecDepth 100000 in
theorem HB {f:FuncId} (h:Has P f oy) (x:Nat) (hx:x<aE):VP P G f [.int .u32 (x:Int)] (.int .i64 (iE x:Int)):=by
 refine VP.has h ?_
 have s16:bR .shr .int (.int .u32 (x:Int)) (.int .u64 16)=some (.int .u32 ((x/65536:Nat):Int)):=by
   rw [s7 (by decide)]
   have:(x:Int).fdiv (2 ^ (min (16:Int).toNat IntKind.u32.bits))=((x/65536:Nat):Int):=by
     show (x:Int).fdiv (2 ^ 16)=_
     rw [Int.fdiv_eq_ediv_of_nonneg _ (by decide)];omega
   rw [this]
 have s8:∀ y:Nat,bR .shr .int (.int .u32 (y:Int)) (.int .u64 8)=some (.int .u32 ((y/256:Nat):Int)):=fun y=>by
   rw [s7 (by decide)]
   have:(y:Int).fdiv (2 ^ (min (8:Int).toNat IntKind.u32.bits))=((y/256:Nat):Int):=by
     show (y:Int).fdiv (2 ^ 8)=_
     rw [Int.fdiv_eq_ediv_of_nonneg _ (by decide)];omega
   rw [this]
 have w8:∀ y:Nat,y<256->IntKind.u8.wrap (y:Int)=(y:Int):=fun y h=>by rw [IntKind.wrap_u8'];omega
 have wl:∀ y:Nat,IntKind.i64.wrap ((len8 y:Nat):Int)=((len8 y:Nat):Int):=fun y=>by have:=Dd y;rw [IntKind.wrap_i64];omega
 have YB:∀ (p:Id) (σ : af) (y:Nat),y<256->bO σ p (.indexS (.str [0,1,2,2,3,3,3,3,4,4,4,4,4,4,4,4,5,5,5,5,5,5,5,5,5,5,5,5,5,5,5,5,6,6,6,6,6,6,6,6,6,6,6,6,6,6,6,6,6,6,6,6,6,6,6,6,6,6,6,6,6,6,6,6,7,7,7,7,7,7,7,7,7,7,7,7,7,7,7,7,7,7,7,7,7,7,7,7,7,7,7,7,7,7,7,7,7,7,7,7,7,7,7,7,7,7,7,7,7,7,7,7,7,7,7,7,7,7,7,7,7,7,7,7,7,7,7,7,8,8,8,8,8,8,8,8,8,8,8,8,8,8,8,8,8,8,8,8,8,8,8,8,8,8,8,8,8,8,8,8,8,8,8,8,8,8,8,8,8,8,8,8,8,8,8,8,8,8,8,8,8,8,8,8,8,8,8,8,8,8,8,8,8,8,8,8,8,8,8,8,8,8,8,8,8,8,8,8,8,8,8,8,8,8,8,8,8,8,8,8,8,8,8,8,8,8,8,8,8,8,8,8,8,8,8,8,8,8,8,8,8,8,8,8,8,8,8,8,8,8,8,8,8,8,8,8]) (.int .u8 (y:Int)))=some { val := .int .u8 ((len8 y:Nat):Int) }:=fun p σ y h=>by
   show bO σ p (.indexS (.str lens) (.int .u8 (y:Int)))=_
   rw [Br,if_pos (by omega),Int.toNat_natCast,Vg h];rfl
 have hB:x<4294967296:=hx
 simp only [oy]
 by_cases h1:65536<=x
 . have d1:decide ((65536:Int)<=(x:Int))=true:=ay (by omega)
   by_cases h2:256<=x/65536
   . have d2:decide ((256:Int)<=((x/65536:Nat):Int))=true:=ay (by omega)
     have hb:x/65536/256<256:=by omega
     have e:iE x=24+len8 (x/65536/256):=by unfold iE;rw [if_pos h1,if_pos h2]
     have e1:IntKind.i64.wrap ((16:Int)+8)=24:=by rw [IntKind.wrap_i64];omega
     have e2:IntKind.i64.wrap ((24:Int)+((len8 (x/65536/256):Nat):Int))=((24+len8 (x/65536/256):Nat):Int):=by have:=Dd (x/65536/256);rw [IntKind.wrap_i64];omega
     simp only [SS,Nat.reduceAdd,d1,d2,s16,s8,w8 _ hb,YB _ _ _ hb,wl,e1,e2]
     rw [e];exact ai▸ae rfl (aa.int _ _)
   . have d2:decide ((256:Int)<=((x/65536:Nat):Int))=false:=au (by omega)
     have hb:x/65536<256:=by omega
     have e:iE x=16+len8 (x/65536):=by unfold iE;rw [if_pos h1,if_neg h2]
     have e2:IntKind.i64.wrap ((16:Int)+((len8 (x/65536):Nat):Int))=((16+len8 (x/65536):Nat):Int):=by have:=Dd (x/65536);rw [IntKind.wrap_i64];omega
     simp only [SS,Nat.reduceAdd,d1,d2,s16,w8 _ hb,YB _ _ _ hb,wl,e2]
     rw [e];exact ai▸ae rfl (aa.int _ _)
 . have d1:decide ((65536:Int)<=(x:Int))=false:=au (by omega)
   by_cases h2:256<=x
   . have d2:decide ((256:Int)<=(x:Int))=true:=ay (by omega)
     have hb:x/256<256:=by omega
     have e:iE x=8+len8 (x/256):=by unfold iE;rw [if_neg h1,if_pos h2]
     have e1:IntKind.i64.wrap ((0:Int)+8)=8:=by rw [IntKind.wrap_i64];omega
     have e2:IntKind.i64.wrap ((8:Int)+((len8 (x/256):Nat):Int))=((8+len8 (x/256):Nat):Int):=by have:=Dd (x/256);rw [IntKind.wrap_i64];omega
     simp only [SS,Nat.reduceAdd,d1,d2,s8,w8 _ hb,YB _ _ _ hb,wl,e1,e2]
     rw [e];exact ai▸ae rfl (aa.int _ _)
   . have d2:decide ((256:Int)<=(x:Int))=false:=au (by omega)
     have hb:x<256:=by omega
     have e:iE x=len8 x:=by unfold iE;rw [if_neg h1,if_neg h2]
     have e2:IntKind.i64.wrap ((0:Int)+((len8 x:Nat):Int))=((len8 x:Nat):Int):=by have:=Dd x;rw [IntKind.wrap_i64];omega
     simp only [SS,Nat.reduceAdd,d1,d2,w8 _ hb,YB _ _ _ hb,wl,e2]
     rw [e];exact ai▸ae rfl (aa.int _ _)
theorem YC {f fl:FuncId} (h:Has P f (ir fl)) (hl:∀ x,x<aE->VP P G fl [.int .u32 ((x:Nat):Int)] (.int .i64 (iE x:Int))) (x:Nat) (hx:x<aE) (h0:0<x):VP P G f [.int .u32 (x:Int)] (.int .i64 ((32-iE x:Nat):Int)):=by
 refine VP.has h ?_
 have hb:iE x<=32:=by
   have h1:=(Df hx h0).2
   have h2:2 ^ iE x<2 ^ 33:=by unfold aE at hx;omega
   have:=(Nat.pow_lt_pow_iff_right (by decide:1<2)).1 h2
   omega
 have e:IntKind.i64.wrap ((32:Int)-((iE x:Nat):Int))=((32-iE x:Nat):Int):=by rw [IntKind.wrap_i64];omega
 simp only [ir,SS,Nat.reduceAdd]
 refine ah (hl x hx) (by simp [aa.int]) ?_
 simp only [SS,Nat.reduceAdd,e]
 exact ai▸ae rfl (aa.int _ _)
end
end Go.VL
end

section
set_option linter.unusedVariables false
namespace Go.VL
section
variable {P:Program} {G:Nat->Option (List AV)}
theorem St {f:FuncId} (h:Has P f dc) {es:List AV} (hk:∀ e∈es,e.size=1) (h1:(es.all fun e=>e.cells.all AV.one)=true) (hp:∀ c∈flat es,aa c) (hl:es.length*4<=140737488355328):VP P G f [.sl 1 es] (.sl 1 es):=by
 refine VP.has h ?_
 have hb:∀ (σ : af) (p:Id),bO σ p (.buildSl 1 0 (.int .u32 0) [])=some { val := .tsl 1 [] }:=fun σ p=>bs0 rfl rfl
 cases es with
 | nil =>
   simp only [dc,SS,Nat.reduceAdd]
   refine ⟨?_, ?_⟩
   . exact ai▸⟨.nils,rfl,View.nils 1⟩
   . simp only [SS,Nat.reduceAdd,hb,o8 eO]
     exact ai▸⟨_,rfl,View.Yn 1⟩
 | cons e es =>
   simp only [dc,SS,Nat.reduceAdd,hb]
   rw [j3 (es:=[]) eO (by simp) (by simpa using hl) (eD (by simp at hl ⊢;omega)) (by simpa using h1)]
   simp only [SS,Nat.reduceAdd]
   refine ai▸⟨_,rfl,View.osl (bk:=⟨e::es,1,false⟩) rfl rfl (by simp) ?_ (by simp) hk⟩
   simpa using aG.pure hp
theorem Su {f:FuncId} (h:Has P f dc) (n:Nat) (hn:ag n<=1000000):VP P G f [W n] (W n) :=
 St h (C7 _) (Ou _) (Ae _) (by rw [gv];show ag n*4<=_;omega)
end
end Go.VL
end

section
set_option linter.unusedVariables false
namespace Go.VL
theorem Dg (z:Int):x3 (decide (z<0)) z.natAbs=z:=by
 unfold x3
 by_cases h:z<0
 . simp only [h,decide_true,if_true];omega
 . simp only [h,decide_false,Bool.false_eq_true,if_false];omega
theorem QO (z:Int):x3 (!decide (z<0)) z.natAbs = -z:=by
 unfold x3
 by_cases h:z<0
 . simp only [h,decide_true,Bool.not_true,Bool.false_eq_true,if_false];omega
 . simp only [h,decide_false,Bool.not_false,if_true];omega
theorem QP (y z:Int):x3 (!(decide (y<0)==decide (z<0))) (y.natAbs*z.natAbs)=y*z:=by
 rw [<- Int.natAbs_mul]
 unfold x3
 by_cases h:y<0<;>by_cases h2:z<0
 . have:=Int.mul_pos_of_neg_of_neg h h2
   simp [h,h2];omega
 . have h3:y*z<=0:=Int.mul_nonpos_of_nonpos_of_nonneg (by omega) (by omega)
   simp [h,h2];omega
 . have h3:y*z<=0:=Int.mul_nonpos_of_nonneg_of_nonpos (by omega) (by omega)
   simp [h,h2];omega
 . have h3:0<=y*z:=Int.mul_nonneg (by omega) (by omega)
   simp [h,h2];omega
theorem b7:((AV.cells (.agg [(.bool false), .nils])).all AV.one=true)=True:=by simp [AV.cells,AV.one]
theorem iY (σ : af) (id:Id) (k:Nat) (z:Int):fD (σ.put id (some ⟨[.agg [.bool false, .nils]],k,false⟩)) 2 (.ref id 0 0) (IV z)=some { val := .tup [],rd:=[id],up:=[(id,some ⟨[IV z],k,false⟩)] }:=by
 rw [fy (n:=2) (v:=IV z) (els:=[.agg [.bool false, .nils]]) (k:=k) (af.dE _ _ _) rfl rfl (by simp [AV.size,AV.cells]) rfl]
 rfl
section
variable {P:Program} {G:Nat->Option (List AV)}
theorem pb {ft:FuncId} (ht:iW P G ft) (n:Nat) (hn:ag n<=9223372036854775807):VP P G ft [W n] (W n):=by
 have:=ht (digits n) (aW n) hn
 rw [aV] at this;exact this
def iZ (P:Program) (G:Nat->Option (List AV)) (f:FuncId):Prop:=∀ (neg:Bool) (n:Nat),ag n<=9223372036854775807->VP P G f [.bool neg,W n] (IV (x3 neg n))
theorem OG {f ft:FuncId} (h:Has P f (mU ft)) (ht:iW P G ft):iZ P G f:=fun neg n hn=>by
 have:=Sn h ht neg (aW n) hn
 rw [aV] at this;exact this
theorem YD {f ft:FuncId} (h:Has P f (ry ft)) (ht:iW P G ft) (z:Int) (hz:ag z.natAbs<=1000000):VP P G f [IV z] (.int .i64 z.sign):=by
 refine VP.has h ?_
 have hl:ag z.natAbs=0↔z=0:=by rw [cI];omega
 simp only [ry,SS,Nat.reduceAdd,gZ,ao,iF]
 refine ah (pb ht z.natAbs (by omega)) (by simp [aB]) ?_
 simp only [SS,Nat.reduceAdd,bg]
 by_cases h0:z=0
 . have d0:decide ((ag z.natAbs:Int)=0)=true:=ay (by have:=hl.2 h0;omega)
   simp only [SS,Nat.reduceAdd,d0]
   rw [h0]
   exact ai▸ae rfl (aa.int _ _)
 . have d0:decide ((ag z.natAbs:Int)=0)=false:=au (by have:=fun e=>h0 (hl.1 e);omega)
   by_cases hn:z<0
   . have d1:decide (z<0)=true:=ay hn
     simp only [SS,Nat.reduceAdd,d0,ao,jX,d1]
     rw [Int.sign_eq_neg_one_of_neg hn]
     exact ai▸ae rfl (aa.int _ _)
   . have d1:decide (z<0)=false:=au hn
     simp only [SS,Nat.reduceAdd,d0,ao,jX,d1]
     rw [Int.sign_eq_one_of_pos (by omega)]
     exact ai▸ae rfl (aa.int _ _)
theorem pS (n:Nat) (hn:n<18446744073709551616):ag n<=2:=fK (by unfold aE;omega)
theorem OH {f fu fs:FuncId} (h:Has P f (ou fu fs)) (hu:∀ n,n<18446744073709551616->VP P G fu [.int .u64 ((n:Nat):Int)] (W n)) (hs:iZ P G fs) (a:Int) (h1 : -9223372036854775808<=a) (h2:a<9223372036854775808):VP P G f [.int .i64 a] (IV a):=by
 refine VP.has h ?_
 have hsz:=pS a.natAbs (by omega)
 have eL:=hs (decide (a<0)) a.natAbs (by omega)
 rw [Dg] at eL
 have N4:=hu a.natAbs (by omega)
 simp only [ou,SS,Nat.reduceAdd,b7]
 by_cases hn:a<0
 . have d1:decide (a<0)=true:=ay hn
   rw [d1] at eL
   have e1:IntKind.u64.wrap (0-(IntKind.u64.wrap a))=(a.natAbs:Int):=by rw [IntKind.wrap_u64,IntKind.wrap_u64];omega
   simp only [SS,Nat.reduceAdd,d1,e1]
   refine ah N4 (by simp [aa.int]) ?_
   simp only [SS,Nat.reduceAdd]
   refine ah eL (by simp [aa.bool,aB]) ?_
   simp only [SS,Nat.reduceAdd,iY]
   refine ai▸ae (r:=IV a) ?_ (aw _)
   simp only [RS,aX,a9,ao];rfl
 . have d1:decide (a<0)=false:=au hn
   rw [d1] at eL
   have e1:IntKind.u64.wrap a=(a.natAbs:Int):=by rw [IntKind.wrap_u64];omega
   simp only [SS,Nat.reduceAdd,d1,e1]
   refine ah N4 (by simp [aa.int]) ?_
   simp only [SS,Nat.reduceAdd]
   refine ah eL (by simp [aa.bool,aB]) ?_
   simp only [SS,Nat.reduceAdd,iY]
   refine ai▸ae (r:=IV a) ?_ (aw _)
   simp only [RS,aX,a9,ao];rfl
theorem abY {f ft fc fs:FuncId} (h:Has P f (tQ ft fc fs)) (ht:iW P G ft) (hc:∀ n,ag n<=1000000->VP P G fc [W n] (W n)) (hs:iZ P G fs) (z:Int) (hz:ag z.natAbs<=1000000):VP P G f [IV z] (IV (-z)):=by
 refine VP.has h ?_
 have eL:=hs (!decide (z<0)) z.natAbs (by omega)
 rw [QO] at eL
 simp only [tQ,SS,DD,Nat.reduceAdd,gZ,b7,aq (show ([0]:List Nat)≠[1] by decide),ao,jX,iF]
 refine ak (pb ht z.natAbs (by omega)) (by simp [aB]) ?_
 simp only [SS,DD,Nat.reduceAdd]
 refine ak (hc z.natAbs hz) (by simp [aB]) ?_
 simp only [SS,DD,Nat.reduceAdd]
 refine ak eL (by simp [aa.bool,aB]) ?_
 simp only [SS,DD,Nat.reduceAdd,iY]
 refine ⟨by simp [ab,apart], ?_⟩
 refine ai▸ae (r:=IV (-z)) ?_ (aw _)
 simp only [RS,aX,a9,ao];rfl
theorem abZ {f ft fm fs:FuncId} (h:Has P f (tR ft fm fs)) (ht:iW P G ft) (hm:∀ m n,ag m<=1000000->ag n<=1000000->VP P G fm [W m,W n] (W (m*n))) (hs:iZ P G fs) (y z:Int) (hy:ag y.natAbs<=1000000) (hz:ag z.natAbs<=1000000):VP P G f [IV y,IV z] (IV (y*z)):=by
 refine VP.has h ?_
 have eL:=hs (!(decide (y<0)==decide (z<0))) (y.natAbs*z.natAbs) (by have:=Ad y.natAbs z.natAbs;omega)
 rw [QP] at eL
 simp only [tR,SS,DD,Nat.reduceAdd,gZ,b7,aq (show ([0]:List Nat)≠[1] by decide),aq (show ([0]:List Nat)≠[2] by decide),aq (show ([1]:List Nat)≠[2] by decide),ao,jX,iF]
 refine ak (pb ht y.natAbs (by omega)) (by simp [aB]) ?_
 simp only [SS,DD,Nat.reduceAdd,aq (show ([1]:List Nat)≠[2] by decide),ao,iF]
 refine ak (pb ht z.natAbs (by omega)) (by simp [aB]) ?_
 simp only [SS,DD,Nat.reduceAdd]
 refine ak (hm y.natAbs z.natAbs hy hz) (by simp [aB]) ?_
 simp only [SS,DD,Nat.reduceAdd]
 refine ak eL (by simp [aa.bool,aB]) ?_
 simp only [SS,DD,Nat.reduceAdd,iY]
 refine ⟨by simp [ab,apart], ?_⟩
 refine ai▸ae (r:=IV (y*z)) ?_ (aw _)
 simp only [RS,aX,a9,ao];rfl
end
end Go.VL
end

section
set_option linter.unusedVariables false
namespace Go.VL
theorem pT (a b:Int):jm a b = -1/\a<b∨jm a b=0/\a=b∨jm a b=1/\b<a:=by
 unfold jm
 by_cases h1:a<b
 . simp [h1]
 . by_cases h2:b<a
   . simp [h1,h2]
   . right;left;simp [h1,h2];omega
theorem sq (z:Int):z.sign = -1/\z<0∨z.sign=0/\z=0∨z.sign=1/\0<z:=by
 rcases Int.lt_trichotomy z 0 with h | h | h
 . exact .inl ⟨Int.sign_eq_neg_one_of_neg h,h⟩
 . exact .inr (.inl ⟨by rw [h];rfl,h⟩)
 . exact .inr (.inr ⟨Int.sign_eq_one_of_pos h,h⟩)
theorem JM {y z:Int} (h:y.sign≠z.sign):jm y.sign z.sign=jm y z:=by
 rcases pT y z with ⟨e,c⟩ | ⟨e,c⟩ | ⟨e,c⟩<;>rcases pT y.sign z.sign with ⟨e2,c2⟩ | ⟨e2,c2⟩ | ⟨e2,c2⟩<;>rcases sq y with ⟨s,p⟩ | ⟨s,p⟩ | ⟨s,p⟩<;>rcases sq z with ⟨s2,p2⟩ | ⟨s2,p2⟩ | ⟨s2,p2⟩<;>omega
theorem YE {y z:Int} (h:y.sign=z.sign):y.sign*fY y.natAbs z.natAbs=jm y z:=by
 unfold fY
 rcases pT y z with ⟨e,c⟩ | ⟨e,c⟩ | ⟨e,c⟩<;>rcases pT (y.natAbs:Int) (z.natAbs:Int) with ⟨e2,c2⟩ | ⟨e2,c2⟩ | ⟨e2,c2⟩<;>rcases sq y with ⟨s,p⟩ | ⟨s,p⟩ | ⟨s,p⟩<;>rcases sq z with ⟨s2,p2⟩ | ⟨s2,p2⟩ | ⟨s2,p2⟩<;>rw [s,e2,e]<;>omega
section
variable {P:Program} {G:Nat->Option (List AV)}
theorem ab0 {f fsg fci ft fc:FuncId} (h:Has P f (tP fsg fci ft fc)) (MF:∀ z:Int,ag z.natAbs<=1000000->VP P G fsg [IV z] (.int .i64 z.sign)) (hci:∀ a b:Int,VP P G fci [.int .i64 a, .int .i64 b] (.int .i64 (jm a b))) (ht:iW P G ft)
   (hc:∀ m n,ag m<=1000000->ag n<=1000000->VP P G fc [W m,W n] (.int .i64 (fY m n))) (y z:Int) (hy:ag y.natAbs<=1000000) (hz:ag z.natAbs<=1000000):VP P G f [IV y,IV z] (.int .i64 (jm y z)):=by
 refine VP.has h ?_
 simp only [tP,SS,DD,Nat.reduceAdd,gZ,aq (show ([0]:List Nat)≠[1] by decide),ao,db]
 refine ak (MF y hy) (by simp [aw]) ?_
 simp only [SS,DD,Nat.reduceAdd,ao,db]
 refine ak (MF z hz) (by simp [aw]) ?_
 simp only [SS,DD,Nat.reduceAdd]
 refine ⟨by simp [ab,apart], ?_⟩
 by_cases hs:y.sign=z.sign
 . have d0:decide (y.sign≠z.sign)=false:=au (by simpa using hs)
   have e1:IntKind.i64.wrap (y.sign*fY y.natAbs z.natAbs)=jm y z:=by
     rw [YE hs,IntKind.wrap_i64]
     rcases pT y z with ⟨e,_⟩ | ⟨e,_⟩ | ⟨e,_⟩<;>rw [e]<;>omega
   simp only [SS,DD,Nat.reduceAdd,d0,aq (show ([0]:List Nat)≠[1] by decide),ao,iF]
   refine ak (pb ht y.natAbs (by omega)) (by simp [aB]) ?_
   simp only [SS,DD,Nat.reduceAdd,ao,iF]
   refine ak (pb ht z.natAbs (by omega)) (by simp [aB]) ?_
   simp only [SS,DD,Nat.reduceAdd]
   refine ak (hc y.natAbs z.natAbs hy hz) (by simp [aB]) ?_
   simp only [SS,DD,Nat.reduceAdd,e1]
   refine ⟨by simp [ab,apart], ?_⟩
   exact ai▸ae rfl (aa.int _ _)
 . have d0:decide (y.sign≠z.sign)=true:=ay hs
   simp only [SS,Nat.reduceAdd,d0]
   refine ah (hci y.sign z.sign) (by simp [aa.int]) ?_
   simp only [SS,Nat.reduceAdd]
   rw [JM hs]
   exact ai▸ae rfl (aa.int _ _)
end
end Go.VL
end

section
set_option linter.unusedVariables false
namespace Go.VL
def RV (a b:Int):AV := .agg [.bool (decide (a<0)),W a.natAbs, .bool (decide (b<0)),W b.natAbs]
theorem tu (a b:Int):aa (RV a b):=aa.agg (by intro c hc;simp at hc;rcases hc with rfl | rfl | rfl | rfl;exact aa.bool _;exact aB _;exact aa.bool _;exact aB _)
theorem OI (a b:Int):((RV a b).cells.all AV.one=true)=True:=by simp [RV,AV.cells,AV.one,W]
theorem QQ (a b:Int):part true (RV a b).cells 0 2=some (IV a):=rfl
theorem QR (a b:Int):part true (RV a b).cells 2 2=some (IV b):=rfl
theorem b8:((AV.cells (.agg [(.bool false), .nils,(.bool false), .nils])).all AV.one=true)=True:=by simp [AV.cells,AV.one]
theorem MG (σ : af) (id:Id) (k:Nat) (a b:Int):fD (σ.put id (some ⟨[.agg [.bool false, .nils, .bool false, .nils]],k,false⟩)) 4 (.ref id 0 0) (RV a b)=some { val := .tup [],rd:=[id],up:=[(id,some ⟨[RV a b],k,false⟩)] }:=by
 rw [fy (n:=4) (v:=RV a b) (els:=[.agg [.bool false, .nils, .bool false, .nils]]) (k:=k) (af.dE _ _ _) rfl rfl (by simp [AV.size,AV.cells]) rfl]
 rfl
theorem Dh (a b:Int):jq [.bool false, .nils, .bool false, .nils] [(0,(2,IV a)),(2,(2,IV b))]=some [.bool (decide (a<0)),W a.natAbs, .bool (decide (b<0)),W b.natAbs]:=rfl
section
variable {P:Program} {G:Nat->Option (List AV)}
theorem ab1 {f fi:FuncId} (h:Has P f (rz fi)) (hi:VP P G fi [.int .i64 1] (IV 1)):VP P G f [] (IV 1):=by
 refine VP.has h ?_
 simp only [rz,SS,Nat.reduceAdd,b7]
 refine ah hi (by simp [aa.int]) ?_
 simp only [SS,Nat.reduceAdd,iY]
 refine ai▸ae (r:=IV 1) ?_ (aw _)
 simp only [RS,aX,a9,ao];rfl
theorem MH {f fi fo:FuncId} (h:Has P f (nL fi fo)) (a:Int) (hi:VP P G fi [.int .i64 a] (IV a)) (ho:VP P G fo [] (IV 1)):VP P G f [.int .i64 a] (RV a 1):=by
 refine VP.has h ?_
 have e:(AV.agg [.bool (decide (a<0)),W a.natAbs, .bool (decide ((1:Int)<0)),W (1:Int).natAbs])=RV a 1:=rfl
 simp only [nL,SS,Nat.reduceAdd,b8]
 refine ah hi (by simp [aa.int]) ?_
 simp only [SS,Nat.reduceAdd]
 refine ah ho (by simp) ?_
 simp only [SS,Nat.reduceAdd,Dh,e,MG]
 refine ai▸ae (r:=RV a 1) ?_ (tu _ _)
 simp only [RS,aX,a9,ao];rfl
theorem MI {f fi:FuncId} (h:Has P f (nE fi)) (a b:Int) (hi:VP P G fi [IV a] (.int .i64 a.sign)):VP P G f [RV a b] (.int .i64 a.sign):=by
 refine VP.has h ?_
 simp only [nE,SS,Nat.reduceAdd,OI,ao,QQ]
 refine ah hi (by simp [aw]) ?_
 simp only [SS,Nat.reduceAdd]
 exact ai▸ae rfl (aa.int _ _)
theorem Vi {f:FuncId} (h:Has P f pC) (z:Int):VP P G f [IV z] (.bool (decide (z=1))):=by
 refine VP.has h ?_
 have hl:ag z.natAbs=1->∃ w,digits z.natAbs=[w]:=fun h=>List.length_eq_one_iff.1 h
 have h11:ag 1=1:=by unfold ag;rw [iz (by decide),show 1/aE=0 from rfl,bA];rfl
 simp only [pC,SS,Nat.reduceAdd,gZ,ao,jX]
 by_cases hn:z<0
 . have d0:decide (z<0)=true:=ay hn
   have e:decide (z=1)=false:=au (by omega)
   simp only [SS,Nat.reduceAdd,d0,e]
   exact ai▸ae rfl (aa.bool _)
 . have d0:decide (z<0)=false:=au hn
   by_cases h1:ag z.natAbs=1
   . have d1:decide ((ag z.natAbs:Int)=1)=true:=ay (by omega)
     obtain ⟨w,hw⟩:=hl h1
     have hg:(digits z.natAbs)[0]? = some w:=by rw [hw];rfl
     have YB:cx 1 (W z.natAbs) (.int .i64 0)=some (.ep (AV.int .u32 (w:Int)).cells 0):=fX (i:=0) rfl (xZ hg)
     have hv:z.natAbs=w:=by have:=aV z.natAbs;rw [hw] at this;simp [val] at this;omega
     have e:decide ((w:Int)=1)=decide (z=1):=by congr 1;apply propext;omega
     simp only [SS,Nat.reduceAdd,d0,ao,iF,bg,d1,YB,aI,bo,e]
     exact ai▸ae rfl (aa.bool _)
   . have d1:decide ((ag z.natAbs:Int)=1)=false:=au (by omega)
     have e:decide (z=1)=false:=au (by intro e;rw [e] at h1;exact h1 h11)
     simp only [SS,Nat.reduceAdd,d0,ao,iF,bg,d1,e]
     exact ai▸ae rfl (aa.bool _)
end
end Go.VL
end

section
set_option linter.unusedVariables false
namespace Go.VL
theorem dp {σ : af} {id:Id} {k:Nat} {z:Int} {y:AV} (hs:y.size=2) (hu:y.upd 0 (IV z).cells=IV z) (h : σ id=some ⟨[y],k,false⟩):fD σ 2 (.ref id 0 0) (IV z)=some { val := .tup [],rd:=[id],up:=[(id,some ⟨[IV z],k,false⟩)] }:=by
 rw [fy (n:=2) (v:=IV z) h rfl rfl (by rw [hs];exact Nat.le_refl _) rfl]
 simp [hu]
theorem B0 (y z:Int):(IV y).upd 0 (IV z).cells=IV z:=rfl
theorem sr (z:Int):(AV.agg [.bool false, .nils]).upd 0 (IV z).cells=IV z:=rfl
theorem YF {σ : af} {id:Id} {k:Nat} {z:Int} {b:Bool} (h : σ id=some ⟨[IV z],k,b⟩):kM σ true 2 (.ref id 0 0)=some { val:=IV z,rd:=[id] }:=by
 rw [Ax h (el:=IV z) rfl,db];rfl
theorem ab2 {α : Type} {a b c : α}:[a,b,c][0]? = some a:=rfl
theorem ab3 {α : Type} {a b c : α}:[a,b,c][1]? = some b:=rfl
theorem ab4 {α : Type} {a b c : α}:[a,b,c][2]? = some c:=rfl
section
variable {P:Program} {G:Nat->Option (List AV)}
theorem ab5 {f fo fd:FuncId} (h:Has P f (rA fo fd)) (a b:Int) (ho:VP P G fo [IV b] (.bool (decide (b=1)))) (hd:VP P G fd [IV a,IV b] (.tup [IV (a.fdiv b),IV (a.fmod b), .int .i64 0])):VP P G f [IV a,IV b] (IV (a.fdiv b)):=by
 refine VP.has h ?_
 simp only [rA,SS,Nat.reduceAdd,gZ,b7,aq (show ([1]:List Nat)≠[2] by decide),ao,db]
 refine ah ho (by simp [aw]) ?_
 by_cases h1:b=1
 . have d1:decide (b=1)=true:=ay h1
   have e:a.fdiv b=a:=by rw [h1,Int.fdiv_one]
   simp only [SS,Nat.reduceAdd,d1,aq (show ([0]:List Nat)≠[2] by decide),aq (show ([0]:List Nat)≠[1] by decide),ao,db]
   rw [dp (k:=(AV.agg [.bool false, .nils]).size) (y := .agg [.bool false, .nils]) rfl (sr _) (by simp [af.put])]
   simp only [SS,Nat.reduceAdd,e]
   refine ai▸ae (r:=IV a) ?_ (aw _)
   simp only [RS,aX,a9,ao];rfl
 . have d1:decide (b=1)=false:=au h1
   simp only [SS,Nat.reduceAdd,d1,aq (show ([0]:List Nat)≠[2] by decide),aq (show ([0]:List Nat)≠[1] by decide),aq (show ([1]:List Nat)≠[2] by decide),ao,db]
   refine ah hd (by simp [aw]) ?_
   simp only [SS,Nat.reduceAdd,b7,ab2,ab3,ab4]
   rw [dp (k:=(AV.agg [.bool false, .nils]).size) (y := .agg [.bool false, .nils]) rfl (sr _) (by simp [af.put])]
   simp only [SS,Nat.reduceAdd]
   rw [dp (k:=(AV.agg [.bool false, .nils]).size) (y := .agg [.bool false, .nils]) rfl (sr _) (by simp [af.put])]
   simp only [SS,Nat.reduceAdd]
   rw [YF (z:=a.fdiv b) (k:=(AV.agg [.bool false, .nils]).size) (b:=false) (by simp [af.put])]
   simp only [SS,Nat.reduceAdd]
   rw [dp (k:=(AV.agg [.bool false, .nils]).size) (y := .agg [.bool false, .nils]) rfl (sr _) (by simp [af.put])]
   simp only [SS,Nat.reduceAdd]
   refine ai▸ae (r:=IV (a.fdiv b)) ?_ (aw _)
   simp only [RS,aX,a9,ao];rfl
end
end Go.VL
end

section
set_option linter.unusedVariables false
namespace Go.VL
def MJ (a b:Int):Bool := !(decide (a<0)==decide (b<0))
def Vj (a b:Int):Nat:=if MJ a b=true/\0<a.natAbs%b.natAbs then a.natAbs/b.natAbs+1 else a.natAbs/b.natAbs
def Vk (a b:Int):Nat:=if MJ a b=true/\0<a.natAbs%b.natAbs then b.natAbs-a.natAbs%b.natAbs else a.natAbs%b.natAbs
theorem HD:digits 1=[1]:=by rw [iz (by decide),show 1/aE=0 from rfl,bA];rfl
theorem Vl {id:Id} {b t:Bool}:View (af.of [(id,⟨us [1],1,b⟩)]) (.osl id 1 0 1 t) (W 1):=by
 unfold W;rw [HD];exact g7 rfl
theorem Vm (m n:Nat):ag (m/n)<=ag m:=bE (Nat.div_le_self _ _)
theorem HE (m n:Nat):ag (m%n)<=ag m:=bE (Nat.mod_le _ _)
theorem Sv (m:Nat):ag (m+1)<=ag m+1:=fK (by
 have h1:=cV m
 rw [Nat.pow_succ]
 have h2:aE ^ ag m*2<=aE ^ ag m*aE:=Nat.mul_le_mul_left _ (by decide)
 omega)
theorem wh:ag 1<=1:=by unfold ag;rw [HD];decide
theorem B1 {α : Type} {a b : α}:[a,b][0]? = some a:=rfl
theorem B2 {α : Type} {a b : α}:[a,b][1]? = some b:=rfl
section
variable {P:Program} {G:Nat->Option (List AV)}
theorem Sw {f ft fd fp fm fs:FuncId} (h:Has P f (pB ft fd fp fm fs)) (ht:iW P G ft) (hd:∀ m n,n≠0->ag m<=900000->ag n<=900000->VP P G fd [W m,W n] (.tup [W (m/n),W (m%n)]))
   (hp:∀ m n,ag m<=1000000->ag n<=1000000->VP P G fp [W m,W n] (W (m+n))) (hm:∀ m n,n<=m->ag m<=1000000->VP P G fm [W m,W n] (W (m-n))) (hs:iZ P G fs) (a b:Int) (IL:b≠0) (ha:ag a.natAbs<=900000) (hb:ag b.natAbs<=900000) :
   VP P G f [IV a,IV b] (.tup [IV (x3 (MJ a b) (Vj a b)),IV (x3 (decide (b<0)) (Vk a b)), .int .i64 0]):=by
 refine VP.has h ?_
 have hbn:b.natAbs≠0:=by omega
 have TW:ag b.natAbs≠0:=fun e=>hbn (cI.1 e)
 have d0:decide ((ag b.natAbs:Int)=0)=false:=au (by omega)
 have w1:=Vm a.natAbs b.natAbs
 have w2:=HE a.natAbs b.natAbs
 have w3:=Sv (a.natAbs/b.natAbs)
 have w4:ag (b.natAbs-a.natAbs%b.natAbs)<=ag b.natAbs:=bE (Nat.sub_le _ _)
 have w5:=wh
 have abA:a.natAbs%b.natAbs<b.natAbs:=Nat.mod_lt _ (Nat.pos_of_ne_zero hbn)
 have hpv:=hp (a.natAbs/b.natAbs) 1 (by omega) (by omega)
 have Sx:=hm b.natAbs (a.natAbs%b.natAbs) (Nat.le_of_lt abA) (by omega)
 have ail:0<a.natAbs%b.natAbs->decide ((0:Int)<(ag (a.natAbs%b.natAbs):Int))=true:=fun h=>ay (by
   have:ag (a.natAbs%b.natAbs)≠0:=fun e=>by have:=cI.1 e;omega
   omega)
 have aeZ : ¬ 0<a.natAbs%b.natAbs->decide ((0:Int)<(ag (a.natAbs%b.natAbs):Int))=false:=fun h=>au (by
   have:ag (a.natAbs%b.natAbs)=0:=cI.2 (by omega)
   omega)
 have yU:([0]:List Nat)≠[1]:=by decide
 have EG:([0]:List Nat)≠[2]:=by decide
 have k03:([0]:List Nat)≠[3]:=by decide
 have B3:([1]:List Nat)≠[2]:=by decide
 have k13:([1]:List Nat)≠[3]:=by decide
 have Kr:∀ (q r:Nat),q=Vj a b->r=Vk a b->ag q<=1000000->ag r<=1000000->VP P G fs [.bool (MJ a b),W q] (IV (x3 (MJ a b) (Vj a b)))/\VP P G fs [.bool (decide (b<0)),W r] (IV (x3 (decide (b<0)) (Vk a b))):=fun q r hq hr h1 h2=>by
   subst hq;subst hr
   exact ⟨hs _ _ (by omega),hs _ _ (by omega)⟩
 simp only [pB,SS,Nat.reduceAdd,gZ,b7,aq B3,aq k13,ao,iF]
 refine ah (pb ht b.natAbs (by omega)) (by simp [aB]) ?_
 simp only [SS,Nat.reduceAdd,bg,d0,aq yU,aq EG,aq k03,ao,iF]
 refine ah (pb ht a.natAbs (by omega)) (by simp [aB]) ?_
 simp only [SS,Nat.reduceAdd]
 refine ah (hd a.natAbs b.natAbs hbn ha hb) (by simp [aB]) ?_
 simp only [SS,Nat.reduceAdd,B1,B2,aq yU,aq EG,aq k03,aq B3,aq k13,ao,jX]
 have XH:(!(decide (a<0)==decide (b<0)))=MJ a b:=rfl
 simp only [XH]
 have hbs:∀ (σ : af) (q:Id),bO σ q (.buildSl 1 1 (.int .u32 0) [(0, .int .u32 1)])=some { val := .osl q 1 0 1 false,up:=[(q,some ⟨us [1],1,false⟩)] }:=fun σ q=>C9 (x:=1)
 have k23:([2]:List Nat)≠[3]:=by decide
 have k0b:([0]:List Nat)≠[33]:=by decide
 have k1b:([1]:List Nat)≠[33]:=by decide
 by_cases MF:MJ a b=true
 . by_cases hr:0<a.natAbs%b.natAbs
   . have d1:=ail hr
     obtain ⟨g1,g2⟩:=Kr (a.natAbs/b.natAbs+1) (b.natAbs-a.natAbs%b.natAbs) (by unfold Vj;rw [if_pos ⟨MF,hr⟩]) (by unfold Vk;rw [if_pos ⟨MF,hr⟩]) (by omega) (by omega)
     rw [MF] at g1
     simp only [SS,Nat.reduceAdd,MF,bg,d1,hbs]
     refine bJ [([33],⟨us [1],1,false⟩)] hpv (aG.cons (View.pure (aB _)) (aG.cons Vl aG.nil)) (by simp [af.put]) ?_
     simp only [SS,Nat.reduceAdd]
     refine ah Sx (by simp [aB]) ?_
     simp only [SS,DD,Nat.reduceAdd,af.app,E6,aq yU,aq EG,aq k03,aq B3,aq k13,aq k0b,aq k1b,ao,jX,XH,MF]
     refine ak g1 (by simp [aa.bool,aB]) ?_
     simp only [SS,DD,Nat.reduceAdd,aq B3,aq k13,aq k1b,ao,jX]
     refine ak g2 (by simp [aa.bool,aB]) ?_
     simp only [SS,DD,Nat.reduceAdd]
     rw [dp (k:=(AV.agg [.bool false, .nils]).size) (y := .agg [.bool false, .nils]) rfl (sr _) (by simp [af.put])]
     simp only [SS,DD,Nat.reduceAdd]
     rw [dp (k:=(AV.agg [.bool false, .nils]).size) (y := .agg [.bool false, .nils]) rfl (sr _) (by simp [af.put])]
     simp only [SS,DD,Nat.reduceAdd]
     refine ⟨by simp [ab,apart], ?_⟩
     refine ai▸ae (r := .tup [IV (x3 true (Vj a b)),IV (x3 (decide (b<0)) (Vk a b)), .int .i64 0]) ?_ (aa.tup (by intro c hc;simp at hc;rcases hc with rfl | rfl | rfl;exact aw _;exact aw _;exact aa.int _ _))
     simp only [RS,aX,a9,aq k23,ao,db]
   . have d1:=aeZ hr
     obtain ⟨g1,g2⟩:=Kr (a.natAbs/b.natAbs) (a.natAbs%b.natAbs) (by unfold Vj;rw [if_neg (fun e=>hr e.2)]) (by unfold Vk;rw [if_neg (fun e=>hr e.2)]) (by omega) (by omega)
     rw [MF] at g1
     simp only [SS,DD,Nat.reduceAdd,MF,bg,d1]
     simp only [SS,DD,Nat.reduceAdd,af.app,aq yU,aq EG,aq k03,aq B3,aq k13,ao,jX,XH,MF]
     refine ak g1 (by simp [aa.bool,aB]) ?_
     simp only [SS,DD,Nat.reduceAdd,aq B3,aq k13,ao,jX]
     refine ak g2 (by simp [aa.bool,aB]) ?_
     simp only [SS,DD,Nat.reduceAdd]
     rw [dp (k:=(AV.agg [.bool false, .nils]).size) (y := .agg [.bool false, .nils]) rfl (sr _) (by simp [af.put])]
     simp only [SS,DD,Nat.reduceAdd]
     rw [dp (k:=(AV.agg [.bool false, .nils]).size) (y := .agg [.bool false, .nils]) rfl (sr _) (by simp [af.put])]
     simp only [SS,DD,Nat.reduceAdd]
     refine ⟨by simp [ab,apart], ?_⟩
     refine ai▸ae (r := .tup [IV (x3 true (Vj a b)),IV (x3 (decide (b<0)) (Vk a b)), .int .i64 0]) ?_ (aa.tup (by intro c hc;simp at hc;rcases hc with rfl | rfl | rfl;exact aw _;exact aw _;exact aa.int _ _))
     simp only [RS,aX,a9,aq k23,ao,db]
 . have hsf:MJ a b=false:=by simpa using MF
   obtain ⟨g1,g2⟩:=Kr (a.natAbs/b.natAbs) (a.natAbs%b.natAbs) (by unfold Vj;rw [if_neg (fun e=>MF e.1)]) (by unfold Vk;rw [if_neg (fun e=>MF e.1)]) (by omega) (by omega)
   rw [hsf] at g1
   simp only [SS,DD,Nat.reduceAdd,hsf]
   simp only [SS,DD,Nat.reduceAdd,af.app,aq yU,aq EG,aq k03,aq B3,aq k13,ao,jX,XH,hsf]
   refine ak g1 (by simp [aa.bool,aB]) ?_
   simp only [SS,DD,Nat.reduceAdd,aq B3,aq k13,ao,jX]
   refine ak g2 (by simp [aa.bool,aB]) ?_
   simp only [SS,DD,Nat.reduceAdd]
   rw [dp (k:=(AV.agg [.bool false, .nils]).size) (y := .agg [.bool false, .nils]) rfl (sr _) (by simp [af.put])]
   simp only [SS,DD,Nat.reduceAdd]
   rw [dp (k:=(AV.agg [.bool false, .nils]).size) (y := .agg [.bool false, .nils]) rfl (sr _) (by simp [af.put])]
   simp only [SS,DD,Nat.reduceAdd]
   refine ⟨by simp [ab,apart], ?_⟩
   refine ai▸ae (r := .tup [IV (x3 false (Vj a b)),IV (x3 (decide (b<0)) (Vk a b)), .int .i64 0]) ?_ (aa.tup (by intro c hc;simp at hc;rcases hc with rfl | rfl | rfl;exact aw _;exact aw _;exact aa.int _ _))
   simp only [RS,aX,a9,aq k23,ao,db]
end
end Go.VL
end

section
namespace Go.VL
theorem KL {a b q r:Int} (hb:0<b) (h:a=b*q+r) (h0:0<=r) (h1:r<b):a.fdiv b=q/\a.fmod b=r:=by
 have:=(Int.ediv_emod_unique (a:=a) (b:=b) (r:=r) (q:=q) hb).2 ⟨by omega,h0,h1⟩
 rw [Int.fdiv_eq_ediv_of_nonneg _ (Int.le_of_lt hb),Int.fmod_eq_emod_of_nonneg _ (Int.le_of_lt hb)]
 exact this
theorem ab6 (a b:Int):a.fdiv b=(-a).fdiv (-b)/\a.fmod b = -((-a).fmod (-b)):=by
 have h1:(-a).fdiv (-b)=a.fdiv b:=Int.neg_fdiv_neg a b
 refine ⟨h1.symm, ?_⟩
 have h2:=Int.mul_fdiv_add_fmod a b
 have h3:=Int.mul_fdiv_add_fmod (-a) (-b)
 rw [h1,Int.neg_mul] at h3
 omega
theorem YG {m n:Nat} (hn:n≠0):((m:Int).fdiv n=(m/n:Nat)/\(m:Int).fmod n=(m%n:Nat)) /\
   (m%n=0->(-(m:Int)).fdiv n = -((m/n:Nat):Int)/\(-(m:Int)).fmod n=0)/\(0<m%n->(-(m:Int)).fdiv n = -((m/n+1:Nat):Int)/\(-(m:Int)).fmod n=((n-m%n:Nat):Int)):=by
 have hlt:m%n<n:=Nat.mod_lt _ (Nat.pos_of_ne_zero hn)
 have e:(m:Int)=(n:Int)*((m/n:Nat):Int)+((m%n:Nat):Int):=by
   rw [<- Int.natCast_mul, <- Int.natCast_add,Nat.div_add_mod]
 generalize m/n=q at *
 generalize m%n=r at *
 refine ⟨KL (by omega) e (by omega) (by omega),fun h=>KL (by omega) ?_ (by omega) (by omega),fun h=>KL (by omega) ?_ (by omega) (by omega)⟩
 . rw [Int.mul_neg];omega
 . rw [Int.mul_neg,Int.natCast_add,Int.mul_add];omega
theorem Vn (a b:Int) (hb:b≠0):x3 (MJ a b) (Vj a b)=a.fdiv b/\x3 (decide (b<0)) (Vk a b)=a.fmod b:=by
 have hbn:b.natAbs≠0:=by omega
 obtain ⟨⟨c1,c2⟩,c3,c4⟩:=YG (m:=a.natAbs) hbn
 unfold Vj Vk
 by_cases h1:b<0
 . have eb : -b=(b.natAbs:Int):=by omega
   obtain ⟨n1,n2⟩:=ab6 a b
   rw [n1,n2,eb]
   by_cases h2:a<0
   . have ea : -a=(a.natAbs:Int):=by omega
     have hd:MJ a b=false:=by simp [MJ,h1,h2]
     rw [ea,c1,c2,hd]
     simp [x3,h1]
   . have ea : -a = -(a.natAbs:Int):=by omega
     have hd:MJ a b=true:=by simp [MJ,h1,h2]
     rw [ea,hd]
     by_cases hr:0<a.natAbs%b.natAbs
     . rw [(c4 hr).1,(c4 hr).2,if_pos ⟨rfl,hr⟩,if_pos ⟨rfl,hr⟩]
       simp [x3,h1]
     . have h0:a.natAbs%b.natAbs=0:=by omega
       rw [(c3 h0).1,(c3 h0).2,if_neg (fun e=>hr e.2),if_neg (fun e=>hr e.2),h0]
       simp [x3,h1]
 . have eb:b=(b.natAbs:Int):=by omega
   have DI:decide (b<0)=false:=au h1
   by_cases h2:a<0
   . have ea:a = -(a.natAbs:Int):=by omega
     have hd:MJ a b=true:=by simp [MJ,h1,h2]
     rw [hd,DI]
     by_cases hr:0<a.natAbs%b.natAbs
     . have q1:=(c4 hr).1
       have q2:=(c4 hr).2
       rw [<- ea, <- eb] at q1 q2
       rw [q1,q2,if_pos ⟨rfl,hr⟩,if_pos ⟨rfl,hr⟩]
       exact ⟨rfl,rfl⟩
     . have h0:a.natAbs%b.natAbs=0:=by omega
       have q1:=(c3 h0).1
       have q2:=(c3 h0).2
       rw [<- ea, <- eb] at q1 q2
       rw [q1,q2,if_neg (fun e=>hr e.2),if_neg (fun e=>hr e.2),h0]
       exact ⟨rfl,rfl⟩
   . have ea:a=(a.natAbs:Int):=by omega
     have hd:MJ a b=false:=by simp [MJ,h1,h2]
     rw [<- ea, <- eb] at c1 c2
     rw [c1,c2,hd,DI]
     simp [x3]
end Go.VL
end

section
set_option linter.unusedVariables false
namespace Go.VL
theorem wi {σ : af} {id:Id} {k:Nat} {a b:Int} (h : σ id=some ⟨[.agg [.bool false, .nils, .bool false, .nils]],k,false⟩):fD σ 4 (.ref id 0 0) (RV a b)=some { val := .tup [],rd:=[id],up:=[(id,some ⟨[RV a b],k,false⟩)] }:=by
 rw [fy (n:=4) (v:=RV a b) h rfl rfl (by simp [AV.size,AV.cells]) rfl]
 rfl
section
variable {P:Program} {G:Nat->Option (List AV)}
theorem Sy {f fg fn fq:FuncId} (h:Has P f (ow fg fn fq)) (a b g:Int) (hg:VP P G fg [IV a,IV b] (IV g)) (hn:VP P G fn [IV g] (IV (-g)))
   (hq:∀ x y:Int,(x=a∨x=b)->(y=g∨y = -g)->VP P G fq [IV x,IV y] (IV (x.fdiv y))):VP P G f [IV a,IV b] (RV (a.fdiv (if b<0 then -g else g)) (b.fdiv (if b<0 then -g else g))):=by
 refine VP.has h ?_
 have yU:([0]:List Nat)≠[1]:=by decide
 have EG:([0]:List Nat)≠[2]:=by decide
 have k06:([0]:List Nat)≠[6]:=by decide
 have B3:([1]:List Nat)≠[2]:=by decide
 have k16:([1]:List Nat)≠[6]:=by decide
 simp only [ow,SS,Nat.reduceAdd,gZ,b8,aq yU,aq EG,aq B3,ao,db]
 refine ah hg (by simp [aw]) ?_
 simp only [SS,Nat.reduceAdd,b7,iY,aq B3,aq k16,ao,jX]
 have TX:∀ x y:Int,(AV.agg [.bool (decide (x<0)),W x.natAbs, .bool (decide (y<0)),W y.natAbs])=RV x y:=fun _ _=>rfl
 by_cases KM:decide (b<0)=true
 . have e:(if b<0 then -g else g)=(-g):=by simp at KM;first | exact if_pos KM | exact if_neg (by omega)
   rw [e]
   have q1:=hq a (-g) (.inl rfl) (by simp)
   have q2:=hq b (-g) (.inr rfl) (by simp)
   simp only [SS,Nat.reduceAdd,KM,ao,db]
   first
     | refine ah hn (by simp [aw]) ?_
       simp only [SS,Nat.reduceAdd]
       rw [dp (k:=(AV.agg [.bool false, .nils]).size) (y:=IV g) rfl (B0 _ _) (by simp [af.put])]
       simp only [SS,DD,Nat.reduceAdd,aq yU,aq EG,aq k06,ao,db]
     | skip
   refine ak q1 (by simp [aw]) ?_
   simp only [SS,DD,Nat.reduceAdd,aq B3,aq k16,ao,db]
   refine ak q2 (by simp [aw]) ?_
   simp only [SS,DD,Nat.reduceAdd,Dh,TX]
   rw [wi (k:=(AV.agg [.bool false, .nils, .bool false, .nils]).size) (by simp [af.put])]
   simp only [SS,DD,Nat.reduceAdd]
   refine ⟨by simp [ab,apart], ?_⟩
   refine ai▸ae (r:=RV (a.fdiv (-g)) (b.fdiv (-g))) ?_ (tu _ _)
   simp only [RS,aX,a9,ao]
   rfl
 by_cases KN:decide (b<0)=false
 . have e:(if b<0 then -g else g)=g:=by simp at KN;first | exact if_pos KN | exact if_neg (by omega)
   rw [e]
   have q1:=hq a g (.inl rfl) (by simp)
   have q2:=hq b g (.inr rfl) (by simp)
   simp only [SS,DD,Nat.reduceAdd,KN,aq yU,aq EG,aq k06,ao,db]
   first
     | refine ah hn (by simp [aw]) ?_
       simp only [SS,Nat.reduceAdd,reduceIte]
       rw [dp (k:=(AV.agg [.bool false, .nils]).size) (y:=IV g) rfl (B0 _ _) (by simp [af.put])]
       simp only [SS,DD,Nat.reduceAdd,reduceIte,aq yU,aq EG,aq B3,aq k16,aq k06,ao,db]
     | skip
   refine ak q1 (by simp [aw]) ?_
   simp only [SS,DD,Nat.reduceAdd,aq B3,aq k16,ao,db]
   refine ak q2 (by simp [aw]) ?_
   simp only [SS,DD,Nat.reduceAdd,Dh,TX]
   rw [wi (k:=(AV.agg [.bool false, .nils, .bool false, .nils]).size) (by simp [af.put])]
   simp only [SS,DD,Nat.reduceAdd]
   refine ⟨by simp [ab,apart], ?_⟩
   refine ai▸ae (r:=RV (a.fdiv g) (b.fdiv g)) ?_ (tu _ _)
   simp only [RS,aX,a9,ao]
   rfl
 . exfalso;revert KM KN;cases decide (b<0)<;>simp
end
end Go.VL
end

section
set_option linter.unusedVariables false
namespace Go.VL
section
variable {P:Program} {G:Nat->Option (List AV)}
theorem YH {f fi fm fo fl:FuncId} (h:Has P f (ox fi fm fo fl)) (a b c d:Int) (x:AV) {x1 x2:Int} (hx:x=RV x1 x2) (hi:∀ z,VP P G fi [IV z] (.bool (decide (z=1)))) (hm1:VP P G fm [IV a,IV c] (IV (a*c))) (Cn:VP P G fm [IV b,IV d] (IV (b*d))) (ho:VP P G fo [] (IV 1))
   (hl:VP P G fl [IV (a*c),IV (b*d)] x):VP P G f [RV a b,RV c d] (if b=1/\d=1 then RV (a*c) 1 else x):=by
 refine VP.has h ?_
 have yU:([0]:List Nat)≠[1]:=by decide
 have EG:([0]:List Nat)≠[2]:=by decide
 have B3:([1]:List Nat)≠[2]:=by decide
 have TX:∀ x y:Int,(AV.agg [.bool (decide (x<0)),W x.natAbs, .bool (decide (y<0)),W y.natAbs])=RV x y:=fun _ _=>rfl
 subst hx
 simp only [ox,SS,Nat.reduceAdd,OI,b8,aq yU,aq EG,ao,QR]
 refine ah (hi b) (by simp [aw]) ?_
 have QS:∀ (h : ¬ (b=1/\d=1)),(if b=1/\d=1 then RV (a*c) 1 else RV x1 x2)=RV x1 x2:=fun h=>if_neg h
 by_cases hb:b=1
 . have d1:decide (b=1)=true:=ay hb
   simp only [SS,Nat.reduceAdd,d1,aq B3,ao,QR]
   refine ah (hi d) (by simp [aw]) ?_
   by_cases hd:d=1
   . have d2:decide (d=1)=true:=ay hd
     rw [if_pos ⟨hb,hd⟩]
     simp only [SS,Nat.reduceAdd,d2,aq yU,aq EG,aq B3,ao,QQ]
     refine ah hm1 (by simp [aw]) ?_
     simp only [SS,Nat.reduceAdd]
     refine ah ho (by simp) ?_
     simp only [SS,Nat.reduceAdd,Dh,TX]
     rw [wi (k:=(AV.agg [.bool false, .nils, .bool false, .nils]).size) (by simp [af.put])]
     simp only [SS,Nat.reduceAdd]
     refine ai▸ae (r:=RV (a*c) 1) ?_ (tu _ _)
     simp only [RS,aX,a9,ao]
     rfl
   . have d2:decide (d=1)=false:=au hd
     rw [QS fun e=>hd e.2]
     simp only [SS,DD,Nat.reduceAdd,d2,aq yU,aq EG,aq B3,ao,QQ]
     refine ak hm1 (by simp [aw]) ?_
     simp only [SS,DD,Nat.reduceAdd,aq yU,aq EG,aq B3,ao,QR]
     refine ak Cn (by simp [aw]) ?_
     simp only [SS,DD,Nat.reduceAdd]
     refine ak hl (by simp [aw]) ?_
     simp only [SS,DD,Nat.reduceAdd]
     rw [wi (k:=(AV.agg [.bool false, .nils, .bool false, .nils]).size) (by simp [af.put])]
     simp only [SS,DD,Nat.reduceAdd]
     refine ⟨by simp [ab,apart], ?_⟩
     refine ai▸ae (r:=RV x1 x2) ?_ (tu _ _)
     simp only [RS,aX,a9,ao]
     rfl
 . have d1:decide (b=1)=false:=au hb
   rw [QS fun e=>hb e.1]
   simp only [SS,DD,Nat.reduceAdd,d1,aq yU,aq EG,aq B3,ao,QQ]
   refine ak hm1 (by simp [aw]) ?_
   simp only [SS,DD,Nat.reduceAdd,aq yU,aq EG,aq B3,ao,QR]
   refine ak Cn (by simp [aw]) ?_
   simp only [SS,DD,Nat.reduceAdd]
   refine ak hl (by simp [aw]) ?_
   simp only [SS,DD,Nat.reduceAdd]
   rw [wi (k:=(AV.agg [.bool false, .nils, .bool false, .nils]).size) (by simp [af.put])]
   simp only [SS,DD,Nat.reduceAdd]
   refine ⟨by simp [ab,apart], ?_⟩
   refine ai▸ae (r:=RV x1 x2) ?_ (tu _ _)
   simp only [RS,aX,a9,ao]
   rfl
end
end Go.VL
end

section
set_option linter.unusedVariables false
namespace Go.VL
def IR (neg:Bool) (ws:List Nat):AV := .agg [.bool neg, .sl 1 (us ws)]
theorem Vo (neg:Bool) (ws:List Nat):((IR neg ws).cells.all AV.one=true)=True:=by simp [IR,AV.cells,AV.one]
theorem Vp (neg:Bool) (ws:List Nat):part false (IR neg ws).cells 0 1=some (.bool neg):=rfl
theorem MK (neg:Bool) (ws:List Nat):part false (IR neg ws).cells 1 1=some (.sl 1 (us ws)):=rfl
def pU (neg:Bool) (ws:List Nat):Bool:=if ws=[] then !neg else decide (ws[ws.length-1]?.getD 0≠0)
section
variable {P:Program} {G:Nat->Option (List AV)}
theorem Sz {f:FuncId} (h:Has P f qo) (neg:Bool) (ws:List Nat) (hl:ws.length<=9223372036854775807):VP P G f [IR neg ws] (.bool (pU neg ws)):=by
 refine VP.has h ?_
 have hlen:qS false (.sl 1 (us ws))=some (.int .i64 ws.length):=by simp [qS,gv]
 simp only [qo,SS,Nat.reduceAdd,Vo,ao,MK,hlen]
 by_cases h0:ws=[]
 . have d0:decide ((ws.length:Int)=0)=true:=ay (by rw [h0];rfl)
   have d1:decide ((0:Int)<(ws.length:Int))=false:=au (by rw [h0];simp)
   have e:pU neg ws = !neg:=by unfold pU;rw [if_pos h0]
   rw [e]
   cases neg <;>
   . simp only [SS,Nat.reduceAdd,d0,d1,ao,Vp]
     exact ai▸ae rfl (aa.bool _)
 . have ql:0<ws.length:=List.length_pos_iff.2 h0
   have d0:decide ((ws.length:Int)=0)=false:=au (by omega)
   have d1:decide ((0:Int)<(ws.length:Int))=true:=ay (by omega)
   obtain ⟨w,hw⟩:∃ w,ws[ws.length-1]? = some w:=⟨_,List.getElem?_eq_getElem (by omega)⟩
   have hp:=uL ws.length ql hl
   have e:pU neg ws=decide ((w:Int)≠0):=by unfold pU;rw [if_neg h0,hw];simp
   rw [e]
   simp only [SS,Nat.reduceAdd,d0,d1,ao,MK,hp,fX rfl (xZ hw),aI,bo]
   exact ai▸ae rfl (aa.bool _)
end
end Go.VL
end
