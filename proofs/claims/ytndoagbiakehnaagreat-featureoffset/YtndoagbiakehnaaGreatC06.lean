/- For the claim of FeatureOffset: parts CI2, CI3, CI4, CI5, CI6, CI7, CI8, CI9, CI10, CI11, CI12, CI13, CI14, CI15, CI16, CI17, CI18, FD, CI19, CI20. -/
import Derived.Test.YtndoagbiakehnaaGreatC05
import Derived.Laws.Bits64
import Derived.Laws.BitsAllLaws
set_option linter.unusedSimpArgs false
set_option linter.unusedVariables false
section
set_option linter.unusedVariables false
namespace Go.VL
def iF (a b:Int):Int:=if a<b then -1 else if b<a then 1 else 0
def eM (m n:Nat):Int:=iF m n
def IV (z:Int):AV := .agg [.bool (decide (z<0)),W z.natAbs]
def kT (neg:Bool) (n:Nat):Int:=if neg then -(n:Int) else n
theorem aA (z:Int):ab (IV z):=ab.agg (by intro c hc;simp at hc;rcases hc with rfl | rfl;exact ab.bool _;exact aC _)
theorem iG (z:Int):((IV z).cells.all AV.one=true)=True:=by simp [IV,AV.cells,AV.one,W]
theorem kf (z:Int):part false (IV z).cells 0 1=some (.bool (decide (z<0))):=rfl
theorem iZ (z:Int):part false (IV z).cells 1 1=some (W z.natAbs):=rfl
theorem di (z:Int):part true (IV z).cells 0 2=some (IV z):=rfl
theorem iH {id:Id} {ws:List Nat} {b t:Bool} {n:Nat} (hn:n=ws.length):View (ae.of [(id,⟨us ws,1,b⟩)]) (.osl id 1 0 n t) (.sl 1 (us ws)):=by
 subst hn
 refine View.osl (bk:=⟨us ws,1,b⟩) (by simp [ae.of]) rfl (by rw [eL];omega) ?_ (by rw [eL]) (yd ws)
 rw [List.drop_zero,List.take_of_length_le (by rw [eL];exact Nat.le_refl _)]
 exact az.pure (tk ws)
theorem Gx {a b:List Nat} (ha:Wd a) (_hb:Wd b) (hl:a.length=b.length) {i x y:Nat} (hx:a[i]? = some x) (hy:b[i]? = some y) (hd:a.drop (i+1)=b.drop (i+1)) (hxy:x<y):val a<val b:=by
 have n5:=(List.getElem?_eq_some_iff.1 hx).1
 have hib:=(List.getElem?_eq_some_iff.1 hy).1
 have ea:a=a.take i++x::a.drop (i+1):=by
   have:=List.take_append_drop i a
   rw [List.drop_eq_getElem_cons n5] at this
   obtain ⟨_,h2⟩:=List.getElem?_eq_some_iff.1 hx
   rw [h2] at this;exact this.symm
 have eb:b=b.take i++y::b.drop (i+1):=by
   have:=List.take_append_drop i b
   rw [List.drop_eq_getElem_cons hib] at this
   obtain ⟨_,h2⟩:=List.getElem?_eq_some_iff.1 hy
   rw [h2] at this;exact this.symm
 rw [ea,eb,bO,bO, <- hd]
 have hta:(a.take i).length=i:=by rw [List.length_take];omega
 have htb:(b.take i).length=i:=by rw [List.length_take];omega
 have h1:=eF (jP ha i)
 rw [hta] at h1 ⊢
 rw [htb]
 simp only [val]
 have h2:ay ^ i*(x+1)<=ay ^ i*y:=Nat.mul_le_mul_left _ hxy
 rw [Nat.mul_add,Nat.mul_one] at h2
 rw [Nat.mul_add,Nat.mul_add]
 omega
section
variable {P:Program} {G:Nat->Option (List AV)}
theorem PJ {f:FuncId} (h:Has P f rA) (a:Int):VP P G f [.int .i64 a] (.bool false):=by
 refine VP.has h ?_
 have e:decide (a≠a)=false:=by simp
 simp only [rA,SS,Nat.reduceAdd,e]
 exact ai▸af rfl (ab.bool _)
theorem PK {f fn:FuncId} (h:Has P f (pz fn)) (hn:∀ a,VP P G fn [.int .i64 a] (.bool false)) (a b:Int):VP P G f [.int .i64 a, .int .i64 b] (.int .i64 (iF a b)):=by
 refine VP.has h ?_
 simp only [pz,SS,Nat.reduceAdd]
 refine ah (hn a) (by simp [ab.int]) ?_
 simp only [SS,Nat.reduceAdd]
 refine ah (hn b) (by simp [ab.int]) ?_
 unfold iF
 by_cases h1:a<b
 . simp only [SS,Nat.reduceAdd,h1,decide_true]
   exact ai▸af rfl (ab.int _ _)
 . by_cases h2:b<a
   . simp only [SS,Nat.reduceAdd,h1,h2,decide_true,decide_false]
     exact ai▸af rfl (ab.int _ _)
   . simp only [SS,Nat.reduceAdd,h1,h2,decide_false]
     exact ai▸af rfl (ab.int _ _)
theorem Jl {f:FuncId} (h:Has P f od) (a:Int):VP P G f [.int .u32 a] (.bool false):=by
 refine VP.has h ?_
 have e:decide (a≠a)=false:=by simp
 simp only [od,SS,Nat.reduceAdd,e]
 exact ai▸af rfl (ab.bool _)
theorem Jm {f fn:FuncId} (h:Has P f (l8 fn)) (hn:∀ a,VP P G fn [.int .u32 a] (.bool false)) (a b:Int):VP P G f [.int .u32 a, .int .u32 b] (.int .i64 (iF a b)):=by
 refine VP.has h ?_
 simp only [l8,SS,Nat.reduceAdd]
 refine ah (hn a) (by simp [ab.int]) ?_
 simp only [SS,Nat.reduceAdd]
 refine ah (hn b) (by simp [ab.int]) ?_
 unfold iF
 by_cases h1:a<b
 . simp only [SS,Nat.reduceAdd,h1,decide_true]
   exact ai▸af rfl (ab.int _ _)
 . by_cases h2:b<a
   . simp only [SS,Nat.reduceAdd,h1,h2,decide_true,decide_false]
     exact ai▸af rfl (ab.int _ _)
   . simp only [SS,Nat.reduceAdd,h1,h2,decide_false]
     exact ai▸af rfl (ab.int _ _)
def ja (P:Program) (G:Nat->Option (List AV)) (f:FuncId):Prop:=∀ ws:List Nat,Wd ws->ws.length<=9223372036854775807->VP P G f [.sl 1 (us ws)] (W (val ws))
theorem FK {f ft:FuncId} (h:Has P f (ku ft)) (ht:ja P G ft) (n:Nat) (hn:n<18446744073709551616):VP P G f [.int .u64 (n:Int)] (W n):=by
 refine VP.has h ?_
 have e1:IntKind.u32.wrap (n:Int)=((n%ay:Nat):Int):=by rw [IntKind.wrap_u32];unfold ay;omega
 have e2:bP .shr .int (.int .u64 (n:Int)) (.int .u64 32)=some (.int .u64 ((n/ay:Nat):Int)):=by
   rw [uh (by decide)]
   have:(n:Int).fdiv (2 ^ (min (32:Int).toNat IntKind.u64.bits))=((n/ay:Nat):Int):=by
     show (n:Int).fdiv (2 ^ 32)=_
     rw [Int.fdiv_eq_ediv_of_nonneg _ (by decide)];unfold ay;omega
   rw [this]
 have e3:IntKind.u32.wrap ((n/ay:Nat):Int)=((n/ay:Nat):Int):=by rw [IntKind.wrap_u32];unfold ay;omega
 have hb:∀ (σ : ae) (q:Id),bW σ q (.buildSl 1 2 (.int .u32 0) [(0, .int .u32 ((n%ay:Nat):Int)),(1, .int .u32 ((n/ay:Nat):Int))])=some { val := .osl q 1 0 2 false,up:=[(q,some ⟨us [n%ay,n/ay],1,false⟩)] }:=fun σ q=>gO rfl rfl rfl rfl rfl rfl
 have hw:Wd [n%ay,n/ay]:=by intro w hw;simp at hw;rcases hw with rfl | rfl<;>unfold ay<;>omega
 have hv:val [n%ay,n/ay]=n:=by simp [val,Nat.mod_add_div]
 have Bn:=ht [n%ay,n/ay] hw (by simp)
 rw [hv] at Bn
 simp only [ku,SS,Nat.reduceAdd,e1,e2,e3,hb]
 refine cA [([6],⟨us [n%ay,n/ay],1,false⟩)] Bn (az.cons (iH rfl) az.nil) (by simp [ae.put]) ?_
 simp only [SS,Nat.reduceAdd]
 exact ai▸af rfl (aC _)
theorem TB {f ft:FuncId} (h:Has P f (mU ft)) (ht:ja P G ft) (neg:Bool) {ws:List Nat} (hw:Wd ws) (hl:ws.length<=9223372036854775807):VP P G f [.bool neg, .sl 1 (us ws)] (IV (kT neg (val ws))):=by
 refine VP.has h ?_
 have z1:(AV.cells (.agg [(.bool false), .nils])).all AV.one=true:=rfl
 have hlen:∀ m,ni false (W m)=some (.int .i64 (digits m).length):=fun m=>by simp [W,ni,eL]
 simp only [mU,SS,Nat.reduceAdd,z1]
 refine ah (ht ws hw hl) (by simp [Bm]) ?_
 simp only [SS,Nat.reduceAdd,hlen]
 by_cases h0:val ws=0
 . have d0:decide (((digits (val ws)).length:Int)=0)=true:=aw (by rw [h0,bo];rfl)
   have e:kW [.bool false, .nils] []=some [.bool false, .nils]:=rfl
   have e2:∀ (σ : ae) (id:Id) (k:Nat),ir (σ.put id (some ⟨[.agg [.bool false, .nils]],k,false⟩)) 2 (.ref id 0 0) (.agg [.bool false, .nils])=some { val := .tup [],rd:=[id],up:=[(id,some ⟨[.agg [.bool false, .nils]],k,false⟩)] }:=by
     intro σ id k
     rw [gD (n:=2) (v := .agg [.bool false, .nils]) (els:=[.agg [.bool false, .nils]]) (k:=k) (ae.dO _ _ _) rfl rfl (by simp [AV.size,AV.cells]) rfl]
     rfl
   simp only [SS,Nat.reduceAdd,d0,e,e2]
   refine ai▸⟨.agg [.bool false, .nils], ?_, ?_⟩
   . simp only [RS,bn,bC,aj];rfl
   . have:IV (kT neg (val ws)) = .agg [.bool false, .sl 1 []]:=by rw [h0];cases neg<;>simp [IV,kT,W,bo,us]
     rw [this]
     exact View.agg (az.cons (View.pure (ab.bool _)) (az.cons (View.nils 1) az.nil))
 . have hne:(digits (val ws)).length≠0:=by intro e;exact h0 (lr.1 (List.length_eq_zero_iff.1 e))
   have d0:decide (((digits (val ws)).length:Int)=0)=false:=ak (by omega)
   have e:kW [.bool false, .nils] [(0,(1, .bool neg)),(1,(1,W (val ws)))]=some [.bool neg,W (val ws)]:=rfl
   have e2:∀ (σ : ae) (id:Id) (k:Nat),ir (σ.put id (some ⟨[.agg [.bool false, .nils]],k,false⟩)) 2 (.ref id 0 0) (.agg [.bool neg,W (val ws)])=some { val := .tup [],rd:=[id],up:=[(id,some ⟨[.agg [.bool neg,W (val ws)]],k,false⟩)] }:=by
     intro σ id k
     rw [gD (n:=2) (v := .agg [.bool neg,W (val ws)]) (els:=[.agg [.bool false, .nils]]) (k:=k) (ae.dO _ _ _) rfl rfl (by simp [AV.size,AV.cells]) rfl]
     rfl
   simp only [SS,Nat.reduceAdd,d0,e,e2]
   have ei:IV (kT neg (val ws)) = .agg [.bool neg,W (val ws)]:=by
     cases neg
     . simp only [IV,kT];simp<;>omega
     . simp only [IV,kT];simp<;>omega
   rw [ei]
   refine ai▸af (r := .agg [.bool neg,W (val ws)]) ?_ (ab.agg (by intro c hc;simp at hc;rcases hc with rfl | rfl;exact ab.bool _;exact aC _))
   simp only [RS,bn,bC,aj];rfl
end
end Go.VL
end

section
set_option linter.unusedVariables false
namespace Go.VL
theorem Bo {a b:Int} (h:a<b):iF a b = -1:=by simp [iF,h]
theorem Bp {a b:Int} (h:b<a):iF a b=1:=by simp [iF,h];omega
theorem RQ {a b:Int} (h:a=b):iF a b=0:=by simp [iF,h]
theorem bb (m:Nat):ni false (W m)=some (.int .i64 (aa m)):=by simp [W,ni,eL,aa]
theorem ye {m n:Nat} (h:aa m<aa n):m<n:=by
 rcases Nat.lt_or_ge m n with h1 | h1
 . exact h1
 . have:=bg h1;omega
theorem dx {m i w:Nat} (h:(digits m)[i]? = some w):bK 1 (W m) (.int .i64 (i:Int))=some (.ep (AV.int .u32 (w:Int)).cells 0):=fG rfl (qP h)
section
variable {P:Program} {G:Nat->Option (List AV)}
theorem PL {f fi fw:FuncId} (h:Has P f (pj fi fw)) (hi:∀ a b:Int,VP P G fi [.int .i64 a, .int .i64 b] (.int .i64 (iF a b))) (hw:∀ a b:Int,VP P G fw [.int .u32 a, .int .u32 b] (.int .i64 (iF a b)))
   (m n:Nat) (hm:aa m<9223372036854775807) (hn:aa n<9223372036854775807):VP P G f [W m,W n] (.int .i64 (eM m n)):=by
 refine VP.has h ?_
 simp only [pj,SS,Nat.reduceAdd,bb]
 by_cases hl:aa m=aa n
 case neg =>
   have d:decide ((aa m:Int)≠(aa n:Int))=true:=aw (by omega)
   simp only [SS,Nat.reduceAdd,bb,d]
   refine ah (hi _ _) (by simp [ab.int]) ?_
   simp only [SS,Nat.reduceAdd]
   have e:iF (aa m:Int) (aa n:Int)=eM m n:=by
     rcases Nat.lt_or_ge (aa m) (aa n) with h1 | h1
     . have h2:=ye h1
       rw [Bo (by omega)];unfold eM;rw [Bo (by omega)]
     . have h1':aa n<aa m:=by omega
       have h2:=ye h1'
       rw [Bp (by omega)];unfold eM;rw [Bp (by omega)]
   rw [e]
   exact ai▸af rfl (ab.int _ _)
 have d:decide ((aa m:Int)≠(aa n:Int))=false:=ak (by omega)
 have ew:IntKind.i64.wrap ((aa m:Int)-1)=(aa m:Int)-1:=by rw [IntKind.wrap_i64];omega
 have Pj:(digits m).drop (aa m)=(digits n).drop (aa m):=by
   have e1:(digits m).drop (aa m)=[]:=List.drop_of_length_le (Nat.le_refl _)
   have e2:(digits n).drop (aa m)=[]:=List.drop_of_length_le (by show aa n<=aa m;omega)
   rw [e1,e2]
 simp only [SS,Nat.reduceAdd,bb,d,ew,aY]
 refine VW.e9 (α := Nat × Nat) (fun x=>⟨[W m,W n, .top, .top, .top, .int .i64 ((x.1:Int)-1)]++List.replicate 35 .top,fun _=>none,x.2⟩) (fun x=>x.1<=aa m/\(digits m).drop x.1=(digits n).drop x.1) (fun x=>x.1) (aa m,10) ?_
   ⟨Nat.le_refl _,Pj⟩ ?_
 . exact Wk.slots (by simp [Fg,List.replicate]) (Nat.le_refl _)
 rintro ⟨j,q⟩ ⟨hj,hd⟩
 simp only [] at hj hd
 simp only [SS,Nat.reduceAdd]
 by_cases h0:j=0
 . subst h0
   have d0:decide ((0:Int)<=((0:Nat):Int)-1)=false:=by decide
   simp only [SS,d0]
   have e:m=n:=by
     simp only [List.drop_zero] at hd
     rw [<- aI m,hd,aI]
   have e2:eM m n=0:=RQ (by omega)
   rw [e2]
   exact ai▸af rfl (ab.int _ _)
 . have re:0<j:=Nat.pos_of_ne_zero h0
   have d0:decide ((0:Int)<=((j-1:Nat):Int))=true:=aw (by omega)
   have ej:(j:Int)-1=((j-1:Nat):Int):=by omega
   have hjm:j-1<(digits m).length:=by show j-1<aa m;omega
   have S5:j-1<(digits n).length:=by show j-1<aa n;omega
   have ew2:IntKind.i64.wrap (((j-1:Nat):Int)-1)=((j-1:Nat):Int)-1:=by rw [IntKind.wrap_i64];omega
   obtain ⟨x,hx⟩:∃ x,(digits m)[j-1]? = some x:=⟨_,List.getElem?_eq_getElem hjm⟩
   obtain ⟨y,hy⟩:∃ y,(digits n)[j-1]? = some y:=⟨_,List.getElem?_eq_getElem S5⟩
   have YF:(digits m).drop (j-1+1)=(digits n).drop (j-1+1):=by rw [show j-1+1=j from by omega];exact hd
   have hap:ag (([]:List fL)) ([]:List (Nat × Nat)):=by simp [ag]
   by_cases hxy:x=y
   . have d1:decide ((x:Int)≠(y:Int))=false:=ak (by omega)
     simp only [SS,DD,Nat.reduceAdd,d0,ej,dx hx,dx hy,aK,bp,d1,ew2]
     refine ⟨by simp [ag],(j-1,_),⟨by simp only [];omega, ?_⟩,by simp only [];omega,Wk.slots (by simp [Fg]) (Nat.le_refl _)⟩
     simp only []
     rw [List.drop_eq_getElem_cons hjm,List.drop_eq_getElem_cons S5,YF]
     obtain ⟨_,h1⟩:=List.getElem?_eq_some_iff.1 hx
     obtain ⟨_,h2⟩:=List.getElem?_eq_some_iff.1 hy
     rw [h1,h2,hxy]
   . have d1:decide ((x:Int)≠(y:Int))=true:=aw (by omega)
     have e:iF (x:Int) (y:Int)=eM m n:=by
       rcases Nat.lt_or_ge x y with h1 | h1
       . have:=Gx (aQ m) (aQ n) hl hx hy YF h1
         rw [aI,aI] at this
         rw [Bo (by omega)];unfold eM;rw [Bo (by omega)]
       . have:=Gx (aQ n) (aQ m) hl.symm hy hx YF.symm (by omega)
         rw [aI,aI] at this
         rw [Bp (by omega)];unfold eM;rw [Bp (by omega)]
     simp only [SS,DD,Nat.reduceAdd,d0,ej,dx hx,dx hy,aK,bp,d1]
     refine ⟨by simp [ag], ?_⟩
     refine ao (hw _ _) (by simp [ab.int]) ?_
     simp only [SS,DD,Nat.reduceAdd,e]
     refine ⟨by simp [ag], ?_⟩
     exact ai▸af rfl (ab.int _ _)
end
end Go.VL
end

section
set_option linter.unusedVariables false
namespace Go.VL
theorem DM {o:List Nat} (h:Wd o) (G1:o=[]∨ay ^ (o.length-1)<=val o):digits (val o)=o:=by
 refine jG h ?_
 rcases G1 with h0 | G1
 . exact .inl h0
 . by_cases h0:o=[]
   . exact .inl h0
   . right
     refine ⟨o.getLast h0,List.getLast?_eq_some_getLast h0,fun hz => ?_⟩
     have e:=List.dropLast_concat_getLast h0
     rw [hz] at e
     have hv:val o=val o.dropLast:=by rw [<- e,jH,List.dropLast_concat]
     have hlt:=eF (ws:=o.dropLast) (fun w hw=>h w ((List.dropLast_sublist _).subset hw))
     rw [List.length_dropLast] at hlt
     omega
theorem aG {a:List Nat} {i x:Nat} (h:a[i]? = some x):val (a.take (i+1))=val (a.take i)+ay ^ i*x:=by
 have hlt:=(List.getElem?_eq_some_iff.1 h).1
 have e:a.take (i+1)=a.take i++[x]:=by rw [List.take_add_one,h];rfl
 rw [e,bO]
 have:(a.take i).length=i:=by rw [List.length_take];omega
 rw [this];simp [val]
theorem jI {a:List Nat} {i:Nat} (h:a.length<=i):val (a.take (i+1))=val (a.take i):=by
 rw [List.take_of_length_le h,List.take_of_length_le (by omega)]
theorem nU {o:List Nat} {i c va vb x y s:Nat} (ho:o.length=i) (hv:val o+ay ^ i*c=va+vb) (hs:s=c+x+y):val (o++[s%ay])+ay ^ (i+1)*(s/ay)=(va+ay ^ i*x)+(vb+ay ^ i*y):=by
 have e2:=Nat.mod_add_div s ay
 rw [bO,ho]
 simp only [val,Nat.mul_zero,Nat.add_zero,Nat.pow_succ]
 rw [Nat.mul_assoc,Nat.add_assoc, <- Nat.mul_add,e2,hs]
 rw [Nat.mul_add,Nat.mul_add]
 omega
theorem q7 {o:List Nat} (h:Wd o) (s:Nat):Wd (o++[s%ay]):=c9 h (by intro w hw;simp at hw;subst hw;exact Nat.mod_lt _ bZ)
theorem w6 (s:Nat):IntKind.u32.wrap (s:Int)=((s%ay:Nat):Int):=by rw [IntKind.wrap_u32];unfold ay;omega
theorem w64 (s:Nat) (h:s<18446744073709551616):IntKind.u64.wrap (s:Int)=(s:Int):=by rw [IntKind.wrap_u64];omega
theorem p8 (s:Nat):bP .shr .int (.int .u64 (s:Int)) (.int .u64 32)=some (.int .u64 ((s/ay:Nat):Int)):=by
 rw [uh (by decide)]
 have:(s:Int).fdiv (2 ^ (min (32:Int).toNat IntKind.u64.bits))=((s/ay:Nat):Int):=by
   show (s:Int).fdiv (2 ^ 32)=_
   rw [Int.fdiv_eq_ediv_of_nonneg _ (by decide)];unfold ay;omega
 rw [this]
theorem bj (x:Nat) (h:x<ay):IntKind.u64.wrap (x:Int)=(x:Int):=w64 x (by unfold ay at h;omega)
theorem p9 (a b:Nat) (h:a+b<18446744073709551616):IntKind.u64.wrap ((a:Int)+(b:Int))=((a+b:Nat):Int):=by rw [IntKind.wrap_u64];omega
theorem DN {σ : ae} {q:Id} {x:Nat}:bW σ q (.buildSl 1 1 (.int .u32 0) [(0, .int .u32 (x:Int))])=some { val := .osl q 1 0 1 false,up:=[(q,some ⟨us [x],1,false⟩)] }:=gK rfl rfl rfl rfl
theorem ab2 {p:Id} {c:Nat} (h:c*4<=140737488355328):jJ p 1 4 (.int .u32 0) (.int .i64 0) (.int .i64 (c:Int))=some { val := .osl p 1 0 0 false,up:=[(p,some ⟨us [],1,false⟩)] }:=by
 have hm:=gC (n:=c) (by omega)
 show (if (0:Int)<=0/\(0:Int)<=(c:Int)/\(c:Int)*((4:Nat):Int)<=140737488355328/\(c:Int)<=((maxLen:Nat):Int)/\(AV.int IntKind.u32 0).size=1/\(AV.int IntKind.u32 0).cells.all AV.one=true then _ else none)=_
 rw [if_pos ⟨by omega,by omega,by omega,by omega,rfl,rfl⟩]
 rfl
theorem Ff {σ : ae} {p id q:Id} {o:List Nat} {x len:Nat} (hq:q≠id) (hl:len=o.length) (hb:(len+1)*4<=140737488355328) (h : σ id=some ⟨us o,1,false⟩) :
   fK (σ.put q (some ⟨us [x],1,false⟩)) p 1 4 (.osl id 1 0 len false) (.osl q 1 0 1 false)=some { val := .osl p 1 0 (len+1) false,rd:=[id,q],up:=[(id,none),(p,some ⟨us (o++[x]),1,false⟩)] }:=by
 have:=yb (σ := σ.put q (some ⟨us [x],1,false⟩)) (p:=p) (id:=id) (k:=1) (bytes:=4) (len:=len) (els:=us o) (x := .osl q 1 0 1 false) (ys:=us [x]) (rd:=[q])
   (A4 (bk:=⟨us [x],1,false⟩) (ae.dO _ _ _) rfl (by simp [eL])) (by simp [us]) (by rw [ae.cN _ _ _ hq.symm];exact h) (by rw [eL];exact hl) (by rw [eL];exact hb) (gC (by rw [eL];simp;omega)) (PH _) (PH _)
 rw [this,Fe]
 simp [eL]
theorem H4 {rs:List vI} {s:VS} {id:Id} {n:Nat} {t b:Bool} {o:List Nat} (h1:bn rs s=some (.osl id 1 0 n t)) (h2:s.σ id=some ⟨us o,1,b⟩) (hn:n=o.length):∃ r0,bn rs s=some r0/\View s.σ r0 (.sl 1 (us o)):=by
 subst hn
 refine ⟨_,h1,View.osl (bk:=⟨us o,1,b⟩) h2 rfl (by simp [eL]) ?_ (by rw [eL]) (yd o)⟩
 rw [List.drop_zero,List.take_of_length_le (by rw [eL];exact Nat.le_refl _)]
 exact az.pure (tk o)
section
variable {P:Program} {G:Nat->Option (List AV)}
theorem Zv {f:FuncId} (h:Has P f sC) (m n:Nat) (hm:aa m<=1000000) (hn:aa n<=1000000):VP P G f [W m,W n] (W (m+n)):=by
 refine VP.has h ?_
 simp only [sC,SS,Nat.reduceAdd,bb]
 by_cases hs:aa m<aa n
 . have hle:aa m<=aa n:=by omega
   have hlx:aa n<=1000000:=hn
   have hd:decide ((aa m:Int)<(aa n:Int))=true:=by first | exact aw (by omega) | exact ak (by omega)
   have ew:IntKind.i64.wrap ((aa n:Int)+1)=((aa n+1:Nat):Int):=aD _ (by omega)
   have tp:∀ p:Id,jJ p 1 4 (.int .u32 0) (.int .i64 0) (.int .i64 ((aa n+1:Nat):Int))=some { val := .osl p 1 0 0 false,up:=[(p,some ⟨us [],1,false⟩)] }:=fun p=>ab2 (by omega)
   simp only [SS,Nat.reduceAdd,bb,hd,ew,tp,aY]
   refine VW.e9 (α := Nat × Nat × Nat × List Nat × Nat) (fun x=>⟨[W n,W m, .top, .top, .top, .osl [x.2.2.1] 1 0 x.1 false, .int .u64 (x.2.2.2.2:Int), .top, .top]++List.replicate 11 .top++[W n, .int .i64 (aa n), .int .i64 x.1]++List.replicate 35 .top,
     ae.put (fun _=>none) [x.2.2.1] (some ⟨us x.2.2.2.1,1,false⟩),x.2.1⟩)
     (fun x=>x.1<=aa n/\x.2.2.1<x.2.1/\x.2.2.2.1.length=x.1/\Wd x.2.2.2.1/\x.2.2.2.2<=1/\val x.2.2.2.1+ay ^ x.1*x.2.2.2.2=val ((digits n).take x.1)+val ((digits m).take x.1)) (fun x=>aa n-x.1) (0,19,13,[],0) ?_ ?_ ?_
   . exact Wk.slots (by simp [Fg,List.replicate]) (Nat.le_refl _)
   . exact ⟨Nat.zero_le _,by decide,rfl,by intro w hw;simp at hw,by decide,by simp [val]⟩
   rintro ⟨i,nn,q,o,c⟩ ⟨hi,hq,ho,hwd,hc,hv⟩
   simp only [] at hi hq ho hwd hc hv
   have vA:i<aa n->decide ((i:Int)<(aa n:Int))=true:=fun h=>aw (by omega)
   have xh : ¬ i<aa n->decide ((i:Int)<(aa n:Int))=false:=fun h=>ak (by omega)
   have hb4:(i+1)*4<=140737488355328:=by omega
   have dT : ¬ i<aa n->i=aa n:=by omega
   have sr:=aD i (by omega)
   simp only [SS]
   by_cases hlt:i<aa n
   . have jT:i+1<=aa n/\aa n-(i+1)<aa n-i:=by omega
     obtain ⟨a,ha⟩:∃ a,(digits n)[i]? = some a:=⟨_,List.getElem?_eq_getElem hlt⟩
     have vC:=aQ n a (List.mem_of_getElem? ha)
     have f1:=bj a vC
     have f2:=p9 c a (by unfold ay at vC;omega)
     by_cases hy:i<aa m
     . obtain ⟨b,hb⟩:∃ b,(digits m)[i]? = some b:=⟨_,List.getElem?_eq_getElem hy⟩
       have FH:=aQ m b (List.mem_of_getElem? hb)
       have d3:decide ((i:Int)<(aa m:Int))=true:=aw (by omega)
       have f3:=bj b FH
       have f4:=p9 (c+a) b (by unfold ay at vC FH;omega)
       have Zw:(c+a+b)/ay<=1:=by unfold ay at vC FH ⊢;omega
       simp only [SS,Nat.reduceAdd,vA hlt,dx ha,dx hb,bb,aK,bp,f1,f2,d3,f3,f4,w6,DN]
       rw [Ff (o:=o)]
       . simp only [SS,Nat.reduceAdd,p8,sr]
         refine ⟨(i+1,_,nn+1+5+5+4+8+4,o++[(c+a+b)%ay],(c+a+b)/ay),⟨jT.1, ?_,by simp [ho],q7 hwd _,Zw, ?_⟩,jT.2,Wk.forget (by simp [Fg]) (fun j => ?_) (Nat.le_refl _)⟩
         . simp only [];omega
         . show val (o++[(c+a+b)%ay])+ay ^ (i+1)*((c+a+b)/ay)=_
           rw [aG ha,aG hb]
           exact nU ho hv rfl
         . simp only [ae.put];split<;>simp
       . intro e;simp at e;omega
       . exact ho.symm
       . exact hb4
       . exact ae.dO _ _ _
     . have d3:decide ((i:Int)<(aa m:Int))=false:=ak (by omega)
       have Zw:(c+a)/ay<=1:=by unfold ay at vC ⊢;omega
       simp only [SS,Nat.reduceAdd,vA hlt,dx ha,bb,aK,bp,f1,f2,d3,w6,DN]
       rw [Ff (o:=o)]
       . simp only [SS,Nat.reduceAdd,p8,sr]
         refine ⟨(i+1,_,nn+1+5+5+4+4,o++[(c+a)%ay],(c+a)/ay),⟨jT.1, ?_,by simp [ho],q7 hwd _,Zw, ?_⟩,jT.2,Wk.forget (by simp [Fg]) (fun j => ?_) (Nat.le_refl _)⟩
         . simp only [];omega
         . show val (o++[(c+a)%ay])+ay ^ (i+1)*((c+a)/ay)=_
           rw [aG ha,jI (by show aa m<=i;omega)]
           have:=nU (x:=a) (y:=0) (s:=c+a) ho hv (by omega)
           simpa using this
         . simp only [ae.put];split<;>simp
       . intro e;simp at e;omega
       . exact ho.symm
       . exact hb4
       . exact ae.dO _ _ _
   . have qm:=dT hlt
     have yf:val o+ay ^ i*c=m+n:=by
       have e1:(digits n).take (aa n)=digits n:=List.take_of_length_le (Nat.le_refl _)
       have e2:(digits m).take (aa n)=digits m:=List.take_of_length_le hle
       rw [hv,qm,e1,e2,aI,aI]
       all_goals omega
     by_cases h0:c=0
     . have d4:decide ((0:Int)<(c:Int))=false:=ak (by omega)
       have e:W (m+n) = .sl 1 (us o):=by
         rw [h0] at yf
         simp only [Nat.mul_zero,Nat.add_zero] at yf
         unfold W
         rw [<- yf,DM hwd]
         rcases Nat.eq_zero_or_pos i with h1 | h1
         . left;rw [h1] at ho;exact List.length_eq_zero_iff.1 ho
         . right
           rw [yf,ho,qm]
           have NA:n≠0:=by rintro e;rw [e] at qm;simp [aa,bo] at qm;omega
           have:=uw NA
           omega
       simp only [SS,Nat.reduceAdd,xh hlt,d4]
       rw [e]
       exact ai▸H4 (b:=false) rfl (by simp [ae.put]) ho.symm
     . have hc1:c=1:=by omega
       have d4:decide ((0:Int)<(c:Int))=true:=aw (by omega)
       have e1:c%ay=1:=by rw [hc1];rfl
       have e:W (m+n) = .sl 1 (us (o++[1])):=by
         have qq:val (o++[1])=m+n:=by rw [bO,ho, <- yf,hc1];simp [val]
         unfold W
         rw [<- qq,jG (c9 hwd (by intro w hw;simp at hw;subst hw;decide)) (.inr ⟨1,by simp,by decide⟩)]
       simp only [SS,Nat.reduceAdd,xh hlt,d4,w6,e1,DN]
       rw [Ff (o:=o)]
       . simp only [SS,Nat.reduceAdd]
         rw [e]
         exact ai▸H4 (b:=false) rfl (by simp [ae.put]) (by simp [ho])
       . intro e;simp at e;omega
       . exact ho.symm
       . exact hb4
       . exact ae.dO _ _ _
 . have hle:aa n<=aa m:=by omega
   have hlx:aa m<=1000000:=hm
   have hd:decide ((aa m:Int)<(aa n:Int))=false:=by first | exact aw (by omega) | exact ak (by omega)
   have ew:IntKind.i64.wrap ((aa m:Int)+1)=((aa m+1:Nat):Int):=aD _ (by omega)
   have tp:∀ p:Id,jJ p 1 4 (.int .u32 0) (.int .i64 0) (.int .i64 ((aa m+1:Nat):Int))=some { val := .osl p 1 0 0 false,up:=[(p,some ⟨us [],1,false⟩)] }:=fun p=>ab2 (by omega)
   simp only [SS,Nat.reduceAdd,bb,hd,ew,tp,aY]
   refine VW.e9 (α := Nat × Nat × Nat × List Nat × Nat) (fun x=>⟨[W m,W n, .top, .top, .top, .osl [x.2.2.1] 1 0 x.1 false, .int .u64 (x.2.2.2.2:Int), .top, .top]++List.replicate 11 .top++[W m, .int .i64 (aa m), .int .i64 x.1]++List.replicate 35 .top,
     ae.put (fun _=>none) [x.2.2.1] (some ⟨us x.2.2.2.1,1,false⟩),x.2.1⟩)
     (fun x=>x.1<=aa m/\x.2.2.1<x.2.1/\x.2.2.2.1.length=x.1/\Wd x.2.2.2.1/\x.2.2.2.2<=1/\val x.2.2.2.1+ay ^ x.1*x.2.2.2.2=val ((digits m).take x.1)+val ((digits n).take x.1)) (fun x=>aa m-x.1) (0,15,9,[],0) ?_ ?_ ?_
   . exact Wk.slots (by simp [Fg,List.replicate]) (Nat.le_refl _)
   . exact ⟨Nat.zero_le _,by decide,rfl,by intro w hw;simp at hw,by decide,by simp [val]⟩
   rintro ⟨i,nn,q,o,c⟩ ⟨hi,hq,ho,hwd,hc,hv⟩
   simp only [] at hi hq ho hwd hc hv
   have vA:i<aa m->decide ((i:Int)<(aa m:Int))=true:=fun h=>aw (by omega)
   have xh : ¬ i<aa m->decide ((i:Int)<(aa m:Int))=false:=fun h=>ak (by omega)
   have hb4:(i+1)*4<=140737488355328:=by omega
   have dT : ¬ i<aa m->i=aa m:=by omega
   have sr:=aD i (by omega)
   simp only [SS]
   by_cases hlt:i<aa m
   . have jT:i+1<=aa m/\aa m-(i+1)<aa m-i:=by omega
     obtain ⟨a,ha⟩:∃ a,(digits m)[i]? = some a:=⟨_,List.getElem?_eq_getElem hlt⟩
     have vC:=aQ m a (List.mem_of_getElem? ha)
     have f1:=bj a vC
     have f2:=p9 c a (by unfold ay at vC;omega)
     by_cases hy:i<aa n
     . obtain ⟨b,hb⟩:∃ b,(digits n)[i]? = some b:=⟨_,List.getElem?_eq_getElem hy⟩
       have FH:=aQ n b (List.mem_of_getElem? hb)
       have d3:decide ((i:Int)<(aa n:Int))=true:=aw (by omega)
       have f3:=bj b FH
       have f4:=p9 (c+a) b (by unfold ay at vC FH;omega)
       have Zw:(c+a+b)/ay<=1:=by unfold ay at vC FH ⊢;omega
       simp only [SS,Nat.reduceAdd,vA hlt,dx ha,dx hb,bb,aK,bp,f1,f2,d3,f3,f4,w6,DN]
       rw [Ff (o:=o)]
       . simp only [SS,Nat.reduceAdd,p8,sr]
         refine ⟨(i+1,_,nn+1+5+5+4+8+4,o++[(c+a+b)%ay],(c+a+b)/ay),⟨jT.1, ?_,by simp [ho],q7 hwd _,Zw, ?_⟩,jT.2,Wk.forget (by simp [Fg]) (fun j => ?_) (Nat.le_refl _)⟩
         . simp only [];omega
         . show val (o++[(c+a+b)%ay])+ay ^ (i+1)*((c+a+b)/ay)=_
           rw [aG ha,aG hb]
           exact nU ho hv rfl
         . simp only [ae.put];split<;>simp
       . intro e;simp at e;omega
       . exact ho.symm
       . exact hb4
       . exact ae.dO _ _ _
     . have d3:decide ((i:Int)<(aa n:Int))=false:=ak (by omega)
       have Zw:(c+a)/ay<=1:=by unfold ay at vC ⊢;omega
       simp only [SS,Nat.reduceAdd,vA hlt,dx ha,bb,aK,bp,f1,f2,d3,w6,DN]
       rw [Ff (o:=o)]
       . simp only [SS,Nat.reduceAdd,p8,sr]
         refine ⟨(i+1,_,nn+1+5+5+4+4,o++[(c+a)%ay],(c+a)/ay),⟨jT.1, ?_,by simp [ho],q7 hwd _,Zw, ?_⟩,jT.2,Wk.forget (by simp [Fg]) (fun j => ?_) (Nat.le_refl _)⟩
         . simp only [];omega
         . show val (o++[(c+a)%ay])+ay ^ (i+1)*((c+a)/ay)=_
           rw [aG ha,jI (by show aa n<=i;omega)]
           have:=nU (x:=a) (y:=0) (s:=c+a) ho hv (by omega)
           simpa using this
         . simp only [ae.put];split<;>simp
       . intro e;simp at e;omega
       . exact ho.symm
       . exact hb4
       . exact ae.dO _ _ _
   . have qm:=dT hlt
     have yf:val o+ay ^ i*c=m+n:=by
       have e1:(digits m).take (aa m)=digits m:=List.take_of_length_le (Nat.le_refl _)
       have e2:(digits n).take (aa m)=digits n:=List.take_of_length_le hle
       rw [hv,qm,e1,e2,aI,aI]
       all_goals omega
     by_cases h0:c=0
     . have d4:decide ((0:Int)<(c:Int))=false:=ak (by omega)
       have e:W (m+n) = .sl 1 (us o):=by
         rw [h0] at yf
         simp only [Nat.mul_zero,Nat.add_zero] at yf
         unfold W
         rw [<- yf,DM hwd]
         rcases Nat.eq_zero_or_pos i with h1 | h1
         . left;rw [h1] at ho;exact List.length_eq_zero_iff.1 ho
         . right
           rw [yf,ho,qm]
           have NA:m≠0:=by rintro e;rw [e] at qm;simp [aa,bo] at qm;omega
           have:=uw NA
           omega
       simp only [SS,Nat.reduceAdd,xh hlt,d4]
       rw [e]
       exact ai▸H4 (b:=false) rfl (by simp [ae.put]) ho.symm
     . have hc1:c=1:=by omega
       have d4:decide ((0:Int)<(c:Int))=true:=aw (by omega)
       have e1:c%ay=1:=by rw [hc1];rfl
       have e:W (m+n) = .sl 1 (us (o++[1])):=by
         have qq:val (o++[1])=m+n:=by rw [bO,ho, <- yf,hc1];simp [val]
         unfold W
         rw [<- qq,jG (c9 hwd (by intro w hw;simp at hw;subst hw;decide)) (.inr ⟨1,by simp,by decide⟩)]
       simp only [SS,Nat.reduceAdd,xh hlt,d4,w6,e1,DN]
       rw [Ff (o:=o)]
       . simp only [SS,Nat.reduceAdd]
         rw [e]
         exact ai▸H4 (b:=false) rfl (by simp [ae.put]) (by simp [ho])
       . intro e;simp at e;omega
       . exact ho.symm
       . exact hb4
       . exact ae.dO _ _ _
end
end Go.VL
end

section
set_option linter.unusedVariables false
namespace Go.VL
theorem Lt (c:Nat):List.replicate c (AV.int .u32 0)=us (List.replicate c 0):=by simp [us]
theorem adA (o:List Nat) (i x:Nat):(us o).set i (.int .u32 (x:Int))=us (o.set i x):=by simp [us,List.map_set]
theorem lJ {p:Id} {c:Nat} (h:c*4<=140737488355328):jJ p 1 4 (.int .u32 0) (.int .i64 (c:Int)) (.int .i64 (c:Int))=some { val := .osl p 1 0 c false,up:=[(p,some ⟨us (List.replicate c 0),1,false⟩)] }:=by
 have hm:=gC (n:=c) (by omega)
 show (if (0:Int)<=(c:Int)/\(c:Int)<=(c:Int)/\(c:Int)*((4:Nat):Int)<=140737488355328/\(c:Int)<=((maxLen:Nat):Int)/\(AV.int IntKind.u32 0).size=1/\(AV.int IntKind.u32 0).cells.all AV.one=true then _ else none)=_
 rw [if_pos ⟨by omega,by omega,by omega,by omega,rfl,rfl⟩]
 simp only [Int.toNat_natCast,Lt]
theorem b7 {q:Id} {len i:Nat} {t:Bool} (h:i<len):bK 1 (.osl q 1 0 len t) (.int .i64 (i:Int))=some (.ref q i 0):=by
 simp only [bK]
 rw [if_pos ⟨trivial,by omega,by omega⟩]
 simp
theorem bV {σ : ae} {q:Id} {o:List Nat} {i x:Nat} (h : σ q=some ⟨us o,1,false⟩) (hi:i<o.length):ir σ 1 (.ref q i 0) (.int .u32 (x:Int))=some { val := .tup [],rd:=[q],up:=[(q,some ⟨us (o.set i x),1,false⟩)] }:=by
 obtain ⟨w,hw⟩:∃ w,o[i]? = some w:=⟨_,List.getElem?_eq_getElem hi⟩
 rw [gD (n:=1) (v := .int .u32 (x:Int)) h (qP hw) rfl (by simp [AV.size,AV.cells]) rfl, <- adA]
 rfl
theorem jo {σ : ae} {q:Id} {o:List Nat} {i x:Nat} {b:Bool} (h : σ q=some ⟨us o,1,b⟩) (hi:o[i]? = some x):lK σ false 1 (.ref q i 0)=some { val := .int .u32 (x:Int),rd:=[q] }:=by
 rw [EE h (qP hi)];rfl
theorem Zx (o:List Nat) (k x:Nat):(o++List.replicate (k+1) 0).set o.length x=(o++[x])++List.replicate k 0:=by
 rw [List.set_append_right _ _ (Nat.le_refl _),Nat.sub_self,List.replicate_succ,List.set_cons_zero]
 simp
theorem Bq {o:List Nat} {i x y:Nat} (h:o[i]? = some y):val (o.set i x)+ay ^ i*y=val o+ay ^ i*x:=by
 have hi:=(List.getElem?_eq_some_iff.1 h).1
 have ht:(o.take i).length=i:=by rw [List.length_take];omega
 have e1:o=o.take i++y::o.drop (i+1):=by
   have:=List.take_append_drop i o
   rw [List.drop_eq_getElem_cons hi] at this
   obtain ⟨_,h2⟩:=List.getElem?_eq_some_iff.1 h
   rw [h2] at this;exact this.symm
 have e2:o.set i x=o.take i++x::o.drop (i+1):=by rw [List.set_eq_take_append_cons_drop,if_pos hi]
 rw [e2]
 have e3:val o=val (o.take i++y::o.drop (i+1)):=congrArg val e1
 rw [e3,bO,bO,ht]
 simp only [val,Nat.mul_add]
 omega
theorem CK {o:List Nat} (h:Wd o) {i x:Nat} (hx:x<ay):Wd (o.set i x):=fun w hw=>by
 rcases List.mem_or_eq_of_mem_set hw with h1 | h1
 . exact h w h1
 . rw [h1];exact hx
theorem A5 (k:Nat):Wd (List.replicate k 0):=fun w hw=>by rw [List.eq_of_mem_replicate hw];exact bZ
theorem RT (o:List Nat) (k:Nat):val (o++List.replicate k 0)=val o:=by
 rw [bO,sk (fun w hw=>List.eq_of_mem_replicate hw)];omega
theorem NB {x y c:Nat} (hx:x<ay) (hy:y<ay) (hc:c<=1):∃ w c':Nat,w<ay/\c'<=1/\w+y+c=x+ay*c'/\IntKind.u32.wrap (IntKind.u64.wrap (IntKind.u64.wrap ((x:Int)-(c:Int))-(y:Int)))=(w:Int) /\
   bP .shr .int (.int .u64 (IntKind.u64.wrap (IntKind.u64.wrap ((x:Int)-(c:Int))-(y:Int)))) (.int .u64 63)=some (.int .u64 (c':Int)):=by
 have QK:∀ a:Int,bP .shr .int (.int .u64 a) (.int .u64 63)=some (.int .u64 (a/9223372036854775808)):=fun a=>by
   rw [uh (by decide)]
   show some (AV.int .u64 (a.fdiv (2 ^ 63)))=_
   rw [Int.fdiv_eq_ediv_of_nonneg _ (by decide)];rfl
 rw [QK]
 unfold ay at *
 by_cases h:c+y<=x
 . refine ⟨x-c-y,0,by omega,by omega,by omega, ?_, ?_⟩
   . rw [IntKind.wrap_u32,IntKind.wrap_u64,IntKind.wrap_u64];omega
   . rw [IntKind.wrap_u64,IntKind.wrap_u64];congr 2;omega
 . refine ⟨x+4294967296-c-y,1,by omega,by omega,by omega, ?_, ?_⟩
   . rw [IntKind.wrap_u32,IntKind.wrap_u64,IntKind.wrap_u64];omega
   . rw [IntKind.wrap_u64,IntKind.wrap_u64];congr 2;omega
theorem TC {x c:Nat} (hx:x<ay) (hc:c<=1):∃ w c':Nat,w<ay/\c'<=1/\w+0+c=x+ay*c'/\IntKind.u32.wrap (IntKind.u64.wrap ((x:Int)-(c:Int)))=(w:Int) /\
   bP .shr .int (.int .u64 (IntKind.u64.wrap ((x:Int)-(c:Int)))) (.int .u64 63)=some (.int .u64 (c':Int)):=by
 obtain ⟨w,c',h1,h2,h3,h4,h5⟩:=NB (y:=0) hx bZ hc
 have e:IntKind.u64.wrap (IntKind.u64.wrap ((x:Int)-(c:Int))-((0:Nat):Int))=IntKind.u64.wrap ((x:Int)-(c:Int)):=by rw [IntKind.wrap_u64,IntKind.wrap_u64];omega
 rw [e] at h4 h5
 exact ⟨w,c',h1,h2,h3,h4,h5⟩
theorem oV {o:List Nat} {i c va vb x y w c':Nat} (ho:o.length=i) (hv:val o+vb=va+ay ^ i*c-ay ^ i*c+ay ^ i*c) (hw:w+y+c=x+ay*c'):val (o++[w])+(vb+ay ^ i*y)=(va+ay ^ i*x)+ay ^ (i+1)*c':=by
 have h:ay ^ i*w+ay ^ i*y+ay ^ i*c=ay ^ i*x+ay ^ i*(ay*c'):=by rw [<- Nat.mul_add, <- Nat.mul_add, <- Nat.mul_add,hw]
 rw [bO,ho]
 simp only [val,Nat.mul_zero,Nat.add_zero,Nat.pow_succ]
 rw [Nat.mul_assoc]
 omega
section
variable {P:Program} {G:Nat->Option (List AV)}
theorem Wb {f ft:FuncId} (h:Has P f (ru ft)) (ht:ja P G ft) (m n:Nat) (zH:n<=m) (hm:aa m<=1000000):VP P G f [W m,W n] (W (m-n)):=by
 refine VP.has h ?_
 have hle:aa n<=aa m:=bg zH
 have tp:∀ p:Id,jJ p 1 4 (.int .u32 0) (.int .i64 (aa m:Int)) (.int .i64 (aa m:Int))=some { val := .osl p 1 0 (aa m) false,up:=[(p,some ⟨us (List.replicate (aa m) 0),1,false⟩)] }:=fun p=>lJ (by omega)
 simp only [ru,SS,Nat.reduceAdd,bb,tp,aY]
 refine VW.e9 (α := Nat × Nat × List Nat × Nat) (fun x=>⟨[W m,W n, .top, .top, .top, .osl [3] 1 0 (aa m) false, .int .u64 (x.2.2.2:Int)]++List.replicate 6 .top++[W m, .int .i64 (aa m), .int .i64 x.1]++List.replicate 29 .top,
   ae.put (fun _=>none) [3] (some ⟨us (x.2.2.1++List.replicate (aa m-x.1) 0),1,false⟩),x.2.1⟩)
   (fun x=>x.1<=aa m/\x.2.2.1.length=x.1/\Wd x.2.2.1/\x.2.2.2<=1/\val x.2.2.1+val ((digits n).take x.1)=val ((digits m).take x.1)+ay ^ x.1*x.2.2.2) (fun x=>aa m-x.1) (0,9,[],0) ?_ ?_ ?_
 . exact Wk.slots (by simp [Fg,List.replicate]) (Nat.le_refl _)
 . exact ⟨Nat.zero_le _,rfl,by intro w hw;simp at hw,by decide,by simp [val]⟩
 rintro ⟨i,nn,o,c⟩ ⟨hi,ho,hwd,hc,hv⟩
 simp only [] at hi ho hwd hc hv
 have vA:i<aa m->decide ((i:Int)<(aa m:Int))=true:=fun h=>aw (by omega)
 have xh : ¬ i<aa m->decide ((i:Int)<(aa m:Int))=false:=fun h=>ak (by omega)
 have dT : ¬ i<aa m->i=aa m:=by omega
 have sr:=aD i (by omega)
 have hol:i<aa m->i<(o++List.replicate (aa m-i) 0).length:=fun h=>by rw [List.length_append,List.length_replicate];omega
 have NC:i<aa m->∀ x,(o++List.replicate (aa m-i) 0).set i x=(o++[x])++List.replicate (aa m-(i+1)) 0:=fun h x=>by
   rw [show aa m-i=(aa m-(i+1))+1 from by omega, <- ho];exact Zx _ _ _
 have jT:i<aa m->i+1<=aa m/\aa m-(i+1)<aa m-i:=fun h=>by omega
 have hny : ¬ i<aa n->aa n<=i:=by omega
 have d3t:i<aa n->decide ((i:Int)<(aa n:Int))=true:=fun h=>aw (by omega)
 have d3f : ¬ i<aa n->decide ((i:Int)<(aa n:Int))=false:=fun h=>ak (by omega)
 simp only [SS]
 by_cases hlt:i<aa m
 . obtain ⟨a,ha⟩:∃ a,(digits m)[i]? = some a:=⟨_,List.getElem?_eq_getElem hlt⟩
   have vC:=aQ m a (List.mem_of_getElem? ha)
   have f1:=bj a vC
   have n5:=b7 (q:=[3]) (t:=false) hlt
   by_cases hy:i<aa n
   . obtain ⟨b,hb⟩:∃ b,(digits n)[i]? = some b:=⟨_,List.getElem?_eq_getElem hy⟩
     have FH:=aQ n b (List.mem_of_getElem? hb)
     have f3:=bj b FH
     obtain ⟨w,c',h1,h2,h3,h4,h5⟩:=NB vC FH hc
     have hv':=oV (va:=val ((digits m).take i)) (vb:=val ((digits n).take i)) ho (by rw [hv];omega) h3
     simp only [SS,Nat.reduceAdd,vA hlt,dx ha,dx hb,bb,aK,bp,f1,f3,d3t hy,h4,n5]
     rw [bV (o:=o++List.replicate (aa m-i) 0) (by simp [ae.put]) (hol hlt),NC hlt]
     simp only [SS,Nat.reduceAdd,h5,sr]
     refine ⟨(i+1,_,o++[w],c'),⟨(jT hlt).1,by simp [ho],c9 hwd (by intro z hz;simp at hz;subst hz;exact h1),h2, ?_⟩,(jT hlt).2,Wk.forget (by simp [Fg]) (fun j => ?_) (Nat.le_refl _)⟩
     . show val (o++[w])+val ((digits n).take (i+1))=_
       rw [aG ha,aG hb];exact hv'
     . simp only [ae.put];split<;>simp
   . obtain ⟨w,c',h1,h2,h3,h4,h5⟩:=TC vC hc
     have hv':=oV (va:=val ((digits m).take i)) (vb:=val ((digits n).take i)) ho (by rw [hv];omega) h3
     simp only [SS,Nat.reduceAdd,vA hlt,dx ha,bb,aK,bp,f1,d3f hy,h4,n5]
     rw [bV (o:=o++List.replicate (aa m-i) 0) (by simp [ae.put]) (hol hlt),NC hlt]
     simp only [SS,Nat.reduceAdd,h5,sr]
     refine ⟨(i+1,_,o++[w],c'),⟨(jT hlt).1,by simp [ho],c9 hwd (by intro z hz;simp at hz;subst hz;exact h1),h2, ?_⟩,(jT hlt).2,Wk.forget (by simp [Fg]) (fun j => ?_) (Nat.le_refl _)⟩
     . show val (o++[w])+val ((digits n).take (i+1))=_
       rw [aG ha,jI (hny hy)]
       simpa using hv'
     . simp only [ae.put];split<;>simp
 . have qm:=dT hlt
   have e1:(digits m).take (aa m)=digits m:=List.take_of_length_le (Nat.le_refl _)
   have e2:(digits n).take (aa m)=digits n:=List.take_of_length_le hle
   have yf:val o+n=m+ay ^ aa m*c:=by rw [qm,e1,e2,aI,aI] at hv;exact hv
   have Cr:val o=m-n:=by
     have:=eF hwd
     rw [ho,qm] at this
     rcases Nat.le_one_iff_eq_zero_or_eq_one.1 hc with h0 | h0
     . rw [h0] at yf;omega
     . rw [h0] at yf;omega
   have e3:o++List.replicate (aa m-i) 0=o:=by rw [qm,Nat.sub_self];simp
   have Bn:=ht o hwd (by rw [ho];omega)
   rw [Cr] at Bn
   simp only [SS,Nat.reduceAdd,xh hlt,e3]
   refine cA [([3],⟨us o,1,false⟩)] Bn (az.cons (iH (by rw [ho,qm])) az.nil) (by simp [ae.put]) ?_
   simp only [SS,Nat.reduceAdd]
   exact ai▸af rfl (aC _)
end
end Go.VL
end

section
set_option linter.unusedVariables false
namespace Go.VL
theorem ND (a b:Nat) (ha:a<ay) (hb:b<ay):IntKind.u64.wrap ((a:Int)*(b:Int))=((a*b:Nat):Int):=by
 have:a*b<=4294967295*4294967295:=Nat.mul_le_mul (by unfold ay at ha;omega) (by unfold ay at hb;omega)
 rw [<- Int.natCast_mul,IntKind.wrap_u64];omega
theorem Lu {a b:Nat} (ha:a<ay) (hb:b<ay):a*b<=18446744065119617025:=by
 have:a*b<=4294967295*4294967295:=Nat.mul_le_mul (by unfold ay at ha;omega) (by unfold ay at hb;omega)
 omega
theorem lU (a b:Nat) (h:a+b<=9223372036854775807):IntKind.i64.wrap ((a:Int)+(b:Int))=((a+b:Nat):Int):=by rw [IntKind.wrap_i64];omega
theorem CL {o:List Nat} {k y:Nat} (h:val o<ay ^ k) (hy:o[k]? = some y):y=0:=by
 have:=Bq (x:=0) hy
 rcases Nat.eq_zero_or_pos y with h0 | h0
 . exact h0
 . have:ay ^ k*1<=ay ^ k*y:=Nat.mul_le_mul_left _ h0
   omega
theorem Fh {o o':List Nat} {i j c x y z s v:Nat} (hz:o'[i+j]? = some z) (hv:val o'+ay ^ (i+j)*c=val o+ay ^ i*(x*v)) (hs:s=c+(x*y+z)) :
   val (o'.set (i+j) (s%ay))+ay ^ (i+(j+1))*(s/ay)=val o+ay ^ i*(x*(v+ay ^ j*y)):=by
 have e1:=Bq (x:=s%ay) hz
 have e2:ay ^ (i+j)*(s%ay)+ay ^ (i+j)*(ay*(s/ay))=ay ^ (i+j)*c+ay ^ (i+j)*(x*y)+ay ^ (i+j)*z:=by
   rw [<- Nat.mul_add,Nat.mod_add_div,hs,Nat.mul_add,Nat.mul_add];omega
 have e3:ay ^ (i+(j+1))*(s/ay)=ay ^ (i+j)*(ay*(s/ay)):=by rw [<- Nat.add_assoc,Nat.pow_succ,Nat.mul_assoc]
 have e4:ay ^ i*(x*(v+ay ^ j*y))=ay ^ i*(x*v)+ay ^ (i+j)*(x*y):=by
   rw [Nat.mul_add,Nat.mul_add,Nat.pow_add]
   congr 1
   rw [Nat.mul_assoc,Nat.mul_left_comm x]
 rw [e3,e4]
 omega
theorem cg {n:Nat}:aa n=0↔n=0:=by
 constructor
 . intro h;exact lr.1 (List.length_eq_zero_iff.1 h)
 . intro h;rw [h,aa,bo];rfl
section
variable {P:Program} {G:Nat->Option (List AV)}
theorem Wc {f ft:FuncId} (h:Has P f (ry ft)) (ht:ja P G ft) (m n:Nat) (hm:aa m<=1000000) (hn:aa n<=1000000):VP P G f [W m,W n] (W (m*n)):=by
 refine VP.has h ?_
 have z1:aa m=0->decide ((aa m:Int)=0)=true:=fun h=>aw (by omega)
 have z2 : ¬ aa m=0->decide ((aa m:Int)=0)=false:=fun h=>ak (by omega)
 have z3:aa n=0->decide ((aa n:Int)=0)=true:=fun h=>aw (by omega)
 have z4 : ¬ aa n=0->decide ((aa n:Int)=0)=false:=fun h=>ak (by omega)
 have TD:m*n=0->∀ σ,View σ .nils (W (m*n)):=fun h σ => by rw [h];simp only [W,bo,us];exact View.nils 1
 have tp:∀ p:Id,jJ p 1 4 (.int .u32 0) (.int .i64 ((aa m+aa n:Nat):Int)) (.int .i64 ((aa m+aa n:Nat):Int))=some { val := .osl p 1 0 (aa m+aa n) false,up:=[(p,some ⟨us (List.replicate (aa m+aa n) 0),1,false⟩)] }:=fun p=>lJ (by omega)
 have hL:=lU (aa m) (aa n) (by omega)
 simp only [ry,SS,Nat.reduceAdd,bb]
 by_cases h0:aa m=0
 . simp only [SS,Nat.reduceAdd,z1 h0]
   refine ai▸⟨.nils,rfl,TD (by rw [cg.1 h0];simp) _⟩
 by_cases h1:aa n=0
 . simp only [SS,Nat.reduceAdd,z2 h0,z3 h1,bb]
   refine ai▸⟨.nils,rfl,TD (by rw [cg.1 h1];simp) _⟩
 simp only [SS,Nat.reduceAdd,z2 h0,z4 h1,bb,hL,tp,aY]
 refine VW.e9 (α := Nat × Nat × List Nat) (fun x=>⟨[W m,W n, .top, .top, .top, .osl [14] 1 0 (aa m+aa n) false]++List.replicate 19 .top++[W m, .int .i64 (aa m), .int .i64 x.1]++List.replicate 47 .top,
   ae.put (fun _=>none) [14] (some ⟨us x.2.2,1,false⟩),x.2.1⟩)
   (fun x=>x.1<=aa m/\x.2.2.length=aa m+aa n/\Wd x.2.2/\val x.2.2=val ((digits m).take x.1)*n) (fun x=>aa m-x.1) (0,19,List.replicate (aa m+aa n) 0) ?_ ?_ ?_
 . exact Wk.slots (by simp [Fg,List.replicate]) (Nat.le_refl _)
 . exact ⟨Nat.zero_le _,List.length_replicate ..,A5 _,by simp only [];rw [sk (fun w hw=>List.eq_of_mem_replicate hw)];simp [val]⟩
 rintro ⟨i,nn,o⟩ ⟨hi,ho,hwd,hv⟩
 simp only [] at hi ho hwd hv
 have vA:i<aa m->decide ((i:Int)<(aa m:Int))=true:=fun h=>aw (by omega)
 have xh : ¬ i<aa m->decide ((i:Int)<(aa m:Int))=false:=fun h=>ak (by omega)
 have dT : ¬ i<aa m->i=aa m:=by omega
 have sr:=aD i (by omega)
 have jT:i<aa m->i+1<=aa m/\aa m-(i+1)<aa m-i:=fun h=>by omega
 have mQ:=lU i (aa n) (by omega)
 have PM:i<aa m->i+aa n<aa m+aa n:=fun h=>by omega
 simp only [SS]
 by_cases hlt:i<aa m
 . obtain ⟨a,ha⟩:∃ a,(digits m)[i]? = some a:=⟨_,List.getElem?_eq_getElem hlt⟩
   have vC:=aQ m a (List.mem_of_getElem? ha)
   have f1:=bj a vC
   have UR:o[i+aa n]? = some 0:=by
     obtain ⟨y,hy⟩:∃ y,o[i+aa n]? = some y:=⟨_,List.getElem?_eq_getElem (by rw [ho];exact PM hlt)⟩
     have e:=CL (k:=i+aa n) (by
       rw [hv,Nat.pow_add]
       have h2:val ((digits m).take i)<ay ^ i:=by
         have:=eF (jP (aQ m) i)
         rwa [List.length_take,Nat.min_eq_left (show i<=(digits m).length from Nat.le_of_lt hlt)] at this
       exact Nat.mul_lt_mul'' h2 (de n)) hy
     rw [e] at hy;exact hy
   simp only [SS,Nat.reduceAdd,vA hlt,dx ha,bb,aK,bp,aY]
   refine VW.e9 (α := Nat × Nat × List Nat × Nat) (fun x=>⟨[W m,W n, .top, .top, .top, .osl [14] 1 0 (aa m+aa n) false, .int .i64 i, .int .u32 a, .int .u64 (x.2.2.2:Int)]++List.replicate 16 .top++[W m, .int .i64 (aa m), .int .i64 i]++List.replicate 4 .top++[W n, .int .i64 (aa n), .int .i64 x.1]++List.replicate 40 .top,
     ae.put (fun _=>none) [14] (some ⟨us x.2.2.1,1,false⟩),x.2.1⟩)
     (fun x=>x.1<=aa n/\x.2.2.1.length=aa m+aa n/\Wd x.2.2.1/\x.2.2.2<ay/\x.2.2.1[i+aa n]? = some 0/\val x.2.2.1+ay ^ (i+x.1)*x.2.2.2=val o+ay ^ i*(a*val ((digits n).take x.1))) (fun x=>aa n-x.1) (0,nn+10,o,0) ?_ ?_ ?_
   . exact Wk.slots (by simp [Fg,List.replicate]) (by simp only [];omega)
   . exact ⟨Nat.zero_le _,ho,hwd,bZ,UR,by simp [val]⟩
   rintro ⟨j,mm,o',c⟩ ⟨hj,Lv,CM,hc,hz,hv'⟩
   simp only [] at hj Lv CM hc hz hv'
   have NF:j<aa n->decide ((j:Int)<(aa n:Int))=true:=fun h=>aw (by omega)
   have NG : ¬ j<aa n->decide ((j:Int)<(aa n:Int))=false:=fun h=>ak (by omega)
   have UN : ¬ j<aa n->j=aa n:=by omega
   have RU:=aD j (by omega)
   have VG:j<aa n->j+1<=aa n/\aa n-(j+1)<aa n-j:=fun h=>by omega
   have To:=lU i j (by omega)
   have PN:j<aa n->i+j<aa m+aa n:=fun h=>by omega
   have hne:j<aa n->i+j≠i+aa n:=fun h=>by omega
   simp only [SS]
   by_cases C5:j<aa n
   . obtain ⟨b,hb⟩:∃ b,(digits n)[j]? = some b:=⟨_,List.getElem?_eq_getElem C5⟩
     have FH:=aQ n b (List.mem_of_getElem? hb)
     have f2:=bj b FH
     obtain ⟨z,We⟩:∃ z,o'[i+j]? = some z:=⟨_,List.getElem?_eq_getElem (by rw [Lv];exact PN C5)⟩
     have RW:=CM z (List.mem_of_getElem? We)
     have f3:=bj z RW
     have f4:=ND a b vC FH
     have hle:=Lu vC FH
     have f5:=p9 (a*b) z (by unfold ay at RW;omega)
     have f6:=p9 c (a*b+z) (by unfold ay at RW hc;omega)
     have hc':(c+(a*b+z))/ay<ay:=by unfold ay at RW hc ⊢;omega
     have n5:=b7 (q:=[14]) (t:=false) (PN C5)
     have hst:=Fh We hv' (rfl:c+(a*b+z)=c+(a*b+z))
     simp only [SS,Nat.reduceAdd,NF C5,dx hb,aK,bp,f1,f2,f4,To,n5]
     rw [jo (o:=o') (b:=false) (by simp [ae.put]) We]
     simp only [SS,Nat.reduceAdd,f3,f5,f6,w6,To,n5]
     rw [bV (o:=o') (by simp [ae.put]) (by rw [Lv];exact PN C5)]
     simp only [SS,Nat.reduceAdd,p8,RU]
     refine ⟨(j+1,_,o'.set (i+j) ((c+(a*b+z))%ay),(c+(a*b+z))/ay),⟨(VG C5).1,by simp [Lv],CK CM (Nat.mod_lt _ bZ),hc', ?_, ?_⟩,(VG C5).2,Wk.forget (by simp [Fg]) (fun j => ?_) (Nat.le_refl _)⟩
     . rw [List.getElem?_set_ne (hne C5)];exact hz
     . show _=val o+ay ^ i*(a*val ((digits n).take (j+1)))
       rw [aG hb];exact hst
     . simp only [ae.put];split<;>simp
   . have hjw:=UN C5
     have n5:=b7 (q:=[14]) (t:=false) (PM hlt)
     have f7:IntKind.u32.wrap (c:Int)=(c:Int):=by rw [w6,Nat.mod_eq_of_lt hc]
     have hval:val (o'.set (i+aa n) c)=val ((digits m).take (i+1))*n:=by
       have e:=Bq (x:=c) hz
       have e2:(digits n).take (aa n)=digits n:=List.take_of_length_le (Nat.le_refl _)
       rw [hjw,e2,aI,hv] at hv'
       rw [aG ha,Nat.add_mul]
       have e3:ay ^ i*a*n=ay ^ i*(a*n):=Nat.mul_assoc _ _ _
       omega
     simp only [SS,Nat.reduceAdd,NG C5,bb,mQ,f7,n5]
     rw [bV (o:=o') (by simp [ae.put]) (by rw [Lv];exact PM hlt)]
     simp only [SS,Nat.reduceAdd,sr]
     refine ⟨(i+1,_,o'.set (i+aa n) c),⟨(jT hlt).1,by simp [Lv],CK CM hc,hval⟩,(jT hlt).2,Wk.forget (by simp [Fg]) (fun j => ?_) (Nat.le_refl _)⟩
     simp only [ae.put];split<;>simp
 . have qm:=dT hlt
   have e1:(digits m).take (aa m)=digits m:=List.take_of_length_le (Nat.le_refl _)
   have Cr:val o=m*n:=by rw [hv,qm,e1,aI]
   have Bn:=ht o hwd (by rw [ho];omega)
   rw [Cr] at Bn
   simp only [SS,Nat.reduceAdd,xh hlt]
   refine cA [([14],⟨us o,1,false⟩)] Bn (az.cons (iH ho.symm) az.nil) (by simp [ae.put]) ?_
   simp only [SS,Nat.reduceAdd]
   exact ai▸af rfl (aC _)
end
end Go.VL
end

section
set_option linter.unusedVariables false
namespace Go.VL
theorem PO {k:IntKind} {a b:Int}:bP .or .int (.int k a) (.int k b)=some (.int k (k.wrap (BitVec.ofInt k.bits a ||| BitVec.ofInt k.bits b).toNat)):=by
 simp only [bP];rw [show lW .or .int (.int k a) (.int k b)=some (.int k (k.wrap (BitVec.ofInt k.bits a ||| BitVec.ofInt k.bits b).toNat)) from by simp [lW,vH,bitsOf]]
theorem adC (a b:Nat) (ha:a<18446744073709551616) (hb:b<18446744073709551616):bP .or .int (.int .u64 (a:Int)) (.int .u64 (b:Int))=some (.int .u64 ((a ||| b:Nat):Int)):=by
 have hx:a ||| b<2 ^ 64:=Nat.or_lt_two_pow (by omega) (by omega)
 have h1:(BitVec.ofInt 64 (a:Int)).toNat=a:=by
   rw [BitVec.ofInt_natCast,BitVec.toNat_ofNat];exact Nat.mod_eq_of_lt (by omega)
 have h2:(BitVec.ofInt 64 (b:Int)).toNat=b:=by
   rw [BitVec.ofInt_natCast,BitVec.toNat_ofNat];exact Nat.mod_eq_of_lt (by omega)
 rw [PO]
 show some (AV.int .u64 (IntKind.u64.wrap ((BitVec.ofInt 64 (a:Int) ||| BitVec.ofInt 64 (b:Int)).toNat:Int)))=_
 rw [BitVec.toNat_or,h1,h2,w64 _ (by omega)]
theorem Zy (a b:Nat) (ha:a<ay) (hb:b<ay):bP .or .int (.int .u32 (a:Int)) (.int .u32 (b:Int))=some (.int .u32 ((a ||| b:Nat):Int)):=by
 unfold ay at ha hb
 have hx:a ||| b<2 ^ 32:=Nat.or_lt_two_pow (by omega) (by omega)
 have h1:(BitVec.ofInt 32 (a:Int)).toNat=a:=by
   rw [BitVec.ofInt_natCast,BitVec.toNat_ofNat];exact Nat.mod_eq_of_lt (by omega)
 have h2:(BitVec.ofInt 32 (b:Int)).toNat=b:=by
   rw [BitVec.ofInt_natCast,BitVec.toNat_ofNat];exact Nat.mod_eq_of_lt (by omega)
 rw [PO]
 show some (AV.int .u32 (IntKind.u32.wrap ((BitVec.ofInt 32 (a:Int) ||| BitVec.ofInt 32 (b:Int)).toNat:Int)))=_
 rw [BitVec.toNat_or,h1,h2,w6,Nat.mod_eq_of_lt (by unfold ay;omega)]
theorem Kf (a b:Nat) (ha:a<ay) (hb:b<ay):bP .or .int (.int .u64 ((ay*a:Nat):Int)) (.int .u64 (b:Int))=some (.int .u64 ((ay*a+b:Nat):Int)):=by
 rw [adC _ _ (by unfold ay at *;omega) (by unfold ay at *;omega)]
 have:=Nat.two_pow_add_eq_or_of_lt (i:=32) (b:=b) (by unfold ay at hb;omega) a
 rw [show ay=2 ^ 32 from rfl,this]
theorem CN (a:Nat) (ha:a<ay):bP .shl .int (.int .u64 (a:Int)) (.int .u64 32)=some (.int .u64 ((ay*a:Nat):Int)):=by
 rw [K7 (by decide)]
 have:IntKind.u64.wrap ((a:Int)*2 ^ (min (32:Int).toNat IntKind.u64.bits))=((ay*a:Nat):Int):=by
   show IntKind.u64.wrap ((a:Int)*2 ^ 32)=_
   rw [IntKind.wrap_u64];unfold ay at *;omega
 rw [this]
theorem Kg (a b:Nat) (ha:a<18446744073709551616) (hb:b≠0):bP .quo .int (.int .u64 (a:Int)) (.int .u64 (b:Int))=some (.int .u64 ((a/b:Nat):Int)):=by
 rw [K6 (by omega)]
 show some (AV.int .u64 (IntKind.u64.wrap ((a/b:Nat):Int)))=_
 rw [w64 _ (Nat.lt_of_le_of_lt (Nat.div_le_self _ _) ha)]
theorem Kh (a b:Nat) (hb:b≠0):bP .rem .int (.int .u64 (a:Int)) (.int .u64 (b:Int))=some (.int .u64 ((a%b:Nat):Int)):=by
 rw [RB (by omega)];rfl
def zs (k:Nat):List Nat:=List.replicate k 0
theorem yg:zs 0=[]:=rfl
theorem A6 (q:List Nat) (j x:Nat):(zs (j+1)++q).set j x=zs j++x::q:=by
 unfold zs
 rw [List.replicate_succ',List.append_assoc,List.set_append_right _ _ (by simp)]
 simp
section
variable {P:Program} {G:Nat->Option (List AV)}
theorem Jn {f ft fu:FuncId} (h:Has P f (l4 ft fu)) (ht:ja P G ft) (hu:∀ n,n<18446744073709551616->VP P G fu [.int .u64 ((n:Nat):Int)] (W n)) (m w:Nat) (hm:aa m<=1000000) (hw:w<ay) (Je:w≠0) :
   VP P G f [W m, .int .u32 (w:Int)] (.tup [W (m/w),W (m%w)]):=by
 refine VP.has h ?_
 have tp:∀ p:Id,jJ p 1 4 (.int .u32 0) (.int .i64 (aa m:Int)) (.int .i64 (aa m:Int))=some { val := .osl p 1 0 (aa m) false,up:=[(p,some ⟨us (List.replicate (aa m) 0),1,false⟩)] }:=fun p=>lJ (by omega)
 have hwL:IntKind.i64.wrap ((aa m:Int)-1)=(aa m:Int)-1:=by rw [IntKind.wrap_i64];omega
 have f0:=bj w hw
 have hwz:((w:Nat):Int)≠0:=by omega
 simp only [l4,SS,Nat.reduceAdd,bb,tp,hwL,aY]
 refine VW.e9 (α := Nat × Nat × List Nat × Nat) (fun x=>⟨[W m, .int .u32 (w:Int), .top, .top, .top, .top, .osl [4] 1 0 (aa m) false, .int .u64 (x.2.2.2:Int), .int .i64 ((x.1:Int)-1)]++List.replicate 34 .top,
   ae.put (fun _=>none) [4] (some ⟨us (zs x.1++x.2.2.1),1,false⟩),x.2.1⟩)
   (fun x=>x.1+x.2.2.1.length=aa m/\Wd x.2.2.1/\x.2.2.2<w/\val ((digits m).drop x.1)=val x.2.2.1*w+x.2.2.2) (fun x=>x.1) (aa m,11,[],0) ?_ ?_ ?_
 . rw [List.append_nil];exact Wk.slots (by simp [Fg,List.replicate]) (Nat.le_refl _)
 . refine ⟨by simp,by intro w hw;simp at hw,Nat.pos_of_ne_zero Je, ?_⟩
   show val ((digits m).drop (aa m))=_
   rw [List.drop_eq_nil_of_le (show (digits m).length<=aa m from Nat.le_refl _)];simp [val]
 rintro ⟨k,nn,q,r⟩ ⟨hk,hwd,hr,hv⟩
 simp only [] at hk hwd hr hv
 by_cases h0:k=0
 . subst h0
   have d0:decide ((0:Int)<=((0:Nat):Int)-1)=false:=by decide
   have e:m/w=val q/\m%w=r:=by
     rw [List.drop_zero,aI] at hv
     refine (Nat.div_mod_unique (Nat.pos_of_ne_zero Je)).2 ⟨?_,hr⟩
     rw [hv,Nat.mul_comm w];omega
   have Bn:=ht q hwd (by omega)
   rw [<- e.1] at Bn
   have Pf:=hu r (by unfold ay at hw;omega)
   have hq:aa m=q.length:=by omega
   simp only [SS,Nat.reduceAdd,d0,yg]
   refine cA [([4],⟨us q,1,false⟩)] Bn (az.cons (iH hq) az.nil) (by simp [ae.put]) ?_
   simp only [SS,Nat.reduceAdd]
   refine ah Pf (by simp [ab.int]) ?_
   simp only [SS,Nat.reduceAdd]
   rw [e.2]
   exact ai▸af rfl (ab.tup (by intro c hc;simp at hc;rcases hc with rfl | rfl<;>exact aC _))
 . obtain ⟨j,rfl⟩:∃ j,k=j+1:=⟨k-1,by omega⟩
   have d0:decide ((0:Int)<=(j:Int))=true:=aw (by omega)
   have hj:((j+1:Nat):Int)-1=(j:Int):=by omega
   have zD:j<aa m:=by omega
   have RU:IntKind.i64.wrap ((j:Int)-1)=(j:Int)-1:=by rw [IntKind.wrap_i64];omega
   obtain ⟨a,ha⟩:∃ a,(digits m)[j]? = some a:=⟨_,List.getElem?_eq_getElem zD⟩
   have vC:=aQ m a (List.mem_of_getElem? ha)
   have f1:=bj a vC
   have NH:r<ay:=by omega
   have f2:=CN r NH
   have f3:=Kf r a NH vC
   have hlt:ay*r+a<18446744073709551616:=by unfold ay at *;omega
   have f4:=Kg (ay*r+a) w hlt Je
   have f5:=Kh (ay*r+a) w Je
   have Wf:(ay*r+a)/w<ay:=by
     rw [Nat.div_lt_iff_lt_mul (Nat.pos_of_ne_zero Je)]
     have:ay*(r+1)<=ay*w:=Nat.mul_le_mul_left _ hr
     rw [Nat.mul_add] at this
     omega
   have f6:IntKind.u32.wrap (((ay*r+a)/w:Nat):Int)=(((ay*r+a)/w:Nat):Int):=by rw [w6,Nat.mod_eq_of_lt Wf]
   have n5:=b7 (q:=[4]) (t:=false) zD
   have hol:j<(zs (j+1)++q).length:=by simp [zs];omega
   have hv':val ((digits m).drop j)=val ((ay*r+a)/w::q)*w+(ay*r+a)%w:=by
     rw [List.drop_eq_getElem_cons (show j<(digits m).length from zD)]
     obtain ⟨_,h2⟩:=List.getElem?_eq_some_iff.1 ha
     rw [h2]
     simp only [val]
     rw [hv,Nat.add_mul,Nat.mul_add,Nat.mul_assoc ay]
     have:=Nat.div_add_mod (ay*r+a) w
     rw [Nat.mul_comm] at this
     omega
   have V9:j+((ay*r+a)/w::q).length=aa m:=by simp;omega
   simp only [SS,Nat.reduceAdd,d0,hj,dx ha,aK,bp,f0,f1,f2,f3,f4,f6,n5]
   rw [bV (o:=zs (j+1)++q) (by simp [ae.put]) hol,A6]
   simp only [SS,Nat.reduceAdd,f0,f5,RU]
   refine ⟨(j,_,(ay*r+a)/w::q,(ay*r+a)%w),⟨V9, ?_,Nat.mod_lt _ (Nat.pos_of_ne_zero Je),hv'⟩,Nat.lt_succ_self j,Wk.forget (by simp [Fg]) (fun j => ?_) (Nat.le_refl _)⟩
   . intro z hz
     rcases List.mem_cons.1 hz with rfl | hz
     . exact Wf
     . exact hwd z hz
   . simp only [ae.put];split<;>simp
end
end Go.VL
end

section
set_option linter.unusedVariables false
namespace Go.VL
def pad:Nat->Nat->List Nat
 | 0,_=>[]
 | k+1,n=>n%ay::pad k (n/ay)
theorem dR (k n:Nat):(pad k n).length=k:=by
 induction k generalizing n with
 | zero=>rfl
 | succ k ih=>simp [pad,ih]
theorem mM (k n:Nat):Wd (pad k n):=by
 induction k generalizing n with
 | zero=>intro w hw;simp [pad] at hw
 | succ k ih =>
   intro w hw
   rcases List.mem_cons.1 hw with rfl | hw
   . exact Nat.mod_lt _ bZ
   . exact ih _ w hw
theorem qa {o:List Nat} (h:Wd o):pad o.length (val o)=o:=by
 induction o with
 | nil=>rfl
 | cons w o ih =>
   have hw:=h w List.mem_cons_self
   simp only [List.length_cons,pad,val]
   rw [Nat.add_mul_mod_self_left,Nat.mod_eq_of_lt hw,Nat.add_mul_div_left _ _ bZ,Nat.div_eq_of_lt hw,Nat.zero_add,ih fun z hz=>h z (List.mem_cons_of_mem _ hz)]
theorem cH {k n:Nat} (h:n<ay ^ k):val (pad k n)=n:=by
 induction k generalizing n with
 | zero=>simp at h;simp [pad,val,h]
 | succ k ih =>
   simp only [pad,val]
   rw [ih (by rw [Nat.div_lt_iff_lt_mul bZ];rwa [Nat.pow_succ] at h),Nat.mod_add_div]
theorem ab3 (k:Nat):Wd (zs k):=A5 k
theorem jq (k:Nat):zs (k+1)=0::zs k:=rfl
theorem yh (o:List Nat) (c:Nat) (t:List Nat) {i:Nat} (h:o.length=i):(o++c::t)[i]? = some c:=by subst h;simp
theorem gm (o:List Nat) (c:Nat) (t:List Nat) {i:Nat} (x:Nat) (h:o.length=i):(o++c::t).set i x=o++x::t:=by
 subst h;rw [List.set_append_right _ _ (Nat.le_refl _),Nat.sub_self,List.set_cons_zero]
theorem NI (o:List Nat) (c d:Nat) (t:List Nat) {i:Nat} (x:Nat) (h:o.length=i):(o++c::d::t).set (i+1) x=(o++[c])++x::t:=by
 have e:o++c::d::t=(o++[c])++d::t:=by simp
 rw [e];exact gm _ _ _ _ (by simp [h])
theorem wP {s:Nat} (hs:s<=32):2 ^ (32-s)*2 ^ s=ay:=by
 rw [<- Nat.pow_add,Nat.sub_add_cancel hs];rfl
theorem NJ {x c s:Nat} (hs:s<=32) (hc:c<2 ^ s) (hx:x<ay):c ||| ((x*2 ^ s)%ay)=c+(x*2 ^ s)%ay/\c+(x*2 ^ s)%ay<ay/\(x*2 ^ s)/ay<2 ^ s:=by
 have hB:=wP hs
 have e:(x*2 ^ s)%ay=2 ^ s*(x%2 ^ (32-s)):=by rw [<- hB,Nat.mul_mod_mul_right,Nat.mul_comm]
 have hlt:x%2 ^ (32-s)<2 ^ (32-s):=Nat.mod_lt _ (Nat.two_pow_pos _)
 have h1:2 ^ s*(x%2 ^ (32-s)+1)<=2 ^ s*2 ^ (32-s):=Nat.mul_le_mul_left _ hlt
 rw [Nat.mul_add,Nat.mul_comm (2 ^ s) (2 ^ (32-s)),hB] at h1
 refine ⟨?_,by rw [e];omega, ?_⟩
 . rw [e,Nat.or_comm, <- Nat.two_pow_add_eq_or_of_lt hc,Nat.add_comm]
 . rw [Nat.div_lt_iff_lt_mul bZ,Nat.mul_comm]
   exact Nat.mul_lt_mul_of_pos_left hx (Nat.two_pow_pos _)
theorem Wh (x s:Nat) (hs:s<=32) (hx:x<ay):bP .shl .int (.int .u64 (x:Int)) (.int .i64 (s:Int))=some (.int .u64 ((x*2 ^ s:Nat):Int)):=by
 rw [K7 (by omega)]
 have h1:x*2 ^ s<18446744073709551616:=by
   have h2:2 ^ s<=2 ^ 32:=Nat.pow_le_pow_right (by decide) hs
   have h3:x*2 ^ s<=x*2 ^ 32:=Nat.mul_le_mul_left _ h2
   unfold ay at hx;omega
 have h2:min (s:Int).toNat IntKind.u64.bits=s:=by
   show min (s:Int).toNat 64=s
   rw [Int.toNat_natCast];omega
 have h3:(x:Int)*2 ^ s=((x*2 ^ s:Nat):Int):=by rw [Int.natCast_mul,Int.natCast_pow];rfl
 rw [h2,h3,w64 _ h1]
section
variable {P:Program} {G:Nat->Option (List AV)}
theorem DO {f:FuncId} (h:Has P f jN) (m s:Nat) (hm:aa m<=1000000) (hs:s<=31) (p:Id) :
   aM P G f [W m, .int .i64 (s:Int)] p [] { val := .osl (4::p) 1 0 (aa m+1) false,rd:=[],up:=[(4::p,some ⟨us (pad (aa m+1) (m*2 ^ s)),1,false⟩)] }:=by
 refine aM.has h ?_
 have hL:=aD (aa m) (by omega)
 have tp:∀ p:Id,jJ p 1 4 (.int .u32 0) (.int .i64 ((aa m+1:Nat):Int)) (.int .i64 ((aa m+1:Nat):Int))=some { val := .osl p 1 0 (aa m+1) false,up:=[(p,some ⟨us (List.replicate (aa m+1) 0),1,false⟩)] }:=fun p=>lJ (by omega)
 have hz:us (List.replicate (aa m+1) 0)=us (0::zs (aa m)):=rfl
 simp only [jN,SS,Nat.reduceAdd,bb,hL,tp,aY]
 refine VW.e9 (α := Nat × Nat × List Nat × Nat) (fun x=>⟨[W m, .int .i64 (s:Int), .top, .top, .top, .osl (4::p) 1 0 (aa m+1) false]++List.replicate 7 .top++[W m, .int .i64 (aa m), .int .i64 x.1]++List.replicate 25 .top,
   ae.put (ae.of []) (4::p) (some ⟨us (x.2.2.1++x.2.2.2::zs (aa m-x.1)),1,false⟩),x.2.1⟩)
   (fun x=>x.1<=aa m/\x.2.2.1.length=x.1/\Wd x.2.2.1/\x.2.2.2<2 ^ s/\val x.2.2.1+ay ^ x.1*x.2.2.2=val ((digits m).take x.1)*2 ^ s) (fun x=>aa m-x.1) (0,9,[],0) ?_ ?_ ?_
 . exact Wk.slots (by simp [Fg,List.replicate]) (Nat.le_refl _)
 . exact ⟨Nat.zero_le _,rfl,by intro w hw;simp at hw,Nat.two_pow_pos _,by simp [val]⟩
 rintro ⟨i,nn,o,c⟩ ⟨hi,ho,hwd,hc,hv⟩
 simp only [] at hi ho hwd hc hv
 have vA:i<aa m->decide ((i:Int)<(aa m:Int))=true:=fun h=>aw (by omega)
 have xh : ¬ i<aa m->decide ((i:Int)<(aa m:Int))=false:=fun h=>ak (by omega)
 have dT : ¬ i<aa m->i=aa m:=by omega
 have sr:=aD i (by omega)
 have jT:i<aa m->i+1<=aa m/\aa m-(i+1)<aa m-i:=fun h=>by omega
 have hcB:c<ay:=by
   have h2:2 ^ s<=2 ^ 32:=Nat.pow_le_pow_right (by decide) (by omega)
   unfold ay;omega
 simp only [SS]
 by_cases hlt:i<aa m
 . obtain ⟨x,hx⟩:∃ x,(digits m)[i]? = some x:=⟨_,List.getElem?_eq_getElem hlt⟩
   have tH:=aQ m x (List.mem_of_getElem? hx)
   have f1:=bj x tH
   have f2:=Wh x s (by omega) tH
   obtain ⟨g1,g2,g3⟩:=NJ (s:=s) (by omega) hc tH
   have f3:=Zy c (x*2 ^ s%ay) hcB (Nat.mod_lt _ bZ)
   rw [g1] at f3
   have g4:x*2 ^ s/ay<ay:=by
     have h2:2 ^ s<=2 ^ 32:=Nat.pow_le_pow_right (by decide) (by omega)
     have:(2:Nat) ^ 32=ay:=rfl
     omega
   have f4:IntKind.u32.wrap ((x*2 ^ s/ay:Nat):Int)=((x*2 ^ s/ay:Nat):Int):=by rw [w6,Nat.mod_eq_of_lt g4]
   have n5:=b7 (q:=4::p) (t:=false) (show i<aa m+1 by omega)
   have adD:=b7 (q:=4::p) (t:=false) (show i+1<aa m+1 by omega)
   obtain ⟨k,hk⟩:∃ k,aa m-i=k+1:=⟨aa m-i-1,by omega⟩
   have Ft:aa m-(i+1)=k:=by omega
   have tG:i<(o++c::0::zs k).length:=by simp;omega
   have Mw:i+1<(o++(c+x*2 ^ s%ay)::0::zs k).length:=by simp;omega
   have hv':val (o++[c+x*2 ^ s%ay])+ay ^ (i+1)*(x*2 ^ s/ay)=val ((digits m).take (i+1))*2 ^ s:=by
     rw [aG hx,bO,ho,Nat.add_mul, <- hv]
     simp only [val,Nat.mul_zero,Nat.add_zero,Nat.pow_succ]
     have e2:ay ^ i*(x*2 ^ s%ay)+ay ^ i*(ay*(x*2 ^ s/ay))=ay ^ i*(x*2 ^ s):=by rw [<- Nat.mul_add,Nat.mod_add_div]
     rw [Nat.mul_assoc,Nat.mul_assoc,Nat.mul_add]
     omega
   simp only [SS,Nat.reduceAdd,vA hlt,dx hx,aK,bp,f1,f2,n5,hk,jq]
   rw [jo (o:=o++c::0::zs k) (b:=false) (by simp [ae.put]) (yh _ _ _ ho)]
   simp only [SS,Nat.reduceAdd,w6,f3,n5]
   rw [bV (o:=o++c::0::zs k) (by simp [ae.put]) tG,gm _ _ _ _ ho]
   simp only [SS,Nat.reduceAdd,sr,p8,f4,adD]
   rw [bV (o:=o++(c+x*2 ^ s%ay)::0::zs k) (by simp [ae.put]) Mw,NI _ _ _ _ _ ho]
   simp only [SS,Nat.reduceAdd,sr]
   refine ⟨(i+1,_,o++[c+x*2 ^ s%ay],x*2 ^ s/ay),⟨(jT hlt).1,by simp [ho],c9 hwd (by intro z hz;simp at hz;subst hz;exact g2),g3,hv'⟩,(jT hlt).2,Wk.forget (by simp [Fg]) (fun j => ?_) (Nat.le_refl _)⟩
   simp only [ae.put,Ft];split<;>simp
 . have qm:=dT hlt
   have e1:(digits m).take (aa m)=digits m:=List.take_of_length_le (Nat.le_refl _)
   have Cr:val (o++[c])=m*2 ^ s:=by
     rw [bO,ho];simp only [val,Nat.mul_zero,Nat.add_zero]
     rw [hv,qm,e1,aI]
   have hlen:(o++[c]).length=aa m+1:=by simp [ho,qm]
   have e:pad (aa m+1) (m*2 ^ s)=o++[c]:=by
     rw [<- Cr, <- hlen]
     exact qa (c9 hwd (by intro z hz;simp at hz;subst hz;exact hcB))
   have e3:zs (aa m-i)=[]:=by rw [qm,Nat.sub_self];rfl
   simp only [SS,Nat.reduceAdd,xh hlt,e,e3]
   exact ke▸dQ rfl fun i => .inr rfl
end
end Go.VL
end

section
set_option linter.unusedVariables false
namespace Go.VL
theorem DR {x y s:Nat} (hs:s<=32) (hx:x<ay):(x/2 ^ s) ||| ((y*2 ^ (32-s))%ay)=x/2 ^ s+2 ^ (32-s)*(y%2 ^ s)/\x/2 ^ s+2 ^ (32-s)*(y%2 ^ s)<ay/\2 ^ s*(x/2 ^ s+2 ^ (32-s)*(y%2 ^ s))+x%2 ^ s=x+ay*(y%2 ^ s):=by
 have hB:=wP hs
 have e:(y*2 ^ (32-s))%ay=2 ^ (32-s)*(y%2 ^ s):=by rw [<- hB,Nat.mul_comm y,Nat.mul_mod_mul_left]
 have hlt:y%2 ^ s<2 ^ s:=Nat.mod_lt _ (Nat.two_pow_pos _)
 have hd:x/2 ^ s<2 ^ (32-s):=by rw [Nat.div_lt_iff_lt_mul (Nat.two_pow_pos _),hB];exact hx
 have h1:2 ^ (32-s)*(y%2 ^ s+1)<=2 ^ (32-s)*2 ^ s:=Nat.mul_le_mul_left _ hlt
 rw [Nat.mul_add,hB] at h1
 refine ⟨?_,by omega, ?_⟩
 . rw [e,Nat.or_comm, <- Nat.two_pow_add_eq_or_of_lt hd,Nat.add_comm]
 . have h2:=Nat.div_add_mod x (2 ^ s)
   have h3:2 ^ s*(2 ^ (32-s)*(y%2 ^ s))=ay*(y%2 ^ s):=by rw [<- Nat.mul_assoc,Nat.mul_comm (2 ^ s),hB]
   rw [Nat.mul_add,h3];omega
theorem adE (x s:Nat) (hs:s<=32):bP .shr .int (.int .u32 (x:Int)) (.int .i64 (s:Int))=some (.int .u32 ((x/2 ^ s:Nat):Int)):=by
 rw [uh (by omega)]
 have h2:min (s:Int).toNat IntKind.u32.bits=s:=by
   show min (s:Int).toNat 32=s
   rw [Int.toNat_natCast];omega
 have h3:(x:Int).fdiv (2 ^ s)=((x/2 ^ s:Nat):Int):=by
   have h4:(2:Int) ^ s=((2 ^ s:Nat):Int):=by rw [Int.natCast_pow];rfl
   rw [h4,Int.fdiv_eq_ediv_of_nonneg _ (Int.natCast_nonneg _)]
   exact (Int.natCast_ediv _ _).symm
 rw [h2,h3]
theorem A7 (m:Nat):((digits m)[0]?).getD 0=m%ay:=by
 by_cases h:m=0
 . rw [h,bo];rfl
 . rw [iU h];rfl
section
variable {P:Program} {G:Nat->Option (List AV)}
theorem Cj {f:FuncId} (h:Has P f gR) (m s:Nat) (hm:aa m<=1000000) (hs:s<=31) :
   VP P G f [W m, .int .i64 (s:Int)] (.sl 1 (us (pad (aa m) (m/2 ^ s)))):=by
 refine VP.has h ?_
 have tp:∀ p:Id,jJ p 1 4 (.int .u32 0) (.int .i64 (aa m:Int)) (.int .i64 (aa m:Int))=some { val := .osl p 1 0 (aa m) false,up:=[(p,some ⟨us (List.replicate (aa m) 0),1,false⟩)] }:=fun p=>lJ (by omega)
 have hz:us (List.replicate (aa m) 0)=us ([]++zs (aa m-0)):=rfl
 have alx:IntKind.i64.wrap (32-(s:Int))=((32-s:Nat):Int):=by rw [IntKind.wrap_i64];omega
 have h2s:2 ^ s*2 ^ (32-s)=ay:=by rw [Nat.mul_comm];exact wP (by omega)
 simp only [gR,SS,Nat.reduceAdd,bb,tp,hz,aY]
 refine VW.e9 (α := Nat × Nat × List Nat) (fun x=>⟨[W m, .int .i64 (s:Int), .top, .top, .top, .osl [3] 1 0 (aa m) false]++List.replicate 5 .top++[W m, .int .i64 (aa m), .int .i64 x.1]++List.replicate 33 .top,
   ae.put (fun _=>none) [3] (some ⟨us (x.2.2++zs (aa m-x.1)),1,false⟩),x.2.1⟩)
   (fun x=>x.1<=aa m/\x.2.2.length=x.1/\Wd x.2.2/\2 ^ s*val x.2.2+m%2 ^ s=val ((digits m).take x.1)+ay ^ x.1*(((digits m)[x.1]?).getD 0%2 ^ s)) (fun x=>aa m-x.1) (0,8,[]) ?_ ?_ ?_
 . exact Wk.slots (by simp [Fg,List.replicate]) (Nat.le_refl _)
 . refine ⟨Nat.zero_le _,rfl,by intro w hw;simp at hw, ?_⟩
   show 2 ^ s*val []+m%2 ^ s=val ((digits m).take 0)+ay ^ 0*(((digits m)[0]?).getD 0%2 ^ s)
   rw [A7, <- h2s,Nat.mod_mul_right_mod]
   simp [val]
 rintro ⟨i,nn,o⟩ ⟨hi,ho,hwd,hv⟩
 simp only [] at hi ho hwd hv
 have vA:i<aa m->decide ((i:Int)<(aa m:Int))=true:=fun h=>aw (by omega)
 have xh : ¬ i<aa m->decide ((i:Int)<(aa m:Int))=false:=fun h=>ak (by omega)
 have NF:i+1<aa m->decide (((i+1:Nat):Int)<(aa m:Int))=true:=fun h=>aw (by omega)
 have NG : ¬ i+1<aa m->decide (((i+1:Nat):Int)<(aa m:Int))=false:=fun h=>ak (by omega)
 have dT : ¬ i<aa m->i=aa m:=by omega
 have adF:i<aa m -> ¬ i+1<aa m->i+1=aa m:=by omega
 have sr:=aD i (by omega)
 have jT:i<aa m->i+1<=aa m/\aa m-(i+1)<aa m-i:=fun h=>by omega
 simp only [SS]
 by_cases hlt:i<aa m
 . obtain ⟨x,hx⟩:∃ x,(digits m)[i]? = some x:=⟨_,List.getElem?_eq_getElem hlt⟩
   have tH:=aQ m x (List.mem_of_getElem? hx)
   have f2:=adE x s (by omega)
   have n5:=b7 (q:=[3]) (t:=false) hlt
   obtain ⟨k,hk⟩:∃ k,aa m-i=k+1:=⟨aa m-i-1,by omega⟩
   have Ft:aa m-(i+1)=k:=by omega
   have tG:i<(o++0::zs k).length:=by simp;omega
   have Mw:i<(o++(x/2 ^ s)::zs k).length:=by simp;omega
   have hstep:∀ y w,w=x/2 ^ s+2 ^ (32-s)*(y%2 ^ s)->2 ^ s*w+x%2 ^ s=x+ay*(y%2 ^ s)->((digits m)[i+1]?).getD 0=y ->
       2 ^ s*val (o++[w])+m%2 ^ s=val ((digits m).take (i+1))+ay ^ (i+1)*(((digits m)[i+1]?).getD 0%2 ^ s):=by
     intro y w _ hw hy
     rw [hx,Option.getD_some] at hv
     rw [aG hx,bO,ho,hy]
     simp only [val,Nat.mul_zero,Nat.add_zero,Nat.pow_succ]
     have e1:ay ^ i*(2 ^ s*w)+ay ^ i*(x%2 ^ s)=ay ^ i*x+ay ^ i*(ay*(y%2 ^ s)):=by rw [<- Nat.mul_add,hw,Nat.mul_add]
     have e2:2 ^ s*(val o+ay ^ i*w)=2 ^ s*val o+ay ^ i*(2 ^ s*w):=by rw [Nat.mul_add,Nat.mul_left_comm]
     rw [e2,Nat.mul_assoc]
     omega
   by_cases hn:i+1<aa m
   . obtain ⟨y,hy⟩:∃ y,(digits m)[i+1]? = some y:=⟨_,List.getElem?_eq_getElem hn⟩
     have Fi:=aQ m y (List.mem_of_getElem? hy)
     have f1:=bj y Fi
     have f3:=Wh y (32-s) (by omega) Fi
     obtain ⟨g1,g2,g3⟩:=DR (y:=y) (s:=s) (by omega) tH
     have f4:=Zy (x/2 ^ s) (y*2 ^ (32-s)%ay) (Nat.lt_of_le_of_lt (Nat.div_le_self _ _) tH) (Nat.mod_lt _ bZ)
     rw [g1] at f4
     have hv':=hstep y _ rfl g3 (by rw [hy];rfl)
     simp only [SS,Nat.reduceAdd,vA hlt,dx hx,aK,bp,f2,n5,hk,jq]
     rw [bV (o:=o++0::zs k) (by simp [ae.put]) tG,gm _ _ _ _ ho]
     simp only [SS,DD,Nat.reduceAdd,sr,bb,NF hn,n5]
     rw [jo (o:=o++(x/2 ^ s)::zs k) (b:=false) (by simp [ae.put]) (yh _ _ _ ho)]
     simp only [SS,DD,Nat.reduceAdd,sr,dx hy,aK,bp,f1,alx,f3,w6,f4,n5]
     rw [bV (o:=o++(x/2 ^ s)::zs k) (by simp [ae.put]) Mw,gm _ _ _ _ ho]
     simp only [SS,DD,Nat.reduceAdd,sr]
     refine ⟨by simp [ag], ?_⟩
     refine ⟨(i+1,_,o++[x/2 ^ s+2 ^ (32-s)*(y%2 ^ s)]),⟨(jT hlt).1,by simp [ho],c9 hwd (by intro z hz;simp at hz;subst hz;exact g2),hv'⟩,(jT hlt).2,Wk.forget (by simp [Fg]) (fun j => ?_) (Nat.le_refl _)⟩
     simp only [ae.put,Ft];split<;>simp
   . have Di:(digits m)[i+1]? = none:=List.getElem?_eq_none (by have:=adF hlt hn;show aa m<=i+1;omega)
     obtain ⟨g1,g2,g3⟩:=DR (y:=0) (s:=s) (by omega) tH
     have e0:x/2 ^ s+2 ^ (32-s)*(0%2 ^ s)=x/2 ^ s:=by simp
     rw [e0] at g2 g3
     have hv':=hstep 0 (x/2 ^ s) e0.symm g3 (by rw [Di];rfl)
     simp only [SS,Nat.reduceAdd,vA hlt,dx hx,aK,bp,f2,n5,hk,jq]
     rw [bV (o:=o++0::zs k) (by simp [ae.put]) tG,gm _ _ _ _ ho]
     simp only [SS,Nat.reduceAdd,sr,bb,NG hn]
     refine ⟨(i+1,_,o++[x/2 ^ s]),⟨(jT hlt).1,by simp [ho],c9 hwd (by intro z hz;simp at hz;subst hz;exact g2),hv'⟩,(jT hlt).2,Wk.forget (by simp [Fg]) (fun j => ?_) (Nat.le_refl _)⟩
     simp only [ae.put,Ft];split<;>simp
 . have qm:=dT hlt
   have e1:(digits m).take (aa m)=digits m:=List.take_of_length_le (Nat.le_refl _)
   have Di:(digits m)[aa m]? = none:=List.getElem?_eq_none (Nat.le_refl _)
   have Cr:val o=m/2 ^ s:=by
     rw [qm,e1,aI,Di] at hv
     have h1:=Nat.div_add_mod m (2 ^ s)
     have h2:2 ^ s*val o=2 ^ s*(m/2 ^ s):=by
       simp at hv;omega
     exact Nat.eq_of_mul_eq_mul_left (Nat.two_pow_pos _) h2
   have hlen:o.length=aa m:=by rw [ho,qm]
   have e:pad (aa m) (m/2 ^ s)=o:=by rw [<- Cr, <- hlen];exact qa hwd
   have e3:zs (aa m-i)=[]:=by rw [qm,Nat.sub_self];rfl
   simp only [SS,Nat.reduceAdd,xh hlt,e,e3]
   exact ai▸H4 (b:=false) rfl (by simp [ae.put]) hlen.symm
end
end Go.VL
end

section
set_option linter.unusedVariables false
namespace Go.VL
theorem Gy (k n c:Nat):pad k (n+ay ^ k*c)=pad k n:=by
 induction k generalizing n with
 | zero=>rfl
 | succ k ih =>
   have e:ay ^ (k+1)*c=ay*(ay ^ k*c):=by rw [Nat.pow_succ,Nat.mul_comm (ay ^ k),Nat.mul_assoc]
   simp only [pad]
   rw [e,Nat.add_mul_mod_self_left,Nat.add_mul_div_left _ _ bZ,ih]
theorem qQ {q:Id} {off len i:Nat} {t:Bool} (h:i<len):bK 1 (.osl q 1 off len t) (.int .i64 (i:Int))=some (.ref q (off+i) 0):=by
 simp only [bK]
 rw [if_pos ⟨trivial,by omega,by omega⟩]
 simp
theorem Ki {x k:Nat} (hx:x<ay) (hk:k<=ay):∃ w c':Nat,w<ay/\c'<=1/\w+k=x+ay*c'/\IntKind.u32.wrap (IntKind.u64.wrap ((x:Int)-(k:Int)))=(w:Int) /\
   bP .shr .int (.int .u64 (IntKind.u64.wrap ((x:Int)-(k:Int)))) (.int .u64 63)=some (.int .u64 (c':Int)):=by
 have QK:∀ a:Int,bP .shr .int (.int .u64 a) (.int .u64 63)=some (.int .u64 (a/9223372036854775808)):=fun a=>by
   rw [uh (by decide)]
   show some (AV.int .u64 (a.fdiv (2 ^ 63)))=_
   rw [Int.fdiv_eq_ediv_of_nonneg _ (by decide)];rfl
 rw [QK]
 unfold ay at *
 by_cases h:k<=x
 . refine ⟨x-k,0,by omega,by omega,by omega, ?_, ?_⟩
   . rw [IntKind.wrap_u32,IntKind.wrap_u64];omega
   . rw [IntKind.wrap_u64];congr 2;omega
 . refine ⟨x+4294967296-k,1,by omega,by omega,by omega, ?_, ?_⟩
   . rw [IntKind.wrap_u32,IntKind.wrap_u64];omega
   . rw [IntKind.wrap_u64];congr 2;omega
theorem DT {b:List Nat} {k:Nat} (h:b.length=k):val (b.take k)=val b:=by rw [List.take_of_length_le (Nat.le_of_eq h)]
theorem Kj {i j:Id} {b c:dc} {d:Option dc}:(ae.of [(i,b)]).put i d j=(ae.of [(i,c)]).put i d j:=by
 by_cases h:j=i
 . subst h;rw [ae.dO,ae.dO]
 . rw [ae.cN _ _ _ h,ae.cN _ _ _ h]
   have:(j==i)=false:=by simpa using h
   simp [ae.of,List.lookup,this]
section
variable {P:Program} {G:Nat->Option (List AV)}
theorem NK {f:FuncId} (h:Has P f kv) {id:Id} {a b t:List Nat} {v q:Nat} {tight:Bool} (hv:aa v<=1000000) (hb:b.length=aa v+1) (UT:Wd b) (hq:q<ay) (p:Id) :
   aM P G f [.osl id 1 a.length (aa v+1) tight,W v, .int .u64 (q:Int)] p [(id,⟨us (a++b++t),1,false⟩)]
     { val := .bool (decide (val b<q*v)),rd:=[id],up:=[(id,some ⟨us (a++pad (aa v+1) (val b+ay ^ (aa v+1)-q*v)++t),1,false⟩)] }:=by
 refine aM.has h ?_
 simp only [kv,SS,Nat.reduceAdd,bb,aY]
 refine VW.e9 (α := Nat × Nat × List Nat × Nat) (fun x=>⟨[.osl id 1 a.length (aa v+1) tight,W v, .int .u64 (q:Int), .top, .top, .top, .top, .int .u64 (x.2.2.2:Int)]++List.replicate 5 .top++[W v, .int .i64 (aa v), .int .i64 x.1]++List.replicate 47 .top,
   ae.of [(id,⟨us ((a++x.2.2.1)++(b.drop x.1++t)),1,false⟩)],x.2.1⟩)
   (fun x=>x.1<=aa v/\x.2.2.1.length=x.1/\Wd x.2.2.1/\x.2.2.2<=ay/\val x.2.2.1+val ((digits v).take x.1)*q=val (b.take x.1)+ay ^ x.1*x.2.2.2) (fun x=>aa v-x.1) (0,5,[],0) ?_ ?_ ?_
 . exact Wk.forget (by simp [Fg,List.replicate]) (fun j=>by simp) (Nat.le_refl _)
 . exact ⟨Nat.zero_le _,rfl,by intro w hw;simp at hw,Nat.zero_le _,by simp [val]⟩
 rintro ⟨i,nn,o,k⟩ ⟨hi,ho,hwd,hk,hv'⟩
 simp only [] at hi ho hwd hk hv'
 have vA:i<aa v->decide ((i:Int)<(aa v:Int))=true:=fun h=>aw (by omega)
 have xh : ¬ i<aa v->decide ((i:Int)<(aa v:Int))=false:=fun h=>ak (by omega)
 have dT : ¬ i<aa v->i=aa v:=by omega
 have sr:=aD i (by omega)
 have jT:i<aa v->i+1<=aa v/\aa v-(i+1)<aa v-i:=fun h=>by omega
 have hib:i<b.length:=by omega
 have n5:=qQ (q:=id) (off:=a.length) (t:=tight) (show i<aa v+1 by omega)
 obtain ⟨x,hx⟩:∃ x,b[i]? = some x:=⟨_,List.getElem?_eq_getElem hib⟩
 have tH:=UT x (List.mem_of_getElem? hx)
 have hdr:b.drop i=x::b.drop (i+1):=by
   obtain ⟨_,h2⟩:=List.getElem?_eq_some_iff.1 hx
   rw [List.drop_eq_getElem_cons hib,h2]
 have f1:=bj x tH
 have Wi:(a++o).length=a.length+i:=by rw [List.length_append,ho]
 have tG:a.length+i<((a++o)++x::(b.drop (i+1)++t)).length:=by rw [List.length_append,Wi];simp
 simp only [SS]
 by_cases hlt:i<aa v
 . obtain ⟨y,hy⟩:∃ y,(digits v)[i]? = some y:=⟨_,List.getElem?_eq_getElem hlt⟩
   have Fi:=aQ v y (List.mem_of_getElem? hy)
   have f2:=bj y Fi
   have f3:=ND y q Fi hq
   have hle:=Lu Fi hq
   have f4:=p9 (y*q) k (by unfold ay at hk;omega)
   have f5:IntKind.u64.wrap (((y*q+k)%ay:Nat):Int)=(((y*q+k)%ay:Nat):Int):=bj _ (Nat.mod_lt _ bZ)
   obtain ⟨w,c',h1,h2,h3,h4,h5⟩:=Ki (k:=(y*q+k)%ay) tH (Nat.le_of_lt (Nat.mod_lt _ bZ))
   have Zz:(y*q+k)/ay+1<=ay:=by unfold ay at hk ⊢;omega
   have f6:=p9 ((y*q+k)/ay) c' (by unfold ay at Zz ⊢;omega)
   have hk':(y*q+k)/ay+c'<=ay:=by omega
   have hst:w+y*q+k=x+ay*((y*q+k)/ay+c'):=by
     have:=Nat.mod_add_div (y*q+k) ay
     rw [Nat.mul_add];omega
   have Wj:=oV (va:=val (b.take i)) (vb:=val ((digits v).take i)*q) ho (by rw [hv'];omega) hst
   simp only [SS,Nat.reduceAdd,vA hlt,dx hy,aK,bp,f2,f3,f4,n5,hdr]
   rw [jo (o:=(a++o)++x::(b.drop (i+1)++t)) (b:=false) (by simp [ae.of]) (yh _ _ _ Wi)]
   simp only [SS,Nat.reduceAdd,f1,w6,f5,h4,n5]
   rw [bV (o:=(a++o)++x::(b.drop (i+1)++t)) (by simp [ae.of]) tG,gm _ _ _ _ Wi]
   simp only [SS,Nat.reduceAdd,p8,h5,f6,sr]
   refine ⟨(i+1,_,o++[w],(y*q+k)/ay+c'),⟨(jT hlt).1,by simp [ho],c9 hwd (by intro z hz;simp at hz;subst hz;exact h1),hk', ?_⟩,(jT hlt).2,Wk.forget (by simp [Fg]) (fun j => ?_) (Nat.le_refl _)⟩
   . show val (o++[w])+val ((digits v).take (i+1))*q=_
     rw [aG hx,aG hy,Nat.add_mul,Nat.mul_assoc];exact Wj
   . simp only [ae.put,ae.of];split<;>simp_all
 . have qm:=dT hlt
   subst qm
   obtain ⟨w,c',h1,h2,h3,h4,h5⟩:=Ki (k:=k) tH hk
   have Gw:b.drop (aa v+1)=[]:=List.drop_eq_nil_of_le (by omega)
   have e1:(digits v).take (aa v)=digits v:=List.take_of_length_le (Nat.le_refl _)
   have e2:val (b.take (aa v+1))=val b:=DT hb
   have Wj:=oV (va:=val (b.take (aa v))) (vb:=val ((digits v).take (aa v))*q) (y:=0) (c:=k) (w:=w) (c':=c') (x:=x) ho (by rw [hv'];omega) (by omega)
   rw [e1,aI, <- aG hx,e2,Nat.mul_zero,Nat.add_zero,Nat.mul_comm v q] at Wj
   have ZA:Wd (o++[w]):=c9 hwd (by intro z hz;simp at hz;subst hz;exact h1)
   have zI:(o++[w]).length=aa v+1:=by simp [ho]
   have zO:val (o++[w])<ay ^ (aa v+1):=by have:=eF ZA;rwa [zI] at this
   have e:pad (aa v+1) (val b+ay ^ (aa v+1)-q*v)=o++[w]/\decide ((c':Int)=1)=decide (val b<q*v):=by
     rcases Nat.le_one_iff_eq_zero_or_eq_one.1 h2 with h0 | h0
     . rw [h0] at Wj ⊢
       refine ⟨?_, ?_⟩
       . have:val b+ay ^ (aa v+1)-q*v=val (o++[w])+ay ^ (aa v+1)*1:=by omega
         rw [this,Gy, <- zI];exact qa ZA
       . rw [ak (show ¬ val b<q*v by omega)];rfl
     . rw [h0] at Wj ⊢
       refine ⟨?_, ?_⟩
       . have:val b+ay ^ (aa v+1)-q*v=val (o++[w]):=by omega
         rw [this, <- zI];exact qa ZA
       . rw [aw (show val b<q*v by omega)];rfl
   simp only [SS,Nat.reduceAdd,xh hlt,bb,n5,hdr]
   rw [jo (o:=(a++o)++x::(b.drop (aa v+1)++t)) (b:=false) (by simp [ae.of]) (yh _ _ _ Wi)]
   simp only [SS,Nat.reduceAdd,f1,h4,n5,bb]
   rw [bV (o:=(a++o)++x::(b.drop (aa v+1)++t)) (by simp [ae.of]) tG,gm _ _ _ _ Wi,Gw]
   simp only [SS,Nat.reduceAdd,h5,e.2,e.1]
   have e5:a++(o++[w])++t=a++o++w::t:=by simp
   refine ke▸dQ rfl fun i => .inr ?_
   simp only [ae.app,e5];exact Kj
end
end Go.VL
end

section
set_option linter.unusedVariables false
namespace Go.VL
section
variable {P:Program} {G:Nat->Option (List AV)}
theorem PQ {f:FuncId} (h:Has P f lM) {id:Id} {a b t:List Nat} {v:Nat} {tight:Bool} (hv:aa v<=1000000) (hb:b.length=aa v+1) (UT:Wd b) (p:Id) :
   aM P G f [.osl id 1 a.length (aa v+1) tight,W v] p [(id,⟨us (a++b++t),1,false⟩)]
     { val := .tup [],rd:=[id],up:=[(id,some ⟨us (a++pad (aa v+1) (val b+v)++t),1,false⟩)] }:=by
 refine aM.has h ?_
 simp only [lM,SS,Nat.reduceAdd,bb,aY]
 refine VW.e9 (α := Nat × Nat × List Nat × Nat) (fun x=>⟨[.osl id 1 a.length (aa v+1) tight,W v, .top, .top, .int .u64 (x.2.2.2:Int)]++List.replicate 2 .top++[W v, .int .i64 (aa v), .int .i64 x.1]++List.replicate 31 .top,
   ae.of [(id,⟨us ((a++x.2.2.1)++(b.drop x.1++t)),1,false⟩)],x.2.1⟩)
   (fun x=>x.1<=aa v/\x.2.2.1.length=x.1/\Wd x.2.2.1/\x.2.2.2<=1/\val x.2.2.1+ay ^ x.1*x.2.2.2=val (b.take x.1)+val ((digits v).take x.1)) (fun x=>aa v-x.1) (0,4,[],0) ?_ ?_ ?_
 . exact Wk.forget (by simp [Fg,List.replicate]) (fun j=>by simp) (Nat.le_refl _)
 . exact ⟨Nat.zero_le _,rfl,by intro w hw;simp at hw,Nat.zero_le _,by simp [val]⟩
 rintro ⟨i,nn,o,k⟩ ⟨hi,ho,hwd,hk,hv'⟩
 simp only [] at hi ho hwd hk hv'
 have vA:i<aa v->decide ((i:Int)<(aa v:Int))=true:=fun h=>aw (by omega)
 have xh : ¬ i<aa v->decide ((i:Int)<(aa v:Int))=false:=fun h=>ak (by omega)
 have dT : ¬ i<aa v->i=aa v:=by omega
 have sr:=aD i (by omega)
 have jT:i<aa v->i+1<=aa v/\aa v-(i+1)<aa v-i:=fun h=>by omega
 have hib:i<b.length:=by omega
 have n5:=qQ (q:=id) (off:=a.length) (t:=tight) (show i<aa v+1 by omega)
 obtain ⟨x,hx⟩:∃ x,b[i]? = some x:=⟨_,List.getElem?_eq_getElem hib⟩
 have tH:=UT x (List.mem_of_getElem? hx)
 have hdr:b.drop i=x::b.drop (i+1):=by
   obtain ⟨_,h2⟩:=List.getElem?_eq_some_iff.1 hx
   rw [List.drop_eq_getElem_cons hib,h2]
 have f1:=bj x tH
 have Wi:(a++o).length=a.length+i:=by rw [List.length_append,ho]
 have tG:a.length+i<((a++o)++x::(b.drop (i+1)++t)).length:=by rw [List.length_append,Wi];simp
 simp only [SS]
 by_cases hlt:i<aa v
 . obtain ⟨y,hy⟩:∃ y,(digits v)[i]? = some y:=⟨_,List.getElem?_eq_getElem hlt⟩
   have Fi:=aQ v y (List.mem_of_getElem? hy)
   have f2:=bj y Fi
   have f3:=p9 x y (by unfold ay at tH Fi;omega)
   have f4:=p9 k (x+y) (by unfold ay at tH Fi;omega)
   have hk':(k+(x+y))/ay<=1:=by unfold ay at tH Fi ⊢;omega
   have Wj:=nU (x:=x) (y:=y) (s:=k+(x+y)) ho hv' (by omega)
   simp only [SS,Nat.reduceAdd,vA hlt,dx hy,aK,bp,n5,hdr]
   rw [jo (o:=(a++o)++x::(b.drop (i+1)++t)) (b:=false) (by simp [ae.of]) (yh _ _ _ Wi)]
   simp only [SS,Nat.reduceAdd,f1,f2,f3,f4,w6,n5]
   rw [bV (o:=(a++o)++x::(b.drop (i+1)++t)) (by simp [ae.of]) tG,gm _ _ _ _ Wi]
   simp only [SS,Nat.reduceAdd,p8,sr]
   refine ⟨(i+1,_,o++[(k+(x+y))%ay],(k+(x+y))/ay),⟨(jT hlt).1,by simp [ho],q7 hwd _,hk', ?_⟩,(jT hlt).2,Wk.forget (by simp [Fg]) (fun j => ?_) (Nat.le_refl _)⟩
   . show val (o++[(k+(x+y))%ay])+ay ^ (i+1)*((k+(x+y))/ay)=_
     rw [aG hx,aG hy];exact Wj
   . simp only [ae.put,ae.of];split<;>simp_all
 . have qm:=dT hlt
   subst qm
   have Gw:b.drop (aa v+1)=[]:=List.drop_eq_nil_of_le (by omega)
   have e1:(digits v).take (aa v)=digits v:=List.take_of_length_le (Nat.le_refl _)
   have e2:val (b.take (aa v+1))=val b:=DT hb
   have Wj:=nU (x:=x) (y:=0) (s:=k+x) ho hv' (by omega)
   rw [e1,aI, <- aG hx,e2] at Wj
   simp only [Nat.mul_zero,Nat.add_zero] at Wj
   have f5:IntKind.u32.wrap (k:Int)=(k:Int):=by rw [w6,Nat.mod_eq_of_lt (by unfold ay;omega)]
   have f6:IntKind.u32.wrap ((x:Int)+(k:Int))=(((k+x)%ay:Nat):Int):=by rw [IntKind.wrap_u32];unfold ay;omega
   have ZA:Wd (o++[(k+x)%ay]):=q7 hwd _
   have zI:(o++[(k+x)%ay]).length=aa v+1:=by simp [ho]
   have e:pad (aa v+1) (val b+v)=o++[(k+x)%ay]:=by
     rw [<- Wj,Gy, <- zI];exact qa ZA
   simp only [SS,Nat.reduceAdd,xh hlt,bb,n5,hdr]
   rw [jo (o:=(a++o)++x::(b.drop (aa v+1)++t)) (b:=false) (by simp [ae.of]) (yh _ _ _ Wi)]
   simp only [SS,Nat.reduceAdd,f5,f6,n5]
   rw [bV (o:=(a++o)++x::(b.drop (aa v+1)++t)) (by simp [ae.of]) tG,gm _ _ _ _ Wi,Gw]
   simp only [SS,Nat.reduceAdd,e]
   have e5:a++(o++[(k+x)%ay])++t=a++o++(k+x)%ay::t:=by simp
   refine Nz▸dQ rfl fun i => .inr ?_
   simp only [ae.app,e5];exact Kj
end
end Go.VL
end

section
set_option linter.unusedVariables false
namespace Go.VL
def lens:List UInt8:=[0,1,2,2,3,3,3,3,4,4,4,4,4,4,4,4,5,5,5,5,5,5,5,5,5,5,5,5,5,5,5,5,6,6,6,6,6,6,6,6,6,6,6,6,6,6,6,6,6,6,6,6,6,6,6,6,6,6,6,6,6,6,6,6,7,7,7,7,7,7,7,7,7,7,7,7,7,7,7,7,7,7,7,7,7,7,7,7,7,7,7,7,7,7,7,7,7,7,7,7,7,7,7,7,7,7,7,7,7,7,7,7,7,7,7,7,7,7,7,7,7,7,7,7,7,7,7,7,8,8,8,8,8,8,8,8,8,8,8,8,8,8,8,8,8,8,8,8,8,8,8,8,8,8,8,8,8,8,8,8,8,8,8,8,8,8,8,8,8,8,8,8,8,8,8,8,8,8,8,8,8,8,8,8,8,8,8,8,8,8,8,8,8,8,8,8,8,8,8,8,8,8,8,8,8,8,8,8,8,8,8,8,8,8,8,8,8,8,8,8,8,8,8,8,8,8,8,8,8,8,8,8,8,8,8,8,8,8,8,8,8,8,8,8,8,8,8,8,8,8,8,8,8,8,8,8]
def len8 (v:Nat):Nat:=((lens[v]?).getD 0).toNat
def gg (x:Nat):Nat :=
 if 65536<=x then (if 256<=x/65536 then 24+len8 (x/65536/256) else 16+len8 (x/65536)) else (if 256<=x then 8+len8 (x/256) else len8 x)
set_option maxRecDepth 100000 in
theorem Wl {v:Nat} (h:v<256):lens[v]? = some ((lens[v]?).getD 0):=by
 have:v<lens.length:=h
 rw [List.getElem?_eq_getElem this];rfl
theorem DU (v:Nat):len8 v<256:=(((lens[v]?).getD 0)).toNat_lt
set_option maxRecDepth 100000 in
theorem Wm:(List.range 256).all (fun v=>v==0||(decide (v<2 ^ len8 v)&&decide (2 ^ len8 v<=2*v)))=true:=by decide
theorem DV {v:Nat} (h:v<256) (h0:0<v):v<2 ^ len8 v/\2 ^ len8 v<=2*v:=by
 have:=List.all_eq_true.1 Wm v (List.mem_range.2 h)
 simp only [Bool.or_eq_true,Bool.and_eq_true,beq_iff_eq,decide_eq_true_eq] at this
 rcases this with h1 | h1
 . omega
 . exact h1
theorem CO {x a k j:Nat} (he:a=x/2 ^ j) (h:a<2 ^ k/\2 ^ k<=2*a):x<2 ^ (j+k)/\2 ^ (j+k)<=2*x:=by
 subst he
 have hp:=Nat.two_pow_pos j
 refine ⟨?_, ?_⟩
 . have:=(Nat.div_lt_iff_lt_mul hp).1 h.1
   rwa [Nat.pow_add,Nat.mul_comm]
 . have h1:=Nat.mul_le_mul_left (2 ^ j) h.2
   have h2:=Nat.mul_div_le x (2 ^ j)
   rw [Nat.pow_add,Nat.mul_left_comm] at *
   omega
theorem tq {x:Nat} (h:x<ay) (h0:0<x):x<2 ^ gg x/\2 ^ gg x<=2*x:=by
 unfold ay at h
 unfold gg
 by_cases h1:65536<=x
 . by_cases h2:256<=x/65536
   . rw [if_pos h1,if_pos h2]
     exact CO (j:=24) (a:=x/65536/256) (by rw [Nat.div_div_eq_div_mul]) (DV (by omega) (by omega))
   . rw [if_pos h1,if_neg h2]
     exact CO (j:=16) (a:=x/65536) rfl (DV (by omega) (by omega))
 . by_cases h2:256<=x
   . rw [if_neg h1,if_pos h2]
     exact CO (j:=8) (a:=x/256) rfl (DV (by omega) (by omega))
   . rw [if_neg h1,if_neg h2]
     exact DV (by omega) h0
section
variable {P:Program} {G:Nat->Option (List AV)}
set_option maxRecDepth 100000 in
theorem DW {f:FuncId} (h:Has P f px) (x:Nat) (hx:x<ay):VP P G f [.int .u32 (x:Int)] (.int .i64 (gg x:Int)):=by
 refine VP.has h ?_
 have s16:bP .shr .int (.int .u32 (x:Int)) (.int .u64 16)=some (.int .u32 ((x/65536:Nat):Int)):=by
   rw [uh (by decide)]
   have:(x:Int).fdiv (2 ^ (min (16:Int).toNat IntKind.u32.bits))=((x/65536:Nat):Int):=by
     show (x:Int).fdiv (2 ^ 16)=_
     rw [Int.fdiv_eq_ediv_of_nonneg _ (by decide)];omega
   rw [this]
 have s8:∀ y:Nat,bP .shr .int (.int .u32 (y:Int)) (.int .u64 8)=some (.int .u32 ((y/256:Nat):Int)):=fun y=>by
   rw [uh (by decide)]
   have:(y:Int).fdiv (2 ^ (min (8:Int).toNat IntKind.u32.bits))=((y/256:Nat):Int):=by
     show (y:Int).fdiv (2 ^ 8)=_
     rw [Int.fdiv_eq_ediv_of_nonneg _ (by decide)];omega
   rw [this]
 have w8:∀ y:Nat,y<256->IntKind.u8.wrap (y:Int)=(y:Int):=fun y h=>by rw [IntKind.wrap_u8'];omega
 have wl:∀ y:Nat,IntKind.i64.wrap ((len8 y:Nat):Int)=((len8 y:Nat):Int):=fun y=>by have:=DU y;rw [IntKind.wrap_i64];omega
 have ZB:∀ (p:Id) (σ : ae) (y:Nat),y<256->bW σ p (.indexS (.str [0,1,2,2,3,3,3,3,4,4,4,4,4,4,4,4,5,5,5,5,5,5,5,5,5,5,5,5,5,5,5,5,6,6,6,6,6,6,6,6,6,6,6,6,6,6,6,6,6,6,6,6,6,6,6,6,6,6,6,6,6,6,6,6,7,7,7,7,7,7,7,7,7,7,7,7,7,7,7,7,7,7,7,7,7,7,7,7,7,7,7,7,7,7,7,7,7,7,7,7,7,7,7,7,7,7,7,7,7,7,7,7,7,7,7,7,7,7,7,7,7,7,7,7,7,7,7,7,8,8,8,8,8,8,8,8,8,8,8,8,8,8,8,8,8,8,8,8,8,8,8,8,8,8,8,8,8,8,8,8,8,8,8,8,8,8,8,8,8,8,8,8,8,8,8,8,8,8,8,8,8,8,8,8,8,8,8,8,8,8,8,8,8,8,8,8,8,8,8,8,8,8,8,8,8,8,8,8,8,8,8,8,8,8,8,8,8,8,8,8,8,8,8,8,8,8,8,8,8,8,8,8,8,8,8,8,8,8,8,8,8,8,8,8,8,8,8,8,8,8,8,8,8,8,8,8]) (.int .u8 (y:Int)))=some { val := .int .u8 ((len8 y:Nat):Int) }:=fun p σ y h=>by
   show bW σ p (.indexS (.str lens) (.int .u8 (y:Int)))=_
   rw [Cs,if_pos (by omega),Int.toNat_natCast,Wl h];rfl
 have hB:x<4294967296:=hx
 simp only [px]
 by_cases h1:65536<=x
 . have d1:decide ((65536:Int)<=(x:Int))=true:=aw (by omega)
   by_cases h2:256<=x/65536
   . have d2:decide ((256:Int)<=((x/65536:Nat):Int))=true:=aw (by omega)
     have hb:x/65536/256<256:=by omega
     have e:gg x=24+len8 (x/65536/256):=by unfold gg;rw [if_pos h1,if_pos h2]
     have e1:IntKind.i64.wrap ((16:Int)+8)=24:=by rw [IntKind.wrap_i64];omega
     have e2:IntKind.i64.wrap ((24:Int)+((len8 (x/65536/256):Nat):Int))=((24+len8 (x/65536/256):Nat):Int):=by have:=DU (x/65536/256);rw [IntKind.wrap_i64];omega
     simp only [SS,Nat.reduceAdd,d1,d2,s16,s8,w8 _ hb,ZB _ _ _ hb,wl,e1,e2]
     rw [e];exact ai▸af rfl (ab.int _ _)
   . have d2:decide ((256:Int)<=((x/65536:Nat):Int))=false:=ak (by omega)
     have hb:x/65536<256:=by omega
     have e:gg x=16+len8 (x/65536):=by unfold gg;rw [if_pos h1,if_neg h2]
     have e2:IntKind.i64.wrap ((16:Int)+((len8 (x/65536):Nat):Int))=((16+len8 (x/65536):Nat):Int):=by have:=DU (x/65536);rw [IntKind.wrap_i64];omega
     simp only [SS,Nat.reduceAdd,d1,d2,s16,w8 _ hb,ZB _ _ _ hb,wl,e2]
     rw [e];exact ai▸af rfl (ab.int _ _)
 . have d1:decide ((65536:Int)<=(x:Int))=false:=ak (by omega)
   by_cases h2:256<=x
   . have d2:decide ((256:Int)<=(x:Int))=true:=aw (by omega)
     have hb:x/256<256:=by omega
     have e:gg x=8+len8 (x/256):=by unfold gg;rw [if_neg h1,if_pos h2]
     have e1:IntKind.i64.wrap ((0:Int)+8)=8:=by rw [IntKind.wrap_i64];omega
     have e2:IntKind.i64.wrap ((8:Int)+((len8 (x/256):Nat):Int))=((8+len8 (x/256):Nat):Int):=by have:=DU (x/256);rw [IntKind.wrap_i64];omega
     simp only [SS,Nat.reduceAdd,d1,d2,s8,w8 _ hb,ZB _ _ _ hb,wl,e1,e2]
     rw [e];exact ai▸af rfl (ab.int _ _)
   . have d2:decide ((256:Int)<=(x:Int))=false:=ak (by omega)
     have hb:x<256:=by omega
     have e:gg x=len8 x:=by unfold gg;rw [if_neg h1,if_neg h2]
     have e2:IntKind.i64.wrap ((0:Int)+((len8 x:Nat):Int))=((len8 x:Nat):Int):=by have:=DU x;rw [IntKind.wrap_i64];omega
     simp only [SS,Nat.reduceAdd,d1,d2,w8 _ hb,ZB _ _ _ hb,wl,e2]
     rw [e];exact ai▸af rfl (ab.int _ _)
theorem ZC {f fl:FuncId} (h:Has P f (iP fl)) (hl:∀ x,x<ay->VP P G fl [.int .u32 ((x:Nat):Int)] (.int .i64 (gg x:Int))) (x:Nat) (hx:x<ay) (h0:0<x):VP P G f [.int .u32 (x:Int)] (.int .i64 ((32-gg x:Nat):Int)):=by
 refine VP.has h ?_
 have hb:gg x<=32:=by
   have h1:=(tq hx h0).2
   have h2:2 ^ gg x<2 ^ 33:=by unfold ay at hx;omega
   have:=(Nat.pow_lt_pow_iff_right (by decide:1<2)).1 h2
   omega
 have e:IntKind.i64.wrap ((32:Int)-((gg x:Nat):Int))=((32-gg x:Nat):Int):=by rw [IntKind.wrap_i64];omega
 simp only [iP,SS,Nat.reduceAdd]
 refine ah (hl x hx) (by simp [ab.int]) ?_
 simp only [SS,Nat.reduceAdd,e]
 exact ai▸af rfl (ab.int _ _)
end
end Go.VL
end

section
set_option linter.unusedVariables false
namespace Go.VL
section
variable {P:Program} {G:Nat->Option (List AV)}
theorem TE {f:FuncId} (h:Has P f dm) {es:List AV} (hk:∀ e∈es,e.size=1) (h1:(es.all fun e=>e.cells.all AV.one)=true) (hp:∀ c∈flat es,ab c) (hl:es.length*4<=140737488355328):VP P G f [.sl 1 es] (.sl 1 es):=by
 refine VP.has h ?_
 have hb:∀ (σ : ae) (p:Id),bW σ p (.buildSl 1 0 (.int .u32 0) [])=some { val := .tsl 1 [] }:=fun σ p=>bs0 rfl rfl
 cases es with
 | nil =>
   simp only [dm,SS,Nat.reduceAdd]
   refine ⟨?_, ?_⟩
   . exact ai▸⟨.nils,rfl,View.nils 1⟩
   . simp only [SS,Nat.reduceAdd,hb,p6 gB]
     exact ai▸⟨_,rfl,View.Zn 1⟩
 | cons e es =>
   simp only [dm,SS,Nat.reduceAdd,hb]
   rw [rp (es:=[]) gB (by simp) (by simpa using hl) (gC (by simp at hl ⊢;omega)) (by simpa using h1)]
   simp only [SS,Nat.reduceAdd]
   refine ai▸⟨_,rfl,View.osl (bk:=⟨e::es,1,false⟩) rfl rfl (by simp) ?_ (by simp) hk⟩
   simpa using az.pure hp
theorem TF {f:FuncId} (h:Has P f dm) (n:Nat) (hn:aa n<=1000000):VP P G f [W n] (W n) :=
 TE h (yd _) (PH _) (tk _) (by rw [eL];show aa n*4<=_;omega)
end
end Go.VL
end

section
set_option linter.unusedVariables false
namespace Go.VL
theorem DY (z:Int):kT (decide (z<0)) z.natAbs=z:=by
 unfold kT
 by_cases h:z<0
 . simp only [h,decide_true,if_true];omega
 . simp only [h,decide_false,Bool.false_eq_true,if_false];omega
theorem RX (z:Int):kT (!decide (z<0)) z.natAbs = -z:=by
 unfold kT
 by_cases h:z<0
 . simp only [h,decide_true,Bool.not_true,Bool.false_eq_true,if_false];omega
 . simp only [h,decide_false,Bool.not_false,if_true];omega
theorem RY (y z:Int):kT (!(decide (y<0)==decide (z<0))) (y.natAbs*z.natAbs)=y*z:=by
 rw [<- Int.natAbs_mul]
 unfold kT
 by_cases h:y<0<;>by_cases h2:z<0
 . have:=Int.mul_pos_of_neg_of_neg h h2
   simp [h,h2];omega
 . have h3:y*z<=0:=Int.mul_nonpos_of_nonpos_of_nonneg (by omega) (by omega)
   simp [h,h2];omega
 . have h3:y*z<=0:=Int.mul_nonpos_of_nonneg_of_nonpos (by omega) (by omega)
   simp [h,h2];omega
 . have h3:0<=y*z:=Int.mul_nonneg (by omega) (by omega)
   simp [h,h2];omega
theorem cu:((AV.cells (.agg [(.bool false), .nils])).all AV.one=true)=True:=by simp [AV.cells,AV.one]
theorem jr (σ : ae) (id:Id) (k:Nat) (z:Int):ir (σ.put id (some ⟨[.agg [.bool false, .nils]],k,false⟩)) 2 (.ref id 0 0) (IV z)=some { val := .tup [],rd:=[id],up:=[(id,some ⟨[IV z],k,false⟩)] }:=by
 rw [gD (n:=2) (v:=IV z) (els:=[.agg [.bool false, .nils]]) (k:=k) (ae.dO _ _ _) rfl rfl (by simp [AV.size,AV.cells]) rfl]
 rfl
section
variable {P:Program} {G:Nat->Option (List AV)}
theorem ng {ft:FuncId} (ht:ja P G ft) (n:Nat) (hn:aa n<=9223372036854775807):VP P G ft [W n] (W n):=by
 have:=ht (digits n) (aQ n) hn
 rw [aI] at this;exact this
def js (P:Program) (G:Nat->Option (List AV)) (f:FuncId):Prop:=∀ (neg:Bool) (n:Nat),aa n<=9223372036854775807->VP P G f [.bool neg,W n] (IV (kT neg n))
theorem PR {f ft:FuncId} (h:Has P f (mU ft)) (ht:ja P G ft):js P G f:=fun neg n hn=>by
 have:=TB h ht neg (aQ n) hn
 rw [aI] at this;exact this
theorem ZD {f ft:FuncId} (h:Has P f (sE ft)) (ht:ja P G ft) (z:Int) (hz:aa z.natAbs<=1000000):VP P G f [IV z] (.int .i64 z.sign):=by
 refine VP.has h ?_
 have hl:aa z.natAbs=0↔z=0:=by rw [cg];omega
 simp only [sE,SS,Nat.reduceAdd,iG,aj,iZ]
 refine ah (ng ht z.natAbs (by omega)) (by simp [aC]) ?_
 simp only [SS,Nat.reduceAdd,bb]
 by_cases h0:z=0
 . have d0:decide ((aa z.natAbs:Int)=0)=true:=aw (by have:=hl.2 h0;omega)
   simp only [SS,Nat.reduceAdd,d0]
   rw [h0]
   exact ai▸af rfl (ab.int _ _)
 . have d0:decide ((aa z.natAbs:Int)=0)=false:=ak (by have:=fun e=>h0 (hl.1 e);omega)
   by_cases hn:z<0
   . have d1:decide (z<0)=true:=aw hn
     simp only [SS,Nat.reduceAdd,d0,aj,kf,d1]
     rw [Int.sign_eq_neg_one_of_neg hn]
     exact ai▸af rfl (ab.int _ _)
   . have d1:decide (z<0)=false:=ak hn
     simp only [SS,Nat.reduceAdd,d0,aj,kf,d1]
     rw [Int.sign_eq_one_of_pos (by omega)]
     exact ai▸af rfl (ab.int _ _)
theorem qR (n:Nat) (hn:n<18446744073709551616):aa n<=2:=dH (by unfold ay;omega)
theorem PS {f fu fs:FuncId} (h:Has P f (pn fu fs)) (hu:∀ n,n<18446744073709551616->VP P G fu [.int .u64 ((n:Nat):Int)] (W n)) (hs:js P G fs) (a:Int) (h1 : -9223372036854775808<=a) (h2:a<9223372036854775808):VP P G f [.int .i64 a] (IV a):=by
 refine VP.has h ?_
 have hsz:=qR a.natAbs (by omega)
 have e8:=hs (decide (a<0)) a.natAbs (by omega)
 rw [DY] at e8
 have Pf:=hu a.natAbs (by omega)
 simp only [pn,SS,Nat.reduceAdd,cu]
 by_cases hn:a<0
 . have d1:decide (a<0)=true:=aw hn
   rw [d1] at e8
   have e1:IntKind.u64.wrap (0-(IntKind.u64.wrap a))=(a.natAbs:Int):=by rw [IntKind.wrap_u64,IntKind.wrap_u64];omega
   simp only [SS,Nat.reduceAdd,d1,e1]
   refine ah Pf (by simp [ab.int]) ?_
   simp only [SS,Nat.reduceAdd]
   refine ah e8 (by simp [ab.bool,aC]) ?_
   simp only [SS,Nat.reduceAdd,jr]
   refine ai▸af (r:=IV a) ?_ (aA _)
   simp only [RS,bn,bC,aj];rfl
 . have d1:decide (a<0)=false:=ak hn
   rw [d1] at e8
   have e1:IntKind.u64.wrap a=(a.natAbs:Int):=by rw [IntKind.wrap_u64];omega
   simp only [SS,Nat.reduceAdd,d1,e1]
   refine ah Pf (by simp [ab.int]) ?_
   simp only [SS,Nat.reduceAdd]
   refine ah e8 (by simp [ab.bool,aC]) ?_
   simp only [SS,Nat.reduceAdd,jr]
   refine ai▸af (r:=IV a) ?_ (aA _)
   simp only [RS,bn,bC,aj];rfl
theorem adG {f ft fc fs:FuncId} (h:Has P f (uP ft fc fs)) (ht:ja P G ft) (hc:∀ n,aa n<=1000000->VP P G fc [W n] (W n)) (hs:js P G fs) (z:Int) (hz:aa z.natAbs<=1000000):VP P G f [IV z] (IV (-z)):=by
 refine VP.has h ?_
 have e8:=hs (!decide (z<0)) z.natAbs (by omega)
 rw [RX] at e8
 simp only [uP,SS,DD,Nat.reduceAdd,iG,cu,aq (show ([0]:List Nat)≠[1] by decide),aj,kf,iZ]
 refine ao (ng ht z.natAbs (by omega)) (by simp [aC]) ?_
 simp only [SS,DD,Nat.reduceAdd]
 refine ao (hc z.natAbs hz) (by simp [aC]) ?_
 simp only [SS,DD,Nat.reduceAdd]
 refine ao e8 (by simp [ab.bool,aC]) ?_
 simp only [SS,DD,Nat.reduceAdd,jr]
 refine ⟨by simp [ag,apart], ?_⟩
 refine ai▸af (r:=IV (-z)) ?_ (aA _)
 simp only [RS,bn,bC,aj];rfl
theorem adH {f ft fm fs:FuncId} (h:Has P f (uQ ft fm fs)) (ht:ja P G ft) (hm:∀ m n,aa m<=1000000->aa n<=1000000->VP P G fm [W m,W n] (W (m*n))) (hs:js P G fs) (y z:Int) (hy:aa y.natAbs<=1000000) (hz:aa z.natAbs<=1000000):VP P G f [IV y,IV z] (IV (y*z)):=by
 refine VP.has h ?_
 have e8:=hs (!(decide (y<0)==decide (z<0))) (y.natAbs*z.natAbs) (by have:=rq y.natAbs z.natAbs;omega)
 rw [RY] at e8
 simp only [uQ,SS,DD,Nat.reduceAdd,iG,cu,aq (show ([0]:List Nat)≠[1] by decide),aq (show ([0]:List Nat)≠[2] by decide),aq (show ([1]:List Nat)≠[2] by decide),aj,kf,iZ]
 refine ao (ng ht y.natAbs (by omega)) (by simp [aC]) ?_
 simp only [SS,DD,Nat.reduceAdd,aq (show ([1]:List Nat)≠[2] by decide),aj,iZ]
 refine ao (ng ht z.natAbs (by omega)) (by simp [aC]) ?_
 simp only [SS,DD,Nat.reduceAdd]
 refine ao (hm y.natAbs z.natAbs hy hz) (by simp [aC]) ?_
 simp only [SS,DD,Nat.reduceAdd]
 refine ao e8 (by simp [ab.bool,aC]) ?_
 simp only [SS,DD,Nat.reduceAdd,jr]
 refine ⟨by simp [ag,apart], ?_⟩
 refine ai▸af (r:=IV (y*z)) ?_ (aA _)
 simp only [RS,bn,bC,aj];rfl
end
end Go.VL
end

section
set_option linter.unusedVariables false
namespace Go.VL
theorem qS (a b:Int):iF a b = -1/\a<b∨iF a b=0/\a=b∨iF a b=1/\b<a:=by
 unfold iF
 by_cases h1:a<b
 . simp [h1]
 . by_cases h2:b<a
   . simp [h1,h2]
   . right;left;simp [h1,h2];omega
theorem qT (z:Int):z.sign = -1/\z<0∨z.sign=0/\z=0∨z.sign=1/\0<z:=by
 rcases Int.lt_trichotomy z 0 with h | h | h
 . exact .inl ⟨Int.sign_eq_neg_one_of_neg h,h⟩
 . exact .inr (.inl ⟨by rw [h];rfl,h⟩)
 . exact .inr (.inr ⟨Int.sign_eq_one_of_pos h,h⟩)
theorem Kk {y z:Int} (h:y.sign≠z.sign):iF y.sign z.sign=iF y z:=by
 rcases qS y z with ⟨e,c⟩ | ⟨e,c⟩ | ⟨e,c⟩<;>rcases qS y.sign z.sign with ⟨e2,c2⟩ | ⟨e2,c2⟩ | ⟨e2,c2⟩<;>rcases qT y with ⟨s,p⟩ | ⟨s,p⟩ | ⟨s,p⟩<;>rcases qT z with ⟨s2,p2⟩ | ⟨s2,p2⟩ | ⟨s2,p2⟩<;>omega
theorem ZE {y z:Int} (h:y.sign=z.sign):y.sign*eM y.natAbs z.natAbs=iF y z:=by
 unfold eM
 rcases qS y z with ⟨e,c⟩ | ⟨e,c⟩ | ⟨e,c⟩<;>rcases qS (y.natAbs:Int) (z.natAbs:Int) with ⟨e2,c2⟩ | ⟨e2,c2⟩ | ⟨e2,c2⟩<;>rcases qT y with ⟨s,p⟩ | ⟨s,p⟩ | ⟨s,p⟩<;>rcases qT z with ⟨s2,p2⟩ | ⟨s2,p2⟩ | ⟨s2,p2⟩<;>rw [s,e2,e]<;>omega
section
variable {P:Program} {G:Nat->Option (List AV)}
theorem adI {f fsg fci ft fc:FuncId} (h:Has P f (uO fsg fci ft fc)) (o9:∀ z:Int,aa z.natAbs<=1000000->VP P G fsg [IV z] (.int .i64 z.sign)) (hci:∀ a b:Int,VP P G fci [.int .i64 a, .int .i64 b] (.int .i64 (iF a b))) (ht:ja P G ft)
   (hc:∀ m n,aa m<=1000000->aa n<=1000000->VP P G fc [W m,W n] (.int .i64 (eM m n))) (y z:Int) (hy:aa y.natAbs<=1000000) (hz:aa z.natAbs<=1000000):VP P G f [IV y,IV z] (.int .i64 (iF y z)):=by
 refine VP.has h ?_
 simp only [uO,SS,DD,Nat.reduceAdd,iG,aq (show ([0]:List Nat)≠[1] by decide),aj,di]
 refine ao (o9 y hy) (by simp [aA]) ?_
 simp only [SS,DD,Nat.reduceAdd,aj,di]
 refine ao (o9 z hz) (by simp [aA]) ?_
 simp only [SS,DD,Nat.reduceAdd]
 refine ⟨by simp [ag,apart], ?_⟩
 by_cases hs:y.sign=z.sign
 . have d0:decide (y.sign≠z.sign)=false:=ak (by simpa using hs)
   have e1:IntKind.i64.wrap (y.sign*eM y.natAbs z.natAbs)=iF y z:=by
     rw [ZE hs,IntKind.wrap_i64]
     rcases qS y z with ⟨e,_⟩ | ⟨e,_⟩ | ⟨e,_⟩<;>rw [e]<;>omega
   simp only [SS,DD,Nat.reduceAdd,d0,aq (show ([0]:List Nat)≠[1] by decide),aj,iZ]
   refine ao (ng ht y.natAbs (by omega)) (by simp [aC]) ?_
   simp only [SS,DD,Nat.reduceAdd,aj,iZ]
   refine ao (ng ht z.natAbs (by omega)) (by simp [aC]) ?_
   simp only [SS,DD,Nat.reduceAdd]
   refine ao (hc y.natAbs z.natAbs hy hz) (by simp [aC]) ?_
   simp only [SS,DD,Nat.reduceAdd,e1]
   refine ⟨by simp [ag,apart], ?_⟩
   exact ai▸af rfl (ab.int _ _)
 . have d0:decide (y.sign≠z.sign)=true:=aw hs
   simp only [SS,Nat.reduceAdd,d0]
   refine ah (hci y.sign z.sign) (by simp [ab.int]) ?_
   simp only [SS,Nat.reduceAdd]
   rw [Kk hs]
   exact ai▸af rfl (ab.int _ _)
end
end Go.VL
end

section
set_option linter.unusedVariables false
namespace Go.VL
def RV (a b:Int):AV := .agg [.bool (decide (a<0)),W a.natAbs, .bool (decide (b<0)),W b.natAbs]
theorem ux (a b:Int):ab (RV a b):=ab.agg (by intro c hc;simp at hc;rcases hc with rfl | rfl | rfl | rfl;exact ab.bool _;exact aC _;exact ab.bool _;exact aC _)
theorem PT (a b:Int):((RV a b).cells.all AV.one=true)=True:=by simp [RV,AV.cells,AV.one,W]
theorem RZ (a b:Int):part true (RV a b).cells 0 2=some (IV a):=rfl
theorem R2 (a b:Int):part true (RV a b).cells 2 2=some (IV b):=rfl
theorem cD:((AV.cells (.agg [(.bool false), .nils,(.bool false), .nils])).all AV.one=true)=True:=by simp [AV.cells,AV.one]
theorem NL (σ : ae) (id:Id) (k:Nat) (a b:Int):ir (σ.put id (some ⟨[.agg [.bool false, .nils, .bool false, .nils]],k,false⟩)) 4 (.ref id 0 0) (RV a b)=some { val := .tup [],rd:=[id],up:=[(id,some ⟨[RV a b],k,false⟩)] }:=by
 rw [gD (n:=4) (v:=RV a b) (els:=[.agg [.bool false, .nils, .bool false, .nils]]) (k:=k) (ae.dO _ _ _) rfl rfl (by simp [AV.size,AV.cells]) rfl]
 rfl
theorem DZ (a b:Int):kW [.bool false, .nils, .bool false, .nils] [(0,(2,IV a)),(2,(2,IV b))]=some [.bool (decide (a<0)),W a.natAbs, .bool (decide (b<0)),W b.natAbs]:=rfl
section
variable {P:Program} {G:Nat->Option (List AV)}
theorem adJ {f fi:FuncId} (h:Has P f (sG fi)) (hi:VP P G fi [.int .i64 1] (IV 1)):VP P G f [] (IV 1):=by
 refine VP.has h ?_
 simp only [sG,SS,Nat.reduceAdd,cu]
 refine ah hi (by simp [ab.int]) ?_
 simp only [SS,Nat.reduceAdd,jr]
 refine ai▸af (r:=IV 1) ?_ (aA _)
 simp only [RS,bn,bC,aj];rfl
theorem NM {f fi fo:FuncId} (h:Has P f (oa fi fo)) (a:Int) (hi:VP P G fi [.int .i64 a] (IV a)) (ho:VP P G fo [] (IV 1)):VP P G f [.int .i64 a] (RV a 1):=by
 refine VP.has h ?_
 have e:(AV.agg [.bool (decide (a<0)),W a.natAbs, .bool (decide ((1:Int)<0)),W (1:Int).natAbs])=RV a 1:=rfl
 simp only [oa,SS,Nat.reduceAdd,cD]
 refine ah hi (by simp [ab.int]) ?_
 simp only [SS,Nat.reduceAdd]
 refine ah ho (by simp) ?_
 simp only [SS,Nat.reduceAdd,DZ,e,NL]
 refine ai▸af (r:=RV a 1) ?_ (ux _ _)
 simp only [RS,bn,bC,aj];rfl
theorem NN {f fi:FuncId} (h:Has P f (nY fi)) (a b:Int) (hi:VP P G fi [IV a] (.int .i64 a.sign)):VP P G f [RV a b] (.int .i64 a.sign):=by
 refine VP.has h ?_
 simp only [nY,SS,Nat.reduceAdd,PT,aj,RZ]
 refine ah hi (by simp [aA]) ?_
 simp only [SS,Nat.reduceAdd]
 exact ai▸af rfl (ab.int _ _)
theorem Wn {f:FuncId} (h:Has P f qz) (z:Int):VP P G f [IV z] (.bool (decide (z=1))):=by
 refine VP.has h ?_
 have hl:aa z.natAbs=1->∃ w,digits z.natAbs=[w]:=fun h=>List.length_eq_one_iff.1 h
 have h11:aa 1=1:=by unfold aa;rw [iU (by decide),show 1/ay=0 from rfl,bo];rfl
 simp only [qz,SS,Nat.reduceAdd,iG,aj,kf]
 by_cases hn:z<0
 . have d0:decide (z<0)=true:=aw hn
   have e:decide (z=1)=false:=ak (by omega)
   simp only [SS,Nat.reduceAdd,d0,e]
   exact ai▸af rfl (ab.bool _)
 . have d0:decide (z<0)=false:=ak hn
   by_cases h1:aa z.natAbs=1
   . have d1:decide ((aa z.natAbs:Int)=1)=true:=aw (by omega)
     obtain ⟨w,hw⟩:=hl h1
     have hg:(digits z.natAbs)[0]? = some w:=by rw [hw];rfl
     have ZB:bK 1 (W z.natAbs) (.int .i64 0)=some (.ep (AV.int .u32 (w:Int)).cells 0):=fG (i:=0) rfl (qP hg)
     have hv:z.natAbs=w:=by have:=aI z.natAbs;rw [hw] at this;simp [val] at this;omega
     have e:decide ((w:Int)=1)=decide (z=1):=by congr 1;apply propext;omega
     simp only [SS,Nat.reduceAdd,d0,aj,iZ,bb,d1,ZB,aK,bp,e]
     exact ai▸af rfl (ab.bool _)
   . have d1:decide ((aa z.natAbs:Int)=1)=false:=ak (by omega)
     have e:decide (z=1)=false:=ak (by intro e;rw [e] at h1;exact h1 h11)
     simp only [SS,Nat.reduceAdd,d0,aj,iZ,bb,d1,e]
     exact ai▸af rfl (ab.bool _)
end
end Go.VL
end

section
set_option linter.unusedVariables false
namespace Go.VL
theorem dy {σ : ae} {id:Id} {k:Nat} {z:Int} {y:AV} (hs:y.size=2) (hu:y.upd 0 (IV z).cells=IV z) (h : σ id=some ⟨[y],k,false⟩):ir σ 2 (.ref id 0 0) (IV z)=some { val := .tup [],rd:=[id],up:=[(id,some ⟨[IV z],k,false⟩)] }:=by
 rw [gD (n:=2) (v:=IV z) h rfl rfl (by rw [hs];exact Nat.le_refl _) rfl]
 simp [hu]
theorem CP (y z:Int):(IV y).upd 0 (IV z).cells=IV z:=rfl
theorem tu (z:Int):(AV.agg [.bool false, .nils]).upd 0 (IV z).cells=IV z:=rfl
theorem ZF {σ : ae} {id:Id} {k:Nat} {z:Int} {b:Bool} (h : σ id=some ⟨[IV z],k,b⟩):lK σ true 2 (.ref id 0 0)=some { val:=IV z,rd:=[id] }:=by
 rw [EE h (el:=IV z) rfl,di];rfl
theorem adK {α : Type} {a b c : α}:[a,b,c][0]? = some a:=rfl
theorem adL {α : Type} {a b c : α}:[a,b,c][1]? = some b:=rfl
theorem adM {α : Type} {a b c : α}:[a,b,c][2]? = some c:=rfl
section
variable {P:Program} {G:Nat->Option (List AV)}
theorem adN {f fo fd:FuncId} (h:Has P f (sH fo fd)) (a b:Int) (ho:VP P G fo [IV b] (.bool (decide (b=1)))) (hd:VP P G fd [IV a,IV b] (.tup [IV (a.fdiv b),IV (a.fmod b), .int .i64 0])):VP P G f [IV a,IV b] (IV (a.fdiv b)):=by
 refine VP.has h ?_
 simp only [sH,SS,Nat.reduceAdd,iG,cu,aq (show ([1]:List Nat)≠[2] by decide),aj,di]
 refine ah ho (by simp [aA]) ?_
 by_cases h1:b=1
 . have d1:decide (b=1)=true:=aw h1
   have e:a.fdiv b=a:=by rw [h1,Int.fdiv_one]
   simp only [SS,Nat.reduceAdd,d1,aq (show ([0]:List Nat)≠[2] by decide),aq (show ([0]:List Nat)≠[1] by decide),aj,di]
   rw [dy (k:=(AV.agg [.bool false, .nils]).size) (y := .agg [.bool false, .nils]) rfl (tu _) (by simp [ae.put])]
   simp only [SS,Nat.reduceAdd,e]
   refine ai▸af (r:=IV a) ?_ (aA _)
   simp only [RS,bn,bC,aj];rfl
 . have d1:decide (b=1)=false:=ak h1
   simp only [SS,Nat.reduceAdd,d1,aq (show ([0]:List Nat)≠[2] by decide),aq (show ([0]:List Nat)≠[1] by decide),aq (show ([1]:List Nat)≠[2] by decide),aj,di]
   refine ah hd (by simp [aA]) ?_
   simp only [SS,Nat.reduceAdd,cu,adK,adL,adM]
   rw [dy (k:=(AV.agg [.bool false, .nils]).size) (y := .agg [.bool false, .nils]) rfl (tu _) (by simp [ae.put])]
   simp only [SS,Nat.reduceAdd]
   rw [dy (k:=(AV.agg [.bool false, .nils]).size) (y := .agg [.bool false, .nils]) rfl (tu _) (by simp [ae.put])]
   simp only [SS,Nat.reduceAdd]
   rw [ZF (z:=a.fdiv b) (k:=(AV.agg [.bool false, .nils]).size) (b:=false) (by simp [ae.put])]
   simp only [SS,Nat.reduceAdd]
   rw [dy (k:=(AV.agg [.bool false, .nils]).size) (y := .agg [.bool false, .nils]) rfl (tu _) (by simp [ae.put])]
   simp only [SS,Nat.reduceAdd]
   refine ai▸af (r:=IV (a.fdiv b)) ?_ (aA _)
   simp only [RS,bn,bC,aj];rfl
end
end Go.VL
end

section
set_option linter.unusedVariables false
namespace Go.VL
def NP (a b:Int):Bool := !(decide (a<0)==decide (b<0))
def Wo (a b:Int):Nat:=if NP a b=true/\0<a.natAbs%b.natAbs then a.natAbs/b.natAbs+1 else a.natAbs/b.natAbs
def Wp (a b:Int):Nat:=if NP a b=true/\0<a.natAbs%b.natAbs then b.natAbs-a.natAbs%b.natAbs else a.natAbs%b.natAbs
theorem H5:digits 1=[1]:=by rw [iU (by decide),show 1/ay=0 from rfl,bo];rfl
theorem Wq {id:Id} {b t:Bool}:View (ae.of [(id,⟨us [1],1,b⟩)]) (.osl id 1 0 1 t) (W 1):=by
 unfold W;rw [H5];exact iH rfl
theorem Ws (m n:Nat):aa (m/n)<=aa m:=bg (Nat.div_le_self _ _)
theorem H6 (m n:Nat):aa (m%n)<=aa m:=bg (Nat.mod_le _ _)
theorem TG (m:Nat):aa (m+1)<=aa m+1:=dH (by
 have h1:=de m
 rw [Nat.pow_succ]
 have h2:ay ^ aa m*2<=ay ^ aa m*ay:=Nat.mul_le_mul_left _ (by decide)
 omega)
theorem A8:aa 1<=1:=by unfold aa;rw [H5];decide
theorem CQ {α : Type} {a b : α}:[a,b][0]? = some a:=rfl
theorem CR {α : Type} {a b : α}:[a,b][1]? = some b:=rfl
section
variable {P:Program} {G:Nat->Option (List AV)}
theorem TH {f ft fd fp fm fs:FuncId} (h:Has P f (qy ft fd fp fm fs)) (ht:ja P G ft) (hd:∀ m n,n≠0->aa m<=900000->aa n<=900000->VP P G fd [W m,W n] (.tup [W (m/n),W (m%n)]))
   (hp:∀ m n,aa m<=1000000->aa n<=1000000->VP P G fp [W m,W n] (W (m+n))) (hm:∀ m n,n<=m->aa m<=1000000->VP P G fm [W m,W n] (W (m-n))) (hs:js P G fs) (a b:Int) (Gl:b≠0) (ha:aa a.natAbs<=900000) (hb:aa b.natAbs<=900000) :
   VP P G f [IV a,IV b] (.tup [IV (kT (NP a b) (Wo a b)),IV (kT (decide (b<0)) (Wp a b)), .int .i64 0]):=by
 refine VP.has h ?_
 have hbn:b.natAbs≠0:=by omega
 have UT:aa b.natAbs≠0:=fun e=>hbn (cg.1 e)
 have d0:decide ((aa b.natAbs:Int)=0)=false:=ak (by omega)
 have w1:=Ws a.natAbs b.natAbs
 have w2:=H6 a.natAbs b.natAbs
 have w3:=TG (a.natAbs/b.natAbs)
 have w4:aa (b.natAbs-a.natAbs%b.natAbs)<=aa b.natAbs:=bg (Nat.sub_le _ _)
 have w5:=A8
 have adj:a.natAbs%b.natAbs<b.natAbs:=Nat.mod_lt _ (Nat.pos_of_ne_zero hbn)
 have hpv:=hp (a.natAbs/b.natAbs) 1 (by omega) (by omega)
 have TI:=hm b.natAbs (a.natAbs%b.natAbs) (Nat.le_of_lt adj) (by omega)
 have alA:0<a.natAbs%b.natAbs->decide ((0:Int)<(aa (a.natAbs%b.natAbs):Int))=true:=fun h=>aw (by
   have:aa (a.natAbs%b.natAbs)≠0:=fun e=>by have:=cg.1 e;omega
   omega)
 have ahg : ¬ 0<a.natAbs%b.natAbs->decide ((0:Int)<(aa (a.natAbs%b.natAbs):Int))=false:=fun h=>ak (by
   have:aa (a.natAbs%b.natAbs)=0:=cg.2 (by omega)
   omega)
 have zB:([0]:List Nat)≠[1]:=by decide
 have Fj:([0]:List Nat)≠[2]:=by decide
 have k03:([0]:List Nat)≠[3]:=by decide
 have zF:([1]:List Nat)≠[2]:=by decide
 have UU:([1]:List Nat)≠[3]:=by decide
 have K2:∀ (q r:Nat),q=Wo a b->r=Wp a b->aa q<=1000000->aa r<=1000000->VP P G fs [.bool (NP a b),W q] (IV (kT (NP a b) (Wo a b)))/\VP P G fs [.bool (decide (b<0)),W r] (IV (kT (decide (b<0)) (Wp a b))):=fun q r hq hr h1 h2=>by
   subst hq;subst hr
   exact ⟨hs _ _ (by omega),hs _ _ (by omega)⟩
 simp only [qy,SS,Nat.reduceAdd,iG,cu,aq zF,aq UU,aj,iZ]
 refine ah (ng ht b.natAbs (by omega)) (by simp [aC]) ?_
 simp only [SS,Nat.reduceAdd,bb,d0,aq zB,aq Fj,aq k03,aj,iZ]
 refine ah (ng ht a.natAbs (by omega)) (by simp [aC]) ?_
 simp only [SS,Nat.reduceAdd]
 refine ah (hd a.natAbs b.natAbs hbn ha hb) (by simp [aC]) ?_
 simp only [SS,Nat.reduceAdd,CQ,CR,aq zB,aq Fj,aq k03,aq zF,aq UU,aj,kf]
 have YI:(!(decide (a<0)==decide (b<0)))=NP a b:=rfl
 simp only [YI]
 have hbs:∀ (σ : ae) (q:Id),bW σ q (.buildSl 1 1 (.int .u32 0) [(0, .int .u32 1)])=some { val := .osl q 1 0 1 false,up:=[(q,some ⟨us [1],1,false⟩)] }:=fun σ q=>DN (x:=1)
 have ZG:([2]:List Nat)≠[3]:=by decide
 have k0b:([0]:List Nat)≠[33]:=by decide
 have k1b:([1]:List Nat)≠[33]:=by decide
 by_cases o9:NP a b=true
 . by_cases hr:0<a.natAbs%b.natAbs
   . have d1:=alA hr
     obtain ⟨g1,g2⟩:=K2 (a.natAbs/b.natAbs+1) (b.natAbs-a.natAbs%b.natAbs) (by unfold Wo;rw [if_pos ⟨o9,hr⟩]) (by unfold Wp;rw [if_pos ⟨o9,hr⟩]) (by omega) (by omega)
     rw [o9] at g1
     simp only [SS,Nat.reduceAdd,o9,bb,d1,hbs]
     refine cA [([33],⟨us [1],1,false⟩)] hpv (az.cons (View.pure (aC _)) (az.cons Wq az.nil)) (by simp [ae.put]) ?_
     simp only [SS,Nat.reduceAdd]
     refine ah TI (by simp [aC]) ?_
     simp only [SS,DD,Nat.reduceAdd,ae.app,FC,aq zB,aq Fj,aq k03,aq zF,aq UU,aq k0b,aq k1b,aj,kf,YI,o9]
     refine ao g1 (by simp [ab.bool,aC]) ?_
     simp only [SS,DD,Nat.reduceAdd,aq zF,aq UU,aq k1b,aj,kf]
     refine ao g2 (by simp [ab.bool,aC]) ?_
     simp only [SS,DD,Nat.reduceAdd]
     rw [dy (k:=(AV.agg [.bool false, .nils]).size) (y := .agg [.bool false, .nils]) rfl (tu _) (by simp [ae.put])]
     simp only [SS,DD,Nat.reduceAdd]
     rw [dy (k:=(AV.agg [.bool false, .nils]).size) (y := .agg [.bool false, .nils]) rfl (tu _) (by simp [ae.put])]
     simp only [SS,DD,Nat.reduceAdd]
     refine ⟨by simp [ag,apart], ?_⟩
     refine ai▸af (r := .tup [IV (kT true (Wo a b)),IV (kT (decide (b<0)) (Wp a b)), .int .i64 0]) ?_ (ab.tup (by intro c hc;simp at hc;rcases hc with rfl | rfl | rfl;exact aA _;exact aA _;exact ab.int _ _))
     simp only [RS,bn,bC,aq ZG,aj,di]
   . have d1:=ahg hr
     obtain ⟨g1,g2⟩:=K2 (a.natAbs/b.natAbs) (a.natAbs%b.natAbs) (by unfold Wo;rw [if_neg (fun e=>hr e.2)]) (by unfold Wp;rw [if_neg (fun e=>hr e.2)]) (by omega) (by omega)
     rw [o9] at g1
     simp only [SS,DD,Nat.reduceAdd,o9,bb,d1]
     simp only [SS,DD,Nat.reduceAdd,ae.app,aq zB,aq Fj,aq k03,aq zF,aq UU,aj,kf,YI,o9]
     refine ao g1 (by simp [ab.bool,aC]) ?_
     simp only [SS,DD,Nat.reduceAdd,aq zF,aq UU,aj,kf]
     refine ao g2 (by simp [ab.bool,aC]) ?_
     simp only [SS,DD,Nat.reduceAdd]
     rw [dy (k:=(AV.agg [.bool false, .nils]).size) (y := .agg [.bool false, .nils]) rfl (tu _) (by simp [ae.put])]
     simp only [SS,DD,Nat.reduceAdd]
     rw [dy (k:=(AV.agg [.bool false, .nils]).size) (y := .agg [.bool false, .nils]) rfl (tu _) (by simp [ae.put])]
     simp only [SS,DD,Nat.reduceAdd]
     refine ⟨by simp [ag,apart], ?_⟩
     refine ai▸af (r := .tup [IV (kT true (Wo a b)),IV (kT (decide (b<0)) (Wp a b)), .int .i64 0]) ?_ (ab.tup (by intro c hc;simp at hc;rcases hc with rfl | rfl | rfl;exact aA _;exact aA _;exact ab.int _ _))
     simp only [RS,bn,bC,aq ZG,aj,di]
 . have hsf:NP a b=false:=by simpa using o9
   obtain ⟨g1,g2⟩:=K2 (a.natAbs/b.natAbs) (a.natAbs%b.natAbs) (by unfold Wo;rw [if_neg (fun e=>o9 e.1)]) (by unfold Wp;rw [if_neg (fun e=>o9 e.1)]) (by omega) (by omega)
   rw [hsf] at g1
   simp only [SS,DD,Nat.reduceAdd,hsf]
   simp only [SS,DD,Nat.reduceAdd,ae.app,aq zB,aq Fj,aq k03,aq zF,aq UU,aj,kf,YI,hsf]
   refine ao g1 (by simp [ab.bool,aC]) ?_
   simp only [SS,DD,Nat.reduceAdd,aq zF,aq UU,aj,kf]
   refine ao g2 (by simp [ab.bool,aC]) ?_
   simp only [SS,DD,Nat.reduceAdd]
   rw [dy (k:=(AV.agg [.bool false, .nils]).size) (y := .agg [.bool false, .nils]) rfl (tu _) (by simp [ae.put])]
   simp only [SS,DD,Nat.reduceAdd]
   rw [dy (k:=(AV.agg [.bool false, .nils]).size) (y := .agg [.bool false, .nils]) rfl (tu _) (by simp [ae.put])]
   simp only [SS,DD,Nat.reduceAdd]
   refine ⟨by simp [ag,apart], ?_⟩
   refine ai▸af (r := .tup [IV (kT false (Wo a b)),IV (kT (decide (b<0)) (Wp a b)), .int .i64 0]) ?_ (ab.tup (by intro c hc;simp at hc;rcases hc with rfl | rfl | rfl;exact aA _;exact aA _;exact ab.int _ _))
   simp only [RS,bn,bC,aq ZG,aj,di]
end
end Go.VL
end

section
namespace Go.VL
theorem Lw {a b q r:Int} (hb:0<b) (h:a=b*q+r) (h0:0<=r) (h1:r<b):a.fdiv b=q/\a.fmod b=r:=by
 have:=(Int.ediv_emod_unique (a:=a) (b:=b) (r:=r) (q:=q) hb).2 ⟨by omega,h0,h1⟩
 rw [Int.fdiv_eq_ediv_of_nonneg _ (Int.le_of_lt hb),Int.fmod_eq_emod_of_nonneg _ (Int.le_of_lt hb)]
 exact this
theorem adO (a b:Int):a.fdiv b=(-a).fdiv (-b)/\a.fmod b = -((-a).fmod (-b)):=by
 have h1:(-a).fdiv (-b)=a.fdiv b:=Int.neg_fdiv_neg a b
 refine ⟨h1.symm, ?_⟩
 have h2:=Int.mul_fdiv_add_fmod a b
 have h3:=Int.mul_fdiv_add_fmod (-a) (-b)
 rw [h1,Int.neg_mul] at h3
 omega
theorem ZH {m n:Nat} (hn:n≠0):((m:Int).fdiv n=(m/n:Nat)/\(m:Int).fmod n=(m%n:Nat)) /\
   (m%n=0->(-(m:Int)).fdiv n = -((m/n:Nat):Int)/\(-(m:Int)).fmod n=0)/\(0<m%n->(-(m:Int)).fdiv n = -((m/n+1:Nat):Int)/\(-(m:Int)).fmod n=((n-m%n:Nat):Int)):=by
 have hlt:m%n<n:=Nat.mod_lt _ (Nat.pos_of_ne_zero hn)
 have e:(m:Int)=(n:Int)*((m/n:Nat):Int)+((m%n:Nat):Int):=by
   rw [<- Int.natCast_mul, <- Int.natCast_add,Nat.div_add_mod]
 generalize m/n=q at *
 generalize m%n=r at *
 refine ⟨Lw (by omega) e (by omega) (by omega),fun h=>Lw (by omega) ?_ (by omega) (by omega),fun h=>Lw (by omega) ?_ (by omega) (by omega)⟩
 . rw [Int.mul_neg];omega
 . rw [Int.mul_neg,Int.natCast_add,Int.mul_add];omega
theorem Wt (a b:Int) (hb:b≠0):kT (NP a b) (Wo a b)=a.fdiv b/\kT (decide (b<0)) (Wp a b)=a.fmod b:=by
 have hbn:b.natAbs≠0:=by omega
 obtain ⟨⟨c1,c2⟩,c3,c4⟩:=ZH (m:=a.natAbs) hbn
 unfold Wo Wp
 by_cases h1:b<0
 . have eb : -b=(b.natAbs:Int):=by omega
   obtain ⟨n1,n2⟩:=adO a b
   rw [n1,n2,eb]
   by_cases h2:a<0
   . have ea : -a=(a.natAbs:Int):=by omega
     have hd:NP a b=false:=by simp [NP,h1,h2]
     rw [ea,c1,c2,hd]
     simp [kT,h1]
   . have ea : -a = -(a.natAbs:Int):=by omega
     have hd:NP a b=true:=by simp [NP,h1,h2]
     rw [ea,hd]
     by_cases hr:0<a.natAbs%b.natAbs
     . rw [(c4 hr).1,(c4 hr).2,if_pos ⟨rfl,hr⟩,if_pos ⟨rfl,hr⟩]
       simp [kT,h1]
     . have h0:a.natAbs%b.natAbs=0:=by omega
       rw [(c3 h0).1,(c3 h0).2,if_neg (fun e=>hr e.2),if_neg (fun e=>hr e.2),h0]
       simp [kT,h1]
 . have eb:b=(b.natAbs:Int):=by omega
   have zE:decide (b<0)=false:=ak h1
   by_cases h2:a<0
   . have ea:a = -(a.natAbs:Int):=by omega
     have hd:NP a b=true:=by simp [NP,h1,h2]
     rw [hd,zE]
     by_cases hr:0<a.natAbs%b.natAbs
     . have q1:=(c4 hr).1
       have q2:=(c4 hr).2
       rw [<- ea, <- eb] at q1 q2
       rw [q1,q2,if_pos ⟨rfl,hr⟩,if_pos ⟨rfl,hr⟩]
       exact ⟨rfl,rfl⟩
     . have h0:a.natAbs%b.natAbs=0:=by omega
       have q1:=(c3 h0).1
       have q2:=(c3 h0).2
       rw [<- ea, <- eb] at q1 q2
       rw [q1,q2,if_neg (fun e=>hr e.2),if_neg (fun e=>hr e.2),h0]
       exact ⟨rfl,rfl⟩
   . have ea:a=(a.natAbs:Int):=by omega
     have hd:NP a b=false:=by simp [NP,h1,h2]
     rw [<- ea, <- eb] at c1 c2
     rw [c1,c2,hd,zE]
     simp [kT]
end Go.VL
end

section
set_option linter.unusedVariables false
namespace Go.VL
theorem wQ {σ : ae} {id:Id} {k:Nat} {a b:Int} (h : σ id=some ⟨[.agg [.bool false, .nils, .bool false, .nils]],k,false⟩):ir σ 4 (.ref id 0 0) (RV a b)=some { val := .tup [],rd:=[id],up:=[(id,some ⟨[RV a b],k,false⟩)] }:=by
 rw [gD (n:=4) (v:=RV a b) h rfl rfl (by simp [AV.size,AV.cells]) rfl]
 rfl
section
variable {P:Program} {G:Nat->Option (List AV)}
theorem TJ {f fg fn fq:FuncId} (h:Has P f (pt fg fn fq)) (a b g:Int) (hg:VP P G fg [IV a,IV b] (IV g)) (hn:VP P G fn [IV g] (IV (-g)))
   (hq:∀ x y:Int,(x=a∨x=b)->(y=g∨y = -g)->VP P G fq [IV x,IV y] (IV (x.fdiv y))):VP P G f [IV a,IV b] (RV (a.fdiv (if b<0 then -g else g)) (b.fdiv (if b<0 then -g else g))):=by
 refine VP.has h ?_
 have zB:([0]:List Nat)≠[1]:=by decide
 have Fj:([0]:List Nat)≠[2]:=by decide
 have k06:([0]:List Nat)≠[6]:=by decide
 have zF:([1]:List Nat)≠[2]:=by decide
 have k16:([1]:List Nat)≠[6]:=by decide
 simp only [pt,SS,Nat.reduceAdd,iG,cD,aq zB,aq Fj,aq zF,aj,di]
 refine ah hg (by simp [aA]) ?_
 simp only [SS,Nat.reduceAdd,cu,jr,aq zF,aq k16,aj,kf]
 have UW:∀ x y:Int,(AV.agg [.bool (decide (x<0)),W x.natAbs, .bool (decide (y<0)),W y.natAbs])=RV x y:=fun _ _=>rfl
 by_cases Lx:decide (b<0)=true
 . have e:(if b<0 then -g else g)=(-g):=by simp at Lx;first | exact if_pos Lx | exact if_neg (by omega)
   rw [e]
   have q1:=hq a (-g) (.inl rfl) (by simp)
   have q2:=hq b (-g) (.inr rfl) (by simp)
   simp only [SS,Nat.reduceAdd,Lx,aj,di]
   first
     | refine ah hn (by simp [aA]) ?_
       simp only [SS,Nat.reduceAdd]
       rw [dy (k:=(AV.agg [.bool false, .nils]).size) (y:=IV g) rfl (CP _ _) (by simp [ae.put])]
       simp only [SS,DD,Nat.reduceAdd,aq zB,aq Fj,aq k06,aj,di]
     | skip
   refine ao q1 (by simp [aA]) ?_
   simp only [SS,DD,Nat.reduceAdd,aq zF,aq k16,aj,di]
   refine ao q2 (by simp [aA]) ?_
   simp only [SS,DD,Nat.reduceAdd,DZ,UW]
   rw [wQ (k:=(AV.agg [.bool false, .nils, .bool false, .nils]).size) (by simp [ae.put])]
   simp only [SS,DD,Nat.reduceAdd]
   refine ⟨by simp [ag,apart], ?_⟩
   refine ai▸af (r:=RV (a.fdiv (-g)) (b.fdiv (-g))) ?_ (ux _ _)
   simp only [RS,bn,bC,aj]
   rfl
 by_cases Ly:decide (b<0)=false
 . have e:(if b<0 then -g else g)=g:=by simp at Ly;first | exact if_pos Ly | exact if_neg (by omega)
   rw [e]
   have q1:=hq a g (.inl rfl) (by simp)
   have q2:=hq b g (.inr rfl) (by simp)
   simp only [SS,DD,Nat.reduceAdd,Ly,aq zB,aq Fj,aq k06,aj,di]
   first
     | refine ah hn (by simp [aA]) ?_
       simp only [SS,Nat.reduceAdd,reduceIte]
       rw [dy (k:=(AV.agg [.bool false, .nils]).size) (y:=IV g) rfl (CP _ _) (by simp [ae.put])]
       simp only [SS,DD,Nat.reduceAdd,reduceIte,aq zB,aq Fj,aq zF,aq k16,aq k06,aj,di]
     | skip
   refine ao q1 (by simp [aA]) ?_
   simp only [SS,DD,Nat.reduceAdd,aq zF,aq k16,aj,di]
   refine ao q2 (by simp [aA]) ?_
   simp only [SS,DD,Nat.reduceAdd,DZ,UW]
   rw [wQ (k:=(AV.agg [.bool false, .nils, .bool false, .nils]).size) (by simp [ae.put])]
   simp only [SS,DD,Nat.reduceAdd]
   refine ⟨by simp [ag,apart], ?_⟩
   refine ai▸af (r:=RV (a.fdiv g) (b.fdiv g)) ?_ (ux _ _)
   simp only [RS,bn,bC,aj]
   rfl
 . exfalso;revert Lx Ly;cases decide (b<0)<;>simp
end
end Go.VL
end

section
set_option linter.unusedVariables false
namespace Go.VL
section
variable {P:Program} {G:Nat->Option (List AV)}
theorem ZI {f fi fm fo fl:FuncId} (h:Has P f (pw fi fm fo fl)) (a b c d:Int) (x:AV) {x1 x2:Int} (hx:x=RV x1 x2) (hi:∀ z,VP P G fi [IV z] (.bool (decide (z=1)))) (hm1:VP P G fm [IV a,IV c] (IV (a*c))) (BI:VP P G fm [IV b,IV d] (IV (b*d))) (ho:VP P G fo [] (IV 1))
   (hl:VP P G fl [IV (a*c),IV (b*d)] x):VP P G f [RV a b,RV c d] (if b=1/\d=1 then RV (a*c) 1 else x):=by
 refine VP.has h ?_
 have zB:([0]:List Nat)≠[1]:=by decide
 have Fj:([0]:List Nat)≠[2]:=by decide
 have zF:([1]:List Nat)≠[2]:=by decide
 have UW:∀ x y:Int,(AV.agg [.bool (decide (x<0)),W x.natAbs, .bool (decide (y<0)),W y.natAbs])=RV x y:=fun _ _=>rfl
 subst hx
 simp only [pw,SS,Nat.reduceAdd,PT,cD,aq zB,aq Fj,aj,R2]
 refine ah (hi b) (by simp [aA]) ?_
 have R3:∀ (h : ¬ (b=1/\d=1)),(if b=1/\d=1 then RV (a*c) 1 else RV x1 x2)=RV x1 x2:=fun h=>if_neg h
 by_cases hb:b=1
 . have d1:decide (b=1)=true:=aw hb
   simp only [SS,Nat.reduceAdd,d1,aq zF,aj,R2]
   refine ah (hi d) (by simp [aA]) ?_
   by_cases hd:d=1
   . have d2:decide (d=1)=true:=aw hd
     rw [if_pos ⟨hb,hd⟩]
     simp only [SS,Nat.reduceAdd,d2,aq zB,aq Fj,aq zF,aj,RZ]
     refine ah hm1 (by simp [aA]) ?_
     simp only [SS,Nat.reduceAdd]
     refine ah ho (by simp) ?_
     simp only [SS,Nat.reduceAdd,DZ,UW]
     rw [wQ (k:=(AV.agg [.bool false, .nils, .bool false, .nils]).size) (by simp [ae.put])]
     simp only [SS,Nat.reduceAdd]
     refine ai▸af (r:=RV (a*c) 1) ?_ (ux _ _)
     simp only [RS,bn,bC,aj]
     rfl
   . have d2:decide (d=1)=false:=ak hd
     rw [R3 fun e=>hd e.2]
     simp only [SS,DD,Nat.reduceAdd,d2,aq zB,aq Fj,aq zF,aj,RZ]
     refine ao hm1 (by simp [aA]) ?_
     simp only [SS,DD,Nat.reduceAdd,aq zB,aq Fj,aq zF,aj,R2]
     refine ao BI (by simp [aA]) ?_
     simp only [SS,DD,Nat.reduceAdd]
     refine ao hl (by simp [aA]) ?_
     simp only [SS,DD,Nat.reduceAdd]
     rw [wQ (k:=(AV.agg [.bool false, .nils, .bool false, .nils]).size) (by simp [ae.put])]
     simp only [SS,DD,Nat.reduceAdd]
     refine ⟨by simp [ag,apart], ?_⟩
     refine ai▸af (r:=RV x1 x2) ?_ (ux _ _)
     simp only [RS,bn,bC,aj]
     rfl
 . have d1:decide (b=1)=false:=ak hb
   rw [R3 fun e=>hb e.1]
   simp only [SS,DD,Nat.reduceAdd,d1,aq zB,aq Fj,aq zF,aj,RZ]
   refine ao hm1 (by simp [aA]) ?_
   simp only [SS,DD,Nat.reduceAdd,aq zB,aq Fj,aq zF,aj,R2]
   refine ao BI (by simp [aA]) ?_
   simp only [SS,DD,Nat.reduceAdd]
   refine ao hl (by simp [aA]) ?_
   simp only [SS,DD,Nat.reduceAdd]
   rw [wQ (k:=(AV.agg [.bool false, .nils, .bool false, .nils]).size) (by simp [ae.put])]
   simp only [SS,DD,Nat.reduceAdd]
   refine ⟨by simp [ag,apart], ?_⟩
   refine ai▸af (r:=RV x1 x2) ?_ (ux _ _)
   simp only [RS,bn,bC,aj]
   rfl
end
end Go.VL
end
