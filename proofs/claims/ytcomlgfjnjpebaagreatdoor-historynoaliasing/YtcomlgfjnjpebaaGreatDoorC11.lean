/- For the claim of HistoryNoAliasing: parts NAL, TryzShelf, FUH, TUH, TUV, FMT, VL32, FMH, BKH, VL33, FRH, FVH, HKT, HHas, HI1, HI2. -/
import Derived.Test.YtcomlgfjnjpebaaGreatDoorC10
import Derived.Shelf.Strings.Builder1
import Derived.Shelf.Strings.Builder2
import Derived.Shelf.Small.Bits
import Derived.Shelf.Strings.BuilderF
import Derived.Shelf.Strings.BuilderK
import Derived.Shelf.Strconv.Itoa0
import Derived.Shelf.Strconv.Itoa1
import Derived.Shelf.LaysM
import Derived.Shelf.Strconv.Itoa2
import Derived.Shelf.Strings.Search1
import Derived.Shelf.Strings.Search2
import Derived.Shelf.Strings.Cut
import Derived.Shelf.Strings.Shaped
import Derived.Shelf.Sort.Plain
import Derived.Shelf.Strings.Prefix
import Derived.Shelf.Bits.Mul64
import Derived.Shelf.Strings.Repeat
import Derived.Shelf.Slices.Equal
import Derived.Ground.Names2Prog
import Derived.Shelf.Slices.Clone
import Derived.Shelf.Slices.CompactS
import Derived.Shelf.Slices.SearchI
import Derived.Shelf.Slices.Cells
import Derived.Shelf.Slices.In.SortNone
import Derived.Shelf.Slices.Empties2
import Derived.Ground.SlgnProg
import Derived.Shelf.SlicesE.Clone
import Derived.Test.YtcomlgfjnjpebaaGreatDoorProg
import Derived.WalkKit
import Derived.Lib.Walk
import Derived.Lib.ItoaMem
import Derived.Lib.AppendIntMem
import Derived.BigCall
import Derived.BigGuard
import Derived.RangeFuncBox
import Derived.RangeFuncLeaves
import Derived.Shelf.Abstract
import Derived.OwnWalkIn
import Derived.TacticsInMore
import Derived.LoopNIn
import Derived.LoopIn
import Derived.Test.YtcomlgfjnjpebaaGreatDoorC07
import Derived.Test.YtcomlgfjnjpebaaGreatDoorC05
import Derived.RangeFuncCalls
import Derived.Test.YtcomlgfjnjpebaaGreatDoorC04
import Derived.Test.YtcomlgfjnjpebaaGreatDoorC08
import Derived.KernelRfl
import Derived.Test.YtcomlgfjnjpebaaGreatDoorC03
import Derived.Test.YtcomlgfjnjpebaaGreatDoorC06
set_option linter.unusedSimpArgs false
set_option linter.unusedVariables false
set_option maxRecDepth 100000
namespace Go.VL
section
open Go.Lib
structure NH (P:Program) (G:Nat->Option (List AV)) (aU:FX->Prop) (fperf qu:FuncId) (X:FX):Prop where
 clone:∀ Y,aU Y->Y.inputs≠[]->∀ p:Id,aq P G qu [Y.av] p [] { val:=FI Y (5::4::p) (.sl 7 (EX.dy Y.vals)),rd:=[],up:=[(5::4::p,some (sB Y.inputs))] }
 pN:X.inputs≠[]->∀ (ls:List (List FX)) (now:Nat) (l:List FX),ls[now]? = some l->uf aU ls now->ls.length<=900->Ah l X=0->∀ p q hid mid:Id,q≠hid->q≠mid->hid≠mid -> ¬ p <:+ q -> ¬ p <:+ hid -> ¬ p <:+ mid ->
   aq P G fperf [.ref hid 0 0, .ref mid 0 0,OI X q] p [(q,sB X.inputs),(hid,bH ls now),(mid,bH ls now)]
     { val := .bool true,rd:=[q,hid,mid],up:=[(27::16::6::p,some ⟨lI l X q,5,false⟩),(40::6::p,some ⟨Gu (ls.take (now+1)) (l.length+1) (27::16::6::p),1,false⟩),(hid,some (bH (ls.take (now+1)++[l++[X]]) (now+1))),(mid,some (YO (now+1+1) (40::6::p) (now+1)))] }
 pE:X.inputs≠[]->∀ (ls:List (List FX)) (now:Nat) (l:List FX),ls[now]? = some l->uf aU ls now->ls.length<=900->Ah l X≠0->∀ p q hid mid:Id,q≠hid->q≠mid->hid≠mid ->
   aq P G fperf [.ref hid 0 0, .ref mid 0 0,OI X q] p [(q,sB X.inputs),(hid,bH ls now),(mid,bH ls now)] { val := .bool true,rd:=[q,hid,mid] }
structure LN (P:Program) (G:Nat->Option (List AV)) (aU:FX->Prop) (faw fplay ffe fnow fsame La CJ fperf fp qu:FuncId):Prop where
 aw:VP P G faw [] (.bool true)
 play:Has P fplay (gX La CJ fperf)
 new:Has P La kR
 new2:Has P CJ gb
 perf:Ss P G aU fperf
 fe:Has P ffe (bV fp qu)
 pres:Has P fp bq
 clone:∀ X,aU X->VP P G qu [X.av] X.av
 now:Has P fnow eH
 same:∀ l k:List FX,l.length<=1000->k.length<=1000->(∀ X∈l,aU X)->(∀ X∈k,aU X)->VP P G fsame [bT l,bT k] (.bool (gJ l k))
 supp:∀ X b,aU X->aU (X.bD b)
theorem Jq (l:List FX) (X:FX):gJ (l++[X]) l=false:=r7 (by simp)
instance {o:OX}:PU o.av:=by
 show PU (AV.agg [.int .u8 (o.kind:Int), .str o.F.name, .int .i64 o.F.kind,strs o.F.inputs, .sl 7 (EX.dy o.F.vals), .bool o.F.supp, .str o.name, .bool o.on, .int .i64 o.pH])
 infer_instance
instance {l:List OX}:PU (kU l):=⟨Ji l,fun ρ => by
 show AV.sl 9 (bJ ρ (l.map OX.av))=_
 rw [(C5.map (fun x=>inferInstance) l).fix ρ];rfl⟩
def oE0 (X:FX):AV := .agg [.int .u8 0, .str X.name, .int .i64 X.kind, .tsl 1 [], .sl 7 (EX.dy X.vals), .bool X.supp, .str [], .bool false, .int .i64 0]
theorem SJ {X:FX} (h0:X.inputs=[]) {a b:AV}:dU [] [a,b,oE0 X] [a,b,(M8 X).av]:=by
 refine ⟨cX.same _ _,cX.same _ _,cX.agg (wD (c := .tsl 1 []) (d:=strs X.inputs) (cX.view ?_) [.int .u8 0, .str X.name, .int .i64 X.kind]),trivial⟩
 rw [h0];exact View.FK 1
section
variable {P:Program} {G:Nat->Option (List AV)} {aU:FX->Prop} {f faw fsm fSm fplay ffe fnow fsame aho La CJ fperf fp qu fdo YG fed YH fmv YI YJ ZO:FuncId}
theorem SK (h:Has P f (de faw fsm fSm fplay fperf fnow ffe fsame)) (H:LN P G aU faw fplay ffe fnow fsame La CJ fperf fp qu)
   {l:List OX} (hsm:VP P G fsm [kU l] (.bool (jH l))) (hg:jH l=true->∀ o∈l,aU o.F) (X:FX) (Z0:VP P G fSm [X.av] (.bool X.small)) (hX:X.small=true->aU X) (hlen:∀ Y,aU Y->Y.inputs.length<=400) (N:X.small=true->NH P G aU fperf qu X) :
   VP P G f [kU l,X.av] (.bool true):=by
 cases hb:jH l
 . rw [hb] at hsm
   exact VP.tr h [hc H.aw,hc hsm,hc H.aw]
 rw [hb] at hsm
 cases hx:X.small
 . rw [hx] at Z0
   exact VP.tr h [hc H.aw,hc hsm,hc Z0,hc H.aw]
 rw [hx] at Z0
 have Pl:=hX hx
 have N:=N hx
 have Nj:=hg hb
 have V1:l.length<=40:=by unfold jH at hb;simp at hb;exact hb.2
 obtain ⟨hI,hIl⟩:=M6 H.supp Nj l.length
 rw [List.take_length] at hI hIl
 have Lx:=fun p=>Vb (P:=P) (G:=G) H.play H.new H.new2 H.perf H.supp Nj (by omega) p
 generalize oO l=s at *
 obtain ⟨ls,now⟩:=s
 simp only [] at hI hIl Lx
 obtain ⟨m,hm⟩:∃ m,ls[now]? = some m:=⟨_,List.getElem?_eq_getElem hI.lt⟩
 have Dh:=List.mem_of_getElem? hm
 have hL:=hI.list m Dh
 have WU:=iZ hL
 have hmg:=hI.aU m Dh
 have Y2:∀ (ls:List (List FX)) (now:Nat) (k:List FX),ls[now]? = some k->k.length<=201->(∀ Y∈k,aU Y)->VW P G [] (oP 10 (Fe faw fsm fSm fplay fperf fnow ffe fsame).body) (Dp [(.tmp 4)] (.bool true)) ⟨YW [3,3,15] k,aa.of [([3,3,15],bH ls now)],20000⟩ :=
   fun ls now k hk FV WV=>YX H.fe H.pres hk (by omega) (fun Y hY=>by have:=hlen Y (WV Y hY);omega) (fun Y hY=>H.clone Y (WV Y hY)) (fun Y hY h0=>N.clone Y (WV Y hY) h0) (by have:=H.same k k (by omega) (by omega) WV WV;rwa [bI rfl] at this)
 refine VP.abT h ?_
 by_cases h0:X.inputs=[]
 . have hd:=Sr (o:=M8 X) hI Pl H.supp
   have WG:∀ p:Id,(∀ x∈[(([3,3,15]:Id),bH ls now),([20],bH ls now)], ¬ p <:+ x.1)->aq P G fperf [.ref [3,3,15] 0 0, .ref [20] 0 0,oE0 X] p [([3,3,15],bH ls now),([20],bH ls now)]
       { val := .bool true,rd:=[[3,3,15],[20]],up:=[([3,3,15],some (bH (wy ls now (M8 X)).1 (wy ls now (M8 X)).2.1)),([20],some (bH (wy ls now (M8 X)).1 (wy ls now (M8 X)).2.1))] }:=fun p hp =>
     aq.xv [] (H.perf (hid:=[3,3,15]) (mid:=[20]) (by decide) hI (by omega) Pl p (hp ([3,3,15],bH ls now) (by simp)) (hp ([20],bH ls now) (by simp))) (SJ h0) (by intro x _ y hy;cases hy) (by intro x hx;cases hx)
   generalize wy ls now (M8 X)=r at hd WG
   obtain ⟨ls2,SL,r3⟩:=r
   simp only [] at hd WG
   obtain ⟨k,hk⟩:∃ k,ls2[SL]? = some k:=⟨_,List.getElem?_eq_getElem hd.1.lt⟩
   have hkm:=List.mem_of_getElem? hk
   have FV:=iZ (hd.1.list k hkm)
   have WV:=hd.1.aU k hkm
   have h3:=Vo k ls2 SL X (Y2 _ _ _ hk (by omega) WV)
   rw [uh] at h3
   have h2:=WS (faw:=faw) (fsm:=fsm) (fSm:=fSm) (fplay:=fplay) (fperf:=fperf) (ffe:=ffe) (fsame:=fsame) k (by omega) (fun Y hY=>by have:=hlen Y (WV Y hY);omega) X ls2 SL ⟨[E0 X],5,false⟩ (by intro e he;simp at he;subst he;rfl) [] (sB X.inputs) Jn (.inl rfl) (Sc H.now ls2 SL hk) h3
   rw [uh] at h2
   exact VW.SB 7 [hc H.aw,hc hsm,hc Z0, .rel fplay [kU l] [] _ (fun p _=>Lx p) (by intro p x hx;cases hx), .st 39 _ _ _ (Ng h0),
     .rel fperf [.ref [3,3,15] 0 0, .ref [20] 0 0,oE0 X] [([3,3,15],bH ls now),([20],bH ls now)] _ WG ZW]
     [] (T7 [3,3,15]) (S7 X ls2 SL ⟨[E0 X],5,false⟩ []) 40 (by kernel_rfl) h2
 . by_cases hch:Ah m X=0
   . skip
     have qv:(ls.take (now+1)++[m++[X]])[now+1]? = some (m++[X]):=by
       have:=hI.lt
       have e:(ls.take (now+1)).length=now+1:=by rw [List.length_take];omega
       rw [List.getElem?_append_right (by omega),e,Nat.sub_self];rfl
     have hgm:∀ Y∈m++[X],aU Y:=fun Y hY=>by
       rcases List.mem_append.1 hY with h1 | h1
       . exact hmg Y h1
       . rcases List.mem_singleton.1 h1 with rfl;exact Pl
     have h3:=SD (m++[X]) (ls.take (now+1)++[m++[X]]) (now+1) X (hlen X Pl) (Y2 _ _ _ qv (by simp;omega) hgm)
     rw [uh] at h3
     have h2:=ab1 (faw:=faw) (fsm:=fsm) (fSm:=fSm) (fplay:=fplay) (fperf:=fperf) (ffe:=ffe) (fsame:=fsame) H.now m (by omega) X h0 (by have:=hlen X Pl;omega) ls now hI.lt (by rw [show S9 (ls.take (now+1)++[m++[X]]) (now+1) ⟨[FI X [32] (.sl 7 (EX.dy X.vals))],5,false⟩ [([32],sB X.inputs)]=JY [3,3,15] [27] [32] (bH (ls.take (now+1)++[m++[X]]) (now+1)) X 0 by unfold JY S9;rw [YR]];exact h3)
     rw [uh] at h2
     exact VW.SB 7 [hc H.aw,hc hsm,hc Z0, .rel fplay [kU l] [] _ (fun p _=>Lx p) (by intro p x hx;cases hx), .st 39 _ _ _ (GC h0 (by have:=hlen X Pl;omega)),
       .rel fperf [.ref [3,3,15] 0 0, .ref [20] 0 0,OI X [32]] [([32],sB X.inputs),([3,3,15],bH ls now),([20],bH ls now)] _ (fun p hp=>N.pN h0 ls now m hm hI (by omega) hch p [32] [3,3,15] [20] (by decide) (by decide) (by decide) (hp ([32],sB X.inputs) (by simp)) (hp ([3,3,15],bH ls now) (by simp)) (hp ([20],bH ls now) (by simp))) hr3]
       [] (T7 [3,3,15]) (S7N X ls now m) 40 (by kernel_rfl) h2
   . skip
     have h3:=SD m ls now X (hlen X Pl) (Y2 _ _ _ hm (by omega) hmg)
     rw [uh] at h3
     have h2:=WS (faw:=faw) (fsm:=fsm) (fSm:=fSm) (fplay:=fplay) (fperf:=fperf) (ffe:=ffe) (fsame:=fsame) m (by omega) (fun Y hY=>by have:=hlen Y (hmg Y hY);omega) X ls now ⟨[FI X [32] (.sl 7 (EX.dy X.vals))],5,false⟩ (by intro e he;simp at he;subst he;rfl) [([32],sB X.inputs)] (sB X.inputs) Jn (.inr rfl) (Sc H.now ls now hm)
       (by rw [show S9 ls now ⟨[FI X [32] (.sl 7 (EX.dy X.vals))],5,false⟩ [([32],sB X.inputs)]=JY [3,3,15] [27] [32] (bH ls now) X 0 by unfold JY S9;rw [YR]];exact h3)
     rw [uh] at h2
     exact VW.SB 7 [hc H.aw,hc hsm,hc Z0, .rel fplay [kU l] [] _ (fun p _=>Lx p) (by intro p x hx;cases hx), .st 39 _ _ _ (GC h0 (by have:=hlen X Pl;omega)),
       .rel fperf [.ref [3,3,15] 0 0, .ref [20] 0 0,OI X [32]] [([32],sB X.inputs),([3,3,15],bH ls now),([20],bH ls now)] _ (fun p hp=>N.pE h0 ls now m hm hI (by omega) hch p [32] [3,3,15] [20] (by decide) (by decide) (by decide)) hr3]
       [] (T7 [3,3,15]) (S7 X ls now ⟨[FI X [32] (.sl 7 (EX.dy X.vals))],5,false⟩ [([32],sB X.inputs)]) 40 (by kernel_rfl) h2
end
end
end Go.VL
namespace Go.Proofs
section
open Go.Shelf
def Tryz.Aj:Go.Shelf.Ren:=⟨fun | 169=>152 | n=>n,fun | 70=>162 | 9=>9 | 0=>0 | 72=>164 | 37=>31 | 127=>187 | 3=>3 | 5=>5 | n=>n,fun | n=>n⟩
theorem Tryz.Vt:Go.Proofs.Lays.n169 Tryz.prog Tryz.Aj:={
 mixed:=by kernel_rfl
 f169:=Tryz.func152.trans (congrArg some (by kernel_rfl))
 t0:=Tryz.underlying0
 a0:=Tryz.isAgg0
 z0:=Tryz.sizeOf0
 v0:=Tryz.zeroValue0
 t3:=Tryz.underlying3
 a3:=Tryz.isAgg3
 z3:=Tryz.sizeOf3
 v3:=Tryz.zeroValue3
 t9:=Tryz.underlying9
 a9:=Tryz.isAgg9
 z9:=Tryz.sizeOf9
 v9:=Tryz.zeroValue9
 t37:=Tryz.underlying31
 a37:=Tryz.isAgg31
 z37:=Tryz.sizeOf31
 v37:=Tryz.zeroValue31
 t70:=Tryz.underlying162
 a70:=Tryz.isAgg162
 z70:=Tryz.sizeOf162
 v70:=Tryz.zeroValue162
 t72:=Tryz.underlying164
 a72:=Tryz.isAgg164
 z72:=Tryz.sizeOf164
 v72:=Tryz.zeroValue164
 t127:=Tryz.underlying187
 a127:=Tryz.isAgg187
 z127:=Tryz.sizeOf187
 v127:=Tryz.zeroValue187 }
theorem Tryz.ym:Builder.Extra Tryz.prog Tryz.Aj:={
 sizeBuilder:=by kernel_rfl
 liesBuilder:=by kernel_rfl
 t5:=Tryz.underlying5
 a5:=Tryz.isAgg5
 z5:=Tryz.sizeOf5
 v5:=Tryz.zeroValue5
 infoByte:=by kernel_rfl
 cellsByte:=by kernel_rfl
 sizeByte:=by kernel_rfl
 neB5:=by decide }
open Go.RowKit in
theorem Tryz.Builder_String_any_k (B b:Nat) (l:List UInt8) (w:World) (h:Lib.IsBuilderF 164 5 B b (Lib.byteCells l) w) (hBw:B<=w.heap.size) :
   Calls Tryz.prog 152 #[.pointer (some ⟨b,0,none⟩)] w fun e w'=>e = .returned (.string ⟨l.toArray⟩)/\(Lib.IsBuilderF 164 5 B b (Lib.byteCells l) w'/\Below B w w'/\Lib.OthersKept 5 (some b) w w'):=Any.Builder_String_any_k Tryz.Vt Tryz.ym B b l w h hBw
def Tryz.Jr:Go.Shelf.Ren:=⟨fun | 129=>91 | n=>n,fun | 53=>118 | 3=>3 | 4=>4 | 46=>92 | 5=>5 | 9=>9 | n=>n,fun | n=>n⟩
theorem Tryz.Vu:Go.Proofs.Lays.n129 Tryz.prog Tryz.Jr:={
 mixed:=by kernel_rfl
 f129:=Tryz.func91.trans (congrArg some (by kernel_rfl))
 t3:=Tryz.underlying3
 a3:=Tryz.isAgg3
 z3:=Tryz.sizeOf3
 v3:=Tryz.zeroValue3
 t4:=Tryz.underlying4
 a4:=Tryz.isAgg4
 z4:=Tryz.sizeOf4
 v4:=Tryz.zeroValue4
 t5:=Tryz.underlying5
 a5:=Tryz.isAgg5
 z5:=Tryz.sizeOf5
 v5:=Tryz.zeroValue5
 t9:=Tryz.underlying9
 a9:=Tryz.isAgg9
 z9:=Tryz.sizeOf9
 v9:=Tryz.zeroValue9
 t46:=Tryz.underlying92
 a46:=Tryz.isAgg92
 z46:=Tryz.sizeOf92
 v46:=Tryz.zeroValue92
 t53:=Tryz.underlying118
 a53:=Tryz.isAgg118
 z53:=Tryz.sizeOf118
 v53:=Tryz.zeroValue118 }
theorem Tryz.bits_Len64 (x:Int) (w:World) (h0:0<=x) (h1:x<=18446744073709551615) :
   Calls Tryz.prog 91 #[.int .u64 x] w fun e w'=>e = .returned (.int .i64 (Lib.bitLen x.toNat))/\w'=w:=Any.bits_Len64 Tryz.Vu x w h0 h1
def Tryz.Js:Go.Shelf.Ren:=⟨fun | 317=>209 | n=>n,fun | 3=>3 | 46=>92 | n=>n,fun | n=>n⟩
theorem Tryz.Vv:Go.Proofs.Lays.n317 Tryz.prog Tryz.Js:={
 mixed:=by kernel_rfl
 f317:=Tryz.func209.trans (congrArg some (by kernel_rfl))
 t3:=Tryz.underlying3
 a3:=Tryz.isAgg3
 z3:=Tryz.sizeOf3
 v3:=Tryz.zeroValue3
 t46:=Tryz.underlying92
 a46:=Tryz.isAgg92
 z46:=Tryz.sizeOf92
 v46:=Tryz.zeroValue92 }
open Go.Lib in
theorem Tryz.internal_strconv_log10Pow2 (x:Nat) (h:x<=64) (w:World) :
   Calls Tryz.prog 209 #[.int .i64 x] w fun e w'=>e = .returned (.int .i64 (Lib.l10 x))/\w'=w:=Any.internal_strconv_log10Pow2 Tryz.Vv x h w
def Tryz.Jt:Go.Shelf.Ren:=⟨fun | 318=>210 | n=>n,fun | 3=>3 | 4=>4 | n=>n,fun | n=>n⟩
theorem Tryz.Vw:Go.Proofs.Lays.n318 Tryz.prog Tryz.Jt:={
 mixed:=by kernel_rfl
 f318:=Tryz.func210.trans (congrArg some (by kernel_rfl))
 t3:=Tryz.underlying3
 a3:=Tryz.isAgg3
 z3:=Tryz.sizeOf3
 v3:=Tryz.zeroValue3
 t4:=Tryz.underlying4
 a4:=Tryz.isAgg4
 z4:=Tryz.sizeOf4
 v4:=Tryz.zeroValue4 }
open Go.Lib in
theorem Tryz.internal_strconv_bool2_int (b:Bool) (w:World) :
   Calls Tryz.prog 210 #[.bool b] w fun e w'=>e = .returned (.int .i64 (if b then 1 else 0))/\w'=w:=Any.internal_strconv_bool2_int Tryz.Vw b w
def Tryz.Ju:Go.Shelf.Ren:=⟨fun | 283=>198 | n=>n,fun | 3=>3 | 9=>9 | 4=>4 | n=>n,fun | n=>n⟩
theorem Tryz.Vx:Go.Proofs.Lays.n283 Tryz.prog Tryz.Ju:={
 mixed:=by kernel_rfl
 f283:=Tryz.func198.trans (congrArg some (by kernel_rfl))
 t3:=Tryz.underlying3
 a3:=Tryz.isAgg3
 z3:=Tryz.sizeOf3
 v3:=Tryz.zeroValue3
 t4:=Tryz.underlying4
 a4:=Tryz.isAgg4
 z4:=Tryz.sizeOf4
 v4:=Tryz.zeroValue4
 t9:=Tryz.underlying9
 a9:=Tryz.isAgg9
 z9:=Tryz.sizeOf9
 v9:=Tryz.zeroValue9 }
open Go.Lib in
theorem Tryz.internal_strconv_small (i:Nat) (h:i<100) (w:World) :
   Calls Tryz.prog 198 #[.int .i64 i] w fun e w'=>e = .returned (.string ⟨(Lib.decDigits i).toArray⟩)/\w'=w:=Any.internal_strconv_small Tryz.Vx i h w
def Tryz.Jv:Go.Shelf.Ren:=⟨fun | 285=>200 | n=>n,fun | 37=>31 | 53=>118 | 3=>3 | 4=>4 | 51=>116 | 9=>9 | 5=>5 | 0=>0 | n=>n,fun | n=>n⟩
theorem Tryz.Vy:Go.Proofs.Lays.n285 Tryz.prog Tryz.Jv:={
 mixed:=by kernel_rfl
 f285:=Tryz.func200.trans (congrArg some (by kernel_rfl))
 t0:=Tryz.underlying0
 a0:=Tryz.isAgg0
 z0:=Tryz.sizeOf0
 v0:=Tryz.zeroValue0
 t3:=Tryz.underlying3
 a3:=Tryz.isAgg3
 z3:=Tryz.sizeOf3
 v3:=Tryz.zeroValue3
 t4:=Tryz.underlying4
 a4:=Tryz.isAgg4
 z4:=Tryz.sizeOf4
 v4:=Tryz.zeroValue4
 t5:=Tryz.underlying5
 a5:=Tryz.isAgg5
 z5:=Tryz.sizeOf5
 v5:=Tryz.zeroValue5
 t9:=Tryz.underlying9
 a9:=Tryz.isAgg9
 z9:=Tryz.sizeOf9
 v9:=Tryz.zeroValue9
 t37:=Tryz.underlying31
 a37:=Tryz.isAgg31
 z37:=Tryz.sizeOf31
 v37:=Tryz.zeroValue31
 t51:=Tryz.underlying116
 a51:=Tryz.isAgg116
 z51:=Tryz.sizeOf116
 v51:=Tryz.zeroValue116
 t53:=Tryz.underlying118
 a53:=Tryz.isAgg118
 z53:=Tryz.sizeOf118
 v53:=Tryz.zeroValue118 }
open Go.RowKit Go.Sort Go.Lib in
theorem Tryz.internal_strconv_formatBase10 (blk off cap:Nat) (u:Nat) (d:Array UInt8) (w:World) (hH:Holds (fun (b:UInt8)=>Value.int .u8 (b.toNat:Int)) w blk off d) (hu:u<10 ^ d.size) (Li:u<18446744073709551616) (hsz:d.size<4611686018427387904) :
   Calls Tryz.prog 200 #[.slice (some ⟨blk,off,none⟩) d.size cap, .int .u64 u] w fun e w' =>
     e = .returned (.tuple #[])/\∃ (n v':Nat) (dk:Array UInt8),w'=(putRow (fun (b:UInt8)=>Value.int .u8 (b.toNat:Int)) w blk off dk).drewN n/\FmtInv d.size u 0 v' dk:=Any.internal_strconv_formatBase10 Tryz.Vy blk off cap u d w hH hu Li hsz
def Tryz.WW:Go.Shelf.Ren:=⟨fun | 219=>80 | 217=>107 | 225=>108 | 224=>109 | 267=>110 | 266=>131 | 314=>132 | n=>n,fun | 9=>9 | 3=>3 | 4=>4 | 5=>5 | 46=>92 | 146=>147 | 51=>116 | n=>n,fun | 1=>1 | n=>n⟩
def Tryz.Jw:Go.Shelf.Ren:=⟨fun | 145=>30 | 220=>57 | 219=>80 | 217=>107 | 225=>108 | 224=>109 | 267=>110 | 266=>131 | 314=>132 | n=>n,fun | 9=>9 | 4=>4 | 59=>64 | 3=>3 | 5=>5 | 46=>92 | 146=>147 | 51=>116 | n=>n,fun | 1=>1 | n=>n⟩
theorem Tryz.Vz:Go.Proofs.Lays.n145 Tryz.prog Tryz.Jw:={
 mixed:=by kernel_rfl
 f145:=Tryz.func30.trans (congrArg some (by kernel_rfl))
 f217:=Tryz.func107.trans (congrArg some (by kernel_rfl))
 f219:=Tryz.func80.trans (congrArg some (by kernel_rfl))
 f220:=Tryz.func57.trans (congrArg some (by kernel_rfl))
 f224:=Tryz.func109.trans (congrArg some (by kernel_rfl))
 f225:=Tryz.func108.trans (congrArg some (by kernel_rfl))
 f266:=Tryz.func131.trans (congrArg some (by kernel_rfl))
 f267:=Tryz.func110.trans (congrArg some (by kernel_rfl))
 f314:=Tryz.func132.trans (congrArg some (by kernel_rfl))
 t3:=Tryz.underlying3
 a3:=Tryz.isAgg3
 z3:=Tryz.sizeOf3
 v3:=Tryz.zeroValue3
 t4:=Tryz.underlying4
 a4:=Tryz.isAgg4
 z4:=Tryz.sizeOf4
 v4:=Tryz.zeroValue4
 t5:=Tryz.underlying5
 a5:=Tryz.isAgg5
 z5:=Tryz.sizeOf5
 v5:=Tryz.zeroValue5
 t9:=Tryz.underlying9
 a9:=Tryz.isAgg9
 z9:=Tryz.sizeOf9
 v9:=Tryz.zeroValue9
 t46:=Tryz.underlying92
 a46:=Tryz.isAgg92
 z46:=Tryz.sizeOf92
 v46:=Tryz.zeroValue92
 t51:=Tryz.underlying116
 a51:=Tryz.isAgg116
 z51:=Tryz.sizeOf116
 v51:=Tryz.zeroValue116
 t59:=Tryz.underlying64
 a59:=Tryz.isAgg64
 z59:=Tryz.sizeOf64
 v59:=Tryz.zeroValue64
 t146:=Tryz.underlying147
 a146:=Tryz.isAgg147
 z146:=Tryz.sizeOf147
 v146:=Tryz.zeroValue147
 g1:=by kernel_rfl }
open Go.RowKit Go.Lib in
theorem Tryz.strings_Cut (s sep:ByteArray) (m:Int) (w:World) (hs:s.size<4294967281) (hm:w.cell? ⟨1,0,none⟩=some (.int .i64 m)) :
   Calls Tryz.prog 30 #[.string s, .string sep] w fun e w'=>e = .returned (.tuple #[.string ⟨(Lib.cut s.data.toList sep.data.toList).1.toArray⟩, .string ⟨(Lib.cut s.data.toList sep.data.toList).2.1.toArray⟩, .bool (Lib.cut s.data.toList sep.data.toList).2.2])/\∃ n,w'=w.drewN n:=Any.strings_Cut Tryz.Vz s sep m w hs hm
def Tryz.GF:Go.Shelf.Ren:=⟨fun | 145=>30 | 220=>57 | 219=>80 | 217=>107 | 225=>108 | 224=>109 | 267=>110 | 266=>131 | 314=>132 | n=>n,fun | 9=>9 | 4=>4 | 59=>64 | 3=>3 | 5=>5 | 46=>92 | 146=>147 | 51=>116 | n=>n,fun | 1=>1 | n=>n⟩
theorem Tryz.SM:Go.Proofs.LaysM.n145 Tryz.prog Tryz.GF:={
 mixed:=by kernel_rfl
 f145:=Tryz.func30.trans (congrArg some (by kernel_rfl))
 f217:=Tryz.func107.trans (congrArg some (by kernel_rfl))
 f219:=Tryz.func80.trans (congrArg some (by kernel_rfl))
 f220:=Tryz.func57.trans (congrArg some (by kernel_rfl))
 f224:=Tryz.func109.trans (congrArg some (by kernel_rfl))
 f225:=Tryz.func108.trans (congrArg some (by kernel_rfl))
 f266:=Tryz.func131.trans (congrArg some (by kernel_rfl))
 f267:=Tryz.func110.trans (congrArg some (by kernel_rfl))
 f314:=Tryz.func132.trans (congrArg some (by kernel_rfl))
 t3:=Tryz.underlying3
 a3:=Tryz.isAgg3
 z3:=Tryz.sizeOf3
 v3:=Tryz.zeroValue3
 t4:=Tryz.underlying4
 a4:=Tryz.isAgg4
 z4:=Tryz.sizeOf4
 v4:=Tryz.zeroValue4
 t5:=Tryz.underlying5
 a5:=Tryz.isAgg5
 z5:=Tryz.sizeOf5
 v5:=Tryz.zeroValue5
 t9:=Tryz.underlying9
 a9:=Tryz.isAgg9
 z9:=Tryz.sizeOf9
 v9:=Tryz.zeroValue9
 t46:=Tryz.underlying92
 a46:=Tryz.isAgg92
 z46:=Tryz.sizeOf92
 v46:=Tryz.zeroValue92
 t51:=Tryz.underlying116
 a51:=Tryz.isAgg116
 z51:=Tryz.sizeOf116
 v51:=Tryz.zeroValue116
 t59:=Tryz.underlying64
 a59:=Tryz.isAgg64
 z59:=Tryz.sizeOf64
 v59:=Tryz.zeroValue64
 t146:=Tryz.underlying147
 a146:=Tryz.isAgg147
 z146:=Tryz.sizeOf147
 v146:=Tryz.zeroValue147
 g1:=by kernel_rfl
 i3:=by kernel_rfl
 i4:=by kernel_rfl
 i5:=by kernel_rfl
 i9:=by kernel_rfl
 i46:=by kernel_rfl
 i51:=by kernel_rfl
 i59:=by kernel_rfl
 i146:=by kernel_rfl
 m1:=by kernel_rfl
 s1_3:=fun w h=>Go.Proofs.cell_of_shapedOpen_int (zero := #[.int .i64 0]) (t:=3) h (of_decide_eq_true (by kernel_rfl)) (by kernel_rfl) rfl (by kernel_rfl) (by kernel_rfl) Tryz.underlying3 }
def Tryz.Jy:Go.Shelf.Ren:=⟨fun | 190=>31 | 125=>59 | 258=>58 | 128=>90 | 129=>91 | 302=>81 | 303=>82 | 304=>83 | 305=>84 | 306=>85 | 307=>86 | 308=>87 | 309=>88 | 310=>89 | 333=>111 | 329=>112 | 330=>113 | 334=>114 | 335=>115 | 336=>116 | 344=>133 | n=>n,fun | 31=>22 | 9=>9 | 3=>3 | 46=>92 | 0=>0 | 51=>116 | 53=>118 | 4=>4 | 183=>108 | 182=>107 | 131=>113 | 5=>5 | 218=>132 | 222=>136 | 228=>149 | 229=>150 | n=>n,fun | n=>n⟩
theorem Tryz.Nk:Go.Proofs.Lays.n190 Tryz.prog Tryz.Jy:={
 mixed:=by kernel_rfl
 f125:=Tryz.func59.trans (congrArg some (by kernel_rfl))
 f128:=Tryz.func90.trans (congrArg some (by kernel_rfl))
 f129:=Tryz.func91.trans (congrArg some (by kernel_rfl))
 f190:=Tryz.func31.trans (congrArg some (by kernel_rfl))
 f258:=Tryz.func58.trans (congrArg some (by kernel_rfl))
 f302:=Tryz.func81.trans (congrArg some (by kernel_rfl))
 f303:=Tryz.func82.trans (congrArg some (by kernel_rfl))
 f304:=Tryz.func83.trans (congrArg some (by kernel_rfl))
 f305:=Tryz.func84.trans (congrArg some (by kernel_rfl))
 f306:=Tryz.func85.trans (congrArg some (by kernel_rfl))
 f307:=Tryz.func86.trans (congrArg some (by kernel_rfl))
 f308:=Tryz.func87.trans (congrArg some (by kernel_rfl))
 f309:=Tryz.func88.trans (congrArg some (by kernel_rfl))
 f310:=Tryz.func89.trans (congrArg some (by kernel_rfl))
 f329:=Tryz.func112.trans (congrArg some (by kernel_rfl))
 f330:=Tryz.func113.trans (congrArg some (by kernel_rfl))
 f333:=Tryz.func111.trans (congrArg some (by kernel_rfl))
 f334:=Tryz.func114.trans (congrArg some (by kernel_rfl))
 f335:=Tryz.func115.trans (congrArg some (by kernel_rfl))
 f336:=Tryz.func116.trans (congrArg some (by kernel_rfl))
 f344:=Tryz.func133.trans (congrArg some (by kernel_rfl))
 t0:=Tryz.underlying0
 a0:=Tryz.isAgg0
 z0:=Tryz.sizeOf0
 v0:=Tryz.zeroValue0
 t3:=Tryz.underlying3
 a3:=Tryz.isAgg3
 z3:=Tryz.sizeOf3
 v3:=Tryz.zeroValue3
 t4:=Tryz.underlying4
 a4:=Tryz.isAgg4
 z4:=Tryz.sizeOf4
 v4:=Tryz.zeroValue4
 t5:=Tryz.underlying5
 a5:=Tryz.isAgg5
 z5:=Tryz.sizeOf5
 v5:=Tryz.zeroValue5
 t9:=Tryz.underlying9
 a9:=Tryz.isAgg9
 z9:=Tryz.sizeOf9
 v9:=Tryz.zeroValue9
 t31:=Tryz.underlying22
 a31:=Tryz.isAgg22
 z31:=Tryz.sizeOf22
 v31:=Tryz.zeroValue22
 t46:=Tryz.underlying92
 a46:=Tryz.isAgg92
 z46:=Tryz.sizeOf92
 v46:=Tryz.zeroValue92
 t51:=Tryz.underlying116
 a51:=Tryz.isAgg116
 z51:=Tryz.sizeOf116
 v51:=Tryz.zeroValue116
 t53:=Tryz.underlying118
 a53:=Tryz.isAgg118
 z53:=Tryz.sizeOf118
 v53:=Tryz.zeroValue118
 t131:=Tryz.underlying113
 a131:=Tryz.isAgg113
 z131:=Tryz.sizeOf113
 v131:=Tryz.zeroValue113
 t182:=Tryz.underlying107
 a182:=Tryz.isAgg107
 z182:=Tryz.sizeOf107
 v182:=Tryz.zeroValue107
 t183:=Tryz.underlying108
 a183:=Tryz.isAgg108
 z183:=Tryz.sizeOf108
 v183:=Tryz.zeroValue108
 t218:=Tryz.underlying132
 a218:=Tryz.isAgg132
 z218:=Tryz.sizeOf132
 v218:=Tryz.zeroValue132
 t222:=Tryz.underlying136
 a222:=Tryz.isAgg136
 z222:=Tryz.sizeOf136
 v222:=Tryz.zeroValue136
 t228:=Tryz.underlying149
 a228:=Tryz.isAgg149
 z228:=Tryz.sizeOf149
 v228:=Tryz.zeroValue149
 t229:=Tryz.underlying150
 a229:=Tryz.isAgg150
 z229:=Tryz.sizeOf150
 v229:=Tryz.zeroValue150 }
open Go.Sort Go.RowKit in
theorem Tryz.slices_Sort_string (blk off cap:Nat) (ss:List (List UInt8)) (w:World) (hH:Holds encStr w blk off ss.toArray) (VA:blk<w.heap.size) (hsz:ss.length<4611686018427387904) :
   Calls Tryz.prog 31 #[.slice (some ⟨blk,off,none⟩) ss.length cap] w fun e w' =>
     e = .returned (.tuple #[])/\∃ n os,w'=grow (putRow encStr (Sort.ahead w n) blk off (ss.mergeSort fun x y=>decide (x<=y)).toArray) os:=Any.slices_Sort_string Tryz.Nk blk off cap ss w hH VA hsz
def Tryz.ui:Go.Shelf.Ren:=⟨fun | 105=>130 | 212=>153 | 99=>154 | 165=>155 | 166=>151 | 170=>156 | 169=>152 | 263=>174 | 264=>175 | 206=>176 | 240=>171 | 241=>177 | 276=>197 | 277=>202 | n=>n,fun | 9=>9 | 3=>3 | 4=>4 | 20=>20 | 0=>0 | 46=>92 | 109=>175 | 5=>5 | 72=>164 | 76=>172 | 51=>116 | 146=>147 | 53=>118 | 148=>189 | 70=>162 | 37=>31 | 75=>166 | 127=>187 | 164=>200 | 80=>174 | n=>n,fun | n=>n⟩
theorem Tryz.Bb:Go.Proofs.Lays.n105 Tryz.prog Tryz.ui:={
 mixed:=by kernel_rfl
 f99:=Tryz.func154.trans (congrArg some (by kernel_rfl))
 f105:=Tryz.func130.trans (congrArg some (by kernel_rfl))
 f165:=Tryz.func155.trans (congrArg some (by kernel_rfl))
 f166:=Tryz.func151.trans (congrArg some (by kernel_rfl))
 f169:=Tryz.func152.trans (congrArg some (by kernel_rfl))
 f170:=Tryz.func156.trans (congrArg some (by kernel_rfl))
 f206:=Tryz.func176.trans (congrArg some (by kernel_rfl))
 f212:=Tryz.func153.trans (congrArg some (by kernel_rfl))
 f240:=Tryz.func171.trans (congrArg some (by kernel_rfl))
 f241:=Tryz.func177.trans (congrArg some (by kernel_rfl))
 f263:=Tryz.func174.trans (congrArg some (by kernel_rfl))
 f264:=Tryz.func175.trans (congrArg some (by kernel_rfl))
 f276:=Tryz.func197.trans (congrArg some (by kernel_rfl))
 f277:=Tryz.func202.trans (congrArg some (by kernel_rfl))
 t0:=Tryz.underlying0
 a0:=Tryz.isAgg0
 z0:=Tryz.sizeOf0
 v0:=Tryz.zeroValue0
 t3:=Tryz.underlying3
 a3:=Tryz.isAgg3
 z3:=Tryz.sizeOf3
 v3:=Tryz.zeroValue3
 t4:=Tryz.underlying4
 a4:=Tryz.isAgg4
 z4:=Tryz.sizeOf4
 v4:=Tryz.zeroValue4
 t5:=Tryz.underlying5
 a5:=Tryz.isAgg5
 z5:=Tryz.sizeOf5
 v5:=Tryz.zeroValue5
 t9:=Tryz.underlying9
 a9:=Tryz.isAgg9
 z9:=Tryz.sizeOf9
 v9:=Tryz.zeroValue9
 t20:=Tryz.underlying20
 a20:=Tryz.isAgg20
 z20:=Tryz.sizeOf20
 v20:=Tryz.zeroValue20
 t37:=Tryz.underlying31
 a37:=Tryz.isAgg31
 z37:=Tryz.sizeOf31
 v37:=Tryz.zeroValue31
 t46:=Tryz.underlying92
 a46:=Tryz.isAgg92
 z46:=Tryz.sizeOf92
 v46:=Tryz.zeroValue92
 t51:=Tryz.underlying116
 a51:=Tryz.isAgg116
 z51:=Tryz.sizeOf116
 v51:=Tryz.zeroValue116
 t53:=Tryz.underlying118
 a53:=Tryz.isAgg118
 z53:=Tryz.sizeOf118
 v53:=Tryz.zeroValue118
 t70:=Tryz.underlying162
 a70:=Tryz.isAgg162
 z70:=Tryz.sizeOf162
 v70:=Tryz.zeroValue162
 t72:=Tryz.underlying164
 a72:=Tryz.isAgg164
 z72:=Tryz.sizeOf164
 v72:=Tryz.zeroValue164
 t75:=Tryz.underlying166
 a75:=Tryz.isAgg166
 z75:=Tryz.sizeOf166
 v75:=Tryz.zeroValue166
 t76:=Tryz.underlying172
 a76:=Tryz.isAgg172
 z76:=Tryz.sizeOf172
 v76:=Tryz.zeroValue172
 t109:=Tryz.underlying175
 a109:=Tryz.isAgg175
 z109:=Tryz.sizeOf175
 v109:=Tryz.zeroValue175
 t127:=Tryz.underlying187
 a127:=Tryz.isAgg187
 z127:=Tryz.sizeOf187
 v127:=Tryz.zeroValue187
 t146:=Tryz.underlying147
 a146:=Tryz.isAgg147
 z146:=Tryz.sizeOf147
 v146:=Tryz.zeroValue147
 t148:=Tryz.underlying189
 a148:=Tryz.isAgg189
 z148:=Tryz.sizeOf189
 v148:=Tryz.zeroValue189
 t164:=Tryz.underlying200
 a164:=Tryz.isAgg200
 z164:=Tryz.sizeOf200
 v164:=Tryz.zeroValue200 }
theorem Tryz.pJ:Builder.Extra Tryz.prog Tryz.ui:={
 sizeBuilder:=by kernel_rfl
 liesBuilder:=by kernel_rfl
 t5:=Tryz.underlying5
 a5:=Tryz.isAgg5
 z5:=Tryz.sizeOf5
 v5:=Tryz.zeroValue5
 infoByte:=by kernel_rfl
 cellsByte:=by kernel_rfl
 sizeByte:=by kernel_rfl
 neB5:=by decide }
open Go.RowKit Go.Lib in
theorem Tryz.strings_Repeat_main (s:ByteArray) (c:Nat) (w:World) (H4:2<=c) (hc:c<=9223372036854775807) (hlen:s.size*c<=140737488355328) (h0:0<s.size) :
   Calls Tryz.prog 130 #[.string s, .int .i64 c] w fun e w'=>e = .returned (.string ⟨(Lib.repeatL s.data.toList c).toArray⟩)/\Below w.heap.size w w':=Any.strings_Repeat_main Tryz.Bb Tryz.pJ s c w H4 hc hlen h0
open Go.RowKit Go.Lib in
theorem Tryz.strings_Repeat_zero (s:ByteArray) (w:World) :
   Calls Tryz.prog 130 #[.string s, .int .i64 0] w fun e w'=>e = .returned (.string ⟨#[]⟩)/\w'=w:=Any.strings_Repeat_zero Tryz.Bb s w
open Go.RowKit Go.Lib in
theorem Tryz.strings_Repeat_one (s:ByteArray) (w:World) :
   Calls Tryz.prog 130 #[.string s, .int .i64 1] w fun e w'=>e = .returned (.string s)/\w'=w:=Any.strings_Repeat_one Tryz.Bb s w
def Tryz.Jz:Go.Shelf.Ren:=⟨fun | 194=>32 | n=>n,fun | 31=>22 | 9=>9 | 3=>3 | 4=>4 | 0=>0 | n=>n,fun | n=>n⟩
theorem Tryz.Nl:Go.Proofs.Lays.n194 Tryz.prog Tryz.Jz:={
 mixed:=by kernel_rfl
 f194:=Tryz.func32.trans (congrArg some (by kernel_rfl))
 t0:=Tryz.underlying0
 a0:=Tryz.isAgg0
 z0:=Tryz.sizeOf0
 v0:=Tryz.zeroValue0
 t3:=Tryz.underlying3
 a3:=Tryz.isAgg3
 z3:=Tryz.sizeOf3
 v3:=Tryz.zeroValue3
 t4:=Tryz.underlying4
 a4:=Tryz.isAgg4
 z4:=Tryz.sizeOf4
 v4:=Tryz.zeroValue4
 t9:=Tryz.underlying9
 a9:=Tryz.isAgg9
 z9:=Tryz.sizeOf9
 v9:=Tryz.zeroValue9
 t31:=Tryz.underlying22
 a31:=Tryz.isAgg22
 z31:=Tryz.sizeOf22
 v31:=Tryz.zeroValue22 }
open Go.RowKit Go.Lib Go.Sort in
theorem Tryz.slices_Compact_string (blk off cap:Nat) (zs:List (List UInt8)) (w:World) (hH:Holds encStr w blk off zs.toArray) (hsz:zs.length<=9223372036854775807) (Bn:zs.length<=cap) :
   Calls Tryz.prog 32 #[.slice (some ⟨blk,off,none⟩) zs.length cap] w fun e w'=>e = .returned (.slice (some ⟨blk,off,none⟩) (Lib.compact zs).length cap)/\∃ q,w'=putRow encStr (Sort.ahead w q) blk off (Lib.compact zs++List.replicate (zs.length-(Lib.compact zs).length) []).toArray:=Any.slices_Compact_string Tryz.Nl blk off cap zs w hH hsz Bn
open Go.RowKit Go.Lib Go.Sort in
theorem Tryz.slices_Compact_string_empty (a:Option Addr) (cap:Nat) (w:World) :
   Calls Tryz.prog 32 #[.slice a 0 cap] w fun e w'=>e = .returned (.slice a 0 cap)/\w'=w:=Any.slices_Compact_string_empty Tryz.Nl a cap w
open Go.RowKit Go.Sort in
theorem Tryz.slices_Sort_string_none (p:Option Addr) (cap:Nat) (w:World) :
   Calls Tryz.prog 31 #[.slice p 0 cap] w fun e w'=>e = .returned (.tuple #[])/\w'=w:=Any.slices_Sort_string_none Tryz.Nk p cap w
end
section
open Go.RowKit Go.Shelf Go.Sort Go.Lib
def Tryz.vG (w:World):Prop:=∀ i,i<20->w.cell? ⟨2,i,none⟩=some (.int .u64 ((10 ^ i:Nat):Int))
set_option maxHeartbeats 2000000 in
set_option maxRecDepth 100000 in
theorem Tryz.JA (u:Nat) (h1:1<=u) (h2:u<18446744073709551616) (w:World) (hc:Tryz.vG w) :
   Calls Tryz.prog 199 #[.int .u64 u] w fun e w'=>e = .returned (.int .i64 (Lib.nDigits u))/\w'=w:=by
 obtain ⟨AW,h19⟩:=Lib.numDigits_eq u h1 h2
 have hL:Lib.bitLen u<=64:=Lib.bitLen_le u 64 (Nat.le_refl _) h2
 have hcell:=hc (Lib.l10 (Lib.bitLen u)) (by omega)
 have hto:((u:Int)).toNat=u:=by omega
 generalize hq:Lib.l10 (Lib.bitLen u)=q at AW h19 hcell
 generalize hT:10 ^ q=T at AW hcell
 have h20:q<20:=by omega
 have Hnd:=Lib.hid AW
 clear AW hc
 go_enter Tryz.func199,Tryz.ntmps199
 go_wp2_with (first
   | (go_at_call 91;refine (Tryz.bits_Len64 _ _ (by omega) (by omega)).mono ?_;rintro e w' ⟨rfl,rfl⟩)
   | (go_at_call 209;refine (Tryz.internal_strconv_log10Pow2 _ (by first | exact hL | (rw [hto];exact hL)) _).mono ?_;rintro e w' ⟨rfl,rfl⟩)
   | (go_at_call 210;refine (Tryz.internal_strconv_bool2_int _ _).mono ?_;rintro e w' ⟨rfl,rfl⟩))
 all_goals go_ret
 all_goals (
   refine ⟨?_,rfl⟩
   have AW:=Hnd.out
   congr 2
   split at AW<;>simp_all<;>omega)
theorem Tryz.vG.alloc {w:World} (h:Tryz.vG w) (o:Obj):Tryz.vG (w.alloc o):=fun i hi=>by
 have h1:=h i hi
 have hb:2<w.heap.size:=World.block_lt_of_cell? _ _ h1
 exact (World.cell?_of_block (a:=⟨2,i,none⟩) (Below.heap_alloc w o 2 hb)).trans h1
theorem Lib.SN (w:World) (o:Obj) (dk:Array UInt8) (k:Nat):∃ os,(putRow (fun (b:UInt8)=>Value.int .u8 (b.toNat:Int)) (w.alloc o) w.heap.size 0 dk).drewN k=grow (w.drewN k) os:=by
 rw [alloc_eq_grow]
 obtain ⟨os',_,e⟩:=putRow_grow_new (fun (b:UInt8)=>Value.int .u8 (b.toNat:Int)) w #[o] w.heap.size 0 dk (Nat.le_refl _)
 exact ⟨os',by rw [e];rfl⟩
set_option maxHeartbeats 4000000 in
set_option maxRecDepth 100000 in
theorem Tryz.GG (u:Nat) (Li:u<18446744073709551616) (w:World) (hc:Tryz.vG w) :
   Calls Tryz.prog 173 #[.int .u64 u, .int .i64 10] w fun e w'=>e = .returned (.string ⟨(Lib.decDigits u).toArray⟩)/\Below w.heap.size w w':=by
 by_cases hs:u<100
 . go_enter Tryz.func173,Tryz.ntmps173
   go_wp2_with (go_at_call 198;refine (Tryz.internal_strconv_small u hs _).mono ?_;rintro e w' ⟨rfl,rfl⟩)
   go_ret
   exact ⟨rfl,Below.refl _ _⟩
 . have TB:1<=u:=by omega
   have ahq:Lib.nDigits u<=20:=by have:=Lib.numDigits_eq u TB Li;split at this<;>omega
   have GN:Tryz.prog.arrayLen 203=24:=by kernel_rfl
   have vP:∀ W,(Instr.sliceAt 203 (.pointer (some ⟨w.heap.size,0,none⟩)) none (some (.int .i64 (Lib.nDigits u:Int))) none).run Tryz.prog W = .ok (.slice (some ⟨w.heap.size,0,none⟩) (Lib.nDigits u) 24) W:=fun W=>by
     rw [run_sliceAt_array_h W 203 ⟨w.heap.size,0,none⟩ (by kernel_rfl) .i64 (Lib.nDigits u:Int) (by omega) (by rw [GN];omega)]
     go_simp
   have hH0:=Lib.holds_zero0 w 203 (Lib.nDigits u) (by omega)
   have ab3:=Tryz.internal_strconv_formatBase10 w.heap.size 0 24 u (Array.replicate (Lib.nDigits u) 0) (w.alloc (.cells Lib.zeros24 203)) hH0 (by rw [Array.size_replicate];exact Lib.lt_pow_nDigits u) Li (by rw [Array.size_replicate];omega)
   rw [Array.size_replicate] at ab3
   have HH0:=Lib.hid hH0
   have H4:=hc.alloc (.cells Lib.zeros24 203)
   clear hH0 GN
   go_enter Tryz.func173,Tryz.ntmps173
   go_wp2_with (first
     | (go_at_call 199;refine (Tryz.JA u TB Li _ H4).mono ?_;rintro e w' ⟨rfl,rfl⟩))
   refine ab3.mono ?_
   rintro e w' ⟨rfl,k,v',dk,rfl,hF⟩
   have hcv:(convert 31 9 (.slice (some ⟨w.heap.size,0,none⟩) (Lib.nDigits u) 24)).run Tryz.prog ((putRow (fun (b:UInt8)=>Value.int .u8 (b.toNat:Int)) (w.alloc (.cells Lib.zeros24 203)) w.heap.size 0 dk).drewN k) = .ok (.string ⟨(Lib.decDigits u).toArray⟩) ((putRow (fun (b:UInt8)=>Value.int .u8 (b.toNat:Int)) (w.alloc (.cells Lib.zeros24 203)) w.heap.size 0 dk).drewN k):=by
     have h:=run_convert_bytes_back (P:=Tryz.prog) ((putRow (fun (b:UInt8)=>Value.int .u8 (b.toNat:Int)) (w.alloc (.cells Lib.zeros24 203)) w.heap.size 0 dk).drewN k) 31 9 5 ⟨w.heap.size,0,none⟩ 24 (Lib.decDigits u) Tryz.underlying31 Tryz.underlying5 Tryz.underlying9 (fun j hj=>by
       rw [Lib.row_is_numeral hF j hj,Lib.add_plain,World.cell?_drewN]
       exact cell?_putRow (fun (b:UInt8)=>Value.int .u8 (b.toNat:Int)) _ w.heap.size 0 _ dk HH0.out (by rw [hF.size,Array.size_replicate]) j (by rw [hF.size];rw [Lib.decDigits_length] at hj;exact hj))
     rw [Lib.decDigits_length] at h
     exact h
   go_wp2
   go_ret
   obtain ⟨os,eo⟩:=Lib.SN w (.cells Lib.zeros24 203) dk k
   refine ⟨rfl, ?_⟩
   rw [eo]
   exact Lib.below_grow _ w (Nat.le_refl _) k os
set_option maxRecDepth 100000 in
theorem Tryz.CT (u:Nat) (Li:u<18446744073709551616) (w:World) (hc:Tryz.vG w) :
   Calls Tryz.prog 150 #[.int .u64 u, .int .i64 10] w fun e w'=>e = .returned (.string ⟨(Lib.decDigits u).toArray⟩)/\Below w.heap.size w w':=by
 go_enter Tryz.func150,Tryz.ntmps150
 go_wp2_with (go_at_call 173;refine (Tryz.GG u Li _ hc).mono ?_;rintro e w' ⟨rfl,hB⟩)
 go_ret
 exact ⟨rfl,hB⟩
end
section
open Go.RowKit Go.Shelf
attribute [local go_sem] Oper.semAt_some
def Tryz.upto {α : Type} (f:Nat -> α) (k:Nat):List α := (List.range k).map f
theorem Tryz.nQ {α : Type} (f:Nat -> α) (k:Nat):Tryz.upto f (k+1)=Tryz.upto f k++[f k]:=by simp [Tryz.upto,List.range_succ]
theorem Tryz.Ak {α : Type} (f:Nat -> α) (k:Nat):(Tryz.upto f k).length=k:=by simp [Tryz.upto]
def Tryz.bw (zs:List Int) (k:Nat):Int × Int:=((zs.length:Int)-1-k,zs[zs.length-1-k]?.getD 0)
def Tryz.BK (n₀ Bs:Nat) (A B:World):Prop:=Below n₀ A B/\B.cell? ⟨Bs,0,none⟩=A.cell? ⟨Bs,0,none⟩
theorem Tryz.BK.refl (n₀ Bs:Nat) (A:World):Tryz.BK n₀ Bs A A:=⟨Below.refl _ _,rfl⟩
theorem Tryz.BK.trans {n₀ Bs:Nat} {A B C:World} (h:Tryz.BK n₀ Bs A B) (k:Tryz.BK n₀ Bs B C):Tryz.BK n₀ Bs A C:=⟨h.1.trans k.1,k.2.trans h.2⟩
set_option maxRecDepth 100000 in
set_option maxHeartbeats 2000000 in
theorem Tryz.Y3 (F:Fence) (n:Nat) (h8:F.fn 172) (JB:F.round=none) (hn:1<=n) (l Bs n₀ b off cap:Nat) (zs:List Int) (wE:zs.length*8<=140737488351232) (hb:b<n₀) (J Jx:List (Int × Int)->World->Prop)
   (hY:∀ pre x W,J pre W->pre.length<zs.length->YieldAt F (n-1) Tryz.prog l #[.int .i64 x.1, .int .u32 x.2] W fun e W' =>
     (e = .returned (.bool true)/\J (pre++[x]) W'/\Tryz.BK n₀ Bs W W')∨(e = .returned (.bool false)/\Jx (pre++[x]) W'))
   (W:World) (Y4:W.cell? ⟨Bs,0,none⟩=some (.slice (some ⟨b,off,none⟩) zs.length cap)) (hc:∀ j,j<zs.length->W.cell? ⟨b,off+j,none⟩=some (.int .u32 (zs[j]?.getD 0))) (h0:J [] W) :
   CallsIn F n Tryz.prog 172 #[.func (.yield l) #[] #[], .pointer (some ⟨Bs,0,none⟩)] W fun e W'=>(∃ v,e = .returned v) /\
     ((∃ ys,ys=Tryz.upto (Tryz.bw zs) zs.length/\J ys W')∨(∃ pre,(∃ k,k<=zs.length/\pre=Tryz.upto (Tryz.bw zs) k)/\Jx pre W')):=by
 refine callsIn_of_wp Tryz.func172 rfl h8 ?_ JB
 simp only [Tryz.ntmps172,List.size_toArray,List.length_cons,List.length_nil,Nat.reduceAdd,Nat.reduceSub,Array.replicate_succ,Array.replicate_zero,List.push_toArray,List.append_toArray,List.nil_append,List.cons_append]
 gi_wp2
 gi_loopw [3] (fun i wr=>∃ k:Nat,k<=zs.length/\i = .int .i64 ((zs.length:Int)-1-k)/\J (Tryz.upto (Tryz.bw zs) k) wr/\Tryz.BK n₀ Bs W wr)
   (fun i _=>(intOf i+1).toNat)
 case atStart=>exact ⟨0,Nat.zero_le _,by simp,h0,Tryz.BK.refl _ _ _⟩
 case round =>
   obtain ⟨k,hk,rfl,Y5,Y6⟩:=hrel
   have hBk:=Y6.2.trans Y4
   have Lw:∀ j,j<zs.length->wr.cell? ⟨b,off+j,none⟩=some (.int .u32 (zs[j]?.getD 0)):=fun j h=>(Y6.1.cell (p:=⟨b,off+j,none⟩) hb).trans (hc j h)
   by_cases hlt:k<zs.length
   . obtain ⟨q,hq⟩:∃ q,q=zs.length-1-k:=⟨_,rfl⟩
     have TJ:(zs.length:Int)-1-k=q:=by omega
     have WC:q<zs.length:=by omega
     have wN:Hid (Tryz.bw zs k=((q:Int),zs[q]?.getD 0)):=by show Tryz.bw zs k=_;rw [Tryz.bw, <- hq,TJ]
     have hqk:Hid (q+1+k=zs.length):=by show q+1+k=zs.length;omega
     clear hq
     have Y7:=Lw q WC
     generalize zs[q]?.getD 0=zq at wN Y7
     obtain ⟨fn,tmps,assign,body,hy,hR⟩:=hY _ ((q:Int),zq) wr Y5 (by rw [Tryz.Ak];exact hlt)
     dsimp only at hy
     rw [TJ]
     clear TJ hY h0 hc Lw
     gi_wp2
     refine hR.mono ?_
     rintro e W3 (⟨rfl,hJ3,hk3⟩ | ⟨rfl,Y8⟩)
     . gi_wp2
       go_roundw
       case rel=>exact ⟨k+1,by omega,by have:=hqk.out;congr 1;omega,by rw [Tryz.nQ,wN.out];exact hJ3,Y6.trans hk3⟩
       case measure=>simp [intOf]
     . gi_wp2
       refine bodyPost_ret (results_none rfl _ _ _) rfl ?_
       exact ⟨⟨_,rfl⟩, .inr ⟨_,⟨k+1,by omega,by rw [Tryz.nQ,wN.out]⟩,Y8⟩⟩
   . obtain rfl:k=zs.length:=by omega
     have uS:(zs.length:Int)-1-zs.length = -1:=by omega
     rw [uS]
     gi_wp2
     go_end0
     exact ⟨⟨_,rfl⟩, .inl ⟨_,rfl,Y5⟩⟩
def Tryz.Pm (n₀:Nat) (W:World) (sv:Value) (zs:List Int):Prop :=
 (∃ a cap,sv = .slice a 0 cap/\zs=[])∨∃ b off cap,sv = .slice (some ⟨b,off,none⟩) zs.length cap/\b<n₀/\∀ j,j<zs.length->W.cell? ⟨b,off+j,none⟩=some (.int .u32 (zs[j]?.getD 0))
theorem Tryz.Pm.below {n₀:Nat} {A B:World} (h:Below n₀ A B) {sv:Value} {zs:List Int}:Tryz.Pm n₀ A sv zs->Tryz.Pm n₀ B sv zs
 | .inl e => .inl e
 | .inr ⟨b,off,cap,e,hb,hc⟩ => .inr ⟨b,off,cap,e,hb,fun j hj=>(h.cell (p:=⟨b,off+j,none⟩) hb).trans (hc j hj)⟩
set_option maxRecDepth 100000 in
set_option maxHeartbeats 1000000 in
theorem Tryz.Lj (F:Fence) (n:Nat) (h8:F.fn 172) (JB:F.round=none) (l Bs:Nat) (a:Option Addr) (cap:Nat) (J:List (Int × Int)->World->Prop) (W:World) (hBs:W.cell? ⟨Bs,0,none⟩=some (.slice a 0 cap)) (h0:J [] W) :
   CallsIn F n Tryz.prog 172 #[.func (.yield l) #[] #[], .pointer (some ⟨Bs,0,none⟩)] W fun e W'=>(∃ v,e = .returned v)/\J [] W':=by
 refine callsIn_of_wp Tryz.func172 rfl h8 ?_ JB
 simp only [Tryz.ntmps172,List.size_toArray,List.length_cons,List.length_nil,Nat.reduceAdd,Nat.reduceSub,Array.replicate_succ,Array.replicate_zero,List.push_toArray,List.append_toArray,List.nil_append,List.cons_append]
 gi_wp2
 gi_loopw [3] (fun i wr=>i = .int .i64 (-1)/\J [] wr) (fun _ _=>0)
 case atStart=>exact ⟨rfl,h0⟩
 case round =>
   obtain ⟨rfl,Y5⟩:=hrel
   gi_wp2
   go_end0
   exact ⟨⟨_,rfl⟩,Y5⟩
set_option maxHeartbeats 1000000 in
theorem Tryz.Al (F:Fence) (n:Nat) (h5:F.fn 149) (JB:F.round=none) (a:Option Addr) (len cap:Nat) (w:World) :
   CallsIn F n Tryz.prog 149 #[.slice a len cap] w fun e w'=>e = .returned (.func (.func 172) #[] #[.pointer (some ⟨w.heap.size,0,none⟩)])/\w'=w.alloc (.cells #[.slice a len cap] 57):=by
 refine callsIn_of_wp Tryz.func149 rfl h5 ?_ JB
 simp only [Tryz.ntmps149,List.size_toArray,List.length_cons,List.length_nil,Nat.reduceAdd,Nat.reduceSub,Array.replicate_succ,Array.replicate_zero,List.push_toArray,List.append_toArray,List.nil_append,List.cons_append]
 gi_wp2
 go_ret
 exact ⟨rfl,rfl⟩
theorem Tryz.SP (F:Fence) (n:Nat) (h8:F.fn 172) (JB:F.round=none) (hn:1<=n) (Bs n₀:Nat) (sv:Value) (zs:List Int) (wE:zs.length*8<=140737488351232) (w:World) (hBs:Bs<w.heap.size) (WX:n₀<=w.heap.size)
   (hc:w.cell? ⟨Bs,0,none⟩=some sv) (hI:Tryz.Pm n₀ w sv zs) :
   SeqStopsK F n Tryz.prog 172 #[.pointer (some ⟨Bs,0,none⟩)] (fun x:Int × Int => #[Value.int .i64 x.1,Value.int .u32 x.2]) (Tryz.BK n₀ Bs) (fun ys=>ys=Tryz.upto (Tryz.bw zs) zs.length)
     (fun pre=>∃ k,k<=zs.length/\pre=Tryz.upto (Tryz.bw zs) k) zs.length w:=fun l J Jx W hW _ _ hY h0=>by
 have hc':=(hW.cell (p:=⟨Bs,0,none⟩) hBs).trans hc
 rcases hI.below (hW.mono WX) with ⟨a,cap,rfl,rfl⟩ | ⟨b,off,cap,rfl,hb,hcs⟩
 . exact (Tryz.Lj F n h8 JB l Bs a cap J W hc' h0).mono fun e W' ⟨he,hj⟩=>⟨he, .inl ⟨_,rfl,hj⟩⟩
 . exact Tryz.Y3 F n h8 JB hn l Bs n₀ b off cap zs wE hb J Jx hY W hc' hcs h0
def Tryz.CU (s v:Int):Int:=bits BinOp.or IntKind.u64 (IntKind.u64.wrap (s*4294967296)) (IntKind.u64.wrap v)
def Tryz.toU (l:List (Int × Int)):Int:=l.foldl (fun s x=>Tryz.CU s x.2) 0
theorem Tryz.toU_snoc (pre:List (Int × Int)) (x:Int × Int):Tryz.toU (pre++[x])=Tryz.CU (Tryz.toU pre) x.2:=by simp [Tryz.toU]
set_option maxRecDepth 100000 in
set_option maxHeartbeats 2000000 in
theorem Tryz.toUint_in (F:Fence) (n:Nat) (h3:F.fn 165) (h6:F.fn 149) (h8:F.fn 172) (JB:F.round=none) (hn:3<=n) (a:Option Addr) (len cap:Nat) (zs:List Int) (wE:zs.length*8<=140737488351232) (w:World) (hI:Tryz.Pm w.heap.size w (.slice a len cap) zs) :
   CallsIn F n Tryz.prog 165 #[.slice a len cap] w fun e W'=>e = .returned (.int .u64 (Tryz.toU (Tryz.upto (Tryz.bw zs) zs.length)))/\Below w.heap.size w W':=by
 have h1:1<=n:=by omega
 refine callsIn_of_wp_marks Tryz.func165 rfl h3 ?_ JB
 simp only [Tryz.ntmps165,List.size_toArray,List.length_cons,List.length_nil,Nat.reduceAdd,Nat.reduceSub,Array.replicate_succ,Array.replicate_zero,List.push_toArray,List.append_toArray,List.nil_append,List.cons_append]
 gi_wp2_with (gi_at_call 149;refine (Tryz.Al F (n-1) h6 JB _ _ _ _).mono ?_;rintro e w' ⟨rfl,rfl⟩)
 have bS:=Boxed.new w 118 (.int .u64 0)
 have bN:=Boxed.new (w.alloc (.cells #[.int .u64 0] 118)) 57 (.slice a len cap)
 rw [World.size_alloc] at bN
 have hB0:Below w.heap.size w ((w.alloc (.cells #[.int .u64 0] 118)).alloc (.cells #[.slice a len cap] 57)):=((Below.refl _ w).alloc (Nat.le_refl _) _).alloc (by simp) _
 have aje:((w.alloc (.cells #[.int .u64 0] 118)).alloc (.cells #[.slice a len cap] 57)).heap.size=w.heap.size+2:=by simp
 refine wpIn_rangeFunc_ownG JB h1 (gf:=172) (lb := #[.pointer (some ⟨w.heap.size+1,0,none⟩)]) rfl h8 (enters_of Tryz.func172 (by kernel_rfl) rfl)
   (Tryz.SP F (n-1) h8 JB (by omega) (w.heap.size+1) w.heap.size _ zs wE _ (by simp) (by simp;omega) bN.cell (hI.below hB0)) (fun h k=>h.trans k)
   (fun W l o o' hl h h2 h3=>⟨belowK_b (w:=w) (Nat.le_refl _) W l o o' (by omega) h h2 h3,(belowK_b (w:=(w.alloc (.cells #[.int .u64 0] 118)).alloc (.cells #[.slice a len cap] 57)) (Nat.le_refl _) W l o o' hl h h2 h3).cell (p:=⟨w.heap.size+1,0,none⟩) (by simp)⟩) (Below.refl _ _) (fun _=>rfl)
   (fun pre W=>(W.cell? ⟨w.heap.size,0,none⟩=some (.int .u64 (Tryz.toU pre))/\W.frozen? ⟨w.heap.size,0,none⟩=false)/\Below w.heap.size w W)
   (fun _ _ _=>False)
   (OwnFrom.and (Own.from (fun s A B row hs hg hr=>⟨cell_kept hs.1 hg hr,(frozen_kept hs.1 hg hr).trans hs.2⟩) _) (ownFrom_below (Nat.le_refl _) (by simp;omega)))
   (fun _ _ _ _ _ hs _ _=>hs)
   ⟨⟨(bS.alloc _).cell,(bS.alloc _).frozen⟩,hB0⟩
   (fun x=>{ tmps := #[.slice a len cap,undef, .int .u64 0, .pointer (some ⟨w.heap.size,0,none⟩),undef, .int .u32 x.2, .slice a len cap, .func (.func 172) #[] #[.pointer (some ⟨w.heap.size+1,0,none⟩)], .int .i64 x.1, .int .u32 x.2,undef,undef,undef,undef,undef,undef],defers:=[] }) ?assign ?body ?done ?stop
 case assign =>
   intro l x W K hK
   gi_wp2
   exact hK
 case body =>
   rintro l pre x W ⟨⟨hc,hf⟩,hB⟩ _
   gi_wp2
   exact ⟨(KeepsOthers.setCell _ _ _).from _,⟨(Below.refl w.heap.size W).setCell (p:=⟨w.heap.size,0,none⟩) (Nat.le_refl _) _,World.cell?_of_block (a:=⟨w.heap.size+1,0,none⟩) (Below.heap_setCell _ _ _ _ (by simp))⟩,
     ⟨by rw [Tryz.toU_snoc];exact World.cell?_setCell_same' _ _ _ (by rw [hc];rfl),by rw [World.frozen?_setCell];exact hf⟩,hB.setCell (p:=⟨w.heap.size,0,none⟩) (Nat.le_refl _) _⟩
 case done =>
   rintro D ys W hD rfl ⟨⟨hc,_⟩,hB⟩ hK
   gi_wp2
   refine ⟨by simp, .inl ⟨_,_,rfl,run_takeDeferred hK, ?_⟩⟩
   exact ⟨_,results_tmp rfl _ _ _,rfl,hB.trans (belowK_b (w:=w) (Nat.le_refl _) W D _ _ (by simp at hD;omega) hK rfl rfl)⟩
 case stop =>
   rintro D c pre W _ _ h _
   exact h.elim
end
section
open Go.VL Go.RowKit
def cN (ws:List Nat):List Int:=ws.map fun w:Nat=>(w:Int)
theorem kF (ws:List Nat):(cN ws).length=ws.length:=List.length_map ..
theorem Pn (a b:Nat) (ha:a<18446744073709551616) (hb:b<18446744073709551616):bits BinOp.or IntKind.u64 (a:Int) (b:Int)=((a ||| b:Nat):Int):=by
 have h:=XI a b ha hb
 rw [Ks] at h
 simp only [Option.some.injEq,AV.int.injEq,true_and] at h
 rw [<- h];rfl
theorem Tryz.wF (r a:Nat) (hr:r<au) (ha:a<au):Tryz.CU (r:Int) (a:Int)=((au*r+a:Nat):Int):=by
 unfold Tryz.CU
 have h1:IntKind.u64.wrap ((r:Int)*4294967296)=((au*r:Nat):Int):=by rw [IntKind.wrap_u64];unfold au at *;omega
 rw [h1,bf a ha,Pn _ _ (by unfold au at *;omega) (by unfold au at *;omega)]
 have:=Nat.two_pow_add_eq_or_of_lt (i:=32) (b:=a) (by unfold au at ha;omega) r
 rw [show au=2 ^ 32 from rfl,this]
theorem Tryz.toU_digits (n:Nat) (hn:n<18446744073709551616):Tryz.toU (Tryz.upto (Tryz.bw (cN (digits n))) (cN (digits n)).length)=(n:Int):=by
 have hw:=mn n hn
 have hd:=aK n
 have hv:=aH n
 unfold ab at hw
 generalize digits n=ds at hw hd hv
 match ds,hw,hd,hv with
 | [],_,_,hv=>subst hv;rfl
 | [a],_,hd,hv =>
   have ha:=hd a (by simp)
   have e:=Tryz.wF 0 a cP ha
   simp only [val,Nat.mul_zero,Nat.add_zero] at hv
   have:(n:Int)=((au*0+a:Nat):Int):=by omega
   rw [this, <- e];rfl
 | [a,b],_,hd,hv =>
   have ha:=hd a (by simp)
   have hb:=hd b (by simp)
   have e1:=Tryz.wF 0 b cP hb
   rw [Nat.mul_zero,Nat.zero_add] at e1
   have e2:=Tryz.wF b a hb ha
   simp only [val,Nat.mul_zero,Nat.add_zero] at hv
   have:(n:Int)=((au*b+a:Nat):Int):=by omega
   rw [this, <- e2]
   show Tryz.CU (Tryz.CU 0 (b:Int)) (a:Int)=_
   have e3:Tryz.CU 0 (b:Int)=(b:Int):=e1
   rw [e3]
 | _::_::_::_,hw,_,_=>simp at hw
theorem Tryz.toUint_vp (G:Nat->Option (List AV)) (n:Nat) (hn:n<18446744073709551616):VP Tryz.prog G 165 [W n] (.int .u64 (n:Int)):=by
 refine VP.xk (r:={ val := .int .u64 (n:Int) }) (aq.tz Tryz.func165 (by kernel_rfl) (by kernel_rfl) ?_) (aS.int _ _)
 intro own E w σ vs _ hi hr
 simp only [aF] at hr
 obtain ⟨v,_,rfl,hv,rfl⟩:=hr
 have hus:us (digits n)=(cN (digits n)).map (AV.int .u32):=by simp [us,cN]
 have pM:dB σ 1 (W n)=some ((cN (digits n)).map (AV.int .u32),[]):=by rw [W,dM,hus]
 obtain ⟨a,cap,rfl,hle,pQ⟩:=Qp hi hv pM
 have hI:Tryz.Pm w.heap.size w (.slice a (cN (digits n)).length cap) (cN (digits n)):=by
   rcases pQ with h | ⟨b,o,rfl,hb,hc⟩
   . rw [h];exact .inl ⟨a,cap,rfl,rfl⟩
   . exact .inr ⟨b,o,cap,rfl,hb,hc⟩
 have hlen:(cN (digits n)).length<=2:=by rw [kF];exact mn n hn
 refine (callsIn_wide (n:=3)).1 ((Tryz.toUint_in Fence.wide 3 trivial trivial trivial rfl (by omega) a _ cap _ (by omega) w hI).mono ?_)
 rintro e W' ⟨rfl,hB⟩
 rw [Tryz.toU_digits n hn]
 exact ⟨_,rfl,hB,fun E w=>by simp only [aD]⟩
end
end Go.Proofs
namespace Go.VL
section
open Go.Lib
def zA (Y9:Nat):bA:=(.block 0 (.loop (.seq (.seq (.reg none [⟨(some 18),(.mv (.t 3)),none⟩,⟨(some 19),(.len false (.t 18)),none⟩,⟨(some 20),(.bin .gtr .int (.t 19) (.c (.int .i64 (0)))),none⟩]) (.cond (.t 20) .skip (.exit 0))) (.block 1 (.seq (.reg none [⟨(some 5),(.mv (.c (.int .u64 (0)))),none⟩]) (.seq (.seq (.reg none [⟨(some 21),(.mv (.t 3)),none⟩,⟨(some 22),(.len false (.t 21)),none⟩,⟨(some 23),(.bin .sub .int (.t 22) (.c (.int .i64 (1)))),none⟩,⟨(some 6),(.mv (.t 23)),none⟩]) (.block 2 (.loop (.seq (.seq (.reg none [⟨(some 24),(.mv (.t 6)),none⟩,⟨(some 25),(.bin .geq .int (.t 24) (.c (.int .i64 (0)))),none⟩]) (.cond (.t 25) .skip (.exit 2))) (.seq (.block 3 (.seq (.reg none [⟨(some 28),(.mv (.t 5)),none⟩,⟨(some 29),(.bin .shl .int (.t 28) (.c (.int .u64 (32)))),none⟩,⟨(some 30),(.mv (.t 3)),none⟩,⟨(some 31),(.mv (.t 6)),none⟩,⟨(some 32),(.iaddrS 1 (.t 30) (.t 31)),none⟩,⟨(some 33),(.load false 1 (.t 32)),none⟩,⟨(some 34),(.toInt .u64 (.t 33)),none⟩,⟨(some 35),(.bin .or .int (.t 29) (.t 34)),none⟩,⟨(some 5),(.mv (.t 35)),none⟩]) (.seq (.reg none [⟨(some 36),(.mv (.t 3)),none⟩,⟨(some 37),(.mv (.t 6)),none⟩,⟨(some 38),(.mv (.t 5)),none⟩,⟨(some 39),(.bin .quo .int (.t 38) (.c (.int .u64 (1000000000)))),none⟩,⟨(some 40),(.toInt .u32 (.t 39)),none⟩,⟨(some 41),(.iaddrS 1 (.t 36) (.t 37)),none⟩,⟨none,(.store 1 (.t 41) (.t 40)),none⟩]) (.reg none [⟨(some 42),(.mv (.t 5)),none⟩,⟨(some 43),(.bin .rem .int (.t 42) (.c (.int .u64 (1000000000)))),none⟩,⟨(some 5),(.mv (.t 43)),none⟩])))) (.reg none [⟨(some 26),(.mv (.t 6)),none⟩,⟨(some 27),(.bin .sub .int (.t 26) (.c (.int .i64 (1)))),none⟩,⟨(some 6),(.mv (.t 27)),none⟩])))))) (.seq (.reg none [⟨(some 44),(.mv (.t 3)),none⟩,⟨(some 45),(.call (.f Y9) [(.t 44)]),none⟩,⟨(some 3),(.mv (.t 45)),none⟩]) (.reg none [⟨(some 46),(.load false 1 (.t 4)),none⟩,⟨(some 47),(.mv (.t 5)),none⟩,⟨(some 48),(.toInt .u32 (.t 47)),none⟩,⟨(some 49),(.buildSl 1 1 (.int .u32 (0)) [(0,(.t 48))]),none⟩,⟨(some 50),(.append 1 4 (.t 46) (.t 49)),none⟩,⟨none,(.store 1 (.t 4) (.t 50)),none⟩]))))))))
def nu:List Nat->List UInt8
 | []=>[]
 | c::cs=>nu cs++pk 9 c
theorem JC (cs:List Nat) (r:Nat):nu (cs++[r])=pk 9 r++nu cs:=by
 induction cs with
 | nil=>simp [nu]
 | cons c cs ih=>simp only [List.cons_append,nu];rw [ih,List.append_assoc]
def SQ (n m:Nat) (cs:List Nat):Prop:=(m≠0->decDigits n=decDigits m++nu cs)/\(m=0->∃ fA r,cs=fA++[r]/\decDigits n=decDigits r++nu fA)
theorem SQ.step {n m:Nat} {cs:List Nat} (h:SQ n m cs) (hm:m≠0):SQ n (m/1000000000) (cs++[m%1000000000]):=by
 have h1:=h.1 hm
 constructor
 . intro hq
   have rn:10 ^ 9<=m:=by
     rcases Nat.lt_or_ge m (10 ^ 9) with e | e
     . exact absurd (Nat.div_eq_of_lt e) hq
     . exact e
   rw [JC,h1,Rr 9 rn (by decide),List.append_assoc]
 . intro hq
   have hlt:m<1000000000:=by omega
   exact ⟨cs,m%1000000000,rfl,by rw [Nat.mod_eq_of_lt hlt];exact h1⟩
def JD (ck:Nat) (cs:List Nat):AV:=if cs=[] then .nils else .osl [ck] 1 0 cs.length false
theorem take_set {ds q t:List Nat} {j x:Nat} (hj:j<ds.length):(ds.take (j+1)++q++t).set j x=ds.take j++(x::q)++t:=by
 have h1:(ds.take j).length=j:=by rw [List.length_take];omega
 obtain ⟨y,hy⟩:∃ y,ds[j]? = some y:=⟨_,List.getElem?_eq_getElem hj⟩
 have e:ds.take (j+1)=ds.take j++[y]:=by
   have:=List.take_add_one (l:=ds) (i:=j)
   rw [hy] at this;simpa using this
 rw [e,List.append_assoc,List.append_assoc,List.set_append_right _ _ (by omega),h1,Nat.sub_self]
 simp
theorem SR {ds q t:List Nat} {j a:Nat} (h:ds[j]? = some a):(ds.take (j+1)++q++t)[j]? = some a:=by
 have hj:=(List.getElem?_eq_some_iff.1 h).1
 rw [List.append_assoc,List.getElem?_append_left (by rw [List.length_take];omega),List.getElem?_take_of_lt (by omega)];exact h
theorem CV {σ : aa} {id:Id} {y v:AV} (hy:y.size=1) (hu:∀ v,y.upd 0 [v]=v) (hv:v.cells=[v]) (h : σ id=some ⟨[y],1,false⟩) (h1:v.cells.all AV.one=true):eO σ 1 (.ref id 0 0) v=some { val := .tup [],rd:=[id],up:=[(id,some ⟨[v],1,false⟩)] }:=by
 rw [dw (n:=1) (v:=v) (els:=[y]) (k:=1) h rfl (by rw [hv];rfl) (by rw [hy];exact Nat.le_refl _) h1,hv,hu]
 rfl
section
variable {P:Program} {G:Nat->Option (List AV)}
theorem Lk {f:FuncId} (h:Has P f aQ) (n:Nat) (ry:n≠0) (hn:ab n<=1000000) (p:Id) :
   aq P G f [W n] p [] { val := .osl (5::p) 1 0 (ab n) false,up:=[(5::p,some ⟨us (digits n),1,false⟩)] }:=by
 refine aq.has h ?_
 have hb:∀ (σ : aa) (p:Id),bu σ p (.buildSl 1 0 (.int .u32 0) [])=some { val := .tsl 1 [] }:=fun σ p=>Wp rfl rfl
 have hne:us (digits n)≠[]:=by
   intro e
   have:=congrArg List.length e
   rw [dD] at this
   exact ry (bC.1 this)
 have B6:∀ es:List AV,es≠[]->bn .eql .slice (.sl 1 es) .nils=some (.bool false):=fun es h=>by
   cases es with
   | nil=>exact absurd rfl h
   | cons e es=>rfl
 simp only [aQ,W,SS,Nat.reduceAdd,hb,B6 _ hne]
 rw [cY (es:=[]) dM hne (by rw [dD];show (0+ab n)*4<=_;omega) (bE (by rw [dD];show 0+ab n<=_;omega)) (y2 _)]
 simp only [SS,Nat.reduceAdd]
 rw [dD]
 refine bZ▸aW rfl fun i => ?_
 by_cases e:i=5::p
 . subst e;right;simp [aa.app,aa.put]
 . left;simp [aa.app,aa.put,e,aa.of]
def vH (n:Nat) (m:Nat) (t cs:List Nat) (ck nn:Nat):VS:=⟨[.top, .ref [0] 0 0, .top, .osl [5,5] 1 0 (ab m) false, .ref [10] 0 0]++List.replicate 69 .top,
 aa.put (aa.put (aa.put (aa.put (fun _=>none) [0] (some ⟨[IV (n:Int)],2,false⟩)) [10] (some ⟨[JD ck cs],1,false⟩)) [ck] (if cs=[] then none else some ⟨us cs,1,false⟩)) [5,5] (some ⟨us (digits m++t),1,false⟩),nn⟩
theorem SU {ft:FuncId} (MN:Has P ft dt) (n:Nat) (ry:n≠0) (hn:ab n<=1000000) {K:VS->Prop} {Q':bB->VS->Prop} {s:VS} (hs:Wk G [] s (vH n n [] [] 20 1000))
   (hK:∀ t fA r ck nn s,Wd (fA++[r])->(∀ c∈fA++[r],c<1000000000)->(fA++[r]).length<=10000000->decDigits n=decDigits r++nu fA->20<=ck->Wk G [] s (vH n 0 t (fA++[r]) ck nn)->K s) :
   sF P G [] (zA ft) (Then K Q') s:=by
 simp only [zA,yR,az]
 refine VW.mono (Q:=fun e s'=>e = .exit 0/\K s') ?_ (fun e s' h=>by obtain ⟨rfl,h⟩:=h;simp only [uz,if_true,pn];exact h)
 refine VW.bG (α := Nat × List Nat × List Nat × Nat × Nat) (fun x=>vH n x.1 x.2.1 x.2.2.1 x.2.2.2.1 x.2.2.2.2)
   (fun x=>ab x.1+x.2.1.length=ab n/\Wd x.2.1/\Wd x.2.2.1/\(∀ c∈x.2.2.1,c<1000000000)/\SQ n x.1 x.2.2.1/\20<=x.2.2.2.1/\x.2.2.2.1<x.2.2.2.2/\1000000000 ^ x.2.2.1.length*x.1<=n/\x.2.2.1.length<=2*ab n+1) (fun x=>x.1) (n,[],[],20,1000) hs ?_ ?_
 . refine ⟨by simp,by intro w hw;simp at hw,by intro w hw;simp at hw,by intro w hw;simp at hw,⟨fun _=>by simp [nu],fun h=>absurd h ry⟩,Nat.le_refl _,by simp,by simp,by simp⟩
 rintro ⟨m,t,cs,ck,nn⟩ ⟨hl,htW,hcW,WY,hI,RN,Xq,hpw,o8⟩
 simp only [] at hl htW hcW WY hI RN Xq hpw o8
 unfold vH
 by_cases h0:m=0
 . subst h0
   have d0:decide ((0:Int)<(ab 0:Int))=false:=ag (by rw [show ab 0=0 from by rw [ab,bh];rfl];decide)
   obtain ⟨fA,r,rfl,VB⟩:=hI.2 rfl
   simp only [SS,Nat.reduceAdd,d0]
   refine ⟨trivial,hK t fA r ck (nn+1000) _ hcW WY (by omega) VB RN ?_⟩
   unfold vH
   exact Wk.slots (by simp [Fg,List.replicate]) (by omega)
 have d0:decide ((0:Int)<(ab m:Int))=true:=ai (by have:ab m≠0:=fun e=>h0 (bC.1 e);omega)
 have hwm:ab m<=1000000:=by omega
 have XK:IntKind.i64.wrap ((ab m:Int)-1)=(ab m:Int)-1:=by rw [IntKind.wrap_i64];omega
 have ajg:cs.length<=2*ab n:=by
   have h1:1000000000 ^ cs.length<=n:=Nat.le_trans (Nat.le_mul_of_pos_right _ (Nat.pos_of_ne_zero h0)) hpw
   have h2:=cG n
   have h3:(2 ^ 29) ^ cs.length<=1000000000 ^ cs.length:=Nat.pow_le_pow_left (by decide) _
   rw [<- Nat.pow_mul] at h3
   have h4:au ^ ab n=2 ^ (32*ab n):=by rw [Nat.pow_mul];rfl
   rw [h4] at h2
   have h5:2 ^ (29*cs.length)<2 ^ (32*ab n):=by omega
   have:=(Nat.pow_lt_pow_iff_right (by decide:1<2)).1 h5
   omega
 simp only [SS,Nat.reduceAdd,d0,XK,az]
 generalize SV:aa.put (aa.put (aa.put (fun _=>none) [0] (some ⟨[IV (n:Int)],2,false⟩)) [10] (some ⟨[JD ck cs],1,false⟩)) [ck] (if cs=[] then none else some ⟨us cs,1,false⟩) = σb
 refine VW.bG (α := Nat × List Nat × Nat × Nat) (fun x=>⟨[.top, .ref [0] 0 0, .top, .osl [5,5] 1 0 (ab m) false, .ref [10] 0 0, .int .u64 (x.2.2.1:Int), .int .i64 ((x.1:Int)-1)]++List.replicate 67 .top,
   σb.put [5,5] (some ⟨us ((digits m).take x.1++x.2.1++t),1,false⟩),x.2.2.2⟩)
   (fun x=>x.1+x.2.1.length=ab m/\Wd x.2.1/\x.2.2.1<1000000000/\val ((digits m).drop x.1)=val x.2.1*1000000000+x.2.2.1/\nn<=x.2.2.2) (fun x=>x.1) (ab m,[],0,nn+1000) ?_ ?_ ?_
 . rw [List.append_nil,List.take_of_length_le (show (digits m).length<=ab m from Nat.le_refl _)]
   exact Wk.slots (by simp [Fg,List.replicate]) (by simp only [];omega)
 . refine ⟨by simp,by intro w hw;simp at hw,(by decide:(0:Nat)<1000000000), ?_,by simp only [];omega⟩
   show val ((digits m).drop (ab m))=_
   rw [List.drop_eq_nil_of_le (show (digits m).length<=ab m from Nat.le_refl _)];simp [val]
 rintro ⟨k,q,r,n2⟩ ⟨hk,hqW,hr,hv,Qd⟩
 simp only [] at hk hqW hr hv Qd
 by_cases J3:k=0
 . subst J3
   have dk:decide ((0:Int)<=((0:Nat):Int)-1)=false:=by decide
   have GZ:m/1000000000=val q/\m%1000000000=r:=by
     rw [List.drop_zero,aH] at hv
     exact (Nat.div_mod_unique (by decide)).2 ⟨by rw [hv];omega,hr⟩
   have Yc:=Ck (G:=G) MN (id:=[5,5]) (a:=[]) (b:=q) (t:=t) hqW (by omega)
   rw [show q.length=ab m by omega, <- GZ.1] at Yc
   simp only [List.length_nil,List.nil_append] at Yc
   obtain ⟨z,hz⟩:=trimmed q hqW
   have fr:IntKind.u32.wrap (r:Int)=(r:Int):=by rw [sK,Nat.mod_eq_of_lt (by unfold au;omega)]
   have sE:∀ (σ : aa) (q:Id),bu σ q (.buildSl 1 1 (.int .u32 0) [(0, .int .u32 (r:Int))])=some { val := .osl q 1 0 1 false,up:=[(q,some ⟨us [r],1,false⟩)] }:=fun σ q=>xE
   have Nn:∀ y,fX (σb.put [5,5] y) false 1 (.ref [10] 0 0)=some { val:=JD ck cs,rd:=[[10]] }:=fun y=>by
     rw [ay (by decide), <- SV,ay (by intro h;simp at h;omega),ak]
     simp only [JD];split<;>rfl
   have VA:us (q++t)=us (digits (m/1000000000)++(zs z++t)):=by
     rw [GZ.1]
     conv=>lhs;rw [hz]
     simp
   have hIn:=hI.step h0
   rw [GZ.2] at hIn
   have C6:r<au:=by unfold au;omega
   have qv:∀ n3 ck',nn<=n3->20<=ck'->ck'<n3->ab (m/1000000000)+(zs z++t).length=ab n/\Wd (zs z++t)/\Wd (cs++[r])/\(∀ c∈cs++[r],c<1000000000)/\SQ n (m/1000000000) (cs++[r])/\20<=ck'/\ck'<n3/\1000000000 ^ (cs++[r]).length*(m/1000000000)<=n/\(cs++[r]).length<=2*ab n+1:=by
     intro n3 ck' h1 h2 h3
     have V0:=congrArg List.length hz
     rw [List.length_append, <- GZ.1] at V0
     have ajh:q.length=ab (m/1000000000)+(zs z).length:=V0
     refine ⟨by rw [List.length_append];omega,cw (QT _) htW,cw hcW (by intro w hw;simp at hw;subst hw;exact C6), ?_,hIn,h2,h3, ?_,by rw [List.length_append];simp;omega⟩
     . intro c hc
       rcases List.mem_append.1 hc with h | h
       . exact WY c h
       . simp at h;subst h;exact hr
     . rw [List.length_append]
       simp only [List.length_singleton,Nat.pow_succ]
       have:=Nat.mul_div_le m 1000000000
       have h4:1000000000 ^ cs.length*(1000000000*(m/1000000000))<=1000000000 ^ cs.length*m:=Nat.mul_le_mul_left _ this
       rw [<- Nat.mul_assoc] at h4;omega
   have hlt:m/1000000000<m:=Nat.div_lt_self (Nat.pos_of_ne_zero h0) (by decide)
   simp only [SS,Nat.reduceAdd,dk,List.take_zero]
   refine ⟨[([5,5],⟨us (q++t),1,false⟩)],_,Yc _,by simp [aa.put],by simp, ?_⟩
   have TK:∀ y,(σb.put [5,5] y) [10]=some ⟨[JD ck cs],1,false⟩:=fun y=>by rw [<- SV];simp [aa.put];intro h;omega
   have ab6:JD (n2+2+3+4) (cs++[r]) = .osl [n2+2+3+4] 1 0 (cs.length+1) false:=by unfold JD;rw [if_neg (by simp)];simp
   have e1:([10]:List Nat)≠[n2+2+3+3]:=by intro h;simp at h;omega
   have e2:([10]:List Nat)≠[n2+2+3+4]:=by intro h;simp at h;omega
   have e3:([0]:List Nat)≠[n2+2+3+3]:=by intro h;simp at h
   have e4:([0]:List Nat)≠[n2+2+3+4]:=by intro h;simp at h
   have e5:([0]:List Nat)≠[ck]:=by intro h;simp at h;omega
   have e6:([10]:List Nat)≠[ck]:=by intro h;simp at h;omega
   have e7:([ck]:List Nat)≠[n2+2+3+3]:=by intro h;simp at h;omega
   have e8:([ck]:List Nat)≠[n2+2+3+4]:=by intro h;simp at h;omega
   have Jh : ¬ cs++[r]=[]:=by simp
   by_cases hcs:cs=[]
   . subst hcs
     have hcn:JD ck [] = .nils:=by simp [JD]
     have yD:∀ (σ : aa) (p q:Id),bQ (σ.put q (some ⟨us [r],1,false⟩)) p 1 4 .nils (.osl q 1 0 1 false)=some { val := .osl p 1 0 1 false,rd:=[q],up:=[(p,some ⟨us [r],1,false⟩)] }:=fun σ p q =>
       nF (x := .osl q 1 0 1 false) (ys:=us [r]) (dY (bk:=⟨us [r],1,false⟩) (aa.a6 _ _ _) rfl (by simp [dD])) (by simp [us]) (by simp [us]) (bE (by simp [us])) (y2 _)
     rw [hcn] at Nn TK
     simp only [SS,Nat.reduceAdd,fr,Nn,sE,yD]
     rw [CV (y := .nils) (by rfl) (by intro v;rfl) rfl (by rw [aa.bb _ _ _ e2];first | (rw [aa.bb _ _ _ e1];exact TK _) | (rw [aa.bb _ _ _ e6,aa.bb _ _ _ e1];exact TK _)) (by rfl)]
     simp only [SS,Nat.reduceAdd]
     refine ⟨(m/1000000000,zs z++t,[]++[r],n2+2+3+4,n2+1000),qv (n2+1000) (n2+2+3+4) (by omega) (by omega) (by omega),hlt,Wk.forget (by simp [Fg]) (fun i => ?_) (by simp only [];omega)⟩
     simp only [ab6,if_neg Jh,VA]
     simp only [aa.put]
     by_cases i1:i=[5,5]
     . subst i1;right;simp
     . by_cases i2:i=[n2+2+3+4]
       . subst i2;right;simp [e2.symm]
       . by_cases i3:i=[10]
         . subst i3;right;simp [e2]
         . by_cases i4:i=[0]
           . subst i4;right;simp [e3,e4,e5, <- SV,aa.put]
           . left;simp [i1,i2,i3,i4]
   . have yD:∀ (p q:Id) (y:Option a8),q≠[ck]->bQ ((σb.put [5,5] y).put q (some ⟨us [r],1,false⟩)) p 1 4 (.osl [ck] 1 0 cs.length false) (.osl q 1 0 1 false)=some { val := .osl p 1 0 (cs.length+1) false,rd:=[[ck],q],up:=[([ck],none),(p,some ⟨us (cs++[r]),1,false⟩)] }:=fun p q y hq =>
       vY hq rfl (by omega) (by rw [<- SV];simp [aa.put,hcs])
     have hcc:JD ck cs = .osl [ck] 1 0 cs.length false:=by unfold JD;rw [if_neg hcs]
     rw [hcc] at Nn TK
     simp only [SS,Nat.reduceAdd,fr,Nn,sE]
     rw [yD _ _ _ (by intro h;simp at h;omega)]
     simp only [SS,Nat.reduceAdd]
     rw [CV (y := .osl [ck] 1 0 cs.length false) (by rfl) (by intro v;rfl) rfl (by rw [aa.bb _ _ _ e2];first | (rw [aa.bb _ _ _ e1];exact TK _) | (rw [aa.bb _ _ _ e6,aa.bb _ _ _ e1];exact TK _)) (by rfl)]
     simp only [SS,Nat.reduceAdd]
     refine ⟨(m/1000000000,zs z++t,cs++[r],n2+2+3+4,n2+1000),qv (n2+1000) (n2+2+3+4) (by omega) (by omega) (by omega),hlt,Wk.forget (by simp [Fg]) (fun i => ?_) (by simp only [];omega)⟩
     simp only [ab6,if_neg Jh,VA]
     simp only [aa.put]
     by_cases i1:i=[5,5]
     . subst i1;right;simp
     . by_cases i2:i=[n2+2+3+4]
       . subst i2;right;simp [e2.symm]
       . by_cases i3:i=[10]
         . subst i3;right;simp [e2]
         . by_cases i4:i=[0]
           . subst i4;right;simp [e3,e4,e5, <- SV,aa.put]
           . left;simp [i1,i2,i3,i4]
 . obtain ⟨j,rfl⟩:∃ j,k=j+1:=⟨k-1,by omega⟩
   have dk:decide ((0:Int)<=(j:Int))=true:=ai (by omega)
   have hj:((j+1:Nat):Int)-1=(j:Int):=by omega
   have l9:j<ab m:=by omega
   have MG:IntKind.i64.wrap ((j:Int)-1)=(j:Int)-1:=by rw [IntKind.wrap_i64];omega
   obtain ⟨a,ha⟩:∃ a,(digits m)[j]? = some a:=⟨_,List.getElem?_eq_getElem l9⟩
   have rH:=aK m a (List.mem_of_getElem? ha)
   have f1:=bf a rH
   have C6:r<au:=by unfold au;omega
   have f2:=tJ r C6
   have f3:=B7 r a C6 rH
   have hlt:au*r+a<18446744073709551616:=by unfold au at *;omega
   have f4:bn .quo .int (.int .u64 ((au*r+a:Nat):Int)) (.int .u64 1000000000)=some (.int .u64 (((au*r+a)/1000000000:Nat):Int)):=B8 (au*r+a) 1000000000 hlt (by decide)
   have f5:bn .rem .int (.int .u64 ((au*r+a:Nat):Int)) (.int .u64 1000000000)=some (.int .u64 (((au*r+a)%1000000000:Nat):Int)):=B9 (au*r+a) 1000000000 (by decide)
   have H9:(au*r+a)/1000000000<au:=by unfold au at *;omega
   have f6:IntKind.u32.wrap (((au*r+a)/1000000000:Nat):Int)=(((au*r+a)/1000000000:Nat):Int):=by rw [sK,Nat.mod_eq_of_lt H9]
   have fT:=cA (q:=[5,5]) (t:=false) l9
   have TA:j<((digits m).take (j+1)++q++t).length:=by simp;have:(digits m).length=ab m:=rfl;omega
   have hv':val ((digits m).drop j)=val ((au*r+a)/1000000000::q)*1000000000+(au*r+a)%1000000000:=by
     rw [vC ha]
     simp only [val]
     rw [hv,Nat.add_mul,Nat.mul_add,Nat.mul_assoc au]
     have:=Nat.div_add_mod (au*r+a) 1000000000
     rw [Nat.mul_comm] at this
     omega
   have P7:(au*r+a)%1000000000<1000000000:=Nat.mod_lt _ (by decide)
   simp only [SS,Nat.reduceAdd,dk,hj,f2,fT]
   rw [im (o:=(digits m).take (j+1)++q++t) (b:=false) (by simp [aa.put]) (SR ha)]
   simp only [SS,Nat.reduceAdd,f1,f3,f4,f6,fT]
   rw [bL (o:=(digits m).take (j+1)++q++t) (by simp [aa.put]) TA,take_set (show j<(digits m).length from l9)]
   simp only [SS,Nat.reduceAdd,f5,MG]
   refine ⟨(j,(au*r+a)/1000000000::q,(au*r+a)%1000000000,_),⟨by simp;omega, ?_,P7,hv',by simp only [];omega⟩,Nat.lt_succ_self j,Wk.forget (by simp [Fg]) (fun i => ?_) (Nat.le_refl _)⟩
   . intro z hz
     rcases List.mem_cons.1 hz with rfl | hz
     . exact H9
     . exact hqW z hz
   . simp only [aa.put];split<;>simp
end
end
section
variable {P:Program} {G:Nat->Option (List AV)} {π : Id}
def s7 (P:Program) (G:Nat->Option (List AV)) (π : Id) (own:Nat->Prop) (E:Env) (w:World) (rest:Code) (R:Exit->Act->World->Prop) (s:VS):Prop :=
 ∀ E' w' a',j7 own π E E' w w'->ib G π own E' w' s a'->rest.wp P R a' w'
def SW (G:Nat->Option (List AV)) (π : Id) (own:Nat->Prop) (E:Env) (w:World) (R:Exit->Act->World->Prop) (e:bB) (s:VS):Prop :=
 ∀ E' w' a',j7 own π E E' w w'->ib G π own E' w' s a'->R e.real a' w'
theorem s7.seq {own:Nat->Prop} {E:Env} {w:World} {c rest:Code} {vc:bA} {R:Exit->Act->World->Prop} {s:VS} (hc:eL P c=some vc)
   (k:sF P G π vc (Then (s7 P G π own E w rest R) (SW G π own E w R)) s):s7 P G π own E w (.seq c rest) R s:=fun E' w' a' had hm=>by
 refine wp_seq ((VW.of k) c hc own E' w' a' _ hm fun e s2 E2 w2 a2 hq FJ sQ => ?_)
 cases e with
 | normal=>exact hq E2 w2 a2 (had.trans FJ) sQ
 | exit id=>exact hq E2 w2 a2 (had.trans FJ) sQ
 | ret=>exact hq E2 w2 a2 (had.trans FJ) sQ
theorem s7.wk {own:Nat->Prop} {E:Env} {w:World} {rest:Code} {R:Exit->Act->World->Prop} {s s':VS} (h:Wk G π s s') (k:s7 P G π own E w rest R s'):s7 P G π own E w rest R s:=fun E' w' a' had hm=>by
 obtain ⟨E2,FJ,sQ⟩:=h own E' w' a' hm
 exact k E2 w' a' (had.trans FJ) sQ
end
end Go.VL
namespace Go.Proofs
section
open Go.VL Go.RowKit
def Tryz.fv0:bA:=(.reg none [⟨(some 1),(.box (.t 0)),none⟩,⟨(some 2),(.mv (.c (.str []))),none⟩])
def Tryz.fv1:bA:=(.reg none [⟨(some 11),(.faddr 1 (.t 1)),none⟩,⟨(some 12),(.load false 1 (.t 11)),none⟩,⟨(some 13),(.call (.f 145) [(.t 12)]),none⟩,⟨(some 14),(.call (.f 95) [(.t 13)]),none⟩,⟨(some 3),(.mv (.t 14)),none⟩])
def Tryz.fv2:bA:=(.seq (.reg none [⟨(some 15),(.mv (.t 3)),none⟩,⟨(some 16),(.len false (.t 15)),none⟩,⟨(some 17),(.bin .eql .int (.t 16) (.c (.int .i64 (0)))),none⟩]) (.cond (.t 17) (.seq (.reg none [⟨(some 2),(.mv (.c (.str [48]))),none⟩]) .ret) .skip))
def Tryz.fv3:bA:=(.reg none [⟨(some 4),(.box (.c .nils)),none⟩])
theorem Tryz.Ll (G:Nat->Option (List AV)) (n:Nat) (ry:n≠0) (hn:ab n<=1000000) (vI:gU Tryz.prog G 145) (MN:Has Tryz.prog 145 dt) (o8:Has Tryz.prog 95 aQ)
   {own:Nat->Prop} {E:Env} {w:World} {R:Exit->Act->World->Prop} {c0 c1 c2 c3 c4 rest:Code} (h0:eL Tryz.prog c0=some Tryz.fv0) (h1:eL Tryz.prog c1=some Tryz.fv1) (h2:eL Tryz.prog c2=some Tryz.fv2) (h3:eL Tryz.prog c3=some Tryz.fv3)
   (h4:eL Tryz.prog c4=some (zA 145))
   (hK:∀ t fA r ck nn,Wd (fA++[r])->(∀ c∈fA++[r],c<1000000000)->(fA++[r]).length<=10000000->Lib.decDigits n=Lib.decDigits r++nu fA->20<=ck->s7 Tryz.prog G [] own E w rest R (vH n 0 t (fA++[r]) ck nn)) :
   s7 Tryz.prog G [] own E w (.seq c0 (.seq c1 (.seq c2 (.seq c3 (.seq c4 rest))))) R ⟨IV (n:Int)::List.replicate 73 (.tup []),fun _=>none,0⟩:=by
 refine s7.seq h0 ?_
 simp only [Tryz.fv0,SS,Nat.reduceAdd,y5]
 refine s7.seq h1 ?_
 simp only [Tryz.fv1,SS,Nat.reduceAdd,ak,z7,k6]
 refine aj (nD vI n (by omega)) (by simp [bp]) ?_
 simp only [SS,Nat.reduceAdd]
 refine ⟨[],_,Lk o8 n ry hn _,by simp,by simp, ?_⟩
 have d0:decide ((ab n:Int)=0)=false:=ag (by have:ab n≠0:=fun e=>ry (bC.1 e);omega)
 simp only [SS,Nat.reduceAdd]
 refine s7.seq h2 ?_
 simp only [Tryz.fv2,SS,Nat.reduceAdd,d0]
 refine s7.seq h3 ?_
 have ab7:(AV.nils.cells.all AV.one=true)=True:=by simp [AV.cells,AV.one]
 simp only [Tryz.fv3,SS,Nat.reduceAdd,ab7]
 refine s7.seq h4 ?_
 refine SU MN n ry hn (Wk.forget (by simp [Fg,List.replicate]) (fun j => ?_) (by simp [])) (fun t fA r ck nn s a1 a2 a3 a4 a5 hw=>s7.wk hw (hK t fA r ck nn a1 a2 a3 a4 a5))
 have e1:(IV (n:Int)).size=2:=rfl
 have e2:AV.nils.size=1:=rfl
 simp only [aa.put,e1,e2,List.append_nil,JD,if_true]
 by_cases i1:j=[5,5]
 . subst i1;right;simp
 . by_cases i3:j=[10]
   . subst i3;right;simp
   . by_cases i4:j=[0]
     . subst i4;right;simp
     . left;simp [i1,i3,i4]
end
section
open Go.RowKit Go.Shelf
attribute [local go_sem] Oper.semAt_some
set_option maxRecDepth 100000 in
set_option maxHeartbeats 2000000 in
theorem Tryz.Za (F:Fence) (n:Nat) (h8:F.fn 172) (JB:F.round=none) (hn:1<=n) (l Bs n₀ b off cap:Nat) (zs:List Int) (wE:zs.length*8<=140737488351232) (hb:b<n₀) (J Jx:List Nat->World->Prop)
   (hY:∀ pre x W,J pre W->pre.length<zs.length->YieldAt F (n-1) Tryz.prog l #[.int .i64 (Tryz.bw zs x).1, .int .u32 (Tryz.bw zs x).2] W fun e W' =>
     (e = .returned (.bool true)/\J (pre++[x]) W'/\Tryz.BK n₀ Bs W W')∨(e = .returned (.bool false)/\Jx (pre++[x]) W'))
   (W:World) (Y4:W.cell? ⟨Bs,0,none⟩=some (.slice (some ⟨b,off,none⟩) zs.length cap)) (hc:∀ j,j<zs.length->W.cell? ⟨b,off+j,none⟩=some (.int .u32 (zs[j]?.getD 0))) (h0:J [] W) :
   CallsIn F n Tryz.prog 172 #[.func (.yield l) #[] #[], .pointer (some ⟨Bs,0,none⟩)] W fun e W'=>(∃ v,e = .returned v) /\
     ((∃ ys,ys=Tryz.upto (fun i=>i) zs.length/\J ys W')∨(∃ pre,(∃ k,k<=zs.length/\pre=Tryz.upto (fun i=>i) k)/\Jx pre W')):=by
 refine callsIn_of_wp Tryz.func172 rfl h8 ?_ JB
 simp only [Tryz.ntmps172,List.size_toArray,List.length_cons,List.length_nil,Nat.reduceAdd,Nat.reduceSub,Array.replicate_succ,Array.replicate_zero,List.push_toArray,List.append_toArray,List.nil_append,List.cons_append]
 gi_wp2
 gi_loopw [3] (fun i wr=>∃ k:Nat,k<=zs.length/\i = .int .i64 ((zs.length:Int)-1-k)/\J (Tryz.upto (fun i=>i) k) wr/\Tryz.BK n₀ Bs W wr)
   (fun i _=>(intOf i+1).toNat)
 case atStart=>exact ⟨0,Nat.zero_le _,by simp,h0,Tryz.BK.refl _ _ _⟩
 case round =>
   obtain ⟨k,hk,rfl,Y5,Y6⟩:=hrel
   have hBk:=Y6.2.trans Y4
   have Lw:∀ j,j<zs.length->wr.cell? ⟨b,off+j,none⟩=some (.int .u32 (zs[j]?.getD 0)):=fun j h=>(Y6.1.cell (p:=⟨b,off+j,none⟩) hb).trans (hc j h)
   by_cases hlt:k<zs.length
   . obtain ⟨q,hq⟩:∃ q,q=zs.length-1-k:=⟨_,rfl⟩
     have TJ:(zs.length:Int)-1-k=q:=by omega
     have WC:q<zs.length:=by omega
     have wN:Hid (Tryz.bw zs k=((q:Int),zs[q]?.getD 0)):=by show Tryz.bw zs k=_;rw [Tryz.bw, <- hq,TJ]
     have hqk:Hid (q+1+k=zs.length):=by show q+1+k=zs.length;omega
     clear hq
     have Y7:=Lw q WC
     generalize zs[q]?.getD 0=zq at wN Y7
     obtain ⟨fn,tmps,assign,body,hy,hR⟩:=hY _ k wr Y5 (by rw [Tryz.Ak];exact hlt)
     rw [wN.out] at hy
     dsimp only at hy
     rw [TJ]
     clear TJ hY h0 hc Lw
     gi_wp2
     refine hR.mono ?_
     rintro e W3 (⟨rfl,hJ3,hk3⟩ | ⟨rfl,Y8⟩)
     . gi_wp2
       go_roundw
       case rel=>exact ⟨k+1,by omega,by have:=hqk.out;congr 1;omega,by rw [Tryz.nQ];exact hJ3,Y6.trans hk3⟩
       case measure=>simp [intOf]
     . gi_wp2
       refine bodyPost_ret (results_none rfl _ _ _) rfl ?_
       exact ⟨⟨_,rfl⟩, .inr ⟨_,⟨k+1,by omega,by rw [Tryz.nQ]⟩,Y8⟩⟩
   . obtain rfl:k=zs.length:=by omega
     have uS:(zs.length:Int)-1-zs.length = -1:=by omega
     rw [uS]
     gi_wp2
     go_end0
     exact ⟨⟨_,rfl⟩, .inl ⟨_,rfl,Y5⟩⟩
theorem Tryz.SX (F:Fence) (n:Nat) (h8:F.fn 172) (JB:F.round=none) (hn:1<=n) (Bs n₀ b off cap:Nat) (zs:List Int) (wE:zs.length*8<=140737488351232) (hb:b<n₀) (w:World) (hBs:Bs<w.heap.size) (WX:n₀<=w.heap.size)
   (hc:w.cell? ⟨Bs,0,none⟩=some (.slice (some ⟨b,off,none⟩) zs.length cap)) (hI:∀ j,j<zs.length->w.cell? ⟨b,off+j,none⟩=some (.int .u32 (zs[j]?.getD 0))) :
   SeqStopsK F n Tryz.prog 172 #[.pointer (some ⟨Bs,0,none⟩)] (fun x:Nat => #[Value.int .i64 (Tryz.bw zs x).1,Value.int .u32 (Tryz.bw zs x).2]) (Tryz.BK n₀ Bs) (fun ys=>ys=Tryz.upto (fun i=>i) zs.length)
     (fun pre=>∃ k,k<=zs.length/\pre=Tryz.upto (fun i=>i) k) zs.length w:=fun l J Jx W hW _ _ hY h0 =>
 Tryz.Za F n h8 JB hn l Bs n₀ b off cap zs wE hb J Jx hY W ((hW.cell (p:=⟨Bs,0,none⟩) hBs).trans hc) (fun j hj=>(hW.cell (p:=⟨b,off+j,none⟩) (show b<w.heap.size by omega)).trans (hI j hj)) h0
end
end Go.Proofs
namespace Go.VL
theorem Fi {G:Nat->Option (List AV)} {own:Nat->Prop} {E:Env} {w:World} {σ : aa} {id:Id} {bk:a8} {e o:Nat} {v:Value} (hi:Inv G own E w σ) (hs : σ id=some bk) (hr:aD E w (.ref id e o) v) :
   ∃ g N,v = .pointer (some ⟨g,e*bk.k+o,none⟩)/\E.μ id=some (g,bk.k,N)/\g<w.heap.size/\∀ j c,(flat bk.els)[j]? = some c->∃ v,w.cell? ⟨g,j,none⟩=some v/\aD E w c v:=by
 obtain ⟨g,N,cur,ty,hB⟩:=hi.blk id bk hs
 simp only [aD] at hr
 obtain ⟨g',k,N',hm,rfl⟩:=hr
 rw [hB.μ] at hm
 simp only [Option.some.injEq,Prod.mk.injEq] at hm
 obtain ⟨rfl,rfl,_⟩:=hm
 refine ⟨g,N,rfl,hB.μ,cV hB.heap,fun j c hj => ?_⟩
 have:=hB.row j c hj
 rwa [Nat.zero_add] at this
theorem Po {G:Nat->Option (List AV)} {own:Nat->Prop} {E:Env} {w:World} {σ : aa} {id:Id} {bk:a8} {k len:Nat} {t:Bool} {v:Value} (hi:Inv G own E w σ) (hs : σ id=some bk) (hr:aD E w (.osl id k 0 len t) v) :
   ∃ g cap,v = .slice (some ⟨g,0,none⟩) len cap/\g<w.heap.size/\∀ j c,(flat bk.els)[j]? = some c->∃ v,w.cell? ⟨g,j,none⟩=some v/\aD E w c v:=by
 obtain ⟨g,N,cur,ty,hB⟩:=hi.blk id bk hs
 simp only [aD] at hr
 obtain ⟨g',N',cap,hm,rfl,_⟩:=hr
 rw [hB.μ] at hm
 simp only [Option.some.injEq,Prod.mk.injEq] at hm
 obtain ⟨rfl,_,_⟩:=hm
 refine ⟨g,cap,by simp,cV hB.heap,fun j c hj => ?_⟩
 have:=hB.row j c hj
 rwa [Nat.zero_add] at this
end Go.VL
namespace Go.Proofs
section
open Go.VL Go.RowKit Go.Shelf
attribute [local go_sem] Oper.semAt_some
def uj (zs:List Int):List Nat->List UInt8
 | []=>[]
 | k::ks=>(if (Tryz.bw zs k).1<(zs.length:Int)-1 then pk 9 (Tryz.bw zs k).2.toNat else Lib.decDigits (Tryz.bw zs k).2.toNat)++uj zs ks
theorem Tryz.qa (B b:Nat) (bs:List Value) (s:ByteArray) (w:World) (h:Lib.IsBuilderF 164 5 B b bs w) (hlen:bs.length+s.size<=140737488355328) (hBw:B<=w.heap.size) :
   Calls Tryz.prog 151 #[.pointer (some ⟨b,0,none⟩), .string s] w fun e w'=>e = .returned (.tuple #[.int .i64 s.size, .nilIface])/\(Lib.BuilderAtF 164 5 B b (.pointer (some ⟨b,0,none⟩)) (bs++Lib.strCells s) w'/\Below B w w'/\Lib.OthersKept 5 (some b) w w') :=
 Any.Builder_WriteString_k (P:=Tryz.prog) (ρ := Tryz.ui) { Tryz.Bb with } Tryz.pJ B b bs s w h hlen hBw
theorem uk (B b0:Nat) {β : Type} {T e:TypeId} {f : β -> List Value}:OwnFrom B (fun (s : β) W=>Lib.IsBuilderF T e b0 b0 (f s) W):=fun s W W' row h hg hr=>by
 have key:∀ p,Lib.BuilderAtF T e b0 b0 p (f s) W->Lib.BuilderAtF T e b0 b0 p (f s) W':=by
   rintro p ⟨hB,v,hb,N8,hne⟩
   have hlt:b0<W.heap.size:=(Array.getElem?_eq_some_iff.1 hb).1
   refine ⟨hB,v, ?_,N8.kept hg ?_,hne⟩
   . rw [hg.block b0 hlt (fun e => ?_)]
     . exact hb
     . obtain ⟨_,o,ho,P6⟩:=hr b0 e.symm
       rw [hb] at ho;cases ho;simp [Obj.isCells] at P6
   . cases hv:v.ownBlock with
     | none=>exact .inl rfl
     | some g =>
       refine .inr fun e => ?_
       obtain ⟨_,o,ho,P6⟩:=hr g e.symm
       rcases N8.2 with ⟨rfl,_⟩ | ⟨g',cap,cur,fz,rfl,_,E4,_⟩
       . simp [Value.ownBlock] at hv
       . simp [Value.ownBlock] at hv
         subst hv
         rw [E4] at ho;cases ho;simp [Obj.isCells] at P6
 exact h.imp (key _) (key _)
theorem Pp (B k:Nat) {β : Type} {cs:Array Value} {T:TypeId}:OwnFrom B (fun (_ : β) W=>W.heap[k]? = some (.cells cs T)):=fun s W W' row h hg hr=>by
 have hlt:k<W.heap.size:=(Array.getElem?_eq_some_iff.1 h).1
 show W'.heap[k]? = _
 have h':W.heap[k]? = some (.cells cs T):=h
 rw [hg.block k hlt (fun e => ?_)]
 . exact h'
 . obtain ⟨_,o,ho,P6⟩:=hr k e.symm
   rw [h'] at ho;cases ho;simp [Obj.isCells] at P6
theorem Am {B b Bs:Nat} {W W2 W3:World} {cs:Array Value} (hb:b<B) (ny:Below W.heap.size W W2) (hbb:∃ cb fz,W.heap[b]? = some (.cells cb 164 fz)) (Pq:W.heap[Bs]? = some (.cells cs 57)) (hne:Bs≠b) (Z1:Below b W2 W3) (hO:Lib.OthersKept 5 (some b) W2 W3) :
   KeepsFrom B W W3/\Tryz.BK b Bs W W3/\W3.heap[Bs]? = some (.cells cs 57):=by
 have hlt:∀ k o,W.heap[k]? = some o->k<W.heap.size:=fun k o h=>(Array.getElem?_eq_some_iff.1 h).1
 have hk2:∀ k o,W.heap[k]? = some o->W2.heap[k]? = some o:=fun k o h=>by rw [ny.block k (hlt k o h)];exact h
 obtain ⟨cb',fz',WY⟩:=hbb
 have h57:W3.heap[Bs]? = some (.cells cs 57):=hO Bs _ (hk2 _ _ Pq) (fun e=>hne (Option.some.inj e)) (fun c fz e=>by cases e)
 refine ⟨⟨Nat.le_trans ny.size Z1.size,fun k o hBk hk ho => ?_⟩,⟨⟨Z1.os.trans ny.os,Z1.tape.trans ny.tape,Z1.output.trans ny.output,Nat.le_trans ny.size Z1.size,fun k hk => ?_⟩, ?_⟩,h57⟩
 . exact hO k o (hk2 _ _ hk) (fun e=>by have:=Option.some.inj e;omega) (fun c fz e=>by subst e;simp [Obj.isCells] at ho)
 . have hkb:k<W.heap.size:=Nat.lt_trans hk (hlt b _ WY)
   rw [Z1.block k hk,ny.block k hkb]
 . rw [World.cell?_of_block (a:=⟨Bs,0,none⟩) (w:=W) (w':=W3) (by show W3.heap[Bs]? = W.heap[Bs]?;rw [h57,Pq])]
theorem zB (zs:List Int) (pre:List Nat) (k:Nat):uj zs (pre++[k])=uj zs pre++(if (Tryz.bw zs k).1<(zs.length:Int)-1 then pk 9 (Tryz.bw zs k).2.toNat else Lib.decDigits (Tryz.bw zs k).2.toNat):=by
 induction pre with
 | nil=>simp [uj]
 | cons a l ih=>simp only [List.cons_append,uj];rw [ih,List.append_assoc]
theorem Np {ws:List Nat} (h:∀ c∈ws,c<1000000000) (x:Nat):∃ c:Nat,Tryz.bw (cN ws) x=(((cN ws).length:Int)-1-x,(c:Int))/\c<1000000000:=by
 unfold Tryz.bw
 cases he:(cN ws)[(cN ws).length-1-x]? with
 | none=>exact ⟨0,rfl,by decide⟩
 | some z =>
   have hm:=List.mem_of_getElem? he
   unfold cN at hm
   obtain ⟨c,hc,rfl⟩:=List.mem_map.1 hm
   exact ⟨c,rfl,h c hc⟩
theorem SY {ws:List Nat} (h:∀ c∈ws,c<1000000000) (pre:List Nat):(uj (cN ws) pre).length<=20*pre.length:=by
 have hd:∀ c:Nat,c<1000000000->(Lib.decDigits c).length<=9:=fun c hc=>by rw [Lib.decDigits_length];exact MR (by decide) hc
 induction pre with
 | nil=>simp [uj]
 | cons x pre ih =>
   obtain ⟨c,wN,hc⟩:=Np h x
   have G9:=hd c hc
   have Xw:(pk 9 c).length=9:=by rw [WD 9 (by decide) hc,List.length_append,List.length_replicate, <- Lib.decDigits_length];omega
   simp only [uj,wN,List.length_append,List.length_cons,Int.toNat_natCast]
   split<;>omega
theorem Ps {n:Int} (h0:0<=n) (h1:n<9223372036854775808):wrap64 n=n:=by unfold wrap64;omega
theorem repeatL_one (z:Nat):Lib.repeatL [(48:UInt8)] z=List.replicate z 48:=by
 induction z with
 | zero=>rfl
 | succ z ih=>rw [List.replicate_succ, <- ih];rfl
theorem Tryz.WZ (z:Nat) (hz:z<=1000) (w:World):Calls Tryz.prog 130 #[.string ⟨#[48]⟩, .int .i64 (z:Int)] w fun e w'=>e = .returned (.string ⟨(List.replicate z (48:UInt8)).toArray⟩)/\Below w.heap.size w w':=by
 match z,hz with
 | 0,_=>exact (Tryz.strings_Repeat_zero ⟨#[48]⟩ w).mono fun e w' h=>⟨h.1,h.2▸Below.refl _ _⟩
 | 1,_=>exact (Tryz.strings_Repeat_one ⟨#[48]⟩ w).mono fun e w' h=>⟨h.1,h.2▸Below.refl _ _⟩
 | z+2,hz =>
   have:=Tryz.strings_Repeat_main ⟨#[48]⟩ (z+2) w (by omega) (by omega) (by show 1*(z+2)<=_;omega) (by decide)
   rw [show Lib.repeatL (⟨#[48]⟩:ByteArray).data.toList (z+2)=List.replicate (z+2) 48 from repeatL_one _] at this
   exact this
theorem VC (f:Nat->Value):(List.range 74).map f=[f 0,f 1,f 2,f 3,f 4,f 5,f 6,f 7,f 8,f 9,f 10,f 11,f 12,f 13,f 14,f 15,f 16,f 17,f 18,f 19,f 20,f 21,f 22,f 23,f 24,f 25,f 26,f 27,f 28,f 29,f 30,f 31,f 32,f 33,f 34,f 35,f 36,f 37,f 38,f 39,f 40,f 41,f 42,f 43,f 44,f 45,f 46,f 47,f 48,f 49,f 50,f 51,f 52,f 53,f 54,f 55,f 56,f 57,f 58,f 59,f 60,f 61,f 62,f 63,f 64,f 65,f 66,f 67,f 68,f 69,f 70,f 71,f 72,f 73]:=rfl
theorem VD {E:Env} {w:World} {a:Act} {t:List AV} (h:b9 E w t a) (ht:t.length=74):∃ tv:Nat->Value,a.tmps = #[tv 0,tv 1,tv 2,tv 3,tv 4,tv 5,tv 6,tv 7,tv 8,tv 9,tv 10,tv 11,tv 12,tv 13,tv 14,tv 15,tv 16,tv 17,tv 18,tv 19,tv 20,tv 21,tv 22,tv 23,tv 24,tv 25,tv 26,tv 27,tv 28,tv 29,tv 30,tv 31,tv 32,tv 33,tv 34,tv 35,tv 36,tv 37,tv 38,tv 39,tv 40,tv 41,tv 42,tv 43,tv 44,tv 45,tv 46,tv 47,tv 48,tv 49,tv 50,tv 51,tv 52,tv 53,tv 54,tv 55,tv 56,tv 57,tv 58,tv 59,tv 60,tv 61,tv 62,tv 63,tv 64,tv 65,tv 66,tv 67,tv 68,tv 69,tv 70,tv 71,tv 72,tv 73]/\∀ j c,t[j]? = some c->aD E w c (tv j):=by
 obtain ⟨hl,hp⟩:=bj.1 h
 refine ⟨fun i=>a.tmps.toList.getD i undef, ?_,fun j c hj => ?_⟩
 . have e:a.tmps.toList=(List.range 74).map fun i=>a.tmps.toList.getD i undef:=by
     refine List.ext_getElem (by simp;rw [<- Array.length_toList];omega) fun i h1 h2 => ?_
     simp only [List.getElem_map,List.getElem_range,List.getD_eq_getElem?_getD]
     rw [List.getElem?_eq_getElem h1];rfl
   rw [VC] at e
   rw [<- Array.toArray_toList (xs:=a.tmps)]
   exact congrArg List.toArray e
 . obtain ⟨v,hv,hr⟩:=hp j c hj
   show aD E w c (a.tmps.toList.getD j undef)
   rw [List.getD_eq_getElem?_getD,hv];exact hr
theorem SZ (fA:List Nat) (r:Nat):∀ k,k<=fA.length->uj (cN (fA++[r])) (Tryz.upto (fun i=>i) (k+1))=Lib.decDigits r++nu (fA.drop (fA.length-k)):=by
 have hl:(cN (fA++[r])).length=fA.length+1:=by rw [kF];simp
 intro k
 induction k with
 | zero =>
   intro _
   rw [Tryz.nQ,zB]
   have e:(cN (fA++[r]))[(cN (fA++[r])).length-1-0]?.getD 0=(r:Int):=by
     rw [hl];unfold cN;rw [List.getElem?_map,List.getElem?_append_right (by omega)];simp
   simp only [Tryz.bw,e]
   rw [if_neg (by omega)]
   simp [Tryz.upto,uj,nu]
 | succ k ih =>
   intro hk
   rw [Tryz.nQ,zB,ih (by omega)]
   have hlt:fA.length-(k+1)<fA.length:=by omega
   have e:(cN (fA++[r]))[(cN (fA++[r])).length-1-(k+1)]?.getD 0=(fA[fA.length-(k+1)]:Int):=by
     rw [hl,show fA.length+1-1-(k+1)=fA.length-(k+1) from by omega];unfold cN
     rw [List.getElem?_map,List.getElem?_append_left hlt,List.getElem?_eq_getElem hlt];rfl
   simp only [Tryz.bw,e]
   rw [if_pos (by omega),List.append_assoc]
   congr 1
   rw [List.drop_eq_getElem_cons hlt,show fA.length-(k+1)+1=fA.length-k from by omega]
   rfl
theorem Tryz.Pt (G:Nat->Option (List AV)) (n:Nat) (ry:n≠0) (hn:ab n<=1000000) (vI:gU Tryz.prog G 145) (MN:Has Tryz.prog 145 dt) (o8:Has Tryz.prog 95 aQ)
   (w:World) (vs:List Value) (ok:Nat->Prop) (hi:VL.Inv G (fun k=>w.heap.size<=k) ⟨fun _=>none,ok⟩ w (fun _=>none)) (hr:aF ⟨fun _=>none,ok⟩ w [IV (n:Int)] vs) (hp:Tryz.vG w) :
   Calls Tryz.prog 129 vs.toArray w fun e w'=>e = .returned (.string ⟨(Lib.decDigits n).toArray⟩)/\Below w.heap.size w w':=by
 refine (callsIn_wide (n:=3)).1 (callsIn_of_wp_marks Tryz.func129 rfl trivial ?_ rfl)
 rw [wpIn_wide]
 have GN:vs.length=1:=aF.len hr
 have hm:ib G [] (fun k=>w.heap.size<=k) ⟨fun _=>none,ok⟩ w ⟨IV (n:Int)::List.replicate 73 (.tup []),fun _=>none,0⟩
     { tmps:=vs.toArray++Array.replicate (Tryz.f129.ntmps-vs.toArray.size) undef,defers:=[] }:=by
   refine ⟨?_,hi,fun _ _ _=>rfl,rfl⟩
   show aF _ w _ _
   simp only [Array.toList_append,Array.toList_replicate,List.size_toArray,GN,Tryz.ntmps129]
   refine aF.append (xs:=[IV (n:Int)]) (ys:=List.replicate 73 (.tup [])) hr (bj.2 ⟨by simp,fun j c hj => ?_⟩)
   have l9:j<73:=by have:=(List.getElem?_eq_some_iff.1 hj).1;simpa using this
   simp only [List.getElem?_replicate,l9,if_true,Option.some.injEq] at hj ⊢
   subst hj
   exact ⟨undef,by simp,by simp only [aD,undef];exact ⟨#[],rfl,by simp [aF]⟩⟩
 refine (Tryz.Ll G n ry hn vI MN o8 (own:=fun k=>w.heap.size<=k) (E:=⟨fun _=>none,ok⟩) (w:=w) (by kernel_rfl) (by kernel_rfl) (by kernel_rfl) (by kernel_rfl) (by kernel_rfl) ?_) _ _ _ (j7.refl _ _ _ _) hm
 intro t fA r ck nn hcW WY afI VB RN E' w1 a1 had GM
 have hinv:=GM.inv
 have Bf:=GM.frame
 have hdf:=GM.defers
 obtain ⟨tv,etm,Kw⟩:=VD Bf (by simp [vH])
 have h1:=Kw 1 (.ref [0] 0 0) rfl
 have h4:=Kw 4 (.ref [10] 0 0) rfl
 obtain ⟨tm,df⟩:=a1
 simp only [] at hdf etm
 subst hdf
 subst etm
 obtain ⟨g0,N0,et1,_,hg0,ab8⟩:=Fi hinv (bk:=⟨[IV (n:Int)],2,false⟩) (by simp [vH,aa.put]<;>omega) h1
 obtain ⟨g10,N10,et4,_,afJ,W0⟩:=Fi hinv (bk:=⟨[JD ck (fA++[r])],1,false⟩) (by simp [vH,aa.put]<;>omega) h4
 have uS:w1.cell? ⟨g0,0,none⟩=some (.bool false):=by
   obtain ⟨v,hv,ZJ⟩:=ab8 0 (.bool false) (by simp [flat,IV,AV.cells]<;>omega)
   rw [hv];simp only [aD] at ZJ;rw [ZJ]
 obtain ⟨v10,ab9,Zb⟩:=W0 0 (JD ck (fA++[r])) (by unfold JD;rw [if_neg (by simp)];rfl)
 rw [show JD ck (fA++[r]) = .osl [ck] 1 0 (fA++[r]).length false from by unfold JD;rw [if_neg (by simp)]] at Zb
 obtain ⟨gc,cap,rfl,WE,aca⟩:=Po hinv (bk:=⟨us (fA++[r]),1,false⟩) (by simp [vH,aa.put]<;>omega) Zb
 have Zc:Below w.heap.size w w1:=⟨had.os,had.tape,had.output,had.size,fun k hk=>had.block k hk (by omega)⟩
 have hp1:Tryz.vG w1:=fun i hi=>by
   have h1:=hp i hi
   exact (Zc.cell (p:=⟨2,i,none⟩) (World.block_lt_of_cell? _ _ h1)).trans h1
 have nT:∀ j,j<(cN (fA++[r])).length->w1.cell? ⟨gc,0+j,none⟩=some (.int .u32 ((cN (fA++[r]))[j]?.getD 0)):=by
   intro j hj
   rw [kF] at hj
   obtain ⟨c,hc⟩:∃ c,(fA++[r])[j]? = some c:=⟨_,List.getElem?_eq_getElem hj⟩
   obtain ⟨v,hv,uO⟩:=aca j (.int .u32 (c:Int)) (by rw [FY];exact tI hc)
   rw [Nat.zero_add,hv];simp only [aD] at uO
   have e:(cN (fA++[r]))[j]? = some (c:Int):=by unfold cN;rw [List.getElem?_map,hc];rfl
   rw [uO,e];rfl
 rw [<- kF (fA++[r])] at ab9
 clear Bf Kw GM hm hinv h1 h4 ab8 W0 aca Zb
 rw [et1,et4]
 rw [<- wpIn_wide (n:=3)]
 have f149:Fence.wide.fn 149:=trivial
 have f172:Fence.wide.fn 172:=trivial
 have f150:Fence.wide.fn 150:=trivial
 have f130:Fence.wide.fn 130:=trivial
 have f151:Fence.wide.fn 151:=trivial
 have f152:Fence.wide.fn 152:=trivial
 gi_wp2_with (gi_at_call 149;refine (Tryz.Al Fence.wide 2 trivial rfl _ _ _ _).mono ?_;rintro e w' ⟨rfl,rfl⟩)
 have tp:(w1.alloc (.cells #[.pointer none, .slice none 0 0] 164)).heap.size=w1.heap.size+1:=by simp
 have bN:=Boxed.new (w1.alloc (.cells #[.pointer none, .slice none 0 0] 164)) 57 (.slice (some ⟨gc,0,none⟩) (cN (fA++[r])).length cap)
 rw [tp] at bN
 have hB0:Below w1.heap.size w1 ((w1.alloc (.cells #[.pointer none, .slice none 0 0] 164)).alloc (.cells #[.slice (some ⟨gc,0,none⟩) (cN (fA++[r])).length cap] 57)):=((Below.refl _ w1).alloc (Nat.le_refl _) _).alloc (by simp) _
 have ajm:(fA++[r]).length<=10000000:=afI
 refine wpIn_rangeFunc_ownG (α := Nat) (F:=Fence.wide) (n:=3) rfl (by omega) (gf:=172) (lb := #[.pointer (some ⟨w1.heap.size+1,0,none⟩)]) rfl trivial (enters_of Tryz.func172 (by kernel_rfl) rfl)
   (Tryz.SX Fence.wide 2 trivial rfl (by omega) (w1.heap.size+1) w1.heap.size gc 0 cap (cN (fA++[r])) (by rw [kF];omega) WE _ (by simp) (by simp;omega) bN.cell (fun j hj=>(hB0.cell (p:=⟨gc,0+j,none⟩) WE).trans (nT j hj))) (fun h k=>h.trans k)
   (fun W l o o' hl h h2 h3=>⟨belowK_b (w:=w1) (Nat.le_refl _) W l o o' (by simp at hl;omega) h h2 h3,(belowK_b (w:=(w1.alloc (.cells #[.pointer none, .slice none 0 0] 164)).alloc (.cells #[.slice (some ⟨gc,0,none⟩) (cN (fA++[r])).length cap] 57)) (Nat.le_refl _) W l o o' hl h h2 h3).cell (p:=⟨w1.heap.size+1,0,none⟩) (by simp)⟩) (Below.refl _ _) (by intro _;rfl)
   (fun pre W=>Lib.IsBuilderF 164 5 w1.heap.size w1.heap.size (Lib.byteCells (uj (cN (fA++[r])) pre)) W/\(Below w1.heap.size w1 W/\W.heap[w1.heap.size+1]? = some (.cells #[.slice (some ⟨gc,0,none⟩) (cN (fA++[r])).length cap] 57)))
   (fun _ _ _=>False)
   ?own
   (fun _ _ _ _ _ hs _ _=>hs)
   ?start
   (fun x=>{ tmps := #[tv 0, .pointer (some ⟨g0,0,none⟩),tv 2,tv 3, .pointer (some ⟨g10,0,none⟩),tv 5,tv 6, .pointer (some ⟨w1.heap.size,0,none⟩),(.int .i64 (Tryz.bw (cN (fA++[r])) x).1),(.int .u32 (Tryz.bw (cN (fA++[r])) x).2),tv 10,tv 11,tv 12,tv 13,tv 14,tv 15,tv 16,tv 17,tv 18,tv 19,tv 20,tv 21,tv 22,tv 23,tv 24,tv 25,tv 26,tv 27,tv 28,tv 29,tv 30,tv 31,tv 32,tv 33,tv 34,tv 35,tv 36,tv 37,tv 38,tv 39,tv 40,tv 41,tv 42,tv 43,tv 44,tv 45,tv 46,tv 47,tv 48,tv 49,tv 50, .pointer (some ⟨g0,0,none⟩), .bool false,tv 53, .slice (some ⟨gc,0,none⟩) (cN (fA++[r])).length cap, .func (.func 172) #[] #[.pointer (some ⟨w1.heap.size+1,0,none⟩)],(.int .i64 (Tryz.bw (cN (fA++[r])) x).1),(.int .u32 (Tryz.bw (cN (fA++[r])) x).2),tv 58,tv 59,tv 60,tv 61,tv 62,tv 63,tv 64,tv 65,tv 66,tv 67,tv 68,tv 69,tv 70,tv 71,tv 72,tv 73],defers:=[] }) ?assign ?body ?done ?stop
 case own=>exact OwnFrom.and (uk _ _) (OwnFrom.and (ownFrom_below (Nat.le_refl _) (by simp;omega)) (Pp _ _))
 case start =>
   refine ⟨.inl ⟨Nat.le_refl _, .slice none 0 0, ?_,World.ownsRowF_nil _ _ _ _,by simp [Value.ownBlock]⟩,hB0, ?_⟩
   rotate_left
   . have:=World.alloc_heap_new (w1.alloc (.cells #[.pointer none, .slice none 0 0] 164)) (.cells #[.slice (some ⟨gc,0,none⟩) (cN (fA++[r])).length cap] 57)
     rw [tp] at this;exact this
   exact (Below.heap_alloc _ _ _ (by simp)).trans (World.alloc_heap_new w1 _)
 case assign =>
   intro l x W K hK
   gi_wp2
   exact hK
 case body =>
   rintro l pre x W ⟨hIB,Z2,Pq⟩ hN
   have ajn:(Fence.wide.inRound l).fn 149:=trivial
   have ajo:(Fence.wide.inRound l).fn 150:=trivial
   have ajp:(Fence.wide.inRound l).fn 130:=trivial
   have ajq:(Fence.wide.inRound l).fn 151:=trivial
   obtain ⟨c,wN,hc9⟩:∃ c:Nat,Tryz.bw (cN (fA++[r])) x=(((cN (fA++[r])).length:Int)-1-x,(c:Int))/\c<1000000000:=Np WY x
   have hT:uj (cN (fA++[r])) (pre++[x])=uj (cN (fA++[r])) pre++(if (((cN (fA++[r])).length:Int)-1-x)<((cN (fA++[r])).length:Int)-1 then pk 9 c else Lib.decDigits c):=by
     rw [zB,wN];rfl
   rw [wN]
   have hpW:Tryz.vG W:=fun i hi=>by
     have h1:=hp1 i hi
     exact (Z2.cell (p:=⟨2,i,none⟩) (World.block_lt_of_cell? _ _ h1)).trans h1
   have hcw:IntKind.u64.wrap (c:Int)=(c:Int):=by rw [IntKind.wrap_u64];omega
   have Z3:=(callsIn_wide (n:=0)).2 (Tryz.CT c (by omega) W hpW)
   gi_wp2
   refine (CallsIn.inRound l Z3).mono ?_
   rintro e W2 ⟨rfl,ny⟩
   have hW0:Below w1.heap.size w1 W2:=Z2.trans (ny.mono Z2.size)
   have ajs:W2.cell? ⟨g10,0,none⟩=some (.slice (some ⟨gc,0,none⟩) (cN (fA++[r])).length cap):=(hW0.cell (p:=⟨g10,0,none⟩) afJ).trans ab9
   have ace:Lib.IsBuilderF 164 5 w1.heap.size w1.heap.size (Lib.byteCells (uj (cN (fA++[r])) pre)) W2 :=
     uk 0 w1.heap.size (f:=fun (l:List UInt8)=>Lib.byteCells l) _ W W2 none hIB ⟨ny.os,ny.tape,ny.output,ny.size,fun k hk _=>ny.block k hk⟩ (fun r h=>by cases h)
   have ahy:(uj (cN (fA++[r])) pre).length<=20*pre.length:=SY WY pre
   have Yj:(Lib.decDigits c).length<=9:=by rw [Lib.decDigits_length];exact MR (by decide) hc9
   have hN':pre.length<10000000:=by rw [kF] at hN;omega
   have Zd:w1.heap.size<=W2.heap.size:=hW0.size
   have hbb:∃ cb fz,W.heap[w1.heap.size]? = some (.cells cb 164 fz):=by
     rcases hIB with ⟨_,v,hb,_⟩ | ⟨_,v,hb,_⟩<;>exact ⟨_,_,hb⟩
   have hsz:∀ l:List UInt8,(⟨l.toArray⟩:ByteArray).size=l.length:=fun l=>by rw [Lib.size_eq]
   have hwl:wrap64 (((cN (fA++[r])).length:Int)-1)=((cN (fA++[r])).length:Int)-1:=Ps (by rw [kF];simp) (by rw [kF];omega)
   by_cases hx:((cN (fA++[r])).length:Int)-1-x<((cN (fA++[r])).length:Int)-1
   . rw [if_pos hx] at hT
     obtain ⟨z,hz⟩:∃ z,z+(Lib.decDigits c).length=9:=⟨9-(Lib.decDigits c).length,by omega⟩
     have hwz:(9:Int)-((Lib.decDigits c).length:Int)=(z:Int):=by omega
     have Xw:pk 9 c=List.replicate z 48++Lib.decDigits c:=by rw [WD 9 (by decide) hc9, <- Lib.decDigits_length];congr 2;omega
     gi_wp2
     refine (CallsIn.inRound l ((callsIn_wide (n:=0)).2 (Tryz.WZ z (by omega) W2))).mono ?_
     rintro e W3 ⟨rfl,TP⟩
     have afK:Lib.IsBuilderF 164 5 w1.heap.size w1.heap.size (Lib.byteCells (uj (cN (fA++[r])) pre)) W3 :=
       uk 0 w1.heap.size (f:=fun (l:List UInt8)=>Lib.byteCells l) _ W2 W3 none ace ⟨TP.os,TP.tape,TP.output,TP.size,fun k hk _=>TP.block k hk⟩ (fun r h=>by cases h)
     have Fv:w1.heap.size<=W3.heap.size:=Nat.le_trans Zd TP.size
     gi_wp2
     refine (CallsIn.inRound l ((callsIn_wide (n:=0)).2 (Tryz.qa w1.heap.size w1.heap.size _ ⟨(List.replicate z (48:UInt8)).toArray⟩ W3 afK (by rw [Lib.byteCells_length,hsz,List.length_replicate];omega) Fv))).mono ?_
     rintro e W4 ⟨rfl,hB4,Ze,hO4⟩
     gi_wp2
     refine (CallsIn.inRound l ((callsIn_wide (n:=0)).2 (Tryz.qa w1.heap.size w1.heap.size _ ⟨(Lib.decDigits c).toArray⟩ W4 (.inr hB4) (by rw [List.length_append,Lib.byteCells_length,Lib.strCells_length,hsz,hsz,List.length_replicate];omega) (Nat.le_trans Fv Ze.size)))).mono ?_
     rintro e W5 ⟨rfl,hB5,acf,hO5⟩
     gi_wp2
     obtain ⟨q1,q2,q3⟩:=Am (B:=w1.heap.size+1+1) (by omega) (ny.trans (TP.mono ny.size)) hbb Pq (by omega) (Ze.trans acf) (hO4.trans hO5)
     refine ⟨by simpa using q1,q2, ?_,hW0.trans ((TP.mono Zd).trans (Ze.trans acf)),q3⟩
     rw [hT,Xw,Lib.byteCells_append,Lib.byteCells_append, <- List.append_assoc]
     exact .inr hB5
   . rw [if_neg hx] at hT
     gi_wp2
     refine (CallsIn.inRound l ((callsIn_wide (n:=0)).2 (Tryz.qa w1.heap.size w1.heap.size _ ⟨(Lib.decDigits c).toArray⟩ W2 ace (by rw [Lib.byteCells_length,hsz];omega) Zd))).mono ?_
     rintro e W3 ⟨rfl,TP,acg,hO3⟩
     gi_wp2
     obtain ⟨q1,q2,q3⟩:=Am (B:=w1.heap.size+1+1) (by omega) ny hbb Pq (by omega) acg hO3
     refine ⟨by simpa using q1,q2, ?_,hW0.trans acg,q3⟩
     rw [hT,Lib.byteCells_append]
     exact .inr TP
 case done =>
   rintro D ys W hD rfl ⟨hIB,Z2,Pq⟩ hK
   have afL:uj (cN (fA++[r])) (Tryz.upto (fun i=>i) (cN (fA++[r])).length)=Lib.decDigits n:=by
     rw [VB,kF,List.length_append,List.length_singleton,SZ fA r fA.length (Nat.le_refl _),Nat.sub_self,List.drop_zero]
   rw [afL] at hIB
   gi_wp2
   refine ((callsIn_wide (n:=2)).2 (Tryz.Builder_String_any_k w1.heap.size w1.heap.size _ W hIB Z2.size)).mono ?_
   rintro e W2 ⟨rfl,ny,afM,hO2⟩
   gi_wp2
   have hK2:W2.heap[D]? = some (.deferred (some [])):=hO2 D _ hK (fun e=>by have:=Option.some.inj e;simp at hD;omega) (fun c fz e=>by cases e)
   have ach:Below w1.heap.size w1 W2:=Z2.trans afM
   refine ⟨by simp, .inl ⟨_,_,rfl,run_takeDeferred hK2, ?_⟩⟩
   refine ⟨_,results_tmp rfl _ _ _,by rw [VB];rfl, ?_⟩
   exact Zc.trans ((ach.trans (belowK_b (w:=w1) (Nat.le_refl _) W2 D _ _ (by simp at hD;omega) hK2 rfl rfl)).mono Zc.size)
 case stop =>
   rintro D c pre W _ _ h _
   exact h.elim
end
section
open Go.VL Go.RowKit
theorem Tryz.JE (G:Nat->Option (List AV)) (vI:gU Tryz.prog G 145) (o8:Has Tryz.prog 95 aQ)
   {own:Nat->Prop} {E:Env} {w:World} {R:Exit->Act->World->Prop} {c0 c1 c2 rest:Code} (h0:eL Tryz.prog c0=some Tryz.fv0) (h1:eL Tryz.prog c1=some Tryz.fv1) (h2:eL Tryz.prog c2=some Tryz.fv2)
   (hK:∀ s,s.t[2]? = some (.str [48])->SW G [] own E w R .ret s) :
   s7 Tryz.prog G [] own E w (.seq c0 (.seq c1 (.seq c2 rest))) R ⟨IV (0:Int)::List.replicate 73 (.tup []),fun _=>none,0⟩:=by
 have ew:ab 0=0:=by rw [ab,bh];rfl
 have hW0:W 0 = .sl 1 []:=by rw [W,bh];rfl
 refine s7.seq h0 ?_
 simp only [Tryz.fv0,SS,Nat.reduceAdd,reduceIte,y5]
 refine s7.seq h1 ?_
 have e0:(IV (0:Int)).size=2:=rfl
 simp only [Tryz.fv1,SS,Nat.reduceAdd,reduceIte,ak,z7,k6]
 refine aj (nD vI 0 (by rw [ew];omega)) (by simp [bp]) ?_
 simp only [SS,Nat.reduceAdd,reduceIte]
 refine aj (EA o8 0 (by rw [ew];omega)) (by simp [bp]) ?_
 simp only [SS,Nat.reduceAdd,reduceIte]
 refine s7.seq h2 ?_
 have d0:decide ((ab 0:Int)=0)=true:=by rw [ew];rfl
 simp only [Tryz.fv2,SS,Nat.reduceAdd,reduceIte,bc,d0]
 show SW G [] own E w R .ret _
 exact hK _ (by simp)
theorem Tryz.JF (G:Nat->Option (List AV)) (vI:gU Tryz.prog G 145) (o8:Has Tryz.prog 95 aQ)
   (w:World) (vs:List Value) (ok:Nat->Prop) (hi:VL.Inv G (fun k=>w.heap.size<=k) ⟨fun _=>none,ok⟩ w (fun _=>none)) (hr:aF ⟨fun _=>none,ok⟩ w [IV (0:Int)] vs) :
   Calls Tryz.prog 129 vs.toArray w fun e w'=>e = .returned (.string ⟨(Lib.decDigits 0).toArray⟩)/\Below w.heap.size w w':=by
 refine calls_of_wp Tryz.func129 rfl ?_
 have GN:vs.length=1:=aF.len hr
 have hm:ib G [] (fun k=>w.heap.size<=k) ⟨fun _=>none,ok⟩ w ⟨IV (0:Int)::List.replicate 73 (.tup []),fun _=>none,0⟩
     { tmps:=vs.toArray++Array.replicate (Tryz.f129.ntmps-vs.toArray.size) undef,defers:=[] }:=by
   refine ⟨?_,hi,fun _ _ _=>rfl,rfl⟩
   show aF _ w _ _
   simp only [Array.toList_append,Array.toList_replicate,List.size_toArray,GN,Tryz.ntmps129]
   refine aF.append (xs:=[IV (0:Int)]) (ys:=List.replicate 73 (.tup [])) hr (bj.2 ⟨by simp,fun j c hj => ?_⟩)
   have l9:j<73:=by have:=(List.getElem?_eq_some_iff.1 hj).1;simpa using this
   simp only [List.getElem?_replicate,l9,if_true,Option.some.injEq] at hj ⊢
   subst hj
   exact ⟨undef,by simp,by simp only [aD,undef];exact ⟨#[],rfl,by simp [aF]⟩⟩
 refine (Tryz.JE G vI o8 (own:=fun k=>w.heap.size<=k) (E:=⟨fun _=>none,ok⟩) (w:=w) (by kernel_rfl) (by kernel_rfl) (by kernel_rfl) ?_) _ _ _ (j7.refl _ _ _ _) hm
 intro s hs E' w1 a1 had GM
 obtain ⟨v,hv,uO⟩:=(bj.1 GM.frame).2 2 _ hs
 simp only [aD] at uO
 subst uO
 refine ⟨GM.defers,_,results_tmp rfl _ _ _, ?_,⟨had.os,had.tape,had.output,had.size,fun k hk=>had.block k hk (by omega)⟩⟩
 have hz:Lib.decDigits 0=[48]:=by rw [tU (by decide)];rfl
 rw [hz]
 have e:a1.tmps.getD 2 undef = .string ⟨#[48]⟩:=by
   rw [Array.getElem?_toList] at hv
   simp only [Array.getD_eq_getD_getElem?,hv];rfl
 exact congrArg Ending.returned e
def GH:List AV:=(List.range 20).map fun i => .int .u64 ((10 ^ i:Nat):Int)
theorem Tryz.S2 {G:Nat->Option (List AV)} (hG:G 2=some GH) {own:Nat->Prop} {E:Env} {w:World} {σ : aa} (hi:VL.Inv G own E w σ):Tryz.vG w:=by
 have h:=(hi.glob 2 _ hG).2
 intro i hi
 obtain ⟨v,hv,hr⟩:=(dP.1 h) i _ (by unfold GH;rw [List.getElem?_map,List.getElem?_range hi];rfl)
 simp only [aD] at hr
 rw [Nat.zero_add] at hv
 rw [hv,hr]
theorem Tryz.Pu (G:Nat->Option (List AV)) (hG:G 2=some GH) (vI:gU Tryz.prog G 145) (MN:Has Tryz.prog 145 dt) (o8:Has Tryz.prog 95 aQ) (n:Nat) (hn:ab n<=1000000) :
   VP Tryz.prog G 129 [IV (n:Int)] (.str (Lib.decDigits n)):=by
 refine ⟨⟨_,Tryz.func129,by kernel_rfl,by kernel_rfl⟩,fun w vs ok hi hr => ?_⟩
 have key:Calls Tryz.prog 129 vs.toArray w fun e w'=>e = .returned (.string ⟨(Lib.decDigits n).toArray⟩)/\Below w.heap.size w w':=by
   by_cases h0:n=0
   . subst h0;exact Tryz.JF G vI o8 w vs ok hi hr
   . exact Tryz.Pt G n h0 hn vI MN o8 w vs ok hi hr (Tryz.S2 hG hi)
 refine key.mono ?_
 rintro e w' ⟨rfl,hB⟩
 exact ⟨_,ok,rfl,⟨⟨fun _ _ h=>h,fun _ h=>h,fun b hb=>hB.block b (hi.okb b hb)⟩,hB.os,hB.tape,hB.output,hB.size,fun k hk _=>hB.block k hk,fun _ h => .inl h⟩,fun b hb=>Nat.lt_of_lt_of_le (hi.okb b hb) hB.size,by simp only [aD]⟩
theorem Tryz.Pv (G:Nat->Option (List AV)) (z:Nat) (hz:z<=1000):VP Tryz.prog G 130 [.str [48], .int .i64 (z:Int)] (.str (List.replicate z 48)):=by
 refine VP.xk (r:={ val := .str (List.replicate z 48) }) (aq.tz Tryz.func130 (by kernel_rfl) (by kernel_rfl) ?_) (fun _ _ _ _ _=>by simp only [aD];exact id)
 intro own E w σ vs _ hi hr
 simp only [aF] at hr
 obtain ⟨v,_,rfl,rfl,v2,_,rfl,rfl,rfl⟩:=hr
 refine (Tryz.WZ z hz w).mono ?_
 rintro e W' ⟨rfl,hB⟩
 exact ⟨_,rfl,hB,fun E w=>by simp only [aD]⟩
end
end Go.Proofs
namespace Go.Proofs.YtcomlgfjnjpebaaGreatDoor
section
open Go.VL Go.Proofs
theorem VW.Z4 {P:Program} {G:Nat->Option (List AV)} {π : VL.Id} {c:bA} (hs:List (Hint P G)) {t0:List AV} (S0:List (VL.Id × a8)) {n0:Nat} {rs:List pO} {r:AV} [hp:PU r]
   (hr:BX rs (eC true 1000 c π hs ⟨t0,rE S0,n0⟩)=BZ r (eC true 1000 c π hs ⟨t0,rE S0,n0⟩)):VW P G π c (Dp rs r) ⟨t0,aa.of S0,n0⟩:=by
 rw [<- uh]
 cases hx:eC true 1000 c π hs ⟨t0,rE S0,n0⟩ with
 | none=>rw [hx] at hr;simp [BX,BZ] at hr
 | some y =>
   obtain ⟨cs,dr,e,s⟩:=y
   rw [hx] at hr
   simp only [BX,BZ,Option.some.injEq,Prod.mk.injEq] at hr
   refine (dz 1000 _ _ _ _ _ _ _ _ hx (mX.of_map hr.1)).mono fun e' s2 hq => ?_
   obtain ⟨rfl,rfl⟩:=hq
   exact ⟨rD hr.2.1,r,hr.2.2,View.pure hp.pure⟩
section
variable {G:Nat->Option (List AV)}
instance {n1:Bool} {w1:List Nat} {n2:Bool} {w2:List Nat}:PU (RR n1 w1 n2 w2):=by unfold RR;infer_instance
theorem Zf {Q:bB->VS->Prop} (e:AV) (op:Int) (n1:Bool) (w1:List Nat) (n2:Bool) (w2:List Nat) (nm:List UInt8) (args:List EX) (he:e = .agg [.int .i64 op, .bool n1, .sl 1 (us w1), .bool n2, .sl 1 (us w2), .str nm, .sl 7 (EX.dy args)])
   (h:VW Tryz.prog G [] (oP 2 (cn 119).body) Q ⟨[.top, .ref [0] 0 0, .bool false, .bool (tW n1 w1 n2 w2)]++List.replicate 102 .top,aa.of [([0],⟨[e],7,false⟩)],60⟩) :
   VW Tryz.prog G [] (cn 119).body Q ⟨[e]++List.replicate 105 (.tup []),bP.to (rE []),0⟩:=by
 subst he
 have d1:decide (((us w1).length:Int)=0)=w1.isEmpty:=by rw [dD];cases w1<;>simp<;>omega
 have d2:decide (((us w2).length:Int)=0)=w2.isEmpty:=by rw [dD];cases w2<;>simp<;>omega
 unfold tW at h
 generalize w1.isEmpty=b1 at d1 h
 generalize w2.isEmpty=b2 at d2 h
 cases n1<;>cases b1<;>cases n2<;>cases b2 <;>
 exact VW.SB 2 [hb 24 d1,hb 32 d2] [] _ _ 60 (by kernel_rfl) h
theorem aci (op:Int) (n1:Bool) (w1:List Nat) (n2:Bool) (w2:List Nat) (nm:List UInt8) (args:List EX)
   (hd:∃ s,VP Tryz.prog G 134 [RR n1 w1 n2 w2] (.tup [.str s, .bool (F8 n1 w1 n2 w2)])) (hn:VP Tryz.prog G 60 [.str nm] (.bool (b7 nm))) :
   VP Tryz.prog G 119 [(EX.mk op n1 w1 n2 w2 nm args).av] (.bool (zj op n1 w1 n2 w2 nm args.length)):=by
 obtain ⟨s,hd⟩:=hd
 have l (q:Nat):decide (((EX.dy args).length:Int)=(q:Int))=decide (args.length=q):=by rw [EX.cL];by_cases h:args.length=q<;>simp [h]<;>omega
 have he:(nm==[])=nm.isEmpty:=A5 nm
 refine VP.abT hN ?_
 rw [EX.av]
 refine Zf _ op n1 w1 n2 w2 nm args rfl ?_
 unfold zj
 generalize F8 n1 w1 n2 w2=D at *
 generalize b7 nm=N at *
 generalize nm.isEmpty=E at *
 generalize tW n1 w1 n2 w2=Z
 by_cases h1:op=1
 . have l:=l 0
   subst h1
   rw [if_pos rfl]
   generalize decide (args.length=0)=L at *
   cases E
   . cases D<;>cases N<;>cases L<;>exact VW.Z4 [hc hd,hb 48 he,hc hn,hb 59 l] _ (by kernel_rfl)
   . cases D<;>cases L<;>exact VW.Z4 [hc hd,hb 48 he,hb 59 l] _ (by kernel_rfl)
 rw [if_neg h1]
 have d1:=ag h1
 by_cases h2:op=2
 . have l:=l 0
   subst h2
   rw [if_pos rfl]
   generalize decide (args.length=0)=L at *
   cases Z<;>cases N<;>cases L<;>exact VW.Z4 [hc hn,hb 73 l] _ (by kernel_rfl)
 rw [if_neg h2]
 have d2:=ag h2
 by_cases h3:op=3
 . have l:=l 1
   subst h3
   rw [if_pos rfl]
   generalize decide (args.length=1)=L at *
   cases Z<;>cases E<;>cases L<;>exact VW.Z4 [hb 81 he,hb 87 l] _ (by kernel_rfl)
 rw [if_neg h3]
 have d3:=ag h3
 by_cases h4:4<=op/\op<=7
 . have l:=l 2
   rw [if_pos h4]
   generalize decide (args.length=2)=L at *
   have h:op=4∨op=5∨op=6∨op=7:=by omega
   rcases h with rfl | rfl | rfl | rfl<;>cases Z<;>cases E<;>cases L<;>exact VW.Z4 [hb 98 he,hb 104 l] _ (by kernel_rfl)
 rw [if_neg h4]
 exact VW.Z4 [hb 37 d1,hb 62 d2,hb 76 d3,hb 90 (ag (by omega : ¬ op=4)),hb 91 (ag (by omega : ¬ op=5)),hb 92 (ag (by omega : ¬ op=6)),hb 93 (ag (by omega : ¬ op=7))] _ (by kernel_rfl)
end
def gN (m:Int):Nat->Option (List AV)
 | 0=>some OD
 | 1=>some [.int .i64 m]
 | 2=>some GH
 | _=>none
section
variable (m:Int)
theorem fm1 {n1:Bool} {w1:List Nat} {n2:Bool} {w2:List Nat} {nm:List UInt8} {args:List EX} {D E N L:Bool} (hd:∃ s,VP Tryz.prog (gN m) 104 [RR n1 w1 n2 w2] (.tup [.str s, .bool D])) (he:(nm==[])=E) (hn:VP Tryz.prog (gN m) 50 [.str nm] (.bool N)) (hl:(((EX.dy args).length:Int) != 0) = !L) :
   VP Tryz.prog (gN m) 78 [.agg [.int .i64 1, .bool n1, .sl 1 (us w1), .bool n2, .sl 1 (us w2), .str nm, .sl 7 (EX.dy args)]] (.bool (L&&(D&&(E||N)))):=by
 obtain ⟨s,hd⟩:=hd
 cases L<;>cases D<;>cases E<;>cases N<;>exact vt [hb 21 hl,hc hd,hb 37 he,hc hn]
theorem fm2 {n1:Bool} {w1:List Nat} {n2:Bool} {w2:List Nat} {nm:List UInt8} {args:List EX} {Z N L:Bool} (hno:VP Tryz.prog (gN m) 105 [RR n1 w1 n2 w2] (.bool Z)) (hn:VP Tryz.prog (gN m) 50 [.str nm] (.bool N)) (hl:(((EX.dy args).length:Int) != 0) = !L) :
   VP Tryz.prog (gN m) 78 [.agg [.int .i64 2, .bool n1, .sl 1 (us w1), .bool n2, .sl 1 (us w2), .str nm, .sl 7 (EX.dy args)]] (.bool (L&&(Z&&N))):=by
 cases L<;>cases Z<;>cases N<;>exact vt [hb 21 hl,hc hno,hc hn]
theorem fm3 {op:Int} {q:Int} (ho:op=3/\q=1∨(op=4∨op=5∨op=6∨op=7)/\q=2) {n1:Bool} {w1:List Nat} {n2:Bool} {w2:List Nat} {nm:List UInt8} {args:List EX} {Z E F L:Bool} (hno:VP Tryz.prog (gN m) 105 [RR n1 w1 n2 w2] (.bool Z)) (he:(nm==[])=E)
   (hf:VP Tryz.prog (gN m) 54 [.sl 7 (EX.dy args), .fn (.func 106) [] []] (.bool (!F))) (hl:(((EX.dy args).length:Int) != q) = !L) :
   VP Tryz.prog (gN m) 78 [.agg [.int .i64 op, .bool n1, .sl 1 (us w1), .bool n2, .sl 1 (us w2), .str nm, .sl 7 (EX.dy args)]] (.bool (L&&(Z&&E&&F))):=by
 rcases ho with ⟨rfl,rfl⟩ | ⟨rfl | rfl | rfl | rfl,rfl⟩<;>cases L<;>cases Z<;>cases E<;>cases F<;>exact vt [hb 21 hl,hc hno,hb 60 he,hc hf]
theorem fm0 {op:Int} (h:op<1∨7<op) {n1:Bool} {w1:List Nat} {n2:Bool} {w2:List Nat} {nm:List UInt8} {args:List EX} :
   VP Tryz.prog (gN m) 78 [.agg [.int .i64 op, .bool n1, .sl 1 (us w1), .bool n2, .sl 1 (us w2), .str nm, .sl 7 (EX.dy args)]] (.bool false):=by
 rcases h with h | h
 . exact vt [hb 7 (ai h)]
 . exact vt [hb 7 (ag (by omega : ¬ op<1)),hb 11 (show decide (op>7)=true from ai h)]
theorem acj {x:EX} {F:Bool} (h:VP Tryz.prog (gN m) 78 [x.av] (.bool F)):VP Tryz.prog (gN m) 106 [x.av] (.bool (!F)):=by
 obtain ⟨op,n1,w1,n2,w2,nm,args⟩:=x
 rw [EX.av] at *
 cases F<;>exact vt [hc h]
theorem afN (hd:∀ n1 w1 n2 w2,Wd w1->Wd w2->w1.length<=8->w2.length<=8->∃ s,VP Tryz.prog (gN m) 104 [RR n1 w1 n2 w2] (.tup [.str s, .bool (F8 n1 w1 n2 w2)])) (hn:∀ s,VP Tryz.prog (gN m) 50 [.str s] (.bool (b7 s)))
   (hno:∀ n1 w1 n2 w2,VP Tryz.prog (gN m) 105 [RR n1 w1 n2 w2] (.bool (tW n1 w1 n2 w2))) (hcf:∀ args:List EX,args.length<=999->(∀ x∈args,VP Tryz.prog (gN m) 106 [x.av] (.bool (!x.formed)))->VP Tryz.prog (gN m) 54 [.sl 7 (EX.dy args), .fn (.func 106) [] []] (.bool (!EX.pA args))) :
   ∀ e:EX,e.Ok->e.lT=true->e.nodes<=1000->VP Tryz.prog (gN m) 78 [e.av] (.bool e.formed):=EX.induct fun op n1 w1 n2 w2 nm args ih dI PI AW=>by
 have vN:EX.cK args<=999:=by rw [EX.nodes] at AW;omega
 have abJ:args.length<=999:=Nat.le_trans (EX.Cs args) vN
 obtain ⟨WH,lF,sD,afh⟩:=EX.r5 PI
 have RA:=EX.pB dI
 rw [EX.Ok] at dI
 obtain ⟨ho1,ho2,mW,th,_,_,_,GN,_⟩:=dI
 have hcc:=hcf args abJ fun x hx=>by
   exact acj m (ih x hx (RA x hx) (WH x hx) (by have:=EX.qP hx;omega))
 have hdd:=hd n1 w1 n2 w2 mW th lF sD
 have l (q:Nat):(((EX.dy args).length:Int) != (q:Int)) = !decide (args.length=q):=by rw [EX.cL];by_cases h:args.length=q<;>simp [h,bne]<;>omega
 rw [EX.av,EX.formed]
 by_cases h0:op<1∨7<op
 . rw [show (decide (1<=op)&&decide (op<=7))=false by simp;omega]
   exact fm0 m h0
 rw [show (decide (1<=op)&&decide (op<=7))=true by simp;omega,Bool.true_and]
 by_cases h1:op=1
 . subst h1
   exact fm1 m hdd (A5 nm) (hn nm) (l 0)
 by_cases h2:op=2
 . subst h2
   exact fm2 m (hno n1 w1 n2 w2) (hn nm) (l 0)
 rw [if_neg h1,if_neg h2]
 by_cases h3:op=3
 . subst h3
   exact fm3 m (q:=1) (.inl ⟨rfl,rfl⟩) (hno n1 w1 n2 w2) (A5 nm) hcc (l 1)
 . have e:arity op=2:=by unfold arity;rw [if_neg (by omega),if_neg (by omega)]
   rw [e]
   exact fm3 m (q:=2) (.inr ⟨by omega,rfl⟩) (hno n1 w1 n2 w2) (A5 nm) hcc (l 2)
end
end
section
open Go.VL Go.Proofs
theorem CW:Has Tryz.prog 74 (rF):=⟨_,Tryz.func74,by kernel_rfl⟩
theorem zC:Has Tryz.prog 50 (j9 73 74 75):=⟨_,Tryz.func50,by kernel_rfl⟩
theorem sN:Has Tryz.prog 13 (kR):=⟨_,Tryz.func13,by kernel_rfl⟩
theorem yn:Has Tryz.prog 29 (k7 50 51 52 54 55):=⟨_,Tryz.func29,by kernel_rfl⟩
theorem ku:Has Tryz.prog 51 (cH 76):=⟨_,Tryz.func51,by kernel_rfl⟩
theorem kV:Has Tryz.prog 76 (dv):=⟨_,Tryz.func76,by kernel_rfl⟩
theorem eT:Has Tryz.prog 54 (cu 77):=⟨_,Tryz.func54,by kernel_rfl⟩
theorem fU:Has Tryz.prog 77 (cE):=⟨_,Tryz.func77,by kernel_rfl⟩
theorem s9:Has Tryz.prog 37 (iN 63 62):=⟨_,Tryz.func37,by kernel_rfl⟩
theorem iI:Has Tryz.prog 62 (bz):=⟨_,Tryz.func62,by kernel_rfl⟩
theorem qY:Has Tryz.prog 63 (jV):=⟨_,Tryz.func63,by kernel_rfl⟩
theorem du:Has Tryz.prog 38 (a7):=⟨_,Tryz.func38,by kernel_rfl⟩
theorem lW:Has Tryz.prog 39 (dO 64 65 66):=⟨_,Tryz.func39,by kernel_rfl⟩
theorem fk:Has Tryz.prog 64 (aR):=⟨_,Tryz.func64,by kernel_rfl⟩
theorem cU:Has Tryz.prog 65 (aE):=⟨_,Tryz.func65,by kernel_rfl⟩
theorem ow:Has Tryz.prog 40 (iH 11 37):=⟨_,Tryz.func40,by kernel_rfl⟩
theorem yo:Has Tryz.prog 11 (k8 29 30 31 32):=⟨_,Tryz.func11,by kernel_rfl⟩
theorem gW:Has Tryz.prog 41 (eu 36 67 68):=⟨_,Tryz.func41,by kernel_rfl⟩
theorem dX:Has Tryz.prog 67 (aT):=⟨_,Tryz.func67,by kernel_rfl⟩
theorem cF:Has Tryz.prog 36 (bq):=⟨_,Tryz.func36,by kernel_rfl⟩
theorem jI:Has Tryz.prog 16 (bV 36 39):=⟨_,Tryz.func16,by kernel_rfl⟩
theorem qZ:Has Tryz.prog 145 (dt):=⟨_,Tryz.func145,by kernel_rfl⟩
theorem um:Has Tryz.prog 142 (jg 145):=⟨_,Tryz.func142,by kernel_rfl⟩
theorem uW:Has Tryz.prog 144 (lJ 143 167):=⟨_,Tryz.func144,by kernel_rfl⟩
theorem zD:Has Tryz.prog 207 (n5):=⟨_,Tryz.func207,by kernel_rfl⟩
theorem yp:Has Tryz.prog 208 (mZ 145):=⟨_,Tryz.func208,by kernel_rfl⟩
theorem yq:Has Tryz.prog 168 (na 145):=⟨_,Tryz.func168,by kernel_rfl⟩
theorem ta:Has Tryz.prog 191 (iJ):=⟨_,Tryz.func191,by kernel_rfl⟩
theorem sj:Has Tryz.prog 194 (ij):=⟨_,Tryz.func194,by kernel_rfl⟩
theorem sk:Has Tryz.prog 189 (ke 145 142):=⟨_,Tryz.func189,by kernel_rfl⟩
theorem wG:Has Tryz.prog 164 (mi 144 95 165 142 189 190 191 145 192 193 194):=⟨_,Tryz.func164,by kernel_rfl⟩
theorem uo:Has Tryz.prog 192 (jh):=⟨_,Tryz.func192,by kernel_rfl⟩
theorem uX:Has Tryz.prog 193 (jZ):=⟨_,Tryz.func193,by kernel_rfl⟩
theorem yr:Has Tryz.prog 136 (nb):=⟨_,Tryz.func136,by kernel_rfl⟩
theorem AM:Has Tryz.prog 139 (pX 145 164 95 141 165 142):=⟨_,Tryz.func139,by kernel_rfl⟩
theorem uY:Has Tryz.prog 90 (lK):=⟨_,Tryz.func90,by kernel_rfl⟩
theorem yt:Has Tryz.prog 166 (nd):=⟨_,Tryz.func166,by kernel_rfl⟩
theorem uq:Has Tryz.prog 195 (lf):=⟨_,Tryz.func195,by kernel_rfl⟩
theorem uZ:Has Tryz.prog 143 (lL 166):=⟨_,Tryz.func143,by kernel_rfl⟩
theorem sn:Has Tryz.prog 167 (kf 195):=⟨_,Tryz.func167,by kernel_rfl⟩
theorem fy:Has Tryz.prog 95 (aQ):=⟨_,Tryz.func95,by kernel_rfl⟩
theorem q7:Has Tryz.prog 203 (sR):=⟨_,Tryz.func203,by kernel_rfl⟩
theorem qb:Has Tryz.prog 183 (rM 203):=⟨_,Tryz.func183,by kernel_rfl⟩
theorem qc:Has Tryz.prog 213 (ji):=⟨_,Tryz.func213,by kernel_rfl⟩
theorem ox:Has Tryz.prog 184 (iA):=⟨_,Tryz.func184,by kernel_rfl⟩
theorem q8:Has Tryz.prog 224 (jM 203):=⟨_,Tryz.func224,by kernel_rfl⟩
theorem kW:Has Tryz.prog 217 (dQ 203):=⟨_,Tryz.func217,by kernel_rfl⟩
theorem kX:Has Tryz.prog 205 (gD 203):=⟨_,Tryz.func205,by kernel_rfl⟩
theorem tc:Has Tryz.prog 186 (kI 203):=⟨_,Tryz.func186,by kernel_rfl⟩
theorem oQ:Has Tryz.prog 214 (gm):=⟨_,Tryz.func214,by kernel_rfl⟩
theorem oy:Has Tryz.prog 215 (fW):=⟨_,Tryz.func215,by kernel_rfl⟩
theorem q9:Has Tryz.prog 218 (jN 203):=⟨_,Tryz.func218,by kernel_rfl⟩
theorem qd:Has Tryz.prog 216 (gG 205 203 184 217):=⟨_,Tryz.func216,by kernel_rfl⟩
theorem oR:Has Tryz.prog 204 (iT 184 213 183 186 214 215 203 216 217 218):=⟨_,Tryz.func204,by kernel_rfl⟩
theorem sq:Has Tryz.prog 181 (kj 203 204 182):=⟨_,Tryz.func181,by kernel_rfl⟩
theorem oU:Has Tryz.prog 162 (iU 185 186):=⟨_,Tryz.func162,by kernel_rfl⟩
theorem rb:Has Tryz.prog 161 (jO 184):=⟨_,Tryz.func161,by kernel_rfl⟩
theorem qe:Has Tryz.prog 157 (rP 178 179 181 180):=⟨_,Tryz.func157,by kernel_rfl⟩
theorem re:Has Tryz.prog 99 (jQ 121):=⟨_,Tryz.func99,by kernel_rfl⟩
theorem kv:Has Tryz.prog 121 (et):=⟨_,Tryz.func121,by kernel_rfl⟩
theorem rf:Has Tryz.prog 158 (sU 179):=⟨_,Tryz.func158,by kernel_rfl⟩
theorem nE:Has Tryz.prog 104 (gn 123 124 125 126 127 128 129 130):=⟨_,Tryz.func104,by kernel_rfl⟩
theorem zE:Has Tryz.prog 105 (oh):=⟨_,Tryz.func105,by kernel_rfl⟩
theorem yu:Has Tryz.prog 79 (nk 79):=⟨_,Tryz.func79,by kernel_rfl⟩
theorem yv:Has Tryz.prog 56 (jF 78 79):=⟨_,Tryz.func56,by kernel_rfl⟩
theorem kx:Has Tryz.prog 134 (dx 157 158 159 160 161 162 163):=⟨_,Tryz.func134,by kernel_rfl⟩
theorem oV:Has Tryz.prog 93 (gp 119 93):=⟨_,Tryz.func93,by kernel_rfl⟩
theorem qf:Has Tryz.prog 94 (jt 94):=⟨_,Tryz.func94,by kernel_rfl⟩
theorem qg:Has Tryz.prog 61 (eS 93 94):=⟨_,Tryz.func61,by kernel_rfl⟩
theorem qh:Has Tryz.prog 48 (jv 48):=⟨_,Tryz.func48,by kernel_rfl⟩
theorem qi:Has Tryz.prog 49 (jy 49):=⟨_,Tryz.func49,by kernel_rfl⟩
theorem qj:Has Tryz.prog 28 (gH 48 49):=⟨_,Tryz.func28,by kernel_rfl⟩
theorem oW:Has Tryz.prog 60 (eI 92):=⟨_,Tryz.func60,by kernel_rfl⟩
theorem rh:Has Tryz.prog 92 (fJ 117 118):=⟨_,Tryz.func92,by kernel_rfl⟩
theorem oY:Has Tryz.prog 117 (qM):=⟨_,Tryz.func117,by kernel_rfl⟩
theorem qk:Has Tryz.prog 118 (rV):=⟨_,Tryz.func118,by kernel_rfl⟩
theorem oz:Has Tryz.prog 34 (iF 60):=⟨_,Tryz.func34,by kernel_rfl⟩
theorem lX:Has Tryz.prog 35 (kq):=⟨_,Tryz.func35,by kernel_rfl⟩
theorem ql:Has Tryz.prog 33 (cD 60 61 34):=⟨_,Tryz.func33,by kernel_rfl⟩
theorem qm:Has Tryz.prog 12 (gI 33 34 35):=⟨_,Tryz.func12,by kernel_rfl⟩
theorem qn:Has Tryz.prog 10 (dR 28):=⟨_,Tryz.func10,by kernel_rfl⟩
theorem sr:Has Tryz.prog 53 (dN 30 50):=⟨_,Tryz.func53,by kernel_rfl⟩
theorem u0:Has Tryz.prog 52 (lR 53):=⟨_,Tryz.func52,by kernel_rfl⟩
theorem u5:Has Tryz.prog 55 (lS 56):=⟨_,Tryz.func55,by kernel_rfl⟩
end
section
open Go.VL Go.Proofs
section
variable (G:Nat->Option (List AV))
theorem t145:gU Tryz.prog G 145:=fun _ hw hl=>MD qZ hw hl
theorem c95 (n:Nat) (hn:ab n<=1000000):VP Tryz.prog G 95 [W n] (W n):=EA fy n hn
theorem S3:iM Tryz.prog G 141:=IM (t145 G)
theorem Nq (n:Nat) (hn:n<18446744073709551616):VP Tryz.prog G 142 [.int .u64 ((n:Nat):Int)] (W n):=z8 um (t145 G) n hn
theorem W6 (n:Nat) (hn:n<18446744073709551616):VP Tryz.prog G 165 [W n] (.int .u64 ((n:Nat):Int)):=Tryz.toUint_vp G n hn
theorem n166 (a:Int):VP Tryz.prog G 166 [.int .i64 a] (.bool false):=Km yt a
theorem n195 (a:Int):VP Tryz.prog G 195 [.int .u32 a] (.bool false):=Ds uq a
theorem ack (a b:Int):VP Tryz.prog G 143 [.int .i64 a, .int .i64 b] (.int .i64 (iy a b)):=Kn uZ (n166 G) a b
theorem afP (a b:Int):VP Tryz.prog G 167 [.int .u32 a, .int .u32 b] (.int .i64 (iy a b)):=Dt sn (n195 G) a b
theorem acm (m n:Nat) (hm:ab m<=1000000) (hn:ab n<=1000000):VP Tryz.prog G 144 [W m,W n] (.int .i64 (gr m n)):=Ko uW (ack G) (afP G) m n (by omega) (by omega)
theorem afQ (m n:Nat) (hm:ab m<=1000000) (hn:ab n<=1000000):VP Tryz.prog G 207 [W m,W n] (W (m+n)):=Um zD m n hm hn
theorem afR (m n:Nat) (yI:n<=m) (hm:ab m<=1000000):VP Tryz.prog G 208 [W m,W n] (W (m-n)):=QR yp (t145 G) m n yI hm
theorem afS (m n:Nat) (hm:ab m<=1000000) (hn:ab n<=1000000):VP Tryz.prog G 168 [W m,W n] (W (m*n)):=QS yq (t145 G) m n hm hn
theorem d189 (m w:Nat) (hm:ab m<=1000000) (hw:w<au) (h0:w≠0):VP Tryz.prog G 189 [W m, .int .u32 (w:Int)] (.tup [W (m/w),W (m%w)]):=Du sk (t145 G) (Nq G) m w hm hw h0
theorem l90 (x:Nat) (hx:x<au):VP Tryz.prog G 90 [.int .u32 (x:Int)] (.int .i64 (ir x:Int)):=QZ uY x hx
theorem afT (x:Nat) (hx:x<au) (h0:0<x):VP Tryz.prog G 190 [.int .u32 (x:Int)] (.int .i64 ((32-ir x:Nat):Int)):=R4 (l90 G) x hx h0
theorem d164 (m n:Nat) (ry:n≠0) (hm:ab m<=900000) (hn:ab n<=900000):VP Tryz.prog G 164 [W m,W n] (.tup [W (m/n),W (m%n)]) :=
 Oo wG (acm G) (c95 G) (W6 G) (Nq G) (d189 G) (afT G) ta (t145 G) uo uX sj m n ry hm hn
theorem Zg (z:Int) (hz:ab z.natAbs<=1000000):VP Tryz.prog G 137 [IV z] (.int .i64 z.sign):=R3 (t145 G) z hz
theorem S4 (a:Int) (h1 : -9223372036854775808<=a) (h2:a<9223372036854775808):VP Tryz.prog G 126 [.int .i64 a] (IV a):=IU (Nq G) (S3 G) a h1 h2
theorem n169 (z:Int) (hz:ab z.natAbs<=1000000):VP Tryz.prog G 169 [IV z] (IV (-z)):=UX (t145 G) (c95 G) (S3 G) z hz
theorem acn (y z:Int) (hy:ab y.natAbs<=1000000) (hz:ab z.natAbs<=1000000):VP Tryz.prog G 146 [IV y,IV z] (IV (y*z)):=UY (t145 G) (afS G) (S3 G) y z hy hz
theorem afU (y z:Int) (hy:ab y.natAbs<=1000000) (hz:ab z.natAbs<=1000000):VP Tryz.prog G 127 [IV y,IV z] (.int .i64 (iy y z)):=UU (Zg G) (ack G) (t145 G) (acm G) y z hy hz
theorem aco (a b:Int) (Gb:b≠0) (ha:ab a.natAbs<=900000) (hb:ab b.natAbs<=900000):VP Tryz.prog G 196 [IV a,IV b] (.tup [IV (a.fdiv b),IV (a.fmod b), .int .i64 0]):=by
 have h:=KW (t145 G) (d164 G) (afQ G) (afR G) (S3 G) a b Gb ha hb
 rw [(Q4 a b Gb).1,(Q4 a b Gb).2] at h;exact h
theorem acp (a b:Int) (ha:ab a.natAbs<=900000) (hb:ab b.natAbs<=900000):VP Tryz.prog G 139 [IV a,IV b] (IV (Nat.gcd a.natAbs b.natAbs:Nat)):=XQ AM (t145 G) (d164 G) (c95 G) (S3 G) (W6 G) (Nq G) a b ha hb
theorem W7 (neg:Bool) (ws:List Nat) (hl:ws.length<=9223372036854775807):VP Tryz.prog G 136 [IR neg ws] (.bool (fj neg ws)):=Ol yr neg ws hl
theorem acq:VP Tryz.prog G 140 [] (IV 1):=UT (S4 G 1 (by decide) (by decide))
theorem i138 (z:Int):VP Tryz.prog G 138 [IV z] (.bool (decide (z=1))):=OY z
theorem afV (a b:Int) (Gb:b≠0) (ha:ab a.natAbs<=900000) (hb:ab b.natAbs<=900000):VP Tryz.prog G 170 [IV a,IV b] (IV (a.fdiv b)):=UW a b (i138 G b) (aco G a b Gb ha hb)
theorem Zh (a:Int) (h1 : -9223372036854775808<=a) (h2:a<9223372036854775808):VP Tryz.prog G 125 [.int .i64 a] (RV a 1):=Gl a (S4 G a h1 h2) (acq G)
theorem W8 (a b:Int) (ha:ab a.natAbs<=1000000):VP Tryz.prog G 124 [RV a b] (.int .i64 a.sign):=OV a b (Zg G a ha)
theorem acr (a b:Int) (Gb:b≠0) (ha:ab a.natAbs<=900000) (hb:ab b.natAbs<=900000) :
   VP Tryz.prog G 147 [IV a,IV b] (RV (a.fdiv (if b<0 then -(Nat.gcd a.natAbs b.natAbs:Nat) else (Nat.gcd a.natAbs b.natAbs:Nat))) (b.fdiv (if b<0 then -(Nat.gcd a.natAbs b.natAbs:Nat) else (Nat.gcd a.natAbs b.natAbs:Nat)))):=by
 have hg0:0<Nat.gcd a.natAbs b.natAbs:=Nat.gcd_pos_of_pos_right _ (by omega)
 have Nj:ab (Nat.gcd a.natAbs b.natAbs)<=900000:=Nat.le_trans (c9 (Nat.le_of_dvd (by omega) (Nat.gcd_dvd_right _ _))) hb
 refine KU a b (Nat.gcd a.natAbs b.natAbs:Nat) (acp G a b ha hb) (n169 G _ (by rw [Int.natAbs_natCast];omega)) ?_
 intro x y hx hy
 have Ut:y≠0:=by rcases hy with rfl | rfl<;>omega
 have hyl:ab y.natAbs<=900000:=by rcases hy with rfl | rfl<;>simpa using Nj
 exact afV G x y Ut (by rcases hx with rfl | rfl<;>assumption) hyl
theorem afW (a b:Nat) (hb:b≠0) (ha:ab a<=1000) (A2:ab b<=1000) :
   VP Tryz.prog G 128 [RV (a:Int) (b:Int),RV 10 1] (RV ((10*a/Nat.gcd (10*a) b:Nat):Int) ((b/Nat.gcd (10*a) b:Nat):Int)):=by
 have TK:ab 10<=1:=iK (by decide)
 have h1:ab 1<=1:=qG
 have e10:((10:Nat):Int)=10:=rfl
 have GM:ab ((a:Int)*10).natAbs<=900000:=by
   have:=oa a 10
   rw [show ((a:Int)*10).natAbs=a*10 from by omega];omega
 have sQ:ab ((b:Int)*1).natAbs<=900000:=by rw [show ((b:Int)*1).natAbs=b from by omega];omega
 have hl:=acr G ((a:Int)*10) ((b:Int)*1) (by omega) GM sQ
 have hg:Nat.gcd ((a:Int)*10).natAbs ((b:Int)*1).natAbs=Nat.gcd (10*a) b:=by rw [show ((a:Int)*10).natAbs=10*a from by omega,show ((b:Int)*1).natAbs=b from by omega]
 have hbp : ¬ ((b:Int)*1<0):=by omega
 rw [hg,if_neg hbp] at hl
 have f1:((a:Int)*10).fdiv (Nat.gcd (10*a) b:Nat)=((10*a/Nat.gcd (10*a) b:Nat):Int):=by
   rw [Int.fdiv_eq_ediv_of_nonneg _ (by omega),show (a:Int)*10=((10*a:Nat):Int) from by omega];rfl
 have f2:((b:Int)*1).fdiv (Nat.gcd (10*a) b:Nat)=((b/Nat.gcd (10*a) b:Nat):Int):=by
   rw [Int.fdiv_eq_ediv_of_nonneg _ (by omega),Int.mul_one];rfl
 rw [f1,f2] at hl
 have h:=R2 (a:Int) (b:Int) 10 1 _ rfl (i138 G) (acn G _ _ (by rw [Int.natAbs_natCast];omega) (by show ab 10<=_;omega)) (acn G _ _ (by rw [Int.natAbs_natCast];omega) (by show ab 1<=_;omega)) (acq G) hl
 by_cases sE:b=1
 . subst sE
   rw [if_pos ⟨rfl,rfl⟩] at h
   rw [Nat.gcd_one_right,Nat.div_one,Nat.div_one,show ((10*a:Nat):Int)=(a:Int)*10 from by omega]
   exact h
 . rw [if_neg (by omega)] at h;exact h
end
end
section
open Go.VL Go.Proofs
section
variable (G:Nat->Option (List AV))
theorem acs:Has Tryz.prog 203 dt:=q7
theorem afX:Has Tryz.prog 183 (jg 203):=qb
theorem t203:gU Tryz.prog G 203:=fun _ hw hl=>MD acs hw hl
theorem Lm:iM Tryz.prog G 182:=IP (t203 G)
theorem n185 (z:Int) (hz:ab z.natAbs<=1000000):VP Tryz.prog G 185 [IV z] (IV z):=OU (Lm G) z hz
theorem Zi (z:Int) (hz:ab z.natAbs<=1000000):VP Tryz.prog G 179 [IV z] (.int .i64 z.sign):=KX (n185 G) z hz
theorem acu (n:Nat) (hn:n<18446744073709551616):VP Tryz.prog G 183 [.int .u64 ((n:Nat):Int)] (W n):=z8 afX (t203 G) n hn
theorem S5 (a:Int) (h1 : -9223372036854775808<=a) (h2:a<9223372036854775808):VP Tryz.prog G 160 [.int .i64 a] (IV a):=KT (acu G) (Lm G) a h1 h2
theorem Zj (m n:Nat) (hm:ab m<=1000000) (hn:ab n<=1000000):VP Tryz.prog G 184 [W m,W n] (.int .i64 (gr m n)):=Im ox m n hm hn
theorem afY (m n:Nat) (hm:ab m<=1000000) (hn:ab n<=1000000):VP Tryz.prog G 224 [W m,W n] (W (m+n)):=Ri q8 (t203 G) m n hm hn
theorem afZ (m n:Nat) (yI:n<=m) (hm:ab m<=1000000):VP Tryz.prog G 217 [W m,W n] (W (m-n)):=EE kW (t203 G) m n yI hm
theorem acv (m:Nat) (ws:List Nat) (hw:Wd ws) (hm:ab m<=1000000) (hl:ws.length<=1000000):VP Tryz.prog G 205 [W m, .sl 1 (us ws)] (W (m*val ws)):=Ci kX (t203 G) m hw hm hl
theorem af0 (m n:Nat) (hm:ab m<=1000000) (hn:ab n<=1000000):VP Tryz.prog G 205 [W m,W n] (W (m*n)):=Ou kX (t203 G) m n hm hn
theorem acw (m w:Nat) (hm:ab m<=1000000) (hw:w<au) (h0:w≠0):VP Tryz.prog G 186 [W m, .int .u32 (w:Int)] (.tup [W (m/w), .int .u32 ((m%w:Nat):Int)]):=Yb tc (t203 G) m w hm hw h0
theorem acx (n:Nat) (hn:n<18446744073709551616):VP Tryz.prog G 213 [W n] (.int .u64 (n:Int)):=Rh qc n hn
theorem acy (m s:Nat) (hm:ab m<=1000000) (hs:s<=31):VP Tryz.prog G 218 [W m, .int .i64 (s:Int)] (W (m/2 ^ s)):=UB q9 (t203 G) m s hm hs
theorem d204 (m n:Nat) (ry:n≠0) (hm:ab m<=900000) (hn:ab n<=900000):VP Tryz.prog G 204 [W m,W n] (.tup [W (m/n),W (m%n)]) :=
 KB oR (Zj G) (acx G) (acu G) (acw G) oQ oy (t203 G) acs qd (acv G) kW (acy G) m n ry hm hn
theorem acz (z:Int) (hz:ab z.natAbs<=1000000):VP Tryz.prog G 223 [IV z] (IV (-z)):=RZ (Lm G) z hz
theorem af1 (a b:Int) (ha:ab a.natAbs<=1000000) (hb:ab b.natAbs<=1000000):VP Tryz.prog G 220 [IV a,IV b] (IV (a+b)):=R1 (n185 G) (afY G) (Lm G) (Zj G) (afZ G) a b ha hb
theorem acA (a b:Int) (ha:ab a.natAbs<=1000000) (hb:ab b.natAbs<=1000000):VP Tryz.prog G 219 [IV a,IV b] (IV (a-b)):=R5 (acz G) (af1 G) a b ha hb
theorem S6 (a b:Int) (ha:ab a.natAbs<=1000000) (hb:ab b.natAbs<=1000000):VP Tryz.prog G 187 [IV a,IV b] (IV (a*b)):=O0 (n185 G) (af0 G) (Lm G) a b ha hb
theorem acB (a b:Nat) (Gb:b≠0) (ha:ab a<=900000) (hb:ab b<=900000):VP Tryz.prog G 206 [IV (a:Int),IV (b:Int)] (.tup [IV ((a/b:Nat):Int),IV ((a%b:Nat):Int), .int .i64 0]) :=
 IW (n185 G) (d204 G) (Lm G) (S6 G) (acA G) (Zi G) a b Gb ha hb
theorem Zk (a b:Int) (ha:ab a.natAbs<=900000) (hb:ab b.natAbs<=900000):VP Tryz.prog G 181 [IV a,IV b] (IV (Nat.gcd a.natAbs b.natAbs:Nat)):=UE sq (t203 G) (d204 G) (Lm G) a b ha hb
theorem f162 (n:Nat) (hn:ab n<=1000000):VP Tryz.prog G 162 [IV (n:Int)] (.str (Lib.decDigits n)):=KC oU (n185 G) (acw G) n hn
theorem acC (a b:Int) (ha:ab a.natAbs<=1000000) (hb:ab b.natAbs<=1000000):VP Tryz.prog G 161 [IV a,IV b] (.bool (decide (a=b))):=Rq rb (Zj G) a b ha hb
theorem W9 (neg:Bool) (ws:List Nat) (hw:Wd ws) (hl:ws.length<=9223372036854775807):VP Tryz.prog G 178 [IR neg ws] (.bool (fj neg ws)):=IQ (t203 G) neg ws hw hl
theorem VE (a b:Nat) (Gb:b≠0) (ha:ab a<=900000) (hb:ab b<=900000):VP Tryz.prog G 188 [IV (a:Int),IV (b:Int)] (IV ((a/b:Nat):Int)):=O1 a b (acB G a b Gb ha hb)
theorem Zl (a:Int) (h1 : -9223372036854775808<=a) (h2:a<9223372036854775808):VP Tryz.prog G 159 [.int .i64 a] (RV a 1):=DB a (S5 G a h1 h2) (S5 G 1 (by decide) (by decide))
theorem Xa (z:Int):VP Tryz.prog G 180 [IV z] (.bool (decide (z=1))):=OZ z
theorem af2:Has Tryz.prog 158 (nc 179):=rf
theorem Xb (a b:Int) (ha:ab a.natAbs<=1000000):VP Tryz.prog G 158 [RV a b] (.int .i64 a.sign):=Q2 af2 a b (Zi G a ha)
theorem af3:Has Tryz.prog 157 (mj 178 179 181 180):=qe
theorem af4 (a b:Nat) (Gb:b≠0) (sE:b≠1) (hg:Nat.gcd a b=1) (ha:ab a<=1000) (A2:ab b<=1000) :
   VP Tryz.prog G 163 [RV (a:Int) (b:Int),RV 10 1] (RV ((10*a/Nat.gcd (10*a) b:Nat):Int) ((b/Nat.gcd (10*a) b:Nat):Int)):=by
 have TK:ab 10<=1:=iK (by decide)
 have h1:ab 1<=1:=qG
 have ha0:a≠0:=fun e=>by rw [e,Nat.gcd_zero_left] at hg;exact sE hg
 have JV:Nat.gcd (10*a) b=Nat.gcd 10 b:=Nat.Coprime.gcd_mul_right_cancel 10 hg
 have e:10*a/Nat.gcd (10*a) b=a*(10/Nat.gcd 10 b):=by
   rw [JV,Nat.mul_comm 10 a,Nat.mul_div_assoc _ (Nat.gcd_dvd_left _ _)]
 rw [e,JV]
 have n (x:Nat):((x:Int)).natAbs=x:=Int.natAbs_natCast x
 have g1:VP Tryz.prog G 181 [IV (a:Int),IV 1] (IV 1):=by have:=Zk G (a:Int) 1 (by rw [n];omega) (by show ab 1<=_;omega);rwa [n,show Int.natAbs 1=1 from rfl,Nat.gcd_one_right] at this
 have g2:VP Tryz.prog G 181 [IV 10,IV (b:Int)] (IV (Nat.gcd 10 b:Nat)):=Zk G 10 (b:Int) (by show ab 10<=_;omega) (by rw [n];omega)
 have acD:Nat.gcd 10 b<=10:=Nat.le_of_dvd (by decide) (Nat.gcd_dvd_left _ _)
 have hgp:0<Nat.gcd 10 b:=Nat.gcd_pos_of_pos_left _ (by decide)
 have y1:10/Nat.gcd 10 b<=10:=Nat.div_le_self _ _
 generalize Nat.gcd 10 b=k at *
 have w (x:Nat) (h:x<=10):ab x<=1:=Nat.le_trans (c9 h) TK
 have q1:=VE G a 1 (by decide) (by omega) (by omega)
 have q2:=VE G 10 k (by omega) (by omega) (by have:=w k acD;omega)
 have q3:=VE G b k (by omega) (by omega) (by have:=w k acD;omega)
 have q4:=VE G 1 1 (by decide) (by omega) (by omega)
 rw [Nat.div_one] at q1 q4
 have m1:=S6 G (a:Int) ((10/k:Nat):Int) (by rw [n];omega) (by rw [n];have:=w _ y1;omega)
 have m2:=S6 G ((b/k:Nat):Int) 1 (by rw [n];exact Nat.le_trans (c9 (Nat.div_le_self _ _)) (by omega)) (by show ab 1<=_;omega)
 rw [<- Int.natCast_mul] at m1
 rw [Int.mul_one] at m2
 have z1:decide ((ab a:Int)=0)=false:=ag (by have := @bC a;omega)
 have z2:decide ((ab 10:Int)=0)=false:=ag (by have := @bC 10;omega)
 have z3:decide ((b:Int)=1)=false:=ag (by omega)
 exact vt [ho 10 (@bc a),hb 11 z1,ho 16 (@bc 10),hb 17 z2,hc (Xa G (b:Int)),hb 23 z3,hc g1,hc g2,hc q1,hc q2,hc m1,hc q3,hc q4,hc m2]
end
end
end Go.Proofs.YtcomlgfjnjpebaaGreatDoor
