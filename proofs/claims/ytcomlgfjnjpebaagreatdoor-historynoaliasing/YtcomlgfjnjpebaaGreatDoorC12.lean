/- For every input, HistoryNoAliasing returns true, and its arguments read afterwards as they read before. Conditions: the card's (the listed package-level variables start as the program's text lays them). -/
import Derived.Test.YtcomlgfjnjpebaaGreatDoorC11
import Derived.Test.YtcomlgfjnjpebaaGreatDoorC04
import Derived.Test.YtcomlgfjnjpebaaGreatDoorC08
import Derived.Test.YtcomlgfjnjpebaaGreatDoorProg
import Derived.KernelRfl
import Derived.Test.YtcomlgfjnjpebaaGreatDoorC03
import Derived.Test.YtcomlgfjnjpebaaGreatDoorC07
import Derived.Test.YtcomlgfjnjpebaaGreatDoorC10
import Derived.Deep.Slices
import Derived.OpenShut
import Derived.ProofKit
import Derived.Test.YtcomlgfjnjpebaaGreatDoorRows
import Derived.Test.YtcomlgfjnjpebaaGreatDoorTie
import Derived.Test.YtcomlgfjnjpebaaGreatDoorCards
import Derived.LaidMore
import Derived.DataShut
import Derived.Stop.Joined
import Derived.SevenTiedAt
import Derived.HandedShaped
import Derived.Lib.LaidU8
set_option linter.unusedSimpArgs false
set_option linter.unusedVariables false
set_option maxRecDepth 100000
namespace Go.VL
structure Nr (w w':World) (g:Nat) (row:List Value):Prop where
 os:w'.os=w.os
 tape:w'.tape=w.tape
 output:w'.output=w.output
 size:w.heap.size<=w'.heap.size
 other:∀ k,k<w.heap.size->k≠g->w'.heap[k]? = w.heap[k]?
 here:∀ cur ty,w.heap[g]? = some (.cells cur ty (0,0))->∃ vK,w'.heap[g]? = some (.cells vK ty (0,0))/\vK.size=cur.size/\∀ (j:Nat) v,row[j]? = some v->vK[j]? = some v
theorem zG:∀ {es:List AV},(∀ e∈es,e.cells=[e])->flat es=es
 | [],_=>rfl
 | e::es,h=>by
   have h1:flat (e::es)=e.cells++flat es:=rfl
   rw [h1,h e (by simp),zG fun x hx=>h x (by simp [hx])];rfl
theorem aq.CX {P:Program} {G:Nat->Option (List AV)} {f:FuncId} {fn:Func} (hf:P.funcs[f]? = some fn) (qy:(fn.name == "runtime.NumGoroutine")=false) (hb:fn.body.isSome=true) {id p:Id} (hid : ¬ p <:+ id)
   {es es':List AV} (hlen:es'.length=es.length) (hc':∀ e∈es',e.cells=[e]) (hc:∀ e∈es,e.cells=[e]) {val:AV} {row:List Value} (pQ:∀ E w,aF E w es' row)
   (hval:∀ E w (g N cap:Nat),E.μ id=some (g,1,N)->es.length<=cap->cap=N->N<=maxLen->∀ v,(v=Value.tuple #[]/\val = .tup [])∨(∃ m,m<=es.length/\v = .slice (some ⟨g,0,none⟩) m cap/\val = .osl id 1 0 m false)->aD E w val v)
   (h:∀ (w:World) (g cap:Nat) (cur:Array Value) (ty:TypeId) (E:Env),w.heap[g]? = some (.cells cur ty (0,0))->es.length<=cap->cap<=maxLen->(∀ (j:Nat) c,es[j]? = some c->∃ v,cur[j]? = some v/\aD E w c v) ->
     Calls P f #[.slice (some ⟨g,0,none⟩) es.length cap] w fun e w'=>∃ v,e = .returned v/\((v=Value.tuple #[]/\val = .tup [])∨(∃ m,m<=es.length/\v = .slice (some ⟨g,0,none⟩) m cap/\val = .osl id 1 0 m false))/\Nr w w' g row) :
   aq P G f [.osl id 1 0 es.length false] p [(id,⟨es,1,false⟩)] { val:=val,rd:=[id],up:=[(id,some ⟨es',1,false⟩)] }:=by
 refine ⟨⟨fn,hf,qy,hb⟩,fun own E w σ vs hS hi hr _ => ?_⟩
 have hσ : σ id=some ⟨es,1,false⟩:=hS (id,⟨es,1,false⟩) (by simp)
 obtain ⟨g,N,cur,ty,hB⟩:=hi.blk id _ hσ
 simp only [aF,aD] at hr
 obtain ⟨v,_,rfl,⟨g',N',cap,hm,rfl,hle,ahB,hN,Bn⟩,rfl⟩:=hr
 rw [hB.μ] at hm
 simp only [Option.some.injEq,Prod.mk.injEq] at hm
 obtain ⟨rfl,_,rfl⟩:=hm
 simp only [Bool.false_eq_true,if_false,Nat.zero_add] at Bn
 subst Bn
 have J0:∀ (j:Nat) c,es[j]? = some c->∃ v,cur[j]? = some v/\aD E w c v:=fun j c hj=>by
   have h1:=hB.row j c (by show (flat es)[j]? = some c;rw [zG hc];exact hj)
   rw [Nat.zero_add] at h1
   obtain ⟨v,hv,uO⟩:=h1
   refine ⟨v, ?_,uO⟩
   have:=hv
   unfold World.cell? at this
   rw [show ((⟨g,j,none⟩:Addr)).block=g from rfl,hB.heap] at this
   simpa using this
 refine (h w g cap cur ty E hB.heap hle hN J0).mono ?_
 rintro e w' ⟨v,rfl,hv,hR⟩
 obtain ⟨vK,Xc,hsz,acE⟩:=hR.here cur ty hB.heap
 have hno:=hB.no rfl
 have hs:Step E E w w':=⟨fun _ _ h=>h,fun _ h=>h,fun b hb=>hR.other b (hi.okb b hb) (fun e=>hno (e▸hb))⟩
 have dS:Adv own E E w w':=⟨hs,hR.os,hR.tape,hR.output,hR.size,fun k hk hnk=>hR.other k hk (fun e=>hnk (e▸hB.own)),fun _ h => .inl h⟩
 refine ⟨v,E,rfl,dS,⟨fun b hb=>Nat.lt_of_lt_of_le (hi.okb b hb) hR.size, ?_, ?_, ?_,fun k hk=>hi.new k (Nat.le_trans hR.size hk)⟩,hval E w' g cap cap hB.μ hle rfl hN v hv,fun _ _=>rfl⟩
 . intro i Ar fK
   by_cases cI:i=id
   . subst cI
     simp only [aa.app,aa.a6,Option.some.injEq] at fK
     subst fK
     refine ⟨g,cap,vK,ty,hB.μ,Xc,by rw [hsz];exact hB.size,by show es'.length<=cap;omega,hB.most,hB.own,by simp,hB.no, ?_, ?_⟩
     . intro e he;show e.cells.length=1;rw [hc' e he];rfl
     . intro j c hj
       have hj':es'[j]? = some c:=by
         have:flat es'=es':=zG hc'
         rw [<- this];exact hj
       obtain ⟨v,hv,uO⟩:=(bj.1 (pQ E w')).2 j c hj'
       refine ⟨v, ?_,uO⟩
       unfold World.cell?
       rw [Nat.zero_add,show ((⟨g,j,none⟩:Addr)).block=g from rfl,Xc]
       simpa using acE j v hv
   . simp only [aa.app] at fK
     rw [aa.bb _ _ _ cI] at fK
     obtain ⟨g2,N2,Kc,ZG,ny⟩:=hi.blk i Ar fK
     have hne:g2≠g:=hi.inj i id _ _ (by rw [fK];simp) (by rw [hσ];simp) cI ny.μ hB.μ
     exact ⟨g2,N2,Kc,ZG,ny.keep hs (hR.other g2 (cV ny.heap) hne) ny.no⟩
 . intro i j x y fK hj' Kf hx hy
   refine hi.inj i j x y ?_ ?_ Kf hx hy
   . by_cases cI:i=id
     . subst cI;rw [hσ];simp
     . simpa [aa.app,aa.bb _ _ _ cI] using fK
   . by_cases cI:j=id
     . subst cI;rw [hσ];simp
     . simpa [aa.app,aa.bb _ _ _ cI] using hj'
 . intro g cs hg
   obtain ⟨h1,h2⟩:=hi.glob g cs hg
   exact ⟨h1,aX.keep hs.bare (hs.same g h1) cs 0 h2⟩
end Go.VL
namespace Go.Proofs
section
open Go.VL Go.RowKit Go.Sort
theorem DG {w:World} {g:Nat} {f:Array Value->Array Value} {cur:Array Value} {ty:TypeId} {fr:Nat × Nat} (h:w.heap[g]? = some (.cells cur ty fr)):(mapBlock w g f).heap[g]? = some (.cells (f cur) ty fr):=by
 unfold mapBlock
 simp only [Array.getElem?_modify,if_true,h,Option.map_some];rfl
theorem CY {w:World} {g k:Nat} {f:Array Value->Array Value} (h:k≠g):(mapBlock w g f).heap[k]? = w.heap[k]? := by
 unfold mapBlock
 simp only [Array.getElem?_modify,if_neg (Ne.symm h)]
theorem Ao {w:World} {g n:Nat} {os:Array Obj} {l':List (List UInt8)} {cap:Nat} (hl:∀ cur ty,w.heap[g]? = some (.cells cur ty (0,0))->l'.length<=cur.size) (hg:g<w.heap.size) :
   Nr w (grow (putRow encStr (Go.Sort.ahead w n) g 0 l'.toArray) os) g (l'.map encStr):=by
 have hsz:(putRow encStr (Go.Sort.ahead w n) g 0 l'.toArray).heap.size=w.heap.size:=by rw [size_putRow];rfl
 have hold:∀ k,k<w.heap.size->(grow (putRow encStr (Go.Sort.ahead w n) g 0 l'.toArray) os).heap[k]? = (putRow encStr (Go.Sort.ahead w n) g 0 l'.toArray).heap[k]? := fun k hk=>by
   show ((putRow encStr (Go.Sort.ahead w n) g 0 l'.toArray).heap++os)[k]? = _
   rw [Array.getElem?_append_left (by omega)]
 refine ⟨rfl,rfl,rfl, ?_,fun k hk hne => ?_,fun cur ty hc => ?_⟩
 . show w.heap.size<=((putRow encStr (Go.Sort.ahead w n) g 0 l'.toArray).heap++os).size
   rw [Array.size_append];omega
 . rw [hold k hk];exact CY hne
 . refine ⟨putCells encStr 0 l'.toArray cur, ?_,by simp [putCells],fun j v hj => ?_⟩
   . rw [hold g hg];exact DG (w:=Go.Sort.ahead w n) hc
   . have Ft:=hl cur ty hc
     rw [List.getElem?_map] at hj
     cases hs:l'[j]? with
     | none=>rw [hs] at hj;cases hj
     | some s =>
       rw [hs] at hj
       simp only [Option.map_some,Option.some.injEq] at hj
       subst hj
       have l9:j<l'.length:=(List.getElem?_eq_some_iff.1 hs).1
       have hjc:j<cur.size:=by omega
       simp only [putCells,Array.getElem?_mapIdx,Array.getElem?_eq_getElem hjc,Option.map_some,Nat.zero_le,true_and,Nat.zero_add,List.size_toArray,l9,if_true,Nat.sub_zero]
       congr 1
       rw [getElem!_pos l'.toArray j (by simpa using l9)]
       simp only [List.getElem_toArray]
       rw [List.getElem?_eq_getElem l9] at hs
       exact congrArg encStr (Option.some.inj hs)
theorem lj:∀ {l:List (List UInt8)},∀ e∈l.map AV.str,e.cells=[e]:=fun e he=>by obtain ⟨s,_,rfl⟩:=List.mem_map.1 he;rfl
theorem CZ (E:Env) (w:World):∀ l:List (List UInt8),aF E w (l.map AV.str) (l.map encStr)
 | []=>rfl
 | s::l=>by
   simp only [List.map_cons,aF,aD]
   exact ⟨_,_,rfl,rfl,CZ E w l⟩
theorem holds_of {w:World} {g:Nat} {l:List (List UInt8)} {cur:Array Value} {ty:TypeId} {E:Env} (hc:w.heap[g]? = some (.cells cur ty (0,0))) (h:∀ (j:Nat) c,(l.map AV.str)[j]? = some c->∃ v,cur[j]? = some v/\aD E w c v):Holds encStr w g 0 l.toArray:=by
 intro j hj
 have l9:j<l.length:=by simpa using hj
 obtain ⟨v,hv,hr⟩:=h j (.str l[j]) (by rw [List.getElem?_map,List.getElem?_eq_getElem l9];rfl)
 simp only [aD] at hr
 subst hr
 refine ⟨?_, ?_⟩
 . unfold World.cell?
   rw [show ((⟨g,0+j,none⟩:Addr)).block=g from rfl,hc,getElem!_pos l.toArray j hj]
   simpa using hv
 . unfold World.frozen?
   rw [show ((⟨g,0+j,none⟩:Addr)).block=g from rfl,hc]
   simp
theorem S8 {l:List (List UInt8)} {cur:Array Value} {E:Env} {w:World} (h:∀ (j:Nat) c,(l.map AV.str)[j]? = some c->∃ v,cur[j]? = some v/\aD E w c v):l.length<=cur.size:=by
 rcases Nat.lt_or_ge cur.size l.length with hlt | rn
 . obtain ⟨v,hv,_⟩:=h cur.size (.str (l[cur.size])) (by rw [List.getElem?_map,List.getElem?_eq_getElem hlt];rfl)
   simp at hv
 . exact rn
def C0 (l:List (List UInt8)):List (List UInt8):=l.mergeSort fun x y=>decide (x<=y)
theorem Fj (l:List (List UInt8)):(C0 l).length=l.length:=List.length_mergeSort _
theorem Ap (l:List (List UInt8)):(Lib.compact l).length<=l.length:=by
 unfold Lib.compact Lib.compactUpTo
 rw [List.length_map]
 exact Nat.le_trans (List.length_filter_le _ _) (by rw [List.length_range];exact Nat.le_refl _)
theorem Tryz.Ta (G:Nat->Option (List AV)) (l:List (List UInt8)) (hl:l.length<=1000000) {id p:VL.Id} (hid : ¬ p <:+ id) :
   aq Tryz.prog G 31 [.osl id 1 0 l.length false] p [(id,⟨l.map .str,1,false⟩)] { val := .tup [],rd:=[id],up:=[(id,some ⟨(C0 l).map .str,1,false⟩)] }:=by
 have hm:(l.map AV.str).length=l.length:=List.length_map _
 have:=aq.CX (G:=G) (P:=Tryz.prog) Tryz.func31 (by kernel_rfl) (by kernel_rfl) hid (es:=l.map .str) (es':=(C0 l).map .str) (by rw [List.length_map,List.length_map,Fj]) lj lj (val := .tup []) (row:=(C0 l).map encStr) (fun E w=>CZ E w _)
   (fun E w g N cap _ _ _ _ v hv=>by
     rcases hv with ⟨rfl,_⟩ | ⟨_,_,_,h⟩
     . simp only [aD];exact ⟨#[],rfl,by simp [aF]⟩
     . cases h)
   (fun w g cap cur ty E hc hle Bn J0=>by
     rw [hm]
     refine (Tryz.slices_Sort_string g 0 cap l w (holds_of hc J0) (cV hc) (by omega)).mono ?_
     rintro e w' ⟨rfl,n,os,rfl⟩
     refine ⟨_,rfl, .inl ⟨rfl,rfl⟩,Ao (cap:=cap) (fun vK JK hc' => ?_) (cV hc)⟩
     rw [hc] at hc'
     simp only [Option.some.injEq,Obj.cells.injEq] at hc'
     rw [<- hc'.1]
     have:=S8 J0
     rw [List.length_mergeSort];exact this)
 rwa [hm] at this
theorem Tryz.JG (G:Nat->Option (List AV)) (l:List (List UInt8)) (hl:l.length<=1000000) {id p:VL.Id} (hid : ¬ p <:+ id) :
   aq Tryz.prog G 32 [.osl id 1 0 l.length false] p [(id,⟨l.map .str,1,false⟩)]
     { val := .osl id 1 0 (Lib.compact l).length false,rd:=[id],up:=[(id,some ⟨(Lib.compact l++List.replicate (l.length-(Lib.compact l).length) []).map .str,1,false⟩)] }:=by
 have hm:(l.map AV.str).length=l.length:=List.length_map _
 have o8:(Lib.compact l).length<=l.length:=Ap l
 have:=aq.CX (G:=G) (P:=Tryz.prog) Tryz.func32 (by kernel_rfl) (by kernel_rfl) hid (es:=l.map .str) (es':=(Lib.compact l++List.replicate (l.length-(Lib.compact l).length) []).map .str)
   (by rw [List.length_map,List.length_map,List.length_append,List.length_replicate];omega) lj lj (val := .osl id 1 0 (Lib.compact l).length false) (row:=(Lib.compact l++List.replicate (l.length-(Lib.compact l).length) []).map encStr) (fun E w=>CZ E w _)
   (fun E w g N cap hμ hle hcN hN v hv=>by
     rcases hv with ⟨_,h⟩ | ⟨m,Dh,rfl,h⟩
     . cases h
     . simp only [AV.osl.injEq,true_and,and_true] at h
       subst h
       simp only [aD]
       refine ⟨g,N,cap,hμ,by simp,by rw [hm] at hle;omega,by omega,hN,by simp;omega⟩)
   (fun w g cap cur ty E hc hle Bn J0=>by
     rw [hm]
     refine (Tryz.slices_Compact_string g 0 cap l w (holds_of hc J0) (by omega) (by rw [hm] at hle;exact hle)).mono ?_
     rintro e w' ⟨rfl,q,rfl⟩
     refine ⟨_,rfl, .inr ⟨_,o8,rfl,rfl⟩, ?_⟩
     have hr:=Ao (w:=w) (g:=g) (n:=q) (os := #[]) (l':=Lib.compact l++List.replicate (l.length-(Lib.compact l).length) []) (cap:=cap) (fun vK JK hc' => ?_) (cV hc)
     . rwa [grow_empty] at hr
     . rw [hc] at hc'
       simp only [Option.some.injEq,Obj.cells.injEq] at hc'
       rw [<- hc'.1]
       have:=S8 J0
       rw [List.length_append,List.length_replicate];omega)
 rwa [hm] at this
theorem Tryz.Zm (G:Nat->Option (List AV)) {m:Int} (hG:G 1=some [.int .i64 m]) (s:List UInt8) (hs:s.length<4294967281) :
   VP Tryz.prog G 30 [.str s, .str [47]] (.tup [.str (Lib.cut s [47]).1, .str (Lib.cut s [47]).2.1, .bool (Lib.cut s [47]).2.2]):=by
 refine VP.xk (r:={ val := .tup [.str (Lib.cut s [47]).1, .str (Lib.cut s [47]).2.1, .bool (Lib.cut s [47]).2.2] }) (aq.tz Tryz.func30 (by kernel_rfl) (by kernel_rfl) ?_) ?_
 . intro own E w σ vs _ hi hr
   simp only [aF] at hr
   obtain ⟨v,_,rfl,rfl,v2,_,rfl,rfl,rfl⟩:=hr
   have hg:=(hi.glob 1 _ hG).2
   simp only [aX,aD] at hg
   obtain ⟨⟨v,hv,rfl⟩,_⟩:=hg
   refine (Tryz.strings_Cut ⟨s.toArray⟩ ⟨#[47]⟩ m w (by rw [Lib.size_eq];exact hs) hv).mono ?_
   rintro e w' ⟨rfl,n,rfl⟩
   refine ⟨_,rfl,⟨rfl,rfl,rfl,Nat.le_refl _,fun _ _=>rfl⟩,fun E w => ?_⟩
   simp [aD,aF]
 . intro E w E' w' v h
   simpa [aD,aF] using h
end
end Go.Proofs
namespace Go.Proofs.YtcomlgfjnjpebaaGreatDoor
section
open Go.VL Go.Proofs Go.RowKit
section
variable (m:Int)
theorem JH (c:UInt8):VP Tryz.prog (gN m) 73 [ga c] (.bool (cJ c)):=Gm c
theorem Tb (c:UInt8):VP Tryz.prog (gN m) 103 [ga c] (.bool (jE c)):=IX c
theorem Zn (c:UInt8):VP Tryz.prog (gN m) 75 [ga c] (.bool (db c)):=KY (JH m) (Tb m) c
theorem Zo (s:List UInt8) (hs:s.length<9223372036854775807):VP Tryz.prog (gN m) 74 [.str s, .fn (.func 75) [] []] (.int .i64 (fH db s)):=Ul CW (Zn m) s hs
theorem Ln (s:List UInt8):VP Tryz.prog (gN m) 50 [.str s] (.bool (b7 s)):=Of zC (JH m) (Zo m) s
theorem af5:Has Tryz.prog 117 mh:=oY
theorem af6:Has Tryz.prog 118 mY:=qk
theorem Pw (c:UInt8):VP Tryz.prog (gN m) 117 [ga c] (.bool (cJ c)):=H3 af5 c
theorem Tc (c:UInt8):VP Tryz.prog (gN m) 118 [ga c] (.bool (jE c)):=Kk af6 c
theorem Zp (s:List UInt8) (hs:s.length<9223372036854775807):VP Tryz.prog (gN m) 92 [.str s, .int .i64 0] (.int .i64 ((qQ s:Nat):Int)):=UN rh (Pw m) (Tc m) s hs
theorem Lp (s:List UInt8):VP Tryz.prog (gN m) 60 [.str s] (.bool (b7 s)):=KM oW (Zp m) s
theorem wl {ws:List Nat} (hw:Wd ws) (h:ws.length<=8):ab (val ws)<=8:=Nat.le_trans (qK hw) h
theorem mI (b:Bool) (n:Nat):(iL b n).natAbs=n:=by cases b<;>simp [iL]
theorem acF (n1:Bool) (w1:List Nat) (n2:Bool) (w2:List Nat) (mW:Wd w1) (th:Wd w2) (lF:w1.length<=8) (sD:w2.length<=8):VP Tryz.prog (gN m) 123 [RR n1 w1 n2 w2] (.bool (MS n1 w1 n2 w2)):=by
 have a1:=wl mW lF
 have a2:=wl th sD
 have:=KV n1 w1 n2 w2 mW th (g:=(Nat.gcd (val w1) (val w2):Nat)) (W7 (gN m) n1 w1 (by omega)) (W7 (gN m) n2 w2 (by omega)) (Zg (gN m) _ (by rw [mI];omega))
   (fun _=>by have:=acp (gN m) (iL n1 (val w1)) (iL n2 (val w2)) (by rw [mI];omega) (by rw [mI];omega);rwa [mI,mI] at this) (i138 (gN m) _)
 exact this
theorem acG (n1:Bool) (w1:List Nat) (n2:Bool) (w2:List Nat) (mW:Wd w1) (th:Wd w2) (lF:w1.length<=8) (sD:w2.length<=8):VP Tryz.prog (gN m) 157 [RR n1 w1 n2 w2] (.bool (MS n1 w1 n2 w2)):=by
 have a1:=wl mW lF
 have a2:=wl th sD
 have:=Om af3 n1 w1 n2 w2 mW th (g:=(Nat.gcd (val w1) (val w2):Nat)) (W9 (gN m) n1 w1 mW (by omega)) (W9 (gN m) n2 w2 th (by omega)) (Zi (gN m) _ (by rw [mI];omega))
   (fun _=>by have:=Zk (gN m) (iL n1 (val w1)) (iL n2 (val w2)) (by rw [mI];omega) (by rw [mI];omega);rwa [mI,mI] at this) (Xa (gN m) _)
 exact this
theorem w1:ab 1<=1:=qG
theorem Zq (n1:Bool) (w1:List Nat) (n2:Bool) (w2:List Nat) (mW:Wd w1) (th:Wd w2) (lF:w1.length<=8) (sD:w2.length<=8):∃ s,VP Tryz.prog (gN m) 104 [RR n1 w1 n2 w2] (.tup [.str s, .bool (F8 n1 w1 n2 w2)]):=by
 obtain ⟨s,e⟩:=Cn 40 n1 w1 n2 w2 (fun _ _=>rfl)
 refine ⟨s, ?_⟩
 rw [<- e]
 refine KG nE n1 w1 n2 w2 mW th lF sD (acF m n1 w1 n2 w2 mW th lF sD) (fun a b ha=>W8 (gN m) a b (by omega)) (fun a b hb hg ha A2 hv => ?_)
 exact KF nE a b hb hg ha A2 hv (W8 (gN m) _ _ (by rw [Int.natAbs_natCast];omega)) (Zh (gN m) 10 (by decide) (by decide)) (S4 (gN m) 1 (by decide) (by decide))
   (fun y hy=>afU (gN m) _ _ (by rw [Int.natAbs_natCast];omega) (by show ab 1<=_;have:=qG;omega)) (fun a b hb _ ha A2=>afW (gN m) a b hb ha A2)
   (fun n hn=>Tryz.Pu (gN m) rfl (t145 (gN m)) qZ fy n (by omega)) (fun z hz=>Tryz.Pv (gN m) z hz)
theorem Zr (n1:Bool) (w1:List Nat) (n2:Bool) (w2:List Nat) (mW:Wd w1) (th:Wd w2) (lF:w1.length<=8) (sD:w2.length<=8):∃ s,VP Tryz.prog (gN m) 134 [RR n1 w1 n2 w2] (.tup [.str s, .bool (F8 n1 w1 n2 w2)]):=by
 obtain ⟨s,e⟩:=Cn 41 n1 w1 n2 w2 OA
 refine ⟨s, ?_⟩
 rw [<- e]
 refine Iw kx n1 w1 n2 w2 mW th lF sD (acG m n1 w1 n2 w2 mW th lF sD) (fun a b ha=>Xb (gN m) a b (by omega)) (fun a b hb hg ha A2 hv => ?_)
 exact Iv kx a b hb hg ha A2 hv (Xb (gN m) _ _ (by rw [Int.natAbs_natCast];omega)) (Zl (gN m) 10 (by decide) (by decide)) (S5 (gN m) 1 (by decide) (by decide))
   (fun y hy=>acC (gN m) _ _ (by rw [Int.natAbs_natCast];omega) (by show ab 1<=_;have:=qG;omega)) (fun a b hb sE hg ha A2=>af4 (gN m) a b hb sE hg ha A2)
   (fun n hn=>f162 (gN m) n (by omega))
theorem Td (e:EX) (ho:e.Ok) (hl:e.lT=true) (hn:e.nodes<=1000):VP Tryz.prog (gN m) 78 [e.av] (.bool e.formed) :=
 afN m (Zq m) (Ln m) (fun n1 w1 n2 w2=>UL zE n1 w1 n2 w2) (fun args hl ha=>by
   rw [<- UM]
   refine eY eT (gi fU ?_ ?_ ?_ (by simp) (by simp) (by rw [EX.cL];omega)) (EX.fQ _) (tY _)
   all_goals
     intro v hv
     rw [EX.bY] at hv
     obtain ⟨x,hx,rfl⟩:=List.mem_map.1 hv
   . exact EX.all x
   . rw [Ix];exact ha x hx
   . exact EX.pure x) e ho hl hn
theorem Te (e:EX) (ho:e.Ok) (hs:mw e=true):VP Tryz.prog (gN m) 56 [e.av] (.int .i64 (if e.formed=true then (if 40<e.depth then 3 else 0) else 1)):=by
 unfold mw at hs
 simp only [Bool.and_eq_true,decide_eq_true_eq] at hs
 exact OH yv e (Td m e ho hs.2 (by omega)) (OG yu e (by omega))
theorem Tf (e:EX) (ho:e.Ok) (hl:e.lT=true):VP Tryz.prog (gN m) 93 [e.av] (.bool e.formed) :=
 KJ oV (fun op n1 w1 n2 w2 nm args ho hl=>by
   have hh:=EX.r5 hl
   have H6:=ho
   rw [EX.Ok] at H6
   exact aci op n1 w1 n2 w2 nm args (Zr m n1 w1 n2 w2 H6.2.2.1 H6.2.2.2.1 hh.2.1 hh.2.2.1) (Lp m nm)) e ho hl
theorem Tg (e:EX) (ho:e.Ok) (hs:mw e=true):VP Tryz.prog (gN m) 61 [e.av] (.int .i64 (if e.formed=true then (if 40<e.depth then 3 else 0) else 1)):=by
 unfold mw at hs
 simp only [Bool.and_eq_true,decide_eq_true_eq] at hs
 exact Iz qg e (Tf m e ho hs.2) (OJ qf e (by omega))
theorem VF (e:EX) (ho:e.Ok):VP Tryz.prog (gN m) 28 [e.av] (.bool (mw e)) :=
 KL qj e (RD qh e ho 120 (by decide)) (RB qi e ho)
theorem Xd (s:List UInt8) (hs:s.length<=300):VP Tryz.prog (gN m) 30 [.str s, .str [47]] (.tup [.str (Lib.cut s [47]).1, .str (Lib.cut s [47]).2.1, .bool (Lib.cut s [47]).2.2]):=Tryz.Zm (gN m) (m:=m) rfl s (by omega)
theorem VG (s:List UInt8) (hs:s.length<=300):VP Tryz.prog (gN m) 53 [.str s] (.bool (eK s).isSome):=DA sr s (by omega) (Xd m s hs) (Ln m)
theorem Fk (s:List UInt8) (hs:s.length<=300):VP Tryz.prog (gN m) 34 [.str s] (.str ((eK s).getD [])):=KO oz s (by omega) (Lp m)
theorem kY {X:FX} (h:X.small=true):X.inputs.length<=60/\X.vals.length<=12/\(∀ s∈X.inputs,s.length<=300)/\(∀ e∈X.vals,mw e=true):=by
 unfold FX.small at h
 simp only [Bool.and_eq_true,List.all_eq_true,decide_eq_true_eq] at h
 exact ⟨h.1.1.1.1,h.1.1.1.2,h.1.2,h.2⟩
theorem Ns (X:FX) (hX:X.Ok):VP Tryz.prog (gN m) 10 [X.av] (.bool X.small):=ID qn X hX (fun e he=>VF m e (hX.vals e he))
theorem yw (X:FX) (hX:X.Ok) (hs:X.small=true):VP Tryz.prog (gN m) 29 [X.av] (.bool X.valid):=by
 obtain ⟨q1,q2,h2,h3⟩:=kY hs
 exact OQ yn (Ln m) ku kV eT fU X hX (by omega) (by omega)
   (fun s hm=>OM u0 s (VG m s (h2 s hm))) (fun e he=>OO u5 e (Te m e (hX.vals e he) (h3 e he)))
theorem uM (X:FX) (hX:X.Ok) (hs:X.small=true):VP Tryz.prog (gN m) 33 [X.av] (.bool X.valid):=by
 obtain ⟨q1,q2,h2,h3⟩:=kY hs
 exact IC ql X hX (Lp m _) (fun e he=>Tg m e (hX.vals e he) (h3 e he)) (fun s hm=>Fk m s (h2 s hm))
theorem Lq {s:List UInt8} (h:(eK s).isSome=true):(eK s).getD []=(Lib.cut s [47]).1:=by
 rw [EJ]
 unfold eK at h ⊢
 cases hs:jG s with
 | none=>rw [hs] at h;cases h
 | some k =>
   rw [hs] at h
   simp only [] at h ⊢
   split
   . rfl
   . rename_i hh;rw [if_neg hh] at h;cases h
theorem Th {X:FX} (h:X.valid=true):(X.inputs.map fun s=>(Lib.cut s [47]).1)=X.inputs.map fun s=>(eK s).getD []:=by
 refine List.map_congr_left fun s hs => ?_
 unfold FX.valid at h
 simp only [Bool.and_eq_true,List.all_eq_true] at h
 exact (Lq (h.1.2 s hs)).symm
def FX.needs (X:FX):List (List UInt8):=if X.valid=true then uV (X.inputs.map fun s=>(eK s).getD []) else []
theorem Ti:VP Tryz.prog (gN m) 31 [.nils] (.tup []):=by
 refine VP.xk (r:={ val := .tup [] }) (aq.tz Tryz.func31 (by kernel_rfl) (by kernel_rfl) ?_) (fun _ _ _ _ _=>by simp [aD,aF])
 intro own E w σ vs _ hi hr
 simp only [aF,aD] at hr
 obtain ⟨v,_,rfl,rfl,rfl⟩:=hr
 refine (Tryz.slices_Sort_string_none none 0 w).mono ?_
 rintro e W' ⟨rfl,rfl⟩
 exact ⟨_,rfl,Below.refl _ _,fun E w=>by simp [aD,aF]⟩
theorem JI:VP Tryz.prog (gN m) 32 [.nils] .nils:=by
 refine VP.xk (r:={ val := .nils }) (aq.tz Tryz.func32 (by kernel_rfl) (by kernel_rfl) ?_) (fun _ _ _ _ _=>by simp [aD])
 intro own E w σ vs _ hi hr
 simp only [aF,aD] at hr
 obtain ⟨v,_,rfl,rfl,rfl⟩:=hr
 refine (Tryz.slices_Compact_string_empty none 0 w).mono ?_
 rintro e W' ⟨rfl,rfl⟩
 exact ⟨_,rfl,Below.refl _ _,fun E w=>by simp [aD]⟩
theorem VH (X:FX) (hX:X.Ok) (hs:X.small=true):VP Tryz.prog (gN m) 11 [X.av] (strs (FX.needs X)):=by
 obtain ⟨h1,_,h2,h3⟩:=kY hs
 have:=RM yo X hX (fun _=>by omega) (yw m X hX hs) (fun s hm=>Xd m s (h2 s hm)) (Ti m) (JI m) C0 Lib.compact Fj Ap (by simp [C0];rfl)
   (fun l id p hl hid=>Tryz.Ta (gN m) l hl hid) (fun l id p hl hid=>Tryz.JG (gN m) l hl hid)
 have e:(if X.valid=true then Lib.compact (C0 (X.inputs.map fun s=>(Lib.cut s [47]).1)) else [])=FX.needs X:=by
   unfold FX.needs
   split
   . rename_i hv
     rw [Th hv];exact OT _
   . rfl
 rwa [e] at this
theorem VI (X:FX) (hX:X.Ok) (hs:X.small=true):VP Tryz.prog (gN m) 12 [X.av] (strs (FX.needs X)):=by
 obtain ⟨h1,_,h2,h3⟩:=kY hs
 exact OS qm X hX (fun _=>by omega) (uM m X hX hs) (fun s hm=>Fk m s (h2 s hm)) (fun l s hl=>RL lX l hl s)
theorem Fl {X:FX} (hs:X.small=true):(FX.needs X).length<=1000:=by
 obtain ⟨h1,_,_,_⟩:=kY hs
 unfold FX.needs
 split
 . have:=IF (X.inputs.map fun s=>(eK s).getD []) X.inputs.length
   rw [List.take_of_length_le (by rw [List.length_map];exact Nat.le_refl _)] at this
   omega
 . simp
end
end
section
open Go.VL Go.Proofs
theorem ur:Has Tryz.prog 120 (jl 135):=⟨_,Tryz.func120,by kernel_rfl⟩
theorem yx:Has Tryz.prog 98 (ng 120 97 98):=⟨_,Tryz.func98,by kernel_rfl⟩
theorem qo:Has Tryz.prog 69 (jm 99 69):=⟨_,Tryz.func69,by kernel_rfl⟩
theorem l6:Has Tryz.prog 135 (dZ):=⟨_,Tryz.func135,by kernel_rfl⟩
theorem l7:Has Tryz.prog 96 (ee):=⟨_,Tryz.func96,by kernel_rfl⟩
theorem cO:Has Tryz.prog 97 (aM):=⟨_,Tryz.func97,by kernel_rfl⟩
theorem zH:Has Tryz.prog 68 (og 96 97 98):=⟨_,Tryz.func68,by kernel_rfl⟩
theorem td:Has Tryz.prog 66 (kK 95 65 66):=⟨_,Tryz.func66,by kernel_rfl⟩
theorem mA:Has Tryz.prog 42 (gv 69):=⟨_,Tryz.func42,by kernel_rfl⟩
theorem ri:Has Tryz.prog 19 (jR 42):=⟨_,Tryz.func19,by kernel_rfl⟩
theorem rj:Has Tryz.prog 23 (jS 33 35 12):=⟨_,Tryz.func23,by kernel_rfl⟩
theorem nM:Has Tryz.prog 100 (gY):=⟨_,Tryz.func100,by kernel_rfl⟩
theorem su:Has Tryz.prog 101 (ko):=⟨_,Tryz.func101,by kernel_rfl⟩
theorem sw:Has Tryz.prog 21 (gb):=⟨_,Tryz.func21,by kernel_rfl⟩
theorem sy:Has Tryz.prog 20 (eH):=⟨_,Tryz.func20,by kernel_rfl⟩
theorem qp:Has Tryz.prog 26 (jq 36 38 37 47 46 40 41):=⟨_,Tryz.func26,by kernel_rfl⟩
theorem oD:Has Tryz.prog 27 (iD 36 38 37 47 40 41):=⟨_,Tryz.func27,by kernel_rfl⟩
theorem jC:Has Tryz.prog 46 (cp 72):=⟨_,Tryz.func46,by kernel_rfl⟩
theorem eW:Has Tryz.prog 47 (bM):=⟨_,Tryz.func47,by kernel_rfl⟩
theorem qq:Has Tryz.prog 17 (jr 10):=⟨_,Tryz.func17,by kernel_rfl⟩
theorem rk:Has Tryz.prog 18 (gX 13 21 22):=⟨_,Tryz.func18,by kernel_rfl⟩
theorem kN:Has Tryz.prog 8 (de 9 17 10 18 22 20 16 19):=⟨_,Tryz.func8,by kernel_rfl⟩
end
section
open Go.VL Go.Proofs Go.RowKit
def aU (X:FX):Prop:=X.Ok/\X.small=true
theorem uN (X:FX) (b:Bool) (h:aU X):aU (X.bD b):=⟨⟨h.1.name,h.1.ins,h.1.inl,h.1.vl,h.1.vals⟩,h.2⟩
theorem Px {X:FX} (h:aU X):X.inputs.length<=1000/\X.vals.length<=1000:=by
 obtain ⟨h1,h2,_,_⟩:=kY h.2
 omega
theorem FX.one' (X:FX):X.av.cells.all AV.one=true:=of_eq_true (FX.one X)
section
variable (m:Int)
theorem acH (l k:List (List UInt8)) (hl:l.length<=9223372036854775807) (hk:k.length<=9223372036854775807):VP Tryz.prog (gN m) 96 [strs l,strs k] (.bool (gJ l k)):=my l7 l k hl hk
theorem Zs (l k:List Nat) (hl:l.length<=9223372036854775807) (hk:k.length<=9223372036854775807):VP Tryz.prog (gN m) 135 [.sl 1 (us l), .sl 1 (us k)] (.bool (gJ l k)):=mz l6 l k hl hk
theorem acI (e:EX) (he:e.Ok) (e':EX) (VY:e'.Ok):VP Tryz.prog (gN m) 98 [e.av,e'.av] (.bool (gJ e e')) :=
 R6 yx (fun b b' ws MZ h1 h2=>IL ur b b' ws MZ (Zs m ws MZ h1 h2)) cO e he e' VY
theorem Zt (X Y:FX) (hX:X.Ok) (hY:Y.Ok):VP Tryz.prog (gN m) 68 [X.av,Y.av] (.bool (gJ X Y)) :=
 R7 zH (acH m) cO (acI m) X Y hX hY
theorem Xe (l k:List FX) (hl:l.length<=1000) (hk:k.length<=1000) (h1:∀ X∈l,aU X) (h2:∀ X∈k,aU X):VP Tryz.prog (gN m) 67 [bT l,bT k, .fn (.func 68) [] []] (.bool (gJ l k)) :=
 eg dX FX.av (fun _=>rfl) FX.pure FX.one' FX.whole FX.abL l k (by omega) (by omega) (fun X hX Y hY=>Zt m X Y (h1 X hX).1 (h2 Y hY).1)
theorem Tj (e:EX) (he:e.Ok) (e':EX) (VY:e'.Ok):VP Tryz.prog (gN m) 69 [e.av,e'.av] (.bool (gJ e e')) :=
 O2 qo (fun n1 w1 n2 w2 Cq A3 Cr A4 q1 q2 q3 q4=>R8 re n1 w1 n2 w2 Cq A3 Cr A4 (Cz kv n1 Cq w1 A3 q1 q3) (Cz kv n2 Cr w2 A4 q2 q4)) e he e' VY
theorem GI (l k:List FX) (hl:l.length<=1000) (hk:k.length<=1000) (h1:∀ X∈l,aU X) (h2:∀ X∈k,aU X):VP Tryz.prog (gN m) 19 [bT l,bT k] (.bool (gJ l k)) :=
 U0 ri l k (by omega) (by omega) (fun X hX Y hY=>CA mA (Tj m) X Y (h1 X hX).1 (h2 Y hY).1)
theorem Tk (ws:List Nat) (h:ws.length<=1000):VP Tryz.prog (gN m) 95 [.sl 1 (us ws)] (.sl 1 (us ws)):=Ez fy (uC _) (y2 _) (qE _) (by rw [dD];omega)
theorem C1 (e:EX) (hs:mw e=true):VP Tryz.prog (gN m) 66 [e.av] e.av:=by
 unfold mw at hs
 simp only [Bool.and_eq_true,decide_eq_true_eq] at hs
 exact Gp td (Tk m) cU e hs.2 (by omega)
theorem Tl (l:List (List UInt8)) (h:l.length<=1000):VP Tryz.prog (gN m) 64 [strs l] (strs l) :=
 mr fk (by intro e he;obtain ⟨s,_,rfl⟩:=List.mem_map.1 he;rfl) (qR l) (by rw [tV];intro c hc;obtain ⟨s,_,rfl⟩:=List.mem_map.1 hc;exact af.str s) (by rw [List.length_map];omega)
theorem yy (X:FX) (hX:aU X):VP Tryz.prog (gN m) 39 [X.av] X.av:=by
 obtain ⟨h1,h2,_,h4⟩:=kY hX.2
 exact O3 lW X (by omega) (Tl m X.inputs (by omega)) cU (fun e he=>C1 m e (h4 e he))
theorem zI (l:List FX) (nm:List UInt8) (hl:l.length<=1000) (hg:∀ X∈l,aU X):VP Tryz.prog (gN m) 37 [bT l, .str nm] (.int .i64 (cM l nm)) :=
 Sg s9 (fun F n=>OB qY F n) iI hl (fun X hX=>Px (hg X hX)) nm
theorem Nt (l:List FX) (hl:l.length<=1000) (hg:∀ X∈l,aU X):VP Tryz.prog (gN m) 40 [bT l] (.bool (kT l)) :=
 Gr ow l hl (fun X hX=>VH m X (hg X hX).1 (hg X hX).2) (fun X hX=>Fl (hg X hX).2)
   (fun i nm=>zI m (l.take i) nm (by rw [List.length_take];omega) (fun X hX=>hg X (List.mem_of_mem_take hX)))
theorem wH (l:List FX) (hl:l.length<=1000) (hg:∀ X∈l,aU X):VP Tryz.prog (gN m) 23 [bT l] (.bool (eZ l)) :=
 U2 rj l hl (fun X hX=>uM m X (hg X hX).1 (hg X hX).2) (fun X hX=>VI m X (hg X hX).1 (hg X hX).2) (fun X hX=>Fl (hg X hX).2) (fun l s h=>RL lX l h s)
end
end
section
open Go.VL Go.Proofs Go.RowKit
section
variable {G:Nat->Option (List AV)} {ls:List (List FX)} {now:Nat} {hid p:VL.Id} {l k:List FX}
theorem aq.Tm {P:Program} {f:FuncId} {args:List AV} {S:List (VL.Id × a8)} {r:eB} (up:List (VL.Id × Option a8)) (h:aq P G f args p S r) (e:∀ σ : aa,(∀ x∈S, σ x.1=some x.2) -> σ.app r.up = σ.app up):aq P G f args p S { r with up:=up } :=
 ⟨h.1,fun own E w σ vs h1 h2 h3 h4=>(h.2 own E w σ vs h1 h2 h3 h4).mono fun x w' ⟨v,E',he,hp⟩=>⟨v,E',he,hp.yG,by have:=hp.inv;rw [e σ h1] at this;exact this,hp.rep,hp.ids⟩⟩
noncomputable def Nu (ls:List (List FX)) (now:Nat) (l m:List FX):a8:=if gJ m l=true then bH ls now else bH (ls.take (now+1)++[m]) (now+1)
theorem yz (ρ : VL.Id->VL.Id):(Nu ls now l k).di ρ = Nu ls now l k:=by unfold Nu;split<;>exact j1
theorem acJ {σ : aa} {i:VL.Id} {b:a8} (h : σ i=some b) : σ.app [(i,some b)] = σ := by
 funext j
 show (σ.put i (some b)) j = σ j
 by_cases e:j=i
 . subst e;rw [aa.a6,h]
 . rw [aa.bb _ _ _ e]
theorem wM {f:FuncId} {args:List AV} {v:AV} {rd:List VL.Id} {b:a8} (h:aq Tryz.prog G f args p [(hid,b)] { val:=v,rd:=rd,up:=[(hid,some b)] }):aq Tryz.prog G f args p [(hid,b)] { val:=v,rd:=rd } :=
 aq.Tm [] h fun σ hσ => acJ (hσ (hid,b) (by simp))
theorem Tn {σ : aa} (h : σ hid=some (bH ls now)) : σ.app [(hid,some (Nu ls now l k))] = σ.app (sa hid ls now l k):=by
 unfold Nu sa
 split
 . exact acJ h
 . rfl
theorem upC {f:FuncId} {args:List AV} {v:AV} {rd:List VL.Id} (h:aq Tryz.prog G f args p [(hid,bH ls now)] { val:=v,rd:=rd,up:=[(hid,some (Nu ls now l k))] }):aq Tryz.prog G f args p [(hid,bH ls now)] { val:=v,rd:=rd,up:=sa hid ls now l k } :=
 aq.Tm _ h fun σ hσ => Tn (hσ (hid,bH ls now) (by simp))
theorem hT {n:Nat} {rest:List AV} (hs:List (Hint Tryz.prog G)) (v:AV) (B:a8) [hr:C5 rest] [hv:PU v] (hB:∀ ρ,B.di ρ = B:=by exact fun _=>j1)
   (h:tD (cn n).results ([([1],B)]++VL.rest [([1],B)] [([1],bH ls now)]) (eC true 1000 (cn n).body [0] hs ⟨(.ref [1] 0 0::rest)++List.replicate ((cn n).nt-(AV.ref [1] 0 0::rest).length) (.tup []),rE [([1],bH ls now)],0⟩)=tE v ([([1],B)]++VL.rest [([1],B)] [([1],bH ls now)]) (eC true 1000 (cn n).body [0] hs ⟨(.ref [1] 0 0::rest)++List.replicate ((cn n).nt-(AV.ref [1] 0 0::rest).length) (.tup []),rE [([1],bH ls now)],0⟩):=by kernel_rfl) (e:(co n).isSome=true:=by kernel_rfl) :
   aq Tryz.prog G n (.ref hid 0 0::rest) p [(hid,bH ls now)] { val:=v,rd:=[hid],up:=[(hid,some B)] } :=
 aq.tr (p:=p) (up:=[(hid,B)]) (hN e) (fun _=>hid) hs (.ref [1] 0 0::rest) [([1],bH ls now)] v [([1],B)] h (by rw [bF,hr.fix];rfl) (by simp only [aY,bm,j1];rfl) (hv.fix _) (by simp only [aY,bm,hB];rfl) (by simp) (by simp)
theorem Zu (hl:ls[now]? = some l) (p hid:VL.Id):aq Tryz.prog G 36 [.ref hid 0 0] p [(hid,bH ls now)] { val:=bT l,rd:=[hid] }:=wM (hT [ho 11 (A6 hl)] (bT l) (bH ls now))
theorem Zv (h:now≠0) (hk:now<=1000000):aq Tryz.prog G 24 [.ref hid 0 0] p [(hid,bH ls now)] { val := .bool true,rd:=[hid],up:=[(hid,some (bH ls (now-1)))] } :=
 hT [hb 7 (ag (by omega : ¬ (now:Int)=0)),hw 12 (ly h hk)] (.bool true) (bH ls (now-1))
def C9 (i:VL.Id) (hl:ls[now]? = some l):Hint Tryz.prog G := .rel 36 [.ref i 0 0] [(i,bH ls now)] (fun _=>{ val:=bT l,rd:=[i] }) (fun p _=>Zu hl p i) vS
def hL {f:FuncId} {rest:List AV} {r:AV} (j:VL.Id) (h:VP Tryz.prog G f (bT k::rest) r) [hp:C5 rest] (hf:aS r) {n:Nat} (hn:k.length=n:=by rfl):Hint Tryz.prog G := .rel f (.osl j 5 0 n false::rest) [(j,⟨k.map FX.av,5,false⟩)] (fun _=>{ val:=r,rd:=[j] }) (fun p _=>aq.of_flat h (.cons (hn▸kS (by simp [aa.of])) (aI.pure hp.pure)) hf) vS
def Z5 (i j:VL.Id) {B:a8} (hne:j≠i) {n:Nat} (hn:k.length=n) (h:∀ p:VL.Id,(∀ q,q::p≠i)->aq Tryz.prog G 41 [.ref i 0 0,bT k] p [(i,bH ls now)] { val := .int .i64 0,rd:=[i],up:=[(i,some B)] }):Hint Tryz.prog G :=
 .rel 41 [.ref i 0 0, .osl j 5 0 n false] [(j,⟨k.map FX.av,5,false⟩),(i,bH ls now)] _ (fun p hp=>aq.xv [(j,⟨k.map FX.av,5,false⟩)] (h p (fun q e=>hp (i,bH ls now) (by simp) ⟨[q],e⟩)) ⟨cX.same _ _,cX.view (hn▸kS (by simp [aa.of])),trivial⟩ (by intro y hy z hz;simp only [List.mem_singleton] at hy hz;subst hy hz;exact hne) (by intro y hy;simp only [List.mem_singleton] at hy;subst hy;exact Gs)) (by intro p x hx;simp at hx;rcases hx with rfl | rfl<;>simp)
theorem nR {X:FX} (hg:∀ X∈l,aU X) (hX:aU X):∀ Y∈l++[X],aU Y:=fun Y hY=>by
 rcases List.mem_append.1 hY with h | h
 . exact hg Y h
 . rw [List.mem_singleton.1 h];exact hX
theorem lY {X:FX} {i j:VL.Id} (hl:l.length<=100000):∀ (σ : aa) (p:VL.Id),(∀ y∈[(j,(⟨[X.av],5,false⟩:a8)),(i,⟨l.map FX.av,5,false⟩)], σ y.1=some y.2)->bu σ p (.append 5 80 (.osl i 5 0 l.length false) (.osl j 5 0 1 false))=some { val := .osl p 5 0 (l++[X]).length false,rd:=[i,j],up:=[(i,none),(p,some ⟨(l++[X]).map FX.av,5,false⟩)] } :=
 fun σ p hσ => IZ (hσ (i,⟨l.map FX.av,5,false⟩) (by simp)) (hσ (j,⟨[X.av],5,false⟩) (by simp)) hl
theorem lZ {X:FX} {j:VL.Id} (h:l=[]):∀ (σ : aa) (p:VL.Id),(∀ y∈[(j,(⟨[X.av],5,false⟩:a8))], σ y.1=some y.2)->bu σ p (.append 5 80 (.tsl 5 []) (.osl j 5 0 1 false))=some { val := .osl p 5 0 (l++[X]).length false,rd:=[j],up:=[(p,some ⟨(l++[X]).map FX.av,5,false⟩)] } :=
 fun σ p hσ => by subst h;exact Sa (l:=[]) (hσ (j,⟨[X.av],5,false⟩) (by simp)) (by simp)
theorem pK (h:l≠[]) (hl:l.length<=1000):∀ (σ : aa) (p:VL.Id),(∀ y∈([]:List (VL.Id × a8)), σ y.1=some y.2)->bu σ p (.append 5 80 (.tsl 5 []) (bT l))=some { val := .osl p 5 0 l.length false,rd:=[],up:=[(p,some ⟨l.map FX.av,5,false⟩)] } :=
 fun σ p hσ => by exact Gq (σ := σ) (p:=p) (l:=[]) (m:=l) h (by simp;omega)
theorem sO {x:AV} (hx:x=bT []):∀ (σ : aa) (p:VL.Id),(∀ y∈([]:List (VL.Id × a8)), σ y.1=some y.2)->bu σ p (.append 5 80 (.tsl 5 []) x)=some { val := .tsl 5 [],rd:=[] } :=
 fun σ p _=>by subst hx;exact gR (σ := σ) (p:=p) (bytes:=80) ue
theorem Py (h:l=[]):VP Tryz.prog G 38 [bT l] (.tsl 5 []):=by rw [h];exact zo du
def VJ (h:l≠[]) (hl:l.length<=1000):Hint Tryz.prog G := .rel 38 [bT l] [] _ (fun p _=>zp du h hl p) (by intro p x hx;cases hx)
def hZ {f:FuncId} {rest:List AV} {r:AV} (h:VP Tryz.prog G f (bT l::rest) r) [hp:C5 rest] (hl:l=[]) (hf:aS r):Hint Tryz.prog G := .rel f (.tsl 5 []::rest) [] (fun _=>{ val:=r }) (fun p _=>aq.of_flat (S:=[]) h (.cons (by rw [hl];exact View.FK 5) (aI.pure hp.pure)) hf) (by intro p x hx;cases hx)
end
section
variable (m:Int) {ls:List (List FX)} {now:Nat} {hid p:VL.Id} {l:List FX}
theorem VK {k:List FX} (hl:ls[now]? = some l) (qA:ls.length<=1000) (h1:l.length<=1000) (h2:k.length<=1000) (hg:∀ X∈l,aU X) (hk:∀ X∈k,aU X) (i p:VL.Id) (hne:∀ q,q::p≠i):aq Tryz.prog (gN m) 41 [.ref i 0 0,bT k] p [(i,bH ls now)] { val := .int .i64 0,rd:=[i],up:=[(i,some (Nu ls now l k))] }:=by
 have hq:=Xe m k l h2 h1 hk hg
 unfold Nu
 by_cases h:k=l
 . subst h
   rw [bI rfl] at hq ⊢
   exact hT [C9 [1] hl,hc hq] (.int .i64 0) (bH ls now)
 . rw [aZ h] at hq ⊢
   exact CE gW cF hl qA hq p hne
theorem Xf (hl:ls[now]? = some l) (qA:ls.length<=1000) (hlen:l.length<=200) (hg:∀ X∈l,aU X) (X:FX) (hX:aU X) :
   aq Tryz.prog (gN m) 14 [.ref hid 0 0,X.av] p [(hid,bH ls now)] { val := .int .i64 (DC hid ls now l X).1,rd:=[hid],up:=(DC hid ls now l X).2 }:=by
 have E4:=nR hg hX
 have hL1:(l++[X]).length<=1000:=by simp;omega
 have hV:=yw m X hX.1 hX.2
 have hF:=zI m l X.name (by omega) hg
 have hS:=Nt m (l++[X]) hL1 E4
 have hC:=yy m X hX
 have c:=VK m hl qA (by omega) hL1 hg E4 [1]
 unfold DC
 cases hval:X.valid<;>rw [hval] at hV
 . exact wM (hT [C9 [1] hl,hc hV] (.int .i64 1) (bH ls now))
 rw [if_neg (by decide)]
 by_cases h2:l.length=200
 . rw [if_pos h2]
   exact wM (hT [C9 [1] hl,hc hV,ho 15 (bO l),hb 16 (ai (by omega:(l.length:Int)=200))] (.int .i64 3) (bH ls now))
 have d2:=ag (by omega : ¬ (l.length:Int)=200)
 rw [if_neg h2]
 by_cases h3:0<=cM l X.name
 . rw [if_pos h3]
   exact wM (hT [C9 [1] hl,hc hV,ho 15 (bO l),hb 16 d2,hc hF,hb 22 (ai h3)] (.int .i64 5) (bH ls now))
 rw [if_neg h3]
 by_cases h0:l=[]<;>cases hB:kT (l++[X])<;>rw [hB] at hS
 . exact wM (hT [C9 [1] hl,hc hV,ho 15 (bO l),hb 16 d2,hc hF,hb 22 (ag h3),hc (Py h0),hc hC, .st 28 _ _ _ (lZ (X:=X) (j:=[23,0]) h0),hL [24,0] hS (aS.bool _)] (.int .i64 4) (bH ls now))
 . exact upC (hT [C9 [1] hl,hc hV,ho 15 (bO l),hb 16 d2,hc hF,hb 22 (ag h3),hc (Py h0),hc hC, .st 28 _ _ _ (lZ (X:=X) (j:=[23,0]) h0),hL [24,0] hS (aS.bool _),Z5 [1] [24,0] (by decide) rfl c] (.int .i64 0) (Nu ls now l (l++[X])) yz)
 . exact wM (hT [C9 [1] hl,hc hV,ho 15 (bO l),hb 16 d2,hc hF,hb 22 (ag h3),VJ h0 (by omega),hc hC, .st 28 _ _ _ (lY (l:=l) (X:=X) (j:=[23,0]) (i:=[5,20,0]) (by omega)),hL [24,0] hS (aS.bool _)] (.int .i64 4) (bH ls now))
 . exact upC (hT [C9 [1] hl,hc hV,ho 15 (bO l),hb 16 d2,hc hF,hb 22 (ag h3),VJ h0 (by omega),hc hC, .st 28 _ _ _ (lY (l:=l) (X:=X) (j:=[23,0]) (i:=[5,20,0]) (by omega)),hL [24,0] hS (aS.bool _),Z5 [1] [24,0] (by decide) rfl c] (.int .i64 0) (Nu ls now l (l++[X])) yz)
theorem Bc {X Y:FX} {i:Nat} {j:VL.Id} (hY:l[i]? = some Y):∀ (σ : aa) (p:VL.Id),(∀ y∈[(j,(⟨l.map FX.av,5,false⟩:a8))], σ y.1=some y.2)->bu σ p (.store 5 (.ref j i 0) X.av)=some { val := .tup [],rd:=[j],up:=[(j,some ⟨(l.set i X).map FX.av,5,false⟩)] }:=fun σ p hσ => by
 rw [<- map_set]
 exact ot (x:=Y.av) (hσ (j,⟨l.map FX.av,5,false⟩) (by simp)) (by rw [List.getElem?_map,hY];rfl) rfl rfl (of_eq_true (FX.one _)) rfl
theorem VM {Y:FX} {b:Bool} {i:Nat} {j:VL.Id} (hY:l[i]? = some Y):∀ (σ : aa) (p:VL.Id),(∀ y∈[(j,(⟨l.map FX.av,5,false⟩:a8))], σ y.1=some y.2)->bu σ p (.store 1 (.ref j i 4) (.bool b))=some { val := .tup [],rd:=[j],up:=[(j,some ⟨(l.set i (Y.bD b)).map FX.av,5,false⟩)] }:=fun σ p hσ => by
 show eO σ 1 (.ref j i 4) (.bool b)=_
 rw [dw (n:=1) (v := .bool b) (els:=l.map FX.av) (el:=Y.av) (k:=5) (hσ (j,⟨l.map FX.av,5,false⟩) (by simp)) (by rw [List.getElem?_map,hY];rfl) rfl (show 4+1<=5 by decide) rfl,show Y.av.upd 4 (AV.bool b).cells=(Y.bD b).av from rfl,map_set]
theorem af7 (hl:ls[now]? = some l) (qA:ls.length<=1000) (hlen:l.length<=200) (hg:∀ X∈l,aU X) (X:FX) (hX:aU X) :
   aq Tryz.prog (gN m) 44 [.ref hid 0 0,X.av] p [(hid,bH ls now)] { val := .int .i64 (I6 hid ls now l X).1,rd:=[hid],up:=(I6 hid ls now l X).2 }:=by
 have hV:=yw m X hX.1 hX.2
 have hF:=zI m l X.name (by omega) hg
 have hC:=yy m X hX
 unfold I6
 cases hval:X.valid<;>rw [hval] at hV
 . exact wM (hT [hc hV] (.int .i64 1) (bH ls now))
 rw [if_neg (by decide)]
 by_cases h0:l=[]
 . have hn:cM l X.name<0:=by rw [h0,x8];decide
   rw [if_pos hn]
   exact wM (hT [hc hV,C9 [1] hl,hc (Py h0),hZ hF h0 (aS.int _ _),hb 18 (ai hn)] (.int .i64 4) (bH ls now))
 by_cases h3:cM l X.name<0
 . rw [if_pos h3]
   exact wM (hT [hc hV,C9 [1] hl,VJ h0 (by omega),hL [5,7,0] hF (aS.int _ _),hb 18 (ai h3)] (.int .i64 4) (bH ls now))
 rw [if_neg h3]
 have d3:=ag h3
 obtain ⟨i,hi,hlt⟩:=iY h3
 rw [hi] at hF d3 ⊢
 rw [Int.toNat_natCast]
 have hY:=List.getElem?_eq_getElem hlt
 have E4:∀ Z∈l.set i X,aU Z:=x9 hg hX
 have vP:(l.set i X).length=l.length:=List.length_set
 have hS:=Nt m (l.set i X) (by omega) E4
 have c:=VK m hl qA (by omega) (by omega) hg E4 [1]
 have ha:aV 5 (.osl [5,7,0] 5 0 l.length false) (.int .i64 (i:Int))=some (.ref [5,7,0] i 0):=dV hlt
 cases hB:kT (l.set i X)<;>rw [hB] at hS
 . exact wM (hT [hc hV,C9 [1] hl,VJ h0 (by omega),hL [5,7,0] hF (aS.int _ _),hb 18 d3,hc hC,ho 23 ha, .st 100023 _ _ _ (Bc (X:=X) (j:=[5,7,0]) hY),hL [5,7,0] hS (aS.bool _) vP] (.int .i64 4) (bH ls now))
 . exact upC (hT [hc hV,C9 [1] hl,VJ h0 (by omega),hL [5,7,0] hF (aS.int _ _),hb 18 d3,hc hC,ho 23 ha, .st 100023 _ _ _ (Bc (X:=X) (j:=[5,7,0]) hY),hL [5,7,0] hS (aS.bool _) vP,Z5 [1] [5,7,0] (by decide) vP c] (.int .i64 0) (Nu ls now l (l.set i X)) yz)
theorem acL (hl:ls[now]? = some l) (qA:ls.length<=1000) (hlen:l.length<=200) (hg:∀ X∈l,aU X) (nm:List UInt8) (on:Bool) :
   aq Tryz.prog (gN m) 45 [.ref hid 0 0, .str nm, .bool on] p [(hid,bH ls now)] { val := .int .i64 (Si hid ls now l nm on).1,rd:=[hid],up:=(Si hid ls now l nm on).2 }:=by
 have hF:=zI m l nm (by omega) hg
 unfold Si
 by_cases h0:l=[]
 . have hn:cM l nm<0:=by rw [h0,x8];decide
   rw [if_pos hn]
   exact wM (hT [C9 [1] hl,hc (Py h0),hZ hF h0 (aS.int _ _),hb 16 (ai hn)] (.int .i64 4) (bH ls now))
 by_cases h3:cM l nm<0
 . rw [if_pos h3]
   exact wM (hT [C9 [1] hl,VJ h0 (by omega),hL [5,3,0] hF (aS.int _ _),hb 16 (ai h3)] (.int .i64 4) (bH ls now))
 rw [if_neg h3]
 have d3:=ag h3
 obtain ⟨i,hi,hlt⟩:=iY h3
 rw [hi] at hF d3 ⊢
 obtain ⟨Y,hY⟩:∃ Y,l[i]? = some Y:=⟨_,List.getElem?_eq_getElem hlt⟩
 rw [Int.toNat_natCast,List.getD_eq_getElem?_getD,hY,Option.getD_some]
 have E4:∀ Z∈l.set i (Y.bD on),aU Z:=x9 hg (uN Y on (hg Y (List.mem_of_getElem? hY)))
 have vP:(l.set i (Y.bD on)).length=l.length:=List.length_set
 have c:=VK m hl qA (by omega) (by omega) hg E4 [1]
 have ha:aV 5 (.osl [5,3,0] 5 0 l.length false) (.int .i64 (i:Int))=some (.ref [5,3,0] i 0):=dV hlt
 exact upC (hT [C9 [1] hl,VJ h0 (by omega),hL [5,3,0] hF (aS.int _ _),hb 16 d3,ho 20 ha, .st 100021 _ _ _ (VM (b:=on) (j:=[5,3,0]) hY),Z5 [1] [5,3,0] (by decide) vP c] (.int .i64 0) (Nu ls now l (l.set i (Y.bD on))) yz)
theorem wI (l:List FX) (nm:List UInt8) (hl:l.length<=200):VP Tryz.prog (gN m) 100 [bT l, .str nm] (.int .i64 (cM l nm)):=IY nM l nm (by omega)
theorem Lr (l:List FX) (i:Nat) (hi:i<l.length) (hl:l.length<=200):VP Tryz.prog (gN m) 101 [bT l, .int .i64 (i:Int)] (bT (eM l i)):=U1 su l i hi (by omega)
theorem o0 {o:OX} (l:List FX) (hs:List (Hint Tryz.prog (gN m))) (e:Int) (hr:tD (cn 70).results [] (Az (cn 70) [bT l,o.av] hs)=tE (.tup [.nils, .int .i64 e]) [] (Az (cn 70) [bT l,o.av] hs):=by kernel_rfl):VP Tryz.prog (gN m) 70 [bT l,o.av] (.tup [bT [], .int .i64 e]) :=
 VP.trV hN hs [] _ hr fun _ _=>EN (View.nils 5)
theorem C2 {o:OX} (l k:List FX) (i:VL.Id) (hs:List (Hint Tryz.prog (gN m))) {n:Nat} (hn:k.length=n) (hr:tD (cn 70).results [(i,⟨k.map FX.av,5,false⟩)] (Az (cn 70) [bT l,o.av] hs)=tE (.tup [.osl i 5 0 n false, .int .i64 0]) [(i,⟨k.map FX.av,5,false⟩)] (Az (cn 70) [bT l,o.av] hs):=by kernel_rfl):VP Tryz.prog (gN m) 70 [bT l,o.av] (.tup [bT k, .int .i64 0]) :=
 VP.trV hN hs _ _ hr fun σ hσ => EN (hn▸kS (hσ (i,⟨k.map FX.av,5,false⟩) (by simp)))
theorem af8 (l:List FX) (o:OX) (hk:o.kind%7=0) (hl:l.length<=200) (hg:∀ X∈l,aU X) (hF:aU o.F):VP Tryz.prog (gN m) 70 [bT l,o.av] (.tup [bT (bX l o).1, .int .i64 (bX l o).2]):=by
 have hr:bn .rem .int (.int .u8 (o.kind:Int)) (.int .u8 7)=some (.int .u8 0):=by rw [K3,hk];rfl
 have hV:=uM m o.F hF.1 hF.2
 have hP:=wI m l o.F.name hl
 have E4:=nR hg hF
 have hS:=wH m (l++[o.F]) (by simp;omega) E4
 unfold bX
 rw [if_pos hk]
 cases hval:o.F.valid<;>rw [hval] at hV
 . exact o0 m l [ho 14 hr,hc hV] 1
 rw [if_neg (by decide)]
 by_cases h2:200<=l.length
 . rw [if_pos h2]
   exact o0 m l [ho 14 hr,hc hV,ho 22 (bO l),hb 23 (ai (by omega:(200:Int)<=l.length))] 3
 have d2:=ag (by omega : ¬ (200:Int)<=l.length)
 rw [if_neg h2]
 by_cases h3:0<=cM l o.F.name
 . rw [if_pos h3]
   exact o0 m l [ho 14 hr,hc hV,ho 22 (bO l),hb 23 d2,hc hP,hb 29 (ai h3)] 5
 rw [if_neg h3]
 by_cases h0:l=[]<;>cases hB:eZ (l++[o.F])<;>rw [hB] at hS
 . exact o0 m l [ho 14 hr,hc hV,ho 22 (bO l),hb 23 d2,hc hP,hb 29 (ag h3), .st 32 _ _ _ (sO (x:=bT l) (by rw [h0])), .st 36 _ _ _ (lZ (X:=o.F) (j:=[26]) h0),hL [27] hS (aS.bool _)] 4
 . exact C2 m l (l++[o.F]) [27] [ho 14 hr,hc hV,ho 22 (bO l),hb 23 d2,hc hP,hb 29 (ag h3), .st 32 _ _ _ (sO (x:=bT l) (by rw [h0])), .st 36 _ _ _ (lZ (X:=o.F) (j:=[26]) h0),hL [27] hS (aS.bool _)] rfl
 . exact o0 m l [ho 14 hr,hc hV,ho 22 (bO l),hb 23 d2,hc hP,hb 29 (ag h3), .st 32 _ _ _ (pK h0 (by omega)), .st 36 _ _ _ (lY (l:=l) (X:=o.F) (i:=[23]) (j:=[26]) (by omega)),hL [27] hS (aS.bool _)] 4
 . exact C2 m l (l++[o.F]) [27] [ho 14 hr,hc hV,ho 22 (bO l),hb 23 d2,hc hP,hb 29 (ag h3), .st 32 _ _ _ (pK h0 (by omega)), .st 36 _ _ _ (lY (l:=l) (X:=o.F) (i:=[23]) (j:=[26]) (by omega)),hL [27] hS (aS.bool _)] rfl
theorem af9 (l:List FX) (o:OX) (hk:o.kind%7=1) (hl:l.length<=200) (hg:∀ X∈l,aU X) (hF:aU o.F):VP Tryz.prog (gN m) 70 [bT l,o.av] (.tup [bT (bX l o).1, .int .i64 (bX l o).2]):=by
 have hr:bn .rem .int (.int .u8 (o.kind:Int)) (.int .u8 7)=some (.int .u8 1):=by rw [K3,hk];rfl
 have hV:=uM m o.F hF.1 hF.2
 have hP:=wI m l o.F.name hl
 unfold bX
 rw [if_neg (by omega),if_pos hk]
 cases hval:o.F.valid<;>rw [hval] at hV
 . exact o0 m l [ho 14 hr,hc hV] 1
 rw [if_neg (by decide)]
 by_cases h3:cM l o.F.name<0
 . rw [if_pos h3]
   exact o0 m l [ho 14 hr,hc hV,hc hP,hb 53 (ai h3)] 4
 rw [if_neg h3]
 have d3:=ag h3
 obtain ⟨i,hi,hlt⟩:=iY h3
 have h0:l≠[]:=by intro e;rw [e] at hlt;simp at hlt
 rw [hi] at hP d3 ⊢
 rw [Int.toNat_natCast]
 have hY:=List.getElem?_eq_getElem hlt
 have vP:(l.set i o.F).length=l.length:=List.length_set
 have hS:=wH m (l.set i o.F) (by omega) (x9 hg hF)
 have ha:aV 5 (.osl [24] 5 0 l.length false) (.int .i64 (i:Int))=some (.ref [24] i 0):=dV hlt
 cases hB:eZ (l.set i o.F)<;>rw [hB] at hS
 . exact o0 m l [ho 14 hr,hc hV,hc hP,hb 53 d3, .st 56 _ _ _ (pK h0 (by omega)),ho 61 ha, .st 100061 _ _ _ (Bc (X:=o.F) (j:=[24]) hY),hL [24] hS (aS.bool _) vP] 4
 . exact C2 m l (l.set i o.F) [24] [ho 14 hr,hc hV,hc hP,hb 53 d3, .st 56 _ _ _ (pK h0 (by omega)),ho 61 ha, .st 100061 _ _ _ (Bc (X:=o.F) (j:=[24]) hY),hL [24] hS (aS.bool _) vP] vP
theorem uu (k:List FX) (h:l≠[]) {i:VL.Id} (hl:k.length+l.length<=1000000):∀ (σ : aa) (p:VL.Id),(∀ y∈[(i,(⟨k.map FX.av,5,false⟩:a8))], σ y.1=some y.2)->bu σ p (.append 5 80 (.osl i 5 0 k.length false) (bT l))=some { val := .osl p 5 0 (k++l).length false,rd:=[i],up:=[(i,none),(p,some ⟨(k++l).map FX.av,5,false⟩)] } :=
 fun σ p hσ => M1 (hσ (i,⟨k.map FX.av,5,false⟩) (by simp)) h hl
theorem Aq {i:VL.Id} {n:Nat}:∀ (σ : aa) (p:VL.Id),(∀ y∈([]:List (VL.Id × a8)), σ y.1=some y.2)->bu σ p (.append 5 80 (.osl i 5 0 n false) (bT []))=some { val := .osl i 5 0 n false,rd:=[] } :=
 fun σ p _=>rB (σ := σ) (p:=p) (bytes:=80) ue
theorem aga (l:List FX) (o:OX) (hk:o.kind%7=2) (hl:l.length<=200) (hg:∀ X∈l,aU X):VP Tryz.prog (gN m) 70 [bT l,o.av] (.tup [bT (bX l o).1, .int .i64 (bX l o).2]):=by
 have hr:bn .rem .int (.int .u8 (o.kind:Int)) (.int .u8 7)=some (.int .u8 2):=by rw [K3,hk];rfl
 have hP:=wI m l o.name hl
 unfold bX
 rw [if_neg (by omega),if_neg (by omega)]
 rw [if_neg (by omega)]
 by_cases h3:cM l o.name<0
 . rw [if_pos h3]
   exact o0 m l [ho 14 hr,hc hP,hb 83 (ai h3)] 4
 rw [if_neg h3]
 have d3:=ag h3
 obtain ⟨i,hi,hlt⟩:=iY h3
 obtain ⟨X,hX⟩:∃ X,l[i]? = some X:=⟨_,List.getElem?_eq_getElem hlt⟩
 have fT:aV 5 (bT l) (.int .i64 (i:Int))=some (.ep X.av.cells 0):=aN rfl (by rw [List.getElem?_map,hX];rfl)
 have o8:=mU hlt
 have hC:=Lr m l i hlt hl
 rw [hi] at hP d3 ⊢
 have Pl:=hg X (List.mem_of_getElem? hX)
 simp only [Int.toNat_natCast,List.getD_eq_getElem?_getD,hX,Option.getD_some,hk,reduceIte,Nat.reduceEqDiff]
 have hS:=wH m (l5 (eM l i) i (X.bD o.on)) (by rw [xY (by omega)];omega) (EO (zn hg) (uN X o.on Pl))
 have h1:=nJ (show i<=(eM l i).length by omega)
 have h2:=nK (show i<=(eM l i).length by omega)
 have e1:((eM l i).take i).length<=200:=by rw [List.length_take];omega
 have e2:((eM l i).drop i).length<=200:=by rw [List.length_drop];omega
 unfold l5 at hS ⊢
 generalize (eM l i).take i=a at *
 generalize (eM l i).drop i=b at *
 by_cases h0:a=[]<;>by_cases h4:b=[]<;>(try subst h0)<;>(try subst h4)<;>cases hB:eZ (_++[X.bD o.on]++_)<;>rw [hB] at hS
 . rw [List.append_nil] at hS;exact o0 m l [ho 14 hr,hc hP,hb 83 d3,hc hC,ho 89 fT,ho 93 hr,ho 102 h1, .st 103 _ _ _ (sO (x:=bT []) rfl), .st 106 _ _ _ (lZ (l:=[]) (X:=X.bD o.on) (j:=[44]) rfl),ho 109 h2, .st 110 _ _ _ (Aq (i:=[45]) (n:=([]++[X.bD o.on]).length)),hL [45] hS (aS.bool _) rfl] 14
 . rw [List.append_nil] at hS ⊢;exact C2 m l ([]++[X.bD o.on]) [45] [ho 14 hr,hc hP,hb 83 d3,hc hC,ho 89 fT,ho 93 hr,ho 102 h1, .st 103 _ _ _ (sO (x:=bT []) rfl), .st 106 _ _ _ (lZ (l:=[]) (X:=X.bD o.on) (j:=[44]) rfl),ho 109 h2, .st 110 _ _ _ (Aq (i:=[45]) (n:=([]++[X.bD o.on]).length)),hL [45] hS (aS.bool _) rfl] rfl
 . exact o0 m l [ho 14 hr,hc hP,hb 83 d3,hc hC,ho 89 fT,ho 93 hr,ho 102 h1, .st 103 _ _ _ (sO (x:=bT []) rfl), .st 106 _ _ _ (lZ (l:=[]) (X:=X.bD o.on) (j:=[44]) rfl),ho 109 h2, .st 110 _ _ _ (uu ([]++[X.bD o.on]) h4 (i:=[45]) (by simp;omega)),hL [49] hS (aS.bool _) rfl] 14
 . exact C2 m l ([]++[X.bD o.on]++b) [49] [ho 14 hr,hc hP,hb 83 d3,hc hC,ho 89 fT,ho 93 hr,ho 102 h1, .st 103 _ _ _ (sO (x:=bT []) rfl), .st 106 _ _ _ (lZ (l:=[]) (X:=X.bD o.on) (j:=[44]) rfl),ho 109 h2, .st 110 _ _ _ (uu ([]++[X.bD o.on]) h4 (i:=[45]) (by simp;omega)),hL [49] hS (aS.bool _) rfl] rfl
 . rw [List.append_nil] at hS;exact o0 m l [ho 14 hr,hc hP,hb 83 d3,hc hC,ho 89 fT,ho 93 hr,ho 102 h1, .st 103 _ _ _ (pK h0 (by omega)), .st 106 _ _ _ (lY (l:=a) (X:=X.bD o.on) (i:=[42]) (j:=[44]) (by omega)),ho 109 h2, .st 110 _ _ _ (Aq (i:=[45]) (n:=(a++[X.bD o.on]).length)),hL [45] hS (aS.bool _) rfl] 14
 . rw [List.append_nil] at hS ⊢;exact C2 m l (a++[X.bD o.on]) [45] [ho 14 hr,hc hP,hb 83 d3,hc hC,ho 89 fT,ho 93 hr,ho 102 h1, .st 103 _ _ _ (pK h0 (by omega)), .st 106 _ _ _ (lY (l:=a) (X:=X.bD o.on) (i:=[42]) (j:=[44]) (by omega)),ho 109 h2, .st 110 _ _ _ (Aq (i:=[45]) (n:=(a++[X.bD o.on]).length)),hL [45] hS (aS.bool _) rfl] rfl
 . exact o0 m l [ho 14 hr,hc hP,hb 83 d3,hc hC,ho 89 fT,ho 93 hr,ho 102 h1, .st 103 _ _ _ (pK h0 (by omega)), .st 106 _ _ _ (lY (l:=a) (X:=X.bD o.on) (i:=[42]) (j:=[44]) (by omega)),ho 109 h2, .st 110 _ _ _ (uu (a++[X.bD o.on]) h4 (i:=[45]) (by simp;omega)),hL [49] hS (aS.bool _) rfl] 14
 . exact C2 m l (a++[X.bD o.on]++b) [49] [ho 14 hr,hc hP,hb 83 d3,hc hC,ho 89 fT,ho 93 hr,ho 102 h1, .st 103 _ _ _ (pK h0 (by omega)), .st 106 _ _ _ (lY (l:=a) (X:=X.bD o.on) (i:=[42]) (j:=[44]) (by omega)),ho 109 h2, .st 110 _ _ _ (uu (a++[X.bD o.on]) h4 (i:=[45]) (by simp;omega)),hL [49] hS (aS.bool _) rfl] rfl
theorem agb (l:List FX) (o:OX) (hk:o.kind%7=3) (hl:l.length<=200) (hg:∀ X∈l,aU X):VP Tryz.prog (gN m) 70 [bT l,o.av] (.tup [bT (bX l o).1, .int .i64 (bX l o).2]):=by
 have hr:bn .rem .int (.int .u8 (o.kind:Int)) (.int .u8 7)=some (.int .u8 3):=by rw [K3,hk];rfl
 have hP:=wI m l o.name hl
 unfold bX
 rw [if_neg (by omega),if_neg (by omega)]
 by_cases t1:o.pH<0
 . rw [if_pos ⟨hk, .inl t1⟩]
   exact o0 m l [ho 14 hr,hb 70 (ai t1)] 1
 have x1:=ag t1
 by_cases t2:(l.length:Int)<=o.pH
 . rw [if_pos ⟨hk, .inr t2⟩]
   exact o0 m l [ho 14 hr,hb 70 x1,ho 75 (bO l),hb 76 (ai t2)] 1
 have x2:=ag t2
 rw [if_neg (by omega)]
 obtain ⟨j,hj⟩:∃ j:Nat,o.pH=(j:Int):=⟨o.pH.toNat,by omega⟩
 by_cases h3:cM l o.name<0
 . rw [if_pos h3]
   exact o0 m l [ho 14 hr,hb 70 x1,ho 75 (bO l),hb 76 x2,hc hP,hb 83 (ai h3)] 4
 rw [if_neg h3]
 have d3:=ag h3
 obtain ⟨i,hi,hlt⟩:=iY h3
 obtain ⟨X,hX⟩:∃ X,l[i]? = some X:=⟨_,List.getElem?_eq_getElem hlt⟩
 have fT:aV 5 (bT l) (.int .i64 (i:Int))=some (.ep X.av.cells 0):=aN rfl (by rw [List.getElem?_map,hX];rfl)
 have o8:=mU hlt
 have hC:=Lr m l i hlt hl
 rw [hi] at hP d3 ⊢
 have Pl:=hg X (List.mem_of_getElem? hX)
 simp only [Int.toNat_natCast,List.getD_eq_getElem?_getD,hX,Option.getD_some,hk,reduceIte,Nat.reduceEqDiff]
 have hS:=wH m (l5 (eM l i) o.pH.toNat (X)) (by rw [xY (by omega)];omega) (EO (zn hg) Pl)
 have h1:=hj▸nJ (show j<=(eM l i).length by omega)
 have h2:=hj▸nK (show j<=(eM l i).length by omega)
 have e1:((eM l i).take j).length<=200:=by rw [List.length_take];omega
 have e2:((eM l i).drop j).length<=200:=by rw [List.length_drop];omega
 rw [show o.pH.toNat=j by omega] at hS ⊢
 unfold l5 at hS ⊢
 generalize (eM l i).take j=a at *
 generalize (eM l i).drop j=b at *
 by_cases h0:a=[]<;>by_cases h4:b=[]<;>(try subst h0)<;>(try subst h4)<;>cases hB:eZ (_++[X]++_)<;>rw [hB] at hS
 . rw [List.append_nil] at hS;exact o0 m l [ho 14 hr,hb 70 x1,ho 75 (bO l),hb 76 x2,hc hP,hb 83 d3,hc hC,ho 89 fT,ho 93 hr,ho 117 h1, .st 118 _ _ _ (sO (x:=bT []) rfl), .st 121 _ _ _ (lZ (l:=[]) (X:=X) (j:=[53]) rfl),ho 125 h2, .st 126 _ _ _ (Aq (i:=[54]) (n:=([]++[X]).length)),hL [54] hS (aS.bool _) rfl] 14
 . rw [List.append_nil] at hS ⊢;exact C2 m l ([]++[X]) [54] [ho 14 hr,hb 70 x1,ho 75 (bO l),hb 76 x2,hc hP,hb 83 d3,hc hC,ho 89 fT,ho 93 hr,ho 117 h1, .st 118 _ _ _ (sO (x:=bT []) rfl), .st 121 _ _ _ (lZ (l:=[]) (X:=X) (j:=[53]) rfl),ho 125 h2, .st 126 _ _ _ (Aq (i:=[54]) (n:=([]++[X]).length)),hL [54] hS (aS.bool _) rfl] rfl
 . exact o0 m l [ho 14 hr,hb 70 x1,ho 75 (bO l),hb 76 x2,hc hP,hb 83 d3,hc hC,ho 89 fT,ho 93 hr,ho 117 h1, .st 118 _ _ _ (sO (x:=bT []) rfl), .st 121 _ _ _ (lZ (l:=[]) (X:=X) (j:=[53]) rfl),ho 125 h2, .st 126 _ _ _ (uu ([]++[X]) h4 (i:=[54]) (by simp;omega)),hL [59] hS (aS.bool _) rfl] 14
 . exact C2 m l ([]++[X]++b) [59] [ho 14 hr,hb 70 x1,ho 75 (bO l),hb 76 x2,hc hP,hb 83 d3,hc hC,ho 89 fT,ho 93 hr,ho 117 h1, .st 118 _ _ _ (sO (x:=bT []) rfl), .st 121 _ _ _ (lZ (l:=[]) (X:=X) (j:=[53]) rfl),ho 125 h2, .st 126 _ _ _ (uu ([]++[X]) h4 (i:=[54]) (by simp;omega)),hL [59] hS (aS.bool _) rfl] rfl
 . rw [List.append_nil] at hS;exact o0 m l [ho 14 hr,hb 70 x1,ho 75 (bO l),hb 76 x2,hc hP,hb 83 d3,hc hC,ho 89 fT,ho 93 hr,ho 117 h1, .st 118 _ _ _ (pK h0 (by omega)), .st 121 _ _ _ (lY (l:=a) (X:=X) (i:=[51]) (j:=[53]) (by omega)),ho 125 h2, .st 126 _ _ _ (Aq (i:=[54]) (n:=(a++[X]).length)),hL [54] hS (aS.bool _) rfl] 14
 . rw [List.append_nil] at hS ⊢;exact C2 m l (a++[X]) [54] [ho 14 hr,hb 70 x1,ho 75 (bO l),hb 76 x2,hc hP,hb 83 d3,hc hC,ho 89 fT,ho 93 hr,ho 117 h1, .st 118 _ _ _ (pK h0 (by omega)), .st 121 _ _ _ (lY (l:=a) (X:=X) (i:=[51]) (j:=[53]) (by omega)),ho 125 h2, .st 126 _ _ _ (Aq (i:=[54]) (n:=(a++[X]).length)),hL [54] hS (aS.bool _) rfl] rfl
 . exact o0 m l [ho 14 hr,hb 70 x1,ho 75 (bO l),hb 76 x2,hc hP,hb 83 d3,hc hC,ho 89 fT,ho 93 hr,ho 117 h1, .st 118 _ _ _ (pK h0 (by omega)), .st 121 _ _ _ (lY (l:=a) (X:=X) (i:=[51]) (j:=[53]) (by omega)),ho 125 h2, .st 126 _ _ _ (uu (a++[X]) h4 (i:=[54]) (by simp;omega)),hL [59] hS (aS.bool _) rfl] 14
 . exact C2 m l (a++[X]++b) [59] [ho 14 hr,hb 70 x1,ho 75 (bO l),hb 76 x2,hc hP,hb 83 d3,hc hC,ho 89 fT,ho 93 hr,ho 117 h1, .st 118 _ _ _ (pK h0 (by omega)), .st 121 _ _ _ (lY (l:=a) (X:=X) (i:=[51]) (j:=[53]) (by omega)),ho 125 h2, .st 126 _ _ _ (uu (a++[X]) h4 (i:=[54]) (by simp;omega)),hL [59] hS (aS.bool _) rfl] rfl
theorem agc (l:List FX) (o:OX) (hk:o.kind%7=4) (hl:l.length<=200) (hg:∀ X∈l,aU X):VP Tryz.prog (gN m) 70 [bT l,o.av] (.tup [bT (bX l o).1, .int .i64 (bX l o).2]):=by
 have hr:bn .rem .int (.int .u8 (o.kind:Int)) (.int .u8 7)=some (.int .u8 4):=by rw [K3,hk];rfl
 have hP:=wI m l o.name hl
 unfold bX
 rw [if_neg (by omega),if_neg (by omega)]
 rw [if_neg (by omega)]
 by_cases h3:cM l o.name<0
 . rw [if_pos h3]
   exact o0 m l [ho 14 hr,hc hP,hb 83 (ai h3)] 4
 rw [if_neg h3]
 have d3:=ag h3
 obtain ⟨i,hi,hlt⟩:=iY h3
 obtain ⟨X,hX⟩:∃ X,l[i]? = some X:=⟨_,List.getElem?_eq_getElem hlt⟩
 have fT:aV 5 (bT l) (.int .i64 (i:Int))=some (.ep X.av.cells 0):=aN rfl (by rw [List.getElem?_map,hX];rfl)
 have o8:=mU hlt
 have hC:=Lr m l i hlt hl
 rw [hi] at hP d3 ⊢
 have Pl:=hg X (List.mem_of_getElem? hX)
 simp only [Int.toNat_natCast,List.getD_eq_getElem?_getD,hX,Option.getD_some,hk,reduceIte,Nat.reduceEqDiff]
 have hS:=wH m (eM l i) (by omega) (zn hg)
 cases hB:eZ (eM l i)<;>rw [hB] at hS
 . exact o0 m l [ho 14 hr,hc hP,hb 83 d3,hc hC,ho 89 fT,ho 93 hr,hc hS] 14
 . exact vt [ho 14 hr,hc hP,hb 83 d3,hc hC,ho 89 fT,ho 93 hr,hc hS]
end
end
section
open Go.VL Go.Proofs Go.RowKit
section
variable {G:Nat->Option (List AV)} {ls:List (List FX)} {now:Nat} {hid p q:VL.Id} {l:List FX} {X:FX}
theorem cT {n:Nat} (κ : Nat->VL.Id) (hs:List (Hint Tryz.prog G)) {args:List AV} {S up:List (VL.Id × a8)} {val:AV} (ma:List AV) (S0:List (VL.Id × a8)) (Oe:AV) (wM:List (VL.Id × a8))
   (hr:tD (cn n).results (wM++VL.rest wM S0) (eC true 1000 (cn n).body [0] hs ⟨ma++List.replicate ((cn n).nt-ma.length) (.tup []),rE S0,0⟩)=tE Oe (wM++VL.rest wM S0) (eC true 1000 (cn n).body [0] hs ⟨ma++List.replicate ((cn n).nt-ma.length) (.tup []),rE S0,0⟩):=by kernel_rfl)
   (ha:bJ (j2 0 p κ) ma=args:=by simp only [bF,cd,PU.fixed,gZ,YM,uI];rfl) (hS:uQ (j2 0 p κ) S0=S:=by simp only [aY,bm,jB,j1];rfl) (hv:Oe.di (j2 0 p κ)=val:=by first | rfl | rw [PU.fixed])
   (hu:uQ (j2 0 p κ) wM=up:=by first | rfl | (simp only [aY,bm,cy,YN,M7,j1,Ve,yz];rfl)) (hd:(S.map (·.1)).Nodup:=by simp) (hd2:(up.map (·.1)).Nodup:=by simp) (e:(co n).isSome=true:=by kernel_rfl) :
   aq Tryz.prog G n args p S { val,rd:=S.map (·.1),up:=up.map fun x=>(x.1,some x.2) }:=aq.tr (hN e) κ hs ma S0 Oe wM hr ha hS hv hu hd hd2
abbrev fI (X:FX) (q:VL.Id):AV:=FI X q (.sl 7 (EX.dy X.vals))
def hF {f:FuncId} {r:AV} (h:VP Tryz.prog G f [X.av] r) (hf:aS r):Hint Tryz.prog G := .rel f [fI X [1]] [([1],sB X.inputs)] (fun _=>{ val:=r,rd:=[[1]] }) (fun p _=>aq.of_flat h (Lf (by simp [aa.of])) hf) vS
def hE {f:FuncId} {rest:List AV} {r:AV} (j:VL.Id) (hj:j≠[1]) (h:VP Tryz.prog G f (bT (l++[X])::rest) r) [hp:C5 rest] (hf:aS r):Hint Tryz.prog G :=
 .rel f (.osl j 5 0 (l.length+1) false::rest) [(j,⟨lI l X [1],5,false⟩),([1],sB X.inputs)] (fun _=>{ val:=r,rd:=[j,[1]] }) (fun p _=>aq.of_flat h (.cons (Sx (q:=[1]) (by simp [aa.of]) (by simp [aa.of,List.lookup_cons,beq_eq_false_iff_ne.2 (Ne.symm hj)])) (aI.pure hp.pure)) hf) ZW
theorem Nv {j:VL.Id} (h:l=[]):∀ (σ : aa) (p:VL.Id),(∀ y∈[(j,(⟨[fI X [1]],5,false⟩:a8))], σ y.1=some y.2)->bu σ p (.append 5 80 (.tsl 5 []) (.osl j 5 0 1 false))=some { val := .osl p 5 0 (l.length+1) false,rd:=[j],up:=[(p,some ⟨lI l X [1],5,false⟩)] }:=fun σ p hσ => by
 subst h
 exact cY (σ := σ) (p:=p) (k:=5) (bytes:=80) (es:=[]) (x := .osl j 5 0 1 false) (ys:=[fI X [1]]) (rd:=[j]) (by rw [dY (bk:=⟨[fI X [1]],5,false⟩) (hσ (j,⟨[fI X [1]],5,false⟩) (by simp)) rfl (by simp)];rfl) (by simp) (by simp) (bE (by simp)) rfl
theorem Nw {i j:VL.Id} (hl:l.length<=1000):∀ (σ : aa) (p:VL.Id),(∀ y∈[(j,(⟨[fI X [1]],5,false⟩:a8)),(i,⟨l.map FX.av,5,false⟩)], σ y.1=some y.2)->bu σ p (.append 5 80 (.osl i 5 0 l.length false) (.osl j 5 0 1 false))=some { val := .osl p 5 0 (l.length+1) false,rd:=[i,j],up:=[(i,none),(p,some ⟨lI l X [1],5,false⟩)] }:=fun σ p hσ => by
 have:=Gj (σ := σ) (p:=p) (bytes:=80) (t:=false) (hσ (j,⟨[fI X [1]],5,false⟩) (by simp)) (hσ (i,⟨l.map FX.av,5,false⟩) (by simp)) (by simp;omega) (by decide) rfl (M0 FX.one l)
 rw [List.length_map] at this
 exact this
end
section
variable (m:Int) {ls:List (List FX)} {now:Nat} {hid p q:VL.Id} {l:List FX} {X:FX}
theorem agd (hl:l.length<=200) (hg:∀ X∈l,aU X) (hX:aU X) (he:Ah l X=0) (p q:VL.Id) :
   aq Tryz.prog (gN m) 70 [bT l,OI X q] p [(q,sB X.inputs)] { val := .tup [.osl (27::p) 5 0 (l.length+1) false, .int .i64 0],rd:=[q],up:=[(27::p,some ⟨lI l X q,5,false⟩)] }:=by
 have hV:=uM m X hX.1 hX.2
 have hP:=wI m l X.name hl
 have hS:=wH m (l++[X]) (by simp;omega) (nR hg hX)
 unfold Ah at he
 have h1:X.valid=true:=by cases hv:X.valid<;>simp_all
 rw [h1,if_neg (by decide)] at he
 have h2 : ¬ 200<=l.length:=fun h=>by rw [if_pos h] at he;exact absurd he (by decide)
 rw [if_neg h2] at he
 have h3 : ¬ 0<=cM l X.name:=fun h=>by rw [if_pos h] at he;exact absurd he (by decide)
 rw [if_neg h3] at he
 have hB:eZ (l++[X])=true:=by cases hv:eZ (l++[X])<;>simp_all
 rw [h1] at hV
 rw [hB] at hS
 have d2:=ag (show ¬ (200:Int)<=l.length by omega)
 by_cases h0:l=[]
 . exact cT (up:=[(27::p,⟨lI l X q,5,false⟩)]) (fun _=>q) [hF hV (aS.bool _),ho 22 (bO l),hb 23 d2,hc hP,hb 29 (ag h3), .st 32 _ _ _ (sO (x:=bT l) (by rw [h0])), .st 36 _ _ _ (Nv (X:=X) (j:=[26,0]) h0),hE [27,0] (by decide) hS (aS.bool _)]
     [bT l,OI X [1]] [([1],sB X.inputs)] (.tup [.osl [27,0] 5 0 (l.length+1) false, .int .i64 0]) [([27,0],⟨lI l X [1],5,false⟩)]
 . exact cT (up:=[(27::p,⟨lI l X q,5,false⟩)]) (fun _=>q) [hF hV (aS.bool _),ho 22 (bO l),hb 23 d2,hc hP,hb 29 (ag h3), .st 32 _ _ _ (pK h0 (by omega)), .st 36 _ _ _ (Nw (l:=l) (X:=X) (i:=[23,0]) (j:=[26,0]) (by omega)),hE [27,0] (by decide) hS (aS.bool _)]
     [bT l,OI X [1]] [([1],sB X.inputs)] (.tup [.osl [27,0] 5 0 (l.length+1) false, .int .i64 0]) [([27,0],⟨lI l X [1],5,false⟩)]
theorem age (hl:l.length<=200) (hg:∀ X∈l,aU X) (hX:aU X) (he:Ah l X≠0) (p q:VL.Id) :
   aq Tryz.prog (gN m) 70 [bT l,OI X q] p [(q,sB X.inputs)] { val := .tup [.nils, .int .i64 (Ah l X)],rd:=[q] }:=by
 have hV:=uM m X hX.1 hX.2
 have hP:=wI m l X.name hl
 have hS:=wH m (l++[X]) (by simp;omega) (nR hg hX)
 have er (e:Int) (hs:List (Hint Tryz.prog (gN m))) := @cT (gN m) p 70 (fun _=>q) hs [bT l,OI X q] [(q,sB X.inputs)] [] (.tup [.nils, .int .i64 e]) [bT l,OI X [1]] [([1],sB X.inputs)] (.tup [.nils, .int .i64 e]) []
 unfold Ah at he ⊢
 cases h1:X.valid<;>rw [h1] at hV
 . rw [if_pos rfl]
   exact er 1 [hF hV (aS.bool _)]
 rw [h1,if_neg (by decide)] at he
 rw [if_neg (by decide)]
 by_cases h2:200<=l.length
 . rw [if_pos h2]
   exact er 3 [hF hV (aS.bool _),ho 22 (bO l),hb 23 (ai (show (200:Int)<=l.length by omega))]
 have d2:=ag (show ¬ (200:Int)<=l.length by omega)
 rw [if_neg h2] at he ⊢
 by_cases h3:0<=cM l X.name
 . rw [if_pos h3]
   exact er 5 [hF hV (aS.bool _),ho 22 (bO l),hb 23 d2,hc hP,hb 29 (ai h3)]
 rw [if_neg h3] at he ⊢
 have hB:eZ (l++[X])=false:=by cases hv:eZ (l++[X])<;>simp_all
 rw [hB,if_neg (by decide)]
 rw [hB] at hS
 by_cases h0:l=[]
 . exact er 4 [hF hV (aS.bool _),ho 22 (bO l),hb 23 d2,hc hP,hb 29 (ag h3), .st 32 _ _ _ (sO (x:=bT l) (by rw [h0])), .st 36 _ _ _ (Nv (X:=X) (j:=[26,0]) h0),hE [27,0] (by decide) hS (aS.bool _)]
 . exact er 4 [hF hV (aS.bool _),ho 22 (bO l),hb 23 d2,hc hP,hb 29 (ag h3), .st 32 _ _ _ (pK h0 (by omega)), .st 36 _ _ _ (Nw (l:=l) (X:=X) (i:=[23,0]) (j:=[26,0]) (by omega)),hE [27,0] (by decide) hS (aS.bool _)]
theorem Pz (l:List FX) (o:OX) (hk:o.kind%7<5) (hL:eZ l=true) (hg:∀ X∈l,aU X) (hF:aU o.F):VP Tryz.prog (gN m) 70 [bT l,o.av] (.tup [bT (bX l o).1, .int .i64 (bX l o).2]):=by
 have hl:=iZ hL
 have h0:o.kind%7=0∨o.kind%7=1∨o.kind%7=2∨o.kind%7=3∨o.kind%7=4:=by omega
 rcases h0 with h0 | h0 | h0 | h0 | h0
 . exact af8 m l o h0 hl hg hF
 . exact af9 m l o h0 hl hg hF
 . exact aga m l o h0 hl hg
 . exact agb m l o h0 hl hg
 . exact agc m l o h0 hl hg
theorem To (hl:ls[now]? = some l):VP Tryz.prog (gN m) 20 [b8 ls now] (bT l):=vt [ho 7 (A6 hl)]
theorem agf (ls:List (List FX)) (a:Nat) (o:OX) (hI:uf aU ls a) (qA:ls.length<=900) (hF:aU o.F) :
   VP Tryz.prog (gN m) 43 [b8 ls a,o.av] (.tup [b8 (wy ls a o).1 (wy ls a o).2.1, .int .i64 (wy ls a o).2.2.1, .bool (wy ls a o).2.2.2]):=by
 obtain ⟨l,hl⟩:∃ l,ls[a]? = some l:=⟨_,List.getElem?_eq_getElem hI.lt⟩
 have hm:=List.mem_of_getElem? hl
 have hL:=hI.list l hm
 have Nj:=hI.aU l hm
 have Kg:=iZ hL
 have halt:=hI.lt
 have hn:=To m hl
 have hr:bn .rem .int (.int .u8 (o.kind:Int)) (.int .u8 7)=some (.int .u8 ((o.kind%7:Nat):Int)):=K3 _
 have hk7:o.kind%7<7:=Nat.mod_lt _ (by decide)
 unfold wy
 by_cases h5:o.kind%7=5
 . rw [h5] at hr
   rw [if_pos h5]
   by_cases h0:a=0
   . rw [if_pos h0]
     exact vt [ho 11 hr,hb 15 (ai (by omega:(a:Int)=0))]
   . have d:decide ((a:Int)=0)=false:=ag (by omega)
     rw [if_neg h0]
     exact vt [ho 11 hr,hb 15 d,hw 19 (ly h0 (by omega:a<=1000000))]
 rw [if_neg h5]
 have x5:=ag (by omega : ¬ ((o.kind%7:Nat):Int)=5)
 by_cases h6:o.kind%7=6
 . rw [h6] at hr
   rw [if_pos h6]
   have w:=ly (a:=ls.length) (by omega) (by omega)
   by_cases h0:a+1=ls.length
   . rw [if_pos h0]
     exact vt [ho 11 hr,ho 24 hr,ho 30 (xZ ls),hw 31 w,hb 32 (ai (by omega:(a:Int)=((ls.length-1:Nat):Int)))]
   . rw [if_neg h0]
     exact vt [ho 11 hr,ho 24 hr,ho 30 (xZ ls),hw 31 w,hb 32 (ag (by omega : ¬ (a:Int)=((ls.length-1:Nat):Int))),hw 36 (ao a (by omega))]
 have JV:ls.getD a []=l:=by rw [List.getD_eq_getElem?_getD,hl];rfl
 rw [if_neg h6,JV]
 dsimp only
 have x6:=ag (by omega : ¬ ((o.kind%7:Nat):Int)=6)
 have hC:=Pz m l o (by omega) hL Nj hF
 have hS:(bX l o).2=0->VP Tryz.prog (gN m) 19 [bT (bX l o).1,bT l] (.bool (gJ (bX l o).1 l)):=fun h0=>GI m _ _ (by have:=iZ (yd h0);omega) (by omega) (ye Nj hF uN) Nj
 generalize bX l o=c at *
 obtain ⟨k,e⟩:=c
 simp only [] at hC hS ⊢
 by_cases he:e=0
 case neg =>
   rw [if_pos (.inl he)]
   exact vt [ho 11 hr,hb 12 x5,ho 24 hr,hb 25 x6,hc hn,hc hC,hb 47 (show (e != 0)=true by simpa using he)]
 subst he
 have hS:=hS rfl
 cases heq:gJ k l<;>rw [heq] at hS
 case true =>
   rw [if_pos (.inr rfl)]
   exact vt [ho 11 hr,hb 12 x5,ho 24 hr,hb 25 x6,hc hn,hc hC,hc hn,hc hS]
 rw [if_neg (by simp)]
 have vP:=vD (ls:=ls) (h:=a+1) (by omega)
 have WU:(ls.take (a+1)).length=a+1:=by rw [List.length_take];omega
 have E8:=ao a (by omega)
 generalize ls.take (a+1)=t at *
 have h0:t≠[]:=by intro e;rw [e] at WU;simp at WU
 have a1:∀ (σ : aa) (p:VL.Id),(∀ y∈([]:List (VL.Id × a8)), σ y.1=some y.2)->bu σ p (.append 1 24 (.tsl 1 []) (r9 t))=some { val := .osl p 1 0 t.length false,rd:=[],up:=[(p,some ⟨t.map bT,1,false⟩)] }:=fun σ p hσ => I1 (σ := σ) (p:=p) h0 (by omega)
 have a2:∀ (σ : aa) (p:VL.Id),(∀ y∈[(([39]:VL.Id),(⟨[bT k],1,false⟩:a8)),([37],⟨t.map bT,1,false⟩)], σ y.1=some y.2)->bu σ p (.append 1 24 (.osl [37] 1 0 t.length false) (.osl [39] 1 0 1 false))=some { val := .osl p 1 0 (t++[k]).length false,rd:=[[37],[39]],up:=[([37],none),(p,some ⟨(t++[k]).map bT,1,false⟩)] }:=fun σ p hσ =>
   O6 (hσ ([37],⟨t.map bT,1,false⟩) (by simp)) (hσ ([39],⟨[bT k],1,false⟩) (by simp)) (by omega)
 exact VP.trV hN [ho 11 hr,hb 12 x5,ho 24 hr,hb 25 x6,hc hn,hc hC,hc hn,hc hS,hw 61 E8,ho 62 vP, .st 63 _ _ _ a1, .st 66 _ _ _ a2,hw 70 E8] [([40],⟨(t++[k]).map bT,1,false⟩)] (.tup [.agg [.osl [40] 1 0 (t++[k]).length false, .int .i64 ((a+1:Nat):Int)], .int .i64 0, .bool false]) (by kernel_rfl) fun σ hσ =>
   O8 (View.agg (.cons (ES (ls:=t++[k]) (hσ ([40],⟨(t++[k]).map bT,1,false⟩) (by simp)) (t:=false)) (.cons (View.pure (af.int _ _)) .nil)))
theorem acM (hl:ls[now]? = some l) (hI:uf aU ls now) (qA:ls.length<=900) (hX:aU X) (he:Ah l X=0) (p q:VL.Id) :
   aq Tryz.prog (gN m) 43 [b8 ls now,OI X q] p [(q,sB X.inputs)] { val := .tup [.agg [.osl (40::p) 1 0 (now+1+1) false, .int .i64 ((now+1:Nat):Int)], .int .i64 0, .bool false],rd:=[q],up:=[(27::16::p,some ⟨lI l X q,5,false⟩),(40::p,some ⟨Gu (ls.take (now+1)) (l.length+1) (27::16::p),1,false⟩)] }:=by
 have Tp:=List.mem_of_getElem? hl
 have Nj:=hI.aU l Tp
 have Kg:=iZ (hI.list l Tp)
 have hn:=To m hl
 have hC:=fun p=>agd m Kg Nj hX he p [1]
 have hS:VP Tryz.prog (gN m) 19 [bT (l++[X]),bT l] (.bool false):=by have:=GI m (l++[X]) l (by simp;omega) (by omega) (nR Nj hX) Nj;rwa [Jq] at this
 have hlt:=hI.lt
 have vP:=vD (ls:=ls) (h:=now+1) (by omega)
 have WU:(ls.take (now+1)).length=now+1:=by rw [List.length_take];omega
 have E8:=ao now (by omega)
 generalize ls.take (now+1)=t at *
 have h0:t≠[]:=by intro e;rw [e] at WU;simp at WU
 have a1:∀ (σ : aa) (p:VL.Id),(∀ y∈([]:List (VL.Id × a8)), σ y.1=some y.2)->bu σ p (.append 1 24 (.tsl 1 []) (r9 t))=some { val := .osl p 1 0 (now+1) false,rd:=[],up:=[(p,some ⟨t.map bT,1,false⟩)] }:=fun σ p hσ => by rw [<- WU];exact I1 (σ := σ) (p:=p) h0 (by omega)
 have a2:∀ (σ : aa) (p:VL.Id),(∀ y∈[(([39,0]:VL.Id),(⟨[.osl [27,16,0] 5 0 (l.length+1) false],1,false⟩:a8)),([37,0],⟨t.map bT,1,false⟩)], σ y.1=some y.2)->bu σ p (.append 1 24 (.osl [37,0] 1 0 (now+1) false) (.osl [39,0] 1 0 1 false))=some { val := .osl p 1 0 (now+1+1) false,rd:=[[37,0],[39,0]],up:=[([37,0],none),(p,some ⟨Gu t (l.length+1) [27,16,0],1,false⟩)] }:=fun σ p hσ => by
   have:=Gj (σ := σ) (p:=p) (bytes:=24) (t:=false) (hσ ([39,0],⟨[.osl [27,16,0] 5 0 (l.length+1) false],1,false⟩) (by simp)) (hσ ([37,0],⟨t.map bT,1,false⟩) (by simp)) (by simp;omega) (by decide) rfl (x7 t)
   rw [List.length_map,WU] at this
   exact this
 exact cT (up:=[(27::16::p,⟨lI l X q,5,false⟩),(40::p,⟨Gu t (l.length+1) (27::16::p),1,false⟩)]) (fun _=>q)
   [hc hn, .rel 70 [bT l,OI X [1]] [([1],sB X.inputs)] _ (fun p _=>hC p) vS,hc hn,hE [27,16,0] (by decide) hS (aS.bool _),hw 61 E8,ho 62 vP, .st 63 _ _ _ a1, .st 66 _ _ _ a2,hw 70 E8]
   [b8 ls now,OI X [1]] [([1],sB X.inputs)] (.tup [.agg [.osl [40,0] 1 0 (now+1+1) false, .int .i64 ((now+1:Nat):Int)], .int .i64 0, .bool false]) [([27,16,0],⟨lI l X [1],5,false⟩),([40,0],⟨Gu t (l.length+1) [27,16,0],1,false⟩)]
theorem acN (hl:ls[now]? = some l) (hI:uf aU ls now) (hX:aU X) (he:Ah l X≠0) (p q:VL.Id) :
   aq Tryz.prog (gN m) 43 [b8 ls now,OI X q] p [(q,sB X.inputs)] { val := .tup [b8 ls now, .int .i64 (Ah l X), .bool false],rd:=[q] }:=by
 have Tp:=List.mem_of_getElem? hl
 have hC:=fun p=>age m (iZ (hI.list l Tp)) (hI.aU l Tp) hX he p [1]
 have hn:=To m hl
 exact cT (up:=[]) (fun _=>q) [hc hn, .rel 70 [bT l,OI X [1]] [([1],sB X.inputs)] _ (fun p _=>hC p) vS,hb 47 (show (Ah l X != 0)=true by simpa using he)] [b8 ls now,OI X [1]] [([1],sB X.inputs)] (.tup [b8 ls now, .int .i64 (Ah l X), .bool false]) []
theorem Tq:Nu ls now l (l++[X])=bH (ls.take (now+1)++[l++[X]]) (now+1):=by unfold Nu;rw [Jq,if_neg (by decide)]
theorem apN (hl:ls[now]? = some l) (hI:uf aU ls now) (qA:ls.length<=900) (hX:aU X) (h0:X.inputs≠[]) (p q hid:VL.Id) (hq:q≠hid) :
   aq Tryz.prog (gN m) 14 [.ref hid 0 0,fI X q] p [(q,sB X.inputs),(hid,bH ls now)] { val := .int .i64 (Ah l X),rd:=[q,hid],up:=if Ah l X=0 then [(hid,some (bH (ls.take (now+1)++[l++[X]]) (now+1)))] else [] }:=by
 have Tp:=List.mem_of_getElem? hl
 have hg:=hI.aU l Tp
 have hLB:=hI.list l Tp
 have hlen:=iZ hLB
 have E4:=nR hg hX
 have hV:=yw m X hX.1 hX.2
 have hF':=zI m l X.name (by omega) hg
 have hL1:(l++[X]).length<=1000:=by simp;omega
 have hS:=Nt m (l++[X]) hL1 E4
 have c:=VK m hl (by omega) (by omega) hL1 hg E4 [2]
 rw [Tq] at c
 have hC (p:VL.Id):=by
   obtain ⟨h1,h2,_,h4⟩:=kY hX.2
   exact Ph lW X h0 (by omega) (by omega) fk cU (fun e he=>C1 m e (h4 e he)) p [1]
 have e:=(congrArg Prod.fst (CO (hid:=hid) (ls:=ls) (now:=now) (X:=X) hLB)).symm
 have er (e:Int) (hs:List (Hint Tryz.prog (gN m))) := @cT (gN m) p 14 (naK q hid) hs [.ref hid 0 0,fI X q] [(q,sB X.inputs),(hid,bH ls now)] [] (.int .i64 e) [.ref [2] 0 0,fI X [1]] [([1],sB X.inputs),([2],bH ls now)] (.int .i64 e) []
 simp only [] at e
 rw [e]
 unfold DC
 cases hval:X.valid<;>rw [hval] at hV
 . rw [if_pos rfl,if_neg (by decide)]
   exact er 1 [C9 [2] hl,hF hV (aS.bool _)] (hd:=by simp [hq])
 rw [if_neg (by decide)]
 by_cases h2:l.length=200
 . rw [if_pos h2,if_neg (by decide)]
   exact er 3 [C9 [2] hl,hF hV (aS.bool _),ho 15 (bO l),hb 16 (ai (by omega:(l.length:Int)=200))] (hd:=by simp [hq])
 have d2:=ag (by omega : ¬ (l.length:Int)=200)
 rw [if_neg h2]
 by_cases h3:0<=cM l X.name
 . rw [if_pos h3,if_neg (by decide)]
   exact er 5 [C9 [2] hl,hF hV (aS.bool _),ho 15 (bO l),hb 16 d2,hc hF',hb 22 (ai h3)] (hd:=by simp [hq])
 rw [if_neg h3]
 by_cases De:l=[]<;>cases hB:kT (l++[X])<;>rw [hB] at hS
 . exact er 4 [C9 [2] hl,hF hV (aS.bool _),ho 15 (bO l),hb 16 d2,hc hF',hb 22 (ag h3),hc (Py De), .rel 39 [fI X [1]] [([1],sB X.inputs)] _ (fun p _=>hC p) vS, .st 28 _ _ _ (lZ (X:=X) (j:=[23,0]) De),hL [24,0] hS (aS.bool _)] (hd:=by simp [hq])
 . exact cT (up:=[(hid,bH (ls.take (now+1)++[l++[X]]) (now+1))]) (naK q hid) [C9 [2] hl,hF hV (aS.bool _),ho 15 (bO l),hb 16 d2,hc hF',hb 22 (ag h3),hc (Py De), .rel 39 [fI X [1]] [([1],sB X.inputs)] _ (fun p _=>hC p) vS, .st 28 _ _ _ (lZ (X:=X) (j:=[23,0]) De),hL [24,0] hS (aS.bool _),Z5 [2] [24,0] (by decide) rfl c] [.ref [2] 0 0,fI X [1]] [([1],sB X.inputs),([2],bH ls now)] (.int .i64 0) [([2],bH (ls.take (now+1)++[l++[X]]) (now+1))] (hd:=by simp [hq])
 . exact er 4 [C9 [2] hl,hF hV (aS.bool _),ho 15 (bO l),hb 16 d2,hc hF',hb 22 (ag h3),VJ De (by omega), .rel 39 [fI X [1]] [([1],sB X.inputs)] _ (fun p _=>hC p) vS, .st 28 _ _ _ (lY (l:=l) (X:=X) (j:=[23,0]) (i:=[5,20,0]) (by omega)),hL [24,0] hS (aS.bool _)] (hd:=by simp [hq])
 . exact cT (up:=[(hid,bH (ls.take (now+1)++[l++[X]]) (now+1))]) (naK q hid) [C9 [2] hl,hF hV (aS.bool _),ho 15 (bO l),hb 16 d2,hc hF',hb 22 (ag h3),VJ De (by omega), .rel 39 [fI X [1]] [([1],sB X.inputs)] _ (fun p _=>hC p) vS, .st 28 _ _ _ (lY (l:=l) (X:=X) (j:=[23,0]) (i:=[5,20,0]) (by omega)),hL [24,0] hS (aS.bool _),Z5 [2] [24,0] (by decide) rfl c] [.ref [2] 0 0,fI X [1]] [([1],sB X.inputs),([2],bH ls now)] (.int .i64 0) [([2],bH (ls.take (now+1)++[l++[X]]) (now+1))] (hd:=by simp [hq])
end
end
section
open Go.VL Go.Proofs Go.RowKit
section
variable (m:Int) {ls:List (List FX)} {now:Nat} {hid mid p q:VL.Id} {l:List FX} {X:FX} {o:OX}
theorem hh:HH Tryz.prog (gN m) aU 36 29 37 38 39 40 41 where
 present:=cF
 valid:=fun X hX=>yw m X hX.1 hX.2
 find:=zI m
 cloneL:=du
 clone:=yy m
 sat:=Nt m
 change:=fun hid ls now l k p ha qA hl hk Nj hgk hne=>by
   have hq:=Xe m k l hk hl hgk Nj
   unfold sa
   by_cases h:k=l
   . subst h
     rw [if_pos (bI rfl)]
     rw [bI rfl] at hq
     exact I4 gW cF ha hq p
   . rw [if_neg (by rw [aZ h];decide)]
     rw [aZ h] at hq
     exact CE gW cF ha qA hq p hne
theorem acO (hl:ls[now]? = some l) (qA:ls.length<=1000) (hn:l.length<=200) (hg:∀ X∈l,aU X) (nm:List UInt8) (t:Int) (hp : ¬ p <:+ hid):aq Tryz.prog (gN m) 26 [.ref hid 0 0, .str nm, .int .i64 t] p [(hid,bH ls now)] { val := .int .i64 (yb hid ls now l nm t).1,rd:=[hid],up:=(yb hid ls now l nm t).2 } :=
 Sp qp eW jC (hh m) hl qA hn hg nm t p hp
theorem Nx (hl:ls[now]? = some l) (qA:ls.length<=1000) (hn:l.length<=200) (hg:∀ X∈l,aU X) (nm:List UInt8) (hp : ¬ p <:+ hid):aq Tryz.prog (gN m) 27 [.ref hid 0 0, .str nm] p [(hid,bH ls now)] { val := .int .i64 (zr hid ls now l nm).1,rd:=[hid],up:=(zr hid ls now l nm).2 } :=
 U9 oD eW (hh m) hl qA hn hg nm p hp
noncomputable def doB (ls:List (List FX)) (now:Nat) (o:OX):a8:=bH (wy ls now o).1 (wy ls now o).2.1
theorem yA (ρ : VL.Id->VL.Id):(doB ls now o).di ρ = doB ls now o:=j1
theorem toDo {f:FuncId} {args:List AV} {P:Program} {G:Nat->Option (List AV)} {r:Int × List (VL.Id × Option a8)} (hl:ls[now]? = some l) (hL:eZ l=true) (hk:o.kind%7<5) (e:qW hid ls now l o=r) (h:aq P G f args p [(hid,bH ls now)] { val := .int .i64 r.1,rd:=[hid],up:=r.2 }) :
   aq P G f args p [(hid,bH ls now)] { val := .int .i64 (wy ls now o).2.2.1,rd:=[hid],up:=[(hid,some (doB ls now o))] }:=by
 subst e
 rw [<- (M5 (hid:=hid) (σ := aa.of [(hid,bH ls now)]) hl hL hk dF).1]
 refine aq.Tm _ h fun σ hσ => ?_
 funext i
 have hh:=(M5 (hid:=hid) hl hL hk (hσ (hid,bH ls now) (by simp))).2
 by_cases hi:i=hid
 . subst hi
   rw [hh]
   exact (aa.a6 _ _ _).symm
 . rw [mH _ fun x hx he=>hi (by rw [<- he,Sq x hx]),mH _ fun x hx he=>hi (by rw [<- he,List.mem_singleton.1 hx])]
theorem pT (hne:hid≠mid) (h1 : ¬ p <:+ hid) (h2 : ¬ p <:+ mid) (hs:List (Hint Tryz.prog (gN m))) {B:a8} (hB:∀ ρ,B.di ρ = B)
   (hr:tD (cn 22).results ([([2],B),([3],B)]++VL.rest [([2],B),([3],B)] [([2],bH ls now),([3],bH ls now)]) (eC true 1000 (cn 22).body [0] hs ⟨[.ref [2] 0 0, .ref [3] 0 0,o.av]++List.replicate ((cn 22).nt-3) (.tup []),rE [([2],bH ls now),([3],bH ls now)],0⟩)=tE (.bool true) ([([2],B),([3],B)]++VL.rest [([2],B),([3],B)] [([2],bH ls now),([3],bH ls now)]) (eC true 1000 (cn 22).body [0] hs ⟨[.ref [2] 0 0, .ref [3] 0 0,o.av]++List.replicate ((cn 22).nt-3) (.tup []),rE [([2],bH ls now),([3],bH ls now)],0⟩):=by kernel_rfl) :
   aq Tryz.prog (gN m) 22 [.ref hid 0 0, .ref mid 0 0,o.av] p [(hid,bH ls now),(mid,bH ls now)] { val := .bool true,rd:=[hid,mid],up:=[(hid,some B),(mid,some B)] } :=
 cT (up:=[(hid,B),(mid,B)]) (nbK [] hid mid) hs [.ref [2] 0 0, .ref [3] 0 0,o.av] [([2],bH ls now),([3],bH ls now)] (.bool true) [([2],B),([3],B)] hr (hu:=by simp only [aY,bm,hB];rfl) (hd:=by simp [hne]) (hd2:=by simp [hne])
theorem Zw:Ss Tryz.prog (gN m) aU 22:=fun {hid mid} hne {ls now o} hI qA hF p h1 h2=>by
 obtain ⟨l,hl⟩:∃ l,ls[now]? = some l:=⟨_,List.getElem?_eq_getElem hI.lt⟩
 have Tp:=List.mem_of_getElem? hl
 have hg:=hI.aU l Tp
 have hL:=hI.list l Tp
 have hn:=iZ hL
 have hd:=agf m ls now o hI qA hF
 have he:((wy ls now o).2.2.1==(wy ls now o).2.2.1)=true:=beq_self_eq_true _
 have hr {k:Nat} (h:o.kind%7=k):bn .rem .int (.int .u8 (o.kind:Int)) (.int .u8 7)=some (.int .u8 (k:Int)):=by rw [K3,h]
 have sx {p:VL.Id} (hp:∀ x∈[(([2]:VL.Id),bH ls now)], ¬ p <:+ x.1) : ¬ p <:+ [2]:=hp ([2],bH ls now) (by simp)
 have h0:o.kind%7=0∨o.kind%7=1∨o.kind%7=2∨o.kind%7=3∨o.kind%7=4∨o.kind%7=5∨o.kind%7=6:=by omega
 rcases h0 with h | h | h | h | h | h | h
 . exact pT m hne h1 h2 [hc hd,ho 24 (hr h), .rel 14 [.ref [2] 0 0,o.F.av] [([2],bH ls now)] _ (fun p _=>toDo (o:=o) hl hL (by omega) (by unfold qW;simp [h]) (Xf m hl (by omega) hn hg o.F hF)) vS,hb 32 he] yA
 . exact pT m hne h1 h2 [hc hd,ho 24 (hr h), .rel 44 [.ref [2] 0 0,o.F.av] [([2],bH ls now)] _ (fun p _=>toDo (o:=o) hl hL (by omega) (by unfold qW;simp [h]) (af7 m hl (by omega) hn hg o.F hF)) vS,hb 40 he] yA
 . exact pT m hne h1 h2 [hc hd,ho 24 (hr h), .rel 45 [.ref [2] 0 0, .str o.name, .bool o.on] [([2],bH ls now)] _ (fun p _=>toDo (o:=o) hl hL (by omega) (by unfold qW;simp [h]) (acL m hl (by omega) hn hg o.name o.on)) vS,hb 50 he] yA
 . exact pT m hne h1 h2 [hc hd,ho 24 (hr h), .rel 26 [.ref [2] 0 0, .str o.name, .int .i64 o.pH] [([2],bH ls now)] _ (fun p hp=>toDo (o:=o) hl hL (by omega) (by unfold qW;simp [h]) (acO m hl (by omega) hn hg o.name o.pH (sx hp))) vS,hb 60 he] yA
 . exact pT m hne h1 h2 [hc hd,ho 24 (hr h), .rel 27 [.ref [2] 0 0, .str o.name] [([2],bH ls now)] _ (fun p hp=>toDo (o:=o) hl hL (by omega) (by unfold qW;simp [h]) (Nx m hl (by omega) hn hg o.name (sx hp))) vS,hb 68 he] yA
 . have hI2:=hI.lt
   unfold wy at hd ⊢
   rw [if_pos h] at hd ⊢
   by_cases h0:now=0
   . rw [if_pos h0] at hd ⊢
     exact pT m hne h1 h2 [hc hd,ho 24 (hr h), .rel 24 [.ref [2] 0 0] [([2],bH ls now)] _ (fun p _=>hT [hb 7 (ai (by omega:(now:Int)=0))] (.bool false) (bH ls now)) vS] fun _=>j1
   . rw [if_neg h0] at hd ⊢
     have d:decide ((now:Int)=0)=false:=ag (by omega)
     have w:=ly h0 (by omega)
     exact pT m hne h1 h2 [hc hd,ho 24 (hr h), .rel 24 [.ref [2] 0 0] [([2],bH ls now)] _ (fun p _=>hT [hb 7 d,hw 12 w] (.bool true) (bH ls (now-1))) vS] fun _=>j1
 . have hI2:=hI.lt
   unfold wy at hd ⊢
   rw [if_neg (by omega),if_pos h] at hd ⊢
   have w:=ly (a:=ls.length) (by omega) (by omega)
   by_cases h0:now+1=ls.length
   . rw [if_pos h0] at hd ⊢
     have d:decide ((now:Int)=((ls.length-1:Nat):Int))=true:=ai (by omega)
     exact pT m hne h1 h2 [hc hd,ho 24 (hr h), .rel 25 [.ref [2] 0 0] [([2],bH ls now)] _ (fun p _=>hT [ho 11 (xZ ls),hw 12 w,hb 13 d] (.bool false) (bH ls now)) vS] fun _=>j1
   . rw [if_neg h0] at hd ⊢
     have d:decide ((now:Int)=((ls.length-1:Nat):Int))=false:=ag (by omega)
     have v:=ao now (by omega)
     exact pT m hne h1 h2 [hc hd,ho 24 (hr h), .rel 25 [.ref [2] 0 0] [([2],bH ls now)] _ (fun p _=>hT [ho 11 (xZ ls),hw 12 w,hb 13 d,hw 18 v] (.bool true) (bH ls (now+1))) vS] fun _=>j1
theorem VN (hl:ls[now]? = some l) (hI:uf aU ls now) (qA:ls.length<=900) (hX:aU X) (hx:X.inputs≠[]) (he:Ah l X=0) (p q hid mid:VL.Id) (h1:q≠hid) (h2:q≠mid) (h3:hid≠mid) (hq : ¬ p <:+ q) (hh : ¬ p <:+ hid) (hm : ¬ p <:+ mid) :
   aq Tryz.prog (gN m) 22 [.ref hid 0 0, .ref mid 0 0,OI X q] p [(q,sB X.inputs),(hid,bH ls now),(mid,bH ls now)]
     { val := .bool true,rd:=[q,hid,mid],up:=[(27::16::6::p,some ⟨lI l X q,5,false⟩),(40::6::p,some ⟨Gu (ls.take (now+1)) (l.length+1) (27::16::6::p),1,false⟩),(hid,some (bH (ls.take (now+1)++[l++[X]]) (now+1))),(mid,some (YO (now+1+1) (40::6::p) (now+1)))] }:=by
 have hA (p:VL.Id):=apN m hl hI qA hX hx p [1] [2] (by decide)
 rw [he,if_pos rfl] at hA
 exact cT (up:=[(27::16::6::p,⟨lI l X q,5,false⟩),(40::6::p,⟨Gu (ls.take (now+1)) (l.length+1) (27::16::6::p),1,false⟩),(hid,bH (ls.take (now+1)++[l++[X]]) (now+1)),(mid,YO (now+1+1) (40::6::p) (now+1))]) (nbK q hid mid)
   [.rel 43 [b8 ls now,OI X [1]] [([1],sB X.inputs)] _ (fun p _=>acM m hl hI qA hX he p [1]) vS, .rel 14 [.ref [2] 0 0,fI X [1]] [([1],sB X.inputs),([2],bH ls now)] _ (fun p _=>hA p) ZW]
   [.ref [2] 0 0, .ref [3] 0 0,OI X [1]] [([1],sB X.inputs),([2],bH ls now),([3],bH ls now)] (.bool true) [([27,16,6,0],⟨lI l X [1],5,false⟩),([40,6,0],⟨Gu (ls.take (now+1)) (l.length+1) [27,16,6,0],1,false⟩),([2],bH (ls.take (now+1)++[l++[X]]) (now+1)),([3],YO (now+1+1) [40,6,0] (now+1))]
   (hd:=by simp [h1,h2,h3]) (hd2:=by
     have n1:∀ r:VL.Id,r++p≠hid:=fun r e=>hh ⟨r,e⟩
     have n2:∀ r:VL.Id,r++p≠mid:=fun r e=>hm ⟨r,e⟩
     have a1:=n1 [27,16,6];have a2:=n1 [40,6];have b1:=n2 [27,16,6];have b2:=n2 [40,6]
     simp only [List.cons_append,List.nil_append] at a1 a2 b1 b2
     simp [h3,a1,a2,b1,b2])
theorem VO (hl:ls[now]? = some l) (hI:uf aU ls now) (qA:ls.length<=900) (hX:aU X) (hx:X.inputs≠[]) (he:Ah l X≠0) (p q hid mid:VL.Id) (h1:q≠hid) (h2:q≠mid) (h3:hid≠mid) :
   aq Tryz.prog (gN m) 22 [.ref hid 0 0, .ref mid 0 0,OI X q] p [(q,sB X.inputs),(hid,bH ls now),(mid,bH ls now)] { val := .bool true,rd:=[q,hid,mid] }:=by
 have hA (p:VL.Id):=apN m hl hI qA hX hx p [1] [2] (by decide)
 rw [if_neg he] at hA
 exact cT (up:=[]) (nbK q hid mid)
   [.rel 43 [b8 ls now,OI X [1]] [([1],sB X.inputs)] _ (fun p _=>acN m hl hI hX he p [1]) vS, .rel 14 [.ref [2] 0 0,fI X [1]] [([1],sB X.inputs),([2],bH ls now)] _ (fun p _=>hA p) ZW,hb 32 (beq_self_eq_true (Ah l X))]
   [.ref [2] 0 0, .ref [3] 0 0,OI X [1]] [([1],sB X.inputs),([2],bH ls now),([3],bH ls now)] (.bool true) [] (hd:=by simp [h1,h2,h3])
end
end
section
open Go.VL Go.Proofs Go.RowKit
section
variable (m:Int)
def Ny (l:List OX):Prop:=l.length<=9223372036854775807/\∀ o∈l,o.F.Ok/\o.name.length<=9223372036854775807
theorem VQ (l:List OX) (h:Ny l):VP Tryz.prog (gN m) 17 [kU l] (.bool (jH l)) :=
 Lb qq l h.1 (fun o ho=>(h.2 o ho).2) (fun o ho=>Ns m o.F (h.2 o ho).1)
theorem Tr {l:List OX} (h:Ny l) (hs:jH l=true):∀ o∈l,aU o.F:=fun o ho=>by
 unfold jH at hs
 simp only [Bool.and_eq_true,List.all_eq_true] at hs
 have:=hs.1 o ho
 unfold sc at this
 simp only [Bool.and_eq_true] at this
 exact ⟨(h.2 o ho).1,this.1⟩
theorem nh (X:FX) (hX:aU X):NH Tryz.prog (gN m) aU 22 39 X where
 clone:=fun Y hY h0 p=>by
   obtain ⟨h1,h2,_,h4⟩:=kY hY.2
   exact Pj lW Y h0 (by omega) (by omega) fk cU (fun e he=>C1 m e (h4 e he)) p
 pN:=fun h0 ls now l hl hI qA hc=>VN m hl hI qA hX h0 hc
 pE:=fun h0 ls now l hl hI qA hc=>VO m hl hI qA hX h0 hc
theorem ln8 (rH:VP Tryz.prog (gN m) 9 [] (.bool true)):LN Tryz.prog (gN m) aU 9 18 16 20 19 13 21 22 36 39 where
 aw:=rH
 play:=rk
 new:=sN
 new2:=sw
 perf:=Zw m
 fe:=jI
 pres:=cF
 clone:=yy m
 now:=sy
 same:=GI m
 supp:=uN
theorem agj (rH:VP Tryz.prog (gN m) 9 [] (.bool true)) (l:List OX) (h:Ny l) (X:FX) (hX:X.Ok):VP Tryz.prog (gN m) 8 [kU l,X.av] (.bool true) :=
 SK kN (ln8 m rH) (VQ m l h) (Tr h) X (Ns m X hX) (fun hs=>⟨hX,hs⟩) (fun Y hY=>by
   obtain ⟨h1,_,_,_⟩:=kY hY.2
   omega) (fun hs=>nh m X ⟨hX,hs⟩)
end
end
section
open Go.VL Go.Proofs Go.RowKit
def aA:FX:=⟨[97],1,[],[],false⟩
def aB:FX:=⟨[98],5,[[97,47,115,48]],[],false⟩
theorem aw1:eZ [aA]=true:=by kernel_rfl
theorem aw2:eZ [aA,aB]=true:=by kernel_rfl
theorem aw3:kT [aB,aA]=false:=by kernel_rfl
theorem aw4:kT [aB]=false:=by kernel_rfl
theorem aw5:kT [aA]=true:=by kernel_rfl
theorem aw6:kT ([]:List FX)=true:=by kernel_rfl
theorem aw7:Ah [] aA=0:=by kernel_rfl
theorem aw8:Ah [aA] aB=0:=by kernel_rfl
theorem aw9:cM [aA,aB] [98]=1:=by kernel_rfl
theorem agl:cM [aA,aB] [97]=0:=by kernel_rfl
theorem agm:cM [aA] [97]=0:=by kernel_rfl
theorem awg (b:Bool):aU (if b then aA else aB):=by
 cases b
 . exact ⟨⟨by decide,by decide,by decide,by decide,by intro e he;cases he⟩,by kernel_rfl⟩
 . exact ⟨⟨by decide,by decide,by decide,by decide,by intro e he;cases he⟩,by kernel_rfl⟩
theorem gA:aU aA:=awg true
theorem gB:aU aB:=awg false
def RE:List (List FX):=[[]]
def ic:List (List FX):=[[],[aA]]
def mV:List (List FX):=[[],[aA],[aA,aB]]
def Ts:List (List FX):=[[],[aA],[aA,aB],[aA]]
def PA:List (List FX):=[[],[aA],[aA,aB],[aA],[]]
theorem Ls {ls:List (List FX)} {n:Nat} (h:∀ k∈ls,k∈PA) (hn:n<ls.length):uf aU ls n :=
 ⟨hn,fun l hl=>by
   have:=h l hl
   simp only [PA,List.mem_cons,List.not_mem_nil,or_false] at this
   rcases this with rfl | rfl | rfl | rfl | rfl
   . rfl
   . exact aw1
   . exact aw2
   . exact aw1
   . rfl,fun l hl X hX=>by
   have:=h l hl
   simp only [PA,List.mem_cons,List.not_mem_nil,or_false] at this
   rcases this with rfl | rfl | rfl | rfl | rfl
   . cases hX
   . rcases List.mem_singleton.1 hX with rfl;exact gA
   . simp only [List.mem_cons,List.not_mem_nil,or_false] at hX
     rcases hX with rfl | rfl
     . exact gA
     . exact gB
   . rcases List.mem_singleton.1 hX with rfl;exact gA
   . cases hX⟩
theorem i1:uf aU ic 1:=Ls (by intro k hk;simp [ic] at hk;rcases hk with rfl | rfl<;>simp [PA]) (by decide)
theorem i2:uf aU mV 2:=Ls (by intro k hk;simp [mV] at hk;rcases hk with rfl | rfl | rfl<;>simp [PA]) (by decide)
theorem i3:uf aU Ts 3:=Ls (by intro k hk;simp [Ts] at hk;rcases hk with rfl | rfl | rfl | rfl<;>simp [PA]) (by decide)
abbrev l8:VL.Id:=[3,1]
theorem Nz {ls:List (List FX)} {now:Nat} {l m:List FX} (h:m.length≠l.length):sa l8 ls now l m=[(l8,some (bH (ls.take (now+1)++[m]) (now+1)))]:=by unfold sa;rw [r7 h];rfl
theorem x1:DC l8 RE 0 [] aA=(0,[(l8,some (bH ic 1))]):=by rw [CO (by rfl),aw7,if_pos rfl,Nz (by decide)];rfl
theorem x2:DC l8 ic 1 [aA] aB=(0,[(l8,some (bH mV 2))]):=by rw [CO aw1,aw8,if_pos rfl,Nz (by decide)];rfl
theorem x3:yb l8 mV 2 [aA,aB] [98] 0=(14,[]):=by
 unfold yb
 rw [aw9,if_neg (by decide),if_neg (by decide)]
 show (if kT [aB,aA]=true then _ else _)=_
 rw [aw3];rfl
theorem x4:zr l8 mV 2 [aA,aB] [97]=(14,[]):=by
 unfold zr
 rw [agl,if_neg (by decide)]
 show (if kT [aB]=true then _ else _)=_
 rw [aw4];rfl
theorem x5:zr l8 mV 2 [aA,aB] [98]=(0,[(l8,some (bH Ts 3))]):=by
 unfold zr
 rw [aw9,if_neg (by decide)]
 show (if kT [aA]=true then (0,sa l8 mV 2 [aA,aB] [aA]) else _)=_
 rw [aw5,if_pos rfl,Nz (by decide)];rfl
theorem x6:zr l8 Ts 3 [aA] [97]=(0,[(l8,some (bH PA 4))]):=by
 unfold zr
 rw [agm,if_neg (by decide)]
 show (if kT []=true then (0,sa l8 Ts 3 [aA] []) else _)=_
 rw [aw6,if_pos rfl,Nz (by decide)];rfl
section
variable (m:Int)
def tA:AV := .agg [.str [97], .int .i64 1, .nils, .nils, .bool false]
def tB (q:VL.Id):AV := .agg [.str [98], .int .i64 5, .osl q 1 0 1 false, .nils, .bool false]
instance:PU tA:=by unfold tA;infer_instance
theorem vA {F:aa}:View F tA aA.av:=View.agg (.cons (View.pure (af.str _)) (.cons (View.pure (af.int _ _)) (.cons (View.nils 1) (.cons (View.nils 7) (.cons (View.pure (af.bool _)) .nil)))))
theorem acP:VP Tryz.prog (gN m) 15 [.str [97]] tA:=vt []
theorem Zx:VP Tryz.prog (gN m) 9 [] (.bool true):=by
 have e1:∀ p:VL.Id,(∀ x∈[(l8,bH RE 0)], ¬ p <:+ x.1)->aq Tryz.prog (gN m) 14 [.ref l8 0 0,tA] p [(l8,bH RE 0)] { val := .int .i64 0,rd:=[l8],up:=[(l8,some (bH ic 1))] }:=fun p hp=>by
   have:=Xf m (ls:=RE) (now:=0) (hid:=l8) (p:=p) (l:=[]) rfl (by decide) (by decide) (by simp) aA gA
   rw [x1] at this
   exact aq.xv [] this ⟨cX.same _ _,cX.view vA,trivial⟩ (by intro x _ y hy;cases hy) (by intro x hx;cases hx)
 have e2:∀ p:VL.Id,(∀ x∈[([5],sB aB.inputs),(l8,bH ic 1)], ¬ p <:+ x.1)->aq Tryz.prog (gN m) 14 [.ref l8 0 0,tB [5]] p [([5],sB aB.inputs),(l8,bH ic 1)] { val := .int .i64 0,rd:=[[5],l8],up:=[(l8,some (bH mV 2))] }:=fun p hp=>by
   have:=apN m (l:=[aA]) rfl i1 (by decide) gB (by decide) p [5] l8 (by decide)
   rw [aw8,if_pos rfl] at this
   exact aq.xv [] this ⟨cX.same _ _,cX.agg ⟨cX.same _ _,cX.same _ _,cX.same _ _,cX.view (View.nils 7),cX.same _ _,trivial⟩,trivial⟩ (by intro x _ y hy;cases hy) (by intro x hx;cases hx)
 have e3:∀ p:VL.Id,(∀ x∈[(l8,bH mV 2)], ¬ p <:+ x.1)->aq Tryz.prog (gN m) 26 [.ref l8 0 0, .str [98], .int .i64 0] p [(l8,bH mV 2)] { val := .int .i64 14,rd:=[l8] }:=fun p hp=>by
   have:=acO m (ls:=mV) (now:=2) (l:=[aA,aB]) rfl (by decide) (by decide) (i2.aU _ (by simp [mV])) [98] 0 (hp (l8,bH mV 2) (by simp))
   rwa [x3] at this
 have e4:∀ p:VL.Id,(∀ x∈[(l8,bH mV 2)], ¬ p <:+ x.1)->aq Tryz.prog (gN m) 27 [.ref l8 0 0, .str [97]] p [(l8,bH mV 2)] { val := .int .i64 14,rd:=[l8] }:=fun p hp=>by
   have:=Nx m (ls:=mV) (now:=2) (l:=[aA,aB]) rfl (by decide) (by decide) (i2.aU _ (by simp [mV])) [97] (hp (l8,bH mV 2) (by simp))
   rwa [x4] at this
 have e5:∀ p:VL.Id,(∀ x∈[(l8,bH mV 2)], ¬ p <:+ x.1)->aq Tryz.prog (gN m) 27 [.ref l8 0 0, .str [98]] p [(l8,bH mV 2)] { val := .int .i64 0,rd:=[l8],up:=[(l8,some (bH Ts 3))] }:=fun p hp=>by
   have:=Nx m (ls:=mV) (now:=2) (l:=[aA,aB]) rfl (by decide) (by decide) (i2.aU _ (by simp [mV])) [98] (hp (l8,bH mV 2) (by simp))
   rwa [x5] at this
 have e6:∀ p:VL.Id,(∀ x∈[(l8,bH Ts 3)], ¬ p <:+ x.1)->aq Tryz.prog (gN m) 27 [.ref l8 0 0, .str [97]] p [(l8,bH Ts 3)] { val := .int .i64 0,rd:=[l8],up:=[(l8,some (bH PA 4))] }:=fun p hp=>by
   have:=Nx m (ls:=Ts) (now:=3) (l:=[aA]) rfl (by decide) (by decide) (i3.aU _ (by simp [Ts])) [97] (hp (l8,bH Ts 3) (by simp))
   rwa [x6] at this
 have e7:∀ (k:Nat) (hk:k<5) (h0:k≠0) (p:VL.Id),aq Tryz.prog (gN m) 24 [.ref l8 0 0] p [(l8,bH PA k)] { val := .bool true,rd:=[l8],up:=[(l8,some (bH PA (k-1)))] }:=fun k hk h0 p=>Zv h0 (by omega)
 have e8:∀ p:VL.Id,(∀ x∈[(l8,bH PA 2)], ¬ p <:+ x.1)->aq Tryz.prog (gN m) 16 [.ref l8 0 0] p [(l8,bH PA 2)] { val:=bT [aA,aB],rd:=[l8] }:=fun p hp =>
   yf jI cF rfl (by decide) (fun X hX=>yy m X (by
     simp only [List.mem_cons,List.not_mem_nil,or_false] at hX
     rcases hX with rfl | rfl
     . exact gA
     . exact gB)) p (hp (l8,bH PA 2) (by simp))
 have e9:∀ p:VL.Id,(∀ x∈[([54],(⟨[tA,tB [5]],5,false⟩:a8)),([5],sB aB.inputs)], ¬ p <:+ x.1)->aq Tryz.prog (gN m) 19 [bT [aA,aB], .osl [54] 5 0 2 false] p [([54],⟨[tA,tB [5]],5,false⟩),([5],sB aB.inputs)] { val := .bool true,rd:=[[54],[5]],up:=nX [([54],⟨[tA,tB [5]],5,false⟩),([5],sB aB.inputs)] }:=fun p _=>by
   have hg:∀ X∈[aA,aB],aU X:=by
     intro X hX
     simp only [List.mem_cons,List.not_mem_nil,or_false] at hX
     rcases hX with rfl | rfl
     . exact gA
     . exact gB
   have:=GI m [aA,aB] [aA,aB] (by decide) (by decide) hg hg
   rw [bI rfl] at this
   have hb:View (aa.of [([54],(⟨[tA,tB [5]],5,false⟩:a8)),([5],sB aB.inputs)]) (.osl [5] 1 0 1 false) (strs aB.inputs):=yi (l:=aB.inputs) (by simp [aa.of,List.lookup])
   refine aq.AR this (.cons (View.pure (kr _)) (.cons (View.osl (bk:=⟨[tA,tB [5]],5,false⟩) (by simp [aa.of]) rfl (by decide) ?_ rfl (fun d hd => ?_)) .nil))
   . exact .cons (View.pure (af.str _)) (.cons (View.pure (af.int _ _)) (.cons (View.nils 1) (.cons (View.nils 7) (.cons (View.pure (af.bool _)) (.cons (View.pure (af.str _)) (.cons (View.pure (af.int _ _)) (.cons hb (.cons (View.nils 7) (.cons (View.pure (af.bool _)) .nil)))))))))
   . obtain ⟨X,_,rfl⟩:=List.mem_map.1 hd;rfl
 exact vt [.rel 13 [] [] _ (fun p _=>M3 sN p) (by intro p x hx;cases hx),hc (acP m), .rel 14 _ _ _ e1 vS, .rel 14 _ _ _ e2 ZW, .rel 26 _ _ _ e3 vS, .rel 27 _ _ _ e4 vS, .rel 27 _ _ _ e5 vS, .rel 27 _ _ _ e6 vS,
   .rel 24 _ _ _ (fun p _=>e7 4 (by decide) (by decide) p) vS, .rel 24 _ _ _ (fun p _=>e7 3 (by decide) (by decide) p) vS, .rel 16 _ _ _ e8 vS,hc (acP m), .rel 19 _ _ _ e9 ZW] (by kernel_rfl)
end
end
end Go.Proofs.YtcomlgfjnjpebaaGreatDoor
namespace Go.VL
section
variable {H:Type} {enc:TypeId × Value->H} {P:Program} {w:World} {spare:Nat->Bool} {held:Bool}
def ja (w:World):Env:=⟨fun _=>none,fun b=>b<w.heap.size⟩
theorem jL {α β : Type} {f : α -> β} {Q : α -> Prop}:∀ {es:List β},(∀ c∈es,∃ x,c=f x/\Q x)->∃ l:List α,es=l.map f/\∀ x∈l,Q x
 | [],_=>⟨[],rfl,by simp⟩
 | c::es,h=>by
   obtain ⟨x,hx,hq⟩:=h c (by simp)
   obtain ⟨l,hl,WC⟩:=jL (es:=es) fun y hy=>h y (by simp [hy])
   exact ⟨x::l,by rw [hx,hl];rfl,by intro y hy;rcases List.mem_cons.1 hy with rfl | hy;exact hq;exact WC y hy⟩
theorem yB {t e:TypeId} {fuel k:Nat} {cs:List Value} {x:DataW H × List MemPlace} (ht:P.underlying t=some (.slice e)) (hk:P.cellsOf e=k) (J3:0<k) (h:DataW.trod enc P w 0 spare held fuel t cs=some x) (Good:AV->Prop)
   (F:∀ n fA y,fuel=n+1->DataW.trod enc P w 0 spare held n e fA=some y->∃ c:AV,Good c/\c.size=k/\aF (ja w) w c.cells fA) :
   ∃ (es:List AV) (v:Value),cs=[v]/\aD (ja w) w (.sl k es) v/\(∀ c∈es,Good c)/\es.length<=maxLen:=by
 rcases DataW.trod_slice ht h with ⟨rfl,rfl⟩ | ⟨a,len,cap,elems,rest,n,Z3,rfl,rfl,_,hl,hm,hlen,pM,_,_⟩
 . exact ⟨[],_,rfl,by simp only [aD];exact ⟨none,0,rfl,Nat.le_refl _,Nat.zero_le _,by simp, .inl trivial⟩,by simp,Nat.zero_le _⟩
 have hC:∀ i,i<len->∃ c:AV,Good c/\c.size=k/\∃ fA,w.cells? 0 (a.add (i*k)) k=some fA/\aF (ja w) w c.cells fA:=by
   intro i hi
   have h1:=pM i hi
   rw [List.getElem?_eq_getElem (by omega),hk] at h1
   obtain ⟨fA,h2,h3⟩:=Option.bind_eq_some_iff.1 h1
   obtain ⟨c,hg,hs,hr⟩:=F n fA _ Z3 h3
   exact ⟨c,hg,hs,fA,h2,hr⟩
 have hC':∀ i:_root_.Fin len,∃ c:AV,Good c/\c.size=k/\∃ fA,w.cells? 0 (a.add (i.1*k)) k=some fA/\aF (ja w) w c.cells fA:=fun i=>hC i.1 i.2
 let C:_root_.Fin len->AV:=fun i=>(hC' i).choose
 have hCs:∀ i,Good (C i)/\(C i).size=k/\∃ fA,w.cells? 0 (a.add (i.1*k)) k=some fA/\aF (ja w) w (C i).cells fA:=fun i=>(hC' i).choose_spec
 have hsz:∀ c∈List.ofFn C,c.size=k:=by intro c hc;obtain ⟨i,rfl⟩:=List.mem_ofFn.1 hc;exact (hCs i).2.1
 refine ⟨List.ofFn C,_,rfl, ?_,by intro c hc;obtain ⟨i,rfl⟩:=List.mem_ofFn.1 hc;exact (hCs i).1,by rw [List.length_ofFn];omega⟩
 simp only [aD]
 refine ⟨some a,cap,by rw [List.length_ofFn],by rw [List.length_ofFn];exact hl,hm,hsz, ?_⟩
 by_cases h0:len=0
 . left;exact List.length_eq_zero_iff.1 (by rw [List.length_ofFn];exact h0)
 right
 have hcell:∀ (i:_root_.Fin len) (r:Nat) (c:AV),(C i).cells[r]? = some c->∃ v,w.cell? ((a.add (i.1*k)).add r)=some v/\aD (ja w) w c v:=by
   intro i r c hc
   obtain ⟨_,hs,fA,h1,h2⟩:=hCs i
   obtain ⟨sD,hp⟩:=bj.1 h2
   obtain ⟨v,hv,uO⟩:=hp r c hc
   refine ⟨v, ?_,uO⟩
   have hrk:r<k:=by have:=(List.getElem?_eq_some_iff.1 hc).1;rw [<- hs];exact this
   rw [(World.cells?_some h1).2.2 r hrk,hv]
 obtain ⟨b,o,spot⟩:=a
 have hz:0<len:=Nat.pos_of_ne_zero h0
 obtain ⟨c0,P5⟩:∃ c,(C ⟨0,hz⟩).cells[0]? = some c:=⟨_,List.getElem?_eq_getElem (by have:=(hCs ⟨0,hz⟩).2.1;unfold AV.size at this;omega)⟩
 obtain ⟨v0,hv0,_⟩:=hcell ⟨0,hz⟩ 0 c0 P5
 have acQ:((⟨b,o,spot⟩:Addr).add (0*k)).add 0=⟨b,o,spot⟩:=by simp [Addr.add]
 have acR:w.cell? ⟨b,o,spot⟩=some v0:=by rw [<- acQ];exact hv0
 have hsp:spot=none:=World.cell?_spot acR
 subst hsp
 refine ⟨b,o,rfl,World.block_lt_of_cell? _ _ acR,eN.2 ?_⟩
 intro j c hj
 have l9:j<(flat (List.ofFn C)).length:=(List.getElem?_eq_some_iff.1 hj).1
 rw [cB hsz,List.length_ofFn] at l9
 have hjk:j/k<len:=(Nat.div_lt_iff_lt_mul J3).2 l9
 have Yg:j%k<k:=Nat.mod_lt _ J3
 have agn:(List.ofFn C)[j/k]? = some (C ⟨j/k,hjk⟩):=by rw [List.getElem?_ofFn,dif_pos hjk]
 have Bg:=flat_get hsz agn Yg
 have hjj:j/k*k+j%k=j:=by rw [Nat.mul_comm];exact Nat.div_add_mod j k
 rw [hjj,hj] at Bg
 obtain ⟨v,hv,hr⟩:=hcell ⟨j/k,hjk⟩ (j%k) c Bg.symm
 refine ⟨v, ?_,hr⟩
 have ago:((⟨b,o,none⟩:Addr).add (j/k*k)).add (j%k)=⟨b,o+j,none⟩:=by
   have h1:∀ (o n:Nat),(⟨b,o,none⟩:Addr).add n=⟨b,o+n,none⟩:=fun o n=>by unfold Addr.add;split<;>simp_all
   rw [h1,h1,Nat.add_assoc,hjj]
 rw [<- ago];exact hv
end
end Go.VL
namespace Go.Proofs
section
open Go.VL
theorem nS:maxLen<=9223372036854775807:=Nat.le_refl _
section
variable {H:Type} {enc:TypeId × Value->H} {w:World} {spare:Nat->Bool} {held:Bool} {fuel:Nat} {cs:List Value} {x:DataW H × List MemPlace}
theorem GJ (h:DataW.trod enc Tryz.prog w 0 spare held fuel 9 cs=some x):∃ s:List UInt8,aF (ja w) w [.str s] cs/\s.length<=9223372036854775807:=by
 obtain ⟨s,rfl,_,hs⟩:=DataW.trod_string Tryz.underlying9 h
 refine ⟨s.data.toList, ?_, ?_⟩
 . simp only [aF,aD]
   exact ⟨_,[],rfl,rfl,rfl⟩
 . have e:s.data.toList.length=s.size:=Array.length_toList
   rw [e];exact Nat.le_trans hs nS
theorem Lt (h:DataW.trod enc Tryz.prog w 0 spare held fuel 3 cs=some x):∃ n:Int,aF (ja w) w [.int .i64 n] cs /\ -9223372036854775808<=n/\n<=9223372036854775807:=by
 obtain ⟨n,rfl,_,hw⟩:=DataW.trod_int Tryz.underlying3 h
 exact ⟨n,by simp [aF,aD],(bounds_i64 hw).1,(bounds_i64 hw).2⟩
theorem GK (h:DataW.trod enc Tryz.prog w 0 spare held fuel 4 cs=some x):∃ b:Bool,aF (ja w) w [.bool b] cs:=by
 obtain ⟨b,rfl,_⟩:=DataW.trod_bool Tryz.underlying4 h
 exact ⟨b,by simp [aF,aD]⟩
theorem Tt (h:DataW.trod enc Tryz.prog w 0 spare held fuel 57 cs=some x):∃ ws:List Nat,aF (ja w) w [.sl 1 (us ws)] cs/\Wd ws/\ws.length<=9223372036854775807:=by
 obtain ⟨es,v,rfl,hr,hg,hl⟩:=yB (k:=1) Tryz.underlying57 (by kernel_rfl) (by decide) h (fun c=>∃ n:Nat,c = .int .u32 (n:Int)/\n<au) (fun n fA y _ hy=>by
   obtain ⟨n,rfl,_,hw⟩:=DataW.trod_int Tryz.underlying116 hy
   have hb:=bounds_u32 hw
   obtain ⟨m,rfl⟩:=Int.eq_ofNat_of_zero_le hb.1
   exact ⟨.int .u32 (m:Int),⟨m,rfl,by unfold au;omega⟩,rfl,by simp [AV.cells,aF,aD]⟩)
 obtain ⟨ws,rfl,hw⟩:=jL hg
 refine ⟨ws,by simp only [aF];exact ⟨v,[],rfl,hr,rfl⟩,hw, ?_⟩
 rw [List.length_map] at hl
 exact Nat.le_trans hl nS
theorem VR (h:DataW.trod enc Tryz.prog w 0 spare held fuel 22 cs=some x):∃ l:List (List UInt8),aF (ja w) w [strs l] cs/\(∀ s∈l,s.length<=9223372036854775807)/\l.length<=9223372036854775807:=by
 obtain ⟨es,v,rfl,hr,hg,hl⟩:=yB (k:=1) Tryz.underlying22 (by kernel_rfl) (by decide) h (fun c=>∃ s:List UInt8,c = .str s/\s.length<=9223372036854775807) (fun n fA y _ hy=>by
   obtain ⟨s,hs,hl⟩:=GJ hy
   exact ⟨.str s,⟨s,rfl,hl⟩,rfl,hs⟩)
 obtain ⟨l,rfl,hw⟩:=jL hg
 refine ⟨l,by simp only [aF];exact ⟨v,[],rfl,hr,rfl⟩,hw, ?_⟩
 rw [List.length_map] at hl
 exact Nat.le_trans hl nS
theorem Tu (h:DataW.trod enc Tryz.prog w 0 spare held fuel 59 cs=some x):∃ (b:Bool) (ws:List Nat),aF (ja w) w [.bool b, .sl 1 (us ws)] cs/\Wd ws/\ws.length<=9223372036854775807:=by
 obtain ⟨xs,n,_,_,hl,NL,hf⟩:=DataW.trod_struct Tryz.underlying59 h
 have hC:Tryz.prog.cellsOf 59=2:=by kernel_rfl
 have h4:Tryz.prog.cellsOf 4=1:=by kernel_rfl
 have h57:Tryz.prog.cellsOf 57=1:=by kernel_rfl
 rw [hC] at hl
 have hxs:xs.length=2:=NL
 match cs,hl with
 | [c0,c1],_ =>
   have f0:DataW.trod enc Tryz.prog w 0 spare held n 4 (List.take (Tryz.prog.cellsOf 4) (List.drop 0 [c0,c1]))=xs[0]? := hf 0 _ rfl
   have f1:DataW.trod enc Tryz.prog w 0 spare held n 57 (List.take (Tryz.prog.cellsOf 57) (List.drop 1 [c0,c1]))=xs[1]? := hf 1 _ rfl
   rw [List.getElem?_eq_getElem (by omega)] at f0 f1
   simp only [h4,h57,List.drop_zero,List.drop_succ_cons,List.take_succ_cons,List.take_zero] at f0 f1
   obtain ⟨b,hb⟩:=GK f0
   obtain ⟨ws,hw,hwd,hwl⟩:=Tt f1
   exact ⟨b,ws,aF.append (xs:=[.bool b]) (us:=[c0]) hb hw,hwd,hwl⟩
theorem Zy (h:DataW.trod enc Tryz.prog w 0 spare held fuel 61 cs=some x):∃ (n1:Bool) (w1:List Nat) (n2:Bool) (w2:List Nat),aF (ja w) w [.bool n1, .sl 1 (us w1), .bool n2, .sl 1 (us w2)] cs/\Wd w1/\Wd w2/\w1.length<=9223372036854775807/\w2.length<=9223372036854775807:=by
 obtain ⟨xs,n,_,_,hl,NL,hf⟩:=DataW.trod_struct Tryz.underlying61 h
 have hC:Tryz.prog.cellsOf 61=4:=by kernel_rfl
 have h59:Tryz.prog.cellsOf 59=2:=by kernel_rfl
 rw [hC] at hl
 have hxs:xs.length=2:=NL
 match cs,hl with
 | [c0,c1,c2,c3],_ =>
   have f0:DataW.trod enc Tryz.prog w 0 spare held n 59 (List.take (Tryz.prog.cellsOf 59) (List.drop 0 [c0,c1,c2,c3]))=xs[0]? := hf 0 _ rfl
   have f1:DataW.trod enc Tryz.prog w 0 spare held n 59 (List.take (Tryz.prog.cellsOf 59) (List.drop 2 [c0,c1,c2,c3]))=xs[1]? := hf 1 _ rfl
   rw [List.getElem?_eq_getElem (by omega)] at f0 f1
   simp only [h59,List.drop_zero,List.drop_succ_cons,List.take_succ_cons,List.take_zero] at f0 f1
   obtain ⟨n1,w1,h1,oH,lF⟩:=Tu f0
   obtain ⟨n2,w2,h2,hd2,sD⟩:=Tu f1
   exact ⟨n1,w1,n2,w2,aF.append (xs:=[.bool n1, .sl 1 (us w1)]) (us:=[c0,c1]) h1 h2,oH,hd2,lF,sD⟩
theorem VT:∀ (fuel:Nat) (cs:List Value) (x:DataW H × List MemPlace),DataW.trod enc Tryz.prog w 0 spare held fuel 63 cs=some x->∃ e:EX,e.Ok/\aF (ja w) w e.av.cells cs:=by
 intro fuel
 induction fuel using Nat.strongRecOn with
 | ind fuel ih =>
   intro cs x h
   obtain ⟨xs,n,Z3,_,hl,NL,hf⟩:=DataW.trod_struct Tryz.underlying63 h
   have hC:Tryz.prog.cellsOf 63=7:=by kernel_rfl
   have h3:Tryz.prog.cellsOf 3=1:=by kernel_rfl
   have h61:Tryz.prog.cellsOf 61=4:=by kernel_rfl
   have h9:Tryz.prog.cellsOf 9=1:=by kernel_rfl
   have h23:Tryz.prog.cellsOf 23=1:=by kernel_rfl
   rw [hC] at hl
   have hxs:xs.length=4:=NL
   match cs,hl with
   | [c0,c1,c2,c3,c4,c5,c6],_ =>
     have f0:DataW.trod enc Tryz.prog w 0 spare held n 3 (List.take (Tryz.prog.cellsOf 3) (List.drop 0 [c0,c1,c2,c3,c4,c5,c6]))=xs[0]? := hf 0 _ rfl
     have f1:DataW.trod enc Tryz.prog w 0 spare held n 61 (List.take (Tryz.prog.cellsOf 61) (List.drop 1 [c0,c1,c2,c3,c4,c5,c6]))=xs[1]? := hf 1 _ rfl
     have f2:DataW.trod enc Tryz.prog w 0 spare held n 9 (List.take (Tryz.prog.cellsOf 9) (List.drop 5 [c0,c1,c2,c3,c4,c5,c6]))=xs[2]? := hf 2 _ rfl
     have f3:DataW.trod enc Tryz.prog w 0 spare held n 23 (List.take (Tryz.prog.cellsOf 23) (List.drop 6 [c0,c1,c2,c3,c4,c5,c6]))=xs[3]? := hf 3 _ rfl
     rw [List.getElem?_eq_getElem (by omega)] at f0 f1 f2 f3
     simp only [h3,h61,h9,h23,List.drop_zero,List.drop_succ_cons,List.take_succ_cons,List.take_zero] at f0 f1 f2 f3
     obtain ⟨op,ho,sE,Fu⟩:=Lt f0
     obtain ⟨n1,w1,n2,w2,hr,oH,hd2,lF,sD⟩:=Zy f1
     obtain ⟨nm,hn,vN⟩:=GJ f2
     obtain ⟨es,v,hv,J2,hg,pM⟩:=yB (k:=7) Tryz.underlying23 hC (by decide) f3 (fun c=>∃ e:EX,c=e.av/\e.Ok) (fun m fA y hm hy=>by
       obtain ⟨e,he,her⟩:=ih m (by omega) fA y hy
       exact ⟨e.av,⟨e,rfl,he⟩,EX.size e,her⟩)
     obtain ⟨args,rfl,dI⟩:=jL hg
     rw [List.length_map] at pM
     have GN:=Nat.le_trans pM nS
     refine ⟨.mk op n1 w1 n2 w2 nm args, ?_, ?_⟩
     . rw [EX.Ok]
       exact ⟨sE,by omega,oH,hd2,lF,sD,vN,GN,EX.Gd.2 dI⟩
     . rw [EX.av,EX.bY]
       have jY:aF (ja w) w [.sl 7 (args.map EX.av)] [c6]:=by
         rw [hv];simp only [aF];exact ⟨v,[],rfl,J2,rfl⟩
       exact aF.append (xs:=[.int .i64 op]) (us:=[c0]) ho (aF.append (xs:=[.bool n1, .sl 1 (us w1), .bool n2, .sl 1 (us w2)]) (us:=[c1,c2,c3,c4]) hr (aF.append (xs:=[.str nm]) (us:=[c5]) hn jY))
theorem C3 (ht:Tryz.prog.underlying 25=Tryz.prog.underlying 25) (h:DataW.trod enc Tryz.prog w 0 spare held fuel 25 cs=some x):∃ X:FX,X.Ok/\aF (ja w) w X.av.cells cs:=by
 obtain ⟨xs,n,Z3,_,hl,NL,hf⟩:=DataW.trod_struct Tryz.underlying25 h
 have hC:Tryz.prog.cellsOf 25=5:=by kernel_rfl
 have h9:Tryz.prog.cellsOf 9=1:=by kernel_rfl
 have h3:Tryz.prog.cellsOf 3=1:=by kernel_rfl
 have h22:Tryz.prog.cellsOf 22=1:=by kernel_rfl
 have h23:Tryz.prog.cellsOf 23=1:=by kernel_rfl
 have h4:Tryz.prog.cellsOf 4=1:=by kernel_rfl
 have h63:Tryz.prog.cellsOf 63=7:=by kernel_rfl
 rw [hC] at hl
 have hxs:xs.length=5:=NL
 match cs,hl with
 | [c0,c1,c2,c3,c4],_ =>
   have f0:DataW.trod enc Tryz.prog w 0 spare held n 9 (List.take (Tryz.prog.cellsOf 9) (List.drop 0 [c0,c1,c2,c3,c4]))=xs[0]? := hf 0 _ rfl
   have f1:DataW.trod enc Tryz.prog w 0 spare held n 3 (List.take (Tryz.prog.cellsOf 3) (List.drop 1 [c0,c1,c2,c3,c4]))=xs[1]? := hf 1 _ rfl
   have f2:DataW.trod enc Tryz.prog w 0 spare held n 22 (List.take (Tryz.prog.cellsOf 22) (List.drop 2 [c0,c1,c2,c3,c4]))=xs[2]? := hf 2 _ rfl
   have f3:DataW.trod enc Tryz.prog w 0 spare held n 23 (List.take (Tryz.prog.cellsOf 23) (List.drop 3 [c0,c1,c2,c3,c4]))=xs[3]? := hf 3 _ rfl
   have f4:DataW.trod enc Tryz.prog w 0 spare held n 4 (List.take (Tryz.prog.cellsOf 4) (List.drop 4 [c0,c1,c2,c3,c4]))=xs[4]? := hf 4 _ rfl
   rw [List.getElem?_eq_getElem (by omega)] at f0 f1 f2 f3 f4
   simp only [h3,h9,h22,h23,h4,List.drop_zero,List.drop_succ_cons,List.take_succ_cons,List.take_zero] at f0 f1 f2 f3 f4
   obtain ⟨nm,hn,vN⟩:=GJ f0
   obtain ⟨kd,hk,_,_⟩:=Lt f1
   obtain ⟨l,hi,LF,Kg⟩:=VR f2
   obtain ⟨es,v,hv,J2,hg,pM⟩:=yB (k:=7) Tryz.underlying23 h63 (by decide) f3 (fun c=>∃ e:EX,c=e.av/\e.Ok) (fun m fA y hm hy=>by
     obtain ⟨e,he,her⟩:=VT m fA y hy
     exact ⟨e.av,⟨e,rfl,he⟩,EX.size e,her⟩)
   obtain ⟨vals,rfl,dI⟩:=jL hg
   rw [List.length_map] at pM
   obtain ⟨sp,hs⟩:=GK f4
   refine ⟨⟨nm,kd,l,vals,sp⟩,⟨vN,Kg,LF,Nat.le_trans pM nS,dI⟩, ?_⟩
   have acS:aF (ja w) w [.sl 7 (EX.dy vals)] [c3]:=by
     rw [hv,EX.bY];simp only [aF];exact ⟨v,[],rfl,J2,rfl⟩
   show aF (ja w) w [.str nm, .int .i64 kd,strs l, .sl 7 (EX.dy vals), .bool sp] _
   exact aF.append (xs:=[.str nm]) (us:=[c0]) hn (aF.append (xs:=[.int .i64 kd]) (us:=[c1]) hk (aF.append (xs:=[strs l]) (us:=[c2]) hi (aF.append (xs:=[.sl 7 (EX.dy vals)]) (us:=[c3]) acS hs)))
end
end
section
open Go.VL Go.Proofs.YtcomlgfjnjpebaaGreatDoor
section
variable {H:Type} {enc:TypeId × Value->H} {w:World} {spare:Nat->Bool} {held:Bool} {fuel:Nat} {cs:List Value} {x:DataW H × List MemPlace}
theorem acT (h:DataW.trod enc Tryz.prog w 0 spare held fuel 5 cs=some x):∃ n:Nat,aF (ja w) w [.int .u8 (n:Int)] cs:=by
 obtain ⟨n,rfl,_,hw⟩:=DataW.trod_int Tryz.underlying5 h
 obtain ⟨m,rfl⟩:=Int.eq_ofNat_of_zero_le (bounds_u8 hw).1
 exact ⟨m,by simp [aF,aD]⟩
theorem acU (h:DataW.trod enc Tryz.prog w 0 spare held fuel 49 cs=some x):∃ o:OX,o.F.Ok/\o.name.length<=9223372036854775807/\aF (ja w) w o.av.cells cs:=by
 obtain ⟨xs,n,Z3,_,hl,NL,hf⟩:=DataW.trod_struct Tryz.underlying49 h
 have hC:Tryz.prog.cellsOf 49=9:=by kernel_rfl
 have h5:Tryz.prog.cellsOf 5=1:=by kernel_rfl
 have h25:Tryz.prog.cellsOf 25=5:=by kernel_rfl
 have h9:Tryz.prog.cellsOf 9=1:=by kernel_rfl
 have h4:Tryz.prog.cellsOf 4=1:=by kernel_rfl
 have h3:Tryz.prog.cellsOf 3=1:=by kernel_rfl
 rw [hC] at hl
 have hxs:xs.length=5:=NL
 match cs,hl with
 | [c0,c1,c2,c3,c4,c5,c6,c7,c8],_ =>
   have f0:DataW.trod enc Tryz.prog w 0 spare held n 5 (List.take (Tryz.prog.cellsOf 5) (List.drop 0 [c0,c1,c2,c3,c4,c5,c6,c7,c8]))=xs[0]? := hf 0 _ rfl
   have f1:DataW.trod enc Tryz.prog w 0 spare held n 25 (List.take (Tryz.prog.cellsOf 25) (List.drop 1 [c0,c1,c2,c3,c4,c5,c6,c7,c8]))=xs[1]? := hf 1 _ rfl
   have f2:DataW.trod enc Tryz.prog w 0 spare held n 9 (List.take (Tryz.prog.cellsOf 9) (List.drop 6 [c0,c1,c2,c3,c4,c5,c6,c7,c8]))=xs[2]? := hf 2 _ rfl
   have f3:DataW.trod enc Tryz.prog w 0 spare held n 4 (List.take (Tryz.prog.cellsOf 4) (List.drop 7 [c0,c1,c2,c3,c4,c5,c6,c7,c8]))=xs[3]? := hf 3 _ rfl
   have f4:DataW.trod enc Tryz.prog w 0 spare held n 3 (List.take (Tryz.prog.cellsOf 3) (List.drop 8 [c0,c1,c2,c3,c4,c5,c6,c7,c8]))=xs[4]? := hf 4 _ rfl
   rw [List.getElem?_eq_getElem (by omega)] at f0 f1 f2 f3 f4
   simp only [h5,h25,h9,h4,h3,List.drop_zero,List.drop_succ_cons,List.take_succ_cons,List.take_zero] at f0 f1 f2 f3 f4
   obtain ⟨k,hk⟩:=acT f0
   obtain ⟨X,hX,hXr⟩:=C3 rfl f1
   obtain ⟨nm,hn,vN⟩:=GJ f2
   obtain ⟨on,ho⟩:=GK f3
   obtain ⟨tg,ht,_,_⟩:=Lt f4
   refine ⟨⟨k,X,nm,on,tg⟩,hX,vN, ?_⟩
   have agr:aF (ja w) w [.str X.name, .int .i64 X.kind,strs X.inputs, .sl 7 (EX.dy X.vals), .bool X.supp] [c1,c2,c3,c4,c5]:=hXr
   show aF (ja w) w [.int .u8 (k:Int), .str X.name, .int .i64 X.kind,strs X.inputs, .sl 7 (EX.dy X.vals), .bool X.supp, .str nm, .bool on, .int .i64 tg] _
   exact aF.append (xs:=[.int .u8 (k:Int)]) (us:=[c0]) hk (aF.append (xs:=[.str X.name, .int .i64 X.kind,strs X.inputs, .sl 7 (EX.dy X.vals), .bool X.supp]) (us:=[c1,c2,c3,c4,c5]) agr (aF.append (xs:=[.str nm]) (us:=[c6]) hn (aF.append (xs:=[.bool on]) (us:=[c7]) ho ht)))
theorem Zz (h:DataW.trod enc Tryz.prog w 0 spare held fuel 38 cs=some x):∃ l:List OX,Ny l/\aF (ja w) w [kU l] cs:=by
 have hC:Tryz.prog.cellsOf 49=9:=by kernel_rfl
 obtain ⟨es,v,rfl,hr,hg,hl⟩:=yB (k:=9) Tryz.underlying38 hC (by decide) h (fun c=>∃ o:OX,c=o.av/\o.F.Ok/\o.name.length<=9223372036854775807) (fun n fA y _ hy=>by
   obtain ⟨o,h1,h2,h3⟩:=acU hy
   exact ⟨o.av,⟨o,rfl,h1,h2⟩,OX.sz o,h3⟩)
 obtain ⟨l,rfl,hw⟩:=jL hg
 rw [List.length_map] at hl
 exact ⟨l,⟨Nat.le_trans hl nS,hw⟩,by simp only [aF];exact ⟨v,[],rfl,hr,rfl⟩⟩
end
end
end Go.Proofs
namespace Go.VL
section
open Go.ChangeShapes Go.WideShapes Go.ChangeAt Go.RowKit
section
variable {H:Type} {enc:TypeId × Value->H} {P:Program}
theorem vJ (hl:laidOutB P=true) {W W':World} {sp:Nat->Bool} (hB:Below W.heap.size W W'):∀ {ts:List TypeId} {vs:List Value} {ds:List (DataW H)} {ps:List MemPlace},
   (∀ t∈ts,P.readableRec t=true/\t<P.types.size)->DataW.TrodAll enc P W 0 (fun _=>true) true ts vs ds ps->(∀ p∈ps,p.block<W.heap.size)->(∀ p∈ps,sp p.block=true) ->
   DataW.TrodAll enc P W' 0 sp true ts vs ds ps
 | [],[],[],ps,_,h,_,_=>by simpa [DataW.TrodAll] using h
 | t::ts,v::vs,d::ds,ps,hr,h,hlt,hsp=>by
   simp only [DataW.TrodAll] at h ⊢
   obtain ⟨p,q,h1,h2,rfl⟩:=h
   refine ⟨p,q, ?_,vJ hl hB (fun x hx=>hr x (by simp [hx])) h2 (fun x hx=>hlt x (by simp [hx])) (fun x hx=>hsp x (by simp [hx])),rfl⟩
   exact WideElems.Trod_stays hl (hr t (by simp)).1 (hr t (by simp)).2 h1 (fun x hx=>hB.same (hlt x (by simp [hx]))) (fun x hx=>hsp x (by simp [hx]))
 | [],[],_::_,_,_,h,_,_=>by simp [DataW.TrodAll] at h
 | [],_::_,_,_,_,h,_,_=>by simp [DataW.TrodAll] at h
 | _::_,[],_,_,_,h,_,_=>by simp [DataW.TrodAll] at h
 | _::_,_::_,[],_,_,h,_,_=>by simp [DataW.TrodAll] at h
theorem Tv {f:Func} {s:ChangeSpec} {apart fresh handsOn:Bool} {W W':World} {args:Array Value} {ds gs:List (DataW H)} {before:List MemPlace}
   (hl:laidOutB P=true) (hr:∀ t∈f.params.toList,P.readableRec t=true/\t<P.types.size) (hv:s.vars=[])
   (hs:(s.fn H (ds++gs))={ results:=[.lit (.bool true)],args:=ds }) {tb:TypeId} (Aw:f.resultTypes = #[tb]) (htb:P.underlying tb=some .bool)
   (hW:DataW.Whole enc P f.params.toList s.vars apart W args.toList ds gs before) (hB:Below W.heap.size W W') :
   s.post enc P f apart fresh handsOn false W args (.bool true) W':=by
 have hlt:=hW.lt
 have hW':=hW
 obtain ⟨p,q,h1,h2,rfl,h3,h4⟩:=hW
 rw [hv] at h2
 have hq:q=[]/\gs=[]:=by
   cases gs with
   | nil=>simp only [DataW.TrodVars] at h2;exact ⟨h2,rfl⟩
   | cons _ _=>simp [DataW.TrodVars] at h2
 obtain ⟨rfl,rfl⟩:=hq
 refine ⟨ds,[],p++[],[],p,[],hW', ?_, ?_, ?_,hB.frame _,fun h=>by simp at h⟩
 . rw [hs,Aw]
   exact trodAll_mk1 ⟨1,by simp [DataW.trod,htb,Value.cells]⟩
 . rw [hs]
   exact vJ hl hB hr h1 (fun x hx=>hlt x (by simp [hx])) (fun x hx=>by simpa using hlt x (by simp [hx]))
 . rw [hs,hv];simp [DataW.TrodVars]
end
theorem JJ {P:Program} {G:Nat->Option (List AV)} {f:FuncId} {args:List AV} {r:eB} (h:aq P G f args [] [] r) (hr:r.val = .bool true) {w:World} {ok:Nat->Prop}
   (dI:∀ b,ok b->b<w.heap.size) (hg:∀ g cs,G g=some cs->ok g/\aX ⟨fun _=>none,ok⟩ w g 0 cs) {vs:List Value} (ha:aF ⟨fun _=>none,ok⟩ w args vs) :
   Calls P f vs.toArray w fun e w'=>e = .returned (.bool true)/\Below w.heap.size w w':=by
 have hi:Inv G (fun k=>w.heap.size<=k) ⟨fun _=>none,ok⟩ w (fun _=>none):=⟨dI,fun id bk h=>by simp at h,fun i j x y h=>absurd rfl h,hg,fun k hk=>hk⟩
 refine (h.2 _ _ w _ vs (by simp) hi ha (fun _ _=>rfl)).mono fun e w' he => ?_
 obtain ⟨v,E',rfl,hp⟩:=he
 have hv:=hp.rep
 rw [hr] at hv
 simp only [aD] at hv
 subst hv
 exact ⟨rfl,hp.yG.os,hp.yG.tape,hp.yG.output,hp.yG.size,fun k hk=>hp.yG.block k hk (by omega)⟩
end
end Go.VL
namespace Go.Proofs.YtcomlgfjnjpebaaGreatDoor
section
open Go.ChangeShapes Go.WideShapes Go.ChangeAt Go.WideMaps Go.WideElems Go.RowKit
theorem Tryz.own:ownKnob Tryz.prog.godebug=none:=by kernel_rfl
theorem Tryz.laidOut:laidOutB Tryz.prog=true:=by kernel_rfl
theorem yC {H:Type} {enc:TypeId × Value->H} {a:Assume} {C:Checked} {os:Os} {f:FuncId} {fn:Func} {s:ChangeSpec} {conds:List PathCond} {apart fresh handsOn again:Bool} {X:World->Array Value->Prop}
   (hX:∀ (w w':World) (args:Array Value),w.heap=w'.heap->X w args->X w' args)
   (own:ownKnob C.prog.godebug=none) (started:os.Started) (ZA:C.prog.inits.idxOf? f=none) (FB:C.prog.funcs[f]? = some fn)
   (witness:∃ (w:World) (tape:Tape) (i:Input),w.os=os/\(w.forCall tape i).Shaped C.prog/\i.vars=[]/\Input.okWide C.prog (w.forCall tape i) .any w.heap.size f i /\
     ((s.pre enc C.prog fn conds apart (w.forCall tape i).memory i.args/\X (w.forCall tape i).memory i.args)/\sizedMet enc C.prog fn (OpenSpec.ofChange s) apart (w.forCall tape i).memory i.args)/\a.holds C.prog (lone (Frame.enter C.prog f i.args .normal) [] (w.forCall tape i)))
   (contract:∀ (W:World) (base:Nat) (args:Array Value) (ds gs:List (DataW H)) (before:List MemPlace),
     (∀ (j:Nat) t v,fn.params[j]? = some t->args[j]? = some v->Value.okWide C.prog W .any base t v) ->
     DataW.Whole enc C.prog fn.params.toList s.vars apart W args.toList ds gs before->X W args->W.ShapedOpen C.prog ->
     Calls C.prog f args W fun e W'=>∃ v,e = .returned v/\s.post enc C.prog fn apart fresh handsOn again W args v W') :
   ReturnsInHanded a C os f .any (fun w args=>(s.pre enc C.prog fn conds apart w args/\X w args)/\sizedMet enc C.prog fn (OpenSpec.ofChange s) apart w args) (s.post enc C.prog fn apart fresh handsOn again):=by
 refine returnsInHanded_of_calls own started ZA witness ?_
 intro w tape i _ Au _ dI agt _
 obtain ⟨_,_,_,fn',agu,_,_,_,_,hval⟩:=dI
 have e:fn'=fn:=Option.some.inj (agu.symm.trans FB)
 subst e
 obtain ⟨⟨⟨ds,gs,before,hw,_⟩,hx⟩,_⟩:=agt
 have hw':=DataW.Whole.of_heap (w':=w.forCall tape i) (by rfl) hw
 refine (contract (w.forCall tape i) w.heap.size i.args ds gs before hval hw' (hX _ _ _ (by rfl) hx) Au).mono fun e W' ⟨v,he,hp⟩ => ?_
 subst he
 exact ChangeSpec.post_blind hp
theorem Fm {P:Program} {w:World} {n:String} {k:IntKind} {zs:List Int} {g t e:Nat} (h:Lib.VarReads P w n (.agg (zs.map fun z => .lit (.int k z)))) (hg:P.globalNamed n=some g) (ht:(P.globals[g]?).map (·.type)=some t)
   (hu:P.underlying t=some (.array zs.length e)) (he:P.underlying e=some (.int k)) (hc:P.cellsOf e=1) (E:VL.Env) :
   g<w.heap.size/\VL.aX E w g 0 (zs.map fun z=>VL.AV.int k z):=by
 obtain ⟨g',t',cs,fuel,p,h1,h2,h3,h4⟩:=h
 obtain rfl:g'=g:=Option.some.inj (h1.symm.trans hg)
 obtain rfl:t'=t:=Option.some.inj (h2.symm.trans ht)
 have hcell:∃ ty fr,w.heap[g']? = some (.cells cs ty fr):=by
   unfold World.var? at h3
   rw [hg] at h3
   simp only [Option.bind_some] at h3
   cases hh:w.heap[g']? with
   | none=>rw [hh] at h3;cases h3
   | some o =>
     rw [hh] at h3
     cases o<;>simp at h3
     subst h3
     exact ⟨_,_,rfl⟩
 obtain ⟨ty,fr,hcell⟩:=hcell
 refine ⟨VL.cV hcell,VL.dP.2 fun j c hj => ?_⟩
 rw [List.getElem?_map] at hj
 cases hz:zs[j]? with
 | none=>rw [hz] at hj;cases hj
 | some z =>
   rw [hz] at hj
   simp only [Option.map_some,Option.some.injEq] at hj
   subst hj
   have hlt:j<zs.length:=(List.getElem?_eq_some_iff.1 hz).1
   obtain ⟨ahH,d,q,hd,hr⟩:=Lib.array_elem hu h4 j hlt
   rw [List.getElem?_map,hz] at hd
   simp only [Option.map_some,Option.some.injEq] at hd
   subst hd
   rw [hc,Nat.mul_one] at hr
   obtain ⟨m,hm,hx,_⟩:=DataW.trod_int he hr
   simp only [Prod.mk.injEq,DataW.lit.injEq,Lit.int.injEq,true_and] at hx
   obtain ⟨rfl,_⟩:=hx
   have h0:=congrArg (·[0]?) hm
   simp only [List.getElem?_take,List.getElem?_drop,Nat.add_zero,Nat.zero_lt_one,if_true,Array.getElem?_toList,List.getElem?_cons_zero] at h0
   refine ⟨.int k z, ?_,by simp only [VL.aD]⟩
   unfold World.cell?
   rw [Nat.zero_add,show ((⟨g',j,none⟩:Addr)).block=g' from rfl,hcell]
   simpa using h0
theorem acV {W:World} (hL:laidMetH Tryz.prog Rows.historyNoAliasingRow.laid W) (Au:W.ShapedOpen Tryz.prog):∃ m,∀ g cs,gN m g=some cs->g<W.heap.size/\VL.aX (VL.ja W) W g 0 cs:=by
 have Qb:laidMet Tryz.prog Rows.historyNoAliasingRow.laid W:=hL
 have h0:=Fm (zs:=[0,0,0,1,2,2,2,2]) (k := .i64) (g:=0) (t:=126) (e:=3) (Lib.laidMet.reads Qb (n := "setsquare/formula.operands") (d:=Rows.laid_setsquare_formula_operands) (by simp [Rows.historyNoAliasingRow])) (by kernel_rfl) (by kernel_rfl) Tryz.underlying126 Tryz.underlying3 (by kernel_rfl) (VL.ja W)
 have h2:=Fm (zs:=(List.range 20).map fun i=>((10 ^ i:Nat):Int)) (k := .u64) (g:=2) (t:=209) (e:=118) (Lib.laidMet.reads Qb (n := "internal/strconv.uint64pow10") (d:=Rows.laid_internal_strconv_uint64pow10) (by simp [Rows.historyNoAliasingRow])) (by kernel_rfl) (by kernel_rfl) Tryz.underlying209 Tryz.underlying118 (by kernel_rfl) (VL.ja W)
 obtain ⟨m,hm⟩:=Tryz.SM.s1_3 W Au
 have h1:W.cell? ⟨1,0,none⟩=some (.int .i64 m):=hm
 refine ⟨m,fun g cs hg => ?_⟩
 match g,hg with
 | 0,hg=>cases hg;exact h0
 | 1,hg =>
   cases hg
   exact ⟨World.block_lt_of_cell? _ _ h1,by simp only [VL.aX,VL.aD];exact ⟨⟨_,h1,rfl⟩,trivial⟩⟩
 | 2,hg =>
   cases hg
   rw [List.map_map] at h2
   exact h2
 | n+3,hg=>cases hg
theorem Tw (os:Os) (args:Array Value):laidMetH Tryz.prog Rows.historyNoAliasingRow.laid ((World.doorLaid Tryz.prog 400 os).forCall (fun _ _=>0) ⟨#[],args,[]⟩).memory :=
 laidMetH_of_parts3 (fuel:=8) (laidMet_of_run' 8 (by kernel_rfl) (by kernel_rfl)) (by kernel_rfl) (by kernel_rfl)
set_option maxRecDepth 100000 in
theorem lifted (os:Os) (started:os.Started) (H:Type) (enc:TypeId × Value->H) :
   ReturnsInHanded {} Tryz.checked os 8 .any (fun w args=>(Rows.historyNoAliasingSpec.pre enc Tryz.prog Tryz.f8 [] false w args/\laidMetH Tryz.prog Rows.historyNoAliasingRow.laid w)/\sizedMet enc Tryz.prog Tryz.f8 (OpenSpec.ofChange Rows.historyNoAliasingSpec) false w args)
     (Rows.historyNoAliasingSpec.post enc Tryz.prog Tryz.f8 false true false false):=by
 refine yC (C:=Tryz.checked) (X:=fun w _=>laidMetH Tryz.prog Rows.historyNoAliasingRow.laid w) (fun _ _ _ hh h=>h.of_heap hh) Tryz.own started (by kernel_rfl) Tryz.func8
   (ChangeSpec.witness_shaped (enc:=enc) (C:=Tryz.checked) (os:=os) (X:=fun w _=>laidMetH Tryz.prog Rows.historyNoAliasingRow.laid w) false (World.doorLaid Tryz.prog 400 os) #[.slice none 0 0, .agg #[.string ⟨#[]⟩, .int .i64 0, .slice none 0 0, .slice none 0 0, .bool false]] 8 rfl (World.shaped_of_RefB (by kernel_rfl) (by kernel_rfl)) (by kernel_rfl) (by kernel_rfl) (by kernel_rfl) (Tw os _)) ?_
 intro W base args ds gs before Xg hW hL Au
 have hval:∀ (j:Nat) t v,Tryz.f8.params[j]? = some t->args[j]? = some v->Value.okWide Tryz.prog W .any base t v:=Xg
 have hW':=hW
 obtain ⟨p,q,WA,hV,rfl,hfz,AW⟩:=hW
 have hA:DataW.TrodAll enc Tryz.prog W 0 (fun _=>true) true Tryz.f8.params.toList args.toList ds p:=WA
 rw [Tryz.params8] at hA hval
 obtain ⟨v0,v1,d0,d1,q0,q1,rfl,rfl,rfl,h0,h1⟩:=trodAll_two hA
 obtain ⟨rfl,rfl⟩:=trodVars_none hV
 clear WA Xg
 obtain ⟨a0,len,cap,rfl⟩:=okWide_slice Tryz.underlying38 (hval 0 38 v0 rfl rfl)
 obtain ⟨vs,rfl,hsz⟩:=okWide_struct Tryz.underlying25 (hval 1 25 v1 rfl rfl)
 obtain ⟨fuel,hf⟩:=h0
 obtain ⟨ahI,hf1⟩:=h1
 obtain ⟨l,hl,hR⟩:=Zz hf
 obtain ⟨X,hX,hR1⟩:=C3 rfl hf1
 obtain ⟨m,hm⟩:=acV hL Au
 have N6:VL.aF (VL.ja W) W [VL.kU l,X.av] [.slice a0 len cap, .agg vs] :=
   VL.aF.append (xs:=[VL.kU l]) (us:=[.slice a0 len cap]) hR (by
     simp only [VL.aF]
     exact ⟨_,[],rfl,by simp only [VL.FX.av,VL.bK.av,VL.aD];exact ⟨vs,rfl,hR1⟩,rfl⟩)
 refine (VL.JJ (ok:=fun b=>b<W.heap.size) (VL.aq.LI (agj m (Zx m) l hl X hX) (by intro c hc;simp at hc;rcases hc with rfl | rfl;exact VL.Ji l;exact VL.FX.pure X) []) rfl (fun _ h=>h) hm (vs:=[.slice a0 len cap, .agg vs]) N6).mono fun e W' he => ?_
 obtain ⟨rfl,hB⟩:=he
 exact ⟨_,rfl,VL.Tv Tryz.laidOut (by rw [Tryz.params8];intro t ht;simp at ht;rcases ht with rfl | rfl<;>exact ⟨by kernel_rfl,by decide +kernel⟩) rfl rfl rfl (tb:=4) Tryz.underlying4 hW' hB⟩
theorem te:Rows.HistoryNoAliasingSaid :=
 OpenClaim.holds_of_wide 8 Tryz.f8 rfl rfl rfl rfl rfl rfl rfl ⟨rfl,rfl,rfl,rfl,rfl⟩ rfl rfl rfl rfl rfl (by kernel_rfl) Tryz.func8 (by kernel_rfl)
   (of_decide_eq_true (by kernel_rfl)) (by unfold Func.isWrapper;first | (rw [if_pos (by decide +kernel)];kernel_rfl) | (rw [if_neg (by decide +kernel)];exact ⟨rfl,rfl⟩))
   (fun os started H enc _=>lifted os started H enc)
theorem historyNoAliasing_card:Rows.HistoryNoAliasingCardSaid :=
 Claim7.holds_tied_plain_at .later [] [.data, .data, .data, .data] true (true, "3d11a4bf1dee2d66407522a903d62afb625a42b086ed699c822710aab6d4fdf7") false
   te (fun _ h=>by cases h) (by kernel_rfl) (fun _ h=>by cases h) historyNoAliasing_row_tie rfl ⟨rfl,rfl⟩ (by kernel_rfl) rfl
   (fun f fn hf FB=>by
     obtain rfl:f=8:=Option.some.inj ((show Tryz.prog.funcNamed Tryz.f8.name=some 8 by kernel_rfl).symm.trans hf) |>.symm
     obtain rfl:fn=Tryz.f8:=(Option.some.inj (Tryz.func8.symm.trans FB)).symm
     exact ⟨by kernel_rfl,fun j t ht=>by
       rw [Tryz.params8] at ht
       have hm:t∈[38,25]:=by simpa using Array.mem_of_getElem? ht
       have cx:([38,25].all fun u => !Tryz.prog.wantsStandIn u)=true:=by kernel_rfl
       exact (show Tryz.prog.wantsStandIn t=false by simpa using List.all_eq_true.1 cx t hm)⟩)
   (by kernel_rfl)
end
end Go.Proofs.YtcomlgfjnjpebaaGreatDoor
