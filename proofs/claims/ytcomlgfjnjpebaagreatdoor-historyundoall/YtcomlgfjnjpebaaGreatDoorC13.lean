/- For every input, HistoryUndoAll returns true, and its argument reads afterwards as it read before. Conditions: the card's (the listed package-level variables start as the program's text lays them). -/
import Derived.Test.YtcomlgfjnjpebaaGreatDoorRows
import Derived.Test.YtcomlgfjnjpebaaGreatDoorTie
import Derived.Test.YtcomlgfjnjpebaaGreatDoorCards
import Derived.Test.YtcomlgfjnjpebaaGreatDoorC04
import Derived.Test.YtcomlgfjnjpebaaGreatDoorC12
import Derived.Test.YtcomlgfjnjpebaaGreatDoorC03
import Derived.ProofKit
import Derived.LaidMore
import Derived.OpenShut
import Derived.DataShut
import Derived.Stop.Joined
import Derived.SevenTiedAt
import Derived.HandedShaped
import Derived.Lib.LaidU8
set_option linter.unusedSimpArgs false
set_option linter.unusedVariables false
section
namespace Go.Proofs.YtcomlgfjnjpebaaGreatDoor
open Go.ChangeShapes Go.WideShapes Go.ChangeAt Go.WideMaps Go.WideElems Go.RowKit
theorem Tryz.own:ownKnob Tryz.prog.godebug=none:=by kernel_rfl
theorem Tryz.laidOut:laidOutB Tryz.prog=true:=by kernel_rfl
set_option maxRecDepth 100000 in
theorem S9:VL.VP Tryz.prog (fun _=>none) 9 [] (.bool true):=VL.VP.TZ ZT rfl rfl (VL.b7.bool true)
theorem zW {H:Type} {enc:TypeId × Value->H} {a:Assume} {C:Checked} {os:Os} {f:FuncId} {fn:Func} {s:ChangeSpec} {conds:List PathCond} {apart fresh handsOn again:Bool} {X:World->Array Value->Prop}
   (hX:∀ (w w':World) (args:Array Value),w.heap=w'.heap->X w args->X w' args)
   (own:ownKnob C.prog.godebug=none) (started:os.Started) (YL:C.prog.inits.idxOf? f=none) (F9:C.prog.funcs[f]? = some fn)
   (witness:∃ (w:World) (tape:Tape) (i:Input),w.os=os/\(w.forCall tape i).Shaped C.prog/\i.vars=[]/\Input.okWide C.prog (w.forCall tape i) .any w.heap.size f i /\
     ((s.pre enc C.prog fn conds apart (w.forCall tape i).memory i.args/\X (w.forCall tape i).memory i.args)/\sizedMet enc C.prog fn (OpenSpec.ofChange s) apart (w.forCall tape i).memory i.args)/\a.holds C.prog (lone (Frame.enter C.prog f i.args .normal) [] (w.forCall tape i)))
   (contract:∀ (W:World) (base:Nat) (args:Array Value) (ds gs:List (DataW H)) (before:List MemPlace),
     (∀ (j:Nat) t v,fn.params[j]? = some t->args[j]? = some v->Value.okWide C.prog W .any base t v) ->
     DataW.Whole enc C.prog fn.params.toList s.vars apart W args.toList ds gs before->X W args->W.ShapedOpen C.prog ->
     Calls C.prog f args W fun e W'=>∃ v,e = .returned v/\s.post enc C.prog fn apart fresh handsOn again W args v W') :
   ReturnsInHanded a C os f .any (fun w args=>(s.pre enc C.prog fn conds apart w args/\X w args)/\sizedMet enc C.prog fn (OpenSpec.ofChange s) apart w args) (s.post enc C.prog fn apart fresh handsOn again):=by
 refine returnsInHanded_of_calls own started YL witness ?_
 intro w tape i _ BN _ mo aeU _
 obtain ⟨_,_,_,fn',aeV,_,_,_,_,hval⟩:=mo
 have e:fn'=fn:=Option.some.inj (aeV.symm.trans F9)
 subst e
 obtain ⟨⟨⟨ds,gs,before,hw,_⟩,hx⟩,_⟩:=aeU
 have hw':=DataW.Whole.of_heap (w':=w.forCall tape i) (by rfl) hw
 refine (contract (w.forCall tape i) w.heap.size i.args ds gs before hval hw' (hX _ _ _ (by rfl) hx) BN).mono fun e W' ⟨v,he,hp⟩ => ?_
 subst he
 exact ChangeSpec.post_blind hp
theorem FW {P:Program} {w:World} {n:String} {k:IntKind} {zs:List Int} {g t e:Nat} (h:Lib.VarReads P w n (.agg (zs.map fun z => .lit (.int k z)))) (hg:P.globalNamed n=some g) (ht:(P.globals[g]?).map (·.type)=some t)
   (hu:P.underlying t=some (.array zs.length e)) (he:P.underlying e=some (.int k)) (hc:P.cellsOf e=1) (E:VL.Env) :
   g<w.heap.size/\VL.cm E w g 0 (zs.map fun z=>VL.AV.int k z):=by
 obtain ⟨g',t',cs,fuel,p,h1,h2,h3,h4⟩:=h
 obtain rfl:g'=g:=Option.some.inj (h1.symm.trans hg)
 obtain rfl:t'=t:=Option.some.inj (h2.symm.trans ht)
 have hcell:∃ ty fr,w.heap[g']? = some (.cells cs ty fr):=by
   unfold World.var? at h3
   rw [hg] at h3
   simp only [Option.bind_some] at h3
   cases hh:w.heap[g']? with
   | none=>rw [hh] at h3;cases h3
   | some o =>
     rw [hh] at h3
     cases o<;>simp at h3
     subst h3
     exact ⟨_,_,rfl⟩
 obtain ⟨ty,fr,hcell⟩:=hcell
 refine ⟨VL.dH hcell,VL.gA.2 fun j c hj => ?_⟩
 rw [List.getElem?_map] at hj
 cases hz:zs[j]? with
 | none=>rw [hz] at hj;cases hj
 | some z =>
   rw [hz] at hj
   simp only [Option.map_some,Option.some.injEq] at hj
   subst hj
   have hlt:j<zs.length:=(List.getElem?_eq_some_iff.1 hz).1
   obtain ⟨af1,d,q,hd,hr⟩:=Lib.array_elem hu h4 j hlt
   rw [List.getElem?_map,hz] at hd
   simp only [Option.map_some,Option.some.injEq] at hd
   subst hd
   rw [hc,Nat.mul_one] at hr
   obtain ⟨m,hm,hx,_⟩:=DataW.trod_int he hr
   simp only [Prod.mk.injEq,DataW.lit.injEq,Lit.int.injEq,true_and] at hx
   obtain ⟨rfl,_⟩:=hx
   have h0:=congrArg (·[0]?) hm
   simp only [List.getElem?_take,List.getElem?_drop,Nat.add_zero,Nat.zero_lt_one,if_true,Array.getElem?_toList,List.getElem?_cons_zero] at h0
   refine ⟨.int k z, ?_,by simp only [VL.aL]⟩
   unfold World.cell?
   rw [Nat.zero_add,show ((⟨g',j,none⟩:Addr)).block=g' from rfl,hcell]
   simpa using h0
theorem abO {W:World} (hL:laidMetH Tryz.prog Rows.historyUndoAllRow.laid W) (BN:W.ShapedOpen Tryz.prog):∃ m,∀ g cs,gN m g=some cs->g<W.heap.size/\VL.cm (VL.jC W) W g 0 cs:=by
 have TB:laidMet Tryz.prog Rows.historyUndoAllRow.laid W:=hL
 have h0:=FW (zs:=[0,0,0,1,2,2,2,2]) (k := .i64) (g:=0) (t:=126) (e:=3) (Lib.laidMet.reads TB (n := "setsquare/formula.operands") (d:=Rows.laid_setsquare_formula_operands) (by simp [Rows.historyUndoAllRow])) (by kernel_rfl) (by kernel_rfl) Tryz.underlying126 Tryz.underlying3 (by kernel_rfl) (VL.jC W)
 have h2:=FW (zs:=(List.range 20).map fun i=>((10 ^ i:Nat):Int)) (k := .u64) (g:=2) (t:=209) (e:=118) (Lib.laidMet.reads TB (n := "internal/strconv.uint64pow10") (d:=Rows.laid_internal_strconv_uint64pow10) (by simp [Rows.historyUndoAllRow])) (by kernel_rfl) (by kernel_rfl) Tryz.underlying209 Tryz.underlying118 (by kernel_rfl) (VL.jC W)
 obtain ⟨m,hm⟩:=Tryz.Qs.s1_3 W BN
 have h1:W.cell? ⟨1,0,none⟩=some (.int .i64 m):=hm
 refine ⟨m,fun g cs hg => ?_⟩
 match g,hg with
 | 0,hg=>cases hg;exact h0
 | 1,hg =>
   cases hg
   exact ⟨World.block_lt_of_cell? _ _ h1,by simp only [VL.cm,VL.aL];exact ⟨⟨_,h1,rfl⟩,trivial⟩⟩
 | 2,hg =>
   cases hg
   rw [List.map_map] at h2
   exact h2
 | n+3,hg=>cases hg
theorem Ta (os:Os) (args:Array Value):laidMetH Tryz.prog Rows.historyUndoAllRow.laid ((World.doorLaid Tryz.prog 400 os).forCall (fun _ _=>0) ⟨#[],args,[]⟩).memory :=
 laidMetH_of_parts3 (fuel:=8) (laidMet_of_run' 8 (by kernel_rfl) (by kernel_rfl)) (by kernel_rfl) (by kernel_rfl)
set_option maxRecDepth 100000 in
theorem lifted (os:Os) (started:os.Started) (H:Type) (enc:TypeId × Value->H) :
   ReturnsInHanded {} Tryz.checked os 7 .any (fun w args=>(Rows.historyUndoAllSpec.pre enc Tryz.prog Tryz.f7 [] false w args/\laidMetH Tryz.prog Rows.historyUndoAllRow.laid w)/\sizedMet enc Tryz.prog Tryz.f7 (OpenSpec.ofChange Rows.historyUndoAllSpec) false w args)
     (Rows.historyUndoAllSpec.post enc Tryz.prog Tryz.f7 false true false false):=by
 refine zW (C:=Tryz.checked) (X:=fun w _=>laidMetH Tryz.prog Rows.historyUndoAllRow.laid w) (fun _ _ _ hh h=>h.of_heap hh) Tryz.own started (by kernel_rfl) Tryz.func7
   (ChangeSpec.witness_shaped (enc:=enc) (C:=Tryz.checked) (os:=os) (X:=fun w _=>laidMetH Tryz.prog Rows.historyUndoAllRow.laid w) false (World.doorLaid Tryz.prog 400 os) #[.slice none 0 0] 8 rfl (World.shaped_of_RefB (by kernel_rfl) (by kernel_rfl)) (by kernel_rfl) (by kernel_rfl) (by kernel_rfl) (Ta os _)) ?_
 intro W base args ds gs before WD hW hL BN
 have hval:∀ (j:Nat) t v,Tryz.f7.params[j]? = some t->args[j]? = some v->Value.okWide Tryz.prog W .any base t v:=WD
 have hW':=hW
 obtain ⟨p,q,Wb,hV,rfl,hfz,Aw⟩:=hW
 have hA:DataW.TrodAll enc Tryz.prog W 0 (fun _=>true) true Tryz.f7.params.toList args.toList ds p:=Wb
 rw [Tryz.params7] at hA hval
 obtain ⟨v0,d0,rfl,rfl,h0⟩:=trodAll_one hA
 obtain ⟨rfl,rfl⟩:=trodVars_none hV
 clear Wb WD
 obtain ⟨a0,len,cap,rfl⟩:=okWide_slice Tryz.underlying38 (hval 0 38 v0 rfl rfl)
 obtain ⟨fuel,hf⟩:=h0
 obtain ⟨l,hl,hR⟩:=YK hf
 obtain ⟨m,hm⟩:=abO hL BN
 have NK:VL.aM (VL.jC W) W [VL.nN l] [.slice a0 len cap]:=hR
 refine (VL.JS (ok:=fun b=>b<W.heap.size) (VL.aB.PT (aeN m S9 l hl) (by intro c hc;simp at hc;subst hc;exact VL.JN l) []) rfl (fun _ h=>h) hm (vs:=[.slice a0 len cap]) NK).mono fun e W' he => ?_
 obtain ⟨rfl,hB⟩:=he
 exact ⟨_,rfl,VL.S8 Tryz.laidOut (by rw [Tryz.params7];intro t ht;simp at ht;subst ht;exact ⟨by kernel_rfl,by decide +kernel⟩) rfl rfl rfl (tb:=4) Tryz.underlying4 hW' hB⟩
theorem yh:Rows.HistoryUndoAllSaid :=
 OpenClaim.holds_of_wide 7 Tryz.f7 rfl rfl rfl rfl rfl rfl rfl ⟨rfl,rfl,rfl,rfl,rfl⟩ rfl rfl rfl rfl rfl (by kernel_rfl) Tryz.func7 (by kernel_rfl)
   (of_decide_eq_true (by kernel_rfl)) (by unfold Func.isWrapper;first | (rw [if_pos (by decide +kernel)];kernel_rfl) | (rw [if_neg (by decide +kernel)];exact ⟨rfl,rfl⟩))
   (fun os started H enc _=>lifted os started H enc)
theorem historyUndoAll_card:Rows.HistoryUndoAllCardSaid :=
 Claim7.holds_tied_plain_at .later [] [.data, .data, .data, .data] true (true, "3d11a4bf1dee2d66407522a903d62afb625a42b086ed699c822710aab6d4fdf7") false
   yh (fun _ h=>by cases h) (by kernel_rfl) (fun _ h=>by cases h) historyUndoAll_row_tie rfl ⟨rfl,rfl⟩ (by kernel_rfl) rfl
   (fun f fn hf F9=>by
     obtain rfl:f=7:=Option.some.inj ((show Tryz.prog.funcNamed Tryz.f7.name=some 7 by kernel_rfl).symm.trans hf) |>.symm
     obtain rfl:fn=Tryz.f7:=(Option.some.inj (Tryz.func7.symm.trans F9)).symm
     exact ⟨by kernel_rfl,fun j t ht=>by
       rw [Tryz.params7] at ht
       have hm:t∈[38]:=by simpa using Array.mem_of_getElem? ht
       have cz:([38].all fun u => !Tryz.prog.wantsStandIn u)=true:=by kernel_rfl
       exact (show Tryz.prog.wantsStandIn t=false by simpa using List.all_eq_true.1 cz t hm)⟩)
   (by kernel_rfl)
end Go.Proofs.YtcomlgfjnjpebaaGreatDoor
end
