/- For every input, FeaturePattern returns true, and its argument reads afterwards as it read before. Conditions: the card's (the listed package-level variables start as the program's text lays them). -/
import Derived.Test.YtchdghnpcekegaaGreatDoorProg
import Derived.Test.YtchdghnpcekegaaGreatDoorC12
import Derived.Test.YtchdghnpcekegaaGreatDoorC10
import Derived.Test.YtchdghnpcekegaaGreatDoorC08
import Derived.Lib.IndexMore
import Derived.KernelRfl
import Derived.OpenShut
import Derived.ProofKit
import Derived.Test.YtchdghnpcekegaaGreatDoorC03
import Derived.Test.YtchdghnpcekegaaGreatDoorRows
import Derived.Test.YtchdghnpcekegaaGreatDoorTie
import Derived.Test.YtchdghnpcekegaaGreatDoorCards
import Derived.LaidMore
import Derived.DataShut
import Derived.Stop.Joined
import Derived.SevenTiedAt
import Derived.HandedShaped
import Derived.Lib.LaidU8
set_option linter.unusedSimpArgs false
set_option linter.unusedVariables false
section
set_option maxRecDepth 100000
namespace Go.Proofs.YtchdghnpcekegaaGreatDoor
open Go.VL
theorem Sz:maxLen<=9223372036854775807:=Nat.le_refl _
section
variable {H:Type} {enc:TypeId × Value->H} {w:World} {spare:Nat->Bool} {held:Bool} {fuel:Nat} {cs:List Value} {x:DataW H × List MemPlace}
theorem abX (h:DataW.trod enc Tryz.prog w 0 spare held fuel 9 cs=some x):∃ s:List UInt8,bf (p5 w) w [.str s] cs/\s.length<=9223372036854775807:=by
 obtain ⟨s,rfl,_,hs⟩:=DataW.trod_string Tryz.underlying9 h
 refine ⟨s.data.toList, ?_, ?_⟩
 . simp only [bf,aX]
   exact ⟨_,[],rfl,rfl,rfl⟩
 . have e:s.data.toList.length=s.size:=Array.length_toList
   rw [e];exact Nat.le_trans hs Sz
theorem Qp (h:DataW.trod enc Tryz.prog w 0 spare held fuel 4 cs=some x):∃ b:Bool,bf (p5 w) w [.bool b] cs:=by
 obtain ⟨b,rfl,_⟩:=DataW.trod_bool Tryz.underlying4 h
 exact ⟨b,by simp [bf,aX]⟩
theorem Z1 (h:DataW.trod enc Tryz.prog w 0 spare held fuel 5 cs=some x):∃ n:Nat,n<256/\bf (p5 w) w [.int .u8 (n:Int)] cs:=by
 obtain ⟨n,rfl,_,hw⟩:=DataW.trod_int Tryz.underlying5 h
 have hb:=bounds_u8 hw
 obtain ⟨m,rfl⟩:=Int.eq_ofNat_of_zero_le hb.1
 exact ⟨m,by omega,by simp [bf,aX]⟩
theorem MW (h:DataW.trod enc Tryz.prog w 0 spare held fuel 24 cs=some x):∃ n:Int,(-128<=n/\n<128)/\bf (p5 w) w [.int .i8 n] cs:=by
 obtain ⟨n,rfl,_,hw⟩:=DataW.trod_int Tryz.underlying24 h
 exact ⟨n,by have:=bounds_i8 hw;omega,by simp [bf,aX]⟩
theorem YK (h:DataW.trod enc Tryz.prog w 0 spare held fuel 23 cs=some x):∃ l:List (List UInt8),bf (p5 w) w [strs l] cs:=by
 obtain ⟨es,v,rfl,hr,hg,hl⟩:=Qo (k:=1) Tryz.underlying23 (by kernel_rfl) (by decide) h (fun c=>∃ s:List UInt8,c = .str s/\s.length<=9223372036854775807) (fun n Bw y _ hy=>by
   obtain ⟨s,hs,hl⟩:=abX hy
   exact ⟨.str s,⟨s,rfl,hl⟩,rfl,hs⟩)
 obtain ⟨l,rfl,hw⟩:=uq hg
 exact ⟨l,by simp only [bf];exact ⟨v,[],rfl,hr,rfl⟩⟩
theorem c8:Tryz.prog.cellsOf 24=1:=by kernel_rfl
theorem c4:Tryz.prog.cellsOf 4=1:=by kernel_rfl
theorem c5:Tryz.prog.cellsOf 5=1:=by kernel_rfl
theorem c98:Tryz.prog.cellsOf 98=2:=by kernel_rfl
theorem c25:Tryz.prog.cellsOf 25=3:=by kernel_rfl
theorem afm:Tryz.prog.cellsOf 100=8:=by kernel_rfl
theorem Z2 (h:DataW.trod enc Tryz.prog w 0 spare held fuel 98 cs=some x):∃ a:Int × Int,ok8 a/\bf (p5 w) w [.int .i8 a.1, .int .i8 a.2] cs:=by
 obtain ⟨xs,n,_,_,hl,hxl,hf⟩:=DataW.trod_array Tryz.underlying98 h
 rw [c98] at hl
 match cs,hl with
 | [a,b],_ =>
   have f0:=hf 0 (by decide)
   have f1:=hf 1 (by decide)
   rw [List.getElem?_eq_getElem (by omega)] at f0 f1
   simp only [c8,Nat.zero_mul,Nat.one_mul,List.drop_zero,List.drop_succ_cons,List.take_succ_cons,List.take_zero] at f0 f1
   obtain ⟨i,hi,S8⟩:=MW f0
   obtain ⟨j,hj,hrj⟩:=MW f1
   exact ⟨(i,j),⟨hi.1,hi.2,hj.1,hj.2⟩,bf.append (xs:=[.int .i8 i]) (us:=[a]) S8 hrj⟩
theorem afn (h:DataW.trod enc Tryz.prog w 0 spare held fuel 25 cs=some x):∃ a b c:Int,(-128<=a/\a<128)/\(-128<=b/\b<128)/\(-128<=c/\c<128)/\bf (p5 w) w [.int .i8 a, .int .i8 b, .int .i8 c] cs:=by
 obtain ⟨xs,n,_,_,hl,hxl,hf⟩:=DataW.trod_array Tryz.underlying25 h
 rw [c25] at hl
 match cs,hl with
 | [a,b,c],_ =>
   have f0:=hf 0 (by decide)
   have f1:=hf 1 (by decide)
   have f2:=hf 2 (by decide)
   rw [List.getElem?_eq_getElem (by omega)] at f0 f1 f2
   simp only [c8,Nat.mul_one,List.drop_zero,List.drop_succ_cons,List.take_succ_cons,List.take_zero] at f0 f1 f2
   obtain ⟨i,hi,S8⟩:=MW f0
   obtain ⟨j,hj,hrj⟩:=MW f1
   obtain ⟨k,hk,hrk⟩:=MW f2
   exact ⟨i,j,k,hi,hj,hk,bf.append (xs:=[.int .i8 i]) (us:=[a]) S8 (bf.append (xs:=[.int .i8 j]) (us:=[b]) hrj hrk)⟩
theorem V6 (h:DataW.trod enc Tryz.prog w 0 spare held fuel 100 cs=some x):∃ d:DX,d.Ok/\bf (p5 w) w d.av.cells cs:=by
 obtain ⟨xs,n,_,_,hl,hxl,hf⟩:=DataW.trod_struct Tryz.underlying100 h
 rw [afm] at hl
 have hxs:xs.length=6:=hxl
 match cs,hl with
 | [c0,c1,c2,c3,c4',c5',c6,c7],_ =>
   have f0:DataW.trod enc Tryz.prog w 0 spare held n 4 (List.take (Tryz.prog.cellsOf 4) (List.drop 0 [c0,c1,c2,c3,c4',c5',c6,c7]))=xs[0]? := hf 0 _ rfl
   have f1:DataW.trod enc Tryz.prog w 0 spare held n 4 (List.take (Tryz.prog.cellsOf 4) (List.drop 1 [c0,c1,c2,c3,c4',c5',c6,c7]))=xs[1]? := hf 1 _ rfl
   have f2:DataW.trod enc Tryz.prog w 0 spare held n 98 (List.take (Tryz.prog.cellsOf 98) (List.drop 2 [c0,c1,c2,c3,c4',c5',c6,c7]))=xs[2]? := hf 2 _ rfl
   have f3:DataW.trod enc Tryz.prog w 0 spare held n 98 (List.take (Tryz.prog.cellsOf 98) (List.drop 4 [c0,c1,c2,c3,c4',c5',c6,c7]))=xs[3]? := hf 3 _ rfl
   have f4:DataW.trod enc Tryz.prog w 0 spare held n 5 (List.take (Tryz.prog.cellsOf 5) (List.drop 6 [c0,c1,c2,c3,c4',c5',c6,c7]))=xs[4]? := hf 4 _ rfl
   have f5:DataW.trod enc Tryz.prog w 0 spare held n 5 (List.take (Tryz.prog.cellsOf 5) (List.drop 7 [c0,c1,c2,c3,c4',c5',c6,c7]))=xs[5]? := hf 5 _ rfl
   rw [List.getElem?_eq_getElem (by omega)] at f0 f1 f2 f3 f4 f5
   simp only [c4,c5,c98,List.drop_zero,List.drop_succ_cons,List.take_succ_cons,List.take_zero] at f0 f1 f2 f3 f4 f5
   obtain ⟨a,ha⟩:=Qp f0
   obtain ⟨b,hb⟩:=Qp f1
   obtain ⟨p,hp,YP⟩:=Z2 f2
   obtain ⟨q,hq,KD⟩:=Z2 f3
   obtain ⟨s,hs,hsr⟩:=Z1 f4
   obtain ⟨u,hu,hur⟩:=Z1 f5
   refine ⟨⟨a,b,p,q,s,u⟩,⟨hp,hq,hs,hu⟩, ?_⟩
   show bf (p5 w) w [.bool a, .bool b, .int .i8 p.1, .int .i8 p.2, .int .i8 q.1, .int .i8 q.2, .int .u8 (s:Int), .int .u8 (u:Int)] _
   exact bf.append (xs:=[.bool a]) (us:=[c0]) ha (bf.append (xs:=[.bool b]) (us:=[c1]) hb (bf.append (xs:=[.int .i8 p.1, .int .i8 p.2]) (us:=[c2,c3]) YP (bf.append (xs:=[.int .i8 q.1, .int .i8 q.2]) (us:=[c4',c5']) KD (bf.append (xs:=[.int .u8 (s:Int)]) (us:=[c6]) hsr hur))))
theorem SA (h:DataW.trod enc Tryz.prog w 0 spare held fuel 22 cs=some x):∃ l:List DX,(∀ d∈l,d.Ok)/\bf (p5 w) w [Kt l] cs:=by
 obtain ⟨es,v,rfl,hr,hg,hl⟩:=Qo (k:=8) Tryz.underlying22 afm (by decide) h (fun c=>∃ d:DX,c=d.av/\d.Ok) (fun n Bw y _ hy=>by
   obtain ⟨d,h1,h2⟩:=V6 hy
   exact ⟨d.av,⟨d,rfl,h1⟩,rfl,h2⟩)
 obtain ⟨l,rfl,hw⟩:=uq hg
 exact ⟨l,hw,by simp only [bf];exact ⟨v,[],rfl,hr,rfl⟩⟩
end
end Go.Proofs.YtchdghnpcekegaaGreatDoor
end

section
namespace Go.VL
open Go.ChangeShapes Go.WideShapes Go.ChangeAt Go.RowKit
section
variable {H:Type} {enc:TypeId × Value->H} {P:Program}
theorem AD (hl:laidOutB P=true) {W W':World} {sp:Nat->Bool} (hB:Below W.heap.size W W'):∀ {ts:List TypeId} {vs:List Value} {ds:List (DataW H)} {ps:List MemPlace},
   (∀ t∈ts,P.readableRec t=true/\t<P.types.size)->DataW.TrodAll enc P W 0 (fun _=>true) true ts vs ds ps->(∀ p∈ps,p.block<W.heap.size)->(∀ p∈ps,sp p.block=true) ->
   DataW.TrodAll enc P W' 0 sp true ts vs ds ps
 | [],[],[],ps,_,h,_,_=>by simpa [DataW.TrodAll] using h
 | t::ts,v::vs,d::ds,ps,hr,h,hlt,hsp=>by
   simp only [DataW.TrodAll] at h ⊢
   obtain ⟨p,q,h1,h2,rfl⟩:=h
   refine ⟨p,q, ?_,AD hl hB (fun x hx=>hr x (by simp [hx])) h2 (fun x hx=>hlt x (by simp [hx])) (fun x hx=>hsp x (by simp [hx])),rfl⟩
   exact WideElems.Trod_stays hl (hr t (by simp)).1 (hr t (by simp)).2 h1 (fun x hx=>hB.same (hlt x (by simp [hx]))) (fun x hx=>hsp x (by simp [hx]))
 | [],[],_::_,_,_,h,_,_=>by simp [DataW.TrodAll] at h
 | [],_::_,_,_,_,h,_,_=>by simp [DataW.TrodAll] at h
 | _::_,[],_,_,_,h,_,_=>by simp [DataW.TrodAll] at h
 | _::_,_::_,[],_,_,h,_,_=>by simp [DataW.TrodAll] at h
theorem V7 {f:Func} {s:ChangeSpec} {apart fresh handsOn:Bool} {W W':World} {args:Array Value} {ds gs:List (DataW H)} {before:List MemPlace}
   (hl:laidOutB P=true) (hr:∀ t∈f.params.toList,P.readableRec t=true/\t<P.types.size) (hv:s.vars=[])
   (hs:(s.fn H (ds++gs))={ results:=[.lit (.bool true)],args:=ds }) {tb:TypeId} (KJ:f.resultTypes = #[tb]) (htb:P.underlying tb=some .bool)
   (hW:DataW.Whole enc P f.params.toList s.vars apart W args.toList ds gs before) (hB:Below W.heap.size W W') :
   s.post enc P f apart fresh handsOn false W args (.bool true) W':=by
 have hlt:=hW.lt
 have hW':=hW
 obtain ⟨p,q,h1,h2,rfl,h3,h4⟩:=hW
 rw [hv] at h2
 have hq:q=[]/\gs=[]:=by
   cases gs with
   | nil=>simp only [DataW.TrodVars] at h2;exact ⟨h2,rfl⟩
   | cons _ _=>simp [DataW.TrodVars] at h2
 obtain ⟨rfl,rfl⟩:=hq
 refine ⟨ds,[],p++[],[],p,[],hW', ?_, ?_, ?_,hB.frame _,fun h=>by simp at h⟩
 . rw [hs,KJ]
   exact trodAll_mk1 ⟨1,by simp [DataW.trod,htb,Value.cells]⟩
 . rw [hs]
   exact AD hl hB hr h1 (fun x hx=>hlt x (by simp [hx])) (fun x hx=>by simpa using hlt x (by simp [hx]))
 . rw [hs,hv];simp [DataW.TrodVars]
end
theorem MX {P:Program} {G:Nat->Option (List AV)} {f:FuncId} {args:List AV} {r:eT} (h:bc P G f args [] [] r) (hr:r.val = .bool true) {w:World} {ok:Nat->Prop}
   (gP:∀ b,ok b->b<w.heap.size) (hg:∀ g cs,G g=some cs->ok g/\bu ⟨fun _=>none,ok⟩ w g 0 cs) {vs:List Value} (ha:bf ⟨fun _=>none,ok⟩ w args vs) :
   Calls P f vs.toArray w fun e w'=>e = .returned (.bool true)/\Below w.heap.size w w':=by
 have hi:Inv G (fun k=>w.heap.size<=k) ⟨fun _=>none,ok⟩ w (fun _=>none):=⟨gP,fun id bk h=>by simp at h,fun i j x y h=>absurd rfl h,hg,fun k hk=>hk⟩
 refine (h.2 _ _ w _ vs (by simp) hi ha (fun _ _=>rfl)).mono fun e w' he => ?_
 obtain ⟨v,E',rfl,hp⟩:=he
 have hv:=hp.rep
 rw [hr] at hv
 simp only [aX] at hv
 subst hv
 exact ⟨rfl,hp.Hm.os,hp.Hm.tape,hp.Hm.output,hp.Hm.size,fun k hk=>hp.Hm.block k hk (by omega)⟩
end Go.VL
end

section
namespace Go.Proofs.YtchdghnpcekegaaGreatDoor
open Go.ChangeShapes Go.WideShapes Go.ChangeAt Go.WideMaps Go.WideElems Go.RowKit
theorem Tryz.own:ownKnob Tryz.prog.godebug=none:=by kernel_rfl
theorem Tryz.laidOut:laidOutB Tryz.prog=true:=by kernel_rfl
theorem CU {H:Type} {enc:TypeId × Value->H} {a:Assume} {C:Checked} {os:Os} {f:FuncId} {fn:Func} {s:ChangeSpec} {conds:List PathCond} {apart fresh handsOn again:Bool} {X:World->Array Value->Prop}
   (hX:∀ (w w':World) (args:Array Value),w.heap=w'.heap->X w args->X w' args)
   (own:ownKnob C.prog.godebug=none) (started:os.Started) (ab0:C.prog.inits.idxOf? f=none) (Ic:C.prog.funcs[f]? = some fn)
   (witness:∃ (w:World) (tape:Tape) (i:Input),w.os=os/\(w.forCall tape i).Shaped C.prog/\i.vars=[]/\Input.okWide C.prog (w.forCall tape i) .any w.heap.size f i /\
     ((s.pre enc C.prog fn conds apart (w.forCall tape i).memory i.args/\X (w.forCall tape i).memory i.args)/\sizedMet enc C.prog fn (OpenSpec.ofChange s) apart (w.forCall tape i).memory i.args)/\a.holds C.prog (lone (Frame.enter C.prog f i.args .normal) [] (w.forCall tape i)))
   (contract:∀ (W:World) (base:Nat) (args:Array Value) (ds gs:List (DataW H)) (before:List MemPlace),
     (∀ (j:Nat) t v,fn.params[j]? = some t->args[j]? = some v->Value.okWide C.prog W .any base t v) ->
     DataW.Whole enc C.prog fn.params.toList s.vars apart W args.toList ds gs before->X W args->W.ShapedOpen C.prog ->
     Calls C.prog f args W fun e W'=>∃ v,e = .returned v/\s.post enc C.prog fn apart fresh handsOn again W args v W') :
   ReturnsInHanded a C os f .any (fun w args=>(s.pre enc C.prog fn conds apart w args/\X w args)/\sizedMet enc C.prog fn (OpenSpec.ofChange s) apart w args) (s.post enc C.prog fn apart fresh handsOn again):=by
 refine returnsInHanded_of_calls own started ab0 witness ?_
 intro w tape i _ KA _ gP aei _
 obtain ⟨_,_,_,fn',ai1,_,_,_,_,hval⟩:=gP
 have e:fn'=fn:=Option.some.inj (ai1.symm.trans Ic)
 subst e
 obtain ⟨⟨⟨ds,gs,before,hw,_⟩,hx⟩,_⟩:=aei
 have hw':=DataW.Whole.of_heap (w':=w.forCall tape i) (by rfl) hw
 refine (contract (w.forCall tape i) w.heap.size i.args ds gs before hval hw' (hX _ _ _ (by rfl) hx) KA).mono fun e W' ⟨v,he,hp⟩ => ?_
 subst he
 exact ChangeSpec.post_blind hp
theorem HY {P:Program} {w:World} {r:Reach} {base n:Nat} {t e:TypeId} {v:Value} (ht:P.underlying t=some (.array n e)) (h:Value.okWide P w r base t v):∃ cs,v = .agg cs/\cs.size=P.cellsOf t:=by
 simp only [Value.okWide,ht] at h
 obtain ⟨cs,h1,h2,_⟩:=h
 exact ⟨cs,h1,h2⟩
theorem V8 (os:Os) (args:Array Value):laidMetH Tryz.prog Rows.featurePatternRow.laid ((World.doorLaid Tryz.prog 400 os).forCall (fun _ _=>0) ⟨#[],args,[]⟩).memory :=
 laidMetH_of_parts3 (fuel:=8) (laidMet_of_run' 8 (by kernel_rfl) (by kernel_rfl)) (by kernel_rfl) (by kernel_rfl)
set_option maxRecDepth 100000 in
theorem lifted (os:Os) (started:os.Started) (H:Type) (enc:TypeId × Value->H) :
   ReturnsInHanded {} Tryz.checked os 3 .any (fun w args=>(Rows.featurePatternSpec.pre enc Tryz.prog Tryz.f3 [] false w args/\laidMetH Tryz.prog Rows.featurePatternRow.laid w)/\sizedMet enc Tryz.prog Tryz.f3 (OpenSpec.ofChange Rows.featurePatternSpec) false w args)
     (Rows.featurePatternSpec.post enc Tryz.prog Tryz.f3 false true false false):=by
 refine CU (C:=Tryz.checked) (X:=fun w _=>laidMetH Tryz.prog Rows.featurePatternRow.laid w) (fun _ _ _ hh h=>h.of_heap hh) Tryz.own started (by kernel_rfl) Tryz.func3
   (ChangeSpec.witness_shaped (enc:=enc) (C:=Tryz.checked) (os:=os) (X:=fun w _=>laidMetH Tryz.prog Rows.featurePatternRow.laid w) false (World.doorLaid Tryz.prog 400 os) #[.slice none 0 0, .slice none 0 0, .agg #[.int .i8 0, .int .i8 0, .int .i8 0]] 8 rfl (World.shaped_of_RefB (by kernel_rfl) (by kernel_rfl)) (by kernel_rfl) (by kernel_rfl) (by kernel_rfl) (V8 os _)) ?_
 intro W base args ds gs before Z3 hW hL KA
 have hval:∀ (j:Nat) t v,Tryz.f3.params[j]? = some t->args[j]? = some v->Value.okWide Tryz.prog W .any base t v:=Z3
 have hW':=hW
 obtain ⟨p,q,Zo,hV,rfl,hfz,hnd⟩:=hW
 have hA:DataW.TrodAll enc Tryz.prog W 0 (fun _=>true) true Tryz.f3.params.toList args.toList ds p:=Zo
 rw [Tryz.params3] at hA hval
 obtain ⟨v0,v1,v2,d0,d1,d2,q0,q1,q2,rfl,rfl,rfl,h0,h1,h2⟩:=trodAll_three hA
 obtain ⟨rfl,rfl⟩:=trodVars_none hV
 clear Zo Z3
 obtain ⟨a0,l0,k0,rfl⟩:=okWide_slice Tryz.underlying22 (hval 0 22 v0 rfl rfl)
 obtain ⟨a1,l1,k1,rfl⟩:=okWide_slice Tryz.underlying23 (hval 1 23 v1 rfl rfl)
 obtain ⟨xs,rfl,_⟩:=HY Tryz.underlying25 (hval 2 25 v2 rfl rfl)
 obtain ⟨m0,e0⟩:=h0
 obtain ⟨m1,e1⟩:=h1
 obtain ⟨m2,e2⟩:=h2
 obtain ⟨ds,hds,r0⟩:=SA e0
 obtain ⟨ns,r1⟩:=YK e1
 obtain ⟨x,y,z,hx,hy,hz,r2⟩:=afn e2
 have QU:VL.bf (VL.p5 W) W [VL.Kt ds,VL.strs ns, .agg [.int .i8 x, .int .i8 y, .int .i8 z]] [.slice a0 l0 k0, .slice a1 l1 k1, .agg xs] :=
   VL.bf.append (xs:=[VL.Kt ds]) (us:=[.slice a0 l0 k0]) r0 (VL.bf.append (xs:=[VL.strs ns]) (us:=[.slice a1 l1 k1]) r1 ⟨.agg xs,[],rfl,⟨xs,rfl,r2⟩,rfl⟩)
 refine (VL.MX (G:=fun _=>none) (ok:=fun b=>b<W.heap.size) (VL.bc.OT (ain _ (V5 _) ds hds ns x y z hx hy hz) (VL.Km.pure) []) rfl (fun _ h=>h) (fun _ _ h=>by cases h) (vs:=[.slice a0 l0 k0, .slice a1 l1 k1, .agg xs]) QU).mono fun e W' he => ?_
 obtain ⟨rfl,hB⟩:=he
 exact ⟨_,rfl,VL.V7 Tryz.laidOut (by rw [Tryz.params3];intro t ht;simp at ht;rcases ht with rfl | rfl | rfl<;>exact ⟨by kernel_rfl,by decide +kernel⟩) rfl rfl rfl (tb:=4) Tryz.underlying4 hW' hB⟩
theorem Bn:Rows.FeaturePatternSaid :=
 OpenClaim.holds_of_wide 3 Tryz.f3 rfl rfl rfl rfl rfl rfl rfl ⟨rfl,rfl,rfl,rfl,rfl⟩ rfl rfl rfl rfl rfl (by kernel_rfl) Tryz.func3 (by kernel_rfl)
   (of_decide_eq_true (by kernel_rfl)) (by unfold Func.isWrapper;first | (rw [if_pos (by decide +kernel)];kernel_rfl) | (rw [if_neg (by decide +kernel)];exact ⟨rfl,rfl⟩))
   (fun os started H enc _=>lifted os started H enc)
theorem featurePattern_card:Rows.FeaturePatternCardSaid :=
 Claim7.holds_tied_plain_at .later [] [.data, .data, .data] true (true, "27c8c76becc811b338fce23b8eeeb5b36281204e526538d98fa397e685b91503") false
   Bn (fun _ h=>by cases h) (by kernel_rfl) (fun _ h=>by cases h) featurePattern_row_tie rfl ⟨rfl,rfl⟩ (by kernel_rfl) rfl
   (fun f fn hf Ic=>by
     obtain rfl:f=3:=Option.some.inj ((show Tryz.prog.funcNamed Tryz.f3.name=some 3 by kernel_rfl).symm.trans hf) |>.symm
     obtain rfl:fn=Tryz.f3:=(Option.some.inj (Tryz.func3.symm.trans Ic)).symm
     exact ⟨by kernel_rfl,fun j t ht=>by
       rw [Tryz.params3] at ht
       have hm:t∈[22,23,25]:=by simpa using Array.mem_of_getElem? ht
       have KQ:([22,23,25].all fun u => !Tryz.prog.wantsStandIn u)=true:=by kernel_rfl
       exact (show Tryz.prog.wantsStandIn t=false by simpa using List.all_eq_true.1 KQ t hm)⟩)
   (by kernel_rfl)
end Go.Proofs.YtchdghnpcekegaaGreatDoor
end
