/- For every input, FeatureLimits returns true, and its argument reads afterwards as it read before. Conditions: the card's (the listed package-level variables start as the program's text lays them). -/
import Derived.Test.YtchdghnpcekegaaGreatDoorC12
import Derived.ProofKit
import Derived.Test.YtchdghnpcekegaaGreatDoorC03
import Derived.Test.YtchdghnpcekegaaGreatDoorRows
import Derived.Test.YtchdghnpcekegaaGreatDoorTie
import Derived.Test.YtchdghnpcekegaaGreatDoorCards
import Derived.LaidMore
import Derived.OpenShut
import Derived.DataShut
import Derived.Stop.Joined
import Derived.SevenTiedAt
import Derived.HandedShaped
import Derived.Lib.LaidU8
set_option linter.unusedSimpArgs false
set_option linter.unusedVariables false
section
set_option maxRecDepth 100000
namespace Go.Proofs.YtchdghnpcekegaaGreatDoor
open Go.VL Go.Proofs Go.Lib
theorem Qx {z w:NX} {tl:List NX} (WB:tl.length<=150):∀ k,k<=160->w∈M5 z tl k->w∈tl∨(w.c=z.c/\w.name.length<=300)
 | 0,_,h => .inl h
 | k + 1,hk,h=>by
   rw [M5] at h
   rcases List.mem_append.1 h with h | h
   . exact Qx WB k (by omega) h
   . right
     rw [List.mem_singleton] at h
     subst h
     have:=D3 (i:=tl.length+k+1) (by omega)
     exact ⟨rfl,by simp;omega⟩
section
variable (G:Nat->Option (List AV))
theorem ajc (xg:VP Tryz.prog G 5 [] (.bool true)) (ds:List DX) (hd:∀ d∈ds,d.Ok) (N n:Nat) (hN:N<256) (hn:n<256) :
   VP Tryz.prog G 4 [Ft ds, .int .u8 (N:Int), .int .u8 (n:Int)] (.bool true):=by
 have hl:=afk G ds hd
 by_cases hf:E9 ds=true
 case neg =>
   rw [Bool.not_eq_true] at hf
   rw [hf] at hl
   exact VP.tr fk [hc xg,hc hl] (by kernel_rfl)
 obtain ⟨h1,h2⟩:=SC hd hf
 by_cases h0:made ds=[]
 . rw [hf,h0] at hl
   exact VP.tr fk [hc xg,hc hl] (by kernel_rfl)
 have hc':=Qr G ds hd
 rw [if_pos hf] at hc'
 have hm6:(made ds).length<=6:=by unfold named at h1;rwa [List.length_mapIdx] at h1
 have hlr:=fun p=>OM (G:=G) nP ds (made ds) h0 hm6 hc' (fun k hk=>YJ G k hk) p
 have D7:named (made ds)≠[]:=by unfold named;intro e;exact h0 (by simpa using e)
 generalize named (made ds)=l at *
 obtain ⟨z,tl,rfl⟩:∃ z tl,l=z::tl:=by
   cases l with
   | nil=>exact absurd rfl D7
   | cons z tl=>exact ⟨z,tl,rfl⟩
 have WB:tl.length<=150:=by simp at h1;omega
 have hlen:=Fx (z:=z) (tl:=tl) (159-tl.length)
 obtain ⟨z1,t,ht⟩:∃ z1 t,M5 z tl (159-tl.length)=z1::t:=by
   cases he:M5 z tl (159-tl.length) with
   | nil=>rw [he] at hlen;simp at hlen;omega
   | cons z1 t=>exact ⟨z1,t,rfl⟩
 have hz:=h2 z (by simp)
 have hex:∀ w∈z1::t,w.c.valid=true/\w.c.Sm 20/\w.name.length<=300:=by
   intro w hw
   rw [<- ht] at hw
   rcases Qx WB _ (by omega) hw with h | ⟨h,h'⟩
   . have:=h2 w (List.mem_cons_of_mem _ h);exact ⟨this.1,this.2.1,by omega⟩
   . rw [h];exact ⟨hz.1,hz.2.1,h'⟩
 have SM:=hex z1 (by simp)
 have hL:∀ nm s:List UInt8,nm.length<=300->s.length<=300->∀ w∈(⟨nm,z.c⟩::⟨s,z1.c⟩::t:List NX),w.c.valid=true/\w.c.Sm 20/\w.name.length<=300:=by
   intro nm s a b w hw
   rcases List.mem_cons.1 hw with rfl | hw
   . exact ⟨hz.1,hz.2.1,a⟩
   rcases List.mem_cons.1 hw with rfl | hw
   . exact ⟨SM.1,SM.2.1,b⟩
   . exact hex w (List.mem_cons_of_mem _ hw)
 rw [ht] at hlen
 have hOk:∀ nm s:List UInt8,nm.length<=300->s.length<=300->LOk (⟨nm,z.c⟩::⟨s,z1.c⟩::t):=fun nm s a b=>⟨by simp at hlen ⊢;omega,fun w hw=>⟨by have:=(hL nm s a b w hw).2.2;omega,(hL nm s a b w hw).2.1.mono (by omega)⟩⟩
 refine Wo fk ds N n hN hn xg z z1 tl t WB ht hlr (fun k hk=>YJ G k hk) gr (fun z h1 h2=>MR G z (by omega) (by omega)) (fun nm s a b=>aiy G _ (hOk nm s a b)) (fun nm s a b=>aiw G _ (hOk nm s a b)) (fun nm s a b k hk hE => ?_) (YK G) SM.2.2
 obtain ⟨g1,g2⟩:=V5 hE (Yz (by decide)) (Yz (by decide)) (fun w hw=>⟨(hL nm s a b w hw).1,(hL nm s a b w hw).2.1.mono (by omega)⟩)
 rw [Int.toNat_natCast] at g1 g2
 exact ab9 G _ 0 (by omega) (fun w hw=>⟨(g2 w hw).1,(g2 w hw).2.mono (by omega)⟩)
end
end Go.Proofs.YtchdghnpcekegaaGreatDoor
end

section
namespace Go.VL
open Go.ChangeShapes Go.WideShapes Go.ChangeAt Go.RowKit
section
variable {H:Type} {enc:TypeId × Value->H} {P:Program}
theorem Ay (hl:laidOutB P=true) {W W':World} {sp:Nat->Bool} (hB:Below W.heap.size W W'):∀ {ts:List TypeId} {vs:List Value} {ds:List (DataW H)} {ps:List MemPlace},
   (∀ t∈ts,P.readableRec t=true/\t<P.types.size)->DataW.TrodAll enc P W 0 (fun _=>true) true ts vs ds ps->(∀ p∈ps,p.block<W.heap.size)->(∀ p∈ps,sp p.block=true) ->
   DataW.TrodAll enc P W' 0 sp true ts vs ds ps
 | [],[],[],ps,_,h,_,_=>by simpa [DataW.TrodAll] using h
 | t::ts,v::vs,d::ds,ps,hr,h,hlt,hsp=>by
   simp only [DataW.TrodAll] at h ⊢
   obtain ⟨p,q,h1,h2,rfl⟩:=h
   refine ⟨p,q, ?_,Ay hl hB (fun x hx=>hr x (by simp [hx])) h2 (fun x hx=>hlt x (by simp [hx])) (fun x hx=>hsp x (by simp [hx])),rfl⟩
   exact WideElems.Trod_stays hl (hr t (by simp)).1 (hr t (by simp)).2 h1 (fun x hx=>hB.same (hlt x (by simp [hx]))) (fun x hx=>hsp x (by simp [hx]))
 | [],[],_::_,_,_,h,_,_=>by simp [DataW.TrodAll] at h
 | [],_::_,_,_,_,h,_,_=>by simp [DataW.TrodAll] at h
 | _::_,[],_,_,_,h,_,_=>by simp [DataW.TrodAll] at h
 | _::_,_::_,[],_,_,h,_,_=>by simp [DataW.TrodAll] at h
theorem Wp {f:Func} {s:ChangeSpec} {apart fresh handsOn:Bool} {W W':World} {args:Array Value} {ds gs:List (DataW H)} {before:List MemPlace}
   (hl:laidOutB P=true) (hr:∀ t∈f.params.toList,P.readableRec t=true/\t<P.types.size) (hv:s.vars=[])
   (hs:(s.fn H (ds++gs))={ results:=[.lit (.bool true)],args:=ds }) {tb:TypeId} (KO:f.resultTypes = #[tb]) (htb:P.underlying tb=some .bool)
   (hW:DataW.Whole enc P f.params.toList s.vars apart W args.toList ds gs before) (hB:Below W.heap.size W W') :
   s.post enc P f apart fresh handsOn false W args (.bool true) W':=by
 have hlt:=hW.lt
 have hW':=hW
 obtain ⟨p,q,h1,h2,rfl,h3,h4⟩:=hW
 rw [hv] at h2
 have hq:q=[]/\gs=[]:=by
   cases gs with
   | nil=>simp only [DataW.TrodVars] at h2;exact ⟨h2,rfl⟩
   | cons _ _=>simp [DataW.TrodVars] at h2
 obtain ⟨rfl,rfl⟩:=hq
 refine ⟨ds,[],p++[],[],p,[],hW', ?_, ?_, ?_,hB.frame _,fun h=>by simp at h⟩
 . rw [hs,KO]
   exact trodAll_mk1 ⟨1,by simp [DataW.trod,htb,Value.cells]⟩
 . rw [hs]
   exact Ay hl hB hr h1 (fun x hx=>hlt x (by simp [hx])) (fun x hx=>by simpa using hlt x (by simp [hx]))
 . rw [hs,hv];simp [DataW.TrodVars]
end
theorem M6 {P:Program} {G:Nat->Option (List AV)} {f:FuncId} {args:List AV} {r:eP} (h:aW P G f args [] [] r) (hr:r.val = .bool true) {w:World} {ok:Nat->Prop}
   (gK:∀ b,ok b->b<w.heap.size) (hg:∀ g cs,G g=some cs->ok g/\bm ⟨fun _=>none,ok⟩ w g 0 cs) {vs:List Value} (ha:bd ⟨fun _=>none,ok⟩ w args vs) :
   Calls P f vs.toArray w fun e w'=>e = .returned (.bool true)/\Below w.heap.size w w':=by
 have hi:Inv G (fun k=>w.heap.size<=k) ⟨fun _=>none,ok⟩ w (fun _=>none):=⟨gK,fun id bk h=>by simp at h,fun i j x y h=>absurd rfl h,hg,fun k hk=>hk⟩
 refine (h.2 _ _ w _ vs (by simp) hi ha (fun _ _=>rfl)).mono fun e w' he => ?_
 obtain ⟨v,E',rfl,hp⟩:=he
 have hv:=hp.rep
 rw [hr] at hv
 simp only [aT] at hv
 subst hv
 exact ⟨rfl,hp.Hq.os,hp.Hq.tape,hp.Hq.output,hp.Hq.size,fun k hk=>hp.Hq.block k hk (by omega)⟩
end Go.VL
end

section
namespace Go.Proofs.YtchdghnpcekegaaGreatDoor
open Go.ChangeShapes Go.WideShapes Go.ChangeAt Go.WideMaps Go.WideElems Go.RowKit
theorem Tryz.own:ownKnob Tryz.prog.godebug=none:=by kernel_rfl
theorem Tryz.laidOut:laidOutB Tryz.prog=true:=by kernel_rfl
theorem CW {H:Type} {enc:TypeId × Value->H} {a:Assume} {C:Checked} {os:Os} {f:FuncId} {fn:Func} {s:ChangeSpec} {conds:List PathCond} {apart fresh handsOn again:Bool} {X:World->Array Value->Prop}
   (hX:∀ (w w':World) (args:Array Value),w.heap=w'.heap->X w args->X w' args)
   (own:ownKnob C.prog.godebug=none) (started:os.Started) (acn:C.prog.inits.idxOf? f=none) (Ik:C.prog.funcs[f]? = some fn)
   (witness:∃ (w:World) (tape:Tape) (i:Input),w.os=os/\(w.forCall tape i).Shaped C.prog/\i.vars=[]/\Input.okWide C.prog (w.forCall tape i) .any w.heap.size f i /\
     ((s.pre enc C.prog fn conds apart (w.forCall tape i).memory i.args/\X (w.forCall tape i).memory i.args)/\sizedMet enc C.prog fn (OpenSpec.ofChange s) apart (w.forCall tape i).memory i.args)/\a.holds C.prog (lone (Frame.enter C.prog f i.args .normal) [] (w.forCall tape i)))
   (contract:∀ (W:World) (base:Nat) (args:Array Value) (ds gs:List (DataW H)) (before:List MemPlace),
     (∀ (j:Nat) t v,fn.params[j]? = some t->args[j]? = some v->Value.okWide C.prog W .any base t v) ->
     DataW.Whole enc C.prog fn.params.toList s.vars apart W args.toList ds gs before->X W args->W.ShapedOpen C.prog ->
     Calls C.prog f args W fun e W'=>∃ v,e = .returned v/\s.post enc C.prog fn apart fresh handsOn again W args v W') :
   ReturnsInHanded a C os f .any (fun w args=>(s.pre enc C.prog fn conds apart w args/\X w args)/\sizedMet enc C.prog fn (OpenSpec.ofChange s) apart w args) (s.post enc C.prog fn apart fresh handsOn again):=by
 refine returnsInHanded_of_calls own started acn witness ?_
 intro w tape i _ KE _ gK aez _
 obtain ⟨_,_,_,fn',aje,_,_,_,_,hval⟩:=gK
 have e:fn'=fn:=Option.some.inj (aje.symm.trans Ik)
 subst e
 obtain ⟨⟨⟨ds,gs,before,hw,_⟩,hx⟩,_⟩:=aez
 have hw':=DataW.Whole.of_heap (w':=w.forCall tape i) (by rfl) hw
 refine (contract (w.forCall tape i) w.heap.size i.args ds gs before hval hw' (hX _ _ _ (by rfl) hx) KE).mono fun e W' ⟨v,he,hp⟩ => ?_
 subst he
 exact ChangeSpec.post_blind hp
theorem WG {P:Program} {w:World} {r:Reach} {base n:Nat} {t e:TypeId} {v:Value} (ht:P.underlying t=some (.array n e)) (h:Value.okWide P w r base t v):∃ cs,v = .agg cs/\cs.size=P.cellsOf t:=by
 simp only [Value.okWide,ht] at h
 obtain ⟨cs,h1,h2,_⟩:=h
 exact ⟨cs,h1,h2⟩
theorem Wq (os:Os) (args:Array Value):laidMetH Tryz.prog Rows.featureLimitsRow.laid ((World.doorLaid Tryz.prog 400 os).forCall (fun _ _=>0) ⟨#[],args,[]⟩).memory :=
 laidMetH_of_parts3 (fuel:=8) (laidMet_of_run' 8 (by kernel_rfl) (by kernel_rfl)) (by kernel_rfl) (by kernel_rfl)
set_option maxRecDepth 100000 in
theorem lifted (os:Os) (started:os.Started) (H:Type) (enc:TypeId × Value->H) :
   ReturnsInHanded {} Tryz.checked os 4 .any (fun w args=>(Rows.featureLimitsSpec.pre enc Tryz.prog Tryz.f4 [] false w args/\laidMetH Tryz.prog Rows.featureLimitsRow.laid w)/\sizedMet enc Tryz.prog Tryz.f4 (OpenSpec.ofChange Rows.featureLimitsSpec) false w args)
     (Rows.featureLimitsSpec.post enc Tryz.prog Tryz.f4 false true false false):=by
 refine CW (C:=Tryz.checked) (X:=fun w _=>laidMetH Tryz.prog Rows.featureLimitsRow.laid w) (fun _ _ _ hh h=>h.of_heap hh) Tryz.own started (by kernel_rfl) Tryz.func4
   (ChangeSpec.witness_shaped (enc:=enc) (C:=Tryz.checked) (os:=os) (X:=fun w _=>laidMetH Tryz.prog Rows.featureLimitsRow.laid w) false (World.doorLaid Tryz.prog 400 os) #[.slice none 0 0, .int .u8 0, .int .u8 0] 8 rfl (World.shaped_of_RefB (by kernel_rfl) (by kernel_rfl)) (by kernel_rfl) (by kernel_rfl) (by kernel_rfl) (Wq os _)) ?_
 intro W base args ds gs before aap hW hL KE
 have hval:∀ (j:Nat) t v,Tryz.f4.params[j]? = some t->args[j]? = some v->Value.okWide Tryz.prog W .any base t v:=aap
 have hW':=hW
 obtain ⟨p,q,ZJ,hV,rfl,hfz,hnd⟩:=hW
 have hA:DataW.TrodAll enc Tryz.prog W 0 (fun _=>true) true Tryz.f4.params.toList args.toList ds p:=ZJ
 rw [Tryz.params4] at hA hval
 obtain ⟨v0,v1,v2,d0,d1,d2,q0,q1,q2,rfl,rfl,rfl,h0,h1,h2⟩:=trodAll_three hA
 obtain ⟨rfl,rfl⟩:=trodVars_none hV
 clear ZJ aap
 obtain ⟨a0,l0,k0,rfl⟩:=okWide_slice Tryz.underlying22 (hval 0 22 v0 rfl rfl)
 obtain ⟨b1,rfl⟩:=okWide_int Tryz.underlying5 (hval 1 5 v1 rfl rfl)
 obtain ⟨b2,rfl⟩:=okWide_int Tryz.underlying5 (hval 2 5 v2 rfl rfl)
 obtain ⟨m0,e0⟩:=h0
 obtain ⟨m1,e1⟩:=h1
 obtain ⟨m2,e2⟩:=h2
 obtain ⟨ds,hds,r0⟩:=SI e0
 obtain ⟨x,hx,r1⟩:=Qw e1
 obtain ⟨y,hy,r2⟩:=Qw e2
 have Q5:VL.bd (VL.sV W) W [VL.Ft ds, .int .u8 (x:Int), .int .u8 (y:Int)] [.slice a0 l0 k0, .int .u8 b1, .int .u8 b2] :=
   VL.bd.append (xs:=[VL.Ft ds]) (us:=[.slice a0 l0 k0]) r0 (VL.bd.append (xs:=[.int .u8 (x:Int)]) (us:=[.int .u8 b1]) r1 r2)
 refine (VL.M6 (G:=fun _=>none) (ok:=fun b=>b<W.heap.size) (VL.aW.OZ (ajc _ (Wi _) ds hds x y hx hy) (VL.H3.pure) []) rfl (fun _ h=>h) (fun _ _ h=>by cases h) (vs:=[.slice a0 l0 k0, .int .u8 b1, .int .u8 b2]) Q5).mono fun e W' he => ?_
 obtain ⟨rfl,hB⟩:=he
 exact ⟨_,rfl,VL.Wp Tryz.laidOut (by rw [Tryz.params4];intro t ht;simp at ht;rcases ht with rfl | rfl<;>exact ⟨by kernel_rfl,by decide +kernel⟩) rfl rfl rfl (tb:=4) Tryz.underlying4 hW' hB⟩
theorem CY:Rows.FeatureLimitsSaid :=
 OpenClaim.holds_of_wide 4 Tryz.f4 rfl rfl rfl rfl rfl rfl rfl ⟨rfl,rfl,rfl,rfl,rfl⟩ rfl rfl rfl rfl rfl (by kernel_rfl) Tryz.func4 (by kernel_rfl)
   (of_decide_eq_true (by kernel_rfl)) (by unfold Func.isWrapper;first | (rw [if_pos (by decide +kernel)];kernel_rfl) | (rw [if_neg (by decide +kernel)];exact ⟨rfl,rfl⟩))
   (fun os started H enc _=>lifted os started H enc)
theorem featureLimits_card:Rows.FeatureLimitsCardSaid :=
 Claim7.holds_tied_plain_at .later [] [.data, .data, .data] true (true, "27c8c76becc811b338fce23b8eeeb5b36281204e526538d98fa397e685b91503") false
   CY (fun _ h=>by cases h) (by kernel_rfl) (fun _ h=>by cases h) featureLimits_row_tie rfl ⟨rfl,rfl⟩ (by kernel_rfl) rfl
   (fun f fn hf Ik=>by
     obtain rfl:f=4:=Option.some.inj ((show Tryz.prog.funcNamed Tryz.f4.name=some 4 by kernel_rfl).symm.trans hf) |>.symm
     obtain rfl:fn=Tryz.f4:=(Option.some.inj (Tryz.func4.symm.trans Ik)).symm
     exact ⟨by kernel_rfl,fun j t ht=>by
       rw [Tryz.params4] at ht
       have hm:t∈[22,5,5]:=by simpa using Array.mem_of_getElem? ht
       have KU:([22,5,5].all fun u => !Tryz.prog.wantsStandIn u)=true:=by kernel_rfl
       exact (show Tryz.prog.wantsStandIn t=false by simpa using List.all_eq_true.1 KU t hm)⟩)
   (by kernel_rfl)
end Go.Proofs.YtchdghnpcekegaaGreatDoor
end
