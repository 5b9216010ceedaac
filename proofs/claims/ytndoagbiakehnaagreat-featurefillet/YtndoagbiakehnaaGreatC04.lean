/- For the claim of FeatureFillet: parts VLS, VL27, VL28, VL29, VL38, VL39, VL40, GA, GF, GI, GR, GN, GM, GP, GS, GU. -/
import Derived.Test.YtndoagbiakehnaaGreatC03
import Derived.KernelRfl
set_option linter.unusedSimpArgs false
set_option linter.unusedVariables false
section
namespace Go.VL
theorem SS:(((((((type_of% @EG)/\(type_of% @Jh))/\((type_of% @y4)/\((type_of% @EH)/\(type_of% @y3))))/\(((type_of% @w9)/\(type_of% @Bx))/\((type_of% @Bz)/\((type_of% @EI)/\(type_of% @Ji)))))/\((((type_of% @qE)/\(type_of% @Bv))/\((type_of% @EC)/\((type_of% @w6)/\(type_of% @wb))))/\(((type_of% @ED)/\(type_of% @uu))/\((type_of% @y6)/\((type_of% @BA)/\(type_of% @Oq))))))/\(((((type_of% @abU)/\(type_of% @Oy))/\((type_of% @U6)/\((type_of% @Jm)/\(type_of% @BI))))/\(((type_of% @OA)/\(type_of% @Jo))/\((type_of% @Jq)/\((type_of% @U8)/\(type_of% @abW)))))/\((((type_of% @Js)/\(type_of% @Ju))/\((type_of% @y9)/\((type_of% @Va)/\(type_of% @Vc))))/\(((type_of% @OD)/\(type_of% @OG))/\((type_of% @Jw)/\((type_of% @ES)/\(type_of% @Jz)))))))/\((((((type_of% @JB)/\(type_of% @EU))/\((type_of% @EX)/\((type_of% @EZ)/\(type_of% @E5))))/\(((type_of% @BL)/\(type_of% @Ve))/\((type_of% @OI)/\((type_of% @E7)/\(type_of% @Vg)))))/\((((type_of% @Vi)/\(type_of% @Vk))/\((type_of% @JD)/\((type_of% @OK)/\(type_of% @OO))))/\(((type_of% @s_call)/\(type_of% @sg))/\((type_of% @EK)/\((type_of% @EL)/\(type_of% @BB))))))/\(((((type_of% @EO)/\(type_of% @BD))/\((type_of% @Jk)/\((type_of% @Ox)/\(type_of% @BG))))/\(((type_of% @BH)/\(type_of% @abR))/\((type_of% @abS)/\((type_of% @abT)/\(type_of% @Jl)))))/\((((type_of% @ER)/\(type_of% @OR))/\((type_of% @E9)/\((type_of% @JF)/\(type_of% @BN))))/\(((type_of% @Fa)/\((type_of% @BO)/\(type_of% @JG)))/\((type_of% @OS)/\((type_of% @BP)/\(type_of% @BQ))))))))/\(((((((type_of% @uv)/\(type_of% @JL))/\((type_of% @JM)/\((type_of% @Fb)/\(type_of% @Fc))))/\(((type_of% @BR)/\(type_of% @zd))/\((type_of% @sI)/\((type_of% @uz)/\(type_of% @BS)))))/\((((type_of% @ze)/\(type_of% @zf))/\((type_of% @ta)/\((type_of% @zg)/\(type_of% @xe))))/\(((type_of% @JH)/\(type_of% @Fe))/\((type_of% @zh)/\((type_of% @JI)/\(type_of% @JJ))))))/\(((((type_of% @JK)/\(type_of% @BU))/\((type_of% @Fh)/\((type_of% @Fi)/\(type_of% @sJ))))/\(((type_of% @uA)/\(type_of% @uC))/\((type_of% @CY)/\((type_of% @JN)/\(type_of% @JO)))))/\((((type_of% @JQ)/\(type_of% @JR))/\((type_of% @JS)/\((type_of% @JT)/\(type_of% @JU))))/\(((type_of% @JV)/\((type_of% @xf)/\(type_of% @xg)))/\((type_of% @uE)/\((type_of% @uF)/\(type_of% @Fj)))))))/\((((((type_of% @Fk)/\(type_of% @Fm))/\((type_of% @Fo)/\((type_of% @Fp)/\(type_of% @uw))))/\(((type_of% @zi)/\(type_of% @Ff))/\((type_of% @OT)/\((type_of% @OU)/\(type_of% @Fq)))))/\((((type_of% @OV)/\(type_of% @JW))/\((type_of% @JX)/\((type_of% @JY)/\(type_of% @List.getD_cons_zero.{0}))))/\(((type_of% @List.getD_cons_succ.{0})/\(type_of% @List.set_cons_zero.{0}))/\((type_of% @List.set_cons_succ.{0})/\((type_of% @List.map_cons.{0,0})/\(type_of% @List.map_nil.{0,0}))))))/\(((((type_of% @Option.map_some.{0,0})/\(type_of% @Option.map_none.{0,0}))/\((type_of% @List.length_cons.{0})/\((type_of% @List.length_nil.{0})/\(type_of% @beq_self_eq_true.{0}))))/\(((type_of% @if_true.{1})/\(type_of% @if_false.{1}))/\((type_of% @yY)/\((type_of% @List.append_nil.{0})/\(type_of% @List.nil_append.{0})))))/\((((type_of% @List.cons_append.{0})/\(type_of% @Bool.true_beq))/\((type_of% @Bool.false_beq)/\((type_of% @beq_true)/\(type_of% @beq_false))))/\(((type_of% @Bool.not_true)/\((type_of% @Bool.not_false)/\(type_of% @Nat.zero_add)))/\((type_of% @Bool.false_eq_true)/\((type_of% @List.replicate_succ.{0})/\(type_of% @List.replicate_zero.{0})))))))) :=
 ⟨⟨⟨⟨⟨⟨⟨@EG, @Jh⟩,⟨@y4,⟨@EH, @y3⟩⟩⟩,⟨⟨@w9, @Bx⟩,⟨@Bz,⟨@EI, @Ji⟩⟩⟩⟩,⟨⟨⟨@qE, @Bv⟩,⟨@EC,⟨@w6, @wb⟩⟩⟩,⟨⟨@ED, @uu⟩,⟨@y6,⟨@BA, @Oq⟩⟩⟩⟩⟩,⟨⟨⟨⟨@abU, @Oy⟩,⟨@U6,⟨@Jm, @BI⟩⟩⟩,⟨⟨@OA, @Jo⟩,⟨@Jq,⟨@U8, @abW⟩⟩⟩⟩,⟨⟨⟨@Js, @Ju⟩,⟨@y9,⟨@Va, @Vc⟩⟩⟩,⟨⟨@OD, @OG⟩,⟨@Jw,⟨@ES, @Jz⟩⟩⟩⟩⟩⟩,⟨⟨⟨⟨⟨@JB, @EU⟩,⟨@EX,⟨@EZ, @E5⟩⟩⟩,⟨⟨@BL, @Ve⟩,⟨@OI,⟨@E7, @Vg⟩⟩⟩⟩,⟨⟨⟨@Vi, @Vk⟩,⟨@JD,⟨@OK, @OO⟩⟩⟩,⟨⟨@s_call, @sg⟩,⟨@EK,⟨@EL, @BB⟩⟩⟩⟩⟩,⟨⟨⟨⟨@EO, @BD⟩,⟨@Jk,⟨@Ox, @BG⟩⟩⟩,⟨⟨@BH, @abR⟩,⟨@abS,⟨@abT, @Jl⟩⟩⟩⟩,⟨⟨⟨@ER, @OR⟩,⟨@E9,⟨@JF, @BN⟩⟩⟩,⟨⟨@Fa,⟨@BO, @JG⟩⟩,⟨@OS,⟨@BP, @BQ⟩⟩⟩⟩⟩⟩⟩,⟨⟨⟨⟨⟨⟨@uv, @JL⟩,⟨@JM,⟨@Fb, @Fc⟩⟩⟩,⟨⟨@BR, @zd⟩,⟨@sI,⟨@uz, @BS⟩⟩⟩⟩,⟨⟨⟨@ze, @zf⟩,⟨@ta,⟨@zg, @xe⟩⟩⟩,⟨⟨@JH, @Fe⟩,⟨@zh,⟨@JI, @JJ⟩⟩⟩⟩⟩,⟨⟨⟨⟨@JK, @BU⟩,⟨@Fh,⟨@Fi, @sJ⟩⟩⟩,⟨⟨@uA, @uC⟩,⟨@CY,⟨@JN, @JO⟩⟩⟩⟩,⟨⟨⟨@JQ, @JR⟩,⟨@JS,⟨@JT, @JU⟩⟩⟩,⟨⟨@JV,⟨@xf, @xg⟩⟩,⟨@uE,⟨@uF, @Fj⟩⟩⟩⟩⟩⟩,⟨⟨⟨⟨⟨@Fk, @Fm⟩,⟨@Fo,⟨@Fp, @uw⟩⟩⟩,⟨⟨@zi, @Ff⟩,⟨@OT,⟨@OU, @Fq⟩⟩⟩⟩,⟨⟨⟨@OV, @JW⟩,⟨@JX,⟨@JY, @List.getD_cons_zero.{0}⟩⟩⟩,⟨⟨@List.getD_cons_succ.{0}, @List.set_cons_zero.{0}⟩,⟨@List.set_cons_succ.{0},⟨@List.map_cons.{0,0}, @List.map_nil.{0,0}⟩⟩⟩⟩⟩,⟨⟨⟨⟨@Option.map_some.{0,0}, @Option.map_none.{0,0}⟩,⟨@List.length_cons.{0},⟨@List.length_nil.{0}, @beq_self_eq_true.{0}⟩⟩⟩,⟨⟨@if_true.{1}, @if_false.{1}⟩,⟨@yY,⟨@List.append_nil.{0}, @List.nil_append.{0}⟩⟩⟩⟩,⟨⟨⟨@List.cons_append.{0}, @Bool.true_beq⟩,⟨@Bool.false_beq,⟨@beq_true, @beq_false⟩⟩⟩,⟨⟨@Bool.not_true,⟨@Bool.not_false, @Nat.zero_add⟩⟩,⟨@Bool.false_eq_true,⟨@List.replicate_succ.{0}, @List.replicate_zero.{0}⟩⟩⟩⟩⟩⟩⟩⟩
theorem DD:(((((type_of% @y5)/\(type_of% @Ot))/\((type_of% @abV)/\((type_of% @Oz)/\(type_of% @U7))))/\(((type_of% @Jn)/\((type_of% @BJ)/\(type_of% @OC)))/\((type_of% @Jp)/\((type_of% @Jr)/\(type_of% @U9)))))/\((((type_of% @abX)/\(type_of% @Jt))/\((type_of% @Jv)/\((type_of% @zc)/\(type_of% @Vb))))/\(((type_of% @Vd)/\((type_of% @OE)/\(type_of% @OH)))/\((type_of% @Jy)/\((type_of% @ET)/\(type_of% @JA))))))/\(((((type_of% @JC)/\(type_of% @EW))/\((type_of% @EY)/\((type_of% @E4)/\(type_of% @E6))))/\(((type_of% @BM)/\((type_of% @Vf)/\(type_of% @OJ)))/\((type_of% @E8)/\((type_of% @Vh)/\(type_of% @Vj)))))/\((((type_of% @Vl)/\((type_of% @JE)/\(type_of% @OM)))/\((type_of% @OP)/\((type_of% @OQ)/\(type_of% @dg))))/\(((type_of% @EM)/\((type_of% @EN)/\(type_of% @BC)))/\((type_of% @EP)/\((type_of% @BF)/\(type_of% @yZ)))))) :=
 ⟨⟨⟨⟨⟨@y5, @Ot⟩,⟨@abV,⟨@Oz, @U7⟩⟩⟩,⟨⟨@Jn,⟨@BJ, @OC⟩⟩,⟨@Jp,⟨@Jr, @U9⟩⟩⟩⟩,⟨⟨⟨@abX, @Jt⟩,⟨@Jv,⟨@zc, @Vb⟩⟩⟩,⟨⟨@Vd,⟨@OE, @OH⟩⟩,⟨@Jy,⟨@ET, @JA⟩⟩⟩⟩⟩,⟨⟨⟨⟨@JC, @EW⟩,⟨@EY,⟨@E4, @E6⟩⟩⟩,⟨⟨@BM,⟨@Vf, @OJ⟩⟩,⟨@E8,⟨@Vh, @Vj⟩⟩⟩⟩,⟨⟨⟨@Vl,⟨@JE, @OM⟩⟩,⟨@OP,⟨@OQ, @dg⟩⟩⟩,⟨⟨@EM,⟨@EN, @BC⟩⟩,⟨@EP,⟨@BF, @yZ⟩⟩⟩⟩⟩⟩
theorem RS:(((type_of% @ao)/\(type_of% @xd))/\((type_of% @List.mapM_cons.{0,0,0})/\((type_of% @List.mapM_nil.{0,0,0})/\(type_of% @List.getD_cons_zero.{0}))))/\(((type_of% @List.getD_cons_succ.{0})/\(type_of% @Option.pure_def.{0}))/\((type_of% @Option.bind_eq_bind.{0})/\((type_of% @Option.bind_some.{0,0})/\(type_of% @Option.map_some.{0,0})))) :=
 ⟨⟨⟨@ao, @xd⟩,⟨@List.mapM_cons.{0,0,0},⟨@List.mapM_nil.{0,0,0}, @List.getD_cons_zero.{0}⟩⟩⟩,⟨⟨@List.getD_cons_succ.{0}, @Option.pure_def.{0}⟩,⟨@Option.bind_eq_bind.{0},⟨@Option.bind_some.{0,0}, @Option.map_some.{0,0}⟩⟩⟩⟩
end Go.VL
end

section
namespace Go.VL
def Has (P:Program) (f:FuncId) (vf:bp):Prop:=∃ fn,P.funcs[f]? = some fn/\yD P fn=some vf
section
variable {P:Program} {G:Nat->Option (List AV)}
theorem VP.has {f:FuncId} {vf:bp} (h:Has P f vf) {args:List AV} {r:AV} (k:qF P G [] vf.body (LS vf.results r) ⟨args++List.replicate (vf.nt-args.length) (.tup []),fun _=>none,0⟩):VP P G f args r:=by
 obtain ⟨fn,h1,h2⟩:=h
 exact VP.of h1 h2 k
theorem aw.has {f:FuncId} {vf:bp} (h:Has P f vf) {args:List AV} {p:Id} {S:List (Id × cN)} {r:dH}
   (k:qF P G p vf.body (LU G p S vf.results r) ⟨args++List.replicate (vf.nt-args.length) (.tup []),ae.of S,0⟩):aw P G f args p S r:=by
 obtain ⟨fn,h1,h2⟩:=h
 exact aw.U5 h1 h2 (VW.of k)
theorem cB {π : Id} {base:Nat} {Q:bP->VS->Prop} {n:Nat} {d:Option Nat} {os:List bc} {i:Nat} {t:List AV} {σ : ae} {f:FuncId} {args iL:List AV} {r:AV} (S:List (Id × cN))
   (h:VP P G f iL r) (hv:ah (ae.of S) args iL) (hS:∀ x∈S, σ x.1=some x.2) (k:vs P G π base Q n os (i+1) (e9 t d r) (σ.app (CV S))):yW P G π base Q n d os i t σ f args :=
 ⟨S,_,aw.CW h hv,hS,fun x hx=>List.mem_map.2 ⟨x,hx,rfl⟩,k⟩
theorem xi {π : Id} {base:Nat} {Q:bP->VS->Prop} {n:Nat} {d:Option Nat} {os:List bc} {i:Nat} {t:List AV} {σ : ae} {f:FuncId} {args iL:List AV} {r:AV} (S:List (Id × cN))
   (h:VP P G f iL r) (hv:ah (ae.of S) args iL) (hf:we r) (hS:∀ x∈S, σ x.1=some x.2) (k:vs P G π base Q n os (i+1) (e9 t d r) σ):yW P G π base Q n d os i t σ f args :=
 ⟨S,_,aw.of_flat h hv hf,hS,fun x hx=>List.mem_map.2 ⟨x,hx,rfl⟩,k⟩
theorem aj {rs:List n5} {r:AV} {s:VS} (h:dU rs s=some r) (hp:af r):∃ r0,dU rs s=some r0/\View s.σ r0 r:=⟨r,h,View.pure hp⟩
end
theorem jm {σ : ae} {id:Id} {b:Option cN} : σ.put id b id=b:=ae.dG σ id b
theorem j7 {σ : ae} {id i:Id} {b:Option cN} (h:i≠id) : σ.put id b i = σ i:=ae.b8 σ id b h
theorem BV {σ : ae} {agg:Bool} {n e o:Nat} {id:Id} {bk:cN} {el:AV} (h : σ id=some bk) (he:bk.els[e]? = some el):jq σ agg n (.ref id e o)=(part agg el.cells o n).map fun v=>{ val:=v,rd:=[id] }:=by
 simp [jq,h,he]
theorem aS {σ : ae} {agg:Bool} {n o:Nat} {cs:List AV}:jq σ agg n (.ep cs o)=(part agg cs o n).map fun v=>{ val:=v }:=rfl
end Go.VL
end

section
namespace Go.VL
section
variable {P:Program} {G:Nat->Option (List AV)} {own:Nat->Prop} {E:Env} {w:World} {σ : ae}
theorem View.fn {σ : ae} {f:Fn} {a c a' c':List AV} (ha:ah σ a a') (hc:ah σ c c'):View σ (.fn f a c) (.fn f a' c'):=fun G own E w v hi hr=>by
 simp only [aG] at hr ⊢
 obtain ⟨xs,ys,e,h1,h2⟩:=hr
 exact ⟨xs,ys,e,ha.xM hi h1,hc.xM hi h2⟩
theorem View.ref {σ : ae} {id:Id} {bk:cN} {e o:Nat} {el:AV} {cs:List AV} (hσ : σ id=some bk) (he:bk.els[e]? = some el) (h:ah σ el.cells cs):View σ (.ref id e o) (.ep cs o):=fun G own E w v hi hr=>by
 obtain ⟨g,N,cur,ty,hB⟩:=hi.blk id bk hσ
 simp only [aG] at hr ⊢
 obtain ⟨g',k',N',hm,rfl⟩:=hr
 rw [hB.μ] at hm
 simp only [Option.some.injEq,Prod.mk.injEq] at hm
 obtain ⟨rfl,rfl,rfl⟩:=hm
 refine ⟨g,e*bk.k,rfl, .inr ⟨id,bk,bk.k,N,hσ,hB.μ⟩, ?_⟩
 refine dK.2 (h.yV hi ?_)
 have hlt:=(List.getElem?_eq_some_iff.1 he).1
 have:=lW (l:=e) (r:=e+1) hB.k hB.row (by omega) (by omega)
 rw [Nat.zero_add] at this
 have e2:(bk.els.take (e+1)).drop e=[el]:=by
   rw [List.drop_take,show e+1-e=1 from by omega,List.drop_eq_getElem_cons hlt]
   obtain ⟨_,he'⟩:=List.getElem?_eq_some_iff.1 he
   simp [he']
 rw [e2] at this
 simpa [flat] using this
def Vm (F:List (Id × cN)) (c d:AV):Prop:=∀ G own E w v,Inv G own E w (ae.of F)->aG E w c v->aG ⟨E.μ,(E.n8 (ae.of F)).ok⟩ w d v
theorem Vm.top (F:List (Id × cN)) (c:AV):Vm F c .top:=fun _ _ _ _ _ _ _=>by simp [aG]
end
end Go.VL
end

section
namespace Go.VL
section
variable {P:Program} {G:Nat->Option (List AV)}
end
theorem gj {σ : ae} {k:Nat} {es:List AV}:er σ k (.sl k es)=some (es,[]):=by simp [er]
theorem qH {σ : ae} {k:Nat} {id:Id} {off len:Nat} {t:Bool} {bk:cN} (h : σ id=some bk) (hk:bk.k=k) (hl:off+len<=bk.els.length):er σ k (.osl id k off len t)=some ((bk.els.drop off).take len,[id]):=by
 simp [er,h,hk,hl]
theorem px {σ : ae} {p id:Id} {k bytes len:Nat} {x:AV} {els ys:List AV} {rd:List Id} (hx:er σ k x=some (ys,rd)) (hy:ys≠[]) (h : σ id=some ⟨els,k,false⟩) (hl:len=els.length)
   (hb:(len+ys.length)*bytes<=140737488355328) (hm:len+ys.length<=maxLen) (h1:(ys.all fun e=>e.cells.all AV.one)=true) (h2:(els.all fun e=>e.cells.all AV.one)=true) :
   dR σ p k bytes (.osl id k 0 len false) x=some { val := .osl p k 0 (len+ys.length) false,rd:=id::rd,up:=[(id,none),(p,some ⟨els++ys,k,false⟩)] }:=by
 have hne:ys.isEmpty=false:=by cases ys<;>simp at hy ⊢
 unfold dR
 rw [hx]
 simp only [hne,h,h1,h2,hl,Bool.false_eq_true,if_false]
 rw [if_pos ⟨trivial,trivial,trivial,Nat.le_refl _,by rw [<- hl];exact hb,by rw [<- hl];exact hm,trivial⟩]
 simp
theorem C3 {σ : ae} {p:Id} {k bytes:Nat} {x:AV} {ys:List AV} {rd:List Id} (hx:er σ k x=some (ys,rd)) (hy:ys≠[]) (hb:ys.length*bytes<=140737488355328) (hm:ys.length<=maxLen) (h1:(ys.all fun e=>e.cells.all AV.one)=true) :
   dR σ p k bytes .nils x=some { val := .osl p k 0 ys.length false,rd,up:=[(p,some ⟨ys,k,false⟩)] }:=by
 have hne:ys.isEmpty=false:=by cases ys<;>simp at hy ⊢
 unfold dR
 rw [hx]
 simp only [hne,h1,Bool.false_eq_true,if_false]
 rw [if_pos ⟨hb,hm,trivial⟩]
theorem mW {σ : ae} {p:Id} {k bytes:Nat} {x:AV} {es ys:List AV} {rd:List Id} (hx:er σ k x=some (ys,rd)) (hy:ys≠[]) (hb:(es.length+ys.length)*bytes<=140737488355328) (hm:es.length+ys.length<=maxLen) (h1:((es++ys).all fun e=>e.cells.all AV.one)=true) :
   dR σ p k bytes (.tsl k es) x=some { val := .osl p k 0 (es.length+ys.length) false,rd,up:=[(p,some ⟨es++ys,k,false⟩)] }:=by
 have hne:ys.isEmpty=false:=by cases ys<;>simp at hy ⊢
 unfold dR
 rw [hx]
 simp only [hne,h1,Bool.false_eq_true,if_false]
 rw [if_pos ⟨trivial,hb,hm,trivial⟩]
theorem mh {σ : ae} {p:Id} {k k' bytes:Nat} {es:List AV} {x:AV} {rd:List Id} (hx:er σ k x=some ([],rd)):dR σ p k bytes (.tsl k' es) x=some { val := .tsl k' es,rd }:=by
 unfold dR;rw [hx];rfl
theorem fQ {n:Nat} (h:n<=140737488355328):n<=maxLen:=Nat.le_trans h (by decide)
theorem bs0 {σ : ae} {p:Id} {k:Nat} {z:AV} (hz:z.size=k) (hz1:z.cells.all AV.one=true):bu σ p (.buildSl k 0 z [])=some { val := .tsl k [] }:=by
 rw [qG];simp only [ir,List.replicate_zero];rw [if_pos ⟨hz,hz1⟩,if_pos trivial]
theorem x7 {σ : ae} {p:Id} {k:Nat} {z x:AV} (hx:x.size=k) (C4:x.cells.all AV.one=true) (hz:z.size=k) (hz1:z.cells.all AV.one=true) :
   bu σ p (.buildSl k 1 z [(0,x)])=some { val := .osl p k 0 1 false,up:=[(p,some ⟨[x],k,false⟩)] }:=by
 rw [qG]
 have e:ir k (List.replicate 1 z) [(0,x)]=some [x]:=by simp only [ir,List.replicate_succ,List.replicate_zero];rw [if_pos ⟨hx,by simp,C4⟩];rfl
 rw [e];simp only [];rw [if_pos ⟨hz,hz1⟩,if_neg (by decide)]
theorem x8 {σ : ae} {p:Id} {k:Nat} {z x y:AV} (hx:x.size=k) (C4:x.cells.all AV.one=true) (hy:y.size=k) (I9:y.cells.all AV.one=true) (hz:z.size=k) (hz1:z.cells.all AV.one=true) :
   bu σ p (.buildSl k 2 z [(0,x),(1,y)])=some { val := .osl p k 0 2 false,up:=[(p,some ⟨[x,y],k,false⟩)] }:=by
 rw [qG]
 have e:ir k (List.replicate 2 z) [(0,x),(1,y)]=some [x,y]:=by
   simp only [ir,List.replicate_succ,List.replicate_zero]
   rw [if_pos ⟨hx,by simp,C4⟩,if_pos ⟨hy,by simp,I9⟩];rfl
 rw [e];simp only [];rw [if_pos ⟨hz,hz1⟩,if_neg (by decide)]
section
variable {P:Program} {G:Nat->Option (List AV)}
theorem jt {p:Id} {S:List (Id × cN)} {rs:List n5} {r:dH} {s:VS}:LU G p S rs r .ret s=∃ r0,dU rs s=some r0/\Fin G p S s.σ r0 r:=by simp [LU]
theorem Ft {p:Id} {S:List (Id × cN)} {rs:List n5} {r:dH} {s:VS}:LU G p S rs r .normal s=∃ r0,dU rs s=some r0/\Fin G p S s.σ r0 r:=by simp [LU]
theorem dN {p:Id} {S:List (Id × cN)} {rs:List n5} {r:dH} {s:VS} (h:dU rs s=some r.val) (hs:∀ i,(ae.of S).app r.up i=none∨(ae.of S).app r.up i=s.σ i):∃ r0,dU rs s=some r0/\Fin G p S s.σ r0 r:=⟨_,h,Fin.same rfl hs⟩
end
theorem aY {σ : ae} {id:Id} {x:AV} {k:Nat} {b agg:Bool} {n o:Nat}:jq (σ.put id (some ⟨[x],k,b⟩)) agg n (.ref id 0 o)=(part agg x.cells o n).map fun v=>{ val:=v,rd:=[id] } :=
 BV (ae.dG _ _ _) rfl
theorem bj {σ : ae} {id id':Id} {b:Option cN} {agg:Bool} {n e o:Nat} (h:id'≠id):jq (σ.put id b) agg n (.ref id' e o)=jq σ agg n (.ref id' e o):=by
 unfold jq;simp only [ae.b8 _ _ _ h]
theorem lX {σ : ae} {id:Id} {els:List AV} {k n e o:Nat} {el v:AV} (h : σ id=some ⟨els,k,false⟩) (he:els[e]? = some el) (hn:v.cells.length=n) (ho:o+n<=el.size) (h1:v.cells.all AV.one=true) :
   j5 σ n (.ref id e o) v=some { val := .tup [],rd:=[id],up:=[(id,some ⟨els.set e (el.upd o v.cells),k,false⟩)] }:=by
 simp only [j5,h,he]
 rw [if_pos ⟨trivial,hn,ho,h1⟩]
section
variable {P:Program} {G:Nat->Option (List AV)} {π : Id} {Q:bP->VS->Prop} {s:VS}
end
end Go.VL
end

section
namespace Go.VL
mutual
def AV.cG (ρ : Id->Id):AV->AV
 | .fn f a c => .fn f (bK ρ a) (bK ρ c)
 | .agg cs => .agg (bK ρ cs)
 | .tup cs => .tup (bK ρ cs)
 | .sl k es => .sl k (bK ρ es)
 | .tsl k es => .tsl k (bK ρ es)
 | .osl i k o l t => .osl (ρ i) k o l t
 | .ref i e o => .ref (ρ i) e o
 | .ep cs o => .ep (bK ρ cs) o
 | .bool b => .bool b
 | .int k n => .int k n
 | .str l => .str l
 | .nilp => .nilp
 | .nilf => .nilf
 | .nils => .nils
 | .top => .top
 | .anyb => .anyb
 | .ige n => .ige n
def bK (ρ : Id->Id):List AV->List AV
 | []=>[]
 | c::cs=>c.cG ρ :: bK ρ cs
end
def cN.cG (ρ : Id->Id) (b:cN):cN:=⟨bK ρ b.els,b.k,b.fr⟩
section
variable {ρ : Id->Id}
theorem fW:∀ {cs:List AV},bK ρ cs=cs.map (AV.cG ρ)
 | []=>rfl
 | c::cs=>by simp only [bK,List.map_cons,fW (cs:=cs)]
theorem e8 {cs:List AV}:(bK ρ cs).length=cs.length:=by rw [fW,List.length_map]
theorem ru (c:AV):(c.cG ρ).cells=bK ρ c.cells:=by cases c<;>rfl
theorem Fu (c:AV):(c.cG ρ).size=c.size:=by unfold AV.size;rw [ru,e8]
theorem cW {xs ys:List AV}:bK ρ (xs++ys)=bK ρ xs++bK ρ ys:=by simp only [fW,List.map_append]
theorem uG:∀ {es:List AV},flat (bK ρ es)=bK ρ (flat es)
 | []=>rfl
 | e::es=>by
   have h1:flat (e::es)=e.cells++flat es:=by simp [flat]
   have h2:flat (bK ρ (e::es))=(e.cG ρ).cells++flat (bK ρ es):=by simp [flat,bK]
   rw [h1,h2,ru,cW,uG (es:=es)]
theorem ry {k:Nat} {es:List AV} (h:∀ e∈es,e.size=k):∀ e∈bK ρ es,e.size=k:=by
 intro e he;rw [fW] at he;obtain ⟨x,hx,rfl⟩:=List.mem_map.1 he;rw [Fu];exact h x hx
theorem tc {k:Nat} {es:List AV} (h:∀ e∈bK ρ es,e.size=k):∀ e∈es,e.size=k:=by
 intro e he;rw [<- Fu (ρ := ρ)];exact h _ (by rw [fW];exact List.mem_map.2 ⟨e,he,rfl⟩)
mutual
theorem aG.cG {E E':Env} {w:World} (hμ : ∀ i x,E.μ i=some x->E'.μ (ρ i)=some x) (eQ:∀ b,E.ok b->E'.ok b):∀ (c:AV) (v:Value),aG E w c v->aG E' w (c.cG ρ) v
 | .bool _,_,r=>by simpa [aG,AV.cG] using r
 | .int _ _,_,r=>by simpa [aG,AV.cG] using r
 | .str _,_,r=>by simpa [aG,AV.cG] using r
 | .nilp,_,r=>by simpa [aG,AV.cG] using r
 | .nilf,_,r=>by simpa [aG,AV.cG] using r
 | .nils,_,r=>by simpa [aG,AV.cG] using r
 | .top,_,_=>by simp [aG,AV.cG]
 | .anyb,_,r=>by simpa [aG,AV.cG] using r
 | .ige _,_,r=>by simpa [aG,AV.cG] using r
 | .fn f a c,v,r=>by
   simp only [aG,AV.cG] at r ⊢
   obtain ⟨xs,ys,e,ra,rc⟩:=r
   exact ⟨xs,ys,e,aK.cG hμ eQ a _ ra,aK.cG hμ eQ c _ rc⟩
 | .agg cs,v,r=>by
   simp only [aG,AV.cG] at r ⊢
   obtain ⟨xs,e,ra⟩:=r
   exact ⟨xs,e,aK.cG hμ eQ cs _ ra⟩
 | .tup cs,v,r=>by
   simp only [aG,AV.cG] at r ⊢
   obtain ⟨xs,e,ra⟩:=r
   exact ⟨xs,e,aK.cG hμ eQ cs _ ra⟩
 | .sl k es,v,r=>by
   simp only [aG,AV.cG] at r ⊢
   obtain ⟨a,cap,e,h1,h2,hk,h3⟩:=r
   refine ⟨a,cap,by rw [e8];exact e,by rw [e8];exact h1,h2,ry hk,h3.imp (fun h=>by rw [h];rfl) ?_⟩
   rintro ⟨b,o,ea,hb,hr⟩
   exact ⟨b,o,ea,eQ b hb,aX.cG hμ eQ es o hr⟩
 | .tsl k es,v,r=>by
   simp only [aG,AV.cG] at r ⊢
   obtain ⟨a,e,h2,hk,h3⟩:=r
   refine ⟨a,by rw [e8];exact e,by rw [e8];exact h2,ry hk,h3.imp (fun h=>by rw [h];rfl) ?_⟩
   rintro ⟨b,o,ea,hb,hr⟩
   exact ⟨b,o,ea,eQ b hb,aX.cG hμ eQ es o hr⟩
 | .osl id k off len t,v,r=>by
   simp only [aG,AV.cG] at r ⊢
   obtain ⟨g,N,cap,hm,rest⟩:=r
   exact ⟨g,N,cap,hμ _ _ hm,rest⟩
 | .ref id e o,v,r=>by
   simp only [aG,AV.cG] at r ⊢
   obtain ⟨g,k,N,hm,rest⟩:=r
   exact ⟨g,k,N,hμ _ _ hm,rest⟩
 | .ep cs o,v,r=>by
   simp only [aG,AV.cG] at r ⊢
   obtain ⟨b,p,e,hb,hr⟩:=r
   exact ⟨b,p,e,eQ b hb,aZ.cG hμ eQ cs p hr⟩
theorem aK.cG {E E':Env} {w:World} (hμ : ∀ i x,E.μ i=some x->E'.μ (ρ i)=some x) (eQ:∀ b,E.ok b->E'.ok b):∀ (cs:List AV) (vs:List Value),aK E w cs vs->aK E' w (bK ρ cs) vs
 | [],_,r=>by simpa [aK,bK] using r
 | c::cs,vs,r=>by
   simp only [aK,bK] at r ⊢
   obtain ⟨v,rest,e,r1,r2⟩:=r
   exact ⟨v,rest,e,aG.cG hμ eQ c v r1,aK.cG hμ eQ cs rest r2⟩
theorem aX.cG {E E':Env} {w:World} (hμ : ∀ i x,E.μ i=some x->E'.μ (ρ i)=some x) (eQ:∀ b,E.ok b->E'.ok b) {b:Nat}:∀ (es:List AV) (o:Nat),aX E w b o es->aX E' w b o (bK ρ es)
 | [],_,_=>by simp [aX,bK]
 | .agg cs::es,o,r=>by
   simp only [aX,bK,AV.cG,e8] at r ⊢
   exact ⟨aZ.cG hμ eQ cs o r.1,aX.cG hμ eQ es _ r.2⟩
 | .bool _::es,o,r | .int _ _::es,o,r | .str _::es,o,r | .nilp::es,o,r | .nilf::es,o,r | .nils::es,o,r | .top::es,o,r | .anyb::es,o,r | .ige _::es,o,r | .fn _ _ _::es,o,r
 | .tup _::es,o,r | .sl _ _::es,o,r | .tsl _ _::es,o,r | .osl _ _ _ _ _::es,o,r | .ref _ _ _::es,o,r | .ep _ _::es,o,r=>by
   simp only [aX,bK,AV.cG] at r ⊢
   obtain ⟨⟨v,hv,hr⟩,r2⟩:=r
   have:=aG.cG hμ eQ _ v hr
   simp only [AV.cG] at this
   exact ⟨⟨v,hv,this⟩,aX.cG hμ eQ es _ r2⟩
theorem aZ.cG {E E':Env} {w:World} (hμ : ∀ i x,E.μ i=some x->E'.μ (ρ i)=some x) (eQ:∀ b,E.ok b->E'.ok b) {b:Nat}:∀ (cs:List AV) (o:Nat),aZ E w b o cs->aZ E' w b o (bK ρ cs)
 | [],_,_=>by simp [aZ,bK]
 | c::cs,o,r=>by
   simp only [aZ,bK] at r ⊢
   obtain ⟨⟨v,hv,hr⟩,r2⟩:=r
   exact ⟨⟨v,hv,aG.cG hμ eQ c v hr⟩,aZ.cG hμ eQ cs _ r2⟩
end
mutual
theorem aG.cM {E E':Env} {w:World} (hμ : ∀ i x,E'.μ (ρ i)=some x->E.μ i=some x) (eQ:∀ b,E'.ok b->E.ok b):∀ (c:AV) (v:Value),aG E' w (c.cG ρ) v->aG E w c v
 | .bool _,_,r=>by simpa [aG,AV.cG] using r
 | .int _ _,_,r=>by simpa [aG,AV.cG] using r
 | .str _,_,r=>by simpa [aG,AV.cG] using r
 | .nilp,_,r=>by simpa [aG,AV.cG] using r
 | .nilf,_,r=>by simpa [aG,AV.cG] using r
 | .nils,_,r=>by simpa [aG,AV.cG] using r
 | .top,_,_=>by simp [aG]
 | .anyb,_,r=>by simpa [aG,AV.cG] using r
 | .ige _,_,r=>by simpa [aG,AV.cG] using r
 | .fn f a c,v,r=>by
   simp only [aG,AV.cG] at r ⊢
   obtain ⟨xs,ys,e,ra,rc⟩:=r
   exact ⟨xs,ys,e,aK.cM hμ eQ a _ ra,aK.cM hμ eQ c _ rc⟩
 | .agg cs,v,r=>by
   simp only [aG,AV.cG] at r ⊢
   obtain ⟨xs,e,ra⟩:=r
   exact ⟨xs,e,aK.cM hμ eQ cs _ ra⟩
 | .tup cs,v,r=>by
   simp only [aG,AV.cG] at r ⊢
   obtain ⟨xs,e,ra⟩:=r
   exact ⟨xs,e,aK.cM hμ eQ cs _ ra⟩
 | .sl k es,v,r=>by
   simp only [aG,AV.cG,e8] at r ⊢
   obtain ⟨a,cap,e,h1,h2,hk,h3⟩:=r
   refine ⟨a,cap,e,h1,h2,tc hk,h3.imp (fun h=>by have:=congrArg List.length h;rw [e8] at this;exact List.length_eq_zero_iff.1 this) ?_⟩
   rintro ⟨b,o,ea,hb,hr⟩
   exact ⟨b,o,ea,eQ b hb,aX.cM hμ eQ es o hr⟩
 | .tsl k es,v,r=>by
   simp only [aG,AV.cG,e8] at r ⊢
   obtain ⟨a,e,h2,hk,h3⟩:=r
   refine ⟨a,e,h2,tc hk,h3.imp (fun h=>by have:=congrArg List.length h;rw [e8] at this;exact List.length_eq_zero_iff.1 this) ?_⟩
   rintro ⟨b,o,ea,hb,hr⟩
   exact ⟨b,o,ea,eQ b hb,aX.cM hμ eQ es o hr⟩
 | .osl id k off len t,v,r=>by
   simp only [aG,AV.cG] at r ⊢
   obtain ⟨g,N,cap,hm,rest⟩:=r
   exact ⟨g,N,cap,hμ _ _ hm,rest⟩
 | .ref id e o,v,r=>by
   simp only [aG,AV.cG] at r ⊢
   obtain ⟨g,k,N,hm,rest⟩:=r
   exact ⟨g,k,N,hμ _ _ hm,rest⟩
 | .ep cs o,v,r=>by
   simp only [aG,AV.cG] at r ⊢
   obtain ⟨b,p,e,hb,hr⟩:=r
   exact ⟨b,p,e,eQ b hb,aZ.cM hμ eQ cs p hr⟩
theorem aK.cM {E E':Env} {w:World} (hμ : ∀ i x,E'.μ (ρ i)=some x->E.μ i=some x) (eQ:∀ b,E'.ok b->E.ok b):∀ (cs:List AV) (vs:List Value),aK E' w (bK ρ cs) vs->aK E w cs vs
 | [],_,r=>by simpa [aK,bK] using r
 | c::cs,vs,r=>by
   simp only [aK,bK] at r ⊢
   obtain ⟨v,rest,e,r1,r2⟩:=r
   exact ⟨v,rest,e,aG.cM hμ eQ c v r1,aK.cM hμ eQ cs rest r2⟩
theorem aX.cM {E E':Env} {w:World} (hμ : ∀ i x,E'.μ (ρ i)=some x->E.μ i=some x) (eQ:∀ b,E'.ok b->E.ok b) {b:Nat}:∀ (es:List AV) (o:Nat),aX E' w b o (bK ρ es)->aX E w b o es
 | [],_,_=>by simp [aX]
 | .agg cs::es,o,r=>by
   simp only [aX,bK,AV.cG,e8] at r ⊢
   exact ⟨aZ.cM hμ eQ cs o r.1,aX.cM hμ eQ es _ r.2⟩
 | .bool b1::es,o,r=>by simp only [aX,bK,AV.cG] at r ⊢;obtain ⟨⟨v,hv,hr⟩,r2⟩:=r;exact ⟨⟨v,hv,aG.cM hμ eQ (.bool b1) v hr⟩,aX.cM hμ eQ es _ r2⟩
 | .int a1 a2::es,o,r=>by simp only [aX,bK,AV.cG] at r ⊢;obtain ⟨⟨v,hv,hr⟩,r2⟩:=r;exact ⟨⟨v,hv,aG.cM hμ eQ (.int a1 a2) v hr⟩,aX.cM hμ eQ es _ r2⟩
 | .str a1::es,o,r=>by simp only [aX,bK,AV.cG] at r ⊢;obtain ⟨⟨v,hv,hr⟩,r2⟩:=r;exact ⟨⟨v,hv,aG.cM hμ eQ (.str a1) v hr⟩,aX.cM hμ eQ es _ r2⟩
 | .nilp::es,o,r=>by simp only [aX,bK,AV.cG] at r ⊢;obtain ⟨⟨v,hv,hr⟩,r2⟩:=r;exact ⟨⟨v,hv,aG.cM hμ eQ .nilp v hr⟩,aX.cM hμ eQ es _ r2⟩
 | .nilf::es,o,r=>by simp only [aX,bK,AV.cG] at r ⊢;obtain ⟨⟨v,hv,hr⟩,r2⟩:=r;exact ⟨⟨v,hv,aG.cM hμ eQ .nilf v hr⟩,aX.cM hμ eQ es _ r2⟩
 | .nils::es,o,r=>by simp only [aX,bK,AV.cG] at r ⊢;obtain ⟨⟨v,hv,hr⟩,r2⟩:=r;exact ⟨⟨v,hv,aG.cM hμ eQ .nils v hr⟩,aX.cM hμ eQ es _ r2⟩
 | .top::es,o,r=>by simp only [aX,bK,AV.cG] at r ⊢;obtain ⟨⟨v,hv,hr⟩,r2⟩:=r;exact ⟨⟨v,hv,aG.cM hμ eQ .top v hr⟩,aX.cM hμ eQ es _ r2⟩
 | .anyb::es,o,r=>by simp only [aX,bK,AV.cG] at r ⊢;obtain ⟨⟨v,hv,hr⟩,r2⟩:=r;exact ⟨⟨v,hv,aG.cM hμ eQ .anyb v hr⟩,aX.cM hμ eQ es _ r2⟩
 | .ige a1::es,o,r=>by simp only [aX,bK,AV.cG] at r ⊢;obtain ⟨⟨v,hv,hr⟩,r2⟩:=r;exact ⟨⟨v,hv,aG.cM hμ eQ (.ige a1) v hr⟩,aX.cM hμ eQ es _ r2⟩
 | .fn a1 a2 a3::es,o,r=>by simp only [aX,bK,AV.cG] at r ⊢;obtain ⟨⟨v,hv,hr⟩,r2⟩:=r;exact ⟨⟨v,hv,aG.cM hμ eQ (.fn a1 a2 a3) v (by simpa only [AV.cG] using hr)⟩,aX.cM hμ eQ es _ r2⟩
 | .tup a1::es,o,r=>by simp only [aX,bK,AV.cG] at r ⊢;obtain ⟨⟨v,hv,hr⟩,r2⟩:=r;exact ⟨⟨v,hv,aG.cM hμ eQ (.tup a1) v (by simpa only [AV.cG] using hr)⟩,aX.cM hμ eQ es _ r2⟩
 | .sl a1 a2::es,o,r=>by simp only [aX,bK,AV.cG] at r ⊢;obtain ⟨⟨v,hv,hr⟩,r2⟩:=r;exact ⟨⟨v,hv,aG.cM hμ eQ (.sl a1 a2) v (by simpa only [AV.cG] using hr)⟩,aX.cM hμ eQ es _ r2⟩
 | .tsl a1 a2::es,o,r=>by simp only [aX,bK,AV.cG] at r ⊢;obtain ⟨⟨v,hv,hr⟩,r2⟩:=r;exact ⟨⟨v,hv,aG.cM hμ eQ (.tsl a1 a2) v (by simpa only [AV.cG] using hr)⟩,aX.cM hμ eQ es _ r2⟩
 | .osl a1 a2 a3 a4 a5::es,o,r=>by simp only [aX,bK,AV.cG] at r ⊢;obtain ⟨⟨v,hv,hr⟩,r2⟩:=r;exact ⟨⟨v,hv,aG.cM hμ eQ (.osl a1 a2 a3 a4 a5) v (by simpa only [AV.cG] using hr)⟩,aX.cM hμ eQ es _ r2⟩
 | .ref a1 a2 a3::es,o,r=>by simp only [aX,bK,AV.cG] at r ⊢;obtain ⟨⟨v,hv,hr⟩,r2⟩:=r;exact ⟨⟨v,hv,aG.cM hμ eQ (.ref a1 a2 a3) v (by simpa only [AV.cG] using hr)⟩,aX.cM hμ eQ es _ r2⟩
 | .ep a1 a2::es,o,r=>by simp only [aX,bK,AV.cG] at r ⊢;obtain ⟨⟨v,hv,hr⟩,r2⟩:=r;exact ⟨⟨v,hv,aG.cM hμ eQ (.ep a1 a2) v (by simpa only [AV.cG] using hr)⟩,aX.cM hμ eQ es _ r2⟩
theorem aZ.cM {E E':Env} {w:World} (hμ : ∀ i x,E'.μ (ρ i)=some x->E.μ i=some x) (eQ:∀ b,E'.ok b->E.ok b) {b:Nat}:∀ (cs:List AV) (o:Nat),aZ E' w b o (bK ρ cs)->aZ E w b o cs
 | [],_,_=>by simp [aZ]
 | c::cs,o,r=>by
   simp only [aZ,bK] at r ⊢
   obtain ⟨⟨v,hv,hr⟩,r2⟩:=r
   exact ⟨⟨v,hv,aG.cM hμ eQ c v hr⟩,aZ.cM hμ eQ cs _ r2⟩
end
theorem dC.cG {E E':Env} {w:World} (hμ : ∀ i x,E.μ i=some x->E'.μ (ρ i)=some x) (eQ:∀ b,E.ok b->E'.ok b) {b o:Nat} {cs:List AV} (h:dC E w b o cs):dC E' w b o (bK ρ cs) :=
 dK.1 (aZ.cG hμ eQ cs o (dK.2 h))
theorem dC.cM {E E':Env} {w:World} (hμ : ∀ i x,E'.μ (ρ i)=some x->E.μ i=some x) (eQ:∀ b,E'.ok b->E.ok b) {b o:Nat} {cs:List AV} (h:dC E' w b o (bK ρ cs)):dC E w b o cs :=
 dK.1 (aZ.cM hμ eQ cs o (dK.2 h))
end
def iZ (n:Nat) (π : Id) (κ : Nat->Id):Id->Id
 | []=>[]
 | a :: ar=>match ar with
   | []=>match a with | 0 => π | k+1 => κ (k+1)
   | b::bs=>match b,bs with
     | 0,[]=>(n+a) :: π
     | _,_=>a::iZ n π κ ar
theorem jQ {n:Nat} {π : Id} {κ : Nat->Id} {q:Nat}:∀ l:Id,iZ n π κ (l++[q,0])=l++((n+q) :: π)
 | []=>rfl
 | [a]=>by simp [iZ]
 | a::b::l=>by
   have:=jQ (n:=n) (π := π) (κ := κ) (q:=q) (b::l)
   simp only [List.cons_append] at this ⊢
   rw [<- this]
   cases h:l++[q,0] with
   | nil=>simp at h
   | cons c cs=>cases b<;>simp [iZ]
theorem C5 {i:Id} (h:[0] <:+ i):i=[0]∨∃ l q,i=l++[q,0]:=by
 obtain ⟨t,rfl⟩:=h
 rcases List.eq_nil_or_concat t with rfl | ⟨l,q,rfl⟩
 . exact .inl rfl
 . exact .inr ⟨l,q,by simp⟩
theorem S6 {n:Nat} {π : Id} {κ : Nat->Id} {i j:Id} (hi:[0] <:+ i) (hj:[0] <:+ j) (h:iZ n π κ i=iZ n π κ j):i=j:=by
 rcases C5 hi with rfl | ⟨l,q,rfl⟩<;>rcases C5 hj with rfl | ⟨l',q',rfl⟩
 . rfl
 . rw [jQ] at h;have:=congrArg List.length h;simp [iZ] at this;omega
 . rw [jQ] at h;have:=congrArg List.length h;simp [iZ] at this;omega
 . rw [jQ,jQ] at h
   have hl:l.length=l'.length:=by have:=congrArg List.length h;simp at this;omega
   obtain ⟨h1,h2⟩:=List.append_inj h hl
   simp only [List.cons.injEq,and_true] at h2
   have:q=q':=by omega
   rw [h1,this]
section
variable {P:Program} {G:Nat->Option (List AV)}
open Classical in
noncomputable def uH (n:Nat) (π : Id) (κ : Nat->Id) (E E0:Env):Env:=⟨fun j=>if h:∃ i,[0] <:+ i/\iZ n π κ i=j then E0.μ h.choose else E.μ j,E0.ok⟩
theorem xj {n:Nat} {π : Id} {κ : Nat->Id} {E E0:Env} {i:Id} (hi:[0] <:+ i):(uH n π κ E E0).μ (iZ n π κ i)=E0.μ i:=by
 have hex:∃ i',[0] <:+ i'/\iZ n π κ i'=iZ n π κ i:=⟨i,hi,rfl⟩
 simp only [uH]
 rw [dif_pos hex]
 exact congrArg E0.μ (S6 hex.choose_spec.1 hi hex.choose_spec.2)
theorem mX {n:Nat} {π : Id} {κ : Nat->Id} {E E0:Env} {j:Id} (h:∀ i,[0] <:+ i->iZ n π κ i≠j):(uH n π κ E E0).μ j=E.μ j:=by
 simp only [uH]
 rw [dif_neg];rintro ⟨i,hi,e⟩;exact h i hi e
theorem zj {n:Nat} {π : Id} {κ : Nat->Id} {E:Env} (hf:rX E π n) {i:Id} (hi:[0] <:+ i):E.μ (iZ n π κ i)=none:=by
 rcases C5 hi with rfl | ⟨l,q,rfl⟩
 . exact hf.self
 . rw [jQ];exact hf.at (q:=n+q) (Nat.le_add_right _ _) ⟨l,rfl⟩
def LW (ρ : Id->Id) (σ0 σ : ae):Prop:=(∀ i b, σ0 i=some b -> σ (ρ i)=some (b.cG ρ))/\∀ j, σ j=none∨∃ i b, σ0 i=some b /\ ρ i=j /\ σ j=some (b.cG ρ)
theorem VW.cG {vc:bJ} {Q0:bP->VS->Prop} {t0:List AV} {σ0 σ : ae} {n:Nat} {π : Id} {κ : Nat->Id} (h:VW P G [0] vc Q0 ⟨t0, σ0,0⟩)
   (hσ : ∀ i b, σ0 i=some b -> σ (iZ n π κ i)=some (b.cG (iZ n π κ))) (ahz:∀ i j, σ0 i≠none -> σ0 j≠none->i≠j->iZ n π κ i≠iZ n π κ j) :
   VW P G π vc (fun e s=>∃ s0,Q0 e s0/\s.t=bK (iZ n π κ) s0.t/\s.n=n+s0.n/\LW (iZ n π κ) s0.σ s.σ) ⟨bK (iZ n π κ) t0, σ,n⟩:=by
 intro c hc own E w a R hm hR
 obtain ⟨Aq,hi,lr,XB⟩:=hm
 let E0:Env:=⟨fun i=>E.μ (iZ n π κ i),E.ok⟩
 have hm0:iY G [0] own E0 w ⟨t0, σ0,0⟩ a:=by
   refine ⟨aK.cM (E:=E0) (E':=E) (fun i x hx=>hx) (fun b hb=>hb) _ _ Aq, ?_,fun j hj _=>zj lr hj,XB⟩
   refine ⟨hi.okb,fun id bk hs => ?_,fun i j x y kN hj' hne hx hy => ?_,hi.glob,hi.new⟩
   . obtain ⟨g,N,cur,ty,hB⟩:=hi.blk _ _ (hσ id bk hs)
     refine ⟨g,N,cur,ty,hB.μ,hB.heap,hB.size, ?_,hB.most,hB.own,hB.ok,hB.no,tc hB.k, ?_⟩
     . have:=hB.len;rwa [show (bk.cG (iZ n π κ)).els.length=bk.els.length from e8] at this
     . have:=hB.row
       rw [show (bk.cG (iZ n π κ)).els=bK (iZ n π κ) bk.els from rfl,uG] at this
       exact dC.cM (E:=E0) (E':=E) (fun i x hx=>hx) (fun b hb=>hb) this
   . obtain ⟨b,hb⟩:=Option.ne_none_iff_exists'.1 kN
     obtain ⟨b',Ho⟩:=Option.ne_none_iff_exists'.1 hj'
     exact hi.inj _ _ x y (by show σ _≠none;rw [hσ i b hb];simp) (by show σ _≠none;rw [hσ j b' Ho];simp) (ahz i j kN hj' hne) hx hy
 refine h c hc own E0 w a R hm0 ?_
 intro e s0 E0' w' a' hq had mG
 obtain ⟨ahB,kN,HJ,abY⟩:=mG
 let E':=uH n π κ E E0'
 have hμ : ∀ i x,E0'.μ i=some x->E'.μ (iZ n π κ i)=some x:=by
   intro i x hx
   by_cases h0:[0] <:+ i
   . exact (xj h0).trans hx
   . have h1:E.μ (iZ n π κ i)=some x:=by have:=had.ids i h0;rw [hx] at this;exact this.symm
     exact (mX fun i' kN e=>by have:=zj (κ := κ) lr kN;rw [e,h1] at this;cases this).trans h1
 have hold:∀ j x,E.μ j=some x->E'.μ j=some x:=fun j x hx=>(mX fun i' kN e=>by have:=zj (κ := κ) lr kN;rw [e,hx] at this;cases this).trans hx
 have hS:∀ j b,(∃ i b0,s0.σ i=some b0/\iZ n π κ i=j/\b=b0.cG (iZ n π κ))->∃ i g N cur ty b0,s0.σ i=some b0/\iZ n π κ i=j/\pY E0' own w' i b0 g N cur ty/\pY E' own w' j b g N cur ty:=by
   rintro j b ⟨i,b0,h1,rfl,rfl⟩
   obtain ⟨g,N,cur,ty,hB⟩:=kN.blk i b0 h1
   refine ⟨i,g,N,cur,ty,b0,h1,rfl,hB,hμ _ _ hB.μ,hB.heap,hB.size, ?_,hB.most,hB.own,hB.ok,hB.no,ry hB.k, ?_⟩
   . rw [show (b0.cG (iZ n π κ)).els.length=b0.els.length from e8];exact hB.len
   . rw [show (b0.cG (iZ n π κ)).els=bK (iZ n π κ) b0.els from rfl,uG]
     exact dC.cG hμ (fun b hb=>hb) hB.row
 classical
 let σ':ae:=fun j=>if h:∃ i b,s0.σ i=some b/\iZ n π κ i=j then some (h.choose_spec.choose.cG (iZ n π κ)) else none
 have OX:∀ j, σ' j=none∨∃ i b,s0.σ i=some b/\iZ n π κ i=j /\ σ' j=some (b.cG (iZ n π κ)):=fun j=>by
   by_cases h:∃ i b,s0.σ i=some b/\iZ n π κ i=j
   . right;exact ⟨h.choose,h.choose_spec.choose,h.choose_spec.choose_spec.1,h.choose_spec.choose_spec.2,dif_pos h⟩
   . left;exact dif_neg h
 have ahC:Inv G own E' w' σ':=by
   refine ⟨kN.okb,fun j bk hs => ?_,fun j j' x y hj hj' hne hx hy => ?_,kN.glob,kN.new⟩
   . rcases OX j with h1 | ⟨i,b,h1,h2,h3⟩
     . rw [h1] at hs;cases hs
     . rw [h3] at hs
       simp only [Option.some.injEq] at hs
       obtain ⟨i',g,N,cur,ty,b0,_,_,_,hB⟩:=hS j bk ⟨i,b,h1,h2,hs.symm⟩
       exact ⟨g,N,cur,ty,hB⟩
   . rcases OX j with h1 | ⟨i,b,h1,h2,h3⟩
     . exact absurd h1 hj
     rcases OX j' with h4 | ⟨i',b',h4,h5,h6⟩
     . exact absurd h4 hj'
     obtain ⟨g,N,cur,ty,hB⟩:=kN.blk i b h1
     obtain ⟨g',N',Eh,Hy,Bc⟩:=kN.blk i' b' h4
     have e1:=hμ _ _ hB.μ
     have e2:=hμ _ _ Bc.μ
     rw [h2,hx] at e1
     rw [h5,hy] at e2
     simp only [Option.some.injEq] at e1 e2
     rw [e1,e2]
     exact kN.inj i i' _ _ (by rw [h1];simp) (by rw [h4];simp) (fun e=>hne (by rw [<- h2, <- h5,e])) hB.μ Bc.μ
 have abZ:∀ i b,s0.σ i=some b -> σ' (iZ n π κ i)=some (b.cG (iZ n π κ)):=fun i b h1=>by
   rcases OX (iZ n π κ i) with h2 | ⟨i',b',h3,h4,h5⟩
   . exact absurd ((dif_pos ⟨i,b,h1,rfl⟩).symm.trans h2) (by simp)
   . obtain ⟨g,N,cur,ty,hB⟩:=kN.blk i b h1
     obtain ⟨g',N',Eh,Hy,Bc⟩:=kN.blk i' b' h3
     by_cases e:i'=i
     . subst e;rw [h1] at h3;simp only [Option.some.injEq] at h3;subst h3;exact h5
     . have e1:=hμ _ _ hB.μ
       have e2:=hμ _ _ Bc.μ
       rw [h4,e1] at e2
       simp only [Option.some.injEq,Prod.mk.injEq] at e2
       exact absurd e2.1.symm (kN.inj i' i _ _ (by rw [h3];simp) (by rw [h1];simp) e Bc.μ hB.μ)
 refine hR e ⟨bK (iZ n π κ) s0.t, σ',n+s0.n⟩ E' w' a' ⟨s0,hq,rfl,rfl,abZ,OX⟩ ⟨⟨⟨hold,had.step.ok,had.step.same⟩,had.os,had.tape,had.output,had.size,had.block,had.Si⟩,fun j hj=>mX fun i hi e=>hj ?_⟩ ⟨aK.cG hμ (fun b hb=>hb) _ _ ahB,ahC,fun j hj hq' => ?_,abY⟩
 . rcases C5 hi with rfl | ⟨l,q,rfl⟩
   . rw [<- e];exact List.suffix_refl _
   . rw [jQ] at e;rw [<- e];exact ⟨l++[n+q],by simp⟩
 . by_cases hex:∃ i,[0] <:+ i/\iZ n π κ i=j
   . obtain ⟨i,On,rfl⟩:=hex
     refine (xj On).trans (HJ i On fun q Vn hs=>hq' (n+q) (by show n+q<n+s0.n;omega) ?_)
     obtain ⟨t,rfl⟩:=hs
     rw [jQ];exact ⟨t,rfl⟩
   . refine (mX fun i hi e=>hex ⟨i,hi,e⟩).trans (lr j hj fun q Vn=>hq' q (Nat.lt_of_lt_of_le Vn (Nat.le_add_right _ _)))
theorem Fv {ρ : Id->Id} {agg:Bool} {cs:List AV} {o n:Nat} {v:AV} (h:part agg cs o n=some v):part agg (bK ρ cs) o n=some (v.cG ρ):=by
 unfold part at h ⊢
 rw [e8]
 split at h
 . rename_i h1
   rw [if_pos h1]
   split at h
   . rename_i h2
     rw [if_pos h2]
     simp only [Option.some.injEq] at h
     subst h
     simp only [AV.cG,fW,List.map_take,List.map_drop]
   . rename_i h2
     rw [if_neg h2]
     split at h
     . rename_i h3;rw [if_pos h3,fW,List.getElem?_map,h];rfl
     . cases h
 . cases h
theorem LX {ρ : Id->Id} {σ0 σ : ae} (hs:LW ρ σ0 σ) {agg:Bool} {n:Nat} {x:AV} {r:dH} (h:jq σ0 agg n x=some r):∃ r',jq σ agg n (x.cG ρ)=some r'/\r'.val=r.val.cG ρ := by
 cases x<;>simp only [jq,reduceCtorEq] at h
 case ref id e o =>
   cases hb : σ0 id with
   | none=>rw [hb] at h;cases h
   | some bk =>
     rw [hb] at h
     simp only [] at h
     cases he:bk.els[e]? with
     | none=>rw [he] at h;cases h
     | some el =>
       rw [he] at h
       simp only [Option.map_eq_some_iff] at h
       obtain ⟨v,hv,rfl⟩:=h
       refine ⟨{ val:=v.cG ρ,rd:=[ρ id] }, ?_,rfl⟩
       have e1:(bk.cG ρ).els[e]? = some (el.cG ρ):=by
         show (bK ρ bk.els)[e]? = _
         rw [fW,List.getElem?_map,he];rfl
       simp only [AV.cG,jq,hs.1 id bk hb,e1,ru,Fv hv,Option.map_some]
 case ep cs o =>
   simp only [Option.map_eq_some_iff] at h
   obtain ⟨v,hv,rfl⟩:=h
   refine ⟨{ val:=v.cG ρ }, ?_,rfl⟩
   simp only [AV.cG,jq,Fv hv,Option.map_some]
theorem Fw {ρ : Id->Id} {t:List AV} {k:Nat}:(bK ρ t).getD k (.tup [])=(t.getD k (.tup [])).cG ρ := by
 rw [List.getD_eq_getElem?_getD,List.getD_eq_getElem?_getD,fW,List.getElem?_map]
 cases t[k]? <;> rfl
theorem LY {ρ : Id->Id} {s0 s:VS} (ht:s.t=bK ρ s0.t) (hs:LW ρ s0.σ s.σ) {x:n5} {v:AV} (h:fU s0 x=some v):fU s x=some (v.cG ρ):=by
 cases x with
 | tmp k=>simp only [fU,Option.some.injEq] at h ⊢;rw [ht,Fw,h]
 | cell k agg n =>
   simp only [fU,Option.map_eq_some_iff] at h ⊢
   obtain ⟨r,hr,rfl⟩:=h
   obtain ⟨r',h1,h2⟩:=LX hs hr
   exact ⟨r',by rw [ht,Fw];exact h1,h2⟩
theorem Fx {ρ : Id->Id} {s0 s:VS} (ht:s.t=bK ρ s0.t) (hs:LW ρ s0.σ s.σ):∀ {rs:List n5} {vs:List AV},rs.mapM (fU s0)=some vs->rs.mapM (fU s)=some (bK ρ vs)
 | [],vs,h=>by simp only [List.mapM_nil,Option.pure_def,Option.some.injEq] at h ⊢;subst h;rfl
 | x::rs,vs,h=>by
   simp only [List.mapM_cons,Option.bind_eq_bind,Option.bind_eq_some_iff,Option.pure_def,Option.some.injEq] at h ⊢
   obtain ⟨v,hv,vs',Hq,rfl⟩:=h
   exact ⟨_,LY ht hs hv,_,Fx ht hs Hq,rfl⟩
theorem LZ {ρ : Id->Id} {s0 s:VS} (ht:s.t=bK ρ s0.t) (hs:LW ρ s0.σ s.σ) {rs:List n5} {v:AV} (h:dU rs s0=some v):dU rs s=some (v.cG ρ):=by
 unfold dU at h ⊢
 cases hm:rs.mapM (fU s0) with
 | none=>rw [hm] at h;cases h
 | some vs =>
   rw [hm] at h
   rw [Fx ht hs hm]
   match vs,h with
   | [],h=>simp only [Option.some.injEq] at h;subst h;rfl
   | [v],h=>simp only [Option.some.injEq] at h;subst h;rfl
   | v::v'::vs,h=>simp only [Option.some.injEq] at h;subst h;rfl
end
end Go.VL
end

section
namespace Go.VL
abbrev bX:=List (Id × Option cN)
def L0:Id->Id->Bool
 | [],[]=>true
 | a::ar,b::bs=>Nat.beq a b&&L0 ar bs
 | _,_=>false
theorem mY:∀ {a b:Id},L0 a b=true↔a=b
 | [],[]=>by simp [L0]
 | a::ar,b::bs=>by simp only [L0,Bool.and_eq_true,Nat.beq_eq,mY (a:=ar),List.cons.injEq]
 | [],_::_=>by simp [L0]
 | _::_,[]=>by simp [L0]
def bX.find:bX->Id->Option cN
 | [],_=>none
 | (j,b)::S,i=>match L0 i j with
   | true=>b
   | false=>bX.find S i
def bX.to (S:bX):ae:=fun i=>S.find i
def bX.app (S:bX):List (Id × Option cN)->bX
 | []=>S
 | x::up=>bX.app (x::S) up
theorem bX.XC (i:Id) (b:Option cN) (S:bX):bX.to ((i,b)::S)=S.to.put i b:=by
 funext j
 show bX.find _ j=_
 simp only [bX.find,ae.put]
 cases h:L0 j i with
 | true=>rw [if_pos (mY.1 h)]
 | false=>rw [if_neg (fun e=>by rw [mY.2 e] at h;cases h)];rfl
theorem bX.HK:∀ (up:List (Id × Option cN)) (S:bX),(S.app up).to=S.to.app up
 | [],_=>rfl
 | (i,b)::up,S=>by simp only [bX.app,ae.app,bX.HK up,bX.XC]
inductive Hint (P:Program) (G:Nat->Option (List AV)) where
 | ev (k:Nat) (o:Option dH) (r:dH) (h:o=some r)
 | eq (k:Nat) (a b:AV) (h:a=b)
 | br (k:Nat) (x b:Bool) (h:x=b)
 | st (k:Nat) (S:List (Id × cN)) (op:eL AV) (r:Id->dH) (h:∀ σ p,(∀ x∈S, σ x.1=some x.2)->bu σ p op=some (r p))
 | vp (f:FuncId) (args:List AV) (r:AV) (h:VP P G f args r) (hp:∀ c∈args,af c)
 | rel (f:FuncId) (args:List AV) (S:List (Id × cN)) (r:Id->dH) (h:∀ p,(∀ x∈S, ¬ p <:+ x.1)->aw P G f args p S (r p)) (hr:∀ p,∀ x∈S,x.1∈(r p).rd)
 | lp (π : Id) (c:bJ) (t0:List AV) (S0:List (Id × cN)) (n0:Nat) (e:bP) (t1:List AV) (S1:bX) (n1:Nat) (h:VW P G π (.loop c) (fun e' s'=>e'=e/\Wk G π s' ⟨t1,S1.to,n1⟩) ⟨t0,ae.of S0,n0⟩)
inductive Hs where
 | ev (o:Option dH)
 | val (a:AV)
 | op (o:eL AV) (S:List (Option cN))
 | call (f:FuncId) (args:List AV) (S:List (Option cN))
 | lp (π : Id) (c:bJ) (t:List AV) (S:List (Option cN))
def OY:Id->Id->Bool
 | p,[]=>L0 p []
 | p,a::ar=>L0 p (a::ar)||OY p ar
theorem Fy {p:Id}:∀ {i:Id},OY p i=false -> ¬ p <:+ i
 | [],h=>by
   simp only [OY] at h
   intro hs
   have:p=[]:=List.suffix_nil.1 hs
   rw [mY.2 this] at h;cases h
 | a::ar,h=>by
   simp only [OY,Bool.or_eq_false_iff] at h
   intro hs
   rcases List.suffix_cons_iff.1 hs with e | e
   . rw [mY.2 e] at h;cases h.1
   . exact Fy h.2 e
structure TS where
 t:List AV
 S:bX
 n:Nat
def TS.to (s:TS):VS:=⟨s.t,s.S.to,s.n⟩
def zk:List AV->List AV->List AV
 | c::cs,d::ds=>(match d with | .top => .top | _=>c)::zk cs ds
 | cs,_=>cs
theorem zl:∀ {cs ds:List AV},zk cs ds=ds->Fg cs ds
 | [],[],_=>trivial
 | c::cs,d::ds,h=>by
   simp only [zk,List.cons.injEq] at h
   refine ⟨?_,zl h.2⟩
   cases d<;>simp_all
 | [],_::_,h=>by simp [zk] at h
 | _::_,[],h=>by simp [zk] at h
def keyOf (o:bc):Nat:=match o.dst with
 | some d=>d
 | none=>match o.op with
   | .store _ (.t x) _=>x+100000
   | _=>0
def uI (a b:List Id):Bool:=a.all fun i => !b.any fun j=>L0 i j
def J0 (a b:dH):Bool:=uI (a.up.map (·.1)) b.rd&&uI (a.up.map (·.1)) (b.up.map (·.1))&&uI (b.up.map (·.1)) a.rd
def td (rs:List dH) (ps:List (Nat × Nat)):Bool:=ps.all fun q=>match rs[q.1]?,rs[q.2]? with
 | some a,some b=>J0 a b
 | _,_=>true
theorem py {a b:List Id} (h:uI a b=true) {i:Id} (hi:i∈a):i ∉ b:=by
 simp only [uI,List.all_eq_true,Bool.not_eq_true',List.any_eq_false] at h
 exact fun hj=>h i hi i hj (mY.2 rfl)
theorem xN {rs:List dH} {ps:List (Nat × Nat)} (h:td rs ps=true):aB rs ps:=by
 intro q hq a b ha hb
 simp only [td,List.all_eq_true] at h
 have:=h q hq
 rw [ha,hb] at this
 simp only [J0,Bool.and_eq_true] at this
 obtain ⟨⟨h1,h2⟩,h3⟩:=this
 exact ⟨fun x hx=>⟨py h1 (List.mem_map.2 ⟨x,hx,rfl⟩),py h2 (List.mem_map.2 ⟨x,hx,rfl⟩)⟩,fun x hx=>py h3 (List.mem_map.2 ⟨x,hx,rfl⟩)⟩
abbrev HL:=List (Hs × Hs)
section
variable {P:Program} {G:Nat->Option (List AV)}
def sK (S:bX) (p:Id) (op:eL AV) (hs:List (Hint P G)):Option (HL × List (Hint P G) × dH):=match bu S.to p op with
 | some r=>some ([],hs,r)
 | none=>none
def OZ (S:bX) (p:Id) (k:Nat) (op:eL AV) (hs:List (Hint P G)):Option (HL × List (Hint P G) × dH) :=
 match op with
 | .call f ar=>match f with
   | .fn (.func g) first cap=>match hs with
     | .vp f' iL r _ _::dP=>some ([(.call g (first++ar++cap) [], .call f' iL [])],dP,{ val:=r })
     | .rel f' iL S' r _ _::dP=>match S'.all fun x => !OY p x.1 with
       | true=>some ([(.call g (first++ar++cap) (S'.map fun x=>S.find x.1), .call f' iL (S'.map fun x=>some x.2))],dP,r p)
       | false=>none
     | _=>none
   | _=>none
 | op=>match hs with
   | .ev k' o r _::dP=>match Nat.beq k' k with
     | true=>some ([(.ev (bu S.to p op), .ev o)],dP,r)
     | false=>sK S p op hs
   | .eq k' a b _::dP=>match Nat.beq k' k with
     | true=>match bu S.to p op with
       | some r=>some ([(.val r.val, .val a)],dP,{ r with val:=b })
       | none=>none
     | false=>sK S p op hs
   | .st k' S' op' r _::dP=>match Nat.beq k' k with
     | true=>some ([(.op op (S'.map fun x=>S.find x.1), .op op' (S'.map fun x=>some x.2))],dP,r p)
     | false=>sK S p op hs
   | _=>sK S p op hs
def C6 (π : Id) (base:Nat):List bc->Nat->List dH->List AV->bX->List (Hint P G)->Option (HL × List (Hint P G) × List dH × List AV × bX)
 | [],_,acc,t,S,hs=>some ([],hs,acc,t,S)
 | o :: os,i,acc,t,S,hs=>match dL t o.guard with
   | none=>none
   | some false=>C6 π base os (i+1) ({ val := .tup [] }::acc) (e9 t o.dst (.tup [])) S hs
   | some true=>match OZ S ((base+i) :: π) (keyOf o) (o.op.map (aI.ev G t)) hs with
     | none=>none
     | some (c,dP,r)=>match C6 π base os (i+1) (r::acc) (e9 t o.dst r.val) (S.app r.up) dP with
       | none=>none
       | some (cs,x)=>some (c++cs,x)
def ab0:aI->Nat
 | .t k=>k
 | _=>0
def gv : Bool->Nat->bJ->Id->List (Hint P G)->TS->Option (HL × List (Hint P G) × bP × TS)
 | _,0,_,_,_,_=>none
 | z,m+1,c, π,hs,s=>match c with
   | .skip=>some ([],hs, .normal,s)
   | .ret=>some ([],hs, .ret,s)
   | .exit i=>some ([],hs, .exit i,s)
   | .seq a b=>match gv true m a π hs s with
     | some (cs,dP, .normal,s')=>match gv true m b π dP s' with
       | some (ub,x)=>some (cs++ub,x)
       | none=>none
     | r=>r
   | .cond c a b=>match hs with
     | .br k x v _::dP=>match Nat.beq k (ab0 c) with
       | true=>match gv true m (match v with | true=>a | false=>b) π dP s with
         | some (cs,y)=>some ((.val (c.ev G s.t), .val (.bool x))::cs,y)
         | none=>none
       | false=>match c.ev G s.t with
         | .bool true=>gv true m a π hs s
         | .bool false=>gv true m b π hs s
         | _=>none
     | _=>match c.ev G s.t with
       | .bool true=>gv true m a π hs s
       | .bool false=>gv true m b π hs s
       | _=>none
   | .block i c=>match gv true m c π hs s with
     | some (cs,dP, .exit j,s')=>match Nat.beq j i with
       | true=>some (cs,dP, .normal,s')
       | false=>some (cs,dP, .exit j,s')
     | r=>r
   | .loop c=>match z,hs with
     | true, .lp π' c' t0 S0 n0 e t1 S1 n1 _::dP=>match Nat.ble s.n n0 with
       | true=>some ([(.lp π c (zk s.t t0) (S0.map fun x=>s.S.find x.1), .lp π' c' t0 (S0.map fun x=>some x.2))],dP,e,⟨t1,S1,n1⟩)
       | false=>none
     | _,_=>match gv true m c π hs s with
       | some (cs,dP, .normal,s')=>match gv false m (.loop c) π dP s' with
         | some (ub,x)=>some (cs++ub,x)
         | none=>none
       | r=>r
   | .reg ps os=>match C6 π s.n os 0 [] s.t s.S hs with
     | none=>none
     | some (cs,dP,rs,t,S)=>match ps with
       | none=>some (cs,dP, .normal,⟨t,S,s.n+os.length⟩)
       | some ps=>match td rs.reverse ps with
         | true=>some (cs,dP, .normal,⟨t,S,s.n+os.length⟩)
         | false=>none
def mH (cs:HL):Prop:=∀ x∈cs,x.1=x.2
theorem mH.of_map {cs:HL} (h:cs.map (·.1)=cs.map (·.2)):mH cs:=by
 intro x hx
 obtain ⟨i,hi⟩:=List.getElem?_of_mem hx
 have:=congrArg (·[i]?) h
 simpa [List.getElem?_map,hi] using this
theorem mH.left {a b:HL} (h:mH (a++b)):mH a:=fun x hx=>h x (List.mem_append_left _ hx)
theorem mH.right {a b:HL} (h:mH (a++b)):mH b:=fun x hx=>h x (List.mem_append_right _ hx)
theorem jR {S:bX} {S':List (Id × cN)} (h:(S'.map fun x=>S.find x.1)=S'.map fun x=>some x.2):∀ x∈S',S.to x.1=some x.2:=by
 intro x hx
 obtain ⟨i,hi⟩:=List.getElem?_of_mem hx
 have:=congrArg (·[i]?) h
 have e:S.find x.1=some x.2:=by simpa [List.getElem?_map,hi] using this
 exact e
theorem xk {S:bX} {p:Id} {k:Nat} {op:eL AV} {hs dP:List (Hint P G)} {cs:HL} {r:dH} (h:OZ S p k op hs=some (cs,dP,r)) (hc:mH cs) {K:dH->Prop} (hK:K r):qA P G S.to p op K:=by
 have auto:∀ {cs dP},sK S p op hs=some (cs,dP,r)->op.nD=false->qA P G S.to p op K:=by
   intro cs dP h Ar
   unfold sK at h
   rw [n9 Ar]
   split at h
   . rename_i r' hr;simp only [Option.some.injEq,Prod.mk.injEq] at h;obtain ⟨_,_,rfl⟩:=h;rw [hr];exact hK
   . cases h
 have other:∀ {cs dP},op.nD=false->mH cs->(match hs with
   | .ev k' o r _::dP=>match Nat.beq k' k with
     | true=>some ([((Hs.ev (bu S.to p op)), .ev o)],dP,r)
     | false=>sK S p op hs
   | .eq k' a b _::dP=>match Nat.beq k' k with
     | true=>match bu S.to p op with
       | some r=>some ([(.val r.val, .val a)],dP,{ r with val:=b })
       | none=>none
     | false=>sK S p op hs
   | .st k' S' op' r _::dP=>match Nat.beq k' k with
     | true=>some ([(.op op (S'.map fun x=>S.find x.1), .op op' (S'.map fun x=>some x.2))],dP,r p)
     | false=>sK S p op hs
   | _=>sK S p op hs)=some (cs,dP,r)->qA P G S.to p op K:=by
   intro cs dP Ar hc h
   cases hs with
   | nil=>exact auto h Ar
   | cons x gW =>
     cases x with
     | ev k' o r' ho =>
       simp only [] at h
       split at h
       . simp only [Option.some.injEq,Prod.mk.injEq] at h
         obtain ⟨rfl,_,rfl⟩:=h
         have:=hc _ (List.mem_singleton.2 rfl)
         simp only [Hs.ev.injEq] at this
         rw [n9 Ar,this,ho];exact hK
       . exact auto h Ar
     | eq k' a b xl =>
       simp only [] at h
       split at h
       . split at h
         . rename_i r' hr
           simp only [Option.some.injEq,Prod.mk.injEq] at h
           obtain ⟨rfl,_,rfl⟩:=h
           have:=hc _ (List.mem_singleton.2 rfl)
           simp only [Hs.val.injEq] at this
           rw [n9 Ar,hr]
           have e:{ r' with val:=b }=r':=by rw [<- xl, <- this]
           rw [e] at hK;exact hK
         . cases h
       . exact auto h Ar
     | st k' S' op' r' ho =>
       simp only [] at h
       split at h
       . simp only [Option.some.injEq,Prod.mk.injEq] at h
         obtain ⟨rfl,_,rfl⟩:=h
         have:=hc _ (List.mem_singleton.2 rfl)
         simp only [Hs.op.injEq] at this
         rw [n9 Ar,this.1,ho _ _ (jR this.2)];exact hK
       . exact auto h Ar
     | _=>exact auto h Ar
 cases op with
 | call f ar =>
   simp only [OZ] at h
   simp only [qA]
   split at h
   . cases hs with
     | nil=>cases h
     | cons x gW =>
       cases x with
       | vp f' iL r' hv hp =>
         simp only [Option.some.injEq,Prod.mk.injEq] at h
         obtain ⟨rfl,_,rfl⟩:=h
         have:=hc _ (List.mem_singleton.2 rfl)
         simp only [Hs.call.injEq,and_true] at this
         obtain ⟨rfl,e⟩:=this
         exact ⟨[],_,e▸aw.Je hv hp p,by simp,by simp,hK⟩
       | rel f' iL S' r' hv hr =>
         simp only [] at h
         split at h
         . rename_i hsf
           simp only [Option.some.injEq,Prod.mk.injEq] at h
           obtain ⟨rfl,_,rfl⟩:=h
           have:=hc _ (List.mem_singleton.2 rfl)
           simp only [Hs.call.injEq] at this
           obtain ⟨rfl,e,e2⟩:=this
           refine ⟨S',_,e▸hv p fun x hx=>Fy ?_,jR e2,hr p,hK⟩
           have:=List.all_eq_true.1 hsf x hx
           simpa using this
         . cases h
       | _=>cases h
   . cases h
 | _=>exact other rfl hc h
theorem zn {π : Id} {base:Nat} {rs:List dH} {t':List AV} {S':bX} {dP:List (Hint P G)} {K:List dH->List AV->ae->Prop} (hK:K rs.reverse t' S'.to) :
   ∀ (os:List bc) (i:Nat) (acc:List dH) (t:List AV) (S:bX) (hs:List (Hint P G)) (cs:HL),C6 π base os i acc t S hs=some (cs,dP,rs,t',S')->mH cs->uj P G π base K os i acc t S.to
 | [],i,acc,t,S,hs,cs,h,_=>by
   simp only [C6,Option.some.injEq,Prod.mk.injEq] at h
   obtain ⟨_,_,rfl,rfl,rfl⟩:=h
   exact hK
 | o :: os,i,acc,t,S,hs,cs,h,hc=>by
   simp only [C6] at h
   simp only [uj]
   split at h
   . cases h
   . rename_i hw;rw [hw];exact zn hK os _ _ _ _ _ _ h hc
   . rename_i hw
     rw [hw]
     split at h
     . cases h
     . rename_i c gW r hr
       split at h
       . cases h
       . rename_i cs1 x hx
         simp only [Option.some.injEq,Prod.mk.injEq] at h
         obtain ⟨rfl,rfl⟩:=h
         have:=zn hK os _ _ _ _ _ _ hx hc.right
         rw [bX.HK] at this
         exact xk hr hc.left this
theorem zo {π : Id} {base:Nat} {rs:List dH} {t':List AV} {S':bX} {dP:List (Hint P G)} {K:List AV->ae->Prop} (hK:K t' S'.to) :
   ∀ (os:List bc) (i:Nat) (acc:List dH) (t:List AV) (S:bX) (hs:List (Hint P G)) (cs:HL),C6 π base os i acc t S hs=some (cs,dP,rs,t',S')->mH cs->ui P G π base K os i t S.to
 | [],i,acc,t,S,hs,cs,h,_=>by
   simp only [C6,Option.some.injEq,Prod.mk.injEq] at h
   obtain ⟨_,_,rfl,rfl,rfl⟩:=h
   exact hK
 | o :: os,i,acc,t,S,hs,cs,h,hc=>by
   simp only [C6] at h
   simp only [ui]
   split at h
   . cases h
   . rename_i hw;rw [hw];exact zo hK os _ _ _ _ _ _ h hc
   . rename_i hw
     rw [hw]
     split at h
     . cases h
     . rename_i c gW r hr
       split at h
       . cases h
       . rename_i cs1 x hx
         simp only [Option.some.injEq,Prod.mk.injEq] at h
         obtain ⟨rfl,rfl⟩:=h
         have:=zo hK os _ _ _ _ _ _ hx hc.right
         rw [bX.HK] at this
         exact xk hr hc.left this
theorem xm {c:bJ} {π : Id}:∀ (m:Nat),(∀ m'<m,∀ (hs dP:List (Hint P G)) cs s s' e,gv true m' c π hs s=some (cs,dP,e,s')->mH cs->VW P G π c (fun e' s2=>e'=e/\s2=s'.to) s.to) ->
   ∀ (hs dP:List (Hint P G)) cs s s' e,gv false m (.loop c) π hs s=some (cs,dP,e,s')->mH cs->∃ n,s9 P G π c (fun e' s2=>e'=e/\s2=s'.to) n s.to
 | 0,_,_,_,_,_,_,_,h,_=>by simp [gv] at h
 | m + 1,hb,hs,dP,cs,s,s',e,h,hc=>by
   simp only [gv] at h
   split at h
   . rename_i c1 gW s1 h1
     split at h
     . rename_i c2 x h2
       simp only [Option.some.injEq,Prod.mk.injEq] at h
       obtain ⟨rfl,rfl⟩:=h
       obtain ⟨n,hn⟩:=xm m (fun m' hm=>hb m' (by omega)) gW dP c2 s1 s' e h2 hc.right
       refine ⟨n+1,(hb m (by omega) hs gW c1 s s1 _ h1 hc.left).mono fun e' s2 hq => ?_⟩
       obtain ⟨rfl,rfl⟩:=hq
       exact hn
     . cases h
   . rename_i h1
     refine ⟨1,(hb m (by omega) hs dP cs s s' e h hc).mono fun e' s2 hq => ?_⟩
     obtain ⟨rfl,rfl⟩:=hq
     cases e' with
     | normal=>exact absurd h (h1 _ _ _)
     | exit i=>exact ⟨rfl,rfl⟩
     | ret=>exact ⟨rfl,rfl⟩
theorem VW.post {vc:bJ} {π : Id} {Q:bP->VS->Prop} {s:VS} (h:VW P G π vc (fun e s'=>∃ s1,Q e s1/\Wk G π s' s1) s):VW P G π vc Q s:=by
 intro c hc own E w a R hm hR
 refine h c hc own E w a R hm fun e s' E' w' a' hq had mG => ?_
 obtain ⟨s1,h1,h2⟩:=hq
 obtain ⟨E1,a1,m1⟩:=h2 own E' w' a' mG
 exact hR e s1 E1 w' a' h1 (had.trans a1) m1
theorem dx : ∀ (m:Nat) (c:bJ) (π : Id) (hs dP:List (Hint P G)) (cs:HL) (s s':TS) (e:bP),gv true m c π hs s=some (cs,dP,e,s')->mH cs->VW P G π c (fun e' s2=>e'=e/\s2=s'.to) s.to
 | 0,_,_,_,_,_,_,_,_,h,_=>by simp [gv] at h
 | m + 1, c, π,hs,dP,cs,s,s',e,h,hc=>by
   have cnd:∀ {hs dP:List (Hint P G)} {cs:HL} {a b:bJ} {x:aI},(match x.ev G s.t with
       | .bool true=>gv true m a π hs s
       | .bool false=>gv true m b π hs s
       | _=>none)=some (cs,dP,e,s')->mH cs->VW P G π (.cond x a b) (fun e' s2=>e'=e/\s2=s'.to) s.to:=by
     intro hs dP cs a b x h hc
     split at h
     . rename_i hb;exact VW.cond hb (by simpa using dx m a π _ _ _ s s' e h hc)
     . rename_i hb;exact VW.cond hb (by simpa using dx m b π _ _ _ s s' e h hc)
     . cases h
   cases c with
   | skip=>simp only [gv,Option.some.injEq,Prod.mk.injEq] at h;obtain ⟨_,_,rfl,rfl⟩:=h;exact VW.skip ⟨rfl,rfl⟩
   | ret=>simp only [gv,Option.some.injEq,Prod.mk.injEq] at h;obtain ⟨_,_,rfl,rfl⟩:=h;exact VW.ret ⟨rfl,rfl⟩
   | exit i=>simp only [gv,Option.some.injEq,Prod.mk.injEq] at h;obtain ⟨_,_,rfl,rfl⟩:=h;exact VW.exit ⟨rfl,rfl⟩
   | seq a b =>
     simp only [gv] at h
     refine VW.seq ?_
     split at h
     . rename_i c1 gW s1 h1
       split at h
       . rename_i c2 x h2
         simp only [Option.some.injEq,Prod.mk.injEq] at h
         obtain ⟨rfl,rfl⟩:=h
         refine (dx m a π _ _ _ s s1 _ h1 hc.left).mono fun e' s2 hq => ?_
         obtain ⟨rfl,rfl⟩:=hq
         exact dx m b π _ _ _ s1 s' e h2 hc.right
       . cases h
     . rename_i h1
       refine (dx m a π _ _ _ s s' e h hc).mono fun e' s2 hq => ?_
       obtain ⟨rfl,rfl⟩:=hq
       cases e' with
       | normal=>exact absurd h (h1 _ _ _)
       | exit i=>exact ⟨rfl,rfl⟩
       | ret=>exact ⟨rfl,rfl⟩
   | cond x a b =>
     simp only [gv] at h
     cases hs with
     | nil=>exact cnd h hc
     | cons y gW =>
       cases y with
       | br k y v hv =>
         simp only [] at h
         split at h
         . split at h
           . rename_i c1 y1 h1
             simp only [Option.some.injEq,Prod.mk.injEq] at h
             obtain ⟨rfl,rfl⟩:=h
             have h2:=hc _ (List.mem_cons_self ..)
             simp only [Hs.val.injEq] at h2
             have hc':mH c1:=fun z hz=>hc z (List.mem_cons_of_mem _ hz)
             refine VW.cond (b:=v) (by rw [<- hv];exact h2) ?_
             cases v with
             | true=>simpa using dx m a π _ _ _ s s' e h1 hc'
             | false=>simpa using dx m b π _ _ _ s s' e h1 hc'
           . cases h
         . exact cnd h hc
       | _=>exact cnd h hc
   | block i c =>
     simp only [gv] at h
     refine VW.block ?_
     split at h
     . rename_i c1 gW j s1 h1
       split at h
       . rename_i hj
         simp only [Option.some.injEq,Prod.mk.injEq] at h
         obtain ⟨rfl,rfl,rfl,rfl⟩:=h
         refine (dx m c π _ _ _ s _ _ h1 hc).mono fun e' s2 hq => ?_
         obtain ⟨rfl,rfl⟩:=hq
         simp [Nat.beq_eq▸hj]
       . rename_i hj
         simp only [Option.some.injEq,Prod.mk.injEq] at h
         obtain ⟨rfl,rfl,rfl,rfl⟩:=h
         refine (dx m c π _ _ _ s _ _ h1 hc).mono fun e' s2 hq => ?_
         obtain ⟨rfl,rfl⟩:=hq
         have : ¬ j=i:=fun e=>by rw [e,Nat.beq_refl] at hj;cases hj
         simp [this]
     . rename_i h1
       refine (dx m c π _ _ _ s s' e h hc).mono fun e' s2 hq => ?_
       obtain ⟨rfl,rfl⟩:=hq
       cases e' with
       | normal=>exact ⟨rfl,rfl⟩
       | exit i=>exact absurd h (h1 _ _ _ _)
       | ret=>exact ⟨rfl,rfl⟩
   | loop c =>
     have plain:∀ {h1':(match gv true m c π hs s with
       | some (cs,dP, .normal,s')=>match gv false m (.loop c) π dP s' with
         | some (ub,x)=>some (cs++ub,x)
         | none=>none
       | r=>r)=some (cs,dP,e,s')},VW P G π (.loop c) (fun e' s2=>e'=e/\s2=s'.to) s.to:=by
       intro h
       split at h
       . rename_i c1 gW s1 h1
         split at h
         . rename_i c2 x h2
           simp only [Option.some.injEq,Prod.mk.injEq] at h
           obtain ⟨rfl,rfl⟩:=h
           obtain ⟨n,hn⟩:=xm m (fun m' hm hs dP cs s s' e hr hc=>dx m' c π hs dP cs s s' e hr hc) gW dP c2 s1 s' e h2 hc.right
           refine VW.rounds (n+1) ((dx m c π hs gW c1 s s1 _ h1 hc.left).mono fun e' s2 hq => ?_)
           obtain ⟨rfl,rfl⟩:=hq
           exact hn
         . cases h
       . rename_i h1
         refine VW.rounds 1 ((dx m c π hs dP cs s s' e h hc).mono fun e' s2 hq => ?_)
         obtain ⟨rfl,rfl⟩:=hq
         cases e' with
         | normal=>exact absurd h (h1 _ _ _)
         | exit i=>exact ⟨rfl,rfl⟩
         | ret=>exact ⟨rfl,rfl⟩
     cases hs with
     | nil=>simp only [gv] at h;exact plain (h1':=h)
     | cons y gW =>
     cases y with
     | lp π' c' t0 S0 n0 e1 t1 S1 n1 hv =>
       simp only [gv] at h
       split at h
       . rename_i hn
         simp only [Option.some.injEq,Prod.mk.injEq] at h
         obtain ⟨rfl,_,rfl,rfl⟩:=h
         have h2:=hc _ (List.mem_singleton.2 rfl)
         simp only [Hs.lp.injEq] at h2
         obtain ⟨rfl,rfl,h3,h4⟩:=h2
         exact VW.wk (Wk.forget (zl h3) (fun i=>ae.y7 (jR h4) i) (Nat.le_of_ble_eq_true hn)) (VW.post (hv.mono fun e' s2 hq=>⟨_,⟨hq.1,rfl⟩,hq.2⟩))
       . cases h
     | _=>simp only [gv] at h;exact plain (h1':=h)
   | reg ps os =>
     simp only [gv] at h
     split at h
     . cases h
     . rename_i c1 gW rs t S h1
       cases ps with
       | none =>
         simp only [Option.some.injEq,Prod.mk.injEq] at h
         obtain ⟨rfl,rfl,rfl,rfl⟩:=h
         exact VW.Ol (zo ⟨rfl,rfl⟩ os _ _ _ _ _ _ h1 hc)
       | some ps =>
         simp only [] at h
         split at h
         . rename_i hap
           simp only [Option.some.injEq,Prod.mk.injEq] at h
           obtain ⟨rfl,rfl,rfl,rfl⟩:=h
           exact VW.Om (zn ⟨xN hap,rfl,rfl⟩ os _ _ _ _ _ _ h1 hc)
         . cases h
 termination_by m=>m
end
end Go.VL
end

section
namespace Go.VL
class PU (c:AV):Prop where
 pure:af c
 fix:∀ ρ,c.cG ρ = c
class nE (l:List AV):Prop where
 pure:∀ c∈l,af c
 fix:∀ ρ,bK ρ l=l
instance:nE []:=⟨by simp,fun _=>rfl⟩
instance {c:AV} {l:List AV} [h:PU c] [k:nE l]:nE (c::l):=⟨by intro d hd;rcases List.mem_cons.1 hd with rfl | hd;exact h.pure;exact k.pure d hd,fun ρ => by simp only [bK,h.fix,k.fix]⟩
instance {b:Bool}:PU (.bool b):=⟨af.bool b,fun _=>rfl⟩
instance {k:IntKind} {n:Int}:PU (.int k n):=⟨af.int k n,fun _=>rfl⟩
instance {l:List UInt8}:PU (.str l):=⟨af.str l,fun _=>rfl⟩
instance:PU .nils:=⟨af.nils,fun _=>rfl⟩
instance:PU .nilp:=⟨af.nilp,fun _=>rfl⟩
instance:PU .nilf:=⟨af.nilf,fun _=>rfl⟩
instance {l:List AV} [h:nE l]:PU (.agg l):=⟨af.agg h.pure,fun ρ => by simp only [AV.cG,h.fix]⟩
instance {l:List AV} [h:nE l]:PU (.tup l):=⟨af.tup h.pure,fun ρ => by simp only [AV.cG,h.fix]⟩
instance {l:List AV} {o:Nat} [h:nE l]:PU (.ep l o):=⟨af.ep h.pure,fun ρ => by simp only [AV.cG,h.fix]⟩
instance {f:Fn} {a c:List AV} [h:nE a] [k:nE c]:PU (.fn f a c):=⟨af.fn h.pure k.pure,fun ρ => by simp only [AV.cG,h.fix,k.fix]⟩
theorem PU.slice {k:Nat} {l:List AV} (h:∀ c∈flat l,af c) (hf:∀ c∈l,∀ ρ,c.cG ρ = c):PU (.sl k l):=⟨af.sl h,fun ρ => by
 have e:bK ρ l=l:=by rw [fW];exact (List.map_congr_left fun c hc=>hf c hc ρ).trans (List.map_id l)
 simp only [AV.cG,e]⟩
instance {k:Nat}:PU (.sl k []):=PU.slice (by simp [flat]) (by simp)
section
variable {P:Program} {G:Nat->Option (List AV)}
def hc {f:FuncId} {args:List AV} {r:AV} (h:VP P G f args r) [p:nE args]:Hint P G := .vp f args r h p.pure
def hb (k:Nat) {x b:Bool} (h:x=b):Hint P G := .eq k (.bool x) (.bool b) (by rw [h])
def hw (k:Nat) {x y:Int} (h:x=y) (i:IntKind := .i64):Hint P G := .eq k (.int i x) (.int i y) (by rw [h])
def hv (k:Nat) {a b:AV} (h:a=b):Hint P G := .eq k a b h
def ho (k:Nat) {o:Option AV} {v:AV} (h:o=some v):Hint P G := .ev k (bd o) { val:=v } (by rw [h];rfl)
def hbr (k:Nat) {x b:Bool} (h:x=b):Hint P G := .br k x b h
abbrev HM (P:Program) (G:Nat->Option (List AV)):=Option (HL × List (Hint P G) × bP × TS)
def J1:bP->Bool
 | .normal=>true
 | .ret=>true
 | _=>false
def J2 (rs:List n5):HM P G->Option (List Hs × Bool × Option AV)
 | some (cs,_,e,s)=>some (cs.map (·.1),J1 e,dU rs s.to)
 | none=>none
def J3 (r:AV):HM P G->Option (List Hs × Bool × Option AV)
 | some (cs,_,_,_)=>some (cs.map (·.2),true,some r)
 | none=>some ([],true,none)
theorem te {e:bP} (h:J1 e=true):e = .normal∨e = .ret:=by cases e<;>simp [J1] at h ⊢
abbrev Fz (vf:bp) (args:List AV) (hs:List (Hint P G)):HM P G:=gv true 1000 vf.body [] hs ⟨args++List.replicate (vf.nt-args.length) (.tup []),[],0⟩
theorem VP.tr {f:FuncId} {vf:bp} (h:Has P f vf) (hs:List (Hint P G)) {args:List AV} {r:AV} [hp:PU r] (hr:J2 vf.results (Fz vf args hs)=J3 r (Fz vf args hs):=by kernel_rfl):VP P G f args r:=by
 obtain ⟨fn,hf,hc⟩:=h
 refine VP.Oo hf hc ?_
 cases hx:Fz vf args hs with
 | none=>rw [hx] at hr;simp [J2,J3] at hr
 | some y =>
   obtain ⟨cs,dP,e,s⟩:=y
   rw [hx] at hr
   simp only [J2,J3,Option.some.injEq,Prod.mk.injEq] at hr
   refine (dx 1000 _ _ _ _ _ _ _ _ hx (mH.of_map hr.1)).mono fun e' s2 hq => ?_
   obtain ⟨rfl,rfl⟩:=hq
   exact ⟨te hr.2.1,r,hr.2.2,View.pure hp.pure⟩
def xq (rs:List n5) (K:List (Id × cN)):HM P G->Option (List Hs × Bool × Option AV × List (Option cN))
 | some (cs,_,e,s)=>some (cs.map (·.1),J1 e,dU rs s.to,K.map fun x=>s.S.find x.1)
 | none=>none
def xt (r:AV) (K:List (Id × cN)):HM P G->Option (List Hs × Bool × Option AV × List (Option cN))
 | some (cs,_,_,_)=>some (cs.map (·.2),true,some r,K.map fun x=>some x.2)
 | none=>some ([],true,none,[])
theorem VP.dm {f:FuncId} {vf:bp} (h:Has P f vf) (hs:List (Hint P G)) (K:List (Id × cN)) (r0:AV) {args:List AV} {r:AV} (hr:xq vf.results K (Fz vf args hs)=xt r0 K (Fz vf args hs))
   (hv:∀ σ : ae,(∀ x∈K, σ x.1=some x.2)->View σ r0 r):VP P G f args r:=by
 obtain ⟨fn,hf,hc⟩:=h
 refine VP.Oo hf hc ?_
 cases hx:Fz vf args hs with
 | none=>rw [hx] at hr;simp [xq,xt] at hr
 | some y =>
   obtain ⟨cs,dP,e,s⟩:=y
   rw [hx] at hr
   simp only [xq,xt,Option.some.injEq,Prod.mk.injEq] at hr
   refine (dx 1000 _ _ _ _ _ _ _ _ hx (mH.of_map hr.1)).mono fun e' s2 hq => ?_
   obtain ⟨rfl,rfl⟩:=hq
   exact ⟨te hr.2.1,r0,hr.2.2.1,hv _ (jR hr.2.2.2)⟩
def oa (ρ : Id->Id) (K:List (Id × cN)):List (Id × cN):=K.map fun x=>(ρ x.1,x.2.cG ρ)
def x9 (K:List (Id × cN)):bX:=K.map fun x=>(x.1,some x.2)
theorem uJ:∀ {K:List (Id × cN)} {i:Id} {b:cN},(x9 K).to i=some b->(i,b)∈K
 | [],_,_,h=>by cases h
 | (j,c)::K,i,b,h=>by
   have h':bX.find ((j,some c)::x9 K) i=some b:=h
   simp only [bX.find] at h'
   split at h'
   . rename_i he;simp only [Option.some.injEq] at h';subst h';rw [mY.1 he];simp
   . exact List.mem_cons_of_mem _ (uJ h')
theorem pz:∀ {S:List (Id × cN)} {x:Id × cN},(S.map (·.1)).Nodup->x∈S->ae.of S x.1=some x.2
 | [],x,_,hx=>by simp at hx
 | (j,c)::S,x,hnd,hx=>by
   simp only [List.map_cons,List.nodup_cons] at hnd
   rcases List.mem_cons.1 hx with rfl | hx
   . simp [ae.of]
   . have hne:x.1≠j:=fun e=>hnd.1 (List.mem_map.2 ⟨x,hx,e⟩)
     show List.lookup _ _=_
     rw [List.lookup_cons]
     have:(x.1==j)=false:=by simpa using hne
     rw [this]
     exact pz hnd.2 hx
theorem FA {ρ : Id->Id}:∀ {K:List (Id × cN)},((oa ρ K).map (·.1)).Nodup->∀ x∈K,∀ y∈K,x.1≠y.1 -> ρ x.1 ≠ ρ y.1
 | [],_,x,hx,_,_,_=>by simp at hx
 | z::K,h,x,hx,y,hy,hne=>by
   have h':((ρ z.1,z.2.cG ρ)::oa ρ K).map (·.1) |>.Nodup:=h
   simp only [List.map_cons,List.nodup_cons] at h'
   have hm:∀ w∈K, ρ w.1∈(oa ρ K).map (·.1):=fun w hw=>List.mem_map.2 ⟨(ρ w.1,w.2.cG ρ),List.mem_map.2 ⟨w,hw,rfl⟩,rfl⟩
   rcases List.mem_cons.1 hx with C4 | C4<;>rcases List.mem_cons.1 hy with I9 | I9
   . exact absurd (by rw [C4,I9]) hne
   . subst C4;exact fun e=>h'.1 (e▸hm y I9)
   . subst I9;exact fun e=>h'.1 (e▸hm x C4)
   . exact FA h'.2 x C4 y I9 hne
theorem VW.trR {vc:bJ} {π : Id} {n:Nat} {κ : Nat->Id} {hs dP:List (Hint P G)} {cs:HL} {t0:List AV} {S0:List (Id × cN)} {e:bP} {s:TS} (hr:gv true 1000 vc [0] hs ⟨t0,x9 S0,0⟩=some (cs,dP,e,s)) (hc:mH cs) (hd:((oa (iZ n π κ) S0).map (·.1)).Nodup) :
   VW P G π vc (fun e' s'=>e'=e/\s'.t=bK (iZ n π κ) s.t/\s'.n=n+s.n/\LW (iZ n π κ) s.S.to s'.σ) ⟨bK (iZ n π κ) t0,ae.of (oa (iZ n π κ) S0),n⟩:=by
 refine (VW.cG (κ := κ) (n:=n) (dx 1000 _ _ _ _ _ _ _ _ hr hc) (fun i b hb => ?_) fun i j hi hj hne => ?_).mono fun e' s' hq => ?_
 . exact pz hd (List.mem_map.2 ⟨(i,b),uJ hb,rfl⟩)
 . obtain ⟨b,hb⟩:=Option.ne_none_iff_exists'.1 hi
   obtain ⟨c,hc⟩:=Option.ne_none_iff_exists'.1 hj
   exact FA hd _ (uJ hb) _ (uJ hc) hne
 . obtain ⟨s0,⟨rfl,rfl⟩,h1,h2,h3⟩:=hq
   exact ⟨rfl,h1,h2,h3⟩
def rest (Sq S0:List (Id × cN)):List (Id × cN):=S0.filter fun x => !Sq.any fun y=>L0 y.1 x.1
theorem aw.tr {f:FuncId} {vf:bp} (h:Has P f vf) (κ : Nat->Id) {p:Id} (hs:List (Hint P G)) {args:List AV} {S up:List (Id × cN)} {val:AV} (kF:List AV) (S0:List (Id × cN)) (L1:AV) (Sq:List (Id × cN))
   (hr:xq vf.results (Sq++rest Sq S0) (gv true 1000 vf.body [0] hs ⟨kF++List.replicate (vf.nt-kF.length) (.tup []),x9 S0,0⟩)=xt L1 (Sq++rest Sq S0) (gv true 1000 vf.body [0] hs ⟨kF++List.replicate (vf.nt-kF.length) (.tup []),x9 S0,0⟩))
   (ha:bK (iZ 0 p κ) kF=args) (hS:oa (iZ 0 p κ) S0=S) (hv:L1.cG (iZ 0 p κ)=val) (hu:oa (iZ 0 p κ) Sq=up) (hd:(S.map (·.1)).Nodup) (pw:(up.map (·.1)).Nodup) :
   aw P G f args p S { val,rd:=S.map (·.1),up:=up.map fun x=>(x.1,some x.2) }:=by
 subst ha;subst hS;subst hv;subst hu
 obtain ⟨fn,hf,hcf⟩:=h
 cases hx:gv true 1000 vf.body [0] hs ⟨kF++List.replicate (vf.nt-kF.length) (.tup []),x9 S0,0⟩ with
 | none=>rw [hx] at hr;simp [xq,xt] at hr
 | some y =>
   obtain ⟨cs,dP,e,s⟩:=y
   rw [hx] at hr
   simp only [xq,xt,Option.some.injEq,Prod.mk.injEq] at hr
   obtain ⟨hk,he,ho,hK⟩:=hr
   have hK':=jR hK
   refine aw.U5 hf hcf ?_
   have e0:bK (iZ 0 p κ) kF++List.replicate (vf.nt-(bK (iZ 0 p κ) kF).length) (.tup [])=bK (iZ 0 p κ) (kF++List.replicate (vf.nt-kF.length) (.tup [])):=by
     rw [cW,e8]
     congr 1
     rw [fW,List.map_replicate];rfl
   rw [e0]
   refine (VW.trR (κ := κ) (n:=0) (π := p) hx (mH.of_map hk) hd).mono fun e' s' hq => ?_
   obtain ⟨rfl,h1,h2,h3⟩:=hq
   refine ⟨te he,_,LZ (s0:=s.to) h1 h3 ho,Fin.same rfl fun j => ?_⟩
   by_cases hj:∃ x∈(oa (iZ 0 p κ) Sq).map (fun x=>(x.1,some x.2)),x.1=j
   . right
     obtain ⟨x,C4,rfl⟩:=hj
     obtain ⟨y,hy,rfl⟩:=List.mem_map.1 C4
     obtain ⟨z,hz,rfl⟩:=List.mem_map.1 hy
     have a1:s'.σ (iZ 0 p κ z.1)=some (z.2.cG (iZ 0 p κ)):=h3.1 _ _ (hK' z (List.mem_append_left _ hz))
     have a2:∀ (U:List (Id × cN)) (σ : ae),(U.map (·.1)).Nodup->∀ w∈U, σ.app (U.map fun x=>(x.1,some x.2)) w.1=some w.2:=by
       intro U
       induction U with
       | nil=>intro σ _ w hw;simp at hw
       | cons u U ih =>
         intro σ hn w hw
         simp only [List.map_cons,List.nodup_cons] at hn
         simp only [List.map_cons,ae.app]
         rcases List.mem_cons.1 hw with rfl | hw
         . rw [ae.CU,ae.dG]
           rintro x hx e
           obtain ⟨v,hv,rfl⟩:=List.mem_map.1 hx
           exact hn.1 (List.mem_map.2 ⟨v,hv,e⟩)
         . exact ih _ hn.2 w hw
     rw [a1]
     exact a2 _ _ pw _ (List.mem_map.2 ⟨z,hz,rfl⟩)
   . rw [ae.CU _ _ _ fun x hx e=>hj ⟨x,hx,e⟩]
     cases hl:(oa (iZ 0 p κ) S0).lookup j with
     | none=>exact .inl hl
     | some b =>
       right
       show List.lookup _ _=_
       rw [hl]
       obtain ⟨z,hz,ez⟩:=List.mem_map.1 (jH hl)
       simp only [Prod.mk.injEq] at ez
       obtain ⟨rfl,rfl⟩:=ez
       have hz2:z∈rest Sq S0:=by
         refine List.mem_filter.2 ⟨hz, ?_⟩
         cases hb:Sq.any fun y=>L0 y.1 z.1 with
         | false=>rfl
         | true =>
           obtain ⟨y,hy,hyz⟩:=List.any_eq_true.1 hb
           exact absurd ⟨(iZ 0 p κ y.1,some (y.2.cG (iZ 0 p κ))),List.mem_map.2 ⟨_,List.mem_map.2 ⟨y,hy,rfl⟩,rfl⟩,by rw [mY.1 hyz]⟩ hj
       exact (h3.1 _ _ (hK' z (List.mem_append_right _ hz2))).symm
theorem aw.trs {f:FuncId} {vf:bp} (h:Has P f vf) (κ : Nat->Id) {p:Id} (hs:List (Hint P G)) {args:List AV} {S:List (Id × cN)} {val:AV} (kF:List AV) (S0:List (Id × cN)) (L1:AV)
   (hr:xq vf.results S0 (gv true 1000 vf.body [0] hs ⟨kF++List.replicate (vf.nt-kF.length) (.tup []),x9 S0,0⟩)=xt L1 S0 (gv true 1000 vf.body [0] hs ⟨kF++List.replicate (vf.nt-kF.length) (.tup []),x9 S0,0⟩))
   (ha:bK (iZ 0 p κ) kF=args) (hS:oa (iZ 0 p κ) S0=S) (hv:L1.cG (iZ 0 p κ)=val) (hd:(S.map (·.1)).Nodup) :
   aw P G f args p S { val,rd:=S.map (·.1) }:=by
 have e:([]:List (Id × cN))++rest [] S0=S0:=by
   unfold rest
   rw [List.nil_append,List.filter_eq_self]
   intro x _;rfl
 exact aw.tr (up:=[]) h κ hs kF S0 L1 [] (by rw [e];exact hr) ha hS hv rfl hd List.nodup_nil
def O0 (K:List (Id × cN)) (t1:List AV) (n1:Nat):HM P G->Option (List Hs × bP × Bool × List AV × List (Option cN))
 | some (cs,_,e,s)=>some (cs.map (·.1),e,Nat.ble s.n n1,zk s.t t1,K.map fun x=>s.S.find x.1)
 | none=>none
def O1 (e1:bP) (K:List (Id × cN)) (t1:List AV):HM P G->Option (List Hs × bP × Bool × List AV × List (Option cN))
 | some (cs,_,_,_)=>some (cs.map (·.2),e1,true,t1,K.map fun x=>some x.2)
 | none=>some ([],e1,true,[],[])
theorem O2 {ρ : Id->Id}:∀ {cs ds:List AV},Fg cs ds->Fg (bK ρ cs) (bK ρ ds)
 | [],[],_=>trivial
 | c::cs,d::ds,h=>by
   simp only [Fg] at h
   refine ⟨?_,O2 h.2⟩
   rcases h.1 with rfl | rfl
   . exact .inl rfl
   . exact .inr rfl
 | [],_::_,h=>by simp [Fg] at h
 | _::_,[],h=>by simp [Fg] at h
theorem VW.tr {vc:bJ} {π : Id} {n:Nat} (κ : Nat->Id) (hs:List (Hint P G)) {t t':List AV} {S K:List (Id × cN)} {Q:bP->VS->Prop} (t0:List AV) (S0:List (Id × cN)) (e1:bP) (t1:List AV) (K0:List (Id × cN)) (n1:Nat)
   (hr:O0 K0 t1 n1 (gv true 1000 vc [0] hs ⟨t0,x9 S0,0⟩)=O1 e1 K0 t1 (gv true 1000 vc [0] hs ⟨t0,x9 S0,0⟩))
   (ht:bK (iZ n π κ) t0=t) (hS:oa (iZ n π κ) S0=S) (rz:bK (iZ n π κ) t1=t') (hK:oa (iZ n π κ) K0=K) (hd:(S.map (·.1)).Nodup) (hq:∀ s,Wk G π s ⟨t',ae.of K,n+n1⟩->Q e1 s) :
   VW P G π vc Q ⟨t,ae.of S,n⟩:=by
 subst ht;subst hS;subst rz;subst hK
 cases hx:gv true 1000 vc [0] hs ⟨t0,x9 S0,0⟩ with
 | none=>rw [hx] at hr;simp only [O0,O1] at hr;cases hr
 | some y =>
   obtain ⟨cs,dP,e,s⟩:=y
   rw [hx] at hr
   simp only [O0,O1,Option.some.injEq,Prod.mk.injEq] at hr
   obtain ⟨hk,rfl,hn,hm,hK⟩:=hr
   refine (VW.trR (κ := κ) (n:=n) (π := π) hx (mH.of_map hk) hd).mono fun e' s' hq' => ?_
   obtain ⟨rfl,h1,h2,h3⟩:=hq'
   refine hq s' ?_
   obtain ⟨t2, σ2,n2⟩:=s'
   simp only [] at h1 h2 h3
   subst h1;subst h2
   refine Wk.forget (O2 (zl hm)) (fun j=>ae.y7 (fun x hx => ?_) j) (Nat.add_le_add_left (Nat.le_of_ble_eq_true hn) _)
   obtain ⟨z,hz,rfl⟩:=List.mem_map.1 hx
   exact h3.1 _ _ (jR hK z hz)
end
end Go.VL
end

section
set_option maxRecDepth 100000
namespace Go.VL
def kP:bp:=⟨17,[(.tmp 2)],(cS [oB 2 false] (cS [oM 3 0,⟨some 4,.bin .geq .int (.t 3) (.c (.int .u8 97)),none⟩,oM 5 4,gM 6 0 5 true,⟨some 7,.bin .leq .int (.t 6) (.c (.int .u8 122)),some (5,true)⟩,Fs 8 5 7,oM 9 8,gM 10 0 9 false,⟨some 11,.bin .geq .int (.t 10) (.c (.int .u8 65)),some (9,false)⟩,gM 12 11 9 false,gM 13 0 12 true,⟨some 14,.bin .leq .int (.t 13) (.c (.int .u8 90)),some (12,true)⟩,⟨some 15,.pick (.t 12) (.t 14) (.c (.bool false)),some (9,false)⟩,JZ 16 9 15,oM 2 16] .ret))⟩
def lC:bp:=⟨9,[(.tmp 2)],(cS [oB 2 false] (cS [oM 3 0,⟨some 4,.bin .geq .int (.t 3) (.c (.int .u8 48)),none⟩,oM 5 4,gM 6 0 5 true,⟨some 7,.bin .leq .int (.t 6) (.c (.int .u8 57)),some (5,true)⟩,Fs 8 5 7,oM 2 8] .ret))⟩
def qI (kQ xO:Nat):bp:=⟨13,[(.tmp 2)],(cS [oB 2 false] (cS [oM 3 0,oC 4 kQ 3,oM 5 4,gM 6 0 5 false,⟨some 7,.call (.f xO) [.t 6],some (5,false)⟩,JZ 8 5 7,oM 9 8,gM 10 0 9 false,⟨some 11,.bin .eql .int (.t 10) (.c (.int .u8 95)),some (9,false)⟩,JZ 12 9 11,oM 2 12] .ret))⟩
def pA:bp:=⟨20,[(.tmp 4)],(cS [oI 4 0] (cS [oI 5 0] (.seq (.block 0 (.loop (.seq (cS [oM 6 5,oM 7 0,⟨some 8,.len true (.t 7),none⟩,oT 9 .lss 6 8,oM 10 9,gM 11 1 10 true,gM 12 0 10 true,gM 13 5 10 true,⟨some 14,.indexS (.t 12) (.t 13),some (10,true)⟩,⟨some 15,.call (.t 11) [.t 14],some (10,true)⟩,Fs 16 10 15] (.cond (.t 16) .skip (.exit 0))) (.block 1 (cR [oM 17 5,dr 18 .add 17 1,oM 5 18]))))) (cS [oM 19 5,oM 4 19] .ret))))⟩
def iM (kQ C7 zp:Nat):bp:=⟨22,[(.tmp 2)],(cS [oB 2 false] (cS [oM 3 0,⟨some 4,.bin .neq .str (.t 3) (.c (.str [])),none⟩,oM 5 4,gM 6 0 5 true,⟨some 7,.len true (.t 6),some (5,true)⟩,⟨some 8,.bin .leq .int (.t 7) (.c (.int .i64 24)),some (5,true)⟩,Fs 9 5 8,oM 10 9,gM 11 0 10 true,⟨some 12,.indexS (.t 11) (.c (.int .i64 0)),some (10,true)⟩,⟨some 13,.call (.f kQ) [.t 12],some (10,true)⟩,Fs 14 10 13,oM 15 14,gM 16 0 15 true,⟨some 17,.call (.f C7) [(.t 16),(.f zp)],some (15,true)⟩,gM 18 0 15 true,⟨some 19,.len true (.t 18),some (15,true)⟩,gT 20 .eql 17 19 15 true,Fs 21 15 20,oM 2 21] .ret))⟩
end Go.VL
end

section
set_option maxRecDepth 100000
namespace Go.VL
def dI (qi:Nat):bp:=⟨17,[(.tmp 2)],(cS [oB 2 false] (cS [oM 3 0,⟨some 4,.bin .neq .str (.t 3) (.c (.str [])),none⟩,oM 5 4,gM 6 0 5 true,⟨some 7,.len true (.t 6),some (5,true)⟩,⟨some 8,.bin .leq .int (.t 7) (.c (.int .i64 24)),some (5,true)⟩,Fs 9 5 8,oM 10 9,gM 11 0 10 true,⟨some 12,.call (.f qi) [(.t 11),(.c (.int .i64 0))],some (10,true)⟩,gM 13 0 10 true,⟨some 14,.len true (.t 13),some (10,true)⟩,gT 15 .eql 12 14 10 true,Fs 16 10 15,oM 2 16] .ret))⟩
def dW (jT pB:Nat):bp:=⟨42,[(.tmp 4)],(cS [oI 4 0] (.seq (cS [oM 5 1,oM 6 0,⟨some 7,.len true (.t 6),none⟩,oT 8 .eql 5 7,oM 9 8,gM 10 0 9 false,gM 11 1 9 false,⟨some 12,.indexS (.t 10) (.t 11),some (9,false)⟩,⟨some 13,.call (.f jT) [.t 12],some (9,false)⟩,⟨some 14,.un .not (.t 13),some (9,false)⟩,JZ 15 9 14] (.cond (.t 15) (cS [oM 16 1,oM 4 16] .ret) .skip)) (.seq (.block 0 (.loop (.seq (cS [oM 17 1,oM 18 0,⟨some 19,.len true (.t 18),none⟩,oT 20 .lss 17 19,oM 21 20,gM 22 0 21 true,gM 23 1 21 true,⟨some 24,.indexS (.t 22) (.t 23),some (21,true)⟩,⟨some 25,.call (.f jT) [.t 24],some (21,true)⟩,gM 26 25 21 true,gM 27 0 26 false,gM 28 1 26 false,⟨some 29,.indexS (.t 27) (.t 28),some (26,false)⟩,⟨some 30,.call (.f pB) [.t 29],some (26,false)⟩,⟨some 31,.pick (.t 26) (.c (.bool true)) (.t 30),some (21,true)⟩,gM 32 31 21 true,gM 33 0 32 false,gM 34 1 32 false,⟨some 35,.indexS (.t 33) (.t 34),some (32,false)⟩,⟨some 36,.bin .eql .int (.t 35) (.c (.int .u8 95)),some (32,false)⟩,⟨some 37,.pick (.t 32) (.c (.bool true)) (.t 36),some (21,true)⟩,Fs 38 21 37] (.cond (.t 38) .skip (.exit 0))) (.block 1 (cR [oM 39 1,dr 40 .add 39 1,oM 1 40]))))) (cS [oM 41 1,oM 4 41] .ret))))⟩
end Go.VL
end

section
set_option maxRecDepth 100000
namespace Go.VL
def eD:bp:=⟨21,[(.tmp 2)],(cS [oZ 2] (.seq (.block 0 (.loop (.seq (cS [oM 3 0,oN 4 3,dr 5 .gtr 4 0,oM 6 5,gM 7 0 6 true,gM 8 0 6 true,gN 9 8 6 true,⟨some 10,.bin .sub .int (.t 9) (.c (.int .i64 1)),some (6,true)⟩,⟨some 11,.iaddrS 1 (.t 7) (.t 10),some (6,true)⟩,gL 12 1 11 6 true,⟨some 13,.bin .eql .int (.t 12) (.c (.int .u32 0)),some (6,true)⟩,Fs 14 6 13] (.cond (.t 14) .skip (.exit 0))) (.block 1 (cR [oM 15 0,oM 16 0,oN 17 16,dr 18 .sub 17 1,⟨some 19,.slice 1 (.t 15) none (some (.t 18)) none,none⟩,oM 0 19]))))) (cS [oM 20 0,oM 2 20] .ret)))⟩
def ib (bY:Nat):bp:=⟨10,[(.tmp 2)],(cS [oZ 2] (cS [oM 3 0,oK 4 .u32 3,oM 5 0,⟨some 6,.bin .shr .int (.t 5) (.c (.int .u64 32)),none⟩,oK 7 .u32 6,⟨some 8,.buildSl 1 2 (.int .u32 0) [(0,(.t 4)),(1,(.t 7))],none⟩,oC 9 bY 8,oM 2 9] .ret))⟩
def j8 (uK qJ:Nat):bp:=⟨41,[(.tmp 4)],(cS [oI 4 0] (.seq (cS [oM 6 0,oN 7 6,oM 8 1,oN 9 8,oT 10 .neq 7 9] (.cond (.t 10) (cS [oM 11 0,oN 12 11,oM 13 1,oN 14 13,lB 15 uK 12 14,oM 4 15] .ret) .skip)) (.seq (cS [oM 16 0,oN 17 16,dr 18 .sub 17 1,oM 5 18] (.block 0 (.loop (.seq (cS [oM 19 5,dr 20 .geq 19 0] (.cond (.t 20) .skip (.exit 0))) (.seq (.block 1 (.seq (.reg (some []) [oM 23 0,oM 24 5,oA 25 1 23 24,oL 26 1 25,oM 27 1,oM 28 5,oA 29 1 27 28,oL 30 1 29,oT 31 .neq 26 30]) (.cond (.t 31) (.seq (.reg (some []) [oM 32 0,oM 33 5,oA 34 1 32 33,oL 35 1 34,oM 36 1,oM 37 5,oA 38 1 36 37,oL 39 1 38,lB 40 qJ 35 39,oM 4 40]) .ret) .skip))) (cR [oM 21 5,dr 22 .sub 21 1,oM 5 22])))))) (cS [oI 4 0] .ret))))⟩
def mi:bp:=⟨58,[(.tmp 4)],(cS [oZ 4] (.seq (cS [oM 9 0,oN 10 9,oM 11 1,oN 12 11,oT 13 .lss 10 12] (.cond (.t 13) (cR [oM 14 1,oM 15 0,oM 0 14,oM 1 15]) .skip)) (cS [oM 16 0,oN 17 16,dr 18 .add 17 1,⟨some 19,.mksl 1 4 (.int .u32 0) (.c (.int .i64 0)) (.t 18),none⟩,oM 5 19] (cS [⟨some 6,.mv (.c (.int .u64 0)),none⟩] (.seq (cS [oM 20 0,oN 21 20,oI 22 0] (.block 0 (.loop (cS [oT 23 .lss 22 21] (.seq (.cond (.t 23) .skip (.exit 0)) (.seq (.block 1 (cS [oM 24 22,oA 25 1 20 22,oL 26 1 25,oM 7 24,oM 8 26] (cS [oM 27 6,oM 28 8,oK 29 .u64 28,oT 30 .add 27 29,oM 6 30] (.seq (cS [oM 31 7,oM 32 1,oN 33 32,oT 34 .lss 31 33] (.cond (.t 34) (cR [oM 35 6,oM 36 1,oM 37 7,oA 38 1 36 37,oL 39 1 38,oK 40 .u64 39,oT 41 .add 35 40,oM 6 41]) .skip)) (cS [oM 42 5,oM 43 6,oK 44 .u32 43,⟨some 45,.buildSl 1 1 (.int .u32 0) [(0,(.t 44))],none⟩,Sp 46 1 4 42 45,oM 5 46] (cR [oM 47 6,⟨some 48,.bin .shr .int (.t 47) (.c (.int .u64 32)),none⟩,oM 6 48])))))) (cR [dr 49 .add 22 1,oM 22 49]))))))) (.seq (cS [oM 50 6,⟨some 51,.bin .gtr .int (.t 50) (.c (.int .u64 0)),none⟩] (.cond (.t 51) (cR [oM 52 5,oM 53 6,oK 54 .u32 53,⟨some 55,.buildSl 1 1 (.int .u32 0) [(0,(.t 54))],none⟩,Sp 56 1 4 52 55,oM 5 56]) .skip)) (cS [oM 57 5,oM 4 57] .ret)))))))⟩
def lD (bY:Nat):bp:=⟨45,[(.tmp 4)],(cS [oZ 4] (cS [oM 10 0,oN 11 10,⟨some 12,.mksl 1 4 (.int .u32 0) (.t 11) (.t 11),none⟩,oM 5 12] (cS [⟨some 6,.mv (.c (.int .u64 0)),none⟩] (.seq (cS [oM 13 0,oN 14 13,oI 15 0] (.block 0 (.loop (cS [oT 16 .lss 15 14] (.seq (.cond (.t 16) .skip (.exit 0)) (.seq (.block 1 (cS [oM 17 15,oA 18 1 13 15,oL 19 1 18,oM 7 17,oM 8 19] (cS [oM 20 8,oK 21 .u64 20,oM 22 6,oT 23 .sub 21 22,oM 9 23] (.seq (cS [oM 24 7,oM 25 1,oN 26 25,oT 27 .lss 24 26] (.cond (.t 27) (cR [oM 28 9,oM 29 1,oM 30 7,oA 31 1 29 30,oL 32 1 31,oK 33 .u64 32,oT 34 .sub 28 33,oM 9 34]) .skip)) (cS [oM 35 5,oM 36 7,oM 37 9,oK 38 .u32 37,oA 39 1 35 36,oS 1 39 38] (cR [oM 40 9,⟨some 41,.bin .shr .int (.t 40) (.c (.int .u64 63)),none⟩,oM 6 41])))))) (cR [dr 42 .add 15 1,oM 15 42]))))))) (cS [oM 43 5,oC 44 bY 43,oM 4 44] .ret)))))⟩
def lE (bY:Nat):bp:=⟨75,[(.tmp 4)],(cS [oZ 4] (.seq (cS [oM 11 0,oN 12 11,dr 13 .eql 12 0,oM 14 13,gM 15 1 14 false,gN 16 15 14 false,⟨some 17,.bin .eql .int (.t 16) (.c (.int .i64 0)),some (14,false)⟩,JZ 18 14 17] (.cond (.t 18) (cS [oZ 4] .ret) .skip)) (cS [oM 19 0,oN 20 19,oM 21 1,oN 22 21,oT 23 .add 20 22,⟨some 24,.mksl 1 4 (.int .u32 0) (.t 23) (.t 23),none⟩,oM 5 24] (.seq (cS [oM 25 0,oN 26 25,oI 27 0] (.block 0 (.loop (cS [oT 28 .lss 27 26] (.seq (.cond (.t 28) .skip (.exit 0)) (.seq (.block 1 (cS [oM 29 27,oA 30 1 25 27,oL 31 1 30,oM 6 29,oM 7 31] (cS [⟨some 8,.mv (.c (.int .u64 0)),none⟩] (.seq (cS [oM 32 1,oN 33 32,oI 34 0] (.block 2 (.loop (cS [oT 35 .lss 34 33] (.seq (.cond (.t 35) .skip (.exit 2)) (.seq (.block 3 (cS [oM 36 34,oA 37 1 32 34,oL 38 1 37,oM 9 36,oM 10 38] (cS [oM 39 8,oM 40 7,oK 41 .u64 40,oM 42 10,oK 43 .u64 42,oT 44 .mul 41 43,oM 45 5,oM 46 6,oM 47 9,oT 48 .add 46 47,oA 49 1 45 48,oL 50 1 49,oK 51 .u64 50,oT 52 .add 44 51,oT 53 .add 39 52,oM 8 53] (cS [oM 54 5,oM 55 6,oM 56 9,oT 57 .add 55 56,oM 58 8,oK 59 .u32 58,oA 60 1 54 57,oS 1 60 59] (cR [oM 61 8,⟨some 62,.bin .shr .int (.t 61) (.c (.int .u64 32)),none⟩,oM 8 62]))))) (cR [dr 63 .add 34 1,oM 34 63]))))))) (cR [oM 64 5,oM 65 6,oM 66 1,oN 67 66,oT 68 .add 65 67,oM 69 8,oK 70 .u32 69,oA 71 1 64 68,oS 1 71 70]))))) (cR [dr 72 .add 27 1,oM 27 72]))))))) (cS [oM 73 5,oC 74 bY 73,oM 4 74] .ret)))))⟩
def gz:bp:=⟨41,[(.tmp 4)],(cS [oZ 4] (cS [oM 9 0,oN 10 9,dr 11 .add 10 1,⟨some 12,.mksl 1 4 (.int .u32 0) (.t 11) (.t 11),none⟩,oM 5 12] (.seq (cS [oM 13 0,oN 14 13,oI 15 0] (.block 0 (.loop (cS [oT 16 .lss 15 14] (.seq (.cond (.t 16) .skip (.exit 0)) (.seq (.block 1 (cS [oM 17 15,oA 18 1 13 15,oL 19 1 18,oM 6 17,oM 7 19] (cS [oM 20 7,oK 21 .u64 20,oM 22 1,oT 23 .shl 21 22,oM 8 23] (cS [oM 24 5,oM 25 6,oA 26 1 24 25,oL 27 1 26,oM 28 8,oK 29 .u32 28,oT 30 .or 27 29,oA 31 1 24 25,oS 1 31 30] (cR [oM 32 5,oM 33 6,dr 34 .add 33 1,oM 35 8,⟨some 36,.bin .shr .int (.t 35) (.c (.int .u64 32)),none⟩,oK 37 .u32 36,oA 38 1 32 34,oS 1 38 37]))))) (cR [dr 39 .add 15 1,oM 15 39]))))))) (cS [oM 40 5,oM 4 40] .ret))))⟩
def eE:bp:=⟨47,[(.tmp 4)],(cS [oZ 4] (cS [oM 8 0,oN 9 8,⟨some 10,.mksl 1 4 (.int .u32 0) (.t 9) (.t 9),none⟩,oM 5 10] (.seq (cS [oM 11 0,oN 12 11,oI 13 0] (.block 0 (.loop (cS [oT 14 .lss 13 12] (.seq (.cond (.t 14) .skip (.exit 0)) (.seq (.block 1 (cS [oM 15 13,oA 16 1 11 13,oL 17 1 16,oM 6 15,oM 7 17] (cS [oM 18 5,oM 19 6,oM 20 7,oM 21 1,oT 22 .shr 20 21,oA 23 1 18 19,oS 1 23 22] (cS [oM 24 6,dr 25 .add 24 1,oM 26 0,oN 27 26,oT 28 .lss 25 27] (.cond (.t 28) (.reg (some []) [oM 29 5,oM 30 6,oA 31 1 29 30,oL 32 1 31,oM 33 0,oM 34 6,dr 35 .add 34 1,oA 36 1 33 35,oL 37 1 36,oK 38 .u64 37,oM 39 1,⟨some 40,.bin .sub .int (.c (.int .i64 32)) (.t 39),none⟩,oT 41 .shl 38 40,oK 42 .u32 41,oT 43 .or 32 42,oA 44 1 29 30,oS 1 44 43]) .skip))))) (cR [dr 45 .add 13 1,oM 13 45]))))))) (cS [oM 46 5,oM 4 46] .ret))))⟩
def iN (bY ek:Nat):bp:=⟨43,[(.tmp 4),(.tmp 5)],(cS [oZ 4,oZ 5] (cS [oM 9 0,oN 10 9,⟨some 11,.mksl 1 4 (.int .u32 0) (.t 10) (.t 10),none⟩,oM 6 11] (cS [⟨some 7,.mv (.c (.int .u64 0)),none⟩] (.seq (cS [oM 12 0,oN 13 12,dr 14 .sub 13 1,oM 8 14] (.block 0 (.loop (.seq (cS [oM 15 8,dr 16 .geq 15 0] (.cond (.t 16) .skip (.exit 0))) (.seq (.block 1 (cS [oM 19 7,⟨some 20,.bin .shl .int (.t 19) (.c (.int .u64 32)),none⟩,oM 21 0,oM 22 8,oA 23 1 21 22,oL 24 1 23,oK 25 .u64 24,oT 26 .or 20 25,oM 7 26] (cS [oM 27 6,oM 28 8,oM 29 7,oM 30 1,oK 31 .u64 30,oT 32 .quo 29 31,oK 33 .u32 32,oA 34 1 27 28,oS 1 34 33] (cR [oM 35 7,oM 36 1,oK 37 .u64 36,oT 38 .rem 35 37,oM 7 38])))) (cR [oM 17 8,dr 18 .sub 17 1,oM 8 18])))))) (cS [oM 39 6,oC 40 bY 39,oM 41 7,oC 42 ek 41,oM 4 40,oM 5 42] .ret)))))⟩
def kR (uL eG gJ ek qK mj lO bY tg uM qL:Nat):bp:=⟨177,[(.tmp 4),(.tmp 5)],(cS [oZ 4,oZ 5] (.seq (.block 0 (cS [oM 20 0,oM 21 1,lB 22 uL 20 21,dr 23 .lss 22 0,oM 19 23] (.cond (.t 19) (cS [oM 24 0,oC 25 eG 24,oZ 4,oM 5 25] .ret) (cS [oM 27 0,oN 28 27,dr 29 .leq 28 2,oM 26 29] (.cond (.t 26) (cS [oM 30 0,oC 31 gJ 30,oM 32 1,oC 33 gJ 32,oM 6 31,oM 7 33] (.seq (.reg (some []) [oM 34 6,oM 35 7,oT 36 .quo 34 35,oC 37 ek 36,oM 38 6,oM 39 7,oT 40 .rem 38 39,oC 41 ek 40,oM 4 37,oM 5 41]) .ret)) (cS [oM 43 1,oN 44 43,dr 45 .eql 44 1,oM 42 45] (.cond (.t 42) (cS [oM 46 0,oM 47 1,⟨some 48,.iaddrS 1 (.t 47) (.c (.int .i64 0)),none⟩,oL 49 1 48,lB 50 qK 46 49,oE 51 50 0,oE 52 50 1,oM 4 51,oM 5 52] .ret) .skip))))))) (cS [oM 53 1,oM 54 1,oN 55 54,dr 56 .sub 55 1,oA 57 1 53 56,oL 58 1 57,oC 59 mj 58,oM 8 59] (cS [oM 60 0,oM 61 8,lB 62 lO 60 61,oM 63 1,oM 64 8,lB 65 lO 63 64,oC 66 bY 65,oM 9 62,oM 10 66] (cS [oM 67 10,oN 68 67,oM 11 68] (cS [oM 69 9,oN 70 69,oM 71 11,oT 72 .sub 70 71,⟨some 73,.mksl 1 4 (.int .u32 0) (.t 72) (.t 72),none⟩,oM 12 73] (.seq (.reg (some []) [oM 74 10,oM 75 11,dr 76 .sub 75 1,oA 77 1 74 76,oL 78 1 77,oK 79 .u64 78,oM 80 10,oM 81 11,dr 82 .sub 81 2,oA 83 1 80 82,oL 84 1 83,oK 85 .u64 84,oM 13 79,oM 14 85]) (.seq (cS [oM 86 12,oN 87 86,dr 88 .sub 87 1,oM 15 88] (.block 1 (.loop (.seq (cS [oM 89 15,dr 90 .geq 89 0] (.cond (.t 90) .skip (.exit 1))) (.seq (.block 2 (.seq (.reg (some []) [oM 93 9,oM 94 15,oM 95 11,oT 96 .add 94 95,oA 97 1 93 96,oL 98 1 97,oK 99 .u64 98,⟨some 100,.bin .shl .int (.t 99) (.c (.int .u64 32)),none⟩,oM 101 9,oM 102 15,oM 103 11,oT 104 .add 102 103,dr 105 .sub 104 1,oA 106 1 101 105,oL 107 1 106,oK 108 .u64 107,oT 109 .or 100 108,oM 16 109]) (.seq (.reg (some []) [oM 110 16,oM 111 13,oT 112 .quo 110 111,oM 113 16,oM 114 13,oT 115 .rem 113 114,oM 17 112,oM 18 115]) (.seq (.block 3 (.loop (.seq (cS [oM 116 17,⟨some 117,.bin .geq .int (.t 116) (.c (.int .u64 4294967296)),none⟩,oM 118 117,gM 119 17 118 false,gM 120 14 118 false,gT 121 .mul 119 120 118 false,gM 122 18 118 false,⟨some 123,.bin .shl .int (.t 122) (.c (.int .u64 32)),some (118,false)⟩,gM 124 9 118 false,gM 125 15 118 false,gM 126 11 118 false,gT 127 .add 125 126 118 false,⟨some 128,.bin .sub .int (.t 127) (.c (.int .i64 2)),some (118,false)⟩,⟨some 129,.iaddrS 1 (.t 124) (.t 128),some (118,false)⟩,gL 130 1 129 118 false,⟨some 131,.toInt .u64 (.t 130),some (118,false)⟩,gT 132 .or 123 131 118 false,gT 133 .gtr 121 132 118 false,JZ 134 118 133] (.cond (.t 134) .skip (.exit 3))) (.block 4 (cS [oM 135 17,⟨some 136,.bin .sub .int (.t 135) (.c (.int .u64 1)),none⟩,oM 17 136] (cS [oM 137 18,oM 138 13,oT 139 .add 137 138,oM 18 139] (cS [oM 140 18,⟨some 141,.bin .geq .int (.t 140) (.c (.int .u64 4294967296)),none⟩] (.cond (.t 141) (.exit 3) .skip)))))))) (.seq (cS [oM 142 9,oM 143 15,oM 144 15,oM 145 11,oT 146 .add 144 145,dr 147 .add 146 1,⟨some 148,.slice 1 (.t 142) (some (.t 143)) (some (.t 147)) none,none⟩,oM 149 10,oM 150 17,⟨some 151,.call (.f tg) [(.t 148),(.t 149),(.t 150)],none⟩] (.cond (.t 151) (cS [oM 152 17,⟨some 153,.bin .sub .int (.t 152) (.c (.int .u64 1)),none⟩,oM 17 153] (cR [oM 154 9,oM 155 15,oM 156 15,oM 157 11,oT 158 .add 156 157,dr 159 .add 158 1,⟨some 160,.slice 1 (.t 154) (some (.t 155)) (some (.t 159)) none,none⟩,oM 161 10,lB 162 uM 160 161])) .skip)) (cR [oM 163 12,oM 164 15,oM 165 17,oK 166 .u32 165,oA 167 1 163 164,oS 1 167 166])))))) (cR [oM 91 15,dr 92 .sub 91 1,oM 15 92])))))) (.seq (.reg (some [(1,4)]) [oM 168 12,oC 169 bY 168,oM 170 9,oM 171 11,⟨some 172,.slice 1 (.t 170) none (some (.t 171)) none,none⟩,oC 173 bY 172,oM 174 8,lB 175 qL 173 174,oC 176 bY 175,oM 4 169,oM 5 176]) .ret)))))))))⟩
def ic:bp:=⟨63,[(.tmp 6)],(cS [oB 6 false] (cS [⟨some 7,.mv (.c (.int .u64 0)),none⟩] (.seq (cS [oM 13 1,oN 14 13,oI 15 0] (.block 0 (.loop (cS [oT 16 .lss 15 14] (.seq (.cond (.t 16) .skip (.exit 0)) (.seq (.block 1 (cS [oM 17 15,oA 18 1 13 15,oL 19 1 18,oM 8 17,oM 9 19] (cS [oM 20 9,oK 21 .u64 20,oM 22 2,oT 23 .mul 21 22,oM 24 7,oT 25 .add 23 24,oM 10 25] (cS [oM 26 0,oM 27 8,oA 28 1 26 27,oL 29 1 28,oK 30 .u64 29,oM 31 10,oK 32 .u32 31,oK 33 .u64 32,oT 34 .sub 30 33,oM 11 34] (cS [oM 35 0,oM 36 8,oM 37 11,oK 38 .u32 37,oA 39 1 35 36,oS 1 39 38] (cR [oM 40 10,⟨some 41,.bin .shr .int (.t 40) (.c (.int .u64 32)),none⟩,oM 42 11,⟨some 43,.bin .shr .int (.t 42) (.c (.int .u64 63)),none⟩,oT 44 .add 41 43,oM 7 44])))))) (cR [dr 45 .add 15 1,oM 15 45]))))))) (cS [oM 46 0,oM 47 1,oN 48 47,oA 49 1 46 48,oL 50 1 49,oK 51 .u64 50,oM 52 7,oT 53 .sub 51 52,oM 12 53] (cS [oM 54 0,oM 55 1,oN 56 55,oM 57 12,oK 58 .u32 57,oA 59 1 54 56,oS 1 59 58] (cS [oM 60 12,⟨some 61,.bin .shr .int (.t 60) (.c (.int .u64 63)),none⟩,⟨some 62,.bin .eql .int (.t 61) (.c (.int .u64 1)),none⟩,oM 6 62] .ret))))))⟩
def iF:bp:=⟨41,[],(cS [⟨some 4,.mv (.c (.int .u64 0)),none⟩] (.seq (cS [oM 7 1,oN 8 7,oI 9 0] (.block 0 (.loop (cS [oT 10 .lss 9 8] (.seq (.cond (.t 10) .skip (.exit 0)) (.seq (.block 1 (cS [oM 11 9,oA 12 1 7 9,oL 13 1 12,oM 5 11,oM 6 13] (cS [oM 14 4,oM 15 0,oM 16 5,oA 17 1 15 16,oL 18 1 17,oK 19 .u64 18,oM 20 6,oK 21 .u64 20,oT 22 .add 19 21,oT 23 .add 14 22,oM 4 23] (cS [oM 24 0,oM 25 5,oM 26 4,oK 27 .u32 26,oA 28 1 24 25,oS 1 28 27] (cR [oM 29 4,⟨some 30,.bin .shr .int (.t 29) (.c (.int .u64 32)),none⟩,oM 4 30]))))) (cR [dr 31 .add 9 1,oM 9 31]))))))) (cR [oM 32 0,oM 33 1,oN 34 33,oA 35 1 32 34,oL 36 1 35,oM 37 4,oK 38 .u32 37,oT 39 .add 36 38,oA 40 1 32 34,oS 1 40 39])))⟩
def lF:bp:=⟨27,[(.tmp 2)],(cS [oX 1 0,oB 2 false] (cS [oF 4 1 1,oL 5 1 4,oN 6 5,oM 3 6] (cS [oM 7 3,dr 8 .eql 7 0,oM 9 8,gF 10 0 1 9 true,gL 11 1 10 9 true,⟨some 12,.un .not (.t 11),some (9,true)⟩,Fs 13 9 12,oM 14 13,gM 15 3 14 false,⟨some 16,.bin .gtr .int (.t 15) (.c (.int .i64 0)),some (14,false)⟩,gM 17 16 14 false,gF 18 1 1 17 true,gL 19 1 18 17 true,gM 20 3 17 true,⟨some 21,.bin .sub .int (.t 20) (.c (.int .i64 1)),some (17,true)⟩,⟨some 22,.iaddrS 1 (.t 19) (.t 21),some (17,true)⟩,gL 23 1 22 17 true,⟨some 24,.bin .neq .int (.t 23) (.c (.int .u32 0)),some (17,true)⟩,⟨some 25,.pick (.t 17) (.t 24) (.c (.bool false)),some (14,false)⟩,JZ 26 14 25,oM 2 26] .ret)))⟩
def nF (bY wj eG od gJ ek:Nat):bp:=⟨57,[(.cell 4 true 2)],(cS [oX 2 0,oX 3 1,⟨some 4,.box (.c (.agg [(.bool false),.nils])),none⟩] (.seq (.reg (some [(2,4)]) [oF 11 1 2,oL 12 1 11,oC 13 bY 12,oF 14 1 3,oL 15 1 14,oC 16 bY 15,oM 5 13,oM 6 16]) (.seq (.block 0 (.loop (.seq (cS [oM 17 6,oN 18 17,dr 19 .gtr 18 2,oM 20 19,gM 21 5 20 false,gN 22 21 20 false,⟨some 23,.bin .gtr .int (.t 22) (.c (.int .i64 2)),some (20,false)⟩,gM 24 23 20 false,gM 25 6 24 true,gN 26 25 24 true,⟨some 27,.bin .gtr .int (.t 26) (.c (.int .i64 0)),some (24,true)⟩,⟨some 28,.pick (.t 24) (.t 27) (.c (.bool false)),some (20,false)⟩,JZ 29 20 28] (.cond (.t 29) .skip (.exit 0))) (.block 1 (cS [oM 31 5,oM 32 6,lB 33 wj 31 32,oM 30 33,oE 34 30 0,oE 35 30 1,oM 7 34,oM 8 35] (cR [oM 36 6,oM 37 8,oM 5 36,oM 6 37])))))) (.seq (cS [oM 38 6,oN 39 38,dr 40 .eql 39 0] (.cond (.t 40) (cS [oM 41 5,oC 42 eG 41,⟨some 43,.call (.f od) [(.c (.bool false)),(.t 42)],none⟩,oS 2 4 43] .ret) .skip)) (cS [oM 44 5,oC 45 gJ 44,oM 46 6,oC 47 gJ 46,oM 9 45,oM 10 47] (.seq (.block 2 (.loop (.seq (cS [oM 48 10,⟨some 49,.bin .neq .int (.t 48) (.c (.int .u64 0)),none⟩] (.cond (.t 49) .skip (.exit 2))) (.block 3 (.reg (some []) [oM 50 10,oM 51 9,oM 52 10,oT 53 .rem 51 52,oM 9 50,oM 10 53]))))) (cS [oM 54 9,oC 55 ek 54,⟨some 56,.call (.f od) [(.c (.bool false)),(.t 55)],none⟩,oS 2 4 56] .ret)))))))⟩
def qM (uN:Nat):bp:=⟨2,[(.cell 0 true 2)],(cS [⟨some 0,.box (.c (.agg [(.bool false),.nils])),none⟩] (cS [⟨some 1,.call (.f uN) [(.c (.int .i64 1))],none⟩,oS 2 0 1] .ret))⟩
def gK (p8 ml AP jc:Nat):bp:=⟨25,[(.tmp 2)],(cS [oX 1 0,oB 2 false] (cS [oF 3 0 1,xh 4 2 3,oC 5 p8 4,oM 6 5,gF 7 2 1 6 true,OW 8 2 7 6 true,⟨some 9,.call (.f p8) [.t 8],some (6,true)⟩,Fs 10 6 9,oM 11 10,gF 12 2 1 11 true,OW 13 2 12 11 true,⟨some 14,.call (.f ml) [.t 13],some (11,true)⟩,⟨some 15,.bin .gtr .int (.t 14) (.c (.int .i64 0)),some (11,true)⟩,Fs 16 11 15,oM 17 16,gF 18 0 1 17 true,OW 19 2 18 17 true,gF 20 2 1 17 true,OW 21 2 20 17 true,⟨some 22,.call (.f AP) [(.t 19),(.t 21)],some (17,true)⟩,⟨some 23,.call (.f jc) [.t 22],some (17,true)⟩,Fs 24 17 23,oM 2 24] .ret))⟩
def lG (ml:Nat):bp:=⟨6,[(.tmp 2)],(cS [oX 1 0,oI 2 0] (cS [oF 3 0 1,xh 4 2 3,oC 5 ml 4,oM 2 5] .ret))⟩
def j9 (jc nG zt uO:Nat):bp:=⟨31,[(.cell 4 true 4)],(cS [oX 2 0,oX 3 1,⟨some 4,.box (.c (.agg [(.bool false),.nils,(.bool false),.nils])),none⟩] (.seq (cS [oF 5 2 2,xh 6 2 5,oC 7 jc 6,oM 8 7,gF 9 2 3 8 true,OW 10 2 9 8 true,⟨some 11,.call (.f jc) [.t 10],some (8,true)⟩,Fs 12 8 11] (.cond (.t 12) (cS [oF 13 0 2,xh 14 2 13,oF 15 0 3,xh 16 2 15,lB 17 nG 14 16,⟨some 18,.call (.f zt) [],none⟩,⟨some 19,.build [(.bool false),.nils,(.bool false),.nils] [(0,(2,(.t 17))),(2,(2,(.t 18)))],none⟩,oS 4 4 19] .ret) .skip)) (.seq (.reg (some [(4,6),(4,8)]) [oF 20 0 2,xh 21 2 20,oF 22 0 3,xh 23 2 22,lB 24 nG 21 23,oF 25 2 2,xh 26 2 25,oF 27 2 3,xh 28 2 27,lB 29 nG 26 28,lB 30 uO 24 29,oS 4 4 30]) .ret)))⟩
def kd:bp:=⟨19,[(.tmp 2)],(cS [oI 2 0] (.seq (cS [oM 3 0,⟨some 4,.bin .geq .int (.t 3) (.c (.int .u32 65536)),none⟩] (.cond (.t 4) (cS [oM 5 0,⟨some 6,.bin .shr .int (.t 5) (.c (.int .u64 16)),none⟩,oM 0 6] (cR [oI 2 16])) .skip)) (.seq (cS [oM 7 0,⟨some 8,.bin .geq .int (.t 7) (.c (.int .u32 256)),none⟩] (.cond (.t 8) (cS [oM 9 0,⟨some 10,.bin .shr .int (.t 9) (.c (.int .u64 8)),none⟩,oM 0 10] (cR [oM 11 2,dr 12 .add 11 8,oM 2 12])) .skip)) (cS [oM 13 2,oM 14 0,oK 15 .u8 14,⟨some 16,.indexS (.c (.str [0,1,2,2,3,3,3,3,4,4,4,4,4,4,4,4,5,5,5,5,5,5,5,5,5,5,5,5,5,5,5,5,6,6,6,6,6,6,6,6,6,6,6,6,6,6,6,6,6,6,6,6,6,6,6,6,6,6,6,6,6,6,6,6,7,7,7,7,7,7,7,7,7,7,7,7,7,7,7,7,7,7,7,7,7,7,7,7,7,7,7,7,7,7,7,7,7,7,7,7,7,7,7,7,7,7,7,7,7,7,7,7,7,7,7,7,7,7,7,7,7,7,7,7,7,7,7,7,8,8,8,8,8,8,8,8,8,8,8,8,8,8,8,8,8,8,8,8,8,8,8,8,8,8,8,8,8,8,8,8,8,8,8,8,8,8,8,8,8,8,8,8,8,8,8,8,8,8,8,8,8,8,8,8,8,8,8,8,8,8,8,8,8,8,8,8,8,8,8,8,8,8,8,8,8,8,8,8,8,8,8,8,8,8,8,8,8,8,8,8,8,8,8,8,8,8,8,8,8,8,8,8,8,8,8,8,8,8,8,8,8,8,8,8,8,8,8,8,8,8,8,8,8,8,8,8])) (.t 15),none⟩,oK 17 .i64 16,oT 18 .add 13 17,oM 2 18] .ret))))⟩
def lH:bp:=⟨6,[(.tmp 2)],(cS [oB 2 false] (cS [oM 3 0,oM 4 0,oT 5 .neq 3 4,oM 2 5] .ret))⟩
def jI:bp:=⟨6,[(.tmp 2)],(cS [oB 2 false] (cS [oM 3 0,oM 4 0,oT 5 .neq 3 4,oM 2 5] .ret))⟩
def ke (p9:Nat):bp:=⟨20,[(.tmp 4)],(cS [oI 4 0] (cS [oM 7 0,oC 8 p9 7,oM 5 8] (cS [oM 9 1,oC 10 p9 9,oM 6 10] (.seq (cS [oM 11 5] (.cond (.t 11) (.seq (cS [oM 12 6] (.cond (.t 12) (cS [oI 4 0] .ret) .skip)) (cS [oI 4 (-1-0)] .ret)) .skip)) (.seq (cS [oM 13 6] (.cond (.t 13) (cS [oI 4 1] .ret) .skip)) (.seq (cS [oM 14 0,oM 15 1,oT 16 .lss 14 15] (.cond (.t 16) (cS [oI 4 (-1-0)] .ret) .skip)) (.seq (cS [oM 17 0,oM 18 1,oT 19 .gtr 17 18] (.cond (.t 19) (cS [oI 4 1] .ret) .skip)) (cS [oI 4 0] .ret))))))))⟩
def iO (mo:Nat):bp:=⟨20,[(.tmp 4)],(cS [oI 4 0] (cS [oM 7 0,oC 8 mo 7,oM 5 8] (cS [oM 9 1,oC 10 mo 9,oM 6 10] (.seq (cS [oM 11 5] (.cond (.t 11) (.seq (cS [oM 12 6] (.cond (.t 12) (cS [oI 4 0] .ret) .skip)) (cS [oI 4 (-1-0)] .ret)) .skip)) (.seq (cS [oM 13 6] (.cond (.t 13) (cS [oI 4 1] .ret) .skip)) (.seq (cS [oM 14 0,oM 15 1,oT 16 .lss 14 15] (.cond (.t 16) (cS [oI 4 (-1-0)] .ret) .skip)) (.seq (cS [oM 17 0,oM 18 1,oT 19 .gtr 17 18] (.cond (.t 19) (cS [oI 4 1] .ret) .skip)) (cS [oI 4 0] .ret))))))))⟩
def cH:bp:=⟨8,[(.tmp 2)],(cS [oZ 2] (.seq (cS [oM 3 0,⟨some 4,.bin .eql .slice (.t 3) (.c .nils),none⟩] (.cond (.t 4) (cS [oZ 2] .ret) .skip)) (cS [⟨some 5,.buildSl 1 0 (.int .u32 0) [],none⟩,oM 6 0,Sp 7 1 4 5 6,oM 2 7] .ret)))⟩
end Go.VL
end

section
set_option maxRecDepth 100000
namespace Go.VL
def dX:bp:=⟨21,[(.tmp 2)],(cS [oZ 2] (.seq (.block 0 (.loop (.seq (cS [oM 3 0,oN 4 3,dr 5 .gtr 4 0,oM 6 5,gM 7 0 6 true,gM 8 0 6 true,gN 9 8 6 true,⟨some 10,.bin .sub .int (.t 9) (.c (.int .i64 1)),some (6,true)⟩,⟨some 11,.iaddrS 1 (.t 7) (.t 10),some (6,true)⟩,gL 12 1 11 6 true,⟨some 13,.bin .eql .int (.t 12) (.c (.int .u32 0)),some (6,true)⟩,Fs 14 6 13] (.cond (.t 14) .skip (.exit 0))) (.block 1 (cR [oM 15 0,oM 16 0,oN 17 16,dr 18 .sub 17 1,⟨some 19,.slice 1 (.t 15) none (some (.t 18)) none,none⟩,oM 0 19]))))) (cS [oM 20 0,oM 2 20] .ret)))⟩
def ig:bp:=⟨21,[(.tmp 2)],(cS [⟨some 2,.mv (.c (.int .u64 0)),none⟩] (cS [⟨some 3,.mv (.c (.int .u64 0)),none⟩] (.seq (cS [oM 5 0,oN 6 5,dr 7 .sub 6 1,oM 4 7] (.block 0 (.loop (.seq (cS [oM 8 4,dr 9 .geq 8 0] (.cond (.t 9) .skip (.exit 0))) (.seq (.block 1 (cR [oM 12 3,⟨some 13,.bin .shl .int (.t 12) (.c (.int .u64 32)),none⟩,oM 14 0,oM 15 4,oA 16 1 14 15,oL 17 1 16,oK 18 .u64 17,oT 19 .or 13 18,oM 3 19])) (cR [oM 10 4,dr 11 .sub 10 1,oM 4 11])))))) (cS [oM 20 3,oM 2 20] .ret))))⟩
def gl:bp:=⟨41,[(.tmp 4)],(cS [oI 4 0] (.seq (cS [oM 6 0,oN 7 6,oM 8 1,oN 9 8,oT 10 .neq 7 9] (.cond (.t 10) (.seq (cS [oM 11 0,oN 12 11,oM 13 1,oN 14 13,oT 15 .lss 12 14] (.cond (.t 15) (cS [oI 4 (-1-0)] .ret) .skip)) (cS [oI 4 1] .ret)) .skip)) (.seq (cS [oM 16 0,oN 17 16,dr 18 .sub 17 1,oM 5 18] (.block 0 (.loop (.seq (cS [oM 19 5,dr 20 .geq 19 0] (.cond (.t 20) .skip (.exit 0))) (.seq (.block 1 (.seq (.seq (.reg (some []) [oM 23 0,oM 24 5,oA 25 1 23 24,oL 26 1 25,oM 27 1,oM 28 5,oA 29 1 27 28,oL 30 1 29,oT 31 .lss 26 30]) (.cond (.t 31) (cS [oI 4 (-1-0)] .ret) .skip)) (.seq (.reg (some []) [oM 32 0,oM 33 5,oA 34 1 32 33,oL 35 1 34,oM 36 1,oM 37 5,oA 38 1 36 37,oL 39 1 38,oT 40 .gtr 35 39]) (.cond (.t 40) (cS [oI 4 1] .ret) .skip)))) (cR [oM 21 5,dr 22 .sub 21 1,oM 5 22])))))) (cS [oI 4 0] .ret))))⟩
def iy (aD:Nat):bp:=⟨58,[(.tmp 4)],(cS [oZ 4] (.seq (cS [oM 8 0,oN 9 8,oM 10 1,oN 11 10,oT 12 .lss 9 11] (.cond (.t 12) (cR [oM 13 1,oM 14 0,oM 0 13,oM 1 14]) .skip)) (cS [oM 15 0,oN 16 15,dr 17 .add 16 1,⟨some 18,.mksl 1 4 (.int .u32 0) (.t 17) (.t 17),none⟩,oM 5 18] (cS [⟨some 6,.mv (.c (.int .u64 0)),none⟩] (.seq (cS [oI 7 0] (.block 0 (.loop (.seq (cS [oM 19 7,oM 20 0,oN 21 20,oT 22 .lss 19 21] (.cond (.t 22) .skip (.exit 0))) (.seq (.block 1 (cS [oM 25 6,oM 26 0,oM 27 7,oA 28 1 26 27,oL 29 1 28,oK 30 .u64 29,oT 31 .add 25 30,oM 6 31] (.seq (cS [oM 32 7,oM 33 1,oN 34 33,oT 35 .lss 32 34] (.cond (.t 35) (cR [oM 36 6,oM 37 1,oM 38 7,oA 39 1 37 38,oL 40 1 39,oK 41 .u64 40,oT 42 .add 36 41,oM 6 42]) .skip)) (cS [oM 43 5,oM 44 7,oM 45 6,oK 46 .u32 45,oA 47 1 43 44,oS 1 47 46] (cR [oM 48 6,⟨some 49,.bin .shr .int (.t 48) (.c (.int .u64 32)),none⟩,oM 6 49]))))) (cR [oM 23 7,dr 24 .add 23 1,oM 7 24])))))) (cS [oM 50 5,oM 51 0,oN 52 51,oM 53 6,oK 54 .u32 53,oA 55 1 50 52,oS 1 55 54] (cS [oM 56 5,oC 57 aD 56,oM 4 57] .ret)))))))⟩
def df (aD:Nat):bp:=⟨48,[(.tmp 4)],(cS [oZ 4] (cS [oM 10 0,oN 11 10,⟨some 12,.mksl 1 4 (.int .u32 0) (.t 11) (.t 11),none⟩,oM 5 12] (cS [⟨some 6,.mv (.c (.int .u64 0)),none⟩] (.seq (cS [oI 7 0] (.block 0 (.loop (.seq (cS [oM 13 7,oM 14 0,oN 15 14,oT 16 .lss 13 15] (.cond (.t 16) .skip (.exit 0))) (.seq (.block 1 (cS [⟨some 8,.mv (.c (.int .u64 0)),none⟩] (.seq (cS [oM 19 7,oM 20 1,oN 21 20,oT 22 .lss 19 21] (.cond (.t 22) (cR [oM 23 1,oM 24 7,oA 25 1 23 24,oL 26 1 25,oK 27 .u64 26,oM 8 27]) .skip)) (cS [oM 28 0,oM 29 7,oA 30 1 28 29,oL 31 1 30,oK 32 .u64 31,⟨some 33,.bin .add .int (.t 32) (.c (.int .u64 4294967296)),none⟩,oM 34 8,oT 35 .sub 33 34,oM 36 6,oT 37 .sub 35 36,oM 9 37] (cS [oM 38 5,oM 39 7,oM 40 9,oK 41 .u32 40,oA 42 1 38 39,oS 1 42 41] (cR [oM 43 9,⟨some 44,.bin .shr .int (.t 43) (.c (.int .u64 32)),none⟩,⟨some 45,.bin .sub .int (.c (.int .u64 1)) (.t 44),none⟩,oM 6 45])))))) (cR [oM 17 7,dr 18 .add 17 1,oM 7 18])))))) (cS [oM 46 5,oC 47 aD 46,oM 4 47] .ret)))))⟩
def cJ (aD:Nat):bp:=⟨67,[(.tmp 4)],(cS [oZ 4] (cS [oM 9 0,oN 10 9,oM 11 1,oN 12 11,oT 13 .add 10 12,⟨some 14,.mksl 1 4 (.int .u32 0) (.t 13) (.t 13),none⟩,oM 5 14] (.seq (cS [oI 6 0] (.block 0 (.loop (.seq (cS [oM 15 6,oM 16 0,oN 17 16,oT 18 .lss 15 17] (.cond (.t 18) .skip (.exit 0))) (.seq (.block 1 (cS [⟨some 7,.mv (.c (.int .u64 0)),none⟩] (.seq (cS [oI 8 0] (.block 2 (.loop (.seq (cS [oM 21 8,oM 22 1,oN 23 22,oT 24 .lss 21 23] (.cond (.t 24) .skip (.exit 2))) (.seq (.block 3 (.seq (.reg (some []) [oM 27 7,oM 28 5,oM 29 6,oM 30 8,oT 31 .add 29 30,oA 32 1 28 31,oL 33 1 32,oK 34 .u64 33,oT 35 .add 27 34,oM 36 0,oM 37 6,oA 38 1 36 37,oL 39 1 38,oK 40 .u64 39,oM 41 1,oM 42 8,oA 43 1 41 42,oL 44 1 43,oK 45 .u64 44,oT 46 .mul 40 45,oT 47 .add 35 46,oM 7 47]) (cS [oM 48 5,oM 49 6,oM 50 8,oT 51 .add 49 50,oM 52 7,oK 53 .u32 52,oA 54 1 48 51,oS 1 54 53] (cR [oM 55 7,⟨some 56,.bin .shr .int (.t 55) (.c (.int .u64 32)),none⟩,oM 7 56])))) (cR [oM 25 8,dr 26 .add 25 1,oM 8 26])))))) (cR [oM 57 5,oM 58 6,oM 59 1,oN 60 59,oT 61 .add 58 60,oM 62 7,oK 63 .u32 62,oA 64 1 57 61,oS 1 64 63])))) (cR [oM 19 6,dr 20 .add 19 1,oM 6 20])))))) (cS [oM 65 5,oC 66 aD 65,oM 4 66] .ret))))⟩
def jn (aD:Nat):bp:=⟨43,[(.tmp 4),(.tmp 5)],(cS [oZ 4,⟨some 5,.mv (.c (.int .u32 0)),none⟩] (cS [oM 9 0,oN 10 9,⟨some 11,.mksl 1 4 (.int .u32 0) (.t 10) (.t 10),none⟩,oM 6 11] (cS [⟨some 7,.mv (.c (.int .u64 0)),none⟩] (.seq (cS [oM 12 0,oN 13 12,dr 14 .sub 13 1,oM 8 14] (.block 0 (.loop (.seq (cS [oM 15 8,dr 16 .geq 15 0] (.cond (.t 16) .skip (.exit 0))) (.seq (.block 1 (cS [oM 19 7,⟨some 20,.bin .shl .int (.t 19) (.c (.int .u64 32)),none⟩,oM 21 0,oM 22 8,oA 23 1 21 22,oL 24 1 23,oK 25 .u64 24,oT 26 .or 20 25,oM 7 26] (cS [oM 27 6,oM 28 8,oM 29 7,oM 30 1,oK 31 .u64 30,oT 32 .quo 29 31,oK 33 .u32 32,oA 34 1 27 28,oS 1 34 33] (cR [oM 35 7,oM 36 1,oK 37 .u64 36,oT 38 .rem 35 37,oM 7 38])))) (cR [oM 17 8,dr 18 .sub 17 1,oM 8 18])))))) (cS [oM 39 6,oC 40 aD 39,oM 41 7,oK 42 .u32 41,oM 4 40,oM 5 42] .ret)))))⟩
def dJ:bp:=⟨26,[(.tmp 2)],(cS [oI 2 0] (.seq (cS [oM 5 0,oN 6 5,dr 7 .eql 6 0] (.cond (.t 7) (cS [oI 2 0] .ret) .skip)) (cS [oI 3 0] (.seq (cS [oM 8 0,oM 9 0,oN 10 9,dr 11 .sub 10 1,oA 12 1 8 11,oL 13 1 12,oM 4 13] (.block 0 (.loop (.seq (cS [oM 14 4,⟨some 15,.bin .gtr .int (.t 14) (.c (.int .u32 0)),none⟩] (.cond (.t 15) .skip (.exit 0))) (.seq (.block 1 (cR [oM 18 3,dr 19 .add 18 1,oM 3 19])) (cR [oM 16 4,⟨some 17,.bin .quo .int (.t 16) (.c (.int .u32 2)),none⟩,oM 4 17])))))) (cS [oM 20 0,oN 21 20,dr 22 .sub 21 1,⟨some 23,.bin .mul .int (.c (.int .i64 32)) (.t 22),none⟩,oM 24 3,oT 25 .add 23 24,oM 2 25] .ret)))))⟩
def eu:bp:=⟨43,[(.tmp 4)],(cS [oZ 4] (cS [oM 8 0,oN 9 8,dr 10 .add 9 1,⟨some 11,.mksl 1 4 (.int .u32 0) (.t 10) (.t 10),none⟩,oM 5 11] (.seq (cS [oI 6 0] (.block 0 (.loop (.seq (cS [oM 12 6,oM 13 0,oN 14 13,oT 15 .lss 12 14] (.cond (.t 15) .skip (.exit 0))) (.seq (.block 1 (cS [oM 18 0,oM 19 6,oA 20 1 18 19,oL 21 1 20,oK 22 .u64 21,oM 23 1,oT 24 .shl 22 23,oM 7 24] (cS [oM 25 5,oM 26 6,oM 27 5,oM 28 6,oA 29 1 27 28,oL 30 1 29,oM 31 7,oK 32 .u32 31,oT 33 .or 30 32,oA 34 1 25 26,oS 1 34 33] (cR [oM 35 5,oM 36 6,dr 37 .add 36 1,oM 38 7,⟨some 39,.bin .shr .int (.t 38) (.c (.int .u64 32)),none⟩,oK 40 .u32 39,oA 41 1 35 37,oS 1 41 40])))) (cR [oM 16 6,dr 17 .add 16 1,oM 6 17])))))) (cS [oM 42 5,oM 4 42] .ret))))⟩
def iz (aD:Nat):bp:=⟨45,[(.tmp 4)],(cS [oZ 4] (cS [oM 8 0,oN 9 8,⟨some 10,.mksl 1 4 (.int .u32 0) (.t 9) (.t 9),none⟩,oM 5 10] (.seq (cS [oI 6 0] (.block 0 (.loop (.seq (cS [oM 11 6,oM 12 0,oN 13 12,oT 14 .lss 11 13] (.cond (.t 14) .skip (.exit 0))) (.seq (.block 1 (cS [oM 17 0,oM 18 6,oA 19 1 17 18,oL 20 1 19,oK 21 .u64 20,oM 7 21] (.seq (cS [oM 22 6,dr 23 .add 22 1,oM 24 0,oN 25 24,oT 26 .lss 23 25] (.cond (.t 26) (cR [oM 27 7,oM 28 0,oM 29 6,dr 30 .add 29 1,oA 31 1 28 30,oL 32 1 31,oK 33 .u64 32,⟨some 34,.bin .shl .int (.t 33) (.c (.int .u64 32)),none⟩,oT 35 .or 27 34,oM 7 35]) .skip)) (cR [oM 36 5,oM 37 6,oM 38 7,oM 39 1,oT 40 .shr 38 39,oK 41 .u32 40,oA 42 1 36 37,oS 1 42 41])))) (cR [oM 15 6,dr 16 .add 15 1,oM 6 16])))))) (cS [oM 43 5,oC 44 aD 43,oM 4 44] .ret))))⟩
def fh (ij aD cm dh:Nat):bp:=⟨51,[(.tmp 4),(.tmp 5)],(cS [⟨some 4,.mv (.c (.int .u32 0)),none⟩,oZ 5] (cS [oM 9 1,oN 10 9,oM 6 10] (.seq (.reg (some []) [oM 11 0,oM 12 6,oA 13 1 11 12,oL 14 1 13,oK 15 .u64 14,⟨some 16,.bin .shl .int (.t 15) (.c (.int .u64 32)),none⟩,oM 17 0,oM 18 6,dr 19 .sub 18 1,oA 20 1 17 19,oL 21 1 20,oK 22 .u64 21,oT 23 .or 16 22,oM 24 1,oM 25 6,dr 26 .sub 25 1,oA 27 1 24 26,oL 28 1 27,oK 29 .u64 28,oT 30 .quo 23 29,oM 7 30]) (.seq (cS [oM 31 7,⟨some 32,.bin .gtr .int (.t 31) (.c (.int .u64 4294967295)),none⟩] (.cond (.t 32) (cR [⟨some 7,.mv (.c (.int .u64 4294967295)),none⟩]) .skip)) (cS [oM 33 1,oM 34 7,oK 35 .u32 34,⟨some 36,.buildSl 1 1 (.int .u32 0) [(0,(.t 35))],none⟩,lB 37 ij 33 36,oM 8 37] (.seq (.block 0 (.loop (.seq (cS [oM 38 0,oC 39 aD 38,oM 40 8,lB 41 cm 39 40,dr 42 .lss 41 0] (.cond (.t 42) .skip (.exit 0))) (.block 1 (cS [oM 43 7,⟨some 44,.bin .sub .int (.t 43) (.c (.int .u64 1)),none⟩,oM 7 44] (cR [oM 45 8,oM 46 1,lB 47 dh 45 46,oM 8 47])))))) (cS [oM 48 7,oK 49 .u32 48,oM 50 8,oM 4 49,oM 5 50] .ret)))))))⟩
def gO (cm kf il rY gP ju aD pC dh qj:Nat):bp:=⟨128,[(.tmp 4),(.tmp 5)],(cS [oZ 4,oZ 5] (.seq (cS [oM 20 0,oM 21 1,lB 22 cm 20 21,dr 23 .lss 22 0] (.cond (.t 23) (cS [oM 24 0,oZ 4,oM 5 24] .ret) .skip)) (.seq (cS [oM 25 0,oN 26 25,dr 27 .leq 26 2] (.cond (.t 27) (cS [oM 28 0,oC 29 kf 28,oM 30 1,oC 31 kf 30,oM 6 29,oM 7 31] (.seq (.reg (some []) [oM 32 6,oM 33 7,oT 34 .quo 32 33,oC 35 il 34,oM 36 6,oM 37 7,oT 38 .rem 36 37,oC 39 il 38,oM 4 35,oM 5 39]) .ret)) .skip)) (.seq (cS [oM 40 1,oN 41 40,dr 42 .eql 41 1] (.cond (.t 42) (cS [oM 44 0,oM 45 1,⟨some 46,.iaddrS 1 (.t 45) (.c (.int .i64 0)),none⟩,oL 47 1 46,lB 48 rY 44 47,oM 43 48,oE 49 43 0,oE 50 43 1,oM 8 49,oM 9 50] (cS [oM 51 8,oM 52 9,oK 53 .u64 52,oC 54 il 53,oM 4 51,oM 5 54] .ret)) .skip)) (cS [oM 55 1,oN 56 55,⟨some 57,.bin .mul .int (.c (.int .i64 32)) (.t 56),none⟩,oM 58 1,oC 59 gP 58,oT 60 .sub 57 59,oM 10 60] (cS [oM 61 0,oM 62 10,lB 63 ju 61 62,oM 64 1,oM 65 10,lB 66 ju 64 65,oC 67 aD 66,oM 11 63,oM 12 67] (cS [oM 68 0,oN 69 68,⟨some 70,.mksl 1 4 (.int .u32 0) (.t 69) (.t 69),none⟩,oM 13 70] (.seq (cS [oM 71 0,oN 72 71,oM 73 12,oN 74 73,oT 75 .sub 72 74,oM 14 75] (.block 0 (.loop (.seq (cS [oM 76 14,dr 77 .geq 76 0] (.cond (.t 77) .skip (.exit 0))) (.seq (.block 1 (cS [oM 80 11,oM 81 14,oM 82 14,oM 83 12,oN 84 83,oT 85 .add 82 84,dr 86 .add 85 1,⟨some 87,.slice 1 (.t 80) (some (.t 81)) (some (.t 86)) none,none⟩,oM 15 87] (cS [oM 89 15,oM 90 12,lB 91 pC 89 90,oM 88 91,oE 92 88 0,oE 93 88 1,oM 16 92,oM 17 93] (cS [oM 94 13,oM 95 14,oM 96 16,oA 97 1 94 95,oS 1 97 96] (cS [oM 98 15,oC 99 aD 98,oM 100 17,lB 101 dh 99 100,oM 18 101] (cS [oI 19 0] (.block 2 (.loop (.seq (cS [oM 102 19,oM 103 15,oN 104 103,oT 105 .lss 102 104] (.cond (.t 105) .skip (.exit 2))) (.seq (.block 3 (cS [oM 108 15,oM 109 19,oA 110 1 108 109,⟨none,.store 1 (.t 110) (.c (.int .u32 0)),none⟩] (cS [oM 111 19,oM 112 18,oN 113 112,oT 114 .lss 111 113] (.cond (.t 114) (cR [oM 115 15,oM 116 19,oM 117 18,oM 118 19,oA 119 1 117 118,oL 120 1 119,oA 121 1 115 116,oS 1 121 120]) .skip)))) (cR [oM 106 19,dr 107 .add 106 1,oM 19 107]))))))))))) (cR [oM 78 14,dr 79 .sub 78 1,oM 14 79])))))) (cS [oM 122 13,oC 123 aD 122,oM 124 11,oC 125 aD 124,oM 126 10,lB 127 qj 125 126,oM 4 123,oM 5 127] .ret)))))))))⟩
def lu (fK qk cE cm dh:Nat):bp:=⟨44,[(.cell 4 true 2)],(cS [oX 2 0,oX 3 1,⟨some 4,.box (.c (.agg [(.bool false),.nils])),none⟩] (.seq (.reg (some [(1,2)]) [xh 5 2 2,oC 6 fK 5,xh 7 2 3,oC 8 fK 7,oS 2 2 6,oS 2 3 8]) (.seq (cS [oF 9 0 2,oL 10 1 9,oF 11 0 3,oL 12 1 11,⟨some 13,.bin .eql .bool (.t 10) (.t 12),none⟩] (.cond (.t 13) (.seq (.reg (some [(1,6)]) [oF 14 0 2,oL 15 1 14,oF 16 1 2,oL 17 1 16,oF 18 1 3,oL 19 1 18,lB 20 qk 17 19,lB 21 cE 15 20,oS 2 4 21]) .ret) .skip)) (.seq (cS [oF 22 1 2,oL 23 1 22,oF 24 1 3,oL 25 1 24,lB 26 cm 23 25,dr 27 .geq 26 0] (.cond (.t 27) (.seq (.reg (some [(1,6)]) [oF 28 0 2,oL 29 1 28,oF 30 1 2,oL 31 1 30,oF 32 1 3,oL 33 1 32,lB 34 dh 31 33,lB 35 cE 29 34,oS 2 4 35]) .ret) .skip)) (.seq (.reg (some [(1,6)]) [oF 36 0 3,oL 37 1 36,oF 38 1 3,oL 39 1 38,oF 40 1 2,oL 41 1 40,lB 42 dh 39 41,lB 43 cE 37 42,oS 2 4 43]) .ret)))))⟩
def iP (aD oe cE:Nat):bp:=⟨28,[(.cell 4 true 2)],(cS [oX 2 0,oX 3 1,⟨some 4,.box (.c (.agg [(.bool false),.nils])),none⟩] (.seq (.reg (some [(2,4)]) [oF 9 1 2,oL 10 1 9,oC 11 aD 10,oF 12 1 3,oL 13 1 12,oC 14 aD 13,oM 5 11,oM 6 14]) (.seq (.block 0 (.loop (.seq (cS [oM 15 6,oN 16 15,dr 17 .gtr 16 0] (.cond (.t 17) .skip (.exit 0))) (.block 1 (cS [oM 19 5,oM 20 6,lB 21 oe 19 20,oM 18 21,oE 22 18 0,oE 23 18 1,oM 7 22,oM 8 23] (cR [oM 24 6,oM 25 8,oM 5 24,oM 6 25])))))) (cS [oM 26 5,⟨some 27,.call (.f cE) [(.c (.bool false)),(.t 26)],none⟩,oS 2 4 27] .ret))))⟩
end Go.VL
end

section
set_option maxRecDepth 100000
namespace Go.VL
def FB (zw:Nat):bp:=⟨29,[(.tmp 4)],(cS [oZ 4] (cS [oM 7 0,oN 8 7,⟨some 9,.mksl 4 64 (.agg [(.bool false),.nils,(.bool false),.nils]) (.t 8) (.t 8),none⟩,oM 5 9] (.seq (cS [oM 10 5,oN 11 10,oI 12 0] (.block 0 (.loop (cS [oT 13 .lss 12 11] (.seq (.cond (.t 13) .skip (.exit 0)) (.seq (.block 1 (cS [oM 14 12,oM 6 14] (.reg (some []) [oM 15 5,oM 16 6,oM 17 0,oM 18 6,oA 19 4 17 18,xh 20 4 19,oM 21 1,oM 22 6,oA 23 4 21 22,xh 24 4 23,lB 25 zw 20 24,oA 26 4 15 16,oS 4 26 25]))) (cR [dr 27 .add 12 1,oM 12 27]))))))) (cS [oM 28 5,oM 4 28] .ret))))⟩
def ld (jK:Nat):bp:=⟨18,[(.tmp 2)],(cS [oZ 2] (cS [oM 5 0,⟨some 6,.mksl 4 64 (.agg [(.bool false),.nils,(.bool false),.nils]) (.t 5) (.t 5),none⟩,oM 3 6] (.seq (cS [oM 7 3,oN 8 7,oI 9 0] (.block 0 (.loop (cS [oT 10 .lss 9 8] (.seq (.cond (.t 10) .skip (.exit 0)) (.seq (.block 1 (cS [oM 11 9,oM 4 11] (cR [oM 12 3,oM 13 4,⟨some 14,.call (.f jK) [(.c (.int .i64 0))],none⟩,oA 15 4 12 13,oS 4 15 14]))) (cR [dr 16 .add 9 1,oM 9 16]))))))) (cS [oM 17 3,oM 2 17] .ret))))⟩
def lI (uP wm AQ:Nat):bp:=⟨22,[(.tmp 4)],(cS [oX 3 1,oZ 4] (.seq (cS [oM 6 0,oC 7 uP 6,oNo 8 7,oM 9 8,OW 10 4 3 9 false,⟨some 11,.call (.f wm) [.t 10],some (9,false)⟩,⟨some 12,.un .not (.t 11),some (9,false)⟩,JZ 13 9 12] (.cond (.t 13) (cS [oZ 4] .ret) .skip)) (cS [oM 14 0,oN 15 14,⟨some 16,.bin .shl .int (.c (.int .i64 1)) (.t 15),none⟩,oC 17 AQ 16,oM 5 17] (cS [oM 18 5,xh 19 4 3,⟨some 20,.iaddrS 4 (.t 18) (.c (.int .i64 0)),none⟩,oS 4 20 19] (cS [oM 21 5,oM 4 21] .ret)))))⟩
def cA:bp:=⟨8,[(.tmp 2)],(cS [oZ 2] (.seq (cS [oM 3 0,⟨some 4,.bin .eql .slice (.t 3) (.c .nils),none⟩] (.cond (.t 4) (cS [oZ 2] .ret) .skip)) (cS [⟨some 5,.buildSl 4 0 (.agg [(.bool false),.nils,(.bool false),.nils]) [],none⟩,oM 6 0,Sp 7 4 64 5 6,oM 2 7] .ret)))⟩
def uQ (dQ jK:Nat):bp:=⟨19,[(.tmp 4)],(cS [oZ 4] (cS [oM 6 1,oC 7 dQ 6,oM 5 7] (.seq (.block 0 (.loop (.seq (cS [oM 8 5,oN 9 8,oM 10 0,oN 11 10,⟨some 12,.bin .shl .int (.c (.int .i64 1)) (.t 11),none⟩,oT 13 .lss 9 12] (.cond (.t 13) .skip (.exit 0))) (.block 1 (cR [oM 14 5,⟨some 15,.call (.f jK) [(.c (.int .i64 0))],none⟩,⟨some 16,.buildSl 4 1 (.agg [(.bool false),.nils,(.bool false),.nils]) [(0,(.t 15))],none⟩,Sp 17 4 64 14 16,oM 5 17]))))) (cS [oM 18 5,oM 4 18] .ret))))⟩
def kS (AR:Nat):bp:=⟨39,[(.cell 6 true 2),(.tmp 7)],(cS [oX 3 0,oX 4 1,⟨some 6,.box (.c (.agg [.nils,.nils])),none⟩,oI 7 0] (cS [xh 12 2 3,xh 13 2 4,⟨some 14,.buildSl 2 2 (.agg [.nils,.nils]) [(0,(.t 12)),(1,(.t 13))],none⟩,oC 15 AR 14,oM 11 15,oE 16 11 0,oE 17 11 1,oM 8 16,oM 9 17] (.seq (cS [oM 18 9,dr 19 .neq 18 0] (.cond (.t 19) (cS [⟨some 20,.build [.nils,.nils] [],none⟩,oM 21 9,oS 2 6 20,oM 7 21] .ret) .skip)) (cS [oM 22 8,⟨some 23,.iaddrS 2 (.t 22) (.c (.int .i64 0)),none⟩,oF 24 0 23,oL 25 1 24,oM 10 25] (.seq (.reg (some []) [oM 26 10,oM 27 2,oM 28 10,oM 29 8,⟨some 30,.iaddrS 2 (.t 29) (.c (.int .i64 0)),none⟩,oF 31 1 30,oL 32 1 31,oM 33 8,⟨some 34,.iaddrS 2 (.t 33) (.c (.int .i64 1)),none⟩,oF 35 1 34,oL 36 1 35,⟨some 37,.call (.t 27) [(.t 28),(.t 32),(.t 36)],none⟩,⟨some 38,.build [.nils,.nils] [(0,(1,(.t 26))),(1,(1,(.t 37)))],none⟩,oS 2 6 38,oI 7 0]) .ret)))))⟩
end Go.VL
end

section
set_option maxRecDepth 100000
namespace Go.VL
def qN (qO ql lv nH nI qm lx qP:Nat):bp:=⟨81,[(.tmp 4),(.tmp 5)],(cS [oZ 4,oI 5 0] (.seq (cS [oM 12 0,oN 13 12,dr 14 .eql 13 0] (.cond (.t 14) (.seq (cS [oM 15 1,⟨some 16,.iaddrS 4 (.t 15) (.c (.int .i64 0)),none⟩,oF 17 0 16,oF 18 1 17,oL 19 1 18,oN 20 19,dr 21 .eql 20 0] (.cond (.t 21) (cS [oZ 4,oI 5 6] .ret) .skip)) (cS [oM 22 1,⟨some 23,.iaddrS 4 (.t 22) (.c (.int .i64 0)),none⟩,xh 24 4 23,oC 25 qO 24,⟨some 26,.buildSl 4 1 (.agg [(.bool false),.nils,(.bool false),.nils]) [(0,(.t 25))],none⟩,oM 4 26,oI 5 0] .ret)) .skip)) (cS [oM 27 1,oN 28 27,dr 29 .quo 28 2,oM 6 29] (cS [oM 30 0,oM 31 0,oN 32 31,dr 33 .sub 32 1,⟨some 34,.slice 1 (.t 30) none (some (.t 33)) none,none⟩,oM 7 34] (.seq (cS [oM 35 1,oM 36 6,⟨some 37,.slice 4 (.t 35) (some (.t 36)) none none,none⟩,oC 38 ql 37] (.cond (.t 38) (cS [oM 40 7,oM 41 1,oM 42 6,⟨some 43,.slice 4 (.t 41) none (some (.t 42)) none,none⟩,lB 44 lv 40 43,oM 39 44,oE 45 39 0,oE 46 39 1,oM 8 45,oM 9 46] (.seq (cS [oM 47 9,dr 48 .neq 47 0] (.cond (.t 48) (cS [oM 49 9,oZ 4,oM 5 49] .ret) .skip)) (cS [oM 50 8,oM 51 7,⟨some 52,.call (.f nH) [(.c (.int .i64 0))],none⟩,lB 53 nI 51 52,Sp 54 4 64 50 53,oM 4 54,oI 5 0] .ret))) .skip)) (cS [oM 56 7,oM 57 0,oM 58 1,lB 59 qm 57 58,lB 60 lv 56 59,oM 55 60,oE 61 55 0,oE 62 55 1,oM 10 61,oM 11 62] (.seq (cS [oM 63 11,dr 64 .neq 63 0] (.cond (.t 64) (cS [oM 65 11,oZ 4,oM 5 65] .ret) .skip)) (.seq (.reg (some [(5,10)]) [oM 66 7,oM 67 1,oM 68 6,⟨some 69,.slice 4 (.t 67) none (some (.t 68)) none,none⟩,oM 70 10,⟨some 71,.call (.f lx) [(.t 66),(.t 69),(.t 70)],none⟩,oM 72 7,oM 73 7,oM 74 1,oM 75 6,⟨some 76,.slice 4 (.t 74) (some (.t 75)) none none,none⟩,lB 77 qP 73 76,oM 78 10,⟨some 79,.call (.f lx) [(.t 72),(.t 77),(.t 78)],none⟩,Sp 80 4 64 71 79,oM 4 80,oI 5 0]) .ret))))))))⟩
def gQ:bp:=⟨20,[(.tmp 2)],(cS [⟨some 2,.mv (.c (.str [])),none⟩] (cS [⟨some 3,.mv (.c (.str [])),none⟩] (.seq (.block 0 (.loop (.seq (cS [oM 4 3,⟨some 5,.bin .eql .str (.t 4) (.c (.str [])),none⟩,oM 6 5,gM 7 0 6 false,⟨some 8,.bin .gtr .int (.t 7) (.c (.int .i64 0)),some (6,false)⟩,JZ 9 6 8] (.cond (.t 9) .skip (.exit 0))) (.block 1 (cS [oM 10 0,dr 11 .rem 10 10,⟨some 12,.bin .add .int (.c (.int .i64 48)) (.t 11),none⟩,oK 13 .i32 12,⟨some 14,.idStr (.t 13),none⟩,oM 15 3,⟨some 16,.bin .add .str (.t 14) (.t 15),none⟩,oM 3 16] (cR [oM 17 0,dr 18 .quo 17 10,oM 0 18])))))) (cS [oM 19 3,oM 2 19] .ret))))⟩
def iA (dY iB:Nat):bp:=⟨37,[(.cell 2 true 4)],(cS [⟨some 2,.box (.c (.agg [.nils,.nils,.nils,.nils])),none⟩] (cS [⟨some 5,.build [(.int .i64 0),(.int .i64 0),(.int .i64 0)] [(0,(1,(.c (.int .i64 1)))),(1,(1,(.c (.int .i64 0)))),(2,(1,(.c (.int .i64 1))))],none⟩,⟨some 6,.build [(.int .i64 0),(.int .i64 0),(.int .i64 0)] [(0,(1,(.c (.int .i64 3)))),(1,(1,(.c (.int .i64 4)))),(2,(1,(.c (.int .i64 5))))],none⟩,⟨some 7,.build [(.int .i64 0),(.int .i64 0),(.int .i64 0)] [(0,(1,(.c (.int .i64 0)))),(1,(1,(.c (.int .i64 1)))),(2,(1,(.c (.int .i64 1))))],none⟩,⟨some 8,.build [(.int .i64 0),(.int .i64 0),(.int .i64 0)] [(0,(1,(.c (.int .i64 (-1-0))))),(1,(1,(.c (.int .i64 0)))),(2,(1,(.c (.int .i64 1))))],none⟩,⟨some 9,.build [(.int .i64 0),(.int .i64 0),(.int .i64 0)] [(0,(1,(.c (.int .i64 0)))),(1,(1,(.c (.int .i64 (-1-0))))),(2,(1,(.c (.int .i64 1))))],none⟩,⟨some 10,.build [(.int .i64 0),(.int .i64 0),(.int .i64 0)] [(0,(1,(.c (.int .i64 4)))),(1,(1,(.c (.int .i64 3)))),(2,(1,(.c (.int .i64 5))))],none⟩,⟨some 11,.build [(.int .i64 0),(.int .i64 0),(.int .i64 0)] [(0,(1,(.c (.int .i64 (-1-2))))),(1,(1,(.c (.int .i64 4)))),(2,(1,(.c (.int .i64 5))))],none⟩,⟨some 12,.build [(.int .i64 0),(.int .i64 0),(.int .i64 0)] [(0,(1,(.c (.int .i64 (-1-3))))),(1,(1,(.c (.int .i64 3)))),(2,(1,(.c (.int .i64 5))))],none⟩,⟨some 13,.build [(.int .i64 0),(.int .i64 0),(.int .i64 0)] [(0,(1,(.c (.int .i64 (-1-3))))),(1,(1,(.c (.int .i64 (-1-2))))),(2,(1,(.c (.int .i64 5))))],none⟩,⟨some 14,.build [(.int .i64 0),(.int .i64 0),(.int .i64 0)] [(0,(1,(.c (.int .i64 (-1-2))))),(1,(1,(.c (.int .i64 (-1-3))))),(2,(1,(.c (.int .i64 5))))],none⟩,⟨some 15,.build [(.int .i64 0),(.int .i64 0),(.int .i64 0)] [(0,(1,(.c (.int .i64 3)))),(1,(1,(.c (.int .i64 (-1-3))))),(2,(1,(.c (.int .i64 5))))],none⟩,⟨some 16,.build [(.int .i64 0),(.int .i64 0),(.int .i64 0)] [(0,(1,(.c (.int .i64 4)))),(1,(1,(.c (.int .i64 (-1-2))))),(2,(1,(.c (.int .i64 5))))],none⟩,⟨some 17,.build [(.int .i64 0),(.int .i64 0),(.int .i64 0)] [(0,(1,(.c (.int .i64 5)))),(1,(1,(.c (.int .i64 12)))),(2,(1,(.c (.int .i64 13))))],none⟩,⟨some 18,.build [(.int .i64 0),(.int .i64 0),(.int .i64 0)] [(0,(1,(.c (.int .i64 12)))),(1,(1,(.c (.int .i64 5)))),(2,(1,(.c (.int .i64 13))))],none⟩,⟨some 19,.build [(.int .i64 0),(.int .i64 0),(.int .i64 0)] [(0,(1,(.c (.int .i64 (-1-4))))),(1,(1,(.c (.int .i64 12)))),(2,(1,(.c (.int .i64 13))))],none⟩,⟨some 20,.build [(.int .i64 0),(.int .i64 0),(.int .i64 0)] [(0,(1,(.c (.int .i64 24)))),(1,(1,(.c (.int .i64 7)))),(2,(1,(.c (.int .i64 25))))],none⟩,⟨some 21,.build [(.int .i64 0),(.int .i64 0),(.int .i64 0),(.int .i64 0),(.int .i64 0),(.int .i64 0),(.int .i64 0),(.int .i64 0),(.int .i64 0),(.int .i64 0),(.int .i64 0),(.int .i64 0),(.int .i64 0),(.int .i64 0),(.int .i64 0),(.int .i64 0),(.int .i64 0),(.int .i64 0),(.int .i64 0),(.int .i64 0),(.int .i64 0),(.int .i64 0),(.int .i64 0),(.int .i64 0),(.int .i64 0),(.int .i64 0),(.int .i64 0),(.int .i64 0),(.int .i64 0),(.int .i64 0),(.int .i64 0),(.int .i64 0),(.int .i64 0),(.int .i64 0),(.int .i64 0),(.int .i64 0),(.int .i64 0),(.int .i64 0),(.int .i64 0),(.int .i64 0),(.int .i64 0),(.int .i64 0),(.int .i64 0),(.int .i64 0),(.int .i64 0),(.int .i64 0),(.int .i64 0),(.int .i64 0)] [(0,(3,(.t 5))),(3,(3,(.t 6))),(6,(3,(.t 7))),(9,(3,(.t 8))),(12,(3,(.t 9))),(15,(3,(.t 10))),(18,(3,(.t 11))),(21,(3,(.t 12))),(24,(3,(.t 13))),(27,(3,(.t 14))),(30,(3,(.t 15))),(33,(3,(.t 16))),(36,(3,(.t 17))),(39,(3,(.t 18))),(42,(3,(.t 19))),(45,(3,(.t 20)))],none⟩,⟨some 3,.box (.c (.agg [(.int .i64 0),(.int .i64 0),(.int .i64 0),(.int .i64 0),(.int .i64 0),(.int .i64 0),(.int .i64 0),(.int .i64 0),(.int .i64 0),(.int .i64 0),(.int .i64 0),(.int .i64 0),(.int .i64 0),(.int .i64 0),(.int .i64 0),(.int .i64 0),(.int .i64 0),(.int .i64 0),(.int .i64 0),(.int .i64 0),(.int .i64 0),(.int .i64 0),(.int .i64 0),(.int .i64 0),(.int .i64 0),(.int .i64 0),(.int .i64 0),(.int .i64 0),(.int .i64 0),(.int .i64 0),(.int .i64 0),(.int .i64 0),(.int .i64 0),(.int .i64 0),(.int .i64 0),(.int .i64 0),(.int .i64 0),(.int .i64 0),(.int .i64 0),(.int .i64 0),(.int .i64 0),(.int .i64 0),(.int .i64 0),(.int .i64 0),(.int .i64 0),(.int .i64 0),(.int .i64 0),(.int .i64 0)])),none⟩,oS 48 3 21] (cS [oM 22 0,⟨some 23,.bin .rem .int (.t 22) (.c (.int .u8 16)),none⟩,⟨some 24,.iaddrA 16 3 (.t 3) (.t 23),none⟩,xh 25 3 24,⟨some 4,.box (.c (.agg [(.int .i64 0),(.int .i64 0),(.int .i64 0)])),none⟩,oS 3 4 25] (.seq (.reg (some [(4,6),(4,8)]) [⟨some 26,.iaddrA 3 1 (.t 4) (.c (.int .i64 0)),none⟩,oL 27 1 26,⟨some 28,.iaddrA 3 1 (.t 4) (.c (.int .i64 2)),none⟩,oL 29 1 28,lB 30 dY 27 29,⟨some 31,.iaddrA 3 1 (.t 4) (.c (.int .i64 1)),none⟩,oL 32 1 31,⟨some 33,.iaddrA 3 1 (.t 4) (.c (.int .i64 2)),none⟩,oL 34 1 33,lB 35 dY 32 34,lB 36 iB 30 35,oS 4 2 36]) .ret))))⟩
def lP (dY iB:Nat):bp:=⟨21,[(.cell 4 true 4)],(cS [oX 2 0,⟨some 4,.box (.c (.agg [.nils,.nils,.nils,.nils])),none⟩] (cS [oM 6 1,⟨some 7,.bin .rem .int (.t 6) (.c (.int .u8 4)),none⟩,oK 8 .i64 7,dr 9 .add 8 1,oM 5 9] (.seq (.reg (some [(4,6)]) [⟨some 10,.iaddrA 2 1 (.t 2) (.c (.int .i64 0)),none⟩,oL 11 1 10,oK 12 .i64 11,oM 13 5,lB 14 dY 12 13,⟨some 15,.iaddrA 2 1 (.t 2) (.c (.int .i64 1)),none⟩,oL 16 1 15,oK 17 .i64 16,oM 18 5,lB 19 dY 17 18,lB 20 iB 14 19,oS 4 4 20]) .ret)))⟩
def eN (pE:Nat):bp:=⟨35,[(.tmp 4),(.tmp 5)],(cS [oZ 4,oB 5 false] (.seq (cS [oM 10 0,oN 11 10,oM 12 1,oT 13 .gtr 11 12] (.cond (.t 13) (cS [oZ 4,oB 5 false] .ret) .skip)) (cS [oZ 6] (.seq (cS [oI 7 0] (.block 0 (.loop (.seq (cS [oM 14 7,oM 15 0,oN 16 15,oT 17 .lss 14 16] (.cond (.t 17) .skip (.exit 0))) (.seq (.block 1 (cS [oM 21 0,oM 22 7,oA 23 8 21 22,xh 24 8 23,oC 25 pE 24,oM 20 25,oE 26 20 0,oE 27 20 1,⟨some 8,.box (.c (.agg [(.bool false),.nils,.nils,.nils,.nils,.nils,.nils,.nils,.nils,.nils,.nils,.nils,.nils,(.bool false)])),none⟩,oS 14 8 26,oM 9 27] (.seq (cS [oM 28 9,oNo 29 28] (.cond (.t 29) (cS [oZ 4,oB 5 false] .ret) .skip)) (cR [oM 30 6,xh 31 14 8,⟨some 32,.buildSl 14 1 (.agg [(.bool false),.nils,.nils,.nils,.nils,.nils,.nils,.nils,.nils,.nils,.nils,.nils,.nils,(.bool false)]) [(0,(.t 31))],none⟩,Sp 33 14 304 30 32,oM 6 33])))) (cR [oM 18 7,dr 19 .add 18 1,oM 7 19])))))) (cS [oM 34 6,oM 4 34,oB 5 true] .ret)))))⟩
def gR (og:Nat):bp:=⟨5,[(.tmp 2)],(cS [⟨some 2,.mv (.c (.str [])),none⟩] (cS [oM 3 0,oC 4 og 3,oM 2 4] .ret))⟩
def iC (oh oi:Nat):bp:=⟨32,[(.tmp 2),(.tmp 3)],(cS [oZ 2,oB 3 false] (cS [oM 9 0,⟨some 10,.call (.f oh) [(.t 9),(.c (.int .i64 6))],none⟩,oM 8 10,oE 11 8 0,oE 12 8 1,oM 4 11,oM 5 12] (cS [oZ 6] (.seq (cS [oI 7 0] (.block 0 (.loop (.seq (cS [oM 13 7,oM 14 4,oN 15 14,oT 16 .lss 13 15] (.cond (.t 16) .skip (.exit 0))) (.seq (.block 1 (.reg (some [(2,7)]) [oM 19 6,oM 20 7,oC 21 oi 20,⟨some 22,.bin .add .str (.c (.str [107,47])) (.t 21),none⟩,oM 23 4,oM 24 7,oA 25 14 23 24,xh 26 14 25,⟨some 27,.build [(.str []),(.bool false),.nils,.nils,.nils,.nils,.nils,.nils,.nils,.nils,.nils,.nils,.nils,.nils,(.bool false)] [(0,(1,(.t 22))),(1,(14,(.t 26)))],none⟩,⟨some 28,.buildSl 15 1 (.agg [(.str []),(.bool false),.nils,.nils,.nils,.nils,.nils,.nils,.nils,.nils,.nils,.nils,.nils,.nils,(.bool false)]) [(0,(.t 27))],none⟩,Sp 29 15 320 19 28,oM 6 29])) (cR [oM 17 7,dr 18 .add 17 1,oM 7 18])))))) (cS [oM 30 6,oM 31 5,oM 2 30,oM 3 31] .ret)))))⟩
end Go.VL
end

section
set_option maxRecDepth 100000
namespace Go.VL
def dF:bp:=⟨27,[(.tmp 4)],(cS [oZ 4] (.seq (cS [oM 5 1,dr 6 .lss 5 0] (.cond (.t 6) (cR [⟨(some 7),.bad,none⟩,⟨none,.bad,none⟩]) .skip)) (.seq (cS [oM 8 1,oM 9 0,⟨some 10,.cap (.t 9),none⟩,oM 11 0,oN 12 11,oT 13 .sub 10 12,oT 14 .sub 8 13,oM 1 14] (cS [oM 15 1,dr 16 .gtr 15 0] (.cond (.t 16) (cR [oM 17 0,oM 18 0,⟨some 19,.cap (.t 18),none⟩,⟨some 20,.slice 15 (.t 17) none (some (.t 19)) none,none⟩,oM 21 1,⟨some 22,.appz 15 320 (.agg [(.str []),(.bool false),.nils,.nils,.nils,.nils,.nils,.nils,.nils,.nils,.nils,.nils,.nils,.nils,(.bool false)]) (.t 20) (.t 21),none⟩,oM 23 0,oN 24 23,⟨some 25,.slice 15 (.t 22) none (some (.t 24)) none,none⟩,oM 0 25]) .skip))) (cS [oM 26 0,oM 4 26] .ret))))⟩
def bV:bp:=⟨8,[(.tmp 2)],(cS [oZ 2] (.seq (cS [oM 3 0,⟨some 4,.bin .eql .slice (.t 3) (.c .nils),none⟩] (.cond (.t 4) (cS [oZ 2] .ret) .skip)) (cS [⟨some 5,.buildSl 15 0 (.agg [(.str []),(.bool false),.nils,.nils,.nils,.nils,.nils,.nils,.nils,.nils,.nils,.nils,.nils,.nils,(.bool false)]) [],none⟩,oM 6 0,Sp 7 15 320 5 6,oM 2 7] .ret)))⟩
def jv:bp:=⟨15,[(.tmp 2)],(cS [⟨some 2,.mv (.c (.str [])),none⟩] (.seq (cS [oM 3 0,dr 4 .lss 3 10] (.cond (.t 4) (cS [oM 5 0,oM 6 0,dr 7 .add 6 1,⟨some 8,.sliceS (.c (.str [48,49,50,51,52,53,54,55,56,57,97,98,99,100,101,102,103,104,105,106,107,108,109,110,111,112,113,114,115,116,117,118,119,120,121,122])) (some (.t 5)) (some (.t 7)),none⟩,oM 2 8] .ret) .skip)) (cS [oM 9 0,dr 10 .mul 9 2,oM 11 0,dr 12 .mul 11 2,dr 13 .add 12 2,⟨some 14,.sliceS (.c (.str [48,48,48,49,48,50,48,51,48,52,48,53,48,54,48,55,48,56,48,57,49,48,49,49,49,50,49,51,49,52,49,53,49,54,49,55,49,56,49,57,50,48,50,49,50,50,50,51,50,52,50,53,50,54,50,55,50,56,50,57,51,48,51,49,51,50,51,51,51,52,51,53,51,54,51,55,51,56,51,57,52,48,52,49,52,50,52,51,52,52,52,53,52,54,52,55,52,56,52,57,53,48,53,49,53,50,53,51,53,52,53,53,53,54,53,55,53,56,53,57,54,48,54,49,54,50,54,51,54,52,54,53,54,54,54,55,54,56,54,57,55,48,55,49,55,50,55,51,55,52,55,53,55,54,55,55,55,56,55,57,56,48,56,49,56,50,56,51,56,52,56,53,56,54,56,55,56,56,56,57,57,48,57,49,57,50,57,51,57,52,57,53,57,54,57,55,57,56,57,57])) (some (.t 10)) (some (.t 13)),none⟩,oM 2 14] .ret)))⟩
end Go.VL
end

section
set_option maxRecDepth 100000
namespace Go.VL
def C8 (dQ:Nat):bp:=⟨23,[(.tmp 2)],(cS [oZ 2] (cS [oM 6 0,oN 7 6,⟨some 8,.mksl 1 24 .nils (.t 7) (.t 7),none⟩,oM 3 8] (.seq (cS [oM 9 0,oN 10 9,oI 11 0] (.block 0 (.loop (cS [oT 12 .lss 11 10] (.seq (.cond (.t 12) .skip (.exit 0)) (.seq (.block 1 (cS [oM 13 11,oA 14 1 9 11,oL 15 1 14,oM 4 13,oM 5 15] (cR [oM 16 3,oM 17 4,oM 18 5,oC 19 dQ 18,oA 20 1 16 17,oS 1 20 19]))) (cR [dr 21 .add 11 1,oM 11 21]))))))) (cS [oM 22 3,oM 2 22] .ret))))⟩
end Go.VL
end

section
set_option maxRecDepth 100000
namespace Go.VL
def kG (fK qn aD ij cm cE:Nat):bp:=⟨63,[(.cell 2 true 2),(.tmp 3)],(cS [oX 1 0,⟨some 2,.box (.c (.agg [(.bool false),.nils])),none⟩,oI 3 0] (cS [xh 7 2 1,oC 8 fK 7,oS 2 1 8] (.seq (cS [oF 9 0 1,oL 10 1 9] (.cond (.t 10) (cS [⟨some 11,.build [(.bool false),.nils] [],none⟩,oS 2 2 11,oI 3 7] .ret) .skip)) (cS [xh 12 2 1,oC 13 qn 12,dr 14 .add 13 1,dr 15 .quo 14 2,oM 4 15] (cS [oM 16 4,dr 17 .quo 16 32,dr 18 .add 17 1,⟨some 19,.mksl 1 4 (.int .u32 0) (.t 18) (.t 18),none⟩,oM 5 19] (.seq (cS [oM 20 4,dr 21 .sub 20 1,oM 6 21] (.block 0 (.loop (.seq (cS [oM 22 6,dr 23 .geq 22 0] (.cond (.t 23) .skip (.exit 0))) (.seq (.block 1 (.seq (.reg (some []) [oM 26 5,oM 27 6,dr 28 .quo 27 32,oM 29 5,oM 30 6,dr 31 .quo 30 32,oA 32 1 29 31,oL 33 1 32,oM 34 6,dr 35 .rem 34 32,⟨some 36,.bin .shl .int (.c (.int .u32 1)) (.t 35),none⟩,oT 37 .or 33 36,oA 38 1 26 28,oS 1 38 37]) (.seq (.reg (some [(1,6),(3,6),(4,6)]) [oM 39 5,oC 40 aD 39,oM 41 5,oC 42 aD 41,lB 43 ij 40 42,oF 44 1 1,oL 45 1 44,lB 46 cm 43 45,dr 47 .gtr 46 0]) (.cond (.t 47) (.reg (some []) [oM 48 5,oM 49 6,dr 50 .quo 49 32,oM 51 5,oM 52 6,dr 53 .quo 52 32,oA 54 1 51 53,oL 55 1 54,oM 56 6,dr 57 .rem 56 32,⟨some 58,.bin .shl .int (.c (.int .u32 1)) (.t 57),none⟩,oT 59 .andNot 55 58,oA 60 1 48 50,oS 1 60 59]) .skip)))) (cR [oM 24 6,dr 25 .sub 24 1,oM 6 25])))))) (cS [oM 61 5,⟨some 62,.call (.f cE) [(.c (.bool false)),(.t 61)],none⟩,oS 2 2 62,oI 3 0] .ret)))))))⟩
def kH (aD gP:Nat):bp:=⟨7,[(.tmp 2)],(cS [oX 1 0,oI 2 0] (cS [oF 3 1 1,oL 4 1 3,oC 5 aD 4,oC 6 gP 5,oM 2 6] .ret))⟩
end Go.VL
end
