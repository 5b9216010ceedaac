/- For the claim of FeaturePattern: parts VL40, PUI, GC3, CQN, CQO, CQR, PI1, PI2, QVL, PJ1, PJ2, CQS, PJ3, CS1, CS2, PA1, PA2, PA3, PA4, PA5, PA6, VL35. -/
import Derived.Test.YtchdghnpcekegaaGreatDoorC11
import Derived.Test.YtchdghnpcekegaaGreatDoorC10
import Derived.Test.YtchdghnpcekegaaGreatDoorC03
import Derived.Test.YtchdghnpcekegaaGreatDoorC07
import Derived.KernelRfl
import Derived.Test.YtchdghnpcekegaaGreatDoorC05
import Derived.Test.YtchdghnpcekegaaGreatDoorC08
import Derived.Deep.Slices
set_option linter.unusedSimpArgs false
set_option linter.unusedVariables false
section
namespace Go.VL
class PU (c:AV):Prop where
 pure:aa c
 fix:∀ ρ,c.dV ρ = c
class Km (l:List AV):Prop where
 pure:∀ c∈l,aa c
 fix:∀ ρ,cy ρ l=l
instance:Km []:=⟨by simp,fun _=>rfl⟩
instance {c:AV} {l:List AV} [h:PU c] [k:Km l]:Km (c::l):=⟨by intro d hd;rcases List.mem_cons.1 hd with rfl | hd;exact h.pure;exact k.pure d hd,fun ρ => by simp only [cy,h.fix,k.fix]⟩
instance {b:Bool}:PU (.bool b):=⟨aa.bool b,fun _=>rfl⟩
instance {k:IntKind} {n:Int}:PU (.int k n):=⟨aa.int k n,fun _=>rfl⟩
instance {l:List UInt8}:PU (.str l):=⟨aa.str l,fun _=>rfl⟩
instance:PU .nils:=⟨aa.nils,fun _=>rfl⟩
instance:PU .nilp:=⟨aa.nilp,fun _=>rfl⟩
instance:PU .nilf:=⟨aa.nilf,fun _=>rfl⟩
instance {l:List AV} [h:Km l]:PU (.agg l):=⟨aa.agg h.pure,fun ρ => by simp only [AV.dV,h.fix]⟩
instance {l:List AV} [h:Km l]:PU (.tup l):=⟨aa.tup h.pure,fun ρ => by simp only [AV.dV,h.fix]⟩
instance {l:List AV} {o:Nat} [h:Km l]:PU (.ep l o):=⟨aa.ep h.pure,fun ρ => by simp only [AV.dV,h.fix]⟩
instance {f:Fn} {a c:List AV} [h:Km a] [k:Km c]:PU (.fn f a c):=⟨aa.fn h.pure k.pure,fun ρ => by simp only [AV.dV,h.fix,k.fix]⟩
theorem PU.slice {k:Nat} {l:List AV} (h:∀ c∈flat l,aa c) (hf:∀ c∈l,∀ ρ,c.dV ρ = c):PU (.sl k l):=⟨aa.sl h,fun ρ => by
 have e:cy ρ l=l:=by rw [iX];exact (List.map_congr_left fun c hc=>hf c hc ρ).trans (List.map_id l)
 simp only [AV.dV,e]⟩
instance {k:Nat}:PU (.sl k []):=PU.slice (by simp [flat]) (by simp)
section
variable {P:Program} {G:Nat->Option (List AV)}
def hc {f:FuncId} {args:List AV} {r:AV} (h:VP P G f args r) [p:Km args]:Hint P G := .vp f args r h p.pure
def hb (k:Nat) {x b:Bool} (h:x=b):Hint P G := .eq k (.bool x) (.bool b) (by rw [h])
def hw (k:Nat) {x y:Int} (h:x=y) (i:IntKind := .i64):Hint P G := .eq k (.int i x) (.int i y) (by rw [h])
def hv (k:Nat) {a b:AV} (h:a=b):Hint P G := .eq k a b h
def ho (k:Nat) {o:Option AV} {v:AV} (h:o=some v):Hint P G := .ev k (bB o) { val:=v } (by rw [h];rfl)
abbrev Ot (P:Program) (G:Nat->Option (List AV)):=Option (Oq × List (Hint P G) × cd × TS)
def Qc:cd->Bool
 | .normal=>true
 | .ret=>true
 | _=>false
def Vp (rs:List ur):Ot P G->Option (List M7 × Bool × Option AV)
 | some (cs,_,e,s)=>some (cs.map (·.1),Qc e,a8 rs s.to)
 | none=>none
def Vq (r:AV):Ot P G->Option (List M7 × Bool × Option AV)
 | some (cs,_,_,_)=>some (cs.map (·.2),true,some r)
 | none=>some ([],true,none)
theorem Bm {e:cd} (h:Qc e=true):e = .normal∨e = .ret:=by cases e<;>simp [Qc] at h ⊢
abbrev ME (vf:aJ) (args:List AV) (hs:List (Hint P G)):Ot P G:=jr true 1000 vf.body [] hs ⟨args++List.replicate (vf.nt-args.length) (.tup []),[],0⟩
theorem VP.tr {f:FuncId} {vf:aJ} (h:Has P f vf) (hs:List (Hint P G)) {args:List AV} {r:AV} [hp:PU r] (hr:Vp vf.results (ME vf args hs)=Vq r (ME vf args hs)):VP P G f args r:=by
 obtain ⟨fn,hf,hc⟩:=h
 refine VP.Ti hf hc ?_
 cases hx:ME vf args hs with
 | none=>rw [hx] at hr;simp [Vp,Vq] at hr
 | some y =>
   obtain ⟨cs,eK,e,s⟩:=y
   rw [hx] at hr
   simp only [Vp,Vq,Option.some.injEq,Prod.mk.injEq] at hr
   refine (et 1000 _ _ _ _ _ _ _ _ hx (sC.of_map hr.1)).mono fun e' s2 hq => ?_
   obtain ⟨rfl,rfl⟩:=hq
   exact ⟨Bm hr.2.1,r,hr.2.2,View.pure hp.pure⟩
def CR (rs:List ur) (K:List (Id × dA)):Ot P G->Option (List M7 × Bool × Option AV × List (Option dA))
 | some (cs,_,e,s)=>some (cs.map (·.1),Qc e,a8 rs s.to,K.map fun x=>s.S.find x.1)
 | none=>none
def CS (r:AV) (K:List (Id × dA)):Ot P G->Option (List M7 × Bool × Option AV × List (Option dA))
 | some (cs,_,_,_)=>some (cs.map (·.2),true,some r,K.map fun x=>some x.2)
 | none=>some ([],true,none,[])
theorem VP.trV {f:FuncId} {vf:aJ} (h:Has P f vf) (hs:List (Hint P G)) (K:List (Id × dA)) (r0:AV) {args:List AV} {r:AV} (hr:CR vf.results K (ME vf args hs)=CS r0 K (ME vf args hs))
   (hv:∀ σ : ah,(∀ x∈K, σ x.1=some x.2)->View σ r0 r):VP P G f args r:=by
 obtain ⟨fn,hf,hc⟩:=h
 refine VP.Ti hf hc ?_
 cases hx:ME vf args hs with
 | none=>rw [hx] at hr;simp [CR,CS] at hr
 | some y =>
   obtain ⟨cs,eK,e,s⟩:=y
   rw [hx] at hr
   simp only [CR,CS,Option.some.injEq,Prod.mk.injEq] at hr
   refine (et 1000 _ _ _ _ _ _ _ _ hx (sC.of_map hr.1)).mono fun e' s2 hq => ?_
   obtain ⟨rfl,rfl⟩:=hq
   exact ⟨Bm hr.2.1,r0,hr.2.2.1,hv _ (nP hr.2.2.2)⟩
def yh (ρ : Id->Id) (K:List (Id × dA)):List (Id × dA):=K.map fun x=>(ρ x.1,x.2.dV ρ)
def M8 (K:List (Id × dA)):de:=K.map fun x=>(x.1,some x.2)
theorem Ft:∀ {K:List (Id × dA)} {i:Id} {b:dA},(M8 K).to i=some b->(i,b)∈K
 | [],_,_,h=>by cases h
 | (j,c)::K,i,b,h=>by
   have h':de.find ((j,some c)::M8 K) i=some b:=h
   simp only [de.find] at h'
   split at h'
   . rename_i he;simp only [Option.some.injEq] at h';subst h';rw [pO.1 he];simp
   . exact List.mem_cons_of_mem _ (Ft h')
theorem xz:∀ {S:List (Id × dA)} {x:Id × dA},(S.map (·.1)).Nodup->x∈S->ah.of S x.1=some x.2
 | [],x,_,hx=>by simp at hx
 | (j,c)::S,x,hnd,hx=>by
   simp only [List.map_cons,List.nodup_cons] at hnd
   rcases List.mem_cons.1 hx with rfl | hx
   . simp [ah.of]
   . have hne:x.1≠j:=fun e=>hnd.1 (List.mem_map.2 ⟨x,hx,e⟩)
     show List.lookup _ _=_
     rw [List.lookup_cons]
     have:(x.1==j)=false:=by simpa using hne
     rw [this]
     exact xz hnd.2 hx
theorem MF {ρ : Id->Id}:∀ {K:List (Id × dA)},((yh ρ K).map (·.1)).Nodup->∀ x∈K,∀ y∈K,x.1≠y.1 -> ρ x.1 ≠ ρ y.1
 | [],_,x,hx,_,_,_=>by simp at hx
 | z::K,h,x,hx,y,hy,hne=>by
   have h':((ρ z.1,z.2.dV ρ)::yh ρ K).map (·.1) |>.Nodup:=h
   simp only [List.map_cons,List.nodup_cons] at h'
   have hm:∀ w∈K, ρ w.1∈(yh ρ K).map (·.1):=fun w hw=>List.mem_map.2 ⟨(ρ w.1,w.2.dV ρ),List.mem_map.2 ⟨w,hw,rfl⟩,rfl⟩
   rcases List.mem_cons.1 hx with Ho | Ho<;>rcases List.mem_cons.1 hy with OO | OO
   . exact absurd (by rw [Ho,OO]) hne
   . subst Ho;exact fun e=>h'.1 (e▸hm y OO)
   . subst OO;exact fun e=>h'.1 (e▸hm x Ho)
   . exact MF h'.2 x Ho y OO hne
theorem VW.trR {vc:cB} {π : Id} {n:Nat} {κ : Nat->Id} {hs eK:List (Hint P G)} {cs:Oq} {t0:List AV} {S0:List (Id × dA)} {e:cd} {s:TS} (hr:jr true 1000 vc [0] hs ⟨t0,M8 S0,0⟩=some (cs,eK,e,s)) (hc:sC cs) (hd:((yh (mF n π κ) S0).map (·.1)).Nodup) :
   VW P G π vc (fun e' s'=>e'=e/\s'.t=cy (mF n π κ) s.t/\s'.n=n+s.n/\Se (mF n π κ) s.S.to s'.σ) ⟨cy (mF n π κ) t0,ah.of (yh (mF n π κ) S0),n⟩:=by
 refine (VW.dV (κ := κ) (n:=n) (et 1000 _ _ _ _ _ _ _ _ hr hc) (fun i b hb => ?_) fun i j hi hj hne => ?_).mono fun e' s' hq => ?_
 . exact xz hd (List.mem_map.2 ⟨(i,b),Ft hb,rfl⟩)
 . obtain ⟨b,hb⟩:=Option.ne_none_iff_exists'.1 hi
   obtain ⟨c,hc⟩:=Option.ne_none_iff_exists'.1 hj
   exact MF hd _ (Ft hb) _ (Ft hc) hne
 . obtain ⟨s0,⟨rfl,rfl⟩,h1,h2,h3⟩:=hq
   exact ⟨rfl,h1,h2,h3⟩
def rest (Wm S0:List (Id × dA)):List (Id × dA):=S0.filter fun x => !Wm.any fun y=>MC y.1 x.1
theorem bc.tr {f:FuncId} {vf:aJ} (h:Has P f vf) (κ : Nat->Id) {p:Id} (hs:List (Hint P G)) {args:List AV} {S up:List (Id × dA)} {val:AV} (o7:List AV) (S0:List (Id × dA)) (Sj:AV) (Wm:List (Id × dA))
   (hr:CR vf.results (Wm++rest Wm S0) (jr true 1000 vf.body [0] hs ⟨o7++List.replicate (vf.nt-o7.length) (.tup []),M8 S0,0⟩)=CS Sj (Wm++rest Wm S0) (jr true 1000 vf.body [0] hs ⟨o7++List.replicate (vf.nt-o7.length) (.tup []),M8 S0,0⟩))
   (ha:cy (mF 0 p κ) o7=args) (hS:yh (mF 0 p κ) S0=S) (hv:Sj.dV (mF 0 p κ)=val) (hu:yh (mF 0 p κ) Wm=up) (hd:(S.map (·.1)).Nodup) (xP:(up.map (·.1)).Nodup) :
   bc P G f args p S { val,rd:=S.map (·.1),up:=up.map fun x=>(x.1,some x.2) }:=by
 subst ha;subst hS;subst hv;subst hu
 obtain ⟨fn,hf,hcf⟩:=h
 cases hx:jr true 1000 vf.body [0] hs ⟨o7++List.replicate (vf.nt-o7.length) (.tup []),M8 S0,0⟩ with
 | none=>rw [hx] at hr;simp [CR,CS] at hr
 | some y =>
   obtain ⟨cs,eK,e,s⟩:=y
   rw [hx] at hr
   simp only [CR,CS,Option.some.injEq,Prod.mk.injEq] at hr
   obtain ⟨hk,he,ho,hK⟩:=hr
   have hK':=nP hK
   refine bc.YX hf hcf ?_
   have e0:cy (mF 0 p κ) o7++List.replicate (vf.nt-(cy (mF 0 p κ) o7).length) (.tup [])=cy (mF 0 p κ) (o7++List.replicate (vf.nt-o7.length) (.tup [])):=by
     rw [zA,iz]
     congr 1
     rw [iX,List.map_replicate];rfl
   rw [e0]
   refine (VW.trR (κ := κ) (n:=0) (π := p) hx (sC.of_map hk) hd).mono fun e' s' hq => ?_
   obtain ⟨rfl,h1,h2,h3⟩:=hq
   refine ⟨Bm he,_,Si (s0:=s.to) h1 h3 ho,Fin.same rfl fun j => ?_⟩
   by_cases hj:∃ x∈(yh (mF 0 p κ) Wm).map (fun x=>(x.1,some x.2)),x.1=j
   . right
     obtain ⟨x,Ho,rfl⟩:=hj
     obtain ⟨y,hy,rfl⟩:=List.mem_map.1 Ho
     obtain ⟨z,hz,rfl⟩:=List.mem_map.1 hy
     have a1:s'.σ (mF 0 p κ z.1)=some (z.2.dV (mF 0 p κ)):=h3.1 _ _ (hK' z (List.mem_append_left _ hz))
     have a2:∀ (U:List (Id × dA)) (σ : ah),(U.map (·.1)).Nodup->∀ w∈U, σ.app (U.map fun x=>(x.1,some x.2)) w.1=some w.2:=by
       intro U
       induction U with
       | nil=>intro σ _ w hw;simp at hw
       | cons u U ih =>
         intro σ hn w hw
         simp only [List.map_cons,List.nodup_cons] at hn
         simp only [List.map_cons,ah.app]
         rcases List.mem_cons.1 hw with rfl | hw
         . rw [ah.Jw,ah.dE]
           rintro x hx e
           obtain ⟨v,hv,rfl⟩:=List.mem_map.1 hx
           exact hn.1 (List.mem_map.2 ⟨v,hv,e⟩)
         . exact ih _ hn.2 w hw
     rw [a1]
     exact a2 _ _ xP _ (List.mem_map.2 ⟨z,hz,rfl⟩)
   . rw [ah.Jw _ _ _ fun x hx e=>hj ⟨x,hx,e⟩]
     cases hl:(yh (mF 0 p κ) S0).lookup j with
     | none=>exact .inl hl
     | some b =>
       right
       show List.lookup _ _=_
       rw [hl]
       obtain ⟨z,hz,ez⟩:=List.mem_map.1 (il hl)
       simp only [Prod.mk.injEq] at ez
       obtain ⟨rfl,rfl⟩:=ez
       have hz2:z∈rest Wm S0:=by
         refine List.mem_filter.2 ⟨hz, ?_⟩
         cases hb:Wm.any fun y=>MC y.1 z.1 with
         | false=>rfl
         | true =>
           obtain ⟨y,hy,hyz⟩:=List.any_eq_true.1 hb
           exact absurd ⟨(mF 0 p κ y.1,some (y.2.dV (mF 0 p κ))),List.mem_map.2 ⟨_,List.mem_map.2 ⟨y,hy,rfl⟩,rfl⟩,by rw [pO.1 hyz]⟩ hj
       exact (h3.1 _ _ (hK' z (List.mem_append_right _ hz2))).symm
theorem bc.trs {f:FuncId} {vf:aJ} (h:Has P f vf) (κ : Nat->Id) {p:Id} (hs:List (Hint P G)) {args:List AV} {S:List (Id × dA)} {val:AV} (o7:List AV) (S0:List (Id × dA)) (Sj:AV)
   (hr:CR vf.results S0 (jr true 1000 vf.body [0] hs ⟨o7++List.replicate (vf.nt-o7.length) (.tup []),M8 S0,0⟩)=CS Sj S0 (jr true 1000 vf.body [0] hs ⟨o7++List.replicate (vf.nt-o7.length) (.tup []),M8 S0,0⟩))
   (ha:cy (mF 0 p κ) o7=args) (hS:yh (mF 0 p κ) S0=S) (hv:Sj.dV (mF 0 p κ)=val) (hd:(S.map (·.1)).Nodup) :
   bc P G f args p S { val,rd:=S.map (·.1) }:=by
 have e:([]:List (Id × dA))++rest [] S0=S0:=by
   unfold rest
   rw [List.nil_append,List.filter_eq_self]
   intro x _;rfl
 exact bc.tr (up:=[]) h κ hs o7 S0 Sj [] (by rw [e];exact hr) ha hS hv rfl hd List.nodup_nil
def Vr (K:List (Id × dA)) (t1:List AV) (n1:Nat):Ot P G->Option (List M7 × cd × Bool × List AV × List (Option dA))
 | some (cs,_,e,s)=>some (cs.map (·.1),e,Nat.ble s.n n1,Hf s.t t1,K.map fun x=>s.S.find x.1)
 | none=>none
def Vs (e1:cd) (K:List (Id × dA)) (t1:List AV):Ot P G->Option (List M7 × cd × Bool × List AV × List (Option dA))
 | some (cs,_,_,_)=>some (cs.map (·.2),e1,true,t1,K.map fun x=>some x.2)
 | none=>some ([],e1,true,[],[])
theorem Vt {ρ : Id->Id}:∀ {cs ds:List AV},Fg cs ds->Fg (cy ρ cs) (cy ρ ds)
 | [],[],_=>trivial
 | c::cs,d::ds,h=>by
   simp only [Fg] at h
   refine ⟨?_,Vt h.2⟩
   rcases h.1 with rfl | rfl
   . exact .inl rfl
   . exact .inr rfl
 | [],_::_,h=>by simp [Fg] at h
 | _::_,[],h=>by simp [Fg] at h
theorem VW.tr {vc:cB} {π : Id} {n:Nat} (κ : Nat->Id) (hs:List (Hint P G)) {t t':List AV} {S K:List (Id × dA)} {Q:cd->VS->Prop} (t0:List AV) (S0:List (Id × dA)) (e1:cd) (t1:List AV) (K0:List (Id × dA)) (n1:Nat)
   (hr:Vr K0 t1 n1 (jr true 1000 vc [0] hs ⟨t0,M8 S0,0⟩)=Vs e1 K0 t1 (jr true 1000 vc [0] hs ⟨t0,M8 S0,0⟩))
   (ht:cy (mF n π κ) t0=t) (hS:yh (mF n π κ) S0=S) (zK:cy (mF n π κ) t1=t') (hK:yh (mF n π κ) K0=K) (hd:(S.map (·.1)).Nodup) (hq:∀ s,Wk G π s ⟨t',ah.of K,n+n1⟩->Q e1 s) :
   VW P G π vc Q ⟨t,ah.of S,n⟩:=by
 subst ht;subst hS;subst zK;subst hK
 cases hx:jr true 1000 vc [0] hs ⟨t0,M8 S0,0⟩ with
 | none=>rw [hx] at hr;simp only [Vr,Vs] at hr;cases hr
 | some y =>
   obtain ⟨cs,eK,e,s⟩:=y
   rw [hx] at hr
   simp only [Vr,Vs,Option.some.injEq,Prod.mk.injEq] at hr
   obtain ⟨hk,rfl,hn,hm,hK⟩:=hr
   refine (VW.trR (κ := κ) (n:=n) (π := π) hx (sC.of_map hk) hd).mono fun e' s' hq' => ?_
   obtain ⟨rfl,h1,h2,h3⟩:=hq'
   refine hq s' ?_
   obtain ⟨t2, σ2,n2⟩:=s'
   simp only [] at h1 h2 h3
   subst h1;subst h2
   refine Wk.forget (Vt (Hg hm)) (fun j=>ah.vQ (fun x hx => ?_) j) (Nat.add_le_add_left (Nat.le_of_ble_eq_true hn) _)
   obtain ⟨z,hz,rfl⟩:=List.mem_map.1 hx
   exact h3.1 _ _ (nP hK z hz)
end
end Go.VL
end

section
set_option linter.unusedVariables false
namespace Go.VL
theorem Vu (ws:List Nat) (ρ : Id->Id):cy ρ (us ws)=us ws:=by
 rw [iX];unfold us;rw [List.map_map];rfl
theorem Km.map {α : Type} {f : α -> AV} (h:∀ x,PU (f x)) (l:List α):Km (l.map f):=⟨by intro c hc;obtain ⟨x,_,rfl⟩:=List.mem_map.1 hc;exact (h x).pure,fun ρ => by rw [iX,List.map_map];exact List.map_congr_left fun x _=>(h x).fix ρ⟩
theorem Km.cells {c:AV} (h:PU c) (hp:∀ d∈c.cells,aa d):Km c.cells:=⟨hp,fun ρ => by rw [<- zS,h.fix]⟩
theorem PU.rows {α : Type} {f : α -> AV} {k:Nat} (h:∀ x,PU (f x)) (hp:∀ x,∀ d∈(f x).cells,aa d) (l:List α):PU (.sl k (l.map f)):=PU.slice (by
 intro c hc
 simp only [flat,List.mem_flatMap,List.mem_map] at hc
 obtain ⟨_,⟨x,_,rfl⟩,hc⟩:=hc
 exact hp x c hc) (by intro c hc ρ;obtain ⟨x,_,rfl⟩:=List.mem_map.1 hc;exact (h x).fix ρ)
instance {ws:List Nat}:PU (.sl 1 (us ws)):=⟨Cn ws,fun ρ => by show AV.sl 1 (cy ρ (us ws))=_;rw [Vu]⟩
instance {i:IntKind} {n:Int}:PU (.sl 1 [.int i n]):=PU.slice (by intro c hc;simp [flat,AV.cells] at hc;subst hc;exact aa.int _ _) (by intro c hc ρ;simp at hc;subst hc;rfl)
instance {n:Nat}:PU (W n):=⟨aq n,fun ρ => by show AV.sl 1 (cy ρ (us (digits n)))=_;rw [Vu];rfl⟩
instance {z:Int}:PU (IV z):=by unfold IV;infer_instance
instance {q:Rat}:PU (QV q):=by unfold QV RV;infer_instance
instance {q:Rat}:PU (EV q):=PU.slice (by intro c hc;simp only [flat,List.flatMap_cons,List.flatMap_nil,List.append_nil] at hc;exact CE q c hc) (by intro c hc ρ;simp at hc;subst hc;exact PU.fix ρ)
instance {q:Rat}:PU (NV q):=by unfold NV;infer_instance
instance {v:Q2}:PU (V2 v):=by unfold V2;infer_instance
instance {x:CX}:PU x.av:=by unfold CX.av CX.cells;infer_instance
instance {x:NX}:PU x.av:=by unfold NX.av CX.cells;infer_instance
instance {x:DX}:PU x.av:=by unfold DX.av;infer_instance
instance {l:List NX}:PU (dT l):=PU.rows (fun x=>inferInstance) CM l
instance {l:List CX}:PU (Oh l):=PU.rows (fun x=>inferInstance) G5 l
instance {l:List DX}:PU (Kt l):=PU.rows (fun x=>inferInstance) (fun x d hd=>by
 simp only [DX.av,AV.cells,List.mem_cons,List.not_mem_nil,or_false] at hd
 rcases hd with rfl | rfl | rfl | rfl | rfl | rfl | rfl | rfl<;>first | exact aa.bool _ | exact aa.int _ _) l
instance {l:List (List UInt8)}:PU (strs l):=PU.rows (f:=AV.str) (fun x=>inferInstance) (fun x d hd=>by simp only [AV.cells,List.mem_singleton] at hd;subst hd;exact aa.str x) l
theorem zT {ρ : Id->Id} {c:AV} {l:List AV}:cy ρ (c::l)=c.dV ρ :: cy ρ l:=rfl
theorem Hj {ρ : Id->Id}:cy ρ []=[]:=rfl
theorem Vv {ρ : Id->Id} {n:Nat}:cy ρ (List.replicate n .top)=List.replicate n .top:=by rw [iX,List.map_replicate];rfl
theorem PU.fixed {c:AV} [h:PU c] {ρ : Id->Id}:c.dV ρ = c:=h.fix ρ
theorem Qd {ρ : Id->Id} {i:Id} {e o:Nat}:AV.dV ρ (.ref i e o) = .ref (ρ i) e o:=rfl
theorem Yf {ρ : Id->Id}:AV.dV ρ .top = .top:=rfl
theorem zU {ρ : Id->Id} {l:List AV} {k:Nat} {b:Bool}:dA.dV ρ ⟨l,k,b⟩=⟨cy ρ l,k,b⟩:=rfl
theorem qV {ρ : Id->Id} {x:Id × dA} {K:List (Id × dA)}:yh ρ (x::K)=(ρ x.1,x.2.dV ρ)::yh ρ K:=rfl
theorem zB {ρ : Id->Id}:yh ρ []=[]:=rfl
theorem CT {ρ : Id->Id} {l:List NX}:cy ρ (l.map NX.av)=l.map NX.av:=(Km.map (fun x=>inferInstance) l).fix ρ
theorem abr {ρ : Id->Id}:eB.dV ρ = eB:=rfl
section
variable {P:Program} {G:Nat->Option (List AV)}
def mV {f:FuncId} {args lD:List AV} {r:AV} (S:List (Id × dA)) (h:VP P G f lD r) (hv:aM (ah.of S) args lD):Hint P G := .rel f args S (fun _=>{ val:=r,rd:=S.map (·.1),up:=Df S }) (fun p _=>bc.JA h hv) (fun p x hx=>List.mem_map.2 ⟨x,hx,rfl⟩)
def dH {f:FuncId} {args:List AV} {r:AV} (id:Id) (h:da P G f args r):Hint P G := .rel f (.ref id 0 0::args) [(id,eB)] (fun _=>{ val:=r,rd:=[id] }) (fun p hp=>h p id (hp (id,eB) (by simp))) (fun p x hx=>by simp at hx;subst hx;simp)
theorem da.tr {f:FuncId} {vf:aJ} (h:Has P f vf) (hs:List (Hint P G)) {args:List AV} {r:AV} [ha:Km args] [hr:PU r]
   (hx:CR vf.results [([1],eB)] (jr true 1000 vf.body [0] hs ⟨(.ref [1] 0 0::args)++List.replicate (vf.nt-(AV.ref [1] 0 0::args).length) (.tup []),M8 [([1],eB)],0⟩)=CS r [([1],eB)] (jr true 1000 vf.body [0] hs ⟨(.ref [1] 0 0::args)++List.replicate (vf.nt-(AV.ref [1] 0 0::args).length) (.tup []),M8 [([1],eB)],0⟩)):da P G f args r:=fun p id jS =>
 bc.trs h (fun _=>id) hs (.ref [1] 0 0::args) [([1],eB)] r hx (by rw [zT,ha.fix];rfl) rfl (hr.fix _) (by simp)
end
end Go.VL
end

section
set_option maxRecDepth 100000
namespace Go.VL
abbrev abt (tL eR bI rz mQ pA:Nat):cB:=(.seq (cS [oM 46 18,oM 47 5,oT 48 .leq 46 47] (.cond (.t 48) .skip (.exit 0))) (.seq (.block 1 (.seq (.reg (some [(0,3),(0,5),(0,7),(1,7),(2,7),(3,7),(5,7),(6,7)]) [oL 51 1 16,aU 52 4 9,aU 53 4 10,bz 54 tL 52 53,oM 55 18,oC 56 eR 55,⟨some 57,.call (.f bI) [(.t 51),(.t 54),(.t 56)],none⟩,⟨some 19,.box (.c (.agg [.nils,.nils,.nils,.nils])),none⟩,oS 4 19 57]) (cR [oM 58 17,oM 59 0,⟨some 60,.bin .add .str (.t 59) (.c (.str [47])),none⟩,oM 61 18,oC 62 rz 61,⟨some 63,.bin .add .str (.t 60) (.t 62),none⟩,oM 64 2,oM 65 14,⟨some 66,.mkfn (.func mQ) [] [(.t 16),(.t 19)],none⟩,⟨some 67,.call (.f pA) [(.t 63),(.t 64),(.t 65),(.t 66),(.c (.bool false))],none⟩,Aq 68 15 320 58 67,oM 17 68]))) (cR [oM 49 18,bC 50 .add 49 1,oM 18 50])))
end Go.VL
end

section
set_option linter.unusedSimpArgs false
set_option linter.unusedVariables false
set_option maxRecDepth 100000
namespace Go.VL
open Go.Lib
theorem Sk (x:CX) (w:Q2):x.img (fun a=>gv a w) false=x.shift w:=by
 unfold CX.img CX.shift
 cases x.G4<;>cases x.cw<;>rfl
theorem MG {m:List NX}:List.take m.length (m.map NX.av)=m.map NX.av:=List.take_of_length_le (by simp)
theorem Yg {σ : ah} {p id:Id} {m:List NX} (h : σ id=some ⟨m.map NX.av,15,false⟩) (h0:m≠[]) (hl:m.length<=1000000):eu σ p 15 320 .nils (.osl id 15 0 m.length false)=some { val := .osl p 15 0 m.length false,rd:=[id],up:=[(p,some ⟨m.map NX.av,15,false⟩)] }:=by
 have:=Cm (σ := σ) (p:=p) (k:=15) (bytes:=320) (x := .osl id 15 0 m.length false) (ys:=m.map NX.av) (rd:=[id]) (by rw [nL h rfl (by simp),List.drop_zero,MG]) (by simpa using h0) (by simp;omega) (eC (by simp;omega)) (nj kA m)
 simpa using this
theorem Yh {σ : ah} {p id D6:Id} {l m:List NX} (h : σ id=some ⟨m.map NX.av,15,false⟩) (h2 : σ D6=some ⟨l.map NX.av,15,false⟩) (h0:m≠[]) (hl:l.length+m.length<=1000000):eu σ p 15 320 (.osl D6 15 0 l.length false) (.osl id 15 0 m.length false)=some { val := .osl p 15 0 (l++m).length false,rd:=[D6,id],up:=[(D6,none),(p,some ⟨(l++m).map NX.av,15,false⟩)] }:=by
 have:=oz (σ := σ) (p:=p) (id:=D6) (k:=15) (bytes:=320) (len:=l.length) (x := .osl id 15 0 m.length false) (els:=l.map NX.av) (ys:=m.map NX.av) (rd:=[id]) (by rw [nL h rfl (by simp),List.drop_zero,MG]) (by simpa using h0) h2 (by simp) (by simp;omega) (eC (by simp;omega)) (nj kA m) (nj kA l)
 simpa using this
theorem Qe {q:Id} {l:List NX} (h:l≠[]):OL q 15 (l.map NX.av) = .osl q 15 0 l.length false:=by rw [Ew (by simpa using h)];simp
def BL (q:Id) (l:List NX):List (Id × dA):=if l=[] then [] else [(q,⟨l.map NX.av,15,false⟩)]
theorem Jb {q:Id} {l:List NX} (h:l≠[]):BL q l=[(q,⟨l.map NX.av,15,false⟩)]:=if_neg h
section
variable {P:Program} {G:Nat->Option (List AV)} {Q:cd->VS->Prop}
theorem Sl {f1 fm fa:FuncId} (h1:Has P f1 (fG fa)) (hm:Has P fm ig) (hA:CN P G fa) (nm:List UInt8) (l:List NX) (ins:List (List UInt8)) (v:Q2) (hv:m9 1000 v) (c:Nat) (hc:c<=50) (ta:nm.length<=1000) (hl:∀ z∈l,NOk 2000 z) (yg:ins.length<=10) (iI:∀ s∈ins, ¬ ek l s<0)
   (p:Id) (hp:∀ x∈Hp [4] [10,0] [3] (ga v (((c+1:Nat):Int):Rat)), ¬ p <:+ x.1) :
   bc P G fm [.str (nm++[47]++decDigits (c+1)),strs ins,Oh (ins.map (eJ l)), .fn (.func f1) [] [.ref [4] 0 0, .ref [10,0] 0 0], .bool false] p (Hp [4] [10,0] [3] (ga v (((c+1:Nat):Int):Rat)))
     { val := .osl (3::p) 15 0 (ins.map (s4 nm l v (c+1))).length false,rd:=[[4],[10,0],[3]],up:=[(3::p,some ⟨(ins.map (s4 nm l v (c+1))).map NX.av,15,false⟩)] }:=by
 have sw:Sm 1 (((c+1:Nat):Int):Rat):=Ha (by omega)
 have Q4:m9 1001 (ga v (((c+1:Nat):Int):Rat)):=hv.scale sw
 have hdl:=Kd (i:=c+1) (by omega)
 have hI:=Kj (P:=P) (G:=G) (f:=f1) (fa:=fa) (way:=ga v (((c+1:Nat):Int):Rat)) (c:=[4]) (w:=[10,0]) (k:=[3]) (by decide) (by decide) (by decide) h1 (fun a sa=>hA a _ sa (Q4.mono (by omega)))
 have key:=Sd (P:=P) (G:=G) hm (nm++[47]++decDigits (c+1)) ins (eJ l) false hI (by
     intro x hx
     simp only [Hp,List.mem_cons,List.not_mem_nil,or_false] at hx
     rcases hx with rfl | rfl | rfl
     . exact abl
     . exact Yc (by decide)
     . exact Yd (by decide) (by decide)) (fun s hs=>by
     obtain ⟨k,z,_,hz,_,ZF⟩:=zz (iI s hs)
     have:=(hl z (List.mem_of_getElem? hz)).2
     rw [ZF]
     exact ⟨this.1.mono (by omega),this.2.1.mono (by omega),this.2.2.mono (by omega)⟩) (by omega) (by simp;omega) (fun s hs=>by
     obtain ⟨k,z,_,hz,hzn,_⟩:=zz (iI s hs)
     have:=(hl z (List.mem_of_getElem? hz)).1
     rw [hzn] at this;omega) p hp (fun s=>NX.av (s4 nm l v (c+1) s)) (fun s=>by unfold s4;rw [Sk])
 have e:(ins.map (s4 nm l v (c+1))).map NX.av=ins.map fun s=>NX.av (s4 nm l v (c+1) s):=by rw [List.map_map];rfl
 rw [e,List.length_map]
 exact key
def Vw (nm:List UInt8) (l:List NX) (ins:List (List UInt8)) (N c:Nat) (i0 i1 i4:Id) (o:AV):List AV:=[.str nm,dT l,strs ins, .top, .top, .int .i64 (N:Int)]++List.replicate 3 .top++[.ref i0 0 0, .ref i1 0 0]++List.replicate 3 .top++[Oh (ins.map (eJ l)), .top, .ref i4 0 0,o, .int .i64 ((c+1:Nat):Int)]++List.replicate 64 .top
def M9 (v:Q2) (i0 i1 i3 i4:Id) (B:List (Id × dA)):List (Id × dA):=(i0,⟨[QV v.1],4,false⟩)::(i1,⟨[QV v.2],4,false⟩)::(i3,eB)::(i4,⟨[.ref i3 0 0],1,false⟩)::B
theorem zV {ρ : Id->Id} {nm:List UInt8} {l:List NX} {ins:List (List UInt8)} {N c:Nat} {i0 i1 i4:Id} {o:AV}:cy ρ (Vw nm l ins N c i0 i1 i4 o)=Vw nm l ins N c (ρ i0) (ρ i1) (ρ i4) (o.dV ρ):=by
 unfold Vw
 simp only [zA,zT,Hj,Vv,PU.fixed,Qd,Yf]
theorem zW {ρ : Id->Id} {v:Q2} {i0 i1 i3 i4:Id} {B:List (Id × dA)}:yh ρ (M9 v i0 i1 i3 i4 B)=M9 v (ρ i0) (ρ i1) (ρ i3) (ρ i4) (yh ρ B):=by
 unfold M9
 simp only [qV,zU,zT,Hj,PU.fixed,Qd,abr]
def fpK (q:Id):Nat->Id
 | 1=>[0]
 | 2=>[1]
 | 3=>[30]
 | 4=>[31]
 | _=>q
def fpE (l L:List NX):List AV:=[.top,dT l]++List.replicate 14 .top++[.ref [31] 0 0,dT L]++List.replicate 65 .top
theorem Sn {fmk fn fc fd f1 fm fa:FuncId} (nm:List UInt8) (l:List NX) (ins:List (List UInt8)) (N:Nat) (v:Q2) (hN0:N<=50) (hN1:0<N) (hv:m9 1000 v) (hM:VP P G fmk [QV v.1,QV v.2] (V2 v)) (hN:∀ i:Nat,i<=1000->VP P G fn [.int .i64 (i:Int)] (NV (((i:Nat):Int):Rat))) (hC:xx P G fc)
   (hD:∀ n:Nat,n<100->VP P G fd [.int .i64 (n:Int)] (.str (decDigits n))) (h1:Has P f1 (fG fa)) (hm:Has P fm ig) (hA:CN P G fa) (iI:∀ s∈ins, ¬ ek l s<0) (ta:nm.length<=1000) (hl:∀ z∈l,NOk 2000 z) (yg:ins.length<=10) (QT:ins≠[]) :
   VW P G [] (.loop (abt fmk fn fc fd f1 fm)) (fun e s=>e = .exit 0/\Wk G [] s ⟨fpE l (bM nm l v ins N),de.to (M8 [([30],eB),([31],⟨[.ref [30] 0 0],1,false⟩)]),10000⟩) ⟨Vw nm l ins N 0 [0] [1] [31] .nils,ah.of (M9 v [0] [1] [30] [31] []),1000⟩:=by
 have hne:∀ c,0<c->bM nm l v ins c≠[]:=by
   intro c hc
   cases c with
   | zero=>omega
   | succ k=>simp [bM,QT]
 refine VW.Zn (α := Nat × Nat) (fun z=>⟨Vw nm l ins N z.1 [0] [1] [31] (OL [z.2] 15 ((bM nm l v ins z.1).map NX.av)),ah.of (M9 v [0] [1] [30] [31] (BL [z.2] (bM nm l v ins z.1))),1000+27*z.1⟩)
   (fun z=>z.1<=N/\999<=z.2/\z.2<1000+27*z.1) (fun z=>N-z.1) (0,999) (Wk.refl _ _ _) ⟨Nat.zero_le _,by decide,by decide⟩ ?_
 rintro ⟨c,q⟩ ⟨hcN,Kr,hq⟩
 simp only [] at hcN Kr hq ⊢
 generalize M0:1000+27*c=m at *
 have hd:∀ L:List NX,((M9 v [0] [1] [30] [31] (BL [q] L)).map (·.1)).Nodup:=by
   intro L
   have a0 : ¬ 0=q:=by omega
   have a1 : ¬ 1=q:=by omega
   have a2 : ¬ 30=q:=by omega
   have a3 : ¬ 31=q:=by omega
   unfold M9 BL
   split<;>simp [a0,a1,a2,a3]
 by_cases hlt:c<N
 . have d4:decide (((c+1:Nat):Int)<=(N:Int))=true:=aG (by omega)
   have n1:=hN (c+1) (by omega)
   have sw:Sm 1 (((c+1:Nat):Int):Rat):=Ha (by omega)
   have s1:=hC v (((c+1:Nat):Int):Rat) (hv.mono (by omega)) (sw.mono (by omega))
   have hD1:=hD (c+1) (by omega)
   have Vb:(bM nm l v ins c).length<=500:=by rw [p4];exact Nat.le_trans (Nat.mul_le_mul (by omega:c<=50) yg) (by decide)
   have hwr:=aP (c+1) (by omega)
   have hdl:=Kd (i:=c+1) (by omega)
   have c1:=ni (a:=nm) (b:=[47]) (by simp;omega)
   have c2:=ni (a:=nm++[47]) (b:=decDigits (c+1)) (by simp;omega)
   have aai:=Sl (P:=P) (G:=G) h1 hm hA nm l ins v hv c (by omega) ta hl yg iI
   have hM0:ins.map (s4 nm l v (c+1))≠[]:=by simpa using QT
   have hMl:(ins.map (s4 nm l v (c+1))).length<=1000:=by simp;omega
   have Ia:bM nm l v ins (c+1)=bM nm l v ins c++ins.map (s4 nm l v (c+1)):=rfl
   have hP1:c+1<=N/\999<=m+22/\m+22<1000+27*(c+1):=by omega
   have hmn:m+27=1000+27*(c+1):=by omega
   generalize hMd:ins.map (s4 nm l v (c+1))=M at *
   generalize hLd:bM nm l v ins c=L at *
   let YW:Hint P G := .rel fm _ _ _ aai (by intro p x hx;simp only [Hp,List.mem_cons,List.not_mem_nil,or_false] at hx;rcases hx with rfl | rfl | rfl<;>simp)
   by_cases Fq:L=[]
   . subst Fq
     simp only [List.nil_append] at Ia
     have a1:∀ (σ : ah) (p:Id),(∀ x∈[([3,21,0],(⟨M.map NX.av,15,false⟩:dA))], σ x.1=some x.2)->b8 σ p (.append 15 320 .nils (.osl [3,21,0] 15 0 M.length false))=some { val := .osl p 15 0 M.length false,rd:=[[3,21,0]],up:=[(p,some ⟨M.map NX.av,15,false⟩)] } :=
       fun σ p hσ => Yg (hσ ([3,21,0],⟨M.map NX.av,15,false⟩) (by simp)) hM0 (by omega)
     refine VW.tr (π := []) (n:=m) (fpK [q]) [hb 48 d4,hc hM,hc n1,dH [3] s1,ho 60 c1,hc hD1,ho 63 c2,YW, .st 68 _ _ _ a1,hw 50 hwr]
       (Vw nm l ins N c [1] [2] [4] .nils) (M9 v [1] [2] [3] [4] []) .normal (Vw nm l ins N (c+1) [1] [2] [4] (.osl [22,0] 15 0 M.length false)) (M9 v [1] [2] [3] [4] [([22,0],⟨M.map NX.av,15,false⟩)]) 27 (by kernel_rfl)
       zV (zW.trans rfl) zV (zW.trans (by simp only [qV,zB,zU,CT];rfl)) (hd []) fun s hw => ?_
     exact ⟨(c+1,m+22),hP1,by simp only [];omega,by simp only [Ia,Qe hM0,Jb hM0, <- hmn];exact hw⟩
   . have aem:L++M≠[]:=by simp [Fq]
     rw [Qe Fq,Jb Fq]
     have qU:=hd L
     rw [Jb Fq] at qU
     have a1:∀ (σ : ah) (p:Id),(∀ x∈[([3,21,0],(⟨M.map NX.av,15,false⟩:dA)),([5],⟨L.map NX.av,15,false⟩)], σ x.1=some x.2)->b8 σ p (.append 15 320 (.osl [5] 15 0 L.length false) (.osl [3,21,0] 15 0 M.length false))=some { val := .osl p 15 0 (L++M).length false,rd:=[[5],[3,21,0]],up:=[([5],none),(p,some ⟨(L++M).map NX.av,15,false⟩)] } :=
       fun σ p hσ => Yh (hσ ([3,21,0],⟨M.map NX.av,15,false⟩) (by simp)) (hσ ([5],⟨L.map NX.av,15,false⟩) (by simp)) hM0 (by omega)
     refine VW.tr (π := []) (n:=m) (fpK [q]) [hb 48 d4,hc hM,hc n1,dH [3] s1,ho 60 c1,hc hD1,ho 63 c2,YW, .st 68 _ _ _ a1,hw 50 hwr]
       (Vw nm l ins N c [1] [2] [4] (.osl [5] 15 0 L.length false)) (M9 v [1] [2] [3] [4] [([5],⟨L.map NX.av,15,false⟩)]) .normal (Vw nm l ins N (c+1) [1] [2] [4] (.osl [22,0] 15 0 (L++M).length false)) (M9 v [1] [2] [3] [4] [([22,0],⟨(L++M).map NX.av,15,false⟩)]) 27 (by kernel_rfl)
       zV (zW.trans (by simp only [qV,zB,zU,CT];rfl)) zV (zW.trans (by simp only [qV,zB,zU,CT];rfl)) qU fun s hw => ?_
     exact ⟨(c+1,m+22),hP1,by simp only [];omega,by simp only [Ia,Qe aem,Jb aem, <- hmn];exact hw⟩
 . have hcc:c=N:=by omega
   subst hcc
   have d4:decide (((c+1:Nat):Int)<=(c:Int))=false:=aD (by omega)
   have Fq:=hne c hN1
   have ahH:m+3<=10000:=by omega
   generalize bM nm l v ins c=L at *
   rw [Qe Fq,Jb Fq]
   have qU:=hd L
   rw [Jb Fq] at qU
   refine VW.tr (π := []) (n:=m) (fpK [q]) [hb 48 d4] (Vw nm l ins c c [1] [2] [4] (.osl [5] 15 0 L.length false)) (M9 v [1] [2] [3] [4] [([5],⟨L.map NX.av,15,false⟩)]) (.exit 0)
     (Vw nm l ins c c [1] [2] [4] (.osl [5] 15 0 L.length false)) (M9 v [1] [2] [3] [4] [([5],⟨L.map NX.av,15,false⟩)]) 3 (by kernel_rfl)
     zV (zW.trans (by simp only [qV,zB,zU,CT];rfl)) zV (zW.trans (by simp only [qV,zB,zU,CT];rfl)) qU fun s hw=>⟨rfl,hw.trans ?_⟩
   have a0:([0]:Id)≠[q]:=by simp;omega
   have a1:([1]:Id)≠[q]:=by simp;omega
   have a2:([30]:Id)≠[q]:=by simp;omega
   have a3:([31]:Id)≠[q]:=by simp;omega
   have hq1:ah.of (M9 v [0] [1] [30] [31] [([q],(⟨L.map NX.av,15,false⟩:dA))]) [q]=some ⟨L.map NX.av,15,false⟩:=xz qU (x:=([q],⟨L.map NX.av,15,false⟩)) (by simp [M9])
   refine Wk.freeze [([q],⟨L.map NX.av,15,false⟩)] (by intro x hx;rw [List.mem_singleton.1 hx];exact hq1) ?_ (fun i => ?_) ahH
   . have hv:=Kb (σ := ah.of [([q],(⟨L.map NX.av,15,false⟩:dA))]) (id:=[q]) (l:=L) (b:=false) (t:=false) (by simp [ah.of])
     repeat (first | exact trivial | refine And.intro (Or.inl rfl) ?_ | refine And.intro (Or.inr (Or.inl rfl)) ?_ | refine And.intro (Or.inr (Or.inr hv)) ?_)
   . have e:∀ i:Id,(i=[30]∨i=[31])->de.to (M8 [([30],eB),([31],⟨[.ref [30] 0 0],1,false⟩)]) i=(ah.of (M9 v [0] [1] [30] [31] [([q],(⟨L.map NX.av,15,false⟩:dA))])).app (Df [([q],⟨L.map NX.av,15,false⟩)]) i:=by
       rintro i (rfl | rfl)
       . show _=ah.put _ _ _ _;rw [dr a2];rfl
       . show _=ah.put _ _ _ _;rw [dr a3];rfl
     by_cases h30:i=[30]
     . exact .inr (e i (.inl h30))
     by_cases h31:i=[31]
     . exact .inr (e i (.inr h31))
     . left
       show de.find _ _=none
       have b1:MC i [30]=false:=by cases h:MC i [30] with | false=>rfl | true=>exact absurd (pO.1 h) h30
       have b2:MC i [31]=false:=by cases h:MC i [31] with | false=>rfl | true=>exact absurd (pO.1 h) h31
       simp only [M8,List.map_cons,List.map_nil,de.find,b1,b2]
end
end Go.VL
end

section
set_option linter.unusedSimpArgs false
set_option linter.unusedVariables false
set_option maxRecDepth 100000
namespace Go.VL
open Go.Lib
section
variable {P:Program} {G:Nat->Option (List AV)}
theorem MH {f fi fs fmk fn fc fd f1 fm fw fa:FuncId} (h:Has P f (sN fi fs fmk fn fc fd f1 fm fw)) (nm:List UInt8) (l:List NX) (ins:List (List UInt8)) (x y:Rat) (n:Int) (CV : -1000<=n/\n<=1000)
   (hI:VP P G fi [.str nm,dT l,strs ins] (if dz nm l ins=0 then .tup [Oh (ins.map (eJ l)), .int .i64 0] else .tup [.nils, .int .i64 (dz nm l ins)])) (hS:∀ q,Sm 1000 q->VP P G fs [QV q] (.int .i64 (dm q))) (hM:∀ v:Q2,m9 1000 v->VP P G fmk [QV v.1,QV v.2] (V2 v)) (hN:∀ i:Nat,i<=1000->VP P G fn [.int .i64 (i:Int)] (NV (((i:Nat):Int):Rat)))
   (hC:xx P G fc) (hD:∀ n:Nat,n<100->VP P G fd [.int .i64 (n:Int)] (.str (decDigits n))) (h1:Has P f1 (fG fa)) (hm:Has P fm ig) (hA:CN P G fa)
   (hW:∀ more:List NX,more.length<=1000000->l≠[]->more≠[]->VP P G fw [dT l,dT more] (if iE l more=0 then .tup [dT (l++more), .int .i64 0] else .tup [.nils, .int .i64 (iE l more)]))
   (ta:nm.length<=1000) (hl:∀ z∈l,NOk 2000 z) (hlen:l.length<=1000) (yg:ins.length<=10) (hx:Sm 1000 x) (hy:Sm 1000 y):VP P G f [.str nm,dT l,strs ins,QV x,QV y, .int .i64 n] (R3 nm l ins x y n):=by
 have Zl:=hS x hx
 have hsy:=hS y hy
 have qx:=zR x
 have qy:=zR y
 unfold R3 Kc
 by_cases hn:n<1∨50<n
 . rw [if_pos hn,if_neg (by decide)]
   rcases (by omega:n<1∨(¬ n<1/\50<n)) with h1 | ⟨h1,h2⟩
   . exact VP.tr h [hb 21 (aG h1)] (by kernel_rfl)
   . exact VP.tr h [hb 21 (aD h1),hb 24 (aG h2)] (by kernel_rfl)
 have d1:decide (n<1)=false:=aD (by omega)
 have d2:decide (50<n)=false:=aD (by omega)
 rw [if_neg hn]
 by_cases p9:dz nm l ins=0
 case neg =>
   rw [if_neg p9] at hI
   rw [if_pos p9,if_neg p9]
   exact VP.tr h [hb 21 d1,hb 24 d2,hc hI,hb 34 (bne_iff_ne.2 p9)] (by kernel_rfl)
 rw [if_pos p9] at hI
 rw [if_neg (show ¬ (dz nm l ins≠0) by simp [p9])]
 by_cases JM:x=0/\y=0
 . rw [decide_eq_true JM.1] at qx
   rw [decide_eq_true JM.2] at qy
   rw [if_pos JM,if_neg (by decide)]
   exact VP.tr h [hb 21 d1,hb 24 d2,hc hI,hc Zl,hb 38 qx,hc hsy,hb 42 qy] (by kernel_rfl)
 rw [if_neg JM]
 obtain ⟨uv,hne,iI⟩:=Bj p9
 obtain ⟨N,rfl⟩:∃ N:Nat,n=(N:Int):=⟨n.toNat,by omega⟩
 rw [Int.toNat_natCast]
 have Kp:l≠[]:=by
   rintro rfl
   cases ins with
   | nil=>exact hne rfl
   | cons s _=>exact iI s (by simp) (by simp [ek,Af])
 have hw:m9 1000 (x,y):=⟨hx,hy⟩
 have hml:(bM nm l (x,y) ins N).length<=500:=by rw [p4];exact Nat.le_trans (Nat.mul_le_mul (by omega:N<=50) yg) (by decide)
 have Vc:bM nm l (x,y) ins N≠[]:=by
   cases N with
   | zero=>omega
   | succ k=>simp [bM,hne]
 have Vd:=hW (bM nm l (x,y) ins N) (by omega) Kp Vc
 let lp:Hint P G := .lp [] _ _ _ _ _ _ _ _ (Sn (fmk:=fmk) (fn:=fn) (fc:=fc) (fd:=fd) (f1:=f1) (fm:=fm) nm l ins N (x,y) (by omega) (by omega) hw (hM (x,y) hw) hN hC hD h1 hm hA iI ta hl yg hne)
 have qx0:∀ {b:Bool},decide (x=0)=b->decide (dm x=0)=b:=fun e=>qx.trans e
 have qy0:∀ {b:Bool},decide (y=0)=b->decide (dm y=0)=b:=fun e=>qy.trans e
 by_cases h0:iE l (bM nm l (x,y) ins N)=0
 . rw [if_pos h0] at Vd ⊢
   by_cases HQ:x=0
   . exact VP.tr h [hb 21 d1,hb 24 d2,hc hI,hc Zl,hb 38 (qx0 (decide_eq_true HQ)),hc hsy,hb 42 (qy0 (decide_eq_false fun e=>JM ⟨HQ,e⟩)),lp,hc Vd] (by kernel_rfl)
   . exact VP.tr h [hb 21 d1,hb 24 d2,hc hI,hc Zl,hb 38 (qx0 (decide_eq_false HQ)),lp,hc Vd] (by kernel_rfl)
 . rw [if_neg h0] at Vd ⊢
   by_cases HQ:x=0
   . exact VP.tr h [hb 21 d1,hb 24 d2,hc hI,hc Zl,hb 38 (qx0 (decide_eq_true HQ)),hc hsy,hb 42 (qy0 (decide_eq_false fun e=>JM ⟨HQ,e⟩)),lp,hc Vd] (by kernel_rfl)
   . exact VP.tr h [hb 21 d1,hb 24 d2,hc hI,hc Zl,hb 38 (qx0 (decide_eq_false HQ)),lp,hc Vd] (by kernel_rfl)
end
end Go.VL
end

section
set_option linter.unusedSimpArgs false
set_option linter.unusedVariables false
set_option maxRecDepth 100000
namespace Go.VL
open Go.Lib
theorem MI {s:List UInt8} {l:List (List UInt8)}:fK 1 (strs (s::l)) (some (.int .i64 1)) none none=some (strs l):=by
 have h1:(1:Int)<=(l.length:Int)+1:=by omega
 have h2:List.take l.length (l.map AV.str)=l.map AV.str:=List.take_of_length_le (by simp)
 simp [strs,fK,gy,jW,h1,h2]
theorem vG {a:Int} (h : -128<=a/\a<128):IntKind.i64.wrap a=a:=by rw [IntKind.wrap_i64];omega
theorem ahI {a:Int} (h:a.natAbs<aK):Sm 1 (a:Rat):=⟨fN (by rw [Nat.pow_one];exact h),vn⟩
section
variable {P:Program} {G:Nat->Option (List AV)}
theorem Vx {f fg fs:FuncId} (h:Has P f (kv fg fs)) (L:List NX) (e:Int) (hg:VP P G fg [dT L] (.bool true)) (hs:VP P G fs [dT L,dT L] (.bool true)):VP P G f [dT L, .int .i64 e,dT L, .int .i64 e] (.bool true) :=
 VP.tr h [hb 11 (beq_self_eq_true e),hc hg,hc hs] (by kernel_rfl)
theorem Sp {f fg fs:FuncId} (h:Has P f (kv fg fs)) (e:Int) (hg:VP P G fg [dT []] (.bool true)) (hs:VP P G fs [dT [],dT []] (.bool true)):VP P G f [.nils, .int .i64 e, .nils, .int .i64 e] (.bool true) :=
 VP.tr h [hb 11 (beq_self_eq_true e),mV [] hg (aM.cons (View.nils 15) aM.nil),mV [] hs (aM.cons (View.nils 15) (aM.cons (View.nils 15) aM.nil))] (by kernel_rfl)
def Yi (P:Program) (G:Nat->Option (List AV)) (f:FuncId) (l:List NX):Prop:=∀ (nm:List UInt8) (ins:List (List UInt8)) (x y:Rat) (n:Int),nm.length<=1000->ins.length<=10->Sm 1000 x->Sm 1000 y -> -1000<=n->n<=1000->VP P G f [.str nm,dT l,strs ins,QV x,QV y, .int .i64 n] (R3 nm l ins x y n)
theorem Vy {f fa fl ff fi fcn fcs fp fr fR:FuncId} (h:Has P f (jo fa fl ff fi fcn fcs fp fr fR)) (ds:List DX) (names:List (List UInt8)) (a b c:Int) (ha : -128<=a/\a<128) (M3 : -128<=b/\b<128) (hc' : -128<=c/\c<128)
   (vg:VP P G fa [] (.bool true)) (ok:Bool) (l:List NX) (hl:VP P G fl [Kt ds] (.tup [dT l, .bool ok])) (hF:P7 P G ff) (hI:∀ z:Int, -1000<=z->z<=1000->VP P G fi [.int .i64 z] (QV (z:Rat))) (hcn:ok=true->VP P G fcn [dT l] (dT l)) (hcs:∀ ns:List (List UInt8),ns.length<=1000->VP P G fcs [strs ns] (strs ns))
   (hp:ok=true->Yi P G fp l) (hr:ok=true->Yi P G fr l) (hR:ok=true->∀ nm ins x y n,Sm 1 x->Sm 1 y->Kc nm l ins x y n=0->ins.length<=10->nm.length<=1000->n<=1000->VP P G fR [dT (l++bM nm l (x,y) ins n.toNat), .int .i64 0,dT (l++bM nm l (x,y) ins n.toNat), .int .i64 0] (.bool true)) (hR0:∀ e,VP P G fR [.nils, .int .i64 e, .nils, .int .i64 e] (.bool true)) :
   VP P G f [Kt ds,strs names, .agg [.int .i8 a, .int .i8 b, .int .i8 c]] (.bool true):=by
 cases ok
 . exact VP.tr h [hc vg,hc hl] (by kernel_rfl)
 replace hp:=hp rfl
 replace hr:=hr rfl
 replace hR:=hR rfl
 replace hcn:=hcn rfl
 have Yj:p7 false (strs names)=some (.int .i64 names.length):=eS names
 by_cases CV:names=[]
 . exact VP.tr h [hc vg,hc hl,ho 27 Yj,hb 28 (beq_iff_eq.2 (by rw [CV];rfl):((names.length:Int)==0)=true)] (by kernel_rfl)
 have d1:((names.length:Int)==0)=false:=by rw [beq_eq_false_iff_ne];intro e;exact CV (List.length_eq_zero_iff.1 (by omega))
 by_cases h6:6<names.length
 . exact VP.tr h [hc vg,hc hl,ho 27 Yj,hb 28 d1,ho 32 Yj,hb 33 (aG (by omega):decide ((names.length:Int)>6)=true)] (by kernel_rfl)
 have d2:decide ((names.length:Int)>6)=false:=aD (by omega)
 obtain ⟨nm,ins,ta⟩:∃ nm ins,names=nm::ins:=by
   cases names with
   | nil=>exact absurd rfl CV
   | cons nm ins=>exact ⟨nm,ins,rfl⟩
 have mE:cW 1 (strs names) (.int .i64 0)=some (.ep (AV.str nm).cells 0):=by rw [ta];simp [strs,cW]
 have WH:fK 1 (strs names) (some (.int .i64 1)) none none=some (strs ins):=by rw [ta];exact MI
 have hil:ins.length<=10:=by rw [ta] at h6;simp at h6;omega
 by_cases h40:40<nm.length
 . exact VP.tr h [hc vg,hc hl,ho 27 Yj,hb 28 d1,ho 32 Yj,hb 33 d2,ho 37 mE,hb 40 (aG (by omega):decide ((nm.length:Int)>40)=true)] (by kernel_rfl)
 have d3:decide ((nm.length:Int)>40)=false:=aD (by omega)
 have sx:Sm 1 ((a:Rat)/((2:Nat):Int)):=zy (by decide) (by unfold aK;omega) (by unfold aK;omega)
 have sy:Sm 1 (b:Rat):=ahI (by unfold aK;omega)
 have hF1:VP P G ff [.int .i64 a, .int .i64 2] (QV ((a:Rat)/((2:Nat):Int))):=hF a 2 (by decide) (by decide) (by omega) (by omega)
 have hI1:=hI b (by omega) (by omega)
 generalize ((a:Rat)/((2:Nat):Int))=x at *
 generalize (b:Rat)=y at *
 have aen:=hcs ins (by omega)
 have Z7:=hp nm ins x y c (by omega) hil (sx.mono (by omega)) (sy.mono (by omega)) (by omega) (by omega)
 have hr1:=hr nm ins x y c (by omega) hil (sx.mono (by omega)) (sy.mono (by omega)) (by omega) (by omega)
 unfold R3 at Z7 hr1
 have ahJ:∀ σ : ah,sE σ 1 (strs names) (some (.int .i64 1)) none none (fK 1 (strs names) (some (.int .i64 1)) none none)=bB (some (strs ins)):=fun σ => by rw [WH];rfl
 have Yk:∀ (σ : ah) (p:Id),(∀ x∈([]:List (Id × dA)), σ x.1=some x.2)->b8 σ p (.slice 1 (strs names) (some (.int .i64 1)) none none)=some { val:=strs ins }:=fun σ p _=>ahJ σ
 by_cases hE:Kc nm l ins x y c=0
 . have hR1:=hR nm ins x y c sx sy hE hil (by omega) (by omega)
   rw [if_pos hE] at Z7 hr1
   exact VP.tr h [hc vg,hc hl,ho 27 Yj,hb 28 d1,ho 32 Yj,hb 33 d2,ho 37 mE,hb 40 d3,hw 44 (vG ha),hc hF1,hw 48 (vG M3),hc hI1,hw 52 (vG hc'),ho 55 mE,hc hcn, .st 60 [] _ _ Yk,hc aen,hc Z7,ho 70 mE, .st 74 [] _ _ Yk,hc hr1,hc hR1] (by kernel_rfl)
 . have hR1:=hR0 (Kc nm l ins x y c)
   rw [if_neg hE] at Z7 hr1
   exact VP.tr h [hc vg,hc hl,ho 27 Yj,hb 28 d1,ho 32 Yj,hb 33 d2,ho 37 mE,hb 40 d3,hw 44 (vG ha),hc hF1,hw 48 (vG M3),hc hI1,hw 52 (vG hc'),ho 55 mE,hc hcn, .st 60 [] _ _ Yk,hc aen,hc Z7,ho 70 mE, .st 74 [] _ _ Yk,hc hr1,hc hR1] (by kernel_rfl)
end
end Go.VL
end

section
set_option maxRecDepth 100000
namespace Go.Proofs.YtchdghnpcekegaaGreatDoor
open Go.VL Go.Proofs
section
variable (G:Nat->Option (List AV))
theorem t145:iT Tryz.prog G 104:=fun _ hw hl=>PH Dt hw hl
theorem c95 (n:Nat) (hn:ak n<=1000000):VP Tryz.prog G 154 [W n] (W n):=Ra oY n hn
theorem MJ:iW Tryz.prog G 155:=ND AR (t145 G)
theorem Qf (n:Nat) (hn:n<18446744073709551616):VP Tryz.prog G 156 [.int .u64 ((n:Nat):Int)] (W n):=El y5 (t145 G) n hn
theorem ZJ (n:Nat) (hn:n<18446744073709551616):VP Tryz.prog G 289 [W n] (.int .u64 ((n:Nat):Int)):=Tryz.toUint_vp G n hn
theorem n166 (a:Int):VP Tryz.prog G 286 [.int .i64 a] (.bool false):=Nu Ca a
theorem n195 (a:Int):VP Tryz.prog G 297 [.int .u32 a] (.bool false):=HO y9 a
theorem aeq (a b:Int):VP Tryz.prog G 269 [.int .i64 a, .int .i64 b] (.int .i64 (jk a b)):=Nv Aa (n166 G) a b
theorem ahL (a b:Int):VP Tryz.prog G 287 [.int .u32 a, .int .u32 b] (.int .i64 (jk a b)):=HP wL (n195 G) a b
theorem Vz (m n:Nat) (hm:ak m<=1000000) (hn:ak n<=1000000):VP Tryz.prog G 270 [W m,W n] (.int .i64 (fY m n)):=Nw zZ (aeq G) (ahL G) m n (by omega) (by omega)
theorem Yl (m n:Nat) (hm:ak m<=1000000) (hn:ak n<=1000000):VP Tryz.prog G 280 [W m,W n] (W (m+n)):=W0 Du m n hm hn
theorem aer (m n:Nat) (ta:n<=m) (hm:ak m<=1000000):VP Tryz.prog G 281 [W m,W n] (W (m-n)):=TP B6 (t145 G) m n ta hm
theorem ahM (m n:Nat) (hm:ak m<=1000000) (hn:ak n<=1000000):VP Tryz.prog G 271 [W m,W n] (W (m*n)):=TQ B7 (t145 G) m n hm hn
theorem d189 (m w:Nat) (hm:ak m<=1000000) (hw:w<aK) (h0:w≠0):VP Tryz.prog G 298 [W m, .int .u32 (w:Int)] (.tup [W (m/w),W (m%w)]):=HR wK (t145 G) (Qf G) m w hm hw h0
theorem l90 (x:Nat) (hx:x<aK):VP Tryz.prog G 307 [.int .u32 (x:Int)] (.int .i64 (iC x:Int)):=GL mR x hx
theorem ahN (x:Nat) (hx:x<aK) (h0:0<x):VP Tryz.prog G 299 [.int .u32 (x:Int)] (.int .i64 ((32-iC x:Nat):Int)):=Xb qp (l90 G) x hx h0
theorem d164 (m n:Nat) (CV:n≠0) (hm:ak m<=900000) (hn:ak n<=900000):VP Tryz.prog G 288 [W m,W n] (.tup [W (m/n),W (m%n)]) :=
 Ri AU (Vz G) (c95 G) (ZJ G) (Qf G) (d189 G) (ahN G) yb (t145 G) y7 z6 kx m n CV hm hn
theorem abu (z:Int) (hz:ak z.natAbs<=1000000):VP Tryz.prog G 59 [IV z] (.int .i64 z.sign):=Xc Dv (t145 G) z hz
theorem ZK (a:Int) (h1 : -9223372036854775808<=a) (h2:a<9223372036854775808):VP Tryz.prog G 109 [.int .i64 a] (IV a):=NF z7 (Qf G) (MJ G) a h1 h2
theorem n169 (z:Int) (hz:ak z.natAbs<=1000000):VP Tryz.prog G 255 [IV z] (IV (-z)):=aaz EO (t145 G) (c95 G) (MJ G) z hz
theorem ahO (y z:Int) (hy:ak y.natAbs<=1000000) (hz:ak z.natAbs<=1000000):VP Tryz.prog G 250 [IV y,IV z] (IV (y*z)):=aaA EP (t145 G) (ahM G) (MJ G) y z hy hz
theorem ahP (y z:Int) (hy:ak y.natAbs<=1000000) (hz:ak z.natAbs<=1000000):VP Tryz.prog G 249 [IV y,IV z] (.int .i64 (jk y z)):=aaB EN (abu G) (aeq G) (t145 G) (Vz G) y z hy hz
theorem aes (a b:Int) (HS:b≠0) (ha:ak a.natAbs<=900000) (hb:ak b.natAbs<=900000):VP Tryz.prog G 293 [IV a,IV b] (.tup [IV (a.fdiv b),IV (a.fmod b), .int .i64 0]):=by
 have h:=Rc AW (t145 G) (d164 G) (Yl G) (aer G) (MJ G) a b HS ha hb
 rw [(T4 a b HS).1,(T4 a b HS).2] at h;exact h
theorem aet (a b:Int) (ha:ak a.natAbs<=900000) (hb:ak b.natAbs<=900000):VP Tryz.prog G 274 [IV a,IV b] (IV (Nat.gcd a.natAbs b.natAbs:Nat)):=aaI ER (t145 G) (d164 G) (c95 G) (MJ G) (ZJ G) (Qf G) a b ha hb
theorem aeu (neg:Bool) (ws:List Nat) (hl:ws.length<=9223372036854775807):VP Tryz.prog G 273 [IR neg ws] (.bool (pI neg ws)):=Rg B8 neg ws hl
theorem abv:VP Tryz.prog G 110 [] (IV 1):=aaC Dw (ZK G 1 (by decide) (by decide))
theorem i138 (z:Int):VP Tryz.prog G 259 [IV z] (.bool (decide (z=1))):=TY AX z
theorem ahQ (a b:Int) (HS:b≠0) (ha:ak a.natAbs<=900000) (hb:ak b.natAbs<=900000):VP Tryz.prog G 282 [IV a,IV b] (IV (a.fdiv b)):=aaG Dx a b (i138 G b) (aes G a b HS ha hb)
theorem abw (a:Int) (h1 : -9223372036854775808<=a) (h2:a<9223372036854775808):VP Tryz.prog G 63 [.int .i64 a] (RV a 1):=LN y8 a (ZK G a h1 h2) (abv G)
theorem aev (a b:Int) (ha:ak a.natAbs<=1000000):VP Tryz.prog G 24 [RV a b] (.int .i64 a.sign):=LO B9 a b (abu G a ha)
theorem aew (a b:Int) (HS:b≠0) (ha:ak a.natAbs<=900000) (hb:ak b.natAbs<=900000) :
   VP Tryz.prog G 261 [IV a,IV b] (RV (a.fdiv (if b<0 then -(Nat.gcd a.natAbs b.natAbs:Nat) else (Nat.gcd a.natAbs b.natAbs:Nat))) (b.fdiv (if b<0 then -(Nat.gcd a.natAbs b.natAbs:Nat) else (Nat.gcd a.natAbs b.natAbs:Nat)))):=by
 have hg0:0<Nat.gcd a.natAbs b.natAbs:=Nat.gcd_pos_of_pos_right _ (by omega)
 have hgl:ak (Nat.gcd a.natAbs b.natAbs)<=900000:=Nat.le_trans (bJ (Nat.le_of_dvd (by omega) (Nat.gcd_dvd_right _ _))) hb
 refine Rf z8 a b (Nat.gcd a.natAbs b.natAbs:Nat) (aet G a b ha hb) (n169 G _ (by rw [Int.natAbs_natCast];omega)) ?_
 intro x y hx hy
 have T7:y≠0:=by rcases hy with rfl | rfl<;>omega
 have hyl:ak y.natAbs<=900000:=by rcases hy with rfl | rfl<;>simpa using hgl
 exact ahQ G x y T7 (by rcases hx with rfl | rfl<;>assumption) hyl
end
end Go.Proofs.YtchdghnpcekegaaGreatDoor
end

section
set_option maxRecDepth 100000
namespace Go.Proofs.YtchdghnpcekegaaGreatDoor
open Go.VL Go.Proofs
section
variable (G:Nat->Option (List AV))
theorem aex:Has Tryz.prog 96 gj:=uM
theorem ahR:Has Tryz.prog 55 (jZ 96):=tR
theorem t203:iT Tryz.prog G 96:=fun _ hw hl=>PH aex hw hl
theorem Ou:iW Tryz.prog G 54:=NK r8 (t203 G)
theorem n185 (z:Int) (hz:ak z.natAbs<=1000000):VP Tryz.prog G 98 [IV z] (IV z):=Ui uN (Ou G) z hz
theorem abx (z:Int) (hz:ak z.natAbs<=1000000):VP Tryz.prog G 51 [IV z] (.int .i64 z.sign):=Rk uQ (n185 G) z hz
theorem aey (n:Nat) (hn:n<18446744073709551616):VP Tryz.prog G 55 [.int .u64 ((n:Nat):Int)] (W n):=El ahR (t203 G) n hn
theorem Qg (a:Int) (h1 : -9223372036854775808<=a) (h2:a<9223372036854775808):VP Tryz.prog G 22 [.int .i64 a] (IV a):=Rl rI (aey G) (Ou G) a h1 h2
theorem aez (m n:Nat) (hm:ak m<=1000000) (hn:ak n<=1000000):VP Tryz.prog G 140 [W m,W n] (.int .i64 (fY m n)):=LX rJ m n hm hn
theorem ahS (m n:Nat) (hm:ak m<=1000000) (hn:ak n<=1000000):VP Tryz.prog G 190 [W m,W n] (W (m+n)):=Uk uO (t203 G) m n hm hn
theorem ahT (m n:Nat) (ta:n<=m) (hm:ak m<=1000000):VP Tryz.prog G 146 [W m,W n] (W (m-n)):=I3 mZ (t203 G) m n ta hm
theorem aeA (m:Nat) (ws:List Nat) (hw:Wd ws) (hm:ak m<=1000000) (hl:ws.length<=1000000):VP Tryz.prog G 189 [W m, .sl 1 (us ws)] (W (m*val ws)):=GU m4 (t203 G) m hw hm hl
theorem ahU (m n:Nat) (hm:ak m<=1000000) (hn:ak n<=1000000):VP Tryz.prog G 189 [W m,W n] (W (m*n)):=Rm m4 (t203 G) m n hm hn
theorem ahV (m w:Nat) (hm:ak m<=1000000) (hw:w<aK) (h0:w≠0):VP Tryz.prog G 142 [W m, .int .u32 (w:Int)] (.tup [W (m/w), .int .u32 ((m%w:Nat):Int)]):=aa3 yc (t203 G) m w hm hw h0
theorem aeB (n:Nat) (hn:n<18446744073709551616):VP Tryz.prog G 141 [W n] (.int .u64 (n:Int)):=Uj tT n hn
theorem aeC (m s:Nat) (hm:ak m<=1000000) (hs:s<=31):VP Tryz.prog G 147 [W m, .int .i64 (s:Int)] (W (m/2 ^ s)):=Xp uP (t203 G) m s hm hs
theorem d204 (m n:Nat) (CV:n≠0) (hm:ak m<=900000) (hn:ak n<=900000):VP Tryz.prog G 97 [W m,W n] (.tup [W (m/n),W (m%n)]) :=
 NN sc (aez G) (aeB G) (aey G) (ahV G) r9 rK (t203 G) aex tU (aeA G) mZ (aeC G) m n CV hm hn
theorem ZL (z:Int) (hz:ak z.natAbs<=1000000):VP Tryz.prog G 52 [IV z] (IV (-z)):=Xm wM (Ou G) z hz
theorem aeD (a b:Int) (ha:ak a.natAbs<=1000000) (hb:ak b.natAbs<=1000000):VP Tryz.prog G 150 [IV a,IV b] (IV (a+b)):=Xr wN (n185 G) (ahS G) (Ou G) (aez G) (ahT G) a b ha hb
theorem aeE (a b:Int) (ha:ak a.natAbs<=1000000) (hb:ak b.natAbs<=1000000):VP Tryz.prog G 148 [IV a,IV b] (IV (a-b)):=Xs wO (ZL G) (aeD G) a b ha hb
theorem ZM (a b:Int) (ha:ak a.natAbs<=1000000) (hb:ak b.natAbs<=1000000):VP Tryz.prog G 149 [IV a,IV b] (IV (a*b)):=Ur wP (n185 G) (ahU G) (Ou G) a b ha hb
theorem ahW (a b:Int) (ha:ak a.natAbs<=900000) (hb:ak b.natAbs<=900000):VP Tryz.prog G 50 [IV a,IV b] (IV (Nat.gcd a.natAbs b.natAbs:Nat)):=Xt wQ (t203 G) (d204 G) (Ou G) a b ha hb
theorem aeF (neg:Bool) (ws:List Nat) (hw:Wd ws) (hl:ws.length<=9223372036854775807):VP Tryz.prog G 265 [IR neg ws] (.bool (pI neg ws)):=NQ tQ (t203 G) neg ws hw hl
theorem aby (a:Int) (h1 : -9223372036854775808<=a) (h2:a<9223372036854775808):VP Tryz.prog G 8 [.int .i64 a] (RV a 1):=JV rL a (Qg G a h1 h2) (Qg G 1 (by decide) (by decide))
theorem aeG (z:Int):VP Tryz.prog G 240 [IV z] (.bool (decide (z=1))):=Ut wS z
theorem ahX:Has Tryz.prog 34 (nc 51):=uR
theorem aeH (a b:Int) (ha:ak a.natAbs<=1000000):VP Tryz.prog G 34 [RV a b] (.int .i64 a.sign):=LO ahX a b (abx G a ha)
theorem ahY:Has Tryz.prog 241 (pg 265 51 50 240):=tV
end
end Go.Proofs.YtchdghnpcekegaaGreatDoor
end

section
set_option maxRecDepth 100000
namespace Go.VL
theorem VA (z:Int):pI (decide (z<0)) (digits z.natAbs)=true:=by
 unfold pI
 by_cases h:digits z.natAbs=[]
 . rw [if_pos h]
   have:=m7.1 h
   have : ¬ z<0:=by omega
   simp [this]
 . rw [if_neg h]
   obtain ⟨w,h1,h2⟩:=(zj (n:=z.natAbs)).resolve_left h
   rw [List.getLast?_eq_getElem?] at h1
   rw [h1];simpa using h2
section
variable {P:Program} {G:Nat->Option (List AV)}
theorem ZN {f:FuncId} (h:∀ neg ws,Wd ws->ws.length<=9223372036854775807->VP P G f [IR neg ws] (.bool (pI neg ws))) (z:Int) (hz:ak z.natAbs<=1000000):VP P G f [IV z] (.bool true):=by
 have:=h (decide (z<0)) (digits z.natAbs) (a7 _) (by unfold ak at hz;omega)
 rw [VA] at this;exact this
theorem Jc {f fv fs fg fo:FuncId} (h:Has P f (pg fv fs fg fo)) (hv:∀ z:Int,ak z.natAbs<=1000000->VP P G fv [IV z] (.bool true)) (hs:JY P G fs) (hg:I5 P G fg) (ho:G0 P G fo):Ff P G f:=fun q hq=>by
 have h1:=hv q.num (by have:=hq.1;omega)
 have h2:=hv q.den (by have:=hq.2;rw [Int.natAbs_natCast];omega)
 have h3:=hs q.den (by have:=hq.2;rw [Int.natAbs_natCast];omega)
 have h4:=hg q.num q.den (by have:=hq.1;omega) (by have:=hq.2;rw [Int.natAbs_natCast];omega)
 have h5:=ho ((Nat.gcd q.num.natAbs (q.den:Int).natAbs:Nat):Int)
 rw [Int.natAbs_natCast] at h4 h5
 have e:Nat.gcd q.num.natAbs q.den=1:=q.reduced
 rw [e] at h4 h5
 rw [Int.sign_eq_one_of_pos (vt q)] at h3
 exact VP.tr h [hc h1,hc h2,hc h3,hc h4,hc h5] (by kernel_rfl)
theorem Ym {f fi fm fo fl:FuncId} (h:Has P f (n8 fi fm fo fl)) (hi:G0 P G fi) (hm:Eo P G fm) (ho:VP P G fo [] (IV 1)) (hl:Xw P G fl):P0 P G f:=fun a b ha hb=>by
 obtain ⟨a1,a2⟩:=ha
 obtain ⟨b1,b2⟩:=hb
 have n1:=ck a.num b.num
 have n2:=ck (a.den:Int) (b.den:Int)
 rw [Int.natAbs_natCast,Int.natAbs_natCast] at n2
 have zH:=hl (a.num*b.num) (a.den*b.den) (xv a b) (by omega) (by omega)
 rw [<- Uu] at zH
 have h1:=Xg h a.num a.den b.num b.den (QV (a*b)) (x1:=(a*b).num) (x2:=(a*b).den) rfl hi (hm _ _ (by omega) (by omega)) (hm _ _ (by rw [Int.natAbs_natCast];omega) (by rw [Int.natAbs_natCast];omega)) ho zH
 by_cases hd:(a.den:Int)=1/\(b.den:Int)=1
 . rw [if_pos hd] at h1
   have e:a*b=((a.num*b.num:Int):Rat):=by
     rw [Uu,hd.1,hd.2];show ((a.num*b.num:Int):Rat)/(1:Rat)=_;rw [Rat.div_def,show (1:Rat)⁻¹ = 1 from by decide +kernel,Rat.mul_one]
   rw [e];exact h1
 . rw [if_neg hd] at h1;exact h1
end
end Go.VL
end

section
set_option maxRecDepth 100000
namespace Go.Proofs.YtchdghnpcekegaaGreatDoor
open Go.VL Go.Proofs
section
variable (G:Nat->Option (List AV))
theorem ahZ:Ma Tryz.prog G 260:=Xx ES (t145 G) (Yl G) (MJ G) (Vz G) (aer G)
theorem Sq:Eo Tryz.prog G 250:=fun a b ha hb=>ahO G a b (by omega) (by omega)
theorem ah0:PY Tryz.prog G 255:=fun a ha=>n169 G a (by omega)
theorem VB:JY Tryz.prog G 59:=fun a ha=>abu G a (by omega)
theorem abz:Zr Tryz.prog G 249:=fun a b ha hb=>ahP G a b (by omega) (by omega)
theorem abA:G0 Tryz.prog G 259:=fun z=>i138 G z
theorem ah1:I5 Tryz.prog G 274:=fun a b ha hb=>aet G a b (by omega) (by omega)
theorem abB:Xw Tryz.prog G 261:=fun a b hb ha SC=>by rw [<- GX a b hb];exact aew G a b hb (by omega) (by omega)
theorem VC:Ff Tryz.prog G 254:=Jc AY (ZN fun neg ws _ hl=>aeu G neg ws hl) (VB G) (ah1 G) (abA G)
theorem ah2:P1 Tryz.prog G 221:=Xy DB (ah0 G)
theorem Qh:NW Tryz.prog G 24:=fun q hq=>aev G q.num q.den (by have:=hq.1;omega)
theorem ah3:Zs Tryz.prog G 213:=Xz Dz (Qh G) (Sq G) (abz G)
theorem aeI:PZ Tryz.prog G 227:=XA DA (abA G) (ahZ G) (abv G) (Sq G) (abB G)
theorem ah4:P0 Tryz.prog G 229:=Ym Dy (abA G) (Sq G) (abv G) (abB G)
theorem Yn:Zu Tryz.prog G 63:=fun a h1 h2=>abw G a h1 h2
theorem aeJ (z:Int):VP Tryz.prog G 279 [IV z] (.bool (decide (z=0))):=Ry Ab z
theorem ah5:Zt Tryz.prog G 257:=XB DC (aeJ G) (Sq G) (abB G)
theorem aeK:Ux Tryz.prog G 98:=fun z hz=>n185 G z hz
theorem ah6:Ma Tryz.prog G 150:=fun a b ha hb=>aeD G a b (by omega) (by omega)
theorem aeL:Eo Tryz.prog G 149:=fun a b ha hb=>ZM G a b (by omega) (by omega)
theorem ah7:PY Tryz.prog G 52:=fun a ha=>ZL G a (by omega)
theorem ZO:JY Tryz.prog G 51:=fun a ha=>abx G a (by omega)
theorem abC:G0 Tryz.prog G 240:=fun z=>aeG G z
theorem Yo:I5 Tryz.prog G 50:=fun a b ha hb=>ahW G a b (by omega) (by omega)
theorem abD:P2 Tryz.prog G 53:=fun a b hb hd ha SC=>Uz wR a b (Uy se (aeK G) (d204 G) (Ou G) (ZM G) (aeE G) (abx G) a b hb hd (by omega) (by omega))
theorem MK:Zu Tryz.prog G 8:=fun a h1 h2=>aby G a h1 h2
theorem ZP:NW Tryz.prog G 34:=fun q hq=>aeH G q.num q.den (by have:=hq.1;omega)
theorem ah8:PZ Tryz.prog G 201:=UF wV (abC G) (ah6 G) (Yo G) (aeL G) (abD G)
theorem ah9:P0 Tryz.prog G 198:=RE wT (MK G 0 (by decide) (by decide)) (abC G) (aeL G) (Yo G) (abD G)
theorem aia:P1 Tryz.prog G 228:=UA wW (ah7 G)
theorem abE:Ff Tryz.prog G 241:=Jc ahY (ZN fun neg ws hw hl=>aeF G neg ws hw hl) (ZO G) (Yo G) (abC G)
theorem VD:P7 Tryz.prog G 7:=fun a b HS hb h1 h2=>by
 have a1:ak a.natAbs<=1:=fN (by rw [Nat.pow_one];unfold aK;omega)
 have b1:ak b<=1:=fN (by rw [Nat.pow_one];unfold aK;omega)
 exact RA uT a b HS (Qg G a (by omega) (by omega)) (Qg G b (by omega) (by omega)) (Rz uS (Yo G) (ZO G) (abD G) a b HS (by omega) (by omega))
end
end Go.Proofs.YtchdghnpcekegaaGreatDoor
end

section
set_option maxRecDepth 100000
namespace Go.Proofs.YtchdghnpcekegaaGreatDoor
open Go.VL Go.Proofs
section
variable (G:Nat->Option (List AV))
theorem tn (q:Rat) (hq:Sm 100000 q):VP Tryz.prog G 220 [EV q, .int .i64 1] (.bool true):=NY Cb lq mC Ac (VC G) q hq
theorem trd:VP Tryz.prog G 219 [.nils] (.bool true):=JZ Ad
theorem tF (q:Rat) (hq:Sm 100000 q):VP Tryz.prog G 181 [.nils,EV q] (.bool true):=NZ DF q (trd G) (tn G q hq)
theorem tf (a b:Rat) (ha:Sm 100000 a) (hb:Sm 100000 b):VP Tryz.prog G 185 [.nils,EV a,EV b] (.bool true):=N0 DG a b (tF G a ha) (tn G b hb)
theorem aib (a b:Rat) (ha:Sm 100000 a) (hb:Sm 100000 b):VP Tryz.prog G 135 [.nils,EV a,EV b] (EV (a+b)):=XG HF a b (tf G a b ha hb) (P3 Ay a b (aeI G a b ha hb))
theorem aic (a b:Rat) (ha:Sm 100000 a) (hb:Sm 100000 b):VP Tryz.prog G 153 [.nils,EV a,EV b] (EV (a*b)):=XK HJ a b (tf G a b ha hb) (XJ HI a b (ah4 G a b ha hb))
theorem VE (q:Rat) (hq:Sm 100000 q):VP Tryz.prog G 108 [QV q] (QV q):=N3 AZ q (c95 G _ (by have:=hq.1;omega)) (c95 G _ (by have:=hq.2;omega))
theorem Yp (q:Rat) (hq:Sm 100000 q):VP Tryz.prog G 62 [QV q] (NV q):=N4 A1 q (VE G q hq)
theorem aid (i:Nat) (hi:i<=1000):VP Tryz.prog G 27 [.int .i64 (i:Int)] (NV (((i:Nat):Int):Rat)):=Md A2 i (Yn G i (by omega) (by omega)) (Yp G _ ((Ha hi).mono (by omega)))
theorem abF:VP Tryz.prog G 171 [.nils, .nils] (.bool true):=RD Cf (XO fW)
theorem aeM (q:Rat):VP Tryz.prog G 177 [.nils,EV q] (EV q):=abb Gp q (RF nS q)
theorem abG (q:Rat) (hq:Sm 100000 q):VP Tryz.prog G 129 [NV q] (NV q):=RB sO q (Ep qE q (VE G q hq))
theorem VF (a b:Rat) (ha:Sm 100000 a) (hb:Sm 100000 b):VP Tryz.prog G 173 [.sl 2 [NV a,NV b]] (.tup [.sl 2 [NV a,NV b], .int .i64 0]):=XQ EU a b (RG Cg a b (abF G)) (abF G) (aeM G a) (aeM G b) (abG G a ha) (abG G b hb)
theorem Yq (a b:Rat) (ha:Sm 100000 a) (hb:Sm 100000 b):VP Tryz.prog G 85 [NV a,NV b] (.tup [NV (a+b), .int .i64 0]):=XR Gq a b _ (Bg nz a b _ (VF G a b ha hb) (aib G a b ha hb))
theorem Sr (a b:Rat) (ha:Sm 100000 a) (hb:Sm 100000 b):VP Tryz.prog G 107 [NV a,NV b] (.tup [NV (a*b), .int .i64 0]):=XT Gs a b _ (Bg nz a b _ (VF G a b ha hb) (aic G a b ha hb))
theorem vMk (v:Q2) (hv:m9 100000 v):VP Tryz.prog G 26 [QV v.1,QV v.2] (V2 v):=UU EX v (Yp G _ hv.1) (Yp G _ hv.2)
theorem aie (a b:Q2) (ha:m9 100000 a) (hb:m9 100000 b):VP Tryz.prog G 65 [V2 a,V2 b] (.tup [V2 (gv a b), .int .i64 0]):=XY Gw a b _ (CK nh a b _ (Yq G _ _ ha.1 hb.1) (Yq G _ _ ha.2 hb.2))
theorem abH (a:Q2) (n:Rat) (ha:m9 100000 a) (hn:Sm 100000 n):VP Tryz.prog G 61 [V2 a,NV n] (.tup [V2 (ga a n), .int .i64 0]):=RO DJ a _ n (CK nh a (n,n) _ (Sr G _ _ ha.1 hn) (Sr G _ _ ha.2 hn))
theorem aeN:CN Tryz.prog G 31:=fun a b ha hb=>Yb zd a b (aie G a b (ha.mono (by omega)) (hb.mono (by omega))) (Ki mq)
theorem VG:xx Tryz.prog G 25:=fun a n ha hn=>Sa xl a n (abH G a n (ha.mono (by omega)) (hn.mono (by omega))) (Ki mq)
theorem r6R (q:Rat) (hq:Sm 100000 q):VP Tryz.prog G 203 [EV q, .int .i64 1] (.bool true):=N6 tX q (abE G q hq)
theorem r6T:VP Tryz.prog G 202 [.nils] (.bool true):=N7 tY
theorem r6F (q:Rat) (hq:Sm 100000 q):VP Tryz.prog G 166 [.nils,EV q] (.bool true):=Mf sf q (r6T G) (r6R G q hq)
theorem aeO (a b:Rat) (ha:Sm 100000 a) (hb:Sm 100000 b):VP Tryz.prog G 165 [.nils,EV a,EV b] (EV (a+b)):=UJ wX a b (ah8 G a b ha hb)
theorem aeP (a b:Rat) (ha:Sm 100000 a) (hb:Sm 100000 b):VP Tryz.prog G 164 [.nils,EV a,EV b] (EV (a*b)):=UL wZ a b (ah9 G a b ha hb)
theorem aeQ (a:Rat) (ha:Sm 100000 a):VP Tryz.prog G 188 [.nils,EV a] (EV (-a)):=UK wY a (aia G a ha)
theorem r9J (a b:Rat):VP Tryz.prog G 197 [.sl 2 [NV a,NV b]] (.tup [.sl 2 [NV a,NV b], .int .i64 0]):=RM uW a b (Mg si) (I7 nK a) (I7 nK b)
theorem r9T (a b:Rat):VP Tryz.prog G 163 [NV a,NV b] (.tup [NV a,NV b, .int .i64 0]):=UM w6 a b (r9J G a b)
theorem Qi (a b:Rat) (ha:Sm 100000 a) (hb:Sm 100000 b):VP Tryz.prog G 121 [NV a,NV b] (.tup [NV (a+b), .int .i64 0]):=UN w7 a b (r9T G a b) (aeO G a b ha hb)
theorem Qj (a b:Rat) (ha:Sm 100000 a) (hb:Sm 100000 b):VP Tryz.prog G 118 [NV a,NV b] (.tup [NV (a*b), .int .i64 0]):=UO xe a b (r9T G a b) (aeP G a b ha hb)
theorem Qk (a:Rat) (ha:Sm 100000 a):VP Tryz.prog G 139 [NV a] (NV (-a)):=UQ w9 a (aeQ G a ha)
theorem aeR (a b:Rat) (ha:Sm 100000 a) (hb:Sm 100000 b):VP Tryz.prog G 209 [NV a,NV b] (.tup [NV (a-b), .int .i64 0]):=UR xd a b (Qk G b hb) (Qi G a (-b) ha hb.neg)
theorem r7S (a:Rat) (ha:Sm 100000 a):VP Tryz.prog G 208 [.nils,EV a] (.int .i64 (dm a)):=RJ uU a (ZP G a ha)
theorem VH (a:Rat) (ha:Sm 100000 a):VP Tryz.prog G 124 [NV a] (.int .i64 (dm a)):=RN uX a (RL uV a (r7S G a ha))
theorem aeS (a b:Rat) (ha:Sm 45000 a) (hb:Sm 45000 b):VP Tryz.prog G 170 [NV a,NV b] (.tup [.int .i64 (dm (a-b)), .int .i64 0]):=UT xf a b (aeR G a b (ha.mono (by omega)) (hb.mono (by omega))) (VH G _ ((ha.sub hb).mono (by omega)))
theorem abI (a b:Rat) (ha:Sm 45000 a) (hb:Sm 45000 b):VP Tryz.prog G 125 [NV a,NV b] (.bool (decide (a=b))):=N8 tZ a b (aeS G a b ha hb)
theorem ZQ (a:Rat) (ha:Sm 100000 a):VP Tryz.prog G 122 [NV a] (.bool true):=N9 ua a (r6F G a ha) (J0 rM)
theorem VI (q:Rat):VP Tryz.prog G 69 [QV q] (NV q):=J1 rN q
theorem aeT (i:Nat) (hi:i<=1000):VP Tryz.prog G 37 [.int .i64 (i:Int)] (NV (((i:Nat):Int):Rat)):=J2 rO i (MK G i (by omega) (by omega)) (VI G _)
theorem ML (v:Q2):VP Tryz.prog G 35 [QV v.1,QV v.2] (V2 v):=Oa uY v (VI G _) (VI G _)
theorem aeU:VP Tryz.prog G 120 [.int .i64 0, .int .i64 0] (.int .i64 0):=Mh ub
theorem aeV (v:Q2):VP Tryz.prog G 119 [NV v.1,NV v.2, .int .i64 0] (.tup [V2 v, .int .i64 0]):=RP xg v
theorem VJ (a b:Q2) (ha:m9 100000 a) (hb:m9 100000 b):VP Tryz.prog G 72 [V2 a,V2 b] (.tup [V2 (gv a b), .int .i64 0]):=RQ xh a b (Qi G _ _ ha.1 hb.1) (Qi G _ _ ha.2 hb.2) (aeU G) (aeV G (gv a b))
theorem abJ (a:Q2) (ha:m9 100000 a):VP Tryz.prog G 187 [V2 a] (V2 (CJ a)):=RR xi a (Qk G _ ha.1) (Qk G _ ha.2)
theorem abK (a b:Q2) (ha:m9 100000 a) (hb:m9 100000 b):VP Tryz.prog G 138 [V2 a,V2 b] (.tup [V2 (jq a b), .int .i64 0]):=RT xj a b (abJ G b hb) (VJ G a (CJ b) ha ⟨hb.1.neg,hb.2.neg⟩)
theorem VK (a:Q2) (n:Rat) (ha:m9 100000 a) (hn:Sm 100000 n):VP Tryz.prog G 71 [V2 a,NV n] (.tup [V2 (ga a n), .int .i64 0]):=Mi uc a n (Qj G _ _ ha.1 hn) (Qj G _ _ ha.2 hn) (aeU G) (aeV G (ga a n))
theorem Yr (a:Q2) (ha:m9 100000 a):VP Tryz.prog G 95 [V2 a] (V2 (-a.2,a.1)):=Ob uZ a (Qk G _ ha.2)
theorem abL (a b:Q2) (ha:m9 20000 a) (hb:m9 20000 b):VP Tryz.prog G 247 [V2 a,V2 b] (.tup [NV (rW a b), .int .i64 0]):=RU xk a b (Qj G _ _ (ha.1.mono (by omega)) (hb.1.mono (by omega))) (Qj G _ _ (ha.2.mono (by omega)) (hb.2.mono (by omega))) (Qi G _ _ ((ha.1.mul hb.1).mono (by omega)) ((ha.2.mul hb.2).mono (by omega)))
theorem MM (a b:Q2) (ha:m9 45000 a) (hb:m9 45000 b):VP Tryz.prog G 91 [V2 a,V2 b] (.bool (decide (a=b))):=Mj ud a b (abI G _ _ ha.1 hb.1) (abI G _ _ ha.2 hb.2)
theorem Ov (a:Q2) (ha:m9 100000 a):VP Tryz.prog G 74 [V2 a] (.bool true):=Mk ue a (ZQ G _ ha.1) (ZQ G _ ha.2)
theorem ZR:da Tryz.prog G 117 [.int .i64 0] (.tup []):=X1 qq
theorem abM (a:Q2):da Tryz.prog G 70 [V2 a, .int .i64 0] (V2 a):=abe qK (ZR G) a
theorem aif (a:Rat):da Tryz.prog G 206 [NV a, .int .i64 0] (NV a):=abd qJ (ZR G) a
theorem ZT:CN Tryz.prog G 39:=fun a b ha hb=>X2 qu a b (VJ G a b (ha.mono (by omega)) (hb.mono (by omega))) (abM G)
theorem VM:ZD Tryz.prog G 93:=fun a b ha hb=>UW pW a b (abK G a b (ha.mono (by omega)) (hb.mono (by omega))) (abM G)
theorem VN:xx Tryz.prog G 36:=fun a n ha hn=>UX pX a n (VK G a n (ha.mono (by omega)) (hn.mono (by omega))) (abM G)
theorem Ys (a:Q2) (ha:m9 20000 a):da Tryz.prog G 168 [V2 a] (NV (rW a a)):=RW pB a (J3 sj a (abL G a a ha ha)) (aif G)
theorem aeW (a b:Q2) (ha:m9 5000 a) (hb:m9 5000 b):da Tryz.prog G 123 [V2 a,V2 b] (NV (Ks a b)):=abf qL a b (VM G a b ha hb) (Ys G _ ((ha.sub hb).mono (by omega)))
end
end Go.Proofs.YtchdghnpcekegaaGreatDoor
end

section
set_option linter.unusedSimpArgs false
set_option linter.unusedVariables false
set_option maxRecDepth 100000
namespace Go.VL
open Go.Lib
theorem Ow (a c w:Q2):jq (gv a w) (gv c w)=jq a c:=by
 unfold jq gv
 ext<;>simp only []<;>grind
theorem VO (a b w:Q2):gv a w=gv b w↔a=b:=by
 constructor
 . intro h
   unfold gv at h
   simp only [Prod.mk.injEq] at h
   ext<;>grind
 . rintro rfl;rfl
theorem MN (x:CX) (w:Q2):(x.shift w).valid=x.valid:=by
 unfold CX.valid CX.shift
 cases h:x.G4
 . simp only [Bool.false_eq_true,if_false]
   congr 1
   exact decide_eq_decide.2 (VO _ _ _)
 . simp only [if_true]
   unfold Ks
   simp only [Ow]
theorem VQ {x:CX} {w:Q2} {j k:Nat} (hx:x.Sm j) (hw:m9 k w):(x.shift w).Sm (j+k+1):=by
 unfold CX.shift
 refine ⟨hx.1.add hw,hx.2.1.add hw, ?_⟩
 simp only []
 split
 . exact hx.2.2.add hw
 . exact hx.2.2.mono (by omega)
theorem Ss (x:CX):x.same x=true:=by unfold CX.same;simp
theorem Ox (l:List NX):P9 l l=true:=by
 unfold P9
 have:(l.zip l).any (fun p => !(p.1.name==p.2.name&&p.1.c.same p.2.c))=false:=by
   rw [List.any_eq_false]
   intro p hp
   obtain ⟨i,hi⟩:=List.getElem?_of_mem hp
   rw [List.getElem?_zip_eq_some] at hi
   have:p.1=p.2:=by have:=hi.1.symm.trans hi.2;simpa using this
   rw [this,Ss];simp
 rw [this];simp
theorem EA {nm:List UInt8} {l:List NX} {w:Q2} {ins:List (List UInt8)}:∀ {k:Nat} {x:NX},x∈bM nm l w ins k->∃ i s,i<=k/\s∈ins/\x=s4 nm l w i s
 | 0,x,h=>by simp [bM] at h
 | k + 1,x,h=>by
   simp only [bM,List.mem_append,List.mem_map] at h
   rcases h with h | ⟨s,hs,rfl⟩
   . obtain ⟨i,s,hi,hs,e⟩:=EA h
     exact ⟨i,s,by omega,hs,e⟩
   . exact ⟨k+1,s,Nat.le_refl _,hs,rfl⟩
theorem St {cs:List CX} {x:NX} (h:x∈named cs):∃ i,i<cs.length/\x.name=[107,47]++decDigits i/\x.c∈cs:=by
 unfold named at h
 obtain ⟨i,hi,e⟩:=List.mem_mapIdx.1 h
 subst e
 exact ⟨i,hi,rfl,List.getElem_mem hi⟩
section
variable {P:Program} {G:Nat->Option (List AV)}
theorem Kn {f fc:FuncId} (h:Has P f (gA fc)) (ds:List DX) (h6:6<ds.length):VP P G f [Kt ds, .int .i64 6] (.tup [.nils, .bool false]) :=
 VP.tr h [hb 13 (aG (by simp;omega):decide (((ds.map DX.av).length:Int)>6)=true)] (by kernel_rfl)
theorem VR {nm:List UInt8} {l:List NX} {ins:List (List UInt8)} {x y:Rat} {n:Int} (hE:Kc nm l ins x y n=0) (hx:Sm 1 x) (hy:Sm 1 y) (hl:∀ z∈l,z.c.valid=true/\z.c.Sm 100):(l++bM nm l (x,y) ins n.toNat).length<=200/\∀ z∈l++bM nm l (x,y) ins n.toNat,z.c.valid=true/\z.c.Sm 200:=by
 unfold Kc at hE
 split at hE
 . cases hE
 rename_i hn
 split at hE
 . rename_i h1;exact absurd hE h1
 rename_i p9
 split at hE
 . cases hE
 have aih:dz nm l ins=0:=by simpa using p9
 obtain ⟨_,_,iI⟩:=Bj aih
 refine ⟨by rw [List.length_append];exact DZ hE,fun z hz => ?_⟩
 rcases List.mem_append.1 hz with hz | hz
 . exact ⟨(hl z hz).1,(hl z hz).2.mono (by omega)⟩
 . obtain ⟨i,s,hi,hs,rfl⟩:=EA hz
   obtain ⟨k,u,_,hu,_,ZF⟩:=zz (iI s hs)
   have hu1:=hl u (List.mem_of_getElem? hu)
   unfold s4
   simp only []
   rw [ZF,MN]
   refine ⟨hu1.1,(VQ hu1.2 (m9.scale (j:=1) (k:=1) ⟨hx,hy⟩ (Ha (by omega)))).mono (by omega)⟩
end
end Go.VL
end

section
set_option maxRecDepth 100000
namespace Go.Proofs.YtchdghnpcekegaaGreatDoor
open Go.VL Go.Proofs Go.Lib
section
variable (G:Nat->Option (List AV))
theorem aeX (c:UInt8):VP Tryz.prog G 100 [ky c] (.bool (dL c)):=Ek AQ c
theorem aii (c:UInt8):VP Tryz.prog G 151 [ky c] (.bool (oG c)):=GD B5 c
theorem aeY (c:UInt8):VP Tryz.prog G 102 [ky c] (.bool (dw c)):=Q1 Dr (aeX G) (aii G) c
theorem aeZ (s:List UInt8) (hs:s.length<9223372036854775807):VP Tryz.prog G 101 [.str s, .fn (.func 102) [] []] (.int .i64 (fT dw s)):=WY Gn (aeY G) s hs
theorem VT (s:List UInt8):VP Tryz.prog G 56 [.str s] (.bool (eH s)):=Q3 Ds (aeX G) (aeZ G) s
theorem ae0:Has Tryz.prog 161 mA:=r7
theorem ae1:Has Tryz.prog 162 na:=tP
theorem ae2 (s:List UInt8) (hs:s.length<9223372036854775807):VP Tryz.prog G 116 [.str s, .int .i64 0] (.int .i64 ((vv s:Nat):Int)):=Xu uL (Ek ae0) (GD ae1) s hs
theorem ae3 (s:List UInt8):VP Tryz.prog G 68 [.str s] (.bool (eH s)):=NT r6 (ae2 G) s
theorem VU:P8 Tryz.prog G 75:=fun x hx=>by
 have h1:=Sm.Ks hx.1 hx.2.2
 have h2:=Sm.Ks hx.2.1 hx.2.2
 exact Od uf x (MM G _ _ (hx.1.mono (by omega)) (hx.2.1.mono (by omega))) (aeW G _ _ hx.1 hx.2.2) (aeW G _ _ hx.2.1 hx.2.2) (VH G _ (h1.mono (by omega))) (abI G _ _ (h1.mono (by omega)) (h2.mono (by omega)))
theorem cAt (p:Int × Int) (u:Nat) (hp:ok8 p) (hu:u<256):VP Tryz.prog G 92 [I2 p, .int .u8 ((u:Nat):Int)] (V2 (vD p u)):=X4 yd (VD G) (ML G) p hp u hu
theorem ae4 (n:Nat) (hn:n<256):VP Tryz.prog G 94 [.int .u8 (n:Int)] (V2 (vC (n%16))):=RX u0 (VD G) (ML G) n hn
theorem abN:VP Tryz.prog G 18 [.int .i64 0, .int .i64 0] (V2 (0,0)):=Es m5 0 0 (MK G 0 (by decide) (by decide)) (MK G 0 (by decide) (by decide)) (ML G (0,0))
theorem abO (d:DX) (hd:d.Ok):VP Tryz.prog G 49 [d.av] (.tup [d.ib.av, .bool d.ib.valid]):=Og ug d hd (cAt G) (abN G) (VM G) (ae4 G) (VN G) (fun a ha=>Yr G a (ha.mono (by omega))) (ZT G) (VU G)
theorem ae5 (n:Nat) (hn:n<1000):VP Tryz.prog G 14 [.int .i64 (n:Int)] (.str (decDigits n)):=Mm sn n (Ml sk n hn)
def D1 (ds:List DX):Bool:=decide (ds.length<=6) && !ds.any fun d => !d.ib.valid
def made (ds:List DX):List CX:=if D1 ds=true then ds.map DX.ib else []
theorem zD {ds:List DX} (h:D1 ds=true):ds.length<=6/\∀ d∈ds,d.ib.valid=true:=by
 unfold D1 at h
 simp only [Bool.and_eq_true,decide_eq_true_eq,Bool.not_eq_true',List.any_eq_false] at h
 exact ⟨h.1,fun d hd=>by simpa using h.2 d hd⟩
theorem Yt (ds:List DX) (hd:∀ d∈ds,d.Ok):VP Tryz.prog G 20 [Kt ds, .int .i64 6] (if D1 ds=true then .tup [Oh (made ds), .bool true] else .tup [.nils, .bool false]):=by
 by_cases h6:6<ds.length
 . have:D1 ds=false:=by unfold D1;rw [decide_eq_false (by omega)];rfl
   rw [this,if_neg (by decide)]
   exact Kn mI ds h6
 . have h:=Mr mI ds (fun d hm=>abO G d (hd d hm)) (by omega)
   unfold made
   by_cases hf:D1 ds=true
   . rw [if_pos hf,if_pos hf]
     rw [if_neg] at h
     . exact h
     . rintro (h1 | h1)
       . exact h6 h1
       . obtain ⟨d,hd,hv⟩:=List.any_eq_true.1 h1
         rw [(zD hf).2 d hd] at hv;simp at hv
   . rw [if_neg hf]
     rw [if_pos] at h
     . exact h
     . right
       unfold D1 at hf
       rw [decide_eq_true (by omega),Bool.true_and] at hf
       simpa using hf
theorem ae6 (ds:List DX) (hd:∀ d∈ds,d.Ok):VP Tryz.prog G 6 [Kt ds] (.tup [dT (named (made ds)), .bool (D1 ds)]) :=
 R2 u6 ds (D1 ds) (made ds) (fun h=>by unfold made;rw [h];rfl) (by
   unfold made
   split
   . rename_i h;rw [List.length_map];exact (zD h).1
   . exact Nat.zero_le _) (Yt G ds hd) (ae5 G)
theorem Jd {ds:List DX} (hd:∀ d∈ds,d.Ok) (hf:D1 ds=true):(named (made ds)).length<=6/\∀ z∈named (made ds),z.c.valid=true/\z.c.Sm 20/\z.name.length<=10:=by
 have hm:made ds=ds.map DX.ib:=by unfold made;rw [if_pos hf]
 refine ⟨by unfold named;rw [List.length_mapIdx,hm,List.length_map];exact (zD hf).1,fun z hz => ?_⟩
 obtain ⟨i,hi,hn,hc⟩:=St hz
 rw [hm] at hc hi
 obtain ⟨d,hdm,e⟩:=List.mem_map.1 hc
 refine ⟨by rw [<- e];exact (zD hf).2 d hdm,by rw [<- e];exact Mq (hd d hdm), ?_⟩
 have:=Kd (i:=i) (by rw [List.length_map] at hi;have:=(zD hf).1;omega)
 rw [hn];simp;omega
theorem VV (l:List NX) (hl:l.length<=1000) (s:List UInt8):VP Tryz.prog G 38 [dT l, .str s] (.int .i64 (ek l s)):=RY u3 l s (by omega)
theorem ae7 (l more:List NX) (hl:l.length<=1000) (hm:more.length<=1000000):VP Tryz.prog G 73 [dT l,dT more] (.int .i64 (iE l more)):=RZ u4 l more (by omega) hm (fun x _=>VV G l hl _)
def LOk (l:List NX):Prop:=l.length<=1000/\∀ z∈l,NOk 2000 z
theorem aik (l:List NX) (hl:LOk l):Yi Tryz.prog G 12 l:=fun nm ins x y n ta yg hx hy h1 h2 =>
 Ke rP nm l ins x y n ⟨h1,h2⟩ (Mo sq nm l ins (ae3 G nm) (fun s _=>VV G l hl.1 s) (by omega)) (fun q hq=>ZP G q (hq.mono (by omega))) (ML G) (fun i hi=>aeT G i hi) (VN G) (fun s _=>VV G l hl.1 s) (ZT G) (ae5 G)
   (fun more hm h0 h1=>Ol uh l more (ae7 G l more hl.1 hm) h0 h1) ta hl.2 hl.1 yg hx hy
theorem Oy (l:List NX) (hl:l.length<=1000) (s:List UInt8):VP Tryz.prog G 46 [dT l, .str s] (.int .i64 (ek l s)) :=
 R5 sP l s (iJ aV (a:=[]) (c:=[.ep [.str s] 0]) (p:=fun x=>x.name==s) (fun e _=>Om qF e s) (by simp) (by simp [X8]) (by omega))
theorem ae8 (l:List NX) (hl:l.length<=1000) (s:List UInt8):VP Tryz.prog G 58 [dT l, .str s] (if ek l s<0 then .tup [zC, .bool false] else .tup [(eJ l s).av, .bool true]):=by
 split
 . rename_i h;exact R6 mD l s (Oy G l hl s) h
 . rename_i h;exact Ve mD l s (Oy G l hl s) h
open Classical in
theorem ail (l:List (List UInt8)) (hl:l.length<=1000):VP Tryz.prog G 57 [strs l] (.bool (decide (HU l l.length))):=Mv mr l (by omega) (fun i s _=>Kf eL _ s (R7 fL _ s (by rw [List.length_take];omega)))
theorem pIn (nm:List UInt8) (l:List NX) (hl:l.length<=1000) (ins:List (List UInt8)) (hi:ins.length<=1000):VP Tryz.prog G 23 [.str nm,dT l,strs ins] (if dz nm l ins=0 then .tup [Oh (ins.map (eJ l)), .int .i64 0] else .tup [.nils, .int .i64 (dz nm l ins)]) :=
 On nA nm l ins (VT G nm) (ail G ins hi) (fun s _=>ae8 G l hl s) hi
theorem ae9 (n:Nat) (hn:n<100):VP Tryz.prog G 29 [.int .i64 (n:Int)] (.str (decDigits n)):=Ya DL n (Vk sr n (Kh pE n hn (Vj rQ n hn)))
theorem afa (l more:List NX) (hl:l.length<=1000) (hm:more.length<=1000000):VP Tryz.prog G 66 [dT l,dT more] (.int .i64 (iE l more)) :=
 Vh pC l more (by omega) hm
   (kH bo (iJ aV (a:=[]) (c:=[]) (p:=fun x=>decide (200<x.name.length)) (fun e _=>Vf nB e) (by simp) (by simp) hm) aL)
   (kH bo (iJ aV (a:=[]) (c:=[.ep [dT l] 0]) (p:=fun x=>decide (0<=ek l x.name)) (fun e _=>Vg nC l e (Oy G l hl _)) (by simp) (by simp [aa.ep,aC]) hm) (ahv (aa.ep (by simp [aC]))))
theorem afb (l more:List NX) (hl:l.length<=1000) (hm:more.length<=1000000) (h0:l≠[]) (h1:more≠[]):VP Tryz.prog G 32 [dT l,dT more] (if iE l more=0 then .tup [dT (l++more), .int .i64 0] else .tup [.nils, .int .i64 (iE l more)]) :=
 X9 pD l more (afa G l more hl hm) (fun h=>R8 dS er l more h0 h1 (DZ h))
theorem aim (l:List NX) (hl:LOk l):Yi Tryz.prog G 9 l:=fun nm ins x y n ta yg hx hy h1 h2 =>
 MH Ae nm l ins x y n ⟨h1,h2⟩ (pIn G nm l hl.1 ins (by omega)) (fun q hq=>Qh G q (hq.mono (by omega))) (fun v hv=>vMk G v (hv.mono (by omega))) (fun i hi=>aid G i hi) (VG G) (ae9 G) ye A3 (aeN G)
   (fun more hm h0 h1=>afb G l more hl.1 hm h0 h1) ta hl.2 hl.1 yg hx hy
theorem ZU (L:List NX) (hl:L.length<=1000) (hL:∀ z∈L,z.c.Sm 5000):VP Tryz.prog G 19 [dT L,dT L] (.bool true):=by
 have h:=R4 (G:=G) jQ L L (by omega) (fun x y JM=>by
   have hx:=hL x (List.of_mem_zip JM).1
   have hy:=hL y (List.of_mem_zip JM).2
   refine Oe jj x.c y.c fun u v huv => ?_
   simp only [List.mem_cons,Prod.mk.injEq,List.not_mem_nil,or_false] at huv
   rcases huv with ⟨rfl,rfl⟩ | ⟨rfl,rfl⟩ | ⟨rfl,rfl⟩
   . exact MM G _ _ (hx.1.mono (by omega)) (hy.1.mono (by omega))
   . exact MM G _ _ (hx.2.1.mono (by omega)) (hy.2.1.mono (by omega))
   . exact MM G _ _ (hx.2.2.mono (by omega)) (hy.2.2.mono (by omega)))
 rw [Ox] at h;exact h
theorem ZV (L:List NX) (hl:L.length<=1000) (hL:∀ z∈L,z.c.valid=true/\z.c.Sm 5000):VP Tryz.prog G 41 [dT L] (.bool true):=by
 have h:=R1 (G:=G) u5 L (by omega) (fun x hx=>by
   have hs:=(hL x hx).2
   exact ⟨Ov G _ (hs.1.mono (by omega)),Ov G _ (hs.2.1.mono (by omega)),Ov G _ (hs.2.2.mono (by omega)),VU G x.c hs⟩)
 have e:(L.any fun x => !x.c.valid)=false:=by rw [List.any_eq_false];intro z hz;rw [(hL z hz).1];decide
 rw [e] at h;exact h
theorem abP (L:List NX) (e:Int) (hl:L.length<=1000) (hL:∀ z∈L,z.c.valid=true/\z.c.Sm 5000):VP Tryz.prog G 13 [dT L, .int .i64 e,dT L, .int .i64 e] (.bool true):=Vx m6 L e (ZV G L hl hL) (ZU G L hl fun z hz=>(hL z hz).2)
theorem Yu (e:Int):VP Tryz.prog G 13 [.nils, .int .i64 e, .nils, .int .i64 e] (.bool true):=Sp m6 e (ZV G [] (by simp) (by simp)) (ZU G [] (by simp) (by simp))
theorem afc (l:List (List UInt8)) (hl:l.length<=1000):VP Tryz.prog G 11 [strs l] (strs l) :=
 pJ oW (by intro e he;obtain ⟨s,_,rfl⟩:=List.mem_map.1 he;rfl) (nj (f:=AV.str) (fun x=>by simp [AV.cells,AV.one]) l) (by intro c hc;simp only [flat,List.mem_flatMap,List.mem_map] at hc;obtain ⟨_,⟨s,_,rfl⟩,hc⟩:=hc;simp only [AV.cells,List.mem_singleton] at hc;subst hc;exact aa.str s) (by rw [List.length_map];omega)
theorem ain (vg:VP Tryz.prog G 5 [] (.bool true)) (ds:List DX) (hd:∀ d∈ds,d.Ok) (names:List (List UInt8)) (a b c:Int) (ha : -128<=a/\a<128) (hb : -128<=b/\b<128) (hc : -128<=c/\c<128) :
   VP Tryz.prog G 3 [Kt ds,strs names, .agg [.int .i8 a, .int .i8 b, .int .i8 c]] (.bool true):=by
 have hL:D1 ds=true->LOk (named (made ds)):=fun h=>by
   obtain ⟨h1,h2⟩:=Jd hd h
   exact ⟨by omega,fun z hz=>⟨by have:=(h2 z hz).2.2;omega,(h2 z hz).2.1.mono (by omega)⟩⟩
 refine Vy nT ds names a b c ha hb hc vg (D1 ds) (named (made ds)) (ae6 G ds hd) (VD G) (fun z h1 h2=>MK G z (by omega) (by omega)) (fun h=>HW gB _ (by have:=(hL h).1;omega)) (afc G) (fun h=>aim G _ (hL h)) (fun h=>aik G _ (hL h)) (fun h nm ins x y n hx hy hE hi ta hn => ?_) (Yu G)
 obtain ⟨h1,h2⟩:=Jd hd h
 obtain ⟨g1,g2⟩:=VR hE hx hy (fun z hz=>⟨(h2 z hz).1,(h2 z hz).2.1.mono (by omega)⟩)
 exact abP G _ 0 (by omega) (fun z hz=>⟨(g2 z hz).1,(g2 z hz).2.mono (by omega)⟩)
end
end Go.Proofs.YtchdghnpcekegaaGreatDoor
end

section
set_option linter.unusedVariables false
set_option maxRecDepth 100000
namespace Go.VL
section
variable {P:Program} {G:Nat->Option (List AV)}
theorem Yv {f ff fi:FuncId} (h:Has P f (rE ff fi)) (a:Rat):da P G f [NV a, .int .i64 0] (NV a):=da.tr h [] (by kernel_rfl)
theorem Yw {f fa fv:FuncId} (h:Has P f (rD fa fv)) (a b c:Q2) (ha:VP P G fa [V2 a,V2 b] (.tup [V2 c, .int .i64 0])) (hv:∀ a,da P G fv [V2 a, .int .i64 0] (V2 a)):da P G f [V2 a,V2 b] (V2 c):=da.tr h [hc ha,dH [1] (hv c)] (by kernel_rfl)
theorem Yx {f fa fv:FuncId} (h:Has P f (rF fa fv)) (a b c:Rat) (ha:VP P G fa [NV a,NV b] (.tup [NV c, .int .i64 0])) (hv:∀ a,da P G fv [NV a, .int .i64 0] (NV a)):da P G f [NV a,NV b] (NV c):=da.tr h [hc ha,dH [1] (hv c)] (by kernel_rfl)
theorem Yy {f fa fv:FuncId} (h:Has P f (rG fa fv)) (a b c:Rat) (ha:VP P G fa [NV a,NV b] (.tup [NV c, .int .i64 0])) (hv:∀ a,da P G fv [NV a, .int .i64 0] (NV a)):da P G f [NV a,NV b] (NV c):=da.tr h [hc ha,dH [1] (hv c)] (by kernel_rfl)
theorem Yz {f fb fm fa:FuncId} (h:Has P f (B1 fb fm fa)) (a b:Q2) (hb:VP P G fb [V2 a,V2 b, .fn (.func fm) [] []] (.tup [V2 (a.1*b.1,a.2*b.2), .int .i64 0])) (ha:VP P G fa [NV (a.1*b.1),NV (a.2*b.2)] (.tup [NV (rW a b), .int .i64 0])):VP P G f [V2 a,V2 b] (.tup [NV (rW a b), .int .i64 0]):=VP.tr h [hc hb,hc ha] (by kernel_rfl)
theorem Oz {f fd:FuncId} (h:Has P f (xH fd)) (a:Q2) (hd:VP P G fd [V2 a,V2 a] (.tup [NV (rW a a), .int .i64 0])):VP P G f [V2 a] (.tup [NV (rW a a), .int .i64 0]):=VP.tr h [hc hd] (by kernel_rfl)
theorem YA {f fs fq:FuncId} (h:Has P f (xG fs fq)) (a:Q2) (m:Rat) (hs:VP P G fs [V2 a] (.tup [NV (rW a a), .int .i64 0])) (hq:VP P G fq [NV (rW a a)] (.tup [NV m, .int .i64 0])):VP P G f [V2 a] (.tup [NV m, .int .i64 0]):=VP.tr h [hc hs,hc hq] (by kernel_rfl)
theorem VX {f fn:FuncId} (h:Has P f (xI fn)) (a:Rat) (hn:VP P G fn [NV a] (NV (-a))) (WC:VP P G fn [NV (-a)] (NV a)):VP P G f [NV a] (NV a):=VP.tr h [hc hn,hc WC] (by kernel_rfl)
theorem VY {f fn fc:FuncId} (h:Has P f (Au fn fc)) (a:Q2) (hn:VP P G fn [NV a.2] (NV (-a.2))) (W5:VP P G fc [NV a.1] (NV a.1)):VP P G f [V2 a] (V2 (-a.2,a.1)):=VP.tr h [hc hn,hc W5] (by kernel_rfl)
theorem Su {f fl fd:FuncId} (h:Has P f (yX fl fd)) (a b c:Q2) (r:Rat) (hl:VP P G fl [V2 a] (V2 c)) (hd:VP P G fd [V2 c,V2 b] (.tup [NV r, .int .i64 0])):VP P G f [V2 a,V2 b] (.tup [NV r, .int .i64 0]):=VP.tr h [hc hl,hc hd] (by kernel_rfl)
theorem Sv {f fe:FuncId} (h:Has P f (yM fe)) (a b:Q2) (h1:VP P G fe [NV a.1,NV b.1] (.bool (decide (a.1=b.1)))) (h2:VP P G fe [NV a.2,NV b.2] (.bool (decide (a.2=b.2)))):VP P G f [V2 a,V2 b] (.bool (decide (a=b))):=by
 by_cases e1:a.1=b.1
 . rw [decide_eq_true e1] at h1
   have e:decide (a=b)=decide (a.2=b.2):=decide_eq_decide.2 ⟨fun e=>by rw [e],fun e=>Prod.ext e1 e⟩
   rw [e]
   exact VP.tr h [hc h1,hc h2] (by kernel_rfl)
 . rw [decide_eq_false e1] at h1
   have e:decide (a=b)=false:=decide_eq_false fun e=>e1 (by rw [e])
   rw [e]
   exact VP.tr h [hc h1] (by kernel_rfl)
theorem MO {f f1 f2 f3:FuncId} (h:Has P f (yY f1 f2 f3)):VP P G f [.nils] (.bool true):=VP.tr h [] (by kernel_rfl)
theorem MP {f f1 f2 f3:FuncId} (h:Has P f (xJ f1 f2 f3)) (a m:Rat) (h1:VP P G f1 [.nils,EV a] (.tup [EV m, .bool true])) (h2:VP P G f2 [.nils,EV m] (.int .i64 1)):VP P G f [.nils,EV a] (.tup [EV m, .bool true]):=VP.tr h [hc h1,hc h2] (by kernel_rfl)
end
end Go.VL
end

section
set_option linter.unusedVariables false
set_option maxRecDepth 100000
namespace Go.VL
theorem OA {n:Nat} (h:n<aK) (h0:n≠0):W n = .sl 1 [.int .u32 (n:Int)]:=by
 unfold W us
 rw [iy h0,Nat.mod_eq_of_lt h,Nat.div_eq_of_lt h,bD];rfl
section
variable {P:Program} {G:Nat->Option (List AV)}
theorem OC {f f1:FuncId} (h:Has P f (B3 f1)):VP P G f [.nils] (.sl 1 []):=VP.trV h [] [([3],⟨[],1,false⟩)] (.osl [3] 1 0 0 false) (by kernel_rfl) (fun σ hσ => View.osl (bk:=⟨[],1,false⟩) (ds:=[]) (hσ ([3],⟨[],1,false⟩) (by simp)) rfl (by simp) aM.nil rfl (by simp))
theorem OD {f f1 f2 f4 f5 f6 f7 f8 f9 fa fb fc:FuncId} (h:Has P f (Ax f1 f2 f f4 f5 f6 f7 f8 f9 fa fb fc)) (a m:Rat) (h1:VP P G f1 [QV a] (.tup [QV m, .bool true])):VP P G f [.nils,EV a] (.tup [EV m, .bool true]) :=
 VP.trV h [hc h1] [([16],⟨[QV m],4,false⟩)] (.tup [.osl [16] 4 0 1 false, .bool true]) (by kernel_rfl) (fun σ hσ => View.tup (aM.cons (qw (hσ ([16],⟨[QV m],4,false⟩) (by simp))) (aM.cons (View.pure (aa.bool _)) aM.nil)))
theorem OE {f fc:FuncId} (h:Has P f (nd fc)) (q:Rat) (hc':VP P G fc [EV q] (EV q)):VP P G f [.agg [.sl 1 [],EV q]] (NV q):=VP.tr h [hc hc'] (by kernel_rfl)
theorem VZ {f fa fd:FuncId} (h:Has P f (Av fa fd)) (a m:Rat) (ha:VP P G fa [.nils,EV a] (.tup [.sl 1 [],EV m, .int .i64 0])) (hd:VP P G fd [.agg [.sl 1 [],EV m]] (NV m)):VP P G f [NV a] (.tup [NV m, .int .i64 0]):=VP.tr h [hc ha,hc hd] (by kernel_rfl)
theorem Sw {f f1 f2 f3 f4 f5 f6 f7:FuncId} (h:Has P f (Aw f1 f2 f3 f4 f5 f6 f7)) (a m:Rat) (h1:VP P G f1 [.nils,EV a] (.bool true)) (h2:VP P G f2 [.nils] (.bool true)) (h3:VP P G f3 [.nils,EV a] (.int .i64 1)) (h4:VP P G f4 [.nils,EV a] (.tup [EV m, .bool true])) (h5:VP P G f5 [.nils] (.sl 1 [])):VP P G f [.nils,EV a] (.tup [.sl 1 [],EV m, .int .i64 0]):=VP.tr h [hc h1,hc h2,hc h3,hc h4,hc h5] (by kernel_rfl)
theorem V0 {f fr:FuncId} (h:Has P f (xK fr)) (a b m n:Int) (h1:VP P G fr [IV a] (.tup [IV m, .bool true])) (h2:VP P G fr [IV b] (.tup [IV n, .bool true])):VP P G f [RV a b] (.tup [RV m n, .bool true]):=by
 haveI:PU (RV m n):=by unfold RV;infer_instance
 exact VP.tr h [hc h1,hc h2] (by kernel_rfl)
theorem MQ {f fs fm fc:FuncId} (h:Has P f (xM fs fm fc)) (a m:Int) (h1:VP P G fs [IV a] (.tup [IV m, .int .i64 0])) (h2:VP P G fm [IV m,IV m] (IV a)) (h3:VP P G fc [IV a,IV a] (.int .i64 0)):VP P G f [IV a] (.tup [IV m, .bool true]):=VP.tr h [hc h1,hc h2,hc h3] (by kernel_rfl)
theorem Ql {f fs ft:FuncId} (h:Has P f (y0 fs ft)) (hs:Has P fs gl) (ht:iT P G ft) (n:Nat) (hn:ak n<=1000):VP P G f [W n] (W (n/2)):=by
 have h1:=Az (G:=G) hs n 1 (by omega) (by decide)
 have h2:=ht (pad (ak n) (n/2 ^ 1)) (rT _ _) (by rw [kz];omega)
 rw [fZ (Nat.lt_of_le_of_lt (Nat.div_le_self _ _) (cV n))] at h2
 exact VP.tr h [hc h1,hc h2] (by kernel_rfl)
theorem Je {f:FuncId} (h:Has P f fD) (k:Nat) (b:Int) (n:Nat) (hn:n<aK) (h0:n≠0) (hx:CR fD.results [([4],⟨[.int .u32 (n:Int)],1,false⟩)] (ME (P:=P) (G:=G) fD [.int .i64 b] [])=CS (.osl [4] 1 0 1 false) [([4],⟨[.int .u32 (n:Int)],1,false⟩)] (ME (P:=P) (G:=G) fD [.int .i64 b] [])):VP P G f [.int .i64 b] (W n):=by
 rw [OA hn h0]
 exact VP.trV h [] _ _ hx (fun σ hσ => NU (hσ ([4],⟨[.int .u32 (n:Int)],1,false⟩) (by simp)) rfl (by intro c hc;simp [AV.cells] at hc;subst hc;exact aa.int _ _))
theorem MR {f:FuncId} (h:Has P f fD):VP P G f [.int .i64 3] (W 8):=Je h 0 3 8 (by decide) (by decide) (by kernel_rfl)
theorem MS {f:FuncId} (h:Has P f fD):VP P G f [.int .i64 1] (W 2):=Je h 0 1 2 (by decide) (by decide) (by kernel_rfl)
theorem MT {f ft fl:FuncId} (h:Has P f (yZ ft fl)) (z:Int) (n:Nat) (hz:z.natAbs=n) (hn:n<aK) (h0:n≠0) (b:Int) (ht:VP P G ft [W n] (W n)) (hl:VP P G fl [.int .u32 (n:Int)] (.int .i64 b)) (yj:IntKind.i64.wrap (0+b)=b):VP P G f [IV z] (.int .i64 b):=by
 subst hz
 rw [OA hn h0] at ht
 exact VP.tr h [hv 5 (OA hn h0),hc ht,hc hl,hw 21 yj] (by kernel_rfl)
theorem OG {f fg fb fh ft fd fp fa fc fs:FuncId} (h:Has P f (rH fg fb fh ft fd fp fa fc fs)) (h1:VP P G fg [IV 16] (.int .i64 1)) (h2:VP P G fb [IV 16] (.int .i64 5)) (h3:VP P G fh [.int .i64 3] (W 8)) (h4:VP P G ft [W 16] (W 16)) (h5:∀ n,n≠0->n<100->VP P G fd [W 16,W n] (.tup [W (16/n),W (16%n)])) (h6:∀ m n,m<100->n<100->VP P G fp [W m,W n] (W (m+n))) (h7:∀ n,n<100->VP P G fa [W n] (W (n/2))) (h8:∀ m n,m<100->n<100->VP P G fc [W m,W n] (.int .i64 (fY m n))) (h9:VP P G fs [.bool false,W 4] (IV 4)):VP P G f [IV 16] (.tup [IV 4, .int .i64 0]) :=
 VP.tr h [hc h1,hc h2,hc h3,hc h4,hc (h5 8 (by decide) (by decide)),hc (h6 8 2 (by decide) (by decide)),hc (h7 10 (by decide)),hc (h8 5 8 (by decide) (by decide)),hc h4,hc (h5 5 (by decide) (by decide)),hc (h6 5 3 (by decide) (by decide)),hc (h7 8 (by decide)),hc (h8 4 5 (by decide) (by decide)),hc h4,hc (h5 4 (by decide) (by decide)),hc (h6 4 4 (by decide) (by decide)),hc (h7 8 (by decide)),hc (h8 4 4 (by decide) (by decide)),hc h9] (by kernel_rfl)
theorem Sx {f fg fb fh ft fd fp fa fc fs:FuncId} (h:Has P f (rH fg fb fh ft fd fp fa fc fs)) (h1:VP P G fg [IV 1] (.int .i64 1)) (h2:VP P G fb [IV 1] (.int .i64 1)) (h3:VP P G fh [.int .i64 1] (W 2)) (h4:VP P G ft [W 1] (W 1)) (h5:∀ n,n≠0->n<100->VP P G fd [W 1,W n] (.tup [W (1/n),W (1%n)])) (h6:∀ m n,m<100->n<100->VP P G fp [W m,W n] (W (m+n))) (h7:∀ n,n<100->VP P G fa [W n] (W (n/2))) (h8:∀ m n,m<100->n<100->VP P G fc [W m,W n] (.int .i64 (fY m n))) (h9:VP P G fs [.bool false,W 1] (IV 1)):VP P G f [IV 1] (.tup [IV 1, .int .i64 0]) :=
 VP.tr h [hc h1,hc h2,hc h3,hc h4,hc (h5 2 (by decide) (by decide)),hc (h6 2 0 (by decide) (by decide)),hc (h7 2 (by decide)),hc (h8 1 2 (by decide) (by decide)),hc h4,hc (h5 1 (by decide) (by decide)),hc (h6 1 1 (by decide) (by decide)),hc (h7 2 (by decide)),hc (h8 1 1 (by decide) (by decide)),hc h9] (by kernel_rfl)
end
end Go.VL
end

section
set_option maxRecDepth 100000
namespace Go.Proofs.YtchdghnpcekegaaGreatDoor
open Go.VL Go.Proofs Go.Lib
theorem smq (q:Rat) (h:(decide (q.num.natAbs<4294967296)&&decide (q.den<4294967296))=true):Sm 5000 q:=by
 simp only [Bool.and_eq_true,decide_eq_true_eq] at h
 exact ⟨Nat.le_trans (fN (k:=1) (by rw [Nat.pow_one];exact h.1)) (by decide),Nat.le_trans (fN (k:=1) (by rw [Nat.pow_one];exact h.2)) (by decide)⟩
def qB (q:Rat):Bool:=decide (q.num.natAbs<4294967296)&&decide (q.den<4294967296)
def vB (v:Q2):Bool:=qB v.1&&qB v.2
theorem Wn {q:Rat} (h:qB q=true):Sm 5000 q:=smq q h
theorem E8 {v:Q2} (h:vB v=true):m9 5000 v:=by
 unfold vB at h
 simp only [Bool.and_eq_true] at h
 exact ⟨Wn h.1,Wn h.2⟩
theorem smL {q:Rat} (h:Sm 5000 q):Sm 100000 q:=h.mono (by omega)
section
variable (G:Nat->Option (List AV))
theorem ZW (a:Rat) (ha:Sm 100000 a):VP Tryz.prog G 182 [EV a] (EV (-a)):=XE HE a (ah2 G a ha)
theorem aio (a:Rat) (ha:Sm 100000 a):VP Tryz.prog G 130 [.nils,EV a] (EV (-a)):=XI HH a (tF G a ha) (ZW G a ha)
theorem aip (a b:Rat) (ha:Sm 100000 a) (hb:Sm 100000 b):VP Tryz.prog G 136 [.nils,EV a,EV b] (EV (a-b)):=XH HG a b (tf G a b ha hb) (ZW G b hb) (P3 Ay a (-b) (aeI G a (-b) ha hb.neg))
theorem sm1:Sm 100000 (1:Rat):=smL (Wn (by decide +kernel))
theorem aiq (a:Rat) (ha0:a≠0) (ha:Sm 100000 a):VP Tryz.prog G 184 [.nils,EV a] (.tup [EV (1/a), .int .i64 0]):=XL HK a (tF G a ha) (Mc Ce a (Yn G 1 (by decide) (by decide)) (ah5 G 1 a ha0 sm1 ha))
theorem abQ (a b:Rat) (ha:Sm 100000 a) (hb:Sm 100000 b):VP Tryz.prog G 87 [NV a,NV b] (.tup [NV (a-b), .int .i64 0]):=XS Gr a b _ (Bg nz a b _ (VF G a b ha hb) (aip G a b ha hb))
theorem abR (a:Rat) (ha:Sm 100000 a):VP Tryz.prog G 81 [NV a] (NV (-a)):=XU Gt a (abG G a ha) (aio G a ha)
theorem air (a b:Rat) (HS:b≠0) (ha:Sm 5000 a) (hb:Sm 5000 b):VP Tryz.prog G 133 [NV a,NV b] (.tup [NV (a*(1/b)), .int .i64 0]):=XV Gu a b _ (aiq G b HS (smL hb)) (Sr G a (1/b) (smL ha) ((Sm.div (Wn (by decide +kernel):Sm 5000 1) hb (by omega)).mono (by omega)))
theorem afd:VP Tryz.prog G 218 [.nils] (.bool true):=XX HM (Yn G 0 (by decide) (by decide)) (Me Cc 0 (trd G) (VC G 0 (smL (Wn (by decide +kernel)))) ET (Yn G 0 (by decide) (by decide))) (tF G 0 (smL (Wn (by decide +kernel))))
theorem ZX (a:Rat) (ha:Sm 100000 a):VP Tryz.prog G 128 [.nils,EV a] (.int .i64 (dm a)):=UI HN a (XW HL a (tF G a ha) (afd G)) (UH Gv a (Qh G a ha))
theorem afe (a:Rat) (ha:Sm 100000 a):VP Tryz.prog G 80 [NV a] (.int .i64 (dm a)):=UG EW a (ZX G a ha)
theorem nEq (a b:Rat) (ha:Sm 100000 a) (hb:Sm 100000 b):VP Tryz.prog G 126 [NV a,NV b] (.bool (decide (a=b))):=RH DI a b (abF G) (XM wU a b (XN gI a b (UE tW a b (ah3 G a b ha hb))))
theorem Hk {n:Nat} (h:n<100):ak n<=1:=fN (by rw [Nat.pow_one];unfold aK;omega)
theorem ais (b:Nat) (h:iC 16=b):VP Tryz.prog G 307 [.int .u32 16] (.int .i64 (b:Int)):=by rw [<- h];exact GL mR 16 (by decide)
theorem YB:VP Tryz.prog G 305 [IV 16] (.tup [IV 4, .int .i64 0]):=OG u7 (VB G 16 (Nat.le_trans (Hk (n:=16) (by decide)) (by decide))) (MT u9 16 16 rfl (by decide) (by decide) 5 (oJ (t145 G) 16 (by have:=Hk (n:=16) (by decide);omega)) (ais G 5 (by decide +kernel)) (by decide)) (MR qG) (oJ (t145 G) 16 (by have:=Hk (n:=16) (by decide);omega))
 (fun n h0 hn=>d164 G 16 n h0 (by have:=Hk (n:=16) (by decide);omega) (by have:=Hk hn;omega)) (fun m n hm hn=>Yl G m n (by have:=Hk hm;omega) (by have:=Hk hn;omega)) (fun n hn=>Ql ve kx (t145 G) n (by have:=Hk hn;omega)) (fun m n hm hn=>Vz G m n (by have:=Hk hm;omega) (by have:=Hk hn;omega)) (MJ G false 4 (by have:=Hk (n:=4) (by decide);omega))
end
end Go.Proofs.YtchdghnpcekegaaGreatDoor
end

section
set_option maxRecDepth 100000
namespace Go.Proofs.YtchdghnpcekegaaGreatDoor
open Go.VL Go.Proofs Go.Lib
section
variable (G:Nat->Option (List AV))
theorem ait (b:Nat) (h:iC 1=b):VP Tryz.prog G 307 [.int .u32 1] (.int .i64 (b:Int)):=by rw [<- h];exact GL mR 1 (by decide)
theorem abS:VP Tryz.prog G 305 [IV 1] (.tup [IV 1, .int .i64 0]):=Sx u7 (VB G 1 (Nat.le_trans (Hk (n:=1) (by decide)) (by decide))) (MT u9 1 1 rfl (by decide) (by decide) 1 (oJ (t145 G) 1 (by have:=Hk (n:=1) (by decide);omega)) (ait G 1 (by decide +kernel)) (by decide)) (MS qG) (oJ (t145 G) 1 (by have:=Hk (n:=1) (by decide);omega))
 (fun n h0 hn=>d164 G 1 n h0 (by have:=Hk (n:=1) (by decide);omega) (by have:=Hk hn;omega)) (fun m n hm hn=>Yl G m n (by have:=Hk hm;omega) (by have:=Hk hn;omega)) (fun n hn=>Ql ve kx (t145 G) n (by have:=Hk hn;omega)) (fun m n hm hn=>Vz G m n (by have:=Hk hm;omega) (by have:=Hk hn;omega)) (MJ G false 1 (by have:=Hk (n:=1) (by decide);omega))
theorem w4 {z:Int} (h:z.natAbs<100):ak z.natAbs<=400000:=Nat.le_trans (Hk h) (by decide)
theorem YC:VP Tryz.prog G 290 [IV 16] (.tup [IV 4, .bool true]):=MQ sR 16 4 (YB G) (Sq G 4 4 (w4 (by decide)) (w4 (by decide))) (abz G 16 16 (w4 (by decide)) (w4 (by decide)))
theorem abT:VP Tryz.prog G 290 [IV 1] (.tup [IV 1, .bool true]):=MQ sR 1 1 (abS G) (Sq G 1 1 (w4 (by decide)) (w4 (by decide))) (abz G 1 1 (w4 (by decide)) (w4 (by decide)))
theorem YD:VP Tryz.prog G 275 [QV 16] (.tup [QV 4, .bool true]):=V0 Cl 16 1 4 1 (YC G) (abT G)
theorem sB {q:Rat} (h:qB q=true):Sm 100000 q:=smL (Wn h)
theorem sgB {q:Rat} {s:Int} (h:qB q=true) (e:dm q=s):VP Tryz.prog G 128 [.nils,EV q] (.int .i64 s):=e▸ZX G q (sB h)
theorem YE:VP Tryz.prog G 132 [NV 16] (.tup [NV 4, .int .i64 0]):=VZ EZ 16 4 (Sw E4 16 4 (tF G 16 (sB (by decide +kernel))) (MO DN) (sgB G (by decide +kernel) (by decide +kernel)) (MP Ck 16 4 (OD E5 16 4 (YD G)) (sgB G (by decide +kernel) (by decide +kernel))) (OC Gz))
 (OE sO 4 (Ep qE 4 (VE G 4 (sB (by decide +kernel)))))
theorem MU (a:Rat):da Tryz.prog G 78 [NV a, .int .i64 0] (NV a):=Yv zg a
theorem V1 (a b c:Q2) (h:jq a b=c:=by decide +kernel) (h1:(vB a&&vB b)=true:=by decide +kernel):da Tryz.prog G 77 [V2 a,V2 b] (V2 c):=by
 simp only [Bool.and_eq_true] at h1
 have s1:=(E8 h1.1).mono (k:=100000) (by omega)
 have s2:=(E8 h1.2).mono (k:=100000) (by omega)
 subst h
 exact Yw zf a b _ (XZ Gx a b _ (CK nh a b _ (abQ G _ _ s1.1 s2.1) (abQ G _ _ s1.2 s2.2))) (Ki mq)
theorem Jf (a b c:Q2) (h:gv a b=c:=by decide +kernel) (h1:(vB a&&vB b)=true:=by decide +kernel):da Tryz.prog G 31 [V2 a,V2 b] (V2 c):=by
 simp only [Bool.and_eq_true] at h1
 subst h;exact aeN G a b (E8 h1.1) (E8 h1.2)
theorem kSc (a c:Q2) (n:Rat) (h:ga a n=c:=by decide +kernel) (h1:(vB a&&qB n)=true:=by decide +kernel):da Tryz.prog G 25 [V2 a,NV n] (V2 c):=by
 simp only [Bool.and_eq_true] at h1
 subst h;exact VG G a n (E8 h1.1) (Wn h1.2)
theorem YF (a b c:Rat) (h:a*b=c:=by decide +kernel) (h1:(qB a&&qB b)=true:=by decide +kernel):da Tryz.prog G 83 [NV a,NV b] (NV c):=by
 simp only [Bool.and_eq_true] at h1
 subst h;exact Yx zh a b _ (Sr G a b (sB h1.1) (sB h1.2)) (MU G)
theorem MV (a b c:Rat) (h:a*(1/b)=c:=by decide +kernel) (h0:b≠0:=by decide +kernel) (h1:(qB a&&qB b)=true:=by decide +kernel):da Tryz.prog G 84 [NV a,NV b] (NV c):=by
 simp only [Bool.and_eq_true] at h1
 subst h;exact Yy zi a b _ (air G a b h0 (Wn h1.1) (Wn h1.2)) (MU G)
theorem kAd (a b c:Rat) (h:a+b=c:=by decide +kernel) (h1:(qB a&&qB b)=true:=by decide +kernel):VP Tryz.prog G 85 [NV a,NV b] (.tup [NV c, .int .i64 0]):=by
 simp only [Bool.and_eq_true] at h1
 subst h;exact Yq G a b (sB h1.1) (sB h1.2)
theorem kSb (a b c:Rat) (h:a-b=c:=by decide +kernel) (h1:(qB a&&qB b)=true:=by decide +kernel):VP Tryz.prog G 87 [NV a,NV b] (.tup [NV c, .int .i64 0]):=by
 simp only [Bool.and_eq_true] at h1
 subst h;exact abQ G a b (sB h1.1) (sB h1.2)
theorem YG (a b:Q2) (c:Rat) (h:rW a b=c:=by decide +kernel) (h1:(vB a&&vB b&&qB (a.1*b.1)&&qB (a.2*b.2))=true:=by decide +kernel):VP Tryz.prog G 86 [V2 a,V2 b] (.tup [NV c, .int .i64 0]):=by
 simp only [Bool.and_eq_true] at h1
 obtain ⟨⟨⟨a1,a2⟩,a3⟩,a4⟩:=h1
 have s1:=(E8 a1).mono (k:=100000) (by omega)
 have s2:=(E8 a2).mono (k:=100000) (by omega)
 subst h
 exact Yz Gy a b (CK nh a b (a.1*b.1,a.2*b.2) (Sr G _ _ s1.1 s2.1) (Sr G _ _ s1.2 s2.2)) (Yq G _ _ (sB a3) (sB a4))
theorem V3 (a:Q2) (h:rW a a=16:=by decide +kernel) (h1:(vB a&&vB a&&qB (a.1*a.1)&&qB (a.2*a.2))=true:=by decide +kernel):VP Tryz.prog G 82 [V2 a] (.tup [NV 4, .int .i64 0]) :=
 YA Ch a 4 (Oz Ci a (YG G a a _ rfl h1)) (h▸YE G)
theorem ZY (a:Q2) (h1:vB a=true:=by decide +kernel):VP Tryz.prog G 90 [V2 a] (V2 (-a.2,a.1)):=by
 have s1:=(E8 h1).mono (k:=100000) (by omega)
 have hn:=abR G (-a.1) s1.1.neg
 rw [Rat.neg_neg] at hn
 exact VY EY a (abR G _ s1.2) (VX Cj _ (abR G _ s1.1) hn)
theorem kCr (a b c:Q2) (r:Rat) (e:(-a.2,a.1)=c:=by decide +kernel) (h:rW c b=r:=by decide +kernel) (h0:vB a=true:=by decide +kernel) (h1:(vB c&&vB b&&qB (c.1*b.1)&&qB (c.2*b.2))=true:=by decide +kernel):VP Tryz.prog G 79 [V2 a,V2 b] (.tup [NV r, .int .i64 0]):=Su DM a b c r (e▸ZY G a h0) (YG G c b r h h1)
theorem kSg (q:Rat) (s:Int) (e:dm q=s:=by decide +kernel) (h:qB q=true:=by decide +kernel):VP Tryz.prog G 80 [NV q] (.int .i64 s):=e▸afe G q (sB h)
theorem kFr (q:Rat) (h:qB q=true:=by decide +kernel):VP Tryz.prog G 62 [QV q] (NV q):=Yp G q (sB h)
theorem kEq (a b:Q2) (r:Bool) (e:decide (a=b)=r:=by decide +kernel) (h1:(vB a&&vB b)=true:=by decide +kernel):VP Tryz.prog G 76 [V2 a,V2 b] (.bool r):=by
 simp only [Bool.and_eq_true] at h1
 have s1:=(E8 h1.1).mono (k:=100000) (by omega)
 have s2:=(E8 h1.2).mono (k:=100000) (by omega)
 exact e▸Sv DK a b (nEq G _ _ s1.1 s2.1) (nEq G _ _ s1.2 s2.2)
theorem kQs (q:Rat) (s:Int) (e:dm q=s:=by decide +kernel) (h:qB q=true:=by decide +kernel):VP Tryz.prog G 24 [QV q] (.int .i64 s):=e▸Qh G q (sB h)
end
end Go.Proofs.YtchdghnpcekegaaGreatDoor
end

section
set_option maxRecDepth 100000
namespace Go.Proofs.YtchdghnpcekegaaGreatDoor
open Go.VL Go.Proofs Go.Lib
def sg (a b:Q2):AV := .agg [.bool false, .nils,EV a.1, .nils,EV a.2, .nils,EV b.1, .nils,EV b.2, .nils, .nils, .nils, .nils, .bool false]
def qP (s:List UInt8) (c:AV):AV := .agg (.str s::c.cells)
instance {a b:Q2}:PU (sg a b):=by unfold sg;infer_instance
instance {s:List UInt8} {a b:Q2}:PU (qP s (sg a b)):=by unfold qP sg AV.cells;infer_instance
def sA:AV:=sg (0,0) (4,0)
def sB':AV:=sg (0,0) (0,4)
instance:PU sA:=by unfold sA;infer_instance
instance:PU sB':=by unfold sB';infer_instance
theorem Hl {a b:Q2}:∀ c∈(sg a b).cells,aa c:=by intro c hc;simp only [sg,AV.cells,List.mem_cons,List.not_mem_nil,or_false] at hc;rcases hc with rfl | rfl | rfl | rfl | rfl | rfl | rfl | rfl | rfl | rfl | rfl | rfl | rfl | rfl<;>first | exact aa.bool _ | exact aa.nils | exact ar _
theorem dB {s:List UInt8} {a b:Q2}:∀ c∈(qP s (sg a b)).cells,aa c:=by
 intro c hc
 rcases List.mem_cons.1 hc with rfl | hc
 . exact aa.str _
 . exact Hl c hc
section
variable (G:Nat->Option (List AV))
theorem Qm:VP Tryz.prog G 43 [sA,sB'] (.tup [V2 (0,0),V2 (4,0),V2 (0,4), .bool true]):=VP.tr A5 [hc (kEq G (0,0) (0,0) true)] (by kernel_rfl)
theorem aff:VP Tryz.prog G 45 [sA,V2 (0,0),V2 (1,0)] (sg (1,0) (4,0)):=VP.tr pY [hc (kEq G (0,0) (0,0) true)] (by kernel_rfl)
theorem afg:VP Tryz.prog G 45 [sB',V2 (0,0),V2 (0,1)] (sg (0,1) (0,4)):=VP.tr pY [hc (kEq G (0,0) (0,0) true)] (by kernel_rfl)
def rnd (a b c:Q2) (w:Bool):AV := .agg [.nils,EV a.1, .nils,EV a.2, .nils,EV b.1, .nils,EV b.2, .nils,EV c.1, .nils,EV c.2, .bool w]
instance {a b c:Q2} {w:Bool}:PU (rnd a b c w):=by unfold rnd;infer_instance
theorem YH:VP Tryz.prog G 44 [V2 (0,0),V2 (4,0),V2 (0,4),QV 1] (.tup [rnd (1,0) (0,1) (1,1) true, .int .i64 0]):=VP.tr sQ
 [dH [7] (V1 G (4,0) (0,0) (4,0)),dH [7] (V1 G (0,4) (0,0) (0,4)),hc (kCr G (4,0) (0,4) (0,4) 16),dH [7] (MU G 16),hc (kSg G 16 1),hc (kSg G 16 1),hc (kFr G 1),hc (V3 G (4,0)),dH [7] (MU G 4),hc (V3 G (0,4)),dH [7] (MU G 4),dH [7] (YF G 4 4 16),
  hc (YG G (4,0) (0,4) 0),dH [7] (MU G 0),hc (kAd G 16 0 16),dH [7] (MU G 16),dH [7] (YF G 1 16 16),dH [7] (MV G 16 16 1),hc (kSb G 4 1 3),dH [7] (MU G 3),hc (kSb G 4 1 3),dH [7] (MU G 3),hc (kSg G 3 1),hc (kSg G 3 1),
  dH [7] (MV G 1 4 (1/4)),dH [7] (kSc G (4,0) (1,0) (1/4)),dH [7] (Jf G (0,0) (1,0) (1,0)),dH [7] (MV G 1 4 (1/4)),dH [7] (kSc G (0,4) (0,1) (1/4)),dH [7] (Jf G (0,0) (0,1) (0,1)),
  dH [7] (MV G 1 4 (1/4)),dH [7] (kSc G (4,0) (1,0) (1/4)),dH [7] (MV G 1 4 (1/4)),dH [7] (kSc G (0,4) (0,1) (1/4)),dH [7] (Jf G (1,0) (0,1) (1,1)),dH [7] (MV G 16 16 1),dH [7] (kSc G (1,1) (1,1) 1),dH [7] (Jf G (0,0) (1,1) (1,1))] (by kernel_rfl)
theorem YI:VP Tryz.prog G 44 [V2 (0,0),V2 (4,0),V2 (0,4),QV 4] (.tup [.agg [.nils, .nils, .nils, .nils, .nils, .nils, .nils, .nils, .nils, .nils, .nils, .nils, .bool true], .int .i64 16]):=VP.tr sQ
 [dH [7] (V1 G (4,0) (0,0) (4,0)),dH [7] (V1 G (0,4) (0,0) (0,4)),hc (kCr G (4,0) (0,4) (0,4) 16),dH [7] (MU G 16),hc (kSg G 16 1),hc (kSg G 16 1),hc (kFr G 4),hc (V3 G (4,0)),dH [7] (MU G 4),hc (V3 G (0,4)),dH [7] (MU G 4),dH [7] (YF G 4 4 16),
  hc (YG G (4,0) (0,4) 0),dH [7] (MU G 0),hc (kAd G 16 0 16),dH [7] (MU G 16),dH [7] (YF G 4 16 64),dH [7] (MV G 64 16 4),hc (kSb G 4 4 0),dH [7] (MU G 0),hc (kSb G 4 4 0),dH [7] (MU G 0),hc (kSg G 0 0)] (by kernel_rfl)
theorem aix:VP Tryz.prog G 47 [sA,QV 2] (.tup [sg (0,2) (4,2), .int .i64 0]):=VP.tr ze
 [hc (kFr G 2),dH [5] (V1 G (4,0) (0,0) (4,0)),hc ((show ((-(0:Rat)),(4:Rat))=((0:Rat),(4:Rat)) by decide +kernel)▸ZY G (4,0):VP Tryz.prog G 90 [V2 (4,0)] (V2 (0,4))),hc (V3 G (0,4)),dH [5] (MU G 4),dH [5] (MV G 2 4 (1/2)),dH [5] (kSc G (0,4) (0,2) (1/2)),dH [5] (Jf G (0,0) (0,2) (0,2)),dH [5] (Jf G (4,0) (0,2) (4,2))] (by kernel_rfl)
end
end Go.Proofs.YtchdghnpcekegaaGreatDoor
end

section
set_option maxRecDepth 100000
namespace Go.Proofs.YtchdghnpcekegaaGreatDoor
open Go.VL Go.Proofs Go.Lib
def pr (p q r s:Q2):AV := .sl 15 [qP [97] (sg p q),qP [98] (sg r s)]
theorem qQ {l:List AV} (h:∀ e∈l,∀ c∈e.cells,aa c):∀ c∈flat l,aa c:=by
 intro c hc
 obtain ⟨e,he,hc⟩:=List.mem_flatMap.1 hc
 exact h e he c hc
theorem PU.sl1 {k:Nat} {a:AV} [h:PU a] (ha:∀ c∈a.cells,aa c):PU (.sl k [a]):=PU.slice (qQ (by intro e he;simp at he;subst he;exact ha)) (by intro c hc ρ;simp at hc;subst hc;exact h.fix ρ)
theorem PU.sl2 {k:Nat} {a b:AV} [h:PU a] [g:PU b] (ha:∀ c∈a.cells,aa c) (hb:∀ c∈b.cells,aa c):PU (.sl k [a,b]):=PU.slice (qQ (by intro e he;simp at he;rcases he with rfl | rfl;exact ha;exact hb)) (by intro c hc ρ;simp at hc;rcases hc with rfl | rfl;exact h.fix ρ;exact g.fix ρ)
instance {p q r s:Q2}:PU (pr p q r s):=PU.sl2 dB dB
def Z0 (a:List UInt8):AV := .sl 1 [.str a]
def st2 (a b:List UInt8):AV := .sl 1 [.str a, .str b]
instance {a:List UInt8}:PU (Z0 a):=PU.sl1 (by intro c hc;simp [AV.cells] at hc;subst hc;exact aa.str _)
instance {a b:List UInt8}:PU (st2 a b):=PU.sl2 (by intro c hc;simp [AV.cells] at hc;subst hc;exact aa.str _) (by intro c hc;simp [AV.cells] at hc;subst hc;exact aa.str _)
section
variable (G:Nat->Option (List AV)) (p q r s:Q2)
theorem a1 (n m:List UInt8) (b:Bool) (h:(n==m)=b):VP Tryz.prog G 89 [qP n (sg p q), .ep [.str m] 0] (.bool b):=VP.tr qF [hb 7 h] (by kernel_rfl)
theorem aIF (m:List UInt8) (x y:Bool) (i:Int) (hx:([97]==m)=x) (hy:([98]==m)=y) (hi:(if x then 0 else if y then 1 else -1)=i):VP Tryz.prog G 88 [pr p q r s, .fn (.func 89) [] [.ep [.str m] 0]] (.int .i64 i):=by
 cases x<;>cases y<;>cases hi
 . exact VP.tr aV [hc (a1 G p q _ m _ hx),hc (a1 G r s _ m _ hy)] (by kernel_rfl)
 . exact VP.tr aV [hc (a1 G p q _ m _ hx),hc (a1 G r s _ m _ hy)] (by kernel_rfl)
 . exact VP.tr aV [hc (a1 G p q _ m _ hx)] (by kernel_rfl)
 . exact VP.tr aV [hc (a1 G p q _ m _ hx)] (by kernel_rfl)
theorem aIx (m:List UInt8) (i:Int) (h:(if [97]==m then 0 else if [98]==m then 1 else -1)=i:=by decide):VP Tryz.prog G 46 [pr p q r s, .str m] (.int .i64 i):=by
 have hv:aM (ah.of [([0],⟨[.str m],1,false⟩)]) [pr p q r s, .fn (.func 89) [] [.ref [0] 0 0]] [pr p q r s, .fn (.func 89) [] [.ep [.str m] 0]]:=aM.cons (View.pure PU.pure) (aM.cons (View.fn aM.nil (aM.cons (View.ref (bk:=⟨[.str m],1,false⟩) (by simp [ah.of]) rfl (aM.pure (by simp [AV.cells,aa.str]))) aM.nil)) aM.nil)
 exact VP.tr sP [mV [([0],⟨[.str m],1,false⟩)] (aIF G p q r s m _ _ i rfl rfl h) hv] (by kernel_rfl)
theorem aFa:VP Tryz.prog G 58 [pr p q r s, .str [97]] (.tup [sg p q, .bool true]):=VP.tr mD [hc (aIx G p q r s [97] 0)] (by kernel_rfl)
theorem aFb:VP Tryz.prog G 58 [pr p q r s, .str [98]] (.tup [sg r s, .bool true]):=VP.tr mD [hc (aIx G p q r s [98] 1)] (by kernel_rfl)
theorem aiz (m:List UInt8):VP Tryz.prog G 152 [.sl 1 [], .str m] (.int .i64 (-1)):=VP.tr fL [] (by kernel_rfl)
theorem aiA:VP Tryz.prog G 152 [Z0 [97], .str [98]] (.int .i64 (-1)):=VP.tr fL [] (by kernel_rfl)
theorem afh (m:List UInt8):VP Tryz.prog G 103 [.sl 1 [], .str m] (.bool false):=VP.tr eL [hc (aiz G m)] (by kernel_rfl)
theorem aiB:VP Tryz.prog G 103 [Z0 [97], .str [98]] (.bool false):=VP.tr eL [hc (aiA G)] (by kernel_rfl)
theorem aiC:VP Tryz.prog G 57 [st2 [97] [98]] (.bool false):=VP.tr mr [hc (afh G [97]),hc (aiB G)] (by kernel_rfl)
theorem aiD:VP Tryz.prog G 57 [Z0 [97]] (.bool false):=VP.tr mr [hc (afh G [97])] (by kernel_rfl)
theorem vO {σ : ah} {id:VL.Id} {k n:Nat} {l:List AV} (h : σ id=some ⟨l,k,false⟩) (hn:l.length=n) (hf:∀ e∈l,e.size=k) (hp:∀ e∈l,∀ c∈e.cells,aa c):View σ (.osl id k 0 n false) (.sl k l):=by
 subst hn
 exact View.osl (bk:=⟨l,k,false⟩) h rfl (by simp) (by rw [List.drop_zero,List.take_length];exact aM.pure (qQ hp)) rfl hf
theorem vT {σ : ah} {a b:AV} {e:Int} (h:View σ a b):View σ (.tup [a, .int .i64 e]) (.tup [b, .int .i64 e]):=View.tup (aM.cons h (aM.cons (View.pure (aa.int _ _)) aM.nil))
theorem afi:VP Tryz.prog G 23 [.str [102],pr p q r s,st2 [97] [98]] (.tup [.sl 14 [sg p q,sg r s], .int .i64 0]):=VP.trV nA [hc (VT G [102]),hc (aiC G),hc (aFa G p q r s),hc (aFb G p q r s)] [([16],⟨[sg p q,sg r s],14,false⟩)] (.tup [.osl [16] 14 0 2 false, .int .i64 0]) (by kernel_rfl) (fun σ h=>vT (vO (h ([16],⟨[sg p q,sg r s],14,false⟩) (by simp)) rfl (by intro e he;simp at he;rcases he with rfl | rfl<;>rfl) (by intro e he;simp at he;rcases he with rfl | rfl<;>exact Hl)))
theorem aiE:VP Tryz.prog G 23 [.str [103],pr p q r s,Z0 [97]] (.tup [.sl 14 [sg p q], .int .i64 0]):=VP.trV nA [hc (VT G [103]),hc (aiD G),hc (aFa G p q r s)] [([16],⟨[sg p q],14,false⟩)] (.tup [.osl [16] 14 0 1 false, .int .i64 0]) (by kernel_rfl) (fun σ h=>vT (vO (h ([16],⟨[sg p q],14,false⟩) (by simp)) rfl (by intro e he;simp at he;subst he;rfl) (by intro e he;simp at he;subst he;exact Hl)))
def x1:AV:=NX.av ⟨[102,47,48],⟨true,(1,0),(0,1),(1,1),true⟩⟩
def x2:AV:=qP [103,47,97] (sg (0,2) (4,2))
instance:PU x1:=by unfold x1;infer_instance
instance:PU x2:=by unfold x2;infer_instance
theorem rX:∀ c∈x1.cells,aa c:=CM _
theorem vH:∀ c∈x2.cells,aa c:=dB
instance:PU (.sl 15 [x1]):=PU.sl1 rX
instance:PU (.sl 15 [x2]):=PU.sl1 vH
theorem aiF:VP Tryz.prog G 112 [x1] (.bool false):=VP.tr nB [] (by kernel_rfl)
theorem aiG:VP Tryz.prog G 113 [x1, .ep [pr p q r s] 0] (.bool false):=VP.tr nC [hc (aIx G p q r s [102,47,48] (-1))] (by kernel_rfl)
theorem aiH:VP Tryz.prog G 88 [.sl 15 [x1], .fn (.func 112) [] []] (.int .i64 (-1)):=VP.tr aV [hc (aiF G)] (by kernel_rfl)
theorem aiI:VP Tryz.prog G 88 [.sl 15 [x1], .fn (.func 113) [] [.ep [pr p q r s] 0]] (.int .i64 (-1)):=VP.tr aV [hc (aiG G p q r s)] (by kernel_rfl)
theorem aiJ:VP Tryz.prog G 114 [.sl 15 [x1], .fn (.func 112) [] []] (.bool false):=VP.tr bo [hc (aiH G)] (by kernel_rfl)
theorem aiK:VP Tryz.prog G 114 [.sl 15 [x1], .fn (.func 113) [] [.ep [pr p q r s] 0]] (.bool false):=VP.tr bo [hc (aiI G p q r s)] (by kernel_rfl)
theorem aiL:VP Tryz.prog G 66 [pr p q r s, .sl 15 [x1]] (.int .i64 0):=by
 have hv:aM (ah.of [([0],⟨[pr p q r s],1,false⟩)]) [.sl 15 [x1], .fn (.func 113) [] [.ref [0] 0 0]] [.sl 15 [x1], .fn (.func 113) [] [.ep [pr p q r s] 0]]:=aM.cons (View.pure PU.pure) (aM.cons (View.fn aM.nil (aM.cons (View.ref (bk:=⟨[pr p q r s],1,false⟩) (by simp [ah.of]) rfl (aM.pure (by intro c hc;rcases List.mem_singleton.1 hc with rfl;exact PU.pure))) aM.nil)) aM.nil)
 exact VP.tr pC [hc (aiJ G),mV [([0],⟨[pr p q r s],1,false⟩)] (aiK G p q r s) hv] (by kernel_rfl)
theorem aiM:VP Tryz.prog G 112 [x2] (.bool false):=VP.tr nB [] (by kernel_rfl)
theorem aiN:VP Tryz.prog G 113 [x2, .ep [pr p q r s] 0] (.bool false):=VP.tr nC [hc (aIx G p q r s [103,47,97] (-1))] (by kernel_rfl)
theorem aiO:VP Tryz.prog G 88 [.sl 15 [x2], .fn (.func 112) [] []] (.int .i64 (-1)):=VP.tr aV [hc (aiM G)] (by kernel_rfl)
theorem aiP:VP Tryz.prog G 88 [.sl 15 [x2], .fn (.func 113) [] [.ep [pr p q r s] 0]] (.int .i64 (-1)):=VP.tr aV [hc (aiN G p q r s)] (by kernel_rfl)
theorem aiQ:VP Tryz.prog G 114 [.sl 15 [x2], .fn (.func 112) [] []] (.bool false):=VP.tr bo [hc (aiO G)] (by kernel_rfl)
theorem aiR:VP Tryz.prog G 114 [.sl 15 [x2], .fn (.func 113) [] [.ep [pr p q r s] 0]] (.bool false):=VP.tr bo [hc (aiP G p q r s)] (by kernel_rfl)
theorem aiS:VP Tryz.prog G 66 [pr p q r s, .sl 15 [x2]] (.int .i64 0):=by
 have hv:aM (ah.of [([0],⟨[pr p q r s],1,false⟩)]) [.sl 15 [x2], .fn (.func 113) [] [.ref [0] 0 0]] [.sl 15 [x2], .fn (.func 113) [] [.ep [pr p q r s] 0]]:=aM.cons (View.pure PU.pure) (aM.cons (View.fn aM.nil (aM.cons (View.ref (bk:=⟨[pr p q r s],1,false⟩) (by simp [ah.of]) rfl (aM.pure (by intro c hc;rcases List.mem_singleton.1 hc with rfl;exact PU.pure))) aM.nil)) aM.nil)
 exact VP.tr pC [hc (aiQ G),mV [([0],⟨[pr p q r s],1,false⟩)] (aiR G p q r s) hv] (by kernel_rfl)
theorem aiT:VP Tryz.prog G 67 [.sl 1 [pr p q r s, .sl 15 [x1]]] (.sl 15 [qP [97] (sg p q),qP [98] (sg r s),x1]):=VP.trV dS
 [.rel 115 _ [] _ (fun p _=>Kg er 3 (by decide) (by decide) p) (by intro p x hx;simp at hx)] [([18,33],⟨[qP [97] (sg p q),qP [98] (sg r s),x1],15,false⟩)] (.osl [18,33] 15 0 3 false) (by kernel_rfl)
 (fun σ h=>vO (h ([18,33],⟨[qP [97] (sg p q),qP [98] (sg r s),x1],15,false⟩) (by simp)) rfl (by intro e he;simp at he;rcases he with rfl | rfl | rfl<;>rfl) (by intro e he;simp at he;rcases he with rfl | rfl | rfl;exact dB;exact dB;exact rX))
theorem aiU:VP Tryz.prog G 67 [.sl 1 [pr p q r s, .sl 15 [x2]]] (.sl 15 [qP [97] (sg p q),qP [98] (sg r s),x2]):=VP.trV dS
 [.rel 115 _ [] _ (fun p _=>Kg er 3 (by decide) (by decide) p) (by intro p x hx;simp at hx)] [([18,33],⟨[qP [97] (sg p q),qP [98] (sg r s),x2],15,false⟩)] (.osl [18,33] 15 0 3 false) (by kernel_rfl)
 (fun σ h=>vO (h ([18,33],⟨[qP [97] (sg p q),qP [98] (sg r s),x2],15,false⟩) (by simp)) rfl (by intro e he;simp at he;rcases he with rfl | rfl | rfl<;>rfl) (by intro e he;simp at he;rcases he with rfl | rfl | rfl;exact dB;exact dB;exact vH))
theorem aiV:VP Tryz.prog G 32 [pr p q r s, .sl 15 [x1]] (.tup [.sl 15 [qP [97] (sg p q),qP [98] (sg r s),x1], .int .i64 0]):=by
 have hv:aM (ah.of [([10],⟨[pr p q r s, .sl 15 [x1]],1,false⟩)]) [.osl [10] 1 0 2 false] [.sl 1 [pr p q r s, .sl 15 [x1]]]:=aM.cons (vO (by simp [ah.of]) rfl (by intro e he;simp at he;rcases he with rfl | rfl<;>rfl) (by intro e he c hc;simp at he;rcases he with rfl | rfl<;>(rcases List.mem_singleton.1 hc with rfl;exact PU.pure))) aM.nil
 haveI:PU (.sl 15 [qP [97] (sg p q),qP [98] (sg r s),x1]):=PU.slice (qQ (by intro e he;simp at he;rcases he with rfl | rfl | rfl;exact dB;exact dB;exact rX)) (by intro e he ρ;simp at he;rcases he with rfl | rfl | rfl<;>exact PU.fix ρ)
 exact VP.tr pD [hc (aiL G p q r s),mV [([10],⟨[pr p q r s, .sl 15 [x1]],1,false⟩)] (aiT G p q r s) hv] (by kernel_rfl)
theorem aiW:VP Tryz.prog G 32 [pr p q r s, .sl 15 [x2]] (.tup [.sl 15 [qP [97] (sg p q),qP [98] (sg r s),x2], .int .i64 0]):=by
 have hv:aM (ah.of [([10],⟨[pr p q r s, .sl 15 [x2]],1,false⟩)]) [.osl [10] 1 0 2 false] [.sl 1 [pr p q r s, .sl 15 [x2]]]:=aM.cons (vO (by simp [ah.of]) rfl (by intro e he;simp at he;rcases he with rfl | rfl<;>rfl) (by intro e he c hc;simp at he;rcases he with rfl | rfl<;>(rcases List.mem_singleton.1 hc with rfl;exact PU.pure))) aM.nil
 haveI:PU (.sl 15 [qP [97] (sg p q),qP [98] (sg r s),x2]):=PU.slice (qQ (by intro e he;simp at he;rcases he with rfl | rfl | rfl;exact dB;exact dB;exact vH)) (by intro e he ρ;simp at he;rcases he with rfl | rfl | rfl<;>exact PU.fix ρ)
 exact VP.tr pD [hc (aiS G p q r s),mV [([10],⟨[pr p q r s, .sl 15 [x2]],1,false⟩)] (aiU G p q r s) hv] (by kernel_rfl)
end
end Go.Proofs.YtchdghnpcekegaaGreatDoor
end

section
set_option maxRecDepth 100000
namespace Go.Proofs.YtchdghnpcekegaaGreatDoor
open Go.VL Go.Proofs Go.Lib
section
variable (G:Nat->Option (List AV)) (p q r s:Q2)
theorem zq (k:Rat) (i:Int) (e:dm k=i:=by decide +kernel) (h:qB k=true:=by decide +kernel):VP Tryz.prog G 24 [QV k] (.int .i64 i):=kQs G k i e h
theorem aCl (π : VL.Id):bc Tryz.prog G 10 [pr p q r s] π [] { val := .osl (5 :: π) 15 0 2 false,rd:=[],up:=[(5 :: π,some ⟨[qP [97] (sg p q),qP [98] (sg r s)],15,false⟩)] } :=
 bc.tr (up:=[(5 :: π,⟨[qP [97] (sg p q),qP [98] (sg r s)],15,false⟩)]) (p := π) gB (fun _=>[]) [] [pr p q r s] [] (.osl [5,0] 15 0 2 false) [([5,0],⟨[qP [97] (sg p q),qP [98] (sg r s)],15,false⟩)] (by kernel_rfl) (by rw [Km.fix]) rfl rfl (by simp [yh,dA.dV,zT,Hj,PU.fixed,mF]) (by simp) (by simp)
def w1:AV := .sl 15 [qP [97] (sg (1,0) (4,0)),qP [98] (sg (0,1) (0,4)),x1]
def Qn:AV:=pr (0,0) (4,0) (0,0) (0,4)
instance:PU Qn:=by unfold Qn;infer_instance
theorem aF4:VP Tryz.prog G 16 [.str [102],Qn, .str [97], .str [98],QV 4] (.tup [.nils, .int .i64 16]):=by
 have hv:aM (ah.of [([7],⟨[.str [97], .str [98]],1,false⟩)]) [.str [102],Qn, .osl [7] 1 0 2 false] [.str [102],Qn,st2 [97] [98]]:=aM.cons (View.pure PU.pure) (aM.cons (View.pure PU.pure) (aM.cons (vO (by simp [ah.of]) rfl (by intro e he;simp at he;rcases he with rfl | rfl<;>rfl) (by intro e he c hc;simp at he;rcases he with rfl | rfl<;>(rcases List.mem_singleton.1 hc with rfl;exact PU.pure))) aM.nil))
 exact VP.tr rS [mV [([7],⟨[.str [97], .str [98]],1,false⟩)] (afi G (0,0) (4,0) (0,0) (0,4)) hv,hc (Qm G),hc (zq G 4 1),hc (YI G)] (by kernel_rfl)
theorem vS2 {σ : ah} {i:VL.Id} {a b:List UInt8} (h : σ i=some ⟨[.str a, .str b],1,false⟩):View σ (.osl i 1 0 2 false) (st2 a b):=vO h rfl (by intro e he;simp at he;rcases he with rfl | rfl<;>rfl) (by intro e he c hc;simp at he;rcases he with rfl | rfl<;>(rcases List.mem_singleton.1 hc with rfl;exact PU.pure))
theorem vS1 {σ : ah} {i:VL.Id} {a:List UInt8} (h : σ i=some ⟨[.str a],1,false⟩):View σ (.osl i 1 0 1 false) (Z0 a):=vO h rfl (by intro e he;simp at he;subst he;rfl) (by intro e he c hc;simp at he;subst he;rcases List.mem_singleton.1 hc with rfl;exact PU.pure)
theorem vPr {σ : ah} {i:VL.Id} (h : σ i=some ⟨[qP [97] (sg p q),qP [98] (sg r s)],15,false⟩):View σ (.osl i 15 0 2 false) (pr p q r s):=vO h rfl (by intro e he;simp at he;rcases he with rfl | rfl<;>rfl) (by intro e he;simp at he;rcases he with rfl | rfl<;>exact dB)
theorem vX {σ : ah} {i:VL.Id} {x:AV} (h : σ i=some ⟨[x],15,false⟩) (hx:∀ c∈x.cells,aa c) (h1:x.size=15):View σ (.osl i 15 0 1 false) (.sl 15 [x]):=vO h rfl (by intro e he;simp at he;subst he;exact h1) (by intro e he;simp at he;subst he;exact hx)
theorem aF1:VP Tryz.prog G 16 [.str [102],Qn, .str [97], .str [98],QV 1] (.tup [w1, .int .i64 0]):=by
 have hv:aM (ah.of [([7],⟨[.str [97], .str [98]],1,false⟩)]) [.str [102],Qn, .osl [7] 1 0 2 false] [.str [102],Qn,st2 [97] [98]]:=aM.cons (View.pure PU.pure) (aM.cons (View.pure PU.pure) (aM.cons (vS2 (by simp [ah.of])) aM.nil))
 let S:List (VL.Id × dA):=[([5,68],⟨[qP [97] (sg (1,0) (4,0)),qP [98] (sg (0,1) (0,4))],15,false⟩),([111],⟨[x1],15,false⟩)]
 have hw:aM (ah.of S) [.osl [5,68] 15 0 2 false, .osl [111] 15 0 1 false] [pr (1,0) (4,0) (0,1) (0,4), .sl 15 [x1]]:=aM.cons (vPr _ _ _ _ (by simp [ah.of,S])) (aM.cons (vX (by simp [ah.of,S,List.lookup]) rX rfl) aM.nil)
 haveI:PU w1:=PU.slice (qQ (by intro e he;simp at he;rcases he with rfl | rfl | rfl;exact dB;exact dB;exact rX)) (by intro e he ρ;simp at he;rcases he with rfl | rfl | rfl<;>exact PU.fix ρ)
 exact VP.tr rS [mV [([7],⟨[.str [97], .str [98]],1,false⟩)] (afi G (0,0) (4,0) (0,0) (0,4)) hv,hc (Qm G),hc (zq G 1 1),hc (YH G), .rel 10 _ [] _ (fun π _=>aCl G (0,0) (4,0) (0,0) (0,4) π) (by intro p x hx;simp at hx),
   hc (aIx G (0,0) (4,0) (0,0) (0,4) [97] 0),hc (aff G),hc (aIx G (0,0) (4,0) (0,0) (0,4) [98] 1),hc (afg G),mV S (aiV G (1,0) (4,0) (0,1) (0,4)) hw] (by kernel_rfl)
theorem aO:VP Tryz.prog G 17 [.str [103],Qn,Z0 [97],QV 2] (.tup [.sl 15 [qP [97] sA,qP [98] sB',x2], .int .i64 0]):=by
 have hw:aM (ah.of [([19],⟨[x2],15,false⟩)]) [Qn, .osl [19] 15 0 1 false] [Qn, .sl 15 [x2]]:=aM.cons (View.pure PU.pure) (aM.cons (vX (by simp [ah.of]) vH rfl) aM.nil)
 haveI:PU (.sl 15 [qP [97] sA,qP [98] sB',x2]):=PU.slice (qQ (by intro e he;simp at he;rcases he with rfl | rfl | rfl;exact dB;exact dB;exact vH)) (by intro e he ρ;simp at he;rcases he with rfl | rfl | rfl;exact (inferInstance:PU (qP [97] (sg _ _))).fix ρ;exact (inferInstance:PU (qP [98] (sg _ _))).fix ρ;exact PU.fix ρ)
 exact VP.tr A4 [hc (aiE G (0,0) (4,0) (0,0) (0,4)),hc (zq G 2 1),hc (aix G),mV [([19],⟨[x2],15,false⟩)] (aiW G (0,0) (4,0) (0,0) (0,4)) hw] (by kernel_rfl)
end
end Go.Proofs.YtchdghnpcekegaaGreatDoor
end

section
set_option maxRecDepth 100000
namespace Go.Proofs.YtchdghnpcekegaaGreatDoor
open Go.VL Go.Proofs Go.Lib
section
variable (G:Nat->Option (List AV)) (p q r s:Q2)
theorem YJ (a b:Q2) (c:Bool) (e:decide (a=b)=c:=by decide +kernel) (h1:(vB a&&vB b)=true:=by decide +kernel):VP Tryz.prog G 91 [V2 a,V2 b] (.bool c):=by
 simp only [Bool.and_eq_true] at h1
 have s1:=(E8 h1.1).mono (k:=45000) (by omega)
 have s2:=(E8 h1.2).mono (k:=45000) (by omega)
 exact e▸MM G a b s1 s2
theorem Sy (a b:Int) (v:Q2) (e:((a:Rat),(b:Rat))=v:=by decide +kernel) (h:(decide (-100<=a)&&decide (a<=100)&&decide (-100<=b)&&decide (b<=100))=true:=by decide +kernel):VP Tryz.prog G 18 [.int .i64 a, .int .i64 b] (V2 v):=by
 simp only [Bool.and_eq_true,decide_eq_true_eq] at h
 subst e
 exact Es m5 a b (MK G a (by omega) (by omega)) (MK G b (by omega) (by omega)) (ML G ((a:Rat),(b:Rat)))
theorem V4 (a b c d:Int) (u v:Q2) (h1:VP Tryz.prog G 18 [.int .i64 a, .int .i64 b] (V2 u)) (h2:VP Tryz.prog G 18 [.int .i64 c, .int .i64 d] (V2 v)):VP Tryz.prog G 15 [.int .i64 a, .int .i64 b, .int .i64 c, .int .i64 d] (sg u v):=VP.tr rR [hc h1,hc h2] (by kernel_rfl)
theorem kE (u v:Q2) (h1:VP Tryz.prog G 91 [V2 u,V2 u] (.bool true)) (h2:VP Tryz.prog G 91 [V2 v,V2 v] (.bool true)):VP Tryz.prog G 48 [sg u v,sg u v] (.bool true):=VP.tr jj [hc h1,hc h2] (by kernel_rfl)
def xc:AV:=CX.av ⟨true,(1,0),(0,1),(1,1),true⟩
instance:PU xc:=by unfold xc;infer_instance
theorem kX:VP Tryz.prog G 48 [xc,xc] (.bool true):=VP.tr jj [hc (YJ G (1,0) (1,0) true),hc (YJ G (0,1) (0,1) true),hc (YJ G (1,1) (1,1) true)] (by kernel_rfl)
instance:PU w1:=PU.slice (qQ (by intro e he;simp at he;rcases he with rfl | rfl | rfl;exact dB;exact dB;exact rX)) (by intro e he ρ;simp at he;rcases he with rfl | rfl | rfl<;>exact PU.fix ρ)
theorem abV:VP Tryz.prog G 19 [w1,w1] (.bool true):=VP.tr jQ [hc (kE G (1,0) (4,0) (YJ G (1,0) (1,0) true) (YJ G (4,0) (4,0) true)),hc (kE G (0,1) (0,4) (YJ G (0,1) (0,1) true) (YJ G (0,4) (0,4) true)),hc (kX G)] (by kernel_rfl)
theorem abW:VP Tryz.prog G 19 [.sl 15 [x2], .sl 15 [x2]] (.bool true):=VP.tr jQ [hc (kE G (0,2) (4,2) (YJ G (0,2) (0,2) true) (YJ G (4,2) (4,2) true))] (by kernel_rfl)
theorem kI (z:Int) (v:Rat) (e:(z:Rat)=v:=by decide +kernel) (h:(decide (-100<=z)&&decide (z<=100))=true:=by decide +kernel):VP Tryz.prog G 8 [.int .i64 z] (QV v):=by
 simp only [Bool.and_eq_true,decide_eq_true_eq] at h
 exact e▸MK G z (by omega) (by omega)
def Lb (i:VL.Id) (b:Bool):VL.Id × dA:=(i,⟨[qP [97] (sg (0,0) (4,0)),qP [98] (sg (0,0) (0,4))],15,b⟩)
theorem afj {σ : ah} {i:VL.Id} {b:Bool} (h : σ i=some (Lb i b).2):View σ (.osl i 15 0 2 false) Qn:=View.osl (bk:=(Lb i b).2) h rfl (by simp [Lb]) (aM.pure (qQ (by intro e he;simp [Lb] at he;rcases he with rfl | rfl<;>exact dB))) rfl (by intro e he;simp at he;rcases he with rfl | rfl<;>rfl)
theorem hvF (i:VL.Id) (b:Bool) (k:Rat):aM (ah.of [Lb i b]) [.str [102], .osl i 15 0 2 false, .str [97], .str [98],QV k] [.str [102],Qn, .str [97], .str [98],QV k]:=aM.cons (View.pure PU.pure) (aM.cons (afj (b:=b) (by simp [ah.of,Lb])) (aM.pure Km.pure))
theorem V5:VP Tryz.prog G 5 [] (.bool true):=by
 let S:List (VL.Id × dA):=[Lb [5] true,([24],⟨[.str [97]],1,false⟩)]
 have hO:aM (ah.of S) [.str [103], .osl [5] 15 0 2 false, .osl [24] 1 0 1 false,QV 2] [.str [103],Qn,Z0 [97],QV 2]:=aM.cons (View.pure PU.pure) (aM.cons (afj (b:=true) (by simp [ah.of,Lb,S])) (aM.cons (vS1 (by simp [ah.of,S,Lb,List.lookup])) (aM.pure Km.pure)))
 let T:List (VL.Id × dA):=[([44],⟨[qP [97] (sg (1,0) (4,0)),qP [98] (sg (0,1) (0,4)),x1],15,false⟩)]
 have hT:aM (ah.of T) [w1, .osl [44] 15 0 3 false] [w1,w1]:=aM.cons (View.pure PU.pure) (aM.cons (vO (by simp [ah.of,T]) rfl (by intro e he;simp at he;rcases he with rfl | rfl | rfl<;>rfl) (by intro e he;simp at he;rcases he with rfl | rfl | rfl;exact dB;exact dB;exact rX)) aM.nil)
 have hU:aM (ah.of [([71],⟨[x2],15,false⟩)]) [.sl 15 [x2], .osl [71] 15 0 1 false] [.sl 15 [x2], .sl 15 [x2]]:=aM.cons (View.pure PU.pure) (aM.cons (vX (by simp [ah.of]) vH rfl) aM.nil)
 exact VP.tr ui [hc (V4 G 0 0 4 0 (0,0) (4,0) (Sy G 0 0 _) (Sy G 4 0 _)),hc (V4 G 0 0 0 4 (0,0) (0,4) (Sy G 0 0 _) (Sy G 0 4 _)),hc (kI G 1 1),mV [Lb [5] false] (aF1 G) (hvF [5] false 1),hc (kI G 4 4),mV [Lb [5] true] (aF4 G) (hvF [5] true 4),hc (kI G 2 2),mV S (aO G) hO,
   hc (Sy G 1 0 (1,0)),hc (Sy G 0 1 (0,1)),hc (Sy G 1 1 (1,1)),hc (V4 G 1 0 4 0 (1,0) (4,0) (Sy G 1 0 _) (Sy G 4 0 _)),hc (V4 G 0 1 0 4 (0,1) (0,4) (Sy G 0 1 _) (Sy G 0 4 _)),mV T (abV G) hT,hc (V4 G 0 2 4 2 (0,2) (4,2) (Sy G 0 2 _) (Sy G 4 2 _)),mV [([71],⟨[x2],15,false⟩)] (abW G) hU] (by kernel_rfl)
end
end Go.Proofs.YtchdghnpcekegaaGreatDoor
end

section
namespace Go.VL
section
variable {H:Type} {enc:TypeId × Value->H} {P:Program} {w:World} {spare:Nat->Bool} {held:Bool}
def p5 (w:World):Env:=⟨fun _=>none,fun b=>b<w.heap.size⟩
theorem uq {α β : Type} {f : α -> β} {Q : α -> Prop}:∀ {es:List β},(∀ c∈es,∃ x,c=f x/\Q x)->∃ l:List α,es=l.map f/\∀ x∈l,Q x
 | [],_=>⟨[],rfl,by simp⟩
 | c::es,h=>by
   obtain ⟨x,hx,hq⟩:=h c (by simp)
   obtain ⟨l,hl,hql⟩:=uq (es:=es) fun y hy=>h y (by simp [hy])
   exact ⟨x::l,by rw [hx,hl];rfl,by intro y hy;rcases List.mem_cons.1 hy with rfl | hy;exact hq;exact hql y hy⟩
theorem Qo {t e:TypeId} {fuel k:Nat} {cs:List Value} {x:DataW H × List MemPlace} (ht:P.underlying t=some (.slice e)) (hk:P.cellsOf e=k) (QA:0<k) (h:DataW.trod enc P w 0 spare held fuel t cs=some x) (Good:AV->Prop)
   (F:∀ n Bw y,fuel=n+1->DataW.trod enc P w 0 spare held n e Bw=some y->∃ c:AV,Good c/\c.size=k/\bf (p5 w) w c.cells Bw) :
   ∃ (es:List AV) (v:Value),cs=[v]/\aX (p5 w) w (.sl k es) v/\(∀ c∈es,Good c)/\es.length<=maxLen:=by
 rcases DataW.trod_slice ht h with ⟨rfl,rfl⟩ | ⟨a,len,cap,elems,rest,n,hfu,rfl,rfl,_,hl,hm,hlen,Bo,_,_⟩
 . exact ⟨[],_,rfl,by simp only [aX];exact ⟨none,0,rfl,Nat.le_refl _,Nat.zero_le _,by simp, .inl trivial⟩,by simp,Nat.zero_le _⟩
 have hC:∀ i,i<len->∃ c:AV,Good c/\c.size=k/\∃ Bw,w.cells? 0 (a.add (i*k)) k=some Bw/\bf (p5 w) w c.cells Bw:=by
   intro i hi
   have h1:=Bo i hi
   rw [List.getElem?_eq_getElem (by omega),hk] at h1
   obtain ⟨Bw,h2,h3⟩:=Option.bind_eq_some_iff.1 h1
   obtain ⟨c,hg,hs,hr⟩:=F n Bw _ hfu h3
   exact ⟨c,hg,hs,Bw,h2,hr⟩
 have hC':∀ i:_root_.Fin len,∃ c:AV,Good c/\c.size=k/\∃ Bw,w.cells? 0 (a.add (i.1*k)) k=some Bw/\bf (p5 w) w c.cells Bw:=fun i=>hC i.1 i.2
 let C:_root_.Fin len->AV:=fun i=>(hC' i).choose
 have hCs:∀ i,Good (C i)/\(C i).size=k/\∃ Bw,w.cells? 0 (a.add (i.1*k)) k=some Bw/\bf (p5 w) w (C i).cells Bw:=fun i=>(hC' i).choose_spec
 have hsz:∀ c∈List.ofFn C,c.size=k:=by intro c hc;obtain ⟨i,rfl⟩:=List.mem_ofFn.1 hc;exact (hCs i).2.1
 refine ⟨List.ofFn C,_,rfl, ?_,by intro c hc;obtain ⟨i,rfl⟩:=List.mem_ofFn.1 hc;exact (hCs i).1,by rw [List.length_ofFn];omega⟩
 simp only [aX]
 refine ⟨some a,cap,by rw [List.length_ofFn],by rw [List.length_ofFn];exact hl,hm,hsz, ?_⟩
 by_cases h0:len=0
 . left;exact List.length_eq_zero_iff.1 (by rw [List.length_ofFn];exact h0)
 right
 have hcell:∀ (i:_root_.Fin len) (r:Nat) (c:AV),(C i).cells[r]? = some c->∃ v,w.cell? ((a.add (i.1*k)).add r)=some v/\aX (p5 w) w c v:=by
   intro i r c hc
   obtain ⟨_,hs,Bw,h1,h2⟩:=hCs i
   obtain ⟨Qy,hp⟩:=bO.1 h2
   obtain ⟨v,hv,FB⟩:=hp r c hc
   refine ⟨v, ?_,FB⟩
   have hrk:r<k:=by have:=(List.getElem?_eq_some_iff.1 hc).1;rw [<- hs];exact this
   rw [(World.cells?_some h1).2.2 r hrk,hv]
 obtain ⟨b,o,spot⟩:=a
 have hz:0<len:=Nat.pos_of_ne_zero h0
 obtain ⟨c0,Ww⟩:∃ c,(C ⟨0,hz⟩).cells[0]? = some c:=⟨_,List.getElem?_eq_getElem (by have:=(hCs ⟨0,hz⟩).2.1;unfold AV.size at this;omega)⟩
 obtain ⟨v0,hv0,_⟩:=hcell ⟨0,hz⟩ 0 c0 Ww
 have afk:((⟨b,o,spot⟩:Addr).add (0*k)).add 0=⟨b,o,spot⟩:=by simp [Addr.add]
 have afl:w.cell? ⟨b,o,spot⟩=some v0:=by rw [<- afk];exact hv0
 have hsp:spot=none:=World.cell?_spot afl
 subst hsp
 refine ⟨b,o,rfl,World.block_lt_of_cell? _ _ afl,dN.2 ?_⟩
 intro j c hj
 have yi:j<(flat (List.ofFn C)).length:=(List.getElem?_eq_some_iff.1 hj).1
 rw [cE hsz,List.length_ofFn] at yi
 have NP:j/k<len:=(Nat.div_lt_iff_lt_mul QA).2 yi
 have hjr:j%k<k:=Nat.mod_lt _ QA
 have aiY:(List.ofFn C)[j/k]? = some (C ⟨j/k,NP⟩):=by rw [List.getElem?_ofFn,dif_pos NP]
 have Fw:=flat_get hsz aiY hjr
 have hjj:j/k*k+j%k=j:=by rw [Nat.mul_comm];exact Nat.div_add_mod j k
 rw [hjj,hj] at Fw
 obtain ⟨v,hv,hr⟩:=hcell ⟨j/k,NP⟩ (j%k) c Fw.symm
 refine ⟨v, ?_,hr⟩
 have aiZ:((⟨b,o,none⟩:Addr).add (j/k*k)).add (j%k)=⟨b,o+j,none⟩:=by
   have h1:∀ (o n:Nat),(⟨b,o,none⟩:Addr).add n=⟨b,o+n,none⟩:=fun o n=>by unfold Addr.add;split<;>simp_all
   rw [h1,h1,Nat.add_assoc,hjj]
 rw [<- aiZ];exact hv
end
end Go.VL
end
