/- For the claim of FeatureFillet: parts OUP, OUW, OI1, OI2, OJ1, OJ2, CQS, OJ3, RO0, OA1, OA2, RO1, RO2, RO3, RO4, RT1, SP1, SR1, RO5. -/
import Derived.RangeFuncBox
import Derived.RangeFuncLeaves
import Derived.Shelf.Abstract
import Derived.WalkKit
import Derived.OwnWalkIn
import Derived.TacticsInMore
import Derived.LoopNIn
import Derived.LoopIn
import Derived.Test.YtndoagbiakehnaaGreatProg
import Derived.Test.YtndoagbiakehnaaGreatC07
import Derived.Test.YtndoagbiakehnaaGreatC08
import Derived.Test.YtndoagbiakehnaaGreatC05
import Derived.Test.YtndoagbiakehnaaGreatC06
set_option linter.unusedSimpArgs false
set_option linter.unusedVariables false
section
namespace Go.Proofs
open Go.RowKit Go.Shelf
attribute [local go_sem] Oper.semAt_some
def Tryz.upto {α : Type} (f:Nat -> α) (k:Nat):List α := (List.range k).map f
theorem Tryz.Ci {α : Type} (f:Nat -> α) (k:Nat):Tryz.upto f (k+1)=Tryz.upto f k++[f k]:=by simp [Tryz.upto,List.range_succ]
theorem Tryz.GG {α : Type} (f:Nat -> α) (k:Nat):(Tryz.upto f k).length=k:=by simp [Tryz.upto]
def Tryz.bw (zs:List Int) (k:Nat):Int × Int:=((zs.length:Int)-1-k,zs[zs.length-1-k]?.getD 0)
def Tryz.BK (n₀ Bs:Nat) (A B:World):Prop:=Below n₀ A B/\B.cell? ⟨Bs,0,none⟩=A.cell? ⟨Bs,0,none⟩
theorem Tryz.BK.refl (n₀ Bs:Nat) (A:World):Tryz.BK n₀ Bs A A:=⟨Below.refl _ _,rfl⟩
theorem Tryz.BK.trans {n₀ Bs:Nat} {A B C:World} (h:Tryz.BK n₀ Bs A B) (k:Tryz.BK n₀ Bs B C):Tryz.BK n₀ Bs A C:=⟨h.1.trans k.1,k.2.trans h.2⟩
set_option maxRecDepth 100000 in
set_option maxHeartbeats 2000000 in
theorem Tryz.Yu (F:Fence) (n:Nat) (h8:F.fn 319) (MS:F.round=none) (hn:1<=n) (l Bs n₀ b off cap:Nat) (zs:List Int) (Dz:zs.length*8<=140737488351232) (hb:b<n₀) (J Jx:List (Int × Int)->World->Prop)
   (hY:∀ pre x W,J pre W->pre.length<zs.length->YieldAt F (n-1) Tryz.prog l #[.int .i64 x.1, .int .u32 x.2] W fun e W' =>
     (e = .returned (.bool true)/\J (pre++[x]) W'/\Tryz.BK n₀ Bs W W')∨(e = .returned (.bool false)/\Jx (pre++[x]) W'))
   (W:World) (aiH:W.cell? ⟨Bs,0,none⟩=some (.slice (some ⟨b,off,none⟩) zs.length cap)) (hc:∀ j,j<zs.length->W.cell? ⟨b,off+j,none⟩=some (.int .u32 (zs[j]?.getD 0))) (h0:J [] W) :
   CallsIn F n Tryz.prog 319 #[.func (.yield l) #[] #[], .pointer (some ⟨Bs,0,none⟩)] W fun e W'=>(∃ v,e = .returned v) /\
     ((∃ ys,ys=Tryz.upto (Tryz.bw zs) zs.length/\J ys W')∨(∃ pre,(∃ k,k<=zs.length/\pre=Tryz.upto (Tryz.bw zs) k)/\Jx pre W')):=by
 refine callsIn_of_wp Tryz.func319 rfl h8 ?_ MS
 simp only [Tryz.ntmps319,List.size_toArray,List.length_cons,List.length_nil,Nat.reduceAdd,Nat.reduceSub,Array.replicate_succ,Array.replicate_zero,List.push_toArray,List.append_toArray,List.nil_append,List.cons_append]
 gi_wp2
 gi_loopw [3] (fun i wr=>∃ k:Nat,k<=zs.length/\i = .int .i64 ((zs.length:Int)-1-k)/\J (Tryz.upto (Tryz.bw zs) k) wr/\Tryz.BK n₀ Bs W wr)
   (fun i _=>(intOf i+1).toNat)
 case atStart=>exact ⟨0,Nat.zero_le _,by simp,h0,Tryz.BK.refl _ _ _⟩
 case round =>
   obtain ⟨k,hk,rfl,hJs,hnx⟩:=hrel
   have hBk:=hnx.2.trans aiH
   have Xc:∀ j,j<zs.length->wr.cell? ⟨b,off+j,none⟩=some (.int .u32 (zs[j]?.getD 0)):=fun j h=>(hnx.1.cell (p:=⟨b,off+j,none⟩) hb).trans (hc j h)
   by_cases hlt:k<zs.length
   . obtain ⟨q,hq⟩:∃ q,q=zs.length-1-k:=⟨_,rfl⟩
     have hqi:(zs.length:Int)-1-k=q:=by omega
     have hql:q<zs.length:=by omega
     have xy:Hid (Tryz.bw zs k=((q:Int),zs[q]?.getD 0)):=by show Tryz.bw zs k=_;rw [Tryz.bw, <- hq,hqi]
     have hqk:Hid (q+1+k=zs.length):=by show q+1+k=zs.length;omega
     clear hq
     have aiJ:=Xc q hql
     generalize zs[q]?.getD 0=zq at xy aiJ
     obtain ⟨fn,tmps,assign,body,hy,hR⟩:=hY _ ((q:Int),zq) wr hJs (by rw [Tryz.GG];exact hlt)
     dsimp only at hy
     rw [hqi]
     clear hqi hY h0 hc Xc
     gi_wp2
     refine hR.mono ?_
     rintro e W3 (⟨rfl,hJ3,hk3⟩ | ⟨rfl,aiK⟩)
     . gi_wp2
       go_roundw
       case rel=>exact ⟨k+1,by omega,by have:=hqk.out;congr 1;omega,by rw [Tryz.Ci,xy.out];exact hJ3,hnx.trans hk3⟩
       case measure=>simp [intOf]
     . gi_wp2
       refine bodyPost_ret (results_none rfl _ _ _) rfl ?_
       exact ⟨⟨_,rfl⟩, .inr ⟨_,⟨k+1,by omega,by rw [Tryz.Ci,xy.out]⟩,aiK⟩⟩
   . obtain rfl:k=zs.length:=by omega
     have aiL:(zs.length:Int)-1-zs.length = -1:=by omega
     rw [aiL]
     gi_wp2
     go_end0
     exact ⟨⟨_,rfl⟩, .inl ⟨_,rfl,hJs⟩⟩
def Tryz.MT (n₀:Nat) (W:World) (sv:Value) (zs:List Int):Prop :=
 (∃ a cap,sv = .slice a 0 cap/\zs=[])∨∃ b off cap,sv = .slice (some ⟨b,off,none⟩) zs.length cap/\b<n₀/\∀ j,j<zs.length->W.cell? ⟨b,off+j,none⟩=some (.int .u32 (zs[j]?.getD 0))
theorem Tryz.MT.below {n₀:Nat} {A B:World} (h:Below n₀ A B) {sv:Value} {zs:List Int}:Tryz.MT n₀ A sv zs->Tryz.MT n₀ B sv zs
 | .inl e => .inl e
 | .inr ⟨b,off,cap,e,hb,hc⟩ => .inr ⟨b,off,cap,e,hb,fun j hj=>(h.cell (p:=⟨b,off+j,none⟩) hb).trans (hc j hj)⟩
set_option maxRecDepth 100000 in
set_option maxHeartbeats 1000000 in
theorem Tryz.IB (F:Fence) (n:Nat) (h8:F.fn 319) (MS:F.round=none) (l Bs:Nat) (a:Option Addr) (cap:Nat) (J:List (Int × Int)->World->Prop) (W:World) (hBs:W.cell? ⟨Bs,0,none⟩=some (.slice a 0 cap)) (h0:J [] W) :
   CallsIn F n Tryz.prog 319 #[.func (.yield l) #[] #[], .pointer (some ⟨Bs,0,none⟩)] W fun e W'=>(∃ v,e = .returned v)/\J [] W':=by
 refine callsIn_of_wp Tryz.func319 rfl h8 ?_ MS
 simp only [Tryz.ntmps319,List.size_toArray,List.length_cons,List.length_nil,Nat.reduceAdd,Nat.reduceSub,Array.replicate_succ,Array.replicate_zero,List.push_toArray,List.append_toArray,List.nil_append,List.cons_append]
 gi_wp2
 gi_loopw [3] (fun i wr=>i = .int .i64 (-1)/\J [] wr) (fun _ _=>0)
 case atStart=>exact ⟨rfl,h0⟩
 case round =>
   obtain ⟨rfl,hJs⟩:=hrel
   gi_wp2
   go_end0
   exact ⟨⟨_,rfl⟩,hJs⟩
set_option maxHeartbeats 1000000 in
theorem Tryz.GH (F:Fence) (n:Nat) (h5:F.fn 315) (MS:F.round=none) (a:Option Addr) (len cap:Nat) (w:World) :
   CallsIn F n Tryz.prog 315 #[.slice a len cap] w fun e w'=>e = .returned (.func (.func 319) #[] #[.pointer (some ⟨w.heap.size,0,none⟩)])/\w'=w.alloc (.cells #[.slice a len cap] 24):=by
 refine callsIn_of_wp Tryz.func315 rfl h5 ?_ MS
 simp only [Tryz.ntmps315,List.size_toArray,List.length_cons,List.length_nil,Nat.reduceAdd,Nat.reduceSub,Array.replicate_succ,Array.replicate_zero,List.push_toArray,List.append_toArray,List.nil_append,List.cons_append]
 gi_wp2
 go_ret
 exact ⟨rfl,rfl⟩
theorem Tryz.Qy (F:Fence) (n:Nat) (h8:F.fn 319) (MS:F.round=none) (hn:1<=n) (Bs n₀:Nat) (sv:Value) (zs:List Int) (Dz:zs.length*8<=140737488351232) (w:World) (hBs:Bs<w.heap.size) (hn₀:n₀<=w.heap.size)
   (hc:w.cell? ⟨Bs,0,none⟩=some sv) (hI:Tryz.MT n₀ w sv zs) :
   SeqStopsK F n Tryz.prog 319 #[.pointer (some ⟨Bs,0,none⟩)] (fun x:Int × Int => #[Value.int .i64 x.1,Value.int .u32 x.2]) (Tryz.BK n₀ Bs) (fun ys=>ys=Tryz.upto (Tryz.bw zs) zs.length)
     (fun pre=>∃ k,k<=zs.length/\pre=Tryz.upto (Tryz.bw zs) k) zs.length w:=fun l J Jx W hW _ _ hY h0=>by
 have hc':=(hW.cell (p:=⟨Bs,0,none⟩) hBs).trans hc
 rcases hI.below (hW.mono hn₀) with ⟨a,cap,rfl,rfl⟩ | ⟨b,off,cap,rfl,hb,hcs⟩
 . exact (Tryz.IB F n h8 MS l Bs a cap J W hc' h0).mono fun e W' ⟨he,hj⟩=>⟨he, .inl ⟨_,rfl,hj⟩⟩
 . exact Tryz.Yu F n h8 MS hn l Bs n₀ b off cap zs Dz hb J Jx hY W hc' hcs h0
def Tryz.Ab (s v:Int):Int:=bits BinOp.or IntKind.u64 (IntKind.u64.wrap (s*4294967296)) (IntKind.u64.wrap v)
def Tryz.toU (l:List (Int × Int)):Int:=l.foldl (fun s x=>Tryz.Ab s x.2) 0
theorem Tryz.toU_snoc (pre:List (Int × Int)) (x:Int × Int):Tryz.toU (pre++[x])=Tryz.Ab (Tryz.toU pre) x.2:=by simp [Tryz.toU]
set_option maxRecDepth 100000 in
set_option maxHeartbeats 2000000 in
theorem Tryz.toUint_in (F:Fence) (n:Nat) (h3:F.fn 301) (h6:F.fn 315) (h8:F.fn 319) (MS:F.round=none) (hn:3<=n) (a:Option Addr) (len cap:Nat) (zs:List Int) (Dz:zs.length*8<=140737488351232) (w:World) (hI:Tryz.MT w.heap.size w (.slice a len cap) zs) :
   CallsIn F n Tryz.prog 301 #[.slice a len cap] w fun e W'=>e = .returned (.int .u64 (Tryz.toU (Tryz.upto (Tryz.bw zs) zs.length)))/\Below w.heap.size w W':=by
 have h1:1<=n:=by omega
 refine callsIn_of_wp_marks Tryz.func301 rfl h3 ?_ MS
 simp only [Tryz.ntmps301,List.size_toArray,List.length_cons,List.length_nil,Nat.reduceAdd,Nat.reduceSub,Array.replicate_succ,Array.replicate_zero,List.push_toArray,List.append_toArray,List.nil_append,List.cons_append]
 gi_wp2_with (gi_at_call 315;refine (Tryz.GH F (n-1) h6 MS _ _ _ _).mono ?_;rintro e w' ⟨rfl,rfl⟩)
 have bS:=Boxed.new w 156 (.int .u64 0)
 have bN:=Boxed.new (w.alloc (.cells #[.int .u64 0] 156)) 24 (.slice a len cap)
 rw [World.size_alloc] at bN
 have hB0:Below w.heap.size w ((w.alloc (.cells #[.int .u64 0] 156)).alloc (.cells #[.slice a len cap] 24)):=((Below.refl _ w).alloc (Nat.le_refl _) _).alloc (by simp) _
 have aoD:((w.alloc (.cells #[.int .u64 0] 156)).alloc (.cells #[.slice a len cap] 24)).heap.size=w.heap.size+2:=by simp
 refine wpIn_rangeFunc_ownG MS h1 (gf:=319) (lb := #[.pointer (some ⟨w.heap.size+1,0,none⟩)]) rfl h8 (enters_of Tryz.func319 (by kernel_rfl) rfl)
   (Tryz.Qy F (n-1) h8 MS (by omega) (w.heap.size+1) w.heap.size _ zs Dz _ (by simp) (by simp;omega) bN.cell (hI.below hB0)) (fun h k=>h.trans k)
   (fun W l o o' hl h h2 h3=>⟨belowK_b (w:=w) (Nat.le_refl _) W l o o' (by omega) h h2 h3,(belowK_b (w:=(w.alloc (.cells #[.int .u64 0] 156)).alloc (.cells #[.slice a len cap] 24)) (Nat.le_refl _) W l o o' hl h h2 h3).cell (p:=⟨w.heap.size+1,0,none⟩) (by simp)⟩) (Below.refl _ _) (fun _=>rfl)
   (fun pre W=>(W.cell? ⟨w.heap.size,0,none⟩=some (.int .u64 (Tryz.toU pre))/\W.frozen? ⟨w.heap.size,0,none⟩=false)/\Below w.heap.size w W)
   (fun _ _ _=>False)
   (OwnFrom.and (Own.from (fun s A B row hs hg hr=>⟨cell_kept hs.1 hg hr,(frozen_kept hs.1 hg hr).trans hs.2⟩) _) (ownFrom_below (Nat.le_refl _) (by simp;omega)))
   (fun _ _ _ _ _ hs _ _=>hs)
   ⟨⟨(bS.alloc _).cell,(bS.alloc _).frozen⟩,hB0⟩
   (fun x=>{ tmps := #[.slice a len cap,undef, .int .u64 0, .pointer (some ⟨w.heap.size,0,none⟩),undef, .int .u32 x.2, .slice a len cap, .func (.func 319) #[] #[.pointer (some ⟨w.heap.size+1,0,none⟩)], .int .i64 x.1, .int .u32 x.2,undef,undef,undef,undef,undef,undef],defers:=[] }) ?assign ?body ?done ?stop
 case assign =>
   intro l x W K hK
   gi_wp2
   exact hK
 case body =>
   rintro l pre x W ⟨⟨hc,hf⟩,hB⟩ _
   gi_wp2
   exact ⟨(KeepsOthers.setCell _ _ _).from _,⟨(Below.refl w.heap.size W).setCell (p:=⟨w.heap.size,0,none⟩) (Nat.le_refl _) _,World.cell?_of_block (a:=⟨w.heap.size+1,0,none⟩) (Below.heap_setCell _ _ _ _ (by simp))⟩,
     ⟨by rw [Tryz.toU_snoc];exact World.cell?_setCell_same' _ _ _ (by rw [hc];rfl),by rw [World.frozen?_setCell];exact hf⟩,hB.setCell (p:=⟨w.heap.size,0,none⟩) (Nat.le_refl _) _⟩
 case done =>
   rintro D ys W hD rfl ⟨⟨hc,_⟩,hB⟩ hK
   gi_wp2
   refine ⟨by simp, .inl ⟨_,_,rfl,run_takeDeferred hK, ?_⟩⟩
   exact ⟨_,results_tmp rfl _ _ _,rfl,hB.trans (belowK_b (w:=w) (Nat.le_refl _) W D _ _ (by simp at hD;omega) hK rfl rfl)⟩
 case stop =>
   rintro D c pre W _ _ h _
   exact h.elim
end Go.Proofs
end

section
namespace Go.Proofs
open Go.VL Go.RowKit
def vu (ws:List Nat):List Int:=ws.map fun w:Nat=>(w:Int)
theorem MU (ws:List Nat):(vu ws).length=ws.length:=List.length_map ..
theorem MV (a b:Nat) (ha:a<18446744073709551616) (hb:b<18446744073709551616):bits BinOp.or IntKind.u64 (a:Int) (b:Int)=((a ||| b:Nat):Int):=by
 have h:=XI a b ha hb
 rw [HW] at h
 simp only [Option.some.injEq,AV.int.injEq,true_and] at h
 rw [<- h];rfl
theorem Tryz.tE (r a:Nat) (hr:r<ak) (ha:a<ak):Tryz.Ab (r:Int) (a:Int)=((ak*r+a:Nat):Int):=by
 unfold Tryz.Ab
 have h1:IntKind.u64.wrap ((r:Int)*4294967296)=((ak*r:Nat):Int):=by rw [IntKind.wrap_u64];unfold ak at *;omega
 rw [h1,aW a ha,MV _ _ (by unfold ak at *;omega) (by unfold ak at *;omega)]
 have:=Nat.two_pow_add_eq_or_of_lt (i:=32) (b:=a) (by unfold ak at ha;omega) r
 rw [show ak=2 ^ 32 from rfl,this]
theorem Tryz.toU_digits (n:Nat) (hn:n<18446744073709551616):Tryz.toU (Tryz.upto (Tryz.bw (vu (digits n))) (vu (digits n)).length)=(n:Int):=by
 have hw:=kU n hn
 have hd:=aH n
 have hv:=aE n
 unfold aa at hw
 generalize digits n=ds at hw hd hv
 match ds,hw,hd,hv with
 | [],_,_,hv=>subst hv;rfl
 | [a],_,hd,hv =>
   have ha:=hd a (by simp)
   have e:=Tryz.tE 0 a bx ha
   simp only [val,Nat.mul_zero,Nat.add_zero] at hv
   have:(n:Int)=((ak*0+a:Nat):Int):=by omega
   rw [this, <- e];rfl
 | [a,b],_,hd,hv =>
   have ha:=hd a (by simp)
   have hb:=hd b (by simp)
   have e1:=Tryz.tE 0 b bx hb
   rw [Nat.mul_zero,Nat.zero_add] at e1
   have e2:=Tryz.tE b a hb ha
   simp only [val,Nat.mul_zero,Nat.add_zero] at hv
   have:(n:Int)=((ak*b+a:Nat):Int):=by omega
   rw [this, <- e2]
   show Tryz.Ab (Tryz.Ab 0 (b:Int)) (a:Int)=_
   have e3:Tryz.Ab 0 (b:Int)=(b:Int):=e1
   rw [e3]
 | _::_::_::_,hw,_,_=>simp at hw
theorem Tryz.toUint_vp (G:Nat->Option (List AV)) (n:Nat) (hn:n<18446744073709551616):VP Tryz.prog G 301 [W n] (.int .u64 (n:Int)):=by
 refine VP.S5 (r:={ val := .int .u64 (n:Int) }) (aw.Ov Tryz.func301 (by kernel_rfl) (by kernel_rfl) ?_) (we.int _ _)
 intro own E w σ vs _ hi hr
 simp only [aK] at hr
 obtain ⟨v,_,rfl,hv,rfl⟩:=hr
 have hus:us (digits n)=(vu (digits n)).map (AV.int .u32):=by simp [us,vu]
 have qf:er σ 1 (W n)=some ((vu (digits n)).map (AV.int .u32),[]):=by rw [W,gj,hus]
 obtain ⟨a,cap,rfl,hle,po⟩:=Ow hi hv qf
 have hI:Tryz.MT w.heap.size w (.slice a (vu (digits n)).length cap) (vu (digits n)):=by
   rcases po with h | ⟨b,o,rfl,hb,hc⟩
   . rw [h];exact .inl ⟨a,cap,rfl,rfl⟩
   . exact .inr ⟨b,o,cap,rfl,hb,hc⟩
 have hlen:(vu (digits n)).length<=2:=by rw [MU];exact kU n hn
 refine (callsIn_wide (n:=3)).1 ((Tryz.toUint_in Fence.wide 3 trivial trivial trivial rfl (by omega) a _ cap _ (by omega) w hI).mono ?_)
 rintro e W' ⟨rfl,hB⟩
 rw [Tryz.toU_digits n hn]
 exact ⟨_,rfl,hB,fun E w=>by simp only [aG]⟩
end Go.Proofs
end

section
set_option maxRecDepth 100000
namespace Go.Proofs.YtndoagbiakehnaaGreat
open Go.VL Go.Proofs
section
variable (G:Nat->Option (List AV))
theorem t145:fY Tryz.prog G 141:=fun _ hw hl=>J5 wq hw hl
theorem c95 (n:Nat) (hn:aa n<=1000000):VP Tryz.prog G 204 [W n] (W n):=L9 kz n hn
theorem IC:fL Tryz.prog G 260:=Gl (t145 G)
theorem KH (n:Nat) (hn:n<18446744073709551616):VP Tryz.prog G 261 [.int .u64 ((n:Nat):Int)] (W n):=xv qQ (t145 G) n hn
theorem VT (n:Nat) (hn:n<18446744073709551616):VP Tryz.prog G 301 [W n] (.int .u64 ((n:Nat):Int)):=Tryz.toUint_vp G n hn
theorem aiM (a:Int):VP Tryz.prog G 298 [.int .i64 a] (.bool false):=HR uU a
theorem aiN (a:Int):VP Tryz.prog G 308 [.int .u32 a] (.bool false):=AX qS a
theorem ac7 (a b:Int):VP Tryz.prog G 280 [.int .i64 a, .int .i64 b] (.int .i64 (eP a b)):=HS r6 (aiM G) a b
theorem aiO (a b:Int):VP Tryz.prog G 299 [.int .u32 a, .int .u32 b] (.int .i64 (eP a b)):=AY pG (aiN G) a b
theorem T8 (m n:Nat) (hm:aa m<=1000000) (hn:aa n<=1000000):VP Tryz.prog G 281 [W m,W n] (.int .i64 (de m n)):=HT rZ (ac7 G) (aiO G) m n (by omega) (by omega)
theorem Yv (m n:Nat) (hm:aa m<=1000000) (hn:aa n<=1000000):VP Tryz.prog G 292 [W m,W n] (W (m+n)):=S9 wu m n hm hn
theorem ac8 (m n:Nat) (x3:n<=m) (hm:aa m<=1000000):VP Tryz.prog G 293 [W m,W n] (W (m-n)):=O5 uR (t145 G) m n x3 hm
theorem aiP (m n:Nat) (hm:aa m<=1000000) (hn:aa n<=1000000):VP Tryz.prog G 282 [W m,W n] (W (m*n)):=O6 uS (t145 G) m n hm hn
theorem d189 (m w:Nat) (hm:aa m<=1000000) (hw:w<ak) (h0:w≠0):VP Tryz.prog G 309 [W m, .int .u32 (w:Int)] (.tup [W (m/w),W (m%w)]):=A3 pF (t145 G) (KH G) m w hm hw h0
theorem l90 (x:Nat) (hx:x<ak):VP Tryz.prog G 318 [.int .u32 (x:Int)] (.int .i64 (ee x:Int)):=FO lQ x hx
theorem aiQ (x:Nat) (hx:x<ak) (h0:0<x):VP Tryz.prog G 310 [.int .u32 (x:Int)] (.int .i64 ((32-ee x:Nat):Int)):=Qs (l90 G) x hx h0
theorem d164 (m n:Nat) (x4:n≠0) (hm:aa m<=900000) (hn:aa n<=900000):VP Tryz.prog G 300 [W m,W n] (.tup [W (m/n),W (m%n)]) :=
 Mg th (T8 G) (c95 G) (VT G) (KH G) (d189 G) (aiQ G) qo (t145 G) qR r7 kg m n x4 hm hn
theorem T9 (z:Int) (hz:aa z.natAbs<=1000000):VP Tryz.prog G 76 [IV z] (.int .i64 z.sign):=Qr (t145 G) z hz
theorem VU (a:Int) (h1 : -9223372036854775808<=a) (h2:a<9223372036854775808):VP Tryz.prog G 232 [.int .i64 a] (IV a):=GC (KH G) (IC G) a h1 h2
theorem ac9 (z:Int) (hz:aa z.natAbs<=1000000):VP Tryz.prog G 265 [IV z] (IV (-z)):=T6 (t145 G) (c95 G) (IC G) z hz
theorem ada (y z:Int) (hy:aa y.natAbs<=1000000) (hz:aa z.natAbs<=1000000):VP Tryz.prog G 257 [IV y,IV z] (IV (y*z)):=T7 (t145 G) (aiP G) (IC G) y z hy hz
theorem adb (y z:Int) (hy:aa y.natAbs<=1000000) (hz:aa z.natAbs<=1000000):VP Tryz.prog G 256 [IV y,IV z] (.int .i64 (eP y z)):=TG (T9 G) (ac7 G) (t145 G) (T8 G) y z hy hz
theorem ade (a b:Int) (xR:b≠0) (ha:aa a.natAbs<=900000) (hb:aa b.natAbs<=900000):VP Tryz.prog G 305 [IV a,IV b] (.tup [IV (a.fdiv b),IV (a.fmod b), .int .i64 0]):=by
 have h:=Iq (t145 G) (d164 G) (Yv G) (ac8 G) (IC G) a b xR ha hb
 rw [(Pl a b xR).1,(Pl a b xR).2] at h;exact h
theorem adf (a b:Int) (ha:aa a.natAbs<=900000) (hb:aa b.natAbs<=900000):VP Tryz.prog G 286 [IV a,IV b] (IV (Nat.gcd a.natAbs b.natAbs:Nat)):=XP xP (t145 G) (d164 G) (c95 G) (IC G) (VT G) (KH G) a b ha hb
theorem adg (neg:Bool) (ws:List Nat) (hl:ws.length<=9223372036854775807):VP Tryz.prog G 285 [IR neg ws] (.bool (eo neg ws)):=Mc uT neg ws hl
theorem Yw:VP Tryz.prog G 233 [] (IV 1):=TF (VU G 1 (by decide) (by decide))
theorem i138 (z:Int):VP Tryz.prog G 273 [IV z] (.bool (decide (z=1))):=ME z
theorem aiR (a b:Int) (xR:b≠0) (ha:aa a.natAbs<=900000) (hb:aa b.natAbs<=900000):VP Tryz.prog G 294 [IV a,IV b] (IV (a.fdiv b)):=TH a b (i138 G b) (ade G a b xR ha hb)
theorem Yx (a:Int) (h1 : -9223372036854775808<=a) (h2:a<9223372036854775808):VP Tryz.prog G 198 [.int .i64 a] (RV a 1):=Dw a (VU G a h1 h2) (Yw G)
theorem adh (a b:Int) (ha:aa a.natAbs<=1000000):VP Tryz.prog G 32 [RV a b] (.int .i64 a.sign):=MD a b (T9 G a ha)
theorem adi (a b:Int) (xR:b≠0) (ha:aa a.natAbs<=900000) (hb:aa b.natAbs<=900000) :
   VP Tryz.prog G 275 [IV a,IV b] (RV (a.fdiv (if b<0 then -(Nat.gcd a.natAbs b.natAbs:Nat) else (Nat.gcd a.natAbs b.natAbs:Nat))) (b.fdiv (if b<0 then -(Nat.gcd a.natAbs b.natAbs:Nat) else (Nat.gcd a.natAbs b.natAbs:Nat)))):=by
 have hg0:0<Nat.gcd a.natAbs b.natAbs:=Nat.gcd_pos_of_pos_right _ (by omega)
 have hgl:aa (Nat.gcd a.natAbs b.natAbs)<=900000:=Nat.le_trans (aP (Nat.le_of_dvd (by omega) (Nat.gcd_dvd_right _ _))) hb
 refine Im a b (Nat.gcd a.natAbs b.natAbs:Nat) (adf G a b ha hb) (ac9 G _ (by rw [Int.natAbs_natCast];omega)) ?_
 intro x y hx hy
 have Me:y≠0:=by rcases hy with rfl | rfl<;>omega
 have hyl:aa y.natAbs<=900000:=by rcases hy with rfl | rfl<;>simpa using hgl
 exact aiR G x y Me (by rcases hx with rfl | rfl<;>assumption) hyl
end
end Go.Proofs.YtndoagbiakehnaaGreat
end

section
set_option maxRecDepth 100000
namespace Go.Proofs.YtndoagbiakehnaaGreat
open Go.VL Go.Proofs
section
variable (G:Nat->Option (List AV))
theorem adj:Has Tryz.prog 128 eD:=jU
theorem aiS:Has Tryz.prog 132 (ib 128):=nL
theorem t203:fY Tryz.prog G 128:=fun _ hw hl=>J5 adj hw hl
theorem ID:fL Tryz.prog G 126:=Gm (t203 G)
theorem Ua (z:Int) (hz:aa z.natAbs<=1000000):VP Tryz.prog G 125 [IV z] (IV z):=MB (ID G) z hz
theorem Yy (z:Int) (hz:aa z.natAbs<=1000000):VP Tryz.prog G 96 [IV z] (.int .i64 z.sign):=Iy (Ua G) z hz
theorem adk (n:Nat) (hn:n<18446744073709551616):VP Tryz.prog G 132 [.int .u64 ((n:Nat):Int)] (W n):=xv aiS (t203 G) n hn
theorem KI (a:Int) (h1 : -9223372036854775808<=a) (h2:a<9223372036854775808):VP Tryz.prog G 66 [.int .i64 a] (IV a):=Il (adk G) (ID G) a h1 h2
theorem Yz (m n:Nat) (hm:aa m<=1000000) (hn:aa n<=1000000):VP Tryz.prog G 177 [W m,W n] (.int .i64 (de m n)):=FW mq m n hm hn
theorem aiT (m n:Nat) (hm:aa m<=1000000) (hn:aa n<=1000000):VP Tryz.prog G 222 [W m,W n] (W (m+n)):=Py oo (t203 G) m n hm hn
theorem aiU (m n:Nat) (x3:n<=m) (hm:aa m<=1000000):VP Tryz.prog G 183 [W m,W n] (W (m-n)):=B7 jx (t203 G) m n x3 hm
theorem adl (m:Nat) (ws:List Nat) (hw:Wd ws) (hm:aa m<=1000000) (hl:ws.length<=1000000):VP Tryz.prog G 127 [W m, .sl 1 (us ws)] (W (m*val ws)):=zH gm (t203 G) m hw hm hl
theorem aiV (m n:Nat) (hm:aa m<=1000000) (hn:aa n<=1000000):VP Tryz.prog G 127 [W m,W n] (W (m*n)):=Mj gm (t203 G) m n hm hn
theorem aiW (m w:Nat) (hm:aa m<=1000000) (hw:w<ak) (h0:w≠0):VP Tryz.prog G 179 [W m, .int .u32 (w:Int)] (.tup [W (m/w), .int .u32 ((m%w:Nat):Int)]):=Yb qp (t203 G) m w hm hw h0
theorem adm (n:Nat) (hn:n<18446744073709551616):VP Tryz.prog G 178 [W n] (.int .u64 (n:Int)):=Px nM n hn
theorem adn (m s:Nat) (hm:aa m<=1000000) (hs:s<=31):VP Tryz.prog G 184 [W m, .int .i64 (s:Int)] (W (m/2 ^ s)):=Tq oq (t203 G) m s hm hs
theorem d204 (m n:Nat) (x4:n≠0) (hm:aa m<=900000) (hn:aa n<=900000):VP Tryz.prog G 129 [W m,W n] (.tup [W (m/n),W (m%n)]) :=
 H5 mK (Yz G) (adm G) (adk G) (aiW G) jh mr (t203 G) adj nN (adl G) jx (adn G) m n x4 hm hn
theorem VV (z:Int) (hz:aa z.natAbs<=1000000):VP Tryz.prog G 213 [IV z] (IV (-z)):=Qb (ID G) z hz
theorem ado (a b:Int) (ha:aa a.natAbs<=1000000) (hb:aa b.natAbs<=1000000):VP Tryz.prog G 186 [IV a,IV b] (IV (a+b)):=Qc (Ua G) (aiT G) (ID G) (Yz G) (aiU G) a b ha hb
theorem Qz (a b:Int) (ha:aa a.natAbs<=1000000) (hb:aa b.natAbs<=1000000):VP Tryz.prog G 185 [IV a,IV b] (IV (a-b)):=Qt (VV G) (ado G) a b ha hb
theorem VX (a b:Int) (ha:aa a.natAbs<=1000000) (hb:aa b.natAbs<=1000000):VP Tryz.prog G 60 [IV a,IV b] (IV (a*b)):=MG (Ua G) (aiV G) (ID G) a b ha hb
theorem aiX (a b:Int) (ha:aa a.natAbs<=900000) (hb:aa b.natAbs<=900000):VP Tryz.prog G 61 [IV a,IV b] (IV (Nat.gcd a.natAbs b.natAbs:Nat)):=Tt pH (t203 G) (d204 G) (ID G) a b ha hb
theorem QA (neg:Bool) (ws:List Nat) (hw:Wd ws) (hl:ws.length<=9223372036854775807):VP Tryz.prog G 135 [IR neg ws] (.bool (eo neg ws)):=Gn (t203 G) neg ws hw hl
theorem YA (a:Int) (h1 : -9223372036854775808<=a) (h2:a<9223372036854775808):VP Tryz.prog G 24 [.int .i64 a] (RV a 1):=A7 a (KI G a h1 h2) (KI G 1 (by decide) (by decide))
theorem adp (z:Int):VP Tryz.prog G 59 [IV z] (.bool (decide (z=1))):=MF z
theorem aiY:Has Tryz.prog 39 (lG 96):=ot
theorem adq (a b:Int) (ha:aa a.natAbs<=1000000):VP Tryz.prog G 39 [RV a b] (.int .i64 a.sign):=Pf aiY a b (Yy G a ha)
theorem adr:Has Tryz.prog 71 (gK 135 96 61 59):=nO
end
end Go.Proofs.YtndoagbiakehnaaGreat
end

section
set_option maxRecDepth 100000
namespace Go.Proofs.YtndoagbiakehnaaGreat
open Go.VL Go.Proofs
section
variable (G:Nat->Option (List AV))
theorem aiZ:F6 Tryz.prog G 274:=Qe (t145 G) (Yv G) (IC G) (T8 G) (ac8 G)
theorem MW:xB Tryz.prog G 257:=fun a b ha hb=>ada G a b (by omega) (by omega)
theorem ai0:F7 Tryz.prog G 265:=fun a ha=>ac9 G a (by omega)
theorem ads:Dk Tryz.prog G 76:=fun a ha=>T9 G a (by omega)
theorem YB:VB Tryz.prog G 256:=fun a b ha hb=>adb G a b (by omega) (by omega)
theorem YC:zO Tryz.prog G 273:=fun z=>i138 G z
theorem ai1:B8 Tryz.prog G 286:=fun a b ha hb=>adf G a b (by omega) (by omega)
theorem YD:lK Tryz.prog G 275:=fun a b hb ha Nw=>by rw [<- zL a b hb];exact adi G a b hb (by omega) (by omega)
theorem tG:Dl Tryz.prog G 264:=Ce ti (VN fun neg ws _ hl=>adg G neg ws hl) (ads G) (ai1 G) (YC G)
theorem GI:Ku Tryz.prog G 237:=P0 (ai0 G)
theorem xD:Ia Tryz.prog G 32:=fun q hq=>adh G q.num q.den (by have:=hq.1;omega)
theorem Ub:VC Tryz.prog G 227:=Qd (xD G) (MW G) (YB G)
theorem xS:Ks Tryz.prog G 244:=PZ (YC G) (aiZ G) (Yw G) (MW G) (YD G)
theorem YE:Kt Tryz.prog G 268:=TI wv (YC G) (MW G) (Yw G) (YD G)
theorem jo:VE Tryz.prog G 198:=fun a h1 h2=>Yx G a h1 h2
theorem adt (z:Int):VP Tryz.prog G 291 [IV z] (.bool (decide (z=0))):=IA z
theorem adu:VD Tryz.prog G 271:=P3 (adt G) (MW G) (YD G)
theorem VY:PI Tryz.prog G 125:=fun z hz=>Ua G z hz
theorem ai2:F6 Tryz.prog G 186:=fun a b ha hb=>ado G a b (by omega) (by omega)
theorem MX:xB Tryz.prog G 60:=fun a b ha hb=>VX G a b (by omega) (by omega)
theorem YF:F7 Tryz.prog G 213:=fun a ha=>VV G a (by omega)
theorem GJ:Dk Tryz.prog G 96:=fun a ha=>Yy G a (by omega)
theorem Uc:zO Tryz.prog G 59:=fun z=>adp G z
theorem QB:B8 Tryz.prog G 61:=fun a b ha hb=>aiX G a b (by omega) (by omega)
theorem YG:Kv Tryz.prog G 62:=fun a b hb hd ha Nw=>MA a b (MI (VY G) (d204 G) (ID G) (VX G) (Qz G) (Yy G) a b hb hd (by omega) (by omega))
theorem jf:VE Tryz.prog G 24:=fun a h1 h2=>YA G a h1 h2
theorem GK:Ia Tryz.prog G 39:=fun q hq=>adq G q.num q.den (by have:=hq.1;omega)
theorem Ac:Ks Tryz.prog G 221:=MH (Uc G) (ai2 G) (QB G) (MX G) (YG G)
theorem Ud:Kt Tryz.prog G 17:=Ip (jf G 0 (by decide) (by decide)) (Uc G) (MX G) (QB G) (YG G)
theorem GL:Ku Tryz.prog G 167:=Mz (YF G)
theorem tH:Dl Tryz.prog G 71:=Ce adr (VN fun neg ws hw hl=>QA G neg ws hw hl) (GJ G) (QB G) (Uc G)
theorem VZ:Ky Tryz.prog G 188:=fun a b xR hb h1 h2=>by
 have a1:aa a.natAbs<=1:=cK (by rw [Nat.pow_one];unfold ak;omega)
 have b1:aa b<=1:=cK (by rw [Nat.pow_one];unfold ak;omega)
 exact Ik a b xR (KI G a (by omega) (by omega)) (KI G b (by omega) (by omega)) (Io (QB G) (GJ G) (YG G) a b xR (by omega) (by omega))
end
end Go.Proofs.YtndoagbiakehnaaGreat
end

section
set_option maxRecDepth 100000
namespace Go.Proofs.YtndoagbiakehnaaGreat
open Go.VL Go.Proofs
theorem Aw {σ : ae} {i:VL.Id} {x:Rat} {b t:Bool} (h : σ i=some ⟨[QV x],4,b⟩):View σ (.osl i 4 0 1 t) (EV x):=iT h rfl (gU x)
theorem YH {σ : ae} {i:VL.Id} {x y:Rat} {b t:Bool} (h : σ i=some ⟨[NV x,NV y],2,b⟩):View σ (.osl i 2 0 2 t) (.sl 2 [NV x,NV y]):=kr h rfl rfl (eg x) (eg y)
theorem vT {σ : ae} {a b:AV} {e:Int} (h:View σ a b):View σ (.tup [a, .int .i64 e]) (.tup [b, .int .i64 e]):=View.tup (ah.cons h (ah.cons (View.pure (af.int _ _)) ah.nil))
theorem vN0 {σ : ae} {i:VL.Id} {x:Rat} {b t:Bool} (h : σ i=some ⟨[QV x],4,b⟩):View σ (.agg [.nils, .osl i 4 0 1 t]) (NV x):=View.agg (ah.cons (View.pure af.nils) (ah.cons (Aw h) ah.nil))
theorem vwN {i:VL.Id} {x y:Rat}:ah (ae.of [(i,⟨[NV x,NV y],2,false⟩)]) [.osl i 2 0 2 false] [.sl 2 [NV x,NV y]]:=ah.cons (YH (b:=false) (by simp [ae.of])) ah.nil
instance {x y:Rat}:PU (.sl 2 [NV x,NV y]):=PU.slice (by
 intro c hc
 simp only [flat,List.flatMap_cons,List.flatMap_nil,List.append_nil,List.mem_append] at hc
 rcases hc with hc | hc
 . exact eg x c hc
 . exact eg y c hc) (by intro c hc ρ;simp at hc;rcases hc with rfl | rfl<;>exact PU.fix ρ)
section
variable (G:Nat->Option (List AV))
theorem tn (q:Rat) (hq:Sm 100000 q):VP Tryz.prog G 236 [EV q, .int .i64 1] (.bool true):=by
 have n1:VP Tryz.prog G 263 [QV q] (.bool false):=vt [hc (tG G q hq)] (by kernel_rfl)
 have h1:VP Tryz.prog G 284 [EV q, .fn (.func 263) [] []] (.int .i64 (-1)):=vt [hc n1] (by kernel_rfl)
 have h2:VP Tryz.prog G 262 [EV q, .fn (.func 263) [] []] (.bool false):=vt [hc h1] (by kernel_rfl)
 exact vt [hc h2] (by kernel_rfl)
theorem trd:VP Tryz.prog G 235 [.nils] (.bool true):=vt [] (by kernel_rfl)
theorem tF (q:Rat) (hq:Sm 100000 q):VP Tryz.prog G 202 [.nils,EV q] (.bool true):=vt [hc (trd G),hc (tn G q hq)] (by kernel_rfl)
theorem tf (a b:Rat) (ha:Sm 100000 a) (hb:Sm 100000 b):VP Tryz.prog G 208 [.nils,EV a,EV b] (.bool true):=vt [hc (tF G a ha),hc (tn G b hb)] (by kernel_rfl)
theorem adw (a b:Rat) (ha:Sm 100000 a) (hb:Sm 100000 b):VP Tryz.prog G 209 [EV a,EV b] (EV (a+b)):=VP.dm hN [hc (xS G a b ha hb)] [([3],⟨[QV (a+b)],4,false⟩)] (.osl [3] 4 0 1 false) (by kernel_rfl) (fun σ h=>Aw (h ([3],⟨[QV (a+b)],4,false⟩) (by simp)))
theorem ai3 (a b:Rat) (ha:Sm 100000 a) (hb:Sm 100000 b):VP Tryz.prog G 155 [.nils,EV a,EV b] (EV (a+b)):=vt [hc (tf G a b ha hb),hc (adw G a b ha hb)] (by kernel_rfl)
theorem ai4 (a b:Rat) (ha:Sm 100000 a) (hb:Sm 100000 b):VP Tryz.prog G 206 [.nils,EV a,EV b] (EV (a*b)):=by
 have h:VP Tryz.prog G 242 [.nils,EV a,EV b] (EV (a*b)):=VP.dm hN [hc (YE G a b ha hb)] [([12],⟨[QV (a*b)],4,false⟩)] (.osl [12] 4 0 1 false) (by kernel_rfl) (fun σ h=>Aw (h ([12],⟨[QV (a*b)],4,false⟩) (by simp)))
 exact vt [hc (tf G a b ha hb),hc h] (by kernel_rfl)
theorem qa (q:Rat) (hq:Sm 100000 q):VP Tryz.prog G 149 [QV q] (QV q):=vt [hc (c95 G q.num.natAbs (by have:=hq.1;omega)),hc (c95 G q.den (by have:=hq.2;omega))] (by kernel_rfl)
theorem adx (q:Rat) (hq:Sm 100000 q):VP Tryz.prog G 82 [QV q] (NV q):=VP.dm hN [hc (qa G q hq)] [([4],⟨[QV q],4,false⟩)] (.agg [.nils, .osl [4] 4 0 1 false]) (by kernel_rfl) (fun σ h=>vN0 (h ([4],⟨[QV q],4,false⟩) (by simp)))
theorem IE:VP Tryz.prog G 191 [.nils, .nils] (.bool true):=by
 have h:VP Tryz.prog G 224 [.nils, .nils, .fn (.func 192) [] []] (.bool true):=vt [] (by kernel_rfl)
 exact vt [hc h] (by kernel_rfl)
theorem YI (q:Rat):VP Tryz.prog G 231 [EV q] (EV q):=VP.dm hN [] [([5],⟨[QV q],4,false⟩)] (.osl [5] 4 0 1 false) (by kernel_rfl) (fun σ h=>Aw (h ([5],⟨[QV q],4,false⟩) (by simp)))
theorem ady (q:Rat):VP Tryz.prog G 197 [.nils,EV q] (EV q):=vt [hc (YI G q)] (by kernel_rfl)
theorem ai5 (q:Rat) (hq:Sm 100000 q):VP Tryz.prog G 201 [EV q] (EV q):=VP.dm hN [hc (qa G q hq)] [([3],⟨[QV q],4,false⟩)] (.osl [3] 4 0 1 false) (by kernel_rfl) (fun σ h=>Aw (h ([3],⟨[QV q],4,false⟩) (by simp)))
theorem YJ (q:Rat) (hq:Sm 100000 q):VP Tryz.prog G 147 [NV q] (NV q):=vt [hc (ai5 G q hq)] (by kernel_rfl)
theorem V0 (a b:Rat) (ha:Sm 100000 a) (hb:Sm 100000 b):VP Tryz.prog G 193 [.sl 2 [NV a,NV b]] (.tup [.sl 2 [NV a,NV b], .int .i64 0]):=by
 have h:VP Tryz.prog G 228 [.sl 2 [NV a,NV b]] (.tup [.nils, .int .i64 0]):=vt [hc (IE G),hc (IE G)] (by kernel_rfl)
 exact VP.dm hN [hc h,hc (IE G),hc (ady G a),hc (YJ G a ha),hc (IE G),hc (ady G b),hc (YJ G b hb)] [([65],⟨[NV a,NV b],2,false⟩)] (.tup [.osl [65] 2 0 2 false, .int .i64 0]) (by kernel_rfl) (fun σ h=>vT (YH (h ([65],⟨[NV a,NV b],2,false⟩) (by simp))))
theorem V1 (f:Nat) (a b c:Rat) (ha:Sm 100000 a) (hb:Sm 100000 b) (h:VP Tryz.prog G f [.nils,EV a,EV b] (EV c)):VP Tryz.prog G 154 [NV a,NV b, .fn (.func f) [] []] (.tup [NV c, .int .i64 0]):=vt [bm [([6],⟨[NV a,NV b],2,false⟩)] (V0 G a b ha hb) vwN,hc h] (by kernel_rfl)
theorem MY (a b:Rat) (ha:Sm 100000 a) (hb:Sm 100000 b):VP Tryz.prog G 86 [NV a,NV b] (.tup [NV (a+b), .int .i64 0]):=vt [hc (V1 G 155 a b _ ha hb (ai3 G a b ha hb))] (by kernel_rfl)
theorem DA (a b:Rat) (ha:Sm 100000 a) (hb:Sm 100000 b):VP Tryz.prog G 152 [NV a,NV b] (.tup [NV (a*b), .int .i64 0]):=vt [hc (V1 G 206 a b _ ha hb (ai4 G a b ha hb))] (by kernel_rfl)
theorem V3 (f:Nat) (a b r:Q2) (h1:VP Tryz.prog G f [NV a.1,NV b.1] (.tup [NV r.1, .int .i64 0])) (h2:VP Tryz.prog G f [NV a.2,NV b.2] (.tup [NV r.2, .int .i64 0])):VP Tryz.prog G 156 [V2 a,V2 b, .fn (.func f) [] []] (.tup [V2 r, .int .i64 0]):=vt [hc h1,hc h2] (by kernel_rfl)
theorem ai6 (a b:Q2) (ha:bl 100000 a) (hb:bl 100000 b):VP Tryz.prog G 158 [V2 a,V2 b] (.tup [V2 (jW a b), .int .i64 0]):=vt [hc (V3 G 86 a b (jW a b) (MY G _ _ ha.1 hb.1) (MY G _ _ ha.2 hb.2))] (by kernel_rfl)
theorem YK (a:Q2) (n:Rat) (ha:bl 100000 a) (hn:Sm 100000 n):VP Tryz.prog G 159 [V2 a,NV n] (.tup [V2 (jN a n), .int .i64 0]):=vt [hc (V3 G 152 a (n,n) (jN a n) (DA G _ _ ha.1 hn) (DA G _ _ ha.2 hn))] (by kernel_rfl)
theorem adz (a:Q2):aC Tryz.prog G 142 [V2 a, .int .i64 0] (V2 a):=aC.tr hN [] (by kernel_rfl)
theorem ai7:PR Tryz.prog G 89:=fun a b ha hb=>aC.tr hN [hc (ai6 G a b (ha.mono (by omega)) (hb.mono (by omega))),au [1] (adz G (jW a b))] (by kernel_rfl)
theorem YL:Dq Tryz.prog G 90:=fun a n ha hn=>aC.tr hN [hc (YK G a n (ha.mono (by omega)) (hn.mono (by omega))),au [1] (adz G (jN a n))] (by kernel_rfl)
theorem r6R (q:Rat) (hq:Sm 100000 q):VP Tryz.prog G 249 [EV q, .int .i64 1] (.bool true):=vt [hc (tH G q hq)] (by kernel_rfl)
theorem r6T:VP Tryz.prog G 248 [.nils] (.bool true):=vt [] (by kernel_rfl)
theorem r6F (q:Rat) (hq:Sm 100000 q):VP Tryz.prog G 215 [.nils,EV q] (.bool true):=vt [hc (r6T G),hc (r6R G q hq)] (by kernel_rfl)
theorem adA (a b:Rat) (ha:Sm 100000 a) (hb:Sm 100000 b):VP Tryz.prog G 172 [.nils,EV a,EV b] (EV (a+b)):=VP.dm hN [hc (Ac G a b ha hb)] [([18],⟨[QV (a+b)],4,false⟩)] (.osl [18] 4 0 1 false) (by kernel_rfl) (fun σ h=>Aw (h ([18],⟨[QV (a+b)],4,false⟩) (by simp)))
theorem adB (a b:Rat) (ha:Sm 100000 a) (hb:Sm 100000 b):VP Tryz.prog G 171 [.nils,EV a,EV b] (EV (a*b)):=VP.dm hN [hc (Ud G a b ha hb)] [([11],⟨[QV (a*b)],4,false⟩)] (.osl [11] 4 0 1 false) (by kernel_rfl) (fun σ h=>Aw (h ([11],⟨[QV (a*b)],4,false⟩) (by simp)))
theorem adC (a:Rat) (ha:Sm 100000 a):VP Tryz.prog G 101 [.nils,EV a] (EV (-a)):=VP.dm hN [hc (GL G a ha)] [([14],⟨[QV (-a)],4,false⟩)] (.osl [14] 4 0 1 false) (by kernel_rfl) (fun σ h=>Aw (h ([14],⟨[QV (-a)],4,false⟩) (by simp)))
theorem r9L (a:Rat):VP Tryz.prog G 254 [.nils,EV a] (EV a):=VP.dm hN [] [([3],⟨[QV a],4,false⟩)] (.osl [3] 4 0 1 false) (by kernel_rfl) (fun σ h=>Aw (h ([3],⟨[QV a],4,false⟩) (by simp)))
theorem r9B:VP Tryz.prog G 252 [.nils, .nils] (.bool true):=vt [] (by kernel_rfl)
theorem r9J (a b:Rat):VP Tryz.prog G 220 [.sl 2 [NV a,NV b]] (.tup [.sl 2 [NV a,NV b], .int .i64 0]):=VP.dm hN [hc (r9B G),hc (r9B G),hc (r9B G),hc (r9L G a),hc (r9B G),hc (r9L G b)] [([135],⟨[NV a,NV b],2,false⟩)] (.tup [.osl [135] 2 0 2 false, .int .i64 0]) (by kernel_rfl) (fun σ h=>vT (YH (h ([135],⟨[NV a,NV b],2,false⟩) (by simp))))
theorem r9T (a b:Rat):VP Tryz.prog G 170 [NV a,NV b] (.tup [NV a,NV b, .int .i64 0]):=vt [bm [([7],⟨[NV a,NV b],2,false⟩)] (r9J G a b) vwN] (by kernel_rfl)
theorem Cj (a b:Rat) (ha:Sm 100000 a) (hb:Sm 100000 b):VP Tryz.prog G 106 [NV a,NV b] (.tup [NV (a+b), .int .i64 0]):=vt [hc (r9T G a b),hc (adA G a b ha hb)] (by kernel_rfl)
theorem Ad (a b:Rat) (ha:Sm 100000 a) (hb:Sm 100000 b):VP Tryz.prog G 105 [NV a,NV b] (.tup [NV (a*b), .int .i64 0]):=vt [hc (r9T G a b),hc (adB G a b ha hb)] (by kernel_rfl)
theorem xE (a:Rat) (ha:Sm 100000 a):VP Tryz.prog G 43 [NV a] (NV (-a)):=vt [hc (adC G a ha)] (by kernel_rfl)
theorem adD (a b:Rat) (ha:Sm 100000 a) (hb:Sm 100000 b):VP Tryz.prog G 108 [NV a,NV b] (.tup [NV (a-b), .int .i64 0]):=by rw [Rat.sub_eq_add_neg];exact vt [hc (xE G b hb),hc (Cj G a (-b) ha hb.neg)] (by kernel_rfl)
theorem r7S (a:Rat) (ha:Sm 100000 a):VP Tryz.prog G 166 [.nils,EV a] (.int .i64 (az a)):=vt [hc (GK G a ha)] (by kernel_rfl)
theorem kt (a:Rat) (ha:Sm 100000 a):VP Tryz.prog G 42 [NV a] (.int .i64 (az a)):=by
 have h:VP Tryz.prog G 100 [.nils,EV a] (.int .i64 (az a)):=vt [hc (r7S G a ha)] (by kernel_rfl)
 exact vt [hc h] (by kernel_rfl)
theorem YM (a b:Rat) (ha:Sm 45000 a) (qh:Sm 45000 b):VP Tryz.prog G 18 [NV a,NV b] (.bool (decide (a=b))):=by
 have h:VP Tryz.prog G 63 [NV a,NV b] (.tup [.int .i64 (az (a-b)), .int .i64 0]):=vt [hc (adD G a b (ha.mono (by omega)) (qh.mono (by omega))),hc (kt G _ ((ha.sub qh).mono (by omega)))] (by kernel_rfl)
 have e:(az (a-b)==0)=decide (a=b):=(oR (a-b)).trans (decide_eq_decide.2 ⟨fun h=>by grind,fun h=>by grind⟩)
 exact vt [hc h,hb 17 e] (by kernel_rfl)
theorem r8R:VP Tryz.prog G 214 [.nils] (.bool true):=vt [] (by kernel_rfl)
theorem QC (a:Rat) (ha:Sm 100000 a):VP Tryz.prog G 175 [NV a] (.bool true):=vt [hc (r6F G a ha),hc (r8R G)] (by kernel_rfl)
theorem Ck (q:Rat):VP Tryz.prog G 16 [QV q] (NV q):=VP.dm hN [] [([3],⟨[QV q],4,false⟩)] (.agg [.nils, .osl [3] 4 0 1 false]) (by kernel_rfl) (fun σ h=>vN0 (h ([3],⟨[QV q],4,false⟩) (by simp)))
theorem KJ (v:Q2):VP Tryz.prog G 67 [QV v.1,QV v.2] (V2 v):=vt [hc (Ck G v.1),hc (Ck G v.2)] (by kernel_rfl)
theorem Ue:VP Tryz.prog G 173 [.int .i64 0, .int .i64 0] (.int .i64 0):=vt [] (by kernel_rfl)
theorem adE (v:Q2):VP Tryz.prog G 174 [NV v.1,NV v.2, .int .i64 0] (.tup [V2 v, .int .i64 0]):=vt [] (by kernel_rfl)
theorem QD (a b:Q2) (ha:bl 100000 a) (hb:bl 100000 b):VP Tryz.prog G 109 [V2 a,V2 b] (.tup [V2 (jW a b), .int .i64 0]):=vt [hc (Cj G _ _ ha.1 hb.1),hc (Cj G _ _ ha.2 hb.2),hc (Ue G),hc (adE G (jW a b))] (by kernel_rfl)
theorem YN (a:Q2) (ha:bl 100000 a):VP Tryz.prog G 114 [V2 a] (V2 (Kw a)):=vt [hc (xE G _ ha.1),hc (xE G _ ha.2)] (by kernel_rfl)
theorem QE (a b:Q2) (ha:bl 100000 a) (hb:bl 100000 b):VP Tryz.prog G 56 [V2 a,V2 b] (.tup [V2 (bR a b), .int .i64 0]):=by
 have e:bR a b=jW a (Kw b):=by unfold bR jW Kw;simp only [Rat.sub_eq_add_neg]
 rw [e]
 exact vt [hc (YN G b hb),hc (QD G a (Kw b) ha ⟨hb.1.neg,hb.2.neg⟩)] (by kernel_rfl)
theorem QF (a:Q2) (n:Rat) (ha:bl 100000 a) (hn:Sm 100000 n):VP Tryz.prog G 110 [V2 a,NV n] (.tup [V2 (jN a n), .int .i64 0]):=vt [hc (Ad G _ _ ha.1 hn),hc (Ad G _ _ ha.2 hn),hc (Ue G),hc (adE G (jN a n))] (by kernel_rfl)
theorem DB (a:Q2) (ha:bl 100000 a):VP Tryz.prog G 116 [V2 a] (V2 (-a.2,a.1)):=vt [hc (xE G _ ha.2)] (by kernel_rfl)
theorem IF (a b:Q2) (ha:bl 20000 a) (hb:bl 20000 b):VP Tryz.prog G 107 [V2 a,V2 b] (.tup [NV (cX a b), .int .i64 0]):=vt [hc (Ad G a.1 b.1 (ha.1.mono (by omega)) (hb.1.mono (by omega))),hc (Ad G a.2 b.2 (ha.2.mono (by omega)) (hb.2.mono (by omega))),hc (Cj G (a.1*b.1) (a.2*b.2) ((ha.1.mul hb.1).mono (by omega)) ((ha.2.mul hb.2).mono (by omega)))] (by kernel_rfl)
theorem qb (a b:Q2) (ha:bl 45000 a) (hb:bl 45000 b):VP Tryz.prog G 19 [V2 a,V2 b] (.bool (decide (a=b))):=by
 have h1:=YM G _ _ ha.1 hb.1
 have h2:=YM G _ _ ha.2 hb.2
 by_cases e1:a.1=b.1
 . rw [decide_eq_true e1] at h1
   have e:decide (a.2=b.2)=decide (a=b):=decide_eq_decide.2 ⟨fun h=>Prod.ext e1 h,fun h=>by rw [h]⟩
   rw [e] at h2
   exact vt [hc h1,hc h2] (by kernel_rfl)
 . rw [decide_eq_false e1] at h1
   rw [decide_eq_false (fun h=>e1 (by rw [h]) : ¬ a=b)]
   exact vt [hc h1] (by kernel_rfl)
theorem Ae (a:Q2) (ha:bl 100000 a):VP Tryz.prog G 112 [V2 a] (.bool true):=vt [hc (QC G _ ha.1),hc (QC G _ ha.2)] (by kernel_rfl)
theorem KL:aC Tryz.prog G 165 [.int .i64 0] (.tup []):=aC.tr hN [] (by kernel_rfl)
theorem YO (a:Q2):aC Tryz.prog G 97 [V2 a, .int .i64 0] (V2 a):=aC.tr hN [au [1] (KL G)] (by kernel_rfl)
theorem YP (a:Rat):aC Tryz.prog G 98 [NV a, .int .i64 0] (NV a):=aC.tr hN [au [1] (KL G)] (by kernel_rfl)
theorem adF:PR Tryz.prog G 51:=fun a b ha hb=>aC.tr hN [hc (QD G a b (ha.mono (by omega)) (hb.mono (by omega))),au [1] (YO G (jW a b))] (by kernel_rfl)
theorem wI:VH Tryz.prog G 40:=fun a b ha hb=>aC.tr hN [hc (QE G a b (ha.mono (by omega)) (hb.mono (by omega))),au [1] (YO G (bR a b))] (by kernel_rfl)
theorem YQ:Dq Tryz.prog G 52:=fun a n ha hn=>aC.tr hN [hc (QF G a n (ha.mono (by omega)) (hn.mono (by omega))),au [1] (YO G (jN a n))] (by kernel_rfl)
theorem DC (a:Q2) (ha:bl 20000 a):aC Tryz.prog G 45 [V2 a] (NV (cX a a)):=by
 have h:VP Tryz.prog G 103 [V2 a] (.tup [NV (cX a a), .int .i64 0]):=vt [hc (IF G a a ha ha)] (by kernel_rfl)
 exact aC.tr hN [hc h,au [1] (YP G (cX a a))] (by kernel_rfl)
theorem adG (a b:Q2) (ha:bl 5000 a) (hb:bl 5000 b):aC Tryz.prog G 15 [V2 a,V2 b] (NV (F9 a b)):=aC.tr hN [au [1] (wI G a b ha hb),au [1] (DC G (bR a b) ((ha.sub hb).mono (by omega)))] (by kernel_rfl)
end
end Go.Proofs.YtndoagbiakehnaaGreat
end

section
set_option linter.unusedSimpArgs false
set_option linter.unusedVariables false
set_option maxRecDepth 100000
namespace Go.VL
open Go.Lib
theorem MZ {cs:List CX} {x:NX} (h:x∈named cs):∃ i,i<cs.length/\x.name=[107,47]++decDigits i/\x.c∈cs:=by
 unfold named at h
 obtain ⟨i,hi,e⟩:=List.mem_mapIdx.1 h
 subst e
 exact ⟨i,hi,rfl,List.getElem_mem hi⟩
section
variable {P:Program} {G:Nat->Option (List AV)}
theorem DF {f fc:FuncId} (h:Has P f (eN fc)) (ds:List DX) (h6:6<ds.length):VP P G f [Eg ds, .int .i64 6] (.tup [.nils, .bool false]) :=
 VP.tr h [hb 13 (ai (by simp;omega):decide (((ds.map DX.av).length:Int)>6)=true)] (by kernel_rfl)
end
end Go.VL
end

section
set_option maxRecDepth 100000
namespace Go.Proofs.YtndoagbiakehnaaGreat
open Go.VL Go.Proofs Go.Lib
section
variable (G:Nat->Option (List AV))
theorem adH (c:UInt8):VP Tryz.prog G 136 [eH c] (.bool (cy c)):=Dx c
theorem ai8 (c:UInt8):VP Tryz.prog G 189 [eH c] (.bool (gS c)):=GD c
theorem adI (c:UInt8):VP Tryz.prog G 138 [eH c] (.bool (cD c)):=Iz (adH G) (ai8 G) c
theorem adJ (s:List UInt8) (hs:s.length<9223372036854775807):VP Tryz.prog G 137 [.str s, .fn (.func 138) [] []] (.int .i64 (dZ cD s)):=S7 zx (adI G) s hs
theorem QG (s:List UInt8):VP Tryz.prog G 72 [.str s] (.bool (dB s)):=L3 wo (adH G) (adJ G) s
theorem adK:Has Tryz.prog 210 kP:=mJ
theorem adL:Has Tryz.prog 211 lC:=nK
theorem adM (s:List UInt8) (hs:s.length<9223372036854775807):VP Tryz.prog G 164 [.str s, .int .i64 0] (.int .i64 ((oJ s:Nat):Int)):=Tu om (FC adK) (HN adL) s hs
theorem adN (s:List UInt8):VP Tryz.prog G 95 [.str s] (.bool (dB s)):=H9 mI (adM G) s
theorem QH:Kz Tryz.prog G 113:=fun x hx=>by
 have h1:=Sm.F9 hx.1 hx.2.2
 have h2:=Sm.F9 hx.2.1 hx.2.2
 exact Gp x (qb G _ _ (hx.1.mono (by omega)) (hx.2.1.mono (by omega))) (adG G _ _ hx.1 hx.2.2) (adG G _ _ hx.2.1 hx.2.2) (kt G _ (h1.mono (by omega))) (YM G _ _ (h1.mono (by omega)) (h2.mono (by omega)))
theorem cAt (p:Int × Int) (u:Nat) (hp:VF p) (hu:u<256):VP Tryz.prog G 133 [I2 p, .int .u8 ((u:Nat):Int)] (V2 (qv p u)):=Qx (VZ G) (KJ G) p hp u hu
theorem adO (n:Nat) (hn:n<256):VP Tryz.prog G 134 [.int .u8 (n:Int)] (V2 (oP (n%16))):=Mt ou (VZ G) (KJ G) n hn
theorem YR:VP Tryz.prog G 25 [.int .i64 0, .int .i64 0] (V2 (0,0)):=vk 0 0 (jf G 0 (by decide) (by decide)) (jf G 0 (by decide) (by decide)) (KJ G (0,0))
theorem YS (d:DX) (hd:d.Ok):VP Tryz.prog G 69 [d.av] (.tup [d.fx.av, .bool d.fx.valid]):=GF d hd (cAt G) (YR G) (wI G) (adO G) (YQ G) (fun a ha=>DB G a (ha.mono (by omega))) (adF G) (QH G)
theorem ai9 (n:Nat) (hn:n<1000):VP Tryz.prog G 28 [.int .i64 (n:Int)] (.str (decDigits n)):=Gb mM n (Ga mL n hn)
def xT (ds:List DX):Bool:=decide (ds.length<=6) && !ds.any fun d => !d.fx.valid
def made (ds:List DX):List CX:=if xT ds=true then ds.map DX.fx else []
theorem q8 {ds:List DX} (h:xT ds=true):ds.length<=6/\∀ d∈ds,d.fx.valid=true:=by
 unfold xT at h
 simp only [Bool.and_eq_true,decide_eq_true_eq,Bool.not_eq_true',List.any_eq_false] at h
 exact ⟨h.1,fun d hd=>by simpa using h.2 d hd⟩
theorem Uf (ds:List DX) (hd:∀ d∈ds,d.Ok):VP Tryz.prog G 27 [Eg ds, .int .i64 6] (if xT ds=true then .tup [VI (made ds), .bool true] else .tup [.nils, .bool false]):=by
 by_cases h6:6<ds.length
 . have:xT ds=false:=by unfold xT;rw [decide_eq_false (by omega)];rfl
   rw [this,if_neg (by decide)]
   exact DF ji ds h6
 . have h:=Gh ji ds (fun d hm=>YS G d (hd d hm)) (by omega)
   unfold made
   by_cases hf:xT ds=true
   . rw [if_pos hf,if_pos hf]
     rw [if_neg] at h
     . exact h
     . rintro (h1 | h1)
       . exact h6 h1
       . obtain ⟨d,hd,hv⟩:=List.any_eq_true.1 h1
         rw [(q8 hf).2 d hd] at hv;simp at hv
   . rw [if_neg hf]
     rw [if_pos] at h
     . exact h
     . right
       unfold xT at hf
       rw [decide_eq_true (by omega),Bool.true_and] at hf
       simpa using hf
theorem adP (ds:List DX) (hd:∀ d∈ds,d.Ok):VP Tryz.prog G 6 [Eg ds] (.tup [lg (named (made ds)), .bool (xT ds)]) :=
 Mv ov ds (xT ds) (made ds) (fun h=>by unfold made;rw [h];rfl) (by
   unfold made
   split
   . rename_i h;rw [List.length_map];exact (q8 h).1
   . exact Nat.zero_le _) (Uf G ds hd) (ai9 G)
theorem M0 {ds:List DX} (hd:∀ d∈ds,d.Ok) (hf:xT ds=true):(named (made ds)).length<=6/\∀ z∈named (made ds),z.c.valid=true/\z.c.Sm 20/\z.name.length<=10:=by
 have hm:made ds=ds.map DX.fx:=by unfold made;rw [if_pos hf]
 refine ⟨by unfold named;rw [List.length_mapIdx,hm,List.length_map];exact (q8 hf).1,fun z hz => ?_⟩
 obtain ⟨i,hi,hn,hc⟩:=MZ hz
 rw [hm] at hc hi
 obtain ⟨d,Xg,e⟩:=List.mem_map.1 hc
 refine ⟨by rw [<- e];exact (q8 hf).2 d Xg,by rw [<- e];exact Gd (hd d Xg), ?_⟩
 have:=Yn (i:=i) (by rw [List.length_map] at hi;have:=(q8 hf).1;omega)
 rw [hn];simp;omega
end
end Go.Proofs.YtndoagbiakehnaaGreat
end

section
set_option maxRecDepth 100000
namespace Go.Proofs.YtndoagbiakehnaaGreat
open Go.VL Go.Proofs Go.Lib
theorem QI {k j:Nat} (h:k<32*j):aa (2 ^ k)<=j:=cK (by
 have h32:ak=2 ^ 32:=rfl
 rw [h32, <- Nat.pow_mul]
 exact Nat.pow_lt_pow_right (by decide) h)
section
variable (G:Nat->Option (List AV))
theorem aja (w:Nat) (h:w<ak):VP Tryz.prog G 318 [.int .u32 (w:Int)] (.int .i64 (ee w:Int)):=FO lQ w h
theorem IG (z:Int) (s:Nat) (hz:0<z) (hw:aa z.natAbs<=400) (hs:iq z.natAbs s):VP Tryz.prog G 316 [IV z] (.tup [IV (s:Int), .int .i64 0]):=by
 have Nv:z.natAbs≠0:=by omega
 obtain ⟨b,hb,qh,hB⟩:=Qq (G:=G) z Nv (by omega) (kp (t145 G) z.natAbs (by omega)) (fun w h=>aja G w h)
 have o8:=T9 G z (by omega)
 rw [Int.sign_eq_one_of_pos hz] at o8
 have hx:aa (2 ^ (b/2+1))<=202:=QI (by omega)
 have hle:∀ n,n<=2 ^ (b/2+1)->aa n<=202:=fun n h=>Nat.le_trans (aP h) hx
 have Kk:∀ n,aa (z.natAbs/n)<=400:=fun n=>Nat.le_trans (aP (Nat.div_le_self _ _)) hw
 have pL:∀ n,n<=2 ^ (b/2+1)->aa (n+z.natAbs/n)<=401:=fun n h=>jd (Nat.le_trans (hle n h) (by omega)) (Kk n)
 have adQ:∀ n,n<=2 ^ (b/2+1)->aa ((n+z.natAbs/n)/2)<=401:=fun n h=>Nat.le_trans (aP (Nat.div_le_self _ _)) (pL n h)
 have Xk:aa s<=400:=Nat.le_trans (aP (by have:=hs.1;exact Nat.le_trans (Nat.le_mul_self s) this)) hw
 exact MO z s b hz hs hb (by omega) o8 hB (Gy (b/2+1) (by omega)) (kp (t145 G) z.natAbs (by omega))
   (fun n h0 h=>d164 G z.natAbs n (by omega) (by omega) (by have:=hle n h;omega)) (fun n _ h=>Yv G n _ (by have:=hle n h;omega) (by have:=Kk n;omega))
   (fun n _ h=>T5 kg (t145 G) _ (by have:=pL n h;omega)) (fun n _ h=>T8 G _ n (by have:=adQ n h;omega) (by have:=hle n h;omega)) (IC G false s (by omega))
end
end Go.Proofs.YtndoagbiakehnaaGreat
end

section
set_option maxRecDepth 100000
namespace Go.Proofs.YtndoagbiakehnaaGreat
open Go.VL Go.Proofs Go.Lib
theorem smq (q:Rat) (h:(decide (q.num.natAbs<4294967296)&&decide (q.den<4294967296))=true):Sm 5000 q:=by
 simp only [Bool.and_eq_true,decide_eq_true_eq] at h
 exact ⟨Nat.le_trans (cK (k:=1) (by rw [Nat.pow_one];exact h.1)) (by decide),Nat.le_trans (cK (k:=1) (by rw [Nat.pow_one];exact h.2)) (by decide)⟩
def qB (q:Rat):Bool:=decide (q.num.natAbs<4294967296)&&decide (q.den<4294967296)
def vB (v:Q2):Bool:=qB v.1&&qB v.2
theorem NB {q:Rat} (h:qB q=true):Sm 5000 q:=smq q h
theorem xU {v:Q2} (h:vB v=true):bl 5000 v:=by
 unfold vB at h
 simp only [Bool.and_eq_true] at h
 exact ⟨NB h.1,NB h.2⟩
theorem V4 {q:Rat} (h:Sm 5000 q):Sm 100000 q:=h.mono (by omega)
section
variable (G:Nat->Option (List AV))
theorem V5 (a:Rat) (ha:Sm 100000 a):VP Tryz.prog G 203 [EV a] (EV (-a)):=Qv a (GI G a ha)
theorem ajb (a:Rat) (ha:Sm 100000 a):VP Tryz.prog G 148 [.nils,EV a] (EV (-a)):=P6 a (tF G a ha) (V5 G a ha)
theorem ajc (a b:Rat) (ha:Sm 100000 a) (hb:Sm 100000 b):VP Tryz.prog G 157 [.nils,EV a,EV b] (EV (a-b)):=P4 a b (tf G a b ha hb) (V5 G b hb) (Qu a (-b) (xS G a (-b) ha hb.neg))
theorem YT:Sm 100000 (1:Rat):=V4 (NB (by decide +kernel))
theorem YU (a:Rat) (Qf:a≠0) (ha:Sm 100000 a):VP Tryz.prog G 207 [.nils,EV a] (.tup [EV (1/a), .int .i64 0]):=P5 a (tF G a ha) (Dy a (jo G 1 (by decide) (by decide)) (adu G 1 a Qf YT ha))
theorem M4 (a b:Rat) (ha:Sm 100000 a) (hb:Sm 100000 b):VP Tryz.prog G 88 [NV a,NV b] (.tup [NV (a-b), .int .i64 0]):=P8 a b _ (Ib tj a b _ (V0 G a b ha hb) (ajc G a b ha hb))
theorem DG (a:Rat) (ha:Sm 100000 a):VP Tryz.prog G 81 [NV a] (NV (-a)):=P9 a (YJ G a ha) (ajb G a ha)
theorem ajd (a b:Rat) (xR:b≠0) (ha:Sm 5000 a) (hb:Sm 5000 b):VP Tryz.prog G 153 [NV a,NV b] (.tup [NV (a*(1/b)), .int .i64 0]):=P7 a b _ (YU G b xR (V4 hb)) (DA G a (1/b) (V4 ha) ((Sm.div (NB (by decide +kernel):Sm 5000 1) hb (by omega)).mono (by omega)))
theorem adR:VP Tryz.prog G 234 [.nils] (.bool true):=Qa (jo G 0 (by decide) (by decide)) (F8 uV 0 (trd G) (tG G 0 (V4 (NB (by decide +kernel)))) jD (jo G 0 (by decide) (by decide))) (tF G 0 (V4 (NB (by decide +kernel))))
theorem GM (a:Rat) (ha:Sm 100000 a):VP Tryz.prog G 146 [.nils,EV a] (.int .i64 (az a)):=MQ a (Qw a (tF G a ha) (adR G)) (Mx a (xD G a ha))
theorem vv (a:Rat) (ha:Sm 100000 a):VP Tryz.prog G 80 [NV a] (.int .i64 (az a)):=My a (GM G a ha)
theorem nEq (a b:Rat) (ha:Sm 100000 a) (hb:Sm 100000 b):VP Tryz.prog G 140 [NV a,NV b] (.bool (decide (a=b))):=Ij a b (IE G) (Gj a b (Gi a b (rR a b (Ub G a b ha hb))))
theorem w16 {n:Nat} (h:n<100):aa n<=1:=cK (by rw [Nat.pow_one];unfold ak;omega)
theorem Ug:VP Tryz.prog G 316 [IV 16] (.tup [IV 4, .int .i64 0]):=IG G 16 4 (by omega) (Nat.le_trans (w16 (n:=16) (by decide)) (by decide)) (by unfold iq;decide)
end
end Go.Proofs.YtndoagbiakehnaaGreat
end

section
set_option maxRecDepth 100000
namespace Go.Proofs.YtndoagbiakehnaaGreat
open Go.VL Go.Proofs Go.Lib
section
variable (G:Nat->Option (List AV))
theorem YV:VP Tryz.prog G 316 [IV 1] (.tup [IV 1, .int .i64 0]):=IG G 1 1 (by omega) (Nat.le_trans (w16 (n:=1) (by decide)) (by decide)) (by unfold iq;decide)
theorem w4 {z:Int} (h:z.natAbs<100):aa z.natAbs<=400000:=Nat.le_trans (w16 h) (by decide)
theorem Uh:VP Tryz.prog G 302 [IV 16] (.tup [IV 4, .bool true]):=Gx 16 4 (Ug G) (MW G 4 4 (w4 (by decide)) (w4 (by decide))) (YB G 16 16 (w4 (by decide)) (w4 (by decide)))
theorem YW:VP Tryz.prog G 302 [IV 1] (.tup [IV 1, .bool true]):=Gx 1 1 (YV G) (MW G 1 1 (w4 (by decide)) (w4 (by decide))) (YB G 1 1 (w4 (by decide)) (w4 (by decide)))
theorem Ui:VP Tryz.prog G 287 [QV 16] (.tup [QV 4, .bool true]):=Gw 16 1 4 1 (Uh G) (YW G)
theorem sB {q:Rat} (h:qB q=true):Sm 100000 q:=V4 (NB h)
theorem sgB {q:Rat} {s:Int} (h:qB q=true) (e:az q=s):VP Tryz.prog G 146 [.nils,EV q] (.int .i64 s):=e▸GM G q (sB h)
theorem Uj:VP Tryz.prog G 151 [NV 16] (.tup [NV 4, .int .i64 0]):=Gv 16 4 (Ch 16 4 (tF G 16 (sB (by decide +kernel))) (q7) (sgB G (by decide +kernel) (by decide +kernel)) (xC 16 4 (z8 16 4 (Ui G)) (sgB G (by decide +kernel) (by decide +kernel))) (z7))
 (z9 4 (lR 4 (qa G 4 (sB (by decide +kernel)))))
theorem GN (a:Rat):aC Tryz.prog G 78 [NV a, .int .i64 0] (NV a):=TY a
theorem QJ (a b c:Q2) (h:bR a b=c:=by decide +kernel) (h1:(vB a&&vB b)=true:=by decide +kernel):aC Tryz.prog G 77 [V2 a,V2 b] (V2 c):=by
 simp only [Bool.and_eq_true] at h1
 have s1:=(xU h1.1).mono (k:=100000) (by omega)
 have s2:=(xU h1.2).mono (k:=100000) (by omega)
 subst h
 exact Dv a b _ (Gk a b _ (rK a b _ (M4 G _ _ s1.1 s2.1) (M4 G _ _ s1.2 s2.2))) (Aa)
theorem Cl (a b c:Q2) (h:jW a b=c:=by decide +kernel) (h1:(vB a&&vB b)=true:=by decide +kernel):aC Tryz.prog G 89 [V2 a,V2 b] (V2 c):=by
 simp only [Bool.and_eq_true] at h1
 subst h;exact ai7 G a b (xU h1.1) (xU h1.2)
theorem kSc (a c:Q2) (n:Rat) (h:jN a n=c:=by decide +kernel) (h1:(vB a&&qB n)=true:=by decide +kernel):aC Tryz.prog G 90 [V2 a,NV n] (V2 c):=by
 simp only [Bool.and_eq_true] at h1
 subst h;exact YL G a n (xU h1.1) (NB h1.2)
theorem Uk (a b c:Rat) (h:a*b=c:=by decide +kernel) (h1:(qB a&&qB b)=true:=by decide +kernel):aC Tryz.prog G 84 [NV a,NV b] (NV c):=by
 simp only [Bool.and_eq_true] at h1
 subst h;exact TZ a b _ (DA G a b (sB h1.1) (sB h1.2)) (GN G)
theorem GO (a b c:Rat) (h:a*(1/b)=c:=by decide +kernel) (h0:b≠0:=by decide +kernel) (h1:(qB a&&qB b)=true:=by decide +kernel):aC Tryz.prog G 85 [NV a,NV b] (NV c):=by
 simp only [Bool.and_eq_true] at h1
 subst h;exact T3 a b _ (ajd G a b h0 (NB h1.1) (NB h1.2)) (GN G)
theorem kAd (a b c:Rat) (h:a+b=c:=by decide +kernel) (h1:(qB a&&qB b)=true:=by decide +kernel):VP Tryz.prog G 86 [NV a,NV b] (.tup [NV c, .int .i64 0]):=by
 simp only [Bool.and_eq_true] at h1
 subst h;exact MY G a b (sB h1.1) (sB h1.2)
theorem kSb (a b c:Rat) (h:a-b=c:=by decide +kernel) (h1:(qB a&&qB b)=true:=by decide +kernel):VP Tryz.prog G 88 [NV a,NV b] (.tup [NV c, .int .i64 0]):=by
 simp only [Bool.and_eq_true] at h1
 subst h;exact M4 G a b (sB h1.1) (sB h1.2)
theorem Ul (a b:Q2) (c:Rat) (h:cX a b=c:=by decide +kernel) (h1:(vB a&&vB b&&qB (a.1*b.1)&&qB (a.2*b.2))=true:=by decide +kernel):VP Tryz.prog G 87 [V2 a,V2 b] (.tup [NV c, .int .i64 0]):=by
 simp only [Bool.and_eq_true] at h1
 obtain ⟨⟨⟨a1,a2⟩,a3⟩,a4⟩:=h1
 have s1:=(xU a1).mono (k:=100000) (by omega)
 have s2:=(xU a2).mono (k:=100000) (by omega)
 subst h
 exact KG a b (rK a b (a.1*b.1,a.2*b.2) (DA G _ _ s1.1 s2.1) (DA G _ _ s1.2 s2.2)) (MY G _ _ (sB a3) (sB a4))
theorem QK (a:Q2) (h:cX a a=16:=by decide +kernel) (h1:(vB a&&vB a&&qB (a.1*a.1)&&qB (a.2*a.2))=true:=by decide +kernel):VP Tryz.prog G 83 [V2 a] (.tup [NV 4, .int .i64 0]) :=
 T4 a 4 (z6 a (Ul G a a _ rfl h1)) (h▸Uj G)
theorem V6 (a:Q2) (h1:vB a=true:=by decide +kernel):VP Tryz.prog G 131 [V2 a] (V2 (-a.2,a.1)):=by
 have s1:=(xU h1).mono (k:=100000) (by omega)
 have hn:=DG G (-a.1) s1.1.neg
 rw [Rat.neg_neg] at hn
 exact Gu a (DG G _ s1.2) (Gt _ (DG G _ s1.1) hn)
theorem kCr (a b c:Q2) (r:Rat) (e:(-a.2,a.1)=c:=by decide +kernel) (h:cX c b=r:=by decide +kernel) (h0:vB a=true:=by decide +kernel) (h1:(vB c&&vB b&&qB (c.1*b.1)&&qB (c.2*b.2))=true:=by decide +kernel):VP Tryz.prog G 79 [V2 a,V2 b] (.tup [NV r, .int .i64 0]):=MM a b c r (e▸V6 G a h0) (Ul G c b r h h1)
theorem YX (q:Rat) (s:Int) (e:az q=s:=by decide +kernel) (h:qB q=true:=by decide +kernel):VP Tryz.prog G 80 [NV q] (.int .i64 s):=e▸vv G q (sB h)
theorem kFr (q:Rat) (h:qB q=true:=by decide +kernel):VP Tryz.prog G 82 [QV q] (NV q):=adx G q (sB h)
theorem kEq (a b:Q2) (r:Bool) (e:decide (a=b)=r:=by decide +kernel) (h1:(vB a&&vB b)=true:=by decide +kernel):VP Tryz.prog G 75 [V2 a,V2 b] (.bool r):=by
 simp only [Bool.and_eq_true] at h1
 have s1:=(xU h1.1).mono (k:=100000) (by omega)
 have s2:=(xU h1.2).mono (k:=100000) (by omega)
 exact e▸Cg a b (nEq G _ _ s1.1 s2.1) (nEq G _ _ s1.2 s2.2)
theorem kQs (q:Rat) (s:Int) (e:az q=s:=by decide +kernel) (h:qB q=true:=by decide +kernel):VP Tryz.prog G 32 [QV q] (.int .i64 s):=e▸xD G q (sB h)
end
end Go.Proofs.YtndoagbiakehnaaGreat
end

section
set_option maxRecDepth 100000
namespace Go.Proofs.YtndoagbiakehnaaGreat
open Go.VL Go.Proofs Go.Lib
def E1 (v:Q2):AV := .sl 4 [QV v.1,QV v.2]
def T1 (q:Rat):AV := .sl 1 [EV q]
theorem Kr {q:Rat}:(QV q).size=4:=rfl
instance {v:Q2}:PU (E1 v):=PU.slice (by intro c hc;simp only [flat,List.flatMap_cons,List.flatMap_nil,List.append_nil,List.mem_append] at hc;rcases hc with hc | hc;exact gU _ c hc;exact gU _ c hc) (by intro c hc ρ;simp at hc;rcases hc with rfl | rfl;exact PU.fix ρ;exact PU.fix ρ)
instance {q:Rat}:PU (T1 q):=PU.slice (by intro c hc;simp only [flat,List.flatMap_cons,List.flatMap_nil,List.append_nil] at hc;rcases List.mem_singleton.1 hc with rfl;exact b6 q) (by intro c hc ρ;simp at hc;subst hc;exact PU.fix ρ)
theorem yj {σ : ae} {i:VL.Id} {x y:Rat} {b t:Bool} (h : σ i=some ⟨[QV x,QV y],4,b⟩):View σ (.osl i 4 0 2 t) (E1 (x,y)):=kr h rfl rfl (gU x) (gU y)
def aR (q:Rat) (a b:Q2):Q2:=(a.1*b.1+a.2*b.2*q,a.1*b.2+a.2*b.1)
section
variable (G:Nat->Option (List AV))
theorem z1 (x:Rat) (hx:Sm 100000 x):VP Tryz.prog G 283 [QV x] (.bool (!decide (x=0))):=by
 have e:(az x != 0) = !decide (x=0):=by
   have:=oR x
   by_cases h:x=0
   . rw [decide_eq_true h] at this ⊢
     have:=of_decide_eq_true this
     simp [this]
   . rw [decide_eq_false h] at this ⊢
     have:=of_decide_eq_false this
     simp [this]
 exact vt [hc (xD G x hx),hb 5 e] (by kernel_rfl)
theorem cfE (f:Nat) (a:Q2) (p r:Bool) (h1:VP Tryz.prog G f [QV a.1] (.bool p)) (h2:VP Tryz.prog G f [QV a.2] (.bool r)):VP Tryz.prog G 262 [E1 a, .fn (.func f) [] []] (.bool (p||r)):=by
 cases p
 . cases r
   . have hi:VP Tryz.prog G 284 [E1 a, .fn (.func f) [] []] (.int .i64 (-1)):=vt [hc h1,hc h2] (by kernel_rfl)
     exact vt [hc hi] (by kernel_rfl)
   . have hi:VP Tryz.prog G 284 [E1 a, .fn (.func f) [] []] (.int .i64 1):=vt [hc h1,hc h2] (by kernel_rfl)
     exact vt [hc hi] (by kernel_rfl)
 . have hi:VP Tryz.prog G 284 [E1 a, .fn (.func f) [] []] (.int .i64 0):=vt [hc h1] (by kernel_rfl)
   exact vt [hc hi] (by kernel_rfl)
theorem Af (a:Q2) (ha:bl 100000 a):VP Tryz.prog G 259 [E1 a] (.bool (decide (a=(0,0)))):=by
 have h:=cfE G 283 a _ _ (z1 G a.1 ha.1) (z1 G a.2 ha.2)
 have e:(!(!decide (a.1=0) || !decide (a.2=0)))=decide (a=(0,0)):=by
   rw [Bool.not_or,Bool.not_not,Bool.not_not, <- Bool.decide_and]
   exact decide_eq_decide.2 ⟨fun h=>Prod.ext h.1 h.2,fun h=>by rw [h];exact ⟨rfl,rfl⟩⟩
 exact vt [hc h,hb 5 e] (by kernel_rfl)
theorem QL (a b:Q2) (ha:bl 50000 a) (hb:bl 50000 b):VP Tryz.prog G 209 [E1 a,E1 b] (E1 (a.1+b.1,a.2+b.2)) :=
 VP.dm hN [hc (xS G a.1 b.1 (ha.1.mono (by omega)) (hb.1.mono (by omega))),hc (xS G a.2 b.2 (ha.2.mono (by omega)) (hb.2.mono (by omega)))] [([3],⟨[QV (a.1+b.1),QV (a.2+b.2)],4,false⟩)] (.osl [3] 4 0 2 false) (by kernel_rfl) (fun σ h=>yj (h ([3],⟨[QV (a.1+b.1),QV (a.2+b.2)],4,false⟩) (by simp)))
theorem adS (a:Q2) (ha:bl 50000 a):VP Tryz.prog G 203 [E1 a] (E1 (-a.1, -a.2)) :=
 VP.dm hN [hc (GI G a.1 (ha.1.mono (by omega))),hc (GI G a.2 (ha.2.mono (by omega)))] [([3],⟨[QV (-a.1),QV (-a.2)],4,false⟩)] (.osl [3] 4 0 2 false) (by kernel_rfl) (fun σ h=>yj (h ([3],⟨[QV (-a.1),QV (-a.2)],4,false⟩) (by simp)))
theorem sP (a b:Rat) (ha:Sm 100000 a) (hb:Sm 100000 b):VP Tryz.prog G 242 [.sl 1 [],EV a,EV b] (EV (a*b)) :=
 VP.dm hN [hc (YE G a b ha hb)] [([12],⟨[QV (a*b)],4,false⟩)] (.osl [12] 4 0 1 false) (by kernel_rfl) (fun σ h=>Aw (h ([12],⟨[QV (a*b)],4,false⟩) (by simp)))
theorem QM (a b:Rat) (ha:Sm 100000 a) (hb:Sm 100000 b):VP Tryz.prog G 209 [EV a,EV b] (EV (a+b)) :=
 VP.dm hN [hc (xS G a b ha hb)] [([3],⟨[QV (a+b)],4,false⟩)] (.osl [3] 4 0 1 false) (by kernel_rfl) (fun σ h=>Aw (h ([3],⟨[QV (a+b)],4,false⟩) (by simp)))
theorem YY (a b:Rat) (ha:Sm 100000 a) (hb:Sm 100000 b) (p:VL.Id):aw Tryz.prog G 209 [EV a,EV b] p [] { val := .osl (3::p) 4 0 1 false,rd:=[],up:=[(3::p,some ⟨[QV (a+b)],4,false⟩)] } :=
 aw.tr (p:=p) (up:=[(3::p,⟨[QV (a+b)],4,false⟩)]) sL (fun _=>[]) [hc (xS G a b ha hb)] [EV a,EV b] [] (.osl [3,0] 4 0 1 false) [([3,0],⟨[QV (a+b)],4,false⟩)] (by kernel_rfl) (by rw [nE.fix]) rfl rfl (by simp only [aU,bh,bM,aT,bn,PU.fixed];rfl) (by simp) (by simp)
theorem DI (q:Rat):VP Tryz.prog G 269 [T1 q] (.tup [.sl 1 [],EV q]):=vt [] (by kernel_rfl)
theorem vz (a:Q2):VP Tryz.prog G 270 [E1 a] (.tup [EV a.1,EV a.2]):=vt [] (by kernel_rfl)
theorem KM:VP Tryz.prog G 267 [.int .i64 2] (E1 (0,0)) :=
 VP.dm hN [hc (jo G 0 (by decide) (by decide)),hc (jo G 0 (by decide) (by decide))] [([2],⟨[QV 0,QV 0],4,false⟩)] (.osl [2] 4 0 2 false) (by kernel_rfl) (fun σ h=>yj (h ([2],⟨[QV 0,QV 0],4,false⟩) (by simp)))
theorem oU {q:Rat} {a b:Q2} (h:a=(0,0)∨b=(0,0)):aR q a b=(0,0):=by
 unfold aR
 rcases h with rfl | rfl<;>refine Prod.ext ?_ ?_<;>simp only []<;>grind
theorem Cm (q:Rat) (a b:Q2) (hq:Sm 20000 q) (ha:bl 20000 a) (hb:bl 20000 b):VP Tryz.prog G 242 [T1 q,E1 a,E1 b] (E1 (aR q a b)):=by
 have za:=Af G a (ha.mono (by omega))
 have zb:=Af G b (hb.mono (by omega))
 by_cases a0:a=(0,0)
 . rw [decide_eq_true a0] at za
   rw [oU (.inl a0)]
   exact vt [hc za,hc (KM G)] (by kernel_rfl)
 rw [decide_eq_false a0] at za
 by_cases b0:b=(0,0)
 . rw [decide_eq_true b0] at zb
   rw [oU (.inr b0)]
   exact vt [hc za,hc zb,hc (KM G)] (by kernel_rfl)
 rw [decide_eq_false b0] at zb
 have m1:=sP G a.1 b.1 (ha.1.mono (by omega)) (hb.1.mono (by omega))
 have m2:=sP G a.2 b.2 (ha.2.mono (by omega)) (hb.2.mono (by omega))
 have m3:=sP G (a.2*b.2) q ((ha.2.mul hb.2).mono (by omega)) (hq.mono (by omega))
 have m4:=sP G a.1 b.2 (ha.1.mono (by omega)) (hb.2.mono (by omega))
 have m5:=sP G a.2 b.1 (ha.2.mono (by omega)) (hb.1.mono (by omega))
 have d1:=fun p=>YY G (a.1*b.1) (a.2*b.2*q) ((ha.1.mul hb.1).mono (by omega)) (((ha.2.mul hb.2).mul hq).mono (by omega)) p
 have d2:=QM G (a.1*b.2) (a.2*b.1) ((ha.1.mul hb.2).mono (by omega)) ((ha.2.mul hb.1).mono (by omega))
 exact VP.dm hN [hc za,hc zb,hc (DI G q),hc (vz G a),hc (vz G b),hc m1,hc m2,hc m3, .rel 209 _ [] _ (fun p _=>d1 p) (by intro p x hx;simp at hx),hc m4,hc m5,hc d2] [([56],⟨[QV (aR q a b).1,QV (aR q a b).2],4,false⟩)] (.osl [56] 4 0 2 false) (by kernel_rfl) (fun σ h=>yj (h ([56],⟨[QV (aR q a b).1,QV (aR q a b).2],4,false⟩) (by simp)))
def cj (q:Rat) (a:Q2):Rat:=a.1*a.1 + -(a.2*a.2*q)
def mO (q:Rat) (a:Q2):Q2:=(a.1*(1/cj q a), -(a.2*(1/cj q a)))
theorem YZ (a b:Rat) (ha:Sm 100000 a) (hb:Sm 100000 b) (p:VL.Id):aw Tryz.prog G 242 [.sl 1 [],EV a,EV b] p [] { val := .osl (12::p) 4 0 1 false,rd:=[],up:=[(12::p,some ⟨[QV (a*b)],4,false⟩)] } :=
 aw.tr (p:=p) (up:=[(12::p,⟨[QV (a*b)],4,false⟩)]) AU (fun _=>[]) [hc (YE G a b ha hb)] [.sl 1 [],EV a,EV b] [] (.osl [12,0] 4 0 1 false) [([12,0],⟨[QV (a*b)],4,false⟩)] (by kernel_rfl) (by rw [nE.fix]) rfl rfl (by simp only [aU,bh,bM,aT,bn,PU.fixed];rfl) (by simp) (by simp)
theorem QN (a:Rat) (ha:Sm 100000 a):VP Tryz.prog G 203 [EV a] (EV (-a)) :=
 VP.dm hN [hc (GI G a ha)] [([3],⟨[QV (-a)],4,false⟩)] (.osl [3] 4 0 1 false) (by kernel_rfl) (fun σ h=>Aw (h ([3],⟨[QV (-a)],4,false⟩) (by simp)))
theorem Y0 (q:Rat) (a:Q2) (hq:Sm 1000 q) (ha:bl 1000 a):VP Tryz.prog G 272 [T1 q,E1 a] (EV (cj q a)):=by
 have m1:=sP G a.1 a.1 (ha.1.mono (by omega)) (ha.1.mono (by omega))
 have m2:=sP G a.2 a.2 (ha.2.mono (by omega)) (ha.2.mono (by omega))
 have m3:=sP G (a.2*a.2) q ((ha.2.mul ha.2).mono (by omega)) (hq.mono (by omega))
 have s3:=(ha.2.mul ha.2).mul hq
 have m4:=QN G (a.2*a.2*q) (s3.mono (by omega))
 have m5:=QM G (a.1*a.1) (-(a.2*a.2*q)) ((ha.1.mul ha.1).mono (by omega)) (s3.neg.mono (by omega))
 exact vt [hc (DI G q),hc (vz G a),hc m1,hc m2,hc m3,hc m4,hc m5] (by kernel_rfl)
theorem DJ {q:Rat} {a:Q2} {j k:Nat} (hq:Sm j q) (ha:bl k a):Sm (4*k+j+1) (cj q a):=((ha.1.mul ha.1).add ((ha.2.mul ha.2).mul hq).neg).mono (by omega)
theorem V7 (a:Rat) (Qf:a≠0) (ha:Sm 100000 a):VP Tryz.prog G 243 [.sl 1 [],EV a] (.tup [EV (1/a), .bool true]) :=
 VP.dm hN [hc (jo G 1 (by decide) (by decide)),hc (adu G 1 a Qf YT ha)] [([17],⟨[QV (1/a)],4,false⟩)] (.tup [.osl [17] 4 0 1 false, .bool true]) (by kernel_rfl) (fun σ h=>View.tup (ah.cons (Aw (h ([17],⟨[QV (1/a)],4,false⟩) (by simp))) (ah.cons (View.pure (af.bool _)) ah.nil)))
theorem adT (q:Rat) (a:Q2) (h0:cj q a≠0) (hq:Sm 1000 q) (ha:bl 1000 a):VP Tryz.prog G 243 [T1 q,E1 a] (.tup [E1 (mO q a), .bool true]):=by
 have sn:=DJ hq ha
 have si:Sm 5002 (1/cj q a):=(Sm.div (Yp (a:=1) (by decide):Sm 1 (1:Rat)) sn (by omega)).mono (by omega)
 have hn:=Y0 G q a hq ha
 have hi:=V7 G (cj q a) h0 (sn.mono (by omega))
 have m1:=fun p=>YZ G a.1 (1/cj q a) (ha.1.mono (by omega)) (si.mono (by omega)) p
 have m2:=sP G a.2 (1/cj q a) (ha.2.mono (by omega)) (si.mono (by omega))
 have m3:=QN G (a.2*(1/cj q a)) ((ha.2.mul si).mono (by omega))
 exact VP.dm hN [hc (DI G q),hc hn,hc hi,hc (vz G a), .rel 242 _ [] _ (fun p _=>m1 p) (by intro p x hx;simp at hx),hc m2,hc m3] [([40],⟨[QV (mO q a).1,QV (mO q a).2],4,false⟩)] (.tup [.osl [40] 4 0 2 false, .bool true]) (by kernel_rfl) (fun σ h=>View.tup (ah.cons (yj (h ([40],⟨[QV (mO q a).1,QV (mO q a).2],4,false⟩) (by simp))) (ah.cons (View.pure (af.bool _)) ah.nil)))
theorem QO (a:Q2) (ha:bl 100000 a):VP Tryz.prog G 236 [E1 a, .int .i64 2] (.bool true):=by
 have n1:∀ x,Sm 100000 x->VP Tryz.prog G 263 [QV x] (.bool false):=fun x hx=>vt [hc (tG G x hx)] (by kernel_rfl)
 exact vt [hc (cfE G 263 a false false (n1 a.1 ha.1) (n1 a.2 ha.2))] (by kernel_rfl)
theorem QP (q:Rat) (hq:Sm 100000 q):VP Tryz.prog G 235 [T1 q] (.bool true):=vt [hc (tn G q hq)] (by kernel_rfl)
theorem tI (q:Rat) (a:Q2) (hq:Sm 100000 q) (ha:bl 100000 a):VP Tryz.prog G 202 [T1 q,E1 a] (.bool true):=vt [hc (QP G q hq),hc (QO G a ha)] (by kernel_rfl)
theorem IH (q:Rat) (a b:Q2) (hq:Sm 100000 q) (ha:bl 100000 a) (hb:bl 100000 b):VP Tryz.prog G 208 [T1 q,E1 a,E1 b] (.bool true):=vt [hc (tI G q a hq ha),hc (QO G b hb)] (by kernel_rfl)
theorem GQ (q:Rat) (a b:Q2) (hq:Sm 20000 q) (ha:bl 20000 a) (hb:bl 20000 b):VP Tryz.prog G 155 [T1 q,E1 a,E1 b] (E1 (a.1+b.1,a.2+b.2)):=vt [hc (IH G q a b (hq.mono (by omega)) (ha.mono (by omega)) (hb.mono (by omega))),hc (QL G a b (ha.mono (by omega)) (hb.mono (by omega)))] (by kernel_rfl)
theorem GR (q:Rat) (a b:Q2) (hq:Sm 20000 q) (ha:bl 20000 a) (hb:bl 20000 b):VP Tryz.prog G 157 [T1 q,E1 a,E1 b] (E1 (a.1 + -b.1,a.2 + -b.2)):=vt [hc (IH G q a b (hq.mono (by omega)) (ha.mono (by omega)) (hb.mono (by omega))),hc (adS G b (hb.mono (by omega))),hc (QL G a (-b.1, -b.2) (ha.mono (by omega)) ⟨hb.1.neg.mono (by omega),hb.2.neg.mono (by omega)⟩)] (by kernel_rfl)
theorem vA (q:Rat) (a b:Q2) (hq:Sm 20000 q) (ha:bl 20000 a) (hb:bl 20000 b):VP Tryz.prog G 206 [T1 q,E1 a,E1 b] (E1 (aR q a b)):=vt [hc (IH G q a b (hq.mono (by omega)) (ha.mono (by omega)) (hb.mono (by omega))),hc (Cm G q a b hq ha hb)] (by kernel_rfl)
theorem KN (q:Rat) (a:Q2) (h0:cj q a≠0) (hq:Sm 1000 q) (ha:bl 1000 a):VP Tryz.prog G 207 [T1 q,E1 a] (.tup [E1 (mO q a), .int .i64 0]):=vt [hc (tI G q a (hq.mono (by omega)) (ha.mono (by omega))),hc (adT G q a h0 hq ha)] (by kernel_rfl)
end
end Go.Proofs.YtndoagbiakehnaaGreat
end

section
set_option maxRecDepth 100000
namespace Go.Proofs.YtndoagbiakehnaaGreat
open Go.VL Go.Proofs Go.Lib
def N1 (q:Rat) (v:Q2):AV := .agg [T1 q,E1 v]
instance {q:Rat} {v:Q2}:PU (N1 q v):=by unfold N1;infer_instance
theorem gZ:Sm 100000 (0:Rat):=V4 (NB (by decide +kernel))
theorem bb (q:Rat) (v:Q2):∀ c∈(N1 q v).cells,af c:=by intro c hc;simp only [N1,AV.cells,List.mem_cons,List.not_mem_nil,or_false] at hc;rcases hc with rfl | rfl<;>exact PU.pure
theorem DK {k:Nat} {a b:AV} [h:PU a] [g:PU b] (ha:∀ c∈a.cells,af c) (hb:∀ c∈b.cells,af c):PU (.sl k [a,b]):=PU.slice (by
 intro c hc
 simp only [flat,List.flatMap_cons,List.flatMap_nil,List.append_nil,List.mem_append] at hc
 rcases hc with hc | hc
 . exact ha c hc
 . exact hb c hc) (by intro c hc ρ;simp at hc;rcases hc with rfl | rfl;exact h.fix ρ;exact g.fix ρ)
instance {x q:Rat} {v:Q2}:PU (.sl 2 [NV x,N1 q v]):=DK (eg x) (bb q v)
instance {x q:Rat} {v:Q2}:PU (.sl 2 [N1 q v,NV x]):=DK (bb q v) (eg x)
instance {q:Rat} {u v:Q2}:PU (.sl 2 [N1 q u,N1 q v]):=DK (bb q u) (bb q v)
section
variable (G:Nat->Option (List AV))
theorem QQ (a b:Rat) (ha:Sm 100000 a) (hb:Sm 100000 b):VP Tryz.prog G 192 [EV a,EV b] (.bool (decide (a=b))):=Gj a b (Gi a b (rR a b (Ub G a b ha hb)))
theorem tK (q:Rat):VP Tryz.prog G 191 [.nils,T1 q] (.bool false):=vt [] (by kernel_rfl)
theorem nW (q:Rat):VP Tryz.prog G 191 [T1 q, .nils] (.bool true):=by
 have h:VP Tryz.prog G 224 [.sl 1 [], .nils, .fn (.func 192) [] []] (.bool true):=vt [] (by kernel_rfl)
 exact vt [hc h] (by kernel_rfl)
theorem wJ (q:Rat) (hq:Sm 100000 q):VP Tryz.prog G 191 [T1 q,T1 q] (.bool true):=by
 have hs:=QQ G q q hq hq
 rw [decide_eq_true rfl] at hs
 have h:VP Tryz.prog G 224 [T1 q,T1 q, .fn (.func 192) [] []] (.bool true):=vt [hc hs] (by kernel_rfl)
 exact vt [hc h] (by kernel_rfl)
theorem Y3 (x q:Rat) (v:Q2):VP Tryz.prog G 228 [.sl 2 [NV x,N1 q v]] (.tup [T1 q, .int .i64 0]):=vt [hc (IE G),hc (tK G q),hc (nW G q)] (by kernel_rfl)
theorem Y4 (x q:Rat) (v:Q2):VP Tryz.prog G 228 [.sl 2 [N1 q v,NV x]] (.tup [T1 q, .int .i64 0]):=vt [hc (tK G q),hc (nW G q),hc (nW G q)] (by kernel_rfl)
theorem Y5 (q:Rat) (u v:Q2) (hq:Sm 100000 q):VP Tryz.prog G 228 [.sl 2 [N1 q u,N1 q v]] (.tup [T1 q, .int .i64 0]):=vt [hc (tK G q),hc (nW G q),hc (wJ G q hq)] (by kernel_rfl)
theorem Y6 (v:Q2):VP Tryz.prog G 231 [E1 v] (E1 v):=VP.dm hN [] [([5],⟨[QV v.1,QV v.2],4,false⟩)] (.osl [5] 4 0 2 false) (by kernel_rfl) (fun σ h=>yj (h ([5],⟨[QV v.1,QV v.2],4,false⟩) (by simp)))
theorem V8 (x:Rat) (p:VL.Id):aw Tryz.prog G 231 [EV x] p [] { val := .osl (5::p) 4 0 1 false,rd:=[],up:=[(5::p,some ⟨[QV x],4,false⟩)] } :=
 aw.tr (p:=p) (up:=[(5::p,⟨[QV x],4,false⟩)]) bL (fun _=>[]) [] [EV x] [] (.osl [5,0] 4 0 1 false) [([5,0],⟨[QV x],4,false⟩)] (by kernel_rfl) (by rw [nE.fix]) rfl rfl (by simp only [aU,bh,bM,aT,bn,PU.fixed];rfl) (by simp) (by simp)
theorem Cn (q:Rat) (v:Q2):VP Tryz.prog G 197 [T1 q,E1 v] (E1 v):=vt [hc (Y6 G v)] (by kernel_rfl)
theorem V9 (q x:Rat):VP Tryz.prog G 197 [T1 q,EV x] (E1 (x,0)):=VP.dm hN [.rel 231 _ [] _ (fun p _=>V8 G x p) (by intro p x hx;simp at hx),hc (jo G 0 (by decide) (by decide))] [([13],⟨[QV x,QV 0],4,false⟩)] (.osl [13] 4 0 2 false) (by kernel_rfl) (fun σ h=>yj (h ([13],⟨[QV x,QV 0],4,false⟩) (by simp)))
theorem Wa (v:Q2) (hv:bl 100000 v):VP Tryz.prog G 201 [E1 v] (E1 v):=VP.dm hN [hc (qa G v.1 hv.1),hc (qa G v.2 hv.2)] [([3],⟨[QV v.1,QV v.2],4,false⟩)] (.osl [3] 4 0 2 false) (by kernel_rfl) (fun σ h=>yj (h ([3],⟨[QV v.1,QV v.2],4,false⟩) (by simp)))
theorem vD (q:Rat) (v:Q2) (hq:Sm 100000 q) (hv:bl 100000 v):VP Tryz.prog G 147 [N1 q v] (N1 q v):=VP.dm hN [hc (Wa G v hv),hc (lR q (qa G q hq))] [([21],⟨[EV q],1,false⟩)] (.agg [.osl [21] 1 0 1 false,E1 v]) (by kernel_rfl) (fun σ h=>View.agg (ah.cons (iT (h ([21],⟨[EV q],1,false⟩) (by simp)) rfl (by intro c hc;rcases List.mem_singleton.1 hc with rfl;exact b6 q)) (ah.cons (View.pure PU.pure) ah.nil)))
theorem vNN {σ : ae} {i:VL.Id} {q:Rat} {u v:Q2} {b t:Bool} (h : σ i=some ⟨[N1 q u,N1 q v],2,b⟩):View σ (.osl i 2 0 2 t) (.sl 2 [N1 q u,N1 q v]):=kr h rfl rfl (bb q u) (bb q v)
theorem Um (x q:Rat) (v:Q2) (hx:Sm 100000 x) (hq:Sm 100000 q) (hv:bl 100000 v):VP Tryz.prog G 193 [.sl 2 [NV x,N1 q v]] (.tup [.sl 2 [N1 q (x,0),N1 q v], .int .i64 0]) :=
 VP.dm hN [hc (Y3 G x q v),hc (nW G q),hc (V9 G q x),hc (vD G q (x,0) hq ⟨hx,gZ⟩),hc (wJ G q hq),hc (Cn G q v),hc (vD G q v hq hv)] [([65],⟨[N1 q (x,0),N1 q v],2,false⟩)] (.tup [.osl [65] 2 0 2 false, .int .i64 0]) (by kernel_rfl) (fun σ h=>vT (vNN (h ([65],⟨[N1 q (x,0),N1 q v],2,false⟩) (by simp))))
theorem Un (x q:Rat) (v:Q2) (hx:Sm 100000 x) (hq:Sm 100000 q) (hv:bl 100000 v):VP Tryz.prog G 193 [.sl 2 [N1 q v,NV x]] (.tup [.sl 2 [N1 q v,N1 q (x,0)], .int .i64 0]) :=
 VP.dm hN [hc (Y4 G x q v),hc (wJ G q hq),hc (Cn G q v),hc (vD G q v hq hv),hc (nW G q),hc (V9 G q x),hc (vD G q (x,0) hq ⟨hx,gZ⟩)] [([65],⟨[N1 q v,N1 q (x,0)],2,false⟩)] (.tup [.osl [65] 2 0 2 false, .int .i64 0]) (by kernel_rfl) (fun σ h=>vT (vNN (h ([65],⟨[N1 q v,N1 q (x,0)],2,false⟩) (by simp))))
theorem Uo (q:Rat) (u v:Q2) (hq:Sm 100000 q) (hu:bl 100000 u) (hv:bl 100000 v):VP Tryz.prog G 193 [.sl 2 [N1 q u,N1 q v]] (.tup [.sl 2 [N1 q u,N1 q v], .int .i64 0]) :=
 VP.dm hN [hc (Y5 G q u v hq),hc (wJ G q hq),hc (Cn G q u),hc (vD G q u hq hu),hc (wJ G q hq),hc (Cn G q v),hc (vD G q v hq hv)] [([65],⟨[N1 q u,N1 q v],2,false⟩)] (.tup [.osl [65] 2 0 2 false, .int .i64 0]) (by kernel_rfl) (fun σ h=>vT (vNN (h ([65],⟨[N1 q u,N1 q v],2,false⟩) (by simp))))
theorem II {σ : ae} {i:VL.Id} {A B:AV} (h : σ i=some ⟨[A,B],2,false⟩) (hA:A.size=2) (hB:B.size=2) (pa:∀ c∈A.cells,af c) (pb:∀ c∈B.cells,af c):View σ (.osl i 2 0 2 false) (.sl 2 [A,B]):=kr h hA hB pa pb
theorem DL (f:Nat) (x q:Rat) (v w:Q2) (hx:Sm 100000 x) (hq:Sm 100000 q) (hv:bl 100000 v) (h:VP Tryz.prog G f [T1 q,E1 (x,0),E1 v] (E1 w)):VP Tryz.prog G 154 [NV x,N1 q v, .fn (.func f) [] []] (.tup [N1 q w, .int .i64 0]):=by
 have hw:ah (ae.of [([6],⟨[NV x,N1 q v],2,false⟩)]) [.osl [6] 2 0 2 false] [.sl 2 [NV x,N1 q v]]:=ah.cons (II (by simp [ae.of]) rfl rfl (eg x) (bb q v)) ah.nil
 exact vt [bm [([6],⟨[NV x,N1 q v],2,false⟩)] (Um G x q v hx hq hv) hw,hc h] (by kernel_rfl)
theorem DM (f:Nat) (x q:Rat) (v w:Q2) (hx:Sm 100000 x) (hq:Sm 100000 q) (hv:bl 100000 v) (h:VP Tryz.prog G f [T1 q,E1 v,E1 (x,0)] (E1 w)):VP Tryz.prog G 154 [N1 q v,NV x, .fn (.func f) [] []] (.tup [N1 q w, .int .i64 0]):=by
 have hw:ah (ae.of [([6],⟨[N1 q v,NV x],2,false⟩)]) [.osl [6] 2 0 2 false] [.sl 2 [N1 q v,NV x]]:=ah.cons (II (by simp [ae.of]) rfl rfl (bb q v) (eg x)) ah.nil
 exact vt [bm [([6],⟨[N1 q v,NV x],2,false⟩)] (Un G x q v hx hq hv) hw,hc h] (by kernel_rfl)
theorem yk (f:Nat) (q:Rat) (u v w:Q2) (hq:Sm 100000 q) (hu:bl 100000 u) (hv:bl 100000 v) (h:VP Tryz.prog G f [T1 q,E1 u,E1 v] (E1 w)):VP Tryz.prog G 154 [N1 q u,N1 q v, .fn (.func f) [] []] (.tup [N1 q w, .int .i64 0]):=by
 have hw:ah (ae.of [([6],⟨[N1 q u,N1 q v],2,false⟩)]) [.osl [6] 2 0 2 false] [.sl 2 [N1 q u,N1 q v]]:=ah.cons (II (by simp [ae.of]) rfl rfl (bb q u) (bb q v)) ah.nil
 exact vt [bm [([6],⟨[N1 q u,N1 q v],2,false⟩)] (Uo G q u v hq hu hv) hw,hc h] (by kernel_rfl)
end
end Go.Proofs.YtndoagbiakehnaaGreat
end

section
set_option maxRecDepth 100000
namespace Go.Proofs.YtndoagbiakehnaaGreat
open Go.VL Go.Proofs Go.Lib
def nq (q:Rat) (b:Bool) (v:Q2):AV:=match b with | true=>N1 q v | false=>NV v.1
def Fl (b:Bool) (v:Q2):Prop:=b=false->v.2=0
instance {q:Rat} {b:Bool} {v:Q2}:PU (nq q b v):=by cases b<;>(unfold nq;infer_instance)
section
variable (G:Nat->Option (List AV))
theorem zQ {x y:Rat} (h:Fl false (x,y)):y=0:=h rfl
theorem adU (q:Rat) (b c:Bool) (u v:Q2) (hq:Sm 10000 q) (hu:bl 10000 u) (hv:bl 10000 v) (fu:Fl b u) (fv:Fl c v):VP Tryz.prog G 86 [nq q b u,nq q c v] (.tup [nq q (b||c) (u.1+v.1,u.2+v.2), .int .i64 0]):=by
 have sq:=hq.mono (k:=100000) (by omega)
 cases b<;>cases c
 . exact MY G u.1 v.1 (hu.1.mono (by omega)) (hv.1.mono (by omega))
 . obtain ⟨x,y⟩:=u
   obtain rfl:=zQ fu
   exact vt [hc (DL G 155 x q v _ (hu.1.mono (by omega)) sq (hv.mono (by omega)) (GQ G q (x,0) v (hq.mono (by omega)) (hu.mono (by omega)) (hv.mono (by omega))))] (by kernel_rfl)
 . obtain ⟨x,y⟩:=v
   obtain rfl:=zQ fv
   exact vt [hc (DM G 155 x q u _ (hv.1.mono (by omega)) sq (hu.mono (by omega)) (GQ G q u (x,0) (hq.mono (by omega)) (hu.mono (by omega)) (hv.mono (by omega))))] (by kernel_rfl)
 . exact vt [hc (yk G 155 q u v _ sq (hu.mono (by omega)) (hv.mono (by omega)) (GQ G q u v (hq.mono (by omega)) (hu.mono (by omega)) (hv.mono (by omega))))] (by kernel_rfl)
theorem adV (q:Rat) (b c:Bool) (u v:Q2) (hq:Sm 10000 q) (hu:bl 10000 u) (hv:bl 10000 v) (fu:Fl b u) (fv:Fl c v):VP Tryz.prog G 88 [nq q b u,nq q c v] (.tup [nq q (b||c) (u.1 + -v.1,u.2 + -v.2), .int .i64 0]):=by
 have sq:=hq.mono (k:=100000) (by omega)
 cases b<;>cases c
 . have:=M4 G u.1 v.1 (hu.1.mono (by omega)) (hv.1.mono (by omega))
   rw [Rat.sub_eq_add_neg] at this
   exact this
 . obtain ⟨x,y⟩:=u
   obtain rfl:=zQ fu
   exact vt [hc (DL G 157 x q v _ (hu.1.mono (by omega)) sq (hv.mono (by omega)) (GR G q (x,0) v (hq.mono (by omega)) (hu.mono (by omega)) (hv.mono (by omega))))] (by kernel_rfl)
 . obtain ⟨x,y⟩:=v
   obtain rfl:=zQ fv
   exact vt [hc (DM G 157 x q u _ (hv.1.mono (by omega)) sq (hu.mono (by omega)) (GR G q u (x,0) (hq.mono (by omega)) (hu.mono (by omega)) (hv.mono (by omega))))] (by kernel_rfl)
 . exact vt [hc (yk G 157 q u v _ sq (hu.mono (by omega)) (hv.mono (by omega)) (GR G q u v (hq.mono (by omega)) (hu.mono (by omega)) (hv.mono (by omega))))] (by kernel_rfl)
theorem GU {q x y:Rat}:(aR q (x,0) (y,0)).1=x*y:=by unfold aR;simp only [];grind
theorem QR (q:Rat) (b c:Bool) (u v:Q2) (hq:Sm 10000 q) (hu:bl 10000 u) (hv:bl 10000 v) (fu:Fl b u) (fv:Fl c v):VP Tryz.prog G 152 [nq q b u,nq q c v] (.tup [nq q (b||c) (aR q u v), .int .i64 0]):=by
 have sq:=hq.mono (k:=100000) (by omega)
 cases b<;>cases c
 . obtain ⟨x,y⟩:=u
   obtain rfl:=zQ fu
   obtain ⟨z,t⟩:=v
   obtain rfl:=zQ fv
   have:=DA G x z (hu.1.mono (by omega)) (hv.1.mono (by omega))
   rw [<- GU (q:=q)] at this
   exact this
 . obtain ⟨x,y⟩:=u
   obtain rfl:=zQ fu
   exact vt [hc (DL G 206 x q v _ (hu.1.mono (by omega)) sq (hv.mono (by omega)) (vA G q (x,0) v (hq.mono (by omega)) (hu.mono (by omega)) (hv.mono (by omega))))] (by kernel_rfl)
 . obtain ⟨x,y⟩:=v
   obtain rfl:=zQ fv
   exact vt [hc (DM G 206 x q u _ (hv.1.mono (by omega)) sq (hu.mono (by omega)) (vA G q u (x,0) (hq.mono (by omega)) (hu.mono (by omega)) (hv.mono (by omega))))] (by kernel_rfl)
 . exact vt [hc (yk G 206 q u v _ sq (hu.mono (by omega)) (hv.mono (by omega)) (vA G q u v (hq.mono (by omega)) (hu.mono (by omega)) (hv.mono (by omega))))] (by kernel_rfl)
end
end Go.Proofs.YtndoagbiakehnaaGreat
end

section
set_option maxRecDepth 100000
namespace Go.Proofs.YtndoagbiakehnaaGreat
open Go.VL Go.Proofs Go.Lib
def gh (q:Rat) (v:Q2):Int:=if az v.2=0∨az v.1=az v.2 then az v.1 else if az v.1=0 then az v.2 else az v.1*az (v.1*v.1 + -(q*(v.2*v.2)))
theorem pT (x:Rat):az x = -1∨az x=0∨az x=1:=by
 unfold az
 rcases Int.lt_trichotomy x.num 0 with h | h | h
 . exact .inl (Int.sign_eq_neg_one_of_neg h)
 . rw [h];exact .inr (.inl rfl)
 . exact .inr (.inr (Int.sign_eq_one_of_pos h))
instance {v:Q2}:PU (.sl 1 [E1 v]):=PU.slice (by intro c hc;simp only [flat,List.flatMap_cons,List.flatMap_nil,List.append_nil] at hc;rcases List.mem_singleton.1 hc with rfl;exact PU.pure) (by intro c hc ρ;simp at hc;subst hc;exact PU.fix ρ)
section
variable (G:Nat->Option (List AV))
theorem adW:VP Tryz.prog G 235 [.sl 1 []] (.bool true):=vt [] (by kernel_rfl)
theorem Co (x:Rat) (hx:Sm 100000 x):VP Tryz.prog G 202 [.sl 1 [],EV x] (.bool true):=vt [hc (adW G),hc (tn G x hx)] (by kernel_rfl)
theorem QS (x y:Rat) (hx:Sm 100000 x) (hy:Sm 100000 y):VP Tryz.prog G 208 [.sl 1 [],EV x,EV y] (.bool true):=vt [hc (Co G x hx),hc (tn G y hy)] (by kernel_rfl)
theorem GV (x y:Rat) (hx:Sm 100000 x) (hy:Sm 100000 y):VP Tryz.prog G 206 [.sl 1 [],EV x,EV y] (EV (x*y)):=vt [hc (QS G x y hx hy),hc (sP G x y hx hy)] (by kernel_rfl)
theorem adX (x y:Rat) (hx:Sm 100000 x) (hy:Sm 100000 y):VP Tryz.prog G 157 [.sl 1 [],EV x,EV y] (EV (x + -y)):=vt [hc (QS G x y hx hy),hc (QN G y hy),hc (QM G x (-y) hx hy.neg)] (by kernel_rfl)
theorem Cp (x:Rat) (hx:Sm 100000 x):VP Tryz.prog G 200 [.sl 1 [],EV x] (.int .i64 (az x)):=vt [hc (xD G x hx)] (by kernel_rfl)
theorem GX (q:Rat) (v:Q2) (hq:Sm 10000 q) (hv:bl 10000 v):VP Tryz.prog G 200 [T1 q,E1 v] (.int .i64 (gh q v)):=by
 have h1:=Cp G v.1 (hv.1.mono (by omega))
 have h2:=Cp G v.2 (hv.2.mono (by omega))
 have m1:=GV G v.1 v.1 (hv.1.mono (by omega)) (hv.1.mono (by omega))
 have m2:=GV G v.2 v.2 (hv.2.mono (by omega)) (hv.2.mono (by omega))
 have m3:=GV G q (v.2*v.2) (hq.mono (by omega)) ((hv.2.mul hv.2).mono (by omega))
 have s3:=hq.mul (hv.2.mul hv.2)
 have m4:=adX G (v.1*v.1) (q*(v.2*v.2)) ((hv.1.mul hv.1).mono (by omega)) (s3.mono (by omega))
 have h3:=Cp G (v.1*v.1 + -(q*(v.2*v.2))) (((hv.1.mul hv.1).add s3.neg).mono (by omega))
 have kw:IntKind.i64.wrap (az v.1*az (v.1*v.1 + -(q*(v.2*v.2))))=az v.1*az (v.1*v.1 + -(q*(v.2*v.2))):=by
   rw [IntKind.wrap_i64]
   rcases pT v.1 with h | h | h<;>rcases pT (v.1*v.1 + -(q*(v.2*v.2))) with h' | h' | h'<;>rw [h,h']<;>decide
 unfold gh
 by_cases a:az v.2=0
 . rw [if_pos (.inl a)]
   exact vt [hc h1,hc h2,hb 43 (beq_iff_eq.2 a)] (by kernel_rfl)
 have a':(az v.2==0)=false:=by rw [beq_eq_false_iff_ne];exact a
 by_cases b:az v.1=az v.2
 . rw [if_pos (.inr b)]
   exact vt [hc h1,hc h2,hb 43 a',hb 47 (beq_iff_eq.2 b)] (by kernel_rfl)
 have b':(az v.1==az v.2)=false:=by rw [beq_eq_false_iff_ne];exact b
 rw [if_neg (by rw [not_or];exact ⟨a,b⟩)]
 by_cases c:az v.1=0
 . rw [if_pos c]
   exact vt [hc h1,hc h2,hb 43 a',hb 47 b',hb 52 (beq_iff_eq.2 c)] (by kernel_rfl)
 have c':(az v.1==0)=false:=by rw [beq_eq_false_iff_ne];exact c
 rw [if_neg c]
 exact vt [hc h1,hc h2,hb 43 a',hb 47 b',hb 52 c',hc m1,hc m2,hc m3,hc m4,hc h3,hw 74 kw] (by kernel_rfl)
theorem GY (p:VL.Id):aw Tryz.prog G 267 [.int .i64 2] p [] { val := .osl (2::p) 4 0 2 false,rd:=[],up:=[(2::p,some ⟨[QV 0,QV 0],4,false⟩)] } :=
 aw.tr (p:=p) (up:=[(2::p,⟨[QV 0,QV 0],4,false⟩)]) jD (fun _=>[]) [hc (jo G 0 (by decide) (by decide)),hc (jo G 0 (by decide) (by decide))] [.int .i64 2] [] (.osl [2,0] 4 0 2 false) [([2,0],⟨[QV 0,QV 0],4,false⟩)] (by kernel_rfl) (by rw [nE.fix]) rfl rfl (by simp only [aU,bh,bM,aT,bn,PU.fixed];rfl) (by simp) (by simp)
theorem oV (q x:Rat) (hq:Sm 100000 q) (hx:Sm 100000 x):VP Tryz.prog G 258 [T1 q,QV x] (E1 (x,0)) :=
 VP.dm hN [hc (QP G q hq),hc (tG G x hx), .rel 267 _ [] _ (fun p _=>GY G p) (by intro p x hx;simp at hx)] [([2,13],⟨[QV x,QV 0],4,false⟩)] (.osl [2,13] 4 0 2 false) (by kernel_rfl) (fun σ h=>yj (h ([2,13],⟨[QV x,QV 0],4,false⟩) (by simp)))
theorem Y7 (q:Rat) (hq:Sm 100000 q):VP Tryz.prog G 241 [T1 q, .int .i64 0] (E1 (0,1)) :=
 VP.dm hN [hc (QP G q hq), .rel 267 _ [] _ (fun p _=>GY G p) (by intro p x hx;simp at hx),hc (jo G 1 (by decide) (by decide))] [([2,17],⟨[QV 0,QV 1],4,false⟩)] (.osl [2,17] 4 0 2 false) (by kernel_rfl) (fun σ h=>yj (h ([2,17],⟨[QV 0,QV 1],4,false⟩) (by simp)))
theorem Y8 (q:Rat) (hq:Sm 10000 q) (h1:az q=1):VP Tryz.prog G 234 [T1 q] (.bool true):=by
 have hv:=Cp G q (hq.mono (by omega))
 rw [h1] at hv
 exact vt [hc (jo G 0 (by decide) (by decide)),hc (oV G q 0 (hq.mono (by omega)) gZ),hc (tI G q (0,0) (hq.mono (by omega)) ⟨gZ,gZ⟩),hc hv] (by kernel_rfl)
theorem Ag (q:Rat) (v:Q2) (hq:Sm 10000 q) (hv:bl 10000 v) (h1:az q=1):VP Tryz.prog G 146 [T1 q,E1 v] (.int .i64 (gh q v)):=by
 have hg:VP Tryz.prog G 199 [T1 q, .sl 1 [E1 v]] (.bool true):=vt [hc (tI G q v (hq.mono (by omega)) (hv.mono (by omega))),hc (Y8 G q hq h1)] (by kernel_rfl)
 have hw:ah (ae.of [([3],⟨[E1 v],1,false⟩)]) [T1 q, .osl [3] 1 0 1 false] [T1 q, .sl 1 [E1 v]]:=ah.cons (View.pure PU.pure) (ah.cons (iT (b:=false) (by simp [ae.of]) rfl (by intro c hc;rcases List.mem_singleton.1 hc with rfl;exact PU.pure)) ah.nil)
 exact vt [bm [([3],⟨[E1 v],1,false⟩)] hg hw,hc (GX G q v hq hv)] (by kernel_rfl)
theorem Y9 (q:Rat) (b:Bool) (v:Q2) (hq:Sm 10000 q) (hv:bl 10000 v) (h1:az q=1) (fv:Fl b v):VP Tryz.prog G 80 [nq q b v] (.int .i64 (gh q v)):=by
 cases b
 . have e:gh q v=az v.1:=by unfold gh;rw [fv rfl,if_pos (.inl (by rfl))]
   rw [e]
   exact vv G v.1 (hv.1.mono (by omega))
 . exact vt [hc (Ag G q v hq hv h1)] (by kernel_rfl)
end
end Go.Proofs.YtndoagbiakehnaaGreat
end

section
set_option maxRecDepth 100000
namespace Go.Proofs.YtndoagbiakehnaaGreat
open Go.VL Go.Proofs Go.Lib
section
variable (G:Nat->Option (List AV))
theorem M5 (x:Rat):VP Tryz.prog G 219 [.sl 1 [],QV x] (EV x):=VP.dm hN [] [([3],⟨[QV x],4,false⟩)] (.osl [3] 4 0 1 false) (by kernel_rfl) (fun σ h=>Aw (h ([3],⟨[QV x],4,false⟩) (by simp)))
theorem Cr (x:Rat) (hx:Sm 100000 x):VP Tryz.prog G 218 [EV x] (.bool (decide (x=0))):=by
 have k16:jY false (W x.num.natAbs)=some (.int .i64 (aa x.num.natAbs:Int)):=aQ _
 by_cases h:x=0
 . have h0:=bE.2 (show x.num.natAbs=0 by rw [h];rfl)
   have e:decide ((aa x.num.natAbs:Int)>0)=false:=ag (by omega)
   rw [decide_eq_true h]
   exact vt [ho 16 k16,hb 17 e] (by kernel_rfl)
 . have e:decide ((aa x.num.natAbs:Int)>0)=true:=ai (by
     have:aa x.num.natAbs≠0:=fun e=>h (by have:=bE.1 e;exact Rat.num_eq_zero.1 (by omega))
     omega)
   rw [decide_eq_false h]
   exact vt [ho 16 k16,hb 17 e] (by kernel_rfl)
theorem IJ (a b:Rat) (ha:Sm 100000 a) (hb:Sm 100000 b) (p:VL.Id):aw Tryz.prog G 171 [.sl 1 [],EV a,EV b] p [] { val := .osl (11::p) 4 0 1 false,rd:=[],up:=[(11::p,some ⟨[QV (a*b)],4,false⟩)] } :=
 aw.tr (p:=p) (up:=[(11::p,⟨[QV (a*b)],4,false⟩)]) dO (fun _=>[]) [hc (Ud G a b ha hb)] [.sl 1 [],EV a,EV b] [] (.osl [11,0] 4 0 1 false) [([11,0],⟨[QV (a*b)],4,false⟩)] (by kernel_rfl) (by rw [nE.fix]) rfl rfl (by simp only [aU,bh,bM,aT,bn,PU.fixed];rfl) (by simp) (by simp)
theorem ni (a b:Rat) (ha:Sm 100000 a) (hb:Sm 100000 b):VP Tryz.prog G 171 [.sl 1 [],EV a,EV b] (EV (a*b)) :=
 VP.dm hN [hc (Ud G a b ha hb)] [([11],⟨[QV (a*b)],4,false⟩)] (.osl [11] 4 0 1 false) (by kernel_rfl) (fun σ h=>Aw (h ([11],⟨[QV (a*b)],4,false⟩) (by simp)))
theorem QT (a b:Rat) (ha:Sm 100000 a) (hb:Sm 100000 b):VP Tryz.prog G 172 [.sl 1 [],EV a,EV b] (EV (a+b)) :=
 VP.dm hN [hc (Ac G a b ha hb)] [([18],⟨[QV (a+b)],4,false⟩)] (.osl [18] 4 0 1 false) (by kernel_rfl) (fun σ h=>Aw (h ([18],⟨[QV (a+b)],4,false⟩) (by simp)))
theorem QU (a b:Rat) (ha:Sm 100000 a) (hb:Sm 100000 b) (p q:VL.Id):aw Tryz.prog G 172 [.sl 1 [], .osl q 4 0 1 false,EV b] p [(q,⟨[QV a],4,false⟩)] { val := .osl (18::p) 4 0 1 false,rd:=[q],up:=[(18::p,some ⟨[QV (a+b)],4,false⟩)] } :=
 aw.tr (p:=p) (up:=[(18::p,⟨[QV (a+b)],4,false⟩)]) kh (fun _=>q) [hc (Ac G a b ha hb)] [.sl 1 [], .osl [1] 4 0 1 false,EV b] [([1],⟨[QV a],4,false⟩)] (.osl [18,0] 4 0 1 false) [([18,0],⟨[QV (a+b)],4,false⟩)] (by kernel_rfl) (by simp only [aT,bn,PU.fixed,vg];rfl) (by simp only [aU,bh,bM,aT,bn,PU.fixed];rfl) rfl (by simp only [aU,bh,bM,aT,bn,PU.fixed];rfl) (by simp) (by simp)
theorem Wb (a:Rat) (ha:Sm 100000 a):VP Tryz.prog G 101 [.sl 1 [],EV a] (EV (-a)) :=
 VP.dm hN [hc (GL G a ha)] [([14],⟨[QV (-a)],4,false⟩)] (.osl [14] 4 0 1 false) (by kernel_rfl) (fun σ h=>Aw (h ([14],⟨[QV (-a)],4,false⟩) (by simp)))
theorem adY (a b:Rat) (ha:Sm 100000 a) (hb:Sm 100000 b):VP Tryz.prog G 245 [.sl 1 [],EV a,EV b] (EV (a + -b)):=vt [hc (Wb G b hb),hc (QT G a (-b) ha hb.neg)] (by kernel_rfl)
theorem xT0:VP Tryz.prog G 248 [.sl 1 []] (.bool true):=vt [] (by kernel_rfl)
theorem xF0 (x:Rat) (hx:Sm 100000 x):VP Tryz.prog G 215 [.sl 1 [],EV x] (.bool true):=vt [hc (xT0 G),hc (r6R G x hx)] (by kernel_rfl)
theorem xs0 (x:Rat) (hx:Sm 100000 x):VP Tryz.prog G 166 [.sl 1 [],EV x] (.int .i64 (az x)):=vt [hc (GK G x hx)] (by kernel_rfl)
theorem ajj:VP Tryz.prog G 276 [.sl 1 []] (.bool true):=vt [hc (xT0 G)] (by kernel_rfl)
theorem adZ (x:Rat) (hx:Sm 100000 x):VP Tryz.prog G 246 [.sl 1 [],EV x] (.int .i64 (az x)):=vt [hc (xF0 G x hx),hc (ajj G),hc (xs0 G x hx)] (by kernel_rfl)
theorem xR1 (v:Q2) (hv:bl 100000 v):VP Tryz.prog G 249 [E1 v, .int .i64 2] (.bool true):=vt [hc (tH G v.1 hv.1),hc (tH G v.2 hv.2)] (by kernel_rfl)
theorem xT1 (q:Rat) (hq:Sm 100000 q):VP Tryz.prog G 248 [T1 q] (.bool true):=vt [hc (r6R G q hq)] (by kernel_rfl)
theorem xF1 (q:Rat) (v:Q2) (hq:Sm 100000 q) (hv:bl 100000 v):VP Tryz.prog G 215 [T1 q,E1 v] (.bool true):=vt [hc (xT1 G q hq),hc (xR1 G v hv)] (by kernel_rfl)
theorem QW (q x:Rat):VP Tryz.prog G 219 [T1 q,QV x] (E1 (x,0)):=VP.dm hN [hc (jf G 0 (by decide) (by decide))] [([14],⟨[QV x,QV 0],4,false⟩)] (.osl [14] 4 0 2 false) (by kernel_rfl) (fun σ h=>yj (h ([14],⟨[QV x,QV 0],4,false⟩) (by simp)))
theorem ad1 (q x:Rat) (p:VL.Id):aw Tryz.prog G 219 [T1 q,QV x] p [] { val := .osl (14::p) 4 0 2 false,rd:=[],up:=[(14::p,some ⟨[QV x,QV 0],4,false⟩)] } :=
 aw.tr (p:=p) (up:=[(14::p,⟨[QV x,QV 0],4,false⟩)]) iQ (fun _=>[]) [hc (jf G 0 (by decide) (by decide))] [T1 q,QV x] [] (.osl [14,0] 4 0 2 false) [([14,0],⟨[QV x,QV 0],4,false⟩)] (by kernel_rfl) (by rw [nE.fix]) rfl rfl (by simp only [aU,bh,bM,aT,bn,PU.fixed];rfl) (by simp) (by simp)
theorem Za (q:Rat):VP Tryz.prog G 251 [T1 q, .int .i64 0] (E1 (0,1)):=VP.dm hN [hc (jf G 0 (by decide) (by decide)), .rel 219 _ [] _ (fun p _=>ad1 G q 0 p) (by intro p x hx;simp at hx),hc (jf G 1 (by decide) (by decide))] [([14,3],⟨[QV 0,QV 1],4,false⟩)] (.osl [14,3] 4 0 2 false) (by kernel_rfl) (fun σ h=>yj (h ([14,3],⟨[QV 0,QV 1],4,false⟩) (by simp)))
theorem GZ (q:Rat) (a b:Q2) (ha:bl 100000 a) (hb:bl 100000 b):VP Tryz.prog G 172 [T1 q,E1 a,E1 b] (E1 (a.1+b.1,a.2+b.2)) :=
 VP.dm hN [hc (Ac G a.1 b.1 ha.1 hb.1),hc (Ac G a.2 b.2 ha.2 hb.2)] [([38],⟨[QV (a.1+b.1),QV (a.2+b.2)],4,false⟩)] (.osl [38] 4 0 2 false) (by kernel_rfl) (fun σ h=>yj (h ([38],⟨[QV (a.1+b.1),QV (a.2+b.2)],4,false⟩) (by simp)))
theorem Wc (q:Rat) (a:Q2) (ha:bl 100000 a):VP Tryz.prog G 101 [T1 q,E1 a] (E1 (-a.1, -a.2)) :=
 VP.dm hN [hc (GL G a.1 ha.1),hc (GL G a.2 ha.2)] [([30],⟨[QV (-a.1),QV (-a.2)],4,false⟩)] (.osl [30] 4 0 2 false) (by kernel_rfl) (fun σ h=>yj (h ([30],⟨[QV (-a.1),QV (-a.2)],4,false⟩) (by simp)))
theorem q9 (q:Rat) (a b:Q2) (hq:Sm 20000 q) (ha:bl 20000 a) (hb:bl 20000 b):VP Tryz.prog G 171 [T1 q,E1 a,E1 b] (E1 (aR q a b)):=by
 have za:=Cr G a.2 (ha.2.mono (by omega))
 have zb:=Cr G b.2 (hb.2.mono (by omega))
 have d0:=fun p=>IJ G a.1 b.1 (ha.1.mono (by omega)) (hb.1.mono (by omega)) p
 have m4:=ni G a.1 b.2 (ha.1.mono (by omega)) (hb.2.mono (by omega))
 have m5:=ni G a.2 b.1 (ha.2.mono (by omega)) (hb.1.mono (by omega))
 by_cases a0:a.2=0
 . rw [decide_eq_true a0] at za
   by_cases b0:b.2=0
   . rw [decide_eq_true b0] at zb
     have e:aR q a b=(a.1*b.1,0):=by unfold aR;rw [a0,b0];refine Prod.ext ?_ ?_<;>simp only []<;>grind
     rw [e]
     exact VP.dm hN [hc za,hc zb, .rel 171 _ [] _ (fun p _=>d0 p) (by intro p x hx;simp at hx),hc (jf G 0 (by decide) (by decide)),hc (M5 G 0)] [([48],⟨[QV (a.1*b.1),QV 0],4,false⟩)] (.osl [48] 4 0 2 false) (by kernel_rfl) (fun σ h=>yj (h ([48],⟨[QV (a.1*b.1),QV 0],4,false⟩) (by simp)))
   . rw [decide_eq_false b0] at zb
     have e:aR q a b=(a.1*b.1,a.1*b.2):=by unfold aR;rw [a0];refine Prod.ext ?_ ?_<;>simp only []<;>grind
     rw [e]
     exact VP.dm hN [hc za,hc zb, .rel 171 _ [] _ (fun p _=>d0 p) (by intro p x hx;simp at hx),hc m4] [([54],⟨[QV (a.1*b.1),QV (a.1*b.2)],4,false⟩)] (.osl [54] 4 0 2 false) (by kernel_rfl) (fun σ h=>yj (h ([54],⟨[QV (a.1*b.1),QV (a.1*b.2)],4,false⟩) (by simp)))
 rw [decide_eq_false a0] at za
 by_cases b0:b.2=0
 . rw [decide_eq_true b0] at zb
   have e:aR q a b=(a.1*b.1,a.2*b.1):=by unfold aR;rw [b0];refine Prod.ext ?_ ?_<;>simp only []<;>grind
   rw [e]
   exact VP.dm hN [hc za,hc zb, .rel 171 _ [] _ (fun p _=>d0 p) (by intro p x hx;simp at hx),hc m5] [([55],⟨[QV (a.1*b.1),QV (a.2*b.1)],4,false⟩)] (.osl [55] 4 0 2 false) (by kernel_rfl) (fun σ h=>yj (h ([55],⟨[QV (a.1*b.1),QV (a.2*b.1)],4,false⟩) (by simp)))
 rw [decide_eq_false b0] at zb
 have m2:=ni G a.2 b.2 (ha.2.mono (by omega)) (hb.2.mono (by omega))
 have m3:=ni G (a.2*b.2) q ((ha.2.mul hb.2).mono (by omega)) (hq.mono (by omega))
 have d1:=fun p q'=>QU G (a.1*b.1) (a.2*b.2*q) ((ha.1.mul hb.1).mono (by omega)) (((ha.2.mul hb.2).mul hq).mono (by omega)) p q'
 have d2:=QT G (a.1*b.2) (a.2*b.1) ((ha.1.mul hb.2).mono (by omega)) ((ha.2.mul hb.1).mono (by omega))
 exact VP.dm hN [hc za,hc zb, .rel 171 _ [] _ (fun p _=>d0 p) (by intro p x hx;simp at hx),hc m2,hc m3, .rel 172 _ [([11,38],⟨[QV (a.1*b.1)],4,false⟩)] _ (fun p _=>d1 p [11,38]) (by intro p x hx;rcases List.mem_singleton.1 hx with rfl;simp),hc m4,hc m5,hc d2] [([80],⟨[QV (aR q a b).1,QV (aR q a b).2],4,false⟩)] (.osl [80] 4 0 2 false) (by kernel_rfl) (fun σ h=>yj (h ([80],⟨[QV (aR q a b).1,QV (aR q a b).2],4,false⟩) (by simp)))
theorem QX (q:Rat) (a:Q2) (hq:Sm 1000 q) (ha:bl 20000 a):VP Tryz.prog G 212 [T1 q,E1 a] (EV (cj q a)):=by
 have m1:=ni G a.1 a.1 (ha.1.mono (by omega)) (ha.1.mono (by omega))
 have m2:=ni G a.2 a.2 (ha.2.mono (by omega)) (ha.2.mono (by omega))
 have m3:=ni G (a.2*a.2) q ((ha.2.mul ha.2).mono (by omega)) (hq.mono (by omega))
 have m5:=adY G (a.1*a.1) (a.2*a.2*q) ((ha.1.mul ha.1).mono (by omega)) (((ha.2.mul ha.2).mul hq).mono (by omega))
 exact vt [hc m1,hc m2,hc m3,hc m5] (by kernel_rfl)
theorem xF (b:Rat):1/b=b⁻¹ := by rw [Rat.div_def,Rat.one_mul]
theorem ad4 (b:Rat) (h:b≠0) (hb:Sm 100000 b):VP Tryz.prog G 217 [QV b] (QV (1/b)):=by rw [xF];exact Cc (YF G) b h hb
theorem We {a:Rat} (h:a≠0):((aa a.num.natAbs:Int)==0)=false:=by
 have:=B9 a
 rw [ag h] at this
 exact this
theorem Zb (a:Rat) (Qf:a≠0) (ha:Sm 100000 a) (p:VL.Id):aw Tryz.prog G 169 [.sl 1 [],EV a] p [] { val := .tup [.osl (16::p) 4 0 1 false, .int .i64 0],rd:=[],up:=[(16::p,some ⟨[QV (1/a)],4,false⟩)] } :=
 aw.tr (p:=p) (up:=[(16::p,⟨[QV (1/a)],4,false⟩)]) pI (fun _=>[]) [ho 20 (aQ a.num.natAbs),hb 21 (We Qf),hc (ad4 G a Qf ha)] [.sl 1 [],EV a] [] (.tup [.osl [16,0] 4 0 1 false, .int .i64 0]) [([16,0],⟨[QV (1/a)],4,false⟩)] (by kernel_rfl) (by rw [nE.fix]) rfl rfl (by simp only [aU,bh,bM,aT,bn,PU.fixed];rfl) (by simp) (by simp)
theorem QY (a:Rat) (Qf:a≠0) (ha:Sm 100000 a):VP Tryz.prog G 169 [.sl 1 [],EV a] (.tup [EV (1/a), .int .i64 0]) :=
 VP.dm hN [ho 20 (aQ a.num.natAbs),hb 21 (We Qf),hc (ad4 G a Qf ha)] [([16],⟨[QV (1/a)],4,false⟩)] (.tup [.osl [16] 4 0 1 false, .int .i64 0]) (by kernel_rfl) (fun σ h=>vT (Aw (h ([16],⟨[QV (1/a)],4,false⟩) (by simp))))
theorem KO (q:Rat) (a:Q2) (h0:cj q a≠0) (hq:Sm 1000 q) (ha:bl 1000 a):VP Tryz.prog G 169 [T1 q,E1 a] (.tup [E1 (mO q a), .int .i64 0]):=by
 have za:=Cr G a.2 (ha.2.mono (by omega))
 by_cases a0:a.2=0
 . rw [decide_eq_true a0] at za
   have hx:a.1≠0:=fun e=>h0 (by unfold cj;rw [e,a0];grind)
   have e:mO q a=(1/a.1,0):=by
     obtain ⟨x,y⟩:=a
     simp only [] at a0 hx
     subst a0
     unfold mO cj
     refine Prod.ext ?_ ?_<;>simp only []<;>grind
   rw [e]
   exact VP.dm hN [hc za, .rel 169 _ [] _ (fun p _=>Zb G a.1 hx (ha.1.mono (by omega)) p) (by intro p x hx;simp at hx),hc (jf G 0 (by decide) (by decide)),hc (M5 G 0)] [([35],⟨[QV (1/a.1),QV 0],4,false⟩)] (.tup [.osl [35] 4 0 2 false, .int .i64 0]) (by kernel_rfl) (fun σ h=>vT (yj (h ([35],⟨[QV (1/a.1),QV 0],4,false⟩) (by simp))))
 rw [decide_eq_false a0] at za
 have sn:=DJ hq ha
 have si:Sm 5002 (1/cj q a):=(Sm.div (Yp (a:=1) (by decide):Sm 1 (1:Rat)) sn (by omega)).mono (by omega)
 have hn:=QX G q a hq (ha.mono (by omega))
 have hi:=QY G (cj q a) h0 (sn.mono (by omega))
 have m1:=fun p=>IJ G a.1 (1/cj q a) (ha.1.mono (by omega)) (si.mono (by omega)) p
 have m2:=Wb G a.2 (ha.2.mono (by omega))
 have m3:=ni G (-a.2) (1/cj q a) (ha.2.neg.mono (by omega)) (si.mono (by omega))
 have e:mO q a=(a.1*(1/cj q a), -a.2*(1/cj q a)):=by unfold mO;rw [Rat.neg_mul]
 rw [e]
 exact VP.dm hN [hc za,hc hn,hc hi, .rel 171 _ [] _ (fun p _=>m1 p) (by intro p x hx;simp at hx),hc m2,hc m3] [([45],⟨[QV (a.1*(1/cj q a)),QV (-a.2*(1/cj q a))],4,false⟩)] (.tup [.osl [45] 4 0 2 false, .int .i64 0]) (by kernel_rfl) (fun σ h=>vT (yj (h ([45],⟨[QV (a.1*(1/cj q a)),QV (-a.2*(1/cj q a))],4,false⟩) (by simp))))
theorem QZ (q:Rat) (v:Q2):gh q v=if az v.2=0∨az v.1=az v.2 then az v.1 else if az v.1=0 then az v.2 else az v.1*az (cj q v):=by
 have e:v.1*v.1 + -(q*(v.2*v.2))=cj q v:=by unfold cj;grind
 unfold gh;rw [e]
theorem xs1 (q:Rat) (v:Q2) (hq:Sm 1000 q) (hv:bl 20000 v):VP Tryz.prog G 166 [T1 q,E1 v] (.int .i64 (gh q v)):=by
 have h1:=xs0 G v.1 (hv.1.mono (by omega))
 have h2:=xs0 G v.2 (hv.2.mono (by omega))
 have hn:=QX G q v hq hv
 have h3:=xs0 G (cj q v) ((DJ hq hv).mono (by omega))
 have kw:IntKind.i64.wrap (az v.1*az (cj q v))=az v.1*az (cj q v):=by
   rw [IntKind.wrap_i64]
   rcases pT v.1 with h | h | h<;>rcases pT (cj q v) with h' | h' | h'<;>rw [h,h']<;>decide
 rw [QZ]
 by_cases a:az v.2=0
 . rw [if_pos (.inl a)]
   exact vt [hc h1,hc h2,hb 41 (beq_iff_eq.2 a)] (by kernel_rfl)
 have a':(az v.2==0)=false:=by rw [beq_eq_false_iff_ne];exact a
 by_cases b:az v.1=az v.2
 . rw [if_pos (.inr b)]
   exact vt [hc h1,hc h2,hb 41 a',hb 45 (beq_iff_eq.2 b)] (by kernel_rfl)
 have b':(az v.1==az v.2)=false:=by rw [beq_eq_false_iff_ne];exact b
 rw [if_neg (by rw [not_or];exact ⟨a,b⟩)]
 by_cases c:az v.1=0
 . rw [if_pos c]
   exact vt [hc h1,hc h2,hb 41 a',hb 45 b',hb 49 (beq_iff_eq.2 c)] (by kernel_rfl)
 have c':(az v.1==0)=false:=by rw [beq_eq_false_iff_ne];exact c
 rw [if_neg c]
 exact vt [hc h1,hc h2,hb 41 a',hb 45 b',hb 49 c',hc hn,hc h3,hw 59 kw] (by kernel_rfl)
theorem ajk (q:Rat) (hq:Sm 10000 q) (h1:az q=1):VP Tryz.prog G 276 [T1 q] (.bool true):=by
 have hv:=xs0 G q (hq.mono (by omega))
 rw [h1] at hv
 exact vt [hc (xT1 G q (hq.mono (by omega))),hc hv] (by kernel_rfl)
theorem ad5 (q:Rat) (v:Q2) (hq:Sm 1000 q) (hv:bl 20000 v) (h1:az q=1):VP Tryz.prog G 246 [T1 q,E1 v] (.int .i64 (gh q v)):=vt [hc (xF1 G q v (hq.mono (by omega)) (hv.mono (by omega))),hc (ajk G q (hq.mono (by omega)) h1),hc (xs1 G q v hq hv)] (by kernel_rfl)
theorem ajl (q:Rat) (v:Q2) (hq:Sm 1000 q) (hv:bl 20000 v):VP Tryz.prog G 100 [T1 q,E1 v] (.int .i64 (gh q v)):=vt [hc (xs1 G q v hq hv)] (by kernel_rfl)
end
end Go.Proofs.YtndoagbiakehnaaGreat
end

section
set_option maxRecDepth 100000
namespace Go.Proofs.YtndoagbiakehnaaGreat
open Go.VL Go.Proofs Go.Lib
abbrev Q4:=Q2 × Q2
def cC (k:Nat) (w:Q4):Prop:=bl k w.1/\bl k w.2
theorem cC.mono {k m:Nat} {w:Q4} (h:cC k w) (hm:k<=m:=by omega):cC m w:=⟨h.1.mono hm,h.2.mono hm⟩
def E2 (w:Q4):AV := .sl 4 [QV w.1.1,QV w.1.2,QV w.2.1,QV w.2.2]
def T2 (p q:Rat):AV := .sl 1 [EV p,E1 (q,0)]
theorem Up (v:Q2):af (E1 v):=PU.pure
instance {w:Q4}:PU (E2 w):=PU.slice (by intro c hc;simp only [flat,List.flatMap_cons,List.flatMap_nil,List.append_nil,List.mem_append] at hc;rcases hc with hc | hc | hc | hc<;>exact gU _ c hc) (by intro c hc ρ;simp at hc;rcases hc with rfl | rfl | rfl | rfl<;>exact PU.fix ρ)
instance {p q:Rat}:PU (T2 p q):=PU.slice (by
 intro c hc
 simp only [flat,List.flatMap_cons,List.flatMap_nil,List.append_nil,List.mem_append] at hc
 rcases hc with hc | hc
 . rcases List.mem_singleton.1 hc with rfl;exact b6 p
 . rcases List.mem_singleton.1 hc with rfl;exact Up _) (by intro c hc ρ;simp at hc;rcases hc with rfl | rfl<;>exact PU.fix ρ)
def cY (a b:Q2):Q2:=(a.1+b.1,a.2+b.2)
def j3 (a:Q2):Q2:=(-a.1, -a.2)
def bO (a b:Q4):Q4:=(cY a.1 b.1,cY a.2 b.2)
def bQ (a:Q4):Q4:=(j3 a.1,j3 a.2)
def bD (p q:Rat) (a b:Q4):Q4:=(cY (aR p a.1 b.1) (aR p (aR p a.2 b.2) (q,0)),cY (aR p a.1 b.2) (aR p a.2 b.1))
def qc (p q:Rat) (a:Q4):Q2:=cY (aR p a.1 a.1) (j3 (aR p (aR p a.2 a.2) (q,0)))
theorem nj {q:Rat} {a b:Q2} {i j k:Nat} (hq:Sm i q) (ha:bl j a) (hb:bl k b):bl (2*j+2*k+i+1) (aR q a b):=⟨((ha.1.mul hb.1).add ((ha.2.mul hb.2).mul hq)).mono (by omega),((ha.1.mul hb.2).add (ha.2.mul hb.1)).mono (by omega)⟩
theorem G0 {p x:Rat} {a:Q2} {j k:Nat} (ha:bl j a) (hx:Sm k x):bl (j+k) (aR p a (x,0)):=by
 have e:aR p a (x,0)=(a.1*x,a.2*x):=by unfold aR;refine Prod.ext ?_ ?_<;>simp only []<;>grind
 rw [e];exact ⟨ha.1.mul hx,ha.2.mul hx⟩
theorem Wf {a b:Q2} {j k:Nat} (ha:bl j a) (hb:bl k b):bl (j+k+1) (cY a b):=⟨ha.1.add hb.1,ha.2.add hb.2⟩
theorem KP {a:Q2} {j:Nat} (ha:bl j a):bl j (j3 a):=⟨ha.1.neg,ha.2.neg⟩
theorem xG {σ : ae} {i:VL.Id} {w:Q4} {b t:Bool} (h : σ i=some ⟨[QV w.1.1,QV w.1.2,QV w.2.1,QV w.2.2],4,b⟩):View σ (.osl i 4 0 4 t) (E2 w):=View.osl (bk:=⟨_,4,b⟩) h rfl (by simp) (by
 rw [List.drop_zero,List.take_of_length_le (by simp)]
 refine ah.pure ?_
 intro c hc
 simp only [flat,List.flatMap_cons,List.flatMap_nil,List.append_nil,List.mem_append] at hc
 rcases hc with hc | hc | hc | hc<;>exact gU _ c hc) rfl (by intro d hd;simp at hd;rcases hd with rfl | rfl | rfl | rfl<;>rfl)
def j4 (w:Q4):cN:=⟨[QV w.1.1,QV w.1.2,QV w.2.1,QV w.2.2],4,false⟩
def vE (v:Q2):cN:=⟨[QV v.1,QV v.2],4,false⟩
theorem Uq {ρ : VL.Id->VL.Id} {v:Q2}:(vE v).cG ρ = vE v:=by
 unfold vE
 simp only [bM,aT,bn,PU.fixed]
theorem rb {ρ : VL.Id->VL.Id} {i:VL.Id} {v:Q2}:oa ρ [(i,vE v)]=[(ρ i,vE v)]:=by rw [aU,bh,Uq]
section
variable (G:Nat->Option (List AV))
theorem cf4 (f:Nat) (a:Q4) (p1 p2 p3 p4:Bool) (h1:VP Tryz.prog G f [QV a.1.1] (.bool p1)) (h2:VP Tryz.prog G f [QV a.1.2] (.bool p2)) (h3:VP Tryz.prog G f [QV a.2.1] (.bool p3)) (h4:VP Tryz.prog G f [QV a.2.2] (.bool p4)):VP Tryz.prog G 262 [E2 a, .fn (.func f) [] []] (.bool (p1||p2||p3||p4)):=by
 have hi:VP Tryz.prog G 284 [E2 a, .fn (.func f) [] []] (.int .i64 (if p1 then 0 else if p2 then 1 else if p3 then 2 else if p4 then 3 else -1)):=by
   cases p1
   . cases p2
     . cases p3
       . cases p4<;>exact vt [hc h1,hc h2,hc h3,hc h4] (by kernel_rfl)
       . exact vt [hc h1,hc h2,hc h3] (by kernel_rfl)
     . exact vt [hc h1,hc h2] (by kernel_rfl)
   . exact vt [hc h1] (by kernel_rfl)
 cases p1<;>cases p2<;>cases p3<;>cases p4<;>exact vt [hc hi] (by kernel_rfl)
theorem Q3 (a:Q4) (ha:cC 100000 a):VP Tryz.prog G 259 [E2 a] (.bool (decide (a=((0,0),(0,0))))):=by
 have h:=cf4 G 283 a _ _ _ _ (z1 G a.1.1 ha.1.1) (z1 G a.1.2 ha.1.2) (z1 G a.2.1 ha.2.1) (z1 G a.2.2 ha.2.2)
 have e:(!(!decide (a.1.1=0) || !decide (a.1.2=0) || !decide (a.2.1=0) || !decide (a.2.2=0)))=decide (a=((0,0),(0,0))):=by
   rw [Bool.not_or,Bool.not_or,Bool.not_or,Bool.not_not,Bool.not_not,Bool.not_not,Bool.not_not, <- Bool.decide_and, <- Bool.decide_and, <- Bool.decide_and]
   exact decide_eq_decide.2 ⟨fun h=>Prod.ext (Prod.ext h.1.1.1 h.1.1.2) (Prod.ext h.1.2 h.2),fun h=>by rw [h];exact ⟨⟨⟨rfl,rfl⟩,rfl⟩,rfl⟩⟩
 exact vt [hc h,hb 5 e] (by kernel_rfl)
theorem Wh (a b:Q4) (ha:cC 50000 a) (hb:cC 50000 b):VP Tryz.prog G 209 [E2 a,E2 b] (E2 (bO a b)) :=
 VP.dm hN [hc (xS G a.1.1 b.1.1 (ha.1.1.mono (by omega)) (hb.1.1.mono (by omega))),hc (xS G a.1.2 b.1.2 (ha.1.2.mono (by omega)) (hb.1.2.mono (by omega))),hc (xS G a.2.1 b.2.1 (ha.2.1.mono (by omega)) (hb.2.1.mono (by omega))),hc (xS G a.2.2 b.2.2 (ha.2.2.mono (by omega)) (hb.2.2.mono (by omega)))] [([3],j4 (bO a b))] (.osl [3] 4 0 4 false) (by kernel_rfl) (fun σ h=>xG (h ([3],j4 (bO a b)) (by simp)))
theorem ad6 (a:Q4) (ha:cC 50000 a):VP Tryz.prog G 203 [E2 a] (E2 (bQ a)) :=
 VP.dm hN [hc (GI G a.1.1 (ha.1.1.mono (by omega))),hc (GI G a.1.2 (ha.1.2.mono (by omega))),hc (GI G a.2.1 (ha.2.1.mono (by omega))),hc (GI G a.2.2 (ha.2.2.mono (by omega)))] [([3],j4 (bQ a))] (.osl [3] 4 0 4 false) (by kernel_rfl) (fun σ h=>xG (h ([3],j4 (bQ a)) (by simp)))
theorem Zc (a b:Q2) (ha:bl 50000 a) (hb:bl 50000 b) (p:VL.Id):aw Tryz.prog G 209 [E1 a,E1 b] p [] { val := .osl (3::p) 4 0 2 false,rd:=[],up:=[(3::p,some (vE (cY a b)))] } :=
 aw.tr (p:=p) (up:=[(3::p,vE (cY a b))]) sL (fun _=>[]) [hc (xS G a.1 b.1 (ha.1.mono (by omega)) (hb.1.mono (by omega))),hc (xS G a.2 b.2 (ha.2.mono (by omega)) (hb.2.mono (by omega)))] [E1 a,E1 b] [] (.osl [3,0] 4 0 2 false) [([3,0],vE (cY a b))] (by kernel_rfl) (by rw [nE.fix]) rfl rfl (by rw [rb];rfl) (by simp) (by simp)
theorem Ur (p q:Rat):VP Tryz.prog G 269 [T2 p q] (.tup [T1 p,E1 (q,0)]):=vt [] (by kernel_rfl)
theorem G1 (a:Q4):VP Tryz.prog G 270 [E2 a] (.tup [E1 a.1,E1 a.2]):=vt [] (by kernel_rfl)
theorem KQ:VP Tryz.prog G 267 [.int .i64 4] (E2 ((0,0),(0,0))) :=
 VP.dm hN [hc (jo G 0 (by decide) (by decide)),hc (jo G 0 (by decide) (by decide)),hc (jo G 0 (by decide) (by decide)),hc (jo G 0 (by decide) (by decide))] [([2],j4 ((0,0),(0,0)))] (.osl [2] 4 0 4 false) (by kernel_rfl) (fun σ h=>xG (h ([2],j4 ((0,0),(0,0))) (by simp)))
theorem G2 (p:VL.Id):aw Tryz.prog G 267 [.int .i64 4] p [] { val := .osl (2::p) 4 0 4 false,rd:=[],up:=[(2::p,some ⟨[QV 0,QV 0,QV 0,QV 0],4,false⟩)] } :=
 aw.tr (p:=p) (up:=[(2::p,⟨[QV 0,QV 0,QV 0,QV 0],4,false⟩)]) jD (fun _=>[]) [hc (jo G 0 (by decide) (by decide)),hc (jo G 0 (by decide) (by decide)),hc (jo G 0 (by decide) (by decide)),hc (jo G 0 (by decide) (by decide))] [.int .i64 4] [] (.osl [2,0] 4 0 4 false) [([2,0],⟨[QV 0,QV 0,QV 0,QV 0],4,false⟩)] (by kernel_rfl) (by rw [nE.fix]) rfl rfl (by simp only [aU,bh,bM,aT,bn,PU.fixed];rfl) (by simp) (by simp)
theorem Cs {p q:Rat} {a b:Q4} (h:a=((0,0),(0,0))∨b=((0,0),(0,0))):bD p q a b=((0,0),(0,0)):=by
 unfold bD cY aR
 rcases h with rfl | rfl<;>refine Prod.ext (Prod.ext ?_ ?_) (Prod.ext ?_ ?_)<;>simp only []<;>grind
theorem ad7 (p q:Rat) (a b:Q4) (hp:Sm 1000 p) (hq:Sm 1000 q) (ha:cC 3000 a) (hb:cC 3000 b):VP Tryz.prog G 242 [T2 p q,E2 a,E2 b] (E2 (bD p q a b)):=by
 have za:=Q3 G a (ha.mono (by omega))
 have zb:=Q3 G b (hb.mono (by omega))
 by_cases a0:a=((0,0),(0,0))
 . rw [decide_eq_true a0] at za
   rw [Cs (.inl a0)]
   exact vt [hc za,hc (KQ G)] (by kernel_rfl)
 rw [decide_eq_false a0] at za
 by_cases b0:b=((0,0),(0,0))
 . rw [decide_eq_true b0] at zb
   rw [Cs (.inr b0)]
   exact vt [hc za,hc zb,hc (KQ G)] (by kernel_rfl)
 rw [decide_eq_false b0] at zb
 have z0:Sm 1000 (0:Rat):=(Sm.zero).mono (by omega)
 have s1:=nj hp ha.1 hb.1
 have s2:=nj hp ha.2 hb.2
 have s3:bl (13001+1000) (aR p (aR p a.2 b.2) (q,0)):=G0 (s2.mono (by omega)) hq
 have s4:=nj hp ha.1 hb.2
 have s5:=nj hp ha.2 hb.1
 have m1:=Cm G p a.1 b.1 (hp.mono (by omega)) (ha.1.mono (by omega)) (hb.1.mono (by omega))
 have m2:=Cm G p a.2 b.2 (hp.mono (by omega)) (ha.2.mono (by omega)) (hb.2.mono (by omega))
 have m3:=Cm G p (aR p a.2 b.2) (q,0) (hp.mono (by omega)) (s2.mono (by omega)) ⟨hq.mono (by omega),z0.mono (by omega)⟩
 have m4:=Cm G p a.1 b.2 (hp.mono (by omega)) (ha.1.mono (by omega)) (hb.2.mono (by omega))
 have m5:=Cm G p a.2 b.1 (hp.mono (by omega)) (ha.2.mono (by omega)) (hb.1.mono (by omega))
 have d1:=fun r=>Zc G (aR p a.1 b.1) (aR p (aR p a.2 b.2) (q,0)) (s1.mono (by omega)) (s3.mono (by omega)) r
 have d2:=QL G (aR p a.1 b.2) (aR p a.2 b.1) (s4.mono (by omega)) (s5.mono (by omega))
 exact VP.dm hN [hc za,hc zb,hc (Ur G p q),hc (G1 G a),hc (G1 G b),hc m1,hc m2,hc m3, .rel 209 _ [] _ (fun r _=>d1 r) (by intro r x hx;simp at hx),hc m4,hc m5,hc d2] [([56],j4 (bD p q a b))] (.osl [56] 4 0 4 false) (by kernel_rfl) (fun σ h=>xG (h ([56],j4 (bD p q a b)) (by simp)))
theorem Q5 {p q:Rat} {a:Q4} {k:Nat} (hp:Sm 1000 p) (hq:Sm 1000 q) (ha:cC k a):bl (8*k+3003) (qc p q a):=(Wf (nj hp ha.1 ha.1) (KP (G0 (nj hp ha.2 ha.2) hq))).mono (by omega)
theorem Wi (a:Q4) (ha:cC 100000 a):VP Tryz.prog G 236 [E2 a, .int .i64 4] (.bool true):=by
 have n1:∀ x,Sm 100000 x->VP Tryz.prog G 263 [QV x] (.bool false):=fun x hx=>vt [hc (tG G x hx)] (by kernel_rfl)
 exact vt [hc (cf4 G 263 a false false false false (n1 _ ha.1.1) (n1 _ ha.1.2) (n1 _ ha.2.1) (n1 _ ha.2.2))] (by kernel_rfl)
theorem Q6 (p q:Rat) (hp:Sm 100000 p) (hq:Sm 100000 q):VP Tryz.prog G 235 [T2 p q] (.bool true):=vt [hc (tn G p hp),hc (QO G (q,0) ⟨hq,gZ⟩)] (by kernel_rfl)
theorem DN (p q:Rat) (a:Q4) (hp:Sm 100000 p) (hq:Sm 100000 q) (ha:cC 100000 a):VP Tryz.prog G 202 [T2 p q,E2 a] (.bool true):=vt [hc (Q6 G p q hp hq),hc (Wi G a ha)] (by kernel_rfl)
theorem IK (p q:Rat) (a b:Q4) (hp:Sm 100000 p) (hq:Sm 100000 q) (ha:cC 100000 a) (hb:cC 100000 b):VP Tryz.prog G 208 [T2 p q,E2 a,E2 b] (.bool true):=vt [hc (DN G p q a hp hq ha),hc (Wi G b hb)] (by kernel_rfl)
theorem KR (p q:Rat) (a b:Q4) (hp:Sm 1000 p) (hq:Sm 1000 q) (ha:cC 50000 a) (hb:cC 50000 b):VP Tryz.prog G 155 [T2 p q,E2 a,E2 b] (E2 (bO a b)):=vt [hc (IK G p q a b (hp.mono (by omega)) (hq.mono (by omega)) (ha.mono (by omega)) (hb.mono (by omega))),hc (Wh G a b ha hb)] (by kernel_rfl)
theorem Wj (p q:Rat) (a b:Q4) (hp:Sm 1000 p) (hq:Sm 1000 q) (ha:cC 50000 a) (hb:cC 50000 b):VP Tryz.prog G 157 [T2 p q,E2 a,E2 b] (E2 (bO a (bQ b))):=vt [hc (IK G p q a b (hp.mono (by omega)) (hq.mono (by omega)) (ha.mono (by omega)) (hb.mono (by omega))),hc (ad6 G b hb),hc (Wh G a (bQ b) ha ⟨KP hb.1,KP hb.2⟩)] (by kernel_rfl)
theorem KS (p q:Rat) (a b:Q4) (hp:Sm 1000 p) (hq:Sm 1000 q) (ha:cC 3000 a) (hb:cC 3000 b):VP Tryz.prog G 206 [T2 p q,E2 a,E2 b] (E2 (bD p q a b)):=vt [hc (IK G p q a b (hp.mono (by omega)) (hq.mono (by omega)) (ha.mono (by omega)) (hb.mono (by omega))),hc (ad7 G p q a b hp hq ha hb)] (by kernel_rfl)
theorem rS (p q x:Rat) (hp:Sm 100000 p) (hq:Sm 100000 q) (hx:Sm 100000 x):VP Tryz.prog G 258 [T2 p q,QV x] (E2 ((x,0),(0,0))) :=
 VP.dm hN [hc (Q6 G p q hp hq),hc (tG G x hx), .rel 267 _ [] _ (fun p _=>G2 G p) (by intro p x hx;simp at hx)] [([2,13],j4 ((x,0),(0,0)))] (.osl [2,13] 4 0 4 false) (by kernel_rfl) (fun σ h=>xG (h ([2,13],j4 ((x,0),(0,0))) (by simp)))
theorem Zd (p q:Rat) (hp:Sm 100000 p) (hq:Sm 100000 q):VP Tryz.prog G 241 [T2 p q, .int .i64 1] (E2 ((0,0),(1,0))) :=
 VP.dm hN [hc (Q6 G p q hp hq), .rel 267 _ [] _ (fun p _=>G2 G p) (by intro p x hx;simp at hx),hc (jo G 1 (by decide) (by decide))] [([2,17],j4 ((0,0),(1,0)))] (.osl [2,17] 4 0 4 false) (by kernel_rfl) (fun σ h=>xG (h ([2,17],j4 ((0,0),(1,0))) (by simp)))
def xV (p q:Rat) (w:Q4):Int:=if gh p w.2=0∨gh p w.1=gh p w.2 then gh p w.1 else if gh p w.1=0 then gh p w.2 else gh p w.1*gh p (qc p q w)
theorem DO (p:Rat) (v:Q2):gh p v = -1∨gh p v=0∨gh p v=1:=by
 unfold gh
 rcases pT v.1 with h | h | h<;>rcases pT v.2 with h2 | h2 | h2<;>rcases pT (v.1*v.1 + -(p*(v.2*v.2))) with h3 | h3 | h3<;>rw [h,h2,h3]<;>decide
theorem M6 {p:Rat} {a b:Q2}:aR p a b=aR p b a:=by unfold aR;refine Prod.ext ?_ ?_<;>simp only []<;>grind
theorem ad8 (p q:Rat) (w:Q4) (hp:Sm 1000 p) (hq:Sm 1000 q) (p5:cC 800 w):VP Tryz.prog G 200 [T2 p q,E2 w] (.int .i64 (xV p q w)):=by
 have z0:Sm 1000 (0:Rat):=(Sm.zero).mono (by omega)
 have h1:=GX G p w.1 (hp.mono (by omega)) (p5.1.mono (by omega))
 have h2:=GX G p w.2 (hp.mono (by omega)) (p5.2.mono (by omega))
 have s1:=nj hp p5.1 p5.1
 have s2:=nj hp p5.2 p5.2
 have s3:bl (4201+1000) (aR p (aR p w.2 w.2) (q,0)):=G0 (s2.mono (by omega)) hq
 have m1:=vA G p w.1 w.1 (hp.mono (by omega)) (p5.1.mono (by omega)) (p5.1.mono (by omega))
 have m2:=vA G p w.2 w.2 (hp.mono (by omega)) (p5.2.mono (by omega)) (p5.2.mono (by omega))
 have m3:=vA G p (q,0) (aR p w.2 w.2) (hp.mono (by omega)) ⟨hq.mono (by omega),z0.mono (by omega)⟩ (s2.mono (by omega))
 rw [M6 (a:=(q,0))] at m3
 have m4:=GR G p (aR p w.1 w.1) (aR p (aR p w.2 w.2) (q,0)) (hp.mono (by omega)) (s1.mono (by omega)) (s3.mono (by omega))
 have h3:=GX G p (qc p q w) (hp.mono (by omega)) ((Wf s1 (KP s3)).mono (by omega))
 have kw:IntKind.i64.wrap (gh p w.1*gh p (qc p q w))=gh p w.1*gh p (qc p q w):=by
   rw [IntKind.wrap_i64]
   rcases DO p w.1 with h | h | h<;>rcases DO p (qc p q w) with h' | h' | h'<;>rw [h,h']<;>decide
 unfold xV
 by_cases a:gh p w.2=0
 . rw [if_pos (.inl a)]
   exact vt [hc h1,hc h2,hb 43 (beq_iff_eq.2 a)] (by kernel_rfl)
 have a':(gh p w.2==0)=false:=by rw [beq_eq_false_iff_ne];exact a
 by_cases b:gh p w.1=gh p w.2
 . rw [if_pos (.inr b)]
   exact vt [hc h1,hc h2,hb 43 a',hb 47 (beq_iff_eq.2 b)] (by kernel_rfl)
 have b':(gh p w.1==gh p w.2)=false:=by rw [beq_eq_false_iff_ne];exact b
 rw [if_neg (by rw [not_or];exact ⟨a,b⟩)]
 by_cases c:gh p w.1=0
 . rw [if_pos c]
   exact vt [hc h1,hc h2,hb 43 a',hb 47 b',hb 52 (beq_iff_eq.2 c)] (by kernel_rfl)
 have c':(gh p w.1==0)=false:=by rw [beq_eq_false_iff_ne];exact c
 rw [if_neg c]
 exact vt [hc h1,hc h2,hb 43 a',hb 47 b',hb 52 c',hc m1,hc m2,hc m3,hc m4,hc h3,hw 74 kw] (by kernel_rfl)
theorem Ze (p q:Rat) (hp:Sm 1000 p) (hq:Sm 1000 q) (p1:az p=1) (q1:az q=1):VP Tryz.prog G 234 [T2 p q] (.bool true):=by
 have hv:=Cp G p (hp.mono (by omega))
 rw [p1] at hv
 have z0:Sm 1000 (0:Rat):=(Sm.zero).mono (by omega)
 have h2:=GX G p (q,0) (hp.mono (by omega)) ⟨hq.mono (by omega),z0.mono (by omega)⟩
 have e:gh p (q,0)=1:=by unfold gh;rw [if_pos (.inl (by rfl))];exact q1
 rw [e] at h2
 exact vt [hc (jo G 0 (by decide) (by decide)),hc (rS G p q 0 (hp.mono (by omega)) (hq.mono (by omega)) gZ),hc (DN G p q ((0,0),(0,0)) (hp.mono (by omega)) (hq.mono (by omega)) ⟨⟨gZ,gZ⟩,⟨gZ,gZ⟩⟩),hc hv,hc h2] (by kernel_rfl)
instance {w:Q4}:PU (.sl 1 [E2 w]):=PU.slice (by intro c hc;simp only [flat,List.flatMap_cons,List.flatMap_nil,List.append_nil] at hc;rcases List.mem_singleton.1 hc with rfl;exact PU.pure) (by intro c hc ρ;simp at hc;subst hc;exact PU.fix ρ)
theorem IL (p q:Rat) (w:Q4) (hp:Sm 1000 p) (hq:Sm 1000 q) (p5:cC 800 w) (p1:az p=1) (q1:az q=1):VP Tryz.prog G 146 [T2 p q,E2 w] (.int .i64 (xV p q w)):=by
 have hg:VP Tryz.prog G 199 [T2 p q, .sl 1 [E2 w]] (.bool true):=vt [hc (DN G p q w (hp.mono (by omega)) (hq.mono (by omega)) (p5.mono (by omega))),hc (Ze G p q hp hq p1 q1)] (by kernel_rfl)
 have hv:ah (ae.of [([3],⟨[E2 w],1,false⟩)]) [T2 p q, .osl [3] 1 0 1 false] [T2 p q, .sl 1 [E2 w]]:=ah.cons (View.pure PU.pure) (ah.cons (iT (b:=false) (by simp [ae.of]) rfl (by intro c hc;rcases List.mem_singleton.1 hc with rfl;exact PU.pure)) ah.nil)
 exact vt [bm [([3],⟨[E2 w],1,false⟩)] hg hv,hc (ad8 G p q w hp hq p5)] (by kernel_rfl)
end
end Go.Proofs.YtndoagbiakehnaaGreat
end

section
set_option maxRecDepth 100000
namespace Go.Proofs.YtndoagbiakehnaaGreat
open Go.VL Go.Proofs Go.Lib
section
variable (G:Nat->Option (List AV))
theorem IM (v:Q2):VP Tryz.prog G 218 [E1 v] (.bool (decide (v=(0,0)))):=by
 have k1:=aQ v.1.num.natAbs
 have k2:=aQ v.2.num.natAbs
 have hz:∀ x:Rat,x=0->decide ((aa x.num.natAbs:Int)>0)=false:=fun x h=>ag (by have:=bE.2 (show x.num.natAbs=0 by rw [h];rfl);omega)
 have hn:∀ x:Rat,x≠0->decide ((aa x.num.natAbs:Int)>0)=true:=fun x h=>ai (by
   have:aa x.num.natAbs≠0:=fun e=>h (by have:=bE.1 e;exact Rat.num_eq_zero.1 (by omega))
   omega)
 by_cases h1:v.1=0
 . by_cases h2:v.2=0
   . rw [decide_eq_true (Prod.ext h1 h2)]
     exact vt [ho 16 k1,hb 17 (hz _ h1),ho 16 k2,hb 17 (hz _ h2)] (by kernel_rfl)
   . rw [decide_eq_false (fun e=>h2 (by rw [e]))]
     exact vt [ho 16 k1,hb 17 (hz _ h1),ho 16 k2,hb 17 (hn _ h2)] (by kernel_rfl)
 . rw [decide_eq_false (fun e=>h1 (by rw [e]))]
   exact vt [ho 16 k1,hb 17 (hn _ h1)] (by kernel_rfl)
theorem xR2 (w:Q4) (hw:cC 100000 w):VP Tryz.prog G 249 [E2 w, .int .i64 4] (.bool true):=vt [hc (tH G _ hw.1.1),hc (tH G _ hw.1.2),hc (tH G _ hw.2.1),hc (tH G _ hw.2.2)] (by kernel_rfl)
theorem xT2 (p q:Rat) (hp:Sm 100000 p) (hq:Sm 100000 q):VP Tryz.prog G 248 [T2 p q] (.bool true):=vt [hc (r6R G p hp),hc (xR1 G (q,0) ⟨hq,gZ⟩)] (by kernel_rfl)
theorem xF2 (p q:Rat) (w:Q4) (hp:Sm 100000 p) (hq:Sm 100000 q) (hw:cC 100000 w):VP Tryz.prog G 215 [T2 p q,E2 w] (.bool true):=vt [hc (xT2 G p q hp hq),hc (xR2 G w hw)] (by kernel_rfl)
theorem Zf (p q x:Rat):VP Tryz.prog G 219 [T2 p q,QV x] (E2 ((x,0),(0,0))):=VP.dm hN [hc (jf G 0 (by decide) (by decide)),hc (jf G 0 (by decide) (by decide)),hc (jf G 0 (by decide) (by decide))] [([36],j4 ((x,0),(0,0)))] (.osl [36] 4 0 4 false) (by kernel_rfl) (fun σ h=>xG (h ([36],j4 ((x,0),(0,0))) (by simp)))
theorem Us {ρ : VL.Id->VL.Id} {w:Q4}:(j4 w).cG ρ = j4 w:=by
 unfold j4
 simp only [bM,aT,bn,PU.fixed]
theorem Zg {ρ : VL.Id->VL.Id} {i:VL.Id} {w:Q4}:oa ρ [(i,j4 w)]=[(ρ i,j4 w)]:=by rw [aU,bh,Us]
theorem ad9 (p q x:Rat) (r:VL.Id):aw Tryz.prog G 219 [T2 p q,QV x] r [] { val := .osl (36::r) 4 0 4 false,rd:=[],up:=[(36::r,some (j4 ((x,0),(0,0))))] } :=
 aw.tr (p:=r) (up:=[(36::r,j4 ((x,0),(0,0)))]) iQ (fun _=>[]) [hc (jf G 0 (by decide) (by decide)),hc (jf G 0 (by decide) (by decide)),hc (jf G 0 (by decide) (by decide))] [T2 p q,QV x] [] (.osl [36,0] 4 0 4 false) [([36,0],j4 ((x,0),(0,0)))] (by kernel_rfl) (by rw [nE.fix]) rfl rfl (by rw [Zg];rfl) (by simp) (by simp)
theorem Zh (p q:Rat):VP Tryz.prog G 251 [T2 p q, .int .i64 1] (E2 ((0,0),(1,0))):=VP.dm hN [hc (jf G 0 (by decide) (by decide)), .rel 219 _ [] _ (fun r _=>ad9 G p q 0 r) (by intro r x hx;simp at hx),hc (jf G 1 (by decide) (by decide))] [([36,3],j4 ((0,0),(1,0)))] (.osl [36,3] 4 0 4 false) (by kernel_rfl) (fun σ h=>xG (h ([36,3],j4 ((0,0),(1,0))) (by simp)))
theorem G3 (p q:Rat) (a b:Q4) (ha:cC 100000 a) (hb:cC 100000 b):VP Tryz.prog G 172 [T2 p q,E2 a,E2 b] (E2 (bO a b)) :=
 VP.dm hN [hc (Ac G _ _ ha.1.1 hb.1.1),hc (Ac G _ _ ha.1.2 hb.1.2),hc (Ac G _ _ ha.2.1 hb.2.1),hc (Ac G _ _ ha.2.2 hb.2.2)] [([78],j4 (bO a b))] (.osl [78] 4 0 4 false) (by kernel_rfl) (fun σ h=>xG (h ([78],j4 (bO a b)) (by simp)))
theorem aea (p q:Rat) (a:Q4) (ha:cC 100000 a):VP Tryz.prog G 101 [T2 p q,E2 a] (E2 (bQ a)) :=
 VP.dm hN [hc (GL G _ ha.1.1),hc (GL G _ ha.1.2),hc (GL G _ ha.2.1),hc (GL G _ ha.2.2)] [([62],j4 (bQ a))] (.osl [62] 4 0 4 false) (by kernel_rfl) (fun σ h=>xG (h ([62],j4 (bQ a)) (by simp)))
theorem aeb (q:Rat) (a b:Q2) (ha:bl 100000 a) (hb:bl 100000 b):VP Tryz.prog G 245 [T1 q,E1 a,E1 b] (E1 (cY a (j3 b))):=vt [hc (Wc G q b hb),hc (GZ G q a (j3 b) ha ⟨hb.1.neg,hb.2.neg⟩)] (by kernel_rfl)
theorem Zi (q:Rat) (a b:Q2) (hq:Sm 20000 q) (ha:bl 20000 a) (hb:bl 20000 b):∃ n,(n=48∨n=54∨n=55∨n=80)/\∀ p:VL.Id,aw Tryz.prog G 171 [T1 q,E1 a,E1 b] p [] { val := .osl (n::p) 4 0 2 false,rd:=[],up:=[(n::p,some (vE (aR q a b)))] }:=by
 have za:=Cr G a.2 (ha.2.mono (by omega))
 have zb:=Cr G b.2 (hb.2.mono (by omega))
 have d0:=fun p=>IJ G a.1 b.1 (ha.1.mono (by omega)) (hb.1.mono (by omega)) p
 have m4:=ni G a.1 b.2 (ha.1.mono (by omega)) (hb.2.mono (by omega))
 have m5:=ni G a.2 b.1 (ha.2.mono (by omega)) (hb.1.mono (by omega))
 by_cases a0:a.2=0
 . rw [decide_eq_true a0] at za
   by_cases b0:b.2=0
   . rw [decide_eq_true b0] at zb
     have e:aR q a b=(a.1*b.1,0):=by unfold aR;rw [a0,b0];refine Prod.ext ?_ ?_<;>simp only []<;>grind
     rw [e]
     exact ⟨48, .inl rfl,fun p=>aw.tr (p:=p) (up:=[(48::p,vE (a.1*b.1,0))]) dO (fun _=>[]) [hc za,hc zb, .rel 171 _ [] _ (fun p _=>d0 p) (by intro p x hx;simp at hx),hc (jf G 0 (by decide) (by decide)),hc (M5 G 0)] [T1 q,E1 a,E1 b] [] (.osl [48,0] 4 0 2 false) [([48,0],vE (a.1*b.1,0))] (by kernel_rfl) (by rw [nE.fix]) rfl rfl (by rw [rb];rfl) (by simp) (by simp)⟩
   . rw [decide_eq_false b0] at zb
     have e:aR q a b=(a.1*b.1,a.1*b.2):=by unfold aR;rw [a0];refine Prod.ext ?_ ?_<;>simp only []<;>grind
     rw [e]
     exact ⟨54, .inr (.inl rfl),fun p=>aw.tr (p:=p) (up:=[(54::p,vE (a.1*b.1,a.1*b.2))]) dO (fun _=>[]) [hc za,hc zb, .rel 171 _ [] _ (fun p _=>d0 p) (by intro p x hx;simp at hx),hc m4] [T1 q,E1 a,E1 b] [] (.osl [54,0] 4 0 2 false) [([54,0],vE (a.1*b.1,a.1*b.2))] (by kernel_rfl) (by rw [nE.fix]) rfl rfl (by rw [rb];rfl) (by simp) (by simp)⟩
 rw [decide_eq_false a0] at za
 by_cases b0:b.2=0
 . rw [decide_eq_true b0] at zb
   have e:aR q a b=(a.1*b.1,a.2*b.1):=by unfold aR;rw [b0];refine Prod.ext ?_ ?_<;>simp only []<;>grind
   rw [e]
   exact ⟨55, .inr (.inr (.inl rfl)),fun p=>aw.tr (p:=p) (up:=[(55::p,vE (a.1*b.1,a.2*b.1))]) dO (fun _=>[]) [hc za,hc zb, .rel 171 _ [] _ (fun p _=>d0 p) (by intro p x hx;simp at hx),hc m5] [T1 q,E1 a,E1 b] [] (.osl [55,0] 4 0 2 false) [([55,0],vE (a.1*b.1,a.2*b.1))] (by kernel_rfl) (by rw [nE.fix]) rfl rfl (by rw [rb];rfl) (by simp) (by simp)⟩
 rw [decide_eq_false b0] at zb
 have m2:=ni G a.2 b.2 (ha.2.mono (by omega)) (hb.2.mono (by omega))
 have m3:=ni G (a.2*b.2) q ((ha.2.mul hb.2).mono (by omega)) (hq.mono (by omega))
 have d1:=fun p q'=>QU G (a.1*b.1) (a.2*b.2*q) ((ha.1.mul hb.1).mono (by omega)) (((ha.2.mul hb.2).mul hq).mono (by omega)) p q'
 have d2:=QT G (a.1*b.2) (a.2*b.1) ((ha.1.mul hb.2).mono (by omega)) ((ha.2.mul hb.1).mono (by omega))
 exact ⟨80, .inr (.inr (.inr rfl)),fun p=>aw.tr (p:=p) (up:=[(80::p,vE (aR q a b))]) dO (fun _=>[]) [hc za,hc zb, .rel 171 _ [] _ (fun p _=>d0 p) (by intro p x hx;simp at hx),hc m2,hc m3, .rel 172 _ [([11,38,0],⟨[QV (a.1*b.1)],4,false⟩)] _ (fun p _=>d1 p [11,38,0]) (by intro p x hx;rcases List.mem_singleton.1 hx with rfl;simp),hc m4,hc m5,hc d2] [T1 q,E1 a,E1 b] [] (.osl [80,0] 4 0 2 false) [([80,0],vE (aR q a b))] (by kernel_rfl) (by rw [nE.fix]) rfl rfl (by rw [rb];rfl) (by simp) (by simp)⟩
theorem Zj (q:Rat) (a b:Q2) (ha:bl 100000 a) (hb:bl 100000 b) (p i:VL.Id):aw Tryz.prog G 172 [T1 q, .osl i 4 0 2 false,E1 b] p [(i,vE a)] { val := .osl (38::p) 4 0 2 false,rd:=[i],up:=[(38::p,some (vE (cY a b)))] } :=
 aw.tr (p:=p) (up:=[(38::p,vE (cY a b))]) kh (fun _=>i) [hc (Ac G a.1 b.1 ha.1 hb.1),hc (Ac G a.2 b.2 ha.2 hb.2)] [T1 q, .osl [1] 4 0 2 false,E1 b] [([1],vE a)] (.osl [38,0] 4 0 2 false) [([38,0],vE (cY a b))] (by kernel_rfl) (by simp only [aT,bn,PU.fixed,vg];rfl) (by rw [rb];rfl) rfl (by rw [rb];rfl) (by simp) (by simp)
theorem wK {a:Q2}:cY a (0,0)=a:=by unfold cY;refine Prod.ext ?_ ?_<;>simp only []<;>grind
theorem M7 {a:Q2}:cY (0,0) a=a:=by unfold cY;refine Prod.ext ?_ ?_<;>simp only []<;>grind
theorem Q7 {p:Rat} {a:Q2}:aR p a (0,0)=(0,0):=oU (.inr rfl)
theorem DR {p:Rat} {a:Q2}:aR p (0,0) a=(0,0):=oU (.inl rfl)
set_option maxHeartbeats 1000000 in
theorem KT (p q:Rat) (a b:Q4) (hp:Sm 1000 p) (hq:Sm 1000 q) (ha:cC 3000 a) (hb:cC 3000 b):VP Tryz.prog G 171 [T2 p q,E2 a,E2 b] (E2 (bD p q a b)):=by
 have z0:Sm 1000 (0:Rat):=(Sm.zero).mono (by omega)
 have za:=IM G a.2
 have zb:=IM G b.2
 obtain ⟨n,hn,d0⟩:=Zi G p a.1 b.1 (hp.mono (by omega)) (ha.1.mono (by omega)) (hb.1.mono (by omega))
 have m4:=q9 G p a.1 b.2 (hp.mono (by omega)) (ha.1.mono (by omega)) (hb.2.mono (by omega))
 have m5:=q9 G p a.2 b.1 (hp.mono (by omega)) (ha.2.mono (by omega)) (hb.1.mono (by omega))
 by_cases a0:a.2=(0,0)
 . rw [decide_eq_true a0] at za
   by_cases b0:b.2=(0,0)
   . rw [decide_eq_true b0] at zb
     have e:bD p q a b=(aR p a.1 b.1,(0,0)):=by unfold bD;rw [a0,b0];simp only [Q7,DR,wK]
     rw [e]
     rcases hn with rfl | rfl | rfl | rfl<;>exact VP.dm hN [hc za,hc zb, .rel 171 _ [] _ (fun p _=>d0 p) (by intro p x hx;simp at hx),hc (jf G 0 (by decide) (by decide)),hc (QW G p 0)] [([48],j4 (aR p a.1 b.1,(0,0)))] (.osl [48] 4 0 4 false) (by kernel_rfl) (fun σ h=>xG (h ([48],j4 (aR p a.1 b.1,(0,0))) (by simp)))
   . rw [decide_eq_false b0] at zb
     have e:bD p q a b=(aR p a.1 b.1,aR p a.1 b.2):=by unfold bD;rw [a0];simp only [DR,wK]
     rw [e]
     rcases hn with rfl | rfl | rfl | rfl<;>exact VP.dm hN [hc za,hc zb, .rel 171 _ [] _ (fun p _=>d0 p) (by intro p x hx;simp at hx),hc m4] [([54],j4 (aR p a.1 b.1,aR p a.1 b.2))] (.osl [54] 4 0 4 false) (by kernel_rfl) (fun σ h=>xG (h ([54],j4 (aR p a.1 b.1,aR p a.1 b.2)) (by simp)))
 rw [decide_eq_false a0] at za
 by_cases b0:b.2=(0,0)
 . rw [decide_eq_true b0] at zb
   have e:bD p q a b=(aR p a.1 b.1,aR p a.2 b.1):=by unfold bD;rw [b0];simp only [Q7,DR,wK,M7]
   rw [e]
   rcases hn with rfl | rfl | rfl | rfl<;>exact VP.dm hN [hc za,hc zb, .rel 171 _ [] _ (fun p _=>d0 p) (by intro p x hx;simp at hx),hc m5] [([55],j4 (aR p a.1 b.1,aR p a.2 b.1))] (.osl [55] 4 0 4 false) (by kernel_rfl) (fun σ h=>xG (h ([55],j4 (aR p a.1 b.1,aR p a.2 b.1)) (by simp)))
 rw [decide_eq_false b0] at zb
 have s1:=nj hp ha.1 hb.1
 have s2:=nj hp ha.2 hb.2
 have s3:bl (13001+1000) (aR p (aR p a.2 b.2) (q,0)):=G0 (s2.mono (by omega)) hq
 have s4:=nj hp ha.1 hb.2
 have s5:=nj hp ha.2 hb.1
 have m2:=q9 G p a.2 b.2 (hp.mono (by omega)) (ha.2.mono (by omega)) (hb.2.mono (by omega))
 have m3:=q9 G p (aR p a.2 b.2) (q,0) (hp.mono (by omega)) (s2.mono (by omega)) ⟨hq.mono (by omega),z0.mono (by omega)⟩
 have d1:=fun r i=>Zj G p (aR p a.1 b.1) (aR p (aR p a.2 b.2) (q,0)) (s1.mono (by omega)) (s3.mono (by omega)) r i
 have d2:=GZ G p (aR p a.1 b.2) (aR p a.2 b.1) (s4.mono (by omega)) (s5.mono (by omega))
 rcases hn with rfl | rfl | rfl | rfl
 . exact VP.dm hN [hc za,hc zb, .rel 171 _ [] _ (fun p _=>d0 p) (by intro p x hx;simp at hx),hc m2,hc m3, .rel 172 _ [([48,38],vE (aR p a.1 b.1))] _ (fun p _=>d1 p [48,38]) (by intro p x hx;rcases List.mem_singleton.1 hx with rfl;simp),hc m4,hc m5,hc d2] [([80],j4 (bD p q a b))] (.osl [80] 4 0 4 false) (by kernel_rfl) (fun σ h=>xG (h ([80],j4 (bD p q a b)) (by simp)))
 . exact VP.dm hN [hc za,hc zb, .rel 171 _ [] _ (fun p _=>d0 p) (by intro p x hx;simp at hx),hc m2,hc m3, .rel 172 _ [([54,38],vE (aR p a.1 b.1))] _ (fun p _=>d1 p [54,38]) (by intro p x hx;rcases List.mem_singleton.1 hx with rfl;simp),hc m4,hc m5,hc d2] [([80],j4 (bD p q a b))] (.osl [80] 4 0 4 false) (by kernel_rfl) (fun σ h=>xG (h ([80],j4 (bD p q a b)) (by simp)))
 . exact VP.dm hN [hc za,hc zb, .rel 171 _ [] _ (fun p _=>d0 p) (by intro p x hx;simp at hx),hc m2,hc m3, .rel 172 _ [([55,38],vE (aR p a.1 b.1))] _ (fun p _=>d1 p [55,38]) (by intro p x hx;rcases List.mem_singleton.1 hx with rfl;simp),hc m4,hc m5,hc d2] [([80],j4 (bD p q a b))] (.osl [80] 4 0 4 false) (by kernel_rfl) (fun σ h=>xG (h ([80],j4 (bD p q a b)) (by simp)))
 . exact VP.dm hN [hc za,hc zb, .rel 171 _ [] _ (fun p _=>d0 p) (by intro p x hx;simp at hx),hc m2,hc m3, .rel 172 _ [([80,38],vE (aR p a.1 b.1))] _ (fun p _=>d1 p [80,38]) (by intro p x hx;rcases List.mem_singleton.1 hx with rfl;simp),hc m4,hc m5,hc d2] [([80],j4 (bD p q a b))] (.osl [80] 4 0 4 false) (by kernel_rfl) (fun σ h=>xG (h ([80],j4 (bD p q a b)) (by simp)))
theorem Zk (p q:Rat) (a:Q4) (hp:Sm 1000 p) (hq:Sm 1000 q) (ha:cC 3000 a):VP Tryz.prog G 212 [T2 p q,E2 a] (E1 (qc p q a)):=by
 have z0:Sm 1000 (0:Rat):=(Sm.zero).mono (by omega)
 have s1:=nj hp ha.1 ha.1
 have s2:=nj hp ha.2 ha.2
 have s3:bl (13001+1000) (aR p (aR p a.2 a.2) (q,0)):=G0 (s2.mono (by omega)) hq
 have m1:=q9 G p a.1 a.1 (hp.mono (by omega)) (ha.1.mono (by omega)) (ha.1.mono (by omega))
 have m2:=q9 G p a.2 a.2 (hp.mono (by omega)) (ha.2.mono (by omega)) (ha.2.mono (by omega))
 have m3:=q9 G p (aR p a.2 a.2) (q,0) (hp.mono (by omega)) (s2.mono (by omega)) ⟨hq.mono (by omega),z0.mono (by omega)⟩
 have m4:=aeb G p (aR p a.1 a.1) (aR p (aR p a.2 a.2) (q,0)) (s1.mono (by omega)) (s3.mono (by omega))
 exact vt [hc m1,hc m2,hc m3,hc m4] (by kernel_rfl)
theorem xs2 (p q:Rat) (w:Q4) (hp:Sm 1000 p) (hq:Sm 1000 q) (p5:cC 1800 w):VP Tryz.prog G 166 [T2 p q,E2 w] (.int .i64 (xV p q w)):=by
 have h1:=xs1 G p w.1 hp (p5.1.mono (by omega))
 have h2:=xs1 G p w.2 hp (p5.2.mono (by omega))
 have hn:=Zk G p q w hp hq (p5.mono (by omega))
 have h3:=xs1 G p (qc p q w) hp ((Q5 hp hq p5).mono (by omega))
 have kw:IntKind.i64.wrap (gh p w.1*gh p (qc p q w))=gh p w.1*gh p (qc p q w):=by
   rw [IntKind.wrap_i64]
   rcases DO p w.1 with h | h | h<;>rcases DO p (qc p q w) with h' | h' | h'<;>rw [h,h']<;>decide
 unfold xV
 by_cases a:gh p w.2=0
 . rw [if_pos (.inl a)]
   exact vt [hc h1,hc h2,hb 41 (beq_iff_eq.2 a)] (by kernel_rfl)
 have a':(gh p w.2==0)=false:=by rw [beq_eq_false_iff_ne];exact a
 by_cases b:gh p w.1=gh p w.2
 . rw [if_pos (.inr b)]
   exact vt [hc h1,hc h2,hb 41 a',hb 45 (beq_iff_eq.2 b)] (by kernel_rfl)
 have b':(gh p w.1==gh p w.2)=false:=by rw [beq_eq_false_iff_ne];exact b
 rw [if_neg (by rw [not_or];exact ⟨a,b⟩)]
 by_cases c:gh p w.1=0
 . rw [if_pos c]
   exact vt [hc h1,hc h2,hb 41 a',hb 45 b',hb 49 (beq_iff_eq.2 c)] (by kernel_rfl)
 have c':(gh p w.1==0)=false:=by rw [beq_eq_false_iff_ne];exact c
 rw [if_neg c]
 exact vt [hc h1,hc h2,hb 41 a',hb 45 b',hb 49 c',hc hn,hc h3,hw 59 kw] (by kernel_rfl)
theorem aec (p q:Rat):gh p (q,0)=az q:=by unfold gh;rw [if_pos (.inl (by rfl))]
theorem ajn (p q:Rat) (hp:Sm 1000 p) (hq:Sm 1000 q) (p1:az p=1) (q1:az q=1):VP Tryz.prog G 276 [T2 p q] (.bool true):=by
 have z0:Sm 1000 (0:Rat):=(Sm.zero).mono (by omega)
 have hv:=xs0 G p (hp.mono (by omega))
 rw [p1] at hv
 have h2:=xs1 G p (q,0) hp ⟨hq.mono (by omega),z0.mono (by omega)⟩
 rw [aec,q1] at h2
 exact vt [hc (xT2 G p q (hp.mono (by omega)) (hq.mono (by omega))),hc hv,hc h2] (by kernel_rfl)
theorem aed (p q:Rat) (w:Q4) (hp:Sm 1000 p) (hq:Sm 1000 q) (p5:cC 1800 w) (p1:az p=1) (q1:az q=1):VP Tryz.prog G 246 [T2 p q,E2 w] (.int .i64 (xV p q w)):=vt [hc (xF2 G p q w (hp.mono (by omega)) (hq.mono (by omega)) (p5.mono (by omega))),hc (ajn G p q hp hq p1 q1),hc (xs2 G p q w hp hq p5)] (by kernel_rfl)
theorem ajo (p q:Rat) (w:Q4) (hp:Sm 1000 p) (hq:Sm 1000 q) (p5:cC 1800 w):VP Tryz.prog G 100 [T2 p q,E2 w] (.int .i64 (xV p q w)):=vt [hc (xs2 G p q w hp hq p5)] (by kernel_rfl)
end
end Go.Proofs.YtndoagbiakehnaaGreat
end

section
set_option maxRecDepth 100000
namespace Go.Proofs.YtndoagbiakehnaaGreat
open Go.VL Go.Proofs Go.Lib
theorem yl (n:Nat):∃ s,iq n s:=by
 induction n with
 | zero=>exact ⟨0,by unfold iq;decide⟩
 | succ n ih =>
   obtain ⟨s,h1,h2⟩:=ih
   by_cases h:n+1<(s+1)*(s+1)
   . exact ⟨s,by omega,h⟩
   . refine ⟨s+1,by omega, ?_⟩
     have:(s+1+1)*(s+1+1)=(s+1)*(s+1)+2*(s+1)+1:=by rw [Nat.add_mul,Nat.mul_add];omega
     omega
theorem Ah (r:Rat):(r*r).num=r.num*r.num/\(r*r).den=r.den*r.den:=by
 have h0:=Nat.Coprime.mul_left r.reduced r.reduced
 have hc:(r.num*r.num).natAbs.Coprime (r.den*r.den):=by
   rw [Int.natAbs_mul];exact Nat.Coprime.mul_right h0 h0
 have hd:r.den*r.den≠0:=Nat.mul_ne_zero r.den_nz r.den_nz
 have e:r*r=⟨r.num*r.num,r.den*r.den,hd,hc⟩:=by
   rw [Rat.mk_eq_divInt,Kq, <- Rat.divInt_eq_div]
   simp
 rw [e];exact ⟨rfl,rfl⟩
theorem Q8 {q:Rat} {s t:Nat} (c1:(s:Int)*s=q.num) (c2:(t:Int)*t=(q.den:Int)):((s:Int):Rat)/((t:Int):Rat)*(((s:Int):Rat)/((t:Int):Rat))=q:=by
 have ht:((t:Int):Rat)≠0:=by
   intro e
   have:(t:Int)=0:=by exact_mod_cast e
   rw [this] at c2
   have:=q.den_pos
   omega
 have h:((q.num:Int):Rat)/(((q.den:Nat):Int):Rat)=q:=by rw [<- Rat.divInt_eq_div];exact Rat.num_divInt_den q
 have d1:((q.num:Int):Rat)=((s:Int):Rat)*((s:Int):Rat):=by rw [<- c1];exact Rat.intCast_mul ..
 have d2:(((q.den:Nat):Int):Rat)=((t:Int):Rat)*((t:Int):Rat):=by rw [<- c2];exact Rat.intCast_mul ..
 refine Eq.trans ?_ h
 rw [d1,d2]
 generalize ((s:Int):Rat)=x at *
 generalize ((t:Int):Rat)=y at *
 grind
section
variable (G:Nat->Option (List AV))
theorem DT (z:Int) (s:Nat) (hz:0<z) (hw:aa z.natAbs<=400) (hs:iq z.natAbs s):VP Tryz.prog G 302 [IV z] (.tup [IV (s:Int), .bool (decide ((s:Int)*s=z))]):=by
 have Xk:aa s<=400:=Nat.le_trans (aP (by have:=hs.1;exact Nat.le_trans (Nat.le_mul_self s) this)) hw
 have h1:=IG G z s hz hw hs
 have h2:=ada G (s:Int) (s:Int) (by simpa using (by omega:aa s<=1000000)) (by simpa using (by omega:aa s<=1000000))
 have h3:=adb G ((s:Int)*s) z (by rw [Int.natAbs_mul];have:=ly s s;simp only [Int.natAbs_natCast];omega) (by omega)
 have e:(eP ((s:Int)*s) z==0)=decide ((s:Int)*s=z):=by
   unfold eP
   by_cases h:(s:Int)*s=z
   . rw [if_neg (by omega),if_neg (by omega),decide_eq_true h];rfl
   . rw [decide_eq_false h]
     split
     . rfl
     . rw [if_pos (by omega)];rfl
 exact vt [hc h1,hc h2,hc h3,hb 20 e] (by kernel_rfl)
theorem Q9 (q r:Rat) (hq:0<q.num) (hs:Sm 400 q) (hr:r*r=q) (h0:0<r.num):VP Tryz.prog G 287 [QV q] (.tup [QV r, .bool true]):=by
 have e1:q.num=r.num*r.num:=by rw [<- hr];exact (Ah r).1
 have e2:q.den=r.den*r.den:=by rw [<- hr];exact (Ah r).2
 have rs:∀ n:Nat,iq (n*n) n:=fun n=>⟨Nat.le_refl _,Nat.mul_lt_mul'' (Nat.lt_succ_self n) (Nat.lt_succ_self n)⟩
 have a1:=DT G q.num r.num.natAbs hq hs.1 (by rw [e1,Int.natAbs_mul];exact rs _)
 have a2:=DT G (q.den:Int) r.den (by have:=q.den_pos;omega) (by simpa using hs.2) (by rw [Int.natAbs_natCast,e2];exact rs _)
 have c1:((r.num.natAbs:Int)*(r.num.natAbs:Int)=q.num):=by rw [e1,Int.natAbs_of_nonneg (by omega)]
 have c2:((r.den:Int)*(r.den:Int)=(q.den:Int)):=by rw [e2];simp
 rw [decide_eq_true c1] at a1
 rw [decide_eq_true c2] at a2
 have k:(r.num.natAbs:Int)=r.num:=Int.natAbs_of_nonneg (by omega)
 rw [k] at a1
 exact Gw q.num q.den r.num r.den a1 a2
theorem Ra (q:Rat) (hq:0<q.num) (hs:Sm 400 q) (hr:∀ r:Rat,r*r≠q):VP Tryz.prog G 287 [QV q] (.tup [.agg [.bool false, .nils, .bool false, .nils], .bool false]):=by
 obtain ⟨s,h1⟩:=yl q.num.natAbs
 obtain ⟨t,h2⟩:=yl q.den
 have a1:=DT G q.num s hq hs.1 h1
 have a2:=DT G (q.den:Int) t (by have:=q.den_pos;omega) (by simpa using hs.2) (by simpa using h2)
 by_cases c1:((s:Int)*s=q.num)
 . by_cases c2:((t:Int)*t=(q.den:Int))
   . exfalso
     exact hr (((s:Int):Rat)/((t:Int):Rat)) (Q8 c1 c2)
   . rw [decide_eq_true c1] at a1
     rw [decide_eq_false c2] at a2
     exact vt [hc a1,hc a2] (by kernel_rfl)
 . rw [decide_eq_false c1] at a1
   exact vt [hc a1,hc a2] (by kernel_rfl)
end
end Go.Proofs.YtndoagbiakehnaaGreat
end
