/- For every input, FeatureOffset returns true, and its argument reads afterwards as it read before. Conditions: none. -/
import Derived.Test.YtndoagbiakehnaaGreatC12
import Derived.Test.YtndoagbiakehnaaGreatC05
import Derived.Test.YtndoagbiakehnaaGreatC07
import Derived.Deep.Slices
import Derived.Test.YtndoagbiakehnaaGreatProg
import Derived.Test.YtndoagbiakehnaaGreatC09
import Derived.Test.YtndoagbiakehnaaGreatC08
import Derived.Lib.IndexMore
import Derived.KernelRfl
import Derived.OpenShut
import Derived.ProofKit
import Derived.Test.YtndoagbiakehnaaGreatC03
import Derived.Test.YtndoagbiakehnaaGreatRows
import Derived.Test.YtndoagbiakehnaaGreatC11
import Derived.Lib.SmallJoins
set_option linter.unusedSimpArgs false
set_option linter.unusedVariables false
section
set_option maxRecDepth 100000
namespace Go.Proofs.YtndoagbiakehnaaGreat
open Go.VL Go.Proofs Go.Lib
def iI (F:CX->Option NY) (nm:List UInt8) (l:List NX) (s:List UInt8):NY:={ (F (bh l s)).getD ⟨[],false,0,false,(0,0),(0,0),(0,0),(0,0),(0,0),false⟩ with name:=nm++[47]++s }
def Bf (F:CX->Option NY) (l:List NX) (s:List UInt8):Bool:=(F (bh l s)).isNone
abbrev IY (fp:Nat):bY:=(cS [oT 36 .lss 35 34] (.seq (.cond (.t 36) .skip (.exit 0)) (.seq (.block 1 (cS [oM 37 35,oA 38 14 33 35,aF 39 14 38,⟨some 14,.box (.c (.agg [(.bool false),.nils,.nils,.nils,.nils,.nils,.nils,.nils,.nils,.nils,.nils,.nils,.nils,(.bool false)])),none⟩,oM 13 37,oS 14 14 39] (cS [aF 41 14 14,aF 42 4 7,bc 43 fp 41 42,oM 40 43,oE 44 40 0,oE 45 40 1,⟨some 15,.box (.c (.agg [(.bool false),.nils,.nils,.nils,.nils,.nils,.nils,.nils,.nils,.nils,.nils,.nils,.nils,(.bool false)])),none⟩,oS 14 15 44,oM 16 45] (.seq (cS [oM 46 16,bd 47 .neq 46 0] (.cond (.t 47) (cS [oM 48 16,oZ 8,oM 9 48] .ret) .skip)) (.reg (some []) [oM 49 12,oM 50 13,oM 51 0,⟨some 52,.bin .add .str (.t 51) (.c (.str [47])),none⟩,oM 53 2,oM 54 13,oA 55 1 53 54,oL 56 1 55,⟨some 57,.bin .add .str (.t 52) (.t 56),none⟩,aF 58 14 15,⟨some 59,.build [(.str []),(.bool false),.nils,.nils,.nils,.nils,.nils,.nils,.nils,.nils,.nils,.nils,.nils,.nils,(.bool false)] [(0,(1,(.t 57))),(1,(14,(.t 58)))],none⟩,oA 60 15 49 50,oS 15 60 59]))))) (cR [bd 61 .add 35 1,oM 35 61]))))
def Po (nm:List UInt8) (l:List NX) (ins:List (List UInt8)) (cs:List CX) (w q:VL.Id) (i:AV):List AV:=[.str nm,vG l,strs ins, .top, .top, .top, .top, .ref w 0 0, .top, .top, .top, .top, .osl q 15 0 ins.length false]++List.replicate 20 .top++[YQ cs, .int .i64 ((cs.map CX.av).length:Nat),i]++List.replicate 31 .top
theorem Ej {ρ : VL.Id->VL.Id} {nm:List UInt8} {l:List NX} {ins:List (List UInt8)} {cs:List CX} {w q:VL.Id} {i:AV}:bQ ρ (Po nm l ins cs w q i)=Po nm l ins cs (ρ w) (ρ q) (i.dJ ρ):=by
 unfold Po
 simp only [cL,bA,cd,eZ,PU.fixed,kV,Bx,Ef]
def ofR:List AV:=List.replicate 8 .top++[.nils, .int .i64 6]++List.replicate 57 .top
theorem abl {ρ : VL.Id->VL.Id}:bQ ρ ofR=ofR:=by
 unfold ofR
 simp only [cL,bA,cd,eZ,PU.fixed]
theorem afH {q:VL.Id} {k len i:Nat} {t:Bool} (h:i<len):bK k (.osl q k 0 len t) (.int .i64 (i:Int))=some (.ref q i 0):=by
 simp only [bK]
 rw [if_pos ⟨trivial,by omega,by omega⟩]
 simp
def ofK:Nat->VL.Id
 | 1=>[0]
 | _=>[19]
def KF (ms:List NY) (i:Nat):List AV:=(ms.take i).map NY.av++List.replicate (ms.length-i) zN
theorem abm {ms:List NY} {i:Nat} {y:NY} (h:ms[i]? = some y):(KF ms i)[i]? = some zN/\(KF ms i).set i y.av=KF ms (i+1):=by
 have hlt:=(List.getElem?_eq_some_iff.1 h).1
 unfold KF
 have hl:((ms.take i).map NY.av).length=i:=by rw [List.length_map,List.length_take];omega
 rw [show ms.length-i=(ms.length-(i+1))+1 by omega]
 refine ⟨by rw [List.getElem?_append_right (by omega),hl,Nat.sub_self];rfl, ?_⟩
 rw [Ow hl,List.take_add_one,h]
 simp
theorem abn {ρ : VL.Id->VL.Id} {n:Nat}:bQ ρ (List.replicate n zN)=List.replicate n zN:=by rw [iV,List.map_replicate];rfl
theorem Yw {ρ : VL.Id->VL.Id} {ms:List NY} {i:Nat}:bQ ρ (KF ms i)=KF ms i:=by
 unfold KF
 rw [cL,BA,abn]
def KG (w q:VL.Id) (d:Rat) (ms:List NY) (i:Nat):List (VL.Id × dc):=[(w,⟨[QV d],4,false⟩),(q,⟨KF ms i,15,false⟩)]
theorem Ek {ρ : VL.Id->VL.Id} {w q:VL.Id} {d:Rat} {ms:List NY} {i:Nat}:yn ρ (KG w q d ms i)=KG (ρ w) (ρ q) d ms i:=by
 unfold KG
 simp only [bl,bG,ck,Yw,bA,cd,PU.fixed]
section
variable (G:Nat->Option (List AV))
theorem Yx (F:CX->Option NY) (nm:List UInt8) (l:List NX) (ins:List (List UInt8)) (d:Rat) (zH:nm.length<=1000) (Ju:ins.length<=10) (G4:∀ s∈ins,s.length<=1000) (hF:∀ s∈ins,VP Tryz.prog G 64 [(bh l s).av,QV d] (Gs (F (bh l s))))
   (i:Nat) (s:List UInt8) (hs:ins[i]? = some s) (hlt:i<ins.length) (hp:Bf F l s=false) (n:Nat) (Q:bM->VS->Prop)
   (hq:∀ s,Wk G [] s ⟨Po nm l ins (ins.map (bh l)) [0] [19] (.int .i64 ((i+1:Nat):Int)),ae.of (KG [0] [19] d (ins.map (iI F nm l)) (i+1)),n+60⟩->Q .normal s) :
   VW Tryz.prog G [] (IY 64) Q ⟨Po nm l ins (ins.map (bh l)) [0] [19] (.int .i64 (i:Int)),ae.of (KG [0] [19] d (ins.map (iI F nm l)) i),n⟩:=by
 have hsm:=List.mem_of_getElem? hs
 have d36:decide ((i:Int)<(((ins.map (bh l)).map CX.av).length:Int))=true:=aw (by simpa using hlt)
 have Vh:(ins.map (bh l))[i]? = some (bh l s):=by rw [List.getElem?_map,hs];rfl
 have k38:=LS Vh
 have QI:=hF s hsm
 have c1:=uC (a:=nm) (b:=[47]) (by simp;omega)
 have c2:=uC (a:=nm++[47]) (b:=s) (by have:=G4 s hsm;simp;omega)
 have k55:=ot hs
 have k60:bK 15 (.osl [2] 15 0 ins.length false) (.int .i64 (i:Int))=some (.ref [2] i 0):=afH hlt
 have hwr:=aD i (by omega)
 have UY:(ins.map (iI F nm l))[i]? = some (iI F nm l s):=by rw [List.getElem?_map,hs];rfl
 have hml:(ins.map (iI F nm l)).length=ins.length:=List.length_map ..
 cases hy:F (bh l s) with
 | none=>unfold Bf at hp;rw [hy] at hp;cases hp
 | some y =>
   rw [hy] at QI
   have hX:iI F nm l s={ y with name:=nm++[47]++s }:=by unfold iI;rw [hy];rfl
   rw [hX] at UY
   obtain ⟨b1,b2⟩:=abm UY
   have hst:∀ (σ : ae) (p:VL.Id),(∀ z∈[(([2]:VL.Id),(⟨KF (ins.map (iI F nm l)) i,15,false⟩:dc))], σ z.1=some z.2)->bW σ p (.store 15 (.ref [2] i 0) (NY.av { y with name:=nm++[47]++s }))=some { val := .tup [],rd:=[[2]],up:=[([2],some ⟨KF (ins.map (iI F nm l)) (i+1),15,false⟩)] } :=
     fun σ p hσ => by
       have h:=gD (σ := σ) (id:=[2]) (els:=KF (ins.map (iI F nm l)) i) (k:=15) (n:=15) (e:=i) (o:=0) (el:=zN) (v:=NY.av { y with name:=nm++[47]++s }) (hσ ([2],⟨KF (ins.map (iI F nm l)) i,15,false⟩) (by simp)) b1 rfl (by simp [AV.size,AV.cells]) (of_eq_true (Be _))
       rw [<- b2]
       exact h
   generalize nm++[47]++s=ns at *
   generalize ins.map (iI F nm l)=ms at *
   generalize ins.map (bh l)=cs at *
   generalize bh l s=c at *
   obtain ⟨nm',wU,q,b,a1,a2,b1',b2',c0,cw⟩:=y
   cases b<;>exact VW.tr (π := []) (n:=n) ofK [hb 36 d36,ho 38 k38,hc QI,ho 52 c1,ho 55 k55,ho 57 c2,ho 60 k60, .st 100060 _ _ _ hst,hw 61 hwr] (Po nm l ins cs [1] [2] (.int .i64 (i:Int))) (KG [1] [2] d ms i) .normal (Po nm l ins cs [1] [2] (.int .i64 ((i+1:Nat):Int))) (KG [1] [2] d ms (i+1)) 60 (by kernel_rfl)
     Ej Ek Ej Ek (by simp [KG]) hq
theorem afK (F:CX->Option NY) (nm:List UInt8) (l:List NX) (ins:List (List UInt8)) (d:Rat) (hF:∀ s∈ins,VP Tryz.prog G 64 [(bh l s).av,QV d] (Gs (F (bh l s))))
   (i:Nat) (s:List UInt8) (hs:ins[i]? = some s) (hlt:i<ins.length) (hp:Bf F l s=true) (n:Nat) (Q:bM->VS->Prop) (hq:∀ s,Wk G [] s ⟨ofR,ae.of [],n+60⟩->Q .ret s) :
   VW Tryz.prog G [] (IY 64) Q ⟨Po nm l ins (ins.map (bh l)) [0] [19] (.int .i64 (i:Int)),ae.of (KG [0] [19] d (ins.map (iI F nm l)) i),n⟩:=by
 have d36:decide ((i:Int)<(((ins.map (bh l)).map CX.av).length:Int))=true:=aw (by simpa using hlt)
 have Vh:(ins.map (bh l))[i]? = some (bh l s):=by rw [List.getElem?_map,hs];rfl
 have k38:=LS Vh
 have QI:=hF s (List.mem_of_getElem? hs)
 cases hy:F (bh l s) with
 | some y=>unfold Bf at hp;rw [hy] at hp;cases hp
 | none =>
   rw [hy] at QI
   generalize ins.map (iI F nm l)=ms at *
   generalize ins.map (bh l)=cs at *
   generalize bh l s=c at *
   exact VW.tr (π := []) (n:=n) ofK [hb 36 d36,ho 38 k38,hc QI] (Po nm l ins cs [1] [2] (.int .i64 (i:Int))) (KG [1] [2] d ms i) .ret ofR [] 60 (by kernel_rfl) Ej Ek abl rfl (by simp [KG]) hq
theorem ajW (nm:List UInt8) (l:List NX) (ins:List (List UInt8)) (cs:List CX) (d:Rat) (ms:List NY) (hcs:cs.length=ins.length) (n N:Nat) (hN:n+60<=N) (Q:bM->VS->Prop) (hq:∀ s,Wk G [] s ⟨Po nm l ins cs [0] [19] .top,ae.of (KG [0] [19] d ms ins.length),N⟩->Q (.exit 0) s) :
   VW Tryz.prog G [] (IY 64) Q ⟨Po nm l ins cs [0] [19] (.int .i64 (ins.length:Int)),ae.of (KG [0] [19] d ms ins.length),n⟩:=by
 have d36:decide ((ins.length:Int)<((cs.map CX.av).length:Int))=false:=ak (by rw [List.length_map,hcs];omega)
 exact VW.tr (π := []) (n:=n) ofK [hb 36 d36] (Po nm l ins cs [1] [2] (.int .i64 (ins.length:Int))) (KG [1] [2] d ms ins.length) (.exit 0) (Po nm l ins cs [1] [2] .top) (KG [1] [2] d ms ins.length) 60 (by kernel_rfl) Ej Ek Ej Ek (by simp [KG]) fun s hw=>hq s (hw.trans (Wk.forget (Fg.same _) (fun j => .inr rfl) hN))
noncomputable def Yy (F:CX->Option NY) (nm:List UInt8) (l:List NX) (ins:List (List UInt8)) (d:Rat):AV :=
 if dI nm l ins≠0 then .tup [.nils, .int .i64 (dI nm l ins)] else if d=0 then .tup [.nils, .int .i64 6] else if ins.any (Bf F l)=true then .tup [.nils, .int .i64 6] else O6 (l.map NX.toY) (ins.map (iI F nm l))
theorem abo (F:CX->Option NY) (nm:List UInt8) (l:List NX) (ins:List (List UInt8)) (d:Rat) (hd:Sm 20 d) (zH:nm.length<=1000) (Ju:ins.length<=10) (hl:l.length<=1000) (G4:dI nm l ins=0->∀ s∈ins,s.length<=1000)
   (hF:dI nm l ins=0->∀ s∈ins,VP Tryz.prog G 64 [(bh l s).av,QV d] (Gs (F (bh l s)))):VP Tryz.prog G 20 [.str nm,vG l,strs ins,QV d] (Yy F nm l ins d):=by
 have hI:=pIn G nm l hl ins (by omega)
 unfold Yy
 by_cases mQ:dI nm l ins=0
 case neg =>
   rw [if_neg mQ] at hI
   rw [if_pos mQ]
   exact VP.tr gA [hc hI,hb 25 (bne_iff_ne.2 mQ)] (by kernel_rfl)
 rw [if_pos mQ] at hI
 rw [if_neg (by rw [mQ];decide)]
 have o9:=Ky G d (hd.mono (by omega))
 by_cases Pj:d=0
 . rw [if_pos Pj]
   exact VP.tr gA [hc hI,hc o9,hb 29 (beq_iff_eq.2 (yp.2 Pj))] (by kernel_rfl)
 rw [if_neg Pj]
 have e29:(aZ d==0)=false:=by rw [beq_eq_false_iff_ne];exact fun e=>Pj (yp.1 e)
 obtain ⟨_,Mo,ov⟩:=CZ mQ
 have Mn:l≠[]:=by
   rintro rfl
   obtain ⟨s,hs⟩:=List.exists_mem_of_ne_nil _ Mo
   exact ov s hs (by show (-1:Int)<0;decide)
 have k31:=jt ins
 have tp:∀ (σ : ae) (p:VL.Id),(∀ y∈([]:List (VL.Id × dc)), σ y.1=some y.2)->bW σ p (.mksl 15 320 zN (.int .i64 (ins.length:Int)) (.int .i64 (ins.length:Int)))=some { val := .osl p 15 0 ins.length false,up:=[(p,some ⟨KF (ins.map (iI F nm l)) 0,15,false⟩)] }:=fun σ p _=>by
   have e:KF (ins.map (iI F nm l)) 0=List.replicate ins.length zN:=by unfold KF;simp
   rw [e]
   exact acA (by omega) (by omega) rfl rfl
 cases ha:ins.any (Bf F l)
 . rw [if_neg (by decide)]
   have hpf:∀ i s,ins[i]? = some s->Bf F l s=false:=fun i s hs=>by rw [List.any_eq_false] at ha;simpa using ha s (List.mem_of_getElem? hs)
   have Jt:=VW.O3 (P:=Tryz.prog) (G:=G) (π := []) (c:=IY 64) ins (fun i=>Po nm l ins (ins.map (bh l)) [0] [19] (.int .i64 (i:Int))) (fun i=>KG [0] [19] d (ins.map (iI F nm l)) i) 60 1000 1000000 0 (Po nm l ins (ins.map (bh l)) [0] [19] .top) (KG [0] [19] d (ins.map (iI F nm l)) ins.length) (by simp [KG])
     (fun i s hs hlt Q hq=>Yx G F nm l ins d zH Ju (G4 mQ) (hF mQ) i s hs hlt (hpf i s hs) _ Q hq) (fun Q hq=>ajW G nm l ins _ d _ (by simp) _ _ (by omega) Q hq)
   have hM0:ins.map (iI F nm l)≠[]:=by simpa using Mo
   have hMl:(ins.map (iI F nm l)).length=ins.length:=List.length_map ..
   have hw:=ajo G (l.map NX.toY) (ins.map (iI F nm l)) (by simpa using Mn) hM0 (by simpa using hl) (by omega)
   rw [Mc] at hw
   have eB:KF (ins.map (iI F nm l)) ins.length=(ins.map (iI F nm l)).map NY.av:=by unfold KF;rw [hMl,Nat.sub_self,List.take_of_length_le (by omega)];simp
   have hv:az (ae.of [(([19]:VL.Id),(⟨KF (ins.map (iI F nm l)) ins.length,15,false⟩:dc))]) [vG l, .osl [19] 15 0 ins.length false] [vG l,ou (ins.map (iI F nm l))]:=by
     rw [eB]
     have h:=GI (σ := ae.of [(([19]:VL.Id),(⟨(ins.map (iI F nm l)).map NY.av,15,false⟩:dc))]) (id:=[19]) (l:=ins.map (iI F nm l)) (b:=false) (t:=false) (by simp [ae.of])
     rw [hMl] at h
     exact az.cons (View.pure PU.pure) (az.cons h az.nil)
   unfold O6 at hw ⊢
   generalize hms:ins.map (iI F nm l)=ms at *
   generalize ins.map (bh l)=cs at *
   by_cases hf:wZ (l.map NX.toY) ms=0
   . rw [if_pos hf] at hw ⊢
     generalize l.map NX.toY++ms=L at *
     exact VP.tr gA [hc hI,hc o9,hb 29 e29,ho 31 k31, .st 32 _ _ _ tp, .lp [] _ _ _ _ _ _ _ _ Jt,fR [([19],⟨KF ms ins.length,15,false⟩)] hw hv] (by kernel_rfl)
   . rw [if_neg hf] at hw ⊢
     exact VP.tr gA [hc hI,hc o9,hb 29 e29,ho 31 k31, .st 32 _ _ _ tp, .lp [] _ _ _ _ _ _ _ _ Jt,fR [([19],⟨KF ms ins.length,15,false⟩)] hw hv] (by kernel_rfl)
 . rw [if_pos rfl]
   have Jt:=VW.acZ (P:=Tryz.prog) (G:=G) (π := []) (c:=IY 64) ins (Bf F l) ha (fun i=>Po nm l ins (ins.map (bh l)) [0] [19] (.int .i64 (i:Int))) (fun i=>KG [0] [19] d (ins.map (iI F nm l)) i) 60 1000 1000000 ofR (by omega)
     (fun i s hs hlt hp Q hq=>Yx G F nm l ins d zH Ju (G4 mQ) (hF mQ) i s hs hlt hp _ Q hq) (fun i s hs hlt hp Q hq=>afK G F nm l ins d (hF mQ) i s hs hlt hp _ Q hq)
   generalize ins.map (iI F nm l)=ms at *
   generalize ins.map (bh l)=cs at *
   exact VP.tr gA [hc hI,hc o9,hb 29 e29,ho 31 k31, .st 32 _ _ _ tp, .lp [] _ _ _ _ _ _ _ _ Jt] (by kernel_rfl)
end
end Go.Proofs.YtndoagbiakehnaaGreat
end

section
set_option maxRecDepth 100000
namespace Go.Proofs.YtndoagbiakehnaaGreat
open Go.VL Go.Proofs Go.Lib
abbrev IZ (fF fp:Nat):bY:=(.seq (cS [oM 25 12,oM 26 2,oN 27 26,oT 28 .lss 25 27] (.cond (.t 28) .skip (.exit 0))) (.seq (.block 1 (.seq (.reg (some [(6,10),(5,15),(6,15),(9,15),(10,15),(11,15)]) [oM 32 1,oM 33 1,oM 34 2,oM 35 12,oA 36 1 34 35,oL 37 1 36,bc 38 fF 33 37,oA 39 15 32 38,oF 40 1 39,aF 41 14 40,aF 42 4 7,bc 43 fp 41 42,oM 31 43,oE 44 31 0,oE 45 31 1,⟨some 13,.box (.c (.agg [(.bool false),.nils,.nils,.nils,.nils,.nils,.nils,.nils,.nils,.nils,.nils,.nils,.nils,(.bool false)])),none⟩,oS 14 13 44,oM 14 45]) (.seq (cS [oM 46 14,bd 47 .neq 46 0] (.cond (.t 47) (cS [oM 48 14,oZ 8,oM 9 48] .ret) .skip)) (.reg (some []) [oM 49 11,oM 50 0,⟨some 51,.bin .add .str (.t 50) (.c (.str [47])),none⟩,oM 52 2,oM 53 12,oA 54 1 52 53,oL 55 1 54,⟨some 56,.bin .add .str (.t 51) (.t 55),none⟩,aF 57 14 13,⟨some 58,.build [(.str []),(.bool false),.nils,.nils,.nils,.nils,.nils,.nils,.nils,.nils,.nils,.nils,.nils,.nils,(.bool false)] [(0,(1,(.t 56))),(1,(14,(.t 57)))],none⟩,⟨some 59,.buildSl 15 1 (.agg [(.str []),(.bool false),.nils,.nils,.nils,.nils,.nils,.nils,.nils,.nils,.nils,.nils,.nils,.nils,(.bool false)]) [(0,(.t 58))],none⟩,Bl 60 15 320 49 59,oM 11 60])))) (cR [oM 29 12,bd 30 .add 29 1,oM 12 30])))
def rfO:Nat->AV
 | 0 => .nils
 | i+1 => .osl [1000+80*i+35] 15 0 (i+1) false
def rfB (ms:List NY):Nat->List (VL.Id × dc)
 | 0=>[]
 | i+1=>[([1000+80*i+35],⟨(ms.take (i+1)).map NY.av,15,false⟩)]
def Mj (nm:List UInt8) (l:List NX) (ins:List (List UInt8)) (w:VL.Id) (o i:AV):List AV:=[.str nm,vG l,strs ins, .top, .top, .top, .top, .ref w 0 0, .top, .top, .top,o,i]++List.replicate 53 .top
theorem uG {ρ : VL.Id->VL.Id} {nm:List UInt8} {l:List NX} {ins:List (List UInt8)} {w:VL.Id} {o i:AV}:bQ ρ (Mj nm l ins w o i)=Mj nm l ins (ρ w) (o.dJ ρ) (i.dJ ρ):=by
 unfold Mj
 simp only [cL,bA,cd,eZ,PU.fixed,kV,Bx]
def rfR:List AV:=List.replicate 8 .top++[.nils, .int .i64 6]++List.replicate 56 .top
theorem SY {ρ : VL.Id->VL.Id}:bQ ρ rfR=rfR:=by
 unfold rfR
 simp only [cL,bA,cd,eZ,PU.fixed]
def rfE (l:List NX) (ms:List NY):List AV:=[.top,vG l]++List.replicate 9 .top++[ou ms]++List.replicate 54 .top
def rfK (q:Nat):Nat->VL.Id
 | 1=>[0]
 | _=>[q]
theorem uH {ρ : VL.Id->VL.Id} {d:Rat}:bQ ρ [QV d]=[QV d]:=Cm.fix ρ
theorem abq {ρ : VL.Id->VL.Id} {y:NY}:bQ ρ [y.av]=[y.av]:=Cm.fix ρ
theorem ajY {ms:List NY} {y:NY} (h:ms[0]? = some y):(ms.take 1).map NY.av=[y.av]:=by rw [List.take_add_one (i:=0),h];rfl
theorem ajZ {ms:List NY} {i:Nat} {y:NY} (h:ms[i]? = some y):(ms.take (i+1)).map NY.av=(ms.take i).map NY.av++[y.av]:=by rw [List.take_add_one,h];simp
theorem abr (l:List NX) (s:List UInt8):qp (l.map NX.toY) s=jK l s:=by
 unfold qp jK
 rw [List.findIdx?_map]
 rfl
section
variable (G:Nat->Option (List AV))
theorem QJ (l:List NX) (hl:l.length<=1000) (s:List UInt8):VP Tryz.prog G 12 [vG l, .str s] (.int .i64 (jK l s)):=by
 have h:=Yd G (l.map NX.toY) s (by simpa using hl)
 rw [Mc,abr] at h
 exact h
theorem Yz (F:CX->Option NY) (nm:List UInt8) (l:List NX) (ins:List (List UInt8)) (d:Rat) (hl:l.length<=1000) (zH:nm.length<=1000) (Ju:ins.length<=10) (G4:∀ s∈ins,s.length<=1000) (ov:∀ s∈ins, ¬ jK l s<0) (hF:∀ s∈ins,VP Tryz.prog G 65 [(bh l s).av,QV d] (Gs (F (bh l s))))
   (i:Nat) (s:List UInt8) (hs:ins[i]? = some s) (hlt:i<ins.length) (hp:Bf F l s=false) (Q:bM->VS->Prop)
   (hq:∀ s,Wk G [] s ⟨Mj nm l ins [0] (rfO (i+1)) (.int .i64 ((i+1:Nat):Int)),ae.of (([0],⟨[QV d],4,false⟩)::rfB (ins.map (iI F nm l)) (i+1)),1000+80*i+80⟩->Q .normal s) :
   VW Tryz.prog G [] (IZ 12 65) Q ⟨Mj nm l ins [0] (rfO i) (.int .i64 (i:Int)),ae.of (([0],⟨[QV d],4,false⟩)::rfB (ins.map (iI F nm l)) i),1000+80*i⟩:=by
 have hsm:=List.mem_of_getElem? hs
 obtain ⟨k,z,hk,hz,hzn,KM⟩:=D8 (ov s hsm)
 have d28:decide ((i:Int)<((ins.map AV.str).length:Int))=true:=aw (by simpa using hlt)
 have QI:=hF s hsm
 have PB:=QJ G l hl s
 rw [hk] at PB
 have k39:=Il hz
 have c1:=uC (a:=nm) (b:=[47]) (by simp;omega)
 have c2:=uC (a:=nm++[47]) (b:=s) (by have:=G4 s hsm;simp;omega)
 have k36:=ot hs
 have hwr:=aD i (by omega)
 have UY:(ins.map (iI F nm l))[i]? = some (iI F nm l s):=by rw [List.getElem?_map,hs];rfl
 have hml:(ins.map (iI F nm l)).length=ins.length:=List.length_map ..
 cases hy:F (bh l s) with
 | none=>unfold Bf at hp;rw [hy] at hp;cases hp
 | some y =>
   rw [hy,KM] at QI
   have hX:iI F nm l s={ y with name:=nm++[47]++s }:=by unfold iI;rw [hy];rfl
   rw [hX] at UY
   generalize nm++[47]++s=ns at *
   generalize ins.map (iI F nm l)=ms at *
   obtain ⟨zn,c⟩:=z
   simp only [] at QI
   obtain ⟨nm',wU,q,b,a1,a2,b1',b2',c0,cw⟩:=y
   cases i with
   | zero =>
     have e1:=ajY UY
     have a1':∀ (σ : ae) (p:VL.Id),(∀ y∈[(([34,0]:VL.Id),(⟨[NY.av ⟨ns,wU,q,b,a1,a2,b1',b2',c0,cw⟩],15,false⟩:dc))], σ y.1=some y.2)->bW σ p (.append 15 320 .nils (.osl [34,0] 15 0 1 false))=some { val := .osl p 15 0 1 false,rd:=[[34,0]],up:=[(p,some ⟨[NY.av ⟨ns,wU,q,b,a1,a2,b1',b2',c0,cw⟩],15,false⟩)] } :=
       fun σ p hσ => P8 (hσ ([34,0],⟨[NY.av ⟨ns,wU,q,b,a1,a2,b1',b2',c0,cw⟩],15,false⟩) (by simp)) (by decide) (of_eq_true (Be _))
     cases b<;>exact VW.tr (π := []) (n:=1000+80*0) (rfK 0) [hb 28 d28,ho 36 k36,hc PB,ho 39 k39,hc QI,ho 51 c1,ho 54 k36,ho 56 c2, .st 60 _ _ _ a1',hw 30 hwr] (Mj nm l ins [1] .nils (.int .i64 ((0:Nat):Int))) [([1],⟨[QV d],4,false⟩)] .normal (Mj nm l ins [1] (.osl [35,0] 15 0 1 false) (.int .i64 ((0+1:Nat):Int))) [([1],⟨[QV d],4,false⟩),([35,0],⟨[NY.av ⟨ns,wU,q,_,a1,a2,b1',b2',c0,cw⟩],15,false⟩)] 80 (by kernel_rfl)
       uG (by simp only [bl,bG,ck,uH];rfl) uG (by simp only [bl,bG,ck,uH,abq];rfl) (by simp [rfB]) (fun s hw=>hq s (by
         show Wk G [] s ⟨_,ae.of [([0],⟨[QV d],4,false⟩),([1000+80*0+35],⟨(ms.take (0+1)).map NY.av,15,false⟩)],_⟩
         rw [e1];exact hw))
   | succ i =>
     have e1:=ajZ UY
     have hLl:(ms.take (i+1)).length=i+1:=by rw [List.length_take];omega
     have hd : ¬ (0=1000+80*i+35):=by omega
     show VW _ _ _ _ _ ⟨Mj nm l ins [0] (.osl [1000+80*i+35] 15 0 (i+1) false) _,ae.of [([0],⟨[QV d],4,false⟩),([1000+80*i+35],⟨(ms.take (i+1)).map NY.av,15,false⟩)],_⟩
     have a1':∀ (σ : ae) (p:VL.Id),(∀ y∈[(([34,0]:VL.Id),(⟨[NY.av ⟨ns,wU,q,b,a1,a2,b1',b2',c0,cw⟩],15,false⟩:dc)),([2],⟨(ms.take (i+1)).map NY.av,15,false⟩)], σ y.1=some y.2)->bW σ p (.append 15 320 (.osl [2] 15 0 (i+1) false) (.osl [34,0] 15 0 1 false))=some { val := .osl p 15 0 (i+1+1) false,rd:=[[2],[34,0]],up:=[([2],none),(p,some ⟨(ms.take (i+1+1)).map NY.av,15,false⟩)] } :=
       fun σ p hσ => by
         have:=LP (σ := σ) (p:=p) (bytes:=320) (t:=false) (hσ ([34,0],⟨[NY.av ⟨ns,wU,q,b,a1,a2,b1',b2',c0,cw⟩],15,false⟩) (by simp)) (hσ ([2],⟨(ms.take (i+1)).map NY.av,15,false⟩) (by simp)) (by rw [List.length_map,hLl];omega) (by decide) (of_eq_true (Be _)) (q8 Be _)
         rw [List.length_map,hLl] at this
         rw [e1];exact this
     have hLr:∀ ρ : VL.Id->VL.Id,bQ ρ ((ms.take (i+1)).map NY.av)=(ms.take (i+1)).map NY.av:=fun ρ => BA
     generalize (ms.take (i+1)).map NY.av=L at *
     cases b<;>exact VW.tr (π := []) (n:=1000+80*(i+1)) (rfK (1000+80*i+35)) [hb 28 d28,ho 36 k36,hc PB,ho 39 k39,hc QI,ho 51 c1,ho 54 k36,ho 56 c2, .st 60 _ _ _ a1',hw 30 hwr] (Mj nm l ins [1] (.osl [2] 15 0 (i+1) false) (.int .i64 ((i+1:Nat):Int))) [([1],⟨[QV d],4,false⟩),([2],⟨L,15,false⟩)] .normal (Mj nm l ins [1] (.osl [35,0] 15 0 (i+1+1) false) (.int .i64 ((i+1+1:Nat):Int))) [([1],⟨[QV d],4,false⟩),([35,0],⟨(ms.take (i+1+1)).map NY.av,15,false⟩)] 80 (by kernel_rfl)
       uG (by simp only [bl,bG,ck,uH,hLr];rfl) uG (by simp only [bl,bG,ck,uH,BA];rfl) (by simp) hq
theorem afN (F:CX->Option NY) (nm:List UInt8) (l:List NX) (ins:List (List UInt8)) (d:Rat) (hl:l.length<=1000) (ov:∀ s∈ins, ¬ jK l s<0) (hF:∀ s∈ins,VP Tryz.prog G 65 [(bh l s).av,QV d] (Gs (F (bh l s))))
   (i:Nat) (s:List UInt8) (hs:ins[i]? = some s) (hlt:i<ins.length) (hp:Bf F l s=true) (ms:List NY) (n:Nat) (Q:bM->VS->Prop) (hq:∀ s,Wk G [] s ⟨rfR,ae.of [],n+80⟩->Q .ret s) :
   VW Tryz.prog G [] (IZ 12 65) Q ⟨Mj nm l ins [0] (rfO i) (.int .i64 (i:Int)),ae.of (([0],⟨[QV d],4,false⟩)::rfB ms i),n⟩:=by
 obtain ⟨k,z,hk,hz,hzn,KM⟩:=D8 (ov s (List.mem_of_getElem? hs))
 have d28:decide ((i:Int)<((ins.map AV.str).length:Int))=true:=aw (by simpa using hlt)
 have QI:=hF s (List.mem_of_getElem? hs)
 have PB:=QJ G l hl s
 rw [hk] at PB
 have k39:=Il hz
 have k36:=ot hs
 cases hy:F (bh l s) with
 | some y=>unfold Bf at hp;rw [hy] at hp;cases hp
 | none =>
   rw [hy,KM] at QI
   obtain ⟨zn,c⟩:=z
   simp only [] at QI
   cases i with
   | zero=>exact VW.tr (π := []) (n:=n) (rfK 0) [hb 28 d28,ho 36 k36,hc PB,ho 39 k39,hc QI] (Mj nm l ins [1] .nils (.int .i64 ((0:Nat):Int))) [([1],⟨[QV d],4,false⟩)] .ret rfR [] 80 (by kernel_rfl) uG (by simp only [bl,bG,ck,uH];rfl) SY rfl (by simp [rfB]) hq
   | succ i =>
     have hd : ¬ (0=1000+80*i+35):=by omega
     exact VW.tr (π := []) (n:=n) (rfK (1000+80*i+35)) [hb 28 d28,ho 36 k36,hc PB,ho 39 k39,hc QI] (Mj nm l ins [1] (.osl [2] 15 0 (i+1) false) (.int .i64 ((i+1:Nat):Int))) [([1],⟨[QV d],4,false⟩),([2],⟨(ms.take (i+1)).map NY.av,15,false⟩)] .ret rfR [] 80 (by kernel_rfl) uG (by simp only [bl,bG,ck,uH,BA];rfl) SY rfl (by simp [rfB]) hq
theorem aj1 (nm:List UInt8) (l:List NX) (ins:List (List UInt8)) (d:Rat) (ms:List NY) (hms:ms.length=ins.length) (h0:ins≠[]) (Ju:ins.length<=10) (Q:bM->VS->Prop) (hq:∀ s,Wk G [] s ⟨rfE l ms,ae.of [],1000000⟩->Q (.exit 0) s) :
   VW Tryz.prog G [] (IZ 12 65) Q ⟨Mj nm l ins [0] (rfO ins.length) (.int .i64 (ins.length:Int)),ae.of (([0],⟨[QV d],4,false⟩)::rfB ms ins.length),1000+80*ins.length⟩:=by
 have d28:decide ((ins.length:Int)<((ins.map AV.str).length:Int))=false:=ak (by simp)
 obtain ⟨i,hi⟩:∃ i,ins.length=i+1:=⟨ins.length-1,by have:=List.length_pos_iff.2 h0;omega⟩
 rw [hi] at d28 ⊢
 have hd : ¬ (0=1000+80*i+35):=by omega
 have eT:ms.take (i+1)=ms:=List.take_of_length_le (by omega)
 show VW _ _ _ _ _ ⟨Mj nm l ins [0] (.osl [1000+80*i+35] 15 0 (i+1) false) _,ae.of [([0],⟨[QV d],4,false⟩),([1000+80*i+35],⟨(ms.take (i+1)).map NY.av,15,false⟩)],_⟩
 rw [eT]
 refine VW.tr (π := []) (n:=1000+80*(i+1)) (rfK (1000+80*i+35)) [hb 28 d28] (Mj nm l ins [1] (.osl [2] 15 0 (i+1) false) (.int .i64 ((i+1:Nat):Int))) [([1],⟨[QV d],4,false⟩),([2],⟨ms.map NY.av,15,false⟩)] (.exit 0) (Mj nm l ins [1] (.osl [2] 15 0 (i+1) false) .top) [([1],⟨[QV d],4,false⟩),([2],⟨ms.map NY.av,15,false⟩)] 80 (by kernel_rfl)
   uG (by simp only [bl,bG,ck,uH,BA];rfl) uG (by simp only [bl,bG,ck,uH,BA];rfl) (by simp) fun s hw=>hq s (hw.trans ?_)
 have hq1:ae.of [(([0]:VL.Id),(⟨[QV d],4,false⟩:dc)),([1000+80*i+35],⟨ms.map NY.av,15,false⟩)] [1000+80*i+35]=some ⟨ms.map NY.av,15,false⟩:=r7 (x:=([1000+80*i+35],⟨ms.map NY.av,15,false⟩)) (by simp) (by simp)
 refine Wk.freeze [([1000+80*i+35],⟨ms.map NY.av,15,false⟩)] (by intro x hx;rw [List.mem_singleton.1 hx];exact hq1) ?_ (fun i => .inl rfl) (by omega)
 have hv:=GI (σ := ae.of [(([1000+80*i+35]:VL.Id),(⟨ms.map NY.av,15,false⟩:dc))]) (id:=[1000+80*i+35]) (l:=ms) (b:=false) (t:=false) (by simp [ae.of])
 rw [hms,hi] at hv
 repeat (first | exact trivial | refine And.intro (Or.inl rfl) ?_ | refine And.intro (Or.inr (Or.inl rfl)) ?_ | refine And.intro (Or.inr (Or.inr hv)) ?_)
theorem rIn (nm:List UInt8) (l:List NX) (hl:l.length<=1000) (ins:List (List UInt8)) (hi:ins.length<=1000):VP Tryz.prog G 37 [.str nm,vG l,strs ins] (.int .i64 (dI nm l ins)):=Om ua nm l ins (aiM G nm) (fun s _=>QJ G l hl s) hi
theorem abt (F:CX->Option NY) (nm:List UInt8) (l:List NX) (ins:List (List UInt8)) (d:Rat) (hd:Sm 20 d) (zH:nm.length<=1000) (Ju:ins.length<=10) (hl:l.length<=1000) (G4:dI nm l ins=0->∀ s∈ins,s.length<=1000)
   (hF:dI nm l ins=0->∀ s∈ins,VP Tryz.prog G 65 [(bh l s).av,QV d] (Gs (F (bh l s)))):VP Tryz.prog G 22 [.str nm,vG l,strs ins,QV d] (Yy F nm l ins d):=by
 have hI:=rIn G nm l hl ins (by omega)
 unfold Yy
 by_cases mQ:dI nm l ins=0
 case neg =>
   rw [if_pos mQ]
   exact VP.tr eI [hc hI,hb 20 (bne_iff_ne.2 mQ)] (by kernel_rfl)
 rw [mQ] at hI
 rw [if_neg (by rw [mQ];decide)]
 have o9:=XE G d (hd.mono (by omega))
 by_cases Pj:d=0
 . rw [if_pos Pj]
   exact VP.tr eI [hc hI,hc o9,hb 24 (beq_iff_eq.2 (yp.2 Pj))] (by kernel_rfl)
 rw [if_neg Pj]
 have e24:(aZ d==0)=false:=by rw [beq_eq_false_iff_ne];exact fun e=>Pj (yp.1 e)
 obtain ⟨_,Mo,ov⟩:=CZ mQ
 have Mn:l≠[]:=by
   rintro rfl
   obtain ⟨s,hs⟩:=List.exists_mem_of_ne_nil _ Mo
   exact ov s hs (by show (-1:Int)<0;decide)
 cases ha:ins.any (Bf F l)
 . rw [if_neg (by decide)]
   have hpf:∀ i s,ins[i]? = some s->Bf F l s=false:=fun i s hs=>by rw [List.any_eq_false] at ha;simpa using ha s (List.mem_of_getElem? hs)
   have Jt:=VW.O3 (P:=Tryz.prog) (G:=G) (π := []) (c:=IZ 12 65) ins (fun i=>Mj nm l ins [0] (rfO i) (.int .i64 (i:Int))) (fun i=>([0],⟨[QV d],4,false⟩)::rfB (ins.map (iI F nm l)) i) 80 1000 1000000 0 (rfE l (ins.map (iI F nm l))) [] (by simp)
     (fun i s hs hlt Q hq=>Yz G F nm l ins d hl zH Ju (G4 mQ) ov (hF mQ) i s hs hlt (hpf i s hs) Q hq) (fun Q hq=>aj1 G nm l ins d _ (by simp) Mo Ju Q hq)
   have hM0:ins.map (iI F nm l)≠[]:=by simpa using Mo
   have hMl:(ins.map (iI F nm l)).length=ins.length:=List.length_map ..
   have hw:=afn G (l.map NX.toY) (ins.map (iI F nm l)) (by simpa using Mn) hM0 (by simpa using hl) (by omega)
   rw [Mc] at hw
   unfold O6 at hw ⊢
   generalize hms:ins.map (iI F nm l)=ms at *
   by_cases hf:wZ (l.map NX.toY) ms=0
   . rw [if_pos hf] at hw ⊢
     generalize l.map NX.toY++ms=L at *
     exact VP.tr eI [hc hI,hc o9,hb 24 e24, .lp [] _ _ _ _ _ _ _ _ Jt,hc hw] (by kernel_rfl)
   . rw [if_neg hf] at hw ⊢
     exact VP.tr eI [hc hI,hc o9,hb 24 e24, .lp [] _ _ _ _ _ _ _ _ Jt,hc hw] (by kernel_rfl)
 . rw [if_pos rfl]
   have Jt:=VW.acZ (P:=Tryz.prog) (G:=G) (π := []) (c:=IZ 12 65) ins (Bf F l) ha (fun i=>Mj nm l ins [0] (rfO i) (.int .i64 (i:Int))) (fun i=>([0],⟨[QV d],4,false⟩)::rfB (ins.map (iI F nm l)) i) 80 1000 1000000 rfR (by omega)
     (fun i s hs hlt hp Q hq=>Yz G F nm l ins d hl zH Ju (G4 mQ) ov (hF mQ) i s hs hlt hp Q hq) (fun i s hs hlt hp Q hq=>afN G F nm l ins d hl ov (hF mQ) i s hs hlt hp _ _ Q hq)
   generalize ins.map (iI F nm l)=ms at *
   exact VP.tr eI [hc hI,hc o9,hb 24 e24, .lp [] _ _ _ _ _ _ _ _ Jt] (by kernel_rfl)
end
end Go.Proofs.YtndoagbiakehnaaGreat
end

section
set_option maxRecDepth 100000
namespace Go.Proofs.YtndoagbiakehnaaGreat
open Go.VL Go.Proofs Go.Lib
instance {n1 n2:Bool} {w1 w2:List Nat}:PU (RR n1 w1 n2 w2):=by unfold RR;infer_instance
theorem aj2 {n1 n2:Bool} {w1 w2:List Nat} (h1:Wd w1) (h2:Wd w2) (v1:gE n1 w1=true) (v2:gE n2 w2=true) (hp:0<kT n2 (val w2)) (hg:Nat.gcd (kT n1 (val w1)).natAbs (kT n2 (val w2)).natAbs=1) (l1:w1.length<=2) (l2:w2.length<=2):∃ q:Rat,RR n1 w1 n2 w2=QV q/\Sm 2 q:=by
 have e1:=R4 h1 v1
 have e2:=R4 h2 v2
 have a1:(kT n1 (val w1)).natAbs=val w1:=by cases n1<;>simp [kT]
 have a2:(kT n2 (val w2)).natAbs=val w2:=by cases n2<;>simp [kT]
 have s1:aa (kT n1 (val w1)).natAbs<=2:=by rw [a1];exact Nat.le_trans (dH (eF h1)) l1
 have s2:aa (kT n2 (val w2)).natAbs<=2:=by rw [a2];exact Nat.le_trans (dH (eF h2)) l2
 generalize kT n1 (val w1)=z1 at *
 generalize kT n2 (val w2)=z2 at *
 refine ⟨⟨z1,z2.natAbs,by omega,hg⟩, ?_,s1,s2⟩
 have e3:((z2.natAbs:Nat):Int)=z2:=Int.natAbs_of_nonneg (by omega)
 show RR n1 w1 n2 w2=RV z1 ((z2.natAbs:Nat):Int)
 rw [e3]
 unfold IR IV at e1 e2
 simp only [AV.agg.injEq,List.cons.injEq,and_true] at e1 e2
 unfold RR RV
 rw [e1.1,e1.2,e2.1,e2.2]
section
variable (G:Nat->Option (List AV))
theorem afO (n1 n2:Bool) (w1 w2:List Nat) (h1:Wd w1) (h2:Wd w2) (l1:w1.length<=9223372036854775807) (l2:w2.length<=9223372036854775807):∃ ok:Bool,VP Tryz.prog G 7 [RR n1 w1 n2 w2] (.bool ok)/\(ok=true->∃ q:Rat,RR n1 w1 n2 w2=QV q/\Sm 2 q):=by
 have hS:∀ ok,VP Tryz.prog G 29 [RR n1 w1 n2 w2, .int .i64 2] (.bool ok)->VP Tryz.prog G 7 [RR n1 w1 n2 w2] (.bool ok):=fun ok h=>VP.tr vv [hc h] (by kernel_rfl)
 have k8:ni false (.sl 1 (us w1))=some (.int .i64 w1.length):=by simp [ni,eL]
 have k15:ni false (.sl 1 (us w2))=some (.int .i64 w2.length):=by simp [ni,eL]
 by_cases c1:w1.length<=2
 . by_cases c2:w2.length<=2
   . have hv:=TL (G:=G) air n1 w1 n2 w2 h1 h2 ((Nat.gcd (kT n1 (val w1)).natAbs (kT n2 (val w2)).natAbs:Nat):Int) (XA G n1 w1 h1 l1) (XA G n2 w2 h2 l2)
       (SA G _ (by
         have a2:(kT n2 (val w2)).natAbs=val w2:=by cases n2<;>simp [kT]
         rw [a2];have:=dH (eF h2);omega))
       (fun _=>XD G _ _ (by
         have a1:(kT n1 (val w1)).natAbs=val w1:=by cases n1<;>simp [kT]
         rw [a1];have:=dH (eF h1);omega) (by
         have a2:(kT n2 (val w2)).natAbs=val w2:=by cases n2<;>simp [kT]
         rw [a2];have:=dH (eF h2);omega)) (aaA G _)
     refine ⟨gE n1 w1&&gE n2 w2&&decide (0<kT n2 (val w2))&&decide (((Nat.gcd (kT n1 (val w1)).natAbs (kT n2 (val w2)).natAbs:Nat):Int)=1),hS _ (VP.tr kR [ho 8 k8,hb 10 (aw (by omega):decide ((w1.length:Int)<=2)=true),ho 15 k15,hb 17 (aw (by omega):decide ((w2.length:Int)<=2)=true),hc hv] (by kernel_rfl)),fun ib => ?_⟩
     rw [Bool.and_eq_true,Bool.and_eq_true,Bool.and_eq_true] at ib
     exact aj2 h1 h2 ib.1.1.1 ib.1.1.2 (of_decide_eq_true ib.1.2) (by have:=of_decide_eq_true ib.2;omega) c1 c2
   . exact ⟨false,hS _ (VP.tr kR [ho 8 k8,hb 10 (aw (by omega):decide ((w1.length:Int)<=2)=true),ho 15 k15,hb 17 (ak (by omega):decide ((w2.length:Int)<=2)=false)] (by kernel_rfl)),fun h=>by cases h⟩
 . exact ⟨false,hS _ (VP.tr kR [ho 8 k8,hb 10 (ak (by omega):decide ((w1.length:Int)<=2)=false)] (by kernel_rfl)),fun h=>by cases h⟩
theorem afP (x:NX) (hs:x.c.Sm 20) (hv:x.c.valid=true):IX G (NX.toY x):=by
 have h:=XM G x.c (hs.mono (by omega))
 rw [hv] at h
 have z:∀ {a:Rat},Sm 20 a->bR 9900 (a,(0:Rat)):=fun h=>z2 (h.mono (by omega)) (by omega)
 exact ⟨Iy G x.c.a (hs.1.mono (by omega)),Iy G x.c.b (hs.2.1.mono (by omega)),Iy G x.c.c (hs.2.2.mono (by omega)),h,afD G (NX.toY x) ((Sm.zero).mono (by omega):Sm 1000 (0:Rat)) (z hs.1.1) (z hs.1.2) (z hs.2.1.1) (z hs.2.1.2) hs.2.2 (fun _=>rfl) (fun _=>rfl) (fun _=>rfl) (fun _=>rfl)⟩
theorem afQ (L:List NY) (hl:L.length<=1000) (hL:∀ z∈L,IX G z):VP Tryz.prog G 11 [ou L, .int .i64 0,ou L, .int .i64 0] (.bool true):=by
 have h1:=ajr G L hl fun z hz=>⟨(hL z hz).1,(hL z hz).2.1,(hL z hz).2.2.1,(hL z hz).2.2.2.1⟩
 have h2:=afo G L hl fun z hz=>(hL z hz).2.2.2.2
 exact VP.tr nT [hc h1,hc h2] (by kernel_rfl)
theorem UL (nm:List UInt8) (l:List NX) (ins:List (List UInt8)) (d:Rat) (hd:Sm 20 d) (zH:nm.length<=40) (Ju:ins.length<=5) (hl:l.length<=6) (hz:∀ z∈l,z.c.valid=true/\z.c.Sm 20/\z.name.length<=10) :
   ∃ m e,VP Tryz.prog G 20 [.str nm,vG l,strs ins,QV d] (.tup [m, .int .i64 e])/\VP Tryz.prog G 22 [.str nm,vG l,strs ins,QV d] (.tup [m, .int .i64 e])/\VP Tryz.prog G 11 [m, .int .i64 e,m, .int .i64 e] (.bool true)/\PU m:=by
 have hex:∀ x:CX,∃ o:Option NY,x.Sm 20->x.valid=true->VP Tryz.prog G 64 [x.av,QV d] (Gs o)/\VP Tryz.prog G 65 [x.av,QV d] (Gs o)/\∀ y,o=some y->IX G y:=fun x=>by
   by_cases hs:x.Sm 20
   . by_cases hv:x.valid=true
     . obtain ⟨o,h⟩:=afG G d hd x hs hv
       exact ⟨o,fun _ _=>h⟩
     . exact ⟨none,fun _ h=>absurd h hv⟩
   . exact ⟨none,fun h=>absurd h hs⟩
 let F:CX->Option NY:=fun x=>Classical.choose (hex x)
 have hF:∀ x:CX,x.Sm 20->x.valid=true->VP Tryz.prog G 64 [x.av,QV d] (Gs (F x))/\VP Tryz.prog G 65 [x.av,QV d] (Gs (F x))/\∀ y,F x=some y->IX G y:=fun x=>Classical.choose_spec (hex x)
 generalize F=F at hF
 have ov:dI nm l ins=0->∀ s∈ins,∃ z∈l,z.name=s/\bh l s=z.c:=fun mQ s hs=>by
   obtain ⟨k,z,_,hz',hzn,KM⟩:=D8 ((CZ mQ).2.2 s hs)
   exact ⟨z,List.mem_of_getElem? hz',hzn,KM⟩
 have G4:dI nm l ins=0->∀ s∈ins,s.length<=1000:=fun mQ s hs=>by
   obtain ⟨z,hzm,rfl,_⟩:=ov mQ s hs
   have:=(hz z hzm).2.2
   omega
 have p1:=abo G F nm l ins d hd (by omega) (by omega) (by omega) G4 (fun mQ s hs=>by
   obtain ⟨z,hzm,_,e⟩:=ov mQ s hs
   rw [e];exact (hF z.c (hz z hzm).2.1 (hz z hzm).1).1)
 have r1:=abt G F nm l ins d hd (by omega) (by omega) (by omega) G4 (fun mQ s hs=>by
   obtain ⟨z,hzm,_,e⟩:=ov mQ s hs
   rw [e];exact (hF z.c (hz z hzm).2.1 (hz z hzm).1).2.1)
 unfold Yy at p1 r1
 by_cases mQ:dI nm l ins=0
 case neg =>
   rw [if_pos mQ] at p1 r1
   exact ⟨_,_,p1,r1,GJ G _,inferInstance⟩
 rw [if_neg (by rw [mQ];decide)] at p1 r1
 by_cases Pj:d=0
 . rw [if_pos Pj] at p1 r1
   exact ⟨_,_,p1,r1,GJ G _,inferInstance⟩
 rw [if_neg Pj] at p1 r1
 cases ha:ins.any (Bf F l)<;>rw [ha] at p1 r1
 . rw [if_neg (by decide)] at p1 r1
   unfold O6 at p1 r1
   by_cases hf:wZ (l.map NX.toY) (ins.map (iI F nm l))=0
   . rw [if_pos hf] at p1 r1
     refine ⟨_,_,p1,r1,afQ G _ (by have:=KE hf;simp at this ⊢;omega) fun z hzm => ?_,inferInstance⟩
     rcases List.mem_append.1 hzm with hm | hm
     . obtain ⟨x,hx,rfl⟩:=List.mem_map.1 hm
       exact afP G x (hz x hx).2.1 (hz x hx).1
     . obtain ⟨s,hs,rfl⟩:=List.mem_map.1 hm
       obtain ⟨x,hx,_,e⟩:=ov mQ s hs
       have hg:=(hF x.c (hz x hx).2.1 (hz x hx).1).2.2
       have hsome:(F (bh l s)).isNone=false:=by
         rw [List.any_eq_false] at ha
         have h:=ha s hs
         unfold Bf at h
         cases h':(F (bh l s)).isNone with
         | false=>rfl
         | true=>exact absurd h' h
       unfold iI
       rw [e] at hsome ⊢
       cases hy:F x.c with
       | none=>rw [hy] at hsome;cases hsome
       | some y=>exact hg y hy
   . rw [if_neg hf] at p1 r1
     exact ⟨_,_,p1,r1,GJ G _,inferInstance⟩
 . rw [if_pos rfl] at p1 r1
   exact ⟨_,_,p1,r1,GJ G _,inferInstance⟩
theorem afR (vC:VP Tryz.prog G 5 [] (.bool true)) (ds:List DX) (hds:∀ d∈ds,d.Ok) (names:List (List UInt8)) (n1 n2:Bool) (w1 w2:List Nat) (h1:Wd w1) (h2:Wd w2) (l1:w1.length<=9223372036854775807) (l2:w2.length<=9223372036854775807):VP Tryz.prog G 4 [Pk ds,strs names,RR n1 w1 n2 w2] (.bool true):=by
 have hL:=aiO G ds hds
 obtain ⟨ok,hS,hq⟩:=afO G n1 n2 w1 w2 h1 h2 l1 l2
 cases ib:Gp ds<;>rw [ib] at hL
 . exact VP.tr cf [hc vC,hc hL] (by kernel_rfl)
 obtain ⟨hl6,hz⟩:=Ux hds ib
 cases ok
 . exact VP.tr cf [hc vC,hc hL,hc hS] (by kernel_rfl)
 obtain ⟨d,hd,sd⟩:=hq rfl
 rw [hd] at hS ⊢
 generalize named (made ds)=l at *
 have k29:ni false (strs names)=some (.int .i64 names.length):=jt names
 cases YJ:names with
 | nil =>
   subst YJ
   exact VP.tr cf [hc vC,hc hL,hc hS] (by kernel_rfl)
 | cons nm ins =>
   rw [<- YJ]
   have Y4:names.length=ins.length+1:=by rw [YJ];rfl
   have e30:((names.length:Int)==0)=false:=by rw [beq_eq_false_iff_ne];omega
   by_cases h6:6<names.length
   . exact VP.tr cf [hc vC,hc hL,hc hS,ho 29 k29,hb 30 e30,ho 34 k29,hb 35 (aw (by omega):decide ((names.length:Int)>6)=true)] (by kernel_rfl)
   have d35:decide ((names.length:Int)>6)=false:=ak (by omega)
   have n5:bK 1 (strs names) (.int .i64 0)=some (.ep (AV.str nm).cells 0):=by rw [YJ];simp [strs,bK]
   by_cases h40:40<nm.length
   . exact VP.tr cf [hc vC,hc hL,hc hS,ho 29 k29,hb 30 e30,ho 34 k29,hb 35 d35,ho 39 n5,hb 42 (aw (by omega):decide ((nm.length:Int)>40)=true)] (by kernel_rfl)
   have d42:decide ((nm.length:Int)>40)=false:=ak (by omega)
   have ks:∀ (σ : ae) (p:VL.Id),(∀ x∈([]:List (VL.Id × dc)), σ x.1=some x.2)->bW σ p (.slice 1 (strs names) (some (.int .i64 1)) none none)=some { val:=strs ins }:=fun σ p _=>by
     show rT σ 1 (.sl 1 (names.map AV.str)) (some (.int .i64 1)) none none (gh 1 (.sl 1 (names.map AV.str)) (some (.int .i64 ((1:Nat):Int))) none none)=_
     rw [PI rfl (by rw [YJ];simp),YJ];rfl
   obtain ⟨m,e,p1,r1,R1,hm⟩:=UL G nm l ins d (sd.mono (by omega)) (by omega) (by omega) hl6 hz
   have hcn:VP Tryz.prog G 9 [vG l] (vG l):=Jr g9 l (by omega)
   have hcs:=aiQ G ins (by omega)
   exact VP.tr cf [hc vC,hc hL,hc hS,ho 29 k29,hb 30 e30,ho 34 k29,hb 35 d35,ho 39 n5,hb 42 d42,ho 46 n5,hc hcn, .st 51 [] _ _ ks,hc hcs,hc p1,ho 59 n5, .st 63 [] _ _ ks,hc r1,hc R1] (by kernel_rfl)
end
end Go.Proofs.YtndoagbiakehnaaGreat
end

section
namespace Go.VL
section
variable {H:Type} {enc:TypeId × Value->H} {P:Program} {w:World} {spare:Nat->Bool} {held:Bool}
def qf (w:World):Env:=⟨fun _=>none,fun b=>b<w.heap.size⟩
theorem q9 {α β : Type} {f : α -> β} {Q : α -> Prop}:∀ {es:List β},(∀ c∈es,∃ x,c=f x/\Q x)->∃ l:List α,es=l.map f/\∀ x∈l,Q x
 | [],_=>⟨[],rfl,by simp⟩
 | c::es,h=>by
   obtain ⟨x,hx,hq⟩:=h c (by simp)
   obtain ⟨l,hl,hql⟩:=q9 (es:=es) fun y hy=>h y (by simp [hy])
   exact ⟨x::l,by rw [hx,hl];rfl,by intro y hy;rcases List.mem_cons.1 hy with rfl | hy;exact hq;exact hql y hy⟩
theorem Mk {t e:TypeId} {fuel k:Nat} {cs:List Value} {x:DataW H × List MemPlace} (ht:P.underlying t=some (.slice e)) (hk:P.cellsOf e=k) (Pe:0<k) (h:DataW.trod enc P w 0 spare held fuel t cs=some x) (Good:AV->Prop)
   (F:∀ n C4 y,fuel=n+1->DataW.trod enc P w 0 spare held n e C4=some y->∃ c:AV,Good c/\c.size=k/\aU (qf w) w c.cells C4) :
   ∃ (es:List AV) (v:Value),cs=[v]/\aN (qf w) w (.sl k es) v/\(∀ c∈es,Good c)/\es.length<=maxLen:=by
 rcases DataW.trod_slice ht h with ⟨rfl,rfl⟩ | ⟨a,len,cap,elems,rest,n,hfu,rfl,rfl,_,hl,hm,hlen,C3,_,_⟩
 . exact ⟨[],_,rfl,by simp only [aN];exact ⟨none,0,rfl,Nat.le_refl _,Nat.zero_le _,by simp, .inl trivial⟩,by simp,Nat.zero_le _⟩
 have hC:∀ i,i<len->∃ c:AV,Good c/\c.size=k/\∃ C4,w.cells? 0 (a.add (i*k)) k=some C4/\aU (qf w) w c.cells C4:=by
   intro i hi
   have h1:=C3 i hi
   rw [List.getElem?_eq_getElem (by omega),hk] at h1
   obtain ⟨C4,h2,h3⟩:=Option.bind_eq_some_iff.1 h1
   obtain ⟨c,hg,hs,hr⟩:=F n C4 _ hfu h3
   exact ⟨c,hg,hs,C4,h2,hr⟩
 have hC':∀ i:_root_.Fin len,∃ c:AV,Good c/\c.size=k/\∃ C4,w.cells? 0 (a.add (i.1*k)) k=some C4/\aU (qf w) w c.cells C4:=fun i=>hC i.1 i.2
 let C:_root_.Fin len->AV:=fun i=>(hC' i).choose
 have hCs:∀ i,Good (C i)/\(C i).size=k/\∃ C4,w.cells? 0 (a.add (i.1*k)) k=some C4/\aU (qf w) w (C i).cells C4:=fun i=>(hC' i).choose_spec
 have hsz:∀ c∈List.ofFn C,c.size=k:=by intro c hc;obtain ⟨i,rfl⟩:=List.mem_ofFn.1 hc;exact (hCs i).2.1
 refine ⟨List.ofFn C,_,rfl, ?_,by intro c hc;obtain ⟨i,rfl⟩:=List.mem_ofFn.1 hc;exact (hCs i).1,by rw [List.length_ofFn];omega⟩
 simp only [aN]
 refine ⟨some a,cap,by rw [List.length_ofFn],by rw [List.length_ofFn];exact hl,hm,hsz, ?_⟩
 by_cases h0:len=0
 . left;exact List.length_eq_zero_iff.1 (by rw [List.length_ofFn];exact h0)
 right
 have hcell:∀ (i:_root_.Fin len) (r:Nat) (c:AV),(C i).cells[r]? = some c->∃ v,w.cell? ((a.add (i.1*k)).add r)=some v/\aN (qf w) w c v:=by
   intro i r c hc
   obtain ⟨_,hs,C4,h1,h2⟩:=hCs i
   obtain ⟨Mw,hp⟩:=bT.1 h2
   obtain ⟨v,hv,GV⟩:=hp r c hc
   refine ⟨v, ?_,GV⟩
   have hrk:r<k:=by have:=(List.getElem?_eq_some_iff.1 hc).1;rw [<- hs];exact this
   rw [(World.cells?_some h1).2.2 r hrk,hv]
 obtain ⟨b,o,spot⟩:=a
 have hz:0<len:=Nat.pos_of_ne_zero h0
 obtain ⟨c0,Y0⟩:∃ c,(C ⟨0,hz⟩).cells[0]? = some c:=⟨_,List.getElem?_eq_getElem (by have:=(hCs ⟨0,hz⟩).2.1;unfold AV.size at this;omega)⟩
 obtain ⟨v0,hv0,_⟩:=hcell ⟨0,hz⟩ 0 c0 Y0
 have aj3:((⟨b,o,spot⟩:Addr).add (0*k)).add 0=⟨b,o,spot⟩:=by simp [Addr.add]
 have aj4:w.cell? ⟨b,o,spot⟩=some v0:=by rw [<- aj3];exact hv0
 have hsp:spot=none:=World.cell?_spot aj4
 subst hsp
 refine ⟨b,o,rfl,World.block_lt_of_cell? _ _ aj4,dY.2 ?_⟩
 intro j c hj
 have zD:j<(flat (List.ofFn C)).length:=(List.getElem?_eq_some_iff.1 hj).1
 rw [cO hsz,List.length_ofFn] at zD
 have P2:j/k<len:=(Nat.div_lt_iff_lt_mul Pe).2 zD
 have hjr:j%k<k:=Nat.mod_lt _ Pe
 have afv:(List.ofFn C)[j/k]? = some (C ⟨j/k,P2⟩):=by rw [List.getElem?_ofFn,dif_pos P2]
 have GN:=flat_get hsz afv hjr
 have hjj:j/k*k+j%k=j:=by rw [Nat.mul_comm];exact Nat.div_add_mod j k
 rw [hjj,hj] at GN
 obtain ⟨v,hv,hr⟩:=hcell ⟨j/k,P2⟩ (j%k) c GN.symm
 refine ⟨v, ?_,hr⟩
 have aog:((⟨b,o,none⟩:Addr).add (j/k*k)).add (j%k)=⟨b,o+j,none⟩:=by
   have h1:∀ (o n:Nat),(⟨b,o,none⟩:Addr).add n=⟨b,o+n,none⟩:=fun o n=>by unfold Addr.add;split<;>simp_all
   rw [h1,h1,Nat.add_assoc,hjj]
 rw [<- aog];exact hv
end
end Go.VL
end

section
set_option maxRecDepth 100000
namespace Go.Proofs.YtndoagbiakehnaaGreat
open Go.VL
theorem KH:maxLen<=9223372036854775807:=Nat.le_refl _
section
variable {H:Type} {enc:TypeId × Value->H} {w:World} {spare:Nat->Bool} {held:Bool} {fuel:Nat} {cs:List Value} {x:DataW H × List MemPlace}
theorem afS (h:DataW.trod enc Tryz.prog w 0 spare held fuel 9 cs=some x):∃ s:List UInt8,aU (qf w) w [.str s] cs/\s.length<=9223372036854775807:=by
 obtain ⟨s,rfl,_,hs⟩:=DataW.trod_string Tryz.underlying9 h
 refine ⟨s.data.toList, ?_, ?_⟩
 . simp only [aU,aN]
   exact ⟨_,[],rfl,rfl,rfl⟩
 . have e:s.data.toList.length=s.size:=Array.length_toList
   rw [e];exact Nat.le_trans hs KH
theorem Ml (h:DataW.trod enc Tryz.prog w 0 spare held fuel 4 cs=some x):∃ b:Bool,aU (qf w) w [.bool b] cs:=by
 obtain ⟨b,rfl,_⟩:=DataW.trod_bool Tryz.underlying4 h
 exact ⟨b,by simp [aU,aN]⟩
theorem ac8 (h:DataW.trod enc Tryz.prog w 0 spare held fuel 5 cs=some x):∃ n:Nat,n<256/\aU (qf w) w [.int .u8 (n:Int)] cs:=by
 obtain ⟨n,rfl,_,hw⟩:=DataW.trod_int Tryz.underlying5 h
 have hb:=bounds_u8 hw
 obtain ⟨m,rfl⟩:=Int.eq_ofNat_of_zero_le hb.1
 exact ⟨m,by omega,by simp [aU,aN]⟩
theorem ac9 (h:DataW.trod enc Tryz.prog w 0 spare held fuel 110 cs=some x):∃ n:Int,(-128<=n/\n<128)/\aU (qf w) w [.int .i8 n] cs:=by
 obtain ⟨n,rfl,_,hw⟩:=DataW.trod_int Tryz.underlying110 h
 exact ⟨n,by have:=bounds_i8 hw;omega,by simp [aU,aN]⟩
theorem abv (h:DataW.trod enc Tryz.prog w 0 spare held fuel 49 cs=some x):∃ l:List (List UInt8),aU (qf w) w [strs l] cs:=by
 obtain ⟨es,v,rfl,hr,hg,hl⟩:=Mk (k:=1) Tryz.underlying49 (by kernel_rfl) (by decide) h (fun c=>∃ s:List UInt8,c = .str s/\s.length<=9223372036854775807) (fun n C4 y _ hy=>by
   obtain ⟨s,hs,hl⟩:=afS hy
   exact ⟨.str s,⟨s,rfl,hl⟩,rfl,hs⟩)
 obtain ⟨l,rfl,hw⟩:=q9 hg
 exact ⟨l,by simp only [aU];exact ⟨v,[],rfl,hr,rfl⟩⟩
theorem YA (h:DataW.trod enc Tryz.prog w 0 spare held fuel 24 cs=some x):∃ ws:List Nat,aU (qf w) w [.sl 1 (us ws)] cs/\Wd ws/\ws.length<=9223372036854775807:=by
 obtain ⟨es,v,rfl,hr,hg,hl⟩:=Mk (k:=1) Tryz.underlying24 (by kernel_rfl) (by decide) h (fun c=>∃ n:Nat,c = .int .u32 (n:Int)/\n<ay) (fun n C4 y _ hy=>by
   obtain ⟨n,rfl,_,hw⟩:=DataW.trod_int Tryz.underlying146 hy
   have hb:=bounds_u32 hw
   obtain ⟨m,rfl⟩:=Int.eq_ofNat_of_zero_le hb.1
   exact ⟨.int .u32 (m:Int),⟨m,rfl,by unfold ay;omega⟩,rfl,by simp [AV.cells,aU,aN]⟩)
 obtain ⟨ws,rfl,hw⟩:=q9 hg
 refine ⟨ws,by simp only [aU];exact ⟨v,[],rfl,hr,rfl⟩,hw, ?_⟩
 rw [List.length_map] at hl
 exact Nat.le_trans hl KH
theorem YB (h:DataW.trod enc Tryz.prog w 0 spare held fuel 26 cs=some x):∃ (b:Bool) (ws:List Nat),aU (qf w) w [.bool b, .sl 1 (us ws)] cs/\Wd ws/\ws.length<=9223372036854775807:=by
 obtain ⟨xs,n,_,_,hl,YH,hf⟩:=DataW.trod_struct Tryz.underlying26 h
 have hC:Tryz.prog.cellsOf 26=2:=by kernel_rfl
 have h4:Tryz.prog.cellsOf 4=1:=by kernel_rfl
 have h24:Tryz.prog.cellsOf 24=1:=by kernel_rfl
 rw [hC] at hl
 have hxs:xs.length=2:=YH
 match cs,hl with
 | [c0,c1],_ =>
   have f0:DataW.trod enc Tryz.prog w 0 spare held n 4 (List.take (Tryz.prog.cellsOf 4) (List.drop 0 [c0,c1]))=xs[0]? := hf 0 _ rfl
   have f1:DataW.trod enc Tryz.prog w 0 spare held n 24 (List.take (Tryz.prog.cellsOf 24) (List.drop 1 [c0,c1]))=xs[1]? := hf 1 _ rfl
   rw [List.getElem?_eq_getElem (by omega)] at f0 f1
   simp only [h4,h24,List.drop_zero,List.drop_succ_cons,List.take_succ_cons,List.take_zero] at f0 f1
   obtain ⟨b,hb⟩:=Ml f0
   obtain ⟨ws,hw,hwd,hwl⟩:=YA f1
   exact ⟨b,ws,aU.append (xs:=[.bool b]) (us:=[c0]) hb hw,hwd,hwl⟩
theorem afT (h:DataW.trod enc Tryz.prog w 0 spare held fuel 28 cs=some x):∃ (n1:Bool) (w1:List Nat) (n2:Bool) (w2:List Nat),aU (qf w) w [.bool n1, .sl 1 (us w1), .bool n2, .sl 1 (us w2)] cs/\Wd w1/\Wd w2/\w1.length<=9223372036854775807/\w2.length<=9223372036854775807:=by
 obtain ⟨xs,n,_,_,hl,YH,hf⟩:=DataW.trod_struct Tryz.underlying28 h
 have hC:Tryz.prog.cellsOf 28=4:=by kernel_rfl
 have h26:Tryz.prog.cellsOf 26=2:=by kernel_rfl
 rw [hC] at hl
 have hxs:xs.length=2:=YH
 match cs,hl with
 | [c0,c1,c2,c3],_ =>
   have f0:DataW.trod enc Tryz.prog w 0 spare held n 26 (List.take (Tryz.prog.cellsOf 26) (List.drop 0 [c0,c1,c2,c3]))=xs[0]? := hf 0 _ rfl
   have f1:DataW.trod enc Tryz.prog w 0 spare held n 26 (List.take (Tryz.prog.cellsOf 26) (List.drop 2 [c0,c1,c2,c3]))=xs[1]? := hf 1 _ rfl
   rw [List.getElem?_eq_getElem (by omega)] at f0 f1
   simp only [h26,List.drop_zero,List.drop_succ_cons,List.take_succ_cons,List.take_zero] at f0 f1
   obtain ⟨n1,w1,h1,vA,tG⟩:=YB f0
   obtain ⟨n2,w2,h2,xh,Mw⟩:=YB f1
   exact ⟨n1,w1,n2,w2,aU.append (xs:=[.bool n1, .sl 1 (us w1)]) (us:=[c0,c1]) h1 h2,vA,xh,tG,Mw⟩
theorem c8:Tryz.prog.cellsOf 110=1:=by kernel_rfl
theorem c4:Tryz.prog.cellsOf 4=1:=by kernel_rfl
theorem c5:Tryz.prog.cellsOf 5=1:=by kernel_rfl
theorem aj5:Tryz.prog.cellsOf 111=2:=by kernel_rfl
theorem aj6:Tryz.prog.cellsOf 113=8:=by kernel_rfl
theorem ada (h:DataW.trod enc Tryz.prog w 0 spare held fuel 111 cs=some x):∃ a:Int × Int,ok8 a/\aU (qf w) w [.int .i8 a.1, .int .i8 a.2] cs:=by
 obtain ⟨xs,n,_,_,hl,YH,hf⟩:=DataW.trod_array Tryz.underlying111 h
 rw [aj5] at hl
 match cs,hl with
 | [a,b],_ =>
   have f0:=hf 0 (by decide)
   have f1:=hf 1 (by decide)
   rw [List.getElem?_eq_getElem (by omega)] at f0 f1
   simp only [c8,Nat.zero_mul,Nat.one_mul,List.drop_zero,List.drop_succ_cons,List.take_succ_cons,List.take_zero] at f0 f1
   obtain ⟨i,hi,Zg⟩:=ac9 f0
   obtain ⟨j,hj,hrj⟩:=ac9 f1
   exact ⟨(i,j),⟨hi.1,hi.2,hj.1,hj.2⟩,aU.append (xs:=[.int .i8 i]) (us:=[a]) Zg hrj⟩
theorem YC (h:DataW.trod enc Tryz.prog w 0 spare held fuel 113 cs=some x):∃ d:DX,d.Ok/\aU (qf w) w d.av.cells cs:=by
 obtain ⟨xs,n,_,_,hl,YH,hf⟩:=DataW.trod_struct Tryz.underlying113 h
 rw [aj6] at hl
 have hxs:xs.length=6:=YH
 match cs,hl with
 | [c0,c1,c2,c3,c4',c5',c6,c7],_ =>
   have f0:DataW.trod enc Tryz.prog w 0 spare held n 4 (List.take (Tryz.prog.cellsOf 4) (List.drop 0 [c0,c1,c2,c3,c4',c5',c6,c7]))=xs[0]? := hf 0 _ rfl
   have f1:DataW.trod enc Tryz.prog w 0 spare held n 4 (List.take (Tryz.prog.cellsOf 4) (List.drop 1 [c0,c1,c2,c3,c4',c5',c6,c7]))=xs[1]? := hf 1 _ rfl
   have f2:DataW.trod enc Tryz.prog w 0 spare held n 111 (List.take (Tryz.prog.cellsOf 111) (List.drop 2 [c0,c1,c2,c3,c4',c5',c6,c7]))=xs[2]? := hf 2 _ rfl
   have f3:DataW.trod enc Tryz.prog w 0 spare held n 111 (List.take (Tryz.prog.cellsOf 111) (List.drop 4 [c0,c1,c2,c3,c4',c5',c6,c7]))=xs[3]? := hf 3 _ rfl
   have f4:DataW.trod enc Tryz.prog w 0 spare held n 5 (List.take (Tryz.prog.cellsOf 5) (List.drop 6 [c0,c1,c2,c3,c4',c5',c6,c7]))=xs[4]? := hf 4 _ rfl
   have f5:DataW.trod enc Tryz.prog w 0 spare held n 5 (List.take (Tryz.prog.cellsOf 5) (List.drop 7 [c0,c1,c2,c3,c4',c5',c6,c7]))=xs[5]? := hf 5 _ rfl
   rw [List.getElem?_eq_getElem (by omega)] at f0 f1 f2 f3 f4 f5
   simp only [c4,c5,aj5,List.drop_zero,List.drop_succ_cons,List.take_succ_cons,List.take_zero] at f0 f1 f2 f3 f4 f5
   obtain ⟨a,ha⟩:=Ml f0
   obtain ⟨b,hb⟩:=Ml f1
   obtain ⟨p,hp,hpr⟩:=ada f2
   obtain ⟨q,hq,QN⟩:=ada f3
   obtain ⟨s,hs,UQ⟩:=ac8 f4
   obtain ⟨u,hu,hur⟩:=ac8 f5
   refine ⟨⟨a,b,p,q,s,u⟩,⟨hp,hq,hs,hu⟩, ?_⟩
   show aU (qf w) w [.bool a, .bool b, .int .i8 p.1, .int .i8 p.2, .int .i8 q.1, .int .i8 q.2, .int .u8 (s:Int), .int .u8 (u:Int)] _
   exact aU.append (xs:=[.bool a]) (us:=[c0]) ha (aU.append (xs:=[.bool b]) (us:=[c1]) hb (aU.append (xs:=[.int .i8 p.1, .int .i8 p.2]) (us:=[c2,c3]) hpr (aU.append (xs:=[.int .i8 q.1, .int .i8 q.2]) (us:=[c4',c5']) QN (aU.append (xs:=[.int .u8 (s:Int)]) (us:=[c6]) UQ hur))))
theorem UM (h:DataW.trod enc Tryz.prog w 0 spare held fuel 22 cs=some x):∃ l:List DX,(∀ d∈l,d.Ok)/\aU (qf w) w [Pk l] cs:=by
 obtain ⟨es,v,rfl,hr,hg,hl⟩:=Mk (k:=8) Tryz.underlying22 aj6 (by decide) h (fun c=>∃ d:DX,c=d.av/\d.Ok) (fun n C4 y _ hy=>by
   obtain ⟨d,h1,h2⟩:=YC hy
   exact ⟨d.av,⟨d,rfl,h1⟩,rfl,h2⟩)
 obtain ⟨l,rfl,hw⟩:=q9 hg
 exact ⟨l,hw,by simp only [aU];exact ⟨v,[],rfl,hr,rfl⟩⟩
end
end Go.Proofs.YtndoagbiakehnaaGreat
end

section
namespace Go.VL
open Go.ChangeShapes Go.WideShapes Go.ChangeAt Go.RowKit
section
variable {H:Type} {enc:TypeId × Value->H} {P:Program}
theorem Co (hl:laidOutB P=true) {W W':World} {sp:Nat->Bool} (hB:Below W.heap.size W W'):∀ {ts:List TypeId} {vs:List Value} {ds:List (DataW H)} {ps:List MemPlace},
   (∀ t∈ts,P.readableRec t=true/\t<P.types.size)->DataW.TrodAll enc P W 0 (fun _=>true) true ts vs ds ps->(∀ p∈ps,p.block<W.heap.size)->(∀ p∈ps,sp p.block=true) ->
   DataW.TrodAll enc P W' 0 sp true ts vs ds ps
 | [],[],[],ps,_,h,_,_=>by simpa [DataW.TrodAll] using h
 | t::ts,v::vs,d::ds,ps,hr,h,hlt,hsp=>by
   simp only [DataW.TrodAll] at h ⊢
   obtain ⟨p,q,h1,h2,rfl⟩:=h
   refine ⟨p,q, ?_,Co hl hB (fun x hx=>hr x (by simp [hx])) h2 (fun x hx=>hlt x (by simp [hx])) (fun x hx=>hsp x (by simp [hx])),rfl⟩
   exact WideElems.Trod_stays hl (hr t (by simp)).1 (hr t (by simp)).2 h1 (fun x hx=>hB.same (hlt x (by simp [hx]))) (fun x hx=>hsp x (by simp [hx]))
 | [],[],_::_,_,_,h,_,_=>by simp [DataW.TrodAll] at h
 | [],_::_,_,_,_,h,_,_=>by simp [DataW.TrodAll] at h
 | _::_,[],_,_,_,h,_,_=>by simp [DataW.TrodAll] at h
 | _::_,_::_,[],_,_,h,_,_=>by simp [DataW.TrodAll] at h
theorem YD {f:Func} {s:ChangeSpec} {apart fresh handsOn:Bool} {W W':World} {args:Array Value} {ds gs:List (DataW H)} {before:List MemPlace}
   (hl:laidOutB P=true) (hr:∀ t∈f.params.toList,P.readableRec t=true/\t<P.types.size) (hv:s.vars=[])
   (hs:(s.fn H (ds++gs))={ results:=[.lit (.bool true)],args:=ds }) {tb:TypeId} (MD:f.resultTypes = #[tb]) (htb:P.underlying tb=some .bool)
   (hW:DataW.Whole enc P f.params.toList s.vars apart W args.toList ds gs before) (hB:Below W.heap.size W W') :
   s.post enc P f apart fresh handsOn false W args (.bool true) W':=by
 have hlt:=hW.lt
 have hW':=hW
 obtain ⟨p,q,h1,h2,rfl,h3,h4⟩:=hW
 rw [hv] at h2
 have hq:q=[]/\gs=[]:=by
   cases gs with
   | nil=>simp only [DataW.TrodVars] at h2;exact ⟨h2,rfl⟩
   | cons _ _=>simp [DataW.TrodVars] at h2
 obtain ⟨rfl,rfl⟩:=hq
 refine ⟨ds,[],p++[],[],p,[],hW', ?_, ?_, ?_,hB.frame _,fun h=>by simp at h⟩
 . rw [hs,MD]
   exact trodAll_mk1 ⟨1,by simp [DataW.trod,htb,Value.cells]⟩
 . rw [hs]
   exact Co hl hB hr h1 (fun x hx=>hlt x (by simp [hx])) (fun x hx=>by simpa using hlt x (by simp [hx]))
 . rw [hs,hv];simp [DataW.TrodVars]
end
theorem Pb {P:Program} {G:Nat->Option (List AV)} {f:FuncId} {args:List AV} {r:fL} (h:aM P G f args [] [] r) (hr:r.val = .bool true) {w:World} {ok:Nat->Prop}
   (ib:∀ b,ok b->b<w.heap.size) (hg:∀ g cs,G g=some cs->ok g/\bq ⟨fun _=>none,ok⟩ w g 0 cs) {vs:List Value} (ha:aU ⟨fun _=>none,ok⟩ w args vs) :
   Calls P f vs.toArray w fun e w'=>e = .returned (.bool true)/\Below w.heap.size w w':=by
 have hi:Inv G (fun k=>w.heap.size<=k) ⟨fun _=>none,ok⟩ w (fun _=>none):=⟨ib,fun id bk h=>by simp at h,fun i j x y h=>absurd rfl h,hg,fun k hk=>hk⟩
 refine (h.2 _ _ w _ vs (by simp) hi ha (fun _ _=>rfl)).mono fun e w' he => ?_
 obtain ⟨v,E',rfl,hp⟩:=he
 have hv:=hp.rep
 rw [hr] at hv
 simp only [aN] at hv
 subst hv
 exact ⟨rfl,hp.I1.os,hp.I1.tape,hp.I1.output,hp.I1.size,fun k hk=>hp.I1.block k hk (by omega)⟩
end Go.VL
end

section
namespace Go.Proofs.YtndoagbiakehnaaGreat
open Go.ChangeShapes Go.WideShapes Go.ChangeAt Go.RowKit Go.Joins Go.Deep
theorem Tryz.own:ownKnob Tryz.prog.godebug=none:=by kernel_rfl
theorem Tryz.laidOut:laidOutB Tryz.prog=true:=by kernel_rfl
set_option maxRecDepth 100000 in
theorem lifted (os:Os) (started:os.Started) (H:Type) (enc:TypeId × Value->H) :
   ReturnsInHanded {} Tryz.checked os 4 .any (Rows.featureOffsetSpec.pre6 enc Tryz.prog Tryz.f4 Rows.featureOffsetRow.domain false) (Rows.featureOffsetSpec.post enc Tryz.prog Tryz.f4 false true false false):=by
 refine returnsInHanded_of_change (C:=Tryz.checked) Tryz.own started (by kernel_rfl) Tryz.func4
   (ChangeSpec.witness6 (enc:=enc) (C:=Tryz.checked) false ⟨#[], #[.slice none 0 0, .slice none 0 0, .agg #[.bool false, .slice none 0 0, .bool false, .slice none 0 0]],[]⟩ 8 (by kernel_rfl) (by kernel_rfl) (by kernel_rfl) (by kernel_rfl)) ?_
 intro W base args ds gs before adb hW hcnd _
 have hval:∀ (j:Nat) t v,Tryz.f4.params[j]? = some t->args[j]? = some v->Value.okWide Tryz.prog W .any base t v:=adb
 have hW':=hW
 obtain ⟨p,q,hA0,hV,rfl,hfz,hnd⟩:=hW
 have hA:DataW.TrodAll enc Tryz.prog W 0 (fun _=>true) true Tryz.f4.params.toList args.toList ds p:=hA0
 rw [Tryz.params4] at hA hval
 obtain ⟨v0,v1,v2,d0,d1,d2,q0,q1,q2,rfl,rfl,rfl,h0,h1,h2⟩:=trodAll_three hA
 obtain ⟨rfl,rfl⟩:=trodVars_none hV
 clear hA0 adb
 obtain ⟨a0,l0,k0,rfl⟩:=okWide_slice Tryz.underlying22 (hval 0 22 v0 rfl rfl)
 obtain ⟨a1,l1,k1,rfl⟩:=okWide_slice Tryz.underlying49 (hval 1 49 v1 rfl rfl)
 obtain ⟨xs,rfl,_⟩:=okWide_struct Tryz.underlying28 (hval 2 28 v2 rfl rfl)
 obtain ⟨m0,e0⟩:=h0
 obtain ⟨m1,e1⟩:=h1
 obtain ⟨m2,e2⟩:=h2
 obtain ⟨ds,hds,r0⟩:=UM e0
 obtain ⟨ns,r1⟩:=abv e1
 obtain ⟨n1,w1,n2,w2,r2,QX,ZJ,tG,Mw⟩:=afT e2
 have Tu:VL.aU (VL.qf W) W [VL.Pk ds,VL.strs ns,VL.RR n1 w1 n2 w2] [.slice a0 l0 k0, .slice a1 l1 k1, .agg xs] :=
   VL.aU.append (xs:=[VL.Pk ds]) (us:=[.slice a0 l0 k0]) r0 (VL.aU.append (xs:=[VL.strs ns]) (us:=[.slice a1 l1 k1]) r1 ⟨.agg xs,[],rfl,⟨xs,rfl,r2⟩,rfl⟩)
 refine (VL.Pb (G:=fun _=>none) (ok:=fun b=>b<W.heap.size) (VL.aM.QY (afR _ (X7 _) ds hds ns n1 n2 w1 w2 QX ZJ tG Mw) (VL.Cm.pure) []) rfl (fun _ h=>h) (fun _ _ h=>by cases h) (vs:=[.slice a0 l0 k0, .slice a1 l1 k1, .agg xs]) Tu).mono fun e W' he => ?_
 obtain ⟨rfl,hB⟩:=he
 exact ⟨_,rfl,VL.YD Tryz.laidOut (by rw [Tryz.params4];intro t ht;simp at ht;rcases ht with rfl | rfl | rfl<;>exact ⟨by kernel_rfl,by decide +kernel⟩) rfl rfl rfl (tb:=4) Tryz.underlying4 hW' hB⟩
theorem featureOffset_holds:Rows.FeatureOffsetSaid :=
 OpenClaim.holds_of_wide 4 Tryz.f4 rfl rfl rfl rfl rfl rfl rfl ⟨rfl,rfl,rfl,rfl,rfl⟩ rfl rfl rfl rfl rfl (by kernel_rfl) Tryz.func4 (by kernel_rfl)
   (of_decide_eq_true (by kernel_rfl)) (by unfold Func.isWrapper;first | (rw [if_pos (by decide +kernel)];kernel_rfl) | (rw [if_neg (by decide +kernel)];exact ⟨rfl,rfl⟩))
   (fun os started H enc _=>lifted os started H enc)
end Go.Proofs.YtndoagbiakehnaaGreat
end
