/- For the claim of FeatureLimits: parts CQ2, CN4, CQ3, CQ4, CQ5, CQ6, CQ7, VL37. -/
import Derived.Test.YtchdghnpcekegaaGreatDoorC08
set_option linter.unusedSimpArgs false
set_option linter.unusedVariables false
section
set_option linter.unusedVariables false
set_option linter.unusedVariables false
namespace Go.VL
theorem Qd (q:Rat):decide ((ag q.num.natAbs:Int)=0)=decide (q=0):=by
 have h1:=cG (n:=q.num.natAbs)
 have h2:=Rat.num_eq_zero (q:=q)
 congr 1;apply propext
 rw [<- h2];omega
theorem three (a b:Int) (h : ¬ (a=1/\b=1)):(decide (a=1)=true/\decide (b=1)=false)∨(decide (a=1)=false/\decide (b=1)=false)∨(decide (a=1)=false/\decide (b=1)=true):=by
 by_cases h1:a=1<;>by_cases h2:b=1<;>simp_all
section
variable {P:Program} {G:Nat->Option (List AV)}
set_option maxHeartbeats 1000000 in
theorem UR {f fo fA fg fm fq:FuncId} (h:Has P f (lZ fo fA fg fm fq)) (ho:G4 P G fo) (hA:Mh P G fA) (hg:Jb P G fg) (hm:Es P G fm) (hq:P9 P G fq):P6 P G f:=fun a b ha hb=>by
 have o1:=ho a.den
 have o2:=ho b.den
 have z1:=Qd a
 have z2:=Qd b
 have ha1:=ha.1
 have ha2:=ha.2
 have ye:=hb.1
 have C1:=hb.2
 obtain ⟨n1,n2⟩:=XS a b
 refine VP.has h ?_
 simp only [lZ]
 by_cases a0:a=0
 . rw [aw a0] at z1
   rw [show a+b=b from by rw [a0,Rat.zero_add]]
   repeat (first
     | simp (disch:=first | decide | exact rfl) only [SS,Nat.reduceAdd,aq,ao,ey,CA,cy,bg,z1,cv]
     | with_reducible refine ah (by assumption) (by simp [au]) ?_
     | with_reducible refine aj (by assumption) (by simp [au]) ?_
     | with_reducible refine And.intro (a:=ab _ _) (by simp [ab,apart]) ?_
     | with_reducible refine VW.aA 3 (VW.of ?_)
     | with_reducible refine bW.next _ (VW.of ?_)
     | rw [ai (by exact rfl) (by exact rfl) (by exact rfl) (by exact rfl) (by exact rfl)]
     | rw [bQ (by exact rfl) (by exact rfl) (by exact rfl) (by exact rfl)]
     | rw [bR (by exact rfl) (by exact rfl) (by exact rfl) (by exact rfl) (by exact rfl) (by exact rfl)]
     | fail)
   refine ak▸ae (r:=QV b) ?_ (ax _)
   simp (disch:=decide) only [RS,aY,a7,ao,cy]
 rw [ar a0] at z1
 by_cases b0:b=0
 . rw [aw b0] at z2
   rw [show a+b=a from by rw [b0,Rat.add_zero]]
   repeat (first
     | simp (disch:=first | decide | exact rfl) only [SS,Nat.reduceAdd,aq,ao,ey,CA,cy,bg,z1,z2,cv]
     | with_reducible refine ah (by assumption) (by simp [au]) ?_
     | with_reducible refine aj (by assumption) (by simp [au]) ?_
     | with_reducible refine And.intro (a:=ab _ _) (by simp [ab,apart]) ?_
     | with_reducible refine VW.aA 3 (VW.of ?_)
     | with_reducible refine bW.next _ (VW.of ?_)
     | rw [ai (by exact rfl) (by exact rfl) (by exact rfl) (by exact rfl) (by exact rfl)]
     | rw [bQ (by exact rfl) (by exact rfl) (by exact rfl) (by exact rfl)]
     | rw [bR (by exact rfl) (by exact rfl) (by exact rfl) (by exact rfl) (by exact rfl) (by exact rfl)]
     | fail)
   refine ak▸ae (r:=QV a) ?_ (ax _)
   simp (disch:=decide) only [RS,aY,a7,ao,cy]
 rw [ar b0] at z2
 by_cases hdd:(a.den:Int)=1/\(b.den:Int)=1
 . have d3:=aw hdd.1
   have d4:=aw hdd.2
   have h1:=hA a.num b.num (by omega) (by omega)
   have hs:a+b=((a.num+b.num:Int):Rat):=by rw [Rat.intCast_add, <- zK hdd.1, <- zK hdd.2]
   have e:=G3 (z:=a.num+b.num) (d:=a.den) (q:=a+b) (by rw [hs];rfl) (by rw [hs,hdd.1];rfl)
   repeat (first
     | simp (disch:=first | decide | exact rfl) only [SS,DD,Nat.reduceAdd,aq,ao,ey,CA,xH,xI,bg,z1,z2,d3,d4,cv,xn,e]
     | with_reducible refine ah (by assumption) (by simp [au]) ?_
     | with_reducible refine aj (by assumption) (by simp [au]) ?_
     | with_reducible refine And.intro (a:=ab _ _) (by simp [ab,apart]) ?_
     | with_reducible refine VW.aA 3 (VW.of ?_)
     | with_reducible refine bW.next _ (VW.of ?_)
     | rw [ai (by exact rfl) (by exact rfl) (by exact rfl) (by exact rfl) (by exact rfl)]
     | rw [bQ (by exact rfl) (by exact rfl) (by exact rfl) (by exact rfl)]
     | rw [bR (by exact rfl) (by exact rfl) (by exact rfl) (by exact rfl) (by exact rfl) (by exact rfl)]
     | fail)
   refine ak▸ae (r:=QV (a+b)) ?_ (ax _)
   simp (disch:=decide) only [RS,aY,a7,ao,cy]
 have hgd:VP P G fg [IV a.den,IV b.den] (IV (Nat.gcd a.den b.den:Nat)):=hg a.den b.den (by rw [dH];omega) (by rw [dH];omega)
 have w1:=cf a.num b.den
 have w2:=cf b.num a.den
 have w3:=cf a.den b.den
 rw [dH] at w1 w2 w3
 rw [dH] at w3
 have o3:=ho (Nat.gcd a.den b.den:Nat)
 have hgp:0<Nat.gcd a.den b.den:=Nat.gcd_pos_of_pos_left _ a.den_pos
 generalize hgg:Nat.gcd a.den b.den=g at *
 by_cases g1:g=1
 . subst g1
   have o4:=ho 1
   have d5:decide ((1:Int)=1)=true:=rfl
   have m1:=hm a.num b.den (by omega) (by rw [dH];omega)
   have m2:=hm b.num a.den (by omega) (by rw [dH];omega)
   have m3:=hm a.den b.den (by rw [dH];omega) (by rw [dH];omega)
   have s1:=hA (a.num*b.den) (b.num*a.den) (by omega) (by omega)
   simp only [Nat.div_one,Nat.gcd_one_right,Int.natCast_one,Int.ediv_one] at n1 n2
   have e:=G3 (z:=a.num*b.den+b.num*a.den) (d:=a.den*b.den) (q:=a+b) n1 (by rw [n2];exact Int.natCast_mul _ _)
   rcases three _ _ hdd with ⟨d3,d4⟩ | ⟨d3,d4⟩ | ⟨d3,d4⟩
   all_goals
     repeat (first
       | simp (disch:=first | decide | exact rfl) only [SS,DD,Nat.reduceAdd,aq,ao,CC,decide_true,ey,CA,xH,xI,bg,z1,z2,d3,d4,cv,b9,c9,xn,e]
       | with_reducible refine ah (by assumption) (by simp [au]) ?_
       | with_reducible refine aj (by assumption) (by simp [au]) ?_
       | with_reducible refine And.intro (a:=ab _ _) (by simp [ab,apart]) ?_
       | with_reducible refine VW.aA 3 (VW.of ?_)
       | with_reducible refine bW.next _ (VW.of ?_)
       | rw [ai (by exact rfl) (by exact rfl) (by exact rfl) (by exact rfl) (by exact rfl)]
       | rw [bQ (by exact rfl) (by exact rfl) (by exact rfl) (by exact rfl)]
       | rw [bR (by exact rfl) (by exact rfl) (by exact rfl) (by exact rfl) (by exact rfl) (by exact rfl)]
       | fail)
     refine ak▸ae (r:=QV (a+b)) ?_ (ax _)
     simp (disch:=decide) only [RS,aY,a7,ao,cy]
 . have d5:decide ((g:Int)=1)=false:=ar (by omega)
   have hga:g ∣ a.den:=hgg▸Nat.gcd_dvd_left _ _
   have hgb:g ∣ b.den:=hgg▸Nat.gcd_dvd_right _ _
   have hgl:ag ((g:Nat):Int).natAbs<=100000:=Nat.le_trans (bE (Nat.le_of_dvd a.den_pos hga)) ha2
   have q1:=hq a.den g (by omega) (Int.ofNat_dvd.2 hga) (by rw [dH];omega) (by omega)
   have q2:=hq b.den g (by omega) (Int.ofNat_dvd.2 hgb) (by rw [dH];omega) (by omega)
   rw [<- Int.natCast_ediv] at q1 q2
   have wx:ag (((a.den/g:Nat):Int)).natAbs<=100000:=Nat.le_trans (bE (Nat.div_le_self _ _)) ha2
   have wy:ag (((b.den/g:Nat):Int)).natAbs<=100000:=Nat.le_trans (bE (Nat.div_le_self _ _)) C1
   generalize a.den/g=x at *
   generalize b.den/g=y at *
   have m1:=hm a.num y (by omega) (by omega)
   have m2:=hm b.num x (by omega) (by omega)
   have v1:=cf a.num y
   have v2:=cf b.num x
   have s1:=hA (a.num*y) (b.num*x) (by omega) (by omega)
   have v3:ag (a.num*y+b.num*x).natAbs<=200001:=Nat.le_trans (bE (Int.natAbs_add_le _ _)) (qN (k:=200000) (by omega) (by omega))
   generalize a.num*y+b.num*x=N at *
   have g2:=hg N g (by omega) (by omega)
   rw [Int.natAbs_natCast] at g2
   have hp:0<Nat.gcd N.natAbs g:=Nat.gcd_pos_of_pos_right _ hgp
   have hhl:ag (((Nat.gcd N.natAbs g:Nat):Int)).natAbs<=100000:=Nat.le_trans (bE (Nat.le_of_dvd hgp (Nat.gcd_dvd_right _ _))) hgl
   have hdN:((Nat.gcd N.natAbs g:Nat):Int) ∣ N:=Int.ofNat_dvd_left.2 (Nat.gcd_dvd_left _ _)
   have hdb:Nat.gcd N.natAbs g ∣ b.den:=Nat.dvd_trans (Nat.gcd_dvd_right _ _) hgb
   generalize Nat.gcd N.natAbs g=k at *
   have q3:=hq N k (by omega) hdN (by omega) (by omega)
   have q4:=hq b.den k (by omega) (Int.ofNat_dvd.2 hdb) (by rw [dH];omega) (by omega)
   rw [<- Int.natCast_ediv] at q4
   have m3:=hm x ((b.den/k:Nat):Int) (by omega) (Nat.le_trans (bE (Nat.div_le_self _ _)) (by omega))
   have e:=G3 (z:=N/k) (d:=x*((b.den/k:Nat):Int)) (q:=a+b) n1 (by rw [n2];exact Int.natCast_mul _ _)
   rcases three _ _ hdd with ⟨d3,d4⟩ | ⟨d3,d4⟩ | ⟨d3,d4⟩
   all_goals
     repeat (first
       | simp (disch:=first | decide | exact rfl) only [SS,DD,Nat.reduceAdd,aq,ao,ey,CA,xH,xI,bg,z1,z2,d3,d4,d5,cv,b9,c9,xn,e]
       | with_reducible refine ah (by assumption) (by simp [au]) ?_
       | with_reducible refine aj (by assumption) (by simp [au]) ?_
       | with_reducible refine And.intro (a:=ab _ _) (by simp [ab,apart]) ?_
       | with_reducible refine VW.aA 3 (VW.of ?_)
       | with_reducible refine bW.next _ (VW.of ?_)
       | rw [ai (by exact rfl) (by exact rfl) (by exact rfl) (by exact rfl) (by exact rfl)]
       | rw [bQ (by exact rfl) (by exact rfl) (by exact rfl) (by exact rfl)]
       | rw [bR (by exact rfl) (by exact rfl) (by exact rfl) (by exact rfl) (by exact rfl) (by exact rfl)]
       | fail)
     refine ak▸ae (r:=QV (a+b)) ?_ (ax _)
     simp (disch:=decide) only [RS,aY,a7,ao,cy]
set_option maxHeartbeats 1000000 in
theorem RM {f ff fo fm fg fq:FuncId} (h:Has P f (lU ff fo fm fg fq)) (hf:VP P G ff [.int .i64 0] (QV 0)) (ho:G4 P G fo) (hm:Es P G fm) (hg:Jb P G fg) (hq:P9 P G fq):P7 P G f:=fun a b ha hb=>by
 have o1:=ho a.den
 have o2:=ho b.den
 have z1:=Qd a
 have z2:=Qd b
 have ha1:=ha.1
 have ha2:=ha.2
 have ye:=hb.1
 have C1:=hb.2
 obtain ⟨n1,n2⟩:=XT a b
 refine VP.has h ?_
 simp only [lU]
 by_cases h0:a=0∨b=0
 . rw [show a*b=0 from by rcases h0 with e | e<;>rw [e]<;>simp [Rat.zero_mul,Rat.mul_zero]]
   have h3:(decide (a=0)=true/\decide (b=0)=true)∨(decide (a=0)=true/\decide (b=0)=false)∨(decide (a=0)=false/\decide (b=0)=true):=by
     by_cases e1:a=0<;>by_cases e2:b=0<;>simp_all
   rcases h3 with ⟨d3,d4⟩ | ⟨d3,d4⟩ | ⟨d3,d4⟩
   all_goals
     rw [d3] at z1
     rw [d4] at z2
     repeat (first
       | simp (disch:=first | decide | exact rfl) only [SS,Nat.reduceAdd,aq,ao,ey,CA,bg,z1,z2,cv]
       | with_reducible refine ah (by assumption) (by simp [au,aa.int]) ?_
       | with_reducible refine aj (by assumption) (by simp [au]) ?_
       | with_reducible refine And.intro (a:=ab _ _) (by simp [ab,apart]) ?_
       | with_reducible refine VW.aA 3 (VW.of ?_)
       | with_reducible refine bW.next _ (VW.of ?_)
       | rw [ai (by exact rfl) (by exact rfl) (by exact rfl) (by exact rfl) (by exact rfl)]
       | rw [bQ (by exact rfl) (by exact rfl) (by exact rfl) (by exact rfl)]
       | rw [bR (by exact rfl) (by exact rfl) (by exact rfl) (by exact rfl) (by exact rfl) (by exact rfl)]
       | fail)
     refine ak▸ae (r:=QV 0) ?_ (ax _)
     simp (disch:=decide) only [RS,aY,a7,ao,cy]
 rw [ar (fun e=>h0 (.inl e))] at z1
 rw [ar (fun e=>h0 (.inr e))] at z2
 by_cases hdd:(a.den:Int)=1/\(b.den:Int)=1
 . have d3:=aw hdd.1
   have d4:=aw hdd.2
   have h1:=hm a.num b.num (by omega) (by omega)
   have hs:a*b=((a.num*b.num:Int):Rat):=by rw [Rat.intCast_mul, <- zK hdd.1, <- zK hdd.2]
   have e:=G3 (z:=a.num*b.num) (d:=a.den) (q:=a*b) (by rw [hs];rfl) (by rw [hs,hdd.1];rfl)
   repeat (first
     | simp (disch:=first | decide | exact rfl) only [SS,DD,Nat.reduceAdd,aq,ao,ey,CA,xH,xI,bg,z1,z2,d3,d4,cv,xn,e]
     | with_reducible refine ah (by assumption) (by simp [au]) ?_
     | with_reducible refine aj (by assumption) (by simp [au]) ?_
     | with_reducible refine And.intro (a:=ab _ _) (by simp [ab,apart]) ?_
     | with_reducible refine VW.aA 3 (VW.of ?_)
     | with_reducible refine bW.next _ (VW.of ?_)
     | rw [ai (by exact rfl) (by exact rfl) (by exact rfl) (by exact rfl) (by exact rfl)]
     | rw [bQ (by exact rfl) (by exact rfl) (by exact rfl) (by exact rfl)]
     | rw [bR (by exact rfl) (by exact rfl) (by exact rfl) (by exact rfl) (by exact rfl) (by exact rfl)]
     | fail)
   refine ak▸ae (r:=QV (a*b)) ?_ (ax _)
   simp (disch:=decide) only [RS,aY,a7,ao,cy]
 have g1:VP P G fg [IV a.num,IV b.den] (IV (Nat.gcd a.num.natAbs b.den:Nat)):=hg a.num b.den (by omega) (by rw [dH];omega)
 have g2:VP P G fg [IV b.num,IV a.den] (IV (Nat.gcd b.num.natAbs a.den:Nat)):=hg b.num a.den (by omega) (by rw [dH];omega)
 have p1:0<Nat.gcd a.num.natAbs b.den:=Nat.gcd_pos_of_pos_right _ b.den_pos
 have p2:0<Nat.gcd b.num.natAbs a.den:=Nat.gcd_pos_of_pos_right _ a.den_pos
 have x1:((Nat.gcd a.num.natAbs b.den:Nat):Int) ∣ a.num:=Int.ofNat_dvd_left.2 (Nat.gcd_dvd_left _ _)
 have x2:((Nat.gcd b.num.natAbs a.den:Nat):Int) ∣ b.num:=Int.ofNat_dvd_left.2 (Nat.gcd_dvd_left _ _)
 have y1:Nat.gcd a.num.natAbs b.den ∣ b.den:=Nat.gcd_dvd_right _ _
 have y2:Nat.gcd b.num.natAbs a.den ∣ a.den:=Nat.gcd_dvd_right _ _
 generalize Nat.gcd a.num.natAbs b.den=g at *
 generalize Nat.gcd b.num.natAbs a.den=k at *
 have l1:ag ((g:Nat):Int).natAbs<=100000:=Nat.le_trans (bE (Nat.le_of_dvd b.den_pos y1)) C1
 have l2:ag ((k:Nat):Int).natAbs<=100000:=Nat.le_trans (bE (Nat.le_of_dvd a.den_pos y2)) ha2
 have q1:=hq a.num g (by omega) x1 (by omega) (by omega)
 have q2:=hq b.num k (by omega) x2 (by omega) (by omega)
 have q3:=hq a.den k (by omega) (Int.ofNat_dvd.2 y2) (by rw [dH];omega) (by omega)
 have q4:=hq b.den g (by omega) (Int.ofNat_dvd.2 y1) (by rw [dH];omega) (by omega)
 rw [<- Int.natCast_ediv] at q3 q4
 have m1:=hm (a.num/g) (b.num/k) (Nat.le_trans (bE (Int.natAbs_ediv_le_natAbs _ _)) (by omega)) (Nat.le_trans (bE (Int.natAbs_ediv_le_natAbs _ _)) (by omega))
 have m2:=hm ((a.den/k:Nat):Int) ((b.den/g:Nat):Int) (Nat.le_trans (bE (Nat.div_le_self _ _)) (by omega)) (Nat.le_trans (bE (Nat.div_le_self _ _)) (by omega))
 have e:=G3 (z:=a.num/g*(b.num/k)) (d:=((a.den/k:Nat):Int)*((b.den/g:Nat):Int)) (q:=a*b) n1 (by rw [n2];exact Int.natCast_mul _ _)
 rcases three _ _ hdd with ⟨d3,d4⟩ | ⟨d3,d4⟩ | ⟨d3,d4⟩
 all_goals
   repeat (first
     | simp (disch:=first | decide | exact rfl) only [SS,DD,Nat.reduceAdd,aq,ao,ey,CA,xH,xI,bg,z1,z2,d3,d4,cv,b9,c9,xn,e]
     | with_reducible refine ah (by assumption) (by simp [au]) ?_
     | with_reducible refine aj (by assumption) (by simp [au]) ?_
     | with_reducible refine And.intro (a:=ab _ _) (by simp [ab,apart]) ?_
     | with_reducible refine VW.aA 3 (VW.of ?_)
     | with_reducible refine bW.next _ (VW.of ?_)
     | rw [ai (by exact rfl) (by exact rfl) (by exact rfl) (by exact rfl) (by exact rfl)]
     | rw [bQ (by exact rfl) (by exact rfl) (by exact rfl) (by exact rfl)]
     | rw [bR (by exact rfl) (by exact rfl) (by exact rfl) (by exact rfl) (by exact rfl) (by exact rfl)]
     | fail)
   refine ak▸ae (r:=QV (a*b)) ?_ (ax _)
   simp (disch:=decide) only [RS,aY,a7,ao,cy]
end
end Go.VL
end

section
set_option linter.unusedVariables false
set_option linter.unusedVariables false
namespace Go.VL
theorem mJ (a b:Rat):aa (.sl 2 [NV a,NV b]):=aa.sl (by intro c hc;simp [flat] at hc;rcases hc with h | h<;>exact G5 _ c h)
theorem abu (a:Rat):part false (EV a).cells 0 1=some (EV a):=rfl
theorem Fk {σ : af} {id:Id} {a b:Rat} {f t:Bool} (h : σ id=some ⟨[NV a,NV b],2,f⟩):View σ (.osl id 2 0 2 t) (.sl 2 [NV a,NV b]):=UH h rfl rfl (G5 a) (G5 b)
theorem X5 {σ : af} {id:Id} {a:Rat} {f t:Bool} (h : σ id=some ⟨[EV a],1,f⟩):View σ (.osl id 1 0 1 t) (.sl 1 [EV a]):=J4 h rfl (by intro c hc;simp [EV,AV.cells] at hc;subst hc;exact az a)
section
variable {P:Program} {G:Nat->Option (List AV)}
theorem oR {f:FuncId} (h:Has P f cP) {es:List AV} (hk:∀ e∈es,e.size=4) (h1:(es.all fun e=>e.cells.all AV.one)=true) (hp:∀ c∈flat es,aa c) (hl:es.length*64<=140737488355328):VP P G f [.sl 4 es] (.sl 4 es):=by
 refine VP.has h ?_
 have hb:∀ (σ : af) (p:Id),bU σ p (.buildSl 4 0 (AV.agg [(.bool false), .nils,(.bool false), .nils]) [])=some { val := .tsl 4 [] }:=fun σ p=>bs0 rfl rfl
 cases es with
 | nil =>
   simp only [cP,SS,Nat.reduceAdd]
   refine ⟨?_, ?_⟩
   . exact ak▸⟨.nils,rfl,View.nils 4⟩
   . simp only [SS,Nat.reduceAdd,hb,ze ky]
     exact ak▸⟨_,rfl,View.adp 4⟩
 | cons e es =>
   simp only [cP,SS,Nat.reduceAdd,hb]
   rw [p5 (es:=[]) ky (by simp) (by simpa using hl) (eN (by simp at hl ⊢;omega)) (by simpa using h1)]
   simp only [SS,Nat.reduceAdd]
   refine ak▸⟨_,rfl,View.osl (bk:=⟨e::es,4,false⟩) rfl rfl (by simp) ?_ (by simp) hk⟩
   simpa using aF.pure hp
theorem RN {f:FuncId} (h:Has P f cP) (q:Rat):VP P G f [EV q] (EV q) :=
 oR h (by simp [J5]) (by simpa using (of_eq_true (ey q))) (by intro c hc;simp [flat] at hc;exact Cy q c hc) (by simp)
theorem abv {f fc fi:FuncId} (h:Has P f (vR fc fi)) (q:Rat) (hc:VP P G fc [EV q] (EV q)):VP P G f [.nils,EV q] (EV q):=by
 refine VP.has h ?_
 simp only [vR]
 repeat (first
   | simp (disch:=first | decide | exact rfl) only [SS,Nat.reduceAdd,aK,ZZ,uf,Ja]
   | with_reducible refine ah (by assumption) (by simp [az]) ?_
   | with_reducible refine aj (by assumption) (by simp [az]) ?_
   | with_reducible refine And.intro (a:=ab _ _) (by simp [ab,apart]) ?_
   | with_reducible refine VW.aA 3 (VW.of ?_)
   | with_reducible refine bW.next _ (VW.of ?_)
   | rw [ai (by exact rfl) (by exact rfl) (by exact rfl) (by exact rfl) (by exact rfl)]
   | rw [bQ (by exact rfl) (by exact rfl) (by exact rfl) (by exact rfl)]
   | rw [bR (by exact rfl) (by exact rfl) (by exact rfl) (by exact rfl) (by exact rfl) (by exact rfl)]
   | fail)
 exact ak▸ae rfl (az _)
theorem RO {f fb fe:FuncId} (h:Has P f (qj fb fe)) (a b:Rat) (hb:VP P G fb [.nils, .nils] (.bool true)):VP P G f [.sl 2 [NV a,NV b]] (.tup [.nils, .int .i64 0]):=by
 refine VP.has h ?_
 simp only [qj]
 repeat (first
   | simp (disch:=first | decide | exact rfl) only [SS,Nat.reduceAdd,ao,aK,ZZ,CC,Mf,RF,aH,cz,sS,bZ]
   | with_reducible refine ah (by assumption) (by simp [aP]) ?_
   | with_reducible refine aj (by assumption) (by simp [aP]) ?_
   | with_reducible refine And.intro (a:=ab _ _) (by simp [ab,apart]) ?_
   | with_reducible refine VW.aA 3 (VW.of ?_)
   | with_reducible refine bW.next _ (VW.of ?_)
   | rw [ai (by exact rfl) (by exact rfl) (by exact rfl) (by exact rfl) (by exact rfl)]
   | rw [bQ (by exact rfl) (by exact rfl) (by exact rfl) (by exact rfl)]
   | rw [bR (by exact rfl) (by exact rfl) (by exact rfl) (by exact rfl) (by exact rfl) (by exact rfl)]
   | fail)
 exact ak▸ae rfl (aa.tup (by simp [aP,aa.int]))
theorem X6 {f fc fb fp fe fi fd:FuncId} (h:Has P f (tj fc fb fp fe fi fd)) (a b:Rat) (hc:VP P G fc [.sl 2 [NV a,NV b]] (.tup [.nils, .int .i64 0])) (hb:VP P G fb [.nils, .nils] (.bool true))
   (hpa:VP P G fp [.nils,EV a] (EV a)) (hpb:VP P G fp [.nils,EV b] (EV b)) (hda:VP P G fd [NV a] (NV a)) (hdb:VP P G fd [NV b] (NV b)):VP P G f [.sl 2 [NV a,NV b]] (.tup [.sl 2 [NV a,NV b], .int .i64 0]):=by
 refine VP.has h ?_
 simp only [tj]
 repeat (first
   | simp (disch:=first | decide | exact rfl) only [SS,Nat.reduceAdd,aq,ao,aK,ZZ,CC,g0,g1,Mf,RF,aH,cz,sS,u9,bZ,Qc]
   | with_reducible refine ah (by assumption) (by simp [aP,az,aC,mJ]) ?_
   | with_reducible refine aj (by assumption) (by simp [aC]) ?_
   | with_reducible refine And.intro (a:=ab _ _) (by simp [ab,apart]) ?_
   | with_reducible refine VW.aA 3 (VW.of ?_)
   | with_reducible refine bW.next _ (VW.of ?_)
   | rw [ai (by exact rfl) (by exact rfl) (by exact rfl) (by exact rfl) (by exact rfl)]
   | rw [bQ (by exact rfl) (by exact rfl) (by exact rfl) (by exact rfl)]
   | rw [bR (by exact rfl) (by exact rfl) (by exact rfl) (by exact rfl) (by exact rfl) (by exact rfl)]
   | rw [G6 (by exact rfl)]
   | rw [G7 (by exact rfl)]
   | rw [zl (by exact rfl) (by decide) (by exact rfl)]
   | rw [UG (by exact rfl) (by exact rfl) (by decide) (by exact rfl) (by exact rfl)]
   | fail)
 refine ak▸⟨_,rfl,View.tup (.cons (Fk (by exact rfl)) (.cons (View.pure (aa.int _ _)) .nil))⟩
theorem Ba {f fj fo:FuncId} (h:Has P f (py fj)) (a b c:Rat) (hj:VP P G fj [.sl 2 [NV a,NV b]] (.tup [.sl 2 [NV a,NV b], .int .i64 0])) (ho:VP P G fo [.nils,EV a,EV b] (EV c)) :
   VP P G f [NV a,NV b, .fn (.func fo) [] []] (.tup [NV c, .int .i64 0]):=by
 refine VP.has h ?_
 simp only [py]
 repeat (first
   | simp (disch:=first | decide | exact rfl) only [SS,DD,Nat.reduceAdd,aq,ao,ZZ,J2,g0,g1,hJ,cz,sS,u9,bZ,Mf,RF,aH,Cz,Jc]
   | with_reducible refine ah (by assumption) (by simp [aP,az]) ?_
   | with_reducible refine aj (by assumption) (by simp [aP,az]) ?_
   | with_reducible refine And.intro (a:=ab _ _) (by simp [ab,apart]) ?_
   | with_reducible refine VW.aA 3 (VW.of ?_)
   | with_reducible refine bW.next _ (VW.of ?_)
   | rw [ai (by exact rfl) (by exact rfl) (by exact rfl) (by exact rfl) (by exact rfl)]
   | rw [bQ (by exact rfl) (by exact rfl) (by exact rfl) (by exact rfl)]
   | rw [bR (by exact rfl) (by exact rfl) (by exact rfl) (by exact rfl) (by exact rfl) (by exact rfl)]
   | refine bB [([6],⟨[NV a,NV b],2,false⟩)] hj (aF.cons (Fk (by exact rfl)) aF.nil) (by simp [af.put]) ?_
   | fail)
 refine ak▸ae (r := .tup [NV c, .int .i64 0]) ?_ (aa.tup (by simp [aC,aa.int]))
 simp only [RS,aY,a7,ao,cz]
theorem X7 {f fc fo:FuncId} (h:Has P f (vU fc fo)) (a b c:Rat) (hc:VP P G fc [NV a,NV b, .fn (.func fo) [] []] (.tup [NV c, .int .i64 0])):VP P G f [NV a,NV b] (.tup [NV c, .int .i64 0]):=by
 refine VP.has h ?_
 simp only [vU]
 repeat (first
   | simp (disch:=first | decide | exact rfl) only [SS,Nat.reduceAdd,aq,ao,g0,g1,hJ,cz,bZ]
   | with_reducible refine ah (by assumption) (by simp [aC,bT]) ?_
   | with_reducible refine aj (by assumption) (by simp [aC,bT]) ?_
   | with_reducible refine And.intro (a:=ab _ _) (by simp [ab,apart]) ?_
   | with_reducible refine VW.aA 3 (VW.of ?_)
   | with_reducible refine bW.next _ (VW.of ?_)
   | rw [ai (by exact rfl) (by exact rfl) (by exact rfl) (by exact rfl) (by exact rfl)]
   | rw [bQ (by exact rfl) (by exact rfl) (by exact rfl) (by exact rfl)]
   | rw [bR (by exact rfl) (by exact rfl) (by exact rfl) (by exact rfl) (by exact rfl) (by exact rfl)]
   | fail)
 refine ak▸ae (r := .tup [NV c, .int .i64 0]) ?_ (aa.tup (by simp [aC,aa.int]))
 simp only [RS,aY,a7,ao,cz]
theorem X8 {f fc fo:FuncId} (h:Has P f (vV fc fo)) (a b c:Rat) (hc:VP P G fc [NV a,NV b, .fn (.func fo) [] []] (.tup [NV c, .int .i64 0])):VP P G f [NV a,NV b] (.tup [NV c, .int .i64 0]):=by
 refine VP.has h ?_
 simp only [vV]
 repeat (first
   | simp (disch:=first | decide | exact rfl) only [SS,Nat.reduceAdd,aq,ao,g0,g1,hJ,cz,bZ]
   | with_reducible refine ah (by assumption) (by simp [aC,bT]) ?_
   | with_reducible refine aj (by assumption) (by simp [aC,bT]) ?_
   | with_reducible refine And.intro (a:=ab _ _) (by simp [ab,apart]) ?_
   | with_reducible refine VW.aA 3 (VW.of ?_)
   | with_reducible refine bW.next _ (VW.of ?_)
   | rw [ai (by exact rfl) (by exact rfl) (by exact rfl) (by exact rfl) (by exact rfl)]
   | rw [bQ (by exact rfl) (by exact rfl) (by exact rfl) (by exact rfl)]
   | rw [bR (by exact rfl) (by exact rfl) (by exact rfl) (by exact rfl) (by exact rfl) (by exact rfl)]
   | fail)
 refine ak▸ae (r := .tup [NV c, .int .i64 0]) ?_ (aa.tup (by simp [aC,aa.int]))
 simp only [RS,aY,a7,ao,cz]
theorem X9 {f fc fo:FuncId} (h:Has P f (vW fc fo)) (a b c:Rat) (hc:VP P G fc [NV a,NV b, .fn (.func fo) [] []] (.tup [NV c, .int .i64 0])):VP P G f [NV a,NV b] (.tup [NV c, .int .i64 0]):=by
 refine VP.has h ?_
 simp only [vW]
 repeat (first
   | simp (disch:=first | decide | exact rfl) only [SS,Nat.reduceAdd,aq,ao,g0,g1,hJ,cz,bZ]
   | with_reducible refine ah (by assumption) (by simp [aC,bT]) ?_
   | with_reducible refine aj (by assumption) (by simp [aC,bT]) ?_
   | with_reducible refine And.intro (a:=ab _ _) (by simp [ab,apart]) ?_
   | with_reducible refine VW.aA 3 (VW.of ?_)
   | with_reducible refine bW.next _ (VW.of ?_)
   | rw [ai (by exact rfl) (by exact rfl) (by exact rfl) (by exact rfl) (by exact rfl)]
   | rw [bQ (by exact rfl) (by exact rfl) (by exact rfl) (by exact rfl)]
   | rw [bR (by exact rfl) (by exact rfl) (by exact rfl) (by exact rfl) (by exact rfl) (by exact rfl)]
   | fail)
 refine ak▸ae (r := .tup [NV c, .int .i64 0]) ?_ (aa.tup (by simp [aC,aa.int]))
 simp only [RS,aY,a7,ao,cz]
theorem Ya {f fd fn:FuncId} (h:Has P f (vY fd fn)) (a:Rat) (hd:VP P G fd [NV a] (NV a)) (hn:VP P G fn [.nils,EV a] (EV (-a))):VP P G f [NV a] (NV (-a)):=by
 refine VP.has h ?_
 simp only [vY]
 repeat (first
   | simp (disch:=first | decide | exact rfl) only [SS,Nat.reduceAdd,aq,ao,hJ,cz,sS,u9,bZ]
   | with_reducible refine ah (by assumption) (by simp [aP,az,aC]) ?_
   | with_reducible refine aj (by assumption) (by simp [aP,az]) ?_
   | with_reducible refine And.intro (a:=ab _ _) (by simp [ab,apart]) ?_
   | with_reducible refine VW.aA 3 (VW.of ?_)
   | with_reducible refine bW.next _ (VW.of ?_)
   | rw [ai (by exact rfl) (by exact rfl) (by exact rfl) (by exact rfl) (by exact rfl)]
   | rw [bQ (by exact rfl) (by exact rfl) (by exact rfl) (by exact rfl)]
   | rw [bR (by exact rfl) (by exact rfl) (by exact rfl) (by exact rfl) (by exact rfl) (by exact rfl)]
   | rw [G7 (by exact rfl)]
   | fail)
 refine ak▸ae (r:=NV (-a)) ?_ (aC _)
 simp only [RS,aY,a7,ao,cz]
theorem Yb {f fi fm:FuncId} (h:Has P f (vZ fi fm)) (a b c:Rat) (hi:VP P G fi [.nils,EV b] (.tup [EV (1/b), .int .i64 0])) (hm:VP P G fm [NV a,NV (1/b)] (.tup [NV c, .int .i64 0])):VP P G f [NV a,NV b] (.tup [NV c, .int .i64 0]):=by
 refine VP.has h ?_
 simp only [vZ]
 repeat (first
   | simp (disch:=first | decide | exact rfl) only [SS,Nat.reduceAdd,aq,ao,ZZ,g0,g1,hJ,cz,sS,u9,bZ,Cz,Jc]
   | with_reducible refine ah (by assumption) (by simp [aP,az,aC]) ?_
   | with_reducible refine aj (by assumption) (by simp [aC]) ?_
   | with_reducible refine And.intro (a:=ab _ _) (by simp [ab,apart]) ?_
   | with_reducible refine VW.aA 3 (VW.of ?_)
   | with_reducible refine bW.next _ (VW.of ?_)
   | rw [ai (by exact rfl) (by exact rfl) (by exact rfl) (by exact rfl) (by exact rfl)]
   | rw [bQ (by exact rfl) (by exact rfl) (by exact rfl) (by exact rfl)]
   | rw [bR (by exact rfl) (by exact rfl) (by exact rfl) (by exact rfl) (by exact rfl) (by exact rfl)]
   | fail)
 refine ak▸ae (r := .tup [NV c, .int .i64 0]) ?_ (aa.tup (by simp [aC,aa.int]))
 simp only [RS,aY,a7,ao,cz]
theorem UT {f fs:FuncId} (h:Has P f (tq fs)) (a:Rat) (hs:VP P G fs [.nils,EV a] (.int .i64 (df a))):VP P G f [NV a] (.int .i64 (df a)):=by
 refine VP.has h ?_
 simp only [tq]
 repeat (first
   | simp (disch:=first | decide | exact rfl) only [SS,Nat.reduceAdd,ao,hJ,sS,u9]
   | with_reducible refine ah (by assumption) (by simp [aP,az]) ?_
   | with_reducible refine aj (by assumption) (by simp [aP,az]) ?_
   | with_reducible refine And.intro (a:=ab _ _) (by simp [ab,apart]) ?_
   | with_reducible refine VW.aA 3 (VW.of ?_)
   | with_reducible refine bW.next _ (VW.of ?_)
   | rw [ai (by exact rfl) (by exact rfl) (by exact rfl) (by exact rfl) (by exact rfl)]
   | rw [bQ (by exact rfl) (by exact rfl) (by exact rfl) (by exact rfl)]
   | rw [bR (by exact rfl) (by exact rfl) (by exact rfl) (by exact rfl) (by exact rfl) (by exact rfl)]
   | fail)
 exact ak▸ae rfl (aa.int _ _)
theorem RP {f f1 f2 f3 f4 f5 f6 f7:FuncId} (h:Has P f (rk f1 f2 f3 f4 f5 f6 f7)) (a b:Rat) (h1:VP P G f1 [.nils, .nils] (.bool true)) (h2:VP P G f2 [EV a,EV b] (.bool (decide (a=b)))):VP P G f [NV a,NV b] (.bool (decide (a=b))):=by
 refine VP.has h ?_
 simp only [rk]
 repeat (first
   | simp (disch:=first | decide | exact rfl) only [SS,Nat.reduceAdd,aq,ao,hJ,sS,u9]
   | with_reducible refine ah (by assumption) (by simp [aP,az]) ?_
   | with_reducible refine aj (by assumption) (by simp [az]) ?_
   | with_reducible refine And.intro (a:=ab _ _) (by simp [ab,apart]) ?_
   | with_reducible refine VW.aA 3 (VW.of ?_)
   | with_reducible refine bW.next _ (VW.of ?_)
   | rw [ai (by exact rfl) (by exact rfl) (by exact rfl) (by exact rfl) (by exact rfl)]
   | rw [bQ (by exact rfl) (by exact rfl) (by exact rfl) (by exact rfl)]
   | rw [bR (by exact rfl) (by exact rfl) (by exact rfl) (by exact rfl) (by exact rfl) (by exact rfl)]
   | fail)
 exact ak▸ae rfl (aa.bool _)
theorem RQ {f fi:FuncId} (h:Has P f (pN fi)) (hi:VP P G fi [.int .i64 0] (QV 0)) (p:Id):aW P G f [.int .i64 1] p [] { val := .osl (2::p) 4 0 1 false,rd:=[],up:=[(2::p,some ⟨[QV 0],4,false⟩)] }:=by
 refine aW.has h ?_
 simp only [pN]
 repeat (first
   | simp (disch:=first | decide | exact rfl) only [SS,Nat.reduceAdd,aK,ZZ,CC,J3,Mg]
   | with_reducible refine ah (by assumption) (by simp [aa.int]) ?_
   | with_reducible refine aj (by assumption) (by simp [aa.int]) ?_
   | with_reducible refine And.intro (a:=ab _ _) (by simp [ab,apart]) ?_
   | with_reducible refine VW.aA 3 (VW.of ?_)
   | with_reducible refine bW.next _ (VW.of ?_)
   | rw [ai (by exact rfl) (by exact rfl) (by exact rfl) (by exact rfl) (by exact rfl)]
   | rw [bQ (by exact rfl) (by exact rfl) (by exact rfl) (by exact rfl)]
   | rw [bR (by exact rfl) (by exact rfl) (by exact rfl) (by exact rfl) (by exact rfl) (by exact rfl)]
   | rw [ai aZ (by exact rfl) (by exact rfl) (by exact rfl) (by exact rfl)]
   | fail)
 refine dX▸bF (by simp [aY,a7]) fun i => ?_
 by_cases hi:i=2::p
 . right;subst hi;simp [af.app,af.put]
 . left;simp [af.app,af.put,hi,af.of]
theorem Ml {f f1 f2 f3 fi:FuncId} (h:Has P f (qf f1 f2 f3)) (q:Rat) (h1:VP P G f1 [.nils] (.bool true)) (h2:VP P G f2 [QV q] (.bool true)) (h3:Has P f3 (pN fi)) (hi:VP P G fi [.int .i64 0] (QV 0)):VP P G f [.nils,QV q] (EV q):=by
 refine VP.has h ?_
 simp only [qf]
 repeat (first
   | simp (disch:=first | decide | exact rfl) only [SS,Nat.reduceAdd,aq,ao,ey,cy,Ja,Mg]
   | with_reducible refine ah (by assumption) (by simp [ax,aa.int,aP]) ?_
   | with_reducible refine aj (by assumption) (by simp [aa.int]) ?_
   | with_reducible refine And.intro (a:=ab _ _) (by simp [ab,apart]) ?_
   | with_reducible refine VW.aA 3 (VW.of ?_)
   | with_reducible refine bW.next _ (VW.of ?_)
   | rw [ai (by exact rfl) (by exact rfl) (by exact rfl) (by exact rfl) (by exact rfl)]
   | rw [bQ (by exact rfl) (by exact rfl) (by exact rfl) (by exact rfl)]
   | rw [bR (by exact rfl) (by exact rfl) (by exact rfl) (by exact rfl) (by exact rfl) (by exact rfl)]
   | refine ⟨_,_,RQ h3 hi _,by simp,by simp, ?_⟩
   | fail)
 refine ak▸⟨_,rfl,qv (by exact rfl)⟩
theorem Yc {f ff fr:FuncId} (h:Has P f (yE ff fr)) (a:Rat) (hf:VP P G ff [.nils,EV a] (.bool true)) (hr:VP P G fr [.nils] (.bool true)):VP P G f [.nils, .sl 1 [EV a]] (.bool true):=by
 refine VP.has h ?_
 simp only [yE]
 repeat (first
   | simp (disch:=first | decide | exact rfl) only [SS,Nat.reduceAdd,aK,ZZ,CC,Mf,aH,abu]
   | with_reducible refine ah (by assumption) (by simp [aP,az]) ?_
   | with_reducible refine aj (by assumption) (by simp [aP]) ?_
   | with_reducible refine And.intro (a:=ab _ _) (by simp [ab,apart]) ?_
   | with_reducible refine VW.aA 3 (VW.of ?_)
   | with_reducible refine bW.next _ (VW.of ?_)
   | rw [ai (by exact rfl) (by exact rfl) (by exact rfl) (by exact rfl) (by exact rfl)]
   | rw [bQ (by exact rfl) (by exact rfl) (by exact rfl) (by exact rfl)]
   | rw [bR (by exact rfl) (by exact rfl) (by exact rfl) (by exact rfl) (by exact rfl) (by exact rfl)]
   | fail)
 exact ak▸ae rfl (aa.bool _)
theorem Yd {f f1 f2 f3 f4:FuncId} (h:Has P f (yF f1 f2 f3 f4)) (h1:VP P G f1 [.int .i64 0] (QV 0)) (h2:VP P G f2 [.nils,QV 0] (EV 0)) (h3:VP P G f3 [.nils,EV 0] (.bool true)):VP P G f [.nils] (.bool true):=by
 refine VP.has h ?_
 simp only [yF]
 repeat (first
   | simp (disch:=first | decide | exact rfl) only [SS,Nat.reduceAdd,aK,ZZ]
   | with_reducible refine ah (by assumption) (by simp [ax,aa.int,aP,az]) ?_
   | with_reducible refine aj (by assumption) (by simp [aP,az]) ?_
   | with_reducible refine And.intro (a:=ab _ _) (by simp [ab,apart]) ?_
   | with_reducible refine VW.aA 3 (VW.of ?_)
   | with_reducible refine bW.next _ (VW.of ?_)
   | rw [ai (by exact rfl) (by exact rfl) (by exact rfl) (by exact rfl) (by exact rfl)]
   | rw [bQ (by exact rfl) (by exact rfl) (by exact rfl) (by exact rfl)]
   | rw [bR (by exact rfl) (by exact rfl) (by exact rfl) (by exact rfl) (by exact rfl) (by exact rfl)]
   | fail)
 exact ak▸ae rfl (aa.bool _)
theorem UU {f f1 f3 f4:FuncId} (h:Has P f (wa f1 f f3 f4)) (a:Rat) (h1:VP P G f1 [QV a] (.int .i64 (df a))):VP P G f [.nils,EV a] (.int .i64 (df a)):=by
 refine VP.has h ?_
 simp only [wa]
 repeat (first
   | simp (disch:=first | decide | exact rfl) only [SS,Nat.reduceAdd,decide_true,u7,aH,cy]
   | with_reducible refine ah (by assumption) (by simp [ax]) ?_
   | with_reducible refine aj (by assumption) (by simp [ax]) ?_
   | with_reducible refine And.intro (a:=ab _ _) (by simp [ab,apart]) ?_
   | with_reducible refine VW.aA 3 (VW.of ?_)
   | with_reducible refine bW.next _ (VW.of ?_)
   | rw [ai (by exact rfl) (by exact rfl) (by exact rfl) (by exact rfl) (by exact rfl)]
   | rw [bQ (by exact rfl) (by exact rfl) (by exact rfl) (by exact rfl)]
   | rw [bR (by exact rfl) (by exact rfl) (by exact rfl) (by exact rfl) (by exact rfl) (by exact rfl)]
   | fail)
 exact ak▸ae rfl (aa.int _ _)
theorem UW {f fg fv:FuncId} (h:Has P f (yG fg fv)) (a:Rat) (hg:VP P G fg [.nils, .sl 1 [EV a]] (.bool true)) (hv:VP P G fv [.nils,EV a] (.int .i64 (df a))):VP P G f [.nils,EV a] (.int .i64 (df a)):=by
 refine VP.has h ?_
 simp only [yG]
 repeat (first
   | simp (disch:=first | decide | exact rfl) only [SS,Nat.reduceAdd,J2]
   | with_reducible refine ah (by assumption) (by simp [aP,az]) ?_
   | with_reducible refine aj (by assumption) (by simp [aP,az]) ?_
   | with_reducible refine And.intro (a:=ab _ _) (by simp [ab,apart]) ?_
   | with_reducible refine VW.aA 3 (VW.of ?_)
   | with_reducible refine bW.next _ (VW.of ?_)
   | rw [ai (by exact rfl) (by exact rfl) (by exact rfl) (by exact rfl) (by exact rfl)]
   | rw [bQ (by exact rfl) (by exact rfl) (by exact rfl) (by exact rfl)]
   | rw [bR (by exact rfl) (by exact rfl) (by exact rfl) (by exact rfl) (by exact rfl) (by exact rfl)]
   | refine bB [([3],⟨[EV a],1,false⟩)] hg (aF.cons (View.pure aP) (aF.cons (X5 (by exact rfl)) aF.nil)) (by simp [af.put]) ?_
   | fail)
 exact ak▸ae rfl (aa.int _ _)
end
end Go.VL
end

section
set_option linter.unusedVariables false
set_option linter.unusedVariables false
namespace Go.VL
theorem abw {σ : af} {p:Id} {q:Rat}:eh σ p 4 64 (.tsl 4 []) (EV q)=some { val := .osl p 4 0 1 false,rd:=[],up:=[(p,some ⟨[QV q],4,false⟩)] } :=
 p5 (es:=[]) (ys:=[QV q]) ky (by simp) (by simp) (eN (by simp)) (by simpa using of_eq_true (ey q))
theorem ahG {σ : af} {p:Id}:bU σ p (.buildSl 4 0 (.agg [.bool false, .nils, .bool false, .nils]) [])=some { val := .tsl 4 [] }:=bs0 rfl rfl
theorem ahH:decide ((0:Int)<=8)=true:=rfl
section
variable {P:Program} {G:Nat->Option (List AV)}
theorem N9 {f fv:FuncId} (h:Has P f (j8 fv)) (q:Rat) (hv:VP P G fv [QV q] (.bool true)):VP P G f [EV q, .int .i64 1] (.bool true):=by
 have d1:decide ((1:Int)=1)=true:=rfl
 refine VP.has h ?_
 simp only [j8]
 repeat (first
   | simp (disch:=first | decide | exact rfl) only [SS,Nat.reduceAdd,aK,ZZ,decide_true,uf,u7,aH,cy]
   | with_reducible refine ah (by assumption) (by simp [ax]) ?_
   | with_reducible refine aj (by assumption) (by simp [ax]) ?_
   | with_reducible refine And.intro (a:=ab _ _) (by simp [ab,apart]) ?_
   | with_reducible refine VW.aA 3 (VW.of ?_)
   | with_reducible refine bW.next _ (VW.of ?_)
   | rw [ai (by exact rfl) (by exact rfl) (by exact rfl) (by exact rfl) (by exact rfl)]
   | rw [bQ (by exact rfl) (by exact rfl) (by exact rfl) (by exact rfl)]
   | rw [bR (by exact rfl) (by exact rfl) (by exact rfl) (by exact rfl) (by exact rfl) (by exact rfl)]
   | fail)
 exact ak▸ae rfl (aa.bool _)
theorem Oa {f fr:FuncId} (h:Has P f (j9 fr)):VP P G f [.nils] (.bool true):=by
 refine VP.has h ?_
 simp only [j9]
 repeat (first
   | simp (disch:=first | decide | exact rfl) only [SS,Nat.reduceAdd,aK,ZZ]
   | with_reducible refine ah (by assumption) (by simp [au,ay,ax,aa.int,aa.bool,aa.str,aP,az,aC,mJ]) ?_
   | with_reducible refine aj (by assumption) (by simp [au,ay,ax,aa.int,aa.bool,aa.str,aP,az,aC,mJ]) ?_
   | with_reducible refine And.intro (a:=ab _ _) (by simp [ab,apart]) ?_
   | with_reducible refine VW.aA 3 (VW.of ?_)
   | with_reducible refine bW.next _ (VW.of ?_)
   | rw [ai (by exact rfl) (by exact rfl) (by exact rfl) (by exact rfl) (by exact rfl)]
   | rw [bQ (by exact rfl) (by exact rfl) (by exact rfl) (by exact rfl)]
   | rw [bR (by exact rfl) (by exact rfl) (by exact rfl) (by exact rfl) (by exact rfl) (by exact rfl)]
   | fail)
 exact ak▸ae rfl (aa.bool _)
theorem Mm {f ft fr:FuncId} (h:Has P f (jF ft fr)) (q:Rat) (ht:VP P G ft [.nils] (.bool true)) (hr:VP P G fr [EV q, .int .i64 1] (.bool true)):VP P G f [.nils,EV q] (.bool true):=by
 refine VP.has h ?_
 simp only [jF]
 repeat (first
   | simp (disch:=first | decide | exact rfl) only [SS,Nat.reduceAdd,Ja]
   | with_reducible refine ah (by assumption) (by simp [aa.int,aP,az]) ?_
   | with_reducible refine aj (by assumption) (by simp [aa.int,az]) ?_
   | with_reducible refine And.intro (a:=ab _ _) (by simp [ab,apart]) ?_
   | with_reducible refine VW.aA 3 (VW.of ?_)
   | with_reducible refine bW.next _ (VW.of ?_)
   | rw [ai (by exact rfl) (by exact rfl) (by exact rfl) (by exact rfl) (by exact rfl)]
   | rw [bQ (by exact rfl) (by exact rfl) (by exact rfl) (by exact rfl)]
   | rw [bR (by exact rfl) (by exact rfl) (by exact rfl) (by exact rfl) (by exact rfl) (by exact rfl)]
   | fail)
 exact ak▸ae rfl (aa.bool _)
theorem UX {f fa:FuncId} (h:Has P f (l5 fa)) (a b:Rat) (hA:VP P G fa [QV a,QV b] (QV (a+b))):VP P G f [.nils,EV a,EV b] (EV (a+b)):=by
 refine VP.has h ?_
 simp only [l5]
 repeat (first
   | simp (disch:=first | decide | exact rfl) only [SS,DD,Nat.reduceAdd,aK,ZZ,uf,u7,aH,cy]
   | with_reducible refine ah (by assumption) (by simp [ax]) ?_
   | with_reducible refine aj (by assumption) (by simp [ax]) ?_
   | with_reducible refine And.intro (a:=ab _ _) (by simp [ab,apart]) ?_
   | with_reducible refine VW.aA 3 (VW.of ?_)
   | with_reducible refine bW.next _ (VW.of ?_)
   | rw [ai (by exact rfl) (by exact rfl) (by exact rfl) (by exact rfl) (by exact rfl)]
   | rw [bQ (by exact rfl) (by exact rfl) (by exact rfl) (by exact rfl)]
   | rw [bR (by exact rfl) (by exact rfl) (by exact rfl) (by exact rfl) (by exact rfl) (by exact rfl)]
   | rw [zl (by exact rfl) (by decide) (by exact rfl)]
   | fail)
 refine ak▸⟨_,rfl,qv (by exact rfl)⟩
theorem UY {f fa:FuncId} (h:Has P f (l6 fa)) (a:Rat) (hA:VP P G fa [QV a] (QV (-a))):VP P G f [.nils,EV a] (EV (-a)):=by
 refine VP.has h ?_
 simp only [l6]
 repeat (first
   | simp (disch:=first | decide | exact rfl) only [SS,Nat.reduceAdd,aK,ZZ,uf,u7,aH,cy]
   | with_reducible refine ah (by assumption) (by simp [ax]) ?_
   | with_reducible refine aj (by assumption) (by simp [ax]) ?_
   | with_reducible refine And.intro (a:=ab _ _) (by simp [ab,apart]) ?_
   | with_reducible refine VW.aA 3 (VW.of ?_)
   | with_reducible refine bW.next _ (VW.of ?_)
   | rw [ai (by exact rfl) (by exact rfl) (by exact rfl) (by exact rfl) (by exact rfl)]
   | rw [bQ (by exact rfl) (by exact rfl) (by exact rfl) (by exact rfl)]
   | rw [bR (by exact rfl) (by exact rfl) (by exact rfl) (by exact rfl) (by exact rfl) (by exact rfl)]
   | rw [zl (by exact rfl) (by decide) (by exact rfl)]
   | fail)
 refine ak▸⟨_,rfl,qv (by exact rfl)⟩
theorem UZ {f f1 f2 f3 f4 f5:FuncId} (h:Has P f (l7 f1 f2 f f3 f4 f5)) (a b:Rat) (hm:VP P G f1 [QV a,QV b] (QV (a*b))):VP P G f [.nils,EV a,EV b] (EV (a*b)):=by
 refine VP.has h ?_
 simp only [l7]
 repeat (first
   | simp (disch:=first | decide | exact rfl) only [SS,DD,Nat.reduceAdd,decide_true,u7,aH,cy]
   | with_reducible refine ah (by assumption) (by simp [ax]) ?_
   | with_reducible refine aj (by assumption) (by simp [ax]) ?_
   | with_reducible refine And.intro (a:=ab _ _) (by simp [ab,apart]) ?_
   | with_reducible refine VW.aA 3 (VW.of ?_)
   | with_reducible refine bW.next _ (VW.of ?_)
   | rw [ai (by exact rfl) (by exact rfl) (by exact rfl) (by exact rfl) (by exact rfl)]
   | rw [bQ (by exact rfl) (by exact rfl) (by exact rfl) (by exact rfl)]
   | rw [bR (by exact rfl) (by exact rfl) (by exact rfl) (by exact rfl) (by exact rfl) (by exact rfl)]
   | fail)
 refine ak▸⟨_,rfl,qv (by exact rfl)⟩
theorem RR {f f1 f3:FuncId} (h:Has P f (kU f1 f f3)) (a:Rat) (h1:VP P G f1 [QV a] (.int .i64 (df a))):VP P G f [.nils,EV a] (.int .i64 (df a)):=by
 refine VP.has h ?_
 simp only [kU]
 repeat (first
   | simp (disch:=first | decide | exact rfl) only [SS,Nat.reduceAdd,decide_true,u7,aH,cy]
   | with_reducible refine ah (by assumption) (by simp [ax]) ?_
   | with_reducible refine aj (by assumption) (by simp [ax]) ?_
   | with_reducible refine And.intro (a:=ab _ _) (by simp [ab,apart]) ?_
   | with_reducible refine VW.aA 3 (VW.of ?_)
   | with_reducible refine bW.next _ (VW.of ?_)
   | rw [ai (by exact rfl) (by exact rfl) (by exact rfl) (by exact rfl) (by exact rfl)]
   | rw [bQ (by exact rfl) (by exact rfl) (by exact rfl) (by exact rfl)]
   | rw [bR (by exact rfl) (by exact rfl) (by exact rfl) (by exact rfl) (by exact rfl) (by exact rfl)]
   | fail)
 exact ak▸ae rfl (aa.int _ _)
theorem RT {f f1:FuncId} (h:Has P f (kV f1)) (a:Rat) (h1:VP P G f1 [.nils,EV a] (.int .i64 (df a))):VP P G f [.nils,EV a] (.int .i64 (df a)):=by
 refine VP.has h ?_
 simp only [kV]
 repeat (first
   | simp (disch:=first | decide | exact rfl) only [SS,Nat.reduceAdd]
   | with_reducible refine ah (by assumption) (by simp [aP,az]) ?_
   | with_reducible refine aj (by assumption) (by simp [aP,az]) ?_
   | with_reducible refine And.intro (a:=ab _ _) (by simp [ab,apart]) ?_
   | with_reducible refine VW.aA 3 (VW.of ?_)
   | with_reducible refine bW.next _ (VW.of ?_)
   | rw [ai (by exact rfl) (by exact rfl) (by exact rfl) (by exact rfl) (by exact rfl)]
   | rw [bQ (by exact rfl) (by exact rfl) (by exact rfl) (by exact rfl)]
   | rw [bR (by exact rfl) (by exact rfl) (by exact rfl) (by exact rfl) (by exact rfl) (by exact rfl)]
   | fail)
 exact ak▸ae rfl (aa.int _ _)
theorem J8 {f f1 f2 f3:FuncId} (h:Has P f (jd f1 f2 f3)):VP P G f [.nils] (.bool true):=by
 refine VP.has h ?_
 simp only [jd]
 repeat (first
   | simp (disch:=first | decide | exact rfl) only [SS,Nat.reduceAdd,aK,ZZ]
   | with_reducible refine ah (by assumption) (by simp [au,ay,ax,aa.int,aa.bool,aa.str,aP,az,aC,mJ]) ?_
   | with_reducible refine aj (by assumption) (by simp [au,ay,ax,aa.int,aa.bool,aa.str,aP,az,aC,mJ]) ?_
   | with_reducible refine And.intro (a:=ab _ _) (by simp [ab,apart]) ?_
   | with_reducible refine VW.aA 3 (VW.of ?_)
   | with_reducible refine bW.next _ (VW.of ?_)
   | rw [ai (by exact rfl) (by exact rfl) (by exact rfl) (by exact rfl) (by exact rfl)]
   | rw [bQ (by exact rfl) (by exact rfl) (by exact rfl) (by exact rfl)]
   | rw [bR (by exact rfl) (by exact rfl) (by exact rfl) (by exact rfl) (by exact rfl) (by exact rfl)]
   | fail)
 exact ak▸ae rfl (aa.bool _)
theorem J9 {f:FuncId} (h:Has P f je) (q:Rat):VP P G f [QV q] (NV q):=by
 refine VP.has h ?_
 simp only [je]
 repeat (first
   | simp (disch:=first | decide | exact rfl) only [SS,Nat.reduceAdd,aq,ao,ey,cy,bZ,Qb]
   | with_reducible refine ah (by assumption) (by simp [au,ay,ax,aa.int,aa.bool,aa.str,aP,az,aC,mJ]) ?_
   | with_reducible refine aj (by assumption) (by simp [au,ay,ax,aa.int,aa.bool,aa.str,aP,az,aC,mJ]) ?_
   | with_reducible refine And.intro (a:=ab _ _) (by simp [ab,apart]) ?_
   | with_reducible refine VW.aA 3 (VW.of ?_)
   | with_reducible refine bW.next _ (VW.of ?_)
   | rw [ai (by exact rfl) (by exact rfl) (by exact rfl) (by exact rfl) (by exact rfl)]
   | rw [bQ (by exact rfl) (by exact rfl) (by exact rfl) (by exact rfl)]
   | rw [bR (by exact rfl) (by exact rfl) (by exact rfl) (by exact rfl) (by exact rfl) (by exact rfl)]
   | fail)
 refine ak▸⟨.agg [.nils, .osl [3] 4 0 1 false], ?_,UM (by exact rfl)⟩
 simp only [RS,aY,a7,ao]
 rfl
theorem Ka {f fi ff:FuncId} (h:Has P f (jf fi ff)) (a:Int) (hi:VP P G fi [.int .i64 a] (QV a)) (hf:VP P G ff [QV a] (NV a)):VP P G f [.int .i64 a] (NV a):=by
 refine VP.has h ?_
 simp only [jf]
 repeat (first
   | simp (disch:=first | decide | exact rfl) only [SS,Nat.reduceAdd,bZ]
   | with_reducible refine ah (by assumption) (by simp [ax,aa.int]) ?_
   | with_reducible refine aj (by assumption) (by simp [ax]) ?_
   | with_reducible refine And.intro (a:=ab _ _) (by simp [ab,apart]) ?_
   | with_reducible refine VW.aA 3 (VW.of ?_)
   | with_reducible refine bW.next _ (VW.of ?_)
   | rw [ai (by exact rfl) (by exact rfl) (by exact rfl) (by exact rfl) (by exact rfl)]
   | rw [bQ (by exact rfl) (by exact rfl) (by exact rfl) (by exact rfl)]
   | rw [bR (by exact rfl) (by exact rfl) (by exact rfl) (by exact rfl) (by exact rfl) (by exact rfl)]
   | fail)
 refine ak▸ae (r:=NV a) ?_ (aC _)
 simp only [RS,aY,a7,ao,cz]
theorem Mn {f fs:FuncId} (h:Has P f (jH fs)):VP P G f [.nils, .nils] (.bool true):=by
 refine VP.has h ?_
 simp only [jH]
 repeat (first
   | simp (disch:=first | decide | exact rfl) only [SS,Nat.reduceAdd,aK,ZZ]
   | with_reducible refine ah (by assumption) (by simp [au,ay,ax,aa.int,aa.bool,aa.str,aP,az,aC,mJ]) ?_
   | with_reducible refine aj (by assumption) (by simp [au,ay,ax,aa.int,aa.bool,aa.str,aP,az,aC,mJ]) ?_
   | with_reducible refine And.intro (a:=ab _ _) (by simp [ab,apart]) ?_
   | with_reducible refine VW.aA 3 (VW.of ?_)
   | with_reducible refine bW.next _ (VW.of ?_)
   | rw [ai (by exact rfl) (by exact rfl) (by exact rfl) (by exact rfl) (by exact rfl)]
   | rw [bQ (by exact rfl) (by exact rfl) (by exact rfl) (by exact rfl)]
   | rw [bR (by exact rfl) (by exact rfl) (by exact rfl) (by exact rfl) (by exact rfl) (by exact rfl)]
   | fail)
 exact ak▸ae rfl (aa.bool _)
theorem Jd {f fi:FuncId} (h:Has P f (kW fi)) (q:Rat):VP P G f [.nils,EV q] (EV q):=by
 refine VP.has h ?_
 simp only [kW]
 repeat (first
   | simp (disch:=first | decide | exact rfl) only [SS,Nat.reduceAdd,aK,ZZ,CC,Ja,ahG,abw]
   | with_reducible refine ah (by assumption) (by simp [au,ay,ax,aa.int,aa.bool,aa.str,aP,az,aC,mJ]) ?_
   | with_reducible refine aj (by assumption) (by simp [au,ay,ax,aa.int,aa.bool,aa.str,aP,az,aC,mJ]) ?_
   | with_reducible refine And.intro (a:=ab _ _) (by simp [ab,apart]) ?_
   | with_reducible refine VW.aA 3 (VW.of ?_)
   | with_reducible refine bW.next _ (VW.of ?_)
   | rw [ai (by exact rfl) (by exact rfl) (by exact rfl) (by exact rfl) (by exact rfl)]
   | rw [bQ (by exact rfl) (by exact rfl) (by exact rfl) (by exact rfl)]
   | rw [bR (by exact rfl) (by exact rfl) (by exact rfl) (by exact rfl) (by exact rfl) (by exact rfl)]
   | fail)
 refine ak▸⟨_,rfl,qv (by exact rfl)⟩
theorem RU {f fb fe fl fi:FuncId} (h:Has P f (kY fb fe fl fi)) (a b:Rat) (hb:VP P G fb [.nils, .nils] (.bool true)) (h1:VP P G fl [.nils,EV a] (EV a)) (h2:VP P G fl [.nils,EV b] (EV b)) :
   VP P G f [.sl 2 [NV a,NV b]] (.tup [.sl 2 [NV a,NV b], .int .i64 0]):=by
 refine VP.has h ?_
 simp only [kY]
 repeat (first
   | simp (disch:=first | decide | exact rfl) only [SS,Nat.reduceAdd,ao,aK,ZZ,CC,Mf,RF,aH,cz,sS,u9,bZ,Qc]
   | with_reducible refine ah (by assumption) (by simp [aP,az]) ?_
   | with_reducible refine aj (by assumption) (by simp [aP,az]) ?_
   | with_reducible refine And.intro (a:=ab _ _) (by simp [ab,apart]) ?_
   | with_reducible refine VW.aA 3 (VW.of ?_)
   | with_reducible refine bW.next _ (VW.of ?_)
   | rw [ai (by exact rfl) (by exact rfl) (by exact rfl) (by exact rfl) (by exact rfl)]
   | rw [bQ (by exact rfl) (by exact rfl) (by exact rfl) (by exact rfl)]
   | rw [bR (by exact rfl) (by exact rfl) (by exact rfl) (by exact rfl) (by exact rfl) (by exact rfl)]
   | rw [G6 (by exact rfl)]
   | rw [G7 (by exact rfl)]
   | rw [zl (by exact rfl) (by decide) (by exact rfl)]
   | rw [UG (by exact rfl) (by exact rfl) (by decide) (by exact rfl) (by exact rfl)]
   | fail)
 refine ak▸⟨_,rfl,View.tup (.cons (Fk (by exact rfl)) (.cons (View.pure (aa.int _ _)) .nil))⟩
theorem U0 {f fj:FuncId} (h:Has P f (l8 fj)) (a b:Rat) (hj:VP P G fj [.sl 2 [NV a,NV b]] (.tup [.sl 2 [NV a,NV b], .int .i64 0])):VP P G f [NV a,NV b] (.tup [NV a,NV b, .int .i64 0]):=by
 refine VP.has h ?_
 simp only [l8]
 repeat (first
   | simp (disch:=first | decide | exact rfl) only [SS,DD,Nat.reduceAdd,aq,ao,ZZ,J2,g0,g1,hJ,cz,bZ,Mf,RF,aH]
   | with_reducible refine ah (by assumption) (by simp [mJ]) ?_
   | with_reducible refine aj (by assumption) (by simp [mJ]) ?_
   | with_reducible refine And.intro (a:=ab _ _) (by simp [ab,apart]) ?_
   | with_reducible refine VW.aA 3 (VW.of ?_)
   | with_reducible refine bW.next _ (VW.of ?_)
   | rw [ai (by exact rfl) (by exact rfl) (by exact rfl) (by exact rfl) (by exact rfl)]
   | rw [bQ (by exact rfl) (by exact rfl) (by exact rfl) (by exact rfl)]
   | rw [bR (by exact rfl) (by exact rfl) (by exact rfl) (by exact rfl) (by exact rfl) (by exact rfl)]
   | refine bB [([7],⟨[NV a,NV b],2,false⟩)] hj (aF.cons (Fk (by exact rfl)) aF.nil) (by simp [af.put]) ?_
   | fail)
 refine ak▸ae (r := .tup [NV a,NV b, .int .i64 0]) ?_ (aa.tup (by simp [aC,aa.int]))
 simp (disch:=decide) only [RS,aY,a7,aq,ao,cz]
theorem U1 {f f2 f6:FuncId} (h:Has P f (l9 f2 f6)) (a b:Rat) (h2:VP P G f2 [NV a,NV b] (.tup [NV a,NV b, .int .i64 0])) (h6:VP P G f6 [.nils,EV a,EV b] (EV (a+b))):VP P G f [NV a,NV b] (.tup [NV (a+b), .int .i64 0]):=by
 refine VP.has h ?_
 simp only [l9]
 repeat (first
   | simp (disch:=first | decide | exact rfl) only [SS,DD,Nat.reduceAdd,aq,ao,ZZ,g0,g1,g2,hJ,cz,sS,u9,bZ,Cz,Jc]
   | with_reducible refine ah (by assumption) (by simp [aP,az,aC]) ?_
   | with_reducible refine aj (by assumption) (by simp [aP,az]) ?_
   | with_reducible refine And.intro (a:=ab _ _) (by simp [ab,apart]) ?_
   | with_reducible refine VW.aA 3 (VW.of ?_)
   | with_reducible refine bW.next _ (VW.of ?_)
   | rw [ai (by exact rfl) (by exact rfl) (by exact rfl) (by exact rfl) (by exact rfl)]
   | rw [bQ (by exact rfl) (by exact rfl) (by exact rfl) (by exact rfl)]
   | rw [bR (by exact rfl) (by exact rfl) (by exact rfl) (by exact rfl) (by exact rfl) (by exact rfl)]
   | fail)
 refine ak▸ae (r := .tup [NV (a+b), .int .i64 0]) ?_ (aa.tup (by simp [aC,aa.int]))
 simp (disch:=decide) only [RS,aY,a7,ao,cz]
theorem U2 {f f2 f6:FuncId} (h:Has P f (me f2 f6)) (a b:Rat) (h2:VP P G f2 [NV a,NV b] (.tup [NV a,NV b, .int .i64 0])) (h6:VP P G f6 [.nils,EV a,EV b] (EV (a*b))):VP P G f [NV a,NV b] (.tup [NV (a*b), .int .i64 0]):=by
 refine VP.has h ?_
 simp only [me]
 repeat (first
   | simp (disch:=first | decide | exact rfl) only [SS,DD,Nat.reduceAdd,aq,ao,ZZ,g0,g1,g2,hJ,cz,sS,u9,bZ,Cz,Jc]
   | with_reducible refine ah (by assumption) (by simp [aP,az,aC]) ?_
   | with_reducible refine aj (by assumption) (by simp [aP,az]) ?_
   | with_reducible refine And.intro (a:=ab _ _) (by simp [ab,apart]) ?_
   | with_reducible refine VW.aA 3 (VW.of ?_)
   | with_reducible refine bW.next _ (VW.of ?_)
   | rw [ai (by exact rfl) (by exact rfl) (by exact rfl) (by exact rfl) (by exact rfl)]
   | rw [bQ (by exact rfl) (by exact rfl) (by exact rfl) (by exact rfl)]
   | rw [bR (by exact rfl) (by exact rfl) (by exact rfl) (by exact rfl) (by exact rfl) (by exact rfl)]
   | fail)
 refine ak▸ae (r := .tup [NV (a*b), .int .i64 0]) ?_ (aa.tup (by simp [aC,aa.int]))
 simp (disch:=decide) only [RS,aY,a7,ao,cz]
theorem U3 {f f6:FuncId} (h:Has P f (mb f6)) (a:Rat) (h6:VP P G f6 [.nils,EV a] (EV (-a))):VP P G f [NV a] (NV (-a)):=by
 refine VP.has h ?_
 simp only [mb]
 repeat (first
   | simp (disch:=first | decide | exact rfl) only [SS,DD,Nat.reduceAdd,aq,ao,hJ,sS,u9,bZ,Cz,Jc]
   | with_reducible refine ah (by assumption) (by simp [aP,az]) ?_
   | with_reducible refine aj (by assumption) (by simp [aP,az]) ?_
   | with_reducible refine And.intro (a:=ab _ _) (by simp [ab,apart]) ?_
   | with_reducible refine VW.aA 3 (VW.of ?_)
   | with_reducible refine bW.next _ (VW.of ?_)
   | rw [ai (by exact rfl) (by exact rfl) (by exact rfl) (by exact rfl) (by exact rfl)]
   | rw [bQ (by exact rfl) (by exact rfl) (by exact rfl) (by exact rfl)]
   | rw [bR (by exact rfl) (by exact rfl) (by exact rfl) (by exact rfl) (by exact rfl) (by exact rfl)]
   | fail)
 refine ak▸ae (r:=NV (-a)) ?_ (aC _)
 simp (disch:=decide) only [RS,aY,a7,ao,cz]
theorem U4 {f fn fa:FuncId} (h:Has P f (mc fn fa)) (a b:Rat) (hn:VP P G fn [NV b] (NV (-b))) (ha:VP P G fa [NV a,NV (-b)] (.tup [NV (a + -b), .int .i64 0])):VP P G f [NV a,NV b] (.tup [NV (a-b), .int .i64 0]):=by
 rw [<- Rat.sub_eq_add_neg] at ha
 refine VP.has h ?_
 simp only [mc]
 repeat (first
   | simp (disch:=first | decide | exact rfl) only [SS,DD,Nat.reduceAdd,aq,ao,g0,g1,hJ,cz,bZ]
   | with_reducible refine ah (by assumption) (by simp [aC]) ?_
   | with_reducible refine aj (by assumption) (by simp [aC]) ?_
   | with_reducible refine And.intro (a:=ab _ _) (by simp [ab,apart]) ?_
   | with_reducible refine VW.aA 3 (VW.of ?_)
   | with_reducible refine bW.next _ (VW.of ?_)
   | rw [ai (by exact rfl) (by exact rfl) (by exact rfl) (by exact rfl) (by exact rfl)]
   | rw [bQ (by exact rfl) (by exact rfl) (by exact rfl) (by exact rfl)]
   | rw [bR (by exact rfl) (by exact rfl) (by exact rfl) (by exact rfl) (by exact rfl) (by exact rfl)]
   | fail)
 refine ak▸ae (r := .tup [NV (a-b), .int .i64 0]) ?_ (aa.tup (by simp [aC,aa.int]))
 simp (disch:=decide) only [RS,aY,a7,ao,cz]
theorem RW {f f7:FuncId} (h:Has P f (kZ f7)) (a:Rat) (h7:VP P G f7 [.nils,EV a] (.int .i64 (df a))):VP P G f [NV a] (.int .i64 (df a)):=by
 refine VP.has h ?_
 simp only [kZ]
 repeat (first
   | simp (disch:=first | decide | exact rfl) only [SS,Nat.reduceAdd,ao,hJ,sS,u9]
   | with_reducible refine ah (by assumption) (by simp [aP,az]) ?_
   | with_reducible refine aj (by assumption) (by simp [aP,az]) ?_
   | with_reducible refine And.intro (a:=ab _ _) (by simp [ab,apart]) ?_
   | with_reducible refine VW.aA 3 (VW.of ?_)
   | with_reducible refine bW.next _ (VW.of ?_)
   | rw [ai (by exact rfl) (by exact rfl) (by exact rfl) (by exact rfl) (by exact rfl)]
   | rw [bQ (by exact rfl) (by exact rfl) (by exact rfl) (by exact rfl)]
   | rw [bR (by exact rfl) (by exact rfl) (by exact rfl) (by exact rfl) (by exact rfl) (by exact rfl)]
   | fail)
 exact ak▸ae rfl (aa.int _ _)
theorem U5 {f fs fg:FuncId} (h:Has P f (mf fs fg)) (a b:Rat) (hs:VP P G fs [NV a,NV b] (.tup [NV (a-b), .int .i64 0])) (hg:VP P G fg [NV (a-b)] (.int .i64 (df (a-b)))):VP P G f [NV a,NV b] (.tup [.int .i64 (df (a-b)), .int .i64 0]):=by
 refine VP.has h ?_
 simp only [mf]
 repeat (first
   | simp (disch:=first | decide | exact rfl) only [SS,Nat.reduceAdd,aq,ao,ZZ,g0,g1,hJ,cz,bZ]
   | with_reducible refine ah (by assumption) (by simp [aC]) ?_
   | with_reducible refine aj (by assumption) (by simp [aC]) ?_
   | with_reducible refine And.intro (a:=ab _ _) (by simp [ab,apart]) ?_
   | with_reducible refine VW.aA 3 (VW.of ?_)
   | with_reducible refine bW.next _ (VW.of ?_)
   | rw [ai (by exact rfl) (by exact rfl) (by exact rfl) (by exact rfl) (by exact rfl)]
   | rw [bQ (by exact rfl) (by exact rfl) (by exact rfl) (by exact rfl)]
   | rw [bR (by exact rfl) (by exact rfl) (by exact rfl) (by exact rfl) (by exact rfl) (by exact rfl)]
   | fail)
 exact ak▸ae rfl (aa.tup (by simp [aa.int]))
theorem Ob {f fc:FuncId} (h:Has P f (ke fc)) (a b:Rat) (hc:VP P G fc [NV a,NV b] (.tup [.int .i64 (df (a-b)), .int .i64 0])):VP P G f [NV a,NV b] (.bool (decide (a=b))):=by
 have e:decide (df (a-b)=0)=decide (a=b):=by
   congr 1;apply propext
   rw [G2];grind
 refine VP.has h ?_
 simp only [ke]
 repeat (first
   | simp (disch:=first | decide | exact rfl) only [SS,Nat.reduceAdd,aq,ao,g0,g1,decide_true,hJ,cz,e]
   | with_reducible refine ah (by assumption) (by simp [aC]) ?_
   | with_reducible refine aj (by assumption) (by simp [aC]) ?_
   | with_reducible refine And.intro (a:=ab _ _) (by simp [ab,apart]) ?_
   | with_reducible refine VW.aA 3 (VW.of ?_)
   | with_reducible refine bW.next _ (VW.of ?_)
   | rw [ai (by exact rfl) (by exact rfl) (by exact rfl) (by exact rfl) (by exact rfl)]
   | rw [bQ (by exact rfl) (by exact rfl) (by exact rfl) (by exact rfl)]
   | rw [bR (by exact rfl) (by exact rfl) (by exact rfl) (by exact rfl) (by exact rfl) (by exact rfl)]
   | fail)
 exact ak▸ae rfl (aa.bool _)
theorem Oc {f f6 f8:FuncId} (h:Has P f (kf f6 f8)) (a:Rat) (h6:VP P G f6 [.nils,EV a] (.bool true)) (h8:VP P G f8 [.nils] (.bool true)):VP P G f [NV a] (.bool true):=by
 refine VP.has h ?_
 simp only [kf]
 repeat (first
   | simp (disch:=first | decide | exact rfl) only [SS,Nat.reduceAdd,ao,hJ,sS,u9,ahH]
   | with_reducible refine ah (by assumption) (by simp [aP,az]) ?_
   | with_reducible refine aj (by assumption) (by simp [aP]) ?_
   | with_reducible refine And.intro (a:=ab _ _) (by simp [ab,apart]) ?_
   | with_reducible refine VW.aA 3 (VW.of ?_)
   | with_reducible refine bW.next _ (VW.of ?_)
   | rw [ai (by exact rfl) (by exact rfl) (by exact rfl) (by exact rfl) (by exact rfl)]
   | rw [bQ (by exact rfl) (by exact rfl) (by exact rfl) (by exact rfl)]
   | rw [bR (by exact rfl) (by exact rfl) (by exact rfl) (by exact rfl) (by exact rfl) (by exact rfl)]
   | fail)
 exact ak▸ae rfl (aa.bool _)
end
end Go.VL
end

section
set_option linter.unusedVariables false
set_option linter.unusedVariables false
namespace Go.VL
abbrev Q2:=Rat × Rat
def V2 (v:Q2):AV := .agg [.nils,EV v.1, .nils,EV v.2]
theorem aG (v:Q2):aa (V2 v):=aa.agg (by intro c hc;simp at hc;rcases hc with rfl | rfl | rfl | rfl;exact aa.nils;exact az _;exact aa.nils;exact az _)
theorem gl (v:Q2):((V2 v).cells.all AV.one=true)=True:=by simp [V2,AV.cells,AV.one,EV]
theorem CB (v:Q2):part true (V2 v).cells 0 2=some (NV v.1):=rfl
theorem CD (v:Q2):part true (V2 v).cells 2 2=some (NV v.2):=rfl
theorem cK (v:Q2):part true (V2 v).cells 0 4=some (V2 v):=rfl
theorem cx:((AV.cells (.agg [.nils, .nils, .nils, .nils])).all AV.one=true)=True:=by simp [AV.cells,AV.one]
theorem Bb (x y:Rat):iN [.nils, .nils, .nils, .nils] [(0,(2,NV x)),(2,(2,NV y))]=some [.nils,EV x, .nils,EV y]:=rfl
theorem G8 (x y:Rat):AV.agg [.nils,EV x, .nils,EV y]=V2 (x,y):=rfl
def rU (a b:Q2):Rat:=a.1*b.1+a.2*b.2
def gm (a b:Q2):Q2:=(a.1+b.1,a.2+b.2)
def jn (a b:Q2):Q2:=(a.1-b.1,a.2-b.2)
def CE (a:Q2):Q2:=(-a.1, -a.2)
def fS (a:Q2) (n:Rat):Q2:=(a.1*n,a.2*n)
section
variable {P:Program} {G:Nat->Option (List AV)}
theorem U6 {f ff:FuncId} (h:Has P f (tu ff)) (v:Q2) (h1:VP P G ff [QV v.1] (NV v.1)) (h2:VP P G ff [QV v.2] (NV v.2)):VP P G f [QV v.1,QV v.2] (V2 v):=by
 refine VP.has h ?_
 simp only [tu]
 repeat (first
   | simp (disch:=first | decide | exact rfl) only [SS,DD,Nat.reduceAdd,aq,ao,ey,cy,cx,Bb]
   | with_reducible refine ah (by assumption) (by simp [ax]) ?_
   | with_reducible refine aj (by assumption) (by simp [ax]) ?_
   | with_reducible refine And.intro (a:=ab _ _) (by simp [ab,apart]) ?_
   | with_reducible refine VW.aA 3 (VW.of ?_)
   | with_reducible refine bW.next _ (VW.of ?_)
   | rw [ai (by exact rfl) (by exact rfl) (by exact rfl) (by exact rfl) (by exact rfl)]
   | rw [bQ (by exact rfl) (by exact rfl) (by exact rfl) (by exact rfl)]
   | rw [bR (by exact rfl) (by exact rfl) (by exact rfl) (by exact rfl) (by exact rfl) (by exact rfl)]
   | fail)
 refine ak▸ae (r:=V2 v) ?_ (aG _)
 simp (disch:=decide) only [RS,aY,a7,ao,G8,cK]
theorem CF {f fo:FuncId} (h:Has P f tv) (a b c:Q2) (h1:VP P G fo [NV a.1,NV b.1] (.tup [NV c.1, .int .i64 0])) (h2:VP P G fo [NV a.2,NV b.2] (.tup [NV c.2, .int .i64 0])):VP P G f [V2 a,V2 b, .fn (.func fo) [] []] (.tup [V2 c, .int .i64 0]):=by
 refine VP.has h ?_
 simp only [tv]
 repeat (first
   | simp (disch:=first | decide | exact rfl) only [SS,Nat.reduceAdd,aq,ao,ZZ,g0,g1,gl,CB,CD,cz,bZ,cx,Bb]
   | with_reducible refine ah (by assumption) (by simp [aC]) ?_
   | with_reducible refine aj (by assumption) (by simp [aC]) ?_
   | with_reducible refine And.intro (a:=ab _ _) (by simp [ab,apart]) ?_
   | with_reducible refine VW.aA 3 (VW.of ?_)
   | with_reducible refine bW.next _ (VW.of ?_)
   | rw [ai (by exact rfl) (by exact rfl) (by exact rfl) (by exact rfl) (by exact rfl)]
   | rw [bQ (by exact rfl) (by exact rfl) (by exact rfl) (by exact rfl)]
   | rw [bR (by exact rfl) (by exact rfl) (by exact rfl) (by exact rfl) (by exact rfl) (by exact rfl)]
   | fail)
 refine ak▸ae (r := .tup [V2 c, .int .i64 0]) ?_ (aa.tup (by simp [aG,aa.int]))
 simp (disch:=decide) only [RS,aY,a7,ao,G8,cK]
theorem Ye {f fb fo:FuncId} (h:Has P f (wb fb fo)) (a b c:Q2) (hb:VP P G fb [V2 a,V2 b, .fn (.func fo) [] []] (.tup [V2 c, .int .i64 0])):VP P G f [V2 a,V2 b] (.tup [V2 c, .int .i64 0]):=by
 refine VP.has h ?_
 simp only [wb]
 repeat (first
   | simp (disch:=first | decide | exact rfl) only [SS,Nat.reduceAdd,aq,ao,g0,g1,gl,cK,cx]
   | with_reducible refine ah (by assumption) (by simp [aG,bT]) ?_
   | with_reducible refine aj (by assumption) (by simp [aG,bT]) ?_
   | with_reducible refine And.intro (a:=ab _ _) (by simp [ab,apart]) ?_
   | with_reducible refine VW.aA 3 (VW.of ?_)
   | with_reducible refine bW.next _ (VW.of ?_)
   | rw [ai (by exact rfl) (by exact rfl) (by exact rfl) (by exact rfl) (by exact rfl)]
   | rw [bQ (by exact rfl) (by exact rfl) (by exact rfl) (by exact rfl)]
   | rw [bR (by exact rfl) (by exact rfl) (by exact rfl) (by exact rfl) (by exact rfl) (by exact rfl)]
   | fail)
 refine ak▸ae (r := .tup [V2 c, .int .i64 0]) ?_ (aa.tup (by simp [aG,aa.int]))
 simp (disch:=decide) only [RS,aY,a7,ao,cK]
theorem Yf {f fb fo:FuncId} (h:Has P f (we fb fo)) (a b c:Q2) (hb:VP P G fb [V2 a,V2 b, .fn (.func fo) [] []] (.tup [V2 c, .int .i64 0])):VP P G f [V2 a,V2 b] (.tup [V2 c, .int .i64 0]):=by
 refine VP.has h ?_
 simp only [we]
 repeat (first
   | simp (disch:=first | decide | exact rfl) only [SS,Nat.reduceAdd,aq,ao,g0,g1,gl,cK,cx]
   | with_reducible refine ah (by assumption) (by simp [aG,bT]) ?_
   | with_reducible refine aj (by assumption) (by simp [aG,bT]) ?_
   | with_reducible refine And.intro (a:=ab _ _) (by simp [ab,apart]) ?_
   | with_reducible refine VW.aA 3 (VW.of ?_)
   | with_reducible refine bW.next _ (VW.of ?_)
   | rw [ai (by exact rfl) (by exact rfl) (by exact rfl) (by exact rfl) (by exact rfl)]
   | rw [bQ (by exact rfl) (by exact rfl) (by exact rfl) (by exact rfl)]
   | rw [bR (by exact rfl) (by exact rfl) (by exact rfl) (by exact rfl) (by exact rfl) (by exact rfl)]
   | fail)
 refine ak▸ae (r := .tup [V2 c, .int .i64 0]) ?_ (aa.tup (by simp [aG,aa.int]))
 simp (disch:=decide) only [RS,aY,a7,ao,cK]
theorem RX {f fb fo:FuncId} (h:Has P f (rn fb fo)) (a c:Q2) (n:Rat) (hb:VP P G fb [V2 a,V2 (n,n), .fn (.func fo) [] []] (.tup [V2 c, .int .i64 0])):VP P G f [V2 a,NV n] (.tup [V2 c, .int .i64 0]):=by
 refine VP.has h ?_
 simp only [rn]
 repeat (first
   | simp (disch:=first | decide | exact rfl) only [SS,Nat.reduceAdd,aq,ao,g0,g1,gl,cK,hJ,cz,cx,Bb,G8]
   | with_reducible refine ah (by assumption) (by simp [aG,bT]) ?_
   | with_reducible refine aj (by assumption) (by simp [aG,bT]) ?_
   | with_reducible refine And.intro (a:=ab _ _) (by simp [ab,apart]) ?_
   | with_reducible refine VW.aA 3 (VW.of ?_)
   | with_reducible refine bW.next _ (VW.of ?_)
   | rw [ai (by exact rfl) (by exact rfl) (by exact rfl) (by exact rfl) (by exact rfl)]
   | rw [bQ (by exact rfl) (by exact rfl) (by exact rfl) (by exact rfl)]
   | rw [bR (by exact rfl) (by exact rfl) (by exact rfl) (by exact rfl) (by exact rfl) (by exact rfl)]
   | fail)
 refine ak▸ae (r := .tup [V2 c, .int .i64 0]) ?_ (aa.tup (by simp [aG,aa.int]))
 simp (disch:=decide) only [RS,aY,a7,ao,cK]
theorem Od {f ff:FuncId} (h:Has P f (k9 ff)) (v:Q2) (h1:VP P G ff [QV v.1] (NV v.1)) (h2:VP P G ff [QV v.2] (NV v.2)):VP P G f [QV v.1,QV v.2] (V2 v):=by
 refine VP.has h ?_
 simp only [k9]
 repeat (first
   | simp (disch:=first | decide | exact rfl) only [SS,DD,Nat.reduceAdd,aq,ao,ey,cy,cx,Bb]
   | with_reducible refine ah (by assumption) (by simp [ax]) ?_
   | with_reducible refine aj (by assumption) (by simp [ax]) ?_
   | with_reducible refine And.intro (a:=ab _ _) (by simp [ab,apart]) ?_
   | with_reducible refine VW.aA 3 (VW.of ?_)
   | with_reducible refine bW.next _ (VW.of ?_)
   | rw [ai (by exact rfl) (by exact rfl) (by exact rfl) (by exact rfl) (by exact rfl)]
   | rw [bQ (by exact rfl) (by exact rfl) (by exact rfl) (by exact rfl)]
   | rw [bR (by exact rfl) (by exact rfl) (by exact rfl) (by exact rfl) (by exact rfl) (by exact rfl)]
   | fail)
 refine ak▸ae (r:=V2 v) ?_ (aG _)
 simp (disch:=decide) only [RS,aY,a7,ao,G8,cK]
theorem Eu {f fi fm:FuncId} (h:Has P f (kg fi fm)) (x y:Int) (h1:VP P G fi [.int .i64 x] (QV x)) (h2:VP P G fi [.int .i64 y] (QV y)) (hm:VP P G fm [QV x,QV y] (V2 (x,y))):VP P G f [.int .i64 x, .int .i64 y] (V2 (x,y)):=by
 refine VP.has h ?_
 simp only [kg]
 repeat (first
   | simp (disch:=first | decide | exact rfl) only [SS,Nat.reduceAdd,cx]
   | with_reducible refine ah (by assumption) (by simp [ax,aa.int]) ?_
   | with_reducible refine aj (by assumption) (by simp [ax]) ?_
   | with_reducible refine And.intro (a:=ab _ _) (by simp [ab,apart]) ?_
   | with_reducible refine VW.aA 3 (VW.of ?_)
   | with_reducible refine bW.next _ (VW.of ?_)
   | rw [ai (by exact rfl) (by exact rfl) (by exact rfl) (by exact rfl) (by exact rfl)]
   | rw [bQ (by exact rfl) (by exact rfl) (by exact rfl) (by exact rfl)]
   | rw [bR (by exact rfl) (by exact rfl) (by exact rfl) (by exact rfl) (by exact rfl) (by exact rfl)]
   | fail)
 refine ak▸ae (r:=V2 (x,y)) ?_ (aG _)
 simp (disch:=decide) only [RS,aY,a7,ao,cK]
theorem Mo {f:FuncId} (h:Has P f kh):VP P G f [.int .i64 0, .int .i64 0] (.int .i64 0):=by
 refine VP.has h ?_
 simp only [kh]
 repeat (first
   | simp (disch:=first | decide | exact rfl) only [SS,Nat.reduceAdd,ZZ]
   | with_reducible refine ah (by assumption) (by simp [au,ay,ax,aa.int,aa.bool,aa.str,aP,az,aC,aG,bT]) ?_
   | with_reducible refine aj (by assumption) (by simp [au,ay,ax,aa.int,aa.bool,aa.str,aP,az,aC,aG,bT]) ?_
   | with_reducible refine And.intro (a:=ab _ _) (by simp [ab,apart]) ?_
   | with_reducible refine VW.aA 3 (VW.of ?_)
   | with_reducible refine bW.next _ (VW.of ?_)
   | rw [ai (by exact rfl) (by exact rfl) (by exact rfl) (by exact rfl) (by exact rfl)]
   | rw [bQ (by exact rfl) (by exact rfl) (by exact rfl) (by exact rfl)]
   | rw [bR (by exact rfl) (by exact rfl) (by exact rfl) (by exact rfl) (by exact rfl) (by exact rfl)]
   | fail)
 exact ak▸ae rfl (aa.int _ _)
theorem RY {f:FuncId} (h:Has P f mg) (v:Q2):VP P G f [NV v.1,NV v.2, .int .i64 0] (.tup [V2 v, .int .i64 0]):=by
 refine VP.has h ?_
 simp only [mg]
 repeat (first
   | simp (disch:=first | decide | exact rfl) only [SS,Nat.reduceAdd,aq,ao,ZZ,hJ,cz,cx,Bb]
   | with_reducible refine ah (by assumption) (by simp [au,ay,ax,aa.int,aa.bool,aa.str,aP,az,aC,aG,bT]) ?_
   | with_reducible refine aj (by assumption) (by simp [au,ay,ax,aa.int,aa.bool,aa.str,aP,az,aC,aG,bT]) ?_
   | with_reducible refine And.intro (a:=ab _ _) (by simp [ab,apart]) ?_
   | with_reducible refine VW.aA 3 (VW.of ?_)
   | with_reducible refine bW.next _ (VW.of ?_)
   | rw [ai (by exact rfl) (by exact rfl) (by exact rfl) (by exact rfl) (by exact rfl)]
   | rw [bQ (by exact rfl) (by exact rfl) (by exact rfl) (by exact rfl)]
   | rw [bR (by exact rfl) (by exact rfl) (by exact rfl) (by exact rfl) (by exact rfl) (by exact rfl)]
   | fail)
 refine ak▸ae (r := .tup [V2 v, .int .i64 0]) ?_ (aa.tup (by simp [aG,aa.int]))
 simp (disch:=decide) only [RS,aY,a7,ao,G8,cK]
theorem RZ {f fa ff fv:FuncId} (h:Has P f (mh fa ff fv)) (a b:Q2) (h1:VP P G fa [NV a.1,NV b.1] (.tup [NV (a.1+b.1), .int .i64 0])) (h2:VP P G fa [NV a.2,NV b.2] (.tup [NV (a.2+b.2), .int .i64 0]))
   (hf:VP P G ff [.int .i64 0, .int .i64 0] (.int .i64 0)) (hv:VP P G fv [NV (a.1+b.1),NV (a.2+b.2), .int .i64 0] (.tup [V2 (gm a b), .int .i64 0])):VP P G f [V2 a,V2 b] (.tup [V2 (gm a b), .int .i64 0]):=by
 refine VP.has h ?_
 simp only [mh]
 repeat (first
   | simp (disch:=first | decide | exact rfl) only [SS,DD,Nat.reduceAdd,aq,ao,g0,g1,gl,CB,CD,cz,bZ,cx]
   | with_reducible refine ah (by assumption) (by simp [aa.int,aC]) ?_
   | with_reducible refine aj (by assumption) (by simp [aa.int,aC]) ?_
   | with_reducible refine And.intro (a:=ab _ _) (by simp [ab,apart]) ?_
   | with_reducible refine VW.aA 3 (VW.of ?_)
   | with_reducible refine bW.next _ (VW.of ?_)
   | rw [ai (by exact rfl) (by exact rfl) (by exact rfl) (by exact rfl) (by exact rfl)]
   | rw [bQ (by exact rfl) (by exact rfl) (by exact rfl) (by exact rfl)]
   | rw [bR (by exact rfl) (by exact rfl) (by exact rfl) (by exact rfl) (by exact rfl) (by exact rfl)]
   | fail)
 refine ak▸ae (r := .tup [V2 (gm a b), .int .i64 0]) ?_ (aa.tup (by simp [aG,aa.int]))
 simp (disch:=decide) only [RS,aY,a7,ao,cK]
theorem R2 {f fn:FuncId} (h:Has P f (mj fn)) (a:Q2) (h1:VP P G fn [NV a.1] (NV (-a.1))) (h2:VP P G fn [NV a.2] (NV (-a.2))):VP P G f [V2 a] (V2 (CE a)):=by
 refine VP.has h ?_
 simp only [mj]
 repeat (first
   | simp (disch:=first | decide | exact rfl) only [SS,DD,Nat.reduceAdd,aq,ao,gl,CB,CD,cx,Bb]
   | with_reducible refine ah (by assumption) (by simp [aC]) ?_
   | with_reducible refine aj (by assumption) (by simp [aC]) ?_
   | with_reducible refine And.intro (a:=ab _ _) (by simp [ab,apart]) ?_
   | with_reducible refine VW.aA 3 (VW.of ?_)
   | with_reducible refine bW.next _ (VW.of ?_)
   | rw [ai (by exact rfl) (by exact rfl) (by exact rfl) (by exact rfl) (by exact rfl)]
   | rw [bQ (by exact rfl) (by exact rfl) (by exact rfl) (by exact rfl)]
   | rw [bR (by exact rfl) (by exact rfl) (by exact rfl) (by exact rfl) (by exact rfl) (by exact rfl)]
   | fail)
 refine ak▸ae (r:=V2 (CE a)) ?_ (aG _)
 simp (disch:=decide) only [RS,aY,a7,ao,G8,cK];rfl
theorem R3 {f fn fa:FuncId} (h:Has P f (ml fn fa)) (a b:Q2) (h1:VP P G fn [V2 b] (V2 (CE b))) (h2:VP P G fa [V2 a,V2 (CE b)] (.tup [V2 (gm a (CE b)), .int .i64 0])):VP P G f [V2 a,V2 b] (.tup [V2 (jn a b), .int .i64 0]):=by
 rw [show gm a (CE b)=jn a b from by simp [gm,CE,jn,Rat.sub_eq_add_neg]] at h2
 refine VP.has h ?_
 simp only [ml]
 repeat (first
   | simp (disch:=first | decide | exact rfl) only [SS,DD,Nat.reduceAdd,aq,ao,g0,g1,gl,cK,cx]
   | with_reducible refine ah (by assumption) (by simp [aG]) ?_
   | with_reducible refine aj (by assumption) (by simp [aG]) ?_
   | with_reducible refine And.intro (a:=ab _ _) (by simp [ab,apart]) ?_
   | with_reducible refine VW.aA 3 (VW.of ?_)
   | with_reducible refine bW.next _ (VW.of ?_)
   | rw [ai (by exact rfl) (by exact rfl) (by exact rfl) (by exact rfl) (by exact rfl)]
   | rw [bQ (by exact rfl) (by exact rfl) (by exact rfl) (by exact rfl)]
   | rw [bR (by exact rfl) (by exact rfl) (by exact rfl) (by exact rfl) (by exact rfl) (by exact rfl)]
   | fail)
 refine ak▸ae (r := .tup [V2 (jn a b), .int .i64 0]) ?_ (aa.tup (by simp [aG,aa.int]))
 simp (disch:=decide) only [RS,aY,a7,ao,cK]
theorem Mp {f fm ff fv:FuncId} (h:Has P f (ki fm ff fv)) (a:Q2) (n:Rat) (h1:VP P G fm [NV a.1,NV n] (.tup [NV (a.1*n), .int .i64 0])) (h2:VP P G fm [NV a.2,NV n] (.tup [NV (a.2*n), .int .i64 0]))
   (hf:VP P G ff [.int .i64 0, .int .i64 0] (.int .i64 0)) (hv:VP P G fv [NV (a.1*n),NV (a.2*n), .int .i64 0] (.tup [V2 (fS a n), .int .i64 0])):VP P G f [V2 a,NV n] (.tup [V2 (fS a n), .int .i64 0]):=by
 refine VP.has h ?_
 simp only [ki]
 repeat (first
   | simp (disch:=first | decide | exact rfl) only [SS,DD,Nat.reduceAdd,aq,ao,g0,g1,gl,CB,CD,hJ,cz,bZ,cx]
   | with_reducible refine ah (by assumption) (by simp [aa.int,aC]) ?_
   | with_reducible refine aj (by assumption) (by simp [aa.int,aC]) ?_
   | with_reducible refine And.intro (a:=ab _ _) (by simp [ab,apart]) ?_
   | with_reducible refine VW.aA 3 (VW.of ?_)
   | with_reducible refine bW.next _ (VW.of ?_)
   | rw [ai (by exact rfl) (by exact rfl) (by exact rfl) (by exact rfl) (by exact rfl)]
   | rw [bQ (by exact rfl) (by exact rfl) (by exact rfl) (by exact rfl)]
   | rw [bR (by exact rfl) (by exact rfl) (by exact rfl) (by exact rfl) (by exact rfl) (by exact rfl)]
   | fail)
 refine ak▸ae (r := .tup [V2 (fS a n), .int .i64 0]) ?_ (aa.tup (by simp [aG,aa.int]))
 simp (disch:=decide) only [RS,aY,a7,ao,cK]
theorem Oe {f fn:FuncId} (h:Has P f (lf fn)) (a:Q2) (h1:VP P G fn [NV a.2] (NV (-a.2))):VP P G f [V2 a] (V2 (-a.2,a.1)):=by
 refine VP.has h ?_
 simp only [lf]
 repeat (first
   | simp (disch:=first | decide | exact rfl) only [SS,DD,Nat.reduceAdd,aq,ao,gl,CB,CD,cx,Bb]
   | with_reducible refine ah (by assumption) (by simp [aC]) ?_
   | with_reducible refine aj (by assumption) (by simp [aC]) ?_
   | with_reducible refine And.intro (a:=ab _ _) (by simp [ab,apart]) ?_
   | with_reducible refine VW.aA 3 (VW.of ?_)
   | with_reducible refine bW.next _ (VW.of ?_)
   | rw [ai (by exact rfl) (by exact rfl) (by exact rfl) (by exact rfl) (by exact rfl)]
   | rw [bQ (by exact rfl) (by exact rfl) (by exact rfl) (by exact rfl)]
   | rw [bR (by exact rfl) (by exact rfl) (by exact rfl) (by exact rfl) (by exact rfl) (by exact rfl)]
   | fail)
 refine ak▸ae (r:=V2 (-a.2,a.1)) ?_ (aG _)
 simp (disch:=decide) only [RS,aY,a7,ao,G8,cK]
theorem R4 {f fm ff fa:FuncId} (h:Has P f (mo fm ff fa)) (a b:Q2) (h1:VP P G fm [NV a.1,NV b.1] (.tup [NV (a.1*b.1), .int .i64 0])) (h2:VP P G fm [NV a.2,NV b.2] (.tup [NV (a.2*b.2), .int .i64 0]))
   (ha:VP P G fa [NV (a.1*b.1),NV (a.2*b.2)] (.tup [NV (rU a b), .int .i64 0])):VP P G f [V2 a,V2 b] (.tup [NV (rU a b), .int .i64 0]):=by
 refine VP.has h ?_
 simp only [mo]
 repeat (first
   | simp (disch:=first | decide | exact rfl) only [SS,Nat.reduceAdd,aq,ao,ZZ,g0,g1,gl,CB,CD,cz,bZ]
   | with_reducible refine ah (by assumption) (by simp [aC]) ?_
   | with_reducible refine aj (by assumption) (by simp [aC]) ?_
   | with_reducible refine And.intro (a:=ab _ _) (by simp [ab,apart]) ?_
   | with_reducible refine VW.aA 3 (VW.of ?_)
   | with_reducible refine bW.next _ (VW.of ?_)
   | rw [ai (by exact rfl) (by exact rfl) (by exact rfl) (by exact rfl) (by exact rfl)]
   | rw [bQ (by exact rfl) (by exact rfl) (by exact rfl) (by exact rfl)]
   | rw [bR (by exact rfl) (by exact rfl) (by exact rfl) (by exact rfl) (by exact rfl) (by exact rfl)]
   | fail)
 refine ak▸ae (r := .tup [NV (rU a b), .int .i64 0]) ?_ (aa.tup (by simp [aC,aa.int]))
 simp (disch:=decide) only [RS,aY,a7,ao,cz]
theorem Kb {f fd:FuncId} (h:Has P f (jJ fd)) (a:Q2) (hd:VP P G fd [V2 a,V2 a] (.tup [NV (rU a a), .int .i64 0])):VP P G f [V2 a] (.tup [NV (rU a a), .int .i64 0]):=by
 refine VP.has h ?_
 simp only [jJ]
 repeat (first
   | simp (disch:=first | decide | exact rfl) only [SS,Nat.reduceAdd,aq,ao,g0,g1,gl,cK,bZ]
   | with_reducible refine ah (by assumption) (by simp [aG]) ?_
   | with_reducible refine aj (by assumption) (by simp [aG]) ?_
   | with_reducible refine And.intro (a:=ab _ _) (by simp [ab,apart]) ?_
   | with_reducible refine VW.aA 3 (VW.of ?_)
   | with_reducible refine bW.next _ (VW.of ?_)
   | rw [ai (by exact rfl) (by exact rfl) (by exact rfl) (by exact rfl) (by exact rfl)]
   | rw [bQ (by exact rfl) (by exact rfl) (by exact rfl) (by exact rfl)]
   | rw [bR (by exact rfl) (by exact rfl) (by exact rfl) (by exact rfl) (by exact rfl) (by exact rfl)]
   | fail)
 refine ak▸ae (r := .tup [NV (rU a a), .int .i64 0]) ?_ (aa.tup (by simp [aC,aa.int]))
 simp (disch:=decide) only [RS,aY,a7,ao,cz]
theorem Mq {f fe:FuncId} (h:Has P f (kj fe)) (a b:Q2) (h1:VP P G fe [NV a.1,NV b.1] (.bool (decide (a.1=b.1)))) (h2:VP P G fe [NV a.2,NV b.2] (.bool (decide (a.2=b.2)))):VP P G f [V2 a,V2 b] (.bool (decide (a=b))):=by
 have e:decide (a=b)=(decide (a.1=b.1)&&decide (a.2=b.2)):=by rw [<- Bool.decide_and];congr 1;exact propext Prod.ext_iff
 rw [e]
 refine VP.has h ?_
 simp only [kj]
 cases hd:decide (a.1=b.1)<;>rw [hd] at h1
 all_goals
   repeat (first
     | simp (disch:=first | decide | exact rfl) only [SS,Nat.reduceAdd,aq,ao,gl,CB,CD,Bool.true_and,Bool.false_and]
     | with_reducible refine ah (by assumption) (by simp [aC]) ?_
     | with_reducible refine aj (by assumption) (by simp [aC]) ?_
     | with_reducible refine And.intro (a:=ab _ _) (by simp [ab,apart]) ?_
     | with_reducible refine VW.aA 3 (VW.of ?_)
     | with_reducible refine bW.next _ (VW.of ?_)
     | rw [ai (by exact rfl) (by exact rfl) (by exact rfl) (by exact rfl) (by exact rfl)]
     | rw [bQ (by exact rfl) (by exact rfl) (by exact rfl) (by exact rfl)]
     | rw [bR (by exact rfl) (by exact rfl) (by exact rfl) (by exact rfl) (by exact rfl) (by exact rfl)]
     | fail)
   exact ak▸ae rfl (aa.bool _)
theorem Mr {f fv:FuncId} (h:Has P f (ko fv)) (a:Q2) (h1:VP P G fv [NV a.1] (.bool true)) (h2:VP P G fv [NV a.2] (.bool true)):VP P G f [V2 a] (.bool true):=by
 refine VP.has h ?_
 simp only [ko]
 repeat (first
   | simp (disch:=first | decide | exact rfl) only [SS,Nat.reduceAdd,ao,gl,CB,CD]
   | with_reducible refine ah (by assumption) (by simp [aC]) ?_
   | with_reducible refine aj (by assumption) (by simp [aC]) ?_
   | with_reducible refine And.intro (a:=ab _ _) (by simp [ab,apart]) ?_
   | with_reducible refine VW.aA 3 (VW.of ?_)
   | with_reducible refine bW.next _ (VW.of ?_)
   | rw [ai (by exact rfl) (by exact rfl) (by exact rfl) (by exact rfl) (by exact rfl)]
   | rw [bQ (by exact rfl) (by exact rfl) (by exact rfl) (by exact rfl)]
   | rw [bR (by exact rfl) (by exact rfl) (by exact rfl) (by exact rfl) (by exact rfl) (by exact rfl)]
   | fail)
 exact ak▸ae rfl (aa.bool _)
end
end Go.VL
end

section
set_option linter.unusedVariables false
set_option linter.unusedVariables false
namespace Go.VL
def eB:da:=⟨[.agg [.int .i64 0]],1,false⟩
def cX (P:Program) (G:Nat->Option (List AV)) (f:FuncId) (args:List AV) (r:AV):Prop :=
 ∀ (p id:Id), ¬ p <:+ id->aW P G f (.ref id 0 0::args) p [(id,eB)] { val:=r,rd:=[id] }
theorem zm {id:Id} {σ : af} (hσ : σ id=some eB) (i:Id):(af.of [(id,eB)]).app [] i=none∨(af.of [(id,eB)]).app [] i = σ i:=by
 by_cases e:i=id
 . subst e;right;rw [hσ];simp [af.app,af.of]
 . left;simp [af.app,af.of,e]
theorem eG {σ : af} {p:Id} {a c:Nat} {b:Option da} {agg:Bool} {n e o:Nat} (h:c≠a):jl (σ.put (a::p) b) agg n (.ref (c::p) e o)=jl σ agg n (.ref (c::p) e o):=aq (by simp [h])
theorem Yg {id:Id}:jl (af.of [(id,eB)]) false 1 (.ref id 0 0)=some { val := .int .i64 0,rd:=[id] }:=by
 rw [qR (bk:=eB) (el := .agg [.int .i64 0]) (by simp [af.of]) rfl];rfl
theorem lB {p id:Id} (h : ¬ p <:+ id) (q:Nat):id≠q::p:=fun e=>h ⟨[q],e.symm⟩
section
variable {P:Program} {G:Nat->Option (List AV)} {π : Id} {base:Nat} {Q:bX->VS->Prop} {n:Nat} {ps:List (Nat × Nat)} {d:Option Nat} {os:List bq} {i:Nat} {t:List AV} {σ : af} {acc:List eP} {f:FuncId} {id:Id} {args:List AV} {r:AV}
theorem gn (h:cX P G f args r) (jS : ¬ π <:+ id) (hσ : σ id=some eB) (k:vs P G π base Q n os (i+1) (fU t d r) σ):yp P G π base Q n d os i t σ f (.ref id 0 0::args) :=
 ⟨_,_,h _ id (fun ⟨q,e⟩=>jS ⟨q++[base+i],by simpa using e⟩),by simpa using hσ,by simp,k⟩
theorem CG {m:Nat} (h:cX P G f args r) (hm:m<base) (hσ : σ (m :: π)=some eB) (k:vs P G π base Q n os (i+1) (fU t d r) σ):yp P G π base Q n d os i t σ f (.ref (m :: π) 0 0::args) :=
 ⟨_,_,h _ (m :: π) (fun h=>by rcases List.suffix_cons_iff.1 h with e | e;simp at e;omega;have:=e.length_le;simp at this;omega),by simpa using hσ,by simp,k⟩
theorem eC {m:Nat} (h:cX P G f args r) (hm:m<base) (hσ : σ (m :: π)=some eB) (k:vd P G π base Q n ps os (i+1) ({ val:=r,rd:=[m :: π] }::acc) (fU t d r) σ):Dg P G π base Q n ps d os i acc t σ f (.ref (m :: π) 0 0::args) :=
 ⟨_,_,h _ (m :: π) (fun h=>by rcases List.suffix_cons_iff.1 h with e | e;simp at e;omega;have:=e.length_le;simp at this;omega),by simpa using hσ,by simp,k⟩
end
section
variable {P:Program} {G:Nat->Option (List AV)}
theorem Yh {f:FuncId} (h:Has P f ir):cX P G f [.int .i64 0] (.tup []):=fun p id jS=>by
 refine aW.has h ?_
 simp only [ir,SS,Nat.reduceAdd,Yg,decide_true]
 rw [Cx (x := .agg [.int .i64 0]) (k:=1) (y := .agg [.int .i64 0]) (by simp [af.of,eB]) rfl rfl (by decide) rfl]
 simp only [SS,Nat.reduceAdd]
 exact Em▸bF rfl (zm (by simp [af.put,eB]))
theorem abx {f fn fi:FuncId} (h:Has P f (iF fn fi)) (hn:cX P G fn [.int .i64 0] (.tup [])) (a):cX P G f [(NV a), .int .i64 0] (NV a):=fun p id jS=>by
 have hq:=lB jS
 refine aW.has h ?_
 simp only [iF]
 repeat (first
   | simp (disch:=first | decide | exact rfl) only [eG,SS,Nat.reduceAdd,ao,ZZ,hJ,cz,bZ]
   | with_reducible refine ah (by assumption) (by simp [au,ay,ax,aa.int,aa.bool,aa.str,aP,az,aC,aG,bT]) ?_
   | with_reducible refine aj (by assumption) (by simp [au,ay,ax,aa.int,aa.bool,aa.str,aP,az,aC,aG,bT]) ?_
   | with_reducible refine And.intro (a:=ab _ _) (by simp [ab,apart]) ?_
   | with_reducible refine VW.aA 3 (VW.of ?_)
   | with_reducible refine bW.next _ (VW.of ?_)
   | rw [ai (by repeat (first | exact aZ | refine (di (by simp)).trans ?_)) (by exact rfl) (by exact rfl) (by exact rfl) (by exact rfl)]
   | rw [bQ (by exact rfl) (by exact rfl) (by exact rfl) (by exact rfl)]
   | rw [bR (by exact rfl) (by exact rfl) (by exact rfl) (by exact rfl) (by exact rfl) (by exact rfl)]
   | refine gn hn jS (by simp [af.put,af.of,hq]) ?_
   | fail)
 refine dX▸bF (by simp (disch:=decide) only [RS,aY,a7,ao,cz]) (zm (by simp [af.put,af.of,hq]))
theorem aby {f fn fi:FuncId} (h:Has P f (iG fn fi)) (hn:cX P G fn [.int .i64 0] (.tup [])) (a):cX P G f [(V2 a), .int .i64 0] (V2 a):=fun p id jS=>by
 have hq:=lB jS
 refine aW.has h ?_
 simp only [iG]
 repeat (first
   | simp (disch:=first | decide | exact rfl) only [eG,SS,Nat.reduceAdd,ao,ZZ,gl,cK,cx]
   | with_reducible refine ah (by assumption) (by simp [au,ay,ax,aa.int,aa.bool,aa.str,aP,az,aC,aG,bT]) ?_
   | with_reducible refine aj (by assumption) (by simp [au,ay,ax,aa.int,aa.bool,aa.str,aP,az,aC,aG,bT]) ?_
   | with_reducible refine And.intro (a:=ab _ _) (by simp [ab,apart]) ?_
   | with_reducible refine VW.aA 3 (VW.of ?_)
   | with_reducible refine bW.next _ (VW.of ?_)
   | rw [ai (by repeat (first | exact aZ | refine (di (by simp)).trans ?_)) (by exact rfl) (by exact rfl) (by exact rfl) (by exact rfl)]
   | rw [bQ (by exact rfl) (by exact rfl) (by exact rfl) (by exact rfl)]
   | rw [bR (by exact rfl) (by exact rfl) (by exact rfl) (by exact rfl) (by exact rfl) (by exact rfl)]
   | refine gn hn jS (by simp [af.put,af.of,hq]) ?_
   | fail)
 refine dX▸bF (by simp (disch:=decide) only [RS,aY,a7,ao,cK]) (zm (by simp [af.put,af.of,hq]))
theorem Yi {f fa fv:FuncId} (h:Has P f (iv fa fv)) (a b:Q2) (ha:VP P G fa [V2 a,V2 b] (.tup [V2 (gm a b), .int .i64 0])) (hv:∀ a,cX P G fv [V2 a, .int .i64 0] (V2 a)):cX P G f [V2 a,V2 b] (V2 (gm a b)):=fun p id jS=>by
 have hq:=lB jS
 refine aW.has h ?_
 simp only [iv]
 repeat (first
   | simp (disch:=first | decide | exact rfl) only [eG,SS,Nat.reduceAdd,ao,g0,g1,gl,cK,cx]
   | with_reducible refine ah (by assumption) (by simp [aG]) ?_
   | with_reducible refine aj (by assumption) (by simp [aG]) ?_
   | with_reducible refine And.intro (a:=ab _ _) (by simp [ab,apart]) ?_
   | with_reducible refine VW.aA 3 (VW.of ?_)
   | with_reducible refine bW.next _ (VW.of ?_)
   | rw [ai (by repeat (first | exact aZ | refine (di (by simp)).trans ?_)) (by exact rfl) (by exact rfl) (by exact rfl) (by exact rfl)]
   | rw [bQ (by exact rfl) (by exact rfl) (by exact rfl) (by exact rfl)]
   | rw [bR (by exact rfl) (by exact rfl) (by exact rfl) (by exact rfl) (by exact rfl) (by exact rfl)]
   | refine gn (hv _) jS (by simp [af.put,af.of,hq]) ?_
   | fail)
 refine dX▸bF (by simp (disch:=decide) only [RS,aY,a7,ao,cK]) (zm (by simp [af.put,af.of,hq]))
theorem U7 {f fa fv:FuncId} (h:Has P f (gV fa fv)) (a b:Q2) (ha:VP P G fa [V2 a,V2 b] (.tup [V2 (jn a b), .int .i64 0])) (hv:∀ a,cX P G fv [V2 a, .int .i64 0] (V2 a)):cX P G f [V2 a,V2 b] (V2 (jn a b)):=fun p id jS=>by
 have hq:=lB jS
 refine aW.has h ?_
 simp only [gV]
 repeat (first
   | simp (disch:=first | decide | exact rfl) only [eG,SS,Nat.reduceAdd,ao,g0,g1,gl,cK,cx]
   | with_reducible refine ah (by assumption) (by simp [aG]) ?_
   | with_reducible refine aj (by assumption) (by simp [aG]) ?_
   | with_reducible refine And.intro (a:=ab _ _) (by simp [ab,apart]) ?_
   | with_reducible refine VW.aA 3 (VW.of ?_)
   | with_reducible refine bW.next _ (VW.of ?_)
   | rw [ai (by repeat (first | exact aZ | refine (di (by simp)).trans ?_)) (by exact rfl) (by exact rfl) (by exact rfl) (by exact rfl)]
   | rw [bQ (by exact rfl) (by exact rfl) (by exact rfl) (by exact rfl)]
   | rw [bR (by exact rfl) (by exact rfl) (by exact rfl) (by exact rfl) (by exact rfl) (by exact rfl)]
   | refine gn (hv _) jS (by simp [af.put,af.of,hq]) ?_
   | fail)
 refine dX▸bF (by simp (disch:=decide) only [RS,aY,a7,ao,cK]) (zm (by simp [af.put,af.of,hq]))
theorem U8 {f fa fv:FuncId} (h:Has P f (gW fa fv)) (a:Q2) (n:Rat) (ha:VP P G fa [V2 a,NV n] (.tup [V2 (fS a n), .int .i64 0])) (hv:∀ a,cX P G fv [V2 a, .int .i64 0] (V2 a)):cX P G f [V2 a,NV n] (V2 (fS a n)):=fun p id jS=>by
 have hq:=lB jS
 refine aW.has h ?_
 simp only [gW]
 repeat (first
   | simp (disch:=first | decide | exact rfl) only [eG,SS,Nat.reduceAdd,ao,g0,g1,gl,cK,hJ,cz,cx]
   | with_reducible refine ah (by assumption) (by simp [aC,aG]) ?_
   | with_reducible refine aj (by assumption) (by simp [aC,aG]) ?_
   | with_reducible refine And.intro (a:=ab _ _) (by simp [ab,apart]) ?_
   | with_reducible refine VW.aA 3 (VW.of ?_)
   | with_reducible refine bW.next _ (VW.of ?_)
   | rw [ai (by repeat (first | exact aZ | refine (di (by simp)).trans ?_)) (by exact rfl) (by exact rfl) (by exact rfl) (by exact rfl)]
   | rw [bQ (by exact rfl) (by exact rfl) (by exact rfl) (by exact rfl)]
   | rw [bR (by exact rfl) (by exact rfl) (by exact rfl) (by exact rfl) (by exact rfl) (by exact rfl)]
   | refine gn (hv _) jS (by simp [af.put,af.of,hq]) ?_
   | fail)
 refine dX▸bF (by simp (disch:=decide) only [RS,aY,a7,ao,cK]) (zm (by simp [af.put,af.of,hq]))
theorem R5 {f fa fv:FuncId} (h:Has P f (gz fa fv)) (a:Q2) (ha:VP P G fa [V2 a] (.tup [NV (rU a a), .int .i64 0])) (hv:∀ a,cX P G fv [NV a, .int .i64 0] (NV a)):cX P G f [V2 a] (NV (rU a a)):=fun p id jS=>by
 have hq:=lB jS
 refine aW.has h ?_
 simp only [gz]
 repeat (first
   | simp (disch:=first | decide | exact rfl) only [eG,SS,Nat.reduceAdd,ao,g0,g1,gl,cK,bZ]
   | with_reducible refine ah (by assumption) (by simp [aG]) ?_
   | with_reducible refine aj (by assumption) (by simp [aG]) ?_
   | with_reducible refine And.intro (a:=ab _ _) (by simp [ab,apart]) ?_
   | with_reducible refine VW.aA 3 (VW.of ?_)
   | with_reducible refine bW.next _ (VW.of ?_)
   | rw [ai (by repeat (first | exact aZ | refine (di (by simp)).trans ?_)) (by exact rfl) (by exact rfl) (by exact rfl) (by exact rfl)]
   | rw [bQ (by exact rfl) (by exact rfl) (by exact rfl) (by exact rfl)]
   | rw [bR (by exact rfl) (by exact rfl) (by exact rfl) (by exact rfl) (by exact rfl) (by exact rfl)]
   | refine gn (hv _) jS (by simp [af.put,af.of,hq]) ?_
   | fail)
 refine dX▸bF (by simp (disch:=decide) only [RS,aY,a7,ao,cz]) (zm (by simp [af.put,af.of,hq]))
theorem abz {f fm fs:FuncId} (h:Has P f (iH fm fs)) (a b:Q2) (hm:cX P G fm [V2 a,V2 b] (V2 (jn a b))) (hs:cX P G fs [V2 (jn a b)] (NV (rU (jn a b) (jn a b)))):cX P G f [V2 a,V2 b] (NV (rU (jn a b) (jn a b))):=fun p id jS=>by
 have hq:=lB jS
 refine aW.has h ?_
 simp only [iH]
 repeat (first
   | simp (disch:=first | decide | exact rfl) only [eG,SS,Nat.reduceAdd,ao,gl,cK,bZ]
   | with_reducible refine ah (by assumption) (by simp [au,ay,ax,aa.int,aa.bool,aa.str,aP,az,aC,aG,bT]) ?_
   | with_reducible refine aj (by assumption) (by simp [au,ay,ax,aa.int,aa.bool,aa.str,aP,az,aC,aG,bT]) ?_
   | with_reducible refine And.intro (a:=ab _ _) (by simp [ab,apart]) ?_
   | with_reducible refine VW.aA 3 (VW.of ?_)
   | with_reducible refine bW.next _ (VW.of ?_)
   | rw [ai (by repeat (first | exact aZ | refine (di (by simp)).trans ?_)) (by exact rfl) (by exact rfl) (by exact rfl) (by exact rfl)]
   | rw [bQ (by exact rfl) (by exact rfl) (by exact rfl) (by exact rfl)]
   | rw [bR (by exact rfl) (by exact rfl) (by exact rfl) (by exact rfl) (by exact rfl) (by exact rfl)]
   | refine gn hm jS (by simp [af.put,af.of,hq]) ?_
   | refine gn hs jS (by simp [af.put,af.of,hq]) ?_
   | fail)
 refine dX▸bF (by simp (disch:=decide) only [RS,aY,a7,ao,cz]) (zm (by simp [af.put,af.of,hq]))
end
end Go.VL
end

section
set_option linter.unusedVariables false
set_option linter.unusedVariables false
namespace Go.VL
open Go.Lib
structure CX where
 G9:Bool
 a:Q2
 b:Q2
 c:Q2
 cw:Bool
def CX.cells (x:CX):List AV:=[.bool x.G9, .nils,EV x.a.1, .nils,EV x.a.2, .nils,EV x.b.1, .nils,EV x.b.2, .nils,EV x.c.1, .nils,EV x.c.2, .bool x.cw]
def CX.av (x:CX):AV := .agg x.cells
theorem aV (x:CX):aa x.av:=aa.agg (by
 intro c hc
 simp only [CX.cells,List.mem_cons,List.not_mem_nil,or_false] at hc
 rcases hc with rfl | rfl | rfl | rfl | rfl | rfl | rfl | rfl | rfl | rfl | rfl | rfl | rfl | rfl<;>first | exact aa.bool _ | exact aa.nils | exact az _)
theorem Ha (x:CX):∀ c∈x.av.cells,aa c:=by
 intro c hc
 simp only [CX.av,AV.cells,CX.cells,List.mem_cons,List.not_mem_nil,or_false] at hc
 rcases hc with rfl | rfl | rfl | rfl | rfl | rfl | rfl | rfl | rfl | rfl | rfl | rfl | rfl | rfl<;>first | exact aa.bool _ | exact aa.nils | exact az _
theorem Bc (x:CX):(x.av.cells.all AV.one=true)=True:=by simp [CX.av,CX.cells,AV.cells,AV.one,EV]
theorem Fl (x:CX):x.av.size=14:=rfl
theorem oU (x:CX):part true x.av.cells 0 14=some x.av:=rfl
theorem Ev (x:CX):part false x.av.cells 0 1=some (.bool x.G9):=rfl
theorem Ew (x:CX):part true x.av.cells 1 4=some (V2 x.a):=rfl
theorem Ex (x:CX):part true x.av.cells 5 4=some (V2 x.b):=rfl
theorem Hb (x:CX):part true x.av.cells 9 4=some (V2 x.c):=rfl
theorem U9 (x:CX):part false x.av.cells 13 1=some (.bool x.cw):=rfl
def zC:AV := .agg [.bool false, .nils, .nils, .nils, .nils, .nils, .nils, .nils, .nils, .nils, .nils, .nils, .nils, .bool false]
theorem gu:((AV.cells (.agg [.bool false, .nils, .nils, .nils, .nils, .nils, .nils, .nils, .nils, .nils, .nils, .nils, .nils, .bool false])).all AV.one=true)=True:=by simp [AV.cells,AV.one]
theorem Fm {σ : af} {id:Id} {k:Nat} {x:CX} {v:Q2} (h : σ id=some ⟨[x.av],k,false⟩):fy σ 4 (.ref id 0 1) (V2 v)=some { val := .tup [],rd:=[id],up:=[(id,some ⟨[{ x with a:=v }.av],k,false⟩)] } :=
 eO (v:=V2 v) (el:=x.av) h rfl rfl (by simp [Fl]) (of_eq_true (gl v))
theorem Fo {σ : af} {id:Id} {k:Nat} {x:CX} {v:Q2} (h : σ id=some ⟨[x.av],k,false⟩):fy σ 4 (.ref id 0 5) (V2 v)=some { val := .tup [],rd:=[id],up:=[(id,some ⟨[{ x with b:=v }.av],k,false⟩)] } :=
 eO (v:=V2 v) (el:=x.av) h rfl rfl (by simp [Fl]) (of_eq_true (gl v))
theorem Fp {σ : af} {id:Id} {k:Nat} {x:CX} {v:Q2} (h : σ id=some ⟨[x.av],k,false⟩):fy σ 4 (.ref id 0 9) (V2 v)=some { val := .tup [],rd:=[id],up:=[(id,some ⟨[{ x with c:=v }.av],k,false⟩)] } :=
 eO (v:=V2 v) (el:=x.av) h rfl rfl (by simp [Fl]) (of_eq_true (gl v))
theorem Va {σ : af} {id:Id} {k:Nat} {x:CX} {v:Bool} (h : σ id=some ⟨[x.av],k,false⟩):fy σ 1 (.ref id 0 13) (.bool v)=some { val := .tup [],rd:=[id],up:=[(id,some ⟨[{ x with cw:=v }.av],k,false⟩)] } :=
 eO (v := .bool v) (el:=x.av) h rfl rfl (by simp [Fl]) rfl
def Ky (u v:Q2):Rat:=rU (jn u v) (jn u v)
def CX.valid (x:CX):Bool:=if x.G9 then decide (0<df (Ky x.a x.c))&&decide (Ky x.a x.c=Ky x.b x.c) else !decide (x.a=x.b)
def CX.same (x y:CX):Bool:=x.G9==y.G9&&decide (x.a=y.a)&&decide (x.b=y.b)&&(!x.G9||decide (x.c=y.c)&&x.cw==y.cw)
theorem jt {a b:List UInt8} (h:a.length+b.length<=140737488355328):bM .add .str (.str a) (.str b)=some (.str (a++b)):=by
 have e:mO .add .str (.str a) (.str b)=some (.str (a++b)):=by
   simp only [mO,WJ];exact if_pos (by unfold maxLen;omega)
 simp only [bM,e]
theorem Of {σ : af} {p:Id} {k:IntKind} {n:Int} (h:0<=n/\n<128):bU σ p (.idStr (.int k n))=bu (some (.str [UInt8.ofNat n.toNat])):=if_pos h
section
variable {P:Program} {G:Nat->Option (List AV)}
theorem Bd (m:Nat) (hm:m<1000):bM .rem .int (.int .i64 (m:Int)) (.int .i64 10)=some (.int .i64 ((m%10:Nat):Int))/\bM .add .int (.int .i64 48) (.int .i64 ((m%10:Nat):Int))=some (.int .i64 ((48+m%10:Nat):Int)) /\
   IntKind.i32.wrap ((48+m%10:Nat):Int)=((48+m%10:Nat):Int)/\(∀ σ p,bU σ p (.idStr (.int .i32 ((48+m%10:Nat):Int)))=bu (some (.str [UInt8.ofNat (48+m%10)])))/\bM .quo .int (.int .i64 (m:Int)) (.int .i64 10)=some (.int .i64 ((m/10:Nat):Int)):=by
 refine ⟨?_, ?_, ?_,fun σ p => ?_, ?_⟩
 . rw [show (10:Int)=((10:Nat):Int) from rfl,PB (by omega), <- Int.ofNat_tmod]
 . have e:IntKind.i64.wrap ((48:Int)+((m%10:Nat):Int))=((48+m%10:Nat):Int):=by rw [IntKind.wrap_i64];omega
   rw [JH,e]
 . rw [IntKind.wrap_i32];omega
 . have:=Of (σ := σ) (p:=p) (k := .i32) (n:=((48+m%10:Nat):Int)) (by omega)
   rw [Int.toNat_natCast] at this;exact this
 . have e:IntKind.i64.wrap ((m:Int).tdiv 10)=((m/10:Nat):Int):=by rw [Int.tdiv_eq_ediv_of_nonneg (by omega),IntKind.wrap_i64];omega
   rw [JI (by omega),e]
theorem Ms {f:FuncId} (h:Has P f jK) (n:Nat) (hn:n<1000):VP P G f [.int .i64 (n:Int)] (.str (decDigits n)):=by
 have g1:((([]:List UInt8)==[])=true):=rfl
 have g2:∀ (x:UInt8) (l:List UInt8),((x::l)==[])=false:=fun _ _=>rfl
 obtain ⟨a1,a2,a3,a4,a5⟩:=Bd n hn
 obtain ⟨b1,b2,b3,b4,b5⟩:=Bd (n/10) (by omega)
 obtain ⟨c1,c2,c3,c4,c5⟩:=Bd (n/10/10) (by omega)
 have s0:∀ x:UInt8,bM .add .str (.str [x]) (.str [])=some (.str [x]):=fun x=>jt (by simp)
 have s1:∀ x y:UInt8,bM .add .str (.str [x]) (.str [y])=some (.str [x,y]):=fun x y=>jt (by simp)
 have s2:∀ x y z:UInt8,bM .add .str (.str [x]) (.str [y,z])=some (.str [x,y,z]):=fun x y z=>jt (by simp)
 have e:decDigits n=if n<10 then [UInt8.ofNat (48+n%10)] else if n<100 then [UInt8.ofNat (48+n/10%10),UInt8.ofNat (48+n%10)] else [UInt8.ofNat (48+n/10/10%10),UInt8.ofNat (48+n/10%10),UInt8.ofNat (48+n%10)]:=by
   split
   . rw [nc (by assumption),Nat.mod_eq_of_lt (by assumption)]
   . split
     . rw [D1 (by assumption),nc (by omega),Nat.mod_eq_of_lt (show n/10<10 by omega)];rfl
     . rw [D1 (by assumption),D1 (by omega),nc (by omega),Nat.mod_eq_of_lt (show n/10/10<10 by omega)];rfl
 rw [e]
 refine VP.has h ?_
 simp only [jK]
 rcases (by omega:n<10∨(¬ n<10/\n<100)∨(¬ n<10 /\ ¬ n<100)) with k | ⟨k,k'⟩ | ⟨k,k'⟩
 . have d1:decide ((0:Int)<((n/10:Nat):Int))=false:=ar (by omega)
   rw [if_pos k]
   repeat (first
     | simp (disch:=first | decide | exact rfl) only [SS,Nat.reduceAdd,aK,g2,a1,a2,a3,a4,a5,s0,d1]
     | with_reducible refine ah (by assumption) (by simp [au,ay,ax,aa.int,aa.bool,aa.str,aP,az,aC,aG,aV,bT]) ?_
     | with_reducible refine aj (by assumption) (by simp [au,ay,ax,aa.int,aa.bool,aa.str,aP,az,aC,aG,aV,bT]) ?_
     | with_reducible refine And.intro (a:=ab _ _) (by simp [ab,apart]) ?_
     | with_reducible refine VW.aA 3 (VW.of ?_)
     | with_reducible refine bW.next _ (VW.of ?_)
     | rw [ai (by exact rfl) (by exact rfl) (by exact rfl) (by exact rfl) (by exact rfl)]
     | rw [bQ (by exact rfl) (by exact rfl) (by exact rfl) (by exact rfl)]
     | rw [bR (by exact rfl) (by exact rfl) (by exact rfl) (by exact rfl) (by exact rfl) (by exact rfl)]
     | fail)
   exact ak▸ae rfl (aa.str _)
 . have d1:decide ((0:Int)<((n/10:Nat):Int))=true:=aw (by omega)
   have d2:decide ((0:Int)<((n/10/10:Nat):Int))=false:=ar (by omega)
   rw [if_neg k,if_pos k']
   repeat (first
     | simp (disch:=first | decide | exact rfl) only [SS,Nat.reduceAdd,aK,g2,a1,a2,a3,a4,a5,b1,b2,b3,b4,b5,s0,s1,d1,d2]
     | with_reducible refine ah (by assumption) (by simp [au,ay,ax,aa.int,aa.bool,aa.str,aP,az,aC,aG,aV,bT]) ?_
     | with_reducible refine aj (by assumption) (by simp [au,ay,ax,aa.int,aa.bool,aa.str,aP,az,aC,aG,aV,bT]) ?_
     | with_reducible refine And.intro (a:=ab _ _) (by simp [ab,apart]) ?_
     | with_reducible refine VW.aA 3 (VW.of ?_)
     | with_reducible refine bW.next _ (VW.of ?_)
     | rw [ai (by exact rfl) (by exact rfl) (by exact rfl) (by exact rfl) (by exact rfl)]
     | rw [bQ (by exact rfl) (by exact rfl) (by exact rfl) (by exact rfl)]
     | rw [bR (by exact rfl) (by exact rfl) (by exact rfl) (by exact rfl) (by exact rfl) (by exact rfl)]
     | fail)
   exact ak▸ae rfl (aa.str _)
 . have d1:decide ((0:Int)<((n/10:Nat):Int))=true:=aw (by omega)
   have d2:decide ((0:Int)<((n/10/10:Nat):Int))=true:=aw (by omega)
   have d3:decide ((0:Int)<((n/10/10/10:Nat):Int))=false:=ar (by omega)
   rw [if_neg k,if_neg k']
   repeat (first
     | simp (disch:=first | decide | exact rfl) only [SS,Nat.reduceAdd,aK,g2,a1,a2,a3,a4,a5,b1,b2,b3,b4,b5,c1,c2,c3,c4,c5,s0,s1,s2,d1,d2,d3]
     | with_reducible refine ah (by assumption) (by simp [au,ay,ax,aa.int,aa.bool,aa.str,aP,az,aC,aG,aV,bT]) ?_
     | with_reducible refine aj (by assumption) (by simp [au,ay,ax,aa.int,aa.bool,aa.str,aP,az,aC,aG,aV,bT]) ?_
     | with_reducible refine And.intro (a:=ab _ _) (by simp [ab,apart]) ?_
     | with_reducible refine VW.aA 3 (VW.of ?_)
     | with_reducible refine bW.next _ (VW.of ?_)
     | rw [ai (by exact rfl) (by exact rfl) (by exact rfl) (by exact rfl) (by exact rfl)]
     | rw [bQ (by exact rfl) (by exact rfl) (by exact rfl) (by exact rfl)]
     | rw [bR (by exact rfl) (by exact rfl) (by exact rfl) (by exact rfl) (by exact rfl) (by exact rfl)]
     | fail)
   exact ak▸ae rfl (aa.str _)
theorem Mt {f fd:FuncId} (h:Has P f (jL fd)) (n:Nat) (hd:VP P G fd [.int .i64 (n:Int)] (.str (decDigits n))):VP P G f [.int .i64 (n:Int)] (.str (decDigits n)):=by
 refine VP.has h ?_
 simp only [jL]
 repeat (first
   | simp (disch:=first | decide | exact rfl) only [SS,Nat.reduceAdd]
   | with_reducible refine ah (by assumption) (by simp [aa.int]) ?_
   | with_reducible refine aj (by assumption) (by simp [aa.int]) ?_
   | with_reducible refine And.intro (a:=ab _ _) (by simp [ab,apart]) ?_
   | with_reducible refine VW.aA 3 (VW.of ?_)
   | with_reducible refine bW.next _ (VW.of ?_)
   | rw [ai (by exact rfl) (by exact rfl) (by exact rfl) (by exact rfl) (by exact rfl)]
   | rw [bQ (by exact rfl) (by exact rfl) (by exact rfl) (by exact rfl)]
   | rw [bR (by exact rfl) (by exact rfl) (by exact rfl) (by exact rfl) (by exact rfl) (by exact rfl)]
   | fail)
 exact ak▸ae rfl (aa.str _)
theorem Og {f fe ff fs fq:FuncId} (h:Has P f (kp fe ff fs fq)) (x:CX) (he:VP P G fe [V2 x.a,V2 x.b] (.bool (decide (x.a=x.b)))) (h1:cX P G ff [V2 x.a,V2 x.c] (NV (Ky x.a x.c))) (h2:cX P G ff [V2 x.b,V2 x.c] (NV (Ky x.b x.c)))
   (hs:VP P G fs [NV (Ky x.a x.c)] (.int .i64 (df (Ky x.a x.c)))) (hq:VP P G fq [NV (Ky x.a x.c),NV (Ky x.b x.c)] (.bool (decide (Ky x.a x.c=Ky x.b x.c)))):VP P G f [x.av] (.bool x.valid):=by
 refine VP.has h ?_
 simp only [kp]
 unfold CX.valid
 cases Kc:x.G9
 . rw [if_neg (by decide)]
   repeat (first
     | simp (disch:=first | decide | exact rfl) only [SS,Nat.reduceAdd,ao,Bc,Ev,Ew,Ex,Kc]
     | with_reducible refine ah (by assumption) (by simp [aC,aG]) ?_
     | with_reducible refine aj (by assumption) (by simp [aC]) ?_
     | with_reducible refine And.intro (a:=ab _ _) (by simp [ab,apart]) ?_
     | with_reducible refine VW.aA 3 (VW.of ?_)
     | with_reducible refine bW.next _ (VW.of ?_)
     | rw [ai (by exact rfl) (by exact rfl) (by exact rfl) (by exact rfl) (by exact rfl)]
     | rw [bQ (by exact rfl) (by exact rfl) (by exact rfl) (by exact rfl)]
     | rw [bR (by exact rfl) (by exact rfl) (by exact rfl) (by exact rfl) (by exact rfl) (by exact rfl)]
     | fail)
   exact ak▸ae rfl (aa.bool _)
 . rw [if_pos rfl]
   have e0:iN [.int .i64 0] []=some [.int .i64 0]:=rfl
   have e1:((AV.cells (.agg [.int .i64 0])).all AV.one=true)=True:=by simp [AV.cells,AV.one]
   have e2:part false (AV.cells (.agg [.int .i64 0])) 0 1=some (.int .i64 0):=rfl
   cases hd:decide (0<df (Ky x.a x.c))
   all_goals
     repeat (first
       | simp (disch:=first | decide | exact rfl) only [SS,DD,Nat.reduceAdd,aq,ao,decide_true,Bc,Ev,Ew,Ex,Hb,cz,bZ,Kc,hd,e0,e1,e2,Bool.true_and,Bool.false_and]
       | with_reducible refine ah (by assumption) (by simp [aC]) ?_
       | with_reducible refine aj (by assumption) (by simp [aC]) ?_
       | with_reducible refine And.intro (a:=ab _ _) (by simp [ab,apart]) ?_
       | with_reducible refine VW.aA 3 (VW.of ?_)
       | with_reducible refine bW.next _ (VW.of ?_)
       | rw [ai (by exact rfl) (by exact rfl) (by exact rfl) (by exact rfl) (by exact rfl)]
       | rw [bQ (by exact rfl) (by exact rfl) (by exact rfl) (by exact rfl)]
       | rw [bR (by exact rfl) (by exact rfl) (by exact rfl) (by exact rfl) (by exact rfl) (by exact rfl)]
       | refine eC h1 (by decide) (by exact rfl) ?_
       | refine eC h2 (by decide) (by exact rfl) ?_
       | fail)
     exact ak▸ae rfl (aa.bool _)
theorem Oh {f fe:FuncId} (h:Has P f (ks fe)) (x y:CX) (hp:∀ u v,(u,v)∈[(x.a,y.a),(x.b,y.b),(x.c,y.c)]->VP P G fe [V2 u,V2 v] (.bool (decide (u=v)))):VP P G f [x.av,y.av] (.bool (x.same y)):=by
 have h1:=hp x.a y.a (by simp)
 have h2:=hp x.b y.b (by simp)
 have h3:=hp x.c y.c (by simp)
 have e1:∀ a b:Bool,(!(a==b))=true->(a==b)=false:=by decide
 unfold CX.same
 refine VP.has h ?_
 simp only [ks]
 rcases Bool.eq_false_or_eq_true (x.G9==y.G9) with c1 | c1
 . cases c2:decide (x.a=y.a)<;>cases c3:decide (x.b=y.b)<;>cases c4:x.G9<;>cases c5:decide (x.c=y.c)<;>rw [c2] at h1<;>rw [c3] at h2<;>rw [c5] at h3<;>rw [c4] at c1
   all_goals
     repeat (first
       | simp (disch:=first | decide | exact rfl) only [SS,Nat.reduceAdd,aq,ao,Bc,Ev,Ew,Ex,Hb,U9,c1,c4,Bool.true_and,Bool.false_and,Bool.true_or,Bool.false_or]
       | with_reducible refine ah (by assumption) (by simp [aG]) ?_
       | with_reducible refine aj (by assumption) (by simp [aG]) ?_
       | with_reducible refine And.intro (a:=ab _ _) (by simp [ab,apart]) ?_
       | with_reducible refine VW.aA 3 (VW.of ?_)
       | with_reducible refine bW.next _ (VW.of ?_)
       | rw [ai (by exact rfl) (by exact rfl) (by exact rfl) (by exact rfl) (by exact rfl)]
       | rw [bQ (by exact rfl) (by exact rfl) (by exact rfl) (by exact rfl)]
       | rw [bR (by exact rfl) (by exact rfl) (by exact rfl) (by exact rfl) (by exact rfl) (by exact rfl)]
       | fail)
     exact ak▸ae (by first | rfl | (simp only [RS,aY,a7];simp [c1])) (aa.bool _)
 . skip
   repeat (first
     | simp (disch:=first | decide | exact rfl) only [SS,Nat.reduceAdd,aq,ao,Bc,Ev,c1,Bool.false_and]
     | with_reducible refine ah (by assumption) (by simp [aG]) ?_
     | with_reducible refine aj (by assumption) (by simp [aG]) ?_
     | with_reducible refine And.intro (a:=ab _ _) (by simp [ab,apart]) ?_
     | with_reducible refine VW.aA 3 (VW.of ?_)
     | with_reducible refine bW.next _ (VW.of ?_)
     | rw [ai (by exact rfl) (by exact rfl) (by exact rfl) (by exact rfl) (by exact rfl)]
     | rw [bQ (by exact rfl) (by exact rfl) (by exact rfl) (by exact rfl)]
     | rw [bR (by exact rfl) (by exact rfl) (by exact rfl) (by exact rfl) (by exact rfl) (by exact rfl)]
     | fail)
   exact ak▸ae rfl (aa.bool _)
end
end Go.VL
end

section
set_option linter.unusedVariables false
set_option linter.unusedVariables false
set_option maxRecDepth 100000
namespace Go.VL
open Go.Lib
structure DX where
 G9:Bool
 cw:Bool
 a:Int × Int
 b:Int × Int
 step:Nat
 unit:Nat
def ok8 (p:Int × Int):Prop := -128<=p.1/\p.1<128 /\ -128<=p.2/\p.2<128
def DX.Ok (d:DX):Prop:=ok8 d.a/\ok8 d.b/\d.step<256/\d.unit<256
def I2 (p:Int × Int):AV := .agg [.int .i8 p.1, .int .i8 p.2]
def DX.av (d:DX):AV := .agg [.bool d.G9, .bool d.cw, .int .i8 d.a.1, .int .i8 d.a.2, .int .i8 d.b.1, .int .i8 d.b.2, .int .u8 d.step, .int .u8 d.unit]
def ZQ:List (Int × Int × Nat):=[(1,0,1),(3,4,5),(0,1,1),(-1,0,1),(0, -1,1),(4,3,5),(-3,4,5),(-4,3,5),(-4, -3,5),(-3, -4,5),(3, -4,5),(4, -3,5),(5,12,13),(12,5,13),(-5,12,13),(24,7,25)]
def ve (k:Nat):Q2:=match ZQ[k]? with | some (a,b,c)=>((a:Rat)/((c:Int):Rat),(b:Rat)/((c:Int):Rat)) | none=>(0,0)
def vg (p:Int × Int) (u:Nat):Q2:=((p.1:Rat)/(((u%4+1:Nat):Int):Rat),(p.2:Rat)/(((u%4+1:Nat):Int):Rat))
def DX.ig (d:DX):CX :=
 if d.G9 then
   ⟨true,vg d.b d.unit,gm (vg d.a d.unit) (gm (fS (jn (vg d.b d.unit) (vg d.a d.unit)) (ve (d.step%16)).1) (fS (-(jn (vg d.b d.unit) (vg d.a d.unit)).2,(jn (vg d.b d.unit) (vg d.a d.unit)).1) (ve (d.step%16)).2)),vg d.a d.unit,d.cw⟩
 else ⟨false,vg d.a d.unit,vg d.b d.unit,(0,0),d.cw⟩
theorem nr (d:DX):aa d.av:=aa.agg (by simp [aa.bool,aa.int])
theorem Kd (p:Int × Int):aa (I2 p):=aa.agg (by simp [aa.int])
theorem Vb (d:DX):(d.av.cells.all AV.one=true)=True:=by simp [DX.av,AV.cells,AV.one]
theorem Ke (d:DX):part true d.av.cells 0 8=some d.av:=rfl
theorem ZR (d:DX):part false d.av.cells 0 1=some (.bool d.G9):=rfl
theorem ZT (d:DX):part false d.av.cells 1 1=some (.bool d.cw):=rfl
theorem ZU (d:DX):part true d.av.cells 2 2=some (I2 d.a):=rfl
theorem ZV (d:DX):part true d.av.cells 4 2=some (I2 d.b):=rfl
theorem aes (d:DX):part false d.av.cells 6 1=some (.int .u8 d.step):=rfl
theorem ZW (d:DX):part false d.av.cells 7 1=some (.int .u8 d.unit):=rfl
theorem abB (p:Int × Int):((I2 p).cells.all AV.one=true)=True:=by simp [I2,AV.cells,AV.one]
theorem aet (p:Int × Int):part false (I2 p).cells 0 1=some (.int .i8 p.1):=rfl
theorem aeu (p:Int × Int):part false (I2 p).cells 1 1=some (.int .i8 p.2):=rfl
theorem Yj (a b c:Int):iN [.int .i64 0, .int .i64 0, .int .i64 0] [(0,(1, .int .i64 a)),(1,(1, .int .i64 b)),(2,(1, .int .i64 c))]=some [.int .i64 a, .int .i64 b, .int .i64 c]:=rfl
def Vc:List AV:=[.int .i64 1, .int .i64 0, .int .i64 1, .int .i64 3, .int .i64 4, .int .i64 5, .int .i64 0, .int .i64 1, .int .i64 1, .int .i64 (-1), .int .i64 0, .int .i64 1, .int .i64 0, .int .i64 (-1), .int .i64 1, .int .i64 4, .int .i64 3, .int .i64 5, .int .i64 (-3), .int .i64 4, .int .i64 5, .int .i64 (-4), .int .i64 3, .int .i64 5, .int .i64 (-4), .int .i64 (-3), .int .i64 5, .int .i64 (-3), .int .i64 (-4), .int .i64 5, .int .i64 3, .int .i64 (-4), .int .i64 5, .int .i64 4, .int .i64 (-3), .int .i64 5, .int .i64 5, .int .i64 12, .int .i64 13, .int .i64 12, .int .i64 5, .int .i64 13, .int .i64 (-5), .int .i64 12, .int .i64 13, .int .i64 24, .int .i64 7, .int .i64 25]
theorem Oi {z r:List AV} {ps:List (Nat × Nat × AV)} (h:iN z ps=some r):iN z ps=some r:=h
theorem ahI {k:Nat} (h:k<16):k=0∨k=1∨k=2∨k=3∨k=4∨k=5∨k=6∨k=7∨k=8∨k=9∨k=10∨k=11∨k=12∨k=13∨k=14∨k=15:=by omega
theorem Je {k:Nat} (h:k<16):∃ a b c,ZQ[k]? = some (a,b,c)/\c≠0/\c<=25 /\ -25<=a/\a<=25 /\ -25<=b/\b<=25/\part true (AV.agg Vc).cells (k*3) 3=some (.agg [.int .i64 a, .int .i64 b, .int .i64 (c:Int)]):=by
 rcases ahI h with rfl | rfl | rfl | rfl | rfl | rfl | rfl | rfl | rfl | rfl | rfl | rfl | rfl | rfl | rfl | rfl<;>exact ⟨_,_,_,rfl,by decide,by decide,by decide,by decide,by decide,by decide,rfl⟩
theorem Vd:((-1-0:Int) = -1)/\((-1-2:Int) = -3)/\((-1-3:Int) = -4)/\((-1-4:Int) = -5):=by decide
theorem ia2 {id:Id}:nY 2 1 (.ref id 0 0) (.int .i64 0)=some (.ref id 0 0)/\nY 2 1 (.ref id 0 0) (.int .i64 1)=some (.ref id 0 1):=⟨rfl,rfl⟩
theorem ia3 {id:Id}:nY 3 1 (.ref id 0 0) (.int .i64 0)=some (.ref id 0 0)/\nY 3 1 (.ref id 0 0) (.int .i64 1)=some (.ref id 0 1)/\nY 3 1 (.ref id 0 0) (.int .i64 2)=some (.ref id 0 2):=⟨rfl,rfl,rfl⟩
def Ve (P:Program) (G:Nat->Option (List AV)) (f:FuncId):Prop:=∀ (a:Int) (b:Nat),b≠0->b<=1000 -> -1000<=a->a<=1000->VP P G f [.int .i64 a, .int .i64 (b:Int)] (QV ((a:Rat)/((b:Int):Rat)))
section
variable {P:Program} {G:Nat->Option (List AV)}
theorem Yk {f fF fM:FuncId} (h:Has P f (mS fF fM)) (hF:Ve P G fF) (hM:∀ v:Q2,VP P G fM [QV v.1,QV v.2] (V2 v)) (p:Int × Int) (hp:ok8 p) (u:Nat) (hu:u<256):VP P G f [I2 p, .int .u8 (u:Int)] (V2 (vg p u)):=by
 obtain ⟨q1,q2,q3,q4⟩:=hp
 have r1:bM .rem .int (.int .u8 (u:Int)) (.int .u8 4)=some (.int .u8 ((u%4:Nat):Int)):=by
   show some (AV.int .u8 ((u:Int).tmod 4))=_
   rw [Int.tmod_eq_emod_of_nonneg (by omega)];rfl
 have r2:IntKind.i64.wrap ((u%4:Nat):Int)=((u%4:Nat):Int):=by rw [IntKind.wrap_i64];omega
 have r3:IntKind.i64.wrap (((u%4:Nat):Int)+1)=((u%4+1:Nat):Int):=by rw [IntKind.wrap_i64];omega
 have r4:IntKind.i64.wrap p.1=p.1:=by rw [IntKind.wrap_i64];omega
 have r5:IntKind.i64.wrap p.2=p.2:=by rw [IntKind.wrap_i64];omega
 have f1:=hF p.1 (u%4+1) (by omega) (by omega) (by omega) (by omega)
 have f2:=hF p.2 (u%4+1) (by omega) (by omega) (by omega) (by omega)
 have m1:VP P G fM _ _:=hM (vg p u)
 simp only [vg] at m1
 refine VP.has h ?_
 simp only [mS]
 repeat (first
   | simp (disch:=first | decide | exact rfl) only [SS,DD,Nat.reduceAdd,aq,ao,abB,aet,aeu,ia2,cx,r1,r2,r3,r4,r5]
   | with_reducible refine ah (by assumption) (by simp [ax]) ?_
   | with_reducible refine aj (by assumption) (by simp [ax,aa.int]) ?_
   | with_reducible refine And.intro (a:=ab _ _) (by simp [ab,apart]) ?_
   | with_reducible refine VW.aA 3 (VW.of ?_)
   | with_reducible refine bW.next _ (VW.of ?_)
   | rw [ai (by exact rfl) (by exact rfl) (by exact rfl) (by exact rfl) (by exact rfl)]
   | rw [bQ (by exact rfl) (by exact rfl) (by exact rfl) (by exact rfl)]
   | rw [bR (by exact rfl) (by exact rfl) (by exact rfl) (by exact rfl) (by exact rfl) (by exact rfl)]
   | fail)
 refine ak▸ae (r:=V2 (vg p u)) ?_ (aG _)
 simp (disch:=decide) only [RS,aY,a7,ao,cK,vg]
set_option maxHeartbeats 4000000 in
theorem R6 {f fF fM:FuncId} (h:Has P f (lh fF fM)) (hF:Ve P G fF) (hM:∀ v:Q2,VP P G fM [QV v.1,QV v.2] (V2 v)) (n:Nat) (hn:n<256):VP P G f [.int .u8 (n:Int)] (V2 (ve (n%16))):=by
 have r1:bM .rem .int (.int .u8 (n:Int)) (.int .u8 16)=some (.int .u8 ((n%16:Nat):Int)):=by
   show some (AV.int .u8 ((n:Int).tmod 16))=_
   rw [Int.tmod_eq_emod_of_nonneg (by omega)];rfl
 have hk:n%16<16:=Nat.mod_lt _ (by decide)
 generalize n%16=k at *
 have ia:∀ id:Id,nY 16 3 (.ref id 0 0) (.int .u8 (k:Int))=some (.ref id 0 (k*3)):=fun id=>by
   simp only [nY];rw [if_pos ⟨by omega,by omega⟩];simp
 obtain ⟨a,b,c,hu,c0,c1,a1,a2,b1,b2,hpt⟩:=Je hk
 have f1:=hF a c c0 (by omega) (by omega) (by omega)
 have f2:=hF b c c0 (by omega) (by omega) (by omega)
 have m1:=hM (ve k)
 have e:ve k=((a:Rat)/((c:Int):Rat),(b:Rat)/((c:Int):Rat)):=by unfold ve;rw [hu]
 rw [e] at m1 ⊢
 simp only [] at m1
 have z1:((AV.cells (.agg [.int .i64 0, .int .i64 0, .int .i64 0])).all AV.one=true)=True:=by simp [AV.cells,AV.one]
 have z2:((AV.cells (.agg [.int .i64 a, .int .i64 b, .int .i64 (c:Int)])).all AV.one=true)=True:=by simp [AV.cells,AV.one]
 have p0:part false (AV.cells (.agg [.int .i64 a, .int .i64 b, .int .i64 (c:Int)])) 0 1=some (.int .i64 a):=rfl
 have p1:part false (AV.cells (.agg [.int .i64 a, .int .i64 b, .int .i64 (c:Int)])) 1 1=some (.int .i64 b):=rfl
 have p2:part false (AV.cells (.agg [.int .i64 a, .int .i64 b, .int .i64 (c:Int)])) 2 1=some (.int .i64 (c:Int)):=rfl
 refine VP.has h ?_
 simp only [lh,Vd]
 repeat (first
   | simp (disch:=first | decide | exact rfl) only [SS,DD,Nat.reduceAdd,ao,Yj,r1,ia,ia3,cx,hpt,z1,p0,p1,p2]
   | with_reducible refine ah (by assumption) (by simp [ax]) ?_
   | with_reducible refine aj (by assumption) (by simp [ax,aa.int]) ?_
   | with_reducible refine And.intro (a:=ab _ _) (by simp [ab,apart]) ?_
   | with_reducible refine VW.aA 3 (VW.of ?_)
   | with_reducible refine bW.next _ (VW.of ?_)
   | rw [ai (by exact rfl) (by exact rfl) (by exact rfl) (by exact rfl) (by exact rfl)]
   | rw [bQ (by exact rfl) (by exact rfl) (by exact rfl) (by exact rfl)]
   | rw [bR (by exact rfl) (by exact rfl) (by exact rfl) (by exact rfl) (by exact rfl) (by exact rfl)]
   | rw [Oi (r:=Vc) (by exact rfl)]
   | rw [if_pos (by exact rfl)]
   | fail)
 refine ak▸ae (r:=V2 ((a:Rat)/((c:Int):Rat),(b:Rat)/((c:Int):Rat))) ?_ (aG _)
 simp (disch:=decide) only [RS,aY,a7,ao,cK]
end
end Go.VL
end

section
namespace Go.VL
def zp {α : Type} (l:List α) (p : α -> Bool) (i:Nat):Prop:=∀ (j:Nat) y,j<i->l[j]? = some y->p y=false
theorem zp.any {α : Type} {l:List α} {p : α -> Bool} {i:Nat} (h:zp l p i) (hi:l.length<=i):l.any p=false:=by
 rw [List.any_eq_false]
 intro x hx
 obtain ⟨j,hj⟩:=List.getElem?_of_mem hx
 rw [h j x (by have:=(List.getElem?_eq_some_iff.1 hj).1;omega) hj];simp
theorem zr {α : Type} {l:List α} {p : α -> Bool} {i:Nat} {x : α} (hx:l[i]? = some x) (hp:p x=true):l.any p=true:=List.any_eq_true.2 ⟨x,List.mem_of_getElem? hx,hp⟩
theorem zp.succ {α : Type} {l:List α} {p : α -> Bool} {i:Nat} {x : α} (h:zp l p i) (hx:l[i]? = some x) (hp:p x=false):zp l p (i+1):=by
 intro j y hj hy
 rcases (by omega:j<i∨j=i) with e | rfl
 . exact h j y e hy
 . rw [hx] at hy;simp only [Option.some.injEq] at hy;subst hy;exact hp
section
variable {P:Program} {G:Nat->Option (List AV)} {π : Id} {Q:bX->VS->Prop} {s:VS} {x:cg}
abbrev ZX (G:Nat->Option (List AV)) (π : Id) {α : Type} (l:List α) (p : α -> Bool) (T:Nat->List AV) (σ : af) (i m:Nat) (Q:bX->VS->Prop):bX->VS->Prop :=
 Iz G π (fun y:Nat × Nat=>(⟨T y.1, σ,y.2⟩:VS)) (fun y=>y.1<=l.length/\zp l p y.1) (fun y=>l.length-y.1) (i,m) Q
theorem VW.scan {α : Type} (l:List α) (p : α -> Bool) (T:Nat->List AV) (σ : af) (k0:Nat) (hw:Wk G π s ⟨T 0, σ,k0⟩)
   (h:∀ i m e,l[i]? = some e->i<l.length->zp l p i->decide ((i:Int)<(l.length:Int))=true->xL P G π x (ZX G π l p T σ i m Q) ⟨T i, σ,m⟩)
   (he:∀ m,zp l p l.length->decide ((l.length:Int)<(l.length:Int))=false->xL P G π x (ZX G π l p T σ l.length m Q) ⟨T l.length, σ,m⟩):VW P G π (.loop x) Q s:=by
 refine VW.dQ (α := Nat × Nat) (fun y=>⟨T y.1, σ,y.2⟩) (fun y=>y.1<=l.length/\zp l p y.1) (fun y=>l.length-y.1) (0,k0) hw ⟨Nat.zero_le _,fun j e hj=>absurd hj (Nat.not_lt_zero j)⟩ ?_
 rintro ⟨i,m⟩ ⟨hi,hn⟩
 simp only [] at hi hn
 by_cases hlt:i<l.length
 . exact h i m l[i] (by simp [hlt]) hlt hn (decide_eq_true (by omega))
 . have:i=l.length:=by omega
   subst this
   exact he m hn (decide_eq_false (by omega))
end
end Go.VL
end
