/- For the claim of FeaturePattern: parts CQ2, CN4, CQ3, CQ4, CQ5, CQ6. -/
import Derived.Test.YtchdghnpcekegaaGreatDoorC08
set_option linter.unusedSimpArgs false
set_option linter.unusedVariables false
section
set_option linter.unusedSimpArgs false
set_option linter.unusedVariables false
namespace Go.VL
theorem P6 (q:Rat):decide ((ak q.num.natAbs:Int)=0)=decide (q=0):=by
 have h1:=cI (n:=q.num.natAbs)
 have h2:=Rat.num_eq_zero (q:=q)
 congr 1;apply propext
 rw [<- h2];omega
theorem three (a b:Int) (h : ¬ (a=1/\b=1)):(decide (a=1)=true/\decide (b=1)=false)∨(decide (a=1)=false/\decide (b=1)=false)∨(decide (a=1)=false/\decide (b=1)=true):=by
 by_cases h1:a=1<;>by_cases h2:b=1<;>simp_all
section
variable {P:Program} {G:Nat->Option (List AV)}
set_option maxHeartbeats 1000000 in
theorem UF {f fo fA fg fm fq:FuncId} (h:Has P f (lW fo fA fg fm fq)) (ho:G0 P G fo) (hA:Ma P G fA) (hg:I5 P G fg) (hm:Eo P G fm) (hq:P2 P G fq):PZ P G f:=fun a b ha hb=>by
 have o1:=ho a.den
 have o2:=ho b.den
 have z1:=P6 a
 have z2:=P6 b
 have ha1:=ha.1
 have ha2:=ha.2
 have yj:=hb.1
 have CY:=hb.2
 obtain ⟨n1,n2⟩:=XC a b
 refine VP.has h ?_
 simp only [lW]
 by_cases a0:a=0
 . rw [aG a0] at z1
   rw [show a+b=b from by rw [a0,Rat.zero_add]]
   repeat (first
     | simp (disch:=first | decide | exact rfl) only [SS,DD,Nat.reduceAdd,reduceIte,af,ai,az,ZZ,CC,aW,g0,g1,g2,decide_true,decide_false,dc,CG,bT,bn,z1,bR]
     | with_reducible refine ao (by assumption) (by simp [ag,aq,aj,aa.int,aa.bool,aa.str,aA]) ?_
     | with_reducible refine ay (by assumption) (by simp [ag,aq,aj,aa.int,aa.bool,aa.str,aA]) ?_
     | with_reducible refine And.intro (a:=ab _ _) (by simp [ab,apart]) ?_
     | with_reducible refine VW.aI 3 (VW.of ?_)
     | with_reducible refine b9.next _ (VW.of ?_)
     | rw [au (by exact rfl) (by exact rfl) (by exact rfl) (by exact rfl) (by exact rfl)]
     | rw [bW (by exact rfl) (by exact rfl) (by exact rfl) (by exact rfl)]
     | rw [bX (by exact rfl) (by exact rfl) (by exact rfl) (by exact rfl) (by exact rfl) (by exact rfl)]
     | fail)
   refine ax▸ae (r:=QV b) ?_ (aj _)
   simp (disch:=decide) only [RS,a8,bg,af,ai,bT]
 rw [aD a0] at z1
 by_cases b0:b=0
 . rw [aG b0] at z2
   rw [show a+b=a from by rw [b0,Rat.add_zero]]
   repeat (first
     | simp (disch:=first | decide | exact rfl) only [SS,DD,Nat.reduceAdd,reduceIte,af,ai,az,ZZ,CC,aW,g0,g1,g2,decide_true,decide_false,dc,CG,bT,bn,z1,z2,bR]
     | with_reducible refine ao (by assumption) (by simp [ag,aq,aj,aa.int,aa.bool,aa.str,aA]) ?_
     | with_reducible refine ay (by assumption) (by simp [ag,aq,aj,aa.int,aa.bool,aa.str,aA]) ?_
     | with_reducible refine And.intro (a:=ab _ _) (by simp [ab,apart]) ?_
     | with_reducible refine VW.aI 3 (VW.of ?_)
     | with_reducible refine b9.next _ (VW.of ?_)
     | rw [au (by exact rfl) (by exact rfl) (by exact rfl) (by exact rfl) (by exact rfl)]
     | rw [bW (by exact rfl) (by exact rfl) (by exact rfl) (by exact rfl)]
     | rw [bX (by exact rfl) (by exact rfl) (by exact rfl) (by exact rfl) (by exact rfl) (by exact rfl)]
     | fail)
   refine ax▸ae (r:=QV a) ?_ (aj _)
   simp (disch:=decide) only [RS,a8,bg,af,ai,bT]
 rw [aD b0] at z2
 by_cases hdd:(a.den:Int)=1/\(b.den:Int)=1
 . have d3:=aG hdd.1
   have d4:=aG hdd.2
   have h1:=hA a.num b.num (by omega) (by omega)
   have hs:a+b=((a.num+b.num:Int):Rat):=by rw [Rat.intCast_add, <- zP hdd.1, <- zP hdd.2]
   have e:=GZ (z:=a.num+b.num) (d:=a.den) (q:=a+b) (by rw [hs];rfl) (by rw [hs,hdd.1];rfl)
   repeat (first
     | simp (disch:=first | decide | exact rfl) only [SS,DD,Nat.reduceAdd,reduceIte,af,ai,az,ZZ,CC,aW,g0,g1,g2,decide_true,decide_false,dc,CG,sX,sY,bT,bn,z1,z2,d3,d4,bR,qv,e]
     | with_reducible refine ao (by assumption) (by simp [ag,aq,aj,aa.int,aa.bool,aa.str,aA]) ?_
     | with_reducible refine ay (by assumption) (by simp [ag,aq,aj,aa.int,aa.bool,aa.str,aA]) ?_
     | with_reducible refine And.intro (a:=ab _ _) (by simp [ab,apart]) ?_
     | with_reducible refine VW.aI 3 (VW.of ?_)
     | with_reducible refine b9.next _ (VW.of ?_)
     | rw [au (by exact rfl) (by exact rfl) (by exact rfl) (by exact rfl) (by exact rfl)]
     | rw [bW (by exact rfl) (by exact rfl) (by exact rfl) (by exact rfl)]
     | rw [bX (by exact rfl) (by exact rfl) (by exact rfl) (by exact rfl) (by exact rfl) (by exact rfl)]
     | fail)
   refine ax▸ae (r:=QV (a+b)) ?_ (aj _)
   simp (disch:=decide) only [RS,a8,bg,af,ai,bT]
 have hgd:VP P G fg [IV a.den,IV b.den] (IV (Nat.gcd a.den b.den:Nat)):=hg a.den b.den (by rw [dM];omega) (by rw [dM];omega)
 have w1:=ck a.num b.den
 have w2:=ck b.num a.den
 have w3:=ck a.den b.den
 rw [dM] at w1 w2 w3
 rw [dM] at w3
 have o3:=ho (Nat.gcd a.den b.den:Nat)
 have hgp:0<Nat.gcd a.den b.den:=Nat.gcd_pos_of_pos_left _ a.den_pos
 generalize hgg:Nat.gcd a.den b.den=g at *
 by_cases g1:g=1
 . subst g1
   have o4:=ho 1
   have d5:decide ((1:Int)=1)=true:=rfl
   have m1:=hm a.num b.den (by omega) (by rw [dM];omega)
   have m2:=hm b.num a.den (by omega) (by rw [dM];omega)
   have m3:=hm a.den b.den (by rw [dM];omega) (by rw [dM];omega)
   have s1:=hA (a.num*b.den) (b.num*a.den) (by omega) (by omega)
   simp only [Nat.div_one,Nat.gcd_one_right,Int.natCast_one,Int.ediv_one] at n1 n2
   have e:=GZ (z:=a.num*b.den+b.num*a.den) (d:=a.den*b.den) (q:=a+b) n1 (by rw [n2];exact Int.natCast_mul _ _)
   rcases three _ _ hdd with ⟨d3,d4⟩ | ⟨d3,d4⟩ | ⟨d3,d4⟩
   all_goals
     repeat (first
       | simp (disch:=first | decide | exact rfl) only [SS,DD,Nat.reduceAdd,reduceIte,af,ai,az,ZZ,CC,aW,g0,g1,g2,decide_true,decide_false,dc,CG,sX,sY,bT,bn,z1,z2,d3,d4,d5,bR,bZ,eX,c9,qv,e]
       | with_reducible refine ao (by assumption) (by simp [ag,aq,aj,aa.int,aa.bool,aa.str,aA]) ?_
       | with_reducible refine ay (by assumption) (by simp [ag,aq,aj,aa.int,aa.bool,aa.str,aA]) ?_
       | with_reducible refine And.intro (a:=ab _ _) (by simp [ab,apart]) ?_
       | with_reducible refine VW.aI 3 (VW.of ?_)
       | with_reducible refine b9.next _ (VW.of ?_)
       | rw [au (by exact rfl) (by exact rfl) (by exact rfl) (by exact rfl) (by exact rfl)]
       | rw [bW (by exact rfl) (by exact rfl) (by exact rfl) (by exact rfl)]
       | rw [bX (by exact rfl) (by exact rfl) (by exact rfl) (by exact rfl) (by exact rfl) (by exact rfl)]
       | fail)
     refine ax▸ae (r:=QV (a+b)) ?_ (aj _)
     simp (disch:=decide) only [RS,a8,bg,af,ai,bT]
 . have d5:decide ((g:Int)=1)=false:=aD (by omega)
   have hga:g ∣ a.den:=hgg▸Nat.gcd_dvd_left _ _
   have hgb:g ∣ b.den:=hgg▸Nat.gcd_dvd_right _ _
   have hgl:ak ((g:Nat):Int).natAbs<=100000:=Nat.le_trans (bJ (Nat.le_of_dvd a.den_pos hga)) ha2
   have q1:=hq a.den g (by omega) (Int.ofNat_dvd.2 hga) (by rw [dM];omega) (by omega)
   have q2:=hq b.den g (by omega) (Int.ofNat_dvd.2 hgb) (by rw [dM];omega) (by omega)
   rw [<- Int.natCast_ediv] at q1 q2
   have wx:ak (((a.den/g:Nat):Int)).natAbs<=100000:=Nat.le_trans (bJ (Nat.div_le_self _ _)) ha2
   have wy:ak (((b.den/g:Nat):Int)).natAbs<=100000:=Nat.le_trans (bJ (Nat.div_le_self _ _)) CY
   generalize a.den/g=x at *
   generalize b.den/g=y at *
   have m1:=hm a.num y (by omega) (by omega)
   have m2:=hm b.num x (by omega) (by omega)
   have v1:=ck a.num y
   have v2:=ck b.num x
   have s1:=hA (a.num*y) (b.num*x) (by omega) (by omega)
   have v3:ak (a.num*y+b.num*x).natAbs<=200001:=Nat.le_trans (bJ (Int.natAbs_add_le _ _)) (qO (k:=200000) (by omega) (by omega))
   generalize a.num*y+b.num*x=N at *
   have g2:=hg N g (by omega) (by omega)
   rw [Int.natAbs_natCast] at g2
   have hp:0<Nat.gcd N.natAbs g:=Nat.gcd_pos_of_pos_right _ hgp
   have hhl:ak (((Nat.gcd N.natAbs g:Nat):Int)).natAbs<=100000:=Nat.le_trans (bJ (Nat.le_of_dvd hgp (Nat.gcd_dvd_right _ _))) hgl
   have hdN:((Nat.gcd N.natAbs g:Nat):Int) ∣ N:=Int.ofNat_dvd_left.2 (Nat.gcd_dvd_left _ _)
   have hdb:Nat.gcd N.natAbs g ∣ b.den:=Nat.dvd_trans (Nat.gcd_dvd_right _ _) hgb
   generalize Nat.gcd N.natAbs g=k at *
   have q3:=hq N k (by omega) hdN (by omega) (by omega)
   have q4:=hq b.den k (by omega) (Int.ofNat_dvd.2 hdb) (by rw [dM];omega) (by omega)
   rw [<- Int.natCast_ediv] at q4
   have m3:=hm x ((b.den/k:Nat):Int) (by omega) (Nat.le_trans (bJ (Nat.div_le_self _ _)) (by omega))
   have e:=GZ (z:=N/k) (d:=x*((b.den/k:Nat):Int)) (q:=a+b) n1 (by rw [n2];exact Int.natCast_mul _ _)
   rcases three _ _ hdd with ⟨d3,d4⟩ | ⟨d3,d4⟩ | ⟨d3,d4⟩
   all_goals
     repeat (first
       | simp (disch:=first | decide | exact rfl) only [SS,DD,Nat.reduceAdd,reduceIte,af,ai,az,ZZ,CC,aW,g0,g1,g2,decide_true,decide_false,dc,CG,sX,sY,bT,bn,z1,z2,d3,d4,d5,bR,bZ,eX,c9,qv,e]
       | with_reducible refine ao (by assumption) (by simp [ag,aq,aj,aa.int,aa.bool,aa.str,aA]) ?_
       | with_reducible refine ay (by assumption) (by simp [ag,aq,aj,aa.int,aa.bool,aa.str,aA]) ?_
       | with_reducible refine And.intro (a:=ab _ _) (by simp [ab,apart]) ?_
       | with_reducible refine VW.aI 3 (VW.of ?_)
       | with_reducible refine b9.next _ (VW.of ?_)
       | rw [au (by exact rfl) (by exact rfl) (by exact rfl) (by exact rfl) (by exact rfl)]
       | rw [bW (by exact rfl) (by exact rfl) (by exact rfl) (by exact rfl)]
       | rw [bX (by exact rfl) (by exact rfl) (by exact rfl) (by exact rfl) (by exact rfl) (by exact rfl)]
       | fail)
     refine ax▸ae (r:=QV (a+b)) ?_ (aj _)
     simp (disch:=decide) only [RS,a8,bg,af,ai,bT]
set_option maxHeartbeats 1000000 in
theorem RE {f ff fo fm fg fq:FuncId} (h:Has P f (lR ff fo fm fg fq)) (hf:VP P G ff [.int .i64 0] (QV 0)) (ho:G0 P G fo) (hm:Eo P G fm) (hg:I5 P G fg) (hq:P2 P G fq):P0 P G f:=fun a b ha hb=>by
 have o1:=ho a.den
 have o2:=ho b.den
 have z1:=P6 a
 have z2:=P6 b
 have ha1:=ha.1
 have ha2:=ha.2
 have yj:=hb.1
 have CY:=hb.2
 obtain ⟨n1,n2⟩:=XD a b
 refine VP.has h ?_
 simp only [lR]
 by_cases h0:a=0∨b=0
 . rw [show a*b=0 from by rcases h0 with e | e<;>rw [e]<;>simp [Rat.zero_mul,Rat.mul_zero]]
   have h3:(decide (a=0)=true/\decide (b=0)=true)∨(decide (a=0)=true/\decide (b=0)=false)∨(decide (a=0)=false/\decide (b=0)=true):=by
     by_cases e1:a=0<;>by_cases e2:b=0<;>simp_all
   rcases h3 with ⟨d3,d4⟩ | ⟨d3,d4⟩ | ⟨d3,d4⟩
   all_goals
     rw [d3] at z1
     rw [d4] at z2
     repeat (first
       | simp (disch:=first | decide | exact rfl) only [SS,DD,Nat.reduceAdd,reduceIte,af,ai,az,ZZ,CC,aW,g0,g1,g2,decide_true,decide_false,dc,CG,bT,bn,z1,z2,bR]
       | with_reducible refine ao (by assumption) (by simp [ag,aq,aj,aa.int,aa.bool,aa.str,aA]) ?_
       | with_reducible refine ay (by assumption) (by simp [ag,aq,aj,aa.int,aa.bool,aa.str,aA]) ?_
       | with_reducible refine And.intro (a:=ab _ _) (by simp [ab,apart]) ?_
       | with_reducible refine VW.aI 3 (VW.of ?_)
       | with_reducible refine b9.next _ (VW.of ?_)
       | rw [au (by exact rfl) (by exact rfl) (by exact rfl) (by exact rfl) (by exact rfl)]
       | rw [bW (by exact rfl) (by exact rfl) (by exact rfl) (by exact rfl)]
       | rw [bX (by exact rfl) (by exact rfl) (by exact rfl) (by exact rfl) (by exact rfl) (by exact rfl)]
       | fail)
     refine ax▸ae (r:=QV 0) ?_ (aj _)
     simp (disch:=decide) only [RS,a8,bg,af,ai,bT]
 rw [aD (fun e=>h0 (.inl e))] at z1
 rw [aD (fun e=>h0 (.inr e))] at z2
 by_cases hdd:(a.den:Int)=1/\(b.den:Int)=1
 . have d3:=aG hdd.1
   have d4:=aG hdd.2
   have h1:=hm a.num b.num (by omega) (by omega)
   have hs:a*b=((a.num*b.num:Int):Rat):=by rw [Rat.intCast_mul, <- zP hdd.1, <- zP hdd.2]
   have e:=GZ (z:=a.num*b.num) (d:=a.den) (q:=a*b) (by rw [hs];rfl) (by rw [hs,hdd.1];rfl)
   repeat (first
     | simp (disch:=first | decide | exact rfl) only [SS,DD,Nat.reduceAdd,reduceIte,af,ai,az,ZZ,CC,aW,g0,g1,g2,decide_true,decide_false,dc,CG,sX,sY,bT,bn,z1,z2,d3,d4,bR,qv,e]
     | with_reducible refine ao (by assumption) (by simp [ag,aq,aj,aa.int,aa.bool,aa.str,aA]) ?_
     | with_reducible refine ay (by assumption) (by simp [ag,aq,aj,aa.int,aa.bool,aa.str,aA]) ?_
     | with_reducible refine And.intro (a:=ab _ _) (by simp [ab,apart]) ?_
     | with_reducible refine VW.aI 3 (VW.of ?_)
     | with_reducible refine b9.next _ (VW.of ?_)
     | rw [au (by exact rfl) (by exact rfl) (by exact rfl) (by exact rfl) (by exact rfl)]
     | rw [bW (by exact rfl) (by exact rfl) (by exact rfl) (by exact rfl)]
     | rw [bX (by exact rfl) (by exact rfl) (by exact rfl) (by exact rfl) (by exact rfl) (by exact rfl)]
     | fail)
   refine ax▸ae (r:=QV (a*b)) ?_ (aj _)
   simp (disch:=decide) only [RS,a8,bg,af,ai,bT]
 have g1:VP P G fg [IV a.num,IV b.den] (IV (Nat.gcd a.num.natAbs b.den:Nat)):=hg a.num b.den (by omega) (by rw [dM];omega)
 have g2:VP P G fg [IV b.num,IV a.den] (IV (Nat.gcd b.num.natAbs a.den:Nat)):=hg b.num a.den (by omega) (by rw [dM];omega)
 have p1:0<Nat.gcd a.num.natAbs b.den:=Nat.gcd_pos_of_pos_right _ b.den_pos
 have p2:0<Nat.gcd b.num.natAbs a.den:=Nat.gcd_pos_of_pos_right _ a.den_pos
 have x1:((Nat.gcd a.num.natAbs b.den:Nat):Int) ∣ a.num:=Int.ofNat_dvd_left.2 (Nat.gcd_dvd_left _ _)
 have x2:((Nat.gcd b.num.natAbs a.den:Nat):Int) ∣ b.num:=Int.ofNat_dvd_left.2 (Nat.gcd_dvd_left _ _)
 have y1:Nat.gcd a.num.natAbs b.den ∣ b.den:=Nat.gcd_dvd_right _ _
 have y2:Nat.gcd b.num.natAbs a.den ∣ a.den:=Nat.gcd_dvd_right _ _
 generalize Nat.gcd a.num.natAbs b.den=g at *
 generalize Nat.gcd b.num.natAbs a.den=k at *
 have l1:ak ((g:Nat):Int).natAbs<=100000:=Nat.le_trans (bJ (Nat.le_of_dvd b.den_pos y1)) CY
 have l2:ak ((k:Nat):Int).natAbs<=100000:=Nat.le_trans (bJ (Nat.le_of_dvd a.den_pos y2)) ha2
 have q1:=hq a.num g (by omega) x1 (by omega) (by omega)
 have q2:=hq b.num k (by omega) x2 (by omega) (by omega)
 have q3:=hq a.den k (by omega) (Int.ofNat_dvd.2 y2) (by rw [dM];omega) (by omega)
 have q4:=hq b.den g (by omega) (Int.ofNat_dvd.2 y1) (by rw [dM];omega) (by omega)
 rw [<- Int.natCast_ediv] at q3 q4
 have m1:=hm (a.num/g) (b.num/k) (Nat.le_trans (bJ (Int.natAbs_ediv_le_natAbs _ _)) (by omega)) (Nat.le_trans (bJ (Int.natAbs_ediv_le_natAbs _ _)) (by omega))
 have m2:=hm ((a.den/k:Nat):Int) ((b.den/g:Nat):Int) (Nat.le_trans (bJ (Nat.div_le_self _ _)) (by omega)) (Nat.le_trans (bJ (Nat.div_le_self _ _)) (by omega))
 have e:=GZ (z:=a.num/g*(b.num/k)) (d:=((a.den/k:Nat):Int)*((b.den/g:Nat):Int)) (q:=a*b) n1 (by rw [n2];exact Int.natCast_mul _ _)
 rcases three _ _ hdd with ⟨d3,d4⟩ | ⟨d3,d4⟩ | ⟨d3,d4⟩
 all_goals
   repeat (first
     | simp (disch:=first | decide | exact rfl) only [SS,DD,Nat.reduceAdd,reduceIte,af,ai,az,ZZ,CC,aW,g0,g1,g2,decide_true,decide_false,dc,CG,sX,sY,bT,bn,z1,z2,d3,d4,bR,bZ,eX,c9,qv,e]
     | with_reducible refine ao (by assumption) (by simp [ag,aq,aj,aa.int,aa.bool,aa.str,aA]) ?_
     | with_reducible refine ay (by assumption) (by simp [ag,aq,aj,aa.int,aa.bool,aa.str,aA]) ?_
     | with_reducible refine And.intro (a:=ab _ _) (by simp [ab,apart]) ?_
     | with_reducible refine VW.aI 3 (VW.of ?_)
     | with_reducible refine b9.next _ (VW.of ?_)
     | rw [au (by exact rfl) (by exact rfl) (by exact rfl) (by exact rfl) (by exact rfl)]
     | rw [bW (by exact rfl) (by exact rfl) (by exact rfl) (by exact rfl)]
     | rw [bX (by exact rfl) (by exact rfl) (by exact rfl) (by exact rfl) (by exact rfl) (by exact rfl)]
     | fail)
   refine ax▸ae (r:=QV (a*b)) ?_ (aj _)
   simp (disch:=decide) only [RS,a8,bg,af,ai,bT]
end
end Go.VL
end

section
set_option linter.unusedSimpArgs false
set_option linter.unusedVariables false
namespace Go.VL
theorem a6 (a b:Rat):aa (.sl 2 [NV a,NV b]):=aa.sl (by intro c hc;simp [flat] at hc;rcases hc with h | h<;>exact G1 _ c h)
theorem cP (a:Rat):aa (.sl 1 [EV a]):=aa.sl (by intro c hc;simp [flat,EV,AV.cells] at hc;subst hc;exact ar a)
theorem N5 {a b:AV}:p7 false (.sl 2 [a,b])=some (.int .i64 2):=rfl
theorem aa9 {a:AV}:p7 false (.sl 1 [a])=some (.int .i64 1):=rfl
theorem aba (a:Rat):part false (EV a).cells 0 1=some (EV a):=rfl
theorem Fh {σ : ah} {id:Id} {a b:Rat} {f t:Bool} (h : σ id=some ⟨[NV a,NV b],2,f⟩):View σ (.osl id 2 0 2 t) (.sl 2 [NV a,NV b]):=Uw h rfl rfl (G1 a) (G1 b)
theorem XP {σ : ah} {id:Id} {a:Rat} {f t:Bool} (h : σ id=some ⟨[EV a],1,f⟩):View σ (.osl id 1 0 1 t) (.sl 1 [EV a]):=NU h rfl (by intro c hc;simp [EV,AV.cells] at hc;subst hc;exact ar a)
section
variable {P:Program} {G:Nat->Option (List AV)}
theorem oP {f:FuncId} (h:Has P f cQ) {es:List AV} (hk:∀ e∈es,e.size=4) (h1:(es.all fun e=>e.cells.all AV.one)=true) (hp:∀ c∈flat es,aa c) (hl:es.length*64<=140737488355328):VP P G f [.sl 4 es] (.sl 4 es):=by
 refine VP.has h ?_
 have hb:∀ (σ : ah) (p:Id),b8 σ p (.buildSl 4 0 (AV.agg [(.bool false), .nils,(.bool false), .nils]) [])=some { val := .tsl 4 [] }:=fun σ p=>bs0 rfl rfl
 cases es with
 | nil =>
   simp only [cQ,SS,Nat.reduceAdd,reduceIte]
   refine ⟨?_, ?_⟩
   . exact ax▸⟨.nils,rfl,View.nils 4⟩
   . simp only [SS,Nat.reduceAdd,reduceIte,hb,oD fX]
     exact ax▸⟨_,rfl,View.WT 4⟩
 | cons e es =>
   simp only [cQ,SS,Nat.reduceAdd,reduceIte,hb]
   rw [nM (es:=[]) fX (by simp) (by simpa using hl) (eC (by simp at hl ⊢;omega)) (by simpa using h1)]
   simp only [SS,Nat.reduceAdd,reduceIte]
   refine ax▸⟨_,rfl,View.osl (bk:=⟨e::es,4,false⟩) rfl rfl (by simp) ?_ (by simp) hk⟩
   simpa using aM.pure hp
theorem RF {f:FuncId} (h:Has P f cQ) (q:Rat):VP P G f [EV q] (EV q) :=
 oP h (by simp [JX]) (by simpa using (of_eq_true (dc q))) (by intro c hc;simp [flat] at hc;exact CE q c hc) (by simp)
theorem abb {f fc fi:FuncId} (h:Has P f (we fc fi)) (q:Rat) (hc:VP P G fc [EV q] (EV q)):VP P G f [.nils,EV q] (EV q):=by
 refine VP.has h ?_
 simp only [we]
 repeat (first
   | simp (disch:=first | decide | exact rfl) only [SS,DD,Nat.reduceAdd,reduceIte,af,ai,az,ZZ,CC,aW,g0,g1,g2,decide_true,decide_false,uo,dF,I4]
   | with_reducible refine ao (by assumption) (by simp [ag,aq,aj,aa.int,aa.bool,aa.str,aA,ar,aw,aL,a6,cP]) ?_
   | with_reducible refine ay (by assumption) (by simp [ag,aq,aj,aa.int,aa.bool,aa.str,aA,ar,aw,aL,a6,cP]) ?_
   | with_reducible refine And.intro (a:=ab _ _) (by simp [ab,apart]) ?_
   | with_reducible refine VW.aI 3 (VW.of ?_)
   | with_reducible refine b9.next _ (VW.of ?_)
   | rw [au (by exact rfl) (by exact rfl) (by exact rfl) (by exact rfl) (by exact rfl)]
   | rw [bW (by exact rfl) (by exact rfl) (by exact rfl) (by exact rfl)]
   | rw [bX (by exact rfl) (by exact rfl) (by exact rfl) (by exact rfl) (by exact rfl) (by exact rfl)]
   | fail)
 exact ax▸ae rfl (ar _)
theorem RG {f fb fe:FuncId} (h:Has P f (qj fb fe)) (a b:Rat) (hb:VP P G fb [.nils, .nils] (.bool true)):VP P G f [.sl 2 [NV a,NV b]] (.tup [.nils, .int .i64 0]):=by
 refine VP.has h ?_
 simp only [qj]
 repeat (first
   | simp (disch:=first | decide | exact rfl) only [SS,DD,Nat.reduceAdd,reduceIte,af,ai,az,ZZ,CC,aW,g0,g1,g2,decide_true,decide_false,N5,L8,Rx,aN,cA,sZ,eM,b6]
   | with_reducible refine ao (by assumption) (by simp [ag,aq,aj,aa.int,aa.bool,aa.str,aA,ar,aw,aL,a6,cP]) ?_
   | with_reducible refine ay (by assumption) (by simp [ag,aq,aj,aa.int,aa.bool,aa.str,aA,ar,aw,aL,a6,cP]) ?_
   | with_reducible refine And.intro (a:=ab _ _) (by simp [ab,apart]) ?_
   | with_reducible refine VW.aI 3 (VW.of ?_)
   | with_reducible refine b9.next _ (VW.of ?_)
   | rw [au (by exact rfl) (by exact rfl) (by exact rfl) (by exact rfl) (by exact rfl)]
   | rw [bW (by exact rfl) (by exact rfl) (by exact rfl) (by exact rfl)]
   | rw [bX (by exact rfl) (by exact rfl) (by exact rfl) (by exact rfl) (by exact rfl) (by exact rfl)]
   | fail)
 exact ax▸ae rfl (aa.tup (by simp [aA,aa.int]))
theorem XQ {f fc fb fp fe fi fd:FuncId} (h:Has P f (tz fc fb fp fe fi fd)) (a b:Rat) (hc:VP P G fc [.sl 2 [NV a,NV b]] (.tup [.nils, .int .i64 0])) (hb:VP P G fb [.nils, .nils] (.bool true))
   (hpa:VP P G fp [.nils,EV a] (EV a)) (hpb:VP P G fp [.nils,EV b] (EV b)) (hda:VP P G fd [NV a] (NV a)) (hdb:VP P G fd [NV b] (NV b)):VP P G f [.sl 2 [NV a,NV b]] (.tup [.sl 2 [NV a,NV b], .int .i64 0]):=by
 refine VP.has h ?_
 simp only [tz]
 repeat (first
   | simp (disch:=first | decide | exact rfl) only [SS,DD,Nat.reduceAdd,reduceIte,af,ai,az,ZZ,CC,aW,g0,g1,g2,decide_true,decide_false,N5,L8,Rx,aN,cA,sZ,vA,eM,b6,P5]
   | with_reducible refine ao (by assumption) (by simp [ag,aq,aj,aa.int,aa.bool,aa.str,aA,ar,aw,aL,a6,cP]) ?_
   | with_reducible refine ay (by assumption) (by simp [ag,aq,aj,aa.int,aa.bool,aa.str,aA,ar,aw,aL,a6,cP]) ?_
   | with_reducible refine And.intro (a:=ab _ _) (by simp [ab,apart]) ?_
   | with_reducible refine VW.aI 3 (VW.of ?_)
   | with_reducible refine b9.next _ (VW.of ?_)
   | rw [au (by exact rfl) (by exact rfl) (by exact rfl) (by exact rfl) (by exact rfl)]
   | rw [bW (by exact rfl) (by exact rfl) (by exact rfl) (by exact rfl)]
   | rw [bX (by exact rfl) (by exact rfl) (by exact rfl) (by exact rfl) (by exact rfl) (by exact rfl)]
   | rw [G2 (by exact rfl)]
   | rw [G3 (by exact rfl)]
   | rw [Bf (by exact rfl) (by decide) (by exact rfl)]
   | rw [Uv (by exact rfl) (by exact rfl) (by decide) (by exact rfl) (by exact rfl)]
   | fail)
 refine ax▸⟨_,rfl,View.tup (.cons (Fh (by exact rfl)) (.cons (View.pure (aa.int _ _)) .nil))⟩
theorem Bg {f fj fo:FuncId} (h:Has P f (pw fj)) (a b c:Rat) (hj:VP P G fj [.sl 2 [NV a,NV b]] (.tup [.sl 2 [NV a,NV b], .int .i64 0])) (ho:VP P G fo [.nils,EV a,EV b] (EV c)) :
   VP P G f [NV a,NV b, .fn (.func fo) [] []] (.tup [NV c, .int .i64 0]):=by
 refine VP.has h ?_
 simp only [pw]
 repeat (first
   | simp (disch:=first | decide | exact rfl) only [SS,DD,Nat.reduceAdd,reduceIte,af,ai,az,ZZ,CC,aW,g0,g1,g2,decide_true,decide_false,eM,cA,sZ,vA,b6,L8,Rx,aN,CF,I6]
   | with_reducible refine ao (by assumption) (by simp [ag,aq,aj,aa.int,aa.bool,aa.str,aA,ar,aw,aL,a6,cP]) ?_
   | with_reducible refine ay (by assumption) (by simp [ag,aq,aj,aa.int,aa.bool,aa.str,aA,ar,aw,aL,a6,cP]) ?_
   | with_reducible refine And.intro (a:=ab _ _) (by simp [ab,apart]) ?_
   | with_reducible refine VW.aI 3 (VW.of ?_)
   | with_reducible refine b9.next _ (VW.of ?_)
   | rw [au (by exact rfl) (by exact rfl) (by exact rfl) (by exact rfl) (by exact rfl)]
   | rw [bW (by exact rfl) (by exact rfl) (by exact rfl) (by exact rfl)]
   | rw [bX (by exact rfl) (by exact rfl) (by exact rfl) (by exact rfl) (by exact rfl) (by exact rfl)]
   | refine bG [([6],⟨[NV a,NV b],2,false⟩)] hj (aM.cons (Fh (by exact rfl)) aM.nil) (by simp [ah.put]) ?_
   | fail)
 refine ax▸ae (r := .tup [NV c, .int .i64 0]) ?_ (aa.tup (by simp [aw,aa.int]))
 simp only [RS,a8,bg,ai,cA]
theorem XR {f fc fo:FuncId} (h:Has P f (wi fc fo)) (a b c:Rat) (hc:VP P G fc [NV a,NV b, .fn (.func fo) [] []] (.tup [NV c, .int .i64 0])):VP P G f [NV a,NV b] (.tup [NV c, .int .i64 0]):=by
 refine VP.has h ?_
 simp only [wi]
 repeat (first
   | simp (disch:=first | decide | exact rfl) only [SS,DD,Nat.reduceAdd,reduceIte,af,ai,az,ZZ,CC,aW,g0,g1,g2,decide_true,decide_false,eM,cA,b6]
   | with_reducible refine ao (by assumption) (by simp [ag,aq,aj,aa.int,aa.bool,aa.str,aA,ar,aw,aL,a6,cP]) ?_
   | with_reducible refine ay (by assumption) (by simp [ag,aq,aj,aa.int,aa.bool,aa.str,aA,ar,aw,aL,a6,cP]) ?_
   | with_reducible refine And.intro (a:=ab _ _) (by simp [ab,apart]) ?_
   | with_reducible refine VW.aI 3 (VW.of ?_)
   | with_reducible refine b9.next _ (VW.of ?_)
   | rw [au (by exact rfl) (by exact rfl) (by exact rfl) (by exact rfl) (by exact rfl)]
   | rw [bW (by exact rfl) (by exact rfl) (by exact rfl) (by exact rfl)]
   | rw [bX (by exact rfl) (by exact rfl) (by exact rfl) (by exact rfl) (by exact rfl) (by exact rfl)]
   | fail)
 refine ax▸ae (r := .tup [NV c, .int .i64 0]) ?_ (aa.tup (by simp [aw,aa.int]))
 simp only [RS,a8,bg,ai,cA]
theorem XS {f fc fo:FuncId} (h:Has P f (wj fc fo)) (a b c:Rat) (hc:VP P G fc [NV a,NV b, .fn (.func fo) [] []] (.tup [NV c, .int .i64 0])):VP P G f [NV a,NV b] (.tup [NV c, .int .i64 0]):=by
 refine VP.has h ?_
 simp only [wj]
 repeat (first
   | simp (disch:=first | decide | exact rfl) only [SS,DD,Nat.reduceAdd,reduceIte,af,ai,az,ZZ,CC,aW,g0,g1,g2,decide_true,decide_false,eM,cA,b6]
   | with_reducible refine ao (by assumption) (by simp [ag,aq,aj,aa.int,aa.bool,aa.str,aA,ar,aw,aL,a6,cP]) ?_
   | with_reducible refine ay (by assumption) (by simp [ag,aq,aj,aa.int,aa.bool,aa.str,aA,ar,aw,aL,a6,cP]) ?_
   | with_reducible refine And.intro (a:=ab _ _) (by simp [ab,apart]) ?_
   | with_reducible refine VW.aI 3 (VW.of ?_)
   | with_reducible refine b9.next _ (VW.of ?_)
   | rw [au (by exact rfl) (by exact rfl) (by exact rfl) (by exact rfl) (by exact rfl)]
   | rw [bW (by exact rfl) (by exact rfl) (by exact rfl) (by exact rfl)]
   | rw [bX (by exact rfl) (by exact rfl) (by exact rfl) (by exact rfl) (by exact rfl) (by exact rfl)]
   | fail)
 refine ax▸ae (r := .tup [NV c, .int .i64 0]) ?_ (aa.tup (by simp [aw,aa.int]))
 simp only [RS,a8,bg,ai,cA]
theorem XT {f fc fo:FuncId} (h:Has P f (wm fc fo)) (a b c:Rat) (hc:VP P G fc [NV a,NV b, .fn (.func fo) [] []] (.tup [NV c, .int .i64 0])):VP P G f [NV a,NV b] (.tup [NV c, .int .i64 0]):=by
 refine VP.has h ?_
 simp only [wm]
 repeat (first
   | simp (disch:=first | decide | exact rfl) only [SS,DD,Nat.reduceAdd,reduceIte,af,ai,az,ZZ,CC,aW,g0,g1,g2,decide_true,decide_false,eM,cA,b6]
   | with_reducible refine ao (by assumption) (by simp [ag,aq,aj,aa.int,aa.bool,aa.str,aA,ar,aw,aL,a6,cP]) ?_
   | with_reducible refine ay (by assumption) (by simp [ag,aq,aj,aa.int,aa.bool,aa.str,aA,ar,aw,aL,a6,cP]) ?_
   | with_reducible refine And.intro (a:=ab _ _) (by simp [ab,apart]) ?_
   | with_reducible refine VW.aI 3 (VW.of ?_)
   | with_reducible refine b9.next _ (VW.of ?_)
   | rw [au (by exact rfl) (by exact rfl) (by exact rfl) (by exact rfl) (by exact rfl)]
   | rw [bW (by exact rfl) (by exact rfl) (by exact rfl) (by exact rfl)]
   | rw [bX (by exact rfl) (by exact rfl) (by exact rfl) (by exact rfl) (by exact rfl) (by exact rfl)]
   | fail)
 refine ax▸ae (r := .tup [NV c, .int .i64 0]) ?_ (aa.tup (by simp [aw,aa.int]))
 simp only [RS,a8,bg,ai,cA]
theorem XU {f fd fn:FuncId} (h:Has P f (wo fd fn)) (a:Rat) (hd:VP P G fd [NV a] (NV a)) (hn:VP P G fn [.nils,EV a] (EV (-a))):VP P G f [NV a] (NV (-a)):=by
 refine VP.has h ?_
 simp only [wo]
 repeat (first
   | simp (disch:=first | decide | exact rfl) only [SS,DD,Nat.reduceAdd,reduceIte,af,ai,az,ZZ,CC,aW,g0,g1,g2,decide_true,decide_false,eM,cA,sZ,vA,b6]
   | with_reducible refine ao (by assumption) (by simp [ag,aq,aj,aa.int,aa.bool,aa.str,aA,ar,aw,aL,a6,cP]) ?_
   | with_reducible refine ay (by assumption) (by simp [ag,aq,aj,aa.int,aa.bool,aa.str,aA,ar,aw,aL,a6,cP]) ?_
   | with_reducible refine And.intro (a:=ab _ _) (by simp [ab,apart]) ?_
   | with_reducible refine VW.aI 3 (VW.of ?_)
   | with_reducible refine b9.next _ (VW.of ?_)
   | rw [au (by exact rfl) (by exact rfl) (by exact rfl) (by exact rfl) (by exact rfl)]
   | rw [bW (by exact rfl) (by exact rfl) (by exact rfl) (by exact rfl)]
   | rw [bX (by exact rfl) (by exact rfl) (by exact rfl) (by exact rfl) (by exact rfl) (by exact rfl)]
   | rw [G3 (by exact rfl)]
   | fail)
 refine ax▸ae (r:=NV (-a)) ?_ (aw _)
 simp only [RS,a8,bg,ai,cA]
theorem XV {f fi fm:FuncId} (h:Has P f (wq fi fm)) (a b c:Rat) (hi:VP P G fi [.nils,EV b] (.tup [EV (1/b), .int .i64 0])) (hm:VP P G fm [NV a,NV (1/b)] (.tup [NV c, .int .i64 0])):VP P G f [NV a,NV b] (.tup [NV c, .int .i64 0]):=by
 refine VP.has h ?_
 simp only [wq]
 repeat (first
   | simp (disch:=first | decide | exact rfl) only [SS,DD,Nat.reduceAdd,reduceIte,af,ai,az,ZZ,CC,aW,g0,g1,g2,decide_true,decide_false,eM,cA,sZ,vA,b6,CF,I6]
   | with_reducible refine ao (by assumption) (by simp [ag,aq,aj,aa.int,aa.bool,aa.str,aA,ar,aw,aL,a6,cP]) ?_
   | with_reducible refine ay (by assumption) (by simp [ag,aq,aj,aa.int,aa.bool,aa.str,aA,ar,aw,aL,a6,cP]) ?_
   | with_reducible refine And.intro (a:=ab _ _) (by simp [ab,apart]) ?_
   | with_reducible refine VW.aI 3 (VW.of ?_)
   | with_reducible refine b9.next _ (VW.of ?_)
   | rw [au (by exact rfl) (by exact rfl) (by exact rfl) (by exact rfl) (by exact rfl)]
   | rw [bW (by exact rfl) (by exact rfl) (by exact rfl) (by exact rfl)]
   | rw [bX (by exact rfl) (by exact rfl) (by exact rfl) (by exact rfl) (by exact rfl) (by exact rfl)]
   | fail)
 refine ax▸ae (r := .tup [NV c, .int .i64 0]) ?_ (aa.tup (by simp [aw,aa.int]))
 simp only [RS,a8,bg,ai,cA]
theorem UG {f fs:FuncId} (h:Has P f (tE fs)) (a:Rat) (hs:VP P G fs [.nils,EV a] (.int .i64 (dm a))):VP P G f [NV a] (.int .i64 (dm a)):=by
 refine VP.has h ?_
 simp only [tE]
 repeat (first
   | simp (disch:=first | decide | exact rfl) only [SS,DD,Nat.reduceAdd,reduceIte,af,ai,az,ZZ,CC,aW,g0,g1,g2,decide_true,decide_false,eM,sZ,vA]
   | with_reducible refine ao (by assumption) (by simp [ag,aq,aj,aa.int,aa.bool,aa.str,aA,ar,aw,aL,a6,cP]) ?_
   | with_reducible refine ay (by assumption) (by simp [ag,aq,aj,aa.int,aa.bool,aa.str,aA,ar,aw,aL,a6,cP]) ?_
   | with_reducible refine And.intro (a:=ab _ _) (by simp [ab,apart]) ?_
   | with_reducible refine VW.aI 3 (VW.of ?_)
   | with_reducible refine b9.next _ (VW.of ?_)
   | rw [au (by exact rfl) (by exact rfl) (by exact rfl) (by exact rfl) (by exact rfl)]
   | rw [bW (by exact rfl) (by exact rfl) (by exact rfl) (by exact rfl)]
   | rw [bX (by exact rfl) (by exact rfl) (by exact rfl) (by exact rfl) (by exact rfl) (by exact rfl)]
   | fail)
 exact ax▸ae rfl (aa.int _ _)
theorem RH {f f1 f2 f3 f4 f5 f6 f7:FuncId} (h:Has P f (rp f1 f2 f3 f4 f5 f6 f7)) (a b:Rat) (h1:VP P G f1 [.nils, .nils] (.bool true)) (h2:VP P G f2 [EV a,EV b] (.bool (decide (a=b)))):VP P G f [NV a,NV b] (.bool (decide (a=b))):=by
 refine VP.has h ?_
 simp only [rp]
 repeat (first
   | simp (disch:=first | decide | exact rfl) only [SS,DD,Nat.reduceAdd,reduceIte,af,ai,az,ZZ,CC,aW,g0,g1,g2,decide_true,decide_false,eM,sZ,vA]
   | with_reducible refine ao (by assumption) (by simp [ag,aq,aj,aa.int,aa.bool,aa.str,aA,ar,aw,aL,a6,cP]) ?_
   | with_reducible refine ay (by assumption) (by simp [ag,aq,aj,aa.int,aa.bool,aa.str,aA,ar,aw,aL,a6,cP]) ?_
   | with_reducible refine And.intro (a:=ab _ _) (by simp [ab,apart]) ?_
   | with_reducible refine VW.aI 3 (VW.of ?_)
   | with_reducible refine b9.next _ (VW.of ?_)
   | rw [au (by exact rfl) (by exact rfl) (by exact rfl) (by exact rfl) (by exact rfl)]
   | rw [bW (by exact rfl) (by exact rfl) (by exact rfl) (by exact rfl)]
   | rw [bX (by exact rfl) (by exact rfl) (by exact rfl) (by exact rfl) (by exact rfl) (by exact rfl)]
   | fail)
 exact ax▸ae rfl (aa.bool _)
theorem RI {f fi:FuncId} (h:Has P f (pL fi)) (hi:VP P G fi [.int .i64 0] (QV 0)) (p:Id):bc P G f [.int .i64 1] p [] { val := .osl (2::p) 4 0 1 false,rd:=[],up:=[(2::p,some ⟨[QV 0],4,false⟩)] }:=by
 refine bc.has h ?_
 simp only [pL]
 repeat (first
   | simp (disch:=first | decide | exact rfl) only [SS,DD,Nat.reduceAdd,reduceIte,af,ai,az,ZZ,CC,aW,g0,g1,g2,decide_true,decide_false,JW,L9]
   | with_reducible refine ao (by assumption) (by simp [ag,aq,aj,aa.int,aa.bool,aa.str,aA,ar,aw,aL,a6,cP]) ?_
   | with_reducible refine ay (by assumption) (by simp [ag,aq,aj,aa.int,aa.bool,aa.str,aA,ar,aw,aL,a6,cP]) ?_
   | with_reducible refine And.intro (a:=ab _ _) (by simp [ab,apart]) ?_
   | with_reducible refine VW.aI 3 (VW.of ?_)
   | with_reducible refine b9.next _ (VW.of ?_)
   | rw [au (by exact rfl) (by exact rfl) (by exact rfl) (by exact rfl) (by exact rfl)]
   | rw [bW (by exact rfl) (by exact rfl) (by exact rfl) (by exact rfl)]
   | rw [bX (by exact rfl) (by exact rfl) (by exact rfl) (by exact rfl) (by exact rfl) (by exact rfl)]
   | rw [au bb (by exact rfl) (by exact rfl) (by exact rfl) (by exact rfl)]
   | fail)
 refine eh▸bK (by simp [a8,bg]) fun i => ?_
 by_cases hi:i=2::p
 . right;subst hi;simp [ah.app,ah.put]
 . left;simp [ah.app,ah.put,hi,ah.of]
theorem Me {f f1 f2 f3 fi:FuncId} (h:Has P f (qf f1 f2 f3)) (q:Rat) (h1:VP P G f1 [.nils] (.bool true)) (h2:VP P G f2 [QV q] (.bool true)) (h3:Has P f3 (pL fi)) (hi:VP P G fi [.int .i64 0] (QV 0)):VP P G f [.nils,QV q] (EV q):=by
 refine VP.has h ?_
 simp only [qf]
 repeat (first
   | simp (disch:=first | decide | exact rfl) only [SS,DD,Nat.reduceAdd,reduceIte,af,ai,az,ZZ,CC,aW,g0,g1,g2,decide_true,decide_false,dc,bT,dF,I4,L9]
   | with_reducible refine ao (by assumption) (by simp [ag,aq,aj,aa.int,aa.bool,aa.str,aA,ar,aw,aL,a6,cP]) ?_
   | with_reducible refine ay (by assumption) (by simp [ag,aq,aj,aa.int,aa.bool,aa.str,aA,ar,aw,aL,a6,cP]) ?_
   | with_reducible refine And.intro (a:=ab _ _) (by simp [ab,apart]) ?_
   | with_reducible refine VW.aI 3 (VW.of ?_)
   | with_reducible refine b9.next _ (VW.of ?_)
   | rw [au (by exact rfl) (by exact rfl) (by exact rfl) (by exact rfl) (by exact rfl)]
   | rw [bW (by exact rfl) (by exact rfl) (by exact rfl) (by exact rfl)]
   | rw [bX (by exact rfl) (by exact rfl) (by exact rfl) (by exact rfl) (by exact rfl) (by exact rfl)]
   | refine ⟨_,_,RI h3 hi _,by simp,by simp, ?_⟩
   | fail)
 refine ax▸⟨_,rfl,qw (by exact rfl)⟩
theorem XW {f ff fr:FuncId} (h:Has P f (yJ ff fr)) (a:Rat) (hf:VP P G ff [.nils,EV a] (.bool true)) (hr:VP P G fr [.nils] (.bool true)):VP P G f [.nils, .sl 1 [EV a]] (.bool true):=by
 refine VP.has h ?_
 simp only [yJ]
 repeat (first
   | simp (disch:=first | decide | exact rfl) only [SS,DD,Nat.reduceAdd,reduceIte,af,ai,az,ZZ,CC,aW,g0,g1,g2,decide_true,decide_false,aa9,L8,aN,aba]
   | with_reducible refine ao (by assumption) (by simp [ag,aq,aj,aa.int,aa.bool,aa.str,aA,ar,aw,aL,a6,cP]) ?_
   | with_reducible refine ay (by assumption) (by simp [ag,aq,aj,aa.int,aa.bool,aa.str,aA,ar,aw,aL,a6,cP]) ?_
   | with_reducible refine And.intro (a:=ab _ _) (by simp [ab,apart]) ?_
   | with_reducible refine VW.aI 3 (VW.of ?_)
   | with_reducible refine b9.next _ (VW.of ?_)
   | rw [au (by exact rfl) (by exact rfl) (by exact rfl) (by exact rfl) (by exact rfl)]
   | rw [bW (by exact rfl) (by exact rfl) (by exact rfl) (by exact rfl)]
   | rw [bX (by exact rfl) (by exact rfl) (by exact rfl) (by exact rfl) (by exact rfl) (by exact rfl)]
   | fail)
 exact ax▸ae rfl (aa.bool _)
theorem XX {f f1 f2 f3 f4:FuncId} (h:Has P f (yK f1 f2 f3 f4)) (h1:VP P G f1 [.int .i64 0] (QV 0)) (h2:VP P G f2 [.nils,QV 0] (EV 0)) (h3:VP P G f3 [.nils,EV 0] (.bool true)):VP P G f [.nils] (.bool true):=by
 refine VP.has h ?_
 simp only [yK]
 repeat (first
   | simp (disch:=first | decide | exact rfl) only [SS,DD,Nat.reduceAdd,reduceIte,af,ai,az,ZZ,CC,aW,g0,g1,g2,decide_true,decide_false,dF]
   | with_reducible refine ao (by assumption) (by simp [ag,aq,aj,aa.int,aa.bool,aa.str,aA,ar,aw,aL,a6,cP]) ?_
   | with_reducible refine ay (by assumption) (by simp [ag,aq,aj,aa.int,aa.bool,aa.str,aA,ar,aw,aL,a6,cP]) ?_
   | with_reducible refine And.intro (a:=ab _ _) (by simp [ab,apart]) ?_
   | with_reducible refine VW.aI 3 (VW.of ?_)
   | with_reducible refine b9.next _ (VW.of ?_)
   | rw [au (by exact rfl) (by exact rfl) (by exact rfl) (by exact rfl) (by exact rfl)]
   | rw [bW (by exact rfl) (by exact rfl) (by exact rfl) (by exact rfl)]
   | rw [bX (by exact rfl) (by exact rfl) (by exact rfl) (by exact rfl) (by exact rfl) (by exact rfl)]
   | fail)
 exact ax▸ae rfl (aa.bool _)
theorem UH {f f1 f3 f4:FuncId} (h:Has P f (wu f1 f f3 f4)) (a:Rat) (h1:VP P G f1 [QV a] (.int .i64 (dm a))):VP P G f [.nils,EV a] (.int .i64 (dm a)):=by
 refine VP.has h ?_
 simp only [wu]
 repeat (first
   | simp (disch:=first | decide | exact rfl) only [SS,DD,Nat.reduceAdd,reduceIte,af,ai,az,ZZ,CC,aW,g0,g1,g2,decide_true,decide_false,dF,vz,aN,bT]
   | with_reducible refine ao (by assumption) (by simp [ag,aq,aj,aa.int,aa.bool,aa.str,aA,ar,aw,aL,a6,cP]) ?_
   | with_reducible refine ay (by assumption) (by simp [ag,aq,aj,aa.int,aa.bool,aa.str,aA,ar,aw,aL,a6,cP]) ?_
   | with_reducible refine And.intro (a:=ab _ _) (by simp [ab,apart]) ?_
   | with_reducible refine VW.aI 3 (VW.of ?_)
   | with_reducible refine b9.next _ (VW.of ?_)
   | rw [au (by exact rfl) (by exact rfl) (by exact rfl) (by exact rfl) (by exact rfl)]
   | rw [bW (by exact rfl) (by exact rfl) (by exact rfl) (by exact rfl)]
   | rw [bX (by exact rfl) (by exact rfl) (by exact rfl) (by exact rfl) (by exact rfl) (by exact rfl)]
   | fail)
 exact ax▸ae rfl (aa.int _ _)
theorem UI {f fg fv:FuncId} (h:Has P f (yL fg fv)) (a:Rat) (hg:VP P G fg [.nils, .sl 1 [EV a]] (.bool true)) (hv:VP P G fv [.nils,EV a] (.int .i64 (dm a))):VP P G f [.nils,EV a] (.int .i64 (dm a)):=by
 refine VP.has h ?_
 simp only [yL]
 repeat (first
   | simp (disch:=first | decide | exact rfl) only [SS,DD,Nat.reduceAdd,reduceIte,af,ai,az,ZZ,CC,aW,g0,g1,g2,decide_true,decide_false]
   | with_reducible refine ao (by assumption) (by simp [ag,aq,aj,aa.int,aa.bool,aa.str,aA,ar,aw,aL,a6,cP]) ?_
   | with_reducible refine ay (by assumption) (by simp [ag,aq,aj,aa.int,aa.bool,aa.str,aA,ar,aw,aL,a6,cP]) ?_
   | with_reducible refine And.intro (a:=ab _ _) (by simp [ab,apart]) ?_
   | with_reducible refine VW.aI 3 (VW.of ?_)
   | with_reducible refine b9.next _ (VW.of ?_)
   | rw [au (by exact rfl) (by exact rfl) (by exact rfl) (by exact rfl) (by exact rfl)]
   | rw [bW (by exact rfl) (by exact rfl) (by exact rfl) (by exact rfl)]
   | rw [bX (by exact rfl) (by exact rfl) (by exact rfl) (by exact rfl) (by exact rfl) (by exact rfl)]
   | refine bG [([3],⟨[EV a],1,false⟩)] hg (aM.cons (View.pure aA) (aM.cons (XP (by exact rfl)) aM.nil)) (by simp [ah.put]) ?_
   | fail)
 exact ax▸ae rfl (aa.int _ _)
end
end Go.VL
end

section
set_option linter.unusedSimpArgs false
set_option linter.unusedVariables false
namespace Go.VL
theorem abc {σ : ah} {p:Id} {q:Rat}:eu σ p 4 64 (.tsl 4 []) (EV q)=some { val := .osl p 4 0 1 false,rd:=[],up:=[(p,some ⟨[QV q],4,false⟩)] } :=
 nM (es:=[]) (ys:=[QV q]) fX (by simp) (by simp) (eC (by simp)) (by simpa using of_eq_true (dc q))
theorem ahp {σ : ah} {p:Id}:b8 σ p (.buildSl 4 0 (.agg [.bool false, .nils, .bool false, .nils]) [])=some { val := .tsl 4 [] }:=bs0 rfl rfl
theorem ahq:decide ((0:Int)<=8)=true:=rfl
section
variable {P:Program} {G:Nat->Option (List AV)}
theorem N6 {f fv:FuncId} (h:Has P f (j8 fv)) (q:Rat) (hv:VP P G fv [QV q] (.bool true)):VP P G f [EV q, .int .i64 1] (.bool true):=by
 have d1:decide ((1:Int)=1)=true:=rfl
 refine VP.has h ?_
 simp only [j8]
 repeat (first
   | simp (disch:=first | decide | exact rfl) only [SS,DD,Nat.reduceAdd,reduceIte,af,ai,az,ZZ,CC,aW,g0,g1,g2,decide_true,decide_false,uo,vz,aN,bT,d1]
   | with_reducible refine ao (by assumption) (by simp [ag,aq,aj,aa.int,aa.bool,aa.str,aA,ar,aw,a6]) ?_
   | with_reducible refine ay (by assumption) (by simp [ag,aq,aj,aa.int,aa.bool,aa.str,aA,ar,aw,a6]) ?_
   | with_reducible refine And.intro (a:=ab _ _) (by simp [ab,apart]) ?_
   | with_reducible refine VW.aI 3 (VW.of ?_)
   | with_reducible refine b9.next _ (VW.of ?_)
   | rw [au (by exact rfl) (by exact rfl) (by exact rfl) (by exact rfl) (by exact rfl)]
   | rw [bW (by exact rfl) (by exact rfl) (by exact rfl) (by exact rfl)]
   | rw [bX (by exact rfl) (by exact rfl) (by exact rfl) (by exact rfl) (by exact rfl) (by exact rfl)]
   | fail)
 exact ax▸ae rfl (aa.bool _)
theorem N7 {f fr:FuncId} (h:Has P f (j9 fr)):VP P G f [.nils] (.bool true):=by
 refine VP.has h ?_
 simp only [j9]
 repeat (first
   | simp (disch:=first | decide | exact rfl) only [SS,DD,Nat.reduceAdd,reduceIte,af,ai,az,ZZ,CC,aW,g0,g1,g2,decide_true,decide_false,dF]
   | with_reducible refine ao (by assumption) (by simp [ag,aq,aj,aa.int,aa.bool,aa.str,aA,ar,aw,a6]) ?_
   | with_reducible refine ay (by assumption) (by simp [ag,aq,aj,aa.int,aa.bool,aa.str,aA,ar,aw,a6]) ?_
   | with_reducible refine And.intro (a:=ab _ _) (by simp [ab,apart]) ?_
   | with_reducible refine VW.aI 3 (VW.of ?_)
   | with_reducible refine b9.next _ (VW.of ?_)
   | rw [au (by exact rfl) (by exact rfl) (by exact rfl) (by exact rfl) (by exact rfl)]
   | rw [bW (by exact rfl) (by exact rfl) (by exact rfl) (by exact rfl)]
   | rw [bX (by exact rfl) (by exact rfl) (by exact rfl) (by exact rfl) (by exact rfl) (by exact rfl)]
   | fail)
 exact ax▸ae rfl (aa.bool _)
theorem Mf {f ft fr:FuncId} (h:Has P f (jG ft fr)) (q:Rat) (ht:VP P G ft [.nils] (.bool true)) (hr:VP P G fr [EV q, .int .i64 1] (.bool true)):VP P G f [.nils,EV q] (.bool true):=by
 refine VP.has h ?_
 simp only [jG]
 repeat (first
   | simp (disch:=first | decide | exact rfl) only [SS,DD,Nat.reduceAdd,reduceIte,af,ai,az,ZZ,CC,aW,g0,g1,g2,decide_true,decide_false,I4,dF]
   | with_reducible refine ao (by assumption) (by simp [ag,aq,aj,aa.int,aa.bool,aa.str,aA,ar,aw,a6]) ?_
   | with_reducible refine ay (by assumption) (by simp [ag,aq,aj,aa.int,aa.bool,aa.str,aA,ar,aw,a6]) ?_
   | with_reducible refine And.intro (a:=ab _ _) (by simp [ab,apart]) ?_
   | with_reducible refine VW.aI 3 (VW.of ?_)
   | with_reducible refine b9.next _ (VW.of ?_)
   | rw [au (by exact rfl) (by exact rfl) (by exact rfl) (by exact rfl) (by exact rfl)]
   | rw [bW (by exact rfl) (by exact rfl) (by exact rfl) (by exact rfl)]
   | rw [bX (by exact rfl) (by exact rfl) (by exact rfl) (by exact rfl) (by exact rfl) (by exact rfl)]
   | fail)
 exact ax▸ae rfl (aa.bool _)
theorem UJ {f fa:FuncId} (h:Has P f (lY fa)) (a b:Rat) (hA:VP P G fa [QV a,QV b] (QV (a+b))):VP P G f [.nils,EV a,EV b] (EV (a+b)):=by
 refine VP.has h ?_
 simp only [lY]
 repeat (first
   | simp (disch:=first | decide | exact rfl) only [SS,DD,Nat.reduceAdd,reduceIte,af,ai,az,ZZ,CC,aW,g0,g1,g2,decide_true,decide_false,uo,vz,aN,bT,dc,bR]
   | with_reducible refine ao (by assumption) (by simp [ag,aq,aj,aa.int,aa.bool,aa.str,aA,ar,aw,a6]) ?_
   | with_reducible refine ay (by assumption) (by simp [ag,aq,aj,aa.int,aa.bool,aa.str,aA,ar,aw,a6]) ?_
   | with_reducible refine And.intro (a:=ab _ _) (by simp [ab,apart]) ?_
   | with_reducible refine VW.aI 3 (VW.of ?_)
   | with_reducible refine b9.next _ (VW.of ?_)
   | rw [au (by exact rfl) (by exact rfl) (by exact rfl) (by exact rfl) (by exact rfl)]
   | rw [bW (by exact rfl) (by exact rfl) (by exact rfl) (by exact rfl)]
   | rw [bX (by exact rfl) (by exact rfl) (by exact rfl) (by exact rfl) (by exact rfl) (by exact rfl)]
   | rw [Bf (by exact rfl) (by decide) (by exact rfl)]
   | fail)
 refine ax▸⟨_,rfl,qw (by exact rfl)⟩
theorem UK {f fa:FuncId} (h:Has P f (lZ fa)) (a:Rat) (hA:VP P G fa [QV a] (QV (-a))):VP P G f [.nils,EV a] (EV (-a)):=by
 refine VP.has h ?_
 simp only [lZ]
 repeat (first
   | simp (disch:=first | decide | exact rfl) only [SS,DD,Nat.reduceAdd,reduceIte,af,ai,az,ZZ,CC,aW,g0,g1,g2,decide_true,decide_false,uo,vz,aN,bT,dc,bR]
   | with_reducible refine ao (by assumption) (by simp [ag,aq,aj,aa.int,aa.bool,aa.str,aA,ar,aw,a6]) ?_
   | with_reducible refine ay (by assumption) (by simp [ag,aq,aj,aa.int,aa.bool,aa.str,aA,ar,aw,a6]) ?_
   | with_reducible refine And.intro (a:=ab _ _) (by simp [ab,apart]) ?_
   | with_reducible refine VW.aI 3 (VW.of ?_)
   | with_reducible refine b9.next _ (VW.of ?_)
   | rw [au (by exact rfl) (by exact rfl) (by exact rfl) (by exact rfl) (by exact rfl)]
   | rw [bW (by exact rfl) (by exact rfl) (by exact rfl) (by exact rfl)]
   | rw [bX (by exact rfl) (by exact rfl) (by exact rfl) (by exact rfl) (by exact rfl) (by exact rfl)]
   | rw [Bf (by exact rfl) (by decide) (by exact rfl)]
   | fail)
 refine ax▸⟨_,rfl,qw (by exact rfl)⟩
theorem UL {f f1 f2 f3 f4 f5:FuncId} (h:Has P f (l4 f1 f2 f f3 f4 f5)) (a b:Rat) (hm:VP P G f1 [QV a,QV b] (QV (a*b))):VP P G f [.nils,EV a,EV b] (EV (a*b)):=by
 refine VP.has h ?_
 simp only [l4]
 repeat (first
   | simp (disch:=first | decide | exact rfl) only [SS,DD,Nat.reduceAdd,reduceIte,af,ai,az,ZZ,CC,aW,g0,g1,g2,decide_true,decide_false,dF,vz,aN,bT]
   | with_reducible refine ao (by assumption) (by simp [ag,aq,aj,aa.int,aa.bool,aa.str,aA,ar,aw,a6]) ?_
   | with_reducible refine ay (by assumption) (by simp [ag,aq,aj,aa.int,aa.bool,aa.str,aA,ar,aw,a6]) ?_
   | with_reducible refine And.intro (a:=ab _ _) (by simp [ab,apart]) ?_
   | with_reducible refine VW.aI 3 (VW.of ?_)
   | with_reducible refine b9.next _ (VW.of ?_)
   | rw [au (by exact rfl) (by exact rfl) (by exact rfl) (by exact rfl) (by exact rfl)]
   | rw [bW (by exact rfl) (by exact rfl) (by exact rfl) (by exact rfl)]
   | rw [bX (by exact rfl) (by exact rfl) (by exact rfl) (by exact rfl) (by exact rfl) (by exact rfl)]
   | fail)
 refine ax▸⟨_,rfl,qw (by exact rfl)⟩
theorem RJ {f f1 f3:FuncId} (h:Has P f (kS f1 f f3)) (a:Rat) (h1:VP P G f1 [QV a] (.int .i64 (dm a))):VP P G f [.nils,EV a] (.int .i64 (dm a)):=by
 refine VP.has h ?_
 simp only [kS]
 repeat (first
   | simp (disch:=first | decide | exact rfl) only [SS,DD,Nat.reduceAdd,reduceIte,af,ai,az,ZZ,CC,aW,g0,g1,g2,decide_true,decide_false,dF,vz,aN,bT]
   | with_reducible refine ao (by assumption) (by simp [ag,aq,aj,aa.int,aa.bool,aa.str,aA,ar,aw,a6]) ?_
   | with_reducible refine ay (by assumption) (by simp [ag,aq,aj,aa.int,aa.bool,aa.str,aA,ar,aw,a6]) ?_
   | with_reducible refine And.intro (a:=ab _ _) (by simp [ab,apart]) ?_
   | with_reducible refine VW.aI 3 (VW.of ?_)
   | with_reducible refine b9.next _ (VW.of ?_)
   | rw [au (by exact rfl) (by exact rfl) (by exact rfl) (by exact rfl) (by exact rfl)]
   | rw [bW (by exact rfl) (by exact rfl) (by exact rfl) (by exact rfl)]
   | rw [bX (by exact rfl) (by exact rfl) (by exact rfl) (by exact rfl) (by exact rfl) (by exact rfl)]
   | fail)
 exact ax▸ae rfl (aa.int _ _)
theorem RL {f f1:FuncId} (h:Has P f (kT f1)) (a:Rat) (h1:VP P G f1 [.nils,EV a] (.int .i64 (dm a))):VP P G f [.nils,EV a] (.int .i64 (dm a)):=by
 refine VP.has h ?_
 simp only [kT]
 repeat (first
   | simp (disch:=first | decide | exact rfl) only [SS,DD,Nat.reduceAdd,reduceIte,af,ai,az,ZZ,CC,aW,g0,g1,g2,decide_true,decide_false]
   | with_reducible refine ao (by assumption) (by simp [ag,aq,aj,aa.int,aa.bool,aa.str,aA,ar,aw,a6]) ?_
   | with_reducible refine ay (by assumption) (by simp [ag,aq,aj,aa.int,aa.bool,aa.str,aA,ar,aw,a6]) ?_
   | with_reducible refine And.intro (a:=ab _ _) (by simp [ab,apart]) ?_
   | with_reducible refine VW.aI 3 (VW.of ?_)
   | with_reducible refine b9.next _ (VW.of ?_)
   | rw [au (by exact rfl) (by exact rfl) (by exact rfl) (by exact rfl) (by exact rfl)]
   | rw [bW (by exact rfl) (by exact rfl) (by exact rfl) (by exact rfl)]
   | rw [bX (by exact rfl) (by exact rfl) (by exact rfl) (by exact rfl) (by exact rfl) (by exact rfl)]
   | fail)
 exact ax▸ae rfl (aa.int _ _)
theorem J0 {f f1 f2 f3:FuncId} (h:Has P f (je f1 f2 f3)):VP P G f [.nils] (.bool true):=by
 refine VP.has h ?_
 simp only [je]
 repeat (first
   | simp (disch:=first | decide | exact rfl) only [SS,DD,Nat.reduceAdd,reduceIte,af,ai,az,ZZ,CC,aW,g0,g1,g2,decide_true,decide_false,dF]
   | with_reducible refine ao (by assumption) (by simp [ag,aq,aj,aa.int,aa.bool,aa.str,aA,ar,aw,a6]) ?_
   | with_reducible refine ay (by assumption) (by simp [ag,aq,aj,aa.int,aa.bool,aa.str,aA,ar,aw,a6]) ?_
   | with_reducible refine And.intro (a:=ab _ _) (by simp [ab,apart]) ?_
   | with_reducible refine VW.aI 3 (VW.of ?_)
   | with_reducible refine b9.next _ (VW.of ?_)
   | rw [au (by exact rfl) (by exact rfl) (by exact rfl) (by exact rfl) (by exact rfl)]
   | rw [bW (by exact rfl) (by exact rfl) (by exact rfl) (by exact rfl)]
   | rw [bX (by exact rfl) (by exact rfl) (by exact rfl) (by exact rfl) (by exact rfl) (by exact rfl)]
   | fail)
 exact ax▸ae rfl (aa.bool _)
theorem J1 {f:FuncId} (h:Has P f jf) (q:Rat):VP P G f [QV q] (NV q):=by
 refine VP.has h ?_
 simp only [jf]
 repeat (first
   | simp (disch:=first | decide | exact rfl) only [SS,DD,Nat.reduceAdd,reduceIte,af,ai,az,ZZ,CC,aW,g0,g1,g2,decide_true,decide_false,dc,bT,b6,bR,P4]
   | with_reducible refine ao (by assumption) (by simp [ag,aq,aj,aa.int,aa.bool,aa.str,aA,ar,aw,a6]) ?_
   | with_reducible refine ay (by assumption) (by simp [ag,aq,aj,aa.int,aa.bool,aa.str,aA,ar,aw,a6]) ?_
   | with_reducible refine And.intro (a:=ab _ _) (by simp [ab,apart]) ?_
   | with_reducible refine VW.aI 3 (VW.of ?_)
   | with_reducible refine b9.next _ (VW.of ?_)
   | rw [au (by exact rfl) (by exact rfl) (by exact rfl) (by exact rfl) (by exact rfl)]
   | rw [bW (by exact rfl) (by exact rfl) (by exact rfl) (by exact rfl)]
   | rw [bX (by exact rfl) (by exact rfl) (by exact rfl) (by exact rfl) (by exact rfl) (by exact rfl)]
   | fail)
 refine ax▸⟨.agg [.nils, .osl [3] 4 0 1 false], ?_,UB (by exact rfl)⟩
 simp only [RS,a8,bg,ai]
 rfl
theorem J2 {f fi ff:FuncId} (h:Has P f (jg fi ff)) (a:Int) (hi:VP P G fi [.int .i64 a] (QV a)) (hf:VP P G ff [QV a] (NV a)):VP P G f [.int .i64 a] (NV a):=by
 refine VP.has h ?_
 simp only [jg]
 repeat (first
   | simp (disch:=first | decide | exact rfl) only [SS,DD,Nat.reduceAdd,reduceIte,af,ai,az,ZZ,CC,aW,g0,g1,g2,decide_true,decide_false,b6]
   | with_reducible refine ao (by assumption) (by simp [ag,aq,aj,aa.int,aa.bool,aa.str,aA,ar,aw,a6]) ?_
   | with_reducible refine ay (by assumption) (by simp [ag,aq,aj,aa.int,aa.bool,aa.str,aA,ar,aw,a6]) ?_
   | with_reducible refine And.intro (a:=ab _ _) (by simp [ab,apart]) ?_
   | with_reducible refine VW.aI 3 (VW.of ?_)
   | with_reducible refine b9.next _ (VW.of ?_)
   | rw [au (by exact rfl) (by exact rfl) (by exact rfl) (by exact rfl) (by exact rfl)]
   | rw [bW (by exact rfl) (by exact rfl) (by exact rfl) (by exact rfl)]
   | rw [bX (by exact rfl) (by exact rfl) (by exact rfl) (by exact rfl) (by exact rfl) (by exact rfl)]
   | fail)
 refine ax▸ae (r:=NV a) ?_ (aw _)
 simp only [RS,a8,bg,ai,cA]
theorem Mg {f fs:FuncId} (h:Has P f (jI fs)):VP P G f [.nils, .nils] (.bool true):=by
 refine VP.has h ?_
 simp only [jI]
 repeat (first
   | simp (disch:=first | decide | exact rfl) only [SS,DD,Nat.reduceAdd,reduceIte,af,ai,az,ZZ,CC,aW,g0,g1,g2,decide_true,decide_false,dF]
   | with_reducible refine ao (by assumption) (by simp [ag,aq,aj,aa.int,aa.bool,aa.str,aA,ar,aw,a6]) ?_
   | with_reducible refine ay (by assumption) (by simp [ag,aq,aj,aa.int,aa.bool,aa.str,aA,ar,aw,a6]) ?_
   | with_reducible refine And.intro (a:=ab _ _) (by simp [ab,apart]) ?_
   | with_reducible refine VW.aI 3 (VW.of ?_)
   | with_reducible refine b9.next _ (VW.of ?_)
   | rw [au (by exact rfl) (by exact rfl) (by exact rfl) (by exact rfl) (by exact rfl)]
   | rw [bW (by exact rfl) (by exact rfl) (by exact rfl) (by exact rfl)]
   | rw [bX (by exact rfl) (by exact rfl) (by exact rfl) (by exact rfl) (by exact rfl) (by exact rfl)]
   | fail)
 exact ax▸ae rfl (aa.bool _)
theorem I7 {f fi:FuncId} (h:Has P f (kU fi)) (q:Rat):VP P G f [.nils,EV q] (EV q):=by
 refine VP.has h ?_
 simp only [kU]
 repeat (first
   | simp (disch:=first | decide | exact rfl) only [SS,DD,Nat.reduceAdd,reduceIte,af,ai,az,ZZ,CC,aW,g0,g1,g2,decide_true,decide_false,dF,I4,ahp,abc,aa8]
   | with_reducible refine ao (by assumption) (by simp [ag,aq,aj,aa.int,aa.bool,aa.str,aA,ar,aw,a6]) ?_
   | with_reducible refine ay (by assumption) (by simp [ag,aq,aj,aa.int,aa.bool,aa.str,aA,ar,aw,a6]) ?_
   | with_reducible refine And.intro (a:=ab _ _) (by simp [ab,apart]) ?_
   | with_reducible refine VW.aI 3 (VW.of ?_)
   | with_reducible refine b9.next _ (VW.of ?_)
   | rw [au (by exact rfl) (by exact rfl) (by exact rfl) (by exact rfl) (by exact rfl)]
   | rw [bW (by exact rfl) (by exact rfl) (by exact rfl) (by exact rfl)]
   | rw [bX (by exact rfl) (by exact rfl) (by exact rfl) (by exact rfl) (by exact rfl) (by exact rfl)]
   | fail)
 refine ax▸⟨_,rfl,qw (by exact rfl)⟩
theorem RM {f fb fe fl fi:FuncId} (h:Has P f (kV fb fe fl fi)) (a b:Rat) (hb:VP P G fb [.nils, .nils] (.bool true)) (h1:VP P G fl [.nils,EV a] (EV a)) (h2:VP P G fl [.nils,EV b] (EV b)) :
   VP P G f [.sl 2 [NV a,NV b]] (.tup [.sl 2 [NV a,NV b], .int .i64 0]):=by
 refine VP.has h ?_
 simp only [kV]
 repeat (first
   | simp (disch:=first | decide | exact rfl) only [SS,DD,Nat.reduceAdd,reduceIte,af,ai,az,ZZ,CC,aW,g0,g1,g2,decide_true,decide_false,N5,dF,L8,Rx,aN,cA,sZ,vA,eM,b6,P5]
   | with_reducible refine ao (by assumption) (by simp [ag,aq,aj,aa.int,aa.bool,aa.str,aA,ar,aw,a6]) ?_
   | with_reducible refine ay (by assumption) (by simp [ag,aq,aj,aa.int,aa.bool,aa.str,aA,ar,aw,a6]) ?_
   | with_reducible refine And.intro (a:=ab _ _) (by simp [ab,apart]) ?_
   | with_reducible refine VW.aI 3 (VW.of ?_)
   | with_reducible refine b9.next _ (VW.of ?_)
   | rw [au (by exact rfl) (by exact rfl) (by exact rfl) (by exact rfl) (by exact rfl)]
   | rw [bW (by exact rfl) (by exact rfl) (by exact rfl) (by exact rfl)]
   | rw [bX (by exact rfl) (by exact rfl) (by exact rfl) (by exact rfl) (by exact rfl) (by exact rfl)]
   | rw [G2 (by exact rfl)]
   | rw [G3 (by exact rfl)]
   | rw [Bf (by exact rfl) (by decide) (by exact rfl)]
   | rw [Uv (by exact rfl) (by exact rfl) (by decide) (by exact rfl) (by exact rfl)]
   | fail)
 refine ax▸⟨_,rfl,View.tup (.cons (Fh (by exact rfl)) (.cons (View.pure (aa.int _ _)) .nil))⟩
theorem UM {f fj:FuncId} (h:Has P f (l5 fj)) (a b:Rat) (hj:VP P G fj [.sl 2 [NV a,NV b]] (.tup [.sl 2 [NV a,NV b], .int .i64 0])):VP P G f [NV a,NV b] (.tup [NV a,NV b, .int .i64 0]):=by
 refine VP.has h ?_
 simp only [l5]
 repeat (first
   | simp (disch:=first | decide | exact rfl) only [SS,DD,Nat.reduceAdd,reduceIte,af,ai,az,ZZ,CC,aW,g0,g1,g2,decide_true,decide_false,eM,cA,b6,L8,Rx,aN]
   | with_reducible refine ao (by assumption) (by simp [ag,aq,aj,aa.int,aa.bool,aa.str,aA,ar,aw,a6]) ?_
   | with_reducible refine ay (by assumption) (by simp [ag,aq,aj,aa.int,aa.bool,aa.str,aA,ar,aw,a6]) ?_
   | with_reducible refine And.intro (a:=ab _ _) (by simp [ab,apart]) ?_
   | with_reducible refine VW.aI 3 (VW.of ?_)
   | with_reducible refine b9.next _ (VW.of ?_)
   | rw [au (by exact rfl) (by exact rfl) (by exact rfl) (by exact rfl) (by exact rfl)]
   | rw [bW (by exact rfl) (by exact rfl) (by exact rfl) (by exact rfl)]
   | rw [bX (by exact rfl) (by exact rfl) (by exact rfl) (by exact rfl) (by exact rfl) (by exact rfl)]
   | refine bG [([7],⟨[NV a,NV b],2,false⟩)] hj (aM.cons (Fh (by exact rfl)) aM.nil) (by simp [ah.put]) ?_
   | fail)
 refine ax▸ae (r := .tup [NV a,NV b, .int .i64 0]) ?_ (aa.tup (by simp [aw,aa.int]))
 simp (disch:=decide) only [RS,a8,bg,af,ai,cA]
theorem UN {f f2 f6:FuncId} (h:Has P f (l6 f2 f6)) (a b:Rat) (h2:VP P G f2 [NV a,NV b] (.tup [NV a,NV b, .int .i64 0])) (h6:VP P G f6 [.nils,EV a,EV b] (EV (a+b))):VP P G f [NV a,NV b] (.tup [NV (a+b), .int .i64 0]):=by
 refine VP.has h ?_
 simp only [l6]
 repeat (first
   | simp (disch:=first | decide | exact rfl) only [SS,DD,Nat.reduceAdd,reduceIte,af,ai,az,ZZ,CC,aW,g0,g1,g2,decide_true,decide_false,eM,cA,sZ,vA,b6,CF,I6]
   | with_reducible refine ao (by assumption) (by simp [ag,aq,aj,aa.int,aa.bool,aa.str,aA,ar,aw,a6]) ?_
   | with_reducible refine ay (by assumption) (by simp [ag,aq,aj,aa.int,aa.bool,aa.str,aA,ar,aw,a6]) ?_
   | with_reducible refine And.intro (a:=ab _ _) (by simp [ab,apart]) ?_
   | with_reducible refine VW.aI 3 (VW.of ?_)
   | with_reducible refine b9.next _ (VW.of ?_)
   | rw [au (by exact rfl) (by exact rfl) (by exact rfl) (by exact rfl) (by exact rfl)]
   | rw [bW (by exact rfl) (by exact rfl) (by exact rfl) (by exact rfl)]
   | rw [bX (by exact rfl) (by exact rfl) (by exact rfl) (by exact rfl) (by exact rfl) (by exact rfl)]
   | fail)
 refine ax▸ae (r := .tup [NV (a+b), .int .i64 0]) ?_ (aa.tup (by simp [aw,aa.int]))
 simp (disch:=decide) only [RS,a8,bg,af,ai,cA]
theorem UO {f f2 f6:FuncId} (h:Has P f (ma f2 f6)) (a b:Rat) (h2:VP P G f2 [NV a,NV b] (.tup [NV a,NV b, .int .i64 0])) (h6:VP P G f6 [.nils,EV a,EV b] (EV (a*b))):VP P G f [NV a,NV b] (.tup [NV (a*b), .int .i64 0]):=by
 refine VP.has h ?_
 simp only [ma]
 repeat (first
   | simp (disch:=first | decide | exact rfl) only [SS,DD,Nat.reduceAdd,reduceIte,af,ai,az,ZZ,CC,aW,g0,g1,g2,decide_true,decide_false,eM,cA,sZ,vA,b6,CF,I6]
   | with_reducible refine ao (by assumption) (by simp [ag,aq,aj,aa.int,aa.bool,aa.str,aA,ar,aw,a6]) ?_
   | with_reducible refine ay (by assumption) (by simp [ag,aq,aj,aa.int,aa.bool,aa.str,aA,ar,aw,a6]) ?_
   | with_reducible refine And.intro (a:=ab _ _) (by simp [ab,apart]) ?_
   | with_reducible refine VW.aI 3 (VW.of ?_)
   | with_reducible refine b9.next _ (VW.of ?_)
   | rw [au (by exact rfl) (by exact rfl) (by exact rfl) (by exact rfl) (by exact rfl)]
   | rw [bW (by exact rfl) (by exact rfl) (by exact rfl) (by exact rfl)]
   | rw [bX (by exact rfl) (by exact rfl) (by exact rfl) (by exact rfl) (by exact rfl) (by exact rfl)]
   | fail)
 refine ax▸ae (r := .tup [NV (a*b), .int .i64 0]) ?_ (aa.tup (by simp [aw,aa.int]))
 simp (disch:=decide) only [RS,a8,bg,af,ai,cA]
theorem UQ {f f6:FuncId} (h:Has P f (l8 f6)) (a:Rat) (h6:VP P G f6 [.nils,EV a] (EV (-a))):VP P G f [NV a] (NV (-a)):=by
 refine VP.has h ?_
 simp only [l8]
 repeat (first
   | simp (disch:=first | decide | exact rfl) only [SS,DD,Nat.reduceAdd,reduceIte,af,ai,az,ZZ,CC,aW,g0,g1,g2,decide_true,decide_false,eM,cA,sZ,vA,b6,CF,I6]
   | with_reducible refine ao (by assumption) (by simp [ag,aq,aj,aa.int,aa.bool,aa.str,aA,ar,aw,a6]) ?_
   | with_reducible refine ay (by assumption) (by simp [ag,aq,aj,aa.int,aa.bool,aa.str,aA,ar,aw,a6]) ?_
   | with_reducible refine And.intro (a:=ab _ _) (by simp [ab,apart]) ?_
   | with_reducible refine VW.aI 3 (VW.of ?_)
   | with_reducible refine b9.next _ (VW.of ?_)
   | rw [au (by exact rfl) (by exact rfl) (by exact rfl) (by exact rfl) (by exact rfl)]
   | rw [bW (by exact rfl) (by exact rfl) (by exact rfl) (by exact rfl)]
   | rw [bX (by exact rfl) (by exact rfl) (by exact rfl) (by exact rfl) (by exact rfl) (by exact rfl)]
   | fail)
 refine ax▸ae (r:=NV (-a)) ?_ (aw _)
 simp (disch:=decide) only [RS,a8,bg,af,ai,cA]
theorem UR {f fn fa:FuncId} (h:Has P f (l9 fn fa)) (a b:Rat) (hn:VP P G fn [NV b] (NV (-b))) (ha:VP P G fa [NV a,NV (-b)] (.tup [NV (a + -b), .int .i64 0])):VP P G f [NV a,NV b] (.tup [NV (a-b), .int .i64 0]):=by
 rw [<- Rat.sub_eq_add_neg] at ha
 refine VP.has h ?_
 simp only [l9]
 repeat (first
   | simp (disch:=first | decide | exact rfl) only [SS,DD,Nat.reduceAdd,reduceIte,af,ai,az,ZZ,CC,aW,g0,g1,g2,decide_true,decide_false,eM,cA,b6]
   | with_reducible refine ao (by assumption) (by simp [ag,aq,aj,aa.int,aa.bool,aa.str,aA,ar,aw,a6]) ?_
   | with_reducible refine ay (by assumption) (by simp [ag,aq,aj,aa.int,aa.bool,aa.str,aA,ar,aw,a6]) ?_
   | with_reducible refine And.intro (a:=ab _ _) (by simp [ab,apart]) ?_
   | with_reducible refine VW.aI 3 (VW.of ?_)
   | with_reducible refine b9.next _ (VW.of ?_)
   | rw [au (by exact rfl) (by exact rfl) (by exact rfl) (by exact rfl) (by exact rfl)]
   | rw [bW (by exact rfl) (by exact rfl) (by exact rfl) (by exact rfl)]
   | rw [bX (by exact rfl) (by exact rfl) (by exact rfl) (by exact rfl) (by exact rfl) (by exact rfl)]
   | fail)
 refine ax▸ae (r := .tup [NV (a-b), .int .i64 0]) ?_ (aa.tup (by simp [aw,aa.int]))
 simp (disch:=decide) only [RS,a8,bg,af,ai,cA]
theorem RN {f f7:FuncId} (h:Has P f (kW f7)) (a:Rat) (h7:VP P G f7 [.nils,EV a] (.int .i64 (dm a))):VP P G f [NV a] (.int .i64 (dm a)):=by
 refine VP.has h ?_
 simp only [kW]
 repeat (first
   | simp (disch:=first | decide | exact rfl) only [SS,DD,Nat.reduceAdd,reduceIte,af,ai,az,ZZ,CC,aW,g0,g1,g2,decide_true,decide_false,eM,sZ,vA]
   | with_reducible refine ao (by assumption) (by simp [ag,aq,aj,aa.int,aa.bool,aa.str,aA,ar,aw,a6]) ?_
   | with_reducible refine ay (by assumption) (by simp [ag,aq,aj,aa.int,aa.bool,aa.str,aA,ar,aw,a6]) ?_
   | with_reducible refine And.intro (a:=ab _ _) (by simp [ab,apart]) ?_
   | with_reducible refine VW.aI 3 (VW.of ?_)
   | with_reducible refine b9.next _ (VW.of ?_)
   | rw [au (by exact rfl) (by exact rfl) (by exact rfl) (by exact rfl) (by exact rfl)]
   | rw [bW (by exact rfl) (by exact rfl) (by exact rfl) (by exact rfl)]
   | rw [bX (by exact rfl) (by exact rfl) (by exact rfl) (by exact rfl) (by exact rfl) (by exact rfl)]
   | fail)
 exact ax▸ae rfl (aa.int _ _)
theorem UT {f fs fg:FuncId} (h:Has P f (mb fs fg)) (a b:Rat) (hs:VP P G fs [NV a,NV b] (.tup [NV (a-b), .int .i64 0])) (hg:VP P G fg [NV (a-b)] (.int .i64 (dm (a-b)))):VP P G f [NV a,NV b] (.tup [.int .i64 (dm (a-b)), .int .i64 0]):=by
 refine VP.has h ?_
 simp only [mb]
 repeat (first
   | simp (disch:=first | decide | exact rfl) only [SS,DD,Nat.reduceAdd,reduceIte,af,ai,az,ZZ,CC,aW,g0,g1,g2,decide_true,decide_false,eM,cA,b6]
   | with_reducible refine ao (by assumption) (by simp [ag,aq,aj,aa.int,aa.bool,aa.str,aA,ar,aw,a6]) ?_
   | with_reducible refine ay (by assumption) (by simp [ag,aq,aj,aa.int,aa.bool,aa.str,aA,ar,aw,a6]) ?_
   | with_reducible refine And.intro (a:=ab _ _) (by simp [ab,apart]) ?_
   | with_reducible refine VW.aI 3 (VW.of ?_)
   | with_reducible refine b9.next _ (VW.of ?_)
   | rw [au (by exact rfl) (by exact rfl) (by exact rfl) (by exact rfl) (by exact rfl)]
   | rw [bW (by exact rfl) (by exact rfl) (by exact rfl) (by exact rfl)]
   | rw [bX (by exact rfl) (by exact rfl) (by exact rfl) (by exact rfl) (by exact rfl) (by exact rfl)]
   | fail)
 exact ax▸ae rfl (aa.tup (by simp [aa.int]))
theorem N8 {f fc:FuncId} (h:Has P f (ke fc)) (a b:Rat) (hc:VP P G fc [NV a,NV b] (.tup [.int .i64 (dm (a-b)), .int .i64 0])):VP P G f [NV a,NV b] (.bool (decide (a=b))):=by
 have e:decide (dm (a-b)=0)=decide (a=b):=by
   congr 1;apply propext
   rw [GY];grind
 refine VP.has h ?_
 simp only [ke]
 repeat (first
   | simp (disch:=first | decide | exact rfl) only [SS,DD,Nat.reduceAdd,reduceIte,af,ai,az,ZZ,CC,aW,g0,g1,g2,decide_true,decide_false,eM,cA,b6,e]
   | with_reducible refine ao (by assumption) (by simp [ag,aq,aj,aa.int,aa.bool,aa.str,aA,ar,aw,a6]) ?_
   | with_reducible refine ay (by assumption) (by simp [ag,aq,aj,aa.int,aa.bool,aa.str,aA,ar,aw,a6]) ?_
   | with_reducible refine And.intro (a:=ab _ _) (by simp [ab,apart]) ?_
   | with_reducible refine VW.aI 3 (VW.of ?_)
   | with_reducible refine b9.next _ (VW.of ?_)
   | rw [au (by exact rfl) (by exact rfl) (by exact rfl) (by exact rfl) (by exact rfl)]
   | rw [bW (by exact rfl) (by exact rfl) (by exact rfl) (by exact rfl)]
   | rw [bX (by exact rfl) (by exact rfl) (by exact rfl) (by exact rfl) (by exact rfl) (by exact rfl)]
   | fail)
 exact ax▸ae rfl (aa.bool _)
theorem N9 {f f6 f8:FuncId} (h:Has P f (kf f6 f8)) (a:Rat) (h6:VP P G f6 [.nils,EV a] (.bool true)) (h8:VP P G f8 [.nils] (.bool true)):VP P G f [NV a] (.bool true):=by
 refine VP.has h ?_
 simp only [kf]
 repeat (first
   | simp (disch:=first | decide | exact rfl) only [SS,DD,Nat.reduceAdd,reduceIte,af,ai,az,ZZ,CC,aW,g0,g1,g2,decide_true,decide_false,eM,sZ,vA,dF,ahq]
   | with_reducible refine ao (by assumption) (by simp [ag,aq,aj,aa.int,aa.bool,aa.str,aA,ar,aw,a6]) ?_
   | with_reducible refine ay (by assumption) (by simp [ag,aq,aj,aa.int,aa.bool,aa.str,aA,ar,aw,a6]) ?_
   | with_reducible refine And.intro (a:=ab _ _) (by simp [ab,apart]) ?_
   | with_reducible refine VW.aI 3 (VW.of ?_)
   | with_reducible refine b9.next _ (VW.of ?_)
   | rw [au (by exact rfl) (by exact rfl) (by exact rfl) (by exact rfl) (by exact rfl)]
   | rw [bW (by exact rfl) (by exact rfl) (by exact rfl) (by exact rfl)]
   | rw [bX (by exact rfl) (by exact rfl) (by exact rfl) (by exact rfl) (by exact rfl) (by exact rfl)]
   | fail)
 exact ax▸ae rfl (aa.bool _)
end
end Go.VL
end

section
set_option linter.unusedSimpArgs false
set_option linter.unusedVariables false
namespace Go.VL
abbrev Q2:=Rat × Rat
def V2 (v:Q2):AV := .agg [.nils,EV v.1, .nils,EV v.2]
theorem aB (v:Q2):aa (V2 v):=aa.agg (by intro c hc;simp at hc;rcases hc with rfl | rfl | rfl | rfl;exact aa.nils;exact ar _;exact aa.nils;exact ar _)
theorem fE (v:Q2):((V2 v).cells.all AV.one=true)=True:=by simp [V2,AV.cells,AV.one,EV]
theorem CH (v:Q2):part true (V2 v).cells 0 2=some (NV v.1):=rfl
theorem CI (v:Q2):part true (V2 v).cells 2 2=some (NV v.2):=rfl
theorem cC (v:Q2):part true (V2 v).cells 0 4=some (V2 v):=rfl
theorem cz:((AV.cells (.agg [.nils, .nils, .nils, .nils])).all AV.one=true)=True:=by simp [AV.cells,AV.one]
theorem Bh (x y:Rat):iN [.nils, .nils, .nils, .nils] [(0,(2,NV x)),(2,(2,NV y))]=some [.nils,EV x, .nils,EV y]:=rfl
theorem Er (x y:Rat):AV.agg [.nils,EV x, .nils,EV y]=V2 (x,y):=rfl
def rW (a b:Q2):Rat:=a.1*b.1+a.2*b.2
def gv (a b:Q2):Q2:=(a.1+b.1,a.2+b.2)
def jq (a b:Q2):Q2:=(a.1-b.1,a.2-b.2)
def CJ (a:Q2):Q2:=(-a.1, -a.2)
def ga (a:Q2) (n:Rat):Q2:=(a.1*n,a.2*n)
section
variable {P:Program} {G:Nat->Option (List AV)}
theorem UU {f ff:FuncId} (h:Has P f (tG ff)) (v:Q2) (h1:VP P G ff [QV v.1] (NV v.1)) (h2:VP P G ff [QV v.2] (NV v.2)):VP P G f [QV v.1,QV v.2] (V2 v):=by
 refine VP.has h ?_
 simp only [tG]
 repeat (first
   | simp (disch:=first | decide | exact rfl) only [SS,DD,Nat.reduceAdd,reduceIte,af,ai,az,ZZ,CC,aW,g0,g1,g2,decide_true,decide_false,dc,bT,cz,Bh]
   | with_reducible refine ao (by assumption) (by simp [ag,aq,aj,aa.int,aa.bool,aa.str,aA,ar,aw,aB,aL]) ?_
   | with_reducible refine ay (by assumption) (by simp [ag,aq,aj,aa.int,aa.bool,aa.str,aA,ar,aw,aB,aL]) ?_
   | with_reducible refine And.intro (a:=ab _ _) (by simp [ab,apart]) ?_
   | with_reducible refine VW.aI 3 (VW.of ?_)
   | with_reducible refine b9.next _ (VW.of ?_)
   | rw [au (by exact rfl) (by exact rfl) (by exact rfl) (by exact rfl) (by exact rfl)]
   | rw [bW (by exact rfl) (by exact rfl) (by exact rfl) (by exact rfl)]
   | rw [bX (by exact rfl) (by exact rfl) (by exact rfl) (by exact rfl) (by exact rfl) (by exact rfl)]
   | fail)
 refine ax▸ae (r:=V2 v) ?_ (aB _)
 simp (disch:=decide) only [RS,a8,bg,af,ai,Er,cC]
theorem CK {f fo:FuncId} (h:Has P f tH) (a b c:Q2) (h1:VP P G fo [NV a.1,NV b.1] (.tup [NV c.1, .int .i64 0])) (h2:VP P G fo [NV a.2,NV b.2] (.tup [NV c.2, .int .i64 0])):VP P G f [V2 a,V2 b, .fn (.func fo) [] []] (.tup [V2 c, .int .i64 0]):=by
 refine VP.has h ?_
 simp only [tH]
 repeat (first
   | simp (disch:=first | decide | exact rfl) only [SS,DD,Nat.reduceAdd,reduceIte,af,ai,az,ZZ,CC,aW,g0,g1,g2,decide_true,decide_false,fE,CH,CI,eM,cA,b6,cz,Bh]
   | with_reducible refine ao (by assumption) (by simp [ag,aq,aj,aa.int,aa.bool,aa.str,aA,ar,aw,aB,aL]) ?_
   | with_reducible refine ay (by assumption) (by simp [ag,aq,aj,aa.int,aa.bool,aa.str,aA,ar,aw,aB,aL]) ?_
   | with_reducible refine And.intro (a:=ab _ _) (by simp [ab,apart]) ?_
   | with_reducible refine VW.aI 3 (VW.of ?_)
   | with_reducible refine b9.next _ (VW.of ?_)
   | rw [au (by exact rfl) (by exact rfl) (by exact rfl) (by exact rfl) (by exact rfl)]
   | rw [bW (by exact rfl) (by exact rfl) (by exact rfl) (by exact rfl)]
   | rw [bX (by exact rfl) (by exact rfl) (by exact rfl) (by exact rfl) (by exact rfl) (by exact rfl)]
   | fail)
 refine ax▸ae (r := .tup [V2 c, .int .i64 0]) ?_ (aa.tup (by simp [aB,aa.int]))
 simp (disch:=decide) only [RS,a8,bg,af,ai,Er,cC]
theorem XY {f fb fo:FuncId} (h:Has P f (wv fb fo)) (a b c:Q2) (hb:VP P G fb [V2 a,V2 b, .fn (.func fo) [] []] (.tup [V2 c, .int .i64 0])):VP P G f [V2 a,V2 b] (.tup [V2 c, .int .i64 0]):=by
 refine VP.has h ?_
 simp only [wv]
 repeat (first
   | simp (disch:=first | decide | exact rfl) only [SS,DD,Nat.reduceAdd,reduceIte,af,ai,az,ZZ,CC,aW,g0,g1,g2,decide_true,decide_false,fE,cC,cz]
   | with_reducible refine ao (by assumption) (by simp [ag,aq,aj,aa.int,aa.bool,aa.str,aA,ar,aw,aB,aL]) ?_
   | with_reducible refine ay (by assumption) (by simp [ag,aq,aj,aa.int,aa.bool,aa.str,aA,ar,aw,aB,aL]) ?_
   | with_reducible refine And.intro (a:=ab _ _) (by simp [ab,apart]) ?_
   | with_reducible refine VW.aI 3 (VW.of ?_)
   | with_reducible refine b9.next _ (VW.of ?_)
   | rw [au (by exact rfl) (by exact rfl) (by exact rfl) (by exact rfl) (by exact rfl)]
   | rw [bW (by exact rfl) (by exact rfl) (by exact rfl) (by exact rfl)]
   | rw [bX (by exact rfl) (by exact rfl) (by exact rfl) (by exact rfl) (by exact rfl) (by exact rfl)]
   | fail)
 refine ax▸ae (r := .tup [V2 c, .int .i64 0]) ?_ (aa.tup (by simp [aB,aa.int]))
 simp (disch:=decide) only [RS,a8,bg,af,ai,cC]
theorem XZ {f fb fo:FuncId} (h:Has P f (wz fb fo)) (a b c:Q2) (hb:VP P G fb [V2 a,V2 b, .fn (.func fo) [] []] (.tup [V2 c, .int .i64 0])):VP P G f [V2 a,V2 b] (.tup [V2 c, .int .i64 0]):=by
 refine VP.has h ?_
 simp only [wz]
 repeat (first
   | simp (disch:=first | decide | exact rfl) only [SS,DD,Nat.reduceAdd,reduceIte,af,ai,az,ZZ,CC,aW,g0,g1,g2,decide_true,decide_false,fE,cC,cz]
   | with_reducible refine ao (by assumption) (by simp [ag,aq,aj,aa.int,aa.bool,aa.str,aA,ar,aw,aB,aL]) ?_
   | with_reducible refine ay (by assumption) (by simp [ag,aq,aj,aa.int,aa.bool,aa.str,aA,ar,aw,aB,aL]) ?_
   | with_reducible refine And.intro (a:=ab _ _) (by simp [ab,apart]) ?_
   | with_reducible refine VW.aI 3 (VW.of ?_)
   | with_reducible refine b9.next _ (VW.of ?_)
   | rw [au (by exact rfl) (by exact rfl) (by exact rfl) (by exact rfl) (by exact rfl)]
   | rw [bW (by exact rfl) (by exact rfl) (by exact rfl) (by exact rfl)]
   | rw [bX (by exact rfl) (by exact rfl) (by exact rfl) (by exact rfl) (by exact rfl) (by exact rfl)]
   | fail)
 refine ax▸ae (r := .tup [V2 c, .int .i64 0]) ?_ (aa.tup (by simp [aB,aa.int]))
 simp (disch:=decide) only [RS,a8,bg,af,ai,cC]
theorem RO {f fb fo:FuncId} (h:Has P f (rq fb fo)) (a c:Q2) (n:Rat) (hb:VP P G fb [V2 a,V2 (n,n), .fn (.func fo) [] []] (.tup [V2 c, .int .i64 0])):VP P G f [V2 a,NV n] (.tup [V2 c, .int .i64 0]):=by
 refine VP.has h ?_
 simp only [rq]
 repeat (first
   | simp (disch:=first | decide | exact rfl) only [SS,DD,Nat.reduceAdd,reduceIte,af,ai,az,ZZ,CC,aW,g0,g1,g2,decide_true,decide_false,fE,cC,eM,cA,cz,Bh,Er]
   | with_reducible refine ao (by assumption) (by simp [ag,aq,aj,aa.int,aa.bool,aa.str,aA,ar,aw,aB,aL]) ?_
   | with_reducible refine ay (by assumption) (by simp [ag,aq,aj,aa.int,aa.bool,aa.str,aA,ar,aw,aB,aL]) ?_
   | with_reducible refine And.intro (a:=ab _ _) (by simp [ab,apart]) ?_
   | with_reducible refine VW.aI 3 (VW.of ?_)
   | with_reducible refine b9.next _ (VW.of ?_)
   | rw [au (by exact rfl) (by exact rfl) (by exact rfl) (by exact rfl) (by exact rfl)]
   | rw [bW (by exact rfl) (by exact rfl) (by exact rfl) (by exact rfl)]
   | rw [bX (by exact rfl) (by exact rfl) (by exact rfl) (by exact rfl) (by exact rfl) (by exact rfl)]
   | fail)
 refine ax▸ae (r := .tup [V2 c, .int .i64 0]) ?_ (aa.tup (by simp [aB,aa.int]))
 simp (disch:=decide) only [RS,a8,bg,af,ai,cC]
theorem Oa {f ff:FuncId} (h:Has P f (kZ ff)) (v:Q2) (h1:VP P G ff [QV v.1] (NV v.1)) (h2:VP P G ff [QV v.2] (NV v.2)):VP P G f [QV v.1,QV v.2] (V2 v):=by
 refine VP.has h ?_
 simp only [kZ]
 repeat (first
   | simp (disch:=first | decide | exact rfl) only [SS,DD,Nat.reduceAdd,reduceIte,af,ai,az,ZZ,CC,aW,g0,g1,g2,decide_true,decide_false,dc,bT,cz,Bh]
   | with_reducible refine ao (by assumption) (by simp [ag,aq,aj,aa.int,aa.bool,aa.str,aA,ar,aw,aB,aL]) ?_
   | with_reducible refine ay (by assumption) (by simp [ag,aq,aj,aa.int,aa.bool,aa.str,aA,ar,aw,aB,aL]) ?_
   | with_reducible refine And.intro (a:=ab _ _) (by simp [ab,apart]) ?_
   | with_reducible refine VW.aI 3 (VW.of ?_)
   | with_reducible refine b9.next _ (VW.of ?_)
   | rw [au (by exact rfl) (by exact rfl) (by exact rfl) (by exact rfl) (by exact rfl)]
   | rw [bW (by exact rfl) (by exact rfl) (by exact rfl) (by exact rfl)]
   | rw [bX (by exact rfl) (by exact rfl) (by exact rfl) (by exact rfl) (by exact rfl) (by exact rfl)]
   | fail)
 refine ax▸ae (r:=V2 v) ?_ (aB _)
 simp (disch:=decide) only [RS,a8,bg,af,ai,Er,cC]
theorem Es {f fi fm:FuncId} (h:Has P f (kg fi fm)) (x y:Int) (h1:VP P G fi [.int .i64 x] (QV x)) (h2:VP P G fi [.int .i64 y] (QV y)) (hm:VP P G fm [QV x,QV y] (V2 (x,y))):VP P G f [.int .i64 x, .int .i64 y] (V2 (x,y)):=by
 refine VP.has h ?_
 simp only [kg]
 repeat (first
   | simp (disch:=first | decide | exact rfl) only [SS,DD,Nat.reduceAdd,reduceIte,af,ai,az,ZZ,CC,aW,g0,g1,g2,decide_true,decide_false,cz]
   | with_reducible refine ao (by assumption) (by simp [ag,aq,aj,aa.int,aa.bool,aa.str,aA,ar,aw,aB,aL]) ?_
   | with_reducible refine ay (by assumption) (by simp [ag,aq,aj,aa.int,aa.bool,aa.str,aA,ar,aw,aB,aL]) ?_
   | with_reducible refine And.intro (a:=ab _ _) (by simp [ab,apart]) ?_
   | with_reducible refine VW.aI 3 (VW.of ?_)
   | with_reducible refine b9.next _ (VW.of ?_)
   | rw [au (by exact rfl) (by exact rfl) (by exact rfl) (by exact rfl) (by exact rfl)]
   | rw [bW (by exact rfl) (by exact rfl) (by exact rfl) (by exact rfl)]
   | rw [bX (by exact rfl) (by exact rfl) (by exact rfl) (by exact rfl) (by exact rfl) (by exact rfl)]
   | fail)
 refine ax▸ae (r:=V2 (x,y)) ?_ (aB _)
 simp (disch:=decide) only [RS,a8,bg,af,ai,Er,cC]
theorem Mh {f:FuncId} (h:Has P f kh):VP P G f [.int .i64 0, .int .i64 0] (.int .i64 0):=by
 refine VP.has h ?_
 simp only [kh]
 repeat (first
   | simp (disch:=first | decide | exact rfl) only [SS,DD,Nat.reduceAdd,reduceIte,af,ai,az,ZZ,CC,aW,g0,g1,g2,decide_true,decide_false]
   | with_reducible refine ao (by assumption) (by simp [ag,aq,aj,aa.int,aa.bool,aa.str,aA,ar,aw,aB,aL]) ?_
   | with_reducible refine ay (by assumption) (by simp [ag,aq,aj,aa.int,aa.bool,aa.str,aA,ar,aw,aB,aL]) ?_
   | with_reducible refine And.intro (a:=ab _ _) (by simp [ab,apart]) ?_
   | with_reducible refine VW.aI 3 (VW.of ?_)
   | with_reducible refine b9.next _ (VW.of ?_)
   | rw [au (by exact rfl) (by exact rfl) (by exact rfl) (by exact rfl) (by exact rfl)]
   | rw [bW (by exact rfl) (by exact rfl) (by exact rfl) (by exact rfl)]
   | rw [bX (by exact rfl) (by exact rfl) (by exact rfl) (by exact rfl) (by exact rfl) (by exact rfl)]
   | fail)
 exact ax▸ae rfl (aa.int _ _)
theorem RP {f:FuncId} (h:Has P f mc) (v:Q2):VP P G f [NV v.1,NV v.2, .int .i64 0] (.tup [V2 v, .int .i64 0]):=by
 refine VP.has h ?_
 simp only [mc]
 repeat (first
   | simp (disch:=first | decide | exact rfl) only [SS,DD,Nat.reduceAdd,reduceIte,af,ai,az,ZZ,CC,aW,g0,g1,g2,decide_true,decide_false,eM,cA,cz,Bh]
   | with_reducible refine ao (by assumption) (by simp [ag,aq,aj,aa.int,aa.bool,aa.str,aA,ar,aw,aB,aL]) ?_
   | with_reducible refine ay (by assumption) (by simp [ag,aq,aj,aa.int,aa.bool,aa.str,aA,ar,aw,aB,aL]) ?_
   | with_reducible refine And.intro (a:=ab _ _) (by simp [ab,apart]) ?_
   | with_reducible refine VW.aI 3 (VW.of ?_)
   | with_reducible refine b9.next _ (VW.of ?_)
   | rw [au (by exact rfl) (by exact rfl) (by exact rfl) (by exact rfl) (by exact rfl)]
   | rw [bW (by exact rfl) (by exact rfl) (by exact rfl) (by exact rfl)]
   | rw [bX (by exact rfl) (by exact rfl) (by exact rfl) (by exact rfl) (by exact rfl) (by exact rfl)]
   | fail)
 refine ax▸ae (r := .tup [V2 v, .int .i64 0]) ?_ (aa.tup (by simp [aB,aa.int]))
 simp (disch:=decide) only [RS,a8,bg,af,ai,Er,cC]
theorem RQ {f fa ff fv:FuncId} (h:Has P f (me fa ff fv)) (a b:Q2) (h1:VP P G fa [NV a.1,NV b.1] (.tup [NV (a.1+b.1), .int .i64 0])) (h2:VP P G fa [NV a.2,NV b.2] (.tup [NV (a.2+b.2), .int .i64 0]))
   (hf:VP P G ff [.int .i64 0, .int .i64 0] (.int .i64 0)) (hv:VP P G fv [NV (a.1+b.1),NV (a.2+b.2), .int .i64 0] (.tup [V2 (gv a b), .int .i64 0])):VP P G f [V2 a,V2 b] (.tup [V2 (gv a b), .int .i64 0]):=by
 refine VP.has h ?_
 simp only [me]
 repeat (first
   | simp (disch:=first | decide | exact rfl) only [SS,DD,Nat.reduceAdd,reduceIte,af,ai,az,ZZ,CC,aW,g0,g1,g2,decide_true,decide_false,fE,CH,CI,eM,cA,b6,cz]
   | with_reducible refine ao (by assumption) (by simp [ag,aq,aj,aa.int,aa.bool,aa.str,aA,ar,aw,aB,aL]) ?_
   | with_reducible refine ay (by assumption) (by simp [ag,aq,aj,aa.int,aa.bool,aa.str,aA,ar,aw,aB,aL]) ?_
   | with_reducible refine And.intro (a:=ab _ _) (by simp [ab,apart]) ?_
   | with_reducible refine VW.aI 3 (VW.of ?_)
   | with_reducible refine b9.next _ (VW.of ?_)
   | rw [au (by exact rfl) (by exact rfl) (by exact rfl) (by exact rfl) (by exact rfl)]
   | rw [bW (by exact rfl) (by exact rfl) (by exact rfl) (by exact rfl)]
   | rw [bX (by exact rfl) (by exact rfl) (by exact rfl) (by exact rfl) (by exact rfl) (by exact rfl)]
   | fail)
 refine ax▸ae (r := .tup [V2 (gv a b), .int .i64 0]) ?_ (aa.tup (by simp [aB,aa.int]))
 simp (disch:=decide) only [RS,a8,bg,af,ai,cC]
theorem RR {f fn:FuncId} (h:Has P f (mg fn)) (a:Q2) (h1:VP P G fn [NV a.1] (NV (-a.1))) (h2:VP P G fn [NV a.2] (NV (-a.2))):VP P G f [V2 a] (V2 (CJ a)):=by
 refine VP.has h ?_
 simp only [mg]
 repeat (first
   | simp (disch:=first | decide | exact rfl) only [SS,DD,Nat.reduceAdd,reduceIte,af,ai,az,ZZ,CC,aW,g0,g1,g2,decide_true,decide_false,fE,CH,CI,cz,Bh]
   | with_reducible refine ao (by assumption) (by simp [ag,aq,aj,aa.int,aa.bool,aa.str,aA,ar,aw,aB,aL]) ?_
   | with_reducible refine ay (by assumption) (by simp [ag,aq,aj,aa.int,aa.bool,aa.str,aA,ar,aw,aB,aL]) ?_
   | with_reducible refine And.intro (a:=ab _ _) (by simp [ab,apart]) ?_
   | with_reducible refine VW.aI 3 (VW.of ?_)
   | with_reducible refine b9.next _ (VW.of ?_)
   | rw [au (by exact rfl) (by exact rfl) (by exact rfl) (by exact rfl) (by exact rfl)]
   | rw [bW (by exact rfl) (by exact rfl) (by exact rfl) (by exact rfl)]
   | rw [bX (by exact rfl) (by exact rfl) (by exact rfl) (by exact rfl) (by exact rfl) (by exact rfl)]
   | fail)
 refine ax▸ae (r:=V2 (CJ a)) ?_ (aB _)
 simp (disch:=decide) only [RS,a8,bg,af,ai,Er,cC];rfl
theorem RT {f fn fa:FuncId} (h:Has P f (mh fn fa)) (a b:Q2) (h1:VP P G fn [V2 b] (V2 (CJ b))) (h2:VP P G fa [V2 a,V2 (CJ b)] (.tup [V2 (gv a (CJ b)), .int .i64 0])):VP P G f [V2 a,V2 b] (.tup [V2 (jq a b), .int .i64 0]):=by
 rw [show gv a (CJ b)=jq a b from by simp [gv,CJ,jq,Rat.sub_eq_add_neg]] at h2
 refine VP.has h ?_
 simp only [mh]
 repeat (first
   | simp (disch:=first | decide | exact rfl) only [SS,DD,Nat.reduceAdd,reduceIte,af,ai,az,ZZ,CC,aW,g0,g1,g2,decide_true,decide_false,fE,cC,cz]
   | with_reducible refine ao (by assumption) (by simp [ag,aq,aj,aa.int,aa.bool,aa.str,aA,ar,aw,aB,aL]) ?_
   | with_reducible refine ay (by assumption) (by simp [ag,aq,aj,aa.int,aa.bool,aa.str,aA,ar,aw,aB,aL]) ?_
   | with_reducible refine And.intro (a:=ab _ _) (by simp [ab,apart]) ?_
   | with_reducible refine VW.aI 3 (VW.of ?_)
   | with_reducible refine b9.next _ (VW.of ?_)
   | rw [au (by exact rfl) (by exact rfl) (by exact rfl) (by exact rfl) (by exact rfl)]
   | rw [bW (by exact rfl) (by exact rfl) (by exact rfl) (by exact rfl)]
   | rw [bX (by exact rfl) (by exact rfl) (by exact rfl) (by exact rfl) (by exact rfl) (by exact rfl)]
   | fail)
 refine ax▸ae (r := .tup [V2 (jq a b), .int .i64 0]) ?_ (aa.tup (by simp [aB,aa.int]))
 simp (disch:=decide) only [RS,a8,bg,af,ai,cC]
theorem Mi {f fm ff fv:FuncId} (h:Has P f (ki fm ff fv)) (a:Q2) (n:Rat) (h1:VP P G fm [NV a.1,NV n] (.tup [NV (a.1*n), .int .i64 0])) (h2:VP P G fm [NV a.2,NV n] (.tup [NV (a.2*n), .int .i64 0]))
   (hf:VP P G ff [.int .i64 0, .int .i64 0] (.int .i64 0)) (hv:VP P G fv [NV (a.1*n),NV (a.2*n), .int .i64 0] (.tup [V2 (ga a n), .int .i64 0])):VP P G f [V2 a,NV n] (.tup [V2 (ga a n), .int .i64 0]):=by
 refine VP.has h ?_
 simp only [ki]
 repeat (first
   | simp (disch:=first | decide | exact rfl) only [SS,DD,Nat.reduceAdd,reduceIte,af,ai,az,ZZ,CC,aW,g0,g1,g2,decide_true,decide_false,fE,CH,CI,eM,cA,b6,cz]
   | with_reducible refine ao (by assumption) (by simp [ag,aq,aj,aa.int,aa.bool,aa.str,aA,ar,aw,aB,aL]) ?_
   | with_reducible refine ay (by assumption) (by simp [ag,aq,aj,aa.int,aa.bool,aa.str,aA,ar,aw,aB,aL]) ?_
   | with_reducible refine And.intro (a:=ab _ _) (by simp [ab,apart]) ?_
   | with_reducible refine VW.aI 3 (VW.of ?_)
   | with_reducible refine b9.next _ (VW.of ?_)
   | rw [au (by exact rfl) (by exact rfl) (by exact rfl) (by exact rfl) (by exact rfl)]
   | rw [bW (by exact rfl) (by exact rfl) (by exact rfl) (by exact rfl)]
   | rw [bX (by exact rfl) (by exact rfl) (by exact rfl) (by exact rfl) (by exact rfl) (by exact rfl)]
   | fail)
 refine ax▸ae (r := .tup [V2 (ga a n), .int .i64 0]) ?_ (aa.tup (by simp [aB,aa.int]))
 simp (disch:=decide) only [RS,a8,bg,af,ai,cC]
theorem Ob {f fn:FuncId} (h:Has P f (k8 fn)) (a:Q2) (h1:VP P G fn [NV a.2] (NV (-a.2))):VP P G f [V2 a] (V2 (-a.2,a.1)):=by
 refine VP.has h ?_
 simp only [k8]
 repeat (first
   | simp (disch:=first | decide | exact rfl) only [SS,DD,Nat.reduceAdd,reduceIte,af,ai,az,ZZ,CC,aW,g0,g1,g2,decide_true,decide_false,fE,CH,CI,cz,Bh]
   | with_reducible refine ao (by assumption) (by simp [ag,aq,aj,aa.int,aa.bool,aa.str,aA,ar,aw,aB,aL]) ?_
   | with_reducible refine ay (by assumption) (by simp [ag,aq,aj,aa.int,aa.bool,aa.str,aA,ar,aw,aB,aL]) ?_
   | with_reducible refine And.intro (a:=ab _ _) (by simp [ab,apart]) ?_
   | with_reducible refine VW.aI 3 (VW.of ?_)
   | with_reducible refine b9.next _ (VW.of ?_)
   | rw [au (by exact rfl) (by exact rfl) (by exact rfl) (by exact rfl) (by exact rfl)]
   | rw [bW (by exact rfl) (by exact rfl) (by exact rfl) (by exact rfl)]
   | rw [bX (by exact rfl) (by exact rfl) (by exact rfl) (by exact rfl) (by exact rfl) (by exact rfl)]
   | fail)
 refine ax▸ae (r:=V2 (-a.2,a.1)) ?_ (aB _)
 simp (disch:=decide) only [RS,a8,bg,af,ai,Er,cC]
theorem RU {f fm ff fa:FuncId} (h:Has P f (mj fm ff fa)) (a b:Q2) (h1:VP P G fm [NV a.1,NV b.1] (.tup [NV (a.1*b.1), .int .i64 0])) (h2:VP P G fm [NV a.2,NV b.2] (.tup [NV (a.2*b.2), .int .i64 0]))
   (ha:VP P G fa [NV (a.1*b.1),NV (a.2*b.2)] (.tup [NV (rW a b), .int .i64 0])):VP P G f [V2 a,V2 b] (.tup [NV (rW a b), .int .i64 0]):=by
 refine VP.has h ?_
 simp only [mj]
 repeat (first
   | simp (disch:=first | decide | exact rfl) only [SS,DD,Nat.reduceAdd,reduceIte,af,ai,az,ZZ,CC,aW,g0,g1,g2,decide_true,decide_false,fE,CH,CI,eM,cA,b6]
   | with_reducible refine ao (by assumption) (by simp [ag,aq,aj,aa.int,aa.bool,aa.str,aA,ar,aw,aB,aL]) ?_
   | with_reducible refine ay (by assumption) (by simp [ag,aq,aj,aa.int,aa.bool,aa.str,aA,ar,aw,aB,aL]) ?_
   | with_reducible refine And.intro (a:=ab _ _) (by simp [ab,apart]) ?_
   | with_reducible refine VW.aI 3 (VW.of ?_)
   | with_reducible refine b9.next _ (VW.of ?_)
   | rw [au (by exact rfl) (by exact rfl) (by exact rfl) (by exact rfl) (by exact rfl)]
   | rw [bW (by exact rfl) (by exact rfl) (by exact rfl) (by exact rfl)]
   | rw [bX (by exact rfl) (by exact rfl) (by exact rfl) (by exact rfl) (by exact rfl) (by exact rfl)]
   | fail)
 refine ax▸ae (r := .tup [NV (rW a b), .int .i64 0]) ?_ (aa.tup (by simp [aw,aa.int]))
 simp (disch:=decide) only [RS,a8,bg,af,ai,cA]
theorem J3 {f fd:FuncId} (h:Has P f (jK fd)) (a:Q2) (hd:VP P G fd [V2 a,V2 a] (.tup [NV (rW a a), .int .i64 0])):VP P G f [V2 a] (.tup [NV (rW a a), .int .i64 0]):=by
 refine VP.has h ?_
 simp only [jK]
 repeat (first
   | simp (disch:=first | decide | exact rfl) only [SS,DD,Nat.reduceAdd,reduceIte,af,ai,az,ZZ,CC,aW,g0,g1,g2,decide_true,decide_false,fE,cC,b6]
   | with_reducible refine ao (by assumption) (by simp [ag,aq,aj,aa.int,aa.bool,aa.str,aA,ar,aw,aB,aL]) ?_
   | with_reducible refine ay (by assumption) (by simp [ag,aq,aj,aa.int,aa.bool,aa.str,aA,ar,aw,aB,aL]) ?_
   | with_reducible refine And.intro (a:=ab _ _) (by simp [ab,apart]) ?_
   | with_reducible refine VW.aI 3 (VW.of ?_)
   | with_reducible refine b9.next _ (VW.of ?_)
   | rw [au (by exact rfl) (by exact rfl) (by exact rfl) (by exact rfl) (by exact rfl)]
   | rw [bW (by exact rfl) (by exact rfl) (by exact rfl) (by exact rfl)]
   | rw [bX (by exact rfl) (by exact rfl) (by exact rfl) (by exact rfl) (by exact rfl) (by exact rfl)]
   | fail)
 refine ax▸ae (r := .tup [NV (rW a a), .int .i64 0]) ?_ (aa.tup (by simp [aw,aa.int]))
 simp (disch:=decide) only [RS,a8,bg,af,ai,cA]
theorem Mj {f fe:FuncId} (h:Has P f (kj fe)) (a b:Q2) (h1:VP P G fe [NV a.1,NV b.1] (.bool (decide (a.1=b.1)))) (h2:VP P G fe [NV a.2,NV b.2] (.bool (decide (a.2=b.2)))):VP P G f [V2 a,V2 b] (.bool (decide (a=b))):=by
 have e:decide (a=b)=(decide (a.1=b.1)&&decide (a.2=b.2)):=by rw [<- Bool.decide_and];congr 1;exact propext Prod.ext_iff
 rw [e]
 refine VP.has h ?_
 simp only [kj]
 cases hd:decide (a.1=b.1)<;>rw [hd] at h1
 all_goals
   repeat (first
     | simp (disch:=first | decide | exact rfl) only [SS,DD,Nat.reduceAdd,reduceIte,af,ai,az,ZZ,CC,aW,g0,g1,g2,decide_true,decide_false,fE,CH,CI,Bool.true_and,Bool.false_and]
     | with_reducible refine ao (by assumption) (by simp [ag,aq,aj,aa.int,aa.bool,aa.str,aA,ar,aw,aB,aL]) ?_
     | with_reducible refine ay (by assumption) (by simp [ag,aq,aj,aa.int,aa.bool,aa.str,aA,ar,aw,aB,aL]) ?_
     | with_reducible refine And.intro (a:=ab _ _) (by simp [ab,apart]) ?_
     | with_reducible refine VW.aI 3 (VW.of ?_)
     | with_reducible refine b9.next _ (VW.of ?_)
     | rw [au (by exact rfl) (by exact rfl) (by exact rfl) (by exact rfl) (by exact rfl)]
     | rw [bW (by exact rfl) (by exact rfl) (by exact rfl) (by exact rfl)]
     | rw [bX (by exact rfl) (by exact rfl) (by exact rfl) (by exact rfl) (by exact rfl) (by exact rfl)]
     | fail)
   exact ax▸ae rfl (aa.bool _)
theorem Mk {f fv:FuncId} (h:Has P f (ko fv)) (a:Q2) (h1:VP P G fv [NV a.1] (.bool true)) (h2:VP P G fv [NV a.2] (.bool true)):VP P G f [V2 a] (.bool true):=by
 refine VP.has h ?_
 simp only [ko]
 repeat (first
   | simp (disch:=first | decide | exact rfl) only [SS,DD,Nat.reduceAdd,reduceIte,af,ai,az,ZZ,CC,aW,g0,g1,g2,decide_true,decide_false,fE,CH,CI]
   | with_reducible refine ao (by assumption) (by simp [ag,aq,aj,aa.int,aa.bool,aa.str,aA,ar,aw,aB,aL]) ?_
   | with_reducible refine ay (by assumption) (by simp [ag,aq,aj,aa.int,aa.bool,aa.str,aA,ar,aw,aB,aL]) ?_
   | with_reducible refine And.intro (a:=ab _ _) (by simp [ab,apart]) ?_
   | with_reducible refine VW.aI 3 (VW.of ?_)
   | with_reducible refine b9.next _ (VW.of ?_)
   | rw [au (by exact rfl) (by exact rfl) (by exact rfl) (by exact rfl) (by exact rfl)]
   | rw [bW (by exact rfl) (by exact rfl) (by exact rfl) (by exact rfl)]
   | rw [bX (by exact rfl) (by exact rfl) (by exact rfl) (by exact rfl) (by exact rfl) (by exact rfl)]
   | fail)
 exact ax▸ae rfl (aa.bool _)
end
end Go.VL
end

section
set_option linter.unusedSimpArgs false
set_option linter.unusedVariables false
namespace Go.VL
def eB:dA:=⟨[.agg [.int .i64 0]],1,false⟩
def da (P:Program) (G:Nat->Option (List AV)) (f:FuncId) (args:List AV) (r:AV):Prop :=
 ∀ (p id:Id), ¬ p <:+ id->bc P G f (.ref id 0 0::args) p [(id,eB)] { val:=r,rd:=[id] }
theorem zt {id:Id} {σ : ah} (hσ : σ id=some eB) (i:Id):(ah.of [(id,eB)]).app [] i=none∨(ah.of [(id,eB)]).app [] i = σ i:=by
 by_cases e:i=id
 . subst e;right;rw [hσ];simp [ah.app,ah.of]
 . left;simp [ah.app,ah.of,e]
theorem bm {σ : ah} {p:Id} {a c:Nat} {b:Option dA} {agg:Bool} {n e o:Nat} (h:c≠a):jm (σ.put (a::p) b) agg n (.ref (c::p) e o)=jm σ agg n (.ref (c::p) e o):=af (by simp [h])
theorem X0 {id:Id}:jm (ah.of [(id,eB)]) false 1 (.ref id 0 0)=some { val := .int .i64 0,rd:=[id] }:=by
 rw [qT (bk:=eB) (el := .agg [.int .i64 0]) (by simp [ah.of]) rfl];rfl
theorem ly {p id:Id} (h : ¬ p <:+ id) (q:Nat):id≠q::p:=fun e=>h ⟨[q],e.symm⟩
section
variable {P:Program} {G:Nat->Option (List AV)} {π : Id} {base:Nat} {Q:cd->VS->Prop} {n:Nat} {ps:List (Nat × Nat)} {d:Option Nat} {os:List bA} {i:Nat} {t:List AV} {σ : ah} {acc:List eT} {f:FuncId} {id:Id} {args:List AV} {r:AV}
theorem gw (h:da P G f args r) (jS : ¬ π <:+ id) (hσ : σ id=some eB) (k:vs P G π base Q n os (i+1) (gg t d r) σ):yv P G π base Q n d os i t σ f (.ref id 0 0::args) :=
 ⟨_,_,h _ id (fun ⟨q,e⟩=>jS ⟨q++[base+i],by simpa using e⟩),by simpa using hσ,by simp,k⟩
theorem CL {m:Nat} (h:da P G f args r) (hm:m<base) (hσ : σ (m :: π)=some eB) (k:vs P G π base Q n os (i+1) (gg t d r) σ):yv P G π base Q n d os i t σ f (.ref (m :: π) 0 0::args) :=
 ⟨_,_,h _ (m :: π) (fun h=>by rcases List.suffix_cons_iff.1 h with e | e;simp at e;omega;have:=e.length_le;simp at this;omega),by simpa using hσ,by simp,k⟩
theorem eI {m:Nat} (h:da P G f args r) (hm:m<base) (hσ : σ (m :: π)=some eB) (k:vd P G π base Q n ps os (i+1) ({ val:=r,rd:=[m :: π] }::acc) (gg t d r) σ):Dd P G π base Q n ps d os i acc t σ f (.ref (m :: π) 0 0::args) :=
 ⟨_,_,h _ (m :: π) (fun h=>by rcases List.suffix_cons_iff.1 h with e | e;simp at e;omega;have:=e.length_le;simp at this;omega),by simpa using hσ,by simp,k⟩
end
section
variable {P:Program} {G:Nat->Option (List AV)}
theorem X1 {f:FuncId} (h:Has P f ir):da P G f [.int .i64 0] (.tup []):=fun p id jS=>by
 refine bc.has h ?_
 simp only [ir,SS,Nat.reduceAdd,reduceIte,X0,decide_true]
 rw [CD (x := .agg [.int .i64 0]) (k:=1) (y := .agg [.int .i64 0]) (by simp [ah.of,eB]) rfl rfl (by decide) rfl]
 simp only [SS,Nat.reduceAdd,reduceIte]
 exact Ej▸bK rfl (zt (by simp [ah.app,ah.put,eB]))
theorem abd {f fn fi:FuncId} (h:Has P f (iF fn fi)) (hn:da P G fn [.int .i64 0] (.tup [])) (a):da P G f [(NV a), .int .i64 0] (NV a):=fun p id jS=>by
 have hq:=ly jS
 refine bc.has h ?_
 simp only [iF]
 repeat (first
   | simp (disch:=first | decide | exact rfl) only [bm,SS,DD,Nat.reduceAdd,reduceIte,af,ai,az,ZZ,CC,aW,g0,g1,g2,decide_true,decide_false,eM,cA,b6]
   | with_reducible refine ao (by assumption) (by simp [ag,aq,aj,aa.int,aa.bool,aa.str,aA,ar,aw,aB,aL]) ?_
   | with_reducible refine ay (by assumption) (by simp [ag,aq,aj,aa.int,aa.bool,aa.str,aA,ar,aw,aB,aL]) ?_
   | with_reducible refine And.intro (a:=ab _ _) (by simp [ab,apart]) ?_
   | with_reducible refine VW.aI 3 (VW.of ?_)
   | with_reducible refine b9.next _ (VW.of ?_)
   | rw [au (by repeat (first | exact bb | refine (dr (by simp)).trans ?_)) (by exact rfl) (by exact rfl) (by exact rfl) (by exact rfl)]
   | rw [bW (by exact rfl) (by exact rfl) (by exact rfl) (by exact rfl)]
   | rw [bX (by exact rfl) (by exact rfl) (by exact rfl) (by exact rfl) (by exact rfl) (by exact rfl)]
   | refine gw hn jS (by simp [ah.put,ah.of,hq]) ?_
   | fail)
 refine eh▸bK (by simp (disch:=decide) only [RS,a8,bg,ai,cA]) (zt (by simp [ah.app,ah.put,ah.of,hq]))
theorem abe {f fn fi:FuncId} (h:Has P f (iG fn fi)) (hn:da P G fn [.int .i64 0] (.tup [])) (a):da P G f [(V2 a), .int .i64 0] (V2 a):=fun p id jS=>by
 have hq:=ly jS
 refine bc.has h ?_
 simp only [iG]
 repeat (first
   | simp (disch:=first | decide | exact rfl) only [bm,SS,DD,Nat.reduceAdd,reduceIte,af,ai,az,ZZ,CC,aW,g0,g1,g2,decide_true,decide_false,fE,cC,cz]
   | with_reducible refine ao (by assumption) (by simp [ag,aq,aj,aa.int,aa.bool,aa.str,aA,ar,aw,aB,aL]) ?_
   | with_reducible refine ay (by assumption) (by simp [ag,aq,aj,aa.int,aa.bool,aa.str,aA,ar,aw,aB,aL]) ?_
   | with_reducible refine And.intro (a:=ab _ _) (by simp [ab,apart]) ?_
   | with_reducible refine VW.aI 3 (VW.of ?_)
   | with_reducible refine b9.next _ (VW.of ?_)
   | rw [au (by repeat (first | exact bb | refine (dr (by simp)).trans ?_)) (by exact rfl) (by exact rfl) (by exact rfl) (by exact rfl)]
   | rw [bW (by exact rfl) (by exact rfl) (by exact rfl) (by exact rfl)]
   | rw [bX (by exact rfl) (by exact rfl) (by exact rfl) (by exact rfl) (by exact rfl) (by exact rfl)]
   | refine gw hn jS (by simp [ah.put,ah.of,hq]) ?_
   | fail)
 refine eh▸bK (by simp (disch:=decide) only [RS,a8,bg,ai,cC]) (zt (by simp [ah.app,ah.put,ah.of,hq]))
theorem X2 {f fa fv:FuncId} (h:Has P f (iv fa fv)) (a b:Q2) (ha:VP P G fa [V2 a,V2 b] (.tup [V2 (gv a b), .int .i64 0])) (hv:∀ a,da P G fv [V2 a, .int .i64 0] (V2 a)):da P G f [V2 a,V2 b] (V2 (gv a b)):=fun p id jS=>by
 have hq:=ly jS
 refine bc.has h ?_
 simp only [iv]
 repeat (first
   | simp (disch:=first | decide | exact rfl) only [bm,SS,DD,Nat.reduceAdd,reduceIte,af,ai,az,ZZ,CC,aW,g0,g1,g2,decide_true,decide_false,fE,cC,cz]
   | with_reducible refine ao (by assumption) (by simp [ag,aq,aj,aa.int,aa.bool,aa.str,aA,ar,aw,aB,aL]) ?_
   | with_reducible refine ay (by assumption) (by simp [ag,aq,aj,aa.int,aa.bool,aa.str,aA,ar,aw,aB,aL]) ?_
   | with_reducible refine And.intro (a:=ab _ _) (by simp [ab,apart]) ?_
   | with_reducible refine VW.aI 3 (VW.of ?_)
   | with_reducible refine b9.next _ (VW.of ?_)
   | rw [au (by repeat (first | exact bb | refine (dr (by simp)).trans ?_)) (by exact rfl) (by exact rfl) (by exact rfl) (by exact rfl)]
   | rw [bW (by exact rfl) (by exact rfl) (by exact rfl) (by exact rfl)]
   | rw [bX (by exact rfl) (by exact rfl) (by exact rfl) (by exact rfl) (by exact rfl) (by exact rfl)]
   | refine gw (hv _) jS (by simp [ah.put,ah.of,hq]) ?_
   | fail)
 refine eh▸bK (by simp (disch:=decide) only [RS,a8,bg,ai,cC]) (zt (by simp [ah.app,ah.put,ah.of,hq]))
theorem UW {f fa fv:FuncId} (h:Has P f (gV fa fv)) (a b:Q2) (ha:VP P G fa [V2 a,V2 b] (.tup [V2 (jq a b), .int .i64 0])) (hv:∀ a,da P G fv [V2 a, .int .i64 0] (V2 a)):da P G f [V2 a,V2 b] (V2 (jq a b)):=fun p id jS=>by
 have hq:=ly jS
 refine bc.has h ?_
 simp only [gV]
 repeat (first
   | simp (disch:=first | decide | exact rfl) only [bm,SS,DD,Nat.reduceAdd,reduceIte,af,ai,az,ZZ,CC,aW,g0,g1,g2,decide_true,decide_false,fE,cC,cz]
   | with_reducible refine ao (by assumption) (by simp [ag,aq,aj,aa.int,aa.bool,aa.str,aA,ar,aw,aB,aL]) ?_
   | with_reducible refine ay (by assumption) (by simp [ag,aq,aj,aa.int,aa.bool,aa.str,aA,ar,aw,aB,aL]) ?_
   | with_reducible refine And.intro (a:=ab _ _) (by simp [ab,apart]) ?_
   | with_reducible refine VW.aI 3 (VW.of ?_)
   | with_reducible refine b9.next _ (VW.of ?_)
   | rw [au (by repeat (first | exact bb | refine (dr (by simp)).trans ?_)) (by exact rfl) (by exact rfl) (by exact rfl) (by exact rfl)]
   | rw [bW (by exact rfl) (by exact rfl) (by exact rfl) (by exact rfl)]
   | rw [bX (by exact rfl) (by exact rfl) (by exact rfl) (by exact rfl) (by exact rfl) (by exact rfl)]
   | refine gw (hv _) jS (by simp [ah.put,ah.of,hq]) ?_
   | fail)
 refine eh▸bK (by simp (disch:=decide) only [RS,a8,bg,ai,cC]) (zt (by simp [ah.app,ah.put,ah.of,hq]))
theorem UX {f fa fv:FuncId} (h:Has P f (gW fa fv)) (a:Q2) (n:Rat) (ha:VP P G fa [V2 a,NV n] (.tup [V2 (ga a n), .int .i64 0])) (hv:∀ a,da P G fv [V2 a, .int .i64 0] (V2 a)):da P G f [V2 a,NV n] (V2 (ga a n)):=fun p id jS=>by
 have hq:=ly jS
 refine bc.has h ?_
 simp only [gW]
 repeat (first
   | simp (disch:=first | decide | exact rfl) only [bm,SS,DD,Nat.reduceAdd,reduceIte,af,ai,az,ZZ,CC,aW,g0,g1,g2,decide_true,decide_false,fE,cC,eM,cA,cz]
   | with_reducible refine ao (by assumption) (by simp [ag,aq,aj,aa.int,aa.bool,aa.str,aA,ar,aw,aB,aL]) ?_
   | with_reducible refine ay (by assumption) (by simp [ag,aq,aj,aa.int,aa.bool,aa.str,aA,ar,aw,aB,aL]) ?_
   | with_reducible refine And.intro (a:=ab _ _) (by simp [ab,apart]) ?_
   | with_reducible refine VW.aI 3 (VW.of ?_)
   | with_reducible refine b9.next _ (VW.of ?_)
   | rw [au (by repeat (first | exact bb | refine (dr (by simp)).trans ?_)) (by exact rfl) (by exact rfl) (by exact rfl) (by exact rfl)]
   | rw [bW (by exact rfl) (by exact rfl) (by exact rfl) (by exact rfl)]
   | rw [bX (by exact rfl) (by exact rfl) (by exact rfl) (by exact rfl) (by exact rfl) (by exact rfl)]
   | refine gw (hv _) jS (by simp [ah.put,ah.of,hq]) ?_
   | fail)
 refine eh▸bK (by simp (disch:=decide) only [RS,a8,bg,ai,cC]) (zt (by simp [ah.app,ah.put,ah.of,hq]))
theorem RW {f fa fv:FuncId} (h:Has P f (gG fa fv)) (a:Q2) (ha:VP P G fa [V2 a] (.tup [NV (rW a a), .int .i64 0])) (hv:∀ a,da P G fv [NV a, .int .i64 0] (NV a)):da P G f [V2 a] (NV (rW a a)):=fun p id jS=>by
 have hq:=ly jS
 refine bc.has h ?_
 simp only [gG]
 repeat (first
   | simp (disch:=first | decide | exact rfl) only [bm,SS,DD,Nat.reduceAdd,reduceIte,af,ai,az,ZZ,CC,aW,g0,g1,g2,decide_true,decide_false,fE,cC,b6]
   | with_reducible refine ao (by assumption) (by simp [ag,aq,aj,aa.int,aa.bool,aa.str,aA,ar,aw,aB,aL]) ?_
   | with_reducible refine ay (by assumption) (by simp [ag,aq,aj,aa.int,aa.bool,aa.str,aA,ar,aw,aB,aL]) ?_
   | with_reducible refine And.intro (a:=ab _ _) (by simp [ab,apart]) ?_
   | with_reducible refine VW.aI 3 (VW.of ?_)
   | with_reducible refine b9.next _ (VW.of ?_)
   | rw [au (by repeat (first | exact bb | refine (dr (by simp)).trans ?_)) (by exact rfl) (by exact rfl) (by exact rfl) (by exact rfl)]
   | rw [bW (by exact rfl) (by exact rfl) (by exact rfl) (by exact rfl)]
   | rw [bX (by exact rfl) (by exact rfl) (by exact rfl) (by exact rfl) (by exact rfl) (by exact rfl)]
   | refine gw (hv _) jS (by simp [ah.put,ah.of,hq]) ?_
   | fail)
 refine eh▸bK (by simp (disch:=decide) only [RS,a8,bg,ai,cA]) (zt (by simp [ah.app,ah.put,ah.of,hq]))
theorem abf {f fm fs:FuncId} (h:Has P f (iH fm fs)) (a b:Q2) (hm:da P G fm [V2 a,V2 b] (V2 (jq a b))) (hs:da P G fs [V2 (jq a b)] (NV (rW (jq a b) (jq a b)))):da P G f [V2 a,V2 b] (NV (rW (jq a b) (jq a b))):=fun p id jS=>by
 have hq:=ly jS
 refine bc.has h ?_
 simp only [iH]
 repeat (first
   | simp (disch:=first | decide | exact rfl) only [bm,SS,DD,Nat.reduceAdd,reduceIte,af,ai,az,ZZ,CC,aW,g0,g1,g2,decide_true,decide_false,fE,cC,b6]
   | with_reducible refine ao (by assumption) (by simp [ag,aq,aj,aa.int,aa.bool,aa.str,aA,ar,aw,aB,aL]) ?_
   | with_reducible refine ay (by assumption) (by simp [ag,aq,aj,aa.int,aa.bool,aa.str,aA,ar,aw,aB,aL]) ?_
   | with_reducible refine And.intro (a:=ab _ _) (by simp [ab,apart]) ?_
   | with_reducible refine VW.aI 3 (VW.of ?_)
   | with_reducible refine b9.next _ (VW.of ?_)
   | rw [au (by repeat (first | exact bb | refine (dr (by simp)).trans ?_)) (by exact rfl) (by exact rfl) (by exact rfl) (by exact rfl)]
   | rw [bW (by exact rfl) (by exact rfl) (by exact rfl) (by exact rfl)]
   | rw [bX (by exact rfl) (by exact rfl) (by exact rfl) (by exact rfl) (by exact rfl) (by exact rfl)]
   | refine gw hm jS (by simp [ah.put,ah.of,hq]) ?_
   | refine gw hs jS (by simp [ah.put,ah.of,hq]) ?_
   | fail)
 refine eh▸bK (by simp (disch:=decide) only [RS,a8,bg,ai,cA]) (zt (by simp [ah.app,ah.put,ah.of,hq]))
end
end Go.VL
end

section
set_option linter.unusedSimpArgs false
set_option linter.unusedVariables false
namespace Go.VL
open Go.Lib
structure CX where
 G4:Bool
 a:Q2
 b:Q2
 c:Q2
 cw:Bool
def CX.cells (x:CX):List AV:=[.bool x.G4, .nils,EV x.a.1, .nils,EV x.a.2, .nils,EV x.b.1, .nils,EV x.b.2, .nils,EV x.c.1, .nils,EV x.c.2, .bool x.cw]
def CX.av (x:CX):AV := .agg x.cells
theorem aE (x:CX):aa x.av:=aa.agg (by
 intro c hc
 simp only [CX.cells,List.mem_cons,List.not_mem_nil,or_false] at hc
 rcases hc with rfl | rfl | rfl | rfl | rfl | rfl | rfl | rfl | rfl | rfl | rfl | rfl | rfl | rfl<;>first | exact aa.bool _ | exact aa.nils | exact ar _)
theorem G5 (x:CX):∀ c∈x.av.cells,aa c:=by
 intro c hc
 simp only [CX.av,AV.cells,CX.cells,List.mem_cons,List.not_mem_nil,or_false] at hc
 rcases hc with rfl | rfl | rfl | rfl | rfl | rfl | rfl | rfl | rfl | rfl | rfl | rfl | rfl | rfl<;>first | exact aa.bool _ | exact aa.nils | exact ar _
theorem mU (x:CX):(x.av.cells.all AV.one=true)=True:=by simp [CX.av,CX.cells,AV.cells,AV.one,EV]
theorem Fi (x:CX):x.av.size=14:=rfl
theorem oQ (x:CX):part true x.av.cells 0 14=some x.av:=rfl
theorem Et (x:CX):part false x.av.cells 0 1=some (.bool x.G4):=rfl
theorem Eu (x:CX):part true x.av.cells 1 4=some (V2 x.a):=rfl
theorem Ev (x:CX):part true x.av.cells 5 4=some (V2 x.b):=rfl
theorem G6 (x:CX):part true x.av.cells 9 4=some (V2 x.c):=rfl
theorem UY (x:CX):part false x.av.cells 13 1=some (.bool x.cw):=rfl
def zC:AV := .agg [.bool false, .nils, .nils, .nils, .nils, .nils, .nils, .nils, .nils, .nils, .nils, .nils, .nils, .bool false]
theorem gC:((AV.cells (.agg [.bool false, .nils, .nils, .nils, .nils, .nils, .nils, .nils, .nils, .nils, .nils, .nils, .nils, .bool false])).all AV.one=true)=True:=by simp [AV.cells,AV.one]
theorem Fj {σ : ah} {id:Id} {k:Nat} {x:CX} {v:Q2} (h : σ id=some ⟨[x.av],k,false⟩):fJ σ 4 (.ref id 0 1) (V2 v)=some { val := .tup [],rd:=[id],up:=[(id,some ⟨[{ x with a:=v }.av],k,false⟩)] } :=
 fH (v:=V2 v) (el:=x.av) h rfl rfl (by simp [Fi]) (of_eq_true (fE v))
theorem Fk {σ : ah} {id:Id} {k:Nat} {x:CX} {v:Q2} (h : σ id=some ⟨[x.av],k,false⟩):fJ σ 4 (.ref id 0 5) (V2 v)=some { val := .tup [],rd:=[id],up:=[(id,some ⟨[{ x with b:=v }.av],k,false⟩)] } :=
 fH (v:=V2 v) (el:=x.av) h rfl rfl (by simp [Fi]) (of_eq_true (fE v))
theorem Fl {σ : ah} {id:Id} {k:Nat} {x:CX} {v:Q2} (h : σ id=some ⟨[x.av],k,false⟩):fJ σ 4 (.ref id 0 9) (V2 v)=some { val := .tup [],rd:=[id],up:=[(id,some ⟨[{ x with c:=v }.av],k,false⟩)] } :=
 fH (v:=V2 v) (el:=x.av) h rfl rfl (by simp [Fi]) (of_eq_true (fE v))
theorem UZ {σ : ah} {id:Id} {k:Nat} {x:CX} {v:Bool} (h : σ id=some ⟨[x.av],k,false⟩):fJ σ 1 (.ref id 0 13) (.bool v)=some { val := .tup [],rd:=[id],up:=[(id,some ⟨[{ x with cw:=v }.av],k,false⟩)] } :=
 fH (v := .bool v) (el:=x.av) h rfl rfl (by simp [Fi]) rfl
def Ks (u v:Q2):Rat:=rW (jq u v) (jq u v)
def CX.valid (x:CX):Bool:=if x.G4 then decide (0<dm (Ks x.a x.c))&&decide (Ks x.a x.c=Ks x.b x.c) else !decide (x.a=x.b)
def CX.same (x y:CX):Bool:=x.G4==y.G4&&decide (x.a=y.a)&&decide (x.b=y.b)&&(!x.G4||decide (x.c=y.c)&&x.cw==y.cw)
theorem ni {a b:List UInt8} (h:a.length+b.length<=140737488355328):bY .add .str (.str a) (.str b)=some (.str (a++b)):=by
 have e:mJ .add .str (.str a) (.str b)=some (.str (a++b)):=by
   simp only [mJ,Wq];exact if_pos (by unfold maxLen;omega)
 simp only [bY,e]
theorem Oc {σ : ah} {p:Id} {k:IntKind} {n:Int} (h:0<=n/\n<128):b8 σ p (.idStr (.int k n))=bB (some (.str [UInt8.ofNat n.toNat])):=if_pos h
section
variable {P:Program} {G:Nat->Option (List AV)}
theorem Bi (m:Nat) (hm:m<1000):bY .rem .int (.int .i64 (m:Int)) (.int .i64 10)=some (.int .i64 ((m%10:Nat):Int))/\bY .add .int (.int .i64 48) (.int .i64 ((m%10:Nat):Int))=some (.int .i64 ((48+m%10:Nat):Int)) /\
   IntKind.i32.wrap ((48+m%10:Nat):Int)=((48+m%10:Nat):Int)/\(∀ σ p,b8 σ p (.idStr (.int .i32 ((48+m%10:Nat):Int)))=bB (some (.str [UInt8.ofNat (48+m%10)])))/\bY .quo .int (.int .i64 (m:Int)) (.int .i64 10)=some (.int .i64 ((m/10:Nat):Int)):=by
 refine ⟨?_, ?_, ?_,fun σ p => ?_, ?_⟩
 . rw [show (10:Int)=((10:Nat):Int) from rfl,Pu (by omega), <- Int.ofNat_tmod]
 . have e:IntKind.i64.wrap ((48:Int)+((m%10:Nat):Int))=((48+m%10:Nat):Int):=by rw [IntKind.wrap_i64];omega
   rw [JB,e]
 . rw [IntKind.wrap_i32];omega
 . have:=Oc (σ := σ) (p:=p) (k := .i32) (n:=((48+m%10:Nat):Int)) (by omega)
   rw [Int.toNat_natCast] at this;exact this
 . have e:IntKind.i64.wrap ((m:Int).tdiv 10)=((m/10:Nat):Int):=by rw [Int.tdiv_eq_ediv_of_nonneg (by omega),IntKind.wrap_i64];omega
   rw [JC (by omega),e]
theorem Ml {f:FuncId} (h:Has P f jL) (n:Nat) (hn:n<1000):VP P G f [.int .i64 (n:Int)] (.str (decDigits n)):=by
 have g1:((([]:List UInt8)==[])=true):=rfl
 have g2:∀ (x:UInt8) (l:List UInt8),((x::l)==[])=false:=fun _ _=>rfl
 obtain ⟨a1,a2,a3,a4,a5⟩:=Bi n hn
 obtain ⟨b1,b2,b3,b4,b5⟩:=Bi (n/10) (by omega)
 obtain ⟨c1,c2,c3,c4,c5⟩:=Bi (n/10/10) (by omega)
 have s0:∀ x:UInt8,bY .add .str (.str [x]) (.str [])=some (.str [x]):=fun x=>ni (by simp)
 have s1:∀ x y:UInt8,bY .add .str (.str [x]) (.str [y])=some (.str [x,y]):=fun x y=>ni (by simp)
 have s2:∀ x y z:UInt8,bY .add .str (.str [x]) (.str [y,z])=some (.str [x,y,z]):=fun x y z=>ni (by simp)
 have e:decDigits n=if n<10 then [UInt8.ofNat (48+n%10)] else if n<100 then [UInt8.ofNat (48+n/10%10),UInt8.ofNat (48+n%10)] else [UInt8.ofNat (48+n/10/10%10),UInt8.ofNat (48+n/10%10),UInt8.ofNat (48+n%10)]:=by
   split
   . rw [oO (by assumption),Nat.mod_eq_of_lt (by assumption)]
   . split
     . rw [DY (by assumption),oO (by omega),Nat.mod_eq_of_lt (show n/10<10 by omega)];rfl
     . rw [DY (by assumption),DY (by omega),oO (by omega),Nat.mod_eq_of_lt (show n/10/10<10 by omega)];rfl
 rw [e]
 refine VP.has h ?_
 simp only [jL,az]
 rcases (by omega:n<10∨(¬ n<10/\n<100)∨(¬ n<10 /\ ¬ n<100)) with k | ⟨k,k'⟩ | ⟨k,k'⟩
 . have d1:decide ((0:Int)<((n/10:Nat):Int))=false:=aD (by omega)
   rw [if_pos k]
   repeat (first
     | simp (disch:=first | decide | exact rfl) only [SS,DD,Nat.reduceAdd,reduceIte,af,ai,az,ZZ,CC,aW,g0,g1,g2,decide_true,decide_false,g1,g2,a1,a2,a3,a4,a5,s0,s1,s2,d1,FY]
     | with_reducible refine ao (by assumption) (by simp [ag,aq,aj,aa.int,aa.bool,aa.str,aA,ar,aw,aB,aE,aL]) ?_
     | with_reducible refine ay (by assumption) (by simp [ag,aq,aj,aa.int,aa.bool,aa.str,aA,ar,aw,aB,aE,aL]) ?_
     | with_reducible refine And.intro (a:=ab _ _) (by simp [ab,apart]) ?_
     | with_reducible refine VW.aI 3 (VW.of ?_)
     | with_reducible refine b9.next _ (VW.of ?_)
     | rw [au (by exact rfl) (by exact rfl) (by exact rfl) (by exact rfl) (by exact rfl)]
     | rw [bW (by exact rfl) (by exact rfl) (by exact rfl) (by exact rfl)]
     | rw [bX (by exact rfl) (by exact rfl) (by exact rfl) (by exact rfl) (by exact rfl) (by exact rfl)]
     | fail)
   exact ax▸ae rfl (aa.str _)
 . have d1:decide ((0:Int)<((n/10:Nat):Int))=true:=aG (by omega)
   have d2:decide ((0:Int)<((n/10/10:Nat):Int))=false:=aD (by omega)
   rw [if_neg k,if_pos k']
   repeat (first
     | simp (disch:=first | decide | exact rfl) only [SS,DD,Nat.reduceAdd,reduceIte,af,ai,az,ZZ,CC,aW,g0,g1,g2,decide_true,decide_false,g1,g2,a1,a2,a3,a4,a5,b1,b2,b3,b4,b5,s0,s1,s2,d1,d2]
     | with_reducible refine ao (by assumption) (by simp [ag,aq,aj,aa.int,aa.bool,aa.str,aA,ar,aw,aB,aE,aL]) ?_
     | with_reducible refine ay (by assumption) (by simp [ag,aq,aj,aa.int,aa.bool,aa.str,aA,ar,aw,aB,aE,aL]) ?_
     | with_reducible refine And.intro (a:=ab _ _) (by simp [ab,apart]) ?_
     | with_reducible refine VW.aI 3 (VW.of ?_)
     | with_reducible refine b9.next _ (VW.of ?_)
     | rw [au (by exact rfl) (by exact rfl) (by exact rfl) (by exact rfl) (by exact rfl)]
     | rw [bW (by exact rfl) (by exact rfl) (by exact rfl) (by exact rfl)]
     | rw [bX (by exact rfl) (by exact rfl) (by exact rfl) (by exact rfl) (by exact rfl) (by exact rfl)]
     | fail)
   exact ax▸ae rfl (aa.str _)
 . have d1:decide ((0:Int)<((n/10:Nat):Int))=true:=aG (by omega)
   have d2:decide ((0:Int)<((n/10/10:Nat):Int))=true:=aG (by omega)
   have d3:decide ((0:Int)<((n/10/10/10:Nat):Int))=false:=aD (by omega)
   rw [if_neg k,if_neg k']
   repeat (first
     | simp (disch:=first | decide | exact rfl) only [SS,DD,Nat.reduceAdd,reduceIte,af,ai,az,ZZ,CC,aW,g0,g1,g2,decide_true,decide_false,g1,g2,a1,a2,a3,a4,a5,b1,b2,b3,b4,b5,c1,c2,c3,c4,c5,s0,s1,s2,d1,d2,d3]
     | with_reducible refine ao (by assumption) (by simp [ag,aq,aj,aa.int,aa.bool,aa.str,aA,ar,aw,aB,aE,aL]) ?_
     | with_reducible refine ay (by assumption) (by simp [ag,aq,aj,aa.int,aa.bool,aa.str,aA,ar,aw,aB,aE,aL]) ?_
     | with_reducible refine And.intro (a:=ab _ _) (by simp [ab,apart]) ?_
     | with_reducible refine VW.aI 3 (VW.of ?_)
     | with_reducible refine b9.next _ (VW.of ?_)
     | rw [au (by exact rfl) (by exact rfl) (by exact rfl) (by exact rfl) (by exact rfl)]
     | rw [bW (by exact rfl) (by exact rfl) (by exact rfl) (by exact rfl)]
     | rw [bX (by exact rfl) (by exact rfl) (by exact rfl) (by exact rfl) (by exact rfl) (by exact rfl)]
     | fail)
   exact ax▸ae rfl (aa.str _)
theorem Mm {f fd:FuncId} (h:Has P f (jM fd)) (n:Nat) (hd:VP P G fd [.int .i64 (n:Int)] (.str (decDigits n))):VP P G f [.int .i64 (n:Int)] (.str (decDigits n)):=by
 refine VP.has h ?_
 simp only [jM]
 repeat (first
   | simp (disch:=first | decide | exact rfl) only [SS,DD,Nat.reduceAdd,reduceIte,af,ai,az,ZZ,CC,aW,g0,g1,g2,decide_true,decide_false]
   | with_reducible refine ao (by assumption) (by simp [ag,aq,aj,aa.int,aa.bool,aa.str,aA,ar,aw,aB,aE,aL]) ?_
   | with_reducible refine ay (by assumption) (by simp [ag,aq,aj,aa.int,aa.bool,aa.str,aA,ar,aw,aB,aE,aL]) ?_
   | with_reducible refine And.intro (a:=ab _ _) (by simp [ab,apart]) ?_
   | with_reducible refine VW.aI 3 (VW.of ?_)
   | with_reducible refine b9.next _ (VW.of ?_)
   | rw [au (by exact rfl) (by exact rfl) (by exact rfl) (by exact rfl) (by exact rfl)]
   | rw [bW (by exact rfl) (by exact rfl) (by exact rfl) (by exact rfl)]
   | rw [bX (by exact rfl) (by exact rfl) (by exact rfl) (by exact rfl) (by exact rfl) (by exact rfl)]
   | fail)
 exact ax▸ae rfl (aa.str _)
theorem Od {f fe ff fs fq:FuncId} (h:Has P f (kp fe ff fs fq)) (x:CX) (he:VP P G fe [V2 x.a,V2 x.b] (.bool (decide (x.a=x.b)))) (h1:da P G ff [V2 x.a,V2 x.c] (NV (Ks x.a x.c))) (h2:da P G ff [V2 x.b,V2 x.c] (NV (Ks x.b x.c)))
   (hs:VP P G fs [NV (Ks x.a x.c)] (.int .i64 (dm (Ks x.a x.c)))) (hq:VP P G fq [NV (Ks x.a x.c),NV (Ks x.b x.c)] (.bool (decide (Ks x.a x.c=Ks x.b x.c)))):VP P G f [x.av] (.bool x.valid):=by
 refine VP.has h ?_
 simp only [kp]
 unfold CX.valid
 cases J4:x.G4
 . rw [if_neg (by decide)]
   repeat (first
     | simp (disch:=first | decide | exact rfl) only [SS,DD,Nat.reduceAdd,reduceIte,af,ai,az,ZZ,CC,aW,g0,g1,g2,decide_true,decide_false,mU,Et,Eu,Ev,J4]
     | with_reducible refine ao (by assumption) (by simp [ag,aq,aj,aa.int,aa.bool,aa.str,aA,ar,aw,aB,aE,aL]) ?_
     | with_reducible refine ay (by assumption) (by simp [ag,aq,aj,aa.int,aa.bool,aa.str,aA,ar,aw,aB,aE,aL]) ?_
     | with_reducible refine And.intro (a:=ab _ _) (by simp [ab,apart]) ?_
     | with_reducible refine VW.aI 3 (VW.of ?_)
     | with_reducible refine b9.next _ (VW.of ?_)
     | rw [au (by exact rfl) (by exact rfl) (by exact rfl) (by exact rfl) (by exact rfl)]
     | rw [bW (by exact rfl) (by exact rfl) (by exact rfl) (by exact rfl)]
     | rw [bX (by exact rfl) (by exact rfl) (by exact rfl) (by exact rfl) (by exact rfl) (by exact rfl)]
     | fail)
   exact ax▸ae rfl (aa.bool _)
 . rw [if_pos rfl]
   have e0:iN [.int .i64 0] []=some [.int .i64 0]:=rfl
   have e1:((AV.cells (.agg [.int .i64 0])).all AV.one=true)=True:=by simp [AV.cells,AV.one]
   have e2:part false (AV.cells (.agg [.int .i64 0])) 0 1=some (.int .i64 0):=rfl
   cases hd:decide (0<dm (Ks x.a x.c))
   all_goals
     repeat (first
       | simp (disch:=first | decide | exact rfl) only [SS,DD,Nat.reduceAdd,reduceIte,af,ai,az,ZZ,CC,aW,g0,g1,g2,decide_true,decide_false,mU,Et,Eu,Ev,G6,eM,cA,b6,J4,hd,e0,e1,e2,Bool.true_and,Bool.false_and]
       | with_reducible refine ao (by assumption) (by simp [ag,aq,aj,aa.int,aa.bool,aa.str,aA,ar,aw,aB,aE,aL]) ?_
       | with_reducible refine ay (by assumption) (by simp [ag,aq,aj,aa.int,aa.bool,aa.str,aA,ar,aw,aB,aE,aL]) ?_
       | with_reducible refine And.intro (a:=ab _ _) (by simp [ab,apart]) ?_
       | with_reducible refine VW.aI 3 (VW.of ?_)
       | with_reducible refine b9.next _ (VW.of ?_)
       | rw [au (by exact rfl) (by exact rfl) (by exact rfl) (by exact rfl) (by exact rfl)]
       | rw [bW (by exact rfl) (by exact rfl) (by exact rfl) (by exact rfl)]
       | rw [bX (by exact rfl) (by exact rfl) (by exact rfl) (by exact rfl) (by exact rfl) (by exact rfl)]
       | refine eI h1 (by decide) (by exact rfl) ?_
       | refine eI h2 (by decide) (by exact rfl) ?_
       | fail)
     exact ax▸ae rfl (aa.bool _)
theorem Oe {f fe:FuncId} (h:Has P f (ks fe)) (x y:CX) (hp:∀ u v,(u,v)∈[(x.a,y.a),(x.b,y.b),(x.c,y.c)]->VP P G fe [V2 u,V2 v] (.bool (decide (u=v)))):VP P G f [x.av,y.av] (.bool (x.same y)):=by
 have h1:=hp x.a y.a (by simp)
 have h2:=hp x.b y.b (by simp)
 have h3:=hp x.c y.c (by simp)
 have e1:∀ a b:Bool,(!(a==b))=true->(a==b)=false:=by decide
 unfold CX.same
 refine VP.has h ?_
 simp only [ks]
 rcases Bool.eq_false_or_eq_true (x.G4==y.G4) with c1 | c1
 . cases c2:decide (x.a=y.a)<;>cases c3:decide (x.b=y.b)<;>cases c4:x.G4<;>cases c5:decide (x.c=y.c)<;>rw [c2] at h1<;>rw [c3] at h2<;>rw [c5] at h3<;>rw [c4] at c1
   all_goals
     repeat (first
       | simp (disch:=first | decide | exact rfl) only [SS,DD,Nat.reduceAdd,reduceIte,af,ai,az,ZZ,CC,aW,g0,g1,g2,decide_true,decide_false,mU,Et,Eu,Ev,G6,UY,c1,c4,Bool.true_and,Bool.false_and,Bool.true_or,Bool.false_or]
       | with_reducible refine ao (by assumption) (by simp [ag,aq,aj,aa.int,aa.bool,aa.str,aA,ar,aw,aB,aE,aL]) ?_
       | with_reducible refine ay (by assumption) (by simp [ag,aq,aj,aa.int,aa.bool,aa.str,aA,ar,aw,aB,aE,aL]) ?_
       | with_reducible refine And.intro (a:=ab _ _) (by simp [ab,apart]) ?_
       | with_reducible refine VW.aI 3 (VW.of ?_)
       | with_reducible refine b9.next _ (VW.of ?_)
       | rw [au (by exact rfl) (by exact rfl) (by exact rfl) (by exact rfl) (by exact rfl)]
       | rw [bW (by exact rfl) (by exact rfl) (by exact rfl) (by exact rfl)]
       | rw [bX (by exact rfl) (by exact rfl) (by exact rfl) (by exact rfl) (by exact rfl) (by exact rfl)]
       | fail)
     exact ax▸ae (by first | rfl | (simp only [RS,a8,bg];simp [c1])) (aa.bool _)
 . skip
   repeat (first
     | simp (disch:=first | decide | exact rfl) only [SS,DD,Nat.reduceAdd,reduceIte,af,ai,az,ZZ,CC,aW,g0,g1,g2,decide_true,decide_false,mU,Et,c1,Bool.false_and]
     | with_reducible refine ao (by assumption) (by simp [ag,aq,aj,aa.int,aa.bool,aa.str,aA,ar,aw,aB,aE,aL]) ?_
     | with_reducible refine ay (by assumption) (by simp [ag,aq,aj,aa.int,aa.bool,aa.str,aA,ar,aw,aB,aE,aL]) ?_
     | with_reducible refine And.intro (a:=ab _ _) (by simp [ab,apart]) ?_
     | with_reducible refine VW.aI 3 (VW.of ?_)
     | with_reducible refine b9.next _ (VW.of ?_)
     | rw [au (by exact rfl) (by exact rfl) (by exact rfl) (by exact rfl) (by exact rfl)]
     | rw [bW (by exact rfl) (by exact rfl) (by exact rfl) (by exact rfl)]
     | rw [bX (by exact rfl) (by exact rfl) (by exact rfl) (by exact rfl) (by exact rfl) (by exact rfl)]
     | fail)
   exact ax▸ae rfl (aa.bool _)
end
end Go.VL
end
