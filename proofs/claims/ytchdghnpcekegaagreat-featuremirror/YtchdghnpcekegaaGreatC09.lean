/- For the claim of FeatureMirror: parts CQ2, CN4, CQ3, CQ4, CQ5, CQ6, CQ7, VL37. -/
import Derived.Test.YtchdghnpcekegaaGreatC08
set_option linter.unusedSimpArgs false
set_option linter.unusedVariables false
section
set_option linter.unusedVariables false
set_option linter.unusedVariables false
namespace Go.VL
theorem M7 (q:Rat):decide ((ag q.num.natAbs:Int)=0)=decide (q=0):=by
 have h1:=cI (n:=q.num.natAbs)
 have h2:=Rat.num_eq_zero (q:=q)
 congr 1;apply propext
 rw [<- h2];omega
theorem three (a b:Int) (h : ¬ (a=1/\b=1)):(decide (a=1)=true/\decide (b=1)=false)∨(decide (a=1)=false/\decide (b=1)=false)∨(decide (a=1)=false/\decide (b=1)=true):=by
 by_cases h1:a=1<;>by_cases h2:b=1<;>simp_all
theorem aaW (q:Rat):part false (QV q).cells 0 1=some (.bool (decide (q.num<0))):=rfl
section
variable {P:Program} {G:Nat->Option (List AV)}
set_option maxHeartbeats 1000000 in
theorem V3 {f fo fA fg fm fq:FuncId} (h:Has P f (l8 fo fA fg fm fq)) (ho:HN P G fo) (hA:M1 P G fA) (hg:JR P G fg) (hm:Fj P G fm) (hq:Q6 P G fq):Q3 P G f:=fun a b ha hb=>by
 have o1:=ho a.den
 have o2:=ho b.den
 have z1:=M7 a
 have z2:=M7 b
 have ha1:=ha.1
 have ha2:=ha.2
 have yY:=hb.1
 have DI:=hb.2
 obtain ⟨n1,n2⟩:=Y4 a b
 refine VP.has h ?_
 simp only [l8]
 by_cases a0:a=0
 . rw [ay a0] at z1
   rw [show a+b=b from by rw [a0,Rat.zero_add]]
   repeat (first
     | simp (disch:=first | decide | exact rfl) only [SS,Nat.reduceAdd,aq,ao,fH,Bi,cA,bg,z1,b8]
     | with_reducible refine ah (by assumption) (by simp [aw]) ?_
     | with_reducible refine ak (by assumption) (by simp [aw]) ?_
     | with_reducible refine And.intro (a:=ab _ _) (by simp [ab,apart]) ?_
     | with_reducible refine VW.aC 3 (VW.of ?_)
     | with_reducible refine bY.next _ (VW.of ?_)
     | rw [aj (by exact rfl) (by exact rfl) (by exact rfl) (by exact rfl) (by exact rfl)]
     | rw [bZ (by exact rfl) (by exact rfl) (by exact rfl) (by exact rfl)]
     | rw [b6 (by exact rfl) (by exact rfl) (by exact rfl) (by exact rfl) (by exact rfl) (by exact rfl)]
     | fail)
   refine ai▸ae (r:=QV b) ?_ (aA _)
   simp (disch:=decide) only [RS,aX,a9,ao,cA]
 rw [au a0] at z1
 by_cases b0:b=0
 . rw [ay b0] at z2
   rw [show a+b=a from by rw [b0,Rat.add_zero]]
   repeat (first
     | simp (disch:=first | decide | exact rfl) only [SS,Nat.reduceAdd,aq,ao,fH,Bi,cA,bg,z1,z2,b8]
     | with_reducible refine ah (by assumption) (by simp [aw]) ?_
     | with_reducible refine ak (by assumption) (by simp [aw]) ?_
     | with_reducible refine And.intro (a:=ab _ _) (by simp [ab,apart]) ?_
     | with_reducible refine VW.aC 3 (VW.of ?_)
     | with_reducible refine bY.next _ (VW.of ?_)
     | rw [aj (by exact rfl) (by exact rfl) (by exact rfl) (by exact rfl) (by exact rfl)]
     | rw [bZ (by exact rfl) (by exact rfl) (by exact rfl) (by exact rfl)]
     | rw [b6 (by exact rfl) (by exact rfl) (by exact rfl) (by exact rfl) (by exact rfl) (by exact rfl)]
     | fail)
   refine ai▸ae (r:=QV a) ?_ (aA _)
   simp (disch:=decide) only [RS,aX,a9,ao,cA]
 rw [au b0] at z2
 by_cases hdd:(a.den:Int)=1/\(b.den:Int)=1
 . have d3:=ay hdd.1
   have d4:=ay hdd.2
   have h1:=hA a.num b.num (by omega) (by omega)
   have hs:a+b=((a.num+b.num:Int):Rat):=by rw [Rat.intCast_add, <- AD hdd.1, <- AD hdd.2]
   have e:=Dm (z:=a.num+b.num) (d:=a.den) (q:=a+b) (by rw [hs];rfl) (by rw [hs,hdd.1];rfl)
   repeat (first
     | simp (disch:=first | decide | exact rfl) only [SS,DD,Nat.reduceAdd,aq,ao,fH,Bi,tw,tz,bg,z1,z2,d3,d4,b8,ss,e]
     | with_reducible refine ah (by assumption) (by simp [aw]) ?_
     | with_reducible refine ak (by assumption) (by simp [aw]) ?_
     | with_reducible refine And.intro (a:=ab _ _) (by simp [ab,apart]) ?_
     | with_reducible refine VW.aC 3 (VW.of ?_)
     | with_reducible refine bY.next _ (VW.of ?_)
     | rw [aj (by exact rfl) (by exact rfl) (by exact rfl) (by exact rfl) (by exact rfl)]
     | rw [bZ (by exact rfl) (by exact rfl) (by exact rfl) (by exact rfl)]
     | rw [b6 (by exact rfl) (by exact rfl) (by exact rfl) (by exact rfl) (by exact rfl) (by exact rfl)]
     | fail)
   refine ai▸ae (r:=QV (a+b)) ?_ (aA _)
   simp (disch:=decide) only [RS,aX,a9,ao,cA]
 have hgd:VP P G fg [IV a.den,IV b.den] (IV (Nat.gcd a.den b.den:Nat)):=hg a.den b.den (by rw [dF];omega) (by rw [dF];omega)
 have w1:=cf a.num b.den
 have w2:=cf b.num a.den
 have w3:=cf a.den b.den
 rw [dF] at w1 w2 w3
 rw [dF] at w3
 have o3:=ho (Nat.gcd a.den b.den:Nat)
 have hgp:0<Nat.gcd a.den b.den:=Nat.gcd_pos_of_pos_left _ a.den_pos
 generalize hgg:Nat.gcd a.den b.den=g at *
 by_cases g1:g=1
 . subst g1
   have o4:=ho 1
   have d5:decide ((1:Int)=1)=true:=rfl
   have m1:=hm a.num b.den (by omega) (by rw [dF];omega)
   have m2:=hm b.num a.den (by omega) (by rw [dF];omega)
   have m3:=hm a.den b.den (by rw [dF];omega) (by rw [dF];omega)
   have s1:=hA (a.num*b.den) (b.num*a.den) (by omega) (by omega)
   simp only [Nat.div_one,Nat.gcd_one_right,Int.natCast_one,Int.ediv_one] at n1 n2
   have e:=Dm (z:=a.num*b.den+b.num*a.den) (d:=a.den*b.den) (q:=a+b) n1 (by rw [n2];exact Int.natCast_mul _ _)
   rcases three _ _ hdd with ⟨d3,d4⟩ | ⟨d3,d4⟩ | ⟨d3,d4⟩
   all_goals
     repeat (first
       | simp (disch:=first | decide | exact rfl) only [SS,DD,Nat.reduceAdd,aq,ao,CC,decide_true,fH,Bi,tw,tz,bg,z1,z2,d3,d4,b8,b7,db,ss,e]
       | with_reducible refine ah (by assumption) (by simp [aw]) ?_
       | with_reducible refine ak (by assumption) (by simp [aw]) ?_
       | with_reducible refine And.intro (a:=ab _ _) (by simp [ab,apart]) ?_
       | with_reducible refine VW.aC 3 (VW.of ?_)
       | with_reducible refine bY.next _ (VW.of ?_)
       | rw [aj (by exact rfl) (by exact rfl) (by exact rfl) (by exact rfl) (by exact rfl)]
       | rw [bZ (by exact rfl) (by exact rfl) (by exact rfl) (by exact rfl)]
       | rw [b6 (by exact rfl) (by exact rfl) (by exact rfl) (by exact rfl) (by exact rfl) (by exact rfl)]
       | fail)
     refine ai▸ae (r:=QV (a+b)) ?_ (aA _)
     simp (disch:=decide) only [RS,aX,a9,ao,cA]
 . have d5:decide ((g:Int)=1)=false:=au (by omega)
   have hga:g ∣ a.den:=hgg▸Nat.gcd_dvd_left _ _
   have hgb:g ∣ b.den:=hgg▸Nat.gcd_dvd_right _ _
   have hgl:ag ((g:Nat):Int).natAbs<=100000:=Nat.le_trans (bE (Nat.le_of_dvd a.den_pos hga)) ha2
   have q1:=hq a.den g (by omega) (Int.ofNat_dvd.2 hga) (by rw [dF];omega) (by omega)
   have q2:=hq b.den g (by omega) (Int.ofNat_dvd.2 hgb) (by rw [dF];omega) (by omega)
   rw [<- Int.natCast_ediv] at q1 q2
   have wx:ag (((a.den/g:Nat):Int)).natAbs<=100000:=Nat.le_trans (bE (Nat.div_le_self _ _)) ha2
   have wy:ag (((b.den/g:Nat):Int)).natAbs<=100000:=Nat.le_trans (bE (Nat.div_le_self _ _)) DI
   generalize a.den/g=x at *
   generalize b.den/g=y at *
   have m1:=hm a.num y (by omega) (by omega)
   have m2:=hm b.num x (by omega) (by omega)
   have v1:=cf a.num y
   have v2:=cf b.num x
   have s1:=hA (a.num*y) (b.num*x) (by omega) (by omega)
   have v3:ag (a.num*y+b.num*x).natAbs<=200001:=Nat.le_trans (bE (Int.natAbs_add_le _ _)) (rf (k:=200000) (by omega) (by omega))
   generalize a.num*y+b.num*x=N at *
   have g2:=hg N g (by omega) (by omega)
   rw [Int.natAbs_natCast] at g2
   have hp:0<Nat.gcd N.natAbs g:=Nat.gcd_pos_of_pos_right _ hgp
   have hhl:ag (((Nat.gcd N.natAbs g:Nat):Int)).natAbs<=100000:=Nat.le_trans (bE (Nat.le_of_dvd hgp (Nat.gcd_dvd_right _ _))) hgl
   have hdN:((Nat.gcd N.natAbs g:Nat):Int) ∣ N:=Int.ofNat_dvd_left.2 (Nat.gcd_dvd_left _ _)
   have hdb:Nat.gcd N.natAbs g ∣ b.den:=Nat.dvd_trans (Nat.gcd_dvd_right _ _) hgb
   generalize Nat.gcd N.natAbs g=k at *
   have q3:=hq N k (by omega) hdN (by omega) (by omega)
   have q4:=hq b.den k (by omega) (Int.ofNat_dvd.2 hdb) (by rw [dF];omega) (by omega)
   rw [<- Int.natCast_ediv] at q4
   have m3:=hm x ((b.den/k:Nat):Int) (by omega) (Nat.le_trans (bE (Nat.div_le_self _ _)) (by omega))
   have e:=Dm (z:=N/k) (d:=x*((b.den/k:Nat):Int)) (q:=a+b) n1 (by rw [n2];exact Int.natCast_mul _ _)
   rcases three _ _ hdd with ⟨d3,d4⟩ | ⟨d3,d4⟩ | ⟨d3,d4⟩
   all_goals
     repeat (first
       | simp (disch:=first | decide | exact rfl) only [SS,DD,Nat.reduceAdd,aq,ao,fH,Bi,tw,tz,bg,z1,z2,d3,d4,d5,b8,b7,db,ss,e]
       | with_reducible refine ah (by assumption) (by simp [aw]) ?_
       | with_reducible refine ak (by assumption) (by simp [aw]) ?_
       | with_reducible refine And.intro (a:=ab _ _) (by simp [ab,apart]) ?_
       | with_reducible refine VW.aC 3 (VW.of ?_)
       | with_reducible refine bY.next _ (VW.of ?_)
       | rw [aj (by exact rfl) (by exact rfl) (by exact rfl) (by exact rfl) (by exact rfl)]
       | rw [bZ (by exact rfl) (by exact rfl) (by exact rfl) (by exact rfl)]
       | rw [b6 (by exact rfl) (by exact rfl) (by exact rfl) (by exact rfl) (by exact rfl) (by exact rfl)]
       | fail)
     refine ai▸ae (r:=QV (a+b)) ?_ (aA _)
     simp (disch:=decide) only [RS,aX,a9,ao,cA]
set_option maxHeartbeats 1000000 in
theorem SZ {f ff fo fm fg fq:FuncId} (h:Has P f (lZ ff fo fm fg fq)) (hf:VP P G ff [.int .i64 0] (QV 0)) (ho:HN P G fo) (hm:Fj P G fm) (hg:JR P G fg) (hq:Q6 P G fq):Q4 P G f:=fun a b ha hb=>by
 have o1:=ho a.den
 have o2:=ho b.den
 have z1:=M7 a
 have z2:=M7 b
 have ha1:=ha.1
 have ha2:=ha.2
 have yY:=hb.1
 have DI:=hb.2
 obtain ⟨n1,n2⟩:=Y5 a b
 refine VP.has h ?_
 simp only [lZ]
 by_cases h0:a=0∨b=0
 . rw [show a*b=0 from by rcases h0 with e | e<;>rw [e]<;>simp [Rat.zero_mul,Rat.mul_zero]]
   have h3:(decide (a=0)=true/\decide (b=0)=true)∨(decide (a=0)=true/\decide (b=0)=false)∨(decide (a=0)=false/\decide (b=0)=true):=by
     by_cases e1:a=0<;>by_cases e2:b=0<;>simp_all
   rcases h3 with ⟨d3,d4⟩ | ⟨d3,d4⟩ | ⟨d3,d4⟩
   all_goals
     rw [d3] at z1
     rw [d4] at z2
     repeat (first
       | simp (disch:=first | decide | exact rfl) only [SS,Nat.reduceAdd,aq,ao,fH,Bi,bg,z1,z2,b8]
       | with_reducible refine ah (by assumption) (by simp [aw,aa.int]) ?_
       | with_reducible refine ak (by assumption) (by simp [aw]) ?_
       | with_reducible refine And.intro (a:=ab _ _) (by simp [ab,apart]) ?_
       | with_reducible refine VW.aC 3 (VW.of ?_)
       | with_reducible refine bY.next _ (VW.of ?_)
       | rw [aj (by exact rfl) (by exact rfl) (by exact rfl) (by exact rfl) (by exact rfl)]
       | rw [bZ (by exact rfl) (by exact rfl) (by exact rfl) (by exact rfl)]
       | rw [b6 (by exact rfl) (by exact rfl) (by exact rfl) (by exact rfl) (by exact rfl) (by exact rfl)]
       | fail)
     refine ai▸ae (r:=QV 0) ?_ (aA _)
     simp (disch:=decide) only [RS,aX,a9,ao,cA]
 rw [au (fun e=>h0 (.inl e))] at z1
 rw [au (fun e=>h0 (.inr e))] at z2
 by_cases hdd:(a.den:Int)=1/\(b.den:Int)=1
 . have d3:=ay hdd.1
   have d4:=ay hdd.2
   have h1:=hm a.num b.num (by omega) (by omega)
   have hs:a*b=((a.num*b.num:Int):Rat):=by rw [Rat.intCast_mul, <- AD hdd.1, <- AD hdd.2]
   have e:=Dm (z:=a.num*b.num) (d:=a.den) (q:=a*b) (by rw [hs];rfl) (by rw [hs,hdd.1];rfl)
   repeat (first
     | simp (disch:=first | decide | exact rfl) only [SS,DD,Nat.reduceAdd,aq,ao,fH,Bi,tw,tz,bg,z1,z2,d3,d4,b8,ss,e]
     | with_reducible refine ah (by assumption) (by simp [aw]) ?_
     | with_reducible refine ak (by assumption) (by simp [aw]) ?_
     | with_reducible refine And.intro (a:=ab _ _) (by simp [ab,apart]) ?_
     | with_reducible refine VW.aC 3 (VW.of ?_)
     | with_reducible refine bY.next _ (VW.of ?_)
     | rw [aj (by exact rfl) (by exact rfl) (by exact rfl) (by exact rfl) (by exact rfl)]
     | rw [bZ (by exact rfl) (by exact rfl) (by exact rfl) (by exact rfl)]
     | rw [b6 (by exact rfl) (by exact rfl) (by exact rfl) (by exact rfl) (by exact rfl) (by exact rfl)]
     | fail)
   refine ai▸ae (r:=QV (a*b)) ?_ (aA _)
   simp (disch:=decide) only [RS,aX,a9,ao,cA]
 have g1:VP P G fg [IV a.num,IV b.den] (IV (Nat.gcd a.num.natAbs b.den:Nat)):=hg a.num b.den (by omega) (by rw [dF];omega)
 have g2:VP P G fg [IV b.num,IV a.den] (IV (Nat.gcd b.num.natAbs a.den:Nat)):=hg b.num a.den (by omega) (by rw [dF];omega)
 have p1:0<Nat.gcd a.num.natAbs b.den:=Nat.gcd_pos_of_pos_right _ b.den_pos
 have p2:0<Nat.gcd b.num.natAbs a.den:=Nat.gcd_pos_of_pos_right _ a.den_pos
 have x1:((Nat.gcd a.num.natAbs b.den:Nat):Int) ∣ a.num:=Int.ofNat_dvd_left.2 (Nat.gcd_dvd_left _ _)
 have x2:((Nat.gcd b.num.natAbs a.den:Nat):Int) ∣ b.num:=Int.ofNat_dvd_left.2 (Nat.gcd_dvd_left _ _)
 have y1:Nat.gcd a.num.natAbs b.den ∣ b.den:=Nat.gcd_dvd_right _ _
 have y2:Nat.gcd b.num.natAbs a.den ∣ a.den:=Nat.gcd_dvd_right _ _
 generalize Nat.gcd a.num.natAbs b.den=g at *
 generalize Nat.gcd b.num.natAbs a.den=k at *
 have l1:ag ((g:Nat):Int).natAbs<=100000:=Nat.le_trans (bE (Nat.le_of_dvd b.den_pos y1)) DI
 have l2:ag ((k:Nat):Int).natAbs<=100000:=Nat.le_trans (bE (Nat.le_of_dvd a.den_pos y2)) ha2
 have q1:=hq a.num g (by omega) x1 (by omega) (by omega)
 have q2:=hq b.num k (by omega) x2 (by omega) (by omega)
 have q3:=hq a.den k (by omega) (Int.ofNat_dvd.2 y2) (by rw [dF];omega) (by omega)
 have q4:=hq b.den g (by omega) (Int.ofNat_dvd.2 y1) (by rw [dF];omega) (by omega)
 rw [<- Int.natCast_ediv] at q3 q4
 have m1:=hm (a.num/g) (b.num/k) (Nat.le_trans (bE (Int.natAbs_ediv_le_natAbs _ _)) (by omega)) (Nat.le_trans (bE (Int.natAbs_ediv_le_natAbs _ _)) (by omega))
 have m2:=hm ((a.den/k:Nat):Int) ((b.den/g:Nat):Int) (Nat.le_trans (bE (Nat.div_le_self _ _)) (by omega)) (Nat.le_trans (bE (Nat.div_le_self _ _)) (by omega))
 have e:=Dm (z:=a.num/g*(b.num/k)) (d:=((a.den/k:Nat):Int)*((b.den/g:Nat):Int)) (q:=a*b) n1 (by rw [n2];exact Int.natCast_mul _ _)
 rcases three _ _ hdd with ⟨d3,d4⟩ | ⟨d3,d4⟩ | ⟨d3,d4⟩
 all_goals
   repeat (first
     | simp (disch:=first | decide | exact rfl) only [SS,DD,Nat.reduceAdd,aq,ao,fH,Bi,tw,tz,bg,z1,z2,d3,d4,b8,b7,db,ss,e]
     | with_reducible refine ah (by assumption) (by simp [aw]) ?_
     | with_reducible refine ak (by assumption) (by simp [aw]) ?_
     | with_reducible refine And.intro (a:=ab _ _) (by simp [ab,apart]) ?_
     | with_reducible refine VW.aC 3 (VW.of ?_)
     | with_reducible refine bY.next _ (VW.of ?_)
     | rw [aj (by exact rfl) (by exact rfl) (by exact rfl) (by exact rfl) (by exact rfl)]
     | rw [bZ (by exact rfl) (by exact rfl) (by exact rfl) (by exact rfl)]
     | rw [b6 (by exact rfl) (by exact rfl) (by exact rfl) (by exact rfl) (by exact rfl) (by exact rfl)]
     | fail)
   refine ai▸ae (r:=QV (a*b)) ?_ (aA _)
   simp (disch:=decide) only [RS,aX,a9,ao,cA]
theorem V4 {f fn:FuncId} (h:Has P f (me fn)) (hn:M3 P G fn) (a:Rat) (ha0:a≠0) (ha:Sm 100000 a):VP P G f [QV a] (QV a⁻¹):=by
 have ha1:=ha.1
 have ha2:=ha.2
 have F0:a.num≠0:=fun e=>ha0 (Rat.num_eq_zero.1 e)
 have e1:=Rat.num_inv a
 have e2:=Rat.den_inv a
 rw [if_neg F0] at e2
 refine VP.has h ?_
 simp only [me]
 by_cases hs:a.num<0
 . have d1:=ay hs
   have h1:=hn a.num (by omega)
   have h2:=hn a.den (by rw [dF];omega)
   have e:=Dm (z := -(a.den:Int)) (d := -a.num) (q:=a⁻¹) (by rw [e1,Int.sign_eq_neg_one_of_neg hs];omega) (by omega)
   repeat (first
     | simp (disch:=first | decide | exact rfl) only [SS,DD,Nat.reduceAdd,aq,ao,fH,tw,tz,d1,b8,ss,e,aaW]
     | with_reducible refine ah (by assumption) (by simp [aw]) ?_
     | with_reducible refine ak (by assumption) (by simp [aw]) ?_
     | with_reducible refine And.intro (a:=ab _ _) (by simp [ab,apart]) ?_
     | with_reducible refine VW.aC 3 (VW.of ?_)
     | with_reducible refine bY.next _ (VW.of ?_)
     | rw [aj (by exact rfl) (by exact rfl) (by exact rfl) (by exact rfl) (by exact rfl)]
     | rw [bZ (by exact rfl) (by exact rfl) (by exact rfl) (by exact rfl)]
     | rw [b6 (by exact rfl) (by exact rfl) (by exact rfl) (by exact rfl) (by exact rfl) (by exact rfl)]
     | fail)
   refine ai▸ae (r:=QV a⁻¹) ?_ (aA _)
   simp (disch:=decide) only [RS,aX,a9,ao,cA]
 . have d1:=au hs
   have e:=Dm (z:=(a.den:Int)) (d:=a.num) (q:=a⁻¹) (by rw [e1,Int.sign_eq_one_of_pos (by omega)];omega) (by omega)
   rw [d1] at e
   repeat (first
     | simp (disch:=first | decide | exact rfl) only [SS,Nat.reduceAdd,aq,ao,fH,tw,tz,d1,b8,ss,e,aaW]
     | with_reducible refine ah (by assumption) (by simp [aw,aB,aA,aa.int,aa.bool,aa.str,aS]) ?_
     | with_reducible refine ak (by assumption) (by simp [aw,aB,aA,aa.int,aa.bool,aa.str,aS]) ?_
     | with_reducible refine And.intro (a:=ab _ _) (by simp [ab,apart]) ?_
     | with_reducible refine VW.aC 3 (VW.of ?_)
     | with_reducible refine bY.next _ (VW.of ?_)
     | rw [aj (by exact rfl) (by exact rfl) (by exact rfl) (by exact rfl) (by exact rfl)]
     | rw [bZ (by exact rfl) (by exact rfl) (by exact rfl) (by exact rfl)]
     | rw [b6 (by exact rfl) (by exact rfl) (by exact rfl) (by exact rfl) (by exact rfl) (by exact rfl)]
     | fail)
   refine ai▸ae (r:=QV a⁻¹) ?_ (aA _)
   simp (disch:=decide) only [RS,aX,a9,ao,cA]
end
end Go.VL
end

section
set_option linter.unusedVariables false
set_option linter.unusedVariables false
namespace Go.VL
theorem mZ (a b:Rat):aa (.sl 2 [NV a,NV b]):=aa.sl (by intro c hc;simp [flat] at hc;rcases hc with h | h<;>exact HO _ c h)
theorem acy (a:Rat):part false (EV a).cells 0 1=some (EV a):=rfl
theorem F6 {σ : af} {id:Id} {a b:Rat} {f t:Bool} (h : σ id=some ⟨[NV a,NV b],2,f⟩):View σ (.osl id 2 0 2 t) (.sl 2 [NV a,NV b]):=VR h rfl rfl (HO a) (HO b)
theorem Zh {σ : af} {id:Id} {a:Rat} {f t:Bool} (h : σ id=some ⟨[EV a],1,f⟩):View σ (.osl id 1 0 1 t) (.sl 1 [EV a]):=OX h rfl (by intro c hc;simp [EV,AV.cells] at hc;subst hc;exact aD a)
section
variable {P:Program} {G:Nat->Option (List AV)}
theorem pc {f:FuncId} (h:Has P f cO) {es:List AV} (hk:∀ e∈es,e.size=4) (h1:(es.all fun e=>e.cells.all AV.one)=true) (hp:∀ c∈flat es,aa c) (hl:es.length*64<=140737488355328):VP P G f [.sl 4 es] (.sl 4 es):=by
 refine VP.has h ?_
 have hb:∀ (σ : af) (p:Id),bO σ p (.buildSl 4 0 (AV.agg [(.bool false), .nils,(.bool false), .nils]) [])=some { val := .tsl 4 [] }:=fun σ p=>bs0 rfl rfl
 cases es with
 | nil =>
   simp only [cO,SS,Nat.reduceAdd]
   refine ⟨?_, ?_⟩
   . exact ai▸⟨.nils,rfl,View.nils 4⟩
   . simp only [SS,Nat.reduceAdd,hb,o8 eO]
     exact ai▸⟨_,rfl,View.Yn 4⟩
 | cons e es =>
   simp only [cO,SS,Nat.reduceAdd,hb]
   rw [j3 (es:=[]) eO (by simp) (by simpa using hl) (eD (by simp at hl ⊢;omega)) (by simpa using h1)]
   simp only [SS,Nat.reduceAdd]
   refine ai▸⟨_,rfl,View.osl (bk:=⟨e::es,4,false⟩) rfl rfl (by simp) ?_ (by simp) hk⟩
   simpa using aG.pure hp
theorem S2 {f:FuncId} (h:Has P f cO) (q:Rat):VP P G f [EV q] (EV q) :=
 pc h (by simp [KS]) (by simpa using (of_eq_true (fH q))) (by intro c hc;simp [flat] at hc;exact Dn q c hc) (by simp)
theorem acz {f fc fi:FuncId} (h:Has P f (wT fc fi)) (q:Rat) (hc:VP P G fc [EV q] (EV q)):VP P G f [.nils,EV q] (EV q):=by
 refine VP.has h ?_
 simp only [wT]
 repeat (first
   | simp (disch:=first | decide | exact rfl) only [SS,Nat.reduceAdd,aP,ZZ,uQ,JQ]
   | with_reducible refine ah (by assumption) (by simp [aD]) ?_
   | with_reducible refine ak (by assumption) (by simp [aD]) ?_
   | with_reducible refine And.intro (a:=ab _ _) (by simp [ab,apart]) ?_
   | with_reducible refine VW.aC 3 (VW.of ?_)
   | with_reducible refine bY.next _ (VW.of ?_)
   | rw [aj (by exact rfl) (by exact rfl) (by exact rfl) (by exact rfl) (by exact rfl)]
   | rw [bZ (by exact rfl) (by exact rfl) (by exact rfl) (by exact rfl)]
   | rw [b6 (by exact rfl) (by exact rfl) (by exact rfl) (by exact rfl) (by exact rfl) (by exact rfl)]
   | fail)
 exact ai▸ae rfl (aD _)
theorem S3 {f fb fe:FuncId} (h:Has P f (qy fb fe)) (a b:Rat) (hb:VP P G fb [.nils, .nils] (.bool true)):VP P G f [.sl 2 [NV a,NV b]] (.tup [.nils, .int .i64 0]):=by
 refine VP.has h ?_
 simp only [qy]
 repeat (first
   | simp (disch:=first | decide | exact rfl) only [SS,Nat.reduceAdd,ao,aP,ZZ,CC,MZ,SR,aI,cB,tD,bU]
   | with_reducible refine ah (by assumption) (by simp [aS]) ?_
   | with_reducible refine ak (by assumption) (by simp [aS]) ?_
   | with_reducible refine And.intro (a:=ab _ _) (by simp [ab,apart]) ?_
   | with_reducible refine VW.aC 3 (VW.of ?_)
   | with_reducible refine bY.next _ (VW.of ?_)
   | rw [aj (by exact rfl) (by exact rfl) (by exact rfl) (by exact rfl) (by exact rfl)]
   | rw [bZ (by exact rfl) (by exact rfl) (by exact rfl) (by exact rfl)]
   | rw [b6 (by exact rfl) (by exact rfl) (by exact rfl) (by exact rfl) (by exact rfl) (by exact rfl)]
   | fail)
 exact ai▸ae rfl (aa.tup (by simp [aS,aa.int]))
theorem Zi {f fc fb fp fe fi fd:FuncId} (h:Has P f (tZ fc fb fp fe fi fd)) (a b:Rat) (hc:VP P G fc [.sl 2 [NV a,NV b]] (.tup [.nils, .int .i64 0])) (hb:VP P G fb [.nils, .nils] (.bool true))
   (hpa:VP P G fp [.nils,EV a] (EV a)) (hpb:VP P G fp [.nils,EV b] (EV b)) (hda:VP P G fd [NV a] (NV a)) (hdb:VP P G fd [NV b] (NV b)):VP P G f [.sl 2 [NV a,NV b]] (.tup [.sl 2 [NV a,NV b], .int .i64 0]):=by
 refine VP.has h ?_
 simp only [tZ]
 repeat (first
   | simp (disch:=first | decide | exact rfl) only [SS,Nat.reduceAdd,aq,ao,aP,ZZ,CC,g0,g1,MZ,SR,aI,cB,tD,wq,bU,Q9]
   | with_reducible refine ah (by assumption) (by simp [aS,aD,aF,mZ]) ?_
   | with_reducible refine ak (by assumption) (by simp [aF]) ?_
   | with_reducible refine And.intro (a:=ab _ _) (by simp [ab,apart]) ?_
   | with_reducible refine VW.aC 3 (VW.of ?_)
   | with_reducible refine bY.next _ (VW.of ?_)
   | rw [aj (by exact rfl) (by exact rfl) (by exact rfl) (by exact rfl) (by exact rfl)]
   | rw [bZ (by exact rfl) (by exact rfl) (by exact rfl) (by exact rfl)]
   | rw [b6 (by exact rfl) (by exact rfl) (by exact rfl) (by exact rfl) (by exact rfl) (by exact rfl)]
   | rw [HP (by exact rfl)]
   | rw [HQ (by exact rfl)]
   | rw [uP (by exact rfl) (by decide) (by exact rfl)]
   | rw [VQ (by exact rfl) (by exact rfl) (by decide) (by exact rfl) (by exact rfl)]
   | fail)
 refine ai▸⟨_,rfl,View.tup (.cons (F6 (by exact rfl)) (.cons (View.pure (aa.int _ _)) .nil))⟩
theorem B5 {f fj fo:FuncId} (h:Has P f (pJ fj)) (a b c:Rat) (hj:VP P G fj [.sl 2 [NV a,NV b]] (.tup [.sl 2 [NV a,NV b], .int .i64 0])) (ho:VP P G fo [.nils,EV a,EV b] (EV c)) :
   VP P G f [NV a,NV b, .fn (.func fo) [] []] (.tup [NV c, .int .i64 0]):=by
 refine VP.has h ?_
 simp only [pJ]
 repeat (first
   | simp (disch:=first | decide | exact rfl) only [SS,DD,Nat.reduceAdd,aq,ao,ZZ,OW,g0,g1,g8,cB,tD,wq,bU,MZ,SR,aI,Dp,JS]
   | with_reducible refine ah (by assumption) (by simp [aS,aD]) ?_
   | with_reducible refine ak (by assumption) (by simp [aS,aD]) ?_
   | with_reducible refine And.intro (a:=ab _ _) (by simp [ab,apart]) ?_
   | with_reducible refine VW.aC 3 (VW.of ?_)
   | with_reducible refine bY.next _ (VW.of ?_)
   | rw [aj (by exact rfl) (by exact rfl) (by exact rfl) (by exact rfl) (by exact rfl)]
   | rw [bZ (by exact rfl) (by exact rfl) (by exact rfl) (by exact rfl)]
   | rw [b6 (by exact rfl) (by exact rfl) (by exact rfl) (by exact rfl) (by exact rfl) (by exact rfl)]
   | refine bJ [([6],⟨[NV a,NV b],2,false⟩)] hj (aG.cons (F6 (by exact rfl)) aG.nil) (by simp [af.put]) ?_
   | fail)
 refine ai▸ae (r := .tup [NV c, .int .i64 0]) ?_ (aa.tup (by simp [aF,aa.int]))
 simp only [RS,aX,a9,ao,cB]
theorem Zj {f fc fo:FuncId} (h:Has P f (wV fc fo)) (a b c:Rat) (hc:VP P G fc [NV a,NV b, .fn (.func fo) [] []] (.tup [NV c, .int .i64 0])):VP P G f [NV a,NV b] (.tup [NV c, .int .i64 0]):=by
 refine VP.has h ?_
 simp only [wV]
 repeat (first
   | simp (disch:=first | decide | exact rfl) only [SS,Nat.reduceAdd,aq,ao,g0,g1,g8,cB,bU]
   | with_reducible refine ah (by assumption) (by simp [aF,cg]) ?_
   | with_reducible refine ak (by assumption) (by simp [aF,cg]) ?_
   | with_reducible refine And.intro (a:=ab _ _) (by simp [ab,apart]) ?_
   | with_reducible refine VW.aC 3 (VW.of ?_)
   | with_reducible refine bY.next _ (VW.of ?_)
   | rw [aj (by exact rfl) (by exact rfl) (by exact rfl) (by exact rfl) (by exact rfl)]
   | rw [bZ (by exact rfl) (by exact rfl) (by exact rfl) (by exact rfl)]
   | rw [b6 (by exact rfl) (by exact rfl) (by exact rfl) (by exact rfl) (by exact rfl) (by exact rfl)]
   | fail)
 refine ai▸ae (r := .tup [NV c, .int .i64 0]) ?_ (aa.tup (by simp [aF,aa.int]))
 simp only [RS,aX,a9,ao,cB]
theorem Zk {f fc fo:FuncId} (h:Has P f (wW fc fo)) (a b c:Rat) (hc:VP P G fc [NV a,NV b, .fn (.func fo) [] []] (.tup [NV c, .int .i64 0])):VP P G f [NV a,NV b] (.tup [NV c, .int .i64 0]):=by
 refine VP.has h ?_
 simp only [wW]
 repeat (first
   | simp (disch:=first | decide | exact rfl) only [SS,Nat.reduceAdd,aq,ao,g0,g1,g8,cB,bU]
   | with_reducible refine ah (by assumption) (by simp [aF,cg]) ?_
   | with_reducible refine ak (by assumption) (by simp [aF,cg]) ?_
   | with_reducible refine And.intro (a:=ab _ _) (by simp [ab,apart]) ?_
   | with_reducible refine VW.aC 3 (VW.of ?_)
   | with_reducible refine bY.next _ (VW.of ?_)
   | rw [aj (by exact rfl) (by exact rfl) (by exact rfl) (by exact rfl) (by exact rfl)]
   | rw [bZ (by exact rfl) (by exact rfl) (by exact rfl) (by exact rfl)]
   | rw [b6 (by exact rfl) (by exact rfl) (by exact rfl) (by exact rfl) (by exact rfl) (by exact rfl)]
   | fail)
 refine ai▸ae (r := .tup [NV c, .int .i64 0]) ?_ (aa.tup (by simp [aF,aa.int]))
 simp only [RS,aX,a9,ao,cB]
theorem Zl {f fc fo:FuncId} (h:Has P f (wX fc fo)) (a b c:Rat) (hc:VP P G fc [NV a,NV b, .fn (.func fo) [] []] (.tup [NV c, .int .i64 0])):VP P G f [NV a,NV b] (.tup [NV c, .int .i64 0]):=by
 refine VP.has h ?_
 simp only [wX]
 repeat (first
   | simp (disch:=first | decide | exact rfl) only [SS,Nat.reduceAdd,aq,ao,g0,g1,g8,cB,bU]
   | with_reducible refine ah (by assumption) (by simp [aF,cg]) ?_
   | with_reducible refine ak (by assumption) (by simp [aF,cg]) ?_
   | with_reducible refine And.intro (a:=ab _ _) (by simp [ab,apart]) ?_
   | with_reducible refine VW.aC 3 (VW.of ?_)
   | with_reducible refine bY.next _ (VW.of ?_)
   | rw [aj (by exact rfl) (by exact rfl) (by exact rfl) (by exact rfl) (by exact rfl)]
   | rw [bZ (by exact rfl) (by exact rfl) (by exact rfl) (by exact rfl)]
   | rw [b6 (by exact rfl) (by exact rfl) (by exact rfl) (by exact rfl) (by exact rfl) (by exact rfl)]
   | fail)
 refine ai▸ae (r := .tup [NV c, .int .i64 0]) ?_ (aa.tup (by simp [aF,aa.int]))
 simp only [RS,aX,a9,ao,cB]
theorem Zm {f fd fn:FuncId} (h:Has P f (wY fd fn)) (a:Rat) (hd:VP P G fd [NV a] (NV a)) (hn:VP P G fn [.nils,EV a] (EV (-a))):VP P G f [NV a] (NV (-a)):=by
 refine VP.has h ?_
 simp only [wY]
 repeat (first
   | simp (disch:=first | decide | exact rfl) only [SS,Nat.reduceAdd,aq,ao,g8,cB,tD,wq,bU]
   | with_reducible refine ah (by assumption) (by simp [aS,aD,aF]) ?_
   | with_reducible refine ak (by assumption) (by simp [aS,aD]) ?_
   | with_reducible refine And.intro (a:=ab _ _) (by simp [ab,apart]) ?_
   | with_reducible refine VW.aC 3 (VW.of ?_)
   | with_reducible refine bY.next _ (VW.of ?_)
   | rw [aj (by exact rfl) (by exact rfl) (by exact rfl) (by exact rfl) (by exact rfl)]
   | rw [bZ (by exact rfl) (by exact rfl) (by exact rfl) (by exact rfl)]
   | rw [b6 (by exact rfl) (by exact rfl) (by exact rfl) (by exact rfl) (by exact rfl) (by exact rfl)]
   | rw [HQ (by exact rfl)]
   | fail)
 refine ai▸ae (r:=NV (-a)) ?_ (aF _)
 simp only [RS,aX,a9,ao,cB]
theorem Zn {f fi fm:FuncId} (h:Has P f (wZ fi fm)) (a b c:Rat) (hi:VP P G fi [.nils,EV b] (.tup [EV (1/b), .int .i64 0])) (hm:VP P G fm [NV a,NV (1/b)] (.tup [NV c, .int .i64 0])):VP P G f [NV a,NV b] (.tup [NV c, .int .i64 0]):=by
 refine VP.has h ?_
 simp only [wZ]
 repeat (first
   | simp (disch:=first | decide | exact rfl) only [SS,Nat.reduceAdd,aq,ao,ZZ,g0,g1,g8,cB,tD,wq,bU,Dp,JS]
   | with_reducible refine ah (by assumption) (by simp [aS,aD,aF]) ?_
   | with_reducible refine ak (by assumption) (by simp [aF]) ?_
   | with_reducible refine And.intro (a:=ab _ _) (by simp [ab,apart]) ?_
   | with_reducible refine VW.aC 3 (VW.of ?_)
   | with_reducible refine bY.next _ (VW.of ?_)
   | rw [aj (by exact rfl) (by exact rfl) (by exact rfl) (by exact rfl) (by exact rfl)]
   | rw [bZ (by exact rfl) (by exact rfl) (by exact rfl) (by exact rfl)]
   | rw [b6 (by exact rfl) (by exact rfl) (by exact rfl) (by exact rfl) (by exact rfl) (by exact rfl)]
   | fail)
 refine ai▸ae (r := .tup [NV c, .int .i64 0]) ?_ (aa.tup (by simp [aF,aa.int]))
 simp only [RS,aX,a9,ao,cB]
theorem V5 {f fs:FuncId} (h:Has P f (uc fs)) (a:Rat) (hs:VP P G fs [.nils,EV a] (.int .i64 (dm a))):VP P G f [NV a] (.int .i64 (dm a)):=by
 refine VP.has h ?_
 simp only [uc]
 repeat (first
   | simp (disch:=first | decide | exact rfl) only [SS,Nat.reduceAdd,ao,g8,tD,wq]
   | with_reducible refine ah (by assumption) (by simp [aS,aD]) ?_
   | with_reducible refine ak (by assumption) (by simp [aS,aD]) ?_
   | with_reducible refine And.intro (a:=ab _ _) (by simp [ab,apart]) ?_
   | with_reducible refine VW.aC 3 (VW.of ?_)
   | with_reducible refine bY.next _ (VW.of ?_)
   | rw [aj (by exact rfl) (by exact rfl) (by exact rfl) (by exact rfl) (by exact rfl)]
   | rw [bZ (by exact rfl) (by exact rfl) (by exact rfl) (by exact rfl)]
   | rw [b6 (by exact rfl) (by exact rfl) (by exact rfl) (by exact rfl) (by exact rfl) (by exact rfl)]
   | fail)
 exact ai▸ae rfl (aa.int _ _)
theorem S4 {f f1 f2 f3 f4 f5 f6 f7:FuncId} (h:Has P f (rI f1 f2 f3 f4 f5 f6 f7)) (a b:Rat) (h1:VP P G f1 [.nils, .nils] (.bool true)) (h2:VP P G f2 [EV a,EV b] (.bool (decide (a=b)))):VP P G f [NV a,NV b] (.bool (decide (a=b))):=by
 refine VP.has h ?_
 simp only [rI]
 repeat (first
   | simp (disch:=first | decide | exact rfl) only [SS,Nat.reduceAdd,aq,ao,g8,tD,wq]
   | with_reducible refine ah (by assumption) (by simp [aS,aD]) ?_
   | with_reducible refine ak (by assumption) (by simp [aD]) ?_
   | with_reducible refine And.intro (a:=ab _ _) (by simp [ab,apart]) ?_
   | with_reducible refine VW.aC 3 (VW.of ?_)
   | with_reducible refine bY.next _ (VW.of ?_)
   | rw [aj (by exact rfl) (by exact rfl) (by exact rfl) (by exact rfl) (by exact rfl)]
   | rw [bZ (by exact rfl) (by exact rfl) (by exact rfl) (by exact rfl)]
   | rw [b6 (by exact rfl) (by exact rfl) (by exact rfl) (by exact rfl) (by exact rfl) (by exact rfl)]
   | fail)
 exact ai▸ae rfl (aa.bool _)
theorem S5 {f fi:FuncId} (h:Has P f (p5 fi)) (hi:VP P G fi [.int .i64 0] (QV 0)) (p:Id):aZ P G f [.int .i64 1] p [] { val := .osl (2::p) 4 0 1 false,rd:=[],up:=[(2::p,some ⟨[QV 0],4,false⟩)] }:=by
 refine aZ.has h ?_
 simp only [p5]
 repeat (first
   | simp (disch:=first | decide | exact rfl) only [SS,Nat.reduceAdd,aP,ZZ,CC,KR,M0]
   | with_reducible refine ah (by assumption) (by simp [aa.int]) ?_
   | with_reducible refine ak (by assumption) (by simp [aa.int]) ?_
   | with_reducible refine And.intro (a:=ab _ _) (by simp [ab,apart]) ?_
   | with_reducible refine VW.aC 3 (VW.of ?_)
   | with_reducible refine bY.next _ (VW.of ?_)
   | rw [aj (by exact rfl) (by exact rfl) (by exact rfl) (by exact rfl) (by exact rfl)]
   | rw [bZ (by exact rfl) (by exact rfl) (by exact rfl) (by exact rfl)]
   | rw [b6 (by exact rfl) (by exact rfl) (by exact rfl) (by exact rfl) (by exact rfl) (by exact rfl)]
   | rw [aj cz (by exact rfl) (by exact rfl) (by exact rfl) (by exact rfl)]
   | fail)
 refine eI▸bH (by simp [aX,a9]) fun i => ?_
 by_cases hi:i=2::p
 . right;subst hi;simp [af.app,af.put]
 . left;simp [af.app,af.put,hi,af.of]
theorem M8 {f f1 f2 f3 fi:FuncId} (h:Has P f (qu f1 f2 f3)) (q:Rat) (h1:VP P G f1 [.nils] (.bool true)) (h2:VP P G f2 [QV q] (.bool true)) (h3:Has P f3 (p5 fi)) (hi:VP P G fi [.int .i64 0] (QV 0)):VP P G f [.nils,QV q] (EV q):=by
 refine VP.has h ?_
 simp only [qu]
 repeat (first
   | simp (disch:=first | decide | exact rfl) only [SS,Nat.reduceAdd,aq,ao,fH,cA,JQ,M0]
   | with_reducible refine ah (by assumption) (by simp [aA,aa.int,aS]) ?_
   | with_reducible refine ak (by assumption) (by simp [aa.int]) ?_
   | with_reducible refine And.intro (a:=ab _ _) (by simp [ab,apart]) ?_
   | with_reducible refine VW.aC 3 (VW.of ?_)
   | with_reducible refine bY.next _ (VW.of ?_)
   | rw [aj (by exact rfl) (by exact rfl) (by exact rfl) (by exact rfl) (by exact rfl)]
   | rw [bZ (by exact rfl) (by exact rfl) (by exact rfl) (by exact rfl)]
   | rw [b6 (by exact rfl) (by exact rfl) (by exact rfl) (by exact rfl) (by exact rfl) (by exact rfl)]
   | refine ⟨_,_,S5 h3 hi _,by simp,by simp, ?_⟩
   | fail)
 refine ai▸⟨_,rfl,pW (by exact rfl)⟩
theorem Zo {f ff fr:FuncId} (h:Has P f (zy ff fr)) (a:Rat) (hf:VP P G ff [.nils,EV a] (.bool true)) (hr:VP P G fr [.nils] (.bool true)):VP P G f [.nils, .sl 1 [EV a]] (.bool true):=by
 refine VP.has h ?_
 simp only [zy]
 repeat (first
   | simp (disch:=first | decide | exact rfl) only [SS,Nat.reduceAdd,aP,ZZ,CC,MZ,aI,acy]
   | with_reducible refine ah (by assumption) (by simp [aS,aD]) ?_
   | with_reducible refine ak (by assumption) (by simp [aS]) ?_
   | with_reducible refine And.intro (a:=ab _ _) (by simp [ab,apart]) ?_
   | with_reducible refine VW.aC 3 (VW.of ?_)
   | with_reducible refine bY.next _ (VW.of ?_)
   | rw [aj (by exact rfl) (by exact rfl) (by exact rfl) (by exact rfl) (by exact rfl)]
   | rw [bZ (by exact rfl) (by exact rfl) (by exact rfl) (by exact rfl)]
   | rw [b6 (by exact rfl) (by exact rfl) (by exact rfl) (by exact rfl) (by exact rfl) (by exact rfl)]
   | fail)
 exact ai▸ae rfl (aa.bool _)
theorem Zp {f f1 f2 f3 f4:FuncId} (h:Has P f (zz f1 f2 f3 f4)) (h1:VP P G f1 [.int .i64 0] (QV 0)) (h2:VP P G f2 [.nils,QV 0] (EV 0)) (h3:VP P G f3 [.nils,EV 0] (.bool true)):VP P G f [.nils] (.bool true):=by
 refine VP.has h ?_
 simp only [zz]
 repeat (first
   | simp (disch:=first | decide | exact rfl) only [SS,Nat.reduceAdd,aP,ZZ]
   | with_reducible refine ah (by assumption) (by simp [aA,aa.int,aS,aD]) ?_
   | with_reducible refine ak (by assumption) (by simp [aS,aD]) ?_
   | with_reducible refine And.intro (a:=ab _ _) (by simp [ab,apart]) ?_
   | with_reducible refine VW.aC 3 (VW.of ?_)
   | with_reducible refine bY.next _ (VW.of ?_)
   | rw [aj (by exact rfl) (by exact rfl) (by exact rfl) (by exact rfl) (by exact rfl)]
   | rw [bZ (by exact rfl) (by exact rfl) (by exact rfl) (by exact rfl)]
   | rw [b6 (by exact rfl) (by exact rfl) (by exact rfl) (by exact rfl) (by exact rfl) (by exact rfl)]
   | fail)
 exact ai▸ae rfl (aa.bool _)
theorem V6 {f f1 f3 f4:FuncId} (h:Has P f (w6 f1 f f3 f4)) (a:Rat) (h1:VP P G f1 [QV a] (.int .i64 (dm a))):VP P G f [.nils,EV a] (.int .i64 (dm a)):=by
 refine VP.has h ?_
 simp only [w6]
 repeat (first
   | simp (disch:=first | decide | exact rfl) only [SS,Nat.reduceAdd,decide_true,tC,aI,cA]
   | with_reducible refine ah (by assumption) (by simp [aA]) ?_
   | with_reducible refine ak (by assumption) (by simp [aA]) ?_
   | with_reducible refine And.intro (a:=ab _ _) (by simp [ab,apart]) ?_
   | with_reducible refine VW.aC 3 (VW.of ?_)
   | with_reducible refine bY.next _ (VW.of ?_)
   | rw [aj (by exact rfl) (by exact rfl) (by exact rfl) (by exact rfl) (by exact rfl)]
   | rw [bZ (by exact rfl) (by exact rfl) (by exact rfl) (by exact rfl)]
   | rw [b6 (by exact rfl) (by exact rfl) (by exact rfl) (by exact rfl) (by exact rfl) (by exact rfl)]
   | fail)
 exact ai▸ae rfl (aa.int _ _)
theorem V7 {f fg fv:FuncId} (h:Has P f (zA fg fv)) (a:Rat) (hg:VP P G fg [.nils, .sl 1 [EV a]] (.bool true)) (hv:VP P G fv [.nils,EV a] (.int .i64 (dm a))):VP P G f [.nils,EV a] (.int .i64 (dm a)):=by
 refine VP.has h ?_
 simp only [zA]
 repeat (first
   | simp (disch:=first | decide | exact rfl) only [SS,Nat.reduceAdd,OW]
   | with_reducible refine ah (by assumption) (by simp [aS,aD]) ?_
   | with_reducible refine ak (by assumption) (by simp [aS,aD]) ?_
   | with_reducible refine And.intro (a:=ab _ _) (by simp [ab,apart]) ?_
   | with_reducible refine VW.aC 3 (VW.of ?_)
   | with_reducible refine bY.next _ (VW.of ?_)
   | rw [aj (by exact rfl) (by exact rfl) (by exact rfl) (by exact rfl) (by exact rfl)]
   | rw [bZ (by exact rfl) (by exact rfl) (by exact rfl) (by exact rfl)]
   | rw [b6 (by exact rfl) (by exact rfl) (by exact rfl) (by exact rfl) (by exact rfl) (by exact rfl)]
   | refine bJ [([3],⟨[EV a],1,false⟩)] hg (aG.cons (View.pure aS) (aG.cons (Zh (by exact rfl)) aG.nil)) (by simp [af.put]) ?_
   | fail)
 exact ai▸ae rfl (aa.int _ _)
end
end Go.VL
end

section
set_option linter.unusedVariables false
set_option linter.unusedVariables false
namespace Go.VL
theorem acA {σ : af} {p:Id} {q:Rat}:eu σ p 4 64 (.tsl 4 []) (EV q)=some { val := .osl p 4 0 1 false,rd:=[],up:=[(p,some ⟨[QV q],4,false⟩)] } :=
 j3 (es:=[]) (ys:=[QV q]) eO (by simp) (by simp) (eD (by simp)) (by simpa using of_eq_true (fH q))
theorem ai0 {σ : af} {p:Id}:bO σ p (.buildSl 4 0 (.agg [.bool false, .nils, .bool false, .nils]) [])=some { val := .tsl 4 [] }:=bs0 rfl rfl
theorem ai1:decide ((0:Int)<=8)=true:=rfl
section
variable {P:Program} {G:Nat->Option (List AV)}
theorem O4 {f fv:FuncId} (h:Has P f (kh fv)) (q:Rat) (hv:VP P G fv [QV q] (.bool true)):VP P G f [EV q, .int .i64 1] (.bool true):=by
 have d1:decide ((1:Int)=1)=true:=rfl
 refine VP.has h ?_
 simp only [kh]
 repeat (first
   | simp (disch:=first | decide | exact rfl) only [SS,Nat.reduceAdd,aP,ZZ,decide_true,uQ,tC,aI,cA]
   | with_reducible refine ah (by assumption) (by simp [aA]) ?_
   | with_reducible refine ak (by assumption) (by simp [aA]) ?_
   | with_reducible refine And.intro (a:=ab _ _) (by simp [ab,apart]) ?_
   | with_reducible refine VW.aC 3 (VW.of ?_)
   | with_reducible refine bY.next _ (VW.of ?_)
   | rw [aj (by exact rfl) (by exact rfl) (by exact rfl) (by exact rfl) (by exact rfl)]
   | rw [bZ (by exact rfl) (by exact rfl) (by exact rfl) (by exact rfl)]
   | rw [b6 (by exact rfl) (by exact rfl) (by exact rfl) (by exact rfl) (by exact rfl) (by exact rfl)]
   | fail)
 exact ai▸ae rfl (aa.bool _)
theorem O5 {f fr:FuncId} (h:Has P f (ki fr)):VP P G f [.nils] (.bool true):=by
 refine VP.has h ?_
 simp only [ki]
 repeat (first
   | simp (disch:=first | decide | exact rfl) only [SS,Nat.reduceAdd,aP,ZZ]
   | with_reducible refine ah (by assumption) (by simp [aw,aB,aA,aa.int,aa.bool,aa.str,aS,aD,aF,mZ]) ?_
   | with_reducible refine ak (by assumption) (by simp [aw,aB,aA,aa.int,aa.bool,aa.str,aS,aD,aF,mZ]) ?_
   | with_reducible refine And.intro (a:=ab _ _) (by simp [ab,apart]) ?_
   | with_reducible refine VW.aC 3 (VW.of ?_)
   | with_reducible refine bY.next _ (VW.of ?_)
   | rw [aj (by exact rfl) (by exact rfl) (by exact rfl) (by exact rfl) (by exact rfl)]
   | rw [bZ (by exact rfl) (by exact rfl) (by exact rfl) (by exact rfl)]
   | rw [b6 (by exact rfl) (by exact rfl) (by exact rfl) (by exact rfl) (by exact rfl) (by exact rfl)]
   | fail)
 exact ai▸ae rfl (aa.bool _)
theorem M9 {f ft fr:FuncId} (h:Has P f (jL ft fr)) (q:Rat) (ht:VP P G ft [.nils] (.bool true)) (hr:VP P G fr [EV q, .int .i64 1] (.bool true)):VP P G f [.nils,EV q] (.bool true):=by
 refine VP.has h ?_
 simp only [jL]
 repeat (first
   | simp (disch:=first | decide | exact rfl) only [SS,Nat.reduceAdd,JQ]
   | with_reducible refine ah (by assumption) (by simp [aa.int,aS,aD]) ?_
   | with_reducible refine ak (by assumption) (by simp [aa.int,aD]) ?_
   | with_reducible refine And.intro (a:=ab _ _) (by simp [ab,apart]) ?_
   | with_reducible refine VW.aC 3 (VW.of ?_)
   | with_reducible refine bY.next _ (VW.of ?_)
   | rw [aj (by exact rfl) (by exact rfl) (by exact rfl) (by exact rfl) (by exact rfl)]
   | rw [bZ (by exact rfl) (by exact rfl) (by exact rfl) (by exact rfl)]
   | rw [b6 (by exact rfl) (by exact rfl) (by exact rfl) (by exact rfl) (by exact rfl) (by exact rfl)]
   | fail)
 exact ai▸ae rfl (aa.bool _)
theorem V8 {f fa:FuncId} (h:Has P f (mf fa)) (a b:Rat) (hA:VP P G fa [QV a,QV b] (QV (a+b))):VP P G f [.nils,EV a,EV b] (EV (a+b)):=by
 refine VP.has h ?_
 simp only [mf]
 repeat (first
   | simp (disch:=first | decide | exact rfl) only [SS,DD,Nat.reduceAdd,aP,ZZ,uQ,tC,aI,cA]
   | with_reducible refine ah (by assumption) (by simp [aA]) ?_
   | with_reducible refine ak (by assumption) (by simp [aA]) ?_
   | with_reducible refine And.intro (a:=ab _ _) (by simp [ab,apart]) ?_
   | with_reducible refine VW.aC 3 (VW.of ?_)
   | with_reducible refine bY.next _ (VW.of ?_)
   | rw [aj (by exact rfl) (by exact rfl) (by exact rfl) (by exact rfl) (by exact rfl)]
   | rw [bZ (by exact rfl) (by exact rfl) (by exact rfl) (by exact rfl)]
   | rw [b6 (by exact rfl) (by exact rfl) (by exact rfl) (by exact rfl) (by exact rfl) (by exact rfl)]
   | rw [uP (by exact rfl) (by decide) (by exact rfl)]
   | fail)
 refine ai▸⟨_,rfl,pW (by exact rfl)⟩
theorem V9 {f fa:FuncId} (h:Has P f (mg fa)) (a:Rat) (hA:VP P G fa [QV a] (QV (-a))):VP P G f [.nils,EV a] (EV (-a)):=by
 refine VP.has h ?_
 simp only [mg]
 repeat (first
   | simp (disch:=first | decide | exact rfl) only [SS,Nat.reduceAdd,aP,ZZ,uQ,tC,aI,cA]
   | with_reducible refine ah (by assumption) (by simp [aA]) ?_
   | with_reducible refine ak (by assumption) (by simp [aA]) ?_
   | with_reducible refine And.intro (a:=ab _ _) (by simp [ab,apart]) ?_
   | with_reducible refine VW.aC 3 (VW.of ?_)
   | with_reducible refine bY.next _ (VW.of ?_)
   | rw [aj (by exact rfl) (by exact rfl) (by exact rfl) (by exact rfl) (by exact rfl)]
   | rw [bZ (by exact rfl) (by exact rfl) (by exact rfl) (by exact rfl)]
   | rw [b6 (by exact rfl) (by exact rfl) (by exact rfl) (by exact rfl) (by exact rfl) (by exact rfl)]
   | rw [uP (by exact rfl) (by decide) (by exact rfl)]
   | fail)
 refine ai▸⟨_,rfl,pW (by exact rfl)⟩
theorem Wa {f f1 f2 f3 f4 f5:FuncId} (h:Has P f (mh f1 f2 f f3 f4 f5)) (a b:Rat) (hm:VP P G f1 [QV a,QV b] (QV (a*b))):VP P G f [.nils,EV a,EV b] (EV (a*b)):=by
 refine VP.has h ?_
 simp only [mh]
 repeat (first
   | simp (disch:=first | decide | exact rfl) only [SS,DD,Nat.reduceAdd,decide_true,tC,aI,cA]
   | with_reducible refine ah (by assumption) (by simp [aA]) ?_
   | with_reducible refine ak (by assumption) (by simp [aA]) ?_
   | with_reducible refine And.intro (a:=ab _ _) (by simp [ab,apart]) ?_
   | with_reducible refine VW.aC 3 (VW.of ?_)
   | with_reducible refine bY.next _ (VW.of ?_)
   | rw [aj (by exact rfl) (by exact rfl) (by exact rfl) (by exact rfl) (by exact rfl)]
   | rw [bZ (by exact rfl) (by exact rfl) (by exact rfl) (by exact rfl)]
   | rw [b6 (by exact rfl) (by exact rfl) (by exact rfl) (by exact rfl) (by exact rfl) (by exact rfl)]
   | fail)
 refine ai▸⟨_,rfl,pW (by exact rfl)⟩
theorem Wb {f f1 f2 f3 f4 f5 f6 f7:FuncId} (h:Has P f (mi f1 f2 f f3 f4 f5 f6 f7)) (a:Rat) (ha:a≠0) (hi:VP P G f1 [QV a] (QV a⁻¹)):VP P G f [.nils,EV a] (.tup [EV a⁻¹, .int .i64 0]):=by
 have z1:=M7 a
 rw [au ha] at z1
 refine VP.has h ?_
 simp only [mi]
 repeat (first
   | simp (disch:=first | decide | exact rfl) only [SS,Nat.reduceAdd,decide_true,tC,aI,cA,Bi,bg,z1]
   | with_reducible refine ah (by assumption) (by simp [aA]) ?_
   | with_reducible refine ak (by assumption) (by simp [aA]) ?_
   | with_reducible refine And.intro (a:=ab _ _) (by simp [ab,apart]) ?_
   | with_reducible refine VW.aC 3 (VW.of ?_)
   | with_reducible refine bY.next _ (VW.of ?_)
   | rw [aj (by exact rfl) (by exact rfl) (by exact rfl) (by exact rfl) (by exact rfl)]
   | rw [bZ (by exact rfl) (by exact rfl) (by exact rfl) (by exact rfl)]
   | rw [b6 (by exact rfl) (by exact rfl) (by exact rfl) (by exact rfl) (by exact rfl) (by exact rfl)]
   | fail)
 refine ai▸⟨_,rfl,View.tup (.cons (pW (by exact rfl)) (.cons (View.pure (aa.int _ _)) .nil))⟩
theorem S6 {f f1 f3:FuncId} (h:Has P f (ld f1 f f3)) (a:Rat) (h1:VP P G f1 [QV a] (.int .i64 (dm a))):VP P G f [.nils,EV a] (.int .i64 (dm a)):=by
 refine VP.has h ?_
 simp only [ld]
 repeat (first
   | simp (disch:=first | decide | exact rfl) only [SS,Nat.reduceAdd,decide_true,tC,aI,cA]
   | with_reducible refine ah (by assumption) (by simp [aA]) ?_
   | with_reducible refine ak (by assumption) (by simp [aA]) ?_
   | with_reducible refine And.intro (a:=ab _ _) (by simp [ab,apart]) ?_
   | with_reducible refine VW.aC 3 (VW.of ?_)
   | with_reducible refine bY.next _ (VW.of ?_)
   | rw [aj (by exact rfl) (by exact rfl) (by exact rfl) (by exact rfl) (by exact rfl)]
   | rw [bZ (by exact rfl) (by exact rfl) (by exact rfl) (by exact rfl)]
   | rw [b6 (by exact rfl) (by exact rfl) (by exact rfl) (by exact rfl) (by exact rfl) (by exact rfl)]
   | fail)
 exact ai▸ae rfl (aa.int _ _)
theorem S7 {f f1:FuncId} (h:Has P f (lf f1)) (a:Rat) (h1:VP P G f1 [.nils,EV a] (.int .i64 (dm a))):VP P G f [.nils,EV a] (.int .i64 (dm a)):=by
 refine VP.has h ?_
 simp only [lf]
 repeat (first
   | simp (disch:=first | decide | exact rfl) only [SS,Nat.reduceAdd]
   | with_reducible refine ah (by assumption) (by simp [aS,aD]) ?_
   | with_reducible refine ak (by assumption) (by simp [aS,aD]) ?_
   | with_reducible refine And.intro (a:=ab _ _) (by simp [ab,apart]) ?_
   | with_reducible refine VW.aC 3 (VW.of ?_)
   | with_reducible refine bY.next _ (VW.of ?_)
   | rw [aj (by exact rfl) (by exact rfl) (by exact rfl) (by exact rfl) (by exact rfl)]
   | rw [bZ (by exact rfl) (by exact rfl) (by exact rfl) (by exact rfl)]
   | rw [b6 (by exact rfl) (by exact rfl) (by exact rfl) (by exact rfl) (by exact rfl) (by exact rfl)]
   | fail)
 exact ai▸ae rfl (aa.int _ _)
theorem KV {f f1 f2 f3:FuncId} (h:Has P f (jj f1 f2 f3)):VP P G f [.nils] (.bool true):=by
 refine VP.has h ?_
 simp only [jj]
 repeat (first
   | simp (disch:=first | decide | exact rfl) only [SS,Nat.reduceAdd,aP,ZZ]
   | with_reducible refine ah (by assumption) (by simp [aw,aB,aA,aa.int,aa.bool,aa.str,aS,aD,aF,mZ]) ?_
   | with_reducible refine ak (by assumption) (by simp [aw,aB,aA,aa.int,aa.bool,aa.str,aS,aD,aF,mZ]) ?_
   | with_reducible refine And.intro (a:=ab _ _) (by simp [ab,apart]) ?_
   | with_reducible refine VW.aC 3 (VW.of ?_)
   | with_reducible refine bY.next _ (VW.of ?_)
   | rw [aj (by exact rfl) (by exact rfl) (by exact rfl) (by exact rfl) (by exact rfl)]
   | rw [bZ (by exact rfl) (by exact rfl) (by exact rfl) (by exact rfl)]
   | rw [b6 (by exact rfl) (by exact rfl) (by exact rfl) (by exact rfl) (by exact rfl) (by exact rfl)]
   | fail)
 exact ai▸ae rfl (aa.bool _)
theorem KW {f:FuncId} (h:Has P f jk) (q:Rat):VP P G f [QV q] (NV q):=by
 refine VP.has h ?_
 simp only [jk]
 repeat (first
   | simp (disch:=first | decide | exact rfl) only [SS,Nat.reduceAdd,aq,ao,fH,cA,bU,Q8]
   | with_reducible refine ah (by assumption) (by simp [aw,aB,aA,aa.int,aa.bool,aa.str,aS,aD,aF,mZ]) ?_
   | with_reducible refine ak (by assumption) (by simp [aw,aB,aA,aa.int,aa.bool,aa.str,aS,aD,aF,mZ]) ?_
   | with_reducible refine And.intro (a:=ab _ _) (by simp [ab,apart]) ?_
   | with_reducible refine VW.aC 3 (VW.of ?_)
   | with_reducible refine bY.next _ (VW.of ?_)
   | rw [aj (by exact rfl) (by exact rfl) (by exact rfl) (by exact rfl) (by exact rfl)]
   | rw [bZ (by exact rfl) (by exact rfl) (by exact rfl) (by exact rfl)]
   | rw [b6 (by exact rfl) (by exact rfl) (by exact rfl) (by exact rfl) (by exact rfl) (by exact rfl)]
   | fail)
 refine ai▸⟨.agg [.nils, .osl [3] 4 0 1 false], ?_,VY (by exact rfl)⟩
 simp only [RS,aX,a9,ao]
 rfl
theorem KX {f fi ff:FuncId} (h:Has P f (jl fi ff)) (a:Int) (hi:VP P G fi [.int .i64 a] (QV a)) (hf:VP P G ff [QV a] (NV a)):VP P G f [.int .i64 a] (NV a):=by
 refine VP.has h ?_
 simp only [jl]
 repeat (first
   | simp (disch:=first | decide | exact rfl) only [SS,Nat.reduceAdd,bU]
   | with_reducible refine ah (by assumption) (by simp [aA,aa.int]) ?_
   | with_reducible refine ak (by assumption) (by simp [aA]) ?_
   | with_reducible refine And.intro (a:=ab _ _) (by simp [ab,apart]) ?_
   | with_reducible refine VW.aC 3 (VW.of ?_)
   | with_reducible refine bY.next _ (VW.of ?_)
   | rw [aj (by exact rfl) (by exact rfl) (by exact rfl) (by exact rfl) (by exact rfl)]
   | rw [bZ (by exact rfl) (by exact rfl) (by exact rfl) (by exact rfl)]
   | rw [b6 (by exact rfl) (by exact rfl) (by exact rfl) (by exact rfl) (by exact rfl) (by exact rfl)]
   | fail)
 refine ai▸ae (r:=NV a) ?_ (aF _)
 simp only [RS,aX,a9,ao,cB]
theorem Na {f fs:FuncId} (h:Has P f (jN fs)):VP P G f [.nils, .nils] (.bool true):=by
 refine VP.has h ?_
 simp only [jN]
 repeat (first
   | simp (disch:=first | decide | exact rfl) only [SS,Nat.reduceAdd,aP,ZZ]
   | with_reducible refine ah (by assumption) (by simp [aw,aB,aA,aa.int,aa.bool,aa.str,aS,aD,aF,mZ]) ?_
   | with_reducible refine ak (by assumption) (by simp [aw,aB,aA,aa.int,aa.bool,aa.str,aS,aD,aF,mZ]) ?_
   | with_reducible refine And.intro (a:=ab _ _) (by simp [ab,apart]) ?_
   | with_reducible refine VW.aC 3 (VW.of ?_)
   | with_reducible refine bY.next _ (VW.of ?_)
   | rw [aj (by exact rfl) (by exact rfl) (by exact rfl) (by exact rfl) (by exact rfl)]
   | rw [bZ (by exact rfl) (by exact rfl) (by exact rfl) (by exact rfl)]
   | rw [b6 (by exact rfl) (by exact rfl) (by exact rfl) (by exact rfl) (by exact rfl) (by exact rfl)]
   | fail)
 exact ai▸ae rfl (aa.bool _)
theorem JT {f fi:FuncId} (h:Has P f (lg fi)) (q:Rat):VP P G f [.nils,EV q] (EV q):=by
 refine VP.has h ?_
 simp only [lg]
 repeat (first
   | simp (disch:=first | decide | exact rfl) only [SS,Nat.reduceAdd,aP,ZZ,CC,JQ,ai0,acA]
   | with_reducible refine ah (by assumption) (by simp [aw,aB,aA,aa.int,aa.bool,aa.str,aS,aD,aF,mZ]) ?_
   | with_reducible refine ak (by assumption) (by simp [aw,aB,aA,aa.int,aa.bool,aa.str,aS,aD,aF,mZ]) ?_
   | with_reducible refine And.intro (a:=ab _ _) (by simp [ab,apart]) ?_
   | with_reducible refine VW.aC 3 (VW.of ?_)
   | with_reducible refine bY.next _ (VW.of ?_)
   | rw [aj (by exact rfl) (by exact rfl) (by exact rfl) (by exact rfl) (by exact rfl)]
   | rw [bZ (by exact rfl) (by exact rfl) (by exact rfl) (by exact rfl)]
   | rw [b6 (by exact rfl) (by exact rfl) (by exact rfl) (by exact rfl) (by exact rfl) (by exact rfl)]
   | fail)
 refine ai▸⟨_,rfl,pW (by exact rfl)⟩
theorem S8 {f fb fe fl fi:FuncId} (h:Has P f (lh fb fe fl fi)) (a b:Rat) (hb:VP P G fb [.nils, .nils] (.bool true)) (h1:VP P G fl [.nils,EV a] (EV a)) (h2:VP P G fl [.nils,EV b] (EV b)) :
   VP P G f [.sl 2 [NV a,NV b]] (.tup [.sl 2 [NV a,NV b], .int .i64 0]):=by
 refine VP.has h ?_
 simp only [lh]
 repeat (first
   | simp (disch:=first | decide | exact rfl) only [SS,Nat.reduceAdd,ao,aP,ZZ,CC,MZ,SR,aI,cB,tD,wq,bU,Q9]
   | with_reducible refine ah (by assumption) (by simp [aS,aD]) ?_
   | with_reducible refine ak (by assumption) (by simp [aS,aD]) ?_
   | with_reducible refine And.intro (a:=ab _ _) (by simp [ab,apart]) ?_
   | with_reducible refine VW.aC 3 (VW.of ?_)
   | with_reducible refine bY.next _ (VW.of ?_)
   | rw [aj (by exact rfl) (by exact rfl) (by exact rfl) (by exact rfl) (by exact rfl)]
   | rw [bZ (by exact rfl) (by exact rfl) (by exact rfl) (by exact rfl)]
   | rw [b6 (by exact rfl) (by exact rfl) (by exact rfl) (by exact rfl) (by exact rfl) (by exact rfl)]
   | rw [HP (by exact rfl)]
   | rw [HQ (by exact rfl)]
   | rw [uP (by exact rfl) (by decide) (by exact rfl)]
   | rw [VQ (by exact rfl) (by exact rfl) (by decide) (by exact rfl) (by exact rfl)]
   | fail)
 refine ai▸⟨_,rfl,View.tup (.cons (F6 (by exact rfl)) (.cons (View.pure (aa.int _ _)) .nil))⟩
theorem Wc {f fj:FuncId} (h:Has P f (ml fj)) (a b:Rat) (hj:VP P G fj [.sl 2 [NV a,NV b]] (.tup [.sl 2 [NV a,NV b], .int .i64 0])):VP P G f [NV a,NV b] (.tup [NV a,NV b, .int .i64 0]):=by
 refine VP.has h ?_
 simp only [ml]
 repeat (first
   | simp (disch:=first | decide | exact rfl) only [SS,DD,Nat.reduceAdd,aq,ao,ZZ,OW,g0,g1,g8,cB,bU,MZ,SR,aI]
   | with_reducible refine ah (by assumption) (by simp [mZ]) ?_
   | with_reducible refine ak (by assumption) (by simp [mZ]) ?_
   | with_reducible refine And.intro (a:=ab _ _) (by simp [ab,apart]) ?_
   | with_reducible refine VW.aC 3 (VW.of ?_)
   | with_reducible refine bY.next _ (VW.of ?_)
   | rw [aj (by exact rfl) (by exact rfl) (by exact rfl) (by exact rfl) (by exact rfl)]
   | rw [bZ (by exact rfl) (by exact rfl) (by exact rfl) (by exact rfl)]
   | rw [b6 (by exact rfl) (by exact rfl) (by exact rfl) (by exact rfl) (by exact rfl) (by exact rfl)]
   | refine bJ [([7],⟨[NV a,NV b],2,false⟩)] hj (aG.cons (F6 (by exact rfl)) aG.nil) (by simp [af.put]) ?_
   | fail)
 refine ai▸ae (r := .tup [NV a,NV b, .int .i64 0]) ?_ (aa.tup (by simp [aF,aa.int]))
 simp (disch:=decide) only [RS,aX,a9,aq,ao,cB]
theorem We {f f2 f6:FuncId} (h:Has P f (mn f2 f6)) (a b:Rat) (h2:VP P G f2 [NV a,NV b] (.tup [NV a,NV b, .int .i64 0])) (h6:VP P G f6 [.nils,EV a,EV b] (EV (a+b))):VP P G f [NV a,NV b] (.tup [NV (a+b), .int .i64 0]):=by
 refine VP.has h ?_
 simp only [mn]
 repeat (first
   | simp (disch:=first | decide | exact rfl) only [SS,DD,Nat.reduceAdd,aq,ao,ZZ,g0,g1,g2,g8,cB,tD,wq,bU,Dp,JS]
   | with_reducible refine ah (by assumption) (by simp [aS,aD,aF]) ?_
   | with_reducible refine ak (by assumption) (by simp [aS,aD]) ?_
   | with_reducible refine And.intro (a:=ab _ _) (by simp [ab,apart]) ?_
   | with_reducible refine VW.aC 3 (VW.of ?_)
   | with_reducible refine bY.next _ (VW.of ?_)
   | rw [aj (by exact rfl) (by exact rfl) (by exact rfl) (by exact rfl) (by exact rfl)]
   | rw [bZ (by exact rfl) (by exact rfl) (by exact rfl) (by exact rfl)]
   | rw [b6 (by exact rfl) (by exact rfl) (by exact rfl) (by exact rfl) (by exact rfl) (by exact rfl)]
   | fail)
 refine ai▸ae (r := .tup [NV (a+b), .int .i64 0]) ?_ (aa.tup (by simp [aF,aa.int]))
 simp (disch:=decide) only [RS,aX,a9,ao,cB]
theorem Wf {f f2 f6:FuncId} (h:Has P f (mw f2 f6)) (a b:Rat) (h2:VP P G f2 [NV a,NV b] (.tup [NV a,NV b, .int .i64 0])) (h6:VP P G f6 [.nils,EV a,EV b] (EV (a*b))):VP P G f [NV a,NV b] (.tup [NV (a*b), .int .i64 0]):=by
 refine VP.has h ?_
 simp only [mw]
 repeat (first
   | simp (disch:=first | decide | exact rfl) only [SS,DD,Nat.reduceAdd,aq,ao,ZZ,g0,g1,g2,g8,cB,tD,wq,bU,Dp,JS]
   | with_reducible refine ah (by assumption) (by simp [aS,aD,aF]) ?_
   | with_reducible refine ak (by assumption) (by simp [aS,aD]) ?_
   | with_reducible refine And.intro (a:=ab _ _) (by simp [ab,apart]) ?_
   | with_reducible refine VW.aC 3 (VW.of ?_)
   | with_reducible refine bY.next _ (VW.of ?_)
   | rw [aj (by exact rfl) (by exact rfl) (by exact rfl) (by exact rfl) (by exact rfl)]
   | rw [bZ (by exact rfl) (by exact rfl) (by exact rfl) (by exact rfl)]
   | rw [b6 (by exact rfl) (by exact rfl) (by exact rfl) (by exact rfl) (by exact rfl) (by exact rfl)]
   | fail)
 refine ai▸ae (r := .tup [NV (a*b), .int .i64 0]) ?_ (aa.tup (by simp [aF,aa.int]))
 simp (disch:=decide) only [RS,aX,a9,ao,cB]
theorem Wh {f f6:FuncId} (h:Has P f (mq f6)) (a:Rat) (h6:VP P G f6 [.nils,EV a] (EV (-a))):VP P G f [NV a] (NV (-a)):=by
 refine VP.has h ?_
 simp only [mq]
 repeat (first
   | simp (disch:=first | decide | exact rfl) only [SS,DD,Nat.reduceAdd,aq,ao,g8,tD,wq,bU,Dp,JS]
   | with_reducible refine ah (by assumption) (by simp [aS,aD]) ?_
   | with_reducible refine ak (by assumption) (by simp [aS,aD]) ?_
   | with_reducible refine And.intro (a:=ab _ _) (by simp [ab,apart]) ?_
   | with_reducible refine VW.aC 3 (VW.of ?_)
   | with_reducible refine bY.next _ (VW.of ?_)
   | rw [aj (by exact rfl) (by exact rfl) (by exact rfl) (by exact rfl) (by exact rfl)]
   | rw [bZ (by exact rfl) (by exact rfl) (by exact rfl) (by exact rfl)]
   | rw [b6 (by exact rfl) (by exact rfl) (by exact rfl) (by exact rfl) (by exact rfl) (by exact rfl)]
   | fail)
 refine ai▸ae (r:=NV (-a)) ?_ (aF _)
 simp (disch:=decide) only [RS,aX,a9,ao,cB]
theorem Wi {f fn fa:FuncId} (h:Has P f (mr fn fa)) (a b:Rat) (hn:VP P G fn [NV b] (NV (-b))) (ha:VP P G fa [NV a,NV (-b)] (.tup [NV (a + -b), .int .i64 0])):VP P G f [NV a,NV b] (.tup [NV (a-b), .int .i64 0]):=by
 rw [<- Rat.sub_eq_add_neg] at ha
 refine VP.has h ?_
 simp only [mr]
 repeat (first
   | simp (disch:=first | decide | exact rfl) only [SS,DD,Nat.reduceAdd,aq,ao,g0,g1,g8,cB,bU]
   | with_reducible refine ah (by assumption) (by simp [aF]) ?_
   | with_reducible refine ak (by assumption) (by simp [aF]) ?_
   | with_reducible refine And.intro (a:=ab _ _) (by simp [ab,apart]) ?_
   | with_reducible refine VW.aC 3 (VW.of ?_)
   | with_reducible refine bY.next _ (VW.of ?_)
   | rw [aj (by exact rfl) (by exact rfl) (by exact rfl) (by exact rfl) (by exact rfl)]
   | rw [bZ (by exact rfl) (by exact rfl) (by exact rfl) (by exact rfl)]
   | rw [b6 (by exact rfl) (by exact rfl) (by exact rfl) (by exact rfl) (by exact rfl) (by exact rfl)]
   | fail)
 refine ai▸ae (r := .tup [NV (a-b), .int .i64 0]) ?_ (aa.tup (by simp [aF,aa.int]))
 simp (disch:=decide) only [RS,aX,a9,ao,cB]
theorem S9 {f f7:FuncId} (h:Has P f (lj f7)) (a:Rat) (h7:VP P G f7 [.nils,EV a] (.int .i64 (dm a))):VP P G f [NV a] (.int .i64 (dm a)):=by
 refine VP.has h ?_
 simp only [lj]
 repeat (first
   | simp (disch:=first | decide | exact rfl) only [SS,Nat.reduceAdd,ao,g8,tD,wq]
   | with_reducible refine ah (by assumption) (by simp [aS,aD]) ?_
   | with_reducible refine ak (by assumption) (by simp [aS,aD]) ?_
   | with_reducible refine And.intro (a:=ab _ _) (by simp [ab,apart]) ?_
   | with_reducible refine VW.aC 3 (VW.of ?_)
   | with_reducible refine bY.next _ (VW.of ?_)
   | rw [aj (by exact rfl) (by exact rfl) (by exact rfl) (by exact rfl) (by exact rfl)]
   | rw [bZ (by exact rfl) (by exact rfl) (by exact rfl) (by exact rfl)]
   | rw [b6 (by exact rfl) (by exact rfl) (by exact rfl) (by exact rfl) (by exact rfl) (by exact rfl)]
   | fail)
 exact ai▸ae rfl (aa.int _ _)
theorem Wj {f fs fg:FuncId} (h:Has P f (my fs fg)) (a b:Rat) (hs:VP P G fs [NV a,NV b] (.tup [NV (a-b), .int .i64 0])) (hg:VP P G fg [NV (a-b)] (.int .i64 (dm (a-b)))):VP P G f [NV a,NV b] (.tup [.int .i64 (dm (a-b)), .int .i64 0]):=by
 refine VP.has h ?_
 simp only [my]
 repeat (first
   | simp (disch:=first | decide | exact rfl) only [SS,Nat.reduceAdd,aq,ao,ZZ,g0,g1,g8,cB,bU]
   | with_reducible refine ah (by assumption) (by simp [aF]) ?_
   | with_reducible refine ak (by assumption) (by simp [aF]) ?_
   | with_reducible refine And.intro (a:=ab _ _) (by simp [ab,apart]) ?_
   | with_reducible refine VW.aC 3 (VW.of ?_)
   | with_reducible refine bY.next _ (VW.of ?_)
   | rw [aj (by exact rfl) (by exact rfl) (by exact rfl) (by exact rfl) (by exact rfl)]
   | rw [bZ (by exact rfl) (by exact rfl) (by exact rfl) (by exact rfl)]
   | rw [b6 (by exact rfl) (by exact rfl) (by exact rfl) (by exact rfl) (by exact rfl) (by exact rfl)]
   | fail)
 exact ai▸ae rfl (aa.tup (by simp [aa.int]))
theorem O6 {f fc:FuncId} (h:Has P f (ko fc)) (a b:Rat) (hc:VP P G fc [NV a,NV b] (.tup [.int .i64 (dm (a-b)), .int .i64 0])):VP P G f [NV a,NV b] (.bool (decide (a=b))):=by
 have e:decide (dm (a-b)=0)=decide (a=b):=by
   congr 1;apply propext
   rw [HM];grind
 refine VP.has h ?_
 simp only [ko]
 repeat (first
   | simp (disch:=first | decide | exact rfl) only [SS,Nat.reduceAdd,aq,ao,g0,g1,decide_true,g8,cB,e]
   | with_reducible refine ah (by assumption) (by simp [aF]) ?_
   | with_reducible refine ak (by assumption) (by simp [aF]) ?_
   | with_reducible refine And.intro (a:=ab _ _) (by simp [ab,apart]) ?_
   | with_reducible refine VW.aC 3 (VW.of ?_)
   | with_reducible refine bY.next _ (VW.of ?_)
   | rw [aj (by exact rfl) (by exact rfl) (by exact rfl) (by exact rfl) (by exact rfl)]
   | rw [bZ (by exact rfl) (by exact rfl) (by exact rfl) (by exact rfl)]
   | rw [b6 (by exact rfl) (by exact rfl) (by exact rfl) (by exact rfl) (by exact rfl) (by exact rfl)]
   | fail)
 exact ai▸ae rfl (aa.bool _)
theorem O7 {f f6 f8:FuncId} (h:Has P f (kp f6 f8)) (a:Rat) (h6:VP P G f6 [.nils,EV a] (.bool true)) (h8:VP P G f8 [.nils] (.bool true)):VP P G f [NV a] (.bool true):=by
 refine VP.has h ?_
 simp only [kp]
 repeat (first
   | simp (disch:=first | decide | exact rfl) only [SS,Nat.reduceAdd,ao,g8,tD,wq,ai1]
   | with_reducible refine ah (by assumption) (by simp [aS,aD]) ?_
   | with_reducible refine ak (by assumption) (by simp [aS]) ?_
   | with_reducible refine And.intro (a:=ab _ _) (by simp [ab,apart]) ?_
   | with_reducible refine VW.aC 3 (VW.of ?_)
   | with_reducible refine bY.next _ (VW.of ?_)
   | rw [aj (by exact rfl) (by exact rfl) (by exact rfl) (by exact rfl) (by exact rfl)]
   | rw [bZ (by exact rfl) (by exact rfl) (by exact rfl) (by exact rfl)]
   | rw [b6 (by exact rfl) (by exact rfl) (by exact rfl) (by exact rfl) (by exact rfl) (by exact rfl)]
   | fail)
 exact ai▸ae rfl (aa.bool _)
end
end Go.VL
end

section
set_option linter.unusedVariables false
set_option linter.unusedVariables false
namespace Go.VL
abbrev Q2:=Rat × Rat
def V2 (v:Q2):AV := .agg [.nils,EV v.1, .nils,EV v.2]
theorem aJ (v:Q2):aa (V2 v):=aa.agg (by intro c hc;simp at hc;rcases hc with rfl | rfl | rfl | rfl;exact aa.nils;exact aD _;exact aa.nils;exact aD _)
theorem gG (v:Q2):((V2 v).cells.all AV.one=true)=True:=by simp [V2,AV.cells,AV.one,EV]
theorem Dq (v:Q2):part true (V2 v).cells 0 2=some (NV v.1):=rfl
theorem Dr (v:Q2):part true (V2 v).cells 2 2=some (NV v.2):=rfl
theorem dK (v:Q2):part true (V2 v).cells 0 4=some (V2 v):=rfl
theorem dr:((AV.cells (.agg [.nils, .nils, .nils, .nils])).all AV.one=true)=True:=by simp [AV.cells,AV.one]
theorem EI (x y:Rat):jq [.nils, .nils, .nils, .nils] [(0,(2,NV x)),(2,(2,NV y))]=some [.nils,EV x, .nils,EV y]:=rfl
theorem JU (x y:Rat):AV.agg [.nils,EV x, .nils,EV y]=V2 (x,y):=rfl
def fB (a b:Q2):Rat:=a.1*b.1+a.2*b.2
def kS (a b:Q2):Q2:=(a.1+b.1,a.2+b.2)
def eR (a b:Q2):Q2:=(a.1-b.1,a.2-b.2)
def Ds (a:Q2):Q2:=(-a.1, -a.2)
def iA (a:Q2) (n:Rat):Q2:=(a.1*n,a.2*n)
section
variable {P:Program} {G:Nat->Option (List AV)}
theorem wu {f fo:FuncId} (h:Has P f ud) (a b c:Q2) (h1:VP P G fo [NV a.1,NV b.1] (.tup [NV c.1, .int .i64 0])) (h2:VP P G fo [NV a.2,NV b.2] (.tup [NV c.2, .int .i64 0])):VP P G f [V2 a,V2 b, .fn (.func fo) [] []] (.tup [V2 c, .int .i64 0]):=by
 refine VP.has h ?_
 simp only [ud]
 repeat (first
   | simp (disch:=first | decide | exact rfl) only [SS,Nat.reduceAdd,aq,ao,ZZ,g0,g1,gG,Dq,Dr,cB,bU,dr,EI]
   | with_reducible refine ah (by assumption) (by simp [aF]) ?_
   | with_reducible refine ak (by assumption) (by simp [aF]) ?_
   | with_reducible refine And.intro (a:=ab _ _) (by simp [ab,apart]) ?_
   | with_reducible refine VW.aC 3 (VW.of ?_)
   | with_reducible refine bY.next _ (VW.of ?_)
   | rw [aj (by exact rfl) (by exact rfl) (by exact rfl) (by exact rfl) (by exact rfl)]
   | rw [bZ (by exact rfl) (by exact rfl) (by exact rfl) (by exact rfl)]
   | rw [b6 (by exact rfl) (by exact rfl) (by exact rfl) (by exact rfl) (by exact rfl) (by exact rfl)]
   | fail)
 refine ai▸ae (r := .tup [V2 c, .int .i64 0]) ?_ (aa.tup (by simp [aJ,aa.int]))
 simp (disch:=decide) only [RS,aX,a9,ao,JU,dK]
theorem Zq {f fb fo:FuncId} (h:Has P f (w7 fb fo)) (a b c:Q2) (hb:VP P G fb [V2 a,V2 b, .fn (.func fo) [] []] (.tup [V2 c, .int .i64 0])):VP P G f [V2 a,V2 b] (.tup [V2 c, .int .i64 0]):=by
 refine VP.has h ?_
 simp only [w7]
 repeat (first
   | simp (disch:=first | decide | exact rfl) only [SS,Nat.reduceAdd,aq,ao,g0,g1,gG,dK,dr]
   | with_reducible refine ah (by assumption) (by simp [aJ,cg]) ?_
   | with_reducible refine ak (by assumption) (by simp [aJ,cg]) ?_
   | with_reducible refine And.intro (a:=ab _ _) (by simp [ab,apart]) ?_
   | with_reducible refine VW.aC 3 (VW.of ?_)
   | with_reducible refine bY.next _ (VW.of ?_)
   | rw [aj (by exact rfl) (by exact rfl) (by exact rfl) (by exact rfl) (by exact rfl)]
   | rw [bZ (by exact rfl) (by exact rfl) (by exact rfl) (by exact rfl)]
   | rw [b6 (by exact rfl) (by exact rfl) (by exact rfl) (by exact rfl) (by exact rfl) (by exact rfl)]
   | fail)
 refine ai▸ae (r := .tup [V2 c, .int .i64 0]) ?_ (aa.tup (by simp [aJ,aa.int]))
 simp (disch:=decide) only [RS,aX,a9,ao,dK]
theorem Ra {f fb fo:FuncId} (h:Has P f (w9 fb fo)) (a b c:Q2) (hb:VP P G fb [V2 a,V2 b, .fn (.func fo) [] []] (.tup [V2 c, .int .i64 0])):VP P G f [V2 a,V2 b] (.tup [V2 c, .int .i64 0]):=by
 refine VP.has h ?_
 simp only [w9]
 repeat (first
   | simp (disch:=first | decide | exact rfl) only [SS,Nat.reduceAdd,aq,ao,g0,g1,gG,dK,dr]
   | with_reducible refine ah (by assumption) (by simp [aJ,cg]) ?_
   | with_reducible refine ak (by assumption) (by simp [aJ,cg]) ?_
   | with_reducible refine And.intro (a:=ab _ _) (by simp [ab,apart]) ?_
   | with_reducible refine VW.aC 3 (VW.of ?_)
   | with_reducible refine bY.next _ (VW.of ?_)
   | rw [aj (by exact rfl) (by exact rfl) (by exact rfl) (by exact rfl) (by exact rfl)]
   | rw [bZ (by exact rfl) (by exact rfl) (by exact rfl) (by exact rfl)]
   | rw [b6 (by exact rfl) (by exact rfl) (by exact rfl) (by exact rfl) (by exact rfl) (by exact rfl)]
   | fail)
 refine ai▸ae (r := .tup [V2 c, .int .i64 0]) ?_ (aa.tup (by simp [aJ,aa.int]))
 simp (disch:=decide) only [RS,aX,a9,ao,dK]
theorem Ta {f fb fo:FuncId} (h:Has P f (rJ fb fo)) (a c:Q2) (n:Rat) (hb:VP P G fb [V2 a,V2 (n,n), .fn (.func fo) [] []] (.tup [V2 c, .int .i64 0])):VP P G f [V2 a,NV n] (.tup [V2 c, .int .i64 0]):=by
 refine VP.has h ?_
 simp only [rJ]
 repeat (first
   | simp (disch:=first | decide | exact rfl) only [SS,Nat.reduceAdd,aq,ao,g0,g1,gG,dK,g8,cB,dr,EI,JU]
   | with_reducible refine ah (by assumption) (by simp [aJ,cg]) ?_
   | with_reducible refine ak (by assumption) (by simp [aJ,cg]) ?_
   | with_reducible refine And.intro (a:=ab _ _) (by simp [ab,apart]) ?_
   | with_reducible refine VW.aC 3 (VW.of ?_)
   | with_reducible refine bY.next _ (VW.of ?_)
   | rw [aj (by exact rfl) (by exact rfl) (by exact rfl) (by exact rfl) (by exact rfl)]
   | rw [bZ (by exact rfl) (by exact rfl) (by exact rfl) (by exact rfl)]
   | rw [b6 (by exact rfl) (by exact rfl) (by exact rfl) (by exact rfl) (by exact rfl) (by exact rfl)]
   | fail)
 refine ai▸ae (r := .tup [V2 c, .int .i64 0]) ?_ (aa.tup (by simp [aJ,aa.int]))
 simp (disch:=decide) only [RS,aX,a9,ao,dK]
theorem O8 {f ff:FuncId} (h:Has P f (lq ff)) (v:Q2) (h1:VP P G ff [QV v.1] (NV v.1)) (h2:VP P G ff [QV v.2] (NV v.2)):VP P G f [QV v.1,QV v.2] (V2 v):=by
 refine VP.has h ?_
 simp only [lq]
 repeat (first
   | simp (disch:=first | decide | exact rfl) only [SS,DD,Nat.reduceAdd,aq,ao,fH,cA,dr,EI]
   | with_reducible refine ah (by assumption) (by simp [aA]) ?_
   | with_reducible refine ak (by assumption) (by simp [aA]) ?_
   | with_reducible refine And.intro (a:=ab _ _) (by simp [ab,apart]) ?_
   | with_reducible refine VW.aC 3 (VW.of ?_)
   | with_reducible refine bY.next _ (VW.of ?_)
   | rw [aj (by exact rfl) (by exact rfl) (by exact rfl) (by exact rfl) (by exact rfl)]
   | rw [bZ (by exact rfl) (by exact rfl) (by exact rfl) (by exact rfl)]
   | rw [b6 (by exact rfl) (by exact rfl) (by exact rfl) (by exact rfl) (by exact rfl) (by exact rfl)]
   | fail)
 refine ai▸ae (r:=V2 v) ?_ (aJ _)
 simp (disch:=decide) only [RS,aX,a9,ao,JU,dK]
theorem Fl {f fi fm:FuncId} (h:Has P f (kq fi fm)) (x y:Int) (h1:VP P G fi [.int .i64 x] (QV x)) (h2:VP P G fi [.int .i64 y] (QV y)) (hm:VP P G fm [QV x,QV y] (V2 (x,y))):VP P G f [.int .i64 x, .int .i64 y] (V2 (x,y)):=by
 refine VP.has h ?_
 simp only [kq]
 repeat (first
   | simp (disch:=first | decide | exact rfl) only [SS,Nat.reduceAdd,dr]
   | with_reducible refine ah (by assumption) (by simp [aA,aa.int]) ?_
   | with_reducible refine ak (by assumption) (by simp [aA]) ?_
   | with_reducible refine And.intro (a:=ab _ _) (by simp [ab,apart]) ?_
   | with_reducible refine VW.aC 3 (VW.of ?_)
   | with_reducible refine bY.next _ (VW.of ?_)
   | rw [aj (by exact rfl) (by exact rfl) (by exact rfl) (by exact rfl) (by exact rfl)]
   | rw [bZ (by exact rfl) (by exact rfl) (by exact rfl) (by exact rfl)]
   | rw [b6 (by exact rfl) (by exact rfl) (by exact rfl) (by exact rfl) (by exact rfl) (by exact rfl)]
   | fail)
 refine ai▸ae (r:=V2 (x,y)) ?_ (aJ _)
 simp (disch:=decide) only [RS,aX,a9,ao,dK]
theorem Nb {f:FuncId} (h:Has P f kr):VP P G f [.int .i64 0, .int .i64 0] (.int .i64 0):=by
 refine VP.has h ?_
 simp only [kr]
 repeat (first
   | simp (disch:=first | decide | exact rfl) only [SS,Nat.reduceAdd,ZZ]
   | with_reducible refine ah (by assumption) (by simp [aw,aB,aA,aa.int,aa.bool,aa.str,aS,aD,aF,aJ,cg]) ?_
   | with_reducible refine ak (by assumption) (by simp [aw,aB,aA,aa.int,aa.bool,aa.str,aS,aD,aF,aJ,cg]) ?_
   | with_reducible refine And.intro (a:=ab _ _) (by simp [ab,apart]) ?_
   | with_reducible refine VW.aC 3 (VW.of ?_)
   | with_reducible refine bY.next _ (VW.of ?_)
   | rw [aj (by exact rfl) (by exact rfl) (by exact rfl) (by exact rfl) (by exact rfl)]
   | rw [bZ (by exact rfl) (by exact rfl) (by exact rfl) (by exact rfl)]
   | rw [b6 (by exact rfl) (by exact rfl) (by exact rfl) (by exact rfl) (by exact rfl) (by exact rfl)]
   | fail)
 exact ai▸ae rfl (aa.int _ _)
theorem Tb {f:FuncId} (h:Has P f mA) (v:Q2):VP P G f [NV v.1,NV v.2, .int .i64 0] (.tup [V2 v, .int .i64 0]):=by
 refine VP.has h ?_
 simp only [mA]
 repeat (first
   | simp (disch:=first | decide | exact rfl) only [SS,Nat.reduceAdd,aq,ao,ZZ,g8,cB,dr,EI]
   | with_reducible refine ah (by assumption) (by simp [aw,aB,aA,aa.int,aa.bool,aa.str,aS,aD,aF,aJ,cg]) ?_
   | with_reducible refine ak (by assumption) (by simp [aw,aB,aA,aa.int,aa.bool,aa.str,aS,aD,aF,aJ,cg]) ?_
   | with_reducible refine And.intro (a:=ab _ _) (by simp [ab,apart]) ?_
   | with_reducible refine VW.aC 3 (VW.of ?_)
   | with_reducible refine bY.next _ (VW.of ?_)
   | rw [aj (by exact rfl) (by exact rfl) (by exact rfl) (by exact rfl) (by exact rfl)]
   | rw [bZ (by exact rfl) (by exact rfl) (by exact rfl) (by exact rfl)]
   | rw [b6 (by exact rfl) (by exact rfl) (by exact rfl) (by exact rfl) (by exact rfl) (by exact rfl)]
   | fail)
 refine ai▸ae (r := .tup [V2 v, .int .i64 0]) ?_ (aa.tup (by simp [aJ,aa.int]))
 simp (disch:=decide) only [RS,aX,a9,ao,JU,dK]
theorem Tc {f fa ff fv:FuncId} (h:Has P f (mB fa ff fv)) (a b:Q2) (h1:VP P G fa [NV a.1,NV b.1] (.tup [NV (a.1+b.1), .int .i64 0])) (h2:VP P G fa [NV a.2,NV b.2] (.tup [NV (a.2+b.2), .int .i64 0]))
   (hf:VP P G ff [.int .i64 0, .int .i64 0] (.int .i64 0)) (hv:VP P G fv [NV (a.1+b.1),NV (a.2+b.2), .int .i64 0] (.tup [V2 (kS a b), .int .i64 0])):VP P G f [V2 a,V2 b] (.tup [V2 (kS a b), .int .i64 0]):=by
 refine VP.has h ?_
 simp only [mB]
 repeat (first
   | simp (disch:=first | decide | exact rfl) only [SS,DD,Nat.reduceAdd,aq,ao,g0,g1,gG,Dq,Dr,cB,bU,dr]
   | with_reducible refine ah (by assumption) (by simp [aa.int,aF]) ?_
   | with_reducible refine ak (by assumption) (by simp [aa.int,aF]) ?_
   | with_reducible refine And.intro (a:=ab _ _) (by simp [ab,apart]) ?_
   | with_reducible refine VW.aC 3 (VW.of ?_)
   | with_reducible refine bY.next _ (VW.of ?_)
   | rw [aj (by exact rfl) (by exact rfl) (by exact rfl) (by exact rfl) (by exact rfl)]
   | rw [bZ (by exact rfl) (by exact rfl) (by exact rfl) (by exact rfl)]
   | rw [b6 (by exact rfl) (by exact rfl) (by exact rfl) (by exact rfl) (by exact rfl) (by exact rfl)]
   | fail)
 refine ai▸ae (r := .tup [V2 (kS a b), .int .i64 0]) ?_ (aa.tup (by simp [aJ,aa.int]))
 simp (disch:=decide) only [RS,aX,a9,ao,dK]
theorem Td {f fn:FuncId} (h:Has P f (mD fn)) (a:Q2) (h1:VP P G fn [NV a.1] (NV (-a.1))) (h2:VP P G fn [NV a.2] (NV (-a.2))):VP P G f [V2 a] (V2 (Ds a)):=by
 refine VP.has h ?_
 simp only [mD]
 repeat (first
   | simp (disch:=first | decide | exact rfl) only [SS,DD,Nat.reduceAdd,aq,ao,gG,Dq,Dr,dr,EI]
   | with_reducible refine ah (by assumption) (by simp [aF]) ?_
   | with_reducible refine ak (by assumption) (by simp [aF]) ?_
   | with_reducible refine And.intro (a:=ab _ _) (by simp [ab,apart]) ?_
   | with_reducible refine VW.aC 3 (VW.of ?_)
   | with_reducible refine bY.next _ (VW.of ?_)
   | rw [aj (by exact rfl) (by exact rfl) (by exact rfl) (by exact rfl) (by exact rfl)]
   | rw [bZ (by exact rfl) (by exact rfl) (by exact rfl) (by exact rfl)]
   | rw [b6 (by exact rfl) (by exact rfl) (by exact rfl) (by exact rfl) (by exact rfl) (by exact rfl)]
   | fail)
 refine ai▸ae (r:=V2 (Ds a)) ?_ (aJ _)
 simp (disch:=decide) only [RS,aX,a9,ao,JU,dK];rfl
theorem Te {f fn fa:FuncId} (h:Has P f (mE fn fa)) (a b:Q2) (h1:VP P G fn [V2 b] (V2 (Ds b))) (h2:VP P G fa [V2 a,V2 (Ds b)] (.tup [V2 (kS a (Ds b)), .int .i64 0])):VP P G f [V2 a,V2 b] (.tup [V2 (eR a b), .int .i64 0]):=by
 rw [show kS a (Ds b)=eR a b from by simp [kS,Ds,eR,Rat.sub_eq_add_neg]] at h2
 refine VP.has h ?_
 simp only [mE]
 repeat (first
   | simp (disch:=first | decide | exact rfl) only [SS,DD,Nat.reduceAdd,aq,ao,g0,g1,gG,dK,dr]
   | with_reducible refine ah (by assumption) (by simp [aJ]) ?_
   | with_reducible refine ak (by assumption) (by simp [aJ]) ?_
   | with_reducible refine And.intro (a:=ab _ _) (by simp [ab,apart]) ?_
   | with_reducible refine VW.aC 3 (VW.of ?_)
   | with_reducible refine bY.next _ (VW.of ?_)
   | rw [aj (by exact rfl) (by exact rfl) (by exact rfl) (by exact rfl) (by exact rfl)]
   | rw [bZ (by exact rfl) (by exact rfl) (by exact rfl) (by exact rfl)]
   | rw [b6 (by exact rfl) (by exact rfl) (by exact rfl) (by exact rfl) (by exact rfl) (by exact rfl)]
   | fail)
 refine ai▸ae (r := .tup [V2 (eR a b), .int .i64 0]) ?_ (aa.tup (by simp [aJ,aa.int]))
 simp (disch:=decide) only [RS,aX,a9,ao,dK]
theorem Nc {f fm ff fv:FuncId} (h:Has P f (ks fm ff fv)) (a:Q2) (n:Rat) (h1:VP P G fm [NV a.1,NV n] (.tup [NV (a.1*n), .int .i64 0])) (h2:VP P G fm [NV a.2,NV n] (.tup [NV (a.2*n), .int .i64 0]))
   (hf:VP P G ff [.int .i64 0, .int .i64 0] (.int .i64 0)) (hv:VP P G fv [NV (a.1*n),NV (a.2*n), .int .i64 0] (.tup [V2 (iA a n), .int .i64 0])):VP P G f [V2 a,NV n] (.tup [V2 (iA a n), .int .i64 0]):=by
 refine VP.has h ?_
 simp only [ks]
 repeat (first
   | simp (disch:=first | decide | exact rfl) only [SS,DD,Nat.reduceAdd,aq,ao,g0,g1,gG,Dq,Dr,g8,cB,bU,dr]
   | with_reducible refine ah (by assumption) (by simp [aa.int,aF]) ?_
   | with_reducible refine ak (by assumption) (by simp [aa.int,aF]) ?_
   | with_reducible refine And.intro (a:=ab _ _) (by simp [ab,apart]) ?_
   | with_reducible refine VW.aC 3 (VW.of ?_)
   | with_reducible refine bY.next _ (VW.of ?_)
   | rw [aj (by exact rfl) (by exact rfl) (by exact rfl) (by exact rfl) (by exact rfl)]
   | rw [bZ (by exact rfl) (by exact rfl) (by exact rfl) (by exact rfl)]
   | rw [b6 (by exact rfl) (by exact rfl) (by exact rfl) (by exact rfl) (by exact rfl) (by exact rfl)]
   | fail)
 refine ai▸ae (r := .tup [V2 (iA a n), .int .i64 0]) ?_ (aa.tup (by simp [aJ,aa.int]))
 simp (disch:=decide) only [RS,aX,a9,ao,dK]
theorem O9 {f fn:FuncId} (h:Has P f (lr fn)) (a:Q2) (h1:VP P G fn [NV a.2] (NV (-a.2))):VP P G f [V2 a] (V2 (-a.2,a.1)):=by
 refine VP.has h ?_
 simp only [lr]
 repeat (first
   | simp (disch:=first | decide | exact rfl) only [SS,DD,Nat.reduceAdd,aq,ao,gG,Dq,Dr,dr,EI]
   | with_reducible refine ah (by assumption) (by simp [aF]) ?_
   | with_reducible refine ak (by assumption) (by simp [aF]) ?_
   | with_reducible refine And.intro (a:=ab _ _) (by simp [ab,apart]) ?_
   | with_reducible refine VW.aC 3 (VW.of ?_)
   | with_reducible refine bY.next _ (VW.of ?_)
   | rw [aj (by exact rfl) (by exact rfl) (by exact rfl) (by exact rfl) (by exact rfl)]
   | rw [bZ (by exact rfl) (by exact rfl) (by exact rfl) (by exact rfl)]
   | rw [b6 (by exact rfl) (by exact rfl) (by exact rfl) (by exact rfl) (by exact rfl) (by exact rfl)]
   | fail)
 refine ai▸ae (r:=V2 (-a.2,a.1)) ?_ (aJ _)
 simp (disch:=decide) only [RS,aX,a9,ao,JU,dK]
theorem Tf {f fm ff fa:FuncId} (h:Has P f (mG fm ff fa)) (a b:Q2) (h1:VP P G fm [NV a.1,NV b.1] (.tup [NV (a.1*b.1), .int .i64 0])) (h2:VP P G fm [NV a.2,NV b.2] (.tup [NV (a.2*b.2), .int .i64 0]))
   (ha:VP P G fa [NV (a.1*b.1),NV (a.2*b.2)] (.tup [NV (fB a b), .int .i64 0])):VP P G f [V2 a,V2 b] (.tup [NV (fB a b), .int .i64 0]):=by
 refine VP.has h ?_
 simp only [mG]
 repeat (first
   | simp (disch:=first | decide | exact rfl) only [SS,Nat.reduceAdd,aq,ao,ZZ,g0,g1,gG,Dq,Dr,cB,bU]
   | with_reducible refine ah (by assumption) (by simp [aF]) ?_
   | with_reducible refine ak (by assumption) (by simp [aF]) ?_
   | with_reducible refine And.intro (a:=ab _ _) (by simp [ab,apart]) ?_
   | with_reducible refine VW.aC 3 (VW.of ?_)
   | with_reducible refine bY.next _ (VW.of ?_)
   | rw [aj (by exact rfl) (by exact rfl) (by exact rfl) (by exact rfl) (by exact rfl)]
   | rw [bZ (by exact rfl) (by exact rfl) (by exact rfl) (by exact rfl)]
   | rw [b6 (by exact rfl) (by exact rfl) (by exact rfl) (by exact rfl) (by exact rfl) (by exact rfl)]
   | fail)
 refine ai▸ae (r := .tup [NV (fB a b), .int .i64 0]) ?_ (aa.tup (by simp [aF,aa.int]))
 simp (disch:=decide) only [RS,aX,a9,ao,cB]
theorem KY {f fd:FuncId} (h:Has P f (jP fd)) (a:Q2) (hd:VP P G fd [V2 a,V2 a] (.tup [NV (fB a a), .int .i64 0])):VP P G f [V2 a] (.tup [NV (fB a a), .int .i64 0]):=by
 refine VP.has h ?_
 simp only [jP]
 repeat (first
   | simp (disch:=first | decide | exact rfl) only [SS,Nat.reduceAdd,aq,ao,g0,g1,gG,dK,bU]
   | with_reducible refine ah (by assumption) (by simp [aJ]) ?_
   | with_reducible refine ak (by assumption) (by simp [aJ]) ?_
   | with_reducible refine And.intro (a:=ab _ _) (by simp [ab,apart]) ?_
   | with_reducible refine VW.aC 3 (VW.of ?_)
   | with_reducible refine bY.next _ (VW.of ?_)
   | rw [aj (by exact rfl) (by exact rfl) (by exact rfl) (by exact rfl) (by exact rfl)]
   | rw [bZ (by exact rfl) (by exact rfl) (by exact rfl) (by exact rfl)]
   | rw [b6 (by exact rfl) (by exact rfl) (by exact rfl) (by exact rfl) (by exact rfl) (by exact rfl)]
   | fail)
 refine ai▸ae (r := .tup [NV (fB a a), .int .i64 0]) ?_ (aa.tup (by simp [aF,aa.int]))
 simp (disch:=decide) only [RS,aX,a9,ao,cB]
theorem Nd {f fe:FuncId} (h:Has P f (kt fe)) (a b:Q2) (h1:VP P G fe [NV a.1,NV b.1] (.bool (decide (a.1=b.1)))) (h2:VP P G fe [NV a.2,NV b.2] (.bool (decide (a.2=b.2)))):VP P G f [V2 a,V2 b] (.bool (decide (a=b))):=by
 have e:decide (a=b)=(decide (a.1=b.1)&&decide (a.2=b.2)):=by rw [<- Bool.decide_and];congr 1;exact propext Prod.ext_iff
 rw [e]
 refine VP.has h ?_
 simp only [kt]
 cases hd:decide (a.1=b.1)<;>rw [hd] at h1
 all_goals
   repeat (first
     | simp (disch:=first | decide | exact rfl) only [SS,Nat.reduceAdd,aq,ao,gG,Dq,Dr,Bool.true_and,Bool.false_and]
     | with_reducible refine ah (by assumption) (by simp [aF]) ?_
     | with_reducible refine ak (by assumption) (by simp [aF]) ?_
     | with_reducible refine And.intro (a:=ab _ _) (by simp [ab,apart]) ?_
     | with_reducible refine VW.aC 3 (VW.of ?_)
     | with_reducible refine bY.next _ (VW.of ?_)
     | rw [aj (by exact rfl) (by exact rfl) (by exact rfl) (by exact rfl) (by exact rfl)]
     | rw [bZ (by exact rfl) (by exact rfl) (by exact rfl) (by exact rfl)]
     | rw [b6 (by exact rfl) (by exact rfl) (by exact rfl) (by exact rfl) (by exact rfl) (by exact rfl)]
     | fail)
   exact ai▸ae rfl (aa.bool _)
theorem Nf {f fv:FuncId} (h:Has P f (ku fv)) (a:Q2) (h1:VP P G fv [NV a.1] (.bool true)) (h2:VP P G fv [NV a.2] (.bool true)):VP P G f [V2 a] (.bool true):=by
 refine VP.has h ?_
 simp only [ku]
 repeat (first
   | simp (disch:=first | decide | exact rfl) only [SS,Nat.reduceAdd,ao,gG,Dq,Dr]
   | with_reducible refine ah (by assumption) (by simp [aF]) ?_
   | with_reducible refine ak (by assumption) (by simp [aF]) ?_
   | with_reducible refine And.intro (a:=ab _ _) (by simp [ab,apart]) ?_
   | with_reducible refine VW.aC 3 (VW.of ?_)
   | with_reducible refine bY.next _ (VW.of ?_)
   | rw [aj (by exact rfl) (by exact rfl) (by exact rfl) (by exact rfl) (by exact rfl)]
   | rw [bZ (by exact rfl) (by exact rfl) (by exact rfl) (by exact rfl)]
   | rw [b6 (by exact rfl) (by exact rfl) (by exact rfl) (by exact rfl) (by exact rfl) (by exact rfl)]
   | fail)
 exact ai▸ae rfl (aa.bool _)
end
end Go.VL
end

section
set_option linter.unusedVariables false
set_option linter.unusedVariables false
namespace Go.VL
def eB:cZ:=⟨[.agg [.int .i64 0]],1,false⟩
def bF (P:Program) (G:Nat->Option (List AV)) (f:FuncId) (args:List AV) (r:AV):Prop :=
 ∀ (p id:Id), ¬ p <:+ id->aZ P G f (.ref id 0 0::args) p [(id,eB)] { val:=r,rd:=[id] }
theorem Ai {id:Id} {σ : af} (hσ : σ id=some eB) (i:Id):(af.of [(id,eB)]).app [] i=none∨(af.of [(id,eB)]).app [] i = σ i:=by
 by_cases e:i=id
 . subst e;right;rw [hσ];simp [af.app,af.of]
 . left;simp [af.app,af.of,e]
theorem jo {σ : af} {p:Id} {a c:Nat} {b:Option cZ} {agg:Bool} {n e o:Nat} (h:c≠a):kM (σ.put (a::p) b) agg n (.ref (c::p) e o)=kM σ agg n (.ref (c::p) e o):=aq (by simp [h])
theorem Zr {id:Id}:kM (af.of [(id,eB)]) false 1 (.ref id 0 0)=some { val := .int .i64 0,rd:=[id] }:=by
 rw [Ax (bk:=eB) (el := .agg [.int .i64 0]) (by simp [af.of]) rfl];rfl
theorem pe {p id:Id} (h : ¬ p <:+ id) (q:Nat):id≠q::p:=fun e=>h ⟨[q],e.symm⟩
section
variable {P:Program} {G:Nat->Option (List AV)} {π : Id} {base:Nat} {Q:bX->VS->Prop} {n:Nat} {ps:List (Nat × Nat)} {d:Option Nat} {os:List bx} {i:Nat} {t:List AV} {σ : af} {acc:List eS} {f:FuncId} {id:Id} {args:List AV} {r:AV}
theorem hZ (h:bF P G f args r) (jZ : ¬ π <:+ id) (hσ : σ id=some eB) (k:vs P G π base Q n os (i+1) (gl t d r) σ):Bq P G π base Q n d os i t σ f (.ref id 0 0::args) :=
 ⟨_,_,h _ id (fun ⟨q,e⟩=>jZ ⟨q++[base+i],by simpa using e⟩),by simpa using hσ,by simp,k⟩
theorem kL {m:Nat} (h:bF P G f args r) (hm:m<base) (hσ : σ (m :: π)=some eB) (k:vd P G π base Q n ps os (i+1) ({ val:=r,rd:=[m :: π] }::acc) (gl t d r) σ):D2 P G π base Q n ps d os i acc t σ f (.ref (m :: π) 0 0::args) :=
 ⟨_,_,h _ (m :: π) (fun h=>by rcases List.suffix_cons_iff.1 h with e | e;simp at e;omega;have:=e.length_le;simp at this;omega),by simpa using hσ,by simp,k⟩
end
section
variable {P:Program} {G:Nat->Option (List AV)}
theorem Zs {f:FuncId} (h:Has P f iu):bF P G f [.int .i64 0] (.tup []):=fun p id jZ=>by
 refine aZ.has h ?_
 simp only [iu,SS,Nat.reduceAdd,Zr,decide_true]
 rw [Dl (x := .agg [.int .i64 0]) (k:=1) (y := .agg [.int .i64 0]) (by simp [af.of,eB]) rfl rfl (by decide) rfl]
 simp only [SS,Nat.reduceAdd]
 exact Fc▸bH rfl (Ai (by simp [af.put,eB]))
theorem acB {f fn fi:FuncId} (h:Has P f (iH fn fi)) (hn:bF P G fn [.int .i64 0] (.tup [])) (a):bF P G f [(NV a), .int .i64 0] (NV a):=fun p id jZ=>by
 have hq:=pe jZ
 refine aZ.has h ?_
 simp only [iH]
 repeat (first
   | simp (disch:=first | decide | exact rfl) only [jo,SS,Nat.reduceAdd,ao,ZZ,g8,cB,bU]
   | with_reducible refine ah (by assumption) (by simp [aw,aB,aA,aa.int,aa.bool,aa.str,aS,aD,aF,aJ,cg]) ?_
   | with_reducible refine ak (by assumption) (by simp [aw,aB,aA,aa.int,aa.bool,aa.str,aS,aD,aF,aJ,cg]) ?_
   | with_reducible refine And.intro (a:=ab _ _) (by simp [ab,apart]) ?_
   | with_reducible refine VW.aC 3 (VW.of ?_)
   | with_reducible refine bY.next _ (VW.of ?_)
   | rw [aj (by repeat (first | exact cz | refine (dM (by simp)).trans ?_)) (by exact rfl) (by exact rfl) (by exact rfl) (by exact rfl)]
   | rw [bZ (by exact rfl) (by exact rfl) (by exact rfl) (by exact rfl)]
   | rw [b6 (by exact rfl) (by exact rfl) (by exact rfl) (by exact rfl) (by exact rfl) (by exact rfl)]
   | refine hZ hn jZ (by simp [af.put,af.of,hq]) ?_
   | fail)
 refine eI▸bH (by simp (disch:=decide) only [RS,aX,a9,ao,cB]) (Ai (by simp [af.put,af.of,hq]))
theorem acC {f fn fi:FuncId} (h:Has P f (iI fn fi)) (hn:bF P G fn [.int .i64 0] (.tup [])) (a):bF P G f [(V2 a), .int .i64 0] (V2 a):=fun p id jZ=>by
 have hq:=pe jZ
 refine aZ.has h ?_
 simp only [iI]
 repeat (first
   | simp (disch:=first | decide | exact rfl) only [jo,SS,Nat.reduceAdd,ao,ZZ,gG,dK,dr]
   | with_reducible refine ah (by assumption) (by simp [aw,aB,aA,aa.int,aa.bool,aa.str,aS,aD,aF,aJ,cg]) ?_
   | with_reducible refine ak (by assumption) (by simp [aw,aB,aA,aa.int,aa.bool,aa.str,aS,aD,aF,aJ,cg]) ?_
   | with_reducible refine And.intro (a:=ab _ _) (by simp [ab,apart]) ?_
   | with_reducible refine VW.aC 3 (VW.of ?_)
   | with_reducible refine bY.next _ (VW.of ?_)
   | rw [aj (by repeat (first | exact cz | refine (dM (by simp)).trans ?_)) (by exact rfl) (by exact rfl) (by exact rfl) (by exact rfl)]
   | rw [bZ (by exact rfl) (by exact rfl) (by exact rfl) (by exact rfl)]
   | rw [b6 (by exact rfl) (by exact rfl) (by exact rfl) (by exact rfl) (by exact rfl) (by exact rfl)]
   | refine hZ hn jZ (by simp [af.put,af.of,hq]) ?_
   | fail)
 refine eI▸bH (by simp (disch:=decide) only [RS,aX,a9,ao,dK]) (Ai (by simp [af.put,af.of,hq]))
theorem Zt {f fa fv:FuncId} (h:Has P f (iw fa fv)) (a b:Q2) (ha:VP P G fa [V2 a,V2 b] (.tup [V2 (kS a b), .int .i64 0])) (hv:∀ a,bF P G fv [V2 a, .int .i64 0] (V2 a)):bF P G f [V2 a,V2 b] (V2 (kS a b)):=fun p id jZ=>by
 have hq:=pe jZ
 refine aZ.has h ?_
 simp only [iw]
 repeat (first
   | simp (disch:=first | decide | exact rfl) only [jo,SS,Nat.reduceAdd,ao,g0,g1,gG,dK,dr]
   | with_reducible refine ah (by assumption) (by simp [aJ]) ?_
   | with_reducible refine ak (by assumption) (by simp [aJ]) ?_
   | with_reducible refine And.intro (a:=ab _ _) (by simp [ab,apart]) ?_
   | with_reducible refine VW.aC 3 (VW.of ?_)
   | with_reducible refine bY.next _ (VW.of ?_)
   | rw [aj (by repeat (first | exact cz | refine (dM (by simp)).trans ?_)) (by exact rfl) (by exact rfl) (by exact rfl) (by exact rfl)]
   | rw [bZ (by exact rfl) (by exact rfl) (by exact rfl) (by exact rfl)]
   | rw [b6 (by exact rfl) (by exact rfl) (by exact rfl) (by exact rfl) (by exact rfl) (by exact rfl)]
   | refine hZ (hv _) jZ (by simp [af.put,af.of,hq]) ?_
   | fail)
 refine eI▸bH (by simp (disch:=decide) only [RS,aX,a9,ao,dK]) (Ai (by simp [af.put,af.of,hq]))
theorem Wl {f fa fv:FuncId} (h:Has P f (gU fa fv)) (a b:Q2) (ha:VP P G fa [V2 a,V2 b] (.tup [V2 (eR a b), .int .i64 0])) (hv:∀ a,bF P G fv [V2 a, .int .i64 0] (V2 a)):bF P G f [V2 a,V2 b] (V2 (eR a b)):=fun p id jZ=>by
 have hq:=pe jZ
 refine aZ.has h ?_
 simp only [gU]
 repeat (first
   | simp (disch:=first | decide | exact rfl) only [jo,SS,Nat.reduceAdd,ao,g0,g1,gG,dK,dr]
   | with_reducible refine ah (by assumption) (by simp [aJ]) ?_
   | with_reducible refine ak (by assumption) (by simp [aJ]) ?_
   | with_reducible refine And.intro (a:=ab _ _) (by simp [ab,apart]) ?_
   | with_reducible refine VW.aC 3 (VW.of ?_)
   | with_reducible refine bY.next _ (VW.of ?_)
   | rw [aj (by repeat (first | exact cz | refine (dM (by simp)).trans ?_)) (by exact rfl) (by exact rfl) (by exact rfl) (by exact rfl)]
   | rw [bZ (by exact rfl) (by exact rfl) (by exact rfl) (by exact rfl)]
   | rw [b6 (by exact rfl) (by exact rfl) (by exact rfl) (by exact rfl) (by exact rfl) (by exact rfl)]
   | refine hZ (hv _) jZ (by simp [af.put,af.of,hq]) ?_
   | fail)
 refine eI▸bH (by simp (disch:=decide) only [RS,aX,a9,ao,dK]) (Ai (by simp [af.put,af.of,hq]))
theorem Wm {f fa fv:FuncId} (h:Has P f (gV fa fv)) (a:Q2) (n:Rat) (ha:VP P G fa [V2 a,NV n] (.tup [V2 (iA a n), .int .i64 0])) (hv:∀ a,bF P G fv [V2 a, .int .i64 0] (V2 a)):bF P G f [V2 a,NV n] (V2 (iA a n)):=fun p id jZ=>by
 have hq:=pe jZ
 refine aZ.has h ?_
 simp only [gV]
 repeat (first
   | simp (disch:=first | decide | exact rfl) only [jo,SS,Nat.reduceAdd,ao,g0,g1,gG,dK,g8,cB,dr]
   | with_reducible refine ah (by assumption) (by simp [aF,aJ]) ?_
   | with_reducible refine ak (by assumption) (by simp [aF,aJ]) ?_
   | with_reducible refine And.intro (a:=ab _ _) (by simp [ab,apart]) ?_
   | with_reducible refine VW.aC 3 (VW.of ?_)
   | with_reducible refine bY.next _ (VW.of ?_)
   | rw [aj (by repeat (first | exact cz | refine (dM (by simp)).trans ?_)) (by exact rfl) (by exact rfl) (by exact rfl) (by exact rfl)]
   | rw [bZ (by exact rfl) (by exact rfl) (by exact rfl) (by exact rfl)]
   | rw [b6 (by exact rfl) (by exact rfl) (by exact rfl) (by exact rfl) (by exact rfl) (by exact rfl)]
   | refine hZ (hv _) jZ (by simp [af.put,af.of,hq]) ?_
   | fail)
 refine eI▸bH (by simp (disch:=decide) only [RS,aX,a9,ao,dK]) (Ai (by simp [af.put,af.of,hq]))
theorem Tg {f fa fv:FuncId} (h:Has P f (gD fa fv)) (a:Q2) (ha:VP P G fa [V2 a] (.tup [NV (fB a a), .int .i64 0])) (hv:∀ a,bF P G fv [NV a, .int .i64 0] (NV a)):bF P G f [V2 a] (NV (fB a a)):=fun p id jZ=>by
 have hq:=pe jZ
 refine aZ.has h ?_
 simp only [gD]
 repeat (first
   | simp (disch:=first | decide | exact rfl) only [jo,SS,Nat.reduceAdd,ao,g0,g1,gG,dK,bU]
   | with_reducible refine ah (by assumption) (by simp [aJ]) ?_
   | with_reducible refine ak (by assumption) (by simp [aJ]) ?_
   | with_reducible refine And.intro (a:=ab _ _) (by simp [ab,apart]) ?_
   | with_reducible refine VW.aC 3 (VW.of ?_)
   | with_reducible refine bY.next _ (VW.of ?_)
   | rw [aj (by repeat (first | exact cz | refine (dM (by simp)).trans ?_)) (by exact rfl) (by exact rfl) (by exact rfl) (by exact rfl)]
   | rw [bZ (by exact rfl) (by exact rfl) (by exact rfl) (by exact rfl)]
   | rw [b6 (by exact rfl) (by exact rfl) (by exact rfl) (by exact rfl) (by exact rfl) (by exact rfl)]
   | refine hZ (hv _) jZ (by simp [af.put,af.of,hq]) ?_
   | fail)
 refine eI▸bH (by simp (disch:=decide) only [RS,aX,a9,ao,cB]) (Ai (by simp [af.put,af.of,hq]))
theorem acD {f fm fs:FuncId} (h:Has P f (iJ fm fs)) (a b:Q2) (hm:bF P G fm [V2 a,V2 b] (V2 (eR a b))) (hs:bF P G fs [V2 (eR a b)] (NV (fB (eR a b) (eR a b)))):bF P G f [V2 a,V2 b] (NV (fB (eR a b) (eR a b))):=fun p id jZ=>by
 have hq:=pe jZ
 refine aZ.has h ?_
 simp only [iJ]
 repeat (first
   | simp (disch:=first | decide | exact rfl) only [jo,SS,Nat.reduceAdd,ao,gG,dK,bU]
   | with_reducible refine ah (by assumption) (by simp [aw,aB,aA,aa.int,aa.bool,aa.str,aS,aD,aF,aJ,cg]) ?_
   | with_reducible refine ak (by assumption) (by simp [aw,aB,aA,aa.int,aa.bool,aa.str,aS,aD,aF,aJ,cg]) ?_
   | with_reducible refine And.intro (a:=ab _ _) (by simp [ab,apart]) ?_
   | with_reducible refine VW.aC 3 (VW.of ?_)
   | with_reducible refine bY.next _ (VW.of ?_)
   | rw [aj (by repeat (first | exact cz | refine (dM (by simp)).trans ?_)) (by exact rfl) (by exact rfl) (by exact rfl) (by exact rfl)]
   | rw [bZ (by exact rfl) (by exact rfl) (by exact rfl) (by exact rfl)]
   | rw [b6 (by exact rfl) (by exact rfl) (by exact rfl) (by exact rfl) (by exact rfl) (by exact rfl)]
   | refine hZ hm jZ (by simp [af.put,af.of,hq]) ?_
   | refine hZ hs jZ (by simp [af.put,af.of,hq]) ?_
   | fail)
 refine eI▸bH (by simp (disch:=decide) only [RS,aX,a9,ao,cB]) (Ai (by simp [af.put,af.of,hq]))
end
end Go.VL
end

section
set_option linter.unusedVariables false
set_option linter.unusedVariables false
namespace Go.VL
open Go.Lib
structure CX where
 Aj:Bool
 a:Q2
 b:Q2
 c:Q2
 cw:Bool
def CX.cells (x:CX):List AV:=[.bool x.Aj, .nils,EV x.a.1, .nils,EV x.a.2, .nils,EV x.b.1, .nils,EV x.b.2, .nils,EV x.c.1, .nils,EV x.c.2, .bool x.cw]
def CX.av (x:CX):AV := .agg x.cells
theorem a8 (x:CX):aa x.av:=aa.agg (by
 intro c hc
 simp only [CX.cells,List.mem_cons,List.not_mem_nil,or_false] at hc
 rcases hc with rfl | rfl | rfl | rfl | rfl | rfl | rfl | rfl | rfl | rfl | rfl | rfl | rfl | rfl<;>first | exact aa.bool _ | exact aa.nils | exact aD _)
theorem HR (x:CX):∀ c∈x.av.cells,aa c:=by
 intro c hc
 simp only [CX.av,AV.cells,CX.cells,List.mem_cons,List.not_mem_nil,or_false] at hc
 rcases hc with rfl | rfl | rfl | rfl | rfl | rfl | rfl | rfl | rfl | rfl | rfl | rfl | rfl | rfl<;>first | exact aa.bool _ | exact aa.nils | exact aD _
theorem B6 (x:CX):(x.av.cells.all AV.one=true)=True:=by simp [CX.av,CX.cells,AV.cells,AV.one,EV]
theorem F7 (x:CX):x.av.size=14:=rfl
theorem qI (x:CX):part true x.av.cells 0 14=some x.av:=rfl
theorem JV (x:CX):part false x.av.cells 0 1=some (.bool x.Aj):=rfl
theorem JW (x:CX):part true x.av.cells 1 4=some (V2 x.a):=rfl
theorem JX (x:CX):part true x.av.cells 5 4=some (V2 x.b):=rfl
theorem Ng (x:CX):part true x.av.cells 9 4=some (V2 x.c):=rfl
theorem Wn (x:CX):part false x.av.cells 13 1=some (.bool x.cw):=rfl
def zC:AV := .agg [.bool false, .nils, .nils, .nils, .nils, .nils, .nils, .nils, .nils, .nils, .nils, .nils, .nils, .bool false]
theorem iP:((AV.cells (.agg [.bool false, .nils, .nils, .nils, .nils, .nils, .nils, .nils, .nils, .nils, .nils, .nils, .nils, .bool false])).all AV.one=true)=True:=by simp [AV.cells,AV.one]
theorem Rb {σ : af} {id:Id} {k:Nat} {x:CX} {v:Q2} (h : σ id=some ⟨[x.av],k,false⟩):fD σ 4 (.ref id 0 1) (V2 v)=some { val := .tup [],rd:=[id],up:=[(id,some ⟨[{ x with a:=v }.av],k,false⟩)] } :=
 fy (v:=V2 v) (el:=x.av) h rfl rfl (by simp [F7]) (of_eq_true (gG v))
theorem Rc {σ : af} {id:Id} {k:Nat} {x:CX} {v:Q2} (h : σ id=some ⟨[x.av],k,false⟩):fD σ 4 (.ref id 0 5) (V2 v)=some { val := .tup [],rd:=[id],up:=[(id,some ⟨[{ x with b:=v }.av],k,false⟩)] } :=
 fy (v:=V2 v) (el:=x.av) h rfl rfl (by simp [F7]) (of_eq_true (gG v))
theorem Re {σ : af} {id:Id} {k:Nat} {x:CX} {v:Q2} (h : σ id=some ⟨[x.av],k,false⟩):fD σ 4 (.ref id 0 9) (V2 v)=some { val := .tup [],rd:=[id],up:=[(id,some ⟨[{ x with c:=v }.av],k,false⟩)] } :=
 fy (v:=V2 v) (el:=x.av) h rfl rfl (by simp [F7]) (of_eq_true (gG v))
theorem Wo {σ : af} {id:Id} {k:Nat} {x:CX} {v:Bool} (h : σ id=some ⟨[x.av],k,false⟩):fD σ 1 (.ref id 0 13) (.bool v)=some { val := .tup [],rd:=[id],up:=[(id,some ⟨[{ x with cw:=v }.av],k,false⟩)] } :=
 fy (v := .bool v) (el:=x.av) h rfl rfl (by simp [F7]) rfl
def JY (u v:Q2):Rat:=fB (eR u v) (eR u v)
def CX.valid (x:CX):Bool:=if x.Aj then decide (0<dm (JY x.a x.c))&&decide (JY x.a x.c=JY x.b x.c) else !decide (x.a=x.b)
def CX.same (x y:CX):Bool:=x.Aj==y.Aj&&decide (x.a=y.a)&&decide (x.b=y.b)&&(!x.Aj||decide (x.c=y.c)&&x.cw==y.cw)
theorem tE {a b:List UInt8} (h:a.length+b.length<=140737488355328):bR .add .str (.str a) (.str b)=some (.str (a++b)):=by
 have e:m9 .add .str (.str a) (.str b)=some (.str (a++b)):=by
   simp only [m9,XV];exact if_pos (by unfold maxLen;omega)
 simp only [bR,e]
theorem Pa {σ : af} {p:Id} {k:IntKind} {n:Int} (h:0<=n/\n<128):bO σ p (.idStr (.int k n))=bz (some (.str [UInt8.ofNat n.toNat])):=if_pos h
section
variable {P:Program} {G:Nat->Option (List AV)}
theorem B7 (m:Nat) (hm:m<1000):bR .rem .int (.int .i64 (m:Int)) (.int .i64 10)=some (.int .i64 ((m%10:Nat):Int))/\bR .add .int (.int .i64 48) (.int .i64 ((m%10:Nat):Int))=some (.int .i64 ((48+m%10:Nat):Int)) /\
   IntKind.i32.wrap ((48+m%10:Nat):Int)=((48+m%10:Nat):Int)/\(∀ σ p,bO σ p (.idStr (.int .i32 ((48+m%10:Nat):Int)))=bz (some (.str [UInt8.ofNat (48+m%10)])))/\bR .quo .int (.int .i64 (m:Int)) (.int .i64 10)=some (.int .i64 ((m/10:Nat):Int)):=by
 refine ⟨?_, ?_, ?_,fun σ p => ?_, ?_⟩
 . rw [show (10:Int)=((10:Nat):Int) from rfl,Qw (by omega), <- Int.ofNat_tmod]
 . have e:IntKind.i64.wrap ((48:Int)+((m%10:Nat):Int))=((48+m%10:Nat):Int):=by rw [IntKind.wrap_i64];omega
   rw [Ku,e]
 . rw [IntKind.wrap_i32];omega
 . have:=Pa (σ := σ) (p:=p) (k := .i32) (n:=((48+m%10:Nat):Int)) (by omega)
   rw [Int.toNat_natCast] at this;exact this
 . have e:IntKind.i64.wrap ((m:Int).tdiv 10)=((m/10:Nat):Int):=by rw [Int.tdiv_eq_ediv_of_nonneg (by omega),IntKind.wrap_i64];omega
   rw [Kv (by omega),e]
theorem Nh {f:FuncId} (h:Has P f jQ) (n:Nat) (hn:n<1000):VP P G f [.int .i64 (n:Int)] (.str (decDigits n)):=by
 have g1:((([]:List UInt8)==[])=true):=rfl
 have g2:∀ (x:UInt8) (l:List UInt8),((x::l)==[])=false:=fun _ _=>rfl
 obtain ⟨a1,a2,a3,a4,a5⟩:=B7 n hn
 obtain ⟨b1,b2,b3,b4,b5⟩:=B7 (n/10) (by omega)
 obtain ⟨c1,c2,c3,c4,c5⟩:=B7 (n/10/10) (by omega)
 have s0:∀ x:UInt8,bR .add .str (.str [x]) (.str [])=some (.str [x]):=fun x=>tE (by simp)
 have s1:∀ x y:UInt8,bR .add .str (.str [x]) (.str [y])=some (.str [x,y]):=fun x y=>tE (by simp)
 have s2:∀ x y z:UInt8,bR .add .str (.str [x]) (.str [y,z])=some (.str [x,y,z]):=fun x y z=>tE (by simp)
 have e:decDigits n=if n<10 then [UInt8.ofNat (48+n%10)] else if n<100 then [UInt8.ofNat (48+n/10%10),UInt8.ofNat (48+n%10)] else [UInt8.ofNat (48+n/10/10%10),UInt8.ofNat (48+n/10%10),UInt8.ofNat (48+n%10)]:=by
   split
   . rw [qi (by assumption),Nat.mod_eq_of_lt (by assumption)]
   . split
     . rw [HK (by assumption),qi (by omega),Nat.mod_eq_of_lt (show n/10<10 by omega)];rfl
     . rw [HK (by assumption),HK (by omega),qi (by omega),Nat.mod_eq_of_lt (show n/10/10<10 by omega)];rfl
 rw [e]
 refine VP.has h ?_
 simp only [jQ]
 rcases (by omega:n<10∨(¬ n<10/\n<100)∨(¬ n<10 /\ ¬ n<100)) with k | ⟨k,k'⟩ | ⟨k,k'⟩
 . have d1:decide ((0:Int)<((n/10:Nat):Int))=false:=au (by omega)
   rw [if_pos k]
   repeat (first
     | simp (disch:=first | decide | exact rfl) only [SS,Nat.reduceAdd,aP,g2,a1,a2,a3,a4,a5,s0,d1]
     | with_reducible refine ah (by assumption) (by simp [aw,aB,aA,aa.int,aa.bool,aa.str,aS,aD,aF,aJ,a8,cg]) ?_
     | with_reducible refine ak (by assumption) (by simp [aw,aB,aA,aa.int,aa.bool,aa.str,aS,aD,aF,aJ,a8,cg]) ?_
     | with_reducible refine And.intro (a:=ab _ _) (by simp [ab,apart]) ?_
     | with_reducible refine VW.aC 3 (VW.of ?_)
     | with_reducible refine bY.next _ (VW.of ?_)
     | rw [aj (by exact rfl) (by exact rfl) (by exact rfl) (by exact rfl) (by exact rfl)]
     | rw [bZ (by exact rfl) (by exact rfl) (by exact rfl) (by exact rfl)]
     | rw [b6 (by exact rfl) (by exact rfl) (by exact rfl) (by exact rfl) (by exact rfl) (by exact rfl)]
     | fail)
   exact ai▸ae rfl (aa.str _)
 . have d1:decide ((0:Int)<((n/10:Nat):Int))=true:=ay (by omega)
   have d2:decide ((0:Int)<((n/10/10:Nat):Int))=false:=au (by omega)
   rw [if_neg k,if_pos k']
   repeat (first
     | simp (disch:=first | decide | exact rfl) only [SS,Nat.reduceAdd,aP,g2,a1,a2,a3,a4,a5,b1,b2,b3,b4,b5,s0,s1,d1,d2]
     | with_reducible refine ah (by assumption) (by simp [aw,aB,aA,aa.int,aa.bool,aa.str,aS,aD,aF,aJ,a8,cg]) ?_
     | with_reducible refine ak (by assumption) (by simp [aw,aB,aA,aa.int,aa.bool,aa.str,aS,aD,aF,aJ,a8,cg]) ?_
     | with_reducible refine And.intro (a:=ab _ _) (by simp [ab,apart]) ?_
     | with_reducible refine VW.aC 3 (VW.of ?_)
     | with_reducible refine bY.next _ (VW.of ?_)
     | rw [aj (by exact rfl) (by exact rfl) (by exact rfl) (by exact rfl) (by exact rfl)]
     | rw [bZ (by exact rfl) (by exact rfl) (by exact rfl) (by exact rfl)]
     | rw [b6 (by exact rfl) (by exact rfl) (by exact rfl) (by exact rfl) (by exact rfl) (by exact rfl)]
     | fail)
   exact ai▸ae rfl (aa.str _)
 . have d1:decide ((0:Int)<((n/10:Nat):Int))=true:=ay (by omega)
   have d2:decide ((0:Int)<((n/10/10:Nat):Int))=true:=ay (by omega)
   have d3:decide ((0:Int)<((n/10/10/10:Nat):Int))=false:=au (by omega)
   rw [if_neg k,if_neg k']
   repeat (first
     | simp (disch:=first | decide | exact rfl) only [SS,Nat.reduceAdd,aP,g2,a1,a2,a3,a4,a5,b1,b2,b3,b4,b5,c1,c2,c3,c4,c5,s0,s1,s2,d1,d2,d3]
     | with_reducible refine ah (by assumption) (by simp [aw,aB,aA,aa.int,aa.bool,aa.str,aS,aD,aF,aJ,a8,cg]) ?_
     | with_reducible refine ak (by assumption) (by simp [aw,aB,aA,aa.int,aa.bool,aa.str,aS,aD,aF,aJ,a8,cg]) ?_
     | with_reducible refine And.intro (a:=ab _ _) (by simp [ab,apart]) ?_
     | with_reducible refine VW.aC 3 (VW.of ?_)
     | with_reducible refine bY.next _ (VW.of ?_)
     | rw [aj (by exact rfl) (by exact rfl) (by exact rfl) (by exact rfl) (by exact rfl)]
     | rw [bZ (by exact rfl) (by exact rfl) (by exact rfl) (by exact rfl)]
     | rw [b6 (by exact rfl) (by exact rfl) (by exact rfl) (by exact rfl) (by exact rfl) (by exact rfl)]
     | fail)
   exact ai▸ae rfl (aa.str _)
theorem Ni {f fd:FuncId} (h:Has P f (jR fd)) (n:Nat) (hd:VP P G fd [.int .i64 (n:Int)] (.str (decDigits n))):VP P G f [.int .i64 (n:Int)] (.str (decDigits n)):=by
 refine VP.has h ?_
 simp only [jR]
 repeat (first
   | simp (disch:=first | decide | exact rfl) only [SS,Nat.reduceAdd]
   | with_reducible refine ah (by assumption) (by simp [aa.int]) ?_
   | with_reducible refine ak (by assumption) (by simp [aa.int]) ?_
   | with_reducible refine And.intro (a:=ab _ _) (by simp [ab,apart]) ?_
   | with_reducible refine VW.aC 3 (VW.of ?_)
   | with_reducible refine bY.next _ (VW.of ?_)
   | rw [aj (by exact rfl) (by exact rfl) (by exact rfl) (by exact rfl) (by exact rfl)]
   | rw [bZ (by exact rfl) (by exact rfl) (by exact rfl) (by exact rfl)]
   | rw [b6 (by exact rfl) (by exact rfl) (by exact rfl) (by exact rfl) (by exact rfl) (by exact rfl)]
   | fail)
 exact ai▸ae rfl (aa.str _)
theorem Pb {f fe ff fs fq:FuncId} (h:Has P f (kv fe ff fs fq)) (x:CX) (he:VP P G fe [V2 x.a,V2 x.b] (.bool (decide (x.a=x.b)))) (h1:bF P G ff [V2 x.a,V2 x.c] (NV (JY x.a x.c))) (h2:bF P G ff [V2 x.b,V2 x.c] (NV (JY x.b x.c)))
   (hs:VP P G fs [NV (JY x.a x.c)] (.int .i64 (dm (JY x.a x.c)))) (hq:VP P G fq [NV (JY x.a x.c),NV (JY x.b x.c)] (.bool (decide (JY x.a x.c=JY x.b x.c)))):VP P G f [x.av] (.bool x.valid):=by
 refine VP.has h ?_
 simp only [kv]
 unfold CX.valid
 cases yV:x.Aj
 . rw [if_neg (by decide)]
   repeat (first
     | simp (disch:=first | decide | exact rfl) only [SS,Nat.reduceAdd,ao,B6,JV,JW,JX,yV]
     | with_reducible refine ah (by assumption) (by simp [aF,aJ]) ?_
     | with_reducible refine ak (by assumption) (by simp [aF]) ?_
     | with_reducible refine And.intro (a:=ab _ _) (by simp [ab,apart]) ?_
     | with_reducible refine VW.aC 3 (VW.of ?_)
     | with_reducible refine bY.next _ (VW.of ?_)
     | rw [aj (by exact rfl) (by exact rfl) (by exact rfl) (by exact rfl) (by exact rfl)]
     | rw [bZ (by exact rfl) (by exact rfl) (by exact rfl) (by exact rfl)]
     | rw [b6 (by exact rfl) (by exact rfl) (by exact rfl) (by exact rfl) (by exact rfl) (by exact rfl)]
     | fail)
   exact ai▸ae rfl (aa.bool _)
 . rw [if_pos rfl]
   have e0:jq [.int .i64 0] []=some [.int .i64 0]:=rfl
   have e1:((AV.cells (.agg [.int .i64 0])).all AV.one=true)=True:=by simp [AV.cells,AV.one]
   have e2:part false (AV.cells (.agg [.int .i64 0])) 0 1=some (.int .i64 0):=rfl
   cases hd:decide (0<dm (JY x.a x.c))
   all_goals
     repeat (first
       | simp (disch:=first | decide | exact rfl) only [SS,DD,Nat.reduceAdd,aq,ao,decide_true,B6,JV,JW,JX,Ng,cB,bU,yV,hd,e0,e1,e2,Bool.true_and,Bool.false_and]
       | with_reducible refine ah (by assumption) (by simp [aF]) ?_
       | with_reducible refine ak (by assumption) (by simp [aF]) ?_
       | with_reducible refine And.intro (a:=ab _ _) (by simp [ab,apart]) ?_
       | with_reducible refine VW.aC 3 (VW.of ?_)
       | with_reducible refine bY.next _ (VW.of ?_)
       | rw [aj (by exact rfl) (by exact rfl) (by exact rfl) (by exact rfl) (by exact rfl)]
       | rw [bZ (by exact rfl) (by exact rfl) (by exact rfl) (by exact rfl)]
       | rw [b6 (by exact rfl) (by exact rfl) (by exact rfl) (by exact rfl) (by exact rfl) (by exact rfl)]
       | refine kL h1 (by decide) (by exact rfl) ?_
       | refine kL h2 (by decide) (by exact rfl) ?_
       | fail)
     exact ai▸ae rfl (aa.bool _)
theorem HS {f fe:FuncId} (h:Has P f (kz fe)) (x y:CX) (hp:∀ u v,(u,v)∈[(x.a,y.a),(x.b,y.b),(x.c,y.c)]->VP P G fe [V2 u,V2 v] (.bool (decide (u=v)))):VP P G f [x.av,y.av] (.bool (x.same y)):=by
 have h1:=hp x.a y.a (by simp)
 have h2:=hp x.b y.b (by simp)
 have h3:=hp x.c y.c (by simp)
 have e1:∀ a b:Bool,(!(a==b))=true->(a==b)=false:=by decide
 unfold CX.same
 refine VP.has h ?_
 simp only [kz]
 rcases Bool.eq_false_or_eq_true (x.Aj==y.Aj) with c1 | c1
 . cases c2:decide (x.a=y.a)<;>cases c3:decide (x.b=y.b)<;>cases c4:x.Aj<;>cases c5:decide (x.c=y.c)<;>rw [c2] at h1<;>rw [c3] at h2<;>rw [c5] at h3<;>rw [c4] at c1
   all_goals
     repeat (first
       | simp (disch:=first | decide | exact rfl) only [SS,Nat.reduceAdd,aq,ao,B6,JV,JW,JX,Ng,Wn,c1,c4,Bool.true_and,Bool.false_and,Bool.true_or,Bool.false_or]
       | with_reducible refine ah (by assumption) (by simp [aJ]) ?_
       | with_reducible refine ak (by assumption) (by simp [aJ]) ?_
       | with_reducible refine And.intro (a:=ab _ _) (by simp [ab,apart]) ?_
       | with_reducible refine VW.aC 3 (VW.of ?_)
       | with_reducible refine bY.next _ (VW.of ?_)
       | rw [aj (by exact rfl) (by exact rfl) (by exact rfl) (by exact rfl) (by exact rfl)]
       | rw [bZ (by exact rfl) (by exact rfl) (by exact rfl) (by exact rfl)]
       | rw [b6 (by exact rfl) (by exact rfl) (by exact rfl) (by exact rfl) (by exact rfl) (by exact rfl)]
       | fail)
     exact ai▸ae (by first | rfl | (simp only [RS,aX,a9];simp [c1])) (aa.bool _)
 . skip
   repeat (first
     | simp (disch:=first | decide | exact rfl) only [SS,Nat.reduceAdd,aq,ao,B6,JV,c1,Bool.false_and]
     | with_reducible refine ah (by assumption) (by simp [aJ]) ?_
     | with_reducible refine ak (by assumption) (by simp [aJ]) ?_
     | with_reducible refine And.intro (a:=ab _ _) (by simp [ab,apart]) ?_
     | with_reducible refine VW.aC 3 (VW.of ?_)
     | with_reducible refine bY.next _ (VW.of ?_)
     | rw [aj (by exact rfl) (by exact rfl) (by exact rfl) (by exact rfl) (by exact rfl)]
     | rw [bZ (by exact rfl) (by exact rfl) (by exact rfl) (by exact rfl)]
     | rw [b6 (by exact rfl) (by exact rfl) (by exact rfl) (by exact rfl) (by exact rfl) (by exact rfl)]
     | fail)
   exact ai▸ae rfl (aa.bool _)
end
end Go.VL
end

section
set_option linter.unusedVariables false
set_option linter.unusedVariables false
set_option maxRecDepth 100000
namespace Go.VL
open Go.Lib
structure DX where
 Aj:Bool
 cw:Bool
 a:Int × Int
 b:Int × Int
 step:Nat
 unit:Nat
def ok8 (p:Int × Int):Prop := -128<=p.1/\p.1<128 /\ -128<=p.2/\p.2<128
def DX.Ok (d:DX):Prop:=ok8 d.a/\ok8 d.b/\d.step<256/\d.unit<256
def I2 (p:Int × Int):AV := .agg [.int .i8 p.1, .int .i8 p.2]
def DX.av (d:DX):AV := .agg [.bool d.Aj, .bool d.cw, .int .i8 d.a.1, .int .i8 d.a.2, .int .i8 d.b.1, .int .i8 d.b.2, .int .u8 d.step, .int .u8 d.unit]
def aaX:List (Int × Int × Nat):=[(1,0,1),(3,4,5),(0,1,1),(-1,0,1),(0, -1,1),(4,3,5),(-3,4,5),(-4,3,5),(-4, -3,5),(-3, -4,5),(3, -4,5),(4, -3,5),(5,12,13),(12,5,13),(-5,12,13),(24,7,25)]
def wv (k:Nat):Q2:=match aaX[k]? with | some (a,b,c)=>((a:Rat)/((c:Int):Rat),(b:Rat)/((c:Int):Rat)) | none=>(0,0)
def wz (p:Int × Int) (u:Nat):Q2:=((p.1:Rat)/(((u%4+1:Nat):Int):Rat),(p.2:Rat)/(((u%4+1:Nat):Int):Rat))
def DX.ib (d:DX):CX :=
 if d.Aj then
   ⟨true,wz d.b d.unit,kS (wz d.a d.unit) (kS (iA (eR (wz d.b d.unit) (wz d.a d.unit)) (wv (d.step%16)).1) (iA (-(eR (wz d.b d.unit) (wz d.a d.unit)).2,(eR (wz d.b d.unit) (wz d.a d.unit)).1) (wv (d.step%16)).2)),wz d.a d.unit,d.cw⟩
 else ⟨false,wz d.a d.unit,wz d.b d.unit,(0,0),d.cw⟩
theorem nI (d:DX):aa d.av:=aa.agg (by simp [aa.bool,aa.int])
theorem KZ (p:Int × Int):aa (I2 p):=aa.agg (by simp [aa.int])
theorem Wp (d:DX):(d.av.cells.all AV.one=true)=True:=by simp [DX.av,AV.cells,AV.one]
theorem K1 (d:DX):part true d.av.cells 0 8=some d.av:=rfl
theorem aaY (d:DX):part false d.av.cells 0 1=some (.bool d.Aj):=rfl
theorem aaZ (d:DX):part false d.av.cells 1 1=some (.bool d.cw):=rfl
theorem aa0 (d:DX):part true d.av.cells 2 2=some (I2 d.a):=rfl
theorem aa1 (d:DX):part true d.av.cells 4 2=some (I2 d.b):=rfl
theorem afF (d:DX):part false d.av.cells 6 1=some (.int .u8 d.step):=rfl
theorem aa2 (d:DX):part false d.av.cells 7 1=some (.int .u8 d.unit):=rfl
theorem acF (p:Int × Int):((I2 p).cells.all AV.one=true)=True:=by simp [I2,AV.cells,AV.one]
theorem afG (p:Int × Int):part false (I2 p).cells 0 1=some (.int .i8 p.1):=rfl
theorem afH (p:Int × Int):part false (I2 p).cells 1 1=some (.int .i8 p.2):=rfl
theorem Zu (a b c:Int):jq [.int .i64 0, .int .i64 0, .int .i64 0] [(0,(1, .int .i64 a)),(1,(1, .int .i64 b)),(2,(1, .int .i64 c))]=some [.int .i64 a, .int .i64 b, .int .i64 c]:=rfl
def Wq:List AV:=[.int .i64 1, .int .i64 0, .int .i64 1, .int .i64 3, .int .i64 4, .int .i64 5, .int .i64 0, .int .i64 1, .int .i64 1, .int .i64 (-1), .int .i64 0, .int .i64 1, .int .i64 0, .int .i64 (-1), .int .i64 1, .int .i64 4, .int .i64 3, .int .i64 5, .int .i64 (-3), .int .i64 4, .int .i64 5, .int .i64 (-4), .int .i64 3, .int .i64 5, .int .i64 (-4), .int .i64 (-3), .int .i64 5, .int .i64 (-3), .int .i64 (-4), .int .i64 5, .int .i64 3, .int .i64 (-4), .int .i64 5, .int .i64 4, .int .i64 (-3), .int .i64 5, .int .i64 5, .int .i64 12, .int .i64 13, .int .i64 12, .int .i64 5, .int .i64 13, .int .i64 (-5), .int .i64 12, .int .i64 13, .int .i64 24, .int .i64 7, .int .i64 25]
theorem Pc {z r:List AV} {ps:List (Nat × Nat × AV)} (h:jq z ps=some r):jq z ps=some r:=h
theorem ai2 {k:Nat} (h:k<16):k=0∨k=1∨k=2∨k=3∨k=4∨k=5∨k=6∨k=7∨k=8∨k=9∨k=10∨k=11∨k=12∨k=13∨k=14∨k=15:=by omega
theorem JZ {k:Nat} (h:k<16):∃ a b c,aaX[k]? = some (a,b,c)/\c≠0/\c<=25 /\ -25<=a/\a<=25 /\ -25<=b/\b<=25/\part true (AV.agg Wq).cells (k*3) 3=some (.agg [.int .i64 a, .int .i64 b, .int .i64 (c:Int)]):=by
 rcases ai2 h with rfl | rfl | rfl | rfl | rfl | rfl | rfl | rfl | rfl | rfl | rfl | rfl | rfl | rfl | rfl | rfl<;>exact ⟨_,_,_,rfl,by decide,by decide,by decide,by decide,by decide,by decide,rfl⟩
theorem Ws:((-1-0:Int) = -1)/\((-1-2:Int) = -3)/\((-1-3:Int) = -4)/\((-1-4:Int) = -5):=by decide
theorem ia2 {id:Id}:oi 2 1 (.ref id 0 0) (.int .i64 0)=some (.ref id 0 0)/\oi 2 1 (.ref id 0 0) (.int .i64 1)=some (.ref id 0 1):=⟨rfl,rfl⟩
theorem ia3 {id:Id}:oi 3 1 (.ref id 0 0) (.int .i64 0)=some (.ref id 0 0)/\oi 3 1 (.ref id 0 0) (.int .i64 1)=some (.ref id 0 1)/\oi 3 1 (.ref id 0 0) (.int .i64 2)=some (.ref id 0 2):=⟨rfl,rfl,rfl⟩
def Wt (P:Program) (G:Nat->Option (List AV)) (f:FuncId):Prop:=∀ (a:Int) (b:Nat),b≠0->b<=1000 -> -1000<=a->a<=1000->VP P G f [.int .i64 a, .int .i64 (b:Int)] (QV ((a:Rat)/((b:Int):Rat)))
section
variable {P:Program} {G:Nat->Option (List AV)}
theorem Zv {f fF fM:FuncId} (h:Has P f (nd fF fM)) (hF:Wt P G fF) (hM:∀ v:Q2,VP P G fM [QV v.1,QV v.2] (V2 v)) (p:Int × Int) (hp:ok8 p) (u:Nat) (hu:u<256):VP P G f [I2 p, .int .u8 (u:Int)] (V2 (wz p u)):=by
 obtain ⟨q1,q2,q3,q4⟩:=hp
 have r1:bR .rem .int (.int .u8 (u:Int)) (.int .u8 4)=some (.int .u8 ((u%4:Nat):Int)):=by
   show some (AV.int .u8 ((u:Int).tmod 4))=_
   rw [Int.tmod_eq_emod_of_nonneg (by omega)];rfl
 have r2:IntKind.i64.wrap ((u%4:Nat):Int)=((u%4:Nat):Int):=by rw [IntKind.wrap_i64];omega
 have r3:IntKind.i64.wrap (((u%4:Nat):Int)+1)=((u%4+1:Nat):Int):=by rw [IntKind.wrap_i64];omega
 have r4:IntKind.i64.wrap p.1=p.1:=by rw [IntKind.wrap_i64];omega
 have r5:IntKind.i64.wrap p.2=p.2:=by rw [IntKind.wrap_i64];omega
 have f1:=hF p.1 (u%4+1) (by omega) (by omega) (by omega) (by omega)
 have f2:=hF p.2 (u%4+1) (by omega) (by omega) (by omega) (by omega)
 have m1:VP P G fM _ _:=hM (wz p u)
 simp only [wz] at m1
 refine VP.has h ?_
 simp only [nd]
 repeat (first
   | simp (disch:=first | decide | exact rfl) only [SS,DD,Nat.reduceAdd,aq,ao,acF,afG,afH,ia2,dr,r1,r2,r3,r4,r5]
   | with_reducible refine ah (by assumption) (by simp [aA]) ?_
   | with_reducible refine ak (by assumption) (by simp [aA,aa.int]) ?_
   | with_reducible refine And.intro (a:=ab _ _) (by simp [ab,apart]) ?_
   | with_reducible refine VW.aC 3 (VW.of ?_)
   | with_reducible refine bY.next _ (VW.of ?_)
   | rw [aj (by exact rfl) (by exact rfl) (by exact rfl) (by exact rfl) (by exact rfl)]
   | rw [bZ (by exact rfl) (by exact rfl) (by exact rfl) (by exact rfl)]
   | rw [b6 (by exact rfl) (by exact rfl) (by exact rfl) (by exact rfl) (by exact rfl) (by exact rfl)]
   | fail)
 refine ai▸ae (r:=V2 (wz p u)) ?_ (aJ _)
 simp (disch:=decide) only [RS,aX,a9,ao,dK,wz]
set_option maxHeartbeats 4000000 in
theorem Th {f fF fM:FuncId} (h:Has P f (lu fF fM)) (hF:Wt P G fF) (hM:∀ v:Q2,VP P G fM [QV v.1,QV v.2] (V2 v)) (n:Nat) (hn:n<256):VP P G f [.int .u8 (n:Int)] (V2 (wv (n%16))):=by
 have r1:bR .rem .int (.int .u8 (n:Int)) (.int .u8 16)=some (.int .u8 ((n%16:Nat):Int)):=by
   show some (AV.int .u8 ((n:Int).tmod 16))=_
   rw [Int.tmod_eq_emod_of_nonneg (by omega)];rfl
 have hk:n%16<16:=Nat.mod_lt _ (by decide)
 generalize n%16=k at *
 have ia:∀ id:Id,oi 16 3 (.ref id 0 0) (.int .u8 (k:Int))=some (.ref id 0 (k*3)):=fun id=>by
   simp only [oi];rw [if_pos ⟨by omega,by omega⟩];simp
 obtain ⟨a,b,c,hu,c0,c1,a1,a2,b1,b2,hpt⟩:=JZ hk
 have f1:=hF a c c0 (by omega) (by omega) (by omega)
 have f2:=hF b c c0 (by omega) (by omega) (by omega)
 have m1:=hM (wv k)
 have e:wv k=((a:Rat)/((c:Int):Rat),(b:Rat)/((c:Int):Rat)):=by unfold wv;rw [hu]
 rw [e] at m1 ⊢
 simp only [] at m1
 have z1:((AV.cells (.agg [.int .i64 0, .int .i64 0, .int .i64 0])).all AV.one=true)=True:=by simp [AV.cells,AV.one]
 have z2:((AV.cells (.agg [.int .i64 a, .int .i64 b, .int .i64 (c:Int)])).all AV.one=true)=True:=by simp [AV.cells,AV.one]
 have p0:part false (AV.cells (.agg [.int .i64 a, .int .i64 b, .int .i64 (c:Int)])) 0 1=some (.int .i64 a):=rfl
 have p1:part false (AV.cells (.agg [.int .i64 a, .int .i64 b, .int .i64 (c:Int)])) 1 1=some (.int .i64 b):=rfl
 have p2:part false (AV.cells (.agg [.int .i64 a, .int .i64 b, .int .i64 (c:Int)])) 2 1=some (.int .i64 (c:Int)):=rfl
 refine VP.has h ?_
 simp only [lu,Ws]
 repeat (first
   | simp (disch:=first | decide | exact rfl) only [SS,DD,Nat.reduceAdd,ao,Zu,r1,ia,ia3,dr,hpt,z1,p0,p1,p2]
   | with_reducible refine ah (by assumption) (by simp [aA]) ?_
   | with_reducible refine ak (by assumption) (by simp [aA,aa.int]) ?_
   | with_reducible refine And.intro (a:=ab _ _) (by simp [ab,apart]) ?_
   | with_reducible refine VW.aC 3 (VW.of ?_)
   | with_reducible refine bY.next _ (VW.of ?_)
   | rw [aj (by exact rfl) (by exact rfl) (by exact rfl) (by exact rfl) (by exact rfl)]
   | rw [bZ (by exact rfl) (by exact rfl) (by exact rfl) (by exact rfl)]
   | rw [b6 (by exact rfl) (by exact rfl) (by exact rfl) (by exact rfl) (by exact rfl) (by exact rfl)]
   | rw [Pc (r:=Wq) (by exact rfl)]
   | rw [if_pos (by exact rfl)]
   | fail)
 refine ai▸ae (r:=V2 ((a:Rat)/((c:Int):Rat),(b:Rat)/((c:Int):Rat))) ?_ (aJ _)
 simp (disch:=decide) only [RS,aX,a9,ao,dK]
end
end Go.VL
end

section
namespace Go.VL
def Ak {α : Type} (l:List α) (p : α -> Bool) (i:Nat):Prop:=∀ (j:Nat) y,j<i->l[j]? = some y->p y=false
theorem Ak.any {α : Type} {l:List α} {p : α -> Bool} {i:Nat} (h:Ak l p i) (hi:l.length<=i):l.any p=false:=by
 rw [List.any_eq_false]
 intro x hx
 obtain ⟨j,hj⟩:=List.getElem?_of_mem hx
 rw [h j x (by have:=(List.getElem?_eq_some_iff.1 hj).1;omega) hj];simp
theorem Al {α : Type} {l:List α} {p : α -> Bool} {i:Nat} {x : α} (hx:l[i]? = some x) (hp:p x=true):l.any p=true:=List.any_eq_true.2 ⟨x,List.mem_of_getElem? hx,hp⟩
theorem Ak.succ {α : Type} {l:List α} {p : α -> Bool} {i:Nat} {x : α} (h:Ak l p i) (hx:l[i]? = some x) (hp:p x=false):Ak l p (i+1):=by
 intro j y hj hy
 rcases (by omega:j<i∨j=i) with e | rfl
 . exact h j y e hy
 . rw [hx] at hy;simp only [Option.some.injEq] at hy;subst hy;exact hp
section
variable {P:Program} {G:Nat->Option (List AV)} {π : Id} {Q:bX->VS->Prop} {s:VS} {x:cy}
abbrev aa3 (G:Nat->Option (List AV)) (π : Id) {α : Type} (l:List α) (p : α -> Bool) (T:Nat->List AV) (σ : af) (i m:Nat) (Q:bX->VS->Prop):bX->VS->Prop :=
 Jl G π (fun y:Nat × Nat=>(⟨T y.1, σ,y.2⟩:VS)) (fun y=>y.1<=l.length/\Ak l p y.1) (fun y=>l.length-y.1) (i,m) Q
theorem VW.scan {α : Type} (l:List α) (p : α -> Bool) (T:Nat->List AV) (σ : af) (k0:Nat) (hw:Wk G π s ⟨T 0, σ,k0⟩)
   (h:∀ i m e,l[i]? = some e->i<l.length->Ak l p i->decide ((i:Int)<(l.length:Int))=true->yx P G π x (aa3 G π l p T σ i m Q) ⟨T i, σ,m⟩)
   (he:∀ m,Ak l p l.length->decide ((l.length:Int)<(l.length:Int))=false->yx P G π x (aa3 G π l p T σ l.length m Q) ⟨T l.length, σ,m⟩):VW P G π (.loop x) Q s:=by
 refine VW.ey (α := Nat × Nat) (fun y=>⟨T y.1, σ,y.2⟩) (fun y=>y.1<=l.length/\Ak l p y.1) (fun y=>l.length-y.1) (0,k0) hw ⟨Nat.zero_le _,fun j e hj=>absurd hj (Nat.not_lt_zero j)⟩ ?_
 rintro ⟨i,m⟩ ⟨hi,hn⟩
 simp only [] at hi hn
 by_cases hlt:i<l.length
 . exact h i m l[i] (by simp [hlt]) hlt hn (decide_eq_true (by omega))
 . have:i=l.length:=by omega
   subst this
   exact he m hn (decide_eq_false (by omega))
end
end Go.VL
end
